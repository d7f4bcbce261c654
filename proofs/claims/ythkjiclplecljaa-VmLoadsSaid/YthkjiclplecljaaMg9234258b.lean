/- An abstract machine for Go code without names of memory: values, objects under numbers, operations, code. -/
import Derived.LoopN
import Derived.Laws.BytesArg
import Derived.Laws.World
import Derived.Laws.Entries
import Derived.StillTail
import Derived.Deep.Quiet
import Derived.Laws.Cells
import Derived.Laws.Small
import Derived.Laws.Slices
import Derived.Laws.Strings
import Derived.Laws.Tables
import Derived.Laws.StructEq
import Derived.ChangeKeysEq
import Derived.Laws.Append
import Derived.Laws.IdiomStrings
import Derived.Laws.MakeOwn
namespace Go.Proofs.Ythkjiclplecljaa.Sym
open Go
set_option linter.unusedVariables false

/-- Package variables that nobody writes: their numbers, what they hold. -/
def globs : List (Nat × List Value) := []

/-- What a cell or a temporary holds: a value without memory; nothing that is known; a slice of what nobody writes any more; a pointer there; a pointer, or a slice, into a numbered object; a struct, a tuple; a function with what it caught. -/
inductive AV where
  | v (x : Value)
  | dead
  | shr (n : Nat) (cl : Bool) (xs : List AV)
  | iptr (xs : List AV) (off : Nat)
  | ptr (k off : Nat)
  | view (k off n sz : Nat) (c : Option Nat)
  | agg (cs : List AV)
  | tup (cs : List AV)
  | fn (f : Nat) (cs : List AV)

instance : Inhabited AV := ⟨.dead⟩

/-- A block: is it still there (under this number), is it of this call, has it no mark of memory in it, what it holds. -/
structure Obj where
  live : Bool
  fresh : Bool
  flat : Bool
  cells : List AV

abbrev Env := List (Nat × AV)

/-- An operand. -/
inductive AX where
  | t (i : Nat)
  | c (a : AV)

/-- Values without memory. -/
def pl : Value → Bool
  | .bool _ | .int _ _ | .string _ | .pointer none | .slice none 0 0 | .nilFunc => true
  | _ => false
/-- May it stand in a cell? -/
def atom : AV → Bool
  | .v _ | .shr _ _ _ | .iptr _ _ | .ptr _ _ | .view _ _ _ _ _ => true
  | .fn _ cs => cs.isEmpty
  | _ => false
/-- No mark of an object in it. -/
def flat0 : AV → Bool
  | .v _ | .shr _ _ _ | .iptr _ _ => true
  | _ => false
def refs0 : AV → List Nat
  | .ptr k _ => [k]
  | .view k _ _ _ _ => [k]
  | _ => []
def refs1 : AV → List Nat
  | .agg cs => cs.flatMap refs0
  | .fn _ cs => cs.flatMap refs0
  | a => refs0 a
def refs : AV → List Nat
  | .tup cs => cs.flatMap refs1
  | a => refs1 a
def ren0 (f : Nat → Nat) : AV → AV
  | .ptr k o => .ptr (f k) o
  | .view k o n s c => .view (f k) o n s c
  | a => a
def ren1 (f : Nat → Nat) : AV → AV
  | .agg cs => .agg (cs.map (ren0 f))
  | .fn g cs => .fn g (cs.map (ren0 f))
  | a => ren0 f a
def ren (f : Nat → Nat) : AV → AV
  | .tup cs => .tup (cs.map (ren1 f))
  | a => ren1 f a
def cellsOf : AV → List AV
  | .agg cs => cs
  | a => [a]

def get : Env → Nat → Option AV
  | [], _ => none
  | (j, a) :: e, i => if i = j then some a else get e i
def ev (e : Env) : AX → Option AV
  | .t i => get e i
  | .c a => some a
def evs (e : Env) : List AX → Option (List AV)
  | [] => some []
  | x :: xs => (ev e x).bind fun a => (evs e xs).bind fun as => some (a :: as)
def getO (Ω : List Obj) (k : Nat) : Option Obj := match Ω[k]? with
  | some o => if o.live = true then some o else none
  | none => none
def putL : List AV → Nat → List AV → List AV
  | xs, _, [] => xs
  | xs, i, c :: cs => putL (xs.set i c) (i + 1) cs

/-! ### operations that leave memory alone -/
def bitsV (op : BinOp) (k : IntKind) (x y : Int) : Int := k.wrap (match op with
  | .and => ((BitVec.ofInt k.bits x &&& BitVec.ofInt k.bits y).toNat : Int)
  | .or => ((BitVec.ofInt k.bits x ||| BitVec.ofInt k.bits y).toNat : Int)
  | .xor => ((BitVec.ofInt k.bits x ^^^ BitVec.ofInt k.bits y).toNat : Int)
  | _ => ((BitVec.ofInt k.bits x &&& ~~~ BitVec.ofInt k.bits y).toNat : Int))
def aInt (op : BinOp) (k : IntKind) (a b : Int) : Option AV :=
  match op with
  | .add => some (.v (.int k (k.wrap (a + b))))
  | .sub => some (.v (.int k (k.wrap (a - b))))
  | .mul => some (.v (.int k (k.wrap (a * b))))
  | .quo => if b = 0 then none else some (.v (.int k (k.wrap (a.tdiv b))))
  | .rem => if b = 0 then none else some (.v (.int k (a.tmod b)))
  | .and => some (.v (.int k (bitsV .and k a b)))
  | .or => some (.v (.int k (bitsV .or k a b)))
  | .xor => some (.v (.int k (bitsV .xor k a b)))
  | .andNot => some (.v (.int k (bitsV .andNot k a b)))
  | .eql => some (.v (.bool (a == b)))
  | .neq => some (.v (.bool (a != b)))
  | .lss => some (.v (.bool (decide (a < b))))
  | .leq => some (.v (.bool (decide (a ≤ b))))
  | .gtr => some (.v (.bool (decide (b < a))))
  | .geq => some (.v (.bool (decide (b ≤ a))))
  | .shl => if b < 0 then none else some (.v (.int k (k.wrap (a * 2 ^ min b.toNat k.bits))))
  | .shr => if b < 0 then none else some (.v (.int k (a.fdiv (2 ^ min b.toNat k.bits))))
def isShift : BinOp → Bool
  | .shl | .shr => true
  | _ => false
def aBin (op : BinOp) : AV → AV → Option AV
  | .v (.int k a), .v (.int k' b) => if (isShift op || k == k') = true then aInt op k a b else none
  | .v (.string a), .v (.string b) =>
    match op with
    | .add => if a.size + b.size ≤ 9223372036854775807 then some (.v (.string (a ++ b))) else none
    | .eql => some (.v (.bool (decide (a = b))))
    | .neq => some (.v (.bool (!decide (a = b))))
    | .lss => some (.v (.bool (Op.bytesLess a.toList b.toList)))
    | _ => none
  | _, _ => none
/-- '==' of bools; of pointers against nil; of slices against nil. -/
def aEqB : AV → AV → Option Bool
  | .v (.bool a), .v (.bool b) => some (a == b)
  | _, _ => none
def aEqP : AV → AV → Option Bool
  | .v (.pointer none), .v (.pointer none) => some true
  | .v (.pointer none), .ptr _ _ => some false
  | .ptr _ _, .v (.pointer none) => some false
  | _, _ => none
def aEqS : AV → AV → Option Bool
  | .v (.slice none 0 0), .v (.slice none 0 0) => some true
  | .view _ _ (_ + 1) _ _, .v (.slice none 0 0) => some false
  | .shr (_ + 1) _ _, .v (.slice none 0 0) => some false
  | _, _ => none
/-- Kinds of what is compared in a struct. -/
inductive LK where
  | b | i | s
def leafEq : LK → AV → AV → Option Bool
  | .i, .v (.int k a), .v (.int k' b) => if k = k' then some (a == b) else none
  | .b, .v (.bool a), .v (.bool b) => some (a == b)
  | .s, .v (.string a), .v (.string b) => some (decide (a = b))
  | _, _, _ => none
def leavesEq (xs ys : List AV) : List (Nat × LK) → Option Bool
  | [] => some true
  | (i, k) :: is => match xs[i]?, ys[i]? with
    | some x, some y => (leafEq k x y).bind fun b => (leavesEq xs ys is).map fun c => b && c
    | _, _ => none
def aUn : UnOp → AV → Option AV
  | .neg, .v (.int k n) => some (.v (.int k (k.wrap (0 - n))))
  | .xor, .v (.int k n) => some (.v (.int k (bitsV .xor k (if k.signed then -1 else k.max) n)))
  | .not, .v (.bool b) => some (.v (.bool !b))
  | _, _ => none
def rd (xs : List AV) (off : Nat) : Option Nat → Option AV
  | none => xs[off]?
  | some m => if off + m ≤ xs.length then some (.agg ((xs.drop off).take m)) else none
def aLoad (Ω : List Obj) (m : Option Nat) : AV → Option AV
  | .ptr k off => (getO Ω k).bind fun o => rd o.cells off m
  | .iptr xs off => rd xs off m
  | _ => none
def aField (off : Nat) (m : Option Nat) : AV → Option AV
  | .agg cs => rd cs off m
  | _ => none
def aFad (off : Nat) : AV → Option AV
  | .ptr k o => some (.ptr k (o + off))
  | .iptr xs o => some (.iptr xs (o + off))
  | _ => none
def aNilck : AV → Option AV
  | .ptr k o => some (.ptr k o)
  | .iptr xs o => some (.iptr xs o)
  | _ => none
def asI : AV → Option Int
  | .v (.int _ i) => some i
  | _ => none
/-- The address of an element of a slice (esz cells each). -/
def aIxS (esz : Nat) (x i : AV) : Option AV :=
  (asI i).bind fun i => match x with
  | .view k off n _ _ => if 0 ≤ i ∧ i < n then some (.ptr k (off + i.toNat * esz)) else none
  | .shr n _ xs => if 0 ≤ i ∧ i < n then some (.iptr xs (i.toNat * esz)) else none
  | _ => none
def aIxA (len esz : Nat) (x i : AV) : Option AV :=
  (asI i).bind fun i => if 0 ≤ i ∧ i < len then aFad (i.toNat * esz) x else none
def aIxStr (x i : AV) : Option AV :=
  (asI i).bind fun i => match x with
  | .v (.string s) => if h : 0 ≤ i ∧ i.toNat < s.size then some (.v (.int .u8 ((s[i.toNat]'h.2).toNat : Int))) else none
  | _ => none
def aIxV (len esz : Nat) (m : Option Nat) (x i : AV) : Option AV :=
  (asI i).bind fun i => if 0 ≤ i ∧ i < len then aField (i.toNat * esz) m x else none
def aExt (i : Nat) : AV → Option AV
  | .tup vs => vs[i]?
  | _ => none
def aPick : AV → AV → AV → Option AV
  | .v (.bool c), a, b => some (if c = true then a else b)
  | _, _, _ => none
def aCvi (k : IntKind) : AV → Option AV
  | .v (.int _ n) => some (.v (.int k (k.wrap n)))
  | _ => none
def aCvs : AV → Option AV
  | .v (.string s) => some (.v (.string s))
  | _ => none
def aLenS : AV → Option AV
  | .v (.string s) => some (.v (.int .i64 s.size))
  | _ => none
def aLen : AV → Option AV
  | .v (.slice none 0 0) => some (.v (.int .i64 0))
  | .view _ _ n _ _ => some (.v (.int .i64 n))
  | .shr n _ _ => some (.v (.int .i64 n))
  | _ => none
def aMin2 : AV → AV → Option AV
  | .v (.int k x), .v (.int _ y) => some (.v (.int k (if y < x then y else x)))
  | _, _ => none
def aMax2 : AV → AV → Option AV
  | .v (.int k x), .v (.int _ y) => some (.v (.int k (if x < y then y else x)))
  | _, _ => none
def aFoldL (f : AV → AV → Option AV) : AV → List AV → Option AV
  | a, [] => some a
  | a, b :: r => (f a b).bind fun c => aFoldL f c r
def aFold (f : AV → AV → Option AV) : List AV → Option AV
  | [] => none
  | a :: r => aFoldL f a r
/-- An optional bound. -/
def bnd : Option AV → Nat → Option Nat
  | none, d => some d
  | some a, _ => (asI a).bind fun i => if 0 ≤ i then some i.toNat else none
def aSlStr (x : AV) (lo hi : Option AV) : Option AV :=
  match x with
  | .v (.string s) => (bnd hi s.size).bind fun h => (bnd lo 0).bind fun l => if l ≤ h ∧ h ≤ s.size then some (.v (.string (s.extract l h))) else none
  | _ => none
def aSlS (Ω : List Obj) (esz : Nat) (x : AV) (lo hi mx : Option AV) : Option AV :=
  match x with
  | .v (.slice none 0 0) => (bnd hi 0).bind fun h => (bnd lo 0).bind fun l => (bnd mx 0).bind fun m => if l ≤ h ∧ h ≤ m ∧ m ≤ 0 then some (.v (.slice none 0 0)) else none
  | .view k off n sz c => (bnd hi n).bind fun h => (bnd lo 0).bind fun l =>
    match mx with
    | some a => (bnd (some a) 0).bind fun m => if l ≤ h ∧ h ≤ m ∧ m ≤ c.getD n ∧ sz = esz then some (.view k (off + l * esz) (h - l) esz (some (m - l))) else none
    | none => if l ≤ h ∧ h ≤ c.getD n ∧ sz = esz then some (.view k (off + l * esz) (h - l) esz (c.map (· - l))) else if l ≤ h ∧ c.isNone = true ∧ sz = esz ∧ 0 < esz then (getO Ω k).bind fun o => if off + h * esz ≤ o.cells.length then some (.view k (off + l * esz) (h - l) esz none) else none else none
  | .shr n cl xs => (bnd hi n).bind fun h => (bnd lo 0).bind fun l =>
    match mx with
    | some a => (bnd (some a) 0).bind fun m => if l ≤ h ∧ h ≤ m ∧ m ≤ n then some (.shr (h - l) (m == h) ((xs.drop (l * esz)).take ((h - l) * esz))) else none
    | none => if l ≤ h ∧ h ≤ n then some (.shr (h - l) (cl && h == n) ((xs.drop (l * esz)).take ((h - l) * esz))) else none
  | _ => none
/-- Parts laid into cells. -/
def fillL (cells : List AV) : List (Nat × Nat × AV) → Option (List AV)
  | [] => some cells
  | (off, size, a) :: r => if (cellsOf a).length = size ∧ off + size ≤ cells.length ∧ (cellsOf a).all atom = true then fillL (putL cells off (cellsOf a)) r else none

/-! ### operations -/
inductive AO where
  | mv (x : AX)
  | pick (c a b : AX)
  | bin (op : BinOp) (x y : AX)
  | eqb (neg : Bool) (x y : AX)
  | eqp (neg : Bool) (x y : AX)
  | eqs (neg : Bool) (x y : AX)
  | eqst (neg : Bool) (ls : List (Nat × LK)) (x y : AX)
  | un (op : UnOp) (x : AX)
  | load (m : Option Nat) (x : AX)
  | fld (off : Nat) (m : Option Nat) (x : AX)
  | fad (off : Nat) (x : AX)
  | nilck (x : AX)
  | ixs (esz : Nat) (x i : AX)
  | ixa (len esz : Nat) (x i : AX)
  | ixstr (x i : AX)
  | ixv (len esz : Nat) (m : Option Nat) (x i : AX)
  | ext (i : Nat) (x : AX)
  | cvi (k : IntKind) (x : AX)
  | cvs (x : AX)
  | len (x : AX)
  | lens (x : AX)
  | min (xs : List AX)
  | max (xs : List AX)
  | slstr (x : AX) (lo hi : Option AX)
  | sls (esz : Nat) (x : AX) (lo hi mx : Option AX)
  | build (zero : List AV) (parts : List (Nat × Nat × AX))
  | box (x : AX)
  | alloc (zero : List AV)
  | row (esz len : Nat) (zero : List AV) (parts : List (Nat × Nat × AX))
  | store (n : Nat) (a x : AX)
  | mks (esz bytes : Nat) (zero : List AV) (l c : AX)
  | app (esz bytes : Nat) (x y : AX)
  | cpy (esz : Nat) (x y : AX)
  | cvsb (x : AX)
  | cvbs (x : AX)
  | mkf (g : Nat) (xs : List AX)
  | clr (esz : Nat) (zero : List AV) (x : AX)
  | call (x : AX) (xs : List AX)

/-- What acts: 0, what looks at memory: 1, what does not: 2, what makes something: 3. -/
def clsOf : AO → Nat
  | .load _ _ | .cvbs _ => 1
  | .store _ _ _ | .app _ _ _ _ | .cpy _ _ _ | .clr _ _ _ | .call _ _ => 0
  | .box _ | .alloc _ | .row _ _ _ _ | .mks _ _ _ _ _ | .cvsb _ => 3
  | _ => 2

/-- The same, where a call of one that is not told to write leaves what was there: 4. -/
def clsV (hv : List Nat) : AO → Nat
  | .call (.c (.fn f _)) _ => if hv.contains f = true then 0 else if hv.contains (2000000 + f) = true then 5 else if hv.contains (3000000 + f) = true then 6 else 4
  | ao => clsOf ao
/-- How an operation of a region is taken: as it is; a call that leaves what was there; a call that leaves all as it was. -/
inductive QK where
  | o | m | s | f
def qk (n : Nat) : QK := if n = 4 then .m else if n = 5 then .s else if n = 6 then .f else .o

def evO (e : Env) : Option AX → Option (Option AV)
  | none => some none
  | some x => (ev e x).map some
def evP (e : Env) : List (Nat × Nat × AX) → Option (List (Nat × Nat × AV))
  | [] => some []
  | (o, s, x) :: r => (ev e x).bind fun a => (evP e r).bind fun as => some ((o, s, a) :: as)

/-- Bytes of cells. -/
def toNums : List AV → Option (List Int)
  | [] => some []
  | .v (.int .u8 n) :: r => (toNums r).bind fun l => some (n :: l)
  | _ :: _ => none

/-- What an operation that leaves memory alone yields. -/
def aq (e : Env) (Ω : List Obj) : AO → Option AV
  | .mv x => ev e x
  | .pick c a b => (ev e c).bind fun c => (ev e a).bind fun a => (ev e b).bind fun b => aPick c a b
  | .bin op x y => (ev e x).bind fun x => (ev e y).bind fun y => aBin op x y
  | .eqb neg x y => (ev e x).bind fun x => (ev e y).bind fun y => (aEqB x y).map fun b => .v (.bool (b != neg))
  | .eqp neg x y => (ev e x).bind fun x => (ev e y).bind fun y => (aEqP x y).map fun b => .v (.bool (b != neg))
  | .eqs neg x y => (ev e x).bind fun x => (ev e y).bind fun y => (aEqS x y).map fun b => .v (.bool (b != neg))
  | .eqst neg ls x y => (ev e x).bind fun x => (ev e y).bind fun y => match x, y with
    | .agg xs, .agg ys => (leavesEq xs ys ls).map fun b => .v (.bool (b != neg))
    | _, _ => none
  | .un op x => (ev e x).bind fun x => aUn op x
  | .load m x => (ev e x).bind fun x => aLoad Ω m x
  | .fld off m x => (ev e x).bind fun x => aField off m x
  | .fad off x => (ev e x).bind fun x => aFad off x
  | .nilck x => (ev e x).bind fun x => aNilck x
  | .ixs esz x i => (ev e x).bind fun x => (ev e i).bind fun i => aIxS esz x i
  | .ixa len esz x i => (ev e x).bind fun x => (ev e i).bind fun i => aIxA len esz x i
  | .ixstr x i => (ev e x).bind fun x => (ev e i).bind fun i => aIxStr x i
  | .ixv len esz m x i => (ev e x).bind fun x => (ev e i).bind fun i => aIxV len esz m x i
  | .ext i x => (ev e x).bind fun x => aExt i x
  | .cvi k x => (ev e x).bind fun x => aCvi k x
  | .cvs x => (ev e x).bind fun x => aCvs x
  | .len x => (ev e x).bind fun x => aLen x
  | .lens x => (ev e x).bind fun x => aLenS x
  | .min xs => (evs e xs).bind fun l => aFold aMin2 l
  | .max xs => (evs e xs).bind fun l => aFold aMax2 l
  | .slstr x lo hi => (ev e x).bind fun x => (evO e lo).bind fun lo => (evO e hi).bind fun hi => aSlStr x lo hi
  | .sls esz x lo hi mx => (ev e x).bind fun x => (evO e lo).bind fun lo => (evO e hi).bind fun hi => (evO e mx).bind fun mx => aSlS Ω esz x lo hi mx
  | .mkf g xs => (evs e xs).bind fun l => if l.all atom = true then some (.fn g l) else none
  | .build zero parts => (evP e parts).bind fun ps => (fillL zero ps).map .agg
  | .cvbs x => (ev e x).bind fun x => match x with
    | .v (.slice none 0 0) => some (.v (.string ByteArray.empty))
    | .shr n _ xs => if xs.length = n then (toNums xs).map fun l => .v (.string (strOfNums l)) else none
    | .view k off n sz _ => if sz = 1 then (getO Ω k).bind fun o => if off + n ≤ o.cells.length then (toNums ((o.cells.drop off).take n)).map fun l => .v (.string (strOfNums l)) else none else none
    | _ => none
  | _ => none

/-! ### operations that make or change memory -/
def newO (Ω : List Obj) (cells : List AV) : List Obj := Ω ++ [⟨true, true, cells.all flat0, cells⟩]
def kill (Ω : List Obj) (k : Nat) (o : Obj) : List Obj := Ω.set k { o with live := false }
def aStore (Ω : List Obj) (n : Nat) (a x : AV) : Option (List Obj × Bool) :=
  match a with
  | .ptr k off => (getO Ω k).bind fun o => if (cellsOf x).length = n ∧ (cellsOf x).all atom = true ∧ off + n ≤ o.cells.length then
      some (Ω.set k { o with flat := o.flat && (cellsOf x).all flat0, cells := putL o.cells off (cellsOf x) }, !o.fresh) else none
  | _ => none
def reps : Nat → List AV → List AV
  | 0, _ => []
  | n + 1, z => z ++ reps n z
/-- The cells of a slice's elements. -/
def elems (Ω : List Obj) (esz : Nat) : AV → Option (Nat × List AV)
  | .v (.slice none 0 0) => some (0, [])
  | .shr n _ xs => if xs.length = n * esz then some (n, xs) else none
  | .view k off n sz _ => if sz = esz then (getO Ω k).bind fun o => if off + n * esz ≤ o.cells.length then some (n, (o.cells.drop off).take (n * esz)) else none else none
  | _ => none
def strCells (s : ByteArray) : List AV := s.data.toList.map fun b => .v (.int .u8 (b.toNat : Int))
def elemsS (Ω : List Obj) (esz : Nat) : AV → Option (Nat × List AV)
  | .v (.string s) => if esz = 1 then some (s.size, strCells s) else none
  | a => elems Ω esz a
def aApp (Ω : List Obj) (esz bytes : Nat) (x y : AV) : Option (AV × List Obj × Bool) :=
  (elemsS Ω esz y).bind fun (m, ys) =>
  if ys.all atom = true then
  match x with
  | .v (.slice none 0 0) => if m = 0 then some (x, Ω, false) else
      if m * bytes ≤ 140737488355328 ∧ m ≤ 9223372036854775807 then some (.view Ω.length 0 m esz none, newO Ω ys, false) else none
  | .shr n cl xs => if m = 0 then some (x, Ω, false) else
      if cl = true ∧ xs.length = n * esz ∧ (n + m) * bytes ≤ 140737488355328 ∧ n + m ≤ 9223372036854775807 then some (.view Ω.length 0 (n + m) esz none, newO Ω (xs ++ ys), false) else none
  | .view k off n sz c => if m = 0 then some (x, Ω, false) else
      (getO Ω k).bind fun o =>
      if sz = esz ∧ off + n * esz ≤ o.cells.length ∧ (n + m) * bytes ≤ 140737488355328 ∧ n + m ≤ 9223372036854775807 then
        match c with
        | some cap =>
          if n + m ≤ cap then
            if off + (n + m) * esz ≤ o.cells.length then some (.view k off (n + m) esz (some cap), Ω.set k { o with flat := o.flat && ys.all flat0, cells := putL o.cells (off + n * esz) ys }, !o.fresh) else none
          else some (.view Ω.length 0 (n + m) esz none, newO Ω ((o.cells.drop off).take (n * esz) ++ ys), false)
        | none =>
          if off + (n + m) * esz ≤ o.cells.length then some (.view k off (n + m) esz none, Ω.set k { o with flat := o.flat && ys.all flat0, cells := putL o.cells (off + n * esz) ys }, !o.fresh)
          else some (.view Ω.length 0 (n + m) esz none, kill Ω k o ++ [⟨true, o.fresh, o.flat && ys.all flat0, (o.cells.drop off).take (n * esz) ++ ys⟩], !o.fresh)
      else none
  | _ => none
  else none
def aCpy (Ω : List Obj) (esz : Nat) (x y : AV) : Option (AV × List Obj × Bool) :=
  (elemsS Ω esz y).bind fun (m, ys) =>
  if ys.all atom = true then
  match x with
  | .v (.slice none 0 0) => some (.v (.int .i64 0), Ω, false)
  | .view k off n sz _ => (getO Ω k).bind fun o =>
      if sz = esz ∧ off + n * esz ≤ o.cells.length then
        some (.v (.int .i64 (Nat.min m n)), Ω.set k { o with flat := o.flat && (ys.take (Nat.min m n * esz)).all flat0, cells := putL o.cells off (ys.take (Nat.min m n * esz)) }, !o.fresh)
      else none
  | _ => none
  else none
/-- Elements made zero. -/
def aClr (Ω : List Obj) (esz : Nat) (zero : List AV) : AV → Option (List Obj × Bool)
  | .v (.slice none 0 0) => some (Ω, false)
  | .view k off n sz _ => (getO Ω k).bind fun o => if sz = esz ∧ off + n * esz ≤ o.cells.length then
      some (Ω.set k { o with flat := o.flat && (reps n zero).all flat0, cells := putL o.cells off (reps n zero) }, !o.fresh) else none
  | _ => none
def ae (e : Env) (Ω : List Obj) : AO → Option (AV × List Obj × Bool)
  | .box x => (ev e x).bind fun a => if (cellsOf a).all atom = true then some (.ptr Ω.length 0, newO Ω (cellsOf a), false) else none
  | .alloc zero => some (.ptr Ω.length 0, newO Ω zero, false)
  | .row esz len zero parts => (evP e parts).bind fun ps => (fillL (reps len zero) ps).bind fun cs => some (.view Ω.length 0 len esz (some len), newO Ω cs, false)
  | .store n a x => (ev e a).bind fun a => (ev e x).bind fun x => (aStore Ω n a x).map fun r => (.dead, r)
  | .mks esz bytes zero l c => (ev e l).bind fun l => (ev e c).bind fun c => (asI l).bind fun l => (asI c).bind fun c =>
      if 0 ≤ l ∧ l ≤ c ∧ c.toNat * bytes ≤ 140737488355328 ∧ c.toNat ≤ 9223372036854775807 then some (.view Ω.length 0 l.toNat esz (some c.toNat), newO Ω (reps c.toNat zero), false) else none
  | .app esz bytes x y => (ev e x).bind fun x => (ev e y).bind fun y => aApp Ω esz bytes x y
  | .cpy esz x y => (ev e x).bind fun x => (ev e y).bind fun y => aCpy Ω esz x y
  | .clr esz zero x => (ev e x).bind fun x => (aClr Ω esz zero x).map fun r => (.dead, r)
  | .cvsb x => (ev e x).bind fun x => match x with
    | .v (.string s) => some (.view Ω.length 0 s.size 1 none, newO Ω (strCells s), false)
    | _ => none
  | _ => none

/-! ### renumbering -/
/-- Is every part of a value one cell? -/
def ok1 : AV → Bool
  | .agg cs => cs.all atom
  | .fn _ cs => cs.all atom
  | a => atom a
def okv : AV → Bool
  | .tup cs => cs.all ok1
  | a => ok1 a
/-- What can be reached, in the order in which it is met; so many rounds. -/
def reach (Ω : List Obj) : Nat → List Nat → List Nat → Option (List Nat)
  | 0, _, _ => none
  | f + 1, [], seen => some seen
  | f + 1, k :: ks, seen => if seen.contains k = true then reach Ω f ks seen else
      match Ω[k]? with
      | some o => reach Ω f (ks ++ (if o.live = true then (if o.flat = true then [] else o.cells.flatMap refs0) else [])) (seen ++ [k])
      | none => none
def pos (ord : List Nat) (k : Nat) : Nat := ord.idxOf k
/-- An object under other numbers. -/
def renO (g : Nat → Nat) (o : Obj) : Obj := { o with cells := if o.live = true then (if o.flat = true then o.cells else o.cells.map (ren0 g)) else [] }
def dead0 : Obj := ⟨false, false, true, []⟩
def sub (Ω : List Obj) (ord : List Nat) (keep : Bool) : List Obj := ord.map fun k => let o := renO (pos ord) (Ω.getD k dead0); { o with fresh := o.fresh && keep }
def dedup : List Nat → List Nat → List Nat
  | [], acc => acc
  | k :: ks, acc => if acc.contains k = true then dedup ks acc else dedup ks (acc ++ [k])

/-! ### code -/
structure AOper where
  dst : Option Nat
  g : Option (Nat × Bool)
  op : AO

/-- Operations in some order; in either of two orders. -/
inductive AT where
  | nil
  | op (q : QK) (o : AOper) (t : AT)
  | alt (a b : AT)

inductive AC where
  | skip
  | ret
  | exit (id : Nat)
  | seq (a b : AC)
  | cond (x : AX) (a b : AC)
  | block (id : Nat) (b : AC)
  | loop (live : List Nat) (b : AC)
  | reg (ops : List AOper)
  | regq (ops : List AOper)
  | regt (n : Nat) (ops : List AOper)
  | regs (n : Nat) (ops : List AOper)
  | regm (ops : List (QK × AOper))
  | regx (t : AT)
  | drop (l : List Nat)

inductive RV where
  | t (i : Nat)
  | cell (i : Nat) (m : Option Nat)

structure AFn where
  np : Nat
  body : AC
  res : List RV
  frz : Bool
  up : Bool

/-- What a call gives: its value, the objects (those that the arguments lead to directly first); what became of memory: 0: nothing, 1: there is more, 2: what was there has changed. -/
structure Res where
  val : AV
  ob : List Obj
  d : Nat

structure St where
  env : Env
  ob : List Obj
  d : Nat
  rt : List Nat

def put (e : Env) (d : Option Nat) (a : AV) : Env := match d with
  | some d => (d, a) :: e
  | none => e
def lev (b : Bool) : Nat := if b = true then 2 else 1
/-- Where a callee's objects lie among the caller's: the first n under their numbers there, the others behind all. -/
def gmap (ord : List Nat) (n len : Nat) (j : Nat) : Nat := if j < n then ord.getD j 0 else len + (j - n)
def allFresh (Ω : List Obj) (ord : List Nat) : Bool := ord.all fun k => let o := Ω.getD k dead0; o.fresh || !o.live
def mergeO (Ω : List Obj) (ord : List Nat) (n : Nat) (o : Obj) : Obj := { renO (gmap ord n Ω.length) o with fresh := o.fresh || allFresh Ω ord }
def mergeOld (Ω : List Obj) (ord : List Nat) (n : Nat) (ob : List Obj) : Nat → List Obj → List Obj
  | _, [] => []
  | k, o :: os => (if ord.contains k = true then (if pos ord k < n then mergeO Ω ord n (ob.getD (pos ord k) dead0) else dead0) else o) :: mergeOld Ω ord n ob (k + 1) os
def mergeNew (Ω : List Obj) (ord : List Nat) (n : Nat) (ob : List Obj) : List Obj := (ob.drop n).map (mergeO Ω ord n)
/-- How calls answer: the function, how many objects the arguments lead to directly (they are the first ones), the arguments, the objects. -/
abbrev CT := Nat → Nat → List AV → List Obj → Option Res
def finishCall (Ω : List Obj) (ord : List Nat) (n : Nat) (r : Res) : Option (AV × List Obj × Nat) :=
  if okv r.val = true then
    if r.d ≤ 1 ∧ (refs r.val).all (fun j => decide (j < n)) = true then some (ren (gmap ord n Ω.length) r.val, Ω, r.d)
    else some (ren (gmap ord n Ω.length) r.val, mergeOld Ω ord n r.ob 0 Ω ++ mergeNew Ω ord n r.ob, if r.d = 2 ∧ allFresh Ω ord = false then 2 else 1)
  else none
def aCall (C : CT) (Ω : List Obj) (f : AV) (args : List AV) : Option (AV × List Obj × Nat) :=
  match f with
  | .fn g caps =>
    if (args ++ caps).all okv = true then
      (reach Ω 400 (dedup ((args ++ caps).flatMap refs) []) []).bind fun ord =>
      (C g (dedup ((args ++ caps).flatMap refs) []).length ((args ++ caps).map (ren (pos ord))) (sub Ω ord false)).bind fun r =>
      finishCall Ω ord (dedup ((args ++ caps).flatMap refs) []).length r
    else none
  | _ => none
/-- One operation: its value, the objects, the level. -/
def aop (C : CT) (e : Env) (Ω : List Obj) (o : AO) : Option (AV × List Obj × Nat) :=
  match o with
  | .call f xs => (ev e f).bind fun f => (evs e xs).bind fun as => aCall C Ω f as
  | o => match aq e Ω o with
    | some a => some (a, Ω, 0)
    | none => (ae e Ω o).map fun (a, Ω', d) => (a, Ω', lev d)
/-- Is an operation to be done? -/
def wants (e : Env) : Option (Nat × Bool) → Option Bool
  | none => some true
  | some (i, b) => match get e i with
    | some (.v (.bool c)) => some (c == b)
    | some .dead => some false
    | _ => none
def aops (C : CT) : List AOper → St → Option St
  | [], s => some s
  | o :: os, s => (wants s.env o.g).bind fun b =>
      if b = true then (aop C s.env s.ob o.op).bind fun (a, Ω, d) => aops C os { s with env := put s.env o.dst a, ob := Ω, d := max s.d d }
      else aops C os { s with env := put s.env o.dst .dead }
/-- A call that leaves what was there. -/
def aCallM (C : CT) (Ω : List Obj) (f : AV) (args : List AV) : Option (AV × List Obj × Nat) :=
  match f with
  | .fn g caps =>
    if (args ++ caps).all okv = true then
      (reach Ω 400 (dedup ((args ++ caps).flatMap refs) []) []).bind fun ord =>
      (C g (dedup ((args ++ caps).flatMap refs) []).length ((args ++ caps).map (ren (pos ord))) (sub Ω ord false)).bind fun r =>
      if r.d ≤ 1 then finishCall Ω ord (dedup ((args ++ caps).flatMap refs) []).length r else none
    else none
  | _ => none
/-- A value that tells all of itself. -/
def det0 : AV → Bool
  | .v _ => true
  | _ => false
def det : AV → Bool
  | .agg cs => cs.all det0
  | .tup cs => cs.all fun a => match a with
    | .agg ds => ds.all det0
    | a => det0 a
  | a => det0 a
/-- A call that changes nothing that was there, up to a level. -/
def aCallQ (C : CT) (m : Nat) (Ω : List Obj) (f : AV) (args : List AV) : Option AV :=
  match f with
  | .fn g caps =>
    if (args ++ caps).all okv = true then
      (reach Ω 400 (dedup ((args ++ caps).flatMap refs) []) []).bind fun ord =>
      (C g (dedup ((args ++ caps).flatMap refs) []).length ((args ++ caps).map (ren (pos ord))) (sub Ω ord false)).bind fun r =>
      if r.d ≤ m ∧ det r.val = true then some r.val else none
    else none
  | _ => none
def aopQ (C : CT) (m : Nat) (e : Env) (Ω : List Obj) (o : AO) : Option AV :=
  match o with
  | .call f xs => (ev e f).bind fun f => (evs e xs).bind fun as => aCallQ C m Ω f as
  | o => aq e Ω o
/-- A call that leaves all as it was, of whose value nothing more is known than what is told. -/
def aCallF (C : CT) (Ω : List Obj) (f : AV) (args : List AV) : Option AV :=
  match f with
  | .fn g caps =>
    if (args ++ caps).all okv = true then
      (reach Ω 400 (dedup ((args ++ caps).flatMap refs) []) []).bind fun ord =>
      (C g (dedup ((args ++ caps).flatMap refs) []).length ((args ++ caps).map (ren (pos ord))) (sub Ω ord false)).bind fun r =>
      if r.d = 0 ∧ flat0 r.val = true then some r.val else none
    else none
  | _ => none
def aopM (C : CT) (e : Env) (Ω : List Obj) (q : QK) (o : AO) : Option (AV × List Obj × Nat) :=
  match q with
  | .m => match o with
    | .call f xs => (ev e f).bind fun f => (evs e xs).bind fun as => aCallM C Ω f as
    | _ => none
  | .s => (aopQ C 0 e Ω o).map fun a => (a, Ω, 0)
  | .f => match o with
    | .call f xs => (ev e f).bind fun f => (evs e xs).bind fun as => (aCallF C Ω f as).map fun a => (a, Ω, 0)
    | _ => none
  | .o => aop C e Ω o
def aopsM (C : CT) : List (QK × AOper) → St → Option St
  | [], s => some s
  | (q, o) :: os, s => (wants s.env o.g).bind fun b =>
      if b = true then (aopM C s.env s.ob q o.op).bind fun (a, Ω, d) => aopsM C os { s with env := put s.env o.dst a, ob := Ω, d := max s.d d }
      else aopsM C os { s with env := put s.env o.dst .dead }
/-- Operations of which none changes what was there, up to a level. -/
def aopsQ (C : CT) (m : Nat) (Ω : List Obj) : List AOper → Env → Option Env
  | [], e => some e
  | o :: os, e => (wants e o.g).bind fun b =>
      if b = true then (aopQ C m e Ω o.op).bind fun a => aopsQ C m Ω os (put e o.dst a)
      else aopsQ C m Ω os (put e o.dst .dead)

/-! ### the same -/
def beqV : Value → Value → Bool
  | .bool a, .bool b => a == b
  | .int k a, .int k' b => decide (k = k') && decide (a = b)
  | .string a, .string b => decide (a = b)
  | .pointer none, .pointer none => true
  | .slice none 0 0, .slice none 0 0 => true
  | .nilFunc, .nilFunc => true
  | _, _ => false
theorem beqV_eq {a b : Value} (h : beqV a b = true) : a = b := by
  unfold beqV at h
  split at h <;> simp_all
mutual
def beqA : AV → AV → Bool
  | .v x, .v y => beqV x y
  | .dead, .dead => true
  | .shr n c xs, .shr m d ys => decide (n = m) && (decide (c = d) && beqL xs ys)
  | .iptr xs o, .iptr ys p => decide (o = p) && beqL xs ys
  | .ptr k o, .ptr l p => decide (k = l) && decide (o = p)
  | .view k o n s c, .view k' o' n' s' c' => decide (k = k') && (decide (o = o') && (decide (n = n') && (decide (s = s') && decide (c = c'))))
  | .agg xs, .agg ys => beqL xs ys
  | .tup xs, .tup ys => beqL xs ys
  | .fn f xs, .fn g ys => decide (f = g) && beqL xs ys
  | _, _ => false
def beqL : List AV → List AV → Bool
  | [], [] => true
  | a :: as, b :: bs => beqA a b && beqL as bs
  | _, _ => false
end
mutual
theorem beqA_eq : ∀ (a b : AV), beqA a b = true → a = b
  | .v x, b, h => by cases b <;> simp only [beqA, Bool.false_eq_true] at h; exact congrArg AV.v (beqV_eq h)
  | .dead, b, h => by cases b <;> simp only [beqA, Bool.false_eq_true] at h; rfl
  | .shr n c xs, b, h => by
    cases b <;> simp only [beqA, Bool.false_eq_true, Bool.and_eq_true, decide_eq_true_eq] at h
    obtain ⟨rfl, rfl, h⟩ := h
    rw [beqL_eq xs _ h]
  | .iptr xs o, b, h => by
    cases b <;> simp only [beqA, Bool.false_eq_true, Bool.and_eq_true, decide_eq_true_eq] at h
    obtain ⟨rfl, h⟩ := h
    rw [beqL_eq xs _ h]
  | .ptr k o, b, h => by
    cases b <;> simp only [beqA, Bool.false_eq_true, Bool.and_eq_true, decide_eq_true_eq] at h
    obtain ⟨rfl, rfl⟩ := h
    rfl
  | .view k o n s c, b, h => by
    cases b <;> simp only [beqA, Bool.false_eq_true, Bool.and_eq_true, decide_eq_true_eq] at h
    obtain ⟨rfl, rfl, rfl, rfl, rfl⟩ := h
    rfl
  | .agg xs, b, h => by
    cases b <;> simp only [beqA, Bool.false_eq_true] at h
    rw [beqL_eq xs _ h]
  | .tup xs, b, h => by
    cases b <;> simp only [beqA, Bool.false_eq_true] at h
    rw [beqL_eq xs _ h]
  | .fn f xs, b, h => by
    cases b <;> simp only [beqA, Bool.false_eq_true, Bool.and_eq_true, decide_eq_true_eq] at h
    obtain ⟨rfl, h⟩ := h
    rw [beqL_eq xs _ h]
theorem beqL_eq : ∀ (a b : List AV), beqL a b = true → a = b
  | [], [], _ => rfl
  | a :: as, [], h => by simp [beqL] at h
  | [], b :: bs, h => by simp [beqL] at h
  | a :: as, b :: bs, h => by
    simp only [beqL, Bool.and_eq_true] at h
    rw [beqA_eq a b h.1, beqL_eq as bs h.2]
end
noncomputable instance decAV : DecidableEq AV := fun a b => if h : beqA a b = true then isTrue (beqA_eq a b h) else Classical.propDecidable _
noncomputable instance decObj : DecidableEq Obj := fun a b => if h : a.live = b.live ∧ a.fresh = b.fresh ∧ a.flat = b.flat ∧ a.cells = b.cells then isTrue (by cases a; cases b; obtain ⟨h1, h2, h3, h4⟩ := h; cases h1; cases h2; cases h3; cases h4; rfl) else isFalse fun e => h (by subst e; exact ⟨rfl, rfl, rfl, rfl⟩)
def agreeK : List Nat → Env → Env → Prop
  | [], _, _ => True
  | k :: ks, e, e' => get e k = get e' k ∧ agreeK ks e e'
noncomputable instance decK : ∀ (ks : List Nat) (e e' : Env), Decidable (agreeK ks e e')
  | [], _, _ => isTrue trivial
  | k :: ks, e, e' => have := decK ks e e'; (inferInstance : Decidable (get e k = get e' k ∧ agreeK ks e e'))
def dstsT : AT → List Nat
  | .nil => []
  | .op _ o t => o.dst.toList ++ dstsT t
  | .alt a b => dstsT a ++ dstsT b
noncomputable def aexecT (C : CT) : AT → St → Option St
  | .nil, s => some s
  | .op q o t, s => (wants s.env o.g).bind fun b =>
      if b = true then (aopM C s.env s.ob q o.op).bind fun (a, Ω, d) => aexecT C t { s with env := put s.env o.dst a, ob := Ω, d := max s.d d }
      else aexecT C t { s with env := put s.env o.dst .dead }
  | .alt a b, s => (aexecT C a s).bind fun r => (aexecT C b s).bind fun r' =>
      if r.ob = r'.ob ∧ r.d = r'.d ∧ r.rt = r'.rt ∧ agreeK (dstsT a ++ dstsT b) r.env r'.env then some r else none

/-- The live temporaries and the roots under new numbers, all else forgotten. -/
def keepEnv (e : Env) : List Nat → Option Env
  | [] => some []
  | i :: is => (get e i).bind fun a => (keepEnv e is).bind fun r => some ((i, a) :: r)
def canon (live : List Nat) (s : St) : Option St :=
  (keepEnv s.env live).bind fun e =>
  if e.all (fun p => okv p.2) = true then
    (reach s.ob 400 (dedup (s.rt ++ e.flatMap fun p => refs p.2) []) []).bind fun ord =>
    some ⟨e.map fun p => (p.1, ren (pos ord) p.2), sub s.ob ord true, s.d, s.rt.map (pos ord)⟩
  else none

inductive AE where
  | normal
  | exit (id : Nat)
  | ret

def loopN (f : St → Option (AE × St)) (live : List Nat) : Nat → St → Option (AE × St)
  | 0, _ => none
  | n + 1, s => (canon live s).bind fun s => (f s).bind fun (x, s') => match x with
    | .normal => loopN f live n s'
    | x => some (x, s')
/-- Operations of which one, number n, writes to an object that the others do not look at. -/
def aStX (C : CT) (n m : Nat) (a x : AX) (ops : List AOper) (s : St) (k : Nat) (o : Obj) : Option St :=
  (aopsQ C 1 (kill s.ob k o) (ops.take n) s.env).bind fun e1 => (ev e1 a).bind fun a1 => (ev e1 x).bind fun x1 => match a1 with
    | .ptr k' off => if k' = k then (aStore s.ob m (.ptr k' off) x1).bind fun p => (aopsQ C 1 (kill s.ob k o) (ops.drop (n + 1)) e1).map fun e2 => { s with env := e2, ob := p.1, d := max s.d (lev p.2) } else none
    | _ => none
def aStK (C : CT) (n m : Nat) (a x : AX) (ops : List AOper) (s : St) (e0 : Env) : Option St := (ev e0 a).bind fun a0 => match a0 with
    | .ptr k _ => (getO s.ob k).bind fun o => aStX C n m a x ops s k o
    | _ => none
def aexecS (C : CT) (n : Nat) (ops : List AOper) (s : St) : Option St := match ops[n]? with
  | some ⟨none, none, .store m a x⟩ => (aopsQ C 1 s.ob (ops.take n) s.env).bind fun e0 => aStK C n m a x ops s e0
  | _ => none
/-- Without the temporaries of these ranges. -/
def dropE (lo hi : Nat) : Env → Env
  | [] => []
  | p :: e => if p.1 < lo then p :: dropE lo hi e else if hi < p.1 then p :: dropE lo hi e else dropE lo hi e
def dropR : List Nat → Env → Env
  | lo :: hi :: r, e => dropR r (dropE lo hi e)
  | _, e => e
/-- Rows of the call's own in what is handed back: nobody writes them any more. -/
def frz0 (Ω : List Obj) : AV → AV × List Obj
  | .view k off n sz c => match getO Ω k with
    | some o => if o.fresh = true ∧ o.flat = true ∧ off + n * sz ≤ o.cells.length then (.shr n (c == some n) ((o.cells.drop off).take (n * sz)), kill Ω k o) else (.view k off n sz c, Ω)
    | none => (.view k off n sz c, Ω)
  | a => (a, Ω)
/-- A row that is written no more, in the cell of an object that a temporary leads to. -/
def frzC (t off : Nat) (s : St) : St :=
  match get s.env t with
  | some (.ptr k o) => match getO s.ob k with
    | some ob => match ob.cells[o + off]? with
      | some (.view j off' n sz c) => if j = k then s else { s with ob := (frz0 s.ob (.view j off' n sz c)).2.set k { ob with cells := ob.cells.set (o + off) (frz0 s.ob (.view j off' n sz c)).1 } }
      | _ => s
    | none => s
  | _ => s
def frzE (t : Nat) (s : St) : St := match get s.env t with
  | some a => { s with env := put s.env (some t) (frz0 s.ob a).1, ob := (frz0 s.ob a).2 }
  | none => s
/-- A row that is written no more: the temporary behind the last range (with 100000 * (off + 1) added: the cell off of what it leads to). -/
def frzT : List Nat → St → St
  | [], s => s
  | [t], s => if t < 100000 then frzE t s else frzC (t % 100000) (t / 100000 - 1) s
  | _ :: _ :: r, s => frzT r s
noncomputable def aexec (C : CT) (lf : Nat) : AC → St → Option (AE × St)
  | .skip, s => some (.normal, s)
  | .ret, s => some (.ret, s)
  | .exit id, s => some (.exit id, s)
  | .seq a b, s => (aexec C lf a s).bind fun (x, s') => match x with
    | .normal => aexec C lf b s'
    | x => some (x, s')
  | .cond x a b, s => (ev s.env x).bind fun v => match v with
    | .v (.bool c) => if c = true then aexec C lf a s else aexec C lf b s
    | _ => none
  | .block id b, s => (aexec C lf b s).bind fun (x, s') => match x with
    | .exit j => if j = id then some (.normal, s') else some (.exit j, s')
    | x => some (x, s')
  | .loop live b, s => loopN (aexec C lf b) live lf s
  | .reg ops, s => (aops C ops s).map fun s' => (.normal, s')
  | .regq ops, s => (aopsQ C 1 s.ob ops s.env).map fun e => (.normal, { s with env := e, d := max s.d 1 })
  | .regm ops, s => (aopsM C ops { s with d := max s.d 1 }).map fun s' => (.normal, s')
  | .drop l, s => some (.normal, frzT l { s with env := dropR l s.env })
  | .regx t, s => (aexecT C t { s with d := max s.d 1 }).map fun s' => (.normal, s')
  | .regs n ops, s => (aexecS C n ops s).map fun s' => (.normal, s')
  | .regt n ops, s => (aopsQ C 0 s.ob (ops.take n) s.env).bind fun e => (aops C (ops.drop n) { s with env := e, d := max s.d 1 }).map fun s' => (.normal, s')

/-! ### results -/
def aRes (e : Env) (Ω : List Obj) : List RV → Option (List AV)
  | [] => some []
  | .t i :: r => (get e i).bind fun a => (aRes e Ω r).bind fun l => some (a :: l)
  | .cell i m :: r => (get e i).bind fun p => (aLoad Ω m p).bind fun a => (aRes e Ω r).bind fun l => some (a :: l)
def one : List AV → AV
  | [a] => a
  | l => .tup l
def frzL (Ω : List Obj) : List AV → List AV × List Obj
  | [] => ([], Ω)
  | a :: as => let (b, Ω') := frz0 Ω a; let (bs, Ω'') := frzL Ω' as; (b :: bs, Ω'')
def frz1 (Ω : List Obj) : AV → AV × List Obj
  | .agg cs => let (ds, Ω') := frzL Ω cs; (.agg ds, Ω')
  | a => frz0 Ω a
def frzM (Ω : List Obj) : List AV → List AV × List Obj
  | [] => ([], Ω)
  | a :: as => let (b, Ω') := frz1 Ω a; let (bs, Ω'') := frzM Ω' as; (b :: bs, Ω'')
def finish (fn : AFn) (s : St) : Option Res :=
  (aRes s.env s.ob fn.res).bind fun l =>
  let (l', Ω) := if fn.frz = true then frzM s.ob l else (l, s.ob)
  if okv (one l') = true then
    (reach Ω 400 (dedup (s.rt ++ refs (one l')) []) []).bind fun ord =>
    some ⟨ren (pos ord) (one l'), sub Ω ord (!fn.up), if fn.up = true then 2 else s.d⟩
  else none
def args0 : Nat → List AV → Env
  | _, [] => []
  | i, a :: as => (i, a) :: args0 (i + 1) as
/-- Functions that were taken over, and what is known of others. -/
structure Tb where
  tab : Nat → Option AFn
  ext : CT
noncomputable def acall (T : Tb) : Nat → CT
  | 0 => fun _ _ _ _ => none
  | k + 1 => fun f n args Ω => match T.tab f with
    | some fn =>
      if args.length = fn.np ∧ n ≤ Ω.length then
        (aexec (acall T k) k fn.body ⟨args0 0 args, Ω, 0, List.range n⟩).bind fun (x, s) => match x with
          | .exit _ => none
          | _ => finish fn s
      else none
    | none => T.ext f n args Ω
end Go.Proofs.Ythkjiclplecljaa.Sym

/- What the abstract machine's values and objects stand for in a program's memory. -/
namespace Go.Proofs.Ythkjiclplecljaa.Sym
open Go
set_option linter.unusedVariables false
set_option linter.unusedSimpArgs false

abbrev Loc := Option (Nat × Nat × Nat)
abbrev Imm := Nat → Option (Array Value)

inductive VR (Im : Imm) : List Loc → AV → Value → Prop
  | v {ρ x} (h : pl x = true) : VR Im ρ (.v x) x
  | dead {ρ} : VR Im ρ .dead undef
  | shr {ρ n cl xs} (b o cap : Nat) (arr : Array Value) (f : Nat → Value) (hb : Im b = some arr) (hc : n ≤ cap) (hcl : cl = true → cap = n) (ha : ∀ (i : Nat) a, xs[i]? = some a → atom a = true)
      (h1 : ∀ (i : Nat) a, xs[i]? = some a → arr[o + i]? = some (f i)) (h2 : ∀ (i : Nat) a, xs[i]? = some a → VR Im [] a (f i)) : VR Im ρ (.shr n cl xs) (.slice (some ⟨b, o, none⟩) n cap)
  | shr0 {ρ cl} (a : Option Addr) : VR Im ρ (.shr 0 cl []) (.slice a 0 0)
  | iptr {ρ xs off} (b o : Nat) (arr : Array Value) (f : Nat → Value) (hb : Im b = some arr) (ha : ∀ (i : Nat) a, xs[i]? = some a → atom a = true)
      (h1 : ∀ (i : Nat) a, xs[i]? = some a → arr[o + i]? = some (f i)) (h2 : ∀ (i : Nat) a, xs[i]? = some a → VR Im [] a (f i)) : VR Im ρ (.iptr xs off) (.pointer (some ⟨b, o + off, none⟩))
  | ptr {ρ k off} (b o s : Nat) (hk : ρ[k]? = some (some (b, o, s))) : VR Im ρ (.ptr k off) (.pointer (some ⟨b, o + off, none⟩))
  | view {ρ k off n sz c} (b o s cap : Nat) (hk : ρ[k]? = some (some (b, o, s))) (hc : n ≤ cap) (h1 : ∀ m, c = some m → cap = m) (h2 : o + off + cap * sz ≤ s) (h3 : c = none → o + off + cap * sz = s) :
      VR Im ρ (.view k off n sz c) (.slice (some ⟨b, o + off, none⟩) n cap)
  | viewE {ρ k off sz c} (b o s o' : Nat) (hk : ρ[k]? = some (some (b, o, s))) (h1 : ∀ m, c = some m → m = 0) (h2 : o' ≤ s) (h3 : c = none → o + off = s) : VR Im ρ (.view k off 0 sz c) (.slice (some ⟨b, o', none⟩) 0 0)
  | view0 {ρ k off sz c} (hk : ρ[k]? = some none) (h1 : ∀ m, c = some m → m = 0) : VR Im ρ (.view k off 0 sz c) (.slice none 0 0)
  | agg {ρ cs} (arr : Array Value) (f : Nat → Value) (hl : cs.length = arr.size) (h1 : ∀ (i : Nat) a, cs[i]? = some a → arr[i]? = some (f i)) (h2 : ∀ (i : Nat) a, cs[i]? = some a → VR Im ρ a (f i)) : VR Im ρ (.agg cs) (.agg arr)
  | tup {ρ cs} (arr : Array Value) (f : Nat → Value) (hl : cs.length = arr.size) (h1 : ∀ (i : Nat) a, cs[i]? = some a → arr[i]? = some (f i)) (h2 : ∀ (i : Nat) a, cs[i]? = some a → VR Im ρ a (f i)) : VR Im ρ (.tup cs) (.tuple arr)
  | fn {ρ g cs} (arr : Array Value) (f : Nat → Value) (hl : cs.length = arr.size) (h1 : ∀ (i : Nat) a, cs[i]? = some a → arr[i]? = some (f i)) (h2 : ∀ (i : Nat) a, cs[i]? = some a → VR Im ρ a (f i)) : VR Im ρ (.fn g cs) (.func (.func g) #[] arr)

def ImLe (Im Im' : Imm) : Prop := ∀ b arr, Im b = some arr → Im' b = some arr
def RhoLe (ρ ρ' : List Loc) : Prop := ∀ (k : Nat) (x : Loc), ρ[k]? = some x → ρ'[k]? = some x
theorem ImLe.refl (Im : Imm) : ImLe Im Im := fun _ _ h => h
theorem ImLe.trans {a b c : Imm} (h : ImLe a b) (h' : ImLe b c) : ImLe a c := fun x y hh => h' _ _ (h _ _ hh)
theorem RhoLe.refl (ρ : List Loc) : RhoLe ρ ρ := fun _ _ h => h
theorem RhoLe.trans {a b c : List Loc} (h : RhoLe a b) (h' : RhoLe b c) : RhoLe a c := fun x y hh => h' _ _ (h _ _ hh)
theorem RhoLe.snoc (ρ : List Loc) (l : Loc) : RhoLe ρ (ρ ++ [l]) := fun k x h => by
  rw [List.getElem?_append_left (List.getElem?_eq_some_iff.1 h).1]
  exact h

theorem VR.mono {Im Im' : Imm} (hI : ImLe Im Im') {ρ : List Loc} {a : AV} {x : Value} (h : VR Im ρ a x) : ∀ ρ', RhoLe ρ ρ' → VR Im' ρ' a x := by
  induction h with
  | v h => exact fun _ _ => .v h
  | dead => exact fun _ _ => .dead
  | shr b o cap arr f hb hc hcl ha h1 h2 ih => exact fun _ _ => .shr b o cap arr f (hI _ _ hb) hc hcl ha h1 (fun i a hi => ih i a hi _ (RhoLe.refl _))
  | shr0 a => exact fun _ _ => .shr0 a
  | iptr b o arr f hb ha h1 h2 ih => exact fun _ _ => .iptr b o arr f (hI _ _ hb) ha h1 (fun i a hi => ih i a hi _ (RhoLe.refl _))
  | ptr b o s hk => exact fun _ hρ => .ptr b o s (hρ _ _ hk)
  | view b o s cap hk hc h1 h2 h3 => exact fun _ hρ => .view b o s cap (hρ _ _ hk) hc h1 h2 h3
  | viewE b o s o' hk h1 h2 h3 => exact fun _ hρ => .viewE b o s o' (hρ _ _ hk) h1 h2 h3
  | view0 hk h1 => exact fun _ hρ => .view0 (hρ _ _ hk) h1
  | agg arr f hl h1 h2 ih => exact fun _ hρ => .agg arr f hl h1 (fun i a hi => ih i a hi _ hρ)
  | tup arr f hl h1 h2 ih => exact fun _ hρ => .tup arr f hl h1 (fun i a hi => ih i a hi _ hρ)
  | fn arr f hl h1 h2 ih => exact fun _ hρ => .fn arr f hl h1 (fun i a hi => ih i a hi _ hρ)

theorem VR.flat {Im : Imm} {ρ ρ' : List Loc} {a : AV} {x : Value} (hf : flat0 a = true) (h : VR Im ρ a x) : VR Im ρ' a x := by
  cases h with
  | v h => exact .v h
  | shr b o cap arr f hb hc hcl ha h1 h2 => exact .shr b o cap arr f hb hc hcl ha h1 h2
  | shr0 a => exact .shr0 a
  | iptr b o arr f hb ha h1 h2 => exact .iptr b o arr f hb ha h1 h2
  | _ => simp [flat0] at hf

theorem VR.one {Im : Imm} {ρ : List Loc} {a : AV} {x : Value} (hf : atom a = true) (h : VR Im ρ a x) : x.oneCell' = true := by
  cases h with
  | v h => cases x <;> simp_all [pl, Value.oneCell']
  | dead => simp [atom] at hf
  | agg => simp [atom] at hf
  | tup => simp [atom] at hf
  | _ => rfl

theorem oneCell_cells {x : Value} (h : x.oneCell' = true) : x.cells = #[x] := by cases x <;> simp_all [Value.oneCell', Value.cells]

/-- A value's cells. -/
theorem VR.cells {Im : Imm} {ρ : List Loc} {a : AV} {x : Value} (hf : (cellsOf a).all atom = true) (h : VR Im ρ a x) :
    ∃ f : Nat → Value, (cellsOf a).length = x.cells.size ∧ (∀ (i : Nat) c, (cellsOf a)[i]? = some c → x.cells[i]? = some (f i)) ∧ (∀ (i : Nat) c, (cellsOf a)[i]? = some c → VR Im ρ c (f i)) := by
  have one : cellsOf a = [a] → ∃ f : Nat → Value, (cellsOf a).length = x.cells.size ∧ (∀ (i : Nat) c, (cellsOf a)[i]? = some c → x.cells[i]? = some (f i)) ∧ (∀ (i : Nat) c, (cellsOf a)[i]? = some c → VR Im ρ c (f i)) := fun e => by
    rw [e] at hf ⊢
    have h1 : atom a = true := by simpa using hf
    rw [oneCell_cells (h.one h1)]
    refine ⟨fun _ => x, rfl, fun i c hi => ?_, fun i c hi => ?_⟩
    · have : i = 0 := by have := (List.getElem?_eq_some_iff.1 hi).1; simp at this; omega
      subst this
      rfl
    · have : i = 0 := by have := (List.getElem?_eq_some_iff.1 hi).1; simp at this; omega
      subst this
      simp only [List.getElem?_cons_zero, Option.some.injEq] at hi
      subst hi
      exact h
  cases h with
  | agg arr f hl h1 h2 => exact ⟨f, hl, h1, h2⟩
  | _ => exact one rfl

/-- Does an object lie where it is said to lie? -/
def ObjAt (Im : Imm) (ρ : List Loc) (w : World) (k : Nat) (o : Obj) : Prop :=
  (∃ (b base s : Nat) (arr : Array Value) (T : TypeId) (fz : Nat × Nat), ρ[k]? = some (some (b, base, s)) ∧ w.heap[b]? = some (.cells arr T fz) ∧ fz.2 ≤ fz.1 + 1 ∧ (fz.1 < fz.2 → s ≤ fz.1) ∧ arr.size = s ∧ base + o.cells.length ≤ s ∧ Im b = none ∧
    ∃ f : Nat → Value, (∀ (i : Nat) a, o.cells[i]? = some a → arr[base + i]? = some (f i)) ∧ (∀ (i : Nat) a, o.cells[i]? = some a → VR Im ρ a (f i))) ∨
  (ρ[k]? = some none ∧ o.cells = [])

/-- Package variables stand where they stand. -/
def GlobIn (Im : Imm) : Prop := ∀ g, g ∈ globs → ∃ arr, Im g.1 = some arr ∧ ∀ (j : Nat) x, g.2[j]? = some x → arr[j]? = some x
theorem GlobIn.mono {Im Im' : Imm} (h : GlobIn Im) (hI : ImLe Im Im') : GlobIn Im' := fun g hg => by
  obtain ⟨arr, h1, h2⟩ := h g hg
  exact ⟨arr, hI _ _ h1, h2⟩
structure Rel (Im : Imm) (ρ : List Loc) (Ω : List Obj) (w : World) : Prop where
  len : ρ.length = Ω.length
  im : ∀ b arr, Im b = some arr → ∃ T fz, w.heap[b]? = some (.cells arr T fz)
  obj : ∀ (k : Nat) o, Ω[k]? = some o → o.live = true → ObjAt Im ρ w k o
  atoms : ∀ (k : Nat) o, Ω[k]? = some o → o.live = true → ∀ a ∈ o.cells, atom a = true
  flat : ∀ (k : Nat) o, Ω[k]? = some o → o.live = true → o.flat = true → ∀ a ∈ o.cells, flat0 a = true
  sep : ∀ (k k' : Nat) o o' b s1 s2 b' s1' s2', Ω[k]? = some o → Ω[k']? = some o' → o.live = true → o'.live = true → k ≠ k' → ρ[k]? = some (some (b, s1, s2)) → ρ[k']? = some (some (b', s1', s2')) → b ≠ b'
  gl : GlobIn Im

/-- Blocks of live objects. -/
def LB (ρ : List Loc) (Ω : List Obj) (b : Nat) : Prop := ∃ (k : Nat) (o : Obj) (s1 s2 : Nat), Ω[k]? = some o ∧ o.live = true ∧ ρ[k]? = some (some (b, s1, s2))
/-- Nothing that was there has changed, but for blocks of S. -/
structure Fr (w w' : World) (S : Nat → Prop) : Prop where
  os : w'.os = w.os
  tape : w'.tape = w.tape
  output : w'.output = w.output
  size : w.heap.size ≤ w'.heap.size
  block : ∀ b, b < w.heap.size → ¬ S b → w'.heap[b]? = w.heap[b]?
theorem Fr.refl (w : World) (S : Nat → Prop) : Fr w w S := ⟨rfl, rfl, rfl, Nat.le_refl _, fun _ _ _ => rfl⟩
theorem Fr.trans {w w1 w2 : World} {S S' : Nat → Prop} (h : Fr w w1 S) (h' : Fr w1 w2 S') (hS : ∀ b, S' b → S b ∨ w.heap.size ≤ b) : Fr w w2 S :=
  ⟨h'.os.trans h.os, h'.tape.trans h.tape, h'.output.trans h.output, Nat.le_trans h.size h'.size, fun b hb hn => by
    rw [h'.block b (Nat.lt_of_lt_of_le hb h.size) (fun hs => by rcases hS b hs with h | h; exact hn h; omega), h.block b hb hn]⟩
theorem Fr.imp {w w' : World} {S S' : Nat → Prop} (h : Fr w w' S) (hS : ∀ b, S b → S' b) : Fr w w' S' := ⟨h.os, h.tape, h.output, h.size, fun b hb hn => h.block b hb (fun hs => hn (hS b hs))⟩
theorem Fr.drew {w w' : World} {S : Nat → Prop} (h : Fr w w' S) : Fr w w'.drew S := ⟨h.os, h.tape, h.output, h.size, h.block⟩
theorem Fr.alloc {w w' : World} {S : Nat → Prop} (h : Fr w w' S) (o : Go.Obj) : Fr w (w'.alloc o) S := by
  refine ⟨h.os, h.tape, h.output, ?_, fun b hb hn => ?_⟩
  · show w.heap.size ≤ (w'.heap.push o).size
    rw [Array.size_push]
    have := h.size
    omega
  · show (w'.heap.push o)[b]? = _
    have := h.size
    rw [Array.getElem?_push_lt (by omega), ← h.block b hb hn, Array.getElem?_eq_getElem (by omega)]
end Go.Proofs.Ythkjiclplecljaa.Sym

/- From the program's operations to those of the abstract machine. -/
namespace Go.Proofs.Ythkjiclplecljaa.Sym
open Go
set_option linter.unusedVariables false

def cVal : Value → Option AV
  | .agg cs => if cs.toList.all pl = true then some (.agg (cs.toList.map .v)) else none
  | .func (.func f) first captured => if first.isEmpty && captured.isEmpty then some (.fn f []) else none
  | v => if pl v = true then some (.v v) else none
def cx : Operand → Option AX
  | .tmp t => some (.t t)
  | .const v => (cVal v).map .c
  | .func f => some (.c (.fn f []))
  | .global _ => none
def cxs : List Operand → Option (List AX)
  | [] => some []
  | x :: xs => (cx x).bind fun a => (cxs xs).bind fun as => some (a :: as)
def cxo : Option Operand → Option (Option AX)
  | none => some none
  | some x => (cx x).map some
/-- A zero value's cells. -/
def cz (P : Program) (t : TypeId) : Option (List AV) := (P.info? t).bind fun i => i.zero.bind fun z => if z.cells.toList.all pl = true then some (z.cells.toList.map .v) else none
def isAggT (P : Program) (t : TypeId) : Option Bool := (P.underlying t).map fun
  | .struct _ | .array _ _ => true
  | _ => false
def loadM (P : Program) (t : TypeId) : Option (Option Nat) := (isAggT P t).bind fun b => if b = true then (P.info? t).map fun i => some i.size else some none
def sizeT (P : Program) (t : TypeId) : Option Nat := (P.info? t).map (·.size)
def cparts (place : Nat → Option (Nat × Nat)) : List (Nat × Operand) → Option (List (Nat × Nat × AX))
  | [] => some []
  | (i, x) :: r => (place i).bind fun p => (cx x).bind fun a => (cparts place r).bind fun as => some ((p.1, p.2, a) :: as)
def leavesF (P : Program) (go : TypeId → Option (List (Nat × LK))) : List Field → Option (List (Nat × LK))
  | [] => some []
  | f :: fs => if f.name = "_" then leavesF P go fs else (go f.type).bind fun a => (sizeT P f.type).bind fun n => (leavesF P go fs).bind fun b =>
      if a.all (fun l => decide (l.1 < n)) = true then some (a.map (fun l => (f.offset + l.1, l.2)) ++ b) else none
def leavesT (P : Program) : Nat → TypeId → Option (List (Nat × LK))
  | 0, _ => none
  | d + 1, t => (P.underlying t).bind fun
    | .bool => some [(0, .b)]
    | .int _ => some [(0, .i)]
    | .string => some [(0, .s)]
    | .struct fs => if P.stoodInHeld t = true then none else leavesF P (leavesT P d) fs.toList
    | .array n e => (leavesT P d e).bind fun l => match l with
      | [(0, k)] => if P.cellsOf e = 1 ∧ isAggT P e = some false ∧ (P.info? e).isSome = true then some ((List.range n).map fun i => (i, k)) else none
      | _ => none
    | _ => none
def u8T (P : Program) (t : TypeId) : Bool := P.underlying t matches some (.int .u8)
def eqLike : BinOp → Bool
  | .eql | .neq => true
  | _ => false

def isSrc : TypeDesc → Bool
  | .slice _ | .string => true
  | _ => false
def compOp (P : Program) (o : Oper) : Option AO :=
  match o.op with
  | .move x | .assign x => (cx x).map .mv
  | .pick c a b => (cx c).bind fun c => (cx a).bind fun a => (cx b).bind fun b => some (.pick c a b)
  | .binOp op t x y _ => (cx x).bind fun x => (cx y).bind fun y => (P.underlying t).bind fun
      | .int _ | .string => some (.bin op x y)
      | .bool => if eqLike op = true then some (.eqb (op == .neq) x y) else none
      | .pointer _ => if eqLike op = true then some (.eqp (op == .neq) x y) else none
      | .slice _ => if eqLike op = true then some (.eqs (op == .neq) x y) else none
      | .struct _ | .array _ _ => if (eqLike op && !P.eqGuardType P.depth t) = true then (leavesT P 50 t).bind fun ls => some (.eqst (op == .neq) ls x y) else none
      | _ => none
  | .unOp op _ x => (cx x).map (.un op)
  | .load t x => (loadM P t).bind fun m => (cx x).bind fun x => some (.load m x)
  | .store t a x => (sizeT P t).bind fun n => (cx a).bind fun a => (cx x).bind fun x => some (.store n a x)
  | .field t x f => (P.underlying t).bind fun
      | .struct fs => (fs[f]?).bind fun f => (loadM P f.type).bind fun m => (cx x).bind fun x => some (.fld f.offset m x)
      | _ => none
  | .fieldAddr t x f => (P.underlying t).bind fun
      | .struct fs => (fs[f]?).bind fun f => (sizeT P f.type).bind fun n => if n = 0 then none else (cx x).bind fun x => some (.fad f.offset x)
      | _ => none
  | .nilCheck x => (cx x).map .nilck
  | .indexAddr t x i => (cx x).bind fun x => (cx i).bind fun i => (P.underlying t).bind fun
      | .slice e => (sizeT P e).bind fun n => some (.ixs n x i)
      | .array len e => (sizeT P e).bind fun n => some (.ixa len n x i)
      | _ => none
  | .index t x i => (cx x).bind fun x => (cx i).bind fun i => (P.underlying t).bind fun
      | .string => some (.ixstr x i)
      | .array len e => (sizeT P e).bind fun n => (loadM P e).bind fun m => some (.ixv len n m x i)
      | _ => none
  | .extract x i => (cx x).map (.ext i)
  | .makeFunc f first captured => match f with
      | .func f => if first.isEmpty = true then (cxs captured.toList).map (.mkf f) else none
      | _ => none
  | .convert s d x => (cx x).bind fun x => (P.underlying s).bind fun su => (P.underlying d).bind fun du =>
      match su, du with
      | .int _, .int k => some (.cvi k x)
      | .string, .string => some (.cvs x)
      | .string, .slice e => if u8T P e = true then some (.cvsb x) else none
      | .slice e, .string => if u8T P e = true then some (.cvbs x) else none
      | _, _ => none
  | .slice t x lo hi mx => (cx x).bind fun x => (cxo lo).bind fun lo => (cxo hi).bind fun hi => (cxo mx).bind fun mx => (P.underlying t).bind fun
      | .string => if mx.isNone = true then some (.slstr x lo hi) else none
      | .slice e => (sizeT P e).bind fun n => if mx.isSome = true ∧ hi.isNone = true then none else some (.sls n x lo hi mx)
      | _ => none
  | .build t parts => (cz P t).bind fun z => (P.underlying t).bind fun
      | .struct fs => (cparts (fun i => (fs[i]?).bind fun f => (sizeT P f.type).map fun n => (f.offset, n)) parts.toList).bind fun ps => if fs.toList.all (fun f => (sizeT P f.type).isSome) = true then some (.build z ps) else none
      | .array _ e => (sizeT P e).bind fun n => (cparts (fun i => some (i * n, n)) parts.toList).bind fun ps => some (.build z ps)
      | _ => none
  | .buildSlice t len parts => (P.underlying t).bind fun
      | .slice e => (sizeT P e).bind fun n => (cz P e).bind fun z => if 0 < n ∧ z.length = n ∧ len * n ≤ 2 ^ 24 then (cparts (fun i => some (i * n, n)) parts.toList).bind fun ps => some (.row n len z ps) else none
      | _ => none
  | .box _ x => (cx x).map .box
  | .alloc t => (cz P t).map .alloc
  | .makeSlice t l c => (cx l).bind fun l => (cx c).bind fun c => (P.underlying t).bind fun
      | .slice e => (P.info? e).bind fun i => (cz P e).bind fun z => if 0 < i.size ∧ z.length = i.size then some (.mks i.size i.bytes z l c) else none
      | _ => none
  | .call c => (cxs c.args.toList).bind fun xs => match c.callee with
      | .value f => (cx f).bind fun f => some (.call f xs)
      | .invoke _ _ => none
      | .builtin b => match b, c.argTypes.toList, xs with
        | .len, t :: _, [x] => (P.underlying t).bind fun
            | .string => some (.lens x)
            | .slice _ => some (.len x)
            | _ => none
        | .min, _, xs => some (.min xs)
        | .max, _, xs => some (.max xs)
        | .append, t :: t' :: _, [x, y] => (P.underlying t).bind fun
            | .slice e => (P.info? e).bind fun i => (cz P e).bind fun z => (P.underlying t').bind fun u =>
                if 0 < i.size ∧ z.length = i.size ∧ isSrc u = true then some (.app i.size i.bytes x y) else none
            | _ => none
        | .copy, t :: _, [x, y] => (P.underlying t).bind fun
            | .slice e => (sizeT P e).bind fun n => some (.cpy n x y)
            | _ => none
        | .clear, t :: _, [x] => (P.underlying t).bind fun
            | .slice e => (sizeT P e).bind fun n => (cz P e).bind fun z => if 0 < n ∧ z.length = n then some (.clr n z x) else none
            | _ => none
        | _, _, _ => none
  | _ => none

def compG (ops : Array Oper) (g : Option (Nat × Bool)) : Option (Option (Nat × Bool)) := match g with
  | none => some none
  | some (j, b) => ((ops[j]?).bind (·.dst)).map fun d => some (d, b)
def compOps (P : Program) (N : Nat) (ops : Array Oper) : List Oper → Option (List AOper)
  | [] => some []
  | o :: r => (compOp P o).bind fun a => (compG ops o.guard).bind fun g => (compOps P N ops r).bind fun l => if o.dst.all (fun d => decide (d < N)) = true then some (⟨o.dst, g, a⟩ :: l) else none
/-- Does an operation act, or is it a call of one of these? -/
def heavy (hv : List Nat) : AO → Bool
  | .box _ | .alloc _ | .row _ _ _ _ | .store _ _ _ | .mks _ _ _ _ _ | .app _ _ _ _ | .cpy _ _ _ | .cvsb _ | .clr _ _ _ => true
  | .call (.c (.fn f _)) _ => hv.contains f
  | _ => false
/-- What comes behind i, at whatever remove. -/
def depGo (i : Nat) : List Oper → List Bool → List Bool
  | [], acc => acc
  | o :: os, acc => depGo i os (acc ++ [o.after.any fun x => Region.binds .any x && (x.on == i || acc.getD x.on false)])
def depOf (ops : Array Oper) (i : Nat) : List Bool := depGo i ops.toList []
/-- May it be taken first? -/
def okFirst (ops : Array Oper) (cls : List Nat) (listed : Array Bool) (i : Nat) : Bool :=
  if cls.getD i 0 = 6 then Region.free .any ops listed i && (let d := depOf ops i; (List.range ops.size).all fun e => decide (e = i) || decide (cls.getD e 0 = 1) || decide (cls.getD e 0 = 2) || decide (cls.getD e 0 = 3) || listed.getD e true || d.getD e false) else
  (decide (cls.getD i 0 = 1) || decide (cls.getD i 0 = 2) || decide (cls.getD i 0 = 5)) && Region.free .any ops listed i && (decide (cls.getD i 0 = 2) ||
    (let d := depOf ops i; (List.range ops.size).all fun e => decide (1 ≤ cls.getD e 0) || listed.getD e true || d.getD e false))
def permGo (ops : Array Oper) (cls : List Nat) : Nat → Array Bool → Option (List Nat)
  | 0, listed => if (Region.ready .any ops listed).isEmpty = true then some [] else none
  | f + 1, listed => match (Region.ready .any ops listed).find? (fun i => okFirst ops cls listed i) with
    | some i => (permGo ops cls f (listed.setIfInBounds i true)).map (i :: ·)
    | none => match Region.ready .any ops listed with
      | [k] => (permGo ops cls f (listed.setIfInBounds k true)).map (k :: ·)
      | _ => none
/-- Orders in which all may be taken: behind one another; or in either way. -/
inductive PT where
  | nil
  | one (i : Nat) (t : PT)
  | alt (a b : PT)
def PT.allB (n : Nat) : PT → Bool
  | .nil => true
  | .one i t => decide (i < n) && t.allB n
  | .alt a b => a.allB n && b.allB n
def altAll : List (Option PT) → Option PT
  | [] => none
  | [t] => t
  | t :: ts => t.bind fun t => (altAll ts).map (.alt t)
def treeGo (ops : Array Oper) (cls : List Nat) : Nat → Array Bool → Option PT
  | 0, listed => if (Region.ready .any ops listed).isEmpty = true then some .nil else none
  | f + 1, listed => match (Region.ready .any ops listed).find? (fun i => okFirst ops cls listed i) with
    | some i => (treeGo ops cls f (listed.setIfInBounds i true)).map (.one i)
    | none => if (Region.ready .any ops listed).length ≤ 3 then altAll ((Region.ready .any ops listed).map fun k => (treeGo ops cls f (listed.setIfInBounds k true)).map (.one k)) else none
def atOf (hv : List Nat) (l : List AOper) : PT → AT
  | .nil => .nil
  | .one i t => .op (qk (clsV hv (l.getD i ⟨none, none, .mv (.t 0)⟩).op)) (l.getD i ⟨none, none, .mv (.t 0)⟩) (atOf hv l t)
  | .alt a b => .alt (atOf hv l a) (atOf hv l b)
def isCall : AO → Bool
  | .call _ _ => true
  | _ => false
/-- A region. -/
def compReg (P : Program) (N : Nat) (hv : List Nat) (ops : Array Oper) (draw : Bool) (an : List (List Nat)) : Option (AC × List (List Nat)) := (compOps P N ops ops.toList).bind fun l =>
      if draw = false then some (.reg l, an)
      else if (Region.lexB .any ops && l.all fun o => !heavy hv o.op) = true then some (.regq l, an)
      else match if hv.contains 1000000 = true then none else (List.range ops.size).find? fun n => (l.take n).all (fun o => !heavy hv o.op) && Region.lexTailB .any ops n with
        | some n => some (.regt n l, an)
        | none => match permGo ops (l.map fun o => clsV hv o.op) ops.size (Array.replicate ops.size false) with
          | some π => if (Region.noSelect ops && π.all (fun i => decide (i < l.length))) = true then some (.regm (π.map fun i => (qk (clsV hv (l.getD i ⟨none, none, .mv (.t 0)⟩).op), l.getD i ⟨none, none, .mv (.t 0)⟩)), an) else none
          | none => match if ((l.countP fun o => heavy hv o.op) == 1 && l.all (fun o => !isCall o.op) && Region.lexB .any ops) = true then none else treeGo ops (l.map fun o => clsV hv o.op) ops.size (Array.replicate ops.size false) with
            | some t => if (Region.noSelect ops && t.allB l.length) = true then some (.regx (atOf hv l t), an) else none
            | none => if Region.lexB .any ops = true then some (.regs (l.findIdx fun o => heavy hv o.op) l, an) else none
/-- Code; for each loop the temporaries that are live at its head. -/
def compC (P : Program) (N : Nat) (hv : List Nat) : Code → List (List Nat) → Option (AC × List (List Nat))
  | .skip, an => some (.skip, an)
  | .ret, an => some (.ret, an)
  | .exit id, an => some (.exit id, an)
  | .seq a b, an => (compC P N hv a an).bind fun (a', an) => (compC P N hv b an).bind fun (b', an) => some (.seq a' b', an)
  | .cond x a b, an => (cx x).bind fun x => (compC P N hv a an).bind fun (a', an) => (compC P N hv b an).bind fun (b', an) => some (.cond x a' b', an)
  | .block id b, an => (compC P N hv b an).bind fun (b', an) => some (.block id b', an)
  | .loop b, l :: an => (compC P N hv b an).bind fun (b', an) => some (.loop l b', an)
  | .region _ ops draw, an => if hv.contains 4000000 = true then (match an with
      | l :: an => (compReg P N hv ops draw an).bind fun (r, an) => some (.seq r (.drop l), an)
      | [] => none) else compReg P N hv ops draw an
  | _, _ => none
def compR (P : Program) : List ResultVar → Option (List RV)
  | [] => some []
  | .tmp i :: r => (compR P r).bind fun l => some (.t i :: l)
  | .cell i t :: r => (loadM P t).bind fun m => (compR P r).bind fun l => some (.cell i m :: l)
/-- A function: its code as the abstract machine has it. -/
def compF (P : Program) (F : Func) (an : List (List Nat)) (frz up : Bool) (hv : List Nat) : Option AFn :=
  F.body.bind fun c => (compC P F.ntmps hv c an).bind fun (b, rest) => (compR P F.results.toList).bind fun rs =>
    if rest.isEmpty = true ∧ (F.name == "runtime.NumGoroutine") = false ∧ F.params.size + F.nfree ≤ F.ntmps then some ⟨F.params.size + F.nfree, b, rs, frz, up⟩ else none
end Go.Proofs.Ythkjiclplecljaa.Sym

/- Operations that leave memory alone: the abstract machine's are the program's. -/
namespace Go.Proofs.Ythkjiclplecljaa.Sym
open Go
set_option linter.unusedVariables false
set_option linter.unusedSimpArgs false

/-- The old blocks are as they were. -/
def Same (w w' : World) : Prop := ∀ b, b < w.heap.size → w'.heap[b]? = w.heap[b]?
theorem Same.refl (w : World) : Same w w := fun _ _ => rfl
/-- All that is spoken of is as it was. -/
def SameK (Im : Imm) (ρ : List Loc) (Ω : List Obj) (w w' : World) : Prop := ∀ b, ((∃ arr, Im b = some arr) ∨ LB ρ Ω b) → w'.heap[b]? = w.heap[b]?
theorem SameK.refl (Im : Imm) (ρ : List Loc) (Ω : List Obj) (w : World) : SameK Im ρ Ω w w := fun _ _ => rfl
structure EnvOK (Im : Imm) (ρ : List Loc) (e : Env) (act : Act) : Prop where
  val : ∀ i a, get e i = some a → VR Im ρ a (act.tmps.getD i undef)
  lt : ∀ i a, get e i = some a → i < act.tmps.size

theorem pl_cVal {v : Value} {a : AV} (h : cVal v = some a) (Im : Imm) (ρ : List Loc) : VR Im ρ a v := by
  unfold cVal at h
  split at h
  · rename_i cs
    split at h
    · rename_i hp
      cases h
      refine .agg cs (fun i => cs.toList.getD i undef) (by simp) (fun i a hi => ?_) (fun i a hi => ?_)
      · have hl := (List.getElem?_eq_some_iff.1 hi).1
        rw [List.length_map] at hl
        rw [List.getD_eq_getElem?_getD, List.getElem?_eq_getElem hl]
        simp
      · have hl := (List.getElem?_eq_some_iff.1 hi).1
        rw [List.length_map] at hl
        rw [List.getElem?_map, List.getElem?_eq_getElem hl] at hi
        cases hi
        rw [List.getD_eq_getElem?_getD, List.getElem?_eq_getElem hl]
        exact .v (List.all_eq_true.1 hp _ (List.getElem_mem hl))
    · cases h
  · rename_i f first captured
    split at h
    · rename_i hp
      cases h
      simp only [Bool.and_eq_true, Array.isEmpty_iff] at hp
      obtain ⟨rfl, rfl⟩ := hp
      exact .fn #[] (fun _ => undef) rfl (fun i a hi => by simp at hi) (fun i a hi => by simp at hi)
    · cases h
  · split at h
    · rename_i hp
      cases h
      exact .v hp
    · cases h

theorem ev_ok {Im : Imm} {ρ : List Loc} {e : Env} {act : Act} (hE : EnvOK Im ρ e act) {o : Operand} {x : AX} (hc : cx o = some x) {a : AV} (h : ev e x = some a) : VR Im ρ a (act.eval o) := by
  cases o with
  | tmp t => cases hc; exact hE.val _ _ h
  | const v =>
    simp only [cx, Option.map_eq_some_iff] at hc
    obtain ⟨b, hb, rfl⟩ := hc
    cases h
    exact pl_cVal hb _ _
  | func f => cases hc; cases h; exact .fn #[] (fun _ => undef) rfl (fun i a hi => by simp at hi) (fun i a hi => by simp at hi)
  | global g => cases hc

theorem cell_of {w : World} {b i : Nat} {arr : Array Value} {T : TypeId} {fz : Nat × Nat} (h : w.heap[b]? = some (.cells arr T fz)) : w.cell? ⟨b, i, none⟩ = arr[i]? := by
  simp [World.cell?, h]

/-- Cells that can be read: a row of cells of a block. -/
def Lies (w : World) (b o : Nat) (f : Nat → Value) (xs : List AV) : Prop := ∃ (arr : Array Value) (T : TypeId) (fz : Nat × Nat), w.heap[b]? = some (.cells arr T fz) ∧ ∀ (i : Nat) a, xs[i]? = some a → arr[o + i]? = some (f i)
theorem Lies.same {w w' : World} {b o : Nat} {f : Nat → Value} {xs : List AV} (h : Lies w b o f xs) (hs : w'.heap[b]? = w.heap[b]?) : Lies w' b o f xs := by
  obtain ⟨arr, T, fz, h1, h2⟩ := h
  exact ⟨arr, T, fz, hs.trans h1, h2⟩
theorem Lies.lt {w : World} {b o : Nat} {f : Nat → Value} {xs : List AV} (h : Lies w b o f xs) : b < w.heap.size := by
  obtain ⟨arr, T, fz, h1, _⟩ := h
  exact (Array.getElem?_eq_some_iff.1 h1).1
theorem Lies.cell {w : World} {b o : Nat} {f : Nat → Value} {xs : List AV} (h : Lies w b o f xs) {i : Nat} (hi : i < xs.length) : w.cell? ⟨b, o + i, none⟩ = some (f i) := by
  obtain ⟨arr, T, fz, h1, h2⟩ := h
  rw [cell_of h1]
  exact h2 i _ (List.getElem?_eq_getElem hi)
theorem getO_some {Ω : List Obj} {k : Nat} {o : Obj} (h : getO Ω k = some o) : Ω[k]? = some o ∧ o.live = true := by
  unfold getO at h
  split at h
  · split at h
    · cases h
      exact ⟨‹_›, ‹_›⟩
    · cases h
  · cases h
theorem Rel.lies {Im : Imm} {ρ : List Loc} {Ω : List Obj} {w : World} (hR : Rel Im ρ Ω w) {k : Nat} {o : Obj} (hk : getO Ω k = some o) {b base s : Nat} (hl : ρ[k]? = some (some (b, base, s))) :
    ∃ f : Nat → Value, Lies w b base f o.cells ∧ ∀ (i : Nat) a, o.cells[i]? = some a → VR Im ρ a (f i) := by
  obtain ⟨h1, h2⟩ := getO_some hk
  rcases hR.obj k o h1 h2 with ⟨b', base', s', arr, T, fz, e1, e2, e3, e4, e5, e6, e7, f, e8, e9⟩ | ⟨e1, e2⟩
  · rw [hl] at e1
    injection e1 with e1
    injection e1 with e1
    injection e1 with e1 e1'
    injection e1' with e1' e1''
    subst e1 e1' e1''
    exact ⟨f, ⟨arr, T, fz, e2, e8⟩, e9⟩
  · rw [hl] at e1
    cases e1

theorem run_isAgg {P : Program} {t : TypeId} {b : Bool} (h : isAggT P t = some b) (w : World) : (isAgg t).run P w = .ok b w := by
  unfold isAggT at h
  rw [Option.map_eq_some_iff] at h
  obtain ⟨d, hd, hb⟩ := h
  unfold isAgg
  rw [Sem.run_bind, run_underlying hd]
  simp only [Result.andThen_ok]
  cases d <;> simp_all

theorem run_sizeOf' {P : Program} {t : TypeId} {n : Nat} (h : sizeT P t = some n) (w : World) : (sizeOf t).run P w = .ok n w := by
  unfold sizeT at h
  rw [Option.map_eq_some_iff] at h
  obtain ⟨i, hi, rfl⟩ := h
  simp [sizeOf, typeInfo, hi]

/-- Reading a variable of a row of cells. -/
theorem run_loadVar_lies {P : Program} {t : TypeId} {m : Option Nat} (hm : loadM P t = some m) {Im : Imm} {ρ : List Loc} {xs : List AV} {off : Nat} {r : AV} (h : rd xs off m = some r) {w : World} {b o : Nat} {f : Nat → Value} (hL : Lies w b o f xs)
    (hV : ∀ (i : Nat) a, xs[i]? = some a → VR Im ρ a (f i)) : ∃ y, VR Im ρ r y ∧ ∀ w', w'.heap[b]? = w.heap[b]? → (loadVar t ⟨b, o + off, none⟩).run P w' = .ok y w' := by
  unfold loadM at hm
  rw [Option.bind_eq_some_iff] at hm
  obtain ⟨g, hg, hm⟩ := hm
  cases g with
  | false =>
    simp only [Bool.false_eq_true, if_false, Option.some.injEq] at hm
    subst hm
    simp only [rd] at h
    refine ⟨f off, hV _ _ h, fun w' hs => ?_⟩
    have hc := (hL.same hs).cell (List.getElem?_eq_some_iff.1 h).1
    simp [loadVar, run_isAgg hg, hc]
  | true =>
    simp only [if_true, Option.map_eq_some_iff] at hm
    obtain ⟨i, hi, rfl⟩ := hm
    simp only [rd] at h
    split at h
    · rename_i hle
      cases h
      refine ⟨.agg ((List.range i.size).map fun j => f (off + j)).toArray, .agg _ (fun j => f (off + j)) ?_ (fun j a hj => ?_) (fun j a hj => ?_), fun w' hs => ?_⟩
      · simp
        omega
      · have hj2 := (List.getElem?_eq_some_iff.1 hj).1
        rw [List.length_take, Nat.lt_min] at hj2
        rw [List.getElem?_toArray, List.getElem?_map, List.getElem?_range hj2.1]
        rfl
      · have hj2 := (List.getElem?_eq_some_iff.1 hj).1
        rw [List.length_take, Nat.lt_min] at hj2
        rw [List.getElem?_take_of_lt (by omega), List.getElem?_drop] at hj
        exact hV _ _ hj
      · have hc := run_loadCells (P := P) w' ⟨b, o + off, none⟩ i.size (fun j => f (off + j)) (fun j hj => by
          have := (hL.same hs).cell (i := off + j) (by omega)
          rw [Addr.add_lit, Nat.add_assoc]
          exact this)
        simp [loadVar, run_isAgg hg, sizeOf, typeInfo, hi, hc]
    · cases h

theorem aLoad_ok {P : Program} {t : TypeId} {m : Option Nat} (hm : loadM P t = some m) {Im : Imm} {ρ : List Loc} {Ω : List Obj} {w : World} (hR : Rel Im ρ Ω w) {a : AV} {x : Value} (hx : VR Im ρ a x) {r : AV} (h : aLoad Ω m a = some r) :
    ∃ y, VR Im ρ r y ∧ ∀ w', SameK Im ρ Ω w w' → (Instr.loadAt t x).run P w' = .ok y w' := by
  unfold aLoad at h
  split at h
  · rename_i k off
    rw [Option.bind_eq_some_iff] at h
    obtain ⟨o, ho, h⟩ := h
    cases hx with
    | ptr b base s hk =>
      obtain ⟨f, hL, hV⟩ := hR.lies ho hk
      obtain ⟨y, hy, hrun⟩ := run_loadVar_lies hm h hL hV
      exact ⟨y, hy, fun w' hs => by simp only [Instr.loadAt, Instr.sureAddr, Sem.run_bind, Sem.run_pure, Result.andThen_ok, hrun w' (hs b (.inr ⟨k, o, base, s, (getO_some ho).1, (getO_some ho).2, hk⟩))]⟩
  · rename_i xs off
    cases hx with
    | iptr b base arr f hb ha h1 h2 =>
      obtain ⟨T, fz, hw⟩ := hR.im _ _ hb
      obtain ⟨y, hy, hrun⟩ := run_loadVar_lies (ρ := ρ) hm h (w := w) (b := b) (o := base) (f := f) ⟨arr, T, fz, hw, h1⟩ (fun i a hi => (h2 i a hi).mono (ImLe.refl _) ρ (fun k x hk => by simp at hk))
      exact ⟨y, hy, fun w' hs => by simp only [Instr.loadAt, Instr.sureAddr, Sem.run_bind, Sem.run_pure, Result.andThen_ok, hrun w' (hs b (.inl ⟨_, hb⟩))]⟩
  · cases h

/-! ### plain values -/
theorem aInt_ok {P : Program} {op : BinOp} {k : IntKind} {a b : Int} {r : AV} (h : aInt op k a b = some r) (hs : isShift op = false) (t : TypeId) (ρ : List Loc) (Im : Imm) :
    ∃ y, VR Im ρ r y ∧ ∀ w, (binOp op t (.int k a) (.int k b)).run P w = .ok y w := by
  cases op <;> simp only [aInt] at h <;> first
    | (cases h; exact ⟨_, .v rfl, fun w => by first | rfl | (simp [binOp, Op.intArith, Op.intBits, Op.intCmp, bitsV]; done)⟩)
    | (simp [isShift] at hs; done)
    | (split at h <;> first | (cases h; done) | (cases h; exact ⟨_, .v rfl, fun w => by simp_all [binOp, Op.intDiv]⟩))

theorem aShift_ok {P : Program} {op : BinOp} {k k' : IntKind} {a b : Int} {r : AV} (h : aInt op k a b = some r) (hs : isShift op = true) (t : TypeId) (ρ : List Loc) (Im : Imm) :
    ∃ y, VR Im ρ r y ∧ ∀ w, (binOp op t (.int k a) (.int k' b)).run P w = .ok y w := by
  cases op <;> simp only [isShift, Bool.false_eq_true] at hs <;> simp only [aInt] at h <;> split at h <;> first
    | (cases h; done)
    | (cases h; rename_i hb; exact ⟨_, .v rfl, fun w => by simp [binOp, Op.shift, hb]⟩)

theorem toList_beq (a b : ByteArray) : (a.toList == b.toList) = decide (a = b) := by
  rw [ByteArray.toList_eq, ByteArray.toList_eq]
  obtain ⟨⟨x⟩⟩ := a
  obtain ⟨⟨y⟩⟩ := b
  by_cases h : x = y
  · subst h; simp
  · have : ¬ ((⟨⟨x⟩⟩ : ByteArray) = ⟨⟨y⟩⟩) := fun e => h (by injection e with e; injection e)
    simp [h]
theorem aBin_ok {P : Program} {op : BinOp} {x y : AV} {r : AV} (h : aBin op x y = some r) (t : TypeId) {Im : Imm} {ρ : List Loc} {u v : Value} (hu : VR Im ρ x u) (hv : VR Im ρ y v) (ox oy : Operand) :
    ∃ z, VR Im ρ r z ∧ ∀ w, (do eqGuard op t ox oy u v; binOp op t u v : Sem Value).run P w = .ok z w := by
  unfold aBin at h
  split at h
  · rename_i k a k' b
    cases hu
    cases hv
    split at h
    · rename_i hc
      rw [eqGuard_at_int]
      cases hs : isShift op with
      | true => exact aShift_ok h hs t ρ Im
      | false =>
        rw [hs, Bool.false_or, beq_iff_eq] at hc
        subst hc
        exact aInt_ok h hs t ρ Im
    · cases h
  · rename_i a b
    cases hu
    cases hv
    rw [eqGuard_at_string]
    split at h <;> first
      | (split at h <;> first
          | (cases h; rename_i hc; exact ⟨_, .v rfl, fun w => by
              have hc' : ¬ ((9223372036854775807 : Int) < (a.size : Int) + (b.size : Int)) := by omega
              simp [binOp, Op.stringOp, hc']⟩)
          | (cases h; done))
      | (cases h; exact ⟨_, .v rfl, fun w => by simp [binOp, Op.stringOp, toList_beq]⟩)
      | (cases h; done)
  · cases h

theorem eqs_run {P : Program} {op : BinOp} (hop : eqLike op = true) {t : TypeId} {u v : Value} {r : Bool} (ox oy : Operand) (w : World) (hg : (eqGuard op t ox oy u v).run P w = .ok () w) (hb : binOp op t u v = (do pure (.bool ((← Op.equal t u v) != (op == .neq)))))
    (he : (Op.equal t u v).run P w = .ok r w) : (do eqGuard op t ox oy u v; binOp op t u v : Sem Value).run P w = .ok (.bool (r != (op == .neq))) w := by
  rw [Sem.run_bind, hg, Result.andThen_ok, hb, Sem.run_bind, he]
  rfl
theorem aEqB_ok {P : Program} {op : BinOp} (hop : eqLike op = true) {x y : AV} {r : Bool} (h : aEqB x y = some r) {t : TypeId} (ht : P.underlying t = some .bool)
    {Im : Imm} {ρ : List Loc} {u v : Value} (hu : VR Im ρ x u) (hv : VR Im ρ y v) (ox oy : Operand) (w : World) : (do eqGuard op t ox oy u v; binOp op t u v : Sem Value).run P w = .ok (.bool (r != (op == .neq))) w := by
  unfold aEqB at h
  split at h
  · cases h
    cases hu
    cases hv
    refine eqs_run hop ox oy w (by rw [eqGuard_at_bool]; rfl) ?_ (run_equal_bool w t _ _ ht)
    cases op <;> first | (simp [eqLike] at hop; done) | (simp [binOp]; done) | (simp only [binOp]; congr 1; funext b; cases b <;> rfl)
  · cases h
theorem equalIn_ptr {P : Program} {t e : TypeId} (ht : P.underlying t = some (.pointer e)) (a b : Option Addr) (w : World) (h : a = none ∨ b = none) (d : Nat) : (Op.equalIn (d + 1) t (.pointer a) (.pointer b)).run P w = .ok (a.isNone && b.isNone) w := by
  rcases h with rfl | rfl
  · simp [Op.equalIn, run_underlying ht]
  · cases a <;> simp [Op.equalIn, run_underlying ht]
theorem equal_ptr {P : Program} {t e : TypeId} (ht : P.underlying t = some (.pointer e)) (a b : Option Addr) (w : World) (h : a = none ∨ b = none) : (Op.equal t (.pointer a) (.pointer b)).run P w = .ok (a.isNone && b.isNone) w := equalIn_ptr ht a b w h 9999
theorem aEqP_ok {P : Program} {op : BinOp} (hop : eqLike op = true) {x y : AV} {r : Bool} (h : aEqP x y = some r) {t e : TypeId} (ht : P.underlying t = some (.pointer e))
    {Im : Imm} {ρ : List Loc} {u v : Value} (hu : VR Im ρ x u) (hv : VR Im ρ y v) (ox oy : Operand) (w : World) : (do eqGuard op t ox oy u v; binOp op t u v : Sem Value).run P w = .ok (.bool (r != (op == .neq))) w := by
  have key : ∀ a b, (a = none ∨ b = none) → u = .pointer a → v = .pointer b → r = (a.isNone && b.isNone) → (do eqGuard op t ox oy u v; binOp op t u v : Sem Value).run P w = .ok (.bool (r != (op == .neq))) w := fun a b hn e1 e2 e3 => by
    subst e1 e2 e3
    refine eqs_run hop ox oy w (by rw [eqGuard_at_pointer]; rfl) ?_ (equal_ptr ht _ _ w hn)
    cases op <;> first | (simp [eqLike] at hop; done) | (simp [binOp]; done) | (simp only [binOp]; congr 1; funext b; cases b <;> rfl)
  unfold aEqP at h
  split at h <;> first
    | (cases h; cases hu; cases hv; exact key _ _ (by first | exact .inl rfl | exact .inr rfl) rfl rfl rfl)
    | cases h
theorem equalIn_slice {P : Program} {t e : TypeId} (ht : P.underlying t = some (.slice e)) (a : Option Addr) (n c : Nat) (w : World) (d : Nat) : (Op.equalIn (d + 1) t (.slice a n c) (.slice none 0 0)).run P w = .ok a.isNone w := by
  cases a <;> simp [Op.equalIn, run_underlying ht]
theorem equal_slice {P : Program} {t e : TypeId} (ht : P.underlying t = some (.slice e)) (a : Option Addr) (n c : Nat) (w : World) : (Op.equal t (.slice a n c) (.slice none 0 0)).run P w = .ok a.isNone w := equalIn_slice ht a n c w 9999
theorem aEqS_ok {P : Program} {op : BinOp} (hop : eqLike op = true) {x y : AV} {r : Bool} (h : aEqS x y = some r) {t e : TypeId} (ht : P.underlying t = some (.slice e))
    {Im : Imm} {ρ : List Loc} {u v : Value} (hu : VR Im ρ x u) (hv : VR Im ρ y v) (ox oy : Operand) (w : World) : (do eqGuard op t ox oy u v; binOp op t u v : Sem Value).run P w = .ok (.bool (r != (op == .neq))) w := by
  have key : ∀ a n c, u = .slice a n c → v = .slice none 0 0 → r = a.isNone → (do eqGuard op t ox oy u v; binOp op t u v : Sem Value).run P w = .ok (.bool (r != (op == .neq))) w := fun a n c e1 e2 e3 => by
    subst e1 e2 e3
    refine eqs_run hop ox oy w (by rw [eqGuard_at_slice]; rfl) ?_ (equal_slice ht _ _ _ w)
    cases op <;> first | (simp [eqLike] at hop; done) | (simp [binOp]; done) | (simp only [binOp]; congr 1; funext b; cases b <;> rfl)
  unfold aEqS at h
  split at h <;> first
    | (cases h; cases hu; cases hv; exact key _ _ _ rfl rfl rfl)
    | cases h
theorem aUn_ok {P : Program} {op : UnOp} {x r : AV} (h : aUn op x = some r) {Im : Imm} {ρ : List Loc} {u : Value} (hu : VR Im ρ x u) : ∃ z, VR Im ρ r z ∧ ∀ w, (Op.unary op u).run P w = .ok z w := by
  unfold aUn at h
  split at h <;> first
    | (cases h; cases hu; exact ⟨_, .v rfl, fun w => by first | rfl | (simp [Op.unary, Op.intArith, Op.intBits, bitsV]; done)⟩)
    | cases h
theorem aCvi_ok {P : Program} {s d : TypeId} {k ks : IntKind} (hs : P.underlying s = some (.int ks)) (hd : P.underlying d = some (.int k)) {x r : AV} (h : aCvi k x = some r) {Im : Imm} {ρ : List Loc} {u : Value} (hu : VR Im ρ x u) :
    ∃ z, VR Im ρ r z ∧ ∀ w, (convert s d u).run P w = .ok z w := by
  unfold aCvi at h
  split at h
  · cases h
    cases hu
    exact ⟨_, .v rfl, fun w => by simp [convert, run_underlying hs, run_underlying hd, Conv.intToInt]⟩
  · cases h
theorem aCvs_ok {P : Program} {s d : TypeId} (hs : P.underlying s = some .string) (hd : P.underlying d = some .string) {x r : AV} (h : aCvs x = some r) {Im : Imm} {ρ : List Loc} {u : Value} (hu : VR Im ρ x u) :
    ∃ z, VR Im ρ r z ∧ ∀ w, (convert s d u).run P w = .ok z w := by
  unfold aCvs at h
  split at h
  · cases h
    cases hu
    exact ⟨_, .v rfl, fun w => by simp [convert, run_underlying hs, run_underlying hd]⟩
  · cases h
theorem aField_ok {P : Program} {t : TypeId} {m : Option Nat} (hm : loadM P t = some m) {Im : Imm} {ρ : List Loc} {off : Nat} {x r : AV} {u : Value} (h : aField off m x = some r) (hu : VR Im ρ x u) :
    ∃ cs, u = .agg cs ∧ ∃ y, VR Im ρ r y ∧ ∀ w, (part t cs off).run P w = .ok y w := by
  unfold aField at h
  split at h
  · rename_i xs
    cases hu with
    | agg arr f hl h1 h2 =>
      refine ⟨arr, rfl, ?_⟩
      unfold loadM at hm
      rw [Option.bind_eq_some_iff] at hm
      obtain ⟨g, hg, hm⟩ := hm
      cases g with
      | false =>
        simp only [Bool.false_eq_true, if_false, Option.some.injEq] at hm
        subst hm
        simp only [rd] at h
        exact ⟨f off, h2 _ _ h, fun w => by simp [part, run_isAgg hg, h1 _ _ h]⟩
      | true =>
        simp only [if_true, Option.map_eq_some_iff] at hm
        obtain ⟨i, hi, rfl⟩ := hm
        simp only [rd] at h
        split at h
        · rename_i hle
          cases h
          refine ⟨.agg (arr.extract off (off + i.size)), .agg _ (fun j => f (off + j)) (by simp; omega) (fun j a hj => ?_) (fun j a hj => ?_), fun w => by simp [part, run_isAgg hg, sizeOf, typeInfo, hi]⟩
          · have hj2 := (List.getElem?_eq_some_iff.1 hj).1
            rw [List.length_take, Nat.lt_min] at hj2
            rw [List.getElem?_take_of_lt hj2.1, List.getElem?_drop] at hj
            have := h1 _ _ hj
            rw [Array.getElem?_extract]
            rw [if_pos (by omega)]
            exact this
          · have hj2 := (List.getElem?_eq_some_iff.1 hj).1
            rw [List.length_take, Nat.lt_min] at hj2
            rw [List.getElem?_take_of_lt hj2.1, List.getElem?_drop] at hj
            exact h2 _ _ hj
        · cases h
  · cases h
theorem VR.ptr' {Im : Imm} {ρ : List Loc} {k off b o o' s : Nat} (hk : ρ[k]? = some (some (b, o, s))) (h : o' = o + off) : VR Im ρ (.ptr k off) (.pointer (some ⟨b, o', none⟩)) := h ▸ .ptr b o s hk
theorem aFad_ok {Im : Imm} {ρ : List Loc} {off : Nat} {x r : AV} {u : Value} (h : aFad off x = some r) (hu : VR Im ρ x u) : ∃ b o, u = .pointer (some ⟨b, o, none⟩) ∧ VR Im ρ r (.pointer (some ⟨b, o + off, none⟩)) := by
  unfold aFad at h
  split at h
  · cases h
    cases hu with
    | ptr b o s hk => exact ⟨b, _, rfl, by rw [Nat.add_assoc]; exact .ptr b o s hk⟩
  · cases h
    cases hu with
    | iptr b o arr f hb ha h1 h2 => exact ⟨b, _, rfl, by rw [Nat.add_assoc]; exact .iptr b o arr f hb ha h1 h2⟩
  · cases h
theorem asI_ok {Im : Imm} {ρ : List Loc} {x : AV} {i : Int} {u : Value} (h : asI x = some i) (hu : VR Im ρ x u) : ∃ k, u = .int k i := by
  unfold asI at h
  split at h
  · cases h
    cases hu
    exact ⟨_, rfl⟩
  · cases h
theorem add_at (b o n : Nat) : Addr.add ⟨b, o, none⟩ n = ⟨b, o + n, none⟩ := Addr.add_lit b o n
theorem aIxS_ok {P : Program} {t e : TypeId} {n : Nat} (ht : P.underlying t = some (.slice e)) (hn : sizeT P e = some n) {Im : Imm} {ρ : List Loc} {x i r : AV} {u v : Value} (h : aIxS n x i = some r) (hu : VR Im ρ x u) (hv : VR Im ρ i v) :
    ∃ y, VR Im ρ r y ∧ ∀ w, (Instr.indexAt t u v).run P w = .ok y w := by
  unfold aIxS at h
  rw [Option.bind_eq_some_iff] at h
  obtain ⟨j, hj, h⟩ := h
  obtain ⟨k, rfl⟩ := asI_ok hj hv
  have run : ∀ (b o len cap : Nat) (w : World), 0 ≤ j ∧ j < len → (Instr.indexAt t (.slice (some ⟨b, o, none⟩) len cap) (.int k j)).run P w = .ok (.pointer (some ⟨b, o + j.toNat * n, none⟩)) w := fun b o len cap w hb => by
    simp [Instr.indexAt, asIntOf, run_underlying ht, run_sizeOf' hn, hb, add_at]
  split at h
  · rename_i k' off m sz c
    split at h
    · rename_i hb
      cases h
      cases hu with
      | view b o s cap hk hc h1 h2 h3 => exact ⟨_, VR.ptr' hk (Nat.add_assoc _ _ _), fun w => run _ _ _ _ w hb⟩
      | viewE b o s o' hk h1 h2 h3 => omega
      | view0 hk h1 => omega
    · cases h
  · rename_i m cl xs
    split at h
    · rename_i hb
      cases h
      cases hu with
      | shr b o cap arr f hb' hc hcl ha h1 h2 => exact ⟨_, .iptr b o arr f hb' ha h1 h2, fun w => run _ _ _ _ w hb⟩
      | shr0 => omega
    · cases h
  · cases h
theorem aIxA_ok {P : Program} {t e : TypeId} {len n : Nat} (ht : P.underlying t = some (.array len e)) (hn : sizeT P e = some n) {Im : Imm} {ρ : List Loc} {x i r : AV} {u v : Value} (h : aIxA len n x i = some r) (hu : VR Im ρ x u) (hv : VR Im ρ i v) :
    ∃ y, VR Im ρ r y ∧ ∀ w, (Instr.indexAt t u v).run P w = .ok y w := by
  unfold aIxA at h
  rw [Option.bind_eq_some_iff] at h
  obtain ⟨j, hj, h⟩ := h
  obtain ⟨k, rfl⟩ := asI_ok hj hv
  split at h
  · rename_i hb
    obtain ⟨b, o, rfl, hr⟩ := aFad_ok h hu
    exact ⟨_, hr, fun w => by simp [Instr.indexAt, Instr.sureAddr, asIntOf, run_underlying ht, run_sizeOf' hn, hb, add_at]⟩
  · cases h
theorem aIxStr_ok {P : Program} {t : TypeId} (ht : P.underlying t = some .string) {Im : Imm} {ρ : List Loc} {x i r : AV} {u v : Value} (h : aIxStr x i = some r) (hu : VR Im ρ x u) (hv : VR Im ρ i v) :
    ∃ y, VR Im ρ r y ∧ ∀ w, (Instr.index t u v).run P w = .ok y w := by
  unfold aIxStr at h
  rw [Option.bind_eq_some_iff] at h
  obtain ⟨j, hj, h⟩ := h
  obtain ⟨k, rfl⟩ := asI_ok hj hv
  split at h
  · rename_i s
    split at h
    · rename_i hb
      cases h
      cases hu
      refine ⟨_, .v rfl, fun w => ?_⟩
      simp [Instr.index, asIntOf, run_underlying ht, hb.1, getElem?_pos, hb.2]
    · cases h
  · cases h
theorem aIxV_ok {P : Program} {t e : TypeId} {len n : Nat} {m : Option Nat} (ht : P.underlying t = some (.array len e)) (hn : sizeT P e = some n) (hm : loadM P e = some m) {Im : Imm} {ρ : List Loc} {x i r : AV} {u v : Value} (h : aIxV len n m x i = some r) (hu : VR Im ρ x u) (hv : VR Im ρ i v) :
    ∃ y, VR Im ρ r y ∧ ∀ w, (Instr.index t u v).run P w = .ok y w := by
  unfold aIxV at h
  rw [Option.bind_eq_some_iff] at h
  obtain ⟨j, hj, h⟩ := h
  obtain ⟨k, rfl⟩ := asI_ok hj hv
  split at h
  · rename_i hb
    obtain ⟨cs, rfl, y, hy, hrun⟩ := aField_ok hm h hu
    exact ⟨y, hy, fun w => by simp [Instr.index, asIntOf, run_underlying ht, run_sizeOf' hn, hb, hrun]⟩
  · cases h
theorem aExt_ok {P : Program} {Im : Imm} {ρ : List Loc} {i : Nat} {x r : AV} {u : Value} (h : aExt i x = some r) (hu : VR Im ρ x u) : ∃ y, VR Im ρ r y ∧ ∀ w, (Instr.extract u i).run P w = .ok y w := by
  unfold aExt at h
  split at h
  · cases hu with
    | tup arr f hl h1 h2 => exact ⟨_, h2 _ _ h, fun w => by simp [Instr.extract, h1 _ _ h]⟩
  · cases h
theorem aPick_ok {P : Program} {Im : Imm} {ρ : List Loc} {c a b r : AV} {u v z : Value} (h : aPick c a b = some r) (hu : VR Im ρ c u) (hv : VR Im ρ a v) (hz : VR Im ρ b z) : ∃ y, VR Im ρ r y ∧ ∀ w, (do pure (.value (if ← asBool u then v else z)) : Sem Next).run P w = .ok (.value y) w := by
  unfold aPick at h
  split at h
  · cases h
    cases hu
    rename_i t _
    exact ⟨if t = true then v else z, by cases t <;> simpa, fun w => by simp [asBool]⟩
  · cases h
theorem aNilck_ok {P : Program} {Im : Imm} {ρ : List Loc} {x r : AV} {u : Value} (h : aNilck x = some r) (hu : VR Im ρ x u) : VR Im ρ r u ∧ ∃ a, u = .pointer (some a) := by
  unfold aNilck at h
  split at h
  · cases h; exact ⟨hu, by cases hu; exact ⟨_, rfl⟩⟩
  · cases h; exact ⟨hu, by cases hu; exact ⟨_, rfl⟩⟩
  · cases h
end Go.Proofs.Ythkjiclplecljaa.Sym

/- Operations that leave memory alone, all of them. -/
namespace Go.Proofs.Ythkjiclplecljaa.Sym
open Go
set_option linter.unusedVariables false
set_option linter.unusedSimpArgs false

theorem aLenS_ok {P : Program} {t ty : TypeId} {args : Array TypeId} (h0 : args[0]? = some t) {x r : AV} {u : Value} {Im : Imm} {ρ : List Loc} (ht : P.underlying t = some .string) (h : aLenS x = some r) (hu : VR Im ρ x u) :
    ∃ y, VR Im ρ r y ∧ ∀ w, (Builtin.len_ args ty #[u]).run P w = .ok y w := by
  unfold aLenS at h
  split at h
  · cases h
    cases hu
    exact ⟨_, .v rfl, fun w => by simp [Builtin.len_, h0, run_underlying ht, goInt]⟩
  · cases h
theorem aLen_ok {P : Program} {t ty e : TypeId} {args : Array TypeId} (h0 : args[0]? = some t) {x r : AV} {u : Value} {Im : Imm} {ρ : List Loc} (ht : P.underlying t = some (.slice e)) (h : aLen x = some r) (hu : VR Im ρ x u) :
    ∃ y, VR Im ρ r y ∧ ∀ w, (Builtin.len_ args ty #[u]).run P w = .ok y w := by
  have run : ∀ (a : Option Addr) (n c : Nat) w, (Builtin.len_ args ty #[.slice a n c]).run P w = .ok (.int .i64 n) w := fun a n c w => by simp [Builtin.len_, h0, run_underlying ht, goInt]
  unfold aLen at h
  split at h
  · cases h; cases hu; exact ⟨_, .v rfl, run _ _ _⟩
  · cases h; cases hu <;> exact ⟨_, .v rfl, run _ _ _⟩
  · cases h; cases hu <;> exact ⟨_, .v rfl, run _ _ _⟩
  · cases h

/-- Values one by one. -/
def VRs (Im : Imm) (ρ : List Loc) : List AV → List Value → Prop
  | [], [] => True
  | a :: as, v :: vs => VR Im ρ a v ∧ VRs Im ρ as vs
  | _, _ => False
theorem evs_ok {Im : Imm} {ρ : List Loc} {e : Env} {act : Act} (hE : EnvOK Im ρ e act) : ∀ (os : List Operand) (xs : List AX) (as : List AV), cxs os = some xs → evs e xs = some as → VRs Im ρ as (os.map act.eval)
  | [], xs, as, hc, h => by cases hc; cases h; trivial
  | o :: os, xs, as, hc, h => by
    simp only [cxs, Option.bind_eq_some_iff] at hc
    obtain ⟨x, hx, xs', hxs, hc⟩ := hc
    cases hc
    simp only [evs, Option.bind_eq_some_iff] at h
    obtain ⟨a, ha, as', has, h⟩ := h
    cases h
    exact ⟨ev_ok hE hx ha, evs_ok hE os xs' as' hxs has⟩
theorem aMin2_ok {P : Program} {Im : Imm} {ρ : List Loc} {a b r : AV} {u v : Value} (h : aMin2 a b = some r) (hu : VR Im ρ a u) (hv : VR Im ρ b v) : ∃ y, VR Im ρ r y ∧ ∀ w, (Builtin.min2 u v).run P w = .ok y w := by
  unfold aMin2 at h
  split at h
  · cases h; cases hu; cases hv; exact ⟨_, .v rfl, fun w => by simp [Builtin.min2]⟩
  · cases h
theorem aMax2_ok {P : Program} {Im : Imm} {ρ : List Loc} {a b r : AV} {u v : Value} (h : aMax2 a b = some r) (hu : VR Im ρ a u) (hv : VR Im ρ b v) : ∃ y, VR Im ρ r y ∧ ∀ w, (Builtin.max2 u v).run P w = .ok y w := by
  unfold aMax2 at h
  split at h
  · cases h; cases hu; cases hv; exact ⟨_, .v rfl, fun w => by simp [Builtin.max2]⟩
  · cases h
theorem aFold_ok {P : Program} {Im : Imm} {ρ : List Loc} {f : AV → AV → Option AV} {g : Value → Value → Sem Value} (hf : ∀ a b r u v, f a b = some r → VR Im ρ a u → VR Im ρ b v → ∃ y, VR Im ρ r y ∧ ∀ w, (g u v).run P w = .ok y w) :
    ∀ (as : List AV) (a : AV) (u : Value) (vs : List Value) (r : AV), aFoldL f a as = some r → VR Im ρ a u → VRs Im ρ as vs → ∃ y, VR Im ρ r y ∧ ∀ w, (vs.foldlM g u).run P w = .ok y w
  | [], a, u, vs, r, h, hu, hs => by
    cases vs with
    | nil => simp only [aFoldL, Option.some.injEq] at h; subst h; exact ⟨u, hu, fun w => rfl⟩
    | cons v vs => exact hs.elim
  | b :: as, a, u, vs, r, h, hu, hs => by
    cases vs with
    | nil => exact hs.elim
    | cons v vs =>
      obtain ⟨hv, hs⟩ := hs
      rw [aFoldL, Option.bind_eq_some_iff] at h
      obtain ⟨c, hc, h⟩ := h
      obtain ⟨y, hy, hr⟩ := hf _ _ _ _ _ hc hu hv
      obtain ⟨z, hz, hr'⟩ := aFold_ok hf as c y vs r h hy hs
      exact ⟨z, hz, fun w => by rw [List.foldlM_cons, Sem.run_bind, hr w, Result.andThen_ok, hr' w]⟩

/-- A bound of a slice expression. -/
def BV (Im : Imm) (ρ : List Loc) : Option AV → Option Value → Prop
  | none, none => True
  | some a, some v => VR Im ρ a v
  | _, _ => False
theorem evO_ok {Im : Imm} {ρ : List Loc} {e : Env} {act : Act} (hE : EnvOK Im ρ e act) {o : Option Operand} {x : Option AX} {a : Option AV} (hc : cxo o = some x) (h : evO e x = some a) : BV Im ρ a (o.map act.eval) := by
  cases o with
  | none => cases hc; cases h; trivial
  | some o =>
    simp only [cxo, Option.map_eq_some_iff] at hc
    obtain ⟨y, hy, rfl⟩ := hc
    simp only [evO, Option.map_eq_some_iff] at h
    obtain ⟨b, hb, rfl⟩ := h
    exact ev_ok hE hy hb
theorem bnd_some {Im : Imm} {ρ : List Loc} {a : AV} {v : Value} {d n : Nat} (h : bnd (some a) d = some n) (hv : VR Im ρ a v) : ∃ k, v = .int k (n : Int) := by
  simp only [bnd, Option.bind_eq_some_iff] at h
  obtain ⟨i, hi, h⟩ := h
  split at h
  · rename_i h0
    cases h
    obtain ⟨k, rfl⟩ := asI_ok hi hv
    exact ⟨k, by rw [Int.toNat_of_nonneg h0]⟩
  · cases h
theorem run_bound {P : Program} (k : IntKind) (n y : Nat) (code : BoundsCode) (h : n ≤ y) (w : World) : (Instr.sliceBound (.int k (n : Int)) y code).run P w = .ok n w := by
  have h0 : (0 : Int) ≤ (n : Int) ∧ (n : Int) ≤ (y : Int) := by omega
  simp [Instr.sliceBound, asIntOf, h0]
theorem run_bounds {P : Program} {Im : Imm} {ρ : List Loc} {lo hi mx : Option AV} {ul uh um : Option Value} (hl : BV Im ρ lo ul) (hh : BV Im ρ hi uh) (hm : BV Im ρ mx um) (hx : mx.isSome = true → hi.isSome = true) (s : Bool) {len cap l h m : Nat} (e1 : bnd hi len = some h) (e2 : bnd lo 0 = some l) (e3 : bnd mx cap = some m)
    (h1 : l ≤ h) (h2 : h ≤ m) (h3 : m ≤ cap) (w : World) : (Instr.sliceBounds s len cap ul uh um).run P w = .ok (l, h, m) w := by
  unfold Instr.sliceBounds
  cases mx with
  | none =>
    cases um with
    | some v => exact hm.elim
    | none =>
      cases e3
      cases hi with
      | none =>
        cases uh with
        | some v => exact hh.elim
        | none =>
          cases e1
          cases lo with
          | none =>
            cases ul with
            | some v => exact hl.elim
            | none => cases e2; simp
          | some a =>
            cases ul with
            | none => exact hl.elim
            | some v => obtain ⟨k, rfl⟩ := bnd_some e2 hl; simp [run_bound k l _ _ h1]
      | some a =>
        cases uh with
        | none => exact hh.elim
        | some v =>
          obtain ⟨k, rfl⟩ := bnd_some e1 hh
          cases lo with
          | none =>
            cases ul with
            | some v => exact hl.elim
            | none => cases e2; simp [run_bound k h _ _ h2]
          | some a =>
            cases ul with
            | none => exact hl.elim
            | some v => obtain ⟨k', rfl⟩ := bnd_some e2 hl; simp [run_bound k h _ _ h2, run_bound k' l _ _ h1]
  | some a =>
    cases um with
    | none => exact hm.elim
    | some v =>
      obtain ⟨km, rfl⟩ := bnd_some e3 hm
      cases hi with
      | none => simp at hx
      | some a =>
        cases uh with
        | none => exact hh.elim
        | some v =>
          obtain ⟨k, rfl⟩ := bnd_some e1 hh
          cases lo with
          | none =>
            cases ul with
            | some v => exact hl.elim
            | none => cases e2; simp [run_bound km m _ _ h3, run_bound k h _ _ h2]
          | some a =>
            cases ul with
            | none => exact hl.elim
            | some v => obtain ⟨k', rfl⟩ := bnd_some e2 hl; simp [run_bound km m _ _ h3, run_bound k h _ _ h2, run_bound k' l _ _ h1]
theorem aSlStr_ok {P : Program} {t : TypeId} (ht : P.underlying t = some .string) {Im : Imm} {ρ : List Loc} {x r : AV} {lo hi : Option AV} {u : Value} {ul uh : Option Value} (h : aSlStr x lo hi = some r) (hu : VR Im ρ x u) (hl : BV Im ρ lo ul) (hh : BV Im ρ hi uh) :
    ∃ y, VR Im ρ r y ∧ ∀ w, (Instr.sliceAt t u ul uh none).run P w = .ok y w := by
  unfold aSlStr at h
  split at h
  · rename_i s
    simp only [Option.bind_eq_some_iff] at h
    obtain ⟨hn, e1, ln, e2, h⟩ := h
    split at h
    · rename_i hb
      cases h
      cases hu
      exact ⟨_, .v rfl, fun w => by
        have := run_bounds (P := P) hl hh (mx := none) (um := none) trivial (by simp) false e1 e2 (e3 := rfl) hb.1 hb.2 (Nat.le_refl _) w
        simp [Instr.sliceAt, Instr.slice, run_underlying ht, this]⟩
    · cases h
  · cases h
theorem run_sl {P : Program} {t e : TypeId} {n : Nat} (ht : P.underlying t = some (.slice e)) (hn : sizeT P e = some n) {Im : Imm} {ρ : List Loc} {lo hi mx : Option AV} {ul uh um : Option Value} (hl : BV Im ρ lo ul) (hh : BV Im ρ hi uh) (hm : BV Im ρ mx um) (hx : mx.isSome = true → hi.isSome = true) {len cap l h m : Nat} (e1 : bnd hi len = some h) (e2 : bnd lo 0 = some l) (e3 : bnd mx cap = some m)
    (h1 : l ≤ h) (h2 : h ≤ m) (h3 : m ≤ cap) (a : Option Addr) (w : World) : (Instr.sliceAt t (.slice a len cap) ul uh um).run P w = .ok (.slice (if m = l then a else a.map (·.add (l * n))) (h - l) (m - l)) w := by
  have := run_bounds (P := P) hl hh hm hx true e1 e2 e3 h1 h2 h3 w
  simp [Instr.sliceAt, Instr.slice, run_underlying ht, this, run_sizeOf' hn]
theorem sub_mul_add {l c n : Nat} (h : l ≤ c) : l * n + (c - l) * n = c * n := by
  rw [← Nat.add_mul]
  congr 1
  omega
theorem VR.viewAt {Im : Imm} {ρ : List Loc} {k off n sz : Nat} {c : Option Nat} (b o s cap o' : Nat) (hk : ρ[k]? = some (some (b, o, s))) (hc : n ≤ cap) (h1 : ∀ m, c = some m → cap = m) (h2 : o + off + cap * sz ≤ s) (h3 : c = none → o + off + cap * sz = s) (ho : o' = o + off) :
    VR Im ρ (.view k off n sz c) (.slice (some ⟨b, o', none⟩) n cap) := ho ▸ .view b o s cap hk hc h1 h2 h3
theorem aSlS_ok {P : Program} {t e : TypeId} {n : Nat} (ht : P.underlying t = some (.slice e)) (hn : sizeT P e = some n) {Im : Imm} {ρ : List Loc} {x r : AV} {lo hi mx : Option AV} {u : Value} {ul uh um : Option Value} {Ω : List Obj} {w0 : World} (hR : Rel Im ρ Ω w0) (hx : mx.isSome = true → hi.isSome = true) (h : aSlS Ω n x lo hi mx = some r) (hu : VR Im ρ x u) (hl : BV Im ρ lo ul) (hh : BV Im ρ hi uh) (hm : BV Im ρ mx um) :
    ∃ y, VR Im ρ r y ∧ ∀ w, (Instr.sliceAt t u ul uh um).run P w = .ok y w := by
  unfold aSlS at h
  split at h
  · simp only [Option.bind_eq_some_iff] at h
    obtain ⟨hn', e1, ln, e2, mn, e3, h⟩ := h
    split at h
    · rename_i hb
      cases h
      cases hu
      refine ⟨_, .v rfl, fun w => ?_⟩
      rw [run_sl ht hn hl hh hm hx e1 e2 e3 hb.1 hb.2.1 hb.2.2]
      obtain ⟨b1, b2, b3⟩ := hb
      obtain rfl : mn = 0 := by omega
      obtain rfl : hn' = 0 := by omega
      obtain rfl : ln = 0 := by omega
      rfl
    · cases h
  · rename_i k off m sz c
    simp only [Option.bind_eq_some_iff] at h
    obtain ⟨hn', e1, ln, e2, h⟩ := h
    cases mx with
    | some a =>
      simp only [Option.bind_eq_some_iff] at h
      obtain ⟨mn, e3, h⟩ := h
      split at h
      · rename_i hb
        obtain ⟨b1, b2, b3, rfl⟩ := hb
        cases h
        cases hu with
        | view b o s cap hk hc h1 h2 h3 =>
          have hcap : mn ≤ cap := by
            cases c with
            | none => simp at b3; omega
            | some c => rw [h1 c rfl]; exact b3
          have e3' : bnd (some a) cap = some mn := e3
          refine ⟨_, ?_, fun w => run_sl ht hn hl hh hm hx e1 e2 e3' b1 b2 hcap _ w⟩
          by_cases hml : mn = ln
          · rw [if_pos hml]
            obtain rfl : hn' = ln := by omega
            subst hml
            rw [Nat.sub_self]
            exact VR.viewE b o s _ hk (fun m hm => by cases hm; rfl) (by omega) (fun hh => by cases hh)
          · rw [if_neg hml]
            show VR Im ρ _ (.slice (some (Addr.add ⟨b, o + off, none⟩ (ln * sz))) _ _)
            rw [add_at]
            have hs := sub_mul_add (n := sz) (show ln ≤ mn by omega)
            have hs2 : mn * sz ≤ cap * sz := Nat.mul_le_mul_right _ hcap
            refine VR.viewAt b o s (mn - ln) _ hk (by omega) (fun m hm => by cases hm; rfl) (by omega) (fun hh => by cases hh) (by omega)
        | viewE b o s o' hk h1 h2 h3 =>
          have hz : mn = 0 := by
            cases c with
            | none => simp at b3; omega
            | some c => have := h1 c rfl; simp at b3; omega
          subst hz
          obtain rfl : hn' = 0 := by omega
          obtain rfl : ln = 0 := by omega
          refine ⟨_, ?_, fun w => run_sl ht hn hl hh hm hx e1 e2 e3 b1 b2 (Nat.le_refl _) _ w⟩
          rw [if_pos rfl]
          exact VR.viewE b o s _ hk (fun m hm => by cases hm; rfl) h2 (fun hh => by cases hh)
        | view0 hk h1 =>
          have hz : mn = 0 := by
            cases c with
            | none => simp at b3; omega
            | some c => have := h1 c rfl; simp at b3; omega
          subst hz
          obtain rfl : hn' = 0 := by omega
          obtain rfl : ln = 0 := by omega
          refine ⟨_, ?_, fun w => run_sl ht hn hl hh hm hx e1 e2 e3 b1 b2 (Nat.le_refl _) _ w⟩
          rw [if_pos rfl]
          exact VR.view0 hk (fun m hm => by cases hm; rfl)
      · cases h
    | none =>
      simp only at h
      split at h
      · rename_i hb
        obtain ⟨b1, b2, rfl⟩ := hb
        cases h
        cases hu with
        | view b o s cap hk hc h1 h2 h3 =>
          have hcap : hn' ≤ cap := by
            cases c with
            | none => simp at b2; omega
            | some c => rw [h1 c rfl]; exact b2
          refine ⟨_, ?_, fun w => run_sl ht hn hl hh hm hx e1 e2 (e3 := rfl) b1 hcap (Nat.le_refl _) _ w⟩
          by_cases hcl : cap = ln
          · rw [if_pos hcl]
            obtain rfl : hn' = ln := by omega
            subst hcl
            rw [Nat.sub_self]
            refine VR.viewE b o s _ hk (fun m hm => ?_) (by omega) (fun hh => ?_)
            · cases c with
              | none => cases hm
              | some c => have := h1 c rfl; simp at hm; omega
            · cases c with
              | none => have := h3 rfl; omega
              | some c => cases hh
          · rw [if_neg hcl]
            show VR Im ρ _ (.slice (some (Addr.add ⟨b, o + off, none⟩ (ln * sz))) _ _)
            rw [add_at]
            have hs := sub_mul_add (n := sz) (show ln ≤ cap by omega)
            refine VR.viewAt b o s (cap - ln) _ hk (by omega) (fun m hm => ?_) (by omega) (fun hh => ?_) (by omega)
            · cases c with
              | none => cases hm
              | some c => have := h1 c rfl; simp at hm; omega
            · cases c with
              | none => have := h3 rfl; omega
              | some c => cases hh
        | viewE b o s o' hk h1 h2 h3 =>
          have hz : hn' = 0 := by
            cases c with
            | none => simp at b2; omega
            | some c => have := h1 c rfl; simp at b2; omega
          subst hz
          obtain rfl : ln = 0 := by omega
          refine ⟨_, ?_, fun w => run_sl ht hn hl hh hm hx e1 e2 (e3 := rfl) b1 (Nat.zero_le _) (Nat.le_refl _) _ w⟩
          rw [if_pos rfl]
          refine VR.viewE b o s _ hk (fun m hm => ?_) h2 (fun hh => ?_)
          · cases c with
            | none => cases hm
            | some c => have := h1 c rfl; simp at hm; omega
          · cases c with
            | none => have := h3 rfl; omega
            | some c => cases hh
        | view0 hk h1 =>
          have hz : hn' = 0 := by
            cases c with
            | none => simp at b2; omega
            | some c => have := h1 c rfl; simp at b2; omega
          subst hz
          obtain rfl : ln = 0 := by omega
          refine ⟨_, ?_, fun w => run_sl ht hn hl hh hm hx e1 e2 (e3 := rfl) b1 (Nat.zero_le _) (Nat.le_refl _) _ w⟩
          rw [if_pos rfl]
          refine VR.view0 hk (fun m hm => ?_)
          cases c with
          | none => cases hm
          | some c => have := h1 c rfl; simp at hm; omega
      · split at h
        case isFalse => cases h
        rename_i hb
        obtain ⟨b1, b2, rfl, b3⟩ := hb
        rw [Option.bind_eq_some_iff] at h
        obtain ⟨ob, hob, h⟩ := h
        split at h
        case isFalse => cases h
        rename_i hle
        cases h
        obtain ⟨hk0, hl0⟩ := getO_some hob
        have hcn : c = none := by cases c with | none => rfl | some c => simp at b2
        subst hcn
        cases hu with
        | view b o s cap hk hc h1 h2 h3 =>
          have h3' := h3 rfl
          rcases hR.obj k ob hk0 hl0 with ⟨b', base', s', arr, T, fz, e1', e2', e3', e4', e5', e6', e7', f, e8', e9'⟩ | ⟨e1', e2'⟩
          case inr => rw [hk] at e1'; cases e1'
          rw [hk] at e1'
          cases e1'
          have hcap : hn' ≤ cap := by
            rcases Nat.lt_or_ge cap hn' with z | z
            · have := Nat.mul_lt_mul_of_pos_right z b3
              omega
            · exact z
          refine ⟨_, ?_, fun w => run_sl ht hn hl hh hm hx e1 e2 (e3 := rfl) b1 hcap (Nat.le_refl _) _ w⟩
          by_cases hcl : cap = ln
          · rw [if_pos hcl]
            obtain rfl : hn' = ln := by omega
            subst hcl
            rw [Nat.sub_self]
            exact VR.viewE b o s _ hk (fun m hm => by cases hm) (by omega) (fun hh => by omega)
          · rw [if_neg hcl]
            show VR Im ρ _ (.slice (some (Addr.add ⟨b, o + off, none⟩ (ln * sz))) _ _)
            rw [add_at]
            have hs := sub_mul_add (n := sz) (show ln ≤ cap by omega)
            exact VR.viewAt b o s (cap - ln) _ hk (by omega) (fun m hm => by cases hm) (by omega) (fun hh => by omega) (by omega)
        | viewE b o s o' hk h1 h2 h3 =>
          have h3' := h3 rfl
          rcases hR.obj k ob hk0 hl0 with ⟨b', base', s', arr, T, fz, e1', e2', e3', e4', e5', e6', e7', f, e8', e9'⟩ | ⟨e1', e2'⟩
          case inr => rw [hk] at e1'; cases e1'
          rw [hk] at e1'
          cases e1'
          have hz : hn' = 0 := by
            rcases Nat.eq_zero_or_pos hn' with z | z
            · exact z
            · have := Nat.mul_pos z b3
              omega
          subst hz
          obtain rfl : ln = 0 := by omega
          refine ⟨_, ?_, fun w => run_sl ht hn hl hh hm hx e1 e2 (e3 := rfl) b1 (Nat.zero_le _) (Nat.le_refl _) _ w⟩
          rw [if_pos rfl]
          exact VR.viewE b o s _ hk (fun m hm => by cases hm) h2 (fun hh => by omega)
        | view0 hk h1 =>
          rcases hR.obj k ob hk0 hl0 with ⟨b', base', s', arr, T, fz, e1', e2', e3', e4', e5', e6', e7', f, e8', e9'⟩ | ⟨e1', e2'⟩
          · rw [hk] at e1'; cases e1'
          have hz : hn' = 0 := by
            rcases Nat.eq_zero_or_pos hn' with z | z
            · exact z
            · have := Nat.mul_pos z b3
              rw [e2'] at hle
              simp at hle
              omega
          subst hz
          obtain rfl : ln = 0 := by omega
          refine ⟨_, ?_, fun w => run_sl ht hn hl hh hm hx e1 e2 (e3 := rfl) b1 (Nat.zero_le _) (Nat.le_refl _) _ w⟩
          rw [if_pos rfl]
          exact VR.view0 hk (fun m hm => by cases hm)
  · rename_i m cl xs
    simp only [Option.bind_eq_some_iff] at h
    obtain ⟨hn', e1, ln, e2, h⟩ := h
    have piece : ∀ (b o cap cap' : Nat) (arr : Array Value) (f : Nat → Value) (cl' : Bool), Im b = some arr → hn' - ln ≤ cap' → (cl' = true → cap' = hn' - ln) → (∀ (i : Nat) a, xs[i]? = some a → atom a = true) → (∀ (i : Nat) a, xs[i]? = some a → arr[o + i]? = some (f i)) → (∀ (i : Nat) a, xs[i]? = some a → VR Im [] a (f i)) →
        VR Im ρ (.shr (hn' - ln) cl' ((xs.drop (ln * n)).take ((hn' - ln) * n))) (.slice (some ⟨b, o + ln * n, none⟩) (hn' - ln) cap') := fun b o cap cap' arr f cl' hb hc hcl ha h1 h2 => by
      have get : ∀ (i : Nat) a, ((xs.drop (ln * n)).take ((hn' - ln) * n))[i]? = some a → xs[ln * n + i]? = some a := fun i a hi => by
        have hj2 := (List.getElem?_eq_some_iff.1 hi).1
        rw [List.length_take, Nat.lt_min] at hj2
        rw [List.getElem?_take_of_lt hj2.1, List.getElem?_drop] at hi
        exact hi
      refine .shr b _ cap' arr (fun i => f (ln * n + i)) hb hc hcl (fun i a hi => ha _ _ (get i a hi)) (fun i a hi => ?_) (fun i a hi => h2 _ _ (get i a hi))
      have := h1 _ _ (get i a hi)
      rw [Nat.add_assoc]
      exact this
    cases mx with
    | some a =>
      simp only [Option.bind_eq_some_iff] at h
      obtain ⟨mn, e3, h⟩ := h
      split at h
      · rename_i hb
        obtain ⟨b1, b2, b3⟩ := hb
        cases h
        cases hu with
        | shr b o cap arr f hb hc hcl ha h1 h2 =>
          have e3' : bnd (some a) cap = some mn := e3
          refine ⟨_, ?_, fun w => run_sl ht hn hl hh hm hx e1 e2 e3' b1 b2 (by omega) _ w⟩
          by_cases hz : mn = ln
          · rw [if_pos hz]
            obtain rfl : hn' = ln := by omega
            subst hz
            rw [Nat.sub_self, Nat.zero_mul, List.take_zero]
            exact .shr b o 0 arr f hb (Nat.le_refl _) (fun _ => rfl) (fun i a hi => by simp at hi) (fun i a hi => by simp at hi) (fun i a hi => by simp at hi)
          · rw [if_neg hz]
            have := piece b o cap (mn - ln) arr f (mn == hn') hb (by omega) (fun hq => by have := eq_of_beq hq; omega) ha h1 h2
            simpa [add_at] using this
        | shr0 a0 =>
          obtain rfl : mn = 0 := by omega
          obtain rfl : hn' = 0 := by omega
          obtain rfl : ln = 0 := by omega
          exact ⟨_, by simpa using (VR.shr0 (Im := Im) (ρ := ρ) a0), fun w => run_sl ht hn hl hh hm hx e1 e2 e3 (Nat.le_refl _) (Nat.le_refl _) (Nat.le_refl _) _ w⟩
      · cases h
    | none =>
      simp only at h
      split at h
      · rename_i hb
        obtain ⟨b1, b2⟩ := hb
        cases h
        cases hu with
        | shr b o cap arr f hb hc hcl ha h1 h2 =>
          refine ⟨_, ?_, fun w => run_sl ht hn hl hh hm hx e1 e2 (e3 := rfl) b1 (by omega) (Nat.le_refl _) _ w⟩
          by_cases hz : cap = ln
          · rw [if_pos hz]
            obtain rfl : hn' = ln := by omega
            subst hz
            rw [Nat.sub_self, Nat.zero_mul, List.take_zero]
            exact .shr b o 0 arr f hb (Nat.le_refl _) (fun _ => rfl) (fun i a hi => by simp at hi) (fun i a hi => by simp at hi) (fun i a hi => by simp at hi)
          · rw [if_neg hz]
            have := piece b o cap (cap - ln) arr f (cl && hn' == m) hb (by omega) (fun hq => by
              rw [Bool.and_eq_true] at hq
              have e := eq_of_beq hq.2
              have := hcl hq.1
              omega) ha h1 h2
            simpa [add_at] using this
        | shr0 a0 =>
          obtain rfl : hn' = 0 := by omega
          obtain rfl : ln = 0 := by omega
          exact ⟨_, by simpa using (VR.shr0 (Im := Im) (ρ := ρ) a0), fun w => run_sl ht hn hl hh hm hx e1 e2 (e3 := rfl) (Nat.le_refl _) (Nat.le_refl _) (Nat.le_refl _) _ w⟩
      · cases h
  · cases h
end Go.Proofs.Ythkjiclplecljaa.Sym

/- Structs laid together, bytes told as a string, comparisons of structs; and all operations that leave memory alone. -/
namespace Go.Proofs.Ythkjiclplecljaa.Sym
open Go
set_option linter.unusedVariables false
set_option linter.unusedSimpArgs false

theorem putL_length : ∀ (cs xs : List AV) (o : Nat), (putL xs o cs).length = xs.length
  | [], xs, o => rfl
  | c :: cs, xs, o => by rw [putL, putL_length cs, List.length_set]
theorem putL_get : ∀ (cs xs : List AV) (o i : Nat), o + cs.length ≤ xs.length → (putL xs o cs)[i]? = if o ≤ i ∧ i < o + cs.length then cs[i - o]? else xs[i]?
  | [], xs, o, i, h => by rw [putL, if_neg (by rw [List.length_nil]; omega)]
  | c :: cs, xs, o, i, h => by
    rw [List.length_cons] at h
    rw [putL, putL_get cs _ (o + 1) i (by rw [List.length_set]; omega), List.length_cons]
    by_cases h1 : o + 1 ≤ i ∧ i < o + 1 + cs.length
    · rw [if_pos h1, if_pos (by omega), show i - o = (i - (o + 1)) + 1 by omega, List.getElem?_cons_succ]
    · rw [if_neg h1, List.getElem?_set]
      by_cases h2 : o = i
      · subst h2
        rw [if_pos rfl, if_pos (by omega), if_pos (by omega), Nat.sub_self, List.getElem?_cons_zero]
      · rw [if_neg h2, if_neg (by omega)]
def putA (arr : Array Value) (o : Nat) (cs : Array Value) : Array Value := cs.zipIdx.foldl (fun cs (c, j) => cs.setIfInBounds (o + j) c) arr
theorem putA_list : ∀ (cs : List Value) (k o : Nat) (arr : Array Value), ((cs.zipIdx k).foldl (fun (a : Array Value) (p : Value × Nat) => a.setIfInBounds (o + p.2) p.1) arr).size = arr.size ∧ ∀ i, o + k + cs.length ≤ arr.size →
    ((cs.zipIdx k).foldl (fun (a : Array Value) (p : Value × Nat) => a.setIfInBounds (o + p.2) p.1) arr)[i]? = if o + k ≤ i ∧ i < o + k + cs.length then cs[i - (o + k)]? else arr[i]?
  | [], k, o, arr => ⟨rfl, fun i h => by rw [if_neg (by rw [List.length_nil]; omega)]; rfl⟩
  | c :: cs, k, o, arr => by
    obtain ⟨h1, h2⟩ := putA_list cs (k + 1) o (arr.setIfInBounds (o + k) c)
    rw [Array.size_setIfInBounds] at h1 h2
    refine ⟨by rw [List.zipIdx_cons, List.foldl_cons]; exact h1, fun i h => ?_⟩
    rw [List.length_cons] at h
    rw [List.zipIdx_cons, List.foldl_cons, h2 i (by omega), List.length_cons]
    by_cases q1 : o + (k + 1) ≤ i ∧ i < o + (k + 1) + cs.length
    · rw [if_pos q1, if_pos (by omega), show i - (o + k) = (i - (o + (k + 1))) + 1 by omega, List.getElem?_cons_succ]
    · rw [if_neg q1, Array.getElem?_setIfInBounds]
      by_cases q2 : o + k = i
      · subst q2
        rw [if_pos rfl, if_pos (by omega), if_pos (by omega), Nat.sub_self, List.getElem?_cons_zero]
      · rw [if_neg q2, if_neg (by omega)]
theorem putA_eq (arr : Array Value) (o : Nat) (cs : Array Value) : putA arr o cs = (cs.toList.zipIdx 0).foldl (fun (a : Array Value) (p : Value × Nat) => a.setIfInBounds (o + p.2) p.1) arr := by
  unfold putA
  rw [← Array.foldl_toList, Array.toList_zipIdx]
theorem putA_size (arr : Array Value) (o : Nat) (cs : Array Value) : (putA arr o cs).size = arr.size := by rw [putA_eq]; exact (putA_list _ _ _ _).1
theorem putA_get (arr : Array Value) (o : Nat) (cs : Array Value) (i : Nat) (h : o + cs.size ≤ arr.size) : (putA arr o cs)[i]? = if o ≤ i ∧ i < o + cs.size then cs[i - o]? else arr[i]? := by
  rw [putA_eq, (putA_list cs.toList 0 o arr).2 i (by simpa using h)]
  simp

/-- Cells as cells. -/
def CV (Im : Imm) (ρ : List Loc) (xs : List AV) (arr : Array Value) : Prop := xs.length = arr.size ∧ ∃ f : Nat → Value, (∀ (i : Nat) a, xs[i]? = some a → arr[i]? = some (f i)) ∧ ∀ (i : Nat) a, xs[i]? = some a → VR Im ρ a (f i)
theorem CV.at {Im : Imm} {ρ : List Loc} {xs : List AV} {arr : Array Value} (h : CV Im ρ xs arr) {i : Nat} {a : AV} (hi : xs[i]? = some a) : ∃ v, arr[i]? = some v ∧ VR Im ρ a v := by
  obtain ⟨_, f, h1, h2⟩ := h
  exact ⟨f i, h1 i a hi, h2 i a hi⟩
theorem CV.mk {Im : Imm} {ρ : List Loc} {xs : List AV} {arr : Array Value} (hl : xs.length = arr.size) (h : ∀ (i : Nat) a, xs[i]? = some a → ∃ v, arr[i]? = some v ∧ VR Im ρ a v) : CV Im ρ xs arr := by
  refine ⟨hl, fun i => arr.getD i undef, fun i a hi => ?_, fun i a hi => ?_⟩
  · obtain ⟨v, h1, h2⟩ := h i a hi
    rw [h1]
    simp [Array.getD_eq_getD_getElem?, h1]
  · obtain ⟨v, h1, h2⟩ := h i a hi
    simpa [Array.getD_eq_getD_getElem?, h1] using h2
theorem VR.cv {Im : Imm} {ρ : List Loc} {a : AV} {x : Value} (hf : (cellsOf a).all atom = true) (h : VR Im ρ a x) : CV Im ρ (cellsOf a) x.cells := by
  obtain ⟨f, h1, h2, h3⟩ := h.cells hf
  exact ⟨h1, f, h2, h3⟩
theorem CV.put {Im : Imm} {ρ : List Loc} {xs cs : List AV} {arr brr : Array Value} (h : CV Im ρ xs arr) (h' : CV Im ρ cs brr) (o : Nat) (hle : o + cs.length ≤ xs.length) : CV Im ρ (putL xs o cs) (putA arr o brr) := by
  have e1 := h.1
  have e2 := h'.1
  refine CV.mk (by rw [putL_length, putA_size, e1]) fun i a hi => ?_
  rw [putL_get _ _ _ _ hle] at hi
  rw [putA_get _ _ _ _ (by omega), ← e2]
  split at hi
  · rename_i hc
    rw [if_pos hc]
    exact h'.at hi
  · rename_i hc
    rw [if_neg hc]
    exact h.at hi
theorem CV.agg {Im : Imm} {ρ : List Loc} {xs : List AV} {arr : Array Value} (h : CV Im ρ xs arr) : VR Im ρ (.agg xs) (.agg arr) := by
  obtain ⟨hl, f, h1, h2⟩ := h
  exact .agg arr f hl h1 h2
theorem fill_ok {Im : Imm} {ρ : List Loc} {e : Env} {act : Act} (hE : EnvOK Im ρ e act) (place : Nat → Option (Nat × Nat)) : ∀ (parts : List (Nat × Operand)) (xs : List (Nat × Nat × AX)) (as : List (Nat × Nat × AV)) (zero cs : List AV) (arr : Array Value),
    cparts place parts = some xs → evP e xs = some as → fillL zero as = some cs → CV Im ρ zero arr → ∃ arr', Instr.fill place arr (parts.map fun p => (p.1, act.eval p.2)) = some arr' ∧ CV Im ρ cs arr'
  | [], xs, as, zero, cs, arr, h1, h2, h3, hz => by cases h1; cases h2; cases h3; exact ⟨arr, rfl, hz⟩
  | (i, x) :: parts, xs, as, zero, cs, arr, h1, h2, h3, hz => by
    simp only [cparts, Option.bind_eq_some_iff] at h1
    obtain ⟨⟨off, size⟩, hp, ax, hx, xs', hxs, h1⟩ := h1
    cases h1
    simp only [evP, Option.bind_eq_some_iff] at h2
    obtain ⟨a, ha, as', has, h2⟩ := h2
    cases h2
    simp only [fillL] at h3
    split at h3
    · rename_i hc
      obtain ⟨c1, c2, c3⟩ := hc
      have hv := (ev_ok hE hx ha).cv c3
      have hle : off + (cellsOf a).length ≤ zero.length := by omega
      obtain ⟨arr', hr, hcv⟩ := fill_ok hE place parts xs' as' _ cs _ hxs has h3 (hz.put hv off hle)
      refine ⟨arr', ?_, hcv⟩
      have e1 := hv.1
      have e2 := hz.1
      simp only [List.map_cons, Instr.fill, hp]
      rw [if_neg (by simp; omega)]
      exact hr
    · cases h3
theorem cz_ok {P : Program} {t : TypeId} {z : List AV} (h : cz P t = some z) (Im : Imm) (ρ : List Loc) : ∃ i v, P.info? t = some i ∧ i.zero = some v ∧ CV Im ρ z v.cells ∧ (∀ a ∈ z, atom a = true) ∧ ∀ a ∈ z, flat0 a = true := by
  simp only [cz, Option.bind_eq_some_iff] at h
  obtain ⟨i, hi, v, hv, h⟩ := h
  split at h
  · rename_i hp
    cases h
    refine ⟨i, v, hi, hv, CV.mk (by simp) fun j a hj => ?_, fun a ha => ?_, fun a ha => ?_⟩
    · have hl := (List.getElem?_eq_some_iff.1 hj).1
      rw [List.length_map] at hl
      rw [List.getElem?_map, List.getElem?_eq_getElem hl] at hj
      cases hj
      refine ⟨v.cells.toList[j], by rw [← Array.getElem?_toList, List.getElem?_eq_getElem hl], .v (List.all_eq_true.1 hp _ (List.getElem_mem hl))⟩
    · obtain ⟨x, _, rfl⟩ := List.mem_map.1 ha
      rfl
    · obtain ⟨x, _, rfl⟩ := List.mem_map.1 ha
      rfl
  · cases h
theorem places_ok {P : Program} : ∀ (fs : List Field), fs.all (fun f => (sizeT P f.type).isSome) = true → ∃ places, fs.mapM (fun f => (P.info? f.type).map fun i => (f.offset, i.size)) = some places ∧ ∀ i : Nat, places[i]? = (fs[i]?).bind fun f => (sizeT P f.type).map fun n => (f.offset, n)
  | [], _ => ⟨[], rfl, fun i => by simp⟩
  | f :: fs, h => by
    simp only [List.all_cons, Bool.and_eq_true] at h
    obtain ⟨ps, h1, h2⟩ := places_ok fs h.2
    obtain ⟨n, hn⟩ := Option.isSome_iff_exists.1 h.1
    have hn' := hn
    simp only [sizeT, Option.map_eq_some_iff] at hn
    obtain ⟨i, hi, rfl⟩ := hn
    refine ⟨(f.offset, i.size) :: ps, by simp [h1, hi], fun j => ?_⟩
    cases j with
    | zero => simp [hn']
    | succ j => simpa using h2 j
theorem build_ok {P : Program} {o : Oper} {t : TypeId} {parts : Array (Nat × Operand)} {ao : AO} (ho : o.op = .build t parts) (hc : compOp P o = some ao) {Im : Imm} {ρ : List Loc} {e : Env} {Ω : List Obj} {act : Act} (hE : EnvOK Im ρ e act) {r : AV} (h : aq e Ω ao = some r) :
    ∃ y, VR Im ρ r y ∧ ∀ w, (Instr.build t (parts.map fun (i, x) => (i, act.eval x))).run P w = .ok y w := by
  simp only [compOp, ho, Option.bind_eq_some_iff] at hc
  obtain ⟨z, hz, d, hd, hc⟩ := hc
  obtain ⟨it, zv, hi, hzv, hcv, _, _⟩ := cz_ok hz Im ρ
  have fin : ∀ (place : Nat → Option (Nat × Nat)) (ps : List (Nat × Nat × AX)), cparts place parts.toList = some ps → ao = .build z ps → (∀ cells, Instr.fill place zv.cells (parts.toList.map fun p => (p.1, act.eval p.2)) = some cells → P.built t (parts.map fun (i, x) => (i, act.eval x)).toList = some cells) →
      ∃ y, VR Im ρ r y ∧ ∀ w, (Instr.build t (parts.map fun (i, x) => (i, act.eval x))).run P w = .ok y w := fun place ps h1 h2 h3 => by
    subst h2
    simp only [aq, Option.bind_eq_some_iff, Option.map_eq_some_iff] at h
    obtain ⟨as, has, cs, hcs, rfl⟩ := h
    obtain ⟨arr, hr, hv⟩ := fill_ok hE place _ _ _ _ _ _ h1 has hcs hcv
    exact ⟨_, hv.agg, fun w => run_build w t _ _ (h3 _ hr)⟩
  split at hc
  · rename_i fs
    simp only [Option.bind_eq_some_iff] at hc
    obtain ⟨ps, hps, hc⟩ := hc
    split at hc
    · rename_i hall
      cases hc
      obtain ⟨places, p1, p2⟩ := places_ok fs.toList hall
      refine fin _ ps hps rfl fun cells hf => ?_
      unfold Program.built
      simp only [hi, hd, hzv, p1]
      rw [Array.toList_map]
      have e : (fun i : Nat => (fs[i]?).bind fun f => (sizeT P f.type).map fun n => (f.offset, n)) = fun i => places.toArray[i]? := by
        funext i
        have e1 : places.toArray[i]? = places[i]? := List.getElem?_toArray
        rw [e1, p2, Array.getElem?_toList]
      rw [e] at hf
      exact hf
    · cases hc
  · rename_i len el
    simp only [Option.bind_eq_some_iff] at hc
    obtain ⟨n, hn, ps, hps, hc⟩ := hc
    cases hc
    refine fin _ ps hps rfl fun cells hf => ?_
    have hn' := hn
    simp only [sizeT, Option.map_eq_some_iff] at hn
    obtain ⟨ie, hie, rfl⟩ := hn
    unfold Program.built
    simp only [hi, hd, hzv, hie]
    rw [Array.toList_map]
    exact hf
  · cases hc

theorem VR.inv_v {Im : Imm} {ρ : List Loc} {x y : Value} (h : VR Im ρ (.v x) y) : y = x := by cases h; rfl
/-! ### bytes as a string -/
theorem toNums_ok {Im : Imm} {ρ : List Loc} : ∀ (xs : List AV) (l : List Int), toNums xs = some l → xs.length = l.length ∧ ∀ (i : Nat) a, xs[i]? = some a → a = .v (.int .u8 (l.getD i 0))
  | [], l, h => by cases h; exact ⟨rfl, fun i a hi => by simp at hi⟩
  | x :: xs, l, h => by
    unfold toNums at h
    split at h
    · cases ‹_ :: _ = []›
    · rename_i n r hx
      simp only [Option.bind_eq_some_iff] at h
      obtain ⟨l', hl, h⟩ := h
      cases h
      cases hx
      obtain ⟨h1, h2⟩ := toNums_ok (Im := Im) (ρ := ρ) xs l' hl
      refine ⟨by simp [h1], fun i a hi => ?_⟩
      cases i with
      | zero => simpa using hi.symm
      | succ i => simpa using h2 i a (by simpa using hi)
    · cases h
theorem run_str {P : Program} {s d e : TypeId} (hs : P.underlying s = some (.slice e)) (he : u8T P e = true) (hd : P.underlying d = some .string) {Im : Imm} {ρ : List Loc} {w : World} {b o off n cap : Nat} {f : Nat → Value} {xs : List AV} (hL : Lies w b o f xs) (hV : ∀ (i : Nat) a, xs[i]? = some a → VR Im ρ a (f i))
    {l : List Int} (hle : off + n ≤ xs.length) (hl : toNums ((xs.drop off).take n) = some l) (w' : World) (hS : w'.heap[b]? = w.heap[b]?) : (convert s d (.slice (some ⟨b, o + off, none⟩) n cap)).run P w' = .ok (.string (strOfNums l)) w' := by
  have he' : P.underlying e = some (.int .u8) := by
    unfold u8T at he
    split at he
    · assumption
    · cases he
  obtain ⟨h1, h2⟩ := toNums_ok (Im := Im) (ρ := ρ) _ _ hl
  refine run_convert_bytes_arg w' s e hs he' b (o + off) n cap l ?_ (fun i hi => ?_) d hd
  · rw [← h1, List.length_take, List.length_drop]
    omega
  · have hx : ((xs.drop off).take n)[i]? = some xs[off + i] := by
      rw [List.getElem?_take_of_lt hi, List.getElem?_drop, List.getElem?_eq_getElem (by omega)]
    have e1 := h2 i _ hx
    have hv := hV (off + i) _ (List.getElem?_eq_getElem (by omega))
    rw [e1] at hv
    have hc := (hL.same hS).cell (i := off + i) (by omega)
    rw [Nat.add_assoc, hc, hv.inv_v]
theorem u8_under {P : Program} {e : TypeId} (he : u8T P e = true) : P.underlying e = some (.int .u8) := by
  unfold u8T at he
  split at he
  · assumption
  · cases he
theorem cvbs_ok {P : Program} {s d el : TypeId} (hs : P.underlying s = some (.slice el)) (he : u8T P el = true) (hd : P.underlying d = some .string) {Im : Imm} {ρ : List Loc} {e : Env} {Ω : List Obj} {w : World} (hR : Rel Im ρ Ω w) {x : AX} {a r : AV} {u : Value} (ha : ev e x = some a) (hu : VR Im ρ a u) (h : aq e Ω (.cvbs x) = some r) :
    ∃ y, VR Im ρ r y ∧ ∀ w', SameK Im ρ Ω w w' → (convert s d u).run P w' = .ok y w' := by
  simp only [aq, ha, Option.bind_some] at h
  split at h
  · cases h
    cases hu
    exact ⟨_, .v rfl, fun w' _ => run_convert_bytes_nil w' s el hs (u8_under he) 0 0 d hd⟩
  · rename_i n cl xs
    split at h
    · rename_i hn
      rw [Option.map_eq_some_iff] at h
      obtain ⟨l, hl, rfl⟩ := h
      cases hu with
      | shr b o cap arr f hb hc hcl hat h1 h2 =>
        obtain ⟨T, fz, hw⟩ := hR.im _ _ hb
        refine ⟨_, .v rfl, fun w' hS => ?_⟩
        have := run_str (P := P) hs he hd (Im := Im) (ρ := []) (w := w) (b := b) (o := o) (off := 0) (n := n) (cap := cap) (f := f) (xs := xs) ⟨arr, T, fz, hw, h1⟩ h2 (by omega) (by rw [List.drop_zero, ← hn, List.take_length]; exact hl) w' (hS b (.inl ⟨_, hb⟩))
        exact this
      | shr0 a0 =>
        cases hl
        refine ⟨_, .v rfl, fun w' _ => ?_⟩
        cases a0 with
        | none => exact run_convert_bytes_nil w' s el hs (u8_under he) 0 0 d hd
        | some a =>
          rw [run_convert_bytes_string w' s d el _ 0 0 hs (u8_under he) hd]
          simp [Conv.bytesToString, loadCells, loadCellsFrom]
          rfl
    · cases h
  · rename_i k off n sz c
    split at h
    · simp only [Option.bind_eq_some_iff] at h
      obtain ⟨ob, hob, h⟩ := h
      split at h
      · rename_i hle
        rw [Option.map_eq_some_iff] at h
        obtain ⟨l, hl, rfl⟩ := h
        cases hu with
        | view b o s' cap hk hc h1 h2 h3 =>
          obtain ⟨f, hL, hV⟩ := hR.lies hob hk
          exact ⟨_, .v rfl, fun w' hS => run_str hs he hd hL hV hle hl w' (hS b (.inr ⟨k, ob, o, s', (getO_some hob).1, (getO_some hob).2, hk⟩))⟩
        | viewE b o s' o' hk h1 h2 h3 =>
          obtain ⟨f, hL, hV⟩ := hR.lies hob hk
          rw [List.take_zero] at hl
          cases hl
          refine ⟨_, .v rfl, fun w' hS => ?_⟩
          have := run_convert_bytes_arg (P := P) w' s el hs (u8_under he) b o' 0 0 [] rfl (fun i hi => by omega) d hd
          exact this
        | view0 hk h1 =>
          rw [List.take_zero] at hl
          cases hl
          exact ⟨_, .v rfl, fun w' _ => run_convert_bytes_nil w' s el hs (u8_under he) 0 0 d hd⟩
      · cases h
    · cases h
  · cases h

/-! ### comparisons of structs -/
def vLeaf : LK → Value → Value → Option Bool
  | .i, .int k a, .int k' b => if k = k' then some (a == b) else none
  | .b, .bool a, .bool b => some (a == b)
  | .s, .string a, .string b => some (decide (a = b))
  | _, _, _ => none
def vEq (xs ys : Array Value) : List (Nat × LK) → Option Bool
  | [] => some true
  | (i, k) :: is => match xs[i]?, ys[i]? with
    | some x, some y => (vLeaf k x y).bind fun b => (vEq xs ys is).map fun c => b && c
    | _, _ => none
theorem vLeaf_b {u v : Value} {b : Bool} (h : vLeaf .b u v = some b) : ∃ x y, u = .bool x ∧ v = .bool y ∧ b = (x == y) := by
  cases u <;> cases v <;> simp only [vLeaf] at h <;> first | exact ⟨_, _, rfl, rfl, (Option.some.inj h).symm⟩ | cases h
theorem vLeaf_i {u v : Value} {b : Bool} (h : vLeaf .i u v = some b) : ∃ k x y, u = .int k x ∧ v = .int k y ∧ b = (x == y) := by
  cases u <;> cases v <;> simp only [vLeaf] at h <;> first | (cases h; done) | (split at h <;> first | (rename_i hk; subst hk; exact ⟨_, _, _, rfl, rfl, (Option.some.inj h).symm⟩) | cases h)
theorem vLeaf_s {u v : Value} {b : Bool} (h : vLeaf .s u v = some b) : ∃ x y, u = .string x ∧ v = .string y ∧ b = decide (x = y) := by
  cases u <;> cases v <;> simp only [vLeaf] at h <;> first | exact ⟨_, _, rfl, rfl, (Option.some.inj h).symm⟩ | cases h
theorem vEq_of {Im : Imm} {ρ : List Loc} {xs ys : List AV} {arr brr : Array Value} (h : CV Im ρ xs arr) (h' : CV Im ρ ys brr) : ∀ (ls : List (Nat × LK)) (b : Bool), leavesEq xs ys ls = some b → vEq arr brr ls = some b
  | [], b, e => by cases e; rfl
  | (i, k) :: ls, b, e => by
    rw [leavesEq] at e
    split at e
    · rename_i x y hx hy
      simp only [Option.bind_eq_some_iff, Option.map_eq_some_iff] at e
      obtain ⟨c, hc, d, hd, rfl⟩ := e
      obtain ⟨u, hu, hu'⟩ := h.at hx
      obtain ⟨v, hv, hv'⟩ := h'.at hy
      have : vLeaf k u v = some c := by
        unfold leafEq at hc
        split at hc <;> first | (cases hc; done) | (rw [hu'.inv_v, hv'.inv_v]; exact hc)
      simp only [vEq, hu, hv, vEq_of h h' ls d hd, this, Option.bind_some, Option.map_some]
    · cases e
theorem vEq_append (xs ys : Array Value) : ∀ (l r : List (Nat × LK)) (b : Bool), vEq xs ys (l ++ r) = some b → ∃ c d, vEq xs ys l = some c ∧ vEq xs ys r = some d ∧ b = (c && d)
  | [], r, b, h => ⟨true, b, rfl, h, by simp⟩
  | (i, k) :: l, r, b, h => by
    rw [List.cons_append, vEq] at h
    rw [vEq]
    split at h
    · rename_i x y hx hy
      simp only [Option.bind_eq_some_iff, Option.map_eq_some_iff] at h
      obtain ⟨c, hc, d, hd, rfl⟩ := h
      obtain ⟨c', d', e1, e2, rfl⟩ := vEq_append xs ys l r d hd
      exact ⟨c && c', d', by simp [hc, e1], e2, by rw [Bool.and_assoc]⟩
    · cases h
theorem vEq_shift (xs ys : Array Value) (o n : Nat) : ∀ (l : List (Nat × LK)), l.all (fun l => decide (l.1 < n)) = true → vEq xs ys (l.map fun l => (o + l.1, l.2)) = vEq (xs.extract o (o + n)) (ys.extract o (o + n)) l
  | [], _ => rfl
  | (i, k) :: l, h => by
    simp only [List.all_cons, Bool.and_eq_true, decide_eq_true_eq] at h
    have e : ∀ zs : Array Value, (zs.extract o (o + n))[i]? = zs[o + i]? := fun zs => by
      rw [Array.getElem?_extract]
      by_cases hz : i < min (o + n) zs.size - o
      · rw [if_pos hz]
      · rw [if_neg hz, Array.getElem?_eq_none (by omega)]
    rw [List.map_cons, vEq, vEq, vEq_shift xs ys o n l h.2, e, e]
theorem run_eqFields {P : Program} (w : World) (go : TypeId → Option (List (Nat × LK))) (m : Nat) (xs ys : Array Value)
    (hgo : ∀ t ls, go t = some ls → (∀ us vs b, vEq us vs ls = some b → isAggT P t = some true → (Op.equalIn m t (.agg us) (.agg vs)).run P w = .ok b w) ∧ (∀ u v b k, ls = [(0, k)] → vLeaf k u v = some b → isAggT P t = some false → (Op.equalIn m t u v).run P w = .ok b w) ∧ (isAggT P t = some true ∨ isAggT P t = some false ∧ ∃ k, ls = [(0, k)])) :
    ∀ (fs : List Field) (ls : List (Nat × LK)) (b : Bool), leavesF P go fs = some ls → vEq xs ys ls = some b → (Op.eqFields m xs ys fs).run P w = .ok b w
  | [], ls, b, h, hb => by cases h; cases hb; simp [Op.eqFields]
  | f :: fs, ls, b, h, hb => by
    rw [leavesF] at h
    split at h
    · rename_i hn
      rw [Op.eqFields, if_neg (by simpa using hn)]
      exact run_eqFields w go m xs ys hgo fs ls b h hb
    · rename_i hn
      simp only [Option.bind_eq_some_iff] at h
      obtain ⟨a, ha, n, hsz, c, hc, h⟩ := h
      split at h
      · rename_i hall
        cases h
        obtain ⟨b1, b2, e1, e2, rfl⟩ := vEq_append _ _ _ _ _ hb
        have rest := run_eqFields w go m xs ys hgo fs c b2 hc e2
        obtain ⟨g1, g2, g3⟩ := hgo _ _ ha
        have step : ∀ u v, (part f.type xs f.offset).run P w = .ok u w → (part f.type ys f.offset).run P w = .ok v w → (Op.equalIn m f.type u v).run P w = .ok b1 w → (Op.eqFields m xs ys (f :: fs)).run P w = .ok (b1 && b2) w := fun u v hu hv he => by
          rw [Op.eqFields]
          simp only [if_pos (show f.name ≠ "_" from hn), Sem.run_bind, hu, hv, he, Result.andThen_ok]
          cases b1
          · simp
          · simpa using rest
        rcases g3 with ht | ⟨ht, k, rfl⟩
        · rw [vEq_shift _ _ _ _ _ hall] at e1
          refine step _ _ ?_ ?_ (g1 _ _ _ e1 ht)
          · simp [part, run_isAgg ht, run_sizeOf' hsz]
          · simp [part, run_isAgg ht, run_sizeOf' hsz]
        · simp only [List.map_cons, List.map_nil, Nat.add_zero, vEq] at e1
          split at e1
          · rename_i x y hx hy
            simp only [Option.map_some, Bool.and_true, Option.bind_eq_some_iff] at e1
            obtain ⟨b', hb', e1⟩ := e1
            cases e1
            refine step x y ?_ ?_ (g2 _ _ _ _ rfl hb' ht)
            · simp [part, run_isAgg ht, hx]
            · simp [part, run_isAgg ht, hy]
          · cases e1
      · cases h
theorem run_eqItems {P : Program} (w : World) (m : Nat) (e : TypeId) (k : LK) (he : isAggT P e = some false) (xs ys : Array Value) (hgo : ∀ u v b, vLeaf k u v = some b → (Op.equalIn m e u v).run P w = .ok b w) :
    ∀ (is : List Nat) (b : Bool), vEq xs ys (is.map fun i => (i, k)) = some b → (Op.eqItems m e 1 xs ys is).run P w = .ok b w
  | [], b, h => by cases h; simp [Op.eqItems]
  | i :: is, b, h => by
    rw [List.map_cons, vEq] at h
    split at h
    · rename_i x y hx hy
      simp only [Option.bind_eq_some_iff, Option.map_eq_some_iff] at h
      obtain ⟨c, hc, d, hd, rfl⟩ := h
      have h1 : (part e xs (i * 1)).run P w = .ok x w := by simp [part, run_isAgg he, hx]
      have h2 : (part e ys (i * 1)).run P w = .ok y w := by simp [part, run_isAgg he, hy]
      simp only [Op.eqItems, Sem.run_bind, h1, h2, hgo x y c hc, Result.andThen_ok]
      cases c
      · simp
      · simpa using run_eqItems w m e k he xs ys hgo is d hd
    · cases h
theorem run_leaves {P : Program} (w : World) : ∀ (n j : Nat) (t : TypeId) (ls : List (Nat × LK)), leavesT P n t = some ls → (∀ us vs b, vEq us vs ls = some b → isAggT P t = some true → (Op.equalIn (n + j) t (.agg us) (.agg vs)).run P w = .ok b w) ∧ (∀ u v b k, ls = [(0, k)] → vLeaf k u v = some b → isAggT P t = some false → (Op.equalIn (n + j) t u v).run P w = .ok b w) ∧ (isAggT P t = some true ∨ isAggT P t = some false ∧ ∃ k, ls = [(0, k)])
  | 0, j, t, ls, h => by cases h
  | n + 1, j, t, ls, h => by
    simp only [leavesT, Option.bind_eq_some_iff] at h
    obtain ⟨d, hd, h⟩ := h
    have scalar : ∀ k, ls = [(0, k)] → isAggT P t = some false → (∀ u v b, vLeaf k u v = some b → (Op.equalIn (n + 1 + j) t u v).run P w = .ok b w) → _ := fun k e1 e2 e3 =>
      (⟨fun us vs b _ ha => (by rw [e2] at ha; cases ha), fun u v b k' ek hv _ => (by rw [e1] at ek; cases ek; exact e3 u v b hv), .inr ⟨e2, k, e1⟩⟩ :
        (∀ us vs b, vEq us vs ls = some b → isAggT P t = some true → (Op.equalIn (n + 1 + j) t (.agg us) (.agg vs)).run P w = .ok b w) ∧ (∀ u v b k, ls = [(0, k)] → vLeaf k u v = some b → isAggT P t = some false → (Op.equalIn (n + 1 + j) t u v).run P w = .ok b w) ∧ (isAggT P t = some true ∨ isAggT P t = some false ∧ ∃ k, ls = [(0, k)]))
    have en : n + 1 + j = (n + j) + 1 := by omega
    split at h
    · cases h
      refine scalar .b rfl (by simp [isAggT, hd]) fun u v b hv => ?_
      rw [en]
      obtain ⟨x, y, rfl, rfl, rfl⟩ := vLeaf_b hv
      exact run_equalIn_bool w _ t _ _ hd
    · cases h
      refine scalar .i rfl (by simp [isAggT, hd]) fun u v b hv => ?_
      rw [en]
      obtain ⟨k, x, y, rfl, rfl, rfl⟩ := vLeaf_i hv
      exact run_equalIn_int w _ t k _ x y hd
    · cases h
      refine scalar .s rfl (by simp [isAggT, hd]) fun u v b hv => ?_
      rw [en]
      obtain ⟨x, y, rfl, rfl, rfl⟩ := vLeaf_s hv
      rw [run_equalIn_string w _ t x y hd, toList_beq]
    · rename_i fs
      split at h
      · cases h
      · rename_i hp
        refine ⟨fun us vs b hv ha => ?_, fun u v b k ek hv ha => ?_, .inl (by simp [isAggT, hd])⟩
        · rw [en]
          have hf : P.fieldsOf t = fs := by simp only [Program.fieldsOf, hd]
          rw [run_equalIn_struct w (n + j) t us vs (by rw [hf]; exact hd) (by simpa using hp), hf]
          exact run_eqFields w (leavesT P n) (n + j) us vs (fun t' ls' h' => run_leaves w n j t' ls' h') _ _ _ h hv
        · simp [isAggT, hd] at ha
    · rename_i len e
      rw [Option.bind_eq_some_iff] at h
      obtain ⟨l, hl, h⟩ := h
      split at h
      · rename_i k
        split at h
        · rename_i hq
          cases h
          obtain ⟨i, hi⟩ := Option.isSome_iff_exists.1 hq.2.2
          refine ⟨fun us vs b hv ha => ?_, fun u v b k ek hv ha => ?_, .inl (by simp [isAggT, hd])⟩
          · rw [en, run_equalIn_array w (n + j) us vs hd hi, hq.1]
            exact run_eqItems w (n + j) e k hq.2.1 us vs (fun u v b hb => (run_leaves w n j e _ hl).2.1 u v b k rfl hb hq.2.1) _ b hv
          · simp [isAggT, hd] at ha
        · cases h
      · cases h
    · cases h
theorem eqst_ok {P : Program} {op : BinOp} (hop : eqLike op = true) {t : TypeId} (ht : isAggT P t = some true) (hg : P.eqGuardType P.depth t = false) {ls : List (Nat × LK)} (hl : leavesT P 50 t = some ls) {xs ys : List AV} {b : Bool} (h : leavesEq xs ys ls = some b)
    {Im : Imm} {ρ : List Loc} {u v : Value} (hu : VR Im ρ (.agg xs) u) (hv : VR Im ρ (.agg ys) v) (ox oy : Operand) (w : World) : (do eqGuard op t ox oy u v; binOp op t u v : Sem Value).run P w = .ok (.bool (b != (op == .neq))) w := by
  cases hu with
  | agg arr f hl1 h1 h2 =>
    cases hv with
    | agg brr g hl2 h3 h4 =>
      have he : (Op.equalIn 10000 t (.agg arr) (.agg brr)).run P w = .ok b w := (run_leaves w 50 9950 t ls hl).1 _ _ _ (vEq_of (Im := Im) (ρ := ρ) ⟨hl1, f, h1, h2⟩ ⟨hl2, g, h3, h4⟩ ls b h) ht
      rw [Sem.run_bind, run_eqGuard_agg w op t ox oy arr brr hg, Result.andThen_ok]
      cases op <;> first | (simp [eqLike] at hop; done) | skip
      · rw [run_eql_struct, he]; cases b <;> rfl
      · rw [run_neq_struct, he]; cases b <;> rfl

theorem vrs_cv {Im : Imm} {ρ : List Loc} : ∀ {as : List AV} {us : List Value}, VRs Im ρ as us → CV Im ρ as us.toArray
  | [], [], _ => CV.mk rfl (fun i a hi => by simp at hi)
  | a :: as, u :: us, h => by
    have h2 := vrs_cv h.2
    refine CV.mk (by have := h2.1; simp at this ⊢; exact this) fun i b hi => ?_
    cases i with
    | zero => simp at hi; subst hi; exact ⟨u, by simp, h.1⟩
    | succ i =>
      obtain ⟨v, hv1, hv2⟩ := h2.at (i := i) (a := b) (by simpa using hi)
      exact ⟨v, by simpa using hv1, hv2⟩
  | [], _ :: _, h => h.elim
  | _ :: _, [], h => h.elim
/-! ### all of them -/
theorem do_value {P : Program} {s : Sem Value} {y : Value} {w : World} (h : s.run P w = .ok y w) : (do pure (.value (← s)) : Sem Next).run P w = .ok (.value y) w := by
  rw [Sem.run_bind, h]
  rfl
theorem bnd_mx {Im : Imm} {ρ : List Loc} {e : Env} {o o' : Option Operand} {x x' : Option AX} {a a' : Option AV} (hc : cxo o = some x) (h : evO e x = some a) (hc' : cxo o' = some x') (h' : evO e x' = some a') (hn : ¬ (x.isSome = true ∧ x'.isNone = true)) : a.isSome = true → a'.isSome = true := fun ha => by
  cases x with
  | none => cases h; simp at ha
  | some x =>
    cases x' with
    | none => simp at hn
    | some x' =>
      simp only [evO, Option.map_eq_some_iff] at h'
      obtain ⟨b, _, rfl⟩ := h'
      rfl
theorem run_min {P : Program} {v : Value} {vs : List Value} {y : Value} {ts : Array TypeId} {ty : TypeId} {w : World} (h : (vs.foldlM Builtin.min2 v).run P w = .ok y w) : (Builtin.min_ ts ty (v :: vs).toArray).run P w = .ok y w := h
theorem run_max {P : Program} {v : Value} {vs : List Value} {y : Value} {ts : Array TypeId} {ty : TypeId} {w : World} (h : (vs.foldlM Builtin.max2 v).run P w = .ok y w) : (Builtin.max_ ts ty (v :: vs).toArray).run P w = .ok y w := h
theorem aFold_cons {f : AV → AV → Option AV} {l : List AV} {r : AV} (h : aFold f l = some r) : ∃ a as, l = a :: as ∧ aFoldL f a as = some r := by
  cases l with
  | nil => simp [aFold] at h
  | cons a as => exact ⟨a, as, rfl, h⟩

/-- An operation that leaves memory alone yields the same value in every world in which the old blocks are as they were. -/
def YieldsQ (P : Program) (Im : Imm) (ρ : List Loc) (Ω : List Obj) (o : Oper) (act : Act) (w : World) (r : AV) : Prop := ∃ y, VR Im ρ r y ∧ ∀ w', SameK Im ρ Ω w w' → (execOp act.eval o).run P w' = .ok (.value y) w'
theorem aq_ok {P : Program} {o : Oper} {ao : AO} (hc : compOp P o = some ao) {Im : Imm} {ρ : List Loc} {Ω : List Obj} {w : World} (hR : Rel Im ρ Ω w) {e : Env} {act : Act} (hE : EnvOK Im ρ e act) {r : AV} (h : aq e Ω ao = some r) : YieldsQ P Im ρ Ω o act w r := by
  have val : ∀ (s : Sem Value), execOp act.eval o = (do pure (.value (← s)) : Sem Next) → (∃ y, VR Im ρ r y ∧ ∀ w', SameK Im ρ Ω w w' → s.run P w' = .ok y w') → YieldsQ P Im ρ Ω o act w r := fun s hs ⟨y, hy, hr⟩ => ⟨y, hy, fun w' h' => by rw [hs]; exact do_value (hr w' h')⟩
  have val' : ∀ (s : Sem Value), execOp act.eval o = (do pure (.value (← s)) : Sem Next) → (∃ y, VR Im ρ r y ∧ ∀ w', s.run P w' = .ok y w') → YieldsQ P Im ρ Ω o act w r := fun s hs ⟨y, hy, hr⟩ => val s hs ⟨y, hy, fun w' _ => hr w'⟩
  have hc0 := hc
  cases ho : o.op with
  | move x =>
    simp only [compOp, ho, Option.map_eq_some_iff] at hc
    obtain ⟨ax, hx, rfl⟩ := hc
    exact ⟨_, ev_ok hE hx h, fun w' _ => by simp [execOp, ho]⟩
  | assign x =>
    simp only [compOp, ho, Option.map_eq_some_iff] at hc
    obtain ⟨ax, hx, rfl⟩ := hc
    exact ⟨_, ev_ok hE hx h, fun w' _ => by simp [execOp, ho]⟩
  | pick c a b =>
    simp only [compOp, ho, Option.bind_eq_some_iff] at hc
    obtain ⟨xc, h1, xa, h2, xb, h3, hc⟩ := hc
    cases hc
    simp only [aq, Option.bind_eq_some_iff] at h
    obtain ⟨vc, e1, va, e2, vb, e3, h⟩ := h
    obtain ⟨y, hy, hr⟩ := aPick_ok (P := P) h (ev_ok hE h1 e1) (ev_ok hE h2 e2) (ev_ok hE h3 e3)
    exact ⟨y, hy, fun w' _ => by simp only [execOp, ho]; exact hr w'⟩
  | binOp op t x y t' =>
    simp only [compOp, ho, Option.bind_eq_some_iff] at hc
    obtain ⟨ax, h1, ay, h2, d, hd, hc⟩ := hc
    have hex : execOp act.eval o = (do pure (.value (← (do eqGuard op t x y (act.eval x) (act.eval y); binOp op t (act.eval x) (act.eval y) : Sem Value))) : Sem Next) := by simp only [execOp, ho]
    refine val' _ hex ?_
    have boolRes : ∀ b, r = .v (.bool b) → (∀ w', (do eqGuard op t x y (act.eval x) (act.eval y); binOp op t (act.eval x) (act.eval y) : Sem Value).run P w' = .ok (.bool b) w') → ∃ y_1, VR Im ρ r y_1 ∧ ∀ w', (do eqGuard op t x y (act.eval x) (act.eval y); binOp op t (act.eval x) (act.eval y) : Sem Value).run P w' = .ok y_1 w' := fun b hb hw => ⟨_, hb ▸ .v rfl, hw⟩
    split at hc
    · cases hc
      simp only [aq, Option.bind_eq_some_iff] at h
      obtain ⟨vx, e1, vy, e2, h⟩ := h
      exact aBin_ok h t (ev_ok hE h1 e1) (ev_ok hE h2 e2) x y
    · cases hc
      simp only [aq, Option.bind_eq_some_iff] at h
      obtain ⟨vx, e1, vy, e2, h⟩ := h
      exact aBin_ok h t (ev_ok hE h1 e1) (ev_ok hE h2 e2) x y
    · split at hc
      · rename_i hop
        cases hc
        simp only [aq, Option.bind_eq_some_iff, Option.map_eq_some_iff] at h
        obtain ⟨vx, e1, vy, e2, b, hb, rfl⟩ := h
        exact boolRes _ rfl fun w' => aEqB_ok hop hb hd (ev_ok hE h1 e1) (ev_ok hE h2 e2) x y w'
      · cases hc
    · split at hc
      · rename_i hop
        cases hc
        simp only [aq, Option.bind_eq_some_iff, Option.map_eq_some_iff] at h
        obtain ⟨vx, e1, vy, e2, b, hb, rfl⟩ := h
        exact boolRes _ rfl fun w' => aEqP_ok hop hb hd (ev_ok hE h1 e1) (ev_ok hE h2 e2) x y w'
      · cases hc
    · split at hc
      · rename_i hop
        cases hc
        simp only [aq, Option.bind_eq_some_iff, Option.map_eq_some_iff] at h
        obtain ⟨vx, e1, vy, e2, b, hb, rfl⟩ := h
        exact boolRes _ rfl fun w' => aEqS_ok hop hb hd (ev_ok hE h1 e1) (ev_ok hE h2 e2) x y w'
      · cases hc
    · split at hc
      · rename_i hop
        simp only [Bool.and_eq_true, Bool.not_eq_true'] at hop
        simp only [Option.bind_eq_some_iff] at hc
        obtain ⟨ls, hls, hc⟩ := hc
        cases hc
        simp only [aq, Option.bind_eq_some_iff] at h
        obtain ⟨vx, e1, vy, e2, h⟩ := h
        split at h
        · simp only [Option.map_eq_some_iff] at h
          obtain ⟨b, hb, rfl⟩ := h
          exact boolRes _ rfl fun w' => eqst_ok hop.1 (by simp [isAggT, hd]) hop.2 hls hb (ev_ok hE h1 e1) (ev_ok hE h2 e2) x y w'
        · cases h
      · cases hc
    · split at hc
      · rename_i hop
        simp only [Bool.and_eq_true, Bool.not_eq_true'] at hop
        simp only [Option.bind_eq_some_iff] at hc
        obtain ⟨ls, hls, hc⟩ := hc
        cases hc
        simp only [aq, Option.bind_eq_some_iff] at h
        obtain ⟨vx, e1, vy, e2, h⟩ := h
        split at h
        · simp only [Option.map_eq_some_iff] at h
          obtain ⟨b, hb, rfl⟩ := h
          exact boolRes _ rfl fun w' => eqst_ok hop.1 (by simp [isAggT, hd]) hop.2 hls hb (ev_ok hE h1 e1) (ev_ok hE h2 e2) x y w'
        · cases h
      · cases hc
    · cases hc
  | unOp op t x =>
    simp only [compOp, ho, Option.map_eq_some_iff] at hc
    obtain ⟨ax, hx, rfl⟩ := hc
    simp only [aq, Option.bind_eq_some_iff] at h
    obtain ⟨vx, e1, h⟩ := h
    exact val' _ (by simp only [execOp, ho]) (aUn_ok h (ev_ok hE hx e1))
  | load t x =>
    simp only [compOp, ho, Option.bind_eq_some_iff] at hc
    obtain ⟨m, hm, ax, hx, hc⟩ := hc
    cases hc
    simp only [aq, Option.bind_eq_some_iff] at h
    obtain ⟨vx, e1, h⟩ := h
    exact val _ (by simp only [execOp, ho]) (aLoad_ok hm hR (ev_ok hE hx e1) h)
  | field t x f =>
    simp only [compOp, ho, Option.bind_eq_some_iff] at hc
    obtain ⟨d, hd, hc⟩ := hc
    split at hc
    · rename_i fs
      simp only [Option.bind_eq_some_iff] at hc
      obtain ⟨fd, hf, m, hm, ax, hx, hc⟩ := hc
      cases hc
      simp only [aq, Option.bind_eq_some_iff] at h
      obtain ⟨vx, e1, h⟩ := h
      obtain ⟨cs, hcs, y, hy, hr⟩ := aField_ok (P := P) hm h (ev_ok hE hx e1)
      exact val' (Instr.field t (act.eval x) f) (by simp only [execOp, ho]) ⟨y, hy, fun w' => by simp [Instr.field, run_underlying hd, hf, hcs, asAgg, hr]⟩
    · cases hc
  | fieldAddr t x f =>
    simp only [compOp, ho, Option.bind_eq_some_iff] at hc
    obtain ⟨d, hd, hc⟩ := hc
    split at hc
    · rename_i fs
      simp only [Option.bind_eq_some_iff] at hc
      obtain ⟨fd, hf, n, hn, hc⟩ := hc
      split at hc
      · cases hc
      · rename_i hn0
        simp only [Option.bind_eq_some_iff] at hc
        obtain ⟨ax, hx, hc⟩ := hc
        cases hc
        simp only [aq, Option.bind_eq_some_iff] at h
        obtain ⟨vx, e1, h⟩ := h
        obtain ⟨b, off, hp, hr⟩ := aFad_ok h (ev_ok hE hx e1)
        exact val' (Instr.fieldAt t (act.eval x) f) (by simp only [execOp, ho]) ⟨_, hr, fun w' => by simp [Instr.fieldAt, run_underlying hd, hf, hp, Instr.sureAddr, fieldPlace, run_sizeOf' hn, hn0, add_at]⟩
    · cases hc
  | nilCheck x =>
    simp only [compOp, ho, Option.map_eq_some_iff] at hc
    obtain ⟨ax, hx, rfl⟩ := hc
    simp only [aq, Option.bind_eq_some_iff] at h
    obtain ⟨vx, e1, h⟩ := h
    obtain ⟨hv, a, ha⟩ := aNilck_ok (P := P) h (ev_ok hE hx e1)
    exact ⟨_, hv, fun w' _ => by simp only [execOp, ho, ha]; rfl⟩
  | indexAddr t x i =>
    simp only [compOp, ho, Option.bind_eq_some_iff] at hc
    obtain ⟨ax, hx, ai, hi, d, hd, hc⟩ := hc
    split at hc
    · simp only [Option.bind_eq_some_iff] at hc
      obtain ⟨n, hn, hc⟩ := hc
      cases hc
      simp only [aq, Option.bind_eq_some_iff] at h
      obtain ⟨vx, e1, vi, e2, h⟩ := h
      exact val' _ (by simp only [execOp, ho]) (aIxS_ok hd hn h (ev_ok hE hx e1) (ev_ok hE hi e2))
    · simp only [Option.bind_eq_some_iff] at hc
      obtain ⟨n, hn, hc⟩ := hc
      cases hc
      simp only [aq, Option.bind_eq_some_iff] at h
      obtain ⟨vx, e1, vi, e2, h⟩ := h
      exact val' _ (by simp only [execOp, ho]) (aIxA_ok hd hn h (ev_ok hE hx e1) (ev_ok hE hi e2))
    · cases hc
  | index t x i =>
    simp only [compOp, ho, Option.bind_eq_some_iff] at hc
    obtain ⟨ax, hx, ai, hi, d, hd, hc⟩ := hc
    split at hc
    · cases hc
      simp only [aq, Option.bind_eq_some_iff] at h
      obtain ⟨vx, e1, vi, e2, h⟩ := h
      exact val' _ (by simp only [execOp, ho]) (aIxStr_ok hd h (ev_ok hE hx e1) (ev_ok hE hi e2))
    · simp only [Option.bind_eq_some_iff] at hc
      obtain ⟨n, hn, m, hm, hc⟩ := hc
      cases hc
      simp only [aq, Option.bind_eq_some_iff] at h
      obtain ⟨vx, e1, vi, e2, h⟩ := h
      exact val' _ (by simp only [execOp, ho]) (aIxV_ok hd hn hm h (ev_ok hE hx e1) (ev_ok hE hi e2))
    · cases hc
  | extract x i =>
    simp only [compOp, ho, Option.map_eq_some_iff] at hc
    obtain ⟨ax, hx, rfl⟩ := hc
    simp only [aq, Option.bind_eq_some_iff] at h
    obtain ⟨vx, e1, h⟩ := h
    exact val' _ (by simp only [execOp, ho]) (aExt_ok h (ev_ok hE hx e1))
  | convert s d x =>
    simp only [compOp, ho, Option.bind_eq_some_iff] at hc
    obtain ⟨ax, hx, su, hs, du, hd, hc⟩ := hc
    split at hc
    · cases hc
      simp only [aq, Option.bind_eq_some_iff] at h
      obtain ⟨vx, e1, h⟩ := h
      exact val' _ (by simp only [execOp, ho]) (aCvi_ok hs hd h (ev_ok hE hx e1))
    · cases hc
      simp only [aq, Option.bind_eq_some_iff] at h
      obtain ⟨vx, e1, h⟩ := h
      exact val' _ (by simp only [execOp, ho]) (aCvs_ok hs hd h (ev_ok hE hx e1))
    · split at hc
      · cases hc
        simp [aq] at h
      · cases hc
    · split at hc
      · rename_i he
        cases hc
        have h' := h
        simp only [aq, Option.bind_eq_some_iff] at h'
        obtain ⟨vx, e1, _⟩ := h'
        exact val _ (by simp only [execOp, ho]) (cvbs_ok hs he hd hR e1 (ev_ok hE hx e1) h)
      · cases hc
    · cases hc
  | slice t x lo hi mx =>
    simp only [compOp, ho, Option.bind_eq_some_iff] at hc
    obtain ⟨ax, hx, al, hl, ah, hh, am, hm, d, hd, hc⟩ := hc
    split at hc
    · split at hc
      · rename_i hmn
        cases hc
        simp only [aq, Option.bind_eq_some_iff] at h
        obtain ⟨vx, e1, vl, e2, vh, e3, h⟩ := h
        have hmx : mx = none := by
          cases mx with
          | none => rfl
          | some m => simp only [cxo, Option.map_eq_some_iff] at hm; obtain ⟨z, _, rfl⟩ := hm; simp at hmn
        subst hmx
        exact val' _ (by simp only [execOp, ho]; rfl) (aSlStr_ok hd h (ev_ok hE hx e1) (evO_ok hE hl e2) (evO_ok hE hh e3))
      · cases hc
    · simp only [Option.bind_eq_some_iff] at hc
      obtain ⟨n, hn, hc⟩ := hc
      split at hc
      · cases hc
      · rename_i hb
        cases hc
        simp only [aq, Option.bind_eq_some_iff] at h
        obtain ⟨vx, e1, vl, e2, vh, e3, vm, e4, h⟩ := h
        exact val' _ (by simp only [execOp, ho]) (aSlS_ok hd hn hR (bnd_mx (Im := Im) (ρ := ρ) hm e4 hh e3 hb) h (ev_ok hE hx e1) (evO_ok hE hl e2) (evO_ok hE hh e3) (evO_ok hE hm e4))
    · cases hc
  | build t parts => exact val' _ (by simp only [execOp, ho]) (build_ok ho hc0 hE h)
  | call c =>
    simp only [compOp, ho, Option.bind_eq_some_iff] at hc
    obtain ⟨xs, hxs, hc⟩ := hc
    split at hc
    · simp only [Option.bind_eq_some_iff] at hc
      obtain ⟨f, hf, hc⟩ := hc
      cases hc
      simp [aq] at h
    · cases hc
    · rename_i bi hcal
      have hargs : (c.args.map act.eval).toList = c.args.toList.map act.eval := Array.toList_map
      have hex : ∀ b, bi = b → execOp act.eval o = builtin b c.argTypes o.type (c.args.map fun | .const _ => true | _ => false) (c.args.map act.eval) := fun b hb => by subst hb; simp only [execOp, ho, resolve, hcal, invoke, pure_bind]; rfl
      split at hc
      · rename_i t ts x hts
        have ht0 : c.argTypes[0]? = some t := by rw [← Array.getElem?_toList, hts]; rfl
        simp only [Option.bind_eq_some_iff] at hc
        obtain ⟨d, hd, hc⟩ := hc
        have hone : ∃ u, c.args.map act.eval = #[u] ∧ ∀ a, ev e x = some a → VR Im ρ a u := by
          cases ha : c.args.toList with
          | nil => rw [ha] at hxs; cases hxs
          | cons p ps =>
            rw [ha] at hxs
            simp only [cxs, Option.bind_eq_some_iff] at hxs
            obtain ⟨b, hb, bs, hbs, hxs⟩ := hxs
            injection hxs with hxs
            injection hxs with e1 e2
            subst e1 e2
            cases ps with
            | nil =>
              refine ⟨act.eval p, ?_, fun a hea => ev_ok hE hb hea⟩
              apply Array.ext'
              rw [Array.toList_map, ha]
              rfl
            | cons q qs =>
              simp only [cxs, Option.bind_eq_some_iff] at hbs
              obtain ⟨_, _, _, _, hbs⟩ := hbs
              cases hbs
        obtain ⟨u, hu, hv⟩ := hone
        split at hc
        · cases hc
          simp only [aq, Option.bind_eq_some_iff] at h
          obtain ⟨vx, e1, h⟩ := h
          obtain ⟨y, hy, hr⟩ := aLenS_ok (P := P) (ty := o.type) ht0 hd h (hv _ e1)
          exact ⟨y, hy, fun w' _ => by rw [hex _ rfl, hu]; exact do_value (hr w')⟩
        · cases hc
          simp only [aq, Option.bind_eq_some_iff] at h
          obtain ⟨vx, e1, h⟩ := h
          obtain ⟨y, hy, hr⟩ := aLen_ok (P := P) (ty := o.type) ht0 hd h (hv _ e1)
          exact ⟨y, hy, fun w' _ => by rw [hex _ rfl, hu]; exact do_value (hr w')⟩
        · cases hc
      · cases hc
        simp only [aq, Option.bind_eq_some_iff] at h
        obtain ⟨l, hl, h⟩ := h
        have hvs := evs_ok hE _ _ _ hxs hl
        obtain ⟨a, as, rfl, h⟩ := aFold_cons h
        rw [← hargs] at hvs
        cases hm : (c.args.map act.eval).toList with
        | nil => rw [hm] at hvs; exact hvs.elim
        | cons v vs =>
          rw [hm] at hvs
          obtain ⟨y, hy, hr⟩ := aFold_ok (P := P) (fun a b r u v => aMin2_ok) as a v vs r h hvs.1 hvs.2
          have he : c.args.map act.eval = (v :: vs).toArray := Array.ext' hm
          exact ⟨y, hy, fun w' _ => by rw [hex _ rfl, he]; exact do_value (run_min (hr w'))⟩
      · cases hc
        simp only [aq, Option.bind_eq_some_iff] at h
        obtain ⟨l, hl, h⟩ := h
        have hvs := evs_ok hE _ _ _ hxs hl
        obtain ⟨a, as, rfl, h⟩ := aFold_cons h
        rw [← hargs] at hvs
        cases hm : (c.args.map act.eval).toList with
        | nil => rw [hm] at hvs; exact hvs.elim
        | cons v vs =>
          rw [hm] at hvs
          obtain ⟨y, hy, hr⟩ := aFold_ok (P := P) (fun a b r u v => aMax2_ok) as a v vs r h hvs.1 hvs.2
          have he : c.args.map act.eval = (v :: vs).toArray := Array.ext' hm
          exact ⟨y, hy, fun w' _ => by rw [hex _ rfl, he]; exact do_value (run_max (hr w'))⟩
      · simp only [Option.bind_eq_some_iff] at hc
        obtain ⟨d, hd, hc⟩ := hc
        split at hc
        · simp only [Option.bind_eq_some_iff] at hc
          obtain ⟨i, hi, z, hz, u, hu, hc⟩ := hc
          split at hc
          · cases hc
            simp [aq] at h
          · cases hc
        · cases hc
      · simp only [Option.bind_eq_some_iff] at hc
        obtain ⟨d, hd, hc⟩ := hc
        split at hc
        · simp only [Option.bind_eq_some_iff] at hc
          obtain ⟨i, hi, hc⟩ := hc
          cases hc
          simp [aq] at h
        · cases hc
      · simp only [Option.bind_eq_some_iff] at hc
        obtain ⟨d, hd, hc⟩ := hc
        split at hc
        · simp only [Option.bind_eq_some_iff] at hc
          obtain ⟨n, hn, z, hz, hc⟩ := hc
          split at hc
          · cases hc
            simp [aq] at h
          · cases hc
        · cases hc
      · cases hc
  | makeFunc f first captured =>
    simp only [compOp, ho] at hc
    split at hc
    case h_2 => cases hc
    rename_i g
    split at hc
    case isFalse => cases hc
    rename_i hfirst
    simp only [Option.map_eq_some_iff] at hc
    obtain ⟨xs, hxs, rfl⟩ := hc
    simp only [aq, Option.bind_eq_some_iff] at h
    obtain ⟨l, hl, h⟩ := h
    split at h
    case isFalse => cases h
    cases h
    have hvs := evs_ok hE _ _ _ hxs hl
    have hf0 : first = #[] := by simpa using hfirst
    refine ⟨.func (.func g) #[] (captured.map act.eval), ?_, fun w' _ => by simp [execOp, ho, Instr.makeFunc, hf0]⟩
    have hcv := vrs_cv hvs
    obtain ⟨h1, f, h2, h3⟩ := hcv
    have ha : (captured.toList.map act.eval).toArray = captured.map act.eval := by apply Array.ext'; simp
    rw [ha] at h1 h2
    exact .fn _ f h1 h2 h3
  | store t a x =>
    simp only [compOp, ho, Option.bind_eq_some_iff] at hc
    obtain ⟨n, hn, ax, hx, ay, hy, hc⟩ := hc
    cases hc
    simp [aq] at h
  | box t x =>
    simp only [compOp, ho, Option.map_eq_some_iff] at hc
    obtain ⟨ax, hx, rfl⟩ := hc
    simp [aq] at h
  | alloc t =>
    simp only [compOp, ho, Option.map_eq_some_iff] at hc
    obtain ⟨z, hz, rfl⟩ := hc
    simp [aq] at h
  | buildSlice t len parts =>
    simp only [compOp, ho, Option.bind_eq_some_iff] at hc
    obtain ⟨d, hd, hc⟩ := hc
    split at hc
    · simp only [Option.bind_eq_some_iff] at hc
      obtain ⟨n, hn, z, hz, hc⟩ := hc
      split at hc
      · simp only [Option.bind_eq_some_iff] at hc
        obtain ⟨ps, hps, hc⟩ := hc
        cases hc
        simp [aq] at h
      · cases hc
    · cases hc
  | makeSlice t l c =>
    simp only [compOp, ho, Option.bind_eq_some_iff] at hc
    obtain ⟨al, hl, ac, hcc, d, hd, hc⟩ := hc
    split at hc
    · simp only [Option.bind_eq_some_iff] at hc
      obtain ⟨i, hi, z, hz, hc⟩ := hc
      split at hc
      · cases hc; simp [aq] at h
      · cases hc
    · cases hc
  | _ => simp [compOp, ho] at hc
end Go.Proofs.Ythkjiclplecljaa.Sym

/- How memory changes: a new block, a block written. -/
namespace Go.Proofs.Ythkjiclplecljaa.Sym
open Go
set_option linter.unusedVariables false
set_option linter.unusedSimpArgs false

/-- Blocks of live objects; of the call's own alone where d is false. -/
def LBd (ρ : List Loc) (Ω : List Obj) (d : Bool) (b : Nat) : Prop := ∃ (k : Nat) (o : Obj) (s1 s2 : Nat), Ω[k]? = some o ∧ o.live = true ∧ (d = true ∨ o.fresh = true) ∧ ρ[k]? = some (some (b, s1, s2))
theorem LBd.up {ρ : List Loc} {Ω : List Obj} {d d' : Bool} {b : Nat} (h : LBd ρ Ω d b) (hd : d = true → d' = true) : LBd ρ Ω d' b := by
  obtain ⟨k, o, s1, s2, h1, h2, h3, h4⟩ := h
  exact ⟨k, o, s1, s2, h1, h2, h3.imp hd id, h4⟩

structure Step (Im : Imm) (ρ : List Loc) (Ω : List Obj) (w : World) (Im' : Imm) (ρ' : List Loc) (Ω' : List Obj) (w' : World) (d : Bool) : Prop where
  rel : Rel Im' ρ' Ω' w'
  fr : Fr w w' (LBd ρ Ω d)
  rho : RhoLe ρ ρ'
  im : ImLe Im Im'
  new : ∀ (d' : Bool) b, LBd ρ' Ω' d' b → LBd ρ Ω d' b ∨ w.heap.size ≤ b
theorem Step.refl {Im : Imm} {ρ : List Loc} {Ω : List Obj} {w : World} (h : Rel Im ρ Ω w) (d : Bool) : Step Im ρ Ω w Im ρ Ω w d := ⟨h, Fr.refl _ _, RhoLe.refl _, ImLe.refl _, fun _ _ h => .inl h⟩
theorem Step.trans {Im Im1 Im2 : Imm} {ρ ρ1 ρ2 : List Loc} {Ω Ω1 Ω2 : List Obj} {w w1 w2 : World} {d d' : Bool} (h : Step Im ρ Ω w Im1 ρ1 Ω1 w1 d) (h' : Step Im1 ρ1 Ω1 w1 Im2 ρ2 Ω2 w2 d') : Step Im ρ Ω w Im2 ρ2 Ω2 w2 (d || d') := by
  refine ⟨h'.rel, ?_, h.rho.trans h'.rho, h.im.trans h'.im, fun d'' b hb => ?_⟩
  · refine Fr.trans (h.fr.imp fun b hb => hb.up (fun e => by simp [e])) (h'.fr.imp fun b hb => ?_) (S' := LBd ρ1 Ω1 d') (fun b hb => ?_)
    · exact hb
    · rcases h.new d' b hb with h | h
      · exact .inl (h.up (fun e => by simp [e]))
      · exact .inr h
  · rcases h'.new d'' b hb with hb | hb
    · exact h.new d'' b hb
    · exact .inr (Nat.le_trans h.fr.size hb)
theorem Step.up {Im Im1 : Imm} {ρ ρ1 : List Loc} {Ω Ω1 : List Obj} {w w1 : World} {d d' : Bool} (h : Step Im ρ Ω w Im1 ρ1 Ω1 w1 d) (hd : d = true → d' = true) : Step Im ρ Ω w Im1 ρ1 Ω1 w1 d' := ⟨h.rel, h.fr.imp fun b hb => hb.up hd, h.rho, h.im, h.new⟩

theorem heap_lt {w : World} {b : Nat} {x : Go.Obj} (h : w.heap[b]? = some x) : b < w.heap.size := (Array.getElem?_eq_some_iff.1 h).1
/-- Worlds with the same heap, or such as have but grown. -/
theorem ObjAt.mono {Im Im' : Imm} {ρ ρ' : List Loc} {w w' : World} {k : Nat} {o : Obj} (h : ObjAt Im ρ w k o) (hI : ImLe Im Im') (hρ : RhoLe ρ ρ') (hw : ∀ b base s, ρ[k]? = some (some (b, base, s)) → w'.heap[b]? = w.heap[b]?) (hi : ∀ b base s, ρ[k]? = some (some (b, base, s)) → Im b = none → Im' b = none) : ObjAt Im' ρ' w' k o := by
  rcases h with ⟨b, base, s, arr, T, fz, e1, e2, e3, e4, e5, e6, e7, f, e8, e9⟩ | ⟨e1, e2⟩
  · exact .inl ⟨b, base, s, arr, T, fz, hρ _ _ e1, by rw [hw _ _ _ e1]; exact e2, e3, e4, e5, e6, hi _ _ _ e1 e7, f, e8, fun i a hia => (e9 i a hia).mono hI _ hρ⟩
  · exact .inr ⟨hρ _ _ e1, e2⟩
theorem Rel.block_lt {Im : Imm} {ρ : List Loc} {Ω : List Obj} {w : World} (h : Rel Im ρ Ω w) {k : Nat} {o : Obj} (hk : Ω[k]? = some o) (hl : o.live = true) {b base s : Nat} (hr : ρ[k]? = some (some (b, base, s))) : b < w.heap.size ∧ Im b = none := by
  rcases h.obj k o hk hl with ⟨b', base', s', arr, T, fz, e1, e2, e3, e4, e5, e6, e7, f, e8, e9⟩ | ⟨e1, e2⟩
  · rw [hr] at e1
    cases e1
    exact ⟨heap_lt e2, e7⟩
  · rw [hr] at e1
    cases e1
theorem Rel.im_lt {Im : Imm} {ρ : List Loc} {Ω : List Obj} {w : World} (h : Rel Im ρ Ω w) {b : Nat} {arr : Array Value} (hb : Im b = some arr) : b < w.heap.size := by
  obtain ⟨T, fz, e⟩ := h.im b arr hb
  exact heap_lt e
theorem SameK.of {Im : Imm} {ρ : List Loc} {Ω : List Obj} {w w' : World} (h : Rel Im ρ Ω w) (hs : Same w w') : SameK Im ρ Ω w w' := fun b hb => by
  rcases hb with ⟨arr, hb⟩ | ⟨k, o, s1, s2, h1, h2, h3⟩
  · exact hs b (h.im_lt hb)
  · exact hs b (h.block_lt h1 h2 h3).1
theorem Rel.sameK {Im : Imm} {ρ : List Loc} {Ω : List Obj} {w w' : World} (h : Rel Im ρ Ω w) (hs : SameK Im ρ Ω w w') : Rel Im ρ Ω w' where
  len := h.len
  im b arr hb := by
    obtain ⟨T, fz, e⟩ := h.im b arr hb
    exact ⟨T, fz, by rw [hs b (.inl ⟨_, hb⟩)]; exact e⟩
  obj k o hk hl := (h.obj k o hk hl).mono (ImLe.refl _) (RhoLe.refl _) (fun b base s hr => hs b (.inr ⟨k, o, base, s, hk, hl, hr⟩)) (fun _ _ _ _ hn => hn)
  atoms := h.atoms
  flat := h.flat
  sep := h.sep
  gl := h.gl
/-- The same memory, other counts. -/
theorem Rel.same {Im : Imm} {ρ : List Loc} {Ω : List Obj} {w w' : World} (h : Rel Im ρ Ω w) (hs : ∀ b, b < w.heap.size → w'.heap[b]? = w.heap[b]?) : Rel Im ρ Ω w' where
  len := h.len
  im b arr hb := by
    obtain ⟨T, fz, e⟩ := h.im b arr hb
    exact ⟨T, fz, by rw [hs b (heap_lt e)]; exact e⟩
  obj k o hk hl := (h.obj k o hk hl).mono (ImLe.refl _) (RhoLe.refl _) (fun b base s hr => hs b (h.block_lt hk hl hr).1) (fun _ _ _ _ hn => hn)
  atoms := h.atoms
  flat := h.flat
  sep := h.sep
  gl := h.gl
theorem Rel.killed {Im : Imm} {ρ : List Loc} {Ω : List Obj} {w : World} (h : Rel Im ρ Ω w) (k : Nat) (o : Obj) : Rel Im ρ (kill Ω k o) w := by
  have get : ∀ (i : Nat) o', (kill Ω k o)[i]? = some o' → o'.live = true → Ω[i]? = some o' := fun i o' hi hl => by
    unfold Sym.kill at hi
    rw [List.getElem?_set] at hi
    split at hi
    · split at hi
      · cases hi; simp at hl
      · cases hi
    · exact hi
  exact ⟨by unfold Sym.kill; rw [List.length_set]; exact h.len, h.im, fun i o' hi hl => h.obj i o' (get i o' hi hl) hl, fun i o' hi hl => h.atoms i o' (get i o' hi hl) hl, fun i o' hi hl => h.flat i o' (get i o' hi hl) hl,
    fun i j o1 o2 b s1 s2 b' s1' s2' h1 h2 l1 l2 => h.sep i j o1 o2 b s1 s2 b' s1' s2' (get i o1 h1 l1) (get j o2 h2 l2) l1 l2, h.gl⟩
theorem kill_get {Ω : List Obj} {k : Nat} {o : Obj} {i : Nat} {o' : Obj} (hi : (kill Ω k o)[i]? = some o') (hl : o'.live = true) : Ω[i]? = some o' ∧ i ≠ k := by
  unfold Sym.kill at hi
  rw [List.getElem?_set] at hi
  split at hi
  · split at hi
    · cases hi; simp at hl
    · cases hi
  · rename_i hne
    exact ⟨hi, fun e => hne e.symm⟩

/-- One object more, on a block that no live object has. -/
theorem Rel.push {Im : Imm} {ρ : List Loc} {Ω : List Obj} {w : World} (h : Rel Im ρ Ω w) {b base : Nat} {arr : Array Value} {T : TypeId} {fz : Nat × Nat} (hb : w.heap[b]? = some (.cells arr T fz)) (hf1 : fz.2 ≤ fz.1 + 1) (hf2 : fz.1 < fz.2 → arr.size ≤ fz.1) (him : Im b = none) (hno : ∀ (k : Nat) o s1 s2, Ω[k]? = some o → o.live = true → ρ[k]? ≠ some (some (b, s1, s2)))
    {fresh fl : Bool} {xs : List AV} (hx : ∀ a ∈ xs, atom a = true) (hfl : fl = true → ∀ a ∈ xs, flat0 a = true) (hs : base + xs.length ≤ arr.size) (hc : ∀ (i : Nat) a, xs[i]? = some a → ∃ v, arr[base + i]? = some v ∧ VR Im ρ a v) : Rel Im (ρ ++ [some (b, base, arr.size)]) (Ω ++ [⟨true, fresh, fl, xs⟩]) w := by
  have old : ∀ (k : Nat) o, (Ω ++ [⟨true, fresh, fl, xs⟩])[k]? = some o → (Ω[k]? = some o ∧ k < Ω.length) ∨ (k = Ω.length ∧ o = ⟨true, fresh, fl, xs⟩) := fun k o hk => by
    rw [List.getElem?_append] at hk
    split at hk
    · rename_i hlt
      exact .inl ⟨hk, hlt⟩
    · rename_i hge
      have := (List.getElem?_eq_some_iff.1 hk).1
      simp at this
      have e : k - Ω.length = 0 := by omega
      rw [e] at hk
      exact .inr ⟨by omega, by simpa using hk.symm⟩
  have newρ : (ρ ++ [some (b, base, arr.size)])[Ω.length]? = some (some (b, base, arr.size)) := by rw [← h.len, List.getElem?_append_right (Nat.le_refl _)]; simp
  have oldρ : ∀ (k : Nat), k < Ω.length → (ρ ++ [some (b, base, arr.size)])[k]? = ρ[k]? := fun k hk => List.getElem?_append_left (by rw [h.len]; exact hk)
  refine ⟨by simp [h.len], h.im, fun k o hk hl => ?_, fun k o hk hl => ?_, fun k o hk hl hfo => ?_, fun k k' o o' c s1 s2 c' s1' s2' hk hk' hl hl' hne hr hr' => ?_, h.gl⟩
  · rcases old k o hk with ⟨hk, hlt⟩ | ⟨rfl, rfl⟩
    · exact (h.obj k o hk hl).mono (ImLe.refl _) (RhoLe.snoc _ _) (fun _ _ _ _ => rfl) (fun _ _ _ _ hn => hn)
    · refine .inl ⟨b, base, arr.size, arr, T, fz, newρ, hb, hf1, hf2, rfl, hs, him, fun i => arr.getD (base + i) undef, fun i a hi => ?_, fun i a hi => ?_⟩
      · obtain ⟨v, e1, e2⟩ := hc i a hi
        simp [Array.getD_eq_getD_getElem?, e1]
      · obtain ⟨v, e1, e2⟩ := hc i a hi
        have := e2.mono (ImLe.refl _) _ (RhoLe.snoc ρ (some (b, base, arr.size)))
        simpa [Array.getD_eq_getD_getElem?, e1] using this
  · rcases old k o hk with ⟨hk, _⟩ | ⟨rfl, rfl⟩
    · exact h.atoms k o hk hl
    · exact hx
  · rcases old k o hk with ⟨hk, _⟩ | ⟨rfl, rfl⟩
    · exact h.flat k o hk hl hfo
    · exact hfl hfo
  · rcases old k o hk with ⟨hk, hlt⟩ | ⟨rfl, rfl⟩
    · rw [oldρ k hlt] at hr
      rcases old k' o' hk' with ⟨hk', hlt'⟩ | ⟨rfl, rfl⟩
      · rw [oldρ k' hlt'] at hr'
        exact h.sep k k' o o' c s1 s2 c' s1' s2' hk hk' hl hl' hne hr hr'
      · rw [newρ] at hr'
        cases hr'
        exact fun e => hno k o s1 s2 hk hl (e ▸ hr)
    · rw [newρ] at hr
      cases hr
      rcases old k' o' hk' with ⟨hk', hlt'⟩ | ⟨rfl, rfl⟩
      · rw [oldρ k' hlt'] at hr'
        exact fun e => hno k' o' s1' s2' hk' hl' (e ▸ hr')
      · exact absurd rfl hne
theorem alloc_get (w : World) (o : Go.Obj) (b : Nat) : (w.alloc o).heap[b]? = if b = w.heap.size then some o else w.heap[b]? := by
  show (w.heap.push o)[b]? = _
  rw [Array.getElem?_push]
theorem LBd.push {ρ : List Loc} {Ω : List Obj} (hlen : ρ.length = Ω.length) {l : Loc} {o : Obj} {d : Bool} {b : Nat} (h : LBd (ρ ++ [l]) (Ω ++ [o]) d b) : LBd ρ Ω d b ∨ (∃ s1 s2, l = some (b, s1, s2) ∧ (d = true ∨ o.fresh = true)) := by
  obtain ⟨k, o', s1, s2, h1, h2, h3, h4⟩ := h
  rw [List.getElem?_append] at h1 h4
  split at h1
  · rename_i hlt
    rw [if_pos (by omega)] at h4
    exact .inl ⟨k, o', s1, s2, h1, h2, h3, h4⟩
  · rename_i hge
    rw [if_neg (by omega)] at h4
    have := (List.getElem?_eq_some_iff.1 h1).1
    simp at this
    have e : k - Ω.length = 0 := by omega
    rw [e] at h1
    rw [hlen, e] at h4
    simp at h1 h4
    subst h1
    exact .inr ⟨s1, s2, h4, h3⟩
/-- A new block. -/
theorem alloc_step {Im : Imm} {ρ : List Loc} {Ω : List Obj} {w w1 : World} (h : Rel Im ρ Ω w) (hw : w1.heap = w.heap) (hos : w1.os = w.os) (htp : w1.tape = w.tape) (hout : w1.output = w.output) {arr : Array Value} {T : TypeId} {fz : Nat × Nat} (hf1 : fz.2 ≤ fz.1 + 1) (hf2 : fz.1 < fz.2 → arr.size ≤ fz.1)
    {xs : List AV} (hx : ∀ a ∈ xs, atom a = true) (hs : xs.length ≤ arr.size) (hc : ∀ (i : Nat) a, xs[i]? = some a → ∃ v, arr[i]? = some v ∧ VR Im ρ a v) : Step Im ρ Ω w Im (ρ ++ [some (w.heap.size, 0, arr.size)]) (newO Ω xs) (w1.alloc (.cells arr T fz)) false := by
  have hsz : w1.heap.size = w.heap.size := by rw [hw]
  have hsame : ∀ b, b < w.heap.size → (w1.alloc (.cells arr T fz)).heap[b]? = w.heap[b]? := fun b hb => by rw [alloc_get, if_neg (by omega), hw]
  have h1 : Rel Im ρ Ω (w1.alloc (.cells arr T fz)) := h.same hsame
  refine ⟨h1.push (T := T) (fz := fz) (by rw [alloc_get, if_pos hsz.symm]) hf1 hf2 ?_ ?_ hx (fun hfl => by simpa using hfl) (by simpa using hs) (by simpa using hc), ⟨hos, htp, hout, ?_, fun b hb _ => hsame b hb⟩, RhoLe.snoc _ _, ImLe.refl _, fun d' b hb => ?_⟩
  · cases hi : Im w.heap.size with
    | none => rfl
    | some a => have := h.im_lt hi; omega
  · intro k o s1 s2 hk hl hr
    have := (h.block_lt hk hl hr).1
    omega
  · rw [World.size_alloc]
    omega
  · rcases LBd.push h.len hb with hb | ⟨s1, s2, hb, _⟩
    · exact .inl hb
    · cases hb
      exact .inr (Nat.le_refl _)

/-! ### a block written -/
def World.setB (w : World) (b : Nat) (x : Go.Obj) : World := { w with heap := w.heap.setIfInBounds b x }
theorem setB_get {w : World} {b : Nat} {x : Go.Obj} (hb : b < w.heap.size) (c : Nat) : (World.setB w b x).heap[c]? = if c = b then some x else w.heap[c]? := by
  show (w.heap.setIfInBounds b x)[c]? = _
  rw [Array.getElem?_setIfInBounds]
  by_cases h : b = c
  · subst h; simp [hb]
  · rw [if_neg h, if_neg (fun e => h e.symm)]
theorem setCell_setB {w : World} {b i : Nat} {arr : Array Value} {T : TypeId} {fz : Nat × Nat} (h : w.heap[b]? = some (.cells arr T fz)) (v : Value) : w.setCell ⟨b, i, none⟩ v = World.setB w b (.cells (arr.setIfInBounds i v) T fz) := by
  unfold World.setCell World.setB
  congr 1
  apply Array.ext_getElem?
  intro j
  rw [Array.getElem?_modify, Array.getElem?_setIfInBounds]
  by_cases hj : b = j
  · subst hj
    rw [if_pos rfl, if_pos rfl, h, if_pos (heap_lt h)]
    simp
  · rw [if_neg hj, if_neg hj]
theorem frozen_off {w : World} {b i : Nat} {arr : Array Value} {T : TypeId} {fz : Nat × Nat} (h : w.heap[b]? = some (.cells arr T fz)) (hf : fz.1 < fz.2 → arr.size ≤ fz.1) (hi : i < arr.size) : w.frozen? ⟨b, i, none⟩ = false := by
  simp only [World.frozen?, h]
  cases hd : decide (fz.1 ≤ i ∧ i < fz.2) with
  | false => simpa using hd
  | true =>
    simp only [decide_eq_true_eq] at hd
    have := hf (by omega)
    omega
theorem setB_setB (w : World) (b : Nat) (x y : Go.Obj) : World.setB (World.setB w b x) b y = World.setB w b y := by
  unfold World.setB
  simp
theorem run_storeCells_setB {P : Program} (b o : Nat) (T : TypeId) (fz : Nat × Nat) : ∀ (vs : List Value) (i : Nat) (arr : Array Value) (w : World), w.heap[b]? = some (.cells arr T fz) → (fz.1 < fz.2 → arr.size ≤ fz.1) → o + i + vs.length ≤ arr.size → (∀ v ∈ vs, v.oneCell' = true) →
    (storeCells ⟨b, o, none⟩ vs i).run P w = .ok () (World.setB w b (.cells ((vs.zipIdx i).foldl (fun (a : Array Value) (p : Value × Nat) => a.setIfInBounds (o + p.2) p.1) arr) T fz))
  | [], i, arr, w, hb, hf, hle, hv => by
    have : World.setB w b (.cells arr T fz) = w := by
      unfold World.setB
      have : w.heap.setIfInBounds b (.cells arr T fz) = w.heap := by
        apply Array.ext_getElem?
        intro j
        rw [Array.getElem?_setIfInBounds]
        by_cases hj : b = j
        · subst hj; rw [if_pos rfl, if_pos (heap_lt hb), hb]
        · rw [if_neg hj]
      rw [this]
    simp [storeCells, this]
  | v :: vs, i, arr, w, hb, hf, hle, hv => by
    rw [List.length_cons] at hle
    have hc : w.cell? ⟨b, o + i, none⟩ = some arr[o + i] := by rw [cell_of hb, Array.getElem?_eq_getElem (by omega)]
    have h1 : (store (Addr.add ⟨b, o, none⟩ i) v).run P w = .ok () (w.setCell ⟨b, o + i, none⟩ v) := by
      rw [add_at, run_store P w _ v _ (hv v (by simp)), hc, frozen_off hb hf (by omega)]
      rfl
    rw [setCell_setB hb] at h1
    have ih := run_storeCells_setB (P := P) b o T fz vs (i + 1) (arr.setIfInBounds (o + i) v) (World.setB w b (.cells (arr.setIfInBounds (o + i) v) T fz)) (by rw [setB_get (heap_lt hb), if_pos rfl]) (by simpa using hf) (by simp; omega) (fun u hu => hv u (by simp [hu]))
    simp only [storeCells, Sem.run_bind, h1, Result.andThen_ok, ih, setB_setB, List.zipIdx_cons, List.foldl_cons]
theorem run_storeCells_put {P : Program} {b o : Nat} {T : TypeId} {fz : Nat × Nat} {vs : Array Value} {arr : Array Value} {w : World} (hb : w.heap[b]? = some (.cells arr T fz)) (hf : fz.1 < fz.2 → arr.size ≤ fz.1) (hle : o + vs.size ≤ arr.size) (hv : ∀ v ∈ vs.toList, v.oneCell' = true) :
    (storeCells ⟨b, o, none⟩ vs.toList).run P w = .ok () (World.setB w b (.cells (putA arr o vs) T fz)) := by
  rw [putA_eq]
  exact run_storeCells_setB b o T fz vs.toList 0 arr w hb hf (by simpa using hle) hv
/-- An object written. -/
theorem write_step {Im : Imm} {ρ : List Loc} {Ω : List Obj} {w : World} (h : Rel Im ρ Ω w) {k : Nat} {o : Obj} (hk : Ω[k]? = some o) (hl : o.live = true) {b base s off : Nat} (hr : ρ[k]? = some (some (b, base, s))) {arr : Array Value} {T : TypeId} {fz : Nat × Nat} (hb : w.heap[b]? = some (.cells arr T fz)) {cs : List AV} {vs : Array Value} (hcv : CV Im ρ cs vs) (hat : cs.all atom = true) (hle : off + cs.length ≤ o.cells.length) :
    Step Im ρ Ω w Im ρ (Ω.set k { o with flat := o.flat && cs.all flat0, cells := putL o.cells off cs }) (World.setB w b (.cells (putA arr (base + off) vs) T fz)) (!o.fresh) := by
  rcases h.obj k o hk hl with ⟨b', base', s', arr', T', fz', e1, e2, e3, e4, e5, e6, e7, f, e8, e9⟩ | ⟨e1, e2⟩
  case inr => rw [hr] at e1; cases e1
  rw [hr] at e1
  cases e1
  rw [hb] at e2
  cases e2
  have hbl := heap_lt hb
  have hkl := (List.getElem?_eq_some_iff.1 hk).1
  have get : ∀ (i : Nat) o', (Ω.set k { o with flat := o.flat && cs.all flat0, cells := putL o.cells off cs })[i]? = some o' → (i = k ∧ o' = { o with flat := o.flat && cs.all flat0, cells := putL o.cells off cs }) ∨ (i ≠ k ∧ Ω[i]? = some o') := fun i o' hi => by
    rw [List.getElem?_set] at hi
    split at hi
    · rename_i e
      cases hi
      exact .inl ⟨e.symm, rfl⟩
    · rename_i e
      exact .inr ⟨fun e' => e e'.symm, hi⟩
  have hl1 := hcv.1
  have hsz : (putA arr (base + off) vs).size = arr.size := putA_size _ _ _
  refine ⟨⟨by rw [List.length_set]; exact h.len, fun c a hc => ?_, fun i o' hi hlo => ?_, fun i o' hi hlo => ?_, fun i o' hi hlo hfo => ?_, fun i j o1 o2 c s1 s2 c' s1' s2' h1 h2 l1 l2 hne r1 r2 => ?_, h.gl⟩, ⟨rfl, rfl, rfl, ?_, fun c hc hn => ?_⟩, RhoLe.refl _, ImLe.refl _, fun d' c hc => .inl ?_⟩
  · obtain ⟨T2, fz2, e⟩ := h.im c a hc
    refine ⟨T2, fz2, ?_⟩
    rw [setB_get hbl, if_neg]
    · exact e
    · rintro rfl
      rw [e7] at hc
      cases hc
  · rcases get i o' hi with ⟨rfl, rfl⟩ | ⟨hne, hi⟩
    · have hcv0 : CV Im ρ o.cells (arr.extract base (base + o.cells.length)) := CV.mk (by simp; omega) fun j a hj => ⟨f j, by rw [Array.getElem?_extract, if_pos (by have := (List.getElem?_eq_some_iff.1 hj).1; omega)]; exact e8 j a hj, e9 j a hj⟩
      have key : ∀ (j : Nat) a, (putL o.cells off cs)[j]? = some a → ∃ v, (putA arr (base + off) vs)[base + j]? = some v ∧ VR Im ρ a v := fun j a hj => by
        rw [putL_get _ _ _ _ hle] at hj
        rw [putA_get _ _ _ _ (by omega), ← hl1]
        split at hj
        · rename_i hc
          rw [if_pos (by omega), show base + j - (base + off) = j - off by omega]
          exact hcv.at hj
        · rename_i hc
          rw [if_neg (by omega)]
          exact ⟨f j, e8 j a hj, e9 j a hj⟩
      refine .inl ⟨b, base, arr.size, _, T, fz, by rw [e5]; exact hr, by rw [setB_get hbl, if_pos rfl], e3, by rw [e5]; exact e4, hsz, by rw [putL_length]; omega, e7, fun j => (putA arr (base + off) vs).getD (base + j) undef, fun j a hj => ?_, fun j a hj => ?_⟩
      · obtain ⟨v, q1, q2⟩ := key j a hj
        simp [Array.getD_eq_getD_getElem?, q1]
      · obtain ⟨v, q1, q2⟩ := key j a hj
        simpa [Array.getD_eq_getD_getElem?, q1] using q2
    · refine (h.obj i o' hi hlo).mono (ImLe.refl _) (RhoLe.refl _) (fun c s1 s2 hc => ?_) (fun _ _ _ _ hn => hn)
      rw [setB_get hbl, if_neg]
      exact h.sep i k o' o c s1 s2 b base s hi hk hlo hl hne hc hr
  · rcases get i o' hi with ⟨rfl, rfl⟩ | ⟨hne, hi⟩
    · intro a ha
      obtain ⟨j, hj⟩ := List.mem_iff_getElem?.1 ha
      rw [putL_get _ _ _ _ hle] at hj
      split at hj
      · exact List.all_eq_true.1 hat _ (List.mem_of_getElem? hj)
      · exact h.atoms _ o hk hl _ (List.mem_of_getElem? hj)
    · exact h.atoms i o' hi hlo
  · rcases get i o' hi with ⟨rfl, rfl⟩ | ⟨hne, hi⟩
    · intro a ha
      simp only [Bool.and_eq_true] at hfo
      obtain ⟨j, hj⟩ := List.mem_iff_getElem?.1 ha
      rw [putL_get _ _ _ _ hle] at hj
      split at hj
      · exact List.all_eq_true.1 hfo.2 _ (List.mem_of_getElem? hj)
      · exact h.flat _ o hk hl hfo.1 _ (List.mem_of_getElem? hj)
    · exact h.flat i o' hi hlo hfo
  · have real : ∀ (i : Nat) o', (Ω.set k { o with flat := o.flat && cs.all flat0, cells := putL o.cells off cs })[i]? = some o' → o'.live = true → ∃ o'', Ω[i]? = some o'' ∧ o''.live = true := fun i o' hi hlo => by
      rcases get i o' hi with ⟨rfl, rfl⟩ | ⟨_, hi⟩
      · exact ⟨o, hk, hl⟩
      · exact ⟨o', hi, hlo⟩
    obtain ⟨p1, p2, p3⟩ := real i o1 h1 l1
    obtain ⟨q1, q2, q3⟩ := real j o2 h2 l2
    exact h.sep i j p1 q1 c s1 s2 c' s1' s2' p2 q2 p3 q3 hne r1 r2
  · unfold World.setB
    simp
  · rw [setB_get hbl, if_neg]
    rintro rfl
    refine hn ⟨k, o, base, s, hk, hl, ?_, hr⟩
    cases o.fresh <;> simp
  · obtain ⟨i, o', s1, s2, h1, h2, h3, h4⟩ := hc
    rcases get i o' h1 with ⟨rfl, rfl⟩ | ⟨_, h1⟩
    · exact ⟨i, o, s1, s2, hk, hl, h3, h4⟩
    · exact ⟨i, o', s1, s2, h1, h2, h3, h4⟩
end Go.Proofs.Ythkjiclplecljaa.Sym

/- Operations that make or change memory. -/
namespace Go.Proofs.Ythkjiclplecljaa.Sym
open Go
set_option linter.unusedVariables false
set_option linter.unusedSimpArgs false

/-- What an operation that acts yields. -/
def YieldsE (P : Program) (Im : Imm) (ρ : List Loc) (Ω : List Obj) (o : Oper) (act : Act) (w : World) (r : AV) (Ω' : List Obj) (d al : Bool) : Prop :=
  ∃ (n : Next) (y : Value) (w' : World) (ρ' : List Loc), (execOp act.eval o).run P w = .ok n w' ∧ (n = .value y ∨ (n = .skip ∧ y = undef)) ∧ VR Im ρ' r y ∧ Step Im ρ Ω w Im ρ' Ω' w' d ∧ (al = true → n = .value y ∧ Same w w')

theorem new_loc {Im : Imm} {ρ : List Loc} {Ω : List Obj} {w : World} (h : Rel Im ρ Ω w) (l : Loc) : (ρ ++ [l])[Ω.length]? = some l := by rw [← h.len, List.getElem?_append_right (Nat.le_refl _)]; simp
theorem CV.cells_at {Im : Imm} {ρ : List Loc} {xs : List AV} {arr brr : Array Value} (h : CV Im ρ xs arr) : ∀ (i : Nat) a, xs[i]? = some a → ∃ v, (arr ++ brr)[i]? = some v ∧ VR Im ρ a v := fun i a hi => by
  obtain ⟨v, h1, h2⟩ := h.at hi
  refine ⟨v, ?_, h2⟩
  rw [Array.getElem?_append_left (heap_lt' h1)]
  exact h1
where heap_lt' {arr : Array Value} {i : Nat} {v : Value} (h : arr[i]? = some v) : i < arr.size := (Array.getElem?_eq_some_iff.1 h).1
theorem CV.one {Im : Imm} {ρ : List Loc} {xs : List AV} {arr : Array Value} (h : CV Im ρ xs arr) (ha : ∀ a ∈ xs, atom a = true) : ∀ v ∈ arr.toList, v.oneCell' = true := fun v hv => by
  obtain ⟨i, hi⟩ := List.mem_iff_getElem?.1 hv
  have hlt := (List.getElem?_eq_some_iff.1 hi).1
  rw [Array.length_toList] at hlt
  have hx : xs[i]? = some (xs[i]'(by rw [h.1]; exact hlt)) := List.getElem?_eq_getElem _
  obtain ⟨u, h1, h2⟩ := h.at hx
  rw [← Array.getElem?_toList, hi] at h1
  cases h1
  exact h2.one (ha _ (List.mem_of_getElem? hx))
theorem CV.append {Im : Imm} {ρ : List Loc} {xs ys : List AV} {arr brr : Array Value} (h : CV Im ρ xs arr) (h' : CV Im ρ ys brr) : CV Im ρ (xs ++ ys) (arr ++ brr) := by
  refine CV.mk (by simp [h.1, h'.1]) fun i a hi => ?_
  rw [List.getElem?_append] at hi
  split at hi
  · rename_i hlt
    obtain ⟨v, h1, h2⟩ := h.at hi
    exact ⟨v, by rw [Array.getElem?_append_left (by rw [← h.1]; exact hlt)]; exact h1, h2⟩
  · rename_i hge
    obtain ⟨v, h1, h2⟩ := h'.at hi
    exact ⟨v, by rw [Array.getElem?_append_right (by rw [← h.1]; omega), ← h.1]; exact h1, h2⟩
theorem all_mem {xs : List AV} (h : xs.all atom = true) : ∀ a ∈ xs, atom a = true := fun a ha => List.all_eq_true.1 h a ha

theorem reps_length (z : List AV) : ∀ n, (reps n z).length = n * z.length
  | 0 => by simp [reps]
  | n + 1 => by rw [reps, List.length_append, reps_length z n, Nat.succ_mul, Nat.add_comm]
theorem reps_get (z : List AV) (hz : 0 < z.length) : ∀ (n i : Nat), i < n * z.length → (reps n z)[i]? = z[i % z.length]?
  | 0, i, h => by simp at h
  | n + 1, i, h => by
    rw [reps, List.getElem?_append]
    split
    · rename_i hlt
      rw [Nat.mod_eq_of_lt hlt]
    · rename_i hge
      rw [reps_get z hz n (i - z.length) (by rw [Nat.succ_mul] at h; omega), ← Nat.mod_eq_sub_mod (by omega)]
theorem reps_mem {z : List AV} {p : AV → Prop} (h : ∀ a ∈ z, p a) : ∀ n, ∀ a ∈ reps n z, p a
  | 0, a, ha => by simp [reps] at ha
  | n + 1, a, ha => by
    rw [reps, List.mem_append] at ha
    rcases ha with ha | ha
    · exact h a ha
    · exact reps_mem h n a ha
theorem reps_cv {Im : Imm} {ρ : List Loc} {z : List AV} {zc : Array Value} (h : CV Im ρ z zc) (hz : 0 < z.length) (n : Nat) : CV Im ρ (reps n z) ((Array.range (n * z.length)).map (zc[· % zc.size]!)) := by
  refine CV.mk (by simp [reps_length]) fun i a hi => ?_
  have hlt := (List.getElem?_eq_some_iff.1 hi).1
  rw [reps_length] at hlt
  rw [reps_get z hz n i hlt] at hi
  obtain ⟨v, h1, h2⟩ := h.at hi
  refine ⟨v, ?_, h2⟩
  rw [Array.getElem?_map, Array.getElem?_range, if_pos hlt, Option.map_some, ← h.1]
  have hm := (Array.getElem?_eq_some_iff.1 h1).1
  rw [getElem!_pos zc (i % z.length) hm]
  rw [Array.getElem?_eq_getElem hm] at h1
  exact h1

theorem do_val {P : Program} {s : Sem Value} {y : Value} {w w' : World} (h : s.run P w = .ok y w') : (do pure (.value (← s)) : Sem Next).run P w = .ok (.value y) w' := by
  rw [Sem.run_bind, h]
  rfl
/-- A new block as an operation's value. -/
theorem new_yields {P : Program} {Im : Imm} {ρ : List Loc} {Ω : List Obj} {w : World} (hR : Rel Im ρ Ω w) {o : Oper} {act : Act} {w1 : World} (hw : w1 = w ∨ w1 = w.drew) {arr : Array Value} {T : TypeId} {fz : Nat × Nat} (hf1 : fz.2 ≤ fz.1 + 1) (hf2 : fz.1 < fz.2 → arr.size ≤ fz.1)
    {xs : List AV} (hx : ∀ a ∈ xs, atom a = true) (hs : xs.length ≤ arr.size) (hc : ∀ (i : Nat) a, xs[i]? = some a → ∃ v, arr[i]? = some v ∧ VR Im ρ a v) {y : Value} {r : AV} (hrun : (execOp act.eval o).run P w = .ok (.value y) (w1.alloc (.cells arr T fz)))
    (hr : ∀ ρ', ρ'[Ω.length]? = some (some (w.heap.size, 0, arr.size)) → VR Im ρ' r y) : YieldsE P Im ρ Ω o act w r (newO Ω xs) false true :=
  ⟨_, y, _, _, hrun, .inl rfl, hr _ (new_loc hR _), alloc_step hR (by rcases hw with rfl | rfl <;> rfl) (by rcases hw with rfl | rfl <;> rfl) (by rcases hw with rfl | rfl <;> rfl) (by rcases hw with rfl | rfl <;> rfl) hf1 hf2 hx hs hc, fun _ => ⟨rfl, fun b hb => (by
    show (w1.heap.push _)[b]? = _
    have e : w1.heap = w.heap := by rcases hw with rfl | rfl <;> rfl
    rw [e, Array.getElem?_push_lt hb, Array.getElem?_eq_getElem hb])⟩⟩
theorem zero_fr : ((0, 0) : Nat × Nat).2 ≤ ((0, 0) : Nat × Nat).1 + 1 := by decide
theorem box_ok {P : Program} {o : Oper} {t : TypeId} {x : Operand} (ho : o.op = .box t x) {ax : AX} (hx : cx x = some ax) {Im : Imm} {ρ : List Loc} {Ω : List Obj} {w : World} (hR : Rel Im ρ Ω w) {e : Env} {act : Act} (hE : EnvOK Im ρ e act) {r : AV} {Ω' : List Obj} {d : Bool} (h : ae e Ω (.box ax) = some (r, Ω', d)) :
    YieldsE P Im ρ Ω o act w r Ω' d true := by
  simp only [ae, Option.bind_eq_some_iff] at h
  obtain ⟨a, ha, h⟩ := h
  split at h
  · rename_i hat
    cases h
    have hcv := (ev_ok hE hx ha).cv hat
    refine new_yields (y := .pointer (some ⟨w.heap.size, 0, none⟩)) hR (.inl rfl) zero_fr (by simp) (all_mem hat) (Nat.le_of_eq hcv.1) (fun i a hi => hcv.at hi) (T := t) (fz := (0, 0)) ?_ (fun ρ' hl => .ptr _ _ _ hl)
    simp only [execOp, ho]
    exact do_val (by simp [Instr.box, newVar, newRow])
  · cases h
theorem alloc_ok {P : Program} {o : Oper} {t : TypeId} (ho : o.op = .alloc t) {z : List AV} (hz : cz P t = some z) {Im : Imm} {ρ : List Loc} {Ω : List Obj} {w : World} (hR : Rel Im ρ Ω w) {e : Env} {act : Act} {r : AV} {Ω' : List Obj} {d : Bool} (h : ae e Ω (.alloc z) = some (r, Ω', d)) :
    YieldsE P Im ρ Ω o act w r Ω' d true := by
  simp only [ae] at h
  cases h
  obtain ⟨i, v, hi, hv, hcv, hat, hfl⟩ := cz_ok hz Im ρ
  refine new_yields (y := .pointer (some ⟨w.heap.size, 0, none⟩)) hR (.inl rfl) zero_fr (by simp) hat (Nat.le_of_eq hcv.1) (fun i a hi => hcv.at hi) (T := t) (fz := (0, 0)) ?_ (fun ρ' hl => .ptr _ _ _ hl)
  simp only [execOp, ho]
  exact do_val (by simp [Instr.alloc, newVar, newRow, zeroValue, typeInfo, hi, hv])
theorem fillL_atoms : ∀ (as : List (Nat × Nat × AV)) (zero cs : List AV), fillL zero as = some cs → (∀ a ∈ zero, atom a = true) → ∀ a ∈ cs, atom a = true
  | [], zero, cs, h, hz => by cases h; exact hz
  | (off, size, x) :: as, zero, cs, h, hz => by
    simp only [fillL] at h
    split at h
    · rename_i hc
      refine fillL_atoms as _ cs h fun a ha => ?_
      obtain ⟨i, hi⟩ := List.mem_iff_getElem?.1 ha
      rw [putL_get _ _ _ _ (by omega)] at hi
      split at hi
      · exact List.all_eq_true.1 hc.2.2 _ (List.mem_of_getElem? hi)
      · exact hz _ (List.mem_of_getElem? hi)
    · cases h
theorem fillL_length : ∀ (as : List (Nat × Nat × AV)) (zero cs : List AV), fillL zero as = some cs → cs.length = zero.length
  | [], zero, cs, h => by cases h; rfl
  | (off, size, x) :: as, zero, cs, h => by
    simp only [fillL] at h
    split at h
    · rw [fillL_length as _ cs h, putL_length]
    · cases h
theorem size_info {P : Program} {t : TypeId} {n : Nat} (h : sizeT P t = some n) : ∃ i, P.info? t = some i ∧ i.size = n := by
  simp only [sizeT, Option.map_eq_some_iff] at h
  exact h
theorem row_ok {P : Program} {o : Oper} {t : TypeId} {len : Nat} {parts : Array (Nat × Operand)} (ho : o.op = .buildSlice t len parts) {ao : AO} (hc : compOp P o = some ao) {Im : Imm} {ρ : List Loc} {Ω : List Obj} {w : World} (hR : Rel Im ρ Ω w) {e : Env} {act : Act} (hE : EnvOK Im ρ e act) {r : AV} {Ω' : List Obj} {d : Bool} (h : ae e Ω ao = some (r, Ω', d)) :
    YieldsE P Im ρ Ω o act w r Ω' d true := by
  simp only [compOp, ho, Option.bind_eq_some_iff] at hc
  obtain ⟨td, hd, hc⟩ := hc
  split at hc
  case h_2 => cases hc
  rename_i el
  simp only [Option.bind_eq_some_iff] at hc
  obtain ⟨n, hn, z, hz, hc⟩ := hc
  split at hc
  case isFalse => cases hc
  rename_i hb
  obtain ⟨b1, b2, b3⟩ := hb
  simp only [Option.bind_eq_some_iff] at hc
  obtain ⟨ps, hps, hc⟩ := hc
  cases hc
  simp only [ae, Option.bind_eq_some_iff] at h
  obtain ⟨as, has, cs, hcs, h⟩ := h
  cases h
  obtain ⟨i, v, hi, hv, hcv, hat, hfl⟩ := cz_ok hz Im ρ
  obtain ⟨i', hi', hin⟩ := size_info hn
  rw [hi] at hi'
  cases hi'
  have hreps := reps_cv hcv (by omega) len
  obtain ⟨arr, hfill, hcv2⟩ := fill_ok hE (fun i => some (i * n, n)) _ _ _ _ _ _ hps has hcs hreps
  have hl := fillL_length _ _ _ hcs
  have hl2 := hcv2.1
  rw [reps_length] at hl
  refine new_yields (y := .slice (some ⟨w.heap.size, 0, none⟩) len len) hR (.inl rfl) zero_fr (by simp) (fillL_atoms _ _ _ hcs (reps_mem hat len)) (Nat.le_of_eq hcv2.1) (fun i a hi => hcv2.at hi) (T := el) (fz := (0, 0)) ?_ (fun ρ' hl' => VR.viewAt _ _ _ len _ hl' (Nat.le_refl _) (fun m hm => by cases hm; rfl) (by rw [← hl2, hl, b2]; omega) (fun hm => by cases hm) rfl)
  simp only [execOp, ho]
  refine do_val ?_
  have hle : ¬ (len * i.size > 2 ^ 24) := by rw [hin]; omega
  have hfill' : ∀ zz : Array Value, (len * i.size = 0 ∨ zz = v.cells) → Instr.fill (fun j => some (j * i.size, i.size)) ((Array.range (len * i.size)).map (zz[· % zz.size]!)) (parts.map fun (i, x) => (i, act.eval x)).toList = some arr := fun zz hzz => by
    rw [Array.toList_map, hin]
    have e : ((Array.range (len * n)).map (zz[· % zz.size]!)) = (Array.range (len * z.length)).map (v.cells[· % v.cells.size]!) := by
      rw [b2]
      rcases hzz with h0 | h0
      · rw [hin] at h0
        rw [h0, Array.range_zero']
        simp
      · rw [h0]
    rw [e]
    exact hfill
  unfold Instr.buildSlice
  by_cases h0 : len * i.size = 0
  · have hf := hfill' #[] (.inl h0)
    simp only [Sem.run_bind, run_underlying hd, Result.andThen_ok, sizeOf, typeInfo, run_program, hi, Sem.run_pure, hle, if_false, if_pos h0, hf, newRow, run_newObj]
    rfl
  · have hf := hfill' v.cells (.inr rfl)
    simp only [Sem.run_bind, run_underlying hd, Result.andThen_ok, sizeOf, typeInfo, zeroValue, run_program, hi, hv, Sem.run_pure, hle, if_false, if_neg h0, hf, newRow, run_newObj]
    rfl
theorem mks_ok {P : Program} {o : Oper} {t : TypeId} {l c : Operand} (ho : o.op = .makeSlice t l c) {ao : AO} (hc : compOp P o = some ao) {Im : Imm} {ρ : List Loc} {Ω : List Obj} {w : World} (hR : Rel Im ρ Ω w) {e : Env} {act : Act} (hE : EnvOK Im ρ e act) {r : AV} {Ω' : List Obj} {d : Bool} (h : ae e Ω ao = some (r, Ω', d)) :
    YieldsE P Im ρ Ω o act w r Ω' d true := by
  simp only [compOp, ho, Option.bind_eq_some_iff] at hc
  obtain ⟨al, hal, ac, hac, td, hd, hc⟩ := hc
  split at hc
  case h_2 => cases hc
  rename_i el
  simp only [Option.bind_eq_some_iff] at hc
  obtain ⟨i, hi, z, hz, hc⟩ := hc
  split at hc
  case isFalse => cases hc
  rename_i hb
  cases hc
  simp only [ae, Option.bind_eq_some_iff] at h
  obtain ⟨vl, hvl, vc, hvc, il, hil, ic, hic, h⟩ := h
  split at h
  case isFalse => cases h
  rename_i hq
  obtain ⟨q1, q2, q3, q4⟩ := hq
  cases h
  obtain ⟨i', v, hi', hv, hcv, hat, hfl⟩ := cz_ok hz Im ρ
  rw [hi] at hi'
  cases hi'
  obtain ⟨kl, hkl⟩ := asI_ok hil (ev_ok hE hal hvl)
  obtain ⟨kc, hkc⟩ := asI_ok hic (ev_ok hE hac hvc)
  have hreps := reps_cv hcv (by omega) ic.toNat
  have hmade : madeCells v.cells (ic.toNat * i.size) = (Array.range (ic.toNat * z.length)).map (v.cells[· % v.cells.size]!) := by rw [hb.2]; rfl
  rw [← hmade] at hreps
  have hbytes : (i.bytes : Int) * ic ≤ 281474976710656 := by
    have e1 : ic = (ic.toNat : Int) := by omega
    have e2 : ((ic.toNat * i.bytes : Nat) : Int) ≤ 140737488355328 := by omega
    rw [Int.mul_comm, e1, ← Int.natCast_mul]
    omega
  refine new_yields (y := .slice (some ⟨w.heap.size, 0, none⟩) il.toNat ic.toNat) hR (.inl rfl) zero_fr (by simp) (reps_mem hat _) (Nat.le_of_eq hreps.1) (fun i a hi => hreps.at hi) (T := el) (fz := (0, 0)) ?_ (fun ρ' hl' => VR.viewAt _ _ _ ic.toNat _ hl' (by omega) (fun m hm => by cases hm; rfl) (by rw [size_madeCells]; omega) (fun hm => by cases hm) rfl)
  simp only [execOp, ho, hkl, hkc]
  exact do_val (run_make w t el i v hd hi hv kl kc il ic q1 q2 hbytes (by omega))
theorem cvsb_ok {P : Program} {o : Oper} {s dt el : TypeId} {x : Operand} (ho : o.op = .convert s dt x) (hs : P.underlying s = some .string) (hd : P.underlying dt = some (.slice el)) (he : u8T P el = true) {ax : AX} (hx : cx x = some ax) {Im : Imm} {ρ : List Loc} {Ω : List Obj} {w : World} (hR : Rel Im ρ Ω w) {e : Env} {act : Act} (hE : EnvOK Im ρ e act) {r : AV} {Ω' : List Obj} {d : Bool} (h : ae e Ω (.cvsb ax) = some (r, Ω', d)) :
    YieldsE P Im ρ Ω o act w r Ω' d true := by
  simp only [ae, Option.bind_eq_some_iff] at h
  obtain ⟨a, ha, h⟩ := h
  split at h
  · rename_i st
    cases h
    have hv := (ev_ok hE hx ha).inv_v
    have hg := grownCap_ge w st.size 0 el
    have hsz : (bytesRow st (grownCap w st.size 0 el)).size = grownCap w st.size 0 el := by simp [bytesRow]; omega
    refine new_yields (y := .slice (some ⟨w.heap.size, 0, none⟩) st.size (grownCap w st.size 0 el)) hR (.inr rfl) (Nat.le_refl _) (fun _ => Nat.le_refl _) (fun a ha => ?_) ?_ (fun i a hi => ?_) (T := el) (fz := ((bytesRow st (grownCap w st.size 0 el)).size, (bytesRow st (grownCap w st.size 0 el)).size + 1)) ?_ (fun ρ' hl' => VR.viewAt _ _ _ (grownCap w st.size 0 el) _ hl' hg (fun m hm => by cases hm) (by omega) (fun hm => by omega) rfl)
    · simp only [strCells, List.mem_map] at ha
      obtain ⟨b, _, rfl⟩ := ha
      rfl
    · rw [hsz]
      simpa [strCells] using hg
    · simp only [strCells, List.getElem?_map, Option.map_eq_some_iff] at hi
      obtain ⟨b, hb, rfl⟩ := hi
      refine ⟨_, ?_, .v rfl⟩
      have hlt := (List.getElem?_eq_some_iff.1 hb).1
      rw [Array.length_toList] at hlt
      rw [Array.getElem?_toList] at hb
      unfold bytesRow
      rw [Array.getElem?_append_left (by simpa using hlt), Array.getElem?_map, hb]
      rfl
    · simp only [execOp, ho, hv]
      exact do_val (run_bytes_of_string w s dt el st hs hd (u8_under he))
  · cases h
theorem store_ok {P : Program} {o : Oper} {t : TypeId} {p x : Operand} (ho : o.op = .store t p x) {n : Nat} (hn : sizeT P t = some n) {ap ax : AX} (hp : cx p = some ap) (hx : cx x = some ax) {Im : Imm} {ρ : List Loc} {Ω : List Obj} {w : World} (hR : Rel Im ρ Ω w) {e : Env} {act : Act} (hE : EnvOK Im ρ e act) {r : AV} {Ω' : List Obj} {d : Bool} (h : ae e Ω (.store n ap ax) = some (r, Ω', d)) :
    YieldsE P Im ρ Ω o act w r Ω' d false := by
  simp only [ae, Option.bind_eq_some_iff, Option.map_eq_some_iff] at h
  obtain ⟨a, ha, b, hb, ⟨Ω1, d1⟩, hst, h⟩ := h
  cases h
  unfold aStore at hst
  split at hst
  · rename_i k off
    simp only [Option.bind_eq_some_iff] at hst
    obtain ⟨ob, hob, hst⟩ := hst
    split at hst
    · rename_i hq
      obtain ⟨q1, q2, q3⟩ := hq
      cases hst
      obtain ⟨hk, hl⟩ := getO_some hob
      have hcv := (ev_ok hE hx hb).cv q2
      generalize hu : act.eval p = u
      have hpu := ev_ok hE hp ha
      rw [hu] at hpu
      cases hpu with
      | ptr blk base s hr =>
        rcases hR.obj k ob hk hl with ⟨b', base', s', arr, T, fz, e1, e2, e3, e4, e5, e6, e7, f, e8, e9⟩ | ⟨e1, e2⟩
        · rw [hr] at e1
          cases e1
          refine ⟨.skip, undef, _, ρ, ?_, .inr ⟨rfl, rfl⟩, .dead, write_step hR hk hl hr e2 hcv q2 (by rw [q1]; exact q3), fun h => by cases h⟩
          have hsz : (act.eval x).cells.size = n := by rw [← hcv.1, q1]
          have := run_storeCells_put (P := P) (b := blk) (o := base + off) (vs := (act.eval x).cells) e2 (by rw [e5]; exact e4) (by rw [e5]; omega) (hcv.one (all_mem q2))
          simp only [execOp, ho, hu, Instr.storeAt, Instr.sureAddr, storeVar, pure_bind, Sem.run_bind, run_sizeOf' hn, Result.andThen_ok, hsz, ne_eq, not_true_eq_false, if_false, this, Sem.run_pure]
        · rw [hr] at e1
          cases e1
    · cases hst
  · cases hst
end Go.Proofs.Ythkjiclplecljaa.Sym

/- append and copy; all operations that make or change memory. -/
namespace Go.Proofs.Ythkjiclplecljaa.Sym
open Go
set_option linter.unusedVariables false
set_option linter.unusedSimpArgs false

theorem lies_range {Im : Imm} {ρ : List Loc} {xs : List AV} {w : World} {b o : Nat} {f : Nat → Value} (hL : Lies w b o f xs) (hV : ∀ (i : Nat) a, xs[i]? = some a → VR Im ρ a (f i)) {P : Program} (off k : Nat) (hk : off + k ≤ xs.length) :
    CV Im ρ ((xs.drop off).take k) ((List.range k).map fun j => f (off + j)).toArray ∧ ∀ w', Same w w' → (loadCells ⟨b, o + off, none⟩ k).run P w' = .ok ((List.range k).map fun j => f (off + j)).toArray w' := by
  refine ⟨CV.mk (by first | (simp; done) | (simp; omega)) fun j a hj => ?_, fun w' hs => ?_⟩
  · have hj2 := (List.getElem?_eq_some_iff.1 hj).1
    rw [List.length_take, Nat.lt_min] at hj2
    rw [List.getElem?_take_of_lt hj2.1, List.getElem?_drop] at hj
    refine ⟨f (off + j), ?_, hV _ _ hj⟩
    rw [List.getElem?_toArray, List.getElem?_map, List.getElem?_range hj2.1]
    rfl
  · refine run_loadCells w' _ k (fun j => f (off + j)) fun j hj => ?_
    rw [add_at, Nat.add_assoc]
    exact (hL.same (hs b hL.lt)).cell (by omega)

theorem strCells_length (s : ByteArray) : (strCells s).length = s.size := by simp [strCells]
/-- The source of an append, or of a copy. -/
theorem elemsS_ok {P : Program} {Im : Imm} {ρ : List Loc} {Ω : List Obj} {w : World} (hR : Rel Im ρ Ω w) {esz m : Nat} {a : AV} {ys : List AV} (h : elemsS Ω esz a = some (m, ys)) {u : Value} (hu : VR Im ρ a u) :
    (∀ w', (Builtin.lenOf u).run P w' = .ok m w') ∧ ∃ news : Nat → Array Value, ∀ n, n ≤ m → CV Im ρ (ys.take (n * esz)) (news n) ∧ ∀ w', Same w w' → (Builtin.firstCells esz n u).run P w' = .ok (news n) w' := by
  have lenS : ∀ (b : Option Addr) (n c : Nat) w', (Builtin.lenOf (.slice b n c)).run P w' = .ok n w' := fun b n c w' => rfl
  have fromLies : ∀ {xs : List AV} {b o off n cap : Nat} {f : Nat → Value} {ρ' : List Loc}, Lies w b o f xs → (∀ (i : Nat) a, xs[i]? = some a → VR Im ρ' a (f i)) → RhoLe ρ' ρ → off + n * esz ≤ xs.length → ys = (xs.drop off).take (n * esz) → m = n →
      ∃ news : Nat → Array Value, ∀ j, j ≤ m → CV Im ρ (ys.take (j * esz)) (news j) ∧ ∀ w', Same w w' → (Builtin.firstCells esz j (.slice (some ⟨b, o + off, none⟩) n cap)).run P w' = .ok (news j) w' := fun {xs b o off n cap f ρ'} hL hV hρ hle hys hm => by
    subst hys hm
    refine ⟨fun j => ((List.range (j * esz)).map fun i => f (off + i)).toArray, fun j hj => ?_⟩
    have hmul : j * esz ≤ m * esz := Nat.mul_le_mul_right _ hj
    obtain ⟨h1, h2⟩ := lies_range (P := P) hL (fun i a hi => (hV i a hi).mono (ImLe.refl _) ρ hρ) off (j * esz) (by omega)
    refine ⟨?_, fun w' hs => h2 w' hs⟩
    rw [List.take_take, Nat.min_eq_left hmul]
    exact h1
  have empty : ∀ (b : Option Addr) (c : Nat), m = 0 → ys = [] → ∃ news : Nat → Array Value, ∀ j, j ≤ m → CV Im ρ (ys.take (j * esz)) (news j) ∧ ∀ w', Same w w' → (Builtin.firstCells esz j (.slice b 0 c)).run P w' = .ok (news j) w' := fun b c hm hys => by
    subst hm hys
    refine ⟨fun _ => #[], fun j hj => ?_⟩
    obtain rfl : j = 0 := by omega
    refine ⟨by rw [List.take_nil]; exact CV.mk rfl (fun i a hi => by simp at hi), fun w' hs => ?_⟩
    cases b with
    | none => simp [Builtin.firstCells]
    | some a => simp [Builtin.firstCells, loadCells, loadCellsFrom]
  have base : elems Ω esz a = some (m, ys) → (∀ w', (Builtin.lenOf u).run P w' = .ok m w') ∧ ∃ news : Nat → Array Value, ∀ n, n ≤ m → CV Im ρ (ys.take (n * esz)) (news n) ∧ ∀ w', Same w w' → (Builtin.firstCells esz n u).run P w' = .ok (news n) w' := fun h => by
    unfold elems at h
    split at h
    · cases h
      cases hu
      exact ⟨lenS _ _ _, empty _ _ rfl rfl⟩
    · rename_i n cl xs
      split at h
      · rename_i hl
        cases h
        cases hu with
        | shr b o cap arr f hb hc hcl ha h1 h2 =>
          obtain ⟨T, fz, hw⟩ := hR.im _ _ hb
          refine ⟨lenS _ _ _, fromLies (off := 0) (ρ' := []) (f := f) ⟨arr, T, fz, hw, h1⟩ h2 (fun k x hk => by simp at hk) (by omega) ?_ rfl⟩
          rw [List.drop_zero, ← hl, List.take_length]
        | shr0 => exact ⟨lenS _ _ _, empty _ _ rfl rfl⟩
      · cases h
    · rename_i k off n sz c
      split at h
      · rename_i hsz
        subst hsz
        simp only [Option.bind_eq_some_iff] at h
        obtain ⟨ob, hob, h⟩ := h
        split at h
        · rename_i hle
          cases h
          cases hu with
          | view b o s cap hk hc h1 h2 h3 =>
            obtain ⟨f, hL, hV⟩ := hR.lies hob hk
            exact ⟨lenS _ _ _, fromLies hL hV (RhoLe.refl _) hle rfl rfl⟩
          | viewE b o s o' hk h1 h2 h3 => exact ⟨lenS _ _ _, empty _ _ rfl (by simp)⟩
          | view0 hk h1 => exact ⟨lenS _ _ _, empty _ _ rfl (by simp)⟩
        · cases h
      · cases h
    · cases h
  unfold elemsS at h
  split at h
  · rename_i s
    split at h
    · rename_i he
      subst he
      cases h
      cases hu
      refine ⟨fun w' => rfl, fun n => (s.extract 0 n).data.map fun b => .int .u8 b.toNat, fun n hn => ⟨CV.mk ?_ fun i a hi => ?_, fun w' hs => rfl⟩⟩
      · rw [List.length_take, strCells_length, Array.size_map]
        have : (s.extract 0 n).data.size = (s.extract 0 n).size := rfl
        rw [this, ByteArray.size_extract]
        omega
      · have hj2 := (List.getElem?_eq_some_iff.1 hi).1
        rw [List.length_take, Nat.lt_min] at hj2
        rw [List.getElem?_take_of_lt hj2.1] at hi
        simp only [strCells, List.getElem?_map, Option.map_eq_some_iff] at hi
        obtain ⟨b, hb, rfl⟩ := hi
        refine ⟨_, ?_, .v rfl⟩
        rw [Array.getElem?_toList] at hb
        rw [Array.getElem?_map]
        have : (s.extract 0 n).data[i]? = some b := by
          rw [ByteArray.data_extract, Array.getElem?_extract, if_pos (by
            have q := hj2.2
            rw [strCells_length] at q
            have : s.data.size = s.size := rfl
            have := hj2.1
            omega), Nat.zero_add]
          exact hb
        rw [this]
        rfl
    · cases h
  · exact base h

theorem firstTwo {ts : Array TypeId} {t t' : TypeId} {r : List TypeId} (h : ts.toList = t :: t' :: r) : ts[0]? = some t ∧ ts[1]? = some t' := by
  rw [← Array.getElem?_toList, ← Array.getElem?_toList, h]
  exact ⟨rfl, rfl⟩
theorem isSrc_not {u : TypeDesc} (h : isSrc u = true) : (match u with | .int _ => true | _ => false) = false := by cases u <;> first | rfl | simp [isSrc] at h
theorem run_app_fit {P : Program} {ts : Array TypeId} {t t' ty e : TypeId} {r : List TypeId} (hts : ts.toList = t :: t' :: r) {i : TypeInfo} (ht : P.underlying t = some (.slice e)) (hi : P.info? e = some i) {u : TypeDesc} (hu : P.underlying t' = some u) (hsrc : isSrc u = true) {base : Option Addr} {sLen sCap m : Nat} {y : Value} {w : World} {new : Array Value}
    (hlen : (Builtin.lenOf y).run P w = .ok m w) (hfit : sLen + m ≤ sCap) (hfirst : (Builtin.firstCells i.size m y).run P w = .ok new w) :
    (Builtin.append_ ts ty #[.slice base sLen sCap, y]).run P w = match base with
      | none => .ok (.slice none (sLen + m) sCap) w
      | some a => ((storeCells (a.add (sLen * i.size)) new.toList).run P w).andThen fun _ w' => .ok (.slice (some a) (sLen + m) sCap) w' := by
  obtain ⟨h0, h1⟩ := firstTwo hts
  have hz := isSrc_not hsrc
  cases base <;> (cases u <;> first | (simp [isSrc] at hsrc; done) | simp [Builtin.append_, h0, h1, run_underlying ht, run_underlying hu, sizeOf, typeInfo, hi, hlen, hfit, hfirst])
theorem run_app_grow {P : Program} {ts : Array TypeId} {t t' ty e : TypeId} {r : List TypeId} (hts : ts.toList = t :: t' :: r) {i : TypeInfo} {z : Value} (ht : P.underlying t = some (.slice e)) (hi : P.info? e = some i) (hz : i.zero = some z) {u : TypeDesc} (hu : P.underlying t' = some u) (hsrc : isSrc u = true) {base : Option Addr} {sLen sCap m : Nat} {y : Value} {w : World} {old new : Array Value}
    (hlen : (Builtin.lenOf y).run P w = .ok m w) (hg : sCap < sLen + m) (hsmall : (sLen + m) * i.bytes ≤ 140737488355328) (h63 : ((sLen + m : Nat) : Int) ≤ 9223372036854775807) (hold : (Builtin.firstCells i.size sLen (.slice base sLen sCap)).run P w.drew = .ok old w.drew) (hfirst : (Builtin.firstCells i.size m y).run P w.drew = .ok new w.drew) :
    (Builtin.append_ ts ty #[.slice base sLen sCap, y]).run P w = .ok (.slice (some ⟨w.heap.size, 0, none⟩) (sLen + m) (grownCap w (sLen + m) sCap e)) (w.drew.alloc (.cells (old ++ new ++ Builtin.zeroCells z.cells (grownCap w (sLen + m) sCap e - (sLen + m))) e)) := by
  obtain ⟨h0, h1⟩ := firstTwo hts
  have hfit := growslice_fits hg hsmall
  have hn : ¬ (sLen + m ≤ sCap) := by omega
  have h63' : ¬ (9223372036854775807 < ((sLen : Int) + (m : Int))) := by omega
  have h48' : ¬ (281474976710656 < Builtin.nextslicecap (sLen + m) sCap * i.bytes) := by omega
  cases u <;> first | (simp [isSrc] at hsrc; done) | simp [Builtin.append_, h0, h1, run_underlying ht, run_underlying hu, sizeOf, typeInfo, zeroValue, hi, hz, hlen, hn, h63', h48', Question.forced, hold, hfirst, newRow, grownCap]

theorem CV.nil {Im : Imm} {ρ : List Loc} {arr : Array Value} (h : CV Im ρ [] arr) : arr = #[] := by
  have := h.1
  exact Array.eq_empty_of_size_eq_zero (by simpa using this.symm)
theorem CV.up {Im : Imm} {ρ ρ' : List Loc} {xs : List AV} {arr : Array Value} (h : CV Im ρ xs arr) (hρ : RhoLe ρ ρ') : CV Im ρ' xs arr := ⟨h.1, h.2.choose, h.2.choose_spec.1, fun i a hi => (h.2.choose_spec.2 i a hi).mono (ImLe.refl _) _ hρ⟩
theorem take_all {xs : List AV} {n : Nat} (h : xs.length = n) : xs.take n = xs := by rw [← h, List.take_length]
theorem elemsS_length {Ω : List Obj} {esz m : Nat} {a : AV} {ys : List AV} (h : elemsS Ω esz a = some (m, ys)) : ys.length = m * esz := by
  have base : ∀ a, elems Ω esz a = some (m, ys) → ys.length = m * esz := fun a h => by
    unfold elems at h
    split at h
    · cases h; simp
    · split at h
      · cases h; assumption
      · cases h
    · split at h
      · simp only [Option.bind_eq_some_iff] at h
        obtain ⟨ob, hob, h⟩ := h
        split at h
        · cases h
          rw [List.length_take, List.length_drop]
          omega
        · cases h
      · cases h
    · cases h
  unfold elemsS at h
  split at h
  · split at h
    · rename_i he
      cases h
      rw [strCells_length, he, Nat.mul_one]
    · cases h
  · exact base _ h
theorem Step.demote {Im : Imm} {ρ ρ' : List Loc} {Ω : List Obj} {w w' : World} {xs : List AV} (h : Step Im ρ Ω w Im ρ' (newO Ω xs) w' false) {d : Bool} (k : Nat) (ob : Obj) (fr fl : Bool) (hfl : fl = true → ∀ a ∈ xs, flat0 a = true) : Step Im ρ Ω w Im ρ' (kill Ω k ob ++ [⟨true, fr, fl, xs⟩]) w' d := by
  have hlen : (kill Ω k ob).length = Ω.length := by unfold Sym.kill; rw [List.length_set]
  have get : ∀ (i : Nat) o', (kill Ω k ob ++ [⟨true, fr, fl, xs⟩])[i]? = some o' → o'.live = true → ((newO Ω xs)[i]? = some o' ∧ i < Ω.length) ∨ (o' = ⟨true, fr, fl, xs⟩ ∧ i = Ω.length ∧ (newO Ω xs)[i]? = some ⟨true, true, xs.all flat0, xs⟩) := fun i o' hi hl => by
    rw [List.getElem?_append] at hi
    unfold newO
    rw [List.getElem?_append]
    split at hi
    · rename_i hlt
      rw [hlen] at hlt
      rw [if_pos hlt]
      exact .inl ⟨(kill_get hi hl).1, hlt⟩
    · rename_i hge
      rw [hlen] at hge hi
      have := (List.getElem?_eq_some_iff.1 hi).1
      simp at this
      have e : i - Ω.length = 0 := by omega
      rw [e] at hi
      rw [if_neg hge, e]
      exact .inr ⟨by simpa using hi.symm, by omega, rfl⟩
  have big : ∀ (i : Nat) o', (kill Ω k ob ++ [⟨true, fr, fl, xs⟩])[i]? = some o' → o'.live = true → ∃ o'', (newO Ω xs)[i]? = some o'' ∧ o''.live = true ∧ o''.cells = o'.cells ∧ (o'.fresh = true → o''.fresh = true) := fun i o' hi hl => by
    rcases get i o' hi hl with ⟨h1, _⟩ | ⟨rfl, _, h1⟩
    · exact ⟨o', h1, hl, rfl, id⟩
    · exact ⟨_, h1, rfl, rfl, fun _ => rfl⟩
  refine ⟨⟨?_, h.rel.im, fun i o' hi hl => ?_, fun i o' hi hl => ?_, fun i o' hi hl hf => ?_, fun i j o1 o2 b s1 s2 b' s1' s2' h1 h2 l1 l2 hne r1 r2 => ?_, h.rel.gl⟩, h.fr.imp fun b hb => hb.up (fun e => by cases e), h.rho, h.im, fun d' b hb => h.new d' b ?_⟩
  · rw [List.length_append, hlen, h.rel.len]
    simp [newO]
  · obtain ⟨o'', e1, e2, e3, _⟩ := big i o' hi hl
    have := h.rel.obj i o'' e1 e2
    unfold ObjAt at this ⊢
    rw [e3] at this
    exact this
  · obtain ⟨o'', e1, e2, e3, _⟩ := big i o' hi hl
    rw [← e3]
    exact h.rel.atoms i o'' e1 e2
  · rcases get i o' hi hl with ⟨h1, _⟩ | ⟨rfl, _, h1⟩
    · exact h.rel.flat i o' h1 hl hf
    · exact hfl hf
  · obtain ⟨o3, e1, e2, _, _⟩ := big i o1 h1 l1
    obtain ⟨o4, f1, f2, _, _⟩ := big j o2 h2 l2
    exact h.rel.sep i j o3 o4 b s1 s2 b' s1' s2' e1 f1 e2 f2 hne r1 r2
  · obtain ⟨i, o', s1, s2, h1, h2, h3, h4⟩ := hb
    obtain ⟨o'', e1, e2, _, e4⟩ := big i o' h1 h2
    exact ⟨i, o'', s1, s2, e1, e2, h3.imp id e4, h4⟩
/-- An object gone, its block written, and under a new number what it is now. -/
theorem take_step {Im : Imm} {ρ : List Loc} {Ω : List Obj} {w : World} (h : Rel Im ρ Ω w) {k : Nat} {ob : Obj} (hk : Ω[k]? = some ob) (hl : ob.live = true) {b base s off o' : Nat} (hr : ρ[k]? = some (some (b, base, s))) {arr : Array Value} {T : TypeId} {fz : Nat × Nat} (hb : w.heap[b]? = some (.cells arr T fz)) (hoff : base + off ≤ s) {vs : Array Value} (hvs : o' + vs.size ≤ s)
    {xs : List AV} (hx : ∀ a ∈ xs, atom a = true) {fl : Bool} (hfl : fl = true → ∀ a ∈ xs, flat0 a = true) (hs : base + off + xs.length ≤ s) (hc : ∀ (i : Nat) a, xs[i]? = some a → ∃ v, (putA arr o' vs)[base + off + i]? = some v ∧ VR Im ρ a v) :
    Step Im ρ Ω w Im (ρ ++ [some (b, base + off, s)]) (kill Ω k ob ++ [⟨true, ob.fresh, fl, xs⟩]) (World.setB w b (.cells (putA arr o' vs) T fz)) (!ob.fresh) := by
  rcases h.obj k ob hk hl with ⟨b', base', s', arr', T', fz', e1, e2, e3, e4, e5, e6, e7, f, e8, e9⟩ | ⟨e1, e2⟩
  case inr => rw [hr] at e1; cases e1
  rw [hr] at e1
  cases e1
  rw [hb] at e2
  cases e2
  have hbl := heap_lt hb
  have hsz : (putA arr o' vs).size = s := by rw [putA_size, e5]
  have hklen : (kill Ω k ob).length = Ω.length := by unfold Sym.kill; rw [List.length_set]
  have hR1 := h.killed k ob
  have noone : ∀ (i : Nat) o1 s1 s2, (kill Ω k ob)[i]? = some o1 → o1.live = true → ρ[i]? ≠ some (some (b, s1, s2)) := fun i o1 s1 s2 hi hl1 hri => by
    obtain ⟨h1, h2⟩ := kill_get hi hl1
    exact h.sep i k o1 ob b s1 s2 b base s h1 hk hl1 hl h2 hri hr rfl
  have him : ∀ c a, Im c = some a → ∃ T' fz', (World.setB w b (.cells (putA arr o' vs) T fz)).heap[c]? = some (.cells a T' fz') := fun c a hc => by
    obtain ⟨T2, fz2, e⟩ := hR1.im c a hc
    refine ⟨T2, fz2, ?_⟩
    rw [setB_get hbl, if_neg]
    · exact e
    · rintro rfl
      rw [e7] at hc
      cases hc
  have hob : ∀ (i : Nat) o1, (kill Ω k ob)[i]? = some o1 → o1.live = true → ObjAt Im ρ (World.setB w b (.cells (putA arr o' vs) T fz)) i o1 := fun i o1 hi hl1 =>
    (hR1.obj i o1 hi hl1).mono (ImLe.refl _) (RhoLe.refl _) (fun c s1 s2 hc => by
      rw [setB_get hbl, if_neg]
      rintro rfl
      exact noone i o1 s1 s2 hi hl1 hc) (fun _ _ _ _ hn => hn)
  have hR2 : Rel Im ρ (kill Ω k ob) (World.setB w b (.cells (putA arr o' vs) T fz)) := ⟨hR1.len, him, hob, hR1.atoms, hR1.flat, hR1.sep, hR1.gl⟩
  have hR3 := hR2.push (b := b) (base := base + off) (arr := putA arr o' vs) (T := T) (fz := fz) (by rw [setB_get hbl, if_pos rfl]) e3 (by rw [hsz]; exact e4) e7 noone (fresh := ob.fresh) hx hfl (by rw [hsz]; exact hs) hc
  rw [hsz] at hR3
  refine ⟨hR3, ⟨rfl, rfl, rfl, by unfold World.setB; simp, fun c hc hn => ?_⟩, RhoLe.snoc _ _, ImLe.refl _, fun d' c hc => .inl ?_⟩
  · rw [setB_get hbl, if_neg]
    rintro rfl
    refine hn ⟨k, ob, base, s, hk, hl, ?_, hr⟩
    cases ob.fresh <;> simp
  · rcases LBd.push (by rw [hklen]; exact h.len) hc with hc | ⟨s1, s2, hc, hf⟩
    · obtain ⟨i, o1, s1, s2, h1, h2, h3, h4⟩ := hc
      exact ⟨i, o1, s1, s2, (kill_get h1 h2).1, h2, h3, h4⟩
    · cases hc
      exact ⟨k, ob, base, s, hk, hl, hf, hr⟩
/-- What an append gives, in any case. -/
theorem aApp_ok {P : Program} {ts : Array TypeId} {t t' ty e : TypeId} {rr : List TypeId} (hts : ts.toList = t :: t' :: rr) {i : TypeInfo} {z : List AV} (ht : P.underlying t = some (.slice e)) (hi : P.info? e = some i) (hcz : cz P e = some z) (hpos : 0 < i.size) (hzl : z.length = i.size) {ud : TypeDesc} (hu : P.underlying t' = some ud) (hsrc : isSrc ud = true)
    {Im : Imm} {ρ : List Loc} {Ω : List Obj} {w : World} (hR : Rel Im ρ Ω w) {x y : AV} {u v : Value} (hx : VR Im ρ x u) (hy : VR Im ρ y v) {r : AV} {Ω' : List Obj} {d : Bool} (h : aApp Ω i.size i.bytes x y = some (r, Ω', d)) :
    ∃ (q : Value) (w' : World) (ρ' : List Loc), (Builtin.append_ ts ty #[u, v]).run P w = .ok q w' ∧ VR Im ρ' r q ∧ Step Im ρ Ω w Im ρ' Ω' w' d := by
  obtain ⟨i', zv, hi', hzv, hzc, hzat, hzfl⟩ := cz_ok hcz Im ρ
  rw [hi] at hi'
  cases hi'
  unfold aApp at h
  rw [Option.bind_eq_some_iff] at h
  obtain ⟨⟨m, ys⟩, hys, h⟩ := h
  simp only at h
  split at h
  case isFalse => cases h
  rename_i hat
  have hylen := elemsS_length hys
  obtain ⟨hlen, news, hnews⟩ := elemsS_ok (P := P) hR hys hy
  obtain ⟨hcv, hfirst⟩ := hnews m (Nat.le_refl _)
  rw [take_all hylen] at hcv
  have hone := hcv.one (all_mem hat)
  have sameD : Same w w.drew := fun _ _ => rfl
  -- nothing appended
  have same : ∀ (base : Option Addr) (n cap : Nat), m = 0 → n ≤ cap → u = .slice base n cap → ∃ (q : Value) (w' : World) (ρ' : List Loc), (Builtin.append_ ts ty #[u, v]).run P w = .ok q w' ∧ VR Im ρ' x q ∧ Step Im ρ Ω w Im ρ' Ω w' false := fun base n cap hm hn hub => by
    subst hm hub
    have hnil : news 0 = #[] := CV.nil (by have : ys = [] := by simpa using hylen
                                           rw [this] at hcv; exact hcv)
    refine ⟨.slice base n cap, w, ρ, ?_, hx, Step.refl hR false⟩
    rw [run_app_fit hts ht hi hu hsrc (hlen w) (by omega) (hfirst w (Same.refl w)), hnil]
    cases base <;> simp [storeCells]
  -- a new block
  have fresh : ∀ (base : Option Addr) (n cap : Nat) (xs : List AV) (old : Array Value), u = .slice base n cap → cap < n + m → CV Im ρ xs old → (∀ a ∈ xs, atom a = true) → xs.length = n * i.size → (∀ w', Same w w' → (Builtin.firstCells i.size n (.slice base n cap)).run P w' = .ok old w') → (n + m) * i.bytes ≤ 140737488355328 → ((n + m : Nat) : Int) ≤ 9223372036854775807 →
      ∃ (q : Value) (w' : World) (ρ' : List Loc), (Builtin.append_ ts ty #[u, v]).run P w = .ok q w' ∧ VR Im ρ' (.view Ω.length 0 (n + m) i.size none) q ∧ Step Im ρ Ω w Im ρ' (newO Ω (xs ++ ys)) w' false := fun base n cap xs old hub hcap hxs hxat hxl hold hb1 hb2 => by
    subst hub
    have hrun := run_app_grow (ty := ty) hts ht hi hzv hu hsrc (hlen w) hcap hb1 hb2 (hold _ sameD) (hfirst _ sameD)
    have hg := grownCap_ge w (n + m) cap e
    have hcv2 := hxs.append hcv
    have e1 := hcv2.1
    rw [List.length_append, hxl, hylen, ← Nat.add_mul] at e1
    have hzsz : zv.cells.size = i.size := by rw [← hzl, hzc.1]
    have hsz : (old ++ news m ++ Builtin.zeroCells zv.cells (grownCap w (n + m) cap e - (n + m))).size = grownCap w (n + m) cap e * i.size := by
      rw [Array.size_append, ← e1, size_zeroCells, hzsz, sub_mul_add hg]
    have hst := alloc_step (w1 := w.drew) hR rfl rfl rfl rfl (arr := old ++ news m ++ Builtin.zeroCells zv.cells (grownCap w (n + m) cap e - (n + m))) (T := e) (fz := (0, 0)) zero_fr (by simp) (xs := xs ++ ys) (fun a ha => by
      rcases List.mem_append.1 ha with ha | ha
      · exact hxat a ha
      · exact all_mem hat a ha) (by rw [hsz, List.length_append, hxl, hylen, ← Nat.add_mul]; exact Nat.mul_le_mul_right _ hg) (fun i a hi => hcv2.cells_at i a hi)
    refine ⟨_, _, _, hrun, ?_, hst⟩
    exact VR.viewAt _ _ _ (grownCap w (n + m) cap e) _ (new_loc hR _) hg (fun m hm => by cases hm) (by rw [hsz]; omega) (fun _ => by rw [hsz]; omega) rfl
  split at h
  · -- nil
    split at h
    · rename_i hm
      cases h
      exact same none 0 0 hm (Nat.le_refl _) hx.inv_v
    · rename_i hm
      split at h
      · rename_i hb
        cases h
        have := fresh none 0 0 [] #[] hx.inv_v (by omega) (CV.mk rfl (fun i a hi => by simp at hi)) (fun a ha => by simp at ha) (by simp) (fun w' _ => by simp [Builtin.firstCells]) (by rw [Nat.zero_add]; exact hb.1) (by omega)
        simpa using this
      · cases h
  · -- what nobody writes
    rename_i n cl xs
    split at h
    · rename_i hm
      cases h
      cases hx with
      | shr b o cap arr f hb hc hcl ha h1 h2 => exact same _ n cap hm hc rfl
      | shr0 => exact same _ 0 0 hm (Nat.le_refl _) rfl
    · rename_i hm
      split at h
      · rename_i hb
        obtain ⟨b1, b2, b3, b4⟩ := hb
        cases h
        have hel : elemsS Ω i.size (.shr n cl xs) = some (n, xs) := by simp [elemsS, elems, b2]
        obtain ⟨_, olds, holds⟩ := elemsS_ok (P := P) hR hel hx
        obtain ⟨ho1, ho2⟩ := holds n (Nat.le_refl _)
        rw [take_all b2] at ho1
        have hxa : ∀ a ∈ xs, atom a = true := by
          cases hx with
          | shr b o cap arr f hb hc hcl ha h1 h2 => exact fun a ha' => by obtain ⟨j, hj⟩ := List.mem_iff_getElem?.1 ha'; exact ha j a hj
          | shr0 => exact fun a ha' => by simp at ha'
        have hform : ∃ base cap, u = .slice base n cap ∧ cap = n := by
          cases hx with
          | shr b o cap arr f hb hc hcl ha h1 h2 => exact ⟨_, cap, rfl, hcl b1⟩
          | shr0 => exact ⟨_, 0, rfl, rfl⟩
        obtain ⟨base, cap, hub, hcap⟩ := hform
        refine fresh base n cap xs (olds n) hub (by omega) ho1 hxa b2 (fun w' hs => ?_) b3 (by omega)
        have := ho2 w' hs
        rw [hub] at this
        exact this
      · cases h
  · -- the call's own
    rename_i k off n sz c
    split at h
    · rename_i hm
      cases h
      cases hx with
      | view b o s cap hk hc h1 h2 h3 => exact same _ n cap hm hc rfl
      | viewE b o s o' hk h1 h2 h3 => exact same _ 0 0 hm (Nat.le_refl _) rfl
      | view0 hk h1 => exact same _ 0 0 hm (Nat.le_refl _) rfl
    · rename_i hm
      rw [Option.bind_eq_some_iff] at h
      obtain ⟨ob, hob, h⟩ := h
      obtain ⟨hk, hl⟩ := getO_some hob
      split at h
      case isFalse => cases h
      rename_i hb
      obtain ⟨rfl, b2, b3, b4⟩ := hb
      have hatoms := hR.atoms k ob hk hl
      have hel : elemsS Ω i.size (.view k off n i.size c) = some (n, (ob.cells.drop off).take (n * i.size)) := by simp [elemsS, elems, hob, b2]
      have hxl : ((ob.cells.drop off).take (n * i.size)).length = n * i.size := elemsS_length hel
      obtain ⟨_, olds, holds⟩ := elemsS_ok (P := P) hR hel hx
      obtain ⟨ho1, ho2⟩ := holds n (Nat.le_refl _)
      rw [take_all hxl] at ho1
      have hxa : ∀ a ∈ (ob.cells.drop off).take (n * i.size), atom a = true := fun a ha => hatoms a (List.mem_of_mem_drop (List.mem_of_mem_take ha))
      -- in place, within what is there
      have inplace : ∀ (b base s cap : Nat), ρ[k]? = some (some (b, base, s)) → u = .slice (some ⟨b, base + off, none⟩) n cap → n + m ≤ cap → off + (n + m) * i.size ≤ ob.cells.length → (∀ q, c = some q → cap = q) → base + off + cap * i.size ≤ s → (c = none → base + off + cap * i.size = s) →
          ∃ (q : Value) (w' : World) (ρ' : List Loc), (Builtin.append_ ts ty #[u, v]).run P w = .ok q w' ∧ VR Im ρ' (.view k off (n + m) i.size c) q ∧ Step Im ρ Ω w Im ρ' (Ω.set k { ob with flat := ob.flat && ys.all flat0, cells := putL ob.cells (off + n * i.size) ys }) w' (!ob.fresh) := fun b base s cap hr hub hcap hle h1 h2 h3 => by
        subst hub
        rcases hR.obj k ob hk hl with ⟨b', base', s', arr, T, fz, e1, e2, e3, e4, e5, e6, e7, f, e8, e9⟩ | ⟨e1, e2⟩
        · rw [hr] at e1
          cases e1
          have hsz : (news m).size = m * i.size := by rw [← hcv.1, hylen]
          have hle' : off + n * i.size + ys.length ≤ ob.cells.length := by rw [hylen, Nat.add_assoc, ← Nat.add_mul]; exact hle
          have hst := run_storeCells_put (P := P) (b := b) (o := base + (off + n * i.size)) (vs := news m) e2 (by rw [e5]; exact e4) (by rw [hsz, e5]; rw [hylen] at hle'; omega) hone
          refine ⟨.slice (some ⟨b, base + off, none⟩) (n + m) cap, _, ρ, ?_, .view b base s cap hr hcap h1 h2 h3, write_step hR hk hl hr e2 hcv hat hle'⟩
          rw [run_app_fit hts ht hi hu hsrc (hlen w) hcap (hfirst w (Same.refl w))]
          simp only [add_at]
          rw [Nat.add_assoc, hst]
          rfl
        · rw [hr] at e1
          cases e1
      have grow : ∀ (base : Option Addr) (cap : Nat), u = .slice base n cap → cap < n + m → ∃ (q : Value) (w' : World) (ρ' : List Loc), (Builtin.append_ ts ty #[u, v]).run P w = .ok q w' ∧ VR Im ρ' (.view Ω.length 0 (n + m) i.size none) q ∧ Step Im ρ Ω w Im ρ' (newO Ω ((ob.cells.drop off).take (n * i.size) ++ ys)) w' false := fun base cap hub hcap =>
        fresh base n cap _ (olds n) hub hcap ho1 hxa hxl (fun w' hs => by have := ho2 w' hs; rw [hub] at this; exact this) b3 (by omega)
      split at h
      · rename_i cap
        split at h
        · rename_i hfit
          split at h
          · rename_i hle
            cases h
            cases hx with
            | view b o s cap' hk' hc h1 h2 h3 => exact inplace b o s cap' hk' rfl (by rw [h1 _ rfl]; exact hfit) hle h1 h2 h3
            | viewE b o s o' hk' h1 h2 h3 => have := h1 _ rfl; omega
            | view0 hk' h1 => have := h1 _ rfl; omega
          · cases h
        · rename_i hfit
          cases h
          cases hx with
          | view b o s cap' hk' hc h1 h2 h3 => exact grow _ _ rfl (by rw [h1 _ rfl]; omega)
          | viewE b o s o' hk' h1 h2 h3 => exact grow _ _ rfl (by omega)
          | view0 hk' h1 => exact grow _ _ rfl (by omega)
      · split at h
        · rename_i hle
          cases h
          cases hx with
          | view b o s cap hk' hc h1 h2 h3 =>
            refine inplace b o s cap hk' rfl ?_ hle h1 h2 h3
            have h3' := h3 rfl
            have hsz : o + ob.cells.length ≤ s := by
              rcases hR.obj k ob hk hl with ⟨b', base', s', arr, T, fz, e1, e2, e3, e4, e5, e6, e7, f, e8, e9⟩ | ⟨e1, e2⟩
              · rw [hk'] at e1; cases e1; exact e6
              · rw [hk'] at e1; cases e1
            exact Nat.le_of_mul_le_mul_right (show (n + m) * i.size ≤ cap * i.size by omega) hpos
          | viewE b o s o' hk' h1 h2 h3 =>
            have h3' := h3 rfl
            have hmul : 0 < m * i.size := Nat.mul_pos (by omega) hpos
            rcases hR.obj k ob hk hl with ⟨b', base', s', arr, T, fz, e1, e2, e3, e4, e5, e6, e7, f, e8, e9⟩ | ⟨e1, e2⟩
            · rw [hk'] at e1; cases e1; rw [Nat.zero_add] at hle; omega
            · rw [hk'] at e1; cases e1
          | view0 hk' h1 =>
            have hmul : 0 < m * i.size := Nat.mul_pos (by omega) hpos
            rcases hR.obj k ob hk hl with ⟨b', base', s', arr, T, fz, e1, e2, e3, e4, e5, e6, e7, f, e8, e9⟩ | ⟨e1, e2⟩
            · rw [hk'] at e1; cases e1
            · rw [e2, Nat.zero_add] at hle; simp at hle; omega
        · rename_i hle
          cases h
          have hfl : (ob.flat && ys.all flat0) = true → ∀ a ∈ (ob.cells.drop off).take (n * i.size) ++ ys, flat0 a = true := fun hf a ha => by
            rw [Bool.and_eq_true] at hf
            rcases List.mem_append.1 ha with ha | ha
            · exact hR.flat k ob hk hl hf.1 a (List.mem_of_mem_drop (List.mem_of_mem_take ha))
            · exact List.all_eq_true.1 hf.2 a ha
          have grown : ∀ (base : Option Addr) (cap : Nat), u = .slice base n cap → cap < n + m → ∃ (q : Value) (w' : World) (ρ' : List Loc), (Builtin.append_ ts ty #[u, v]).run P w = .ok q w' ∧ VR Im ρ' (.view Ω.length 0 (n + m) i.size none) q ∧ Step Im ρ Ω w Im ρ' (kill Ω k ob ++ [⟨true, ob.fresh, ob.flat && ys.all flat0, (ob.cells.drop off).take (n * i.size) ++ ys⟩]) w' (!ob.fresh) := fun base cap hub hcap => by
            obtain ⟨q, w', ρ', hrun, hv, hst⟩ := grow base cap hub hcap
            exact ⟨q, w', ρ', hrun, hv, hst.demote (d := !ob.fresh) k ob ob.fresh _ hfl⟩
          cases hx with
          | view b o s cap hk' hc h1 h2 h3 =>
            by_cases hfit : n + m ≤ cap
            · have h3' := h3 rfl
              rcases hR.obj k ob hk hl with ⟨b', base', s', arr, T, fz, e1, e2, e3, e4, e5, e6, e7, f, e8, e9⟩ | ⟨e1, e2⟩
              case inr => rw [hk'] at e1; cases e1
              rw [hk'] at e1
              cases e1
              have hsz : (news m).size = m * i.size := by rw [← hcv.1, hylen]
              have hmul := Nat.mul_le_mul_right i.size hfit
              rw [Nat.add_mul] at hmul
              have hst := run_storeCells_put (P := P) (b := b) (o := o + (off + n * i.size)) (vs := news m) e2 (by rw [e5]; exact e4) (by rw [hsz, e5]; omega) hone
              refine ⟨.slice (some ⟨b, o + off, none⟩) (n + m) cap, _, ρ ++ [some (b, o + off, s)], ?_, VR.viewAt b (o + off) s cap _ (new_loc hR _) hfit (fun m hm => by cases hm) (by omega) (fun _ => by omega) rfl, take_step (off := off) (o' := o + (off + n * i.size)) (vs := news m) hR hk hl hk' e2 (by omega) (by rw [hsz]; omega) (fun a ha => ?_) hfl (by rw [List.length_append, hxl, hylen]; omega) fun j a hj => ?_⟩
              · rw [run_app_fit hts ht hi hu hsrc (hlen w) hfit (hfirst w (Same.refl w))]
                simp only [add_at]
                rw [Nat.add_assoc, hst]
                rfl
              · rcases List.mem_append.1 ha with ha | ha
                · exact hxa a ha
                · exact all_mem hat a ha
              · rw [putA_get _ _ _ _ (by rw [hsz, e5]; omega)]
                rw [List.getElem?_append] at hj
                split at hj
                · rename_i hlt
                  rw [hxl] at hlt
                  rw [List.getElem?_take_of_lt hlt, List.getElem?_drop] at hj
                  rw [if_neg (by omega)]
                  exact ⟨f (off + j), by rw [Nat.add_assoc]; exact e8 _ _ hj, e9 _ _ hj⟩
                · rename_i hge
                  rw [hxl] at hj hge
                  have hj2 := (List.getElem?_eq_some_iff.1 hj).1
                  rw [hylen] at hj2
                  rw [if_pos (by rw [hsz]; omega), show o + off + j - (o + (off + n * i.size)) = j - n * i.size by omega]
                  exact hcv.at hj
            · exact grown _ _ rfl (by omega)
          | viewE b o s o' hk' h1 h2 h3 => exact grown _ _ rfl (by omega)
          | view0 hk' h1 => exact grown _ _ rfl (by omega)
  · cases h
end Go.Proofs.Ythkjiclplecljaa.Sym
