/- An abstract machine for Go code without names of memory: values, objects under numbers, operations, code. -/
import Derived.LoopN
import Derived.Laws.BytesArg
namespace Go.Proofs.Ytkaigdfklihlcaa.Sym
open Go
set_option linter.unusedVariables false

/-- What a cell or a temporary holds: a value without memory; nothing that is known; a slice of what nobody writes any more; a pointer there; a pointer, or a slice, into a numbered object; a struct, a tuple; a function with what it caught. -/
inductive AV where
  | v (x : Value)
  | dead
  | shr (n : Nat) (cl : Bool) (xs : List AV)
  | iptr (xs : List AV) (off : Nat)
  | ptr (k off : Nat)
  | view (k off n sz : Nat) (c : Option Nat)
  | agg (cs : List AV)
  | tup (cs : List AV)
  | fn (f : Nat) (cs : List AV)

instance : Inhabited AV := ⟨.dead⟩

/-- A block: is it still there (under this number), is it of this call, has it no mark of memory in it, what it holds. -/
structure Obj where
  live : Bool
  fresh : Bool
  flat : Bool
  cells : List AV

abbrev Env := List (Nat × AV)

/-- An operand. -/
inductive AX where
  | t (i : Nat)
  | c (a : AV)

/-- Values without memory. -/
def pl : Value → Bool
  | .bool _ | .int _ _ | .string _ | .pointer none | .slice none 0 0 | .nilFunc => true
  | _ => false
/-- May it stand in a cell? -/
def atom : AV → Bool
  | .v _ | .shr _ _ _ | .iptr _ _ | .ptr _ _ | .view _ _ _ _ _ => true
  | .fn _ cs => cs.isEmpty
  | _ => false
/-- No mark of an object in it. -/
def flat0 : AV → Bool
  | .v _ | .shr _ _ _ | .iptr _ _ => true
  | _ => false
def refs0 : AV → List Nat
  | .ptr k _ => [k]
  | .view k _ _ _ _ => [k]
  | _ => []
def refs1 : AV → List Nat
  | .agg cs => cs.flatMap refs0
  | .fn _ cs => cs.flatMap refs0
  | a => refs0 a
def refs : AV → List Nat
  | .tup cs => cs.flatMap refs1
  | a => refs1 a
def ren0 (f : Nat → Nat) : AV → AV
  | .ptr k o => .ptr (f k) o
  | .view k o n s c => .view (f k) o n s c
  | a => a
def ren1 (f : Nat → Nat) : AV → AV
  | .agg cs => .agg (cs.map (ren0 f))
  | .fn g cs => .fn g (cs.map (ren0 f))
  | a => ren0 f a
def ren (f : Nat → Nat) : AV → AV
  | .tup cs => .tup (cs.map (ren1 f))
  | a => ren1 f a
def cellsOf : AV → List AV
  | .agg cs => cs
  | a => [a]

def get : Env → Nat → Option AV
  | [], _ => none
  | (j, a) :: e, i => if i = j then some a else get e i
def ev (e : Env) : AX → Option AV
  | .t i => get e i
  | .c a => some a
def evs (e : Env) : List AX → Option (List AV)
  | [] => some []
  | x :: xs => (ev e x).bind fun a => (evs e xs).bind fun as => some (a :: as)
def getO (Ω : List Obj) (k : Nat) : Option Obj := match Ω[k]? with
  | some o => if o.live = true then some o else none
  | none => none
def putL : List AV → Nat → List AV → List AV
  | xs, _, [] => xs
  | xs, i, c :: cs => putL (xs.set i c) (i + 1) cs

/-! ### operations that leave memory alone -/
def bitsV (op : BinOp) (k : IntKind) (x y : Int) : Int := k.wrap (match op with
  | .and => ((BitVec.ofInt k.bits x &&& BitVec.ofInt k.bits y).toNat : Int)
  | .or => ((BitVec.ofInt k.bits x ||| BitVec.ofInt k.bits y).toNat : Int)
  | .xor => ((BitVec.ofInt k.bits x ^^^ BitVec.ofInt k.bits y).toNat : Int)
  | _ => ((BitVec.ofInt k.bits x &&& ~~~ BitVec.ofInt k.bits y).toNat : Int))
def aInt (op : BinOp) (k : IntKind) (a b : Int) : Option AV :=
  match op with
  | .add => some (.v (.int k (k.wrap (a + b))))
  | .sub => some (.v (.int k (k.wrap (a - b))))
  | .mul => some (.v (.int k (k.wrap (a * b))))
  | .quo => if b = 0 then none else some (.v (.int k (k.wrap (a.tdiv b))))
  | .rem => if b = 0 then none else some (.v (.int k (a.tmod b)))
  | .and => some (.v (.int k (bitsV .and k a b)))
  | .or => some (.v (.int k (bitsV .or k a b)))
  | .xor => some (.v (.int k (bitsV .xor k a b)))
  | .andNot => some (.v (.int k (bitsV .andNot k a b)))
  | .eql => some (.v (.bool (a == b)))
  | .neq => some (.v (.bool (a != b)))
  | .lss => some (.v (.bool (decide (a < b))))
  | .leq => some (.v (.bool (decide (a ≤ b))))
  | .gtr => some (.v (.bool (decide (b < a))))
  | .geq => some (.v (.bool (decide (b ≤ a))))
  | .shl => if b < 0 then none else some (.v (.int k (k.wrap (a * 2 ^ min b.toNat k.bits))))
  | .shr => if b < 0 then none else some (.v (.int k (a.fdiv (2 ^ min b.toNat k.bits))))
def isShift : BinOp → Bool
  | .shl | .shr => true
  | _ => false
def aBin (op : BinOp) : AV → AV → Option AV
  | .v (.int k a), .v (.int k' b) => if (isShift op || k == k') = true then aInt op k a b else none
  | .v (.string a), .v (.string b) =>
    match op with
    | .add => if a.size + b.size ≤ 9223372036854775807 then some (.v (.string (a ++ b))) else none
    | .eql => some (.v (.bool (decide (a = b))))
    | .neq => some (.v (.bool (!decide (a = b))))
    | .lss => some (.v (.bool (Op.bytesLess a.toList b.toList)))
    | _ => none
  | _, _ => none
/-- '==' of bools; of pointers against nil; of slices against nil. -/
def aEqB : AV → AV → Option Bool
  | .v (.bool a), .v (.bool b) => some (a == b)
  | _, _ => none
def aEqP : AV → AV → Option Bool
  | .v (.pointer none), .v (.pointer none) => some true
  | .v (.pointer none), .ptr _ _ => some false
  | .ptr _ _, .v (.pointer none) => some false
  | _, _ => none
def aEqS : AV → AV → Option Bool
  | .v (.slice none 0 0), .v (.slice none 0 0) => some true
  | .view _ _ (_ + 1) _ _, .v (.slice none 0 0) => some false
  | .shr (_ + 1) _ _, .v (.slice none 0 0) => some false
  | _, _ => none
/-- Kinds of what is compared in a struct. -/
inductive LK where
  | b | i | s
def leafEq : LK → AV → AV → Option Bool
  | .i, .v (.int k a), .v (.int k' b) => if k = k' then some (a == b) else none
  | .b, .v (.bool a), .v (.bool b) => some (a == b)
  | .s, .v (.string a), .v (.string b) => some (decide (a = b))
  | _, _, _ => none
def leavesEq (xs ys : List AV) : List (Nat × LK) → Option Bool
  | [] => some true
  | (i, k) :: is => match xs[i]?, ys[i]? with
    | some x, some y => (leafEq k x y).bind fun b => (leavesEq xs ys is).map fun c => b && c
    | _, _ => none
def aUn : UnOp → AV → Option AV
  | .neg, .v (.int k n) => some (.v (.int k (k.wrap (0 - n))))
  | .xor, .v (.int k n) => some (.v (.int k (bitsV .xor k (if k.signed then -1 else k.max) n)))
  | .not, .v (.bool b) => some (.v (.bool !b))
  | _, _ => none
def rd (xs : List AV) (off : Nat) : Option Nat → Option AV
  | none => xs[off]?
  | some m => if off + m ≤ xs.length then some (.agg ((xs.drop off).take m)) else none
def aLoad (Ω : List Obj) (m : Option Nat) : AV → Option AV
  | .ptr k off => (getO Ω k).bind fun o => rd o.cells off m
  | .iptr xs off => rd xs off m
  | _ => none
def aField (off : Nat) (m : Option Nat) : AV → Option AV
  | .agg cs => rd cs off m
  | _ => none
def aFad (off : Nat) : AV → Option AV
  | .ptr k o => some (.ptr k (o + off))
  | .iptr xs o => some (.iptr xs (o + off))
  | _ => none
def aNilck : AV → Option AV
  | .ptr k o => some (.ptr k o)
  | .iptr xs o => some (.iptr xs o)
  | _ => none
def asI : AV → Option Int
  | .v (.int _ i) => some i
  | _ => none
/-- The address of an element of a slice (esz cells each). -/
def aIxS (esz : Nat) (x i : AV) : Option AV :=
  (asI i).bind fun i => match x with
  | .view k off n _ _ => if 0 ≤ i ∧ i < n then some (.ptr k (off + i.toNat * esz)) else none
  | .shr n _ xs => if 0 ≤ i ∧ i < n then some (.iptr xs (i.toNat * esz)) else none
  | _ => none
def aIxA (len esz : Nat) (x i : AV) : Option AV :=
  (asI i).bind fun i => if 0 ≤ i ∧ i < len then aFad (i.toNat * esz) x else none
def aIxStr (x i : AV) : Option AV :=
  (asI i).bind fun i => match x with
  | .v (.string s) => if h : 0 ≤ i ∧ i.toNat < s.size then some (.v (.int .u8 ((s[i.toNat]'h.2).toNat : Int))) else none
  | _ => none
def aIxV (len esz : Nat) (m : Option Nat) (x i : AV) : Option AV :=
  (asI i).bind fun i => if 0 ≤ i ∧ i < len then aField (i.toNat * esz) m x else none
def aExt (i : Nat) : AV → Option AV
  | .tup vs => vs[i]?
  | _ => none
def aPick : AV → AV → AV → Option AV
  | .v (.bool c), a, b => some (if c = true then a else b)
  | _, _, _ => none
def aCvi (k : IntKind) : AV → Option AV
  | .v (.int _ n) => some (.v (.int k (k.wrap n)))
  | _ => none
def aCvs : AV → Option AV
  | .v (.string s) => some (.v (.string s))
  | _ => none
def aLenS : AV → Option AV
  | .v (.string s) => some (.v (.int .i64 s.size))
  | _ => none
def aLen : AV → Option AV
  | .v (.slice none 0 0) => some (.v (.int .i64 0))
  | .view _ _ n _ _ => some (.v (.int .i64 n))
  | .shr n _ _ => some (.v (.int .i64 n))
  | _ => none
def aMin2 : AV → AV → Option AV
  | .v (.int k x), .v (.int _ y) => some (.v (.int k (if y < x then y else x)))
  | _, _ => none
def aMax2 : AV → AV → Option AV
  | .v (.int k x), .v (.int _ y) => some (.v (.int k (if x < y then y else x)))
  | _, _ => none
def aFoldL (f : AV → AV → Option AV) : AV → List AV → Option AV
  | a, [] => some a
  | a, b :: r => (f a b).bind fun c => aFoldL f c r
def aFold (f : AV → AV → Option AV) : List AV → Option AV
  | [] => none
  | a :: r => aFoldL f a r
/-- An optional bound. -/
def bnd : Option AV → Nat → Option Nat
  | none, d => some d
  | some a, _ => (asI a).bind fun i => if 0 ≤ i then some i.toNat else none
def aSlStr (x : AV) (lo hi : Option AV) : Option AV :=
  match x with
  | .v (.string s) => (bnd hi s.size).bind fun h => (bnd lo 0).bind fun l => if l ≤ h ∧ h ≤ s.size then some (.v (.string (s.extract l h))) else none
  | _ => none
def aSlS (Ω : List Obj) (esz : Nat) (x : AV) (lo hi mx : Option AV) : Option AV :=
  match x with
  | .v (.slice none 0 0) => (bnd hi 0).bind fun h => (bnd lo 0).bind fun l => (bnd mx 0).bind fun m => if l ≤ h ∧ h ≤ m ∧ m ≤ 0 then some (.v (.slice none 0 0)) else none
  | .view k off n sz c => (bnd hi n).bind fun h => (bnd lo 0).bind fun l =>
    match mx with
    | some a => (bnd (some a) 0).bind fun m => if l ≤ h ∧ h ≤ m ∧ m ≤ c.getD n ∧ sz = esz then some (.view k (off + l * esz) (h - l) esz (some (m - l))) else none
    | none => if l ≤ h ∧ h ≤ c.getD n ∧ sz = esz then some (.view k (off + l * esz) (h - l) esz (c.map (· - l))) else if l ≤ h ∧ c.isNone = true ∧ sz = esz ∧ 0 < esz then (getO Ω k).bind fun o => if off + h * esz ≤ o.cells.length then some (.view k (off + l * esz) (h - l) esz none) else none else none
  | .shr n cl xs => (bnd hi n).bind fun h => (bnd lo 0).bind fun l =>
    match mx with
    | some a => (bnd (some a) 0).bind fun m => if l ≤ h ∧ h ≤ m ∧ m ≤ n then some (.shr (h - l) (m == h) ((xs.drop (l * esz)).take ((h - l) * esz))) else none
    | none => if l ≤ h ∧ h ≤ n then some (.shr (h - l) (cl && h == n) ((xs.drop (l * esz)).take ((h - l) * esz))) else none
  | _ => none
/-- Parts laid into cells. -/
def fillL (cells : List AV) : List (Nat × Nat × AV) → Option (List AV)
  | [] => some cells
  | (off, size, a) :: r => if (cellsOf a).length = size ∧ off + size ≤ cells.length ∧ (cellsOf a).all atom = true then fillL (putL cells off (cellsOf a)) r else none

/-! ### operations -/
inductive AO where
  | mv (x : AX)
  | pick (c a b : AX)
  | bin (op : BinOp) (x y : AX)
  | eqb (neg : Bool) (x y : AX)
  | eqp (neg : Bool) (x y : AX)
  | eqs (neg : Bool) (x y : AX)
  | eqst (neg : Bool) (ls : List (Nat × LK)) (x y : AX)
  | un (op : UnOp) (x : AX)
  | load (m : Option Nat) (x : AX)
  | fld (off : Nat) (m : Option Nat) (x : AX)
  | fad (off : Nat) (x : AX)
  | nilck (x : AX)
  | ixs (esz : Nat) (x i : AX)
  | ixa (len esz : Nat) (x i : AX)
  | ixstr (x i : AX)
  | ixv (len esz : Nat) (m : Option Nat) (x i : AX)
  | ext (i : Nat) (x : AX)
  | cvi (k : IntKind) (x : AX)
  | cvs (x : AX)
  | len (x : AX)
  | lens (x : AX)
  | min (xs : List AX)
  | max (xs : List AX)
  | slstr (x : AX) (lo hi : Option AX)
  | sls (esz : Nat) (x : AX) (lo hi mx : Option AX)
  | build (zero : List AV) (parts : List (Nat × Nat × AX))
  | box (x : AX)
  | alloc (zero : List AV)
  | row (esz len : Nat) (zero : List AV) (parts : List (Nat × Nat × AX))
  | store (n : Nat) (a x : AX)
  | mks (esz bytes : Nat) (zero : List AV) (l c : AX)
  | app (esz bytes : Nat) (x y : AX)
  | cpy (esz : Nat) (x y : AX)
  | cvsb (x : AX)
  | cvbs (x : AX)
  | mkf (g : Nat) (xs : List AX)
  | clr (esz : Nat) (zero : List AV) (x : AX)
  | call (x : AX) (xs : List AX)

/-- What acts: 0, what looks at memory: 1, what does not: 2, what makes something: 3. -/
def clsOf : AO → Nat
  | .load _ _ | .cvbs _ => 1
  | .store _ _ _ | .app _ _ _ _ | .cpy _ _ _ | .clr _ _ _ | .call _ _ => 0
  | .box _ | .alloc _ | .row _ _ _ _ | .mks _ _ _ _ _ | .cvsb _ => 3
  | _ => 2

/-- The same, where a call of one that is not told to write leaves what was there: 4. -/
def clsV (hv : List Nat) : AO → Nat
  | .call (.c (.fn f _)) _ => if hv.contains f = true then 0 else if hv.contains (2000000 + f) = true then 5 else 4
  | ao => clsOf ao
/-- How an operation of a region is taken: as it is; a call that leaves what was there; a call that leaves all as it was. -/
inductive QK where
  | o | m | s
def qk (n : Nat) : QK := if n = 4 then .m else if n = 5 then .s else .o

def evO (e : Env) : Option AX → Option (Option AV)
  | none => some none
  | some x => (ev e x).map some
def evP (e : Env) : List (Nat × Nat × AX) → Option (List (Nat × Nat × AV))
  | [] => some []
  | (o, s, x) :: r => (ev e x).bind fun a => (evP e r).bind fun as => some ((o, s, a) :: as)

/-- Bytes of cells. -/
def toNums : List AV → Option (List Int)
  | [] => some []
  | .v (.int .u8 n) :: r => (toNums r).bind fun l => some (n :: l)
  | _ :: _ => none

/-- What an operation that leaves memory alone yields. -/
def aq (e : Env) (Ω : List Obj) : AO → Option AV
  | .mv x => ev e x
  | .pick c a b => (ev e c).bind fun c => (ev e a).bind fun a => (ev e b).bind fun b => aPick c a b
  | .bin op x y => (ev e x).bind fun x => (ev e y).bind fun y => aBin op x y
  | .eqb neg x y => (ev e x).bind fun x => (ev e y).bind fun y => (aEqB x y).map fun b => .v (.bool (b != neg))
  | .eqp neg x y => (ev e x).bind fun x => (ev e y).bind fun y => (aEqP x y).map fun b => .v (.bool (b != neg))
  | .eqs neg x y => (ev e x).bind fun x => (ev e y).bind fun y => (aEqS x y).map fun b => .v (.bool (b != neg))
  | .eqst neg ls x y => (ev e x).bind fun x => (ev e y).bind fun y => match x, y with
    | .agg xs, .agg ys => (leavesEq xs ys ls).map fun b => .v (.bool (b != neg))
    | _, _ => none
  | .un op x => (ev e x).bind fun x => aUn op x
  | .load m x => (ev e x).bind fun x => aLoad Ω m x
  | .fld off m x => (ev e x).bind fun x => aField off m x
  | .fad off x => (ev e x).bind fun x => aFad off x
  | .nilck x => (ev e x).bind fun x => aNilck x
  | .ixs esz x i => (ev e x).bind fun x => (ev e i).bind fun i => aIxS esz x i
  | .ixa len esz x i => (ev e x).bind fun x => (ev e i).bind fun i => aIxA len esz x i
  | .ixstr x i => (ev e x).bind fun x => (ev e i).bind fun i => aIxStr x i
  | .ixv len esz m x i => (ev e x).bind fun x => (ev e i).bind fun i => aIxV len esz m x i
  | .ext i x => (ev e x).bind fun x => aExt i x
  | .cvi k x => (ev e x).bind fun x => aCvi k x
  | .cvs x => (ev e x).bind fun x => aCvs x
  | .len x => (ev e x).bind fun x => aLen x
  | .lens x => (ev e x).bind fun x => aLenS x
  | .min xs => (evs e xs).bind fun l => aFold aMin2 l
  | .max xs => (evs e xs).bind fun l => aFold aMax2 l
  | .slstr x lo hi => (ev e x).bind fun x => (evO e lo).bind fun lo => (evO e hi).bind fun hi => aSlStr x lo hi
  | .sls esz x lo hi mx => (ev e x).bind fun x => (evO e lo).bind fun lo => (evO e hi).bind fun hi => (evO e mx).bind fun mx => aSlS Ω esz x lo hi mx
  | .mkf g xs => (evs e xs).bind fun l => if l.all atom = true then some (.fn g l) else none
  | .build zero parts => (evP e parts).bind fun ps => (fillL zero ps).map .agg
  | .cvbs x => (ev e x).bind fun x => match x with
    | .v (.slice none 0 0) => some (.v (.string ByteArray.empty))
    | .shr n _ xs => if xs.length = n then (toNums xs).map fun l => .v (.string (strOfNums l)) else none
    | .view k off n sz _ => if sz = 1 then (getO Ω k).bind fun o => if off + n ≤ o.cells.length then (toNums ((o.cells.drop off).take n)).map fun l => .v (.string (strOfNums l)) else none else none
    | _ => none
  | _ => none

/-! ### operations that make or change memory -/
def newO (Ω : List Obj) (cells : List AV) : List Obj := Ω ++ [⟨true, true, cells.all flat0, cells⟩]
def kill (Ω : List Obj) (k : Nat) (o : Obj) : List Obj := Ω.set k { o with live := false }
def aStore (Ω : List Obj) (n : Nat) (a x : AV) : Option (List Obj × Bool) :=
  match a with
  | .ptr k off => (getO Ω k).bind fun o => if (cellsOf x).length = n ∧ (cellsOf x).all atom = true ∧ off + n ≤ o.cells.length then
      some (Ω.set k { o with flat := o.flat && (cellsOf x).all flat0, cells := putL o.cells off (cellsOf x) }, !o.fresh) else none
  | _ => none
def reps : Nat → List AV → List AV
  | 0, _ => []
  | n + 1, z => z ++ reps n z
/-- The cells of a slice's elements. -/
def elems (Ω : List Obj) (esz : Nat) : AV → Option (Nat × List AV)
  | .v (.slice none 0 0) => some (0, [])
  | .shr n _ xs => if xs.length = n * esz then some (n, xs) else none
  | .view k off n sz _ => if sz = esz then (getO Ω k).bind fun o => if off + n * esz ≤ o.cells.length then some (n, (o.cells.drop off).take (n * esz)) else none else none
  | _ => none
def strCells (s : ByteArray) : List AV := s.data.toList.map fun b => .v (.int .u8 (b.toNat : Int))
def elemsS (Ω : List Obj) (esz : Nat) : AV → Option (Nat × List AV)
  | .v (.string s) => if esz = 1 then some (s.size, strCells s) else none
  | a => elems Ω esz a
def aApp (Ω : List Obj) (esz bytes : Nat) (x y : AV) : Option (AV × List Obj × Bool) :=
  (elemsS Ω esz y).bind fun (m, ys) =>
  if ys.all atom = true then
  match x with
  | .v (.slice none 0 0) => if m = 0 then some (x, Ω, false) else
      if m * bytes ≤ 140737488355328 ∧ m ≤ 9223372036854775807 then some (.view Ω.length 0 m esz none, newO Ω ys, false) else none
  | .shr n cl xs => if m = 0 then some (x, Ω, false) else
      if cl = true ∧ xs.length = n * esz ∧ (n + m) * bytes ≤ 140737488355328 ∧ n + m ≤ 9223372036854775807 then some (.view Ω.length 0 (n + m) esz none, newO Ω (xs ++ ys), false) else none
  | .view k off n sz c => if m = 0 then some (x, Ω, false) else
      (getO Ω k).bind fun o =>
      if sz = esz ∧ off + n * esz ≤ o.cells.length ∧ (n + m) * bytes ≤ 140737488355328 ∧ n + m ≤ 9223372036854775807 then
        match c with
        | some cap =>
          if n + m ≤ cap then
            if off + (n + m) * esz ≤ o.cells.length then some (.view k off (n + m) esz (some cap), Ω.set k { o with flat := o.flat && ys.all flat0, cells := putL o.cells (off + n * esz) ys }, !o.fresh) else none
          else some (.view Ω.length 0 (n + m) esz none, newO Ω ((o.cells.drop off).take (n * esz) ++ ys), false)
        | none =>
          if off + (n + m) * esz ≤ o.cells.length then some (.view k off (n + m) esz none, Ω.set k { o with flat := o.flat && ys.all flat0, cells := putL o.cells (off + n * esz) ys }, !o.fresh)
          else some (.view Ω.length 0 (n + m) esz none, kill Ω k o ++ [⟨true, o.fresh, o.flat && ys.all flat0, (o.cells.drop off).take (n * esz) ++ ys⟩], !o.fresh)
      else none
  | _ => none
  else none
def aCpy (Ω : List Obj) (esz : Nat) (x y : AV) : Option (AV × List Obj × Bool) :=
  (elemsS Ω esz y).bind fun (m, ys) =>
  if ys.all atom = true then
  match x with
  | .v (.slice none 0 0) => some (.v (.int .i64 0), Ω, false)
  | .view k off n sz _ => (getO Ω k).bind fun o =>
      if sz = esz ∧ off + n * esz ≤ o.cells.length then
        some (.v (.int .i64 (Nat.min m n)), Ω.set k { o with flat := o.flat && (ys.take (Nat.min m n * esz)).all flat0, cells := putL o.cells off (ys.take (Nat.min m n * esz)) }, !o.fresh)
      else none
  | _ => none
  else none
/-- Elements made zero. -/
def aClr (Ω : List Obj) (esz : Nat) (zero : List AV) : AV → Option (List Obj × Bool)
  | .v (.slice none 0 0) => some (Ω, false)
  | .view k off n sz _ => (getO Ω k).bind fun o => if sz = esz ∧ off + n * esz ≤ o.cells.length then
      some (Ω.set k { o with flat := o.flat && (reps n zero).all flat0, cells := putL o.cells off (reps n zero) }, !o.fresh) else none
  | _ => none
def ae (e : Env) (Ω : List Obj) : AO → Option (AV × List Obj × Bool)
  | .box x => (ev e x).bind fun a => if (cellsOf a).all atom = true then some (.ptr Ω.length 0, newO Ω (cellsOf a), false) else none
  | .alloc zero => some (.ptr Ω.length 0, newO Ω zero, false)
  | .row esz len zero parts => (evP e parts).bind fun ps => (fillL (reps len zero) ps).bind fun cs => some (.view Ω.length 0 len esz (some len), newO Ω cs, false)
  | .store n a x => (ev e a).bind fun a => (ev e x).bind fun x => (aStore Ω n a x).map fun r => (.dead, r)
  | .mks esz bytes zero l c => (ev e l).bind fun l => (ev e c).bind fun c => (asI l).bind fun l => (asI c).bind fun c =>
      if 0 ≤ l ∧ l ≤ c ∧ c.toNat * bytes ≤ 140737488355328 ∧ c.toNat ≤ 9223372036854775807 then some (.view Ω.length 0 l.toNat esz (some c.toNat), newO Ω (reps c.toNat zero), false) else none
  | .app esz bytes x y => (ev e x).bind fun x => (ev e y).bind fun y => aApp Ω esz bytes x y
  | .cpy esz x y => (ev e x).bind fun x => (ev e y).bind fun y => aCpy Ω esz x y
  | .clr esz zero x => (ev e x).bind fun x => (aClr Ω esz zero x).map fun r => (.dead, r)
  | .cvsb x => (ev e x).bind fun x => match x with
    | .v (.string s) => some (.view Ω.length 0 s.size 1 none, newO Ω (strCells s), false)
    | _ => none
  | _ => none

/-! ### renumbering -/
/-- Is every part of a value one cell? -/
def ok1 : AV → Bool
  | .agg cs => cs.all atom
  | .fn _ cs => cs.all atom
  | a => atom a
def okv : AV → Bool
  | .tup cs => cs.all ok1
  | a => ok1 a
/-- What can be reached, in the order in which it is met; so many rounds. -/
def reach (Ω : List Obj) : Nat → List Nat → List Nat → Option (List Nat)
  | 0, _, _ => none
  | f + 1, [], seen => some seen
  | f + 1, k :: ks, seen => if seen.contains k = true then reach Ω f ks seen else
      match Ω[k]? with
      | some o => reach Ω f (ks ++ (if o.live = true then (if o.flat = true then [] else o.cells.flatMap refs0) else [])) (seen ++ [k])
      | none => none
def pos (ord : List Nat) (k : Nat) : Nat := ord.idxOf k
/-- An object under other numbers. -/
def renO (g : Nat → Nat) (o : Obj) : Obj := { o with cells := if o.live = true then (if o.flat = true then o.cells else o.cells.map (ren0 g)) else [] }
def dead0 : Obj := ⟨false, false, true, []⟩
def sub (Ω : List Obj) (ord : List Nat) (keep : Bool) : List Obj := ord.map fun k => let o := renO (pos ord) (Ω.getD k dead0); { o with fresh := o.fresh && keep }
def dedup : List Nat → List Nat → List Nat
  | [], acc => acc
  | k :: ks, acc => if acc.contains k = true then dedup ks acc else dedup ks (acc ++ [k])

/-! ### code -/
structure AOper where
  dst : Option Nat
  g : Option (Nat × Bool)
  op : AO

inductive AC where
  | skip
  | ret
  | exit (id : Nat)
  | seq (a b : AC)
  | cond (x : AX) (a b : AC)
  | block (id : Nat) (b : AC)
  | loop (live : List Nat) (b : AC)
  | reg (ops : List AOper)
  | regq (ops : List AOper)
  | regt (n : Nat) (ops : List AOper)
  | regs (n : Nat) (ops : List AOper)
  | regm (ops : List (QK × AOper))

inductive RV where
  | t (i : Nat)
  | cell (i : Nat) (m : Option Nat)

structure AFn where
  np : Nat
  body : AC
  res : List RV
  frz : Bool
  up : Bool

/-- What a call gives: its value, the objects (those that the arguments lead to directly first); what became of memory: 0: nothing, 1: there is more, 2: what was there has changed. -/
structure Res where
  val : AV
  ob : List Obj
  d : Nat

structure St where
  env : Env
  ob : List Obj
  d : Nat
  rt : List Nat

def put (e : Env) (d : Option Nat) (a : AV) : Env := match d with
  | some d => (d, a) :: e
  | none => e
def lev (b : Bool) : Nat := if b = true then 2 else 1
/-- Where a callee's objects lie among the caller's: the first n under their numbers there, the others behind all. -/
def gmap (ord : List Nat) (n len : Nat) (j : Nat) : Nat := if j < n then ord.getD j 0 else len + (j - n)
def allFresh (Ω : List Obj) (ord : List Nat) : Bool := ord.all fun k => let o := Ω.getD k dead0; o.fresh || !o.live
def mergeO (Ω : List Obj) (ord : List Nat) (n : Nat) (o : Obj) : Obj := { renO (gmap ord n Ω.length) o with fresh := o.fresh || allFresh Ω ord }
def mergeOld (Ω : List Obj) (ord : List Nat) (n : Nat) (ob : List Obj) : Nat → List Obj → List Obj
  | _, [] => []
  | k, o :: os => (if ord.contains k = true then (if pos ord k < n then mergeO Ω ord n (ob.getD (pos ord k) dead0) else dead0) else o) :: mergeOld Ω ord n ob (k + 1) os
def mergeNew (Ω : List Obj) (ord : List Nat) (n : Nat) (ob : List Obj) : List Obj := (ob.drop n).map (mergeO Ω ord n)
/-- How calls answer: the function, how many objects the arguments lead to directly (they are the first ones), the arguments, the objects. -/
abbrev CT := Nat → Nat → List AV → List Obj → Option Res
def finishCall (Ω : List Obj) (ord : List Nat) (n : Nat) (r : Res) : Option (AV × List Obj × Nat) :=
  if okv r.val = true then
    if r.d ≤ 1 ∧ (refs r.val).all (fun j => decide (j < n)) = true then some (ren (gmap ord n Ω.length) r.val, Ω, r.d)
    else some (ren (gmap ord n Ω.length) r.val, mergeOld Ω ord n r.ob 0 Ω ++ mergeNew Ω ord n r.ob, if r.d = 2 ∧ allFresh Ω ord = false then 2 else 1)
  else none
def aCall (C : CT) (Ω : List Obj) (f : AV) (args : List AV) : Option (AV × List Obj × Nat) :=
  match f with
  | .fn g caps =>
    if (args ++ caps).all okv = true then
      (reach Ω 400 (dedup ((args ++ caps).flatMap refs) []) []).bind fun ord =>
      (C g (dedup ((args ++ caps).flatMap refs) []).length ((args ++ caps).map (ren (pos ord))) (sub Ω ord false)).bind fun r =>
      finishCall Ω ord (dedup ((args ++ caps).flatMap refs) []).length r
    else none
  | _ => none
/-- One operation: its value, the objects, the level. -/
def aop (C : CT) (e : Env) (Ω : List Obj) (o : AO) : Option (AV × List Obj × Nat) :=
  match o with
  | .call f xs => (ev e f).bind fun f => (evs e xs).bind fun as => aCall C Ω f as
  | o => match aq e Ω o with
    | some a => some (a, Ω, 0)
    | none => (ae e Ω o).map fun (a, Ω', d) => (a, Ω', lev d)
/-- Is an operation to be done? -/
def wants (e : Env) : Option (Nat × Bool) → Option Bool
  | none => some true
  | some (i, b) => match get e i with
    | some (.v (.bool c)) => some (c == b)
    | some .dead => some false
    | _ => none
def aops (C : CT) : List AOper → St → Option St
  | [], s => some s
  | o :: os, s => (wants s.env o.g).bind fun b =>
      if b = true then (aop C s.env s.ob o.op).bind fun (a, Ω, d) => aops C os { s with env := put s.env o.dst a, ob := Ω, d := max s.d d }
      else aops C os { s with env := put s.env o.dst .dead }
/-- A call that leaves what was there. -/
def aCallM (C : CT) (Ω : List Obj) (f : AV) (args : List AV) : Option (AV × List Obj × Nat) :=
  match f with
  | .fn g caps =>
    if (args ++ caps).all okv = true then
      (reach Ω 400 (dedup ((args ++ caps).flatMap refs) []) []).bind fun ord =>
      (C g (dedup ((args ++ caps).flatMap refs) []).length ((args ++ caps).map (ren (pos ord))) (sub Ω ord false)).bind fun r =>
      if r.d ≤ 1 then finishCall Ω ord (dedup ((args ++ caps).flatMap refs) []).length r else none
    else none
  | _ => none
/-- A value that tells all of itself. -/
def det0 : AV → Bool
  | .v _ => true
  | _ => false
def det : AV → Bool
  | .agg cs => cs.all det0
  | .tup cs => cs.all fun a => match a with
    | .agg ds => ds.all det0
    | a => det0 a
  | a => det0 a
/-- A call that changes nothing that was there, up to a level. -/
def aCallQ (C : CT) (m : Nat) (Ω : List Obj) (f : AV) (args : List AV) : Option AV :=
  match f with
  | .fn g caps =>
    if (args ++ caps).all okv = true then
      (reach Ω 400 (dedup ((args ++ caps).flatMap refs) []) []).bind fun ord =>
      (C g (dedup ((args ++ caps).flatMap refs) []).length ((args ++ caps).map (ren (pos ord))) (sub Ω ord false)).bind fun r =>
      if r.d ≤ m ∧ det r.val = true then some r.val else none
    else none
  | _ => none
def aopQ (C : CT) (m : Nat) (e : Env) (Ω : List Obj) (o : AO) : Option AV :=
  match o with
  | .call f xs => (ev e f).bind fun f => (evs e xs).bind fun as => aCallQ C m Ω f as
  | o => aq e Ω o
def aopM (C : CT) (e : Env) (Ω : List Obj) (q : QK) (o : AO) : Option (AV × List Obj × Nat) :=
  match q with
  | .m => match o with
    | .call f xs => (ev e f).bind fun f => (evs e xs).bind fun as => aCallM C Ω f as
    | _ => none
  | .s => (aopQ C 0 e Ω o).map fun a => (a, Ω, 0)
  | .o => aop C e Ω o
def aopsM (C : CT) : List (QK × AOper) → St → Option St
  | [], s => some s
  | (q, o) :: os, s => (wants s.env o.g).bind fun b =>
      if b = true then (aopM C s.env s.ob q o.op).bind fun (a, Ω, d) => aopsM C os { s with env := put s.env o.dst a, ob := Ω, d := max s.d d }
      else aopsM C os { s with env := put s.env o.dst .dead }
/-- Operations of which none changes what was there, up to a level. -/
def aopsQ (C : CT) (m : Nat) (Ω : List Obj) : List AOper → Env → Option Env
  | [], e => some e
  | o :: os, e => (wants e o.g).bind fun b =>
      if b = true then (aopQ C m e Ω o.op).bind fun a => aopsQ C m Ω os (put e o.dst a)
      else aopsQ C m Ω os (put e o.dst .dead)

/-- The live temporaries and the roots under new numbers, all else forgotten. -/
def keepEnv (e : Env) : List Nat → Option Env
  | [] => some []
  | i :: is => (get e i).bind fun a => (keepEnv e is).bind fun r => some ((i, a) :: r)
def canon (live : List Nat) (s : St) : Option St :=
  (keepEnv s.env live).bind fun e =>
  if e.all (fun p => okv p.2) = true then
    (reach s.ob 400 (dedup (s.rt ++ e.flatMap fun p => refs p.2) []) []).bind fun ord =>
    some ⟨e.map fun p => (p.1, ren (pos ord) p.2), sub s.ob ord true, s.d, s.rt.map (pos ord)⟩
  else none

inductive AE where
  | normal
  | exit (id : Nat)
  | ret

def loopN (f : St → Option (AE × St)) (live : List Nat) : Nat → St → Option (AE × St)
  | 0, _ => none
  | n + 1, s => (canon live s).bind fun s => (f s).bind fun (x, s') => match x with
    | .normal => loopN f live n s'
    | x => some (x, s')
/-- Operations of which one, number n, writes to an object that the others do not look at. -/
def aStX (C : CT) (n m : Nat) (a x : AX) (ops : List AOper) (s : St) (k : Nat) (o : Obj) : Option St :=
  (aopsQ C 1 (kill s.ob k o) (ops.take n) s.env).bind fun e1 => (ev e1 a).bind fun a1 => (ev e1 x).bind fun x1 => match a1 with
    | .ptr k' off => if k' = k then (aStore s.ob m (.ptr k' off) x1).bind fun p => (aopsQ C 1 (kill s.ob k o) (ops.drop (n + 1)) e1).map fun e2 => { s with env := e2, ob := p.1, d := max s.d (lev p.2) } else none
    | _ => none
def aStK (C : CT) (n m : Nat) (a x : AX) (ops : List AOper) (s : St) (e0 : Env) : Option St := (ev e0 a).bind fun a0 => match a0 with
    | .ptr k _ => (getO s.ob k).bind fun o => aStX C n m a x ops s k o
    | _ => none
def aexecS (C : CT) (n : Nat) (ops : List AOper) (s : St) : Option St := match ops[n]? with
  | some ⟨none, none, .store m a x⟩ => (aopsQ C 1 s.ob (ops.take n) s.env).bind fun e0 => aStK C n m a x ops s e0
  | _ => none
def aexec (C : CT) (lf : Nat) : AC → St → Option (AE × St)
  | .skip, s => some (.normal, s)
  | .ret, s => some (.ret, s)
  | .exit id, s => some (.exit id, s)
  | .seq a b, s => (aexec C lf a s).bind fun (x, s') => match x with
    | .normal => aexec C lf b s'
    | x => some (x, s')
  | .cond x a b, s => (ev s.env x).bind fun v => match v with
    | .v (.bool c) => if c = true then aexec C lf a s else aexec C lf b s
    | _ => none
  | .block id b, s => (aexec C lf b s).bind fun (x, s') => match x with
    | .exit j => if j = id then some (.normal, s') else some (.exit j, s')
    | x => some (x, s')
  | .loop live b, s => loopN (aexec C lf b) live lf s
  | .reg ops, s => (aops C ops s).map fun s' => (.normal, s')
  | .regq ops, s => (aopsQ C 1 s.ob ops s.env).map fun e => (.normal, { s with env := e, d := max s.d 1 })
  | .regm ops, s => (aopsM C ops { s with d := max s.d 1 }).map fun s' => (.normal, s')
  | .regs n ops, s => (aexecS C n ops s).map fun s' => (.normal, s')
  | .regt n ops, s => (aopsQ C 0 s.ob (ops.take n) s.env).bind fun e => (aops C (ops.drop n) { s with env := e, d := max s.d 1 }).map fun s' => (.normal, s')

/-! ### results -/
def aRes (e : Env) (Ω : List Obj) : List RV → Option (List AV)
  | [] => some []
  | .t i :: r => (get e i).bind fun a => (aRes e Ω r).bind fun l => some (a :: l)
  | .cell i m :: r => (get e i).bind fun p => (aLoad Ω m p).bind fun a => (aRes e Ω r).bind fun l => some (a :: l)
def one : List AV → AV
  | [a] => a
  | l => .tup l
/-- Rows of the call's own in what is handed back: nobody writes them any more. -/
def frz0 (Ω : List Obj) : AV → AV × List Obj
  | .view k off n sz c => match getO Ω k with
    | some o => if o.fresh = true ∧ o.flat = true ∧ off + n * sz ≤ o.cells.length then (.shr n (c == some n) ((o.cells.drop off).take (n * sz)), kill Ω k o) else (.view k off n sz c, Ω)
    | none => (.view k off n sz c, Ω)
  | a => (a, Ω)
def frzL (Ω : List Obj) : List AV → List AV × List Obj
  | [] => ([], Ω)
  | a :: as => let (b, Ω') := frz0 Ω a; let (bs, Ω'') := frzL Ω' as; (b :: bs, Ω'')
def frz1 (Ω : List Obj) : AV → AV × List Obj
  | .agg cs => let (ds, Ω') := frzL Ω cs; (.agg ds, Ω')
  | a => frz0 Ω a
def frzM (Ω : List Obj) : List AV → List AV × List Obj
  | [] => ([], Ω)
  | a :: as => let (b, Ω') := frz1 Ω a; let (bs, Ω'') := frzM Ω' as; (b :: bs, Ω'')
def finish (fn : AFn) (s : St) : Option Res :=
  (aRes s.env s.ob fn.res).bind fun l =>
  let (l', Ω) := if fn.frz = true then frzM s.ob l else (l, s.ob)
  if okv (one l') = true then
    (reach Ω 400 (dedup (s.rt ++ refs (one l')) []) []).bind fun ord =>
    some ⟨ren (pos ord) (one l'), sub Ω ord (!fn.up), if fn.up = true then 2 else s.d⟩
  else none
def args0 : Nat → List AV → Env
  | _, [] => []
  | i, a :: as => (i, a) :: args0 (i + 1) as
/-- Functions that were taken over, and what is known of others. -/
structure Tb where
  tab : Nat → Option AFn
  ext : CT
def acall (T : Tb) : Nat → CT
  | 0 => fun _ _ _ _ => none
  | k + 1 => fun f n args Ω => match T.tab f with
    | some fn =>
      if args.length = fn.np ∧ n ≤ Ω.length then
        (aexec (acall T k) k fn.body ⟨args0 0 args, Ω, 0, List.range n⟩).bind fun (x, s) => match x with
          | .exit _ => none
          | _ => finish fn s
      else none
    | none => T.ext f n args Ω
end Go.Proofs.Ytkaigdfklihlcaa.Sym
