/-
  Abstract states: values without worlds. A frozen cell value (FV) is data that nobody writes any more; an abstract cell (AV, WV) may also point into an object that the run owns;
  an operand (TV) is a cell, a struct or array, or a tuple of results. Definitions alone; what they mean for the model's worlds is in the next texts. No conditions.
-/
import Derived.Calls
import Derived.Tactics
import Derived.Orders
import Derived.Still
import Derived.Laws.AppendOwn
import Derived.Laws.CopyRow
import Derived.KernelRfl
namespace Go.AM

/-- A cell that is never written again. -/
inductive FV where
  | int (k : IntKind) (n : Int)
  | bool (b : Bool)
  | str (l : List UInt8)
  | cst (v : Value)
  | nils
  | sl (nn : Bool) (n : Nat) (es : List (List FV))
  | z0 (nn : Bool)
  | pt (cs : List FV)
  deriving Inhabited

/-- A cell: frozen, or a pointer to cell j of element i (of n cells) of object o, or a slice of object o, or a map, or not known. -/
inductive AV where
  | fz (x : FV)
  | ep (o n i j : Nat)
  | osl (o n off len : Nat)
  | mp (o : Nat)
  | any
  deriving Inhabited

/-- A cell, function values among them: what comes ahead of the arguments, and what is captured: of each whether it is a struct, and its cells. -/
inductive WV where
  | a (x : AV)
  | fn (f : Fn) (first captured : List (Bool × List AV))
  deriving Inhabited

/-- What an operand is. -/
inductive TV where
  | any
  | c (x : WV)
  | agg (cs : List WV)
  | tup (vs : List (Bool × List WV))
  deriving Inhabited

inductive AObj where
  | gone
  | arr (n : Nat) (es : List (List WV))
  | arz (n : Nat) (fs : List (List FV))
  | mapo (es : List ((Bool × List FV) × (Bool × List WV)))
  deriving Inhabited

abbrev Env := List (Nat × TV)
abbrev AHeap := List (Nat × AObj)

def look : Env → Nat → TV
  | [], _ => .any
  | (j, v) :: e, i => if j = i then v else look e i

def hook : AHeap → Nat → AObj
  | [], _ => .gone
  | (j, v) :: e, i => if j = i then v else hook e i

/-- A cell's value as a frozen cell. -/
def fvOf : Value → FV
  | .int k n => .int k n
  | .bool b => .bool b
  | .string s => .str s.data.toList
  | .slice none 0 0 => .nils
  | v => .cst v

def cell (x : FV) : WV := .a (.fz x)
def fzs (l : List FV) : List WV := l.map cell
/-- An array of frozen cells as an array of cells. -/
def flat : AObj → AObj
  | .arz n fs => .arr n (fs.map fzs)
  | x => x
def unfz : List WV → Option (List FV)
  | [] => some []
  | .a (.fz x) :: r => (unfz r).map fun l => x :: l
  | _ => none
def unfzs : List (List WV) → Option (List (List FV))
  | [] => some []
  | e :: r => match unfz e, unfzs r with
    | some x, some l => some (x :: l)
    | _, _ => none
def tvOf : Value → TV
  | .agg cs => if cs.all Value.oneCell' then .agg (cs.toList.map fun v => .a (.fz (fvOf v))) else .any
  | .tuple _ => .any
  | .int k n => .c (.a (.fz (.int k n)))
  | .bool b => .c (.a (.fz (.bool b)))
  | .string s => .c (.a (.fz (.str s.data.toList)))
  | .slice none 0 0 => .c (.a (.fz .nils))
  | v => .c (.a (.fz (.cst v)))

def evF (e : Nat → TV) : Operand → TV
  | .tmp t => e t
  | .const v => tvOf v
  | .global _ => .any
  | .func f => .c (.fn (.func f) [] [])
def ev (e : Env) : Operand → TV
  | .tmp t => look e t
  | .const v => tvOf v
  | .global _ => .any
  | .func f => .c (.fn (.func f) [] [])

/-! ### What the machine asks of types -/
inductive TKind where
  | base
  | str
  | slice (e : TypeId)
  | arr (n : Nat) (e : TypeId)
  | struct (fs : List (Nat × Nat × TypeId))
  | ptr (e : TypeId)
  | map (k e : TypeId)
  | int (k : IntKind)
  | bool
  | func

structure TyD where
  agg : Bool
  size : Nat
  bytes : Nat
  zero : Option (List FV)
  kind : TKind

def kindOf (P : Program) : TypeDesc → TKind
  | .string => .str
  | .slice e => .slice e
  | .array n e => .arr n e
  | .struct fs => if fs.toList.all (fun f => (P.info? f.type).isSome) then .struct (fs.toList.map fun f => (f.offset, P.cellsOf f.type, f.type)) else .base
  | .pointer e => .ptr e
  | .map k e => .map k e
  | .int k => .int k
  | .bool => .bool
  | .func _ _ _ => .func
  | _ => .base

def tyOf (P : Program) (t : TypeId) : Option TyD :=
  match P.info? t, P.underlying t with
  | some i, some d => some
    { agg := match d with | .struct _ | .array _ _ => true | _ => false
      size := i.size
      bytes := i.bytes
      zero := match i.zero with
        | some z => if z.cells.all Value.oneCell' then some (z.cells.toList.map fvOf) else none
        | none => none
      kind := kindOf P d }
  | _, _ => none

/-! ### Operations -/
structure AR where
  val : TV
  upd : List (Nat × AObj)
  rd : List Nat

def cellsT : TV → Option (List WV)
  | .c x => some [x]
  | .agg cs => some cs
  | _ => none

def loadA (d : TyD) (cs : List WV) : Option TV :=
  if d.agg then (if d.size ≤ cs.length then some (.agg (cs.take d.size)) else none)
  else match cs with
    | x :: _ => some (.c x)
    | [] => none

def partA (agg : Bool) (size : Nat) (cs : List WV) (off : Nat) : Option TV :=
  if agg then (if off + size ≤ cs.length then some (.agg ((cs.drop off).take size)) else none)
  else (cs[off]?).map .c

/-- Cells written over others. -/
def splice (e : List WV) (j : Nat) (cs : List WV) : List WV := e.take j ++ cs ++ e.drop (j + cs.length)

def fillA (place : Nat → Option (Nat × Nat)) : List WV → List (Nat × TV) → Option (List WV)
  | cs, [] => some cs
  | cs, (i, v) :: rest =>
    match place i, cellsT v with
    | some (off, size), some us => if us.length = size ∧ off + size ≤ cs.length then fillA place (splice cs off us) rest else none
    | _, _ => none

def chunks (n : Nat) : Nat → List WV → List (List WV)
  | 0, _ => []
  | k + 1, cs => cs.take n :: chunks n k (cs.drop n)

/-- A slice's elements, and the objects that were asked. -/
def elemsOf (n : Nat) (h : Nat → AObj) : TV → Option (List (List WV) × List Nat)
  | .c (.a (.fz .nils)) => some ([], [])
  | .c (.a (.fz (.sl _ m es))) => if m = n then some (es.map fzs, []) else none
  | .c (.a (.fz (.z0 _))) => some ([], [])
  | .c (.a (.osl o m off len)) =>
    match h o with
    | .arr m' es => if m = n ∧ m' = n ∧ off + len ≤ es.length then some ((es.drop off).take len, [o]) else none
    | _ => none
  | _ => none

def lenSl : TV → Option (Nat × List Nat)
  | .c (.a (.fz .nils)) => some (0, [])
  | .c (.a (.fz (.sl _ _ es))) => some (es.length, [])
  | .c (.a (.fz (.z0 _))) => some (0, [])
  | .c (.a (.osl _ _ _ len)) => some (len, [])
  | _ => none
def lenStr : TV → Option (Nat × List Nat)
  | .c (.a (.fz (.str l))) => some (l.length, [])
  | _ => none
def lenMap (h : Nat → AObj) : TV → Option (Nat × List Nat)
  | .c (.a (.mp o)) => match h o with
    | .mapo es => some (es.length, [o])
    | _ => none
  | _ => none

def iV (n : Int) : TV := .c (.a (.fz (.int .i64 n)))
def bV (b : Bool) : TV := .c (.a (.fz (.bool b)))

def intBin (op : BinOp) (k : IntKind) (a b : Int) : Option FV :=
  match op with
  | .add => some (.int k (k.wrap (a + b)))
  | .sub => some (.int k (k.wrap (a - b)))
  | .mul => some (.int k (k.wrap (a * b)))
  | .quo => if b = 0 then none else some (.int k (k.wrap (a.tdiv b)))
  | .rem => if b = 0 then none else some (.int k (a.tmod b))
  | .eql => some (.bool (a == b))
  | .neq => some (.bool (a != b))
  | .lss => some (.bool (a < b))
  | .leq => some (.bool (a ≤ b))
  | .gtr => some (.bool (a > b))
  | .geq => some (.bool (a ≥ b))
  | _ => none

def strBin (op : BinOp) (a b : List UInt8) : Option FV :=
  match op with
  | .add => if a.length + b.length ≤ 1000000000000 then some (.str (a ++ b)) else none
  | .eql => some (.bool (a == b))
  | .neq => some (.bool (!(a == b)))
  | _ => none

/-- What may be held against each other cell by cell. -/
inductive EK where
  | int
  | bool
  | str

def ekOf (P : Program) (t : TypeId) : Option EK :=
  match P.underlying t with
  | some (.int _) => some .int
  | some .bool => some .bool
  | some .string => some .str
  | _ => none

/-- A struct's fields, if each is one cell of a plain kind, at its place. -/
def eksOf (P : Program) : Nat → List Field → Option (List EK)
  | _, [] => some []
  | i, f :: fs => match ekOf P f.type, eksOf P (i + 1) fs with
    | some k, some l => if f.offset = i ∧ f.name ≠ "_" then some (k :: l) else none
    | _, _ => none

def eqKinds (P : Program) (t : TypeId) : Option (List EK) :=
  match P.underlying t with
  | some (.struct fs) => if P.stoodInHeld t = false ∧ P.eqGuardType P.depth t = false then eksOf P 0 fs.toList else none
  | _ => none

/-- Are two rows of scalars the same? -/
def sameCells : List EK → List WV → List WV → Option Bool
  | [], [], [] => some true
  | .int :: ks, .a (.fz (.int k x)) :: l, .a (.fz (.int k' y)) :: r => if k = k' then (sameCells ks l r).map fun b => (x == y) && b else none
  | .bool :: ks, .a (.fz (.bool x)) :: l, .a (.fz (.bool y)) :: r => (sameCells ks l r).map fun b => (x == y) && b
  | .str :: ks, .a (.fz (.str x)) :: l, .a (.fz (.str y)) :: r => (sameCells ks l r).map fun b => (x == y) && b
  | _, _, _ => none

/-- A slice, a pointer, held against nil. -/
def nilSl : WV → WV → Option Bool
  | .a (.fz .nils), .a (.fz .nils) => some true
  | .a (.fz (.sl true _ _)), .a (.fz .nils) => some false
  | .a (.fz (.z0 true)), .a (.fz .nils) => some false
  | .a (.osl _ _ _ _), .a (.fz .nils) => some false
  | _, _ => none
def nilPtr : WV → WV → Option Bool
  | .a (.ep _ _ _ _), .a (.fz (.cst (.pointer none))) => some false
  | .a (.fz (.pt _)), .a (.fz (.cst (.pointer none))) => some false
  | .a (.fz (.cst (.pointer none))), .a (.fz (.cst (.pointer none))) => some true
  | _, _ => none

def eqC (P : Program) (t : TypeId) (x y : WV) : Option Bool :=
  match tyOf P t with
  | some d => match d.kind with
    | .bool => match x, y with
      | .a (.fz (.bool p)), .a (.fz (.bool q)) => some (p == q)
      | _, _ => none
    | .slice _ => nilSl x y
    | .ptr _ => nilPtr x y
    | _ => none
  | none => none

def eqA (P : Program) (t : TypeId) (x y : TV) : Option Bool :=
  match x, y with
  | .agg xs, .agg ys => match eqKinds P t with
    | some ks => sameCells ks xs ys
    | none => none
  | .c x, .c y => eqC P t x y
  | _, _ => none

def eqOp (op : BinOp) (r : Option Bool) : Option TV :=
  match op with
  | .eql => r.map bV
  | .neq => r.map fun b => bV (!b)
  | _ => none

def binA (P : Program) (t : TypeId) (op : BinOp) (x y : TV) : Option TV :=
  match x, y with
  | .c (.a (.fz (.int k x))), .c (.a (.fz (.int k' y))) => if k = k' then (intBin op k x y).map fun v => .c (.a (.fz v)) else none
  | .c (.a (.fz (.str x))), .c (.a (.fz (.str y))) => (strBin op x y).map fun v => .c (.a (.fz v))
  | x, y => eqOp op (eqA P t x y)

def unA (op : UnOp) : TV → Option TV
  | .c (.a (.fz (.int k x))) => match op with | .neg => some (.c (.a (.fz (.int k (k.wrap (0 - x)))))) | _ => none
  | .c (.a (.fz (.bool x))) => match op with | .not => some (bV (!x)) | _ => none
  | _ => none

/-- A bound of a slice expression. -/
def boundA (x : Option TV) (dflt : Nat) (most : Nat) : Option Nat :=
  match x with
  | none => some dflt
  | some (.c (.a (.fz (.int _ i)))) => if 0 ≤ i ∧ i ≤ most then some i.toNat else none
  | _ => none

/-- Bounds within a length. -/
def bnds3 (lo hi mx : Option TV) (len : Nat) : Option (Nat × Nat) :=
  match boundA mx len len, boundA hi len len with
  | some c, some b => if b ≤ c ∧ (mx.isSome = true → hi.isSome = true) then (boundA lo 0 b).map fun a => (a, b) else none
  | _, _ => none

def sliceStr (x : TV) (lo hi mx : Option TV) : Option TV :=
  match x, mx with
  | .c (.a (.fz (.str l))), none => (bnds3 lo hi none l.length).map fun p => .c (.a (.fz (.str ((l.take p.2).drop p.1))))
  | _, _ => none

/-- Is a slice's third bound nought? Then it has no place at all. -/
def zeroMax : Option TV → Bool
  | some (.c (.a (.fz (.int _ n)))) => n == 0
  | _ => false
/-- A slice of a slice, within its length. -/
def sliceSl (sz : Nat) (x : TV) (lo hi mx : Option TV) : Option TV :=
  match x with
  | .c (.a (.fz .nils)) => (bnds3 lo hi mx 0).map fun _ => x
  | .c (.a (.fz (.sl nn n es))) => if n = sz then (bnds3 lo hi mx es.length).map fun p => if zeroMax mx = true then .c (.a (.fz (.z0 nn))) else .c (.a (.fz (.sl nn n ((es.take p.2).drop p.1)))) else none
  | .c (.a (.fz (.z0 _))) => (bnds3 lo hi mx 0).map fun _ => x
  | .c (.a (.osl o n off len)) => if n = sz then (bnds3 lo hi mx len).map fun p => .c (.a (.osl o n (off + p.1) (p.2 - p.1))) else none
  | _ => none

def pickT (t : Bool) : TV → TV → TV
  | .c (.a (.fz (.bool p))), .c (.a (.fz (.bool q))) => bV (if t then p else q)
  | x, y => if t then x else y

/-- How many bytes a slice may come to have. -/
def roomB (n bytes : Nat) : Prop := n * bytes ≤ 140737488355328
instance (n bytes : Nat) : Decidable (roomB n bytes) := by unfold roomB; exact inferInstance

def appendA (d : TyD) (fr : Nat) (h : Nat → AObj) (s x : TV) : Option AR :=
  match elemsOf d.size h x with
  | none => none
  | some (new, rd) =>
    match s with
    | .c (.a (.fz .nils)) =>
      if new = [] then some ⟨s, [], rd⟩
      else if roomB new.length d.bytes then some ⟨.c (.a (.osl fr d.size 0 new.length)), [(fr, .arr d.size new)], rd⟩ else none
    | .c (.a (.fz (.z0 _))) =>
      if new = [] then some ⟨s, [], rd⟩
      else if roomB new.length d.bytes then some ⟨.c (.a (.osl fr d.size 0 new.length)), [(fr, .arr d.size new)], rd⟩ else none
    | .c (.a (.osl o n off len)) =>
      match h o with
      | .arr m es =>
        if n = d.size ∧ m = d.size ∧ off = 0 ∧ len ≤ es.length ∧ roomB (len + new.length) d.bytes ∧ !rd.contains o then
          some ⟨.c (.a (.osl fr d.size 0 (len + new.length))), [(o, .gone), (fr, .arr d.size (es.take len ++ new))], o :: rd⟩
        else none
      | _ => none
    | _ => none

def numsA : List TV → Option (IntKind × List Int)
  | [] => none
  | [.c (.a (.fz (.int k n)))] => some (k, [n])
  | .c (.a (.fz (.int k n))) :: r => (numsA r).bind fun (k', l) => if k = k' then some (k, n :: l) else none
  | _ => none

def foldMax (l : List Int) : Int := match l with | [] => 0 | x :: r => r.foldl max x
def foldMin (l : List Int) : Int := match l with | [] => 0 | x :: r => r.foldl min x

def atoms : List WV → Option (List AV)
  | [] => some []
  | .a x :: r => (atoms r).map fun l => x :: l
  | _ => none

/-- What a function value bears. -/
def atomsL : List TV → Option (List (Bool × List AV))
  | [] => some []
  | .c (.a x) :: r => (atomsL r).map fun l => (false, [x]) :: l
  | .agg cs :: r => (atoms cs).bind fun xs => (atomsL r).map fun l => (true, xs) :: l
  | _ => none

def fieldAddrA (d : TyD) (x : TV) (f : Nat) : Option TV :=
  match d.kind with
  | .struct fs => match fs[f]? with
    | some fd => if fd.2.1 = 0 then none else
      match x with
      | .c (.a (.ep o n i j)) => some (.c (.a (.ep o n i (j + fd.1))))
      | .c (.a (.fz (.pt cs))) => some (.c (.a (.fz (.pt (cs.drop fd.1)))))
      | _ => none
    | none => none
  | _ => none

def fieldA (P : Program) (d : TyD) (x : TV) (f : Nat) : Option TV :=
  match d.kind with
  | .struct fs => match fs[f]? with
    | some fd => match tyOf P fd.2.2, x with
      | some df, .agg cs => partA df.agg df.size cs fd.1
      | _, _ => none
    | none => none
  | _ => none

/-- The place of an element of a slice, of an array. -/
def elemSl (de : TyD) (x : TV) (i : Int) : Option TV :=
  match x with
  | .c (.a (.osl o n off len)) => if de.size = n ∧ 0 ≤ i ∧ i < len then some (.c (.a (.ep o n (off + i.toNat) 0))) else none
  | .c (.a (.fz (.sl _ n es))) => if de.size = n ∧ 0 ≤ i ∧ i < es.length then some (.c (.a (.fz (.pt (es.getD i.toNat []))))) else none
  | _ => none
def elemArr (de : TyD) (m : Nat) (x : TV) (i : Int) : Option TV :=
  match x with
  | .c (.a (.ep o n k j)) => if 0 ≤ i ∧ i < m then some (.c (.a (.ep o n k (j + i.toNat * de.size)))) else none
  | _ => none

def indexAddrA (P : Program) (d : TyD) (x ix : TV) : Option TV :=
  match ix with
  | .c (.a (.fz (.int _ i))) =>
    match d.kind with
    | .slice e => match tyOf P e with | some de => elemSl de x i | none => none
    | .arr m e => match tyOf P e with | some de => elemArr de m x i | none => none
    | _ => none
  | _ => none

def indexA (P : Program) (d : TyD) (x ix : TV) : Option TV :=
  match ix with
  | .c (.a (.fz (.int _ i))) =>
    match d.kind with
    | .str => match x with
      | .c (.a (.fz (.str l))) => if 0 ≤ i ∧ i < l.length then some (.c (.a (.fz (.int .u8 (l.getD i.toNat 0).toNat)))) else none
      | _ => none
    | .arr m e => match tyOf P e, x with
      | some de, .agg cs => if 0 ≤ i ∧ i < m then partA de.agg de.size cs (i.toNat * de.size) else none
      | _, _ => none
    | _ => none
  | _ => none

def extractA (x : TV) (i : Nat) : Option TV :=
  match x with
  | .tup vs => match vs[i]? with
    | some (true, cs) => some (.agg cs)
    | some (false, [c]) => some (.c c)
    | _ => none
  | _ => none

def convertA (d : TyD) (x : TV) : Option TV :=
  match d.kind with
  | .int k => match x with | .c (.a (.fz (.int _ n))) => some (.c (.a (.fz (.int k (k.wrap n))))) | _ => none
  | .str => match x with | .c (.a (.fz (.str l))) => some (.c (.a (.fz (.str l)))) | _ => none
  | _ => none

def nilCheckA (x : TV) : Option TV :=
  match x with
  | .c (.a (.ep _ _ _ _)) => some x
  | .c (.a (.fz (.pt _))) => some x
  | .c (.fn (.func _) _ _) => some x
  | _ => none

def pickV (c x y : TV) : Option TV :=
  match c with
  | .c (.a (.fz (.bool t))) => some (pickT t x y)
  | _ => none

def sliceOpA (P : Program) (d : TyD) (x : TV) (lo hi mx : Option TV) : Option TV :=
  match d.kind with
  | .slice e => match tyOf P e with
    | some de => sliceSl de.size x lo hi mx
    | none => none
  | .str => sliceStr x lo hi mx
  | _ => none

def makeFuncA (fn : Fn) (first captured : List TV) : Option TV :=
  match atomsL first, atomsL captured with
  | some fs, some cs => some (.c (.fn fn fs cs))
  | _, _ => none

def buildA (P : Program) (d : TyD) (parts : List (Nat × TV)) : Option TV :=
  match d.zero, d.kind with
  | some z, .struct fs => (fillA (fun i => (fs[i]?).map fun f => (f.1, f.2.1)) (fzs z) parts).map .agg
  | some z, .arr _ e => match tyOf P e with
    | some de => (fillA (fun i => some (i * de.size, de.size)) (fzs z) parts).map .agg
    | none => none
  | _, _ => none

def loadP (d : TyD) (h : Nat → AObj) (x : TV) : Option (TV × List Nat) :=
  match x with
  | .c (.a (.ep o n i j)) =>
    match h o with
    | .arr m es => if m = n then match es[i]? with
      | some e => match loadA d (e.drop j) with | some v => some (v, [o]) | none => none
      | none => none
      else none
    | _ => none
  | .c (.a (.fz (.pt cs))) => match loadA d (fzs cs) with | some v => some (v, []) | none => none
  | _ => none

def storeP (d : TyD) (h : Nat → AObj) (x y : TV) : Option AR :=
  match cellsT y, x with
  | some cs, .c (.a (.ep o n i j)) =>
    match h o with
    | .arr m es => if m = n ∧ cs.length = d.size then match es[i]? with
      | some e => if j + cs.length ≤ e.length then some ⟨.any, [(o, .arr n (es.set i (splice e j cs)))], [o]⟩ else none
      | none => none
      else none
    | _ => none
  | _, _ => none

def buildSliceP (de : TyD) (fr len : Nat) (parts : List (Nat × TV)) : Option AR :=
  match de.zero with
  | some z =>
    if z.length = de.size ∧ 0 < de.size ∧ len * de.size ≤ 16777216 then
      match fillA (fun i => some (i * de.size, de.size)) (List.replicate len (fzs z)).flatten parts with
      | some cs => some ⟨.c (.a (.osl fr de.size 0 len)), [(fr, .arr de.size (chunks de.size len cs))], []⟩
      | none => none
    else none
  | none => none

def lenP (d : TyD) (h : Nat → AObj) (x : TV) : Option (Nat × List Nat) :=
  match d.kind with
  | .slice _ => lenSl x
  | .str => lenStr x
  | .map _ _ => lenMap h x
  | .arr n _ => some (n, [])
  | _ => none

def appendP (de : TyD) (fr : Nat) (h : Nat → AObj) (s x : TV) : Option AR :=
  if 0 < de.size ∧ 0 < de.bytes ∧ de.bytes ≤ 4096 ∧ (de.zero.map List.length) = some de.size then appendA de fr h s x else none

def minA (max : Bool) (l : List TV) : Option TV :=
  match numsA l with
  | some r => some (.c (.a (.fz (.int r.1 (if max then foldMax r.2 else foldMin r.2)))))
  | none => none

def valR (v : Option TV) : Option AR := v.map fun v => ⟨v, [], []⟩

def withTy (P : Program) (t : TypeId) {α : Type} (f : TyD → Option α) : Option α :=
  match tyOf P t with
  | some d => f d
  | none => none
def withElem (P : Program) (t : TypeId) {α : Type} (f : TyD → Option α) : Option α :=
  match tyOf P t with
  | some d => match d.kind with
    | .slice e => match tyOf P e with
      | some de => f de
      | none => none
    | _ => none
  | none => none

/-- So many noughts, appended to nil: its elements are not told. -/
def appendZ (P : Program) (t' : TypeId) (de : TyD) (fr : Nat) (s x : TV) : Option AR :=
  match P.underlying t', s, x with
  | some (.int _), .c (.a (.fz .nils)), .c (.a (.fz (.int _ n))) =>
    if 0 < n ∧ 0 < de.size ∧ roomB n.toNat de.bytes ∧ 0 < de.bytes ∧ (de.zero.map List.length) = some de.size then some ⟨.c (.a (.osl fr de.size 0 n.toNat)), [(fr, .arr de.size [])], []⟩ else none
  | _, _, _ => none
def capP (d : TyD) (x : TV) : Option TV :=
  match d.kind, x with
  | .slice _, .c (.a (.fz .nils)) => some (iV 0)
  | .slice _, .c (.a (.fz (.z0 _))) => some (iV 0)
  | _, _ => none
def builtinA (P : Program) (b : Builtin) (ts : List TypeId) (fr : Nat) (h : Nat → AObj) (args : List TV) : Option AR :=
  match b, ts, args with
  | .len, [t], [x] => withTy P t fun d => (lenP d h x).map fun r => ⟨iV r.1, [], r.2⟩
  | .append, [t, t'], [s, x] => if t = t' then withElem P t fun de => appendP de fr h s x else withElem P t fun de => appendZ P t' de fr s x
  | .cap, [t], [x] => valR (withTy P t fun d => capP d x)
  | .min, _, l => valR (minA false l)
  | .max, _, l => valR (minA true l)
  | _, _, _ => none

/-- What an operation comes to that calls no Go function. fr: the number of the object that it may make. -/
def rowOf : TV → Option (Bool × List WV)
  | .c x => some (false, [x])
  | .agg cs => some (true, cs)
  | _ => none
/-! ### Maps -/
/-- What a map's keys are: one cell, or a struct of plain cells. -/
def keyKinds (P : Program) (t : TypeId) : Option (Bool × List EK) :=
  match P.underlying t with
  | some (.struct _) => (eqKinds P t).map fun l => (true, l)
  | _ => (ekOf P t).map fun k => (false, [k])
def keyT (ag : Bool) : TV → Option (List FV)
  | .c (.a (.fz f)) => if ag then none else some [f]
  | .agg cs => if ag then unfz cs else none
  | _ => none
abbrev MapE := (Bool × List FV) × (Bool × List WV)
/-- A key's place. -/
def findA (m : Bool × List EK) (key : List FV) : List MapE → Nat → Option (Option Nat)
  | [], _ => some none
  | e :: es, i => if e.1.1 = m.1 then (sameCells m.2 (fzs key) (fzs e.1.2)).bind fun b => if b then some (some i) else findA m key es (i + 1) else none
def rowTV : Bool × List WV → Option TV
  | (true, cs) => some (.agg cs)
  | (false, [x]) => some (.c x)
  | _ => none
def zeroRow (d : TyD) : Option (Bool × List WV) :=
  match d.zero with
  | some z => if d.agg then some (true, fzs z) else match z with | [f] => some (false, [cell f]) | _ => none
  | none => none
def mapTy (P : Program) (t : TypeId) : Option ((Bool × List EK) × (Bool × List WV)) :=
  match tyOf P t with
  | some d => match d.kind with
    | .map k e => match keyKinds P k, tyOf P e with
      | some ks, some de => (zeroRow de).map fun z => (ks, z)
      | _, _ => none
    | _ => none
  | none => none
def lookV (ok : Bool) (v : Bool × List WV) (b : Bool) : Option TV := if ok then some (.tup [v, (false, [cell (.bool b)])]) else rowTV v
def lookupA (m : (Bool × List EK) × (Bool × List WV)) (h : Nat → AObj) (x key : TV) (ok : Bool) : Option (TV × List Nat) :=
  match keyT m.1.1 key with
  | some k => match x with
    | .c (.a (.fz (.cst (.map none)))) => (lookV ok m.2 false).map fun v => (v, [])
    | .c (.a (.mp o)) => match h o with
      | .mapo es => (findA m.1 k es 0).bind fun r => match r with
        | some i => match es[i]? with
          | some e => (lookV ok e.2 true).map fun v => (v, [o])
          | none => none
        | none => (lookV ok m.2 false).map fun v => (v, [o])
      | _ => none
    | _ => none
  | none => none
def mapEntryA (m : (Bool × List EK) × (Bool × List WV)) (h : Nat → AObj) (x key : TV) : Option AR :=
  match keyT m.1.1 key with
  | some k => match x with
    | .c (.a (.mp o)) => match h o with
      | .mapo es => (findA m.1 k es 0).bind fun r => match r with
        | some i => match es[i]? with
          | some e => some ⟨.tup [e.2, (false, [cell (.int .i64 i)])], [(o, .mapo (es.set i ((m.1.1, k), e.2)))], [o]⟩
          | none => none
        | none => some ⟨.tup [m.2, (false, [cell (.int .i64 es.length)])], [(o, .mapo (es ++ [((m.1.1, k), m.2)]))], [o]⟩
      | _ => none
    | _ => none
  | none => none
def entryStoreA (m : (Bool × List EK) × (Bool × List WV)) (h : Nat → AObj) (x stamp v : TV) : Option AR :=
  match x, stamp, rowOf v with
  | .c (.a (.mp o)), .c (.a (.fz (.int _ n))), some r => match h o with
    | .mapo es => match es[n.toNat]? with
      | some e => if 0 ≤ n ∧ r.1 = m.2.1 ∧ r.2.length = m.2.2.length then some ⟨.any, [(o, .mapo (es.set n.toNat (e.1, r)))], [o]⟩ else none
      | none => none
    | _ => none
  | _, _, _ => none
def mapUpdateA (m : (Bool × List EK) × (Bool × List WV)) (h : Nat → AObj) (x key v : TV) : Option AR :=
  match keyT m.1.1 key, rowOf v with
  | some k, some r => match x with
    | .c (.a (.mp o)) => match h o with
      | .mapo es => (findA m.1 k es 0).bind fun q => match q with
        | some i => some ⟨.any, [(o, .mapo (es.set i ((m.1.1, k), r)))], [o]⟩
        | none => some ⟨.any, [(o, .mapo (es ++ [((m.1.1, k), r)]))], [o]⟩
      | _ => none
    | _ => none
  | _, _ => none

def aop (P : Program) (o : Oper) (fr : Nat) (ρ : Operand → TV) (h : Nat → AObj) : Option AR :=
  match o.op with
  | .move x => some ⟨ρ x, [], []⟩
  | .assign x => some ⟨ρ x, [], []⟩
  | .pick c x y => valR (pickV (ρ c) (ρ x) (ρ y))
  | .alloc e => withTy P e fun d => d.zero.map fun z => ⟨.c (.a (.ep fr z.length 0 0)), [(fr, .arr z.length [fzs z])], []⟩
  | .box _ x => (cellsT (ρ x)).map fun cs => ⟨.c (.a (.ep fr cs.length 0 0)), [(fr, .arr cs.length [cs])], []⟩
  | .build t parts => valR (withTy P t fun d => buildA P d (parts.toList.map fun p => (p.1, ρ p.2)))
  | .buildSlice t len parts => withElem P t fun de => buildSliceP de fr len (parts.toList.map fun p => (p.1, ρ p.2))
  | .load t x => withTy P t fun d => (loadP d h (ρ x)).map fun r => ⟨r.1, [], r.2⟩
  | .store t x y => withTy P t fun d => storeP d h (ρ x) (ρ y)
  | .nilCheck x => valR (nilCheckA (ρ x))
  | .binOp op t x y _ => valR (binA P t op (ρ x) (ρ y))
  | .unOp op _ x => valR (unA op (ρ x))
  | .convert src dst x => valR (if (P.underlying src).isSome then withTy P dst fun d => convertA d (ρ x) else none)
  | .slice t x lo hi mx => valR (withTy P t fun d => sliceOpA P d (ρ x) (lo.map ρ) (hi.map ρ) (mx.map ρ))
  | .fieldAddr s x f => valR (withTy P s fun d => fieldAddrA d (ρ x) f)
  | .field s x f => valR (withTy P s fun d => fieldA P d (ρ x) f)
  | .indexAddr t x ix => valR (withTy P t fun d => indexAddrA P d (ρ x) (ρ ix))
  | .index t x ix => valR (withTy P t fun d => indexA P d (ρ x) (ρ ix))
  | .makeFunc fn first captured => valR (makeFuncA fn (first.toList.map ρ) (captured.toList.map ρ))
  | .extract x i => valR (extractA (ρ x) i)
  | .call ⟨.builtin b, args, ts⟩ => builtinA P b ts.toList fr h (args.toList.map ρ)
  | _ => none


/-! ### Arrays of frozen cells, kept as such -/
def spliceF (e : List FV) (j : Nat) (cs : List FV) : List FV := e.take j ++ cs ++ e.drop (j + cs.length)

/-- A store's object. -/
def storeF (d : TyD) (h : Nat → AObj) (x y : TV) : Option AR :=
  match cellsT y, x with
  | some cs, .c (.a (.ep o n i j)) =>
    match h o with
    | .arz m fs => match unfz cs with
      | some fcs => if m = n ∧ fcs.length = d.size then match fs[i]? with
        | some e => if j + fcs.length ≤ e.length then some ⟨.any, [(o, .arz n (fs.set i (spliceF e j fcs)))], [o]⟩ else none
        | none => none
        else none
      | none => none
    | _ => storeP d h x y
  | _, _ => none

/-- A slice's frozen elements. -/
def elemsF (n : Nat) (h : Nat → AObj) : TV → Option (List (List FV) × List Nat)
  | .c (.a (.fz .nils)) => some ([], [])
  | .c (.a (.fz (.sl _ m es))) => if m = n then some (es, []) else none
  | .c (.a (.fz (.z0 _))) => some ([], [])
  | .c (.a (.osl o m off len)) =>
    match h o with
    | .arz m' es => if m = n ∧ m' = n ∧ off + len ≤ es.length then some ((es.drop off).take len, [o]) else none
    | _ => none
  | _ => none

def appendF (d : TyD) (fr : Nat) (h : Nat → AObj) (s x : TV) : Option AR :=
  match elemsF d.size h x with
  | some (new, rd) =>
    match s with
    | .c (.a (.fz .nils)) =>
      if new = [] then some ⟨s, [], rd⟩
      else if roomB new.length d.bytes then some ⟨.c (.a (.osl fr d.size 0 new.length)), [(fr, .arz d.size new)], rd⟩ else none
    | .c (.a (.fz (.z0 _))) =>
      if new = [] then some ⟨s, [], rd⟩
      else if roomB new.length d.bytes then some ⟨.c (.a (.osl fr d.size 0 new.length)), [(fr, .arz d.size new)], rd⟩ else none
    | .c (.a (.osl o n off len)) =>
      match h o with
      | .arz m fs =>
        if n = d.size ∧ m = d.size ∧ off = 0 ∧ len ≤ fs.length ∧ roomB (len + new.length) d.bytes ∧ !rd.contains o then
          some ⟨.c (.a (.osl fr d.size 0 (len + new.length))), [(o, .gone), (fr, .arz d.size (fs.take len ++ new))], o :: rd⟩
        else none
      | _ => appendA d fr (fun o => flat (h o)) s x
    | _ => none
  | none => appendA d fr (fun o => flat (h o)) s x

def appendPF (de : TyD) (fr : Nat) (h : Nat → AObj) (s x : TV) : Option AR :=
  if 0 < de.size ∧ 0 < de.bytes ∧ de.bytes ≤ 4096 ∧ (de.zero.map List.length) = some de.size then appendF de fr h s x else none

/-- The object that an operation made, frozen if all of its cells are. -/
def freezeNew (r : AR) : AR :=
  match r.upd with
  | [(o, .arr n es)] => match unfzs es with
    | some fs => ⟨r.val, [(o, .arz n fs)], r.rd⟩
    | none => r
  | _ => r

def builtinF (P : Program) (b : Builtin) (ts : List TypeId) (fr : Nat) (h : Nat → AObj) (args : List TV) : Option AR :=
  match b, ts, args with
  | .append, [t, t'], [s, x] => if t = t' then withElem P t fun de => appendPF de fr h s x else withElem P t fun de => (appendZ P t' de fr s x).map freezeNew
  | b, ts, args => builtinA P b ts fr (fun o => flat (h o)) args


/-- Slices of the call's own that go into a struct are never written again: their objects are given up. -/
def giveW (h : Nat → AObj) : WV → WV × AHeap
  | .a (.osl o n off len) =>
    match h o with
    | .arz m fs => if n = m ∧ off + len ≤ fs.length then (.a (.fz (.sl true n ((fs.drop off).take len))), [(o, .gone)]) else (.a (.osl o n off len), [])
    | _ => (.a (.osl o n off len), [])
  | x => (x, [])
def giveWs (h : Nat → AObj) : List WV → List WV × AHeap
  | [] => ([], [])
  | x :: r => ((giveW h x).1 :: (giveWs h r).1, (giveW h x).2 ++ (giveWs h r).2)
def giveT (h : Nat → AObj) : TV → TV × AHeap
  | .c x => (.c (giveW h x).1, (giveW h x).2)
  | .agg cs => (.agg (giveWs h cs).1, (giveWs h cs).2)
  | x => (x, [])
def giveP (h : Nat → AObj) : List (Nat × TV) → List (Nat × TV) × AHeap
  | [] => ([], [])
  | (i, x) :: r => ((i, (giveT h x).1) :: (giveP h r).1, (giveT h x).2 ++ (giveP h r).2)

/-- The objects of slices that go into a struct. -/
def oslW : WV → List Nat
  | .a (.osl o _ _ _) => [o]
  | _ => []
def oslT : TV → List Nat
  | .c x => oslW x
  | .agg cs => cs.flatMap oslW
  | _ => []
def oslP (l : List (Nat × TV)) : List Nat := l.flatMap fun p => oslT p.2

/-- What an operation comes to, arrays of frozen cells kept as such. -/
def aopF (P : Program) (o : Oper) (fr : Nat) (ρ : Operand → TV) (h : Nat → AObj) : Option AR :=
  match o.op with
  | .store t x y => withTy P t fun d => storeF d h (ρ x) (ρ y)
  | .call ⟨.builtin b, args, ts⟩ => builtinF P b ts.toList fr h (args.toList.map ρ)
  | .buildSlice t len parts =>
    (withElem P t fun de => buildSliceP de fr len (giveP h (parts.toList.map fun p => (p.1, ρ p.2))).1).map fun r => ⟨(freezeNew r).val, (freezeNew r).upd ++ (giveP h (parts.toList.map fun p => (p.1, ρ p.2))).2, oslP (parts.toList.map fun p => (p.1, ρ p.2))⟩
  | .build t parts =>
    (withTy P t fun d => buildA P d (giveP h (parts.toList.map fun p => (p.1, ρ p.2))).1).map fun v => ⟨v, (giveP h (parts.toList.map fun p => (p.1, ρ p.2))).2, oslP (parts.toList.map fun p => (p.1, ρ p.2))⟩
  | _ => aop P o fr ρ (fun o => flat (h o))

end Go.AM
