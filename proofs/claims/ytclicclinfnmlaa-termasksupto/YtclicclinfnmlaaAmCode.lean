/-
  Abstract runs of code: 'lex' (a region's operations in the order of the text, each read and write noted), 'awp' (what a piece of code comes to). Definitions. No conditions.
-/
import Derived.Test.YtclicclinfnmlaaAmRep
namespace Go.AM

structure St where
  env : Env
  heap : AHeap
  nx : Nat

def putE (d : Option Nat) (v : TV) (e : Env) : Env :=
  match d with
  | some i => (i, v) :: e
  | none => e

/-- Is an operation carried out? none: it is not known. -/
def want (ops : Array Oper) (o : Oper) (e : Nat → TV) : Option Bool :=
  match o.guard with
  | none => some true
  | some (j, b) => match ((ops[j]?).bind (·.dst)).map e with
    | some (.c (.a (.fz (.bool x)))) => some (x == b)
    | some (.tup []) => some false
    | _ => none

/-! Objects by other numbers. -/
def AV.ren (σ : Nat → Nat) : AV → AV
  | .ep o n i j => .ep (σ o) n i j
  | .osl o n off len => .osl (σ o) n off len
  | .mp o => .mp (σ o)
  | x => x
def WV.ren (σ : Nat → Nat) : WV → WV
  | .a x => .a (x.ren σ)
  | .fn f first cap => .fn f (first.map fun p => (p.1, p.2.map (AV.ren σ))) (cap.map fun p => (p.1, p.2.map (AV.ren σ)))
def TV.ren (σ : Nat → Nat) : TV → TV
  | .any => .any
  | .c x => .c (x.ren σ)
  | .agg cs => .agg (cs.map (WV.ren σ))
  | .tup vs => .tup (vs.map fun p => (p.1, p.2.map (WV.ren σ)))
def AObj.ren (σ : Nat → Nat) : AObj → AObj
  | .gone => .gone
  | .arr n es => .arr n (es.map fun e => e.map (WV.ren σ))
  | .arz n fs => .arz n fs
  | .mapo es => .mapo (es.map fun e => (e.1, (e.2.1, e.2.2.map (WV.ren σ))))

/-! All numbers of objects are below m. -/
def AV.lt (m : Nat) : AV → Bool
  | .ep o _ _ _ => o < m
  | .osl o _ _ _ => o < m
  | .mp o => o < m
  | _ => true
def WV.lt (m : Nat) : WV → Bool
  | .a x => x.lt m
  | .fn _ first cap => (first.all fun p => p.2.all (AV.lt m)) && (cap.all fun p => p.2.all (AV.lt m))
def TV.lt (m : Nat) : TV → Bool
  | .any => true
  | .c x => x.lt m
  | .agg cs => cs.all (WV.lt m)
  | .tup vs => vs.all fun p => p.2.all (WV.lt m)

def AObj.lt (m : Nat) : AObj → Bool
  | .gone => true
  | .arr _ es => es.all fun e => e.all (WV.lt m)
  | .arz _ _ => true
  | .mapo es => es.all fun e => e.2.2.all (WV.lt m)

/-! One abstract value says more than another. -/
inductive FV.Le : FV → FV → Prop
  | refl (x : FV) : FV.Le x x
  | nils (n : Nat) : FV.Le .nils (.sl false n [])
  | nn (b : Bool) (n : Nat) (es : List (List FV)) : FV.Le (.sl b n es) (.sl false n es)
  | z0 (nn : Bool) (n : Nat) : FV.Le (.z0 nn) (.sl nn n [])
  | rows (b : Bool) (n : Nat) (es es' : List (List FV)) : es.length = es'.length → (∀ (i : Nat) (e e' : List FV), es[i]? = some e → es'[i]? = some e' → e.length = e'.length) →
      (∀ (i j : Nat) (e e' : List FV) (f f' : FV), es[i]? = some e → es'[i]? = some e' → e[j]? = some f → e'[j]? = some f' → FV.Le f f') → FV.Le (.sl b n es) (.sl b n es')
  | trans (x y z : FV) : FV.Le x y → FV.Le y z → FV.Le x z

/-- Two lists, place by place. -/
def All2 {α β : Type} (R : α → β → Prop) : List α → List β → Prop
  | [], [] => True
  | x :: xs, y :: ys => R x y ∧ All2 R xs ys
  | _, _ => False

/-- Objects that are lent for reading, or given up: what their elements are. -/
abbrev Lent := List (Nat × Nat × List (List FV))
def Lent.ok (L : Lent) (h : Nat → AObj) : Prop := ∀ p ∈ L, flat (h p.1) = .arr p.2.1 (p.2.2.map fzs)
def find2 {α : Type} : List (Nat × α) → Nat → Option α
  | [], _ => none
  | (j, x) :: l, i => if j = i then some x else find2 l i
def AV.lend (L : Lent) : AV → AV
  | .osl o n off len => match find2 L o with
    | some p => if n = p.1 ∧ off + len ≤ p.2.length then .fz (.sl true n ((p.2.drop off).take len)) else .osl o n off len
    | none => .osl o n off len
  | x => x
def WV.lend (L : Lent) : WV → WV
  | .a x => .a (x.lend L)
  | x => x
def TV.lend (L : Lent) : TV → TV
  | .c x => .c (x.lend L)
  | .agg cs => .agg (cs.map (WV.lend L))
  | x => x
def AObj.lend (L : Lent) : AObj → AObj
  | .arr n es => .arr n (es.map fun e => e.map (WV.lend L))
  | x => x
/-- No memory is in it. -/
def FV.scalar : FV → Bool
  | .sl _ _ _ => false
  | .pt _ => false
  | _ => true
def AV.scalar : AV → Bool
  | .fz x => x.scalar
  | .any => false
  | _ => true
def WV.scalar : WV → Bool
  | .a x => x.scalar
  | _ => false
def TV.scalar : TV → Bool
  | .any => true
  | .c x => x.scalar
  | .agg cs => cs.all WV.scalar
  | .tup vs => vs.all fun p => p.2.all WV.scalar

def over (u : AHeap) (h : Nat → AObj) (o : Nat) : AObj := match find2 u o with | some x => x | none => h o

def sub (ids : List Nat) (fr : Nat) (o : Nat) : Nat := if o < ids.length then ids.getD o 0 else fr + (o - ids.length)

/-- What stands for what in a list of arguments. -/
inductive AV.Le : AV → AV → Prop
  | refl (x : AV) : AV.Le x x
  | fz (x y : FV) : FV.Le x y → AV.Le (.fz x) (.fz y)
  | any (x : AV) : AV.Le x .any
inductive WV.Le : WV → WV → Prop
  | refl (x : WV) : WV.Le x x
  | a (x y : AV) : AV.Le x y → WV.Le (.a x) (.a y)
inductive TV.Le : TV → TV → Prop
  | refl (x : TV) : TV.Le x x
  | any (x : TV) : TV.Le x .any
  | c (x y : WV) : WV.Le x y → TV.Le (.c x) (.c y)
  | agg (xs ys : List WV) : xs.length = ys.length → (∀ (i : Nat) (x y : WV), xs[i]? = some x → ys[i]? = some y → WV.Le x y) → TV.Le (.agg xs) (.agg ys)

/-- New objects, at numbers from fr on. -/
def newObjs (σ : Nat → Nat) (fr : Nat) : List AObj → AHeap
  | [] => []
  | o :: r => (fr, o.ren σ) :: newObjs σ (fr + 1) r
def oldObjs (σ : Nat → Nat) : List Nat → List AObj → AHeap
  | i :: ids, o :: r => (i, o.ren σ) :: oldObjs σ ids r
  | _, _ => []

/-- A call, by its contract: ids: the objects that it is given. -/
def CallK (P : Program) (f : FuncId) (args : List TV) (h : Nat → AObj) (fr : Nat) (K : TV → AHeap → List Nat → Prop) : Prop :=
  ∃ (ids : List Nat) (L : Lent) (args' : List TV) (Hs : List AObj) (r : TV) (Hs' : List AObj),
    AC P f args' Hs r Hs' ∧ ids.Nodup ∧ Hs'.length ≤ ids.length + 32 ∧
    (Hs.map (AObj.ren (sub ids fr)) = ids.map h ∧ Hs.all (AObj.lt ids.length) = true) ∧
    All2 TV.Le (args.map (TV.lend L)) (args'.map (TV.ren (sub ids fr))) ∧ args'.all (TV.lt ids.length) = true ∧ (∀ i ∈ ids, isLive (h i)) ∧
    (L = [] ∨ (L.ok h ∧ (∀ p ∈ L, p.1 ∉ ids) ∧ r.scalar = true ∧ Hs' = [])) ∧
    K (r.ren (sub ids fr)) (oldObjs (sub ids fr) ids Hs' ++ newObjs (sub ids fr) fr (Hs'.drop ids.length)) (ids ++ L.map Prod.fst)

/-- A call, to which slices of the call's own may be given for good. -/
def CallE (P : Program) (f : FuncId) (args : List TV) (h : Nat → AObj) (fr : Nat) (K : TV → AHeap → List Nat → Prop) : Prop :=
  ∃ E : Lent, E.ok h ∧ CallK P f (args.map (TV.lend E)) (over (E.map fun p => (p.1, AObj.gone)) h) fr
    (fun r u rd => K r (u ++ E.map fun p => (p.1, AObj.gone)) (rd ++ E.map Prod.fst))

def calleeOf (ρ : Operand → TV) (c : Call) : Option (FuncId × List TV) :=
  match c.callee with
  | .value x => match ρ x with
    | .c (.fn (.func f) first cap) => some (f, first.map (fun p => match p with | (true, cs) => TV.agg (cs.map WV.a) | (false, [x]) => TV.c (.a x) | _ => TV.any) ++ c.args.toList.map ρ ++ cap.map (fun p => match p with | (true, cs) => TV.agg (cs.map WV.a) | (false, [x]) => TV.c (.a x) | _ => TV.any))
    | _ => none
  | _ => none

/-- What was read and written, an operation each. -/
abbrev Track := List (List Nat × List Nat)

/-- A call of a Go function. -/
def goCall : Op → Option Call
  | .call ⟨.value x, as, ts⟩ => some ⟨.value x, as, ts⟩
  | _ => none

/-- What an operation comes to that is carried out. -/
def stepK (P : Program) (fr : Nat) (o : Oper) (e : Env) (h : AHeap) (tr : Track) (next : Env → AHeap → Track → Prop) : Prop :=
  match goCall o.op with
  | some c =>
    match calleeOf (ev e) c with
    | some (f, args) => CallE P f args (hook h) fr fun r h' ids => next (putE o.dst r e) (h' ++ h) ((ids, h'.map Prod.fst) :: tr)
    | none => False
  | none =>
    match aopF P o fr (ev e) (hook h) with
    | some r => next (putE o.dst r.val e) (r.upd ++ h) ((r.rd, r.upd.map Prod.fst) :: tr)
    | none => False

def guardK (ops : Array Oper) (o : Oper) (e : Env) (h : AHeap) (tr : Track) (yes : Prop) (next : Env → AHeap → Track → Prop) : Prop :=
  match want ops o (look e) with
  | none => False
  | some w => if w = true then yes else next (putE o.dst (.tup []) e) h (([], []) :: tr)

def lex (P : Program) (ops : Array Oper) (nx : Nat) : List Oper → Nat → Env → AHeap → Track → (Env → AHeap → Track → Prop) → Prop
  | [], _, e, h, tr, K => K e h tr
  | o :: rest, i, e, h, tr, K => guardK ops o e h tr (stepK P (nx + 32 * i) o e h tr fun e h tr => lex P ops nx rest (i + 1) e h tr K) fun e h tr => lex P ops nx rest (i + 1) e h tr K

/-- In whatever order the operations come that Go leaves open, none meddles with another: edges go back; of two that may come in either order none writes what the other one looks at. -/
def drawB (ops : Array Oper) (tr : Track) : Bool :=
  let b := Region.before ops
  let l := ops.toList.zip tr.reverse
  (l.length == ops.size) && (ops.toList.zipIdx.all fun p => p.1.after.all fun e => !Region.binds .any e || e.on < p.2) &&
  l.zipIdx.all fun y => l.zipIdx.all fun x => !(x.2 < y.2) || (b.getD y.2 0).testBit x.2 ||
    (x.1.1.apart ops y.1.1 && (x.1.2.2.all fun o => !(y.1.2.1.contains o) && !(y.1.2.2.contains o)) && (y.1.2.2.all fun o => !(x.1.2.1.contains o)))

/-- All slots that are written lie in the frame. -/
def dstB (ops : Array Oper) (n : Nat) : Bool := ops.all fun o => match o.dst with | some d => d < n | none => true

end Go.AM
