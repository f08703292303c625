/- Contracts of the code's functions over plain values, and plain laws: part 1. No conditions. -/
import Derived.Calls
import Derived.Tactics
import Derived.Orders
import Derived.Still
import Derived.Laws.AppendOwn
import Derived.Laws.CopyRow
import Derived.KernelRfl
import Derived.Lib.LaidTab
import Derived.Lib.ItoaNum
import Derived.Laws.StructEq
import Derived.Laws.Strings
import Derived.Laws.OwnMore
import Derived.WideKeyRuns
import Derived.Laws.MakeOwn
import Derived.Laws.BytesString
import Derived.Laws.Cells
import Derived.Lib.AppendZeros
namespace Go.AM
inductive FV where
 | int (k:IntKind) (n:Int)
 | bool (b:Bool)
 | str (l:List UInt8)
 | cst (v:Value)
 | N
 | sl (nn:Bool) (n:Nat) (es:List (List FV))
 | z0 (nn:Bool)
 | pt (cs:List FV)
 deriving Inhabited
inductive AV where
 | fz (x:FV)
 | ep (o n i j:Nat)
 | osl (o n off len:Nat)
 | mp (o:Nat)
 | any
 | bld (t:TypeId) (o:Nat)
 | osb (o:Nat) (e:TypeId) (len:Nat)
 deriving Inhabited
inductive WV where
 | a (x:AV)
 | fn (f:Fn) (first captured:List (Bool×List AV))
 deriving Inhabited
inductive TV where
 | any
 | c (x:WV)
 | agg (cs:List WV)
 | tup (vs:List (Bool×List WV))
 deriving Inhabited
inductive AObj where
 | gone
 | arr (n:Nat) (es:List (List WV))
 | arz (n:Nat) (fs:List (List FV))
 | mapo (es:List ((Bool×List FV)×(Bool×List WV)))
 | mapz (es:List ((Bool×List FV)×(Bool×List FV)))
 deriving Inhabited
abbrev Env:=List (Nat×TV)
abbrev AHeap:=List (Nat×AObj)
def look:Env→Nat→TV
 | [],_=> .any
 | (j,v)::e,i=>if j=i then v else look e i
def hook:AHeap→Nat→AObj
 | [],_=> .gone
 | (j,v)::e,i=>if j=i then v else hook e i
def fvOf:Value→FV
 | .int k n=> .int k n
 | .bool b=> .bool b
 | .string s=> .str s.data.toList
 | .slice none 0 0=> .N
 | v=> .cst v
def cell (x:FV):WV:= .a (.fz x)
def fzs (l:List FV):List WV:=l.map cell
def thaw (e:(Bool×List FV)×(Bool×List FV)):(Bool×List FV)×(Bool×List WV):=(e.1,(e.2.1,fzs e.2.2))
def flat:AObj→AObj
 | .arz n fs=> .arr n (fs.map fzs)
 | .mapz es=> .mapo (es.map thaw)
 | x=>x
def unfz:List WV→Option (List FV)
 | []=>some []
 | .a (.fz x)::r=>(unfz r).map fun l=>x::l
 | _=>none
def zw5:List (List WV)→Option (List (List FV))
 | []=>some []
 | e::r=>match unfz e,zw5 r with
  | some x,some l=>some (x::l)
  | _,_=>none
def tvOf:Value→TV
 | .agg cs=>if cs.all Value.oneCell' then .agg (cs.toList.map fun v=> .a (.fz (fvOf v))) else .any
 | .tuple _=> .any
 | .int k n=> .c (.a (.fz (.int k n)))
 | .bool b=> .c (.a (.fz (.bool b)))
 | .string s=> .c (.a (.fz (.str s.data.toList)))
 | .slice none 0 0=> .c (.a (.fz .N))
 | v=> .c (.a (.fz (.cst v)))
def evF (e:Nat→TV):Operand→TV
 | .tmp t=>e t
 | .const v=>tvOf v
 | .global _=> .any
 | .func f=> .c (.fn (.func f) [] [])
def ev (e:Env):Operand→TV
 | .tmp t=>look e t
 | .const v=>tvOf v
 | .global _=> .any
 | .func f=> .c (.fn (.func f) [] [])
inductive TKind where
 | base
 | str
 | slice (e:TypeId)
 | arr (n:Nat) (e:TypeId)
 | struct (fs:List (Nat×Nat×TypeId))
 | ptr (e:TypeId)
 | map (k e:TypeId)
 | int (k:IntKind)
 | bool
 | func
structure TyD where
 agg:Bool
 size:Nat
 bytes:Nat
 zero:Option (List FV)
 kind:TKind
def z36 (P:Program):TypeDesc→TKind
 | .string=> .str
 | .slice e=> .slice e
 | .array n e=> .arr n e
 | .struct fs=>if fs.toList.all (fun f=>(P.info? f.type).isSome) then .struct (fs.toList.map fun f=>(f.offset,P.cellsOf f.type,f.type)) else .base
 | .pointer e=> .ptr e
 | .map k e=> .map k e
 | .int k=> .int k
 | .bool=> .bool
 | .func _ _ _=> .func
 | _=> .base
def tyOf (P:Program)(t:TypeId):Option TyD:=
 match P.info? t,P.underlying t with
 | some i,some d=>some
  { agg:=match d with | .struct _ | .array _ _=>true | _=>false
    size:=i.size
    bytes:=i.bytes
    zero:=match i.zero with
     | some z=>if z.cells.all Value.oneCell' then some (z.cells.toList.map fvOf) else none
     | none=>none
    kind:=z36 P d }
 | _,_=>none
structure AR where
 val:TV
 upd:List (Nat×AObj)
 rd:List Nat
def z7m:TV→Option (List WV)
 | .c x=>some [x]
 | .agg cs=>some cs
 | _=>none
def zfb (d:TyD)(cs:List WV):Option TV:=
 if d.agg then (if d.size≤cs.length then some (.agg (cs.take d.size)) else none)
 else match cs with
  | x::_=>some (.c x)
  | []=>none
def partA (agg:Bool)(size:Nat)(cs:List WV)(off:Nat):Option TV:=
 if agg then (if off+size≤cs.length then some (.agg ((cs.drop off).take size)) else none)
 else (cs[off]?).map .c
def splice (e:List WV)(j:Nat)(cs:List WV):List WV:=e.take j++cs++e.drop (j+cs.length)
def zfm (place:Nat→Option (Nat×Nat)):List WV→List (Nat×TV)→Option (List WV)
 | cs,[]=>some cs
 | cs,(i,v)::rest=>
  match place i,z7m v with
  | some (off,size),some us=>if us.length=size∧off+size≤cs.length then zfm place (splice cs off us) rest else none
  | _,_=>none
def z8g (n:Nat):Nat→List WV→List (List WV)
 | 0,_=> []
 | k+1,cs=>cs.take n::z8g n k (cs.drop n)
def z3s (n:Nat)(h:Nat→AObj):TV→Option (List (List WV)×List Nat)
 | .c (.a (.fz .N))=>some ([],[])
 | .c (.a (.fz (.sl _ m es)))=>if m=n then some (es.map fzs,[]) else none
 | .c (.a (.fz (.z0 _)))=>some ([],[])
 | .c (.a (.osl o m off len))=>
  match h o with
  | .arr m' es=>if m=n∧m'=n∧off+len≤es.length then some ((es.drop off).take len,[o]) else none
  | _=>none
 | _=>none
def zhj:TV→Option (Nat×List Nat)
 | .c (.a (.fz .N))=>some (0,[])
 | .c (.a (.fz (.sl _ _ es)))=>some (es.length,[])
 | .c (.a (.fz (.z0 _)))=>some (0,[])
 | .c (.a (.osl _ _ _ len))=>some (len,[])
 | _=>none
def lenStr:TV→Option (Nat×List Nat)
 | .c (.a (.fz (.str l)))=>some (l.length,[])
 | _=>none
def zvr (h:Nat→AObj):TV→Option (Nat×List Nat)
 | .c (.a (.mp o))=>match h o with
  | .mapo es=>some (es.length,[o])
  | _=>none
 | _=>none
def iV (n:Int):TV:= .c (.a (.fz (.int .i64 n)))
def bV (b:Bool):TV:= .c (.a (.fz (.bool b)))
def zju (op:BinOp)(k:IntKind)(a b:Int):Option FV:=
 match op with
 | .add=>some (.int k (k.wrap (a+b)))
 | .sub=>some (.int k (k.wrap (a-b)))
 | .mul=>some (.int k (k.wrap (a*b)))
 | .quo=>if b=0 then none else some (.int k (k.wrap (a.tdiv b)))
 | .rem=>if b=0 then none else some (.int k (a.tmod b))
 | .eql=>some (.bool (a==b))
 | .neq=>some (.bool (a !=b))
 | .lss=>some (.bool (a<b))
 | .leq=>some (.bool (a≤b))
 | .gtr=>some (.bool (a>b))
 | .geq=>some (.bool (a≥b))
 | _=>none
def zre (op:BinOp)(a b:List UInt8):Option FV:=
 match op with
 | .add=>if a.length+b.length≤1000000000000 then some (.str (a++b)) else none
 | .eql=>some (.bool (a==b))
 | .neq=>some (.bool (!(a==b)))
 | _=>none
inductive EK where
 | int
 | bool
 | str
def ekOf (P:Program)(t:TypeId):Option EK:=
 match P.underlying t with
 | some (.int _)=>some .int
 | some .bool=>some .bool
 | some .string=>some .str
 | _=>none
def zo (P:Program):Nat→List Field→Option (List EK)
 | _,[]=>some []
 | i,f::fs=>match ekOf P f.type,zo P (i+1) fs with
  | some k,some l=>if f.offset=i∧f.name ≠ "_" then some (k::l) else none
  | _,_=>none
def z94 (P:Program)(t:TypeId):Option (List EK):=
 match P.underlying t with
 | some (.struct fs)=>if P.stoodInHeld t=false∧P.eqGuardType P.depth t=false then zo P 0 fs.toList else none
 | _=>none
def z0q:List EK→List WV→List WV→Option Bool
 | [],[],[]=>some true
 | .int::ks, .a (.fz (.int k x))::l, .a (.fz (.int k' y))::r=>if k=k' then (z0q ks l r).map fun b=>(x==y)&&b else none
 | .bool::ks, .a (.fz (.bool x))::l, .a (.fz (.bool y))::r=>(z0q ks l r).map fun b=>(x==y)&&b
 | .str::ks, .a (.fz (.str x))::l, .a (.fz (.str y))::r=>(z0q ks l r).map fun b=>(x==y)&&b
 | _,_,_=>none
def nilSl:WV→WV→Option Bool
 | .a (.fz .N), .a (.fz .N)=>some true
 | .a (.fz (.sl true _ _)), .a (.fz .N)=>some false
 | .a (.fz (.z0 true)), .a (.fz .N)=>some false
 | .a (.osl _ _ _ (_+1)), .a (.fz .N)=>some false
 | .a (.fz (.sl false _ (_::_))), .a (.fz .N)=>some false
 | _,_=>none
def zrd:WV→WV→Option Bool
 | .a (.ep _ _ _ _), .a (.fz (.cst (.pointer none)))=>some false
 | .a (.fz (.pt _)), .a (.fz (.cst (.pointer none)))=>some false
 | .a (.fz (.cst (.pointer none))), .a (.fz (.cst (.pointer none)))=>some true
 | _,_=>none
def eqC (P:Program)(t:TypeId)(x y:WV):Option Bool:=
 match tyOf P t with
 | some d=>match d.kind with
  | .bool=>match x,y with
   | .a (.fz (.bool p)), .a (.fz (.bool q))=>some (p==q)
   | _,_=>none
  | .slice _=>nilSl x y
  | .ptr _=>zrd x y
  | _=>none
 | none=>none
def eqA (P:Program)(t:TypeId)(x y:TV):Option Bool:=
 match x,y with
 | .agg xs, .agg ys=>match z94 P t with
  | some ks=>z0q ks xs ys
  | none=>none
 | .c x, .c y=>eqC P t x y
 | _,_=>none
def eqOp (op:BinOp)(r:Option Bool):Option TV:=
 match op with
 | .eql=>r.map bV
 | .neq=>r.map fun b=>bV (!b)
 | _=>none
def binA (P:Program)(t:TypeId)(op:BinOp)(x y:TV):Option TV:=
 match x,y with
 | .c (.a (.fz (.int k x))), .c (.a (.fz (.int k' y)))=>if k=k' then (zju op k x y).map fun v=> .c (.a (.fz v)) else none
 | .c (.a (.fz (.str x))), .c (.a (.fz (.str y)))=>(zre op x y).map fun v=> .c (.a (.fz v))
 | x,y=>eqOp op (eqA P t x y)
def unA (op:UnOp):TV→Option TV
 | .c (.a (.fz (.int k x)))=>match op with | .neg=>some (.c (.a (.fz (.int k (k.wrap (0-x)))))) | _=>none
 | .c (.a (.fz (.bool x)))=>match op with | .not=>some (bV (!x)) | _=>none
 | _=>none
def z4n (x:Option TV)(dflt:Nat)(most:Nat):Option Nat:=
 match x with
 | none=>some dflt
 | some (.c (.a (.fz (.int _ i))))=>if 0≤i∧i≤most then some i.toNat else none
 | _=>none
def zca (lo hi mx:Option TV)(len:Nat):Option (Nat×Nat):=
 match z4n mx len len,z4n hi len len with
 | some c,some b=>if b≤c∧(mx.isSome=true→hi.isSome=true) then (z4n lo 0 b).map fun a=>(a,b) else none
 | _,_=>none
def zha (x:TV)(lo hi mx:Option TV):Option TV:=
 match x,mx with
 | .c (.a (.fz (.str l))),none=>(zca lo hi none l.length).map fun p=> .c (.a (.fz (.str ((l.take p.2).drop p.1))))
 | _,_=>none
def z6t:Option TV→Bool
 | some (.c (.a (.fz (.int _ n))))=>n==0
 | _=>false
def zaw (sz:Nat)(x:TV)(lo hi mx:Option TV):Option TV:=
 match x with
 | .c (.a (.fz .N))=>(zca lo hi mx 0).map fun _=>x
 | .c (.a (.fz (.sl nn n es)))=>if n=sz then (zca lo hi mx es.length).map fun p=>if z6t mx=true then .c (.a (.fz (.z0 nn))) else .c (.a (.fz (.sl nn n ((es.take p.2).drop p.1)))) else none
 | .c (.a (.fz (.z0 _)))=>(zca lo hi mx 0).map fun _=>x
 | .c (.a (.osl o n off len))=>if n=sz then (zca lo hi mx len).map fun p=> .c (.a (.osl o n (off+p.1) (p.2-p.1))) else none
 | _=>none
def pickT (t:Bool):TV→TV→TV
 | .c (.a (.fz (.bool p))), .c (.a (.fz (.bool q)))=>bV (if t then p else q)
 | x,y=>if t then x else y
def z0u (n bytes:Nat):Prop:=n*bytes≤140737488355328
instance (n bytes:Nat):Decidable (z0u n bytes):=by unfold z0u;exact inferInstance
def z2n (d:TyD)(fr:Nat)(h:Nat→AObj)(s x:TV):Option AR:=
 match z3s d.size h x with
 | none=>none
 | some (new,rd)=>
  match s with
  | .c (.a (.fz .N))=>
   if new=[] then some ⟨s,[],rd⟩
   else if z0u new.length d.bytes then some ⟨.c (.a (.osl fr d.size 0 new.length)),[(fr, .arr d.size new)],rd⟩ else none
  | .c (.a (.fz (.z0 _)))=>
   if new=[] then some ⟨s,[],rd⟩
   else if z0u new.length d.bytes then some ⟨.c (.a (.osl fr d.size 0 new.length)),[(fr, .arr d.size new)],rd⟩ else none
  | .c (.a (.osl o n off len))=>
   match h o with
   | .arr m es=>
    if n=d.size∧m=d.size∧off=0∧len≤es.length∧z0u (len+new.length) d.bytes∧ !(fr::rd).contains o then
     some ⟨.c (.a (.osl fr d.size 0 (len+new.length))),[(o, .gone),(fr, .arr d.size (es.take len++new))],o::rd⟩
    else none
   | _=>none
  | _=>none
def z61:List TV→Option (IntKind×List Int)
 | []=>none
 | [.c (.a (.fz (.int k n)))]=>some (k,[n])
 | .c (.a (.fz (.int k n)))::r=>(z61 r).bind fun (k',l)=>if k=k' then some (k,n::l) else none
 | _=>none
def z0g (l:List Int):Int:=match l with | []=>0 | x::r=>r.foldl max x
def z0d (l:List Int):Int:=match l with | []=>0 | x::r=>r.foldl min x
def zrz:List WV→Option (List AV)
 | []=>some []
 | .a x::r=>(zrz r).map fun l=>x::l
 | _=>none
def z7w:List TV→Option (List (Bool×List AV))
 | []=>some []
 | .c (.a x)::r=>(z7w r).map fun l=>(false,[x])::l
 | .agg cs::r=>(zrz cs).bind fun xs=>(z7w r).map fun l=>(true,xs)::l
 | _=>none
def zbj (d:TyD)(x:TV)(f:Nat):Option TV:=
 match d.kind with
 | .struct fs=>match fs[f]? with
  | some fd=>if fd.2.1=0 then none else
   match x with
   | .c (.a (.ep o n i j))=>some (.c (.a (.ep o n i (j+fd.1))))
   | .c (.a (.fz (.pt cs)))=>some (.c (.a (.fz (.pt (cs.drop fd.1)))))
   | _=>none
  | none=>none
 | _=>none
def zx2 (P:Program)(d:TyD)(x:TV)(f:Nat):Option TV:=
 match d.kind with
 | .struct fs=>match fs[f]? with
  | some fd=>match tyOf P fd.2.2,x with
   | some df, .agg cs=>partA df.agg df.size cs fd.1
   | _,_=>none
  | none=>none
 | _=>none
def zg7 (de:TyD)(x:TV)(i:Int):Option TV:=
 match x with
 | .c (.a (.osl o n off len))=>if de.size=n∧0≤i∧i<len then some (.c (.a (.ep o n (off+i.toNat) 0))) else none
 | .c (.a (.fz (.sl _ n es)))=>if de.size=n∧0≤i∧i<es.length then some (.c (.a (.fz (.pt (es.getD i.toNat []))))) else none
 | _=>none
def zna (de:TyD)(m:Nat)(x:TV)(i:Int):Option TV:=
 match x with
 | .c (.a (.ep o n k j))=>if 0≤i∧i<m then some (.c (.a (.ep o n k (j+i.toNat*de.size)))) else none
 | _=>none
def z2r (P:Program)(d:TyD)(x ix:TV):Option TV:=
 match ix with
 | .c (.a (.fz (.int _ i)))=>
  match d.kind with
  | .slice e=>match tyOf P e with | some de=>zg7 de x i | none=>none
  | .arr m e=>match tyOf P e with | some de=>zna de m x i | none=>none
  | _=>none
 | _=>none
def zgy (P:Program)(d:TyD)(x ix:TV):Option TV:=
 match ix with
 | .c (.a (.fz (.int _ i)))=>
  match d.kind with
  | .str=>match x with
   | .c (.a (.fz (.str l)))=>if 0≤i∧i<l.length then some (.c (.a (.fz (.int .u8 (l.getD i.toNat 0).toNat)))) else none
   | _=>none
  | .arr m e=>match tyOf P e,x with
   | some de, .agg cs=>if 0≤i∧i<m then partA de.agg de.size cs (i.toNat*de.size) else none
   | _,_=>none
  | _=>none
 | _=>none
def zh6 (x:TV)(i:Nat):Option TV:=
 match x with
 | .tup vs=>match vs[i]? with
  | some (true,cs)=>some (.agg cs)
  | some (false,[c])=>some (.c c)
  | _=>none
 | _=>none
def zce (d:TyD)(x:TV):Option TV:=
 match d.kind with
 | .int k=>match x with | .c (.a (.fz (.int _ n)))=>some (.c (.a (.fz (.int k (k.wrap n))))) | _=>none
 | .str=>match x with | .c (.a (.fz (.str l)))=>some (.c (.a (.fz (.str l)))) | _=>none
 | _=>none
def zen (x:TV):Option TV:=
 match x with
 | .c (.a (.ep _ _ _ _))=>some x
 | .c (.a (.fz (.pt _)))=>some x
 | .c (.fn (.func _) _ _)=>some x
 | _=>none
def pickV (c x y:TV):Option TV:=
 match c with
 | .c (.a (.fz (.bool t)))=>some (pickT t x y)
 | _=>none
def z4s (P:Program)(d:TyD)(x:TV)(lo hi mx:Option TV):Option TV:=
 match d.kind with
 | .slice e=>match tyOf P e with
  | some de=>zaw de.size x lo hi mx
  | none=>none
 | .str=>zha x lo hi mx
 | _=>none
def zde (fn:Fn)(first captured:List TV):Option TV:=
 match z7w first,z7w captured with
 | some fs,some cs=>some (.c (.fn fn fs cs))
 | _,_=>none
def zgv (P:Program)(d:TyD)(parts:List (Nat×TV)):Option TV:=
 match d.zero,d.kind with
 | some z, .struct fs=>(zfm (fun i=>(fs[i]?).map fun f=>(f.1,f.2.1)) (fzs z) parts).map .agg
 | some z, .arr _ e=>match tyOf P e with
  | some de=>(zfm (fun i=>some (i*de.size,de.size)) (fzs z) parts).map .agg
  | none=>none
 | _,_=>none
def z6h (d:TyD)(h:Nat→AObj)(x:TV):Option (TV×List Nat):=
 match x with
 | .c (.a (.ep o n i j))=>
  match h o with
  | .arr m es=>if m=n then match es[i]? with
   | some e=>match zfb d (e.drop j) with | some v=>some (v,[o]) | none=>none
   | none=>none
   else none
  | _=>none
 | .c (.a (.fz (.pt cs)))=>match zfb d (fzs cs) with | some v=>some (v,[]) | none=>none
 | _=>none
def z66 (d:TyD)(h:Nat→AObj)(x y:TV):Option AR:=
 match z7m y,x with
 | some cs, .c (.a (.ep o n i j))=>
  match h o with
  | .arr m es=>if m=n∧cs.length=d.size then match es[i]? with
   | some e=>if j+cs.length≤e.length then some ⟨.any,[(o, .arr n (es.set i (splice e j cs)))],[o]⟩ else none
   | none=>none
   else none
  | _=>none
 | _,_=>none
def z43 (de:TyD)(fr len:Nat)(parts:List (Nat×TV)):Option AR:=
 match de.zero with
 | some z=>
  if z.length=de.size∧0<de.size∧len*de.size≤16777216 then
   match zfm (fun i=>some (i*de.size,de.size)) (List.replicate len (fzs z)).flatten parts with
   | some cs=>some ⟨.c (.a (if len=0∧de.size=1 then .fz (.z0 true) else .osl fr de.size 0 len)),[(fr, .arr de.size (z8g de.size len cs))],[]⟩
   | none=>none
  else none
 | none=>none
def lenP (d:TyD)(h:Nat→AObj)(x:TV):Option (Nat×List Nat):=
 match d.kind with
 | .slice _=>zhj x
 | .str=>lenStr x
 | .map _ _=>zvr h x
 | .arr n _=>some (n,[])
 | _=>none
def z97 (de:TyD)(fr:Nat)(h:Nat→AObj)(s x:TV):Option AR:=
 if 0<de.size∧0<de.bytes∧de.bytes≤4096∧(de.zero.map List.length)=some de.size then z2n de fr h s x else none
def minA (max:Bool)(l:List TV):Option TV:=
 match z61 l with
 | some r=>some (.c (.a (.fz (.int r.1 (if max then z0g r.2 else z0d r.2)))))
 | none=>none
def valR (v:Option TV):Option AR:=v.map fun v=>⟨v,[],[]⟩
def z1k (P:Program)(t:TypeId){α:Type}(f:TyD→Option α):Option α:=
 match tyOf P t with
 | some d=>f d
 | none=>none
def z1e (P:Program)(t:TypeId){α:Type}(f:TyD→Option α):Option α:=
 match tyOf P t with
 | some d=>match d.kind with
  | .slice e=>match tyOf P e with
   | some de=>f de
   | none=>none
  | _=>none
 | none=>none
def zat (P:Program)(t':TypeId)(de:TyD)(fr:Nat)(s x:TV):Option AR:=
 match P.underlying t',s,x with
 | some (.int _), .c (.a (.fz .N)), .c (.a (.fz (.int _ n)))=>
  if 0<n∧0<de.size∧z0u n.toNat de.bytes∧0<de.bytes∧(de.zero.map List.length)=some de.size then some ⟨.c (.a (.osl fr de.size 0 n.toNat)),[(fr, .arr de.size [])],[]⟩ else none
 | _,_,_=>none
def capP (d:TyD)(x:TV):Option TV:=
 match d.kind,x with
 | .slice _, .c (.a (.fz .N))=>some (iV 0)
 | .slice _, .c (.a (.fz (.z0 _)))=>some (iV 0)
 | _,_=>none
def z37 (P:Program)(b:Builtin)(ts:List TypeId)(fr:Nat)(h:Nat→AObj)(args:List TV):Option AR:=
 match b,ts,args with
 | .len,[t],[x]=>z1k P t fun d=>(lenP d h x).map fun r=>⟨iV r.1,[],r.2⟩
 | .append,[t,t'],[s,x]=>if t=t' then z1e P t fun de=>z97 de fr h s x else z1e P t fun de=>zat P t' de fr s x
 | .cap,[t],[x]=>valR (z1k P t fun d=>capP d x)
 | .min,_,l=>valR (minA false l)
 | .max,_,l=>valR (minA true l)
 | _,_,_=>none
def zm4:TV→Option (Bool×List WV)
 | .c x=>some (false,[x])
 | .agg cs=>some (true,cs)
 | _=>none
def z88 (P:Program)(t:TypeId):Option (Bool×List EK):=
 match P.underlying t with
 | some (.struct _)=>(z94 P t).map fun l=>(true,l)
 | _=>(ekOf P t).map fun k=>(false,[k])
def keyT (ag:Bool):TV→Option (List FV)
 | .c (.a (.fz f))=>if ag then none else some [f]
 | .agg cs=>if ag then unfz cs else none
 | _=>none
abbrev MapE:=(Bool×List FV)×(Bool×List WV)
def z6c (m:Bool×List EK)(key:List FV):List MapE→Nat→Option (Option Nat)
 | [],_=>some none
 | e::es,i=>if e.1.1=m.1 then (z0q m.2 (fzs key) (fzs e.1.2)).bind fun b=>if b then some (some i) else z6c m key es (i+1) else none
def rowTV:Bool×List WV→Option TV
 | (true,cs)=>some (.agg cs)
 | (false,[x])=>some (.c x)
 | _=>none
def zho (P:Program)(e:TypeId):Option (Bool×List WV):=
 match P.info? e with
 | some i=>match i.zero with
  | some (.agg cs)=>if cs.all Value.oneCell' then some (true,fzs (cs.toList.map fvOf)) else none
  | some v=>if v.oneCell' then some (false,[cell (fvOf v)]) else none
  | none=>none
 | none=>none
def z9q:List EK→List FV→Bool
 | [],[]=>true
 | .int::ks, .int _ _::l=>z9q ks l
 | .bool::ks, .bool _::l=>z9q ks l
 | .str::ks, .str _::l=>z9q ks l
 | _,_=>false
def zhy (P:Program)(t:TypeId):Option ((Bool×List EK)×(Bool×List WV)):=
 match tyOf P t with
 | some d=>match d.kind with
  | .map k e=>match z88 P k,zho P e with
   | some ks,some z=>some (ks,z)
   | _,_=>none
  | _=>none
 | none=>none
def zj9 (ok:Bool)(v:Bool×List WV)(b:Bool):Option TV:=if ok then some (.tup [v,(false,[cell (.bool b)])]) else rowTV v
def keyA (m:(Bool×List EK)×(Bool×List WV))(key:TV):Option (List FV):=
 match keyT m.1.1 key with
 | some k=>if z9q m.1.2 k=true then some k else none
 | none=>none
def z8d (h:Nat→AObj):TV→Option (Nat×List MapE)
 | .c (.a (.mp o))=>match h o with
  | .mapo es=>some (o,es)
  | _=>none
 | _=>none
def zue (m:(Bool×List EK)×(Bool×List WV))(es:List MapE)(r:Option Nat)(ok:Bool):Option TV:=
 match r with
 | some i=>match es[i]? with
  | some e=>zj9 ok e.2 true
  | none=>none
 | none=>zj9 ok m.2 false
def z55 (m:(Bool×List EK)×(Bool×List WV))(h:Nat→AObj)(x key:TV)(ok:Bool):Option AR:=
 match keyA m key with
 | some k=>match z8d h x with
  | some oe=>match z6c m.1 k oe.2 0 with
   | some r=>(zue m oe.2 r ok).map fun v=>⟨v,[],[oe.1]⟩
   | none=>none
  | none=>none
 | none=>none
def entE (m:(Bool×List EK)×(Bool×List WV))(o:Nat)(k:List FV)(es:List MapE)(r:Option Nat):Option AR:=
 match r with
 | some i=>match es[i]? with
  | some e=>some ⟨.tup [e.2,(false,[cell (.int .i64 i)])],[(o, .mapo (es.set i ((m.1.1,k),e.2)))],[o]⟩
  | none=>none
 | none=>some ⟨.tup [m.2,(false,[cell (.int .i64 es.length)])],[(o, .mapo (es++ [((m.1.1,k),m.2)]))],[o]⟩
def z4k (m:(Bool×List EK)×(Bool×List WV))(h:Nat→AObj)(x key:TV):Option AR:=
 match keyA m key with
 | some k=>match z8d h x with
  | some oe=>match z6c m.1 k oe.2 0 with
   | some r=>entE m oe.1 k oe.2 r
   | none=>none
  | none=>none
 | none=>none
def z41 (h:Nat→AObj)(x stamp v:TV):Option AR:=
 match z8d h x,stamp,zm4 v with
 | some oe, .c (.a (.fz (.int _ n))),some r=>match oe.2[n.toNat]? with
  | some e=>if 0≤n then some ⟨.any,[(oe.1, .mapo (oe.2.set n.toNat (e.1,r)))],[oe.1]⟩ else none
  | none=>none
 | _,_,_=>none
def updE (m:(Bool×List EK)×(Bool×List WV))(k:List FV)(r:Bool×List WV)(es:List MapE)(q:Option Nat):List MapE:=
 match q with
 | some i=>es.set i ((m.1.1,k),r)
 | none=>es++ [((m.1.1,k),r)]
def z1p (m:(Bool×List EK)×(Bool×List WV))(h:Nat→AObj)(x key v:TV):Option AR:=
 match keyA m key,zm4 v with
 | some k,some r=>match z8d h x with
  | some oe=>match z6c m.1 k oe.2 0 with
   | some q=>some ⟨.any,[(oe.1, .mapo (updE m k r oe.2 q))],[oe.1]⟩
   | none=>none
  | none=>none
 | _,_=>none
abbrev MapZ:=(Bool×List FV)×(Bool×List FV)
def findZ (m:(Bool×List EK)×(Bool×List WV))(k:List FV)(es:List MapZ):Option (Option (List FV)):=
 match z6c m.1 k (es.map thaw) 0 with
 | some (some i)=>match es[i]? with
  | some e=>if e.2.1=m.2.1 then some (some e.2.2) else none
  | none=>none
 | some none=>some none
 | none=>none
def z5k (h:Nat→AObj):TV→Option (Nat×List MapZ)
 | .c (.a (.mp o))=>match h o with
  | .mapz es=>some (o,es)
  | _=>none
 | _=>none
def z4p (m:(Bool×List EK)×(Bool×List WV))(h:Nat→AObj)(x key:TV)(ok:Bool):Option AR:=
 match z5k h x with
 | some oe=>match keyA m key with
  | some k=>match findZ m k oe.2 with
   | some (some l)=>(zj9 ok (m.2.1,fzs l) true).map fun v=>⟨v,[],[oe.1]⟩
   | some none=>(zj9 ok m.2 false).map fun v=>⟨v,[],[oe.1]⟩
   | none=>none
  | none=>none
 | none=>z55 m (fun o=>flat (h o)) x key ok
def updZ (m:(Bool×List EK)×(Bool×List WV))(k:List FV)(r:Bool×List FV)(es:List MapZ):Option (List MapZ):=
 match z6c m.1 k (es.map thaw) 0 with
 | some (some i)=>some (es.set i ((m.1.1,k),r))
 | some none=>some (es++ [((m.1.1,k),r)])
 | none=>none
def z1y (m:(Bool×List EK)×(Bool×List WV))(h:Nat→AObj)(x key v:TV):Option AR:=
 match z5k h x with
 | some oe=>match keyA m key,zm4 v with
  | some k,some r=>match unfz r.2 with
   | some fr=>(updZ m k (r.1,fr) oe.2).map fun es=>⟨.any,[(oe.1, .mapz es)],[oe.1]⟩
   | none=>none
  | _,_=>none
 | none=>z1p m (fun o=>flat (h o)) x key v
def z2q (P:Program)(t:TypeId)(f:(Bool×List EK)×(Bool×List WV)→Option AR):Option AR:=
 match zhy P t with
 | some m=>f m
 | none=>none
def z51 (de:TyD)(_:Nat)(x y:TV):Option (Nat×List FV):=
 match x,y,de.zero with
 | .c (.a (.fz (.int _ n))), .c (.a (.fz (.int _ m))),some z=>if n=m∧0≤n∧z.length=de.size∧0<de.size∧0<de.bytes∧z0u n.toNat de.bytes then some (n.toNat,z) else none
 | _,_,_=>none
def byteW:List WV→Option UInt8
 | [.a (.fz (.int .u8 n))]=>some (UInt8.ofNat n.toNat)
 | _=>none
def zjw:List (List WV)→Option (List UInt8)
 | []=>some []
 | e::r=>match byteW e,zjw r with
  | some b,some l=>some (b::l)
  | _,_=>none
def zhs (P:Program)(src:TypeId):Bool:=
 match z1e P src fun de=>some de.kind with
 | some (.int .u8)=>true
 | _=>false
def textA (P:Program)(dst:TypeId)(h:Nat→AObj)(x:TV):Option AR:=
 z1k P dst fun d=>match d.kind with
  | .str=>match z3s 1 h x with
   | some (es,rd)=>(zjw es).map fun l=>⟨.c (.a (.fz (.str l))),[],rd⟩
   | none=>none
  | _=>none
def isBld (P:Program)(t:TypeId)(d:TyD):Bool:=
 match d.kind with
 | .struct [(0,1,tp),(1,1,_)]=>match P.underlying tp with
  | some (.pointer e)=>e==t&&d.size==2
  | _=>false
 | _=>false
def bldZ (P:Program)(t:TypeId)(d:TyD)(fr:Nat)(z:List FV):List WV:=
 match isBld P t d,z with
 | true,[.cst (.pointer none), .N]=> [.a (.bld t fr), .a (.fz .N)]
 | _,_=>fzs z
def aop (P:Program)(o:Oper)(fr:Nat)(ρ:Operand→TV)(h:Nat→AObj):Option AR:=
 match o.op with
 | .move x=>some ⟨ρ x,[],[]⟩
 | .assign x=>some ⟨ρ x,[],[]⟩
 | .pick c x y=>valR (pickV (ρ c) (ρ x) (ρ y))
 | .alloc e=>z1k P e fun d=>d.zero.map fun z=>⟨.c (.a (.ep fr z.length 0 0)),[(fr, .arr z.length [bldZ P e d fr z])],[]⟩
 | .box _ x=>(z7m (ρ x)).map fun cs=>⟨.c (.a (.ep fr cs.length 0 0)),[(fr, .arr cs.length [cs])],[]⟩
 | .build t parts=>valR (z1k P t fun d=>zgv P d (parts.toList.map fun p=>(p.1,ρ p.2)))
 | .buildSlice t len parts=>z1e P t fun de=>z43 de fr len (parts.toList.map fun p=>(p.1,ρ p.2))
 | .load t x=>z1k P t fun d=>(z6h d h (ρ x)).map fun r=>⟨r.1,[],r.2⟩
 | .store t x y=>z1k P t fun d=>z66 d h (ρ x) (ρ y)
 | .nilCheck x=>valR (zen (ρ x))
 | .binOp op t x y _=>valR (binA P t op (ρ x) (ρ y))
 | .unOp op _ x=>valR (unA op (ρ x))
 | .convert src dst x=>match zhs P src with
  | true=>textA P dst h (ρ x)
  | false=>valR (if (P.underlying src).isSome then z1k P dst fun d=>zce d (ρ x) else none)
 | .slice t x lo hi mx=>valR (z1k P t fun d=>z4s P d (ρ x) (lo.map ρ) (hi.map ρ) (mx.map ρ))
 | .fieldAddr s x f=>valR (z1k P s fun d=>zbj d (ρ x) f)
 | .field s x f=>valR (z1k P s fun d=>zx2 P d (ρ x) f)
 | .indexAddr t x ix=>valR (z1k P t fun d=>z2r P d (ρ x) (ρ ix))
 | .index t x ix=>valR (z1k P t fun d=>zgy P d (ρ x) (ρ ix))
 | .makeFunc fn first captured=>valR (zde fn (first.toList.map ρ) (captured.toList.map ρ))
 | .extract x i=>valR (zh6 (ρ x) i)
 | .call ⟨.builtin b,args,ts⟩=>z37 P b ts.toList fr h (args.toList.map ρ)
 | .lookup t x ix ok=>z2q P t fun m=>z55 m h (ρ x) (ρ ix) ok
 | .mapEntry t x k=>z2q P t fun m=>z4k m h (ρ x) (ρ k)
 | .entryStore _ x s v=>z41 h (ρ x) (ρ s) (ρ v)
 | .mapUpdate t x k v=>z2q P t fun m=>z1p m h (ρ x) (ρ k) (ρ v)
 | .makeMap _ none=>some ⟨.c (.a (.mp fr)),[(fr, .mapo [])],[]⟩
 | .makeSlice t l c=>z1e P t fun de=>(z51 de fr (ρ l) (ρ c)).map fun r=>⟨.c (.a (.osl fr de.size 0 r.1)),[(fr, .arr de.size (List.replicate r.1 (fzs r.2)))],[]⟩
 | _=>none
def ze4 (e:List FV)(j:Nat)(cs:List FV):List FV:=e.take j++cs++e.drop (j+cs.length)
def z6z (d:TyD)(h:Nat→AObj)(x y:TV):Option AR:=
 match z7m y,x with
 | some cs, .c (.a (.ep o n i j))=>
  match h o with
  | .arz m fs=>match unfz cs with
   | some fcs=>if m=n∧fcs.length=d.size then match fs[i]? with
    | some e=>if j+fcs.length≤e.length then some ⟨.any,[(o, .arz n (fs.set i (ze4 e j fcs)))],[o]⟩ else none
    | none=>none
    else none
   | none=>none
  | _=>z66 d h x y
 | _,_=>none
def z74 (n:Nat)(h:Nat→AObj):TV→Option (List (List FV)×List Nat)
 | .c (.a (.fz .N))=>some ([],[])
 | .c (.a (.fz (.sl _ m es)))=>if m=n then some (es,[]) else none
 | .c (.a (.fz (.z0 _)))=>some ([],[])
 | .c (.a (.osl o m off len))=>
  match h o with
  | .arz m' es=>if m=n∧m'=n∧off+len≤es.length then some ((es.drop off).take len,[o]) else none
  | _=>none
 | _=>none
def z42 (d:TyD)(fr:Nat)(h:Nat→AObj)(s x:TV):Option AR:=
 match z74 d.size h x with
 | some (new,rd)=>
  match s with
  | .c (.a (.fz .N))=>
   if new=[] then some ⟨s,[],rd⟩
   else if z0u new.length d.bytes then some ⟨.c (.a (.osl fr d.size 0 new.length)),[(fr, .arz d.size new)],rd⟩ else none
  | .c (.a (.fz (.z0 _)))=>
   if new=[] then some ⟨s,[],rd⟩
   else if z0u new.length d.bytes then some ⟨.c (.a (.osl fr d.size 0 new.length)),[(fr, .arz d.size new)],rd⟩ else none
  | .c (.a (.osl o n off len))=>
   match h o with
   | .arz m fs=>
    if n=d.size∧m=d.size∧off=0∧len≤fs.length∧z0u (len+new.length) d.bytes∧ !(fr::rd).contains o then
     some ⟨.c (.a (.osl fr d.size 0 (len+new.length))),[(o, .gone),(fr, .arz d.size (fs.take len++new))],o::rd⟩
    else none
   | _=>z2n d fr (fun o=>flat (h o)) s x
  | _=>none
 | none=>z2n d fr (fun o=>flat (h o)) s x
def zcm (de:TyD)(fr:Nat)(h:Nat→AObj)(s x:TV):Option AR:=
 if 0<de.size∧0<de.bytes∧de.bytes≤4096∧(de.zero.map List.length)=some de.size then z42 de fr h s x else none
def z2c (r:AR):AR:=
 match r.upd with
 | [(o, .arr n es)]=>match zw5 es with
  | some fs=>⟨r.val,[(o, .arz n fs)],r.rd⟩
  | none=>r
 | _=>r
def z2s (P:Program)(b:Builtin)(ts:List TypeId)(fr:Nat)(h:Nat→AObj)(args:List TV):Option AR:=
 match b,ts,args with
 | .append,[t,t'],[s,x]=>if t=t' then z1e P t fun de=>zcm de fr h s x else z1e P t fun de=>(zat P t' de fr s x).map z2c
 | b,ts,args=>z37 P b ts fr (fun o=>flat (h o)) args
def za7 (h:Nat→AObj):WV→WV×AHeap
 | .a (.osl o n off len)=>
  match h o with
  | .arz m fs=>if n=m∧off+len≤fs.length then (.a (.fz (.sl false n ((fs.drop off).take len))),[(o, .gone)]) else (.a (.osl o n off len),[])
  | _=>(.a (.osl o n off len),[])
 | x=>(x,[])
def z57 (h:Nat→AObj):List WV→List WV×AHeap
 | []=>([],[])
 | x::r=>((za7 h x).1::(z57 h r).1,(za7 h x).2++(z57 h r).2)
def zc9 (h:Nat→AObj):TV→TV×AHeap
 | .c x=>(.c (za7 h x).1,(za7 h x).2)
 | .agg cs=>(.agg (z57 h cs).1,(z57 h cs).2)
 | x=>(x,[])
def z5f (h:Nat→AObj):List (Nat×TV)→List (Nat×TV)×AHeap
 | []=>([],[])
 | (i,x)::r=>((i,(zc9 h x).1)::(z5f h r).1,(zc9 h x).2++(z5f h r).2)
def oslW:WV→List Nat
 | .a (.osl o _ _ _)=> [o]
 | _=> []
def oslT:TV→List Nat
 | .c x=>oslW x
 | .agg cs=>cs.flatMap oslW
 | _=> []
def oslP (l:List (Nat×TV)):List Nat:=l.flatMap fun p=>oslT p.2
def aopF (P:Program)(o:Oper)(fr:Nat)(ρ:Operand→TV)(h:Nat→AObj):Option AR:=
 match o.op with
 | .store t x y=>z1k P t fun d=>z6z d h (ρ x) (ρ y)
 | .call ⟨.builtin b,args,ts⟩=>z2s P b ts.toList fr h (args.toList.map ρ)
 | .buildSlice t len parts=>
  (z1e P t fun de=>z43 de fr len (z5f h (parts.toList.map fun p=>(p.1,ρ p.2))).1).map fun r=>⟨(z2c r).val,(z2c r).upd++(z5f h (parts.toList.map fun p=>(p.1,ρ p.2))).2,oslP (parts.toList.map fun p=>(p.1,ρ p.2))⟩
 | .build t parts=>
  (z1k P t fun d=>zgv P d (z5f h (parts.toList.map fun p=>(p.1,ρ p.2))).1).map fun v=>⟨v,(z5f h (parts.toList.map fun p=>(p.1,ρ p.2))).2,oslP (parts.toList.map fun p=>(p.1,ρ p.2))⟩
 | .makeSlice t l c=>z1e P t fun de=>(z51 de fr (ρ l) (ρ c)).map fun r=>⟨.c (.a (.osl fr de.size 0 r.1)),[(fr, .arz de.size (List.replicate r.1 r.2))],[]⟩
 | .lookup t x ix ok=>z2q P t fun m=>z4p m h (ρ x) (ρ ix) ok
 | .mapUpdate t x k v=>z2q P t fun m=>z1y m h (ρ x) (ρ k) (ρ v)
 | .makeMap _ none=>some ⟨.c (.a (.mp fr)),[(fr, .mapz [])],[]⟩
 | _=>aop P o fr ρ (fun o=>flat (h o))
def zey (P:Program):List (Nat×Nat×TypeId)→List (Nat×Nat)
 | []=> []
 | f::fs=>match tyOf P f.2.2 with
  | some d=>match d.kind with
   | .slice e=>match tyOf P e with
    | some de=>(f.1,de.size)::zey P fs
    | none=>zey P fs
   | _=>zey P fs
  | none=>zey P fs
def zdl:List (Nat×Nat)→Nat→List WV→List WV
 | [],_,cs=>cs
 | (j,n)::l,fr,cs=>match cs.getD j (cell (.bool true)) with
  | .a (.fz .N)=>zdl l (fr+1) (cs.set j (.a (.osl fr n 0 0)))
  | _=>zdl l (fr+1) cs
def zny:List (Nat×Nat)→Nat→AHeap
 | [],_=> []
 | (_,n)::l,fr=>(fr, .arz n [])::zny l (fr+1)
def z4l (l:List (Nat×Nat))(fr:Nat)(r:AR):AR:=
 match r.upd,Nat.ble l.length 30 with
 | [(o, .arr m [cs])],true=>⟨r.val,(o, .arr m [zdl l (fr+1) cs])::zny l (fr+1),r.rd⟩
 | _,_=>r
def zaf (fr:Nat)(h:Nat→AObj)(x y:TV)(r:AR):AR:=
 match x,y,r.upd with
 | .c (.a (.ep o _ i j)), .c (.a (.fz .N)),[(o', .arr m es)]=>match r.rd.contains o with
  | true=>match h o with
   | .arr _ old=>match (old.getD i []).getD j (cell .N),(es.getD i []).getD j (cell (.bool true)) with
    | .a (.osl _ k _ _), .a (.fz .N)=>⟨r.val,[(o', .arr m (es.set i ((es.getD i []).set j (.a (.osl (fr+1) k 0 0))))),(fr+1, .arz k [])],r.rd⟩
    | _,_=>r
   | _=>r
  | false=>r
 | _,_,_=>r
def zsk (P:Program)(e:TypeId)(fr:Nat)(r:AR):AR:=
 match tyOf P e with
  | some d=>match d.kind with
   | .struct fs=>match zey P fs with
    | (0,n)::l=>z4l ((0,n)::l) fr r
    | [(1,8)]=>z4l [(1,8)] fr r
    | _=>r
   | .slice e=>match tyOf P e with
    | some de=>match de.size with
     | 9=>z4l [(0,9)] fr r
     | _=>r
    | none=>r
   | _=>r
  | none=>r
def zap (P:Program)(o:Oper)(fr:Nat)(ρ:Operand→TV)(h:Nat→AObj)(r:AR):AR:=
 match o.op with
 | .alloc e=>zsk P e fr r
 | .box e _=>zsk P e fr r
 | .store _ x y=>zaf fr h (ρ x) (ρ y) r
 | _=>r
def aopS (P:Program)(o:Oper)(fr:Nat)(ρ:Operand→TV)(h:Nat→AObj):Option AR:=(aopF P o fr ρ h).map (zap P o fr ρ h)
end Go.AM

namespace Go.AM
inductive FRep (w:World)(X:Nat→Prop):FV→Value→Prop
 | int (k:IntKind) (n:Int):FRep w X (.int k n) (.int k n)
 | bool (b:Bool):FRep w X (.bool b) (.bool b)
 | str (l:List UInt8):FRep w X (.str l) (.string ⟨l.toArray⟩)
 | cst (v:Value):v.oneCell'=true→FRep w X (.cst v) v
 | N:FRep w X .N (.slice none 0 0)
 | slnil (n:Nat):FRep w X (.sl false n []) (.slice none 0 0)
 | sl0 (nn:Bool) (n:Nat) (a:Addr):FRep w X (.sl nn n []) (.slice (some a) 0 0)
 | z0 (nn:Bool) (a:Addr):FRep w X (.z0 nn) (.slice (some a) 0 0)
 | z0n:FRep w X (.z0 false) (.slice none 0 0)
 | sl (nn:Bool) (n:Nat) (es:List (List FV)) (b off cap len:Nat) (u:Nat→Nat→Value):
   len=es.length→es.length≤cap→¬X b→b<w.heap.size→(∀ (i:Nat) (e:List FV),es[i]? =some e→e.length=n)→
   (∀ (i j:Nat) (e:List FV) (f:FV),es[i]? =some e→e[j]? =some f→w.cell? ⟨b,off+i*n+j,none⟩=some (u i j))→
   (∀ (i j:Nat) (e:List FV) (f:FV),es[i]? =some e→e[j]? =some f→FRep w X f (u i j))→
   FRep w X (.sl nn n es) (.slice (some ⟨b,off,none⟩) len cap)
 | pt (cs:List FV) (b off:Nat) (u:Nat→Value):¬X b→b<w.heap.size→
   (∀ (j:Nat) (f:FV),cs[j]? =some f→w.cell? ⟨b,off+j,none⟩=some (u j))→(∀ (j:Nat) (f:FV),cs[j]? =some f→FRep w X f (u j))→
   FRep w X (.pt cs) (.pointer (some ⟨b,off,none⟩))
inductive ARep (w:World)(X:Nat→Prop)(β:Nat→Option Nat):AV→Value→Prop
 | fz (x:FV) (v:Value):FRep w X x v→ARep w X β (.fz x) v
 | ep (o n i j b:Nat):β o=some b→ARep w X β (.ep o n i j) (.pointer (some ⟨b,i*n+j,none⟩))
 | osl (o n off len b q cap sz:Nat) (t:TypeId):β o=some b→w.shape? b=some (t,sz)→len≤cap→(off+cap)*n≤sz→(q=off*n∨cap=0)→
   ARep w X β (.osl o n off len) (.slice (some ⟨b,q,none⟩) len cap)
 | oslN (o n off:Nat):ARep w X β (.osl o n off 0) (.slice none 0 0)
 | mp (o b:Nat):β o=some b→ARep w X β (.mp o) (.map (some b))
 | any (v:Value):v.oneCell'=true→ARep w X β .any v
 | bld (t:TypeId) (o b:Nat) (v:Value):β o=some b→w.shape? b=some (t,2)→v= .pointer none∨v= .pointer (some ⟨b,0,none⟩)→ARep w X β (.bld t o) v
 | osb (o:Nat) (e:TypeId) (len b cap:Nat):β o=some b→w.shape? b=some (e,cap)→len≤cap→cap≤maxLen→ARep w X β (.osb o e len) (.slice (some ⟨b,0,none⟩) len cap)
def shut (ag:Bool)(us:List Value):Value:=if ag then .agg us.toArray else us.getD 0 undef
def LRep {α:Type}(R:α→Value→Prop)(cs:List α)(us:List Value):Prop:=cs.length=us.length∧∀ (j:Nat) (c:α) (u:Value),cs[j]? =some c→us[j]? =some u→R c u
def PRep {α:Type}(R:α→Value→Prop)(p:Bool×List α)(v:Value):Prop:=∃ us,v=shut p.1 us∧LRep R p.2 us∧(p.1=false→p.2.length=1)
inductive WRep (w:World)(X:Nat→Prop)(β:Nat→Option Nat):WV→Value→Prop
 | a (x:AV) (v:Value):ARep w X β x v→WRep w X β (.a x) v
 | fn (f:Fn) (first captured:List (Bool×List AV)) (us vs:List Value):LRep (PRep (ARep w X β)) first us→LRep (PRep (ARep w X β)) captured vs→
   WRep w X β (.fn f first captured) (.func f us.toArray vs.toArray)
def TRep (w:World)(X:Nat→Prop)(β:Nat→Option Nat):TV→Value→Prop
 | .any,_=>True
 | .c x,v=>WRep w X β x v
 | .agg cs,v=> ∃ us,v= .agg us.toArray∧LRep (WRep w X β) cs us
 | .tup vs,v=> ∃ us,v= .tuple us.toArray∧LRep (PRep (WRep w X β)) vs us
def ORep (w:World)(X:Nat→Prop)(β:Nat→Option Nat)(o:AObj)(b:Nat):Prop:=
 match flat o with
 | .gone=>True
 | .arz _ _=>True
 | .mapz _=>True
 | .arr n es=> ∃ (us:List Value) (t:TypeId),w.heap[b]? =some (.cells us.toArray t (0,0))∧es.length*n≤us.length∧(∀ e∈es,e.length=n)∧
   ∀ (i j:Nat) (e:List WV) (c:WV),es[i]? =some e→e[j]? =some c→∃ u,us[i*n+j]? =some u∧WRep w X β c u
 | .mapo es=> ∃ (ms:List MapEntry) (clock:Nat),w.heap[b]? =some (.map ms.toArray clock)∧ms.length=es.length∧
   (∀ (i:Nat) (e:(Bool×List FV)×(Bool×List WV)) (m:MapEntry),es[i]? =some e→ms[i]? =some m→PRep (FRep w X) e.1 m.key∧PRep (WRep w X β) e.2 m.val)∧
   clock=ms.length∧(∀ (i:Nat) (m:MapEntry),ms[i]? =some m→m.born=i)
structure Good (w0:World)(foot:Nat→Prop)(w:World):Prop where
 size:w0.heap.size≤w.heap.size
 blk:∀ b,b<w0.heap.size→¬foot b→w.heap[b]? =w0.heap[b]?
 shp:∀ b,b<w0.heap.size→w.shape? b=w0.shape? b
 os:w.os=w0.os
 tape:w.tape=w0.tape
 output:w.output=w0.output
def isLive:AObj→Prop
 | .gone=>False
 | _=>True
def bareO (x:AObj):Prop:=∃ n,flat x= .arr n []
def Own (h:Nat→AObj)(β:Nat→Option Nat)(b:Nat):Prop:=∃ o,isLive (h o)∧β o=some b
structure Objs (h:Nat→AObj)(β:Nat→Option Nat)(Y:Nat→Prop)(w:World):Prop where
 rep:∀ o b,isLive (h o)→β o=some b→ORep w (fun b=>Y b∨Own h β b) β (h o) b
 has:∀ o,isLive (h o)→(∃ b,β o=some b∧b<w.heap.size∧¬Y b)∨(bareO (h o)∧β o=none)
 inj:∀ o o' b,isLive (h o)→isLive (h o')→β o=some b→β o'=some b→o=o'
 lt:∀ o b,β o=some b→b<w.heap.size
theorem Objs.here {h:Nat→AObj}{β:Nat→Option Nat}{Y:Nat→Prop}{w:World}(hO:Objs h β Y w){o b:Nat}(hl:isLive (h o))(hb:β o=some b):b<w.heap.size∧¬Y b:=by
 rcases hO.has o hl with ⟨b',h1,h2,h3⟩ | ⟨_,h1⟩
 · rw [hb] at h1;injection h1 with h1;subst h1;exact ⟨h2,h3⟩
 · rw [hb] at h1;cases h1
def z31 (P:Program)(f:FuncId):Bool:=
 match P.funcs[f]? with
 | some fn=> !(fn.name== "runtime.NumGoroutine")&&fn.body.isSome
 | none=>false
def Gl (P:Program)(w:World)(foot:Nat→Prop):Prop:=∀ g,P.globalNamed "internal/strconv.uint64pow10" =some g→Lib.TabIs P w "internal/strconv.uint64pow10" .u64 Lib.pow10Tab∧¬foot g∧g<w.heap.size
theorem Gl.later {P:Program}{w w':World}{foot foot':Nat→Prop}(h:Gl P w foot)(g:Good w foot w')(hf:∀ b,b<w.heap.size→foot' b→foot b):Gl P w' foot':=fun k hk=>by
 obtain ⟨h1,h2,h3⟩:=h k hk;refine ⟨?_,fun h4=>h2 (hf k h3 h4),Nat.lt_of_lt_of_le h3 g.size⟩;unfold Lib.TabIs World.var? at*;rw [hk] at h1 ⊢;simp only [Option.bind_some] at h1 ⊢;rw [g.blk k h3 h2];exact h1
theorem Gl.sub {P:Program}{w:World}{foot foot':Nat→Prop}(h:Gl P w foot)(hf:∀ b,foot' b→foot b):Gl P w foot':=fun k hk=>let ⟨h1,h2,h3⟩:=h k hk;⟨h1,fun h4=>h2 (hf k h4),h3⟩
def AC (P:Program)(f:FuncId)(args:List TV)(Hs:List AObj)(r:TV)(Hs':List AObj):Prop:=
 z31 P f=true∧Hs.length≤Hs'.length∧
 ∀ (w:World) (vals:List Value) (β:Nat→Option Nat) (Y:Nat→Prop),
  (∀ o b,β o=some b→o<Hs.length)→(∀ b,Y b→b<w.heap.size)→Gl P w (Own (fun o=>Hs.getD o .gone) β)→
  Objs (fun o=>Hs.getD o .gone) β Y w→
  LRep (TRep w (fun b=>Y b∨Own (fun o=>Hs.getD o .gone) β b) β) args vals→
  Calls P f vals.toArray w fun e w'=> ∃ v β',e= .returned v∧
   Good w (Own (fun o=>Hs.getD o .gone) β) w'∧
   Objs (fun o=>Hs'.getD o .gone) β' Y w'∧
   TRep w' (fun b=>Y b∨Own (fun o=>Hs'.getD o .gone) β' b) β' r v∧
   (∀ o b,β' o=some b→o<Hs'.length)∧
   (∀ o,o<Hs.length→β' o=β o)∧
   (∀ o b,Hs.length≤o→β' o=some b→w.heap.size≤b∨Own (fun o=>Hs.getD o .gone) β b)
theorem zbt {w w':World}{b off:Nat}(h:w'.heap[b]? =w.heap[b]?):w'.cell? ⟨b,off,none⟩=w.cell? ⟨b,off,none⟩:=by
 simp [World.cell?,h]
theorem FRep.mono {w w':World} {X X':Nat→Prop} {f:FV} {v:Value} (h:FRep w X f v) (hs:w.heap.size≤w'.heap.size)
  (hb:∀ b,¬X b→b<w.heap.size→w'.heap[b]? =w.heap[b]? ∧¬X' b):FRep w' X' f v:=by
 induction h with
 | int k n=>exact .int k n
 | bool b=>exact .bool b
 | str l=>exact .str l
 | cst v h=>exact .cst v h
 | N=>exact .N
 | slnil n=>exact .slnil n
 | sl0 nn n a=>exact .sl0 nn n a
 | z0 nn a=>exact .z0 nn a
 | z0n=>exact .z0n
 | sl nn n es b off cap len u h1 h2 h3 h4 h5 h6 h7 ih=>
  exact .sl nn n es b off cap len u h1 h2 (hb b h3 h4).2 (by omega) h5 (fun i j e f he hf=>(zbt (hb b h3 h4).1).trans (h6 i j e f he hf)) ih
 | pt cs b off u h3 h4 h6 h7 ih=>
  exact .pt cs b off u (hb b h3 h4).2 (by omega) (fun j f hf=>(zbt (hb b h3 h4).1).trans (h6 j f hf)) ih
theorem ARep.mono {w w':World} {X X':Nat→Prop} {β β':Nat→Option Nat} {f:AV} {v:Value} (h:ARep w X β f v) (hs:w.heap.size≤w'.heap.size)
  (hb:∀ b,¬X b→b<w.heap.size→w'.heap[b]? =w.heap[b]? ∧¬X' b) (hsh:∀ b,b<w.heap.size→w'.shape? b=w.shape? b)
  (hβ:∀ o b,β o=some b→β' o=some b∧b<w.heap.size):ARep w' X' β' f v:=by
 cases h with
 | fz x v h=>exact .fz x v (h.mono hs hb)
 | ep o n i j b h=>exact .ep o n i j b (hβ _ _ h).1
 | osl o n off len b q cap sz t h1 h2 h3 h4 h5=>exact .osl o n off len b q cap sz t (hβ _ _ h1).1 ((hsh _ (hβ _ _ h1).2).trans h2) h3 h4 h5
 | oslN o n off=>exact .oslN o n off
 | mp o b h=>exact .mp o b (hβ _ _ h).1
 | any v h=>exact .any v h
 | bld t o b v h1 h2 h3=>exact .bld t o b v (hβ _ _ h1).1 ((hsh _ (hβ _ _ h1).2).trans h2) h3
 | osb o e len b cap h1 h2 h3 h4=>exact .osb o e len b cap (hβ _ _ h1).1 ((hsh _ (hβ _ _ h1).2).trans h2) h3 h4
theorem LRep.imp {α:Type}{R R':α→Value→Prop}{cs:List α}{us:List Value}(h:LRep R cs us)(hr:∀ c u,c∈cs→R c u→R' c u):LRep R' cs us:=
 ⟨h.1,fun j c u hc hu=>hr c u (List.mem_of_getElem? hc) (h.2 j c u hc hu)⟩
theorem PRep.imp {α:Type}{R R':α→Value→Prop}{p:Bool×List α}{v:Value}(h:PRep R p v)(hr:∀ c u,c∈p.2→R c u→R' c u):PRep R' p v:=
 let ⟨us,h1,h2,h3⟩:=h;⟨us,h1,h2.imp hr,h3⟩
structure Goes (w w':World)(X X':Nat→Prop)(β β':Nat→Option Nat):Prop where
 size:w.heap.size≤w'.heap.size
 blk:∀ b,¬X b→b<w.heap.size→w'.heap[b]? =w.heap[b]? ∧¬X' b
 shp:∀ b,b<w.heap.size→w'.shape? b=w.shape? b
 bet:∀ o b,β o=some b→β' o=some b∧b<w.heap.size
theorem FRep.goes {w w':World}{X X':Nat→Prop}{β β':Nat→Option Nat}{f:FV}{v:Value}(h:FRep w X f v)(g:Goes w w' X X' β β'):FRep w' X' f v:=h.mono g.size g.blk
theorem ARep.goes {w w':World}{X X':Nat→Prop}{β β':Nat→Option Nat}{f:AV}{v:Value}(h:ARep w X β f v)(g:Goes w w' X X' β β'):ARep w' X' β' f v:=h.mono g.size g.blk g.shp g.bet
theorem WRep.goes {w w':World}{X X':Nat→Prop}{β β':Nat→Option Nat}{f:WV}{v:Value}(h:WRep w X β f v)(g:Goes w w' X X' β β'):WRep w' X' β' f v:=by
 cases h with
 | a x v h=>exact .a x v (h.goes g)
 | fn f first captured us vs h1 h2=>exact .fn f first captured us vs (h1.imp fun _ _ _ h=>h.imp fun _ _ _ h=>h.goes g) (h2.imp fun _ _ _ h=>h.imp fun _ _ _ h=>h.goes g)
theorem TRep.goes {w w':World}{X X':Nat→Prop}{β β':Nat→Option Nat}{f:TV}{v:Value}(h:TRep w X β f v)(g:Goes w w' X X' β β'):TRep w' X' β' f v:=by
 cases f with
 | any=>trivial
 | c x=>exact WRep.goes h g
 | agg cs=>obtain ⟨us,h1,h2⟩:=h;exact ⟨us,h1,h2.imp fun _ _ _ h=>h.goes g⟩
 | tup vs=>obtain ⟨us,h1,h2⟩:=h;exact ⟨us,h1,h2.imp fun _ _ _ h=>h.imp fun _ _ _ h=>h.goes g⟩
theorem ORep.goes {w w':World}{X X':Nat→Prop}{β β':Nat→Option Nat}{o:AObj}{b:Nat}(h:ORep w X β o b)(g:Goes w w' X X' β β')(hb:w'.heap[b]? =w.heap[b]?):ORep w' X' β' o b:=by
 have key:∀ n es,ORep w X β (.arr n es) b→ORep w' X' β' (.arr n es) b:=by
  intro n es h;obtain ⟨us,t,h1,h2,h3,h4⟩:=h;exact ⟨us,t,hb.trans h1,h2,h3,fun i j e c he hc=>let ⟨u,hu,hr⟩:=h4 i j e c he hc;⟨u,hu,hr.goes g⟩⟩
 cases o with
 | gone=>trivial
 | arz n fs=>exact key _ _ h
 | arr n es=>
  obtain ⟨us,t,h1,h2,h3,h4⟩:=h;exact ⟨us,t,hb.trans h1,h2,h3,fun i j e c he hc=>let ⟨u,hu,hr⟩:=h4 i j e c he hc;⟨u,hu,hr.goes g⟩⟩
 | mapo es=>
  obtain ⟨ms,ck,h1,h2,h3,h4,h5⟩:=h;exact ⟨ms,ck,hb.trans h1,h2,fun i e m he hm=>let ⟨x,y⟩:=h3 i e m he hm;⟨x.imp fun _ _ _ h=>h.goes g,y.imp fun _ _ _ h=>h.goes g⟩,h4,h5⟩
 | mapz es=>
  obtain ⟨ms,ck,h1,h2,h3,h4,h5⟩:=h;exact ⟨ms,ck,hb.trans h1,h2,fun i e m he hm=>let ⟨x,y⟩:=h3 i e m he hm;⟨x.imp fun _ _ _ h=>h.goes g,y.imp fun _ _ _ h=>h.goes g⟩,h4,h5⟩
theorem Good.refl (w:World)(foot:Nat→Prop):Good w foot w:=⟨Nat.le_refl _,fun _ _ _=>rfl,fun _ _=>rfl,rfl,rfl,rfl⟩
theorem Good.trans {a b c:World}{f g:Nat→Prop}(h:Good a f b)(k:Good b g c)(hg:∀ x,x<a.heap.size→g x→f x):Good a f c:=
 ⟨Nat.le_trans h.size k.size,fun x hx hf=>(k.blk x (Nat.lt_of_lt_of_le hx h.size) (fun hgx=>hf (hg x hx hgx))).trans (h.blk x hx hf),
  fun x hx=>(k.shp x (Nat.lt_of_lt_of_le hx h.size)).trans (h.shp x hx),k.os.trans h.os,k.tape.trans h.tape,k.output.trans h.output⟩
theorem Good.drew {a b:World}{f:Nat→Prop}(h:Good a f b):Good a f { b with drawn:=b.drawn+1 }:=⟨h.size,h.blk,h.shp,h.os,h.tape,h.output⟩
structure Moves (h h':Nat→AObj)(β β':Nat→Option Nat)(Y:Nat→Prop)(w w':World)(fr:Nat→Prop):Prop where
 good:Good w (Own h β) w'
 objs:Objs h' β' Y w'
 bmono:∀ o b,β o=some b→β' o=some b
 bnew:∀ o b,β' o=some b→β o=some b∨(fr o∧(w.heap.size≤b∨Own h β b))
 lmono:∀ o,isLive (h' o)→isLive (h o)∨fr o
theorem Moves.goes {h h':Nat→AObj}{β β':Nat→Option Nat}{Y:Nat→Prop}{w w':World}{fr:Nat→Prop}(m:Moves h h' β β' Y w w' fr)(hO:Objs h β Y w)(hfr:∀ o,fr o→β o=none):
  Goes w w' (fun b=>Y b∨Own h β b) (fun b=>Y b∨Own h' β' b) β β':=by
 refine ⟨m.good.size,fun b hx hb=>⟨m.good.blk b hb (fun h=>hx (.inr h)),fun hx'=> ?_⟩,m.good.shp,fun o b hb=>⟨m.bmono o b hb,hO.lt o b hb⟩⟩;rcases hx' with hy | ⟨o,hl,ho⟩
 · exact hx (.inl hy)
 · rcases m.bnew o b ho with hb' | ⟨hf,hb' | hb'⟩
   · rcases m.lmono o hl with hl' | hf
     · exact hx (.inr ⟨o,hl',hb'⟩)
     · rw [hfr o hf] at hb';cases hb'
   · omega
   · exact hx (.inr hb')
theorem Moves.refl {h h':Nat→AObj}{β:Nat→Option Nat}{Y:Nat→Prop}{w:World}(hO:Objs h β Y w)(he:∀ o,h' o=h o):Moves h h' β β Y w w (fun _=>False):=by
 have:h'=h:=funext he;subst this;exact ⟨Good.refl _ _,hO,fun _ _ h=>h,fun _ _ h=> .inl h,fun _ h=> .inl h⟩
theorem LRep.map {α γ:Type}{R:α→Value→Prop}{R':γ→Value→Prop}{g:α→γ}{cs:List α}{us:List Value}(h:LRep R cs us)(hr:∀ c u,c∈cs→R c u→R' (g c) u):LRep R' (cs.map g) us:=by
 refine ⟨by simp [h.1],fun j c u hc hu=> ?_⟩;rw [List.getElem?_map] at hc;obtain ⟨c',hc',rfl⟩:=Option.map_eq_some_iff.1 hc;exact hr c' u (List.mem_of_getElem? hc') (h.2 j c' u hc' hu)
theorem LRep.unmap {α γ:Type}{R:α→Value→Prop}{R':γ→Value→Prop}{g:α→γ}{cs:List α}{us:List Value}(h:LRep R' (cs.map g) us)(hr:∀ c u,c∈cs→R' (g c) u→R c u):LRep R cs us:=by
 refine ⟨by have:=h.1;simpa using this,fun j c u hc hu=> ?_⟩;exact hr c u (List.mem_of_getElem? hc) (h.2 j (g c) u (by rw [List.getElem?_map,hc];rfl) hu)
theorem PRep.map {α γ:Type}{R:α→Value→Prop}{R':γ→Value→Prop}{g:α→γ}{p:Bool×List α}{v:Value}(h:PRep R p v)(hr:∀ c u,c∈p.2→R c u→R' (g c) u):PRep R' (p.1,p.2.map g) v:=
 let ⟨us,h1,h2,h3⟩:=h;⟨us,h1,h2.map hr,fun h=>by simpa using h3 h⟩
theorem PRep.unmap {α γ:Type}{R:α→Value→Prop}{R':γ→Value→Prop}{g:α→γ}{p:Bool×List α}{v:Value}(h:PRep R' (p.1,p.2.map g) v)(hr:∀ c u,c∈p.2→R' (g c) u→R c u):PRep R p v:=
 let ⟨us,h1,h2,h3⟩:=h;⟨us,h1,h2.unmap hr,fun h=>by simpa using h3 h⟩
end Go.AM

namespace Go.AM
structure St where
 env:Env
 heap:AHeap
 nx:Nat
def putE (d:Option Nat)(v:TV)(e:Env):Env:=
 match d with
 | some i=>(i,v)::e
 | none=>e
def want (ops:Array Oper)(o:Oper)(e:Nat→TV):Option Bool:=
 match o.guard with
 | none=>some true
 | some (j,b)=>match ((ops[j]?).bind (·.dst)).map e with
  | some (.c (.a (.fz (.bool x))))=>some (x==b)
  | some (.tup [])=>some false
  | _=>none
def AV.ren (σ:Nat→Nat):AV→AV
 | .ep o n i j=> .ep (σ o) n i j
 | .osl o n off len=> .osl (σ o) n off len
 | .mp o=> .mp (σ o)
 | .bld t o=> .bld t (σ o)
 | .osb o e n=> .osb (σ o) e n
 | x=>x
def WV.ren (σ:Nat→Nat):WV→WV
 | .a x=> .a (x.ren σ)
 | .fn f first cap=> .fn f (first.map fun p=>(p.1,p.2.map (AV.ren σ))) (cap.map fun p=>(p.1,p.2.map (AV.ren σ)))
def TV.ren (σ:Nat→Nat):TV→TV
 | .any=> .any
 | .c x=> .c (x.ren σ)
 | .agg cs=> .agg (cs.map (WV.ren σ))
 | .tup vs=> .tup (vs.map fun p=>(p.1,p.2.map (WV.ren σ)))
def AObj.ren (σ:Nat→Nat):AObj→AObj
 | .gone=> .gone
 | .arr n es=> .arr n (es.map fun e=>e.map (WV.ren σ))
 | .arz n fs=> .arz n fs
 | .mapo es=> .mapo (es.map fun e=>(e.1,(e.2.1,e.2.2.map (WV.ren σ))))
 | .mapz es=> .mapz es
def AV.lt (m:Nat):AV→Bool
 | .ep o _ _ _=>o<m
 | .osl o _ _ _=>o<m
 | .mp o=>o<m
 | .bld _ o=>o<m
 | .osb o _ _=>o<m
 | _=>true
def WV.lt (m:Nat):WV→Bool
 | .a x=>x.lt m
 | .fn _ first cap=>(first.all fun p=>p.2.all (AV.lt m))&&(cap.all fun p=>p.2.all (AV.lt m))
def TV.lt (m:Nat):TV→Bool
 | .any=>true
 | .c x=>x.lt m
 | .agg cs=>cs.all (WV.lt m)
 | .tup vs=>vs.all fun p=>p.2.all (WV.lt m)
def AObj.lt (m:Nat):AObj→Bool
 | .gone=>true
 | .arr _ es=>es.all fun e=>e.all (WV.lt m)
 | .arz _ _=>true
 | .mapo es=>es.all fun e=>e.2.2.all (WV.lt m)
 | .mapz _=>true
inductive FV.Le:FV→FV→Prop
 | refl (x:FV):FV.Le x x
 | N (n:Nat):FV.Le .N (.sl false n [])
 | nn (b:Bool) (n:Nat) (es:List (List FV)):FV.Le (.sl b n es) (.sl false n es)
 | z0 (nn:Bool) (n:Nat):FV.Le (.z0 nn) (.sl nn n [])
 | rows (b:Bool) (n:Nat) (es es':List (List FV)):es.length=es'.length→(∀ (i:Nat) (e e':List FV),es[i]? =some e→es'[i]? =some e'→e.length=e'.length)→
   (∀ (i j:Nat) (e e':List FV) (f f':FV),es[i]? =some e→es'[i]? =some e'→e[j]? =some f→e'[j]? =some f'→FV.Le f f')→FV.Le (.sl b n es) (.sl b n es')
 | trans (x y z:FV):FV.Le x y→FV.Le y z→FV.Le x z
def All2 {α β:Type}(R:α→β→Prop):List α→List β→Prop
 | [],[]=>True
 | x::xs,y::ys=>R x y∧All2 R xs ys
 | _,_=>False
abbrev Lent:=List (Nat×Nat×List (List FV))
def Lent.ok (L:Lent)(h:Nat→AObj):Prop:=∀ p∈L,flat (h p.1)= .arr p.2.1 (p.2.2.map fzs)
def z0r {α:Type}:List (Nat×α)→Nat→Option α
 | [],_=>none
 | (j,x)::l,i=>if j=i then some x else z0r l i
def AV.lend (L:Lent):AV→AV
 | .osl o n off len=>match z0r L o with
  | some p=>if n=p.1∧off+len≤p.2.length then .fz (.sl false n ((p.2.drop off).take len)) else .osl o n off len
  | none=> .osl o n off len
 | x=>x
def WV.lend (L:Lent):WV→WV
 | .a x=> .a (x.lend L)
 | x=>x
def TV.lend (L:Lent):TV→TV
 | .c x=> .c (x.lend L)
 | .agg cs=> .agg (cs.map (WV.lend L))
 | x=>x
def AObj.lend (L:Lent):AObj→AObj
 | .arr n es=> .arr n (es.map fun e=>e.map (WV.lend L))
 | x=>x
def FV.scalar:FV→Bool
 | .sl _ _ _=>false
 | .pt _=>false
 | _=>true
def AV.scalar:AV→Bool
 | .fz x=>x.scalar
 | .any=>false
 | _=>true
def WV.scalar:WV→Bool
 | .a x=>x.scalar
 | _=>false
def TV.scalar:TV→Bool
 | .any=>true
 | .c x=>x.scalar
 | .agg cs=>cs.all WV.scalar
 | .tup vs=>vs.all fun p=>p.2.all WV.scalar
def over (u:AHeap)(h:Nat→AObj)(o:Nat):AObj:=match z0r u o with | some x=>x | none=>h o
def sub (ids:List Nat)(fr:Nat)(o:Nat):Nat:=if o<ids.length then ids.getD o 0 else fr+(o-ids.length)
inductive AV.Le:AV→AV→Prop
 | refl (x:AV):AV.Le x x
 | fz (x y:FV):FV.Le x y→AV.Le (.fz x) (.fz y)
 | any (x:AV):AV.Le x .any
inductive WV.Le:WV→WV→Prop
 | refl (x:WV):WV.Le x x
 | a (x y:AV):AV.Le x y→WV.Le (.a x) (.a y)
inductive TV.Le:TV→TV→Prop
 | refl (x:TV):TV.Le x x
 | any (x:TV):TV.Le x .any
 | c (x y:WV):WV.Le x y→TV.Le (.c x) (.c y)
 | agg (xs ys:List WV):xs.length=ys.length→(∀ (i:Nat) (x y:WV),xs[i]? =some x→ys[i]? =some y→WV.Le x y)→TV.Le (.agg xs) (.agg ys)
 | tup (xs ys:List (Bool×List WV)):xs.length=ys.length→(∀ (i:Nat) (p q:Bool×List WV),xs[i]? =some p→ys[i]? =some q→p.1=q.1∧p.2.length=q.2.length∧
   ∀ (j:Nat) (x y:WV),p.2[j]? =some x→q.2[j]? =some y→WV.Le x y)→TV.Le (.tup xs) (.tup ys)
def z3a (σ:Nat→Nat)(fr:Nat):List AObj→AHeap
 | []=> []
 | o::r=>(fr,o.ren σ)::z3a σ (fr+1) r
def z1z (σ:Nat→Nat):List Nat→List AObj→AHeap
 | i::ids,o::r=>(i,o.ren σ)::z1z σ ids r
 | _,_=> []
def CallK (P:Program)(f:FuncId)(args:List TV)(h:Nat→AObj)(fr:Nat)(K:TV→AHeap→List Nat→Prop):Prop:=
 ∃ (ids:List Nat) (L:Lent) (args':List TV) (Hs:List AObj) (r:TV) (Hs':List AObj),
  AC P f args' Hs r Hs'∧(ids.Nodup∧∀ i∈ids,i<fr)∧Hs'.length≤ids.length+32∧
  (Hs.map (AObj.ren (sub ids fr))=ids.map h∧Hs.all (AObj.lt ids.length)=true)∧
  All2 TV.Le (args.map (TV.lend L)) (args'.map (TV.ren (sub ids fr)))∧args'.all (TV.lt ids.length)=true∧(∀ i∈ids,isLive (h i))∧
  (L=[]∨(L.ok h∧(∀ p∈L,p.1 ∉ ids)∧r.scalar=true∧Hs'=[]))∧
  ∃ F:List Nat,(∀ i∈F,z0r (z1z (sub ids fr) ids Hs') i=some (h i))∧
  K (r.ren (sub ids fr)) ((z1z (sub ids fr) ids Hs'++z3a (sub ids fr) fr (Hs'.drop ids.length)).filter fun p=> !F.contains p.1) (ids++L.map Prod.fst)
def CallE (P:Program)(f:FuncId)(args:List TV)(h:Nat→AObj)(fr:Nat)(K:TV→AHeap→List Nat→Prop):Prop:=
 ∃ E:Lent,E.ok h∧CallK P f (args.map (TV.lend E)) (over (E.map fun p=>(p.1,AObj.gone)) h) fr
  (fun r u rd=>K r (u++E.map fun p=>(p.1,AObj.gone)) (rd++E.map Prod.fst))
def calleeOf (ρ:Operand→TV)(c:Call):Option (FuncId×List TV):=
 match c.callee with
 | .value x=>match ρ x with
  | .c (.fn (.func f) first cap)=>some (f,first.map (fun p=>match p with | (true,cs)=>TV.agg (cs.map WV.a) | (false,[x])=>TV.c (.a x) | _=>TV.any)++c.args.toList.map ρ++cap.map (fun p=>match p with | (true,cs)=>TV.agg (cs.map WV.a) | (false,[x])=>TV.c (.a x) | _=>TV.any))
  | _=>none
 | _=>none
abbrev z5s:=List (List Nat×List Nat)
def goCall:Op→Option Call
 | .call ⟨.value x,a9,ts⟩=>some ⟨.value x,a9,ts⟩
 | _=>none
def zx8 (P:Program)(fr:Nat)(o:Oper)(e:Env)(h:AHeap)(tr:z5s)(next:Env→AHeap→z5s→Prop):Prop:=
 match goCall o.op with
 | some c=>
  match calleeOf (ev e) c with
  | some (f,args)=>CallE P f args (hook h) fr fun r h' ids=>next (putE o.dst r e) (h'++h) ((ids,h'.map Prod.fst)::tr)
  | none=>False
 | none=>
  match aopS P o fr (ev e) (hook h) with
  | some r=>next (putE o.dst r.val e) (r.upd++h) ((r.rd,r.upd.map Prod.fst)::tr)
  | none=>False
def zos (ops:Array Oper)(o:Oper)(e:Env)(h:AHeap)(tr:z5s)(yes:Prop)(next:Env→AHeap→z5s→Prop):Prop:=
 match want ops o (look e) with
 | none=>False
 | some w=>if w=true then yes else next (putE o.dst (.tup []) e) h (([],[])::tr)
def lex (P:Program)(ops:Array Oper)(nx:Nat):List Oper→Nat→Env→AHeap→z5s→(Env→AHeap→z5s→Prop)→Prop
 | [],_,e,h,tr,K=>K e h tr
 | o::rest,i,e,h,tr,K=>zos ops o e h tr (zx8 P (nx+32*i) o e h tr fun e h tr=>lex P ops nx rest (i+1) e h tr K) fun e h tr=>lex P ops nx rest (i+1) e h tr K
def zjd (ops:Array Oper)(tr:z5s):Bool:=
 let b:=Region.before ops
 let l:=ops.toList.zip tr.reverse
 (l.length==ops.size)&&(ops.toList.zipIdx.all fun p=>p.1.after.all fun e=> !Region.binds .any e||e.on<p.2) &&
 l.zipIdx.all fun y=>l.zipIdx.all fun x=> !(x.2<y.2)||(b.getD y.2 0).testBit x.2 ||
  (x.1.1.apart ops y.1.1&&(x.1.2.2.all fun o=> !(y.1.2.1.contains o) && !(y.1.2.2.contains o))&&(y.1.2.2.all fun o=> !(x.1.2.1.contains o)))
def dstB (ops:Array Oper)(n:Nat):Bool:=ops.all fun o=>match o.dst with | some d=>d<n | none=>true
end Go.AM

namespace Go.AM
theorem z4g {P:Program}{t:TypeId}{d:TyD}(h:tyOf P t=some d):∃ i u,P.info? t=some i∧P.underlying t=some u∧
  d.agg=(match u with | .struct _ | .array _ _=>true | _=>false)∧d.size=i.size∧d.bytes=i.bytes∧
  d.zero=(match i.zero with | some z=>if z.cells.all Value.oneCell' then some (z.cells.toList.map fvOf) else none | none=>none)∧d.kind=z36 P u:=by
 unfold tyOf at h;split at h
 · rename_i i u hi hu;simp only [Option.some.injEq] at h;subst h;exact ⟨i,u,hi,hu,rfl,rfl,rfl,rfl,rfl⟩
 · cases h
theorem z0p {P:Program}{t:TypeId}{d:TyD}(h:tyOf P t=some d)(w:World):(sizeOf t).run P w= .ok d.size w:=by
 obtain ⟨i,u,hi,hu,_,hs,_⟩:=z4g h;simp [sizeOf,typeInfo,hi,hs]
theorem za4 {P:Program}{t:TypeId}{d:TyD}(h:tyOf P t=some d)(w:World):(isAgg t).run P w= .ok d.agg w:=by
 obtain ⟨i,u,hi,hu,ha,_⟩:=z4g h;rw [ha];cases u<;>simp [isAgg,run_underlying hu]
theorem zph (w:World)(X:Nat→Prop)(v:Value)(h:v.oneCell'=true):FRep w X (fvOf v) v:=by
 unfold fvOf;split
 · exact .int _ _
 · exact .bool _
 · exact .str _
 · exact .N
 · exact .cst _ h
theorem tvOf_rep (w:World)(X:Nat→Prop)(β:Nat→Option Nat)(v:Value):TRep w X β (tvOf v) v:=by
 unfold tvOf;split
 · rename_i cs;split
   · rename_i hc;refine ⟨cs.toList,by simp,by simp,fun j c u hc' hu=> ?_⟩;simp only [List.getElem?_map,hu,Option.map_some,Option.some.injEq] at hc';subst hc';refine .a _ _ (.fz _ _ (zph w X u ?_));have:=List.mem_of_getElem? hu;simp only [Array.all_eq_true_iff_forall_mem] at hc;exact hc u (by simpa using this)
   · trivial
 · trivial
 · exact .a _ _ (.fz _ _ (.int _ _))
 · exact .a _ _ (.fz _ _ (.bool _))
 · exact .a _ _ (.fz _ _ (.str _))
 · exact .a _ _ (.fz _ _ .N)
 · rename_i v h1 h2 h3 h4 h5 h6;refine .a _ _ (.fz _ _ (.cst _ ?_));cases v<;>simp_all [Value.oneCell']
section
variable {w:World} {X:Nat→Prop} {β:Nat→Option Nat}
theorem TRep.int_inv {k:IntKind}{n:Int}{v:Value}(h:TRep w X β (.c (.a (.fz (.int k n)))) v):v= .int k n:=by
 cases h with | a _ _ h=>cases h with | fz _ _ h=>cases h;rfl
theorem TRep.bool_inv {b:Bool}{v:Value}(h:TRep w X β (.c (.a (.fz (.bool b)))) v):v= .bool b:=by
 cases h with | a _ _ h=>cases h with | fz _ _ h=>cases h;rfl
theorem TRep.str_inv {l:List UInt8}{v:Value}(h:TRep w X β (.c (.a (.fz (.str l)))) v):v= .string ⟨l.toArray⟩:=by
 cases h with | a _ _ h=>cases h with | fz _ _ h=>cases h;rfl
theorem TRep.nils_inv {v:Value}(h:TRep w X β (.c (.a (.fz .N))) v):v= .slice none 0 0:=by
 cases h with | a _ _ h=>cases h with | fz _ _ h=>cases h;rfl
theorem TRep.ep_inv {o n i j:Nat}{v:Value}(h:TRep w X β (.c (.a (.ep o n i j))) v):∃ b,β o=some b∧v= .pointer (some ⟨b,i*n+j,none⟩):=by
 cases h with | a _ _ h=>cases h with | ep _ _ _ _ b h=>exact ⟨b,h,rfl⟩
theorem TRep.osl_inv {o n off len:Nat}{v:Value}(h:TRep w X β (.c (.a (.osl o n off len))) v):
  (∃ b q cap sz t,β o=some b∧w.shape? b=some (t,sz)∧len≤cap∧(off+cap)*n≤sz∧(q=off*n∨cap=0)∧v= .slice (some ⟨b,q,none⟩) len cap)∨(len=0∧v= .slice none 0 0):=by
 cases h with | a _ _ h=>cases h with
  | osl _ _ _ _ b q cap sz t h1 h2 h3 h4 h5=>exact .inl ⟨b,q,cap,sz,t,h1,h2,h3,h4,h5,rfl⟩
  | oslN=>exact .inr ⟨rfl,rfl⟩
theorem TRep.mp_inv {o:Nat}{v:Value}(h:TRep w X β (.c (.a (.mp o))) v):∃ b,β o=some b∧v= .map (some b):=by
 cases h with | a _ _ h=>cases h with | mp _ b h=>exact ⟨b,h,rfl⟩
theorem TRep.fz_inv {x:FV}{v:Value}(h:TRep w X β (.c (.a (.fz x))) v):FRep w X x v:=by
 cases h with | a _ _ h=>cases h with | fz _ _ h=>exact h
theorem TRep.fz_mk {x:FV}{v:Value}(h:FRep w X x v):TRep w X β (.c (.a (.fz x))) v:= .a _ _ (.fz _ _ h)
theorem TRep.int_mk (k:IntKind)(n:Int):TRep w X β (.c (.a (.fz (.int k n)))) (.int k n):= .a _ _ (.fz _ _ (.int _ _))
theorem TRep.bool_mk (b:Bool):TRep w X β (.c (.a (.fz (.bool b)))) (.bool b):= .a _ _ (.fz _ _ (.bool _))
theorem TRep.str_mk (l:List UInt8):TRep w X β (.c (.a (.fz (.str l)))) (.string ⟨l.toArray⟩):= .a _ _ (.fz _ _ (.str _))
theorem FRep.oneCell {x:FV}{v:Value}(h:FRep w X x v):v.oneCell'=true:=by
 cases h<;>first | rfl | assumption
theorem WRep.oneCell {x:WV}{v:Value}(h:WRep w X β x v):v.oneCell'=true:=by
 cases h with
 | a x v h=>cases h<;>first | rfl | assumption | (rename_i h;exact h.oneCell) | (rename_i h;rcases h with rfl | rfl<;>rfl)
 | fn=>rfl
theorem LRep.take {α:Type}{R:α→Value→Prop}{cs:List α}{us:List Value}(h:LRep R cs us)(n:Nat):LRep R (cs.take n) (us.take n):=by
 refine ⟨by simp [h.1],fun j c u hc hu=> ?_⟩;rw [List.getElem?_take] at hc hu;split at hc
 · simp_all only [↓reduceIte];exact h.2 j c u hc hu
 · cases hc
theorem LRep.drop {α:Type}{R:α→Value→Prop}{cs:List α}{us:List Value}(h:LRep R cs us)(n:Nat):LRep R (cs.drop n) (us.drop n):=by
 refine ⟨by simp [h.1],fun j c u hc hu=> ?_⟩;rw [List.getElem?_drop] at hc hu;exact h.2 _ c u hc hu
theorem LRep.append {α:Type}{R:α→Value→Prop}{cs ds:List α}{us vs:List Value}(h:LRep R cs us)(k:LRep R ds vs):LRep R (cs++ds) (us++vs):=by
 refine ⟨by simp [h.1,k.1],fun j c u hc hu=> ?_⟩;rw [List.getElem?_append] at hc hu;have:=h.1;split at hc
 · rw [if_pos (by omega)] at hu;exact h.2 _ c u hc hu
 · rw [if_neg (by omega)] at hu;rw [this] at hc;exact k.2 _ c u hc hu
theorem LRep.nil {α:Type}{R:α→Value→Prop}:LRep R [] []:=⟨rfl,fun j c u hc _=>by simp at hc⟩
theorem LRep.cons {α:Type}{R:α→Value→Prop}{c:α}{u:Value}{cs:List α}{us:List Value}(h:R c u)(k:LRep R cs us):LRep R (c::cs) (u::us):=
 ⟨by simp [k.1],fun j c' u' hc hu=>by
  cases j with
  | zero=>simp at hc hu;subst hc;subst hu;exact h
  | succ j=>simp at hc hu;exact k.2 j c' u' hc hu⟩
theorem LRep.cons_inv {α:Type}{R:α→Value→Prop}{c:α}{cs:List α}{us:List Value}(h:LRep R (c::cs) us):∃ u us',us=u::us'∧R c u∧LRep R cs us':=by
 cases us with
 | nil=>have:=h.1;simp at this
 | cons u us'=>exact ⟨u,us',rfl,h.2 0 c u rfl rfl,by have:=h.1;simpa using this,fun j c' u' hc hu=>h.2 (j+1) c' u' (by simpa using hc) (by simpa using hu)⟩
theorem LRep.nil_inv {α:Type}{R:α→Value→Prop}{us:List Value}(h:LRep R [] us):us=[]:=by
 have:=h.1;cases us<;>simp_all
theorem LRep.get {α:Type}{R:α→Value→Prop}{cs:List α}{us:List Value}(h:LRep R cs us){j:Nat}{c:α}(hc:cs[j]? =some c):∃ u,us[j]? =some u∧R c u:=by
 have hj:j<us.length:=by
  have:=(List.getElem?_eq_some_iff.1 hc).1;have:=h.1;omega
 exact ⟨us[j],List.getElem?_eq_getElem hj,h.2 j c _ hc (List.getElem?_eq_getElem hj)⟩
theorem zav {x:TV}{v:Value}{cs:List WV}(h:TRep w X β x v)(hc:z7m x=some cs):LRep (WRep w X β) cs v.cells.toList:=by
 cases x with
 | any=>simp [z7m] at hc
 | tup vs=>simp [z7m] at hc
 | c x=>
  simp only [z7m,Option.some.injEq] at hc;subst hc;have h1:=WRep.oneCell h;cases v<;>first | (simp [Value.oneCell'] at h1;done) | exact .cons h .nil
 | agg cs'=>
  simp only [z7m,Option.some.injEq] at hc;subst hc;obtain ⟨us,rfl,hl⟩:=h;simpa [Value.cells] using hl
end
theorem zjg {P:Program} {t:TypeId} {d:TyD} (hd:tyOf P t=some d) {w:World} {X:Nat→Prop} {β:Nat→Option Nat} {b off:Nat} {cs:List WV} {v:TV} (us:List Value) (hl:LRep (WRep w X β) cs us)
  (hc:∀ j u,us[j]? =some u→w.cell? ⟨b,off+j,none⟩=some u) (h:zfb d cs=some v):
  ∃ u,(Instr.loadAt t (.pointer (some ⟨b,off,none⟩))).run P w= .ok u w∧TRep w X β v u:=by
 unfold zfb at h;split at h
 · rename_i ha;split at h
   · rename_i hsz;simp only [Option.some.injEq] at h;subst h;have hlen:(us.take d.size).length=d.size:=by rw [List.length_take,←hl.1];omega
     have hr:=run_loadCells_list (P:=P) w ⟨b,off,none⟩ (us.take d.size) (fun j u hu=>by
      rw [Addr.add_lit];rw [List.getElem?_take] at hu;split at hu
      · exact hc j u hu
      · cases hu)
     rw [hlen] at hr;refine ⟨.agg (us.take d.size).toArray, ?_,us.take d.size,rfl,hl.take _⟩;simp [Instr.loadAt,Instr.sureAddr,loadVar,za4 hd,ha,z0p hd,hr]
   · cases h
 · rename_i ha;split at h
   · rename_i x cs';simp only [Option.some.injEq] at h;subst h;obtain ⟨u,us',rfl,hx,_⟩:=hl.cons_inv;have h0:=hc 0 u rfl;refine ⟨u, ?_,hx⟩;rw [Nat.add_zero] at h0;simp [Instr.loadAt,Instr.sureAddr,loadVar,za4 hd,ha,h0]
   · cases h
end Go.AM

namespace Go.AM
section
variable {P:Program} {w:World} {X:Nat→Prop} {β:Nat→Option Nat}
theorem z3x (op:BinOp)(t:TypeId)(x y:Operand)(a b:Value)(ha:∀ cs,a ≠ .agg cs)(hn:a ≠ .nilIface):(eqGuard op t x y a b).run P w= .ok () w:=by
 cases a<;>first
  | (exact absurd rfl (ha _))
  | (exact absurd rfl hn)
  | (simp only [eqGuard];split<;>rfl)
theorem zs9 {op:BinOp}{k:IntKind}{a b:Int}{v:FV}(t:TypeId)(h:zju op k a b=some v):∃ u,(binOp op t (.int k a) (.int k b)).run P w= .ok u w∧FRep w X v u:=by
 cases op<;>simp only [zju,Option.some.injEq,reduceCtorEq] at h
 case quo=>
  split at h
  · cases h
  · rename_i hb;simp only [Option.some.injEq] at h;subst h;exact ⟨_,by simp [binOp,Op.intDiv,hb], .int _ _⟩
 case rem=>
  split at h
  · cases h
  · rename_i hb;simp only [Option.some.injEq] at h;subst h;exact ⟨_,by simp [binOp,Op.intDiv,hb], .int _ _⟩
 all_goals
  subst h
  first
  | exact ⟨_,by simp [binOp,Op.intArith], .int _ _⟩
  | exact ⟨_,by simp [binOp,Op.intCmp], .bool _⟩
theorem zsg {op:BinOp}{a b:List UInt8}{v:FV}(t:TypeId)(h:zre op a b=some v):∃ u,(binOp op t (.string ⟨a.toArray⟩) (.string ⟨b.toArray⟩)).run P w= .ok u w∧FRep w X v u:=by
 cases op<;>simp only [zre,Option.some.injEq,reduceCtorEq] at h
 case add=>
  split at h
  · rename_i hl;simp only [Option.some.injEq] at h;subst h;refine ⟨.string ⟨(a++b).toArray⟩, ?_, .str _⟩;have h1:(⟨a.toArray⟩:ByteArray).size=a.length:=by simp [ByteArray.size]
    have h2:(⟨b.toArray⟩:ByteArray).size=b.length:=by simp [ByteArray.size]
    have h3:(⟨a.toArray⟩:ByteArray)++⟨b.toArray⟩=⟨(a++b).toArray⟩:=by
     apply ByteArray.ext;simp
    have h4:¬((((⟨a.toArray⟩:ByteArray).size+(⟨b.toArray⟩:ByteArray).size:Nat):Int)>IntKind.i64.max):=by
     rw [h1,h2];simp only [IntKind.max,IntKind.signed,IntKind.bits];simp;omega
    simp only [binOp,Op.stringOp,h4,if_false,h3,Sem.run_pure]
  · cases h
 all_goals
  subst h;exact ⟨_,by simp [binOp,Op.stringOp,ByteArray.toList_eq], .bool _⟩
theorem zqs {t:TypeId}{k:EK}(h:ekOf P t=some k):(∃ d,P.underlying t=some d∧(match d with | .struct _ | .array _ _=>False | _=>True)):=by
 unfold ekOf at h;split at h<;>simp_all
theorem z7j {t:TypeId}{k:EK}(h:ekOf P t=some k)(cs:Array Value)(off:Nat)(v:Value)(hv:cs[off]? =some v):(part t cs off).run P w= .ok v w:=by
 obtain ⟨d,hd,hm⟩:=zqs h
 have hi:(isAgg t).run P w= .ok false w:=by
  cases d<;>first | exact hm.elim | simp [isAgg,run_underlying hd]
 simp [part,hi,hv]
theorem z6n {k:EK}{l:List EK}{xs ys:List WV}{r:Bool}(h:z0q (k::l) xs ys=some r):
  ∃ x y xs' ys' b b',xs=x::xs'∧ys=y::ys'∧z0q l xs' ys'=some b'∧r=(b&&b')∧
   ((k= .int∧∃ i n m,x= .a (.fz (.int i n))∧y= .a (.fz (.int i m))∧b=(n==m))∨(k= .bool∧∃ n m,x= .a (.fz (.bool n))∧y= .a (.fz (.bool m))∧b=(n==m))∨
    (k= .str∧∃ n m,x= .a (.fz (.str n))∧y= .a (.fz (.str m))∧b=(n==m))):=by
 unfold z0q at h;split at h
 · rename_i h1;cases h1
 · rename_i h1;injection h1 with h1 h2
   subst h2;split at h
   · rename_i he;subst he;obtain ⟨b',hb,rfl⟩:=Option.map_eq_some_iff.1 h;exact ⟨_,_,_,_,_,b',rfl,rfl,hb,rfl, .inl ⟨h1,_,_,_,rfl,rfl,rfl⟩⟩
   · cases h
 · rename_i h1;injection h1 with h1 h2
   subst h2;obtain ⟨b',hb,rfl⟩:=Option.map_eq_some_iff.1 h;exact ⟨_,_,_,_,_,b',rfl,rfl,hb,rfl, .inr (.inl ⟨h1,_,_,rfl,rfl,rfl⟩)⟩
 · rename_i h1;injection h1 with h1 h2
   subst h2;obtain ⟨b',hb,rfl⟩:=Option.map_eq_some_iff.1 h;exact ⟨_,_,_,_,_,b',rfl,rfl,hb,rfl, .inr (.inr ⟨h1,_,_,rfl,rfl,rfl⟩)⟩
 · cases h
theorem z6q:∀ (fs:List Field) (i:Nat) (ks:List EK) (xs ys:List WV) (us vs:List Value) (a9 bs:Array Value) (r:Bool),zo P i fs=some ks→z0q ks xs ys=some r→
  LRep (WRep w X β) xs us→LRep (WRep w X β) ys vs→(∀ j,us[j]? =a9[i+j]?)→(∀ j,vs[j]? =bs[i+j]?)→(Op.eqFields 9999 a9 bs fs).run P w= .ok r w
 | [],i,ks,xs,ys,us,vs,a9,bs,r,hk,h,hx,hy,hus,hvs=>by
  simp only [zo,Option.some.injEq] at hk;subst hk;cases xs<;>cases ys<;>simp only [z0q,Option.some.injEq,reduceCtorEq] at h
  subst h;rfl
 | f::fs,i,ks,xs,ys,us,vs,a9,bs,r,hk,h,hx,hy,hus,hvs=>by
  simp only [zo] at hk;split at hk
  · rename_i k l hf hl;split at hk
    · rename_i hc;simp only [Option.some.injEq] at hk;subst hk;obtain ⟨ho,hn⟩:=hc
      have key:∀ (x y:WV) (xs' ys':List WV) (u v:Value) (b b':Bool),xs=x::xs'→ys=y::ys'→z0q l xs' ys'=some b'→us.head? =some u→vs.head? =some v→
        (Op.equalIn 9999 f.type u v).run P w= .ok b w→(Op.eqFields 9999 a9 bs (f::fs)).run P w= .ok (b&&b') w:=by
       intro x y xs' ys' u v b b' e1 e2 hsc hu hv he;subst e1;subst e2;obtain ⟨u',us',rfl,_,hx'⟩:=hx.cons_inv;obtain ⟨v',vs',rfl,_,hy'⟩:=hy.cons_inv;simp only [List.head?_cons,Option.some.injEq] at hu hv;subst hu;subst hv;have p1:=z7j (w:=w) hf a9 f.offset u' (by have:=hus 0;simp at this;rw [ho];exact this.symm);have p2:=z7j (w:=w) hf bs f.offset v' (by have:=hvs 0;simp at this;rw [ho];exact this.symm)
       have ih:=z6q fs (i+1) l xs' ys' us' vs' a9 bs b' hl hsc hx' hy' (fun j=>by have:=hus (j+1);simpa [Nat.add_assoc,Nat.add_comm 1 j] using this)
        (fun j=>by have:=hvs (j+1);simpa [Nat.add_assoc,Nat.add_comm 1 j] using this)
       simp only [Op.eqFields,hn,ne_eq,not_false_eq_true,if_true,Sem.run_bind,p1,p2,he,Result.andThen_ok,Sem.run_ite];cases b
       · simp
       · simpa using ih
      have fin:∀ (x y:WV) (xs' ys':List WV) (b b':Bool),xs=x::xs'→ys=y::ys'→z0q l xs' ys'=some b'→r=(b&&b')→
        (∀ u v,WRep w X β x u→WRep w X β y v→(Op.equalIn 9999 f.type u v).run P w= .ok b w)→(Op.eqFields 9999 a9 bs (f::fs)).run P w= .ok r w:=by
       intro x y xs' ys' b b' e1 e2 hsc hr he;have hx2:=hx;have hy2:=hy;rw [e1] at hx2;rw [e2] at hy2;obtain ⟨u,us',eu,hu,_⟩:=hx2.cons_inv;obtain ⟨v,vs',ev',hv,_⟩:=hy2.cons_inv;rw [hr];exact key x y xs' ys' u v b b' e1 e2 hsc (by rw [eu];rfl) (by rw [ev'];rfl) (he u v hu hv)
      obtain ⟨x,y,xs',ys',b,b',e1,e2,hsc,hr,hcase⟩:=z6n h;refine fin x y xs' ys' b b' e1 e2 hsc hr ?_;intro u v hu hv;unfold ekOf at hf;rcases hcase with ⟨rfl,kk,n,m,rfl,rfl,rfl⟩ | ⟨rfl,n,m,rfl,rfl,rfl⟩ | ⟨rfl,n,m,rfl,rfl,rfl⟩
      · split at hf<;>simp only [Option.some.injEq,reduceCtorEq] at hf
        rename_i hd;rw [TRep.int_inv (β:=β) (X:=X) (w:=w) hu,TRep.int_inv (β:=β) (X:=X) (w:=w) hv];exact run_equalIn_int w 9998 _ _ _ _ _ hd
      · split at hf<;>simp only [Option.some.injEq,reduceCtorEq] at hf
        rename_i hd;rw [TRep.bool_inv (β:=β) (X:=X) (w:=w) hu,TRep.bool_inv (β:=β) (X:=X) (w:=w) hv];exact run_equalIn_bool' w 9998 _ _ _ hd
      · split at hf<;>simp only [Option.some.injEq,reduceCtorEq] at hf
        rename_i hd;rw [TRep.str_inv (β:=β) (X:=X) (w:=w) hu,TRep.str_inv (β:=β) (X:=X) (w:=w) hv];have:=run_equalIn_string (P:=P) w 9998 f.type ⟨n.toArray⟩ ⟨m.toArray⟩ hd;simpa [ByteArray.toList_eq] using this
    · cases hk
  · cases hk
theorem zmu {P:Program}{u:TypeDesc}(h:z36 P u= .bool):u= .bool:=by cases u<;>simp_all [z36]<;>split at h<;>simp_all
theorem z7i {P:Program}{u:TypeDesc}{e:TypeId}(h:z36 P u= .slice e):u= .slice e:=by cases u<;>simp_all [z36]<;>split at h<;>simp_all
theorem zs4 {P:Program}{u:TypeDesc}{e:TypeId}(h:z36 P u= .ptr e):u= .pointer e:=by cases u<;>simp_all [z36]<;>split at h<;>simp_all
theorem zg0 {P:Program}{u:TypeDesc}{k:IntKind}(h:z36 P u= .int k):u= .int k:=by cases u<;>simp_all [z36]<;>split at h<;>simp_all
theorem zbl {P:Program}{u:TypeDesc}(h:z36 P u= .str):u= .string:=by cases u<;>simp_all [z36]<;>split at h<;>simp_all
theorem zs6 {P:Program}{u:TypeDesc}{n:Nat}{e:TypeId}(h:z36 P u= .arr n e):u= .array n e:=by cases u<;>simp_all [z36]<;>split at h<;>simp_all
theorem zh7 {P:Program}{u:TypeDesc}{l:List (Nat×Nat×TypeId)}(h:z36 P u= .struct l):
  ∃ fs,u= .struct fs∧(l=fs.toList.map fun f=>(f.offset,P.cellsOf f.type,f.type))∧∀ f∈fs.toList,∃ i,P.info? f.type=some i:=by
 cases u with
 | struct fs=>
  simp only [z36] at h;split at h
  · rename_i hc;injection h with h
    refine ⟨fs,rfl,h.symm,fun f hf=> ?_⟩;have:=List.all_eq_true.1 hc f hf;exact Option.isSome_iff_exists.1 this
  · cases h
 | _=>simp [z36] at h
theorem zs8 {P:Program}{u:TypeDesc}{k e:TypeId}(h:z36 P u= .map k e):u= .map k e:=by cases u<;>simp_all [z36]<;>split at h<;>simp_all
theorem z34 {t:TypeId}{d:TyD}(h:tyOf P t=some d):∃ u,P.underlying t=some u∧d.kind=z36 P u:=by
 obtain ⟨_,u,_,hu,_,_,_,_,hk⟩:=z4g h;exact ⟨u,hu,hk⟩
theorem zvn {t e:TypeId}{x y:WV}{u v:Value}{r:Bool}(ht:P.underlying t=some (.slice e))(h:nilSl x y=some r)(hx:WRep w X β x u)(hy:WRep w X β y v)(d:Nat):(Op.equalIn (d+1) t u v).run P w= .ok r w:=by
 unfold nilSl at h;split at h<;>simp only [Option.some.injEq,reduceCtorEq] at h<;>subst h
 · rw [TRep.nils_inv (X:=X) (β:=β) hx,TRep.nils_inv (X:=X) (β:=β) hy];simp [Op.equalIn,run_underlying ht]
 · rw [TRep.nils_inv (X:=X) (β:=β) hy];have h1:=TRep.fz_inv (X:=X) (β:=β) hx;cases h1<;>simp [Op.equalIn,run_underlying ht]
 · rw [TRep.nils_inv (X:=X) (β:=β) hy];have h1:=TRep.fz_inv (X:=X) (β:=β) hx;cases h1;simp [Op.equalIn,run_underlying ht]
 · rw [TRep.nils_inv (X:=X) (β:=β) hy];obtain ⟨_,_,_,_,_,_,_,_,_,_,rfl⟩ | ⟨h0,_⟩:=TRep.osl_inv (X:=X) (β:=β) hx
   · simp [Op.equalIn,run_underlying ht]
   · cases h0
 · rw [TRep.nils_inv (X:=X) (β:=β) hy];have h1:=TRep.fz_inv (X:=X) (β:=β) hx;cases h1;simp [Op.equalIn,run_underlying ht]
theorem zse {t e:TypeId}{x y:WV}{u v:Value}{r:Bool}(ht:P.underlying t=some (.pointer e))(h:zrd x y=some r)(hx:WRep w X β x u)(hy:WRep w X β y v)(d:Nat):(Op.equalIn (d+1) t u v).run P w= .ok r w:=by
 have hc:∀ {v:Value},WRep w X β (.a (.fz (.cst (.pointer none)))) v→v= .pointer none:=fun h=>by have h1:=TRep.fz_inv (X:=X) (β:=β) h;cases h1;rfl
 unfold zrd at h;split at h<;>simp only [Option.some.injEq,reduceCtorEq] at h<;>subst h
 · rw [hc hy];obtain ⟨_,_,rfl⟩:=TRep.ep_inv (X:=X) (β:=β) hx;simp [Op.equalIn,run_underlying ht]
 · rw [hc hy];have h1:=TRep.fz_inv (X:=X) (β:=β) hx;cases h1;simp [Op.equalIn,run_underlying ht]
 · rw [hc hy,hc hx];simp [Op.equalIn,run_underlying ht]
theorem eqC_run {t:TypeId}{x y:WV}{u v:Value}{r:Bool}(h:eqC P t x y=some r)(hx:WRep w X β x u)(hy:WRep w X β y v):(Op.equal t u v).run P w= .ok r w:=by
 unfold eqC at h;split at h
 · rename_i d hd;obtain ⟨du,hu,hk⟩:=z34 hd;split at h
   · rename_i hb;rw [hk] at hb;have:=zmu hb;subst this;split at h<;>simp only [Option.some.injEq,reduceCtorEq] at h
     subst h;rw [TRep.bool_inv (X:=X) (β:=β) hx,TRep.bool_inv (X:=X) (β:=β) hy];exact run_equalIn_bool' w 9999 _ _ _ hu
   · rename_i e hb;rw [hk] at hb;exact zvn (z7i hb▸hu) h hx hy 9999
   · rename_i e hb;rw [hk] at hb;exact zse (zs4 hb▸hu) h hx hy 9999
   · cases h
 · cases h
theorem zdj (t:TypeId)(u v:Value)(r:Bool)(h1:∀ k n,u ≠ .int k n)(h2:∀ s,u ≠ .string s)(h3:∀ k n,u ≠ .float k n)(h4:∀ k n m,u ≠ .complex k n m)(h:(Op.equal t u v).run P w= .ok r w):
  (binOp .eql t u v).run P w= .ok (.bool r) w∧(binOp .neq t u v).run P w= .ok (.bool (!r)) w:=by
 cases u<;>first
  | exact absurd rfl (h1 _ _)
  | exact absurd rfl (h2 _)
  | exact absurd rfl (h3 _ _)
  | exact absurd rfl (h4 _ _ _)
  | (constructor<;>simp [binOp,h])
theorem eqA_run {op:BinOp}{t:TypeId}{x y r:TV}{u v:Value}(xo yo:Operand)(h:eqOp op (eqA P t x y)=some r)(hx:TRep w X β x u)(hy:TRep w X β y v):
  ∃ z,((do eqGuard op t xo yo u v;binOp op t u v:Sem Value)).run P w= .ok z w∧TRep w X β r z:=by
 have fin:∀ b,eqOp op (some b)=some r→(eqGuard op t xo yo u v).run P w= .ok () w→(Op.equal t u v).run P w= .ok b w→(∀ k n,u ≠ .int k n)→(∀ s,u ≠ .string s)→(∀ k n,u ≠ .float k n)→(∀ k n m,u ≠ .complex k n m)→
   ∃ z,((do eqGuard op t xo yo u v;binOp op t u v:Sem Value)).run P w= .ok z w∧TRep w X β r z:=by
  intro b hb hg he h1 h2 h3 h4;obtain ⟨e1,e2⟩:=zdj t u v b h1 h2 h3 h4 he;unfold eqOp at hb;split at hb<;>simp only [Option.map_some,Option.some.injEq,reduceCtorEq] at hb<;>subst hb
  · exact ⟨_,by simp only [Sem.run_bind,hg,Result.andThen_ok,e1], .bool_mk _⟩
  · exact ⟨_,by simp only [Sem.run_bind,hg,Result.andThen_ok,e2], .bool_mk _⟩
 cases hq:eqA P t x y with
 | none=>rw [hq] at h;unfold eqOp at h;split at h<;>simp at h
 | some b=>
  rw [hq] at h;unfold eqA at hq;split at hq
  · rename_i xs ys;split at hq
    · rename_i ks hks;obtain ⟨us,rfl,hl⟩:=hx;obtain ⟨vs,rfl,hr⟩:=hy;unfold z94 at hks;split at hks
      · rename_i fs hfs;split at hks
        · rename_i hc;have hf:P.fieldsOf t=fs:=by simp [Program.fieldsOf,hfs]
          have hrun:=z6q fs.toList 0 ks xs ys us vs us.toArray vs.toArray b hks hq hl hr (by simp) (by simp);refine fin b h (run_eqGuard_agg w op t xo yo _ _ hc.2) ?_ (by simp) (by simp) (by simp) (by simp);have:=run_equalIn_agg (P:=P) w 9999 t us.toArray vs.toArray (by rw [hf];exact hfs) hc.1;rw [hf] at this;exact this.trans hrun
        · cases hks
      · cases hks
    · cases hq
  · rename_i x y;have h1:=WRep.oneCell hx
    have hkind:(∀ cs,u ≠ .agg cs)∧u ≠ .nilIface∧(∀ k n,u ≠ .int k n)∧(∀ s,u ≠ .string s)∧(∀ k n,u ≠ .float k n)∧(∀ k n m,u ≠ .complex k n m):=by
     unfold eqC at hq;split at hq
     · split at hq
       · split at hq
         · rw [TRep.bool_inv (X:=X) (β:=β) hx];simp
         · cases hq
       · unfold nilSl at hq;split at hq
         · rw [TRep.nils_inv (X:=X) (β:=β) hx];simp
         · have h1:=TRep.fz_inv (X:=X) (β:=β) hx;cases h1<;>simp
         · have h1:=TRep.fz_inv (X:=X) (β:=β) hx;cases h1;simp
         · obtain ⟨_,_,_,_,_,_,_,_,_,_,rfl⟩ | ⟨_,rfl⟩:=TRep.osl_inv (X:=X) (β:=β) hx<;>simp
         · have h1:=TRep.fz_inv (X:=X) (β:=β) hx;cases h1;simp
         · cases hq
       · unfold zrd at hq;split at hq
         · obtain ⟨_,_,rfl⟩:=TRep.ep_inv (X:=X) (β:=β) hx;simp
         · have h1:=TRep.fz_inv (X:=X) (β:=β) hx;cases h1;simp
         · have h1:=TRep.fz_inv (X:=X) (β:=β) hx;cases h1;simp
         · cases hq
       · cases hq
     · cases hq
    exact fin b h (z3x op t xo yo u v hkind.1 hkind.2.1) (eqC_run hq hx hy) hkind.2.2.1 hkind.2.2.2.1 hkind.2.2.2.2.1 hkind.2.2.2.2.2
  · cases hq
theorem zif {op:BinOp}{t:TypeId}{x y r:TV}{u v:Value}(xo yo:Operand)(h:binA P t op x y=some r)(hx:TRep w X β x u)(hy:TRep w X β y v):
  ∃ z,((do eqGuard op t xo yo u v;binOp op t u v:Sem Value)).run P w= .ok z w∧TRep w X β r z:=by
 unfold binA at h;split at h
 · split at h
   · rename_i hk;subst hk;obtain ⟨f,hf,rfl⟩:=Option.map_eq_some_iff.1 h;rw [TRep.int_inv hx,TRep.int_inv hy];obtain ⟨z,hz,hr⟩:=zs9 (P:=P) (w:=w) (X:=X) t hf;exact ⟨z,by rw [Sem.run_bind,z3x op t xo yo _ _ (by simp) (by simp)];exact hz, .fz_mk hr⟩
   · cases h
 · obtain ⟨f,hf,rfl⟩:=Option.map_eq_some_iff.1 h;rw [TRep.str_inv hx,TRep.str_inv hy];obtain ⟨z,hz,hr⟩:=zsg (P:=P) (w:=w) (X:=X) t hf;exact ⟨z,by rw [Sem.run_bind,z3x op t xo yo _ _ (by simp) (by simp)];exact hz, .fz_mk hr⟩
 · exact eqA_run xo yo h hx hy
theorem unA_run {op:UnOp}{x r:TV}{u:Value}(h:unA op x=some r)(hx:TRep w X β x u):∃ z,(Op.unary op u).run P w= .ok z w∧TRep w X β r z:=by
 unfold unA at h;split at h
 · rw [TRep.int_inv hx];split at h<;>simp only [Option.some.injEq,reduceCtorEq] at h
   subst h;exact ⟨_,rfl, .int_mk _ _⟩
 · rw [TRep.bool_inv hx];split at h<;>simp only [Option.some.injEq,reduceCtorEq] at h
   subst h;exact ⟨_,by simp [Op.unary], .bool_mk _⟩
 · cases h
end
end Go.AM

namespace Go.AM
section
variable {P:Program} {w:World} {X:Nat→Prop} {β:Nat→Option Nat}
theorem zhn {x r:TV}{u:Value}{o:Oper}(ev:Operand→Value)(xo:Operand)(ho:o.op= .nilCheck xo)(hu:ev xo=u)(h:zen x=some r)(hx:TRep w X β x u):(execOp ev o).run P w= .ok (.value u) w∧TRep w X β r u:=by
 unfold zen at h;split at h<;>simp only [Option.some.injEq,reduceCtorEq] at h<;>subst h
 · obtain ⟨b,hb,rfl⟩:=hx.ep_inv;exact ⟨by simp [execOp,ho,hu],hx⟩
 · have h1:=hx.fz_inv;cases h1;rename_i h1 h2 h3 h4;exact ⟨by simp [execOp,ho,hu],hx⟩
 · cases id hx with
   | fn f first cap us vs h1 h2=>exact ⟨by simp [execOp,ho,hu],hx⟩
theorem zxq {c x y r:TV}{cu xu yu:Value}(h:pickV c x y=some r)(hc:TRep w X β c cu)(hx:TRep w X β x xu)(hy:TRep w X β y yu):
  ∃ b,cu= .bool b∧TRep w X β r (if b then xu else yu):=by
 unfold pickV at h;split at h<;>simp only [Option.some.injEq,reduceCtorEq] at h
 subst h;rename_i t;refine ⟨t,hc.bool_inv, ?_⟩;unfold pickT;split
 · rw [hx.bool_inv,hy.bool_inv];cases t<;>exact .bool_mk _
 · cases t
   · exact hy
   · exact hx
theorem zkw {x r:TV}{u:Value}{i:Nat}(h:zh6 x i=some r)(hx:TRep w X β x u):∃ z,(Instr.extract u i).run P w= .ok z w∧TRep w X β r z:=by
 unfold zh6 at h;split at h
 · rename_i vs;obtain ⟨us,rfl,hl⟩:=hx;split at h<;>simp only [Option.some.injEq,reduceCtorEq] at h<;>subst h
   · rename_i cs hv;obtain ⟨z,hz,us',rfl,hl',_⟩:=hl.get hv;exact ⟨.agg us'.toArray,by simp [Instr.extract,hz,shut],us',rfl,hl'⟩
   · rename_i c hv;obtain ⟨z,hz,us',rfl,hl',_⟩:=hl.get hv;obtain ⟨u,us'',rfl,hc,_⟩:=hl'.cons_inv;exact ⟨u,by simp [Instr.extract,hz,shut],hc⟩
 · cases h
theorem zjo {x r:TV}{u:Value}{dst:TypeId}{d:TyD}(src:TypeId)(hs:∃ e,P.underlying src=some e∧(∀ k n,u= .int k n→True))(hd:tyOf P dst=some d)(h:zce d x=some r)(hx:TRep w X β x u):
  ∃ z,(convert src dst u).run P w= .ok z w∧TRep w X β r z:=by
 obtain ⟨su,hsu,_⟩:=hs;obtain ⟨du,hdu,hk⟩:=z34 hd;unfold zce at h;split at h
 · rename_i k hkk;rw [hk] at hkk;have:=zg0 hkk;subst this;split at h<;>simp only [Option.some.injEq,reduceCtorEq] at h
   subst h;rw [hx.int_inv];refine ⟨_, ?_, .int_mk _ _⟩;simp [convert,run_underlying hsu,run_underlying hdu,Conv.intToInt]
 · rename_i hkk;rw [hk] at hkk;have:=zbl hkk;subst this;split at h<;>simp only [Option.some.injEq,reduceCtorEq] at h
   subst h;rw [hx.str_inv];refine ⟨_, ?_, .str_mk _⟩;simp [convert,run_underlying hsu,run_underlying hdu]
 · cases h
theorem z90 {t:TypeId}{d:TyD}{l:List (Nat×Nat×TypeId)}(h:tyOf P t=some d)(hk:d.kind= .struct l):
  ∃ fs,P.underlying t=some (.struct fs)∧(l=fs.toList.map fun f=>(f.offset,P.cellsOf f.type,f.type))∧∀ f∈fs.toList,∃ i,P.info? f.type=some i:=by
 obtain ⟨u,hu,hk'⟩:=z34 h;rw [hk'] at hk;obtain ⟨fs,rfl,hl,hf⟩:=zh7 hk;exact ⟨fs,hu,hl,hf⟩
theorem zfl {f:Field}{b off:Nat}(h:P.cellsOf f.type≠0):(fieldPlace ⟨b,off,none⟩ f).run P w= .ok ⟨b,off+f.offset,none⟩ w:=by
 have hs:∃ i,P.info? f.type=some i∧i.size≠0:=by
  unfold Program.cellsOf at h;cases hi:P.info? f.type with
  | none=>simp [hi] at h
  | some i=>exact ⟨i,rfl,by simpa [hi] using h⟩
 obtain ⟨i,hi,hne⟩:=hs;simp [fieldPlace,sizeOf,typeInfo,hi,hne,Addr.add_lit]
theorem zfh {x r:TV}{u:Value}{s:TypeId}{d:TyD}{f:Nat}(hd:tyOf P s=some d)(h:zbj d x f=some r)(hx:TRep w X β x u):
  ∃ z,(Instr.fieldAt s u f).run P w= .ok z w∧TRep w X β r z:=by
 unfold zbj at h;split at h
 · rename_i l hk;obtain ⟨fs,hfs,rfl,_⟩:=z90 hd hk;split at h
   · rename_i fd hfd;rw [List.getElem?_map] at hfd;obtain ⟨fl,hfl,rfl⟩:=Option.map_eq_some_iff.1 hfd;have hfa:fs[f]? =some fl:=by simpa using hfl
     split at h
     · cases h
     · rename_i hne;have hne:P.cellsOf fl.type≠0:=hne;have hfp:∀ b off,(fieldPlace ⟨b,off,none⟩ fl).run P w= .ok ⟨b,off+fl.offset,none⟩ w:=fun _ _=>zfl hne;split at h<;>simp only [Option.some.injEq,reduceCtorEq] at h<;>subst h
       · obtain ⟨b,hb,rfl⟩:=hx.ep_inv;refine ⟨_,by simp [Instr.fieldAt,run_underlying hfs,hfa,Instr.sureAddr,hfp];rfl, ?_⟩;rw [Nat.add_assoc];exact .a _ _ (.ep _ _ _ _ b hb)
       · have h1:=hx.fz_inv;cases h1 with
         | pt cs b off u h2 h3 h4 h5=>
          refine ⟨_,by simp [Instr.fieldAt,run_underlying hfs,hfa,Instr.sureAddr,hfp];rfl, ?_⟩;refine .fz_mk (.pt _ b (off+fl.offset) (fun j=>u (fl.offset+j)) h2 h3 (fun j x hx=> ?_) (fun j x hx=> ?_))
          · rw [List.getElem?_drop] at hx;rw [Nat.add_assoc];exact h4 _ _ hx
          · rw [List.getElem?_drop] at hx;exact h5 _ _ hx
   · cases h
 · cases h
theorem zl5 {t:TypeId}{d:TyD}{cs:List WV}{us:List Value}{off:Nat}{r:TV}(hd:tyOf P t=some d)(h:partA d.agg d.size cs off=some r)(hl:LRep (WRep w X β) cs us):
  ∃ z,(part t us.toArray off).run P w= .ok z w∧TRep w X β r z:=by
 unfold partA at h;split at h
 · rename_i ha;split at h<;>simp only [Option.some.injEq,reduceCtorEq] at h
   subst h;refine ⟨.agg (us.toArray.extract off (off+d.size)),by simp [part,za4 hd,ha,z0p hd],(us.drop off).take d.size, ?_,(hl.drop off).take _⟩;congr 1;apply Array.ext';simp [List.extract_eq_take_drop]
 · rename_i ha;obtain ⟨c,hc,rfl⟩:=Option.map_eq_some_iff.1 h;obtain ⟨u,hu,hr⟩:=hl.get hc;exact ⟨u,by simp [part,za4 hd,ha,hu],hr⟩
theorem zs7 {x r:TV}{u:Value}{s:TypeId}{d:TyD}{f:Nat}(hd:tyOf P s=some d)(h:zx2 P d x f=some r)(hx:TRep w X β x u):
  ∃ z,(Instr.field s u f).run P w= .ok z w∧TRep w X β r z:=by
 unfold zx2 at h;split at h
 · rename_i l hk;obtain ⟨fs,hfs,rfl,_⟩:=z90 hd hk;split at h
   · rename_i fd hfd;rw [List.getElem?_map] at hfd;obtain ⟨fl,hfl,rfl⟩:=Option.map_eq_some_iff.1 hfd;have hfa:fs[f]? =some fl:=by simpa using hfl
     split at h
     · rename_i df cs hdf;obtain ⟨us,rfl,hl⟩:=hx;obtain ⟨z,hz,hr⟩:=zl5 hdf h hl;exact ⟨z,by simp [Instr.field,run_underlying hfs,hfa,asAgg,hz],hr⟩
     · cases h
   · cases h
 · cases h
theorem z2e {t e:TypeId}{d:TyD}(h:tyOf P t=some d)(hk:d.kind= .slice e):P.underlying t=some (.slice e):=by
 obtain ⟨u,hu,hk'⟩:=z34 h;rw [hk'] at hk;exact z7i hk▸hu
theorem zcp {t e:TypeId}{n:Nat}{d:TyD}(h:tyOf P t=some d)(hk:d.kind= .arr n e):P.underlying t=some (.array n e):=by
 obtain ⟨u,hu,hk'⟩:=z34 h;rw [hk'] at hk;exact zs6 hk▸hu
theorem zhz {t:TypeId}{d:TyD}(h:tyOf P t=some d)(hk:d.kind= .str):P.underlying t=some .string:=by
 obtain ⟨u,hu,hk'⟩:=z34 h;rw [hk'] at hk;exact zbl hk▸hu
theorem toNat_lt {i:Int}{n:Nat}(h0:0≤i)(h:i<n):i.toNat<n:=by omega
theorem z8k {x ix r:TV}{u iu:Value}{t:TypeId}{d:TyD}(hd:tyOf P t=some d)(h:z2r P d x ix=some r)(hx:TRep w X β x u)(hi:TRep w X β ix iu):
  ∃ z,(Instr.indexAt t u iu).run P w= .ok z w∧TRep w X β r z:=by
 unfold z2r at h;split at h
 · rename_i k i;rw [hi.int_inv];split at h
   · rename_i e hk;have ht:=z2e hd hk;split at h
     · rename_i de hde;unfold zg7 at h;split at h
       · split at h<;>simp only [Option.some.injEq,reduceCtorEq] at h
         rename_i o n off len hc;obtain ⟨hsz,h0,h1⟩:=hc;subst h;obtain ⟨b,q,cap,sz,tt,hb,hs,hlc,hcap,hq,rfl⟩:=hx.osl_inv.resolve_right (fun h=>by omega);subst hsz;have hq:q=off*de.size:=hq.resolve_right (by omega);subst hq;refine ⟨.pointer (some ⟨b,(off+i.toNat)*de.size+0,none⟩), ?_, .a _ _ (.ep _ _ _ _ b hb)⟩;simp [Instr.indexAt,asIntOf,run_underlying ht,h0,h1,z0p hde,Addr.add_lit,Nat.add_mul]
       · rename_i nn n es;split at h<;>simp only [Option.some.injEq,reduceCtorEq] at h
         rename_i hc;obtain ⟨hsz,h0,h1⟩:=hc;subst h;have h2:=hx.fz_inv;cases h2 with
         | slnil=>simp at h1;omega
         | sl0=>simp at h1;omega
         | sl nn n es b off cap len u g1 g2 g3 g4 g5 g6 g7=>
          have hlt:=toNat_lt h0 h1;have hg:es[i.toNat]? =some (es.getD i.toNat []):=by simp [List.getD,List.getElem?_eq_getElem hlt]
          refine ⟨.pointer (some ⟨b,off+i.toNat*de.size,none⟩), ?_, ?_⟩
          · rw [g1];simp [Instr.indexAt,asIntOf,run_underlying ht,h0,h1,z0p hde,Addr.add_lit]
          · rw [hsz];exact .fz_mk (.pt _ b _ (u i.toNat) g3 g4 (fun j f hf=>g6 _ _ _ _ hg hf) (fun j f hf=>g7 _ _ _ _ hg hf))
       · cases h
     · cases h
   · rename_i m e hk;have ht:=zcp hd hk;split at h
     · rename_i de hde;unfold zna at h;split at h
       · split at h<;>simp only [Option.some.injEq,reduceCtorEq] at h
         rename_i hc;obtain ⟨h0,h1⟩:=hc;subst h;obtain ⟨b,hb,rfl⟩:=hx.ep_inv;refine ⟨_,by simp [Instr.indexAt,asIntOf,run_underlying ht,h0,h1,z0p hde,Addr.add_lit,Instr.sureAddr];rfl, ?_⟩;rw [Nat.add_assoc];exact .a _ _ (.ep _ _ _ _ b hb)
       · cases h
     · cases h
   · cases h
 · cases h
theorem zsm {x ix r:TV}{u iu:Value}{t:TypeId}{d:TyD}(hd:tyOf P t=some d)(h:zgy P d x ix=some r)(hx:TRep w X β x u)(hi:TRep w X β ix iu):
  ∃ z,(Instr.index t u iu).run P w= .ok z w∧TRep w X β r z:=by
 unfold zgy at h;split at h
 · rename_i k i;rw [hi.int_inv];split at h
   · rename_i hk;have ht:=zhz hd hk;split at h
     · split at h<;>simp only [Option.some.injEq,reduceCtorEq] at h
       rename_i l hc;obtain ⟨h0,h1⟩:=hc;subst h;rw [hx.str_inv];have hlt:=toNat_lt h0 h1
       have hg:(⟨l.toArray⟩:ByteArray)[i.toNat]? =some (l.getD i.toNat 0):=by
        have hs:i.toNat<(⟨l.toArray⟩:ByteArray).size:=by simpa [ByteArray.size] using hlt
        rw [getElem?_pos (⟨l.toArray⟩:ByteArray) i.toNat hs];simp only [ByteArray.getElem_eq_getElem_data,List.getElem_toArray,List.getD,List.getElem?_eq_getElem hlt,Option.getD_some]
       refine ⟨.int .u8 (l.getD i.toNat 0).toNat, ?_, .int_mk _ _⟩;simp only [Instr.index,asIntOf,Sem.run_bind,Sem.run_pure,Result.andThen_ok,run_underlying ht,h0,↓reduceIte,hg]
     · cases h
   · rename_i m e hk;have ht:=zcp hd hk;split at h
     · rename_i de cs hde;split at h
       · rename_i hc;obtain ⟨h0,h1⟩:=hc;obtain ⟨us,rfl,hl⟩:=hx;obtain ⟨z,hz,hr⟩:=zl5 hde h hl;exact ⟨z,by simp [Instr.index,asIntOf,run_underlying ht,h0,h1,z0p hde,hz],hr⟩
       · cases h
     · cases h
   · cases h
 · cases h
theorem zlt:∀ {cs:List WV} {xs:List AV} {us:List Value},zrz cs=some xs→LRep (WRep w X β) cs us→LRep (ARep w X β) xs us
 | [],xs,us,h,hl=>by
  simp only [zrz,Option.some.injEq] at h;subst h;rw [hl.nil_inv];exact .nil
 | .a x::r,xs,us,h,hl=>by
  simp only [zrz] at h;obtain ⟨l,hl',rfl⟩:=Option.map_eq_some_iff.1 h;obtain ⟨u,us',rfl,hu,hus⟩:=hl.cons_inv;cases hu with
  | a _ _ hu=>exact .cons hu (zlt hl' hus)
 | .fn _ _ _::r,xs,us,h,hl=>by simp [zrz] at h
theorem z8a:∀ {cs:List TV} {xs:List (Bool×List AV)} {us:List Value},z7w cs=some xs→LRep (TRep w X β) cs us→LRep (PRep (ARep w X β)) xs us
 | [],xs,us,h,hl=>by
  simp only [z7w,Option.some.injEq] at h;subst h;rw [hl.nil_inv];exact .nil
 | .c (.a x)::r,xs,us,h,hl=>by
  simp only [z7w] at h;obtain ⟨l,hl',rfl⟩:=Option.map_eq_some_iff.1 h;obtain ⟨u,us',rfl,hu,hus⟩:=hl.cons_inv;cases hu with
  | a _ _ hu=>exact .cons ⟨[u],rfl, .cons hu .nil,fun _=>rfl⟩ (z8a hl' hus)
 | .agg cs::r,xs,us,h,hl=>by
  simp only [z7w] at h;obtain ⟨ys,hys,h⟩:=Option.bind_eq_some_iff.1 h;obtain ⟨l,hl',rfl⟩:=Option.map_eq_some_iff.1 h;obtain ⟨u,us',rfl,hu,hus⟩:=hl.cons_inv;obtain ⟨vs,rfl,hvs⟩:=hu;exact .cons ⟨vs,rfl,zlt hys hvs,fun h=>by simp at h⟩ (z8a hl' hus)
 | .c (.fn _ _ _)::r,xs,us,h,hl=>by simp [z7w] at h
 | .any::r,xs,us,h,hl=>by simp [z7w] at h
 | .tup _::r,xs,us,h,hl=>by simp [z7w] at h
theorem zj2 {fn:Fn}{first captured:List TV}{us vs:List Value}{r:TV}(h:zde fn first captured=some r)(h1:LRep (TRep w X β) first us)(h2:LRep (TRep w X β) captured vs):
  TRep w X β r (.func fn us.toArray vs.toArray):=by
 unfold zde at h;split at h<;>simp only [Option.some.injEq,reduceCtorEq] at h
 rename_i a b;subst h;exact .fn _ _ _ _ _ (z8a a h1) (z8a b h2)
def bnd (x:Option TV)(v:Option Value)(w:World)(X:Nat→Prop)(β:Nat→Option Nat):Prop:=
 match x,v with
 | none,none=>True
 | some x,some v=>TRep w X β x v
 | _,_=>False
theorem z1o {x:Option TV}{v:Option Value}{dflt most n:Nat}(h:z4n x dflt most=some n)(hb:bnd x v w X β):
  (v=none∧n=dflt)∨(∃ k i,v=some (.int k i)∧0≤i∧i.toNat=n∧n≤most∧∀ code most',most≤most'→(Instr.sliceBound (.int k i) most' code).run P w= .ok n w):=by
 unfold z4n at h;split at h
 · simp only [Option.some.injEq] at h;cases v with
   | none=>exact .inl ⟨rfl,h.symm⟩
   | some v=>exact hb.elim
 · rename_i k i;split at h<;>simp only [Option.some.injEq,reduceCtorEq] at h
   rename_i hc;cases v with
   | none=>exact hb.elim
   | some v=>
    have:=TRep.int_inv hb;subst this;refine .inr ⟨_,_,rfl,hc.1,h,by omega,fun code most' hm=> ?_⟩;have:i≤most':=by omega
    simp [Instr.sliceBound,asIntOf,hc.1,this,h]
 · cases h
theorem zkq {lo hi mx:Option TV} {l h m:Option Value} {len cap a b c:Nat} (isSlice:Bool) (hc:z4n mx len len=some c) (hb:z4n hi len len=some b) (ha:z4n lo 0 b=some a) (hbc:b≤c) (hlc:len≤cap)
  (hm:bnd mx m w X β) (hh:bnd hi h w X β) (hl:bnd lo l w X β) (hhm:mx.isSome=true→hi.isSome=true):
  ∃ m',(Instr.sliceBounds isSlice len cap l h m).run P w= .ok (a,b,m') w∧b≤m'∧m'≤cap∧a≤b∧b≤len:=by
 have hbl:b≤len:=by
  rcases z1o (P:=P) hb hh with ⟨_,h1⟩ | ⟨_,_,_,_,_,h1,_⟩<;>omega
 have hab:a≤b:=by
  rcases z1o (P:=P) ha hl with ⟨_,h1⟩ | ⟨_,_,_,_,_,h1,_⟩<;>omega
 rcases z1o (P:=P) hc hm with ⟨rfl,rfl⟩ | ⟨km,im,rfl,_,_,hcl,hmr⟩
 · refine ⟨cap, ?_,by omega,Nat.le_refl _,hab,hbl⟩;rcases z1o (P:=P) hb hh with ⟨rfl,rfl⟩ | ⟨kh,ih,rfl,_,_,_,hhr⟩
   · rcases z1o (P:=P) ha hl with ⟨rfl,rfl⟩ | ⟨kl,il,rfl,_,_,_,hlr⟩
     · simp [Instr.sliceBounds]
     · simp [Instr.sliceBounds,hlr _ _ (Nat.le_refl _)]
   · rcases z1o (P:=P) ha hl with ⟨rfl,rfl⟩ | ⟨kl,il,rfl,_,_,_,hlr⟩
     · simp [Instr.sliceBounds,hhr _ _ hlc]
     · simp [Instr.sliceBounds,hlr _ _ (Nat.le_refl _),hhr _ _ hlc]
 · refine ⟨c, ?_,hbc,by omega,hab,hbl⟩;rcases z1o (P:=P) hb hh with ⟨rfl,rfl⟩ | ⟨kh,ih,rfl,_,_,_,hhr⟩
   · cases mx with
     | none=>exact hm.elim
     | some x=>cases hi with
      | none=>simp at hhm
      | some y=>exact hh.elim
   · have hbr:∀ code,(Instr.sliceBound (.int kh ih) c code).run P w= .ok b w:=by
      intro code;have h2:0≤ih∧ih.toNat=b:=by constructor<;>assumption
      have h1:ih≤c:=by omega
      simp [Instr.sliceBound,asIntOf,h2.1,h1,h2.2]
     rcases z1o (P:=P) ha hl with ⟨rfl,rfl⟩ | ⟨kl,il,rfl,_,_,_,hlr⟩
     · simp [Instr.sliceBounds,hmr _ _ hlc,hbr]
     · simp [Instr.sliceBounds,hmr _ _ hlc,hbr,hlr _ _ (Nat.le_refl _)]
theorem zhb {lo hi mx:Option TV} {l h m:Option Value} {len cap:Nat} (isSlice:Bool) (hc:z4n mx len len=some 0) (hb:z4n hi len len=some 0) (ha:z4n lo 0 0=some 0) (hlc:len≤cap)
  (hm:bnd mx m w X β) (hh:bnd hi h w X β) (hl:bnd lo l w X β) (hms:mx.isSome=true) (hhm:hi.isSome=true):
  (Instr.sliceBounds isSlice len cap l h m).run P w= .ok (0,0,0) w:=by
 rcases z1o (P:=P) hc hm with ⟨rfl,_⟩ | ⟨km,im,rfl,_,_,hcl,hmr⟩
 · cases mx with
   | none=>simp at hms
   | some x=>exact hm.elim
 · rcases z1o (P:=P) hb hh with ⟨rfl,rfl⟩ | ⟨kh,ih,rfl,_,_,_,hhr⟩
   · cases hi with
     | none=>simp at hhm
     | some y=>exact hh.elim
   · have hbr:∀ code,(Instr.sliceBound (.int kh ih) 0 code).run P w= .ok 0 w:=by
      intro code;have h2:0≤ih∧ih.toNat=0:=by constructor<;>assumption
      have h1:ih≤0:=by omega
      simp [Instr.sliceBound,asIntOf,h2.1,h1,h2.2]
     rcases z1o (P:=P) ha hl with ⟨rfl,_⟩ | ⟨kl,il,rfl,_,_,_,hlr⟩
     · simp [Instr.sliceBounds,hmr _ _ hlc,hbr]
     · simp [Instr.sliceBounds,hmr _ _ hlc,hbr,hlr _ _ (Nat.le_refl _)]
end
end Go.AM

namespace Go.AM
section
variable {P:Program} {w:World} {X:Nat→Prop} {β:Nat→Option Nat}
theorem zbg (l:List UInt8)(a b:Nat):(⟨l.toArray⟩:ByteArray).extract a b=⟨((l.take b).drop a).toArray⟩:=by
 apply ByteArray.ext;apply Array.ext';simp [ByteArray.data_extract,List.extract_eq_take_drop,List.drop_take]
theorem z4e {lo hi mx:Option TV} {l h m:Option Value} {len cap:Nat} {p:Nat×Nat} (isSlice:Bool) (hb:zca lo hi mx len=some p) (hlc:len≤cap)
  (hl:bnd lo l w X β) (hh:bnd hi h w X β) (hm:bnd mx m w X β):∃ m',(Instr.sliceBounds isSlice len cap l h m).run P w= .ok (p.1,p.2,m') w∧p.2≤m'∧m'≤cap∧p.1≤p.2∧p.2≤len:=by
 unfold zca at hb;split at hb
 · rename_i c b hc hbb;split at hb
   · rename_i hcond;obtain ⟨a,ha,rfl⟩:=Option.map_eq_some_iff.1 hb;exact zkq isSlice hc hbb ha hcond.1 hlc hm hh hl hcond.2
   · cases hb
 · cases hb
theorem zrl {lo hi mx:Option TV} {l h m:Option Value} {len cap:Nat} {p:Nat×Nat} (isSlice:Bool) (hz:z6t mx=true) (hb:zca lo hi mx len=some p) (hlc:len≤cap)
  (hl:bnd lo l w X β) (hh:bnd hi h w X β) (hm:bnd mx m w X β):(Instr.sliceBounds isSlice len cap l h m).run P w= .ok (0,0,0) w:=by
 have hm0:z4n mx len len=some 0:=by
  unfold z6t at hz;split at hz
  · simp only [beq_iff_eq] at hz;subst hz;simp [z4n]
  · cases hz
 have hms:mx.isSome=true:=by
  unfold z6t at hz;split at hz
  · rfl
  · cases hz
 unfold zca at hb;rw [hm0] at hb;split at hb
 · rename_i c b hcc hbb;simp only [Option.some.injEq] at hcc;subst hcc;split at hb
   · rename_i hcond;obtain ⟨a,ha,rfl⟩:=Option.map_eq_some_iff.1 hb;have hb0:b=0:=by omega
     subst hb0
     have ha0:a=0:=by
      rcases z1o (P:=P) ha hl with ⟨_,h1⟩ | ⟨_,_,_,_,_,h1,_⟩<;>omega
     subst ha0;exact zhb isSlice hm0 hbb ha hlc hm hh hl hms (hcond.2 hms)
   · cases hb
 · cases hb
theorem zkb {x r:TV} {u:Value} {t:TypeId} {d:TyD} {lo hi mx:Option TV} {l h m:Option Value} (hd:tyOf P t=some d) (hs:z4s P d x lo hi mx=some r) (hx:TRep w X β x u)
  (hl:bnd lo l w X β) (hh:bnd hi h w X β) (hm:bnd mx m w X β):∃ z,(Instr.sliceAt t u l h m).run P w= .ok z w∧TRep w X β r z:=by
 unfold z4s at hs;split at hs
 · rename_i e hk;have ht:=z2e hd hk;split at hs
   · rename_i de hde;unfold zaw at hs;split at hs
     · obtain ⟨p,hp,rfl⟩:=Option.map_eq_some_iff.1 hs;obtain ⟨m',hr,h1,h2,h3,h4⟩:=z4e (P:=P) (w:=w) (cap:=0) true hp (Nat.le_refl _) hl hh hm;rw [hx.nils_inv];have e2:p.2=0:=by omega
       have e1:p.1=0:=by omega
       have e3:m'=0:=by omega
       rw [e1,e2,e3] at hr;refine ⟨.slice none 0 0, ?_, .fz_mk .N⟩;simp [Instr.sliceAt,Instr.slice,run_underlying ht,hr,z0p hde]
     · rename_i nn n es;split at hs
       · rename_i hn;obtain ⟨p,hp,rfl⟩:=Option.map_eq_some_iff.1 hs;have h2:=hx.fz_inv;cases h2 with
         | sl0 _ _ a=>
          obtain ⟨m',hr,h1,h2,h3,h4⟩:=z4e (P:=P) (w:=w) (cap:=0) true hp (Nat.le_refl _) hl hh hm;have e2:p.2=0:=by simp at h4;omega
          have e1:p.1=0:=by omega
          have e3:m'=0:=by omega
          rw [e1,e2,e3] at hr;simp only [List.length_nil] at hr;refine ⟨.slice (some a) 0 0, ?_, ?_⟩
          · simp [Instr.sliceAt,Instr.slice,run_underlying ht,hr,z0p hde]
          · split
            · exact .fz_mk (.z0 _ _)
            · exact .fz_mk (by simpa using FRep.sl0 _ n a)
         | slnil n=>
          obtain ⟨m',hr,h1,h2,h3,h4⟩:=z4e (P:=P) (w:=w) (cap:=0) true hp (Nat.le_refl _) hl hh hm;have e2:p.2=0:=by simp at h4;omega
          have e1:p.1=0:=by omega
          have e3:m'=0:=by omega
          rw [e1,e2,e3] at hr;simp only [List.length_nil] at hr;refine ⟨.slice none 0 0, ?_, ?_⟩
          · simp [Instr.sliceAt,Instr.slice,run_underlying ht,hr,z0p hde]
          · split
            · exact .fz_mk .z0n
            · exact .fz_mk (by simpa using FRep.slnil n)
         | sl nn n es b off cap len u g1 g2 g3 g4 g5 g6 g7=>
          subst g1;by_cases hzm:z6t mx=true
          · have hr:=zrl (P:=P) (w:=w) true hzm hp g2 hl hh hm;rw [if_pos hzm];exact ⟨.slice (some ⟨b,off,none⟩) 0 0,by simp [Instr.sliceAt,Instr.slice,run_underlying ht,hr,z0p hde], .fz_mk (.z0 _ _)⟩
          rw [if_neg hzm];obtain ⟨m',hr,h1,h2,h3,h4⟩:=z4e (P:=P) (w:=w) true hp g2 hl hh hm;have hlen:p.2-p.1=((es.take p.2).drop p.1).length:=by simp;omega
          have hget:∀ i:Nat,∀ e,((es.take p.2).drop p.1)[i]? =some e→es[p.1+i]? =some e:=by
           intro i e he;rw [List.getElem?_drop,List.getElem?_take] at he;split at he
           · exact he
           · cases he
          refine ⟨.slice (some (if m'=p.1 then ⟨b,off,none⟩ else ⟨b,off+p.1*de.size,none⟩)) (p.2-p.1) (m'-p.1), ?_, ?_⟩
          · simp [Instr.sliceAt,Instr.slice,run_underlying ht,hr,z0p hde,Addr.add_lit];split<;>rfl
          · by_cases hz:m'=p.1
            · simp only [hz,if_true];have hnil:(es.take p.2).drop p.1=[]:=List.eq_nil_of_length_eq_zero (by omega);refine .fz_mk (.sl nn n _ b off _ _ (fun _ _=>undef) hlen (by omega) g3 g4 ?_ ?_ ?_)
              · intro i e he;rw [hnil] at he;simp at he
              · intro i j e f he;rw [hnil] at he;simp at he
              · intro i j e f he;rw [hnil] at he;simp at he
            · simp only [hz,if_false];refine .fz_mk (.sl nn n _ b _ _ _ (fun i j=>u (p.1+i) j) hlen (by omega) g3 g4 ?_ ?_ ?_)
              · intro i e he;exact g5 _ _ (hget i e he)
              · intro i j e f he hf;have:=g6 _ _ _ _ (hget i e he) hf;rw [←hn,show off+p.1*n+i*n+j=off+(p.1+i)*n+j by rw [Nat.add_mul];omega];exact this
              · intro i j e f he hf;exact g7 _ _ _ _ (hget i e he) hf
       · cases hs
     · obtain ⟨p,hp,rfl⟩:=Option.map_eq_some_iff.1 hs;have h2:=hx.fz_inv;obtain ⟨m',hr,h1,h2',h3,h4⟩:=z4e (P:=P) (w:=w) (cap:=0) true hp (Nat.le_refl _) hl hh hm;have e2:p.2=0:=by omega
       have e1:p.1=0:=by omega
       have e3:m'=0:=by omega
       rw [e1,e2,e3] at hr;cases h2 with
       | z0 _ a=>exact ⟨.slice (some a) 0 0,by simp [Instr.sliceAt,Instr.slice,run_underlying ht,hr,z0p hde], .fz_mk (.z0 _ _)⟩
       | z0n=>exact ⟨.slice none 0 0,by simp [Instr.sliceAt,Instr.slice,run_underlying ht,hr,z0p hde], .fz_mk .z0n⟩
     · rename_i o n off len;split at hs
       · rename_i hn;obtain ⟨p,hp,rfl⟩:=Option.map_eq_some_iff.1 hs;obtain ⟨b,q,cap,sz,tt,hb,hsh,hlc,hcap,hq,rfl⟩ | ⟨h0,rfl⟩:=hx.osl_inv
         case inr=>
          subst h0;obtain ⟨m',hr,h1,h2',h3,h4⟩:=z4e (P:=P) (w:=w) (cap:=0) true hp (Nat.le_refl _) hl hh hm;have e2:p.2=0:=by omega
          have e1:p.1=0:=by omega
          have e3:m'=0:=by omega
          rw [e1,e2,e3] at hr;exact ⟨.slice none 0 0,by simp [Instr.sliceAt,Instr.slice,run_underlying ht,hr,z0p hde],by rw [e1,e2];exact .a _ _ (.oslN _ _ _)⟩
         obtain ⟨m',hr,h1,h2,h3,h4⟩:=z4e (P:=P) (w:=w) true hp hlc hl hh hm;refine ⟨.slice (some (if m'=p.1 then ⟨b,q,none⟩ else ⟨b,q+p.1*de.size,none⟩)) (p.2-p.1) (m'-p.1), ?_, ?_⟩
         · simp [Instr.sliceAt,Instr.slice,run_underlying ht,hr,z0p hde,Addr.add_lit];split<;>rfl
         · have hle:(off+p.1+(m'-p.1))*n≤sz:=Nat.le_trans (Nat.mul_le_mul_right _ (by omega)) hcap;by_cases hz:m'=p.1
           · simp only [hz,if_true];exact .a _ _ (.osl _ _ _ _ b q _ sz tt hb hsh (by omega) (by rw [hz] at hle;exact hle) (.inr (by omega)))
           · simp only [hz,if_false];refine .a _ _ (.osl _ _ _ _ b _ _ sz tt hb hsh (by omega) hle (.inl ?_));rw [←hn,hq.resolve_right (by omega),Nat.add_mul]
       · cases hs
     · cases hs
   · cases hs
 · rename_i hk;have ht:=zhz hd hk;unfold zha at hs;split at hs
   · obtain ⟨p,hp,rfl⟩:=Option.map_eq_some_iff.1 hs;rename_i s;cases m with
     | some v=>exact hm.elim
     | none=>
      obtain ⟨m',hr,h1,h2,h3,h4⟩:=z4e (P:=P) (w:=w) (cap:=s.length) false hp (Nat.le_refl _) hl hh hm;rw [hx.str_inv];refine ⟨_, ?_, .str_mk _⟩;have hsz:(⟨s.toArray⟩:ByteArray).size=s.length:=by simp [ByteArray.size]
      simp [Instr.sliceAt,Instr.slice,run_underlying ht,hsz,hr,zbg]
   · cases hs
 · cases hs
theorem zv6 (vs:List Value):∀ (k off:Nat) (cs:List Value),off+k+vs.length≤cs.length→
  (vs.zipIdx k).foldl (fun (cs:Array Value) (x:Value×Nat)=>cs.setIfInBounds (off+x.2) x.1) cs.toArray=(cs.take (off+k)++vs++cs.drop (off+k+vs.length)).toArray:=by
 induction vs with
 | nil=>intro k off cs h;simp
 | cons v vs ih=>
  intro k off cs h;simp only [List.zipIdx_cons,List.foldl_cons,List.setIfInBounds_toArray];rw [ih (k+1) off (cs.set (off+k) v) (by simp at h ⊢;omega)];congr 1;apply List.ext_getElem?;intro j;simp only [List.length_cons,List.getElem?_append,List.length_append,List.length_take,List.length_set,List.getElem?_take,List.getElem?_drop,List.getElem?_set,List.length_cons];simp at h;by_cases h1:j<off+k
  · simp only [show j<min (off+(k+1)) cs.length+vs.length by omega,show j<min (off+(k+1)) cs.length by omega,show j<off+(k+1) by omega,show¬(off+k=j) by omega,
     show j<min (off+k) cs.length+(vs.length+1) by omega,show j<min (off+k) cs.length by omega,h1,if_true,if_false]
  · by_cases h2:j=off+k
    · subst h2
      simp only [show off+k<min (off+(k+1)) cs.length+vs.length by omega,show off+k<min (off+(k+1)) cs.length by omega,show off+k<off+(k+1) by omega,show off+k<cs.length by omega,
       show off+k<min (off+k) cs.length+(vs.length+1) by omega,show¬(off+k<min (off+k) cs.length) by omega,if_true,if_false,show off+k-min (off+k) cs.length=0 by omega,List.getElem?_cons_zero]
    · by_cases h3:j<off+k+1+vs.length
      · simp only [show j<min (off+(k+1)) cs.length+vs.length by omega,show¬(j<min (off+(k+1)) cs.length) by omega,
         show j<min (off+k) cs.length+(vs.length+1) by omega,show¬(j<min (off+k) cs.length) by omega,if_true,if_false]
        rw [show j-min (off+k) cs.length=(j-min (off+(k+1)) cs.length)+1 by omega,List.getElem?_cons_succ]
      · simp only [show¬(j<min (off+(k+1)) cs.length+vs.length) by omega,show¬(j<min (off+k) cs.length+(vs.length+1)) by omega,if_false];rw [show off+(k+1)+vs.length+(j-(min (off+(k+1)) cs.length+vs.length))=j by omega,show off+k+(vs.length+1)+(j-(min (off+k) cs.length+(vs.length+1)))=j by omega];simp only [show¬(off+k=j) by omega,if_false]
theorem LRep.splice {cs ds:List WV}{us vs:List Value}{j:Nat}(h:LRep (WRep w X β) cs us)(k:LRep (WRep w X β) ds vs):LRep (WRep w X β) (splice cs j ds) (us.take j++vs++us.drop (j+vs.length)):=by
 unfold AM.splice;rw [k.1];exact ((h.take j).append k).append (h.drop _)
theorem zad {place place':Nat→Option (Nat×Nat)}(hp:∀ i,place' i=place i):∀ (parts:List (Nat×TV)) (vals:List (Nat×Value)) (cs r:List WV) (us:List Value),zfm place cs parts=some r→LRep (WRep w X β) cs us→
  parts.length=vals.length→(∀ (j:Nat) (p:Nat×TV) (v:Nat×Value),parts[j]? =some p→vals[j]? =some v→p.1=v.1∧TRep w X β p.2 v.2)→∃ vs,Instr.fill place' us.toArray vals=some vs.toArray∧LRep (WRep w X β) r vs
 | [],vals,cs,r,us,h,hl,hlen,_=>by
  simp only [zfm,Option.some.injEq] at h;subst h;cases vals with
  | nil=>exact ⟨us,rfl,hl⟩
  | cons _ _=>simp at hlen
 | (i,v)::rest,vals,cs,r,us,h,hl,hlen,hr=>by
  cases vals with
  | nil=>simp at hlen
  | cons x vals=>
   obtain ⟨i',u⟩:=x;obtain ⟨hi,hv⟩:=hr 0 _ _ rfl rfl;simp only at hi hv;subst hi;simp only [zfm] at h;split at h
   · rename_i off size ds hpl hds;split at h
     · rename_i hc;have hcl:=zav hv hds;have hsz:u.cells.size=ds.length:=by have:=hcl.1;simpa using this.symm
       have hfit:¬(off+u.cells.size>us.length):=by rw [hsz,←hl.1];omega
       obtain ⟨vs,h1,h2⟩:=zad hp rest vals _ r _ h (hl.splice hcl) (by simpa using hlen) (fun j p v hp hv=>hr (j+1) p v (by simpa using hp) (by simpa using hv));refine ⟨vs, ?_,h2⟩;have hf:=zv6 u.cells.toList 0 off us (by simp;omega);simp only [Instr.fill,hp,hpl];rw [if_neg (by simp only [hsz,hc.1,List.size_toArray,ne_eq,not_true_eq_false,decide_false,Bool.false_or,decide_eq_true_eq];rw [←hc.1,←hsz];exact hfit)];rw [←h1];congr 1;rw [←Array.foldl_toList];simp only [Array.toList_zipIdx];simpa using hf
     · cases h
   · cases h
end
end Go.AM

namespace Go.AM
def upd {α:Type}(f:Nat→α)(i:Nat)(x:α)(j:Nat):α:=if j=i then x else f j
section
variable {P:Program} {h:Nat→AObj} {β:Nat→Option Nat} {Y:Nat→Prop} {w:World}
abbrev XO (Y:Nat→Prop)(h:Nat→AObj)(β:Nat→Option Nat):Nat→Prop:=fun b=>Y b∨Own h β b
theorem zae (hO:Objs h β Y w) (hY:∀ b,Y b→b<w.heap.size) {fr:Nat} (hfr:β fr=none) (n:Nat) (es:List (List WV)) (us:List Value) (t:TypeId) (dr:Nat)
  (h1:es.length*n≤us.length) (h2:∀ e∈es,e.length=n)
  (h3:∀ (i j:Nat) (e:List WV) (c:WV),es[i]? =some e→e[j]? =some c→∃ u,us[i*n+j]? =some u∧WRep w (XO Y h β) β c u):
  Moves h (upd h fr (.arr n es)) β (upd β fr (some w.heap.size)) Y w { w with heap:=w.heap.push (.cells us.toArray t (0,0)),drawn:=w.drawn+dr } (fun o=>o=fr):=by
 have hβ:∀ o b,β o=some b→upd β fr (some w.heap.size) o=some b:=by
  intro o b hb;unfold upd;split
  · rename_i e;subst e;rw [hfr] at hb;cases hb
  · exact hb
 have hβ':∀ o b,upd β fr (some w.heap.size) o=some b→(β o=some b∧o≠fr)∨(o=fr∧b=w.heap.size):=by
  intro o b hb;unfold upd at hb;split at hb
  · rename_i e;exact .inr ⟨e,by simpa using hb.symm⟩
  · rename_i e;exact .inl ⟨hb,e⟩
 have hlive:∀ o,isLive (upd h fr (.arr n es) o)→isLive (h o)∨o=fr:=by
  intro o hl;unfold upd at hl;split at hl
  · rename_i e;exact .inr e
  · exact .inl hl
 have hg:Goes w { w with heap:=w.heap.push (.cells us.toArray t (0,0)),drawn:=w.drawn+dr } (XO Y h β) (XO Y (upd h fr (.arr n es)) (upd β fr (some w.heap.size))) β (upd β fr (some w.heap.size)):=by
  refine ⟨by simp,fun b hx hb=>⟨by simp [Array.getElem?_push,show b≠w.heap.size by omega],fun hx'=> ?_⟩,fun b hb=>by simp [World.shape?,Array.getElem?_push,show b≠w.heap.size by omega],fun o b hb=>⟨hβ o b hb,hO.lt o b hb⟩⟩;rcases hx' with hy | ⟨o,hl,ho⟩
  · exact hx (.inl hy)
  · rcases hβ' o b ho with ⟨ho,hne⟩ | ⟨_,e⟩
    · exact hx (.inr ⟨o,(hlive o hl).resolve_right hne,ho⟩)
    · omega
 refine ⟨⟨by simp,fun b hb _=>by simp [Array.getElem?_push,show b≠w.heap.size by omega],fun b hb=>by simp [World.shape?,Array.getElem?_push,show b≠w.heap.size by omega],rfl,rfl,rfl⟩, ?_,hβ, ?_,hlive⟩
 · refine ⟨fun o b hl hb=> ?_,fun o hl=> ?_,fun o o' b hl hl' hb hb'=> ?_,fun o b hb=> ?_⟩
   · rcases hβ' o b hb with ⟨ho,hne⟩ | ⟨e,eb⟩
     · have hlo:=(hlive o hl).resolve_right hne;rw [show upd h fr (.arr n es) o=h o by simp [upd,hne]];exact (hO.rep o b hlo ho).goes hg (by simp [Array.getElem?_push,show b≠w.heap.size by have:=hO.lt o b ho;omega])
     · subst e;subst eb;rw [show upd h o (.arr n es) o= .arr n es by simp [upd]];refine ⟨us,t,by simp,h1,h2,fun i j e c he hc=> ?_⟩;obtain ⟨u,hu,hr⟩:=h3 i j e c he hc;exact ⟨u,hu,hr.goes hg⟩
   · rcases hlive o hl with hlo | e
     · by_cases e:o=fr
       · subst e;exact .inl ⟨w.heap.size,by simp [upd],by simp,fun hy=>by have:=hY _ hy;omega⟩
       · rcases hO.has o hlo with ⟨b,hb,hlt,hny⟩ | ⟨hb,hn⟩
         · exact .inl ⟨b,hβ o b hb,by simp;omega,hny⟩
         · exact .inr (by simp only [upd,e,if_false];exact ⟨hb,hn⟩)
     · subst e;exact .inl ⟨w.heap.size,by simp [upd],by simp,fun hy=>by have:=hY _ hy;omega⟩
   · rcases hβ' o b hb with ⟨ho,hne⟩ | ⟨e,eb⟩
     · rcases hβ' o' b hb' with ⟨ho',hne'⟩ | ⟨e',eb'⟩
       · exact hO.inj o o' b ((hlive o hl).resolve_right hne) ((hlive o' hl').resolve_right hne') ho ho'
       · have:=hO.lt o b ho;omega
     · rcases hβ' o' b hb' with ⟨ho',hne'⟩ | ⟨e',eb'⟩
       · have:=hO.lt o' b ho';omega
       · rw [e,e']
   · rcases hβ' o b hb with ⟨ho,_⟩ | ⟨_,eb⟩
     · have:=hO.lt o b ho;simp;omega
     · simp;omega
 · intro o b hb;rcases hβ' o b hb with ⟨ho,_⟩ | ⟨e,eb⟩
   · exact .inl ho
   · exact .inr ⟨e, .inl (by omega)⟩
theorem zew (hO:Objs h β Y w) {o b:Nat} (hl:isLive (h o)) (hb:β o=some b) (us:List Value) (old:List Value) (t:TypeId) (hold:w.heap[b]? =some (.cells old.toArray t (0,0))) (hlen:us.length=old.length) (n:Nat) (es:List (List WV))
  (h1:es.length*n≤us.length) (h2:∀ e∈es,e.length=n)
  (h3:∀ (i j:Nat) (e:List WV) (c:WV),es[i]? =some e→e[j]? =some c→∃ u,us[i*n+j]? =some u∧WRep w (XO Y h β) β c u):
  Moves h (upd h o (.arr n es)) β β Y w (w.setRow b us.toArray) (fun _=>False):=by
 have hheap:∀ k,k≠b→(w.setRow b us.toArray).heap[k]? =w.heap[k]? :=fun k hk=>setRow_other w b k _ hk;have hsame:(w.setRow b us.toArray).heap[b]? =some (.cells us.toArray t (0,0)):=setRow_heap w b old.toArray _ t _ hold;have hown:Own h β b:=⟨o,hl,hb⟩
 have hlive:∀ o',isLive (upd h o (.arr n es) o')→isLive (h o'):=by
  intro o' hl';unfold upd at hl';split at hl'
  · rename_i e;subst e;exact hl
  · exact hl'
 have hlive':∀ o',isLive (h o')→isLive (upd h o (.arr n es) o'):=by
  intro o' hl';unfold upd;split
  · trivial
  · exact hl'
 have hsize:(w.setRow b us.toArray).heap.size=w.heap.size:=by simp
 have hshape:∀ k,(w.setRow b us.toArray).shape? k=w.shape? k:=by
  intro k;by_cases hk:k=b
  · subst hk;simp [World.shape?,hsame,hold,hlen]
  · simp [World.shape?,hheap k hk]
 have hg:Goes w (w.setRow b us.toArray) (XO Y h β) (XO Y (upd h o (.arr n es)) β) β β:=by
  refine ⟨by omega,fun k hx hk=>⟨hheap k (fun e=>hx (.inr (e▸hown))),fun hx'=> ?_⟩,fun k _=>hshape k,fun o b hb=>⟨hb,hO.lt o b hb⟩⟩;rcases hx' with hy | ⟨o',hl',ho'⟩
  · exact hx (.inl hy)
  · exact hx (.inr ⟨o',hlive o' hl',ho'⟩)
 refine ⟨⟨by omega,fun k hk hno=>hheap k (fun e=>hno (e▸hown)),fun k _=>hshape k,rfl,rfl,rfl⟩, ?_,fun _ _ h=>h,fun _ _ h=> .inl h,fun o' hl'=> .inl (hlive o' hl')⟩;refine ⟨fun o' b' hl' hb'=> ?_,fun o' hl'=> ?_,fun o1 o2 b' hl1 hl2 hb1 hb2=>hO.inj o1 o2 b' (hlive o1 hl1) (hlive o2 hl2) hb1 hb2,fun o' b' hb'=>by rw [hsize];exact hO.lt o' b' hb'⟩
 · by_cases he:o'=o
   · subst he;have:b'=b:=by rw [hb] at hb';simpa using hb'.symm
     subst this;rw [show upd h o' (.arr n es) o'= .arr n es by simp [upd]];refine ⟨us,t,hsame,h1,h2,fun i j e c he hc=> ?_⟩;obtain ⟨u,hu,hr⟩:=h3 i j e c he hc;exact ⟨u,hu,hr.goes hg⟩
   · rw [show upd h o (.arr n es) o'=h o' by simp [upd,he]];have hlo:=hlive o' hl';have hne:b'≠b:=fun e=>he (hO.inj o' o b' hlo hl hb' (e▸hb));exact (hO.rep o' b' hlo hb').goes hg (hheap b' hne)
 · by_cases e:o'=o
   · subst e;rcases hO.has o' hl with ⟨b',hb',hlt,hny⟩ | ⟨_,hn⟩
     · exact .inl ⟨b',hb',by rw [hsize];exact hlt,hny⟩
     · rw [hn] at hb;cases hb
   · rcases hO.has o' (hlive o' hl') with ⟨b',hb',hlt,hny⟩ | ⟨hb',hn⟩
     · exact .inl ⟨b',hb',by rw [hsize];exact hlt,hny⟩
     · exact .inr (by simp only [upd,e,if_false];exact ⟨hb',hn⟩)
theorem zbq (hO:Objs h β Y w){o fr b:Nat}(hl:isLive (h o))(hb:β o=some b)(hfr:β fr=none):
  Moves h (upd (upd h o .gone) fr (h o)) β (upd β fr (some b)) Y w w (fun k=>k=fr):=by
 have hne:o≠fr:=fun e=>by rw [e,hfr] at hb;cases hb
 have hβ:∀ o' b',β o'=some b'→upd β fr (some b) o'=some b':=by
  intro o' b' hb';unfold upd;split
  · rename_i e;subst e;rw [hfr] at hb';cases hb'
  · exact hb'
 have hβ':∀ o' b',upd β fr (some b) o'=some b'→(β o'=some b'∧o'≠fr)∨(o'=fr∧b'=b):=by
  intro o' b' hb';unfold upd at hb';split at hb'
  · rename_i e;exact .inr ⟨e,by simpa using hb'.symm⟩
  · rename_i e;exact .inl ⟨hb',e⟩
 have hval:∀ k,isLive (upd (upd h o .gone) fr (h o) k)→(k=fr∨(k≠fr∧k≠o∧isLive (h k)∧upd (upd h o .gone) fr (h o) k=h k)):=by
  intro k hk;by_cases e1:k=fr
  · exact .inl e1
  · by_cases e2:k=o
    · exfalso;subst e2;simp [upd,e1,isLive] at hk
    · exact .inr ⟨e1,e2,by simpa [upd,e1,e2] using hk,by simp [upd,e1,e2]⟩
 have hg:Goes w w (XO Y h β) (XO Y (upd (upd h o .gone) fr (h o)) (upd β fr (some b))) β (upd β fr (some b)):=by
  refine ⟨Nat.le_refl _,fun k hx hk=>⟨rfl,fun hx'=> ?_⟩,fun _ _=>rfl,fun o b hb=>⟨hβ o b hb,hO.lt o b hb⟩⟩;rcases hx' with hy | ⟨o',hl',ho'⟩
  · exact hx (.inl hy)
  · rcases hβ' o' k ho' with ⟨ho',hne'⟩ | ⟨e1,e2⟩
    · rcases hval o' hl' with e | ⟨_,_,hlo,_⟩
      · exact absurd e hne'
      · exact hx (.inr ⟨o',hlo,ho'⟩)
    · subst e2;exact hx (.inr ⟨o,hl,hb⟩)
 refine ⟨Good.refl _ _, ?_,hβ, ?_, ?_⟩
 · refine ⟨fun o' b' hl' hb'=> ?_,fun o' hl'=> ?_,fun o1 o2 b' hl1 hl2 hb1 hb2=> ?_,fun o' b' hb'=> ?_⟩
   · rcases hβ' o' b' hb' with ⟨ho',hne'⟩ | ⟨e1,e2⟩
     · rcases hval o' hl' with e | ⟨_,_,hlo,hv⟩
       · exact absurd e hne'
       · rw [hv];exact (hO.rep o' b' hlo ho').goes hg rfl
     · subst e1;subst e2;rw [show upd (upd h o .gone) o' (h o) o'=h o by simp [upd]];exact (hO.rep o b' hl hb).goes hg rfl
   · rcases hval o' hl' with e | ⟨hne1,_,hlo,hv⟩
     · subst e;rcases hO.has o hl with ⟨b',hb',hlt,hny⟩ | ⟨_,hn⟩
       · rw [hb] at hb';injection hb' with hb'
         subst hb';exact .inl ⟨b,by simp [upd],hlt,hny⟩
       · rw [hn] at hb;cases hb
     · rcases hO.has o' hlo with ⟨b',hb',hlt,hny⟩ | ⟨hb',hn⟩
       · exact .inl ⟨b',hβ o' b' hb',hlt,hny⟩
       · refine .inr ?_;rw [hv];exact ⟨hb',by simp only [upd];rw [if_neg hne1];exact hn⟩
   · rcases hβ' o1 b' hb1 with ⟨h1,n1⟩ | ⟨e1,f1⟩
     · rcases hβ' o2 b' hb2 with ⟨h2,n2⟩ | ⟨e2,f2⟩
       · exact hO.inj o1 o2 b' ((hval o1 hl1).resolve_left n1).2.2.1 ((hval o2 hl2).resolve_left n2).2.2.1 h1 h2
       · subst f2;have v1:=(hval o1 hl1).resolve_left n1;exact absurd (hO.inj o1 o b' v1.2.2.1 hl h1 hb) v1.2.1
     · rcases hβ' o2 b' hb2 with ⟨h2,n2⟩ | ⟨e2,f2⟩
       · subst f1;have v2:=(hval o2 hl2).resolve_left n2;exact absurd (hO.inj o2 o b' v2.2.2.1 hl h2 hb) v2.2.1
       · rw [e1,e2]
   · rcases hβ' o' b' hb' with ⟨ho',_⟩ | ⟨_,e2⟩
     · exact hO.lt o' b' ho'
     · subst e2;exact hO.lt o b' hb
 · intro o' b' hb';rcases hβ' o' b' hb' with ⟨ho',_⟩ | ⟨e1,e2⟩
   · exact .inl ho'
   · subst e2;exact .inr ⟨e1, .inr ⟨o,hl,hb⟩⟩
 · intro k hk;rcases hval k hk with e | ⟨_,_,hlo,_⟩
   · exact .inr e
   · exact .inl hlo
theorem zbd (hO:Objs h β Y w)(o:Nat):Moves h (upd h o .gone) β β Y w w (fun _=>False):=by
 have hlive:∀ k,isLive (upd h o .gone k)→isLive (h k)∧k≠o:=by
  intro k hk;unfold upd at hk;split at hk
  · exact hk.elim
  · rename_i e;exact ⟨hk,e⟩
 have hg:Goes w w (XO Y h β) (XO Y (upd h o .gone) β) β β:=by
  refine ⟨Nat.le_refl _,fun k hx hk=>⟨rfl,fun hx'=> ?_⟩,fun _ _=>rfl,fun o b hb=>⟨hb,hO.lt o b hb⟩⟩;rcases hx' with hy | ⟨o',hl',ho'⟩
  · exact hx (.inl hy)
  · exact hx (.inr ⟨o',(hlive o' hl').1,ho'⟩)
 refine ⟨Good.refl _ _,⟨fun o' b' hl' hb'=> ?_,fun o' hl'=>by
   have hx:=hlive o' hl';simp only [upd,hx.2,if_false];exact hO.has o' hx.1,fun o1 o2 b' hl1 hl2 hb1 hb2=>hO.inj o1 o2 b' (hlive o1 hl1).1 (hlive o2 hl2).1 hb1 hb2,hO.lt⟩,fun _ _ h=>h,fun _ _ h=> .inl h,fun k hk=> .inl (hlive k hk).1⟩
 rw [show upd h o .gone o'=h o' by simp [upd,(hlive o' hl').2]];exact (hO.rep o' b' (hlive o' hl').1 hb').goes hg rfl
theorem zsd (hO:Objs h β Y w)(o:Nat){fr:Nat}(hfr:β fr=none)(n:Nat):Moves h (upd (upd h o .gone) fr (.arr n [])) β β Y w w (fun k=>k=fr):=by
 have hval:∀ k,isLive (upd (upd h o .gone) fr (.arr n []) k)→k=fr∨(k≠fr∧isLive (h k)∧upd (upd h o .gone) fr (.arr n []) k=h k):=by
  intro k hk;by_cases e1:k=fr
  · exact .inl e1
  · by_cases e2:k=o
    · exfalso;subst e2;simp [upd,e1,isLive] at hk
    · exact .inr ⟨e1,by simpa [upd,e1,e2] using hk,by simp [upd,e1,e2]⟩
 have hn:∀ k b,isLive (upd (upd h o .gone) fr (.arr n []) k)→β k=some b→k≠fr∧isLive (h k)∧upd (upd h o .gone) fr (.arr n []) k=h k:=fun k b hk hb=>
  (hval k hk).resolve_left fun e=>by rw [e,hfr] at hb;cases hb
 have hg:Goes w w (XO Y h β) (XO Y (upd (upd h o .gone) fr (.arr n [])) β) β β:=by
  refine ⟨Nat.le_refl _,fun k hx hk=>⟨rfl,fun hx'=> ?_⟩,fun _ _=>rfl,fun o b hb=>⟨hb,hO.lt o b hb⟩⟩;rcases hx' with hy | ⟨o',hl',ho'⟩
  · exact hx (.inl hy)
  · exact hx (.inr ⟨o',(hn o' _ hl' ho').2.1,ho'⟩)
 refine ⟨Good.refl _ _,⟨fun o' b' hl' hb'=> ?_,fun o' hl'=> ?_,fun o1 o2 b' hl1 hl2 hb1 hb2=>hO.inj o1 o2 b' (hn o1 _ hl1 hb1).2.1 (hn o2 _ hl2 hb2).2.1 hb1 hb2,hO.lt⟩,fun _ _ h=>h,fun _ _ h=> .inl h,fun k hk=>(hval k hk).elim .inr fun h=> .inl h.2.1⟩
 · have:=hn o' b' hl' hb';rw [this.2.2];exact (hO.rep o' b' this.2.1 hb').goes hg rfl
 · rcases hval o' hl' with e | ⟨_,h1,h2⟩
   · subst e;exact .inr ⟨⟨n,by simp [upd,flat]⟩,hfr⟩
   · rw [h2];exact hO.has o' h1
end
end Go.AM

namespace Go.AM
theorem zo6 (u H:AHeap)(o:Nat):hook (u++H) o=over u (hook H) o:=by
 induction u with
 | nil=>rfl
 | cons p u ih=>
  obtain ⟨j,x⟩:=p;simp only [List.cons_append,hook,over,z0r];split
  · rfl
  · exact ih
theorem over_nil (h:Nat→AObj):over [] h=h:=rfl
theorem z2h (o:Nat)(x:AObj)(h:Nat→AObj):over [(o,x)] h=upd h o x:=by
 funext k
 simp only [over,z0r,upd];by_cases e:o=k
 · simp [e]
 · simp [e,show k≠o from fun h=>e h.symm]
theorem Moves.weaken {h h':Nat→AObj}{β β':Nat→Option Nat}{Y:Nat→Prop}{w w':World}{fr fr':Nat→Prop}(m:Moves h h' β β' Y w w' fr)(hf:∀ o,fr o→fr' o):Moves h h' β β' Y w w' fr':=
 ⟨m.good,m.objs,m.bmono,fun o b hb=>(m.bnew o b hb).imp id fun ⟨x,y⟩=>⟨hf o x,y⟩,fun o hl=>(m.lmono o hl).imp id (hf o)⟩
section
variable {P:Program} {h:Nat→AObj} {β:Nat→Option Nat} {Y:Nat→Prop} {w:World}
def Does (P:Program)(h:Nat→AObj)(β:Nat→Option Nat)(Y:Nat→Prop)(w:World)(fr:Nat)(r:AR)(s:Sem Next):Prop:=
 ∃ n v w' β',s.run P w= .ok n w'∧(n= .value v∨(n= .skip∧v=undef))∧Moves h (over r.upd h) β β' Y w w' (fun k=>k=fr)∧TRep w' (XO Y (over r.upd h) β') β' r.val v
theorem z3g (hO:Objs h β Y w){fr:Nat}{r:TV}{s:Sem Value}{rd:List Nat}(hr:∃ u,s.run P w= .ok u w∧TRep w (XO Y h β) β r u):
  Does P h β Y w fr ⟨r,[],rd⟩ (do pure (.value (←s))):=by
 obtain ⟨u,h1,h2⟩:=hr;exact ⟨.value u,u,w,β,by simp [h1], .inl rfl,(Moves.refl hO (fun _=>rfl)).weaken (fun _ h=>h.elim),h2⟩
theorem z1q (hO:Objs h β Y w){fr:Nat}{v:Option TV}{r:AR}{s:Sem Value}(h0:valR v=some r)(hr:∀ x,v=some x→∃ u,s.run P w= .ok u w∧TRep w (XO Y h β) β x u):
  Does P h β Y w fr r (do pure (.value (←s))):=by
 obtain ⟨x,hx,rfl⟩:=Option.map_eq_some_iff.1 h0;exact z3g hO (hr x hx)
theorem z0e {α:Type}{t:TypeId}{f:TyD→Option α}{r:α}(h0:z1k P t f=some r):∃ d,tyOf P t=some d∧f d=some r:=by
 unfold z1k at h0;split at h0
 · rename_i d hd;exact ⟨d,hd,h0⟩
 · cases h0
theorem z0y {α:Type}{t:TypeId}{f:TyD→Option α}{r:α}(h0:z1e P t f=some r):∃ d e de,tyOf P t=some d∧d.kind= .slice e∧tyOf P e=some de∧f de=some r:=by
 unfold z1e at h0;split at h0
 · rename_i d hd;split at h0
   · rename_i e hk;split at h0
     · rename_i de hde;exact ⟨d,e,de,hd,hk,hde,h0⟩
     · cases h0
   · cases h0
 · cases h0
theorem z4h {t:TypeId}{d:TyD}{z:List FV}(hd:tyOf P t=some d)(hz:d.zero=some z):∃ v,(zeroValue t).run P w= .ok v w∧z=v.cells.toList.map fvOf∧(∀ u∈v.cells.toList,u.oneCell'=true)∧(∃ i,P.info? t=some i∧i.zero=some v):=by
 obtain ⟨i,u,hi,hu,_,_,_,hzz,_⟩:=z4g hd;rw [hz] at hzz;cases hiz:i.zero with
 | none=>rw [hiz] at hzz;cases hzz
 | some v=>
  rw [hiz] at hzz;simp only at hzz;split at hzz
  · rename_i hall;injection hzz with hzz
    refine ⟨v,by simp [zeroValue,typeInfo,hi,hiz],hzz,fun u hu=> ?_,i,hi,hiz⟩;simp only [Array.all_eq_true_iff_forall_mem] at hall;exact hall u (by simpa using hu)
  · cases hzz
theorem z76 (X:Nat→Prop)(us:List Value)(h1:∀ u∈us,u.oneCell'=true):LRep (WRep w X β) (fzs (us.map fvOf)) us:=by
 refine ⟨by simp [fzs],fun j c u hc hu=> ?_⟩;simp only [fzs,List.getElem?_map,hu,Option.map_some,Option.some.injEq] at hc;subst hc;exact .a _ _ (.fz _ _ (zph w X u (h1 u (List.mem_of_getElem? hu))))
theorem znn {X:Nat→Prop}{cs:List WV}{us:List Value}(hl:LRep (WRep w X β) cs us):[cs].length*cs.length≤us.length∧(∀ e∈ [cs],e.length=cs.length)∧
  ∀ (i j:Nat) (e:List WV) (c:WV),[cs][i]? =some e→e[j]? =some c→∃ u,us[i*cs.length+j]? =some u∧WRep w X β c u:=by
 refine ⟨by simp [hl.1],by simp,fun i j e c he hc=> ?_⟩;cases i with
 | zero=>
  simp at he;subst he;simpa using hl.get hc
 | succ i=>simp at he
theorem z6r (hO:Objs h β Y w) (hY:∀ b,Y b→b<w.heap.size) {fr:Nat} (hfr:β fr=none) (n:Nat) (es:List (List WV)) (us:List Value) (t:TypeId) (dr:Nat) (v:Value) (x:TV) {s:Sem Value} {rd:List Nat}
  (hs:s.run P w= .ok v { w with heap:=w.heap.push (.cells us.toArray t (0,0)),drawn:=w.drawn+dr })
  (h1:es.length*n≤us.length) (h2:∀ e∈es,e.length=n)
  (h3:∀ (i j:Nat) (e:List WV) (c:WV),es[i]? =some e→e[j]? =some c→∃ u,us[i*n+j]? =some u∧WRep w (XO Y h β) β c u)
  (hx:∀ w' β',β' fr=some w.heap.size→w'.shape? w.heap.size=some (t,us.length)→TRep w' (XO Y (upd h fr (.arr n es)) β') β' x v):
  Does P h β Y w fr ⟨x,[(fr, .arr n es)],rd⟩ (do pure (.value (←s))):=by
 have hm:=zae hO hY hfr n es us t dr h1 h2 h3;refine ⟨.value v,v,{ w with heap:=w.heap.push (.cells us.toArray t (0,0)),drawn:=w.drawn+dr },upd β fr (some w.heap.size), ?_, .inl rfl, ?_, ?_⟩
 · simp only [Sem.run_bind,hs,Result.andThen_ok,Sem.run_pure]
 · rw [z2h];exact hm
 · rw [z2h];exact hx _ _ (by simp [upd]) (by simp [World.shape?])
theorem zn7 (hO:Objs h β Y w)(hY:∀ b,Y b→b<w.heap.size){fr:Nat}(hfr:β fr=none){t:TypeId}{d:TyD}{z:List FV}(hd:tyOf P t=some d)(hz:d.zero=some z):
  Does P h β Y w fr ⟨.c (.a (.ep fr z.length 0 0)),[(fr, .arr z.length [fzs z])],[]⟩ (do pure (.value (←Instr.alloc t true (.tuple #[])))):=by
 obtain ⟨v,hv,rfl,h1,_⟩:=z4h (w:=w) hd hz;have hl:=z76 (w:=w) (β:=β) (XO Y h β) v.cells.toList h1;obtain ⟨b1,b2,b3⟩:=znn hl;have hlen:(fzs (v.cells.toList.map fvOf)).length=(v.cells.toList.map fvOf).length:=by simp [fzs]
 rw [hlen] at b1 b2 b3;refine z6r hO hY hfr _ _ v.cells.toList t 0 (.pointer (some ⟨w.heap.size,0,none⟩)) _ ?_ b1 b2 b3 ?_
 · simp only [Instr.alloc,Sem.run_bind,hv,Result.andThen_ok,newVar,newRow,run_newObj,Sem.run_pure,Array.toArray_toList,Nat.add_zero]
 · intro w' β' hb _;have:=ARep.ep (w:=w') (X:=XO Y (upd h fr (.arr (v.cells.toList.map fvOf).length [fzs (v.cells.toList.map fvOf)])) β') (β:=β') fr (v.cells.toList.map fvOf).length 0 0 _ hb;simp only [Nat.zero_mul,Nat.add_zero] at this;exact .a _ _ this
theorem box_does (hO:Objs h β Y w)(hY:∀ b,Y b→b<w.heap.size){fr:Nat}(hfr:β fr=none){t:TypeId}{x:TV}{u:Value}{cs:List WV}(hx:TRep w (XO Y h β) β x u)(hc:z7m x=some cs):
  Does P h β Y w fr ⟨.c (.a (.ep fr cs.length 0 0)),[(fr, .arr cs.length [cs])],[]⟩ (do pure (.value (←Instr.box t u))):=by
 obtain ⟨b1,b2,b3⟩:=znn (zav hx hc);refine z6r hO hY hfr _ _ u.cells.toList t 0 (.pointer (some ⟨w.heap.size,0,none⟩)) _ ?_ b1 b2 b3 ?_
 · simp [Instr.box,newVar,newRow]
 · intro w' β' hb _;have:=ARep.ep (w:=w') (X:=XO Y (upd h fr (.arr cs.length [cs])) β') (β:=β') fr cs.length 0 0 _ hb;simp only [Nat.zero_mul,Nat.add_zero] at this;exact .a _ _ this
theorem z30 (x:AObj):isLive (flat x)↔isLive x:=by cases x<;>simp [flat,isLive]
theorem z7e (hO:Objs h β Y w){o b n:Nat}{es:List (List WV)}(ho:flat (h o)= .arr n es)(hb:β o=some b):∃ (us:List Value) (t:TypeId),w.heap[b]? =some (.cells us.toArray t (0,0))∧es.length*n≤us.length∧(∀ e∈es,e.length=n)∧
  ∀ (i j:Nat) (e:List WV) (c:WV),es[i]? =some e→e[j]? =some c→∃ u,us[i*n+j]? =some u∧WRep w (XO Y h β) β c u:=by
 have hl:isLive (h o):=by rw [←z30,ho];trivial
 have:=hO.rep o b hl hb;unfold ORep at this;rw [ho] at this;exact this
theorem zpi {es:List (List WV)}{n i L:Nat}{e:List WV}(h1:es.length*n≤L)(he:es[i]? =some e)(_:e.length=n):i*n+n≤L:=by
 have hi:=(List.getElem?_eq_some_iff.1 he).1;have:(i+1)*n≤es.length*n:=Nat.mul_le_mul_right _ hi;rw [Nat.add_mul] at this;omega
theorem elem_rep {X:Nat→Prop} {es:List (List WV)} {n i:Nat} {us:List Value} {e:List WV} (h1:es.length*n≤us.length) (h2:∀ e∈es,e.length=n)
  (h3:∀ (i j:Nat) (e:List WV) (c:WV),es[i]? =some e→e[j]? =some c→∃ u,us[i*n+j]? =some u∧WRep w X β c u) (he:es[i]? =some e):LRep (WRep w X β) e ((us.drop (i*n)).take n):=by
 have hn:=h2 e (List.mem_of_getElem? he);have hf:=zpi h1 he hn;refine ⟨by simp;omega,fun j c u hc hu=> ?_⟩;obtain ⟨u',hu',hr⟩:=h3 i j e c he hc;rw [List.getElem?_take,List.getElem?_drop] at hu;split at hu
 · rw [hu'] at hu;injection hu with hu;subst hu;exact hr
 · cases hu
theorem zhr (hO:Objs h β Y w){t:TypeId}{d:TyD}{x:TV}{u:Value}{r:TV×List Nat}(hd:tyOf P t=some d)(hx:TRep w (XO Y h β) β x u)(hl:z6h d h x=some r):
  ∃ v,(Instr.loadAt t u).run P w= .ok v w∧TRep w (XO Y h β) β r.1 v:=by
 unfold z6h at hl;split at hl
 · rename_i o n i j;split at hl
   · rename_i m es ho;split at hl
     · rename_i hm;subst hm;split at hl
       · rename_i e he;split at hl<;>simp only [Option.some.injEq,reduceCtorEq] at hl
         rename_i v hv;subst hl;obtain ⟨b,hb,rfl⟩:=hx.ep_inv;obtain ⟨us,tt,g1,g2,g3,g4⟩:=z7e hO (by rw [ho];rfl) hb;have hel:=elem_rep g2 g3 g4 he;refine zjg hd _ (hel.drop j) (fun k u hu=> ?_) hv;rw [List.getElem?_drop,List.getElem?_take,List.getElem?_drop] at hu;split at hu
         · simp only [World.cell?,g1,List.getElem?_toArray,Option.isSome_none,Bool.false_eq_true,if_false];rw [Nat.add_assoc];exact hu
         · cases hu
       · cases hl
     · cases hl
   · cases hl
 · rename_i cs;split at hl<;>simp only [Option.some.injEq,reduceCtorEq] at hl
   rename_i v hv;subst hl;have h1:=hx.fz_inv;cases h1 with
   | pt _ b off f h3 h4 h5 h6=>
    refine zjg hd ((List.range cs.length).map f) ?_ (fun j u hu=> ?_) hv
    · refine ⟨by simp [fzs],fun j c u hc hu=> ?_⟩;simp only [fzs,List.getElem?_map] at hc hu;obtain ⟨g,hg,rfl⟩:=Option.map_eq_some_iff.1 hc;obtain ⟨k,hk,rfl⟩:=Option.map_eq_some_iff.1 hu
      have hkj:k=j:=by
       rw [List.getElem?_range (by have:=(List.getElem?_eq_some_iff.1 hg).1;omega)] at hk;simpa using hk.symm
      subst hkj;exact .a _ _ (.fz _ _ (h6 k g hg))
    · simp only [List.getElem?_map] at hu;obtain ⟨k,hk,rfl⟩:=Option.map_eq_some_iff.1 hu
      have hj:j<cs.length:=by
       have:=(List.getElem?_eq_some_iff.1 hk).1;simpa using this
      have hkj:k=j:=by
       rw [List.getElem?_range hj] at hk;simpa using hk.symm
      subst hkj;exact h5 k _ (List.getElem?_eq_getElem hj)
 · cases hl
theorem zx4 (hO:Objs h β Y w){fr:Nat}{t:TypeId}{d:TyD}{x:TV}{u:Value}{r:TV×List Nat}(hd:tyOf P t=some d)(hx:TRep w (XO Y h β) β x u)(hl:z6h d h x=some r):
  Does P h β Y w fr ⟨r.1,[],r.2⟩ (do pure (.value (←Instr.loadAt t u))):=z3g hO (zhr hO hd hx hl)
theorem LRep.cell {X:Nat→Prop}{cs:List WV}{us:List Value}(h:LRep (WRep w X β) cs us):∀ u∈us,u.oneCell'=true:=by
 intro u hu;obtain ⟨j,hj⟩:=List.getElem?_of_mem hu;have hlt:j<cs.length:=by have:=(List.getElem?_eq_some_iff.1 hj).1;have:=h.1;omega
 exact (h.2 j _ u (List.getElem?_eq_getElem hlt) hj).oneCell
theorem zsb {us cs:List Value}{a j:Nat}(h:a+cs.length≤us.length):(us.take a++cs++us.drop (a+cs.length))[j]? =if j<a then us[j]? else if j<a+cs.length then cs[j-a]? else us[j]? :=by
 simp only [List.getElem?_append,List.length_append,List.length_take,List.getElem?_take,List.getElem?_drop,show min a us.length=a by omega];by_cases h1:j<a
 · simp [h1,show j<a+cs.length by omega]
 · by_cases h2:j<a+cs.length
   · simp [h1,h2]
   · simp [h1,h2,show a+cs.length+(j-(a+cs.length))=j by omega]
theorem zn6 {e cs:List WV}{a j:Nat}(h:a+cs.length≤e.length):(splice e a cs)[j]? =if j<a then e[j]? else if j<a+cs.length then cs[j-a]? else e[j]? :=by
 unfold splice;simp only [List.getElem?_append,List.length_append,List.length_take,List.getElem?_take,List.getElem?_drop,show min a e.length=a by omega];by_cases h1:j<a
 · simp [h1,show j<a+cs.length by omega]
 · by_cases h2:j<a+cs.length
   · simp [h1,h2]
   · simp [h1,h2,show a+cs.length+(j-(a+cs.length))=j by omega]
theorem zso (hO:Objs h β Y w){fr:Nat}{t:TypeId}{d:TyD}{x y:TV}{u v:Value}{r:AR}(hd:tyOf P t=some d)(hx:TRep w (XO Y h β) β x u)(hy:TRep w (XO Y h β) β y v)(hs:z66 d h x y=some r):
  Does P h β Y w fr r (do (Instr.storeAt t u v);pure .skip):=by
 unfold z66 at hs;split at hs
 · rename_i cs o n i j hcs;split at hs
   · rename_i m es ho;split at hs
     · rename_i hm;obtain ⟨hm,hsz⟩:=hm;subst hm;split at hs
       · rename_i e he;split at hs<;>simp only [Option.some.injEq,reduceCtorEq] at hs
         rename_i hfit;subst hs;obtain ⟨b,hb,rfl⟩:=hx.ep_inv;obtain ⟨us,tt,g1,g2,g3,g4⟩:=z7e hO (by rw [ho];rfl) hb;have hcl:=zav hy hcs;have hen:=g3 e (List.mem_of_getElem? he);have hrow:=zpi g2 he hen;have hlen:v.cells.toList.length=cs.length:=hcl.1.symm;have hfit2:i*m+j+v.cells.toList.length≤us.length:=by omega
         have hrun:=run_storeCells_at P b (i*m+j) tt v.cells.toList 0 us.toArray w g1 (by simpa using hfit2) hcl.cell;simp only [Nat.add_zero] at hrun;have hsize:v.cells.size=d.size:=by rw [←hsz,←hlen];simp
         have hmv:=zew hO (by rw [ho];trivial:isLive (h o)) hb (us.take (i*m+j)++v.cells.toList++us.drop (i*m+j+v.cells.toList.length)) us tt g1 (by simp;omega) m (es.set i (splice e j cs))
          (by simp only [List.length_set,List.length_append,List.length_take,List.length_drop];omega)
          (fun e' he'=>by
           rcases List.mem_or_eq_of_mem_set he' with h1 | h1
           · exact g3 e' h1
           · subst h1;unfold splice;simp;omega)
          (fun i' j' e' c he' hc=>by
           rw [zsb (by omega)];rw [List.getElem?_set] at he';split at he'
           · rename_i hii;subst hii;split at he'
             · injection he' with he'
               subst he';rw [zn6 (by omega)] at hc;by_cases k1:j'<j
               · rw [if_pos k1] at hc;rw [if_pos (by omega)];exact g4 i j' e c he hc
               · rw [if_neg k1] at hc;rw [if_neg (by omega)];by_cases k2:j'<j+cs.length
                 · rw [if_pos k2] at hc;rw [if_pos (by omega),show i*m+j'-(i*m+j)=j'-j by omega];obtain ⟨z,hz,hr⟩:=hcl.get hc;exact ⟨z,hz,hr⟩
                 · rw [if_neg k2] at hc;rw [if_neg (by omega)];exact g4 i j' e c he hc
             · cases he'
           · rename_i hii;have hen':=g3 e' (List.mem_of_getElem? he');have hj':j'<m:=by rw [←hen'];exact (List.getElem?_eq_some_iff.1 hc).1
             obtain ⟨z,hz,hr⟩:=g4 i' j' e' c he' hc;refine ⟨z, ?_,hr⟩;rcases Nat.lt_or_gt_of_ne hii with hlt | hgt
             · have:(i+1)*m≤i'*m:=Nat.mul_le_mul_right _ hlt;rw [Nat.add_mul] at this;rw [if_neg (by omega),if_neg (by omega)];exact hz
             · have:(i'+1)*m≤i*m:=Nat.mul_le_mul_right _ hgt;rw [Nat.add_mul] at this;rw [if_pos (by omega)];exact hz)
         refine ⟨.skip,undef,w.setRow b (us.take (i*m+j)++v.cells.toList++us.drop (i*m+j+v.cells.toList.length)).toArray,β, ?_, .inr ⟨rfl,rfl⟩, ?_,trivial⟩
         · have hsv:(storeVar t ⟨b,i*m+j,none⟩ v).run P w= .ok () (w.setRow b (us.take (i*m+j)++v.cells.toList++us.drop (i*m+j+v.cells.toList.length)).toArray):=by
            simp only [storeVar,Sem.run_bind,z0p hd,Result.andThen_ok,hsize,ne_eq,not_true_eq_false,if_false];exact hrun
           simp only [Sem.run_bind,Instr.storeAt,Instr.sureAddr,Sem.run_pure,Result.andThen_ok,hsv]
         · rw [z2h];exact hmv.weaken (fun _ h=>h.elim)
       · cases hs
     · cases hs
   · cases hs
 · cases hs
theorem len_does (hO:Objs h β Y w){fr:Nat}{t ty:TypeId}{d:TyD}{x:TV}{u:Value}{r:Nat×List Nat}(hd:tyOf P t=some d)(hx:TRep w (XO Y h β) β x u)(hl:lenP d h x=some r):
  Does P h β Y w fr ⟨iV r.1,[],r.2⟩ (do pure (.value (←Builtin.len_ #[t] ty #[u]))):=by
 refine z3g hO ?_;have fin:∀ n:Nat,(Builtin.len_ #[t] ty #[u]).run P w= .ok (goInt n) w→r.1=n→∃ z,(Builtin.len_ #[t] ty #[u]).run P w= .ok z w∧TRep w (XO Y h β) β (iV r.1) z:=fun n h1 h2=>⟨_,h1,by rw [h2];exact .int_mk _ _⟩;unfold lenP at hl;split at hl
 · rename_i e hk;have ht:=z2e hd hk;unfold zhj at hl;split at hl
   · injection hl with hl;subst hl;rw [hx.nils_inv] at fin ⊢;exact fin 0 (by simp [Builtin.len_,run_underlying ht,goInt]) rfl
   · injection hl with hl;subst hl
     rename_i nn n es;have h1:=hx.fz_inv;cases h1 with
     | slnil=>exact fin 0 (by simp [Builtin.len_,run_underlying ht,goInt]) rfl
     | sl0 _ _ a=>exact fin 0 (by simp [Builtin.len_,run_underlying ht,goInt]) rfl
     | sl _ _ _ b off cap len f g1=>subst g1;exact fin es.length (by simp [Builtin.len_,run_underlying ht,goInt]) rfl
   · injection hl with hl;subst hl
     have h1:=hx.fz_inv;cases h1 with
     | z0 _ a=>exact fin 0 (by simp [Builtin.len_,run_underlying ht,goInt]) rfl
     | z0n=>exact fin 0 (by simp [Builtin.len_,run_underlying ht,goInt]) rfl
   · injection hl with hl;subst hl
     rename_i o n off len;obtain ⟨b,q,cap,sz,tt,_,_,_,_,_,rfl⟩ | ⟨rfl,rfl⟩:=hx.osl_inv
     · exact fin len (by simp [Builtin.len_,run_underlying ht,goInt]) rfl
     · exact fin 0 (by simp [Builtin.len_,run_underlying ht,goInt]) rfl
   · cases hl
 · rename_i hk;have ht:=zhz hd hk;unfold lenStr at hl;split at hl
   · injection hl with hl;subst hl;rw [hx.str_inv] at fin ⊢
     rename_i l;have hsz:(⟨l.toArray⟩:ByteArray).size=l.length:=by simp [ByteArray.size]
     exact fin l.length (by simp [Builtin.len_,run_underlying ht,goInt,hsz]) rfl
   · cases hl
 · rename_i kt et hk;obtain ⟨u',hu',hk'⟩:=z34 hd;rw [hk'] at hk;have ht:=zs8 hk;subst ht;unfold zvr at hl;split at hl
   · rename_i o;split at hl
     · rename_i es ho;injection hl with hl;subst hl
       obtain ⟨b,hb,rfl⟩:=hx.mp_inv;have hrep:=hO.rep o b (by rw [ho];trivial) hb;rw [ho] at hrep;unfold ORep flat at hrep;obtain ⟨ms,ck,g1,g2,_⟩:=hrep;refine fin es.length ?_ rfl;simp only [Builtin.len_,Sem.run_bind,run_underlying hu',Result.andThen_ok,List.getElem?_toArray,List.getElem?_cons_zero,getObj,Sem.run,g1,Sem.run_pure,List.size_toArray,g2]
     · cases hl
   · cases hl
 · rename_i n e hk;have ht:=zcp hd hk;simp only [Option.some.injEq] at hl;subst hl;exact fin n (by simp [Builtin.len_,run_underlying ht,goInt]) rfl
 · cases hl
theorem zks {X:Nat→Prop}:∀ {l:List TV} {us:List Value} {k:IntKind} {ns:List Int},z61 l=some (k,ns)→LRep (TRep w X β) l us→us=ns.map (Value.int k)∧ns ≠ []
 | [],us,k,ns,h,_=>by simp [z61] at h
 | [.c (.a (.fz (.int k' n)))],us,k,ns,h,hl=>by
  simp only [z61,Option.some.injEq,Prod.mk.injEq] at h;obtain ⟨rfl,rfl⟩:=h;obtain ⟨u,us',rfl,hu,hr⟩:=hl.cons_inv;rw [hr.nil_inv,TRep.int_inv hu];simp
 | .c (.a (.fz (.int k' n)))::y::r,us,k,ns,h,hl=>by
  simp only [z61] at h;obtain ⟨⟨k2,l2⟩,h1,h2⟩:=Option.bind_eq_some_iff.1 h;simp only at h2;split at h2
  · rename_i e;injection h2 with h2
    injection h2 with e1 e2
    subst e1;subst e2;subst e;obtain ⟨u,us',rfl,hu,hr⟩:=hl.cons_inv;obtain ⟨g1,g2⟩:=zks h1 hr;rw [g1,TRep.int_inv hu];simp
  · cases h2
 | .any::r,us,k,ns,h,_=>by simp [z61] at h
 | .agg _::r,us,k,ns,h,_=>by simp [z61] at h
 | .tup _::r,us,k,ns,h,_=>by simp [z61] at h
 | .c (.fn _ _ _)::r,us,k,ns,h,_=>by simp [z61] at h
 | .c (.a (.ep _ _ _ _))::r,us,k,ns,h,_=>by simp [z61] at h
 | .c (.a (.osl _ _ _ _))::r,us,k,ns,h,_=>by simp [z61] at h
 | .c (.a (.mp _))::r,us,k,ns,h,_=>by simp [z61] at h
 | .c (.a .any)::r,us,k,ns,h,_=>by simp [z61] at h
 | .c (.a (.fz (.bool _)))::r,us,k,ns,h,_=>by simp [z61] at h
 | .c (.a (.fz (.str _)))::r,us,k,ns,h,_=>by simp [z61] at h
 | .c (.a (.fz (.cst _)))::r,us,k,ns,h,_=>by simp [z61] at h
 | .c (.a (.fz .N))::r,us,k,ns,h,_=>by simp [z61] at h
 | .c (.a (.fz (.sl _ _ _)))::r,us,k,ns,h,_=>by simp [z61] at h
 | .c (.a (.fz (.pt _)))::r,us,k,ns,h,_=>by simp [z61] at h
theorem zjk (k:IntKind):∀ (l:List Int) (x:Int),((l.map (Value.int k)).foldlM Builtin.max2 (.int k x)).run P w= .ok (.int k (l.foldl max x)) w
 | [],x=>by simp
 | y::l,x=>by
  simp only [List.map_cons,List.foldlM_cons,Builtin.max2,Sem.run_bind,Sem.run_pure,Result.andThen_ok,List.foldl_cons];rw [show (if y>x then y else x)=max x y by simp only [Int.max_def];split<;>split<;>omega]
  exact zjk k l _
theorem zkf (k:IntKind):∀ (l:List Int) (x:Int),((l.map (Value.int k)).foldlM Builtin.min2 (.int k x)).run P w= .ok (.int k (l.foldl min x)) w
 | [],x=>by simp
 | y::l,x=>by
  simp only [List.map_cons,List.foldlM_cons,Builtin.min2,Sem.run_bind,Sem.run_pure,Result.andThen_ok,List.foldl_cons];rw [show (if y<x then y else x)=min x y by simp only [Int.min_def];split<;>split<;>omega]
  exact zkf k l _
theorem zqf {X:Nat→Prop}{m:Bool}{l:List TV}{us:List Value}{r:TV}(ts:Array TypeId)(ty:TypeId)(h:minA m l=some r)(hl:LRep (TRep w X β) l us):
  ∃ z,(if m then Builtin.max_ ts ty us.toArray else Builtin.min_ ts ty us.toArray).run P w= .ok z w∧TRep w X β r z:=by
 unfold minA at h;split at h
 · rename_i p hp;obtain ⟨k,ns⟩:=p;injection h with h
   subst h;obtain ⟨rfl,hne⟩:=zks hp hl;cases ns with
   | nil=>exact absurd rfl hne
   | cons n ns=>
    refine ⟨.int k (if m=true then z0g (n::ns) else z0d (n::ns)), ?_, .int_mk _ _⟩
    cases m
    · simpa [Builtin.min_,z0d] using zkf (P:=P) (w:=w) k ns n
    · simpa [Builtin.max_,z0g] using zjk (P:=P) (w:=w) k ns n
 · cases h
end
end Go.AM

namespace Go.AM
theorem Moves.trans {h h1 h2:Nat→AObj} {β β1 β2:Nat→Option Nat} {Y:Nat→Prop} {w w1 w2:World} {f1 f2 f:Nat→Prop} (m1:Moves h h1 β β1 Y w w1 f1) (m2:Moves h1 h2 β1 β2 Y w1 w2 f2)
  (hf:∀ o,f1 o→β o=none) (_:Objs h β Y w) (g1:∀ o,f1 o→f o) (g2:∀ o,f2 o→f o):Moves h h2 β β2 Y w w2 f:=by
 have own:∀ b,b<w.heap.size→Own h1 β1 b→Own h β b:=by
  rintro b hb ⟨o,hl,ho⟩;rcases m1.bnew o b ho with h' | ⟨hfo,h' | h'⟩
  · rcases m1.lmono o hl with hl' | hfo
    · exact ⟨o,hl',h'⟩
    · rw [hf o hfo] at h';cases h'
  · omega
  · exact h'
 have hs:=m1.good.size;refine ⟨m1.good.trans m2.good own,m2.objs,fun o b hb=>m2.bmono o b (m1.bmono o b hb),fun o b hb=> ?_,fun o hl=> ?_⟩
 · rcases m2.bnew o b hb with h' | ⟨hfo,h' | h'⟩
   · exact (m1.bnew o b h').imp id fun ⟨x,y⟩=>⟨g1 o x,y⟩
   · exact .inr ⟨g2 o hfo, .inl (by omega)⟩
   · by_cases hb':b<w.heap.size
     · exact .inr ⟨g2 o hfo, .inr (own b hb' h')⟩
     · exact .inr ⟨g2 o hfo, .inl (by omega)⟩
 · rcases m2.lmono o hl with h' | h'
   · exact (m1.lmono o h').imp id (g1 o)
   · exact .inr (g2 o h')
theorem zw3 {P:Program}{h:Nat→AObj}{β:Nat→Option Nat}{Y:Nat→Prop}{w:World}(hO:Objs h β Y w){k:Nat}{x:AObj}(hk:isLive (h k))(hx:isLive x)(hb:bareO (h k)→bareO x)(hr:∀ X b,β k=some b→ORep w X β (h k) b→ORep w X β x b):Moves h (upd h k x) β β Y w w (fun _=>False):=by
 have hl:∀ o,isLive (upd h k x o)→isLive (h o):=fun o ho=>by
  unfold upd at ho;split at ho
  · rename_i e;subst e;exact hk
  · exact ho
 have hl':∀ o,isLive (h o)→isLive (upd h k x o):=fun o ho=>by
  unfold upd;split
  · exact hx
  · exact ho
 have hg:Goes w w (XO Y h β) (XO Y (upd h k x) β) β β:=by
  refine ⟨Nat.le_refl _,fun b hx' _=>⟨rfl,fun hx2=> ?_⟩,fun _ _=>rfl,fun o b hb=>⟨hb,hO.lt o b hb⟩⟩;rcases hx2 with hy | ⟨o',hl2,ho'⟩
  · exact hx' (.inl hy)
  · exact hx' (.inr ⟨o',hl _ hl2,ho'⟩)
 refine ⟨Good.refl _ _,⟨fun o b ho hb2=> ?_,fun o ho=> ?_,fun o1 o2 b h1 h2=>hO.inj o1 o2 b (hl _ h1) (hl _ h2),hO.lt⟩,fun _ _ h=>h,fun _ _ h=> .inl h,fun o ho=> .inl (hl o ho)⟩
 · have h3:=(hO.rep o b (hl o ho) hb2).goes hg rfl;by_cases e:o=k
   · subst e;rw [show upd h o x o=x by simp [upd]];exact hr _ _ hb2 h3
   · rw [show upd h k x o=h o by simp [upd,e]];exact h3
 · rcases hO.has o (hl o ho) with h3 | ⟨h3,h4⟩
   · exact .inl h3
   · refine .inr ⟨?_,h4⟩;by_cases e:o=k
     · subst e;rw [show upd h o x o=x by simp [upd]];exact hb h3
     · rw [show upd h k x o=h o by simp [upd,e]];exact h3
theorem zrr {P:Program}{h:Nat→AObj}{β:Nat→Option Nat}{Y:Nat→Prop}{w:World}(hO:Objs h β Y w)(hY:∀ b,Y b→b<w.heap.size){fr:Nat}(hfr:β fr=none){t:TypeId}{d:TyD}{z:List FV}(hd:tyOf P t=some d)(hz:d.zero=some z):
  Does P h β Y w fr ⟨.c (.a (.ep fr z.length 0 0)),[(fr, .arr z.length [bldZ P t d fr z])],[]⟩ (do pure (.value (←Instr.alloc t true (.tuple #[])))):=by
 unfold bldZ;split
 · obtain ⟨v,hv,hzv,h1,_⟩:=z4h (w:=w) hd hz;have hl:=z76 (w:=w) (β:=β) (XO Y h β) v.cells.toList h1;obtain ⟨b1,b2,b3⟩:=znn hl
   have hn:v.cells.toList.length=2:=by
    have:=(congrArg List.length hzv).symm;simpa using this
   rw [←hzv] at b1 b2 b3;have hm:=zae hO hY hfr 2 _ v.cells.toList t 0 b1 b2 b3;have hheap:(w.heap.push (.cells v.cells.toList.toArray t (0,0)))[w.heap.size]? =some (.cells v.cells.toList.toArray t (0,0)):=by simp
   have hsh:({ w with heap:=w.heap.push (.cells v.cells.toList.toArray t (0,0)),drawn:=w.drawn+0 }:World).shape? w.heap.size=some (t,2):=by
    simp [World.shape?];exact hn
   have m2:=zw3 (P:=P) hm.objs (k:=fr) (x:= .arr 2 [[.a (.bld t fr), .a (.fz .N)]]) (by simp [upd,isLive]) trivial (fun hb=>by
    obtain ⟨n,hb⟩:=hb
    simp [upd,flat] at hb) (fun X b hb hr=>by
     have hb':b=w.heap.size:=by simpa [upd] using hb.symm
     subst hb';rw [show upd h fr (.arr 2 [fzs [.cst (.pointer none), .N]]) fr= .arr 2 [fzs [.cst (.pointer none), .N]] by simp [upd]] at hr;obtain ⟨us,tt,g1,g2,g3,g4⟩:=hr;refine ⟨us,tt,g1,g2,by simp,fun i j e c he hc=> ?_⟩;cases i with
     | succ i=>simp at he
     | zero=>
      simp at he;subst he;cases j with
      | zero=>
       simp at hc;subst hc;obtain ⟨u,hu,hr⟩:=g4 0 0 _ (.a (.fz (.cst (.pointer none)))) rfl rfl;refine ⟨u,hu, .a _ _ (.bld t fr _ u hb hsh (.inl ?_))⟩;cases hr with
       | a _ _ hr=>cases hr with
        | fz _ _ hr=>cases hr with
         | cst _ _=>rfl
      | succ j=>
       cases j with
       | zero=>
        simp at hc;subst hc;exact g4 0 1 _ (.a (.fz .N)) rfl rfl
       | succ j=>simp at hc)
   have m3:=hm.trans m2 (f:=fun k=>k=fr) (fun k hk=>by rw [hk];exact hfr) hO (fun _ h=>h) (fun _ h=>h.elim);refine ⟨.value (.pointer (some ⟨w.heap.size,0,none⟩)), .pointer (some ⟨w.heap.size,0,none⟩),{ w with heap:=w.heap.push (.cells v.cells.toList.toArray t (0,0)),drawn:=w.drawn+0 },upd β fr (some w.heap.size), ?_, .inl rfl, ?_, ?_⟩
   · simp only [Instr.alloc,Sem.run_bind,hv,Result.andThen_ok,newVar,newRow,run_newObj,Sem.run_pure,Array.toArray_toList,Nat.add_zero]
   · rw [z2h];show Moves h (upd h fr (.arr 2 [[.a (.bld t fr), .a (.fz .N)]])) _ _ _ _ _ _;rw [show upd h fr (.arr 2 [[.a (.bld t fr), .a (.fz .N)]])=upd (upd h fr (.arr 2 [fzs [.cst (.pointer none), .N]])) fr (.arr 2 [[.a (.bld t fr), .a (.fz .N)]]) by funext k;simp only [upd];split<;>rfl];exact m3
   · rw [z2h];have:=ARep.ep (w:={ w with heap:=w.heap.push (.cells v.cells.toList.toArray t (0,0)),drawn:=w.drawn+0 }) (X:=XO Y (upd h fr (.arr 2 [[.a (.bld t fr), .a (.fz .N)]])) (upd β fr (some w.heap.size))) (β:=upd β fr (some w.heap.size)) fr 2 0 0 w.heap.size (by simp [upd])
     exact .a _ _ this
 · exact zn7 hO hY hfr hd hz
section
variable {P:Program} {h:Nat→AObj} {β:Nat→Option Nat} {Y:Nat→Prop} {w:World}
theorem z8y {n:Nat}:∀ {es:List (List WV)} (_:∀ e∈es,e.length=n) (i j:Nat),j<n→es.flatten[i*n+j]? =(es[i]?).bind (·[j]?)
 | [],_,i,j,_=>by simp
 | e::es,hn,i,j,hj=>by
  have he:=hn e (by simp);cases i with
  | zero=>simp [List.getElem?_append,he,hj]
  | succ i=>
   have ih:=z8y (es:=es) (fun e h=>hn e (by simp [h])) i j hj;simp only [List.flatten_cons,List.getElem?_cons_succ];rw [←ih,List.getElem?_append,he,if_neg (by rw [Nat.add_mul];omega)];congr 1;rw [Nat.add_mul];omega
theorem z6l {n:Nat}:∀ {es:List (List WV)} (_:∀ e∈es,e.length=n),es.flatten.length=es.length*n
 | [],_=>by simp
 | e::es,hn=>by
  have:=z6l (es:=es) (fun e h=>hn e (by simp [h]));simp [this,hn e (by simp),Nat.add_mul,Nat.add_comm]
theorem z2u {X:Nat→Prop}{n:Nat}{es:List (List WV)}{us:List Value}(hn:∀ e∈es,e.length=n)(hl:LRep (WRep w X β) es.flatten us):
  ∀ (i j:Nat) (e:List WV) (c:WV),es[i]? =some e→e[j]? =some c→∃ u,us[i*n+j]? =some u∧WRep w X β c u:=by
 intro i j e c he hc;have hj:j<n:=by rw [←hn e (List.mem_of_getElem? he)];exact (List.getElem?_eq_some_iff.1 hc).1
 exact hl.get (by rw [z8y hn i j hj,he];exact hc)
theorem z6w {X:Nat→Prop} {n:Nat} {es:List (List WV)} {us:List Value} (hn:∀ e∈es,e.length=n) (hlen:us.length=es.length*n)
  (h3:∀ (i j:Nat) (e:List WV) (c:WV),es[i]? =some e→e[j]? =some c→∃ u,us[i*n+j]? =some u∧WRep w X β c u):LRep (WRep w X β) es.flatten us:=by
 refine ⟨by rw [z6l hn,hlen],fun k c u hc hu=> ?_⟩;have hk:k<es.length*n:=by rw [←hlen];exact (List.getElem?_eq_some_iff.1 hu).1
 have hn0:0<n:=by rcases Nat.eq_zero_or_pos n with h0 | h0; · subst h0;simp at hk
                  · exact h0
 have hkk:k/n*n+k % n=k:=by rw [Nat.mul_comm];exact Nat.div_add_mod k n
 rw [←hkk] at hc hu;rw [z8y hn _ _ (Nat.mod_lt _ hn0)] at hc;obtain ⟨e,he,hc⟩:=Option.bind_eq_some_iff.1 hc;obtain ⟨u',hu',hr⟩:=h3 _ _ e c he hc;rw [hu] at hu';injection hu' with hu';subst hu';exact hr
theorem z8r (hO:Objs h β Y w){n:Nat}{x:TV}{v:Value}{new:List (List WV)}{rd:List Nat}(he:z3s n h x=some (new,rd))(hx:TRep w (XO Y h β) β x v)(hn0:0<n):
  (∀ e∈new,e.length=n)∧∃ (news:List Value),LRep (WRep w (XO Y h β) β) new.flatten news∧((v= .slice none 0 0∧new=[])∨
   ∃ a cap,v= .slice (some a) new.length cap∧∀ j u,news[j]? =some u→w.cell? (a.add j)=some u):=by
 unfold z3s at he;split at he
 · simp only [Option.some.injEq,Prod.mk.injEq] at he;obtain ⟨rfl,rfl⟩:=he;exact ⟨by simp,[], .nil, .inl ⟨hx.nils_inv,rfl⟩⟩
 · rename_i nn m es;split at he
   · rename_i hm;subst hm;simp only [Option.some.injEq,Prod.mk.injEq] at he;obtain ⟨rfl,rfl⟩:=he;have h1:=hx.fz_inv;cases h1 with
     | slnil=>exact ⟨by simp,[], .nil, .inl ⟨rfl,rfl⟩⟩
     | sl0 _ _ a=>exact ⟨by simp,[], .nil, .inr ⟨a,0,rfl,fun j u h=>by simp at h⟩⟩
     | sl _ _ _ b off cap len f g1 g2 g3 g4 g5 g6 g7=>
      subst g1
      have hn:∀ e∈es.map fzs,e.length=m:=by
       intro e he;obtain ⟨e',he',rfl⟩:=List.mem_map.1 he;obtain ⟨i,hi⟩:=List.getElem?_of_mem he';simp [fzs,g5 i e' hi]
      refine ⟨hn,(List.range (es.length*m)).map (fun k=>f (k/m) (k % m)), ?_, .inr ⟨⟨b,off,none⟩,cap,by simp, ?_⟩⟩
      · refine z6w hn (by simp) (fun i j e c he hc=> ?_);rw [List.getElem?_map] at he;obtain ⟨e',he',rfl⟩:=Option.map_eq_some_iff.1 he;rw [fzs,List.getElem?_map] at hc;obtain ⟨c',hc',rfl⟩:=Option.map_eq_some_iff.1 hc;have hi:=(List.getElem?_eq_some_iff.1 he').1;have hj:j<m:=by rw [←g5 i e' he'];exact (List.getElem?_eq_some_iff.1 hc').1
        have hlt:i*m+j<es.length*m:=by
         have:(i+1)*m≤es.length*m:=Nat.mul_le_mul_right _ hi;rw [Nat.add_mul] at this;omega
        refine ⟨f i j, ?_, .a _ _ (.fz _ _ (g7 i j e' c' he' hc'))⟩;rw [List.getElem?_map,List.getElem?_range hlt];simp only [Option.map_some,Option.some.injEq];rw [Nat.mul_comm i m,Nat.mul_add_div hn0,Nat.div_eq_of_lt hj,Nat.mul_add_mod,Nat.mod_eq_of_lt hj,Nat.add_zero]
      · intro k u hu;rw [List.getElem?_map] at hu;obtain ⟨k',hk',rfl⟩:=Option.map_eq_some_iff.1 hu;have hk:k<es.length*m:=by simpa using (List.getElem?_eq_some_iff.1 hk').1
        rw [List.getElem?_range hk] at hk';injection hk' with hk'
        subst hk';have hi:k/m<es.length:=by rw [Nat.div_lt_iff_lt_mul hn0];exact hk
        have hej:=g5 _ _ (List.getElem?_eq_getElem hi);have hj:k % m<es[k/m].length:=by rw [hej];exact Nat.mod_lt _ hn0
        have:=g6 _ _ _ _ (List.getElem?_eq_getElem hi) (List.getElem?_eq_getElem hj);rw [Addr.add_lit];rw [show off+k=off+k/m*m+k % m by have:=Nat.div_add_mod k m;rw [Nat.mul_comm] at this;omega];exact this
   · cases he
 · simp only [Option.some.injEq,Prod.mk.injEq] at he;obtain ⟨rfl,rfl⟩:=he;have h1:=hx.fz_inv;cases h1 with
   | z0 _ a=>exact ⟨by simp,[], .nil, .inr ⟨a,0,rfl,fun j u h=>by simp at h⟩⟩
   | z0n=>exact ⟨by simp,[], .nil, .inl ⟨rfl,rfl⟩⟩
 · rename_i o m off len;split at he
   · rename_i m' es ho;split at he
     · rename_i hc;obtain ⟨rfl,rfl,hfit⟩:=hc;simp only [Option.some.injEq,Prod.mk.injEq] at he;obtain ⟨rfl,rfl⟩:=he;obtain ⟨b,q,cap,sz,tt,hb,hsh,hlc,hcap,hq,rfl⟩ | ⟨h0,rfl⟩:=hx.osl_inv
       case inr=>subst h0;exact ⟨by simp,[],by simpa using LRep.nil, .inl ⟨rfl,by simp⟩⟩
       obtain ⟨us,t,g1,g2,g3,g4⟩:=z7e hO (by rw [ho];rfl) hb;have hn:∀ e∈(es.drop off).take len,e.length=m':=fun e he=>g3 e (List.mem_of_mem_drop (List.mem_of_mem_take he));have hlen:((es.drop off).take len).length=len:=by simp;omega
       have hmul:(off+len)*m'≤es.length*m':=Nat.mul_le_mul_right _ hfit;refine ⟨hn,(us.drop (off*m')).take (len*m'), ?_, .inr ⟨⟨b,q,none⟩,cap,by rw [hlen], ?_⟩⟩
       · refine z6w hn (by rw [hlen];simp;rw [Nat.add_mul] at hmul;omega) (fun i j e c he hc=> ?_);rw [List.getElem?_take,List.getElem?_drop] at he;split at he
         · rename_i hi;obtain ⟨u,hu,hr⟩:=g4 _ j e c he hc;refine ⟨u, ?_,hr⟩;have hj:j<m':=by rw [←g3 e (List.mem_of_getElem? he)];exact (List.getElem?_eq_some_iff.1 hc).1
           have hlt:i*m'+j<len*m':=by
            have:(i+1)*m'≤len*m':=Nat.mul_le_mul_right _ hi;rw [Nat.add_mul] at this;omega
           rw [List.getElem?_take,if_pos hlt,List.getElem?_drop,show off*m'+(i*m'+j)=(off+i)*m'+j by rw [Nat.add_mul];omega];exact hu
         · cases he
       · intro k u hu;rw [List.getElem?_take,List.getElem?_drop] at hu;split at hu
         · rename_i hk
           have hl0:0<len:=by rcases Nat.eq_zero_or_pos len with h0 | h0; · subst h0;simp at hk
                              · exact h0
           rw [hq.resolve_right (by omega),Addr.add_lit];simp only [World.cell?,g1,List.getElem?_toArray,Option.isSome_none,Bool.false_eq_true,if_false];exact hu
         · cases hu
     · cases he
   · cases he
 · cases he
theorem z5c (t ty e:TypeId)(i:TypeInfo)(ht:P.underlying t=some (.slice e))(hi:P.info? e=some i)(base:Option Addr)(len cap:Nat)(hlc:len≤cap)(v:Value)(hv:v= .slice none 0 0∨∃ a c,v= .slice (some a) 0 c):
  (Builtin.append_ #[t,t] ty #[.slice base len cap,v]).run P w= .ok (.slice base len cap) w:=by
 have hf:(Builtin.firstCells i.size 0 v).run P w= .ok #[] w:=by
  rcases hv with rfl | ⟨a,c,rfl⟩
  · simp [Builtin.firstCells]
  · simp [Builtin.firstCells,loadCells,loadCellsFrom]
 have hl:(Builtin.lenOf v).run P w= .ok 0 w:=by
  rcases hv with rfl | ⟨a,c,rfl⟩<;>simp [Builtin.lenOf]
 cases base<;>simp [Builtin.append_,run_underlying ht,sizeOf,typeInfo,hi,hl,hlc,hf,storeCells]
theorem zn3 (hO:Objs h β Y w) (hY:∀ b,Y b→b<w.heap.size) {fr:Nat} (hfr:β fr=none) {t ty:TypeId} {e:TypeId} {d:TyD} {de:TyD} {s x:TV} {u v:Value} {r:AR} (hd:tyOf P t=some d) (hk:d.kind= .slice e) (hde:tyOf P e=some de)
  (hs:TRep w (XO Y h β) β s u) (hx:TRep w (XO Y h β) β x v) (ha:z97 de fr h s x=some r):
  Does P h β Y w fr r (do pure (.value (←Builtin.append_ #[t,t] ty #[u,v]))):=by
 have ht:=z2e hd hk;unfold z97 at ha;split at ha
 · rename_i hc;obtain ⟨hs0,hb0,hb1,hz⟩:=hc;obtain ⟨z,hz1,hz2⟩:=Option.map_eq_some_iff.1 hz;obtain ⟨zv,_,hz3,_,i,hi,hiz⟩:=z4h (w:=w) hde hz1;obtain ⟨i',_,hi',_,_,hsz,hby,_,_⟩:=z4g hde;rw [hi] at hi';injection hi' with hi';subst hi'
   have hzs:zv.cells.size=i.size:=by rw [←hsz,←hz2,hz3];simp
   unfold z2n at ha;split at ha
   · cases ha
   · rename_i new rd hel;obtain ⟨hn,news,hfl,hcase⟩:=z8r hO hel hx hs0;have hnl:news.length=new.length*i.size:=by rw [←hfl.1,z6l hn,hsz]
     have zlen:∀ k,(Builtin.zeroCells zv.cells k).toList.length=k*i.size:=fun k=>by rw [Array.length_toList,size_zeroCells,hzs]
     split at ha
     ·
      rw [hs.nils_inv];split at ha
      · rename_i hnew;injection ha with ha;subst ha
        have hv:v= .slice none 0 0∨∃ a c,v= .slice (some a) 0 c:=by
         rcases hcase with ⟨h1,_⟩ | ⟨a,c,h1,_⟩
         · exact .inl h1
         · subst hnew;exact .inr ⟨a,c,h1⟩
        exact z3g hO ⟨_,z5c t ty e i ht hi none 0 0 (Nat.le_refl _) v hv, .fz_mk .N⟩
      · rename_i hnew;split at ha
        · rename_i hroom;injection ha with ha;subst ha
          have hm0:0<new.length:=by cases new<;>simp_all
          obtain ⟨a,c,rfl,hcell⟩:=hcase.resolve_left (fun h=>hnew h.2);have hroom:new.length*i.bytes≤140737488355328:=by rw [←hby];exact hroom
          have hle:new.length≤new.length*i.bytes:=Nat.le_mul_of_pos_right _ (by rw [←hby];exact hb0);have hr:=run_append_nil (P:=P) w t ty e i zv ht hi hiz a new.length c news hnl hcell hm0 (by omega) (by omega);have hge:=grownCap_ge w new.length 0 e;refine z6r hO hY hfr de.size new (news++(Builtin.zeroCells zv.cells (grownCap w new.length 0 e-new.length)).toList) e 1 (.slice (some ⟨w.heap.size,0,none⟩) new.length (grownCap w new.length 0 e)) _ (hr.trans ?_) ?_ hn ?_ ?_
          · congr 1;simp only [World.alloc,World.drew];congr 3;apply Array.ext';simp
          · rw [List.length_append,hnl,hsz];omega
          · rw [hsz];intro i' j e' c' he' hc';rw [hsz] at hn;obtain ⟨u',hu',hr'⟩:=z2u hn hfl i' j e' c' he' hc';exact ⟨u',by rw [List.getElem?_append,if_pos (List.getElem?_eq_some_iff.1 hu').1];exact hu',hr'⟩
          · intro w' β' hb hsh;refine .a _ _ (.osl fr de.size 0 new.length w.heap.size 0 _ _ e hb hsh hge ?_ (.inl (by simp)));rw [List.length_append,hnl,zlen,←Nat.add_mul,hsz];exact Nat.mul_le_mul_right _ (by omega)
        · cases ha
     ·
      have hs':=hs.fz_inv
      have hu:(u= .slice none 0 0)∨∃ a0,u= .slice (some a0) 0 0:=by
       cases hs' with
       | z0 _ a0=>exact .inr ⟨a0,rfl⟩
       | z0n=>exact .inl rfl
      split at ha
      · rename_i hnew;injection ha with ha;subst ha
        have hv:v= .slice none 0 0∨∃ a c,v= .slice (some a) 0 c:=by
         rcases hcase with ⟨h1,_⟩ | ⟨a,c,h1,_⟩
         · exact .inl h1
         · subst hnew;exact .inr ⟨a,c,h1⟩
        rcases hu with rfl | ⟨a0,rfl⟩
        · exact z3g hO ⟨_,z5c t ty e i ht hi none 0 0 (Nat.le_refl _) v hv,hs⟩
        · exact z3g hO ⟨_,z5c t ty e i ht hi (some a0) 0 0 (Nat.le_refl _) v hv,hs⟩
      · rename_i hnew;split at ha
        · rename_i hroom;injection ha with ha;subst ha
          have hm0:0<new.length:=by cases new<;>simp_all
          obtain ⟨a,c,rfl,hcell⟩:=hcase.resolve_left (fun h=>hnew h.2);have hroom:new.length*i.bytes≤140737488355328:=by rw [←hby];exact hroom
          have hle:new.length≤new.length*i.bytes:=Nat.le_mul_of_pos_right _ (by rw [←hby];exact hb0)
          have hr:(Builtin.append_ #[t,t] ty #[u, .slice (some a) new.length c]).run P w= .ok (.slice (some ⟨w.heap.size,0,none⟩) new.length (grownCap w new.length 0 e)) (w.drew.alloc (.cells (news.toArray++Builtin.zeroCells zv.cells (grownCap w new.length 0 e-new.length)) e)):=by
           rcases hu with rfl | ⟨a0,rfl⟩
           · exact run_append_nil (P:=P) w t ty e i zv ht hi hiz a new.length c news hnl hcell hm0 (by omega) (by omega)
           · have:=run_append_grow (P:=P) w t ty e i zv ht hi hiz a0 0 0 [] (by simp) (fun j u h=>by simp at h) a new.length c news hnl hcell (by omega) (by omega) (growslice_fits (by omega) (by simpa using hroom));simpa using this
          have hge:=grownCap_ge w new.length 0 e;refine z6r hO hY hfr de.size new (news++(Builtin.zeroCells zv.cells (grownCap w new.length 0 e-new.length)).toList) e 1 (.slice (some ⟨w.heap.size,0,none⟩) new.length (grownCap w new.length 0 e)) _ (hr.trans ?_) ?_ hn ?_ ?_
          · congr 1;simp only [World.alloc,World.drew];congr 3;apply Array.ext';simp
          · rw [List.length_append,hnl,hsz];omega
          · rw [hsz];intro i' j e' c' he' hc';rw [hsz] at hn;obtain ⟨u',hu',hr'⟩:=z2u hn hfl i' j e' c' he' hc';exact ⟨u',by rw [List.getElem?_append,if_pos (List.getElem?_eq_some_iff.1 hu').1];exact hu',hr'⟩
          · intro w' β' hb hsh;refine .a _ _ (.osl fr de.size 0 new.length w.heap.size 0 _ _ e hb hsh hge ?_ (.inl (by simp)));rw [List.length_append,hnl,zlen,←Nat.add_mul,hsz];exact Nat.mul_le_mul_right _ (by omega)
        · cases ha
     ·
      rename_i o n off len;split at ha
      · rename_i m es ho;split at ha
        · rename_i hc;obtain ⟨rfl,rfl,rfl,hle,hroom,hnr⟩:=hc;injection ha with ha;subst ha
          have hne:o≠fr:=fun e=>by subst e;simp at hnr
          obtain ⟨b,q,cap,sz,tt,hb,hsh,hlc,hcap,hq,rfl⟩ | ⟨h0,rfl⟩:=hs.osl_inv
          case inr=>
           subst h0
           have hover:∀ X:AObj,over [(o, .gone),(fr,X)] h=upd (upd h o .gone) fr X:=by
            intro X;funext k;simp only [over,z0r,upd];by_cases e1:o=k
            · subst e1;simp [hne]
            · by_cases e2:fr=k
              · subst e2;simp [e1]
              · simp [e1,e2,show k≠fr from fun h=>e2 h.symm,show k≠o from fun h=>e1 h.symm]
           by_cases hnew:new=[]
           · have hv:v= .slice none 0 0∨∃ a c,v= .slice (some a) 0 c:=by
              rcases hcase with ⟨h1,_⟩ | ⟨a,c,h1,_⟩
              · exact .inl h1
              · subst hnew;exact .inr ⟨a,c,h1⟩
             subst hnew;refine ⟨.value (.slice none 0 0), .slice none 0 0,w,β, ?_, .inl rfl, ?_, ?_⟩
             · simp only [Sem.run_bind,z5c t ty e i ht hi none 0 0 (Nat.le_refl _) v hv,Result.andThen_ok,Sem.run_pure]
             · rw [hover];simpa using zsd hO o hfr de.size
             · exact .a _ _ (.oslN _ _ _)
           · have hm0:0<new.length:=by cases new<;>simp_all
             obtain ⟨a,c,rfl,hcell⟩:=hcase.resolve_left (fun h=>hnew h.2);have hroom:(0+new.length)*i.bytes≤140737488355328:=by rw [←hby];exact hroom
             rw [Nat.zero_add] at hroom;have hle:new.length≤new.length*i.bytes:=Nat.le_mul_of_pos_right _ (by rw [←hby];exact hb0);have hr:=run_append_nil (P:=P) w t ty e i zv ht hi hiz a new.length c news hnl hcell hm0 (by omega) (by omega);have hge:=grownCap_ge w new.length 0 e;rw [hsz] at hn
             have hm1:=zae hO hY hfr i.size new (news++(Builtin.zeroCells zv.cells (grownCap w new.length 0 e-new.length)).toList) e 1
              (by rw [List.length_append,hnl];omega) hn (fun i' j e' c' he' hc'=>by
               obtain ⟨u',hu',hr'⟩:=z2u hn hfl i' j e' c' he' hc';exact ⟨u',by rw [List.getElem?_append,if_pos (List.getElem?_eq_some_iff.1 hu').1];exact hu',hr'⟩)
             have hm2:=zbd hm1.objs o;have hm:=hm1.trans hm2 (fun k hk=>by rw [hk];exact hfr) hO (f:=fun k=>k=fr) (fun _ h=>h) (fun _ h=>h.elim)
             have heq:upd (upd h fr (.arr i.size new)) o .gone=upd (upd h o .gone) fr (.arr i.size new):=by
              funext k
              simp only [upd];by_cases e1:k=fr
              · subst e1;simp [show¬k=o from fun e=>hne e.symm]
              · by_cases e2:k=o
                · subst e2;simp [e1]
                · simp [e1,e2]
             rw [heq] at hm
             refine ⟨.value (.slice (some ⟨w.heap.size,0,none⟩) new.length (grownCap w new.length 0 e)), .slice (some ⟨w.heap.size,0,none⟩) new.length (grownCap w new.length 0 e),
              { w with heap:=w.heap.push (.cells (news++(Builtin.zeroCells zv.cells (grownCap w new.length 0 e-new.length)).toList).toArray e (0,0)),drawn:=w.drawn+1 },AM.upd β fr (some w.heap.size), ?_, .inl rfl, ?_, ?_⟩
             · simp only [Sem.run_bind,hr,Result.andThen_ok,Sem.run_pure,World.alloc,World.drew];congr 4;apply Array.ext';simp
             · rw [hover,List.take_zero,List.nil_append,hsz];exact hm
             · simp only [Nat.zero_add];refine .a _ _ (.osl fr de.size 0 new.length w.heap.size 0 _ (news++(Builtin.zeroCells zv.cells (grownCap w new.length 0 e-new.length)).toList).length e (by simp [AM.upd]) ?_ hge ?_ (.inl (by simp)))
               · simp [World.shape?]
               · rw [List.length_append,hnl,zlen,←Nat.add_mul,hsz];exact Nat.mul_le_mul_right _ (by omega)
          obtain ⟨us,te,g1,g2,g3,g4⟩:=z7e hO (by rw [ho];rfl) hb;have hlive:isLive (h o):=by rw [ho];trivial
          have hszu:sz=us.length:=by
           simp only [World.shape?,g1,Option.some.injEq,Prod.mk.injEq] at hsh;have:=hsh.2;simp at this;exact this.symm
          have hover:∀ X:AObj,over [(o, .gone),(fr,X)] h=upd (upd h o .gone) fr X:=by
           intro X;funext k;simp only [over,z0r,upd];by_cases e1:o=k
           · subst e1;simp [hne]
           · by_cases e2:fr=k
             · subst e2;simp [e1]
             · simp [e1,e2,show k≠fr from fun h=>e2 h.symm,show k≠o from fun h=>e1 h.symm]
          have hnes:∀ e'∈es.take len++new,e'.length=de.size:=by
           intro e' he';rcases List.mem_append.1 he' with h1 | h1
           · exact g3 e' (List.mem_of_mem_take h1)
           · exact hn e' h1
          have hlenes:(es.take len++new).length=len+new.length:=by simp;omega
          have hroom:(len+new.length)*i.bytes≤140737488355328:=by rw [←hby];exact hroom
          have hler:len+new.length≤(len+new.length)*i.bytes:=Nat.le_mul_of_pos_right _ (by rw [←hby];exact hb0);have hlm:len*de.size≤es.length*de.size:=Nat.mul_le_mul_right _ hle;have holds:∀ X:Nat→Prop,True:=fun _=>trivial
          have hflold:LRep (WRep w (XO Y h β) β) (es.take len).flatten (us.take (len*de.size)):=by
           refine z6w (fun e' he'=>g3 e' (List.mem_of_mem_take he')) (by rw [List.length_take,List.length_take,Nat.min_eq_left hle,Nat.min_eq_left (by omega)]) (fun i' j e' c' he' hc'=> ?_);rw [List.getElem?_take] at he';split at he'
           · rename_i hi';obtain ⟨u',hu',hr'⟩:=g4 i' j e' c' he' hc';have hj:j<de.size:=by rw [←g3 e' (List.mem_of_getElem? he')];exact (List.getElem?_eq_some_iff.1 hc').1
             have hlt:i'*de.size+j<len*de.size:=by
              have:(i'+1)*de.size≤len*de.size:=Nat.mul_le_mul_right _ hi';rw [Nat.add_mul] at this;omega
             exact ⟨u',by rw [List.getElem?_take,if_pos hlt];exact hu',hr'⟩
           · cases he'
          have hflall:LRep (WRep w (XO Y h β) β) (es.take len++new).flatten (us.take (len*de.size)++news):=by
           rw [List.flatten_append];exact hflold.append hfl
          by_cases hfitc:len+new.length≤cap
          ·
           by_cases hm0:new.length=0
           · have hnew:new=[]:=List.eq_nil_of_length_eq_zero hm0
             have hv:v= .slice none 0 0∨∃ a c,v= .slice (some a) 0 c:=by
              rcases hcase with ⟨h1,_⟩ | ⟨a,c,h1,_⟩
              · exact .inl h1
              · rw [hm0] at h1;exact .inr ⟨a,c,h1⟩
             subst hnew
             have hm1:=zew hO hlive hb us us te g1 rfl de.size (es.take len) (by rw [List.length_take,Nat.min_eq_left hle];omega) (fun e' he'=>g3 e' (List.mem_of_mem_take he')) (fun i' j e' c' he' hc'=>by
              rw [List.getElem?_take] at he';split at he'
              · exact g4 i' j e' c' he' hc'
              · cases he')
             have hself:w.setRow b us.toArray=w:=setRow_self w b us.toArray te (0,0) g1;rw [hself] at hm1;have hm2:=zbq hm1.objs (o:=o) (fr:=fr) (b:=b) (by simp [upd,isLive]) hb hfr;have hm:=hm1.trans hm2 (fun _ h=>h.elim) hO (f:=fun k=>k=fr) (fun _ h=>h.elim) (fun _ h=>h)
             have heq:upd (upd (upd h o (.arr de.size (es.take len))) o .gone) fr (upd h o (.arr de.size (es.take len)) o)=upd (upd h o .gone) fr (.arr de.size (es.take len++ [])):=by
              funext k;simp only [upd,List.append_nil];by_cases e1:k=fr<;>by_cases e2:k=o<;>simp [e1,e2]
             rw [heq] at hm;refine ⟨.value (.slice (some ⟨b,q,none⟩) len cap), .slice (some ⟨b,q,none⟩) len cap,w,upd β fr (some b), ?_, .inl rfl, ?_, ?_⟩
             · simp only [Sem.run_bind,z5c t ty e i ht hi (some ⟨b,q,none⟩) len cap hlc v hv,Result.andThen_ok,Sem.run_pure]
             · rw [hover];exact hm
             · rw [hover];exact .a _ _ (.osl fr de.size 0 len b q cap sz tt (by simp [upd]) hsh hlc hcap hq)
           · obtain ⟨a,c,rfl,hcell⟩:=hcase.resolve_left (fun h=>hm0 (by rw [h.2];rfl));have hq0:q=0:=by have:=hq.resolve_right (by omega);simpa using this
             subst hq0;have hte:(⟨us.toArray,te⟩:Array Value×TypeId)=(us.toArray,te):=rfl;have hcap':cap*de.size≤us.length:=by rw [←hszu];simpa using hcap
             have hfit:len*i.size+news.length≤us.toArray.size:=by
              rw [hnl,←Nat.add_mul,←hsz];exact Nat.le_trans (Nat.mul_le_mul_right _ hfitc) (by simpa using hcap')
             have hrun:(Builtin.append_ #[t,t] ty #[.slice (some ⟨b,0,none⟩) len cap, .slice (some a) new.length c]).run P w=
               .ok (.slice (some ⟨b,0,none⟩) (len+new.length) cap) (w.setRow b (us.take (len*i.size)++news++us.drop (len*i.size+news.length)).toArray):=by
              have hf:=run_firstCells_some (P:=P) w i.size new.length a new.length c news hnl hcell;have hst:=run_storeCells_at P b (len*i.size) te news 0 us.toArray w g1 (by simpa using hfit) hfl.cell;simp only [Nat.add_zero] at hst;simp [Builtin.append_,run_underlying ht,sizeOf,typeInfo,hi,Builtin.lenOf,hfitc,hf,Addr.add_lit,hst]
             have hlen2:(us.take (len*i.size)++news++us.drop (len*i.size+news.length)).length=us.length:=by
              simp only [List.length_append,List.length_take,List.length_drop];simp at hfit;omega
             have hpre:∀ k,k<len*i.size+news.length→(us.take (len*i.size)++news++us.drop (len*i.size+news.length))[k]? =(us.take (len*i.size)++news)[k]? :=by
              intro k hk;rw [List.getElem?_append,if_pos (by rw [List.length_append,List.length_take,Nat.min_eq_left (by simp at hfit;omega)];exact hk)]
             have hm1:=zew hO hlive hb (us.take (len*i.size)++news++us.drop (len*i.size+news.length)) us te g1 hlen2 de.size (es.take len++new)
              (by rw [hlenes,hlen2,Nat.add_mul];rw [hsz];simp at hfit;rw [hnl] at hfit;exact hfit) hnes (fun i' j e' c' he' hc'=>by
               obtain ⟨u',hu',hr'⟩:=z2u hnes hflall i' j e' c' he' hc';rw [hsz] at hu' ⊢;have hk:=(List.getElem?_eq_some_iff.1 hu').1;refine ⟨u', ?_,hr'⟩;rw [hpre _ (by simp only [List.length_append,List.length_take] at hk;omega)];exact hu')
             have hm2:=zbq hm1.objs (o:=o) (fr:=fr) (b:=b) (by simp [upd,isLive]) hb hfr;have hm:=hm1.trans hm2 (fun _ h=>h.elim) hO (f:=fun k=>k=fr) (fun _ h=>h.elim) (fun _ h=>h)
             have heq:upd (upd (upd h o (.arr de.size (es.take len++new))) o .gone) fr (upd h o (.arr de.size (es.take len++new)) o)=upd (upd h o .gone) fr (.arr de.size (es.take len++new)):=by
              funext k;simp only [upd];by_cases e1:k=fr<;>by_cases e2:k=o<;>simp [e1,e2]
             rw [heq] at hm;refine ⟨.value (.slice (some ⟨b,0,none⟩) (len+new.length) cap), .slice (some ⟨b,0,none⟩) (len+new.length) cap,w.setRow b (us.take (len*i.size)++news++us.drop (len*i.size+news.length)).toArray,upd β fr (some b), ?_, .inl rfl, ?_, ?_⟩
             · simp only [Sem.run_bind,hrun,Result.andThen_ok,Sem.run_pure]
             · rw [hover];exact hm
             · rw [hover];refine .a _ _ (.osl fr de.size 0 (len+new.length) b 0 cap sz tt (by simp [upd]) ?_ hfitc hcap (.inl (by simp)));rw [hm1.good.shp b (hO.lt o b hb)];exact hsh
          ·
           have hm0:new.length≠0:=by omega
           obtain ⟨a,c,rfl,hcell⟩:=hcase.resolve_left (fun h=>hm0 (by rw [h.2];rfl))
           have hcl:∀ j u',(us.take (len*de.size))[j]? =some u'→w.cell? ((⟨b,q,none⟩:Addr).add j)=some u':=by
            intro j u' hu';rw [List.getElem?_take] at hu';split at hu'
            · rename_i hj
              have hl0:0<len:=by rcases Nat.eq_zero_or_pos len with h0 | h0; · subst h0;simp at hj
                                 · exact h0
              have hq0:q=0:=by have:=hq.resolve_right (by omega);simpa using this
              subst hq0;rw [Addr.add_lit];simp only [World.cell?,g1,List.getElem?_toArray,Option.isSome_none,Bool.false_eq_true,if_false,Nat.zero_add];exact hu'
            · cases hu'
           have hr:=run_append_grow (P:=P) w t ty e i zv ht hi hiz ⟨b,q,none⟩ len cap (us.take (len*de.size)) (by rw [←hsz];simp;omega) hcl a new.length c news hnl hcell (by omega) (by omega) (growslice_fits (by omega) hroom);have hge:=grownCap_ge w (len+new.length) cap e
           have hm1:=zae hO hY hfr de.size (es.take len++new) (us.take (len*de.size)++news++(Builtin.zeroCells zv.cells (grownCap w (len+new.length) cap e-(len+new.length))).toList) e 1
            (by rw [hlenes,List.length_append,List.length_append,hnl,Nat.add_mul,hsz];simp;rw [←hsz];omega) hnes (fun i' j e' c' he' hc'=>by
             obtain ⟨u',hu',hr'⟩:=z2u hnes hflall i' j e' c' he' hc';exact ⟨u',by rw [List.getElem?_append,if_pos (List.getElem?_eq_some_iff.1 hu').1];exact hu',hr'⟩)
           have hm2:=zbd hm1.objs o;have hm:=hm1.trans hm2 (fun k hk=>by rw [hk];exact hfr) hO (f:=fun k=>k=fr) (fun _ h=>h) (fun _ h=>h.elim)
           have heq:upd (upd h fr (.arr de.size (es.take len++new))) o .gone=upd (upd h o .gone) fr (.arr de.size (es.take len++new)):=by
            funext k
            simp only [upd];by_cases e1:k=fr
            · subst e1;simp [show¬k=o from fun e=>hne e.symm]
            · by_cases e2:k=o
              · subst e2;simp [e1]
              · simp [e1,e2]
           rw [heq] at hm
           refine ⟨.value (.slice (some ⟨w.heap.size,0,none⟩) (len+new.length) (grownCap w (len+new.length) cap e)), .slice (some ⟨w.heap.size,0,none⟩) (len+new.length) (grownCap w (len+new.length) cap e),
            { w with heap:=w.heap.push (.cells (us.take (len*de.size)++news++(Builtin.zeroCells zv.cells (grownCap w (len+new.length) cap e-(len+new.length))).toList).toArray e (0,0)),drawn:=w.drawn+1 },upd β fr (some w.heap.size), ?_, .inl rfl, ?_, ?_⟩
           · simp only [Sem.run_bind,hr,Result.andThen_ok,Sem.run_pure,World.alloc,World.drew];congr 4;apply Array.ext';simp
           · rw [hover];exact hm
           · rw [hover];refine .a _ _ (.osl fr de.size 0 (len+new.length) w.heap.size 0 _ (us.take (len*de.size)++news++(Builtin.zeroCells zv.cells (grownCap w (len+new.length) cap e-(len+new.length))).toList).length e (by simp [upd]) ?_ hge ?_ (.inl (by simp)))
             · simp [World.shape?]
             · simp only [List.length_append,List.length_take,hnl,zlen];rw [Nat.min_eq_left (by omega),hsz,←Nat.add_mul,←Nat.add_mul];exact Nat.mul_le_mul_right _ (by omega)
        · cases ha
      · cases ha
     · cases ha
 · cases ha
end
end Go.AM

namespace Go.AM
section
variable {P:Program} {w:World} {X:Nat→Prop} {β:Nat→Option Nat}
theorem zhh {f:FV}{u:Value}(h:FRep w X f u):WRep w X β (cell f) u:= .a _ _ (.fz _ _ h)
theorem zck {fs:List FV}{us:List Value}(h:LRep (FRep w X) fs us):LRep (WRep w X β) (fzs fs) us:=LRep.map h fun _ _ _ h=>zhh h
theorem zw2 {kt:TypeId}{k:EK}{a b:List FV}{u v:Value}{r:Bool}(hk:ekOf P kt=some k)(ha:PRep (FRep w X) (false,a) u)(hb:PRep (FRep w X) (false,b) v)(hs:z0q [k] (fzs a) (fzs b)=some r):
  ∃ d,P.underlying kt=some d∧Instr.sameNow d u v=some r∧(match d with | .struct _ | .array _ _ | .interface _=>False | _=>True)∧(∀ cs,u ≠ .agg cs):=by
 obtain ⟨us,rfl,hu,hu1⟩:=ha;obtain ⟨vs,rfl,hv,hv1⟩:=hb;obtain ⟨x,y,xs',ys',p,q,e1,e2,hsc,hr,hcase⟩:=z6n hs;have hu':=zck (β:=fun _=>none) hu;have hv':=zck (β:=fun _=>none) hv;rw [e1] at hu';rw [e2] at hv';obtain ⟨u0,us',rfl,hu0,hur⟩:=hu'.cons_inv;obtain ⟨v0,vs',rfl,hv0,hvr⟩:=hv'.cons_inv
 have hq:q=true:=by
  cases xs'<;>cases ys'<;>simp only [z0q,Option.some.injEq,reduceCtorEq] at hsc
  exact hsc.symm
 subst hq;rw [Bool.and_true] at hr;subst hr;simp only [shut,Bool.false_eq_true,if_false,List.getD_cons_zero];unfold ekOf at hk;rcases hcase with ⟨rfl,kk,n,m,rfl,rfl,rfl⟩ | ⟨rfl,n,m,rfl,rfl,rfl⟩ | ⟨rfl,n,m,rfl,rfl,rfl⟩
 · split at hk<;>simp only [Option.some.injEq,reduceCtorEq] at hk
   rename_i hd;rw [TRep.int_inv (β:=fun _=>none) (X:=X) (w:=w) hu0,TRep.int_inv (β:=fun _=>none) (X:=X) (w:=w) hv0];exact ⟨_,hd,by simp [Instr.sameNow],trivial,by simp⟩
 · split at hk<;>simp only [Option.some.injEq,reduceCtorEq] at hk
   rename_i hd;rw [TRep.bool_inv (β:=fun _=>none) (X:=X) (w:=w) hu0,TRep.bool_inv (β:=fun _=>none) (X:=X) (w:=w) hv0];exact ⟨_,hd,by simp [Instr.sameNow],trivial,by simp⟩
 · split at hk<;>simp only [Option.some.injEq,reduceCtorEq] at hk
   rename_i hd;rw [TRep.str_inv (β:=fun _=>none) (X:=X) (w:=w) hu0,TRep.str_inv (β:=fun _=>none) (X:=X) (w:=w) hv0];refine ⟨_,hd, ?_,trivial,by simp⟩
   have:((⟨n.toArray⟩:ByteArray)==⟨m.toArray⟩)=(n==m):=by
    rw [Bool.eq_iff_iff];simp only [MapKept.bytes_beq,beq_iff_eq];constructor
    · intro h;injection h with h;exact List.toArray_inj h
    · intro h;rw [h]
   simp [Instr.sameNow,this]
theorem agg_eq {kt:TypeId}{fs:Array Field}{l:List EK}{a b:List FV}{u v:Value}{r:Bool}(hfs:P.underlying kt=some (.struct fs))(hl:z94 P kt=some l)(ha:PRep (FRep w X) (true,a) u)(hb:PRep (FRep w X) (true,b) v)(hs:z0q l (fzs a) (fzs b)=some r):(Op.equal kt u v).run P w= .ok r w:=by
 obtain ⟨us,rfl,hu,hu1⟩:=ha;obtain ⟨vs,rfl,hv,hv1⟩:=hb;unfold z94 at hl;rw [hfs] at hl;simp only at hl;split at hl
 · rename_i hc;have hf:P.fieldsOf kt=fs:=by simp [Program.fieldsOf,hfs]
   have hrun:=z6q (β:=fun _=>none) fs.toList 0 l _ _ us vs us.toArray vs.toArray r hl hs (zck hu) (zck hv) (by simp) (by simp);have:=run_equalIn_agg (P:=P) w 9999 kt us.toArray vs.toArray (by rw [hf];exact hfs) hc.1;rw [hf] at this;exact this.trans hrun
 · cases hl
def zc7 (ms:List MapEntry)(r:Option Nat):Option (Nat×Value):=r.bind fun i=>(ms[i]?).map fun e=>(i,e.val)
theorem ze8 {d:TypeDesc}{k:EK}{kt:TypeId}(hk:ekOf P kt=some k)(hd:P.underlying kt=some d){key:List FV}{u:Value}(hu:PRep (FRep w X) (false,key) u):∀ (es:List MapE) (ms all:List MapEntry) (i:Nat) (res:Option Nat),
  all.drop i=ms→es.length=ms.length→(∀ (j:Nat) (e:MapE) (x:MapEntry),es[j]? =some e→ms[j]? =some x→PRep (FRep w X) e.1 x.key)→z6c (false,[k]) key es i=some res→Instr.findNow d u ms i=some (zc7 all res)∧∀ j,res=some j→i≤j∧j<i+es.length
 | [],ms,all,i,res,hall,hlen,hrep,h=>by
  have:ms=[]:=List.eq_nil_of_length_eq_zero (by simpa using hlen.symm);subst this;simp only [z6c,Option.some.injEq] at h;subst h;exact ⟨rfl,fun j hj=>by cases hj⟩
 | e::es,ms,all,i,res,hall,hlen,hrep,h=>by
  match ms,hlen with
  | x::ms,hlen=>
  simp only [z6c] at h;split at h
  · rename_i hag;obtain ⟨b,hb,h⟩:=Option.bind_eq_some_iff.1 h;have hx:=hrep 0 e x rfl rfl;rw [show e.1=(false,e.1.2) by rw [←hag]] at hx;obtain ⟨d',hd',hn,_⟩:=zw2 hk hu hx hb;rw [hd] at hd';injection hd' with hd';subst hd'
    simp only [Instr.findNow,hn];cases b with
    | true=>
     simp only [if_true,Option.some.injEq] at h;subst h
     have hi:all[i]? =some x:=by
      have:(all.drop i)[0]? =some x:=by rw [hall];rfl
      simpa [List.getElem?_drop] using this
     exact ⟨by simp [zc7,hi],fun j hj=>by injection hj with hj;subst hj;simp⟩
    | false=>
     simp only [Bool.false_eq_true,if_false] at h;obtain ⟨h1,h2⟩:=ze8 hk hd hu es ms all (i+1) res (by rw [←List.drop_drop,hall];rfl) (by simpa using hlen) (fun j e' x' he hx'=>hrep (j+1) e' x' he hx') h;exact ⟨h1,fun j hj=>by have:=h2 j hj;simp only [List.length_cons];omega⟩
  · cases h
theorem z8l {l:List EK}{fs:Array Field}{kt:TypeId}(hd:P.underlying kt=some (.struct fs))(hk:z94 P kt=some l){key:List FV}{u:Value}(hu:PRep (FRep w X) (true,key) u):∀ (es:List MapE) (ms all:List MapEntry) (i:Nat) (res:Option Nat),
  all.drop i=ms→es.length=ms.length→(∀ (j:Nat) (e:MapE) (x:MapEntry),es[j]? =some e→ms[j]? =some x→PRep (FRep w X) e.1 x.key)→z6c (true,l) key es i=some res→(Instr.findAsking kt u ms i).run P w= .ok (zc7 all res) w∧∀ j,res=some j→i≤j∧j<i+es.length
 | [],ms,all,i,res,hall,hlen,hrep,h=>by
  have:ms=[]:=List.eq_nil_of_length_eq_zero (by simpa using hlen.symm);subst this;simp only [z6c,Option.some.injEq] at h;subst h;exact ⟨rfl,fun j hj=>by cases hj⟩
 | e::es,ms,all,i,res,hall,hlen,hrep,h=>by
  match ms,hlen with
  | x::ms,hlen=>
  simp only [z6c] at h;split at h
  · rename_i hag;obtain ⟨b,hb,h⟩:=Option.bind_eq_some_iff.1 h;have hx:=hrep 0 e x rfl rfl;rw [show e.1=(true,e.1.2) by rw [←hag]] at hx;have hn:=agg_eq hd hk hu hx hb;simp only [Instr.findAsking,Sem.run_bind,hn,Result.andThen_ok];cases b with
    | true=>
     simp only [if_true,Option.some.injEq] at h;subst h
     have hi:all[i]? =some x:=by
      have:(all.drop i)[0]? =some x:=by rw [hall];rfl
      simpa [List.getElem?_drop] using this
     exact ⟨by simp [zc7,hi],fun j hj=>by injection hj with hj;subst hj;simp⟩
    | false=>
     simp only [Bool.false_eq_true,if_false] at h;obtain ⟨h1,h2⟩:=z8l hd hk hu es ms all (i+1) res (by rw [←List.drop_drop,hall];rfl) (by simpa using hlen) (fun j e' x' he hx'=>hrep (j+1) e' x' he hx') h;exact ⟨by simpa using h1,fun j hj=>by have:=h2 j hj;simp only [List.length_cons];omega⟩
  · cases h
end
end Go.AM

namespace Go.AM
section
variable {P:Program} {h:Nat→AObj} {β:Nat→Option Nat} {Y:Nat→Prop} {w:World}
theorem zli (hO:Objs h β Y w)(hY:∀ b,Y b→b<w.heap.size){fr:Nat}(hfr:β fr=none):
  Moves h (upd h fr (.mapo [])) β (upd β fr (some w.heap.size)) Y w { w with heap:=w.heap.push (.map #[] 0) } (fun o=>o=fr):=by
 have hβ:∀ o b,β o=some b→upd β fr (some w.heap.size) o=some b:=by
  intro o b hb;unfold upd;split
  · rename_i e;subst e;rw [hfr] at hb;cases hb
  · exact hb
 have hβ':∀ o b,upd β fr (some w.heap.size) o=some b→(β o=some b∧o≠fr)∨(o=fr∧b=w.heap.size):=by
  intro o b hb;unfold upd at hb;split at hb
  · rename_i e;exact .inr ⟨e,by simpa using hb.symm⟩
  · rename_i e;exact .inl ⟨hb,e⟩
 have hlive:∀ o,isLive (upd h fr (.mapo []) o)→isLive (h o)∨o=fr:=by
  intro o hl;unfold upd at hl;split at hl
  · rename_i e;exact .inr e
  · exact .inl hl
 have hg:Goes w { w with heap:=w.heap.push (.map #[] 0) } (XO Y h β) (XO Y (upd h fr (.mapo [])) (upd β fr (some w.heap.size))) β (upd β fr (some w.heap.size)):=by
  refine ⟨by simp,fun b hx hb=>⟨by simp [Array.getElem?_push,show b≠w.heap.size by omega],fun hx'=> ?_⟩,fun b hb=>by simp [World.shape?,Array.getElem?_push,show b≠w.heap.size by omega],fun o b hb=>⟨hβ o b hb,hO.lt o b hb⟩⟩;rcases hx' with hy | ⟨o,hl,ho⟩
  · exact hx (.inl hy)
  · rcases hβ' o b ho with ⟨ho,hne⟩ | ⟨_,e⟩
    · exact hx (.inr ⟨o,(hlive o hl).resolve_right hne,ho⟩)
    · omega
 refine ⟨⟨by simp,fun b hb _=>by simp [Array.getElem?_push,show b≠w.heap.size by omega],fun b hb=>by simp [World.shape?,Array.getElem?_push,show b≠w.heap.size by omega],rfl,rfl,rfl⟩, ?_,hβ, ?_,hlive⟩
 · refine ⟨fun o b hl hb=> ?_,fun o hl=> ?_,fun o o' b hl hl' hb hb'=> ?_,fun o b hb=> ?_⟩
   · rcases hβ' o b hb with ⟨ho,hne⟩ | ⟨e,eb⟩
     · have hlo:=(hlive o hl).resolve_right hne;rw [show upd h fr (.mapo []) o=h o by simp [upd,hne]];exact (hO.rep o b hlo ho).goes hg (by simp [Array.getElem?_push,show b≠w.heap.size by have:=hO.lt o b ho;omega])
     · subst e;subst eb;rw [show upd h o (.mapo []) o= .mapo [] by simp [upd]];exact ⟨[],0,by simp,rfl,fun i e m he _=>by simp at he,rfl,fun i m hm=>by simp at hm⟩
   · rcases hlive o hl with hlo | e
     · by_cases e:o=fr
       · subst e;exact .inl ⟨w.heap.size,by simp [upd],by simp,fun hy=>by have:=hY _ hy;omega⟩
       · rcases hO.has o hlo with ⟨b,hb,hlt,hny⟩ | ⟨hb,hn⟩
         · exact .inl ⟨b,hβ o b hb,by simp;omega,hny⟩
         · exact .inr (by simp only [upd,e,if_false];exact ⟨hb,hn⟩)
     · subst e;exact .inl ⟨w.heap.size,by simp [upd],by simp,fun hy=>by have:=hY _ hy;omega⟩
   · rcases hβ' o b hb with ⟨ho,hne⟩ | ⟨e,eb⟩
     · rcases hβ' o' b hb' with ⟨ho',hne'⟩ | ⟨e',eb'⟩
       · exact hO.inj o o' b ((hlive o hl).resolve_right hne) ((hlive o' hl').resolve_right hne') ho ho'
       · have:=hO.lt o b ho;omega
     · rcases hβ' o' b hb' with ⟨ho',hne'⟩ | ⟨e',eb'⟩
       · have:=hO.lt o' b ho';omega
       · rw [e,e']
   · rcases hβ' o b hb with ⟨ho,_⟩ | ⟨_,eb⟩
     · have:=hO.lt o b ho;simp;omega
     · simp;omega
 · intro o b hb;rcases hβ' o b hb with ⟨ho,_⟩ | ⟨e,eb⟩
   · exact .inl ho
   · exact .inr ⟨e, .inl (by omega)⟩
theorem z4f (hO:Objs h β Y w) {o b:Nat} (hl:isLive (h o)) (hb:β o=some b) {old:Array MapEntry} {oc:Nat} (hold:w.heap[b]? =some (.map old oc)) (ms:List MapEntry) (es:List MapE) (hlen:ms.length=es.length)
  (hrep:∀ (i:Nat) (e:MapE) (m:MapEntry),es[i]? =some e→ms[i]? =some m→PRep (FRep w (XO Y h β)) e.1 m.key∧PRep (WRep w (XO Y h β) β) e.2 m.val)
  (hborn:∀ (i:Nat) (m:MapEntry),ms[i]? =some m→m.born=i):
  Moves h (upd h o (.mapo es)) β β Y w { w with heap:=w.heap.setIfInBounds b (.map ms.toArray ms.length) } (fun _=>False):=by
 have hset:=MapKept.heap_set (o':= .map ms.toArray ms.length) hold;have hheap:∀ k,k≠b→(w.heap.setIfInBounds b (.map ms.toArray ms.length))[k]? =w.heap[k]? :=fun k hk=>hset.2 k hk;have hown:Own h β b:=⟨o,hl,hb⟩
 have hlive:∀ o',isLive (upd h o (.mapo es) o')→isLive (h o'):=by
  intro o' hl';unfold upd at hl';split at hl'
  · rename_i e;subst e;exact hl
  · exact hl'
 have hsize:(w.heap.setIfInBounds b (.map ms.toArray ms.length)).size=w.heap.size:=by simp
 have hshape:∀ k,World.shape? { w with heap:=w.heap.setIfInBounds b (.map ms.toArray ms.length) } k=w.shape? k:=by
  intro k;by_cases hk:k=b
  · subst hk;simp [World.shape?,hset.1,hold]
  · simp [World.shape?,hheap k hk]
 have hg:Goes w { w with heap:=w.heap.setIfInBounds b (.map ms.toArray ms.length) } (XO Y h β) (XO Y (upd h o (.mapo es)) β) β β:=by
  refine ⟨by simp,fun k hx hk=>⟨hheap k (fun e=>hx (.inr (e▸hown))),fun hx'=> ?_⟩,fun k _=>hshape k,fun o b hb=>⟨hb,hO.lt o b hb⟩⟩;rcases hx' with hy | ⟨o',hl',ho'⟩
  · exact hx (.inl hy)
  · exact hx (.inr ⟨o',hlive o' hl',ho'⟩)
 refine ⟨⟨by simp,fun k hk hno=>hheap k (fun e=>hno (e▸hown)),fun k _=>hshape k,rfl,rfl,rfl⟩, ?_,fun _ _ h=>h,fun _ _ h=> .inl h,fun o' hl'=> .inl (hlive o' hl')⟩;refine ⟨fun o' b' hl' hb'=> ?_,fun o' hl'=> ?_,fun o1 o2 b' hl1 hl2 hb1 hb2=>hO.inj o1 o2 b' (hlive o1 hl1) (hlive o2 hl2) hb1 hb2,fun o' b' hb'=>by rw [hsize];exact hO.lt o' b' hb'⟩
 · by_cases he:o'=o
   · subst he;have:b'=b:=by rw [hb] at hb';simpa using hb'.symm
     subst this;rw [show upd h o' (.mapo es) o'= .mapo es by simp [upd]];refine ⟨ms,ms.length,hset.1,hlen,fun i e m he hm=> ?_,rfl,hborn⟩;obtain ⟨k1,k2⟩:=hrep i e m he hm;exact ⟨k1.imp fun _ _ _ h=>h.goes hg,k2.imp fun _ _ _ h=>h.goes hg⟩
   · rw [show upd h o (.mapo es) o'=h o' by simp [upd,he]];have hlo:=hlive o' hl';have hne:b'≠b:=fun e=>he (hO.inj o' o b' hlo hl hb' (e▸hb));exact (hO.rep o' b' hlo hb').goes hg (hheap b' hne)
 · have hlo:=hlive o' hl';rcases hO.has o' hlo with ⟨b',h1,h2,h3⟩ | ⟨h1,h2⟩
   · exact .inl ⟨b',h1,by rw [hsize];exact h2,h3⟩
   · by_cases he:o'=o
     · subst he;rw [hb] at h2;cases h2
     · exact .inr (by simp only [upd,he,if_false];exact ⟨h1,h2⟩)
theorem z7h:∀ {cs:List WV} {fs:List FV},unfz cs=some fs→cs=fzs fs
 | [],fs,h=>by simp only [unfz,Option.some.injEq] at h;subst h;rfl
 | .a (.fz x)::r,fs,h=>by
  simp only [unfz] at h;obtain ⟨l,hl,rfl⟩:=Option.map_eq_some_iff.1 h;rw [z7h hl];rfl
 | .a (.ep _ _ _ _)::r,fs,h=>by simp [unfz] at h
 | .a (.osl _ _ _ _)::r,fs,h=>by simp [unfz] at h
 | .a (.mp _)::r,fs,h=>by simp [unfz] at h
 | .a .any::r,fs,h=>by simp [unfz] at h
 | .fn _ _ _::r,fs,h=>by simp [unfz] at h
theorem zj6 {ag:Bool}{x:TV}{k:List FV}{X:Nat→Prop}{u:Value}(hk:keyT ag x=some k)(hx:TRep w X β x u):PRep (FRep w X) (ag,k) u:=by
 unfold keyT at hk;split at hk
 · rename_i f;cases ag<;>simp only [Bool.false_eq_true,if_true,if_false,Option.some.injEq,reduceCtorEq] at hk
   subst hk;have hx:WRep w X β (.a (.fz f)) u:=hx;cases hx with
   | a _ _ hx=>cases hx with
    | fz _ _ hx=>exact ⟨[u],rfl,⟨rfl,fun j c v hc hv=>by
      cases j with
      | zero=>simp at hc hv;subst hc;subst hv;exact hx
      | succ j=>simp at hc⟩,fun _=>rfl⟩
 · rename_i cs;cases ag<;>simp only [Bool.false_eq_true,if_true,if_false,reduceCtorEq] at hk
   rw [z7h hk] at hx;obtain ⟨us,rfl,hx⟩:=hx;refine ⟨us,rfl,hx.unmap fun c u _ h=> ?_,fun h=>by cases h⟩;cases h with
   | a _ _ h=>cases h with
    | fz _ _ h=>exact h
 · cases hk
theorem zwa {p:Bool×List WV}{x:TV}{X:Nat→Prop}{u:Value}(hp:rowTV p=some x)(hr:PRep (WRep w X β) p u):TRep w X β x u:=by
 obtain ⟨ag,cs⟩:=p;obtain ⟨us,rfl,hl,h1⟩:=hr;cases ag with
 | true=>
  simp only [rowTV,Option.some.injEq] at hp;subst hp;exact ⟨us,rfl,hl⟩
 | false=>
  have h1:=h1 rfl
  match cs,h1 with
  | [c],_=>
   simp only [rowTV,Option.some.injEq] at hp;subst hp;have hl':=hl.1
   match us,hl' with
   | [v],_=>exact hl.2 0 c v rfl rfl
theorem zmc {x:TV}{p:Bool×List WV}{X:Nat→Prop}{u:Value}(hp:zm4 x=some p)(hx:TRep w X β x u):PRep (WRep w X β) p u:=by
 unfold zm4 at hp;split at hp
 · rename_i c;injection hp with hp;subst hp
   exact ⟨[u],rfl,⟨rfl,fun j c' v hc hv=>by
    cases j with
    | zero=>simp at hc hv;subst hc;subst hv;exact hx
    | succ j=>simp at hc⟩,fun _=>rfl⟩
 · injection hp with hp;subst hp
   obtain ⟨us,rfl,hl⟩:=hx;exact ⟨us,rfl,hl,fun h=>by cases h⟩
 · cases hp
theorem zqg:∀ {ks:List EK} {a b:List FV} {us vs:List Value} {X:Nat→Prop},z0q ks (fzs a) (fzs b)=some true→LRep (FRep w X) a us→LRep (FRep w X) b vs→us=vs∧∀ v∈us,∀ n,Instr.sameBits n v v=true
 | [],a,b,us,vs,X,h,ha,hb=>by
  match a,b,h with
  | [],[],_=>
   have e1:us=[]:=List.eq_nil_of_length_eq_zero ha.1.symm;have e2:vs=[]:=List.eq_nil_of_length_eq_zero hb.1.symm;subst e1;subst e2;exact ⟨rfl,fun v hv=>by cases hv⟩
  | [],_::_,h=>simp only [fzs,List.map_nil,List.map_cons,z0q,reduceCtorEq] at h
  | _::_,[],h=>simp only [fzs,List.map_nil,List.map_cons,z0q,reduceCtorEq] at h
  | _::_,_::_,h=>simp only [fzs,List.map_cons,z0q,reduceCtorEq] at h
 | k::ks,a,b,us,vs,X,h,ha,hb=>by
  obtain ⟨x,y,xs',ys',p,q,e1,e2,hsc,hr,hcase⟩:=z6n h;have hp:p=true∧q=true:=by have:=hr.symm;simpa using this
  match a,b,e1,e2 with
  | [],_,e1,_=>simp [fzs] at e1
  | _::_,[],_,e2=>simp [fzs] at e2
  | f::a,g::b,d1,d2=>
  simp only [fzs,List.map_cons,List.cons.injEq] at d1 d2;obtain ⟨d1,d3⟩:=d1;obtain ⟨d2,d4⟩:=d2;rw [←d3,←d4] at hsc;obtain ⟨u,us',rfl,hu,hus⟩:=ha.cons_inv;obtain ⟨v,vs',rfl,hv,hvs⟩:=hb.cons_inv;rw [hp.2] at hsc;obtain ⟨i1,i2⟩:=zqg (ks:=ks) hsc hus hvs
  have key:u=v∧∀ n,Instr.sameBits n u u=true:=by
   rcases hcase with ⟨_,kk,n,m,h1,h2,h3⟩ | ⟨_,n,m,h1,h2,h3⟩ | ⟨_,n,m,h1,h2,h3⟩
   all_goals
    rw [h1] at d1;rw [h2] at d2;have d1:=AV.fz.inj (WV.a.inj (show WV.a (.fz f)=_ from d1));have d2:=AV.fz.inj (WV.a.inj (show WV.a (.fz g)=_ from d2));rw [d1] at hu;rw [d2] at hv;rw [hp.1] at h3;have h3:n=m:=by simpa using h3.symm
    subst h3;cases hu;cases hv;exact ⟨rfl,fun n=>by cases n<;>simp [Instr.sameBits,MapKept.bytes_beq]⟩
  exact ⟨by rw [key.1,i1],fun z hz=>by
   rcases List.mem_cons.1 hz with rfl | hz
   · exact key.2
   · exact i2 z hz⟩
theorem zk9 {m:Bool×List EK}{a b:List FV}{u v:Value}{X:Nat→Prop}(h:z0q m.2 (fzs a) (fzs b)=some true)(ha:PRep (FRep w X) (m.1,a) u)(hb:PRep (FRep w X) (m.1,b) v):u=v∧(Instr.keyThatStays v u).run P w= .ok u w:=by
 obtain ⟨us,rfl,h1,h2⟩:=ha;obtain ⟨vs,rfl,h3,h4⟩:=hb;obtain ⟨rfl,hs⟩:=zqg h h1 h3;refine ⟨rfl, ?_⟩;obtain ⟨ag,ks⟩:=m
 have hb:Instr.sameBits 10000 (shut ag us) (shut ag us)=true:=by
  cases ag with
  | true=>
   show (us.toArray.size==us.toArray.size&&(us.toArray.toList.zip us.toArray.toList).all fun (x,y)=>Instr.sameBits 9999 x y)=true;simp only [beq_self_eq_true,Bool.true_and,List.all_eq_true];intro p hp
   have:p.1=p.2∧p.1∈us:=by
    obtain ⟨i,hi⟩:=List.getElem?_of_mem hp;rw [List.getElem?_zip_eq_some] at hi;exact ⟨by have:=hi.1.symm.trans hi.2;injection this,List.mem_of_getElem? hi.1⟩
   rw [←this.1];exact hs _ this.2 _
  | false=>
   have h2:a.length=1:=h2 rfl;have:us.length=1:=by rw [←h1.1];exact h2
   match us,this with
   | [u],_=>exact hs u (List.mem_singleton.2 rfl) _
 simp only [Instr.keyThatStays,hb,if_true,Sem.run_pure]
theorem zl3 {kt:TypeId}{k:EK}{f:FV}{u:Value}{X:Nat→Prop}(hk:ekOf P kt=some k)(hu:FRep w X f u)(hf:z9q [k] [f]=true)(em:Bool)(n:Nat):(Instr.checkKey em (n+1) kt u).run P w= .ok () w:=by
 unfold ekOf at hk;split at hk<;>simp only [Option.some.injEq,reduceCtorEq] at hk<;>subst hk<;>rename_i hd<;>cases f<;>simp only [z9q,Bool.false_eq_true] at hf<;>cases hu<;>simp [Instr.checkKey,run_underlying hd]
theorem zdm {kt:TypeId}{m:Bool×List EK}{k:List FV}{u:Value}{X:Nat→Prop}(hm:z88 P kt=some m)(ho:z9q m.2 k=true)(hu:PRep (FRep w X) (m.1,k) u)(em:Bool):(Instr.checkKey em 10000 kt u).run P w= .ok () w:=by
 have plain:∀ {e:EK} {v:Value} {f:FV},ekOf P kt=some e→z9q [e] [f]=true→FRep w X f v→(Instr.checkKey em 10000 kt v).run P w= .ok () w:=fun he hf hv=>zl3 he hv hf em 9999
 have plain':(ekOf P kt).map (fun k=>(false,[k]))=some m→(Instr.checkKey em 10000 kt u).run P w= .ok () w:=by
  intro hm;obtain ⟨e,he,rfl⟩:=Option.map_eq_some_iff.1 hm;obtain ⟨us,rfl,h1,h2⟩:=hu;have h2:k.length=1:=h2 rfl
  match k,h2 with
  | [f],_=>
  have hl:=h1.1
  match us,hl with
  | [v],_=>exact plain he ho (h1.2 0 f v rfl rfl)
 unfold z88 at hm;split at hm
 · rename_i fs hfs;obtain ⟨ks,hks,rfl⟩:=Option.map_eq_some_iff.1 hm;obtain ⟨us,rfl,h1,_⟩:=hu;unfold z94 at hks;rw [hfs] at hks;simp only at hks;split at hks
   · show (Instr.checkKey em 10000 kt (.agg us.toArray)).run P w= .ok () w;rw [show (10000:Nat)=9999+1 from rfl,Instr.checkKey];simp only [Sem.run_bind,run_underlying hfs,Result.andThen_ok];rw [←Array.forIn_toList]
     have key:∀ (L:List Field) (i:Nat) (ks:List EK) (l:List FV) (vs:List Value),zo P i L=some ks→z9q ks l=true→LRep (FRep w X) l vs→(∀ j,vs[j]? =us.toArray[i+j]?)→
       (forIn L PUnit.unit fun (f:Field) _=>do
        if f.name ≠ "_" then Instr.checkKey em 9999 f.type (←part f.type us.toArray f.offset)
        pure (ForInStep.yield PUnit.unit)).run P w= .ok PUnit.unit w:=by
      intro L
      induction L with
      | nil=>intro i ks l vs _ _ _ _;simp
      | cons f L ih=>
       intro i ks l vs hk ho hl hus;simp only [zo] at hk;split at hk
       · rename_i k ks' hf hks;split at hk<;>simp only [Option.some.injEq,reduceCtorEq] at hk
         rename_i hc;subst hk
         match l,ho with
         | [],ho=>cases k<;>simp [z9q] at ho
         | g::l,ho=>
         obtain ⟨v,vs',rfl,hv,hvs⟩:=hl.cons_inv;have hg:z9q [k] [g]=true∧z9q ks' l=true:=by cases k<;>cases g<;>simp_all [z9q]
         have p1:=z7j (w:=w) hf us.toArray f.offset v (by have:=hus 0;simp at this;rw [hc.1];simpa using this.symm);have p2:=zl3 (w:=w) hf hv hg.1 em 9998;have ih:=ih (i+1) ks' l vs' hks hg.2 hvs (fun j=>by have:=hus (j+1);simpa [Nat.add_assoc,Nat.add_comm 1 j] using this);simp only [List.forIn_cons,Sem.run_bind,hc.2,ne_eq,not_false_eq_true,if_true,p1,p2,Result.andThen_ok,Sem.run_pure];exact ih
       · cases hk
     have:=key fs.toList 0 ks k us hks ho h1 (fun j=>by simp);simp at this ⊢;rw [this];rfl
   · cases hks
 · exact plain' hm
theorem zit {kt:TypeId} {m:Bool×List EK} {k:List FV} {u:Value} {X:Nat→Prop} {es:List MapE} {ms:List MapEntry} {res:Option Nat} (hm:z88 P kt=some m) (hu:PRep (FRep w X) (m.1,k) u) (hlen:es.length=ms.length)
  (hrep:∀ (j:Nat) (e:MapE) (x:MapEntry),es[j]? =some e→ms[j]? =some x→PRep (FRep w X) e.1 x.key) (hf:z6c m k es 0=some res):(Instr.findKey kt u ms).run P w= .ok (zc7 ms res) w∧∀ j,res=some j→j<es.length:=by
 have plain':(ekOf P kt).map (fun k=>(false,[k]))=some m→(Instr.findKey kt u ms).run P w= .ok (zc7 ms res) w∧∀ j,res=some j→j<es.length:=by
  intro hm;obtain ⟨e,he,rfl⟩:=Option.map_eq_some_iff.1 hm;obtain ⟨d,hd,_⟩:=zqs he;obtain ⟨h1,h2⟩:=ze8 he hd hu es ms ms 0 res rfl hlen hrep hf;exact ⟨MapKept.run_findKey hd h1,fun j hj=>by have:=h2 j hj;omega⟩
 unfold z88 at hm;split at hm
 · rename_i fs hfs;obtain ⟨ks,hks,rfl⟩:=Option.map_eq_some_iff.1 hm;rw [run_findKey_eq w (by rw [hfs]) u ms];obtain ⟨h1,h2⟩:=z8l hfs hks hu es ms ms 0 res rfl hlen hrep hf;exact ⟨h1,fun j hj=>by have:=h2 j hj;omega⟩
 · exact plain' hm
theorem zar {m:Bool×List EK}{k:List FV}:∀ {es:List MapE} {i j:Nat},z6c m k es i=some (some j)→i≤j∧∃ e,es[j-i]? =some e∧e.1.1=m.1∧z0q m.2 (fzs k) (fzs e.1.2)=some true
 | [],i,j,h=>by simp [z6c] at h
 | e::es,i,j,h=>by
  simp only [z6c] at h;split at h
  · rename_i hag;obtain ⟨b,hb,h⟩:=Option.bind_eq_some_iff.1 h;cases b with
    | true=>
     simp only [if_true,Option.some.injEq] at h;subst h;exact ⟨Nat.le_refl _,e,by simp,hag,hb⟩
    | false=>
     simp only [Bool.false_eq_true,if_false] at h;obtain ⟨h1,e',h2,h3⟩:=zar h;exact ⟨by omega,e',by rw [show j-i=(j-(i+1))+1 by omega];simpa using h2,h3⟩
  · cases h
theorem zb5 {t:TypeId}{m:(Bool×List EK)×(Bool×List WV)}(h:zhy P t=some m):∃ k e,P.underlying t=some (.map k e)∧z88 P k=some m.1∧zho P e=some m.2:=by
 unfold zhy at h;split at h
 · rename_i d hd;split at h
   · rename_i k e hk;split at h
     · rename_i ks z hks hz;injection h with h;subst h
       obtain ⟨i,u,_,hu,_,_,_,_,hkd⟩:=z4g hd;refine ⟨k,e, ?_,hks,hz⟩;rw [hk] at hkd;cases u<;>simp only [z36,reduceCtorEq,TKind.map.injEq] at hkd
       all_goals first | (rw [hkd.1,hkd.2];exact hu) | (split at hkd<;>cases hkd)
     · cases h
   · cases h
 · cases h
theorem zdf {e:TypeId}{z:Bool×List WV}(hz:zho P e=some z)(X:Nat→Prop):∃ v,(zeroValue e).run P w= .ok v w∧PRep (WRep w X β) z v:=by
 unfold zho at hz;split at hz
 · rename_i i hi;split at hz
   · rename_i cs hiz;split at hz<;>simp only [Option.some.injEq,reduceCtorEq] at hz
     rename_i hall;subst hz;refine ⟨.agg cs,by simp [zeroValue,typeInfo,hi,hiz],cs.toList,by simp [shut], ?_,fun h=>by cases h⟩;refine z76 X cs.toList fun u hu=> ?_;simp only [Array.all_eq_true_iff_forall_mem] at hall;exact hall u (by simpa using hu)
   · rename_i v hna hiz;split at hz<;>simp only [Option.some.injEq,reduceCtorEq] at hz
     rename_i hone;subst hz;refine ⟨v,by simp [zeroValue,typeInfo,hi,hiz],[v],rfl, ?_,fun _=>rfl⟩;exact z76 X [v] fun u hu=>by rw [List.mem_singleton.1 hu];exact hone
   · cases hz
 · cases hz
theorem ze0 {m:(Bool×List EK)×(Bool×List WV)}{x:TV}{k:List FV}(h:keyA m x=some k):keyT m.1.1 x=some k∧z9q m.1.2 k=true:=by
 unfold keyA at h;split at h
 · split at h<;>simp only [Option.some.injEq,reduceCtorEq] at h
   subst h;rename_i k hk ho;exact ⟨hk,ho⟩
 · cases h
theorem z89 (hO:Objs h β Y w){x:TV}{u:Value}{o:Nat}{es:List MapE}(hm:z8d h x=some (o,es))(hx:TRep w (XO Y h β) β x u):∃ (b:Nat) (ms:List MapEntry),u= .map (some b)∧β o=some b∧isLive (h o)∧w.heap[b]? =some (.map (List.toArray ms) ms.length)∧ms.length=es.length∧
  (∀ (i:Nat) (e:MapE) (m:MapEntry),es[i]? =some e→ms[i]? =some m→PRep (FRep w (XO Y h β)) e.1 m.key∧PRep (WRep w (XO Y h β) β) e.2 m.val)∧(∀ (i:Nat) (m:MapEntry),ms[i]? =some m→m.born=i):=by
 unfold z8d at hm;split at hm
 · rename_i o';split at hm<;>simp only [Option.some.injEq,reduceCtorEq,Prod.mk.injEq] at hm
   rename_i es' ho;obtain ⟨rfl,rfl⟩:=hm;have hx:WRep w (XO Y h β) β (.a (.mp o')) u:=hx;cases hx with
   | a _ _ hx=>cases hx with
    | mp _ b hb=>
     have hl:isLive (h o'):=by rw [ho];trivial
     have hr:=hO.rep o' b hl hb;unfold ORep at hr;rw [ho] at hr;obtain ⟨ms,ck,h1,h2,h3,h4,h5⟩:=hr;exact ⟨b,ms,rfl,hb,hl,by rw [←h4];exact h1,h2,h3,h5⟩
 · cases hm
theorem zm5 {ok:Bool}{p:Bool×List WV}{b:Bool}{x:TV}{X:Nat→Prop}{v:Value}(h:zj9 ok p b=some x)(hv:PRep (WRep w X β) p v):TRep w X β x (if ok then .tuple #[v, .bool b] else v):=by
 unfold zj9 at h;cases ok with
 | true=>
  simp only [if_true,Option.some.injEq] at h;subst h;refine ⟨[v, .bool b],rfl,rfl,fun j c u hc hu=> ?_⟩
  match j,hc,hu with
  | 0,hc,hu=>simp at hc hu;subst hc;subst hu;exact hv
  | 1,hc,hu=>simp at hc hu;subst hc;subst hu;exact ⟨[.bool b],rfl,⟨rfl,fun j c u hc hu=>by
    cases j with
    | zero=>simp at hc hu;subst hc;subst hu;exact zhh (.bool b)
    | succ j=>simp at hc⟩,fun _=>rfl⟩
  | j+2,hc,_=>simp at hc
 | false=>
  simp only [Bool.false_eq_true,if_false] at h ⊢;exact zwa h hv
theorem zmi (hO:Objs h β Y w){fr:Nat}{t:TypeId}{m:(Bool×List EK)×(Bool×List WV)}{x key:TV}{u v:Value}{ok:Bool}{r:AR}(hm:zhy P t=some m)(hx:TRep w (XO Y h β) β x u)(hk:TRep w (XO Y h β) β key v)(hl:z55 m h x key ok=some r):
  Does P h β Y w fr r (do pure (.value (←Instr.lookup t u v ok))):=by
 unfold z55 at hl;split at hl
 · rename_i k hk0;obtain ⟨hk1,hk2⟩:=ze0 hk0;have hkr:=zj6 hk1 hk;split at hl
   · rename_i oe hoe;obtain ⟨o,es⟩:=oe;obtain ⟨b,ms,rfl,hb,hlv,hh,hlen,hrep,_⟩:=z89 hO hoe hx;obtain ⟨kt,e,hu,hks,hz⟩:=zb5 hm;split at hl
     · rename_i q hq;obtain ⟨x',hx',rfl⟩:=Option.map_eq_some_iff.1 hl;obtain ⟨hf,hj⟩:=zit (w:=w) hks hkr hlen.symm (fun j e x h1 h2=>(hrep j e x h1 h2).1) hq;have hck:=zdm (w:=w) hks hk2 hkr ms.isEmpty;obtain ⟨zv,hzv,hzr⟩:=zdf (w:=w) (β:=β) hz (XO Y h β);refine z3g hO ?_;cases q with
       | none=>
        refine ⟨if ok then .tuple #[zv, .bool false] else zv, ?_,zm5 hx' hzr⟩
        simp only [zc7,Option.bind_none] at hf;simp [Instr.lookup,run_underlying hu,MapKept.run_getObj_map hh,hck,hf,hzv]
       | some i=>
        simp only [zue] at hx';split at hx'
        · rename_i en hen;have hi:i<ms.length:=by have:=(List.getElem?_eq_some_iff.1 hen).1;omega
          have hmi:=List.getElem?_eq_getElem hi;refine ⟨if ok then .tuple #[ms[i].val, .bool true] else ms[i].val, ?_,zm5 hx' (hrep i en ms[i] hen hmi).2⟩
          simp only [zc7,Option.bind_some,hmi,Option.map_some] at hf;simp [Instr.lookup,run_underlying hu,MapKept.run_getObj_map hh,hck,hf]
        · cases hx'
     · cases hl
   · cases hl
 · cases hl
theorem zx9 {X:Nat→Prop} {es:List MapE} {ms:List MapEntry} (hlen:ms.length=es.length) (hrep:∀ (i:Nat) (e:MapE) (m:MapEntry),es[i]? =some e→ms[i]? =some m→PRep (FRep w X) e.1 m.key∧PRep (WRep w X β) e.2 m.val) (hborn:∀ (i:Nat) (m:MapEntry),ms[i]? =some m→m.born=i)
  {k:Bool×List FV} {r:Bool×List WV} {key val:Value} (hk:PRep (FRep w X) k key) (hr:PRep (WRep w X β) r val):
  (ms++ [(⟨key,val,ms.length⟩:MapEntry)]).length=(es++ [(k,r)]).length∧(∀ (i:Nat) (e:MapE) (m:MapEntry),(es++ [(k,r)])[i]? =some e→(ms++ [(⟨key,val,ms.length⟩:MapEntry)])[i]? =some m→PRep (FRep w X) e.1 m.key∧PRep (WRep w X β) e.2 m.val)∧(∀ (i:Nat) (m:MapEntry),(ms++ [(⟨key,val,ms.length⟩:MapEntry)])[i]? =some m→m.born=i):=by
 refine ⟨by simp [hlen],fun i e m he hm=> ?_,fun i m hm=> ?_⟩
 · rw [List.getElem?_append] at he hm;split at he
   · rename_i q;rw [if_pos (by omega)] at hm;exact hrep i e m he hm
   · rename_i q;rw [if_neg (by omega)] at hm
     have:i-es.length=0:=by
      have:=(List.getElem?_eq_some_iff.1 he).1;simpa using this
     rw [hlen,this] at hm;rw [this] at he;simp at he hm;subst he;subst hm;exact ⟨hk,hr⟩
 · rw [List.getElem?_append] at hm;split at hm
   · exact hborn i m hm
   · have h1:=(List.getElem?_eq_some_iff.1 hm).1;have:i=ms.length:=by simp at h1;omega
     subst this;simp at hm;subst hm;rfl
theorem zmy {X:Nat→Prop} {es:List MapE} {ms:List MapEntry} (hlen:ms.length=es.length) (hrep:∀ (i:Nat) (e:MapE) (m:MapEntry),es[i]? =some e→ms[i]? =some m→PRep (FRep w X) e.1 m.key∧PRep (WRep w X β) e.2 m.val) (hborn:∀ (i:Nat) (m:MapEntry),ms[i]? =some m→m.born=i)
  {j:Nat} {f:MapEntry→MapEntry} {k:Bool×List FV} {r:Bool×List WV} (hf:∀ x,ms[j]? =some x→PRep (FRep w X) k (f x).key∧PRep (WRep w X β) r (f x).val∧(f x).born=x.born):
  (ms.modify j f).length=(es.set j (k,r)).length∧(∀ (i:Nat) (e:MapE) (m:MapEntry),(es.set j (k,r))[i]? =some e→(ms.modify j f)[i]? =some m→PRep (FRep w X) e.1 m.key∧PRep (WRep w X β) e.2 m.val)∧(∀ (i:Nat) (m:MapEntry),(ms.modify j f)[i]? =some m→m.born=i):=by
 refine ⟨by simp [hlen],fun i e m he hm=> ?_,fun i m hm=> ?_⟩
 · rw [List.getElem?_modify] at hm;obtain ⟨x,hx,rfl⟩:=Option.map_eq_some_iff.1 hm;rw [List.getElem?_set] at he;by_cases q:j=i
   · subst q;rw [if_pos rfl] at he;split at he
     · injection he with he;subst he
       rw [if_pos rfl];exact ⟨(hf x hx).1,(hf x hx).2.1⟩
     · cases he
   · rw [if_neg q] at he;rw [if_neg q];exact hrep i e x he hx
 · rw [List.getElem?_modify] at hm;obtain ⟨x,hx,rfl⟩:=Option.map_eq_some_iff.1 hm;by_cases q:j=i
   · subst q;rw [if_pos rfl,(hf x hx).2.2];exact hborn j x hx
   · rw [if_neg q];exact hborn i x hx
theorem zhq (hO:Objs h β Y w){fr:Nat}{t:TypeId}{m:(Bool×List EK)×(Bool×List WV)}{x key:TV}{u v:Value}{r:AR}(hm:zhy P t=some m)(hx:TRep w (XO Y h β) β x u)(hk:TRep w (XO Y h β) β key v)(hl:z4k m h x key=some r):
  Does P h β Y w fr r (do pure (.value (←Instr.mapEntry t u v))):=by
 unfold z4k at hl;split at hl
 · rename_i k hk0;obtain ⟨hk1,hk2⟩:=ze0 hk0;have hkr:=zj6 hk1 hk;split at hl
   · rename_i oe hoe;obtain ⟨o,es⟩:=oe;obtain ⟨b,ms,rfl,hb,hlv,hh,hlen,hrep,hborn⟩:=z89 hO hoe hx;obtain ⟨kt,e,hu,hks,hz⟩:=zb5 hm;split at hl
     · rename_i q hq;obtain ⟨hf,hj⟩:=zit (w:=w) hks hkr hlen.symm (fun j e x h1 h2=>(hrep j e x h1 h2).1) hq;have hck:=zdm (w:=w) hks hk2 hkr false;obtain ⟨zv,hzv,hzr⟩:=zdf (w:=w) (β:=β) hz (XO Y h β);cases q with
       | none=>
        simp only [entE,Option.some.injEq] at hl;subst hl;obtain ⟨a1,a2,a3⟩:=zx9 hlen hrep hborn hkr hzr;have hmv:=z4f hO hlv hb hh _ _ a1 a2 a3;refine ⟨.value (.tuple #[zv,goInt ms.length]), .tuple #[zv,goInt ms.length],{ w with heap:=w.heap.setIfInBounds b (.map (ms++ [(⟨v,zv,ms.length⟩:MapEntry)]).toArray (ms++ [(⟨v,zv,ms.length⟩:MapEntry)]).length) },β, ?_, .inl rfl, ?_, ?_⟩
        · simp only [zc7,Option.bind_none] at hf;simp [Instr.mapEntry,run_underlying hu,MapKept.run_getObj_map hh,hck,hf,hzv,MapKept.run_setObj_map _ hh]
        · rw [z2h];exact hmv.weaken (fun _ h=>h.elim)
        · rw [z2h];have hg:=hmv.goes hO (fun _ h=>h.elim);have hzr':PRep (WRep _ (XO Y (upd h o (.mapo (es++ [((m.1.1,k),m.2)]))) β) β) m.2 zv:=hzr.imp fun _ _ _ h=>h.goes hg;refine ⟨[zv,goInt ms.length],rfl,rfl,fun j c u hc hu=> ?_⟩
          match j,hc,hu with
          | 0,hc,hu=>simp at hc hu;subst hc;subst hu;exact hzr'
          | 1,hc,hu=>
           simp at hc hu;subst hc;subst hu;refine ⟨[goInt ms.length],rfl,⟨rfl,fun j c u hc hu=> ?_⟩,fun _=>rfl⟩;cases j with
           | zero=>simp at hc hu;subst hc;subst hu;rw [hlen];exact zhh (.int .i64 _)
           | succ j=>simp at hc
          | j+2,hc,_=>simp at hc
       | some i=>
        simp only [entE] at hl;split at hl<;>simp only [Option.some.injEq,reduceCtorEq] at hl
        rename_i en hen;subst hl;have hi:i<ms.length:=by have:=(List.getElem?_eq_some_iff.1 hen).1;omega
        have hmi:=List.getElem?_eq_getElem hi;obtain ⟨hr1,hr2⟩:=hrep i en ms[i] hen hmi;obtain ⟨_,e',he',hag,hsm⟩:=zar hq;rw [Nat.sub_zero,hen] at he';injection he' with he';subst he'
        have hr1':PRep (FRep w (XO Y h β)) (m.1.1,en.1.2) ms[i].key:=by rw [←hag];exact hr1
        obtain ⟨hkey,hstay⟩:=zk9 (P:=P) hsm hkr hr1';obtain ⟨a1,a2,a3⟩:=zmy (f:=fun e=> { e with key:=v }) hlen hrep hborn (j:=i) (k:=(m.1.1,k)) (r:=en.2) (fun x hx=>by rw [hmi] at hx;injection hx with hx;subst hx;exact ⟨hkr,hr2,rfl⟩)
        have hmv:=z4f hO hlv hb hh _ _ a1 a2 a3;refine ⟨.value (.tuple #[ms[i].val,goInt i]), .tuple #[ms[i].val,goInt i],{ w with heap:=w.heap.setIfInBounds b (.map (ms.modify i fun e=> { e with key:=v }).toArray (ms.modify i fun e=> { e with key:=v }).length) },β, ?_, .inl rfl, ?_, ?_⟩
        · simp only [zc7,Option.bind_some,hmi,Option.map_some] at hf;have hbi:=hborn i ms[i] hmi;simp [Instr.mapEntry,run_underlying hu,MapKept.run_getObj_map hh,hck,hf,hmi,hstay,hbi,MapKept.run_setObj_map _ hh]
        · rw [z2h];exact hmv.weaken (fun _ h=>h.elim)
        · rw [z2h];have hg:=hmv.goes hO (fun _ h=>h.elim);have hr2':PRep (WRep _ (XO Y (upd h o (.mapo (es.set i ((m.1.1,k),en.2)))) β) β) en.2 ms[i].val:=hr2.imp fun _ _ _ h=>h.goes hg;refine ⟨[ms[i].val,goInt i],rfl,rfl,fun j c u hc hu=> ?_⟩
          match j,hc,hu with
          | 0,hc,hu=>simp at hc hu;subst hc;subst hu;exact hr2'
          | 1,hc,hu=>
           simp at hc hu;subst hc;subst hu;refine ⟨[goInt i],rfl,⟨rfl,fun j c u hc hu=> ?_⟩,fun _=>rfl⟩;cases j with
           | zero=>simp at hc hu;subst hc;subst hu;exact zhh (.int .i64 _)
           | succ j=>simp at hc
          | j+2,hc,_=>simp at hc
     · cases hl
   · cases hl
 · cases hl
theorem zfa (hO:Objs h β Y w){fr:Nat}{t:TypeId}{m:(Bool×List EK)×(Bool×List WV)}{x key y:TV}{u v z:Value}{r:AR}(hm:zhy P t=some m)(hx:TRep w (XO Y h β) β x u)(hk:TRep w (XO Y h β) β key v)(hy:TRep w (XO Y h β) β y z)(hl:z1p m h x key y=some r):
  Does P h β Y w fr r (do (Instr.mapUpdate t u v z);pure .skip):=by
 unfold z1p at hl;split at hl
 · rename_i k rw_ hk0 hrw;obtain ⟨hk1,hk2⟩:=ze0 hk0;have hkr:=zj6 hk1 hk;have hzr:=zmc hrw hy;split at hl
   · rename_i oe hoe;obtain ⟨o,es⟩:=oe;obtain ⟨b,ms,rfl,hb,hlv,hh,hlen,hrep,hborn⟩:=z89 hO hoe hx;obtain ⟨kt,e,hu,hks,hz⟩:=zb5 hm;split at hl
     · rename_i q hq;injection hl with hl;subst hl
       obtain ⟨hf,hj⟩:=zit (w:=w) hks hkr hlen.symm (fun j e x h1 h2=>(hrep j e x h1 h2).1) hq;have hck:=zdm (w:=w) hks hk2 hkr false;cases q with
       | none=>
        obtain ⟨a1,a2,a3⟩:=zx9 hlen hrep hborn hkr hzr;have hmv:=z4f hO hlv hb hh _ _ a1 a2 a3;refine ⟨.skip,undef,{ w with heap:=w.heap.setIfInBounds b (.map (ms++ [(⟨v,z,ms.length⟩:MapEntry)]).toArray (ms++ [(⟨v,z,ms.length⟩:MapEntry)]).length) },β, ?_, .inr ⟨rfl,rfl⟩, ?_,trivial⟩
        · simp only [zc7,Option.bind_none] at hf;simp [Instr.mapUpdate,run_underlying hu,MapKept.run_getObj_map hh,hck,hf,MapKept.run_setObj_map _ hh]
        · rw [z2h];exact hmv.weaken (fun _ h=>h.elim)
       | some i=>
        have hi':=hj i rfl;have hi:i<ms.length:=by omega
        have hmi:=List.getElem?_eq_getElem hi;obtain ⟨_,en,hen,hag,hsm⟩:=zar hq;rw [Nat.sub_zero] at hen;obtain ⟨hr1,hr2⟩:=hrep i en ms[i] hen hmi;have hr1':PRep (FRep w (XO Y h β)) (m.1.1,en.1.2) ms[i].key:=by rw [←hag];exact hr1
        obtain ⟨hkey,hstay⟩:=zk9 (P:=P) hsm hkr hr1';obtain ⟨a1,a2,a3⟩:=zmy (f:=fun e=> { e with key:=v,val:=z }) hlen hrep hborn (j:=i) (k:=(m.1.1,k)) (r:=rw_) (fun x hx=>⟨hkr,hzr,rfl⟩)
        have hmv:=z4f hO hlv hb hh _ _ a1 a2 a3;refine ⟨.skip,undef,{ w with heap:=w.heap.setIfInBounds b (.map (ms.modify i fun e=> { e with key:=v,val:=z }).toArray (ms.modify i fun e=> { e with key:=v,val:=z }).length) },β, ?_, .inr ⟨rfl,rfl⟩, ?_,trivial⟩
        · simp only [zc7,Option.bind_some,hmi,Option.map_some] at hf;simp [Instr.mapUpdate,run_underlying hu,MapKept.run_getObj_map hh,hck,hf,hmi,hstay,MapKept.run_setObj_map _ hh]
        · rw [z2h];exact hmv.weaken (fun _ h=>h.elim)
     · cases hl
   · cases hl
 · cases hl
theorem zd5 (hO:Objs h β Y w){fr:Nat}{t:TypeId}{x st y:TV}{u v z:Value}{r:AR}(hx:TRep w (XO Y h β) β x u)(hs:TRep w (XO Y h β) β st v)(hy:TRep w (XO Y h β) β y z)(hl:z41 h x st y=some r):
  Does P h β Y w fr r (do (Instr.entryStore t u v z);pure .skip):=by
 unfold z41 at hl;split at hl
 · rename_i oe kk n rw_ hoe hrw;obtain ⟨o,es⟩:=oe;obtain ⟨b,ms,rfl,hb,hlv,hh,hlen,hrep,hborn⟩:=z89 hO hoe hx;have hzr:=zmc hrw hy;rw [TRep.int_inv hs];split at hl
   · rename_i en hen;split at hl<;>simp only [Option.some.injEq,reduceCtorEq] at hl
     rename_i hn;subst hl;have hi:n.toNat<ms.length:=by have:=(List.getElem?_eq_some_iff.1 hen).1;simp only at this;omega
     have hmi:=List.getElem?_eq_getElem hi;obtain ⟨hr1,hr2⟩:=hrep n.toNat en ms[n.toNat] hen hmi;obtain ⟨a1,a2,a3⟩:=zmy (f:=fun e=> { e with val:=z }) hlen hrep hborn (j:=n.toNat) (k:=en.1) (r:=rw_) (fun x hx=>by rw [hmi] at hx;injection hx with hx;subst hx;exact ⟨hr1,hzr,rfl⟩)
     have hmv:=z4f hO hlv hb hh _ _ a1 a2 a3;refine ⟨.skip,undef,{ w with heap:=w.heap.setIfInBounds b (.map (ms.modify n.toNat fun e=> { e with val:=z }).toArray (ms.modify n.toNat fun e=> { e with val:=z }).length) },β, ?_, .inr ⟨rfl,rfl⟩, ?_,trivial⟩
     · have hfi:ms.toArray.findIdx? (fun e=>(e.born:Int)==n)=some n.toNat:=by
        rw [List.findIdx?_toArray,List.findIdx?_eq_some_iff_getElem];refine ⟨hi, ?_,fun j hj=> ?_⟩
        · have:=hborn _ _ hmi;simp only [this,beq_iff_eq];omega
        · have hj':j<ms.length:=by omega
          have:=hborn _ _ (List.getElem?_eq_getElem hj');simp only [this,beq_iff_eq];omega
       simp [Instr.entryStore,MapKept.run_getObj_map hh,asInt,asIntOf,hfi,MapKept.run_setObj_map _ hh]
     · rw [z2h];exact hmv.weaken (fun _ h=>h.elim)
   · cases hl
 · cases hl
theorem zjq (hO:Objs h β Y w)(hY:∀ b,Y b→b<w.heap.size){fr:Nat}(hfr:β fr=none)(t:TypeId):Does P h β Y w fr ⟨.c (.a (.mp fr)),[(fr, .mapo [])],[]⟩ (do pure (.value (←Instr.makeMap t none))):=by
 have hm:=zli hO hY hfr;refine ⟨.value (.map (some w.heap.size)), .map (some w.heap.size),{ w with heap:=w.heap.push (.map #[] 0) },upd β fr (some w.heap.size), ?_, .inl rfl, ?_, ?_⟩
 · simp [Instr.makeMap,World.alloc_eq]
 · rw [z2h];exact hm
 · exact .a _ _ (.mp _ _ (by simp [upd]))
theorem zfj (hO:Objs h β Y w) (hY:∀ b,Y b→b<w.heap.size) {fr:Nat} (hfr:β fr=none) {t e:TypeId} {d de:TyD} {x y:TV} {u v:Value} {q:Nat×List FV} (hd:tyOf P t=some d) (hk:d.kind= .slice e) (hde:tyOf P e=some de)
  (hx:TRep w (XO Y h β) β x u) (hy:TRep w (XO Y h β) β y v) (hq:z51 de fr x y=some q):
  Does P h β Y w fr ⟨.c (.a (.osl fr de.size 0 q.1)),[(fr, .arr de.size (List.replicate q.1 (fzs q.2)))],[]⟩ (do pure (.value (←Instr.makeSlice t u v))):=by
 have ht:=z2e hd hk;unfold z51 at hq;split at hq
 · rename_i k1 n k2 m z hz;split at hq<;>simp only [Option.some.injEq,reduceCtorEq] at hq
   rename_i hc;obtain ⟨hnm,hn0,hzl,hs0,hb0,hroom⟩:=hc;subst hnm;subst hq;rw [TRep.int_inv hx,TRep.int_inv hy];obtain ⟨zv,_,hz3,hz4,i,hi,hiz⟩:=z4h (w:=w) hde hz;obtain ⟨i',_,hi',_,_,hsz,hby,_,_⟩:=z4g hde;rw [hi] at hi';injection hi' with hi';subst hi'
   have hroom:n.toNat*i.bytes≤140737488355328:=by rw [←hby];exact hroom
   have hle:n.toNat≤n.toNat*i.bytes:=Nat.le_mul_of_pos_right _ (by rw [←hby];exact hb0)
   have hbb:(i.bytes:Int)*n≤281474976710656:=by
    have e:((n.toNat*i.bytes:Nat):Int)=n*(i.bytes:Int):=by rw [Int.natCast_mul];congr 1;omega
    rw [Int.mul_comm,←e];omega
   have hr:=run_make (P:=P) w t e i zv ht hi hiz k1 k2 n n hn0 (Int.le_refl _) hbb (by omega);have hzs:zv.cells.size=i.size:=by rw [←hsz,←hzl,hz3];simp
   have hget:∀ k,k<n.toNat*i.size→(madeCells zv.cells (n.toNat*i.size)).toList[k]? =zv.cells.toList[k % i.size]? :=by
    intro k hk;have hlt:k % i.size<zv.cells.size:=by rw [hzs];exact Nat.mod_lt _ (by rw [←hsz];exact hs0)
    simp [madeCells,hk,hzs,Array.getElem?_eq_getElem (show k % i.size<zv.cells.size from hlt)];exact getElem!_pos zv.cells (k % i.size) hlt
   refine z6r hO hY hfr de.size (List.replicate n.toNat (fzs z)) (madeCells zv.cells (n.toNat*i.size)).toList e 0 (.slice (some ⟨w.heap.size,0,none⟩) n.toNat n.toNat) _ (hr.trans ?_) ?_ (fun e he=> ?_) (fun a j e c he hc=> ?_) ?_
   · simp [World.alloc_eq]
   · rw [List.length_replicate,Array.length_toList,size_madeCells,hsz];exact Nat.le_refl _
   · rw [(List.mem_replicate.1 he).2];simp [fzs,hzl]
   · have ha:a<n.toNat:=by have:=(List.getElem?_eq_some_iff.1 he).1;simpa using this
     rw [List.getElem?_replicate,if_pos ha] at he;injection he with he;subst he
     have hj:j<z.length:=by have:=(List.getElem?_eq_some_iff.1 hc).1;simpa [fzs] using this
     rw [hzl] at hj
     have hlt:a*de.size+j<n.toNat*i.size:=by
      rw [←hsz]
      calc a*de.size+j<a*de.size+de.size:=by omega
       _=(a+1)*de.size:=by rw [Nat.add_mul,Nat.one_mul]
       _≤n.toNat*de.size:=Nat.mul_le_mul_right _ ha
     have hmod:(a*de.size+j) % i.size=j:=by
      rw [←hsz,Nat.mul_comm,Nat.mul_add_mod];exact Nat.mod_eq_of_lt hj
     rw [hget _ hlt,hmod];have hj2:j<zv.cells.toList.length:=by rw [Array.length_toList,hzs,←hsz];exact hj
     refine ⟨zv.cells.toList[j],List.getElem?_eq_getElem hj2, ?_⟩;have hl:=z76 (w:=w) (β:=β) (XO Y h β) zv.cells.toList hz4;rw [←hz3] at hl;exact hl.2 j c _ hc (List.getElem?_eq_getElem hj2)
   · intro w' β' hb hsh;refine .a _ _ (.osl fr de.size 0 n.toNat w.heap.size 0 _ _ e hb hsh (Nat.le_refl _) ?_ (.inl (by simp)));rw [Array.length_toList,size_madeCells,hsz,Nat.zero_add];exact Nat.le_refl _
 · cases hq
theorem z1l {t:TypeId}{f:(Bool×List EK)×(Bool×List WV)→Option AR}{r:AR}(h0:z2q P t f=some r):∃ m,zhy P t=some m∧f m=some r:=by
 unfold z2q at h0;split at h0
 · rename_i m hm;exact ⟨m,hm,h0⟩
 · cases h0
end
end Go.AM

namespace Go.AM
section
variable {P:Program} {h:Nat→AObj} {β:Nat→Option Nat} {Y:Nat→Prop} {w:World}
theorem zfu (X:Nat→Prop){zf:List WV}{zs:List Value}(hz:LRep (WRep w X β) zf zs)(hne:zs ≠ []):∀ (len:Nat),LRep (WRep w X β) (List.replicate len zf).flatten ((List.range (len*zs.length)).map fun i=>zs.getD (i % zs.length) undef)
 | 0=>by simpa using LRep.nil
 | len+1=>by
  have ih:=zfu X hz hne len;have hp:0<zs.length:=by cases zs<;>simp_all
  rw [List.replicate_succ,List.flatten_cons]
  have h1:(List.range ((len+1)*zs.length)).map (fun i=>zs.getD (i % zs.length) undef)=zs++(List.range (len*zs.length)).map (fun i=>zs.getD (i % zs.length) undef):=by
   rw [Nat.add_mul,Nat.one_mul,Nat.add_comm,List.range_add,List.map_append,List.map_map];congr 1
   · apply List.ext_getElem?;intro j;rw [List.getElem?_map];by_cases hj:j<zs.length
     · rw [List.getElem?_range hj];simp only [Option.map_some,Nat.mod_eq_of_lt hj,List.getD,List.getElem?_eq_getElem hj,Option.getD_some]
     · rw [List.getElem?_eq_none (by simpa using hj),List.getElem?_eq_none (by omega)];rfl
   · apply List.map_congr_left;intro j _;simp only [Function.comp,Nat.add_mod_left]
  rw [h1];exact hz.append ih
theorem zeg {n:Nat}:∀ (k:Nat) {cs:List WV},cs.length=k*n→(∀ e∈z8g n k cs,e.length=n)∧(z8g n k cs).length=k∧(z8g n k cs).flatten=cs
 | 0,cs,h=>by
  have:cs=[]:=List.eq_nil_of_length_eq_zero (by simpa using h);subst this;simp [z8g]
 | k+1,cs,h=>by
  have hk:(cs.drop n).length=k*n:=by rw [List.length_drop,h,Nat.add_mul];omega
  obtain ⟨h1,h2,h3⟩:=zeg k hk;refine ⟨fun e he=> ?_,by simp [z8g,h2],by simp [z8g,h3]⟩;simp only [z8g,List.mem_cons] at he;rcases he with rfl | he
  · rw [List.length_take,h,Nat.add_mul];omega
  · exact h1 e he
theorem z9k {ρ:Operand→TV}{ev:Operand→Value}{X:Nat→Prop}(hρ:∀ x,TRep w X β (ρ x) (ev x))(parts:Array (Nat×Operand)):
  ∀ (j:Nat) (p:Nat×TV) (v:Nat×Value),(parts.toList.map fun p=>(p.1,ρ p.2))[j]? =some p→((parts.map fun (i,x)=>(i,ev x)).toList)[j]? =some v→p.1=v.1∧TRep w X β p.2 v.2:=by
 intro j p v hp hv;simp only [Array.toList_map,List.getElem?_map] at hp hv;obtain ⟨q,hq,rfl⟩:=Option.map_eq_some_iff.1 hp;rw [hq] at hv;simp only [Option.map_some,Option.some.injEq] at hv;subst hv;exact ⟨rfl,hρ _⟩
theorem zdk:∀ (l:List Field),(∀ f∈l,∃ i,P.info? f.type=some i)→(l.mapM (fun f=>do pure (f.offset,←sizeOf f.type):Field→Sem (Nat×Nat))).run P w= .ok (l.map fun f=>(f.offset,P.cellsOf f.type)) w
 | [],_=>by simp
 | f::l,h=>by
  obtain ⟨i,hi⟩:=h f (by simp);have ih:=zdk l (fun f hf=>h f (by simp [hf]));have hc:P.cellsOf f.type=i.size:=by simp [Program.cellsOf,hi]
  have hs:(sizeOf f.type).run P w= .ok i.size w:=by simp [sizeOf,typeInfo,hi]
  simp only [List.mapM_cons,Sem.run_bind,hs,Result.andThen_ok,Sem.run_pure,ih,List.map_cons,hc]
theorem znh (fs:Array Field)(h:∀ f∈fs.toList,∃ i,P.info? f.type=some i):(fs.mapM (fun f=>do pure (f.offset,←sizeOf f.type):Field→Sem (Nat×Nat))).run P w= .ok (fs.toList.map fun f=>(f.offset,P.cellsOf f.type)).toArray w:=by
 have:=zdk (P:=P) (w:=w) fs.toList h;rw [Array.mapM_eq_mapM_toList];simp only [Sem.run_map,this,Result.andThen_ok]
theorem zg5 {t:TypeId} {d:TyD} {parts:List (Nat×TV)} {vals:Array (Nat×Value)} {X:Nat→Prop} {r:TV} (hd:tyOf P t=some d) (hpl:parts.length=vals.toList.length)
  (hp:∀ (j:Nat) (p:Nat×TV) (v:Nat×Value),parts[j]? =some p→vals.toList[j]? =some v→p.1=v.1∧TRep w X β p.2 v.2)
  (hb:zgv P d parts=some r):∃ z,(Instr.build t vals).run P w= .ok z w∧TRep w X β r z:=by
 unfold zgv at hb;split at hb
 · rename_i z fs hz hk;obtain ⟨cs,hcs,rfl⟩:=Option.map_eq_some_iff.1 hb;obtain ⟨zv,hzr,rfl,h1,_⟩:=z4h (w:=w) hd hz;obtain ⟨fl,hfl,rfl,hfs⟩:=z90 hd hk;have hl:=z76 (w:=w) (β:=β) X zv.cells.toList h1;obtain ⟨vs,hv1,hv2⟩:=zad (place':=fun i=>((fl.toList.map fun f=>(f.offset,P.cellsOf f.type)).toArray)[i]?) (fun i=>by simp [List.getElem?_map];cases fl[i]? <;>rfl) _ _ _ _ _ hcs hl hpl hp;refine ⟨.agg vs.toArray, ?_,vs,rfl,hv2⟩;have hm:=znh (P:=P) (w:=w) fl hfs;simp only [Array.toArray_toList] at hv1;simp only [Instr.build,Sem.run_bind,hzr,Result.andThen_ok,run_underlying hfl,hm,hv1,Sem.run_pure]
 · rename_i z n e hz hk;have ht:=zcp hd hk;split at hb
   · rename_i de hde;obtain ⟨cs,hcs,rfl⟩:=Option.map_eq_some_iff.1 hb;obtain ⟨zv,hzr,rfl,h1,_⟩:=z4h (w:=w) hd hz;have hl:=z76 (w:=w) (β:=β) X zv.cells.toList h1;obtain ⟨vs,hv1,hv2⟩:=zad (place':=fun i=>some (i*de.size,de.size)) (fun i=>rfl) _ _ _ _ _ hcs hl hpl hp;refine ⟨.agg vs.toArray, ?_,vs,rfl,hv2⟩;simp only [Array.toArray_toList] at hv1;simp only [Instr.build,Sem.run_bind,hzr,Result.andThen_ok,run_underlying ht,z0p hde,hv1,Sem.run_pure]
   · cases hb
 · cases hb
theorem zvo {t:TypeId} {d:TyD} {parts:Array (Nat×Operand)} {ρ:Operand→TV} {ev:Operand→Value} {X:Nat→Prop} {r:TV} (hρ:∀ x,TRep w X β (ρ x) (ev x)) (hd:tyOf P t=some d)
  (hb:zgv P d (parts.toList.map fun p=>(p.1,ρ p.2))=some r):∃ z,(Instr.build t (parts.map fun (i,x)=>(i,ev x))).run P w= .ok z w∧TRep w X β r z:=
 zg5 hd (by simp) (z9k (w:=w) (β:=β) hρ parts) hb
theorem z72 (hO:Objs h β Y w) (hY:∀ b,Y b→b<w.heap.size) {fr:Nat} (hfr:β fr=none) {t e:TypeId} {d de:TyD} {len:Nat} {parts:List (Nat×TV)} {vals:Array (Nat×Value)} {r:AR}
  (hpl:parts.length=vals.toList.length) (hp:∀ (j:Nat) (p:Nat×TV) (v:Nat×Value),parts[j]? =some p→vals.toList[j]? =some v→p.1=v.1∧TRep w (XO Y h β) β p.2 v.2)
  (hd:tyOf P t=some d) (hk:d.kind= .slice e) (hde:tyOf P e=some de) (hb:z43 de fr len parts=some r):
  Does P h β Y w fr r (do pure (.value (←Instr.buildSlice t len vals))):=by
 have ht:=z2e hd hk;unfold z43 at hb;split at hb
 · rename_i z hz;split at hb
   · rename_i hc;obtain ⟨hz1,hs0,hfit⟩:=hc;split at hb
     · rename_i cs hcs;injection hb with hb;subst hb
       obtain ⟨zv,hzr,rfl,h1,_⟩:=z4h (w:=w) hde hz;have hzl:zv.cells.toList.length=de.size:=by simpa using hz1
       have hl:=z76 (w:=w) (β:=β) (XO Y h β) zv.cells.toList h1;have hrep:=zfu (XO Y h β) hl (by intro e;rw [e] at hzl;simp at hzl;omega) len;rw [hzl] at hrep;obtain ⟨vs,hv1,hv2⟩:=zad (place':=fun i=>some (i*de.size,de.size)) (fun i=>rfl) _ _ _ _ _ hcs hrep hpl hp
       have hfl:∀ (place:Nat→Option (Nat×Nat)) (ps:List (Nat×TV)) (c r:List WV),zfm place c ps=some r→r.length=c.length:=by
        intro place ps
        induction ps with
        | nil=>intro c r h;simp only [zfm,Option.some.injEq] at h;rw [h]
        | cons p ps ih=>
         intro c r h;obtain ⟨i,v⟩:=p;simp only [zfm] at h;split at h
         · split at h
           · rename_i hc;rw [ih _ _ h];unfold splice;simp;omega
           · cases h
         · cases h
       have hcl:cs.length=len*de.size:=by
        rw [hfl _ _ _ _ hcs,hrep.1];simp
       obtain ⟨k1,k2,k3⟩:=zeg len hcl;have hvl:vs.length=len*de.size:=by rw [←hv2.1,hcl]
       refine z6r hO hY hfr de.size (z8g de.size len cs) vs e 0 (.slice (some ⟨w.heap.size,0,none⟩) len len) _ ?_ (by rw [k2,hvl];exact Nat.le_refl _) k1 (z2u k1 (by rw [k3];exact hv2)) ?_
       · have hbig:¬(len*de.size>2^24):=by omega
         have hcells:(Array.range (len*de.size)).map (fun i=>zv.cells[i % zv.cells.size]!)=(List.map (fun i=>zv.cells.toList.getD (i % de.size) undef) (List.range (len*de.size))).toArray:=by
          apply Array.ext';simp only [Array.toList_map,Array.toList_range];apply List.map_congr_left;intro i _;have hzs:zv.cells.size=de.size:=by simpa using hzl
          have hlt:i % de.size<zv.cells.size:=by rw [hzs];exact Nat.mod_lt _ hs0
          rw [hzs,getElem!_pos zv.cells _ hlt];simp [List.getD,hlt]
         by_cases hz00:len*de.size=0
         · have hr0:(Array.range 0).map (fun i=>(#[]:Array Value)[i % (#[]:Array Value).size]!)=(List.map (fun i=>zv.cells.toList.getD (i % de.size) undef) (List.range 0)).toArray:=by
            apply Array.ext';simp
           simp only [hz00] at hv1;simp only [Instr.buildSlice,Sem.run_bind,run_underlying ht,Result.andThen_ok,z0p hde,hz00,show¬(0>2^24) by omega,if_true,if_false,Sem.run_pure,hr0,hv1,newRow,run_newObj,Nat.add_zero]
         · simp only [Instr.buildSlice,Sem.run_bind,run_underlying ht,Result.andThen_ok,z0p hde,hbig,hz00,if_false,Sem.run_pure,hzr,hcells,hv1,newRow,run_newObj,Nat.add_zero]
       · intro w' β' hb hsh;by_cases hz:len=0∧de.size=1
         · rw [if_pos hz];obtain ⟨rfl,_⟩:=hz;exact .a _ _ (.fz _ _ (.z0 true _))
         · rw [if_neg hz];exact .a _ _ (.osl fr de.size 0 len w.heap.size 0 len _ e hb hsh (Nat.le_refl _) (by rw [hvl];simp) (.inl (by simp)))
     · cases hb
   · cases hb
 · cases hb
theorem zd6 (hO:Objs h β Y w) (hY:∀ b,Y b→b<w.heap.size) {fr:Nat} (hfr:β fr=none) {t e:TypeId} {d de:TyD} {len:Nat} {parts:Array (Nat×Operand)} {ρ:Operand→TV} {ev:Operand→Value} {r:AR}
  (hρ:∀ x,TRep w (XO Y h β) β (ρ x) (ev x)) (hd:tyOf P t=some d) (hk:d.kind= .slice e) (hde:tyOf P e=some de) (hb:z43 de fr len (parts.toList.map fun p=>(p.1,ρ p.2))=some r):
  Does P h β Y w fr r (do pure (.value (←Instr.buildSlice t len (parts.map fun (i,x)=>(i,ev x))))):=
 z72 hO hY hfr (by simp) (z9k (w:=w) (β:=β) hρ parts) hd hk hde hb
theorem zl6 (hO:Objs h β Y w) (hY:∀ b,Y b→b<w.heap.size) {fr:Nat} (hfr:β fr=none) {t t' ty:TypeId} {e:TypeId} {d:TyD} {de:TyD} {s x:TV} {u v:Value} {r:AR} (hd:tyOf P t=some d) (hk:d.kind= .slice e) (hde:tyOf P e=some de)
  (hs:TRep w (XO Y h β) β s u) (hx:TRep w (XO Y h β) β x v) (ha:zat P t' de fr s x=some r):
  Does P h β Y w fr r (do pure (.value (←Builtin.append_ #[t,t'] ty #[u,v]))):=by
 have ht:=z2e hd hk;unfold zat at ha;split at ha
 · rename_i kn k n htn;split at ha
   · rename_i hc;obtain ⟨hn0,hs0,hroom,hb0,hz⟩:=hc;injection ha with ha;subst ha
     rw [hs.nils_inv,TRep.int_inv hx];obtain ⟨z,hz1,hz2⟩:=Option.map_eq_some_iff.1 hz;obtain ⟨zv,_,hz3,_,i,hi,hiz⟩:=z4h (w:=w) hde hz1;obtain ⟨i',_,hi',_,_,hsz,hby,_,_⟩:=z4g hde;rw [hi] at hi';injection hi' with hi';subst hi'
     have hroom:n.toNat*i.bytes≤140737488355328:=by rw [←hby];exact hroom
     have hle:n.toNat≤n.toNat*i.bytes:=Nat.le_mul_of_pos_right _ (by rw [←hby];exact hb0);have hr:=Lib.run_append_nil_zeros (P:=P) w t t' ty e i zv k kn ht htn hi hiz n.toNat (by omega) (by rw [←hsz];exact hs0) (by omega) (by omega);rw [show ((n.toNat:Nat):Int)=n by omega] at hr;have hge:=grownCap_ge w n.toNat 0 e;have hzs:zv.cells.size=i.size:=by rw [←hsz,←hz2,hz3];simp
     refine z6r hO hY hfr de.size [] (Builtin.zeroCells zv.cells n.toNat++Builtin.zeroCells zv.cells (grownCap w n.toNat 0 e-n.toNat)).toList e 1 (.slice (some ⟨w.heap.size,0,none⟩) n.toNat (grownCap w n.toNat 0 e)) _ (hr.trans ?_) (by simp) (fun e he=>by cases he) (fun i j e c he _=>by simp at he) ?_
     · simp only [World.alloc,World.drew,Array.toArray_toList]
     · intro w' β' hb hsh;refine .a _ _ (.osl fr de.size 0 n.toNat w.heap.size 0 _ _ e hb hsh hge ?_ (.inl (by simp)));rw [Array.length_toList,Array.size_append,size_zeroCells,size_zeroCells,hzs,←Nat.add_mul,hsz];exact Nat.mul_le_mul_right _ (by omega)
   · cases ha
 · cases ha
theorem zlb (hO:Objs h β Y w) (hY:∀ b,Y b→b<w.heap.size) {fr:Nat} (hfr:β fr=none) {b:Builtin} {ts:Array TypeId} {ty:TypeId} {cs:Array Bool} {args:List TV} {vals:Array Value} {r:AR}
  (hl:LRep (TRep w (XO Y h β) β) args vals.toList) (ha:z37 P b ts.toList fr h args=some r):Does P h β Y w fr r (builtin b ts ty cs vals):=by
 unfold z37 at ha;split at ha
 · rename_i t x ht;obtain ⟨u,us',hu,hx,hr⟩:=hl.cons_inv;rw [hr.nil_inv] at hu;have hv:vals= #[u]:=by apply Array.ext';simpa using hu
   have hts:ts= #[t]:=by apply Array.ext';simpa using ht
   subst hv;subst hts;obtain ⟨d,hd,hlen⟩:=z0e ha;obtain ⟨p,hp,rfl⟩:=Option.map_eq_some_iff.1 hlen;exact len_does (ty:=ty) hO hd hx hp
 · rename_i t t' s x ht;split at ha
   · rename_i htt;subst htt;obtain ⟨d,e,de,hd,hk,hde,hap⟩:=z0y ha;obtain ⟨u,us',hu,hs,hr⟩:=hl.cons_inv;obtain ⟨v,vs',hv,hx,hr'⟩:=hr.cons_inv;rw [hv,hr'.nil_inv] at hu;have hvv:vals= #[u,v]:=by apply Array.ext';simpa using hu
     have hts:ts= #[t,t]:=by apply Array.ext';simpa using ht
     subst hvv;subst hts;exact zn3 (ty:=ty) hO hY hfr hd hk hde hs hx hap
   · obtain ⟨d,e,de,hd,hk,hde,hap⟩:=z0y ha;obtain ⟨u,us',hu,hs,hr⟩:=hl.cons_inv;obtain ⟨v,vs',hv,hx,hr'⟩:=hr.cons_inv;rw [hv,hr'.nil_inv] at hu;have hvv:vals= #[u,v]:=by apply Array.ext';simpa using hu
     have hts:ts= #[t,t']:=by apply Array.ext';simpa using ht
     subst hvv;subst hts;exact zl6 (ty:=ty) hO hY hfr hd hk hde hs hx hap
 · rename_i t x ht;refine z1q hO ha (fun y hy=> ?_);obtain ⟨u,us',hu,hx,hr⟩:=hl.cons_inv;rw [hr.nil_inv] at hu;have hv:vals= #[u]:=by apply Array.ext';simpa using hu
   have hts:ts= #[t]:=by apply Array.ext';simpa using ht
   subst hv;subst hts;obtain ⟨d,hd,hc⟩:=z0e hy;unfold capP at hc;split at hc
   · rename_i hk;have hts:=z2e hd hk;injection hc with hc;subst hc
     rw [hx.nils_inv];exact ⟨goInt 0,by simp [Builtin.cap_,run_underlying hts,goInt], .int_mk _ _⟩
   · rename_i nn hk;have hts:=z2e hd hk;injection hc with hc;subst hc
     have h1:=hx.fz_inv;cases h1 with
     | z0 _ a=>exact ⟨goInt 0,by simp [Builtin.cap_,run_underlying hts,goInt], .int_mk _ _⟩
     | z0n=>exact ⟨goInt 0,by simp [Builtin.cap_,run_underlying hts,goInt], .int_mk _ _⟩
   · cases hc
 · refine z1q hO ha (fun x hx=> ?_);have:=zqf (P:=P) (m:=false) ts ty hx hl;simpa using this
 · refine z1q hO ha (fun x hx=> ?_);have:=zqf (P:=P) (m:=true) ts ty hx hl;simpa using this
 · cases ha
theorem zoc {ρ:Operand→TV}{ev:Operand→Value}{X:Nat→Prop}(hρ:∀ x,TRep w X β (ρ x) (ev x))(o:Option Operand):bnd (o.map ρ) (o.map ev) w X β:=by
 cases o with
 | none=>trivial
 | some x=>exact hρ x
theorem z9s {ρ:Operand→TV}{ev:Operand→Value}{X:Nat→Prop}(hρ:∀ x,TRep w X β (ρ x) (ev x)):∀ (l:List Operand),LRep (TRep w X β) (l.map ρ) (l.map ev)
 | []=> .nil
 | x::l=> .cons (hρ x) (z9s hρ l)
theorem zob {src:TypeId}{x r:TV}{u:Value}{dst:TypeId}{d:TyD}{X:Nat→Prop}(hs:∃ e,P.underlying src=some e)(hd:tyOf P dst=some d)(h:zce d x=some r)(hx:TRep w X β x u):
  ∃ z,(convert src dst u).run P w= .ok z w∧TRep w X β r z:=by
 obtain ⟨e,he⟩:=hs;exact zjo src ⟨e,he,fun _ _ _=>trivial⟩ hd h hx
theorem zh0 {X:Nat→Prop}:∀ {es:List (List WV)} {l:List UInt8} {us:List Value},zjw es=some l→LRep (WRep w X β) es.flatten us→∃ ns:List Int,us=ns.map (Value.int .u8)∧l=ns.map fun n=>UInt8.ofNat n.toNat
 | [],l,us,h,hl=>by
  simp only [zjw,Option.some.injEq] at h;subst h;have:us=[]:=List.eq_nil_of_length_eq_zero (by simpa using hl.1.symm);subst this;exact ⟨[],rfl,rfl⟩
 | e::r,l,us,h,hl=>by
  simp only [zjw] at h;split at h
  · rename_i b l' hb hl';injection h with h;subst h
    unfold byteW at hb;split at hb
    · rename_i n;injection hb with hb;subst hb
      simp only [List.flatten_cons,List.cons_append,List.nil_append] at hl;obtain ⟨u,us',rfl,hu,hr⟩:=hl.cons_inv;obtain ⟨ns,rfl,rfl⟩:=zh0 hl' hr
      have:u= .int .u8 n:=by
       cases hu with | a _ _ h=>cases h with | fz _ _ h=>cases h;rfl
      subst this;exact ⟨n::ns,rfl,rfl⟩
    · cases hb
  · cases h
theorem zfw:∀ (ns:List Int) (s:ByteArray),ns.foldl (fun r n=>r.push (UInt8.ofNat n.toNat)) s=⟨s.data++(ns.map fun n=>UInt8.ofNat n.toNat).toArray⟩
 | [],s=>by simp
 | n::ns,s=>by
  rw [List.foldl_cons,zfw ns];simp [ByteArray.push]
theorem zv3 (hO:Objs h β Y w){src dst:TypeId}{x:TV}{u:Value}{r:AR}(hs:zhs P src=true)(ha:textA P dst h x=some r)(hx:TRep w (XO Y h β) β x u):
  ∃ v z rd,r=⟨v,[],rd⟩∧(convert src dst u).run P w= .ok z w∧TRep w (XO Y h β) β v z:=by
 have hsrc:∃ e,P.underlying src=some (.slice e)∧P.underlying e=some (.int .u8):=by
  unfold zhs at hs;split at hs
  · rename_i he;obtain ⟨dd,e,de,hd,hk,hde,hl⟩:=z0y he;injection hl with hl
    obtain ⟨u1,hu1,hk1⟩:=z34 hd;rw [hk1] at hk;obtain ⟨u2,hu2,hk2⟩:=z34 hde;rw [hk2] at hl;have e1:=z7i hk;have e2:=zg0 hl;subst e1;subst e2;exact ⟨e,hu1,hu2⟩
  · cases hs
 obtain ⟨e,hs1,hs2⟩:=hsrc;obtain ⟨d,hd,ha⟩:=z0e ha;split at ha
 · rename_i hk;obtain ⟨u3,hu3,hk3⟩:=z34 hd;rw [hk3] at hk;have e3:=zbl hk;subst e3;split at ha
   · rename_i es rd hes;obtain ⟨l,hl,rfl⟩:=Option.map_eq_some_iff.1 ha;obtain ⟨_,us,h1,h2⟩:=z8r hO hes hx (by omega);obtain ⟨ns,rfl,rfl⟩:=zh0 hl h1;rcases h2 with ⟨rfl,rfl⟩ | ⟨a,cap,rfl,hc⟩
     · have:ns=[]:=by
        have:=h1.1;simp at this;exact List.eq_nil_of_length_eq_zero this.symm
       subst this;refine ⟨_, .string .empty,_,rfl, ?_, .a _ _ (.fz _ _ (.str []))⟩;rw [run_convert_bytes_string w src dst e none 0 0 hs1 hs2 hu3];simp [Conv.bytesToString]
     · have hlen:es.length=(ns.map (Value.int .u8)).length:=by
        have:=h1.1;have hn:=(z8r hO hes hx (by omega)).1;rw [←this,z6l hn,Nat.mul_one]
       refine ⟨_,_,_,rfl,(run_convert_bytes_string w src dst e (some a) es.length cap hs1 hs2 hu3).trans (run_bytesToString w a es.length cap ns ?_), ?_⟩
       · rw [hlen];exact run_loadCells_list w a _ hc
       · rw [zfw]
         have e:ByteArray.empty.data++(ns.map fun n=>UInt8.ofNat n.toNat).toArray=(ns.map fun n=>UInt8.ofNat n.toNat).toArray:=by
          apply Array.ext';simp [ByteArray.empty,ByteArray.emptyWithCapacity];rfl
         rw [e];exact .a _ _ (.fz _ _ (.str _))
   · cases ha
 · cases ha
theorem z6a (hO:Objs h β Y w)(hY:∀ b,Y b→b<w.heap.size){fr:Nat}(hfr:β fr=none){o:Oper}{ρ:Operand→TV}{ev:Operand→Value}{r:AR}(hρ:∀ x,TRep w (XO Y h β) β (ρ x) (ev x))(ha:aop P o fr ρ h=some r):
  Does P h β Y w fr r (execOp ev o):=by
 have bindv:∀ {s:Sem Value},(do pure (.value (←s)):Sem Next)=(do let v ←s;pure (.value v)):=rfl
 obtain ⟨d,op,t,p,af,g⟩:=o;unfold aop at ha;dsimp only at ha;split at ha
 · injection ha with ha;subst ha
   rename_i x;exact ⟨.value (ev x),ev x,w,β,rfl, .inl rfl,(Moves.refl hO (fun _=>rfl)).weaken (fun _ h=>h.elim),hρ x⟩
 · injection ha with ha;subst ha
   rename_i x;exact ⟨.value (ev x),ev x,w,β,rfl, .inl rfl,(Moves.refl hO (fun _=>rfl)).weaken (fun _ h=>h.elim),hρ x⟩
 · rename_i c x y;obtain ⟨v,hv,rfl⟩:=Option.map_eq_some_iff.1 ha;obtain ⟨b,hb,hr⟩:=zxq hv (hρ c) (hρ x) (hρ y);refine ⟨.value (if b then ev x else ev y),_,w,β, ?_, .inl rfl,(Moves.refl hO (fun _=>rfl)).weaken (fun _ h=>h.elim),hr⟩
   simp only [execOp,hb,asBool,pure_bind];cases b<;>rfl
 · rename_i e;obtain ⟨dd,hd,hz⟩:=z0e ha;obtain ⟨z,hz',rfl⟩:=Option.map_eq_some_iff.1 hz;exact zrr hO hY hfr hd hz'
 · rename_i e x;obtain ⟨cs,hcs,rfl⟩:=Option.map_eq_some_iff.1 ha;exact box_does hO hY hfr (hρ x) hcs
 · rename_i bt parts;exact z1q hO ha (fun x hx=>by obtain ⟨dd,hd,hb⟩:=z0e hx;exact zvo hρ hd hb)
 · rename_i st len parts;obtain ⟨dd,e,de,hd,hk,hde,hb⟩:=z0y ha;exact zd6 hO hY hfr hρ hd hk hde hb
 · rename_i lt x;obtain ⟨dd,hd,hl⟩:=z0e ha;obtain ⟨q,hq,rfl⟩:=Option.map_eq_some_iff.1 hl;exact zx4 hO hd (hρ x) hq
 · rename_i st x y;obtain ⟨dd,hd,hs⟩:=z0e ha;exact zso hO hd (hρ x) (hρ y) hs
 · rename_i x;obtain ⟨v,hv,rfl⟩:=Option.map_eq_some_iff.1 ha;obtain ⟨h1,h2⟩:=zhn (P:=P) (o:=⟨d, .nilCheck x,t,p,af,g⟩) ev x rfl rfl hv (hρ x);exact ⟨.value (ev x),ev x,w,β,h1, .inl rfl,(Moves.refl hO (fun _=>rfl)).weaken (fun _ h=>h.elim),h2⟩
 · rename_i op xt x y yt;exact z1q hO ha (fun v hv=>zif x y hv (hρ x) (hρ y))
 · rename_i op xt x;exact z1q hO ha (fun v hv=>unA_run hv (hρ x))
 · rename_i src dst x;split at ha
   · rename_i hs;obtain ⟨v,z,rd,rfl,h1,h3⟩:=zv3 hO hs ha (hρ x);refine ⟨.value z,z,w,β, ?_, .inl rfl,(Moves.refl hO (fun _=>rfl)).weaken (fun _ h=>h.elim),h3⟩;simp only [execOp,Sem.run_bind,h1,Result.andThen_ok,Sem.run_pure]
   exact z1q hO ha (fun v hv=>by
    split at hv
    · rename_i hs;obtain ⟨dd,hd,hc⟩:=z0e hv;exact zob (Option.isSome_iff_exists.1 hs) hd hc (hρ x)
    · cases hv)
 · rename_i st x lo hi mx
   exact z1q hO ha (fun v hv=>by
    obtain ⟨dd,hd,hc⟩:=z0e hv;exact zkb hd hc (hρ x) (zoc hρ lo) (zoc hρ hi) (zoc hρ mx))
 · rename_i s x f;exact z1q hO ha (fun v hv=>by obtain ⟨dd,hd,hc⟩:=z0e hv;exact zfh hd hc (hρ x))
 · rename_i s x f;exact z1q hO ha (fun v hv=>by obtain ⟨dd,hd,hc⟩:=z0e hv;exact zs7 hd hc (hρ x))
 · rename_i s x ix;exact z1q hO ha (fun v hv=>by obtain ⟨dd,hd,hc⟩:=z0e hv;exact z8k hd hc (hρ x) (hρ ix))
 · rename_i s x ix;exact z1q hO ha (fun v hv=>by obtain ⟨dd,hd,hc⟩:=z0e hv;exact zsm hd hc (hρ x) (hρ ix))
 · rename_i fn first captured
   exact z1q hO ha (fun v hv=>⟨.func fn (first.map ev) (captured.map ev),rfl,by
    have:=zj2 (w:=w) (β:=β) (X:=XO Y h β) hv (z9s hρ first.toList) (z9s hρ captured.toList);have e:∀ a:Array Operand,(a.toList.map ev).toArray=a.map ev:=fun a=>by apply Array.ext';simp
    rwa [e,e] at this⟩)
 · rename_i x i;exact z1q hO ha (fun v hv=>zkw hv (hρ x))
 · rename_i b args ts;refine zlb (vals:=args.map ev) hO hY hfr (by simpa using z9s hρ args.toList) ha
 · rename_i lt x ix ok;obtain ⟨m,hm,hl⟩:=z1l ha;exact zmi hO hm (hρ x) (hρ ix) hl
 · rename_i mt x k;obtain ⟨m,hm,hl⟩:=z1l ha;exact zhq hO hm (hρ x) (hρ k) hl
 · rename_i mt x s v;exact zd5 hO (hρ x) (hρ s) (hρ v) ha
 · rename_i mt x k v;obtain ⟨m,hm,hl⟩:=z1l ha;exact zfa hO hm (hρ x) (hρ k) (hρ v) hl
 · injection ha with ha;subst ha
   exact zjq hO hY hfr _
 · rename_i st l c;obtain ⟨dd,e,de,hd,hk,hde,hb⟩:=z0y ha;obtain ⟨q,hq,rfl⟩:=Option.map_eq_some_iff.1 hb;exact zfj hO hY hfr hd hk hde (hρ l) (hρ c) hq
 · cases ha
end
end Go.AM

namespace Go.AM
section
variable {w:World} {X1 X2:Nat→Prop} {β1 β2:Nat→Option Nat} {σ:Nat→Nat}
theorem ARep.map (hF:∀ x v,FRep w X1 x v→FRep w X2 x v)(hβ:∀ o b,β1 o=some b→β2 (σ o)=some b){x:AV}{v:Value}(h:ARep w X1 β1 x v):ARep w X2 β2 (x.ren σ) v:=by
 cases h with
 | fz x v h=>exact .fz x v (hF x v h)
 | ep o n i j b h=>exact .ep _ n i j b (hβ _ _ h)
 | osl o n off len b q cap sz t h1 h2 h3 h4 h5=>exact .osl _ n off len b q cap sz t (hβ _ _ h1) h2 h3 h4 h5
 | oslN o n off=>exact .oslN _ n off
 | mp o b h=>exact .mp _ b (hβ _ _ h)
 | any v h=>exact .any v h
 | bld t o b v h1 h2 h3=>exact .bld t _ b v (hβ _ _ h1) h2 h3
 | osb o e len b cap h1 h2 h3 h4=>exact .osb _ e len b cap (hβ _ _ h1) h2 h3 h4
theorem WRep.map (hF:∀ x v,FRep w X1 x v→FRep w X2 x v)(hβ:∀ o b,β1 o=some b→β2 (σ o)=some b){x:WV}{v:Value}(h:WRep w X1 β1 x v):WRep w X2 β2 (x.ren σ) v:=by
 cases h with
 | a x v h=>exact .a _ v (h.map hF hβ)
 | fn f first cap us vs h1 h2=>exact .fn f _ _ us vs (h1.map fun c u _ h=>h.map fun c u _ h=>h.map hF hβ) (h2.map fun c u _ h=>h.map fun c u _ h=>h.map hF hβ)
theorem TRep.map (hF:∀ x v,FRep w X1 x v→FRep w X2 x v)(hβ:∀ o b,β1 o=some b→β2 (σ o)=some b){x:TV}{v:Value}(h:TRep w X1 β1 x v):TRep w X2 β2 (x.ren σ) v:=by
 cases x with
 | any=>trivial
 | c x=>exact WRep.map hF hβ h
 | agg cs=>obtain ⟨us,h1,h2⟩:=h;exact ⟨us,h1,h2.map fun c u _ h=>h.map hF hβ⟩
 | tup vs=>obtain ⟨us,h1,h2⟩:=h;exact ⟨us,h1,h2.map fun c u _ h=>h.map fun c u _ h=>h.map hF hβ⟩
theorem ORep.map (hF:∀ x v,FRep w X1 x v→FRep w X2 x v)(hβ:∀ o b,β1 o=some b→β2 (σ o)=some b){x:AObj}{b:Nat}(h:ORep w X1 β1 x b):ORep w X2 β2 (x.ren σ) b:=by
 cases x with
 | gone=>trivial
 | arz n fs=>
  obtain ⟨us,t,h1,h2,h3,h4⟩:=h;refine ⟨us,t,h1,h2,h3,fun i j e c he hc=> ?_⟩;obtain ⟨u,hu,hr⟩:=h4 i j e c he hc;rw [List.getElem?_map] at he;obtain ⟨e',he',rfl⟩:=Option.map_eq_some_iff.1 he;rw [fzs,List.getElem?_map] at hc;obtain ⟨c',hc',rfl⟩:=Option.map_eq_some_iff.1 hc;exact ⟨u,hu,hr.map (σ:=σ) hF hβ⟩
 | mapz es=>
  obtain ⟨ms,ck,h1,h2,h3,h4,h5⟩:=h;refine ⟨ms,ck,h1,h2,fun i e m he hm=> ?_,h4,h5⟩;obtain ⟨x,y⟩:=h3 i e m he hm;rw [List.getElem?_map] at he;obtain ⟨e',he',rfl⟩:=Option.map_eq_some_iff.1 he;refine ⟨x.imp fun _ _ _ h=>hF _ _ h,y.imp fun c u hc h=> ?_⟩;obtain ⟨c',_,rfl⟩:=List.mem_map.1 (show c∈List.map cell e'.2.2 from hc);exact h.map (σ:=σ) hF hβ
 | arr n es=>
  obtain ⟨us,t,h1,h2,h3,h4⟩:=h;refine ⟨us,t,h1,by simpa using h2,fun e he=> ?_,fun i j e c he hc=> ?_⟩
  · obtain ⟨e',he',rfl⟩:=List.mem_map.1 he;simp [h3 e' he']
  · rw [List.getElem?_map] at he;obtain ⟨e',he',rfl⟩:=Option.map_eq_some_iff.1 he;rw [List.getElem?_map] at hc;obtain ⟨c',hc',rfl⟩:=Option.map_eq_some_iff.1 hc;obtain ⟨u,hu,hr⟩:=h4 i j e' c' he' hc';exact ⟨u,hu,hr.map hF hβ⟩
 | mapo es=>
  obtain ⟨ms,ck,h1,h2,h3,h4,h5⟩:=h;refine ⟨ms,ck,h1,by simpa using h2,fun i e m he hm=> ?_,h4,h5⟩;rw [List.getElem?_map] at he;obtain ⟨e',he',rfl⟩:=Option.map_eq_some_iff.1 he;obtain ⟨x,y⟩:=h3 i e' m he' hm;exact ⟨x.imp fun _ _ _ h=>hF _ _ h,y.map fun c u _ h=>h.map hF hβ⟩
theorem ARep.unmap {m:Nat}(hF:∀ x v,FRep w X2 x v→FRep w X1 x v)(hβ:∀ o b,o<m→β2 (σ o)=some b→β1 o=some b){x:AV}{v:Value}(hlt:x.lt m=true)(h:ARep w X2 β2 (x.ren σ) v):ARep w X1 β1 x v:=by
 cases x with
 | fz x=>cases h with | fz _ _ h=>exact .fz x v (hF x v h)
 | ep o n i j=>cases h with | ep _ _ _ _ b h=>exact .ep o n i j b (hβ _ _ (by simpa [AV.lt] using hlt) h)
 | osl o n off len=>cases h with
  | osl _ _ _ _ b q cap sz t h1 h2 h3 h4 h5=>exact .osl o n off len b q cap sz t (hβ _ _ (by simpa [AV.lt] using hlt) h1) h2 h3 h4 h5
  | oslN=>exact .oslN o n off
 | mp o=>cases h with | mp _ b h=>exact .mp o b (hβ _ _ (by simpa [AV.lt] using hlt) h)
 | any=>cases h with | any _ h=>exact .any v h
 | bld t o=>cases h with | bld _ _ b _ h1 h2 h3=>exact .bld t o b v (hβ _ _ (by simpa [AV.lt] using hlt) h1) h2 h3
 | osb o e n=>cases h with | osb _ _ _ b cap h1 h2 h3 h4=>exact .osb o e n b cap (hβ _ _ (by simpa [AV.lt] using hlt) h1) h2 h3 h4
theorem WRep.unmap {m:Nat}(hF:∀ x v,FRep w X2 x v→FRep w X1 x v)(hβ:∀ o b,o<m→β2 (σ o)=some b→β1 o=some b){x:WV}{v:Value}(hlt:x.lt m=true)(h:WRep w X2 β2 (x.ren σ) v):WRep w X1 β1 x v:=by
 cases x with
 | a x=>cases h with | a _ _ h=>exact .a x v (ARep.unmap hF hβ hlt h)
 | fn f first cap=>
  simp only [WV.lt,Bool.and_eq_true,List.all_eq_true] at hlt;cases h with
  | fn _ _ _ us vs h1 h2=>exact .fn f first cap us vs (h1.unmap fun c u hc h=>h.unmap fun d z hd h=>ARep.unmap hF hβ (hlt.1 c hc d hd) h) (h2.unmap fun c u hc h=>h.unmap fun d z hd h=>ARep.unmap hF hβ (hlt.2 c hc d hd) h)
theorem TRep.unmap {m:Nat}(hF:∀ x v,FRep w X2 x v→FRep w X1 x v)(hβ:∀ o b,o<m→β2 (σ o)=some b→β1 o=some b){x:TV}{v:Value}(hlt:x.lt m=true)(h:TRep w X2 β2 (x.ren σ) v):TRep w X1 β1 x v:=by
 cases x with
 | any=>trivial
 | c x=>exact WRep.unmap hF hβ hlt h
 | agg cs=>
  simp only [TV.lt,List.all_eq_true] at hlt;obtain ⟨us,h1,h2⟩:=h;exact ⟨us,h1,h2.unmap fun c u hc h=>WRep.unmap hF hβ (hlt c hc) h⟩
 | tup vs=>
  simp only [TV.lt,List.all_eq_true] at hlt;obtain ⟨us,h1,h2⟩:=h;exact ⟨us,h1,h2.unmap fun c u hc h=>h.unmap fun d z hd h=>WRep.unmap hF hβ (hlt c hc d hd) h⟩
theorem ORep.unmap {m:Nat}(hF:∀ x v,FRep w X2 x v→FRep w X1 x v)(hβ:∀ o b,o<m→β2 (σ o)=some b→β1 o=some b){x:AObj}{b:Nat}(hlt:x.lt m=true)(h:ORep w X2 β2 (x.ren σ) b):ORep w X1 β1 x b:=by
 cases x with
 | gone=>trivial
 | arz n fs=>
  obtain ⟨us,t,h1,h2,h3,h4⟩:=h;refine ⟨us,t,h1,h2,h3,fun i j e c he hc=> ?_⟩;obtain ⟨u,hu,hr⟩:=h4 i j e c he hc;rw [List.getElem?_map] at he;obtain ⟨e',he',rfl⟩:=Option.map_eq_some_iff.1 he;rw [fzs,List.getElem?_map] at hc;obtain ⟨c',hc',rfl⟩:=Option.map_eq_some_iff.1 hc;exact ⟨u,hu,WRep.unmap (σ:=σ) (m:=m) (x:=cell c') hF hβ rfl hr⟩
 | mapz es=>
  obtain ⟨ms,ck,h1,h2,h3,h4,h5⟩:=h;refine ⟨ms,ck,h1,h2,fun i e me he hm=> ?_,h4,h5⟩;obtain ⟨x,y⟩:=h3 i e me he hm;rw [List.getElem?_map] at he;obtain ⟨e',he',rfl⟩:=Option.map_eq_some_iff.1 he;refine ⟨x.imp fun _ _ _ h=>hF _ _ h,y.imp fun c u hc h=> ?_⟩;obtain ⟨c',_,rfl⟩:=List.mem_map.1 (show c∈List.map cell e'.2.2 from hc);exact WRep.unmap (σ:=σ) (m:=m) (x:=cell c') hF hβ rfl h
 | arr n es=>
  simp only [AObj.lt,List.all_eq_true] at hlt;obtain ⟨us,t,h1,h2,h3,h4⟩:=h;refine ⟨us,t,h1,by simpa using h2,fun e he=> ?_,fun i j e c he hc=> ?_⟩
  · have:=h3 _ (List.mem_map.2 ⟨e,he,rfl⟩);simpa using this
  · obtain ⟨u,hu,hr⟩:=h4 i j _ _ (by rw [List.getElem?_map,he];rfl) (by rw [List.getElem?_map,hc];rfl);exact ⟨u,hu,WRep.unmap hF hβ (hlt e (List.mem_of_getElem? he) c (List.mem_of_getElem? hc)) hr⟩
 | mapo es=>
  simp only [AObj.lt,List.all_eq_true] at hlt;obtain ⟨ms,ck,h1,h2,h3,h4,h5⟩:=h;refine ⟨ms,ck,h1,by simpa using h2,fun i e m he hm=> ?_,h4,h5⟩;obtain ⟨x,y⟩:=h3 i _ m (by rw [List.getElem?_map,he];rfl) hm;exact ⟨x.imp fun _ _ _ h=>hF _ _ h,y.unmap fun c u hc h=>WRep.unmap hF hβ (hlt e (List.mem_of_getElem? he) c hc) h⟩
theorem FRep.le {X:Nat→Prop}{x y:FV}(h:FV.Le x y):∀ {v:Value},FRep w X x v→FRep w X y v:=by
 induction h with
 | refl x=>exact fun h=>h
 | N n=>exact fun h=>by cases h;exact .slnil n
 | nn b n es=>
  intro v h;cases h with
  | slnil=>exact .slnil n
  | sl0 _ _ a=>exact .sl0 _ n a
  | sl _ _ _ b off cap len u h1 h2 h3 h4 h5 h6 h7=>exact .sl false n es b off cap len u h1 h2 h3 h4 h5 h6 h7
 | z0 nn n=>
  intro v h;cases h with
  | z0 _ a=>exact .sl0 nn n a
  | z0n=>exact .slnil n
 | rows b n es es' hl he hf ih=>
  intro v h
  have back:∀ {i:Nat} {e':List FV},es'[i]? =some e'→∃ e,es[i]? =some e∧e.length=e'.length:=by
   intro i e' he';have hi:i<es.length:=by have:=(List.getElem?_eq_some_iff.1 he').1;omega
   exact ⟨es[i],List.getElem?_eq_getElem hi,he i _ _ (List.getElem?_eq_getElem hi) he'⟩
  cases h with
  | slnil=>
   have:es'=[]:=List.eq_nil_of_length_eq_zero (by simpa using hl.symm);subst this;exact .slnil n
  | sl0 _ _ a=>
   have:es'=[]:=List.eq_nil_of_length_eq_zero (by simpa using hl.symm);subst this;exact .sl0 _ n a
  | sl _ _ _ b off cap len u h1 h2 h3 h4 h5 h6 h7=>
   refine .sl _ n es' b off cap len u (by omega) (by omega) h3 h4 (fun i e' he'=> ?_) (fun i j e' f' he' hf'=> ?_) (fun i j e' f' he' hf'=> ?_)
   · obtain ⟨e,he1,he2⟩:=back he';rw [←he2];exact h5 i e he1
   · obtain ⟨e,he1,he2⟩:=back he';have hj:j<e.length:=by rw [he2];exact (List.getElem?_eq_some_iff.1 hf').1
     exact h6 i j e _ he1 (List.getElem?_eq_getElem hj)
   · obtain ⟨e,he1,he2⟩:=back he';have hj:j<e.length:=by rw [he2];exact (List.getElem?_eq_some_iff.1 hf').1
     exact ih i j e e' _ f' he1 he' (List.getElem?_eq_getElem hj) hf' (h7 i j e _ he1 (List.getElem?_eq_getElem hj))
 | trans x y z _ _ ih1 ih2=>exact fun h=>ih2 (ih1 h)
theorem ARep.le {X:Nat→Prop}{β:Nat→Option Nat}{x y:AV}(h:AV.Le x y){v:Value}(hr:ARep w X β x v):ARep w X β y v:=by
 cases h with
 | refl=>exact hr
 | fz x y h=>cases hr with | fz _ _ hr=>exact .fz y v (hr.le h)
 | any=>exact .any v (WRep.oneCell (.a _ _ hr))
theorem WRep.le {X:Nat→Prop}{β:Nat→Option Nat}{x y:WV}(h:WV.Le x y){v:Value}(hr:WRep w X β x v):WRep w X β y v:=by
 cases h with
 | refl=>exact hr
 | a x y h=>cases hr with | a _ _ hr=>exact .a y v (hr.le h)
theorem TRep.le {X:Nat→Prop}{β:Nat→Option Nat}{x y:TV}(h:TV.Le x y){v:Value}(hr:TRep w X β x v):TRep w X β y v:=by
 cases h with
 | refl=>exact hr
 | any=>trivial
 | c x y h=>exact WRep.le h hr
 | agg xs ys hl h=>
  obtain ⟨us,h1,h2⟩:=hr;refine ⟨us,h1,by rw [←hl];exact h2.1,fun j c u hc hu=> ?_⟩;have hj:j<xs.length:=by rw [hl];exact (List.getElem?_eq_some_iff.1 hc).1
  exact WRep.le (h j _ c (List.getElem?_eq_getElem hj) hc) (h2.2 j _ u (List.getElem?_eq_getElem hj) hu)
 | tup xs ys hl h=>
  obtain ⟨us,h1,h2⟩:=hr;refine ⟨us,h1,by rw [←hl];exact h2.1,fun j q u hq hu=> ?_⟩;have hj:j<xs.length:=by rw [hl];exact (List.getElem?_eq_some_iff.1 hq).1
  obtain ⟨g1,g2,g3⟩:=h j _ q (List.getElem?_eq_getElem hj) hq;obtain ⟨vs,k1,k2,k3⟩:=h2.2 j _ u (List.getElem?_eq_getElem hj) hu;refine ⟨vs,by rw [←g1];exact k1,⟨by rw [←g2];exact k2.1,fun i y w hy hw=> ?_⟩,fun e=>by rw [←g2];exact k3 (by rw [g1];exact e)⟩;have hi:i<(xs[j]).2.length:=by rw [g2];exact (List.getElem?_eq_some_iff.1 hy).1
  exact WRep.le (g3 i _ y (List.getElem?_eq_getElem hi) hy) (k2.2 i _ w (List.getElem?_eq_getElem hi) hw)
end
end Go.AM
