/- Laws, part 1. No conditions. -/
import Derived.Calls
import Derived.Tactics
import Derived.Orders
import Derived.Still
import Derived.Laws.AppendOwn
import Derived.Laws.CopyRow
import Derived.KernelRfl
import Derived.Test.YtiflgghnjkfblaaGreatProg
import Derived.Lib.LaidTab
import Derived.Lib.ItoaNum
import Derived.Laws.StructEq
import Derived.Laws.Strings
import Derived.Laws.OwnMore
import Derived.WideKeyRuns
import Derived.Laws.MakeOwn
import Derived.Laws.BytesString
import Derived.Laws.Cells
import Derived.Lib.AppendZeros
set_option linter.all false
namespace Go.AM
abbrev oV:=@if_neg
abbrev oX:=@if_pos
abbrev oY:=@Option.map_eq_some_iff
abbrev oZ:=@Bool.and_eq_true
abbrev r5:=@List.length_cons
abbrev r6:=@Nat.le_refl
abbrev r7:=@List.mem_cons_self
abbrev r8:=@Option.some.injEq
abbrev r9:=@List.mem_cons_of_mem
noncomputable abbrev rc:=Go.Proofs.Tryz.prog
abbrev re:=@List.length_append
abbrev rf:=@List.getElem?_eq_getElem
abbrev rh:=@List.append_assoc
abbrev ri:=@of_decide_eq_false
abbrev rj:=@run_underlying
abbrev rk:=@List.eq_nil_of_length_eq_zero
abbrev ro:=@List.take_of_length_le
abbrev rp:=@List.append_nil
abbrev rq:=@List.getElem?_map
abbrev rr:=@List.getElem?_eq_some_iff
abbrev rt:=@List.length_nil
abbrev ru:=@Int.le_refl
abbrev rx:=@List.mem_cons
abbrev ry:=@Option.map_some
abbrev rA:=@of_decide_eq_true
abbrev rB:=@Nat.zero_add
abbrev rC:=@Int.toNat_natCast
abbrev rD:=@List.length_singleton
abbrev rF:=@Bool.false_eq_true
abbrev rG:=@if_true
abbrev rH:=@List.nil_append
abbrev rI:=@Result.andThen_ok
abbrev rJ:=@List.mem_singleton
abbrev rK:=@List.mem_map
abbrev rL:=@decide_eq_true_eq
abbrev rM:=@List.length_take
abbrev rN:=@if_false
abbrev rO:=@List.map_cons
abbrev rP:=@List.all_eq_true
abbrev rQ:=@List.mem_append
abbrev rR:=@Nat.le_of_ble_eq_true
abbrev rS:=@Nat.le_trans
abbrev rT:=@beq_iff_eq
abbrev rU:=@List.length_set
abbrev rV:=@List.mem_of_getElem?
abbrev rW:=@Sem.run_bind
abbrev rX:=@Prod.mk.injEq
abbrev rY:=@List.nodup_cons
abbrev rZ:=@Nat.mul_le_mul_right
abbrev sc:=@Array.getD_eq_getD_getElem?
abbrev se:=@List.getElem?_cons_zero
abbrev sg:=@Sem.run_pure
abbrev si:=@List.getElem?_take
abbrev sj:=@Array.all_eq_true_iff_forall_mem
abbrev sk:=@List.cons_append
abbrev sn:=@Int.le_trans
abbrev sq:=@List.nodup_append
abbrev sr:=@Bool.true_and
abbrev ss:=@List.getElem?_eq_none
abbrev sw:=@Nat.eq_of_beq_eq_true
abbrev sA:=@Nat.lt_of_lt_of_le
abbrev sB:=@Array.getElem?_eq_getElem
abbrev sC:=@List.getElem?_append_left
abbrev sD:=@Array.getElem?_push
abbrev sE:=@List.mem_append_left
abbrev sF:=@List.getElem?_set
abbrev sG:=@Array.getElem?_eq_some_iff
abbrev sH:=@List.drop_zero
abbrev sI:=@List.map_congr_left
abbrev sJ:=@List.getElem?_append
abbrev sK:=@List.getElem?_drop
abbrev sL:=@Nat.add_mul
abbrev sM:=@List.length_map
abbrev sN:=@Option.getD_some
abbrev sO:=@Option.bind_eq_some_iff
abbrev sP:=@List.getElem?_of_mem
abbrev sQ:=@Bool.false_and
abbrev sR:=@List.getElem?_cons_succ
abbrev sS:=@List.contains_eq_mem
abbrev sT:=@List.getElem?_append_right
abbrev sU:=@Nat.min_eq_left
abbrev sW:=@MapKept.run_getObj_map
abbrev sX:=@Bool.not_eq_true'
abbrev sY:=@Nat.zero_le
abbrev sZ:=@Nat.le_mul_of_pos_right
abbrev t7:=@List.map_append
abbrev t8:=@congrArg
abbrev t9:=@List.singleton_append
abbrev td:=@List.getElem_mem
abbrev tf:=@Int.natCast_nonneg
abbrev th:=@Nat.add_zero
abbrev ti:=@Bool.and_true
abbrev tj:=@List.all_cons
abbrev tq:=@Bool.and_self
abbrev tu:=@Int.add_zero
abbrev tv:=@Bool.and_false
abbrev tx:=@List.length_range
abbrev tz:=@List.dropLast_concat_getLast
abbrev tA:=@List.getElem?_range
abbrev tB:=@Array.length_toList
abbrev tC:=@MapKept.run_setObj_map
abbrev tD:=@Option.bind_some
abbrev tE:=@Option.isSome_none
abbrev tF:=@List.getD_eq_getElem?_getD
abbrev tG:=@List.getElem?_toArray
abbrev tH:=@List.mem_append_right
abbrev tI:=@List.drop_eq_getElem_cons
abbrev tJ:=@List.length_reverse
abbrev tK:=@List.drop_eq_nil_of_le
abbrev tL:=@Nat.add_sub_cancel
abbrev tM:=@List.foldl_cons
abbrev tN:=@Array.getElem?_setIfInBounds
abbrev tO:=@Bool.or_eq_true
abbrev tP:=@List.mem_zipIdx_iff_getElem?
abbrev tQ:=@List.mem_filter
abbrev tR:=@Nat.add_assoc
abbrev tS:=@Bool.false_or
abbrev tT:=@Array.mem_of_getElem?
abbrev tU:=@List.reverse_cons
abbrev tV:=@Array.ext'
abbrev tW:=@List.mem_of_mem_take
abbrev tX:=@Nat.add_comm
abbrev tY:=@Nat.sub_zero
abbrev tZ:=@Nat.sub_self
abbrev hH:=@List.getElem?_zip_eq_some
abbrev hJ:=@List.filter_eq_self
abbrev hU:=@List.getElem?_take_of_lt
abbrev A1:=@Nat.not_lt_zero
abbrev A2:=@decide_eq_false
theorem za {p:Prop}(h:p:=by omega):p:=h
theorem zb {p:Prop}(h:p:=by simp):p:=h
theorem zc {p:Prop}(h:p:=by decide):p:=h
theorem zd {p:Prop}(h:p:=by grind):p:=h
theorem zg {p:Prop}(h:p:=by kernel_rfl):p:=h
theorem zh {p:Prop}(h:p:=by intros;kernel_rfl):p:=h
theorem zi {p:Prop}(h:p:=by as_aux_lemma=>kernel_rfl):p:=h
theorem zj {p:Prop}(h:p:=by simp;omega):p:=h
theorem zm {p:Prop}(h:p:=by dsimp only;omega):p:=h
theorem zo {p q:Prop}(h:p)(e:p->q:=by intro h;simpa using h):q:=e h
inductive FV where
 |int (k:IntKind) (n:Int)
 |bool (b:Bool)
 |str (l:List UInt8)
 |cst (v:Value)
 |N
 |sl (nn:Bool) (n:Nat) (es:List (List FV))
 |z0 (nn:Bool)
 |pt (cs:List FV)
 |mp (es:List ((Bool×List FV)×(Bool×List FV)))
 deriving Inhabited
inductive AV where
 |fz (x:FV)
 |ep (o n i j:Nat)
 |osl (o n off len:Nat)
 |mp (o:Nat)
 |any
 |bld (t:TypeId) (o:Nat)
 |osb (o:Nat) (e:TypeId) (len:Nat)
 deriving Inhabited
inductive WV where
 |a (x:AV)
 |fn (f:Fn) (first captured:List (Bool×List AV))
 deriving Inhabited
inductive TV where
 |any
 |c (x:WV)
 |agg (cs:List WV)
 |tup (vs:List (Bool×List WV))
 deriving Inhabited
inductive AObj where
 |gone
 |arr (n:Nat) (es:List (List WV))
 |arz (n:Nat) (fs:List (List FV))
 |mapo (es:List ((Bool×List FV)×(Bool×List WV)))
 |mapz (es:List ((Bool×List FV)×(Bool×List FV)))
 deriving Inhabited
abbrev Env:=List<|Nat×TV
abbrev AHeap:=List<|Nat×AObj
def look:Env->Nat->TV
 |[],_=>.any
 |(j,v)::e,i=>if j=i then v else look e i
def hook:AHeap->Nat->AObj
 |[],_=>.gone
 |(j,v)::e,i=>if j=i then v else hook e i
def fvOf:Value->FV
 |.int k n=>.int k n
 |.bool b=>.bool b
 |.string s=>.str s.data.toList
 |.slice none 0 0=>.N
 |v=>.cst v
def cell (x:FV):WV:=.a<|.fz x
def fzs (l:List FV):List WV:=l.map cell
def thaw (e:(Bool×List FV)×(Bool×List FV)):(Bool×List FV)×(Bool×List WV):=(e.1,(e.2.1,fzs e.2.2))
def flat:AObj->AObj
 |.arz n fs=>.arr n<|fs.map fzs
 |.mapz es=>.mapo<|es.map thaw
 |x=>x
def unfz:List WV->Option (List FV)
 |[]=>some []
 |.a (.fz x)::r=>(unfz r).map λl=>x::l
 |_=>none
def iU:List (List WV)->Option (List<|List FV)
 |[]=>some []
 |e::r=>match unfz e,iU r with
  |some x,some l=>some<|x::l
  |_,_=>none
def tvOf:Value->TV
 |.agg cs=>if cs.all Value.oneCell' then .agg (cs.toList.map λv=>.a<|.fz<|fvOf v) else .any
 |.tuple _=>.any
 |.int k n=>.c<|.a<|.fz<|.int k n
 |.bool b=>.c<|.a<|.fz<|.bool b
 |.string s=>.c<|.a<|.fz<|.str s.data.toList
 |.slice none 0 0=>.c<|.a<|.fz .N
 |v=>.c<|.a<|.fz<|.cst v
def evF (e:Nat->TV):Operand->TV
 |.tmp t=>e t
 |.const v=>tvOf v
 |.global _=>.any
 |.func f=>.c<|.fn (.func f) [] []
def ev (e:Env):Operand->TV
 |.tmp t=>look e t
 |.const v=>tvOf v
 |.global _=>.any
 |.func f=>.c<|.fn (.func f) [] []
inductive TKind where
 |base
 |str
 |slice (e:TypeId)
 |arr (n:Nat) (e:TypeId)
 |struct (fs:List (Nat×Nat×TypeId))
 |ptr (e:TypeId)
 |map (k e:TypeId)
 |int (k:IntKind)
 |bool
 |func
structure TyD where
 agg:Bool
 size:Nat
 bytes:Nat
 zero:Option<|List FV
 kind:TKind
def xH (P:Program):TypeDesc->TKind
 |.string=>.str
 |.slice e=>.slice e
 |.array n e=>.arr n e
 |.struct fs=>if fs.toList.all (λf=>(P.info? f.type).isSome) then .struct (fs.toList.map λf=>(f.offset,P.cellsOf f.type,f.type)) else .base
 |.pointer e=>.ptr e
 |.map k e=>.map k e
 |.int k=>.int k
 |.bool=>.bool
 |.func _ _ _=>.func
 |_=>.base
def tyOf (P:Program)(t:TypeId):Option TyD:=
 match P.info? t,P.underlying t with
 |some i,some d=>some
  { agg:=match d with|.struct _|.array _ _=>true|_=>false
    size:=i.size
    bytes:=i.bytes
    zero:=match i.zero with
     |some z=>if z.cells.all Value.oneCell' then some (z.cells.toList.map fvOf) else none
     |none=>none
    kind:=xH P d}
 |_,_=>none
structure AR where
 val:TV
 upd:List<|Nat×AObj
 rd:List Nat
def uQ:TV->Option (List WV)
 |.c x=>some [x]
 |.agg cs=>some cs
 |_=>none
def X4 (d:TyD)(cs:List WV):Option TV:=
 if d.agg then(if d.size<=cs.length then some (.agg<|cs.take d.size) else none)
 else match cs with
  |x::_=>some<|.c x
  |[]=>none
def partA (agg:Bool)(size:Nat)(cs:List WV)(off:Nat):Option TV:=
 if agg then(if off+size<=cs.length then some (.agg<|(cs.drop off).take size) else none)
 else(cs[off]?).map .c
def splice (e:List WV)(j:Nat)(cs:List WV):List WV:=e.take j++cs++e.drop (j+cs.length)
def Xo (place:Nat->Option (Nat×Nat)):List WV->List (Nat×TV)->Option (List WV)
 |cs,[]=>some cs
 |cs,(i,v)::rest=>
  match place i,uQ v with
  |some (off,size),some us=>if us.length=size/\off+size<=cs.length then Xo place (splice cs off us) rest else none
  |_,_=>none
def ja (n:Nat):Nat->List WV->List (List WV)
 |0,_=> []
 |k+1,cs=>cs.take n::ja n k (cs.drop n)
def w5 (n:Nat)(h:Nat->AObj):TV->Option (List (List WV)×List Nat)
 |.c (.a (.fz .N))=>some ([],[])
 |.c (.a (.fz (.sl _ m es)))=>if m=n then some (es.map fzs,[]) else none
 |.c (.a (.fz (.z0 _)))=>some ([],[])
 |.c (.a (.osl o m off len))=>
  match h o with
  |.arr m' es=>if m=n/\m'=n/\off+len<=es.length then some ((es.drop off).take len,[o]) else none
  |_=>none
 |_=>none
def Xl:TV->Option (Nat×List Nat)
 |.c (.a (.fz .N))=>some (0,[])
 |.c (.a (.fz (.sl _ _ es)))=>some (es.length,[])
 |.c (.a (.fz (.z0 _)))=>some (0,[])
 |.c (.a (.osl _ _ _ len))=>some (len,[])
 |_=>none
def lenStr:TV->Option (Nat×List Nat)
 |.c (.a (.fz (.str l)))=>some (l.length,[])
 |_=>none
def i8 (h:Nat->AObj):TV->Option (Nat×List Nat)
 |.c (.a (.mp o))=>match h o with
  |.mapo es=>some (es.length,[o])
  |_=>none
 |_=>none
def iV (n:Int):TV:=.c<|.a<|.fz<|.int .i64 n
def bV (b:Bool):TV:=.c<|.a<|.fz<|.bool b
def gh (op:BinOp)(k:IntKind)(a b:Int):Option FV:=
 match op with
 |.add=>some<|.int k<|k.wrap<|a+b
 |.sub=>some<|.int k<|k.wrap<|a-b
 |.mul=>some<|.int k<|k.wrap<|a*b
 |.quo=>if b=0 then none else some<|.int k<|k.wrap<|a.tdiv b
 |.rem=>if b=0 then none else some<|.int k<|a.tmod b
 |.eql=>some<|.bool<|a==b
 |.neq=>some<|.bool<|a !=b
 |.lss=>some<|.bool<|a<b
 |.leq=>some<|.bool<|a<=b
 |.gtr=>some<|.bool<|a>b
 |.geq=>some<|.bool<|a>=b
 |_=>none
def ba (op:BinOp)(a b:List UInt8):Option FV:=
 match op with
 |.add=>if a.length+b.length<=1000000000000 then some (.str<|a++b) else none
 |.eql=>some<|.bool<|a==b
 |.neq=>some<|.bool (!(a==b))
 |_=>none
inductive EK where
 |int
 |bool
 |str
def ekOf (P:Program)(t:TypeId):Option EK:=
 match P.underlying t with
 |some (.int _)=>some .int
 |some .bool=>some .bool
 |some .string=>some .str
 |_=>none
def d8 (P:Program):Nat->List Field->Option (List EK)
 |_,[]=>some []
 |i,f::fs=>match ekOf P f.type,d8 P (i+1) fs with
  |some k,some l=>if f.offset=i/\f.name ≠ "_" then some (k::l) else none
  |_,_=>none
def jc (P:Program)(t:TypeId):Option (List EK):=
 match P.underlying t with
 |some (.struct fs)=>if P.stoodInHeld t=false/\P.eqGuardType P.depth t=false then d8 P 0 fs.toList else none
 |_=>none
def y9:List EK->List WV->List WV->Option Bool
 |[],[],[]=>some true
 |.int::ks,.a (.fz (.int k x))::l,.a (.fz (.int k' y))::r=>if k=k' then(y9 ks l r).map λb=>(x==y)&&b else none
 |.bool::ks,.a (.fz (.bool x))::l,.a (.fz (.bool y))::r=>(y9 ks l r).map λb=>(x==y)&&b
 |.str::ks,.a (.fz (.str x))::l,.a (.fz (.str y))::r=>(y9 ks l r).map λb=>(x==y)&&b
 |_,_,_=>none
def nilSl:WV->WV->Option Bool
 |.a (.fz .N),.a (.fz .N)=>some true
 |.a (.fz (.sl true _ _)),.a (.fz .N)=>some false
 |.a (.fz (.z0 true)),.a (.fz .N)=>some false
 |.a (.osl _ _ _ (_+1)),.a (.fz .N)=>some false
 |.a (.fz (.sl false _ (_::_))),.a (.fz .N)=>some false
 |_,_=>none
def Kv:WV->WV->Option Bool
 |.a (.ep _ _ _ _),.a (.fz (.cst (.pointer none)))=>some false
 |.a (.fz (.pt _)),.a (.fz (.cst (.pointer none)))=>some false
 |.a (.fz (.cst (.pointer none))),.a (.fz (.cst (.pointer none)))=>some true
 |_,_=>none
def eqC (P:Program)(t:TypeId)(x y:WV):Option Bool:=
 match tyOf P t with
 |some d=>match d.kind with
  |.bool=>match x,y with
   |.a (.fz (.bool p)),.a (.fz (.bool q))=>some<|p==q
   |_,_=>none
  |.slice _=>nilSl x y
  |.ptr _=>Kv x y
  |_=>none
 |none=>none
def eqA (P:Program)(t:TypeId)(x y:TV):Option Bool:=
 match x,y with
 |.agg xs,.agg ys=>match jc P t with
  |some ks=>y9 ks xs ys
  |none=>none
 |.c x,.c y=>eqC P t x y
 |_,_=>none
def eqOp (op:BinOp)(r:Option Bool):Option TV:=
 match op with
 |.eql=>r.map bV
 |.neq=>r.map λb=>bV (!b)
 |_=>none
def binA (P:Program)(t:TypeId)(op:BinOp)(x y:TV):Option TV:=
 match x,y with
 |.c (.a (.fz (.int k x))),.c (.a (.fz (.int k' y)))=>if k=k' then(gh op k x y).map λv=>.c (.a<|.fz v) else none
 |.c (.a (.fz (.str x))),.c (.a (.fz (.str y)))=>(ba op x y).map λv=>.c<|.a<|.fz v
 |x,y=>eqOp op<|eqA P t x y
def unA (op:UnOp):TV->Option TV
 |.c (.a (.fz (.int k x)))=>match op with|.neg=>some (.c<|.a<|.fz<|.int k<|k.wrap<|0-x)|_=>none
 |.c (.a (.fz (.bool x)))=>match op with|.not=>some (bV (!x))|_=>none
 |_=>none
def wv (x:Option TV)(dflt most:Nat):Option Nat:=
 match x with
 |none=>some dflt
 |some (.c (.a (.fz (.int _ i))))=>if 0<=i/\i<=most then some i.toNat else none
 |_=>none
def Zz (lo hi mx:Option TV)(len:Nat):Option (Nat×Nat):=
 match wv mx len len,wv hi len len with
 |some c,some b=>if b<=c/\(mx.isSome=true->hi.isSome=true) then(wv lo 0 b).map λa=>(a,b) else none
 |_,_=>none
def JD (x:TV)(lo hi mx:Option TV):Option TV:=
 match x,mx with
 |.c (.a (.fz (.str l))),none=>(Zz lo hi none l.length).map λp=>.c<|.a<|.fz<|.str<|(l.take p.2).drop p.1
 |_,_=>none
def uo:Option TV->Bool
 |some (.c (.a (.fz (.int _ n))))=>n==0
 |_=>false
def Z4 (sz:Nat)(x:TV)(lo hi mx:Option TV):Option TV:=
 match x with
 |.c (.a (.fz .N))=>(Zz lo hi mx 0).map λ_=>x
 |.c (.a (.fz (.sl nn n es)))=>if n=sz then(Zz lo hi mx es.length).map λp=>if uo mx=true then .c (.a<|.fz<|.z0 nn) else .c (.a<|.fz<|.sl nn n<|(es.take p.2).drop p.1) else none
 |.c (.a (.fz (.z0 _)))=>(Zz lo hi mx 0).map λ_=>x
 |.c (.a (.osl o n off len))=>if n=sz then(Zz lo hi mx len).map λp=>.c (.a<|.osl o n (off+p.1)<|p.2-p.1) else none
 |_=>none
def pickT (t:Bool):TV->TV->TV
 |.c (.a (.fz (.bool p))),.c (.a (.fz (.bool q)))=>bV (if t then p else q)
 |x,y=>if t then x else y
def zS (n bytes:Nat):Prop:=n*bytes<=140737488355328
instance (n bytes:Nat):Decidable (zS n bytes):=by unfold zS;exact inferInstance
def xm (d:TyD)(fr:Nat)(h:Nat->AObj)(s x:TV):Option AR:=
 match w5 d.size h x with
 |none=>none
 |some (new,rd)=>
  match s with
  |.c (.a (.fz .N))=>
   if new=[] then some ⟨s,[],rd⟩
   else if zS new.length d.bytes then some ⟨.c<|.a<|.osl fr d.size 0 new.length,[(fr,.arr d.size new)],rd⟩ else none
  |.c (.a (.fz (.z0 _)))=>
   if new=[] then some ⟨s,[],rd⟩
   else if zS new.length d.bytes then some ⟨.c<|.a<|.osl fr d.size 0 new.length,[(fr,.arr d.size new)],rd⟩ else none
  |.c (.a (.osl o n off len))=>
   match h o with
   |.arr m es=>
    if n=d.size/\m=d.size/\off=0/\len<=es.length/\zS (len+new.length) d.bytes/\ !(fr::rd).contains o then
     some ⟨.c<|.a<|.osl fr d.size 0<|len+new.length,[(o,.gone),(fr,.arr d.size<|es.take len++new)],o::rd⟩
    else none
   |_=>none
  |_=>none
def vQ:List TV->Option (IntKind×List Int)
 |[]=>none
 |[.c (.a (.fz (.int k n)))]=>some (k,[n])
 |.c (.a (.fz (.int k n)))::r=>(vQ r).bind λ(k',l)=>if k=k' then some (k,n::l) else none
 |_=>none
def zE (l:List Int):Int:=match l with|[]=>0|x::r=>r.foldl max x
def zO (l:List Int):Int:=match l with|[]=>0|x::r=>r.foldl min x
def aK:List WV->Option (List AV)
 |[]=>some []
 |.a x::r=>(aK r).map λl=>x::l
 |_=>none
def uY:List TV->Option (List<|Bool×List AV)
 |[]=>some []
 |.c (.a x)::r=>(uY r).map λl=>(false,[x])::l
 |.agg cs::r=>(aK cs).bind λxs=>(uY r).map λl=>(true,xs)::l
 |_=>none
def kQ (d:TyD)(x:TV)(f:Nat):Option TV:=
 match d.kind with
 |.struct fs=>match fs[f]? with
  |some fd=>if fd.2.1=0 then none else
   match x with
   |.c (.a (.ep o n i j))=>some<|.c<|.a<|.ep o n i<|j+fd.1
   |.c (.a (.fz (.pt cs)))=>some<|.c<|.a<|.fz<|.pt<|cs.drop fd.1
   |_=>none
  |none=>none
 |_=>none
def np (P:Program)(d:TyD)(x:TV)(f:Nat):Option TV:=
 match d.kind with
 |.struct fs=>match fs[f]? with
  |some fd=>match tyOf P fd.2.2,x with
   |some df,.agg cs=>partA df.agg df.size cs fd.1
   |_,_=>none
  |none=>none
 |_=>none
def W3 (de:TyD)(x:TV)(i:Int):Option TV:=
 match x with
 |.c (.a (.osl o n off len))=>if de.size=n/\0<=i/\i<len then some (.c<|.a<|.ep o n (off+i.toNat) 0) else none
 |.c (.a (.fz (.sl _ n es)))=>if de.size=n/\0<=i/\i<es.length then some (.c<|.a<|.fz<|.pt<|es.getD i.toNat []) else none
 |_=>none
def fk (de:TyD)(m:Nat)(x:TV)(i:Int):Option TV:=
 match x with
 |.c (.a (.ep o n k j))=>if 0<=i/\i<m then some (.c<|.a<|.ep o n k<|j+i.toNat*de.size) else none
 |_=>none
def xb (P:Program)(d:TyD)(x ix:TV):Option TV:=
 match ix with
 |.c (.a (.fz (.int _ i)))=>
  match d.kind with
  |.slice e=>match tyOf P e with|some de=>W3 de x i|none=>none
  |.arr m e=>match tyOf P e with|some de=>fk de m x i|none=>none
  |_=>none
 |_=>none
def Xz (P:Program)(d:TyD)(x ix:TV):Option TV:=
 match ix with
 |.c (.a (.fz (.int _ i)))=>
  match d.kind with
  |.str=>match x with
   |.c (.a (.fz (.str l)))=>if 0<=i/\i<l.length then some (.c<|.a<|.fz<|.int .u8 (l.getD i.toNat 0).toNat) else none
   |_=>none
  |.arr m e=>match tyOf P e,x with
   |some de,.agg cs=>if 0<=i/\i<m then partA de.agg de.size cs (i.toNat*de.size) else none
   |_,_=>none
  |_=>none
 |_=>none
def WK (x:TV)(i:Nat):Option TV:=
 match x with
 |.tup vs=>match vs[i]? with
  |some (true,cs)=>some<|.agg cs
  |some (false,[c])=>some<|.c c
  |_=>none
 |_=>none
def ZL (d:TyD)(x:TV):Option TV:=
 match d.kind with
 |.int k=>match x with|.c (.a (.fz (.int _ n)))=>some (.c<|.a<|.fz<|.int k<|k.wrap n)|_=>none
 |.str=>match x with|.c (.a (.fz (.str l)))=>some (.c<|.a<|.fz<|.str l)|_=>none
 |_=>none
def qF (x:TV):Option TV:=
 match x with
 |.c (.a (.ep _ _ _ _))=>some x
 |.c (.a (.fz (.pt _)))=>some x
 |.c (.fn (.func _) _ _)=>some x
 |_=>none
def pickV (c x y:TV):Option TV:=
 match c with
 |.c (.a (.fz (.bool t)))=>some<|pickT t x y
 |_=>none
def wP (P:Program)(d:TyD)(x:TV)(lo hi mx:Option TV):Option TV:=
 match d.kind with
 |.slice e=>match tyOf P e with
  |some de=>Z4 de.size x lo hi mx
  |none=>none
 |.str=>JD x lo hi mx
 |_=>none
def Yy (fn:Fn)(first captured:List TV):Option TV:=
 match uY first,uY captured with
 |some fs,some cs=>some<|.c<|.fn fn fs cs
 |_,_=>none
def XB (P:Program)(d:TyD)(parts:List<|Nat×TV):Option TV:=
 match d.zero,d.kind with
 |some z,.struct fs=>(Xo (λi=>(fs[i]?).map λf=>(f.1,f.2.1)) (fzs z) parts).map .agg
 |some z,.arr _ e=>match tyOf P e with
  |some de=>(Xo (λi=>some (i*de.size,de.size)) (fzs z) parts).map .agg
  |none=>none
 |_,_=>none
def wR (d:TyD)(h:Nat->AObj)(x:TV):Option (TV×List Nat):=
 match x with
 |.c (.a (.ep o n i j))=>
  match h o with
  |.arr m es=>if m=n then match es[i]? with
   |some e=>match X4 d (e.drop j) with|some v=>some (v,[o])|none=>none
   |none=>none
   else none
  |_=>none
 |.c (.a (.fz (.pt cs)))=>match X4 d (fzs cs) with|some v=>some (v,[])|none=>none
 |_=>none
def vY (d:TyD)(h:Nat->AObj)(x y:TV):Option AR:=
 match uQ y,x with
 |some cs,.c (.a (.ep o n i j))=>
  match h o with
  |.arr m es=>if m=n/\cs.length=d.size then match es[i]? with
   |some e=>if j+cs.length<=e.length then some ⟨.any,[(o,.arr n<|es.set i<|splice e j cs)],[o]⟩ else none
   |none=>none
   else none
  |_=>none
 |_,_=>none
def wh (de:TyD)(fr len:Nat)(parts:List<|Nat×TV):Option AR:=
 match de.zero with
 |some z=>
  if z.length=de.size/\0<de.size/\len*de.size<=16777216 then
   match Xo (λi=>some (i*de.size,de.size)) (List.replicate len<|fzs z).flatten parts with
   |some cs=>some ⟨.c<|.a (if len=0/\de.size=1 then .fz (.z0 true) else .osl fr de.size 0 len),[(fr,.arr de.size<|ja de.size len cs)],[]⟩
   |none=>none
  else none
 |none=>none
def lenP (d:TyD)(h:Nat->AObj)(x:TV):Option (Nat×List Nat):=
 match d.kind with
 |.slice _=>Xl x
 |.str=>lenStr x
 |.map _ _=>i8 h x
 |.arr n _=>some (n,[])
 |_=>none
def jg (de:TyD)(fr:Nat)(h:Nat->AObj)(s x:TV):Option AR:=
 if 0<de.size/\0<de.bytes/\de.bytes<=4096/\(de.zero.map List.length)=some de.size then xm de fr h s x else none
def minA (max:Bool)(l:List TV):Option TV:=
 match vQ l with
 |some r=>some<|.c<|.a<|.fz<|.int r.1 (if max then zE r.2 else zO r.2)
 |none=>none
def valR (v:Option TV):Option AR:=v.map λv=>⟨v,[],[]⟩
def yr (P:Program)(t:TypeId){α:Type}(f:TyD->Option α):Option α:=
 match tyOf P t with
 |some d=>f d
 |none=>none
def yk (P:Program)(t:TypeId){α:Type}(f:TyD->Option α):Option α:=
 match tyOf P t with
 |some d=>match d.kind with
  |.slice e=>match tyOf P e with
   |some de=>f de
   |none=>none
  |_=>none
 |none=>none
def Za (P:Program)(t':TypeId)(de:TyD)(fr:Nat)(s x:TV):Option AR:=
 match P.underlying t',s,x with
 |some (.int _),.c (.a (.fz .N)),.c (.a (.fz (.int _ n)))=>
  if 0<n/\0<de.size/\zS n.toNat de.bytes/\0<de.bytes/\(de.zero.map List.length)=some de.size then some ⟨.c<|.a<|.osl fr de.size 0 n.toNat,[(fr,.arr de.size [])],[]⟩ else none
 |_,_,_=>none
def capP (d:TyD)(x:TV):Option TV:=
 match d.kind,x with
 |.slice _,.c (.a (.fz .N))=>some<|iV 0
 |.slice _,.c (.a (.fz (.z0 _)))=>some<|iV 0
 |_,_=>none
def xL (P:Program)(b:Builtin)(ts:List TypeId)(fr:Nat)(h:Nat->AObj)(args:List TV):Option AR:=
 match b,ts,args with
 |.len,[t],[x]=>yr P t λd=>(lenP d h x).map λr=>⟨iV r.1,[],r.2⟩
 |.append,[t,t'],[s,x]=>if t=t' then yk P t λde=>jg de fr h s x else yk P t λde=>Za P t' de fr s x
 |.cap,[t],[x]=>valR<|yr P t λd=>capP d x
 |.min,_,l=>valR<|minA false l
 |.max,_,l=>valR<|minA true l
 |_,_,_=>none
def gO:TV->Option (Bool×List WV)
 |.c x=>some (false,[x])
 |.agg cs=>some (true,cs)
 |_=>none
def kM (P:Program)(t:TypeId):Option (Bool×List EK):=
 match P.underlying t with
 |some (.struct _)=>(jc P t).map λl=>(true,l)
 |_=>(ekOf P t).map λk=>(false,[k])
def keyT (ag:Bool):TV->Option (List FV)
 |.c (.a (.fz f))=>if ag then none else some [f]
 |.agg cs=>if ag then unfz cs else none
 |_=>none
abbrev MapE:=(Bool×List FV)×(Bool×List WV)
def vj (m:Bool×List EK)(key:List FV):List MapE->Nat->Option (Option Nat)
 |[],_=>some none
 |e::es,i=>if e.1.1=m.1 then(y9 m.2 (fzs key)<|fzs e.1.2).bind λb=>if b then some (some i) else vj m key es (i+1) else none
def rowTV:Bool×List WV->Option TV
 |(true,cs)=>some<|.agg cs
 |(false,[x])=>some<|.c x
 |_=>none
def WT (P:Program)(e:TypeId):Option (Bool×List WV):=
 match P.info? e with
 |some i=>match i.zero with
  |some (.agg cs)=>if cs.all Value.oneCell' then some (true,fzs<|cs.toList.map fvOf) else none
  |some v=>if v.oneCell' then some (false,[cell<|fvOf v]) else none
  |none=>none
 |none=>none
def jR:List EK->List FV->Bool
 |[],[]=>true
 |.int::ks,.int _ _::l=>jR ks l
 |.bool::ks,.bool _::l=>jR ks l
 |.str::ks,.str _::l=>jR ks l
 |_,_=>false
def J3 (P:Program)(t:TypeId):Option ((Bool×List EK)×(Bool×List WV)):=
 match tyOf P t with
 |some d=>match d.kind with
  |.map k e=>match kM P k,WT P e with
   |some ks,some z=>some (ks,z)
   |_,_=>none
  |_=>none
 |none=>none
def Ks (ok:Bool)(v:Bool×List WV)(b:Bool):Option TV:=if ok then some (.tup [v,(false,[cell<|.bool b])]) else rowTV v
def keyA (m:(Bool×List EK)×(Bool×List WV))(key:TV):Option (List FV):=
 match keyT m.1.1 key with
 |some k=>if jR m.1.2 k=true then some k else none
 |none=>none
def kV (h:Nat->AObj):TV->Option (Nat×List MapE)
 |.c (.a (.mp o))=>match h o with
  |.mapo es=>some (o,es)
  |_=>none
 |_=>none
def mK (m:(Bool×List EK)×(Bool×List WV))(es:List MapE)(r:Option Nat)(ok:Bool):Option TV:=
 match r with
 |some i=>match es[i]? with
  |some e=>Ks ok e.2 true
  |none=>none
 |none=>Ks ok m.2 false
def mapL (h:Nat->AObj):TV->Option (List Nat×List MapE)
 |.c (.a (.fz (.mp es)))=>some ([],es.map thaw)
 |x=>(kV h x).map λp=>([p.1],p.2)
def vw (m:(Bool×List EK)×(Bool×List WV))(h:Nat->AObj)(x key:TV)(ok:Bool):Option AR:=
 match keyA m key with
 |some k=>match mapL h x with
  |some oe=>match vj m.1 k oe.2 0 with
   |some r=>(mK m oe.2 r ok).map λv=>⟨v,[],oe.1⟩
   |none=>none
  |none=>none
 |none=>none
def entE (m:(Bool×List EK)×(Bool×List WV))(o:Nat)(k:List FV)(es:List MapE)(r:Option Nat):Option AR:=
 match r with
 |some i=>match es[i]? with
  |some e=>some ⟨.tup [e.2,(false,[cell<|.int .i64 i])],[(o,.mapo<|es.set i ((m.1.1,k),e.2))],[o]⟩
  |none=>none
 |none=>some ⟨.tup [m.2,(false,[cell<|.int .i64 es.length])],[(o,.mapo<|es++[((m.1.1,k),m.2)])],[o]⟩
def wA (m:(Bool×List EK)×(Bool×List WV))(h:Nat->AObj)(x key:TV):Option AR:=
 match keyA m key with
 |some k=>match kV h x with
  |some oe=>match vj m.1 k oe.2 0 with
   |some r=>entE m oe.1 k oe.2 r
   |none=>none
  |none=>none
 |none=>none
def wf (h:Nat->AObj)(x stamp v:TV):Option AR:=
 match kV h x,stamp,gO v with
 |some oe,.c (.a (.fz (.int _ n))),some r=>match oe.2[n.toNat]? with
  |some e=>if 0<=n then some ⟨.any,[(oe.1,.mapo<|oe.2.set n.toNat (e.1,r))],[oe.1]⟩ else none
  |none=>none
 |_,_,_=>none
def updE (m:(Bool×List EK)×(Bool×List WV))(k:List FV)(r:Bool×List WV)(es:List MapE)(q:Option Nat):List MapE:=
 match q with
 |some i=>es.set i ((m.1.1,k),r)
 |none=>es++[((m.1.1,k),r)]
def yG (m:(Bool×List EK)×(Bool×List WV))(h:Nat->AObj)(x key v:TV):Option AR:=
 match keyA m key,gO v with
 |some k,some r=>match kV h x with
  |some oe=>match vj m.1 k oe.2 0 with
   |some q=>some ⟨.any,[(oe.1,.mapo<|updE m k r oe.2 q)],[oe.1]⟩
   |none=>none
  |none=>none
 |_,_=>none
abbrev MapZ:=(Bool×List FV)×(Bool×List FV)
def gH (m:(Bool×List EK)×(Bool×List WV))(k:List FV)(es:List MapZ):Option (Option<|List FV):=
 match vj m.1 k (es.map thaw) 0 with
 |some (some i)=>match es[i]? with
  |some e=>if e.2.1=m.2.1 then some (some e.2.2) else none
  |none=>none
 |some none=>some none
 |none=>none
def vE (h:Nat->AObj):TV->Option (Nat×List MapZ)
 |.c (.a (.mp o))=>match h o with
  |.mapz es=>some (o,es)
  |_=>none
 |_=>none
def qI (h:Nat->AObj):TV->Option (List Nat×List MapZ)
 |.c (.a (.fz (.mp es)))=>some ([],es)
 |x=>(vE h x).map λp=>([p.1],p.2)
def wo (m:(Bool×List EK)×(Bool×List WV))(h:Nat->AObj)(x key:TV)(ok:Bool):Option AR:=
 match qI h x with
 |some oe=>match keyA m key with
  |some k=>match gH m k oe.2 with
   |some (some l)=>(Ks ok (m.2.1,fzs l) true).map λv=>⟨v,[],oe.1⟩
   |some none=>(Ks ok m.2 false).map λv=>⟨v,[],oe.1⟩
   |none=>none
  |none=>none
 |none=>vw m (λo=>flat<|h o) x key ok
def updZ (m:(Bool×List EK)×(Bool×List WV))(k:List FV)(r:Bool×List FV)(es:List MapZ):Option (List MapZ):=
 match vj m.1 k (es.map thaw) 0 with
 |some (some i)=>some<|es.set i ((m.1.1,k),r)
 |some none=>some<|es++[((m.1.1,k),r)]
 |none=>none
def yS (m:(Bool×List EK)×(Bool×List WV))(h:Nat->AObj)(x key v:TV):Option AR:=
 match vE h x with
 |some oe=>match keyA m key,gO v with
  |some k,some r=>match unfz r.2 with
   |some fr=>(updZ m k (r.1,fr) oe.2).map λes=>⟨.any,[(oe.1,.mapz es)],[oe.1]⟩
   |none=>none
  |_,_=>none
 |none=>yG m (λo=>flat<|h o) x key v
def xh (P:Program)(t:TypeId)(f:(Bool×List EK)×(Bool×List WV)->Option AR):Option AR:=
 match J3 P t with
 |some m=>f m
 |none=>none
def wV (de:TyD)(_:Nat)(x y:TV):Option (Nat×List FV):=
 match x,y,de.zero with
 |.c (.a (.fz (.int _ n))),.c (.a (.fz (.int _ m))),some z=>if n=m/\0<=n/\z.length=de.size/\0<de.size/\0<de.bytes/\zS n.toNat de.bytes then some (n.toNat,z) else none
 |_,_,_=>none
def byteW:List WV->Option UInt8
 |[.a (.fz (.int .u8 n))]=>some<|UInt8.ofNat n.toNat
 |_=>none
def JJ:List (List WV)->Option (List UInt8)
 |[]=>some []
 |e::r=>match byteW e,JJ r with
  |some b,some l=>some<|b::l
  |_,_=>none
def JE (P:Program)(src:TypeId):Bool:=
 match yk P src λde=>some de.kind with
 |some (.int .u8)=>true
 |_=>false
def textA (P:Program)(dst:TypeId)(h:Nat->AObj)(x:TV):Option AR:=
 yr P dst λd=>match d.kind with
  |.str=>match w5 1 h x with
   |some (es,rd)=>(JJ es).map λl=>⟨.c<|.a<|.fz<|.str l,[],rd⟩
   |none=>none
  |_=>none
def isBld (P:Program)(t:TypeId)(d:TyD):Bool:=
 match d.kind with
 |.struct [(0,1,tp),(1,1,_)]=>match P.underlying tp with
  |some (.pointer e)=>e==t&&d.size==2
  |_=>false
 |_=>false
def bldZ (P:Program)(t:TypeId)(d:TyD)(fr:Nat)(z:List FV):List WV:=
 match isBld P t d,z with
 |true,[.cst (.pointer none),.N]=> [.a<|.bld t fr,.a<|.fz .N]
 |_,_=>fzs z
def aop (P:Program)(o:Oper)(fr:Nat)(ρ:Operand->TV)(h:Nat->AObj):Option AR:=
 match o.op with
 |.move x=>some ⟨ρ x,[],[]⟩
 |.assign x=>some ⟨ρ x,[],[]⟩
 |.pick c x y=>valR<|pickV (ρ c) (ρ x)<|ρ y
 |.alloc e=>yr P e λd=>d.zero.map λz=>⟨.c<|.a<|.ep fr z.length 0 0,[(fr,.arr z.length [bldZ P e d fr z])],[]⟩
 |.box _ x=>(uQ<|ρ x).map λcs=>⟨.c<|.a<|.ep fr cs.length 0 0,[(fr,.arr cs.length [cs])],[]⟩
 |.build t parts=>valR<|yr P t λd=>XB P d<|parts.toList.map λp=>(p.1,ρ p.2)
 |.buildSlice t len parts=>yk P t λde=>wh de fr len<|parts.toList.map λp=>(p.1,ρ p.2)
 |.load t x=>yr P t λd=>(wR d h<|ρ x).map λr=>⟨r.1,[],r.2⟩
 |.store t x y=>yr P t λd=>vY d h (ρ x)<|ρ y
 |.nilCheck x=>valR<|qF<|ρ x
 |.binOp op t x y _=>valR<|binA P t op (ρ x)<|ρ y
 |.unOp op _ x=>valR<|unA op<|ρ x
 |.convert src dst x=>match JE P src with
  |true=>textA P dst h<|ρ x
  |false=>valR (if (P.underlying src).isSome then yr P dst λd=>ZL d (ρ x) else none)
 |.slice t x lo hi mx=>valR<|yr P t λd=>wP P d (ρ x) (lo.map ρ) (hi.map ρ)<|mx.map ρ
 |.fieldAddr s x f=>valR<|yr P s λd=>kQ d (ρ x) f
 |.field s x f=>valR<|yr P s λd=>np P d (ρ x) f
 |.indexAddr t x ix=>valR<|yr P t λd=>xb P d (ρ x)<|ρ ix
 |.index t x ix=>valR<|yr P t λd=>Xz P d (ρ x)<|ρ ix
 |.makeFunc fn first captured=>valR<|Yy fn (first.toList.map ρ)<|captured.toList.map ρ
 |.extract x i=>valR<|WK (ρ x) i
 |.call ⟨.builtin b,args,ts⟩=>xL P b ts.toList fr h<|args.toList.map ρ
 |.lookup t x ix ok=>xh P t λm=>vw m h (ρ x) (ρ ix) ok
 |.mapEntry t x k=>xh P t λm=>wA m h (ρ x)<|ρ k
 |.entryStore _ x s v=>wf h (ρ x) (ρ s)<|ρ v
 |.mapUpdate t x k v=>xh P t λm=>yG m h (ρ x) (ρ k)<|ρ v
 |.makeMap _ none=>some ⟨.c<|.a<|.mp fr,[(fr,.mapo [])],[]⟩
 |.makeSlice t l c=>yk P t λde=>(wV de fr (ρ l)<|ρ c).map λr=>⟨.c<|.a<|.osl fr de.size 0 r.1,[(fr,.arr de.size<|List.replicate r.1<|fzs r.2)],[]⟩
 |_=>none
def YG (e:List FV)(j:Nat)(cs:List FV):List FV:=e.take j++cs++e.drop (j+cs.length)
def uD (d:TyD)(h:Nat->AObj)(x y:TV):Option AR:=
 match uQ y,x with
 |some cs,.c (.a (.ep o n i j))=>
  match h o with
  |.arz m fs=>match unfz cs with
   |some fcs=>if m=n/\fcs.length=d.size then match fs[i]? with
    |some e=>if j+fcs.length<=e.length then some ⟨.any,[(o,.arz n<|fs.set i<|YG e j fcs)],[o]⟩ else none
    |none=>none
    else none
   |none=>none
  |_=>vY d h x y
 |_,_=>none
def uM (n:Nat)(h:Nat->AObj):TV->Option (List (List FV)×List Nat)
 |.c (.a (.fz .N))=>some ([],[])
 |.c (.a (.fz (.sl _ m es)))=>if m=n then some (es,[]) else none
 |.c (.a (.fz (.z0 _)))=>some ([],[])
 |.c (.a (.osl o m off len))=>
  match h o with
  |.arz m' es=>if m=n/\m'=n/\off+len<=es.length then some ((es.drop off).take len,[o]) else none
  |_=>none
 |_=>none
def wg (d:TyD)(fr:Nat)(h:Nat->AObj)(s x:TV):Option AR:=
 match uM d.size h x with
 |some (new,rd)=>
  match s with
  |.c (.a (.fz .N))=>
   if new=[] then some ⟨s,[],rd⟩
   else if zS new.length d.bytes then some ⟨.c<|.a<|.osl fr d.size 0 new.length,[(fr,.arz d.size new)],rd⟩ else none
  |.c (.a (.fz (.z0 _)))=>
   if new=[] then some ⟨s,[],rd⟩
   else if zS new.length d.bytes then some ⟨.c<|.a<|.osl fr d.size 0 new.length,[(fr,.arz d.size new)],rd⟩ else none
  |.c (.a (.osl o n off len))=>
   match h o with
   |.arz m fs=>
    if n=d.size/\m=d.size/\off=0/\len<=fs.length/\zS (len+new.length) d.bytes/\ !(fr::rd).contains o then
     some ⟨.c<|.a<|.osl fr d.size 0<|len+new.length,[(o,.gone),(fr,.arz d.size<|fs.take len++new)],o::rd⟩
    else none
   |_=>xm d fr (λo=>flat<|h o) s x
  |_=>none
 |none=>xm d fr (λo=>flat<|h o) s x
def ZI (de:TyD)(fr:Nat)(h:Nat->AObj)(s x:TV):Option AR:=
 if 0<de.size/\0<de.bytes/\de.bytes<=4096/\(de.zero.map List.length)=some de.size then wg de fr h s x else none
def xa (r:AR):AR:=
 match r.upd with
 |[(o,.arr n es)]=>match iU es with
  |some fs=>⟨r.val,[(o,.arz n fs)],r.rd⟩
  |none=>r
 |_=>r
def xA (P:Program)(b:Builtin)(ts:List TypeId)(fr:Nat)(h:Nat->AObj)(args:List TV):Option AR:=
 match b,ts,args with
 |.append,[t,t'],[s,x]=>if t=t' then yk P t λde=>ZI de fr h s x else yk P t λde=>(Za P t' de fr s x).map xa
 |b,ts,args=>xL P b ts fr (λo=>flat<|h o) args
def qm (h:Nat->AObj):WV->WV×AHeap
 |.a (.osl o n off len)=>
  match h o with
  |.arz m fs=>if n=m/\off+len<=fs.length then(.a<|.fz<|.sl false n<|(fs.drop off).take len,[(o,.gone)]) else(.a<|.osl o n off len,[])
  |_=>(.a<|.osl o n off len,[])
 |x=>(x,[])
def vd (h:Nat->AObj):List WV->List WV×AHeap
 |[]=>([],[])
 |x::r=>((qm h x).1::(vd h r).1,(qm h x).2++(vd h r).2)
def Zy (h:Nat->AObj):TV->TV×AHeap
 |.c x=>(.c (qm h x).1,(qm h x).2)
 |.agg cs=>(.agg (vd h cs).1,(vd h cs).2)
 |x=>(x,[])
def vo (h:Nat->AObj):List (Nat×TV)->List (Nat×TV)×AHeap
 |[]=>([],[])
 |(i,x)::r=>((i,(Zy h x).1)::(vo h r).1,(Zy h x).2++(vo h r).2)
def oslW:WV->List Nat
 |.a (.osl o _ _ _)=> [o]
 |_=> []
def oslT:TV->List Nat
 |.c x=>oslW x
 |.agg cs=>cs.flatMap oslW
 |_=> []
def oslP (l:List<|Nat×TV):List Nat:=l.flatMap λp=>oslT p.2
def aopF (P:Program)(o:Oper)(fr:Nat)(ρ:Operand->TV)(h:Nat->AObj):Option AR:=
 match o.op with
 |.store t x y=>yr P t λd=>uD d h (ρ x)<|ρ y
 |.call ⟨.builtin b,args,ts⟩=>xA P b ts.toList fr h<|args.toList.map ρ
 |.buildSlice t len parts=>
  (yk P t λde=>wh de fr len (vo h<|parts.toList.map λp=>(p.1,ρ p.2)).1).map λr=>⟨(xa r).val,(xa r).upd++(vo h<|parts.toList.map λp=>(p.1,ρ p.2)).2,oslP<|parts.toList.map λp=>(p.1,ρ p.2)⟩
 |.build t parts=>
  (yr P t λd=>XB P d (vo h<|parts.toList.map λp=>(p.1,ρ p.2)).1).map λv=>⟨v,(vo h<|parts.toList.map λp=>(p.1,ρ p.2)).2,oslP<|parts.toList.map λp=>(p.1,ρ p.2)⟩
 |.makeSlice t l c=>yk P t λde=>(wV de fr (ρ l)<|ρ c).map λr=>⟨.c<|.a<|.osl fr de.size 0 r.1,[(fr,.arz de.size<|List.replicate r.1 r.2)],[]⟩
 |.lookup t x ix ok=>xh P t λm=>wo m h (ρ x) (ρ ix) ok
 |.mapUpdate t x k v=>xh P t λm=>yS m h (ρ x) (ρ k)<|ρ v
 |.makeMap _ none=>some ⟨.c<|.a<|.mp fr,[(fr,.mapz [])],[]⟩
 |_=>aop P o fr ρ λo=>flat<|h o
def ZQ (P:Program):List (Nat×Nat×TypeId)->List (Nat×Nat)
 |[]=> []
 |f::fs=>match tyOf P f.2.2 with
  |some d=>match d.kind with
   |.slice e=>match tyOf P e with
    |some de=>(f.1,de.size)::ZQ P fs
    |none=>ZQ P fs
   |_=>ZQ P fs
  |none=>ZQ P fs
def ZU:List (Nat×Nat)->Nat->List WV->List WV
 |[],_,cs=>cs
 |(j,n)::l,fr,cs=>match cs.getD j (cell<|.bool true) with
  |.a (.fz .N)=>ZU l (fr+1)<|cs.set j<|.a<|.osl fr n 0 0
  |_=>ZU l (fr+1) cs
def fH:List (Nat×Nat)->Nat->AHeap
 |[],_=> []
 |(_,n)::l,fr=>(fr,.arz n [])::fH l (fr+1)
def yK (l:List<|Nat×Nat)(fr:Nat)(r:AR):AR:=
 match r.upd,Nat.ble l.length 30 with
 |[(o,.arr m [cs])],true=>⟨r.val,(o,.arr m [ZU l (fr+1) cs])::fH l (fr+1),r.rd⟩
 |_,_=>r
def jW (fr:Nat)(h:Nat->AObj)(x y:TV)(r:AR):AR:=
 match x,y,r.upd with
 |.c (.a (.ep o _ i j)),.c _,[(o',.arr m es)]=>match r.rd.contains o with
  |true=>match h o with
   |.arr _ old=>match (old.getD i []).getD j (cell .N) with
    |.a (.osl _ k _ _)=>match (es.getD i []).getD j (cell<|.bool true) with
     |.a (.fz .N)=>⟨r.val,[(o',.arr m<|es.set i<|(es.getD i []).set j<|.a<|.osl (fr+1) k 0 0),(fr+1,.arz k [])],r.rd⟩
     |_=>r
    |_=>r
   |_=>r
  |false=>r
 |_,_,_=>r
def pE (P:Program)(e:TypeId)(fr:Nat)(r:AR):AR:=
 match tyOf P e with
  |some d=>match d.kind with
   |.struct fs=>match ZQ P fs with
    |[(0,6),(1,1)]=>match fs with
     |[_,_,_]=>r
     |_=>yK [(0,6),(1,1)] fr r
    |[(0,1)]=>match fs with
     |[_,(1,2,_)]=>r
     |_=>yK [(0,1)] fr r
    |(0,n)::l=>yK ((0,n)::l) fr r
    |[(1,8)]=>yK [(1,8)] fr r
    |[(1,6),_,_,(k,10)]=>yK [(k,10)] fr r
    |_=>r
   |.slice e=>match tyOf P e with
    |some de=>match de.size with
     |9=>yK [(0,9)] fr r
     |_=>r
    |none=>r
   |_=>r
  |none=>r
def Ze (P:Program)(o:Oper)(fr:Nat)(ρ:Operand->TV)(h:Nat->AObj)(r:AR):AR:=
 match o.op with
 |.alloc e=>pE P e fr r
 |.box e _=>pE P e fr r
 |.store _ x y=>jW fr h (ρ x) (ρ y) r
 |_=>r
def aopS (P:Program)(o:Oper)(fr:Nat)(ρ:Operand->TV)(h:Nat->AObj):Option AR:=(aopF P o fr ρ h).map<|Ze P o fr ρ h
def shut (ag:Bool)(us:List Value):Value:=if ag then .agg us.toArray else us.getD 0 undef
inductive FRep (w:World)(X:Nat->Prop):FV->Value->Prop
 |int (k:IntKind) (n:Int):FRep w X (.int k n) (.int k n)
 |bool (b:Bool):FRep w X (.bool b) (.bool b)
 |str (l:List UInt8):FRep w X (.str l) (.string ⟨l.toArray⟩)
 |cst (v:Value):v.oneCell'=true->FRep w X (.cst v) v
 |N:FRep w X .N (.slice none 0 0)
 |slnil (n:Nat):FRep w X (.sl false n []) (.slice none 0 0)
 |sl0 (nn:Bool) (n:Nat) (a:Addr):FRep w X (.sl nn n []) (.slice (some a) 0 0)
 |z0 (nn:Bool) (a:Addr):FRep w X (.z0 nn) (.slice (some a) 0 0)
 |z0n:FRep w X (.z0 false) (.slice none 0 0)
 |sl (nn:Bool) (n:Nat) (es:List (List FV)) (b off cap len:Nat) (u:Nat->Nat->Value):
   len=es.length->es.length<=cap->¬X b->b<w.heap.size->(∀(i:Nat) (e:List FV),es[i]?=some e->e.length=n)->
   (∀(i j:Nat) (e:List FV) (f:FV),es[i]?=some e->e[j]?=some f->w.cell? ⟨b,off+i*n+j,none⟩=some (u i j))->
   (∀(i j:Nat) (e:List FV) (f:FV),es[i]?=some e->e[j]?=some f->FRep w X f (u i j))->
   FRep w X (.sl nn n es) (.slice (some ⟨b,off,none⟩) len cap)
 |pt (cs:List FV) (b off:Nat) (u:Nat->Value):¬X b->b<w.heap.size->
   (∀(j:Nat) (f:FV),cs[j]?=some f->w.cell? ⟨b,off+j,none⟩=some (u j))->(∀(j:Nat) (f:FV),cs[j]?=some f->FRep w X f (u j))->
   FRep w X (.pt cs) (.pointer<|some ⟨b,off,none⟩)
 |mp (es:List MapZ) (b:Nat) (ms:List MapEntry) (ku vu:Nat->List Value):¬X b->b<w.heap.size->w.heap[b]?=some (.map ms.toArray ms.length)->ms.length=es.length->
   (∀(i:Nat) (m:MapEntry),ms[i]?=some m->m.born=i)->
   (∀(i:Nat) (e:MapZ) (m:MapEntry),es[i]?=some e->ms[i]?=some m->(m.key=shut e.1.1 (ku i)/\e.1.2.length=(ku i).length/\(e.1.1=false->e.1.2.length=1))/\m.val=shut e.2.1 (vu i)/\e.2.2.length=(vu i).length/\(e.2.1=false->e.2.2.length=1))->
   (∀(i j:Nat) (e:MapZ) (f:FV) (u:Value),es[i]?=some e->e.1.2[j]?=some f->(ku i)[j]?=some u->FRep w X f u)->
   (∀(i j:Nat) (e:MapZ) (f:FV) (u:Value),es[i]?=some e->e.2.2[j]?=some f->(vu i)[j]?=some u->FRep w X f u)->
   FRep w X (.mp es) (.map<|some b)
inductive ARep (w:World)(X:Nat->Prop)(β:Nat->Option Nat):AV->Value->Prop
 |fz (x:FV) (v:Value):FRep w X x v->ARep w X β (.fz x) v
 |ep (o n i j b:Nat):β o=some b->ARep w X β (.ep o n i j) (.pointer (some ⟨b,i*n+j,none⟩))
 |osl (o n off len b q cap sz:Nat) (t:TypeId):β o=some b->w.shape? b=some (t,sz)->len<=cap->(off+cap)*n<=sz->(q=off*n\/cap=0)->
   ARep w X β (.osl o n off len) (.slice (some ⟨b,q,none⟩) len cap)
 |oslN (o n off:Nat):ARep w X β (.osl o n off 0) (.slice none 0 0)
 |mp (o b:Nat):β o=some b->ARep w X β (.mp o) (.map (some b))
 |any (v:Value):v.oneCell'=true->ARep w X β .any v
 |bld (t:TypeId) (o b:Nat) (v:Value):β o=some b->w.shape? b=some (t,2)->v=.pointer none\/v=.pointer (some ⟨b,0,none⟩)->ARep w X β (.bld t o) v
 |osb (o:Nat) (e:TypeId) (len b cap:Nat):β o=some b->w.shape? b=some (e,cap)->len<=cap->cap<=maxLen->ARep w X β (.osb o e len) (.slice (some ⟨b,0,none⟩) len cap)
def LRep {α:Type}(R:α->Value->Prop)(cs:List α)(us:List Value):Prop:=cs.length=us.length/\∀(j:Nat) (c:α) (u:Value),cs[j]?=some c->us[j]?=some u->R c u
def PRep {α:Type}(R:α->Value->Prop)(p:Bool×List α)(v:Value):Prop:=∃us,v=shut p.1 us/\LRep R p.2 us/\(p.1=false->p.2.length=1)
inductive WRep (w:World)(X:Nat->Prop)(β:Nat->Option Nat):WV->Value->Prop
 |a (x:AV) (v:Value):ARep w X β x v->WRep w X β (.a x) v
 |fn (f:Fn) (first captured:List (Bool×List AV)) (us vs:List Value):LRep (PRep (ARep w X β)) first us->LRep (PRep (ARep w X β)) captured vs->
   WRep w X β (.fn f first captured) (.func f us.toArray vs.toArray)
def TRep (w:World)(X:Nat->Prop)(β:Nat->Option Nat):TV->Value->Prop
 |.any,_=>True
 |.c x,v=>WRep w X β x v
 |.agg cs,v=> ∃us,v=.agg us.toArray/\LRep (WRep w X β) cs us
 |.tup vs,v=> ∃us,v=.tuple us.toArray/\LRep (PRep<|WRep w X β) vs us
def ORep (w:World)(X:Nat->Prop)(β:Nat->Option Nat)(o:AObj)(b:Nat):Prop:=
 match flat o with
 |.gone=>True
 |.arz _ _=>True
 |.mapz _=>True
 |.arr n es=> ∃(us:List Value) (t:TypeId),w.heap[b]?=some (.cells us.toArray t (0,0))/\es.length*n<=us.length/\(∀e∈es,e.length=n)/\
   ∀(i j:Nat) (e:List WV) (c:WV),es[i]?=some e->e[j]?=some c->∃u,us[i*n+j]?=some u/\WRep w X β c u
 |.mapo es=> ∃(ms:List MapEntry) (clock:Nat),w.heap[b]?=some (.map ms.toArray clock)/\ms.length=es.length/\
   (∀(i:Nat) (e:(Bool×List FV)×(Bool×List WV)) (m:MapEntry),es[i]?=some e->ms[i]?=some m->PRep (FRep w X) e.1 m.key/\PRep (WRep w X β) e.2 m.val)/\
   clock=ms.length/\(∀(i:Nat) (m:MapEntry),ms[i]?=some m->m.born=i)
structure Good (w0:World)(foot:Nat->Prop)(w:World):Prop where
 size:w0.heap.size<=w.heap.size
 blk:∀b,b<w0.heap.size->¬foot b->w.heap[b]?=w0.heap[b]?
 shp:∀b,b<w0.heap.size->w.shape? b=w0.shape? b
 os:w.os=w0.os
 tape:w.tape=w0.tape
 output:w.output=w0.output
def isLive:AObj->Prop
 |.gone=>False
 |_=>True
def bareO (x:AObj):Prop:=∃n,flat x=.arr n []
def Own (h:Nat->AObj)(β:Nat->Option Nat)(b:Nat):Prop:=∃o,isLive (h o)/\β o=some b
structure Objs (h:Nat->AObj)(β:Nat->Option Nat)(Y:Nat->Prop)(w:World):Prop where
 rep:∀o b,isLive (h o)->β o=some b->ORep w (λb=>Y b\/Own h β b) β (h o) b
 has:∀o,isLive (h o)->(∃b,β o=some b/\b<w.heap.size/\¬Y b)\/(bareO (h o)/\β o=none)
 inj:∀o o' b,isLive (h o)->isLive (h o')->β o=some b->β o'=some b->o=o'
 lt:∀o b,β o=some b->b<w.heap.size
theorem Objs.here {h:Nat->AObj}{β:Nat->Option Nat}{Y:Nat->Prop}{w:World}(hO:Objs h β Y w){o b:Nat}(hl:isLive<|h o)(hb:β o=some b):b<w.heap.size/\¬Y b:=by
 rcases hO.has o hl with⟨b',h1,h2,h3⟩|⟨_,h1⟩
 .rw[hb] at h1;injection h1 with h1;subst h1;exact⟨h2,h3⟩
 .rw[hb] at h1;cases h1
def xq (P:Program)(f:FuncId):Bool:=
 match P.funcs[f]? with
 |some fn=> !(fn.name== "runtime.NumGoroutine")&&fn.body.isSome
 |none=>false
def Gl (P:Program)(w:World)(foot:Nat->Prop):Prop:=∀g,P.globalNamed "internal/strconv.uint64pow10" =some g->Lib.TabIs P w "internal/strconv.uint64pow10" .u64 Lib.pow10Tab/\¬foot g/\g<w.heap.size
theorem Gl.later {P:Program}{w w':World}{foot foot':Nat->Prop}(h:Gl P w foot)(g:Good w foot w')(hf:∀b,b<w.heap.size->foot' b->foot b):Gl P w' foot':=λk hk=>by
 obtain⟨h1,h2,h3⟩:=h k hk;refine⟨?_,λh4=>h2<|hf k h3 h4,sA h3 g.size⟩;unfold Lib.TabIs World.var? at*;rw[hk] at h1 ⊢;simp only[tD] at h1 ⊢;rw[g.blk k h3 h2];exact h1
theorem Gl.sub {P:Program}{w:World}{foot foot':Nat->Prop}(h:Gl P w foot)(hf:∀b,foot' b->foot b):Gl P w foot':=λk hk=>let ⟨h1,h2,h3⟩:=h k hk;⟨h1,λh4=>h2<|hf k h4,h3⟩
def AC (P:Program)(f:FuncId)(args:List TV)(Hs:List AObj)(r:TV)(Hs':List AObj):Prop:=
 xq P f=true/\Hs.length<=Hs'.length/\
 ∀(w:World) (vals:List Value) (β:Nat->Option Nat) (Y:Nat->Prop),
  (∀o b,β o=some b->o<Hs.length)->(∀b,Y b->b<w.heap.size)->Gl P w (Own (λo=>Hs.getD o .gone) β)->
  Objs (λo=>Hs.getD o .gone) β Y w->
  LRep (TRep w (λb=>Y b\/Own (λo=>Hs.getD o .gone) β b) β) args vals->
  Calls P f vals.toArray w λe w'=> ∃v β',e=.returned v/\
   Good w (Own (λo=>Hs.getD o .gone) β) w'/\
   Objs (λo=>Hs'.getD o .gone) β' Y w'/\
   TRep w' (λb=>Y b\/Own (λo=>Hs'.getD o .gone) β' b) β' r v/\
   (∀o b,β' o=some b->o<Hs'.length)/\
   (∀o,o<Hs.length->β' o=β o)/\
   (∀o b,Hs.length<=o->β' o=some b->w.heap.size<=b\/Own (λo=>Hs.getD o .gone) β b)
theorem Zl {w w':World}{b off:Nat}(h:w'.heap[b]?=w.heap[b]?):w'.cell? ⟨b,off,none⟩=w.cell? ⟨b,off,none⟩:=by
 simp[World.cell?,h]
theorem FRep.mono {w w':World} {X X':Nat->Prop} {f:FV} {v:Value} (h:FRep w X f v) (hs:w.heap.size<=w'.heap.size)
  (hb:∀b,¬X b->b<w.heap.size->w'.heap[b]?=w.heap[b]? /\¬X' b):FRep w' X' f v:=by
 induction h with
 |int k n=>exact .int k n
 |bool b=>exact .bool b
 |str l=>exact .str l
 |cst v h=>exact .cst v h
 |N=>exact .N
 |slnil n=>exact .slnil n
 |sl0 nn n a=>exact .sl0 nn n a
 |z0 nn a=>exact .z0 nn a
 |z0n=>exact .z0n
 |sl nn n es b off cap len u h1 h2 h3 h4 h5 h6 h7 ih=>
  exact .sl nn n es b off cap len u h1 h2 (hb b h3 h4).2 za h5 (λi j e f he hf=>(Zl (hb b h3 h4).1).trans<|h6 i j e f he hf) ih
 |pt cs b off u h3 h4 h6 h7 ih=>
  exact .pt cs b off u (hb b h3 h4).2 za (λj f hf=>(Zl (hb b h3 h4).1).trans<|h6 j f hf) ih
 |mp es b ms ku vu h1 h2 h3 h4 h5 h6 _ _ ih1 ih2=>exact .mp es b ms ku vu (hb b h1 h2).2 za ((hb b h1 h2).1.trans h3) h4 h5 h6 ih1 ih2
theorem ARep.mono {w w':World} {X X':Nat->Prop} {β β':Nat->Option Nat} {f:AV} {v:Value} (h:ARep w X β f v) (hs:w.heap.size<=w'.heap.size)
  (hb:∀b,¬X b->b<w.heap.size->w'.heap[b]?=w.heap[b]? /\¬X' b) (hsh:∀b,b<w.heap.size->w'.shape? b=w.shape? b)
  (hβ:∀o b,β o=some b->β' o=some b/\b<w.heap.size):ARep w' X' β' f v:=by
 cases h with
 |fz x v h=>exact .fz x v<|h.mono hs hb
 |ep o n i j b h=>exact .ep o n i j b (hβ _ _ h).1
 |osl o n off len b q cap sz t h1 h2 h3 h4 h5=>exact .osl o n off len b q cap sz t (hβ _ _ h1).1 ((hsh _ (hβ _ _ h1).2).trans h2) h3 h4 h5
 |oslN o n off=>exact .oslN o n off
 |mp o b h=>exact .mp o b (hβ _ _ h).1
 |any v h=>exact .any v h
 |bld t o b v h1 h2 h3=>exact .bld t o b v (hβ _ _ h1).1 ((hsh _ (hβ _ _ h1).2).trans h2) h3
 |osb o e len b cap h1 h2 h3 h4=>exact .osb o e len b cap (hβ _ _ h1).1 ((hsh _ (hβ _ _ h1).2).trans h2) h3 h4
theorem LRep.imp {α:Type}{R R':α->Value->Prop}{cs:List α}{us:List Value}(h:LRep R cs us)(hr:∀c u,c∈cs->R c u->R' c u):LRep R' cs us:=
 ⟨h.1,λj c u hc hu=>hr c u (rV hc)<|h.2 j c u hc hu⟩
theorem PRep.imp {α:Type}{R R':α->Value->Prop}{p:Bool×List α}{v:Value}(h:PRep R p v)(hr:∀c u,c∈p.2->R c u->R' c u):PRep R' p v:=
 let ⟨us,h1,h2,h3⟩:=h;⟨us,h1,h2.imp hr,h3⟩
structure Goes (w w':World)(X X':Nat->Prop)(β β':Nat->Option Nat):Prop where
 size:w.heap.size<=w'.heap.size
 blk:∀b,¬X b->b<w.heap.size->w'.heap[b]?=w.heap[b]? /\¬X' b
 shp:∀b,b<w.heap.size->w'.shape? b=w.shape? b
 bet:∀o b,β o=some b->β' o=some b/\b<w.heap.size
theorem FRep.goes {w w':World}{X X':Nat->Prop}{β β':Nat->Option Nat}{f:FV}{v:Value}(h:FRep w X f v)(g:Goes w w' X X' β β'):FRep w' X' f v:=h.mono g.size g.blk
theorem ARep.goes {w w':World}{X X':Nat->Prop}{β β':Nat->Option Nat}{f:AV}{v:Value}(h:ARep w X β f v)(g:Goes w w' X X' β β'):ARep w' X' β' f v:=h.mono g.size g.blk g.shp g.bet
theorem WRep.goes {w w':World}{X X':Nat->Prop}{β β':Nat->Option Nat}{f:WV}{v:Value}(h:WRep w X β f v)(g:Goes w w' X X' β β'):WRep w' X' β' f v:=by
 cases h with
 |a x v h=>exact .a x v<|h.goes g
 |fn f first captured us vs h1 h2=>exact .fn f first captured us vs (h1.imp λ_ _ _ h=>h.imp λ_ _ _ h=>h.goes g) (h2.imp λ_ _ _ h=>h.imp λ_ _ _ h=>h.goes g)
theorem TRep.goes {w w':World}{X X':Nat->Prop}{β β':Nat->Option Nat}{f:TV}{v:Value}(h:TRep w X β f v)(g:Goes w w' X X' β β'):TRep w' X' β' f v:=by
 cases f with
 |any=>trivial
 |c x=>exact WRep.goes h g
 |agg cs=>obtain⟨us,h1,h2⟩:=h;exact⟨us,h1,h2.imp λ_ _ _ h=>h.goes g⟩
 |tup vs=>obtain⟨us,h1,h2⟩:=h;exact⟨us,h1,h2.imp λ_ _ _ h=>h.imp λ_ _ _ h=>h.goes g⟩
theorem ORep.goes {w w':World}{X X':Nat->Prop}{β β':Nat->Option Nat}{o:AObj}{b:Nat}(h:ORep w X β o b)(g:Goes w w' X X' β β')(hb:w'.heap[b]?=w.heap[b]?):ORep w' X' β' o b:=by
 have key:∀n es,ORep w X β (.arr n es) b->ORep w' X' β' (.arr n es) b:=by
  intro n es h;obtain⟨us,t,h1,h2,h3,h4⟩:=h;exact⟨us,t,hb.trans h1,h2,h3,λi j e c he hc=>let ⟨u,hu,hr⟩:=h4 i j e c he hc;⟨u,hu,hr.goes g⟩⟩
 cases o with
 |gone=>trivial
 |arz n fs=>exact key _ _ h
 |arr n es=>
  obtain⟨us,t,h1,h2,h3,h4⟩:=h;exact⟨us,t,hb.trans h1,h2,h3,λi j e c he hc=>let ⟨u,hu,hr⟩:=h4 i j e c he hc;⟨u,hu,hr.goes g⟩⟩
 |mapo es=>
  obtain⟨ms,ck,h1,h2,h3,h4,h5⟩:=h;exact⟨ms,ck,hb.trans h1,h2,λi e m he hm=>let ⟨x,y⟩:=h3 i e m he hm;⟨x.imp λ_ _ _ h=>h.goes g,y.imp λ_ _ _ h=>h.goes g⟩,h4,h5⟩
 |mapz es=>
  obtain⟨ms,ck,h1,h2,h3,h4,h5⟩:=h;exact⟨ms,ck,hb.trans h1,h2,λi e m he hm=>let ⟨x,y⟩:=h3 i e m he hm;⟨x.imp λ_ _ _ h=>h.goes g,y.imp λ_ _ _ h=>h.goes g⟩,h4,h5⟩
theorem Good.refl (w:World)(foot:Nat->Prop):Good w foot w:=⟨r6 _,λ_ _ _=>rfl,λ_ _=>rfl,rfl,rfl,rfl⟩
theorem Good.trans {a b c:World}{f g:Nat->Prop}(h:Good a f b)(k:Good b g c)(hg:∀x,x<a.heap.size->g x->f x):Good a f c:=
 ⟨rS h.size k.size,λx hx hf=>(k.blk x (sA hx h.size) λhgx=>hf<|hg x hx hgx).trans<|h.blk x hx hf,
  λx hx=>(k.shp x<|sA hx h.size).trans (h.shp x hx),k.os.trans h.os,k.tape.trans h.tape,k.output.trans h.output⟩
theorem Good.drew {a b:World}{f:Nat->Prop}(h:Good a f b):Good a f {b with drawn:=b.drawn+1}:=⟨h.size,h.blk,h.shp,h.os,h.tape,h.output⟩
structure Moves (h h':Nat->AObj)(β β':Nat->Option Nat)(Y:Nat->Prop)(w w':World)(fr:Nat->Prop):Prop where
 good:Good w (Own h β) w'
 objs:Objs h' β' Y w'
 bmono:∀o b,β o=some b->β' o=some b
 bnew:∀o b,β' o=some b->β o=some b\/(fr o/\(w.heap.size<=b\/Own h β b))
 lmono:∀o,isLive (h' o)->isLive (h o)\/fr o
theorem Moves.goes {h h':Nat->AObj}{β β':Nat->Option Nat}{Y:Nat->Prop}{w w':World}{fr:Nat->Prop}(m:Moves h h' β β' Y w w' fr)(hO:Objs h β Y w)(hfr:∀o,fr o->β o=none):
  Goes w w' (λb=>Y b\/Own h β b) (λb=>Y b\/Own h' β' b) β β':=by
 refine⟨m.good.size,λb hx hb=>⟨m.good.blk b hb λh=>hx<|.inr h,λhx'=>?_⟩,m.good.shp,λo b hb=>⟨m.bmono o b hb,hO.lt o b hb⟩⟩;rcases hx' with hy|⟨o,hl,ho⟩
 .exact hx<|.inl hy
 .rcases m.bnew o b ho with hb' |⟨hf,hb' |hb'⟩
  .rcases m.lmono o hl with hl' |hf
   .exact hx<|.inr ⟨o,hl',hb'⟩
   .rw[hfr o hf] at hb';cases hb'
  .omega
  .exact hx<|.inr hb'
theorem Moves.refl {h h':Nat->AObj}{β:Nat->Option Nat}{Y:Nat->Prop}{w:World}(hO:Objs h β Y w)(he:∀o,h' o=h o):Moves h h' β β Y w w (λ_=>False):=by
 have:h'=h:=funext he;subst this;exact⟨Good.refl _ _,hO,λ_ _ h=>h,λ_ _ h=>.inl h,λ_ h=>.inl h⟩
theorem LRep.map {α γ:Type}{R:α->Value->Prop}{R':γ->Value->Prop}{g:α->γ}{cs:List α}{us:List Value}(h:LRep R cs us)(hr:∀c u,c∈cs->R c u->R' (g c) u):LRep R' (cs.map g) us:=by
 refine⟨by simp[h.1],λj c u hc hu=>?_⟩;rw[rq] at hc;obtain⟨c',hc',rfl⟩:=oY.1 hc;exact hr c' u (rV hc')<|h.2 j c' u hc' hu
theorem LRep.unmap {α γ:Type}{R:α->Value->Prop}{R':γ->Value->Prop}{g:α->γ}{cs:List α}{us:List Value}(h:LRep R' (cs.map g) us)(hr:∀c u,c∈cs->R' (g c) u->R c u):LRep R cs us:=by
 refine⟨by have:=h.1;exact zo this,λj c u hc hu=>?_⟩;exact hr c u (rV hc)<|h.2 j (g c) u (by rw[rq,hc];rfl) hu
theorem PRep.map {α γ:Type}{R:α->Value->Prop}{R':γ->Value->Prop}{g:α->γ}{p:Bool×List α}{v:Value}(h:PRep R p v)(hr:∀c u,c∈p.2->R c u->R' (g c) u):PRep R' (p.1,p.2.map g) v:=
 let ⟨us,h1,h2,h3⟩:=h;⟨us,h1,h2.map hr,λh=>by simpa using h3 h⟩
theorem PRep.unmap {α γ:Type}{R:α->Value->Prop}{R':γ->Value->Prop}{g:α->γ}{p:Bool×List α}{v:Value}(h:PRep R' (p.1,p.2.map g) v)(hr:∀c u,c∈p.2->R' (g c) u->R c u):PRep R p v:=
 let ⟨us,h1,h2,h3⟩:=h;⟨us,h1,h2.unmap hr,λh=>by simpa using h3 h⟩
structure St where
 env:Env
 heap:AHeap
 nx:Nat
def putE (d:Option Nat)(v:TV)(e:Env):Env:=
 match d with
 |some i=>(i,v)::e
 |none=>e
def want (ops:Array Oper)(o:Oper)(e:Nat->TV):Option Bool:=
 match o.guard with
 |none=>some true
 |some (j,b)=>match ((ops[j]?).bind (·.dst)).map e with
  |some (.c (.a (.fz (.bool x))))=>some<|x==b
  |some (.tup [])=>some false
  |_=>none
def AV.ren (σ:Nat->Nat):AV->AV
 |.ep o n i j=>.ep (σ o) n i j
 |.osl o n off len=>.osl (σ o) n off len
 |.mp o=>.mp<|σ o
 |.bld t o=>.bld t<|σ o
 |.osb o e n=>.osb (σ o) e n
 |x=>x
def WV.ren (σ:Nat->Nat):WV->WV
 |.a x=>.a<|x.ren σ
 |.fn f first cap=>.fn f (first.map λp=>(p.1,p.2.map<|AV.ren σ))<|cap.map λp=>(p.1,p.2.map<|AV.ren σ)
def TV.ren (σ:Nat->Nat):TV->TV
 |.any=>.any
 |.c x=>.c<|x.ren σ
 |.agg cs=>.agg<|cs.map<|WV.ren σ
 |.tup vs=>.tup<|vs.map λp=>(p.1,p.2.map<|WV.ren σ)
def AObj.ren (σ:Nat->Nat):AObj->AObj
 |.gone=>.gone
 |.arr n es=>.arr n<|es.map λe=>e.map<|WV.ren σ
 |.arz n fs=>.arz n fs
 |.mapo es=>.mapo<|es.map λe=>(e.1,(e.2.1,e.2.2.map<|WV.ren σ))
 |.mapz es=>.mapz es
def AV.lt (m:Nat):AV->Bool
 |.ep o _ _ _=>o<m
 |.osl o _ _ _=>o<m
 |.mp o=>o<m
 |.bld _ o=>o<m
 |.osb o _ _=>o<m
 |_=>true
def WV.lt (m:Nat):WV->Bool
 |.a x=>x.lt m
 |.fn _ first cap=>(first.all λp=>p.2.all<|AV.lt m)&&(cap.all λp=>p.2.all<|AV.lt m)
def TV.lt (m:Nat):TV->Bool
 |.any=>true
 |.c x=>x.lt m
 |.agg cs=>cs.all<|WV.lt m
 |.tup vs=>vs.all λp=>p.2.all<|WV.lt m
def AObj.lt (m:Nat):AObj->Bool
 |.gone=>true
 |.arr _ es=>es.all λe=>e.all<|WV.lt m
 |.arz _ _=>true
 |.mapo es=>es.all λe=>e.2.2.all<|WV.lt m
 |.mapz _=>true
inductive FV.Le:FV->FV->Prop
 |refl (x:FV):FV.Le x x
 |N (n:Nat):FV.Le .N (.sl false n [])
 |nn (b:Bool) (n:Nat) (es:List (List FV)):FV.Le (.sl b n es) (.sl false n es)
 |z0 (nn:Bool) (n:Nat):FV.Le (.z0 nn) (.sl nn n [])
 |rows (b:Bool) (n:Nat) (es es':List (List FV)):es.length=es'.length->(∀(i:Nat) (e e':List FV),es[i]?=some e->es'[i]?=some e'->e.length=e'.length)->
   (∀(i j:Nat) (e e':List FV) (f f':FV),es[i]?=some e->es'[i]?=some e'->e[j]?=some f->e'[j]?=some f'->FV.Le f f')->FV.Le (.sl b n es) (.sl b n es')
 |trans (x y z:FV):FV.Le x y->FV.Le y z->FV.Le x z
def All2 {α β:Type}(R:α->β->Prop):List α->List β->Prop
 |[],[]=>True
 |x::xs,y::ys=>R x y/\All2 R xs ys
 |_,_=>False
abbrev Lent:=List<|Nat×Nat×List (List FV)
def Lent.ok (L:Lent)(h:Nat->AObj):Prop:=∀p∈L,flat (h p.1)=.arr p.2.1 (p.2.2.map fzs)
def ya {α:Type}:List (Nat×α)->Nat->Option α
 |[],_=>none
 |(j,x)::l,i=>if j=i then some x else ya l i
def AV.lend (L:Lent):AV->AV
 |.osl o n off len=>match ya L o with
  |some p=>if n=p.1/\off+len<=p.2.length then .fz (.sl false n<|(p.2.drop off).take len) else .osl o n off len
  |none=>.osl o n off len
 |x=>x
def WV.lend (L:Lent):WV->WV
 |.a x=>.a<|x.lend L
 |x=>x
def TV.lend (L:Lent):TV->TV
 |.c x=>.c<|x.lend L
 |.agg cs=>.agg<|cs.map<|WV.lend L
 |x=>x
def AObj.lend (L:Lent):AObj->AObj
 |.arr n es=>.arr n<|es.map λe=>e.map<|WV.lend L
 |x=>x
def FV.scalar:FV->Bool
 |.sl _ _ _=>false
 |.pt _=>false
 |.mp _=>false
 |_=>true
def AV.scalar:AV->Bool
 |.fz x=>x.scalar
 |.any=>false
 |_=>true
def WV.scalar:WV->Bool
 |.a x=>x.scalar
 |_=>false
def TV.scalar:TV->Bool
 |.any=>true
 |.c x=>x.scalar
 |.agg cs=>cs.all WV.scalar
 |.tup vs=>vs.all λp=>p.2.all WV.scalar
def over (u:AHeap)(h:Nat->AObj)(o:Nat):AObj:=match ya u o with|some x=>x|none=>h o
def sub (ids:List Nat)(fr o:Nat):Nat:=if o<ids.length then ids.getD o 0 else fr+(o-ids.length)
inductive AV.Le:AV->AV->Prop
 |refl (x:AV):AV.Le x x
 |fz (x y:FV):FV.Le x y->AV.Le (.fz x) (.fz y)
 |any (x:AV):AV.Le x .any
inductive WV.Le:WV->WV->Prop
 |refl (x:WV):WV.Le x x
 |a (x y:AV):AV.Le x y->WV.Le (.a x) (.a y)
inductive TV.Le:TV->TV->Prop
 |refl (x:TV):TV.Le x x
 |any (x:TV):TV.Le x .any
 |c (x y:WV):WV.Le x y->TV.Le (.c x) (.c y)
 |agg (xs ys:List WV):xs.length=ys.length->(∀(i:Nat) (x y:WV),xs[i]?=some x->ys[i]?=some y->WV.Le x y)->TV.Le (.agg xs) (.agg ys)
 |tup (xs ys:List (Bool×List WV)):xs.length=ys.length->(∀(i:Nat) (p q:Bool×List WV),xs[i]?=some p->ys[i]?=some q->p.1=q.1/\p.2.length=q.2.length/\
   ∀(j:Nat) (x y:WV),p.2[j]?=some x->q.2[j]?=some y->WV.Le x y)->TV.Le (.tup xs) (.tup ys)
def xG (σ:Nat->Nat)(fr:Nat):List AObj->AHeap
 |[]=> []
 |o::r=>(fr,o.ren σ)::xG σ (fr+1) r
def yD (σ:Nat->Nat):List Nat->List AObj->AHeap
 |i::ids,o::r=>(i,o.ren σ)::yD σ ids r
 |_,_=> []
def CallK (P:Program)(f:FuncId)(args:List TV)(h:Nat->AObj)(fr:Nat)(K:TV->AHeap->List Nat->Prop):Prop:=
 ∃(ids:List Nat) (L:Lent) (args':List TV) (Hs:List AObj) (r:TV) (Hs':List AObj),
  AC P f args' Hs r Hs'/\(ids.Nodup/\∀i∈ids,i<fr)/\Hs'.length<=ids.length+32/\
  (Hs.map (AObj.ren<|sub ids fr)=ids.map h/\Hs.all (AObj.lt ids.length)=true)/\
  All2 TV.Le (args.map<|TV.lend L) (args'.map<|TV.ren<|sub ids fr)/\args'.all (TV.lt ids.length)=true/\(∀i∈ids,isLive<|h i)/\
  (L=[]\/(L.ok h/\(∀p∈L,p.1 ∉ ids)/\r.scalar=true/\Hs'=[]))/\
  ∃F:List Nat,(∀i∈F,ya (yD (sub ids fr) ids Hs') i=some (h i))/\
  K (r.ren<|sub ids fr) ((yD (sub ids fr) ids Hs'++xG (sub ids fr) fr (Hs'.drop ids.length)).filter λp=> !F.contains p.1) (ids++L.map Prod.fst)
def CallE (P:Program)(f:FuncId)(args:List TV)(h:Nat->AObj)(fr:Nat)(K:TV->AHeap->List Nat->Prop):Prop:=
 ∃E:Lent,E.ok h/\CallK P f (args.map<|TV.lend E) (over (E.map λp=>(p.1,AObj.gone)) h) fr
  (λr u rd=>K r (u++E.map λp=>(p.1,AObj.gone))<|rd++E.map Prod.fst)
def calleeOf (ρ:Operand->TV)(c:Call):Option (FuncId×List TV):=
 match c.callee with
 |.value x=>match ρ x with
  |.c (.fn (.func f) first cap)=>some (f,first.map (λp=>match p with|(true,cs)=>TV.agg (cs.map WV.a)|(false,[x])=>TV.c (.a x)|_=>TV.any)++c.args.toList.map ρ++cap.map λp=>match p with|(true,cs)=>TV.agg (cs.map WV.a)|(false,[x])=>TV.c (.a x)|_=>TV.any)
  |_=>none
 |_=>none
abbrev wd:=List<|List Nat×List Nat
def goCall:Op->Option Call
 |.call ⟨.value x,a9,ts⟩=>some ⟨.value x,a9,ts⟩
 |_=>none
def p9 (P:Program)(fr:Nat)(o:Oper)(e:Env)(h:AHeap)(tr:wd)(next:Env->AHeap->wd->Prop):Prop:=
 match goCall o.op with
 |some c=>
  match calleeOf (ev e) c with
  |some (f,args)=>CallE P f args (hook h) fr λr h' ids=>next (putE o.dst r e) (h'++h) ((ids,h'.map Prod.fst)::tr)
  |none=>False
 |none=>
  match aopS P o fr (ev e) (hook h) with
  |some r=>next (putE o.dst r.val e) (r.upd++h) ((r.rd,r.upd.map Prod.fst)::tr)
  |none=>False
def gM (ops:Array Oper)(o:Oper)(e:Env)(h:AHeap)(tr:wd)(yes:Prop)(next:Env->AHeap->wd->Prop):Prop:=
 match want ops o (look e) with
 |none=>False
 |some w=>if w=true then yes else next (putE o.dst (.tup []) e) h (([],[])::tr)
def lex (P:Program)(ops:Array Oper)(nx:Nat):List Oper->Nat->Env->AHeap->wd->(Env->AHeap->wd->Prop)->Prop
 |[],_,e,h,tr,K=>K e h tr
 |o::rest,i,e,h,tr,K=>gM ops o e h tr (p9 P (nx+32*i) o e h tr λe h tr=>lex P ops nx rest (i+1) e h tr K) λe h tr=>lex P ops nx rest (i+1) e h tr K
def WH (ops:Array Oper)(tr:wd):Bool:=
 let b:=Region.before ops
 let l:=ops.toList.zip tr.reverse
 (l.length==ops.size)&&(ops.toList.zipIdx.all λp=>p.1.after.all λe=> !Region.binds .any e||e.on<p.2) &&
 l.zipIdx.all λy=>l.zipIdx.all λx=> !(x.2<y.2)||(b.getD y.2 0).testBit x.2 ||
  (x.1.1.apart ops y.1.1&&(x.1.2.2.all λo=> !(y.1.2.1.contains o) && !(y.1.2.2.contains o))&&(y.1.2.2.all λo=> !(x.1.2.1.contains o)))
def dstB (ops:Array Oper)(n:Nat):Bool:=ops.all λo=>match o.dst with|some d=>d<n|none=>true
theorem wC {P:Program}{t:TypeId}{d:TyD}(h:tyOf P t=some d):∃i u,P.info? t=some i/\P.underlying t=some u/\
  d.agg=(match u with|.struct _|.array _ _=>true|_=>false)/\d.size=i.size/\d.bytes=i.bytes/\
  d.zero=(match i.zero with|some z=>if z.cells.all Value.oneCell' then some (z.cells.toList.map fvOf) else none|none=>none)/\d.kind=xH P u:=by
 unfold tyOf at h;split at h
 next i u hi hu=>simp only[r8] at h;subst h;exact⟨i,u,hi,hu,rfl,rfl,rfl,rfl,rfl⟩
 .cases h
theorem y7 {P:Program}{t:TypeId}{d:TyD}(h:tyOf P t=some d)(w:World):(sizeOf t).run P w=.ok d.size w:=by
 obtain⟨i,u,hi,hu,_,hs,_⟩:=wC h;simp[sizeOf,typeInfo,hi,hs]
theorem qd {P:Program}{t:TypeId}{d:TyD}(h:tyOf P t=some d)(w:World):(isAgg t).run P w=.ok d.agg w:=by
 obtain⟨i,u,hi,hu,ha,_⟩:=wC h;rw[ha];cases u<;>simp[isAgg,rj hu]
theorem bU (w:World)(X:Nat->Prop)(v:Value)(h:v.oneCell'=true):FRep w X (fvOf v) v:=by
 unfold fvOf;split
 .exact .int _ _
 .exact .bool _
 .exact .str _
 .exact .N
 .exact .cst _ h
theorem tvOf_rep (w:World)(X:Nat->Prop)(β:Nat->Option Nat)(v:Value):TRep w X β (tvOf v) v:=by
 unfold tvOf;split
 .rename_i cs;split
  .rename_i hc;refine⟨cs.toList,zb,zb,λj c u hc' hu=>?_⟩;simp only[rq,hu,ry,r8] at hc';subst hc';refine .a _ _<|.fz _ _<|bU w X u ?_
   have:=rV hu;simp only[sj] at hc;exact hc u (zo this)
  .trivial
 .trivial
 .exact .a _ _<|.fz _ _<|.int _ _
 .exact .a _ _<|.fz _ _<|.bool _
 .exact .a _ _<|.fz _ _<|.str _
 .exact .a _ _<|.fz _ _ .N
 .rename_i v h1 h2 h3 h4 h5 h6;refine .a _ _<|.fz _ _<|.cst _ ?_
  cases v<;>simp_all[Value.oneCell']
section
variable {w:World} {X:Nat->Prop} {β:Nat->Option Nat}
theorem TRep.int_inv {k:IntKind}{n:Int}{v:Value}(h:TRep w X β (.c<|.a<|.fz<|.int k n) v):v=.int k n:=by
 cases h with|a _ _ h=>cases h with|fz _ _ h=>cases h;rfl
theorem TRep.bool_inv {b:Bool}{v:Value}(h:TRep w X β (.c<|.a<|.fz<|.bool b) v):v=.bool b:=by
 cases h with|a _ _ h=>cases h with|fz _ _ h=>cases h;rfl
theorem TRep.str_inv {l:List UInt8}{v:Value}(h:TRep w X β (.c<|.a<|.fz<|.str l) v):v=.string ⟨l.toArray⟩:=by
 cases h with|a _ _ h=>cases h with|fz _ _ h=>cases h;rfl
theorem TRep.nils_inv {v:Value}(h:TRep w X β (.c<|.a<|.fz .N) v):v=.slice none 0 0:=by
 cases h with|a _ _ h=>cases h with|fz _ _ h=>cases h;rfl
theorem TRep.ep_inv {o n i j:Nat}{v:Value}(h:TRep w X β (.c<|.a<|.ep o n i j) v):∃b,β o=some b/\v=.pointer (some ⟨b,i*n+j,none⟩):=by
 cases h with|a _ _ h=>cases h with|ep _ _ _ _ b h=>exact⟨b,h,rfl⟩
theorem TRep.osl_inv {o n off len:Nat}{v:Value}(h:TRep w X β (.c<|.a<|.osl o n off len) v):
  (∃b q cap sz t,β o=some b/\w.shape? b=some (t,sz)/\len<=cap/\(off+cap)*n<=sz/\(q=off*n\/cap=0)/\v=.slice (some ⟨b,q,none⟩) len cap)\/(len=0/\v=.slice none 0 0):=by
 cases h with|a _ _ h=>cases h with
  |osl _ _ _ _ b q cap sz t h1 h2 h3 h4 h5=>exact .inl ⟨b,q,cap,sz,t,h1,h2,h3,h4,h5,rfl⟩
  |oslN=>exact .inr ⟨rfl,rfl⟩
theorem TRep.mp_inv {o:Nat}{v:Value}(h:TRep w X β (.c<|.a<|.mp o) v):∃b,β o=some b/\v=.map (some b):=by
 cases h with|a _ _ h=>cases h with|mp _ b h=>exact⟨b,h,rfl⟩
theorem TRep.fz_inv {x:FV}{v:Value}(h:TRep w X β (.c<|.a<|.fz x) v):FRep w X x v:=by
 cases h with|a _ _ h=>cases h with|fz _ _ h=>exact h
theorem TRep.fz_mk {x:FV}{v:Value}(h:FRep w X x v):TRep w X β (.c<|.a<|.fz x) v:=.a _ _<|.fz _ _ h
theorem TRep.int_mk (k:IntKind)(n:Int):TRep w X β (.c<|.a<|.fz<|.int k n) (.int k n):=.a _ _<|.fz _ _<|.int _ _
theorem TRep.bool_mk (b:Bool):TRep w X β (.c<|.a<|.fz<|.bool b) (.bool b):=.a _ _<|.fz _ _<|.bool _
theorem TRep.str_mk (l:List UInt8):TRep w X β (.c<|.a<|.fz<|.str l) (.string ⟨l.toArray⟩):=.a _ _<|.fz _ _<|.str _
theorem FRep.oneCell {x:FV}{v:Value}(h:FRep w X x v):v.oneCell'=true:=by
 cases h<;>first|rfl|assumption
theorem WRep.oneCell {x:WV}{v:Value}(h:WRep w X β x v):v.oneCell'=true:=by
 cases h with
 |a x v h=>cases h<;>first|rfl|assumption|(rename_i h;exact h.oneCell)|(rename_i h;rcases h with rfl|rfl<;>rfl)
 |fn=>rfl
theorem LRep.take {α:Type}{R:α->Value->Prop}{cs:List α}{us:List Value}(h:LRep R cs us)(n:Nat):LRep R (cs.take n) (us.take n):=by
 refine⟨by simp[h.1],λj c u hc hu=>?_⟩;rw[si] at hc hu;split at hc
 .simp_all only [↓reduceIte];exact h.2 j c u hc hu
 .cases hc
theorem LRep.drop {α:Type}{R:α->Value->Prop}{cs:List α}{us:List Value}(h:LRep R cs us)(n:Nat):LRep R (cs.drop n) (us.drop n):=by
 refine⟨by simp[h.1],λj c u hc hu=>?_⟩;rw[sK] at hc hu;exact h.2 _ c u hc hu
theorem LRep.append {α:Type}{R:α->Value->Prop}{cs ds:List α}{us vs:List Value}(h:LRep R cs us)(k:LRep R ds vs):LRep R (cs++ds) (us++vs):=by
 refine⟨by simp[h.1,k.1],λj c u hc hu=>?_⟩;rw[sJ] at hc hu;have:=h.1;split at hc
 .rw[oX za] at hu;exact h.2 _ c u hc hu
 .rw[oV za] at hu;rw[this] at hc;exact k.2 _ c u hc hu
theorem LRep.nil {α:Type}{R:α->Value->Prop}:LRep R [] []:=⟨rfl,λj c u hc _=>by simp at hc⟩
theorem LRep.cons {α:Type}{R:α->Value->Prop}{c:α}{u:Value}{cs:List α}{us:List Value}(h:R c u)(k:LRep R cs us):LRep R (c::cs) (u::us):=
 ⟨by simp[k.1],λj c' u' hc hu=>by
  cases j with
  |zero=>simp at hc hu;subst hc;subst hu;exact h
  |succ j=>simp at hc hu;exact k.2 j c' u' hc hu⟩
theorem LRep.cons_inv {α:Type}{R:α->Value->Prop}{c:α}{cs:List α}{us:List Value}(h:LRep R (c::cs) us):∃u us',us=u::us'/\R c u/\LRep R cs us':=by
 cases us with
 |nil=>have:=h.1;simp at this
 |cons u us'=>exact⟨u,us',rfl,h.2 0 c u rfl rfl,by have:=h.1;exact zo this,λj c' u' hc hu=>h.2 (j+1) c' u' (zo hc)<|zo hu⟩
theorem LRep.nil_inv {α:Type}{R:α->Value->Prop}{us:List Value}(h:LRep R [] us):us=[]:=by
 have:=h.1;cases us<;>simp_all
theorem LRep.get {α:Type}{R:α->Value->Prop}{cs:List α}{us:List Value}(h:LRep R cs us){j:Nat}{c:α}(hc:cs[j]?=some c):∃u,us[j]?=some u/\R c u:=by
 have hj:j<us.length:=by
  have:=(rr.1 hc).1;have:=h.1;omega
 exact⟨us[j],rf hj,h.2 j c _ hc<|rf hj⟩
theorem Z6 {x:TV}{v:Value}{cs:List WV}(h:TRep w X β x v)(hc:uQ x=some cs):LRep (WRep w X β) cs v.cells.toList:=by
 cases x with
 |any=>simp[uQ] at hc
 |tup vs=>simp[uQ] at hc
 |c x=>
  simp only[uQ,r8] at hc;subst hc;have h1:=WRep.oneCell h;cases v<;>first|(simp[Value.oneCell'] at h1;done)|exact .cons h .nil
 |agg cs'=>
  simp only[uQ,r8] at hc;subst hc;obtain⟨us,rfl,hl⟩:=h;simpa[Value.cells] using hl
end
theorem Kp {P:Program} {t:TypeId} {d:TyD} (hd:tyOf P t=some d) {w:World} {X:Nat->Prop} {β:Nat->Option Nat} {b off:Nat} {cs:List WV} {v:TV} (us:List Value) (hl:LRep (WRep w X β) cs us)
  (hc:∀j u,us[j]?=some u->w.cell? ⟨b,off+j,none⟩=some u) (h:X4 d cs=some v):
  ∃u,(Instr.loadAt t<|.pointer<|some ⟨b,off,none⟩).run P w=.ok u w/\TRep w X β v u:=by
 unfold X4 at h;split at h
 .rename_i ha;split at h
  .rename_i hsz;simp only[r8] at h;subst h;have hlen:(us.take d.size).length=d.size:=by rw[rM,<-hl.1];omega
   have hr:=run_loadCells_list (P:=P) w ⟨b,off,none⟩ (us.take d.size) (λj u hu=>by
    rw[Addr.add_lit];rw[si] at hu;split at hu
    .exact hc j u hu
    .cases hu)
   rw[hlen] at hr;refine⟨.agg (us.take d.size).toArray,?_,us.take d.size,rfl,hl.take _⟩;simp[Instr.loadAt,Instr.sureAddr,loadVar,qd hd,ha,y7 hd,hr]
  .cases h
 .rename_i ha;split at h
  next x cs'=>simp only[r8] at h;subst h;obtain⟨u,us',rfl,hx,_⟩:=hl.cons_inv;have h0:=hc 0 u rfl;refine⟨u,?_,hx⟩;rw[th] at h0;simp[Instr.loadAt,Instr.sureAddr,loadVar,qd hd,ha,h0]
  .cases h
section
variable {P:Program} {w:World} {X:Nat->Prop} {β:Nat->Option Nat}
theorem wm (op:BinOp)(t:TypeId)(x y:Operand)(a b:Value)(ha:∀cs,a ≠ .agg cs)(hn:a ≠ .nilIface):(eqGuard op t x y a b).run P w=.ok () w:=by
 cases a<;>first
  |(exact absurd rfl (ha _))
  |(exact absurd rfl hn)
  |(simp only[eqGuard];split<;>rfl)
theorem pU {op:BinOp}{k:IntKind}{a b:Int}{v:FV}(t:TypeId)(h:gh op k a b=some v):∃u,(binOp op t (.int k a)<|.int k b).run P w=.ok u w/\FRep w X v u:=by
 cases op<;>simp only[gh,r8,reduceCtorEq] at h
 case quo=>
  split at h
  .cases h
  next hb=>simp only[r8] at h;subst h;exact⟨_,by simp[binOp,Op.intDiv,hb],.int _ _⟩
 case rem=>
  split at h
  .cases h
  next hb=>simp only[r8] at h;subst h;exact⟨_,by simp[binOp,Op.intDiv,hb],.int _ _⟩
 all_goals
  subst h
  first
  |exact⟨_,by simp[binOp,Op.intArith],.int _ _⟩
  |exact⟨_,by simp[binOp,Op.intCmp],.bool _⟩
theorem py {op:BinOp}{a b:List UInt8}{v:FV}(t:TypeId)(h:ba op a b=some v):∃u,(binOp op t (.string ⟨a.toArray⟩)<|.string ⟨b.toArray⟩).run P w=.ok u w/\FRep w X v u:=by
 cases op<;>simp only[ba,r8,reduceCtorEq] at h
 case add=>
  split at h
  .rename_i hl;simp only[r8] at h;subst h;refine⟨.string ⟨(a++b).toArray⟩,?_,.str _⟩;have h1:(⟨a.toArray⟩:ByteArray).size=a.length:=by simp[ByteArray.size]
   have h2:(⟨b.toArray⟩:ByteArray).size=b.length:=by simp[ByteArray.size]
   have h3:(⟨a.toArray⟩:ByteArray)++⟨b.toArray⟩=⟨(a++b).toArray⟩:=by
    apply ByteArray.ext;simp
   have h4:¬((((⟨a.toArray⟩:ByteArray).size+(⟨b.toArray⟩:ByteArray).size:Nat):Int)>IntKind.i64.max):=by
    rw[h1,h2];simp only[IntKind.max,IntKind.signed,IntKind.bits];simp;omega
   simp only[binOp,Op.stringOp,h4,rN,h3,sg]
  .cases h
 all_goals
  subst h;exact⟨_,by simp[binOp,Op.stringOp,ByteArray.toList_eq],.bool _⟩
theorem cg {t:TypeId}{k:EK}(h:ekOf P t=some k):(∃d,P.underlying t=some d/\(match d with|.struct _|.array _ _=>False|_=>True)):=by
 unfold ekOf at h;split at h<;>simp_all
theorem kA {t:TypeId}{k:EK}(h:ekOf P t=some k)(cs:Array Value)(off:Nat)(v:Value)(hv:cs[off]?=some v):(part t cs off).run P w=.ok v w:=by
 obtain⟨d,hd,hm⟩:=cg h
 have hi:(isAgg t).run P w=.ok false w:=by
  cases d<;>first|exact hm.elim|simp[isAgg,rj hd]
 simp[part,hi,hv]
theorem uk {k:EK}{l:List EK}{xs ys:List WV}{r:Bool}(h:y9 (k::l) xs ys=some r):
  ∃x y xs' ys' b b',xs=x::xs'/\ys=y::ys'/\y9 l xs' ys'=some b'/\r=(b&&b')/\
   ((k=.int/\∃i n m,x=.a (.fz<|.int i n)/\y=.a (.fz<|.int i m)/\b=(n==m))\/(k=.bool/\∃n m,x=.a (.fz<|.bool n)/\y=.a (.fz<|.bool m)/\b=(n==m))\/
    (k=.str/\∃n m,x=.a (.fz<|.str n)/\y=.a (.fz<|.str m)/\b=(n==m))):=by
 unfold y9 at h;split at h
 next h1=>cases h1
 .rename_i h1;injection h1 with h1 h2
  subst h2;split at h
  next he=>subst he;obtain⟨b',hb,rfl⟩:=oY.1 h;exact⟨_,_,_,_,_,b',rfl,rfl,hb,rfl,.inl ⟨h1,_,_,_,rfl,rfl,rfl⟩⟩
  .cases h
 .rename_i h1;injection h1 with h1 h2
  subst h2;obtain⟨b',hb,rfl⟩:=oY.1 h;exact⟨_,_,_,_,_,b',rfl,rfl,hb,rfl,.inr<|.inl ⟨h1,_,_,rfl,rfl,rfl⟩⟩
 .rename_i h1;injection h1 with h1 h2
  subst h2;obtain⟨b',hb,rfl⟩:=oY.1 h;exact⟨_,_,_,_,_,b',rfl,rfl,hb,rfl,.inr<|.inr ⟨h1,_,_,rfl,rfl,rfl⟩⟩
 .cases h
theorem ui:∀(fs:List Field) (i:Nat) (ks:List EK) (xs ys:List WV) (us vs:List Value) (a9 bs:Array Value) (r:Bool),d8 P i fs=some ks->y9 ks xs ys=some r->
  LRep (WRep w X β) xs us->LRep (WRep w X β) ys vs->(∀j,us[j]?=a9[i+j]?)->(∀j,vs[j]?=bs[i+j]?)->(Op.eqFields 9999 a9 bs fs).run P w=.ok r w
 |[],i,ks,xs,ys,us,vs,a9,bs,r,hk,h,hx,hy,hus,hvs=>by
  simp only[d8,r8] at hk;subst hk;cases xs<;>cases ys<;>simp only[y9,r8,reduceCtorEq] at h
  subst h;rfl
 |f::fs,i,ks,xs,ys,us,vs,a9,bs,r,hk,h,hx,hy,hus,hvs=>by
  simp only[d8] at hk;split at hk
  .rename_i k l hf hl;split at hk
   .rename_i hc;simp only[r8] at hk;subst hk;obtain⟨ho,hn⟩:=hc
    have key:∀(x y:WV) (xs' ys':List WV) (u v:Value) (b b':Bool),xs=x::xs'->ys=y::ys'->y9 l xs' ys'=some b'->us.head? =some u->vs.head? =some v->
      (Op.equalIn 9999 f.type u v).run P w=.ok b w->(Op.eqFields 9999 a9 bs<|f::fs).run P w=.ok (b&&b') w:=by
     intro x y xs' ys' u v b b' e1 e2 hsc hu hv he;subst e1;subst e2;obtain⟨u',us',rfl,_,hx'⟩:=hx.cons_inv;obtain⟨v',vs',rfl,_,hy'⟩:=hy.cons_inv;simp only[List.head?_cons,r8] at hu hv;subst hu;subst hv;have p1:=kA (w:=w) hf a9 f.offset u' (by have:=hus 0;simp at this;rw[ho];exact this.symm);have p2:=kA (w:=w) hf bs f.offset v' (by have:=hvs 0;simp at this;rw[ho];exact this.symm)
     have ih:=ui fs (i+1) l xs' ys' us' vs' a9 bs b' hl hsc hx' hy' (λj=>by have:=hus (j+1);simpa[tR,tX 1 j] using this)
      (λj=>by have:=hvs (j+1);simpa[tR,tX 1 j] using this)
     simp only[Op.eqFields,hn,ne_eq,not_false_eq_true,rG,rW,p1,p2,he,rI,Sem.run_ite];cases b
     .simp
     .simpa using ih
    have fin:∀(x y:WV) (xs' ys':List WV) (b b':Bool),xs=x::xs'->ys=y::ys'->y9 l xs' ys'=some b'->r=(b&&b')->
      (∀u v,WRep w X β x u->WRep w X β y v->(Op.equalIn 9999 f.type u v).run P w=.ok b w)->(Op.eqFields 9999 a9 bs<|f::fs).run P w=.ok r w:=by
     intro x y xs' ys' b b' e1 e2 hsc hr he;have hx2:=hx;have hy2:=hy;rw[e1] at hx2;rw[e2] at hy2;obtain⟨u,us',eu,hu,_⟩:=hx2.cons_inv;obtain⟨v,vs',ev',hv,_⟩:=hy2.cons_inv;rw[hr];exact key x y xs' ys' u v b b' e1 e2 hsc (by rw[eu];rfl) (by rw[ev'];rfl)<|he u v hu hv
    obtain⟨x,y,xs',ys',b,b',e1,e2,hsc,hr,hcase⟩:=uk h;refine fin x y xs' ys' b b' e1 e2 hsc hr ?_;intro u v hu hv;unfold ekOf at hf;rcases hcase with⟨rfl,kk,n,m,rfl,rfl,rfl⟩|⟨rfl,n,m,rfl,rfl,rfl⟩|⟨rfl,n,m,rfl,rfl,rfl⟩
    .split at hf<;>simp only[r8,reduceCtorEq] at hf
     rename_i hd;rw[TRep.int_inv (β:=β) (X:=X) (w:=w) hu,TRep.int_inv (β:=β) (X:=X) (w:=w) hv];exact run_equalIn_int w 9998 _ _ _ _ _ hd
    .split at hf<;>simp only[r8,reduceCtorEq] at hf
     rename_i hd;rw[TRep.bool_inv (β:=β) (X:=X) (w:=w) hu,TRep.bool_inv (β:=β) (X:=X) (w:=w) hv];exact run_equalIn_bool' w 9998 _ _ _ hd
    .split at hf<;>simp only[r8,reduceCtorEq] at hf
     rename_i hd;rw[TRep.str_inv (β:=β) (X:=X) (w:=w) hu,TRep.str_inv (β:=β) (X:=X) (w:=w) hv];have:=run_equalIn_string (P:=P) w 9998 f.type ⟨n.toArray⟩ ⟨m.toArray⟩ hd;simpa[ByteArray.toList_eq] using this
   .cases hk
  .cases hk
theorem fY {P:Program}{u:TypeDesc}(h:xH P u=.bool):u=.bool:=by cases u<;>simp_all[xH]<;>split at h<;>simp_all
theorem ki {P:Program}{u:TypeDesc}{e:TypeId}(h:xH P u=.slice e):u=.slice e:=by cases u<;>simp_all[xH]<;>split at h<;>simp_all
theorem aV {P:Program}{u:TypeDesc}{e:TypeId}(h:xH P u=.ptr e):u=.pointer e:=by cases u<;>simp_all[xH]<;>split at h<;>simp_all
theorem W8 {P:Program}{u:TypeDesc}{k:IntKind}(h:xH P u=.int k):u=.int k:=by cases u<;>simp_all[xH]<;>split at h<;>simp_all
theorem Z7 {P:Program}{u:TypeDesc}(h:xH P u=.str):u=.string:=by cases u<;>simp_all[xH]<;>split at h<;>simp_all
theorem aO {P:Program}{u:TypeDesc}{n:Nat}{e:TypeId}(h:xH P u=.arr n e):u=.array n e:=by cases u<;>simp_all[xH]<;>split at h<;>simp_all
theorem WM {P:Program}{u:TypeDesc}{l:List (Nat×Nat×TypeId)}(h:xH P u=.struct l):
  ∃fs,u=.struct fs/\(l=fs.toList.map λf=>(f.offset,P.cellsOf f.type,f.type))/\∀f∈fs.toList,∃i,P.info? f.type=some i:=by
 cases u with
 |struct fs=>
  simp only[xH] at h;split at h
  .rename_i hc;injection h with h
   refine⟨fs,rfl,h.symm,λf hf=>?_⟩;have:=rP.1 hc f hf;exact Option.isSome_iff_exists.1 this
  .cases h
 |_=>simp[xH] at h
theorem pl {P:Program}{u:TypeDesc}{k e:TypeId}(h:xH P u=.map k e):u=.map k e:=by cases u<;>simp_all[xH]<;>split at h<;>simp_all
theorem xI {t:TypeId}{d:TyD}(h:tyOf P t=some d):∃u,P.underlying t=some u/\d.kind=xH P u:=by
 obtain⟨_,u,_,hu,_,_,_,_,hk⟩:=wC h;exact⟨u,hu,hk⟩
theorem od {t e:TypeId}{x y:WV}{u v:Value}{r:Bool}(ht:P.underlying t=some (.slice e))(h:nilSl x y=some r)(hx:WRep w X β x u)(hy:WRep w X β y v)(d:Nat):(Op.equalIn (d+1) t u v).run P w=.ok r w:=by
 unfold nilSl at h;split at h<;>simp only[r8,reduceCtorEq] at h<;>subst h
 .rw[TRep.nils_inv (X:=X) (β:=β) hx,TRep.nils_inv (X:=X) (β:=β) hy];simp[Op.equalIn,rj ht]
 .rw[TRep.nils_inv (X:=X) (β:=β) hy];have h1:=TRep.fz_inv (X:=X) (β:=β) hx;cases h1<;>simp[Op.equalIn,rj ht]
 .rw[TRep.nils_inv (X:=X) (β:=β) hy];have h1:=TRep.fz_inv (X:=X) (β:=β) hx;cases h1;simp[Op.equalIn,rj ht]
 .rw[TRep.nils_inv (X:=X) (β:=β) hy];obtain⟨_,_,_,_,_,_,_,_,_,_,rfl⟩|⟨h0,_⟩:=TRep.osl_inv (X:=X) (β:=β) hx
  .simp[Op.equalIn,rj ht]
  .cases h0
 .rw[TRep.nils_inv (X:=X) (β:=β) hy];have h1:=TRep.fz_inv (X:=X) (β:=β) hx;cases h1;simp[Op.equalIn,rj ht]
theorem pK {t e:TypeId}{x y:WV}{u v:Value}{r:Bool}(ht:P.underlying t=some (.pointer e))(h:Kv x y=some r)(hx:WRep w X β x u)(hy:WRep w X β y v)(d:Nat):(Op.equalIn (d+1) t u v).run P w=.ok r w:=by
 have hc:∀ {v:Value},WRep w X β (.a<|.fz<|.cst<|.pointer none) v->v=.pointer none:=λh=>by have h1:=TRep.fz_inv (X:=X) (β:=β) h;cases h1;rfl
 unfold Kv at h;split at h<;>simp only[r8,reduceCtorEq] at h<;>subst h
 .rw[hc hy];obtain⟨_,_,rfl⟩:=TRep.ep_inv (X:=X) (β:=β) hx;simp[Op.equalIn,rj ht]
 .rw[hc hy];have h1:=TRep.fz_inv (X:=X) (β:=β) hx;cases h1;simp[Op.equalIn,rj ht]
 .rw[hc hy,hc hx];simp[Op.equalIn,rj ht]
theorem eqC_run {t:TypeId}{x y:WV}{u v:Value}{r:Bool}(h:eqC P t x y=some r)(hx:WRep w X β x u)(hy:WRep w X β y v):(Op.equal t u v).run P w=.ok r w:=by
 unfold eqC at h;split at h
 .rename_i d hd;obtain⟨du,hu,hk⟩:=xI hd;split at h
  .rename_i hb;rw[hk] at hb;have:=fY hb;subst this;split at h<;>simp only[r8,reduceCtorEq] at h
   subst h;rw[TRep.bool_inv (X:=X) (β:=β) hx,TRep.bool_inv (X:=X) (β:=β) hy];exact run_equalIn_bool' w 9999 _ _ _ hu
  next e hb=>rw[hk] at hb;exact od (ki hb▸hu) h hx hy 9999
  next e hb=>rw[hk] at hb;exact pK (aV hb▸hu) h hx hy 9999
  .cases h
 .cases h
theorem YB (t:TypeId)(u v:Value)(r:Bool)(h1:∀k n,u ≠ .int k n)(h2:∀s,u ≠ .string s)(h3:∀k n,u ≠ .float k n)(h4:∀k n m,u ≠ .complex k n m)(h:(Op.equal t u v).run P w=.ok r w):
  (binOp .eql t u v).run P w=.ok (.bool r) w/\(binOp .neq t u v).run P w=.ok (.bool (!r)) w:=by
 cases u<;>first
  |exact absurd rfl (h1 _ _)
  |exact absurd rfl (h2 _)
  |exact absurd rfl (h3 _ _)
  |exact absurd rfl (h4 _ _ _)
  |(constructor<;>simp[binOp,h])
theorem eqA_run {op:BinOp}{t:TypeId}{x y r:TV}{u v:Value}(xo yo:Operand)(h:eqOp op (eqA P t x y)=some r)(hx:TRep w X β x u)(hy:TRep w X β y v):
  ∃z,((do eqGuard op t xo yo u v;binOp op t u v:Sem Value)).run P w=.ok z w/\TRep w X β r z:=by
 have fin:∀b,eqOp op (some b)=some r->(eqGuard op t xo yo u v).run P w=.ok () w->(Op.equal t u v).run P w=.ok b w->(∀k n,u ≠ .int k n)->(∀s,u ≠ .string s)->(∀k n,u ≠ .float k n)->(∀k n m,u ≠ .complex k n m)->
   ∃z,((do eqGuard op t xo yo u v;binOp op t u v:Sem Value)).run P w=.ok z w/\TRep w X β r z:=by
  intro b hb hg he h1 h2 h3 h4;obtain⟨e1,e2⟩:=YB t u v b h1 h2 h3 h4 he;unfold eqOp at hb;split at hb<;>simp only[ry,r8,reduceCtorEq] at hb<;>subst hb
  .exact⟨_,by simp only[rW,hg,rI,e1],.bool_mk _⟩
  .exact⟨_,by simp only[rW,hg,rI,e2],.bool_mk _⟩
 cases hq:eqA P t x y with
 |none=>rw[hq] at h;unfold eqOp at h;split at h<;>simp at h
 |some b=>
  rw[hq] at h;unfold eqA at hq;split at hq
  .rename_i xs ys;split at hq
   .rename_i ks hks;obtain⟨us,rfl,hl⟩:=hx;obtain⟨vs,rfl,hr⟩:=hy;unfold jc at hks;split at hks
    .rename_i fs hfs;split at hks
     .rename_i hc;have hf:P.fieldsOf t=fs:=by simp[Program.fieldsOf,hfs]
      have hrun:=ui fs.toList 0 ks xs ys us vs us.toArray vs.toArray b hks hq hl hr zb zb;refine fin b h (run_eqGuard_agg w op t xo yo _ _ hc.2) ?_ zb zb zb zb;have:=run_equalIn_agg (P:=P) w 9999 t us.toArray vs.toArray (by rw[hf];exact hfs) hc.1;rw[hf] at this;exact this.trans hrun
     .cases hks
    .cases hks
   .cases hq
  .rename_i x y;have h1:=WRep.oneCell hx
   have hkind:(∀cs,u ≠ .agg cs)/\u ≠ .nilIface/\(∀k n,u ≠ .int k n)/\(∀s,u ≠ .string s)/\(∀k n,u ≠ .float k n)/\(∀k n m,u ≠ .complex k n m):=by
    unfold eqC at hq;split at hq
    .split at hq
     .split at hq
      .rw[TRep.bool_inv (X:=X) (β:=β) hx];simp
      .cases hq
     .unfold nilSl at hq;split at hq
      .rw[TRep.nils_inv (X:=X) (β:=β) hx];simp
      .have h1:=TRep.fz_inv (X:=X) (β:=β) hx;cases h1<;>simp
      .have h1:=TRep.fz_inv (X:=X) (β:=β) hx;cases h1;simp
      .obtain⟨_,_,_,_,_,_,_,_,_,_,rfl⟩|⟨_,rfl⟩:=TRep.osl_inv (X:=X) (β:=β) hx<;>simp
      .have h1:=TRep.fz_inv (X:=X) (β:=β) hx;cases h1;simp
      .cases hq
     .unfold Kv at hq;split at hq
      .obtain⟨_,_,rfl⟩:=TRep.ep_inv (X:=X) (β:=β) hx;simp
      .have h1:=TRep.fz_inv (X:=X) (β:=β) hx;cases h1;simp
      .have h1:=TRep.fz_inv (X:=X) (β:=β) hx;cases h1;simp
      .cases hq
     .cases hq
    .cases hq
   exact fin b h (wm op t xo yo u v hkind.1 hkind.2.1) (eqC_run hq hx hy) hkind.2.2.1 hkind.2.2.2.1 hkind.2.2.2.2.1 hkind.2.2.2.2.2
  .cases hq
theorem binA_run {op:BinOp}{t:TypeId}{x y r:TV}{u v:Value}(xo yo:Operand)(h:binA P t op x y=some r)(hx:TRep w X β x u)(hy:TRep w X β y v):
  ∃z,((do eqGuard op t xo yo u v;binOp op t u v:Sem Value)).run P w=.ok z w/\TRep w X β r z:=by
 unfold binA at h;split at h
 .split at h
  next hk=>subst hk;obtain⟨f,hf,rfl⟩:=oY.1 h;rw[TRep.int_inv hx,TRep.int_inv hy];obtain⟨z,hz,hr⟩:=pU (P:=P) (w:=w) (X:=X) t hf;exact⟨z,by rw[rW,wm op t xo yo _ _ zb zb];exact hz,.fz_mk hr⟩
  .cases h
 .obtain⟨f,hf,rfl⟩:=oY.1 h;rw[TRep.str_inv hx,TRep.str_inv hy];obtain⟨z,hz,hr⟩:=py (P:=P) (w:=w) (X:=X) t hf;exact⟨z,by rw[rW,wm op t xo yo _ _ zb zb];exact hz,.fz_mk hr⟩
 .exact eqA_run xo yo h hx hy
theorem unA_run {op:UnOp}{x r:TV}{u:Value}(h:unA op x=some r)(hx:TRep w X β x u):∃z,(Op.unary op u).run P w=.ok z w/\TRep w X β r z:=by
 unfold unA at h;split at h
 .rw[TRep.int_inv hx];split at h<;>simp only[r8,reduceCtorEq] at h
  subst h;exact⟨_,rfl,.int_mk _ _⟩
 .rw[TRep.bool_inv hx];split at h<;>simp only[r8,reduceCtorEq] at h
  subst h;exact⟨_,by simp[Op.unary],.bool_mk _⟩
 .cases h
end
section
variable {P:Program} {w:World} {X:Nat->Prop} {β:Nat->Option Nat}
theorem Jo {x r:TV}{u:Value}{o:Oper}(ev:Operand->Value)(xo:Operand)(ho:o.op=.nilCheck xo)(hu:ev xo=u)(h:qF x=some r)(hx:TRep w X β x u):(execOp ev o).run P w=.ok (.value u) w/\TRep w X β r u:=by
 unfold qF at h;split at h<;>simp only[r8,reduceCtorEq] at h<;>subst h
 .obtain⟨b,hb,rfl⟩:=hx.ep_inv;exact⟨by simp[execOp,ho,hu],hx⟩
 .have h1:=hx.fz_inv;cases h1;exact⟨by simp[execOp,ho,hu],hx⟩
 .cases id hx with
  |fn f first cap us vs h1 h2=>exact⟨by simp[execOp,ho,hu],hx⟩
theorem lK {c x y r:TV}{cu xu yu:Value}(h:pickV c x y=some r)(hc:TRep w X β c cu)(hx:TRep w X β x xu)(hy:TRep w X β y yu):
  ∃b,cu=.bool b/\TRep w X β r (if b then xu else yu):=by
 unfold pickV at h;split at h<;>simp only[r8,reduceCtorEq] at h
 subst h;rename_i t;refine⟨t,hc.bool_inv,?_⟩;unfold pickT;split
 .rw[hx.bool_inv,hy.bool_inv];cases t<;>exact .bool_mk _
 .grind
theorem gA {x r:TV}{u:Value}{i:Nat}(h:WK x i=some r)(hx:TRep w X β x u):∃z,(Instr.extract u i).run P w=.ok z w/\TRep w X β r z:=by
 unfold WK at h;split at h
 .rename_i vs;obtain⟨us,rfl,hl⟩:=hx;split at h<;>simp only[r8,reduceCtorEq] at h<;>subst h
  next cs hv=>obtain⟨z,hz,us',rfl,hl',_⟩:=hl.get hv;exact⟨.agg us'.toArray,by simp[Instr.extract,hz,shut],us',rfl,hl'⟩
  next c hv=>obtain⟨z,hz,us',rfl,hl',_⟩:=hl.get hv;obtain⟨u,us'',rfl,hc,_⟩:=hl'.cons_inv;exact⟨u,by simp[Instr.extract,hz,shut],hc⟩
 .cases h
theorem Kt {x r:TV}{u:Value}{dst:TypeId}{d:TyD}(src:TypeId)(hs:∃e,P.underlying src=some e/\(∀k n,u=.int k n->True))(hd:tyOf P dst=some d)(h:ZL d x=some r)(hx:TRep w X β x u):
  ∃z,(convert src dst u).run P w=.ok z w/\TRep w X β r z:=by
 obtain⟨su,hsu,_⟩:=hs;obtain⟨du,hdu,hk⟩:=xI hd;unfold ZL at h;split at h
 .rename_i k hkk;rw[hk] at hkk;have:=W8 hkk;subst this;split at h<;>simp only[r8,reduceCtorEq] at h
  subst h;rw[hx.int_inv];refine⟨_,?_,.int_mk _ _⟩;simp[convert,rj hsu,rj hdu,Conv.intToInt]
 .rename_i hkk;rw[hk] at hkk;have:=Z7 hkk;subst this;split at h<;>simp only[r8,reduceCtorEq] at h
  subst h;rw[hx.str_inv];refine⟨_,?_,.str_mk _⟩;simp[convert,rj hsu,rj hdu]
 .cases h
theorem jb {t:TypeId}{d:TyD}{l:List (Nat×Nat×TypeId)}(h:tyOf P t=some d)(hk:d.kind=.struct l):
  ∃fs,P.underlying t=some (.struct fs)/\(l=fs.toList.map λf=>(f.offset,P.cellsOf f.type,f.type))/\∀f∈fs.toList,∃i,P.info? f.type=some i:=by
 obtain⟨u,hu,hk'⟩:=xI h;rw[hk'] at hk;obtain⟨fs,rfl,hl,hf⟩:=WM hk
 grind
theorem Xp {f:Field}{b off:Nat}(h:P.cellsOf f.type≠0):(fieldPlace ⟨b,off,none⟩ f).run P w=.ok ⟨b,off+f.offset,none⟩ w:=by
 have hs:∃i,P.info? f.type=some i/\i.size≠0:=by
  unfold Program.cellsOf at h;cases hi:P.info? f.type with
  |none=>simp[hi] at h
  |some i=>exact⟨i,rfl,zd⟩
 obtain⟨i,hi,hne⟩:=hs;simp[fieldPlace,sizeOf,typeInfo,hi,hne,Addr.add_lit]
theorem Xi {x r:TV}{u:Value}{s:TypeId}{d:TyD}{f:Nat}(hd:tyOf P s=some d)(h:kQ d x f=some r)(hx:TRep w X β x u):
  ∃z,(Instr.fieldAt s u f).run P w=.ok z w/\TRep w X β r z:=by
 unfold kQ at h;split at h
 .rename_i l hk;obtain⟨fs,hfs,rfl,_⟩:=jb hd hk;split at h
  .rename_i fd hfd;rw[rq] at hfd;obtain⟨fl,hfl,rfl⟩:=oY.1 hfd;have hfa:fs[f]?=some fl:=zd
   split at h
   .cases h
   .rename_i hne;have hfp:∀b off,(fieldPlace ⟨b,off,none⟩ fl).run P w=.ok ⟨b,off+fl.offset,none⟩ w:=λ_ _=>Xp hne;split at h<;>simp only[r8,reduceCtorEq] at h<;>subst h
    .obtain⟨b,hb,rfl⟩:=hx.ep_inv;refine⟨_,by simp[Instr.fieldAt,rj hfs,hfa,Instr.sureAddr,hfp];rfl,?_⟩;rw[tR];exact .a _ _<|.ep _ _ _ _ b hb
    .have h1:=hx.fz_inv;cases h1 with
     |pt cs b off u h2 h3 h4 h5=>
      refine⟨_,by simp[Instr.fieldAt,rj hfs,hfa,Instr.sureAddr,hfp];rfl,?_⟩;refine .fz_mk<|.pt _ b (off+fl.offset) (λj=>u<|fl.offset+j) h2 h3 (λj x hx=>?_) λj x hx=>?_
      .grind
      .grind
  .cases h
 .cases h
theorem gI {t:TypeId}{d:TyD}{cs:List WV}{us:List Value}{off:Nat}{r:TV}(hd:tyOf P t=some d)(h:partA d.agg d.size cs off=some r)(hl:LRep (WRep w X β) cs us):
  ∃z,(part t us.toArray off).run P w=.ok z w/\TRep w X β r z:=by
 unfold partA at h;split at h
 .rename_i ha;split at h<;>simp only[r8,reduceCtorEq] at h
  subst h;refine⟨.agg<|us.toArray.extract off<|off+d.size,by simp[part,qd hd,ha,y7 hd],(us.drop off).take d.size,?_,(hl.drop off).take _⟩
  grind
 next ha=>obtain⟨c,hc,rfl⟩:=oY.1 h;obtain⟨u,hu,hr⟩:=hl.get hc;exact⟨u,by simp[part,qd hd,ha,hu],hr⟩
theorem pN {x r:TV}{u:Value}{s:TypeId}{d:TyD}{f:Nat}(hd:tyOf P s=some d)(h:np P d x f=some r)(hx:TRep w X β x u):
  ∃z,(Instr.field s u f).run P w=.ok z w/\TRep w X β r z:=by
 unfold np at h;split at h
 .rename_i l hk;obtain⟨fs,hfs,rfl,_⟩:=jb hd hk;split at h
  .rename_i fd hfd;rw[rq] at hfd;obtain⟨fl,hfl,rfl⟩:=oY.1 hfd;have hfa:fs[f]?=some fl:=zd
   split at h
   next df cs hdf=>obtain⟨us,rfl,hl⟩:=hx;obtain⟨z,hz,hr⟩:=gI hdf h hl;exact⟨z,by simp[Instr.field,rj hfs,hfa,asAgg,hz],hr⟩
   .cases h
  .cases h
 .cases h
theorem xc {t e:TypeId}{d:TyD}(h:tyOf P t=some d)(hk:d.kind=.slice e):P.underlying t=some (.slice e):=by
 obtain⟨u,hu,hk'⟩:=xI h;rw[hk'] at hk;exact ki hk▸hu
theorem ZM {t e:TypeId}{n:Nat}{d:TyD}(h:tyOf P t=some d)(hk:d.kind=.arr n e):P.underlying t=some (.array n e):=by
 obtain⟨u,hu,hk'⟩:=xI h;rw[hk'] at hk;exact aO hk▸hu
theorem WF {t:TypeId}{d:TyD}(h:tyOf P t=some d)(hk:d.kind=.str):P.underlying t=some .string:=by
 obtain⟨u,hu,hk'⟩:=xI h;rw[hk'] at hk;exact Z7 hk▸hu
theorem dX {i:Int}{n:Nat}(h0:0<=i)(h:i<n):i.toNat<n:=za
theorem kX {x ix r:TV}{u iu:Value}{t:TypeId}{d:TyD}(hd:tyOf P t=some d)(h:xb P d x ix=some r)(hx:TRep w X β x u)(hi:TRep w X β ix iu):
  ∃z,(Instr.indexAt t u iu).run P w=.ok z w/\TRep w X β r z:=by
 unfold xb at h;split at h
 .rename_i k i;rw[hi.int_inv];split at h
  .rename_i e hk;have ht:=xc hd hk;split at h
   .rename_i de hde;unfold W3 at h;split at h
    .split at h<;>simp only[r8,reduceCtorEq] at h
     rename_i o n off len hc;obtain⟨hsz,h0,h1⟩:=hc;subst h;obtain⟨b,q,cap,sz,tt,hb,hs,hlc,hcap,hq,rfl⟩:=hx.osl_inv.resolve_right (λh=>za);subst hsz;have hq:q=off*de.size:=hq.resolve_right za;subst hq;refine⟨.pointer<|some ⟨b,(off+i.toNat)*de.size+0,none⟩,?_,.a _ _<|.ep _ _ _ _ b hb⟩;simp[Instr.indexAt,asIntOf,rj ht,h0,h1,y7 hde,Addr.add_lit,sL]
    .rename_i nn n es;split at h<;>simp only[r8,reduceCtorEq] at h
     rename_i hc;obtain⟨hsz,h0,h1⟩:=hc;subst h;have h2:=hx.fz_inv;cases h2 with
     |slnil=>simp at h1;omega
     |sl0=>simp at h1;omega
     |sl nn n es b off cap len u g1 g2 g3 g4 g5 g6 g7=>
      have hlt:=dX h0 h1;have hg:es[i.toNat]?=some (es.getD i.toNat []):=by simp[List.getD,rf hlt]
      refine⟨.pointer<|some ⟨b,off+i.toNat*de.size,none⟩,?_,?_⟩
      .rw[g1];simp[Instr.indexAt,asIntOf,rj ht,h0,h1,y7 hde,Addr.add_lit]
      .rw[hsz];exact .fz_mk<|.pt _ b _ (u i.toNat) g3 g4 (λj f hf=>g6 _ _ _ _ hg hf) λj f hf=>g7 _ _ _ _ hg hf
    .cases h
   .cases h
  .rename_i m e hk;have ht:=ZM hd hk;split at h
   .rename_i de hde;unfold fk at h;split at h
    .split at h<;>simp only[r8,reduceCtorEq] at h
     rename_i hc;obtain⟨h0,h1⟩:=hc;subst h;obtain⟨b,hb,rfl⟩:=hx.ep_inv;refine⟨_,by simp[Instr.indexAt,asIntOf,rj ht,h0,h1,y7 hde,Addr.add_lit,Instr.sureAddr];rfl,?_⟩;rw[tR];exact .a _ _<|.ep _ _ _ _ b hb
    .cases h
   .cases h
  .cases h
 .cases h
theorem pW {x ix r:TV}{u iu:Value}{t:TypeId}{d:TyD}(hd:tyOf P t=some d)(h:Xz P d x ix=some r)(hx:TRep w X β x u)(hi:TRep w X β ix iu):
  ∃z,(Instr.index t u iu).run P w=.ok z w/\TRep w X β r z:=by
 unfold Xz at h;split at h
 .rename_i k i;rw[hi.int_inv];split at h
  .rename_i hk;have ht:=WF hd hk;split at h
   .split at h<;>simp only[r8,reduceCtorEq] at h
    rename_i l hc;obtain⟨h0,h1⟩:=hc;subst h;rw[hx.str_inv];have hlt:=dX h0 h1
    have hg:(⟨l.toArray⟩:ByteArray)[i.toNat]?=some (l.getD i.toNat 0):=by
     have hs:i.toNat<(⟨l.toArray⟩:ByteArray).size:=by simpa[ByteArray.size] using hlt
     rw[getElem?_pos (⟨l.toArray⟩:ByteArray) i.toNat hs];simp only[ByteArray.getElem_eq_getElem_data,List.getElem_toArray,List.getD,rf hlt,sN]
    refine⟨.int .u8 (l.getD i.toNat 0).toNat,?_,.int_mk _ _⟩;simp only[Instr.index,asIntOf,rW,sg,rI,rj ht,h0,↓reduceIte,hg]
   .cases h
  .rename_i m e hk;have ht:=ZM hd hk;split at h
   .rename_i de cs hde;split at h
    next hc=>obtain⟨h0,h1⟩:=hc;obtain⟨us,rfl,hl⟩:=hx;obtain⟨z,hz,hr⟩:=gI hde h hl;exact⟨z,by simp[Instr.index,asIntOf,rj ht,h0,h1,y7 hde,hz],hr⟩
    .cases h
   .cases h
  .cases h
 .cases h
theorem K9:∀ {cs:List WV} {xs:List AV} {us:List Value},aK cs=some xs->LRep (WRep w X β) cs us->LRep (ARep w X β) xs us
 |[],xs,us,h,hl=>by
  simp only[aK,r8] at h;subst h;rw[hl.nil_inv];exact .nil
 |.a x::r,xs,us,h,hl=>by
  simp only[aK] at h;obtain⟨l,hl',rfl⟩:=oY.1 h;obtain⟨u,us',rfl,hu,hus⟩:=hl.cons_inv;cases hu with
  |a _ _ hu=>exact .cons hu<|K9 hl' hus
 |.fn _ _ _::r,xs,us,h,hl=>by simp[aK] at h
theorem kR:∀ {cs:List TV} {xs:List (Bool×List AV)} {us:List Value},uY cs=some xs->LRep (TRep w X β) cs us->LRep (PRep<|ARep w X β) xs us
 |[],xs,us,h,hl=>by
  simp only[uY,r8] at h;subst h;rw[hl.nil_inv];exact .nil
 |.c (.a x)::r,xs,us,h,hl=>by
  simp only[uY] at h;obtain⟨l,hl',rfl⟩:=oY.1 h;obtain⟨u,us',rfl,hu,hus⟩:=hl.cons_inv;cases hu with
  |a _ _ hu=>exact .cons ⟨[u],rfl,.cons hu .nil,λ_=>rfl⟩<|kR hl' hus
 |.agg cs::r,xs,us,h,hl=>by
  simp only[uY] at h;obtain⟨ys,hys,h⟩:=sO.1 h;obtain⟨l,hl',rfl⟩:=oY.1 h;obtain⟨u,us',rfl,hu,hus⟩:=hl.cons_inv;obtain⟨vs,rfl,hvs⟩:=hu;exact .cons ⟨vs,rfl,K9 hys hvs,λh=>by simp at h⟩<|kR hl' hus
 |.c (.fn _ _ _)::r,xs,us,h,hl=>by simp[uY] at h
 |.any::r,xs,us,h,hl=>by simp[uY] at h
 |.tup _::r,xs,us,h,hl=>by simp[uY] at h
theorem Jy {fn:Fn}{first captured:List TV}{us vs:List Value}{r:TV}(h:Yy fn first captured=some r)(h1:LRep (TRep w X β) first us)(h2:LRep (TRep w X β) captured vs):
  TRep w X β r (.func fn us.toArray vs.toArray):=by
 unfold Yy at h;split at h<;>simp only[r8,reduceCtorEq] at h
 rename_i a b;subst h;exact .fn _ _ _ _ _ (kR a h1)<|kR b h2
def bnd (x:Option TV)(v:Option Value)(w:World)(X:Nat->Prop)(β:Nat->Option Nat):Prop:=
 match x,v with
 |none,none=>True
 |some x,some v=>TRep w X β x v
 |_,_=>False
theorem yH {x:Option TV}{v:Option Value}{dflt most n:Nat}(h:wv x dflt most=some n)(hb:bnd x v w X β):
  (v=none/\n=dflt)\/(∃k i,v=some (.int k i)/\0<=i/\i.toNat=n/\n<=most/\∀code most',most<=most'->(Instr.sliceBound (.int k i) most' code).run P w=.ok n w):=by
 unfold wv at h;split at h
 .simp only[r8] at h;cases v with
  |none=>exact .inl ⟨rfl,h.symm⟩
  |some v=>exact hb.elim
 .rename_i k i;split at h<;>simp only[r8,reduceCtorEq] at h
  rename_i hc;cases v with
  |none=>exact hb.elim
  |some v=>
   have:=TRep.int_inv hb;subst this;refine .inr ⟨_,_,rfl,hc.1,h,za,λcode most' hm=>?_⟩;have:i<=most':=za
   simp[Instr.sliceBound,asIntOf,hc.1,this,h]
 .cases h
theorem gB {lo hi mx:Option TV} {l h m:Option Value} {len cap a b c:Nat} (isSlice:Bool) (hc:wv mx len len=some c) (hb:wv hi len len=some b) (ha:wv lo 0 b=some a) (hbc:b<=c) (hlc:len<=cap)
  (hm:bnd mx m w X β) (hh:bnd hi h w X β) (hl:bnd lo l w X β) (hhm:mx.isSome=true->hi.isSome=true):
  ∃m',(Instr.sliceBounds isSlice len cap l h m).run P w=.ok (a,b,m') w/\b<=m'/\m'<=cap/\a<=b/\b<=len:=by
 have hbl:b<=len:=by
  rcases yH (P:=P) hb hh with⟨_,h1⟩|⟨_,_,_,_,_,h1,_⟩<;>omega
 have hab:a<=b:=by
  rcases yH (P:=P) ha hl with⟨_,h1⟩|⟨_,_,_,_,_,h1,_⟩<;>omega
 rcases yH (P:=P) hc hm with⟨rfl,rfl⟩|⟨km,im,rfl,_,_,hcl,hmr⟩
 .refine⟨cap,?_,za,r6 _,hab,hbl⟩;rcases yH (P:=P) hb hh with⟨rfl,rfl⟩|⟨kh,ih,rfl,_,_,_,hhr⟩
  .rcases yH (P:=P) ha hl with⟨rfl,rfl⟩|⟨kl,il,rfl,_,_,_,hlr⟩
   .simp[Instr.sliceBounds]
   .simp[Instr.sliceBounds,hlr _ _<|r6 _]
  .rcases yH (P:=P) ha hl with⟨rfl,rfl⟩|⟨kl,il,rfl,_,_,_,hlr⟩
   .simp[Instr.sliceBounds,hhr _ _ hlc]
   .simp[Instr.sliceBounds,hlr _ _<|r6 _,hhr _ _ hlc]
 .refine⟨c,?_,hbc,za,hab,hbl⟩;rcases yH (P:=P) hb hh with⟨rfl,rfl⟩|⟨kh,ih,rfl,_,_,_,hhr⟩
  .cases mx with
   |none=>exact hm.elim
   |some x=>cases hi with
    |none=>simp at hhm
    |some y=>exact hh.elim
  .have hbr:∀code,(Instr.sliceBound (.int kh ih) c code).run P w=.ok b w:=by
    intro code;have h2:0<=ih/\ih.toNat=b:=by constructor<;>assumption
    have h1:ih<=c:=za
    simp[Instr.sliceBound,asIntOf,h2.1,h1,h2.2]
   rcases yH (P:=P) ha hl with⟨rfl,rfl⟩|⟨kl,il,rfl,_,_,_,hlr⟩
   .simp[Instr.sliceBounds,hmr _ _ hlc,hbr]
   .simp[Instr.sliceBounds,hmr _ _ hlc,hbr,hlr _ _<|r6 _]
theorem Jh {lo hi mx:Option TV} {l h m:Option Value} {len cap:Nat} (isSlice:Bool) (hc:wv mx len len=some 0) (hb:wv hi len len=some 0) (ha:wv lo 0 0=some 0) (hlc:len<=cap)
  (hm:bnd mx m w X β) (hh:bnd hi h w X β) (hl:bnd lo l w X β) (hms:mx.isSome=true) (hhm:hi.isSome=true):
  (Instr.sliceBounds isSlice len cap l h m).run P w=.ok (0,0,0) w:=by
 rcases yH (P:=P) hc hm with⟨rfl,_⟩|⟨km,im,rfl,_,_,hcl,hmr⟩
 .cases mx with
  |none=>simp at hms
  |some x=>exact hm.elim
 .rcases yH (P:=P) hb hh with⟨rfl,rfl⟩|⟨kh,ih,rfl,_,_,_,hhr⟩
  .cases hi with
   |none=>simp at hhm
   |some y=>exact hh.elim
  .have hbr:∀code,(Instr.sliceBound (.int kh ih) 0 code).run P w=.ok 0 w:=by
    intro code;have h2:0<=ih/\ih.toNat=0:=by constructor<;>assumption
    have h1:ih<=0:=za
    simp[Instr.sliceBound,asIntOf,h2.1,h1,h2.2]
   rcases yH (P:=P) ha hl with⟨rfl,_⟩|⟨kl,il,rfl,_,_,_,hlr⟩
   .simp[Instr.sliceBounds,hmr _ _ hlc,hbr]
   .simp[Instr.sliceBounds,hmr _ _ hlc,hbr,hlr _ _<|r6 _]
end
section
variable {P:Program} {w:World} {X:Nat->Prop} {β:Nat->Option Nat}
theorem Zg (l:List UInt8)(a b:Nat):(⟨l.toArray⟩:ByteArray).extract a b=⟨((l.take b).drop a).toArray⟩:=by
 apply ByteArray.ext;apply tV;simp[ByteArray.data_extract,List.extract_eq_take_drop,List.drop_take]
theorem wz {lo hi mx:Option TV} {l h m:Option Value} {len cap:Nat} {p:Nat×Nat} (isSlice:Bool) (hb:Zz lo hi mx len=some p) (hlc:len<=cap)
  (hl:bnd lo l w X β) (hh:bnd hi h w X β) (hm:bnd mx m w X β):∃m',(Instr.sliceBounds isSlice len cap l h m).run P w=.ok (p.1,p.2,m') w/\p.2<=m'/\m'<=cap/\p.1<=p.2/\p.2<=len:=by
 unfold Zz at hb;split at hb
 .rename_i c b hc hbb;split at hb
  next hcond=>obtain⟨a,ha,rfl⟩:=oY.1 hb;exact gB isSlice hc hbb ha hcond.1 hlc hm hh hl hcond.2
  .cases hb
 .cases hb
theorem po {lo hi mx:Option TV} {l h m:Option Value} {len cap:Nat} {p:Nat×Nat} (isSlice:Bool) (hz:uo mx=true) (hb:Zz lo hi mx len=some p) (hlc:len<=cap)
  (hl:bnd lo l w X β) (hh:bnd hi h w X β) (hm:bnd mx m w X β):(Instr.sliceBounds isSlice len cap l h m).run P w=.ok (0,0,0) w:=by
 have hm0:wv mx len len=some 0:=by
  unfold uo at hz;split at hz
  .simp only[rT] at hz;subst hz;simp[wv]
  .cases hz
 have hms:mx.isSome=true:=by
  unfold uo at hz;split at hz
  .rfl
  .cases hz
 unfold Zz at hb;rw[hm0] at hb;split at hb
 .rename_i c b hcc hbb;simp only[r8] at hcc;subst hcc;split at hb
  .rename_i hcond;obtain⟨a,ha,rfl⟩:=oY.1 hb;have hb0:b=0:=za
   subst hb0
   have ha0:a=0:=by
    rcases yH (P:=P) ha hl with⟨_,h1⟩|⟨_,_,_,_,_,h1,_⟩<;>omega
   subst ha0;exact Jh isSlice hm0 hbb ha hlc hm hh hl hms<|hcond.2 hms
  .cases hb
 .cases hb
theorem Ko {x r:TV} {u:Value} {t:TypeId} {d:TyD} {lo hi mx:Option TV} {l h m:Option Value} (hd:tyOf P t=some d) (hs:wP P d x lo hi mx=some r) (hx:TRep w X β x u)
  (hl:bnd lo l w X β) (hh:bnd hi h w X β) (hm:bnd mx m w X β):∃z,(Instr.sliceAt t u l h m).run P w=.ok z w/\TRep w X β r z:=by
 unfold wP at hs;split at hs
 .rename_i e hk;have ht:=xc hd hk;split at hs
  .rename_i de hde;unfold Z4 at hs;split at hs
   .obtain⟨p,hp,rfl⟩:=oY.1 hs;obtain⟨m',hr,h1,h2,h3,h4⟩:=wz (P:=P) (w:=w) (cap:=0) true hp (r6 _) hl hh hm;rw[hx.nils_inv];have e2:p.2=0:=za
    have e1:p.1=0:=za
    have e3:m'=0:=za
    rw[e1,e2,e3] at hr;refine⟨.slice none 0 0,?_,.fz_mk .N⟩;simp[Instr.sliceAt,Instr.slice,rj ht,hr,y7 hde]
   .rename_i nn n es;split at hs
    .rename_i hn;obtain⟨p,hp,rfl⟩:=oY.1 hs;have h2:=hx.fz_inv;cases h2 with
     |sl0 _ _ a=>
      obtain⟨m',hr,h1,h2,h3,h4⟩:=wz (P:=P) (w:=w) (cap:=0) true hp (r6 _) hl hh hm;have e2:p.2=0:=by simp at h4;omega
      have e1:p.1=0:=za
      have e3:m'=0:=za
      rw[e1,e2,e3] at hr;simp only[rt] at hr;refine⟨.slice (some a) 0 0,?_,?_⟩
      .simp[Instr.sliceAt,Instr.slice,rj ht,hr,y7 hde]
      .split
       .exact .fz_mk<|.z0 _ _
       .exact .fz_mk (by simpa using FRep.sl0 _ n a)
     |slnil n=>
      obtain⟨m',hr,h1,h2,h3,h4⟩:=wz (P:=P) (w:=w) (cap:=0) true hp (r6 _) hl hh hm;have e2:p.2=0:=by simp at h4;omega
      have e1:p.1=0:=za
      have e3:m'=0:=za
      rw[e1,e2,e3] at hr;simp only[rt] at hr;refine⟨.slice none 0 0,?_,?_⟩
      .simp[Instr.sliceAt,Instr.slice,rj ht,hr,y7 hde]
      .split
       .exact .fz_mk .z0n
       .exact .fz_mk (by simpa using FRep.slnil n)
     |sl nn n es b off cap len u g1 g2 g3 g4 g5 g6 g7=>
      subst g1;by_cases hzm:uo mx=true
      .have hr:=po (P:=P) (w:=w) true hzm hp g2 hl hh hm;rw[oX hzm];exact⟨.slice (some ⟨b,off,none⟩) 0 0,by simp[Instr.sliceAt,Instr.slice,rj ht,hr,y7 hde],.fz_mk<|.z0 _ _⟩
      rw[oV hzm];obtain⟨m',hr,h1,h2,h3,h4⟩:=wz (P:=P) (w:=w) true hp g2 hl hh hm;have hlen:p.2-p.1=((es.take p.2).drop p.1).length:=zj
      have hget:∀i:Nat,∀e,((es.take p.2).drop p.1)[i]?=some e->es[p.1+i]?=some e:=by
       intro i e he;rw[sK,si] at he;split at he
       .exact he
       .cases he
      refine⟨.slice (some (if m'=p.1 then⟨b,off,none⟩ else⟨b,off+p.1*de.size,none⟩)) (p.2-p.1)<|m'-p.1,?_,?_⟩
      .simp[Instr.sliceAt,Instr.slice,rj ht,hr,y7 hde,Addr.add_lit];split<;>rfl
      .by_cases hz:m'=p.1
       .simp only[hz,rG];have hnil:(es.take p.2).drop p.1=[]:=rk za;refine .fz_mk<|.sl nn n _ b off _ _ (λ_ _=>undef) hlen za g3 g4 ?_ ?_ ?_
        .intro i e he;rw[hnil] at he;simp at he
        .intro i j e f he;rw[hnil] at he;simp at he
        .intro i j e f he;rw[hnil] at he;simp at he
       .simp only[hz,rN];refine .fz_mk<|.sl nn n _ b _ _ _ (λi j=>u (p.1+i) j) hlen za g3 g4 ?_ ?_ ?_
        .intro i e he;exact g5 _ _<|hget i e he
        .intro i j e f he hf;have:=g6 _ _ _ _ (hget i e he) hf;rw[<-hn,show off+p.1*n+i*n+j=off+(p.1+i)*n+j by rw[sL];omega];exact this
        .intro i j e f he hf;exact g7 _ _ _ _ (hget i e he) hf
    .cases hs
   .obtain⟨p,hp,rfl⟩:=oY.1 hs;have h2:=hx.fz_inv;obtain⟨m',hr,h1,h2',h3,h4⟩:=wz (P:=P) (w:=w) (cap:=0) true hp (r6 _) hl hh hm;have e2:p.2=0:=za
    have e1:p.1=0:=za
    have e3:m'=0:=za
    rw[e1,e2,e3] at hr;cases h2 with
    |z0 _ a=>exact⟨.slice (some a) 0 0,by simp[Instr.sliceAt,Instr.slice,rj ht,hr,y7 hde],.fz_mk<|.z0 _ _⟩
    |z0n=>exact⟨.slice none 0 0,by simp[Instr.sliceAt,Instr.slice,rj ht,hr,y7 hde],.fz_mk .z0n⟩
   .rename_i o n off len;split at hs
    .rename_i hn;obtain⟨p,hp,rfl⟩:=oY.1 hs;obtain⟨b,q,cap,sz,tt,hb,hsh,hlc,hcap,hq,rfl⟩|⟨h0,rfl⟩:=hx.osl_inv
     case inr=>
      subst h0;obtain⟨m',hr,h1,h2',h3,h4⟩:=wz (P:=P) (w:=w) (cap:=0) true hp (r6 _) hl hh hm;have e2:p.2=0:=za
      have e1:p.1=0:=za
      have e3:m'=0:=za
      rw[e1,e2,e3] at hr;exact⟨.slice none 0 0,by simp[Instr.sliceAt,Instr.slice,rj ht,hr,y7 hde],by rw[e1,e2];exact .a _ _<|.oslN _ _ _⟩
     obtain⟨m',hr,h1,h2,h3,h4⟩:=wz (P:=P) (w:=w) true hp hlc hl hh hm;refine⟨.slice (some (if m'=p.1 then⟨b,q,none⟩ else⟨b,q+p.1*de.size,none⟩)) (p.2-p.1)<|m'-p.1,?_,?_⟩
     .simp[Instr.sliceAt,Instr.slice,rj ht,hr,y7 hde,Addr.add_lit];split<;>rfl
     .have hle:(off+p.1+(m'-p.1))*n<=sz:=rS (rZ _ za) hcap;by_cases hz:m'=p.1
      .simp only[hz,rG];exact .a _ _<|.osl _ _ _ _ b q _ sz tt hb hsh za (by rw[hz] at hle;exact hle)<|.inr za
      .simp only[hz,rN];refine .a _ _<|.osl _ _ _ _ b _ _ sz tt hb hsh za hle<|.inl ?_
       rw[<-hn,hq.resolve_right za,sL]
    .cases hs
   .cases hs
  .cases hs
 .rename_i hk;have ht:=WF hd hk;unfold JD at hs;split at hs
  .obtain⟨p,hp,rfl⟩:=oY.1 hs;rename_i s;cases m with
   |some v=>exact hm.elim
   |none=>
    obtain⟨m',hr,h1,h2,h3,h4⟩:=wz (P:=P) (w:=w) (cap:=s.length) false hp (r6 _) hl hh hm;rw[hx.str_inv];refine⟨_,?_,.str_mk _⟩;have hsz:(⟨s.toArray⟩:ByteArray).size=s.length:=by simp[ByteArray.size]
    simp[Instr.sliceAt,Instr.slice,rj ht,hsz,hr,Zg]
  .cases hs
 .cases hs
theorem nN (vs:List Value):∀(k off:Nat) (cs:List Value),off+k+vs.length<=cs.length->
  (vs.zipIdx k).foldl (λ(cs:Array Value) (x:Value×Nat)=>cs.setIfInBounds (off+x.2) x.1) cs.toArray=(cs.take (off+k)++vs++cs.drop (off+k+vs.length)).toArray:=by
 induction vs with
 |nil=>intro k off cs h;simp
 |cons v vs ih=>
  intro k off cs h;simp only[List.zipIdx_cons,tM,List.setIfInBounds_toArray];rw[ih (k+1) off (cs.set (off+k) v)<|by simp at h ⊢;omega];congr 1;apply List.ext_getElem?;intro j;simp only[r5,sJ,re,rM,rU,si,sK,sF,r5];simp at h;by_cases h1:j<off+k
  .simp only[show j<min (off+(k+1)) cs.length+vs.length by omega,show j<min (off+(k+1)) cs.length by omega,(za:j<off+(k+1)),show¬(off+k=j) by omega,
    (za:j<min (off+k) cs.length+(vs.length+1)),(za:j<min (off+k) cs.length),h1,rG,rN]
  .by_cases h2:j=off+k
   .subst h2
    simp only[show off+k<min (off+(k+1)) cs.length+vs.length by omega,show off+k<min (off+(k+1)) cs.length by omega,(za:off+k<off+(k+1)),(za:off+k<cs.length),
     (za:off+k<min (off+k) cs.length+(vs.length+1)),show¬(off+k<min (off+k) cs.length) by omega,rG,rN,(za:off+k-min (off+k) cs.length=0),se]
   .by_cases h3:j<off+k+1+vs.length
    .simp only[show j<min (off+(k+1)) cs.length+vs.length by omega,show¬(j<min (off+(k+1)) cs.length) by omega,
      (za:j<min (off+k) cs.length+(vs.length+1)),show¬(j<min (off+k) cs.length) by omega,rG,rN]
     rw[show j-min (off+k) cs.length=(j-min (off+(k+1)) cs.length)+1 by omega,sR]
    .simp only[show¬(j<min (off+(k+1)) cs.length+vs.length) by omega,show¬(j<min (off+k) cs.length+(vs.length+1)) by omega,rN];rw[show off+(k+1)+vs.length+(j-(min (off+(k+1)) cs.length+vs.length))=j by omega,show off+k+(vs.length+1)+(j-(min (off+k) cs.length+(vs.length+1)))=j by omega];simp only[show¬(off+k=j) by omega,rN]
theorem LRep.splice {cs ds:List WV}{us vs:List Value}{j:Nat}(h:LRep (WRep w X β) cs us)(k:LRep (WRep w X β) ds vs):LRep (WRep w X β) (splice cs j ds) (us.take j++vs++us.drop (j+vs.length)):=by
 unfold AM.splice;rw[k.1];exact((h.take j).append k).append<|h.drop _
theorem qg {place place':Nat->Option (Nat×Nat)}(hp:∀i,place' i=place i):∀(parts:List<|Nat×TV) (vals:List<|Nat×Value) (cs r:List WV) (us:List Value),Xo place cs parts=some r->LRep (WRep w X β) cs us->
  parts.length=vals.length->(∀(j:Nat) (p:Nat×TV) (v:Nat×Value),parts[j]?=some p->vals[j]?=some v->p.1=v.1/\TRep w X β p.2 v.2)->∃vs,Instr.fill place' us.toArray vals=some vs.toArray/\LRep (WRep w X β) r vs
 |[],vals,cs,r,us,h,hl,hlen,_=>by
  simp only[Xo,r8] at h;subst h;cases vals with
  |nil=>exact⟨us,rfl,hl⟩
  |cons _ _=>simp at hlen
 |(i,v)::rest,vals,cs,r,us,h,hl,hlen,hr=>by
  cases vals with
  |nil=>simp at hlen
  |cons x vals=>
   obtain⟨i',u⟩:=x;obtain⟨hi,hv⟩:=hr 0 _ _ rfl rfl;simp only at hi hv;subst hi;simp only[Xo] at h;split at h
   .rename_i off size ds hpl hds;split at h
    .rename_i hc;have hcl:=Z6 hv hds;have hsz:u.cells.size=ds.length:=by have:=hcl.1;exact zo this.symm
     have hfit:¬(off+u.cells.size>us.length):=by rw[hsz,<-hl.1];omega
     obtain⟨vs,h1,h2⟩:=qg hp rest vals _ r _ h (hl.splice hcl) (zo hlen) (λj p v hp hv=>hr (j+1) p v (zo hp)<|zo hv);refine⟨vs,?_,h2⟩;have hf:=nN u.cells.toList 0 off us zj;simp only[Instr.fill,hp,hpl];rw[oV<|by simp only[hsz,hc.1,List.size_toArray,ne_eq,not_true_eq_false,decide_false,tS,rL];rw[<-hc.1,<-hsz];exact hfit];rw[<-h1];congr 1;rw[<-Array.foldl_toList];simp only[Array.toList_zipIdx];exact zo hf
    .cases h
   .cases h
end
def upd {α:Type}(f:Nat->α)(i:Nat)(x:α)(j:Nat):α:=if j=i then x else f j
section
variable {P:Program} {h:Nat->AObj} {β:Nat->Option Nat} {Y:Nat->Prop} {w:World}
abbrev XO (Y:Nat->Prop)(h:Nat->AObj)(β:Nat->Option Nat):Nat->Prop:=λb=>Y b\/Own h β b
theorem qC (hO:Objs h β Y w) (hY:∀b,Y b->b<w.heap.size) {fr:Nat} (hfr:β fr=none) (n:Nat) (es:List<|List WV) (us:List Value) (t:TypeId) (dr:Nat)
  (h1:es.length*n<=us.length) (h2:∀e∈es,e.length=n)
  (h3:∀(i j:Nat) (e:List WV) (c:WV),es[i]?=some e->e[j]?=some c->∃u,us[i*n+j]?=some u/\WRep w (XO Y h β) β c u):
  Moves h (upd h fr<|.arr n es) β (upd β fr<|some w.heap.size) Y w {w with heap:=w.heap.push (.cells us.toArray t (0,0)),drawn:=w.drawn+dr} (λo=>o=fr):=by
 have hβ:∀o b,β o=some b->upd β fr (some w.heap.size) o=some b:=by
  intro o b hb;unfold upd;split
  next e=>subst e;rw[hfr] at hb;cases hb
  .exact hb
 have hβ':∀o b,upd β fr (some w.heap.size) o=some b->(β o=some b/\o≠fr)\/(o=fr/\b=w.heap.size):=by
  intro o b hb;unfold upd at hb;split at hb
  next e=>exact .inr ⟨e,zo hb.symm⟩
  next e=>exact .inl ⟨hb,e⟩
 have hlive:∀o,isLive (upd h fr (.arr n es) o)->isLive (h o)\/o=fr:=by
  intro o hl;unfold upd at hl;split at hl
  next e=>exact .inr e
  .exact .inl hl
 have hg:Goes w {w with heap:=w.heap.push (.cells us.toArray t (0,0)),drawn:=w.drawn+dr} (XO Y h β) (XO Y (upd h fr<|.arr n es)<|upd β fr<|some w.heap.size) β (upd β fr<|some w.heap.size):=by
  refine⟨zb,λb hx hb=>⟨by simp[sD,(za:b≠w.heap.size)],λhx'=>?_⟩,λb hb=>by simp[World.shape?,sD,(za:b≠w.heap.size)],λo b hb=>⟨hβ o b hb,hO.lt o b hb⟩⟩;rcases hx' with hy|⟨o,hl,ho⟩
  .exact hx<|.inl hy
  .rcases hβ' o b ho with⟨ho,hne⟩|⟨_,e⟩
   .exact hx<|.inr ⟨o,(hlive o hl).resolve_right hne,ho⟩
   .omega
 refine⟨⟨zb,λb hb _=>by simp[sD,(za:b≠w.heap.size)],λb hb=>by simp[World.shape?,sD,(za:b≠w.heap.size)],rfl,rfl,rfl⟩,?_,hβ,?_,hlive⟩
 .refine⟨λo b hl hb=>?_,λo hl=>?_,λo o' b hl hl' hb hb'=>?_,λo b hb=>?_⟩
  .rcases hβ' o b hb with⟨ho,hne⟩|⟨e,eb⟩
   .have hlo:=(hlive o hl).resolve_right hne;rw[show upd h fr (.arr n es) o=h o by simp[upd,hne]];exact(hO.rep o b hlo ho).goes hg (by simp[sD,show b≠w.heap.size by have:=hO.lt o b ho;omega])
   .subst e;subst eb;rw[show upd h o (.arr n es) o=.arr n es by simp[upd]];refine⟨us,t,zb,h1,h2,λi j e c he hc=>?_⟩;obtain⟨u,hu,hr⟩:=h3 i j e c he hc;exact⟨u,hu,hr.goes hg⟩
  .rcases hlive o hl with hlo|e
   .by_cases e:o=fr
    .subst e;exact .inl ⟨w.heap.size,by simp[upd],zb,λhy=>by have:=hY _ hy;omega⟩
    .rcases hO.has o hlo with⟨b,hb,hlt,hny⟩|⟨hb,hn⟩
     .exact .inl ⟨b,hβ o b hb,zj,hny⟩
     .exact .inr (by simp only[upd,e,rN];exact⟨hb,hn⟩)
   .subst e;exact .inl ⟨w.heap.size,by simp[upd],zb,λhy=>by have:=hY _ hy;omega⟩
  .rcases hβ' o b hb with⟨ho,hne⟩|⟨e,eb⟩
   .rcases hβ' o' b hb' with⟨ho',hne'⟩|⟨e',eb'⟩
    .exact hO.inj o o' b ((hlive o hl).resolve_right hne) ((hlive o' hl').resolve_right hne') ho ho'
    .have:=hO.lt o b ho;omega
   .rcases hβ' o' b hb' with⟨ho',hne'⟩|⟨e',eb'⟩
    .have:=hO.lt o' b ho';omega
    .rw[e,e']
  .rcases hβ' o b hb with⟨ho,_⟩|⟨_,eb⟩
   .have:=hO.lt o b ho;simp;omega
   .simp;omega
 .intro o b hb;rcases hβ' o b hb with⟨ho,_⟩|⟨e,eb⟩
  .exact .inl ho
  .exact .inr ⟨e,.inl za⟩
theorem Xh (hO:Objs h β Y w) {o b:Nat} (hl:isLive<|h o) (hb:β o=some b) (us old:List Value) (t:TypeId) (hold:w.heap[b]?=some (.cells old.toArray t (0,0))) (hlen:us.length=old.length) (n:Nat) (es:List<|List WV)
  (h1:es.length*n<=us.length) (h2:∀e∈es,e.length=n)
  (h3:∀(i j:Nat) (e:List WV) (c:WV),es[i]?=some e->e[j]?=some c->∃u,us[i*n+j]?=some u/\WRep w (XO Y h β) β c u):
  Moves h (upd h o<|.arr n es) β β Y w (w.setRow b us.toArray) (λ_=>False):=by
 have hheap:∀k,k≠b->(w.setRow b us.toArray).heap[k]?=w.heap[k]? :=λk hk=>setRow_other w b k _ hk;have hsame:(w.setRow b us.toArray).heap[b]?=some (.cells us.toArray t (0,0)):=setRow_heap w b old.toArray _ t _ hold;have hown:Own h β b:=⟨o,hl,hb⟩
 have hlive:∀o',isLive (upd h o (.arr n es) o')->isLive (h o'):=by
  intro o' hl';unfold upd at hl';split at hl'
  next e=>subst e;exact hl
  .exact hl'
 have hlive':∀o',isLive (h o')->isLive (upd h o (.arr n es) o'):=by
  intro o' hl';unfold upd;split
  .trivial
  .exact hl'
 have hsize:(w.setRow b us.toArray).heap.size=w.heap.size:=zb
 have hshape:∀k,(w.setRow b us.toArray).shape? k=w.shape? k:=by
  intro k;by_cases hk:k=b
  .subst hk;simp[World.shape?,hsame,hold,hlen]
  .simp[World.shape?,hheap k hk]
 have hg:Goes w (w.setRow b us.toArray) (XO Y h β) (XO Y (upd h o<|.arr n es) β) β β:=by
  refine⟨za,λk hx hk=>⟨hheap k λe=>hx<|.inr<|e▸hown,λhx'=>?_⟩,λk _=>hshape k,λo b hb=>⟨hb,hO.lt o b hb⟩⟩;rcases hx' with hy|⟨o',hl',ho'⟩
  .exact hx<|.inl hy
  .exact hx<|.inr ⟨o',hlive o' hl',ho'⟩
 refine⟨⟨za,λk hk hno=>hheap k λe=>hno<|e▸hown,λk _=>hshape k,rfl,rfl,rfl⟩,?_,λ_ _ h=>h,λ_ _ h=>.inl h,λo' hl'=>.inl<|hlive o' hl'⟩;refine⟨λo' b' hl' hb'=>?_,λo' hl'=>?_,λo1 o2 b' hl1 hl2 hb1 hb2=>hO.inj o1 o2 b' (hlive o1 hl1) (hlive o2 hl2) hb1 hb2,λo' b' hb'=>by rw[hsize];exact hO.lt o' b' hb'⟩
 .by_cases he:o'=o
  .subst he;have:b'=b:=by rw[hb] at hb';exact zo hb'.symm
   subst this;rw[show upd h o' (.arr n es) o'=.arr n es by simp[upd]];refine⟨us,t,hsame,h1,h2,λi j e c he hc=>?_⟩;obtain⟨u,hu,hr⟩:=h3 i j e c he hc;exact⟨u,hu,hr.goes hg⟩
  .rw[show upd h o (.arr n es) o'=h o' by simp[upd,he]];have hlo:=hlive o' hl';have hne:b'≠b:=λe=>he<|hO.inj o' o b' hlo hl hb'<|e▸hb
   exact(hO.rep o' b' hlo hb').goes hg<|hheap b' hne
 .by_cases e:o'=o
  .subst e;rcases hO.has o' hl with⟨b',hb',hlt,hny⟩|⟨_,hn⟩
   .exact .inl ⟨b',hb',by rw[hsize];exact hlt,hny⟩
   .rw[hn] at hb;cases hb
  .rcases hO.has o' (hlive o' hl') with⟨b',hb',hlt,hny⟩|⟨hb',hn⟩
   .exact .inl ⟨b',hb',by rw[hsize];exact hlt,hny⟩
   .exact .inr (by simp only[upd,e,rN];exact⟨hb',hn⟩)
theorem Zn (hO:Objs h β Y w){o fr b:Nat}(hl:isLive<|h o)(hb:β o=some b)(hfr:β fr=none):
  Moves h (upd (upd h o .gone) fr<|h o) β (upd β fr<|some b) Y w w (λk=>k=fr):=by
 have hne:o≠fr:=λe=>by rw[e,hfr] at hb;cases hb
 have hβ:∀o' b',β o'=some b'->upd β fr (some b) o'=some b':=by
  intro o' b' hb';unfold upd;split
  next e=>subst e;rw[hfr] at hb';cases hb'
  .exact hb'
 have hβ':∀o' b',upd β fr (some b) o'=some b'->(β o'=some b'/\o'≠fr)\/(o'=fr/\b'=b):=by
  intro o' b' hb';unfold upd at hb';split at hb'
  next e=>exact .inr ⟨e,zo hb'.symm⟩
  next e=>exact .inl ⟨hb',e⟩
 have hval:∀k,isLive (upd (upd h o .gone) fr (h o) k)->(k=fr\/(k≠fr/\k≠o/\isLive (h k)/\upd (upd h o .gone) fr (h o) k=h k)):=by
  intro k hk;by_cases e1:k=fr
  .exact .inl e1
  .by_cases e2:k=o
   .exfalso;subst e2;simp[upd,e1,isLive] at hk
   .exact .inr ⟨e1,e2,by simpa[upd,e1,e2] using hk,by simp[upd,e1,e2]⟩
 have hg:Goes w w (XO Y h β) (XO Y (upd (upd h o .gone) fr<|h o)<|upd β fr<|some b) β (upd β fr<|some b):=by
  refine⟨r6 _,λk hx hk=>⟨rfl,λhx'=>?_⟩,λ_ _=>rfl,λo b hb=>⟨hβ o b hb,hO.lt o b hb⟩⟩;rcases hx' with hy|⟨o',hl',ho'⟩
  .exact hx<|.inl hy
  .rcases hβ' o' k ho' with⟨ho',hne'⟩|⟨e1,e2⟩
   .rcases hval o' hl' with e|⟨_,_,hlo,_⟩
    .exact absurd e hne'
    .exact hx<|.inr ⟨o',hlo,ho'⟩
   .subst e2;exact hx<|.inr ⟨o,hl,hb⟩
 refine⟨Good.refl _ _,?_,hβ,?_,?_⟩
 .refine⟨λo' b' hl' hb'=>?_,λo' hl'=>?_,λo1 o2 b' hl1 hl2 hb1 hb2=>?_,λo' b' hb'=>?_⟩
  .rcases hβ' o' b' hb' with⟨ho',hne'⟩|⟨e1,e2⟩
   .rcases hval o' hl' with e|⟨_,_,hlo,hv⟩
    .exact absurd e hne'
    .rw[hv];exact(hO.rep o' b' hlo ho').goes hg rfl
   .subst e1;subst e2;rw[show upd (upd h o .gone) o' (h o) o'=h o by simp[upd]];exact(hO.rep o b' hl hb).goes hg rfl
  .rcases hval o' hl' with e|⟨hne1,_,hlo,hv⟩
   .subst e;rcases hO.has o hl with⟨b',hb',hlt,hny⟩|⟨_,hn⟩
    .rw[hb] at hb';injection hb' with hb'
     subst hb';exact .inl ⟨b,by simp[upd],hlt,hny⟩
    .rw[hn] at hb;cases hb
   .rcases hO.has o' hlo with⟨b',hb',hlt,hny⟩|⟨hb',hn⟩
    .exact .inl ⟨b',hβ o' b' hb',hlt,hny⟩
    .refine .inr ?_;rw[hv];exact⟨hb',by simp only[upd];rw[oV hne1];exact hn⟩
  .rcases hβ' o1 b' hb1 with⟨h1,n1⟩|⟨e1,f1⟩
   .rcases hβ' o2 b' hb2 with⟨h2,n2⟩|⟨e2,f2⟩
    .exact hO.inj o1 o2 b' ((hval o1 hl1).resolve_left n1).2.2.1 ((hval o2 hl2).resolve_left n2).2.2.1 h1 h2
    .subst f2;have v1:=(hval o1 hl1).resolve_left n1;exact absurd (hO.inj o1 o b' v1.2.2.1 hl h1 hb) v1.2.1
   .rcases hβ' o2 b' hb2 with⟨h2,n2⟩|⟨e2,f2⟩
    .subst f1;have v2:=(hval o2 hl2).resolve_left n2;exact absurd (hO.inj o2 o b' v2.2.2.1 hl h2 hb) v2.2.1
    .rw[e1,e2]
  .rcases hβ' o' b' hb' with⟨ho',_⟩|⟨_,e2⟩
   .exact hO.lt o' b' ho'
   .subst e2;exact hO.lt o b' hb
 .intro o' b' hb';rcases hβ' o' b' hb' with⟨ho',_⟩|⟨e1,e2⟩
  .exact .inl ho'
  .subst e2;exact .inr ⟨e1,.inr ⟨o,hl,hb⟩⟩
 .intro k hk;rcases hval k hk with e|⟨_,_,hlo,_⟩
  .exact .inr e
  .exact .inl hlo
theorem qM (hO:Objs h β Y w)(o:Nat):Moves h (upd h o .gone) β β Y w w (λ_=>False):=by
 have hlive:∀k,isLive (upd h o .gone k)->isLive (h k)/\k≠o:=by
  intro k hk;unfold upd at hk;split at hk
  .exact hk.elim
  next e=>exact⟨hk,e⟩
 have hg:Goes w w (XO Y h β) (XO Y (upd h o .gone) β) β β:=by
  refine⟨r6 _,λk hx hk=>⟨rfl,λhx'=>?_⟩,λ_ _=>rfl,λo b hb=>⟨hb,hO.lt o b hb⟩⟩;rcases hx' with hy|⟨o',hl',ho'⟩
  .exact hx<|.inl hy
  .exact hx<|.inr ⟨o',(hlive o' hl').1,ho'⟩
 refine⟨Good.refl _ _,⟨λo' b' hl' hb'=>?_,λo' hl'=>by
   have hx:=hlive o' hl';simp only[upd,hx.2,rN];exact hO.has o' hx.1,λo1 o2 b' hl1 hl2 hb1 hb2=>hO.inj o1 o2 b' (hlive o1 hl1).1 (hlive o2 hl2).1 hb1 hb2,hO.lt⟩,λ_ _ h=>h,λ_ _ h=>.inl h,λk hk=>.inl (hlive k hk).1⟩
 rw[show upd h o .gone o'=h o' by simp[upd,(hlive o' hl').2]];exact(hO.rep o' b' (hlive o' hl').1 hb').goes hg rfl
theorem aR (hO:Objs h β Y w)(o:Nat){fr:Nat}(hfr:β fr=none)(n:Nat):Moves h (upd (upd h o .gone) fr<|.arr n []) β β Y w w (λk=>k=fr):=by
 have hval:∀k,isLive (upd (upd h o .gone) fr (.arr n []) k)->k=fr\/(k≠fr/\isLive (h k)/\upd (upd h o .gone) fr (.arr n []) k=h k):=by
  intro k hk;by_cases e1:k=fr
  .exact .inl e1
  .by_cases e2:k=o
   .exfalso;subst e2;simp[upd,e1,isLive] at hk
   .exact .inr ⟨e1,by simpa[upd,e1,e2] using hk,by simp[upd,e1,e2]⟩
 have hn:∀k b,isLive (upd (upd h o .gone) fr (.arr n []) k)->β k=some b->k≠fr/\isLive (h k)/\upd (upd h o .gone) fr (.arr n []) k=h k:=λk b hk hb=>
  (hval k hk).resolve_left λe=>by rw[e,hfr] at hb;cases hb
 have hg:Goes w w (XO Y h β) (XO Y (upd (upd h o .gone) fr<|.arr n []) β) β β:=by
  refine⟨r6 _,λk hx hk=>⟨rfl,λhx'=>?_⟩,λ_ _=>rfl,λo b hb=>⟨hb,hO.lt o b hb⟩⟩;rcases hx' with hy|⟨o',hl',ho'⟩
  .exact hx<|.inl hy
  .exact hx<|.inr ⟨o',(hn o' _ hl' ho').2.1,ho'⟩
 refine⟨Good.refl _ _,⟨λo' b' hl' hb'=>?_,λo' hl'=>?_,λo1 o2 b' hl1 hl2 hb1 hb2=>hO.inj o1 o2 b' (hn o1 _ hl1 hb1).2.1 (hn o2 _ hl2 hb2).2.1 hb1 hb2,hO.lt⟩,λ_ _ h=>h,λ_ _ h=>.inl h,λk hk=>(hval k hk).elim .inr λh=>.inl h.2.1⟩
 .have:=hn o' b' hl' hb';rw[this.2.2];exact(hO.rep o' b' this.2.1 hb').goes hg rfl
 .rcases hval o' hl' with e|⟨_,h1,h2⟩
  .subst e;exact .inr ⟨⟨n,by simp[upd,flat]⟩,hfr⟩
  .rw[h2];exact hO.has o' h1
end
theorem fS (u H:AHeap)(o:Nat):hook (u++H) o=over u (hook H) o:=by
 induction u with
 |nil=>rfl
 |cons p u ih=>
  obtain⟨j,x⟩:=p;simp only[sk,hook,over,ya];split
  .rfl
  .exact ih
theorem over_nil (h:Nat->AObj):over [] h=h:=rfl
theorem xe (o:Nat)(x:AObj)(h:Nat->AObj):over [(o,x)] h=upd h o x:=by
 funext k
 simp only[over,ya,upd]
 grind
theorem Moves.weaken {h h':Nat->AObj}{β β':Nat->Option Nat}{Y:Nat->Prop}{w w':World}{fr fr':Nat->Prop}(m:Moves h h' β β' Y w w' fr)(hf:∀o,fr o->fr' o):Moves h h' β β' Y w w' fr':=
 ⟨m.good,m.objs,m.bmono,λo b hb=>(m.bnew o b hb).imp id λ⟨x,y⟩=>⟨hf o x,y⟩,λo hl=>(m.lmono o hl).imp id<|hf o⟩
section
variable {P:Program} {h:Nat->AObj} {β:Nat->Option Nat} {Y:Nat->Prop} {w:World}
def Does (P:Program)(h:Nat->AObj)(β:Nat->Option Nat)(Y:Nat->Prop)(w:World)(fr:Nat)(r:AR)(s:Sem Next):Prop:=
 ∃n v w' β',s.run P w=.ok n w'/\(n=.value v\/(n=.skip/\v=undef))/\Moves h (over r.upd h) β β' Y w w' (λk=>k=fr)/\TRep w' (XO Y (over r.upd h) β') β' r.val v
theorem xT (hO:Objs h β Y w){fr:Nat}{r:TV}{s:Sem Value}{rd:List Nat}(hr:∃u,s.run P w=.ok u w/\TRep w (XO Y h β) β r u):
  Does P h β Y w fr ⟨r,[],rd⟩ (do pure (.value (<-s))):=by
 obtain⟨u,h1,h2⟩:=hr;exact⟨.value u,u,w,β,by simp[h1],.inl rfl,(Moves.refl hO λ_=>rfl).weaken λ_ h=>h.elim,h2⟩
theorem yI (hO:Objs h β Y w){fr:Nat}{v:Option TV}{r:AR}{s:Sem Value}(h0:valR v=some r)(hr:∀x,v=some x->∃u,s.run P w=.ok u w/\TRep w (XO Y h β) β x u):
  Does P h β Y w fr r (do pure (.value (<-s))):=by
 obtain⟨x,hx,rfl⟩:=oY.1 h0;exact xT hO<|hr x hx
theorem zP {α:Type}{t:TypeId}{f:TyD->Option α}{r:α}(h0:yr P t f=some r):∃d,tyOf P t=some d/\f d=some r:=by
 unfold yr at h0
 grind
theorem ye {α:Type}{t:TypeId}{f:TyD->Option α}{r:α}(h0:yk P t f=some r):∃d e de,tyOf P t=some d/\d.kind=.slice e/\tyOf P e=some de/\f de=some r:=by
 unfold yk at h0
 grind
theorem wE {t:TypeId}{d:TyD}{z:List FV}(hd:tyOf P t=some d)(hz:d.zero=some z):∃v,(zeroValue t).run P w=.ok v w/\z=v.cells.toList.map fvOf/\(∀u∈v.cells.toList,u.oneCell'=true)/\(∃i,P.info? t=some i/\i.zero=some v):=by
 obtain⟨i,u,hi,hu,_,_,_,hzz,_⟩:=wC hd;rw[hz] at hzz;cases hiz:i.zero with
 |none=>rw[hiz] at hzz;cases hzz
 |some v=>
  rw[hiz] at hzz;simp only at hzz;split at hzz
  .rename_i hall;injection hzz with hzz
   refine⟨v,by simp[zeroValue,typeInfo,hi,hiz],hzz,λu hu=>?_,i,hi,hiz⟩;simp only[sj] at hall
   grind
  .cases hzz
theorem kC (X:Nat->Prop)(us:List Value)(h1:∀u∈us,u.oneCell'=true):LRep (WRep w X β) (fzs<|us.map fvOf) us:=by
 refine⟨by simp[fzs],λj c u hc hu=>?_⟩;simp only[fzs,rq,hu,ry,r8] at hc;subst hc;exact .a _ _<|.fz _ _<|bU w X u<|h1 u<|rV hu
theorem f6 {X:Nat->Prop}{cs:List WV}{us:List Value}(hl:LRep (WRep w X β) cs us):[cs].length*cs.length<=us.length/\(∀e∈ [cs],e.length=cs.length)/\
  ∀(i j:Nat) (e:List WV) (c:WV),[cs][i]?=some e->e[j]?=some c->∃u,us[i*cs.length+j]?=some u/\WRep w X β c u:=by
 refine⟨by simp[hl.1],zb,λi j e c he hc=>?_⟩;cases i with
 |zero=>
  simp at he;subst he;simpa using hl.get hc
 |succ i=>simp at he
theorem ud (hO:Objs h β Y w) (hY:∀b,Y b->b<w.heap.size) {fr:Nat} (hfr:β fr=none) (n:Nat) (es:List<|List WV) (us:List Value) (t:TypeId) (dr:Nat) (v:Value) (x:TV) {s:Sem Value} {rd:List Nat}
  (hs:s.run P w=.ok v {w with heap:=w.heap.push (.cells us.toArray t (0,0)),drawn:=w.drawn+dr})
  (h1:es.length*n<=us.length) (h2:∀e∈es,e.length=n)
  (h3:∀(i j:Nat) (e:List WV) (c:WV),es[i]?=some e->e[j]?=some c->∃u,us[i*n+j]?=some u/\WRep w (XO Y h β) β c u)
  (hx:∀w' β',β' fr=some w.heap.size->w'.shape? w.heap.size=some (t,us.length)->TRep w' (XO Y (upd h fr<|.arr n es) β') β' x v):
  Does P h β Y w fr ⟨x,[(fr,.arr n es)],rd⟩ (do pure (.value (<-s))):=by
 have hm:=qC hO hY hfr n es us t dr h1 h2 h3;refine⟨.value v,v,{w with heap:=w.heap.push (.cells us.toArray t (0,0)),drawn:=w.drawn+dr},upd β fr<|some w.heap.size,?_,.inl rfl,?_,?_⟩
 .simp_all
 .rw[xe];exact hm
 .rw[xe];exact hx _ _ (by simp[upd]) (by simp[World.shape?])
theorem fL (hO:Objs h β Y w)(hY:∀b,Y b->b<w.heap.size){fr:Nat}(hfr:β fr=none){t:TypeId}{d:TyD}{z:List FV}(hd:tyOf P t=some d)(hz:d.zero=some z):
  Does P h β Y w fr ⟨.c<|.a<|.ep fr z.length 0 0,[(fr,.arr z.length [fzs z])],[]⟩ (do pure (.value (<-Instr.alloc t true<|.tuple #[]))):=by
 obtain⟨v,hv,rfl,h1,_⟩:=wE (w:=w) hd hz;have hl:=kC (w:=w) (β:=β) (XO Y h β) v.cells.toList h1;obtain⟨b1,b2,b3⟩:=f6 hl;have hlen:(fzs<|v.cells.toList.map fvOf).length=(v.cells.toList.map fvOf).length:=by simp[fzs]
 rw[hlen] at b1 b2 b3;refine ud hO hY hfr _ _ v.cells.toList t 0 (.pointer<|some ⟨w.heap.size,0,none⟩) _ ?_ b1 b2 b3 ?_
 .simp only[Instr.alloc,rW,hv,rI,newVar,newRow,run_newObj,sg,Array.toArray_toList,th]
 .intro w' β' hb _;have:=ARep.ep (w:=w') (X:=XO Y (upd h fr<|.arr (v.cells.toList.map fvOf).length [fzs<|v.cells.toList.map fvOf]) β') (β:=β') fr (v.cells.toList.map fvOf).length 0 0 _ hb;simp only[Nat.zero_mul,th] at this;exact .a _ _ this
theorem box_does (hO:Objs h β Y w)(hY:∀b,Y b->b<w.heap.size){fr:Nat}(hfr:β fr=none){t:TypeId}{x:TV}{u:Value}{cs:List WV}(hx:TRep w (XO Y h β) β x u)(hc:uQ x=some cs):
  Does P h β Y w fr ⟨.c<|.a<|.ep fr cs.length 0 0,[(fr,.arr cs.length [cs])],[]⟩ (do pure (.value (<-Instr.box t u))):=by
 obtain⟨b1,b2,b3⟩:=f6<|Z6 hx hc
 refine ud hO hY hfr _ _ u.cells.toList t 0 (.pointer<|some ⟨w.heap.size,0,none⟩) _ ?_ b1 b2 b3 ?_
 .rfl
 .intro w' β' hb _;have:=ARep.ep (w:=w') (X:=XO Y (upd h fr<|.arr cs.length [cs]) β') (β:=β') fr cs.length 0 0 _ hb;simp only[Nat.zero_mul,th] at this;exact .a _ _ this
theorem w4 (x:AObj):isLive (flat x)↔isLive x:=by cases x<;>simp[flat,isLive]
theorem kD (hO:Objs h β Y w){o b n:Nat}{es:List (List WV)}(ho:flat (h o)=.arr n es)(hb:β o=some b):∃(us:List Value) (t:TypeId),w.heap[b]?=some (.cells us.toArray t (0,0))/\es.length*n<=us.length/\(∀e∈es,e.length=n)/\
  ∀(i j:Nat) (e:List WV) (c:WV),es[i]?=some e->e[j]?=some c->∃u,us[i*n+j]?=some u/\WRep w (XO Y h β) β c u:=by
 have hl:isLive (h o):=by rw[<-w4,ho];trivial
 have:=hO.rep o b hl hb;unfold ORep at this
 grind
theorem cJ {es:List (List WV)}{n i L:Nat}{e:List WV}(h1:es.length*n<=L)(he:es[i]?=some e)(_:e.length=n):i*n+n<=L:=by
 have hi:=(rr.1 he).1;have:(i+1)*n<=es.length*n:=rZ _ hi
 grind
theorem elem_rep {X:Nat->Prop} {es:List (List WV)} {n i:Nat} {us:List Value} {e:List WV} (h1:es.length*n<=us.length) (h2:∀e∈es,e.length=n)
  (h3:∀(i j:Nat) (e:List WV) (c:WV),es[i]?=some e->e[j]?=some c->∃u,us[i*n+j]?=some u/\WRep w X β c u) (he:es[i]?=some e):LRep (WRep w X β) e ((us.drop<|i*n).take n):=by
 have hn:=h2 e<|rV he
 have hf:=cJ h1 he hn;refine⟨zd,λj c u hc hu=>?_⟩
 grind
theorem WE (hO:Objs h β Y w){t:TypeId}{d:TyD}{x:TV}{u:Value}{r:TV×List Nat}(hd:tyOf P t=some d)(hx:TRep w (XO Y h β) β x u)(hl:wR d h x=some r):
  ∃v,(Instr.loadAt t u).run P w=.ok v w/\TRep w (XO Y h β) β r.1 v:=by
 unfold wR at hl;split at hl
 .rename_i o n i j;split at hl
  .rename_i m es ho;split at hl
   .rename_i hm;split at hl
    .rename_i e he;split at hl<;>simp only[r8,reduceCtorEq] at hl
     rename_i v hv;subst hl;obtain⟨b,hb,rfl⟩:=hx.ep_inv;obtain⟨us,tt,g1,g2,g3,g4⟩:=kD hO (by rw[ho];rfl) hb;have hel:=elem_rep g2 g3 g4 he;refine Kp hd _ (hel.drop j) (λk u hu=>?_) hv;rw[sK,si,sK] at hu;split at hu
     .simp only[World.cell?,g1,tG,tE,rF,rN]
      grind
     .cases hu
    .cases hl
   .cases hl
  .cases hl
 .rename_i cs;split at hl<;>simp only[r8,reduceCtorEq] at hl
  rename_i v hv;subst hl;have h1:=hx.fz_inv;cases h1 with
  |pt _ b off f h3 h4 h5 h6=>
   refine Kp hd ((List.range cs.length).map f) ?_ (λj u hu=>?_) hv
   .refine⟨by simp[fzs],λj c u hc hu=>?_⟩;simp only[fzs,rq] at hc hu;obtain⟨g,hg,rfl⟩:=oY.1 hc;obtain⟨k,hk,rfl⟩:=oY.1 hu
    have hkj:k=j:=by
     grind
    subst hkj;exact .a _ _<|.fz _ _<|h6 k g hg
   .simp only[rq] at hu
    have hj:j<cs.length:=by
     grind
    simp_all
 .cases hl
theorem mb (hO:Objs h β Y w){fr:Nat}{t:TypeId}{d:TyD}{x:TV}{u:Value}{r:TV×List Nat}(hd:tyOf P t=some d)(hx:TRep w (XO Y h β) β x u)(hl:wR d h x=some r):
  Does P h β Y w fr ⟨r.1,[],r.2⟩ (do pure (.value (<-Instr.loadAt t u))):=xT hO<|WE hO hd hx hl
theorem LRep.cell {X:Nat->Prop}{cs:List WV}{us:List Value}(h:LRep (WRep w X β) cs us):∀u∈us,u.oneCell'=true:=by
 intro u hu;obtain⟨j,hj⟩:=sP hu;have hlt:j<cs.length:=by have:=(rr.1 hj).1;have:=h.1;omega
 exact(h.2 j _ u (rf hlt) hj).oneCell
theorem pJ {us cs:List Value}{a j:Nat}(h:a+cs.length<=us.length):(us.take a++cs++us.drop (a+cs.length))[j]?=if j<a then us[j]? else if j<a+cs.length then cs[j-a]? else us[j]? :=zd
theorem fi {e cs:List WV}{a j:Nat}(h:a+cs.length<=e.length):(splice e a cs)[j]?=if j<a then e[j]? else if j<a+cs.length then cs[j-a]? else e[j]? :=by
 unfold splice
 grind
theorem aX (hO:Objs h β Y w){fr:Nat}{t:TypeId}{d:TyD}{x y:TV}{u v:Value}{r:AR}(hd:tyOf P t=some d)(hx:TRep w (XO Y h β) β x u)(hy:TRep w (XO Y h β) β y v)(hs:vY d h x y=some r):
  Does P h β Y w fr r (do (Instr.storeAt t u v);pure .skip):=by
 unfold vY at hs;split at hs
 .rename_i cs o n i j hcs;split at hs
  .rename_i m es ho;split at hs
   .rename_i hm;obtain⟨hm,hsz⟩:=hm;subst hm;split at hs
    .rename_i e he;split at hs<;>simp only[r8,reduceCtorEq] at hs
     subst hs;obtain⟨b,hb,rfl⟩:=hx.ep_inv;obtain⟨us,tt,g1,g2,g3,g4⟩:=kD hO (by rw[ho];rfl) hb;have hcl:=Z6 hy hcs;have hen:=g3 e<|rV he
     have hrow:=cJ g2 he hen;have hlen:v.cells.toList.length=cs.length:=hcl.1.symm;have hfit2:i*m+j+v.cells.toList.length<=us.length:=za
     have hrun:=run_storeCells_at P b (i*m+j) tt v.cells.toList 0 us.toArray w g1 za hcl.cell;have hsize:v.cells.size=d.size:=zd
     have hmv:=Xh hO (by rw[ho];trivial:isLive<|h o) hb (us.take (i*m+j)++v.cells.toList++us.drop (i*m+j+v.cells.toList.length)) us tt g1 zd m (es.set i<|splice e j cs)
      zd
      (λe' he'=>by
       rcases List.mem_or_eq_of_mem_set he' with h1|h1
       .grind
       .subst h1;unfold splice;simp;omega)
      (λi' j' e' c he' hc=>by
       rw[pJ za];rw[sF] at he';split at he'
       .rename_i hii;subst hii;split at he'
        .injection he' with he'
         subst he';rw[fi za] at hc;by_cases k1:j'<j
         .grind
         .rw[oV k1] at hc;rw[oV za];by_cases k2:j'<j+cs.length
          .rw[oX k2] at hc;obtain⟨z,hz,hr⟩:=hcl.get hc
           grind
          .grind
        .cases he'
       .rename_i hii;have hen':=g3 e' (rV he');have hj':j'<m:=zd
        obtain⟨z,hz,hr⟩:=g4 i' j' e' c he' hc;refine⟨z,?_,hr⟩;rcases Nat.lt_or_gt_of_ne hii with hlt|hgt
        .have:(i+1)*m<=i'*m:=rZ _ hlt
         grind
        .have:(i'+1)*m<=i*m:=rZ _ hgt;rw[sL] at this;rw[oX za];exact hz)
     refine⟨.skip,undef,w.setRow b (us.take (i*m+j)++v.cells.toList++us.drop (i*m+j+v.cells.toList.length)).toArray,β,?_,.inr ⟨rfl,rfl⟩,?_,trivial⟩
     .have hsv:(storeVar t ⟨b,i*m+j,none⟩ v).run P w=.ok () (w.setRow b (us.take (i*m+j)++v.cells.toList++us.drop (i*m+j+v.cells.toList.length)).toArray):=by
       simp only[storeVar,rW,y7 hd,rI,hsize,ne_eq,not_true_eq_false,rN];exact hrun
      simp only[rW,Instr.storeAt,Instr.sureAddr,sg,rI,hsv]
     .rw[xe];exact hmv.weaken λ_ h=>h.elim
    .cases hs
   .cases hs
  .cases hs
 .cases hs
theorem len_does (hO:Objs h β Y w){fr:Nat}{t ty:TypeId}{d:TyD}{x:TV}{u:Value}{r:Nat×List Nat}(hd:tyOf P t=some d)(hx:TRep w (XO Y h β) β x u)(hl:lenP d h x=some r):
  Does P h β Y w fr ⟨iV r.1,[],r.2⟩ (do pure (.value (<-Builtin.len_ #[t] ty #[u]))):=by
 refine xT hO ?_;have fin:∀n:Nat,(Builtin.len_ #[t] ty #[u]).run P w=.ok (goInt n) w->r.1=n->∃z,(Builtin.len_ #[t] ty #[u]).run P w=.ok z w/\TRep w (XO Y h β) β (iV r.1) z:=λn h1 h2=>⟨_,h1,by rw[h2];exact .int_mk _ _⟩;unfold lenP at hl;split at hl
 .rename_i e hk;have ht:=xc hd hk;unfold Xl at hl;split at hl
  .injection hl with hl;subst hl;rw[hx.nils_inv] at fin ⊢;exact fin 0 (by simp[Builtin.len_,rj ht,goInt]) rfl
  .injection hl with hl;subst hl
   rename_i nn n es;have h1:=hx.fz_inv;cases h1 with
   |slnil=>exact fin 0 (by simp[Builtin.len_,rj ht,goInt]) rfl
   |sl0 _ _ a=>exact fin 0 (by simp[Builtin.len_,rj ht,goInt]) rfl
   |sl _ _ _ b off cap len f g1=>subst g1;exact fin es.length (by simp[Builtin.len_,rj ht,goInt]) rfl
  .injection hl with hl;subst hl
   have h1:=hx.fz_inv;cases h1 with
   |z0 _ a=>exact fin 0 (by simp[Builtin.len_,rj ht,goInt]) rfl
   |z0n=>exact fin 0 (by simp[Builtin.len_,rj ht,goInt]) rfl
  .injection hl with hl;subst hl
   rename_i o n off len;obtain⟨b,q,cap,sz,tt,_,_,_,_,_,rfl⟩|⟨rfl,rfl⟩:=hx.osl_inv
   .exact fin len (by simp[Builtin.len_,rj ht,goInt]) rfl
   .exact fin 0 (by simp[Builtin.len_,rj ht,goInt]) rfl
  .cases hl
 .rename_i hk;have ht:=WF hd hk;unfold lenStr at hl;split at hl
  .injection hl with hl;subst hl;rw[hx.str_inv] at fin ⊢
   rename_i l;have hsz:(⟨l.toArray⟩:ByteArray).size=l.length:=by simp[ByteArray.size]
   exact fin l.length (by simp[Builtin.len_,rj ht,goInt,hsz]) rfl
  .cases hl
 .rename_i kt et hk;obtain⟨u',hu',hk'⟩:=xI hd;rw[hk'] at hk;have ht:=pl hk;subst ht;unfold i8 at hl;split at hl
  .rename_i o;split at hl
   .rename_i es ho;injection hl with hl;subst hl
    obtain⟨b,hb,rfl⟩:=hx.mp_inv;have hrep:=hO.rep o b (by rw[ho];trivial) hb;rw[ho] at hrep;unfold ORep flat at hrep;obtain⟨ms,ck,g1,g2,_⟩:=hrep;refine fin es.length ?_ rfl;simp only[Builtin.len_,rW,rj hu',rI,tG,se,getObj,Sem.run,g1,sg,List.size_toArray,g2]
   .cases hl
  .cases hl
 next n e hk=>have ht:=ZM hd hk;simp only[r8] at hl;subst hl;exact fin n (by simp[Builtin.len_,rj ht,goInt]) rfl
 .cases hl
theorem gN {X:Nat->Prop}:∀ {l:List TV} {us:List Value} {k:IntKind} {ns:List Int},vQ l=some (k,ns)->LRep (TRep w X β) l us->us=ns.map (Value.int k)/\ns≠[]
 |[],us,k,ns,h,_=>by simp[vQ] at h
 |[.c (.a (.fz (.int k' n)))],us,k,ns,h,hl=>by
  simp only[vQ,r8,rX] at h;obtain⟨rfl,rfl⟩:=h;obtain⟨u,us',rfl,hu,hr⟩:=hl.cons_inv;rw[hr.nil_inv,TRep.int_inv hu];simp
 |.c (.a (.fz (.int k' n)))::y::r,us,k,ns,h,hl=>by
  simp only[vQ] at h;obtain⟨⟨k2,l2⟩,h1,h2⟩:=sO.1 h;simp only at h2;split at h2
  .rename_i e;injection h2 with h2
   injection h2 with e1 e2
   subst e1;subst e2;subst e;obtain⟨u,us',rfl,hu,hr⟩:=hl.cons_inv;obtain⟨g1,g2⟩:=gN h1 hr;rw[g1,TRep.int_inv hu];simp
  .cases h2
 |.any::r,us,k,ns,h,_=>by simp[vQ] at h
 |.agg _::r,us,k,ns,h,_=>by simp[vQ] at h
 |.tup _::r,us,k,ns,h,_=>by simp[vQ] at h
 |.c (.fn _ _ _)::r,us,k,ns,h,_=>by simp[vQ] at h
 |.c (.a (.ep _ _ _ _))::r,us,k,ns,h,_=>by simp[vQ] at h
 |.c (.a (.osl _ _ _ _))::r,us,k,ns,h,_=>by simp[vQ] at h
 |.c (.a (.mp _))::r,us,k,ns,h,_=>by simp[vQ] at h
 |.c (.a .any)::r,us,k,ns,h,_=>by simp[vQ] at h
 |.c (.a (.fz (.bool _)))::r,us,k,ns,h,_=>by simp[vQ] at h
 |.c (.a (.fz (.str _)))::r,us,k,ns,h,_=>by simp[vQ] at h
 |.c (.a (.fz (.cst _)))::r,us,k,ns,h,_=>by simp[vQ] at h
 |.c (.a (.fz .N))::r,us,k,ns,h,_=>by simp[vQ] at h
 |.c (.a (.fz (.sl _ _ _)))::r,us,k,ns,h,_=>by simp[vQ] at h
 |.c (.a (.fz (.pt _)))::r,us,k,ns,h,_=>by simp[vQ] at h
theorem K8 (k:IntKind):∀(l:List Int) (x:Int),((l.map<|Value.int k).foldlM Builtin.max2<|.int k x).run P w=.ok (.int k<|l.foldl max x) w
 |[],x=>zb
 |y::l,x=>by
  simp only[rO,List.foldlM_cons,Builtin.max2,rW,sg,rI,tM];rw[show(if y>x then y else x)=max x y by simp only[Int.max_def];split<;>split<;>omega]
  exact K8 k l _
theorem Ke (k:IntKind):∀(l:List Int) (x:Int),((l.map<|Value.int k).foldlM Builtin.min2<|.int k x).run P w=.ok (.int k<|l.foldl min x) w
 |[],x=>zb
 |y::l,x=>by
  simp only[rO,List.foldlM_cons,Builtin.min2,rW,sg,rI,tM];rw[show(if y<x then y else x)=min x y by simp only[Int.min_def];split<;>split<;>omega]
  exact Ke k l _
theorem cU {X:Nat->Prop}{m:Bool}{l:List TV}{us:List Value}{r:TV}(ts:Array TypeId)(ty:TypeId)(h:minA m l=some r)(hl:LRep (TRep w X β) l us):
  ∃z,(if m then Builtin.max_ ts ty us.toArray else Builtin.min_ ts ty us.toArray).run P w=.ok z w/\TRep w X β r z:=by
 unfold minA at h;split at h
 .rename_i p hp;obtain⟨k,ns⟩:=p;injection h with h
  subst h;obtain⟨rfl,hne⟩:=gN hp hl;cases ns with
  |nil=>exact absurd rfl hne
  |cons n ns=>
   refine⟨.int k (if m=true then zE (n::ns) else zO<|n::ns),?_,.int_mk _ _⟩
   cases m
   .simpa[Builtin.min_,zO] using Ke (P:=P) (w:=w) k ns n
   .simpa[Builtin.max_,zE] using K8 (P:=P) (w:=w) k ns n
 .cases h
end
theorem Moves.trans {h h1 h2:Nat->AObj} {β β1 β2:Nat->Option Nat} {Y:Nat->Prop} {w w1 w2:World} {f1 f2 f:Nat->Prop} (m1:Moves h h1 β β1 Y w w1 f1) (m2:Moves h1 h2 β1 β2 Y w1 w2 f2)
  (hf:∀o,f1 o->β o=none) (_:Objs h β Y w) (g1:∀o,f1 o->f o) (g2:∀o,f2 o->f o):Moves h h2 β β2 Y w w2 f:=by
 have own:∀b,b<w.heap.size->Own h1 β1 b->Own h β b:=by
  rintro b hb ⟨o,hl,ho⟩;rcases m1.bnew o b ho with h' |⟨hfo,h' |h'⟩
  .rcases m1.lmono o hl with hl' |hfo
   .exact⟨o,hl',h'⟩
   .grind
  .omega
  .exact h'
 have hs:=m1.good.size;refine⟨m1.good.trans m2.good own,m2.objs,λo b hb=>m2.bmono o b<|m1.bmono o b hb,λo b hb=>?_,λo hl=>?_⟩
 .rcases m2.bnew o b hb with h' |⟨hfo,h' |h'⟩
  .exact(m1.bnew o b h').imp id λ⟨x,y⟩=>⟨g1 o x,y⟩
  .grind
  .grind
 .rcases m2.lmono o hl with h' |h'
  .exact(m1.lmono o h').imp id<|g1 o
  .grind
theorem mz {P:Program}{h:Nat->AObj}{β:Nat->Option Nat}{Y:Nat->Prop}{w:World}(hO:Objs h β Y w){k:Nat}{x:AObj}(hk:isLive<|h k)(hx:isLive x)(hb:bareO (h k)->bareO x)(hr:∀X b,β k=some b->ORep w X β (h k) b->ORep w X β x b):Moves h (upd h k x) β β Y w w (λ_=>False):=by
 have hl:∀o,isLive (upd h k x o)->isLive (h o):=λo ho=>by
  unfold upd at ho;split at ho
  .grind
  .exact ho
 have hl':∀o,isLive (h o)->isLive (upd h k x o):=λo ho=>by
  unfold upd;split
  .exact hx
  .exact ho
 have hg:Goes w w (XO Y h β) (XO Y (upd h k x) β) β β:=by
  refine⟨r6 _,λb hx' _=>⟨rfl,λhx2=>?_⟩,λ_ _=>rfl,λo b hb=>⟨hb,hO.lt o b hb⟩⟩;rcases hx2 with hy|⟨o',hl2,ho'⟩
  .grind
  .exact hx'<|.inr ⟨o',hl _ hl2,ho'⟩
 refine⟨Good.refl _ _,⟨λo b ho hb2=>?_,λo ho=>?_,λo1 o2 b h1 h2=>hO.inj o1 o2 b (hl _ h1)<|hl _ h2,hO.lt⟩,λ_ _ h=>h,λ_ _ h=>.inl h,λo ho=>.inl<|hl o ho⟩
 .have h3:=(hO.rep o b (hl o ho) hb2).goes hg rfl;by_cases e:o=k
  .subst e;rw[show upd h o x o=x by simp[upd]];exact hr _ _ hb2 h3
  .rw[show upd h k x o=h o by simp[upd,e]];exact h3
 .rcases hO.has o (hl o ho) with h3|⟨h3,h4⟩
  .grind
  .refine .inr ⟨?_,h4⟩;by_cases e:o=k
   .subst e;rw[show upd h o x o=x by simp[upd]];exact hb h3
   .rw[show upd h k x o=h o by simp[upd,e]];exact h3
theorem pd {P:Program}{h:Nat->AObj}{β:Nat->Option Nat}{Y:Nat->Prop}{w:World}(hO:Objs h β Y w)(hY:∀b,Y b->b<w.heap.size){fr:Nat}(hfr:β fr=none){t:TypeId}{d:TyD}{z:List FV}(hd:tyOf P t=some d)(hz:d.zero=some z):
  Does P h β Y w fr ⟨.c<|.a<|.ep fr z.length 0 0,[(fr,.arr z.length [bldZ P t d fr z])],[]⟩ (do pure (.value (<-Instr.alloc t true<|.tuple #[]))):=by
 unfold bldZ;split
 .obtain⟨v,hv,hzv,h1,_⟩:=wE (w:=w) hd hz;have hl:=kC (w:=w) (β:=β) (XO Y h β) v.cells.toList h1;obtain⟨b1,b2,b3⟩:=f6 hl
  have hn:v.cells.toList.length=2:=by
   have:=(t8 List.length hzv).symm
   grind
  rw[<-hzv] at b1 b2 b3;have hm:=qC hO hY hfr 2 _ v.cells.toList t 0 b1 b2 b3
  have hsh:({w with heap:=w.heap.push (.cells v.cells.toList.toArray t (0,0)),drawn:=w.drawn+0}:World).shape? w.heap.size=some (t,2):=by
   simp[World.shape?];exact hn
  have m2:=mz (P:=P) hm.objs (k:=fr) (x:=.arr 2 [[.a<|.bld t fr,.a<|.fz .N]]) (by simp[upd,isLive]) trivial (λhb=>by
   obtain⟨n,hb⟩:=hb
   simp[upd,flat] at hb) (λX b hb hr=>by
    have hb':b=w.heap.size:=by simpa[upd] using hb.symm
    subst hb';rw[show upd h fr (.arr 2 [fzs [.cst<|.pointer none,.N]]) fr=.arr 2 [fzs [.cst<|.pointer none,.N]] by simp[upd]] at hr;obtain⟨us,tt,g1,g2,g3,g4⟩:=hr;refine⟨us,tt,g1,g2,zb,λi j e c he hc=>?_⟩;cases i with
    |succ i=>simp at he
    |zero=>
     simp at he;subst he;cases j with
     |zero=>
      simp at hc;subst hc;obtain⟨u,hu,hr⟩:=g4 0 0 _ (.a<|.fz<|.cst<|.pointer none) rfl rfl;refine⟨u,hu,.a _ _<|.bld t fr _ u hb hsh<|.inl ?_⟩;cases hr with
      |a _ _ hr=>cases hr with
       |fz _ _ hr=>cases hr with
        |cst _ _=>rfl
     |succ j=>
      cases j with
      |zero=>
       simp at hc;subst hc;exact g4 0 1 _ (.a<|.fz .N) rfl rfl
      |succ j=>simp at hc)
  have m3:=hm.trans m2 (f:=λk=>k=fr) (λk hk=>zd) hO (λ_ h=>h) λ_ h=>h.elim;refine⟨.value<|.pointer<|some ⟨w.heap.size,0,none⟩,.pointer<|some ⟨w.heap.size,0,none⟩,{w with heap:=w.heap.push (.cells v.cells.toList.toArray t (0,0)),drawn:=w.drawn+0},upd β fr<|some w.heap.size,?_,.inl rfl,?_,?_⟩
  .simp only[Instr.alloc,rW,hv,rI,newVar,newRow,run_newObj,sg,Array.toArray_toList,th]
  .rw[xe];show Moves h (upd h fr<|.arr 2 [[.a<|.bld t fr,.a<|.fz .N]]) _ _ _ _ _ _;rw[show upd h fr (.arr 2 [[.a<|.bld t fr,.a<|.fz .N]])=upd (upd h fr<|.arr 2 [fzs [.cst<|.pointer none,.N]]) fr (.arr 2 [[.a<|.bld t fr,.a<|.fz .N]]) by funext k;simp only[upd];split<;>rfl];exact m3
  .rw[xe];have:=ARep.ep (w:={w with heap:=w.heap.push (.cells v.cells.toList.toArray t (0,0)),drawn:=w.drawn+0}) (X:=XO Y (upd h fr<|.arr 2 [[.a<|.bld t fr,.a<|.fz .N]])<|upd β fr<|some w.heap.size) (β:=upd β fr<|some w.heap.size) fr 2 0 0 w.heap.size (by simp[upd])
   exact .a _ _ this
 .exact fL hO hY hfr hd hz
section
variable {P:Program} {h:Nat->AObj} {β:Nat->Option Nat} {Y:Nat->Prop} {w:World}
theorem jo {n:Nat}:∀ {es:List (List WV)} (_:∀e∈es,e.length=n) (i j:Nat),j<n->es.flatten[i*n+j]?=(es[i]?).bind (·[j]?)
 |[],_,i,j,_=>zb
 |e::es,hn,i,j,hj=>by
  have he:=hn e zb;cases i with
  |zero=>simp[sJ,he,hj]
  |succ i=>
   have ih:=jo (es:=es) (λe h=>hn e<|by simp[h]) i j hj
   grind
theorem uz {n:Nat}:∀ {es:List (List WV)} (_:∀e∈es,e.length=n),es.flatten.length=es.length*n
 |[],_=>zb
 |e::es,hn=>by
  have:=uz (es:=es) (λe h=>hn e<|by simp[h])
  grind
theorem xz {X:Nat->Prop}{n:Nat}{es:List (List WV)}{us:List Value}(hn:∀e∈es,e.length=n)(hl:LRep (WRep w X β) es.flatten us):
  ∀(i j:Nat) (e:List WV) (c:WV),es[i]?=some e->e[j]?=some c->∃u,us[i*n+j]?=some u/\WRep w X β c u:=by
 intro i j e c he hc;have hj:j<n:=zd
 exact hl.get (by rw[jo hn i j hj,he];exact hc)
theorem ua {X:Nat->Prop} {n:Nat} {es:List (List WV)} {us:List Value} (hn:∀e∈es,e.length=n) (hlen:us.length=es.length*n)
  (h3:∀(i j:Nat) (e:List WV) (c:WV),es[i]?=some e->e[j]?=some c->∃u,us[i*n+j]?=some u/\WRep w X β c u):LRep (WRep w X β) es.flatten us:=by
 refine⟨by rw[uz hn,hlen],λk c u hc hu=>?_⟩;have hk:k<es.length*n:=zd
 have hn0:0<n:=by rcases Nat.eq_zero_or_pos n with h0|h0; · subst h0;simp at hk
                  .exact h0
 have hkk:k/n*n+k % n=k:=by rw[Nat.mul_comm];exact Nat.div_add_mod k n
 rw[<-hkk] at hc hu;rw[jo hn _ _<|Nat.mod_lt _ hn0] at hc
 grind
theorem jh (hO:Objs h β Y w){n:Nat}{x:TV}{v:Value}{new:List (List WV)}{rd:List Nat}(he:w5 n h x=some (new,rd))(hx:TRep w (XO Y h β) β x v)(hn0:0<n):
  (∀e∈new,e.length=n)/\∃(news:List Value),LRep (WRep w (XO Y h β) β) new.flatten news/\((v=.slice none 0 0/\new=[])\/
   ∃a cap,v=.slice (some a) new.length cap/\∀j u,news[j]?=some u->w.cell? (a.add j)=some u):=by
 unfold w5 at he;split at he
 .simp only[r8,rX] at he;obtain⟨rfl,rfl⟩:=he;exact⟨zb,[],.nil,.inl ⟨hx.nils_inv,rfl⟩⟩
 .rename_i nn m es;split at he
  .rename_i hm;subst hm;obtain⟨rfl,rfl⟩:=he;have h1:=hx.fz_inv;cases h1 with
   |slnil=>exact⟨zb,[],.nil,.inl ⟨rfl,rfl⟩⟩
   |sl0 _ _ a=>exact⟨zb,[],.nil,.inr ⟨a,0,rfl,λj u h=>zd⟩⟩
   |sl _ _ _ b off cap len f g1 g2 g3 g4 g5 g6 g7=>
    subst g1
    have hn:∀e∈es.map fzs,e.length=m:=by
     intro e he;obtain⟨e',he',rfl⟩:=rK.1 he;obtain⟨i,hi⟩:=sP he';simp[fzs,g5 i e' hi]
    refine⟨hn,(List.range<|es.length*m).map λk=>f (k/m)<|k % m,?_,.inr ⟨⟨b,off,none⟩,cap,zb,?_⟩⟩
    .refine ua hn zb λi j e c he hc=>?_;rw[rq] at he;obtain⟨e',he',rfl⟩:=oY.1 he;rw[fzs,rq] at hc;obtain⟨c',hc',rfl⟩:=oY.1 hc;have hi:=(rr.1 he').1;have hj:j<m:=zd
     have hlt:i*m+j<es.length*m:=by
      have:(i+1)*m<=es.length*m:=rZ _ hi
      grind
     refine⟨f i j,?_,.a _ _<|.fz _ _<|g7 i j e' c' he' hc'⟩;rw[rq,tA hlt];simp only[ry,r8];rw[Nat.mul_comm i m,Nat.mul_add_div hn0,Nat.div_eq_of_lt hj,Nat.mul_add_mod,Nat.mod_eq_of_lt hj,th]
    .intro k u hu;rw[rq] at hu;obtain⟨k',hk',rfl⟩:=oY.1 hu;have hk:k<es.length*m:=zd
     rw[tA hk] at hk';injection hk' with hk'
     subst hk';have hi:k/m<es.length:=by rw[Nat.div_lt_iff_lt_mul hn0];exact hk
     have hej:=g5 _ _<|rf hi
     have hj:k % m<es[k/m].length:=by rw[hej];exact Nat.mod_lt _ hn0
     have:=g6 _ _ _ _ (rf hi)<|rf hj
     rw[Addr.add_lit];rw[show off+k=off+k/m*m+k % m by have:=Nat.div_add_mod k m;rw[Nat.mul_comm] at this;omega];exact this
  .cases he
 .simp only[r8,rX] at he;obtain⟨rfl,rfl⟩:=he;have h1:=hx.fz_inv;cases h1 with
  |z0 _ a=>exact⟨zb,[],.nil,.inr ⟨a,0,rfl,λj u h=>zd⟩⟩
  |z0n=>exact⟨zb,[],.nil,.inl ⟨rfl,rfl⟩⟩
 .rename_i o m off len;split at he
  .rename_i m' es ho;split at he
   .rename_i hc;obtain⟨rfl,rfl,hfit⟩:=hc;obtain⟨rfl,rfl⟩:=he;obtain⟨b,q,cap,sz,tt,hb,hsh,hlc,hcap,hq,rfl⟩|⟨h0,rfl⟩:=hx.osl_inv
    case inr=>subst h0;exact⟨zb,[],zo LRep.nil,.inl ⟨rfl,zb⟩⟩
    obtain⟨us,t,g1,g2,g3,g4⟩:=kD hO (by rw[ho];rfl) hb;have hn:∀e∈(es.drop off).take len,e.length=m':=λe he=>g3 e<|List.mem_of_mem_drop<|tW he
    have hlen:((es.drop off).take len).length=len:=zd
    have hmul:(off+len)*m'<=es.length*m':=rZ _ hfit;refine⟨hn,(us.drop<|off*m').take<|len*m',?_,.inr ⟨⟨b,q,none⟩,cap,zd,?_⟩⟩
    .refine ua hn zd λi j e c he hc=>?_;rw[si,sK] at he;split at he
     .rename_i hi;obtain⟨u,hu,hr⟩:=g4 _ j e c he hc
      have hlt:i*m'+j<len*m':=by
       have:(i+1)*m'<=len*m':=rZ _ hi
       grind
      grind
     .cases he
    .intro k u hu;rw[si,sK] at hu;split at hu
     .rename_i hk
      have hl0:0<len:=by rcases Nat.eq_zero_or_pos len with h0|h0; · subst h0;simp at hk
                         .exact h0
      rw[hq.resolve_right za,Addr.add_lit];simp only[World.cell?,g1,tG,tE,rF,rN];exact hu
     .cases hu
   .cases he
  .cases he
 .cases he
theorem wZ (t ty e:TypeId)(i:TypeInfo)(ht:P.underlying t=some (.slice e))(hi:P.info? e=some i)(base:Option Addr)(len cap:Nat)(hlc:len<=cap)(v:Value)(hv:v=.slice none 0 0\/∃a c,v=.slice (some a) 0 c):
  (Builtin.append_ #[t,t] ty #[.slice base len cap,v]).run P w=.ok (.slice base len cap) w:=by
 have hf:(Builtin.firstCells i.size 0 v).run P w=.ok #[] w:=by
  rcases hv with rfl|⟨a,c,rfl⟩
  .rfl
  .simp[Builtin.firstCells,loadCells,loadCellsFrom]
 have hl:(Builtin.lenOf v).run P w=.ok 0 w:=by
  rcases hv with rfl|⟨a,c,rfl⟩<;>simp[Builtin.lenOf]
 cases base<;>simp[Builtin.append_,rj ht,sizeOf,typeInfo,hi,hl,hlc,hf,storeCells]
theorem f8 (hO:Objs h β Y w) (hY:∀b,Y b->b<w.heap.size) {fr:Nat} (hfr:β fr=none) {t ty e:TypeId} {d de:TyD} {s x:TV} {u v:Value} {r:AR} (hd:tyOf P t=some d) (hk:d.kind=.slice e) (hde:tyOf P e=some de)
  (hs:TRep w (XO Y h β) β s u) (hx:TRep w (XO Y h β) β x v) (ha:jg de fr h s x=some r):
  Does P h β Y w fr r (do pure (.value (<-Builtin.append_ #[t,t] ty #[u,v]))):=by
 have ht:=xc hd hk;unfold jg at ha;split at ha
 .rename_i hc;obtain⟨hs0,hb0,hb1,hz⟩:=hc;obtain⟨z,hz1,hz2⟩:=oY.1 hz;obtain⟨zv,_,hz3,_,i,hi,hiz⟩:=wE (w:=w) hde hz1;obtain⟨i',_,hi',_,_,hsz,hby,_,_⟩:=wC hde;rw[hi] at hi';injection hi' with hi';subst hi'
  have hzs:zv.cells.size=i.size:=by rw[<-hsz,<-hz2,hz3];simp
  unfold xm at ha;split at ha
  .cases ha
  .rename_i new rd hel;obtain⟨hn,news,hfl,hcase⟩:=jh hO hel hx hs0;have hnl:news.length=new.length*i.size:=by rw[<-hfl.1,uz hn,hsz]
   have zlen:∀k,(Builtin.zeroCells zv.cells k).toList.length=k*i.size:=λk=>by rw[tB,size_zeroCells,hzs]
   split at ha
   .
    rw[hs.nils_inv];split at ha
    .rename_i hnew;injection ha with ha;subst ha
     have hv:v=.slice none 0 0\/∃a c,v=.slice (some a) 0 c:=by
      grind
     exact xT hO ⟨_,wZ t ty e i ht hi none 0 0 (r6 _) v hv,.fz_mk .N⟩
    .rename_i hnew;split at ha
     .rename_i hroom;injection ha with ha;subst ha
      have hm0:0<new.length:=by cases new<;>simp_all
      obtain⟨a,c,rfl,hcell⟩:=hcase.resolve_left λh=>hnew h.2;have hroom:new.length*i.bytes<=140737488355328:=by rw[<-hby];exact hroom
      have hle:new.length<=new.length*i.bytes:=sZ _ (by rw[<-hby];exact hb0);have hr:=run_append_nil (P:=P) w t ty e i zv ht hi hiz a new.length c news hnl hcell hm0 za za;have hge:=grownCap_ge w new.length 0 e;refine ud hO hY hfr de.size new (news++(Builtin.zeroCells zv.cells<|grownCap w new.length 0 e-new.length).toList) e 1 (.slice (some ⟨w.heap.size,0,none⟩) new.length<|grownCap w new.length 0 e) _ (hr.trans ?_) ?_ hn ?_ ?_
      .congr 1;simp only[World.alloc,World.drew];congr 3;apply tV;simp
      .rw[re,hnl,hsz];omega
      .rw[hsz];intro i' j e' c' he' hc';rw[hsz] at hn;obtain⟨u',hu',hr'⟩:=xz hn hfl i' j e' c' he' hc';exact⟨u',by rw[sJ,oX (rr.1 hu').1];exact hu',hr'⟩
      .intro w' β' hb hsh;refine .a _ _<|.osl fr de.size 0 new.length w.heap.size 0 _ _ e hb hsh hge ?_<|.inl zb
       rw[re,hnl,zlen,<-sL,hsz];exact rZ _ za
     .cases ha
   .
    have hs':=hs.fz_inv
    have hu:(u=.slice none 0 0)\/∃a0,u=.slice (some a0) 0 0:=by
     cases hs' with
     |z0 _ a0=>exact .inr ⟨a0,rfl⟩
     |z0n=>exact .inl rfl
    split at ha
    .rename_i hnew;injection ha with ha;subst ha
     have hv:v=.slice none 0 0\/∃a c,v=.slice (some a) 0 c:=by
      rcases hcase with⟨h1,_⟩|⟨a,c,h1,_⟩
      .exact .inl h1
      .subst hnew;exact .inr ⟨a,c,h1⟩
     rcases hu with rfl|⟨a0,rfl⟩
     .exact xT hO ⟨_,wZ t ty e i ht hi none 0 0 (r6 _) v hv,hs⟩
     .exact xT hO ⟨_,wZ t ty e i ht hi (some a0) 0 0 (r6 _) v hv,hs⟩
    .rename_i hnew;split at ha
     .rename_i hroom;injection ha with ha;subst ha
      have hm0:0<new.length:=by cases new<;>simp_all
      obtain⟨a,c,rfl,hcell⟩:=hcase.resolve_left λh=>hnew h.2;have hroom:new.length*i.bytes<=140737488355328:=by rw[<-hby];exact hroom
      have hle:new.length<=new.length*i.bytes:=sZ _ (by rw[<-hby];exact hb0)
      have hr:(Builtin.append_ #[t,t] ty #[u,.slice (some a) new.length c]).run P w=.ok (.slice (some ⟨w.heap.size,0,none⟩) new.length<|grownCap w new.length 0 e) (w.drew.alloc<|.cells (news.toArray++Builtin.zeroCells zv.cells (grownCap w new.length 0 e-new.length)) e):=by
       rcases hu with rfl|⟨a0,rfl⟩
       .exact run_append_nil (P:=P) w t ty e i zv ht hi hiz a new.length c news hnl hcell hm0 za za
       .have:=run_append_grow (P:=P) w t ty e i zv ht hi hiz a0 0 0 [] zb (λj u h=>by simp at h) a new.length c news hnl hcell za za<|growslice_fits za<|zo hroom
        simpa using this
      have hge:=grownCap_ge w new.length 0 e;refine ud hO hY hfr de.size new (news++(Builtin.zeroCells zv.cells<|grownCap w new.length 0 e-new.length).toList) e 1 (.slice (some ⟨w.heap.size,0,none⟩) new.length<|grownCap w new.length 0 e) _ (hr.trans ?_) ?_ hn ?_ ?_
      .congr 1;simp only[World.alloc,World.drew];congr 3;apply tV;simp
      .rw[re,hnl,hsz];omega
      .rw[hsz];intro i' j e' c' he' hc';rw[hsz] at hn;obtain⟨u',hu',hr'⟩:=xz hn hfl i' j e' c' he' hc';exact⟨u',by rw[sJ,oX (rr.1 hu').1];exact hu',hr'⟩
      .intro w' β' hb hsh;refine .a _ _<|.osl fr de.size 0 new.length w.heap.size 0 _ _ e hb hsh hge ?_<|.inl zb
       rw[re,hnl,zlen,<-sL,hsz];exact rZ _ za
     .cases ha
   .
    rename_i o n off len;split at ha
    .rename_i m es ho;split at ha
     .rename_i hc;obtain⟨rfl,rfl,rfl,hle,hroom,hnr⟩:=hc;injection ha with ha;subst ha
      have hne:o≠fr:=λe=>by subst e;simp at hnr
      obtain⟨b,q,cap,sz,tt,hb,hsh,hlc,hcap,hq,rfl⟩|⟨h0,rfl⟩:=hs.osl_inv
      case inr=>
       subst h0
       have hover:∀X:AObj,over [(o,.gone),(fr,X)] h=upd (upd h o .gone) fr X:=by
        intro X;funext k;simp only[over,ya,upd];by_cases e1:o=k
        .subst e1;simp[hne]
        .by_cases e2:fr=k
         .subst e2;simp[e1]
         .simp[e1,e2,show k≠fr from λh=>e2 h.symm,show k≠o from λh=>e1 h.symm]
       by_cases hnew:new=[]
       .have hv:v=.slice none 0 0\/∃a c,v=.slice (some a) 0 c:=by
         rcases hcase with⟨h1,_⟩|⟨a,c,h1,_⟩
         .exact .inl h1
         .subst hnew;exact .inr ⟨a,c,h1⟩
        subst hnew;refine⟨.value<|.slice none 0 0,.slice none 0 0,w,β,?_,.inl rfl,?_,?_⟩
        .simp only[rW,wZ t ty e i ht hi none 0 0 (r6 _) v hv,rI,sg]
        .rw[hover];simpa using aR hO o hfr de.size
        .exact .a _ _<|.oslN _ _ _
       .have hm0:0<new.length:=by cases new<;>simp_all
        obtain⟨a,c,rfl,hcell⟩:=hcase.resolve_left λh=>hnew h.2;have hroom:(0+new.length)*i.bytes<=140737488355328:=by rw[<-hby];exact hroom
        rw[rB] at hroom;have hle:new.length<=new.length*i.bytes:=sZ _ (by rw[<-hby];exact hb0);have hr:=run_append_nil (P:=P) w t ty e i zv ht hi hiz a new.length c news hnl hcell hm0 za za;have hge:=grownCap_ge w new.length 0 e;rw[hsz] at hn
        have hm1:=qC hO hY hfr i.size new (news++(Builtin.zeroCells zv.cells<|grownCap w new.length 0 e-new.length).toList) e 1
         (by rw[re,hnl];omega) hn (λi' j e' c' he' hc'=>by
          obtain⟨u',hu',hr'⟩:=xz hn hfl i' j e' c' he' hc';exact⟨u',by rw[sJ,oX (rr.1 hu').1];exact hu',hr'⟩)
        have hm2:=qM hm1.objs o;have hm:=hm1.trans hm2 (λk hk=>by rw[hk];exact hfr) hO (f:=λk=>k=fr) (λ_ h=>h) λ_ h=>h.elim
        have heq:upd (upd h fr<|.arr i.size new) o .gone=upd (upd h o .gone) fr (.arr i.size new):=by
         funext k
         simp only[upd];by_cases e1:k=fr
         .subst e1;simp[show¬k=o from λe=>hne e.symm]
         .by_cases e2:k=o
          .subst e2;simp[e1]
          .simp[e1,e2]
        rw[heq] at hm
        refine⟨.value<|.slice (some ⟨w.heap.size,0,none⟩) new.length<|grownCap w new.length 0 e,.slice (some ⟨w.heap.size,0,none⟩) new.length<|grownCap w new.length 0 e,
         {w with heap:=w.heap.push (.cells (news++(Builtin.zeroCells zv.cells<|grownCap w new.length 0 e-new.length).toList).toArray e (0,0)),drawn:=w.drawn+1},AM.upd β fr (some w.heap.size),?_,.inl rfl,?_,?_⟩
        .simp only[rW,hr,rI,sg,World.alloc,World.drew];congr 4;apply tV;simp
        .rw[hover,List.take_zero,rH,hsz];exact hm
        .simp only[rB];refine .a _ _<|.osl fr de.size 0 new.length w.heap.size 0 _ (news++(Builtin.zeroCells zv.cells<|grownCap w new.length 0 e-new.length).toList).length e (by simp[AM.upd]) ?_ hge ?_<|.inl zb
         .simp[World.shape?]
         .rw[re,hnl,zlen,<-sL,hsz];exact rZ _ za
      obtain⟨us,te,g1,g2,g3,g4⟩:=kD hO (by rw[ho];rfl) hb;have hlive:isLive (h o):=by rw[ho];trivial
      have hszu:sz=us.length:=by
       simp only[World.shape?,g1,r8,rX] at hsh;have:=hsh.2;simp at this;exact this.symm
      have hover:∀X:AObj,over [(o,.gone),(fr,X)] h=upd (upd h o .gone) fr X:=by
       intro X;funext k;simp only[over,ya,upd];by_cases e1:o=k
       .subst e1;simp[hne]
       .by_cases e2:fr=k
        .subst e2;simp[e1]
        .simp[e1,e2,show k≠fr from λh=>e2 h.symm,show k≠o from λh=>e1 h.symm]
      have hnes:∀e'∈es.take len++new,e'.length=de.size:=by
       intro e' he';rcases rQ.1 he' with h1|h1
       .exact g3 e'<|tW h1
       .exact hn e' h1
      have hlenes:(es.take len++new).length=len+new.length:=zj
      have hroom:(len+new.length)*i.bytes<=140737488355328:=by rw[<-hby];exact hroom
      have hler:len+new.length<=(len+new.length)*i.bytes:=sZ _ (by rw[<-hby];exact hb0);have hlm:len*de.size<=es.length*de.size:=rZ _ hle;have holds:∀X:Nat->Prop,True:=λ_=>trivial
      have hflold:LRep (WRep w (XO Y h β) β) (es.take len).flatten (us.take<|len*de.size):=by
       refine ua (λe' he'=>g3 e'<|tW he') (by rw[rM,rM,sU hle,sU za]) λi' j e' c' he' hc'=>?_;rw[si] at he';split at he'
       .rename_i hi';obtain⟨u',hu',hr'⟩:=g4 i' j e' c' he' hc';have hj:j<de.size:=by rw[<-g3 e'<|rV he'];exact(rr.1 hc').1
        have hlt:i'*de.size+j<len*de.size:=by
         have:(i'+1)*de.size<=len*de.size:=rZ _ hi';rw[sL] at this;omega
        exact⟨u',by rw[si,oX hlt];exact hu',hr'⟩
       .cases he'
      have hflall:LRep (WRep w (XO Y h β) β) (es.take len++new).flatten (us.take (len*de.size)++news):=by
       rw[List.flatten_append];exact hflold.append hfl
      by_cases hfitc:len+new.length<=cap
      .
       by_cases hm0:new.length=0
       .have hnew:new=[]:=rk hm0
        have hv:v=.slice none 0 0\/∃a c,v=.slice (some a) 0 c:=by
         rcases hcase with⟨h1,_⟩|⟨a,c,h1,_⟩
         .exact .inl h1
         .rw[hm0] at h1;exact .inr ⟨a,c,h1⟩
        subst hnew
        have hm1:=Xh hO hlive hb us us te g1 rfl de.size (es.take len) (by rw[rM,sU hle];omega) (λe' he'=>g3 e'<|tW he') (λi' j e' c' he' hc'=>by
         rw[si] at he';split at he'
         .exact g4 i' j e' c' he' hc'
         .cases he')
        have hself:w.setRow b us.toArray=w:=setRow_self w b us.toArray te (0,0) g1;rw[hself] at hm1;have hm2:=Zn hm1.objs (o:=o) (fr:=fr) (b:=b) (by simp[upd,isLive]) hb hfr;have hm:=hm1.trans hm2 (λ_ h=>h.elim) hO (f:=λk=>k=fr) (λ_ h=>h.elim) λ_ h=>h
        have heq:upd (upd (upd h o<|.arr de.size<|es.take len) o .gone) fr (upd h o (.arr de.size<|es.take len) o)=upd (upd h o .gone) fr (.arr de.size<|es.take len++[]):=by
         funext k;simp only[upd,rp];by_cases e1:k=fr<;>by_cases e2:k=o<;>simp[e1,e2]
        rw[heq] at hm;refine⟨.value<|.slice (some ⟨b,q,none⟩) len cap,.slice (some ⟨b,q,none⟩) len cap,w,upd β fr<|some b,?_,.inl rfl,?_,?_⟩
        .simp only[rW,wZ t ty e i ht hi (some ⟨b,q,none⟩) len cap hlc v hv,rI,sg]
        .rw[hover];exact hm
        .rw[hover];exact .a _ _<|.osl fr de.size 0 len b q cap sz tt (by simp[upd]) hsh hlc hcap hq
       .obtain⟨a,c,rfl,hcell⟩:=hcase.resolve_left (λh=>hm0<|by rw[h.2];rfl);have hq0:q=0:=by have:=hq.resolve_right za;exact zo this
        subst hq0;have hte:(⟨us.toArray,te⟩:Array Value×TypeId)=(us.toArray,te):=rfl;have hcap':cap*de.size<=us.length:=by rw[<-hszu];exact zo hcap
        have hfit:len*i.size+news.length<=us.toArray.size:=by
         rw[hnl,<-sL,<-hsz];exact rS (rZ _ hfitc) (zo hcap')
        have hrun:(Builtin.append_ #[t,t] ty #[.slice (some ⟨b,0,none⟩) len cap,.slice (some a) new.length c]).run P w=
          .ok (.slice (some ⟨b,0,none⟩) (len+new.length) cap) (w.setRow b (us.take (len*i.size)++news++us.drop (len*i.size+news.length)).toArray):=by
         have hf:=run_firstCells_some (P:=P) w i.size new.length a new.length c news hnl hcell;have hst:=run_storeCells_at P b (len*i.size) te news 0 us.toArray w g1 (zo hfit) hfl.cell;simp only[th] at hst;simp[Builtin.append_,rj ht,sizeOf,typeInfo,hi,Builtin.lenOf,hfitc,hf,Addr.add_lit,hst]
        have hlen2:(us.take (len*i.size)++news++us.drop (len*i.size+news.length)).length=us.length:=by
         simp only[re,rM,List.length_drop];simp at hfit;omega
        have hpre:∀k,k<len*i.size+news.length->(us.take (len*i.size)++news++us.drop (len*i.size+news.length))[k]?=(us.take (len*i.size)++news)[k]? :=by
         intro k hk;rw[sJ,oX<|by rw[re,rM,sU<|by simp at hfit;omega];exact hk]
        have hm1:=Xh hO hlive hb (us.take (len*i.size)++news++us.drop (len*i.size+news.length)) us te g1 hlen2 de.size (es.take len++new)
         (by rw[hlenes,hlen2,sL];rw[hsz];simp at hfit;rw[hnl] at hfit;exact hfit) hnes (λi' j e' c' he' hc'=>by
          obtain⟨u',hu',hr'⟩:=xz hnes hflall i' j e' c' he' hc';rw[hsz] at hu' ⊢;have hk:=(rr.1 hu').1;refine⟨u',?_,hr'⟩;rw[hpre _<|by simp only[re,rM] at hk;omega];exact hu')
        have hm2:=Zn hm1.objs (o:=o) (fr:=fr) (b:=b) (by simp[upd,isLive]) hb hfr;have hm:=hm1.trans hm2 (λ_ h=>h.elim) hO (f:=λk=>k=fr) (λ_ h=>h.elim) λ_ h=>h
        have heq:upd (upd (upd h o<|.arr de.size<|es.take len++new) o .gone) fr (upd h o (.arr de.size<|es.take len++new) o)=upd (upd h o .gone) fr (.arr de.size<|es.take len++new):=by
         funext k;simp only[upd];by_cases e1:k=fr<;>by_cases e2:k=o<;>simp[e1,e2]
        rw[heq] at hm;refine⟨.value<|.slice (some ⟨b,0,none⟩) (len+new.length) cap,.slice (some ⟨b,0,none⟩) (len+new.length) cap,w.setRow b (us.take (len*i.size)++news++us.drop (len*i.size+news.length)).toArray,upd β fr<|some b,?_,.inl rfl,?_,?_⟩
        .simp only[rW,hrun,rI,sg]
        .rw[hover];exact hm
        .rw[hover];refine .a _ _<|.osl fr de.size 0 (len+new.length) b 0 cap sz tt (by simp[upd]) ?_ hfitc hcap<|.inl zb
         rw[hm1.good.shp b<|hO.lt o b hb];exact hsh
      .
       have hm0:new.length≠0:=za
       obtain⟨a,c,rfl,hcell⟩:=hcase.resolve_left (λh=>hm0<|by rw[h.2];rfl)
       have hcl:∀j u',(us.take<|len*de.size)[j]?=some u'->w.cell? ((⟨b,q,none⟩:Addr).add j)=some u':=by
        intro j u' hu';rw[si] at hu';split at hu'
        .rename_i hj
         have hl0:0<len:=by rcases Nat.eq_zero_or_pos len with h0|h0; · subst h0;simp at hj
                            .exact h0
         have hq0:q=0:=by have:=hq.resolve_right za;exact zo this
         subst hq0;rw[Addr.add_lit];simp only[World.cell?,g1,tG,tE,rF,rN,rB];exact hu'
        .cases hu'
       have hr:=run_append_grow (P:=P) w t ty e i zv ht hi hiz ⟨b,q,none⟩ len cap (us.take<|len*de.size) (by rw[<-hsz];simp;omega) hcl a new.length c news hnl hcell za za<|growslice_fits za hroom
       have hge:=grownCap_ge w (len+new.length) cap e
       have hm1:=qC hO hY hfr de.size (es.take len++new) (us.take (len*de.size)++news++(Builtin.zeroCells zv.cells<|grownCap w (len+new.length) cap e-(len+new.length)).toList) e 1
        (by rw[hlenes,re,re,hnl,sL,hsz];simp;rw[<-hsz];omega) hnes (λi' j e' c' he' hc'=>by
         obtain⟨u',hu',hr'⟩:=xz hnes hflall i' j e' c' he' hc';exact⟨u',by rw[sJ,oX (rr.1 hu').1];exact hu',hr'⟩)
       have hm2:=qM hm1.objs o;have hm:=hm1.trans hm2 (λk hk=>by rw[hk];exact hfr) hO (f:=λk=>k=fr) (λ_ h=>h) λ_ h=>h.elim
       have heq:upd (upd h fr<|.arr de.size<|es.take len++new) o .gone=upd (upd h o .gone) fr (.arr de.size<|es.take len++new):=by
        funext k
        simp only[upd];by_cases e1:k=fr
        .subst e1;simp[show¬k=o from λe=>hne e.symm]
        .by_cases e2:k=o
         .subst e2;simp[e1]
         .simp[e1,e2]
       rw[heq] at hm
       refine⟨.value<|.slice (some ⟨w.heap.size,0,none⟩) (len+new.length)<|grownCap w (len+new.length) cap e,.slice (some ⟨w.heap.size,0,none⟩) (len+new.length)<|grownCap w (len+new.length) cap e,
        {w with heap:=w.heap.push (.cells (us.take (len*de.size)++news++(Builtin.zeroCells zv.cells<|grownCap w (len+new.length) cap e-(len+new.length)).toList).toArray e (0,0)),drawn:=w.drawn+1},upd β fr (some w.heap.size),?_,.inl rfl,?_,?_⟩
       .simp only[rW,hr,rI,sg,World.alloc,World.drew];congr 4;apply tV;simp
       .rw[hover];exact hm
       .rw[hover];refine .a _ _<|.osl fr de.size 0 (len+new.length) w.heap.size 0 _ (us.take (len*de.size)++news++(Builtin.zeroCells zv.cells<|grownCap w (len+new.length) cap e-(len+new.length)).toList).length e (by simp[upd]) ?_ hge ?_<|.inl zb
        .simp[World.shape?]
        .simp only[re,rM,hnl,zlen];rw[sU za,hsz,<-sL,<-sL];exact rZ _ za
     .cases ha
    .cases ha
   .cases ha
 .cases ha
end
section
variable {P:Program} {w:World} {X:Nat->Prop} {β:Nat->Option Nat}
theorem Jf {f:FV}{u:Value}(h:FRep w X f u):WRep w X β (cell f) u:=.a _ _<|.fz _ _ h
theorem jJ {fs:List FV}{us:List Value}(h:LRep (FRep w X) fs us):LRep (WRep w X β) (fzs fs) us:=LRep.map h λ_ _ _ h=>Jf h
theorem nS {kt:TypeId}{k:EK}{a b:List FV}{u v:Value}{r:Bool}(hk:ekOf P kt=some k)(ha:PRep (FRep w X) (false,a) u)(hb:PRep (FRep w X) (false,b) v)(hs:y9 [k] (fzs a) (fzs b)=some r):
  ∃d,P.underlying kt=some d/\Instr.sameNow d u v=some r/\(match d with|.struct _|.array _ _|.interface _=>False|_=>True)/\(∀cs,u ≠ .agg cs):=by
 obtain⟨us,rfl,hu,hu1⟩:=ha;obtain⟨vs,rfl,hv,hv1⟩:=hb;obtain⟨x,y,xs',ys',p,q,e1,e2,hsc,hr,hcase⟩:=uk hs;have hu':=jJ (β:=λ_=>none) hu;have hv':=jJ (β:=λ_=>none) hv;rw[e1] at hu';rw[e2] at hv';obtain⟨u0,us',rfl,hu0,hur⟩:=hu'.cons_inv;obtain⟨v0,vs',rfl,hv0,hvr⟩:=hv'.cons_inv
 have hq:q=true:=by
  cases xs'<;>cases ys'<;>simp only[y9,r8,reduceCtorEq] at hsc
  exact hsc.symm
 subst hq;rw[ti] at hr;subst hr;simp only[shut,rF,rN,List.getD_cons_zero];unfold ekOf at hk;rcases hcase with⟨rfl,kk,n,m,rfl,rfl,rfl⟩|⟨rfl,n,m,rfl,rfl,rfl⟩|⟨rfl,n,m,rfl,rfl,rfl⟩
 .split at hk<;>simp only[r8,reduceCtorEq] at hk
  rename_i hd;rw[TRep.int_inv (β:=λ_=>none) (X:=X) (w:=w) hu0,TRep.int_inv (β:=λ_=>none) (X:=X) (w:=w) hv0];exact⟨_,hd,by simp[Instr.sameNow],trivial,zb⟩
 .split at hk<;>simp only[r8,reduceCtorEq] at hk
  rename_i hd;rw[TRep.bool_inv (β:=λ_=>none) (X:=X) (w:=w) hu0,TRep.bool_inv (β:=λ_=>none) (X:=X) (w:=w) hv0];exact⟨_,hd,by simp[Instr.sameNow],trivial,zb⟩
 .split at hk<;>simp only[r8,reduceCtorEq] at hk
  rename_i hd;rw[TRep.str_inv (β:=λ_=>none) (X:=X) (w:=w) hu0,TRep.str_inv (β:=λ_=>none) (X:=X) (w:=w) hv0];refine⟨_,hd,?_,trivial,zb⟩
  have:((⟨n.toArray⟩:ByteArray)==⟨m.toArray⟩)=(n==m):=by
   rw[Bool.eq_iff_iff];simp only[MapKept.bytes_beq,rT];constructor
   .intro h;injection h with h;exact List.toArray_inj h
   .intro h;rw[h]
  simp[Instr.sameNow,this]
theorem agg_eq {kt:TypeId}{fs:Array Field}{l:List EK}{a b:List FV}{u v:Value}{r:Bool}(hfs:P.underlying kt=some (.struct fs))(hl:jc P kt=some l)(ha:PRep (FRep w X) (true,a) u)(hb:PRep (FRep w X) (true,b) v)(hs:y9 l (fzs a) (fzs b)=some r):(Op.equal kt u v).run P w=.ok r w:=by
 obtain⟨us,rfl,hu,hu1⟩:=ha;obtain⟨vs,rfl,hv,hv1⟩:=hb;unfold jc at hl;rw[hfs] at hl;simp only at hl;split at hl
 .rename_i hc;have hf:P.fieldsOf kt=fs:=by simp[Program.fieldsOf,hfs]
  have hrun:=ui (β:=λ_=>none) fs.toList 0 l _ _ us vs us.toArray vs.toArray r hl hs (jJ hu) (jJ hv) zb zb;have:=run_equalIn_agg (P:=P) w 9999 kt us.toArray vs.toArray (by rw[hf];exact hfs) hc.1;rw[hf] at this;exact this.trans hrun
 .cases hl
def ZA (ms:List MapEntry)(r:Option Nat):Option (Nat×Value):=r.bind λi=>(ms[i]?).map λe=>(i,e.val)
theorem Y9 {d:TypeDesc}{k:EK}{kt:TypeId}(hk:ekOf P kt=some k)(hd:P.underlying kt=some d){key:List FV}{u:Value}(hu:PRep (FRep w X) (false,key) u):∀(es:List MapE) (ms all:List MapEntry) (i:Nat) (res:Option Nat),
  all.drop i=ms->es.length=ms.length->(∀(j:Nat) (e:MapE) (x:MapEntry),es[j]?=some e->ms[j]?=some x->PRep (FRep w X) e.1 x.key)->vj (false,[k]) key es i=some res->Instr.findNow d u ms i=some (ZA all res)/\∀j,res=some j->i<=j/\j<i+es.length
 |[],ms,all,i,res,hall,hlen,hrep,h=>by
  have:ms=[]:=rk (zo hlen.symm);subst this;simp only[vj,r8] at h;subst h;exact⟨rfl,λj hj=>by cases hj⟩
 |e::es,ms,all,i,res,hall,hlen,hrep,h=>by
  match ms,hlen with
  |x::ms,hlen=>
  simp only[vj] at h;split at h
  .rename_i hag;obtain⟨b,hb,h⟩:=sO.1 h;have hx:=hrep 0 e x rfl rfl;rw[show e.1=(false,e.1.2) by rw[<-hag]] at hx;obtain⟨d',hd',hn,_⟩:=nS hk hu hx hb;rw[hd] at hd';injection hd' with hd';subst hd'
   simp only[Instr.findNow,hn];cases b with
   |true=>
    simp only[rG,r8] at h;subst h
    have hi:all[i]?=some x:=by
     have:(all.drop i)[0]?=some x:=by rw[hall];rfl
     simpa[sK] using this
    exact⟨by simp[ZA,hi],λj hj=>by injection hj with hj;subst hj;simp⟩
   |false=>
    simp only[rF,rN] at h;obtain⟨h1,h2⟩:=Y9 hk hd hu es ms all (i+1) res (by rw[<-List.drop_drop,hall];rfl) (zo hlen) (λj e' x' he hx'=>hrep (j+1) e' x' he hx') h;exact⟨h1,λj hj=>by have:=h2 j hj;simp only[r5];omega⟩
  .cases h
theorem kZ {l:List EK}{fs:Array Field}{kt:TypeId}(hd:P.underlying kt=some (.struct fs))(hk:jc P kt=some l){key:List FV}{u:Value}(hu:PRep (FRep w X) (true,key) u):∀(es:List MapE) (ms all:List MapEntry) (i:Nat) (res:Option Nat),
  all.drop i=ms->es.length=ms.length->(∀(j:Nat) (e:MapE) (x:MapEntry),es[j]?=some e->ms[j]?=some x->PRep (FRep w X) e.1 x.key)->vj (true,l) key es i=some res->(Instr.findAsking kt u ms i).run P w=.ok (ZA all res) w/\∀j,res=some j->i<=j/\j<i+es.length
 |[],ms,all,i,res,hall,hlen,hrep,h=>by
  have:ms=[]:=rk (zo hlen.symm);subst this;simp only[vj,r8] at h;subst h;exact⟨rfl,λj hj=>by cases hj⟩
 |e::es,ms,all,i,res,hall,hlen,hrep,h=>by
  match ms,hlen with
  |x::ms,hlen=>
  simp only[vj] at h;split at h
  .rename_i hag;obtain⟨b,hb,h⟩:=sO.1 h;have hx:=hrep 0 e x rfl rfl;rw[show e.1=(true,e.1.2) by rw[<-hag]] at hx;have hn:=agg_eq hd hk hu hx hb;simp only[Instr.findAsking,rW,hn,rI];cases b with
   |true=>
    simp only[rG,r8] at h;subst h
    have hi:all[i]?=some x:=by
     have:(all.drop i)[0]?=some x:=by rw[hall];rfl
     simpa[sK] using this
    exact⟨by simp[ZA,hi],λj hj=>by injection hj with hj;subst hj;simp⟩
   |false=>
    simp only[rF,rN] at h;obtain⟨h1,h2⟩:=kZ hd hk hu es ms all (i+1) res (by rw[<-List.drop_drop,hall];rfl) (zo hlen) (λj e' x' he hx'=>hrep (j+1) e' x' he hx') h;exact⟨zo h1,λj hj=>by have:=h2 j hj;simp only[r5];omega⟩
  .cases h
end
section
variable {P:Program} {h:Nat->AObj} {β:Nat->Option Nat} {Y:Nat->Prop} {w:World}
theorem JR (hO:Objs h β Y w)(hY:∀b,Y b->b<w.heap.size){fr:Nat}(hfr:β fr=none):
  Moves h (upd h fr<|.mapo []) β (upd β fr<|some w.heap.size) Y w {w with heap:=w.heap.push (.map #[] 0)} (λo=>o=fr):=by
 have hβ:∀o b,β o=some b->upd β fr (some w.heap.size) o=some b:=by
  intro o b hb;unfold upd;split
  next e=>subst e;rw[hfr] at hb;cases hb
  .exact hb
 have hβ':∀o b,upd β fr (some w.heap.size) o=some b->(β o=some b/\o≠fr)\/(o=fr/\b=w.heap.size):=by
  intro o b hb;unfold upd at hb;split at hb
  next e=>exact .inr ⟨e,zo hb.symm⟩
  next e=>exact .inl ⟨hb,e⟩
 have hlive:∀o,isLive (upd h fr (.mapo []) o)->isLive (h o)\/o=fr:=by
  intro o hl;unfold upd at hl;split at hl
  next e=>exact .inr e
  .exact .inl hl
 have hg:Goes w {w with heap:=w.heap.push (.map #[] 0)} (XO Y h β) (XO Y (upd h fr<|.mapo [])<|upd β fr<|some w.heap.size) β (upd β fr<|some w.heap.size):=by
  refine⟨zb,λb hx hb=>⟨by simp[sD,(za:b≠w.heap.size)],λhx'=>?_⟩,λb hb=>by simp[World.shape?,sD,(za:b≠w.heap.size)],λo b hb=>⟨hβ o b hb,hO.lt o b hb⟩⟩;rcases hx' with hy|⟨o,hl,ho⟩
  .exact hx<|.inl hy
  .rcases hβ' o b ho with⟨ho,hne⟩|⟨_,e⟩
   .exact hx<|.inr ⟨o,(hlive o hl).resolve_right hne,ho⟩
   .omega
 refine⟨⟨zb,λb hb _=>by simp[sD,(za:b≠w.heap.size)],λb hb=>by simp[World.shape?,sD,(za:b≠w.heap.size)],rfl,rfl,rfl⟩,?_,hβ,?_,hlive⟩
 .refine⟨λo b hl hb=>?_,λo hl=>?_,λo o' b hl hl' hb hb'=>?_,λo b hb=>?_⟩
  .rcases hβ' o b hb with⟨ho,hne⟩|⟨e,eb⟩
   .have hlo:=(hlive o hl).resolve_right hne;rw[show upd h fr (.mapo []) o=h o by simp[upd,hne]];exact(hO.rep o b hlo ho).goes hg (by simp[sD,show b≠w.heap.size by have:=hO.lt o b ho;omega])
   .subst e;subst eb;rw[show upd h o (.mapo []) o=.mapo [] by simp[upd]];exact⟨[],0,zb,rfl,λi e m he _=>by simp at he,rfl,λi m hm=>by simp at hm⟩
  .rcases hlive o hl with hlo|e
   .by_cases e:o=fr
    .subst e;exact .inl ⟨w.heap.size,by simp[upd],zb,λhy=>by have:=hY _ hy;omega⟩
    .rcases hO.has o hlo with⟨b,hb,hlt,hny⟩|⟨hb,hn⟩
     .exact .inl ⟨b,hβ o b hb,zj,hny⟩
     .exact .inr (by simp only[upd,e,rN];exact⟨hb,hn⟩)
   .subst e;exact .inl ⟨w.heap.size,by simp[upd],zb,λhy=>by have:=hY _ hy;omega⟩
  .rcases hβ' o b hb with⟨ho,hne⟩|⟨e,eb⟩
   .rcases hβ' o' b hb' with⟨ho',hne'⟩|⟨e',eb'⟩
    .exact hO.inj o o' b ((hlive o hl).resolve_right hne) ((hlive o' hl').resolve_right hne') ho ho'
    .have:=hO.lt o b ho;omega
   .rcases hβ' o' b hb' with⟨ho',hne'⟩|⟨e',eb'⟩
    .have:=hO.lt o' b ho';omega
    .rw[e,e']
  .rcases hβ' o b hb with⟨ho,_⟩|⟨_,eb⟩
   .have:=hO.lt o b ho;simp;omega
   .simp;omega
 .intro o b hb;rcases hβ' o b hb with⟨ho,_⟩|⟨e,eb⟩
  .exact .inl ho
  .exact .inr ⟨e,.inl za⟩
theorem wH (hO:Objs h β Y w) {o b:Nat} (hl:isLive<|h o) (hb:β o=some b) {old:Array MapEntry} {oc:Nat} (hold:w.heap[b]?=some (.map old oc)) (ms:List MapEntry) (es:List MapE) (hlen:ms.length=es.length)
  (hrep:∀(i:Nat) (e:MapE) (m:MapEntry),es[i]?=some e->ms[i]?=some m->PRep (FRep w<|XO Y h β) e.1 m.key/\PRep (WRep w (XO Y h β) β) e.2 m.val)
  (hborn:∀(i:Nat) (m:MapEntry),ms[i]?=some m->m.born=i):
  Moves h (upd h o<|.mapo es) β β Y w {w with heap:=w.heap.setIfInBounds b (.map ms.toArray ms.length)} (λ_=>False):=by
 have hset:=MapKept.heap_set (o':=.map ms.toArray ms.length) hold;have hheap:∀k,k≠b->(w.heap.setIfInBounds b<|.map ms.toArray ms.length)[k]?=w.heap[k]? :=λk hk=>hset.2 k hk;have hown:Own h β b:=⟨o,hl,hb⟩
 have hlive:∀o',isLive (upd h o (.mapo es) o')->isLive (h o'):=by
  intro o' hl';unfold upd at hl';split at hl'
  next e=>subst e;exact hl
  .exact hl'
 have hsize:(w.heap.setIfInBounds b<|.map ms.toArray ms.length).size=w.heap.size:=zb
 have hshape:∀k,World.shape? {w with heap:=w.heap.setIfInBounds b (.map ms.toArray ms.length)} k=w.shape? k:=by
  intro k;by_cases hk:k=b
  .subst hk;simp[World.shape?,hset.1,hold]
  .simp[World.shape?,hheap k hk]
 have hg:Goes w {w with heap:=w.heap.setIfInBounds b (.map ms.toArray ms.length)} (XO Y h β) (XO Y (upd h o<|.mapo es) β) β β:=by
  refine⟨zb,λk hx hk=>⟨hheap k λe=>hx<|.inr<|e▸hown,λhx'=>?_⟩,λk _=>hshape k,λo b hb=>⟨hb,hO.lt o b hb⟩⟩;rcases hx' with hy|⟨o',hl',ho'⟩
  .exact hx<|.inl hy
  .exact hx<|.inr ⟨o',hlive o' hl',ho'⟩
 refine⟨⟨zb,λk hk hno=>hheap k λe=>hno<|e▸hown,λk _=>hshape k,rfl,rfl,rfl⟩,?_,λ_ _ h=>h,λ_ _ h=>.inl h,λo' hl'=>.inl<|hlive o' hl'⟩;refine⟨λo' b' hl' hb'=>?_,λo' hl'=>?_,λo1 o2 b' hl1 hl2 hb1 hb2=>hO.inj o1 o2 b' (hlive o1 hl1) (hlive o2 hl2) hb1 hb2,λo' b' hb'=>by rw[hsize];exact hO.lt o' b' hb'⟩
 .by_cases he:o'=o
  .subst he;have:b'=b:=by rw[hb] at hb';exact zo hb'.symm
   subst this;rw[show upd h o' (.mapo es) o'=.mapo es by simp[upd]];refine⟨ms,ms.length,hset.1,hlen,λi e m he hm=>?_,rfl,hborn⟩;obtain⟨k1,k2⟩:=hrep i e m he hm;exact⟨k1.imp λ_ _ _ h=>h.goes hg,k2.imp λ_ _ _ h=>h.goes hg⟩
  .rw[show upd h o (.mapo es) o'=h o' by simp[upd,he]];have hlo:=hlive o' hl';have hne:b'≠b:=λe=>he<|hO.inj o' o b' hlo hl hb'<|e▸hb
   exact(hO.rep o' b' hlo hb').goes hg<|hheap b' hne
 .have hlo:=hlive o' hl';rcases hO.has o' hlo with⟨b',h1,h2,h3⟩|⟨h1,h2⟩
  .exact .inl ⟨b',h1,by rw[hsize];exact h2,h3⟩
  .by_cases he:o'=o
   .subst he;rw[hb] at h2;cases h2
   .exact .inr (by simp only[upd,he,rN];exact⟨h1,h2⟩)
theorem ke:∀ {cs:List WV} {fs:List FV},unfz cs=some fs->cs=fzs fs
 |[],fs,h=>by simp only[unfz,r8] at h;subst h;rfl
 |.a (.fz x)::r,fs,h=>by
  simp only[unfz] at h;obtain⟨l,hl,rfl⟩:=oY.1 h;rw[ke hl];rfl
 |.a (.ep _ _ _ _)::r,fs,h=>by simp[unfz] at h
 |.a (.osl _ _ _ _)::r,fs,h=>by simp[unfz] at h
 |.a (.mp _)::r,fs,h=>by simp[unfz] at h
 |.a .any::r,fs,h=>by simp[unfz] at h
 |.fn _ _ _::r,fs,h=>by simp[unfz] at h
theorem Jz {ag:Bool}{x:TV}{k:List FV}{X:Nat->Prop}{u:Value}(hk:keyT ag x=some k)(hx:TRep w X β x u):PRep (FRep w X) (ag,k) u:=by
 unfold keyT at hk;split at hk
 .rename_i f;cases ag<;>simp only[rF,rG,rN,r8,reduceCtorEq] at hk
  subst hk;have hx:WRep w X β (.a<|.fz f) u:=hx;cases hx with
  |a _ _ hx=>cases hx with
   |fz _ _ hx=>exact⟨[u],rfl,⟨rfl,λj c v hc hv=>by
     cases j with
     |zero=>simp at hc hv;subst hc;subst hv;exact hx
     |succ j=>simp at hc⟩,λ_=>rfl⟩
 .rename_i cs;cases ag<;>simp only[rF,rG,rN,reduceCtorEq] at hk
  rw[ke hk] at hx;obtain⟨us,rfl,hx⟩:=hx;refine⟨us,rfl,hx.unmap λc u _ h=>?_,λh=>by cases h⟩;cases h with
  |a _ _ h=>cases h with
   |fz _ _ h=>exact h
 .cases hk
theorem nJ {p:Bool×List WV}{x:TV}{X:Nat->Prop}{u:Value}(hp:rowTV p=some x)(hr:PRep (WRep w X β) p u):TRep w X β x u:=by
 obtain⟨ag,cs⟩:=p;obtain⟨us,rfl,hl,h1⟩:=hr;cases ag with
 |true=>
  simp only[rowTV,r8] at hp;subst hp;exact⟨us,rfl,hl⟩
 |false=>
  have h1:=h1 rfl
  match cs,h1 with
  |[c],_=>
   simp only[rowTV,r8] at hp;subst hp;have hl':=hl.1
   match us,hl' with
   |[v],_=>exact hl.2 0 c v rfl rfl
theorem KS {x:TV}{p:Bool×List WV}{X:Nat->Prop}{u:Value}(hp:gO x=some p)(hx:TRep w X β x u):PRep (WRep w X β) p u:=by
 unfold gO at hp;split at hp
 .rename_i c;injection hp with hp;subst hp
  exact⟨[u],rfl,⟨rfl,λj c' v hc hv=>by
   cases j with
   |zero=>simp at hc hv;subst hc;subst hv;exact hx
   |succ j=>simp at hc⟩,λ_=>rfl⟩
 .injection hp with hp;subst hp
  obtain⟨us,rfl,hl⟩:=hx;exact⟨us,rfl,hl,λh=>by cases h⟩
 .cases hp
theorem ax:∀ {ks:List EK} {a b:List FV} {us vs:List Value} {X:Nat->Prop},y9 ks (fzs a) (fzs b)=some true->LRep (FRep w X) a us->LRep (FRep w X) b vs->us=vs/\∀v∈us,∀n,Instr.sameBits n v v=true
 |[],a,b,us,vs,X,h,ha,hb=>by
  match a,b,h with
  |[],[],_=>
   have e1:us=[]:=rk ha.1.symm;have e2:vs=[]:=rk hb.1.symm;subst e1;subst e2;exact⟨rfl,λv hv=>by cases hv⟩
  |[],_::_,h=>simp only[fzs,List.map_nil,rO,y9,reduceCtorEq] at h
  |_::_,[],h=>simp only[fzs,List.map_nil,rO,y9,reduceCtorEq] at h
  |_::_,_::_,h=>simp only[fzs,rO,y9,reduceCtorEq] at h
 |k::ks,a,b,us,vs,X,h,ha,hb=>by
  obtain⟨x,y,xs',ys',p,q,e1,e2,hsc,hr,hcase⟩:=uk h;have hp:p=true/\q=true:=by have:=hr.symm;exact zo this
  match a,b,e1,e2 with
  |[],_,e1,_=>simp[fzs] at e1
  |_::_,[],_,e2=>simp[fzs] at e2
  |f::a,g::b,d1,d2=>
  simp only[fzs,rO,List.cons.injEq] at d1 d2;obtain⟨d1,d3⟩:=d1;obtain⟨d2,d4⟩:=d2;rw[<-d3,<-d4] at hsc;obtain⟨u,us',rfl,hu,hus⟩:=ha.cons_inv;obtain⟨v,vs',rfl,hv,hvs⟩:=hb.cons_inv;rw[hp.2] at hsc;obtain⟨i1,i2⟩:=ax (ks:=ks) hsc hus hvs
  have key:u=v/\∀n,Instr.sameBits n u u=true:=by
   rcases hcase with⟨_,kk,n,m,h1,h2,h3⟩|⟨_,n,m,h1,h2,h3⟩|⟨_,n,m,h1,h2,h3⟩
   all_goals
    rw[h1] at d1;rw[h2] at d2;have d1:=AV.fz.inj<|WV.a.inj (show WV.a (.fz f)=_ from d1)
    have d2:=AV.fz.inj<|WV.a.inj (show WV.a (.fz g)=_ from d2)
    rw[d1] at hu;rw[d2] at hv;rw[hp.1] at h3;have h3:n=m:=zo h3.symm
    subst h3;cases hu;cases hv;exact⟨rfl,λn=>by cases n<;>simp[Instr.sameBits,MapKept.bytes_beq]⟩
  exact⟨by rw[key.1,i1],λz hz=>by
   rcases rx.1 hz with rfl|hz
   .exact key.2
   .exact i2 z hz⟩
theorem Kk {m:Bool×List EK}{a b:List FV}{u v:Value}{X:Nat->Prop}(h:y9 m.2 (fzs a) (fzs b)=some true)(ha:PRep (FRep w X) (m.1,a) u)(hb:PRep (FRep w X) (m.1,b) v):u=v/\(Instr.keyThatStays v u).run P w=.ok u w:=by
 obtain⟨us,rfl,h1,h2⟩:=ha;obtain⟨vs,rfl,h3,h4⟩:=hb;obtain⟨rfl,hs⟩:=ax h h1 h3;refine⟨rfl,?_⟩;obtain⟨ag,ks⟩:=m
 have hb:Instr.sameBits 10000 (shut ag us) (shut ag us)=true:=by
  cases ag with
  |true=>
   show(us.toArray.size==us.toArray.size&&(us.toArray.toList.zip us.toArray.toList).all λ(x,y)=>Instr.sameBits 9999 x y)=true;simp only[beq_self_eq_true,sr,rP];intro p hp
   have:p.1=p.2/\p.1∈us:=by
    obtain⟨i,hi⟩:=sP hp;rw[hH] at hi;exact⟨by have:=hi.1.symm.trans hi.2;injection this,rV hi.1⟩
   rw[<-this.1];exact hs _ this.2 _
  |false=>
   have h2:a.length=1:=h2 rfl;have:us.length=1:=by rw[<-h1.1];exact h2
   match us,this with
   |[u],_=>exact hs u (rJ.2 rfl) _
 simp only[Instr.keyThatStays,hb,rG,sg]
theorem gQ {kt:TypeId}{k:EK}{f:FV}{u:Value}{X:Nat->Prop}(hk:ekOf P kt=some k)(hu:FRep w X f u)(hf:jR [k] [f]=true)(em:Bool)(n:Nat):(Instr.checkKey em (n+1) kt u).run P w=.ok () w:=by
 unfold ekOf at hk;split at hk<;>simp only[r8,reduceCtorEq] at hk<;>subst hk<;>rename_i hd<;>cases f<;>simp only[jR,rF] at hf<;>cases hu<;>simp[Instr.checkKey,rj hd]
theorem X5 {kt:TypeId}{m:Bool×List EK}{k:List FV}{u:Value}{X:Nat->Prop}(hm:kM P kt=some m)(ho:jR m.2 k=true)(hu:PRep (FRep w X) (m.1,k) u)(em:Bool):(Instr.checkKey em 10000 kt u).run P w=.ok () w:=by
 have plain:∀ {e:EK} {v:Value} {f:FV},ekOf P kt=some e->jR [e] [f]=true->FRep w X f v->(Instr.checkKey em 10000 kt v).run P w=.ok () w:=λhe hf hv=>gQ he hv hf em 9999
 have plain':(ekOf P kt).map (λk=>(false,[k]))=some m->(Instr.checkKey em 10000 kt u).run P w=.ok () w:=by
  intro hm;obtain⟨e,he,rfl⟩:=oY.1 hm;obtain⟨us,rfl,h1,h2⟩:=hu;have h2:k.length=1:=h2 rfl
  match k,h2 with
  |[f],_=>
  have hl:=h1.1
  match us,hl with
  |[v],_=>exact plain he ho<|h1.2 0 f v rfl rfl
 unfold kM at hm;split at hm
 .rename_i fs hfs;obtain⟨ks,hks,rfl⟩:=oY.1 hm;obtain⟨us,rfl,h1,_⟩:=hu;unfold jc at hks;rw[hfs] at hks;simp only at hks;split at hks
  .show(Instr.checkKey em 10000 kt<|.agg us.toArray).run P w=.ok () w;rw[show(10000:Nat)=9999+1 from rfl,Instr.checkKey];simp only[rW,rj hfs,rI];rw[<-Array.forIn_toList]
   have key:∀(L:List Field) (i:Nat) (ks:List EK) (l:List FV) (vs:List Value),d8 P i L=some ks->jR ks l=true->LRep (FRep w X) l vs->(∀j,vs[j]?=us.toArray[i+j]?)->
     (forIn L PUnit.unit λ(f:Field) _=>do
      if f.name ≠ "_" then Instr.checkKey em 9999 f.type (<-part f.type us.toArray f.offset)
      pure (ForInStep.yield PUnit.unit)).run P w=.ok PUnit.unit w:=by
    intro L
    induction L with
    |nil=>intro i ks l vs _ _ _ _;simp
    |cons f L ih=>
     intro i ks l vs hk ho hl hus;simp only[d8] at hk;split at hk
     .rename_i k ks' hf hks;split at hk<;>simp only[r8,reduceCtorEq] at hk
      rename_i hc;subst hk
      match l,ho with
      |[],ho=>cases k<;>simp[jR] at ho
      |g::l,ho=>
      obtain⟨v,vs',rfl,hv,hvs⟩:=hl.cons_inv;have hg:jR [k] [g]=true/\jR ks' l=true:=by cases k<;>cases g<;>simp_all[jR]
      have p1:=kA (w:=w) hf us.toArray f.offset v (by have:=hus 0;simp at this;rw[hc.1];exact zo this.symm);have p2:=gQ (w:=w) hf hv hg.1 em 9998;have ih:=ih (i+1) ks' l vs' hks hg.2 hvs (λj=>by have:=hus (j+1);simpa[tR,tX 1 j] using this);simp only[List.forIn_cons,rW,hc.2,ne_eq,not_false_eq_true,rG,p1,p2,rI,sg];exact ih
     .cases hk
   have:=key fs.toList 0 ks k us hks ho h1 (λj=>zb);simp at this ⊢;rw[this];rfl
  .cases hks
 .exact plain' hm
theorem JF {kt:TypeId} {m:Bool×List EK} {k:List FV} {u:Value} {X:Nat->Prop} {es:List MapE} {ms:List MapEntry} {res:Option Nat} (hm:kM P kt=some m) (hu:PRep (FRep w X) (m.1,k) u) (hlen:es.length=ms.length)
  (hrep:∀(j:Nat) (e:MapE) (x:MapEntry),es[j]?=some e->ms[j]?=some x->PRep (FRep w X) e.1 x.key) (hf:vj m k es 0=some res):(Instr.findKey kt u ms).run P w=.ok (ZA ms res) w/\∀j,res=some j->j<es.length:=by
 have plain':(ekOf P kt).map (λk=>(false,[k]))=some m->(Instr.findKey kt u ms).run P w=.ok (ZA ms res) w/\∀j,res=some j->j<es.length:=by
  intro hm;obtain⟨e,he,rfl⟩:=oY.1 hm;obtain⟨d,hd,_⟩:=cg he;obtain⟨h1,h2⟩:=Y9 he hd hu es ms ms 0 res rfl hlen hrep hf;exact⟨MapKept.run_findKey hd h1,λj hj=>by have:=h2 j hj;omega⟩
 unfold kM at hm;split at hm
 next fs hfs=>obtain⟨ks,hks,rfl⟩:=oY.1 hm;rw[run_findKey_eq w (by rw[hfs]) u ms];obtain⟨h1,h2⟩:=kZ hfs hks hu es ms ms 0 res rfl hlen hrep hf;exact⟨h1,λj hj=>by have:=h2 j hj;omega⟩
 .exact plain' hm
theorem Zf {m:Bool×List EK}{k:List FV}:∀ {es:List MapE} {i j:Nat},vj m k es i=some (some j)->i<=j/\∃e,es[j-i]?=some e/\e.1.1=m.1/\y9 m.2 (fzs k) (fzs e.1.2)=some true
 |[],i,j,h=>by simp[vj] at h
 |e::es,i,j,h=>by
  simp only[vj] at h;split at h
  .rename_i hag;obtain⟨b,hb,h⟩:=sO.1 h;cases b with
   |true=>
    simp only[rG,r8] at h;subst h;exact⟨r6 _,e,zb,hag,hb⟩
   |false=>
    simp only[rF,rN] at h;obtain⟨h1,e',h2,h3⟩:=Zf h;exact⟨za,e',by rw[show j-i=(j-(i+1))+1 by omega];exact zo h2,h3⟩
  .cases h
theorem qY {t:TypeId}{m:(Bool×List EK)×(Bool×List WV)}(h:J3 P t=some m):∃k e,P.underlying t=some (.map k e)/\kM P k=some m.1/\WT P e=some m.2:=by
 unfold J3 at h;split at h
 .rename_i d hd;split at h
  .rename_i k e hk;split at h
   .rename_i ks z hks hz;injection h with h;subst h
    obtain⟨i,u,_,hu,_,_,_,_,hkd⟩:=wC hd;refine⟨k,e,?_,hks,hz⟩;rw[hk] at hkd;cases u<;>simp only[xH,reduceCtorEq,TKind.map.injEq] at hkd
    all_goals first|(rw[hkd.1,hkd.2];exact hu)|(split at hkd<;>cases hkd)
   .cases h
  .cases h
 .cases h
theorem Yf {e:TypeId}{z:Bool×List WV}(hz:WT P e=some z)(X:Nat->Prop):∃v,(zeroValue e).run P w=.ok v w/\PRep (WRep w X β) z v:=by
 unfold WT at hz;split at hz
 .rename_i i hi;split at hz
  .rename_i cs hiz;split at hz<;>simp only[r8,reduceCtorEq] at hz
   rename_i hall;subst hz;refine⟨.agg cs,by simp[zeroValue,typeInfo,hi,hiz],cs.toList,by simp[shut],?_,λh=>by cases h⟩;refine kC X cs.toList λu hu=>?_;simp only[sj] at hall;exact hall u (zo hu)
  .rename_i v hna hiz;split at hz<;>simp only[r8,reduceCtorEq] at hz
   rename_i hone;subst hz;refine⟨v,by simp[zeroValue,typeInfo,hi,hiz],[v],rfl,?_,λ_=>rfl⟩;exact kC X [v] λu hu=>by rw[rJ.1 hu];exact hone
  .cases hz
 .cases hz
theorem Y7 {m:(Bool×List EK)×(Bool×List WV)}{x:TV}{k:List FV}(h:keyA m x=some k):keyT m.1.1 x=some k/\jR m.1.2 k=true:=by
 unfold keyA at h;split at h
 .split at h<;>simp only[r8,reduceCtorEq] at h
  subst h;rename_i k hk ho;exact⟨hk,ho⟩
 .cases h
theorem kU (hO:Objs h β Y w){x:TV}{u:Value}{o:Nat}{es:List MapE}(hm:kV h x=some (o,es))(hx:TRep w (XO Y h β) β x u):∃(b:Nat) (ms:List MapEntry),u=.map (some b)/\β o=some b/\isLive (h o)/\w.heap[b]?=some (.map (List.toArray ms) ms.length)/\ms.length=es.length/\
  (∀(i:Nat) (e:MapE) (m:MapEntry),es[i]?=some e->ms[i]?=some m->PRep (FRep w<|XO Y h β) e.1 m.key/\PRep (WRep w (XO Y h β) β) e.2 m.val)/\(∀(i:Nat) (m:MapEntry),ms[i]?=some m->m.born=i):=by
 unfold kV at hm;split at hm
 .rename_i o';split at hm<;>simp only[r8,reduceCtorEq,rX] at hm
  rename_i es' ho;obtain⟨rfl,rfl⟩:=hm;have hx:WRep w (XO Y h β) β (.a<|.mp o') u:=hx;cases hx with
  |a _ _ hx=>cases hx with
   |mp _ b hb=>
    have hl:isLive (h o'):=by rw[ho];trivial
    have hr:=hO.rep o' b hl hb;unfold ORep at hr;rw[ho] at hr;obtain⟨ms,ck,h1,h2,h3,h4,h5⟩:=hr;exact⟨b,ms,rfl,hb,hl,by rw[<-h4];exact h1,h2,h3,h5⟩
 .cases hm
theorem iz (hO:Objs h β Y w){x:TV}{u:Value}{oe:List Nat×List MapE}(hm:mapL h x=some oe)(hx:TRep w (XO Y h β) β x u):∃(b:Nat) (ms:List MapEntry),u=.map (some b)/\w.heap[b]?=some (.map (List.toArray ms) ms.length)/\ms.length=oe.2.length/\
  ∀(i:Nat) (e:MapE) (m:MapEntry),oe.2[i]?=some e->ms[i]?=some m->PRep (FRep w<|XO Y h β) e.1 m.key/\PRep (WRep w (XO Y h β) β) e.2 m.val:=by
 unfold mapL at hm;split at hm
 .rename_i zs;injection hm with hm;subst hm
  have hx:=TRep.fz_inv hx;cases hx with
  |mp _ b ms ku vu h1 h2 h3 h4 h5 h6 h7 h8=>
   refine⟨b,ms,rfl,h3,zo h4,λi e m he hm=>?_⟩;rw[rq] at he;obtain⟨z,hz,rfl⟩:=oY.1 he;obtain⟨⟨k1,k2,k3⟩,k4,k5,k6⟩:=h6 i z m hz hm;exact⟨⟨_,k1,⟨k2,λj c u hc hu=>h7 i j z c u hz hc hu⟩,k3⟩,⟨_,k4,jJ ⟨k5,λj c u hc hu=>h8 i j z c u hz hc hu⟩,λhb=>by rw[show(thaw z).2.2=fzs z.2.2 from rfl,fzs,sM];exact k6 hb⟩⟩
 .obtain⟨p,hp,rfl⟩:=oY.1 hm;obtain⟨b,ms,h1,_,_,h4,h5,h6,_⟩:=kU hO hp hx;exact⟨b,ms,h1,h4,h5,h6⟩
theorem gy {ok:Bool}{p:Bool×List WV}{b:Bool}{x:TV}{X:Nat->Prop}{v:Value}(h:Ks ok p b=some x)(hv:PRep (WRep w X β) p v):TRep w X β x (if ok then .tuple #[v,.bool b] else v):=by
 unfold Ks at h;cases ok with
 |true=>
  simp only[rG,r8] at h;subst h;refine⟨[v,.bool b],rfl,rfl,λj c u hc hu=>?_⟩
  match j,hc,hu with
  |0,hc,hu=>simp at hc hu;subst hc;subst hu;exact hv
  |1,hc,hu=>simp at hc hu;subst hc;subst hu;exact⟨[.bool b],rfl,⟨rfl,λj c u hc hu=>by
    cases j with
    |zero=>simp at hc hu;subst hc;subst hu;exact Jf (.bool b)
    |succ j=>simp at hc⟩,λ_=>rfl⟩
  |j+2,hc,_=>simp at hc
 |false=>
  simp only[rF,rN] at h ⊢;exact nJ h hv
theorem dw (hO:Objs h β Y w){fr:Nat}{t:TypeId}{m:(Bool×List EK)×(Bool×List WV)}{x key:TV}{u v:Value}{ok:Bool}{r:AR}(hm:J3 P t=some m)(hx:TRep w (XO Y h β) β x u)(hk:TRep w (XO Y h β) β key v)(hl:vw m h x key ok=some r):
  Does P h β Y w fr r (do pure (.value (<-Instr.lookup t u v ok))):=by
 unfold vw at hl;split at hl
 .rename_i k hk0;obtain⟨hk1,hk2⟩:=Y7 hk0;have hkr:=Jz hk1 hk;split at hl
  .rename_i oe hoe;obtain⟨o,es⟩:=oe;obtain⟨b,ms,rfl,hh,(hlen:ms.length=es.length),hrep⟩:=iz hO hoe hx;obtain⟨kt,e,hu,hks,hz⟩:=qY hm;split at hl
   .rename_i q hq;obtain⟨x',hx',rfl⟩:=oY.1 hl;obtain⟨hf,hj⟩:=JF (w:=w) hks hkr hlen.symm (λj e x h1 h2=>(hrep j e x h1 h2).1) hq;have hck:=X5 (w:=w) hks hk2 hkr ms.isEmpty;obtain⟨zv,hzv,hzr⟩:=Yf (w:=w) (β:=β) hz<|XO Y h β
    refine xT hO ?_;cases q with
    |none=>
     refine⟨if ok then .tuple #[zv,.bool false] else zv,?_,gy hx' hzr⟩
     simp only[ZA,Option.bind_none] at hf;simp[Instr.lookup,rj hu,sW hh,hck,hf,hzv]
    |some i=>
     simp only[mK] at hx';split at hx'
     .rename_i en hen;have hi:i<ms.length:=by have:=(rr.1 hen).1;omega
      have hmi:=rf hi;refine⟨if ok then .tuple #[ms[i].val,.bool true] else ms[i].val,?_,gy hx' (hrep i en ms[i] hen hmi).2⟩
      simp only[ZA,tD,hmi,ry] at hf;simp[Instr.lookup,rj hu,sW hh,hck,hf]
     .cases hx'
   .cases hl
  .cases hl
 .cases hl
theorem pY {X:Nat->Prop} {es:List MapE} {ms:List MapEntry} (hlen:ms.length=es.length) (hrep:∀(i:Nat) (e:MapE) (m:MapEntry),es[i]?=some e->ms[i]?=some m->PRep (FRep w X) e.1 m.key/\PRep (WRep w X β) e.2 m.val) (hborn:∀(i:Nat) (m:MapEntry),ms[i]?=some m->m.born=i)
  {k:Bool×List FV} {r:Bool×List WV} {key val:Value} (hk:PRep (FRep w X) k key) (hr:PRep (WRep w X β) r val):
  (ms++[(⟨key,val,ms.length⟩:MapEntry)]).length=(es++[(k,r)]).length/\(∀(i:Nat) (e:MapE) (m:MapEntry),(es++[(k,r)])[i]?=some e->(ms++[(⟨key,val,ms.length⟩:MapEntry)])[i]?=some m->PRep (FRep w X) e.1 m.key/\PRep (WRep w X β) e.2 m.val)/\(∀(i:Nat) (m:MapEntry),(ms++[(⟨key,val,ms.length⟩:MapEntry)])[i]?=some m->m.born=i):=by
 refine⟨by simp[hlen],λi e m he hm=>?_,λi m hm=>?_⟩
 .rw[sJ] at he hm;split at he
  next q=>rw[oX za] at hm;exact hrep i e m he hm
  .rename_i q;rw[oV za] at hm
   have:i-es.length=0:=by
    have:=(rr.1 he).1;exact zo this
   rw[hlen,this] at hm;rw[this] at he;simp at he hm;subst he;subst hm;exact⟨hk,hr⟩
 .rw[sJ] at hm;split at hm
  .exact hborn i m hm
  .have h1:=(rr.1 hm).1;have:i=ms.length:=by simp at h1;omega
   subst this;simp at hm;subst hm;rfl
theorem gZ {X:Nat->Prop} {es:List MapE} {ms:List MapEntry} (hlen:ms.length=es.length) (hrep:∀(i:Nat) (e:MapE) (m:MapEntry),es[i]?=some e->ms[i]?=some m->PRep (FRep w X) e.1 m.key/\PRep (WRep w X β) e.2 m.val) (hborn:∀(i:Nat) (m:MapEntry),ms[i]?=some m->m.born=i)
  {j:Nat} {f:MapEntry->MapEntry} {k:Bool×List FV} {r:Bool×List WV} (hf:∀x,ms[j]?=some x->PRep (FRep w X) k (f x).key/\PRep (WRep w X β) r (f x).val/\(f x).born=x.born):
  (ms.modify j f).length=(es.set j (k,r)).length/\(∀(i:Nat) (e:MapE) (m:MapEntry),(es.set j (k,r))[i]?=some e->(ms.modify j f)[i]?=some m->PRep (FRep w X) e.1 m.key/\PRep (WRep w X β) e.2 m.val)/\(∀(i:Nat) (m:MapEntry),(ms.modify j f)[i]?=some m->m.born=i):=by
 refine⟨by simp[hlen],λi e m he hm=>?_,λi m hm=>?_⟩
 .rw[List.getElem?_modify] at hm;obtain⟨x,hx,rfl⟩:=oY.1 hm;rw[sF] at he;by_cases q:j=i
  .subst q;rw[oX rfl] at he;split at he
   .injection he with he;subst he
    rw[oX rfl];exact⟨(hf x hx).1,(hf x hx).2.1⟩
   .cases he
  .rw[oV q] at he;rw[oV q];exact hrep i e x he hx
 .rw[List.getElem?_modify] at hm;obtain⟨x,hx,rfl⟩:=oY.1 hm;by_cases q:j=i
  .subst q;rw[oX rfl,(hf x hx).2.2];exact hborn j x hx
  .rw[oV q];exact hborn i x hx
theorem WY (hO:Objs h β Y w){fr:Nat}{t:TypeId}{m:(Bool×List EK)×(Bool×List WV)}{x key:TV}{u v:Value}{r:AR}(hm:J3 P t=some m)(hx:TRep w (XO Y h β) β x u)(hk:TRep w (XO Y h β) β key v)(hl:wA m h x key=some r):
  Does P h β Y w fr r (do pure (.value (<-Instr.mapEntry t u v))):=by
 unfold wA at hl;split at hl
 .rename_i k hk0;obtain⟨hk1,hk2⟩:=Y7 hk0;have hkr:=Jz hk1 hk;split at hl
  .rename_i oe hoe;obtain⟨o,es⟩:=oe;obtain⟨b,ms,rfl,hb,hlv,hh,hlen,hrep,hborn⟩:=kU hO hoe hx;obtain⟨kt,e,hu,hks,hz⟩:=qY hm;split at hl
   .rename_i q hq;obtain⟨hf,hj⟩:=JF (w:=w) hks hkr hlen.symm (λj e x h1 h2=>(hrep j e x h1 h2).1) hq;have hck:=X5 (w:=w) hks hk2 hkr false;obtain⟨zv,hzv,hzr⟩:=Yf (w:=w) (β:=β) hz<|XO Y h β
    cases q with
    |none=>
     simp only[entE,r8] at hl;subst hl;obtain⟨a1,a2,a3⟩:=pY hlen hrep hborn hkr hzr;have hmv:=wH hO hlv hb hh _ _ a1 a2 a3;refine⟨.value<|.tuple #[zv,goInt ms.length],.tuple #[zv,goInt ms.length],{w with heap:=w.heap.setIfInBounds b (.map (ms++[(⟨v,zv,ms.length⟩:MapEntry)]).toArray (ms++[(⟨v,zv,ms.length⟩:MapEntry)]).length)},β,?_,.inl rfl,?_,?_⟩
     .simp only[ZA,Option.bind_none] at hf;simp[Instr.mapEntry,rj hu,sW hh,hck,hf,hzv,tC _ hh]
     .rw[xe];exact hmv.weaken λ_ h=>h.elim
     .rw[xe];have hg:=hmv.goes hO λ_ h=>h.elim;have hzr':PRep (WRep _ (XO Y (upd h o<|.mapo<|es++[((m.1.1,k),m.2)]) β) β) m.2 zv:=hzr.imp λ_ _ _ h=>h.goes hg;refine⟨[zv,goInt ms.length],rfl,rfl,λj c u hc hu=>?_⟩
      match j,hc,hu with
      |0,hc,hu=>simp at hc hu;subst hc;subst hu;exact hzr'
      |1,hc,hu=>
       simp at hc hu;subst hc;subst hu;refine⟨[goInt ms.length],rfl,⟨rfl,λj c u hc hu=>?_⟩,λ_=>rfl⟩;cases j with
       |zero=>simp at hc hu;subst hc;subst hu;rw[hlen];exact Jf<|.int .i64 _
       |succ j=>simp at hc
      |j+2,hc,_=>simp at hc
    |some i=>
     simp only[entE] at hl;split at hl<;>simp only[r8,reduceCtorEq] at hl
     rename_i en hen;subst hl;have hi:i<ms.length:=by have:=(rr.1 hen).1;omega
     have hmi:=rf hi;obtain⟨hr1,hr2⟩:=hrep i en ms[i] hen hmi;obtain⟨_,e',he',hag,hsm⟩:=Zf hq;rw[tY,hen] at he';injection he' with he';subst he'
     have hr1':PRep (FRep w<|XO Y h β) (m.1.1,en.1.2) ms[i].key:=by rw[<-hag];exact hr1
     obtain⟨hkey,hstay⟩:=Kk (P:=P) hsm hkr hr1';obtain⟨a1,a2,a3⟩:=gZ (f:=λe=> {e with key:=v}) hlen hrep hborn (j:=i) (k:=(m.1.1,k)) (r:=en.2) (λx hx=>by rw[hmi] at hx;injection hx with hx;subst hx;exact⟨hkr,hr2,rfl⟩)
     have hmv:=wH hO hlv hb hh _ _ a1 a2 a3;refine⟨.value<|.tuple #[ms[i].val,goInt i],.tuple #[ms[i].val,goInt i],{w with heap:=w.heap.setIfInBounds b (.map (ms.modify i λe=> {e with key:=v}).toArray (ms.modify i λe=> {e with key:=v}).length)},β,?_,.inl rfl,?_,?_⟩
     .simp only[ZA,tD,hmi,ry] at hf;have hbi:=hborn i ms[i] hmi;simp[Instr.mapEntry,rj hu,sW hh,hck,hf,hmi,hstay,hbi,tC _ hh]
     .rw[xe];exact hmv.weaken λ_ h=>h.elim
     .rw[xe];have hg:=hmv.goes hO λ_ h=>h.elim;have hr2':PRep (WRep _ (XO Y (upd h o<|.mapo<|es.set i ((m.1.1,k),en.2)) β) β) en.2 ms[i].val:=hr2.imp λ_ _ _ h=>h.goes hg;refine⟨[ms[i].val,goInt i],rfl,rfl,λj c u hc hu=>?_⟩
      match j,hc,hu with
      |0,hc,hu=>simp at hc hu;subst hc;subst hu;exact hr2'
      |1,hc,hu=>
       simp at hc hu;subst hc;subst hu;refine⟨[goInt i],rfl,⟨rfl,λj c u hc hu=>?_⟩,λ_=>rfl⟩;cases j with
       |zero=>simp at hc hu;subst hc;subst hu;exact Jf<|.int .i64 _
       |succ j=>simp at hc
      |j+2,hc,_=>simp at hc
   .cases hl
  .cases hl
 .cases hl
theorem Xk (hO:Objs h β Y w){fr:Nat}{t:TypeId}{m:(Bool×List EK)×(Bool×List WV)}{x key y:TV}{u v z:Value}{r:AR}(hm:J3 P t=some m)(hx:TRep w (XO Y h β) β x u)(hk:TRep w (XO Y h β) β key v)(hy:TRep w (XO Y h β) β y z)(hl:yG m h x key y=some r):
  Does P h β Y w fr r (do (Instr.mapUpdate t u v z);pure .skip):=by
 unfold yG at hl;split at hl
 .rename_i k rw_ hk0 hrw;obtain⟨hk1,hk2⟩:=Y7 hk0;have hkr:=Jz hk1 hk;have hzr:=KS hrw hy;split at hl
  .rename_i oe hoe;obtain⟨o,es⟩:=oe;obtain⟨b,ms,rfl,hb,hlv,hh,hlen,hrep,hborn⟩:=kU hO hoe hx;obtain⟨kt,e,hu,hks,hz⟩:=qY hm;split at hl
   .rename_i q hq;injection hl with hl;subst hl
    obtain⟨hf,hj⟩:=JF (w:=w) hks hkr hlen.symm (λj e x h1 h2=>(hrep j e x h1 h2).1) hq;have hck:=X5 (w:=w) hks hk2 hkr false;cases q with
    |none=>
     obtain⟨a1,a2,a3⟩:=pY hlen hrep hborn hkr hzr;have hmv:=wH hO hlv hb hh _ _ a1 a2 a3;refine⟨.skip,undef,{w with heap:=w.heap.setIfInBounds b (.map (ms++[(⟨v,z,ms.length⟩:MapEntry)]).toArray (ms++[(⟨v,z,ms.length⟩:MapEntry)]).length)},β,?_,.inr ⟨rfl,rfl⟩,?_,trivial⟩
     .simp only[ZA,Option.bind_none] at hf;simp[Instr.mapUpdate,rj hu,sW hh,hck,hf,tC _ hh]
     .rw[xe];exact hmv.weaken λ_ h=>h.elim
    |some i=>
     have hi':=hj i rfl;have hi:i<ms.length:=za
     have hmi:=rf hi;obtain⟨_,en,hen,hag,hsm⟩:=Zf hq;rw[tY] at hen;obtain⟨hr1,hr2⟩:=hrep i en ms[i] hen hmi;have hr1':PRep (FRep w<|XO Y h β) (m.1.1,en.1.2) ms[i].key:=by rw[<-hag];exact hr1
     obtain⟨hkey,hstay⟩:=Kk (P:=P) hsm hkr hr1';obtain⟨a1,a2,a3⟩:=gZ (f:=λe=> {e with key:=v,val:=z}) hlen hrep hborn (j:=i) (k:=(m.1.1,k)) (r:=rw_) λx hx=>⟨hkr,hzr,rfl⟩
     have hmv:=wH hO hlv hb hh _ _ a1 a2 a3;refine⟨.skip,undef,{w with heap:=w.heap.setIfInBounds b (.map (ms.modify i λe=> {e with key:=v,val:=z}).toArray (ms.modify i λe=> {e with key:=v,val:=z}).length)},β,?_,.inr ⟨rfl,rfl⟩,?_,trivial⟩
     .simp only[ZA,tD,hmi,ry] at hf;simp[Instr.mapUpdate,rj hu,sW hh,hck,hf,hmi,hstay,tC _ hh]
     .rw[xe];exact hmv.weaken λ_ h=>h.elim
   .cases hl
  .cases hl
 .cases hl
theorem YS (hO:Objs h β Y w){fr:Nat}{t:TypeId}{x st y:TV}{u v z:Value}{r:AR}(hx:TRep w (XO Y h β) β x u)(hs:TRep w (XO Y h β) β st v)(hy:TRep w (XO Y h β) β y z)(hl:wf h x st y=some r):
  Does P h β Y w fr r (do (Instr.entryStore t u v z);pure .skip):=by
 unfold wf at hl;split at hl
 .rename_i oe kk n rw_ hoe hrw;obtain⟨o,es⟩:=oe;obtain⟨b,ms,rfl,hb,hlv,hh,hlen,hrep,hborn⟩:=kU hO hoe hx;have hzr:=KS hrw hy;rw[TRep.int_inv hs];split at hl
  .rename_i en hen;split at hl<;>simp only[r8,reduceCtorEq] at hl
   rename_i hn;subst hl;have hi:n.toNat<ms.length:=by have:=(rr.1 hen).1;simp only at this;omega
   have hmi:=rf hi;obtain⟨hr1,hr2⟩:=hrep n.toNat en ms[n.toNat] hen hmi;obtain⟨a1,a2,a3⟩:=gZ (f:=λe=> {e with val:=z}) hlen hrep hborn (j:=n.toNat) (k:=en.1) (r:=rw_) (λx hx=>by rw[hmi] at hx;injection hx with hx;subst hx;exact⟨hr1,hzr,rfl⟩)
   have hmv:=wH hO hlv hb hh _ _ a1 a2 a3;refine⟨.skip,undef,{w with heap:=w.heap.setIfInBounds b (.map (ms.modify n.toNat λe=> {e with val:=z}).toArray (ms.modify n.toNat λe=> {e with val:=z}).length)},β,?_,.inr ⟨rfl,rfl⟩,?_,trivial⟩
   .have hfi:ms.toArray.findIdx? (λe=>(e.born:Int)==n)=some n.toNat:=by
     rw[List.findIdx?_toArray,List.findIdx?_eq_some_iff_getElem];refine⟨hi,?_,λj hj=>?_⟩
     .have:=hborn _ _ hmi;simp only[this,rT];omega
     .have hj':j<ms.length:=za
      have:=hborn _ _<|rf hj'
      simp only[this,rT];omega
    simp[Instr.entryStore,sW hh,asInt,asIntOf,hfi,tC _ hh]
   .rw[xe];exact hmv.weaken λ_ h=>h.elim
  .cases hl
 .cases hl
theorem Kl (hO:Objs h β Y w)(hY:∀b,Y b->b<w.heap.size){fr:Nat}(hfr:β fr=none)(t:TypeId):Does P h β Y w fr ⟨.c<|.a<|.mp fr,[(fr,.mapo [])],[]⟩ (do pure (.value (<-Instr.makeMap t none))):=by
 have hm:=JR hO hY hfr;refine⟨.value<|.map<|some w.heap.size,.map<|some w.heap.size,{w with heap:=w.heap.push (.map #[] 0)},upd β fr<|some w.heap.size,?_,.inl rfl,?_,?_⟩
 .simp[Instr.makeMap,World.alloc_eq]
 .rw[xe];exact hm
 .exact .a _ _<|.mp _ _<|by simp[upd]
theorem Xu (hO:Objs h β Y w) (hY:∀b,Y b->b<w.heap.size) {fr:Nat} (hfr:β fr=none) {t e:TypeId} {d de:TyD} {x y:TV} {u v:Value} {q:Nat×List FV} (hd:tyOf P t=some d) (hk:d.kind=.slice e) (hde:tyOf P e=some de)
  (hx:TRep w (XO Y h β) β x u) (hy:TRep w (XO Y h β) β y v) (hq:wV de fr x y=some q):
  Does P h β Y w fr ⟨.c<|.a<|.osl fr de.size 0 q.1,[(fr,.arr de.size<|List.replicate q.1<|fzs q.2)],[]⟩ (do pure (.value (<-Instr.makeSlice t u v))):=by
 have ht:=xc hd hk;unfold wV at hq;split at hq
 .rename_i k1 n k2 m z hz;split at hq<;>simp only[r8,reduceCtorEq] at hq
  rename_i hc;obtain⟨hnm,hn0,hzl,hs0,hb0,hroom⟩:=hc;subst hnm;subst hq;rw[TRep.int_inv hx,TRep.int_inv hy];obtain⟨zv,_,hz3,hz4,i,hi,hiz⟩:=wE (w:=w) hde hz;obtain⟨i',_,hi',_,_,hsz,hby,_,_⟩:=wC hde;rw[hi] at hi';injection hi' with hi';subst hi'
  have hroom:n.toNat*i.bytes<=140737488355328:=by rw[<-hby];exact hroom
  have hle:n.toNat<=n.toNat*i.bytes:=sZ _ (by rw[<-hby];exact hb0)
  have hbb:(i.bytes:Int)*n<=281474976710656:=by
   have e:((n.toNat*i.bytes:Nat):Int)=n*(i.bytes:Int):=by rw[Int.natCast_mul];congr 1;omega
   rw[Int.mul_comm,<-e];omega
  have hr:=run_make (P:=P) w t e i zv ht hi hiz k1 k2 n n hn0 (ru _) hbb za;have hzs:zv.cells.size=i.size:=by rw[<-hsz,<-hzl,hz3];simp
  have hget:∀k,k<n.toNat*i.size->(madeCells zv.cells<|n.toNat*i.size).toList[k]?=zv.cells.toList[k % i.size]? :=by
   intro k hk;have hlt:k % i.size<zv.cells.size:=by rw[hzs];exact Nat.mod_lt _ (by rw[<-hsz];exact hs0)
   simp[madeCells,hk,hzs,sB (show k % i.size<zv.cells.size from hlt)];exact getElem!_pos zv.cells (k % i.size) hlt
  refine ud hO hY hfr de.size (List.replicate n.toNat<|fzs z) (madeCells zv.cells<|n.toNat*i.size).toList e 0 (.slice (some ⟨w.heap.size,0,none⟩) n.toNat n.toNat) _ (hr.trans ?_) ?_ (λe he=>?_) (λa j e c he hc=>?_) ?_
  .simp[World.alloc_eq]
  .rw[List.length_replicate,tB,size_madeCells,hsz];exact r6 _
  .rw[(List.mem_replicate.1 he).2];simp[fzs,hzl]
  .have ha:a<n.toNat:=by have:=(rr.1 he).1;exact zo this
   rw[List.getElem?_replicate,oX ha] at he;injection he with he;subst he
   have hj:j<z.length:=by have:=(rr.1 hc).1;simpa[fzs] using this
   rw[hzl] at hj
   have hlt:a*de.size+j<n.toNat*i.size:=by
    rw[<-hsz]
    calc a*de.size+j<a*de.size+de.size:=za
     _=(a+1)*de.size:=by rw[sL,Nat.one_mul]
     _<=n.toNat*de.size:=rZ _ ha
   have hmod:(a*de.size+j) % i.size=j:=by
    rw[<-hsz,Nat.mul_comm,Nat.mul_add_mod];exact Nat.mod_eq_of_lt hj
   rw[hget _ hlt,hmod];have hj2:j<zv.cells.toList.length:=by rw[tB,hzs,<-hsz];exact hj
   refine⟨zv.cells.toList[j],rf hj2,?_⟩;have hl:=kC (w:=w) (β:=β) (XO Y h β) zv.cells.toList hz4;rw[<-hz3] at hl;exact hl.2 j c _ hc<|rf hj2
  .intro w' β' hb hsh;refine .a _ _<|.osl fr de.size 0 n.toNat w.heap.size 0 _ _ e hb hsh (r6 _) ?_<|.inl zb
   rw[tB,size_madeCells,hsz,rB];exact r6 _
 .cases hq
theorem yx {t:TypeId}{f:(Bool×List EK)×(Bool×List WV)->Option AR}{r:AR}(h0:xh P t f=some r):∃m,J3 P t=some m/\f m=some r:=by
 unfold xh at h0;split at h0
 next m hm=>exact⟨m,hm,h0⟩
 .cases h0
end
section
variable {P:Program} {h:Nat->AObj} {β:Nat->Option Nat} {Y:Nat->Prop} {w:World}
theorem W7 (X:Nat->Prop){zf:List WV}{zs:List Value}(hz:LRep (WRep w X β) zf zs)(hne:zs≠[]):∀(len:Nat),LRep (WRep w X β) (List.replicate len zf).flatten ((List.range<|len*zs.length).map λi=>zs.getD (i % zs.length) undef)
 |0=>zo LRep.nil
 |len+1=>by
  have ih:=W7 X hz hne len
  have h1:(List.range<|(len+1)*zs.length).map (λi=>zs.getD (i % zs.length) undef)=zs++(List.range<|len*zs.length).map (λi=>zs.getD (i % zs.length) undef):=by
   rw[sL,Nat.one_mul,tX,List.range_add,t7,List.map_map];congr 1
   .apply List.ext_getElem?;intro j;rw[rq];by_cases hj:j<zs.length
    .rw[tA hj];simp only[ry,Nat.mod_eq_of_lt hj,List.getD,rf hj,sN]
    .grind
   .simp_all
  rw[h1];exact hz.append ih
theorem Y5 {n:Nat}:∀(k:Nat) {cs:List WV},cs.length=k*n->(∀e∈ja n k cs,e.length=n)/\(ja n k cs).length=k/\(ja n k cs).flatten=cs
 |0,cs,h=>by
  have:cs=[]:=rk za;subst this;simp[ja]
 |k+1,cs,h=>by
  have hk:(cs.drop n).length=k*n:=zd
  obtain⟨h1,h2,h3⟩:=Y5 k hk;refine⟨λe he=>?_,by simp[ja,h2],by simp[ja,h3]⟩;simp only[ja,rx] at he
  grind
theorem qq {ρ:Operand->TV}{ev:Operand->Value}{X:Nat->Prop}(hρ:∀x,TRep w X β (ρ x)<|ev x)(parts:Array<|Nat×Operand):
  ∀(j:Nat) (p:Nat×TV) (v:Nat×Value),(parts.toList.map λp=>(p.1,ρ p.2))[j]?=some p->((parts.map λ(i,x)=>(i,ev x)).toList)[j]?=some v->p.1=v.1/\TRep w X β p.2 v.2:=zd
theorem YI:∀(l:List Field),(∀f∈l,∃i,P.info? f.type=some i)->(l.mapM (λf=>do pure (f.offset,<-sizeOf f.type):Field->Sem (Nat×Nat))).run P w=.ok (l.map λf=>(f.offset,P.cellsOf f.type)) w
 |[],_=>zb
 |f::l,h=>by
  obtain⟨i,hi⟩:=h f zb;have ih:=YI l (λf hf=>h f zd);have hc:P.cellsOf f.type=i.size:=by simp[Program.cellsOf,hi]
  have hs:(sizeOf f.type).run P w=.ok i.size w:=by simp[sizeOf,typeInfo,hi]
  simp_all
theorem gW (fs:Array Field)(h:∀f∈fs.toList,∃i,P.info? f.type=some i):(fs.mapM (λf=>do pure (f.offset,<-sizeOf f.type):Field->Sem (Nat×Nat))).run P w=.ok (fs.toList.map λf=>(f.offset,P.cellsOf f.type)).toArray w:=by
 have:=YI (P:=P) (w:=w) fs.toList h;rw[Array.mapM_eq_mapM_toList];simp_all
theorem XE {t:TypeId} {d:TyD} {parts:List (Nat×TV)} {vals:Array (Nat×Value)} {X:Nat->Prop} {r:TV} (hd:tyOf P t=some d) (hpl:parts.length=vals.toList.length)
  (hp:∀(j:Nat) (p:Nat×TV) (v:Nat×Value),parts[j]?=some p->vals.toList[j]?=some v->p.1=v.1/\TRep w X β p.2 v.2)
  (hb:XB P d parts=some r):∃z,(Instr.build t vals).run P w=.ok z w/\TRep w X β r z:=by
 unfold XB at hb;split at hb
 next z fs hz hk=>obtain⟨cs,hcs,rfl⟩:=oY.1 hb;obtain⟨zv,hzr,rfl,h1,_⟩:=wE (w:=w) hd hz;obtain⟨fl,hfl,rfl,hfs⟩:=jb hd hk;have hl:=kC (w:=w) (β:=β) X zv.cells.toList h1;obtain⟨vs,hv1,hv2⟩:=qg (place':=λi=>((fl.toList.map λf=>(f.offset,P.cellsOf f.type)).toArray)[i]?) (λi=>zd) _ _ _ _ _ hcs hl hpl hp;refine⟨.agg vs.toArray,?_,vs,rfl,hv2⟩;have hm:=gW (P:=P) (w:=w) fl hfs;simp only[Instr.build,rW,hzr,rI,rj hfl,hm,hv1,sg]
 .rename_i z n e hz hk;have ht:=ZM hd hk;split at hb
  next de hde=>obtain⟨cs,hcs,rfl⟩:=oY.1 hb;obtain⟨zv,hzr,rfl,h1,_⟩:=wE (w:=w) hd hz;have hl:=kC (w:=w) (β:=β) X zv.cells.toList h1;obtain⟨vs,hv1,hv2⟩:=qg (place':=λi=>some (i*de.size,de.size)) (λi=>rfl) _ _ _ _ _ hcs hl hpl hp;refine⟨.agg vs.toArray,?_,vs,rfl,hv2⟩;simp only[Instr.build,rW,hzr,rI,rj ht,y7 hde,hv1,sg]
  .cases hb
 .cases hb
theorem iq {t:TypeId} {d:TyD} {parts:Array (Nat×Operand)} {ρ:Operand->TV} {ev:Operand->Value} {X:Nat->Prop} {r:TV} (hρ:∀x,TRep w X β (ρ x)<|ev x) (hd:tyOf P t=some d)
  (hb:XB P d (parts.toList.map λp=>(p.1,ρ p.2))=some r):∃z,(Instr.build t<|parts.map λ(i,x)=>(i,ev x)).run P w=.ok z w/\TRep w X β r z:=
 XE hd zb (qq (w:=w) (β:=β) hρ parts) hb
theorem uH (hO:Objs h β Y w) (hY:∀b,Y b->b<w.heap.size) {fr:Nat} (hfr:β fr=none) {t e:TypeId} {d de:TyD} {len:Nat} {parts:List (Nat×TV)} {vals:Array (Nat×Value)} {r:AR}
  (hpl:parts.length=vals.toList.length) (hp:∀(j:Nat) (p:Nat×TV) (v:Nat×Value),parts[j]?=some p->vals.toList[j]?=some v->p.1=v.1/\TRep w (XO Y h β) β p.2 v.2)
  (hd:tyOf P t=some d) (hk:d.kind=.slice e) (hde:tyOf P e=some de) (hb:wh de fr len parts=some r):
  Does P h β Y w fr r (do pure (.value (<-Instr.buildSlice t len vals))):=by
 have ht:=xc hd hk;unfold wh at hb;split at hb
 .rename_i z hz;split at hb
  .rename_i hc;obtain⟨hz1,hs0,hfit⟩:=hc;split at hb
   .rename_i cs hcs;injection hb with hb;subst hb
    obtain⟨zv,hzr,rfl,h1,_⟩:=wE (w:=w) hde hz;have hzl:zv.cells.toList.length=de.size:=zd
    have hl:=kC (w:=w) (β:=β) (XO Y h β) zv.cells.toList h1;have hrep:=W7 (XO Y h β) hl zd len;rw[hzl] at hrep;obtain⟨vs,hv1,hv2⟩:=qg (place':=λi=>some (i*de.size,de.size)) (λi=>rfl) _ _ _ _ _ hcs hrep hpl hp
    have hfl:∀(place:Nat->Option (Nat×Nat)) (ps:List<|Nat×TV) (c r:List WV),Xo place c ps=some r->r.length=c.length:=by
     intro place ps
     induction ps with
     |nil=>intro c r h;simp only[Xo,r8] at h;rw[h]
     |cons p ps ih=>
      intro c r h;simp only[Xo] at h;split at h
      .split at h
       next hc=>rw[ih _ _ h];unfold splice;simp;omega
       .cases h
      .cases h
    have hcl:cs.length=len*de.size:=by
     rw[hfl _ _ _ _ hcs,hrep.1];simp
    obtain⟨k1,k2,k3⟩:=Y5 len hcl;have hvl:vs.length=len*de.size:=by rw[<-hv2.1,hcl]
    refine ud hO hY hfr de.size (ja de.size len cs) vs e 0 (.slice (some ⟨w.heap.size,0,none⟩) len len) _ ?_ zd k1 (xz k1 zd) ?_
    .have hbig:¬(len*de.size>2^24):=za
     have hcells:(Array.range<|len*de.size).map (λi=>zv.cells[i % zv.cells.size]!)=(List.map (λi=>zv.cells.toList.getD (i % de.size) undef)<|List.range<|len*de.size).toArray:=by
      apply tV;simp only[Array.toList_map,Array.toList_range];apply sI;intro i _;have hzs:zv.cells.size=de.size:=za
      have hlt:i % de.size<zv.cells.size:=by rw[hzs];exact Nat.mod_lt _ hs0
      grind
     by_cases hz00:len*de.size=0
     .have hr0:(Array.range 0).map (λi=>(#[]:Array Value)[i % (#[]:Array Value).size]!)=(List.map (λi=>zv.cells.toList.getD (i % de.size) undef)<|List.range 0).toArray:=by
       grind
      simp only[hz00] at hv1;simp only[Instr.buildSlice,rW,rj ht,rI,y7 hde,hz00,show¬(0>2^24) by omega,rG,rN,sg,hr0,hv1,newRow,run_newObj,th]
     .simp only[Instr.buildSlice,rW,rj ht,rI,y7 hde,hbig,hz00,rN,sg,hzr,hcells,hv1,newRow,run_newObj,th]
    .intro w' β' hb hsh;by_cases hz:len=0/\de.size=1
     .rw[oX hz];obtain⟨rfl,_⟩:=hz;exact .a _ _<|.fz _ _<|.z0 true _
     .rw[oV hz];exact .a _ _<|.osl fr de.size 0 len w.heap.size 0 len _ e hb hsh (r6 _) zd<|.inl zb
   .cases hb
  .cases hb
 .cases hb
theorem ZT (hO:Objs h β Y w) (hY:∀b,Y b->b<w.heap.size) {fr:Nat} (hfr:β fr=none) {t e:TypeId} {d de:TyD} {len:Nat} {parts:Array (Nat×Operand)} {ρ:Operand->TV} {ev:Operand->Value} {r:AR}
  (hρ:∀x,TRep w (XO Y h β) β (ρ x)<|ev x) (hd:tyOf P t=some d) (hk:d.kind=.slice e) (hde:tyOf P e=some de) (hb:wh de fr len (parts.toList.map λp=>(p.1,ρ p.2))=some r):
  Does P h β Y w fr r (do pure (.value (<-Instr.buildSlice t len<|parts.map λ(i,x)=>(i,ev x)))):=
 uH hO hY hfr zb (qq (w:=w) (β:=β) hρ parts) hd hk hde hb
theorem JS (hO:Objs h β Y w) (hY:∀b,Y b->b<w.heap.size) {fr:Nat} (hfr:β fr=none) {t t' ty e:TypeId} {d de:TyD} {s x:TV} {u v:Value} {r:AR} (hd:tyOf P t=some d) (hk:d.kind=.slice e) (hde:tyOf P e=some de)
  (hs:TRep w (XO Y h β) β s u) (hx:TRep w (XO Y h β) β x v) (ha:Za P t' de fr s x=some r):
  Does P h β Y w fr r (do pure (.value (<-Builtin.append_ #[t,t'] ty #[u,v]))):=by
 have ht:=xc hd hk;unfold Za at ha;split at ha
 .rename_i kn k n htn;split at ha
  .rename_i hc;obtain⟨hn0,hs0,hroom,hb0,hz⟩:=hc;injection ha with ha;subst ha
   rw[hs.nils_inv,TRep.int_inv hx];obtain⟨z,hz1,hz2⟩:=oY.1 hz;obtain⟨zv,_,hz3,_,i,hi,hiz⟩:=wE (w:=w) hde hz1;obtain⟨i',_,hi',_,_,hsz,hby,_,_⟩:=wC hde;rw[hi] at hi';injection hi' with hi';subst hi'
   have hroom:n.toNat*i.bytes<=140737488355328:=by rw[<-hby];exact hroom
   have hle:n.toNat<=n.toNat*i.bytes:=sZ _ za;have hr:=Lib.run_append_nil_zeros (P:=P) w t t' ty e i zv k kn ht htn hi hiz n.toNat za za za za;rw[show((n.toNat:Nat):Int)=n by omega] at hr;have hge:=grownCap_ge w n.toNat 0 e;have hzs:zv.cells.size=i.size:=zd
   refine ud hO hY hfr de.size [] (Builtin.zeroCells zv.cells n.toNat++Builtin.zeroCells zv.cells (grownCap w n.toNat 0 e-n.toNat)).toList e 1 (.slice (some ⟨w.heap.size,0,none⟩) n.toNat<|grownCap w n.toNat 0 e) _ (hr.trans ?_) zb (λe he=>by cases he) (λi j e c he _=>zd) ?_
   .rfl
   .intro w' β' hb hsh;refine .a _ _<|.osl fr de.size 0 n.toNat w.heap.size 0 _ _ e hb hsh hge ?_<|.inl zb
    rw[tB,Array.size_append,size_zeroCells,size_zeroCells,hzs,<-sL,hsz]
    grind
  .cases ha
 .cases ha
theorem KY (hO:Objs h β Y w) (hY:∀b,Y b->b<w.heap.size) {fr:Nat} (hfr:β fr=none) {b:Builtin} {ts:Array TypeId} {ty:TypeId} {cs:Array Bool} {args:List TV} {vals:Array Value} {r:AR}
  (hl:LRep (TRep w (XO Y h β) β) args vals.toList) (ha:xL P b ts.toList fr h args=some r):Does P h β Y w fr r (builtin b ts ty cs vals):=by
 unfold xL at ha;split at ha
 .rename_i t x ht;obtain⟨u,us',hu,hx,hr⟩:=hl.cons_inv;rw[hr.nil_inv] at hu;have hv:vals= #[u]:=zd
  have hts:ts= #[t]:=zd
  subst hv;subst hts;obtain⟨d,hd,hlen⟩:=zP ha;obtain⟨p,hp,rfl⟩:=oY.1 hlen;exact len_does (ty:=ty) hO hd hx hp
 .rename_i t t' s x ht;split at ha
  .rename_i htt;subst htt;obtain⟨d,e,de,hd,hk,hde,hap⟩:=ye ha;obtain⟨u,us',hu,hs,hr⟩:=hl.cons_inv;obtain⟨v,vs',hv,hx,hr'⟩:=hr.cons_inv;rw[hv,hr'.nil_inv] at hu;have hvv:vals= #[u,v]:=zd
   have hts:ts= #[t,t]:=zd
   subst hvv;subst hts;exact f8 (ty:=ty) hO hY hfr hd hk hde hs hx hap
  .obtain⟨d,e,de,hd,hk,hde,hap⟩:=ye ha;obtain⟨u,us',hu,hs,hr⟩:=hl.cons_inv;obtain⟨v,vs',hv,hx,hr'⟩:=hr.cons_inv;rw[hv,hr'.nil_inv] at hu;have hvv:vals= #[u,v]:=zd
   have hts:ts= #[t,t']:=zd
   subst hvv;subst hts;exact JS (ty:=ty) hO hY hfr hd hk hde hs hx hap
 .rename_i t x ht;refine yI hO ha λy hy=>?_;obtain⟨u,us',hu,hx,hr⟩:=hl.cons_inv;rw[hr.nil_inv] at hu;have hv:vals= #[u]:=zd
  have hts:ts= #[t]:=zd
  subst hv;subst hts;obtain⟨d,hd,hc⟩:=zP hy;unfold capP at hc;split at hc
  .rename_i hk;have hts:=xc hd hk;injection hc with hc;subst hc
   rw[hx.nils_inv];exact⟨goInt 0,by simp[Builtin.cap_,rj hts,goInt],.int_mk _ _⟩
  .rename_i nn hk;have hts:=xc hd hk;injection hc with hc;subst hc
   have h1:=hx.fz_inv;cases h1 with
   |z0 _ a=>exact⟨goInt 0,by simp[Builtin.cap_,rj hts,goInt],.int_mk _ _⟩
   |z0n=>exact⟨goInt 0,by simp[Builtin.cap_,rj hts,goInt],.int_mk _ _⟩
  .cases hc
 .refine yI hO ha λx hx=>?_;have:=cU (P:=P) (m:=false) ts ty hx hl;simp_all
 .refine yI hO ha λx hx=>?_;have:=cU (P:=P) (m:=true) ts ty hx hl;simp_all
 .cases ha
theorem fJ {ρ:Operand->TV}{ev:Operand->Value}{X:Nat->Prop}(hρ:∀x,TRep w X β (ρ x)<|ev x)(o:Option Operand):bnd (o.map ρ) (o.map ev) w X β:=by
 cases o with
 |none=>trivial
 |some x=>exact hρ x
theorem jL {ρ:Operand->TV}{ev:Operand->Value}{X:Nat->Prop}(hρ:∀x,TRep w X β (ρ x)<|ev x):∀(l:List Operand),LRep (TRep w X β) (l.map ρ) (l.map ev)
 |[]=>.nil
 |x::l=>.cons (hρ x)<|jL hρ l
theorem ff {src:TypeId}{x r:TV}{u:Value}{dst:TypeId}{d:TyD}{X:Nat->Prop}(hs:∃e,P.underlying src=some e)(hd:tyOf P dst=some d)(h:ZL d x=some r)(hx:TRep w X β x u):
  ∃z,(convert src dst u).run P w=.ok z w/\TRep w X β r z:=by
 obtain⟨e,he⟩:=hs;exact Kt src ⟨e,he,λ_ _ _=>trivial⟩ hd h hx
theorem XR {X:Nat->Prop}:∀ {es:List (List WV)} {l:List UInt8} {us:List Value},JJ es=some l->LRep (WRep w X β) es.flatten us->∃ns:List Int,us=ns.map (Value.int .u8)/\l=ns.map λn=>UInt8.ofNat n.toNat
 |[],l,us,h,hl=>by
  simp only[JJ,r8] at h;have:us=[]:=rk (zo hl.1.symm);simp_all
 |e::r,l,us,h,hl=>by
  simp only[JJ] at h;split at h
  .rename_i b l' hb hl';injection h with h;subst h
   unfold byteW at hb;split at hb
   .rename_i n;injection hb with hb;subst hb
    obtain⟨u,us',rfl,hu,hr⟩:=hl.cons_inv;obtain⟨ns,rfl,rfl⟩:=XR hl' hr
    have:u=.int .u8 n:=by
     cases hu with|a _ _ h=>cases h with|fz _ _ h=>cases h;rfl
    subst this;exact⟨n::ns,rfl,rfl⟩
   .cases hb
  .cases h
theorem XU:∀(ns:List Int) (s:ByteArray),ns.foldl (λr n=>r.push<|UInt8.ofNat n.toNat) s=⟨s.data++(ns.map λn=>UInt8.ofNat n.toNat).toArray⟩
 |[],s=>zb
 |n::ns,s=>by
  rw[tM,XU ns];simp_all
theorem iy (hO:Objs h β Y w){src dst:TypeId}{x:TV}{u:Value}{r:AR}(hs:JE P src=true)(ha:textA P dst h x=some r)(hx:TRep w (XO Y h β) β x u):
  ∃v z rd,r=⟨v,[],rd⟩/\(convert src dst u).run P w=.ok z w/\TRep w (XO Y h β) β v z:=by
 have hsrc:∃e,P.underlying src=some (.slice e)/\P.underlying e=some (.int .u8):=by
  unfold JE at hs;split at hs
  .rename_i he;obtain⟨dd,e,de,hd,hk,hde,hl⟩:=ye he;injection hl with hl
   obtain⟨u1,hu1,hk1⟩:=xI hd;rw[hk1] at hk;obtain⟨u2,hu2,hk2⟩:=xI hde;rw[hk2] at hl;have e1:=ki hk;have e2:=W8 hl
   grind
  .cases hs
 obtain⟨e,hs1,hs2⟩:=hsrc;obtain⟨d,hd,ha⟩:=zP ha;split at ha
 .rename_i hk;obtain⟨u3,hu3,hk3⟩:=xI hd;rw[hk3] at hk;have e3:=Z7 hk;subst e3;split at ha
  .rename_i es rd hes;obtain⟨l,hl,rfl⟩:=oY.1 ha;obtain⟨_,us,h1,h2⟩:=jh hO hes hx za;obtain⟨ns,rfl,rfl⟩:=XR hl h1;rcases h2 with⟨rfl,rfl⟩|⟨a,cap,rfl,hc⟩
   .have:ns=[]:=by
     have:=h1.1
     grind
    subst this;refine⟨_,.string .empty,_,rfl,?_,.a _ _<|.fz _ _<|.str []⟩;rw[run_convert_bytes_string w src dst e none 0 0 hs1 hs2 hu3];rfl
   .have hlen:es.length=(ns.map<|Value.int .u8).length:=by
     have:=h1.1;have hn:=(jh hO hes hx za).1;rw[<-this,uz hn,Nat.mul_one]
    refine⟨_,_,_,rfl,(run_convert_bytes_string w src dst e (some a) es.length cap hs1 hs2 hu3).trans<|run_bytesToString w a es.length cap ns ?_,?_⟩
    .rw[hlen];exact run_loadCells_list w a _ hc
    .rw[XU]
     have e:ByteArray.empty.data++(ns.map λn=>UInt8.ofNat n.toNat).toArray=(ns.map λn=>UInt8.ofNat n.toNat).toArray:=by
      simp_all
     rw[e];exact .a _ _<|.fz _ _<|.str _
  .cases ha
 .cases ha
theorem uj (hO:Objs h β Y w)(hY:∀b,Y b->b<w.heap.size){fr:Nat}(hfr:β fr=none){o:Oper}{ρ:Operand->TV}{ev:Operand->Value}{r:AR}(hρ:∀x,TRep w (XO Y h β) β (ρ x)<|ev x)(ha:aop P o fr ρ h=some r):
  Does P h β Y w fr r (execOp ev o):=by
 have bindv:∀ {s:Sem Value},(do pure (.value (<-s)):Sem Next)=(do let v <-s;pure<|.value v):=rfl
 obtain⟨d,op,t,p,af,g⟩:=o;unfold aop at ha;dsimp only at ha;split at ha
 .injection ha with ha;subst ha
  rename_i x;exact⟨.value<|ev x,ev x,w,β,rfl,.inl rfl,(Moves.refl hO λ_=>rfl).weaken λ_ h=>h.elim,hρ x⟩
 .injection ha with ha;subst ha
  rename_i x;exact⟨.value<|ev x,ev x,w,β,rfl,.inl rfl,(Moves.refl hO λ_=>rfl).weaken λ_ h=>h.elim,hρ x⟩
 .rename_i c x y;obtain⟨v,hv,rfl⟩:=oY.1 ha;obtain⟨b,hb,hr⟩:=lK hv (hρ c) (hρ x)<|hρ y
  refine⟨.value (if b then ev x else ev y),_,w,β,?_,.inl rfl,(Moves.refl hO λ_=>rfl).weaken λ_ h=>h.elim,hr⟩
  simp only[execOp,hb,asBool,pure_bind];rfl
 next e=>obtain⟨dd,hd,hz⟩:=zP ha;obtain⟨z,hz',rfl⟩:=oY.1 hz;exact pd hO hY hfr hd hz'
 next e x=>obtain⟨cs,hcs,rfl⟩:=oY.1 ha;exact box_does hO hY hfr (hρ x) hcs
 next bt parts=>exact yI hO ha (λx hx=>by obtain⟨dd,hd,hb⟩:=zP hx;exact iq hρ hd hb)
 next st len parts=>obtain⟨dd,e,de,hd,hk,hde,hb⟩:=ye ha;exact ZT hO hY hfr hρ hd hk hde hb
 next lt x=>obtain⟨dd,hd,hl⟩:=zP ha;obtain⟨q,hq,rfl⟩:=oY.1 hl;exact mb hO hd (hρ x) hq
 next st x y=>obtain⟨dd,hd,hs⟩:=zP ha;exact aX hO hd (hρ x) (hρ y) hs
 next x=>obtain⟨v,hv,rfl⟩:=oY.1 ha;obtain⟨h1,h2⟩:=Jo (P:=P) (o:=⟨d,.nilCheck x,t,p,af,g⟩) ev x rfl rfl hv (hρ x);exact⟨.value<|ev x,ev x,w,β,h1,.inl rfl,(Moves.refl hO λ_=>rfl).weaken λ_ h=>h.elim,h2⟩
 next op xt x y yt=>exact yI hO ha λv hv=>binA_run x y hv (hρ x)<|hρ y
 next op xt x=>exact yI hO ha λv hv=>unA_run hv<|hρ x
 .rename_i src dst x;split at ha
  .rename_i hs;obtain⟨v,z,rd,rfl,h1,h3⟩:=iy hO hs ha<|hρ x
   refine⟨.value z,z,w,β,?_,.inl rfl,(Moves.refl hO λ_=>rfl).weaken λ_ h=>h.elim,h3⟩;simp only[execOp,rW,h1,rI,sg]
  exact yI hO ha (λv hv=>by
   split at hv
   next hs=>obtain⟨dd,hd,hc⟩:=zP hv;exact ff (Option.isSome_iff_exists.1 hs) hd hc (hρ x)
   .cases hv)
 .rename_i st x lo hi mx
  exact yI hO ha (λv hv=>by
   obtain⟨dd,hd,hc⟩:=zP hv;exact Ko hd hc (hρ x) (fJ hρ lo) (fJ hρ hi) (fJ hρ mx))
 next s x f=>exact yI hO ha (λv hv=>by obtain⟨dd,hd,hc⟩:=zP hv;exact Xi hd hc<|hρ x)
 next s x f=>exact yI hO ha (λv hv=>by obtain⟨dd,hd,hc⟩:=zP hv;exact pN hd hc<|hρ x)
 next s x ix=>exact yI hO ha (λv hv=>by obtain⟨dd,hd,hc⟩:=zP hv;exact kX hd hc (hρ x)<|hρ ix)
 next s x ix=>exact yI hO ha (λv hv=>by obtain⟨dd,hd,hc⟩:=zP hv;exact pW hd hc (hρ x)<|hρ ix)
 .rename_i fn first captured
  exact yI hO ha (λv hv=>⟨.func fn (first.map ev)<|captured.map ev,rfl,by
   have:=Jy (w:=w) (β:=β) (X:=XO Y h β) hv (jL hρ first.toList) (jL hρ captured.toList);have e:∀a:Array Operand,(a.toList.map ev).toArray=a.map ev:=λa=>by apply tV;simp
   rwa [e,e] at this⟩)
 next x i=>exact yI hO ha λv hv=>gA hv<|hρ x
 next b args ts=>refine KY (vals:=args.map ev) hO hY hfr (by simpa using jL hρ args.toList) ha
 next lt x ix ok=>obtain⟨m,hm,hl⟩:=yx ha;exact dw hO hm (hρ x) (hρ ix) hl
 next mt x k=>obtain⟨m,hm,hl⟩:=yx ha;exact WY hO hm (hρ x) (hρ k) hl
 next mt x s v=>exact YS hO (hρ x) (hρ s) (hρ v) ha
 next mt x k v=>obtain⟨m,hm,hl⟩:=yx ha;exact Xk hO hm (hρ x) (hρ k) (hρ v) hl
 .injection ha with ha;subst ha
  exact Kl hO hY hfr _
 next st l c=>obtain⟨dd,e,de,hd,hk,hde,hb⟩:=ye ha;obtain⟨q,hq,rfl⟩:=oY.1 hb;exact Xu hO hY hfr hd hk hde (hρ l) (hρ c) hq
 .cases ha
end
section
variable {w:World} {X1 X2:Nat->Prop} {β1 β2:Nat->Option Nat} {σ:Nat->Nat}
theorem ARep.map (hF:∀x v,FRep w X1 x v->FRep w X2 x v)(hβ:∀o b,β1 o=some b->β2 (σ o)=some b){x:AV}{v:Value}(h:ARep w X1 β1 x v):ARep w X2 β2 (x.ren σ) v:=by
 cases h with
 |fz x v h=>exact .fz x v<|hF x v h
 |ep o n i j b h=>exact .ep _ n i j b<|hβ _ _ h
 |osl o n off len b q cap sz t h1 h2 h3 h4 h5=>exact .osl _ n off len b q cap sz t (hβ _ _ h1) h2 h3 h4 h5
 |oslN o n off=>exact .oslN _ n off
 |mp o b h=>exact .mp _ b<|hβ _ _ h
 |any v h=>exact .any v h
 |bld t o b v h1 h2 h3=>exact .bld t _ b v (hβ _ _ h1) h2 h3
 |osb o e len b cap h1 h2 h3 h4=>exact .osb _ e len b cap (hβ _ _ h1) h2 h3 h4
theorem WRep.map (hF:∀x v,FRep w X1 x v->FRep w X2 x v)(hβ:∀o b,β1 o=some b->β2 (σ o)=some b){x:WV}{v:Value}(h:WRep w X1 β1 x v):WRep w X2 β2 (x.ren σ) v:=by
 cases h with
 |a x v h=>exact .a _ v<|h.map hF hβ
 |fn f first cap us vs h1 h2=>exact .fn f _ _ us vs (h1.map λc u _ h=>h.map λc u _ h=>h.map hF hβ)<|h2.map λc u _ h=>h.map λc u _ h=>h.map hF hβ
theorem TRep.map (hF:∀x v,FRep w X1 x v->FRep w X2 x v)(hβ:∀o b,β1 o=some b->β2 (σ o)=some b){x:TV}{v:Value}(h:TRep w X1 β1 x v):TRep w X2 β2 (x.ren σ) v:=by
 cases x with
 |any=>trivial
 |c x=>exact WRep.map hF hβ h
 |agg cs=>obtain⟨us,h1,h2⟩:=h;exact⟨us,h1,h2.map λc u _ h=>h.map hF hβ⟩
 |tup vs=>obtain⟨us,h1,h2⟩:=h;exact⟨us,h1,h2.map λc u _ h=>h.map λc u _ h=>h.map hF hβ⟩
theorem ORep.map (hF:∀x v,FRep w X1 x v->FRep w X2 x v)(hβ:∀o b,β1 o=some b->β2 (σ o)=some b){x:AObj}{b:Nat}(h:ORep w X1 β1 x b):ORep w X2 β2 (x.ren σ) b:=by
 cases x with
 |gone=>trivial
 |arz n fs=>
  obtain⟨us,t,h1,h2,h3,h4⟩:=h;refine⟨us,t,h1,h2,h3,λi j e c he hc=>?_⟩;obtain⟨u,hu,hr⟩:=h4 i j e c he hc;rw[rq] at he;obtain⟨e',he',rfl⟩:=oY.1 he;rw[fzs,rq] at hc;obtain⟨c',hc',rfl⟩:=oY.1 hc;exact⟨u,hu,hr.map (σ:=σ) hF hβ⟩
 |mapz es=>
  obtain⟨ms,ck,h1,h2,h3,h4,h5⟩:=h;refine⟨ms,ck,h1,h2,λi e m he hm=>?_,h4,h5⟩;obtain⟨x,y⟩:=h3 i e m he hm;rw[rq] at he;obtain⟨e',he',rfl⟩:=oY.1 he;refine⟨x.imp λ_ _ _ h=>hF _ _ h,y.imp λc u hc h=>?_⟩;obtain⟨c',_,rfl⟩:=rK.1 (show c∈List.map cell e'.2.2 from hc);exact h.map (σ:=σ) hF hβ
 |arr n es=>
  obtain⟨us,t,h1,h2,h3,h4⟩:=h;refine⟨us,t,h1,zo h2,λe he=>?_,λi j e c he hc=>?_⟩
  .obtain⟨e',he',rfl⟩:=rK.1 he;simp[h3 e' he']
  .rw[rq] at he;obtain⟨e',he',rfl⟩:=oY.1 he;rw[rq] at hc;obtain⟨c',hc',rfl⟩:=oY.1 hc;obtain⟨u,hu,hr⟩:=h4 i j e' c' he' hc';exact⟨u,hu,hr.map hF hβ⟩
 |mapo es=>
  obtain⟨ms,ck,h1,h2,h3,h4,h5⟩:=h;refine⟨ms,ck,h1,zo h2,λi e m he hm=>?_,h4,h5⟩;rw[rq] at he;obtain⟨e',he',rfl⟩:=oY.1 he;obtain⟨x,y⟩:=h3 i e' m he' hm;exact⟨x.imp λ_ _ _ h=>hF _ _ h,y.map λc u _ h=>h.map hF hβ⟩
theorem ARep.unmap {m:Nat}(hF:∀x v,FRep w X2 x v->FRep w X1 x v)(hβ:∀o b,o<m->β2 (σ o)=some b->β1 o=some b){x:AV}{v:Value}(hlt:x.lt m=true)(h:ARep w X2 β2 (x.ren σ) v):ARep w X1 β1 x v:=by
 cases x with
 |fz x=>cases h with|fz _ _ h=>exact .fz x v<|hF x v h
 |ep o n i j=>cases h with|ep _ _ _ _ b h=>exact .ep o n i j b<|hβ _ _ (by simpa[AV.lt] using hlt) h
 |osl o n off len=>cases h with
  |osl _ _ _ _ b q cap sz t h1 h2 h3 h4 h5=>exact .osl o n off len b q cap sz t (hβ _ _ (by simpa[AV.lt] using hlt) h1) h2 h3 h4 h5
  |oslN=>exact .oslN o n off
 |mp o=>cases h with|mp _ b h=>exact .mp o b<|hβ _ _ (by simpa[AV.lt] using hlt) h
 |any=>cases h with|any _ h=>exact .any v h
 |bld t o=>cases h with|bld _ _ b _ h1 h2 h3=>exact .bld t o b v (hβ _ _ (by simpa[AV.lt] using hlt) h1) h2 h3
 |osb o e n=>cases h with|osb _ _ _ b cap h1 h2 h3 h4=>exact .osb o e n b cap (hβ _ _ (by simpa[AV.lt] using hlt) h1) h2 h3 h4
theorem WRep.unmap {m:Nat}(hF:∀x v,FRep w X2 x v->FRep w X1 x v)(hβ:∀o b,o<m->β2 (σ o)=some b->β1 o=some b){x:WV}{v:Value}(hlt:x.lt m=true)(h:WRep w X2 β2 (x.ren σ) v):WRep w X1 β1 x v:=by
 cases x with
 |a x=>cases h with|a _ _ h=>exact .a x v<|ARep.unmap hF hβ hlt h
 |fn f first cap=>
  simp only[WV.lt,oZ,rP] at hlt;cases h with
  |fn _ _ _ us vs h1 h2=>exact .fn f first cap us vs (h1.unmap λc u hc h=>h.unmap λd z hd h=>ARep.unmap hF hβ (hlt.1 c hc d hd) h) (h2.unmap λc u hc h=>h.unmap λd z hd h=>ARep.unmap hF hβ (hlt.2 c hc d hd) h)
theorem TRep.unmap {m:Nat}(hF:∀x v,FRep w X2 x v->FRep w X1 x v)(hβ:∀o b,o<m->β2 (σ o)=some b->β1 o=some b){x:TV}{v:Value}(hlt:x.lt m=true)(h:TRep w X2 β2 (x.ren σ) v):TRep w X1 β1 x v:=by
 cases x with
 |any=>trivial
 |c x=>exact WRep.unmap hF hβ hlt h
 |agg cs=>
  simp only[TV.lt,rP] at hlt;obtain⟨us,h1,h2⟩:=h;exact⟨us,h1,h2.unmap λc u hc h=>WRep.unmap hF hβ (hlt c hc) h⟩
 |tup vs=>
  simp only[TV.lt,rP] at hlt;obtain⟨us,h1,h2⟩:=h;exact⟨us,h1,h2.unmap λc u hc h=>h.unmap λd z hd h=>WRep.unmap hF hβ (hlt c hc d hd) h⟩
theorem ORep.unmap {m:Nat}(hF:∀x v,FRep w X2 x v->FRep w X1 x v)(hβ:∀o b,o<m->β2 (σ o)=some b->β1 o=some b){x:AObj}{b:Nat}(hlt:x.lt m=true)(h:ORep w X2 β2 (x.ren σ) b):ORep w X1 β1 x b:=by
 cases x with
 |gone=>trivial
 |arz n fs=>
  obtain⟨us,t,h1,h2,h3,h4⟩:=h;refine⟨us,t,h1,h2,h3,λi j e c he hc=>?_⟩;obtain⟨u,hu,hr⟩:=h4 i j e c he hc;rw[rq] at he;obtain⟨e',he',rfl⟩:=oY.1 he;rw[fzs,rq] at hc;obtain⟨c',hc',rfl⟩:=oY.1 hc;exact⟨u,hu,WRep.unmap (σ:=σ) (m:=m) (x:=cell c') hF hβ rfl hr⟩
 |mapz es=>
  obtain⟨ms,ck,h1,h2,h3,h4,h5⟩:=h;refine⟨ms,ck,h1,h2,λi e me he hm=>?_,h4,h5⟩;obtain⟨x,y⟩:=h3 i e me he hm;rw[rq] at he;obtain⟨e',he',rfl⟩:=oY.1 he;refine⟨x.imp λ_ _ _ h=>hF _ _ h,y.imp λc u hc h=>?_⟩;obtain⟨c',_,rfl⟩:=rK.1 (show c∈List.map cell e'.2.2 from hc);exact WRep.unmap (σ:=σ) (m:=m) (x:=cell c') hF hβ rfl h
 |arr n es=>
  simp only[AObj.lt,rP] at hlt;obtain⟨us,t,h1,h2,h3,h4⟩:=h;refine⟨us,t,h1,zo h2,λe he=>?_,λi j e c he hc=>?_⟩
  .have:=h3 _<|rK.2 ⟨e,he,rfl⟩
   exact zo this
  .obtain⟨u,hu,hr⟩:=h4 i j _ _ (by rw[rq,he];rfl) (by rw[rq,hc];rfl);exact⟨u,hu,WRep.unmap hF hβ (hlt e (rV he) c<|rV hc) hr⟩
 |mapo es=>
  simp only[AObj.lt,rP] at hlt;obtain⟨ms,ck,h1,h2,h3,h4,h5⟩:=h;refine⟨ms,ck,h1,zo h2,λi e m he hm=>?_,h4,h5⟩;obtain⟨x,y⟩:=h3 i _ m (by rw[rq,he];rfl) hm;exact⟨x.imp λ_ _ _ h=>hF _ _ h,y.unmap λc u hc h=>WRep.unmap hF hβ (hlt e (rV he) c hc) h⟩
theorem FRep.le {X:Nat->Prop}{x y:FV}(h:FV.Le x y):∀ {v:Value},FRep w X x v->FRep w X y v:=by
 induction h with
 |refl x=>exact λh=>h
 |N n=>exact λh=>by cases h;exact .slnil n
 |nn b n es=>
  intro v h;cases h with
  |slnil=>exact .slnil n
  |sl0 _ _ a=>exact .sl0 _ n a
  |sl _ _ _ b off cap len u h1 h2 h3 h4 h5 h6 h7=>exact .sl false n es b off cap len u h1 h2 h3 h4 h5 h6 h7
 |z0 nn n=>
  intro v h;cases h with
  |z0 _ a=>exact .sl0 nn n a
  |z0n=>exact .slnil n
 |rows b n es es' hl he hf ih=>
  intro v h
  have back:∀ {i:Nat} {e':List FV},es'[i]?=some e'->∃e,es[i]?=some e/\e.length=e'.length:=by
   intro i e' he';have hi:i<es.length:=by have:=(rr.1 he').1;omega
   exact⟨es[i],rf hi,he i _ _ (rf hi) he'⟩
  cases h with
  |slnil=>
   have:es'=[]:=rk (zo hl.symm);subst this;exact .slnil n
  |sl0 _ _ a=>
   have:es'=[]:=rk (zo hl.symm);subst this;exact .sl0 _ n a
  |sl _ _ _ b off cap len u h1 h2 h3 h4 h5 h6 h7=>
   refine .sl _ n es' b off cap len u za za h3 h4 (λi e' he'=>?_) (λi j e' f' he' hf'=>?_) λi j e' f' he' hf'=>?_
   .obtain⟨e,he1,he2⟩:=back he';rw[<-he2];exact h5 i e he1
   .obtain⟨e,he1,he2⟩:=back he';have hj:j<e.length:=by rw[he2];exact(rr.1 hf').1
    exact h6 i j e _ he1<|rf hj
   .obtain⟨e,he1,he2⟩:=back he';have hj:j<e.length:=by rw[he2];exact(rr.1 hf').1
    exact ih i j e e' _ f' he1 he' (rf hj) hf'<|h7 i j e _ he1<|rf hj
 |trans x y z _ _ ih1 ih2=>exact λh=>ih2<|ih1 h
theorem ARep.le {X:Nat->Prop}{β:Nat->Option Nat}{x y:AV}(h:AV.Le x y){v:Value}(hr:ARep w X β x v):ARep w X β y v:=by
 cases h with
 |refl=>exact hr
 |fz x y h=>cases hr with|fz _ _ hr=>exact .fz y v<|hr.le h
 |any=>exact .any v<|WRep.oneCell<|.a _ _ hr
theorem WRep.le {X:Nat->Prop}{β:Nat->Option Nat}{x y:WV}(h:WV.Le x y){v:Value}(hr:WRep w X β x v):WRep w X β y v:=by
 cases h with
 |refl=>exact hr
 |a x y h=>cases hr with|a _ _ hr=>exact .a y v<|hr.le h
theorem TRep.le {X:Nat->Prop}{β:Nat->Option Nat}{x y:TV}(h:TV.Le x y){v:Value}(hr:TRep w X β x v):TRep w X β y v:=by
 cases h with
 |refl=>exact hr
 |any=>trivial
 |c x y h=>exact WRep.le h hr
 |agg xs ys hl h=>
  obtain⟨us,h1,h2⟩:=hr;refine⟨us,h1,by rw[<-hl];exact h2.1,λj c u hc hu=>?_⟩;have hj:j<xs.length:=by rw[hl];exact(rr.1 hc).1
  exact WRep.le (h j _ c (rf hj) hc)<|h2.2 j _ u (rf hj) hu
 |tup xs ys hl h=>
  obtain⟨us,h1,h2⟩:=hr;refine⟨us,h1,by rw[<-hl];exact h2.1,λj q u hq hu=>?_⟩;have hj:j<xs.length:=by rw[hl];exact(rr.1 hq).1
  obtain⟨g1,g2,g3⟩:=h j _ q (rf hj) hq;obtain⟨vs,k1,k2,k3⟩:=h2.2 j _ u (rf hj) hu;refine⟨vs,by rw[<-g1];exact k1,⟨by rw[<-g2];exact k2.1,λi y w hy hw=>?_⟩,λe=>by rw[<-g2];exact k3<|by rw[g1];exact e⟩;have hi:i<(xs[j]).2.length:=by rw[g2];exact(rr.1 hy).1
  exact WRep.le (g3 i _ y (rf hi) hy)<|k2.2 i _ w (rf hi) hw
end
section
variable {P:Program} {h:Nat->AObj} {β:Nat->Option Nat} {Y:Nat->Prop} {w:World}
theorem uO {α:Type}{l:List (Nat×α)}{i:Nat}{x:α}(h:ya l i=some x):(i,x)∈l:=by
 induction l with
 |nil=>simp[ya] at h
 |cons p l ih=>
  obtain⟨j,y⟩:=p;simp only[ya] at h
  grind
theorem fz_of_w {X:Nat->Prop}{f:FV}{u:Value}(h:WRep w X β (cell f) u):FRep w X f u:=by
 cases h with|a _ _ h=>cases h with|fz _ _ h=>exact h
theorem dB (hO:Objs h β Y w) {Z:Nat->Prop} (hZ:∀b,¬XO Y h β b->¬Z b) {o n off len m:Nat} {fs:List (List FV)} (hm:flat (h o)=.arr m (fs.map fzs)) (hn:n=m) (hfit:off+len<=fs.length) (hoZ:∀b,β o=some b->¬Z b)
  {v:Value} (hx:ARep w (XO Y h β) β (.osl o n off len) v):FRep w Z (.sl false n<|(fs.drop off).take len) v:=by
 have hF:∀x v,FRep w (XO Y h β) x v->FRep w Z x v:=λx v hr=>hr.mono (r6 _) λb hb _=>⟨rfl,hZ b hb⟩;cases hx with
 |oslN=>simpa using FRep.slnil n
 |osl _ _ _ _ b q cap sz t h1 h2 h3 h4 h5=>
  have hlive:isLive (h o):=by rw[<-w4,hm];trivial
  obtain⟨us,tt,g1,g2,g3,g4⟩:=kD hO hm h1;have hlen:len=((fs.drop off).take len).length:=zd
  have hget:∀i e,((fs.drop off).take len)[i]?=some e->fs[off+i]?=some e/\i<len:=by
   grind
  have hcells:∀i e,((fs.drop off).take len)[i]?=some e->∀j f,e[j]?=some f->∃u,us[(off+i)*n+j]?=some u/\FRep w Z f u:=by
   intro i e he j f hf;obtain⟨u,hu,hr⟩:=g4 (off+i) j (fzs e) (cell f) zd (by rw[fzs,rq,hf];rfl);rw[hn];exact⟨u,hu,hF _ _<|fz_of_w hr⟩
  refine .sl false n _ b q cap len (λi j=>us.getD ((off+i)*n+j) undef) hlen za (hoZ b h1) (hO.lt o b h1) (λi e he=>?_) (λi j e f he hf=>?_) λi j e f he hf=>?_
  .have:=g3 (fzs e)<|rV (by rw[rq,(hget i e he).1];rfl:(fs.map fzs)[off+i]?=some (fzs e))
   rw[hn];simpa[fzs] using this
  .obtain⟨u,hu,_⟩:=hcells i e he j f hf;have hi:=(hget i e he).2;simp only[World.cell?,g1,tG,tE,rF,rN,List.getD]
   grind
  .grind
theorem nG (hO:Objs h β Y w) {L:Lent} (hL:L.ok h) {Z:Nat->Prop} (hZ:∀b,¬XO Y h β b->¬Z b) (hLZ:∀p∈L,∀b,β p.1=some b->¬Z b)
  {x:AV} {v:Value} (hx:ARep w (XO Y h β) β x v):ARep w Z β (x.lend L) v:=by
 have hF:∀x v,FRep w (XO Y h β) x v->FRep w Z x v:=λx v hr=>hr.mono (r6 _) λb hb _=>⟨rfl,hZ b hb⟩;cases hx with
 |fz x v hr=>exact .fz x v<|hF x v hr
 |ep o n i j b hb=>exact .ep o n i j b hb
 |mp o b hb=>exact .mp o b hb
 |any v hv=>exact .any v hv
 |bld t o b v h1 h2 h3=>exact .bld t o b v h1 h2 h3
 |osb o e len b cap h1 h2 h3 h4=>exact .osb o e len b cap h1 h2 h3 h4
 |oslN o n off=>
  simp only[AV.lend];split
  .rename_i p hfs;split
   next hc=>have hmem:=uO hfs;exact .fz _ _<|dB hO hZ (hL _ hmem) hc.1 hc.2 (hLZ _ hmem)<|.oslN o n off
   .exact .oslN o n off
  .exact .oslN o n off
 |osl o n off len b q cap sz t h1 h2 h3 h4 h5=>
  simp only[AV.lend];split
  .rename_i p hfs;split
   next hc=>have hmem:=uO hfs;exact .fz _ _<|dB hO hZ (hL _ hmem) hc.1 hc.2 (hLZ _ hmem)<|.osl o n off len b q cap sz t h1 h2 h3 h4 h5
   .exact .osl o n off len b q cap sz t h1 h2 h3 h4 h5
  .exact .osl o n off len b q cap sz t h1 h2 h3 h4 h5
theorem kg (hO:Objs h β Y w) {L:Lent} (hL:L.ok h) {Z:Nat->Prop} (hZ:∀b,¬XO Y h β b->¬Z b) (hLZ:∀p∈L,∀b,β p.1=some b->¬Z b)
  {x:TV} {v:Value} (hx:TRep w (XO Y h β) β x v):TRep w Z β (x.lend L) v:=by
 have hF:∀x v,FRep w (XO Y h β) x v->FRep w Z x v:=λx v hr=>hr.mono (r6 _) λb hb _=>⟨rfl,hZ b hb⟩;have hA:∀x v,ARep w (XO Y h β) β x v->ARep w Z β x v:=λx v hr=>hr.mono (r6 _) (λb hb _=>⟨rfl,hZ b hb⟩) (λ_ _=>rfl) λo b hb=>⟨hb,hO.lt o b hb⟩
 have hW:∀x v,WRep w (XO Y h β) β x v->WRep w Z β (x.lend L) v:=by
  intro x v hr;cases hr with
  |a x v hr=>exact .a _ v<|nG hO hL hZ hLZ hr
  |fn f first cap us vs h1 h2=>exact .fn f first cap us vs (h1.imp λ_ _ _ h=>h.imp λc u _ h=>hA c u h) (h2.imp λ_ _ _ h=>h.imp λc u _ h=>hA c u h)
 have hW':∀x v,WRep w (XO Y h β) β x v->WRep w Z β x v:=by
  intro x v hr;cases hr with
  |a x v hr=>exact .a _ v<|hA _ _ hr
  |fn f first cap us vs h1 h2=>exact .fn f first cap us vs (h1.imp λ_ _ _ h=>h.imp λc u _ h=>hA c u h) (h2.imp λ_ _ _ h=>h.imp λc u _ h=>hA c u h)
 cases x with
 |any=>trivial
 |c x=>exact hW x v hx
 |agg cs=>obtain⟨us,h1,h2⟩:=hx;exact⟨us,h1,h2.map λc u _ h=>hW c u h⟩
 |tup vs=>obtain⟨us,h1,h2⟩:=hx;exact⟨us,h1,h2.imp λc u _ h=>h.imp λd z _ h=>hW' d z h⟩
theorem J0 {Z:Nat->Prop}{β':Nat->Option Nat}:∀ {xs ys:List TV} {us:List Value},All2 TV.Le xs ys->LRep (TRep w Z β') xs us->LRep (TRep w Z β') ys us
 |[],[],us,_,h=>h
 |x::xs,y::ys,us,h1,h2=>by
  obtain⟨u,us',rfl,hu,hr⟩:=h2.cons_inv;exact .cons (TRep.le h1.1 hu)<|J0 h1.2 hr
 |[],_::_,_,h,_=>h.elim
 |_::_,[],_,h,_=>h.elim
theorem Yd {σ:Nat->Nat}:∀ {ids:List Nat} {Hs:List AObj} {o:Nat} {x:AObj},ids.Nodup->ya (yD σ ids Hs) o=some x->∃(k:Nat) (y:AObj),ids[k]?=some o/\Hs[k]?=some y/\x=y.ren σ
 |[],Hs,o,x,_,h=>by simp[yD,ya] at h
 |i::ids,[],o,x,_,h=>by simp[yD,ya] at h
 |i::ids,y::Hs,o,x,hn,h=>by
  simp only[yD,ya] at h;split at h
  .rename_i e;injection h with h
   exact⟨0,y,by simp[e],rfl,h.symm⟩
  .obtain⟨k,z,h1,h2,h3⟩:=Yd (rY.1 hn).2 h;exact⟨k+1,z,h1,h2,h3⟩
theorem jv {σ:Nat->Nat}:∀ {ids:List Nat} {Hs:List AObj} {k i:Nat} {y:AObj},ids.Nodup->ids[k]?=some i->Hs[k]?=some y->ya (yD σ ids Hs) i=some (y.ren σ)
 |[],_,k,i,y,_,h,_=>zd
 |_::_,[],k,i,y,_,_,h=>zd
 |j::ids,x::Hs,k,i,y,hn,h1,h2=>by
  have hn:=rY.1 hn;cases k with
  |zero=>
   simp at h1 h2;subst h1;subst h2;simp[yD,ya]
  |succ k=>
   simp at h1 h2;have hne:j≠i:=λe=>hn.1 zd;simp only[yD,ya,hne,rN];exact jv hn.2 h1 h2
theorem j9 {σ:Nat->Nat}:∀ {ids:List Nat} {Hs:List AObj} {o:Nat},ids.length<=Hs.length->ya (yD σ ids Hs) o=none->o ∉ ids
 |[],Hs,o,_,_=>zb
 |i::ids,[],o,hl,_=>zd
 |i::ids,y::Hs,o,hl,h=>by
  simp only[yD,ya] at h;split at h
  .cases h
  .rename_i e;intro hm;rcases rx.1 hm with h1|h1
   .omega
   .exact j9 zd h h1
theorem gp {σ:Nat->Nat}:∀ {Hs:List AObj} {fr o:Nat} {x:AObj},ya (xG σ fr Hs) o=some x->∃(j:Nat) (y:AObj),o=fr+j/\Hs[j]?=some y/\x=y.ren σ
 |[],fr,o,x,h=>by simp[xG,ya] at h
 |y::Hs,fr,o,x,h=>by
  simp only[xG,ya] at h;split at h
  .simp_all
  .obtain⟨j,z,h1,h2,h3⟩:=gp h;exact⟨j+1,z,za,h2,h3⟩
theorem kY {σ:Nat->Nat}:∀ {Hs:List AObj} {fr o j:Nat},ya (xG σ fr Hs) o=none->o=fr+j->Hs.length<=j
 |[],fr,o,j,_,_=>zb
 |y::Hs,fr,o,j,h,e=>by
  simp only[xG,ya] at h;split at h
  .cases h
  .cases j with
   |zero=>omega
   |succ j=>have:=kY (j:=j) h za;simp;omega
theorem ko {α:Type}(a b:List<|Nat×α)(o:Nat):ya (a++b) o=match ya a o with|some x=>some x|none=>ya b o:=by
 induction a with
 |nil=>rfl
 |cons p a ih=>
  obtain⟨j,x⟩:=p;simp only[sk,ya]
  grind
theorem fc {X1 X2:Nat->Prop}{w':World}{x:FV}{v:Value}(hs:x.scalar=true)(h:FRep w X1 x v):FRep w' X2 x v:=by
 cases h with
 |int k n=>exact .int k n
 |bool b=>exact .bool b
 |str l=>exact .str l
 |cst v h=>exact .cst v h
 |N=>exact .N
 |slnil=>simp[FV.scalar] at hs
 |sl0=>simp[FV.scalar] at hs
 |z0 nn a=>exact .z0 nn a
 |z0n=>exact .z0n
 |sl=>simp[FV.scalar] at hs
 |pt=>simp[FV.scalar] at hs
 |mp=>simp[FV.scalar] at hs
theorem fF {X1 X2:Nat->Prop}{β1 β2:Nat->Option Nat}{σ:Nat->Nat}{x:TV}{v:Value}(hs:x.scalar=true)(hβ:∀o,β1 o=none)(h:TRep w X1 β1 x v):TRep w X2 β2 (x.ren σ) v:=by
 have hW:∀c u,WV.scalar c=true->WRep w X1 β1 c u->WRep w X2 β2 (c.ren σ) u:=by
  intro c u hc hr;cases hr with
  |a x v hr=>
   simp only[WV.scalar] at hc;cases hr with
   |fz x v hr=>exact .a _ _<|.fz _ _<|fc hc hr
   |ep o n i j b hb=>rw[hβ] at hb;cases hb
   |osl o n off len b q cap sz t hb=>rw[hβ] at hb;cases hb
   |oslN o n off=>exact .a _ _<|.oslN _ n off
   |mp o b hb=>rw[hβ] at hb;cases hb
   |any v hv=>exact .a _ _<|.any _ hv
   |bld t o b v hb=>rw[hβ] at hb;cases hb
   |osb o e len b cap hb=>rw[hβ] at hb;cases hb
  |fn=>simp[WV.scalar] at hc
 cases x with
 |any=>trivial
 |c x=>exact hW x v hs h
 |agg cs=>
  simp only[TV.scalar,rP] at hs;obtain⟨us,h1,h2⟩:=h;exact⟨us,h1,h2.map λc u hc h=>hW c u (hs c hc) h⟩
 |tup vs=>
  simp only[TV.scalar,rP] at hs;obtain⟨us,h1,h2⟩:=h;exact⟨us,h1,h2.map λc u hc h=>h.map λd z hd h=>hW d z (hs c hc d hd) h⟩
theorem qk:∀ {l:List Nat} {i j x:Nat},l.Nodup->l[i]?=some x->l[j]?=some x->i=j
 |[],i,j,x,_,h,_=>zd
 |y::l,0,0,x,_,_,_=>rfl
 |y::l,0,j+1,x,hn,h1,h2=>zd
 |y::l,i+1,0,x,hn,h1,h2=>zd
 |y::l,i+1,j+1,x,hn,h1,h2=>by
  simp at h1 h2;rw[qk (rY.1 hn).2 h1 h2]
theorem Y4 {x:AObj}{σ:Nat->Nat}:bareO (x.ren σ)↔bareO x:=by
 cases x with
 |gone=>exact Iff.rfl
 |mapo es=>simp[bareO,flat,AObj.ren]
 |mapz es=>exact Iff.rfl
 |arz n fs=>exact Iff.rfl
 |arr n es=>simp[bareO,flat,AObj.ren]
theorem Zq {F:List Nat}:∀(u:AHeap) (o:Nat),ya (u.filter λp=> !F.contains p.1) o=if F.contains o=true then none else ya u o
 |[],o=>by simp[ya]
 |(k,x)::u,o=>by
  have ih:=Zq (F:=F) u o;rw[List.filter_cons];by_cases hk:F.contains k=true
  .rw[oV zd,ih];by_cases ho:F.contains o=true
   .grind
   .rw[oV ho,oV ho];have:k≠o:=λe=>ho zd;simp[ya,this]
  .rw[oX zd];simp only[ya,ih]
   grind
theorem kept_nil (u:AHeap):(u.filter λp=> !([]:List Nat).contains p.1)=u:=hJ.2 λ_ _=>rfl
theorem oE {F:List Nat}{u:AHeap}{h:Nat->AObj}(hF:∀i∈F,ya u i=some (h i)):over (u.filter λp=> !F.contains p.1) h=over u h:=by
 funext o
 unfold over;rw[Zq]
 grind
theorem iG (hO:Objs h β Y w) (hgl:Gl P w<|Own h β) (hY:∀b,Y b->b<w.heap.size) {fr:Nat} (hfr:∀j,j<32->β (fr+j)=none) {f:FuncId} {args:List TV} {vals:List Value} {K:TV->AHeap->List Nat->Prop}
  (hl:LRep (TRep w (XO Y h β) β) args vals) (hK:CallK P f args h fr K):
  xq P f=true/\∃r upd rd,K r upd rd/\Calls P f vals.toArray w λe w'=> ∃v β',e=.returned v/\Moves h (over upd h) β β' Y w w' (λo=>fr<=o/\o<fr+32)/\TRep w' (XO Y (over upd h) β') β' r v:=by
 obtain⟨ids,L,args',Hs,r,Hs',⟨hent,hlen,hac⟩,⟨hnd,hids⟩,hroom,⟨hHs,hHlt⟩,hargs,halt,hlive,hLcase,F,hF,hKK⟩:=hK;refine⟨hent,r.ren<|sub ids fr,_,ids++L.map Prod.fst,hKK,?_⟩;rw[oE (u:=yD (sub ids fr) ids Hs'++xG (sub ids fr) fr (Hs'.drop ids.length)) λi hi=>by rw[ko,hF i hi]];clear hKK hF F;have hml:Hs.length=ids.length:=by have:=t8 List.length hHs;exact zo this
 let βc:Nat->Option Nat:=λo=>if o<ids.length then β (ids.getD o 0) else none
 let hc:Nat->AObj:=λo=>Hs.getD o .gone
 let Yc:Nat->Prop:=λb=>XO Y h β b/\¬Own hc βc b/\¬∃p∈L,β p.1=some b
 have hlt_nd:∀i∈ids,∀j,i≠fr+j\/32<=j:=by
  grind
 have hget:∀k,k<ids.length->ids[k]?=some (ids.getD k 0):=λk hk=>by simp[List.getD,rf hk]
 have hmemget:∀k,k<ids.length->ids.getD k 0∈ids:=λk hk=>rV<|hget k hk
 have hHs_get:∀k,k<ids.length->(hc k).ren (sub ids fr)=h (ids.getD k 0)/\(hc k).lt ids.length=true:=by
  intro k hk;have e1:=t8 (λl=>l[k]?) hHs
  grind
 have hc_live:∀o,isLive (hc o)->o<ids.length:=by
  intro o ho;by_cases hk:o<Hs.length
  .omega
  .have:hc o=.gone:=by simp[hc,List.getD,ss<|Nat.le_of_not_lt hk]
   rw[this] at ho;exact ho.elim
 have ren_live:∀(x:AObj) (σ:Nat->Nat),isLive (x.ren σ)↔isLive x:=by
  intro x σ;cases x<;>simp[AObj.ren,isLive]
 have hβc:∀o b,βc o=some b->o<ids.length/\β (ids.getD o 0)=some b:=by
  grind
 have hownc:∀b,Own hc βc b->Own h β b:=by
  rintro b ⟨o,ho1,ho2⟩;obtain⟨k1,k2⟩:=hβc o b ho2;exact⟨_,hlive _<|hmemget o k1,k2⟩
 have hX:∀b,¬XO Y h β b->¬XO Yc hc βc b:=by
  grind
 have hLc:∀p∈L,∀b,β p.1=some b->¬XO Yc hc βc b:=by
  intro p hp b hb hb';rcases hb' with hb' |⟨o,ho1,ho2⟩
  .grind
  .grind
 have hYin:∀b,Y b->Yc b:=by
  intro b hb;refine⟨.inl hb,λhown=>?_,λ⟨p,hp,hpb⟩=>?_⟩
  .obtain⟨o,ho1,ho2⟩:=hownc b hown;exact(hO.here ho1 ho2).2 hb
  .rcases hLcase with hnil|⟨hok,hni,_⟩
   .grind
   .exact(hO.here (by rw[<-w4,hok p hp];trivial) hpb).2 hb
 have hYc_lt:∀b,Yc b->b<w.heap.size:=by
  intro b hb;rcases hb.1 with h1|⟨o,_,h2⟩
  .grind
  .exact hO.lt o b h2
 have hF:∀x v,FRep w (XO Y h β) x v->FRep w (XO Yc hc βc) x v:=λx v hr=>hr.mono (r6 _) λb hb _=>⟨rfl,hX b hb⟩;have hsub:∀o,o<ids.length->sub ids fr o=ids.getD o 0:=λo ho=>by simp[sub,ho]
 have hβun:∀o b,o<ids.length->β (sub ids fr o)=some b->βc o=some b:=by
  intro o b ho hb;rw[hsub o ho] at hb;simp only[βc,ho,rG,hb]
 have hOc:Objs hc βc Yc w:=by
  refine⟨λo b ho hb=>?_,λo ho=>?_,λo o' b ho ho' hb hb'=>?_,λo b hb=>hO.lt _ b (hβc o b hb).2⟩
  .have hk:=hc_live o ho;obtain⟨e1,e2⟩:=hHs_get o hk;have hrep:=hO.rep (ids.getD o 0) b (hlive _<|hmemget o hk) (hβc o b hb).2;rw[<-e1] at hrep;exact ORep.unmap (σ:=sub ids fr) hF hβun e2 hrep
  .have hk:=hc_live o ho;rcases hO.has _ (hlive _<|hmemget o hk) with⟨b,h1,h2,h3⟩|⟨h1,h2⟩
   .refine .inl ⟨b,by simp only[βc,hk,rG,h1],h2,λhy=>?_⟩;exact hy.2.1 ⟨o,ho,by simp only[βc,hk,rG,h1]⟩
   .refine .inr ⟨?_,by simp only[βc,hk,rG,h2]⟩;rw[<-(hHs_get o hk).1] at h1;exact Y4.1 h1
  .have h1:=hβc o b hb;have h2:=hβc o' b hb';have h3:=hO.inj _ _ b (hlive _<|hmemget o h1.1) (hlive _<|hmemget o' h2.1) h1.2 h2.2;have g1:=hget o h1.1;have g2:=hget o' h2.1;rw[h3] at g1;exact qk hnd g1 g2
 have hlc:LRep (TRep w (XO Yc hc βc) βc) args' vals:=by
  have h1:LRep (TRep w (XO Yc hc βc) β) (args.map<|TV.lend L) vals:=by
   rcases hLcase with hnil|⟨hok,_⟩
   .subst hnil;exact hl.map λc u _ hr=>kg hO (λp hp=>by cases hp) hX (λp hp=>by cases hp) hr
   .exact hl.map λc u _ hr=>kg hO hok hX hLc hr
  have h2:=J0 hargs h1;refine h2.unmap λc u hcm hr=>?_;exact TRep.unmap (σ:=sub ids fr) (λ_ _ h=>h) hβun (rP.1 halt c hcm) hr
 have hcall:=hac w vals βc Yc (λo b hb=>by have:=(hβc o b hb).1;omega) hYc_lt (hgl.sub hownc) hOc hlc;refine hcall.mono λe w' hpost=>?_;obtain⟨v,βc',he,hgood,hO',hres,hdom,hsame,hnew⟩:=hpost
 let hc':Nat->AObj:=λo=>Hs'.getD o .gone
 let upds:=yD (sub ids fr) ids Hs'++xG (sub ids fr) fr (Hs'.drop ids.length)
 let β':Nat->Option Nat:=λo=>if fr<=o/\o<fr+32 then βc' (ids.length+(o-fr)) else β o
 refine⟨v,β',he,?_⟩
 have hβ'old:∀k,k<ids.length->β' (ids.getD k 0)=βc' k:=by
  intro k hk
  have h1:¬(fr<=ids.getD k 0/\ids.getD k 0<fr+32):=by
   rintro ⟨g1,g2⟩;rcases hlt_nd _ (hmemget k hk) (ids.getD k 0-fr) with h|h<;>omega
  simp only[β',h1,rN];rw[hsame k za];simp only[βc,hk,rG]
 have hβ'new:∀j,j<32->β' (fr+j)=βc' (ids.length+j):=by
  intro j hj;simp only[β',show fr<=fr+j/\fr+j<fr+32 from⟨za,za⟩,and_self,rG,(za:fr+j-fr=j)]
 have hβmap:∀o b,βc' o=some b->β' (sub ids fr o)=some b:=by
  intro o b hb;have ho:=hdom o b hb;by_cases hk:o<ids.length
  .rw[hsub o hk,hβ'old o hk,hb]
  .have:sub ids fr o=fr+(o-ids.length):=by simp[sub,hk]
   rw[this,hβ'new _ za,(za:ids.length+(o-ids.length)=o),hb]
 have hval:∀o,(∃k,k<ids.length/\o=ids.getD k 0/\over upds h o=(hc' k).ren (sub ids fr))\/(∃j,o=fr+j/\ids.length+j<Hs'.length/\over upds h o=(hc'<|ids.length+j).ren (sub ids fr))\/
   (o ∉ ids/\(∀j,o=fr+j->Hs'.length<=ids.length+j)/\over upds h o=h o):=by
  intro o;simp only[over,upds,ko];cases h1:ya (yD (sub ids fr) ids Hs') o with
  |some x=>
   obtain⟨k,y,g1,g2,g3⟩:=Yd hnd h1;have hk:=(rr.1 g1).1;refine .inl ⟨k,hk,?_,?_⟩
   .have:=hget k hk;rw[g1] at this;exact zo this
   .simp only[g3];have:hc' k=y:=by simp[hc',List.getD,g2]
    rw[this]
  |none=>
   have hno:=j9 (by omega:ids.length<=Hs'.length) h1;simp only;cases h2:ya (xG (sub ids fr) fr<|Hs'.drop ids.length) o with
   |some x=>
    obtain⟨j,y,g1,g2,g3⟩:=gp h2;rw[sK] at g2;refine .inr<|.inl ⟨j,g1,(rr.1 g2).1,?_⟩
    simp only[g3];have:hc' (ids.length+j)=y:=by simp[hc',List.getD,g2]
    rw[this]
   |none=>
    refine .inr<|.inr ⟨hno,λj ej=>?_,rfl⟩
    have:=kY h2 ej;rw[List.length_drop] at this;omega
 have hclive':∀k,isLive (hc' k)->k<Hs'.length:=by
  intro k hk;by_cases h1:k<Hs'.length
  .exact h1
  .have:hc' k=.gone:=by simp[hc',List.getD,ss<|Nat.le_of_not_lt h1]
   rw[this] at hk;exact hk.elim
 have hwho:∀o,isLive (over upds h o)->(∃k,isLive (hc' k)/\o=sub ids fr k/\over upds h o=(hc' k).ren (sub ids fr)/\k<Hs'.length/\β' o=βc' k)\/(o ∉ ids/\isLive (h o)/\over upds h o=h o/\β' o=β o):=by
  intro o ho;rcases hval o with⟨k,hk,e1,e2⟩|⟨j,e1,hj,e2⟩|⟨hni,hnj,e2⟩
  .rw[e2,ren_live] at ho;exact .inl ⟨k,ho,by rw[hsub k hk];exact e1,e2,hclive' k ho,by rw[e1,hβ'old k hk]⟩
  .rw[e2,ren_live] at ho;refine .inl ⟨ids.length+j,ho,?_,e2,hj,?_⟩
   .have:¬(ids.length+j<ids.length):=za
    simp[sub,this,e1]
   .rw[e1,hβ'new j za]
  .rw[e2] at ho;refine .inr ⟨hni,ho,e2,?_⟩;by_cases h1:fr<=o/\o<fr+32
   .have h2:=hfr (o-fr) za;rw[(za:fr+(o-fr)=o)] at h2;simp only[β',h1,and_self,rG,h2];cases h3:βc' (ids.length+(o-fr)) with
    |none=>rfl
    |some b=>
     have:=hdom _ b h3;have:=hnj (o-fr) za;omega
   .simp only[β',h1,rN]
 have hsubinj:∀a b,a<Hs'.length->b<Hs'.length->βc' a≠none->sub ids fr a=sub ids fr b->a=b:=by
  intro a b ha hb _ hab;by_cases h1:a<ids.length
  .by_cases h2:b<ids.length
   .rw[hsub a h1,hsub b h2] at hab;have g1:=hget a h1;have g2:=hget b h2;rw[hab] at g1;exact qk hnd g1 g2
   .rw[hsub a h1] at hab;have:sub ids fr b=fr+(b-ids.length):=by simp[sub,h2]
    rw[this] at hab;rcases hlt_nd _ (hmemget a h1) (b-ids.length) with h|h
    .exact absurd hab h
    .omega
  .have ea:sub ids fr a=fr+(a-ids.length):=by simp[sub,h1]
   by_cases h2:b<ids.length
   .rw[hsub b h2,ea] at hab;rcases hlt_nd _ (hmemget b h2) (a-ids.length) with h|h
    .exact absurd hab.symm h
    .omega
   .have eb:sub ids fr b=fr+(b-ids.length):=by simp[sub,h2]
    rw[ea,eb] at hab;omega
 have hback:∀b,b<w.heap.size->Own (over upds h) β' b->XO Y h β b:=by
  rintro b hb ⟨o,ho1,ho2⟩;rcases hwho o ho1 with⟨k,g1,g2,g3,g4,g5⟩|⟨g1,g2,g3,g4⟩
  .rw[g5] at ho2;by_cases hk:k<ids.length
   .rw[hsame k za] at ho2;obtain⟨_,k2⟩:=hβc k b ho2;exact .inr ⟨_,hlive _<|hmemget k hk,k2⟩
   .rcases hnew k b za ho2 with h1|h1
    .omega
    .exact .inr<|hownc b h1
  .rw[g4] at ho2;exact .inr ⟨o,g2,ho2⟩
 have hbmono:∀o b,β o=some b->β' o=some b:=by
  intro o b hb
  have h1:¬(fr<=o/\o<fr+32):=by
   rintro ⟨g1,g2⟩;have:=hfr (o-fr) za;rw[(za:fr+(o-fr)=o),hb] at this;cases this
  simp only[β',h1,rN,hb]
 have hblk:∀b,¬XO Y h β b->b<w.heap.size->w'.heap[b]?=w.heap[b]? :=λb hx hb=>hgood.blk b hb λho=>hx<|.inr<|hownc b ho
 have hgo:Goes w w' (XO Y h β) (XO Y (over upds h) β') β β':=by
  refine⟨hgood.size,λb hx hb=>⟨hblk b hx hb,λhx'=>?_⟩,hgood.shp,λo b hb=>⟨hbmono o b hb,hO.lt o b hb⟩⟩;rcases hx' with hy|hown
  .exact hx<|.inl hy
  .exact hx<|hback b hb hown
 have hFback:L=[]->∀x v,FRep w' (XO Yc hc' βc') x v->FRep w' (XO Y (over upds h) β') x v:=by
  intro hnil x v hr;refine hr.mono (r6 _) λb hb _=>⟨rfl,λhx'=>hb ?_⟩;rcases hx' with hy|⟨o,ho1,ho2⟩
  .exact .inl<|hYin b hy
  .rcases hwho o ho1 with⟨k,g1,g2,g3,g4,g5⟩|⟨g1,g2,g3,g4⟩
   .rw[g5] at ho2;exact .inr ⟨k,g1,ho2⟩
   .rw[g4] at ho2;refine .inl ⟨.inr ⟨o,g2,ho2⟩,?_,?_⟩
    .rintro ⟨k,k1,k2⟩;obtain⟨m1,m2⟩:=hβc k b k2;have:=hO.inj o _ b g2 (hlive _<|hmemget k m1) ho2 m2;exact g1 (this▸hmemget k m1)
    .rintro ⟨p,hp,_⟩;rw[hnil] at hp;cases hp
 have hnoHs:L≠[]->Hs'=[]:=λhne=>(hLcase.resolve_left hne).2.2.2;refine⟨⟨⟨hgood.size,λb hb hno=>hgood.blk b hb λho=>hno<|hownc b ho,hgood.shp,hgood.os,hgood.tape,hgood.output⟩,?_,hbmono,λo b hb=>?_,λo ho=>?_⟩,?_⟩
 .refine⟨λo b ho hb=>?_,λo ho=>?_,λo o' b ho ho' hb hb'=>?_,λo b hb=>?_⟩
  .rcases hwho o ho with⟨k,g1,g2,g3,g4,g5⟩|⟨g1,g2,g3,g4⟩
   .have hnil:L=[]:=by
     rcases hLcase with h|h
     .exact h
     .rw[h.2.2.2] at g4;simp at g4
    rw[g5] at hb;show ORep w' (XO Y (over upds h) β') β' (over upds h o) b;rw[g3];exact ORep.map (hFback hnil) hβmap<|hO'.rep k b g1 hb
   .rw[g4] at hb;show ORep w' (XO Y (over upds h) β') β' (over upds h o) b;rw[g3];refine(hO.rep o b g2 hb).goes hgo<|hgood.blk b (hO.lt o b hb) ?_
    rintro ⟨k,k1,k2⟩;obtain⟨m1,m2⟩:=hβc k b k2;have:=hO.inj o _ b g2 (hlive _<|hmemget k m1) hb m2;exact g1 (this▸hmemget k m1)
  .rcases hwho o ho with⟨k,g1,g2,g3,g4,g5⟩|⟨g1,g2,g3,g4⟩
   .rcases hO'.has k g1 with⟨b,h1,h2,h3⟩|⟨h1,h2⟩
    .exact .inl ⟨b,by rw[g5];exact h1,h2,λhy=>h3<|hYin b hy⟩
    .exact .inr ⟨by show bareO (over upds h o);rw[g3];exact Y4.2 h1,by rw[g5];exact h2⟩
   .rcases hO.has o g2 with⟨b,h1,h2,h3⟩|⟨h1,h2⟩
    .exact .inl ⟨b,by rw[g4];exact h1,sA h2 hgood.size,h3⟩
    .exact .inr ⟨by show bareO (over upds h o);rw[g3];exact h1,by rw[g4];exact h2⟩
  .rcases hwho o ho with⟨k,g1,g2,g3,g4,g5⟩|⟨g1,g2,g3,g4⟩
   .rcases hwho o' ho' with⟨k',g1',g2',g3',g4',g5'⟩|⟨g1',g2',g3',g4'⟩
    .rw[g5] at hb;rw[g5'] at hb';rw[g2,g2',hO'.inj k k' b g1 g1' hb hb']
    .exfalso;rw[g5] at hb;rw[g4'] at hb'
     have hnil:L=[]:=by
      rcases hLcase with h|h
      .exact h
      .rw[h.2.2.2] at g4;simp at g4
     have h3:=(hO'.here g1 hb).2;apply h3;refine⟨.inr ⟨o',g2',hb'⟩,?_,?_⟩
     .rintro ⟨k2,k1',k2'⟩;obtain⟨m1,m2⟩:=hβc k2 b k2';have:=hO.inj o' _ b g2' (hlive _<|hmemget k2 m1) hb' m2;exact g1' (this▸hmemget k2 m1)
     .rintro ⟨p,hp,_⟩;rw[hnil] at hp;cases hp
   .rcases hwho o' ho' with⟨k',g1',g2',g3',g4',g5'⟩|⟨g1',g2',g3',g4'⟩
    .exfalso;rw[g5'] at hb';rw[g4] at hb
     have hnil:L=[]:=by
      rcases hLcase with h|h
      .exact h
      .rw[h.2.2.2] at g4';simp at g4'
     have h3:=(hO'.here g1' hb').2;apply h3;refine⟨.inr ⟨o,g2,hb⟩,?_,?_⟩
     .rintro ⟨k2,k1',k2'⟩;obtain⟨m1,m2⟩:=hβc k2 b k2';have:=hO.inj o _ b g2 (hlive _<|hmemget k2 m1) hb m2;exact g1 (this▸hmemget k2 m1)
     .rintro ⟨p,hp,_⟩;rw[hnil] at hp;cases hp
    .rw[g4] at hb;rw[g4'] at hb';exact hO.inj o o' b g2 g2' hb hb'
  .simp only[β'] at hb;split at hb
   .exact hO'.lt _ b hb
   .exact sA (hO.lt o b hb) hgood.size
 .simp only[β'] at hb;split at hb
  .rename_i hin;rcases hnew _ b za hb with h1|h1
   .exact .inr ⟨hin,.inl h1⟩
   .exact .inr ⟨hin,.inr<|hownc b h1⟩
  .exact .inl hb
 .rcases hwho o ho with⟨k,g1,g2,g3,g4,g5⟩|⟨g1,g2,g3,g4⟩
  .by_cases hk:k<ids.length
   .rw[g2,hsub k hk];exact .inl<|hlive _<|hmemget k hk
   .have:sub ids fr k=fr+(k-ids.length):=by simp[sub,hk]
    rw[g2,this];exact .inr ⟨za,za⟩
  .exact .inl g2
 .rcases hLcase with hnil|⟨_,_,hsc,hHs'⟩
  .exact TRep.map (hFback hnil) hβmap hres
  .refine fF hsc (λo=>?_) hres;cases hb:βc' o with
   |none=>rfl
   |some b=>have:=hdom o b hb;rw[hHs'] at this;simp at this
end
section
variable {P:Program} {h:Nat->AObj} {β:Nat->Option Nat} {Y:Nat->Prop} {w:World}
theorem vh (x:AObj):flat (flat x)=flat x:=by cases x<;>rfl
theorem gv {X:Nat->Prop}{x y:AObj}{b:Nat}(hxy:flat x=flat y):ORep w X β x b↔ORep w X β y b:=by unfold ORep;rw[hxy]
theorem wI {x y:AObj}(hxy:flat x=flat y):isLive x↔isLive y:=by rw[<-w4 x,hxy,w4]
theorem ZG {h':Nat->AObj}(hf:∀o,flat (h' o)=flat (h o)):Own h' β=Own h β:=by
 funext b
 apply propext;constructor
 .rintro ⟨o,h1,h2⟩;exact⟨o,(wI<|hf o).1 h1,h2⟩
 .rintro ⟨o,h1,h2⟩;exact⟨o,(wI<|hf o).2 h1,h2⟩
theorem Yb {h':Nat->AObj}(hf:∀o,flat (h' o)=flat (h o)):XO Y h' β=XO Y h β:=by unfold XO;rw[ZG hf]
theorem jr {h':Nat->AObj}(hf:∀o,flat (h' o)=flat (h o))(hO:Objs h β Y w):Objs h' β Y w:=by
 refine⟨λo b hl hb=>?_,λo hl=>(hO.has o<|(wI<|hf o).1 hl).imp id λ⟨⟨n,h1⟩,h2⟩=>⟨⟨n,zd⟩,h2⟩,λo o' b hl hl'=>hO.inj o o' b ((wI<|hf o).1 hl)<|(wI<|hf o').1 hl',hO.lt⟩;have:=hO.rep o b ((wI<|hf o).1 hl) hb;rw[ZG hf];exact(gv<|hf o).2 this
theorem XM {h1 h1' h':Nat->AObj}{β':Nat->Option Nat}{w':World}{fr:Nat->Prop}(hf1:∀o,flat (h1 o)=flat (h o))(hf:∀o,flat (h1' o)=flat (h' o))(m:Moves h1 h1' β β' Y w w' fr):Moves h h' β β' Y w w' fr:=by
 refine⟨?_,jr (λo=>(hf o).symm) m.objs,m.bmono,?_,λo hl=>(m.lmono o<|(wI<|hf o).2 hl).imp (λx=>(wI<|hf1 o).1 x) id⟩
 .have:=m.good;rw[ZG hf1] at this;exact this
 .intro o b hb;have:=m.bnew o b hb
  rwa [ZG hf1] at this
theorem vi {fr:Nat}{r r0:AR}{s:Sem Next}(hv:r.val=r0.val)(hu:∀o,flat (over r.upd h o)=flat (over r0.upd (λo=>flat<|h o) o))(hd:Does P (λo=>flat<|h o) β Y w fr r0 s):Does P h β Y w fr r s:=by
 obtain⟨n,v,w',β',h1,h2,h3,h4⟩:=hd;refine⟨n,v,w',β',h1,h2,XM (λo=>vh _) (λo=>(hu o).symm) h3,?_⟩;rw[hv,Yb hu];exact h4
theorem W5:∀ {es:List (List WV)} {fs:List (List FV)},iU es=some fs->es=fs.map fzs
 |[],fs,h=>by simp only[iU,r8] at h;subst h;rfl
 |e::r,fs,h=>by
  simp only[iU] at h;split at h
  .rename_i x l hx hl;injection h with h;subst h
   rw[ke hx,W5 hl];rfl
  .cases h
theorem yJ (u:AHeap)(o:Nat):flat (over u (λo=>flat<|h o) o)=flat (over u h o):=by
 unfold over;split
 .rfl
 .exact vh _
theorem yN {k:Nat}{x y:AObj}{u u':AHeap}(hxy:flat x=flat y)(o:Nat)(hu:flat (over u h o)=flat (over u' (λo=>flat<|h o) o)):flat (over ((k,x)::u) h o)=flat (over ((k,y)::u') (λo=>flat<|h o) o):=by
 simp only[over,ya] at hu ⊢
 grind
theorem fq {d:TyD}{x y:TV}{r:AR}(hs:uD d h x y=some r):∃r0,vY d (λo=>flat<|h o) x y=some r0/\r.val=r0.val/\∀o,flat (over r.upd h o)=flat (over r0.upd (λo=>flat<|h o) o):=by
 unfold uD at hs;split at hs
 .rename_i cs o n i j hcs;split at hs
  .rename_i m fs ho;split at hs
   .rename_i fcs hfcs;split at hs
    .rename_i hc;obtain⟨hm,hsz⟩:=hc;subst hm;split at hs
     .rename_i e he;split at hs<;>simp only[r8,reduceCtorEq] at hs
      subst hs;have hcz:=ke hfcs;have hl:(fzs fcs).length=fcs.length:=by simp[fzs]
      have hl2:(fzs e).length=e.length:=by simp[fzs]
      refine⟨⟨.any,[(o,.arr m<|(fs.map fzs).set i<|splice (fzs e) j<|fzs fcs)],[o]⟩,?_,rfl,λk=>yN ?_ k (yJ [] k).symm⟩
      .unfold vY;simp only[hcs,ho,flat,hl,hsz,and_self,rG,rq,he,ry,hl2]
       grind
      .simp only[flat,List.map_set];simp[YG,splice,fzs]
     .cases hs
    .cases hs
   .cases hs
  .rename_i hno
   have hcong:vY d (λo=>flat<|h o) (.c<|.a<|.ep o n i j) y=vY d h (.c<|.a<|.ep o n i j) y:=by
    unfold vY;rw[hcs];dsimp only;cases hh:h o with
    |arz m fs=>exact absurd hh<|hno m fs
    |_=>rfl
   refine⟨r,?_,rfl,λk=>(yJ r.upd k).symm⟩
   grind
 .cases hs
theorem fW {n:Nat}{x:TV}{new:List (List FV)}{rd:List Nat}(he:uM n h x=some (new,rd)):w5 n (λo=>flat<|h o) x=some (new.map fzs,rd):=by
 unfold uM at he;split at he
 .simp only[r8,rX] at he;obtain⟨rfl,rfl⟩:=he;rfl
 .split at he
  next hm=>obtain⟨rfl,rfl⟩:=he;simp[w5,hm]
  .cases he
 .simp only[r8,rX] at he;obtain⟨rfl,rfl⟩:=he;rfl
 .split at he
  .rename_i m' es ho;split at he
   next hc=>obtain⟨rfl,rfl⟩:=he;simp[w5,ho,flat,hc,List.map_take,List.map_drop]
   .cases he
  .cases he
 .cases he
theorem Kz {d:TyD}{fr:Nat}{s x:TV}{r:AR}(ha:wg d fr h s x=some r):∃r0,xm d fr (λo=>flat<|h o) s x=some r0/\r.val=r0.val/\∀o,flat (over r.upd h o)=flat (over r0.upd (λo=>flat<|h o) o):=by
 unfold wg at ha;split at ha
 .rename_i new rd hel;have hel':=fW hel;split at ha
  .split at ha
   .rename_i hn;injection ha with ha;subst ha;subst hn
    refine⟨⟨.c<|.a<|.fz .N,[],rd⟩,by unfold xm;rw[hel'];simp,rfl,λo=>(yJ [] o).symm⟩
   .rename_i hn;split at ha
    .rename_i hroom;injection ha with ha;subst ha
     refine⟨⟨.c<|.a<|.osl fr d.size 0 new.length,[(fr,.arr d.size<|new.map fzs)],rd⟩,?_,rfl,λo=>yN (by rfl) o (yJ [] o).symm⟩;unfold xm;simp_all
    .cases ha
  .split at ha
   .rename_i hn;injection ha with ha;subst ha;subst hn
    refine⟨⟨_,[],rd⟩,by unfold xm;rw[hel'];simp,rfl,λo=>(yJ [] o).symm⟩
   .rename_i hn;split at ha
    .rename_i hroom;injection ha with ha;subst ha
     refine⟨⟨.c<|.a<|.osl fr d.size 0 new.length,[(fr,.arr d.size<|new.map fzs)],rd⟩,?_,rfl,λo=>yN (by rfl) o (yJ [] o).symm⟩;unfold xm;simp_all
    .cases ha
  .rename_i o n off len;split at ha
   .rename_i m fs ho;split at ha
    .rename_i hc;injection ha with ha;subst ha
     refine⟨⟨.c<|.a<|.osl fr d.size 0<|len+new.length,[(o,.gone),(fr,.arr d.size<|(fs.map fzs).take len++new.map fzs)],o::rd⟩,?_,rfl,λk=>yN (by rfl) k<|yN ?_ k (yJ [] k).symm⟩
     .unfold xm;rw[hel'];simp only[ho,flat,sM]
      grind
     .simp[flat,List.map_take]
    .cases ha
   .exact⟨r,ha,rfl,λk=>(yJ r.upd k).symm⟩
  .cases ha
 .exact⟨r,ha,rfl,λk=>(yJ r.upd k).symm⟩
theorem wW (hO:Objs h β Y w):∀(G:AHeap),(∀p∈G,p.2=.gone)->Moves h (over G h) β β Y w w (λ_=>False)
 |[],_=>Moves.refl hO λ_=>rfl
 |(o,x)::G,hG=>by
  have hx:x=.gone:=hG (o,x) zb;have m1:=wW hO G λp hp=>hG p<|r9 _ hp
  have m2:=qM m1.objs o;have m:=m1.trans m2 (λ_ h=>h.elim) hO (f:=λ_=>False) (λ_ h=>h.elim) λ_ h=>h.elim
  have:over ((o,.gone)::G) h=upd (over G h) o .gone:=by
   funext k
   simp only[over,ya,upd]
   grind
  grind
theorem K5:∀ {G:AHeap} {o:Nat},(∀p∈G,p.2=.gone)->(o,AObj.gone)∈G->over G h o=.gone:=by
 intro G o hG hm;simp only[over];cases hf:ya G o with
 |some x=>exact hG _<|uO hf
 |none=>
  exfalso
  induction G with
  |nil=>cases hm
  |cons p G ih=>
   obtain⟨k,y⟩:=p;simp only[ya] at hf
   grind
theorem XD (x:WV):∀p∈(qm h x).2,p.2=AObj.gone:=by
 intro p hp;unfold qm at hp
 grind
theorem YR:∀(l:List WV),∀p∈(vd h l).2,p.2=AObj.gone
 |[],p,hp=>by cases hp
 |x::r,p,hp=>by
  simp only[vd,rQ] at hp;rcases hp with hp|hp
  .exact XD x p hp
  .exact YR r p hp
theorem pj (x:TV):∀p∈(Zy h x).2,p.2=AObj.gone:=by
 intro p hp;cases x with
 |c x=>exact XD x p hp
 |agg cs=>exact YR cs p hp
 |any=>cases hp
 |tup _=>cases hp
theorem qO:∀(l:List<|Nat×TV),∀p∈(vo h l).2,p.2=AObj.gone
 |[],p,hp=>by cases hp
 |(i,x)::r,p,hp=>by
  simp only[vo,rQ] at hp;rcases hp with hp|hp
  .exact pj x p hp
  .exact qO r p hp
theorem nO (hO:Objs h β Y w){G:AHeap}(hG:∀p∈G,p.2=AObj.gone){x:TV}(hsub:∀p∈(Zy h x).2,p∈G){v:Value}(hx:TRep w (XO Y h β) β x v):TRep w (XO Y (over G h) β) β (Zy h x).1 v:=by
 have m:=wW hO G hG;have hgoes:=m.goes hO λ_ h=>h.elim
 have hZ:∀b,¬XO Y h β b->¬XO Y (over G h) β b:=by
  intro b hb hb';rcases hb' with hb' |⟨o,h1,h2⟩
  .grind
  .rcases m.lmono o h1 with h3|h3
   .exact hb<|.inr ⟨o,h3,h2⟩
   .exact h3
 have hW:∀c u,(∀p∈(qm h c).2,p∈G)->WRep w (XO Y h β) β c u->WRep w (XO Y (over G h) β) β (qm h c).1 u:=by
  intro c u hs hr;unfold qm at hs ⊢;split
  .rename_i o n off len;split
   .rename_i m' fs ho;simp only[ho] at hs;by_cases hc:n=m'/\off+len<=fs.length
    .rw[oX hc] at hs ⊢;cases hr with
     |a _ _ hr=>
      refine .a _ _<|.fz _ _<|dB hO hZ (by rw[ho];rfl) hc.1 hc.2 (λb hb hb'=>?_) hr
      rcases hb' with hy|⟨o',h1,h2⟩
      .exact(hO.here (by rw[ho];trivial) hb).2 hy
      .have hl:=(m.lmono o' h1).resolve_right id;have:o'=o:=hO.inj o' o b hl (by rw[ho];trivial) h2 hb;subst this;rw[K5 hG<|hs (o',.gone) zb] at h1;exact h1
    .rw[oV hc];exact hr.goes hgoes
   .exact hr.goes hgoes
  .exact hr.goes hgoes
 have hWs:∀(l:List WV) (us:List Value),(∀p∈(vd h l).2,p∈G)->LRep (WRep w (XO Y h β) β) l us->LRep (WRep w (XO Y (over G h) β) β) (vd h l).1 us:=by
  intro l
  induction l with
  |nil=>intro us _ hl;rw[hl.nil_inv];exact .nil
  |cons c l ih=>
   intro us hs hl;obtain⟨u,us',rfl,h1,h2⟩:=hl.cons_inv;exact .cons (hW c u (λp hp=>hs p<|by simp[vd,hp]) h1)<|ih us' (λp hp=>hs p<|by simp[vd,hp]) h2
 cases x with
 |any=>trivial
 |c x=>exact hW x v hsub hx
 |agg cs=>obtain⟨us,h1,h2⟩:=hx;exact⟨us,h1,hWs cs us hsub h2⟩
 |tup vs=>exact TRep.goes (f:=.tup vs) hx hgoes
theorem Xa (hO:Objs h β Y w){G:AHeap}(hG:∀p∈G,p.2=AObj.gone):∀(l:List<|Nat×TV) (vals:List<|Nat×Value),(∀p∈(vo h l).2,p∈G)->
  (∀(j:Nat) (p:Nat×TV) (v:Nat×Value),l[j]?=some p->vals[j]?=some v->p.1=v.1/\TRep w (XO Y h β) β p.2 v.2)->
  (vo h l).1.length=l.length/\∀(j:Nat) (p:Nat×TV) (v:Nat×Value),(vo h l).1[j]?=some p->vals[j]?=some v->p.1=v.1/\TRep w (XO Y (over G h) β) β p.2 v.2
 |[],vals,_,_=>⟨rfl,λj p v hp _=>by simp[vo] at hp⟩
 |(i,x)::l,vals,hs,hr=>by
  obtain⟨h1,h2⟩:=Xa hO hG l (vals.drop 1) (λp hp=>hs p<|by simp[vo,hp]) (λj p v hp hv=>hr (j+1) p v zd zd);refine⟨by simp[vo,h1],λj p v hp hv=>?_⟩;cases j with
  |zero=>
   simp only[vo,se,r8] at hp;subst hp;obtain⟨g1,g2⟩:=hr 0 _ v rfl hv;exact⟨g1,nO hO hG (λp hp=>hs p<|by simp[vo,hp]) g2⟩
  |succ j=>
   simp only[vo,sR] at hp
   grind
theorem XK {fr:Nat}{G:AHeap}{r:AR}{s:Sem Next}{rd:List Nat}(hO:Objs h β Y w)(hG:∀p∈G,p.2=AObj.gone)(hd:Does P (over G h) β Y w fr r s)(u:AHeap)(hu:∀o,flat (over u h o)=flat (over r.upd (over G h) o)):Does P h β Y w fr ⟨r.val,u,rd⟩ s:=by
 obtain⟨n,v,w',β',h1,h2,h3,h4⟩:=hd;have m:=(wW hO G hG).trans h3 (λ_ h=>h.elim) hO (f:=λk=>k=fr) (λ_ h=>h.elim) λ_ h=>h;refine⟨n,v,w',β',h1,h2,XM (λ_=>rfl) (λo=>(hu o).symm) m,?_⟩;rw[Yb hu];exact h4
theorem jF (r:AR):∀o,flat (over (xa r).upd h o)=flat (over r.upd h o):=by
 intro o;unfold xa;split
 .rename_i k n es hu;split
  .rename_i fs hfs;rw[hu,W5 hfs];simp only[over,ya];by_cases hk:k=o
   .simp only[hk,rG];rfl
   .grind
  .rfl
 .rfl
theorem jy (r:AR):(xa r).val=r.val:=by
 unfold xa
 grind
theorem YC {h:Nat->AObj}{x:TV}{o:Nat}{es:List MapZ}(hm:vE h x=some (o,es)):kV (λo=>flat<|h o) x=some (o,es.map thaw):=by
 unfold vE at hm;split at hm
 .split at hm<;>simp only[r8,reduceCtorEq,rX] at hm
  rename_i es' ho;obtain⟨rfl,rfl⟩:=hm;simp only[kV,ho,flat]
 .cases hm
theorem pC {h:Nat->AObj}{x:TV}{oe:List Nat×List MapZ}(hm:qI h x=some oe):mapL (λo=>flat<|h o) x=some (oe.1,oe.2.map thaw):=by
 unfold qI at hm;split at hm
 .injection hm with hm;subst hm;rfl
 .rename_i hn;obtain⟨p,hp,rfl⟩:=oY.1 hm;unfold mapL;split
  .exact(hn _ rfl).elim
  .rw[YC (o:=p.1) (es:=p.2) hp];rfl
theorem KT {m:(Bool×List EK)×(Bool×List WV)}{h:Nat->AObj}{x key:TV}{ok:Bool}{r:AR}(hl:wo m h x key ok=some r):vw m (λo=>flat<|h o) x key ok=some r:=by
 unfold wo at hl;split at hl
 .rename_i oe hoe;obtain⟨o,es⟩:=oe;have hm:=pC hoe;unfold vw;split at hl
  .rename_i k hk;simp only[hm];unfold gH at hl;split at hl
   .rename_i l hq;obtain⟨v,hv,rfl⟩:=oY.1 hl;split at hq<;>simp only[r8,reduceCtorEq] at hq
    rename_i i hf;split at hq
    .rename_i e he;split at hq<;>simp only[r8,reduceCtorEq] at hq
     rename_i hag;subst hq;have he':(es.map thaw)[i]?=some (thaw e):=by rw[rq,he];rfl
     simp only[hf,mK,he'];have:(thaw e).2=(m.2.1,fzs e.2.2):=by rw[<-hag];rfl
     rw[this,hv];rfl
    .cases hq
   .rename_i hq;obtain⟨v,hv,rfl⟩:=oY.1 hl;split at hq
    .split at hq
     .split at hq<;>simp at hq
     .cases hq
    next hf=>simp only[hf,mK,hv,ry]
    .cases hq
   .cases hl
  .cases hl
 .exact hl
theorem YT {m:(Bool×List EK)×(Bool×List WV)}{h:Nat->AObj}{x key y:TV}{r:AR}(hl:yS m h x key y=some r):
  ∃r0,yG m (λo=>flat<|h o) x key y=some r0/\r.val=r0.val/\∀k,flat (over r.upd h k)=flat (over r0.upd (λo=>flat<|h o) k):=by
 unfold yS at hl;split at hl
 .rename_i oe hoe;obtain⟨o,es⟩:=oe;have hm:=YC hoe;split at hl
  .rename_i k rw_ hk hrw;split at hl
   .rename_i fr hfr;obtain⟨es',hes,rfl⟩:=oY.1 hl;unfold updZ at hes;have hr:(rw_.1,fzs fr)=rw_:=by rw[<-ke hfr]
    have go:∀q,vj m.1 k (es.map thaw) 0=some q->es'.map thaw=updE m k rw_ (es.map thaw) q->∃r0,yG m (λo=>flat<|h o) x key y=some r0/\(TV.any)=r0.val/\∀k,flat (over [(o,.mapz es')] h k)=flat (over r0.upd (λo=>flat<|h o) k):=by
     intro q hf he;refine⟨⟨.any,[(o,.mapo<|updE m k rw_ (es.map thaw) q)],[o]⟩,?_,rfl,λj=>?_⟩
     .simp only[yG,hk,hrw,hm,hf]
     .simp only[xe,upd];split
      .show AObj.mapo (es'.map thaw)=_;rw[he];rfl
      .exact(vh _).symm
    split at hes<;>simp only[r8,reduceCtorEq] at hes
    next i hf=>subst hes;exact go _ hf (by rw[List.map_set,show thaw ((m.1.1,k),(rw_.1,fr))=((m.1.1,k),rw_) by show((m.1.1,k),(rw_.1,fzs fr))=_;rw[hr]];rfl)
    next hf=>subst hes;exact go _ hf (by rw[t7,rO,show thaw ((m.1.1,k),(rw_.1,fr))=((m.1.1,k),rw_) by show((m.1.1,k),(rw_.1,fzs fr))=_;rw[hr]];rfl)
   .cases hl
  .cases hl
 .refine⟨r,hl,rfl,λk=>?_⟩;exact(yJ r.upd k).symm
theorem jj (a b:AHeap)(o:Nat):over (a++b) h o=over a (over b h) o:=by
 simp only[over,ko]
 grind
theorem nZ (hO:Objs h β Y w)(hY:∀b,Y b->b<w.heap.size){fr:Nat}(hfr:β fr=none){o:Oper}{ρ:Operand->TV}{ev:Operand->Value}{r:AR}(hρ:∀x,TRep w (XO Y h β) β (ρ x)<|ev x)(ha:aopF P o fr ρ h=some r):
  Does P h β Y w fr r (execOp ev o):=by
 have hOf:Objs (λo=>flat<|h o) β Y w:=jr (λo=>vh _) hO;have hXf:XO Y (λo=>flat<|h o) β=XO Y h β:=Yb λo=>vh _;have hρf:∀x,TRep w (XO Y (λo=>flat<|h o) β) β (ρ x) (ev x):=λx=>zd
 have gen:∀ {r:AR},aop P o fr ρ (λo=>flat<|h o)=some r->Does P h β Y w fr r (execOp ev o):=λ{r} ha=>
  vi rfl (λk=>(yJ r.upd k).symm) (uj hOf hY hfr hρf ha)
 obtain⟨d,op,t,p,af,g⟩:=o;unfold aopF at ha;dsimp only at ha;split at ha
 next st x y=>obtain⟨dd,hd,hs⟩:=zP ha;obtain⟨r0,h1,h2,h3⟩:=fq hs;have:=uj (P:=P) (o:=⟨d,.store st x y,t,p,af,g⟩) hOf hY hfr hρf (r:=r0) (by simp only[aop,yr,hd];exact h1);exact vi h2 h3 this
 .rename_i b args ts;unfold xA at ha;split at ha
  .rename_i t1 t2 s x hts hargs;split at ha
   .rename_i htt;obtain⟨dd,e,de,hd,hk,hde,hap⟩:=ye ha;unfold ZI at hap;split at hap
    .rename_i hc;obtain⟨r0,h1,h2,h3⟩:=Kz hap
     have h0:aop P ⟨d,.call ⟨.builtin .append,args,ts⟩,t,p,af,g⟩ fr ρ (λo=>flat<|h o)=some r0:=by
      simp only[aop,hargs,hts,xL];unfold yk;rw[hd];dsimp only;rw[hk];dsimp only;rw[hde];unfold jg
      grind
     exact vi h2 h3<|uj hOf hY hfr hρf h0
    .cases hap
   .rename_i htt;obtain⟨dd,e,de,hd,hk,hde,hap⟩:=ye ha;obtain⟨r0,hr0,rfl⟩:=oY.1 hap
    have h0:aop P ⟨d,.call ⟨.builtin .append,args,ts⟩,t,p,af,g⟩ fr ρ (λo=>flat<|h o)=some r0:=by
     simp only[aop,hargs,hts,xL];unfold yk
     grind
    have e1:(xa r0).val=r0.val:=jy r0;refine vi (r0:=r0) e1 (λk=>?_)<|uj hOf hY hfr hρf h0
    rw[jF];exact(yJ r0.upd k).symm
  .exact gen ha
 .rename_i st len parts;obtain⟨r1,hr1,rfl⟩:=oY.1 ha;obtain⟨dd,e,de,hd,hk,hde,hb⟩:=ye hr1;have hGg:=qO (h:=h)<|parts.toList.map λp=>(p.1,ρ p.2)
  have hparts:=Xa hO hGg (parts.toList.map λp=>(p.1,ρ p.2)) ((parts.map λ(i,x)=>(i,ev x)).toList) (λ_ h=>h)<|qq (w:=w) (β:=β) hρ parts
  have m:=wW hO _ hGg;have hd':=uH m.objs hY hfr (parts:=(vo h<|parts.toList.map λp=>(p.1,ρ p.2)).1) (vals:=parts.map λ(i,x)=>(i,ev x)) zd hparts.2 hd hk hde hb;refine XK (r:=⟨(xa r1).val,r1.upd,r1.rd⟩) hO hGg ?_ _ λo=>?_
  .rw[jy];exact hd'
  .rw[jj];exact jF r1 o
 .rename_i bt parts;obtain⟨v,hv,rfl⟩:=oY.1 ha;obtain⟨dd,hd,hb⟩:=zP hv;have hGg:=qO (h:=h)<|parts.toList.map λp=>(p.1,ρ p.2)
  have hparts:=Xa hO hGg (parts.toList.map λp=>(p.1,ρ p.2)) ((parts.map λ(i,x)=>(i,ev x)).toList) (λ_ h=>h)<|qq (w:=w) (β:=β) hρ parts
  have m:=wW hO _ hGg;refine XK (r:=⟨v,[],[]⟩) hO hGg (xT m.objs ?_) _ (λo=>by simp[over_nil]);exact XE hd zd hparts.2 hb
 .rename_i st l c;obtain⟨dd,e,de,hd,hk,hde,hb⟩:=ye ha;obtain⟨q,hq,rfl⟩:=oY.1 hb
  have:=uj (P:=P) (o:=⟨d,.makeSlice st l c,t,p,af,g⟩) hOf hY hfr hρf (r:=⟨.c<|.a<|.osl fr de.size 0 q.1,[(fr,.arr de.size<|List.replicate q.1<|fzs q.2)],[]⟩) (by
   simp only[aop];unfold yk;rw[hd];dsimp only;rw[hk];dsimp only;rw[hde];dsimp only;rw[hq];rfl)
  refine vi (r0:=⟨.c<|.a<|.osl fr de.size 0 q.1,[(fr,.arr de.size<|List.replicate q.1<|fzs q.2)],[]⟩) rfl (λk=>yN ?_ k (yJ [] k).symm) this;show AObj.arr de.size ((List.replicate q.1 q.2).map fzs)=AObj.arr de.size (List.replicate q.1<|fzs q.2);simp_all
 next lt x ix ok=>obtain⟨m,hm,hl⟩:=yx ha;exact gen (by simp only[aop,xh,hm];exact KT hl)
 next mt x k v=>obtain⟨m,hm,hl⟩:=yx ha;obtain⟨r0,h1,h2,h3⟩:=YT hl;have:=uj (P:=P) (o:=⟨d,.mapUpdate mt x k v,t,p,af,g⟩) hOf hY hfr hρf (r:=r0) (by simp only[aop,xh,hm];exact h1);exact vi h2 h3 this
 .rename_i mt;injection ha with ha;subst ha
  have:=uj (P:=P) (o:=⟨d,.makeMap mt none,t,p,af,g⟩) hOf hY hfr hρf (r:=⟨.c<|.a<|.mp fr,[(fr,.mapo [])],[]⟩) rfl;exact vi (r0:=⟨.c<|.a<|.mp fr,[(fr,.mapo [])],[]⟩) rfl (λk=>yN (x:=.mapz []) (y:=.mapo []) rfl k (yJ [] k).symm) this
 .grind
theorem pe (hO:Objs h β Y w) (hgl:Gl P w<|Own h β) (hY:∀b,Y b->b<w.heap.size) {fr:Nat} (hfr:∀j,j<32->β (fr+j)=none) {f:FuncId} {args:List TV} {vals:List Value} {K:TV->AHeap->List Nat->Prop}
  (hl:LRep (TRep w (XO Y h β) β) args vals) (hK:CallE P f args h fr K):
  xq P f=true/\∃r upd rd,K r upd rd/\Calls P f vals.toArray w λe w'=> ∃v β',e=.returned v/\Moves h (over upd h) β β' Y w w' (λo=>fr<=o/\o<fr+32)/\TRep w' (XO Y (over upd h) β') β' r v:=by
 obtain⟨E,hE,hC⟩:=hK
 have hG:∀p∈E.map λp=>(p.1,AObj.gone),p.2=AObj.gone:=by
  grind
 have m:=wW hO _ hG
 have hZ:∀b,¬XO Y h β b->¬XO Y (over (E.map λp=>(p.1,AObj.gone)) h) β b:=by
  intro b hb hb';rcases hb' with hb' |⟨o,h1,h2⟩
  .grind
  .rcases m.lmono o h1 with h3|h3
   .exact hb<|.inr ⟨o,h3,h2⟩
   .exact h3
 have hLZ:∀p∈E,∀b,β p.1=some b->¬XO Y (over (E.map λp=>(p.1,AObj.gone)) h) β b:=by
  intro p hp b hb hb';have hlp:isLive (h p.1):=by rw[<-w4,hE p hp];trivial
  rcases hb' with hy|⟨o',h1,h2⟩
  .exact(hO.here hlp hb).2 hy
  .have hl:=(m.lmono o' h1).resolve_right id;have:o'=p.1:=hO.inj o' p.1 b hl hlp h2 hb;subst this;rw[K5 hG<|rK.2 ⟨p,hp,rfl⟩] at h1;exact h1
 have hl':LRep (TRep w (XO Y (over (E.map λp=>(p.1,AObj.gone)) h) β) β) (args.map<|TV.lend E) vals:=hl.map λc u _ hr=>kg hO hE hZ hLZ hr;obtain⟨hent,r,u,rd,hk,hcall⟩:=iG m.objs (hgl.sub λb ⟨o,h1,h2⟩=>⟨o,(m.lmono o h1).resolve_right id,h2⟩) hY hfr hl' hC;refine⟨hent,r,_,_,hk,hcall.mono λe w' ⟨v,β',h1,h2,h3⟩=>⟨v,β',h1,?_,?_⟩⟩
 .have m2:=m.trans h2 (λ_ h=>h.elim) hO (f:=λo=>fr<=o/\o<fr+32) (λ_ h=>h.elim) λ_ h=>h;have:over (u++E.map λp=>(p.1,AObj.gone)) h=over u (over (E.map λp=>(p.1,AObj.gone)) h):=funext λo=>jj _ _ o
  grind
 .have:over (u++E.map λp=>(p.1,AObj.gone)) h=over u (over (E.map λp=>(p.1,AObj.gone)) h):=funext λo=>jj _ _ o
  grind
end
end Go.AM
