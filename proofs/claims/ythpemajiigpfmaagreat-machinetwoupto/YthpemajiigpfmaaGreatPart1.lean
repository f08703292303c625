/- Laws, part 1. No conditions. -/
import Derived.Calls
import Derived.Tactics
import Derived.Orders
import Derived.Still
import Derived.Laws.AppendOwn
import Derived.Laws.CopyRow
import Derived.KernelRfl
import Derived.Test.YthpemajiigpfmaaGreatProg
import Derived.Lib.LaidTab
import Derived.Lib.ItoaNum
import Derived.Laws.StructEq
import Derived.Laws.Strings
import Derived.Laws.OwnMore
import Derived.WideKeyRuns
import Derived.Laws.MakeOwn
import Derived.Laws.BytesString
import Derived.Laws.Cells
import Derived.Lib.AppendZeros
set_option linter.all false
namespace Go.AM
noncomputable abbrev EF:=Go.Proofs.Tryz.prog
abbrev EG:=@if_neg
abbrev EH:=@List.length_cons
abbrev EI:=@Nat.le_refl
abbrev EJ:=@List.length_append
abbrev EL:=@if_pos
abbrev EM:=@Option.map_eq_some_iff
abbrev EN:=@Bool.and_eq_true
abbrev EO:=@Option.some.injEq
abbrev EP:=@List.mem_cons_of_mem
abbrev EQ:=@Int.le_refl
abbrev ES:=@of_decide_eq_false
abbrev ET:=@List.mem_cons_self
abbrev EU:=@List.getElem?_eq_getElem
abbrev EV:=@List.take_of_length_le
abbrev EW:=@List.getElem?_eq_some_iff
abbrev EX:=@List.getElem?_map
abbrev EY:=@List.length_nil
abbrev EZ:=@run_underlying
abbrev S0:=@of_decide_eq_true
abbrev S1:=@List.eq_nil_of_length_eq_zero
abbrev S2:=@Option.map_some
abbrev S3:=@Int.toNat_natCast
abbrev S4:=@List.mem_cons
abbrev S5:=@Bool.false_eq_true
abbrev S6:=@List.append_nil
abbrev S7:=@Nat.eq_of_beq_eq_true
abbrev S8:=@List.length_take
abbrev S9:=@if_true
abbrev Sa:=@Nat.zero_add
abbrev Sb:=@List.mem_append
abbrev Sc:=@List.all_eq_true
abbrev Se:=@Result.andThen_ok
abbrev Sf:=@decide_eq_true_eq
abbrev Sg:=@List.drop_zero
abbrev Si:=@List.mem_singleton
abbrev Sj:=@if_false
abbrev Sk:=@Classical.byContradiction
abbrev Sl:=@List.mem_of_getElem?
abbrev Sm:=@Array.getElem?_push
abbrev Sn:=@List.length_map
abbrev Sp:=@Nat.le_of_ble_eq_true
abbrev Sq:=@Option.getD_some
abbrev Sr:=@Prod.mk.injEq
abbrev Ss:=@Nat.mul_le_mul_right
abbrev Sv:=@Sem.run_bind
abbrev Sw:=@beq_iff_eq
abbrev Sx:=@Bool.false_and
abbrev Sy:=@List.getElem?_take
abbrev Sz:=@Bool.and_false
abbrev SA:=@List.map_cons
abbrev SB:=@Array.getD_eq_getD_getElem?
abbrev SC:=@Sem.run_pure
abbrev SD:=@List.nil_append
abbrev SE:=@List.cons_append
abbrev SF:=@Array.all_eq_true_iff_forall_mem
abbrev SG:=@List.mem_map
abbrev SH:=@List.append_assoc
abbrev SI:=@List.getElem?_cons_zero
abbrev SJ:=@congrArg
abbrev SK:=@Bool.not_eq_true'
abbrev SL:=@Bool.true_and
abbrev SM:=@Nat.lt_of_lt_of_le
abbrev SN:=@List.map_append
abbrev SO:=@Nat.add_mul
abbrev SP:=@Array.getElem?_eq_getElem
abbrev SQ:=@Nat.zero_le
abbrev SR:=@List.getElem?_append
abbrev SS:=@List.getElem?_drop
abbrev ST:=@Array.getElem?_eq_some_iff
abbrev SU:=@List.map_congr_left
abbrev SV:=@List.nodup_cons
abbrev SW:=@Nat.le_trans
abbrev SX:=@List.mem_of_mem_take
abbrev SY:=@List.any_cons
abbrev G0:=@List.all_cons
abbrev G1:=@List.length_singleton
abbrev G2:=@Nat.min_eq_left
abbrev G3:=@Option.bind_eq_some_iff
abbrev G4:=@List.getElem?_of_mem
abbrev G5:=@List.contains_eq_mem
abbrev G6:=@MapKept.run_getObj_map
abbrev G7:=@Option.isSome_none
abbrev G8:=@Nat.add_sub_cancel
abbrev G9:=@List.getElem?_cons_succ
abbrev Ga:=@Nat.le_mul_of_pos_right
abbrev Gb:=@List.nodup_append
abbrev Gc:=@List.getElem?_range
abbrev Gd:=@decide_eq_false
abbrev Ge:=@List.mem_or_eq_of_mem_set
abbrev Gf:=@List.getElem?_toArray
abbrev Gg:=@Nat.add_zero
abbrev Gh:=@Bool.false_or
abbrev Gi:=@Bool.and_true
abbrev Gj:=@List.mem_append_left
abbrev Gk:=@decide_eq_true
abbrev Gm:=@List.getElem?_set
abbrev Gn:=@List.length_set
abbrev Gp:=@Bool.eq_iff_iff
abbrev Gq:=@Array.length_toList
abbrev Gt:=@MapKept.run_setObj_map
abbrev Gu:=@List.map_take
abbrev Gv:=@Option.bind_some
abbrev Gx:=@List.getElem?_append_right
abbrev Gy:=@List.getElem?_append_left
abbrev Gz:=@List.foldl_cons
abbrev GA:=@Nat.not_lt_zero
abbrev GB:=@List.mem_of_mem_drop
abbrev GD:=@List.take_succ_eq_append_getElem
abbrev GE:=@List.reverse_cons
abbrev GF:=@Nat.add_assoc
abbrev GH:=@Bool.and_self
abbrev GI:=@List.length_reverse
abbrev GJ:=@List.drop_eq_nil_of_le
abbrev GK:=@Array.getElem?_setIfInBounds
abbrev GL:=@List.mem_zipIdx_iff_getElem?
abbrev GM:=@List.getElem?_eq_none
abbrev GN:=@List.mem_append_right
abbrev GO:=@Array.mem_of_getElem?
abbrev GP:=@List.eq_nil_or_concat
abbrev GQ:=@Array.ext'
abbrev GR:=@Bool.not_false
abbrev GS:=@Nat.add_comm
abbrev GT:=@List.map_map
abbrev GU:=@Bool.true_or
abbrev GV:=@Bool.or_true
abbrev GW:=@List.getElem?_zip_eq_some
abbrev GX:=@List.getElem?_take_of_lt
abbrev GY:=@Nat.sub_zero
abbrev GZ:=@List.map_set
abbrev F0:=@List.flatMap_cons
abbrev F1:=@List.mem_range
abbrev F2:=@List.take_take
abbrev F3:=@List.singleton_append
abbrev F4:=@List.getElem_mem
abbrev F5:=@Bool.not_eq_true
abbrev F6:=@Array.toArray_toList
abbrev F7:=@List.mem_filter
abbrev F8:=@Int.natCast_add
abbrev F9:=@Int.natCast_one
theorem za {p:Prop}(h:p:=by omega):p:=h
theorem zb {p:Prop}(h:p:=by simp):p:=h
theorem zc {p:Prop}(h:p:=by decide):p:=h
theorem zd {p:Prop}(h:p:=by grind):p:=h
theorem zg {p:Prop}(h:p:=by kernel_rfl):p:=h
theorem zh {p:Prop}(h:p:=by intros;kernel_rfl):p:=h
theorem zi {p:Prop}(h:p:=by as_aux_lemma=>kernel_rfl):p:=h
theorem zj {p:Prop}(h:p:=by simp;omega):p:=h
theorem zk {p:Prop}(h:p:=by dsimp only;omega):p:=h
theorem zl {p q:Prop}(h:p)(e:p->q:=by intro h;simpa using h):q:=e h
inductive FV where
 |int (k:IntKind) (n:Int)
 |bool (b:Bool)
 |str (l:List UInt8)
 |cst (v:Value)
 |N
 |sl (nn:Bool) (n:Nat) (es:List (List FV))
 |z0 (nn:Bool)
 |pt (cs:List FV)
 |mp (es:List ((Bool×List FV)×(Bool×List FV)))
 deriving Inhabited
inductive AV where
 |fz (x:FV)
 |ep (o n i j:Nat)
 |osl (o n off len:Nat)
 |mp (o:Nat)
 |any
 |bld (t:TypeId) (o:Nat)
 |osb (o:Nat) (e:TypeId) (len:Nat)
 deriving Inhabited
inductive WV where
 |a (x:AV)
 |fn (f:Fn) (first captured:List (Bool×List AV))
 deriving Inhabited
inductive TV where
 |any
 |c (x:WV)
 |agg (cs:List WV)
 |tup (vs:List (Bool×List WV))
 deriving Inhabited
inductive AObj where
 |gone
 |arr (n:Nat) (es:List (List WV))
 |arz (n:Nat) (fs:List (List FV))
 |mapo (es:List ((Bool×List FV)×(Bool×List WV)))
 |mapz (es:List ((Bool×List FV)×(Bool×List FV)))
 deriving Inhabited
abbrev Env:=List<|Nat×TV
abbrev AHeap:=List<|Nat×AObj
def look:Env->Nat->TV
 |[],_=>.any
 |(j,v)::e,i=>if j=i then v else look e i
def hook:AHeap->Nat->AObj
 |[],_=>.gone
 |(j,v)::e,i=>if j=i then v else hook e i
def fvOf:Value->FV
 |.int k n=>.int k n
 |.bool b=>.bool b
 |.string s=>.str s.data.toList
 |.slice none 0 0=>.N
 |v=>.cst v
def cell (x:FV):WV:=.a<|.fz x
def fzs (l:List FV):=l.map cell
def thaw (e:(Bool×List FV)×(Bool×List FV)):(Bool×List FV)×(Bool×List WV):=(e.1,(e.2.1,fzs e.2.2))
def flat:AObj->AObj
 |.arz n fs=>.arr n<|fs.map fzs
 |.mapz es=>.mapo<|es.map thaw
 |x=>x
def unfz:List WV->Option (List FV)
 |[]=>some []
 |.a (.fz x)::r=>(unfz r).map λl=>x::l
 |_=>none
def sW:List (List WV)->Option (List<|List FV)
 |[]=>some []
 |e::r=>match unfz e,sW r with
  |some x,some l=>some<|x::l
  |_,_=>none
def tvOf:Value->TV
 |.agg cs=>if cs.all Value.oneCell' then .agg (cs.toList.map λv=>.a<|.fz<|fvOf v) else .any
 |.tuple _=>.any
 |.int k n=>.c<|.a<|.fz<|.int k n
 |.bool b=>.c<|.a<|.fz<|.bool b
 |.string s=>.c<|.a<|.fz<|.str s.data.toList
 |.slice none 0 0=>.c<|.a<|.fz .N
 |v=>.c<|.a<|.fz<|.cst v
def evF (e:Nat->TV):Operand->TV
 |.tmp t=>e t
 |.const v=>tvOf v
 |.global _=>.any
 |.func f=>.c<|.fn (.func f) [] []
def ev (e:Env):Operand->TV
 |.tmp t=>look e t
 |.const v=>tvOf v
 |.global _=>.any
 |.func f=>.c<|.fn (.func f) [] []
inductive TKind where
 |base
 |str
 |slice (e:TypeId)
 |arr (n:Nat) (e:TypeId)
 |struct (fs:List (Nat×Nat×TypeId))
 |ptr (e:TypeId)
 |map (k e:TypeId)
 |int (k:IntKind)
 |bool
 |func
structure TyD where
 agg:Bool
 size:Nat
 bytes:Nat
 zero:Option<|List FV
 kind:TKind
def xM (P:Program):TypeDesc->TKind
 |.string=>.str
 |.slice e=>.slice e
 |.array n e=>.arr n e
 |.struct fs=>if fs.toList.all (λf=>(P.info? f.type).isSome) then .struct (fs.toList.map λf=>(f.offset,P.cellsOf f.type,f.type)) else .base
 |.pointer e=>.ptr e
 |.map k e=>.map k e
 |.int k=>.int k
 |.bool=>.bool
 |.func _ _ _=>.func
 |_=>.base
def tyOf (P:Program)(t:TypeId):Option TyD:=
 match P.info? t,P.underlying t with
 |some i,some d=>some
  { agg:=match d with|.struct _|.array _ _=>true|_=>false
    size:=i.size
    bytes:=i.bytes
    zero:=match i.zero with
     |some z=>if z.cells.all Value.oneCell' then some (z.cells.toList.map fvOf) else none
     |none=>none
    kind:=xM P d}
 |_,_=>none
structure AR where
 val:TV
 upd:List<|Nat×AObj
 rd:List Nat
def uR:TV->Option (List WV)
 |.c x=>some [x]
 |.agg cs=>some cs
 |_=>none
def jr (d:TyD)(cs:List WV):Option TV:=
 if d.agg then(if d.size<=cs.length then some (.agg<|cs.take d.size) else none)
 else match cs with
  |x::_=>some<|.c x
  |[]=>none
def partA (agg:Bool)(size:Nat)(cs:List WV)(off:Nat):Option TV:=
 if agg then(if off+size<=cs.length then some (.agg<|(cs.drop off).take size) else none) else(cs[off]?).map .c
def splice (e:List WV)(j:Nat)(cs:List WV):List WV:=e.take j++cs++e.drop (j+cs.length)
def W5 (place:Nat->Option (Nat×Nat)):List WV->List (Nat×TV)->Option (List WV)
 |cs,[]=>some cs
 |cs,(i,v)::rest=>
  match place i,uR v with
  |some (off,size),some us=>if us.length=size/\off+size<=cs.length then W5 place (splice cs off us) rest else none
  |_,_=>none
def jd (n:Nat):Nat->List WV->List (List WV)
 |0,_=> []
 |k+1,cs=>cs.take n::jd n k (cs.drop n)
def w7 (n:Nat)(h:Nat->AObj):TV->Option (List (List WV)×List Nat)
 |.c (.a (.fz .N))=>some ([],[])
 |.c (.a (.fz (.sl _ m es)))=>if m=n then some (es.map fzs,[]) else none
 |.c (.a (.fz (.z0 _)))=>some ([],[])
 |.c (.a (.osl o m off len))=>
  match h o with
  |.arr m' es=>if m=n/\m'=n/\off+len<=es.length then some ((es.drop off).take len,[o]) else none
  |_=>none
 |_=>none
def XN:TV->Option (Nat×List Nat)
 |.c (.a (.fz .N))=>some (0,[])
 |.c (.a (.fz (.sl _ _ es)))=>some (es.length,[])
 |.c (.a (.fz (.z0 _)))=>some (0,[])
 |.c (.a (.osl _ _ _ len))=>some (len,[])
 |_=>none
def lenStr:TV->Option (Nat×List Nat)
 |.c (.a (.fz (.str l)))=>some (l.length,[])
 |_=>none
def tj (h:Nat->AObj):TV->Option (Nat×List Nat)
 |.c (.a (.mp o))=>match h o with
  |.mapo es=>some (es.length,[o])
  |_=>none
 |_=>none
def iV (n:Int):TV:=.c<|.a<|.fz<|.int .i64 n
def bV (b:Bool):TV:=.c<|.a<|.fz<|.bool b
def KP (op:BinOp)(k:IntKind)(a b:Int):Option FV:=
 match op with
 |.add=>some<|.int k<|k.wrap<|a+b
 |.sub=>some<|.int k<|k.wrap<|a-b
 |.mul=>some<|.int k<|k.wrap<|a*b
 |.quo=>if b=0 then none else some<|.int k<|k.wrap<|a.tdiv b
 |.rem=>if b=0 then none else some<|.int k<|a.tmod b
 |.eql=>some<|.bool<|a==b
 |.neq=>some<|.bool<|a !=b
 |.lss=>some<|.bool<|a<b
 |.leq=>some<|.bool<|a<=b
 |.gtr=>some<|.bool<|a>b
 |.geq=>some<|.bool<|a>=b
 |_=>none
def pJ (op:BinOp)(a b:List UInt8):Option FV:=
 match op with
 |.add=>if a.length+b.length<=1000000000000 then some (.str<|a++b) else none
 |.eql=>some<|.bool<|a==b
 |.neq=>some<|.bool (!a==b)
 |_=>none
inductive EK where
 |int
 |bool
 |str
def ekOf (P:Program)(t:TypeId):Option EK:=
 match P.underlying t with
 |some (.int _)=>some .int
 |some .bool=>some .bool
 |some .string=>some .str
 |_=>none
def dH (P:Program):Nat->List Field->Option (List EK)
 |_,[]=>some []
 |i,f::fs=>match ekOf P f.type,dH P (i+1) fs with
  |some k,some l=>if f.offset=i/\f.name ≠ "_" then some (k::l) else none
  |_,_=>none
def jq (P:Program)(t:TypeId):Option (List EK):=
 match P.underlying t with
 |some (.struct fs)=>if P.stoodInHeld t=false/\P.eqGuardType P.depth t=false then dH P 0 fs.toList else none
 |_=>none
def zY:List EK->List WV->List WV->Option Bool
 |[],[],[]=>some true
 |.int::ks,.a (.fz (.int k x))::l,.a (.fz (.int k' y))::r=>if k=k' then(zY ks l r).map λb=>(x==y)&&b else none
 |.bool::ks,.a (.fz (.bool x))::l,.a (.fz (.bool y))::r=>(zY ks l r).map λb=>(x==y)&&b
 |.str::ks,.a (.fz (.str x))::l,.a (.fz (.str y))::r=>(zY ks l r).map λb=>(x==y)&&b
 |_,_,_=>none
def nilSl:WV->WV->Option Bool
 |.a (.fz .N),.a (.fz .N)=>some true
 |.a (.fz (.sl true _ _)),.a (.fz .N)=>some false
 |.a (.fz (.z0 true)),.a (.fz .N)=>some false
 |.a (.osl _ _ _ (_+1)),.a (.fz .N)=>some false
 |.a (.fz (.sl false _ (_::_))),.a (.fz .N)=>some false
 |_,_=>none
def gA:WV->WV->Option Bool
 |.a (.ep _ _ _ _),.a (.fz (.cst (.pointer none)))=>some false
 |.a (.fz (.pt _)),.a (.fz (.cst (.pointer none)))=>some false
 |.a (.fz (.cst (.pointer none))),.a (.fz (.cst (.pointer none)))=>some true
 |_,_=>none
def eqC (P:Program)(t:TypeId)(x y:WV):Option Bool:=
 match tyOf P t with
 |some d=>match d.kind with
  |.bool=>match x,y with
   |.a (.fz (.bool p)),.a (.fz (.bool q))=>some<|p==q
   |_,_=>none
  |.slice _=>nilSl x y
  |.ptr _=>gA x y
  |_=>none
 |none=>none
def eqA (P:Program)(t:TypeId)(x y:TV):=
 match x,y with
 |.agg xs,.agg ys=>match jq P t with
  |some ks=>zY ks xs ys
  |none=>none
 |.c x,.c y=>eqC P t x y
 |_,_=>none
def eqOp (op:BinOp)(r:Option Bool):=
 match op with
 |.eql=>r.map bV
 |.neq=>r.map λb=>bV (!b)
 |_=>none
def binA (P:Program)(t:TypeId)(op:BinOp)(x y:TV):Option TV:=
 match x,y with
 |.c (.a (.fz (.int k x))),.c (.a (.fz (.int k' y)))=>if k=k' then(KP op k x y).map λv=>.c (.a<|.fz v) else none
 |.c (.a (.fz (.str x))),.c (.a (.fz (.str y)))=>(pJ op x y).map λv=>.c<|.a<|.fz v
 |x,y=>eqOp op<|eqA P t x y
def unA (op:UnOp):TV->Option TV
 |.c (.a (.fz (.int k x)))=>match op with|.neg=>some (.c<|.a<|.fz<|.int k<|k.wrap<|0-x)|_=>none
 |.c (.a (.fz (.bool x)))=>match op with|.not=>some (bV (!x))|_=>none
 |_=>none
def wQ (x:Option TV)(dflt most:Nat):Option Nat:=
 match x with
 |none=>some dflt
 |some (.c (.a (.fz (.int _ i))))=>if 0<=i/\i<=most then some i.toNat else none
 |_=>none
def ZV (lo hi mx:Option TV)(len:Nat):Option (Nat×Nat):=
 match wQ mx len len,wQ hi len len with
 |some c,some b=>if b<=c/\(mx.isSome=true->hi.isSome=true) then(wQ lo 0 b).map λa=>(a,b) else none
 |_,_=>none
def JE (x:TV)(lo hi mx:Option TV):Option TV:=
 match x,mx with
 |.c (.a (.fz (.str l))),none=>(ZV lo hi none l.length).map λp=>.c<|.a<|.fz<|.str<|(l.take p.2).drop p.1
 |_,_=>none
def uC:Option TV->Bool
 |some (.c (.a (.fz (.int _ n))))=>n==0
 |_=>false
def Zk (sz:Nat)(x:TV)(lo hi mx:Option TV):Option TV:=
 match x with
 |.c (.a (.fz .N))=>(ZV lo hi mx 0).map λ_=>x
 |.c (.a (.fz (.sl nn n es)))=>if n=sz then(ZV lo hi mx es.length).map λp=>if uC mx=true then .c (.a<|.fz<|.z0 nn) else .c (.a<|.fz<|.sl nn n<|(es.take p.2).drop p.1) else none
 |.c (.a (.fz (.z0 _)))=>(ZV lo hi mx 0).map λ_=>x
 |.c (.a (.osl o n off len))=>if n=sz then(ZV lo hi mx len).map λp=>.c (.a<|.osl o n (off+p.1)<|p.2-p.1) else none
 |_=>none
def pickT (t:Bool):TV->TV->TV
 |.c (.a (.fz (.bool p))),.c (.a (.fz (.bool q)))=>bV (if t then p else q)
 |x,y=>if t then x else y
def zw (n bytes:Nat):Prop:=n*bytes<=140737488355328
instance (n bytes:Nat):Decidable (zw n bytes):=by unfold zw;exact inferInstance
def xf (d:TyD)(fr:Nat)(h:Nat->AObj)(s x:TV):Option AR:=
 match w7 d.size h x with
 |none=>none
 |some (new,rd)=>
  match s with
  |.c (.a (.fz .N))=>
   if new=[] then some ⟨s,[],rd⟩ else if zw new.length d.bytes then some ⟨.c<|.a<|.osl fr d.size 0 new.length,[(fr,.arr d.size new)],rd⟩ else none
  |.c (.a (.fz (.z0 _)))=>
   if new=[] then some ⟨s,[],rd⟩ else if zw new.length d.bytes then some ⟨.c<|.a<|.osl fr d.size 0 new.length,[(fr,.arr d.size new)],rd⟩ else none
  |.c (.a (.osl o n off len))=>
   match h o with
   |.arr m es=>
    if n=d.size/\m=d.size/\off=0/\len<=es.length/\zw (len+new.length) d.bytes/\ !(fr::rd).contains o then
     some ⟨.c<|.a<|.osl fr d.size 0<|len+new.length,[(o,.gone),(fr,.arr d.size<|es.take len++new)],o::rd⟩
    else none
   |_=>none
  |_=>none
def ui:List TV->Option (IntKind×List Int)
 |[]=>none
 |[.c (.a (.fz (.int k n)))]=>some (k,[n])
 |.c (.a (.fz (.int k n)))::r=>(ui r).bind λ(k',l)=>if k=k' then some (k,n::l) else none
 |_=>none
def zS (l:List Int):=match l with|[]=>0|x::r=>r.foldl max x
def yb (l:List Int):=match l with|[]=>0|x::r=>r.foldl min x
def lV:List WV->Option (List AV)
 |[]=>some []
 |.a x::r=>(lV r).map λl=>x::l
 |_=>none
def kq:List TV->Option (List<|Bool×List AV)
 |[]=>some []
 |.c (.a x)::r=>(kq r).map λl=>(false,[x])::l
 |.agg cs::r=>(lV cs).bind λxs=>(kq r).map λl=>(true,xs)::l
 |_=>none
def kU (d:TyD)(x:TV)(f:Nat):Option TV:=
 match d.kind with
 |.struct fs=>match fs[f]? with
  |some fd=>if fd.2.1=0 then none else
   match x with
   |.c (.a (.ep o n i j))=>some<|.c<|.a<|.ep o n i<|j+fd.1
   |.c (.a (.fz (.pt cs)))=>some<|.c<|.a<|.fz<|.pt<|cs.drop fd.1
   |_=>none
  |none=>none
 |_=>none
def Ek (P:Program)(d:TyD)(x:TV)(f:Nat):=
 match d.kind with
 |.struct fs=>match fs[f]? with
  |some fd=>match tyOf P fd.2.2,x with
   |some df,.agg cs=>partA df.agg df.size cs fd.1
   |_,_=>none
  |none=>none
 |_=>none
def Xi (de:TyD)(x:TV)(i:Int):Option TV:=
 match x with
 |.c (.a (.osl o n off len))=>if de.size=n/\0<=i/\i<len then some (.c<|.a<|.ep o n (off+i.toNat) 0) else none
 |.c (.a (.fz (.sl _ n es)))=>if de.size=n/\0<=i/\i<es.length then some (.c<|.a<|.fz<|.pt<|es.getD i.toNat []) else none
 |_=>none
def dt (de:TyD)(m:Nat)(x:TV)(i:Int):Option TV:=
 match x with
 |.c (.a (.ep o n k j))=>if 0<=i/\i<m then some (.c<|.a<|.ep o n k<|j+i.toNat*de.size) else none
 |_=>none
def yJ (P:Program)(d:TyD)(x ix:TV):=
 match ix with
 |.c (.a (.fz (.int _ i)))=>
  match d.kind with
  |.slice e=>match tyOf P e with|some de=>Xi de x i|none=>none
  |.arr m e=>match tyOf P e with|some de=>dt de m x i|none=>none
  |_=>none
 |_=>none
def Wl (P:Program)(d:TyD)(x ix:TV):Option TV:=
 match ix with
 |.c (.a (.fz (.int _ i)))=>
  match d.kind with
  |.str=>match x with
   |.c (.a (.fz (.str l)))=>if 0<=i/\i<l.length then some (.c<|.a<|.fz<|.int .u8 (l.getD i.toNat 0).toNat) else none
   |_=>none
  |.arr m e=>match tyOf P e,x with
   |some de,.agg cs=>if 0<=i/\i<m then partA de.agg de.size cs (i.toNat*de.size) else none
   |_,_=>none
  |_=>none
 |_=>none
def JW (x:TV)(i:Nat):Option TV:=
 match x with
 |.tup vs=>match vs[i]? with
  |some (true,cs)=>some<|.agg cs
  |some (false,[c])=>some<|.c c
  |_=>none
 |_=>none
def Y8 (d:TyD)(x:TV):Option TV:=
 match d.kind with
 |.int k=>match x with|.c (.a (.fz (.int _ n)))=>some (.c<|.a<|.fz<|.int k<|k.wrap n)|_=>none
 |.str=>match x with|.c (.a (.fz (.str l)))=>some (.c<|.a<|.fz<|.str l)|_=>none
 |_=>none
def jN (x:TV):=
 match x with
 |.c (.a (.ep _ _ _ _))=>some x
 |.c (.a (.fz (.pt _)))=>some x
 |.c (.fn (.func _) _ _)=>some x
 |_=>none
def pickV (c x y:TV):=
 match c with
 |.c (.a (.fz (.bool t)))=>some<|pickT t x y
 |_=>none
def vb (P:Program)(d:TyD)(x:TV)(lo hi mx:Option TV):=
 match d.kind with
 |.slice e=>match tyOf P e with
  |some de=>Zk de.size x lo hi mx
  |none=>none
 |.str=>JE x lo hi mx
 |_=>none
def Xf (fn:Fn)(first captured:List TV):Option TV:=
 match kq first,kq captured with
 |some fs,some cs=>some<|.c<|.fn fn fs cs
 |_,_=>none
def WN (P:Program)(d:TyD)(parts:List<|Nat×TV):Option TV:=
 match d.zero,d.kind with
 |some z,.struct fs=>(W5 (λi=>(fs[i]?).map λf=>(f.1,f.2.1)) (fzs z) parts).map .agg
 |some z,.arr _ e=>match tyOf P e with
  |some de=>(W5 (λi=>some (i*de.size,de.size)) (fzs z) parts).map .agg
  |none=>none
 |_,_=>none
def wD (d:TyD)(h:Nat->AObj)(x:TV):=
 match x with
 |.c (.a (.ep o n i j))=>
  match h o with
  |.arr m es=>if m=n then match es[i]? with
   |some e=>match jr d (e.drop j) with|some v=>some (v,[o])|none=>none
   |none=>none
   else none
  |_=>none
 |.c (.a (.fz (.pt cs)))=>match jr d (fzs cs) with|some v=>some (v,[])|none=>none
 |_=>none
def uh (d:TyD)(h:Nat->AObj)(x y:TV):Option AR:=
 match uR y,x with
 |some cs,.c (.a (.ep o n i j))=>
  match h o with
  |.arr m es=>if m=n/\cs.length=d.size then match es[i]? with
   |some e=>if j+cs.length<=e.length then some ⟨.any,[(o,.arr n<|es.set i<|splice e j cs)],[o]⟩ else none
   |none=>none
   else none
  |_=>none
 |_,_=>none
def wl (de:TyD)(fr len:Nat)(parts:List<|Nat×TV):Option AR:=
 match de.zero with
 |some z=>
  if z.length=de.size/\0<de.size/\len*de.size<=16777216 then
   match W5 (λi=>some (i*de.size,de.size)) (List.replicate len<|fzs z).flatten parts with
   |some cs=>some ⟨.c<|.a (if len=0/\de.size=1 then .fz (.z0 true) else .osl fr de.size 0 len),[(fr,.arr de.size<|jd de.size len cs)],[]⟩
   |none=>none
  else none
 |none=>none
def lenP (d:TyD)(h:Nat->AObj)(x:TV):=
 match d.kind with
 |.slice _=>XN x
 |.str=>lenStr x
 |.map _ _=>tj h x
 |.arr n _=>some (n,[])
 |_=>none
def jB (de:TyD)(fr:Nat)(h:Nat->AObj)(s x:TV):=
 if 0<de.size/\0<de.bytes/\de.bytes<=4096/\de.zero.map List.length=some de.size then xf de fr h s x else none
def minA (max:Bool)(l:List TV):Option TV:=
 match ui l with
 |some r=>some<|.c<|.a<|.fz<|.int r.1 (if max then zS r.2 else yb r.2)
 |none=>none
def valR (v:Option TV):Option AR:=v.map λv=>⟨v,[],[]⟩
def yl (P:Program)(t:TypeId){α:Type}(f:TyD->Option α):Option α:=
 match tyOf P t with
 |some d=>f d
 |none=>none
def yf (P:Program)(t:TypeId){α:Type}(f:TyD->Option α):Option α:=
 match tyOf P t with
 |some d=>match d.kind with
  |.slice e=>match tyOf P e with
   |some de=>f de
   |none=>none
  |_=>none
 |none=>none
def qR (P:Program)(t':TypeId)(de:TyD)(fr:Nat)(s x:TV):Option AR:=
 match P.underlying t',s,x with
 |some (.int _),.c (.a (.fz .N)),.c (.a (.fz (.int _ n)))=>
  if 0<n/\0<de.size/\zw n.toNat de.bytes/\0<de.bytes/\(de.zero.map List.length)=some de.size then some ⟨.c<|.a<|.osl fr de.size 0 n.toNat,[(fr,.arr de.size [])],[]⟩ else none
 |_,_,_=>none
def capP (d:TyD)(x:TV):=
 match d.kind,x with
 |.slice _,.c (.a (.fz .N))=>some<|iV 0
 |.slice _,.c (.a (.fz (.z0 _)))=>some<|iV 0
 |_,_=>none
def xQ (P:Program)(b:Builtin)(ts:List TypeId)(fr:Nat)(h:Nat->AObj)(args:List TV):Option AR:=
 match b,ts,args with
 |.len,[t],[x]=>yl P t λd=>(lenP d h x).map λr=>⟨iV r.1,[],r.2⟩
 |.append,[t,t'],[s,x]=>if t=t' then yf P t λde=>jB de fr h s x else yf P t λde=>qR P t' de fr s x
 |.cap,[t],[x]=>valR<|yl P t λd=>capP d x
 |.min,_,l=>valR<|minA false l
 |.max,_,l=>valR<|minA true l
 |_,_,_=>none
def gI:TV->Option (Bool×List WV)
 |.c x=>some (false,[x])
 |.agg cs=>some (true,cs)
 |_=>none
def kS (P:Program)(t:TypeId):Option (Bool×List EK):=
 match P.underlying t with
 |some (.struct _)=>(jq P t).map λl=>(true,l)
 |_=>(ekOf P t).map λk=>(false,[k])
def keyT (ag:Bool):TV->Option (List FV)
 |.c (.a (.fz f))=>if ag then none else some [f]
 |.agg cs=>if ag then unfz cs else none
 |_=>none
abbrev MapE:=(Bool×List FV)×(Bool×List WV)
def xW (m:Bool×List EK)(key:List FV):List MapE->Nat->Option (Option Nat)
 |[],_=>some none
 |e::es,i=>if e.1.1=m.1 then(zY m.2 (fzs key)<|fzs e.1.2).bind λb=>if b then some (some i) else xW m key es (i+1) else none
def rowTV:Bool×List WV->Option TV
 |(true,cs)=>some<|.agg cs
 |(false,[x])=>some<|.c x
 |_=>none
def WY (P:Program)(e:TypeId):Option (Bool×List WV):=
 match P.info? e with
 |some i=>match i.zero with
  |some (.agg cs)=>if cs.all Value.oneCell' then some (true,fzs<|cs.toList.map fvOf) else none
  |some v=>if v.oneCell' then some (false,[cell<|fvOf v]) else none
  |none=>none
 |none=>none
def qK:List EK->List FV->Bool
 |[],[]=>true
 |.int::ks,.int _ _::l=>qK ks l
 |.bool::ks,.bool _::l=>qK ks l
 |.str::ks,.str _::l=>qK ks l
 |_,_=>false
def Jx (P:Program)(t:TypeId):Option ((Bool×List EK)×(Bool×List WV)):=
 match tyOf P t with
 |some d=>match d.kind with
  |.map k e=>match kS P k,WY P e with
   |some ks,some z=>some (ks,z)
   |_,_=>none
  |_=>none
 |none=>none
def fk (ok:Bool)(v:Bool×List WV)(b:Bool):=if ok then some (.tup [v,(false,[cell<|.bool b])]) else rowTV v
def keyA (m:(Bool×List EK)×(Bool×List WV))(key:TV):Option (List FV):=
 match keyT m.1.1 key with
 |some k=>if qK m.1.2 k=true then some k else none
 |none=>none
def j7 (h:Nat->AObj):TV->Option (Nat×List MapE)
 |.c (.a (.mp o))=>match h o with
  |.mapo es=>some (o,es)
  |_=>none
 |_=>none
def sM (m:(Bool×List EK)×(Bool×List WV))(es:List MapE)(r:Option Nat)(ok:Bool):Option TV:=
 match r with
 |some i=>match es[i]? with
  |some e=>fk ok e.2 true
  |none=>none
 |none=>fk ok m.2 false
def mapL (h:Nat->AObj):TV->Option (List Nat×List MapE)
 |.c (.a (.fz (.mp es)))=>some ([],es.map thaw)
 |x=>(j7 h x).map λp=>([p.1],p.2)
def vz (m:(Bool×List EK)×(Bool×List WV))(h:Nat->AObj)(x key:TV)(ok:Bool):Option AR:=
 match keyA m key with
 |some k=>match mapL h x with
  |some oe=>match xW m.1 k oe.2 0 with
   |some r=>(sM m oe.2 r ok).map λv=>⟨v,[],oe.1⟩
   |none=>none
  |none=>none
 |none=>none
def entE (m:(Bool×List EK)×(Bool×List WV))(o:Nat)(k:List FV)(es:List MapE)(r:Option Nat):Option AR:=
 match r with
 |some i=>match es[i]? with
  |some e=>some ⟨.tup [e.2,(false,[cell<|.int .i64 i])],[(o,.mapo<|es.set i ((m.1.1,k),e.2))],[o]⟩
  |none=>none
 |none=>some ⟨.tup [m.2,(false,[cell<|.int .i64 es.length])],[(o,.mapo<|es++[((m.1.1,k),m.2)])],[o]⟩
def wB (m:(Bool×List EK)×(Bool×List WV))(h:Nat->AObj)(x key:TV):Option AR:=
 match keyA m key with
 |some k=>match j7 h x with
  |some oe=>match xW m.1 k oe.2 0 with
   |some r=>entE m oe.1 k oe.2 r
   |none=>none
  |none=>none
 |none=>none
def wm (h:Nat->AObj)(x stamp v:TV):Option AR:=
 match j7 h x,stamp,gI v with
 |some oe,.c (.a (.fz (.int _ n))),some r=>match oe.2[n.toNat]? with
  |some e=>if 0<=n then some ⟨.any,[(oe.1,.mapo<|oe.2.set n.toNat (e.1,r))],[oe.1]⟩ else none
  |none=>none
 |_,_,_=>none
def updE (m:(Bool×List EK)×(Bool×List WV))(k:List FV)(r:Bool×List WV)(es:List MapE)(q:Option Nat):=
 match q with
 |some i=>es.set i ((m.1.1,k),r)
 |none=>es++[((m.1.1,k),r)]
def yy (m:(Bool×List EK)×(Bool×List WV))(h:Nat->AObj)(x key v:TV):Option AR:=
 match keyA m key,gI v with
 |some k,some r=>match j7 h x with
  |some oe=>match xW m.1 k oe.2 0 with
   |some q=>some ⟨.any,[(oe.1,.mapo<|updE m k r oe.2 q)],[oe.1]⟩
   |none=>none
  |none=>none
 |_,_=>none
abbrev MapZ:=(Bool×List FV)×(Bool×List FV)
def ua (m:(Bool×List EK)×(Bool×List WV))(k:List FV)(es:List MapZ):Option (Option<|List FV):=
 match xW m.1 k (es.map thaw) 0 with
 |some (some i)=>match es[i]? with
  |some e=>if e.2.1=m.2.1 then some (some e.2.2) else none
  |none=>none
 |some none=>some none
 |none=>none
def vE (h:Nat->AObj):TV->Option (Nat×List MapZ)
 |.c (.a (.mp o))=>match h o with
  |.mapz es=>some (o,es)
  |_=>none
 |_=>none
def Zj (h:Nat->AObj):TV->Option (List Nat×List MapZ)
 |.c (.a (.fz (.mp es)))=>some ([],es)
 |x=>(vE h x).map λp=>([p.1],p.2)
def wo (m:(Bool×List EK)×(Bool×List WV))(h:Nat->AObj)(x key:TV)(ok:Bool):Option AR:=
 match Zj h x with
 |some oe=>match keyA m key with
  |some k=>match ua m k oe.2 with
   |some (some l)=>(fk ok (m.2.1,fzs l) true).map λv=>⟨v,[],oe.1⟩
   |some none=>(fk ok m.2 false).map λv=>⟨v,[],oe.1⟩
   |none=>none
  |none=>none
 |none=>vz m (λo=>flat<|h o) x key ok
def updZ (m:(Bool×List EK)×(Bool×List WV))(k:List FV)(r:Bool×List FV)(es:List MapZ):Option (List MapZ):=
 match xW m.1 k (es.map thaw) 0 with
 |some (some i)=>some<|es.set i ((m.1.1,k),r)
 |some none=>some<|es++[((m.1.1,k),r)]
 |none=>none
def yN (m:(Bool×List EK)×(Bool×List WV))(h:Nat->AObj)(x key v:TV):Option AR:=
 match vE h x with
 |some oe=>match keyA m key,gI v with
  |some k,some r=>match unfz r.2 with
   |some fr=>(updZ m k (r.1,fr) oe.2).map λes=>⟨.any,[(oe.1,.mapz es)],[oe.1]⟩
   |none=>none
  |_,_=>none
 |none=>yy m (λo=>flat<|h o) x key v
def xg (P:Program)(t:TypeId)(f:(Bool×List EK)×(Bool×List WV)->Option AR):Option AR:=
 match Jx P t with
 |some m=>f m
 |none=>none
def vi (de:TyD)(_:Nat)(x y:TV):Option (Nat×List FV):=
 match x,y,de.zero with
 |.c (.a (.fz (.int _ n))),.c (.a (.fz (.int _ m))),some z=>if n=m/\0<=n/\z.length=de.size/\0<de.size/\0<de.bytes/\zw n.toNat de.bytes then some (n.toNat,z) else none
 |_,_,_=>none
def byteW:List WV->Option UInt8
 |[.a (.fz (.int .u8 n))]=>some<|UInt8.ofNat n.toNat
 |_=>none
def f9:List (List WV)->Option (List UInt8)
 |[]=>some []
 |e::r=>match byteW e,f9 r with
  |some b,some l=>some<|b::l
  |_,_=>none
def Kh (P:Program)(src:TypeId):Bool:=
 match yf P src λde=>some de.kind with
 |some (.int .u8)=>true
 |_=>false
def textA (P:Program)(dst:TypeId)(h:Nat->AObj)(x:TV):Option AR:=
 yl P dst λd=>match d.kind with
  |.str=>match w7 1 h x with
   |some (es,rd)=>(f9 es).map λl=>⟨.c<|.a<|.fz<|.str l,[],rd⟩
   |none=>none
  |_=>none
def isBld (P:Program)(t:TypeId)(d:TyD):Bool:=
 match d.kind with
 |.struct [(0,1,tp),(1,1,_)]=>match P.underlying tp with
  |some (.pointer e)=>e==t&&d.size==2
  |_=>false
 |_=>false
def bldZ (P:Program)(t:TypeId)(d:TyD)(fr:Nat)(z:List FV):List WV:=
 match isBld P t d,z with
 |true,[.cst (.pointer none),.N]=> [.a<|.bld t fr,.a<|.fz .N]
 |_,_=>fzs z
def aop (P:Program)(o:Oper)(fr:Nat)(ρ:Operand->TV)(h:Nat->AObj):Option AR:=
 match o.op with
 |.move x=>some ⟨ρ x,[],[]⟩
 |.assign x=>some ⟨ρ x,[],[]⟩
 |.pick c x y=>valR<|pickV (ρ c) (ρ x)<|ρ y
 |.alloc e=>yl P e λd=>d.zero.map λz=>⟨.c<|.a<|.ep fr z.length 0 0,[(fr,.arr z.length [bldZ P e d fr z])],[]⟩
 |.box _ x=>(uR<|ρ x).map λcs=>⟨.c<|.a<|.ep fr cs.length 0 0,[(fr,.arr cs.length [cs])],[]⟩
 |.build t parts=>valR<|yl P t λd=>WN P d<|parts.toList.map λp=>(p.1,ρ p.2)
 |.buildSlice t len parts=>yf P t λde=>wl de fr len<|parts.toList.map λp=>(p.1,ρ p.2)
 |.load t x=>yl P t λd=>(wD d h<|ρ x).map λr=>⟨r.1,[],r.2⟩
 |.store t x y=>yl P t λd=>uh d h (ρ x)<|ρ y
 |.nilCheck x=>valR<|jN<|ρ x
 |.binOp op t x y _=>valR<|binA P t op (ρ x)<|ρ y
 |.unOp op _ x=>valR<|unA op<|ρ x
 |.convert src dst x=>match Kh P src with
  |true=>textA P dst h<|ρ x
  |false=>valR (if (P.underlying src).isSome then yl P dst λd=>Y8 d (ρ x) else none)
 |.slice t x lo hi mx=>valR<|yl P t λd=>vb P d (ρ x) (lo.map ρ) (hi.map ρ)<|mx.map ρ
 |.fieldAddr s x f=>valR<|yl P s λd=>kU d (ρ x) f
 |.field s x f=>valR<|yl P s λd=>Ek P d (ρ x) f
 |.indexAddr t x ix=>valR<|yl P t λd=>yJ P d (ρ x)<|ρ ix
 |.index t x ix=>valR<|yl P t λd=>Wl P d (ρ x)<|ρ ix
 |.makeFunc fn first captured=>valR<|Xf fn (first.toList.map ρ)<|captured.toList.map ρ
 |.extract x i=>valR<|JW (ρ x) i
 |.call ⟨.builtin b,args,ts⟩=>xQ P b ts.toList fr h<|args.toList.map ρ
 |.lookup t x ix ok=>xg P t λm=>vz m h (ρ x) (ρ ix) ok
 |.mapEntry t x k=>xg P t λm=>wB m h (ρ x)<|ρ k
 |.entryStore _ x s v=>wm h (ρ x) (ρ s)<|ρ v
 |.mapUpdate t x k v=>xg P t λm=>yy m h (ρ x) (ρ k)<|ρ v
 |.makeMap _ none=>some ⟨.c<|.a<|.mp fr,[(fr,.mapo [])],[]⟩
 |.makeSlice t l c=>yf P t λde=>(vi de fr (ρ l)<|ρ c).map λr=>⟨.c<|.a<|.osl fr de.size 0 r.1,[(fr,.arr de.size<|List.replicate r.1<|fzs r.2)],[]⟩
 |_=>none
def uq (e:List FV)(j:Nat)(cs:List FV):=e.take j++cs++e.drop (j+cs.length)
def uL (d:TyD)(h:Nat->AObj)(x y:TV):Option AR:=
 match uR y,x with
 |some cs,.c (.a (.ep o n i j))=>
  match h o with
  |.arz m fs=>match unfz cs with
   |some fcs=>if m=n/\fcs.length=d.size then match fs[i]? with
    |some e=>if j+fcs.length<=e.length then some ⟨.any,[(o,.arz n<|fs.set i<|uq e j fcs)],[o]⟩ else none
    |none=>none
    else none
   |none=>none
  |_=>uh d h x y
 |_,_=>none
def ki (n:Nat)(h:Nat->AObj):TV->Option (List (List FV)×List Nat)
 |.c (.a (.fz .N))=>some ([],[])
 |.c (.a (.fz (.sl _ m es)))=>if m=n then some (es,[]) else none
 |.c (.a (.fz (.z0 _)))=>some ([],[])
 |.c (.a (.osl o m off len))=>
  match h o with
  |.arz m' es=>if m=n/\m'=n/\off+len<=es.length then some ((es.drop off).take len,[o]) else none
  |_=>none
 |_=>none
def wk (d:TyD)(fr:Nat)(h:Nat->AObj)(s x:TV):Option AR:=
 match ki d.size h x with
 |some (new,rd)=>
  match s with
  |.c (.a (.fz .N))=>
   if new=[] then some ⟨s,[],rd⟩ else if zw new.length d.bytes then some ⟨.c<|.a<|.osl fr d.size 0 new.length,[(fr,.arz d.size new)],rd⟩ else none
  |.c (.a (.fz (.z0 _)))=>
   if new=[] then some ⟨s,[],rd⟩ else if zw new.length d.bytes then some ⟨.c<|.a<|.osl fr d.size 0 new.length,[(fr,.arz d.size new)],rd⟩ else none
  |.c (.a (.osl o n off len))=>
   match h o with
   |.arz m fs=>
    if n=d.size/\m=d.size/\off=0/\len<=fs.length/\zw (len+new.length) d.bytes/\ !(fr::rd).contains o then
     some ⟨.c<|.a<|.osl fr d.size 0<|len+new.length,[(o,.gone),(fr,.arz d.size<|fs.take len++new)],o::rd⟩
    else none
   |_=>xf d fr (λo=>flat<|h o) s x
  |_=>none
 |none=>xf d fr (λo=>flat<|h o) s x
def Y3 (de:TyD)(fr:Nat)(h:Nat->AObj)(s x:TV):=
 if 0<de.size/\0<de.bytes/\de.bytes<=4096/\de.zero.map List.length=some de.size then wk de fr h s x else none
def yV (r:AR):AR:=
 match r.upd with
 |[(o,.arr n es)]=>match sW es with
  |some fs=>⟨r.val,[(o,.arz n fs)],r.rd⟩
  |none=>r
 |_=>r
def xx (P:Program)(b:Builtin)(ts:List TypeId)(fr:Nat)(h:Nat->AObj)(args:List TV):=
 match b,ts,args with
 |.append,[t,t'],[s,x]=>if t=t' then yf P t λde=>Y3 de fr h s x else yf P t λde=>(qR P t' de fr s x).map yV
 |b,ts,args=>xQ P b ts fr (λo=>flat<|h o) args
def qB (h:Nat->AObj):WV->WV×AHeap
 |.a (.osl o n off len)=>
  match h o with
  |.arz m fs=>if n=m/\off+len<=fs.length then(.a<|.fz<|.sl false n<|(fs.drop off).take len,[(o,.gone)]) else(.a<|.osl o n off len,[])
  |_=>(.a<|.osl o n off len,[])
 |x=>(x,[])
def vv (h:Nat->AObj):List WV->List WV×AHeap
 |[]=>([],[])
 |x::r=>((qB h x).1::(vv h r).1,(qB h x).2++(vv h r).2)
def ZW (h:Nat->AObj):TV->TV×AHeap
 |.c x=>(.c (qB h x).1,(qB h x).2)
 |.agg cs=>(.agg (vv h cs).1,(vv h cs).2)
 |x=>(x,[])
def vq (h:Nat->AObj):List (Nat×TV)->List (Nat×TV)×AHeap
 |[]=>([],[])
 |(i,x)::r=>((i,(ZW h x).1)::(vq h r).1,(ZW h x).2++(vq h r).2)
def oslW:WV->List Nat
 |.a (.osl o _ _ _)=> [o]
 |_=> []
def oslT:TV->List Nat
 |.c x=>oslW x
 |.agg cs=>cs.flatMap oslW
 |_=> []
def oslP (l:List<|Nat×TV):=l.flatMap λp=>oslT p.2
def aopF (P:Program)(o:Oper)(fr:Nat)(ρ:Operand->TV)(h:Nat->AObj):Option AR:=
 match o.op with
 |.store t x y=>yl P t λd=>uL d h (ρ x)<|ρ y
 |.call ⟨.builtin b,args,ts⟩=>xx P b ts.toList fr h<|args.toList.map ρ
 |.buildSlice t len parts=>
  (yf P t λde=>wl de fr len (vq h<|parts.toList.map λp=>(p.1,ρ p.2)).1).map λr=>⟨(yV r).val,(yV r).upd++(vq h<|parts.toList.map λp=>(p.1,ρ p.2)).2,oslP<|parts.toList.map λp=>(p.1,ρ p.2)⟩
 |.build t parts=>
  (yl P t λd=>WN P d (vq h<|parts.toList.map λp=>(p.1,ρ p.2)).1).map λv=>⟨v,(vq h<|parts.toList.map λp=>(p.1,ρ p.2)).2,oslP<|parts.toList.map λp=>(p.1,ρ p.2)⟩
 |.makeSlice t l c=>yf P t λde=>(vi de fr (ρ l)<|ρ c).map λr=>⟨.c<|.a<|.osl fr de.size 0 r.1,[(fr,.arz de.size<|List.replicate r.1 r.2)],[]⟩
 |.lookup t x ix ok=>xg P t λm=>wo m h (ρ x) (ρ ix) ok
 |.mapUpdate t x k v=>xg P t λm=>yN m h (ρ x) (ρ k)<|ρ v
 |.makeMap _ none=>some ⟨.c<|.a<|.mp fr,[(fr,.mapz [])],[]⟩
 |_=>aop P o fr ρ λo=>flat<|h o
def YI (P:Program):List (Nat×Nat×TypeId)->List (Nat×Nat)
 |[]=> []
 |f::fs=>match tyOf P f.2.2 with
  |some d=>match d.kind with
   |.slice e=>match tyOf P e with
    |some de=>(f.1,de.size)::YI P fs
    |none=>YI P fs
   |_=>YI P fs
  |none=>YI P fs
def XB:List (Nat×Nat)->Nat->List WV->List WV
 |[],_,cs=>cs
 |(j,n)::l,fr,cs=>match cs.getD j (cell<|.bool true) with
  |.a (.fz .N)=>XB l (fr+1)<|cs.set j<|.a<|.osl fr n 0 0
  |_=>XB l (fr+1) cs
def dn:List (Nat×Nat)->Nat->AHeap
 |[],_=> []
 |(_,n)::l,fr=>(fr,.arz n [])::dn l (fr+1)
def yz (l:List<|Nat×Nat)(fr:Nat)(r:AR):AR:=
 match r.upd,Nat.ble l.length 30 with
 |[(o,.arr m [cs])],true=>⟨r.val,(o,.arr m [XB l (fr+1) cs])::dn l (fr+1),r.rd⟩
 |_,_=>r
def qF (fr:Nat)(h:Nat->AObj)(x y:TV)(r:AR):AR:=
 match x,y,r.upd with
 |.c (.a (.ep o _ i j)),.c _,[(o',.arr m es)]=>match r.rd.contains o with
  |true=>match h o with
   |.arr _ old=>match (old.getD i []).getD j (cell .N) with
    |.a (.osl _ k _ _)=>match (es.getD i []).getD j (cell<|.bool true) with
     |.a (.fz .N)=>⟨r.val,[(o',.arr m<|es.set i<|(es.getD i []).set j<|.a<|.osl (fr+1) k 0 0),(fr+1,.arz k [])],r.rd⟩
     |_=>r
    |_=>r
   |_=>r
  |false=>r
 |_,_,_=>r
def lM (P:Program)(e:TypeId)(fr:Nat)(r:AR):AR:=
 match tyOf P e with
  |some d=>match d.kind with
   |.struct fs=>match YI P fs with
    |[(0,6),(1,1)]=>match fs with
     |[_,_,_]=>r
     |_=>yz [(0,6),(1,1)] fr r
    |[(0,1)]=>match fs with
     |[_,(1,2,_)]=>r
     |_=>yz [(0,1)] fr r
    |(0,n)::l=>yz ((0,n)::l) fr r
    |[(1,8)]=>yz [(1,8)] fr r
    |[(1,6),_,_,(k,10)]=>yz [(k,10)] fr r
    |_=>r
   |.slice e=>match tyOf P e with
    |some de=>match de.size with
     |9=>yz [(0,9)] fr r
     |_=>r
    |none=>r
   |_=>r
  |none=>r
def qQ (P:Program)(o:Oper)(fr:Nat)(ρ:Operand->TV)(h:Nat->AObj)(r:AR):=
 match o.op with
 |.alloc e=>lM P e fr r
 |.box e _=>lM P e fr r
 |.store _ x y=>qF fr h (ρ x) (ρ y) r
 |_=>r
def aopS (P:Program)(o:Oper)(fr:Nat)(ρ:Operand->TV)(h:Nat->AObj):=(aopF P o fr ρ h).map<|qQ P o fr ρ h
def shut (ag:Bool)(us:List Value):=if ag then .agg us.toArray else us.getD 0 undef
inductive FRep (w:World)(X:Nat->Prop):FV->Value->Prop
 |int (k:IntKind) (n:Int):FRep w X (.int k n) (.int k n)
 |bool (b:Bool):FRep w X (.bool b) (.bool b)
 |str (l:List UInt8):FRep w X (.str l) (.string ⟨l.toArray⟩)
 |cst (v:Value):v.oneCell'=true->FRep w X (.cst v) v
 |N:FRep w X .N (.slice none 0 0)
 |slnil (n:Nat):FRep w X (.sl false n []) (.slice none 0 0)
 |sl0 (nn:Bool) (n:Nat) (a:Addr):FRep w X (.sl nn n []) (.slice (some a) 0 0)
 |z0 (nn:Bool) (a:Addr):FRep w X (.z0 nn) (.slice (some a) 0 0)
 |z0n:FRep w X (.z0 false) (.slice none 0 0)
 |sl (nn:Bool) (n:Nat) (es:List (List FV)) (b off cap len:Nat) (u:Nat->Nat->Value):
   len=es.length->es.length<=cap->¬X b->b<w.heap.size->(∀(i:Nat) (e:List FV),es[i]?=some e->e.length=n)->(∀(i j:Nat) (e:List FV) (f:FV),es[i]?=some e->e[j]?=some f->w.cell? ⟨b,off+i*n+j,none⟩=some (u i j))->(∀(i j:Nat) (e:List FV) (f:FV),es[i]?=some e->e[j]?=some f->FRep w X f (u i j))->
   FRep w X (.sl nn n es) (.slice (some ⟨b,off,none⟩) len cap)
 |pt (cs:List FV) (b off:Nat) (u:Nat->Value):¬X b->b<w.heap.size->(∀(j:Nat) (f:FV),cs[j]?=some f->w.cell? ⟨b,off+j,none⟩=some (u j))->(∀(j:Nat) (f:FV),cs[j]?=some f->FRep w X f (u j))->
   FRep w X (.pt cs) (.pointer<|some ⟨b,off,none⟩)
 |mp (es:List MapZ) (b:Nat) (ms:List MapEntry) (ku vu:Nat->List Value):¬X b->b<w.heap.size->w.heap[b]?=some (.map ms.toArray ms.length)->ms.length=es.length->(∀(i:Nat) (m:MapEntry),ms[i]?=some m->m.born=i)->(∀(i:Nat) (e:MapZ) (m:MapEntry),es[i]?=some e->ms[i]?=some m->(m.key=shut e.1.1 (ku i)/\e.1.2.length=(ku i).length/\(e.1.1=false->e.1.2.length=1))/\m.val=shut e.2.1 (vu i)/\e.2.2.length=(vu i).length/\(e.2.1=false->e.2.2.length=1))->(∀(i j:Nat) (e:MapZ) (f:FV) (u:Value),es[i]?=some e->e.1.2[j]?=some f->(ku i)[j]?=some u->FRep w X f u)->(∀(i j:Nat) (e:MapZ) (f:FV) (u:Value),es[i]?=some e->e.2.2[j]?=some f->(vu i)[j]?=some u->FRep w X f u)->
   FRep w X (.mp es) (.map<|some b)
inductive ARep (w:World)(X:Nat->Prop)(β:Nat->Option Nat):AV->Value->Prop
 |fz (x:FV) (v:Value):FRep w X x v->ARep w X β (.fz x) v
 |ep (o n i j b:Nat):β o=some b->ARep w X β (.ep o n i j) (.pointer (some ⟨b,i*n+j,none⟩))
 |osl (o n off len b q cap sz:Nat) (t:TypeId):β o=some b->w.shape? b=some (t,sz)->len<=cap->(off+cap)*n<=sz->(q=off*n\/cap=0)->
   ARep w X β (.osl o n off len) (.slice (some ⟨b,q,none⟩) len cap)
 |oslN (o n off:Nat):ARep w X β (.osl o n off 0) (.slice none 0 0)
 |mp (o b:Nat):β o=some b->ARep w X β (.mp o) (.map (some b))
 |any (v:Value):v.oneCell'=true->ARep w X β .any v
 |bld (t:TypeId) (o b:Nat) (v:Value):β o=some b->w.shape? b=some (t,2)->v=.pointer none\/v=.pointer (some ⟨b,0,none⟩)->ARep w X β (.bld t o) v
 |osb (o:Nat) (e:TypeId) (len b cap:Nat):β o=some b->w.shape? b=some (e,cap)->len<=cap->cap<=maxLen->ARep w X β (.osb o e len) (.slice (some ⟨b,0,none⟩) len cap)
def LRep {α:Type}(R:α->Value->Prop)(cs:List α)(us:List Value):Prop:=cs.length=us.length/\∀(j:Nat) (c:α) (u:Value),cs[j]?=some c->us[j]?=some u->R c u
def PRep {α:Type}(R:α->Value->Prop)(p:Bool×List α)(v:Value):Prop:=∃us,v=shut p.1 us/\LRep R p.2 us/\(p.1=false->p.2.length=1)
inductive WRep (w:World)(X:Nat->Prop)(β:Nat->Option Nat):WV->Value->Prop
 |a (x:AV) (v:Value):ARep w X β x v->WRep w X β (.a x) v
 |fn (f:Fn) (first captured:List (Bool×List AV)) (us vs:List Value):LRep (PRep (ARep w X β)) first us->LRep (PRep (ARep w X β)) captured vs->
   WRep w X β (.fn f first captured) (.func f us.toArray vs.toArray)
def TRep (w:World)(X:Nat->Prop)(β:Nat->Option Nat):TV->Value->Prop
 |.any,_=>True
 |.c x,v=>WRep w X β x v
 |.agg cs,v=> ∃us,v=.agg us.toArray/\LRep (WRep w X β) cs us
 |.tup vs,v=> ∃us,v=.tuple us.toArray/\LRep (PRep<|WRep w X β) vs us
def ORep (w:World)(X:Nat->Prop)(β:Nat->Option Nat)(o:AObj)(b:Nat):Prop:=
 match flat o with
 |.gone=>True
 |.arz _ _=>True
 |.mapz _=>True
 |.arr n es=> ∃(us:List Value) (t:TypeId),w.heap[b]?=some (.cells us.toArray t (0,0))/\es.length*n<=us.length/\(∀e∈es,e.length=n)/\
   ∀(i j:Nat) (e:List WV) (c:WV),es[i]?=some e->e[j]?=some c->∃u,us[i*n+j]?=some u/\WRep w X β c u
 |.mapo es=> ∃(ms:List MapEntry) (clock:Nat),w.heap[b]?=some (.map ms.toArray clock)/\ms.length=es.length/\
   (∀(i:Nat) (e:(Bool×List FV)×(Bool×List WV)) (m:MapEntry),es[i]?=some e->ms[i]?=some m->PRep (FRep w X) e.1 m.key/\PRep (WRep w X β) e.2 m.val)/\
   clock=ms.length/\(∀(i:Nat) (m:MapEntry),ms[i]?=some m->m.born=i)
structure Good (w0:World)(foot:Nat->Prop)(w:World):Prop where
 size:w0.heap.size<=w.heap.size
 blk:∀b,b<w0.heap.size->¬foot b->w.heap[b]?=w0.heap[b]?
 shp:∀b,b<w0.heap.size->w.shape? b=w0.shape? b
 os:w.os=w0.os
 tape:w.tape=w0.tape
 output:w.output=w0.output
def isLive:AObj->Prop
 |.gone=>False
 |_=>True
def bareO (x:AObj):Prop:=∃n,flat x=.arr n []
def Own (h:Nat->AObj)(β:Nat->Option Nat)(b:Nat):Prop:=∃o,isLive (h o)/\β o=some b
structure Objs (h:Nat->AObj)(β:Nat->Option Nat)(Y:Nat->Prop)(w:World):Prop where
 rep:∀o b,isLive (h o)->β o=some b->ORep w (λb=>Y b\/Own h β b) β (h o) b
 has:∀o,isLive (h o)->(∃b,β o=some b/\b<w.heap.size/\¬Y b)\/(bareO (h o)/\β o=none)
 inj:∀o o' b,isLive (h o)->isLive (h o')->β o=some b->β o'=some b->o=o'
 lt:∀o b,β o=some b->b<w.heap.size
def Objs.here {h β Y w}(i:Objs h β Y w){o b}(g:isLive<|h o)(e:β o=some b):b<w.heap.size/\¬Y b:=by
 rcases i.has o g with⟨m,d,j,f⟩|⟨_,d⟩
 .grind
 .grind
def xp (P:Program)(f:FuncId):Bool:=
 match P.funcs[f]? with
 |some fn=> !(fn.name== "runtime.NumGoroutine")&&fn.body.isSome
 |none=>false
def Gl (P:Program)(w:World)(foot:Nat->Prop):Prop:=∀g,P.globalNamed "internal/strconv.uint64pow10" =some g->Lib.TabIs P w "internal/strconv.uint64pow10" .u64 Lib.pow10Tab/\¬foot g/\g<w.heap.size
def Gl.later {P w w' foot d}(h:Gl P w foot)(g:Good w foot w')(o:∀b,b<w.heap.size->d b->foot b):Gl P w' d:=λk i=>by let ⟨f,j,e⟩:=h k i;refine⟨?_,λm=>j<|o k e m,SM e g.size⟩;unfold Lib.TabIs World.var? at*;rw[i] at f ⊢;simp[Gv] at f ⊢;rw[g.blk k e j];exact f
def Gl.sub {P w foot d}(h:Gl P w foot)(g:∀b,d b->foot b):Gl P w d:=λk e=>let ⟨h1,h2,h3⟩:=h k e;⟨h1,λf=>h2<|g k f,h3⟩
def AC (P:Program)(f:FuncId)(args:List TV)(Hs:List AObj)(r:TV)(Hs':List AObj):Prop:=
 xp P f=true/\Hs.length<=Hs'.length/\
 ∀(w:World) (vals:List Value) (β:Nat->Option Nat) (Y:Nat->Prop),
  (∀o b,β o=some b->o<Hs.length)->(∀b,Y b->b<w.heap.size)->Gl P w (Own (λo=>Hs.getD o .gone) β)->
  Objs (λo=>Hs.getD o .gone) β Y w->
  LRep (TRep w (λb=>Y b\/Own (λo=>Hs.getD o .gone) β b) β) args vals->
  Calls P f vals.toArray w λe w'=> ∃v β',e=.returned v/\
   Good w (Own (λo=>Hs.getD o .gone) β) w'/\
   Objs (λo=>Hs'.getD o .gone) β' Y w'/\
   TRep w' (λb=>Y b\/Own (λo=>Hs'.getD o .gone) β' b) β' r v/\
   (∀o b,β' o=some b->o<Hs'.length)/\
   (∀o,o<Hs.length->β' o=β o)/\
   (∀o b,Hs.length<=o->β' o=some b->w.heap.size<=b\/Own (λo=>Hs.getD o .gone) β b)
def ZF {w w':World}{b d}(h:w'.heap[b]?=w.heap[b]?):w'.cell? ⟨b,d,none⟩=w.cell? ⟨b,d,none⟩:=by simp[World.cell?,h]
def FRep.mono {w w' X X' f v} (h:FRep w X f v) (J:w.heap.size<=w'.heap.size)
  (o:∀b,¬X b->b<w.heap.size->w'.heap[b]?=w.heap[b]? /\¬X' b):FRep w' X' f v:=by
 induction h with
 |int k n=>exact .int k n
 |bool b=>exact .bool b
 |str l=>exact .str l
 |cst v h=>exact .cst v h
 |N=>exact .N
 |slnil n=>exact .slnil n
 |sl0 r n a=>exact .sl0 r n a
 |z0 r a=>exact .z0 r a
 |z0n=>exact .z0n
 |sl r n es b g cap A u y x m d z p G ih=>exact .sl r n es b g cap A u y x (o b m d).2 za z (λi j e f F C=>(ZF (o b m d).1).trans<|p i j e f F C) ih
 |pt cs b g u m d p G ih=>exact .pt cs b g u (o b m d).2 za (λj f C=>(ZF (o b m d).1).trans<|p j f C) ih
 |mp es b ms H I y x m d z p _ _ E D=>exact .mp es b ms H I (o b y x).2 za ((o b y x).1.trans m) d z p E D
def ARep.mono {w w' X X' β u f v} (h:ARep w X β f v) (E:w.heap.size<=w'.heap.size)
  (C:∀b,¬X b->b<w.heap.size->w'.heap[b]?=w.heap[b]? /\¬X' b) (m:∀b,b<w.heap.size->w'.shape? b=w.shape? b)
  (d:∀o b,β o=some b->u o=some b/\b<w.heap.size):ARep w' X' u f v:=by
 cases h with
 |fz x v h=>exact .fz x v<|h.mono E C
 |ep o n i j b h=>exact .ep o n i j b (d _ _ h).1
 |osl o n r p b q cap sz t g y z A D=>exact .osl o n r p b q cap sz t (d _ _ g).1 ((m _ (d _ _ g).2).trans y) z A D
 |oslN o n r=>exact .oslN o n r
 |mp o b h=>exact .mp o b (d _ _ h).1
 |any v h=>exact .any v h
 |bld t o b v g y z=>exact .bld t o b v (d _ _ g).1 ((m _ (d _ _ g).2).trans y) z
 |osb o e p b cap g y z A=>exact .osb o e p b cap (d _ _ g).1 ((m _ (d _ _ g).2).trans y) z A
def LRep.imp {α R R'}{cs:List α}{b}(h:LRep R cs b)(e:∀c u,c∈cs->R c u->R' c u):LRep R' cs b:=
 ⟨h.1,λj c u d f=>e c u (Sl d)<|h.2 j c u d f⟩
def PRep.imp {α R R'}{p:Bool×List α}{v}(h:PRep R p v)(b:∀c u,c∈p.2->R c u->R' c u):PRep R' p v:=
 let ⟨us,h1,h2,h3⟩:=h;⟨us,h1,h2.imp b,h3⟩
structure Goes (w w':World)(X X':Nat->Prop)(β β':Nat->Option Nat):Prop where
 size:w.heap.size<=w'.heap.size
 blk:∀b,¬X b->b<w.heap.size->w'.heap[b]?=w.heap[b]? /\¬X' b
 shp:∀b,b<w.heap.size->w'.shape? b=w.shape? b
 bet:∀o b,β o=some b->β' o=some b/\b<w.heap.size
def FRep.goes {w w' X X' β b f v}(h:FRep w X f v)(g:Goes w w' X X' β b):FRep w' X' f v:=h.mono g.size g.blk
def ARep.goes {w w' X X' β b f v}(h:ARep w X β f v)(g:Goes w w' X X' β b):ARep w' X' b f v:=h.mono g.size g.blk g.shp g.bet
def WRep.goes {w w' X X' β d f v}(h:WRep w X β f v)(g:Goes w w' X X' β d):WRep w' X' d f v:=by
 cases h with
 |a x v h=>exact .a x v<|h.goes g
 |fn f first b i vs j e=>exact .fn f first b i vs (j.imp λ_ _ _ h=>h.imp λ_ _ _ h=>h.goes g) (e.imp λ_ _ _ h=>h.imp λ_ _ _ h=>h.goes g)
def TRep.goes {w w' X X' β b f v}(h:TRep w X β f v)(g:Goes w w' X X' β b):TRep w' X' b f v:=by
 cases f with
 |any=>trivial
 |c x=>exact WRep.goes h g
 |agg cs=>let ⟨d,e,i⟩:=h;exact⟨d,e,i.imp λ_ _ _ h=>h.goes g⟩
 |tup vs=>let ⟨d,e,i⟩:=h;exact⟨d,e,i.imp λ_ _ _ h=>h.imp λ_ _ _ h=>h.goes g⟩
def ORep.goes {w w':World}{X X':Nat->Prop}{β r:Nat->Option Nat}{o:AObj}{b:Nat}(h:ORep w X β o b)(g:Goes w w' X X' β r)(A:w'.heap[b]?=w.heap[b]?):ORep w' X' r o b:=by
 have key:∀n es,ORep w X β (.arr n es) b->ORep w' X' r (.arr n es) b:=by intro n es h;obtain⟨F,t,f,v,z,d⟩:=h;exact⟨F,t,A.trans f,v,z,λi j e c p D=>let ⟨u,hu,hr⟩:=d i j e c p D;⟨u,hu,hr.goes g⟩⟩
 cases o with
 |gone=>trivial
 |arz n H=>exact key _ _ h
 |arr n es=>obtain⟨F,t,f,v,z,d⟩:=h;exact⟨F,t,A.trans f,v,z,λi j e c p D=>let ⟨u,hu,hr⟩:=d i j e c p D;⟨u,hu,hr.goes g⟩⟩
 |mapo es=>obtain⟨ms,C,f,v,z,d,E⟩:=h;exact⟨ms,C,A.trans f,v,λi e m p G=>let ⟨x,y⟩:=z i e m p G;⟨x.imp λ_ _ _ h=>h.goes g,y.imp λ_ _ _ h=>h.goes g⟩,d,E⟩
 |mapz es=>obtain⟨ms,C,f,v,z,d,E⟩:=h;exact⟨ms,C,A.trans f,v,λi e m p G=>let ⟨x,y⟩:=z i e m p G;⟨x.imp λ_ _ _ h=>h.goes g,y.imp λ_ _ _ h=>h.goes g⟩,d,E⟩
def Good.refl (w foot):Good w foot w:=⟨EI _,λ_ _ _=>rfl,λ_ _=>rfl,rfl,rfl,rfl⟩
def Good.trans {a b c f g}(h:Good a f b)(k:Good b g c)(j:∀x,x<a.heap.size->g x->f x):Good a f c:=
 ⟨SW h.size k.size,λx d i=>(k.blk x (SM d h.size) λe=>i<|j x d e).trans<|h.blk x d i,
  λx d=>(k.shp x<|SM d h.size).trans (h.shp x d),k.os.trans h.os,k.tape.trans h.tape,k.output.trans h.output⟩
def Good.drew {a b f}(h:Good a f b):Good a f {b with drawn:=b.drawn+1}:=⟨h.size,h.blk,h.shp,h.os,h.tape,h.output⟩
structure Moves (h h':Nat->AObj)(β β':Nat->Option Nat)(Y:Nat->Prop)(w w':World)(fr:Nat->Prop):Prop where
 good:Good w (Own h β) w'
 objs:Objs h' β' Y w'
 bmono:∀o b,β o=some b->β' o=some b
 bnew:∀o b,β' o=some b->β o=some b\/(fr o/\(w.heap.size<=b\/Own h β b))
 lmono:∀o,isLive (h' o)->isLive (h o)\/fr o
def Moves.goes {h h' β d Y w w' fr}(m:Moves h h' β d Y w w' fr)(v:Objs h β Y w)(i:∀o,fr o->β o=none):
  Goes w w' (λb=>Y b\/Own h β b) (λb=>Y b\/Own h' d b) β d:=by
 refine⟨m.good.size,λb f e=>⟨m.good.blk b e λh=>f<|.inr h,λg=>?_⟩,m.good.shp,λo b e=>⟨m.bmono o b e,v.lt o b e⟩⟩;rcases g with u|⟨o,r,p⟩
 .grind
 .rcases m.bnew o b p with hb' |⟨hf,hb' |hb'⟩
  .rcases m.lmono o r with j|hf
   .exact f<|.inr ⟨o,j,hb'⟩
   .grind
  .omega
  .grind
def Moves.refl {h h' β Y w}(d:Objs h β Y w)(b:∀o,h' o=h o):Moves h h' β β Y w w (λ_=>False):=by have:h'=h:=funext b;subst this;exact⟨Good.refl _ _,d,λ_ _ h=>h,λ_ _ h=>.inl h,λ_ h=>.inl h⟩
def LRep.map {α f R R'}{g:α->f}{cs e}(h:LRep R cs e)(m:∀c u,c∈cs->R c u->R' (g c) u):LRep R' (cs.map g) e:=by refine⟨by simp[h.1],λj c u i o=>?_⟩;rw[EX] at i;obtain⟨d,b,rfl⟩:=EM.1 i;exact m d u (Sl b)<|h.2 j d u b o
def LRep.unmap {α d R R'}{g:α->d}{cs b}(h:LRep R' (cs.map g) b)(f:∀c u,c∈cs->R' (g c) u->R c u):LRep R cs b:=by exact⟨by have:=h.1;exact zl this,λj c u e i=>(f c u (Sl e)<|h.2 j (g c) u (by rw[EX,e];rfl) i)⟩
def PRep.map {α b R R'}{g:α->b}{p v}(h:PRep R p v)(d:∀c u,c∈p.2->R c u->R' (g c) u):PRep R' (p.1,p.2.map g) v:=
 let ⟨us,h1,h2,h3⟩:=h;⟨us,h1,h2.map d,λh=>by simpa using h3 h⟩
def PRep.unmap {α b R R'}{g:α->b}{p v}(h:PRep R' (p.1,p.2.map g) v)(d:∀c u,c∈p.2->R' (g c) u->R c u):PRep R p v:=
 let ⟨us,h1,h2,h3⟩:=h;⟨us,h1,h2.unmap d,λh=>zd⟩
structure St where
 env:Env
 heap:AHeap
 nx:Nat
def putE (d:Option Nat)(v:TV)(e:Env):Env:=
 match d with
 |some i=>(i,v)::e
 |none=>e
def want (ops:Array Oper)(o:Oper)(e:Nat->TV):Option Bool:=
 match o.guard with
 |none=>some true
 |some (j,b)=>match ((ops[j]?).bind (·.dst)).map e with
  |some (.c (.a (.fz (.bool x))))=>some<|x==b
  |some (.tup [])=>some false
  |_=>none
def AV.ren (σ:Nat->Nat):AV->AV
 |.ep o n i j=>.ep (σ o) n i j
 |.osl o n off len=>.osl (σ o) n off len
 |.mp o=>.mp<|σ o
 |.bld t o=>.bld t<|σ o
 |.osb o e n=>.osb (σ o) e n
 |x=>x
def WV.ren (σ:Nat->Nat):WV->WV
 |.a x=>.a<|x.ren σ
 |.fn f first cap=>.fn f (first.map λp=>(p.1,p.2.map<|AV.ren σ))<|cap.map λp=>(p.1,p.2.map<|AV.ren σ)
def TV.ren (σ:Nat->Nat):TV->TV
 |.any=>.any
 |.c x=>.c<|x.ren σ
 |.agg cs=>.agg<|cs.map<|WV.ren σ
 |.tup vs=>.tup<|vs.map λp=>(p.1,p.2.map<|WV.ren σ)
def AObj.ren (σ:Nat->Nat):AObj->AObj
 |.gone=>.gone
 |.arr n es=>.arr n<|es.map λe=>e.map<|WV.ren σ
 |.arz n fs=>.arz n fs
 |.mapo es=>.mapo<|es.map λe=>(e.1,(e.2.1,e.2.2.map<|WV.ren σ))
 |.mapz es=>.mapz es
def AV.lt (m:Nat):AV->Bool
 |.ep o _ _ _=>o<m
 |.osl o _ _ _=>o<m
 |.mp o=>o<m
 |.bld _ o=>o<m
 |.osb o _ _=>o<m
 |_=>true
def WV.lt (m:Nat):WV->Bool
 |.a x=>x.lt m
 |.fn _ first cap=>(first.all λp=>p.2.all<|AV.lt m)&&(cap.all λp=>p.2.all<|AV.lt m)
def TV.lt (m:Nat):TV->Bool
 |.any=>true
 |.c x=>x.lt m
 |.agg cs=>cs.all<|WV.lt m
 |.tup vs=>vs.all λp=>p.2.all<|WV.lt m
def AObj.lt (m:Nat):AObj->Bool
 |.gone=>true
 |.arr _ es=>es.all λe=>e.all<|WV.lt m
 |.arz _ _=>true
 |.mapo es=>es.all λe=>e.2.2.all<|WV.lt m
 |.mapz _=>true
inductive FV.Le:FV->FV->Prop
 |refl (x:FV):FV.Le x x
 |N (n:Nat):FV.Le .N (.sl false n [])
 |nn (b:Bool) (n:Nat) (es:List (List FV)):FV.Le (.sl b n es) (.sl false n es)
 |z0 (nn:Bool) (n:Nat):FV.Le (.z0 nn) (.sl nn n [])
 |rows (b:Bool) (n:Nat) (es es':List (List FV)):es.length=es'.length->(∀(i:Nat) (e e':List FV),es[i]?=some e->es'[i]?=some e'->e.length=e'.length)->(∀(i j:Nat) (e e':List FV) (f f':FV),es[i]?=some e->es'[i]?=some e'->e[j]?=some f->e'[j]?=some f'->FV.Le f f')->FV.Le (.sl b n es) (.sl b n es')
 |trans (x y z:FV):FV.Le x y->FV.Le y z->FV.Le x z
def All2 {α β:Type}(R:α->β->Prop):List α->List β->Prop
 |[],[]=>True
 |x::xs,y::ys=>R x y/\All2 R xs ys
 |_,_=>False
abbrev Lent:=List<|Nat×Nat×List (List FV)
def Lent.ok (L:Lent)(h:Nat->AObj):=∀p∈L,flat (h p.1)=.arr p.2.1 (p.2.2.map fzs)
def zZ {α:Type}:List (Nat×α)->Nat->Option α
 |[],_=>none
 |(j,x)::l,i=>if j=i then some x else zZ l i
def AV.lend (L:Lent):AV->AV
 |.osl o n off len=>match zZ L o with
  |some p=>if n=p.1/\off+len<=p.2.length then .fz (.sl false n<|(p.2.drop off).take len) else .osl o n off len
  |none=>.osl o n off len
 |x=>x
def WV.lend (L:Lent):WV->WV
 |.a x=>.a<|x.lend L
 |x=>x
def TV.lend (L:Lent):TV->TV
 |.c x=>.c<|x.lend L
 |.agg cs=>.agg<|cs.map<|WV.lend L
 |x=>x
def AObj.lend (L:Lent):AObj->AObj
 |.arr n es=>.arr n<|es.map λe=>e.map<|WV.lend L
 |x=>x
def FV.scalar:FV->Bool
 |.sl _ _ _=>false
 |.pt _=>false
 |.mp _=>false
 |_=>true
def AV.scalar:AV->Bool
 |.fz x=>x.scalar
 |.any=>false
 |_=>true
def WV.scalar:WV->Bool
 |.a x=>x.scalar
 |_=>false
def TV.scalar:TV->Bool
 |.any=>true
 |.c x=>x.scalar
 |.agg cs=>cs.all WV.scalar
 |.tup vs=>vs.all λp=>p.2.all WV.scalar
def over (u:AHeap)(h:Nat->AObj)(o:Nat):AObj:=match zZ u o with|some x=>x|none=>h o
def sub (ids:List Nat)(fr o:Nat):=if o<ids.length then ids.getD o 0 else fr+(o-ids.length)
inductive AV.Le:AV->AV->Prop
 |refl (x:AV):AV.Le x x
 |fz (x y:FV):FV.Le x y->AV.Le (.fz x) (.fz y)
 |any (x:AV):AV.Le x .any
inductive WV.Le:WV->WV->Prop
 |refl (x:WV):WV.Le x x
 |a (x y:AV):AV.Le x y->WV.Le (.a x) (.a y)
inductive TV.Le:TV->TV->Prop
 |refl (x:TV):TV.Le x x
 |any (x:TV):TV.Le x .any
 |c (x y:WV):WV.Le x y->TV.Le (.c x) (.c y)
 |agg (xs ys:List WV):xs.length=ys.length->(∀(i:Nat) (x y:WV),xs[i]?=some x->ys[i]?=some y->WV.Le x y)->TV.Le (.agg xs) (.agg ys)
 |tup (xs ys:List (Bool×List WV)):xs.length=ys.length->(∀(i:Nat) (p q:Bool×List WV),xs[i]?=some p->ys[i]?=some q->p.1=q.1/\p.2.length=q.2.length/\
   ∀(j:Nat) (x y:WV),p.2[j]?=some x->q.2[j]?=some y->WV.Le x y)->TV.Le (.tup xs) (.tup ys)
def xI (σ:Nat->Nat)(fr:Nat):List AObj->AHeap
 |[]=> []
 |o::r=>(fr,o.ren σ)::xI σ (fr+1) r
def yr (σ:Nat->Nat):List Nat->List AObj->AHeap
 |i::ids,o::r=>(i,o.ren σ)::yr σ ids r
 |_,_=> []
def CallK (P:Program)(f:FuncId)(args:List TV)(h:Nat->AObj)(fr:Nat)(K:TV->AHeap->List Nat->Prop):Prop:=
 ∃(ids:List Nat) (L:Lent) (args':List TV) (Hs:List AObj) (r:TV) (Hs':List AObj),
  AC P f args' Hs r Hs'/\(ids.Nodup/\∀i∈ids,i<fr)/\Hs'.length<=ids.length+32/\
  (Hs.map (AObj.ren<|sub ids fr)=ids.map h/\Hs.all (AObj.lt ids.length)=true)/\
  All2 TV.Le (args.map<|TV.lend L) (args'.map<|TV.ren<|sub ids fr)/\args'.all (TV.lt ids.length)=true/\(∀i∈ids,isLive<|h i)/\
  (L=[]\/(L.ok h/\(∀p∈L,p.1 ∉ ids)/\r.scalar=true/\Hs'=[]))/\
  ∃F:List Nat,(∀i∈F,zZ (yr (sub ids fr) ids Hs') i=some (h i))/\
  K (r.ren<|sub ids fr) ((yr (sub ids fr) ids Hs'++xI (sub ids fr) fr (Hs'.drop ids.length)).filter λp=> !F.contains p.1) (ids++L.map Prod.fst)
def CallE (P:Program)(f:FuncId)(args:List TV)(h:Nat->AObj)(fr:Nat)(K:TV->AHeap->List Nat->Prop):Prop:=
 ∃E:Lent,E.ok h/\CallK P f (args.map<|TV.lend E) (over (E.map λp=>(p.1,AObj.gone)) h) fr
  (λr u rd=>K r (u++E.map λp=>(p.1,AObj.gone))<|rd++E.map Prod.fst)
def calleeOf (ρ:Operand->TV)(c:Call):Option (FuncId×List TV):=
 match c.callee with
 |.value x=>match ρ x with
  |.c (.fn (.func f) first cap)=>some (f,first.map (λp=>match p with|(true,cs)=>TV.agg (cs.map WV.a)|(false,[x])=>TV.c (.a x)|_=>TV.any)++c.args.toList.map ρ++cap.map λp=>match p with|(true,cs)=>TV.agg (cs.map WV.a)|(false,[x])=>TV.c (.a x)|_=>TV.any)
  |_=>none
 |_=>none
abbrev wj:=List<|List Nat×List Nat
def goCall:Op->Option Call
 |.call ⟨.value x,a9,ts⟩=>some ⟨.value x,a9,ts⟩
 |_=>none
def lW (P:Program)(fr:Nat)(o:Oper)(e:Env)(h:AHeap)(tr:wj)(next:Env->AHeap->wj->Prop):Prop:=
 match goCall o.op with
 |some c=>
  match calleeOf (ev e) c with
  |some (f,args)=>CallE P f args (hook h) fr λr h' ids=>next (putE o.dst r e) (h'++h) ((ids,h'.map Prod.fst)::tr)
  |none=>False
 |none=>
  match aopS P o fr (ev e) (hook h) with
  |some r=>next (putE o.dst r.val e) (r.upd++h) ((r.rd,r.upd.map Prod.fst)::tr)
  |none=>False
def gj (ops:Array Oper)(o:Oper)(e:Env)(h:AHeap)(tr:wj)(yes:Prop)(next:Env->AHeap->wj->Prop):Prop:=
 match want ops o (look e) with
 |none=>False
 |some w=>if w=true then yes else next (putE o.dst (.tup []) e) h (([],[])::tr)
def lex (P:Program)(ops:Array Oper)(nx:Nat):List Oper->Nat->Env->AHeap->wj->(Env->AHeap->wj->Prop)->Prop
 |[],_,e,h,tr,K=>K e h tr
 |o::rest,i,e,h,tr,K=>gj ops o e h tr (lW P (nx+32*i) o e h tr λe h tr=>lex P ops nx rest (i+1) e h tr K) λe h tr=>lex P ops nx rest (i+1) e h tr K
def Jj (ops:Array Oper)(tr:wj):Bool:=
 let b:=Region.before ops;let l:=ops.toList.zip tr.reverse
 (l.length==ops.size)&&(ops.toList.zipIdx.all λp=>p.1.after.all λe=> !Region.binds .any e||e.on<p.2) &&
 l.zipIdx.all λy=>l.zipIdx.all λx=> !(x.2<y.2)||(b.getD y.2 0).testBit x.2 ||
  (x.1.1.apart ops y.1.1&&(x.1.2.2.all λo=> !(y.1.2.1.contains o) && !(y.1.2.2.contains o))&&(y.1.2.2.all λo=> !(x.1.2.1.contains o)))
def dstB (ops:Array Oper)(n:Nat):Bool:=ops.all λo=>match o.dst with|some d=>d<n|none=>true
def wU {P t d}(h:tyOf P t=some d):∃i u,P.info? t=some i/\P.underlying t=some u/\
  d.agg=(match u with|.struct _|.array _ _=>true|_=>false)/\d.size=i.size/\d.bytes=i.bytes/\
  d.zero=(match i.zero with|some z=>if z.cells.all Value.oneCell' then some (z.cells.toList.map fvOf) else none|none=>none)/\d.kind=xM P u:=by
 unfold tyOf at h;grind
def zX {P t d}(h:tyOf P t=some d)(w):(sizeOf t).run P w=.ok d.size w:=by let ⟨i,u,e,f,_,b,_⟩:=wU h;simp[sizeOf,typeInfo,e,b]
def jQ {P t d}(h:tyOf P t=some d)(w):(isAgg t).run P w=.ok d.agg w:=by let ⟨i,u,f,b,e,_⟩:=wU h;rw[e];cases u<;>simp[isAgg,EZ b]
def pS (w X v)(h:v.oneCell'=true):FRep w X (fvOf v) v:=by
 unfold fvOf;split
 .exact .int _ _
 .exact .bool _
 .exact .str _
 .exact .N
 .exact .cst _ h
def tvOf_rep (w X β v):TRep w X β (tvOf v) v:=by
 unfold tvOf;split
 .rename_i cs;split
  .rename_i e;refine⟨cs.toList,zb,zb,λj c u b d=>?_⟩;simp[EX,d,S2,EO] at b;subst b;refine .a _ _<|.fz _ _<|pS w X u ?_;grind
  .trivial
 .trivial
 .exact .a _ _<|.fz _ _<|.int _ _
 .exact .a _ _<|.fz _ _<|.bool _
 .exact .a _ _<|.fz _ _<|.str _
 .exact .a _ _<|.fz _ _ .N
 .rename_i v o h f m i g;refine .a _ _<|.fz _ _<|.cst _ ?_;cases v<;>simp_all[Value.oneCell']
section
variable {w:World} {X:Nat->Prop} {β:Nat->Option Nat}
def TRep.int_inv {k n v}(h:TRep w X β (.c<|.a<|.fz<|.int k n) v):v=.int k n:=by cases h with|a _ _ h=>cases h with|fz _ _ h=>cases h;rfl
def TRep.bool_inv {b v}(h:TRep w X β (.c<|.a<|.fz<|.bool b) v):v=.bool b:=by cases h with|a _ _ h=>cases h with|fz _ _ h=>cases h;rfl
def TRep.str_inv {l v}(h:TRep w X β (.c<|.a<|.fz<|.str l) v):v=.string ⟨l.toArray⟩:=by cases h with|a _ _ h=>cases h with|fz _ _ h=>cases h;rfl
def TRep.nils_inv {v}(h:TRep w X β (.c<|.a<|.fz .N) v):v=.slice none 0 0:=by cases h with|a _ _ h=>cases h with|fz _ _ h=>cases h;rfl
def TRep.ep_inv {o n i j v}(h:TRep w X β (.c<|.a<|.ep o n i j) v):∃b,β o=some b/\v=.pointer (some ⟨b,i*n+j,none⟩):=by cases h with|a _ _ h=>cases h with|ep _ _ _ _ b h=>exact⟨b,h,rfl⟩
def TRep.osl_inv {o n e d v}(h:TRep w X β (.c<|.a<|.osl o n e d) v):
  (∃b q cap sz t,β o=some b/\w.shape? b=some (t,sz)/\d<=cap/\(e+cap)*n<=sz/\(q=e*n\/cap=0)/\v=.slice (some ⟨b,q,none⟩) d cap)\/d=0/\v=.slice none 0 0:=by
 cases h with|a _ _ h=>cases h with
  |osl _ _ _ _ b q cap sz t g j i f m=>exact .inl ⟨b,q,cap,sz,t,g,j,i,f,m,rfl⟩
  |oslN=>exact .inr ⟨rfl,rfl⟩
def TRep.mp_inv {o v}(h:TRep w X β (.c<|.a<|.mp o) v):∃b,β o=some b/\v=.map (some b):=by cases h with|a _ _ h=>cases h with|mp _ b h=>exact⟨b,h,rfl⟩
def TRep.fz_inv {x v}(h:TRep w X β (.c<|.a<|.fz x) v):FRep w X x v:=by cases h with|a _ _ h=>cases h with|fz _ _ h=>exact h
def TRep.fz_mk {x v}(h:FRep w X x v):TRep w X β (.c<|.a<|.fz x) v:=.a _ _<|.fz _ _ h
def TRep.int_mk (k n):TRep w X β (.c<|.a<|.fz<|.int k n) (.int k n):=.a _ _<|.fz _ _<|.int _ _
def TRep.bool_mk (b):TRep w X β (.c<|.a<|.fz<|.bool b) (.bool b):=.a _ _<|.fz _ _<|.bool _
def TRep.str_mk (l):TRep w X β (.c<|.a<|.fz<|.str l) (.string ⟨l.toArray⟩):=.a _ _<|.fz _ _<|.str _
def FRep.oneCell {x v}(h:FRep w X x v):v.oneCell'=true:=by cases h<;>first|rfl|assumption
def WRep.oneCell {x v}(h:WRep w X β x v):v.oneCell'=true:=by
 cases h with
 |a x v h=>cases h<;>first|rfl|assumption|(rename_i h;exact h.oneCell)|(rename_i h;rcases h with rfl|rfl<;>rfl)
 |fn=>rfl
def LRep.take {α R}{cs:List α}{e}(h:LRep R cs e)(n):LRep R (cs.take n) (e.take n):=by
 refine⟨by simp[h.1],λj c u b d=>?_⟩;rw[Sy] at b d;split at b
 .simp_all only [↓reduceIte];exact h.2 j c u b d
 .cases b
def LRep.drop {α R}{cs:List α}{e}(h:LRep R cs e)(n):LRep R (cs.drop n) (e.drop n):=by refine⟨by simp[h.1],λj c u d b=>?_⟩;rw[SS] at d b;exact h.2 _ c u d b
def LRep.append {α R}{cs e:List α}{f vs}(h:LRep R cs f)(k:LRep R e vs):LRep R (cs++e) (f++vs):=by
 refine⟨by simp[h.1,k.1],λj c u d b=>?_⟩;rw[SR] at d b;have:=h.1;split at d
 .rw[EL za] at b;exact h.2 _ c u d b
 .rw[EG za] at b;rw[this] at d;exact k.2 _ c u d b
def LRep.nil {α}{R:α->Value->Prop}:LRep R [] []:=⟨rfl,λj c u b _=>by simp at b⟩
def LRep.cons {α R c u}{cs:List α}{e}(h:R c u)(k:LRep R cs e):LRep R (c::cs) (u::e):=
 ⟨by simp[k.1],λj g f d b=>by
  cases j with
  |zero=>simp at d b;subst d;subst b;exact h
  |succ j=>simp at d b;exact k.2 j g f d b⟩
def LRep.cons_inv {α R c}{cs:List α}{d}(h:LRep R (c::cs) d):∃u b,d=u::b/\R c u/\LRep R cs b:=by
 cases d with
 |nil=>have:=h.1;simp at this
 |cons u b=>exact⟨u,b,rfl,h.2 0 c u rfl rfl,by have:=h.1;exact zl this,λj i f g e=>h.2 (j+1) i f (zl g)<|zl e⟩
def LRep.nil_inv {α}{R:α->Value->Prop}{b}(h:LRep R [] b):b=[]:=by have:=h.1;cases b<;>simp_all
def LRep.get {α R cs b}(h:LRep R cs b){j:Nat}{c:α}(e:cs[j]?=some c):∃u,b[j]?=some u/\R c u:=by
 have d:j<b.length:=by have:=(EW.1 e).1;have:=h.1;omega
 exact⟨b[j],EU d,h.2 j c _ e<|EU d⟩
def Z9 {x v cs}(h:TRep w X β x v)(b:uR x=some cs):LRep (WRep w X β) cs v.cells.toList:=by
 cases x with
 |any=>simp[uR] at b
 |tup vs=>simp[uR] at b
 |c x=>simp[uR,EO] at b;subst b;have e:=WRep.oneCell h;cases v<;>first|(simp[Value.oneCell'] at e;done)|exact .cons h .nil
 |agg f=>simp[uR,EO] at b;subst b;obtain⟨g,rfl,d⟩:=h;simpa[Value.cells] using d
end
def gW {P t d} (hd:tyOf P t=some d) {w X β b e cs v} (f) (m:LRep (WRep w X β) cs f)
  (y:∀j u,f[j]?=some u->w.cell? ⟨b,e+j,none⟩=some u) (h:jr d cs=some v):
  ∃u,(Instr.loadAt t<|.pointer<|some ⟨b,e,none⟩).run P w=.ok u w/\TRep w X β v u:=by
 unfold jr at h;split at h
 .rename_i o;split at h
  .rename_i A;simp[EO] at h;subst h;have g:(f.take d.size).length=d.size:=by rw[S8,<-m.1];omega
   have p:=run_loadCells_list (P:=P) w ⟨b,e,none⟩ (f.take d.size) (λj u i=>by
    rw[Addr.add_lit];rw[Sy] at i;split at i
    .exact y j u i
    .cases i)
   rw[g] at p;refine⟨.agg (f.take d.size).toArray,?_,f.take d.size,rfl,m.take _⟩;simp[Instr.loadAt,Instr.sureAddr,loadVar,jQ hd,o,zX hd,p]
  .cases h
 .rename_i o;split at h;next x D=>simp[EO] at h;subst h;obtain⟨u,z,rfl,C,_⟩:=m.cons_inv;have r:=y 0 u rfl;refine⟨u,?_,C⟩;rw[Gg] at r;simp[Instr.loadAt,Instr.sureAddr,loadVar,jQ hd,o,r]
  .cases h
section
variable {P:Program} {w:World} {X:Nat->Prop} {β:Nat->Option Nat}
def wn (op t x y a b)(d:∀cs,a ≠ .agg cs)(e:a ≠ .nilIface):(eqGuard op t x y a b).run P w=.ok () w:=by
 cases a<;>first
  |(exact absurd rfl (d _))
  |(exact absurd rfl e)
  |(simp only[eqGuard];split<;>rfl)
def lQ {op k a b v}(t)(h:KP op k a b=some v):∃u,(binOp op t (.int k a)<|.int k b).run P w=.ok u w/\FRep w X v u:=by
 cases op<;>simp only[KP,EO,reduceCtorEq] at h
 case quo=>
  split at h
  .cases h
  next d=>simp[EO] at h;subst h;exact⟨_,by simp[binOp,Op.intDiv,d],.int _ _⟩
 case rem=>
  split at h
  .cases h
  next d=>simp[EO] at h;subst h;exact⟨_,by simp[binOp,Op.intDiv,d],.int _ _⟩
 all_goals
  subst h
  first
  |exact⟨_,by simp[binOp,Op.intArith],.int _ _⟩
  |exact⟨_,by simp[binOp,Op.intCmp],.bool _⟩
def iq {op a b v}(t)(h:pJ op a b=some v):∃u,(binOp op t (.string ⟨a.toArray⟩)<|.string ⟨b.toArray⟩).run P w=.ok u w/\FRep w X v u:=by
 cases op<;>simp only[pJ,EO,reduceCtorEq] at h
 case add=>
  split at h
  .rename_i i;simp[EO] at h;subst h;refine⟨.string ⟨(a++b).toArray⟩,?_,.str _⟩;have g:(⟨a.toArray⟩:ByteArray).size=a.length:=by simp[ByteArray.size]
   have e:(⟨b.toArray⟩:ByteArray).size=b.length:=by simp[ByteArray.size]
   have f:(⟨a.toArray⟩:ByteArray)++⟨b.toArray⟩=⟨(a++b).toArray⟩:=by rfl
   have d:¬((((⟨a.toArray⟩:ByteArray).size+(⟨b.toArray⟩:ByteArray).size:Nat))>IntKind.i64.max):=by rw[g,e];simp only[IntKind.max,IntKind.signed,IntKind.bits];simp;omega
   simp only[binOp,Op.stringOp,d,Sj,f,SC]
  .cases h
 all_goals
  subst h;exact⟨_,by simp[binOp,Op.stringOp,ByteArray.toList_eq],.bool _⟩
def lu {t k}(h:ekOf P t=some k):∃d,P.underlying t=some d/\match d with|.struct _|.array _ _=>False|_=>True:=by unfold ekOf at h;grind
def kG {t k}(h:ekOf P t=some k)(cs b v)(e:cs[b]?=some v):(part t cs b).run P w=.ok v w:=by
 let ⟨d,hd,f⟩:=lu h;have g:(isAgg t).run P w=.ok false w:=by cases d<;>first|exact f.elim|simp[isAgg,EZ hd]
 simp[part,g,e]
def uk {k l xs ys r}(h:zY (k::l) xs ys=some r):
  ∃x y g f b e,xs=x::g/\ys=y::f/\zY l g f=some e/\r=(b&&e)/\
   ((k=.int/\∃i n m,x=.a (.fz<|.int i n)/\y=.a (.fz<|.int i m)/\b=(n==m))\/(k=.bool/\∃n m,x=.a (.fz<|.bool n)/\y=.a (.fz<|.bool m)/\b=(n==m))\/
    k=.str/\∃n m,x=.a (.fz<|.str n)/\y=.a (.fz<|.str m)/\b=(n==m)):=by
 unfold zY at h;split at h
 .grind
 .rename_i d;injection d with d o
  subst o;split at h;next p=>subst p;obtain⟨e,j,rfl⟩:=EM.1 h;exact⟨_,_,_,_,_,e,rfl,rfl,j,rfl,.inl ⟨d,_,_,_,rfl,rfl,rfl⟩⟩
  .cases h
 .rename_i d;injection d with d o
  subst o;obtain⟨e,j,rfl⟩:=EM.1 h;exact⟨_,_,_,_,_,e,rfl,rfl,j,rfl,.inr<|.inl ⟨d,_,_,rfl,rfl,rfl⟩⟩
 .rename_i d;injection d with d o
  subst o;obtain⟨e,j,rfl⟩:=EM.1 h;exact⟨_,_,_,_,_,e,rfl,rfl,j,rfl,.inr<|.inr ⟨d,_,_,rfl,rfl,rfl⟩⟩
 .cases h
def uG:∀(fs:List Field) (i:Nat) (ks:List EK) (xs ys:List WV) (us vs:List Value) (a9 bs:Array Value) (r:Bool),dH P i fs=some ks->zY ks xs ys=some r->
  LRep (WRep w X β) xs us->LRep (WRep w X β) ys vs->(∀j,us[j]?=a9[i+j]?)->(∀j,vs[j]?=bs[i+j]?)->(Op.eqFields 9999 a9 bs fs).run P w=.ok r w
 |[],i,ks,xs,ys,us,vs,a9,bs,r,hk,h,hx,hy,hus,hvs=>by simp only[dH,EO] at hk;subst hk;cases xs<;>cases ys<;>simp only[zY,EO,reduceCtorEq] at h;subst h;rfl
 |f::fs,i,ks,xs,ys,us,vs,a9,bs,r,hk,h,hx,hy,hus,hvs=>by
  simp only[dH] at hk;split at hk
  .rename_i k l hf hl;split at hk
   .rename_i hc;simp only[EO] at hk;subst hk;obtain⟨ho,hn⟩:=hc;have key:∀(x y:WV) (xs' ys':List WV) (u v:Value) (b b':Bool),xs=x::xs'->ys=y::ys'->zY l xs' ys'=some b'->us.head? =some u->vs.head? =some v->(Op.equalIn 9999 f.type u v).run P w=.ok b w->(Op.eqFields 9999 a9 bs<|f::fs).run P w=.ok (b&&b') w:=by
     intro x y xs' ys' u v b b' e1 e2 hsc hu hv he;subst e1;subst e2;obtain⟨u',us',rfl,_,hx'⟩:=hx.cons_inv;obtain⟨v',vs',rfl,_,hy'⟩:=hy.cons_inv;simp only[List.head?_cons,EO] at hu hv;subst hu;subst hv;have p1:=kG (w:=w) hf a9 f.offset u' (by have:=hus 0;simp at this;rw[ho];exact this.symm);have p2:=kG (w:=w) hf bs f.offset v' (by have:=hvs 0;simp at this;rw[ho];exact this.symm)
     have ih:=uG fs (i+1) l xs' ys' us' vs' a9 bs b' hl hsc hx' hy' (λj=>by have:=hus (j+1);simpa[GF,GS 1 j] using this)
      (λj=>by have:=hvs (j+1);simpa[GF,GS 1 j] using this)
     simp only[Op.eqFields,hn,ne_eq,not_false_eq_true,S9,Sv,p1,p2,he,Se,Sem.run_ite];cases b
     .simp
     .simpa using ih
    have fin:∀(x y:WV) (xs' ys':List WV) (b b':Bool),xs=x::xs'->ys=y::ys'->zY l xs' ys'=some b'->r=(b&&b')->(∀u v,WRep w X β x u->WRep w X β y v->(Op.equalIn 9999 f.type u v).run P w=.ok b w)->(Op.eqFields 9999 a9 bs<|f::fs).run P w=.ok r w:=by intro x y xs' ys' b b' e1 e2 hsc hr he;have hx2:=hx;have hy2:=hy;rw[e1] at hx2;rw[e2] at hy2;obtain⟨u,us',eu,hu,_⟩:=hx2.cons_inv;obtain⟨v,vs',ev',hv,_⟩:=hy2.cons_inv;rw[hr];exact key x y xs' ys' u v b b' e1 e2 hsc (by rw[eu];rfl) (by rw[ev'];rfl)<|he u v hu hv
    obtain⟨x,y,xs',ys',b,b',e1,e2,hsc,hr,hcase⟩:=uk h;refine fin x y xs' ys' b b' e1 e2 hsc hr ?_;intro u v hu hv;unfold ekOf at hf;rcases hcase with⟨rfl,kk,n,m,rfl,rfl,rfl⟩|⟨rfl,n,m,rfl,rfl,rfl⟩|⟨rfl,n,m,rfl,rfl,rfl⟩
    .split at hf<;>simp only[EO,reduceCtorEq] at hf;rename_i hd;rw[TRep.int_inv (β:=β) (X:=X) (w:=w) hu,TRep.int_inv (β:=β) (X:=X) (w:=w) hv];exact run_equalIn_int w 9998 _ _ _ _ _ hd
    .split at hf<;>simp only[EO,reduceCtorEq] at hf;rename_i hd;rw[TRep.bool_inv (β:=β) (X:=X) (w:=w) hu,TRep.bool_inv (β:=β) (X:=X) (w:=w) hv];exact run_equalIn_bool' w 9998 _ _ _ hd
    .split at hf<;>simp only[EO,reduceCtorEq] at hf;rename_i hd;rw[TRep.str_inv (β:=β) (X:=X) (w:=w) hu,TRep.str_inv (β:=β) (X:=X) (w:=w) hv];have:=run_equalIn_string (P:=P) w 9998 f.type ⟨n.toArray⟩ ⟨m.toArray⟩ hd;simpa[ByteArray.toList_eq] using this
   .cases hk
  .cases hk
def dU {P u}(h:xM P u=.bool):u=.bool:=by cases u<;>simp_all[xM]<;>split at h<;>simp_all
def kF {P u e}(h:xM P u=.slice e):u=.slice e:=by cases u<;>simp_all[xM]<;>split at h<;>simp_all
def iW {P u e}(h:xM P u=.ptr e):u=.pointer e:=by cases u<;>simp_all[xM]<;>split at h<;>simp_all
def Wo {P u k}(h:xM P u=.int k):u=.int k:=by cases u<;>simp_all[xM]<;>split at h<;>simp_all
def qL {P u}(h:xM P u=.str):u=.string:=by cases u<;>simp_all[xM]<;>split at h<;>simp_all
def ir {P u n e}(h:xM P u=.arr n e):u=.array n e:=by cases u<;>simp_all[xM]<;>split at h<;>simp_all
def Km {P u l}(h:xM P u=.struct l):
  ∃b,u=.struct b/\(l=b.toList.map λf=>(f.offset,P.cellsOf f.type,f.type))/\∀f∈b.toList,∃i,P.info? f.type=some i:=by
 cases u with
 |struct b=>
  simp only[xM] at h;split at h
  .rename_i e;injection h with h
   refine⟨b,rfl,h.symm,λf d=>?_⟩;have:=Sc.1 e f d;exact Option.isSome_iff_exists.1 this
  .cases h
 |_=>simp[xM] at h
def lN {P u k e}(h:xM P u=.map k e):u=.map k e:=by cases u<;>simp_all[xM]<;>split at h<;>simp_all
def xJ {t:TypeId}{d:TyD}(h:tyOf P t=some d):∃u,P.underlying t=some u/\d.kind=xM P u:=by obtain⟨_,u,_,e,_,_,_,_,b⟩:=wU h;exact⟨u,e,b⟩
def rV {t e x y u v r}(i:P.underlying t=some (.slice e))(h:nilSl x y=some r)(f:WRep w X β x u)(b:WRep w X β y v)(d):(Op.equalIn (d+1) t u v).run P w=.ok r w:=by
 unfold nilSl at h;split at h<;>simp[EO,reduceCtorEq] at h<;>subst h
 .rw[TRep.nils_inv (X:=X) (β:=β) f,TRep.nils_inv (X:=X) (β:=β) b];simp[Op.equalIn,EZ i]
 .rw[TRep.nils_inv (X:=X) (β:=β) b];cases (TRep.fz_inv (X:=X) (β:=β) f)<;>simp[Op.equalIn,EZ i]
 .rw[TRep.nils_inv (X:=X) (β:=β) b];cases (TRep.fz_inv (X:=X) (β:=β) f);simp[Op.equalIn,EZ i]
 .rw[TRep.nils_inv (X:=X) (β:=β) b];obtain⟨_,_,_,_,_,_,_,_,_,_,rfl⟩|⟨j,_⟩:=TRep.osl_inv (X:=X) (β:=β) f
  .simp[Op.equalIn,EZ i]
  .cases j
 .rw[TRep.nils_inv (X:=X) (β:=β) b];cases (TRep.fz_inv (X:=X) (β:=β) f);simp[Op.equalIn,EZ i]
def iy {t e x y u v r}(j:P.underlying t=some (.pointer e))(h:gA x y=some r)(g:WRep w X β x u)(f:WRep w X β y v)(d):(Op.equalIn (d+1) t u v).run P w=.ok r w:=by
 have b:∀ {v:Value},WRep w X β (.a<|.fz<|.cst<|.pointer none) v->v=.pointer none:=λh=>by have i:=TRep.fz_inv (X:=X) (β:=β) h;cases i;rfl
 unfold gA at h;split at h<;>simp[EO,reduceCtorEq] at h<;>subst h
 .rw[b f];obtain⟨_,_,rfl⟩:=TRep.ep_inv (X:=X) (β:=β) g;simp[Op.equalIn,EZ j]
 .rw[b f];cases (TRep.fz_inv (X:=X) (β:=β) g);simp[Op.equalIn,EZ j]
 .rw[b f,b g];simp[Op.equalIn,EZ j]
def eqC_run {t x y u v r}(h:eqC P t x y=some r)(i:WRep w X β x u)(g:WRep w X β y v):(Op.equal t u v).run P w=.ok r w:=by
 unfold eqC at h;split at h
 .rename_i d hd;let ⟨m,j,f⟩:=xJ hd;split at h
  .rename_i b;rw[f] at b;have:=dU b;subst this;split at h<;>simp[EO,reduceCtorEq] at h;subst h;rw[TRep.bool_inv (X:=X) (β:=β) i,TRep.bool_inv (X:=X) (β:=β) g];exact run_equalIn_bool' w 9999 _ _ _ j
  next e b=>rw[f] at b;exact rV (kF b▸j) h i g 9999
  next e b=>rw[f] at b;exact iy (iW b▸j) h i g 9999
  .cases h
 .cases h
def X6 (t u v r)(f:∀k n,u ≠ .int k n)(d:∀s,u ≠ .string s)(e:∀k n,u ≠ .float k n)(b:∀k n m,u ≠ .complex k n m)(h:(Op.equal t u v).run P w=.ok r w):
  (binOp .eql t u v).run P w=.ok (.bool r) w/\(binOp .neq t u v).run P w=.ok (.bool (!r)) w:=by
 cases u<;>first
  |exact absurd rfl (f _ _)
  |exact absurd rfl (d _)
  |exact absurd rfl (e _ _)
  |exact absurd rfl (b _ _ _)
  |(constructor<;>simp[binOp,h])
def eqA_run {op t x y r u v}(p o)(h:eqOp op (eqA P t x y)=some r)(g:TRep w X β x u)(E:TRep w X β y v):
  ∃z,((do eqGuard op t p o u v;binOp op t u v:Sem Value)).run P w=.ok z w/\TRep w X β r z:=by
 have fin:∀b,eqOp op (some b)=some r->(eqGuard op t p o u v).run P w=.ok () w->(Op.equal t u v).run P w=.ok b w->(∀k n,u ≠ .int k n)->(∀s,u ≠ .string s)->(∀k n,u ≠ .float k n)->(∀k n m,u ≠ .complex k n m)->
   ∃z,((do eqGuard op t p o u v;binOp op t u v)).run P w=.ok z w/\TRep w X β r z:=by
  intro b C F N i S J M;let ⟨O,K⟩:=X6 t u v b i S J M N;unfold eqOp at C;split at C<;>simp[S2,EO,reduceCtorEq] at C<;>subst C
  .exact⟨_,by simp[Sv,F,Se,O],.bool_mk _⟩
  .exact⟨_,by simp[Sv,F,Se,K],.bool_mk _⟩
 cases e:eqA P t x y with
 |none=>rw[e] at h;unfold eqOp at h;split at h<;>simp at h
 |some b=>
  rw[e] at h;unfold eqA at e;split at e
  .rename_i xs ys;split at e
   .rename_i ks f;obtain⟨D,rfl,T⟩:=g;obtain⟨vs,rfl,L⟩:=E;unfold jq at f;split at f
    .rename_i I j;split at f
     .rename_i H;have G:P.fieldsOf t=I:=by simp[Program.fieldsOf,j]
      refine fin b h (run_eqGuard_agg w op t p o _ _ H.2) ?_ zb zb zb zb;have:=run_equalIn_agg (P:=P) w 9999 t D.toArray vs.toArray (G▸j) H.1;rw[G] at this;exact this.trans<|uG I.toList 0 ks xs ys D vs D.toArray vs.toArray b f e T L zb zb
     .cases f
    .cases f
   .cases e
  .rename_i x y;have i:=WRep.oneCell g;have d:(∀cs,u ≠ .agg cs)/\u ≠ .nilIface/\(∀k n,u ≠ .int k n)/\(∀s,u ≠ .string s)/\(∀k n,u ≠ .float k n)/\(∀k n m,u ≠ .complex k n m):=by
    unfold eqC at e;split at e
    .split at e
     .split at e
      .rw[TRep.bool_inv (X:=X) (β:=β) g];simp
      .cases e
     .unfold nilSl at e;split at e
      .rw[TRep.nils_inv (X:=X) (β:=β) g];simp
      .have i:=TRep.fz_inv (X:=X) (β:=β) g;cases i<;>simp
      .have i:=TRep.fz_inv (X:=X) (β:=β) g;cases i;simp
      .obtain⟨_,_,_,_,_,_,_,_,_,_,rfl⟩|⟨_,rfl⟩:=TRep.osl_inv (X:=X) (β:=β) g<;>simp
      .have i:=TRep.fz_inv (X:=X) (β:=β) g;cases i;simp
      .cases e
     .unfold gA at e;split at e
      .obtain⟨_,_,rfl⟩:=TRep.ep_inv (X:=X) (β:=β) g;simp
      .have i:=TRep.fz_inv (X:=X) (β:=β) g;cases i;simp
      .have i:=TRep.fz_inv (X:=X) (β:=β) g;cases i;simp
      .cases e
     .cases e
    .cases e
   exact fin b h (wn op t p o u v d.1 d.2.1) (eqC_run e g E) d.2.2.1 d.2.2.2.1 d.2.2.2.2.1 d.2.2.2.2.2
  .cases e
def binA_run {op t x y r u v}(b d)(h:binA P t op x y=some r)(j:TRep w X β x u)(i:TRep w X β y v):
  ∃z,((do eqGuard op t b d u v;binOp op t u v:Sem Value)).run P w=.ok z w/\TRep w X β r z:=by
 unfold binA at h;split at h
 .split at h
  .rename_i o;subst o;obtain⟨f,m,rfl⟩:=EM.1 h;rw[TRep.int_inv j,TRep.int_inv i];let ⟨z,e,g⟩:=lQ (P:=P) (w:=w) (X:=X) t m;exact⟨z,by rw[Sv,wn op t b d _ _ zb zb];exact e,.fz_mk g⟩
  .cases h
 .obtain⟨f,m,rfl⟩:=EM.1 h;rw[TRep.str_inv j,TRep.str_inv i];let ⟨z,e,g⟩:=iq (P:=P) (w:=w) (X:=X) t m;exact⟨z,by rw[Sv,wn op t b d _ _ zb zb];exact e,.fz_mk g⟩
 .exact eqA_run b d h j i
def unA_run {op x r u}(h:unA op x=some r)(b:TRep w X β x u):∃z,(Op.unary op u).run P w=.ok z w/\TRep w X β r z:=by
 unfold unA at h;split at h
 .rw[TRep.int_inv b];split at h<;>simp only[EO,reduceCtorEq] at h;subst h;exact⟨_,rfl,.int_mk _ _⟩
 .rw[TRep.bool_inv b];split at h<;>simp[EO,reduceCtorEq] at h;subst h;exact⟨_,by simp[Op.unary],.bool_mk _⟩
 .cases h
end
section
variable {P:Program} {w:World} {X:Nat->Prop} {β:Nat->Option Nat}
def Kj {x r u o}(ev i)(g:o.op=.nilCheck i)(e:ev i=u)(h:jN x=some r)(d:TRep w X β x u):(execOp ev o).run P w=.ok (.value u) w/\TRep w X β r u:=by
 unfold jN at h;split at h<;>simp[EO,reduceCtorEq] at h<;>subst h
 .obtain⟨b,v,rfl⟩:=d.ep_inv;exact⟨by simp[execOp,g,e],d⟩
 .have j:=d.fz_inv;cases j;exact⟨by simp[execOp,g,e],d⟩
 .cases id d with
  |fn f first cap p vs j m=>exact⟨by simp[execOp,g,e],d⟩
def rO {c x y r cu d e}(h:pickV c x y=some r)(i:TRep w X β c cu)(f:TRep w X β x d)(g:TRep w X β y e):
  ∃b,cu=.bool b/\TRep w X β r (if b then d else e):=by
 unfold pickV at h;split at h<;>simp[EO,reduceCtorEq] at h;subst h;rename_i t;refine⟨t,i.bool_inv,?_⟩;unfold pickT;split
 .rw[f.bool_inv,g.bool_inv];cases t<;>exact .bool_mk _
 .grind
def Kv {x r u i}(h:JW x i=some r)(o:TRep w X β x u):∃z,(Instr.extract u i).run P w=.ok z w/\TRep w X β r z:=by
 unfold JW at h;split at h
 .rename_i vs;obtain⟨p,rfl,j⟩:=o;split at h<;>simp[EO,reduceCtorEq] at h<;>subst h;next cs f=>obtain⟨z,e,b,rfl,d,_⟩:=j.get f;exact⟨.agg b.toArray,by simp[Instr.extract,e,shut],b,rfl,d⟩
  next c f=>obtain⟨z,e,b,rfl,d,_⟩:=j.get f;obtain⟨u,g,rfl,m,_⟩:=d.cons_inv;exact⟨u,by simp[Instr.extract,e,shut],m⟩
 .cases h
def fj {x r u i d}(f)(p:∃e,P.underlying f=some e/\∀k n,u=.int k n->True)(hd:tyOf P i=some d)(h:Y8 d x=some r)(o:TRep w X β x u):
  ∃z,(convert f i u).run P w=.ok z w/\TRep w X β r z:=by
 let ⟨y,j,_⟩:=p;let ⟨v,g,m⟩:=xJ hd;unfold Y8 at h;split at h
 .rename_i k b;rw[m] at b;have:=Wo b;subst this;split at h<;>simp[EO,reduceCtorEq] at h;subst h;rw[o.int_inv];refine⟨_,?_,.int_mk _ _⟩;simp[convert,EZ j,EZ g,Conv.intToInt]
 .rename_i b;rw[m] at b;have:=qL b;subst this;split at h<;>simp[EO,reduceCtorEq] at h;subst h;rw[o.str_inv];refine⟨_,?_,.str_mk _⟩;simp[convert,EZ j,EZ g]
 .cases h
def jA {t d l}(h:tyOf P t=some d)(g:d.kind=.struct l):
  ∃b,P.underlying t=some (.struct b)/\(l=b.toList.map λf=>(f.offset,P.cellsOf f.type,f.type))/\∀f∈b.toList,∃i,P.info? f.type=some i:=by
 let ⟨u,o,e⟩:=xJ h;rw[e] at g;obtain⟨b,rfl,m,j⟩:=Km g;grind
def W7 {f b d}(h:P.cellsOf f.type≠0):(fieldPlace ⟨b,d,none⟩ f).run P w=.ok ⟨b,d+f.offset,none⟩ w:=by
 have j:∃i,P.info? f.type=some i/\i.size≠0:=by
  unfold Program.cellsOf at h;cases g:P.info? f.type with
  |none=>simp[g] at h
  |some i=>exact⟨i,rfl,zd⟩
 let ⟨i,g,e⟩:=j;simp[fieldPlace,sizeOf,typeInfo,g,e,Addr.add_lit]
def XY {x r u s d f}(hd:tyOf P s=some d)(h:kU d x f=some r)(v:TRep w X β x u):
  ∃z,(Instr.fieldAt s u f).run P w=.ok z w/\TRep w X β r z:=by
 unfold kU at h;split at h
 .rename_i l D;obtain⟨F,g,rfl,_⟩:=jA hd D;split at h
  .rename_i K i;rw[EX] at i;obtain⟨p,E,rfl⟩:=EM.1 i;have m:F[f]?=some p:=zd;split at h
   .cases h
   .rename_i y;have o:∀b e,(fieldPlace ⟨b,e,none⟩ p).run P w=.ok ⟨b,e+p.offset,none⟩ w:=λ_ _=>W7 y;split at h<;>simp[EO,reduceCtorEq] at h<;>subst h
    .obtain⟨b,H,rfl⟩:=v.ep_inv;refine⟨_,by simp[Instr.fieldAt,EZ g,m,Instr.sureAddr,o];rfl,?_⟩;rw[GF];exact .a _ _<|.ep _ _ _ _ b H
    .have G:=v.fz_inv;cases G with
     |pt cs b e u C A I J=>
      refine⟨_,by simp[Instr.fieldAt,EZ g,m,Instr.sureAddr,o];rfl,?_⟩;refine .fz_mk<|.pt _ b _ (λj=>u<|p.offset+j) C A (λj x v=>?_) λj x v=>?_
      .grind
      .grind
  .cases h
 .cases h
def fJ {t d cs e b r}(hd:tyOf P t=some d)(h:partA d.agg d.size cs b=some r)(g:LRep (WRep w X β) cs e):
  ∃z,(part t e.toArray b).run P w=.ok z w/\TRep w X β r z:=by
 unfold partA at h;split at h
 .rename_i f;split at h<;>simp[EO,reduceCtorEq] at h;subst h;refine⟨.agg<|e.toArray.extract b<|b+d.size,by simp[part,jQ hd,f,zX hd],(e.drop b).take d.size,?_,(g.drop b).take _⟩;grind
 .rename_i f;obtain⟨c,j,rfl⟩:=EM.1 h;let ⟨u,i,m⟩:=g.get j;exact⟨u,by simp[part,jQ hd,f,i],m⟩
def iS {x r u s d f}(hd:tyOf P s=some d)(h:Ek P d x f=some r)(C:TRep w X β x u):
  ∃z,(Instr.field s u f).run P w=.ok z w/\TRep w X β r z:=by
 unfold Ek at h;split at h
 .rename_i l j;obtain⟨v,e,rfl,_⟩:=jA hd j;split at h
  .rename_i F b;rw[EX] at b;obtain⟨y,p,rfl⟩:=EM.1 b;have g:v[f]?=some y:=zd;split at h
   .rename_i E cs i;obtain⟨D,rfl,o⟩:=C;let ⟨z,m,A⟩:=fJ i h o;exact⟨z,by simp[Instr.field,EZ e,g,asAgg,m],A⟩
   .cases h
  .cases h
 .cases h
def yW {t e d}(h:tyOf P t=some d)(f:d.kind=.slice e):P.underlying t=some (.slice e):=by let ⟨u,g,b⟩:=xJ h;rw[b] at f;exact kF f▸g
def Yb {t e n d}(h:tyOf P t=some d)(f:d.kind=.arr n e):P.underlying t=some (.array n e):=by let ⟨u,g,b⟩:=xJ h;rw[b] at f;exact ir f▸g
def JL {t d}(h:tyOf P t=some d)(e:d.kind=.str):P.underlying t=some .string:=by let ⟨u,f,b⟩:=xJ h;rw[b] at e;exact qL e▸f
def py {i:Int}{n:Nat}(b:0<=i)(h:i<n):i.toNat<n:=za
def jj {x N r u S t d}(hd:tyOf P t=some d)(h:yJ P d x N=some r)(L:TRep w X β x u)(W:TRep w X β N S):
  ∃z,(Instr.indexAt t u S).run P w=.ok z w/\TRep w X β r z:=by
 unfold yJ at h;split at h
 .rename_i k i;rw[W.int_inv];split at h
  .rename_i e I;have D:=yW hd I;split at h
   .rename_i E p;unfold Xi at h;split at h
    .split at h<;>simp[EO,reduceCtorEq] at h;rename_i o n g J C;let ⟨y,A,v⟩:=C;subst h;obtain⟨b,q,cap,sz,tt,K,hs,hlc,O,G,rfl⟩:=L.osl_inv.resolve_right (λh=>za);subst y;have G:=G.resolve_right za;subst G;refine⟨.pointer _,?_,.a _ _<|.ep _ _ _ _ b K⟩;simp[Instr.indexAt,asIntOf,EZ D,A,v,zX p,Addr.add_lit,SO]
    .rename_i U n es;split at h<;>simp[EO,reduceCtorEq] at h;rename_i C;let ⟨y,A,v⟩:=C;subst h;cases L.fz_inv with
     |slnil=>simp at v;omega
     |sl0=>simp at v;omega
     |sl U n es b g cap J u T g2 g3 Z g5 V g7=>
      have M:es[i.toNat]?=some (es.getD i.toNat []):=by simp[List.getD,EU<|py A v]
      refine⟨.pointer<|some ⟨b,g+i.toNat*E.size,none⟩,?_,?_⟩
      .rw[T];simp[Instr.indexAt,asIntOf,EZ D,A,v,zX p,Addr.add_lit]
      .rw[y];exact .fz_mk<|.pt _ b _ (u i.toNat) g3 Z (λj f F=>V _ _ _ _ M F) λj f F=>g7 _ _ _ _ M F
    .cases h
   .cases h
  .rename_i m e I;split at h
   .rename_i E p;unfold dt at h;split at h
    .split at h<;>simp[EO,reduceCtorEq] at h;rename_i C;let ⟨A,v⟩:=C;subst h;obtain⟨b,K,rfl⟩:=L.ep_inv;refine⟨_,by simp[Instr.indexAt,asIntOf,EZ<|Yb hd I,A,v,zX p,Addr.add_lit,Instr.sureAddr];rfl,?_⟩;rw[GF];exact .a _ _<|.ep _ _ _ _ b K
    .cases h
   .cases h
  .cases h
 .cases h
def iY {x y r u C t d}(hd:tyOf P t=some d)(h:Wl P d x y=some r)(A:TRep w X β x u)(G:TRep w X β y C):
  ∃z,(Instr.index t u C).run P w=.ok z w/\TRep w X β r z:=by
 unfold Wl at h;split at h
 .rename_i k i;rw[G.int_inv];split at h
  .rename_i p;split at h
   .split at h<;>simp[EO,reduceCtorEq] at h;rename_i l v;let ⟨g,j⟩:=v;subst h;rw[A.str_inv];have f:=py g j;have F:(⟨l.toArray⟩:ByteArray)[i.toNat]?=some (l.getD i.toNat 0):=by
     have H:i.toNat<(⟨l.toArray⟩:ByteArray).size:=by simpa[ByteArray.size] using f
     rw[getElem?_pos _ i.toNat H];simp[ByteArray.getElem_eq_getElem_data,List.getElem_toArray,List.getD,EU f,Sq]
    refine⟨.int .u8 (l.getD i.toNat 0).toNat,?_,.int_mk _ _⟩;simp[Instr.index,asIntOf,Sv,SC,Se,EZ<|JL hd p,g,↓reduceIte,F]
   .cases h
  .rename_i m e p;split at h
   .rename_i K cs b;split at h
    .rename_i v;let ⟨g,j⟩:=v;obtain⟨J,rfl,I⟩:=A;let ⟨z,E,D⟩:=fJ b h I;exact⟨z,by simp[Instr.index,asIntOf,EZ<|Yb hd p,g,j,zX b,E],D⟩
    .cases h
   .cases h
  .cases h
 .cases h
def gU:∀ {cs} {xs} {b},lV cs=some xs->LRep (WRep w X β) cs b->LRep (ARep w X β) xs b
 |[],xs,b,h,d=>by simp[lV,EO] at h;subst h;rw[d.nil_inv];exact .nil
 |.a x::r,xs,b,h,d=>by
  simp only[lV] at h;obtain⟨l,g,rfl⟩:=EM.1 h;obtain⟨u,i,rfl,f,e⟩:=d.cons_inv;cases f with
  |a _ _ f=>exact .cons f<|gU g e
 |.fn _ _ _::r,xs,b,h,d=>by simp[lV] at h
def kZ:∀ {cs} {xs} {b},kq cs=some xs->LRep (TRep w X β) cs b->LRep (PRep<|ARep w X β) xs b
 |[],xs,b,h,d=>by simp[kq,EO] at h;subst h;rw[d.nil_inv];exact .nil
 |.c (.a x)::r,xs,b,h,d=>by
  simp only[kq] at h;obtain⟨l,f,rfl⟩:=EM.1 h;obtain⟨u,m,rfl,g,e⟩:=d.cons_inv;cases g with
  |a _ _ g=>exact .cons ⟨[u],rfl,.cons g .nil,λ_=>rfl⟩<|kZ f e
 |.agg cs::r,xs,b,h,d=>by simp[kq] at h;let ⟨ys,j,h⟩:=G3.1 h;obtain⟨l,f,rfl⟩:=EM.1 h;obtain⟨u,m,rfl,g,e⟩:=d.cons_inv;obtain⟨vs,rfl,i⟩:=g;exact .cons ⟨vs,rfl,gU j i,λh=>by simp at h⟩<|kZ f e
 |.c (.fn _ _ _)::r,xs,b,h,d=>by simp[kq] at h
 |.any::r,xs,b,h,d=>by simp[kq] at h
 |.tup _::r,xs,b,h,d=>by simp[kq] at h
def JB {fn first d e vs r}(h:Xf fn first d=some r)(f:LRep (TRep w X β) first e)(g:LRep (TRep w X β) d vs):
  TRep w X β r (.func fn e.toArray vs.toArray):=by
 unfold Xf at h;split at h<;>simp[EO,reduceCtorEq] at h;rename_i a b;subst h;exact .fn _ _ _ _ _ (kZ a f)<|kZ b g
def bnd (x:Option TV)(v:Option Value)(w:World)(X:Nat->Prop)(β:Nat->Option Nat):=
 match x,v with
 |none,none=>True
 |some x,some v=>TRep w X β x v
 |_,_=>False
def yx {x v d most n}(h:wQ x d most=some n)(f:bnd x v w X β):
  v=none/\n=d\/∃k i,v=some (.int k i)/\0<=i/\i.toNat=n/\n<=most/\∀e b,most<=b->(Instr.sliceBound (.int k i) b e).run P w=.ok n w:=by
 unfold wQ at h;split at h
 .simp[EO] at h;cases v with
  |none=>exact .inl ⟨rfl,h.symm⟩
  |some v=>exact f.elim
 .rename_i k i;split at h<;>simp[EO,reduceCtorEq] at h;rename_i g;cases v with
  |none=>exact f.elim
  |some v=>
   have:=TRep.int_inv f;subst this;refine .inr ⟨_,_,rfl,g.1,h,za,λe b j=>?_⟩;have:i<=b:=za;simp[Instr.sliceBound,asIntOf,g.1,this,h]
 .cases h
def fD {J A C l h m d cap a b c} (e) (T:wQ C d d=some c) (I:wQ A d d=some b) (D:wQ J 0 b=some a) (H:b<=c) (g:d<=cap)
  (N:bnd C m w X β) (z:bnd A h w X β) (E:bnd J l w X β) (F:C.isSome=true->A.isSome=true):
  ∃G,(Instr.sliceBounds e d cap l h m).run P w=.ok (a,b,G) w/\b<=G/\G<=cap/\a<=b/\b<=d:=by
 have u:b<=d:=by rcases yx (P:=P) I z with⟨_,r⟩|⟨_,_,_,_,_,r,_⟩<;>omega
 have p:a<=b:=by rcases yx (P:=P) D E with⟨_,r⟩|⟨_,_,_,_,_,r,_⟩<;>omega
 rcases yx (P:=P) T N with⟨rfl,rfl⟩|⟨V,U,rfl,_,_,S,o⟩
 .refine⟨cap,?_,za,EI _,p,u⟩;rcases yx (P:=P) I z with⟨rfl,rfl⟩|⟨K,ih,rfl,_,_,_,j⟩
  .rcases yx (P:=P) D E with⟨rfl,rfl⟩|⟨L,O,rfl,_,_,_,f⟩
   .rfl
   .simp[Instr.sliceBounds,f _ _<|EI _]
  .rcases yx (P:=P) D E with⟨rfl,rfl⟩|⟨L,O,rfl,_,_,_,f⟩
   .simp[Instr.sliceBounds,j _ _ g]
   .simp[Instr.sliceBounds,f _ _<|EI _,j _ _ g]
 .refine⟨c,?_,H,za,p,u⟩;rcases yx (P:=P) I z with⟨rfl,rfl⟩|⟨K,ih,rfl,_,_,_,j⟩
  .cases C with
   |none=>exact N.elim
   |some x=>cases A with
    |none=>simp at F
    |some y=>exact z.elim
  .have v:∀i,(Instr.sliceBound (.int K ih) c i).run P w=.ok b w:=by intro i;have M:0<=ih/\ih.toNat=b:=za;have r:ih<=c:=za;simp[Instr.sliceBound,asIntOf,M.1,r,M.2]
   rcases yx (P:=P) D E with⟨rfl,rfl⟩|⟨L,O,rfl,_,_,_,f⟩
   .simp[Instr.sliceBounds,o _ _ g,v]
   .simp[Instr.sliceBounds,o _ _ g,v,f _ _<|EI _]
def Kg {z j o:Option TV} {l h m:Option Value} {b cap:Nat} (d:Bool) (H:wQ o b b=some 0) (J:wQ j b b=some 0) (I:wQ z 0 0=some 0) (g:b<=cap)
  (C:bnd o m w X β) (v:bnd j h w X β) (K:bnd z l w X β) (u:o.isSome=true) (p:j.isSome=true):
  (Instr.sliceBounds d b cap l h m).run P w=.ok (0,0,0) w:=by
 rcases yx (P:=P) H C with⟨rfl,_⟩|⟨N,M,rfl,_,_,F,f⟩
 .cases o with
  |none=>simp at u
  |some x=>exact C.elim
 .rcases yx (P:=P) J v with⟨rfl,rfl⟩|⟨E,ih,rfl,_,_,_,G⟩
  .cases j with
   |none=>simp at p
   |some y=>exact v.elim
  .have i:∀e,(Instr.sliceBound (.int E ih) 0 e).run P w=.ok 0 w:=by
    intro e;have A:0<=ih/\ih.toNat=0:=by constructor<;>assumption
    have D:ih<=0:=za;simp[Instr.sliceBound,asIntOf,A.1,D,A.2]
   rcases yx (P:=P) I K with⟨rfl,_⟩|⟨L,O,rfl,_,_,_,r⟩
   .simp[Instr.sliceBounds,f _ _ g,i]
   .simp[Instr.sliceBounds,f _ _ g,i,r _ _<|EI _]
end
section
variable {P:Program} {w:World} {X:Nat->Prop} {β:Nat->Option Nat}
def qO (l:List UInt8)(a b):(⟨l.toArray⟩:ByteArray).extract a b=⟨((l.take b).drop a).toArray⟩:=by apply ByteArray.ext;apply GQ;simp[ByteArray.data_extract,List.extract_eq_take_drop,List.drop_take]
def wK {u v r l h m f cap p} (d) (g:ZV u v r f=some p) (i:f<=cap)
  (A:bnd u l w X β) (y:bnd v h w X β) (x:bnd r m w X β):∃j,(Instr.sliceBounds d f cap l h m).run P w=.ok (p.1,p.2,j) w/\p.2<=j/\j<=cap/\p.1<=p.2/\p.2<=f:=by
 unfold ZV at g;split at g
 .rename_i c b C o;split at g;next e=>obtain⟨a,z,rfl⟩:=EM.1 g;exact fD d C o z e.1 i x y A e.2
  .cases g
 .cases g
def ib {A E j l h m e cap p} (d) (f:uC j=true) (g:ZV A E j e=some p) (y:e<=cap)
  (D:bnd A l w X β) (G:bnd E h w X β) (F:bnd j m w X β):(Instr.sliceBounds d e cap l h m).run P w=.ok (0,0,0) w:=by
 have u:wQ j e e=some 0:=by
  unfold uC at f;split at f
  .simp[Sw] at f;subst f;rfl
  .cases f
 have r:j.isSome=true:=by unfold uC at f;grind
 unfold ZV at g;rw[u] at g;split at g
 .rename_i c b o z;simp[EO] at o;subst o;split at g
  .rename_i i;obtain⟨a,C,rfl⟩:=EM.1 g;have v:b=0:=za;subst v;have x:a=0:=by rcases yx (P:=P) C D with⟨_,H⟩|⟨_,_,_,_,_,H,_⟩<;>omega
   subst x;exact Kg d u z C y F G D r<|i.2 r
  .cases g
 .cases g
def gN {x r u t d lo hi mx l h m} (hd:tyOf P t=some d) (y:vb P d x lo hi mx=some r) (hx:TRep w X β x u)
  (S:bnd lo l w X β) (M:bnd hi h w X β) (J:bnd mx m w X β):∃z,(Instr.sliceAt t u l h m).run P w=.ok z w/\TRep w X β r z:=by
 unfold vb at y;split at y
 .rename_i e hk;have I:=yW hd hk;split at y
  .rename_i de A;unfold Zk at y;split at y
   .obtain⟨p,F,rfl⟩:=EM.1 y;let ⟨D,g,Z,O,Y,T⟩:=wK (P:=P) (w:=w) (cap:=0) true F (EI _) S M J;rw[hx.nils_inv];have L:p.2=0:=za;have K:p.1=0:=za;have N:D=0:=za;rw[K,L,N] at g;refine⟨.slice none 0 0,?_,.fz_mk .N⟩;simp[Instr.sliceAt,Instr.slice,EZ I,g,zX A]
   .rename_i nn n es;split at y
    .rename_i hn;obtain⟨p,F,rfl⟩:=EM.1 y;have O:=hx.fz_inv;cases O with
     |sl0 _ _ a=>
      let ⟨D,g,Z,O,Y,T⟩:=wK (P:=P) (w:=w) (cap:=0) true F (EI _) S M J;have L:p.2=0:=by simp at T;omega
      have K:p.1=0:=za;have N:D=0:=za;rw[K,L,N] at g;simp[EY] at g;refine⟨.slice (some a) 0 0,?_,?_⟩
      .simp[Instr.sliceAt,Instr.slice,EZ I,g,zX A]
      .split
       .exact .fz_mk<|.z0 _ _
       .exact .fz_mk (by simpa using FRep.sl0 _ n a)
     |slnil n=>
      let ⟨D,g,Z,O,Y,T⟩:=wK (P:=P) (w:=w) (cap:=0) true F (EI _) S M J;have L:p.2=0:=by simp at T;omega
      have K:p.1=0:=za;have N:D=0:=za;rw[K,L,N] at g;simp[EY] at g;refine⟨.slice none 0 0,?_,?_⟩
      .simp[Instr.sliceAt,Instr.slice,EZ I,g,zX A]
      .split
       .exact .fz_mk .z0n
       .exact .fz_mk (by simpa using FRep.slnil n)
     |sl nn n es b E cap len u g1 g2 g3 g4 g5 g6 g7=>
      subst g1;by_cases V:uC mx=true
      .have g:=ib (P:=P) (w:=w) true V F g2 S M J;rw[EL V];exact⟨.slice (some ⟨b,E,none⟩) 0 0,by simp[Instr.sliceAt,Instr.slice,EZ I,g,zX A],.fz_mk<|.z0 _ _⟩
      rw[EG V];let ⟨D,g,Z,O,Y,T⟩:=wK (P:=P) (w:=w) true F g2 S M J;have U:p.2-p.1=((es.take p.2).drop p.1).length:=zj;have G:∀i,∀e,((es.take p.2).drop p.1)[i]?=some e->es[p.1+i]?=some e:=by
       intro i e C;rw[SS,Sy] at C;split at C
       .exact C
       .cases C
      refine⟨.slice (some (if D=p.1 then⟨b,E,none⟩ else⟨b,E+p.1*de.size,none⟩)) (p.2-p.1)<|D-p.1,?_,?_⟩
      .simp[Instr.sliceAt,Instr.slice,EZ I,g,zX A,Addr.add_lit];split<;>rfl
      .by_cases hz:D=p.1
       .simp[hz,S9];have H:(es.take p.2).drop p.1=[]:=S1 za;refine .fz_mk<|.sl nn n _ b E _ _ (λ_ _=>undef) U za g3 g4 ?_ ?_ ?_
        .intro i e C;rw[H] at C;simp at C
        .intro i j e f C;rw[H] at C;simp at C
        .intro i j e f C;rw[H] at C;simp at C
       .simp[hz,Sj];refine .fz_mk<|.sl nn n _ b _ _ _ (λi j=>u (p.1+i) j) U za g3 g4 ?_ ?_ ?_
        .intro i e C;exact g5 _ _<|G i e C
        .intro i j e f C hf;have:=g6 _ _ _ _ (G i e C) hf;rw[<-hn,show E+p.1*n+i*n+j=E+(p.1+i)*n+j by rw[SO];omega];exact this
        .intro i j e f C hf;exact g7 _ _ _ _ (G i e C) hf
    .cases y
   .obtain⟨p,F,rfl⟩:=EM.1 y;have O:=hx.fz_inv;let ⟨D,g,Z,h2',Y,T⟩:=wK (P:=P) (w:=w) (cap:=0) true F (EI _) S M J;have L:p.2=0:=za;have K:p.1=0:=za;have N:D=0:=za;rw[K,L,N] at g;cases O with
    |z0 _ a=>exact⟨.slice (some a) 0 0,by simp[Instr.sliceAt,Instr.slice,EZ I,g,zX A],.fz_mk<|.z0 _ _⟩
    |z0n=>exact⟨.slice none 0 0,by simp[Instr.sliceAt,Instr.slice,EZ I,g,zX A],.fz_mk .z0n⟩
   .rename_i o n E len;split at y
    .rename_i hn;obtain⟨p,F,rfl⟩:=EM.1 y;obtain⟨b,q,cap,sz,tt,hb,hsh,hlc,hcap,hq,rfl⟩|⟨h0,rfl⟩:=hx.osl_inv
     case inr=>subst h0;let ⟨D,g,Z,h2',Y,T⟩:=wK (P:=P) (w:=w) (cap:=0) true F (EI _) S M J;have L:p.2=0:=za;have K:p.1=0:=za;have N:D=0:=za;rw[K,L,N] at g;exact⟨.slice none 0 0,by simp[Instr.sliceAt,Instr.slice,EZ I,g,zX A],by rw[K,L];exact .a _ _<|.oslN _ _ _⟩
     let ⟨D,g,Z,O,Y,T⟩:=wK (P:=P) (w:=w) true F hlc S M J;refine⟨.slice (some (if D=p.1 then⟨b,q,none⟩ else⟨b,q+p.1*de.size,none⟩)) (p.2-p.1)<|D-p.1,?_,?_⟩
     .simp[Instr.sliceAt,Instr.slice,EZ I,g,zX A,Addr.add_lit];split<;>rfl
     .have W:(E+p.1+(D-p.1))*n<=sz:=SW (Ss _ za) hcap;by_cases hz:D=p.1
      .simp only[hz,S9];exact .a _ _<|.osl _ _ _ _ b q _ sz tt hb hsh za (by rw[hz] at W;exact W)<|.inr za
      .simp only[hz,Sj];refine .a _ _<|.osl _ _ _ _ b _ _ sz tt hb hsh za W<|.inl ?_;rw[<-hn,hq.resolve_right za,SO]
    .cases y
   .cases y
  .cases y
 .rename_i hk;have I:=JL hd hk;unfold JE at y;split at y
  .obtain⟨p,F,rfl⟩:=EM.1 y;rename_i s;cases m with
   |some v=>exact J.elim
   |none=>
    let ⟨D,g,Z,O,Y,T⟩:=wK (P:=P) (w:=w) (cap:=s.length) false F (EI _) S M J;rw[hx.str_inv];refine⟨_,?_,.str_mk _⟩;have hsz:(⟨s.toArray⟩:ByteArray).size=s.length:=by simp[ByteArray.size]
    simp[Instr.sliceAt,Instr.slice,EZ I,hsz,g,qO]
  .cases y
 .cases y
def hH (vs):∀(k b) (cs:List Value),b+k+vs.length<=cs.length->(vs.zipIdx k).foldl (λ(cs) x=>cs.setIfInBounds (b+x.2) x.1) cs.toArray=(cs.take (b+k)++vs++cs.drop (b+k+vs.length)).toArray:=by
 induction vs with
 |nil=>intro k b cs h;simp
 |cons v vs ih=>
  intro k b cs h;simp only[List.zipIdx_cons,Gz,List.setIfInBounds_toArray];rw[ih _ b _<|by simp at h ⊢;omega];congr 1;apply List.ext_getElem?;intro j;simp only[EH,SR,EJ,S8,Gn,Sy,SS,Gm,EH];simp at h;by_cases d:j<b+k
  .simp[show j<min (b+(k+1)) cs.length+vs.length by omega,show j<min (b+(k+1)) cs.length by omega,(za:j<b+(k+1)),show¬(b+k=j) by omega,
    (za:j<min (b+k) cs.length+(vs.length+1)),(za:j<min (b+k) cs.length),d,S9,Sj]
  .by_cases e:j=b+k
   .subst e
    simp[show b+k<min (b+(k+1)) cs.length+vs.length by omega,show b+k<min (b+(k+1)) cs.length by omega,(za:b+k<b+(k+1)),(za:b+k<cs.length),
     (za:b+k<min (b+k) cs.length+(vs.length+1)),show¬(b+k<min (b+k) cs.length) by omega,S9,Sj,(za:b+k-min (b+k) cs.length=0),SI]
   .by_cases f:j<b+k+1+vs.length
    .simp[show j<min (b+(k+1)) cs.length+vs.length by omega,show¬(j<min (b+(k+1)) cs.length) by omega,
      (za:j<min (b+k) cs.length+(vs.length+1)),show¬(j<min (b+k) cs.length) by omega,S9,Sj]
     rw[show j-min (b+k) cs.length=(j-min (b+(k+1)) cs.length)+1 by omega,G9]
    .simp[show¬(j<min (b+(k+1)) cs.length+vs.length) by omega,show¬(j<min (b+k) cs.length+(vs.length+1)) by omega,Sj];rw[show b+(k+1)+vs.length+(j-(min (b+(k+1)) cs.length+vs.length))=j by omega,show b+k+(vs.length+1)+(j-(min (b+k) cs.length+(vs.length+1)))=j by omega];simp[show¬(b+k=j) by omega,Sj]
def LRep.splice {cs d b vs j}(h:LRep (WRep w X β) cs b)(k:LRep (WRep w X β) d vs):LRep (WRep w X β) (splice cs j d) (b.take j++vs++b.drop (j+vs.length)):=by unfold AM.splice;rw[k.1];exact((h.take j).append k).append<|h.drop _
def qA {d place'}(y:∀i,place' i=d i):∀(parts) (vals) (cs r) (e),W5 d cs parts=some r->LRep (WRep w X β) cs e->
  parts.length=vals.length->(∀(j:Nat) p v,parts[j]?=some p->vals[j]?=some v->p.1=v.1/\TRep w X β p.2 v.2)->∃vs,Instr.fill place' e.toArray vals=some vs.toArray/\LRep (WRep w X β) r vs
 |[],vals,cs,r,e,h,z,b,_=>by
  simp[W5,EO] at h;subst h;cases vals with
  |nil=>exact⟨e,rfl,z⟩
  |cons _ _=>simp at b
 |(i,v)::rest,vals,cs,r,e,h,z,b,F=>by
  cases vals with
  |nil=>simp at b
  |cons x vals=>
   let ⟨L,u⟩:=x;let ⟨G,A⟩:=F 0 _ _ rfl rfl;simp at G A;subst G;simp[W5] at h;split at h
   .rename_i o size K C D;split at h
    .rename_i E;have m:=Z9 A D;have f:u.cells.size=K.length:=by have:=m.1;exact zl this.symm
     have g:¬(o+u.cells.size>e.length):=by rw[f,<-z.1];omega
     let ⟨vs,H,I⟩:=qA y rest vals _ r _ h (z.splice m) (zl b) (λj p v y A=>F (j+1) p v (zl y)<|zl A);refine⟨vs,?_,I⟩;have J:=hH u.cells.toList 0 o e zj;simp only[Instr.fill,y,C];rw[EG<|by simp only[f,E.1,List.size_toArray,ne_eq,not_true_eq_false,decide_false,Gh,Sf];rw[<-E.1,<-f];exact g];rw[<-H];congr 1;rw[<-Array.foldl_toList];simp[Array.toList_zipIdx];exact zl J
    .cases h
   .cases h
end
def upd {α:Type}(f:Nat->α)(i:Nat)(x:α)(j:Nat):=if j=i then x else f j
section
variable {P:Program} {h:Nat->AObj} {β:Nat->Option Nat} {Y:Nat->Prop} {w:World}
abbrev XO (Y:Nat->Prop)(h:Nat->AObj)(β:Nat->Option Nat):=λb=>Y b\/Own h β b
def qG (v:Objs h β Y w) (M:∀b,Y b->b<w.heap.size) {fr:Nat} (K:β fr=none) (n:Nat) (es:List<|List WV) (F:List Value) (t:TypeId) (N:Nat)
  (U:es.length*n<=F.length) (h2:∀e∈es,e.length=n)
  (h3:∀(i j:Nat) (e:List WV) (c:WV),es[i]?=some e->e[j]?=some c->∃u,F[i*n+j]?=some u/\WRep w (XO Y h β) β c u):
  Moves h (upd h fr<|.arr n es) β (upd β fr<|some w.heap.size) Y w {w with heap:=w.heap.push (.cells F.toArray t (0,0)),drawn:=w.drawn+N} (λo=>o=fr):=by
 have C:∀o b,β o=some b->upd β fr (some w.heap.size) o=some b:=by
  intro o b d;unfold upd;split;next e=>subst e;rw[K] at d;cases d
  .exact d
 have g:∀o b,upd β fr (some w.heap.size) o=some b->(β o=some b/\o≠fr)\/(o=fr/\b=w.heap.size):=by
  intro o b d;unfold upd at d;split at d;next e=>exact .inr ⟨e,zl d.symm⟩
  next e=>exact .inl ⟨d,e⟩
 have f:∀o,isLive (upd h fr (.arr n es) o)->isLive (h o)\/o=fr:=by
  intro o r;unfold upd at r;split at r;next e=>exact .inr e
  .exact .inl r
 have O:Goes w {w with heap:=w.heap.push (.cells F.toArray t (0,0)),drawn:=w.drawn+N} (XO Y h β) (XO Y (upd h fr<|.arr n es)<|upd β fr<|some w.heap.size) β (upd β fr<|some w.heap.size):=by
  refine⟨zb,λb S d=>⟨by simp[Sm,(za:b≠w.heap.size)],λJ=>?_⟩,λb d=>by simp[World.shape?,Sm,(za:b≠w.heap.size)],λo b d=>⟨C o b d,v.lt o b d⟩⟩;rcases J with D|⟨o,r,m⟩
  .exact S<|.inl D
  .rcases g o b m with⟨m,p⟩|⟨_,e⟩
   .exact S<|.inr ⟨o,(f o r).resolve_right p,m⟩
   .omega
 refine⟨⟨zb,λb d _=>by simp[Sm,(za:b≠w.heap.size)],λb d=>by simp[World.shape?,Sm,(za:b≠w.heap.size)],rfl,rfl,rfl⟩,?_,C,?_,f⟩
 .refine⟨λo b r d=>?_,λo r=>?_,λo o' b r L d E=>?_,λo b d=>?_⟩
  .rcases g o b d with⟨m,p⟩|⟨e,G⟩
   .have z:=(f o r).resolve_right p;rw[show upd h fr (.arr n es) o=h o by simp[upd,p]];exact(v.rep o b z m).goes O (by simp[Sm,show b≠w.heap.size by have:=v.lt o b m;omega])
   .subst e;subst G;rw[show upd h o (.arr n es) o=.arr n es by simp[upd]];refine⟨F,t,zb,U,h2,λi j e c he V=>?_⟩;obtain⟨u,X,hr⟩:=h3 i j e c he V;exact⟨u,X,hr.goes O⟩
  .rcases f o r with z|e
   .by_cases e:o=fr
    .subst e;exact .inl ⟨w.heap.size,by simp[upd],zb,λD=>by have:=M _ D;omega⟩
    .rcases v.has o z with⟨b,d,Z,I⟩|⟨d,W⟩
     .exact .inl ⟨b,C o b d,zj,I⟩
     .exact .inr (by simp only[upd,e,Sj];exact⟨d,W⟩)
   .subst e;exact .inl ⟨w.heap.size,by simp[upd],zb,λD=>by have:=M _ D;omega⟩
  .rcases g o b d with⟨m,p⟩|⟨e,G⟩
   .rcases g o' b E with⟨y,x⟩|⟨T,H⟩
    .exact v.inj o o' b ((f o r).resolve_right p) ((f o' L).resolve_right x) m y
    .have:=v.lt o b m;omega
   .rcases g o' b E with⟨y,x⟩|⟨T,H⟩
    .have:=v.lt o' b y;omega
    .rw[e,T]
  .rcases g o b d with⟨m,_⟩|⟨_,G⟩
   .have:=v.lt o b m;simp;omega
   .simp;omega
 .intro o b d;rcases g o b d with⟨m,_⟩|⟨e,G⟩
  .exact .inl m
  .exact .inr ⟨e,.inl za⟩
def Xw (D:Objs h β Y w) {o b:Nat} (K:isLive<|h o) (A:β o=some b) (y old:List Value) (t:TypeId) (z:w.heap[b]?=some (.cells old.toArray t (0,0))) (J:y.length=old.length) (n:Nat) (es:List<|List WV)
  (h1:es.length*n<=y.length) (h2:∀e∈es,e.length=n)
  (h3:∀(i j:Nat) (e:List WV) (c:WV),es[i]?=some e->e[j]?=some c->∃u,y[i*n+j]?=some u/\WRep w (XO Y h β) β c u):
  Moves h (upd h o<|.arr n es) β β Y w (w.setRow b y.toArray) (λ_=>False):=by
 have m:∀k,k≠b->(w.setRow b y.toArray).heap[k]?=w.heap[k]? :=λk G=>setRow_other w b k _ G;have x:(w.setRow b y.toArray).heap[b]?=some (.cells y.toArray t (0,0)):=setRow_heap w b old.toArray _ t _ z;have C:Own h β b:=⟨o,K,A⟩;have f:∀o',isLive (upd h o (.arr n es) o')->isLive (h o'):=by
  intro o' d;unfold upd at d;split at d;next e=>subst e;exact K
  .exact d
 have L:∀o',isLive (h o')->isLive (upd h o (.arr n es) o'):=by
  intro o' d;unfold upd;split
  .trivial
  .exact d
 have p:(w.setRow b y.toArray).heap.size=w.heap.size:=zb;have r:∀k,(w.setRow b y.toArray).shape? k=w.shape? k:=by
  intro k;by_cases G:k=b
  .subst G;simp[World.shape?,x,z,J]
  .simp[World.shape?,m k G]
 have hg:Goes w (w.setRow b y.toArray) (XO Y h β) (XO Y (upd h o<|.arr n es) β) β β:=by
  refine⟨za,λk U G=>⟨m k λe=>U<|.inr<|e▸C,λS=>?_⟩,λk _=>r k,λo b A=>⟨A,D.lt o b A⟩⟩;rcases S with hy|⟨o',d,M⟩
  .exact U<|.inl hy
  .exact U<|.inr ⟨o',f o' d,M⟩
 refine⟨⟨za,λk G X=>m k λe=>X<|e▸C,λk _=>r k,rfl,rfl,rfl⟩,?_,λ_ _ h=>h,λ_ _ h=>.inl h,λo' d=>.inl<|f o' d⟩;refine⟨λo' v d g=>?_,λo' d=>?_,λo1 o2 v T N Z V=>D.inj o1 o2 v (f o1 T) (f o2 N) Z V,λo' v g=>by rw[p];exact D.lt o' v g⟩
 .by_cases I:o'=o
  .subst I;have:v=b:=by rw[A] at g;exact zl g.symm
   subst this;rw[show upd h o' (.arr n es) o'=.arr n es by simp[upd]];refine⟨y,t,x,h1,h2,λi j e c I hc=>?_⟩;obtain⟨u,hu,hr⟩:=h3 i j e c I hc;exact⟨u,hu,hr.goes hg⟩
  .rw[show upd h o (.arr n es) o'=h o' by simp[upd,I]];have H:=f o' d;have W:v≠b:=λe=>I<|D.inj o' o v H K g<|e▸A;exact(D.rep o' v H g).goes hg<|m v W
 .by_cases e:o'=o
  .subst e;rcases D.has o' K with⟨v,g,F,E⟩|⟨_,O⟩
   .exact .inl ⟨v,g,by rw[p];exact F,E⟩
   .rw[O] at A;cases A
  .rcases D.has o' (f o' d) with⟨v,g,F,E⟩|⟨g,O⟩
   .exact .inl ⟨v,g,by rw[p];exact F,E⟩
   .exact .inr (by simp only[upd,e,Sj];exact⟨g,O⟩)
def Zl (y:Objs h β Y w){o fr b:Nat}(D:isLive<|h o)(r:β o=some b)(K:β fr=none):
  Moves h (upd (upd h o .gone) fr<|h o) β (upd β fr<|some b) Y w w (λk=>k=fr):=by
 have hne:o≠fr:=λe=>by rw[e,K] at r;cases r
 have A:∀o' f,β o'=some f->upd β fr (some b) o'=some f:=by
  intro o' f d;unfold upd;split;next e=>subst e;rw[K] at d;cases d
  .exact d
 have i:∀o' f,upd β fr (some b) o'=some f->(β o'=some f/\o'≠fr)\/(o'=fr/\f=b):=by
  intro o' f d;unfold upd at d;split at d;next e=>exact .inr ⟨e,zl d.symm⟩
  next e=>exact .inl ⟨d,e⟩
 have g:∀k,isLive (upd (upd h o .gone) fr (h o) k)->(k=fr\/(k≠fr/\k≠o/\isLive (h k)/\upd (upd h o .gone) fr (h o) k=h k)):=by
  intro k I;by_cases u:k=fr
  .exact .inl u
  .by_cases p:k=o
   .exfalso;subst p;simp[upd,u,isLive] at I
   .exact .inr ⟨u,p,by simpa[upd,u,p] using I,by simp[upd,u,p]⟩
 have X:Goes w w (XO Y h β) (XO Y (upd (upd h o .gone) fr<|h o)<|upd β fr<|some b) β (upd β fr<|some b):=by
  refine⟨EI _,λk S I=>⟨rfl,λN=>?_⟩,λ_ _=>rfl,λo b r=>⟨A o b r,y.lt o b r⟩⟩;rcases N with hy|⟨o',x,j⟩
  .exact S<|.inl hy
  .rcases i o' k j with⟨j,v⟩|⟨u,p⟩
   .rcases g o' x with e|⟨_,_,m,_⟩
    .exact absurd e v
    .exact S<|.inr ⟨o',m,j⟩
   .subst p;exact S<|.inr ⟨o,D,r⟩
 refine⟨Good.refl _ _,?_,A,?_,?_⟩
 .refine⟨λo' f x d=>?_,λo' x=>?_,λo1 E f H G T J=>?_,λo' f d=>?_⟩
  .rcases i o' f d with⟨j,v⟩|⟨u,p⟩
   .rcases g o' x with e|⟨_,_,m,O⟩
    .exact absurd e v
    .rw[O];exact(y.rep o' f m j).goes X rfl
   .subst u;subst p;rw[show upd (upd h o .gone) o' (h o) o'=h o by simp[upd]];exact(y.rep o f D r).goes X rfl
  .rcases g o' x with e|⟨F,_,m,O⟩
   .subst e;rcases y.has o D with⟨f,d,C,z⟩|⟨_,M⟩
    .rw[r] at d;injection d with d
     subst d;exact .inl ⟨b,by simp[upd],C,z⟩
    .rw[M] at r;cases r
   .rcases y.has o' m with⟨f,d,C,z⟩|⟨d,M⟩
    .exact .inl ⟨f,A o' f d,C,z⟩
    .refine .inr ?_;rw[O];exact⟨d,by simp only[upd];rw[EG F];exact M⟩
  .rcases i o1 f T with⟨V,Z⟩|⟨u,f1⟩
   .rcases i E f J with⟨U,L⟩|⟨p,f2⟩
    .exact y.inj o1 E f ((g o1 H).resolve_left Z).2.2.1 ((g E G).resolve_left L).2.2.1 V U
    .subst f2;have v1:=(g o1 H).resolve_left Z;exact absurd (y.inj o1 o f v1.2.2.1 D V r) v1.2.1
   .rcases i E f J with⟨U,L⟩|⟨p,f2⟩
    .subst f1;have W:=(g E G).resolve_left L;exact absurd (y.inj E o f W.2.2.1 D U r) W.2.1
    .rw[u,p]
  .rcases i o' f d with⟨j,_⟩|⟨_,p⟩
   .exact y.lt o' f j
   .subst p;exact y.lt o f r
 .intro o' f d;rcases i o' f d with⟨j,_⟩|⟨u,p⟩
  .exact .inl j
  .subst p;exact .inr ⟨u,.inr ⟨o,D,r⟩⟩
 .intro k I;rcases g k I with e|⟨_,_,m,_⟩
  .exact .inr e
  .exact .inl m
def qY (i:Objs h β Y w)(o:Nat):Moves h (upd h o .gone) β β Y w w (λ_=>False):=by
 have d:∀k,isLive (upd h o .gone k)->isLive (h k)/\k≠o:=by
  intro k g;unfold upd at g;split at g
  .exact g.elim
  next e=>exact⟨g,e⟩
 have E:Goes w w (XO Y h β) (XO Y (upd h o .gone) β) β β:=by
  refine⟨EI _,λk j g=>⟨rfl,λu=>?_⟩,λ_ _=>rfl,λo b A=>⟨A,i.lt o b A⟩⟩;rcases u with D|⟨o',f,m⟩
  .exact j<|.inl D
  .exact j<|.inr ⟨o',(d o' f).1,m⟩
 refine⟨Good.refl _ _,⟨λo' y f r=>?_,λo' f=>by have j:=d o' f;simp only[upd,j.2,Sj];exact i.has o' j.1,λo1 C y v p z x=>i.inj o1 C y (d o1 v).1 (d C p).1 z x,i.lt⟩,λ_ _ h=>h,λ_ _ h=>.inl h,λk g=>.inl (d k g).1⟩;rw[show upd h o .gone o'=h o' by simp[upd,(d o' f).2]];exact(i.rep o' y (d o' f).1 r).goes E rfl
def iX (j:Objs h β Y w)(o:Nat){fr:Nat}(v:β fr=none)(n:Nat):Moves h (upd (upd h o .gone) fr<|.arr n []) β β Y w w (λk=>k=fr):=by
 have d:∀k,isLive (upd (upd h o .gone) fr (.arr n []) k)->k=fr\/(k≠fr/\isLive (h k)/\upd (upd h o .gone) fr (.arr n []) k=h k):=by
  intro k g;by_cases p:k=fr
  .exact .inl p
  .by_cases E:k=o
   .exfalso;subst E;simp[upd,p,isLive] at g
   .exact .inr ⟨p,by simpa[upd,p,E] using g,by simp[upd,p,E]⟩
 have y:∀k b,isLive (upd (upd h o .gone) fr (.arr n []) k)->β k=some b->k≠fr/\isLive (h k)/\upd (upd h o .gone) fr (.arr n []) k=h k:=λk b g m=>
  (d k g).resolve_left λe=>by rw[e,v] at m;cases m
 have J:Goes w w (XO Y h β) (XO Y (upd (upd h o .gone) fr<|.arr n []) β) β β:=by
  refine⟨EI _,λk F g=>⟨rfl,λC=>?_⟩,λ_ _=>rfl,λo b m=>⟨m,j.lt o b m⟩⟩;rcases C with I|⟨o',f,i⟩
  .exact F<|.inl I
  .exact F<|.inr ⟨o',(y o' _ f i).2.1,i⟩
 refine⟨Good.refl _ _,⟨λo' z f r=>?_,λo' f=>?_,λo1 G z D A x u=>j.inj o1 G z (y o1 _ D x).2.1 (y G _ A u).2.1 x u,j.lt⟩,λ_ _ h=>h,λ_ _ h=>.inl h,λk g=>(d k g).elim .inr λh=>.inl h.2.1⟩
 .have:=y o' z f r;rw[this.2.2];exact(j.rep o' z this.2.1 r).goes J rfl
 .rcases d o' f with e|⟨_,H,K⟩
  .subst e;exact .inr ⟨⟨n,by simp[upd,flat]⟩,v⟩
  .rw[K];exact j.has o' H
end
def dT (u H o):hook (u++H) o=over u (hook H) o:=by
 induction u with
 |nil=>rfl
 |cons p u ih=>
  let ⟨j,x⟩:=p;simp[SE,hook,over,zZ];split
  .rfl
  .exact ih
def over_nil (h):over [] h=h:=rfl
def xd (o x h):over [(o,x)] h=upd h o x:=by funext k;simp[over,zZ,upd];grind
def Moves.weaken {h h' β d Y w w' fr fr'}(m:Moves h h' β d Y w w' fr)(e:∀o,fr o->fr' o):Moves h h' β d Y w w' fr':=
 ⟨m.good,m.objs,m.bmono,λo b g=>(m.bnew o b g).imp id λ⟨x,y⟩=>⟨e o x,y⟩,λo f=>(m.lmono o f).imp id<|e o⟩
section
variable {P:Program} {h:Nat->AObj} {β:Nat->Option Nat} {Y:Nat->Prop} {w:World}
def Does (P:Program)(h:Nat->AObj)(β:Nat->Option Nat)(Y:Nat->Prop)(w:World)(fr:Nat)(r:AR)(s:Sem Next):Prop:=
 ∃n v w' β',s.run P w=.ok n w'/\(n=.value v\/(n=.skip/\v=undef))/\Moves h (over r.upd h) β β' Y w w' (λk=>k=fr)/\TRep w' (XO Y (over r.upd h) β') β' r.val v
def xX (f:Objs h β Y w){fr r s rd}(d:∃u,s.run P w=.ok u w/\TRep w (XO Y h β) β r u):
  Does P h β Y w fr ⟨r,[],rd⟩ (do pure (.value (<-s))):=by
 let ⟨u,b,e⟩:=d;exact⟨.value u,u,w,β,by simp[b],.inl rfl,(Moves.refl f λ_=>rfl).weaken λ_ h=>h.elim,e⟩
def yD (f:Objs h β Y w){fr v r s}(e:valR v=some r)(d:∀x,v=some x->∃u,s.run P w=.ok u w/\TRep w (XO Y h β) β x u):
  Does P h β Y w fr r (do pure (.value (<-s))):=by
 obtain⟨x,b,rfl⟩:=EM.1 e;exact xX f<|d x b
def zO {α t f}{r:α}(b:yl P t f=some r):∃d,tyOf P t=some d/\f d=some r:=by unfold yl at b;grind
def y9 {α t f}{r:α}(g:yf P t f=some r):∃d e b,tyOf P t=some d/\d.kind=.slice e/\tyOf P e=some b/\f b=some r:=by unfold yf at g;grind
def wO {t d z}(hd:tyOf P t=some d)(h:d.zero=some z):∃v,(zeroValue t).run P w=.ok v w/\z=v.cells.toList.map fvOf/\(∀u∈v.cells.toList,u.oneCell'=true)/\∃i,P.info? t=some i/\i.zero=some v:=by
 let ⟨i,u,g,j,_,_,_,b,_⟩:=wU hd;rw[h] at b;cases e:i.zero with
 |none=>rw[e] at b;cases b
 |some v=>
  rw[e] at b;simp only at b;split at b
  .rename_i f;injection b with b
   refine⟨v,by simp[zeroValue,typeInfo,g,e],b,λu j=>?_,i,g,e⟩;simp only[SF] at f;grind
  .cases b
def kC (X b)(f:∀u∈b,u.oneCell'=true):LRep (WRep w X β) (fzs<|b.map fvOf) b:=by refine⟨by simp[fzs],λj c u d e=>?_⟩;simp[fzs,EX,e,S2,EO] at d;subst d;exact .a _ _<|.fz _ _<|pS w X u<|f u<|Sl e
def bz {X cs b}(f:LRep (WRep w X β) cs b):[cs].length*cs.length<=b.length/\(∀e∈ [cs],e.length=cs.length)/\
  ∀(i j) (e) (c),[cs][i]?=some e->e[j]?=some c->∃u,b[i*cs.length+j]?=some u/\WRep w X β c u:=by
 refine⟨by simp[f.1],zb,λi j e c d g=>?_⟩;cases i with
 |zero=>simp at d;subst d;simpa using f.get g
 |succ i=>simp at d
def uF (A:Objs h β Y w) (y:∀b,Y b->b<w.heap.size) {fr} (g:β fr=none) (n es) (f:List Value) (t m v x) {s rd}
  (D:s.run P w=.ok v {w with heap:=w.heap.push (.cells f.toArray t (0,0)),drawn:=w.drawn+m})
  (C:es.length*n<=f.length) (z:∀e∈es,e.length=n)
  (p:∀(i j) e c,es[i]?=some e->e[j]?=some c->∃u,f[i*n+j]?=some u/\WRep w (XO Y h β) β c u)
  (r:∀w' d,d fr=some w.heap.size->w'.shape? w.heap.size=some (t,f.length)->TRep w' (XO Y (upd h fr<|.arr n es) d) d x v):
  Does P h β Y w fr ⟨x,[(fr,.arr n es)],rd⟩ (do pure (.value (<-s))):=by
 refine⟨.value v,v,{w with heap:=w.heap.push (.cells f.toArray t (0,0)),drawn:=w.drawn+m},upd β fr<|some w.heap.size,?_,.inl rfl,?_,?_⟩
 .simp_all
 .rw[xd];exact(qG A y g n es f t m C z p)
 .rw[xd];exact r _ _ (by simp[upd]) (by simp[World.shape?])
def dh (y:Objs h β Y w)(u:∀b,Y b->b<w.heap.size){fr}(g:β fr=none){t d z}(hd:tyOf P t=some d)(x:d.zero=some z):
  Does P h β Y w fr ⟨.c<|.a<|.ep fr z.length 0 0,[(fr,.arr z.length [fzs z])],[]⟩ (do pure (.value (<-Instr.alloc t true<|.tuple #[]))):=by
 obtain⟨v,r,rfl,o,_⟩:=wO (w:=w) hd x;let ⟨i,j,m⟩:=bz<|kC (w:=w) (β:=β) (XO Y h β) v.cells.toList o;have f:(fzs<|v.cells.toList.map fvOf).length=(v.cells.toList.map fvOf).length:=by simp[fzs]
 rw[f] at i j m;refine uF y u g _ _ v.cells.toList t 0 (.pointer<|some ⟨w.heap.size,0,none⟩) _ ?_ i j m ?_
 .simp[Instr.alloc,Sv,r,Se,newVar,newRow,run_newObj,SC,F6,Gg]
 .intro w' e p _;have:=ARep.ep (w:=w') (X:=XO Y (upd h fr<|.arr (v.cells.toList.map fvOf).length [fzs<|v.cells.toList.map fvOf]) e) (β:=e) fr (v.cells.toList.map fvOf).length 0 0 _ p;simp only[Nat.zero_mul,Gg] at this;exact .a _ _ this
def box_does (g:Objs h β Y w)(j:∀b,Y b->b<w.heap.size){fr}(e:β fr=none){t x u cs}(i:TRep w (XO Y h β) β x u)(m:uR x=some cs):
  Does P h β Y w fr ⟨.c<|.a<|.ep fr cs.length 0 0,[(fr,.arr cs.length [cs])],[]⟩ (do pure (.value (<-Instr.box t u))):=by
 let ⟨p,f,o⟩:=bz<|Z9 i m;refine uF g j e _ _ u.cells.toList t 0 (.pointer<|some ⟨w.heap.size,0,none⟩) _ ?_ p f o ?_
 .rfl
 .intro w' d r _;have:=ARep.ep (w:=w') (X:=XO Y (upd h fr<|.arr cs.length [cs]) d) (β:=d) fr cs.length 0 0 _ r;simp[Nat.zero_mul,Gg] at this;exact .a _ _ this
def xN (x):isLive (flat x)↔isLive x:=by cases x<;>simp[flat,isLive]
def ue (g:Objs h β Y w){o b n es}(p:flat (h o)=.arr n es)(m:β o=some b):∃(d:List Value) (t:TypeId),w.heap[b]?=some (.cells d.toArray t (0,0))/\es.length*n<=d.length/\(∀e∈es,e.length=n)/\
  ∀(i j) (e) (c),es[i]?=some e->e[j]?=some c->∃u,d[i*n+j]?=some u/\WRep w (XO Y h β) β c u:=by
 have f:isLive (h o):=by rw[<-xN,p];trivial
 have:=g.rep o b f m;unfold ORep at this;grind
def lz {es:List (List WV)}{n i L e}(f:es.length*n<=L)(d:es[i]?=some e)(_:e.length=n):i*n+n<=L:=by have:(i+1)*n<=es.length*n:=Ss _<|(EW.1 d).1;grind
def elem_rep {X:Nat->Prop} {es:List (List WV)} {n i:Nat} {b:List Value} {e:List WV} (f:es.length*n<=b.length) (g:∀e∈es,e.length=n)
  (m:∀(i j:Nat) (e:List WV) (c:WV),es[i]?=some e->e[j]?=some c->∃u,b[i*n+j]?=some u/\WRep w X β c u) (d:es[i]?=some e):LRep (WRep w X β) e ((b.drop<|i*n).take n):=by
 have h:=g e<|Sl d;have o:=lz f d h;refine⟨zd,λj c u p r=>?_⟩;grind
def Kl (K:Objs h β Y w){t d x u r}(hd:tyOf P t=some d)(D:TRep w (XO Y h β) β x u)(p:wD d h x=some r):
  ∃v,(Instr.loadAt t u).run P w=.ok v w/\TRep w (XO Y h β) β r.1 v:=by
 unfold wD at p;split at p
 .rename_i o n i j;split at p
  .rename_i m es H;split at p
   .rename_i U;split at p
    .rename_i e L;split at p<;>simp[EO,reduceCtorEq] at p;rename_i v C;subst p;obtain⟨b,T,rfl⟩:=D.ep_inv;obtain⟨us,X,F,J,M,N⟩:=ue K (by rw[H];rfl) T;refine gW hd _ ((elem_rep J M N L).drop j) (λk u y=>?_) C;rw[SS,Sy,SS] at y;split at y
     .simp[World.cell?,F,Gf,G7,S5,Sj];grind
     .cases y
    .cases p
   .cases p
  .cases p
 .rename_i cs;split at p<;>simp[EO,reduceCtorEq] at p;rename_i v C;subst p;cases D.fz_inv with
  |pt _ b S f W Z h5 O=>
   refine gW hd ((List.range cs.length).map f) ?_ (λj u y=>?_) C
   .refine⟨by simp[fzs],λj c u E y=>?_⟩;simp only[fzs,EX] at E y;obtain⟨g,G,rfl⟩:=EM.1 E;obtain⟨k,V,rfl⟩:=EM.1 y;have A:k=j:=by grind
    subst A;exact .a _ _<|.fz _ _<|O k g G
   .simp[EX] at y;have hj:j<cs.length:=by grind
    simp_all
 .cases p
def mz (b:Objs h β Y w){fr t d x u r}(hd:tyOf P t=some d)(e:TRep w (XO Y h β) β x u)(f:wD d h x=some r):
  Does P h β Y w fr ⟨r.1,[],r.2⟩ (do pure (.value (<-Instr.loadAt t u))):=xX b<|Kl b hd e f
def LRep.cell {X cs d}(h:LRep (WRep w X β) cs d):∀u∈d,u.oneCell'=true:=by
 intro u f;let ⟨j,e⟩:=G4 f;have b:j<cs.length:=by have:=(EW.1 e).1;have:=h.1;omega
 exact(h.2 j _ u (EU b) e).oneCell
def iD {b cs:List Value}{a j}(h:a+cs.length<=b.length):(b.take a++cs++b.drop (a+cs.length))[j]?=if j<a then b[j]? else if j<a+cs.length then cs[j-a]? else b[j]? :=zd
def dB {e cs a j}(h:a+cs.length<=e.length):(splice e a cs)[j]?=if j<a then e[j]? else if j<a+cs.length then cs[j-a]? else e[j]? :=by unfold splice;grind
def ic (hO:Objs h β Y w){fr t d x y u v r}(hd:tyOf P t=some d)(hx:TRep w (XO Y h β) β x u)(hy:TRep w (XO Y h β) β y v)(g:uh d h x y=some r):
  Does P h β Y w fr r (do (Instr.storeAt t u v);pure .skip):=by
 unfold uh at g;split at g
 .rename_i cs o n i j L;split at g
  .rename_i m es Z;split at g
   .rename_i H;let ⟨H,hsz⟩:=H;subst H;split at g
    .rename_i e he;split at g<;>simp[EO,reduceCtorEq] at g;subst g;obtain⟨b,hb,rfl⟩:=hx.ep_inv;obtain⟨p,X,V,g2,g3,g4⟩:=ue hO (by rw[Z];rfl) hb;have C:=Z9 hy L;have S:=g3 e<|Sl he;have T:=lz g2 he S;have hlen:=C.1.symm;have O:i*m+j+v.cells.toList.length<=p.length:=za;have D:v.cells.size=d.size:=zd
     have N:=Xw hO (by rw[Z];trivial:isLive<|h o) hb (p.take (i*m+j)++v.cells.toList++p.drop (i*m+j+v.cells.toList.length)) p X V zd m (es.set i<|splice e j cs)
      zd
      (λK f=>by
       rcases Ge f with h1|h1
       .grind
       .subst h1;unfold splice;simp;omega)
      (λI G K c f E=>by
       rw[iD za];rw[Gm] at f;split at f
       .rename_i A;subst A;split at f
        .injection f with f
         subst f;rw[dB za] at E;by_cases k1:G<j
         .grind
         .rw[EG k1] at E;rw[EG za];by_cases k2:G<j+cs.length
          .rw[EL k2] at E;let ⟨z,W,U⟩:=C.get E;grind
          .grind
        .cases f
       .rename_i A;have hen':=g3 K (Sl f);have hj':G<m:=zd;let ⟨z,W,U⟩:=g4 I G K c f E;refine⟨z,?_,U⟩;rcases Nat.lt_or_gt_of_ne A with J|hgt
        .have:(i+1)*m<=I*m:=Ss _ J;grind
        .have:(I+1)*m<=i*m:=Ss _ hgt;rw[SO] at this;rw[EL za];exact W)
     refine⟨.skip,undef,w.setRow b (p.take (i*m+j)++v.cells.toList++p.drop (i*m+j+v.cells.toList.length)).toArray,β,?_,.inr ⟨rfl,rfl⟩,?_,trivial⟩
     .have M:(storeVar t ⟨b,i*m+j,none⟩ v).run P w=.ok () (w.setRow b (p.take (i*m+j)++v.cells.toList++p.drop (i*m+j+v.cells.toList.length)).toArray):=by simp only[storeVar,Sv,zX hd,Se,D,ne_eq,not_true_eq_false,Sj];exact(run_storeCells_at P b _ X v.cells.toList 0 p.toArray w V za C.cell)
      simp[Sv,Instr.storeAt,Instr.sureAddr,SC,Se,M]
     .rw[xd];exact N.weaken λ_ h=>h.elim
    .cases g
   .cases g
  .cases g
 .cases g
def len_does (H:Objs h β Y w){fr t ty d x u r}(hd:tyOf P t=some d)(p:TRep w (XO Y h β) β x u)(g:lenP d h x=some r):
  Does P h β Y w fr ⟨iV r.1,[],r.2⟩ (do pure (.value (<-Builtin.len_ #[t] ty #[u]))):=by
 refine xX H ?_;have fin:∀n,(Builtin.len_ #[t] ty #[u]).run P w=.ok (goInt n) w->r.1=n->∃z,(Builtin.len_ #[t] ty #[u]).run P w=.ok z w/\TRep w (XO Y h β) β (iV r.1) z:=λn v K=>⟨_,v,K ▸ .int_mk _ _⟩;unfold lenP at g;split at g
 .rename_i e m;have i:=yW hd m;unfold XN at g;split at g
  .injection g with g;subst g;rw[p.nils_inv] at fin ⊢;exact fin 0 (by simp[Builtin.len_,EZ i,goInt]) rfl
  .injection g with g;subst g
   rename_i M n es;cases p.fz_inv with
   |slnil=>exact fin 0 (by simp[Builtin.len_,EZ i,goInt]) rfl
   |sl0 _ _ a=>exact fin 0 (by simp[Builtin.len_,EZ i,goInt]) rfl
   |sl _ _ _ b C cap y f F=>subst F;exact fin es.length (by simp[Builtin.len_,EZ i,goInt]) rfl
  .injection g with g;subst g
   cases p.fz_inv with
   |z0 _ a=>exact fin 0 (by simp[Builtin.len_,EZ i,goInt]) rfl
   |z0n=>exact fin 0 (by simp[Builtin.len_,EZ i,goInt]) rfl
  .injection g with g;subst g
   rename_i o n C y;obtain⟨b,q,cap,sz,N,_,_,_,_,_,rfl⟩|⟨rfl,rfl⟩:=p.osl_inv
   .exact fin y (by simp[Builtin.len_,EZ i,goInt]) rfl
   .exact fin 0 (by simp[Builtin.len_,EZ i,goInt]) rfl
  .cases g
 .rename_i m;unfold lenStr at g;split at g
  .injection g with g;subst g;rw[p.str_inv] at fin ⊢
   rename_i l;have D:(⟨l.toArray⟩:ByteArray).size=l.length:=by simp[ByteArray.size]
   exact fin l.length (by simp[Builtin.len_,EZ<|JL hd m,goInt,D]) rfl
  .cases g
 .rename_i T L m;let ⟨O,A,E⟩:=xJ hd;rw[E] at m;have i:=lN m;subst i;unfold tj at g;split at g
  .rename_i o;split at g
   .rename_i es G;injection g with g;subst g
    obtain⟨b,J,rfl⟩:=p.mp_inv;have j:=H.rep o b (by rw[G];trivial) J;rw[G] at j;unfold ORep flat at j;let ⟨ms,S,F,I,_⟩:=j;refine fin es.length ?_ rfl;simp[Builtin.len_,Sv,EZ A,Se,Gf,SI,getObj,Sem.run,F,SC,List.size_toArray,I]
   .cases g
  .cases g
 next n e m=>simp[EO] at g;subst g;exact fin n (by simp[Builtin.len_,EZ<|Yb hd m,goInt]) rfl
 .cases g
def Kz {X}:∀ {l} {d} {k} {b},ui l=some (k,b)->LRep (TRep w X β) l d->d=b.map (Value.int k)/\b≠[]
 |[],d,k,b,h,_=>by simp[ui] at h
 |[.c (.a (.fz (.int v n)))],d,k,b,h,m=>by simp[ui,EO,Sr] at h;obtain⟨rfl,rfl⟩:=h;obtain⟨u,g,rfl,j,i⟩:=m.cons_inv;rw[i.nil_inv,TRep.int_inv j];simp
 |.c (.a (.fz (.int v n)))::y::r,d,k,b,h,m=>by
  simp[ui] at h;let ⟨⟨A,l2⟩,o,f⟩:=G3.1 h;simp only at f;split at f
  .rename_i e;injection f with f
   injection f with p x
   subst p;subst x;subst e;obtain⟨u,g,rfl,j,i⟩:=m.cons_inv;let ⟨z,C⟩:=Kz o i;rw[z,TRep.int_inv j];simp
  .cases f
 |.any::r,d,k,b,h,_=>by simp[ui] at h
 |.agg _::r,d,k,b,h,_=>by simp[ui] at h
 |.tup _::r,d,k,b,h,_=>by simp[ui] at h
 |.c (.fn _ _ _)::r,d,k,b,h,_=>by simp[ui] at h
 |.c (.a (.ep _ _ _ _))::r,d,k,b,h,_=>by simp[ui] at h
 |.c (.a (.osl _ _ _ _))::r,d,k,b,h,_=>by simp[ui] at h
 |.c (.a (.mp _))::r,d,k,b,h,_=>by simp[ui] at h
 |.c (.a .any)::r,d,k,b,h,_=>by simp[ui] at h
 |.c (.a (.fz (.bool _)))::r,d,k,b,h,_=>by simp[ui] at h
 |.c (.a (.fz (.str _)))::r,d,k,b,h,_=>by simp[ui] at h
 |.c (.a (.fz (.cst _)))::r,d,k,b,h,_=>by simp[ui] at h
 |.c (.a (.fz .N))::r,d,k,b,h,_=>by simp[ui] at h
 |.c (.a (.fz (.sl _ _ _)))::r,d,k,b,h,_=>by simp[ui] at h
 |.c (.a (.fz (.pt _)))::r,d,k,b,h,_=>by simp[ui] at h
def Kw (k):∀(l:List Int) (x),((l.map<|Value.int k).foldlM Builtin.max2<|.int k x).run P w=.ok (.int k<|l.foldl max x) w
 |[],x=>zb
 |y::l,x=>by simp[SA,List.foldlM_cons,Builtin.max2,Sv,SC,Se,Gz];rw[show(if y>x then y else x)=max x y by simp[Int.max_def];split<;>split<;>omega];exact Kw k l _
def d8 (k):∀(l:List Int) (x),((l.map<|Value.int k).foldlM Builtin.min2<|.int k x).run P w=.ok (.int k<|l.foldl min x) w
 |[],x=>zb
 |y::l,x=>by simp[SA,List.foldlM_cons,Builtin.min2,Sv,SC,Se,Gz];rw[show(if y<x then y else x)=min x y by omega];exact d8 k l _
def pX {X m l d r}(f ty)(h:minA m l=some r)(g:LRep (TRep w X β) l d):
  ∃z,(if m then Builtin.max_ f ty d.toArray else Builtin.min_ f ty d.toArray).run P w=.ok z w/\TRep w X β r z:=by
 unfold minA at h;split at h
 .rename_i p i;let ⟨k,b⟩:=p;injection h with h
  subst h;obtain⟨rfl,e⟩:=Kz i g;cases b with
  |nil=>exact absurd rfl e
  |cons n b=>
   refine⟨.int k _,?_,.int_mk _ _⟩;cases m
   .simpa[Builtin.min_,yb] using d8 (P:=P) (w:=w) k b n
   .simpa[Builtin.max_,zS] using Kw (P:=P) (w:=w) k b n
 .cases h
end
def Moves.trans {h j z β e β2 Y w w1 A m v f} (d:Moves h j β e Y w w1 m) (g:Moves j z e β2 Y w1 A v)
  (F:∀o,m o->β o=none) (_:Objs h β Y w) (C:∀o,m o->f o) (E:∀o,v o->f o):Moves h z β β2 Y w A f:=by
 have p:∀b,b<w.heap.size->Own j e b->Own h β b:=by
  rintro b i ⟨o,u,D⟩;rcases d.bnew o b D with h' |⟨hfo,h' |h'⟩
  .rcases d.lmono o u with r|hfo
   .exact⟨o,r,h'⟩
   .grind
  .omega
  .exact h'
 have G:=d.good.size;refine⟨d.good.trans g.good p,g.objs,λo b i=>g.bmono o b<|d.bmono o b i,λo b i=>?_,λo u=>?_⟩
 .rcases g.bnew o b i with h' |⟨hfo,h' |h'⟩
  .exact(d.bnew o b h').imp id λ⟨x,y⟩=>⟨C o x,y⟩
  .grind
  .grind
 .rcases g.lmono o u with h' |h'
  .exact(d.lmono o h').imp id<|C o
  .grind
def sL {P:Program}{h:Nat->AObj}{β:Nat->Option Nat}{Y:Nat->Prop}{w:World}(i:Objs h β Y w){k:Nat}{x:AObj}(H:isLive<|h k)(F:isLive x)(m:bareO (h k)->bareO x)(z:∀X b,β k=some b->ORep w X β (h k) b->ORep w X β x b):Moves h (upd h k x) β β Y w w (λ_=>False):=by
 have g:∀o,isLive (upd h k x o)->isLive (h o):=λo d=>by
  unfold upd at d;split at d
  .grind
  .exact d
 have A:∀o,isLive (h o)->isLive (upd h k x o):=λo d=>by
  unfold upd;split
  .exact F
  .exact d
 have G:Goes w w (XO Y h β) (XO Y (upd h k x) β) β β:=by
  refine⟨EI _,λb r _=>⟨rfl,λu=>?_⟩,λ_ _=>rfl,λo b m=>⟨m,i.lt o b m⟩⟩;rcases u with I|⟨o',v,p⟩
  .grind
  .exact r<|.inr ⟨o',g _ v,p⟩
 refine⟨Good.refl _ _,⟨λo b d j=>?_,λo d=>?_,λo1 E b y C=>i.inj o1 E b (g _ y)<|g _ C,i.lt⟩,λ_ _ h=>h,λ_ _ h=>.inl h,λo d=>.inl<|g o d⟩
 .have f:=(i.rep o b (g o d) j).goes G rfl;by_cases e:o=k
  .subst e;rw[show upd h o x o=x by simp[upd]];exact z _ _ j f
  .rw[show upd h k x o=h o by simp[upd,e]];exact f
 .rcases i.has o (g o d) with f|⟨f,D⟩
  .grind
  .refine .inr ⟨?_,D⟩;by_cases e:o=k
   .subst e;rw[show upd h o x o=x by simp[upd]];exact m f
   .rw[show upd h k x o=h o by simp[upd,e]];exact f
def iP {P:Program}{h:Nat->AObj}{β:Nat->Option Nat}{Y:Nat->Prop}{w:World}(y:Objs h β Y w)(I:∀b,Y b->b<w.heap.size){fr:Nat}(r:β fr=none){t:TypeId}{d:TyD}{z:List FV}(hd:tyOf P t=some d)(H:d.zero=some z):
  Does P h β Y w fr ⟨.c<|.a<|.ep fr z.length 0 0,[(fr,.arr z.length [bldZ P t d fr z])],[]⟩ (do pure (.value (<-Instr.alloc t true<|.tuple #[]))):=by
 unfold bldZ;split
 .obtain⟨v,M,p,L,_⟩:=wO (w:=w) hd H;obtain⟨F,G,J⟩:=bz<|kC (w:=w) (β:=β) (XO Y h β) v.cells.toList L;have T:v.cells.toList.length=2:=by have:=(SJ List.length p).symm;grind
  rw[<-p] at F G J;have E:=qG y I r 2 _ v.cells.toList t 0 F G J;have D:({w with heap:=w.heap.push (.cells v.cells.toList.toArray t (0,0)),drawn:=w.drawn+0}:World).shape? w.heap.size=some (t,2):=by simp[World.shape?];exact T
  have O:=sL (P:=P) E.objs (k:=fr) (x:=.arr 2 [[.a<|.bld t fr,.a<|.fz .N]]) (by simp[upd,isLive]) trivial (λm=>by
   obtain⟨n,m⟩:=m
   simp[upd,flat] at m) (λX b m g=>by
    have C:b=w.heap.size:=by simpa[upd] using m.symm
    subst C;rw[show upd h fr (.arr 2 [fzs [.cst<|.pointer none,.N]]) fr=.arr 2 [fzs [.cst<|.pointer none,.N]] by simp[upd]] at g;obtain⟨W,U,g1,N,g3,K⟩:=g;refine⟨W,U,g1,N,zb,λi j e c A o=>?_⟩;cases i with
    |succ i=>simp at A
    |zero=>
     simp at A;subst A;cases j with
     |zero=>
      simp at o;subst o;obtain⟨u,Z,g⟩:=K 0 0 _ (.a<|.fz<|.cst<|.pointer none) rfl rfl;refine⟨u,Z,.a _ _<|.bld t fr _ u m D<|.inl ?_⟩;cases g with
      |a _ _ g=>cases g with
       |fz _ _ g=>cases g with
        |cst _ _=>rfl
     |succ j=>
      cases j with
      |zero=>simp at o;subst o;exact K 0 1 _ (.a<|.fz .N) rfl rfl
      |succ j=>simp at o)
  refine⟨.value<|.pointer<|some ⟨w.heap.size,0,none⟩,.pointer<|some ⟨w.heap.size,0,none⟩,{w with heap:=w.heap.push (.cells v.cells.toList.toArray t (0,0)),drawn:=w.drawn+0},upd β fr<|some w.heap.size,?_,.inl rfl,?_,?_⟩
  .simp only[Instr.alloc,Sv,M,Se,newVar,newRow,run_newObj,SC,F6,Gg]
  .rw[xd];show Moves h (upd h fr<|.arr 2 [[.a<|.bld t fr,.a<|.fz .N]]) _ _ _ _ _ _;rw[show upd h fr (.arr 2 [[.a<|.bld t fr,.a<|.fz .N]])=upd (upd h fr<|.arr 2 [fzs [.cst<|.pointer none,.N]]) fr (.arr 2 [[.a<|.bld t fr,.a<|.fz .N]]) by funext k;simp only[upd];split<;>rfl];exact(E.trans O (f:=λk=>k=fr) (λk hk=>zd) y (λ_ h=>h) λ_ h=>h.elim)
  .rw[xd];have:=ARep.ep (w:={w with heap:=w.heap.push (.cells v.cells.toList.toArray t (0,0)),drawn:=w.drawn+0}) (X:=XO Y (upd h fr<|.arr 2 [[.a<|.bld t fr,.a<|.fz .N]])<|upd β fr<|some w.heap.size) (β:=upd β fr<|some w.heap.size) fr 2 0 0 w.heap.size (by simp[upd]);exact .a _ _ this
 .exact dh y I r hd H
section
variable {P:Program} {h:Nat->AObj} {β:Nat->Option Nat} {Y:Nat->Prop} {w:World}
def jv {n}:∀ {es:List (List WV)} (_:∀e∈es,e.length=n) (i j),j<n->es.flatten[i*n+j]?=(es[i]?).bind (·[j]?)
 |[],_,i,j,_=>zb
 |e::es,b,i,j,d=>by
  cases i with
  |zero=>simp[SR,(b e zb),d]
  |succ i=>
   have ih:=jv (es:=es) (λe h=>b e<|by simp[h]) i j d;grind
def uo {n}:∀ {es:List (List WV)} (_:∀e∈es,e.length=n),es.flatten.length=es.length*n
 |[],_=>zb
 |e::es,b=>by have:=uo (es:=es) (λe h=>b e<|by simp[h]);grind
def xz {X n}{es:List (List WV)}{b}(d:∀e∈es,e.length=n)(g:LRep (WRep w X β) es.flatten b):
  ∀(i j) (e) (c),es[i]?=some e->e[j]?=some c->∃u,b[i*n+j]?=some u/\WRep w X β c u:=by
 intro i j e c h m;have f:j<n:=zd;exact g.get (by rw[jv d i j f,h];exact m)
def um {X n} {es:List (List WV)} {d} (g:∀e∈es,e.length=n) (b:d.length=es.length*n)
  (p:∀(i j) e c,es[i]?=some e->e[j]?=some c->∃u,d[i*n+j]?=some u/\WRep w X β c u):LRep (WRep w X β) es.flatten d:=by
 refine⟨by rw[uo g,b],λk c u h o=>?_⟩;have m:k<es.length*n:=zd
 have hn0:0<n:=by rcases Nat.eq_zero_or_pos n with h0|h0; · subst h0;simp at m
                  .exact h0
 have f:k/n*n+k % n=k:=by rw[Nat.mul_comm];exact Nat.div_add_mod k n
 rw[<-f] at h o;rw[jv g _ _<|Nat.mod_lt _ hn0] at h;grind
def jt (hO:Objs h β Y w){n:Nat}{x:TV}{v:Value}{r:List (List WV)}{rd:List Nat}(d:w7 n h x=some (r,rd))(L:TRep w (XO Y h β) β x v)(hn0:0<n):
  (∀e∈r,e.length=n)/\∃(E:List Value),LRep (WRep w (XO Y h β) β) r.flatten E/\((v=.slice none 0 0/\r=[])\/
   ∃a cap,v=.slice (some a) r.length cap/\∀j u,E[j]?=some u->w.cell? (a.add j)=some u):=by
 unfold w7 at d;split at d
 .simp only[EO,Sr] at d;obtain⟨rfl,rfl⟩:=d;exact⟨zb,[],.nil,.inl ⟨L.nils_inv,rfl⟩⟩
 .rename_i nn m es;split at d
  .rename_i hm;subst hm;obtain⟨rfl,rfl⟩:=d;have M:=L.fz_inv;cases M with
   |slnil=>exact⟨zb,[],.nil,.inl ⟨rfl,rfl⟩⟩
   |sl0 _ _ a=>exact⟨zb,[],.nil,.inr ⟨a,0,rfl,λj u h=>zd⟩⟩
   |sl _ _ _ b off cap len f T g2 V Z g5 g6 g7=>
    subst T;have H:∀e∈es.map fzs,e.length=m:=by intro e d;obtain⟨S,z,rfl⟩:=SG.1 d;obtain⟨i,D⟩:=G4 z;simp[fzs,g5 i S D]
    refine⟨H,(List.range<|es.length*m).map λk=>f (k/m)<|k % m,?_,.inr ⟨⟨b,off,none⟩,cap,zb,?_⟩⟩
    .refine um H zb λi j e c d F=>?_;rw[EX] at d;obtain⟨S,z,rfl⟩:=EM.1 d;rw[fzs,EX] at F;obtain⟨c',O,rfl⟩:=EM.1 F;have D:=(EW.1 z).1;have J:j<m:=zd;have G:i*m+j<es.length*m:=by have:(i+1)*m<=es.length*m:=Ss _ D;grind
     refine⟨f i j,?_,.a _ _<|.fz _ _<|g7 i j S c' z O⟩;rw[EX,Gc G];simp only[S2,EO];rw[Nat.mul_comm i m,Nat.mul_add_div hn0,Nat.div_eq_of_lt J,Nat.mul_add_mod,Nat.mod_eq_of_lt J,Gg]
    .intro k u C;rw[EX] at C;obtain⟨k',y,rfl⟩:=EM.1 C;have K:k<es.length*m:=zd;rw[Gc K] at y;injection y with y
     subst y;have D:k/m<es.length:=by rw[Nat.div_lt_iff_lt_mul hn0];exact K
     have N:=g5 _ _<|EU D;have J:k % m<es[k/m].length:=by rw[N];exact Nat.mod_lt _ hn0
     have:=g6 _ _ _ _ (EU D)<|EU J;rw[Addr.add_lit];rw[show off+k=off+k/m*m+k % m by have:=Nat.div_add_mod k m;rw[Nat.mul_comm] at this;omega];exact this
  .cases d
 .simp only[EO,Sr] at d;obtain⟨rfl,rfl⟩:=d;have M:=L.fz_inv;cases M with
  |z0 _ a=>exact⟨zb,[],.nil,.inr ⟨a,0,rfl,λj u h=>zd⟩⟩
  |z0n=>exact⟨zb,[],.nil,.inl ⟨rfl,rfl⟩⟩
 .rename_i o m off len;split at d
  .rename_i A es ho;split at d
   .rename_i F;obtain⟨rfl,rfl,I⟩:=F;obtain⟨rfl,rfl⟩:=d;obtain⟨b,q,cap,sz,tt,hb,hsh,hlc,W,hq,rfl⟩|⟨h0,rfl⟩:=L.osl_inv
    case inr=>subst h0;exact⟨zb,[],zl LRep.nil,.inl ⟨rfl,zb⟩⟩
    obtain⟨us,t,T,g2,V,Z⟩:=ue hO (by rw[ho];rfl) hb;have H:∀e∈(es.drop off).take len,e.length=A:=λe d=>V e<|GB<|SX d;have X:((es.drop off).take len).length=len:=zd;have U:(off+len)*A<=es.length*A:=Ss _ I;refine⟨H,(us.drop<|off*A).take<|len*A,?_,.inr ⟨⟨b,q,none⟩,cap,zd,?_⟩⟩
    .refine um H zd λi j e c d F=>?_;rw[Sy,SS] at d;split at d
     .rename_i D;obtain⟨u,C,hr⟩:=Z _ j e c d F;have G:i*A+j<len*A:=by have:(i+1)*A<=len*A:=Ss _ D;grind
      grind
     .cases d
    .intro k u C;rw[Sy,SS] at C;split at C
     .rename_i K
      have hl0:0<len:=by rcases Nat.eq_zero_or_pos len with h0|h0; · subst h0;simp at K
                         .exact h0
      rw[hq.resolve_right za,Addr.add_lit];simp only[World.cell?,T,Gf,G7,S5,Sj];exact C
     .cases C
   .cases d
  .cases d
 .cases d
def vl (t ty e:TypeId)(i:TypeInfo)(o:P.underlying t=some (.slice e))(h:P.info? e=some i)(b:Option Addr)(d cap:Nat)(f:d<=cap)(v:Value)(g:v=.slice none 0 0\/∃a c,v=.slice (some a) 0 c):
  (Builtin.append_ #[t,t] ty #[.slice b d cap,v]).run P w=.ok (.slice b d cap) w:=by
 have m:(Builtin.firstCells i.size 0 v).run P w=.ok #[] w:=by
  rcases g with rfl|⟨a,c,rfl⟩
  .rfl
  .simp[Builtin.firstCells,loadCells,loadCellsFrom]
 have j:(Builtin.lenOf v).run P w=.ok 0 w:=by rcases g with rfl|⟨a,c,rfl⟩<;>simp[Builtin.lenOf]
 cases b<;>simp[Builtin.append_,EZ o,sizeOf,typeInfo,h,j,f,m,storeCells]
def dD (hO:Objs h β Y w) (hY:∀b,Y b->b<w.heap.size) {fr:Nat} (Z:β fr=none) {t ty e:TypeId} {d I:TyD} {s x:TV} {u v:Value} {r:AR} (hd:tyOf P t=some d) (hk:d.kind=.slice e) (hde:tyOf P e=some I)
  (hs:TRep w (XO Y h β) β s u) (hx:TRep w (XO Y h β) β x v) (L:jB I fr h s x=some r):
  Does P h β Y w fr r (do pure (.value (<-Builtin.append_ #[t,t] ty #[u,v]))):=by
 have ht:=yW hd hk;unfold jB at L;split at L
 .rename_i hc;obtain⟨hs0,hb0,hb1,hz⟩:=hc;obtain⟨z,hz1,hz2⟩:=EM.1 hz;obtain⟨zv,_,hz3,_,i,hi,hiz⟩:=wO (w:=w) hde hz1;obtain⟨i',_,hi',_,_,F,hby,_,_⟩:=wU hde;rw[hi] at hi';injection hi' with hi';subst hi'
  have hzs:zv.cells.size=i.size:=by rw[<-F,<-hz2,hz3];simp
  unfold xf at L;split at L
  .cases L
  .rename_i new rd hel;obtain⟨hn,news,hfl,J⟩:=jt hO hel hx hs0;have K:news.length=new.length*i.size:=by rw[<-hfl.1,uo hn,F]
   have zlen:∀k,(Builtin.zeroCells zv.cells k).toList.length=k*i.size:=λk=>by rw[Gq,size_zeroCells,hzs]
   split at L
   .
    rw[hs.nils_inv];split at L
    .rename_i H;injection L with L;subst L
     have hv:v=.slice none 0 0\/∃a c,v=.slice (some a) 0 c:=by grind
     exact xX hO ⟨_,vl t ty e i ht hi none 0 0 (EI _) v hv,.fz_mk .N⟩
    .rename_i H;split at L
     .rename_i hroom;injection L with L;subst L
      have T:0<new.length:=by cases new<;>simp_all
      obtain⟨a,c,rfl,E⟩:=J.resolve_left λh=>H h.2;have hroom:new.length*i.bytes<=140737488355328:=by rw[<-hby];exact hroom
      have hle:new.length<=new.length*i.bytes:=Ga _ (by rw[<-hby];exact hb0);have hr:=run_append_nil (P:=P) w t ty e i zv ht hi hiz a new.length c news K E T za za;have hge:=grownCap_ge w new.length 0 e;refine uF hO hY Z I.size new (news++(Builtin.zeroCells zv.cells<|grownCap w new.length 0 e-new.length).toList) e 1 (.slice (some ⟨w.heap.size,0,none⟩) new.length<|grownCap w new.length 0 e) _ (hr.trans ?_) ?_ hn ?_ ?_
      .congr 1;simp only[World.alloc,World.drew];congr 3;apply GQ;simp
      .rw[EJ,K,F];omega
      .rw[F];intro i' j U c' he' N;rw[F] at hn;obtain⟨u',D,S⟩:=xz hn hfl i' j U c' he' N;exact⟨u',by rw[SR,EL (EW.1 D).1];exact D,S⟩
      .intro w' β' hb hsh;refine .a _ _<|.osl fr I.size 0 new.length w.heap.size 0 _ _ e hb hsh hge ?_<|.inl zb;rw[EJ,K,zlen,<-SO,F];exact Ss _ za
     .cases L
   .
    have hs':=hs.fz_inv;have hu:(u=.slice none 0 0)\/∃a0,u=.slice (some a0) 0 0:=by
     cases hs' with
     |z0 _ a0=>exact .inr ⟨a0,rfl⟩
     |z0n=>exact .inl rfl
    split at L
    .rename_i H;injection L with L;subst L
     have hv:v=.slice none 0 0\/∃a c,v=.slice (some a) 0 c:=by
      rcases J with⟨h1,_⟩|⟨a,c,h1,_⟩
      .exact .inl h1
      .subst H;exact .inr ⟨a,c,h1⟩
     rcases hu with rfl|⟨a0,rfl⟩
     .exact xX hO ⟨_,vl t ty e i ht hi none 0 0 (EI _) v hv,hs⟩
     .exact xX hO ⟨_,vl t ty e i ht hi (some a0) 0 0 (EI _) v hv,hs⟩
    .rename_i H;split at L
     .rename_i hroom;injection L with L;subst L
      have T:0<new.length:=by cases new<;>simp_all
      obtain⟨a,c,rfl,E⟩:=J.resolve_left λh=>H h.2;have hroom:new.length*i.bytes<=140737488355328:=by rw[<-hby];exact hroom
      have hle:new.length<=new.length*i.bytes:=Ga _ (by rw[<-hby];exact hb0);have hr:(Builtin.append_ #[t,t] ty #[u,.slice (some a) new.length c]).run P w=.ok (.slice (some ⟨w.heap.size,0,none⟩) new.length<|grownCap w new.length 0 e) (w.drew.alloc<|.cells (news.toArray++Builtin.zeroCells zv.cells (grownCap w new.length 0 e-new.length)) e):=by
       rcases hu with rfl|⟨a0,rfl⟩
       .exact run_append_nil (P:=P) w t ty e i zv ht hi hiz a new.length c news K E T za za
       .have:=run_append_grow (P:=P) w t ty e i zv ht hi hiz a0 0 0 [] zb (λj u h=>by simp at h) a new.length c news K E za za<|growslice_fits za<|zl hroom;simpa using this
      have hge:=grownCap_ge w new.length 0 e;refine uF hO hY Z I.size new (news++(Builtin.zeroCells zv.cells<|grownCap w new.length 0 e-new.length).toList) e 1 (.slice (some ⟨w.heap.size,0,none⟩) new.length<|grownCap w new.length 0 e) _ (hr.trans ?_) ?_ hn ?_ ?_
      .congr 1;simp only[World.alloc,World.drew];congr 3;apply GQ;simp
      .rw[EJ,K,F];omega
      .rw[F];intro i' j U c' he' N;rw[F] at hn;obtain⟨u',D,S⟩:=xz hn hfl i' j U c' he' N;exact⟨u',by rw[SR,EL (EW.1 D).1];exact D,S⟩
      .intro w' β' hb hsh;refine .a _ _<|.osl fr I.size 0 new.length w.heap.size 0 _ _ e hb hsh hge ?_<|.inl zb;rw[EJ,K,zlen,<-SO,F];exact Ss _ za
     .cases L
   .
    rename_i o n off len;split at L
    .rename_i m es ho;split at L
     .rename_i hc;obtain⟨rfl,rfl,rfl,hle,hroom,hnr⟩:=hc;injection L with L;subst L
      have hne:o≠fr:=λe=>by subst e;simp at hnr
      obtain⟨b,q,cap,sz,tt,hb,hsh,hlc,hcap,hq,rfl⟩|⟨h0,rfl⟩:=hs.osl_inv
      case inr=>
       subst h0;have G:∀X:AObj,over [(o,.gone),(fr,X)] h=upd (upd h o .gone) fr X:=by
        intro X;funext k;simp only[over,zZ,upd];by_cases V:o=k
        .subst V;simp[hne]
        .by_cases e2:fr=k
         .subst e2;simp[V]
         .simp[V,e2,show k≠fr from λh=>e2 h.symm,show k≠o from λh=>V h.symm]
       by_cases H:new=[]
       .have hv:v=.slice none 0 0\/∃a c,v=.slice (some a) 0 c:=by
         rcases J with⟨h1,_⟩|⟨a,c,h1,_⟩
         .exact .inl h1
         .subst H;exact .inr ⟨a,c,h1⟩
        subst H;refine⟨.value<|.slice none 0 0,.slice none 0 0,w,β,?_,.inl rfl,?_,?_⟩
        .simp only[Sv,vl t ty e i ht hi none 0 0 (EI _) v hv,Se,SC]
        .rw[G];simpa using iX hO o Z I.size
        .exact .a _ _<|.oslN _ _ _
       .have T:0<new.length:=by cases new<;>simp_all
        obtain⟨a,c,rfl,E⟩:=J.resolve_left λh=>H h.2;have hroom:(0+new.length)*i.bytes<=140737488355328:=by rw[<-hby];exact hroom
        rw[Sa] at hroom;have hle:new.length<=new.length*i.bytes:=Ga _ (by rw[<-hby];exact hb0);have hr:=run_append_nil (P:=P) w t ty e i zv ht hi hiz a new.length c news K E T za za;have hge:=grownCap_ge w new.length 0 e;rw[F] at hn
        have O:=qG hO hY Z i.size new (news++(Builtin.zeroCells zv.cells<|grownCap w new.length 0 e-new.length).toList) e 1
         (by rw[EJ,K];omega) hn (λi' j U c' he' N=>by obtain⟨u',D,S⟩:=xz hn hfl i' j U c' he' N;exact⟨u',by rw[SR,EL (EW.1 D).1];exact D,S⟩)
        have hm2:=qY O.objs o;have hm:=O.trans hm2 (λk hk=>by rw[hk];exact Z) hO (f:=λk=>k=fr) (λ_ h=>h) λ_ h=>h.elim;have heq:upd (upd h fr<|.arr i.size new) o .gone=upd (upd h o .gone) fr (.arr i.size new):=by
         funext k;simp only[upd];by_cases V:k=fr
         .subst V;simp[show¬k=o from λe=>hne e.symm]
         .by_cases e2:k=o
          .subst e2;simp[V]
          .simp[V,e2]
        rw[heq] at hm
        refine⟨.value<|.slice (some ⟨w.heap.size,0,none⟩) new.length<|grownCap w new.length 0 e,.slice (some ⟨w.heap.size,0,none⟩) new.length<|grownCap w new.length 0 e,
         {w with heap:=w.heap.push (.cells (news++(Builtin.zeroCells zv.cells<|grownCap w new.length 0 e-new.length).toList).toArray e (0,0)),drawn:=w.drawn+1},AM.upd β fr (some w.heap.size),?_,.inl rfl,?_,?_⟩
        .simp only[Sv,hr,Se,SC,World.alloc,World.drew];congr 4;apply GQ;simp
        .rw[G,List.take_zero,SD,F];exact hm
        .simp only[Sa];refine .a _ _<|.osl fr I.size 0 new.length w.heap.size 0 _ (news++(Builtin.zeroCells zv.cells<|grownCap w new.length 0 e-new.length).toList).length e (by simp[AM.upd]) ?_ hge ?_<|.inl zb
         .simp[World.shape?]
         .rw[EJ,K,zlen,<-SO,F];exact Ss _ za
      obtain⟨M,te,g1,g2,g3,g4⟩:=ue hO (by rw[ho];rfl) hb;have hlive:isLive (h o):=by rw[ho];trivial
      have hszu:sz=M.length:=by simp only[World.shape?,g1,EO,Sr] at hsh;have:=hsh.2;simp at this;exact this.symm
      have G:∀X:AObj,over [(o,.gone),(fr,X)] h=upd (upd h o .gone) fr X:=by
       intro X;funext k;simp only[over,zZ,upd];by_cases V:o=k
       .subst V;simp[hne]
       .by_cases e2:fr=k
        .subst e2;simp[V]
        .simp[V,e2,show k≠fr from λh=>e2 h.symm,show k≠o from λh=>V h.symm]
      have hnes:∀U∈es.take len++new,U.length=I.size:=by
       intro U he';rcases Sb.1 he' with h1|h1
       .exact g3 U<|SX h1
       .exact hn U h1
      have hlenes:(es.take len++new).length=len+new.length:=zj;have hroom:(len+new.length)*i.bytes<=140737488355328:=by rw[<-hby];exact hroom
      have hler:len+new.length<=(len+new.length)*i.bytes:=Ga _ (by rw[<-hby];exact hb0);have hlm:len*I.size<=es.length*I.size:=Ss _ hle;have holds:∀X:Nat->Prop,True:=λ_=>trivial;have hflold:LRep (WRep w (XO Y h β) β) (es.take len).flatten (M.take<|len*I.size):=by
       refine um (λU he'=>g3 U<|SX he') (by rw[S8,S8,G2 hle,G2 za]) λi' j U c' he' N=>?_;rw[Sy] at he';split at he'
       .rename_i hi';obtain⟨u',D,S⟩:=g4 i' j U c' he' N;have hj:j<I.size:=by rw[<-g3 U<|Sl he'];exact(EW.1 N).1
        have hlt:i'*I.size+j<len*I.size:=by have:(i'+1)*I.size<=len*I.size:=Ss _ hi';rw[SO] at this;omega
        exact⟨u',by rw[Sy,EL hlt];exact D,S⟩
       .cases he'
      have hflall:LRep (WRep w (XO Y h β) β) (es.take len++new).flatten (M.take (len*I.size)++news):=by rw[List.flatten_append];exact hflold.append hfl
      by_cases hfitc:len+new.length<=cap
      .
       by_cases T:new.length=0
       .have H:new=[]:=S1 T;have hv:v=.slice none 0 0\/∃a c,v=.slice (some a) 0 c:=by
         rcases J with⟨h1,_⟩|⟨a,c,h1,_⟩
         .exact .inl h1
         .rw[T] at h1;exact .inr ⟨a,c,h1⟩
        subst H
        have O:=Xw hO hlive hb M M te g1 rfl I.size (es.take len) (by rw[S8,G2 hle];omega) (λU he'=>g3 U<|SX he') (λi' j U c' he' N=>by
         rw[Sy] at he';split at he'
         .exact g4 i' j U c' he' N
         .cases he')
        have hself:w.setRow b M.toArray=w:=setRow_self w b M.toArray te (0,0) g1;rw[hself] at O;have hm2:=Zl O.objs (o:=o) (fr:=fr) (b:=b) (by simp[upd,isLive]) hb Z;have hm:=O.trans hm2 (λ_ h=>h.elim) hO (f:=λk=>k=fr) (λ_ h=>h.elim) λ_ h=>h;have heq:upd (upd (upd h o<|.arr I.size<|es.take len) o .gone) fr (upd h o (.arr I.size<|es.take len) o)=upd (upd h o .gone) fr (.arr I.size<|es.take len++[]):=by funext k;simp only[upd,S6];by_cases V:k=fr<;>by_cases e2:k=o<;>simp[V,e2]
        rw[heq] at hm;refine⟨.value<|.slice (some ⟨b,q,none⟩) len cap,.slice (some ⟨b,q,none⟩) len cap,w,upd β fr<|some b,?_,.inl rfl,?_,?_⟩
        .simp only[Sv,vl t ty e i ht hi (some ⟨b,q,none⟩) len cap hlc v hv,Se,SC]
        .rw[G];exact hm
        .rw[G];exact .a _ _<|.osl fr I.size 0 len b q cap sz tt (by simp[upd]) hsh hlc hcap hq
       .obtain⟨a,c,rfl,E⟩:=J.resolve_left (λh=>T<|by rw[h.2];rfl);have hq0:q=0:=by have:=hq.resolve_right za;exact zl this
        subst hq0;have hte:(⟨M.toArray,te⟩:Array Value×TypeId)=(M.toArray,te):=rfl;have hcap':cap*I.size<=M.length:=by rw[<-hszu];exact zl hcap
        have W:len*i.size+news.length<=M.toArray.size:=by rw[K,<-SO,<-F];exact SW (Ss _ hfitc) (zl hcap')
        have hrun:(Builtin.append_ #[t,t] ty #[.slice (some ⟨b,0,none⟩) len cap,.slice (some a) new.length c]).run P w=
          .ok (.slice (some ⟨b,0,none⟩) (len+new.length) cap) (w.setRow b (M.take (len*i.size)++news++M.drop (len*i.size+news.length)).toArray):=by
         have hf:=run_firstCells_some (P:=P) w i.size new.length a new.length c news K E;have hst:=run_storeCells_at P b (len*i.size) te news 0 M.toArray w g1 (zl W) hfl.cell;simp only[Gg] at hst;simp[Builtin.append_,EZ ht,sizeOf,typeInfo,hi,Builtin.lenOf,hfitc,hf,Addr.add_lit,hst]
        have hlen2:(M.take (len*i.size)++news++M.drop (len*i.size+news.length)).length=M.length:=by simp only[EJ,S8,List.length_drop];simp at W;omega
        have hpre:∀k,k<len*i.size+news.length->(M.take (len*i.size)++news++M.drop (len*i.size+news.length))[k]?=(M.take (len*i.size)++news)[k]? :=by intro k hk;rw[SR,EL<|by rw[EJ,S8,G2<|by simp at W;omega];exact hk]
        have O:=Xw hO hlive hb (M.take (len*i.size)++news++M.drop (len*i.size+news.length)) M te g1 hlen2 I.size (es.take len++new)
         (by rw[hlenes,hlen2,SO];rw[F];simp at W;rw[K] at W;exact W) hnes (λi' j U c' he' N=>by obtain⟨u',D,S⟩:=xz hnes hflall i' j U c' he' N;rw[F] at D ⊢;have hk:=(EW.1 D).1;refine⟨u',?_,S⟩;rw[hpre _<|by simp only[EJ,S8] at hk;omega];exact D)
        have hm2:=Zl O.objs (o:=o) (fr:=fr) (b:=b) (by simp[upd,isLive]) hb Z;have hm:=O.trans hm2 (λ_ h=>h.elim) hO (f:=λk=>k=fr) (λ_ h=>h.elim) λ_ h=>h;have heq:upd (upd (upd h o<|.arr I.size<|es.take len++new) o .gone) fr (upd h o (.arr I.size<|es.take len++new) o)=upd (upd h o .gone) fr (.arr I.size<|es.take len++new):=by funext k;simp only[upd];by_cases V:k=fr<;>by_cases e2:k=o<;>simp[V,e2]
        rw[heq] at hm;refine⟨.value<|.slice (some ⟨b,0,none⟩) (len+new.length) cap,.slice (some ⟨b,0,none⟩) (len+new.length) cap,w.setRow b (M.take (len*i.size)++news++M.drop (len*i.size+news.length)).toArray,upd β fr<|some b,?_,.inl rfl,?_,?_⟩
        .simp only[Sv,hrun,Se,SC]
        .rw[G];exact hm
        .rw[G];refine .a _ _<|.osl fr I.size 0 (len+new.length) b 0 cap sz tt (by simp[upd]) ?_ hfitc hcap<|.inl zb;rw[O.good.shp b<|hO.lt o b hb];exact hsh
      .
       have T:new.length≠0:=za;obtain⟨a,c,rfl,E⟩:=J.resolve_left (λh=>T<|by rw[h.2];rfl);have hcl:∀j u',(M.take<|len*I.size)[j]?=some u'->w.cell? ((⟨b,q,none⟩:Addr).add j)=some u':=by
        intro j u' D;rw[Sy] at D;split at D
        .rename_i hj
         have hl0:0<len:=by rcases Nat.eq_zero_or_pos len with h0|h0; · subst h0;simp at hj
                            .exact h0
         have hq0:q=0:=by have:=hq.resolve_right za;exact zl this
         subst hq0;rw[Addr.add_lit];simp only[World.cell?,g1,Gf,G7,S5,Sj,Sa];exact D
        .cases D
       have hr:=run_append_grow (P:=P) w t ty e i zv ht hi hiz ⟨b,q,none⟩ len cap (M.take<|len*I.size) (by rw[<-F];simp;omega) hcl a new.length c news K E za za<|growslice_fits za hroom;have hge:=grownCap_ge w (len+new.length) cap e
       have O:=qG hO hY Z I.size (es.take len++new) (M.take (len*I.size)++news++(Builtin.zeroCells zv.cells<|grownCap w (len+new.length) cap e-(len+new.length)).toList) e 1
        (by rw[hlenes,EJ,EJ,K,SO,F];simp;rw[<-F];omega) hnes (λi' j U c' he' N=>by obtain⟨u',D,S⟩:=xz hnes hflall i' j U c' he' N;exact⟨u',by rw[SR,EL (EW.1 D).1];exact D,S⟩)
       have hm2:=qY O.objs o;have hm:=O.trans hm2 (λk hk=>by rw[hk];exact Z) hO (f:=λk=>k=fr) (λ_ h=>h) λ_ h=>h.elim;have heq:upd (upd h fr<|.arr I.size<|es.take len++new) o .gone=upd (upd h o .gone) fr (.arr I.size<|es.take len++new):=by
        funext k;simp only[upd];by_cases V:k=fr
        .subst V;simp[show¬k=o from λe=>hne e.symm]
        .by_cases e2:k=o
         .subst e2;simp[V]
         .simp[V,e2]
       rw[heq] at hm
       refine⟨.value<|.slice (some ⟨w.heap.size,0,none⟩) (len+new.length)<|grownCap w (len+new.length) cap e,.slice (some ⟨w.heap.size,0,none⟩) (len+new.length)<|grownCap w (len+new.length) cap e,
        {w with heap:=w.heap.push (.cells (M.take (len*I.size)++news++(Builtin.zeroCells zv.cells<|grownCap w (len+new.length) cap e-(len+new.length)).toList).toArray e (0,0)),drawn:=w.drawn+1},upd β fr (some w.heap.size),?_,.inl rfl,?_,?_⟩
       .simp only[Sv,hr,Se,SC,World.alloc,World.drew];congr 4;apply GQ;simp
       .rw[G];exact hm
       .rw[G];refine .a _ _<|.osl fr I.size 0 (len+new.length) w.heap.size 0 _ (M.take (len*I.size)++news++(Builtin.zeroCells zv.cells<|grownCap w (len+new.length) cap e-(len+new.length)).toList).length e (by simp[upd]) ?_ hge ?_<|.inl zb
        .simp[World.shape?]
        .simp only[EJ,S8,K,zlen];rw[G2 za,F,<-SO,<-SO];exact Ss _ za
     .cases L
    .cases L
   .cases L
 .cases L
end
section
variable {P:Program} {w:World} {X:Nat->Prop} {β:Nat->Option Nat}
def J7 {f u}(h:FRep w X f u):WRep w X β (cell f) u:=.a _ _<|.fz _ _ h
def qC {d b}(h:LRep (FRep w X) d b):LRep (WRep w X β) (fzs d) b:=LRep.map h λ_ _ _ h=>J7 h
def AP {E:TypeId}{k:EK}{a b:List FV}{u v:Value}{r:Bool}(g:ekOf P E=some k)(S:PRep (FRep w X) (false,a) u)(L:PRep (FRep w X) (false,b) v)(T:zY [k] (fzs a) (fzs b)=some r):
  ∃d,P.underlying E=some d/\Instr.sameNow d u v=some r/\(match d with|.struct _|.array _ _|.interface _=>False|_=>True)/\(∀cs,u ≠ .agg cs):=by
 obtain⟨W,rfl,H,J⟩:=S;obtain⟨vs,rfl,F,U⟩:=L;obtain⟨x,y,C,A,p,q,N,K,j,D,i⟩:=uk T;have o:=qC (β:=λ_=>none) H;have z:=qC (β:=λ_=>none) F;rw[N] at o;rw[K] at z;obtain⟨Z,M,rfl,e,I⟩:=o.cons_inv;obtain⟨v0,O,rfl,f,V⟩:=z.cons_inv;have G:q=true:=by cases C<;>cases A<;>simp only[zY,EO,reduceCtorEq] at j;exact j.symm
 subst G;rw[Gi] at D;subst D;simp only[shut,S5,Sj,List.getD_cons_zero];unfold ekOf at g;rcases i with⟨rfl,Y,n,m,rfl,rfl,rfl⟩|⟨rfl,n,m,rfl,rfl,rfl⟩|⟨rfl,n,m,rfl,rfl,rfl⟩
 .split at g<;>simp only[EO,reduceCtorEq] at g;rename_i hd;rw[TRep.int_inv (β:=λ_=>none) (X:=X) (w:=w) e,TRep.int_inv (β:=λ_=>none) (X:=X) (w:=w) f];exact⟨_,hd,by simp[Instr.sameNow],trivial,zb⟩
 .split at g<;>simp only[EO,reduceCtorEq] at g;rename_i hd;rw[TRep.bool_inv (β:=λ_=>none) (X:=X) (w:=w) e,TRep.bool_inv (β:=λ_=>none) (X:=X) (w:=w) f];exact⟨_,hd,by simp[Instr.sameNow],trivial,zb⟩
 .split at g<;>simp only[EO,reduceCtorEq] at g;rename_i hd;rw[TRep.str_inv (β:=λ_=>none) (X:=X) (w:=w) e,TRep.str_inv (β:=λ_=>none) (X:=X) (w:=w) f];refine⟨_,hd,?_,trivial,zb⟩;have:((⟨n.toArray⟩:ByteArray)==⟨m.toArray⟩)=(n==m):=by
   rw[Gp];simp only[MapKept.bytes_beq,Sw];constructor
   .intro h;injection h with h;exact List.toArray_inj h
   .intro h;rw[h]
  simp[Instr.sameNow,this]
def agg_eq {f:TypeId}{i:Array Field}{l:List EK}{a b:List FV}{u v:Value}{r:Bool}(d:P.underlying f=some (.struct i))(e:jq P f=some l)(z:PRep (FRep w X) (true,a) u)(y:PRep (FRep w X) (true,b) v)(A:zY l (fzs a) (fzs b)=some r):(Op.equal f u v).run P w=.ok r w:=by
 obtain⟨h,rfl,o,x⟩:=z;obtain⟨vs,rfl,m,C⟩:=y;unfold jq at e;rw[d] at e;simp only at e;split at e
 .rename_i p;have j:P.fieldsOf f=i:=by simp[Program.fieldsOf,d]
  have g:=uG (β:=λ_=>none) i.toList 0 l _ _ h vs h.toArray vs.toArray r e A (qC o) (qC m) zb zb;have:=run_equalIn_agg (P:=P) w 9999 f h.toArray vs.toArray (by rw[j];exact d) p.1;rw[j] at this;exact this.trans g
 .cases e
def ZR (ms:List MapEntry)(r:Option Nat):=r.bind λi=>(ms[i]?).map λe=>(i,e.val)
def Xm {d k C}(D:ekOf P C=some k)(hd:P.underlying C=some d){key u}(A:PRep (FRep w X) (false,key) u):∀(es) (ms g) (i) (m),
  g.drop i=ms->es.length=ms.length->(∀(j:Nat) e x,es[j]?=some e->ms[j]?=some x->PRep (FRep w X) e.1 x.key)->xW (false,[k]) key es i=some m->Instr.findNow d u ms i=some (ZR g m)/\∀j,m=some j->i<=j/\j<i+es.length
 |[],ms,g,i,m,o,f,p,h=>by have:ms=[]:=S1 (zl f.symm);subst this;simp[xW,EO] at h;subst h;exact⟨rfl,λj v=>by cases v⟩
 |e::es,ms,g,i,m,o,f,p,h=>by
  match ms,f with
  |x::ms,f=>
  simp only[xW] at h;split at h
  .rename_i y;let ⟨b,J,h⟩:=G3.1 h;have E:=p 0 e x rfl rfl;rw[(zd:e.1=(false,e.1.2))] at E;let ⟨N,r,M,_⟩:=AP D A E J;rw[hd] at r;injection r with r;subst r
   simp only[Instr.findNow,M];cases b with
   |true=>
    simp[S9,EO] at h;subst h;have H:g[i]?=some x:=by
     have:(g.drop i)[0]?=some x:=by rw[o];rfl
     grind
    exact⟨by simp[ZR,H],λj v=>by injection v with v;subst v;simp⟩
   |false=>simp[S5,Sj] at h;let ⟨K,L⟩:=Xm D hd A es ms g _ m (by rw[<-List.drop_drop,o];rfl) zd (λj G I F z=>p (j+1) G I F z) h;grind
  .cases h
def jh {l I v}(hd:P.underlying v=some (.struct I))(A:jq P v=some l){key u}(z:PRep (FRep w X) (true,key) u):∀(es) (ms f) (i) (g),
  f.drop i=ms->es.length=ms.length->(∀(j:Nat) e x,es[j]?=some e->ms[j]?=some x->PRep (FRep w X) e.1 x.key)->xW (true,l) key es i=some g->(Instr.findAsking v u ms i).run P w=.ok (ZR f g) w/\∀j,g=some j->i<=j/\j<i+es.length
 |[],ms,f,i,g,m,d,o,h=>by have:ms=[]:=S1 (zl d.symm);subst this;simp[xW,EO] at h;subst h;exact⟨rfl,λj p=>by cases p⟩
 |e::es,ms,f,i,g,m,d,o,h=>by
  match ms,d with
  |x::ms,d=>
  simp only[xW] at h;split at h
  .rename_i r;let ⟨b,H,h⟩:=G3.1 h;have C:=o 0 e x rfl rfl;rw[(zd:e.1=(true,e.1.2))] at C;simp only[Instr.findAsking,Sv,(agg_eq hd A z C H),Se];cases b with
   |true=>
    simp[S9,EO] at h;subst h;have F:f[i]?=some x:=by
     have:(f.drop i)[0]?=some x:=by rw[m];rfl
     grind
    exact⟨by simp[ZR,F],λj p=>by injection p with p;subst p;simp⟩
   |false=>simp[S5,Sj] at h;let ⟨J,K⟩:=jh hd A z es ms f _ g (by rw[<-List.drop_drop,m];rfl) zd (λj E G D y=>o (j+1) E G D y) h;grind
  .cases h
end
section
variable {P:Program} {h:Nat->AObj} {β:Nat->Option Nat} {Y:Nat->Prop} {w:World}
def KJ (u:Objs h β Y w)(U:∀b,Y b->b<w.heap.size){fr:Nat}(M:β fr=none):
  Moves h (upd h fr<|.mapo []) β (upd β fr<|some w.heap.size) Y w {w with heap:=w.heap.push (.map #[] 0)} (λo=>o=fr):=by
 have z:∀o b,β o=some b->upd β fr (some w.heap.size) o=some b:=by intro o b g;unfold upd;grind
 have f:∀o b,upd β fr (some w.heap.size) o=some b->(β o=some b/\o≠fr)\/(o=fr/\b=w.heap.size):=by intro o b g;unfold upd at g;grind
 have d:∀o,isLive (upd h fr (.mapo []) o)->isLive (h o)\/o=fr:=by intro o r;unfold upd at r;grind
 have L:Goes w {w with heap:=w.heap.push (.map #[] 0)} (XO Y h β) (XO Y (upd h fr<|.mapo [])<|upd β fr<|some w.heap.size) β (upd β fr<|some w.heap.size):=by
  refine⟨zb,λb N g=>⟨zd,λE=>?_⟩,λb g=>by simp[World.shape?,Sm,(za:b≠w.heap.size)],λo b g=>⟨z o b g,u.lt o b g⟩⟩;rcases E with H|⟨o,r,p⟩
  .grind
  .rcases f o b p with⟨p,j⟩|⟨_,e⟩
   .exact N<|.inr ⟨o,(d o r).resolve_right j,p⟩
   .omega
 refine⟨⟨zb,λb g _=>zd,λb g=>by simp[World.shape?,Sm,(za:b≠w.heap.size)],rfl,rfl,rfl⟩,?_,z,?_,d⟩
 .refine⟨λo b r g=>?_,λo r=>?_,λo o' b r D g C=>?_,λo b g=>?_⟩
  .rcases f o b g with⟨p,j⟩|⟨e,G⟩
   .have y:=(d o r).resolve_right j;rw[show upd h fr (.mapo []) o=h o by simp[upd,j]];exact(u.rep o b y p).goes L (by simp[Sm,show b≠w.heap.size by have:=u.lt o b p;omega])
   .subst e;subst G;rw[show upd h o (.mapo []) o=.mapo [] by simp[upd]];exact⟨[],0,zb,rfl,λi e m T _=>zd,rfl,λi m S=>zd⟩
  .rcases d o r with y|e
   .by_cases e:o=fr
    .subst e;exact .inl ⟨w.heap.size,by simp[upd],zb,λH=>zd⟩
    .rcases u.has o y with⟨b,g,O,J⟩|⟨g,K⟩
     .grind
     .exact .inr (by simp only[upd,e,Sj];exact⟨g,K⟩)
   .subst e;exact .inl ⟨w.heap.size,by simp[upd],zb,λH=>zd⟩
  .rcases f o b g with⟨p,j⟩|⟨e,G⟩
   .rcases f o' b C with⟨x,v⟩|⟨I,F⟩
    .exact u.inj o o' b ((d o r).resolve_right j) ((d o' D).resolve_right v) p x
    .have:=u.lt o b p;omega
   .rcases f o' b C with⟨x,v⟩|⟨I,F⟩
    .have:=u.lt o' b x;omega
    .rw[e,I]
  .rcases f o b g with⟨p,_⟩|⟨_,G⟩
   .have:=u.lt o b p;simp;omega
   .grind
 .grind
def wx (F:Objs h β Y w) {o b:Nat} (Z:isLive<|h o) (I:β o=some b) {old:Array MapEntry} {oc:Nat} (y:w.heap[b]?=some (.map old oc)) (ms:List MapEntry) (es:List MapE) (H:ms.length=es.length)
  (G:∀(i:Nat) (e:MapE) (m:MapEntry),es[i]?=some e->ms[i]?=some m->PRep (FRep w<|XO Y h β) e.1 m.key/\PRep (WRep w (XO Y h β) β) e.2 m.val)
  (z:∀(i:Nat) (m:MapEntry),ms[i]?=some m->m.born=i):
  Moves h (upd h o<|.mapo es) β β Y w {w with heap:=w.heap.setIfInBounds b (.map ms.toArray ms.length)} (λ_=>False):=by
 have p:=MapKept.heap_set (o':=.map ms.toArray ms.length) y;have g:∀k,k≠b->(w.heap.setIfInBounds b<|.map ms.toArray ms.length)[k]?=w.heap[k]? :=λk E=>p.2 k E;have x:Own h β b:=⟨o,Z,I⟩;have d:∀o',isLive (upd h o (.mapo es) o')->isLive (h o'):=by intro o' f;unfold upd at f;grind
 have D:(w.heap.setIfInBounds b<|.map ms.toArray ms.length).size=w.heap.size:=zb;have j:∀k,World.shape? {w with heap:=w.heap.setIfInBounds b (.map ms.toArray ms.length)} k=w.shape? k:=by
  intro k;by_cases E:k=b
  .subst E;simp[World.shape?,p.1,y]
  .simp[World.shape?,g k E]
 have N:Goes w {w with heap:=w.heap.setIfInBounds b (.map ms.toArray ms.length)} (XO Y h β) (XO Y (upd h o<|.mapo es) β) β β:=by
  refine⟨zb,λk X E=>⟨g k λe=>X<|.inr<|e▸x,λU=>?_⟩,λk _=>j k,λo b I=>⟨I,F.lt o b I⟩⟩;rcases U with hy|⟨o',f,K⟩
  .grind
  .exact X<|.inr ⟨o',d o' f,K⟩
 refine⟨⟨zb,λk E J=>g k λe=>J<|e▸x,λk _=>j k,rfl,rfl,rfl⟩,?_,λ_ _ h=>h,λ_ _ h=>.inl h,λo' f=>.inl<|d o' f⟩;refine⟨λo' r f v=>?_,λo' f=>?_,λo1 o2 r O S T M=>F.inj o1 o2 r (d o1 O) (d o2 S) T M,λo' r v=>by rw[D];exact F.lt o' r v⟩
 .by_cases C:o'=o
  .subst C;have:r=b:=zd;subst this;rw[show upd h o' (.mapo es) o'=.mapo es by simp[upd]];refine⟨ms,ms.length,p.1,H,λi e m C hm=>?_,rfl,z⟩;obtain⟨k1,k2⟩:=G i e m C hm;exact⟨k1.imp λ_ _ _ h=>h.goes N,k2.imp λ_ _ _ h=>h.goes N⟩
  .rw[show upd h o (.mapo es) o'=h o' by simp[upd,C]];have u:=d o' f;have L:r≠b:=λe=>C<|F.inj o' o r u Z v<|e▸I;exact(F.rep o' r u v).goes N<|g r L
 .have u:=d o' f;rcases F.has o' u with⟨r,W,V,h3⟩|⟨W,V⟩
  .grind
  .by_cases C:o'=o
   .grind
   .exact .inr (by simp only[upd,C,Sj];exact⟨W,V⟩)
def kg:∀ {cs} {b},unfz cs=some b->cs=fzs b
 |[],b,h=>by simp[unfz,EO] at h;subst h;rfl
 |.a (.fz x)::r,b,h=>by simp only[unfz] at h;obtain⟨l,d,rfl⟩:=EM.1 h;rw[kg d];rfl
 |.a (.ep _ _ _ _)::r,b,h=>by simp[unfz] at h
 |.a (.osl _ _ _ _)::r,b,h=>by simp[unfz] at h
 |.a (.mp _)::r,b,h=>by simp[unfz] at h
 |.a .any::r,b,h=>by simp[unfz] at h
 |.fn _ _ _::r,b,h=>by simp[unfz] at h
def Ko {e x k X u}(d:keyT e x=some k)(b:TRep w X β x u):PRep (FRep w X) (e,k) u:=by
 unfold keyT at d;split at d
 .rename_i f;cases e<;>simp[S5,S9,Sj,EO,reduceCtorEq] at d;subst d;cases b with
  |a _ _ b=>cases b with
   |fz _ _ b=>exact⟨[u],rfl,⟨rfl,λj c v g i=>by
     cases j with
     |zero=>simp at g i;subst g;subst i;exact b
     |succ j=>simp at g⟩,λ_=>rfl⟩
 .rename_i cs;cases e<;>simp[S5,S9,Sj,reduceCtorEq] at d;rw[kg d] at b;obtain⟨m,rfl,b⟩:=b;refine⟨m,rfl,b.unmap λc u _ h=>?_,λh=>by cases h⟩;cases h with
  |a _ _ h=>cases h with
   |fz _ _ h=>exact h
 .cases d
def mr {p x X u}(b:rowTV p=some x)(h:PRep (WRep w X β) p u):TRep w X β x u:=by
 let ⟨i,cs⟩:=p;obtain⟨g,rfl,f,d⟩:=h;cases i with
 |true=>simp[rowTV,EO] at b;subst b;exact⟨g,rfl,f⟩
 |false=>
  match cs,(d rfl) with
  |[c],_=>
   simp[rowTV,EO] at b;subst b
   match g,f.1 with
   |[v],_=>exact f.2 0 c v rfl rfl
def fX {x p X u}(b:gI x=some p)(e:TRep w X β x u):PRep (WRep w X β) p u:=by
 unfold gI at b;split at b
 .rename_i c;injection b with b;subst b
  exact⟨[u],rfl,⟨rfl,λj m v d f=>by
   cases j with
   |zero=>simp at d f;subst d;subst f;exact e
   |succ j=>simp at d⟩,λ_=>rfl⟩
 .injection b with b;subst b
  obtain⟨g,rfl,i⟩:=e;exact⟨g,rfl,i,λh=>by cases h⟩
 .cases b
def po:∀ {ks:List EK} {a b:List FV} {o vs:List Value} {X:Nat->Prop},zY ks (fzs a) (fzs b)=some true->LRep (FRep w X) a o->LRep (FRep w X) b vs->o=vs/\∀v∈o,∀n,Instr.sameBits n v v=true
 |[],a,b,o,vs,X,h,C,D=>by
  match a,b,h with
  |[],[],_=>
   have A:o=[]:=S1 C.1.symm;have z:vs=[]:=S1 D.1.symm;grind
  |[],_::_,h=>simp only[fzs,List.map_nil,SA,zY,reduceCtorEq] at h
  |_::_,[],h=>simp only[fzs,List.map_nil,SA,zY,reduceCtorEq] at h
  |_::_,_::_,h=>simp only[fzs,SA,zY,reduceCtorEq] at h
 |k::ks,a,b,o,vs,X,h,C,D=>by
  obtain⟨x,y,T,L,p,q,A,z,e,U,j⟩:=uk h;have J:p=true/\q=true:=zd
  match a,b,A,z with
  |[],_,A,_=>simp[fzs] at A
  |_::_,[],_,z=>simp[fzs] at z
  |f::a,g::b,i,d=>
  simp only[fzs,SA,List.cons.injEq] at i d;obtain⟨i,O⟩:=i;obtain⟨d,M⟩:=d;rw[<-O,<-M] at e;obtain⟨u,N,rfl,I,G⟩:=C.cons_inv;obtain⟨v,S,rfl,K,H⟩:=D.cons_inv;rw[J.2] at e;obtain⟨i1,i2⟩:=po (ks:=ks) e G H;have key:u=v/\∀n,Instr.sameBits n u u=true:=by
   rcases j with⟨_,V,n,m,F,E,r⟩|⟨_,n,m,F,E,r⟩|⟨_,n,m,F,E,r⟩
   all_goals
    rw[F] at i;rw[E] at d;have i:=AV.fz.inj<|WV.a.inj (show WV.a (.fz f)=_ from i);have d:=AV.fz.inj<|WV.a.inj (show WV.a (.fz g)=_ from d);rw[i] at I;rw[d] at K;rw[J.1] at r;have r:n=m:=zd;subst r;cases I;cases K;exact⟨rfl,λn=>by cases n<;>simp[Instr.sameBits,MapKept.bytes_beq]⟩
  grind
def fb {m:Bool×List EK}{a b:List FV}{u v:Value}{X:Nat->Prop}(h:zY m.2 (fzs a) (fzs b)=some true)(o:PRep (FRep w X) (m.1,a) u)(e:PRep (FRep w X) (m.1,b) v):u=v/\(Instr.keyThatStays v u).run P w=.ok u w:=by
 obtain⟨d,rfl,j,f⟩:=o;obtain⟨vs,rfl,r,D⟩:=e;obtain⟨rfl,A⟩:=po h j r;refine⟨rfl,?_⟩;obtain⟨g,ks⟩:=m;have e:Instr.sameBits 10000 (shut g d) (shut g d)=true:=by
  cases g with
  |true=>
   show(d.toArray.size==d.toArray.size&&(d.toArray.toList.zip d.toArray.toList).all λ(x,y)=>Instr.sameBits 9999 x y)=true;simp only[beq_self_eq_true,SL,Sc];intro p z;have:p.1=p.2/\p.1∈d:=by obtain⟨i,C⟩:=G4 z;grind
   grind
  |false=>
   have f:a.length=1:=f rfl;have:d.length=1:=j.1▸f
   match d,this with
   |[u],_=>exact A u (Si.2 rfl) _
 simp only[Instr.keyThatStays,e,S9,SC]
def gR {d:TypeId}{k:EK}{f:FV}{u:Value}{X:Nat->Prop}(b:ekOf P d=some k)(e:FRep w X f u)(h:qK [k] [f]=true)(g:Bool)(n:Nat):(Instr.checkKey g (n+1) d u).run P w=.ok () w:=by unfold ekOf at b;split at b<;>simp only[EO,reduceCtorEq] at b<;>subst b<;>rename_i hd<;>cases f<;>simp only[qK,S5] at h<;>cases e<;>simp[Instr.checkKey,EZ hd]
def Xh {d:TypeId}{m:Bool×List EK}{k:List FV}{u:Value}{X:Nat->Prop}(y:kS P d=some m)(h:qK m.2 k=true)(O:PRep (FRep w X) (m.1,k) u)(r:Bool):(Instr.checkKey r 10000 d u).run P w=.ok () w:=by
 have o:∀ {e:EK} {v:Value} {f:FV},ekOf P d=some e->qK [e] [f]=true->FRep w X f v->(Instr.checkKey r 10000 d v).run P w=.ok () w:=λG F K=>gR G K F r 9999;have E:(ekOf P d).map (λk=>(false,[k]))=some m->(Instr.checkKey r 10000 d u).run P w=.ok () w:=by
  intro y;obtain⟨e,G,rfl⟩:=EM.1 y;obtain⟨p,rfl,D,H⟩:=O;have H:k.length=1:=H rfl
  match k,H with
  |[f],_=>
  have J:=D.1
  match p,J with
  |[v],_=>exact o G h<|D.2 0 f v rfl rfl
 unfold kS at y;split at y
 .rename_i T z;obtain⟨ks,b,rfl⟩:=EM.1 y;obtain⟨p,rfl,D,_⟩:=O;unfold jq at b;rw[z] at b;simp only at b;split at b
  .show(Instr.checkKey r 10000 d<|.agg p.toArray).run P w=.ok () w;rw[show(10000:Nat)=9999+1 from rfl,Instr.checkKey];simp only[Sv,EZ z,Se]
   have key:∀(L:List Field) (i:Nat) (ks:List EK) (l:List FV) (vs:List Value),dH P i L=some ks->qK ks l=true->LRep (FRep w X) l vs->(∀j,vs[j]?=p.toArray[i+j]?)->
     (forIn L PUnit.unit λ(f:Field) _=>do
      if f.name ≠ "_" then Instr.checkKey r 9999 f.type (<-part f.type p.toArray f.offset)
      pure (ForInStep.yield PUnit.unit)).run P w=.ok PUnit.unit w:=by
    intro L
    induction L with
    |nil=>intro i ks l vs _ _ _ _;simp
    |cons f L ih=>
     intro i ks l vs x h J C;simp only[dH] at x;split at x
     .rename_i k A F b;split at x<;>simp only[EO,reduceCtorEq] at x;rename_i S;subst x
      match l,h with
      |[],h=>cases k<;>simp[qK] at h
      |g::l,h=>
      obtain⟨v,I,rfl,K,M⟩:=J.cons_inv;have N:qK [k] [g]=true/\qK A l=true:=by cases k<;>cases g<;>simp_all[qK]
      have U:=kG (w:=w) F p.toArray f.offset v (by have:=C 0;simp at this;rw[S.1];exact zl this.symm);have V:=gR (w:=w) F K N.1 r 9998;have ih:=ih (i+1) A l I b N.2 M (λj=>by have:=C (j+1);simpa[GF,GS 1 j] using this);simp_all
     .cases x
   have:=key T.toList 0 ks k p b h D (λj=>zb);simp_all
  .cases b
 .grind
def Jl {p m k u X es ms b} (i:kS P p=some m) (D:PRep (FRep w X) (m.1,k) u) (h:es.length=ms.length)
  (g:∀(j:Nat) e x,es[j]?=some e->ms[j]?=some x->PRep (FRep w X) e.1 x.key) (C:xW m k es 0=some b):(Instr.findKey p u ms).run P w=.ok (ZR ms b) w/\∀j,b=some j->j<es.length:=by
 have f:(ekOf P p).map (λk=>(false,[k]))=some m->(Instr.findKey p u ms).run P w=.ok (ZR ms b) w/\∀j,b=some j->j<es.length:=by intro i;obtain⟨e,A,rfl⟩:=EM.1 i;let ⟨d,hd,_⟩:=lu A;let ⟨y,z⟩:=Xm A hd D es ms ms 0 b rfl h g C;exact⟨MapKept.run_findKey hd y,λj v=>zd⟩
 unfold kS at i;split at i
 .rename_i E o;obtain⟨ks,r,rfl⟩:=EM.1 i;rw[run_findKey_eq w (by rw[o]) u ms];let ⟨y,z⟩:=jh o r D es ms ms 0 b rfl h g C;grind
 .exact f i
def qT {m k}:∀ {es} {i j},xW m k es i=some (some j)->i<=j/\∃e,es[j-i]?=some e/\e.1.1=m.1/\zY m.2 (fzs k) (fzs e.1.2)=some true
 |[],i,j,h=>by simp[xW] at h
 |e::es,i,j,h=>by
  simp only[xW] at h;split at h
  .rename_i d;let ⟨b,o,h⟩:=G3.1 h;cases b with
   |true=>grind
   |false=>simp[S5,Sj] at h;let ⟨r,p,g,f⟩:=qT h;grind
  .cases h
def Z2 {t m}(h:Jx P t=some m):∃k e,P.underlying t=some (.map k e)/\kS P k=some m.1/\WY P e=some m.2:=by
 unfold Jx at h;split at h
 .rename_i d hd;split at h
  .rename_i k e g;split at h
   .rename_i ks z f j;injection h with h;subst h
    let ⟨i,u,_,o,_,_,_,_,b⟩:=wU hd;refine⟨k,e,?_,f,j⟩;rw[g] at b;cases u<;>simp[xM,reduceCtorEq,TKind.map.injEq] at b;all_goals first|(rw[b.1,b.2];exact o)|(split at b<;>cases b)
   .cases h
  .cases h
 .cases h
def Yr {e z}(b:WY P e=some z)(X):∃v,(zeroValue e).run P w=.ok v w/\PRep (WRep w X β) z v:=by
 unfold WY at b;split at b
 .rename_i i m;split at b
  .rename_i cs f;split at b<;>simp[EO,reduceCtorEq] at b;rename_i d;subst b;refine⟨.agg cs,by simp[zeroValue,typeInfo,m,f],cs.toList,by simp[shut],?_,λh=>by cases h⟩;refine kC X cs.toList λu j=>?_;simp only[SF] at d;grind
  .rename_i v o f;split at b<;>simp[EO,reduceCtorEq] at b;rename_i g;subst b;exact⟨v,by simp[zeroValue,typeInfo,m,f],[v],rfl,kC X [v] λu j=>(Si.1 j)▸g,λ_=>rfl⟩
  .cases b
 .cases b
def Xs {m x k}(h:keyA m x=some k):keyT m.1.1 x=some k/\qK m.1.2 k=true:=by unfold keyA at h;grind
def kW (C:Objs h β Y w){x:TV}{u:Value}{o:Nat}{es:List MapE}(d:j7 h x=some (o,es))(f:TRep w (XO Y h β) β x u):∃(b:Nat) (ms:List MapEntry),u=.map (some b)/\β o=some b/\isLive (h o)/\w.heap[b]?=some (.map (List.toArray ms) ms.length)/\ms.length=es.length/\
  (∀(i:Nat) (e:MapE) (m:MapEntry),es[i]?=some e->ms[i]?=some m->PRep (FRep w<|XO Y h β) e.1 m.key/\PRep (WRep w (XO Y h β) β) e.2 m.val)/\(∀(i:Nat) (m:MapEntry),ms[i]?=some m->m.born=i):=by
 unfold j7 at d;split at d
 .rename_i o';split at d<;>simp only[EO,reduceCtorEq,Sr] at d;rename_i v r;obtain⟨rfl,rfl⟩:=d;have f:WRep w (XO Y h β) β (.a<|.mp o') u:=f;cases f with
  |a _ _ f=>cases f with
   |mp _ b p=>
    have j:isLive (h o'):=by rw[r];trivial
    have g:=C.rep o' b j p;unfold ORep at g;rw[r] at g;obtain⟨ms,F,A,E,y,z,D⟩:=g;exact⟨b,ms,rfl,p,j,by rw[<-z];exact A,E,y,D⟩
 .cases d
def nw (I:Objs h β Y w){x:TV}{u:Value}{g:List Nat×List MapE}(d:mapL h x=some g)(f:TRep w (XO Y h β) β x u):∃(b:Nat) (ms:List MapEntry),u=.map (some b)/\w.heap[b]?=some (.map (List.toArray ms) ms.length)/\ms.length=g.2.length/\
  ∀(i:Nat) (e:MapE) (m:MapEntry),g.2[i]?=some e->ms[i]?=some m->PRep (FRep w<|XO Y h β) e.1 m.key/\PRep (WRep w (XO Y h β) β) e.2 m.val:=by
 unfold mapL at d;split at d
 .rename_i W;injection d with d;subst d
  cases (TRep.fz_inv f) with
  |mp _ b ms X U D V H A E y O N=>refine⟨b,ms,rfl,H,zl A,λi e m C d=>?_⟩;rw[EX] at C;obtain⟨z,o,rfl⟩:=EM.1 C;obtain⟨⟨M,F,S⟩,K,T,G⟩:=y i z m o d;exact⟨⟨_,M,⟨F,λj c u r v=>O i j z c u o r v⟩,S⟩,⟨_,K,qC ⟨T,λj c u r v=>N i j z c u o r v⟩,λJ=>by rw[show(thaw z).2.2=fzs z.2.2 from rfl,fzs,Sn];exact G J⟩⟩
 .obtain⟨p,L,rfl⟩:=EM.1 d;obtain⟨b,ms,D,_,_,A,E,y,_⟩:=kW I L f;grind
def fV {f p b x X v}(h:fk f p b=some x)(g:PRep (WRep w X β) p v):TRep w X β x (if f then .tuple #[v,.bool b] else v):=by
 unfold fk at h;cases f with
 |true=>
  simp[S9,EO] at h;subst h;refine⟨[v,.bool b],rfl,rfl,λj c u d e=>?_⟩
  match j,d,e with
  |0,d,e=>simp at d e;subst d;subst e;exact g
  |1,d,e=>simp at d e;subst d;subst e;exact⟨[.bool b],rfl,⟨rfl,λj c u d e=>by
    cases j with
    |zero=>simp at d e;subst d;subst e;exact J7 (.bool b)
    |succ j=>simp at d⟩,λ_=>rfl⟩
  |j+2,d,_=>simp at d
 |false=>simp[S5,Sj] at h ⊢;exact mr h g
def cy (M:Objs h β Y w){fr:Nat}{t:TypeId}{m:(Bool×List EK)×(Bool×List WV)}{x key:TV}{u v:Value}{ok:Bool}{r:AR}(T:Jx P t=some m)(hx:TRep w (XO Y h β) β x u)(X:TRep w (XO Y h β) β key v)(f:vz m h x key ok=some r):
  Does P h β Y w fr r (do pure (.value (<-Instr.lookup t u v ok))):=by
 unfold vz at f;split at f
 .rename_i k G;obtain⟨F,E⟩:=Xs G;have g:=Ko F X;split at f
  .rename_i S J;obtain⟨o,es⟩:=S;obtain⟨b,ms,rfl,K,(z:ms.length=es.length),hrep⟩:=nw M J hx;obtain⟨kt,e,N,p,V⟩:=Z2 T;split at f
   .rename_i q W;obtain⟨x',d,rfl⟩:=EM.1 f;obtain⟨D,hj⟩:=Jl (w:=w) p g z.symm (λj e x h1 Z=>(hrep j e x h1 Z).1) W;have y:=Xh (w:=w) p E g ms.isEmpty;obtain⟨L,H,I⟩:=Yr (w:=w) (β:=β) V<|XO Y h β;refine xX M ?_;cases q with
    |none=>refine⟨if ok then .tuple #[L,.bool false] else L,?_,fV d I⟩;simp only[ZR,Option.bind_none] at D;simp[Instr.lookup,EZ N,G6 K,y,D,H]
    |some i=>
     simp only[sM] at d;split at d
     .rename_i U C;have O:i<ms.length:=zd;have A:=EU O;refine⟨if ok then .tuple #[ms[i].val,.bool true] else ms[i].val,?_,fV d (hrep i U ms[i] C A).2⟩;simp only[ZR,Gv,A,S2] at D;simp[Instr.lookup,EZ N,G6 K,y,D]
     .cases d
   .cases f
  .cases f
 .cases f
def sQ {X:Nat->Prop} {es:List MapE} {ms:List MapEntry} (d:ms.length=es.length) (h:∀(i:Nat) (e:MapE) (m:MapEntry),es[i]?=some e->ms[i]?=some m->PRep (FRep w X) e.1 m.key/\PRep (WRep w X β) e.2 m.val) (f:∀(i:Nat) (m:MapEntry),ms[i]?=some m->m.born=i)
  {k:Bool×List FV} {r:Bool×List WV} {key val:Value} (o:PRep (FRep w X) k key) (p:PRep (WRep w X β) r val):
  (ms++[(⟨key,val,ms.length⟩:MapEntry)]).length=(es++[(k,r)]).length/\(∀(i:Nat) (e:MapE) (m:MapEntry),(es++[(k,r)])[i]?=some e->(ms++[(⟨key,val,ms.length⟩:MapEntry)])[i]?=some m->PRep (FRep w X) e.1 m.key/\PRep (WRep w X β) e.2 m.val)/\(∀(i:Nat) (m:MapEntry),(ms++[(⟨key,val,ms.length⟩:MapEntry)])[i]?=some m->m.born=i):=by
 refine⟨by simp[d],λi e m g b=>?_,λi m b=>?_⟩
 .rw[SR] at g b;split at g;next q=>rw[EL za] at b;exact h i e m g b
  .rename_i q;rw[EG za] at b;have:i-es.length=0:=by have:=(EW.1 g).1;exact zl this
   rw[d,this] at b;rw[this] at g;simp at g b;subst g;subst b;exact⟨o,p⟩
 .rw[SR] at b;split at b
  .exact f i m b
  .have j:=(EW.1 b).1;have:i=ms.length:=by simp at j;omega
   subst this;simp at b;subst b;rfl
def cK {X:Nat->Prop} {es:List MapE} {ms:List MapEntry} (o:ms.length=es.length) (p:∀(i:Nat) (e:MapE) (m:MapEntry),es[i]?=some e->ms[i]?=some m->PRep (FRep w X) e.1 m.key/\PRep (WRep w X β) e.2 m.val) (b:∀(i:Nat) (m:MapEntry),ms[i]?=some m->m.born=i)
  {j:Nat} {f:MapEntry->MapEntry} {k:Bool×List FV} {r:Bool×List WV} (u:∀x,ms[j]?=some x->PRep (FRep w X) k (f x).key/\PRep (WRep w X β) r (f x).val/\(f x).born=x.born):
  (ms.modify j f).length=(es.set j (k,r)).length/\(∀(i:Nat) (e:MapE) (m:MapEntry),(es.set j (k,r))[i]?=some e->(ms.modify j f)[i]?=some m->PRep (FRep w X) e.1 m.key/\PRep (WRep w X β) e.2 m.val)/\(∀(i:Nat) (m:MapEntry),(ms.modify j f)[i]?=some m->m.born=i):=by
 refine⟨by simp[o],λi e m d h=>?_,λi m h=>?_⟩
 .rw[List.getElem?_modify] at h;obtain⟨x,g,rfl⟩:=EM.1 h;rw[Gm] at d;by_cases q:j=i
  .subst q;rw[EL rfl] at d;split at d
   .injection d with d;subst d
    rw[EL rfl];exact⟨(u x g).1,(u x g).2.1⟩
   .cases d
  .rw[EG q] at d;rw[EG q];exact p i e x d g
 .rw[List.getElem?_modify] at h;obtain⟨x,g,rfl⟩:=EM.1 h;by_cases q:j=i
  .subst q;rw[EL rfl,(u x g).2.2];exact b j x g
  .rw[EG q];exact b i x g
def Jd (U:Objs h β Y w){fr:Nat}{t:TypeId}{m:(Bool×List EK)×(Bool×List WV)}{x key:TV}{u v:Value}{r:AR}(hm:Jx P t=some m)(K:TRep w (XO Y h β) β x u)(hk:TRep w (XO Y h β) β key v)(A:wB m h x key=some r):
  Does P h β Y w fr r (do pure (.value (<-Instr.mapEntry t u v))):=by
 unfold wB at A;split at A
 .rename_i k hk0;obtain⟨hk1,hk2⟩:=Xs hk0;have E:=Ko hk1 hk;split at A
  .rename_i oe hoe;obtain⟨o,es⟩:=oe;obtain⟨b,ms,rfl,hb,S,I,z,y,p⟩:=kW U hoe K;obtain⟨kt,e,g,N,hz⟩:=Z2 hm;split at A
   .rename_i q hq;obtain⟨Z,hj⟩:=Jl (w:=w) N E z.symm (λj e x h1 h2=>(y j e x h1 h2).1) hq;have O:=Xh (w:=w) N hk2 E false;obtain⟨J,hzv,X⟩:=Yr (w:=w) (β:=β) hz<|XO Y h β;cases q with
    |none=>
     simp only[entE,EO] at A;subst A;obtain⟨a1,a2,a3⟩:=sQ z y p E X;have C:=wx U S hb I _ _ a1 a2 a3;refine⟨.value<|.tuple #[J,goInt ms.length],.tuple #[J,goInt ms.length],{w with heap:=w.heap.setIfInBounds b (.map (ms++[(⟨v,J,ms.length⟩:MapEntry)]).toArray (ms++[(⟨v,J,ms.length⟩:MapEntry)]).length)},β,?_,.inl rfl,?_,?_⟩
     .simp only[ZR,Option.bind_none] at Z;simp[Instr.mapEntry,EZ g,G6 I,O,Z,hzv,Gt _ I]
     .rw[xd];exact C.weaken λ_ h=>h.elim
     .rw[xd];have T:PRep (WRep _ (XO Y (upd h o<|.mapo<|es++[((m.1.1,k),m.2)]) β) β) m.2 J:=X.imp λ_ _ _ h=>h.goes<|C.goes U λ_ h=>h.elim;refine⟨[J,goInt ms.length],rfl,rfl,λj c u d g=>?_⟩
      match j,d,g with
      |0,d,g=>simp at d g;subst d;subst g;exact T
      |1,d,g=>
       simp at d g;subst d;subst g;refine⟨[goInt ms.length],rfl,⟨rfl,λj c u d g=>?_⟩,λ_=>rfl⟩;cases j with
       |zero=>simp at d g;subst d;subst g;rw[z];exact J7<|.int .i64 _
       |succ j=>simp at d
      |j+2,d,_=>simp at d
    |some i=>
     simp only[entE] at A;split at A<;>simp only[EO,reduceCtorEq] at A;rename_i L H;subst A;have hi:i<ms.length:=zd;have D:=EU hi;obtain⟨hr1,V⟩:=y i L ms[i] H D;obtain⟨_,e',F,hag,hsm⟩:=qT hq;rw[GY,H] at F;injection F with F;subst F
     have W:PRep (FRep w<|XO Y h β) (m.1.1,L.1.2) ms[i].key:=hag▸hr1;obtain⟨hkey,G⟩:=fb (P:=P) hsm E W;obtain⟨a1,a2,a3⟩:=cK (f:=λe=> {e with key:=v}) z y p (j:=i) (k:=(m.1.1,k)) (r:=L.2) (λx K=>by rw[D] at K;injection K with K;subst K;exact⟨E,V,rfl⟩);have C:=wx U S hb I _ _ a1 a2 a3;refine⟨.value<|.tuple #[ms[i].val,goInt i],.tuple #[ms[i].val,goInt i],{w with heap:=w.heap.setIfInBounds b (.map (ms.modify i λe=> {e with key:=v}).toArray (ms.modify i λe=> {e with key:=v}).length)},β,?_,.inl rfl,?_,?_⟩
     .simp only[ZR,Gv,D,S2] at Z;simp[Instr.mapEntry,EZ g,G6 I,O,Z,D,G,(p i ms[i] D),Gt _ I]
     .rw[xd];exact C.weaken λ_ h=>h.elim
     .rw[xd];have M:PRep (WRep _ (XO Y (upd h o<|.mapo<|es.set i ((m.1.1,k),L.2)) β) β) L.2 ms[i].val:=V.imp λ_ _ _ h=>h.goes<|C.goes U λ_ h=>h.elim;refine⟨[ms[i].val,goInt i],rfl,rfl,λj c u d g=>?_⟩
      match j,d,g with
      |0,d,g=>simp at d g;subst d;subst g;exact M
      |1,d,g=>
       simp at d g;subst d;subst g;refine⟨[goInt i],rfl,⟨rfl,λj c u d g=>?_⟩,λ_=>rfl⟩;cases j with
       |zero=>simp at d g;subst d;subst g;exact J7<|.int .i64 _
       |succ j=>simp at d
      |j+2,d,_=>simp at d
   .cases A
  .cases A
 .cases A
def XT (hO:Objs h β Y w){fr:Nat}{t:TypeId}{m:(Bool×List EK)×(Bool×List WV)}{x key y:TV}{u v z:Value}{r:AR}(hm:Jx P t=some m)(hx:TRep w (XO Y h β) β x u)(hk:TRep w (XO Y h β) β key v)(hy:TRep w (XO Y h β) β y z)(C:yy m h x key y=some r):
  Does P h β Y w fr r (do (Instr.mapUpdate t u v z);pure .skip):=by
 unfold yy at C;split at C
 .rename_i k rw_ Z W;obtain⟨T,U⟩:=Xs Z;have A:=Ko T hk;have M:=fX W hy;split at C
  .rename_i oe hoe;obtain⟨o,es⟩:=oe;obtain⟨b,ms,rfl,hb,J,G,p,d,g⟩:=kW hO hoe hx;obtain⟨kt,e,hu,H,hz⟩:=Z2 hm;split at C
   .rename_i q hq;injection C with C;subst C
    obtain⟨N,hj⟩:=Jl (w:=w) H A p.symm (λj e x h1 h2=>(d j e x h1 h2).1) hq;have I:=Xh (w:=w) H U A false;cases q with
    |none=>
     obtain⟨X,V,S⟩:=sQ p d g A M;refine⟨.skip,undef,{w with heap:=w.heap.setIfInBounds b (.map (ms++[(⟨v,z,ms.length⟩:MapEntry)]).toArray (ms++[(⟨v,z,ms.length⟩:MapEntry)]).length)},β,?_,.inr ⟨rfl,rfl⟩,?_,trivial⟩
     .simp only[ZR,Option.bind_none] at N;simp[Instr.mapUpdate,EZ hu,G6 G,I,N,Gt _ G]
     .rw[xd];exact(wx hO J hb G _ _ X V S).weaken λ_ h=>h.elim
    |some i=>
     have hi':=hj i rfl;have hi:i<ms.length:=za;have F:=EU hi;obtain⟨_,en,K,O,hsm⟩:=qT hq;rw[GY] at K;obtain⟨hr1,hr2⟩:=d i en ms[i] K F;have L:PRep (FRep w<|XO Y h β) (m.1.1,en.1.2) ms[i].key:=O▸hr1;obtain⟨hkey,E⟩:=fb (P:=P) hsm A L;obtain⟨X,V,S⟩:=cK (f:=λe=> {e with key:=v,val:=z}) p d g (j:=i) (k:=(m.1.1,k)) (r:=rw_) λx hx=>⟨A,M,rfl⟩;refine⟨.skip,undef,{w with heap:=w.heap.setIfInBounds b (.map (ms.modify i λe=> {e with key:=v,val:=z}).toArray (ms.modify i λe=> {e with key:=v,val:=z}).length)},β,?_,.inr ⟨rfl,rfl⟩,?_,trivial⟩
     .simp only[ZR,Gv,F,S2] at N;simp[Instr.mapUpdate,EZ hu,G6 G,I,N,F,E,Gt _ G]
     .rw[xd];exact(wx hO J hb G _ _ X V S).weaken λ_ h=>h.elim
   .cases C
  .cases C
 .cases C
def Xl (S:Objs h β Y w){fr:Nat}{t:TypeId}{x O y:TV}{u v z:Value}{r:AR}(p:TRep w (XO Y h β) β x u)(V:TRep w (XO Y h β) β O v)(W:TRep w (XO Y h β) β y z)(i:wm h x O y=some r):
  Does P h β Y w fr r (do (Instr.entryStore t u v z);pure .skip):=by
 unfold wm at i;split at i
 .rename_i oe kk n K I H;obtain⟨o,es⟩:=oe;obtain⟨b,ms,rfl,hb,G,D,A,g,d⟩:=kW S I p;rw[TRep.int_inv V];split at i
  .rename_i N C;split at i<;>simp only[EO,reduceCtorEq] at i;rename_i hn;subst i;have T:n.toNat<ms.length:=zd;have m:=EU T;obtain⟨L,hr2⟩:=g n.toNat N ms[n.toNat] C m;obtain⟨Z,X,U⟩:=cK (f:=λe=> {e with val:=z}) A g d (j:=n.toNat) (k:=N.1) (r:=K) (λx p=>by rw[m] at p;injection p with p;subst p;exact⟨L,(fX H W),rfl⟩);refine⟨.skip,undef,{w with heap:=w.heap.setIfInBounds b (.map (ms.modify n.toNat λe=> {e with val:=z}).toArray (ms.modify n.toNat λe=> {e with val:=z}).length)},β,?_,.inr ⟨rfl,rfl⟩,?_,trivial⟩
   .have F:ms.toArray.findIdx? (λe=>(e.born:Int)==n)=some n.toNat:=by
     rw[List.findIdx?_toArray,List.findIdx?_eq_some_iff_getElem];refine⟨T,?_,λj hj=>?_⟩
     .grind
     .have J:j<ms.length:=za;have:=d _ _<|EU J;grind
    simp[Instr.entryStore,G6 D,asInt,asIntOf,F,Gt _ D]
   .rw[xd];exact(wx S G hb D _ _ Z X U).weaken λ_ h=>h.elim
  .cases i
 .cases i
def fN (g:Objs h β Y w)(f:∀b,Y b->b<w.heap.size){fr:Nat}(d:β fr=none)(t:TypeId):Does P h β Y w fr ⟨.c<|.a<|.mp fr,[(fr,.mapo [])],[]⟩ (do pure (.value (<-Instr.makeMap t none))):=by
 refine⟨.value<|.map<|some w.heap.size,.map<|some w.heap.size,{w with heap:=w.heap.push (.map #[] 0)},upd β fr<|some w.heap.size,?_,.inl rfl,?_,?_⟩
 .rfl
 .rw[xd];exact(KJ g f d)
 .exact .a _ _<|.mp _ _<|by simp[upd]
def W4 (hO:Objs h β Y w) (hY:∀b,Y b->b<w.heap.size) {fr} (O:β fr=none) {t e d g x y u v q} (hd:tyOf P t=some d) (S:d.kind=.slice e) (H:tyOf P e=some g)
  (hx:TRep w (XO Y h β) β x u) (hy:TRep w (XO Y h β) β y v) (F:vi g fr x y=some q):
  Does P h β Y w fr ⟨.c<|.a<|.osl fr g.size 0 q.1,[(fr,.arr g.size<|List.replicate q.1<|fzs q.2)],[]⟩ (do pure (.value (<-Instr.makeSlice t u v))):=by
 unfold vi at F;split at F
 .rename_i k1 n k2 m z hz;split at F<;>simp[EO,reduceCtorEq] at F;rename_i M;let ⟨N,hn0,D,X,hb0,o⟩:=M;subst N;subst F;rw[TRep.int_inv hx,TRep.int_inv hy];let ⟨p,_,I,W,i,hi,U⟩:=wO (w:=w) H hz;let ⟨i',_,A,_,_,f,K,_,_⟩:=wU H;rw[hi] at A;injection A with A;subst A
  have o:n.toNat*i.bytes<=140737488355328:=K▸o;have hle:n.toNat<=n.toNat*i.bytes:=Ga _<|K▸hb0;have V:i.bytes*n<=281474976710656:=by grind
  have E:p.cells.size=i.size:=zd;have L:∀k,k<n.toNat*i.size->(madeCells p.cells<|n.toNat*i.size).toList[k]?=p.cells.toList[k % i.size]? :=by
   intro k S;have r:k % i.size<p.cells.size:=by rw[E];exact Nat.mod_lt _<|f▸X
   simp[madeCells,S,E,SP<|r];grind
  refine uF hO hY O g.size _ (madeCells p.cells<|n.toNat*i.size).toList e 0 (.slice (some ⟨w.heap.size,0,none⟩) n.toNat n.toNat) _ ((run_make (P:=P) w t e i p (yW hd S) hi U k1 k2 n n hn0 (EQ _) V za).trans ?_) ?_ (λe C=>?_) (λa j e c C M=>?_) ?_
  .rfl
  .rw[List.length_replicate,Gq,size_madeCells,f];exact EI _
  .rw[(List.mem_replicate.1 C).2];simp[fzs,D]
  .have ha:a<n.toNat:=by have:=(EW.1 C).1;exact zl this
   rw[List.getElem?_replicate,EL ha] at C;injection C with C;subst C
   have T:j<z.length:=by have:=(EW.1 M).1;simpa[fzs] using this
   rw[D] at T;have r:a*g.size+j<n.toNat*i.size:=by
    rw[<-f]
    calc a*g.size+j<a*g.size+g.size:=za
     _=(a+1)*g.size:=zd
     _<=n.toNat*g.size:=Ss _ ha
   have G:(a*g.size+j) % i.size=j:=by rw[<-f,Nat.mul_comm,Nat.mul_add_mod];exact Nat.mod_eq_of_lt T
   rw[L _ r,G];have J:j<p.cells.toList.length:=by rw[Gq,E,<-f];exact T
   refine⟨p.cells.toList[j],EU J,?_⟩;have hl:=kC (w:=w) (β:=β) (XO Y h β) p.cells.toList W;rw[<-I] at hl;exact hl.2 j c _ M<|EU J
  .intro w' β' hb Z;refine .a _ _<|.osl fr g.size 0 n.toNat w.heap.size 0 _ _ e hb Z (EI _) ?_<|.inl zb;rw[Gq,size_madeCells,f,Sa];exact EI _
 .cases F
def yn {t f r}(b:xg P t f=some r):∃m,Jx P t=some m/\f m=some r:=by unfold xg at b;grind
end
section
variable {P:Program} {h:Nat->AObj} {β:Nat->Option Nat} {Y:Nat->Prop} {w:World}
def Ws (X){g b}(f:LRep (WRep w X β) g b)(d:b≠[]):∀(len),LRep (WRep w X β) (List.replicate len g).flatten ((List.range<|len*b.length).map λi=>b.getD (i % b.length) undef)
 |0=>zl LRep.nil
 |len+1=>by
  have h:(List.range<|(len+1)*b.length).map (λi=>b.getD (i % b.length) undef)=b++(List.range<|len*b.length).map (λi=>b.getD (i % b.length) undef):=by
   rw[SO,Nat.one_mul,GS,List.range_add,SN,GT];congr 1
   .apply List.ext_getElem?;intro j;rw[EX];by_cases e:j<b.length
    .rw[Gc e];simp[S2,Nat.mod_eq_of_lt e,List.getD,EU e,Sq]
    .grind
   .simp_all
  rw[h];exact f.append<|Ws X f d len
def YH {n}:∀(k) {cs},cs.length=k*n->(∀e∈jd n k cs,e.length=n)/\(jd n k cs).length=k/\(jd n k cs).flatten=cs
 |0,cs,h=>by have:cs=[]:=S1 za;subst this;simp[jd]
 |k+1,cs,h=>by have d:(cs.drop n).length=k*n:=zd;let ⟨i,b,f⟩:=YH k d;refine⟨λe g=>?_,by simp[jd,b],by simp[jd,f]⟩;simp[jd,S4] at g;grind
def jY {ρ:Operand->TV}{ev:Operand->Value}{X}(b:∀x,TRep w X β (ρ x)<|ev x)(parts:Array<|Nat×Operand):
  ∀(j:Nat) (p) (v),(parts.toList.map λp=>(p.1,ρ p.2))[j]?=some p->(parts.map λ(i,x)=>(i,ev x)).toList[j]?=some v->p.1=v.1/\TRep w X β p.2 v.2:=zd
def Xy:∀(l:List Field),(∀f∈l,∃i,P.info? f.type=some i)->(l.mapM (λf=>do pure (f.offset,<-sizeOf f.type):Field->Sem (Nat×Nat))).run P w=.ok (l.map λf=>(f.offset,P.cellsOf f.type)) w
 |[],_=>zb
 |f::l,h=>by
  let ⟨i,b⟩:=h f zb;have ih:=Xy l (λf e=>h f zd);have g:P.cellsOf f.type=i.size:=by simp[Program.cellsOf,b]
  have d:(sizeOf f.type).run P w=.ok i.size w:=by simp[sizeOf,typeInfo,b]
  simp_all
def bc (b:Array Field)(h:∀f∈b.toList,∃i,P.info? f.type=some i):(b.mapM (λf=>do pure (f.offset,<-sizeOf f.type):Field->Sem (Nat×Nat))).run P w=.ok (b.toList.map λf=>(f.offset,P.cellsOf f.type)).toArray w:=by have:=Xy (P:=P) (w:=w) b.toList h;rw[Array.mapM_eq_mapM_toList];simp_all
def Wu {t d parts vals X r} (hd:tyOf P t=some d) (u:parts.length=vals.toList.length)
  (H:∀(j:Nat) p v,parts[j]?=some p->vals.toList[j]?=some v->p.1=v.1/\TRep w X β p.2 v.2)
  (h:WN P d parts=some r):∃z,(Instr.build t vals).run P w=.ok z w/\TRep w X β r z:=by
 unfold WN at h;split at h
 .rename_i z M E A;obtain⟨cs,m,rfl⟩:=EM.1 h;obtain⟨C,g,rfl,D,_⟩:=wO (w:=w) hd E;obtain⟨I,y,rfl,F⟩:=jA hd A;let ⟨vs,o,b⟩:=qA (place':=λi=>((I.toList.map λf=>(f.offset,P.cellsOf f.type)).toArray)[i]?) (λi=>zd) _ _ _ _ _ m (kC (w:=w) (β:=β) X C.cells.toList D) u H;refine⟨.agg vs.toArray,?_,vs,rfl,b⟩;simp only[Instr.build,Sv,g,Se,EZ y,(bc (P:=P) (w:=w) I F),o,SC]
 .rename_i z n e E A;split at h
  .rename_i J x;obtain⟨cs,m,rfl⟩:=EM.1 h;obtain⟨C,g,rfl,D,_⟩:=wO (w:=w) hd E;let ⟨vs,o,b⟩:=qA (place':=λi=>some _) (λi=>rfl) _ _ _ _ _ m (kC (w:=w) (β:=β) X C.cells.toList D) u H;refine⟨.agg vs.toArray,?_,vs,rfl,b⟩;simp[Instr.build,Sv,g,Se,EZ<|Yb hd A,zX x,o,SC]
  .cases h
 .cases h
def m9 {t d} {parts:Array (Nat×Operand)} {ρ:Operand->TV} {ev:Operand->Value} {X r} (b:∀x,TRep w X β (ρ x)<|ev x) (hd:tyOf P t=some d)
  (e:WN P d (parts.toList.map λp=>(p.1,ρ p.2))=some r):∃z,(Instr.build t<|parts.map λ(i,x)=>(i,ev x)).run P w=.ok z w/\TRep w X β r z:=
 Wu hd zb (jY (w:=w) (β:=β) b parts) e
def uM (hO:Objs h β Y w) (hY:∀b,Y b->b<w.heap.size) {fr} (M:β fr=none) {t e d g f parts vals r}
  (J:parts.length=vals.toList.length) (hp:∀(j:Nat) p v,parts[j]?=some p->vals.toList[j]?=some v->p.1=v.1/\TRep w (XO Y h β) β p.2 v.2)
  (hd:tyOf P t=some d) (hk:d.kind=.slice e) (C:tyOf P e=some g) (m:wl g fr f parts=some r):
  Does P h β Y w fr r (do pure (.value (<-Instr.buildSlice t f vals))):=by
 have W:=yW hd hk;unfold wl at m;split at m
 .rename_i z G;split at m
  .rename_i hc;let ⟨hz1,U,X⟩:=hc;split at m
   .rename_i cs H;injection m with m;subst m
    obtain⟨A,N,rfl,h1,_⟩:=wO (w:=w) C G;have T:A.cells.toList.length=g.size:=zd;have x:=Ws _ (kC (w:=w) (β:=β) (XO Y h β) A.cells.toList h1) zd f;rw[T] at x;let ⟨vs,D,K⟩:=qA (place':=λi=>some _) (λi=>rfl) _ _ _ _ _ H x J hp;have L:∀(o) I (c r),W5 o c I=some r->r.length=c.length:=by
     intro o I
     induction I with
     |nil=>intro c r h;simp[W5,EO] at h;rw[h]
     |cons p I ih=>
      intro c r h;simp[W5] at h;split at h
      .split at h;next hc=>rw[ih _ _ h];unfold splice;simp;omega
       .cases h
      .cases h
    have F:cs.length=f*g.size:=by rw[L _ _ _ _ H,x.1];simp
    let ⟨Z,k2,k3⟩:=YH f F;have hvl:vs.length=f*g.size:=by rw[<-K.1,F]
    refine uF hO hY M g.size _ vs e 0 (.slice (some ⟨w.heap.size,0,none⟩) f f) _ ?_ zd Z (xz Z zd) ?_
    .have E:¬(f*g.size>2^24):=za;have y:(Array.range<|f*g.size).map (λi=>A.cells[i % A.cells.size]!)=(List.map (λi=>A.cells.toList.getD (i % g.size) undef)<|List.range<|f*g.size).toArray:=by
      apply GQ;simp only[Array.toList_map,Array.toList_range];apply SU;intro i _;have S:A.cells.size=g.size:=za;have hlt:i % g.size<A.cells.size:=by rw[S];exact Nat.mod_lt _ U
      grind
     by_cases u:f*g.size=0
     .have V:(Array.range 0).map (λi=>(#[])[i % (#[]:Array Value).size]!)=(List.map (λi=>A.cells.toList.getD (i % g.size) undef)<|List.range 0).toArray:=by grind
      simp only[u] at D;simp only[Instr.buildSlice,Sv,EZ W,Se,zX C,u,show¬(0>2^24) by omega,S9,Sj,SC,V,D,newRow,run_newObj,Gg]
     .simp only[Instr.buildSlice,Sv,EZ W,Se,zX C,E,u,Sj,SC,N,y,D,newRow,run_newObj,Gg]
    .intro w' β' m O;by_cases G:f=0/\g.size=1
     .rw[EL G];obtain⟨rfl,_⟩:=G;exact .a _ _<|.fz _ _<|.z0 true _
     .rw[EG G];exact .a _ _<|.osl fr g.size 0 f w.heap.size 0 f _ e m O (EI _) zd<|.inl zb
   .cases m
  .cases m
 .cases m
def YL (y:Objs h β Y w) (u:∀b,Y b->b<w.heap.size) {fr} (g:β fr=none) {t e d o f} {parts:Array (Nat×Operand)} {ρ:Operand->TV} {ev:Operand->Value} {r}
  (j:∀x,TRep w (XO Y h β) β (ρ x)<|ev x) (hd:tyOf P t=some d) (z:d.kind=.slice e) (m:tyOf P e=some o) (v:wl o fr f (parts.toList.map λp=>(p.1,ρ p.2))=some r):
  Does P h β Y w fr r (do pure (.value (<-Instr.buildSlice t f<|parts.map λ(i,x)=>(i,ev x)))):=
 uM y u g zb (jY (w:=w) (β:=β) j parts) hd z m v
def gi (Z:Objs h β Y w) (hY:∀b,Y b->b<w.heap.size) {fr} (E:β fr=none) {t J ty e d p s x u v r} (hd:tyOf P t=some d) (T:d.kind=.slice e) (o:tyOf P e=some p)
  (S:TRep w (XO Y h β) β s u) (W:TRep w (XO Y h β) β x v) (m:qR P J p fr s x=some r):
  Does P h β Y w fr r (do pure (.value (<-Builtin.append_ #[t,J] ty #[u,v]))):=by
 unfold qR at m;split at m
 .rename_i kn k n A;split at m
  .rename_i hc;let ⟨hn0,hs0,f,hb0,X⟩:=hc;injection m with m;subst m
   rw[S.nils_inv,TRep.int_inv W];let ⟨z,F,hz2⟩:=EM.1 X;let ⟨y,_,hz3,_,i,N,D⟩:=wO (w:=w) o F;let ⟨i',_,g,_,_,C,I,_,_⟩:=wU o;rw[N] at g;injection g with g;subst g
   have f:n.toNat*i.bytes<=140737488355328:=I▸f;have U:n.toNat<=n.toNat*i.bytes:=Ga _ za;have M:=Lib.run_append_nil_zeros (P:=P) w t J ty e i y k kn (yW hd T) A N D n.toNat za za za za;rw[show(n.toNat)=n by omega] at M;have K:=grownCap_ge w n.toNat 0 e;have H:y.cells.size=i.size:=zd;refine uF Z hY E p.size [] (Builtin.zeroCells y.cells n.toNat++Builtin.zeroCells y.cells (grownCap w n.toNat 0 e-n.toNat)).toList e 1 (.slice (some ⟨w.heap.size,0,none⟩) n.toNat<|grownCap w n.toNat 0 e) _ (M.trans ?_) zb (λe L=>by cases L) (λi j e c L _=>zd) ?_
   .rfl
   .intro w' β' V G;refine .a _ _<|.osl fr p.size 0 n.toNat w.heap.size 0 _ _ e V G K ?_<|.inl zb;rw[Gq,Array.size_append,size_zeroCells,size_zeroCells,H,<-SO,C];grind
  .cases m
 .cases m
def f6 (J:Objs h β Y w) (U:∀b,Y b->b<w.heap.size) {fr} (L:β fr=none) {b o ty cs args vals r}
  (K:LRep (TRep w (XO Y h β) β) args vals.toList) (i:xQ P b o.toList fr h args=some r):Does P h β Y w fr r (builtin b o ty cs vals):=by
 unfold xQ at i;split at i
 .rename_i t x T;let ⟨u,A,z,g,E⟩:=K.cons_inv;rw[E.nil_inv] at z;have G:vals= #[u]:=zd;have f:o= #[t]:=zd;subst G;subst f;let ⟨d,hd,M⟩:=zO i;obtain⟨p,V,rfl⟩:=EM.1 M;exact len_does (ty:=ty) J hd g V
 .rename_i t Z s x T;split at i
  .rename_i S;subst S;let ⟨d,e,W,hd,F,C,H⟩:=y9 i;let ⟨u,A,z,O,E⟩:=K.cons_inv;let ⟨v,N,G,g,I⟩:=E.cons_inv;rw[G,I.nil_inv] at z;have D:vals= #[u,v]:=zd;have f:o= #[t,t]:=zd;subst D;subst f;exact dD (ty:=ty) J U L hd F C O g H
  .let ⟨d,e,W,hd,F,C,H⟩:=y9 i;let ⟨u,A,z,O,E⟩:=K.cons_inv;let ⟨v,N,G,g,I⟩:=E.cons_inv;rw[G,I.nil_inv] at z;have D:vals= #[u,v]:=zd;have f:o= #[t,Z]:=zd;subst D;subst f;exact gi (ty:=ty) J U L hd F C O g H
 .rename_i t x T;refine yD J i λy hy=>?_;let ⟨u,A,z,g,E⟩:=K.cons_inv;rw[E.nil_inv] at z;have G:vals= #[u]:=zd;have f:o= #[t]:=zd;subst G;subst f;let ⟨d,hd,j⟩:=zO hy;unfold capP at j;split at j
  .rename_i F;injection j with j;subst j
   rw[g.nils_inv];exact⟨goInt 0,by simp[Builtin.cap_,EZ<|yW hd F,goInt],.int_mk _ _⟩
  .rename_i nn F;have f:=yW hd F;injection j with j;subst j
   cases g.fz_inv with
   |z0 _ a=>exact⟨goInt 0,by simp[Builtin.cap_,EZ f,goInt],.int_mk _ _⟩
   |z0n=>exact⟨goInt 0,by simp[Builtin.cap_,EZ f,goInt],.int_mk _ _⟩
  .cases j
 .refine yD J i λx g=>?_;have:=pX (P:=P) (m:=false) o ty g K;simp_all
 .refine yD J i λx g=>?_;have:=pX (P:=P) (m:=true) o ty g K;simp_all
 .cases i
def cL {ρ ev X}(b:∀x,TRep w X β (ρ x)<|ev x)(o:Option Operand):bnd (o.map ρ) (o.map ev) w X β:=by
 cases o with
 |none=>trivial
 |some x=>exact b x
def jM {ρ ev X}(b:∀x,TRep w X β (ρ x)<|ev x):∀(l:List Operand),LRep (TRep w X β) (l.map ρ) (l.map ev)
 |[]=>.nil
 |x::l=>.cons (b x)<|jM b l
def cJ {b x r u f d X}(g:∃e,P.underlying b=some e)(hd:tyOf P f=some d)(h:Y8 d x=some r)(j:TRep w X β x u):
  ∃z,(convert b f u).run P w=.ok z w/\TRep w X β r z:=by
 let ⟨e,i⟩:=g;exact fj b ⟨e,i,λ_ _ _=>trivial⟩ hd h j
def WM {X}:∀ {es} {l} {f},f9 es=some l->LRep (WRep w X β) es.flatten f->∃g:List Int,f=g.map (Value.int .u8)/\l=g.map λn=>UInt8.ofNat n.toNat
 |[],l,f,h,j=>by simp[f9,EO] at h;have:f=[]:=S1 (zl j.1.symm);simp_all
 |e::r,l,f,h,j=>by
  simp[f9] at h;split at h
  .rename_i b l' d i;injection h with h;subst h
   unfold byteW at d;split at d
   .rename_i n;injection d with d;subst d
    obtain⟨u,o,rfl,m,p⟩:=j.cons_inv;obtain⟨g,rfl,rfl⟩:=WM i p;have:u=.int .u8 n:=by cases m with|a _ _ h=>cases h with|fz _ _ h=>cases h;rfl
    subst this;exact⟨n::g,rfl,rfl⟩
   .cases d
  .cases h
def WC:∀(b:List Int) (s:ByteArray),b.foldl (λr n=>r.push<|UInt8.ofNat n.toNat) s=⟨s.data++(b.map λn=>UInt8.ofNat n.toNat).toArray⟩
 |[],s=>zb
 |n::b,s=>by rw[Gz,WC b];simp_all
def oS (K:Objs h β Y w){b f x u r}(F:Kh P b=true)(g:textA P f h x=some r)(J:TRep w (XO Y h β) β x u):
  ∃v z rd,r=⟨v,[],rd⟩/\(convert b f u).run P w=.ok z w/\TRep w (XO Y h β) β v z:=by
 have A:∃e,P.underlying b=some (.slice e)/\P.underlying e=some (.int .u8):=by
  unfold Kh at F;split at F
  .rename_i O;let ⟨V,e,de,hd,p,D,i⟩:=y9 O;injection i with i
   let ⟨W,N,I⟩:=xJ hd;rw[I] at p;let ⟨u2,L,E⟩:=xJ D;rw[E] at i;have e1:=kF p;have e2:=Wo i;grind
  .cases F
 let ⟨e,hs1,C⟩:=A;let ⟨d,hd,g⟩:=zO g;split at g
 .rename_i p;let ⟨Z,j,H⟩:=xJ hd;rw[H] at p;have S:=qL p;subst S;split at g
  .rename_i es rd o;obtain⟨l,i,rfl⟩:=EM.1 g;let ⟨_,X,G,M⟩:=jt K o J za;obtain⟨m,rfl,rfl⟩:=WM i G;rcases M with⟨rfl,rfl⟩|⟨a,cap,rfl,U⟩
   .have:m=[]:=by have:=G.1;grind
    subst this;refine⟨_,.string .empty,_,rfl,?_,.a _ _<|.fz _ _<|.str []⟩;rw[run_convert_bytes_string w b f e none 0 0 hs1 C j];rfl
   .have y:es.length=(m.map<|Value.int .u8).length:=by have:=G.1;rw[<-this,uo<|(jt K o J za).1,Nat.mul_one]
    refine⟨_,_,_,rfl,(run_convert_bytes_string w b f e _ es.length cap hs1 C j).trans<|run_bytesToString w a es.length cap m ?_,?_⟩
    .rw[y];exact run_loadCells_list w a _ U
    .rw[WC];have e:ByteArray.empty.data++(m.map λn=>UInt8.ofNat n.toNat).toArray=(m.map λn=>UInt8.ofNat n.toNat).toArray:=by simp_all
     rw[e];exact .a _ _<|.fz _ _<|.str _
  .cases g
 .cases g
def uu (A:Objs h β Y w)(K:∀b,Y b->b<w.heap.size){fr:Nat}(E:β fr=none){o:Oper}{ρ:Operand->TV}{ev:Operand->Value}{r:AR}(j:∀x,TRep w (XO Y h β) β (ρ x)<|ev x)(u:aop P o fr ρ h=some r):
  Does P h β Y w fr r (execOp ev o):=by
 have O:∀ {s:Sem Value},(do pure (.value (<-s)):Sem Next)=(do let v <-s;pure<|.value v):=rfl;obtain⟨d,op,t,p,af,g⟩:=o;unfold aop at u;dsimp only at u;split at u
 .injection u with u;subst u
  rename_i x;exact⟨.value<|ev x,ev x,w,β,rfl,.inl rfl,(Moves.refl A λ_=>rfl).weaken λ_ h=>h.elim,j x⟩
 .injection u with u;subst u
  rename_i x;exact⟨.value<|ev x,ev x,w,β,rfl,.inl rfl,(Moves.refl A λ_=>rfl).weaken λ_ h=>h.elim,j x⟩
 .rename_i c x y;obtain⟨v,C,rfl⟩:=EM.1 u;obtain⟨b,I,hr⟩:=rO C (j c) (j x)<|j y;refine⟨.value (if b then ev x else ev y),_,w,β,?_,.inl rfl,(Moves.refl A λ_=>rfl).weaken λ_ h=>h.elim,hr⟩;simp only[execOp,I,asBool,pure_bind];rfl
 next e=>obtain⟨F,hd,hz⟩:=zO u;obtain⟨z,V,rfl⟩:=EM.1 hz;exact iP A K E hd V
 next e x=>obtain⟨cs,W,rfl⟩:=EM.1 u;exact box_does A K E (j x) W
 next bt parts=>exact yD A u (λx hx=>by obtain⟨F,hd,I⟩:=zO hx;exact m9 j hd I)
 next T len parts=>obtain⟨F,e,de,hd,S,H,I⟩:=y9 u;exact YL A K E j hd S H I
 next lt x=>obtain⟨F,hd,J⟩:=zO u;obtain⟨q,Z,rfl⟩:=EM.1 J;exact mz A hd (j x) Z
 next T x y=>obtain⟨F,hd,M⟩:=zO u;exact ic A hd (j x) (j y) M
 next x=>obtain⟨v,C,rfl⟩:=EM.1 u;obtain⟨U,h2⟩:=Kj (P:=P) (o:=⟨d,.nilCheck x,t,p,af,g⟩) ev x rfl rfl C (j x);exact⟨.value<|ev x,ev x,w,β,U,.inl rfl,(Moves.refl A λ_=>rfl).weaken λ_ h=>h.elim,h2⟩
 next op xt x y yt=>exact yD A u λv C=>binA_run x y C (j x)<|j y
 next op xt x=>exact yD A u λv C=>unA_run C<|j x
 .rename_i src dst x;split at u
  .rename_i M;obtain⟨v,z,rd,rfl,U,h3⟩:=oS A M u<|j x;refine⟨.value z,z,w,β,?_,.inl rfl,(Moves.refl A λ_=>rfl).weaken λ_ h=>h.elim,h3⟩;simp only[execOp,Sv,U,Se,SC]
  exact yD A u (λv C=>by
   split at C;next M=>obtain⟨F,hd,G⟩:=zO C;exact cJ (Option.isSome_iff_exists.1 M) hd G (j x)
   .cases C)
 .rename_i T x lo hi mx;exact yD A u (λv C=>by obtain⟨F,hd,G⟩:=zO C;exact gN hd G (j x) (cL j lo) (cL j hi) (cL j mx))
 next s x f=>exact yD A u (λv C=>by obtain⟨F,hd,G⟩:=zO C;exact XY hd G<|j x)
 next s x f=>exact yD A u (λv C=>by obtain⟨F,hd,G⟩:=zO C;exact iS hd G<|j x)
 next s x N=>exact yD A u (λv C=>by obtain⟨F,hd,G⟩:=zO C;exact jj hd G (j x)<|j N)
 next s x N=>exact yD A u (λv C=>by obtain⟨F,hd,G⟩:=zO C;exact iY hd G (j x)<|j N)
 .rename_i fn first D
  exact yD A u (λv C=>⟨.func fn (first.map ev)<|D.map ev,rfl,by
   have:=JB (w:=w) (β:=β) (X:=XO Y h β) C (jM j first.toList) (jM j D.toList);have e:∀a:Array Operand,(a.toList.map ev).toArray=a.map ev:=λa=>by apply GQ;simp
   rwa [e,e] at this⟩)
 next x i=>exact yD A u λv C=>Kv C<|j x
 next b args ts=>refine f6 (vals:=args.map ev) A K E (by simpa using jM j args.toList) u
 next lt x N ok=>obtain⟨m,L,J⟩:=yn u;exact cy A L (j x) (j N) J
 next mt x k=>obtain⟨m,L,J⟩:=yn u;exact Jd A L (j x) (j k) J
 next mt x s v=>exact Xl A (j x) (j s) (j v) u
 next mt x k v=>obtain⟨m,L,J⟩:=yn u;exact XT A L (j x) (j k) (j v) J
 .injection u with u;subst u
  exact fN A K E _
 next T l c=>obtain⟨F,e,de,hd,S,H,I⟩:=y9 u;obtain⟨q,Z,rfl⟩:=EM.1 I;exact W4 A K E hd S H (j l) (j c) Z
 .cases u
end
section
variable {w:World} {X1 X2:Nat->Prop} {β1 β2:Nat->Option Nat} {σ:Nat->Nat}
def ARep.map (z:∀x v,FRep w X1 x v->FRep w X2 x v)(d:∀o b,β1 o=some b->β2 (σ o)=some b){x v}(h:ARep w X1 β1 x v):ARep w X2 β2 (x.ren σ) v:=by
 cases h with
 |fz x v h=>exact .fz x v<|z x v h
 |ep o n i j b h=>exact .ep _ n i j b<|d _ _ h
 |osl o n g f b q cap sz t p m r u y=>exact .osl _ n g f b q cap sz t (d _ _ p) m r u y
 |oslN o n g=>exact .oslN _ n g
 |mp o b h=>exact .mp _ b<|d _ _ h
 |any v h=>exact .any v h
 |bld t o b v p m r=>exact .bld t _ b v (d _ _ p) m r
 |osb o e f b cap p m r u=>exact .osb _ e f b cap (d _ _ p) m r u
def WRep.map (e:∀x v,FRep w X1 x v->FRep w X2 x v)(d:∀o b,β1 o=some b->β2 (σ o)=some b){x v}(h:WRep w X1 β1 x v):WRep w X2 β2 (x.ren σ) v:=by
 cases h with
 |a x v h=>exact .a _ v<|h.map e d
 |fn f first cap j vs i g=>exact .fn f _ _ j vs (i.map λc u _ h=>h.map λc u _ h=>h.map e d)<|g.map λc u _ h=>h.map λc u _ h=>h.map e d
def TRep.map (e:∀x v,FRep w X1 x v->FRep w X2 x v)(d:∀o b,β1 o=some b->β2 (σ o)=some b){x v}(h:TRep w X1 β1 x v):TRep w X2 β2 (x.ren σ) v:=by
 cases x with
 |any=>trivial
 |c x=>exact WRep.map e d h
 |agg cs=>let ⟨i,g,f⟩:=h;exact⟨i,g,f.map λc u _ h=>h.map e d⟩
 |tup vs=>let ⟨i,g,f⟩:=h;exact⟨i,g,f.map λc u _ h=>h.map λc u _ h=>h.map e d⟩
def ORep.map (E:∀x v,FRep w X1 x v->FRep w X2 x v)(g:∀o b,β1 o=some b->β2 (σ o)=some b){x b}(h:ORep w X1 β1 x b):ORep w X2 β2 (x.ren σ) b:=by
 cases x with
 |gone=>trivial
 |arz n N=>
  let ⟨L,t,A,z,D,C⟩:=h;refine⟨L,t,A,z,D,λi j e c d r=>?_⟩;let ⟨u,K,M⟩:=C i j e c d r;rw[EX] at d;obtain⟨p,f,rfl⟩:=EM.1 d;rw[fzs,EX] at r;obtain⟨H,F,rfl⟩:=EM.1 r;exact⟨u,K,M.map (σ:=σ) E g⟩
 |mapz es=>
  let ⟨ms,J,A,z,D,C,G⟩:=h;refine⟨ms,J,A,z,λi e m d I=>?_,C,G⟩;let ⟨x,y⟩:=D i e m d I;rw[EX] at d;obtain⟨p,f,rfl⟩:=EM.1 d;refine⟨x.imp λ_ _ _ h=>E _ _ h,y.imp λc u r h=>?_⟩;obtain⟨H,_,rfl⟩:=SG.1<|r;exact h.map (σ:=σ) E g
 |arr n es=>
  let ⟨L,t,A,z,D,C⟩:=h;refine⟨L,t,A,zl z,λe d=>?_,λi j e c d r=>?_⟩
  .grind
  .rw[EX] at d;obtain⟨p,f,rfl⟩:=EM.1 d;rw[EX] at r;obtain⟨H,F,rfl⟩:=EM.1 r;let ⟨u,K,M⟩:=C i j p H f F;exact⟨u,K,M.map E g⟩
 |mapo es=>
  let ⟨ms,J,A,z,D,C,G⟩:=h;refine⟨ms,J,A,zl z,λi e m d I=>?_,C,G⟩;rw[EX] at d;obtain⟨p,f,rfl⟩:=EM.1 d;let ⟨x,y⟩:=D i p m f I;exact⟨x.imp λ_ _ _ h=>E _ _ h,y.map λc u _ h=>h.map E g⟩
def ARep.unmap {m}(C:∀x v,FRep w X2 x v->FRep w X1 x v)(f:∀o b,o<m->β2 (σ o)=some b->β1 o=some b){x v}(d:x.lt m=true)(h:ARep w X2 β2 (x.ren σ) v):ARep w X1 β1 x v:=by
 cases x with
 |fz x=>cases h with|fz _ _ h=>exact .fz x v<|C x v h
 |ep o n i j=>cases h with|ep _ _ _ _ b h=>exact .ep o n i j b<|f _ _ (by simpa[AV.lt] using d) h
 |osl o n r y=>cases h with
  |osl _ _ _ _ b q cap sz t p g u z A=>exact .osl o n r y b q cap sz t (f _ _ (by simpa[AV.lt] using d) p) g u z A
  |oslN=>exact .oslN o n r
 |mp o=>cases h with|mp _ b h=>exact .mp o b<|f _ _ (by simpa[AV.lt] using d) h
 |any=>cases h with|any _ h=>exact .any v h
 |bld t o=>cases h with|bld _ _ b _ p g u=>exact .bld t o b v (f _ _ (by simpa[AV.lt] using d) p) g u
 |osb o e n=>cases h with|osb _ _ _ b cap p g u z=>exact .osb o e n b cap (f _ _ (by simpa[AV.lt] using d) p) g u z
def WRep.unmap {m}(i:∀x v,FRep w X2 x v->FRep w X1 x v)(g:∀o b,o<m->β2 (σ o)=some b->β1 o=some b){x v}(e:x.lt m=true)(h:WRep w X2 β2 (x.ren σ) v):WRep w X1 β1 x v:=by
 cases x with
 |a x=>cases h with|a _ _ h=>exact .a x v<|ARep.unmap i g e h
 |fn f first cap=>
  simp only[WV.lt,EN,Sc] at e;cases h with
  |fn _ _ _ y vs r p=>exact .fn f first cap y vs (r.unmap λc u j h=>h.unmap λd z hd h=>ARep.unmap i g (e.1 c j d hd) h) (p.unmap λc u j h=>h.unmap λd z hd h=>ARep.unmap i g (e.2 c j d hd) h)
def TRep.unmap {m}(j:∀x v,FRep w X2 x v->FRep w X1 x v)(f:∀o b,o<m->β2 (σ o)=some b->β1 o=some b){x v}(e:x.lt m=true)(h:TRep w X2 β2 (x.ren σ) v):TRep w X1 β1 x v:=by
 cases x with
 |any=>trivial
 |c x=>exact WRep.unmap j f e h
 |agg cs=>simp[TV.lt,Sc] at e;let ⟨p,i,g⟩:=h;exact⟨p,i,g.unmap λc u r h=>WRep.unmap j f (e c r) h⟩
 |tup vs=>simp only[TV.lt,Sc] at e;let ⟨p,i,g⟩:=h;exact⟨p,i,g.unmap λc u r h=>h.unmap λd z hd h=>WRep.unmap j f (e c r d hd) h⟩
def ORep.unmap {m}(D:∀x v,FRep w X2 x v->FRep w X1 x v)(p:∀o b,o<m->β2 (σ o)=some b->β1 o=some b){x b}(g:x.lt m=true)(h:ORep w X2 β2 (x.ren σ) b):ORep w X1 β1 x b:=by
 cases x with
 |gone=>trivial
 |arz n S=>
  let ⟨J,t,z,r,C,A⟩:=h;refine⟨J,t,z,r,C,λi j e c d f=>?_⟩;let ⟨u,I,L⟩:=A i j e c d f;rw[EX] at d;obtain⟨M,K,rfl⟩:=EM.1 d;rw[fzs,EX] at f;obtain⟨F,O,rfl⟩:=EM.1 f;exact⟨u,I,WRep.unmap (σ:=σ) (m:=m) (x:=cell F) D p rfl L⟩
 |mapz es=>
  let ⟨ms,H,z,r,C,A,E⟩:=h;refine⟨ms,H,z,r,λi e N d G=>?_,A,E⟩;let ⟨x,y⟩:=C i e N d G;rw[EX] at d;obtain⟨M,K,rfl⟩:=EM.1 d;refine⟨x.imp λ_ _ _ h=>D _ _ h,y.imp λc u f h=>?_⟩;obtain⟨F,_,rfl⟩:=SG.1<|f;exact WRep.unmap (σ:=σ) (m:=m) (x:=cell F) D p rfl h
 |arr n es=>
  simp[AObj.lt,Sc] at g;let ⟨J,t,z,r,C,A⟩:=h;refine⟨J,t,z,zd,λe d=>?_,λi j e c d f=>?_⟩
  .simp_all
  .obtain⟨u,I,L⟩:=A i j _ _ (by rw[EX,d];rfl) (by rw[EX,f];rfl);exact⟨u,I,WRep.unmap D p (g e (Sl d) c<|Sl f) L⟩
 |mapo es=>simp only[AObj.lt,Sc] at g;let ⟨ms,H,z,r,C,A,E⟩:=h;refine⟨ms,H,z,zd,λi e m d G=>?_,A,E⟩;obtain⟨x,y⟩:=C i _ m (by rw[EX,d];rfl) G;exact⟨x.imp λ_ _ _ h=>D _ _ h,y.unmap λc u f h=>WRep.unmap D p (g e (Sl d) c f) h⟩
def FRep.le {X x y}(h:FV.Le x y):∀ {v},FRep w X x v->FRep w X y v:=by
 induction h with
 |refl x=>exact λh=>h
 |N n=>exact λh=>by cases h;exact .slnil n
 |nn b n es=>
  intro v h;cases h with
  |slnil=>exact .slnil n
  |sl0 _ _ a=>exact .sl0 _ n a
  |sl _ _ _ b C cap A u N L K H E G F=>exact .sl false n es b C cap A u N L K H E G F
 |z0 nn n=>
  intro v h;cases h with
  |z0 _ a=>exact .sl0 nn n a
  |z0n=>exact .slnil n
 |rows b n es o M S T ih=>
  intro v h;have g:∀ {i:Nat} {r:List FV},o[i]?=some r->∃e,es[i]?=some e/\e.length=r.length:=by grind
  cases h with
  |slnil=>
   have:o=[]:=S1 (zl M.symm);subst this;exact .slnil n
  |sl0 _ _ a=>
   have:o=[]:=S1 (zl M.symm);subst this;exact .sl0 _ n a
  |sl _ _ _ b C cap A u N L K H E G F=>
   refine .sl _ n o b C cap A u za za K H (λi r d=>?_) (λi j r f' d p=>?_) λi j r f' d p=>?_
   .grind
   .grind
   .grind
 |trans x y z _ _ J I=>exact λh=>I<|J h
def ARep.le {X β x y}(h:AV.Le x y){v}(b:ARep w X β x v):ARep w X β y v:=by
 cases h with
 |refl=>exact b
 |fz x y h=>cases b with|fz _ _ b=>exact .fz y v<|b.le h
 |any=>exact .any v<|WRep.oneCell<|.a _ _ b
def WRep.le {X β x y}(h:WV.Le x y){v}(b:WRep w X β x v):WRep w X β y v:=by
 cases h with
 |refl=>exact b
 |a x y h=>cases b with|a _ _ b=>exact .a y v<|b.le h
def TRep.le {X β x y}(h:TV.Le x y){v}(g:TRep w X β x v):TRep w X β y v:=by
 cases h with
 |refl=>exact g
 |any=>trivial
 |c x y h=>exact WRep.le h g
 |agg xs ys f h=>
  let ⟨r,m,b⟩:=g;refine⟨r,m,f▸b.1,λj c u F p=>?_⟩;have d:j<xs.length:=f▸(EW.1 F).1;exact WRep.le (h j _ c (EU d) F)<|b.2 j _ u (EU d) p
 |tup xs ys f h=>
  let ⟨r,m,b⟩:=g;refine⟨r,m,f▸b.1,λj q u D p=>?_⟩;have d:j<xs.length:=f▸(EW.1 D).1;let ⟨z,o,H⟩:=h j _ q (EU d) D;let ⟨vs,J,E,I⟩:=b.2 j _ u (EU d) p;refine⟨vs,z▸J,⟨o▸E.1,λi y w A G=>?_⟩,λe=>o▸I (z▸e)⟩;have C:i<(xs[j]).2.length:=o▸(EW.1 A).1;exact WRep.le (H i _ y (EU C) A)<|E.2 i _ w (EU C) G
end
section
variable {P:Program} {h:Nat->AObj} {β:Nat->Option Nat} {Y:Nat->Prop} {w:World}
def kE {α l i}{x:α}(h:zZ l i=some x):(i,x)∈l:=by
 induction l with
 |nil=>simp[zZ] at h
 |cons p l ih=>
  let ⟨j,y⟩:=p;simp[zZ] at h;grind
def dP {X f u}(h:WRep w X β (cell f) u):FRep w X f u:=by cases h with|a _ _ h=>cases h with|fz _ _ h=>exact h
def Kf (I:Objs h β Y w) {Z:Nat->Prop} (X:∀b,¬XO Y h β b->¬Z b) {o n d g m:Nat} {y:List (List FV)} (N:flat (h o)=.arr m (y.map fzs)) (K:n=m) (M:d+g<=y.length) (G:∀b,β o=some b->¬Z b)
  {v:Value} (T:ARep w (XO Y h β) β (.osl o n d g) v):FRep w Z (.sl false n<|(y.drop d).take g) v:=by
 have W:∀x v,FRep w (XO Y h β) x v->FRep w Z x v:=λx v F=>F.mono (EI _) λb V _=>⟨rfl,X b V⟩;cases T with
 |oslN=>simpa using FRep.slnil n
 |osl _ _ _ _ b q cap sz t E h2 h3 h4 h5=>
  have H:isLive (h o):=by rw[<-xN,N];trivial
  obtain⟨L,tt,O,g2,U,S⟩:=ue I N E;have C:g=((y.drop d).take g).length:=zd;have r:∀i e,((y.drop d).take g)[i]?=some e->y[d+i]?=some e/\i<g:=by grind
  have p:∀i e,((y.drop d).take g)[i]?=some e->∀j f,e[j]?=some f->∃u,L[(d+i)*n+j]?=some u/\FRep w Z f u:=by intro i e z j f D;obtain⟨u,J,F⟩:=S (d+i) j (fzs e) (cell f) zd (by rw[fzs,EX,D];rfl);rw[K];exact⟨u,J,W _ _<|dP F⟩
  refine .sl false n _ b q cap g (λi j=>L.getD ((d+i)*n+j) undef) C za (G b E) (I.lt o b E) (λi e z=>?_) (λi j e f z D=>?_) λi j e f z D=>?_
  .have:=U (fzs e)<|Sl (by rw[EX,(r i e z).1];rfl:(y.map fzs)[d+i]?=some (fzs e));rw[K];simpa[fzs] using this
  .obtain⟨u,J,_⟩:=p i e z j f D;have hi:=(r i e z).2;simp only[World.cell?,O,Gf,G7,S5,Sj,List.getD];grind
  .grind
def sB (I:Objs h β Y w) {L:Lent} (H:L.ok h) {Z:Nat->Prop} (E:∀b,¬XO Y h β b->¬Z b) (D:∀p∈L,∀b,β p.1=some b->¬Z b)
  {x:AV} {v:Value} (M:ARep w (XO Y h β) β x v):ARep w Z β (x.lend L) v:=by
 have K:∀x v,FRep w (XO Y h β) x v->FRep w Z x v:=λx v F=>F.mono (EI _) λb A _=>⟨rfl,E b A⟩;cases M with
 |fz x v F=>exact .fz x v<|K x v F
 |ep o n i j b A=>exact .ep o n i j b A
 |mp o b A=>exact .mp o b A
 |any v J=>exact .any v J
 |bld t o b v m y u=>exact .bld t o b v m y u
 |osb o e g b cap m y u C=>exact .osb o e g b cap m y u C
 |oslN o n f=>
  simp only[AV.lend];split
  .rename_i p r;split;next z=>have d:=kE r;exact .fz _ _<|Kf I E (H _ d) z.1 z.2 (D _ d)<|.oslN o n f
   .exact .oslN o n f
  .exact .oslN o n f
 |osl o n f g b q cap sz t m y u C G=>
  simp only[AV.lend];split
  .rename_i p r;split;next z=>have d:=kE r;exact .fz _ _<|Kf I E (H _ d) z.1 z.2 (D _ d)<|.osl o n f g b q cap sz t m y u C G
   .exact .osl o n f g b q cap sz t m y u C G
  .exact .osl o n f g b q cap sz t m y u C G
def kH (F:Objs h β Y w) {L} (G:L.ok h) {Z} (y:∀b,¬XO Y h β b->¬Z b) (C:∀p∈L,∀b,β p.1=some b->¬Z b)
  {x} {v} (D:TRep w (XO Y h β) β x v):TRep w Z β (x.lend L) v:=by
 have H:∀x v,FRep w _ x v->FRep w Z x v:=λx v e=>e.mono (EI _) λb m _=>⟨rfl,y b m⟩;have r:∀x v,ARep w _ β x v->ARep w Z β x v:=λx v e=>e.mono (EI _) (λb m _=>⟨rfl,y b m⟩) (λ_ _=>rfl) λo b m=>⟨m,F.lt o b m⟩;have E:∀x v,WRep w (XO Y h β) β x v->WRep w Z β (x.lend L) v:=by
  intro x v e;cases e with
  |a x v e=>exact .a _ v<|sB F G y C e
  |fn f first cap i vs g j=>exact .fn f first cap i vs (g.imp λ_ _ _ h=>h.imp λc u _ h=>r c u h) (j.imp λ_ _ _ h=>h.imp λc u _ h=>r c u h)
 have A:∀x v,WRep w (XO Y h β) β x v->WRep w Z β x v:=by
  intro x v e;cases e with
  |a x v e=>exact .a _ v<|r _ _ e
  |fn f first cap i vs g j=>exact .fn f first cap i vs (g.imp λ_ _ _ h=>h.imp λc u _ h=>r c u h) (j.imp λ_ _ _ h=>h.imp λc u _ h=>r c u h)
 cases x with
 |any=>trivial
 |c x=>exact E x v D
 |agg cs=>let ⟨i,g,j⟩:=D;exact⟨i,g,j.map λc u _ h=>E c u h⟩
 |tup vs=>let ⟨i,g,j⟩:=D;exact⟨i,g,j.imp λc u _ h=>h.imp λd z _ h=>A d z h⟩
def K3 {Z b}:∀ {xs ys} {d},All2 TV.Le xs ys->LRep (TRep w Z b) xs d->LRep (TRep w Z b) ys d
 |[],[],d,_,h=>h
 |x::xs,y::ys,d,e,f=>by obtain⟨u,i,rfl,j,g⟩:=f.cons_inv;exact .cons (TRep.le e.1 j)<|K3 e.2 g
 |[],_::_,_,h,_=>h.elim
 |_::_,[],_,h,_=>h.elim
def YV {σ}:∀ {b} {Hs} {o} {x},b.Nodup->zZ (yr σ b Hs) o=some x->∃(k:Nat) (y:AObj),b[k]?=some o/\Hs[k]?=some y/\x=y.ren σ
 |[],Hs,o,x,_,h=>by simp[yr,zZ] at h
 |i::b,[],o,x,_,h=>by simp[yr,zZ] at h
 |i::b,y::Hs,o,x,d,h=>by
  simp[yr,zZ] at h;split at h
  .rename_i e;injection h with h
   exact⟨0,y,by simp[e],rfl,h.symm⟩
  .let ⟨k,z,f,j,g⟩:=YV (SV.1 d).2 h;exact⟨k+1,z,f,j,g⟩
def jU {σ}:∀ {b} {Hs} {k i:Nat} {y},b.Nodup->b[k]?=some i->Hs[k]?=some y->zZ (yr σ b Hs) i=some (y.ren σ)
 |[],_,k,i,y,_,h,_=>zd
 |_::_,[],k,i,y,_,_,h=>zd
 |j::b,x::Hs,k,i,y,g,d,f=>by
  have g:=SV.1 g;cases k with
  |zero=>simp at d f;subst d;subst f;simp[yr,zZ]
  |succ k=>simp at d f;have m:j≠i:=λe=>g.1 zd;simp[yr,zZ,m,Sj];exact jU g.2 d f
def jc {σ}:∀ {b} {Hs} {o},b.length<=Hs.length->zZ (yr σ b Hs) o=none->o ∉ b
 |[],Hs,o,_,_=>zb
 |i::b,[],o,d,_=>zd
 |i::b,y::Hs,o,d,h=>by
  simp[yr,zZ] at h;split at h
  .cases h
  .rename_i e;intro f;rcases S4.1 f with h1|h1
   .omega
   .exact jc zd h h1
def fW {σ}:∀ {Hs} {fr o} {x},zZ (xI σ fr Hs) o=some x->∃(j:Nat) (y:AObj),o=fr+j/\Hs[j]?=some y/\x=y.ren σ
 |[],fr,o,x,h=>by simp[xI,zZ] at h
 |y::Hs,fr,o,x,h=>by
  simp[xI,zZ] at h;split at h
  .simp_all
  .let ⟨j,z,e,b,d⟩:=fW h;exact⟨j+1,z,za,b,d⟩
def jg {σ}:∀ {Hs} {fr o j},zZ (xI σ fr Hs) o=none->o=fr+j->Hs.length<=j
 |[],fr,o,j,_,_=>zb
 |y::Hs,fr,o,j,h,e=>by
  simp[xI,zZ] at h;split at h
  .cases h
  .cases j with
   |zero=>omega
   |succ j=>have:=jg (j:=j) h za;simp;omega
def kA {α}(a b:List<|Nat×α)(o):zZ (a++b) o=match zZ a o with|some x=>some x|none=>zZ b o:=by
 induction a with
 |nil=>rfl
 |cons p a ih=>
  let ⟨j,x⟩:=p;simp[SE,zZ];grind
def dp {X1 X2 w' x v}(d:x.scalar=true)(h:FRep w X1 x v):FRep w' X2 x v:=by
 cases h with
 |int k n=>exact .int k n
 |bool b=>exact .bool b
 |str l=>exact .str l
 |cst v h=>exact .cst v h
 |N=>exact .N
 |slnil=>simp[FV.scalar] at d
 |sl0=>simp[FV.scalar] at d
 |z0 e a=>exact .z0 e a
 |z0n=>exact .z0n
 |sl=>simp[FV.scalar] at d
 |pt=>simp[FV.scalar] at d
 |mp=>simp[FV.scalar] at d
def cf {X1 X2 p β2 σ x v}(A:x.scalar=true)(g:∀o,p o=none)(h:TRep w X1 p x v):TRep w X2 β2 (x.ren σ) v:=by
 have F:∀c u,WV.scalar c=true->WRep w X1 p c u->WRep w X2 β2 (c.ren σ) u:=by
  intro c u m y;cases y with
  |a x v y=>
   simp[WV.scalar] at m;cases y with
   |fz x v y=>exact .a _ _<|.fz _ _<|dp m y
   |ep o n i j b f=>rw[g] at f;cases f
   |osl o n r G b q cap sz t f=>rw[g] at f;cases f
   |oslN o n r=>exact .a _ _<|.oslN _ n r
   |mp o b f=>rw[g] at f;cases f
   |any v H=>exact .a _ _<|.any _ H
   |bld t o b v f=>rw[g] at f;cases f
   |osb o e G b cap f=>rw[g] at f;cases f
  |fn=>simp[WV.scalar] at m
 cases x with
 |any=>trivial
 |c x=>exact F x v A h
 |agg cs=>simp[TV.scalar,Sc] at A;let ⟨D,C,E⟩:=h;exact⟨D,C,E.map λc u m h=>F c u (A c m) h⟩
 |tup vs=>simp only[TV.scalar,Sc] at A;let ⟨D,C,E⟩:=h;exact⟨D,C,E.map λc u m h=>h.map λd z hd h=>F d z (A c m d hd) h⟩
def jZ:∀ {l:List Nat} {i j x:Nat},l.Nodup->l[i]?=some x->l[j]?=some x->i=j
 |[],i,j,x,_,h,_=>zd
 |y::l,0,0,x,_,_,_=>rfl
 |y::l,0,j+1,x,e,b,d=>zd
 |y::l,i+1,0,x,e,b,d=>zd
 |y::l,i+1,j+1,x,e,b,d=>by simp at b d;rw[jZ (SV.1 e).2 b d]
def qh {x σ}:bareO (x.ren σ)↔bareO x:=by
 cases x with
 |gone=>exact Iff.rfl
 |mapo es=>simp[bareO,flat,AObj.ren]
 |mapz es=>exact Iff.rfl
 |arz n b=>exact Iff.rfl
 |arr n es=>simp[bareO,flat,AObj.ren]
def ZA {F:List Nat}:∀(u:AHeap) (o),zZ (u.filter λp=> !F.contains p.1) o=if F.contains o=true then none else zZ u o
 |[],o=>by simp[zZ]
 |(k,x)::u,o=>by
  have ih:=ZA (F:=F) u o;rw[List.filter_cons];by_cases d:F.contains k=true
  .rw[EG zd,ih];by_cases b:F.contains o=true
   .grind
   .rw[EG b,EG b];have:k≠o:=λe=>b zd;simp[zZ,this]
  .rw[EL zd];simp[zZ,ih];grind
def kept_nil (u:AHeap):(u.filter λp=> !([]).contains p.1)=u:=List.filter_eq_self.2 λ_ _=>rfl
def nk {F:List Nat}{u:AHeap}{h:Nat->AObj}(b:∀i∈F,zZ u i=some (h i)):over (u.filter λp=> !F.contains p.1) h=over u h:=by funext o;unfold over;rw[ZA];grind
def Ev (hO:Objs h β Y w) (hgl:Gl P w<|Own h β) (hY:∀b,Y b->b<w.heap.size) {fr:Nat} (hfr:∀j,j<32->β (fr+j)=none) {f:FuncId} {args:List TV} {vals:List Value} {K:TV->AHeap->List Nat->Prop}
  (hl:LRep (TRep w (XO Y h β) β) args vals) (hK:CallK P f args h fr K):
  xp P f=true/\∃r upd rd,K r upd rd/\Calls P f vals.toArray w λe w'=> ∃v z,e=.returned v/\Moves h (over upd h) β z Y w w' (λo=>fr<=o/\o<fr+32)/\TRep w' (XO Y (over upd h) z) z r v:=by
 obtain⟨d,L,args',Hs,r,Hs',⟨hent,hlen,hac⟩,⟨hnd,hids⟩,hroom,⟨hHs,hHlt⟩,hargs,halt,E,G,F,hF,hKK⟩:=hK;refine⟨hent,r.ren<|sub d fr,_,d++L.map Prod.fst,hKK,?_⟩;rw[nk (u:=yr (sub d fr) d Hs'++xI (sub d fr) fr (Hs'.drop d.length)) λi hi=>by rw[kA,hF i hi]];clear hKK hF F;have hml:Hs.length=d.length:=by have:=SJ List.length hHs;exact zl this
 let O:Nat->Option Nat:=λo=>if o<d.length then β (d.getD o 0) else none
 let hc:Nat->AObj:=λo=>Hs.getD o .gone;let Yc:Nat->Prop:=λb=>XO Y h β b/\¬Own hc O b/\¬∃p∈L,β p.1=some b;have hlt_nd:∀i∈d,∀j,i≠fr+j\/32<=j:=by grind
 have hget:∀k,k<d.length->d[k]?=some (d.getD k 0):=λk I=>by simp[List.getD,EU I]
 have g:∀k,k<d.length->d.getD k 0∈d:=λk I=>Sl<|hget k I;have hHs_get:∀k,k<d.length->(hc k).ren (sub d fr)=h (d.getD k 0)/\(hc k).lt d.length=true:=by intro k I;have e1:=SJ (λl=>l[k]?) hHs;grind
 have hc_live:∀o,isLive (hc o)->o<d.length:=by
  intro o S;by_cases I:o<Hs.length
  .omega
  .have:hc o=.gone:=by simp[hc,List.getD,GM<|Nat.le_of_not_lt I]
   rw[this] at S;exact S.elim
 have ren_live:∀(x:AObj) (σ:Nat->Nat),isLive (x.ren σ)↔isLive x:=by intro x σ;cases x<;>simp[AObj.ren,isLive]
 have M:∀o b,O o=some b->o<d.length/\β (d.getD o 0)=some b:=by grind
 have X:∀b,Own hc O b->Own h β b:=by rintro b ⟨o,ho1,N⟩;obtain⟨k1,k2⟩:=M o b N;exact⟨_,E _<|g o k1,k2⟩
 have hX:∀b,¬XO Y h β b->¬XO Yc hc O b:=by grind
 have hLc:∀p∈L,∀b,β p.1=some b->¬XO Yc hc O b:=by
  intro p hp b m V;rcases V with V|⟨o,ho1,N⟩
  .grind
  .grind
 have hYin:∀b,Y b->Yc b:=by
  intro b m;refine⟨.inl m,λhown=>?_,λ⟨p,hp,hpb⟩=>?_⟩
  .obtain⟨o,ho1,N⟩:=X b hown;exact(hO.here ho1 N).2 m
  .rcases G with H|⟨hok,hni,_⟩
   .grind
   .exact(hO.here (by rw[<-xN,hok p hp];trivial) hpb).2 m
 have hYc_lt:∀b,Yc b->b<w.heap.size:=by
  intro b m;rcases m.1 with h1|⟨o,_,T⟩
  .grind
  .exact hO.lt o b T
 have hF:∀x v,FRep w (XO Y h β) x v->FRep w (XO Yc hc O) x v:=λx v hr=>hr.mono (EI _) λb m _=>⟨rfl,hX b m⟩;have Z:∀o,o<d.length->sub d fr o=d.getD o 0:=λo S=>by simp[sub,S]
 have hβun:∀o b,o<d.length->β (sub d fr o)=some b->O o=some b:=by intro o b S m;rw[Z o S] at m;simp only[O,S,S9,m]
 have hOc:Objs hc O Yc w:=by
  refine⟨λo b S m=>?_,λo S=>?_,λo o' b S ho' m V=>?_,λo b m=>hO.lt _ b (M o b m).2⟩
  .have I:=hc_live o S;obtain⟨e1,e2⟩:=hHs_get o I;have hrep:=hO.rep (d.getD o 0) b (E _<|g o I) (M o b m).2;rw[<-e1] at hrep;exact ORep.unmap (σ:=sub d fr) hF hβun e2 hrep
  .have I:=hc_live o S;rcases hO.has _ (E _<|g o I) with⟨b,h1,T,h3⟩|⟨h1,T⟩
   .refine .inl ⟨b,by simp only[O,I,S9,h1],T,λhy=>?_⟩;exact hy.2.1 ⟨o,S,by simp only[O,I,S9,h1]⟩
   .refine .inr ⟨?_,by simp only[O,I,S9,T]⟩;rw[<-(hHs_get o I).1] at h1;exact qh.1 h1
  .have h1:=M o b m;have T:=M o' b V;have h3:=hO.inj _ _ b (E _<|g o h1.1) (E _<|g o' T.1) h1.2 T.2;have U:=hget o h1.1;have J:=hget o' T.1;rw[h3] at U;exact jZ hnd U J
 have hlc:LRep (TRep w (XO Yc hc O) O) args' vals:=by
  have h1:LRep (TRep w (XO Yc hc O) β) (args.map<|TV.lend L) vals:=by
   rcases G with H|⟨hok,_⟩
   .subst H;exact hl.map λc u _ hr=>kH hO (λp hp=>by cases hp) hX (λp hp=>by cases hp) hr
   .exact hl.map λc u _ hr=>kH hO hok hX hLc hr
  have T:=K3 hargs h1;refine T.unmap λc u hcm hr=>?_;exact TRep.unmap (σ:=sub d fr) (λ_ _ h=>h) hβun (Sc.1 halt c hcm) hr
 have hcall:=hac w vals O Yc (λo b m=>by have:=(M o b m).1;omega) hYc_lt (hgl.sub X) hOc hlc;refine hcall.mono λe w' hpost=>?_;obtain⟨v,W,he,C,hO',hres,hdom,hsame,hnew⟩:=hpost;let hc':Nat->AObj:=λo=>Hs'.getD o .gone;let D:=yr (sub d fr) d Hs'++xI (sub d fr) fr (Hs'.drop d.length);let z:Nat->Option Nat:=λo=>if fr<=o/\o<fr+32 then W (d.length+(o-fr)) else β o
 refine⟨v,z,he,?_⟩;have hβ'old:∀k,k<d.length->z (d.getD k 0)=W k:=by
  intro k I;have h1:¬(fr<=d.getD k 0/\d.getD k 0<fr+32):=by rintro ⟨U,J⟩;rcases hlt_nd _ (g k I) (d.getD k 0-fr) with h|h<;>omega
  simp only[z,h1,Sj];rw[hsame k za];simp only[O,I,S9]
 have hβ'new:∀j,j<32->z (fr+j)=W (d.length+j):=by intro j hj;simp only[z,show fr<=fr+j/\fr+j<fr+32 from⟨za,za⟩,and_self,S9,(za:fr+j-fr=j)]
 have hβmap:∀o b,W o=some b->z (sub d fr o)=some b:=by
  intro o b m;have S:=hdom o b m;by_cases I:o<d.length
  .rw[Z o I,hβ'old o I,m]
  .have:sub d fr o=fr+(o-d.length):=by simp[sub,I]
   rw[this,hβ'new _ za,(za:d.length+(o-d.length)=o),m]
 have hval:∀o,(∃k,k<d.length/\o=d.getD k 0/\over D h o=(hc' k).ren (sub d fr))\/(∃j,o=fr+j/\d.length+j<Hs'.length/\over D h o=(hc'<|d.length+j).ren (sub d fr))\/
   (o ∉ d/\(∀j,o=fr+j->Hs'.length<=d.length+j)/\over D h o=h o):=by
  intro o;simp only[over,D,kA];cases h1:zZ (yr (sub d fr) d Hs') o with
  |some x=>
   obtain⟨k,y,U,J,g3⟩:=YV hnd h1;have I:=(EW.1 U).1;refine .inl ⟨k,I,?_,?_⟩
   .have:=hget k I;rw[U] at this;exact zl this
   .simp only[g3];have:hc' k=y:=by simp[hc',List.getD,J]
    rw[this]
  |none=>
   have hno:=jc (by omega:d.length<=Hs'.length) h1;simp only;cases T:zZ (xI (sub d fr) fr<|Hs'.drop d.length) o with
   |some x=>
    obtain⟨j,y,U,J,g3⟩:=fW T;rw[SS] at J;refine .inr<|.inl ⟨j,U,(EW.1 J).1,?_⟩;simp only[g3];have:hc' (d.length+j)=y:=by simp[hc',List.getD,J]
    rw[this]
   |none=>refine .inr<|.inr ⟨hno,λj ej=>?_,rfl⟩;have:=jg T ej;rw[List.length_drop] at this;omega
 have hclive':∀k,isLive (hc' k)->k<Hs'.length:=by
  intro k I;by_cases h1:k<Hs'.length
  .exact h1
  .have:hc' k=.gone:=by simp[hc',List.getD,GM<|Nat.le_of_not_lt h1]
   rw[this] at I;exact I.elim
 have hwho:∀o,isLive (over D h o)->(∃k,isLive (hc' k)/\o=sub d fr k/\over D h o=(hc' k).ren (sub d fr)/\k<Hs'.length/\z o=W k)\/(o ∉ d/\isLive (h o)/\over D h o=h o/\z o=β o):=by
  intro o S;rcases hval o with⟨k,I,e1,e2⟩|⟨j,e1,hj,e2⟩|⟨hni,hnj,e2⟩
  .rw[e2,ren_live] at S;exact .inl ⟨k,S,by rw[Z k I];exact e1,e2,hclive' k S,by rw[e1,hβ'old k I]⟩
  .rw[e2,ren_live] at S;refine .inl ⟨d.length+j,S,?_,e2,hj,?_⟩
   .have:¬(d.length+j<d.length):=za;simp[sub,this,e1]
   .rw[e1,hβ'new j za]
  .rw[e2] at S;refine .inr ⟨hni,S,e2,?_⟩;by_cases h1:fr<=o/\o<fr+32
   .have T:=hfr (o-fr) za;rw[(za:fr+(o-fr)=o)] at T;simp only[z,h1,and_self,S9,T];cases h3:W (d.length+(o-fr)) with
    |none=>rfl
    |some b=>
     have:=hdom _ b h3;have:=hnj (o-fr) za;omega
   .simp only[z,h1,Sj]
 have hsubinj:∀a b,a<Hs'.length->b<Hs'.length->W a≠none->sub d fr a=sub d fr b->a=b:=by
  intro a b ha m _ hab;by_cases h1:a<d.length
  .by_cases T:b<d.length
   .rw[Z a h1,Z b T] at hab;have U:=hget a h1;have J:=hget b T;rw[hab] at U;exact jZ hnd U J
   .rw[Z a h1] at hab;have:sub d fr b=fr+(b-d.length):=by simp[sub,T]
    rw[this] at hab;rcases hlt_nd _ (g a h1) (b-d.length) with h|h
    .exact absurd hab h
    .omega
  .have ea:sub d fr a=fr+(a-d.length):=by simp[sub,h1]
   by_cases T:b<d.length
   .rw[Z b T,ea] at hab;rcases hlt_nd _ (g b T) (a-d.length) with h|h
    .exact absurd hab.symm h
    .omega
   .have eb:sub d fr b=fr+(b-d.length):=by simp[sub,T]
    rw[ea,eb] at hab;omega
 have hback:∀b,b<w.heap.size->Own (over D h) z b->XO Y h β b:=by
  rintro b m ⟨o,ho1,N⟩;rcases hwho o ho1 with⟨k,U,J,g3,g4,g5⟩|⟨U,J,g3,g4⟩
  .rw[g5] at N;by_cases I:k<d.length
   .rw[hsame k za] at N;obtain⟨_,k2⟩:=M k b N;exact .inr ⟨_,E _<|g k I,k2⟩
   .rcases hnew k b za N with h1|h1
    .omega
    .exact .inr<|X b h1
  .rw[g4] at N;exact .inr ⟨o,J,N⟩
 have hbmono:∀o b,β o=some b->z o=some b:=by
  intro o b m;have h1:¬(fr<=o/\o<fr+32):=by rintro ⟨U,J⟩;have:=hfr (o-fr) za;rw[(za:fr+(o-fr)=o),m] at this;cases this
  simp only[z,h1,Sj,m]
 have hblk:∀b,¬XO Y h β b->b<w.heap.size->w'.heap[b]?=w.heap[b]? :=λb hx m=>C.blk b m λS=>hx<|.inr<|X b S;have hgo:Goes w w' (XO Y h β) (XO Y (over D h) z) β z:=by
  refine⟨C.size,λb hx m=>⟨hblk b hx m,λhx'=>?_⟩,C.shp,λo b m=>⟨hbmono o b m,hO.lt o b m⟩⟩;rcases hx' with hy|hown
  .exact hx<|.inl hy
  .exact hx<|hback b m hown
 have hFback:L=[]->∀x v,FRep w' (XO Yc hc' W) x v->FRep w' (XO Y (over D h) z) x v:=by
  intro H x v hr;refine hr.mono (EI _) λb m _=>⟨rfl,λhx'=>m ?_⟩;rcases hx' with hy|⟨o,ho1,N⟩
  .exact .inl<|hYin b hy
  .rcases hwho o ho1 with⟨k,U,J,g3,g4,g5⟩|⟨U,J,g3,g4⟩
   .rw[g5] at N;exact .inr ⟨k,U,N⟩
   .rw[g4] at N;refine .inl ⟨.inr ⟨o,J,N⟩,?_,?_⟩
    .rintro ⟨k,k1,k2⟩;obtain⟨m1,m2⟩:=M k b k2;have:=hO.inj o _ b J (E _<|g k m1) N m2;exact U (this▸g k m1)
    .rintro ⟨p,hp,_⟩;rw[H] at hp;cases hp
 have hnoHs:L≠[]->Hs'=[]:=λhne=>(G.resolve_left hne).2.2.2;refine⟨⟨⟨C.size,λb m hno=>C.blk b m λS=>hno<|X b S,C.shp,C.os,C.tape,C.output⟩,?_,hbmono,λo b m=>?_,λo S=>?_⟩,?_⟩
 .refine⟨λo b S m=>?_,λo S=>?_,λo o' b S ho' m V=>?_,λo b m=>?_⟩
  .rcases hwho o S with⟨k,U,J,g3,g4,g5⟩|⟨U,J,g3,g4⟩
   .have H:L=[]:=by
     rcases G with h|h
     .exact h
     .rw[h.2.2.2] at g4;simp at g4
    rw[g5] at m;show ORep w' (XO Y (over D h) z) z (over D h o) b;rw[g3];exact ORep.map (hFback H) hβmap<|hO'.rep k b U m
   .rw[g4] at m;show ORep w' (XO Y (over D h) z) z (over D h o) b;rw[g3];refine(hO.rep o b J m).goes hgo<|C.blk b (hO.lt o b m) ?_;rintro ⟨k,k1,k2⟩;obtain⟨m1,m2⟩:=M k b k2;have:=hO.inj o _ b J (E _<|g k m1) m m2;exact U (this▸g k m1)
  .rcases hwho o S with⟨k,U,J,g3,g4,g5⟩|⟨U,J,g3,g4⟩
   .rcases hO'.has k U with⟨b,h1,T,h3⟩|⟨h1,T⟩
    .exact .inl ⟨b,by rw[g5];exact h1,T,λhy=>h3<|hYin b hy⟩
    .exact .inr ⟨by show bareO (over D h o);rw[g3];exact qh.2 h1,by rw[g5];exact T⟩
   .rcases hO.has o J with⟨b,h1,T,h3⟩|⟨h1,T⟩
    .exact .inl ⟨b,by rw[g4];exact h1,SM T C.size,h3⟩
    .exact .inr ⟨by show bareO (over D h o);rw[g3];exact h1,by rw[g4];exact T⟩
  .rcases hwho o S with⟨k,U,J,g3,g4,g5⟩|⟨U,J,g3,g4⟩
   .rcases hwho o' ho' with⟨k',g1',g2',g3',g4',g5'⟩|⟨g1',g2',g3',g4'⟩
    .rw[g5] at m;rw[g5'] at V;rw[J,g2',hO'.inj k k' b U g1' m V]
    .exfalso;rw[g5] at m;rw[g4'] at V;have H:L=[]:=by
      rcases G with h|h
      .exact h
      .rw[h.2.2.2] at g4;simp at g4
     have h3:=(hO'.here U m).2;apply h3;refine⟨.inr ⟨o',g2',V⟩,?_,?_⟩
     .rintro ⟨k2,k1',k2'⟩;obtain⟨m1,m2⟩:=M k2 b k2';have:=hO.inj o' _ b g2' (E _<|g k2 m1) V m2;exact g1' (this▸g k2 m1)
     .rintro ⟨p,hp,_⟩;rw[H] at hp;cases hp
   .rcases hwho o' ho' with⟨k',g1',g2',g3',g4',g5'⟩|⟨g1',g2',g3',g4'⟩
    .exfalso;rw[g5'] at V;rw[g4] at m;have H:L=[]:=by
      rcases G with h|h
      .exact h
      .rw[h.2.2.2] at g4';simp at g4'
     have h3:=(hO'.here g1' V).2;apply h3;refine⟨.inr ⟨o,J,m⟩,?_,?_⟩
     .rintro ⟨k2,k1',k2'⟩;obtain⟨m1,m2⟩:=M k2 b k2';have:=hO.inj o _ b J (E _<|g k2 m1) m m2;exact U (this▸g k2 m1)
     .rintro ⟨p,hp,_⟩;rw[H] at hp;cases hp
    .rw[g4] at m;rw[g4'] at V;exact hO.inj o o' b J g2' m V
  .simp only[z] at m;split at m
   .exact hO'.lt _ b m
   .exact SM (hO.lt o b m) C.size
 .simp only[z] at m;split at m
  .rename_i hin;rcases hnew _ b za m with h1|h1
   .exact .inr ⟨hin,.inl h1⟩
   .exact .inr ⟨hin,.inr<|X b h1⟩
  .exact .inl m
 .rcases hwho o S with⟨k,U,J,g3,g4,g5⟩|⟨U,J,g3,g4⟩
  .by_cases I:k<d.length
   .rw[J,Z k I];exact .inl<|E _<|g k I
   .have:sub d fr k=fr+(k-d.length):=by simp[sub,I]
    rw[J,this];exact .inr ⟨za,za⟩
  .exact .inl J
 .rcases G with H|⟨_,_,hsc,hHs'⟩
  .exact TRep.map (hFback H) hβmap hres
  .refine cf hsc (λo=>?_) hres;cases m:W o with
   |none=>rfl
   |some b=>have:=hdom o b m;rw[hHs'] at this;simp at this
end
section
variable {P:Program} {h:Nat->AObj} {β:Nat->Option Nat} {Y:Nat->Prop} {w:World}
def vo (x):flat (flat x)=flat x:=by cases x<;>rfl
def d9 {X x y b}(d:flat x=flat y):ORep w X β x b↔ORep w X β y b:=by unfold ORep;rw[d]
def wF {x y}(b:flat x=flat y):isLive x↔isLive y:=by rw[<-xN x,b,xN]
def Y1 {h'}(f:∀o,flat (h' o)=flat (h o)):Own h' β=Own h β:=by
 funext b;apply propext;constructor
 .rintro ⟨o,d,e⟩;exact⟨o,(wF<|f o).1 d,e⟩
 .rintro ⟨o,d,e⟩;exact⟨o,(wF<|f o).2 d,e⟩
def Yv {h'}(b:∀o,flat (h' o)=flat (h o)):XO Y h' β=XO Y h β:=by unfold XO;rw[Y1 b]
def qt {h'}(d:∀o,flat (h' o)=flat (h o))(f:Objs h β Y w):Objs h' β Y w:=by refine⟨λo b e i=>?_,λo e=>(f.has o<|(wF<|d o).1 e).imp id λ⟨⟨n,m⟩,j⟩=>⟨⟨n,zd⟩,j⟩,λo o' b e g=>f.inj o o' b ((wF<|d o).1 e)<|(wF<|d o').1 g,f.lt⟩;have:=f.rep o b ((wF<|d o).1 e) i;rw[Y1 d];exact(d9<|d o).2 this
def Wb {g e h' f w' fr}(d:∀o,flat (g o)=flat (h o))(i:∀o,flat (e o)=flat (h' o))(m:Moves g e β f Y w w' fr):Moves h h' β f Y w w' fr:=by
 refine⟨?_,qt (λo=>(i o).symm) m.objs,m.bmono,?_,λo j=>(m.lmono o<|(wF<|i o).2 j).imp (λx=>(wF<|d o).1 x) id⟩
 .have:=m.good;rw[Y1 d] at this;exact this
 .intro o b p;have:=m.bnew o b p;rwa [Y1 d] at this
def vy {fr:Nat}{r r0:AR}{s:Sem Next}(j:r.val=r0.val)(d:∀o,flat (over r.upd h o)=flat (over r0.upd (λo=>flat<|h o) o))(hd:Does P (λo=>flat<|h o) β Y w fr r0 s):Does P h β Y w fr r s:=by obtain⟨n,v,w',b,e,f,g,i⟩:=hd;refine⟨n,v,w',b,e,f,Wb (λo=>vo _) (λo=>(d o).symm) g,?_⟩;rw[j,Yv d];exact i
def W8:∀ {es} {b},sW es=some b->es=b.map fzs
 |[],b,h=>by simp[sW,EO] at h;subst h;rfl
 |e::r,b,h=>by
  simp[sW] at h;split at h
  .rename_i x l d f;injection h with h;subst h
   rw[kg d,W8 f];rfl
  .cases h
def yB (u o):flat (over u (λo=>flat<|h o) o)=flat (over u h o):=by
 unfold over;split
 .rfl
 .exact vo _
def yE {k x y u b}(e:flat x=flat y)(o)(d:flat (over u h o)=flat (over b (λo=>flat<|h o) o)):flat (over ((k,x)::u) h o)=flat (over ((k,y)::b) (λo=>flat<|h o) o):=by simp[over,zZ] at d ⊢;grind
def bu {d x y r}(b:uL d h x y=some r):∃r0,uh d (λo=>flat<|h o) x y=some r0/\r.val=r0.val/\∀o,flat (over r.upd h o)=flat (over r0.upd (λo=>flat<|h o) o):=by
 unfold uL at b;split at b
 .rename_i cs o n i j p;split at b
  .rename_i m v I;split at b
   .rename_i f g;split at b
    .rename_i G;let ⟨E,w⟩:=G;subst E;split at b
     .rename_i e D;split at b<;>simp[EO,reduceCtorEq] at b;subst b;have H:=kg g;have C:(fzs f).length=f.length:=by simp[fzs]
      have A:(fzs e).length=e.length:=by simp[fzs]
      refine⟨⟨.any,[(o,.arr m<|(v.map fzs).set i<|splice (fzs e) j<|fzs f)],[o]⟩,?_,rfl,λk=>yE ?_ k (yB [] k).symm⟩
      .unfold uh;simp[p,I,flat,C,w,and_self,S9,EX,D,S2,A];grind
      .simp[flat,GZ];simp[uq,splice,fzs]
     .cases b
    .cases b
   .cases b
  .rename_i u;have z:uh d (λo=>flat<|h o) (.c<|.a<|.ep o n i j) y=uh d h (.c<|.a<|.ep o n i j) y:=by
    unfold uh;rw[p];dsimp only;cases F:h o with
    |arz m v=>exact absurd F<|u m v
    |_=>rfl
   refine⟨r,?_,rfl,λk=>(yB r.upd k).symm⟩;grind
 .cases b
def bA {n x d rd}(b:ki n h x=some (d,rd)):w7 n (λo=>flat<|h o) x=some (d.map fzs,rd):=by
 unfold ki at b;split at b
 .simp[EO,Sr] at b;obtain⟨rfl,rfl⟩:=b;rfl
 .split at b;next f=>obtain⟨rfl,rfl⟩:=b;simp[w7,f]
  .cases b
 .simp[EO,Sr] at b;obtain⟨rfl,rfl⟩:=b;rfl
 .split at b
  .rename_i i es e;split at b;next g=>obtain⟨rfl,rfl⟩:=b;simp[w7,e,flat,g,Gu,List.map_drop]
   .cases b
  .cases b
 .cases b
def fP {d fr s x r}(b:wk d fr h s x=some r):∃r0,xf d fr (λo=>flat<|h o) s x=some r0/\r.val=r0.val/\∀o,flat (over r.upd h o)=flat (over r0.upd (λo=>flat<|h o) o):=by
 unfold wk at b;split at b
 .rename_i e rd p;have f:=bA p;split at b
  .split at b
   .rename_i j;injection b with b;subst b;subst j
    refine⟨⟨.c _,[],rd⟩,by unfold xf;rw[f];simp,rfl,λo=>(yB [] o).symm⟩
   .rename_i j;split at b
    .rename_i g;injection b with b;subst b
     refine⟨⟨.c _,[(fr,.arr d.size _)],rd⟩,?_,rfl,λo=>yE (by rfl) o (yB [] o).symm⟩;unfold xf;simp_all
    .cases b
  .split at b
   .rename_i j;injection b with b;subst b;subst j
    refine⟨⟨_,[],rd⟩,by unfold xf;rw[f];simp,rfl,λo=>(yB [] o).symm⟩
   .rename_i j;split at b
    .rename_i g;injection b with b;subst b
     refine⟨⟨.c _,[(fr,.arr d.size _)],rd⟩,?_,rfl,λo=>yE (by rfl) o (yB [] o).symm⟩;unfold xf;simp_all
    .cases b
  .rename_i o n v i;split at b
   .rename_i m w u;split at b
    .rename_i y;injection b with b;subst b
     refine⟨⟨.c _,[(o,.gone),(fr,.arr d.size<|(w.map fzs).take i++e.map fzs)],o::rd⟩,?_,rfl,λk=>yE (by rfl) k<|yE ?_ k (yB [] k).symm⟩
     .unfold xf;rw[f];simp[u,flat,Sn];grind
     .simp[flat,Gu]
    .cases b
   .exact⟨r,b,rfl,λk=>(yB r.upd k).symm⟩
  .cases b
 .exact⟨r,b,rfl,λk=>(yB r.upd k).symm⟩
def vj (b:Objs h β Y w):∀(G),(∀p∈G,p.2=.gone)->Moves h (over G h) β β Y w w (λ_=>False)
 |[],_=>Moves.refl b λ_=>rfl
 |(o,x)::G,e=>by
  have j:=e (o,x) zb;have d:=vj b G λp g=>e p<|EP _ g;have m:=d.trans (qY d.objs o) (λ_ h=>h.elim) b (f:=λ_=>False) (λ_ h=>h.elim) λ_ h=>h.elim;have:over ((o,.gone)::G) h=upd (over G h) o .gone:=by funext k;simp[over,zZ,upd];grind
  grind
def gH:∀ {G} {o},(∀p∈G,p.2=.gone)->(o,AObj.gone)∈G->over G h o=.gone:=by
 intro G o e d;simp[over];cases b:zZ G o with
 |some x=>exact e _<|kE b
 |none=>
  exfalso
  induction G with
  |nil=>cases d
  |cons p G ih=>
   let ⟨k,y⟩:=p;simp[zZ] at b;grind
def WF (x):∀p∈(qB h x).2,p.2=AObj.gone:=by intro p b;unfold qB at b;grind
def X7:∀(l),∀p∈(vv h l).2,p.2=AObj.gone
 |[],p,hp=>by cases hp
 |x::r,p,hp=>by
  simp[vv,Sb] at hp;rcases hp with hp|hp
  .exact WF x p hp
  .exact X7 r p hp
def lK (x):∀p∈(ZW h x).2,p.2=AObj.gone:=by
 intro p b;cases x with
 |c x=>exact WF x p b
 |agg cs=>exact X7 cs p b
 |any=>cases b
 |tup _=>cases b
def Zf:∀(l),∀p∈(vq h l).2,p.2=AObj.gone
 |[],p,hp=>by cases hp
 |(i,x)::r,p,hp=>by
  simp[vq,Sb] at hp;rcases hp with hp|hp
  .exact lK x p hp
  .exact Zf r p hp
def nB (C:Objs h β Y w){G:AHeap}(O:∀p∈G,p.2=AObj.gone){x:TV}(i:∀p∈(ZW h x).2,p∈G){v:Value}(I:TRep w (XO Y h β) β x v):TRep w (XO Y (over G h) β) β (ZW h x).1 v:=by
 have m:=vj C G O;have d:=m.goes C λ_ h=>h.elim;have U:∀b,¬XO Y h β b->¬XO Y (over G h) β b:=by
  intro b F g;rcases g with g|⟨o,e,r⟩
  .grind
  .rcases m.lmono o e with h3|h3
   .exact F<|.inr ⟨o,h3,r⟩
   .exact h3
 have N:∀c u,(∀p∈(qB h c).2,p∈G)->WRep w (XO Y h β) β c u->WRep w (XO Y (over G h) β) β (qB h c).1 u:=by
  intro c u j z;unfold qB at j ⊢;split
  .rename_i o n M K;split
   .rename_i S V E;simp only[E] at j;by_cases D:n=S/\M+K<=V.length
    .rw[EL D] at j ⊢;cases z with
     |a _ _ z=>
      refine .a _ _<|.fz _ _<|Kf C U (by rw[E];rfl) D.1 D.2 (λb F g=>?_) z;rcases g with T|⟨o',e,r⟩
      .exact(C.here (by rw[E];trivial) F).2 T
      .have A:=(m.lmono o' e).resolve_right id;have:o'=o:=C.inj o' o b A (by rw[E];trivial) r F;subst this;rw[gH O<|j (o',.gone) zb] at e;exact e
    .rw[EG D];exact z.goes d
   .exact z.goes d
  .exact z.goes d
 have L:∀(l:List WV) (y:List Value),(∀p∈(vv h l).2,p∈G)->LRep (WRep w (XO Y h β) β) l y->LRep (WRep w (XO Y (over G h) β) β) (vv h l).1 y:=by
  intro l
  induction l with
  |nil=>intro y _ A;rw[A.nil_inv];exact .nil
  |cons c l ih=>intro y j A;obtain⟨u,J,rfl,e,r⟩:=A.cons_inv;exact .cons (N c u (λp H=>j p<|by simp[vv,H]) e)<|ih J (λp H=>j p<|by simp[vv,H]) r
 cases x with
 |any=>trivial
 |c x=>exact N x v i I
 |agg cs=>obtain⟨y,e,r⟩:=I;exact⟨y,e,L cs y i r⟩
 |tup vs=>exact TRep.goes (f:=.tup vs) I d
def Yn (g:Objs h β Y w){G}(e:∀p∈G,p.2=AObj.gone):∀(l) (vals:List<|Nat×Value),(∀p∈(vq h l).2,p∈G)->(∀(j:Nat) p v,l[j]?=some p->vals[j]?=some v->p.1=v.1/\TRep w (XO Y h β) β p.2 v.2)->(vq h l).1.length=l.length/\∀(j:Nat) (p) (v),(vq h l).1[j]?=some p->vals[j]?=some v->p.1=v.1/\TRep w (XO Y (over G h) β) β p.2 v.2
 |[],vals,_,_=>⟨rfl,λj p v b _=>by simp[vq] at b⟩
 |(i,x)::l,vals,d,m=>by
  let ⟨o,y⟩:=Yn g e l (vals.drop 1) (λp b=>d p<|by simp[vq,b]) (λj p v b f=>m (j+1) p v zd zd);refine⟨by simp[vq,o],λj p v b f=>?_⟩;cases j with
  |zero=>simp[vq,SI,EO] at b;subst b;let ⟨r,u⟩:=m 0 _ v rfl f;exact⟨r,nB g e (λp b=>d p<|by simp[vq,b]) u⟩
  |succ j=>simp[vq,G9] at b;grind
def Wz {fr:Nat}{G:AHeap}{r:AR}{s:Sem Next}{rd:List Nat}(d:Objs h β Y w)(y:∀p∈G,p.2=AObj.gone)(hd:Does P (over G h) β Y w fr r s)(u:AHeap)(e:∀o,flat (over u h o)=flat (over r.upd (over G h) o)):Does P h β Y w fr ⟨r.val,u,rd⟩ s:=by obtain⟨n,v,w',b,g,i,j,x⟩:=hd;have m:=(vj d G y).trans j (λ_ h=>h.elim) d (f:=λk=>k=fr) (λ_ h=>h.elim) λ_ h=>h;refine⟨n,v,w',b,g,i,Wb (λ_=>rfl) (λo=>(e o).symm) m,?_⟩;rw[Yv e];exact x
def qy (r):∀o,flat (over (yV r).upd h o)=flat (over r.upd h o):=by
 intro o;unfold yV;split
 .rename_i k n es d;split
  .rename_i f b;rw[d,W8 b];simp[over,zZ];by_cases e:k=o
   .simp[e,S9];rfl
   .grind
  .rfl
 .rfl
def qz (r):(yV r).val=r.val:=by unfold yV;grind
def Xc {h x o es}(b:vE h x=some (o,es)):j7 (λo=>flat<|h o) x=some (o,es.map thaw):=by
 unfold vE at b;split at b
 .split at b<;>simp[EO,reduceCtorEq,Sr] at b;rename_i e d;obtain⟨rfl,rfl⟩:=b;simp[j7,d,flat]
 .cases b
def m8 {h x d}(b:Zj h x=some d):mapL (λo=>flat<|h o) x=some (d.1,d.2.map thaw):=by
 unfold Zj at b;split at b
 .injection b with b;subst b;rfl
 .rename_i f;obtain⟨p,e,rfl⟩:=EM.1 b;unfold mapL;split
  .grind
  .rw[Xc (o:=p.1) (es:=p.2) e];rfl
def fw {m h x key ok r}(d:wo m h x key ok=some r):vz m (λo=>flat<|h o) x key ok=some r:=by
 unfold wo at d;split at d
 .rename_i z g;let ⟨o,es⟩:=z;unfold vz;split at d
  .rename_i k A;simp[(m8 g)];unfold ua at d;split at d
   .rename_i l b;obtain⟨v,p,rfl⟩:=EM.1 d;split at b<;>simp[EO,reduceCtorEq] at b;rename_i i j;split at b
    .rename_i e w;split at b<;>simp[EO,reduceCtorEq] at b;rename_i u;subst b;have f:(es.map thaw)[i]?=some (thaw e):=by rw[EX,w];rfl
     simp only[j,sM,f];have:(thaw e).2=(m.2.1,fzs e.2.2):=by rw[<-u];rfl
     grind
    .cases b
   .rename_i b;obtain⟨v,p,rfl⟩:=EM.1 d;split at b
    .grind
    next j=>simp[j,sM,p,S2]
    .cases b
   .cases d
  .cases d
 .exact d
def YY {m h x key y r}(e:yN m h x key y=some r):
  ∃r0,yy m (λo=>flat<|h o) x key y=some r0/\r.val=r0.val/\∀k,flat (over r.upd h k)=flat (over r0.upd (λo=>flat<|h o) k):=by
 unfold yN at e;split at e
 .rename_i C p;let ⟨o,es⟩:=C;split at e
  .rename_i k b A u;split at e
   .rename_i fr v;obtain⟨f,d,rfl⟩:=EM.1 e;unfold updZ at d;have z:(b.1,fzs fr)=b:=by rw[<-kg v]
    have w:∀q,xW m.1 k (es.map thaw) 0=some q->f.map thaw=updE m k b (es.map thaw) q->∃r0,yy m (λo=>flat<|h o) x key y=some r0/\(TV.any)=r0.val/\∀k,flat (over [(o,.mapz f)] h k)=flat (over r0.upd (λo=>flat<|h o) k):=by
     intro q g E;refine⟨⟨.any,[(o,.mapo<|updE m k b (es.map thaw) q)],[o]⟩,?_,rfl,λj=>?_⟩
     .simp[yy,A,u,(Xc p),g]
     .simp[xd,upd];split
      .show AObj.mapo _=_;rw[E];rfl
      .exact(vo _).symm
    split at d<;>simp[EO,reduceCtorEq] at d;next i g=>subst d;exact w _ g (by rw[GZ,show thaw _=((m.1.1,k),b) by show((m.1.1,k),(b.1,fzs fr))=_;rw[z]];rfl)
    next g=>subst d;exact w _ g (by rw[SN,SA,show thaw _=((m.1.1,k),b) by show((m.1.1,k),(b.1,fzs fr))=_;rw[z]];rfl)
   .cases e
  .cases e
 .exact⟨r,e,rfl,λk=>(yB r.upd k).symm⟩
def jy (a b o):over (a++b) h o=over a (over b h) o:=by simp[over,kA];grind
def og (I:Objs h β Y w)(H:∀b,Y b->b<w.heap.size){fr:Nat}(z:β fr=none){o:Oper}{ρ:Operand->TV}{ev:Operand->Value}{r:AR}(M:∀x,TRep w (XO Y h β) β (ρ x)<|ev x)(j:aopF P o fr ρ h=some r):
  Does P h β Y w fr r (execOp ev o):=by
 have A:Objs (λo=>flat<|h o) β Y w:=qt (λo=>vo _) I;have hXf:XO Y (λo=>flat<|h o) β=XO Y h β:=Yv λo=>vo _;have f:∀x,TRep w (XO Y (λo=>flat<|h o) β) β (ρ x) (ev x):=λx=>zd
 have T:∀ {r:AR},aop P o fr ρ (λo=>flat<|h o)=some r->Does P h β Y w fr r (execOp ev o):=λ{r} j=>
  vy rfl (λk=>(yB r.upd k).symm) (uu A H z f j)
 obtain⟨d,op,t,p,K,g⟩:=o;unfold aopF at j;dsimp only at j;split at j;next W x y=>obtain⟨S,hd,hs⟩:=zO j;obtain⟨r0,V,O,N⟩:=bu hs;have:=uu (P:=P) (o:=⟨d,.store W x y,t,p,K,g⟩) A H z f (r:=r0) (by simp only[aop,yl,hd];exact V);exact vy O N this
 .rename_i b args ts;unfold xx at j;split at j
  .rename_i t1 t2 s x L F;split at j
   .rename_i htt;obtain⟨S,e,G,hd,J,D,E⟩:=y9 j;unfold Y3 at E;split at E
    .rename_i hc;obtain⟨r0,V,O,N⟩:=fP E;have h0:aop P ⟨d,.call ⟨.builtin .append,args,ts⟩,t,p,K,g⟩ fr ρ (λo=>flat<|h o)=some r0:=by simp only[aop,F,L,xQ];unfold yf;rw[hd];dsimp only;rw[J];dsimp only;rw[D];unfold jB;grind
     exact vy O N<|uu A H z f h0
    .cases E
   .rename_i htt;obtain⟨S,e,G,hd,J,D,E⟩:=y9 j;obtain⟨r0,hr0,rfl⟩:=EM.1 E;have h0:aop P ⟨d,.call ⟨.builtin .append,args,ts⟩,t,p,K,g⟩ fr ρ (λo=>flat<|h o)=some r0:=by simp only[aop,F,L,xQ];unfold yf;grind
    have e1:(yV r0).val=r0.val:=qz r0;refine vy (r0:=r0) e1 (λk=>?_)<|uu A H z f h0;rw[qy];exact(yB r0.upd k).symm
  .exact T j
 .rename_i W len parts;obtain⟨X,hr1,rfl⟩:=EM.1 j;obtain⟨S,e,G,hd,J,D,U⟩:=y9 hr1;have C:=Zf (h:=h)<|parts.toList.map λp=>(p.1,ρ p.2);have u:=Yn I C (parts.toList.map λp=>(p.1,ρ p.2)) ((parts.map λ(i,x)=>(i,ev x)).toList) (λ_ h=>h)<|jY (w:=w) (β:=β) M parts;have m:=vj I _ C;have hd':=uM m.objs H z (parts:=(vq h<|parts.toList.map λp=>(p.1,ρ p.2)).1) (vals:=parts.map λ(i,x)=>(i,ev x)) zd u.2 hd J D U;refine Wz (r:=⟨(yV X).val,X.upd,X.rd⟩) I C ?_ _ λo=>?_
  .rw[qz];exact hd'
  .rw[jy];exact qy X o
 .rename_i bt parts;obtain⟨v,hv,rfl⟩:=EM.1 j;obtain⟨S,hd,U⟩:=zO hv;have C:=Zf (h:=h)<|parts.toList.map λp=>(p.1,ρ p.2);have u:=Yn I C (parts.toList.map λp=>(p.1,ρ p.2)) ((parts.map λ(i,x)=>(i,ev x)).toList) (λ_ h=>h)<|jY (w:=w) (β:=β) M parts;have m:=vj I _ C;refine Wz (r:=⟨v,[],[]⟩) I C (xX m.objs ?_) _ (λo=>by simp[over_nil]);exact Wu hd zd u.2 U
 .rename_i W l c;obtain⟨S,e,G,hd,J,D,U⟩:=y9 j;obtain⟨q,hq,rfl⟩:=EM.1 U;have:=uu (P:=P) (o:=⟨d,.makeSlice W l c,t,p,K,g⟩) A H z f (r:=⟨.c<|.a<|.osl fr G.size 0 q.1,[(fr,.arr G.size<|List.replicate q.1<|fzs q.2)],[]⟩) (by simp only[aop];unfold yf;rw[hd];dsimp only;rw[J];dsimp only;rw[D];dsimp only;rw[hq];rfl);refine vy (r0:=⟨.c<|.a<|.osl fr G.size 0 q.1,[(fr,.arr G.size<|List.replicate q.1<|fzs q.2)],[]⟩) rfl (λk=>yE ?_ k (yB [] k).symm) this;show AObj.arr G.size ((List.replicate q.1 q.2).map fzs)=AObj.arr G.size (List.replicate q.1<|fzs q.2);simp_all
 next lt x ix ok=>obtain⟨m,hm,Z⟩:=yn j;exact T (by simp only[aop,xg,hm];exact fw Z)
 next mt x k v=>obtain⟨m,hm,Z⟩:=yn j;obtain⟨r0,V,O,N⟩:=YY Z;have:=uu (P:=P) (o:=⟨d,.mapUpdate mt x k v,t,p,K,g⟩) A H z f (r:=r0) (by simp only[aop,xg,hm];exact V);exact vy O N this
 .rename_i mt;injection j with j;subst j
  have:=uu (P:=P) (o:=⟨d,.makeMap mt none,t,p,K,g⟩) A H z f (r:=⟨.c<|.a<|.mp fr,[(fr,.mapo [])],[]⟩) rfl;exact vy (r0:=⟨.c<|.a<|.mp fr,[(fr,.mapo [])],[]⟩) rfl (λk=>yE (x:=.mapz []) (y:=.mapo []) rfl k (yB [] k).symm) this
 .grind
def lS (D:Objs h β Y w) (H:Gl P w<|Own h β) (U:∀b,Y b->b<w.heap.size) {fr:Nat} (L:∀j,j<32->β (fr+j)=none) {f:FuncId} {args:List TV} {vals:List Value} {K:TV->AHeap->List Nat->Prop}
  (G:LRep (TRep w (XO Y h β) β) args vals) (S:CallE P f args h fr K):
  xp P f=true/\∃r upd rd,K r upd rd/\Calls P f vals.toArray w λe w'=> ∃v d,e=.returned v/\Moves h (over upd h) β d Y w w' (λo=>fr<=o/\o<fr+32)/\TRep w' (XO Y (over upd h) d) d r v:=by
 obtain⟨E,N,Z⟩:=S;have O:∀p∈E.map λp=>(p.1,AObj.gone),p.2=AObj.gone:=by grind
 have m:=vj D _ O;have X:∀b,¬XO Y h β b->¬XO Y (over (E.map λp=>(p.1,AObj.gone)) h) β b:=by
  intro b F i;rcases i with i|⟨o,g,y⟩
  .grind
  .rcases m.lmono o g with h3|h3
   .exact F<|.inr ⟨o,h3,y⟩
   .exact h3
 have I:∀p∈E,∀b,β p.1=some b->¬XO Y (over (E.map λp=>(p.1,AObj.gone)) h) β b:=by
  intro p M b F i;have C:isLive (h p.1):=by rw[<-xN,N p M];trivial
  rcases i with V|⟨o',g,y⟩
  .exact(D.here C F).2 V
  .have G:=(m.lmono o' g).resolve_right id;have:o'=p.1:=D.inj o' p.1 b G C y F;subst this;rw[gH O<|SG.2 ⟨p,M,rfl⟩] at g;exact g
 have J:LRep (TRep w (XO Y (over (E.map λp=>(p.1,AObj.gone)) h) β) β) (args.map<|TV.lend E) vals:=G.map λc u _ W=>kH D N X I W;obtain⟨z,r,u,rd,T,x⟩:=Ev m.objs (H.sub λb ⟨o,g,y⟩=>⟨o,(m.lmono o g).resolve_right id,y⟩) U L J Z;refine⟨z,r,_,_,T,x.mono λe w' ⟨v,d,g,y,h3⟩=>⟨v,d,g,?_,?_⟩⟩
 .have m2:=m.trans y (λ_ h=>h.elim) D (f:=λo=>fr<=o/\o<fr+32) (λ_ h=>h.elim) λ_ h=>h;have:over (u++E.map λp=>(p.1,AObj.gone)) h=over u (over (E.map λp=>(p.1,AObj.gone)) h):=funext λo=>jy _ _ o;grind
 .have:over (u++E.map λp=>(p.1,AObj.gone)) h=over u (over (E.map λp=>(p.1,AObj.gone)) h):=funext λo=>jy _ _ o;grind
end
def WSoft (x y:WV):=x=y\/x=.a (.fz .N)/\∃o n off,y=.a (.osl o n off 0)
def ESoft (a b:List WV):=a.length=b.length/\∀(j:Nat) (x y),a[j]?=some x->b[j]?=some y->WSoft x y
def WSoft.rep {w X β x y v}(h:WSoft x y)(d:WRep w X β x v):WRep w X β y v:=by
 rcases h with rfl|⟨rfl,o,n,b,rfl⟩
 .exact d
 .rw[TRep.nils_inv (X:=X) (β:=β) d];exact .a _ _<|.oslN o n b
def ESoft.refl (a):ESoft a a:=⟨rfl,λj x y d b=>by rw[d] at b;injection b with b;exact .inl b⟩
def ESoft.trans {a b c}(h:ESoft a b)(k:ESoft b c):ESoft a c:=by
 refine⟨h.1.trans k.1,λj x z m i=>?_⟩;have r:j<b.length:=h.1▸(EW.1 m).1;have g:=EU r;rcases h.2 j x _ m g with e|⟨e,o,n,f,p⟩
 .rw[e];exact k.2 j _ z g i
 .rcases k.2 j _ z g i with d|⟨d,_⟩
  .exact .inr ⟨e,o,n,f,zd⟩
  .grind
def ESoft.set {cs j o n}(h:cs.getD j (cell<|.bool true)=.a (.fz .N)):ESoft cs (cs.set j<|.a<|.osl o n 0 0):=by
 refine⟨zb,λi x y d b=>?_⟩;rw[Gm] at b;split at b
 .rename_i e;subst e;split at b
  .injection b with b
   simp[List.getD,d,Sq] at h;exact .inr ⟨h,o,n,0,b.symm⟩
  .cases b
 .rw[d] at b;injection b with b;exact .inl b
def kK:∀(l) (fr) (cs),ESoft cs (XB l fr cs)
 |[],fr,cs=>.refl cs
 |(j,n)::l,fr,cs=>by
  unfold XB;split;next h=>exact(ESoft.set h).trans<|kK l _ _
  .exact kK l _ _
def XH:∀ {l} {fr} {p},p∈dn l fr->bareO p.2/\fr<=p.1/\p.1<fr+l.length
 |(j,n)::l,fr,p,h=>by
  rcases S4.1 h with rfl|h
  .exact⟨⟨n,rfl⟩,EI _,zb⟩
  .have:=XH h;grind
 |[],_,_,h=>by cases h
section
variable {P:Program} {h h':Nat->AObj} {β:Nat->Option Nat} {Y:Nat->Prop} {w:World}
def ObjSoft (a b:AObj):Prop:=a=b\/∃n es es',a=.arr n es/\b=.arr n es'/\es.length=es'.length/\∀(i:Nat) (e e':List WV),es[i]?=some e->es'[i]?=some e'->ESoft e e'
def ObjSoft.rep {X a b k}(G:ObjSoft a b)(o:ORep w X β a k):ORep w X β b k:=by
 rcases G with rfl|⟨n,es,r,rfl,rfl,E,F⟩
 .exact o
 .let ⟨z,t,y,A,H,C⟩:=o;have f:∀ {i:Nat} {g:List WV},r[i]?=some g->∃e,es[i]?=some e/\ESoft e g:=by grind
  refine⟨z,t,y,E▸A,λg d=>?_,λi j g I d h=>?_⟩
  .let ⟨i,p⟩:=G4 d;let ⟨e,v,m⟩:=f p;rw[<-m.1];exact H e<|Sl v
  .let ⟨e,v,m⟩:=f d;have x:j<e.length:=m.1▸(EW.1 h).1;let ⟨u,D,o⟩:=C i j e _ v<|EU x;exact⟨u,D,(m.2 j _ _ (EU x) h).rep o⟩
def ObjSoft.live {a b}(d:ObjSoft a b):isLive a↔isLive b:=by rcases d with rfl|⟨n,es,e,rfl,rfl,_⟩<;>exact Iff.rfl
def ObjSoft.bare {a b}(g:ObjSoft a b)(f:bareO a):bareO b:=by
 rcases g with rfl|⟨n,es,d,rfl,rfl,h,_⟩
 .exact f
 .let ⟨m,e⟩:=f;simp[flat,AObj.arr.injEq] at e;grind
def iA (f:Objs h β Y w){F}(A:∀o,isLive (h' o)->isLive (h o)/\ObjSoft (h o) (h' o)\/bareO (h' o)/\β o=none/\F o):Moves h h' β β Y w w F:=by
 have m:∀k b,isLive _->β k=some b->isLive (h k)/\ObjSoft (h k) _:=λk b p d=>(A k p).resolve_right λe=>zd;have I:Goes w w (XO Y h β) (XO Y h' β) β β:=by
  refine⟨EI _,λb E p=>⟨rfl,λy=>?_⟩,λ_ _=>rfl,λo b d=>⟨d,f.lt o b d⟩⟩;rcases y with J|⟨o',v,g⟩
  .grind
  .exact E<|.inr ⟨o',(m o' _ v g).1,g⟩
 refine⟨Good.refl _ _,⟨λo b z d=>?_,λo z=>?_,λo1 G b D x i j=>f.inj o1 G b (m o1 _ D i).1 (m G _ x j).1 i j,f.lt⟩,λ_ _ h=>h,λ_ _ h=>.inl h,λk p=>(A k p).elim (λh=>.inl h.1) λh=>.inr h.2.2⟩
 .have:=m o b z d;exact this.2.rep<|(f.rep o b this.1 d).goes I rfl
 .rcases A o z with⟨r,u⟩|⟨r,u,_⟩
  .rcases f.has o r with C|⟨C,H⟩
   .exact .inl C
   .exact .inr ⟨u.bare C,H⟩
  .grind
def SoftR (fr:Nat)(r r':AR):Prop:=r'=r\/(∃k X X' ex,r.upd=[(k,X)]/\r'.upd=(k,X')::ex/\ObjSoft X X'/\∀p∈ex,bareO p.2/\fr+1<=p.1/\p.1<fr+32)/\r'.val=r.val
def yX {fr r}(l):SoftR fr r (yz l fr r):=by
 unfold yz;split
 .rename_i k m cs g f;refine .inr ⟨⟨k,_,_,_,g,rfl,.inr ⟨m,[cs],_,rfl,rfl,rfl,λi e j d b=>?_⟩,λp h=>?_⟩,rfl⟩
  .cases i with
   |zero=>simp at d b;subst d;subst b;exact kK _ _ _
   |succ i=>simp at d
  .have:=XH h;have f:=Sp f;grind
 .exact .inl rfl
def Wh {e fr r}:SoftR fr r (lM P e fr r):=by
 unfold lM;split
 .split
  .split
   .split
    .exact .inl rfl
    .exact yX _
   .split
    .exact .inl rfl
    .exact yX _
   .exact yX _
   .exact yX _
   .exact yX _
   .exact .inl rfl
  .split
   .split
    .exact yX _
    .exact .inl rfl
   .exact .inl rfl
  .exact .inl rfl
 .exact .inl rfl
def lT {o fr ρ r}:SoftR fr r (qQ P o fr ρ h r):=by
 unfold qQ;split
 .exact Wh
 .exact Wh
 .unfold qF;split
  .split
   .split
    .split
     .split
      .rename_i d;refine .inr ⟨⟨_,_,_,_,za,rfl,.inr ⟨_,_,_,rfl,rfl,zb,λi e m g b=>?_⟩,λp f=>?_⟩,rfl⟩
       .rw[Gm] at b;split at b
        .rename_i j;subst j;split at b
         .injection b with b
          subst b;simp[List.getD,g,Sq] at d ⊢;exact ESoft.set d
         .cases b
        .rw[g] at b;injection b with b;subst b;exact .refl _
       .simp[Si] at f;subst f;exact⟨⟨_,rfl⟩,EI _,za⟩
      .exact .inl rfl
     .exact .inl rfl
    .exact .inl rfl
   .exact .inl rfl
  .exact .inl rfl
 .exact .inl rfl
def bJ {e fr r}:(lM P e fr r).rd=r.rd:=by
 unfold lM;split
 .split
  .split
   .split
    .rfl
    .unfold yz;split<;>rfl
   .split
    .rfl
    .unfold yz;split<;>rfl
   .unfold yz;split<;>rfl
   .unfold yz;split<;>rfl
   .unfold yz;split<;>rfl
   .rfl
  .split
   .split
    .unfold yz;split<;>rfl
    .rfl
   .rfl
  .rfl
 .rfl
def softA_rd {o fr ρ r}:(qQ P o fr ρ h r).rd=r.rd:=by
 unfold qQ;split
 .exact bJ
 .exact bJ
 .unfold qF;grind
 .rfl
def iT {o fr ρ r}(d:∀k∈r.rd,h' k=h k):qQ P o fr ρ h' r=qQ P o fr ρ h r:=by
 unfold qQ;split
 .rfl
 .rfl
 .unfold qF;grind
 .rfl
def dN {o fr ρ b r}(d:∀x∈o.op.operands,b x=ρ x):qQ P o fr b h r=qQ P o fr ρ h r:=by
 unfold qQ;split
 .rfl
 .rfl
 next t x y e=>rw[e] at d;rw[d x<|by simp[Op.operands],d y<|by simp[Op.operands]]
 .rfl
def sw (J:Objs h β Y w)(U:∀b,Y b->b<w.heap.size){fr:Nat}(i:∀j,j<32->β (fr+j)=none){o:Oper}{ρ:Operand->TV}{ev:Operand->Value}{r:AR}(D:∀x,TRep w (XO Y h β) β (ρ x)<|ev x)(M:aopS P o fr ρ h=some r):
  ∃n v w' d,(execOp ev o).run P w=.ok n w'/\(n=.value v\/(n=.skip/\v=undef))/\Moves h (over r.upd h) β d Y w w' (λk=>fr<=k/\k<fr+32)/\TRep w' (XO Y (over r.upd h) d) d r.val v:=by
 obtain⟨r0,Z,rfl⟩:=EM.1 M;have p:β fr=none:=i 0 za;obtain⟨n,v,w',d,K,G,u,F⟩:=og J U p D Z;have C:=u.weaken (fr':=λk=>fr<=k/\k<fr+32) (λk g=>⟨za,za⟩);rcases lT (P:=P) (h:=h) (o:=o) (fr:=fr) (ρ:=ρ) (r:=r0) with e|⟨⟨k,X,X',T,N,L,H,V⟩,W⟩
 .rw[e];exact⟨n,v,w',d,K,G,C,F⟩
 .have f:∀j,j<32->0<j->d (fr+j)=none:=by
   intro j O hj0;cases S:d (fr+j) with
   |none=>rfl
   |some b=>
    rcases u.bnew _ b S with z|⟨z,_⟩
    .rw[i j O] at z;cases z
    .omega
  have I:Moves (over r0.upd h) (over (qQ P o fr ρ h r0).upd h) d d Y w' w' (λk=>fr+1<=k/\k<fr+32):=by
   refine iA u.objs λy m=>?_;rw[N,L];rw[L] at m;simp only[over,zZ] at m ⊢;by_cases g:k=y
   .simp only[g,S9] at m ⊢;exact .inl ⟨H.live.2 m,H⟩
   .simp only[g,Sj] at m ⊢;cases E:zZ T y with
    |none=>rw[E] at m;exact .inl ⟨m,.inl rfl⟩
    |some x=>
     have:=V _<|kE E;refine .inr ⟨this.1,?_,this.2⟩;have A:=f (y-fr) za za;rwa [(za:fr+(y-fr)=y)] at A
  refine⟨n,v,w',d,K,G,?_,?_⟩
  .exact u.trans I (λk g=>by rw[g];exact i 0 za) J (λk g=>⟨za,za⟩) (λk g=>⟨za,g.2⟩)
  .rw[W];exact F.goes (I.goes u.objs (λk g=>by have A:=f (k-fr) za za;rwa [(za:fr+(k-fr)=k)] at A))
end
def mb (e x):ev e x=evF (look e) x:=by cases x<;>rfl
structure Dl where
 dst:Option Nat
 val:TV
 upd:AHeap
 rd:List Nat
inductive OpStep (P:Program)(ops:Array Oper)(o:Oper)(fr:Nat)(e:Nat->TV)(h:Nat->AObj):Dl->Prop
 |skip:want ops o e=some false->OpStep P ops o fr e h ⟨o.dst,.tup [],[],[]⟩
 |plain (r:AR):want ops o e=some true->goCall o.op=none->aopS P o fr (evF e) h=some r->OpStep P ops o fr e h ⟨o.dst,r.val,r.upd,r.rd⟩
 |call (c:Call) (f:FuncId) (args:List TV) (r:TV) (upd:AHeap) (rd:List Nat):want ops o e=some true->goCall o.op=some c->calleeOf (evF e) c=some (f,args)->
   CallE P f args h fr (λr' u' d'=>r'=r/\u'=upd/\d'=rd)->OpStep P ops o fr e h ⟨o.dst,r,upd,rd⟩
def putF (d:Option Nat)(v:TV)(e:Nat->TV):=match d with|some i=>AM.upd e i v|none=>e
def XG (d v e):look (putE d v e)=putF d v (look e):=by
 funext k;cases d with
 |none=>rfl
 |some i=>simp[putE,look,putF,AM.upd];grind
def mark (D:Nat):Deferred:={target:=.collected D,args:= #[]}
def Marks (w0 w:World)(ds:List Deferred):=∃Ds:List Nat,ds=Ds.map mark/\Ds.Nodup/\∀D∈Ds,w0.heap.size<=D/\w.heap[D]?=some (.deferred<|some [])
def Marks.nil (w0 w):Marks w0 w []:=⟨[],rfl,.nil,λ_ h=>nomatch h⟩
def r6 {w:World}{X:Nat->Prop}{β:Nat->Option Nat}{o:AObj}{b:Nat}(h:ORep w X β o b)(g:isLive o):(∃e t,w.heap[b]?=some (.cells e t (0,0)))\/∃ms f,w.heap[b]?=some (.map ms f):=by
 cases o with
 |gone=>exact g.elim
 |arr n es=>obtain⟨e,t,d,_⟩:=h;exact .inl ⟨_,_,d⟩
 |arz n es=>obtain⟨e,t,d,_⟩:=h;exact .inl ⟨_,_,d⟩
 |mapo es=>obtain⟨ms,f,d,_⟩:=h;exact .inr ⟨_,_,d⟩
 |mapz es=>obtain⟨ms,f,d,_⟩:=h;exact .inr ⟨_,_,d⟩
def Objs.own_heap {h β Y w}(i:Objs h β Y w){b}(f:Own h β b):(∃g t,w.heap[b]?=some (.cells g t (0,0)))\/∃ms j,w.heap[b]?=some (.map ms j):=by let ⟨o,d,e⟩:=f;exact r6 (i.rep o b d e) d
def Marks.good {w0 w w' f h β Y}(m:Marks w0 w f)(o:Objs h β Y w)(g:Good w (Own h β) w'):Marks w0 w' f:=by
 let ⟨Ds,p,i,e⟩:=m;refine⟨Ds,p,i,λD hD=>⟨(e D hD).1,?_⟩⟩;have d:=(e D hD).2;rw[g.blk D (ST.1 d).1 λj=>?_]
 .exact d
 .rcases o.own_heap j with⟨u,t,b⟩|⟨ms,r,b⟩<;>rw[d] at b<;>cases b
structure RelF (P:Program)(w0:World)(foot:Nat->Prop)(Y:Nat->Prop)(pin:Nat->Option (Option Nat))(e:Nat->TV)(h:Nat->AObj)(β:Nat->Option Nat)(a:Act)(w:World):Prop where
 good:Good w0 foot w
 env:∀i,TRep w (XO Y h β) β (e i)<|a.tmps.getD i undef
 objs:Objs h β Y w
 own:∀o b,isLive (h o)->β o=some b->foot b\/w0.heap.size<=b
 defers:Marks w0 w a.defers
 ylt:∀b,Y b->b<w0.heap.size
 pins:∀o x,pin o=some x->β o=x
 gl:Gl P w0 foot
section
variable {P:Program} {w0:World} {foot:Nat->Prop} {Y:Nat->Prop} {pin:Nat->Option (Option Nat)} {e:Nat->TV} {h:Nat->AObj} {β:Nat->Option Nat} {a:Act} {w:World}
def RelF.eval (b:RelF P w0 foot Y pin e h β a w)(x):TRep w (XO Y h β) β (evF e x) (a.eval x):=by
 cases x with
 |tmp t=>exact b.env t
 |const v=>exact tvOf_rep _ _ _ v
 |global g=>trivial
 |func f=>exact .fn _ [] [] [] [] .nil .nil
def RelF.y (d:RelF P w0 foot Y pin e h β a w):∀b,Y b->b<w.heap.size:=λb f=>SM (d.ylt b f) d.good.size
def RelF.now (d:RelF P w0 foot Y pin e h β a w):Gl P w (Own h β):=d.gl.later d.good λb i ⟨o,g,f⟩=>by
 rcases d.own o b g f with h3|h3
 .exact h3
 .omega
def RelF.step (f:RelF P w0 foot Y pin e h β a w) {h':Nat->AObj} {g:Nat->Option Nat} {w':World} {fr:Nat->Prop} (y:∀o,fr o->β o=none) (E:∀o,fr o->pin o=none) (m:Moves h h' β g Y w w' fr) {d:Option Nat} {v:TV} {u:Value} (F:TRep w' (XO Y h' g) g v u)
  (hd:∀i,d=some i->i<a.tmps.size):RelF P w0 foot Y pin (putF d v e) h' g (a.put d u) w':=by
 have A:=m.goes f.objs y;have j:∀b,b<w0.heap.size->Own h β b->foot b:=by
  rintro b z ⟨o,h1,h2⟩;rcases f.own o b h1 h2 with h3|h3
  .exact h3
  .omega
 refine⟨f.good.trans m.good j,λi=>?_,m.objs,λo b D z=>?_,?_,f.ylt,λo x r=>?_,f.gl⟩
 .cases d with
  |none=>exact(f.env i).goes A
  |some k=>
   simp only[putF,AM.upd,Act.put];by_cases p:i=k
   .subst p;simp only[S9];have:=hd i rfl;simpa[GK,this] using F
   .simp only[p,Sj];have:(a.tmps.setIfInBounds k u).getD i undef=a.tmps.getD i undef:=by simp[Array.getElem?_setIfInBounds_ne (show k≠i from λe=>p e.symm)]
    rw[this];exact(f.env i).goes A
 .rcases m.bnew o b z with h1|⟨C,h1|h1⟩
  .rcases m.lmono o D with h2|h2
   .exact f.own o b h2 h1
   .rw[y o h2] at h1;cases h1
  .exact .inr<|SW f.good.size h1
  .obtain⟨o',h2,h3⟩:=h1;exact f.own o' b h2 h3
 .have:=f.defers.good f.objs m.good;cases d<;>exact this
 .have h1:=f.pins o x r;cases x with
  |some b=>exact m.bmono o b h1
  |none=>
   cases h2:g o with
   |none=>rfl
   |some b=>
    rcases m.bnew o b h2 with h3|⟨h3,_⟩
    .rw[h1] at h3;cases h3
    .rw[E o h3] at r;cases r
def Occ (pin:Nat->Option (Option Nat))(β:Nat->Option Nat)(k:Nat):Prop:=β k≠none\/pin k≠none
def vU {g o b}(D:RelF P w0 foot Y pin e h β a w)(p:∀(j:Nat) (q:Oper) (d:Nat),g[j]?=some q->q.dst=some d->d<a.tmps.size)(f:want g o e=some b):Region.wanted o (yielded g a.tmps)=b:=by
 unfold want at f;unfold Region.wanted;split at f
 .grind
 .rename_i j C z;simp[z];split at f
  .rename_i x y;injection f with f
   let ⟨d,hd,r⟩:=EM.1 y;let ⟨q,v,u⟩:=G3.1 hd;have i:=p j q d v u;have m:=D.env d;rw[r] at m;have m:=m.bool_inv;have A:yielded g a.tmps j=some x:=by unfold yielded;simp_all
   simp_all
  .rename_i y;injection f with f
   let ⟨d,hd,r⟩:=EM.1 y;let ⟨q,v,u⟩:=G3.1 hd;have i:=p j q d v u;have m:=D.env d;rw[r] at m;let ⟨F,m,E⟩:=m;have:F=[]:=S1 (zl E.1.symm);subst this;have A:yielded g a.tmps j=none:=by unfold yielded;simp_all
   grind
  .cases f
def ZI {ops:Array Oper} {o:Oper} {fr:Nat} {δ:Dl} (hR:RelF P w0 foot Y pin e h β a w) (hfr:∀j,j<32->β (fr+j)=none) (hpn:∀j,j<32->pin (fr+j)=none) (hdst:∀(j:Nat) (q:Oper) (d:Nat),ops[j]?=some q->q.dst=some d->d<a.tmps.size) (hod:∀d,o.dst=some d->d<a.tmps.size)
  (hs:OpStep P ops o fr e h δ) {K:Act->World->Prop} {Q:Exit->Act->World->Prop}
  (hK:∀a' w' β',a'.tmps.size=a.tmps.size->a'.defers=a.defers->RelF P w0 foot Y pin (putF δ.dst δ.val e) (over δ.upd h) β' a' w'->(∀k,β' k≠none->β k≠none\/(fr<=k/\k<fr+32))->K a' w'):
  if Region.wanted o (yielded ops a.tmps) then o.wp P a w K Q else K (a.put o.dst undef) w:=by
 have hsz:∀u,(a.put o.dst u).tmps.size=a.tmps.size:=by intro u;unfold Act.put;cases o.dst<;>simp
 have hdf:∀(d:Option Nat) u,(a.put d u).defers=a.defers:=by intro d u;unfold Act.put;cases d<;>rfl
 have hbd:∀ {β':Nat->Option Nat} {h':Nat->AObj} {w':World} {f:Nat->Prop},Moves h h' β β' Y w w' f->(∀k,f k->fr<=k/\k<fr+32)->∀k,β' k≠none->β k≠none\/(fr<=k/\k<fr+32):=by
  intro β' h' w' f m hf k hk;cases hb:β' k with
  |none=>exact absurd hb hk
  |some b=>
   rcases m.bnew k b hb with h1|⟨h1,_⟩
   .exact .inl (by rw[h1];simp)
   .exact .inr<|hf k h1
 cases hs with
 |skip hw=>rw[vU hR hdst hw,EG zb];have m:=Moves.refl hR.objs λ_=>rfl;exact hK _ _ _ (hsz _) (hdf _ _) (hR.step (λ_ h=>h.elim) (λ_ h=>h.elim) m (d:=o.dst) (v:=.tup []) ⟨[],rfl,.nil⟩ hod)<|hbd m λ_ h=>h.elim
 |plain r hw hg ha=>
  rw[vU hR hdst hw,EL rfl];obtain⟨n,v,w',β',hrun,hn,hm,hv⟩:=sw hR.objs hR.y hfr hR.eval ha;have hfr0:∀k,(fr<=k/\k<fr+32)->β k=none:=λk hk=>by have:=hfr (k-fr) za;rwa [(za:fr+(k-fr)=k)] at this
  have hfin:=hK _ _ _ (hsz v) (hdf _ _) (hR.step hfr0 (λk hk=>by have:=hpn (k-fr) za;rwa [(za:fr+(k-fr)=k)] at this) hm hv hod)<|hbd hm λk hk=>hk;unfold Oper.wp;rw[hrun];rcases hn with rfl|⟨rfl,rfl⟩
  .exact hfin
  .exact hfin
 |call c f args r upd rd hw hg hc hK'=>
  rw[vU hR hdst hw,EL rfl];obtain⟨dd,op,t,p,af,g⟩:=o;simp only[goCall] at hg;split at hg
  .rename_i x a9 ts;injection hg with hg
   subst hg;simp only[calleeOf] at hc;split at hc
   .rename_i fid first cap hx;injection hc with hc
    injection hc with hc1 hc2
    subst hc1;have hrx:=hR.eval x;rw[hx] at hrx;cases hfx:a.eval x with
    |func fn fs cs=>
     rw[hfx] at hrx;cases hrx with
     |fn _ _ _ us vs hl1 hl2=>
      have atomT:∀(l:List<|Bool×List AV) (zs:List Value),LRep (PRep<|ARep w (XO Y h β) β) l zs->LRep (TRep w (XO Y h β) β) (l.map λp=>match p with|(true,cs)=>TV.agg (cs.map WV.a)|(false,[x])=>TV.c (.a x)|_=>TV.any) zs:=by
       intro l zs hl;refine hl.map λp u _ hp=>?_;obtain⟨qs,rfl,hq,h1⟩:=hp;obtain⟨b,cs⟩:=p;cases b with
       |true=>exact⟨qs,rfl,hq.map λc u _ h=>.a _ _ h⟩
       |false=>
        have:=h1 rfl
        match cs,this with
        |[y],_=>obtain⟨u,us',rfl,hu,_⟩:=hq.cons_inv;exact .a _ _ (by simpa[shut] using hu)
      have hargs:LRep (TRep w (XO Y h β) β) args (us++a9.toList.map a.eval++vs):=by rw[<-hc2];exact((atomT _ _ hl1).append<|jM hR.eval a9.toList).append<|atomT _ _ hl2
      obtain⟨hent,r',upd',rd',⟨e1,e2,e3⟩,hcall⟩:=lS hR.objs hR.now hR.y hfr hargs hK';subst e1;subst e2;subst e3;have hrun:(execOp a.eval ⟨dd,.call ⟨.value x,a9,ts⟩,t,p,af,g⟩).run P w=.ok (.enter fid (us++a9.toList.map a.eval++vs).toArray) w:=by
       unfold xp at hent;split at hent
       .rename_i fn hfn;simp only[EN,SK,beq_eq_false_iff_ne] at hent;have hb:fn.body.isNone=false:=by cases hb:fn.body<;>simp_all
        have harr:us.toArray++Array.map a.eval a9++vs.toArray=(us++a9.toList.map a.eval++vs).toArray:=by apply GQ;simp
        simp only[execOp,resolve,Deferred.ofValue,hfx,invoke,callFunc,Sv,SC,Se,run_program,hfn,beq_eq_false_iff_ne.2 hent.1,S5,Sj,hb,harr]
       .cases hent
      unfold Oper.wp;rw[hrun];simp only[Oper.upon];refine hcall.mono λen w' ⟨v,β',he,hm,hv⟩=>?_;subst he;exact hK _ _ _ (hsz v) (hdf _ _) (hR.step (λk hk=>by have:=hfr (k-fr) za;rwa [(za:fr+(k-fr)=k)] at this) (λk hk=>by have:=hpn (k-fr) za;rwa [(za:fr+(k-fr)=k)] at this) hm hv hod)<|hbd hm λk hk=>hk
    |_=>rw[hfx] at hrx;cases hrx
   .cases hc
  .cases hg
end
end Go.AM
