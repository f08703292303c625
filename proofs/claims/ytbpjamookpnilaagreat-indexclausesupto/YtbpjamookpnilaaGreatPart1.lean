/- Laws, part 1. No conditions. -/
import Derived.Calls
import Derived.Tactics
import Derived.Orders
import Derived.Still
import Derived.Laws.AppendOwn
import Derived.Laws.CopyRow
import Derived.KernelRfl
import Derived.Test.YtbpjamookpnilaaGreatProg
import Derived.Lib.LaidTab
import Derived.Lib.ItoaNum
import Derived.Laws.StructEq
import Derived.Laws.Strings
import Derived.Laws.OwnMore
import Derived.WideKeyRuns
import Derived.Laws.MakeOwn
import Derived.Laws.BytesString
import Derived.Laws.Cells
import Derived.Lib.AppendZeros
set_option linter.all false
namespace Go.AM
noncomputable abbrev tB:=Go.Proofs.Tryz.prog
abbrev tC:=@List.length_cons
abbrev tD:=@if_neg
abbrev tE:=@List.length_append
abbrev tF:=@Bool.and_eq_true
abbrev tG:=@if_pos
abbrev tH:=@Option.map_eq_some_iff
abbrev tJ:=@Nat.le_refl
abbrev tK:=@List.mem_cons_of_mem
abbrev tL:=@Option.some.injEq
abbrev tM:=@List.mem_cons_self
abbrev tN:=@List.take_of_length_le
abbrev tO:=@List.getElem?_eq_getElem
abbrev tP:=@of_decide_eq_false
abbrev tQ:=@List.getElem?_eq_some_iff
abbrev tR:=@List.length_nil
abbrev tS:=@List.eq_nil_of_length_eq_zero
abbrev tT:=@run_underlying
abbrev tU:=@Int.le_refl
abbrev tV:=@List.getElem?_map
abbrev tW:=@Option.map_some
abbrev tX:=@Bool.false_eq_true
abbrev tY:=@List.append_nil
abbrev tZ:=@if_true
abbrev hJ:=@Int.toNat_natCast
abbrev hU:=@of_decide_eq_true
abbrev A0:=@List.mem_append
abbrev A1:=@List.mem_cons
abbrev A2:=@Result.andThen_ok
abbrev A3:=@List.drop_zero
abbrev A4:=@Nat.zero_add
abbrev A5:=@Classical.byContradiction
abbrev A6:=@if_false
abbrev A7:=@List.all_eq_true
abbrev A8:=@Array.getElem?_push
abbrev A9:=@Nat.le_of_ble_eq_true
abbrev Ak:=@decide_eq_true_eq
abbrev Al:=@beq_iff_eq
abbrev Am:=@Prod.mk.injEq
abbrev Ao:=@Sem.run_bind
abbrev Ap:=@Bool.and_false
abbrev Aq:=@List.mem_of_getElem?
abbrev Ar:=@Nat.mul_le_mul_right
abbrev As:=@Bool.false_and
abbrev Au:=@Array.getD_eq_getD_getElem?
abbrev Av:=@Sem.run_pure
abbrev Aw:=@List.map_cons
abbrev Ax:=@List.length_map
abbrev Ay:=@List.mem_map
abbrev Az:=@Array.all_eq_true_iff_forall_mem
abbrev AA:=@Bool.not_eq_true'
abbrev AB:=@List.append_assoc
abbrev AD:=@decide_eq_true
abbrev AE:=@List.cons_append
abbrev AF:=@decide_eq_false
abbrev AG:=@Nat.add_mul
abbrev AH:=@List.length_take
abbrev AI:=@List.getElem?_cons_zero
abbrev AJ:=@Nat.eq_of_beq_eq_true
abbrev AK:=@Nat.lt_of_lt_of_le
abbrev AL:=@List.getElem?_take
abbrev AO:=@List.mem_singleton
abbrev AP:=@Array.getElem?_eq_getElem
abbrev AQ:=@List.getElem?_append
abbrev AS:=@Bool.true_and
abbrev AT:=@Nat.zero_le
abbrev AU:=@Option.getD_some
abbrev AW:=@Array.getElem?_eq_some_iff
abbrev AX:=@Nat.le_trans
abbrev AY:=@List.map_congr_left
abbrev AZ:=@List.all_cons
abbrev E0:=@List.nil_append
abbrev E1:=@List.nodup_cons
abbrev E2:=@List.getElem?_drop
abbrev E3:=@List.any_cons
abbrev E4:=@List.map_append
abbrev E5:=@Option.bind_eq_some_iff
abbrev E6:=@List.getElem?_of_mem
abbrev E7:=@Bool.and_self
abbrev E8:=@List.contains_eq_mem
abbrev E9:=@MapKept.run_getObj_map
abbrev Ea:=@List.getElem?_append_left
abbrev Eb:=@List.getElem?_set
abbrev Ec:=@Bool.false_or
abbrev Ed:=@Nat.add_zero
abbrev Ee:=@Bool.or_true
abbrev Ef:=@Int.add_zero
abbrev Eg:=@List.mem_of_mem_drop
abbrev Eh:=@Nat.le_mul_of_pos_right
abbrev Ei:=@List.getElem?_append_right
abbrev Ej:=@List.nodup_append
abbrev Ek:=@List.foldl_cons
abbrev El:=@List.mem_or_eq_of_mem_set
abbrev Em:=@List.drop_eq_getElem_cons
abbrev En:=@Option.isSome_none
abbrev Eo:=@List.mem_append_left
abbrev Ep:=@List.getElem?_range
abbrev Er:=@Array.length_toList
abbrev Es:=@MapKept.run_setObj_map
abbrev Et:=@List.drop_eq_nil_of_le
abbrev Eu:=@Bool.and_true
abbrev Ev:=@Option.bind_some
abbrev Ew:=@List.getElem?_toArray
abbrev Ex:=@List.length_singleton
abbrev Ey:=@Bool.or_eq_true
abbrev Ez:=@List.take_succ_eq_append_getElem
abbrev EA:=@Nat.add_assoc
abbrev EB:=@List.getElem?_cons_succ
abbrev EC:=@Bool.true_or
abbrev ED:=@Nat.add_sub_cancel
abbrev EE:=@Nat.min_eq_left
abbrev EF:=@Bool.eq_iff_iff
abbrev EG:=@Array.getElem?_setIfInBounds
abbrev EH:=@List.mem_zipIdx_iff_getElem?
abbrev EI:=@List.headD_cons
abbrev EJ:=@Array.mem_of_getElem?
abbrev EL:=@Array.ext'
abbrev EM:=@List.mem_of_mem_take
abbrev EN:=@Bool.not_false
abbrev EO:=@Nat.add_comm
abbrev EP:=@List.getElem?_zip_eq_some
abbrev EQ:=@List.length_set
abbrev ER:=@Int.natCast_add
abbrev ES:=@eq_of_beq
abbrev ET:=@Nat.sub_zero
abbrev EU:=@List.map_map
abbrev EV:=@List.reverse_cons
abbrev EW:=@List.getElem?_eq_none
abbrev EX:=@List.mem_append_right
abbrev EY:=@List.eq_nil_or_concat
abbrev EZ:=@beq_self_eq_true
abbrev S0:=@Bool.or_false
abbrev S1:=@Array.toArray_toList
abbrev S2:=@List.getElem?_modify
abbrev S3:=@List.mem_filter
abbrev S4:=@Int.natCast_one
abbrev S5:=@List.filter_eq_self
abbrev S6:=@List.drop_succ_cons
abbrev S7:=@List.map_nil
abbrev S8:=@List.map_set
abbrev S9:=@Array.foldl_toList
abbrev Sa:=@Nat.eq_zero_or_pos
abbrev Sb:=@Bool.and_assoc
abbrev Sc:=@List.map_id
theorem za {p:Prop}(h:p:=by omega):p:=h
theorem zb {p:Prop}(h:p:=by simp):p:=h
theorem zc {p:Prop}(h:p:=by decide):p:=h
theorem zd {p:Prop}(h:p:=by grind):p:=h
theorem zg {p:Prop}(h:p:=by kernel_rfl):p:=h
theorem zh {p:Prop}(h:p:=by intros;kernel_rfl):p:=h
theorem zi {p:Prop}(h:p:=by as_aux_lemma=>kernel_rfl):p:=h
theorem zj {p:Prop}(h:p:=by simp;omega):p:=h
theorem zm {p:Prop}(h:p:=by dsimp only;omega):p:=h
theorem zp {p q:Prop}(h:p)(e:p->q:=by intro h;simpa using h):q:=e h
inductive FV where
 |int (k:IntKind) (n:Int)
 |bool (b:Bool)
 |str (l:List UInt8)
 |cst (v:Value)
 |N
 |sl (nn:Bool) (n:Nat) (es:List (List FV))
 |z0 (nn:Bool)
 |pt (cs:List FV)
 |mp (es:List ((Bool×List FV)×(Bool×List FV)))
 deriving Inhabited
inductive AV where
 |fz (x:FV)
 |ep (o n i j:Nat)
 |osl (o n off len:Nat)
 |mp (o:Nat)
 |any
 |bld (t:TypeId) (o:Nat)
 |osb (o:Nat) (e:TypeId) (len:Nat)
 deriving Inhabited
inductive WV where
 |a (x:AV)
 |fn (f:Fn) (first captured:List (Bool×List AV))
 deriving Inhabited
inductive TV where
 |any
 |c (x:WV)
 |agg (cs:List WV)
 |tup (vs:List (Bool×List WV))
 deriving Inhabited
inductive AObj where
 |gone
 |arr (n:Nat) (es:List (List WV))
 |arz (n:Nat) (fs:List (List FV))
 |mapo (es:List ((Bool×List FV)×(Bool×List WV)))
 |mapz (es:List ((Bool×List FV)×(Bool×List FV)))
 deriving Inhabited
abbrev Env:=List<|Nat×TV
abbrev AHeap:=List<|Nat×AObj
def look:Env->Nat->TV
 |[],_=>.any
 |(j,v)::e,i=>if j=i then v else look e i
def hook:AHeap->Nat->AObj
 |[],_=>.gone
 |(j,v)::e,i=>if j=i then v else hook e i
def fvOf:Value->FV
 |.int k n=>.int k n
 |.bool b=>.bool b
 |.string s=>.str s.data.toList
 |.slice none 0 0=>.N
 |v=>.cst v
def cell (x:FV):WV:=.a<|.fz x
def fzs (l:List FV):List WV:=l.map cell
def thaw (e:(Bool×List FV)×(Bool×List FV)):(Bool×List FV)×(Bool×List WV):=(e.1,(e.2.1,fzs e.2.2))
def flat:AObj->AObj
 |.arz n fs=>.arr n<|fs.map fzs
 |.mapz es=>.mapo<|es.map thaw
 |x=>x
def unfz:List WV->Option (List FV)
 |[]=>some []
 |.a (.fz x)::r=>(unfz r).map λl=>x::l
 |_=>none
def nM:List (List WV)->Option (List<|List FV)
 |[]=>some []
 |e::r=>match unfz e,nM r with
  |some x,some l=>some<|x::l
  |_,_=>none
def tvOf:Value->TV
 |.agg cs=>if cs.all Value.oneCell' then .agg (cs.toList.map λv=>.a<|.fz<|fvOf v) else .any
 |.tuple _=>.any
 |.int k n=>.c<|.a<|.fz<|.int k n
 |.bool b=>.c<|.a<|.fz<|.bool b
 |.string s=>.c<|.a<|.fz<|.str s.data.toList
 |.slice none 0 0=>.c<|.a<|.fz .N
 |v=>.c<|.a<|.fz<|.cst v
def evF (e:Nat->TV):Operand->TV
 |.tmp t=>e t
 |.const v=>tvOf v
 |.global _=>.any
 |.func f=>.c<|.fn (.func f) [] []
def ev (e:Env):Operand->TV
 |.tmp t=>look e t
 |.const v=>tvOf v
 |.global _=>.any
 |.func f=>.c<|.fn (.func f) [] []
inductive TKind where
 |base
 |str
 |slice (e:TypeId)
 |arr (n:Nat) (e:TypeId)
 |struct (fs:List (Nat×Nat×TypeId))
 |ptr (e:TypeId)
 |map (k e:TypeId)
 |int (k:IntKind)
 |bool
 |func
structure TyD where
 agg:Bool
 size:Nat
 bytes:Nat
 zero:Option<|List FV
 kind:TKind
def xQ (P:Program):TypeDesc->TKind
 |.string=>.str
 |.slice e=>.slice e
 |.array n e=>.arr n e
 |.struct fs=>if fs.toList.all (λf=>(P.info? f.type).isSome) then .struct (fs.toList.map λf=>(f.offset,P.cellsOf f.type,f.type)) else .base
 |.pointer e=>.ptr e
 |.map k e=>.map k e
 |.int k=>.int k
 |.bool=>.bool
 |.func _ _ _=>.func
 |_=>.base
def tyOf (P:Program)(t:TypeId):Option TyD:=
 match P.info? t,P.underlying t with
 |some i,some d=>some
  { agg:=match d with|.struct _|.array _ _=>true|_=>false
    size:=i.size
    bytes:=i.bytes
    zero:=match i.zero with
     |some z=>if z.cells.all Value.oneCell' then some (z.cells.toList.map fvOf) else none
     |none=>none
    kind:=xQ P d}
 |_,_=>none
structure AR where
 val:TV
 upd:List<|Nat×AObj
 rd:List Nat
def uI:TV->Option (List WV)
 |.c x=>some [x]
 |.agg cs=>some cs
 |_=>none
def ZK (d:TyD)(cs:List WV):Option TV:=
 if d.agg then(if d.size<=cs.length then some (.agg<|cs.take d.size) else none)
 else match cs with
  |x::_=>some<|.c x
  |[]=>none
def partA (agg:Bool)(size:Nat)(cs:List WV)(off:Nat):Option TV:=
 if agg then(if off+size<=cs.length then some (.agg<|(cs.drop off).take size) else none) else(cs[off]?).map .c
def splice (e:List WV)(j:Nat)(cs:List WV):List WV:=e.take j++cs++e.drop (j+cs.length)
def XF (place:Nat->Option (Nat×Nat)):List WV->List (Nat×TV)->Option (List WV)
 |cs,[]=>some cs
 |cs,(i,v)::rest=>
  match place i,uI v with
  |some (off,size),some us=>if us.length=size/\off+size<=cs.length then XF place (splice cs off us) rest else none
  |_,_=>none
def jc (n:Nat):Nat->List WV->List (List WV)
 |0,_=> []
 |k+1,cs=>cs.take n::jc n k (cs.drop n)
def w4 (n:Nat)(h:Nat->AObj):TV->Option (List (List WV)×List Nat)
 |.c (.a (.fz .N))=>some ([],[])
 |.c (.a (.fz (.sl _ m es)))=>if m=n then some (es.map fzs,[]) else none
 |.c (.a (.fz (.z0 _)))=>some ([],[])
 |.c (.a (.osl o m off len))=>
  match h o with
  |.arr m' es=>if m=n/\m'=n/\off+len<=es.length then some ((es.drop off).take len,[o]) else none
  |_=>none
 |_=>none
def XD:TV->Option (Nat×List Nat)
 |.c (.a (.fz .N))=>some (0,[])
 |.c (.a (.fz (.sl _ _ es)))=>some (es.length,[])
 |.c (.a (.fz (.z0 _)))=>some (0,[])
 |.c (.a (.osl _ _ _ len))=>some (len,[])
 |_=>none
def lenStr:TV->Option (Nat×List Nat)
 |.c (.a (.fz (.str l)))=>some (l.length,[])
 |_=>none
def t5 (h:Nat->AObj):TV->Option (Nat×List Nat)
 |.c (.a (.mp o))=>match h o with
  |.mapo es=>some (es.length,[o])
  |_=>none
 |_=>none
def iV (n:Int):TV:=.c<|.a<|.fz<|.int .i64 n
def bV (b:Bool):TV:=.c<|.a<|.fz<|.bool b
def Kv (op:BinOp)(k:IntKind)(a b:Int):Option FV:=
 match op with
 |.add=>some<|.int k<|k.wrap<|a+b
 |.sub=>some<|.int k<|k.wrap<|a-b
 |.mul=>some<|.int k<|k.wrap<|a*b
 |.quo=>if b=0 then none else some<|.int k<|k.wrap<|a.tdiv b
 |.rem=>if b=0 then none else some<|.int k<|a.tmod b
 |.eql=>some<|.bool<|a==b
 |.neq=>some<|.bool<|a !=b
 |.lss=>some<|.bool<|a<b
 |.leq=>some<|.bool<|a<=b
 |.gtr=>some<|.bool<|a>b
 |.geq=>some<|.bool<|a>=b
 |_=>none
def cQ (op:BinOp)(a b:List UInt8):Option FV:=
 match op with
 |.add=>if a.length+b.length<=1000000000000 then some (.str<|a++b) else none
 |.eql=>some<|.bool<|a==b
 |.neq=>some<|.bool (!(a==b))
 |_=>none
inductive EK where
 |int
 |bool
 |str
def ekOf (P:Program)(t:TypeId):Option EK:=
 match P.underlying t with
 |some (.int _)=>some .int
 |some .bool=>some .bool
 |some .string=>some .str
 |_=>none
def dv (P:Program):Nat->List Field->Option (List EK)
 |_,[]=>some []
 |i,f::fs=>match ekOf P f.type,dv P (i+1) fs with
  |some k,some l=>if f.offset=i/\f.name ≠ "_" then some (k::l) else none
  |_,_=>none
def js (P:Program)(t:TypeId):Option (List EK):=
 match P.underlying t with
 |some (.struct fs)=>if P.stoodInHeld t=false/\P.eqGuardType P.depth t=false then dv P 0 fs.toList else none
 |_=>none
def zY:List EK->List WV->List WV->Option Bool
 |[],[],[]=>some true
 |.int::ks,.a (.fz (.int k x))::l,.a (.fz (.int k' y))::r=>if k=k' then(zY ks l r).map λb=>(x==y)&&b else none
 |.bool::ks,.a (.fz (.bool x))::l,.a (.fz (.bool y))::r=>(zY ks l r).map λb=>(x==y)&&b
 |.str::ks,.a (.fz (.str x))::l,.a (.fz (.str y))::r=>(zY ks l r).map λb=>(x==y)&&b
 |_,_,_=>none
def nilSl:WV->WV->Option Bool
 |.a (.fz .N),.a (.fz .N)=>some true
 |.a (.fz (.sl true _ _)),.a (.fz .N)=>some false
 |.a (.fz (.z0 true)),.a (.fz .N)=>some false
 |.a (.osl _ _ _ (_+1)),.a (.fz .N)=>some false
 |.a (.fz (.sl false _ (_::_))),.a (.fz .N)=>some false
 |_,_=>none
def gH:WV->WV->Option Bool
 |.a (.ep _ _ _ _),.a (.fz (.cst (.pointer none)))=>some false
 |.a (.fz (.pt _)),.a (.fz (.cst (.pointer none)))=>some false
 |.a (.fz (.cst (.pointer none))),.a (.fz (.cst (.pointer none)))=>some true
 |_,_=>none
def eqC (P:Program)(t:TypeId)(x y:WV):Option Bool:=
 match tyOf P t with
 |some d=>match d.kind with
  |.bool=>match x,y with
   |.a (.fz (.bool p)),.a (.fz (.bool q))=>some<|p==q
   |_,_=>none
  |.slice _=>nilSl x y
  |.ptr _=>gH x y
  |_=>none
 |none=>none
def eqA (P:Program)(t:TypeId)(x y:TV):Option Bool:=
 match x,y with
 |.agg xs,.agg ys=>match js P t with
  |some ks=>zY ks xs ys
  |none=>none
 |.c x,.c y=>eqC P t x y
 |_,_=>none
def eqOp (op:BinOp)(r:Option Bool):Option TV:=
 match op with
 |.eql=>r.map bV
 |.neq=>r.map λb=>bV (!b)
 |_=>none
def binA (P:Program)(t:TypeId)(op:BinOp)(x y:TV):Option TV:=
 match x,y with
 |.c (.a (.fz (.int k x))),.c (.a (.fz (.int k' y)))=>if k=k' then(Kv op k x y).map λv=>.c (.a<|.fz v) else none
 |.c (.a (.fz (.str x))),.c (.a (.fz (.str y)))=>(cQ op x y).map λv=>.c<|.a<|.fz v
 |x,y=>eqOp op<|eqA P t x y
def unA (op:UnOp):TV->Option TV
 |.c (.a (.fz (.int k x)))=>match op with|.neg=>some (.c<|.a<|.fz<|.int k<|k.wrap<|0-x)|_=>none
 |.c (.a (.fz (.bool x)))=>match op with|.not=>some (bV (!x))|_=>none
 |_=>none
def wA (x:Option TV)(dflt most:Nat):Option Nat:=
 match x with
 |none=>some dflt
 |some (.c (.a (.fz (.int _ i))))=>if 0<=i/\i<=most then some i.toNat else none
 |_=>none
def ZO (lo hi mx:Option TV)(len:Nat):Option (Nat×Nat):=
 match wA mx len len,wA hi len len with
 |some c,some b=>if b<=c/\(mx.isSome=true->hi.isSome=true) then(wA lo 0 b).map λa=>(a,b) else none
 |_,_=>none
def Jw (x:TV)(lo hi mx:Option TV):Option TV:=
 match x,mx with
 |.c (.a (.fz (.str l))),none=>(ZO lo hi none l.length).map λp=>.c<|.a<|.fz<|.str<|(l.take p.2).drop p.1
 |_,_=>none
def uc:Option TV->Bool
 |some (.c (.a (.fz (.int _ n))))=>n==0
 |_=>false
def Ze (sz:Nat)(x:TV)(lo hi mx:Option TV):Option TV:=
 match x with
 |.c (.a (.fz .N))=>(ZO lo hi mx 0).map λ_=>x
 |.c (.a (.fz (.sl nn n es)))=>if n=sz then(ZO lo hi mx es.length).map λp=>if uc mx=true then .c (.a<|.fz<|.z0 nn) else .c (.a<|.fz<|.sl nn n<|(es.take p.2).drop p.1) else none
 |.c (.a (.fz (.z0 _)))=>(ZO lo hi mx 0).map λ_=>x
 |.c (.a (.osl o n off len))=>if n=sz then(ZO lo hi mx len).map λp=>.c (.a<|.osl o n (off+p.1)<|p.2-p.1) else none
 |_=>none
def pickT (t:Bool):TV->TV->TV
 |.c (.a (.fz (.bool p))),.c (.a (.fz (.bool q)))=>bV (if t then p else q)
 |x,y=>if t then x else y
def zI (n bytes:Nat):Prop:=n*bytes<=140737488355328
instance (n bytes:Nat):Decidable (zI n bytes):=by unfold zI;exact inferInstance
def xC (d:TyD)(fr:Nat)(h:Nat->AObj)(s x:TV):Option AR:=
 match w4 d.size h x with
 |none=>none
 |some (new,rd)=>
  match s with
  |.c (.a (.fz .N))=>
   if new=[] then some ⟨s,[],rd⟩ else if zI new.length d.bytes then some ⟨.c<|.a<|.osl fr d.size 0 new.length,[(fr,.arr d.size new)],rd⟩ else none
  |.c (.a (.fz (.z0 _)))=>
   if new=[] then some ⟨s,[],rd⟩ else if zI new.length d.bytes then some ⟨.c<|.a<|.osl fr d.size 0 new.length,[(fr,.arr d.size new)],rd⟩ else none
  |.c (.a (.osl o n off len))=>
   match h o with
   |.arr m es=>
    if n=d.size/\m=d.size/\off=0/\len<=es.length/\zI (len+new.length) d.bytes/\ !(fr::rd).contains o then
     some ⟨.c<|.a<|.osl fr d.size 0<|len+new.length,[(o,.gone),(fr,.arr d.size<|es.take len++new)],o::rd⟩
    else none
   |_=>none
  |_=>none
def vU:List TV->Option (IntKind×List Int)
 |[]=>none
 |[.c (.a (.fz (.int k n)))]=>some (k,[n])
 |.c (.a (.fz (.int k n)))::r=>(vU r).bind λ(k',l)=>if k=k' then some (k,n::l) else none
 |_=>none
def xH (l:List Int):Int:=match l with|[]=>0|x::r=>r.foldl max x
def xI (l:List Int):Int:=match l with|[]=>0|x::r=>r.foldl min x
def lr:List WV->Option (List AV)
 |[]=>some []
 |.a x::r=>(lr r).map λl=>x::l
 |_=>none
def uV:List TV->Option (List<|Bool×List AV)
 |[]=>some []
 |.c (.a x)::r=>(uV r).map λl=>(false,[x])::l
 |.agg cs::r=>(lr cs).bind λxs=>(uV r).map λl=>(true,xs)::l
 |_=>none
def kO (d:TyD)(x:TV)(f:Nat):Option TV:=
 match d.kind with
 |.struct fs=>match fs[f]? with
  |some fd=>if fd.2.1=0 then none else
   match x with
   |.c (.a (.ep o n i j))=>some<|.c<|.a<|.ep o n i<|j+fd.1
   |.c (.a (.fz (.pt cs)))=>some<|.c<|.a<|.fz<|.pt<|cs.drop fd.1
   |_=>none
  |none=>none
 |_=>none
def rJ (P:Program)(d:TyD)(x:TV)(f:Nat):Option TV:=
 match d.kind with
 |.struct fs=>match fs[f]? with
  |some fd=>match tyOf P fd.2.2,x with
   |some df,.agg cs=>partA df.agg df.size cs fd.1
   |_,_=>none
  |none=>none
 |_=>none
def XS (de:TyD)(x:TV)(i:Int):Option TV:=
 match x with
 |.c (.a (.osl o n off len))=>if de.size=n/\0<=i/\i<len then some (.c<|.a<|.ep o n (off+i.toNat) 0) else none
 |.c (.a (.fz (.sl _ n es)))=>if de.size=n/\0<=i/\i<es.length then some (.c<|.a<|.fz<|.pt<|es.getD i.toNat []) else none
 |_=>none
def dz (de:TyD)(m:Nat)(x:TV)(i:Int):Option TV:=
 match x with
 |.c (.a (.ep o n k j))=>if 0<=i/\i<m then some (.c<|.a<|.ep o n k<|j+i.toNat*de.size) else none
 |_=>none
def xm (P:Program)(d:TyD)(x ix:TV):Option TV:=
 match ix with
 |.c (.a (.fz (.int _ i)))=>
  match d.kind with
  |.slice e=>match tyOf P e with|some de=>XS de x i|none=>none
  |.arr m e=>match tyOf P e with|some de=>dz de m x i|none=>none
  |_=>none
 |_=>none
def XT (P:Program)(d:TyD)(x ix:TV):Option TV:=
 match ix with
 |.c (.a (.fz (.int _ i)))=>
  match d.kind with
  |.str=>match x with
   |.c (.a (.fz (.str l)))=>if 0<=i/\i<l.length then some (.c<|.a<|.fz<|.int .u8 (l.getD i.toNat 0).toNat) else none
   |_=>none
  |.arr m e=>match tyOf P e,x with
   |some de,.agg cs=>if 0<=i/\i<m then partA de.agg de.size cs (i.toNat*de.size) else none
   |_,_=>none
  |_=>none
 |_=>none
def JL (x:TV)(i:Nat):Option TV:=
 match x with
 |.tup vs=>match vs[i]? with
  |some (true,cs)=>some<|.agg cs
  |some (false,[c])=>some<|.c c
  |_=>none
 |_=>none
def Y2 (d:TyD)(x:TV):Option TV:=
 match d.kind with
 |.int k=>match x with|.c (.a (.fz (.int _ n)))=>some (.c<|.a<|.fz<|.int k<|k.wrap n)|_=>none
 |.str=>match x with|.c (.a (.fz (.str l)))=>some (.c<|.a<|.fz<|.str l)|_=>none
 |_=>none
def qo (x:TV):Option TV:=
 match x with
 |.c (.a (.ep _ _ _ _))=>some x
 |.c (.a (.fz (.pt _)))=>some x
 |.c (.fn (.func _) _ _)=>some x
 |_=>none
def pickV (c x y:TV):Option TV:=
 match c with
 |.c (.a (.fz (.bool t)))=>some<|pickT t x y
 |_=>none
def wQ (P:Program)(d:TyD)(x:TV)(lo hi mx:Option TV):Option TV:=
 match d.kind with
 |.slice e=>match tyOf P e with
  |some de=>Ze de.size x lo hi mx
  |none=>none
 |.str=>Jw x lo hi mx
 |_=>none
def X9 (fn:Fn)(first captured:List TV):Option TV:=
 match uV first,uV captured with
 |some fs,some cs=>some<|.c<|.fn fn fs cs
 |_,_=>none
def XZ (P:Program)(d:TyD)(parts:List<|Nat×TV):Option TV:=
 match d.zero,d.kind with
 |some z,.struct fs=>(XF (λi=>(fs[i]?).map λf=>(f.1,f.2.1)) (fzs z) parts).map .agg
 |some z,.arr _ e=>match tyOf P e with
  |some de=>(XF (λi=>some (i*de.size,de.size)) (fzs z) parts).map .agg
  |none=>none
 |_,_=>none
def wS (d:TyD)(h:Nat->AObj)(x:TV):Option (TV×List Nat):=
 match x with
 |.c (.a (.ep o n i j))=>
  match h o with
  |.arr m es=>if m=n then match es[i]? with
   |some e=>match ZK d (e.drop j) with|some v=>some (v,[o])|none=>none
   |none=>none
   else none
  |_=>none
 |.c (.a (.fz (.pt cs)))=>match ZK d (fzs cs) with|some v=>some (v,[])|none=>none
 |_=>none
def vS (d:TyD)(h:Nat->AObj)(x y:TV):Option AR:=
 match uI y,x with
 |some cs,.c (.a (.ep o n i j))=>
  match h o with
  |.arr m es=>if m=n/\cs.length=d.size then match es[i]? with
   |some e=>if j+cs.length<=e.length then some ⟨.any,[(o,.arr n<|es.set i<|splice e j cs)],[o]⟩ else none
   |none=>none
   else none
  |_=>none
 |_,_=>none
def wx (de:TyD)(fr len:Nat)(parts:List<|Nat×TV):Option AR:=
 match de.zero with
 |some z=>
  if z.length=de.size/\0<de.size/\len*de.size<=16777216 then
   match XF (λi=>some (i*de.size,de.size)) (List.replicate len<|fzs z).flatten parts with
   |some cs=>some ⟨.c<|.a (if len=0/\de.size=1 then .fz (.z0 true) else .osl fr de.size 0 len),[(fr,.arr de.size<|jc de.size len cs)],[]⟩
   |none=>none
  else none
 |none=>none
def lenP (d:TyD)(h:Nat->AObj)(x:TV):Option (Nat×List Nat):=
 match d.kind with
 |.slice _=>XD x
 |.str=>lenStr x
 |.map _ _=>t5 h x
 |.arr n _=>some (n,[])
 |_=>none
def jq (de:TyD)(fr:Nat)(h:Nat->AObj)(s x:TV):Option AR:=
 if 0<de.size/\0<de.bytes/\de.bytes<=4096/\(de.zero.map List.length)=some de.size then xC de fr h s x else none
def minA (max:Bool)(l:List TV):Option TV:=
 match vU l with
 |some r=>some<|.c<|.a<|.fz<|.int r.1 (if max then xH r.2 else xI r.2)
 |none=>none
def valR (v:Option TV):Option AR:=v.map λv=>⟨v,[],[]⟩
def yy (P:Program)(t:TypeId){α:Type}(f:TyD->Option α):Option α:=
 match tyOf P t with
 |some d=>f d
 |none=>none
def yj (P:Program)(t:TypeId){α:Type}(f:TyD->Option α):Option α:=
 match tyOf P t with
 |some d=>match d.kind with
  |.slice e=>match tyOf P e with
   |some de=>f de
   |none=>none
  |_=>none
 |none=>none
def Z5 (P:Program)(t':TypeId)(de:TyD)(fr:Nat)(s x:TV):Option AR:=
 match P.underlying t',s,x with
 |some (.int _),.c (.a (.fz .N)),.c (.a (.fz (.int _ n)))=>
  if 0<n/\0<de.size/\zI n.toNat de.bytes/\0<de.bytes/\(de.zero.map List.length)=some de.size then some ⟨.c<|.a<|.osl fr de.size 0 n.toNat,[(fr,.arr de.size [])],[]⟩ else none
 |_,_,_=>none
def capP (d:TyD)(x:TV):Option TV:=
 match d.kind,x with
 |.slice _,.c (.a (.fz .N))=>some<|iV 0
 |.slice _,.c (.a (.fz (.z0 _)))=>some<|iV 0
 |_,_=>none
def xU (P:Program)(b:Builtin)(ts:List TypeId)(fr:Nat)(h:Nat->AObj)(args:List TV):Option AR:=
 match b,ts,args with
 |.len,[t],[x]=>yy P t λd=>(lenP d h x).map λr=>⟨iV r.1,[],r.2⟩
 |.append,[t,t'],[s,x]=>if t=t' then yj P t λde=>jq de fr h s x else yj P t λde=>Z5 P t' de fr s x
 |.cap,[t],[x]=>valR<|yy P t λd=>capP d x
 |.min,_,l=>valR<|minA false l
 |.max,_,l=>valR<|minA true l
 |_,_,_=>none
def Kj:TV->Option (Bool×List WV)
 |.c x=>some (false,[x])
 |.agg cs=>some (true,cs)
 |_=>none
def kN (P:Program)(t:TypeId):Option (Bool×List EK):=
 match P.underlying t with
 |some (.struct _)=>(js P t).map λl=>(true,l)
 |_=>(ekOf P t).map λk=>(false,[k])
def keyT (ag:Bool):TV->Option (List FV)
 |.c (.a (.fz f))=>if ag then none else some [f]
 |.agg cs=>if ag then unfz cs else none
 |_=>none
abbrev MapE:=(Bool×List FV)×(Bool×List WV)
def vi (m:Bool×List EK)(key:List FV):List MapE->Nat->Option (Option Nat)
 |[],_=>some none
 |e::es,i=>if e.1.1=m.1 then(zY m.2 (fzs key)<|fzs e.1.2).bind λb=>if b then some (some i) else vi m key es (i+1) else none
def rowTV:Bool×List WV->Option TV
 |(true,cs)=>some<|.agg cs
 |(false,[x])=>some<|.c x
 |_=>none
def JD (P:Program)(e:TypeId):Option (Bool×List WV):=
 match P.info? e with
 |some i=>match i.zero with
  |some (.agg cs)=>if cs.all Value.oneCell' then some (true,fzs<|cs.toList.map fvOf) else none
  |some v=>if v.oneCell' then some (false,[cell<|fvOf v]) else none
  |none=>none
 |none=>none
def jF:List EK->List FV->Bool
 |[],[]=>true
 |.int::ks,.int _ _::l=>jF ks l
 |.bool::ks,.bool _::l=>jF ks l
 |.str::ks,.str _::l=>jF ks l
 |_,_=>false
def J2 (P:Program)(t:TypeId):Option ((Bool×List EK)×(Bool×List WV)):=
 match tyOf P t with
 |some d=>match d.kind with
  |.map k e=>match kN P k,JD P e with
   |some ks,some z=>some (ks,z)
   |_,_=>none
  |_=>none
 |none=>none
def gF (ok:Bool)(v:Bool×List WV)(b:Bool):Option TV:=if ok then some (.tup [v,(false,[cell<|.bool b])]) else rowTV v
def keyA (m:(Bool×List EK)×(Bool×List WV))(key:TV):Option (List FV):=
 match keyT m.1.1 key with
 |some k=>if jF m.1.2 k=true then some k else none
 |none=>none
def j9 (h:Nat->AObj):TV->Option (Nat×List MapE)
 |.c (.a (.mp o))=>match h o with
  |.mapo es=>some (o,es)
  |_=>none
 |_=>none
def nT (m:(Bool×List EK)×(Bool×List WV))(es:List MapE)(r:Option Nat)(ok:Bool):Option TV:=
 match r with
 |some i=>match es[i]? with
  |some e=>gF ok e.2 true
  |none=>none
 |none=>gF ok m.2 false
def mapL (h:Nat->AObj):TV->Option (List Nat×List MapE)
 |.c (.a (.fz (.mp es)))=>some ([],es.map thaw)
 |x=>(j9 h x).map λp=>([p.1],p.2)
def wY (m:(Bool×List EK)×(Bool×List WV))(h:Nat->AObj)(x key:TV)(ok:Bool):Option AR:=
 match keyA m key with
 |some k=>match mapL h x with
  |some oe=>match vi m.1 k oe.2 0 with
   |some r=>(nT m oe.2 r ok).map λv=>⟨v,[],oe.1⟩
   |none=>none
  |none=>none
 |none=>none
def entE (m:(Bool×List EK)×(Bool×List WV))(o:Nat)(k:List FV)(es:List MapE)(r:Option Nat):Option AR:=
 match r with
 |some i=>match es[i]? with
  |some e=>some ⟨.tup [e.2,(false,[cell<|.int .i64 i])],[(o,.mapo<|es.set i ((m.1.1,k),e.2))],[o]⟩
  |none=>none
 |none=>some ⟨.tup [m.2,(false,[cell<|.int .i64 es.length])],[(o,.mapo<|es++[((m.1.1,k),m.2)])],[o]⟩
def wC (m:(Bool×List EK)×(Bool×List WV))(h:Nat->AObj)(x key:TV):Option AR:=
 match keyA m key with
 |some k=>match j9 h x with
  |some oe=>match vi m.1 k oe.2 0 with
   |some r=>entE m oe.1 k oe.2 r
   |none=>none
  |none=>none
 |none=>none
def wu (h:Nat->AObj)(x stamp v:TV):Option AR:=
 match j9 h x,stamp,Kj v with
 |some oe,.c (.a (.fz (.int _ n))),some r=>match oe.2[n.toNat]? with
  |some e=>if 0<=n then some ⟨.any,[(oe.1,.mapo<|oe.2.set n.toNat (e.1,r))],[oe.1]⟩ else none
  |none=>none
 |_,_,_=>none
def updE (m:(Bool×List EK)×(Bool×List WV))(k:List FV)(r:Bool×List WV)(es:List MapE)(q:Option Nat):List MapE:=
 match q with
 |some i=>es.set i ((m.1.1,k),r)
 |none=>es++[((m.1.1,k),r)]
def yG (m:(Bool×List EK)×(Bool×List WV))(h:Nat->AObj)(x key v:TV):Option AR:=
 match keyA m key,Kj v with
 |some k,some r=>match j9 h x with
  |some oe=>match vi m.1 k oe.2 0 with
   |some q=>some ⟨.any,[(oe.1,.mapo<|updE m k r oe.2 q)],[oe.1]⟩
   |none=>none
  |none=>none
 |_,_=>none
abbrev MapZ:=(Bool×List FV)×(Bool×List FV)
def XH (m:(Bool×List EK)×(Bool×List WV))(k:List FV)(es:List MapZ):Option (Option<|List FV):=
 match vi m.1 k (es.map thaw) 0 with
 |some (some i)=>match es[i]? with
  |some e=>if e.2.1=m.2.1 then some (some e.2.2) else none
  |none=>none
 |some none=>some none
 |none=>none
def vw (h:Nat->AObj):TV->Option (Nat×List MapZ)
 |.c (.a (.mp o))=>match h o with
  |.mapz es=>some (o,es)
  |_=>none
 |_=>none
def qL (h:Nat->AObj):TV->Option (List Nat×List MapZ)
 |.c (.a (.fz (.mp es)))=>some ([],es)
 |x=>(vw h x).map λp=>([p.1],p.2)
def wv (m:(Bool×List EK)×(Bool×List WV))(h:Nat->AObj)(x key:TV)(ok:Bool):Option AR:=
 match qL h x with
 |some oe=>match keyA m key with
  |some k=>match XH m k oe.2 with
   |some (some l)=>(gF ok (m.2.1,fzs l) true).map λv=>⟨v,[],oe.1⟩
   |some none=>(gF ok m.2 false).map λv=>⟨v,[],oe.1⟩
   |none=>none
  |none=>none
 |none=>wY m (λo=>flat<|h o) x key ok
def updZ (m:(Bool×List EK)×(Bool×List WV))(k:List FV)(r:Bool×List FV)(es:List MapZ):Option (List MapZ):=
 match vi m.1 k (es.map thaw) 0 with
 |some (some i)=>some<|es.set i ((m.1.1,k),r)
 |some none=>some<|es++[((m.1.1,k),r)]
 |none=>none
def yS (m:(Bool×List EK)×(Bool×List WV))(h:Nat->AObj)(x key v:TV):Option AR:=
 match vw h x with
 |some oe=>match keyA m key,Kj v with
  |some k,some r=>match unfz r.2 with
   |some fr=>(updZ m k (r.1,fr) oe.2).map λes=>⟨.any,[(oe.1,.mapz es)],[oe.1]⟩
   |none=>none
  |_,_=>none
 |none=>yG m (λo=>flat<|h o) x key v
def xA (P:Program)(t:TypeId)(f:(Bool×List EK)×(Bool×List WV)->Option AR):Option AR:=
 match J2 P t with
 |some m=>f m
 |none=>none
def wW (de:TyD)(_:Nat)(x y:TV):Option (Nat×List FV):=
 match x,y,de.zero with
 |.c (.a (.fz (.int _ n))),.c (.a (.fz (.int _ m))),some z=>if n=m/\0<=n/\z.length=de.size/\0<de.size/\0<de.bytes/\zI n.toNat de.bytes then some (n.toNat,z) else none
 |_,_,_=>none
def byteW:List WV->Option UInt8
 |[.a (.fz (.int .u8 n))]=>some<|UInt8.ofNat n.toNat
 |_=>none
def Ka:List (List WV)->Option (List UInt8)
 |[]=>some []
 |e::r=>match byteW e,Ka r with
  |some b,some l=>some<|b::l
  |_,_=>none
def Jv (P:Program)(src:TypeId):Bool:=
 match yj P src λde=>some de.kind with
 |some (.int .u8)=>true
 |_=>false
def textA (P:Program)(dst:TypeId)(h:Nat->AObj)(x:TV):Option AR:=
 yy P dst λd=>match d.kind with
  |.str=>match w4 1 h x with
   |some (es,rd)=>(Ka es).map λl=>⟨.c<|.a<|.fz<|.str l,[],rd⟩
   |none=>none
  |_=>none
def isBld (P:Program)(t:TypeId)(d:TyD):Bool:=
 match d.kind with
 |.struct [(0,1,tp),(1,1,_)]=>match P.underlying tp with
  |some (.pointer e)=>e==t&&d.size==2
  |_=>false
 |_=>false
def bldZ (P:Program)(t:TypeId)(d:TyD)(fr:Nat)(z:List FV):List WV:=
 match isBld P t d,z with
 |true,[.cst (.pointer none),.N]=> [.a<|.bld t fr,.a<|.fz .N]
 |_,_=>fzs z
def aop (P:Program)(o:Oper)(fr:Nat)(ρ:Operand->TV)(h:Nat->AObj):Option AR:=
 match o.op with
 |.move x=>some ⟨ρ x,[],[]⟩
 |.assign x=>some ⟨ρ x,[],[]⟩
 |.pick c x y=>valR<|pickV (ρ c) (ρ x)<|ρ y
 |.alloc e=>yy P e λd=>d.zero.map λz=>⟨.c<|.a<|.ep fr z.length 0 0,[(fr,.arr z.length [bldZ P e d fr z])],[]⟩
 |.box _ x=>(uI<|ρ x).map λcs=>⟨.c<|.a<|.ep fr cs.length 0 0,[(fr,.arr cs.length [cs])],[]⟩
 |.build t parts=>valR<|yy P t λd=>XZ P d<|parts.toList.map λp=>(p.1,ρ p.2)
 |.buildSlice t len parts=>yj P t λde=>wx de fr len<|parts.toList.map λp=>(p.1,ρ p.2)
 |.load t x=>yy P t λd=>(wS d h<|ρ x).map λr=>⟨r.1,[],r.2⟩
 |.store t x y=>yy P t λd=>vS d h (ρ x)<|ρ y
 |.nilCheck x=>valR<|qo<|ρ x
 |.binOp op t x y _=>valR<|binA P t op (ρ x)<|ρ y
 |.unOp op _ x=>valR<|unA op<|ρ x
 |.convert src dst x=>match Jv P src with
  |true=>textA P dst h<|ρ x
  |false=>valR (if (P.underlying src).isSome then yy P dst λd=>Y2 d (ρ x) else none)
 |.slice t x lo hi mx=>valR<|yy P t λd=>wQ P d (ρ x) (lo.map ρ) (hi.map ρ)<|mx.map ρ
 |.fieldAddr s x f=>valR<|yy P s λd=>kO d (ρ x) f
 |.field s x f=>valR<|yy P s λd=>rJ P d (ρ x) f
 |.indexAddr t x ix=>valR<|yy P t λd=>xm P d (ρ x)<|ρ ix
 |.index t x ix=>valR<|yy P t λd=>XT P d (ρ x)<|ρ ix
 |.makeFunc fn first captured=>valR<|X9 fn (first.toList.map ρ)<|captured.toList.map ρ
 |.extract x i=>valR<|JL (ρ x) i
 |.call ⟨.builtin b,args,ts⟩=>xU P b ts.toList fr h<|args.toList.map ρ
 |.lookup t x ix ok=>xA P t λm=>wY m h (ρ x) (ρ ix) ok
 |.mapEntry t x k=>xA P t λm=>wC m h (ρ x)<|ρ k
 |.entryStore _ x s v=>wu h (ρ x) (ρ s)<|ρ v
 |.mapUpdate t x k v=>xA P t λm=>yG m h (ρ x) (ρ k)<|ρ v
 |.makeMap _ none=>some ⟨.c<|.a<|.mp fr,[(fr,.mapo [])],[]⟩
 |.makeSlice t l c=>yj P t λde=>(wW de fr (ρ l)<|ρ c).map λr=>⟨.c<|.a<|.osl fr de.size 0 r.1,[(fr,.arr de.size<|List.replicate r.1<|fzs r.2)],[]⟩
 |_=>none
def u7 (e:List FV)(j:Nat)(cs:List FV):List FV:=e.take j++cs++e.drop (j+cs.length)
def ut (d:TyD)(h:Nat->AObj)(x y:TV):Option AR:=
 match uI y,x with
 |some cs,.c (.a (.ep o n i j))=>
  match h o with
  |.arz m fs=>match unfz cs with
   |some fcs=>if m=n/\fcs.length=d.size then match fs[i]? with
    |some e=>if j+fcs.length<=e.length then some ⟨.any,[(o,.arz n<|fs.set i<|u7 e j fcs)],[o]⟩ else none
    |none=>none
    else none
   |none=>none
  |_=>vS d h x y
 |_,_=>none
def uC (n:Nat)(h:Nat->AObj):TV->Option (List (List FV)×List Nat)
 |.c (.a (.fz .N))=>some ([],[])
 |.c (.a (.fz (.sl _ m es)))=>if m=n then some (es,[]) else none
 |.c (.a (.fz (.z0 _)))=>some ([],[])
 |.c (.a (.osl o m off len))=>
  match h o with
  |.arz m' es=>if m=n/\m'=n/\off+len<=es.length then some ((es.drop off).take len,[o]) else none
  |_=>none
 |_=>none
def wo (d:TyD)(fr:Nat)(h:Nat->AObj)(s x:TV):Option AR:=
 match uC d.size h x with
 |some (new,rd)=>
  match s with
  |.c (.a (.fz .N))=>
   if new=[] then some ⟨s,[],rd⟩ else if zI new.length d.bytes then some ⟨.c<|.a<|.osl fr d.size 0 new.length,[(fr,.arz d.size new)],rd⟩ else none
  |.c (.a (.fz (.z0 _)))=>
   if new=[] then some ⟨s,[],rd⟩ else if zI new.length d.bytes then some ⟨.c<|.a<|.osl fr d.size 0 new.length,[(fr,.arz d.size new)],rd⟩ else none
  |.c (.a (.osl o n off len))=>
   match h o with
   |.arz m fs=>
    if n=d.size/\m=d.size/\off=0/\len<=fs.length/\zI (len+new.length) d.bytes/\ !(fr::rd).contains o then
     some ⟨.c<|.a<|.osl fr d.size 0<|len+new.length,[(o,.gone),(fr,.arz d.size<|fs.take len++new)],o::rd⟩
    else none
   |_=>xC d fr (λo=>flat<|h o) s x
  |_=>none
 |none=>xC d fr (λo=>flat<|h o) s x
def Y3 (de:TyD)(fr:Nat)(h:Nat->AObj)(s x:TV):Option AR:=
 if 0<de.size/\0<de.bytes/\de.bytes<=4096/\(de.zero.map List.length)=some de.size then wo de fr h s x else none
def xh (r:AR):AR:=
 match r.upd with
 |[(o,.arr n es)]=>match nM es with
  |some fs=>⟨r.val,[(o,.arz n fs)],r.rd⟩
  |none=>r
 |_=>r
def xL (P:Program)(b:Builtin)(ts:List TypeId)(fr:Nat)(h:Nat->AObj)(args:List TV):Option AR:=
 match b,ts,args with
 |.append,[t,t'],[s,x]=>if t=t' then yj P t λde=>Y3 de fr h s x else yj P t λde=>(Z5 P t' de fr s x).map xh
 |b,ts,args=>xU P b ts fr (λo=>flat<|h o) args
def qa (h:Nat->AObj):WV->WV×AHeap
 |.a (.osl o n off len)=>
  match h o with
  |.arz m fs=>if n=m/\off+len<=fs.length then(.a<|.fz<|.sl false n<|(fs.drop off).take len,[(o,.gone)]) else(.a<|.osl o n off len,[])
  |_=>(.a<|.osl o n off len,[])
 |x=>(x,[])
def vd (h:Nat->AObj):List WV->List WV×AHeap
 |[]=>([],[])
 |x::r=>((qa h x).1::(vd h r).1,(qa h x).2++(vd h r).2)
def ZF (h:Nat->AObj):TV->TV×AHeap
 |.c x=>(.c (qa h x).1,(qa h x).2)
 |.agg cs=>(.agg (vd h cs).1,(vd h cs).2)
 |x=>(x,[])
def ve (h:Nat->AObj):List (Nat×TV)->List (Nat×TV)×AHeap
 |[]=>([],[])
 |(i,x)::r=>((i,(ZF h x).1)::(ve h r).1,(ZF h x).2++(ve h r).2)
def oslW:WV->List Nat
 |.a (.osl o _ _ _)=> [o]
 |_=> []
def oslT:TV->List Nat
 |.c x=>oslW x
 |.agg cs=>cs.flatMap oslW
 |_=> []
def oslP (l:List<|Nat×TV):List Nat:=l.flatMap λp=>oslT p.2
def aopF (P:Program)(o:Oper)(fr:Nat)(ρ:Operand->TV)(h:Nat->AObj):Option AR:=
 match o.op with
 |.store t x y=>yy P t λd=>ut d h (ρ x)<|ρ y
 |.call ⟨.builtin b,args,ts⟩=>xL P b ts.toList fr h<|args.toList.map ρ
 |.buildSlice t len parts=>
  (yj P t λde=>wx de fr len (ve h<|parts.toList.map λp=>(p.1,ρ p.2)).1).map λr=>⟨(xh r).val,(xh r).upd++(ve h<|parts.toList.map λp=>(p.1,ρ p.2)).2,oslP<|parts.toList.map λp=>(p.1,ρ p.2)⟩
 |.build t parts=>
  (yy P t λd=>XZ P d (ve h<|parts.toList.map λp=>(p.1,ρ p.2)).1).map λv=>⟨v,(ve h<|parts.toList.map λp=>(p.1,ρ p.2)).2,oslP<|parts.toList.map λp=>(p.1,ρ p.2)⟩
 |.makeSlice t l c=>yj P t λde=>(wW de fr (ρ l)<|ρ c).map λr=>⟨.c<|.a<|.osl fr de.size 0 r.1,[(fr,.arz de.size<|List.replicate r.1 r.2)],[]⟩
 |.lookup t x ix ok=>xA P t λm=>wv m h (ρ x) (ρ ix) ok
 |.mapUpdate t x k v=>xA P t λm=>yS m h (ρ x) (ρ k)<|ρ v
 |.makeMap _ none=>some ⟨.c<|.a<|.mp fr,[(fr,.mapz [])],[]⟩
 |_=>aop P o fr ρ λo=>flat<|h o
def Xd (P:Program):List (Nat×Nat×TypeId)->List (Nat×Nat)
 |[]=> []
 |f::fs=>match tyOf P f.2.2 with
  |some d=>match d.kind with
   |.slice e=>match tyOf P e with
    |some de=>(f.1,de.size)::Xd P fs
    |none=>Xd P fs
   |_=>Xd P fs
  |none=>Xd P fs
def Yp:List (Nat×Nat)->Nat->List WV->List WV
 |[],_,cs=>cs
 |(j,n)::l,fr,cs=>match cs.getD j (cell<|.bool true) with
  |.a (.fz .N)=>Yp l (fr+1)<|cs.set j<|.a<|.osl fr n 0 0
  |_=>Yp l (fr+1) cs
def fP:List (Nat×Nat)->Nat->AHeap
 |[],_=> []
 |(_,n)::l,fr=>(fr,.arz n [])::fP l (fr+1)
def yL (l:List<|Nat×Nat)(fr:Nat)(r:AR):AR:=
 match r.upd,Nat.ble l.length 30 with
 |[(o,.arr m [cs])],true=>⟨r.val,(o,.arr m [Yp l (fr+1) cs])::fP l (fr+1),r.rd⟩
 |_,_=>r
def qG (fr:Nat)(h:Nat->AObj)(x y:TV)(r:AR):AR:=
 match x,y,r.upd with
 |.c (.a (.ep o _ i j)),.c _,[(o',.arr m es)]=>match r.rd.contains o with
  |true=>match h o with
   |.arr _ old=>match (old.getD i []).getD j (cell .N) with
    |.a (.osl _ k _ _)=>match (es.getD i []).getD j (cell<|.bool true) with
     |.a (.fz .N)=>⟨r.val,[(o',.arr m<|es.set i<|(es.getD i []).set j<|.a<|.osl (fr+1) k 0 0),(fr+1,.arz k [])],r.rd⟩
     |_=>r
    |_=>r
   |_=>r
  |false=>r
 |_,_,_=>r
def pY (P:Program)(e:TypeId)(fr:Nat)(r:AR):AR:=
 match tyOf P e with
  |some d=>match d.kind with
   |.struct fs=>match Xd P fs with
    |[(0,6),(1,1)]=>match fs with
     |[_,_,_]=>r
     |_=>yL [(0,6),(1,1)] fr r
    |[(0,1)]=>match fs with
     |[_,(1,2,_)]=>r
     |_=>yL [(0,1)] fr r
    |(0,n)::l=>yL ((0,n)::l) fr r
    |[(1,8)]=>yL [(1,8)] fr r
    |[(1,6),_,_,(k,10)]=>yL [(k,10)] fr r
    |_=>r
   |.slice e=>match tyOf P e with
    |some de=>match de.size with
     |9=>yL [(0,9)] fr r
     |_=>r
    |none=>r
   |_=>r
  |none=>r
def Z1 (P:Program)(o:Oper)(fr:Nat)(ρ:Operand->TV)(h:Nat->AObj)(r:AR):AR:=
 match o.op with
 |.alloc e=>pY P e fr r
 |.box e _=>pY P e fr r
 |.store _ x y=>qG fr h (ρ x) (ρ y) r
 |_=>r
def aopS (P:Program)(o:Oper)(fr:Nat)(ρ:Operand->TV)(h:Nat->AObj):Option AR:=(aopF P o fr ρ h).map<|Z1 P o fr ρ h
def shut (ag:Bool)(us:List Value):Value:=if ag then .agg us.toArray else us.getD 0 undef
inductive FRep (w:World)(X:Nat->Prop):FV->Value->Prop
 |int (k:IntKind) (n:Int):FRep w X (.int k n) (.int k n)
 |bool (b:Bool):FRep w X (.bool b) (.bool b)
 |str (l:List UInt8):FRep w X (.str l) (.string ⟨l.toArray⟩)
 |cst (v:Value):v.oneCell'=true->FRep w X (.cst v) v
 |N:FRep w X .N (.slice none 0 0)
 |slnil (n:Nat):FRep w X (.sl false n []) (.slice none 0 0)
 |sl0 (nn:Bool) (n:Nat) (a:Addr):FRep w X (.sl nn n []) (.slice (some a) 0 0)
 |z0 (nn:Bool) (a:Addr):FRep w X (.z0 nn) (.slice (some a) 0 0)
 |z0n:FRep w X (.z0 false) (.slice none 0 0)
 |sl (nn:Bool) (n:Nat) (es:List (List FV)) (b off cap len:Nat) (u:Nat->Nat->Value):
   len=es.length->es.length<=cap->¬X b->b<w.heap.size->(∀(i:Nat) (e:List FV),es[i]?=some e->e.length=n)->(∀(i j:Nat) (e:List FV) (f:FV),es[i]?=some e->e[j]?=some f->w.cell? ⟨b,off+i*n+j,none⟩=some (u i j))->(∀(i j:Nat) (e:List FV) (f:FV),es[i]?=some e->e[j]?=some f->FRep w X f (u i j))->
   FRep w X (.sl nn n es) (.slice (some ⟨b,off,none⟩) len cap)
 |pt (cs:List FV) (b off:Nat) (u:Nat->Value):¬X b->b<w.heap.size->(∀(j:Nat) (f:FV),cs[j]?=some f->w.cell? ⟨b,off+j,none⟩=some (u j))->(∀(j:Nat) (f:FV),cs[j]?=some f->FRep w X f (u j))->
   FRep w X (.pt cs) (.pointer<|some ⟨b,off,none⟩)
 |mp (es:List MapZ) (b:Nat) (ms:List MapEntry) (ku vu:Nat->List Value):¬X b->b<w.heap.size->w.heap[b]?=some (.map ms.toArray ms.length)->ms.length=es.length->(∀(i:Nat) (m:MapEntry),ms[i]?=some m->m.born=i)->(∀(i:Nat) (e:MapZ) (m:MapEntry),es[i]?=some e->ms[i]?=some m->(m.key=shut e.1.1 (ku i)/\e.1.2.length=(ku i).length/\(e.1.1=false->e.1.2.length=1))/\m.val=shut e.2.1 (vu i)/\e.2.2.length=(vu i).length/\(e.2.1=false->e.2.2.length=1))->(∀(i j:Nat) (e:MapZ) (f:FV) (u:Value),es[i]?=some e->e.1.2[j]?=some f->(ku i)[j]?=some u->FRep w X f u)->(∀(i j:Nat) (e:MapZ) (f:FV) (u:Value),es[i]?=some e->e.2.2[j]?=some f->(vu i)[j]?=some u->FRep w X f u)->
   FRep w X (.mp es) (.map<|some b)
inductive ARep (w:World)(X:Nat->Prop)(β:Nat->Option Nat):AV->Value->Prop
 |fz (x:FV) (v:Value):FRep w X x v->ARep w X β (.fz x) v
 |ep (o n i j b:Nat):β o=some b->ARep w X β (.ep o n i j) (.pointer (some ⟨b,i*n+j,none⟩))
 |osl (o n off len b q cap sz:Nat) (t:TypeId):β o=some b->w.shape? b=some (t,sz)->len<=cap->(off+cap)*n<=sz->(q=off*n\/cap=0)->
   ARep w X β (.osl o n off len) (.slice (some ⟨b,q,none⟩) len cap)
 |oslN (o n off:Nat):ARep w X β (.osl o n off 0) (.slice none 0 0)
 |mp (o b:Nat):β o=some b->ARep w X β (.mp o) (.map (some b))
 |any (v:Value):v.oneCell'=true->ARep w X β .any v
 |bld (t:TypeId) (o b:Nat) (v:Value):β o=some b->w.shape? b=some (t,2)->v=.pointer none\/v=.pointer (some ⟨b,0,none⟩)->ARep w X β (.bld t o) v
 |osb (o:Nat) (e:TypeId) (len b cap:Nat):β o=some b->w.shape? b=some (e,cap)->len<=cap->cap<=maxLen->ARep w X β (.osb o e len) (.slice (some ⟨b,0,none⟩) len cap)
def LRep {α:Type}(R:α->Value->Prop)(cs:List α)(us:List Value):Prop:=cs.length=us.length/\∀(j:Nat) (c:α) (u:Value),cs[j]?=some c->us[j]?=some u->R c u
def PRep {α:Type}(R:α->Value->Prop)(p:Bool×List α)(v:Value):Prop:=∃us,v=shut p.1 us/\LRep R p.2 us/\(p.1=false->p.2.length=1)
inductive WRep (w:World)(X:Nat->Prop)(β:Nat->Option Nat):WV->Value->Prop
 |a (x:AV) (v:Value):ARep w X β x v->WRep w X β (.a x) v
 |fn (f:Fn) (first captured:List (Bool×List AV)) (us vs:List Value):LRep (PRep (ARep w X β)) first us->LRep (PRep (ARep w X β)) captured vs->
   WRep w X β (.fn f first captured) (.func f us.toArray vs.toArray)
def TRep (w:World)(X:Nat->Prop)(β:Nat->Option Nat):TV->Value->Prop
 |.any,_=>True
 |.c x,v=>WRep w X β x v
 |.agg cs,v=> ∃us,v=.agg us.toArray/\LRep (WRep w X β) cs us
 |.tup vs,v=> ∃us,v=.tuple us.toArray/\LRep (PRep<|WRep w X β) vs us
def ORep (w:World)(X:Nat->Prop)(β:Nat->Option Nat)(o:AObj)(b:Nat):Prop:=
 match flat o with
 |.gone=>True
 |.arz _ _=>True
 |.mapz _=>True
 |.arr n es=> ∃(us:List Value) (t:TypeId),w.heap[b]?=some (.cells us.toArray t (0,0))/\es.length*n<=us.length/\(∀e∈es,e.length=n)/\
   ∀(i j:Nat) (e:List WV) (c:WV),es[i]?=some e->e[j]?=some c->∃u,us[i*n+j]?=some u/\WRep w X β c u
 |.mapo es=> ∃(ms:List MapEntry) (clock:Nat),w.heap[b]?=some (.map ms.toArray clock)/\ms.length=es.length/\
   (∀(i:Nat) (e:(Bool×List FV)×(Bool×List WV)) (m:MapEntry),es[i]?=some e->ms[i]?=some m->PRep (FRep w X) e.1 m.key/\PRep (WRep w X β) e.2 m.val)/\
   clock=ms.length/\(∀(i:Nat) (m:MapEntry),ms[i]?=some m->m.born=i)
structure Good (w0:World)(foot:Nat->Prop)(w:World):Prop where
 size:w0.heap.size<=w.heap.size
 blk:∀b,b<w0.heap.size->¬foot b->w.heap[b]?=w0.heap[b]?
 shp:∀b,b<w0.heap.size->w.shape? b=w0.shape? b
 os:w.os=w0.os
 tape:w.tape=w0.tape
 output:w.output=w0.output
def isLive:AObj->Prop
 |.gone=>False
 |_=>True
def bareO (x:AObj):Prop:=∃n,flat x=.arr n []
def Own (h:Nat->AObj)(β:Nat->Option Nat)(b:Nat):Prop:=∃o,isLive (h o)/\β o=some b
structure Objs (h:Nat->AObj)(β:Nat->Option Nat)(Y:Nat->Prop)(w:World):Prop where
 rep:∀o b,isLive (h o)->β o=some b->ORep w (λb=>Y b\/Own h β b) β (h o) b
 has:∀o,isLive (h o)->(∃b,β o=some b/\b<w.heap.size/\¬Y b)\/(bareO (h o)/\β o=none)
 inj:∀o o' b,isLive (h o)->isLive (h o')->β o=some b->β o'=some b->o=o'
 lt:∀o b,β o=some b->b<w.heap.size
theorem Objs.here {h:Nat->AObj}{β:Nat->Option Nat}{Y:Nat->Prop}{w:World}(i:Objs h β Y w){o b:Nat}(g:isLive<|h o)(e:β o=some b):b<w.heap.size/\¬Y b:=by
 rcases i.has o g with⟨m,d,j,f⟩|⟨_,d⟩
 .rw[e] at d;injection d with d;subst d;exact⟨j,f⟩
 .rw[e] at d;cases d
def xF (P:Program)(f:FuncId):Bool:=
 match P.funcs[f]? with
 |some fn=> !(fn.name== "runtime.NumGoroutine")&&fn.body.isSome
 |none=>false
def Gl (P:Program)(w:World)(foot:Nat->Prop):Prop:=∀g,P.globalNamed "internal/strconv.uint64pow10" =some g->Lib.TabIs P w "internal/strconv.uint64pow10" .u64 Lib.pow10Tab/\¬foot g/\g<w.heap.size
theorem Gl.later {P:Program}{w w':World}{foot d:Nat->Prop}(h:Gl P w foot)(g:Good w foot w')(o:∀b,b<w.heap.size->d b->foot b):Gl P w' d:=λk i=>by obtain⟨f,j,e⟩:=h k i;refine⟨?_,λm=>j<|o k e m,AK e g.size⟩;unfold Lib.TabIs World.var? at*;rw[i] at f ⊢;simp only[Ev] at f ⊢;rw[g.blk k e j];exact f
theorem Gl.sub {P:Program}{w:World}{foot d:Nat->Prop}(h:Gl P w foot)(g:∀b,d b->foot b):Gl P w d:=λk e=>let ⟨h1,h2,h3⟩:=h k e;⟨h1,λf=>h2<|g k f,h3⟩
def AC (P:Program)(f:FuncId)(args:List TV)(Hs:List AObj)(r:TV)(Hs':List AObj):Prop:=
 xF P f=true/\Hs.length<=Hs'.length/\
 ∀(w:World) (vals:List Value) (β:Nat->Option Nat) (Y:Nat->Prop),
  (∀o b,β o=some b->o<Hs.length)->(∀b,Y b->b<w.heap.size)->Gl P w (Own (λo=>Hs.getD o .gone) β)->
  Objs (λo=>Hs.getD o .gone) β Y w->
  LRep (TRep w (λb=>Y b\/Own (λo=>Hs.getD o .gone) β b) β) args vals->
  Calls P f vals.toArray w λe w'=> ∃v β',e=.returned v/\
   Good w (Own (λo=>Hs.getD o .gone) β) w'/\
   Objs (λo=>Hs'.getD o .gone) β' Y w'/\
   TRep w' (λb=>Y b\/Own (λo=>Hs'.getD o .gone) β' b) β' r v/\
   (∀o b,β' o=some b->o<Hs'.length)/\
   (∀o,o<Hs.length->β' o=β o)/\
   (∀o b,Hs.length<=o->β' o=some b->w.heap.size<=b\/Own (λo=>Hs.getD o .gone) β b)
theorem Zo {w w':World}{b d:Nat}(h:w'.heap[b]?=w.heap[b]?):w'.cell? ⟨b,d,none⟩=w.cell? ⟨b,d,none⟩:=by simp[World.cell?,h]
theorem FRep.mono {w w':World} {X X':Nat->Prop} {f:FV} {v:Value} (h:FRep w X f v) (J:w.heap.size<=w'.heap.size)
  (o:∀b,¬X b->b<w.heap.size->w'.heap[b]?=w.heap[b]? /\¬X' b):FRep w' X' f v:=by
 induction h with
 |int k n=>exact .int k n
 |bool b=>exact .bool b
 |str l=>exact .str l
 |cst v h=>exact .cst v h
 |N=>exact .N
 |slnil n=>exact .slnil n
 |sl0 r n a=>exact .sl0 r n a
 |z0 r a=>exact .z0 r a
 |z0n=>exact .z0n
 |sl r n es b g cap A u y x m d z p G ih=>exact .sl r n es b g cap A u y x (o b m d).2 za z (λi j e f F C=>(Zo (o b m d).1).trans<|p i j e f F C) ih
 |pt cs b g u m d p G ih=>exact .pt cs b g u (o b m d).2 za (λj f C=>(Zo (o b m d).1).trans<|p j f C) ih
 |mp es b ms H I y x m d z p _ _ E D=>exact .mp es b ms H I (o b y x).2 za ((o b y x).1.trans m) d z p E D
theorem ARep.mono {w w':World} {X X':Nat->Prop} {β u:Nat->Option Nat} {f:AV} {v:Value} (h:ARep w X β f v) (E:w.heap.size<=w'.heap.size)
  (C:∀b,¬X b->b<w.heap.size->w'.heap[b]?=w.heap[b]? /\¬X' b) (m:∀b,b<w.heap.size->w'.shape? b=w.shape? b)
  (d:∀o b,β o=some b->u o=some b/\b<w.heap.size):ARep w' X' u f v:=by
 cases h with
 |fz x v h=>exact .fz x v<|h.mono E C
 |ep o n i j b h=>exact .ep o n i j b (d _ _ h).1
 |osl o n r p b q cap sz t g y z A D=>exact .osl o n r p b q cap sz t (d _ _ g).1 ((m _ (d _ _ g).2).trans y) z A D
 |oslN o n r=>exact .oslN o n r
 |mp o b h=>exact .mp o b (d _ _ h).1
 |any v h=>exact .any v h
 |bld t o b v g y z=>exact .bld t o b v (d _ _ g).1 ((m _ (d _ _ g).2).trans y) z
 |osb o e p b cap g y z A=>exact .osb o e p b cap (d _ _ g).1 ((m _ (d _ _ g).2).trans y) z A
theorem LRep.imp {α:Type}{R R':α->Value->Prop}{cs:List α}{b:List Value}(h:LRep R cs b)(e:∀c u,c∈cs->R c u->R' c u):LRep R' cs b:=
 ⟨h.1,λj c u d f=>e c u (Aq d)<|h.2 j c u d f⟩
theorem PRep.imp {α:Type}{R R':α->Value->Prop}{p:Bool×List α}{v:Value}(h:PRep R p v)(b:∀c u,c∈p.2->R c u->R' c u):PRep R' p v:=
 let ⟨us,h1,h2,h3⟩:=h;⟨us,h1,h2.imp b,h3⟩
structure Goes (w w':World)(X X':Nat->Prop)(β β':Nat->Option Nat):Prop where
 size:w.heap.size<=w'.heap.size
 blk:∀b,¬X b->b<w.heap.size->w'.heap[b]?=w.heap[b]? /\¬X' b
 shp:∀b,b<w.heap.size->w'.shape? b=w.shape? b
 bet:∀o b,β o=some b->β' o=some b/\b<w.heap.size
theorem FRep.goes {w w':World}{X X':Nat->Prop}{β b:Nat->Option Nat}{f:FV}{v:Value}(h:FRep w X f v)(g:Goes w w' X X' β b):FRep w' X' f v:=h.mono g.size g.blk
theorem ARep.goes {w w':World}{X X':Nat->Prop}{β b:Nat->Option Nat}{f:AV}{v:Value}(h:ARep w X β f v)(g:Goes w w' X X' β b):ARep w' X' b f v:=h.mono g.size g.blk g.shp g.bet
theorem WRep.goes {w w':World}{X X':Nat->Prop}{β d:Nat->Option Nat}{f:WV}{v:Value}(h:WRep w X β f v)(g:Goes w w' X X' β d):WRep w' X' d f v:=by
 cases h with
 |a x v h=>exact .a x v<|h.goes g
 |fn f first b i vs j e=>exact .fn f first b i vs (j.imp λ_ _ _ h=>h.imp λ_ _ _ h=>h.goes g) (e.imp λ_ _ _ h=>h.imp λ_ _ _ h=>h.goes g)
theorem TRep.goes {w w':World}{X X':Nat->Prop}{β b:Nat->Option Nat}{f:TV}{v:Value}(h:TRep w X β f v)(g:Goes w w' X X' β b):TRep w' X' b f v:=by
 cases f with
 |any=>trivial
 |c x=>exact WRep.goes h g
 |agg cs=>obtain⟨d,e,i⟩:=h;exact⟨d,e,i.imp λ_ _ _ h=>h.goes g⟩
 |tup vs=>obtain⟨d,e,i⟩:=h;exact⟨d,e,i.imp λ_ _ _ h=>h.imp λ_ _ _ h=>h.goes g⟩
theorem ORep.goes {w w':World}{X X':Nat->Prop}{β r:Nat->Option Nat}{o:AObj}{b:Nat}(h:ORep w X β o b)(g:Goes w w' X X' β r)(A:w'.heap[b]?=w.heap[b]?):ORep w' X' r o b:=by
 have key:∀n es,ORep w X β (.arr n es) b->ORep w' X' r (.arr n es) b:=by intro n es h;obtain⟨F,t,f,v,z,d⟩:=h;exact⟨F,t,A.trans f,v,z,λi j e c p D=>let ⟨u,hu,hr⟩:=d i j e c p D;⟨u,hu,hr.goes g⟩⟩
 cases o with
 |gone=>trivial
 |arz n H=>exact key _ _ h
 |arr n es=>obtain⟨F,t,f,v,z,d⟩:=h;exact⟨F,t,A.trans f,v,z,λi j e c p D=>let ⟨u,hu,hr⟩:=d i j e c p D;⟨u,hu,hr.goes g⟩⟩
 |mapo es=>obtain⟨ms,C,f,v,z,d,E⟩:=h;exact⟨ms,C,A.trans f,v,λi e m p G=>let ⟨x,y⟩:=z i e m p G;⟨x.imp λ_ _ _ h=>h.goes g,y.imp λ_ _ _ h=>h.goes g⟩,d,E⟩
 |mapz es=>obtain⟨ms,C,f,v,z,d,E⟩:=h;exact⟨ms,C,A.trans f,v,λi e m p G=>let ⟨x,y⟩:=z i e m p G;⟨x.imp λ_ _ _ h=>h.goes g,y.imp λ_ _ _ h=>h.goes g⟩,d,E⟩
theorem Good.refl (w:World)(foot:Nat->Prop):Good w foot w:=⟨tJ _,λ_ _ _=>rfl,λ_ _=>rfl,rfl,rfl,rfl⟩
theorem Good.trans {a b c:World}{f g:Nat->Prop}(h:Good a f b)(k:Good b g c)(j:∀x,x<a.heap.size->g x->f x):Good a f c:=
 ⟨AX h.size k.size,λx d i=>(k.blk x (AK d h.size) λe=>i<|j x d e).trans<|h.blk x d i,
  λx d=>(k.shp x<|AK d h.size).trans (h.shp x d),k.os.trans h.os,k.tape.trans h.tape,k.output.trans h.output⟩
theorem Good.drew {a b:World}{f:Nat->Prop}(h:Good a f b):Good a f {b with drawn:=b.drawn+1}:=⟨h.size,h.blk,h.shp,h.os,h.tape,h.output⟩
structure Moves (h h':Nat->AObj)(β β':Nat->Option Nat)(Y:Nat->Prop)(w w':World)(fr:Nat->Prop):Prop where
 good:Good w (Own h β) w'
 objs:Objs h' β' Y w'
 bmono:∀o b,β o=some b->β' o=some b
 bnew:∀o b,β' o=some b->β o=some b\/(fr o/\(w.heap.size<=b\/Own h β b))
 lmono:∀o,isLive (h' o)->isLive (h o)\/fr o
theorem Moves.goes {h h':Nat->AObj}{β d:Nat->Option Nat}{Y:Nat->Prop}{w w':World}{fr:Nat->Prop}(m:Moves h h' β d Y w w' fr)(v:Objs h β Y w)(i:∀o,fr o->β o=none):
  Goes w w' (λb=>Y b\/Own h β b) (λb=>Y b\/Own h' d b) β d:=by
 refine⟨m.good.size,λb f e=>⟨m.good.blk b e λh=>f<|.inr h,λg=>?_⟩,m.good.shp,λo b e=>⟨m.bmono o b e,v.lt o b e⟩⟩;rcases g with u|⟨o,r,p⟩
 .exact f<|.inl u
 .rcases m.bnew o b p with hb' |⟨hf,hb' |hb'⟩
  .rcases m.lmono o r with j|hf
   .exact f<|.inr ⟨o,j,hb'⟩
   .rw[i o hf] at hb';cases hb'
  .omega
  .exact f<|.inr hb'
theorem Moves.refl {h h':Nat->AObj}{β:Nat->Option Nat}{Y:Nat->Prop}{w:World}(d:Objs h β Y w)(b:∀o,h' o=h o):Moves h h' β β Y w w (λ_=>False):=by have:h'=h:=funext b;subst this;exact⟨Good.refl _ _,d,λ_ _ h=>h,λ_ _ h=>.inl h,λ_ h=>.inl h⟩
theorem LRep.map {α f:Type}{R:α->Value->Prop}{R':f->Value->Prop}{g:α->f}{cs:List α}{e:List Value}(h:LRep R cs e)(m:∀c u,c∈cs->R c u->R' (g c) u):LRep R' (cs.map g) e:=by refine⟨by simp[h.1],λj c u i o=>?_⟩;rw[tV] at i;obtain⟨d,b,rfl⟩:=tH.1 i;exact m d u (Aq b)<|h.2 j d u b o
theorem LRep.unmap {α d:Type}{R:α->Value->Prop}{R':d->Value->Prop}{g:α->d}{cs:List α}{b:List Value}(h:LRep R' (cs.map g) b)(f:∀c u,c∈cs->R' (g c) u->R c u):LRep R cs b:=by refine⟨by have:=h.1;exact zp this,λj c u e i=>?_⟩;exact f c u (Aq e)<|h.2 j (g c) u (by rw[tV,e];rfl) i
theorem PRep.map {α b:Type}{R:α->Value->Prop}{R':b->Value->Prop}{g:α->b}{p:Bool×List α}{v:Value}(h:PRep R p v)(d:∀c u,c∈p.2->R c u->R' (g c) u):PRep R' (p.1,p.2.map g) v:=
 let ⟨us,h1,h2,h3⟩:=h;⟨us,h1,h2.map d,λh=>by simpa using h3 h⟩
theorem PRep.unmap {α b:Type}{R:α->Value->Prop}{R':b->Value->Prop}{g:α->b}{p:Bool×List α}{v:Value}(h:PRep R' (p.1,p.2.map g) v)(d:∀c u,c∈p.2->R' (g c) u->R c u):PRep R p v:=
 let ⟨us,h1,h2,h3⟩:=h;⟨us,h1,h2.unmap d,λh=>by simpa using h3 h⟩
structure St where
 env:Env
 heap:AHeap
 nx:Nat
def putE (d:Option Nat)(v:TV)(e:Env):Env:=
 match d with
 |some i=>(i,v)::e
 |none=>e
def want (ops:Array Oper)(o:Oper)(e:Nat->TV):Option Bool:=
 match o.guard with
 |none=>some true
 |some (j,b)=>match ((ops[j]?).bind (·.dst)).map e with
  |some (.c (.a (.fz (.bool x))))=>some<|x==b
  |some (.tup [])=>some false
  |_=>none
def AV.ren (σ:Nat->Nat):AV->AV
 |.ep o n i j=>.ep (σ o) n i j
 |.osl o n off len=>.osl (σ o) n off len
 |.mp o=>.mp<|σ o
 |.bld t o=>.bld t<|σ o
 |.osb o e n=>.osb (σ o) e n
 |x=>x
def WV.ren (σ:Nat->Nat):WV->WV
 |.a x=>.a<|x.ren σ
 |.fn f first cap=>.fn f (first.map λp=>(p.1,p.2.map<|AV.ren σ))<|cap.map λp=>(p.1,p.2.map<|AV.ren σ)
def TV.ren (σ:Nat->Nat):TV->TV
 |.any=>.any
 |.c x=>.c<|x.ren σ
 |.agg cs=>.agg<|cs.map<|WV.ren σ
 |.tup vs=>.tup<|vs.map λp=>(p.1,p.2.map<|WV.ren σ)
def AObj.ren (σ:Nat->Nat):AObj->AObj
 |.gone=>.gone
 |.arr n es=>.arr n<|es.map λe=>e.map<|WV.ren σ
 |.arz n fs=>.arz n fs
 |.mapo es=>.mapo<|es.map λe=>(e.1,(e.2.1,e.2.2.map<|WV.ren σ))
 |.mapz es=>.mapz es
def AV.lt (m:Nat):AV->Bool
 |.ep o _ _ _=>o<m
 |.osl o _ _ _=>o<m
 |.mp o=>o<m
 |.bld _ o=>o<m
 |.osb o _ _=>o<m
 |_=>true
def WV.lt (m:Nat):WV->Bool
 |.a x=>x.lt m
 |.fn _ first cap=>(first.all λp=>p.2.all<|AV.lt m)&&(cap.all λp=>p.2.all<|AV.lt m)
def TV.lt (m:Nat):TV->Bool
 |.any=>true
 |.c x=>x.lt m
 |.agg cs=>cs.all<|WV.lt m
 |.tup vs=>vs.all λp=>p.2.all<|WV.lt m
def AObj.lt (m:Nat):AObj->Bool
 |.gone=>true
 |.arr _ es=>es.all λe=>e.all<|WV.lt m
 |.arz _ _=>true
 |.mapo es=>es.all λe=>e.2.2.all<|WV.lt m
 |.mapz _=>true
inductive FV.Le:FV->FV->Prop
 |refl (x:FV):FV.Le x x
 |N (n:Nat):FV.Le .N (.sl false n [])
 |nn (b:Bool) (n:Nat) (es:List (List FV)):FV.Le (.sl b n es) (.sl false n es)
 |z0 (nn:Bool) (n:Nat):FV.Le (.z0 nn) (.sl nn n [])
 |rows (b:Bool) (n:Nat) (es es':List (List FV)):es.length=es'.length->(∀(i:Nat) (e e':List FV),es[i]?=some e->es'[i]?=some e'->e.length=e'.length)->(∀(i j:Nat) (e e':List FV) (f f':FV),es[i]?=some e->es'[i]?=some e'->e[j]?=some f->e'[j]?=some f'->FV.Le f f')->FV.Le (.sl b n es) (.sl b n es')
 |trans (x y z:FV):FV.Le x y->FV.Le y z->FV.Le x z
def All2 {α β:Type}(R:α->β->Prop):List α->List β->Prop
 |[],[]=>True
 |x::xs,y::ys=>R x y/\All2 R xs ys
 |_,_=>False
abbrev Lent:=List<|Nat×Nat×List (List FV)
def Lent.ok (L:Lent)(h:Nat->AObj):Prop:=∀p∈L,flat (h p.1)=.arr p.2.1 (p.2.2.map fzs)
def y4 {α:Type}:List (Nat×α)->Nat->Option α
 |[],_=>none
 |(j,x)::l,i=>if j=i then some x else y4 l i
def AV.lend (L:Lent):AV->AV
 |.osl o n off len=>match y4 L o with
  |some p=>if n=p.1/\off+len<=p.2.length then .fz (.sl false n<|(p.2.drop off).take len) else .osl o n off len
  |none=>.osl o n off len
 |x=>x
def WV.lend (L:Lent):WV->WV
 |.a x=>.a<|x.lend L
 |x=>x
def TV.lend (L:Lent):TV->TV
 |.c x=>.c<|x.lend L
 |.agg cs=>.agg<|cs.map<|WV.lend L
 |x=>x
def AObj.lend (L:Lent):AObj->AObj
 |.arr n es=>.arr n<|es.map λe=>e.map<|WV.lend L
 |x=>x
def FV.scalar:FV->Bool
 |.sl _ _ _=>false
 |.pt _=>false
 |.mp _=>false
 |_=>true
def AV.scalar:AV->Bool
 |.fz x=>x.scalar
 |.any=>false
 |_=>true
def WV.scalar:WV->Bool
 |.a x=>x.scalar
 |_=>false
def TV.scalar:TV->Bool
 |.any=>true
 |.c x=>x.scalar
 |.agg cs=>cs.all WV.scalar
 |.tup vs=>vs.all λp=>p.2.all WV.scalar
def over (u:AHeap)(h:Nat->AObj)(o:Nat):AObj:=match y4 u o with|some x=>x|none=>h o
def sub (ids:List Nat)(fr o:Nat):Nat:=if o<ids.length then ids.getD o 0 else fr+(o-ids.length)
inductive AV.Le:AV->AV->Prop
 |refl (x:AV):AV.Le x x
 |fz (x y:FV):FV.Le x y->AV.Le (.fz x) (.fz y)
 |any (x:AV):AV.Le x .any
inductive WV.Le:WV->WV->Prop
 |refl (x:WV):WV.Le x x
 |a (x y:AV):AV.Le x y->WV.Le (.a x) (.a y)
inductive TV.Le:TV->TV->Prop
 |refl (x:TV):TV.Le x x
 |any (x:TV):TV.Le x .any
 |c (x y:WV):WV.Le x y->TV.Le (.c x) (.c y)
 |agg (xs ys:List WV):xs.length=ys.length->(∀(i:Nat) (x y:WV),xs[i]?=some x->ys[i]?=some y->WV.Le x y)->TV.Le (.agg xs) (.agg ys)
 |tup (xs ys:List (Bool×List WV)):xs.length=ys.length->(∀(i:Nat) (p q:Bool×List WV),xs[i]?=some p->ys[i]?=some q->p.1=q.1/\p.2.length=q.2.length/\
   ∀(j:Nat) (x y:WV),p.2[j]?=some x->q.2[j]?=some y->WV.Le x y)->TV.Le (.tup xs) (.tup ys)
def xO (σ:Nat->Nat)(fr:Nat):List AObj->AHeap
 |[]=> []
 |o::r=>(fr,o.ren σ)::xO σ (fr+1) r
def yC (σ:Nat->Nat):List Nat->List AObj->AHeap
 |i::ids,o::r=>(i,o.ren σ)::yC σ ids r
 |_,_=> []
def CallK (P:Program)(f:FuncId)(args:List TV)(h:Nat->AObj)(fr:Nat)(K:TV->AHeap->List Nat->Prop):Prop:=
 ∃(ids:List Nat) (L:Lent) (args':List TV) (Hs:List AObj) (r:TV) (Hs':List AObj),
  AC P f args' Hs r Hs'/\(ids.Nodup/\∀i∈ids,i<fr)/\Hs'.length<=ids.length+32/\
  (Hs.map (AObj.ren<|sub ids fr)=ids.map h/\Hs.all (AObj.lt ids.length)=true)/\
  All2 TV.Le (args.map<|TV.lend L) (args'.map<|TV.ren<|sub ids fr)/\args'.all (TV.lt ids.length)=true/\(∀i∈ids,isLive<|h i)/\
  (L=[]\/(L.ok h/\(∀p∈L,p.1 ∉ ids)/\r.scalar=true/\Hs'=[]))/\
  ∃F:List Nat,(∀i∈F,y4 (yC (sub ids fr) ids Hs') i=some (h i))/\
  K (r.ren<|sub ids fr) ((yC (sub ids fr) ids Hs'++xO (sub ids fr) fr (Hs'.drop ids.length)).filter λp=> !F.contains p.1) (ids++L.map Prod.fst)
def CallE (P:Program)(f:FuncId)(args:List TV)(h:Nat->AObj)(fr:Nat)(K:TV->AHeap->List Nat->Prop):Prop:=
 ∃E:Lent,E.ok h/\CallK P f (args.map<|TV.lend E) (over (E.map λp=>(p.1,AObj.gone)) h) fr
  (λr u rd=>K r (u++E.map λp=>(p.1,AObj.gone))<|rd++E.map Prod.fst)
def calleeOf (ρ:Operand->TV)(c:Call):Option (FuncId×List TV):=
 match c.callee with
 |.value x=>match ρ x with
  |.c (.fn (.func f) first cap)=>some (f,first.map (λp=>match p with|(true,cs)=>TV.agg (cs.map WV.a)|(false,[x])=>TV.c (.a x)|_=>TV.any)++c.args.toList.map ρ++cap.map λp=>match p with|(true,cs)=>TV.agg (cs.map WV.a)|(false,[x])=>TV.c (.a x)|_=>TV.any)
  |_=>none
 |_=>none
abbrev wq:=List<|List Nat×List Nat
def goCall:Op->Option Call
 |.call ⟨.value x,a9,ts⟩=>some ⟨.value x,a9,ts⟩
 |_=>none
def pO (P:Program)(fr:Nat)(o:Oper)(e:Env)(h:AHeap)(tr:wq)(next:Env->AHeap->wq->Prop):Prop:=
 match goCall o.op with
 |some c=>
  match calleeOf (ev e) c with
  |some (f,args)=>CallE P f args (hook h) fr λr h' ids=>next (putE o.dst r e) (h'++h) ((ids,h'.map Prod.fst)::tr)
  |none=>False
 |none=>
  match aopS P o fr (ev e) (hook h) with
  |some r=>next (putE o.dst r.val e) (r.upd++h) ((r.rd,r.upd.map Prod.fst)::tr)
  |none=>False
def K0 (ops:Array Oper)(o:Oper)(e:Env)(h:AHeap)(tr:wq)(yes:Prop)(next:Env->AHeap->wq->Prop):Prop:=
 match want ops o (look e) with
 |none=>False
 |some w=>if w=true then yes else next (putE o.dst (.tup []) e) h (([],[])::tr)
def lex (P:Program)(ops:Array Oper)(nx:Nat):List Oper->Nat->Env->AHeap->wq->(Env->AHeap->wq->Prop)->Prop
 |[],_,e,h,tr,K=>K e h tr
 |o::rest,i,e,h,tr,K=>K0 ops o e h tr (pO P (nx+32*i) o e h tr λe h tr=>lex P ops nx rest (i+1) e h tr K) λe h tr=>lex P ops nx rest (i+1) e h tr K
def JN (ops:Array Oper)(tr:wq):Bool:=
 let b:=Region.before ops;let l:=ops.toList.zip tr.reverse
 (l.length==ops.size)&&(ops.toList.zipIdx.all λp=>p.1.after.all λe=> !Region.binds .any e||e.on<p.2) &&
 l.zipIdx.all λy=>l.zipIdx.all λx=> !(x.2<y.2)||(b.getD y.2 0).testBit x.2 ||
  (x.1.1.apart ops y.1.1&&(x.1.2.2.all λo=> !(y.1.2.1.contains o) && !(y.1.2.2.contains o))&&(y.1.2.2.all λo=> !(x.1.2.1.contains o)))
def dstB (ops:Array Oper)(n:Nat):Bool:=ops.all λo=>match o.dst with|some d=>d<n|none=>true
theorem wI {P:Program}{t:TypeId}{d:TyD}(h:tyOf P t=some d):∃i u,P.info? t=some i/\P.underlying t=some u/\
  d.agg=(match u with|.struct _|.array _ _=>true|_=>false)/\d.size=i.size/\d.bytes=i.bytes/\
  d.zero=(match i.zero with|some z=>if z.cells.all Value.oneCell' then some (z.cells.toList.map fvOf) else none|none=>none)/\d.kind=xQ P u:=by
 unfold tyOf at h;split at h;next i u e b=>simp only[tL] at h;subst h;exact⟨i,u,e,b,rfl,rfl,rfl,rfl,rfl⟩
 .cases h
theorem zV {P:Program}{t:TypeId}{d:TyD}(h:tyOf P t=some d)(w:World):(sizeOf t).run P w=.ok d.size w:=by obtain⟨i,u,e,f,_,b,_⟩:=wI h;simp[sizeOf,typeInfo,e,b]
theorem qx {P:Program}{t:TypeId}{d:TyD}(h:tyOf P t=some d)(w:World):(isAgg t).run P w=.ok d.agg w:=by obtain⟨i,u,f,b,e,_⟩:=wI h;rw[e];cases u<;>simp[isAgg,tT b]
theorem aD (w:World)(X:Nat->Prop)(v:Value)(h:v.oneCell'=true):FRep w X (fvOf v) v:=by
 unfold fvOf;split
 .exact .int _ _
 .exact .bool _
 .exact .str _
 .exact .N
 .exact .cst _ h
theorem tvOf_rep (w:World)(X:Nat->Prop)(β:Nat->Option Nat)(v:Value):TRep w X β (tvOf v) v:=by
 unfold tvOf;split
 .rename_i cs;split
  .rename_i e;refine⟨cs.toList,zb,zb,λj c u b d=>?_⟩;simp only[tV,d,tW,tL] at b;subst b;refine .a _ _<|.fz _ _<|aD w X u ?_;have:=Aq d;simp only[Az] at e;exact e u (zp this)
  .trivial
 .trivial
 .exact .a _ _<|.fz _ _<|.int _ _
 .exact .a _ _<|.fz _ _<|.bool _
 .exact .a _ _<|.fz _ _<|.str _
 .exact .a _ _<|.fz _ _ .N
 .rename_i v o h f m i g;refine .a _ _<|.fz _ _<|.cst _ ?_;cases v<;>simp_all[Value.oneCell']
section
variable {w:World} {X:Nat->Prop} {β:Nat->Option Nat}
theorem TRep.int_inv {k:IntKind}{n:Int}{v:Value}(h:TRep w X β (.c<|.a<|.fz<|.int k n) v):v=.int k n:=by cases h with|a _ _ h=>cases h with|fz _ _ h=>cases h;rfl
theorem TRep.bool_inv {b:Bool}{v:Value}(h:TRep w X β (.c<|.a<|.fz<|.bool b) v):v=.bool b:=by cases h with|a _ _ h=>cases h with|fz _ _ h=>cases h;rfl
theorem TRep.str_inv {l:List UInt8}{v:Value}(h:TRep w X β (.c<|.a<|.fz<|.str l) v):v=.string ⟨l.toArray⟩:=by cases h with|a _ _ h=>cases h with|fz _ _ h=>cases h;rfl
theorem TRep.nils_inv {v:Value}(h:TRep w X β (.c<|.a<|.fz .N) v):v=.slice none 0 0:=by cases h with|a _ _ h=>cases h with|fz _ _ h=>cases h;rfl
theorem TRep.ep_inv {o n i j:Nat}{v:Value}(h:TRep w X β (.c<|.a<|.ep o n i j) v):∃b,β o=some b/\v=.pointer (some ⟨b,i*n+j,none⟩):=by cases h with|a _ _ h=>cases h with|ep _ _ _ _ b h=>exact⟨b,h,rfl⟩
theorem TRep.osl_inv {o n e d:Nat}{v:Value}(h:TRep w X β (.c<|.a<|.osl o n e d) v):
  (∃b q cap sz t,β o=some b/\w.shape? b=some (t,sz)/\d<=cap/\(e+cap)*n<=sz/\(q=e*n\/cap=0)/\v=.slice (some ⟨b,q,none⟩) d cap)\/(d=0/\v=.slice none 0 0):=by
 cases h with|a _ _ h=>cases h with
  |osl _ _ _ _ b q cap sz t g j i f m=>exact .inl ⟨b,q,cap,sz,t,g,j,i,f,m,rfl⟩
  |oslN=>exact .inr ⟨rfl,rfl⟩
theorem TRep.mp_inv {o:Nat}{v:Value}(h:TRep w X β (.c<|.a<|.mp o) v):∃b,β o=some b/\v=.map (some b):=by cases h with|a _ _ h=>cases h with|mp _ b h=>exact⟨b,h,rfl⟩
theorem TRep.fz_inv {x:FV}{v:Value}(h:TRep w X β (.c<|.a<|.fz x) v):FRep w X x v:=by cases h with|a _ _ h=>cases h with|fz _ _ h=>exact h
theorem TRep.fz_mk {x:FV}{v:Value}(h:FRep w X x v):TRep w X β (.c<|.a<|.fz x) v:=.a _ _<|.fz _ _ h
theorem TRep.int_mk (k:IntKind)(n:Int):TRep w X β (.c<|.a<|.fz<|.int k n) (.int k n):=.a _ _<|.fz _ _<|.int _ _
theorem TRep.bool_mk (b:Bool):TRep w X β (.c<|.a<|.fz<|.bool b) (.bool b):=.a _ _<|.fz _ _<|.bool _
theorem TRep.str_mk (l:List UInt8):TRep w X β (.c<|.a<|.fz<|.str l) (.string ⟨l.toArray⟩):=.a _ _<|.fz _ _<|.str _
theorem FRep.oneCell {x:FV}{v:Value}(h:FRep w X x v):v.oneCell'=true:=by cases h<;>first|rfl|assumption
theorem WRep.oneCell {x:WV}{v:Value}(h:WRep w X β x v):v.oneCell'=true:=by
 cases h with
 |a x v h=>cases h<;>first|rfl|assumption|(rename_i h;exact h.oneCell)|(rename_i h;rcases h with rfl|rfl<;>rfl)
 |fn=>rfl
theorem LRep.take {α:Type}{R:α->Value->Prop}{cs:List α}{e:List Value}(h:LRep R cs e)(n:Nat):LRep R (cs.take n) (e.take n):=by
 refine⟨by simp[h.1],λj c u b d=>?_⟩;rw[AL] at b d;split at b
 .simp_all only [↓reduceIte];exact h.2 j c u b d
 .cases b
theorem LRep.drop {α:Type}{R:α->Value->Prop}{cs:List α}{e:List Value}(h:LRep R cs e)(n:Nat):LRep R (cs.drop n) (e.drop n):=by refine⟨by simp[h.1],λj c u d b=>?_⟩;rw[E2] at d b;exact h.2 _ c u d b
theorem LRep.append {α:Type}{R:α->Value->Prop}{cs e:List α}{f vs:List Value}(h:LRep R cs f)(k:LRep R e vs):LRep R (cs++e) (f++vs):=by
 refine⟨by simp[h.1,k.1],λj c u d b=>?_⟩;rw[AQ] at d b;have:=h.1;split at d
 .rw[tG za] at b;exact h.2 _ c u d b
 .rw[tD za] at b;rw[this] at d;exact k.2 _ c u d b
theorem LRep.nil {α:Type}{R:α->Value->Prop}:LRep R [] []:=⟨rfl,λj c u b _=>by simp at b⟩
theorem LRep.cons {α:Type}{R:α->Value->Prop}{c:α}{u:Value}{cs:List α}{e:List Value}(h:R c u)(k:LRep R cs e):LRep R (c::cs) (u::e):=
 ⟨by simp[k.1],λj g f d b=>by
  cases j with
  |zero=>simp at d b;subst d;subst b;exact h
  |succ j=>simp at d b;exact k.2 j g f d b⟩
theorem LRep.cons_inv {α:Type}{R:α->Value->Prop}{c:α}{cs:List α}{d:List Value}(h:LRep R (c::cs) d):∃u b,d=u::b/\R c u/\LRep R cs b:=by
 cases d with
 |nil=>have:=h.1;simp at this
 |cons u b=>exact⟨u,b,rfl,h.2 0 c u rfl rfl,by have:=h.1;exact zp this,λj i f g e=>h.2 (j+1) i f (zp g)<|zp e⟩
theorem LRep.nil_inv {α:Type}{R:α->Value->Prop}{b:List Value}(h:LRep R [] b):b=[]:=by have:=h.1;cases b<;>simp_all
theorem LRep.get {α:Type}{R:α->Value->Prop}{cs:List α}{b:List Value}(h:LRep R cs b){j:Nat}{c:α}(e:cs[j]?=some c):∃u,b[j]?=some u/\R c u:=by
 have d:j<b.length:=by have:=(tQ.1 e).1;have:=h.1;omega
 exact⟨b[j],tO d,h.2 j c _ e<|tO d⟩
theorem Zf {x:TV}{v:Value}{cs:List WV}(h:TRep w X β x v)(b:uI x=some cs):LRep (WRep w X β) cs v.cells.toList:=by
 cases x with
 |any=>simp[uI] at b
 |tup vs=>simp[uI] at b
 |c x=>simp only[uI,tL] at b;subst b;have e:=WRep.oneCell h;cases v<;>first|(simp[Value.oneCell'] at e;done)|exact .cons h .nil
 |agg f=>simp only[uI,tL] at b;subst b;obtain⟨g,rfl,d⟩:=h;simpa[Value.cells] using d
end
theorem JX {P:Program} {t:TypeId} {d:TyD} (hd:tyOf P t=some d) {w:World} {X:Nat->Prop} {β:Nat->Option Nat} {b e:Nat} {cs:List WV} {v:TV} (f:List Value) (m:LRep (WRep w X β) cs f)
  (y:∀j u,f[j]?=some u->w.cell? ⟨b,e+j,none⟩=some u) (h:ZK d cs=some v):
  ∃u,(Instr.loadAt t<|.pointer<|some ⟨b,e,none⟩).run P w=.ok u w/\TRep w X β v u:=by
 unfold ZK at h;split at h
 .rename_i o;split at h
  .rename_i A;simp only[tL] at h;subst h;have g:(f.take d.size).length=d.size:=by rw[AH,<-m.1];omega
   have p:=run_loadCells_list (P:=P) w ⟨b,e,none⟩ (f.take d.size) (λj u i=>by
    rw[Addr.add_lit];rw[AL] at i;split at i
    .exact y j u i
    .cases i)
   rw[g] at p;refine⟨.agg (f.take d.size).toArray,?_,f.take d.size,rfl,m.take _⟩;simp[Instr.loadAt,Instr.sureAddr,loadVar,qx hd,o,zV hd,p]
  .cases h
 .rename_i o;split at h;next x D=>simp only[tL] at h;subst h;obtain⟨u,z,rfl,C,_⟩:=m.cons_inv;have r:=y 0 u rfl;refine⟨u,?_,C⟩;rw[Ed] at r;simp[Instr.loadAt,Instr.sureAddr,loadVar,qx hd,o,r]
  .cases h
section
variable {P:Program} {w:World} {X:Nat->Prop} {β:Nat->Option Nat}
theorem ww (op:BinOp)(t:TypeId)(x y:Operand)(a b:Value)(d:∀cs,a ≠ .agg cs)(e:a ≠ .nilIface):(eqGuard op t x y a b).run P w=.ok () w:=by
 cases a<;>first
  |(exact absurd rfl (d _))
  |(exact absurd rfl e)
  |(simp only[eqGuard];split<;>rfl)
theorem pw {op:BinOp}{k:IntKind}{a b:Int}{v:FV}(t:TypeId)(h:Kv op k a b=some v):∃u,(binOp op t (.int k a)<|.int k b).run P w=.ok u w/\FRep w X v u:=by
 cases op<;>simp only[Kv,tL,reduceCtorEq] at h
 case quo=>
  split at h
  .cases h
  next d=>simp only[tL] at h;subst h;exact⟨_,by simp[binOp,Op.intDiv,d],.int _ _⟩
 case rem=>
  split at h
  .cases h
  next d=>simp only[tL] at h;subst h;exact⟨_,by simp[binOp,Op.intDiv,d],.int _ _⟩
 all_goals
  subst h
  first
  |exact⟨_,by simp[binOp,Op.intArith],.int _ _⟩
  |exact⟨_,by simp[binOp,Op.intCmp],.bool _⟩
theorem lh {op:BinOp}{a b:List UInt8}{v:FV}(t:TypeId)(h:cQ op a b=some v):∃u,(binOp op t (.string ⟨a.toArray⟩)<|.string ⟨b.toArray⟩).run P w=.ok u w/\FRep w X v u:=by
 cases op<;>simp only[cQ,tL,reduceCtorEq] at h
 case add=>
  split at h
  .rename_i i;simp only[tL] at h;subst h;refine⟨.string ⟨(a++b).toArray⟩,?_,.str _⟩;have g:(⟨a.toArray⟩:ByteArray).size=a.length:=by simp[ByteArray.size]
   have e:(⟨b.toArray⟩:ByteArray).size=b.length:=by simp[ByteArray.size]
   have f:(⟨a.toArray⟩:ByteArray)++⟨b.toArray⟩=⟨(a++b).toArray⟩:=by apply ByteArray.ext;simp
   have d:¬((((⟨a.toArray⟩:ByteArray).size+(⟨b.toArray⟩:ByteArray).size:Nat):Int)>IntKind.i64.max):=by rw[g,e];simp only[IntKind.max,IntKind.signed,IntKind.bits];simp;omega
   simp only[binOp,Op.stringOp,d,A6,f,Av]
  .cases h
 all_goals
  subst h;exact⟨_,by simp[binOp,Op.stringOp,ByteArray.toList_eq],.bool _⟩
theorem bU {t:TypeId}{k:EK}(h:ekOf P t=some k):(∃d,P.underlying t=some d/\(match d with|.struct _|.array _ _=>False|_=>True)):=by unfold ekOf at h;split at h<;>simp_all
theorem kr {t:TypeId}{k:EK}(h:ekOf P t=some k)(cs:Array Value)(b:Nat)(v:Value)(e:cs[b]?=some v):(part t cs b).run P w=.ok v w:=by
 obtain⟨d,hd,f⟩:=bU h;have g:(isAgg t).run P w=.ok false w:=by cases d<;>first|exact f.elim|simp[isAgg,tT hd]
 simp[part,g,e]
theorem um {k:EK}{l:List EK}{xs ys:List WV}{r:Bool}(h:zY (k::l) xs ys=some r):
  ∃x y g f b e,xs=x::g/\ys=y::f/\zY l g f=some e/\r=(b&&e)/\
   ((k=.int/\∃i n m,x=.a (.fz<|.int i n)/\y=.a (.fz<|.int i m)/\b=(n==m))\/(k=.bool/\∃n m,x=.a (.fz<|.bool n)/\y=.a (.fz<|.bool m)/\b=(n==m))\/
    (k=.str/\∃n m,x=.a (.fz<|.str n)/\y=.a (.fz<|.str m)/\b=(n==m))):=by
 unfold zY at h;split at h;next d=>cases d
 .rename_i d;injection d with d o
  subst o;split at h;next p=>subst p;obtain⟨e,j,rfl⟩:=tH.1 h;exact⟨_,_,_,_,_,e,rfl,rfl,j,rfl,.inl ⟨d,_,_,_,rfl,rfl,rfl⟩⟩
  .cases h
 .rename_i d;injection d with d o
  subst o;obtain⟨e,j,rfl⟩:=tH.1 h;exact⟨_,_,_,_,_,e,rfl,rfl,j,rfl,.inr<|.inl ⟨d,_,_,rfl,rfl,rfl⟩⟩
 .rename_i d;injection d with d o
  subst o;obtain⟨e,j,rfl⟩:=tH.1 h;exact⟨_,_,_,_,_,e,rfl,rfl,j,rfl,.inr<|.inr ⟨d,_,_,rfl,rfl,rfl⟩⟩
 .cases h
theorem u5:∀(fs:List Field) (i:Nat) (ks:List EK) (xs ys:List WV) (us vs:List Value) (a9 bs:Array Value) (r:Bool),dv P i fs=some ks->zY ks xs ys=some r->
  LRep (WRep w X β) xs us->LRep (WRep w X β) ys vs->(∀j,us[j]?=a9[i+j]?)->(∀j,vs[j]?=bs[i+j]?)->(Op.eqFields 9999 a9 bs fs).run P w=.ok r w
 |[],i,ks,xs,ys,us,vs,a9,bs,r,hk,h,hx,hy,hus,hvs=>by simp only[dv,tL] at hk;subst hk;cases xs<;>cases ys<;>simp only[zY,tL,reduceCtorEq] at h;subst h;rfl
 |f::fs,i,ks,xs,ys,us,vs,a9,bs,r,hk,h,hx,hy,hus,hvs=>by
  simp only[dv] at hk;split at hk
  .rename_i k l hf hl;split at hk
   .rename_i hc;simp only[tL] at hk;subst hk;obtain⟨ho,hn⟩:=hc;have key:∀(x y:WV) (xs' ys':List WV) (u v:Value) (b b':Bool),xs=x::xs'->ys=y::ys'->zY l xs' ys'=some b'->us.head? =some u->vs.head? =some v->(Op.equalIn 9999 f.type u v).run P w=.ok b w->(Op.eqFields 9999 a9 bs<|f::fs).run P w=.ok (b&&b') w:=by
     intro x y xs' ys' u v b b' e1 e2 hsc hu hv he;subst e1;subst e2;obtain⟨u',us',rfl,_,hx'⟩:=hx.cons_inv;obtain⟨v',vs',rfl,_,hy'⟩:=hy.cons_inv;simp only[List.head?_cons,tL] at hu hv;subst hu;subst hv;have p1:=kr (w:=w) hf a9 f.offset u' (by have:=hus 0;simp at this;rw[ho];exact this.symm);have p2:=kr (w:=w) hf bs f.offset v' (by have:=hvs 0;simp at this;rw[ho];exact this.symm)
     have ih:=u5 fs (i+1) l xs' ys' us' vs' a9 bs b' hl hsc hx' hy' (λj=>by have:=hus (j+1);simpa[EA,EO 1 j] using this)
      (λj=>by have:=hvs (j+1);simpa[EA,EO 1 j] using this)
     simp only[Op.eqFields,hn,ne_eq,not_false_eq_true,tZ,Ao,p1,p2,he,A2,Sem.run_ite];cases b
     .simp
     .simpa using ih
    have fin:∀(x y:WV) (xs' ys':List WV) (b b':Bool),xs=x::xs'->ys=y::ys'->zY l xs' ys'=some b'->r=(b&&b')->(∀u v,WRep w X β x u->WRep w X β y v->(Op.equalIn 9999 f.type u v).run P w=.ok b w)->(Op.eqFields 9999 a9 bs<|f::fs).run P w=.ok r w:=by intro x y xs' ys' b b' e1 e2 hsc hr he;have hx2:=hx;have hy2:=hy;rw[e1] at hx2;rw[e2] at hy2;obtain⟨u,us',eu,hu,_⟩:=hx2.cons_inv;obtain⟨v,vs',ev',hv,_⟩:=hy2.cons_inv;rw[hr];exact key x y xs' ys' u v b b' e1 e2 hsc (by rw[eu];rfl) (by rw[ev'];rfl)<|he u v hu hv
    obtain⟨x,y,xs',ys',b,b',e1,e2,hsc,hr,hcase⟩:=um h;refine fin x y xs' ys' b b' e1 e2 hsc hr ?_;intro u v hu hv;unfold ekOf at hf;rcases hcase with⟨rfl,kk,n,m,rfl,rfl,rfl⟩|⟨rfl,n,m,rfl,rfl,rfl⟩|⟨rfl,n,m,rfl,rfl,rfl⟩
    .split at hf<;>simp only[tL,reduceCtorEq] at hf;rename_i hd;rw[TRep.int_inv (β:=β) (X:=X) (w:=w) hu,TRep.int_inv (β:=β) (X:=X) (w:=w) hv];exact run_equalIn_int w 9998 _ _ _ _ _ hd
    .split at hf<;>simp only[tL,reduceCtorEq] at hf;rename_i hd;rw[TRep.bool_inv (β:=β) (X:=X) (w:=w) hu,TRep.bool_inv (β:=β) (X:=X) (w:=w) hv];exact run_equalIn_bool' w 9998 _ _ _ hd
    .split at hf<;>simp only[tL,reduceCtorEq] at hf;rename_i hd;rw[TRep.str_inv (β:=β) (X:=X) (w:=w) hu,TRep.str_inv (β:=β) (X:=X) (w:=w) hv];have:=run_equalIn_string (P:=P) w 9998 f.type ⟨n.toArray⟩ ⟨m.toArray⟩ hd;simpa[ByteArray.toList_eq] using this
   .cases hk
  .cases hk
theorem fL {P:Program}{u:TypeDesc}(h:xQ P u=.bool):u=.bool:=by cases u<;>simp_all[xQ]<;>split at h<;>simp_all
theorem kz {P:Program}{u:TypeDesc}{e:TypeId}(h:xQ P u=.slice e):u=.slice e:=by cases u<;>simp_all[xQ]<;>split at h<;>simp_all
theorem py {P:Program}{u:TypeDesc}{e:TypeId}(h:xQ P u=.ptr e):u=.pointer e:=by cases u<;>simp_all[xQ]<;>split at h<;>simp_all
theorem Wp {P:Program}{u:TypeDesc}{k:IntKind}(h:xQ P u=.int k):u=.int k:=by cases u<;>simp_all[xQ]<;>split at h<;>simp_all
theorem Z8 {P:Program}{u:TypeDesc}(h:xQ P u=.str):u=.string:=by cases u<;>simp_all[xQ]<;>split at h<;>simp_all
theorem lE {P:Program}{u:TypeDesc}{n:Nat}{e:TypeId}(h:xQ P u=.arr n e):u=.array n e:=by cases u<;>simp_all[xQ]<;>split at h<;>simp_all
theorem Jd {P:Program}{u:TypeDesc}{l:List (Nat×Nat×TypeId)}(h:xQ P u=.struct l):
  ∃b,u=.struct b/\(l=b.toList.map λf=>(f.offset,P.cellsOf f.type,f.type))/\∀f∈b.toList,∃i,P.info? f.type=some i:=by
 cases u with
 |struct b=>
  simp only[xQ] at h;split at h
  .rename_i e;injection h with h
   refine⟨b,rfl,h.symm,λf d=>?_⟩;have:=A7.1 e f d;exact Option.isSome_iff_exists.1 this
  .cases h
 |_=>simp[xQ] at h
theorem l6 {P:Program}{u:TypeDesc}{k e:TypeId}(h:xQ P u=.map k e):u=.map k e:=by cases u<;>simp_all[xQ]<;>split at h<;>simp_all
theorem xR {t:TypeId}{d:TyD}(h:tyOf P t=some d):∃u,P.underlying t=some u/\d.kind=xQ P u:=by obtain⟨_,u,_,e,_,_,_,_,b⟩:=wI h;exact⟨u,e,b⟩
theorem o5 {t e:TypeId}{x y:WV}{u v:Value}{r:Bool}(i:P.underlying t=some (.slice e))(h:nilSl x y=some r)(f:WRep w X β x u)(b:WRep w X β y v)(d:Nat):(Op.equalIn (d+1) t u v).run P w=.ok r w:=by
 unfold nilSl at h;split at h<;>simp only[tL,reduceCtorEq] at h<;>subst h
 .rw[TRep.nils_inv (X:=X) (β:=β) f,TRep.nils_inv (X:=X) (β:=β) b];simp[Op.equalIn,tT i]
 .rw[TRep.nils_inv (X:=X) (β:=β) b];have g:=TRep.fz_inv (X:=X) (β:=β) f;cases g<;>simp[Op.equalIn,tT i]
 .rw[TRep.nils_inv (X:=X) (β:=β) b];have g:=TRep.fz_inv (X:=X) (β:=β) f;cases g;simp[Op.equalIn,tT i]
 .rw[TRep.nils_inv (X:=X) (β:=β) b];obtain⟨_,_,_,_,_,_,_,_,_,_,rfl⟩|⟨j,_⟩:=TRep.osl_inv (X:=X) (β:=β) f
  .simp[Op.equalIn,tT i]
  .cases j
 .rw[TRep.nils_inv (X:=X) (β:=β) b];have g:=TRep.fz_inv (X:=X) (β:=β) f;cases g;simp[Op.equalIn,tT i]
theorem l4 {t e:TypeId}{x y:WV}{u v:Value}{r:Bool}(j:P.underlying t=some (.pointer e))(h:gH x y=some r)(g:WRep w X β x u)(f:WRep w X β y v)(d:Nat):(Op.equalIn (d+1) t u v).run P w=.ok r w:=by
 have b:∀ {v:Value},WRep w X β (.a<|.fz<|.cst<|.pointer none) v->v=.pointer none:=λh=>by have i:=TRep.fz_inv (X:=X) (β:=β) h;cases i;rfl
 unfold gH at h;split at h<;>simp only[tL,reduceCtorEq] at h<;>subst h
 .rw[b f];obtain⟨_,_,rfl⟩:=TRep.ep_inv (X:=X) (β:=β) g;simp[Op.equalIn,tT j]
 .rw[b f];have i:=TRep.fz_inv (X:=X) (β:=β) g;cases i;simp[Op.equalIn,tT j]
 .rw[b f,b g];simp[Op.equalIn,tT j]
theorem eqC_run {t:TypeId}{x y:WV}{u v:Value}{r:Bool}(h:eqC P t x y=some r)(i:WRep w X β x u)(g:WRep w X β y v):(Op.equal t u v).run P w=.ok r w:=by
 unfold eqC at h;split at h
 .rename_i d hd;obtain⟨m,j,f⟩:=xR hd;split at h
  .rename_i b;rw[f] at b;have:=fL b;subst this;split at h<;>simp only[tL,reduceCtorEq] at h;subst h;rw[TRep.bool_inv (X:=X) (β:=β) i,TRep.bool_inv (X:=X) (β:=β) g];exact run_equalIn_bool' w 9999 _ _ _ j
  next e b=>rw[f] at b;exact o5 (kz b▸j) h i g 9999
  next e b=>rw[f] at b;exact l4 (py b▸j) h i g 9999
  .cases h
 .cases h
theorem YF (t:TypeId)(u v:Value)(r:Bool)(f:∀k n,u ≠ .int k n)(d:∀s,u ≠ .string s)(e:∀k n,u ≠ .float k n)(b:∀k n m,u ≠ .complex k n m)(h:(Op.equal t u v).run P w=.ok r w):
  (binOp .eql t u v).run P w=.ok (.bool r) w/\(binOp .neq t u v).run P w=.ok (.bool (!r)) w:=by
 cases u<;>first
  |exact absurd rfl (f _ _)
  |exact absurd rfl (d _)
  |exact absurd rfl (e _ _)
  |exact absurd rfl (b _ _ _)
  |(constructor<;>simp[binOp,h])
theorem eqA_run {op:BinOp}{t:TypeId}{x y r:TV}{u v:Value}(p o:Operand)(h:eqOp op (eqA P t x y)=some r)(g:TRep w X β x u)(E:TRep w X β y v):
  ∃z,((do eqGuard op t p o u v;binOp op t u v:Sem Value)).run P w=.ok z w/\TRep w X β r z:=by
 have fin:∀b,eqOp op (some b)=some r->(eqGuard op t p o u v).run P w=.ok () w->(Op.equal t u v).run P w=.ok b w->(∀k n,u ≠ .int k n)->(∀s,u ≠ .string s)->(∀k n,u ≠ .float k n)->(∀k n m,u ≠ .complex k n m)->
   ∃z,((do eqGuard op t p o u v;binOp op t u v:Sem Value)).run P w=.ok z w/\TRep w X β r z:=by
  intro b C F N i S J M;obtain⟨O,K⟩:=YF t u v b i S J M N;unfold eqOp at C;split at C<;>simp only[tW,tL,reduceCtorEq] at C<;>subst C
  .exact⟨_,by simp only[Ao,F,A2,O],.bool_mk _⟩
  .exact⟨_,by simp only[Ao,F,A2,K],.bool_mk _⟩
 cases e:eqA P t x y with
 |none=>rw[e] at h;unfold eqOp at h;split at h<;>simp at h
 |some b=>
  rw[e] at h;unfold eqA at e;split at e
  .rename_i xs ys;split at e
   .rename_i ks f;obtain⟨D,rfl,T⟩:=g;obtain⟨vs,rfl,L⟩:=E;unfold js at f;split at f
    .rename_i I j;split at f
     .rename_i H;have G:P.fieldsOf t=I:=by simp[Program.fieldsOf,j]
      have A:=u5 I.toList 0 ks xs ys D vs D.toArray vs.toArray b f e T L zb zb;refine fin b h (run_eqGuard_agg w op t p o _ _ H.2) ?_ zb zb zb zb;have:=run_equalIn_agg (P:=P) w 9999 t D.toArray vs.toArray (by rw[G];exact j) H.1;rw[G] at this;exact this.trans A
     .cases f
    .cases f
   .cases e
  .rename_i x y;have i:=WRep.oneCell g;have d:(∀cs,u ≠ .agg cs)/\u ≠ .nilIface/\(∀k n,u ≠ .int k n)/\(∀s,u ≠ .string s)/\(∀k n,u ≠ .float k n)/\(∀k n m,u ≠ .complex k n m):=by
    unfold eqC at e;split at e
    .split at e
     .split at e
      .rw[TRep.bool_inv (X:=X) (β:=β) g];simp
      .cases e
     .unfold nilSl at e;split at e
      .rw[TRep.nils_inv (X:=X) (β:=β) g];simp
      .have i:=TRep.fz_inv (X:=X) (β:=β) g;cases i<;>simp
      .have i:=TRep.fz_inv (X:=X) (β:=β) g;cases i;simp
      .obtain⟨_,_,_,_,_,_,_,_,_,_,rfl⟩|⟨_,rfl⟩:=TRep.osl_inv (X:=X) (β:=β) g<;>simp
      .have i:=TRep.fz_inv (X:=X) (β:=β) g;cases i;simp
      .cases e
     .unfold gH at e;split at e
      .obtain⟨_,_,rfl⟩:=TRep.ep_inv (X:=X) (β:=β) g;simp
      .have i:=TRep.fz_inv (X:=X) (β:=β) g;cases i;simp
      .have i:=TRep.fz_inv (X:=X) (β:=β) g;cases i;simp
      .cases e
     .cases e
    .cases e
   exact fin b h (ww op t p o u v d.1 d.2.1) (eqC_run e g E) d.2.2.1 d.2.2.2.1 d.2.2.2.2.1 d.2.2.2.2.2
  .cases e
theorem binA_run {op:BinOp}{t:TypeId}{x y r:TV}{u v:Value}(b d:Operand)(h:binA P t op x y=some r)(j:TRep w X β x u)(i:TRep w X β y v):
  ∃z,((do eqGuard op t b d u v;binOp op t u v:Sem Value)).run P w=.ok z w/\TRep w X β r z:=by
 unfold binA at h;split at h
 .split at h;next o=>subst o;obtain⟨f,m,rfl⟩:=tH.1 h;rw[TRep.int_inv j,TRep.int_inv i];obtain⟨z,e,g⟩:=pw (P:=P) (w:=w) (X:=X) t m;exact⟨z,by rw[Ao,ww op t b d _ _ zb zb];exact e,.fz_mk g⟩
  .cases h
 .obtain⟨f,m,rfl⟩:=tH.1 h;rw[TRep.str_inv j,TRep.str_inv i];obtain⟨z,e,g⟩:=lh (P:=P) (w:=w) (X:=X) t m;exact⟨z,by rw[Ao,ww op t b d _ _ zb zb];exact e,.fz_mk g⟩
 .exact eqA_run b d h j i
theorem unA_run {op:UnOp}{x r:TV}{u:Value}(h:unA op x=some r)(b:TRep w X β x u):∃z,(Op.unary op u).run P w=.ok z w/\TRep w X β r z:=by
 unfold unA at h;split at h
 .rw[TRep.int_inv b];split at h<;>simp only[tL,reduceCtorEq] at h;subst h;exact⟨_,rfl,.int_mk _ _⟩
 .rw[TRep.bool_inv b];split at h<;>simp only[tL,reduceCtorEq] at h;subst h;exact⟨_,by simp[Op.unary],.bool_mk _⟩
 .cases h
end
section
variable {P:Program} {w:World} {X:Nat->Prop} {β:Nat->Option Nat}
theorem JS {x r:TV}{u:Value}{o:Oper}(ev:Operand->Value)(i:Operand)(g:o.op=.nilCheck i)(e:ev i=u)(h:qo x=some r)(d:TRep w X β x u):(execOp ev o).run P w=.ok (.value u) w/\TRep w X β r u:=by
 unfold qo at h;split at h<;>simp only[tL,reduceCtorEq] at h<;>subst h
 .obtain⟨b,v,rfl⟩:=d.ep_inv;exact⟨by simp[execOp,g,e],d⟩
 .have j:=d.fz_inv;cases j;exact⟨by simp[execOp,g,e],d⟩
 .cases id d with
  |fn f first cap p vs j m=>exact⟨by simp[execOp,g,e],d⟩
theorem nC {c x y r:TV}{cu d e:Value}(h:pickV c x y=some r)(i:TRep w X β c cu)(f:TRep w X β x d)(g:TRep w X β y e):
  ∃b,cu=.bool b/\TRep w X β r (if b then d else e):=by
 unfold pickV at h;split at h<;>simp only[tL,reduceCtorEq] at h;subst h;rename_i t;refine⟨t,i.bool_inv,?_⟩;unfold pickT;split
 .rw[f.bool_inv,g.bool_inv];cases t<;>exact .bool_mk _
 .grind
theorem JT {x r:TV}{u:Value}{i:Nat}(h:JL x i=some r)(o:TRep w X β x u):∃z,(Instr.extract u i).run P w=.ok z w/\TRep w X β r z:=by
 unfold JL at h;split at h
 .rename_i vs;obtain⟨p,rfl,j⟩:=o;split at h<;>simp only[tL,reduceCtorEq] at h<;>subst h;next cs f=>obtain⟨z,e,b,rfl,d,_⟩:=j.get f;exact⟨.agg b.toArray,by simp[Instr.extract,e,shut],b,rfl,d⟩
  next c f=>obtain⟨z,e,b,rfl,d,_⟩:=j.get f;obtain⟨u,g,rfl,m,_⟩:=d.cons_inv;exact⟨u,by simp[Instr.extract,e,shut],m⟩
 .cases h
theorem f7 {x r:TV}{u:Value}{i:TypeId}{d:TyD}(f:TypeId)(p:∃e,P.underlying f=some e/\(∀k n,u=.int k n->True))(hd:tyOf P i=some d)(h:Y2 d x=some r)(o:TRep w X β x u):
  ∃z,(convert f i u).run P w=.ok z w/\TRep w X β r z:=by
 obtain⟨y,j,_⟩:=p;obtain⟨v,g,m⟩:=xR hd;unfold Y2 at h;split at h
 .rename_i k b;rw[m] at b;have:=Wp b;subst this;split at h<;>simp only[tL,reduceCtorEq] at h;subst h;rw[o.int_inv];refine⟨_,?_,.int_mk _ _⟩;simp[convert,tT j,tT g,Conv.intToInt]
 .rename_i b;rw[m] at b;have:=Z8 b;subst this;split at h<;>simp only[tL,reduceCtorEq] at h;subst h;rw[o.str_inv];refine⟨_,?_,.str_mk _⟩;simp[convert,tT j,tT g]
 .cases h
theorem jl {t:TypeId}{d:TyD}{l:List (Nat×Nat×TypeId)}(h:tyOf P t=some d)(g:d.kind=.struct l):
  ∃b,P.underlying t=some (.struct b)/\(l=b.toList.map λf=>(f.offset,P.cellsOf f.type,f.type))/\∀f∈b.toList,∃i,P.info? f.type=some i:=by
 obtain⟨u,o,e⟩:=xR h;rw[e] at g;obtain⟨b,rfl,m,j⟩:=Jd g;grind
theorem XE {f:Field}{b d:Nat}(h:P.cellsOf f.type≠0):(fieldPlace ⟨b,d,none⟩ f).run P w=.ok ⟨b,d+f.offset,none⟩ w:=by
 have j:∃i,P.info? f.type=some i/\i.size≠0:=by
  unfold Program.cellsOf at h;cases g:P.info? f.type with
  |none=>simp[g] at h
  |some i=>exact⟨i,rfl,zd⟩
 obtain⟨i,g,e⟩:=j;simp[fieldPlace,sizeOf,typeInfo,g,e,Addr.add_lit]
theorem Xz {x r:TV}{u:Value}{s:TypeId}{d:TyD}{f:Nat}(hd:tyOf P s=some d)(h:kO d x f=some r)(v:TRep w X β x u):
  ∃z,(Instr.fieldAt s u f).run P w=.ok z w/\TRep w X β r z:=by
 unfold kO at h;split at h
 .rename_i l D;obtain⟨F,g,rfl,_⟩:=jl hd D;split at h
  .rename_i K i;rw[tV] at i;obtain⟨p,E,rfl⟩:=tH.1 i;have m:F[f]?=some p:=zd;split at h
   .cases h
   .rename_i y;have o:∀b e,(fieldPlace ⟨b,e,none⟩ p).run P w=.ok ⟨b,e+p.offset,none⟩ w:=λ_ _=>XE y;split at h<;>simp only[tL,reduceCtorEq] at h<;>subst h
    .obtain⟨b,H,rfl⟩:=v.ep_inv;refine⟨_,by simp[Instr.fieldAt,tT g,m,Instr.sureAddr,o];rfl,?_⟩;rw[EA];exact .a _ _<|.ep _ _ _ _ b H
    .have G:=v.fz_inv;cases G with
     |pt cs b e u C A I J=>
      refine⟨_,by simp[Instr.fieldAt,tT g,m,Instr.sureAddr,o];rfl,?_⟩;refine .fz_mk<|.pt _ b (e+p.offset) (λj=>u<|p.offset+j) C A (λj x v=>?_) λj x v=>?_
      .grind
      .grind
  .cases h
 .cases h
theorem Kl {t:TypeId}{d:TyD}{cs:List WV}{e:List Value}{b:Nat}{r:TV}(hd:tyOf P t=some d)(h:partA d.agg d.size cs b=some r)(g:LRep (WRep w X β) cs e):
  ∃z,(part t e.toArray b).run P w=.ok z w/\TRep w X β r z:=by
 unfold partA at h;split at h
 .rename_i f;split at h<;>simp only[tL,reduceCtorEq] at h;subst h;refine⟨.agg<|e.toArray.extract b<|b+d.size,by simp[part,qx hd,f,zV hd],(e.drop b).take d.size,?_,(g.drop b).take _⟩;grind
 next f=>obtain⟨c,j,rfl⟩:=tH.1 h;obtain⟨u,i,m⟩:=g.get j;exact⟨u,by simp[part,qx hd,f,i],m⟩
theorem pA {x r:TV}{u:Value}{s:TypeId}{d:TyD}{f:Nat}(hd:tyOf P s=some d)(h:rJ P d x f=some r)(C:TRep w X β x u):
  ∃z,(Instr.field s u f).run P w=.ok z w/\TRep w X β r z:=by
 unfold rJ at h;split at h
 .rename_i l j;obtain⟨v,e,rfl,_⟩:=jl hd j;split at h
  .rename_i F b;rw[tV] at b;obtain⟨y,p,rfl⟩:=tH.1 b;have g:v[f]?=some y:=zd;split at h;next E cs i=>obtain⟨D,rfl,o⟩:=C;obtain⟨z,m,A⟩:=Kl i h o;exact⟨z,by simp[Instr.field,tT e,g,asAgg,m],A⟩
   .cases h
  .cases h
 .cases h
theorem xp {t e:TypeId}{d:TyD}(h:tyOf P t=some d)(f:d.kind=.slice e):P.underlying t=some (.slice e):=by obtain⟨u,g,b⟩:=xR h;rw[b] at f;exact kz f▸g
theorem Y6 {t e:TypeId}{n:Nat}{d:TyD}(h:tyOf P t=some d)(f:d.kind=.arr n e):P.underlying t=some (.array n e):=by obtain⟨u,g,b⟩:=xR h;rw[b] at f;exact lE f▸g
theorem WZ {t:TypeId}{d:TyD}(h:tyOf P t=some d)(e:d.kind=.str):P.underlying t=some .string:=by obtain⟨u,f,b⟩:=xR h;rw[b] at e;exact Z8 e▸f
theorem cX {i:Int}{n:Nat}(b:0<=i)(h:i<n):i.toNat<n:=za
theorem jj {x N r:TV}{u S:Value}{t:TypeId}{d:TyD}(hd:tyOf P t=some d)(h:xm P d x N=some r)(L:TRep w X β x u)(W:TRep w X β N S):
  ∃z,(Instr.indexAt t u S).run P w=.ok z w/\TRep w X β r z:=by
 unfold xm at h;split at h
 .rename_i k i;rw[W.int_inv];split at h
  .rename_i e I;have D:=xp hd I;split at h
   .rename_i E p;unfold XS at h;split at h
    .split at h<;>simp only[tL,reduceCtorEq] at h;rename_i o n g J C;obtain⟨y,A,v⟩:=C;subst h;obtain⟨b,q,cap,sz,tt,K,hs,hlc,O,G,rfl⟩:=L.osl_inv.resolve_right (λh=>za);subst y;have G:q=g*E.size:=G.resolve_right za;subst G;refine⟨.pointer<|some ⟨b,(g+i.toNat)*E.size+0,none⟩,?_,.a _ _<|.ep _ _ _ _ b K⟩;simp[Instr.indexAt,asIntOf,tT D,A,v,zV p,Addr.add_lit,AG]
    .rename_i U n es;split at h<;>simp only[tL,reduceCtorEq] at h;rename_i C;obtain⟨y,A,v⟩:=C;subst h;have Y:=L.fz_inv;cases Y with
     |slnil=>simp at v;omega
     |sl0=>simp at v;omega
     |sl U n es b g cap J u T g2 g3 Z g5 V g7=>
      have H:=cX A v;have M:es[i.toNat]?=some (es.getD i.toNat []):=by simp[List.getD,tO H]
      refine⟨.pointer<|some ⟨b,g+i.toNat*E.size,none⟩,?_,?_⟩
      .rw[T];simp[Instr.indexAt,asIntOf,tT D,A,v,zV p,Addr.add_lit]
      .rw[y];exact .fz_mk<|.pt _ b _ (u i.toNat) g3 Z (λj f F=>V _ _ _ _ M F) λj f F=>g7 _ _ _ _ M F
    .cases h
   .cases h
  .rename_i m e I;have D:=Y6 hd I;split at h
   .rename_i E p;unfold dz at h;split at h
    .split at h<;>simp only[tL,reduceCtorEq] at h;rename_i C;obtain⟨A,v⟩:=C;subst h;obtain⟨b,K,rfl⟩:=L.ep_inv;refine⟨_,by simp[Instr.indexAt,asIntOf,tT D,A,v,zV p,Addr.add_lit,Instr.sureAddr];rfl,?_⟩;rw[EA];exact .a _ _<|.ep _ _ _ _ b K
    .cases h
   .cases h
  .cases h
 .cases h
theorem pL {x y r:TV}{u C:Value}{t:TypeId}{d:TyD}(hd:tyOf P t=some d)(h:XT P d x y=some r)(A:TRep w X β x u)(G:TRep w X β y C):
  ∃z,(Instr.index t u C).run P w=.ok z w/\TRep w X β r z:=by
 unfold XT at h;split at h
 .rename_i k i;rw[G.int_inv];split at h
  .rename_i p;have o:=WZ hd p;split at h
   .split at h<;>simp only[tL,reduceCtorEq] at h;rename_i l v;obtain⟨g,j⟩:=v;subst h;rw[A.str_inv];have f:=cX g j;have F:(⟨l.toArray⟩:ByteArray)[i.toNat]?=some (l.getD i.toNat 0):=by
     have H:i.toNat<(⟨l.toArray⟩:ByteArray).size:=by simpa[ByteArray.size] using f
     rw[getElem?_pos (⟨l.toArray⟩:ByteArray) i.toNat H];simp only[ByteArray.getElem_eq_getElem_data,List.getElem_toArray,List.getD,tO f,AU]
    refine⟨.int .u8 (l.getD i.toNat 0).toNat,?_,.int_mk _ _⟩;simp only[Instr.index,asIntOf,Ao,Av,A2,tT o,g,↓reduceIte,F]
   .cases h
  .rename_i m e p;have o:=Y6 hd p;split at h
   .rename_i K cs b;split at h;next v=>obtain⟨g,j⟩:=v;obtain⟨J,rfl,I⟩:=A;obtain⟨z,E,D⟩:=Kl b h I;exact⟨z,by simp[Instr.index,asIntOf,tT o,g,j,zV b,E],D⟩
    .cases h
   .cases h
  .cases h
 .cases h
theorem Ks:∀ {cs:List WV} {xs:List AV} {b:List Value},lr cs=some xs->LRep (WRep w X β) cs b->LRep (ARep w X β) xs b
 |[],xs,b,h,d=>by simp only[lr,tL] at h;subst h;rw[d.nil_inv];exact .nil
 |.a x::r,xs,b,h,d=>by
  simp only[lr] at h;obtain⟨l,g,rfl⟩:=tH.1 h;obtain⟨u,i,rfl,f,e⟩:=d.cons_inv;cases f with
  |a _ _ f=>exact .cons f<|Ks g e
 |.fn _ _ _::r,xs,b,h,d=>by simp[lr] at h
theorem kH:∀ {cs:List TV} {xs:List (Bool×List AV)} {b:List Value},uV cs=some xs->LRep (TRep w X β) cs b->LRep (PRep<|ARep w X β) xs b
 |[],xs,b,h,d=>by simp only[uV,tL] at h;subst h;rw[d.nil_inv];exact .nil
 |.c (.a x)::r,xs,b,h,d=>by
  simp only[uV] at h;obtain⟨l,f,rfl⟩:=tH.1 h;obtain⟨u,m,rfl,g,e⟩:=d.cons_inv;cases g with
  |a _ _ g=>exact .cons ⟨[u],rfl,.cons g .nil,λ_=>rfl⟩<|kH f e
 |.agg cs::r,xs,b,h,d=>by simp only[uV] at h;obtain⟨ys,j,h⟩:=E5.1 h;obtain⟨l,f,rfl⟩:=tH.1 h;obtain⟨u,m,rfl,g,e⟩:=d.cons_inv;obtain⟨vs,rfl,i⟩:=g;exact .cons ⟨vs,rfl,Ks j i,λh=>by simp at h⟩<|kH f e
 |.c (.fn _ _ _)::r,xs,b,h,d=>by simp[uV] at h
 |.any::r,xs,b,h,d=>by simp[uV] at h
 |.tup _::r,xs,b,h,d=>by simp[uV] at h
theorem Js {fn:Fn}{first d:List TV}{e vs:List Value}{r:TV}(h:X9 fn first d=some r)(f:LRep (TRep w X β) first e)(g:LRep (TRep w X β) d vs):
  TRep w X β r (.func fn e.toArray vs.toArray):=by
 unfold X9 at h;split at h<;>simp only[tL,reduceCtorEq] at h;rename_i a b;subst h;exact .fn _ _ _ _ _ (kH a f)<|kH b g
def bnd (x:Option TV)(v:Option Value)(w:World)(X:Nat->Prop)(β:Nat->Option Nat):Prop:=
 match x,v with
 |none,none=>True
 |some x,some v=>TRep w X β x v
 |_,_=>False
theorem yH {x:Option TV}{v:Option Value}{d most n:Nat}(h:wA x d most=some n)(f:bnd x v w X β):
  (v=none/\n=d)\/(∃k i,v=some (.int k i)/\0<=i/\i.toNat=n/\n<=most/\∀e b,most<=b->(Instr.sliceBound (.int k i) b e).run P w=.ok n w):=by
 unfold wA at h;split at h
 .simp only[tL] at h;cases v with
  |none=>exact .inl ⟨rfl,h.symm⟩
  |some v=>exact f.elim
 .rename_i k i;split at h<;>simp only[tL,reduceCtorEq] at h;rename_i g;cases v with
  |none=>exact f.elim
  |some v=>
   have:=TRep.int_inv f;subst this;refine .inr ⟨_,_,rfl,g.1,h,za,λe b j=>?_⟩;have:i<=b:=za;simp[Instr.sliceBound,asIntOf,g.1,this,h]
 .cases h
theorem JU {J A C:Option TV} {l h m:Option Value} {d cap a b c:Nat} (e:Bool) (T:wA C d d=some c) (I:wA A d d=some b) (D:wA J 0 b=some a) (H:b<=c) (g:d<=cap)
  (N:bnd C m w X β) (z:bnd A h w X β) (E:bnd J l w X β) (F:C.isSome=true->A.isSome=true):
  ∃G,(Instr.sliceBounds e d cap l h m).run P w=.ok (a,b,G) w/\b<=G/\G<=cap/\a<=b/\b<=d:=by
 have u:b<=d:=by rcases yH (P:=P) I z with⟨_,r⟩|⟨_,_,_,_,_,r,_⟩<;>omega
 have p:a<=b:=by rcases yH (P:=P) D E with⟨_,r⟩|⟨_,_,_,_,_,r,_⟩<;>omega
 rcases yH (P:=P) T N with⟨rfl,rfl⟩|⟨V,U,rfl,_,_,S,o⟩
 .refine⟨cap,?_,za,tJ _,p,u⟩;rcases yH (P:=P) I z with⟨rfl,rfl⟩|⟨K,ih,rfl,_,_,_,j⟩
  .rcases yH (P:=P) D E with⟨rfl,rfl⟩|⟨L,O,rfl,_,_,_,f⟩
   .simp[Instr.sliceBounds]
   .simp[Instr.sliceBounds,f _ _<|tJ _]
  .rcases yH (P:=P) D E with⟨rfl,rfl⟩|⟨L,O,rfl,_,_,_,f⟩
   .simp[Instr.sliceBounds,j _ _ g]
   .simp[Instr.sliceBounds,f _ _<|tJ _,j _ _ g]
 .refine⟨c,?_,H,za,p,u⟩;rcases yH (P:=P) I z with⟨rfl,rfl⟩|⟨K,ih,rfl,_,_,_,j⟩
  .cases C with
   |none=>exact N.elim
   |some x=>cases A with
    |none=>simp at F
    |some y=>exact z.elim
  .have v:∀i,(Instr.sliceBound (.int K ih) c i).run P w=.ok b w:=by
    intro i;have M:0<=ih/\ih.toNat=b:=by constructor<;>assumption
    have r:ih<=c:=za;simp[Instr.sliceBound,asIntOf,M.1,r,M.2]
   rcases yH (P:=P) D E with⟨rfl,rfl⟩|⟨L,O,rfl,_,_,_,f⟩
   .simp[Instr.sliceBounds,o _ _ g,v]
   .simp[Instr.sliceBounds,o _ _ g,v,f _ _<|tJ _]
theorem WD {z j o:Option TV} {l h m:Option Value} {b cap:Nat} (d:Bool) (H:wA o b b=some 0) (J:wA j b b=some 0) (I:wA z 0 0=some 0) (g:b<=cap)
  (C:bnd o m w X β) (v:bnd j h w X β) (K:bnd z l w X β) (u:o.isSome=true) (p:j.isSome=true):
  (Instr.sliceBounds d b cap l h m).run P w=.ok (0,0,0) w:=by
 rcases yH (P:=P) H C with⟨rfl,_⟩|⟨N,M,rfl,_,_,F,f⟩
 .cases o with
  |none=>simp at u
  |some x=>exact C.elim
 .rcases yH (P:=P) J v with⟨rfl,rfl⟩|⟨E,ih,rfl,_,_,_,G⟩
  .cases j with
   |none=>simp at p
   |some y=>exact v.elim
  .have i:∀e,(Instr.sliceBound (.int E ih) 0 e).run P w=.ok 0 w:=by
    intro e;have A:0<=ih/\ih.toNat=0:=by constructor<;>assumption
    have D:ih<=0:=za;simp[Instr.sliceBound,asIntOf,A.1,D,A.2]
   rcases yH (P:=P) I K with⟨rfl,_⟩|⟨L,O,rfl,_,_,_,r⟩
   .simp[Instr.sliceBounds,f _ _ g,i]
   .simp[Instr.sliceBounds,f _ _ g,i,r _ _<|tJ _]
end
section
variable {P:Program} {w:World} {X:Nat->Prop} {β:Nat->Option Nat}
theorem qU (l:List UInt8)(a b:Nat):(⟨l.toArray⟩:ByteArray).extract a b=⟨((l.take b).drop a).toArray⟩:=by apply ByteArray.ext;apply EL;simp[ByteArray.data_extract,List.extract_eq_take_drop,List.drop_take]
theorem wD {u v r:Option TV} {l h m:Option Value} {f cap:Nat} {p:Nat×Nat} (d:Bool) (g:ZO u v r f=some p) (i:f<=cap)
  (A:bnd u l w X β) (y:bnd v h w X β) (x:bnd r m w X β):∃j,(Instr.sliceBounds d f cap l h m).run P w=.ok (p.1,p.2,j) w/\p.2<=j/\j<=cap/\p.1<=p.2/\p.2<=f:=by
 unfold ZO at g;split at g
 .rename_i c b C o;split at g;next e=>obtain⟨a,z,rfl⟩:=tH.1 g;exact JU d C o z e.1 i x y A e.2
  .cases g
 .cases g
theorem lM {A E j:Option TV} {l h m:Option Value} {e cap:Nat} {p:Nat×Nat} (d:Bool) (f:uc j=true) (g:ZO A E j e=some p) (y:e<=cap)
  (D:bnd A l w X β) (G:bnd E h w X β) (F:bnd j m w X β):(Instr.sliceBounds d e cap l h m).run P w=.ok (0,0,0) w:=by
 have u:wA j e e=some 0:=by
  unfold uc at f;split at f
  .simp only[Al] at f;subst f;simp[wA]
  .cases f
 have r:j.isSome=true:=by
  unfold uc at f;split at f
  .rfl
  .cases f
 unfold ZO at g;rw[u] at g;split at g
 .rename_i c b o z;simp only[tL] at o;subst o;split at g
  .rename_i i;obtain⟨a,C,rfl⟩:=tH.1 g;have v:b=0:=za;subst v;have x:a=0:=by rcases yH (P:=P) C D with⟨_,H⟩|⟨_,_,_,_,_,H,_⟩<;>omega
   subst x;exact WD d u z C y F G D r<|i.2 r
  .cases g
 .cases g
theorem f5 {x r:TV} {u:Value} {t:TypeId} {d:TyD} {lo hi mx:Option TV} {l h m:Option Value} (hd:tyOf P t=some d) (y:wQ P d x lo hi mx=some r) (hx:TRep w X β x u)
  (S:bnd lo l w X β) (M:bnd hi h w X β) (J:bnd mx m w X β):∃z,(Instr.sliceAt t u l h m).run P w=.ok z w/\TRep w X β r z:=by
 unfold wQ at y;split at y
 .rename_i e hk;have I:=xp hd hk;split at y
  .rename_i de A;unfold Ze at y;split at y
   .obtain⟨p,F,rfl⟩:=tH.1 y;obtain⟨D,g,Z,O,Y,T⟩:=wD (P:=P) (w:=w) (cap:=0) true F (tJ _) S M J;rw[hx.nils_inv];have L:p.2=0:=za;have K:p.1=0:=za;have N:D=0:=za;rw[K,L,N] at g;refine⟨.slice none 0 0,?_,.fz_mk .N⟩;simp[Instr.sliceAt,Instr.slice,tT I,g,zV A]
   .rename_i nn n es;split at y
    .rename_i hn;obtain⟨p,F,rfl⟩:=tH.1 y;have O:=hx.fz_inv;cases O with
     |sl0 _ _ a=>
      obtain⟨D,g,Z,O,Y,T⟩:=wD (P:=P) (w:=w) (cap:=0) true F (tJ _) S M J;have L:p.2=0:=by simp at T;omega
      have K:p.1=0:=za;have N:D=0:=za;rw[K,L,N] at g;simp only[tR] at g;refine⟨.slice (some a) 0 0,?_,?_⟩
      .simp[Instr.sliceAt,Instr.slice,tT I,g,zV A]
      .split
       .exact .fz_mk<|.z0 _ _
       .exact .fz_mk (by simpa using FRep.sl0 _ n a)
     |slnil n=>
      obtain⟨D,g,Z,O,Y,T⟩:=wD (P:=P) (w:=w) (cap:=0) true F (tJ _) S M J;have L:p.2=0:=by simp at T;omega
      have K:p.1=0:=za;have N:D=0:=za;rw[K,L,N] at g;simp only[tR] at g;refine⟨.slice none 0 0,?_,?_⟩
      .simp[Instr.sliceAt,Instr.slice,tT I,g,zV A]
      .split
       .exact .fz_mk .z0n
       .exact .fz_mk (by simpa using FRep.slnil n)
     |sl nn n es b E cap len u g1 g2 g3 g4 g5 g6 g7=>
      subst g1;by_cases V:uc mx=true
      .have g:=lM (P:=P) (w:=w) true V F g2 S M J;rw[tG V];exact⟨.slice (some ⟨b,E,none⟩) 0 0,by simp[Instr.sliceAt,Instr.slice,tT I,g,zV A],.fz_mk<|.z0 _ _⟩
      rw[tD V];obtain⟨D,g,Z,O,Y,T⟩:=wD (P:=P) (w:=w) true F g2 S M J;have U:p.2-p.1=((es.take p.2).drop p.1).length:=zj;have G:∀i:Nat,∀e,((es.take p.2).drop p.1)[i]?=some e->es[p.1+i]?=some e:=by
       intro i e C;rw[E2,AL] at C;split at C
       .exact C
       .cases C
      refine⟨.slice (some (if D=p.1 then⟨b,E,none⟩ else⟨b,E+p.1*de.size,none⟩)) (p.2-p.1)<|D-p.1,?_,?_⟩
      .simp[Instr.sliceAt,Instr.slice,tT I,g,zV A,Addr.add_lit];split<;>rfl
      .by_cases hz:D=p.1
       .simp only[hz,tZ];have H:(es.take p.2).drop p.1=[]:=tS za;refine .fz_mk<|.sl nn n _ b E _ _ (λ_ _=>undef) U za g3 g4 ?_ ?_ ?_
        .intro i e C;rw[H] at C;simp at C
        .intro i j e f C;rw[H] at C;simp at C
        .intro i j e f C;rw[H] at C;simp at C
       .simp only[hz,A6];refine .fz_mk<|.sl nn n _ b _ _ _ (λi j=>u (p.1+i) j) U za g3 g4 ?_ ?_ ?_
        .intro i e C;exact g5 _ _<|G i e C
        .intro i j e f C hf;have:=g6 _ _ _ _ (G i e C) hf;rw[<-hn,show E+p.1*n+i*n+j=E+(p.1+i)*n+j by rw[AG];omega];exact this
        .intro i j e f C hf;exact g7 _ _ _ _ (G i e C) hf
    .cases y
   .obtain⟨p,F,rfl⟩:=tH.1 y;have O:=hx.fz_inv;obtain⟨D,g,Z,h2',Y,T⟩:=wD (P:=P) (w:=w) (cap:=0) true F (tJ _) S M J;have L:p.2=0:=za;have K:p.1=0:=za;have N:D=0:=za;rw[K,L,N] at g;cases O with
    |z0 _ a=>exact⟨.slice (some a) 0 0,by simp[Instr.sliceAt,Instr.slice,tT I,g,zV A],.fz_mk<|.z0 _ _⟩
    |z0n=>exact⟨.slice none 0 0,by simp[Instr.sliceAt,Instr.slice,tT I,g,zV A],.fz_mk .z0n⟩
   .rename_i o n E len;split at y
    .rename_i hn;obtain⟨p,F,rfl⟩:=tH.1 y;obtain⟨b,q,cap,sz,tt,hb,hsh,hlc,hcap,hq,rfl⟩|⟨h0,rfl⟩:=hx.osl_inv
     case inr=>subst h0;obtain⟨D,g,Z,h2',Y,T⟩:=wD (P:=P) (w:=w) (cap:=0) true F (tJ _) S M J;have L:p.2=0:=za;have K:p.1=0:=za;have N:D=0:=za;rw[K,L,N] at g;exact⟨.slice none 0 0,by simp[Instr.sliceAt,Instr.slice,tT I,g,zV A],by rw[K,L];exact .a _ _<|.oslN _ _ _⟩
     obtain⟨D,g,Z,O,Y,T⟩:=wD (P:=P) (w:=w) true F hlc S M J;refine⟨.slice (some (if D=p.1 then⟨b,q,none⟩ else⟨b,q+p.1*de.size,none⟩)) (p.2-p.1)<|D-p.1,?_,?_⟩
     .simp[Instr.sliceAt,Instr.slice,tT I,g,zV A,Addr.add_lit];split<;>rfl
     .have W:(E+p.1+(D-p.1))*n<=sz:=AX (Ar _ za) hcap;by_cases hz:D=p.1
      .simp only[hz,tZ];exact .a _ _<|.osl _ _ _ _ b q _ sz tt hb hsh za (by rw[hz] at W;exact W)<|.inr za
      .simp only[hz,A6];refine .a _ _<|.osl _ _ _ _ b _ _ sz tt hb hsh za W<|.inl ?_;rw[<-hn,hq.resolve_right za,AG]
    .cases y
   .cases y
  .cases y
 .rename_i hk;have I:=WZ hd hk;unfold Jw at y;split at y
  .obtain⟨p,F,rfl⟩:=tH.1 y;rename_i s;cases m with
   |some v=>exact J.elim
   |none=>
    obtain⟨D,g,Z,O,Y,T⟩:=wD (P:=P) (w:=w) (cap:=s.length) false F (tJ _) S M J;rw[hx.str_inv];refine⟨_,?_,.str_mk _⟩;have hsz:(⟨s.toArray⟩:ByteArray).size=s.length:=by simp[ByteArray.size]
    simp[Instr.sliceAt,Instr.slice,tT I,hsz,g,qU]
  .cases y
 .cases y
theorem sq (vs:List Value):∀(k b:Nat) (cs:List Value),b+k+vs.length<=cs.length->(vs.zipIdx k).foldl (λ(cs:Array Value) (x:Value×Nat)=>cs.setIfInBounds (b+x.2) x.1) cs.toArray=(cs.take (b+k)++vs++cs.drop (b+k+vs.length)).toArray:=by
 induction vs with
 |nil=>intro k b cs h;simp
 |cons v vs ih=>
  intro k b cs h;simp only[List.zipIdx_cons,Ek,List.setIfInBounds_toArray];rw[ih (k+1) b (cs.set (b+k) v)<|by simp at h ⊢;omega];congr 1;apply List.ext_getElem?;intro j;simp only[tC,AQ,tE,AH,EQ,AL,E2,Eb,tC];simp at h;by_cases d:j<b+k
  .simp only[show j<min (b+(k+1)) cs.length+vs.length by omega,show j<min (b+(k+1)) cs.length by omega,(za:j<b+(k+1)),show¬(b+k=j) by omega,
    (za:j<min (b+k) cs.length+(vs.length+1)),(za:j<min (b+k) cs.length),d,tZ,A6]
  .by_cases e:j=b+k
   .subst e
    simp only[show b+k<min (b+(k+1)) cs.length+vs.length by omega,show b+k<min (b+(k+1)) cs.length by omega,(za:b+k<b+(k+1)),(za:b+k<cs.length),
     (za:b+k<min (b+k) cs.length+(vs.length+1)),show¬(b+k<min (b+k) cs.length) by omega,tZ,A6,(za:b+k-min (b+k) cs.length=0),AI]
   .by_cases f:j<b+k+1+vs.length
    .simp only[show j<min (b+(k+1)) cs.length+vs.length by omega,show¬(j<min (b+(k+1)) cs.length) by omega,
      (za:j<min (b+k) cs.length+(vs.length+1)),show¬(j<min (b+k) cs.length) by omega,tZ,A6]
     rw[show j-min (b+k) cs.length=(j-min (b+(k+1)) cs.length)+1 by omega,EB]
    .simp only[show¬(j<min (b+(k+1)) cs.length+vs.length) by omega,show¬(j<min (b+k) cs.length+(vs.length+1)) by omega,A6];rw[show b+(k+1)+vs.length+(j-(min (b+(k+1)) cs.length+vs.length))=j by omega,show b+k+(vs.length+1)+(j-(min (b+k) cs.length+(vs.length+1)))=j by omega];simp only[show¬(b+k=j) by omega,A6]
theorem LRep.splice {cs d:List WV}{b vs:List Value}{j:Nat}(h:LRep (WRep w X β) cs b)(k:LRep (WRep w X β) d vs):LRep (WRep w X β) (splice cs j d) (b.take j++vs++b.drop (j+vs.length)):=by unfold AM.splice;rw[k.1];exact((h.take j).append k).append<|h.drop _
theorem jV {d place':Nat->Option (Nat×Nat)}(y:∀i,place' i=d i):∀(parts:List<|Nat×TV) (vals:List<|Nat×Value) (cs r:List WV) (e:List Value),XF d cs parts=some r->LRep (WRep w X β) cs e->
  parts.length=vals.length->(∀(j:Nat) (p:Nat×TV) (v:Nat×Value),parts[j]?=some p->vals[j]?=some v->p.1=v.1/\TRep w X β p.2 v.2)->∃vs,Instr.fill place' e.toArray vals=some vs.toArray/\LRep (WRep w X β) r vs
 |[],vals,cs,r,e,h,z,b,_=>by
  simp only[XF,tL] at h;subst h;cases vals with
  |nil=>exact⟨e,rfl,z⟩
  |cons _ _=>simp at b
 |(i,v)::rest,vals,cs,r,e,h,z,b,F=>by
  cases vals with
  |nil=>simp at b
  |cons x vals=>
   obtain⟨L,u⟩:=x;obtain⟨G,A⟩:=F 0 _ _ rfl rfl;simp only at G A;subst G;simp only[XF] at h;split at h
   .rename_i o size K C D;split at h
    .rename_i E;have m:=Zf A D;have f:u.cells.size=K.length:=by have:=m.1;exact zp this.symm
     have g:¬(o+u.cells.size>e.length):=by rw[f,<-z.1];omega
     obtain⟨vs,H,I⟩:=jV y rest vals _ r _ h (z.splice m) (zp b) (λj p v y A=>F (j+1) p v (zp y)<|zp A);refine⟨vs,?_,I⟩;have J:=sq u.cells.toList 0 o e zj;simp only[Instr.fill,y,C];rw[tD<|by simp only[f,E.1,List.size_toArray,ne_eq,not_true_eq_false,decide_false,Ec,Ak];rw[<-E.1,<-f];exact g];rw[<-H];congr 1;rw[<-S9];simp only[Array.toList_zipIdx];exact zp J
    .cases h
   .cases h
end
def upd {α:Type}(f:Nat->α)(i:Nat)(x:α)(j:Nat):α:=if j=i then x else f j
section
variable {P:Program} {h:Nat->AObj} {β:Nat->Option Nat} {Y:Nat->Prop} {w:World}
abbrev XO (Y:Nat->Prop)(h:Nat->AObj)(β:Nat->Option Nat):Nat->Prop:=λb=>Y b\/Own h β b
theorem qd (v:Objs h β Y w) (M:∀b,Y b->b<w.heap.size) {fr:Nat} (K:β fr=none) (n:Nat) (es:List<|List WV) (F:List Value) (t:TypeId) (N:Nat)
  (U:es.length*n<=F.length) (h2:∀e∈es,e.length=n)
  (h3:∀(i j:Nat) (e:List WV) (c:WV),es[i]?=some e->e[j]?=some c->∃u,F[i*n+j]?=some u/\WRep w (XO Y h β) β c u):
  Moves h (upd h fr<|.arr n es) β (upd β fr<|some w.heap.size) Y w {w with heap:=w.heap.push (.cells F.toArray t (0,0)),drawn:=w.drawn+N} (λo=>o=fr):=by
 have C:∀o b,β o=some b->upd β fr (some w.heap.size) o=some b:=by
  intro o b d;unfold upd;split;next e=>subst e;rw[K] at d;cases d
  .exact d
 have g:∀o b,upd β fr (some w.heap.size) o=some b->(β o=some b/\o≠fr)\/(o=fr/\b=w.heap.size):=by
  intro o b d;unfold upd at d;split at d;next e=>exact .inr ⟨e,zp d.symm⟩
  next e=>exact .inl ⟨d,e⟩
 have f:∀o,isLive (upd h fr (.arr n es) o)->isLive (h o)\/o=fr:=by
  intro o r;unfold upd at r;split at r;next e=>exact .inr e
  .exact .inl r
 have O:Goes w {w with heap:=w.heap.push (.cells F.toArray t (0,0)),drawn:=w.drawn+N} (XO Y h β) (XO Y (upd h fr<|.arr n es)<|upd β fr<|some w.heap.size) β (upd β fr<|some w.heap.size):=by
  refine⟨zb,λb S d=>⟨by simp[A8,(za:b≠w.heap.size)],λJ=>?_⟩,λb d=>by simp[World.shape?,A8,(za:b≠w.heap.size)],λo b d=>⟨C o b d,v.lt o b d⟩⟩;rcases J with D|⟨o,r,m⟩
  .exact S<|.inl D
  .rcases g o b m with⟨m,p⟩|⟨_,e⟩
   .exact S<|.inr ⟨o,(f o r).resolve_right p,m⟩
   .omega
 refine⟨⟨zb,λb d _=>by simp[A8,(za:b≠w.heap.size)],λb d=>by simp[World.shape?,A8,(za:b≠w.heap.size)],rfl,rfl,rfl⟩,?_,C,?_,f⟩
 .refine⟨λo b r d=>?_,λo r=>?_,λo o' b r L d E=>?_,λo b d=>?_⟩
  .rcases g o b d with⟨m,p⟩|⟨e,G⟩
   .have z:=(f o r).resolve_right p;rw[show upd h fr (.arr n es) o=h o by simp[upd,p]];exact(v.rep o b z m).goes O (by simp[A8,show b≠w.heap.size by have:=v.lt o b m;omega])
   .subst e;subst G;rw[show upd h o (.arr n es) o=.arr n es by simp[upd]];refine⟨F,t,zb,U,h2,λi j e c he V=>?_⟩;obtain⟨u,X,hr⟩:=h3 i j e c he V;exact⟨u,X,hr.goes O⟩
  .rcases f o r with z|e
   .by_cases e:o=fr
    .subst e;exact .inl ⟨w.heap.size,by simp[upd],zb,λD=>by have:=M _ D;omega⟩
    .rcases v.has o z with⟨b,d,Z,I⟩|⟨d,W⟩
     .exact .inl ⟨b,C o b d,zj,I⟩
     .exact .inr (by simp only[upd,e,A6];exact⟨d,W⟩)
   .subst e;exact .inl ⟨w.heap.size,by simp[upd],zb,λD=>by have:=M _ D;omega⟩
  .rcases g o b d with⟨m,p⟩|⟨e,G⟩
   .rcases g o' b E with⟨y,x⟩|⟨T,H⟩
    .exact v.inj o o' b ((f o r).resolve_right p) ((f o' L).resolve_right x) m y
    .have:=v.lt o b m;omega
   .rcases g o' b E with⟨y,x⟩|⟨T,H⟩
    .have:=v.lt o' b y;omega
    .rw[e,T]
  .rcases g o b d with⟨m,_⟩|⟨_,G⟩
   .have:=v.lt o b m;simp;omega
   .simp;omega
 .intro o b d;rcases g o b d with⟨m,_⟩|⟨e,G⟩
  .exact .inl m
  .exact .inr ⟨e,.inl za⟩
theorem Xp (D:Objs h β Y w) {o b:Nat} (K:isLive<|h o) (A:β o=some b) (y old:List Value) (t:TypeId) (z:w.heap[b]?=some (.cells old.toArray t (0,0))) (J:y.length=old.length) (n:Nat) (es:List<|List WV)
  (h1:es.length*n<=y.length) (h2:∀e∈es,e.length=n)
  (h3:∀(i j:Nat) (e:List WV) (c:WV),es[i]?=some e->e[j]?=some c->∃u,y[i*n+j]?=some u/\WRep w (XO Y h β) β c u):
  Moves h (upd h o<|.arr n es) β β Y w (w.setRow b y.toArray) (λ_=>False):=by
 have m:∀k,k≠b->(w.setRow b y.toArray).heap[k]?=w.heap[k]? :=λk G=>setRow_other w b k _ G;have x:(w.setRow b y.toArray).heap[b]?=some (.cells y.toArray t (0,0)):=setRow_heap w b old.toArray _ t _ z;have C:Own h β b:=⟨o,K,A⟩;have f:∀o',isLive (upd h o (.arr n es) o')->isLive (h o'):=by
  intro o' d;unfold upd at d;split at d;next e=>subst e;exact K
  .exact d
 have L:∀o',isLive (h o')->isLive (upd h o (.arr n es) o'):=by
  intro o' d;unfold upd;split
  .trivial
  .exact d
 have p:(w.setRow b y.toArray).heap.size=w.heap.size:=zb;have r:∀k,(w.setRow b y.toArray).shape? k=w.shape? k:=by
  intro k;by_cases G:k=b
  .subst G;simp[World.shape?,x,z,J]
  .simp[World.shape?,m k G]
 have hg:Goes w (w.setRow b y.toArray) (XO Y h β) (XO Y (upd h o<|.arr n es) β) β β:=by
  refine⟨za,λk U G=>⟨m k λe=>U<|.inr<|e▸C,λS=>?_⟩,λk _=>r k,λo b A=>⟨A,D.lt o b A⟩⟩;rcases S with hy|⟨o',d,M⟩
  .exact U<|.inl hy
  .exact U<|.inr ⟨o',f o' d,M⟩
 refine⟨⟨za,λk G X=>m k λe=>X<|e▸C,λk _=>r k,rfl,rfl,rfl⟩,?_,λ_ _ h=>h,λ_ _ h=>.inl h,λo' d=>.inl<|f o' d⟩;refine⟨λo' v d g=>?_,λo' d=>?_,λo1 o2 v T N Z V=>D.inj o1 o2 v (f o1 T) (f o2 N) Z V,λo' v g=>by rw[p];exact D.lt o' v g⟩
 .by_cases I:o'=o
  .subst I;have:v=b:=by rw[A] at g;exact zp g.symm
   subst this;rw[show upd h o' (.arr n es) o'=.arr n es by simp[upd]];refine⟨y,t,x,h1,h2,λi j e c I hc=>?_⟩;obtain⟨u,hu,hr⟩:=h3 i j e c I hc;exact⟨u,hu,hr.goes hg⟩
  .rw[show upd h o (.arr n es) o'=h o' by simp[upd,I]];have H:=f o' d;have W:v≠b:=λe=>I<|D.inj o' o v H K g<|e▸A;exact(D.rep o' v H g).goes hg<|m v W
 .by_cases e:o'=o
  .subst e;rcases D.has o' K with⟨v,g,F,E⟩|⟨_,O⟩
   .exact .inl ⟨v,g,by rw[p];exact F,E⟩
   .rw[O] at A;cases A
  .rcases D.has o' (f o' d) with⟨v,g,F,E⟩|⟨g,O⟩
   .exact .inl ⟨v,g,by rw[p];exact F,E⟩
   .exact .inr (by simp only[upd,e,A6];exact⟨g,O⟩)
theorem ZD (y:Objs h β Y w){o fr b:Nat}(D:isLive<|h o)(r:β o=some b)(K:β fr=none):
  Moves h (upd (upd h o .gone) fr<|h o) β (upd β fr<|some b) Y w w (λk=>k=fr):=by
 have hne:o≠fr:=λe=>by rw[e,K] at r;cases r
 have A:∀o' f,β o'=some f->upd β fr (some b) o'=some f:=by
  intro o' f d;unfold upd;split;next e=>subst e;rw[K] at d;cases d
  .exact d
 have i:∀o' f,upd β fr (some b) o'=some f->(β o'=some f/\o'≠fr)\/(o'=fr/\f=b):=by
  intro o' f d;unfold upd at d;split at d;next e=>exact .inr ⟨e,zp d.symm⟩
  next e=>exact .inl ⟨d,e⟩
 have g:∀k,isLive (upd (upd h o .gone) fr (h o) k)->(k=fr\/(k≠fr/\k≠o/\isLive (h k)/\upd (upd h o .gone) fr (h o) k=h k)):=by
  intro k I;by_cases u:k=fr
  .exact .inl u
  .by_cases p:k=o
   .exfalso;subst p;simp[upd,u,isLive] at I
   .exact .inr ⟨u,p,by simpa[upd,u,p] using I,by simp[upd,u,p]⟩
 have X:Goes w w (XO Y h β) (XO Y (upd (upd h o .gone) fr<|h o)<|upd β fr<|some b) β (upd β fr<|some b):=by
  refine⟨tJ _,λk S I=>⟨rfl,λN=>?_⟩,λ_ _=>rfl,λo b r=>⟨A o b r,y.lt o b r⟩⟩;rcases N with hy|⟨o',x,j⟩
  .exact S<|.inl hy
  .rcases i o' k j with⟨j,v⟩|⟨u,p⟩
   .rcases g o' x with e|⟨_,_,m,_⟩
    .exact absurd e v
    .exact S<|.inr ⟨o',m,j⟩
   .subst p;exact S<|.inr ⟨o,D,r⟩
 refine⟨Good.refl _ _,?_,A,?_,?_⟩
 .refine⟨λo' f x d=>?_,λo' x=>?_,λo1 E f H G T J=>?_,λo' f d=>?_⟩
  .rcases i o' f d with⟨j,v⟩|⟨u,p⟩
   .rcases g o' x with e|⟨_,_,m,O⟩
    .exact absurd e v
    .rw[O];exact(y.rep o' f m j).goes X rfl
   .subst u;subst p;rw[show upd (upd h o .gone) o' (h o) o'=h o by simp[upd]];exact(y.rep o f D r).goes X rfl
  .rcases g o' x with e|⟨F,_,m,O⟩
   .subst e;rcases y.has o D with⟨f,d,C,z⟩|⟨_,M⟩
    .rw[r] at d;injection d with d
     subst d;exact .inl ⟨b,by simp[upd],C,z⟩
    .rw[M] at r;cases r
   .rcases y.has o' m with⟨f,d,C,z⟩|⟨d,M⟩
    .exact .inl ⟨f,A o' f d,C,z⟩
    .refine .inr ?_;rw[O];exact⟨d,by simp only[upd];rw[tD F];exact M⟩
  .rcases i o1 f T with⟨V,Z⟩|⟨u,f1⟩
   .rcases i E f J with⟨U,L⟩|⟨p,f2⟩
    .exact y.inj o1 E f ((g o1 H).resolve_left Z).2.2.1 ((g E G).resolve_left L).2.2.1 V U
    .subst f2;have v1:=(g o1 H).resolve_left Z;exact absurd (y.inj o1 o f v1.2.2.1 D V r) v1.2.1
   .rcases i E f J with⟨U,L⟩|⟨p,f2⟩
    .subst f1;have W:=(g E G).resolve_left L;exact absurd (y.inj E o f W.2.2.1 D U r) W.2.1
    .rw[u,p]
  .rcases i o' f d with⟨j,_⟩|⟨_,p⟩
   .exact y.lt o' f j
   .subst p;exact y.lt o f r
 .intro o' f d;rcases i o' f d with⟨j,_⟩|⟨u,p⟩
  .exact .inl j
  .subst p;exact .inr ⟨u,.inr ⟨o,D,r⟩⟩
 .intro k I;rcases g k I with e|⟨_,_,m,_⟩
  .exact .inr e
  .exact .inl m
theorem Z0 (i:Objs h β Y w)(o:Nat):Moves h (upd h o .gone) β β Y w w (λ_=>False):=by
 have d:∀k,isLive (upd h o .gone k)->isLive (h k)/\k≠o:=by
  intro k g;unfold upd at g;split at g
  .exact g.elim
  next e=>exact⟨g,e⟩
 have E:Goes w w (XO Y h β) (XO Y (upd h o .gone) β) β β:=by
  refine⟨tJ _,λk j g=>⟨rfl,λu=>?_⟩,λ_ _=>rfl,λo b A=>⟨A,i.lt o b A⟩⟩;rcases u with D|⟨o',f,m⟩
  .exact j<|.inl D
  .exact j<|.inr ⟨o',(d o' f).1,m⟩
 refine⟨Good.refl _ _,⟨λo' y f r=>?_,λo' f=>by have j:=d o' f;simp only[upd,j.2,A6];exact i.has o' j.1,λo1 C y v p z x=>i.inj o1 C y (d o1 v).1 (d C p).1 z x,i.lt⟩,λ_ _ h=>h,λ_ _ h=>.inl h,λk g=>.inl (d k g).1⟩;rw[show upd h o .gone o'=h o' by simp[upd,(d o' f).2]];exact(i.rep o' y (d o' f).1 r).goes E rfl
theorem li (j:Objs h β Y w)(o:Nat){fr:Nat}(v:β fr=none)(n:Nat):Moves h (upd (upd h o .gone) fr<|.arr n []) β β Y w w (λk=>k=fr):=by
 have d:∀k,isLive (upd (upd h o .gone) fr (.arr n []) k)->k=fr\/(k≠fr/\isLive (h k)/\upd (upd h o .gone) fr (.arr n []) k=h k):=by
  intro k g;by_cases p:k=fr
  .exact .inl p
  .by_cases E:k=o
   .exfalso;subst E;simp[upd,p,isLive] at g
   .exact .inr ⟨p,by simpa[upd,p,E] using g,by simp[upd,p,E]⟩
 have y:∀k b,isLive (upd (upd h o .gone) fr (.arr n []) k)->β k=some b->k≠fr/\isLive (h k)/\upd (upd h o .gone) fr (.arr n []) k=h k:=λk b g m=>
  (d k g).resolve_left λe=>by rw[e,v] at m;cases m
 have J:Goes w w (XO Y h β) (XO Y (upd (upd h o .gone) fr<|.arr n []) β) β β:=by
  refine⟨tJ _,λk F g=>⟨rfl,λC=>?_⟩,λ_ _=>rfl,λo b m=>⟨m,j.lt o b m⟩⟩;rcases C with I|⟨o',f,i⟩
  .exact F<|.inl I
  .exact F<|.inr ⟨o',(y o' _ f i).2.1,i⟩
 refine⟨Good.refl _ _,⟨λo' z f r=>?_,λo' f=>?_,λo1 G z D A x u=>j.inj o1 G z (y o1 _ D x).2.1 (y G _ A u).2.1 x u,j.lt⟩,λ_ _ h=>h,λ_ _ h=>.inl h,λk g=>(d k g).elim .inr λh=>.inl h.2.1⟩
 .have:=y o' z f r;rw[this.2.2];exact(j.rep o' z this.2.1 r).goes J rfl
 .rcases d o' f with e|⟨_,H,K⟩
  .subst e;exact .inr ⟨⟨n,by simp[upd,flat]⟩,v⟩
  .rw[K];exact j.has o' H
end
theorem dg (u H:AHeap)(o:Nat):hook (u++H) o=over u (hook H) o:=by
 induction u with
 |nil=>rfl
 |cons p u ih=>
  obtain⟨j,x⟩:=p;simp only[AE,hook,over,y4];split
  .rfl
  .exact ih
theorem over_nil (h:Nat->AObj):over [] h=h:=rfl
theorem xv (o:Nat)(x:AObj)(h:Nat->AObj):over [(o,x)] h=upd h o x:=by funext k;simp only[over,y4,upd];grind
theorem Moves.weaken {h h':Nat->AObj}{β d:Nat->Option Nat}{Y:Nat->Prop}{w w':World}{fr fr':Nat->Prop}(m:Moves h h' β d Y w w' fr)(e:∀o,fr o->fr' o):Moves h h' β d Y w w' fr':=
 ⟨m.good,m.objs,m.bmono,λo b g=>(m.bnew o b g).imp id λ⟨x,y⟩=>⟨e o x,y⟩,λo f=>(m.lmono o f).imp id<|e o⟩
section
variable {P:Program} {h:Nat->AObj} {β:Nat->Option Nat} {Y:Nat->Prop} {w:World}
def Does (P:Program)(h:Nat->AObj)(β:Nat->Option Nat)(Y:Nat->Prop)(w:World)(fr:Nat)(r:AR)(s:Sem Next):Prop:=
 ∃n v w' β',s.run P w=.ok n w'/\(n=.value v\/(n=.skip/\v=undef))/\Moves h (over r.upd h) β β' Y w w' (λk=>k=fr)/\TRep w' (XO Y (over r.upd h) β') β' r.val v
theorem w3 (f:Objs h β Y w){fr:Nat}{r:TV}{s:Sem Value}{rd:List Nat}(d:∃u,s.run P w=.ok u w/\TRep w (XO Y h β) β r u):
  Does P h β Y w fr ⟨r,[],rd⟩ (do pure (.value (<-s))):=by
 obtain⟨u,b,e⟩:=d;exact⟨.value u,u,w,β,by simp[b],.inl rfl,(Moves.refl f λ_=>rfl).weaken λ_ h=>h.elim,e⟩
theorem yI (f:Objs h β Y w){fr:Nat}{v:Option TV}{r:AR}{s:Sem Value}(e:valR v=some r)(d:∀x,v=some x->∃u,s.run P w=.ok u w/\TRep w (XO Y h β) β x u):
  Does P h β Y w fr r (do pure (.value (<-s))):=by
 obtain⟨x,b,rfl⟩:=tH.1 e;exact w3 f<|d x b
theorem zN {α:Type}{t:TypeId}{f:TyD->Option α}{r:α}(b:yy P t f=some r):∃d,tyOf P t=some d/\f d=some r:=by unfold yy at b;grind
theorem yb {α:Type}{t:TypeId}{f:TyD->Option α}{r:α}(g:yj P t f=some r):∃d e b,tyOf P t=some d/\d.kind=.slice e/\tyOf P e=some b/\f b=some r:=by unfold yj at g;grind
theorem wG {t:TypeId}{d:TyD}{z:List FV}(hd:tyOf P t=some d)(h:d.zero=some z):∃v,(zeroValue t).run P w=.ok v w/\z=v.cells.toList.map fvOf/\(∀u∈v.cells.toList,u.oneCell'=true)/\(∃i,P.info? t=some i/\i.zero=some v):=by
 obtain⟨i,u,g,j,_,_,_,b,_⟩:=wI hd;rw[h] at b;cases e:i.zero with
 |none=>rw[e] at b;cases b
 |some v=>
  rw[e] at b;simp only at b;split at b
  .rename_i f;injection b with b
   refine⟨v,by simp[zeroValue,typeInfo,g,e],b,λu j=>?_,i,g,e⟩;simp only[Az] at f;grind
  .cases b
theorem uO (X:Nat->Prop)(b:List Value)(f:∀u∈b,u.oneCell'=true):LRep (WRep w X β) (fzs<|b.map fvOf) b:=by refine⟨by simp[fzs],λj c u d e=>?_⟩;simp only[fzs,tV,e,tW,tL] at d;subst d;exact .a _ _<|.fz _ _<|aD w X u<|f u<|Aq e
theorem cm {X:Nat->Prop}{cs:List WV}{b:List Value}(f:LRep (WRep w X β) cs b):[cs].length*cs.length<=b.length/\(∀e∈ [cs],e.length=cs.length)/\
  ∀(i j:Nat) (e:List WV) (c:WV),[cs][i]?=some e->e[j]?=some c->∃u,b[i*cs.length+j]?=some u/\WRep w X β c u:=by
 refine⟨by simp[f.1],zb,λi j e c d g=>?_⟩;cases i with
 |zero=>simp at d;subst d;simpa using f.get g
 |succ i=>simp at d
theorem uf (A:Objs h β Y w) (y:∀b,Y b->b<w.heap.size) {fr:Nat} (g:β fr=none) (n:Nat) (es:List<|List WV) (f:List Value) (t:TypeId) (m:Nat) (v:Value) (x:TV) {s:Sem Value} {rd:List Nat}
  (D:s.run P w=.ok v {w with heap:=w.heap.push (.cells f.toArray t (0,0)),drawn:=w.drawn+m})
  (C:es.length*n<=f.length) (z:∀e∈es,e.length=n)
  (p:∀(i j:Nat) (e:List WV) (c:WV),es[i]?=some e->e[j]?=some c->∃u,f[i*n+j]?=some u/\WRep w (XO Y h β) β c u)
  (r:∀w' d,d fr=some w.heap.size->w'.shape? w.heap.size=some (t,f.length)->TRep w' (XO Y (upd h fr<|.arr n es) d) d x v):
  Does P h β Y w fr ⟨x,[(fr,.arr n es)],rd⟩ (do pure (.value (<-s))):=by
 have o:=qd A y g n es f t m C z p;refine⟨.value v,v,{w with heap:=w.heap.push (.cells f.toArray t (0,0)),drawn:=w.drawn+m},upd β fr<|some w.heap.size,?_,.inl rfl,?_,?_⟩
 .simp_all
 .rw[xv];exact o
 .rw[xv];exact r _ _ (by simp[upd]) (by simp[World.shape?])
theorem d7 (y:Objs h β Y w)(u:∀b,Y b->b<w.heap.size){fr:Nat}(g:β fr=none){t:TypeId}{d:TyD}{z:List FV}(hd:tyOf P t=some d)(x:d.zero=some z):
  Does P h β Y w fr ⟨.c<|.a<|.ep fr z.length 0 0,[(fr,.arr z.length [fzs z])],[]⟩ (do pure (.value (<-Instr.alloc t true<|.tuple #[]))):=by
 obtain⟨v,r,rfl,o,_⟩:=wG (w:=w) hd x;have A:=uO (w:=w) (β:=β) (XO Y h β) v.cells.toList o;obtain⟨i,j,m⟩:=cm A;have f:(fzs<|v.cells.toList.map fvOf).length=(v.cells.toList.map fvOf).length:=by simp[fzs]
 rw[f] at i j m;refine uf y u g _ _ v.cells.toList t 0 (.pointer<|some ⟨w.heap.size,0,none⟩) _ ?_ i j m ?_
 .simp only[Instr.alloc,Ao,r,A2,newVar,newRow,run_newObj,Av,S1,Ed]
 .intro w' e p _;have:=ARep.ep (w:=w') (X:=XO Y (upd h fr<|.arr (v.cells.toList.map fvOf).length [fzs<|v.cells.toList.map fvOf]) e) (β:=e) fr (v.cells.toList.map fvOf).length 0 0 _ p;simp only[Nat.zero_mul,Ed] at this;exact .a _ _ this
theorem box_does (g:Objs h β Y w)(j:∀b,Y b->b<w.heap.size){fr:Nat}(e:β fr=none){t:TypeId}{x:TV}{u:Value}{cs:List WV}(i:TRep w (XO Y h β) β x u)(m:uI x=some cs):
  Does P h β Y w fr ⟨.c<|.a<|.ep fr cs.length 0 0,[(fr,.arr cs.length [cs])],[]⟩ (do pure (.value (<-Instr.box t u))):=by
 obtain⟨p,f,o⟩:=cm<|Zf i m;refine uf g j e _ _ u.cells.toList t 0 (.pointer<|some ⟨w.heap.size,0,none⟩) _ ?_ p f o ?_
 .rfl
 .intro w' d r _;have:=ARep.ep (w:=w') (X:=XO Y (upd h fr<|.arr cs.length [cs]) d) (β:=d) fr cs.length 0 0 _ r;simp only[Nat.zero_mul,Ed] at this;exact .a _ _ this
theorem w9 (x:AObj):isLive (flat x)↔isLive x:=by cases x<;>simp[flat,isLive]
theorem uW (g:Objs h β Y w){o b n:Nat}{es:List (List WV)}(p:flat (h o)=.arr n es)(m:β o=some b):∃(d:List Value) (t:TypeId),w.heap[b]?=some (.cells d.toArray t (0,0))/\es.length*n<=d.length/\(∀e∈es,e.length=n)/\
  ∀(i j:Nat) (e:List WV) (c:WV),es[i]?=some e->e[j]?=some c->∃u,d[i*n+j]?=some u/\WRep w (XO Y h β) β c u:=by
 have f:isLive (h o):=by rw[<-w9,p];trivial
 have:=g.rep o b f m;unfold ORep at this;grind
theorem cv {es:List (List WV)}{n i L:Nat}{e:List WV}(f:es.length*n<=L)(d:es[i]?=some e)(_:e.length=n):i*n+n<=L:=by have b:=(tQ.1 d).1;have:(i+1)*n<=es.length*n:=Ar _ b;grind
theorem elem_rep {X:Nat->Prop} {es:List (List WV)} {n i:Nat} {b:List Value} {e:List WV} (f:es.length*n<=b.length) (g:∀e∈es,e.length=n)
  (m:∀(i j:Nat) (e:List WV) (c:WV),es[i]?=some e->e[j]?=some c->∃u,b[i*n+j]?=some u/\WRep w X β c u) (d:es[i]?=some e):LRep (WRep w X β) e ((b.drop<|i*n).take n):=by
 have h:=g e<|Aq d;have o:=cv f d h;refine⟨zd,λj c u p r=>?_⟩;grind
theorem Jf (K:Objs h β Y w){t:TypeId}{d:TyD}{x:TV}{u:Value}{r:TV×List Nat}(hd:tyOf P t=some d)(D:TRep w (XO Y h β) β x u)(p:wS d h x=some r):
  ∃v,(Instr.loadAt t u).run P w=.ok v w/\TRep w (XO Y h β) β r.1 v:=by
 unfold wS at p;split at p
 .rename_i o n i j;split at p
  .rename_i m es H;split at p
   .rename_i U;split at p
    .rename_i e L;split at p<;>simp only[tL,reduceCtorEq] at p;rename_i v C;subst p;obtain⟨b,T,rfl⟩:=D.ep_inv;obtain⟨us,X,F,J,M,N⟩:=uW K (by rw[H];rfl) T;have z:=elem_rep J M N L;refine JX hd _ (z.drop j) (λk u y=>?_) C;rw[E2,AL,E2] at y;split at y
     .simp only[World.cell?,F,Ew,En,tX,A6];grind
     .cases y
    .cases p
   .cases p
  .cases p
 .rename_i cs;split at p<;>simp only[tL,reduceCtorEq] at p;rename_i v C;subst p;have I:=D.fz_inv;cases I with
  |pt _ b S f W Z h5 O=>
   refine JX hd ((List.range cs.length).map f) ?_ (λj u y=>?_) C
   .refine⟨by simp[fzs],λj c u E y=>?_⟩;simp only[fzs,tV] at E y;obtain⟨g,G,rfl⟩:=tH.1 E;obtain⟨k,V,rfl⟩:=tH.1 y;have A:k=j:=by grind
    subst A;exact .a _ _<|.fz _ _<|O k g G
   .simp only[tV] at y;have hj:j<cs.length:=by grind
    simp_all
 .cases p
theorem oK (b:Objs h β Y w){fr:Nat}{t:TypeId}{d:TyD}{x:TV}{u:Value}{r:TV×List Nat}(hd:tyOf P t=some d)(e:TRep w (XO Y h β) β x u)(f:wS d h x=some r):
  Does P h β Y w fr ⟨r.1,[],r.2⟩ (do pure (.value (<-Instr.loadAt t u))):=w3 b<|Jf b hd e f
theorem LRep.cell {X:Nat->Prop}{cs:List WV}{d:List Value}(h:LRep (WRep w X β) cs d):∀u∈d,u.oneCell'=true:=by
 intro u f;obtain⟨j,e⟩:=E6 f;have b:j<cs.length:=by have:=(tQ.1 e).1;have:=h.1;omega
 exact(h.2 j _ u (tO b) e).oneCell
theorem pU {b cs:List Value}{a j:Nat}(h:a+cs.length<=b.length):(b.take a++cs++b.drop (a+cs.length))[j]?=if j<a then b[j]? else if j<a+cs.length then cs[j-a]? else b[j]? :=zd
theorem fp {e cs:List WV}{a j:Nat}(h:a+cs.length<=e.length):(splice e a cs)[j]?=if j<a then e[j]? else if j<a+cs.length then cs[j-a]? else e[j]? :=by unfold splice;grind
theorem lj (hO:Objs h β Y w){fr:Nat}{t:TypeId}{d:TyD}{x y:TV}{u v:Value}{r:AR}(hd:tyOf P t=some d)(hx:TRep w (XO Y h β) β x u)(hy:TRep w (XO Y h β) β y v)(g:vS d h x y=some r):
  Does P h β Y w fr r (do (Instr.storeAt t u v);pure .skip):=by
 unfold vS at g;split at g
 .rename_i cs o n i j L;split at g
  .rename_i m es Z;split at g
   .rename_i H;obtain⟨H,hsz⟩:=H;subst H;split at g
    .rename_i e he;split at g<;>simp only[tL,reduceCtorEq] at g;subst g;obtain⟨b,hb,rfl⟩:=hx.ep_inv;obtain⟨p,X,V,g2,g3,g4⟩:=uW hO (by rw[Z];rfl) hb;have C:=Zf hy L;have S:=g3 e<|Aq he;have T:=cv g2 he S;have hlen:v.cells.toList.length=cs.length:=C.1.symm;have O:i*m+j+v.cells.toList.length<=p.length:=za;have F:=run_storeCells_at P b (i*m+j) X v.cells.toList 0 p.toArray w V za C.cell;have D:v.cells.size=d.size:=zd
     have N:=Xp hO (by rw[Z];trivial:isLive<|h o) hb (p.take (i*m+j)++v.cells.toList++p.drop (i*m+j+v.cells.toList.length)) p X V zd m (es.set i<|splice e j cs)
      zd
      (λK f=>by
       rcases El f with h1|h1
       .grind
       .subst h1;unfold splice;simp;omega)
      (λI G K c f E=>by
       rw[pU za];rw[Eb] at f;split at f
       .rename_i A;subst A;split at f
        .injection f with f
         subst f;rw[fp za] at E;by_cases k1:G<j
         .grind
         .rw[tD k1] at E;rw[tD za];by_cases k2:G<j+cs.length
          .rw[tG k2] at E;obtain⟨z,W,U⟩:=C.get E;grind
          .grind
        .cases f
       .rename_i A;have hen':=g3 K (Aq f);have hj':G<m:=zd;obtain⟨z,W,U⟩:=g4 I G K c f E;refine⟨z,?_,U⟩;rcases Nat.lt_or_gt_of_ne A with J|hgt
        .have:(i+1)*m<=I*m:=Ar _ J;grind
        .have:(I+1)*m<=i*m:=Ar _ hgt;rw[AG] at this;rw[tG za];exact W)
     refine⟨.skip,undef,w.setRow b (p.take (i*m+j)++v.cells.toList++p.drop (i*m+j+v.cells.toList.length)).toArray,β,?_,.inr ⟨rfl,rfl⟩,?_,trivial⟩
     .have M:(storeVar t ⟨b,i*m+j,none⟩ v).run P w=.ok () (w.setRow b (p.take (i*m+j)++v.cells.toList++p.drop (i*m+j+v.cells.toList.length)).toArray):=by simp only[storeVar,Ao,zV hd,A2,D,ne_eq,not_true_eq_false,A6];exact F
      simp only[Ao,Instr.storeAt,Instr.sureAddr,Av,A2,M]
     .rw[xv];exact N.weaken λ_ h=>h.elim
    .cases g
   .cases g
  .cases g
 .cases g
theorem len_does (H:Objs h β Y w){fr:Nat}{t ty:TypeId}{d:TyD}{x:TV}{u:Value}{r:Nat×List Nat}(hd:tyOf P t=some d)(p:TRep w (XO Y h β) β x u)(g:lenP d h x=some r):
  Does P h β Y w fr ⟨iV r.1,[],r.2⟩ (do pure (.value (<-Builtin.len_ #[t] ty #[u]))):=by
 refine w3 H ?_;have fin:∀n:Nat,(Builtin.len_ #[t] ty #[u]).run P w=.ok (goInt n) w->r.1=n->∃z,(Builtin.len_ #[t] ty #[u]).run P w=.ok z w/\TRep w (XO Y h β) β (iV r.1) z:=λn v K=>⟨_,v,by rw[K];exact .int_mk _ _⟩;unfold lenP at g;split at g
 .rename_i e m;have i:=xp hd m;unfold XD at g;split at g
  .injection g with g;subst g;rw[p.nils_inv] at fin ⊢;exact fin 0 (by simp[Builtin.len_,tT i,goInt]) rfl
  .injection g with g;subst g
   rename_i M n es;have v:=p.fz_inv;cases v with
   |slnil=>exact fin 0 (by simp[Builtin.len_,tT i,goInt]) rfl
   |sl0 _ _ a=>exact fin 0 (by simp[Builtin.len_,tT i,goInt]) rfl
   |sl _ _ _ b C cap y f F=>subst F;exact fin es.length (by simp[Builtin.len_,tT i,goInt]) rfl
  .injection g with g;subst g
   have v:=p.fz_inv;cases v with
   |z0 _ a=>exact fin 0 (by simp[Builtin.len_,tT i,goInt]) rfl
   |z0n=>exact fin 0 (by simp[Builtin.len_,tT i,goInt]) rfl
  .injection g with g;subst g
   rename_i o n C y;obtain⟨b,q,cap,sz,N,_,_,_,_,_,rfl⟩|⟨rfl,rfl⟩:=p.osl_inv
   .exact fin y (by simp[Builtin.len_,tT i,goInt]) rfl
   .exact fin 0 (by simp[Builtin.len_,tT i,goInt]) rfl
  .cases g
 .rename_i m;have i:=WZ hd m;unfold lenStr at g;split at g
  .injection g with g;subst g;rw[p.str_inv] at fin ⊢
   rename_i l;have D:(⟨l.toArray⟩:ByteArray).size=l.length:=by simp[ByteArray.size]
   exact fin l.length (by simp[Builtin.len_,tT i,goInt,D]) rfl
  .cases g
 .rename_i T L m;obtain⟨O,A,E⟩:=xR hd;rw[E] at m;have i:=l6 m;subst i;unfold t5 at g;split at g
  .rename_i o;split at g
   .rename_i es G;injection g with g;subst g
    obtain⟨b,J,rfl⟩:=p.mp_inv;have j:=H.rep o b (by rw[G];trivial) J;rw[G] at j;unfold ORep flat at j;obtain⟨ms,S,F,I,_⟩:=j;refine fin es.length ?_ rfl;simp only[Builtin.len_,Ao,tT A,A2,Ew,AI,getObj,Sem.run,F,Av,List.size_toArray,I]
   .cases g
  .cases g
 next n e m=>have i:=Y6 hd m;simp only[tL] at g;subst g;exact fin n (by simp[Builtin.len_,tT i,goInt]) rfl
 .cases g
theorem K7 {X:Nat->Prop}:∀ {l:List TV} {d:List Value} {k:IntKind} {b:List Int},vU l=some (k,b)->LRep (TRep w X β) l d->d=b.map (Value.int k)/\b≠[]
 |[],d,k,b,h,_=>by simp[vU] at h
 |[.c (.a (.fz (.int v n)))],d,k,b,h,m=>by simp only[vU,tL,Am] at h;obtain⟨rfl,rfl⟩:=h;obtain⟨u,g,rfl,j,i⟩:=m.cons_inv;rw[i.nil_inv,TRep.int_inv j];simp
 |.c (.a (.fz (.int v n)))::y::r,d,k,b,h,m=>by
  simp only[vU] at h;obtain⟨⟨A,l2⟩,o,f⟩:=E5.1 h;simp only at f;split at f
  .rename_i e;injection f with f
   injection f with p x
   subst p;subst x;subst e;obtain⟨u,g,rfl,j,i⟩:=m.cons_inv;obtain⟨z,C⟩:=K7 o i;rw[z,TRep.int_inv j];simp
  .cases f
 |.any::r,d,k,b,h,_=>by simp[vU] at h
 |.agg _::r,d,k,b,h,_=>by simp[vU] at h
 |.tup _::r,d,k,b,h,_=>by simp[vU] at h
 |.c (.fn _ _ _)::r,d,k,b,h,_=>by simp[vU] at h
 |.c (.a (.ep _ _ _ _))::r,d,k,b,h,_=>by simp[vU] at h
 |.c (.a (.osl _ _ _ _))::r,d,k,b,h,_=>by simp[vU] at h
 |.c (.a (.mp _))::r,d,k,b,h,_=>by simp[vU] at h
 |.c (.a .any)::r,d,k,b,h,_=>by simp[vU] at h
 |.c (.a (.fz (.bool _)))::r,d,k,b,h,_=>by simp[vU] at h
 |.c (.a (.fz (.str _)))::r,d,k,b,h,_=>by simp[vU] at h
 |.c (.a (.fz (.cst _)))::r,d,k,b,h,_=>by simp[vU] at h
 |.c (.a (.fz .N))::r,d,k,b,h,_=>by simp[vU] at h
 |.c (.a (.fz (.sl _ _ _)))::r,d,k,b,h,_=>by simp[vU] at h
 |.c (.a (.fz (.pt _)))::r,d,k,b,h,_=>by simp[vU] at h
theorem gx (k:IntKind):∀(l:List Int) (x:Int),((l.map<|Value.int k).foldlM Builtin.max2<|.int k x).run P w=.ok (.int k<|l.foldl max x) w
 |[],x=>zb
 |y::l,x=>by simp only[Aw,List.foldlM_cons,Builtin.max2,Ao,Av,A2,Ek];rw[show(if y>x then y else x)=max x y by simp only[Int.max_def];split<;>split<;>omega];exact gx k l _
theorem JZ (k:IntKind):∀(l:List Int) (x:Int),((l.map<|Value.int k).foldlM Builtin.min2<|.int k x).run P w=.ok (.int k<|l.foldl min x) w
 |[],x=>zb
 |y::l,x=>by simp only[Aw,List.foldlM_cons,Builtin.min2,Ao,Av,A2,Ek];rw[show(if y<x then y else x)=min x y by simp only[Int.min_def];split<;>split<;>omega];exact JZ k l _
theorem pk {X:Nat->Prop}{m:Bool}{l:List TV}{d:List Value}{r:TV}(f:Array TypeId)(ty:TypeId)(h:minA m l=some r)(g:LRep (TRep w X β) l d):
  ∃z,(if m then Builtin.max_ f ty d.toArray else Builtin.min_ f ty d.toArray).run P w=.ok z w/\TRep w X β r z:=by
 unfold minA at h;split at h
 .rename_i p i;obtain⟨k,b⟩:=p;injection h with h
  subst h;obtain⟨rfl,e⟩:=K7 i g;cases b with
  |nil=>exact absurd rfl e
  |cons n b=>
   refine⟨.int k (if m=true then xH (n::b) else xI<|n::b),?_,.int_mk _ _⟩;cases m
   .simpa[Builtin.min_,xI] using JZ (P:=P) (w:=w) k b n
   .simpa[Builtin.max_,xH] using gx (P:=P) (w:=w) k b n
 .cases h
end
theorem Moves.trans {h j z:Nat->AObj} {β e β2:Nat->Option Nat} {Y:Nat->Prop} {w w1 A:World} {m v f:Nat->Prop} (d:Moves h j β e Y w w1 m) (g:Moves j z e β2 Y w1 A v)
  (F:∀o,m o->β o=none) (_:Objs h β Y w) (C:∀o,m o->f o) (E:∀o,v o->f o):Moves h z β β2 Y w A f:=by
 have p:∀b,b<w.heap.size->Own j e b->Own h β b:=by
  rintro b i ⟨o,u,D⟩;rcases d.bnew o b D with h' |⟨hfo,h' |h'⟩
  .rcases d.lmono o u with r|hfo
   .exact⟨o,r,h'⟩
   .grind
  .omega
  .exact h'
 have G:=d.good.size;refine⟨d.good.trans g.good p,g.objs,λo b i=>g.bmono o b<|d.bmono o b i,λo b i=>?_,λo u=>?_⟩
 .rcases g.bnew o b i with h' |⟨hfo,h' |h'⟩
  .exact(d.bnew o b h').imp id λ⟨x,y⟩=>⟨C o x,y⟩
  .grind
  .grind
 .rcases g.lmono o u with h' |h'
  .exact(d.lmono o h').imp id<|C o
  .grind
theorem rD {P:Program}{h:Nat->AObj}{β:Nat->Option Nat}{Y:Nat->Prop}{w:World}(i:Objs h β Y w){k:Nat}{x:AObj}(H:isLive<|h k)(F:isLive x)(m:bareO (h k)->bareO x)(z:∀X b,β k=some b->ORep w X β (h k) b->ORep w X β x b):Moves h (upd h k x) β β Y w w (λ_=>False):=by
 have g:∀o,isLive (upd h k x o)->isLive (h o):=λo d=>by
  unfold upd at d;split at d
  .grind
  .exact d
 have A:∀o,isLive (h o)->isLive (upd h k x o):=λo d=>by
  unfold upd;split
  .exact F
  .exact d
 have G:Goes w w (XO Y h β) (XO Y (upd h k x) β) β β:=by
  refine⟨tJ _,λb r _=>⟨rfl,λu=>?_⟩,λ_ _=>rfl,λo b m=>⟨m,i.lt o b m⟩⟩;rcases u with I|⟨o',v,p⟩
  .grind
  .exact r<|.inr ⟨o',g _ v,p⟩
 refine⟨Good.refl _ _,⟨λo b d j=>?_,λo d=>?_,λo1 E b y C=>i.inj o1 E b (g _ y)<|g _ C,i.lt⟩,λ_ _ h=>h,λ_ _ h=>.inl h,λo d=>.inl<|g o d⟩
 .have f:=(i.rep o b (g o d) j).goes G rfl;by_cases e:o=k
  .subst e;rw[show upd h o x o=x by simp[upd]];exact z _ _ j f
  .rw[show upd h k x o=h o by simp[upd,e]];exact f
 .rcases i.has o (g o d) with f|⟨f,D⟩
  .grind
  .refine .inr ⟨?_,D⟩;by_cases e:o=k
   .subst e;rw[show upd h o x o=x by simp[upd]];exact m f
   .rw[show upd h k x o=h o by simp[upd,e]];exact f
theorem pN {P:Program}{h:Nat->AObj}{β:Nat->Option Nat}{Y:Nat->Prop}{w:World}(y:Objs h β Y w)(I:∀b,Y b->b<w.heap.size){fr:Nat}(r:β fr=none){t:TypeId}{d:TyD}{z:List FV}(hd:tyOf P t=some d)(H:d.zero=some z):
  Does P h β Y w fr ⟨.c<|.a<|.ep fr z.length 0 0,[(fr,.arr z.length [bldZ P t d fr z])],[]⟩ (do pure (.value (<-Instr.alloc t true<|.tuple #[]))):=by
 unfold bldZ;split
 .obtain⟨v,M,p,L,_⟩:=wG (w:=w) hd H;have V:=uO (w:=w) (β:=β) (XO Y h β) v.cells.toList L;obtain⟨F,G,J⟩:=cm V;have T:v.cells.toList.length=2:=by have:=(congrArg List.length p).symm;grind
  rw[<-p] at F G J;have E:=qd y I r 2 _ v.cells.toList t 0 F G J;have D:({w with heap:=w.heap.push (.cells v.cells.toList.toArray t (0,0)),drawn:=w.drawn+0}:World).shape? w.heap.size=some (t,2):=by simp[World.shape?];exact T
  have O:=rD (P:=P) E.objs (k:=fr) (x:=.arr 2 [[.a<|.bld t fr,.a<|.fz .N]]) (by simp[upd,isLive]) trivial (λm=>by
   obtain⟨n,m⟩:=m
   simp[upd,flat] at m) (λX b m g=>by
    have C:b=w.heap.size:=by simpa[upd] using m.symm
    subst C;rw[show upd h fr (.arr 2 [fzs [.cst<|.pointer none,.N]]) fr=.arr 2 [fzs [.cst<|.pointer none,.N]] by simp[upd]] at g;obtain⟨W,U,g1,N,g3,K⟩:=g;refine⟨W,U,g1,N,zb,λi j e c A o=>?_⟩;cases i with
    |succ i=>simp at A
    |zero=>
     simp at A;subst A;cases j with
     |zero=>
      simp at o;subst o;obtain⟨u,Z,g⟩:=K 0 0 _ (.a<|.fz<|.cst<|.pointer none) rfl rfl;refine⟨u,Z,.a _ _<|.bld t fr _ u m D<|.inl ?_⟩;cases g with
      |a _ _ g=>cases g with
       |fz _ _ g=>cases g with
        |cst _ _=>rfl
     |succ j=>
      cases j with
      |zero=>simp at o;subst o;exact K 0 1 _ (.a<|.fz .N) rfl rfl
      |succ j=>simp at o)
  have S:=E.trans O (f:=λk=>k=fr) (λk hk=>zd) y (λ_ h=>h) λ_ h=>h.elim;refine⟨.value<|.pointer<|some ⟨w.heap.size,0,none⟩,.pointer<|some ⟨w.heap.size,0,none⟩,{w with heap:=w.heap.push (.cells v.cells.toList.toArray t (0,0)),drawn:=w.drawn+0},upd β fr<|some w.heap.size,?_,.inl rfl,?_,?_⟩
  .simp only[Instr.alloc,Ao,M,A2,newVar,newRow,run_newObj,Av,S1,Ed]
  .rw[xv];show Moves h (upd h fr<|.arr 2 [[.a<|.bld t fr,.a<|.fz .N]]) _ _ _ _ _ _;rw[show upd h fr (.arr 2 [[.a<|.bld t fr,.a<|.fz .N]])=upd (upd h fr<|.arr 2 [fzs [.cst<|.pointer none,.N]]) fr (.arr 2 [[.a<|.bld t fr,.a<|.fz .N]]) by funext k;simp only[upd];split<;>rfl];exact S
  .rw[xv];have:=ARep.ep (w:={w with heap:=w.heap.push (.cells v.cells.toList.toArray t (0,0)),drawn:=w.drawn+0}) (X:=XO Y (upd h fr<|.arr 2 [[.a<|.bld t fr,.a<|.fz .N]])<|upd β fr<|some w.heap.size) (β:=upd β fr<|some w.heap.size) fr 2 0 0 w.heap.size (by simp[upd]);exact .a _ _ this
 .exact d7 y I r hd H
section
variable {P:Program} {h:Nat->AObj} {β:Nat->Option Nat} {Y:Nat->Prop} {w:World}
theorem jA {n:Nat}:∀ {es:List (List WV)} (_:∀e∈es,e.length=n) (i j:Nat),j<n->es.flatten[i*n+j]?=(es[i]?).bind (·[j]?)
 |[],_,i,j,_=>zb
 |e::es,b,i,j,d=>by
  have f:=b e zb;cases i with
  |zero=>simp[AQ,f,d]
  |succ i=>
   have ih:=jA (es:=es) (λe h=>b e<|by simp[h]) i j d;grind
theorem vY {n:Nat}:∀ {es:List (List WV)} (_:∀e∈es,e.length=n),es.flatten.length=es.length*n
 |[],_=>zb
 |e::es,b=>by have:=vY (es:=es) (λe h=>b e<|by simp[h]);grind
theorem xK {X:Nat->Prop}{n:Nat}{es:List (List WV)}{b:List Value}(d:∀e∈es,e.length=n)(g:LRep (WRep w X β) es.flatten b):
  ∀(i j:Nat) (e:List WV) (c:WV),es[i]?=some e->e[j]?=some c->∃u,b[i*n+j]?=some u/\WRep w X β c u:=by
 intro i j e c h m;have f:j<n:=zd;exact g.get (by rw[jA d i j f,h];exact m)
theorem ui {X:Nat->Prop} {n:Nat} {es:List (List WV)} {d:List Value} (g:∀e∈es,e.length=n) (b:d.length=es.length*n)
  (p:∀(i j:Nat) (e:List WV) (c:WV),es[i]?=some e->e[j]?=some c->∃u,d[i*n+j]?=some u/\WRep w X β c u):LRep (WRep w X β) es.flatten d:=by
 refine⟨by rw[vY g,b],λk c u h o=>?_⟩;have m:k<es.length*n:=zd
 have hn0:0<n:=by rcases Sa n with h0|h0; · subst h0;simp at m
                  .exact h0
 have f:k/n*n+k % n=k:=by rw[Nat.mul_comm];exact Nat.div_add_mod k n
 rw[<-f] at h o;rw[jA g _ _<|Nat.mod_lt _ hn0] at h;grind
theorem jr (hO:Objs h β Y w){n:Nat}{x:TV}{v:Value}{r:List (List WV)}{rd:List Nat}(d:w4 n h x=some (r,rd))(L:TRep w (XO Y h β) β x v)(hn0:0<n):
  (∀e∈r,e.length=n)/\∃(E:List Value),LRep (WRep w (XO Y h β) β) r.flatten E/\((v=.slice none 0 0/\r=[])\/
   ∃a cap,v=.slice (some a) r.length cap/\∀j u,E[j]?=some u->w.cell? (a.add j)=some u):=by
 unfold w4 at d;split at d
 .simp only[tL,Am] at d;obtain⟨rfl,rfl⟩:=d;exact⟨zb,[],.nil,.inl ⟨L.nils_inv,rfl⟩⟩
 .rename_i nn m es;split at d
  .rename_i hm;subst hm;obtain⟨rfl,rfl⟩:=d;have M:=L.fz_inv;cases M with
   |slnil=>exact⟨zb,[],.nil,.inl ⟨rfl,rfl⟩⟩
   |sl0 _ _ a=>exact⟨zb,[],.nil,.inr ⟨a,0,rfl,λj u h=>zd⟩⟩
   |sl _ _ _ b off cap len f T g2 V Z g5 g6 g7=>
    subst T;have H:∀e∈es.map fzs,e.length=m:=by intro e d;obtain⟨S,z,rfl⟩:=Ay.1 d;obtain⟨i,D⟩:=E6 z;simp[fzs,g5 i S D]
    refine⟨H,(List.range<|es.length*m).map λk=>f (k/m)<|k % m,?_,.inr ⟨⟨b,off,none⟩,cap,zb,?_⟩⟩
    .refine ui H zb λi j e c d F=>?_;rw[tV] at d;obtain⟨S,z,rfl⟩:=tH.1 d;rw[fzs,tV] at F;obtain⟨c',O,rfl⟩:=tH.1 F;have D:=(tQ.1 z).1;have J:j<m:=zd;have G:i*m+j<es.length*m:=by have:(i+1)*m<=es.length*m:=Ar _ D;grind
     refine⟨f i j,?_,.a _ _<|.fz _ _<|g7 i j S c' z O⟩;rw[tV,Ep G];simp only[tW,tL];rw[Nat.mul_comm i m,Nat.mul_add_div hn0,Nat.div_eq_of_lt J,Nat.mul_add_mod,Nat.mod_eq_of_lt J,Ed]
    .intro k u C;rw[tV] at C;obtain⟨k',y,rfl⟩:=tH.1 C;have K:k<es.length*m:=zd;rw[Ep K] at y;injection y with y
     subst y;have D:k/m<es.length:=by rw[Nat.div_lt_iff_lt_mul hn0];exact K
     have N:=g5 _ _<|tO D;have J:k % m<es[k/m].length:=by rw[N];exact Nat.mod_lt _ hn0
     have:=g6 _ _ _ _ (tO D)<|tO J;rw[Addr.add_lit];rw[show off+k=off+k/m*m+k % m by have:=Nat.div_add_mod k m;rw[Nat.mul_comm] at this;omega];exact this
  .cases d
 .simp only[tL,Am] at d;obtain⟨rfl,rfl⟩:=d;have M:=L.fz_inv;cases M with
  |z0 _ a=>exact⟨zb,[],.nil,.inr ⟨a,0,rfl,λj u h=>zd⟩⟩
  |z0n=>exact⟨zb,[],.nil,.inl ⟨rfl,rfl⟩⟩
 .rename_i o m off len;split at d
  .rename_i A es ho;split at d
   .rename_i F;obtain⟨rfl,rfl,I⟩:=F;obtain⟨rfl,rfl⟩:=d;obtain⟨b,q,cap,sz,tt,hb,hsh,hlc,W,hq,rfl⟩|⟨h0,rfl⟩:=L.osl_inv
    case inr=>subst h0;exact⟨zb,[],zp LRep.nil,.inl ⟨rfl,zb⟩⟩
    obtain⟨us,t,T,g2,V,Z⟩:=uW hO (by rw[ho];rfl) hb;have H:∀e∈(es.drop off).take len,e.length=A:=λe d=>V e<|Eg<|EM d;have X:((es.drop off).take len).length=len:=zd;have U:(off+len)*A<=es.length*A:=Ar _ I;refine⟨H,(us.drop<|off*A).take<|len*A,?_,.inr ⟨⟨b,q,none⟩,cap,zd,?_⟩⟩
    .refine ui H zd λi j e c d F=>?_;rw[AL,E2] at d;split at d
     .rename_i D;obtain⟨u,C,hr⟩:=Z _ j e c d F;have G:i*A+j<len*A:=by have:(i+1)*A<=len*A:=Ar _ D;grind
      grind
     .cases d
    .intro k u C;rw[AL,E2] at C;split at C
     .rename_i K
      have hl0:0<len:=by rcases Sa len with h0|h0; · subst h0;simp at K
                         .exact h0
      rw[hq.resolve_right za,Addr.add_lit];simp only[World.cell?,T,Ew,En,tX,A6];exact C
     .cases C
   .cases d
  .cases d
 .cases d
theorem vl (t ty e:TypeId)(i:TypeInfo)(o:P.underlying t=some (.slice e))(h:P.info? e=some i)(b:Option Addr)(d cap:Nat)(f:d<=cap)(v:Value)(g:v=.slice none 0 0\/∃a c,v=.slice (some a) 0 c):
  (Builtin.append_ #[t,t] ty #[.slice b d cap,v]).run P w=.ok (.slice b d cap) w:=by
 have m:(Builtin.firstCells i.size 0 v).run P w=.ok #[] w:=by
  rcases g with rfl|⟨a,c,rfl⟩
  .rfl
  .simp[Builtin.firstCells,loadCells,loadCellsFrom]
 have j:(Builtin.lenOf v).run P w=.ok 0 w:=by rcases g with rfl|⟨a,c,rfl⟩<;>simp[Builtin.lenOf]
 cases b<;>simp[Builtin.append_,tT o,sizeOf,typeInfo,h,j,f,m,storeCells]
theorem dX (hO:Objs h β Y w) (hY:∀b,Y b->b<w.heap.size) {fr:Nat} (Z:β fr=none) {t ty e:TypeId} {d I:TyD} {s x:TV} {u v:Value} {r:AR} (hd:tyOf P t=some d) (hk:d.kind=.slice e) (hde:tyOf P e=some I)
  (hs:TRep w (XO Y h β) β s u) (hx:TRep w (XO Y h β) β x v) (L:jq I fr h s x=some r):
  Does P h β Y w fr r (do pure (.value (<-Builtin.append_ #[t,t] ty #[u,v]))):=by
 have ht:=xp hd hk;unfold jq at L;split at L
 .rename_i hc;obtain⟨hs0,hb0,hb1,hz⟩:=hc;obtain⟨z,hz1,hz2⟩:=tH.1 hz;obtain⟨zv,_,hz3,_,i,hi,hiz⟩:=wG (w:=w) hde hz1;obtain⟨i',_,hi',_,_,F,hby,_,_⟩:=wI hde;rw[hi] at hi';injection hi' with hi';subst hi'
  have hzs:zv.cells.size=i.size:=by rw[<-F,<-hz2,hz3];simp
  unfold xC at L;split at L
  .cases L
  .rename_i new rd hel;obtain⟨hn,news,hfl,J⟩:=jr hO hel hx hs0;have K:news.length=new.length*i.size:=by rw[<-hfl.1,vY hn,F]
   have zlen:∀k,(Builtin.zeroCells zv.cells k).toList.length=k*i.size:=λk=>by rw[Er,size_zeroCells,hzs]
   split at L
   .
    rw[hs.nils_inv];split at L
    .rename_i H;injection L with L;subst L
     have hv:v=.slice none 0 0\/∃a c,v=.slice (some a) 0 c:=by grind
     exact w3 hO ⟨_,vl t ty e i ht hi none 0 0 (tJ _) v hv,.fz_mk .N⟩
    .rename_i H;split at L
     .rename_i hroom;injection L with L;subst L
      have T:0<new.length:=by cases new<;>simp_all
      obtain⟨a,c,rfl,E⟩:=J.resolve_left λh=>H h.2;have hroom:new.length*i.bytes<=140737488355328:=by rw[<-hby];exact hroom
      have hle:new.length<=new.length*i.bytes:=Eh _ (by rw[<-hby];exact hb0);have hr:=run_append_nil (P:=P) w t ty e i zv ht hi hiz a new.length c news K E T za za;have hge:=grownCap_ge w new.length 0 e;refine uf hO hY Z I.size new (news++(Builtin.zeroCells zv.cells<|grownCap w new.length 0 e-new.length).toList) e 1 (.slice (some ⟨w.heap.size,0,none⟩) new.length<|grownCap w new.length 0 e) _ (hr.trans ?_) ?_ hn ?_ ?_
      .congr 1;simp only[World.alloc,World.drew];congr 3;apply EL;simp
      .rw[tE,K,F];omega
      .rw[F];intro i' j U c' he' N;rw[F] at hn;obtain⟨u',D,S⟩:=xK hn hfl i' j U c' he' N;exact⟨u',by rw[AQ,tG (tQ.1 D).1];exact D,S⟩
      .intro w' β' hb hsh;refine .a _ _<|.osl fr I.size 0 new.length w.heap.size 0 _ _ e hb hsh hge ?_<|.inl zb;rw[tE,K,zlen,<-AG,F];exact Ar _ za
     .cases L
   .
    have hs':=hs.fz_inv;have hu:(u=.slice none 0 0)\/∃a0,u=.slice (some a0) 0 0:=by
     cases hs' with
     |z0 _ a0=>exact .inr ⟨a0,rfl⟩
     |z0n=>exact .inl rfl
    split at L
    .rename_i H;injection L with L;subst L
     have hv:v=.slice none 0 0\/∃a c,v=.slice (some a) 0 c:=by
      rcases J with⟨h1,_⟩|⟨a,c,h1,_⟩
      .exact .inl h1
      .subst H;exact .inr ⟨a,c,h1⟩
     rcases hu with rfl|⟨a0,rfl⟩
     .exact w3 hO ⟨_,vl t ty e i ht hi none 0 0 (tJ _) v hv,hs⟩
     .exact w3 hO ⟨_,vl t ty e i ht hi (some a0) 0 0 (tJ _) v hv,hs⟩
    .rename_i H;split at L
     .rename_i hroom;injection L with L;subst L
      have T:0<new.length:=by cases new<;>simp_all
      obtain⟨a,c,rfl,E⟩:=J.resolve_left λh=>H h.2;have hroom:new.length*i.bytes<=140737488355328:=by rw[<-hby];exact hroom
      have hle:new.length<=new.length*i.bytes:=Eh _ (by rw[<-hby];exact hb0);have hr:(Builtin.append_ #[t,t] ty #[u,.slice (some a) new.length c]).run P w=.ok (.slice (some ⟨w.heap.size,0,none⟩) new.length<|grownCap w new.length 0 e) (w.drew.alloc<|.cells (news.toArray++Builtin.zeroCells zv.cells (grownCap w new.length 0 e-new.length)) e):=by
       rcases hu with rfl|⟨a0,rfl⟩
       .exact run_append_nil (P:=P) w t ty e i zv ht hi hiz a new.length c news K E T za za
       .have:=run_append_grow (P:=P) w t ty e i zv ht hi hiz a0 0 0 [] zb (λj u h=>by simp at h) a new.length c news K E za za<|growslice_fits za<|zp hroom;simpa using this
      have hge:=grownCap_ge w new.length 0 e;refine uf hO hY Z I.size new (news++(Builtin.zeroCells zv.cells<|grownCap w new.length 0 e-new.length).toList) e 1 (.slice (some ⟨w.heap.size,0,none⟩) new.length<|grownCap w new.length 0 e) _ (hr.trans ?_) ?_ hn ?_ ?_
      .congr 1;simp only[World.alloc,World.drew];congr 3;apply EL;simp
      .rw[tE,K,F];omega
      .rw[F];intro i' j U c' he' N;rw[F] at hn;obtain⟨u',D,S⟩:=xK hn hfl i' j U c' he' N;exact⟨u',by rw[AQ,tG (tQ.1 D).1];exact D,S⟩
      .intro w' β' hb hsh;refine .a _ _<|.osl fr I.size 0 new.length w.heap.size 0 _ _ e hb hsh hge ?_<|.inl zb;rw[tE,K,zlen,<-AG,F];exact Ar _ za
     .cases L
   .
    rename_i o n off len;split at L
    .rename_i m es ho;split at L
     .rename_i hc;obtain⟨rfl,rfl,rfl,hle,hroom,hnr⟩:=hc;injection L with L;subst L
      have hne:o≠fr:=λe=>by subst e;simp at hnr
      obtain⟨b,q,cap,sz,tt,hb,hsh,hlc,hcap,hq,rfl⟩|⟨h0,rfl⟩:=hs.osl_inv
      case inr=>
       subst h0;have G:∀X:AObj,over [(o,.gone),(fr,X)] h=upd (upd h o .gone) fr X:=by
        intro X;funext k;simp only[over,y4,upd];by_cases V:o=k
        .subst V;simp[hne]
        .by_cases e2:fr=k
         .subst e2;simp[V]
         .simp[V,e2,show k≠fr from λh=>e2 h.symm,show k≠o from λh=>V h.symm]
       by_cases H:new=[]
       .have hv:v=.slice none 0 0\/∃a c,v=.slice (some a) 0 c:=by
         rcases J with⟨h1,_⟩|⟨a,c,h1,_⟩
         .exact .inl h1
         .subst H;exact .inr ⟨a,c,h1⟩
        subst H;refine⟨.value<|.slice none 0 0,.slice none 0 0,w,β,?_,.inl rfl,?_,?_⟩
        .simp only[Ao,vl t ty e i ht hi none 0 0 (tJ _) v hv,A2,Av]
        .rw[G];simpa using li hO o Z I.size
        .exact .a _ _<|.oslN _ _ _
       .have T:0<new.length:=by cases new<;>simp_all
        obtain⟨a,c,rfl,E⟩:=J.resolve_left λh=>H h.2;have hroom:(0+new.length)*i.bytes<=140737488355328:=by rw[<-hby];exact hroom
        rw[A4] at hroom;have hle:new.length<=new.length*i.bytes:=Eh _ (by rw[<-hby];exact hb0);have hr:=run_append_nil (P:=P) w t ty e i zv ht hi hiz a new.length c news K E T za za;have hge:=grownCap_ge w new.length 0 e;rw[F] at hn
        have O:=qd hO hY Z i.size new (news++(Builtin.zeroCells zv.cells<|grownCap w new.length 0 e-new.length).toList) e 1
         (by rw[tE,K];omega) hn (λi' j U c' he' N=>by obtain⟨u',D,S⟩:=xK hn hfl i' j U c' he' N;exact⟨u',by rw[AQ,tG (tQ.1 D).1];exact D,S⟩)
        have hm2:=Z0 O.objs o;have hm:=O.trans hm2 (λk hk=>by rw[hk];exact Z) hO (f:=λk=>k=fr) (λ_ h=>h) λ_ h=>h.elim;have heq:upd (upd h fr<|.arr i.size new) o .gone=upd (upd h o .gone) fr (.arr i.size new):=by
         funext k;simp only[upd];by_cases V:k=fr
         .subst V;simp[show¬k=o from λe=>hne e.symm]
         .by_cases e2:k=o
          .subst e2;simp[V]
          .simp[V,e2]
        rw[heq] at hm
        refine⟨.value<|.slice (some ⟨w.heap.size,0,none⟩) new.length<|grownCap w new.length 0 e,.slice (some ⟨w.heap.size,0,none⟩) new.length<|grownCap w new.length 0 e,
         {w with heap:=w.heap.push (.cells (news++(Builtin.zeroCells zv.cells<|grownCap w new.length 0 e-new.length).toList).toArray e (0,0)),drawn:=w.drawn+1},AM.upd β fr (some w.heap.size),?_,.inl rfl,?_,?_⟩
        .simp only[Ao,hr,A2,Av,World.alloc,World.drew];congr 4;apply EL;simp
        .rw[G,List.take_zero,E0,F];exact hm
        .simp only[A4];refine .a _ _<|.osl fr I.size 0 new.length w.heap.size 0 _ (news++(Builtin.zeroCells zv.cells<|grownCap w new.length 0 e-new.length).toList).length e (by simp[AM.upd]) ?_ hge ?_<|.inl zb
         .simp[World.shape?]
         .rw[tE,K,zlen,<-AG,F];exact Ar _ za
      obtain⟨M,te,g1,g2,g3,g4⟩:=uW hO (by rw[ho];rfl) hb;have hlive:isLive (h o):=by rw[ho];trivial
      have hszu:sz=M.length:=by simp only[World.shape?,g1,tL,Am] at hsh;have:=hsh.2;simp at this;exact this.symm
      have G:∀X:AObj,over [(o,.gone),(fr,X)] h=upd (upd h o .gone) fr X:=by
       intro X;funext k;simp only[over,y4,upd];by_cases V:o=k
       .subst V;simp[hne]
       .by_cases e2:fr=k
        .subst e2;simp[V]
        .simp[V,e2,show k≠fr from λh=>e2 h.symm,show k≠o from λh=>V h.symm]
      have hnes:∀U∈es.take len++new,U.length=I.size:=by
       intro U he';rcases A0.1 he' with h1|h1
       .exact g3 U<|EM h1
       .exact hn U h1
      have hlenes:(es.take len++new).length=len+new.length:=zj;have hroom:(len+new.length)*i.bytes<=140737488355328:=by rw[<-hby];exact hroom
      have hler:len+new.length<=(len+new.length)*i.bytes:=Eh _ (by rw[<-hby];exact hb0);have hlm:len*I.size<=es.length*I.size:=Ar _ hle;have holds:∀X:Nat->Prop,True:=λ_=>trivial;have hflold:LRep (WRep w (XO Y h β) β) (es.take len).flatten (M.take<|len*I.size):=by
       refine ui (λU he'=>g3 U<|EM he') (by rw[AH,AH,EE hle,EE za]) λi' j U c' he' N=>?_;rw[AL] at he';split at he'
       .rename_i hi';obtain⟨u',D,S⟩:=g4 i' j U c' he' N;have hj:j<I.size:=by rw[<-g3 U<|Aq he'];exact(tQ.1 N).1
        have hlt:i'*I.size+j<len*I.size:=by have:(i'+1)*I.size<=len*I.size:=Ar _ hi';rw[AG] at this;omega
        exact⟨u',by rw[AL,tG hlt];exact D,S⟩
       .cases he'
      have hflall:LRep (WRep w (XO Y h β) β) (es.take len++new).flatten (M.take (len*I.size)++news):=by rw[List.flatten_append];exact hflold.append hfl
      by_cases hfitc:len+new.length<=cap
      .
       by_cases T:new.length=0
       .have H:new=[]:=tS T;have hv:v=.slice none 0 0\/∃a c,v=.slice (some a) 0 c:=by
         rcases J with⟨h1,_⟩|⟨a,c,h1,_⟩
         .exact .inl h1
         .rw[T] at h1;exact .inr ⟨a,c,h1⟩
        subst H
        have O:=Xp hO hlive hb M M te g1 rfl I.size (es.take len) (by rw[AH,EE hle];omega) (λU he'=>g3 U<|EM he') (λi' j U c' he' N=>by
         rw[AL] at he';split at he'
         .exact g4 i' j U c' he' N
         .cases he')
        have hself:w.setRow b M.toArray=w:=setRow_self w b M.toArray te (0,0) g1;rw[hself] at O;have hm2:=ZD O.objs (o:=o) (fr:=fr) (b:=b) (by simp[upd,isLive]) hb Z;have hm:=O.trans hm2 (λ_ h=>h.elim) hO (f:=λk=>k=fr) (λ_ h=>h.elim) λ_ h=>h;have heq:upd (upd (upd h o<|.arr I.size<|es.take len) o .gone) fr (upd h o (.arr I.size<|es.take len) o)=upd (upd h o .gone) fr (.arr I.size<|es.take len++[]):=by funext k;simp only[upd,tY];by_cases V:k=fr<;>by_cases e2:k=o<;>simp[V,e2]
        rw[heq] at hm;refine⟨.value<|.slice (some ⟨b,q,none⟩) len cap,.slice (some ⟨b,q,none⟩) len cap,w,upd β fr<|some b,?_,.inl rfl,?_,?_⟩
        .simp only[Ao,vl t ty e i ht hi (some ⟨b,q,none⟩) len cap hlc v hv,A2,Av]
        .rw[G];exact hm
        .rw[G];exact .a _ _<|.osl fr I.size 0 len b q cap sz tt (by simp[upd]) hsh hlc hcap hq
       .obtain⟨a,c,rfl,E⟩:=J.resolve_left (λh=>T<|by rw[h.2];rfl);have hq0:q=0:=by have:=hq.resolve_right za;exact zp this
        subst hq0;have hte:(⟨M.toArray,te⟩:Array Value×TypeId)=(M.toArray,te):=rfl;have hcap':cap*I.size<=M.length:=by rw[<-hszu];exact zp hcap
        have W:len*i.size+news.length<=M.toArray.size:=by rw[K,<-AG,<-F];exact AX (Ar _ hfitc) (zp hcap')
        have hrun:(Builtin.append_ #[t,t] ty #[.slice (some ⟨b,0,none⟩) len cap,.slice (some a) new.length c]).run P w=
          .ok (.slice (some ⟨b,0,none⟩) (len+new.length) cap) (w.setRow b (M.take (len*i.size)++news++M.drop (len*i.size+news.length)).toArray):=by
         have hf:=run_firstCells_some (P:=P) w i.size new.length a new.length c news K E;have hst:=run_storeCells_at P b (len*i.size) te news 0 M.toArray w g1 (zp W) hfl.cell;simp only[Ed] at hst;simp[Builtin.append_,tT ht,sizeOf,typeInfo,hi,Builtin.lenOf,hfitc,hf,Addr.add_lit,hst]
        have hlen2:(M.take (len*i.size)++news++M.drop (len*i.size+news.length)).length=M.length:=by simp only[tE,AH,List.length_drop];simp at W;omega
        have hpre:∀k,k<len*i.size+news.length->(M.take (len*i.size)++news++M.drop (len*i.size+news.length))[k]?=(M.take (len*i.size)++news)[k]? :=by intro k hk;rw[AQ,tG<|by rw[tE,AH,EE<|by simp at W;omega];exact hk]
        have O:=Xp hO hlive hb (M.take (len*i.size)++news++M.drop (len*i.size+news.length)) M te g1 hlen2 I.size (es.take len++new)
         (by rw[hlenes,hlen2,AG];rw[F];simp at W;rw[K] at W;exact W) hnes (λi' j U c' he' N=>by obtain⟨u',D,S⟩:=xK hnes hflall i' j U c' he' N;rw[F] at D ⊢;have hk:=(tQ.1 D).1;refine⟨u',?_,S⟩;rw[hpre _<|by simp only[tE,AH] at hk;omega];exact D)
        have hm2:=ZD O.objs (o:=o) (fr:=fr) (b:=b) (by simp[upd,isLive]) hb Z;have hm:=O.trans hm2 (λ_ h=>h.elim) hO (f:=λk=>k=fr) (λ_ h=>h.elim) λ_ h=>h;have heq:upd (upd (upd h o<|.arr I.size<|es.take len++new) o .gone) fr (upd h o (.arr I.size<|es.take len++new) o)=upd (upd h o .gone) fr (.arr I.size<|es.take len++new):=by funext k;simp only[upd];by_cases V:k=fr<;>by_cases e2:k=o<;>simp[V,e2]
        rw[heq] at hm;refine⟨.value<|.slice (some ⟨b,0,none⟩) (len+new.length) cap,.slice (some ⟨b,0,none⟩) (len+new.length) cap,w.setRow b (M.take (len*i.size)++news++M.drop (len*i.size+news.length)).toArray,upd β fr<|some b,?_,.inl rfl,?_,?_⟩
        .simp only[Ao,hrun,A2,Av]
        .rw[G];exact hm
        .rw[G];refine .a _ _<|.osl fr I.size 0 (len+new.length) b 0 cap sz tt (by simp[upd]) ?_ hfitc hcap<|.inl zb;rw[O.good.shp b<|hO.lt o b hb];exact hsh
      .
       have T:new.length≠0:=za;obtain⟨a,c,rfl,E⟩:=J.resolve_left (λh=>T<|by rw[h.2];rfl);have hcl:∀j u',(M.take<|len*I.size)[j]?=some u'->w.cell? ((⟨b,q,none⟩:Addr).add j)=some u':=by
        intro j u' D;rw[AL] at D;split at D
        .rename_i hj
         have hl0:0<len:=by rcases Sa len with h0|h0; · subst h0;simp at hj
                            .exact h0
         have hq0:q=0:=by have:=hq.resolve_right za;exact zp this
         subst hq0;rw[Addr.add_lit];simp only[World.cell?,g1,Ew,En,tX,A6,A4];exact D
        .cases D
       have hr:=run_append_grow (P:=P) w t ty e i zv ht hi hiz ⟨b,q,none⟩ len cap (M.take<|len*I.size) (by rw[<-F];simp;omega) hcl a new.length c news K E za za<|growslice_fits za hroom;have hge:=grownCap_ge w (len+new.length) cap e
       have O:=qd hO hY Z I.size (es.take len++new) (M.take (len*I.size)++news++(Builtin.zeroCells zv.cells<|grownCap w (len+new.length) cap e-(len+new.length)).toList) e 1
        (by rw[hlenes,tE,tE,K,AG,F];simp;rw[<-F];omega) hnes (λi' j U c' he' N=>by obtain⟨u',D,S⟩:=xK hnes hflall i' j U c' he' N;exact⟨u',by rw[AQ,tG (tQ.1 D).1];exact D,S⟩)
       have hm2:=Z0 O.objs o;have hm:=O.trans hm2 (λk hk=>by rw[hk];exact Z) hO (f:=λk=>k=fr) (λ_ h=>h) λ_ h=>h.elim;have heq:upd (upd h fr<|.arr I.size<|es.take len++new) o .gone=upd (upd h o .gone) fr (.arr I.size<|es.take len++new):=by
        funext k;simp only[upd];by_cases V:k=fr
        .subst V;simp[show¬k=o from λe=>hne e.symm]
        .by_cases e2:k=o
         .subst e2;simp[V]
         .simp[V,e2]
       rw[heq] at hm
       refine⟨.value<|.slice (some ⟨w.heap.size,0,none⟩) (len+new.length)<|grownCap w (len+new.length) cap e,.slice (some ⟨w.heap.size,0,none⟩) (len+new.length)<|grownCap w (len+new.length) cap e,
        {w with heap:=w.heap.push (.cells (M.take (len*I.size)++news++(Builtin.zeroCells zv.cells<|grownCap w (len+new.length) cap e-(len+new.length)).toList).toArray e (0,0)),drawn:=w.drawn+1},upd β fr (some w.heap.size),?_,.inl rfl,?_,?_⟩
       .simp only[Ao,hr,A2,Av,World.alloc,World.drew];congr 4;apply EL;simp
       .rw[G];exact hm
       .rw[G];refine .a _ _<|.osl fr I.size 0 (len+new.length) w.heap.size 0 _ (M.take (len*I.size)++news++(Builtin.zeroCells zv.cells<|grownCap w (len+new.length) cap e-(len+new.length)).toList).length e (by simp[upd]) ?_ hge ?_<|.inl zb
        .simp[World.shape?]
        .simp only[tE,AH,K,zlen];rw[EE za,F,<-AG,<-AG];exact Ar _ za
     .cases L
    .cases L
   .cases L
 .cases L
end
section
variable {P:Program} {w:World} {X:Nat->Prop} {β:Nat->Option Nat}
theorem JM {f:FV}{u:Value}(h:FRep w X f u):WRep w X β (cell f) u:=.a _ _<|.fz _ _ h
theorem qu {d:List FV}{b:List Value}(h:LRep (FRep w X) d b):LRep (WRep w X β) (fzs d) b:=LRep.map h λ_ _ _ h=>JM h
theorem mV {E:TypeId}{k:EK}{a b:List FV}{u v:Value}{r:Bool}(g:ekOf P E=some k)(S:PRep (FRep w X) (false,a) u)(L:PRep (FRep w X) (false,b) v)(T:zY [k] (fzs a) (fzs b)=some r):
  ∃d,P.underlying E=some d/\Instr.sameNow d u v=some r/\(match d with|.struct _|.array _ _|.interface _=>False|_=>True)/\(∀cs,u ≠ .agg cs):=by
 obtain⟨W,rfl,H,J⟩:=S;obtain⟨vs,rfl,F,U⟩:=L;obtain⟨x,y,C,A,p,q,N,K,j,D,i⟩:=um T;have o:=qu (β:=λ_=>none) H;have z:=qu (β:=λ_=>none) F;rw[N] at o;rw[K] at z;obtain⟨Z,M,rfl,e,I⟩:=o.cons_inv;obtain⟨v0,O,rfl,f,V⟩:=z.cons_inv;have G:q=true:=by cases C<;>cases A<;>simp only[zY,tL,reduceCtorEq] at j;exact j.symm
 subst G;rw[Eu] at D;subst D;simp only[shut,tX,A6,List.getD_cons_zero];unfold ekOf at g;rcases i with⟨rfl,Y,n,m,rfl,rfl,rfl⟩|⟨rfl,n,m,rfl,rfl,rfl⟩|⟨rfl,n,m,rfl,rfl,rfl⟩
 .split at g<;>simp only[tL,reduceCtorEq] at g;rename_i hd;rw[TRep.int_inv (β:=λ_=>none) (X:=X) (w:=w) e,TRep.int_inv (β:=λ_=>none) (X:=X) (w:=w) f];exact⟨_,hd,by simp[Instr.sameNow],trivial,zb⟩
 .split at g<;>simp only[tL,reduceCtorEq] at g;rename_i hd;rw[TRep.bool_inv (β:=λ_=>none) (X:=X) (w:=w) e,TRep.bool_inv (β:=λ_=>none) (X:=X) (w:=w) f];exact⟨_,hd,by simp[Instr.sameNow],trivial,zb⟩
 .split at g<;>simp only[tL,reduceCtorEq] at g;rename_i hd;rw[TRep.str_inv (β:=λ_=>none) (X:=X) (w:=w) e,TRep.str_inv (β:=λ_=>none) (X:=X) (w:=w) f];refine⟨_,hd,?_,trivial,zb⟩;have:((⟨n.toArray⟩:ByteArray)==⟨m.toArray⟩)=(n==m):=by
   rw[EF];simp only[MapKept.bytes_beq,Al];constructor
   .intro h;injection h with h;exact List.toArray_inj h
   .intro h;rw[h]
  simp[Instr.sameNow,this]
theorem agg_eq {f:TypeId}{i:Array Field}{l:List EK}{a b:List FV}{u v:Value}{r:Bool}(d:P.underlying f=some (.struct i))(e:js P f=some l)(z:PRep (FRep w X) (true,a) u)(y:PRep (FRep w X) (true,b) v)(A:zY l (fzs a) (fzs b)=some r):(Op.equal f u v).run P w=.ok r w:=by
 obtain⟨h,rfl,o,x⟩:=z;obtain⟨vs,rfl,m,C⟩:=y;unfold js at e;rw[d] at e;simp only at e;split at e
 .rename_i p;have j:P.fieldsOf f=i:=by simp[Program.fieldsOf,d]
  have g:=u5 (β:=λ_=>none) i.toList 0 l _ _ h vs h.toArray vs.toArray r e A (qu o) (qu m) zb zb;have:=run_equalIn_agg (P:=P) w 9999 f h.toArray vs.toArray (by rw[j];exact d) p.1;rw[j] at this;exact this.trans g
 .cases e
def ZL (ms:List MapEntry)(r:Option Nat):Option (Nat×Value):=r.bind λi=>(ms[i]?).map λe=>(i,e.val)
theorem Yz {d:TypeDesc}{k:EK}{C:TypeId}(D:ekOf P C=some k)(hd:P.underlying C=some d){key:List FV}{u:Value}(A:PRep (FRep w X) (false,key) u):∀(es:List MapE) (ms g:List MapEntry) (i:Nat) (m:Option Nat),
  g.drop i=ms->es.length=ms.length->(∀(j:Nat) (e:MapE) (x:MapEntry),es[j]?=some e->ms[j]?=some x->PRep (FRep w X) e.1 x.key)->vi (false,[k]) key es i=some m->Instr.findNow d u ms i=some (ZL g m)/\∀j,m=some j->i<=j/\j<i+es.length
 |[],ms,g,i,m,o,f,p,h=>by have:ms=[]:=tS (zp f.symm);subst this;simp only[vi,tL] at h;subst h;exact⟨rfl,λj v=>by cases v⟩
 |e::es,ms,g,i,m,o,f,p,h=>by
  match ms,f with
  |x::ms,f=>
  simp only[vi] at h;split at h
  .rename_i y;obtain⟨b,J,h⟩:=E5.1 h;have E:=p 0 e x rfl rfl;rw[show e.1=(false,e.1.2) by rw[<-y]] at E;obtain⟨N,r,M,_⟩:=mV D A E J;rw[hd] at r;injection r with r;subst r
   simp only[Instr.findNow,M];cases b with
   |true=>
    simp only[tZ,tL] at h;subst h;have H:g[i]?=some x:=by
     have:(g.drop i)[0]?=some x:=by rw[o];rfl
     simpa[E2] using this
    exact⟨by simp[ZL,H],λj v=>by injection v with v;subst v;simp⟩
   |false=>simp only[tX,A6] at h;obtain⟨K,L⟩:=Yz D hd A es ms g (i+1) m (by rw[<-List.drop_drop,o];rfl) (zp f) (λj G I F z=>p (j+1) G I F z) h;exact⟨K,λj v=>by have:=L j v;simp only[tC];omega⟩
  .cases h
theorem ji {l:List EK}{I:Array Field}{v:TypeId}(hd:P.underlying v=some (.struct I))(A:js P v=some l){key:List FV}{u:Value}(z:PRep (FRep w X) (true,key) u):∀(es:List MapE) (ms f:List MapEntry) (i:Nat) (g:Option Nat),
  f.drop i=ms->es.length=ms.length->(∀(j:Nat) (e:MapE) (x:MapEntry),es[j]?=some e->ms[j]?=some x->PRep (FRep w X) e.1 x.key)->vi (true,l) key es i=some g->(Instr.findAsking v u ms i).run P w=.ok (ZL f g) w/\∀j,g=some j->i<=j/\j<i+es.length
 |[],ms,f,i,g,m,d,o,h=>by have:ms=[]:=tS (zp d.symm);subst this;simp only[vi,tL] at h;subst h;exact⟨rfl,λj p=>by cases p⟩
 |e::es,ms,f,i,g,m,d,o,h=>by
  match ms,d with
  |x::ms,d=>
  simp only[vi] at h;split at h
  .rename_i r;obtain⟨b,H,h⟩:=E5.1 h;have C:=o 0 e x rfl rfl;rw[show e.1=(true,e.1.2) by rw[<-r]] at C;have L:=agg_eq hd A z C H;simp only[Instr.findAsking,Ao,L,A2];cases b with
   |true=>
    simp only[tZ,tL] at h;subst h;have F:f[i]?=some x:=by
     have:(f.drop i)[0]?=some x:=by rw[m];rfl
     simpa[E2] using this
    exact⟨by simp[ZL,F],λj p=>by injection p with p;subst p;simp⟩
   |false=>simp only[tX,A6] at h;obtain⟨J,K⟩:=ji hd A z es ms f (i+1) g (by rw[<-List.drop_drop,m];rfl) (zp d) (λj E G D y=>o (j+1) E G D y) h;exact⟨zp J,λj p=>by have:=K j p;simp only[tC];omega⟩
  .cases h
end
section
variable {P:Program} {h:Nat->AObj} {β:Nat->Option Nat} {Y:Nat->Prop} {w:World}
theorem Ko (v:Objs h β Y w)(K:∀b,Y b->b<w.heap.size){fr:Nat}(G:β fr=none):
  Moves h (upd h fr<|.mapo []) β (upd β fr<|some w.heap.size) Y w {w with heap:=w.heap.push (.map #[] 0)} (λo=>o=fr):=by
 have y:∀o b,β o=some b->upd β fr (some w.heap.size) o=some b:=by
  intro o b d;unfold upd;split;next e=>subst e;rw[G] at d;cases d
  .exact d
 have g:∀o b,upd β fr (some w.heap.size) o=some b->(β o=some b/\o≠fr)\/(o=fr/\b=w.heap.size):=by
  intro o b d;unfold upd at d;split at d;next e=>exact .inr ⟨e,zp d.symm⟩
  next e=>exact .inl ⟨d,e⟩
 have f:∀o,isLive (upd h fr (.mapo []) o)->isLive (h o)\/o=fr:=by
  intro o r;unfold upd at r;split at r;next e=>exact .inr e
  .exact .inl r
 have S:Goes w {w with heap:=w.heap.push (.map #[] 0)} (XO Y h β) (XO Y (upd h fr<|.mapo [])<|upd β fr<|some w.heap.size) β (upd β fr<|some w.heap.size):=by
  refine⟨zb,λb M d=>⟨by simp[A8,(za:b≠w.heap.size)],λF=>?_⟩,λb d=>by simp[World.shape?,A8,(za:b≠w.heap.size)],λo b d=>⟨y o b d,v.lt o b d⟩⟩;rcases F with C|⟨o,r,j⟩
  .exact M<|.inl C
  .rcases g o b j with⟨j,p⟩|⟨_,e⟩
   .exact M<|.inr ⟨o,(f o r).resolve_right p,j⟩
   .omega
 refine⟨⟨zb,λb d _=>by simp[A8,(za:b≠w.heap.size)],λb d=>by simp[World.shape?,A8,(za:b≠w.heap.size)],rfl,rfl,rfl⟩,?_,y,?_,f⟩
 .refine⟨λo b r d=>?_,λo r=>?_,λo o' b r J d D=>?_,λo b d=>?_⟩
  .rcases g o b d with⟨j,p⟩|⟨e,E⟩
   .have x:=(f o r).resolve_right p;rw[show upd h fr (.mapo []) o=h o by simp[upd,p]];exact(v.rep o b x j).goes S (by simp[A8,show b≠w.heap.size by have:=v.lt o b j;omega])
   .subst e;subst E;rw[show upd h o (.mapo []) o=.mapo [] by simp[upd]];exact⟨[],0,zb,rfl,λi e m T _=>by simp at T,rfl,λi m N=>by simp at N⟩
  .rcases f o r with x|e
   .by_cases e:o=fr
    .subst e;exact .inl ⟨w.heap.size,by simp[upd],zb,λC=>by have:=K _ C;omega⟩
    .rcases v.has o x with⟨b,d,U,H⟩|⟨d,O⟩
     .exact .inl ⟨b,y o b d,zj,H⟩
     .exact .inr (by simp only[upd,e,A6];exact⟨d,O⟩)
   .subst e;exact .inl ⟨w.heap.size,by simp[upd],zb,λC=>by have:=K _ C;omega⟩
  .rcases g o b d with⟨j,p⟩|⟨e,E⟩
   .rcases g o' b D with⟨z,u⟩|⟨L,I⟩
    .exact v.inj o o' b ((f o r).resolve_right p) ((f o' J).resolve_right u) j z
    .have:=v.lt o b j;omega
   .rcases g o' b D with⟨z,u⟩|⟨L,I⟩
    .have:=v.lt o' b z;omega
    .rw[e,L]
  .rcases g o b d with⟨j,_⟩|⟨_,E⟩
   .have:=v.lt o b j;simp;omega
   .simp;omega
 .intro o b d;rcases g o b d with⟨j,_⟩|⟨e,E⟩
  .exact .inl j
  .exact .inr ⟨e,.inl za⟩
theorem wH (G:Objs h β Y w) {o b:Nat} (N:isLive<|h o) (E:β o=some b) {old:Array MapEntry} {oc:Nat} (C:w.heap[b]?=some (.map old oc)) (ms:List MapEntry) (es:List MapE) (I:ms.length=es.length)
  (H:∀(i:Nat) (e:MapE) (m:MapEntry),es[i]?=some e->ms[i]?=some m->PRep (FRep w<|XO Y h β) e.1 m.key/\PRep (WRep w (XO Y h β) β) e.2 m.val)
  (D:∀(i:Nat) (m:MapEntry),ms[i]?=some m->m.born=i):
  Moves h (upd h o<|.mapo es) β β Y w {w with heap:=w.heap.setIfInBounds b (.map ms.toArray ms.length)} (λ_=>False):=by
 have u:=MapKept.heap_set (o':=.map ms.toArray ms.length) C;have g:∀k,k≠b->(w.heap.setIfInBounds b<|.map ms.toArray ms.length)[k]?=w.heap[k]? :=λk F=>u.2 k F;have z:Own h β b:=⟨o,N,E⟩;have d:∀o',isLive (upd h o (.mapo es) o')->isLive (h o'):=by
  intro o' f;unfold upd at f;split at f;next e=>subst e;exact N
  .exact f
 have r:(w.heap.setIfInBounds b<|.map ms.toArray ms.length).size=w.heap.size:=zb;have j:∀k,World.shape? {w with heap:=w.heap.setIfInBounds b (.map ms.toArray ms.length)} k=w.shape? k:=by
  intro k;by_cases F:k=b
  .subst F;simp[World.shape?,u.1,C]
  .simp[World.shape?,g k F]
 have L:Goes w {w with heap:=w.heap.setIfInBounds b (.map ms.toArray ms.length)} (XO Y h β) (XO Y (upd h o<|.mapo es) β) β β:=by
  refine⟨zb,λk Z F=>⟨g k λe=>Z<|.inr<|e▸z,λM=>?_⟩,λk _=>j k,λo b E=>⟨E,G.lt o b E⟩⟩;rcases M with hy|⟨o',f,V⟩
  .exact Z<|.inl hy
  .exact Z<|.inr ⟨o',d o' f,V⟩
 refine⟨⟨zb,λk F W=>g k λe=>W<|e▸z,λk _=>j k,rfl,rfl,rfl⟩,?_,λ_ _ h=>h,λ_ _ h=>.inl h,λo' f=>.inl<|d o' f⟩;refine⟨λo' v f p=>?_,λo' f=>?_,λo1 o2 v S U K O=>G.inj o1 o2 v (d o1 S) (d o2 U) K O,λo' v p=>by rw[r];exact G.lt o' v p⟩
 .by_cases y:o'=o
  .subst y;have:v=b:=by rw[E] at p;exact zp p.symm
   subst this;rw[show upd h o' (.mapo es) o'=.mapo es by simp[upd]];refine⟨ms,ms.length,u.1,I,λi e m y hm=>?_,rfl,D⟩;obtain⟨k1,k2⟩:=H i e m y hm;exact⟨k1.imp λ_ _ _ h=>h.goes L,k2.imp λ_ _ _ h=>h.goes L⟩
  .rw[show upd h o (.mapo es) o'=h o' by simp[upd,y]];have x:=d o' f;have X:v≠b:=λe=>y<|G.inj o' o v x N p<|e▸E;exact(G.rep o' v x p).goes L<|g v X
 .have x:=d o' f;rcases G.has o' x with⟨v,T,J,h3⟩|⟨T,J⟩
  .exact .inl ⟨v,T,by rw[r];exact J,h3⟩
  .by_cases y:o'=o
   .subst y;rw[E] at J;cases J
   .exact .inr (by simp only[upd,y,A6];exact⟨T,J⟩)
theorem k9:∀ {cs:List WV} {b:List FV},unfz cs=some b->cs=fzs b
 |[],b,h=>by simp only[unfz,tL] at h;subst h;rfl
 |.a (.fz x)::r,b,h=>by simp only[unfz] at h;obtain⟨l,d,rfl⟩:=tH.1 h;rw[k9 d];rfl
 |.a (.ep _ _ _ _)::r,b,h=>by simp[unfz] at h
 |.a (.osl _ _ _ _)::r,b,h=>by simp[unfz] at h
 |.a (.mp _)::r,b,h=>by simp[unfz] at h
 |.a .any::r,b,h=>by simp[unfz] at h
 |.fn _ _ _::r,b,h=>by simp[unfz] at h
theorem WK {e:Bool}{x:TV}{k:List FV}{X:Nat->Prop}{u:Value}(d:keyT e x=some k)(b:TRep w X β x u):PRep (FRep w X) (e,k) u:=by
 unfold keyT at d;split at d
 .rename_i f;cases e<;>simp only[tX,tZ,A6,tL,reduceCtorEq] at d;subst d;have b:WRep w X β (.a<|.fz f) u:=b;cases b with
  |a _ _ b=>cases b with
   |fz _ _ b=>exact⟨[u],rfl,⟨rfl,λj c v g i=>by
     cases j with
     |zero=>simp at g i;subst g;subst i;exact b
     |succ j=>simp at g⟩,λ_=>rfl⟩
 .rename_i cs;cases e<;>simp only[tX,tZ,A6,reduceCtorEq] at d;rw[k9 d] at b;obtain⟨m,rfl,b⟩:=b;refine⟨m,rfl,b.unmap λc u _ h=>?_,λh=>by cases h⟩;cases h with
  |a _ _ h=>cases h with
   |fz _ _ h=>exact h
 .cases d
theorem rL {p:Bool×List WV}{x:TV}{X:Nat->Prop}{u:Value}(b:rowTV p=some x)(h:PRep (WRep w X β) p u):TRep w X β x u:=by
 obtain⟨i,cs⟩:=p;obtain⟨g,rfl,f,d⟩:=h;cases i with
 |true=>simp only[rowTV,tL] at b;subst b;exact⟨g,rfl,f⟩
 |false=>
  have d:=d rfl
  match cs,d with
  |[c],_=>
   simp only[rowTV,tL] at b;subst b;have e:=f.1
   match g,e with
   |[v],_=>exact f.2 0 c v rfl rfl
theorem KO {x:TV}{p:Bool×List WV}{X:Nat->Prop}{u:Value}(b:Kj x=some p)(e:TRep w X β x u):PRep (WRep w X β) p u:=by
 unfold Kj at b;split at b
 .rename_i c;injection b with b;subst b
  exact⟨[u],rfl,⟨rfl,λj m v d f=>by
   cases j with
   |zero=>simp at d f;subst d;subst f;exact e
   |succ j=>simp at d⟩,λ_=>rfl⟩
 .injection b with b;subst b
  obtain⟨g,rfl,i⟩:=e;exact⟨g,rfl,i,λh=>by cases h⟩
 .cases b
theorem cW:∀ {ks:List EK} {a b:List FV} {r vs:List Value} {X:Nat->Prop},zY ks (fzs a) (fzs b)=some true->LRep (FRep w X) a r->LRep (FRep w X) b vs->r=vs/\∀v∈r,∀n,Instr.sameBits n v v=true
 |[],a,b,r,vs,X,h,E,H=>by
  match a,b,h with
  |[],[],_=>
   have A:r=[]:=tS E.1.symm;have C:vs=[]:=tS H.1.symm;subst A;subst C;exact⟨rfl,λv D=>by cases D⟩
  |[],_::_,h=>simp only[fzs,S7,Aw,zY,reduceCtorEq] at h
  |_::_,[],h=>simp only[fzs,S7,Aw,zY,reduceCtorEq] at h
  |_::_,_::_,h=>simp only[fzs,Aw,zY,reduceCtorEq] at h
 |k::ks,a,b,r,vs,X,h,E,H=>by
  obtain⟨x,y,Y,W,p,q,A,C,e,O,d⟩:=um h;have K:p=true/\q=true:=by have:=O.symm;exact zp this
  match a,b,A,C with
  |[],_,A,_=>simp[fzs] at A
  |_::_,[],_,C=>simp[fzs] at C
  |f::a,g::b,i,j=>
  simp only[fzs,Aw,List.cons.injEq] at i j;obtain⟨i,V⟩:=i;obtain⟨j,M⟩:=j;rw[<-V,<-M] at e;obtain⟨u,T,rfl,L,F⟩:=E.cons_inv;obtain⟨v,N,rfl,D,I⟩:=H.cons_inv;rw[K.2] at e;obtain⟨S,U⟩:=cW (ks:=ks) e F I;have key:u=v/\∀n,Instr.sameBits n u u=true:=by
   rcases d with⟨_,Z,n,m,G,J,o⟩|⟨_,n,m,G,J,o⟩|⟨_,n,m,G,J,o⟩
   all_goals
    rw[G] at i;rw[J] at j;have i:=AV.fz.inj<|WV.a.inj (show WV.a (.fz f)=_ from i);have j:=AV.fz.inj<|WV.a.inj (show WV.a (.fz g)=_ from j);rw[i] at L;rw[j] at D;rw[K.1] at o;have o:n=m:=zp o.symm;subst o;cases L;cases D;exact⟨rfl,λn=>by cases n<;>simp[Instr.sameBits,MapKept.bytes_beq]⟩
  exact⟨by rw[key.1,S],λz hz=>by
   rcases A1.1 hz with rfl|hz
   .exact key.2
   .exact U z hz⟩
theorem JY {m:Bool×List EK}{a b:List FV}{u v:Value}{X:Nat->Prop}(h:zY m.2 (fzs a) (fzs b)=some true)(z:PRep (FRep w X) (m.1,a) u)(f:PRep (FRep w X) (m.1,b) v):u=v/\(Instr.keyThatStays v u).run P w=.ok u w:=by
 obtain⟨d,rfl,r,g⟩:=z;obtain⟨vs,rfl,A,D⟩:=f;obtain⟨rfl,o⟩:=cW h r A;refine⟨rfl,?_⟩;obtain⟨j,ks⟩:=m;have f:Instr.sameBits 10000 (shut j d) (shut j d)=true:=by
  cases j with
  |true=>
   show(d.toArray.size==d.toArray.size&&(d.toArray.toList.zip d.toArray.toList).all λ(x,y)=>Instr.sameBits 9999 x y)=true;simp only[EZ,AS,A7];intro p C;have:p.1=p.2/\p.1∈d:=by obtain⟨i,e⟩:=E6 C;rw[EP] at e;exact⟨by have:=e.1.symm.trans e.2;injection this,Aq e.1⟩
   rw[<-this.1];exact o _ this.2 _
  |false=>
   have g:a.length=1:=g rfl;have:d.length=1:=by rw[<-r.1];exact g
   match d,this with
   |[u],_=>exact o u (AO.2 rfl) _
 simp only[Instr.keyThatStays,f,tZ,Av]
theorem K4 {d:TypeId}{k:EK}{f:FV}{u:Value}{X:Nat->Prop}(b:ekOf P d=some k)(e:FRep w X f u)(h:jF [k] [f]=true)(g:Bool)(n:Nat):(Instr.checkKey g (n+1) d u).run P w=.ok () w:=by unfold ekOf at b;split at b<;>simp only[tL,reduceCtorEq] at b<;>subst b<;>rename_i hd<;>cases f<;>simp only[jF,tX] at h<;>cases e<;>simp[Instr.checkKey,tT hd]
theorem Xa {h:TypeId}{m:Bool×List EK}{k:List FV}{u:Value}{X:Nat->Prop}(y:kN P h=some m)(r:jF m.2 k=true)(S:PRep (FRep w X) (m.1,k) u)(p:Bool):(Instr.checkKey p 10000 h u).run P w=.ok () w:=by
 have x:∀ {e:EK} {v:Value} {f:FV},ekOf P h=some e->jF [e] [f]=true->FRep w X f v->(Instr.checkKey p 10000 h v).run P w=.ok () w:=λI E J=>K4 I J E p 9999;have d:(ekOf P h).map (λk=>(false,[k]))=some m->(Instr.checkKey p 10000 h u).run P w=.ok () w:=by
  intro y;obtain⟨e,I,rfl⟩:=tH.1 y;obtain⟨o,rfl,F,M⟩:=S;have M:k.length=1:=M rfl
  match k,M with
  |[f],_=>
  have H:=F.1
  match o,H with
  |[v],_=>exact x I r<|F.2 0 f v rfl rfl
 unfold kN at y;split at y
 .rename_i T A;obtain⟨ks,b,rfl⟩:=tH.1 y;obtain⟨o,rfl,F,_⟩:=S;unfold js at b;rw[A] at b;simp only at b;split at b
  .show(Instr.checkKey p 10000 h<|.agg o.toArray).run P w=.ok () w;rw[show(10000:Nat)=9999+1 from rfl,Instr.checkKey];simp only[Ao,tT A,A2];rw[<-Array.forIn_toList]
   have key:∀(L:List Field) (i:Nat) (ks:List EK) (l:List FV) (vs:List Value),dv P i L=some ks->jF ks l=true->LRep (FRep w X) l vs->(∀j,vs[j]?=o.toArray[i+j]?)->
     (forIn L PUnit.unit λ(f:Field) _=>do
      if f.name ≠ "_" then Instr.checkKey p 9999 f.type (<-part f.type o.toArray f.offset)
      pure (ForInStep.yield PUnit.unit)).run P w=.ok PUnit.unit w:=by
    intro L
    induction L with
    |nil=>intro i ks l vs _ _ _ _;simp
    |cons f L ih=>
     intro i ks l vs z r H C;simp only[dv] at z;split at z
     .rename_i k D E b;split at z<;>simp only[tL,reduceCtorEq] at z;rename_i N;subst z
      match l,r with
      |[],r=>cases k<;>simp[jF] at r
      |g::l,r=>
      obtain⟨v,G,rfl,J,K⟩:=H.cons_inv;have O:jF [k] [g]=true/\jF D l=true:=by cases k<;>cases g<;>simp_all[jF]
      have V:=kr (w:=w) E o.toArray f.offset v (by have:=C 0;simp at this;rw[N.1];exact zp this.symm);have U:=K4 (w:=w) E J O.1 p 9998;have ih:=ih (i+1) D l G b O.2 K (λj=>by have:=C (j+1);simpa[EA,EO 1 j] using this);simp only[List.forIn_cons,Ao,N.2,ne_eq,not_false_eq_true,tZ,V,U,A2,Av];exact ih
     .cases z
   have:=key T.toList 0 ks k o b r F (λj=>zb);simp at this ⊢;rw[this];rfl
  .cases b
 .exact d y
theorem WA {p:TypeId} {m:Bool×List EK} {k:List FV} {u:Value} {X:Nat->Prop} {es:List MapE} {ms:List MapEntry} {b:Option Nat} (i:kN P p=some m) (D:PRep (FRep w X) (m.1,k) u) (h:es.length=ms.length)
  (g:∀(j:Nat) (e:MapE) (x:MapEntry),es[j]?=some e->ms[j]?=some x->PRep (FRep w X) e.1 x.key) (C:vi m k es 0=some b):(Instr.findKey p u ms).run P w=.ok (ZL ms b) w/\∀j,b=some j->j<es.length:=by
 have f:(ekOf P p).map (λk=>(false,[k]))=some m->(Instr.findKey p u ms).run P w=.ok (ZL ms b) w/\∀j,b=some j->j<es.length:=by intro i;obtain⟨e,A,rfl⟩:=tH.1 i;obtain⟨d,hd,_⟩:=bU A;obtain⟨y,z⟩:=Yz A hd D es ms ms 0 b rfl h g C;exact⟨MapKept.run_findKey hd y,λj v=>by have:=z j v;omega⟩
 unfold kN at i;split at i;next E o=>obtain⟨ks,r,rfl⟩:=tH.1 i;rw[run_findKey_eq w (by rw[o]) u ms];obtain⟨y,z⟩:=ji o r D es ms ms 0 b rfl h g C;exact⟨y,λj v=>by have:=z j v;omega⟩
 .exact f i
theorem qR {m:Bool×List EK}{k:List FV}:∀ {es:List MapE} {i j:Nat},vi m k es i=some (some j)->i<=j/\∃e,es[j-i]?=some e/\e.1.1=m.1/\zY m.2 (fzs k) (fzs e.1.2)=some true
 |[],i,j,h=>by simp[vi] at h
 |e::es,i,j,h=>by
  simp only[vi] at h;split at h
  .rename_i d;obtain⟨b,o,h⟩:=E5.1 h;cases b with
   |true=>simp only[tZ,tL] at h;subst h;exact⟨tJ _,e,zb,d,o⟩
   |false=>simp only[tX,A6] at h;obtain⟨r,p,g,f⟩:=qR h;exact⟨za,p,by rw[show j-i=(j-(i+1))+1 by omega];exact zp g,f⟩
  .cases h
theorem Zg {t:TypeId}{m:(Bool×List EK)×(Bool×List WV)}(h:J2 P t=some m):∃k e,P.underlying t=some (.map k e)/\kN P k=some m.1/\JD P e=some m.2:=by
 unfold J2 at h;split at h
 .rename_i d hd;split at h
  .rename_i k e g;split at h
   .rename_i ks z f j;injection h with h;subst h
    obtain⟨i,u,_,o,_,_,_,_,b⟩:=wI hd;refine⟨k,e,?_,f,j⟩;rw[g] at b;cases u<;>simp only[xQ,reduceCtorEq,TKind.map.injEq] at b;all_goals first|(rw[b.1,b.2];exact o)|(split at b<;>cases b)
   .cases h
  .cases h
 .cases h
theorem X5 {e:TypeId}{z:Bool×List WV}(b:JD P e=some z)(X:Nat->Prop):∃v,(zeroValue e).run P w=.ok v w/\PRep (WRep w X β) z v:=by
 unfold JD at b;split at b
 .rename_i i m;split at b
  .rename_i cs f;split at b<;>simp only[tL,reduceCtorEq] at b;rename_i d;subst b;refine⟨.agg cs,by simp[zeroValue,typeInfo,m,f],cs.toList,by simp[shut],?_,λh=>by cases h⟩;refine uO X cs.toList λu j=>?_;simp only[Az] at d;exact d u (zp j)
  .rename_i v o f;split at b<;>simp only[tL,reduceCtorEq] at b;rename_i g;subst b;refine⟨v,by simp[zeroValue,typeInfo,m,f],[v],rfl,?_,λ_=>rfl⟩;exact uO X [v] λu j=>by rw[AO.1 j];exact g
  .cases b
 .cases b
theorem X6 {m:(Bool×List EK)×(Bool×List WV)}{x:TV}{k:List FV}(h:keyA m x=some k):keyT m.1.1 x=some k/\jF m.1.2 k=true:=by
 unfold keyA at h;split at h
 .split at h<;>simp only[tL,reduceCtorEq] at h;subst h;rename_i k b d;exact⟨b,d⟩
 .cases h
theorem kM (C:Objs h β Y w){x:TV}{u:Value}{o:Nat}{es:List MapE}(d:j9 h x=some (o,es))(f:TRep w (XO Y h β) β x u):∃(b:Nat) (ms:List MapEntry),u=.map (some b)/\β o=some b/\isLive (h o)/\w.heap[b]?=some (.map (List.toArray ms) ms.length)/\ms.length=es.length/\
  (∀(i:Nat) (e:MapE) (m:MapEntry),es[i]?=some e->ms[i]?=some m->PRep (FRep w<|XO Y h β) e.1 m.key/\PRep (WRep w (XO Y h β) β) e.2 m.val)/\(∀(i:Nat) (m:MapEntry),ms[i]?=some m->m.born=i):=by
 unfold j9 at d;split at d
 .rename_i o';split at d<;>simp only[tL,reduceCtorEq,Am] at d;rename_i v r;obtain⟨rfl,rfl⟩:=d;have f:WRep w (XO Y h β) β (.a<|.mp o') u:=f;cases f with
  |a _ _ f=>cases f with
   |mp _ b p=>
    have j:isLive (h o'):=by rw[r];trivial
    have g:=C.rep o' b j p;unfold ORep at g;rw[r] at g;obtain⟨ms,F,A,E,y,z,D⟩:=g;exact⟨b,ms,rfl,p,j,by rw[<-z];exact A,E,y,D⟩
 .cases d
theorem rH (I:Objs h β Y w){x:TV}{u:Value}{g:List Nat×List MapE}(d:mapL h x=some g)(f:TRep w (XO Y h β) β x u):∃(b:Nat) (ms:List MapEntry),u=.map (some b)/\w.heap[b]?=some (.map (List.toArray ms) ms.length)/\ms.length=g.2.length/\
  ∀(i:Nat) (e:MapE) (m:MapEntry),g.2[i]?=some e->ms[i]?=some m->PRep (FRep w<|XO Y h β) e.1 m.key/\PRep (WRep w (XO Y h β) β) e.2 m.val:=by
 unfold mapL at d;split at d
 .rename_i W;injection d with d;subst d
  have f:=TRep.fz_inv f;cases f with
  |mp _ b ms X U D V H A E y O N=>refine⟨b,ms,rfl,H,zp A,λi e m C d=>?_⟩;rw[tV] at C;obtain⟨z,o,rfl⟩:=tH.1 C;obtain⟨⟨M,F,S⟩,K,T,G⟩:=y i z m o d;exact⟨⟨_,M,⟨F,λj c u r v=>O i j z c u o r v⟩,S⟩,⟨_,K,qu ⟨T,λj c u r v=>N i j z c u o r v⟩,λJ=>by rw[show(thaw z).2.2=fzs z.2.2 from rfl,fzs,Ax];exact G J⟩⟩
 .obtain⟨p,L,rfl⟩:=tH.1 d;obtain⟨b,ms,D,_,_,A,E,y,_⟩:=kM I L f;exact⟨b,ms,D,A,E,y⟩
theorem KB {f:Bool}{p:Bool×List WV}{b:Bool}{x:TV}{X:Nat->Prop}{v:Value}(h:gF f p b=some x)(g:PRep (WRep w X β) p v):TRep w X β x (if f then .tuple #[v,.bool b] else v):=by
 unfold gF at h;cases f with
 |true=>
  simp only[tZ,tL] at h;subst h;refine⟨[v,.bool b],rfl,rfl,λj c u d e=>?_⟩
  match j,d,e with
  |0,d,e=>simp at d e;subst d;subst e;exact g
  |1,d,e=>simp at d e;subst d;subst e;exact⟨[.bool b],rfl,⟨rfl,λj c u d e=>by
    cases j with
    |zero=>simp at d e;subst d;subst e;exact JM (.bool b)
    |succ j=>simp at d⟩,λ_=>rfl⟩
  |j+2,d,_=>simp at d
 |false=>simp only[tX,A6] at h ⊢;exact rL h g
theorem fj (M:Objs h β Y w){fr:Nat}{t:TypeId}{m:(Bool×List EK)×(Bool×List WV)}{x key:TV}{u v:Value}{ok:Bool}{r:AR}(T:J2 P t=some m)(hx:TRep w (XO Y h β) β x u)(X:TRep w (XO Y h β) β key v)(f:wY m h x key ok=some r):
  Does P h β Y w fr r (do pure (.value (<-Instr.lookup t u v ok))):=by
 unfold wY at f;split at f
 .rename_i k G;obtain⟨F,E⟩:=X6 G;have g:=WK F X;split at f
  .rename_i S J;obtain⟨o,es⟩:=S;obtain⟨b,ms,rfl,K,(z:ms.length=es.length),hrep⟩:=rH M J hx;obtain⟨kt,e,N,p,V⟩:=Zg T;split at f
   .rename_i q W;obtain⟨x',d,rfl⟩:=tH.1 f;obtain⟨D,hj⟩:=WA (w:=w) p g z.symm (λj e x h1 Z=>(hrep j e x h1 Z).1) W;have y:=Xa (w:=w) p E g ms.isEmpty;obtain⟨L,H,I⟩:=X5 (w:=w) (β:=β) V<|XO Y h β;refine w3 M ?_;cases q with
    |none=>refine⟨if ok then .tuple #[L,.bool false] else L,?_,KB d I⟩;simp only[ZL,Option.bind_none] at D;simp[Instr.lookup,tT N,E9 K,y,D,H]
    |some i=>
     simp only[nT] at d;split at d
     .rename_i U C;have O:i<ms.length:=by have:=(tQ.1 C).1;omega
      have A:=tO O;refine⟨if ok then .tuple #[ms[i].val,.bool true] else ms[i].val,?_,KB d (hrep i U ms[i] C A).2⟩;simp only[ZL,Ev,A,tW] at D;simp[Instr.lookup,tT N,E9 K,y,D]
     .cases d
   .cases f
  .cases f
 .cases f
theorem oz {X:Nat->Prop} {es:List MapE} {ms:List MapEntry} (d:ms.length=es.length) (h:∀(i:Nat) (e:MapE) (m:MapEntry),es[i]?=some e->ms[i]?=some m->PRep (FRep w X) e.1 m.key/\PRep (WRep w X β) e.2 m.val) (f:∀(i:Nat) (m:MapEntry),ms[i]?=some m->m.born=i)
  {k:Bool×List FV} {r:Bool×List WV} {key val:Value} (o:PRep (FRep w X) k key) (p:PRep (WRep w X β) r val):
  (ms++[(⟨key,val,ms.length⟩:MapEntry)]).length=(es++[(k,r)]).length/\(∀(i:Nat) (e:MapE) (m:MapEntry),(es++[(k,r)])[i]?=some e->(ms++[(⟨key,val,ms.length⟩:MapEntry)])[i]?=some m->PRep (FRep w X) e.1 m.key/\PRep (WRep w X β) e.2 m.val)/\(∀(i:Nat) (m:MapEntry),(ms++[(⟨key,val,ms.length⟩:MapEntry)])[i]?=some m->m.born=i):=by
 refine⟨by simp[d],λi e m g b=>?_,λi m b=>?_⟩
 .rw[AQ] at g b;split at g;next q=>rw[tG za] at b;exact h i e m g b
  .rename_i q;rw[tD za] at b;have:i-es.length=0:=by have:=(tQ.1 g).1;exact zp this
   rw[d,this] at b;rw[this] at g;simp at g b;subst g;subst b;exact⟨o,p⟩
 .rw[AQ] at b;split at b
  .exact f i m b
  .have j:=(tQ.1 b).1;have:i=ms.length:=by simp at j;omega
   subst this;simp at b;subst b;rfl
theorem dO {X:Nat->Prop} {es:List MapE} {ms:List MapEntry} (o:ms.length=es.length) (p:∀(i:Nat) (e:MapE) (m:MapEntry),es[i]?=some e->ms[i]?=some m->PRep (FRep w X) e.1 m.key/\PRep (WRep w X β) e.2 m.val) (b:∀(i:Nat) (m:MapEntry),ms[i]?=some m->m.born=i)
  {j:Nat} {f:MapEntry->MapEntry} {k:Bool×List FV} {r:Bool×List WV} (u:∀x,ms[j]?=some x->PRep (FRep w X) k (f x).key/\PRep (WRep w X β) r (f x).val/\(f x).born=x.born):
  (ms.modify j f).length=(es.set j (k,r)).length/\(∀(i:Nat) (e:MapE) (m:MapEntry),(es.set j (k,r))[i]?=some e->(ms.modify j f)[i]?=some m->PRep (FRep w X) e.1 m.key/\PRep (WRep w X β) e.2 m.val)/\(∀(i:Nat) (m:MapEntry),(ms.modify j f)[i]?=some m->m.born=i):=by
 refine⟨by simp[o],λi e m d h=>?_,λi m h=>?_⟩
 .rw[S2] at h;obtain⟨x,g,rfl⟩:=tH.1 h;rw[Eb] at d;by_cases q:j=i
  .subst q;rw[tG rfl] at d;split at d
   .injection d with d;subst d
    rw[tG rfl];exact⟨(u x g).1,(u x g).2.1⟩
   .cases d
  .rw[tD q] at d;rw[tD q];exact p i e x d g
 .rw[S2] at h;obtain⟨x,g,rfl⟩:=tH.1 h;by_cases q:j=i
  .subst q;rw[tG rfl,(u x g).2.2];exact b j x g
  .rw[tD q];exact b i x g
theorem J1 (U:Objs h β Y w){fr:Nat}{t:TypeId}{m:(Bool×List EK)×(Bool×List WV)}{x key:TV}{u v:Value}{r:AR}(hm:J2 P t=some m)(K:TRep w (XO Y h β) β x u)(hk:TRep w (XO Y h β) β key v)(A:wC m h x key=some r):
  Does P h β Y w fr r (do pure (.value (<-Instr.mapEntry t u v))):=by
 unfold wC at A;split at A
 .rename_i k hk0;obtain⟨hk1,hk2⟩:=X6 hk0;have E:=WK hk1 hk;split at A
  .rename_i oe hoe;obtain⟨o,es⟩:=oe;obtain⟨b,ms,rfl,hb,S,I,z,y,p⟩:=kM U hoe K;obtain⟨kt,e,g,N,hz⟩:=Zg hm;split at A
   .rename_i q hq;obtain⟨Z,hj⟩:=WA (w:=w) N E z.symm (λj e x h1 h2=>(y j e x h1 h2).1) hq;have O:=Xa (w:=w) N hk2 E false;obtain⟨J,hzv,X⟩:=X5 (w:=w) (β:=β) hz<|XO Y h β;cases q with
    |none=>
     simp only[entE,tL] at A;subst A;obtain⟨a1,a2,a3⟩:=oz z y p E X;have C:=wH U S hb I _ _ a1 a2 a3;refine⟨.value<|.tuple #[J,goInt ms.length],.tuple #[J,goInt ms.length],{w with heap:=w.heap.setIfInBounds b (.map (ms++[(⟨v,J,ms.length⟩:MapEntry)]).toArray (ms++[(⟨v,J,ms.length⟩:MapEntry)]).length)},β,?_,.inl rfl,?_,?_⟩
     .simp only[ZL,Option.bind_none] at Z;simp[Instr.mapEntry,tT g,E9 I,O,Z,hzv,Es _ I]
     .rw[xv];exact C.weaken λ_ h=>h.elim
     .rw[xv];have hg:=C.goes U λ_ h=>h.elim;have T:PRep (WRep _ (XO Y (upd h o<|.mapo<|es++[((m.1.1,k),m.2)]) β) β) m.2 J:=X.imp λ_ _ _ h=>h.goes hg;refine⟨[J,goInt ms.length],rfl,rfl,λj c u d g=>?_⟩
      match j,d,g with
      |0,d,g=>simp at d g;subst d;subst g;exact T
      |1,d,g=>
       simp at d g;subst d;subst g;refine⟨[goInt ms.length],rfl,⟨rfl,λj c u d g=>?_⟩,λ_=>rfl⟩;cases j with
       |zero=>simp at d g;subst d;subst g;rw[z];exact JM<|.int .i64 _
       |succ j=>simp at d
      |j+2,d,_=>simp at d
    |some i=>
     simp only[entE] at A;split at A<;>simp only[tL,reduceCtorEq] at A;rename_i L H;subst A;have hi:i<ms.length:=by have:=(tQ.1 H).1;omega
     have D:=tO hi;obtain⟨hr1,V⟩:=y i L ms[i] H D;obtain⟨_,e',F,hag,hsm⟩:=qR hq;rw[ET,H] at F;injection F with F;subst F
     have W:PRep (FRep w<|XO Y h β) (m.1.1,L.1.2) ms[i].key:=by rw[<-hag];exact hr1
     obtain⟨hkey,G⟩:=JY (P:=P) hsm E W;obtain⟨a1,a2,a3⟩:=dO (f:=λe=> {e with key:=v}) z y p (j:=i) (k:=(m.1.1,k)) (r:=L.2) (λx K=>by rw[D] at K;injection K with K;subst K;exact⟨E,V,rfl⟩);have C:=wH U S hb I _ _ a1 a2 a3;refine⟨.value<|.tuple #[ms[i].val,goInt i],.tuple #[ms[i].val,goInt i],{w with heap:=w.heap.setIfInBounds b (.map (ms.modify i λe=> {e with key:=v}).toArray (ms.modify i λe=> {e with key:=v}).length)},β,?_,.inl rfl,?_,?_⟩
     .simp only[ZL,Ev,D,tW] at Z;have hbi:=p i ms[i] D;simp[Instr.mapEntry,tT g,E9 I,O,Z,D,G,hbi,Es _ I]
     .rw[xv];exact C.weaken λ_ h=>h.elim
     .rw[xv];have hg:=C.goes U λ_ h=>h.elim;have M:PRep (WRep _ (XO Y (upd h o<|.mapo<|es.set i ((m.1.1,k),L.2)) β) β) L.2 ms[i].val:=V.imp λ_ _ _ h=>h.goes hg;refine⟨[ms[i].val,goInt i],rfl,rfl,λj c u d g=>?_⟩
      match j,d,g with
      |0,d,g=>simp at d g;subst d;subst g;exact M
      |1,d,g=>
       simp at d g;subst d;subst g;refine⟨[goInt i],rfl,⟨rfl,λj c u d g=>?_⟩,λ_=>rfl⟩;cases j with
       |zero=>simp at d g;subst d;subst g;exact JM<|.int .i64 _
       |succ j=>simp at d
      |j+2,d,_=>simp at d
   .cases A
  .cases A
 .cases A
theorem XA (hO:Objs h β Y w){fr:Nat}{t:TypeId}{m:(Bool×List EK)×(Bool×List WV)}{x key y:TV}{u v z:Value}{r:AR}(hm:J2 P t=some m)(hx:TRep w (XO Y h β) β x u)(hk:TRep w (XO Y h β) β key v)(hy:TRep w (XO Y h β) β y z)(C:yG m h x key y=some r):
  Does P h β Y w fr r (do (Instr.mapUpdate t u v z);pure .skip):=by
 unfold yG at C;split at C
 .rename_i k rw_ Z W;obtain⟨T,U⟩:=X6 Z;have A:=WK T hk;have M:=KO W hy;split at C
  .rename_i oe hoe;obtain⟨o,es⟩:=oe;obtain⟨b,ms,rfl,hb,J,G,p,d,g⟩:=kM hO hoe hx;obtain⟨kt,e,hu,H,hz⟩:=Zg hm;split at C
   .rename_i q hq;injection C with C;subst C
    obtain⟨N,hj⟩:=WA (w:=w) H A p.symm (λj e x h1 h2=>(d j e x h1 h2).1) hq;have I:=Xa (w:=w) H U A false;cases q with
    |none=>
     obtain⟨X,V,S⟩:=oz p d g A M;have D:=wH hO J hb G _ _ X V S;refine⟨.skip,undef,{w with heap:=w.heap.setIfInBounds b (.map (ms++[(⟨v,z,ms.length⟩:MapEntry)]).toArray (ms++[(⟨v,z,ms.length⟩:MapEntry)]).length)},β,?_,.inr ⟨rfl,rfl⟩,?_,trivial⟩
     .simp only[ZL,Option.bind_none] at N;simp[Instr.mapUpdate,tT hu,E9 G,I,N,Es _ G]
     .rw[xv];exact D.weaken λ_ h=>h.elim
    |some i=>
     have hi':=hj i rfl;have hi:i<ms.length:=za;have F:=tO hi;obtain⟨_,en,K,O,hsm⟩:=qR hq;rw[ET] at K;obtain⟨hr1,hr2⟩:=d i en ms[i] K F;have L:PRep (FRep w<|XO Y h β) (m.1.1,en.1.2) ms[i].key:=by rw[<-O];exact hr1
     obtain⟨hkey,E⟩:=JY (P:=P) hsm A L;obtain⟨X,V,S⟩:=dO (f:=λe=> {e with key:=v,val:=z}) p d g (j:=i) (k:=(m.1.1,k)) (r:=rw_) λx hx=>⟨A,M,rfl⟩;have D:=wH hO J hb G _ _ X V S;refine⟨.skip,undef,{w with heap:=w.heap.setIfInBounds b (.map (ms.modify i λe=> {e with key:=v,val:=z}).toArray (ms.modify i λe=> {e with key:=v,val:=z}).length)},β,?_,.inr ⟨rfl,rfl⟩,?_,trivial⟩
     .simp only[ZL,Ev,F,tW] at N;simp[Instr.mapUpdate,tT hu,E9 G,I,N,F,E,Es _ G]
     .rw[xv];exact D.weaken λ_ h=>h.elim
   .cases C
  .cases C
 .cases C
theorem YI (S:Objs h β Y w){fr:Nat}{t:TypeId}{x O y:TV}{u v z:Value}{r:AR}(p:TRep w (XO Y h β) β x u)(V:TRep w (XO Y h β) β O v)(W:TRep w (XO Y h β) β y z)(i:wu h x O y=some r):
  Does P h β Y w fr r (do (Instr.entryStore t u v z);pure .skip):=by
 unfold wu at i;split at i
 .rename_i oe kk n K I H;obtain⟨o,es⟩:=oe;obtain⟨b,ms,rfl,hb,G,D,A,g,d⟩:=kM S I p;have M:=KO H W;rw[TRep.int_inv V];split at i
  .rename_i N C;split at i<;>simp only[tL,reduceCtorEq] at i;rename_i hn;subst i;have T:n.toNat<ms.length:=by have:=(tQ.1 C).1;simp only at this;omega
   have m:=tO T;obtain⟨L,hr2⟩:=g n.toNat N ms[n.toNat] C m;obtain⟨Z,X,U⟩:=dO (f:=λe=> {e with val:=z}) A g d (j:=n.toNat) (k:=N.1) (r:=K) (λx p=>by rw[m] at p;injection p with p;subst p;exact⟨L,M,rfl⟩);have E:=wH S G hb D _ _ Z X U;refine⟨.skip,undef,{w with heap:=w.heap.setIfInBounds b (.map (ms.modify n.toNat λe=> {e with val:=z}).toArray (ms.modify n.toNat λe=> {e with val:=z}).length)},β,?_,.inr ⟨rfl,rfl⟩,?_,trivial⟩
   .have F:ms.toArray.findIdx? (λe=>(e.born:Int)==n)=some n.toNat:=by
     rw[List.findIdx?_toArray,List.findIdx?_eq_some_iff_getElem];refine⟨T,?_,λj hj=>?_⟩
     .have:=d _ _ m;simp only[this,Al];omega
     .have J:j<ms.length:=za;have:=d _ _<|tO J;simp only[this,Al];omega
    simp[Instr.entryStore,E9 D,asInt,asIntOf,F,Es _ D]
   .rw[xv];exact E.weaken λ_ h=>h.elim
  .cases i
 .cases i
theorem ge (g:Objs h β Y w)(f:∀b,Y b->b<w.heap.size){fr:Nat}(d:β fr=none)(t:TypeId):Does P h β Y w fr ⟨.c<|.a<|.mp fr,[(fr,.mapo [])],[]⟩ (do pure (.value (<-Instr.makeMap t none))):=by
 have e:=Ko g f d;refine⟨.value<|.map<|some w.heap.size,.map<|some w.heap.size,{w with heap:=w.heap.push (.map #[] 0)},upd β fr<|some w.heap.size,?_,.inl rfl,?_,?_⟩
 .simp[Instr.makeMap,World.alloc_eq]
 .rw[xv];exact e
 .exact .a _ _<|.mp _ _<|by simp[upd]
theorem XC (hO:Objs h β Y w) (hY:∀b,Y b->b<w.heap.size) {fr:Nat} (O:β fr=none) {t e:TypeId} {d g:TyD} {x y:TV} {u v:Value} {q:Nat×List FV} (hd:tyOf P t=some d) (S:d.kind=.slice e) (H:tyOf P e=some g)
  (hx:TRep w (XO Y h β) β x u) (hy:TRep w (XO Y h β) β y v) (F:wW g fr x y=some q):
  Does P h β Y w fr ⟨.c<|.a<|.osl fr g.size 0 q.1,[(fr,.arr g.size<|List.replicate q.1<|fzs q.2)],[]⟩ (do pure (.value (<-Instr.makeSlice t u v))):=by
 have ht:=xp hd S;unfold wW at F;split at F
 .rename_i k1 n k2 m z hz;split at F<;>simp only[tL,reduceCtorEq] at F;rename_i M;obtain⟨N,hn0,D,X,hb0,o⟩:=M;subst N;subst F;rw[TRep.int_inv hx,TRep.int_inv hy];obtain⟨p,_,I,W,i,hi,U⟩:=wG (w:=w) H hz;obtain⟨i',_,A,_,_,f,K,_,_⟩:=wI H;rw[hi] at A;injection A with A;subst A
  have o:n.toNat*i.bytes<=140737488355328:=by rw[<-K];exact o
  have hle:n.toNat<=n.toNat*i.bytes:=Eh _ (by rw[<-K];exact hb0);have V:(i.bytes:Int)*n<=281474976710656:=by
   have e:((n.toNat*i.bytes:Nat):Int)=n*(i.bytes:Int):=by rw[Int.natCast_mul];congr 1;omega
   rw[Int.mul_comm,<-e];omega
  have hr:=run_make (P:=P) w t e i p ht hi U k1 k2 n n hn0 (tU _) V za;have E:p.cells.size=i.size:=by rw[<-f,<-D,I];simp
  have L:∀k,k<n.toNat*i.size->(madeCells p.cells<|n.toNat*i.size).toList[k]?=p.cells.toList[k % i.size]? :=by
   intro k S;have r:k % i.size<p.cells.size:=by rw[E];exact Nat.mod_lt _ (by rw[<-f];exact X)
   simp[madeCells,S,E,AP (show k % i.size<p.cells.size from r)];exact getElem!_pos p.cells (k % i.size) r
  refine uf hO hY O g.size (List.replicate n.toNat<|fzs z) (madeCells p.cells<|n.toNat*i.size).toList e 0 (.slice (some ⟨w.heap.size,0,none⟩) n.toNat n.toNat) _ (hr.trans ?_) ?_ (λe C=>?_) (λa j e c C M=>?_) ?_
  .simp[World.alloc_eq]
  .rw[List.length_replicate,Er,size_madeCells,f];exact tJ _
  .rw[(List.mem_replicate.1 C).2];simp[fzs,D]
  .have ha:a<n.toNat:=by have:=(tQ.1 C).1;exact zp this
   rw[List.getElem?_replicate,tG ha] at C;injection C with C;subst C
   have T:j<z.length:=by have:=(tQ.1 M).1;simpa[fzs] using this
   rw[D] at T;have r:a*g.size+j<n.toNat*i.size:=by
    rw[<-f]
    calc a*g.size+j<a*g.size+g.size:=za
     _=(a+1)*g.size:=by rw[AG,Nat.one_mul]
     _<=n.toNat*g.size:=Ar _ ha
   have G:(a*g.size+j) % i.size=j:=by rw[<-f,Nat.mul_comm,Nat.mul_add_mod];exact Nat.mod_eq_of_lt T
   rw[L _ r,G];have J:j<p.cells.toList.length:=by rw[Er,E,<-f];exact T
   refine⟨p.cells.toList[j],tO J,?_⟩;have hl:=uO (w:=w) (β:=β) (XO Y h β) p.cells.toList W;rw[<-I] at hl;exact hl.2 j c _ M<|tO J
  .intro w' β' hb Z;refine .a _ _<|.osl fr g.size 0 n.toNat w.heap.size 0 _ _ e hb Z (tJ _) ?_<|.inl zb;rw[Er,size_madeCells,f,A4];exact tJ _
 .cases F
theorem yA {t:TypeId}{f:(Bool×List EK)×(Bool×List WV)->Option AR}{r:AR}(b:xA P t f=some r):∃m,J2 P t=some m/\f m=some r:=by
 unfold xA at b;split at b;next m d=>exact⟨m,d,b⟩
 .cases b
end
section
variable {P:Program} {h:Nat->AObj} {β:Nat->Option Nat} {Y:Nat->Prop} {w:World}
theorem Wd (X:Nat->Prop){g:List WV}{b:List Value}(f:LRep (WRep w X β) g b)(d:b≠[]):∀(len:Nat),LRep (WRep w X β) (List.replicate len g).flatten ((List.range<|len*b.length).map λi=>b.getD (i % b.length) undef)
 |0=>zp LRep.nil
 |len+1=>by
  have ih:=Wd X f d len;have h:(List.range<|(len+1)*b.length).map (λi=>b.getD (i % b.length) undef)=b++(List.range<|len*b.length).map (λi=>b.getD (i % b.length) undef):=by
   rw[AG,Nat.one_mul,EO,List.range_add,E4,EU];congr 1
   .apply List.ext_getElem?;intro j;rw[tV];by_cases e:j<b.length
    .rw[Ep e];simp only[tW,Nat.mod_eq_of_lt e,List.getD,tO e,AU]
    .grind
   .simp_all
  rw[h];exact f.append ih
theorem Xl {n:Nat}:∀(k:Nat) {cs:List WV},cs.length=k*n->(∀e∈jc n k cs,e.length=n)/\(jc n k cs).length=k/\(jc n k cs).flatten=cs
 |0,cs,h=>by have:cs=[]:=tS za;subst this;simp[jc]
 |k+1,cs,h=>by have d:(cs.drop n).length=k*n:=zd;obtain⟨i,b,f⟩:=Xl k d;refine⟨λe g=>?_,by simp[jc,b],by simp[jc,f]⟩;simp only[jc,A1] at g;grind
theorem qc {ρ:Operand->TV}{ev:Operand->Value}{X:Nat->Prop}(b:∀x,TRep w X β (ρ x)<|ev x)(parts:Array<|Nat×Operand):
  ∀(j:Nat) (p:Nat×TV) (v:Nat×Value),(parts.toList.map λp=>(p.1,ρ p.2))[j]?=some p->((parts.map λ(i,x)=>(i,ev x)).toList)[j]?=some v->p.1=v.1/\TRep w X β p.2 v.2:=zd
theorem Ys:∀(l:List Field),(∀f∈l,∃i,P.info? f.type=some i)->(l.mapM (λf=>do pure (f.offset,<-sizeOf f.type):Field->Sem (Nat×Nat))).run P w=.ok (l.map λf=>(f.offset,P.cellsOf f.type)) w
 |[],_=>zb
 |f::l,h=>by
  obtain⟨i,b⟩:=h f zb;have ih:=Ys l (λf e=>h f zd);have g:P.cellsOf f.type=i.size:=by simp[Program.cellsOf,b]
  have d:(sizeOf f.type).run P w=.ok i.size w:=by simp[sizeOf,typeInfo,b]
  simp_all
theorem fV (b:Array Field)(h:∀f∈b.toList,∃i,P.info? f.type=some i):(b.mapM (λf=>do pure (f.offset,<-sizeOf f.type):Field->Sem (Nat×Nat))).run P w=.ok (b.toList.map λf=>(f.offset,P.cellsOf f.type)).toArray w:=by have:=Ys (P:=P) (w:=w) b.toList h;rw[Array.mapM_eq_mapM_toList];simp_all
theorem We {t:TypeId} {d:TyD} {parts:List (Nat×TV)} {vals:Array (Nat×Value)} {X:Nat->Prop} {r:TV} (hd:tyOf P t=some d) (u:parts.length=vals.toList.length)
  (H:∀(j:Nat) (p:Nat×TV) (v:Nat×Value),parts[j]?=some p->vals.toList[j]?=some v->p.1=v.1/\TRep w X β p.2 v.2)
  (h:XZ P d parts=some r):∃z,(Instr.build t vals).run P w=.ok z w/\TRep w X β r z:=by
 unfold XZ at h;split at h;next z M E A=>obtain⟨cs,m,rfl⟩:=tH.1 h;obtain⟨C,g,rfl,D,_⟩:=wG (w:=w) hd E;obtain⟨I,y,rfl,F⟩:=jl hd A;have G:=uO (w:=w) (β:=β) X C.cells.toList D;obtain⟨vs,o,b⟩:=jV (place':=λi=>((I.toList.map λf=>(f.offset,P.cellsOf f.type)).toArray)[i]?) (λi=>zd) _ _ _ _ _ m G u H;refine⟨.agg vs.toArray,?_,vs,rfl,b⟩;have K:=fV (P:=P) (w:=w) I F;simp only[Instr.build,Ao,g,A2,tT y,K,o,Av]
 .rename_i z n e E A;have L:=Y6 hd A;split at h;next J x=>obtain⟨cs,m,rfl⟩:=tH.1 h;obtain⟨C,g,rfl,D,_⟩:=wG (w:=w) hd E;have G:=uO (w:=w) (β:=β) X C.cells.toList D;obtain⟨vs,o,b⟩:=jV (place':=λi=>some (i*J.size,J.size)) (λi=>rfl) _ _ _ _ _ m G u H;refine⟨.agg vs.toArray,?_,vs,rfl,b⟩;simp only[Instr.build,Ao,g,A2,tT L,zV x,o,Av]
  .cases h
 .cases h
theorem mn {t:TypeId} {d:TyD} {parts:Array (Nat×Operand)} {ρ:Operand->TV} {ev:Operand->Value} {X:Nat->Prop} {r:TV} (b:∀x,TRep w X β (ρ x)<|ev x) (hd:tyOf P t=some d)
  (e:XZ P d (parts.toList.map λp=>(p.1,ρ p.2))=some r):∃z,(Instr.build t<|parts.map λ(i,x)=>(i,ev x)).run P w=.ok z w/\TRep w X β r z:=
 We hd zb (qc (w:=w) (β:=β) b parts) e
theorem ur (hO:Objs h β Y w) (hY:∀b,Y b->b<w.heap.size) {fr:Nat} (M:β fr=none) {t e:TypeId} {d g:TyD} {f:Nat} {parts:List (Nat×TV)} {vals:Array (Nat×Value)} {r:AR}
  (J:parts.length=vals.toList.length) (hp:∀(j:Nat) (p:Nat×TV) (v:Nat×Value),parts[j]?=some p->vals.toList[j]?=some v->p.1=v.1/\TRep w (XO Y h β) β p.2 v.2)
  (hd:tyOf P t=some d) (hk:d.kind=.slice e) (C:tyOf P e=some g) (m:wx g fr f parts=some r):
  Does P h β Y w fr r (do pure (.value (<-Instr.buildSlice t f vals))):=by
 have W:=xp hd hk;unfold wx at m;split at m
 .rename_i z G;split at m
  .rename_i hc;obtain⟨hz1,U,X⟩:=hc;split at m
   .rename_i cs H;injection m with m;subst m
    obtain⟨A,N,rfl,h1,_⟩:=wG (w:=w) C G;have T:A.cells.toList.length=g.size:=zd;have hl:=uO (w:=w) (β:=β) (XO Y h β) A.cells.toList h1;have x:=Wd (XO Y h β) hl zd f;rw[T] at x;obtain⟨vs,D,K⟩:=jV (place':=λi=>some (i*g.size,g.size)) (λi=>rfl) _ _ _ _ _ H x J hp;have L:∀(o:Nat->Option (Nat×Nat)) (I:List<|Nat×TV) (c r:List WV),XF o c I=some r->r.length=c.length:=by
     intro o I
     induction I with
     |nil=>intro c r h;simp only[XF,tL] at h;rw[h]
     |cons p I ih=>
      intro c r h;simp only[XF] at h;split at h
      .split at h;next hc=>rw[ih _ _ h];unfold splice;simp;omega
       .cases h
      .cases h
    have F:cs.length=f*g.size:=by rw[L _ _ _ _ H,x.1];simp
    obtain⟨Z,k2,k3⟩:=Xl f F;have hvl:vs.length=f*g.size:=by rw[<-K.1,F]
    refine uf hO hY M g.size (jc g.size f cs) vs e 0 (.slice (some ⟨w.heap.size,0,none⟩) f f) _ ?_ zd Z (xK Z zd) ?_
    .have E:¬(f*g.size>2^24):=za;have y:(Array.range<|f*g.size).map (λi=>A.cells[i % A.cells.size]!)=(List.map (λi=>A.cells.toList.getD (i % g.size) undef)<|List.range<|f*g.size).toArray:=by
      apply EL;simp only[Array.toList_map,Array.toList_range];apply AY;intro i _;have S:A.cells.size=g.size:=za;have hlt:i % g.size<A.cells.size:=by rw[S];exact Nat.mod_lt _ U
      grind
     by_cases u:f*g.size=0
     .have V:(Array.range 0).map (λi=>(#[]:Array Value)[i % (#[]:Array Value).size]!)=(List.map (λi=>A.cells.toList.getD (i % g.size) undef)<|List.range 0).toArray:=by grind
      simp only[u] at D;simp only[Instr.buildSlice,Ao,tT W,A2,zV C,u,show¬(0>2^24) by omega,tZ,A6,Av,V,D,newRow,run_newObj,Ed]
     .simp only[Instr.buildSlice,Ao,tT W,A2,zV C,E,u,A6,Av,N,y,D,newRow,run_newObj,Ed]
    .intro w' β' m O;by_cases G:f=0/\g.size=1
     .rw[tG G];obtain⟨rfl,_⟩:=G;exact .a _ _<|.fz _ _<|.z0 true _
     .rw[tD G];exact .a _ _<|.osl fr g.size 0 f w.heap.size 0 f _ e m O (tJ _) zd<|.inl zb
   .cases m
  .cases m
 .cases m
theorem Yr (y:Objs h β Y w) (u:∀b,Y b->b<w.heap.size) {fr:Nat} (g:β fr=none) {t e:TypeId} {d o:TyD} {f:Nat} {parts:Array (Nat×Operand)} {ρ:Operand->TV} {ev:Operand->Value} {r:AR}
  (j:∀x,TRep w (XO Y h β) β (ρ x)<|ev x) (hd:tyOf P t=some d) (z:d.kind=.slice e) (m:tyOf P e=some o) (v:wx o fr f (parts.toList.map λp=>(p.1,ρ p.2))=some r):
  Does P h β Y w fr r (do pure (.value (<-Instr.buildSlice t f<|parts.map λ(i,x)=>(i,ev x)))):=
 ur y u g zb (qc (w:=w) (β:=β) j parts) hd z m v
theorem Kr (Z:Objs h β Y w) (hY:∀b,Y b->b<w.heap.size) {fr:Nat} (E:β fr=none) {t J ty e:TypeId} {d p:TyD} {s x:TV} {u v:Value} {r:AR} (hd:tyOf P t=some d) (T:d.kind=.slice e) (o:tyOf P e=some p)
  (S:TRep w (XO Y h β) β s u) (W:TRep w (XO Y h β) β x v) (m:Z5 P J p fr s x=some r):
  Does P h β Y w fr r (do pure (.value (<-Builtin.append_ #[t,J] ty #[u,v]))):=by
 have O:=xp hd T;unfold Z5 at m;split at m
 .rename_i kn k n A;split at m
  .rename_i hc;obtain⟨hn0,hs0,f,hb0,X⟩:=hc;injection m with m;subst m
   rw[S.nils_inv,TRep.int_inv W];obtain⟨z,F,hz2⟩:=tH.1 X;obtain⟨y,_,hz3,_,i,N,D⟩:=wG (w:=w) o F;obtain⟨i',_,g,_,_,C,I,_,_⟩:=wI o;rw[N] at g;injection g with g;subst g
   have f:n.toNat*i.bytes<=140737488355328:=by rw[<-I];exact f
   have U:n.toNat<=n.toNat*i.bytes:=Eh _ za;have M:=Lib.run_append_nil_zeros (P:=P) w t J ty e i y k kn O A N D n.toNat za za za za;rw[show((n.toNat:Nat):Int)=n by omega] at M;have K:=grownCap_ge w n.toNat 0 e;have H:y.cells.size=i.size:=zd;refine uf Z hY E p.size [] (Builtin.zeroCells y.cells n.toNat++Builtin.zeroCells y.cells (grownCap w n.toNat 0 e-n.toNat)).toList e 1 (.slice (some ⟨w.heap.size,0,none⟩) n.toNat<|grownCap w n.toNat 0 e) _ (M.trans ?_) zb (λe L=>by cases L) (λi j e c L _=>zd) ?_
   .rfl
   .intro w' β' V G;refine .a _ _<|.osl fr p.size 0 n.toNat w.heap.size 0 _ _ e V G K ?_<|.inl zb;rw[Er,Array.size_append,size_zeroCells,size_zeroCells,H,<-AG,C];grind
  .cases m
 .cases m
theorem gB (J:Objs h β Y w) (U:∀b,Y b->b<w.heap.size) {fr:Nat} (L:β fr=none) {b:Builtin} {o:Array TypeId} {ty:TypeId} {cs:Array Bool} {args:List TV} {vals:Array Value} {r:AR}
  (K:LRep (TRep w (XO Y h β) β) args vals.toList) (i:xU P b o.toList fr h args=some r):Does P h β Y w fr r (builtin b o ty cs vals):=by
 unfold xU at i;split at i
 .rename_i t x T;obtain⟨u,A,z,g,E⟩:=K.cons_inv;rw[E.nil_inv] at z;have G:vals= #[u]:=zd;have f:o= #[t]:=zd;subst G;subst f;obtain⟨d,hd,M⟩:=zN i;obtain⟨p,V,rfl⟩:=tH.1 M;exact len_does (ty:=ty) J hd g V
 .rename_i t Z s x T;split at i
  .rename_i S;subst S;obtain⟨d,e,W,hd,F,C,H⟩:=yb i;obtain⟨u,A,z,O,E⟩:=K.cons_inv;obtain⟨v,N,G,g,I⟩:=E.cons_inv;rw[G,I.nil_inv] at z;have D:vals= #[u,v]:=zd;have f:o= #[t,t]:=zd;subst D;subst f;exact dX (ty:=ty) J U L hd F C O g H
  .obtain⟨d,e,W,hd,F,C,H⟩:=yb i;obtain⟨u,A,z,O,E⟩:=K.cons_inv;obtain⟨v,N,G,g,I⟩:=E.cons_inv;rw[G,I.nil_inv] at z;have D:vals= #[u,v]:=zd;have f:o= #[t,Z]:=zd;subst D;subst f;exact Kr (ty:=ty) J U L hd F C O g H
 .rename_i t x T;refine yI J i λy hy=>?_;obtain⟨u,A,z,g,E⟩:=K.cons_inv;rw[E.nil_inv] at z;have G:vals= #[u]:=zd;have f:o= #[t]:=zd;subst G;subst f;obtain⟨d,hd,j⟩:=zN hy;unfold capP at j;split at j
  .rename_i F;have f:=xp hd F;injection j with j;subst j
   rw[g.nils_inv];exact⟨goInt 0,by simp[Builtin.cap_,tT f,goInt],.int_mk _ _⟩
  .rename_i nn F;have f:=xp hd F;injection j with j;subst j
   have X:=g.fz_inv;cases X with
   |z0 _ a=>exact⟨goInt 0,by simp[Builtin.cap_,tT f,goInt],.int_mk _ _⟩
   |z0n=>exact⟨goInt 0,by simp[Builtin.cap_,tT f,goInt],.int_mk _ _⟩
  .cases j
 .refine yI J i λx g=>?_;have:=pk (P:=P) (m:=false) o ty g K;simp_all
 .refine yI J i λx g=>?_;have:=pk (P:=P) (m:=true) o ty g K;simp_all
 .cases i
theorem dn {ρ:Operand->TV}{ev:Operand->Value}{X:Nat->Prop}(b:∀x,TRep w X β (ρ x)<|ev x)(o:Option Operand):bnd (o.map ρ) (o.map ev) w X β:=by
 cases o with
 |none=>trivial
 |some x=>exact b x
theorem qA {ρ:Operand->TV}{ev:Operand->Value}{X:Nat->Prop}(b:∀x,TRep w X β (ρ x)<|ev x):∀(l:List Operand),LRep (TRep w X β) (l.map ρ) (l.map ev)
 |[]=>.nil
 |x::l=>.cons (b x)<|qA b l
theorem fU {b:TypeId}{x r:TV}{u:Value}{f:TypeId}{d:TyD}{X:Nat->Prop}(g:∃e,P.underlying b=some e)(hd:tyOf P f=some d)(h:Y2 d x=some r)(j:TRep w X β x u):
  ∃z,(convert b f u).run P w=.ok z w/\TRep w X β r z:=by
 obtain⟨e,i⟩:=g;exact f7 b ⟨e,i,λ_ _ _=>trivial⟩ hd h j
theorem XW {X:Nat->Prop}:∀ {es:List (List WV)} {l:List UInt8} {f:List Value},Ka es=some l->LRep (WRep w X β) es.flatten f->∃g:List Int,f=g.map (Value.int .u8)/\l=g.map λn=>UInt8.ofNat n.toNat
 |[],l,f,h,j=>by simp only[Ka,tL] at h;have:f=[]:=tS (zp j.1.symm);simp_all
 |e::r,l,f,h,j=>by
  simp only[Ka] at h;split at h
  .rename_i b l' d i;injection h with h;subst h
   unfold byteW at d;split at d
   .rename_i n;injection d with d;subst d
    obtain⟨u,o,rfl,m,p⟩:=j.cons_inv;obtain⟨g,rfl,rfl⟩:=XW i p;have:u=.int .u8 n:=by cases m with|a _ _ h=>cases h with|fz _ _ h=>cases h;rfl
    subst this;exact⟨n::g,rfl,rfl⟩
   .cases d
  .cases h
theorem W7:∀(b:List Int) (s:ByteArray),b.foldl (λr n=>r.push<|UInt8.ofNat n.toNat) s=⟨s.data++(b.map λn=>UInt8.ofNat n.toNat).toArray⟩
 |[],s=>zb
 |n::b,s=>by rw[Ek,W7 b];simp_all
theorem iK (K:Objs h β Y w){b f:TypeId}{x:TV}{u:Value}{r:AR}(F:Jv P b=true)(g:textA P f h x=some r)(J:TRep w (XO Y h β) β x u):
  ∃v z rd,r=⟨v,[],rd⟩/\(convert b f u).run P w=.ok z w/\TRep w (XO Y h β) β v z:=by
 have A:∃e,P.underlying b=some (.slice e)/\P.underlying e=some (.int .u8):=by
  unfold Jv at F;split at F
  .rename_i O;obtain⟨V,e,de,hd,p,D,i⟩:=yb O;injection i with i
   obtain⟨W,N,I⟩:=xR hd;rw[I] at p;obtain⟨u2,L,E⟩:=xR D;rw[E] at i;have e1:=kz p;have e2:=Wp i;grind
  .cases F
 obtain⟨e,hs1,C⟩:=A;obtain⟨d,hd,g⟩:=zN g;split at g
 .rename_i p;obtain⟨Z,j,H⟩:=xR hd;rw[H] at p;have S:=Z8 p;subst S;split at g
  .rename_i es rd o;obtain⟨l,i,rfl⟩:=tH.1 g;obtain⟨_,X,G,M⟩:=jr K o J za;obtain⟨m,rfl,rfl⟩:=XW i G;rcases M with⟨rfl,rfl⟩|⟨a,cap,rfl,U⟩
   .have:m=[]:=by have:=G.1;grind
    subst this;refine⟨_,.string .empty,_,rfl,?_,.a _ _<|.fz _ _<|.str []⟩;rw[run_convert_bytes_string w b f e none 0 0 hs1 C j];rfl
   .have y:es.length=(m.map<|Value.int .u8).length:=by have:=G.1;have T:=(jr K o J za).1;rw[<-this,vY T,Nat.mul_one]
    refine⟨_,_,_,rfl,(run_convert_bytes_string w b f e (some a) es.length cap hs1 C j).trans<|run_bytesToString w a es.length cap m ?_,?_⟩
    .rw[y];exact run_loadCells_list w a _ U
    .rw[W7];have e:ByteArray.empty.data++(m.map λn=>UInt8.ofNat n.toNat).toArray=(m.map λn=>UInt8.ofNat n.toNat).toArray:=by simp_all
     rw[e];exact .a _ _<|.fz _ _<|.str _
  .cases g
 .cases g
theorem u6 (A:Objs h β Y w)(K:∀b,Y b->b<w.heap.size){fr:Nat}(E:β fr=none){o:Oper}{ρ:Operand->TV}{ev:Operand->Value}{r:AR}(j:∀x,TRep w (XO Y h β) β (ρ x)<|ev x)(u:aop P o fr ρ h=some r):
  Does P h β Y w fr r (execOp ev o):=by
 have O:∀ {s:Sem Value},(do pure (.value (<-s)):Sem Next)=(do let v <-s;pure<|.value v):=rfl;obtain⟨d,op,t,p,af,g⟩:=o;unfold aop at u;dsimp only at u;split at u
 .injection u with u;subst u
  rename_i x;exact⟨.value<|ev x,ev x,w,β,rfl,.inl rfl,(Moves.refl A λ_=>rfl).weaken λ_ h=>h.elim,j x⟩
 .injection u with u;subst u
  rename_i x;exact⟨.value<|ev x,ev x,w,β,rfl,.inl rfl,(Moves.refl A λ_=>rfl).weaken λ_ h=>h.elim,j x⟩
 .rename_i c x y;obtain⟨v,C,rfl⟩:=tH.1 u;obtain⟨b,I,hr⟩:=nC C (j c) (j x)<|j y;refine⟨.value (if b then ev x else ev y),_,w,β,?_,.inl rfl,(Moves.refl A λ_=>rfl).weaken λ_ h=>h.elim,hr⟩;simp only[execOp,I,asBool,pure_bind];rfl
 next e=>obtain⟨F,hd,hz⟩:=zN u;obtain⟨z,V,rfl⟩:=tH.1 hz;exact pN A K E hd V
 next e x=>obtain⟨cs,W,rfl⟩:=tH.1 u;exact box_does A K E (j x) W
 next bt parts=>exact yI A u (λx hx=>by obtain⟨F,hd,I⟩:=zN hx;exact mn j hd I)
 next T len parts=>obtain⟨F,e,de,hd,S,H,I⟩:=yb u;exact Yr A K E j hd S H I
 next lt x=>obtain⟨F,hd,J⟩:=zN u;obtain⟨q,Z,rfl⟩:=tH.1 J;exact oK A hd (j x) Z
 next T x y=>obtain⟨F,hd,M⟩:=zN u;exact lj A hd (j x) (j y) M
 next x=>obtain⟨v,C,rfl⟩:=tH.1 u;obtain⟨U,h2⟩:=JS (P:=P) (o:=⟨d,.nilCheck x,t,p,af,g⟩) ev x rfl rfl C (j x);exact⟨.value<|ev x,ev x,w,β,U,.inl rfl,(Moves.refl A λ_=>rfl).weaken λ_ h=>h.elim,h2⟩
 next op xt x y yt=>exact yI A u λv C=>binA_run x y C (j x)<|j y
 next op xt x=>exact yI A u λv C=>unA_run C<|j x
 .rename_i src dst x;split at u
  .rename_i M;obtain⟨v,z,rd,rfl,U,h3⟩:=iK A M u<|j x;refine⟨.value z,z,w,β,?_,.inl rfl,(Moves.refl A λ_=>rfl).weaken λ_ h=>h.elim,h3⟩;simp only[execOp,Ao,U,A2,Av]
  exact yI A u (λv C=>by
   split at C;next M=>obtain⟨F,hd,G⟩:=zN C;exact fU (Option.isSome_iff_exists.1 M) hd G (j x)
   .cases C)
 .rename_i T x lo hi mx;exact yI A u (λv C=>by obtain⟨F,hd,G⟩:=zN C;exact f5 hd G (j x) (dn j lo) (dn j hi) (dn j mx))
 next s x f=>exact yI A u (λv C=>by obtain⟨F,hd,G⟩:=zN C;exact Xz hd G<|j x)
 next s x f=>exact yI A u (λv C=>by obtain⟨F,hd,G⟩:=zN C;exact pA hd G<|j x)
 next s x N=>exact yI A u (λv C=>by obtain⟨F,hd,G⟩:=zN C;exact jj hd G (j x)<|j N)
 next s x N=>exact yI A u (λv C=>by obtain⟨F,hd,G⟩:=zN C;exact pL hd G (j x)<|j N)
 .rename_i fn first D
  exact yI A u (λv C=>⟨.func fn (first.map ev)<|D.map ev,rfl,by
   have:=Js (w:=w) (β:=β) (X:=XO Y h β) C (qA j first.toList) (qA j D.toList);have e:∀a:Array Operand,(a.toList.map ev).toArray=a.map ev:=λa=>by apply EL;simp
   rwa [e,e] at this⟩)
 next x i=>exact yI A u λv C=>JT C<|j x
 next b args ts=>refine gB (vals:=args.map ev) A K E (by simpa using qA j args.toList) u
 next lt x N ok=>obtain⟨m,L,J⟩:=yA u;exact fj A L (j x) (j N) J
 next mt x k=>obtain⟨m,L,J⟩:=yA u;exact J1 A L (j x) (j k) J
 next mt x s v=>exact YI A (j x) (j s) (j v) u
 next mt x k v=>obtain⟨m,L,J⟩:=yA u;exact XA A L (j x) (j k) (j v) J
 .injection u with u;subst u
  exact ge A K E _
 next T l c=>obtain⟨F,e,de,hd,S,H,I⟩:=yb u;obtain⟨q,Z,rfl⟩:=tH.1 I;exact XC A K E hd S H (j l) (j c) Z
 .cases u
end
section
variable {w:World} {X1 X2:Nat->Prop} {β1 β2:Nat->Option Nat} {σ:Nat->Nat}
theorem ARep.map (z:∀x v,FRep w X1 x v->FRep w X2 x v)(d:∀o b,β1 o=some b->β2 (σ o)=some b){x:AV}{v:Value}(h:ARep w X1 β1 x v):ARep w X2 β2 (x.ren σ) v:=by
 cases h with
 |fz x v h=>exact .fz x v<|z x v h
 |ep o n i j b h=>exact .ep _ n i j b<|d _ _ h
 |osl o n g f b q cap sz t p m r u y=>exact .osl _ n g f b q cap sz t (d _ _ p) m r u y
 |oslN o n g=>exact .oslN _ n g
 |mp o b h=>exact .mp _ b<|d _ _ h
 |any v h=>exact .any v h
 |bld t o b v p m r=>exact .bld t _ b v (d _ _ p) m r
 |osb o e f b cap p m r u=>exact .osb _ e f b cap (d _ _ p) m r u
theorem WRep.map (e:∀x v,FRep w X1 x v->FRep w X2 x v)(d:∀o b,β1 o=some b->β2 (σ o)=some b){x:WV}{v:Value}(h:WRep w X1 β1 x v):WRep w X2 β2 (x.ren σ) v:=by
 cases h with
 |a x v h=>exact .a _ v<|h.map e d
 |fn f first cap j vs i g=>exact .fn f _ _ j vs (i.map λc u _ h=>h.map λc u _ h=>h.map e d)<|g.map λc u _ h=>h.map λc u _ h=>h.map e d
theorem TRep.map (e:∀x v,FRep w X1 x v->FRep w X2 x v)(d:∀o b,β1 o=some b->β2 (σ o)=some b){x:TV}{v:Value}(h:TRep w X1 β1 x v):TRep w X2 β2 (x.ren σ) v:=by
 cases x with
 |any=>trivial
 |c x=>exact WRep.map e d h
 |agg cs=>obtain⟨i,g,f⟩:=h;exact⟨i,g,f.map λc u _ h=>h.map e d⟩
 |tup vs=>obtain⟨i,g,f⟩:=h;exact⟨i,g,f.map λc u _ h=>h.map λc u _ h=>h.map e d⟩
theorem ORep.map (E:∀x v,FRep w X1 x v->FRep w X2 x v)(g:∀o b,β1 o=some b->β2 (σ o)=some b){x:AObj}{b:Nat}(h:ORep w X1 β1 x b):ORep w X2 β2 (x.ren σ) b:=by
 cases x with
 |gone=>trivial
 |arz n N=>obtain⟨L,t,A,z,D,C⟩:=h;refine⟨L,t,A,z,D,λi j e c d r=>?_⟩;obtain⟨u,K,M⟩:=C i j e c d r;rw[tV] at d;obtain⟨p,f,rfl⟩:=tH.1 d;rw[fzs,tV] at r;obtain⟨H,F,rfl⟩:=tH.1 r;exact⟨u,K,M.map (σ:=σ) E g⟩
 |mapz es=>obtain⟨ms,J,A,z,D,C,G⟩:=h;refine⟨ms,J,A,z,λi e m d I=>?_,C,G⟩;obtain⟨x,y⟩:=D i e m d I;rw[tV] at d;obtain⟨p,f,rfl⟩:=tH.1 d;refine⟨x.imp λ_ _ _ h=>E _ _ h,y.imp λc u r h=>?_⟩;obtain⟨H,_,rfl⟩:=Ay.1 (show c∈List.map cell p.2.2 from r);exact h.map (σ:=σ) E g
 |arr n es=>
  obtain⟨L,t,A,z,D,C⟩:=h;refine⟨L,t,A,zp z,λe d=>?_,λi j e c d r=>?_⟩
  .obtain⟨p,f,rfl⟩:=Ay.1 d;simp[D p f]
  .rw[tV] at d;obtain⟨p,f,rfl⟩:=tH.1 d;rw[tV] at r;obtain⟨H,F,rfl⟩:=tH.1 r;obtain⟨u,K,M⟩:=C i j p H f F;exact⟨u,K,M.map E g⟩
 |mapo es=>obtain⟨ms,J,A,z,D,C,G⟩:=h;refine⟨ms,J,A,zp z,λi e m d I=>?_,C,G⟩;rw[tV] at d;obtain⟨p,f,rfl⟩:=tH.1 d;obtain⟨x,y⟩:=D i p m f I;exact⟨x.imp λ_ _ _ h=>E _ _ h,y.map λc u _ h=>h.map E g⟩
theorem ARep.unmap {m:Nat}(C:∀x v,FRep w X2 x v->FRep w X1 x v)(f:∀o b,o<m->β2 (σ o)=some b->β1 o=some b){x:AV}{v:Value}(d:x.lt m=true)(h:ARep w X2 β2 (x.ren σ) v):ARep w X1 β1 x v:=by
 cases x with
 |fz x=>cases h with|fz _ _ h=>exact .fz x v<|C x v h
 |ep o n i j=>cases h with|ep _ _ _ _ b h=>exact .ep o n i j b<|f _ _ (by simpa[AV.lt] using d) h
 |osl o n r y=>cases h with
  |osl _ _ _ _ b q cap sz t p g u z A=>exact .osl o n r y b q cap sz t (f _ _ (by simpa[AV.lt] using d) p) g u z A
  |oslN=>exact .oslN o n r
 |mp o=>cases h with|mp _ b h=>exact .mp o b<|f _ _ (by simpa[AV.lt] using d) h
 |any=>cases h with|any _ h=>exact .any v h
 |bld t o=>cases h with|bld _ _ b _ p g u=>exact .bld t o b v (f _ _ (by simpa[AV.lt] using d) p) g u
 |osb o e n=>cases h with|osb _ _ _ b cap p g u z=>exact .osb o e n b cap (f _ _ (by simpa[AV.lt] using d) p) g u z
theorem WRep.unmap {m:Nat}(i:∀x v,FRep w X2 x v->FRep w X1 x v)(g:∀o b,o<m->β2 (σ o)=some b->β1 o=some b){x:WV}{v:Value}(e:x.lt m=true)(h:WRep w X2 β2 (x.ren σ) v):WRep w X1 β1 x v:=by
 cases x with
 |a x=>cases h with|a _ _ h=>exact .a x v<|ARep.unmap i g e h
 |fn f first cap=>
  simp only[WV.lt,tF,A7] at e;cases h with
  |fn _ _ _ y vs r p=>exact .fn f first cap y vs (r.unmap λc u j h=>h.unmap λd z hd h=>ARep.unmap i g (e.1 c j d hd) h) (p.unmap λc u j h=>h.unmap λd z hd h=>ARep.unmap i g (e.2 c j d hd) h)
theorem TRep.unmap {m:Nat}(j:∀x v,FRep w X2 x v->FRep w X1 x v)(f:∀o b,o<m->β2 (σ o)=some b->β1 o=some b){x:TV}{v:Value}(e:x.lt m=true)(h:TRep w X2 β2 (x.ren σ) v):TRep w X1 β1 x v:=by
 cases x with
 |any=>trivial
 |c x=>exact WRep.unmap j f e h
 |agg cs=>simp only[TV.lt,A7] at e;obtain⟨p,i,g⟩:=h;exact⟨p,i,g.unmap λc u r h=>WRep.unmap j f (e c r) h⟩
 |tup vs=>simp only[TV.lt,A7] at e;obtain⟨p,i,g⟩:=h;exact⟨p,i,g.unmap λc u r h=>h.unmap λd z hd h=>WRep.unmap j f (e c r d hd) h⟩
theorem ORep.unmap {m:Nat}(D:∀x v,FRep w X2 x v->FRep w X1 x v)(p:∀o b,o<m->β2 (σ o)=some b->β1 o=some b){x:AObj}{b:Nat}(g:x.lt m=true)(h:ORep w X2 β2 (x.ren σ) b):ORep w X1 β1 x b:=by
 cases x with
 |gone=>trivial
 |arz n S=>obtain⟨J,t,z,r,C,A⟩:=h;refine⟨J,t,z,r,C,λi j e c d f=>?_⟩;obtain⟨u,I,L⟩:=A i j e c d f;rw[tV] at d;obtain⟨M,K,rfl⟩:=tH.1 d;rw[fzs,tV] at f;obtain⟨F,O,rfl⟩:=tH.1 f;exact⟨u,I,WRep.unmap (σ:=σ) (m:=m) (x:=cell F) D p rfl L⟩
 |mapz es=>obtain⟨ms,H,z,r,C,A,E⟩:=h;refine⟨ms,H,z,r,λi e N d G=>?_,A,E⟩;obtain⟨x,y⟩:=C i e N d G;rw[tV] at d;obtain⟨M,K,rfl⟩:=tH.1 d;refine⟨x.imp λ_ _ _ h=>D _ _ h,y.imp λc u f h=>?_⟩;obtain⟨F,_,rfl⟩:=Ay.1 (show c∈List.map cell M.2.2 from f);exact WRep.unmap (σ:=σ) (m:=m) (x:=cell F) D p rfl h
 |arr n es=>
  simp only[AObj.lt,A7] at g;obtain⟨J,t,z,r,C,A⟩:=h;refine⟨J,t,z,zp r,λe d=>?_,λi j e c d f=>?_⟩
  .have:=C _<|Ay.2 ⟨e,d,rfl⟩;exact zp this
  .obtain⟨u,I,L⟩:=A i j _ _ (by rw[tV,d];rfl) (by rw[tV,f];rfl);exact⟨u,I,WRep.unmap D p (g e (Aq d) c<|Aq f) L⟩
 |mapo es=>simp only[AObj.lt,A7] at g;obtain⟨ms,H,z,r,C,A,E⟩:=h;refine⟨ms,H,z,zp r,λi e m d G=>?_,A,E⟩;obtain⟨x,y⟩:=C i _ m (by rw[tV,d];rfl) G;exact⟨x.imp λ_ _ _ h=>D _ _ h,y.unmap λc u f h=>WRep.unmap D p (g e (Aq d) c f) h⟩
theorem FRep.le {X:Nat->Prop}{x y:FV}(h:FV.Le x y):∀ {v:Value},FRep w X x v->FRep w X y v:=by
 induction h with
 |refl x=>exact λh=>h
 |N n=>exact λh=>by cases h;exact .slnil n
 |nn b n es=>
  intro v h;cases h with
  |slnil=>exact .slnil n
  |sl0 _ _ a=>exact .sl0 _ n a
  |sl _ _ _ b C cap A u N L K H E G F=>exact .sl false n es b C cap A u N L K H E G F
 |z0 nn n=>
  intro v h;cases h with
  |z0 _ a=>exact .sl0 nn n a
  |z0n=>exact .slnil n
 |rows b n es o M S T ih=>
  intro v h;have g:∀ {i:Nat} {r:List FV},o[i]?=some r->∃e,es[i]?=some e/\e.length=r.length:=by
   intro i r d;have O:i<es.length:=by have:=(tQ.1 d).1;omega
   exact⟨es[i],tO O,S i _ _ (tO O) d⟩
  cases h with
  |slnil=>
   have:o=[]:=tS (zp M.symm);subst this;exact .slnil n
  |sl0 _ _ a=>
   have:o=[]:=tS (zp M.symm);subst this;exact .sl0 _ n a
  |sl _ _ _ b C cap A u N L K H E G F=>
   refine .sl _ n o b C cap A u za za K H (λi r d=>?_) (λi j r f' d p=>?_) λi j r f' d p=>?_
   .obtain⟨e,f,m⟩:=g d;rw[<-m];exact E i e f
   .obtain⟨e,f,m⟩:=g d;have D:j<e.length:=by rw[m];exact(tQ.1 p).1
    exact G i j e _ f<|tO D
   .obtain⟨e,f,m⟩:=g d;have D:j<e.length:=by rw[m];exact(tQ.1 p).1
    exact ih i j e r _ f' f d (tO D) p<|F i j e _ f<|tO D
 |trans x y z _ _ J I=>exact λh=>I<|J h
theorem ARep.le {X:Nat->Prop}{β:Nat->Option Nat}{x y:AV}(h:AV.Le x y){v:Value}(b:ARep w X β x v):ARep w X β y v:=by
 cases h with
 |refl=>exact b
 |fz x y h=>cases b with|fz _ _ b=>exact .fz y v<|b.le h
 |any=>exact .any v<|WRep.oneCell<|.a _ _ b
theorem WRep.le {X:Nat->Prop}{β:Nat->Option Nat}{x y:WV}(h:WV.Le x y){v:Value}(b:WRep w X β x v):WRep w X β y v:=by
 cases h with
 |refl=>exact b
 |a x y h=>cases b with|a _ _ b=>exact .a y v<|b.le h
theorem TRep.le {X:Nat->Prop}{β:Nat->Option Nat}{x y:TV}(h:TV.Le x y){v:Value}(g:TRep w X β x v):TRep w X β y v:=by
 cases h with
 |refl=>exact g
 |any=>trivial
 |c x y h=>exact WRep.le h g
 |agg xs ys f h=>
  obtain⟨r,m,b⟩:=g;refine⟨r,m,by rw[<-f];exact b.1,λj c u F p=>?_⟩;have d:j<xs.length:=by rw[f];exact(tQ.1 F).1
  exact WRep.le (h j _ c (tO d) F)<|b.2 j _ u (tO d) p
 |tup xs ys f h=>
  obtain⟨r,m,b⟩:=g;refine⟨r,m,by rw[<-f];exact b.1,λj q u D p=>?_⟩;have d:j<xs.length:=by rw[f];exact(tQ.1 D).1
  obtain⟨z,o,H⟩:=h j _ q (tO d) D;obtain⟨vs,J,E,I⟩:=b.2 j _ u (tO d) p;refine⟨vs,by rw[<-z];exact J,⟨by rw[<-o];exact E.1,λi y w A G=>?_⟩,λe=>by rw[<-o];exact I<|by rw[z];exact e⟩;have C:i<(xs[j]).2.length:=by rw[o];exact(tQ.1 A).1
  exact WRep.le (H i _ y (tO C) A)<|E.2 i _ w (tO C) G
end
section
variable {P:Program} {h:Nat->AObj} {β:Nat->Option Nat} {Y:Nat->Prop} {w:World}
theorem uG {α:Type}{l:List (Nat×α)}{i:Nat}{x:α}(h:y4 l i=some x):(i,x)∈l:=by
 induction l with
 |nil=>simp[y4] at h
 |cons p l ih=>obtain⟨j,y⟩:=p;simp only[y4] at h;grind
theorem fz_of_w {X:Nat->Prop}{f:FV}{u:Value}(h:WRep w X β (cell f) u):FRep w X f u:=by cases h with|a _ _ h=>cases h with|fz _ _ h=>exact h
theorem cj (I:Objs h β Y w) {Z:Nat->Prop} (X:∀b,¬XO Y h β b->¬Z b) {o n d g m:Nat} {y:List (List FV)} (N:flat (h o)=.arr m (y.map fzs)) (K:n=m) (M:d+g<=y.length) (G:∀b,β o=some b->¬Z b)
  {v:Value} (T:ARep w (XO Y h β) β (.osl o n d g) v):FRep w Z (.sl false n<|(y.drop d).take g) v:=by
 have W:∀x v,FRep w (XO Y h β) x v->FRep w Z x v:=λx v F=>F.mono (tJ _) λb V _=>⟨rfl,X b V⟩;cases T with
 |oslN=>simpa using FRep.slnil n
 |osl _ _ _ _ b q cap sz t E h2 h3 h4 h5=>
  have H:isLive (h o):=by rw[<-w9,N];trivial
  obtain⟨L,tt,O,g2,U,S⟩:=uW I N E;have C:g=((y.drop d).take g).length:=zd;have r:∀i e,((y.drop d).take g)[i]?=some e->y[d+i]?=some e/\i<g:=by grind
  have p:∀i e,((y.drop d).take g)[i]?=some e->∀j f,e[j]?=some f->∃u,L[(d+i)*n+j]?=some u/\FRep w Z f u:=by intro i e z j f D;obtain⟨u,J,F⟩:=S (d+i) j (fzs e) (cell f) zd (by rw[fzs,tV,D];rfl);rw[K];exact⟨u,J,W _ _<|fz_of_w F⟩
  refine .sl false n _ b q cap g (λi j=>L.getD ((d+i)*n+j) undef) C za (G b E) (I.lt o b E) (λi e z=>?_) (λi j e f z D=>?_) λi j e f z D=>?_
  .have:=U (fzs e)<|Aq (by rw[tV,(r i e z).1];rfl:(y.map fzs)[d+i]?=some (fzs e));rw[K];simpa[fzs] using this
  .obtain⟨u,J,_⟩:=p i e z j f D;have hi:=(r i e z).2;simp only[World.cell?,O,Ew,En,tX,A6,List.getD];grind
  .grind
theorem o6 (I:Objs h β Y w) {L:Lent} (H:L.ok h) {Z:Nat->Prop} (E:∀b,¬XO Y h β b->¬Z b) (D:∀p∈L,∀b,β p.1=some b->¬Z b)
  {x:AV} {v:Value} (M:ARep w (XO Y h β) β x v):ARep w Z β (x.lend L) v:=by
 have K:∀x v,FRep w (XO Y h β) x v->FRep w Z x v:=λx v F=>F.mono (tJ _) λb A _=>⟨rfl,E b A⟩;cases M with
 |fz x v F=>exact .fz x v<|K x v F
 |ep o n i j b A=>exact .ep o n i j b A
 |mp o b A=>exact .mp o b A
 |any v J=>exact .any v J
 |bld t o b v m y u=>exact .bld t o b v m y u
 |osb o e g b cap m y u C=>exact .osb o e g b cap m y u C
 |oslN o n f=>
  simp only[AV.lend];split
  .rename_i p r;split;next z=>have d:=uG r;exact .fz _ _<|cj I E (H _ d) z.1 z.2 (D _ d)<|.oslN o n f
   .exact .oslN o n f
  .exact .oslN o n f
 |osl o n f g b q cap sz t m y u C G=>
  simp only[AV.lend];split
  .rename_i p r;split;next z=>have d:=uG r;exact .fz _ _<|cj I E (H _ d) z.1 z.2 (D _ d)<|.osl o n f g b q cap sz t m y u C G
   .exact .osl o n f g b q cap sz t m y u C G
  .exact .osl o n f g b q cap sz t m y u C G
theorem uJ (F:Objs h β Y w) {L:Lent} (G:L.ok h) {Z:Nat->Prop} (y:∀b,¬XO Y h β b->¬Z b) (C:∀p∈L,∀b,β p.1=some b->¬Z b)
  {x:TV} {v:Value} (D:TRep w (XO Y h β) β x v):TRep w Z β (x.lend L) v:=by
 have H:∀x v,FRep w (XO Y h β) x v->FRep w Z x v:=λx v e=>e.mono (tJ _) λb m _=>⟨rfl,y b m⟩;have r:∀x v,ARep w (XO Y h β) β x v->ARep w Z β x v:=λx v e=>e.mono (tJ _) (λb m _=>⟨rfl,y b m⟩) (λ_ _=>rfl) λo b m=>⟨m,F.lt o b m⟩;have E:∀x v,WRep w (XO Y h β) β x v->WRep w Z β (x.lend L) v:=by
  intro x v e;cases e with
  |a x v e=>exact .a _ v<|o6 F G y C e
  |fn f first cap i vs g j=>exact .fn f first cap i vs (g.imp λ_ _ _ h=>h.imp λc u _ h=>r c u h) (j.imp λ_ _ _ h=>h.imp λc u _ h=>r c u h)
 have A:∀x v,WRep w (XO Y h β) β x v->WRep w Z β x v:=by
  intro x v e;cases e with
  |a x v e=>exact .a _ v<|r _ _ e
  |fn f first cap i vs g j=>exact .fn f first cap i vs (g.imp λ_ _ _ h=>h.imp λc u _ h=>r c u h) (j.imp λ_ _ _ h=>h.imp λc u _ h=>r c u h)
 cases x with
 |any=>trivial
 |c x=>exact E x v D
 |agg cs=>obtain⟨i,g,j⟩:=D;exact⟨i,g,j.map λc u _ h=>E c u h⟩
 |tup vs=>obtain⟨i,g,j⟩:=D;exact⟨i,g,j.imp λc u _ h=>h.imp λd z _ h=>A d z h⟩
theorem WI {Z:Nat->Prop}{b:Nat->Option Nat}:∀ {xs ys:List TV} {d:List Value},All2 TV.Le xs ys->LRep (TRep w Z b) xs d->LRep (TRep w Z b) ys d
 |[],[],d,_,h=>h
 |x::xs,y::ys,d,e,f=>by obtain⟨u,i,rfl,j,g⟩:=f.cons_inv;exact .cons (TRep.le e.1 j)<|WI e.2 g
 |[],_::_,_,h,_=>h.elim
 |_::_,[],_,h,_=>h.elim
theorem Yg {σ:Nat->Nat}:∀ {b:List Nat} {Hs:List AObj} {o:Nat} {x:AObj},b.Nodup->y4 (yC σ b Hs) o=some x->∃(k:Nat) (y:AObj),b[k]?=some o/\Hs[k]?=some y/\x=y.ren σ
 |[],Hs,o,x,_,h=>by simp[yC,y4] at h
 |i::b,[],o,x,_,h=>by simp[yC,y4] at h
 |i::b,y::Hs,o,x,d,h=>by
  simp only[yC,y4] at h;split at h
  .rename_i e;injection h with h
   exact⟨0,y,by simp[e],rfl,h.symm⟩
  .obtain⟨k,z,f,j,g⟩:=Yg (E1.1 d).2 h;exact⟨k+1,z,f,j,g⟩
theorem qr {σ:Nat->Nat}:∀ {b:List Nat} {Hs:List AObj} {k i:Nat} {y:AObj},b.Nodup->b[k]?=some i->Hs[k]?=some y->y4 (yC σ b Hs) i=some (y.ren σ)
 |[],_,k,i,y,_,h,_=>zd
 |_::_,[],k,i,y,_,_,h=>zd
 |j::b,x::Hs,k,i,y,g,d,f=>by
  have g:=E1.1 g;cases k with
  |zero=>simp at d f;subst d;subst f;simp[yC,y4]
  |succ k=>simp at d f;have m:j≠i:=λe=>g.1 zd;simp only[yC,y4,m,A6];exact qr g.2 d f
theorem jg {σ:Nat->Nat}:∀ {b:List Nat} {Hs:List AObj} {o:Nat},b.length<=Hs.length->y4 (yC σ b Hs) o=none->o ∉ b
 |[],Hs,o,_,_=>zb
 |i::b,[],o,d,_=>zd
 |i::b,y::Hs,o,d,h=>by
  simp only[yC,y4] at h;split at h
  .cases h
  .rename_i e;intro f;rcases A1.1 f with h1|h1
   .omega
   .exact jg zd h h1
theorem KH {σ:Nat->Nat}:∀ {Hs:List AObj} {fr o:Nat} {x:AObj},y4 (xO σ fr Hs) o=some x->∃(j:Nat) (y:AObj),o=fr+j/\Hs[j]?=some y/\x=y.ren σ
 |[],fr,o,x,h=>by simp[xO,y4] at h
 |y::Hs,fr,o,x,h=>by
  simp only[xO,y4] at h;split at h
  .simp_all
  .obtain⟨j,z,e,b,d⟩:=KH h;exact⟨j+1,z,za,b,d⟩
theorem jk {σ:Nat->Nat}:∀ {Hs:List AObj} {fr o j:Nat},y4 (xO σ fr Hs) o=none->o=fr+j->Hs.length<=j
 |[],fr,o,j,_,_=>zb
 |y::Hs,fr,o,j,h,e=>by
  simp only[xO,y4] at h;split at h
  .cases h
  .cases j with
   |zero=>omega
   |succ j=>have:=jk (j:=j) h za;simp;omega
theorem kq {α:Type}(a b:List<|Nat×α)(o:Nat):y4 (a++b) o=match y4 a o with|some x=>some x|none=>y4 b o:=by
 induction a with
 |nil=>rfl
 |cons p a ih=>obtain⟨j,x⟩:=p;simp only[AE,y4];grind
theorem d6 {X1 X2:Nat->Prop}{w':World}{x:FV}{v:Value}(d:x.scalar=true)(h:FRep w X1 x v):FRep w' X2 x v:=by
 cases h with
 |int k n=>exact .int k n
 |bool b=>exact .bool b
 |str l=>exact .str l
 |cst v h=>exact .cst v h
 |N=>exact .N
 |slnil=>simp[FV.scalar] at d
 |sl0=>simp[FV.scalar] at d
 |z0 e a=>exact .z0 e a
 |z0n=>exact .z0n
 |sl=>simp[FV.scalar] at d
 |pt=>simp[FV.scalar] at d
 |mp=>simp[FV.scalar] at d
theorem dN {X1 X2:Nat->Prop}{p β2:Nat->Option Nat}{σ:Nat->Nat}{x:TV}{v:Value}(A:x.scalar=true)(g:∀o,p o=none)(h:TRep w X1 p x v):TRep w X2 β2 (x.ren σ) v:=by
 have F:∀c u,WV.scalar c=true->WRep w X1 p c u->WRep w X2 β2 (c.ren σ) u:=by
  intro c u m y;cases y with
  |a x v y=>
   simp only[WV.scalar] at m;cases y with
   |fz x v y=>exact .a _ _<|.fz _ _<|d6 m y
   |ep o n i j b f=>rw[g] at f;cases f
   |osl o n r G b q cap sz t f=>rw[g] at f;cases f
   |oslN o n r=>exact .a _ _<|.oslN _ n r
   |mp o b f=>rw[g] at f;cases f
   |any v H=>exact .a _ _<|.any _ H
   |bld t o b v f=>rw[g] at f;cases f
   |osb o e G b cap f=>rw[g] at f;cases f
  |fn=>simp[WV.scalar] at m
 cases x with
 |any=>trivial
 |c x=>exact F x v A h
 |agg cs=>simp only[TV.scalar,A7] at A;obtain⟨D,C,E⟩:=h;exact⟨D,C,E.map λc u m h=>F c u (A c m) h⟩
 |tup vs=>simp only[TV.scalar,A7] at A;obtain⟨D,C,E⟩:=h;exact⟨D,C,E.map λc u m h=>h.map λd z hd h=>F d z (A c m d hd) h⟩
theorem qE:∀ {l:List Nat} {i j x:Nat},l.Nodup->l[i]?=some x->l[j]?=some x->i=j
 |[],i,j,x,_,h,_=>zd
 |y::l,0,0,x,_,_,_=>rfl
 |y::l,0,j+1,x,e,b,d=>zd
 |y::l,i+1,0,x,e,b,d=>zd
 |y::l,i+1,j+1,x,e,b,d=>by simp at b d;rw[qE (E1.1 e).2 b d]
theorem Xo {x:AObj}{σ:Nat->Nat}:bareO (x.ren σ)↔bareO x:=by
 cases x with
 |gone=>exact Iff.rfl
 |mapo es=>simp[bareO,flat,AObj.ren]
 |mapz es=>exact Iff.rfl
 |arz n b=>exact Iff.rfl
 |arr n es=>simp[bareO,flat,AObj.ren]
theorem Zn {F:List Nat}:∀(u:AHeap) (o:Nat),y4 (u.filter λp=> !F.contains p.1) o=if F.contains o=true then none else y4 u o
 |[],o=>by simp[y4]
 |(k,x)::u,o=>by
  have ih:=Zn (F:=F) u o;rw[List.filter_cons];by_cases d:F.contains k=true
  .rw[tD zd,ih];by_cases b:F.contains o=true
   .grind
   .rw[tD b,tD b];have:k≠o:=λe=>b zd;simp[y4,this]
  .rw[tG zd];simp only[y4,ih];grind
theorem kept_nil (u:AHeap):(u.filter λp=> !([]:List Nat).contains p.1)=u:=S5.2 λ_ _=>rfl
theorem iI {F:List Nat}{u:AHeap}{h:Nat->AObj}(b:∀i∈F,y4 u i=some (h i)):over (u.filter λp=> !F.contains p.1) h=over u h:=by funext o;unfold over;rw[Zn];grind
theorem nk (hO:Objs h β Y w) (hgl:Gl P w<|Own h β) (hY:∀b,Y b->b<w.heap.size) {fr:Nat} (hfr:∀j,j<32->β (fr+j)=none) {f:FuncId} {args:List TV} {vals:List Value} {K:TV->AHeap->List Nat->Prop}
  (hl:LRep (TRep w (XO Y h β) β) args vals) (hK:CallK P f args h fr K):
  xF P f=true/\∃r upd rd,K r upd rd/\Calls P f vals.toArray w λe w'=> ∃v z,e=.returned v/\Moves h (over upd h) β z Y w w' (λo=>fr<=o/\o<fr+32)/\TRep w' (XO Y (over upd h) z) z r v:=by
 obtain⟨d,L,args',Hs,r,Hs',⟨hent,hlen,hac⟩,⟨hnd,hids⟩,hroom,⟨hHs,hHlt⟩,hargs,halt,E,G,F,hF,hKK⟩:=hK;refine⟨hent,r.ren<|sub d fr,_,d++L.map Prod.fst,hKK,?_⟩;rw[iI (u:=yC (sub d fr) d Hs'++xO (sub d fr) fr (Hs'.drop d.length)) λi hi=>by rw[kq,hF i hi]];clear hKK hF F;have hml:Hs.length=d.length:=by have:=congrArg List.length hHs;exact zp this
 let O:Nat->Option Nat:=λo=>if o<d.length then β (d.getD o 0) else none
 let hc:Nat->AObj:=λo=>Hs.getD o .gone;let Yc:Nat->Prop:=λb=>XO Y h β b/\¬Own hc O b/\¬∃p∈L,β p.1=some b;have hlt_nd:∀i∈d,∀j,i≠fr+j\/32<=j:=by grind
 have hget:∀k,k<d.length->d[k]?=some (d.getD k 0):=λk I=>by simp[List.getD,tO I]
 have g:∀k,k<d.length->d.getD k 0∈d:=λk I=>Aq<|hget k I;have hHs_get:∀k,k<d.length->(hc k).ren (sub d fr)=h (d.getD k 0)/\(hc k).lt d.length=true:=by intro k I;have e1:=congrArg (λl=>l[k]?) hHs;grind
 have hc_live:∀o,isLive (hc o)->o<d.length:=by
  intro o S;by_cases I:o<Hs.length
  .omega
  .have:hc o=.gone:=by simp[hc,List.getD,EW<|Nat.le_of_not_lt I]
   rw[this] at S;exact S.elim
 have ren_live:∀(x:AObj) (σ:Nat->Nat),isLive (x.ren σ)↔isLive x:=by intro x σ;cases x<;>simp[AObj.ren,isLive]
 have M:∀o b,O o=some b->o<d.length/\β (d.getD o 0)=some b:=by grind
 have X:∀b,Own hc O b->Own h β b:=by rintro b ⟨o,ho1,N⟩;obtain⟨k1,k2⟩:=M o b N;exact⟨_,E _<|g o k1,k2⟩
 have hX:∀b,¬XO Y h β b->¬XO Yc hc O b:=by grind
 have hLc:∀p∈L,∀b,β p.1=some b->¬XO Yc hc O b:=by
  intro p hp b m V;rcases V with V|⟨o,ho1,N⟩
  .grind
  .grind
 have hYin:∀b,Y b->Yc b:=by
  intro b m;refine⟨.inl m,λhown=>?_,λ⟨p,hp,hpb⟩=>?_⟩
  .obtain⟨o,ho1,N⟩:=X b hown;exact(hO.here ho1 N).2 m
  .rcases G with H|⟨hok,hni,_⟩
   .grind
   .exact(hO.here (by rw[<-w9,hok p hp];trivial) hpb).2 m
 have hYc_lt:∀b,Yc b->b<w.heap.size:=by
  intro b m;rcases m.1 with h1|⟨o,_,T⟩
  .grind
  .exact hO.lt o b T
 have hF:∀x v,FRep w (XO Y h β) x v->FRep w (XO Yc hc O) x v:=λx v hr=>hr.mono (tJ _) λb m _=>⟨rfl,hX b m⟩;have Z:∀o,o<d.length->sub d fr o=d.getD o 0:=λo S=>by simp[sub,S]
 have hβun:∀o b,o<d.length->β (sub d fr o)=some b->O o=some b:=by intro o b S m;rw[Z o S] at m;simp only[O,S,tZ,m]
 have hOc:Objs hc O Yc w:=by
  refine⟨λo b S m=>?_,λo S=>?_,λo o' b S ho' m V=>?_,λo b m=>hO.lt _ b (M o b m).2⟩
  .have I:=hc_live o S;obtain⟨e1,e2⟩:=hHs_get o I;have hrep:=hO.rep (d.getD o 0) b (E _<|g o I) (M o b m).2;rw[<-e1] at hrep;exact ORep.unmap (σ:=sub d fr) hF hβun e2 hrep
  .have I:=hc_live o S;rcases hO.has _ (E _<|g o I) with⟨b,h1,T,h3⟩|⟨h1,T⟩
   .refine .inl ⟨b,by simp only[O,I,tZ,h1],T,λhy=>?_⟩;exact hy.2.1 ⟨o,S,by simp only[O,I,tZ,h1]⟩
   .refine .inr ⟨?_,by simp only[O,I,tZ,T]⟩;rw[<-(hHs_get o I).1] at h1;exact Xo.1 h1
  .have h1:=M o b m;have T:=M o' b V;have h3:=hO.inj _ _ b (E _<|g o h1.1) (E _<|g o' T.1) h1.2 T.2;have U:=hget o h1.1;have J:=hget o' T.1;rw[h3] at U;exact qE hnd U J
 have hlc:LRep (TRep w (XO Yc hc O) O) args' vals:=by
  have h1:LRep (TRep w (XO Yc hc O) β) (args.map<|TV.lend L) vals:=by
   rcases G with H|⟨hok,_⟩
   .subst H;exact hl.map λc u _ hr=>uJ hO (λp hp=>by cases hp) hX (λp hp=>by cases hp) hr
   .exact hl.map λc u _ hr=>uJ hO hok hX hLc hr
  have T:=WI hargs h1;refine T.unmap λc u hcm hr=>?_;exact TRep.unmap (σ:=sub d fr) (λ_ _ h=>h) hβun (A7.1 halt c hcm) hr
 have hcall:=hac w vals O Yc (λo b m=>by have:=(M o b m).1;omega) hYc_lt (hgl.sub X) hOc hlc;refine hcall.mono λe w' hpost=>?_;obtain⟨v,W,he,C,hO',hres,hdom,hsame,hnew⟩:=hpost;let hc':Nat->AObj:=λo=>Hs'.getD o .gone;let D:=yC (sub d fr) d Hs'++xO (sub d fr) fr (Hs'.drop d.length);let z:Nat->Option Nat:=λo=>if fr<=o/\o<fr+32 then W (d.length+(o-fr)) else β o
 refine⟨v,z,he,?_⟩;have hβ'old:∀k,k<d.length->z (d.getD k 0)=W k:=by
  intro k I;have h1:¬(fr<=d.getD k 0/\d.getD k 0<fr+32):=by rintro ⟨U,J⟩;rcases hlt_nd _ (g k I) (d.getD k 0-fr) with h|h<;>omega
  simp only[z,h1,A6];rw[hsame k za];simp only[O,I,tZ]
 have hβ'new:∀j,j<32->z (fr+j)=W (d.length+j):=by intro j hj;simp only[z,show fr<=fr+j/\fr+j<fr+32 from⟨za,za⟩,and_self,tZ,(za:fr+j-fr=j)]
 have hβmap:∀o b,W o=some b->z (sub d fr o)=some b:=by
  intro o b m;have S:=hdom o b m;by_cases I:o<d.length
  .rw[Z o I,hβ'old o I,m]
  .have:sub d fr o=fr+(o-d.length):=by simp[sub,I]
   rw[this,hβ'new _ za,(za:d.length+(o-d.length)=o),m]
 have hval:∀o,(∃k,k<d.length/\o=d.getD k 0/\over D h o=(hc' k).ren (sub d fr))\/(∃j,o=fr+j/\d.length+j<Hs'.length/\over D h o=(hc'<|d.length+j).ren (sub d fr))\/
   (o ∉ d/\(∀j,o=fr+j->Hs'.length<=d.length+j)/\over D h o=h o):=by
  intro o;simp only[over,D,kq];cases h1:y4 (yC (sub d fr) d Hs') o with
  |some x=>
   obtain⟨k,y,U,J,g3⟩:=Yg hnd h1;have I:=(tQ.1 U).1;refine .inl ⟨k,I,?_,?_⟩
   .have:=hget k I;rw[U] at this;exact zp this
   .simp only[g3];have:hc' k=y:=by simp[hc',List.getD,J]
    rw[this]
  |none=>
   have hno:=jg (by omega:d.length<=Hs'.length) h1;simp only;cases T:y4 (xO (sub d fr) fr<|Hs'.drop d.length) o with
   |some x=>
    obtain⟨j,y,U,J,g3⟩:=KH T;rw[E2] at J;refine .inr<|.inl ⟨j,U,(tQ.1 J).1,?_⟩;simp only[g3];have:hc' (d.length+j)=y:=by simp[hc',List.getD,J]
    rw[this]
   |none=>refine .inr<|.inr ⟨hno,λj ej=>?_,rfl⟩;have:=jk T ej;rw[List.length_drop] at this;omega
 have hclive':∀k,isLive (hc' k)->k<Hs'.length:=by
  intro k I;by_cases h1:k<Hs'.length
  .exact h1
  .have:hc' k=.gone:=by simp[hc',List.getD,EW<|Nat.le_of_not_lt h1]
   rw[this] at I;exact I.elim
 have hwho:∀o,isLive (over D h o)->(∃k,isLive (hc' k)/\o=sub d fr k/\over D h o=(hc' k).ren (sub d fr)/\k<Hs'.length/\z o=W k)\/(o ∉ d/\isLive (h o)/\over D h o=h o/\z o=β o):=by
  intro o S;rcases hval o with⟨k,I,e1,e2⟩|⟨j,e1,hj,e2⟩|⟨hni,hnj,e2⟩
  .rw[e2,ren_live] at S;exact .inl ⟨k,S,by rw[Z k I];exact e1,e2,hclive' k S,by rw[e1,hβ'old k I]⟩
  .rw[e2,ren_live] at S;refine .inl ⟨d.length+j,S,?_,e2,hj,?_⟩
   .have:¬(d.length+j<d.length):=za;simp[sub,this,e1]
   .rw[e1,hβ'new j za]
  .rw[e2] at S;refine .inr ⟨hni,S,e2,?_⟩;by_cases h1:fr<=o/\o<fr+32
   .have T:=hfr (o-fr) za;rw[(za:fr+(o-fr)=o)] at T;simp only[z,h1,and_self,tZ,T];cases h3:W (d.length+(o-fr)) with
    |none=>rfl
    |some b=>
     have:=hdom _ b h3;have:=hnj (o-fr) za;omega
   .simp only[z,h1,A6]
 have hsubinj:∀a b,a<Hs'.length->b<Hs'.length->W a≠none->sub d fr a=sub d fr b->a=b:=by
  intro a b ha m _ hab;by_cases h1:a<d.length
  .by_cases T:b<d.length
   .rw[Z a h1,Z b T] at hab;have U:=hget a h1;have J:=hget b T;rw[hab] at U;exact qE hnd U J
   .rw[Z a h1] at hab;have:sub d fr b=fr+(b-d.length):=by simp[sub,T]
    rw[this] at hab;rcases hlt_nd _ (g a h1) (b-d.length) with h|h
    .exact absurd hab h
    .omega
  .have ea:sub d fr a=fr+(a-d.length):=by simp[sub,h1]
   by_cases T:b<d.length
   .rw[Z b T,ea] at hab;rcases hlt_nd _ (g b T) (a-d.length) with h|h
    .exact absurd hab.symm h
    .omega
   .have eb:sub d fr b=fr+(b-d.length):=by simp[sub,T]
    rw[ea,eb] at hab;omega
 have hback:∀b,b<w.heap.size->Own (over D h) z b->XO Y h β b:=by
  rintro b m ⟨o,ho1,N⟩;rcases hwho o ho1 with⟨k,U,J,g3,g4,g5⟩|⟨U,J,g3,g4⟩
  .rw[g5] at N;by_cases I:k<d.length
   .rw[hsame k za] at N;obtain⟨_,k2⟩:=M k b N;exact .inr ⟨_,E _<|g k I,k2⟩
   .rcases hnew k b za N with h1|h1
    .omega
    .exact .inr<|X b h1
  .rw[g4] at N;exact .inr ⟨o,J,N⟩
 have hbmono:∀o b,β o=some b->z o=some b:=by
  intro o b m;have h1:¬(fr<=o/\o<fr+32):=by rintro ⟨U,J⟩;have:=hfr (o-fr) za;rw[(za:fr+(o-fr)=o),m] at this;cases this
  simp only[z,h1,A6,m]
 have hblk:∀b,¬XO Y h β b->b<w.heap.size->w'.heap[b]?=w.heap[b]? :=λb hx m=>C.blk b m λS=>hx<|.inr<|X b S;have hgo:Goes w w' (XO Y h β) (XO Y (over D h) z) β z:=by
  refine⟨C.size,λb hx m=>⟨hblk b hx m,λhx'=>?_⟩,C.shp,λo b m=>⟨hbmono o b m,hO.lt o b m⟩⟩;rcases hx' with hy|hown
  .exact hx<|.inl hy
  .exact hx<|hback b m hown
 have hFback:L=[]->∀x v,FRep w' (XO Yc hc' W) x v->FRep w' (XO Y (over D h) z) x v:=by
  intro H x v hr;refine hr.mono (tJ _) λb m _=>⟨rfl,λhx'=>m ?_⟩;rcases hx' with hy|⟨o,ho1,N⟩
  .exact .inl<|hYin b hy
  .rcases hwho o ho1 with⟨k,U,J,g3,g4,g5⟩|⟨U,J,g3,g4⟩
   .rw[g5] at N;exact .inr ⟨k,U,N⟩
   .rw[g4] at N;refine .inl ⟨.inr ⟨o,J,N⟩,?_,?_⟩
    .rintro ⟨k,k1,k2⟩;obtain⟨m1,m2⟩:=M k b k2;have:=hO.inj o _ b J (E _<|g k m1) N m2;exact U (this▸g k m1)
    .rintro ⟨p,hp,_⟩;rw[H] at hp;cases hp
 have hnoHs:L≠[]->Hs'=[]:=λhne=>(G.resolve_left hne).2.2.2;refine⟨⟨⟨C.size,λb m hno=>C.blk b m λS=>hno<|X b S,C.shp,C.os,C.tape,C.output⟩,?_,hbmono,λo b m=>?_,λo S=>?_⟩,?_⟩
 .refine⟨λo b S m=>?_,λo S=>?_,λo o' b S ho' m V=>?_,λo b m=>?_⟩
  .rcases hwho o S with⟨k,U,J,g3,g4,g5⟩|⟨U,J,g3,g4⟩
   .have H:L=[]:=by
     rcases G with h|h
     .exact h
     .rw[h.2.2.2] at g4;simp at g4
    rw[g5] at m;show ORep w' (XO Y (over D h) z) z (over D h o) b;rw[g3];exact ORep.map (hFback H) hβmap<|hO'.rep k b U m
   .rw[g4] at m;show ORep w' (XO Y (over D h) z) z (over D h o) b;rw[g3];refine(hO.rep o b J m).goes hgo<|C.blk b (hO.lt o b m) ?_;rintro ⟨k,k1,k2⟩;obtain⟨m1,m2⟩:=M k b k2;have:=hO.inj o _ b J (E _<|g k m1) m m2;exact U (this▸g k m1)
  .rcases hwho o S with⟨k,U,J,g3,g4,g5⟩|⟨U,J,g3,g4⟩
   .rcases hO'.has k U with⟨b,h1,T,h3⟩|⟨h1,T⟩
    .exact .inl ⟨b,by rw[g5];exact h1,T,λhy=>h3<|hYin b hy⟩
    .exact .inr ⟨by show bareO (over D h o);rw[g3];exact Xo.2 h1,by rw[g5];exact T⟩
   .rcases hO.has o J with⟨b,h1,T,h3⟩|⟨h1,T⟩
    .exact .inl ⟨b,by rw[g4];exact h1,AK T C.size,h3⟩
    .exact .inr ⟨by show bareO (over D h o);rw[g3];exact h1,by rw[g4];exact T⟩
  .rcases hwho o S with⟨k,U,J,g3,g4,g5⟩|⟨U,J,g3,g4⟩
   .rcases hwho o' ho' with⟨k',g1',g2',g3',g4',g5'⟩|⟨g1',g2',g3',g4'⟩
    .rw[g5] at m;rw[g5'] at V;rw[J,g2',hO'.inj k k' b U g1' m V]
    .exfalso;rw[g5] at m;rw[g4'] at V;have H:L=[]:=by
      rcases G with h|h
      .exact h
      .rw[h.2.2.2] at g4;simp at g4
     have h3:=(hO'.here U m).2;apply h3;refine⟨.inr ⟨o',g2',V⟩,?_,?_⟩
     .rintro ⟨k2,k1',k2'⟩;obtain⟨m1,m2⟩:=M k2 b k2';have:=hO.inj o' _ b g2' (E _<|g k2 m1) V m2;exact g1' (this▸g k2 m1)
     .rintro ⟨p,hp,_⟩;rw[H] at hp;cases hp
   .rcases hwho o' ho' with⟨k',g1',g2',g3',g4',g5'⟩|⟨g1',g2',g3',g4'⟩
    .exfalso;rw[g5'] at V;rw[g4] at m;have H:L=[]:=by
      rcases G with h|h
      .exact h
      .rw[h.2.2.2] at g4';simp at g4'
     have h3:=(hO'.here g1' V).2;apply h3;refine⟨.inr ⟨o,J,m⟩,?_,?_⟩
     .rintro ⟨k2,k1',k2'⟩;obtain⟨m1,m2⟩:=M k2 b k2';have:=hO.inj o _ b J (E _<|g k2 m1) m m2;exact U (this▸g k2 m1)
     .rintro ⟨p,hp,_⟩;rw[H] at hp;cases hp
    .rw[g4] at m;rw[g4'] at V;exact hO.inj o o' b J g2' m V
  .simp only[z] at m;split at m
   .exact hO'.lt _ b m
   .exact AK (hO.lt o b m) C.size
 .simp only[z] at m;split at m
  .rename_i hin;rcases hnew _ b za m with h1|h1
   .exact .inr ⟨hin,.inl h1⟩
   .exact .inr ⟨hin,.inr<|X b h1⟩
  .exact .inl m
 .rcases hwho o S with⟨k,U,J,g3,g4,g5⟩|⟨U,J,g3,g4⟩
  .by_cases I:k<d.length
   .rw[J,Z k I];exact .inl<|E _<|g k I
   .have:sub d fr k=fr+(k-d.length):=by simp[sub,I]
    rw[J,this];exact .inr ⟨za,za⟩
  .exact .inl J
 .rcases G with H|⟨_,_,hsc,hHs'⟩
  .exact TRep.map (hFback H) hβmap hres
  .refine dN hsc (λo=>?_) hres;cases m:W o with
   |none=>rfl
   |some b=>have:=hdom o b m;rw[hHs'] at this;simp at this
end
section
variable {P:Program} {h:Nat->AObj} {β:Nat->Option Nat} {Y:Nat->Prop} {w:World}
theorem vm (x:AObj):flat (flat x)=flat x:=by cases x<;>rfl
theorem KD {X:Nat->Prop}{x y:AObj}{b:Nat}(d:flat x=flat y):ORep w X β x b↔ORep w X β y b:=by unfold ORep;rw[d]
theorem wJ {x y:AObj}(b:flat x=flat y):isLive x↔isLive y:=by rw[<-w9 x,b,w9]
theorem Y7 {h':Nat->AObj}(f:∀o,flat (h' o)=flat (h o)):Own h' β=Own h β:=by
 funext b;apply propext;constructor
 .rintro ⟨o,d,e⟩;exact⟨o,(wJ<|f o).1 d,e⟩
 .rintro ⟨o,d,e⟩;exact⟨o,(wJ<|f o).2 d,e⟩
theorem YH {h':Nat->AObj}(b:∀o,flat (h' o)=flat (h o)):XO Y h' β=XO Y h β:=by unfold XO;rw[Y7 b]
theorem qC {h':Nat->AObj}(d:∀o,flat (h' o)=flat (h o))(f:Objs h β Y w):Objs h' β Y w:=by refine⟨λo b e i=>?_,λo e=>(f.has o<|(wJ<|d o).1 e).imp id λ⟨⟨n,m⟩,j⟩=>⟨⟨n,zd⟩,j⟩,λo o' b e g=>f.inj o o' b ((wJ<|d o).1 e)<|(wJ<|d o').1 g,f.lt⟩;have:=f.rep o b ((wJ<|d o).1 e) i;rw[Y7 d];exact(KD<|d o).2 this
theorem Wl {g e h':Nat->AObj}{f:Nat->Option Nat}{w':World}{fr:Nat->Prop}(d:∀o,flat (g o)=flat (h o))(i:∀o,flat (e o)=flat (h' o))(m:Moves g e β f Y w w' fr):Moves h h' β f Y w w' fr:=by
 refine⟨?_,qC (λo=>(i o).symm) m.objs,m.bmono,?_,λo j=>(m.lmono o<|(wJ<|i o).2 j).imp (λx=>(wJ<|d o).1 x) id⟩
 .have:=m.good;rw[Y7 d] at this;exact this
 .intro o b p;have:=m.bnew o b p;rwa [Y7 d] at this
theorem vn {fr:Nat}{r r0:AR}{s:Sem Next}(j:r.val=r0.val)(d:∀o,flat (over r.upd h o)=flat (over r0.upd (λo=>flat<|h o) o))(hd:Does P (λo=>flat<|h o) β Y w fr r0 s):Does P h β Y w fr r s:=by obtain⟨n,v,w',b,e,f,g,i⟩:=hd;refine⟨n,v,w',b,e,f,Wl (λo=>vm _) (λo=>(d o).symm) g,?_⟩;rw[j,YH d];exact i
theorem Wo:∀ {es:List (List WV)} {b:List (List FV)},nM es=some b->es=b.map fzs
 |[],b,h=>by simp only[nM,tL] at h;subst h;rfl
 |e::r,b,h=>by
  simp only[nM] at h;split at h
  .rename_i x l d f;injection h with h;subst h
   rw[k9 d,Wo f];rfl
  .cases h
theorem yM (u:AHeap)(o:Nat):flat (over u (λo=>flat<|h o) o)=flat (over u h o):=by
 unfold over;split
 .rfl
 .exact vm _
theorem yP {k:Nat}{x y:AObj}{u b:AHeap}(e:flat x=flat y)(o:Nat)(d:flat (over u h o)=flat (over b (λo=>flat<|h o) o)):flat (over ((k,x)::u) h o)=flat (over ((k,y)::b) (λo=>flat<|h o) o):=by simp only[over,y4] at d ⊢;grind
theorem dx {d:TyD}{x y:TV}{r:AR}(b:ut d h x y=some r):∃r0,vS d (λo=>flat<|h o) x y=some r0/\r.val=r0.val/\∀o,flat (over r.upd h o)=flat (over r0.upd (λo=>flat<|h o) o):=by
 unfold ut at b;split at b
 .rename_i cs o n i j p;split at b
  .rename_i m v I;split at b
   .rename_i f g;split at b
    .rename_i G;obtain⟨E,w⟩:=G;subst E;split at b
     .rename_i e D;split at b<;>simp only[tL,reduceCtorEq] at b;subst b;have H:=k9 g;have C:(fzs f).length=f.length:=by simp[fzs]
      have A:(fzs e).length=e.length:=by simp[fzs]
      refine⟨⟨.any,[(o,.arr m<|(v.map fzs).set i<|splice (fzs e) j<|fzs f)],[o]⟩,?_,rfl,λk=>yP ?_ k (yM [] k).symm⟩
      .unfold vS;simp only[p,I,flat,C,w,and_self,tZ,tV,D,tW,A];grind
      .simp only[flat,S8];simp[u7,splice,fzs]
     .cases b
    .cases b
   .cases b
  .rename_i u;have z:vS d (λo=>flat<|h o) (.c<|.a<|.ep o n i j) y=vS d h (.c<|.a<|.ep o n i j) y:=by
    unfold vS;rw[p];dsimp only;cases F:h o with
    |arz m v=>exact absurd F<|u m v
    |_=>rfl
   refine⟨r,?_,rfl,λk=>(yM r.upd k).symm⟩;grind
 .cases b
theorem d5 {n:Nat}{x:TV}{d:List (List FV)}{rd:List Nat}(b:uC n h x=some (d,rd)):w4 n (λo=>flat<|h o) x=some (d.map fzs,rd):=by
 unfold uC at b;split at b
 .simp only[tL,Am] at b;obtain⟨rfl,rfl⟩:=b;rfl
 .split at b;next f=>obtain⟨rfl,rfl⟩:=b;simp[w4,f]
  .cases b
 .simp only[tL,Am] at b;obtain⟨rfl,rfl⟩:=b;rfl
 .split at b
  .rename_i i es e;split at b;next g=>obtain⟨rfl,rfl⟩:=b;simp[w4,e,flat,g,List.map_take,List.map_drop]
   .cases b
  .cases b
 .cases b
theorem Kd {d:TyD}{fr:Nat}{s x:TV}{r:AR}(b:wo d fr h s x=some r):∃r0,xC d fr (λo=>flat<|h o) s x=some r0/\r.val=r0.val/\∀o,flat (over r.upd h o)=flat (over r0.upd (λo=>flat<|h o) o):=by
 unfold wo at b;split at b
 .rename_i e rd p;have f:=d5 p;split at b
  .split at b
   .rename_i j;injection b with b;subst b;subst j
    refine⟨⟨.c<|.a<|.fz .N,[],rd⟩,by unfold xC;rw[f];simp,rfl,λo=>(yM [] o).symm⟩
   .rename_i j;split at b
    .rename_i g;injection b with b;subst b
     refine⟨⟨.c<|.a<|.osl fr d.size 0 e.length,[(fr,.arr d.size<|e.map fzs)],rd⟩,?_,rfl,λo=>yP (by rfl) o (yM [] o).symm⟩;unfold xC;simp_all
    .cases b
  .split at b
   .rename_i j;injection b with b;subst b;subst j
    refine⟨⟨_,[],rd⟩,by unfold xC;rw[f];simp,rfl,λo=>(yM [] o).symm⟩
   .rename_i j;split at b
    .rename_i g;injection b with b;subst b
     refine⟨⟨.c<|.a<|.osl fr d.size 0 e.length,[(fr,.arr d.size<|e.map fzs)],rd⟩,?_,rfl,λo=>yP (by rfl) o (yM [] o).symm⟩;unfold xC;simp_all
    .cases b
  .rename_i o n v i;split at b
   .rename_i m w u;split at b
    .rename_i y;injection b with b;subst b
     refine⟨⟨.c<|.a<|.osl fr d.size 0<|i+e.length,[(o,.gone),(fr,.arr d.size<|(w.map fzs).take i++e.map fzs)],o::rd⟩,?_,rfl,λk=>yP (by rfl) k<|yP ?_ k (yM [] k).symm⟩
     .unfold xC;rw[f];simp only[u,flat,Ax];grind
     .simp[flat,List.map_take]
    .cases b
   .exact⟨r,b,rfl,λk=>(yM r.upd k).symm⟩
  .cases b
 .exact⟨r,b,rfl,λk=>(yM r.upd k).symm⟩
theorem wX (b:Objs h β Y w):∀(G:AHeap),(∀p∈G,p.2=.gone)->Moves h (over G h) β β Y w w (λ_=>False)
 |[],_=>Moves.refl b λ_=>rfl
 |(o,x)::G,e=>by
  have j:x=.gone:=e (o,x) zb;have d:=wX b G λp g=>e p<|tK _ g;have i:=Z0 d.objs o;have m:=d.trans i (λ_ h=>h.elim) b (f:=λ_=>False) (λ_ h=>h.elim) λ_ h=>h.elim;have:over ((o,.gone)::G) h=upd (over G h) o .gone:=by funext k;simp only[over,y4,upd];grind
  grind
theorem Kn:∀ {G:AHeap} {o:Nat},(∀p∈G,p.2=.gone)->(o,AObj.gone)∈G->over G h o=.gone:=by
 intro G o e d;simp only[over];cases b:y4 G o with
 |some x=>exact e _<|uG b
 |none=>
  exfalso
  induction G with
  |nil=>cases d
  |cons p G ih=>obtain⟨k,y⟩:=p;simp only[y4] at b;grind
theorem Ws (x:WV):∀p∈(qa h x).2,p.2=AObj.gone:=by intro p b;unfold qa at b;grind
theorem Yq:∀(l:List WV),∀p∈(vd h l).2,p.2=AObj.gone
 |[],p,hp=>by cases hp
 |x::r,p,hp=>by
  simp only[vd,A0] at hp;rcases hp with hp|hp
  .exact Ws x p hp
  .exact Yq r p hp
theorem lF (x:TV):∀p∈(ZF h x).2,p.2=AObj.gone:=by
 intro p b;cases x with
 |c x=>exact Ws x p b
 |agg cs=>exact Yq cs p b
 |any=>cases b
 |tup _=>cases b
theorem qT:∀(l:List<|Nat×TV),∀p∈(ve h l).2,p.2=AObj.gone
 |[],p,hp=>by cases hp
 |(i,x)::r,p,hp=>by
  simp only[ve,A0] at hp;rcases hp with hp|hp
  .exact lF x p hp
  .exact qT r p hp
theorem sI (C:Objs h β Y w){G:AHeap}(O:∀p∈G,p.2=AObj.gone){x:TV}(i:∀p∈(ZF h x).2,p∈G){v:Value}(I:TRep w (XO Y h β) β x v):TRep w (XO Y (over G h) β) β (ZF h x).1 v:=by
 have m:=wX C G O;have d:=m.goes C λ_ h=>h.elim;have U:∀b,¬XO Y h β b->¬XO Y (over G h) β b:=by
  intro b F g;rcases g with g|⟨o,e,r⟩
  .grind
  .rcases m.lmono o e with h3|h3
   .exact F<|.inr ⟨o,h3,r⟩
   .exact h3
 have N:∀c u,(∀p∈(qa h c).2,p∈G)->WRep w (XO Y h β) β c u->WRep w (XO Y (over G h) β) β (qa h c).1 u:=by
  intro c u j z;unfold qa at j ⊢;split
  .rename_i o n M K;split
   .rename_i S V E;simp only[E] at j;by_cases D:n=S/\M+K<=V.length
    .rw[tG D] at j ⊢;cases z with
     |a _ _ z=>
      refine .a _ _<|.fz _ _<|cj C U (by rw[E];rfl) D.1 D.2 (λb F g=>?_) z;rcases g with T|⟨o',e,r⟩
      .exact(C.here (by rw[E];trivial) F).2 T
      .have A:=(m.lmono o' e).resolve_right id;have:o'=o:=C.inj o' o b A (by rw[E];trivial) r F;subst this;rw[Kn O<|j (o',.gone) zb] at e;exact e
    .rw[tD D];exact z.goes d
   .exact z.goes d
  .exact z.goes d
 have L:∀(l:List WV) (y:List Value),(∀p∈(vd h l).2,p∈G)->LRep (WRep w (XO Y h β) β) l y->LRep (WRep w (XO Y (over G h) β) β) (vd h l).1 y:=by
  intro l
  induction l with
  |nil=>intro y _ A;rw[A.nil_inv];exact .nil
  |cons c l ih=>intro y j A;obtain⟨u,J,rfl,e,r⟩:=A.cons_inv;exact .cons (N c u (λp H=>j p<|by simp[vd,H]) e)<|ih J (λp H=>j p<|by simp[vd,H]) r
 cases x with
 |any=>trivial
 |c x=>exact N x v i I
 |agg cs=>obtain⟨y,e,r⟩:=I;exact⟨y,e,L cs y i r⟩
 |tup vs=>exact TRep.goes (f:=.tup vs) I d
theorem Yw (g:Objs h β Y w){G:AHeap}(e:∀p∈G,p.2=AObj.gone):∀(l:List<|Nat×TV) (vals:List<|Nat×Value),(∀p∈(ve h l).2,p∈G)->(∀(j:Nat) (p:Nat×TV) (v:Nat×Value),l[j]?=some p->vals[j]?=some v->p.1=v.1/\TRep w (XO Y h β) β p.2 v.2)->(ve h l).1.length=l.length/\∀(j:Nat) (p:Nat×TV) (v:Nat×Value),(ve h l).1[j]?=some p->vals[j]?=some v->p.1=v.1/\TRep w (XO Y (over G h) β) β p.2 v.2
 |[],vals,_,_=>⟨rfl,λj p v b _=>by simp[ve] at b⟩
 |(i,x)::l,vals,d,m=>by
  obtain⟨o,y⟩:=Yw g e l (vals.drop 1) (λp b=>d p<|by simp[ve,b]) (λj p v b f=>m (j+1) p v zd zd);refine⟨by simp[ve,o],λj p v b f=>?_⟩;cases j with
  |zero=>simp only[ve,AI,tL] at b;subst b;obtain⟨r,u⟩:=m 0 _ v rfl f;exact⟨r,sI g e (λp b=>d p<|by simp[ve,b]) u⟩
  |succ j=>simp only[ve,EB] at b;grind
theorem Wk {fr:Nat}{G:AHeap}{r:AR}{s:Sem Next}{rd:List Nat}(d:Objs h β Y w)(y:∀p∈G,p.2=AObj.gone)(hd:Does P (over G h) β Y w fr r s)(u:AHeap)(e:∀o,flat (over u h o)=flat (over r.upd (over G h) o)):Does P h β Y w fr ⟨r.val,u,rd⟩ s:=by obtain⟨n,v,w',b,g,i,j,x⟩:=hd;have m:=(wX d G y).trans j (λ_ h=>h.elim) d (f:=λk=>k=fr) (λ_ h=>h.elim) λ_ h=>h;refine⟨n,v,w',b,g,i,Wl (λ_=>rfl) (λo=>(e o).symm) m,?_⟩;rw[YH e];exact x
theorem qF (r:AR):∀o,flat (over (xh r).upd h o)=flat (over r.upd h o):=by
 intro o;unfold xh;split
 .rename_i k n es d;split
  .rename_i f b;rw[d,Wo b];simp only[over,y4];by_cases e:k=o
   .simp only[e,tZ];rfl
   .grind
  .rfl
 .rfl
theorem qw (r:AR):(xh r).val=r.val:=by unfold xh;grind
theorem Xi {h:Nat->AObj}{x:TV}{o:Nat}{es:List MapZ}(b:vw h x=some (o,es)):j9 (λo=>flat<|h o) x=some (o,es.map thaw):=by
 unfold vw at b;split at b
 .split at b<;>simp only[tL,reduceCtorEq,Am] at b;rename_i e d;obtain⟨rfl,rfl⟩:=b;simp only[j9,d,flat]
 .cases b
theorem lI {h:Nat->AObj}{x:TV}{d:List Nat×List MapZ}(b:qL h x=some d):mapL (λo=>flat<|h o) x=some (d.1,d.2.map thaw):=by
 unfold qL at b;split at b
 .injection b with b;subst b;rfl
 .rename_i f;obtain⟨p,e,rfl⟩:=tH.1 b;unfold mapL;split
  .exact(f _ rfl).elim
  .rw[Xi (o:=p.1) (es:=p.2) e];rfl
theorem gI {m:(Bool×List EK)×(Bool×List WV)}{h:Nat->AObj}{x key:TV}{ok:Bool}{r:AR}(d:wv m h x key ok=some r):wY m (λo=>flat<|h o) x key ok=some r:=by
 unfold wv at d;split at d
 .rename_i z g;obtain⟨o,es⟩:=z;have y:=lI g;unfold wY;split at d
  .rename_i k A;simp only[y];unfold XH at d;split at d
   .rename_i l b;obtain⟨v,p,rfl⟩:=tH.1 d;split at b<;>simp only[tL,reduceCtorEq] at b;rename_i i j;split at b
    .rename_i e w;split at b<;>simp only[tL,reduceCtorEq] at b;rename_i u;subst b;have f:(es.map thaw)[i]?=some (thaw e):=by rw[tV,w];rfl
     simp only[j,nT,f];have:(thaw e).2=(m.2.1,fzs e.2.2):=by rw[<-u];rfl
     rw[this,p];rfl
    .cases b
   .rename_i b;obtain⟨v,p,rfl⟩:=tH.1 d;split at b
    .split at b
     .split at b<;>simp at b
     .cases b
    next j=>simp only[j,nT,p,tW]
    .cases b
   .cases d
  .cases d
 .exact d
theorem Yo {m:(Bool×List EK)×(Bool×List WV)}{h:Nat->AObj}{x key y:TV}{r:AR}(e:yS m h x key y=some r):
  ∃r0,yG m (λo=>flat<|h o) x key y=some r0/\r.val=r0.val/\∀k,flat (over r.upd h k)=flat (over r0.upd (λo=>flat<|h o) k):=by
 unfold yS at e;split at e
 .rename_i C p;obtain⟨o,es⟩:=C;have D:=Xi p;split at e
  .rename_i k b A u;split at e
   .rename_i fr v;obtain⟨f,d,rfl⟩:=tH.1 e;unfold updZ at d;have z:(b.1,fzs fr)=b:=by rw[<-k9 v]
    have w:∀q,vi m.1 k (es.map thaw) 0=some q->f.map thaw=updE m k b (es.map thaw) q->∃r0,yG m (λo=>flat<|h o) x key y=some r0/\(TV.any)=r0.val/\∀k,flat (over [(o,.mapz f)] h k)=flat (over r0.upd (λo=>flat<|h o) k):=by
     intro q g E;refine⟨⟨.any,[(o,.mapo<|updE m k b (es.map thaw) q)],[o]⟩,?_,rfl,λj=>?_⟩
     .simp only[yG,A,u,D,g]
     .simp only[xv,upd];split
      .show AObj.mapo (f.map thaw)=_;rw[E];rfl
      .exact(vm _).symm
    split at d<;>simp only[tL,reduceCtorEq] at d;next i g=>subst d;exact w _ g (by rw[S8,show thaw ((m.1.1,k),(b.1,fr))=((m.1.1,k),b) by show((m.1.1,k),(b.1,fzs fr))=_;rw[z]];rfl)
    next g=>subst d;exact w _ g (by rw[E4,Aw,show thaw ((m.1.1,k),(b.1,fr))=((m.1.1,k),b) by show((m.1.1,k),(b.1,fzs fr))=_;rw[z]];rfl)
   .cases e
  .cases e
 .refine⟨r,e,rfl,λk=>?_⟩;exact(yM r.upd k).symm
theorem jD (a b:AHeap)(o:Nat):over (a++b) h o=over a (over b h) o:=by simp only[over,kq];grind
theorem rq (I:Objs h β Y w)(H:∀b,Y b->b<w.heap.size){fr:Nat}(z:β fr=none){o:Oper}{ρ:Operand->TV}{ev:Operand->Value}{r:AR}(M:∀x,TRep w (XO Y h β) β (ρ x)<|ev x)(j:aopF P o fr ρ h=some r):
  Does P h β Y w fr r (execOp ev o):=by
 have A:Objs (λo=>flat<|h o) β Y w:=qC (λo=>vm _) I;have hXf:XO Y (λo=>flat<|h o) β=XO Y h β:=YH λo=>vm _;have f:∀x,TRep w (XO Y (λo=>flat<|h o) β) β (ρ x) (ev x):=λx=>zd
 have T:∀ {r:AR},aop P o fr ρ (λo=>flat<|h o)=some r->Does P h β Y w fr r (execOp ev o):=λ{r} j=>
  vn rfl (λk=>(yM r.upd k).symm) (u6 A H z f j)
 obtain⟨d,op,t,p,K,g⟩:=o;unfold aopF at j;dsimp only at j;split at j;next W x y=>obtain⟨S,hd,hs⟩:=zN j;obtain⟨r0,V,O,N⟩:=dx hs;have:=u6 (P:=P) (o:=⟨d,.store W x y,t,p,K,g⟩) A H z f (r:=r0) (by simp only[aop,yy,hd];exact V);exact vn O N this
 .rename_i b args ts;unfold xL at j;split at j
  .rename_i t1 t2 s x L F;split at j
   .rename_i htt;obtain⟨S,e,G,hd,J,D,E⟩:=yb j;unfold Y3 at E;split at E
    .rename_i hc;obtain⟨r0,V,O,N⟩:=Kd E;have h0:aop P ⟨d,.call ⟨.builtin .append,args,ts⟩,t,p,K,g⟩ fr ρ (λo=>flat<|h o)=some r0:=by simp only[aop,F,L,xU];unfold yj;rw[hd];dsimp only;rw[J];dsimp only;rw[D];unfold jq;grind
     exact vn O N<|u6 A H z f h0
    .cases E
   .rename_i htt;obtain⟨S,e,G,hd,J,D,E⟩:=yb j;obtain⟨r0,hr0,rfl⟩:=tH.1 E;have h0:aop P ⟨d,.call ⟨.builtin .append,args,ts⟩,t,p,K,g⟩ fr ρ (λo=>flat<|h o)=some r0:=by simp only[aop,F,L,xU];unfold yj;grind
    have e1:(xh r0).val=r0.val:=qw r0;refine vn (r0:=r0) e1 (λk=>?_)<|u6 A H z f h0;rw[qF];exact(yM r0.upd k).symm
  .exact T j
 .rename_i W len parts;obtain⟨X,hr1,rfl⟩:=tH.1 j;obtain⟨S,e,G,hd,J,D,U⟩:=yb hr1;have C:=qT (h:=h)<|parts.toList.map λp=>(p.1,ρ p.2);have u:=Yw I C (parts.toList.map λp=>(p.1,ρ p.2)) ((parts.map λ(i,x)=>(i,ev x)).toList) (λ_ h=>h)<|qc (w:=w) (β:=β) M parts;have m:=wX I _ C;have hd':=ur m.objs H z (parts:=(ve h<|parts.toList.map λp=>(p.1,ρ p.2)).1) (vals:=parts.map λ(i,x)=>(i,ev x)) zd u.2 hd J D U;refine Wk (r:=⟨(xh X).val,X.upd,X.rd⟩) I C ?_ _ λo=>?_
  .rw[qw];exact hd'
  .rw[jD];exact qF X o
 .rename_i bt parts;obtain⟨v,hv,rfl⟩:=tH.1 j;obtain⟨S,hd,U⟩:=zN hv;have C:=qT (h:=h)<|parts.toList.map λp=>(p.1,ρ p.2);have u:=Yw I C (parts.toList.map λp=>(p.1,ρ p.2)) ((parts.map λ(i,x)=>(i,ev x)).toList) (λ_ h=>h)<|qc (w:=w) (β:=β) M parts;have m:=wX I _ C;refine Wk (r:=⟨v,[],[]⟩) I C (w3 m.objs ?_) _ (λo=>by simp[over_nil]);exact We hd zd u.2 U
 .rename_i W l c;obtain⟨S,e,G,hd,J,D,U⟩:=yb j;obtain⟨q,hq,rfl⟩:=tH.1 U;have:=u6 (P:=P) (o:=⟨d,.makeSlice W l c,t,p,K,g⟩) A H z f (r:=⟨.c<|.a<|.osl fr G.size 0 q.1,[(fr,.arr G.size<|List.replicate q.1<|fzs q.2)],[]⟩) (by simp only[aop];unfold yj;rw[hd];dsimp only;rw[J];dsimp only;rw[D];dsimp only;rw[hq];rfl);refine vn (r0:=⟨.c<|.a<|.osl fr G.size 0 q.1,[(fr,.arr G.size<|List.replicate q.1<|fzs q.2)],[]⟩) rfl (λk=>yP ?_ k (yM [] k).symm) this;show AObj.arr G.size ((List.replicate q.1 q.2).map fzs)=AObj.arr G.size (List.replicate q.1<|fzs q.2);simp_all
 next lt x ix ok=>obtain⟨m,hm,Z⟩:=yA j;exact T (by simp only[aop,xA,hm];exact gI Z)
 next mt x k v=>obtain⟨m,hm,Z⟩:=yA j;obtain⟨r0,V,O,N⟩:=Yo Z;have:=u6 (P:=P) (o:=⟨d,.mapUpdate mt x k v,t,p,K,g⟩) A H z f (r:=r0) (by simp only[aop,xA,hm];exact V);exact vn O N this
 .rename_i mt;injection j with j;subst j
  have:=u6 (P:=P) (o:=⟨d,.makeMap mt none,t,p,K,g⟩) A H z f (r:=⟨.c<|.a<|.mp fr,[(fr,.mapo [])],[]⟩) rfl;exact vn (r0:=⟨.c<|.a<|.mp fr,[(fr,.mapo [])],[]⟩) rfl (λk=>yP (x:=.mapz []) (y:=.mapo []) rfl k (yM [] k).symm) this
 .grind
theorem pu (D:Objs h β Y w) (H:Gl P w<|Own h β) (U:∀b,Y b->b<w.heap.size) {fr:Nat} (L:∀j,j<32->β (fr+j)=none) {f:FuncId} {args:List TV} {vals:List Value} {K:TV->AHeap->List Nat->Prop}
  (G:LRep (TRep w (XO Y h β) β) args vals) (S:CallE P f args h fr K):
  xF P f=true/\∃r upd rd,K r upd rd/\Calls P f vals.toArray w λe w'=> ∃v d,e=.returned v/\Moves h (over upd h) β d Y w w' (λo=>fr<=o/\o<fr+32)/\TRep w' (XO Y (over upd h) d) d r v:=by
 obtain⟨E,N,Z⟩:=S;have O:∀p∈E.map λp=>(p.1,AObj.gone),p.2=AObj.gone:=by grind
 have m:=wX D _ O;have X:∀b,¬XO Y h β b->¬XO Y (over (E.map λp=>(p.1,AObj.gone)) h) β b:=by
  intro b F i;rcases i with i|⟨o,g,y⟩
  .grind
  .rcases m.lmono o g with h3|h3
   .exact F<|.inr ⟨o,h3,y⟩
   .exact h3
 have I:∀p∈E,∀b,β p.1=some b->¬XO Y (over (E.map λp=>(p.1,AObj.gone)) h) β b:=by
  intro p M b F i;have C:isLive (h p.1):=by rw[<-w9,N p M];trivial
  rcases i with V|⟨o',g,y⟩
  .exact(D.here C F).2 V
  .have G:=(m.lmono o' g).resolve_right id;have:o'=p.1:=D.inj o' p.1 b G C y F;subst this;rw[Kn O<|Ay.2 ⟨p,M,rfl⟩] at g;exact g
 have J:LRep (TRep w (XO Y (over (E.map λp=>(p.1,AObj.gone)) h) β) β) (args.map<|TV.lend E) vals:=G.map λc u _ W=>uJ D N X I W;obtain⟨z,r,u,rd,T,x⟩:=nk m.objs (H.sub λb ⟨o,g,y⟩=>⟨o,(m.lmono o g).resolve_right id,y⟩) U L J Z;refine⟨z,r,_,_,T,x.mono λe w' ⟨v,d,g,y,h3⟩=>⟨v,d,g,?_,?_⟩⟩
 .have m2:=m.trans y (λ_ h=>h.elim) D (f:=λo=>fr<=o/\o<fr+32) (λ_ h=>h.elim) λ_ h=>h;have:over (u++E.map λp=>(p.1,AObj.gone)) h=over u (over (E.map λp=>(p.1,AObj.gone)) h):=funext λo=>jD _ _ o;grind
 .have:over (u++E.map λp=>(p.1,AObj.gone)) h=over u (over (E.map λp=>(p.1,AObj.gone)) h):=funext λo=>jD _ _ o;grind
end
def WSoft (x y:WV):Prop:=x=y\/(x=.a (.fz .N)/\∃o n off,y=.a (.osl o n off 0))
def ESoft (a b:List WV):Prop:=a.length=b.length/\∀(j:Nat) (x y:WV),a[j]?=some x->b[j]?=some y->WSoft x y
theorem WSoft.rep {w:World}{X:Nat->Prop}{β:Nat->Option Nat}{x y:WV}{v:Value}(h:WSoft x y)(d:WRep w X β x v):WRep w X β y v:=by
 rcases h with rfl|⟨rfl,o,n,b,rfl⟩
 .exact d
 .rw[TRep.nils_inv (X:=X) (β:=β) d];exact .a _ _<|.oslN o n b
theorem ESoft.refl (a:List WV):ESoft a a:=⟨rfl,λj x y d b=>by rw[d] at b;injection b with b;exact .inl b⟩
theorem ESoft.trans {a b c:List WV}(h:ESoft a b)(k:ESoft b c):ESoft a c:=by
 refine⟨h.1.trans k.1,λj x z m i=>?_⟩;have r:j<b.length:=by rw[<-h.1];exact(tQ.1 m).1
 have g:=tO r;rcases h.2 j x _ m g with e|⟨e,o,n,f,p⟩
 .rw[e];exact k.2 j _ z g i
 .rcases k.2 j _ z g i with d|⟨d,_⟩
  .exact .inr ⟨e,o,n,f,by rw[<-d,p]⟩
  .rw[p] at d;cases d
theorem ESoft.set {cs:List WV}{j o n:Nat}(h:cs.getD j (cell<|.bool true)=.a (.fz .N)):ESoft cs (cs.set j<|.a<|.osl o n 0 0):=by
 refine⟨zb,λi x y d b=>?_⟩;rw[Eb] at b;split at b
 .rename_i e;subst e;split at b
  .injection b with b
   simp only[List.getD,d,AU] at h;exact .inr ⟨h,o,n,0,b.symm⟩
  .cases b
 .rw[d] at b;injection b with b;exact .inl b
theorem uU:∀(l:List<|Nat×Nat) (fr:Nat) (cs:List WV),ESoft cs (Yp l fr cs)
 |[],fr,cs=>.refl cs
 |(j,n)::l,fr,cs=>by
  unfold Yp;split;next h=>exact(ESoft.set h).trans<|uU l _ _
  .exact uU l _ _
theorem YT:∀ {l:List (Nat×Nat)} {fr:Nat} {p:Nat×AObj},p∈fP l fr->bareO p.2/\fr<=p.1/\p.1<fr+l.length
 |(j,n)::l,fr,p,h=>by
  rcases A1.1 h with rfl|h
  .exact⟨⟨n,rfl⟩,tJ _,zb⟩
  .have:=YT h;exact⟨this.1,za,zj⟩
 |[],_,_,h=>by cases h
section
variable {P:Program} {h h':Nat->AObj} {β:Nat->Option Nat} {Y:Nat->Prop} {w:World}
def ObjSoft (a b:AObj):Prop:=a=b\/∃n es es',a=.arr n es/\b=.arr n es'/\es.length=es'.length/\∀(i:Nat) (e e':List WV),es[i]?=some e->es'[i]?=some e'->ESoft e e'
theorem ObjSoft.rep {X:Nat->Prop}{a b:AObj}{k:Nat}(G:ObjSoft a b)(o:ORep w X β a k):ORep w X β b k:=by
 rcases G with rfl|⟨n,es,r,rfl,rfl,E,F⟩
 .exact o
 .obtain⟨z,t,y,A,H,C⟩:=o;have f:∀ {i:Nat} {g:List WV},r[i]?=some g->∃e,es[i]?=some e/\ESoft e g:=by
   intro i g d;have p:i<es.length:=by have:=(tQ.1 d).1;omega
   exact⟨es[i],tO p,F i _ _ (tO p) d⟩
  refine⟨z,t,y,by rw[<-E];exact A,λg d=>?_,λi j g I d h=>?_⟩
  .obtain⟨i,p⟩:=E6 d;obtain⟨e,v,m⟩:=f p;rw[<-m.1];exact H e<|Aq v
  .obtain⟨e,v,m⟩:=f d;have x:j<e.length:=by rw[m.1];exact(tQ.1 h).1
   obtain⟨u,D,o⟩:=C i j e _ v<|tO x;exact⟨u,D,(m.2 j _ _ (tO x) h).rep o⟩
theorem ObjSoft.live {a b:AObj}(d:ObjSoft a b):isLive a↔isLive b:=by rcases d with rfl|⟨n,es,e,rfl,rfl,_⟩<;>exact Iff.rfl
theorem ObjSoft.bare {a b:AObj}(g:ObjSoft a b)(f:bareO a):bareO b:=by
 rcases g with rfl|⟨n,es,d,rfl,rfl,h,_⟩
 .exact f
 .obtain⟨m,e⟩:=f;simp only[flat,AObj.arr.injEq] at e;have:d=[]:=tS (by rw[<-h,e.2];rfl);exact⟨n,by rw[this];rfl⟩
theorem lP (f:Objs h β Y w){F:Nat->Prop}(A:∀o,isLive (h' o)->(isLive (h o)/\ObjSoft (h o) (h' o))\/(bareO (h' o)/\β o=none/\F o)):Moves h h' β β Y w w F:=by
 have m:∀k b,isLive (h' k)->β k=some b->isLive (h k)/\ObjSoft (h k) (h' k):=λk b p d=>(A k p).resolve_right λe=>by rw[e.2.1] at d;cases d
 have I:Goes w w (XO Y h β) (XO Y h' β) β β:=by
  refine⟨tJ _,λb E p=>⟨rfl,λy=>?_⟩,λ_ _=>rfl,λo b d=>⟨d,f.lt o b d⟩⟩;rcases y with J|⟨o',v,g⟩
  .exact E<|.inl J
  .exact E<|.inr ⟨o',(m o' _ v g).1,g⟩
 refine⟨Good.refl _ _,⟨λo b z d=>?_,λo z=>?_,λo1 G b D x i j=>f.inj o1 G b (m o1 _ D i).1 (m G _ x j).1 i j,f.lt⟩,λ_ _ h=>h,λ_ _ h=>.inl h,λk p=>(A k p).elim (λh=>.inl h.1) λh=>.inr h.2.2⟩
 .have:=m o b z d;exact this.2.rep<|(f.rep o b this.1 d).goes I rfl
 .rcases A o z with⟨r,u⟩|⟨r,u,_⟩
  .rcases f.has o r with C|⟨C,H⟩
   .exact .inl C
   .exact .inr ⟨u.bare C,H⟩
  .exact .inr ⟨r,u⟩
def SoftR (fr:Nat)(r r':AR):Prop:=r'=r\/(∃k X X' ex,r.upd=[(k,X)]/\r'.upd=(k,X')::ex/\ObjSoft X X'/\∀p∈ex,bareO p.2/\fr+1<=p.1/\p.1<fr+32)/\r'.val=r.val
theorem xq {fr:Nat}{r:AR}(l:List<|Nat×Nat):SoftR fr r (yL l fr r):=by
 unfold yL;split
 .rename_i k m cs g f;refine .inr ⟨⟨k,_,_,_,g,rfl,.inr ⟨m,[cs],_,rfl,rfl,rfl,λi e j d b=>?_⟩,λp h=>?_⟩,rfl⟩
  .cases i with
   |zero=>simp at d b;subst d;subst b;exact uU _ _ _
   |succ i=>simp at d
  .have:=YT h;have f:=A9 f;exact⟨this.1,this.2.1,za⟩
 .exact .inl rfl
theorem Wy {e:TypeId}{fr:Nat}{r:AR}:SoftR fr r (pY P e fr r):=by
 unfold pY;split
 .split
  .split
   .split
    .exact .inl rfl
    .exact xq _
   .split
    .exact .inl rfl
    .exact xq _
   .exact xq _
   .exact xq _
   .exact xq _
   .exact .inl rfl
  .split
   .split
    .exact xq _
    .exact .inl rfl
   .exact .inl rfl
  .exact .inl rfl
 .exact .inl rfl
theorem lO {o:Oper}{fr:Nat}{ρ:Operand->TV}{r:AR}:SoftR fr r (Z1 P o fr ρ h r):=by
 unfold Z1;split
 .exact Wy
 .exact Wy
 .unfold qG;split
  .split
   .split
    .split
     .split
      .rename_i d;refine .inr ⟨⟨_,_,_,_,by assumption,rfl,.inr ⟨_,_,_,rfl,rfl,zb,λi e m g b=>?_⟩,λp f=>?_⟩,rfl⟩
       .rw[Eb] at b;split at b
        .rename_i j;subst j;split at b
         .injection b with b
          subst b;simp only[List.getD,g,AU] at d ⊢;exact ESoft.set d
         .cases b
        .rw[g] at b;injection b with b;subst b;exact .refl _
       .simp only[AO] at f;subst f;exact⟨⟨_,rfl⟩,tJ _,za⟩
      .exact .inl rfl
     .exact .inl rfl
    .exact .inl rfl
   .exact .inl rfl
  .exact .inl rfl
 .exact .inl rfl
theorem cZ {e:TypeId}{fr:Nat}{r:AR}:(pY P e fr r).rd=r.rd:=by
 unfold pY;split
 .split
  .split
   .split
    .rfl
    .unfold yL;split<;>rfl
   .split
    .rfl
    .unfold yL;split<;>rfl
   .unfold yL;split<;>rfl
   .unfold yL;split<;>rfl
   .unfold yL;split<;>rfl
   .rfl
  .split
   .split
    .unfold yL;split<;>rfl
    .rfl
   .rfl
  .rfl
 .rfl
theorem softA_rd {o:Oper}{fr:Nat}{ρ:Operand->TV}{r:AR}:(Z1 P o fr ρ h r).rd=r.rd:=by
 unfold Z1;split
 .exact cZ
 .exact cZ
 .unfold qG;split
  .split
   .split
    .split
     .split<;>rfl
     .rfl
    .rfl
   .rfl
  .rfl
 .rfl
theorem lk {o:Oper}{fr:Nat}{ρ:Operand->TV}{r:AR}(d:∀k∈r.rd,h' k=h k):Z1 P o fr ρ h' r=Z1 P o fr ρ h r:=by
 unfold Z1;split
 .rfl
 .rfl
 .unfold qG;split
  .split;next b=>simp only[E8,Ak] at b;rw[d _ b]
   .rfl
  .rfl
 .rfl
theorem fO {o:Oper}{fr:Nat}{ρ b:Operand->TV}{r:AR}(d:∀x∈o.op.operands,b x=ρ x):Z1 P o fr b h r=Z1 P o fr ρ h r:=by
 unfold Z1;split
 .rfl
 .rfl
 next t x y e=>rw[e] at d;rw[d x<|by simp[Op.operands],d y<|by simp[Op.operands]]
 .rfl
theorem nV (J:Objs h β Y w)(U:∀b,Y b->b<w.heap.size){fr:Nat}(i:∀j,j<32->β (fr+j)=none){o:Oper}{ρ:Operand->TV}{ev:Operand->Value}{r:AR}(D:∀x,TRep w (XO Y h β) β (ρ x)<|ev x)(M:aopS P o fr ρ h=some r):
  ∃n v w' d,(execOp ev o).run P w=.ok n w'/\(n=.value v\/(n=.skip/\v=undef))/\Moves h (over r.upd h) β d Y w w' (λk=>fr<=k/\k<fr+32)/\TRep w' (XO Y (over r.upd h) d) d r.val v:=by
 obtain⟨r0,Z,rfl⟩:=tH.1 M;have p:β fr=none:=i 0 za;obtain⟨n,v,w',d,K,G,u,F⟩:=rq J U p D Z;have C:=u.weaken (fr':=λk=>fr<=k/\k<fr+32) (λk g=>⟨za,za⟩);rcases lO (P:=P) (h:=h) (o:=o) (fr:=fr) (ρ:=ρ) (r:=r0) with e|⟨⟨k,X,X',T,N,L,H,V⟩,W⟩
 .rw[e];exact⟨n,v,w',d,K,G,C,F⟩
 .have f:∀j,j<32->0<j->d (fr+j)=none:=by
   intro j O hj0;cases S:d (fr+j) with
   |none=>rfl
   |some b=>
    rcases u.bnew _ b S with z|⟨z,_⟩
    .rw[i j O] at z;cases z
    .omega
  have I:Moves (over r0.upd h) (over (Z1 P o fr ρ h r0).upd h) d d Y w' w' (λk=>fr+1<=k/\k<fr+32):=by
   refine lP u.objs λy m=>?_;rw[N,L];rw[L] at m;simp only[over,y4] at m ⊢;by_cases g:k=y
   .simp only[g,tZ] at m ⊢;exact .inl ⟨H.live.2 m,H⟩
   .simp only[g,A6] at m ⊢;cases E:y4 T y with
    |none=>rw[E] at m;exact .inl ⟨m,.inl rfl⟩
    |some x=>
     have:=V _<|uG E;refine .inr ⟨this.1,?_,this.2⟩;have A:=f (y-fr) za za;rwa [(za:fr+(y-fr)=y)] at A
  refine⟨n,v,w',d,K,G,?_,?_⟩
  .exact u.trans I (λk g=>by rw[g];exact i 0 za) J (λk g=>⟨za,za⟩) (λk g=>⟨za,g.2⟩)
  .rw[W];exact F.goes (I.goes u.objs (λk g=>by have A:=f (k-fr) za za;rwa [(za:fr+(k-fr)=k)] at A))
end
end Go.AM
