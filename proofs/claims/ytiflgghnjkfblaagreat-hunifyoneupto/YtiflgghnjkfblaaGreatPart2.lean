/- Laws, part 2. No conditions. -/
import Derived.Test.YtiflgghnjkfblaaGreatPart1
import Derived.Deep.LoopGhost
import Derived.Scope
import Derived.RangeFuncLeaves
import Derived.RangeFuncRecord
import Derived.OrdersIn
import Derived.TacticsIn
import Derived.LoopN
import Derived.IntWalk
import Derived.ProofKit
import Derived.OpenShut
import Derived.JoinedCond
import Derived.WalkKit
import Derived.RangeFuncIn
set_option linter.all false
open Go.IntKind (wrap)
open List (getD take drop)
namespace Go.AM
def WSoft (x y:WV):Prop:=x=y\/(x=.a (.fz .N)/\∃o n off,y=.a (.osl o n off 0))
def ESoft (a b:List WV):Prop:=a.length=b.length/\∀(j:Nat) (x y:WV),a[j]?=some x->b[j]?=some y->WSoft x y
theorem WSoft.rep {w:World}{X:Nat->Prop}{β:Nat->Option Nat}{x y:WV}{v:Value}(h:WSoft x y)(hr:WRep w X β x v):WRep w X β y v:=by
 rcases h with rfl|⟨rfl,o,n,off,rfl⟩
 .exact hr
 .rw[TRep.nils_inv (X:=X) (β:=β) hr];exact .a _ _<|.oslN o n off
theorem ESoft.refl (a:List WV):ESoft a a:=⟨rfl,λj x y hx hy=>by rw[hx] at hy;injection hy with hy;exact .inl hy⟩
theorem ESoft.trans {a b c:List WV}(h:ESoft a b)(k:ESoft b c):ESoft a c:=by
 refine⟨h.1.trans k.1,λj x z hx hz=>?_⟩;have hj:j<b.length:=by rw[<-h.1];exact(rr.1 hx).1
 have hy:=rf hj;rcases h.2 j x _ hx hy with e1|⟨e1,o,n,off,e2⟩
 .rw[e1];exact k.2 j _ z hy hz
 .rcases k.2 j _ z hy hz with e3|⟨e3,_⟩
  .exact .inr ⟨e1,o,n,off,by rw[<-e3,e2]⟩
  .rw[e2] at e3;cases e3
theorem ESoft.set {cs:List WV}{j o n:Nat}(h:cs.getD j (cell<|.bool true)=.a (.fz .N)):ESoft cs (cs.set j<|.a<|.osl o n 0 0):=by
 refine⟨zb,λi x y hx hy=>?_⟩;rw[sF] at hy;split at hy
 .rename_i e;subst e;split at hy
  .injection hy with hy
   simp only[getD,hx,sN] at h;exact .inr ⟨h,o,n,0,hy.symm⟩
  .cases hy
 .rw[hx] at hy;injection hy with hy;exact .inl hy
theorem kq:∀(l:List<|Nat×Nat) (fr:Nat) (cs:List WV),ESoft cs (ZU l fr cs)
 |[],fr,cs=>.refl cs
 |(j,n)::l,fr,cs=>by
  unfold ZU;split
  next h=>exact(ESoft.set h).trans<|kq l _ _
  .exact kq l _ _
theorem Ye:∀ {l:List (Nat×Nat)} {fr:Nat} {p:Nat×AObj},p∈fH l fr->bareO p.2/\fr<=p.1/\p.1<fr+l.length
 |(j,n)::l,fr,p,h=>by
  rcases rx.1 h with rfl|h
  .exact⟨⟨n,rfl⟩,r6 _,zb⟩
  .have:=Ye h;exact⟨this.1,za,zj⟩
 |[],_,_,h=>by cases h
section
variable {P:Program} {h h':Nat->AObj} {β:Nat->Option Nat} {Y:Nat->Prop} {w:World}
def ObjSoft (a b:AObj):Prop:=a=b\/∃n es es',a=.arr n es/\b=.arr n es'/\es.length=es'.length/\∀(i:Nat) (e e':List WV),es[i]?=some e->es'[i]?=some e'->ESoft e e'
theorem ObjSoft.rep {X:Nat->Prop}{a b:AObj}{k:Nat}(hs:ObjSoft a b)(hr:ORep w X β a k):ORep w X β b k:=by
 rcases hs with rfl|⟨n,es,es',rfl,rfl,hl,he⟩
 .exact hr
 .obtain⟨us,t,h1,h2,h3,h4⟩:=hr
  have back:∀ {i:Nat} {e':List WV},es'[i]?=some e'->∃e,es[i]?=some e/\ESoft e e':=by
   intro i e' he';have hi:i<es.length:=by have:=(rr.1 he').1;omega
   exact⟨es[i],rf hi,he i _ _ (rf hi) he'⟩
  refine⟨us,t,h1,by rw[<-hl];exact h2,λe' he'=>?_,λi j e' c' he' hc'=>?_⟩
  .obtain⟨i,hi⟩:=sP he';obtain⟨e,h5,h6⟩:=back hi;rw[<-h6.1];exact h3 e<|rV h5
  .obtain⟨e,h5,h6⟩:=back he';have hj:j<e.length:=by rw[h6.1];exact(rr.1 hc').1
   obtain⟨u,hu,hr⟩:=h4 i j e _ h5<|rf hj
   exact⟨u,hu,(h6.2 j _ _ (rf hj) hc').rep hr⟩
theorem ObjSoft.live {a b:AObj}(hs:ObjSoft a b):isLive a↔isLive b:=by
 rcases hs with rfl|⟨n,es,es',rfl,rfl,_⟩<;>exact Iff.rfl
theorem ObjSoft.bare {a b:AObj}(hs:ObjSoft a b)(hb:bareO a):bareO b:=by
 rcases hs with rfl|⟨n,es,es',rfl,rfl,hl,_⟩
 .exact hb
 .obtain⟨m,hm⟩:=hb;simp only[flat,AObj.arr.injEq] at hm;have:es'=[]:=rk (by rw[<-hl,hm.2];rfl);exact⟨n,by rw[this];rfl⟩
theorem aS (hO:Objs h β Y w){F:Nat->Prop}(hs:∀o,isLive (h' o)->(isLive (h o)/\ObjSoft (h o) (h' o))\/(bareO (h' o)/\β o=none/\F o)):Moves h h' β β Y w w F:=by
 have hn:∀k b,isLive (h' k)->β k=some b->isLive (h k)/\ObjSoft (h k) (h' k):=λk b hk hb=>(hs k hk).resolve_right λe=>by rw[e.2.1] at hb;cases hb
 have hg:Goes w w (XO Y h β) (XO Y h' β) β β:=by
  refine⟨r6 _,λb hx hk=>⟨rfl,λhx'=>?_⟩,λ_ _=>rfl,λo b hb=>⟨hb,hO.lt o b hb⟩⟩;rcases hx' with hy|⟨o',hl',ho'⟩
  .exact hx<|.inl hy
  .exact hx<|.inr ⟨o',(hn o' _ hl' ho').1,ho'⟩
 refine⟨Good.refl _ _,⟨λo b hl hb=>?_,λo hl=>?_,λo1 o2 b hl1 hl2 hb1 hb2=>hO.inj o1 o2 b (hn o1 _ hl1 hb1).1 (hn o2 _ hl2 hb2).1 hb1 hb2,hO.lt⟩,λ_ _ h=>h,λ_ _ h=>.inl h,λk hk=>(hs k hk).elim (λh=>.inl h.1) λh=>.inr h.2.2⟩
 .have:=hn o b hl hb;exact this.2.rep<|(hO.rep o b this.1 hb).goes hg rfl
 .rcases hs o hl with⟨h1,h2⟩|⟨h1,h2,_⟩
  .rcases hO.has o h1 with h3|⟨h3,h4⟩
   .exact .inl h3
   .exact .inr ⟨h2.bare h3,h4⟩
  .exact .inr ⟨h1,h2⟩
def SoftR (fr:Nat)(r r':AR):Prop:=r'=r\/(∃k X X' ex,r.upd=[(k,X)]/\r'.upd=(k,X')::ex/\ObjSoft X X'/\∀p∈ex,bareO p.2/\fr+1<=p.1/\p.1<fr+32)/\r'.val=r.val
theorem xd {fr:Nat}{r:AR}(l:List<|Nat×Nat):SoftR fr r (yK l fr r):=by
 unfold yK;split
 .rename_i k m cs hu hl;refine .inr ⟨⟨k,_,_,_,hu,rfl,.inr ⟨m,[cs],_,rfl,rfl,rfl,λi e e' he he'=>?_⟩,λp hp=>?_⟩,rfl⟩
  .cases i with
   |zero=>simp at he he';subst he;subst he';exact kq _ _ _
   |succ i=>simp at he
  .have:=Ye hp;have hl:=rR hl;exact⟨this.1,this.2.1,za⟩
 .exact .inl rfl
theorem W1 {e:TypeId}{fr:Nat}{r:AR}:SoftR fr r (pE P e fr r):=by
 unfold pE;split
 .split
  .split
   .split
    .exact .inl rfl
    .exact xd _
   .split
    .exact .inl rfl
    .exact xd _
   .exact xd _
   .exact xd _
   .exact xd _
   .exact .inl rfl
  .split
   .split
    .exact xd _
    .exact .inl rfl
   .exact .inl rfl
  .exact .inl rfl
 .exact .inl rfl
theorem pB {o:Oper}{fr:Nat}{ρ:Operand->TV}{r:AR}:SoftR fr r (Ze P o fr ρ h r):=by
 unfold Ze;split
 .exact W1
 .exact W1
 .unfold jW;split
  .split
   .split
    .split
     .split
      .rename_i hnew;refine .inr ⟨⟨_,_,_,_,by assumption,rfl,.inr ⟨_,_,_,rfl,rfl,zb,λi e e' he he'=>?_⟩,λp hp=>?_⟩,rfl⟩
       .rw[sF] at he';split at he'
        .rename_i e1;subst e1;split at he'
         .injection he' with he'
          subst he';simp only[getD,he,sN] at hnew ⊢;exact ESoft.set hnew
         .cases he'
        .rw[he] at he';injection he' with he';subst he';exact .refl _
       .simp only[rJ] at hp;subst hp;exact⟨⟨_,rfl⟩,r6 _,za⟩
      .exact .inl rfl
     .exact .inl rfl
    .exact .inl rfl
   .exact .inl rfl
  .exact .inl rfl
 .exact .inl rfl
theorem ad {e:TypeId}{fr:Nat}{r:AR}:(pE P e fr r).rd=r.rd:=by
 unfold pE;split
 .split
  .split
   .split
    .rfl
    .unfold yK;split<;>rfl
   .split
    .rfl
    .unfold yK;split<;>rfl
   .unfold yK;split<;>rfl
   .unfold yK;split<;>rfl
   .unfold yK;split<;>rfl
   .rfl
  .split
   .split
    .unfold yK;split<;>rfl
    .rfl
   .rfl
  .rfl
 .rfl
theorem softA_rd {o:Oper}{fr:Nat}{ρ:Operand->TV}{r:AR}:(Ze P o fr ρ h r).rd=r.rd:=by
 unfold Ze;split
 .exact ad
 .exact ad
 .unfold jW;split
  .split
   .split
    .split
     .split<;>rfl
     .rfl
    .rfl
   .rfl
  .rfl
 .rfl
theorem aQ {o:Oper}{fr:Nat}{ρ:Operand->TV}{r:AR}(hh:∀k∈r.rd,h' k=h k):Ze P o fr ρ h' r=Ze P o fr ρ h r:=by
 unfold Ze;split
 .rfl
 .rfl
 .unfold jW;split
  .split
   next hc=>simp only[sS,rL] at hc;rw[hh _ hc]
   .rfl
  .rfl
 .rfl
theorem d9 {o:Oper}{fr:Nat}{ρ ρ':Operand->TV}{r:AR}(hp:∀x∈o.op.operands,ρ' x=ρ x):Ze P o fr ρ' h r=Ze P o fr ρ h r:=by
 unfold Ze;split
 .rfl
 .rfl
 next t x y ho=>rw[ho] at hp;rw[hp x<|by simp[Op.operands],hp y<|by simp[Op.operands]]
 .rfl
theorem mQ (hO:Objs h β Y w)(hY:∀b,Y b->b<w.heap.size){fr:Nat}(hfr:∀j,j<32->β (fr+j)=none){o:Oper}{ρ:Operand->TV}{ev:Operand->Value}{r:AR}(hρ:∀x,TRep w (XO Y h β) β (ρ x)<|ev x)(ha:aopS P o fr ρ h=some r):
  ∃n v w' β',(execOp ev o).run P w=.ok n w'/\(n=.value v\/(n=.skip/\v=undef))/\Moves h (over r.upd h) β β' Y w w' (λk=>fr<=k/\k<fr+32)/\TRep w' (XO Y (over r.upd h) β') β' r.val v:=by
 obtain⟨r0,h0,rfl⟩:=oY.1 ha;have hfr0:β fr=none:=hfr 0 za;obtain⟨n,v,w',β',g1,g2,g3,g4⟩:=nZ hO hY hfr0 hρ h0;have g3':=g3.weaken (fr':=λk=>fr<=k/\k<fr+32) (λk hk=>⟨za,za⟩);rcases pB (P:=P) (h:=h) (o:=o) (fr:=fr) (ρ:=ρ) (r:=r0) with e|⟨⟨k,X,X',ex,e1,e2,e3,e4⟩,e5⟩
 .rw[e];exact⟨n,v,w',β',g1,g2,g3',g4⟩
 .have hnone:∀j,j<32->0<j->β' (fr+j)=none:=by
   intro j hj hj0;cases hb:β' (fr+j) with
   |none=>rfl
   |some b=>
    rcases g3.bnew _ b hb with h1|⟨h1,_⟩
    .rw[hfr j hj] at h1;cases h1
    .omega
  have m2:Moves (over r0.upd h) (over (Ze P o fr ρ h r0).upd h) β' β' Y w' w' (λk=>fr+1<=k/\k<fr+32):=by
   refine aS g3.objs λo2 hl=>?_;rw[e1,e2];rw[e2] at hl;simp only[over,ya] at hl ⊢;by_cases hk:k=o2
   .simp only[hk,rG] at hl ⊢;exact .inl ⟨e3.live.2 hl,e3⟩
   .simp only[hk,rN] at hl ⊢;cases hf:ya ex o2 with
    |none=>rw[hf] at hl;exact .inl ⟨hl,.inl rfl⟩
    |some x=>
     have:=e4 _<|uO hf
     refine .inr ⟨this.1,?_,this.2⟩;have h2:=hnone (o2-fr) za za
     rwa [(za:fr+(o2-fr)=o2)] at h2
  refine⟨n,v,w',β',g1,g2,?_,?_⟩
  .exact g3.trans m2 (λk hk=>by rw[hk];exact hfr 0 za) hO (λk hk=>⟨za,za⟩) (λk hk=>⟨za,hk.2⟩)
  .rw[e5]
   exact g4.goes (m2.goes g3.objs (λk hk=>by
    have h2:=hnone (k-fr) za za
    rwa [(za:fr+(k-fr)=k)] at h2))
end
theorem mH (e:Env)(x:Operand):ev e x=evF (look e) x:=by cases x<;>rfl
structure Dl where
 dst:Option Nat
 val:TV
 upd:AHeap
 rd:List Nat
inductive OpStep (P:Program)(ops:Array Oper)(o:Oper)(fr:Nat)(e:Nat->TV)(h:Nat->AObj):Dl->Prop
 |skip:want ops o e=some false->OpStep P ops o fr e h ⟨o.dst,.tup [],[],[]⟩
 |plain (r:AR):want ops o e=some true->goCall o.op=none->aopS P o fr (evF e) h=some r->OpStep P ops o fr e h ⟨o.dst,r.val,r.upd,r.rd⟩
 |call (c:Call) (f:FuncId) (args:List TV) (r:TV) (upd:AHeap) (rd:List Nat):want ops o e=some true->goCall o.op=some c->calleeOf (evF e) c=some (f,args)->
   CallE P f args h fr (λr' u' d'=>r'=r/\u'=upd/\d'=rd)->OpStep P ops o fr e h ⟨o.dst,r,upd,rd⟩
def putF (d:Option Nat)(v:TV)(e:Nat->TV):Nat->TV:=match d with|some i=>AM.upd e i v|none=>e
theorem YL (d:Option Nat)(v:TV)(e:Env):look (putE d v e)=putF d v (look e):=by
 funext k
 cases d with
 |none=>rfl
 |some i=>
  simp only[putE,look,putF,AM.upd];by_cases h:i=k
  .simp[h]
  .simp[h,show k≠i from λe=>h e.symm]
def mark (D:Nat):Deferred:={target:=.collected D,args:= #[]}
def Marks (w0 w:World)(ds:List Deferred):Prop:=∃Ds:List Nat,ds=Ds.map mark/\Ds.Nodup/\∀D∈Ds,w0.heap.size<=D/\w.heap[D]?=some (.deferred<|some [])
theorem Marks.nil (w0 w:World):Marks w0 w []:=⟨[],rfl,.nil,λ_ h=>nomatch h⟩
theorem my {w:World}{X:Nat->Prop}{β:Nat->Option Nat}{o:AObj}{b:Nat}(h:ORep w X β o b)(hl:isLive o):(∃us t,w.heap[b]?=some (.cells us t (0,0)))\/∃ms ck,w.heap[b]?=some (.map ms ck):=by
 cases o with
 |gone=>exact hl.elim
 |arr n es=>obtain⟨us,t,h1,_⟩:=h;exact .inl ⟨_,_,h1⟩
 |arz n es=>obtain⟨us,t,h1,_⟩:=h;exact .inl ⟨_,_,h1⟩
 |mapo es=>obtain⟨ms,ck,h1,_⟩:=h;exact .inr ⟨_,_,h1⟩
 |mapz es=>obtain⟨ms,ck,h1,_⟩:=h;exact .inr ⟨_,_,h1⟩
theorem Objs.own_heap {h:Nat->AObj}{β:Nat->Option Nat}{Y:Nat->Prop}{w:World}(hO:Objs h β Y w){b:Nat}(hb:Own h β b):(∃us t,w.heap[b]?=some (.cells us t (0,0)))\/∃ms ck,w.heap[b]?=some (.map ms ck):=by
 obtain⟨o,h1,h2⟩:=hb;exact my (hO.rep o b h1 h2) h1
theorem Marks.good {w0 w w':World}{ds:List Deferred}{h:Nat->AObj}{β:Nat->Option Nat}{Y:Nat->Prop}(m:Marks w0 w ds)(hO:Objs h β Y w)(g:Good w (Own h β) w'):Marks w0 w' ds:=by
 obtain⟨Ds,h1,h2,h3⟩:=m;refine⟨Ds,h1,h2,λD hD=>⟨(h3 D hD).1,?_⟩⟩;have h4:=(h3 D hD).2;rw[g.blk D (sG.1 h4).1 λho=>?_]
 .exact h4
 .rcases hO.own_heap ho with⟨us,t,h5⟩|⟨ms,ck,h5⟩<;>rw[h4] at h5<;>cases h5
structure RelF (P:Program)(w0:World)(foot:Nat->Prop)(Y:Nat->Prop)(pin:Nat->Option (Option Nat))(e:Nat->TV)(h:Nat->AObj)(β:Nat->Option Nat)(a:Act)(w:World):Prop where
 good:Good w0 foot w
 env:∀i,TRep w (XO Y h β) β (e i)<|a.tmps.getD i undef
 objs:Objs h β Y w
 own:∀o b,isLive (h o)->β o=some b->foot b\/w0.heap.size<=b
 defers:Marks w0 w a.defers
 ylt:∀b,Y b->b<w0.heap.size
 pins:∀o x,pin o=some x->β o=x
 gl:Gl P w0 foot
section
variable {P:Program} {w0:World} {foot:Nat->Prop} {Y:Nat->Prop} {pin:Nat->Option (Option Nat)} {e:Nat->TV} {h:Nat->AObj} {β:Nat->Option Nat} {a:Act} {w:World}
theorem RelF.eval (hR:RelF P w0 foot Y pin e h β a w)(x:Operand):TRep w (XO Y h β) β (evF e x) (a.eval x):=by
 cases x with
 |tmp t=>exact hR.env t
 |const v=>exact tvOf_rep _ _ _ v
 |global g=>trivial
 |func f=>exact .fn (.func f) [] [] [] [] .nil .nil
theorem RelF.y (hR:RelF P w0 foot Y pin e h β a w):∀b,Y b->b<w.heap.size:=λb hb=>sA (hR.ylt b hb) hR.good.size
theorem RelF.now (hR:RelF P w0 foot Y pin e h β a w):Gl P w (Own h β):=hR.gl.later hR.good λb hb ⟨o,h1,h2⟩=>by
 rcases hR.own o b h1 h2 with h3|h3
 .exact h3
 .omega
theorem RelF.step (hR:RelF P w0 foot Y pin e h β a w) {h':Nat->AObj} {β':Nat->Option Nat} {w':World} {fr:Nat->Prop} (hf:∀o,fr o->β o=none) (hp:∀o,fr o->pin o=none) (m:Moves h h' β β' Y w w' fr) {d:Option Nat} {v:TV} {u:Value} (hv:TRep w' (XO Y h' β') β' v u)
  (hd:∀i,d=some i->i<a.tmps.size):RelF P w0 foot Y pin (putF d v e) h' β' (a.put d u) w':=by
 have hg:=m.goes hR.objs hf
 have hown:∀b,b<w0.heap.size->Own h β b->foot b:=by
  rintro b hb ⟨o,h1,h2⟩;rcases hR.own o b h1 h2 with h3|h3
  .exact h3
  .omega
 refine⟨hR.good.trans m.good hown,λi=>?_,m.objs,λo b ho hb=>?_,?_,hR.ylt,λo x hx=>?_,hR.gl⟩
 .cases d with
  |none=>exact(hR.env i).goes hg
  |some k=>
   simp only[putF,AM.upd,Act.put];by_cases hk:i=k
   .subst hk;simp only[rG];have:=hd i rfl;simpa[tN,this] using hv
   .simp only[hk,rN]
    have:(a.tmps.setIfInBounds k u).getD i undef=a.tmps.getD i undef:=by
     simp[Array.getElem?_setIfInBounds_ne (show k≠i from λe=>hk e.symm)]
    rw[this];exact(hR.env i).goes hg
 .rcases m.bnew o b hb with h1|⟨hfo,h1|h1⟩
  .rcases m.lmono o ho with h2|h2
   .exact hR.own o b h2 h1
   .rw[hf o h2] at h1;cases h1
  .exact .inr<|rS hR.good.size h1
  .obtain⟨o',h2,h3⟩:=h1;exact hR.own o' b h2 h3
 .have:=hR.defers.good hR.objs m.good;cases d<;>exact this
 .have h1:=hR.pins o x hx;cases x with
  |some b=>exact m.bmono o b h1
  |none=>
   cases h2:β' o with
   |none=>rfl
   |some b=>
    rcases m.bnew o b h2 with h3|⟨h3,_⟩
    .rw[h1] at h3;cases h3
    .rw[hp o h3] at hx;cases hx
def Occ (pin:Nat->Option (Option Nat))(β:Nat->Option Nat)(k:Nat):Prop:=β k≠none\/pin k≠none
theorem vL {ops:Array Oper}{o:Oper}{b:Bool}(hR:RelF P w0 foot Y pin e h β a w)(hdst:∀(j:Nat) (q:Oper) (d:Nat),ops[j]?=some q->q.dst=some d->d<a.tmps.size)(hw:want ops o e=some b):Region.wanted o (yielded ops a.tmps)=b:=by
 unfold want at hw;unfold Region.wanted;split at hw
 next hg=>simp only[hg];exact zo hw
 .rename_i j b' hg;simp only[hg];split at hw
  .rename_i x hx;injection hw with hw
   obtain⟨d,hd,hx'⟩:=oY.1 hx;obtain⟨q,hq,hqd⟩:=sO.1 hd;have hlt:=hdst j q d hq hqd;have hv:=hR.env d;rw[hx'] at hv;have hv:=hv.bool_inv
   have hy:yielded ops a.tmps j=some x:=by
    unfold yielded;rw[hd];simp only[tD]
    have:a.tmps[d]?=some (.bool x):=by
     rw[sB hlt];simp[Array.getD,hlt] at hv;rw[hv]
    rw[this]
   rw[hy,<-hw];cases x<;>cases b'<;>rfl
  .rename_i hx;injection hw with hw
   obtain⟨d,hd,hx'⟩:=oY.1 hx;obtain⟨q,hq,hqd⟩:=sO.1 hd;have hlt:=hdst j q d hq hqd;have hv:=hR.env d;rw[hx'] at hv;obtain⟨us,hv,hl⟩:=hv;have:us=[]:=rk (zo hl.1.symm);subst this
   have hy:yielded ops a.tmps j=none:=by
    unfold yielded;rw[hd];simp only[tD]
    have:a.tmps[d]?=some (.tuple #[]):=by
     rw[sB hlt];simp[Array.getD,hlt] at hv;rw[hv]
    rw[this]
   rw[hy,<-hw];cases b'<;>rfl
  .cases hw
theorem Zo {ops:Array Oper} {o:Oper} {fr:Nat} {δ:Dl} (hR:RelF P w0 foot Y pin e h β a w) (hfr:∀j,j<32->β (fr+j)=none) (hpn:∀j,j<32->pin (fr+j)=none) (hdst:∀(j:Nat) (q:Oper) (d:Nat),ops[j]?=some q->q.dst=some d->d<a.tmps.size) (hod:∀d,o.dst=some d->d<a.tmps.size)
  (hs:OpStep P ops o fr e h δ) {K:Act->World->Prop} {Q:Exit->Act->World->Prop}
  (hK:∀a' w' β',a'.tmps.size=a.tmps.size->a'.defers=a.defers->RelF P w0 foot Y pin (putF δ.dst δ.val e) (over δ.upd h) β' a' w'->(∀k,β' k≠none->β k≠none\/(fr<=k/\k<fr+32))->K a' w'):
  if Region.wanted o (yielded ops a.tmps) then o.wp P a w K Q else K (a.put o.dst undef) w:=by
 have hsz:∀u,(a.put o.dst u).tmps.size=a.tmps.size:=by intro u;unfold Act.put;cases o.dst<;>simp
 have hdf:∀(d:Option Nat) u,(a.put d u).defers=a.defers:=by intro d u;unfold Act.put;cases d<;>rfl
 have hbd:∀ {β':Nat->Option Nat} {h':Nat->AObj} {w':World} {f:Nat->Prop},Moves h h' β β' Y w w' f->(∀k,f k->fr<=k/\k<fr+32)->∀k,β' k≠none->β k≠none\/(fr<=k/\k<fr+32):=by
  intro β' h' w' f m hf k hk;cases hb:β' k with
  |none=>exact absurd hb hk
  |some b=>
   rcases m.bnew k b hb with h1|⟨h1,_⟩
   .exact .inl (by rw[h1];simp)
   .exact .inr<|hf k h1
 cases hs with
 |skip hw=>
  rw[vL hR hdst hw,oV zb];have m:=Moves.refl hR.objs λ_=>rfl;exact hK _ _ _ (hsz _) (hdf _ _) (hR.step (λ_ h=>h.elim) (λ_ h=>h.elim) m (d:=o.dst) (v:=.tup []) ⟨[],rfl,.nil⟩ hod)<|hbd m λ_ h=>h.elim
 |plain r hw hg ha=>
  rw[vL hR hdst hw,oX rfl];obtain⟨n,v,w',β',hrun,hn,hm,hv⟩:=mQ hR.objs hR.y hfr hR.eval ha;have hfr0:∀k,(fr<=k/\k<fr+32)->β k=none:=λk hk=>by have:=hfr (k-fr) za;rwa [(za:fr+(k-fr)=k)] at this
  have hfin:=hK _ _ _ (hsz v) (hdf _ _) (hR.step hfr0 (λk hk=>by have:=hpn (k-fr) za;rwa [(za:fr+(k-fr)=k)] at this) hm hv hod)<|hbd hm λk hk=>hk
  unfold Oper.wp;rw[hrun];rcases hn with rfl|⟨rfl,rfl⟩
  .exact hfin
  .exact hfin
 |call c f args r upd rd hw hg hc hK'=>
  rw[vL hR hdst hw,oX rfl];obtain⟨dd,op,t,p,af,g⟩:=o;simp only[goCall] at hg;split at hg
  .rename_i x a9 ts;injection hg with hg
   subst hg;simp only[calleeOf] at hc;split at hc
   .rename_i fid first cap hx;injection hc with hc
    injection hc with hc1 hc2
    subst hc1;have hrx:=hR.eval x;rw[hx] at hrx;cases hfx:a.eval x with
    |func fn fs cs=>
     rw[hfx] at hrx;cases hrx with
     |fn _ _ _ us vs hl1 hl2=>
      have atomT:∀(l:List<|Bool×List AV) (zs:List Value),LRep (PRep<|ARep w (XO Y h β) β) l zs->LRep (TRep w (XO Y h β) β) (l.map λp=>match p with|(true,cs)=>TV.agg (cs.map WV.a)|(false,[x])=>TV.c (.a x)|_=>TV.any) zs:=by
       intro l zs hl;refine hl.map λp u _ hp=>?_;obtain⟨qs,rfl,hq,h1⟩:=hp;obtain⟨b,cs⟩:=p;cases b with
       |true=>exact⟨qs,rfl,hq.map λc u _ h=>.a _ _ h⟩
       |false=>
        have:=h1 rfl
        match cs,this with
        |[y],_=>
         obtain⟨u,us',rfl,hu,_⟩:=hq.cons_inv;exact .a _ _ (by simpa[shut] using hu)
      have hargs:LRep (TRep w (XO Y h β) β) args (us++a9.toList.map a.eval++vs):=by
       rw[<-hc2];exact((atomT _ _ hl1).append<|jL hR.eval a9.toList).append<|atomT _ _ hl2
      obtain⟨hent,r',upd',rd',⟨e1,e2,e3⟩,hcall⟩:=pe hR.objs hR.now hR.y hfr hargs hK';subst e1;subst e2;subst e3
      have hrun:(execOp a.eval ⟨dd,.call ⟨.value x,a9,ts⟩,t,p,af,g⟩).run P w=.ok (.enter fid (us++a9.toList.map a.eval++vs).toArray) w:=by
       unfold xq at hent;split at hent
       .rename_i fn hfn;simp only[oZ,sX,beq_eq_false_iff_ne] at hent;have hb:fn.body.isNone=false:=by cases hb:fn.body<;>simp_all
        have harr:us.toArray++Array.map a.eval a9++vs.toArray=(us++a9.toList.map a.eval++vs).toArray:=by apply tV;simp
        simp only[execOp,resolve,Deferred.ofValue,hfx,invoke,callFunc,rW,sg,rI,run_program,hfn,beq_eq_false_iff_ne.2 hent.1,rF,rN,hb,harr]
       .cases hent
      unfold Oper.wp;rw[hrun];simp only[Oper.upon];refine hcall.mono λen w' ⟨v,β',he,hm,hv⟩=>?_;subst he;exact hK _ _ _ (hsz v) (hdf _ _) (hR.step (λk hk=>by have:=hfr (k-fr) za;rwa [(za:fr+(k-fr)=k)] at this) (λk hk=>by have:=hpn (k-fr) za;rwa [(za:fr+(k-fr)=k)] at this) hm hv hod)<|hbd hm λk hk=>hk
    |_=>rw[hfx] at hrx;cases hrx
   .cases hc
  .cases hg
end
theorem lq {e e':Nat->TV}{x:Operand}(h:∀t,x=.tmp t->e' t=e t):evF e' x=evF e x:=by
 cases x with
 |tmp t=>exact h t rfl
 |_=>rfl
theorem uh {h h':Nat->AObj}{x:TV}{o:Nat}{es:List MapE}(hm:kV h x=some (o,es))(hh:h' o=h o):kV h' x=some (o,es):=by
 unfold kV at hm ⊢
 grind
theorem pS {h h':Nat->AObj}{x:TV}{oe:List Nat×List MapE}(hm:mapL h x=some oe)(hh:∀k∈oe.1,h' k=h k):mapL h' x=some oe:=by
 unfold mapL at hm ⊢;split at hm
 .exact hm
 .obtain⟨p,hp,rfl⟩:=oY.1 hm;rw[uh (o:=p.1) (es:=p.2) hp<|hh p.1 zb];rfl
theorem qb {m:(Bool×List EK)×(Bool×List WV)}{h h':Nat->AObj}{x key:TV}{ok:Bool}{r:AR}(hl:vw m h x key ok=some r)(hh:∀k∈r.rd,h' k=h k):vw m h' x key ok=some r:=by
 unfold vw at hl ⊢;split at hl
 .split at hl
  .rename_i oe hoe;obtain⟨o,es⟩:=oe;split at hl
   next q hq=>obtain⟨v,hv,rfl⟩:=oY.1 hl;simp only[pS hoe hh,hq,hv,ry]
   .cases hl
  .cases hl
 .cases hl
theorem entE_rd {m:(Bool×List EK)×(Bool×List WV)}{o:Nat}{k:List FV}{es:List MapE}{q:Option Nat}{r:AR}(h:entE m o k es q=some r):r.rd=[o]:=by
 unfold entE at h
 grind
theorem X6 {m:(Bool×List EK)×(Bool×List WV)}{h h':Nat->AObj}{x key:TV}{r:AR}(hl:wA m h x key=some r)(hh:∀k∈r.rd,h' k=h k):wA m h' x key=some r:=by
 unfold wA at hl ⊢;split at hl
 .split at hl
  .rename_i oe hoe;obtain⟨o,es⟩:=oe;split at hl
   next q hq=>simp only[uh hoe<|hh o<|by rw[entE_rd hl];simp,hq,hl]
   .cases hl
  .cases hl
 .cases hl
theorem qJ {h h':Nat->AObj}{x s v:TV}{r:AR}(hl:wf h x s v=some r)(hh:∀k∈r.rd,h' k=h k):wf h' x s v=some r:=by
 unfold wf at hl ⊢;split at hl
 .rename_i oe kk n rw_ hoe hrw;obtain⟨o,es⟩:=oe;split at hl
  .rename_i en hen;split at hl<;>simp only[r8,reduceCtorEq] at hl
   rename_i hn;subst hl;simp only[uh hoe<|hh o zb,hen,hrw,hn,rG]
  .cases hl
 .cases hl
theorem uG {m:(Bool×List EK)×(Bool×List WV)}{h h':Nat->AObj}{x key v:TV}{r:AR}(hl:yG m h x key v=some r)(hh:∀k∈r.rd,h' k=h k):yG m h' x key v=some r:=by
 unfold yG at hl ⊢;split at hl
 .rename_i k rw_ hk hrw;split at hl
  .rename_i oe hoe;obtain⟨o,es⟩:=oe;split at hl
   .rename_i q hq;injection hl with hl;subst hl
    simp only[uh hoe<|hh o zb,hq]
   .cases hl
  .cases hl
 .cases hl
theorem Zi {h h':Nat->AObj}{x:TV}{o:Nat}{es:List MapZ}(hm:vE h x=some (o,es))(hh:h' o=h o):vE h' x=some (o,es):=by
 unfold vE at hm ⊢
 grind
theorem Kg {h h':Nat->AObj}{x:TV}{o:Nat}{es:List MapE}(hm:kV (λo=>flat<|h o) x=some (o,es))(hn:vE h x=none)(hh:h' o=h o):vE h' x=none:=by
 unfold kV at hm;unfold vE at hn ⊢
 grind
theorem fh {h h':Nat->AObj}{x:TV}{oe:List Nat×List MapZ}(hm:qI h x=some oe)(hh:∀k∈oe.1,h' k=h k):qI h' x=some oe:=by
 unfold qI at hm ⊢;split at hm
 .exact hm
 .obtain⟨p,hp,rfl⟩:=oY.1 hm;rw[Zi (o:=p.1) (es:=p.2) hp<|hh p.1 zb];rfl
theorem pw {h h':Nat->AObj}{x:TV}{oe:List Nat×List MapE}(hm:mapL (λo=>flat<|h o) x=some oe)(hn:qI h x=none)(hh:∀k∈oe.1,h' k=h k):qI h' x=none:=by
 unfold qI at hn ⊢;split at hn
 .cases hn
 .rename_i hne;unfold mapL at hm;split at hm
  .exact(hne _ rfl).elim
  .obtain⟨p,hp,rfl⟩:=oY.1 hm;rw[Kg (o:=p.1) (es:=p.2) hp (Option.map_eq_none_iff.1 hn)<|hh p.1 zb];rfl
theorem Ju {m:(Bool×List EK)×(Bool×List WV)}{h h':Nat->AObj}{x key:TV}{ok:Bool}{r:AR}(hl:wo m h x key ok=some r)(hh:∀k∈r.rd,h' k=h k):wo m h' x key ok=some r:=by
 unfold wo at hl;split at hl
 .rename_i oe hoe
  have hrd:r.rd=oe.1:=by
   split at hl
   .split at hl
    .obtain⟨v,_,rfl⟩:=oY.1 hl;rfl
    .obtain⟨v,_,rfl⟩:=oY.1 hl;rfl
    .cases hl
   .cases hl
  unfold wo;simp only[fh hoe λk hk=>hh k<|by rw[hrd];exact hk];exact hl
 .rename_i hn;have hc:=qb (h':=λo=>flat<|h' o) hl (λk hk=>by simp only[hh k hk])
  have hn':qI h' x=none:=by
   unfold vw at hl;split at hl
   .split at hl
    .rename_i oe hoe;split at hl
     .obtain⟨v,_,rfl⟩:=oY.1 hl;exact pw hoe hn hh
     .cases hl
    .cases hl
   .cases hl
  unfold wo;simp only[hn'];exact hc
theorem Zw {m:(Bool×List EK)×(Bool×List WV)}{h h':Nat->AObj}{x key v:TV}{r:AR}(hl:yS m h x key v=some r)(hh:∀k∈r.rd,h' k=h k):yS m h' x key v=some r:=by
 unfold yS at hl;split at hl
 .rename_i oe hoe;obtain⟨o,es⟩:=oe
  have hrd:r.rd=[o]:=by
   split at hl
   .split at hl
    .obtain⟨v,_,rfl⟩:=oY.1 hl;rfl
    .cases hl
   .cases hl
  unfold yS;simp only[Zi hoe<|hh o zd];exact hl
 .rename_i hn;have hc:=uG (h':=λo=>flat<|h' o) hl (λk hk=>zd)
  have hn':vE h' x=none:=by
   unfold yG at hl;split at hl
   .split at hl
    .rename_i oe hoe;obtain⟨o,es⟩:=oe;split at hl
     .injection hl with hl;subst hl
      exact Kg hoe hn<|hh o zb
     .cases hl
    .cases hl
   .cases hl
  unfold yS
  grind
theorem mM {P:Program}{o:Oper}{fr:Nat}{ρ ρ':Operand->TV}{h:Nat->AObj}(hp:∀x∈o.op.operands,ρ' x=ρ x):aop P o fr ρ' h=aop P o fr ρ h:=by
 obtain⟨dst,op,type,pos,after,guard⟩:=o
 have pairs:∀ps:Array<|Nat×Operand,(∀x∈(ps.toList.map (·.2)),ρ' x=ρ x)->(ps.toList.map λp=>(p.1,ρ' p.2))=(ps.toList.map λp=>(p.1,ρ p.2)):=λps hp=>
  sI λp hm=>zd
 have optmap:∀o:Option Operand,(∀x∈o.toArray,ρ' x=ρ x)->o.map ρ'=o.map ρ:=λo ho=>by cases o<;>simp_all
 cases op
 case build t ps=>simp only[aop];rw[pairs ps λx hx=>hp x<|by simpa[Op.operands] using hx]
 case buildSlice t n ps=>simp only[aop];rw[pairs ps λx hx=>hp x<|by simpa[Op.operands] using hx]
 case makeFunc fn first captured=>
  simp only[aop];rw[sI (l:=first.toList) λx hx=>hp x<|by simp[Op.operands];exact .inl zd,sI (l:=captured.toList) λx hx=>hp x<|by simp[Op.operands];exact .inr zd]
 case slice t x lo hi mx=>
  simp only[aop];rw[hp x<|by simp[Op.operands],optmap lo λy hy=>hp y<|by simp[Op.operands] at hy ⊢;simp[hy],optmap hi λy hy=>hp y<|by simp[Op.operands] at hy ⊢;simp[hy],optmap mx λy hy=>hp y<|by simp[Op.operands] at hy ⊢;simp[hy]]
 case call c=>
  obtain⟨callee,args,ts⟩:=c;cases callee with
  |builtin b=>
   simp only[aop];rw[sI (l:=args.toList) λx hx=>hp x<|by simp[Op.operands,Call.operands];exact zo hx]
  |value x=>rfl
  |invoke x m=>rfl
 case makeMap t r=>cases r<;>rfl
 all_goals simp only[aop,Op.operands] at hp ⊢
 all_goals first
  |rfl
  |(simp only[List.mem_toArray,rx,List.not_mem_nil,or_false,forall_eq_or_imp,forall_eq] at hp;simp only[hp])
theorem fM {d:TyD}{h h':Nat->AObj}{x:TV}{r:TV×List Nat}(hl:wR d h x=some r)(hh:∀k∈r.2,h' k=h k):wR d h' x=some r:=by
 unfold wR at hl ⊢;split at hl
 .grind
 .exact hl
 .cases hl
theorem Zp {d:TyD}{h h':Nat->AObj}{x y:TV}{r:AR}(hl:vY d h x y=some r)(hh:∀k∈r.rd,h' k=h k):vY d h' x y=some r:=by
 unfold vY at hl ⊢
 grind
theorem xZ {n:Nat}{h h':Nat->AObj}{x:TV}{r:List (List WV)×List Nat}(hl:w5 n h x=some r)(hh:∀k∈r.2,h' k=h k):w5 n h' x=some r:=by
 unfold w5 at hl ⊢
 grind
theorem Jn {d:TyD}{fr:Nat}{h h':Nat->AObj}{s x:TV}{r:AR}(hl:jg d fr h s x=some r)(hh:∀k∈r.rd,h' k=h k):jg d fr h' s x=some r:=by
 unfold jg at hl ⊢;split at hl
 .rename_i hc;rw[oX hc];unfold xm at hl ⊢;cases hel:w5 d.size h x with
  |none=>rw[hel] at hl;cases hl
  |some q=>
   obtain⟨new,rd⟩:=q;rw[hel] at hl;simp only at hl;split at hl
   .have:∀k∈rd,h' k=h k:=by
     grind
    rw[xZ hel this];exact hl
   .have:∀k∈rd,h' k=h k:=by
     grind
    rw[xZ hel this];exact hl
   .rename_i o n off len;split at hl
    .rename_i m es ho;split at hl
     .rename_i hc2;injection hl with hl;subst hl
      rw[xZ hel λk hk=>hh k<|r9 _ hk]
      grind
     .cases hl
    .cases hl
   .cases hl
 .cases hl
theorem pO {d:TyD}{h h':Nat->AObj}{x:TV}{r:Nat×List Nat}(hq:lenP d h x=some r)(hh:∀k∈r.2,h' k=h k):lenP d h' x=some r:=by
 unfold lenP at hq ⊢;split at hq
 .exact hq
 .exact hq
 .unfold i8 at hq ⊢
  grind
 .exact hq
 .cases hq
theorem jw {P:Program}{o:Oper}{fr:Nat}{ρ:Operand->TV}{h h':Nat->AObj}{r:AR}(ha:aop P o fr ρ h=some r)(hh:∀k∈r.rd,h' k=h k):aop P o fr ρ h'=some r:=by
 obtain⟨d,op,t,p,af,g⟩:=o;cases op
 case load lt x=>
  simp only[aop] at ha ⊢;obtain⟨dd,hd,hl⟩:=zP ha;obtain⟨q,hq,rfl⟩:=oY.1 hl;simp only[yr,hd,fM hq hh,ry]
 case store st x y=>
  simp only[aop] at ha ⊢;obtain⟨dd,hd,hl⟩:=zP ha;simp only[yr,hd,Zp hl hh]
 case convert src dst x=>
  simp only[aop] at ha ⊢;split at ha
  .obtain⟨dd,hd,hl⟩:=zP ha;simp only[textA,yr,hd];split at hl
   .split at hl
    next es rd he=>obtain⟨l,hbl,rfl⟩:=oY.1 hl;simp only[xZ he hh,hbl,ry]
    .cases hl
   .cases hl
  .exact ha
 case call c=>
  obtain⟨callee,args,ts⟩:=c;cases callee with
  |builtin b=>
   simp only[aop] at ha ⊢;unfold xL at ha ⊢;split at ha
   .obtain⟨dd,hd,hl⟩:=zP ha;obtain⟨q,hq,rfl⟩:=oY.1 hl;simp only[yr,hd,pO hq hh,ry]
   .split at ha
    next htt=>obtain⟨dd,e,de,hd,hk,hde,hl⟩:=ye ha;rw[oX htt];unfold yk;rw[hd];simp only;rw[hk];simp only;rw[hde];exact Jn hl hh
    .grind
   .exact ha
   .exact ha
   .exact ha
   .cases ha
  |value x=>exact ha
  |invoke x m=>exact ha
 case lookup lt x ix ok=>
  simp only[aop] at ha ⊢;obtain⟨m,hm,hl⟩:=yx ha;simp only[xh,hm,qb hl hh]
 case mapEntry lt x k=>
  simp only[aop] at ha ⊢;obtain⟨m,hm,hl⟩:=yx ha;simp only[xh,hm,X6 hl hh]
 case entryStore lt x s v=>
  simp only[aop] at ha ⊢;exact qJ ha hh
 case mapUpdate lt x k v=>
  simp only[aop] at ha ⊢;obtain⟨m,hm,hl⟩:=yx ha;simp only[xh,hm,uG hl hh]
 case makeMap lt r=>cases r<;>exact ha
 all_goals exact ha
theorem Ka {d:TyD}{h h':Nat->AObj}{x y:TV}{r:AR}(hl:uD d h x y=some r)(hh:∀k∈r.rd,h' k=h k):uD d h' x y=some r:=by
 unfold uD at hl ⊢;split at hl
 .rename_i cs o n i j hcs;split at hl
  .grind
  .rename_i hno
   have hrd:r.rd=[o]:=by
    unfold vY at hl
    grind
   have ho:h' o=h o:=hh o zd;split
   .grind
   .exact Zp hl hh
 .cases hl
theorem KW {n:Nat}{h h':Nat->AObj}{x:TV}(hh:∀o m off len,x=.c (.a<|.osl o m off len)->h' o=h o):uM n h' x=uM n h x:=by
 unfold uM
 grind
theorem lO {n:Nat}{h:Nat->AObj}{o m off len:Nat}{new:List (List FV)}{rd:List Nat}(he:uM n h (.c<|.a<|.osl o m off len)=some (new,rd)):o∈rd:=by
 unfold uM at he
 grind
theorem Xy {n:Nat}{h:Nat->AObj}{o m off len:Nat}{new:List (List WV)}{rd:List Nat}(he:w5 n h (.c<|.a<|.osl o m off len)=some (new,rd)):o∈rd:=by
 unfold w5 at he
 grind
theorem qL {d:TyD}{fr:Nat}{h:Nat->AObj}{s x:TV}{r:AR}(ha:xm d fr h s x=some r):∃new rd,w5 d.size h x=some (new,rd)/\(∀k∈rd,k∈r.rd):=by
 unfold xm at ha
 grind
theorem qh {d:TyD}{fr:Nat}{h h':Nat->AObj}{s x:TV}{r:AR}(hl:xm d fr h s x=some r)(hh:∀k∈r.rd,h' k=h k):xm d fr h' s x=some r:=by
 obtain⟨new,rd,hel,hsub⟩:=qL hl;unfold xm at hl ⊢;rw[hel] at hl;rw[xZ hel λk hk=>hh k<|hsub k hk]
 grind
theorem WW {d:TyD}{fr:Nat}{h h':Nat->AObj}{s x:TV}{r:AR}(hl:wg d fr h s x=some r)(hh:∀k∈r.rd,h' k=h k):wg d fr h' s x=some r:=by
 have hflat:∀k∈r.rd,flat (h' k)=flat (h k):=λk hk=>zd
 have hx:∀o m off len,x=.c (.a<|.osl o m off len)->h' o=h o:=by
  intro o m off len e;subst e;unfold wg at hl;split at hl
  .rename_i new rd hel;have hm:=lO hel;split at hl
   .grind
   .grind
   .split at hl
    .grind
    .obtain⟨new2,rd2,h1,h2⟩:=qL hl;exact hh o<|h2 o<|Xy h1
   .cases hl
  .obtain⟨new2,rd2,h1,h2⟩:=qL hl;exact hh o<|h2 o<|Xy h1
 unfold wg at hl ⊢;rw[KW hx];split at hl
 .rename_i new rd hel;split at hl
  .exact hl
  .exact hl
  .rename_i o n off len;split at hl
   .grind
   .rename_i hno
    have ho:h' o=h o:=by
     have:o∈r.rd:=by
      unfold xm at hl
      grind
     grind
    split
    .grind
    .exact qh hl hflat
  .cases hl
 next hel=>exact qh hl hflat
theorem X0 {h h':Nat->AObj}{x:WV}(hh:∀k∈oslW x,h' k=h k):qm h' x=qm h x:=by
 unfold qm;split
 next o n off len=>rw[hh o<|by simp[oslW]]
 .rfl
theorem Zu {h h':Nat->AObj}:∀ {l:List WV},(∀k∈l.flatMap oslW,h' k=h k)->vd h' l=vd h l
 |[],_=>rfl
 |x::l,hh=>by
  simp only[vd];rw[X0 λk hk=>hh k zd,Zu λk hk=>hh k zd]
theorem dt {h h':Nat->AObj}{x:TV}(hh:∀k∈oslT x,h' k=h k):Zy h' x=Zy h x:=by
 cases x with
 |c x=>simp only[Zy];rw[X0 hh]
 |agg cs=>simp only[Zy];rw[Zu hh]
 |_=>rfl
theorem jf {h h':Nat->AObj}:∀ {l:List (Nat×TV)},(∀k∈oslP l,h' k=h k)->vo h' l=vo h l
 |[],_=>rfl
 |(i,x)::l,hh=>by
  simp only[vo];rw[dt λk hk=>hh k<|by simp only[oslP,List.flatMap_cons];exact sE _ hk,jf λk hk=>hh k<|by simp only[oslP,List.flatMap_cons];exact tH _ hk]
theorem ph {P:Program}{o:Oper}{fr:Nat}{ρ ρ':Operand->TV}{h:Nat->AObj}(hp:∀x∈o.op.operands,ρ' x=ρ x):aopF P o fr ρ' h=aopF P o fr ρ h:=by
 have hg:=mM (P:=P) (o:=o) (fr:=fr) (h:=λo=>flat<|h o) hp;obtain⟨dst,op,type,pos,after,guard⟩:=o
 have pairs:∀ps:Array<|Nat×Operand,(∀x∈(ps.toList.map (·.2)),ρ' x=ρ x)->(ps.toList.map λp=>(p.1,ρ' p.2))=(ps.toList.map λp=>(p.1,ρ p.2)):=λps hp=>
  sI λp hm=>zd
 cases op
 case build t ps=>simp only[aopF];rw[pairs ps λx hx=>hp x<|by simpa[Op.operands] using hx]
 case buildSlice t n ps=>simp only[aopF];rw[pairs ps λx hx=>hp x<|by simpa[Op.operands] using hx]
 case store t x y=>
  simp only[aopF];rw[hp x<|by simp[Op.operands],hp y<|by simp[Op.operands]]
 case call c=>
  obtain⟨callee,args,ts⟩:=c;cases callee with
  |builtin b=>
   simp only[aopF];rw[sI (l:=args.toList) λx hx=>hp x<|by simp[Op.operands,Call.operands];exact zo hx]
  |value x=>exact hg
  |invoke x m=>exact hg
 case makeSlice t l c=>simp only[aopF];rw[hp l<|by simp[Op.operands],hp c<|by simp[Op.operands]]
 case lookup t x ix ok=>simp only[aopF];rw[hp x<|by simp[Op.operands],hp ix<|by simp[Op.operands]]
 case mapUpdate t x k v=>simp only[aopF];rw[hp x<|by simp[Op.operands],hp k<|by simp[Op.operands],hp v<|by simp[Op.operands]]
 case makeMap t r=>cases r<;>rfl
 all_goals exact hg
theorem li {P:Program}{o:Oper}{fr:Nat}{ρ:Operand->TV}{h h':Nat->AObj}{r:AR}(ha:aopF P o fr ρ h=some r)(hh:∀k∈r.rd,h' k=h k):aopF P o fr ρ h'=some r:=by
 have hflat:∀k∈r.rd,flat (h' k)=flat (h k):=λk hk=>zd
 cases hop:o.op
 case store st x y=>
  simp only[aopF,hop] at ha ⊢;obtain⟨dd,hd,hl⟩:=zP ha;simp only[yr,hd,Ka hl hh]
 case build bt parts=>
  simp only[aopF,hop] at ha ⊢;obtain⟨v,hv,rfl⟩:=oY.1 ha;rw[jf hh,hv];rfl
 case buildSlice st len parts=>
  simp only[aopF,hop] at ha ⊢;obtain⟨v,hv,rfl⟩:=oY.1 ha;rw[jf hh,hv];rfl
 case call c=>
  obtain⟨callee,args,ts⟩:=c;cases callee with
  |builtin bb=>
   simp only[aopF,hop] at ha ⊢;by_cases hb:∃t1 t2 s1 x1,bb=.append/\ts.toList=[t1,t2]/\args.toList.map ρ=[s1,x1]
   .obtain⟨t1,t2,s1,x1,rfl,e2,e3⟩:=hb;rw[e2,e3] at ha ⊢;simp only[xA] at ha ⊢;split at ha
    .rename_i htt;obtain⟨dd,e,de,hd,hk,hde,hl⟩:=ye ha;rw[oX htt];unfold yk;rw[hd];simp only;rw[hk];simp only;rw[hde];dsimp only;unfold ZI at hl ⊢;split at hl
     next hc=>rw[oX hc];exact WW hl hh
     .cases hl
    .grind
   .have hne:∀h,xA P bb ts.toList fr h (args.toList.map ρ)=xL P bb ts.toList fr (λo=>flat<|h o) (args.toList.map ρ):=by
     intro h;unfold xA
     grind
    rw[hne] at ha ⊢;have e:∀hq,aop P o fr ρ hq=xL P bb ts.toList fr hq (args.toList.map ρ):=λhq=>by simp only[aop,hop]
    rw[<-e] at ha ⊢;exact jw (h':=λo=>flat<|h' o) ha hflat
  |value x=>
   have e:∀hq,aopF P o fr ρ hq=aop P o fr ρ (λk=>flat<|hq k):=λhq=>by simp only[aopF,hop]
   rw[e] at ha ⊢;exact jw ha hflat
  |invoke x m=>
   have e:∀hq,aopF P o fr ρ hq=aop P o fr ρ (λk=>flat<|hq k):=λhq=>by simp only[aopF,hop]
   rw[e] at ha ⊢;exact jw ha hflat
 case makeSlice st l c=>simp only[aopF,hop] at ha ⊢;exact ha
 case lookup lt x ix ok=>
  simp only[aopF,hop] at ha ⊢;obtain⟨m,hm,hl⟩:=yx ha;simp only[xh,hm,Ju hl hh]
 case mapUpdate lt x k v=>
  simp only[aopF,hop] at ha ⊢;obtain⟨m,hm,hl⟩:=yx ha;simp only[xh,hm,Zw hl hh]
 case makeMap lt r=>
  cases r with
  |none=>simp only[aopF,hop] at ha ⊢;exact ha
  |some r=>simp only[aopF,hop] at ha ⊢;exact jw ha hflat
 all_goals
  have e:∀hq,aopF P o fr ρ hq=aop P o fr ρ (λk=>flat<|hq k):=λhq=>by simp only[aopF,hop]
  rw[e] at ha ⊢;exact jw ha hflat
theorem aY {P:Program}{o:Oper}{fr:Nat}{ρ ρ':Operand->TV}{h:Nat->AObj}(hp:∀x∈o.op.operands,ρ' x=ρ x):aopS P o fr ρ' h=aopS P o fr ρ h:=by
 unfold aopS;rw[ph hp];congr 1
 funext r
 exact d9 hp
theorem i7 {P:Program}{o:Oper}{fr:Nat}{ρ:Operand->TV}{h h':Nat->AObj}{r:AR}(ha:aopS P o fr ρ h=some r)(hh:∀k∈r.rd,h' k=h k):aopS P o fr ρ h'=some r:=by
 obtain⟨r0,h0,rfl⟩:=oY.1 ha;rw[softA_rd] at hh;unfold aopS;rw[li h0 hh,ry,aQ hh]
theorem pI {P:Program}{f:FuncId}{args:List TV}{h h':Nat->AObj}{fr:Nat}{r:TV}{u:AHeap}{rd:List Nat}(hc:CallK P f args h fr λr' u' d'=>r'=r/\u'=u/\d'=rd)(hh:∀k∈rd,h' k=h k):
  CallK P f args h' fr (λr' u' d'=>r'=r/\u'=u/\d'=rd):=by
 obtain⟨ids,L,args',Hs,r0,Hs',h1,h2,h3,⟨h4,h5⟩,h6,h7,h8,h9,F,hF,k1,k2,k3⟩:=hc;subst k3;have hi:∀i∈ids,h' i=h i:=λi hi=>hh i zd;refine⟨ids,L,args',Hs,r0,Hs',h1,h2,h3,⟨?_,h5⟩,h6,h7,λi hm=>zd,?_,F,λi hm=>?_,k1,k2,rfl⟩
 .simp_all
 .rcases h9 with h9|⟨g1,g2,g3,g4⟩
  .grind
  .exact .inr ⟨λp hp=>by rw[hh p.1 zd];exact g1 p hp,g2,g3,g4⟩
 .have h0:=hF i hm;obtain⟨k,y,q1,_,_⟩:=Yd h2.1 h0
  grind
theorem pM {P:Program}{f:FuncId}{args:List TV}{h h':Nat->AObj}{fr:Nat}{r:TV}{u:AHeap}{rd:List Nat}(hc:CallE P f args h fr λr' u' d'=>r'=r/\u'=u/\d'=rd)(hh:∀k∈rd,h' k=h k):
  CallE P f args h' fr (λr' u' d'=>r'=r/\u'=u/\d'=rd):=by
 obtain⟨E,hE,ids,L,args',Hs,r0,Hs',h1,h2,h3,h4,h6,h7,h8,h9,F,hF,k1,k2,k3⟩:=hc;have hEE:E.ok h':=λp hp=>by rw[hh p.1 zd];exact hE p hp
 have hover:∀k∈ids++L.map Prod.fst,over (E.map λp=>(p.1,AObj.gone)) h' k=over (E.map λp=>(p.1,AObj.gone)) h k:=by
  intro k hk;unfold over
  grind
 obtain⟨ids',L',args'',Hs2,r2,Hs2',g1,g2,g3,g4,g5,g6,g7,g8,F',hF',j1,j2,j3⟩:=pI (r:=r0.ren<|sub ids fr) (u:=(yD (sub ids fr) ids Hs'++xG (sub ids fr) fr (Hs'.drop ids.length)).filter λp=> !F.contains p.1) (rd:=ids++L.map Prod.fst) ⟨ids,L,args',Hs,r0,Hs',h1,h2,h3,h4,h6,h7,h8,h9,F,hF,rfl,rfl,rfl⟩ hover;exact⟨E,hEE,ids',L',args'',Hs2,r2,Hs2',g1,g2,g3,g4,g5,g6,g7,g8,F',hF',zd,zd,zd⟩
theorem qS {ops:Array Oper}{o:Oper}{e e':Nat->TV}(h:∀t∈o.looksAt ops,e' t=e t):want ops o e'=want ops o e:=by
 unfold want;cases hg:o.guard with
 |none=>rfl
 |some g=>
  obtain⟨j,b⟩:=g;simp only;cases hd:(ops[j]?).bind (·.dst) with
  |none=>rfl
  |some d=>
   have:e' d=e d:=h d (by simp[Oper.looksAt,hg,hd])
   grind
theorem JP {P:Program}{ops:Array Oper}{o:Oper}{fr:Nat}{e e':Nat->TV}{h h':Nat->AObj}{δ:Dl}(hs:OpStep P ops o fr e h δ)(he:∀t∈o.looksAt ops,e' t=e t)(hh:∀k∈δ.rd,h' k=h k):OpStep P ops o fr e' h' δ:=by
 have hop:∀x∈o.op.operands,evF e' x=evF e x:=λx hx=>lq λt ht=>he t (by
  subst ht;exact sE _ (List.mem_filterMap.2 ⟨.tmp t,zd,rfl⟩))
 cases hs with
 |skip hw=>exact .skip (by rw[qS he];exact hw)
 |plain r hw hg ha=>exact .plain r (by rw[qS he];exact hw) hg<|i7 (by rw[aY hop];exact ha) hh
 |call c f args r upd rd hw hg hc hk=>
  refine .call c f args r upd rd (by rw[qS he];exact hw) hg ?_<|pM hk hh
  rw[<-hc]
  have hops:o.op.operands=c.operands:=by
   unfold goCall at hg;split at hg
   next heq=>injection hg with hg;subst hg;rw[heq];rfl
   .cases hg
  rw[hops] at hop;unfold calleeOf;cases hcal:c.callee with
  |value x=>
   simp only;rw[hop x<|by simp[Call.operands,hcal],sI (l:=c.args.toList) λy hy=>hop y<|by simp[Call.operands,hcal];exact .inr zd]
  |_=>rfl
inductive Chain (P:Program)(ops:Array Oper)(nx:Nat):List Oper->Nat->(Nat->TV)->(Nat->AObj)->List Dl->Prop
 |nil (i:Nat) (e:Nat->TV) (h:Nat->AObj):Chain P ops nx [] i e h []
 |cons (o:Oper) (l:List Oper) (i:Nat) (e:Nat->TV) (h:Nat->AObj) (δ:Dl) (δs:List Dl):OpStep P ops o (nx+32*i) e h δ->δ.dst=o.dst->Chain P ops nx l (i+1) (putF δ.dst δ.val e) (over δ.upd h) δs->Chain P ops nx (o::l) i e h (δ::δs)
def endE (e:Nat->TV):List Dl->(Nat->TV)
 |[]=>e
 |δ::δs=>endE (putF δ.dst δ.val e) δs
def endH (h:Nat->AObj):List Dl->(Nat->AObj)
 |[]=>h
 |δ::δs=>endH (over δ.upd h) δs
theorem KI (u H:AHeap):hook (u++H)=over u (hook H):=funext λo=>fS u H o
theorem jE {P:Program}{ops:Array Oper}{nx:Nat}{K:Env->AHeap->wd->Prop}:∀(l:List Oper) (i:Nat) (e:Env) (h:AHeap) (tr:wd),lex P ops nx l i e h tr K->
  ∃δs e' h' tr',Chain P ops nx l i (look e) (hook h) δs/\look e'=endE (look e) δs/\hook h'=endH (hook h) δs/\tr'=(δs.map λδ=>(δ.rd,δ.upd.map Prod.fst)).reverse++tr/\K e' h' tr'
 |[],i,e,h,tr,hl=>⟨[],e,h,tr,.nil _ _ _,rfl,rfl,rfl,hl⟩
 |o::l,i,e,h,tr,hl=>by
  have fin:∀(δ:Dl) (e1:Env) (h1:AHeap),OpStep P ops o (nx+32*i) (look e) (hook h) δ->δ.dst=o.dst->look e1=putF δ.dst δ.val (look e)->hook h1=over δ.upd (hook h)->
    lex P ops nx l (i+1) e1 h1 ((δ.rd,δ.upd.map Prod.fst)::tr) K->
    ∃δs e' h' tr',Chain P ops nx (o::l) i (look e) (hook h) δs/\look e'=endE (look e) δs/\hook h'=endH (hook h) δs/\tr'=(δs.map λδ=>(δ.rd,δ.upd.map Prod.fst)).reverse++tr/\K e' h' tr':=by
   intro δ e1 h1 hs hd he hh hl;obtain⟨δs,e',h',tr',c1,c2,c3,c4,c5⟩:=jE l (i+1) e1 h1 _ hl;rw[he,hh] at c1;rw[he] at c2;rw[hh] at c3;exact⟨δ::δs,e',h',tr',.cons o l i _ _ δ δs hs hd c1,c2,c3,zd,c5⟩
  rw[lex] at hl;unfold gM at hl;split at hl
  .grind
  .rename_i w hw;split at hl
   .rename_i hwt;subst hwt;unfold p9 at hl;split at hl
    .rename_i c hc;split at hl
     .rename_i f args hcal
      have hcal':calleeOf (evF<|look e) c=some (f,args):=by
       assumption
      obtain⟨E,hE,ids,L,args',Hs,r,Hs',g1,g2,g3,g4,g5,g6,g7,g8,F,hF,hk⟩:=hl
      exact fin ⟨o.dst,r.ren<|sub ids<|nx+32*i,((yD (sub ids<|nx+32*i) ids Hs'++xG (sub ids<|nx+32*i) (nx+32*i) (Hs'.drop ids.length)).filter λp=> !F.contains p.1)++E.map λp=>(p.1,AObj.gone),(ids++L.map Prod.fst)++E.map Prod.fst⟩ _ _
       (.call c f args _ _ _ hw hc hcal' ⟨E,hE,ids,L,args',Hs,r,Hs',g1,g2,g3,g4,g5,g6,g7,g8,F,hF,rfl,rfl,rfl⟩) rfl (YL _ _ _) (KI _ _) hk
     .grind
    .rename_i hc;split at hl
     .rename_i r hr
      have hr':aopS P o (nx+32*i) (evF<|look e) (hook h)=some r:=by
       assumption
      exact fin ⟨o.dst,r.val,r.upd,r.rd⟩ _ _ (.plain r hw hc hr') rfl (YL _ _ _) (KI _ _) hl
     .grind
   .rename_i hwt;have hwf:w=false:=zd
    subst hwf;exact fin ⟨o.dst,.tup [],[],[]⟩ _ _ (.skip hw) rfl (YL _ _ _) (by rfl) hl
section
variable {P:Program} {ops:Array Oper} {w0:World} {foot:Nat->Prop} {Y:Nat->Prop} {pin:Nat->Option (Option Nat)}
theorem qa {nx sz:Nat}(hdst:∀(j:Nat) (q:Oper) (d:Nat),ops[j]?=some q->q.dst=some d->d<sz){Q:Exit->Act->World->Prop}:∀(l:List Oper) (i:Nat) (e:Nat->TV) (h:Nat->AObj) (δs:List Dl) (β:Nat->Option Nat) (a:Act) (w:World),
  (∀o∈l,∃j:Nat,ops[j]?=some o)->Chain P ops nx l i e h δs->a.tmps.size=sz->RelF P w0 foot Y pin e h β a w->(∀k,Occ pin β k->k<nx+32*i)->
  (∀a' w' β',a'.tmps.size=sz->a'.defers=a.defers->RelF P w0 foot Y pin (endE e δs) (endH h δs) β' a' w'->(∀k,Occ pin β' k->k<nx+32*(i+l.length))->Q .normal a' w')->wpList P ops Q l a w
 |[],i,e,h,δs,β,a,w,_,hc,hsz,hR,hb,hQ=>by
  cases hc;exact hQ a w β hsz rfl hR za
 |o::l,i,e,h,δs,β,a,w,hmem,hc,hsz,hR,hb,hQ=>by
  cases hc with
  |cons _ _ _ _ _ δ δs hs hd hc=>
   obtain⟨j,hj⟩:=hmem o zb;refine wpList_step λK hK=>?_
   have hfr:∀j,j<32->β (nx+32*i+j)=none:=by
    intro j _;cases hbj:β (nx+32*i+j) with
    |none=>rfl
    |some b=>have:=hb (nx+32*i+j) (.inl zd);omega
   have hpn:∀j,j<32->pin (nx+32*i+j)=none:=by
    intro j _;cases hbj:pin (nx+32*i+j) with
    |none=>rfl
    |some b=>have:=hb (nx+32*i+j) (.inr zd);omega
   refine Zo hR hfr hpn zd (λd hd=>zd) hs λa' w' β' ha' hd' hR' hb'=>?_;refine hK a' w'<|qa hdst l (i+1) _ _ δs β' a' w' (λo ho=>hmem o<|r9 _ ho) hc za hR' (λk hk=>?_) λa'' w'' β'' h1 hd'' h2 h3=>hQ a'' w'' β'' h1 (hd''.trans hd') h2 λk hk=>?_
   .rcases hk with hk|hk
    .rcases hb' k hk with h1|h1
     .have:=hb k (.inl h1);omega
     .omega
    .have:=hb k (.inr hk);omega
   .grind
end
def eD (e0:Nat->TV)(δ:Nat->Dl)(D:Nat->Bool):Nat->(Nat->TV)
 |0=>e0
 |k+1=>if D k=true then putF (δ k).dst (δ k).val (eD e0 δ D k) else eD e0 δ D k
def hD (h0:Nat->AObj)(δ:Nat->Dl)(D:Nat->Bool):Nat->(Nat->AObj)
 |0=>h0
 |k+1=>if D k=true then over (δ k).upd (hD h0 δ D k) else hD h0 δ D k
theorem wK {d:Option Nat}{v:TV}{e:Nat->TV}{t:Nat}(h:d=some t):putF d v e t=v:=by subst h;simp[putF,AM.upd]
theorem kx {d:Option Nat}{v:TV}{e:Nat->TV}{t:Nat}(h:d≠some t):putF d v e t=e t:=by
 cases d with
 |none=>rfl
 |some i=>simp only[putF,AM.upd];rw[oV λe=>h<|by rw[e]]
theorem wJ {u:AHeap}{h:Nat->AObj}{x:Nat}(hx:ya u x=none):over u h x=h x:=by simp[over,hx]
variable {e0:Nat->TV} {h0:Nat->AObj} {δ:Nat->Dl}
theorem Jc {D D':Nat->Bool}{t:Nat}:∀k,(∀j,j<k->(δ j).dst=some t->D j=D' j)->eD e0 δ D k t=eD e0 δ D' k t
 |0,_=>rfl
 |k+1,h=>by
  have ih:=Jc k (λj hj=>h j za);simp only[eD];by_cases hd:(δ k).dst=some t
  .have:=h k za hd;rw[this];split
   .rw[wK hd,wK hd]
   .exact ih
  .split<;>split<;>simp only[kx hd,ih]
theorem Wu {D D':Nat->Bool}{x:Nat}:∀k,(∀j,j<k->ya (δ j).upd x≠none->D j=D' j)->hD h0 δ D k x=hD h0 δ D' k x
 |0,_=>rfl
 |k+1,h=>by
  have ih:=Wu k (λj hj=>h j za);simp only[hD];cases hd:ya (δ k).upd x with
  |some y=>
   have:=h k za (by rw[hd];simp);rw[this];split
   .simp[over,hd]
   .exact ih
  |none=>split<;>split<;>simp only[wJ hd,ih]
def add (D:Nat->Bool)(i k:Nat):Bool:=if k=i then true else D k
theorem eD_add {D:Nat->Bool}{i t:Nat}(hi:D i=false):∀n,i<n->(∀j,i<j->j<n->D j=true->(δ i).dst=some t->(δ j).dst≠some t)->eD e0 δ (add D i) n t=putF (δ i).dst (δ i).val (eD e0 δ D n) t
 |0,h,_=>za
 |n+1,h,hno=>by
  by_cases hin:i=n
  .subst hin;simp only[eD,add,rG,hi,rF,rN];by_cases hd:(δ i).dst=some t
   .rw[wK hd,wK hd]
   .rw[kx hd,kx hd];exact Jc i (λj hj _=>by simp[add,(za:j≠i)])
  .have ih:=eD_add hi n za (λj h1 h2=>hno j h1 za);simp only[eD,add,show¬n=i from λe=>hin e.symm,rN];by_cases hDn:D n=true
   .simp only[hDn,rG];by_cases hd:(δ n).dst=some t
    .have hdi:(δ i).dst≠some t:=λhdi=>hno n za za hDn hdi hd;rw[wK hd,kx hdi,wK hd]
    .rw[kx hd];by_cases hdi:(δ i).dst=some t
     .rw[wK hdi];rw[wK hdi] at ih;exact ih
     .rw[kx hdi,kx hd];rw[kx hdi] at ih;exact ih
   .rw[oV hDn,oV hDn];exact ih
theorem hD_add {D:Nat->Bool}{i x:Nat}(hi:D i=false):∀n,i<n->(∀j,i<j->j<n->D j=true->ya (δ i).upd x≠none->ya (δ j).upd x=none)->hD h0 δ (add D i) n x=over (δ i).upd (hD h0 δ D n) x
 |0,h,_=>za
 |n+1,h,hno=>by
  by_cases hin:i=n
  .subst hin;simp only[hD,add,rG,hi,rF,rN];cases hd:ya (δ i).upd x with
   |some y=>simp[over,hd]
   |none=>
    rw[wJ hd,wJ hd];exact Wu i (λj hj _=>by simp[add,(za:j≠i)])
  .have ih:=hD_add hi n za (λj h1 h2=>hno j h1 za);simp only[hD,add,show¬n=i from λe=>hin e.symm,rN];by_cases hDn:D n=true
   .simp only[hDn,rG];cases hd:ya (δ n).upd x with
    |some y=>
     have hdi:ya (δ i).upd x=none:=by
      cases hdi:ya (δ i).upd x with
      |none=>rfl
      |some z=>have:=hno n za za hDn (by rw[hdi];simp);rw[hd] at this;cases this
     rw[wJ hdi];simp[over,hd]
    |none=>
     rw[wJ hd];cases hdi:ya (δ i).upd x with
     |some y=>simp only[over,hdi] at ih ⊢;exact ih
     |none=>rw[wJ hdi,wJ hd];rw[wJ hdi] at ih;exact ih
   .rw[oV hDn,oV hDn];exact ih
inductive Anc (ops:Array Oper)(i:Nat):Nat->Prop
 |one (j:Nat) (o:Oper) (e:Edge):ops[j]?=some o->e∈o.after->Region.binds .any e=true->e.on=i->Anc ops i j
 |more (j:Nat) (o:Oper) (e:Edge):ops[j]?=some o->e∈o.after->Region.binds .any e=true->Anc ops i e.on->Anc ops i j
theorem XJ {ops:Array Oper} {D:Nat->Bool} (hD:∀(j:Nat) (o:Oper) (e:Edge),ops[j]?=some o->D j=true->e∈o.after->Region.binds .any e=true->D e.on=true) {i j:Nat} (h:Anc ops i j)
  (hj:∀(o:Oper) (e:Edge),ops[j]?=some o->e∈o.after->Region.binds .any e=true->D e.on=true):D i=true:=by
 induction h with
 |one j o e h1 h2 h3 h4=>rw[<-h4];exact hj o e h1 h2 h3
 |more j o e h1 h2 h3 _ ih=>exact ih λo' e' g1 g2 g3=>hD _ o' e' g1 (hj o e h1 h2 h3) g2 g3
theorem XG {ops:Array Oper}(hedge:∀(j:Nat) (o:Oper) (e:Edge),ops[j]?=some o->e∈o.after->Region.binds .any e=true->e.on<j)(j i:Nat)(h:((Region.before ops).getD j 0).testBit i=true):Anc ops i j:=by
 let F:Array Nat->Oper->Array Nat:=λacc o=>acc.push<|o.after.foldl (λs e=>if Region.binds .any e then s ||| 2^e.on ||| acc.getD e.on 0 else s) 0
 have key:∀(l:List Oper) (k:Nat) (acc:Array Nat),(∀j,l[j]?=ops[k+j]?)->acc.size=k->(∀j,j<k->∀i,(acc.getD j 0).testBit i=true->Anc ops i j)->
   ∀j i,((l.foldl F acc).getD j 0).testBit i=true->Anc ops i j:=by
  intro l
  induction l with
  |nil=>
   intro k acc _ hsz hacc j i hb;simp only[List.foldl_nil] at hb;by_cases hj:j<k
   .exact hacc j hj i hb
   .rw[sc,Array.getElem?_eq_none za] at hb;simp at hb
  |cons o l ih=>
   intro k acc hl hsz hacc j i hb;simp only[tM] at hb;have h0:ops[k]?=some o:=by simpa using (hl 0).symm
   refine ih (k+1) (F acc o) (λj=>by have:=hl (j+1);simpa[tR,tX 1 j] using this) (by simp[F,hsz]) (λj hj i hb=>?_) j i hb;by_cases hjk:j<k
   .refine hacc j hjk i ?_;simp only[F,sc,sD,show¬j=acc.size by omega,rN] at hb;simpa[sc] using hb
   .have hjk:j=k:=za
    subst hjk;simp only[F,sc,sD,hsz,rG,sN] at hb
    have fold:∀(es:List Edge),(∀e∈es,e∈o.after)->∀s,(s.testBit i=true->Anc ops i j)->((es.foldl (λs e=>if Region.binds .any e then s ||| 2^e.on ||| acc.getD e.on 0 else s) s).testBit i=true)->Anc ops i j:=by
     intro es
     induction es with
     |nil=>intro _ s hs hb;exact hs hb
     |cons e es ih2=>
      intro hes s hs hb;simp only[tM] at hb;refine ih2 (λe h=>hes e<|r9 _ h) _ (λhb=>?_) hb;have hem:=hes e zb;split at hb
      .rename_i hbind;simp only[Nat.testBit_or,Nat.testBit_two_pow,tO,rL] at hb;rcases hb with(hb|hb)|hb
       .exact hs hb
       .exact .one j o e h0 hem hbind hb
       .have hlt:=hedge j o e h0 hem hbind;exact .more j o e h0 hem hbind<|hacc e.on hlt i hb
      .exact hs hb
    refine fold o.after.toList (λe h=>zo h) 0 (λh=>by simp at h) ?_;rw[<-Array.foldl_toList] at hb;simpa[sc] using hb
 have:=key ops.toList 0 #[] (λj=>zb) rfl (λj hj=>za) j i;apply this;rw[Array.foldl_toList];exact h
theorem gJ {P:Program}{ops:Array Oper}{nx:Nat}:∀ {l:List Oper} {i:Nat} {e:Nat->TV} {h:Nat->AObj} {δs:List Dl},Chain P ops nx l i e h δs->δs.length=l.length/\
  ∀k o,l[k]?=some o->∃d,δs[k]?=some d/\d.dst=o.dst/\OpStep P ops o (nx+32*(i+k)) (endE e<|δs.take k) (endH h<|δs.take k) d
 |[],i,e,h,δs,hc=>by cases hc;exact⟨rfl,λk o ho=>by simp at ho⟩
 |o::l,i,e,h,δs,hc=>by
  cases hc with
  |cons _ _ _ _ _ d δs hs hd hc=>
   obtain⟨h1,h2⟩:=gJ hc;refine⟨by simp[h1],λk o' ho=>?_⟩;cases k with
   |zero=>simp at ho;subst ho;exact⟨d,rfl,hd,by simpa[endE,endH] using hs⟩
   |succ k=>
    obtain⟨d',g1,g2,g3⟩:=h2 k o' (zo ho);refine⟨d',zo g1,g2,?_⟩;rw[(za:i+(k+1)=i+1+k)];simpa[endE,endH] using g3
theorem iE (e0:Nat->TV)(δs:List Dl)(dflt:Dl)(D:Nat->Bool):∀k,k<=δs.length->(∀j,j<k->D j=true)->endE e0 (δs.take k)=eD e0 (λj=>δs.getD j dflt) D k:=by
 have snoc:∀(l:List Dl) (e:Nat->TV) (d:Dl),endE e (l++[d])=putF d.dst d.val (endE e l):=by
  intro l;induction l with
  |nil=>intro e d;rfl
  |cons x l ih=>intro e d;exact ih _ _
 intro k
 induction k with
 |zero=>intro _ _;rfl
 |succ k ih=>
  intro hk hD;have hlt:k<δs.length:=za
  rw[List.take_succ_eq_append_getElem hlt,snoc,ih za λj hj=>hD j za];simp only[eD,hD k za,rG,getD,rf hlt,sN]
theorem mT (h0:Nat->AObj)(δs:List Dl)(dflt:Dl)(D:Nat->Bool):∀k,k<=δs.length->(∀j,j<k->D j=true)->endH h0 (δs.take k)=hD h0 (λj=>δs.getD j dflt) D k:=by
 have snoc:∀(l:List Dl) (h:Nat->AObj) (d:Dl),endH h (l++[d])=over d.upd (endH h l):=by
  intro l;induction l with
  |nil=>intro h d;rfl
  |cons x l ih=>intro h d;exact ih _ _
 intro k
 induction k with
 |zero=>intro _ _;rfl
 |succ k ih=>
  intro hk hDD;have hlt:k<δs.length:=za
  rw[List.take_succ_eq_append_getElem hlt,snoc,ih za λj hj=>hDD j za];simp only[hD,hDD k za,rG,getD,rf hlt,sN]
def upTo (i j:Nat):Bool:=decide (j<i)
theorem nM (e0:Nat->TV)(δ:Nat->Dl)(i:Nat):∀n,i<=n->eD e0 δ (upTo i) n=eD e0 δ (upTo i) i
 |0,h=>by have:i=0:=za
          subst this;rfl
 |n+1,h=>by
  by_cases hin:i=n+1
  .rw[hin]
  .simp only[eD];rw[oV<|by simp[upTo];omega];exact nM e0 δ i n za
theorem ng (h0:Nat->AObj)(δ:Nat->Dl)(i:Nat):∀n,i<=n->hD h0 δ (upTo i) n=hD h0 δ (upTo i) i
 |0,h=>by have:i=0:=za
          subst this;rfl
 |n+1,h=>by
  by_cases hin:i=n+1
  .rw[hin]
  .simp only[hD];rw[oV<|by simp[upTo];omega];exact ng h0 δ i n za
theorem Yr {u:AHeap}{x:Nat}(h:ya u x≠none):x∈u.map Prod.fst:=by
 cases hx:ya u x with
 |none=>exact absurd hx h
 |some y=>exact rK.2 ⟨_,uO hx,rfl⟩
theorem pk {ops:Array Oper}{tr:wd}(h:WH ops tr=true):
  (∀(j:Nat) (o:Oper) (e:Edge),ops[j]?=some o->e∈o.after->Region.binds .any e=true->e.on<j)/\
  ∀(i j:Nat) (oi oj:Oper) (xi xj:List Nat×List Nat),i<j->ops[i]?=some oi->ops[j]?=some oj->tr.reverse[i]?=some xi->tr.reverse[j]?=some xj->((Region.before ops).getD j 0).testBit i=false->
   oi.apart ops oj=true/\(∀o∈xi.2,o ∉ xj.1/\o ∉ xj.2)/\(∀o∈xj.2,o ∉ xi.1):=by
 simp only[WH,oZ] at h;obtain⟨⟨_,h1⟩,h2⟩:=h;refine⟨λj o e ho he hb=>?_,λi j oi oj xi xj hij hoi hoj hxi hxj hbit=>?_⟩
 .have:=rP.1 h1 (o,j) (by rw[tP];exact zo ho);have:=sj.1 this e he;simpa[hb] using this
 .have hy:((oj,xj),j)∈(ops.toList.zip tr.reverse).zipIdx:=by
   rw[tP];simp only[hH];exact⟨zo hoj,hxj⟩
  have hx:((oi,xi),i)∈(ops.toList.zip tr.reverse).zipIdx:=by
   rw[tP];simp only[hH];exact⟨zo hoi,hxi⟩
  have h3:=rP.1 (rP.1 h2 _ hy) _ hx;simp only[hij,decide_true,Bool.not_true,tS,hbit,oZ,rP,sX,sS,decide_eq_false_iff_not] at h3;exact⟨h3.1.1,h3.1.2,h3.2⟩
section
variable {P:Program} {w0:World} {foot:Nat->Prop} {Y:Nat->Prop} {pin:Nat->Option (Option Nat)}
theorem kN {e e':Nat->TV}{h h':Nat->AObj}{β:Nat->Option Nat}{a:Act}{w:World}(hR:RelF P w0 foot Y pin e h β a w)(he:∀t,e' t=e t)(hh:∀o,h' o=h o):RelF P w0 foot Y pin e' h' β a w:=by
 have:e'=e:=funext he;have:h'=h:=funext hh
 grind
theorem XF {ops:Array Oper} {nx sz:Nat} {e0:Nat->TV} {h0:Nat->AObj} {δs:List Dl} {tr:wd} (hch:Chain P ops nx ops.toList 0 e0 h0 δs) (htr:tr=(δs.map λδ=>(δ.rd,δ.upd.map Prod.fst)).reverse) (hB:WH ops tr=true)
  (hdst:∀(j:Nat) (q:Oper) (d:Nat),ops[j]?=some q->q.dst=some d->d<sz) {Q:Exit->Act->World->Prop}
  (hQ:∀a' w' β',a'.tmps.size=sz->RelF P w0 foot Y pin (endE e0 δs) (endH h0 δs) β' a' w'->(∀k,Occ pin β' k->k<nx+32*ops.size)->Q .normal a' w'):
  ∀(fuel:Nat) (listed:Array Bool) (β:Nat->Option Nat) (a:Act) (w:World),listed.size=ops.size->((List.range ops.size).filter λi=> !listed.getD i true).length=fuel->
   (∀(j:Nat) (o:Oper) (e:Edge),ops[j]?=some o->listed.getD j false=true->e∈o.after->Region.binds .any e=true->listed.getD e.on false=true)->
   a.tmps.size=sz->RelF P w0 foot Y pin (eD e0 (λj=>δs.getD j ⟨none,.any,[],[]⟩) (λj=>listed.getD j false) ops.size) (hD h0 (λj=>δs.getD j ⟨none,.any,[],[]⟩) (λj=>listed.getD j false) ops.size) β a w->
   (∀k,Occ pin β k->k<nx\/∃i,i<ops.size/\listed.getD i false=true/\nx+32*i<=k/\k<nx+32*(i+1))->wpAny P .any ops Q fuel listed a w:=by
 obtain⟨hedge,hpair⟩:=pk hB;obtain⟨hlen,hget⟩:=gJ hch;simp only[tB,Array.getElem?_toList,rB] at hlen hget
 let dflt:Dl:=⟨none,.any,[],[]⟩
 let δ:Nat->Dl:=λj=>δs.getD j dflt
 have hδ:∀j o,ops[j]?=some o->∃d,δs[j]?=some d/\δ j=d/\d.dst=o.dst/\tr.reverse[j]?=some (d.rd,d.upd.map Prod.fst):=by
  intro j o ho;obtain⟨d,h1,h2,_⟩:=hget j o ho
  grind
 intro fuel
 induction fuel with
 |zero=>
  intro listed β a w hsz hcount hclosed hasz hR hb
  have hall:∀i,i<ops.size->listed.getD i true=true:=by
   intro i hi;have:=rk hcount;have h2:=List.filter_eq_nil_iff.1 this i (zo hi)
   grind
  have hfull:∀i,i<ops.size->listed.getD i false=true:=by
   intro i hi;have:=hall i hi;simp only[sc,sB (za:i<listed.size),sN] at this ⊢;exact this
  refine⟨?_,hQ a w β hasz (kN hR (λt=>?_) λo=>?_) λk hk=>?_⟩
  .unfold Region.ready;rw[List.filter_eq_nil_iff];intro i hi;simp only[List.mem_range] at hi;simp[hall i hi]
  .have:=iE e0 δs dflt (λj=>listed.getD j false) ops.size za λj hj=>hfull j hj;rw[ro za] at this;rw[this]
  .have:=mT h0 δs dflt (λj=>listed.getD j false) ops.size za λj hj=>hfull j hj;rw[ro za] at this;rw[this]
  .rcases hb k hk with h1|⟨i,h1,_,_,h4⟩<;>omega
 |succ fuel ih=>
  intro listed β a w hsz hcount hclosed hasz hR hb;refine⟨λhready=>?_,λi hi=>?_⟩
  .
   exfalso
   have hex:∃i,i<ops.size/\listed.getD i true=false:=by
    have hne:((List.range ops.size).filter λi=> !listed.getD i true)≠[]:=by intro e;rw[e] at hcount;simp at hcount
    obtain⟨i,hi⟩:=List.exists_mem_of_ne_nil _ hne;rw[tQ] at hi;exact⟨i,zo hi.1,zo hi.2⟩
   have hmin:∀n,(∃i,i<n/\i<ops.size/\listed.getD i true=false)->∃i,i<ops.size/\listed.getD i true=false/\∀j,j<i->listed.getD j true=true:=by
    intro n
    induction n with
    |zero=>rintro ⟨i,hi,_⟩;omega
    |succ n ih2=>
     rintro ⟨i,hi,hi2,hi3⟩;by_cases hlow:∃i,i<n/\i<ops.size/\listed.getD i true=false
     .exact ih2 hlow
     .have hin:i=n:=by
       by_cases e:i<n
       .exact absurd ⟨i,e,hi2,hi3⟩ hlow
       .omega
      subst hin;refine⟨i,hi2,hi3,λj hj=>?_⟩;cases hj2:listed.getD j true with
      |true=>rfl
      |false=>exact absurd ⟨j,hj,za,hj2⟩ hlow
   obtain⟨i0,h1,h2⟩:=hex;obtain⟨i,hi1,hi2,hi3⟩:=hmin ops.size ⟨i0,h1,h1,h2⟩
   have hmem:i∈Region.ready .any ops listed:=by
    rw[mem_ready];refine⟨hi2,ops[i],sB hi1,λe he hbe=>?_⟩;have hlt:=hedge i ops[i] e (sB hi1) he hbe;have:=hi3 e.on hlt;have hls:e.on<listed.size:=za
    simp only[sc,sB hls,sN] at this ⊢;exact this
   rw[hready] at hmem;cases hmem
  .obtain⟨hiun,o,ho,hafter⟩:=mem_ready.1 hi;have hilt:i<ops.size:=(sG.1 ho).1
   have hiun':listed.getD i false=false:=by
    simp only[sc,sB (za:i<listed.size),sN] at hiun ⊢;exact hiun
   obtain⟨d,hd1,hd2,hd3,hd4⟩:=hδ i o ho
   have hanc_i:∀j,Anc ops j i->listed.getD j false=true:=λj hj=>XJ (D:=λj=>listed.getD j false) hclosed hj (λo' e h1 h2 h3=>by
    rw[ho] at h1;injection h1 with h1;subst h1;exact hafter e h2 h3)
   have hanc_j:∀j,listed.getD j false=true->¬Anc ops i j:=λj hj hanc=>by
    have:=XJ (D:=λj=>listed.getD j false) hclosed hanc λo' e h1 h2 h3=>hclosed j o' e h1 hj h2 h3;rw[hiun'] at this;cases this
   have hord:∀j,j<ops.size->j≠i->(listed.getD j false=upTo i j)\/(∃oj dj,ops[j]?=some oj/\δ j=dj/\dj.dst=oj.dst/\
     ((j<i/\oj.apart ops o=true/\(∀x∈dj.upd.map Prod.fst,x ∉ d.rd/\x ∉ d.upd.map Prod.fst)/\(∀x∈d.upd.map Prod.fst,x ∉ dj.rd))\/
      (i<j/\o.apart ops oj=true/\(∀x∈d.upd.map Prod.fst,x ∉ dj.rd/\x ∉ dj.upd.map Prod.fst)/\(∀x∈dj.upd.map Prod.fst,x ∉ d.rd)))):=by
    intro j hj hne;have hoj:ops[j]?=some ops[j]:=sB hj;obtain⟨dj,g1,g2,g3,g4⟩:=hδ j _ hoj;rcases Nat.lt_or_gt_of_ne hne with hlt|hgt
    .cases hbit:((Region.before ops).getD i 0).testBit j with
     |true=>
      have:=hanc_i j<|XG hedge i j hbit
      exact .inl (by rw[this];simp[upTo,hlt])
     |false=>
      have:=hpair j i _ o _ _ hlt hoj ho g4 hd4 hbit;exact .inr ⟨_,dj,hoj,g2,g3,.inl ⟨hlt,this.1,this.2.1,this.2.2⟩⟩
    .cases hbit:((Region.before ops).getD j 0).testBit i with
     |true=>
      have hanc:=XG hedge j i hbit
      have:listed.getD j false=false:=by
       cases hl:listed.getD j false with
       |false=>rfl
       |true=>exact absurd hanc<|hanc_j j hl
      exact .inl (by rw[this];simp[upTo];omega)
     |false=>
      have:=hpair i j o _ _ _ hgt ho hoj hd4 g4 hbit;exact .inr ⟨_,dj,hoj,g2,g3,.inr ⟨hgt,this.1,this.2.1,this.2.2⟩⟩
   have hstep:OpStep P ops o (nx+32*i) (eD e0 δ (λj=>listed.getD j false) ops.size) (hD h0 δ (λj=>listed.getD j false) ops.size) d:=by
    obtain⟨d',h1,_,h3⟩:=hget i o ho;rw[hd1] at h1;injection h1 with h1;subst h1
    have e1:=iE e0 δs dflt (upTo i) i za (λj hj=>by simp[upTo,hj]);have e2:=mT h0 δs dflt (upTo i) i za (λj hj=>by simp[upTo,hj]);rw[e1,e2,<-nM e0 _ i ops.size za,<-ng h0 _ i ops.size za] at h3;refine JP h3 (λt ht=>?_) λx hx=>?_
    .refine Jc ops.size λj hj hdj=>?_;by_cases hji:j=i
     .subst hji;rw[hiun'];simp[upTo]
     .rcases hord j hj hji with h4|⟨oj,dj,g1,g2,g3,h5⟩
      .exact h4
      .exfalso
       have hdj':oj.dst=some t:=by
        have:δ j=dj:=g2;rw[<-g3,<-this];exact hdj
       rcases h5 with⟨_,hap,_⟩|⟨_,hap,_⟩
       .exact(Oper.apart_spec hap).1 t hdj' ht
       .exact(Oper.apart_spec hap).2.2 t hdj' ht
    .refine Wu ops.size λj hj hdj=>?_;by_cases hji:j=i
     .subst hji;rw[hiun'];simp[upTo]
     .rcases hord j hj hji with h4|⟨oj,dj,g1,g2,g3,h5⟩
      .exact h4
      .exfalso
       have hxu:x∈dj.upd.map Prod.fst:=by
        have:δ j=dj:=g2;rw[<-this];exact Yr hdj
       rcases h5 with⟨_,_,h6,_⟩|⟨_,_,_,h6⟩
       .exact(h6 x hxu).1 hx
       .exact h6 x hxu hx
   have hfr:∀j,j<32->β (nx+32*i+j)=none:=by
    intro j hj;cases hbj:β (nx+32*i+j) with
    |none=>rfl
    |some b=>
     rcases hb _ (.inl (by rw[hbj];simp:β (nx+32*i+j)≠none)) with h1|⟨i',h1,h2,h3,h4⟩
     .omega
     .have:i'=i:=za
      subst this;rw[hiun'] at h2;cases h2
   have hpn:∀j,j<32->pin (nx+32*i+j)=none:=by
    intro j hj;cases hbj:pin (nx+32*i+j) with
    |none=>rfl
    |some b=>
     rcases hb _ (.inr (by rw[hbj];simp:pin (nx+32*i+j)≠none)) with h1|⟨i',h1,h2,h3,h4⟩
     .omega
     .have:i'=i:=za
      subst this;rw[hiun'] at h2;cases h2
   unfold wpOp;rw[ho];simp only
   have hset:∀j,(listed.setIfInBounds i true).getD j false=add (λj=>listed.getD j false) i j:=by
    intro j;simp only[add];by_cases hji:j=i
    .subst hji;simp[(za:j<listed.size)]
    .rw[oV hji];exact getD_set_ne false λe=>hji e.symm
   have hgo:=Zo (o:=o) (fr:=nx+32*i) hR hfr hpn (by rw[hasz];exact hdst) (λdd hdd=>by rw[hasz];exact hdst i o dd ho hdd) hstep
    (K:=wpAny P .any ops Q fuel<|listed.setIfInBounds i true) (Q:=Q) (λa' w' β' ha' _ hR' hb'=>by
     refine ih (listed.setIfInBounds i true) β' a' w' (zo hsz) ?_ ?_ (by rw[ha',hasz]) (kN hR' (λt=>?_) λx=>?_) (λk hk=>?_)
     .
      have hperm:((List.range ops.size).filter λk=> !(listed.setIfInBounds i true).getD k true)=((List.range ops.size).filter λk=> !listed.getD k true).filter (λk=>k !=i):=by
       rw[List.filter_filter];apply List.filter_congr;intro k _;by_cases hki:k=i
       .subst hki;simp[(za:k<listed.size)]
       .rw[getD_set_ne true λe=>hki e.symm];simp[hki]
      rw[hperm];have hnd:((List.range ops.size).filter λk=> !listed.getD k true).Nodup:=List.Pairwise.filter _ List.nodup_range
      have hmem:i∈(List.range ops.size).filter λk=> !listed.getD k true:=by
       rw[tQ];exact⟨zo hilt,by rw[hiun];rfl⟩
      have hc:(((List.range ops.size).filter λk=> !listed.getD k true).filter λk=>k !=i).length+1=((List.range ops.size).filter λk=> !listed.getD k true).length:=by
       have:((List.range ops.size).filter λk=> !listed.getD k true).filter (λk=>k !=i)=((List.range ops.size).filter λk=> !listed.getD k true).erase i:=by
        rw[List.Nodup.erase_eq_filter hnd]
       rw[this,List.length_erase_of_mem hmem];have:=List.length_pos_of_mem hmem;omega
      omega
     .intro j oj e h1 h2 h3 h4;rw[hset] at h2 ⊢;simp only[add] at h2 ⊢;split
      .rfl
      .split at h2
       .rename_i hji;subst hji;rw[ho] at h1;injection h1 with h1;subst h1
        exact hafter e h3 h4
       .exact hclosed j oj e h1 h2 h3 h4
     .show eD e0 δ _ ops.size t=_;have he:(λj=>(listed.setIfInBounds i true).getD j false)=add (λj=>listed.getD j false) i:=funext hset;rw[he,eD_add (by exact hiun') ops.size hilt λj h1 h2 h3 h4=>?_]
      .rw[show δ i=d from hd2]
      .intro h5;rcases hord j h2 za with h6|⟨oj,dj,g1,g2,g3,h7⟩
       .rw[h6] at h3;simp[upTo] at h3;omega
       .have hdi:o.dst=some t:=by rw[<-hd3,<-hd2];exact h4
        have hdj:oj.dst=some t:=by rw[<-g3,<-g2];exact h5
        rcases h7 with⟨h8,_⟩|⟨_,hap,_⟩
        .omega
        .exact(Oper.apart_spec hap).2.1 t hdi hdj
     .show hD h0 δ _ ops.size x=_;have he:(λj=>(listed.setIfInBounds i true).getD j false)=add (λj=>listed.getD j false) i:=funext hset;rw[he,hD_add (by exact hiun') ops.size hilt λj h1 h2 h3 h4=>?_]
      .rw[show δ i=d from hd2]
      .rcases hord j h2 za with h6|⟨oj,dj,g1,g2,g3,h7⟩
       .rw[h6] at h3;simp[upTo] at h3;omega
       .have hdi:x∈d.upd.map Prod.fst:=by rw[<-hd2];exact Yr h4
        rcases h7 with⟨h8,_⟩|⟨_,_,h9,_⟩
        .omega
        .have:=(h9 x hdi).2;rw[<-g2] at this;cases hf:ya (δ j).upd x with
         |none=>rfl
         |some y=>exact absurd (Yr<|by rw[hf];simp) this
     .rcases(show Occ pin β k\/(nx+32*i<=k/\k<nx+32*i+32) from hk.elim (λhk=>(hb' k hk).imp .inl id) λhk=>.inl<|.inr hk) with h1|h1
      .rcases hb k h1 with h2|⟨i',h2,h3,h4,h5⟩
       .exact .inl h2
       .refine .inr ⟨i',h2,?_,h4,h5⟩;rw[hset];simp only[add];split
        .rfl
        .exact h3
      .refine .inr ⟨i,hilt,?_,za,za⟩;rw[hset];simp[add])
   split at hgo
   next hw=>rw[oX hw];exact .inl hgo
   next hw=>rw[oV hw];exact hgo
theorem KH {id:Nat} {ops:Array Oper} {dr:Bool} {s:St} {β:Nat->Option Nat} {a:Act} {w:World} {Q:Exit->Act->World->Prop} {R:St->Prop} (hm:P.follows .mixedOrders=true) (hdst:dstB ops a.tmps.size=true)
  (hl:lex P ops s.nx ops.toList 0 s.env s.heap [] λe h tr=>(dr=true->WH ops tr=true)/\R ⟨e,h,s.nx+32*ops.size⟩)
  (hR:RelF P w0 foot Y pin (look s.env) (hook s.heap) β a w) (hb:∀k,Occ pin β k->k<s.nx)
  (hQ:∀s' a' w' β',R s'->a'.tmps.size=a.tmps.size->RelF P w0 foot Y pin (look s'.env) (hook s'.heap) β' a' w'->(∀k,Occ pin β' k->k<s'.nx)->Q .normal a' w'):(Code.region id ops dr).wp P Q a w:=by
 have hdst':∀(j:Nat) (q:Oper) (d:Nat),ops[j]?=some q->q.dst=some d->d<a.tmps.size:=by
  intro j q d hq hd;have:=sj.1 hdst q<|tT hq
  rw[hd] at this;exact zo this
 obtain⟨δs,e',h',tr',hch,he,hh,htr,hdraw,hRR⟩:=jE _ _ _ _ _ hl;rw[rp] at htr
 have hfin:∀a' w' β',a'.tmps.size=a.tmps.size->RelF P w0 foot Y pin (endE (look s.env) δs) (endH (hook s.heap) δs) β' a' w'->(∀k,Occ pin β' k->k<s.nx+32*ops.size)->Q .normal a' w':=by
  intro a' w' β' h1 h2 h3;refine hQ _ a' w' β' hRR h1 ?_ h3;show RelF P w0 foot Y pin (look e') (hook h') β' a' w';rw[he,hh];exact h2
 cases dr with
 |false=>
  refine wp_region_list<|qa hdst' ops.toList 0 _ _ δs β a w (λo ho=>?_) hch rfl hR (zo hb) λa' w' β' h1 _ h2 h3=>hfin a' w' β' h1 h2<|zo h3
  obtain⟨j,hj⟩:=sP ho;exact⟨j,zo hj⟩
 |true=>
  refine wp_region_any hm ?_
  have hR':RelF P w0 foot Y pin (look s.env) (hook s.heap) β a {w with drawn:=w.drawn+1}:=by
   have g:Goes w {w with drawn:=w.drawn+1} (XO Y (hook s.heap) β) (XO Y (hook s.heap) β) β β:=⟨r6 _,λb hb _=>⟨rfl,hb⟩,λ_ _=>rfl,λo b hb=>⟨hb,hR.objs.lt o b hb⟩⟩
   exact⟨hR.good.drew,λi=>(hR.env i).goes g,⟨λo b h1 h2=>(hR.objs.rep o b h1 h2).goes g rfl,hR.objs.has,hR.objs.inj,hR.objs.lt⟩,hR.own,hR.defers,hR.ylt,hR.pins,hR.gl⟩
  have hfalse:∀i,(Array.replicate ops.size false).getD i false=false:=by
   intro i;by_cases hi:i<ops.size
   .simp[hi]
   .simp[hi]
  refine XF (w0:=w0) (foot:=foot) (Y:=Y) hch htr (hdraw rfl) hdst' hfin ops.size _ β a _ zb ?_ (λj o e _ h2=>by rw[hfalse] at h2;cases h2) rfl (kN hR' (λt=>?_) λx=>?_) λk hk=>.inl<|hb k hk
  .have:((List.range ops.size).filter λi=> !(Array.replicate ops.size false).getD i true)=List.range ops.size:=by
    apply hJ.2;intro i hi;simp only[List.mem_range] at hi;simp[hi]
   rw[this];simp
  .have key:∀n,eD (look s.env) (λj=>δs.getD j ⟨none,.any,[],[]⟩) (λj=>(Array.replicate ops.size false).getD j false) n=look s.env:=by
    intro n;induction n with
    |zero=>rfl
    |succ n ih=>simp only[eD];rw[oV<|by rw[hfalse];simp];exact ih
   rw[key]
  .have key:∀n,hD (hook s.heap) (λj=>δs.getD j ⟨none,.any,[],[]⟩) (λj=>(Array.replicate ops.size false).getD j false) n=hook s.heap:=by
    intro n;induction n with
    |zero=>rfl
    |succ n ih=>simp only[hD];rw[oV<|by rw[hfalse];simp];exact ih
   rw[key]
end
section
variable {w:World} {h h':Nat->AObj} {β:Nat->Option Nat} {Y:Nat->Prop} {σ:Nat->Nat} {E:Lent} {n':Nat}
def cutβ (σ:Nat->Nat)(n':Nat)(β:Nat->Option Nat)(o:Nat):Option Nat:=if o<n' then β (σ o) else none
theorem lZ (hO:Objs h β Y w) {L:Lent} (hL:L.ok h) {Z:Nat->Prop} (hZ:∀b,¬XO Y h β b->¬Z b) (hLZ:∀p∈L,∀b,β p.1=some b->¬Z b)
  {x:AObj} {b:Nat} (hx:ORep w (XO Y h β) β x b):ORep w Z β (x.lend L) b:=by
 have g:Goes w w (XO Y h β) Z β β:=⟨r6 _,λb hb _=>⟨rfl,hZ b hb⟩,λ_ _=>rfl,λo b hb=>⟨hb,hO.lt o b hb⟩⟩;cases x with
 |gone=>trivial
 |arz n fs=>exact hx.goes g rfl
 |mapo es=>exact hx.goes g rfl
 |mapz es=>exact hx.goes g rfl
 |arr n es=>
  obtain⟨us,t,h1,h2,h3,h4⟩:=hx;refine⟨us,t,h1,zo h2,λe he=>?_,λi j e c he hc=>?_⟩
  .obtain⟨e',he',rfl⟩:=rK.1 he;simp[h3 e' he']
  .rw[rq] at he;obtain⟨e',he',rfl⟩:=oY.1 he;rw[rq] at hc;obtain⟨c',hc',rfl⟩:=oY.1 hc;obtain⟨u,hu,hr⟩:=h4 i j e' c' he' hc';exact⟨u,hu,kg hO hL hZ hLZ (x:=.c c') hr⟩
theorem lG {x:AObj}{L:Lent}:isLive (x.lend L)↔isLive x:=by cases x<;>exact Iff.rfl
theorem live_ren {x:AObj}:isLive (x.ren σ)↔isLive x:=by cases x<;>exact Iff.rfl
theorem pD {x:AObj}{L:Lent}(h:bareO x):bareO (x.lend L):=by
 obtain⟨n,h⟩:=h;cases x with
 |arr m es=>simp only[flat,AObj.arr.injEq] at h;rw[h.2];exact⟨m,rfl⟩
 |arz m fs=>exact⟨n,h⟩
 |_=>exact⟨n,h⟩
structure Weak (h h':Nat->AObj)(σ:Nat->Nat)(E:Lent)(n':Nat):Prop where
 ok:E.ok h
 obj:∀o,isLive (h' o)->o<n'/\flat ((h<|σ o).lend E)=flat ((h' o).ren σ)/\(h' o).lt n'=true/\∀q∈E,q.1≠σ o
 inj:∀o o',isLive (h' o)->isLive (h' o')->σ o=σ o'->o=o'
theorem Weak.live (k:Weak h h' σ E n'){o:Nat}(ho:isLive<|h' o):isLive (h<|σ o):=by
 have:=(k.obj o ho).2.1;rw[<-lG (L:=E),<-w4,this,w4,live_ren];exact ho
theorem Weak.own (k:Weak h h' σ E n'){b:Nat}(hb:Own h' (cutβ σ n' β) b):Own h β b:=by
 obtain⟨o,h1,h2⟩:=hb;simp only[cutβ] at h2;split at h2
 .exact⟨σ o,k.live h1,h2⟩
 .cases h2
theorem Weak.xo (k:Weak h h' σ E n'){b:Nat}(hb:¬XO Y h β b):¬XO Y h' (cutβ σ n' β) b:=λhx=>by
 rcases hx with h1|h1
 .exact hb<|.inl h1
 .exact hb<|.inr<|k.own h1
theorem Weak.given (k:Weak h h' σ E n')(hO:Objs h β Y w):∀p∈E,∀b,β p.1=some b->¬XO Y h' (cutβ σ n' β) b:=by
 intro p hp b hb hx;have hl:isLive (h p.1):=by rw[<-w4,k.ok p hp];trivial
 rcases hx with h1|⟨o,h1,h2⟩
 .exact(hO.here hl hb).2 h1
 .simp only[cutβ] at h2;split at h2
  .exact(k.obj o h1).2.2.2 p hp<|hO.inj _ _ b hl (k.live h1) hb h2
  .cases h2
theorem Weak.rep (k:Weak h h' σ E n')(hO:Objs h β Y w){x y:TV}{v:Value}(hx:TRep w (XO Y h β) β x v)(hle:TV.Le (x.lend E)<|y.ren σ)(hlt:y.lt n'=true):TRep w (XO Y h'<|cutβ σ n' β) (cutβ σ n' β) y v:=by
 have h1:=TRep.le hle<|kg hO k.ok (λb hb=>k.xo hb) (k.given hO) hx
 exact TRep.unmap (m:=n') (λ_ _ h=>h) (λo b ho hb=>by simp only[cutβ,ho,rG];exact hb) hlt h1
theorem Weak.objs (k:Weak h h' σ E n')(hO:Objs h β Y w):Objs h' (cutβ σ n' β) Y w:=by
 have hcut:∀o b,cutβ σ n' β o=some b->β (σ o)=some b:=λo b hb=>by
  simp only[cutβ] at hb;split at hb
  .exact hb
  .cases hb
 refine⟨λo b h1 h2=>?_,λo h1=>?_,λo o' b h1 h2 h3 h4=>k.inj o o' h1 h2<|hO.inj _ _ b (k.live h1) (k.live h2) (hcut _ _ h3)<|hcut _ _ h4,λo b hb=>hO.lt _ b<|hcut o b hb⟩
 .obtain⟨g1,g2,g3,_⟩:=k.obj o h1;have hr:=lZ hO k.ok (λb hb=>k.xo hb) (k.given hO)<|hO.rep (σ o) b (k.live h1)<|hcut o b h2
  have hr2:=(gv g2).1 hr;exact ORep.unmap (m:=n') (λ_ _ h=>h) (λo b ho hb=>by simp only[cutβ,ho,rG];exact hb) g3 hr2
 .rcases hO.has (σ o) (k.live h1) with⟨b,h2,h3,h4⟩|⟨h2,h3⟩
  .exact .inl ⟨b,by simp only[cutβ,(k.obj o h1).1,rG];exact h2,h3,h4⟩
  .refine .inr ⟨?_,by simp only[cutβ,(k.obj o h1).1,rG];exact h3⟩;obtain⟨n,hn⟩:=pD (L:=E) h2;refine Y4 (σ:=σ) |>.1 ⟨n,?_⟩
   rw[<-(k.obj o h1).2.1];exact hn
end
def Sle (m:Nat)(s s':St):Prop:=∃(σ:Nat->Nat) (E:Lent),Lent.ok E (hook s.heap)/\m<=s'.nx/\(∀o,o<m->σ o=o)/\
 (∀p∈s'.env,TV.Le ((look s.env p.1).lend E) (p.2.ren σ)/\p.2.lt s'.nx=true)/\
 (∀p∈s'.heap,isLive p.2->p.1<s'.nx/\flat ((hook s.heap<|σ p.1).lend E)=flat (p.2.ren σ)/\p.2.lt s'.nx=true/\∀q∈E,q.1≠σ p.1)/\
 (∀p∈s'.heap,∀q∈s'.heap,isLive p.2->isLive q.2->σ p.1=σ q.1->p.1=q.1)
theorem ZH:∀ {l:AHeap} {o:Nat},isLive (hook l o)->(o,hook l o)∈l
 |[],_,h=>h.elim
 |(j,v)::l,o,h=>by
  simp only[hook] at h ⊢;split at h
  next e=>rw[oX e,<-e];exact r7
  next e=>rw[oV e];exact r9 _<|ZH h
theorem JG:∀ {l:Env} {i:Nat},look l i=.any\/(i,look l i)∈l
 |[],_=>.inl rfl
 |(j,v)::l,i=>by
  simp only[look];split
  next e=>rw[<-e];exact .inr r7
  .rcases JG (l:=l) (i:=i) with h|h
   .exact .inl h
   .exact .inr<|r9 _ h
section
variable {P:Program} {w0:World} {foot:Nat->Prop} {Y:Nat->Prop} {pin:Nat->Option (Option Nat)} {n m:Nat}
theorem iY {u:AHeap} {h:Nat->AObj} {σ:Nat->Nat} {E:Lent} {n':Nat} (hE:E.ok h) (ho:∀p∈u,isLive p.2->p.1<n'/\flat ((h<|σ p.1).lend E)=flat (p.2.ren σ)/\p.2.lt n'=true/\∀q∈E,q.1≠σ p.1)
  (hi:∀p∈u,∀q∈u,isLive p.2->isLive q.2->σ p.1=σ q.1->p.1=q.1):Weak h (hook u) σ E n':=
 ⟨hE,λ_ hl=>ho _ (ZH hl) hl,λ_ _ h1 h2 e=>hi _ (ZH h1) _ (ZH h2) h1 h2 e⟩
theorem WO {s s':St}(hs:Sle m s s')(hm:∀o b,pin o=some b->o<m){β:Nat->Option Nat}{a:Act}{w:World}(hR:RelF P w0 foot Y pin (look s.env) (hook s.heap) β a w):
  ∃β',RelF P w0 foot Y pin (look s'.env) (hook s'.heap) β' a w/\∀k,Occ pin β' k->k<s'.nx:=by
 obtain⟨σ,E,hE,hmn,hσ,he,hh,hi⟩:=hs;have k:=iY hE hh hi;refine⟨cutβ σ s'.nx β,⟨hR.good,λi=>?_,k.objs hR.objs,λo b h1 h2=>?_,hR.defers,hR.ylt,λo b hb=>?_,hR.gl⟩,λo ho=>?_⟩
 .rcases JG (l:=s'.env) (i:=i) with h1|h1
  .rw[h1];trivial
  .exact k.rep hR.objs (hR.env i) (he _ h1).1 (he _ h1).2
 .simp only[cutβ] at h2;split at h2
  .exact hR.own _ b (k.live h1) h2
  .cases h2
 .have h1:=hm o b hb;simp only[cutβ,(za:o<s'.nx),rG,hσ o h1];exact hR.pins o b hb
 .rcases ho with ho|ho
  .simp only[cutβ] at ho;split at ho
   .assumption
   .exact absurd rfl ho
  .cases hp:pin o with
   |none=>exact absurd hp ho
   |some x=>have:=hm o x hp;omega
inductive AExit where
 |normal
 |exit (id:Nat)
 |ret
 deriving DecidableEq
def At (P:Program)(w0:World)(foot Y:Nat->Prop)(pin:Nat->Option (Option Nat))(n:Nat)(Q:St->Prop)(a:Act)(w:World):Prop:=
 ∃s β,Q s/\a.tmps.size=n/\RelF P w0 foot Y pin (look s.env) (hook s.heap) β a w/\∀k,Occ pin β k->k<s.nx
def Lift (P:Program)(w0:World)(foot Y:Nat->Prop)(pin:Nat->Option (Option Nat))(n:Nat)(Q:AExit->St->Prop):Exit->Act->World->Prop
 |.normal=>At P w0 foot Y pin n<|Q .normal
 |.exit i=>At P w0 foot Y pin n<|Q<|.exit i
 |.ret=>At P w0 foot Y pin n<|Q .ret
 |_=>λ_ _=>False
def Awp (P:Program)(n m:Nat)(c:Code)(Q:AExit->St->Prop)(s:St):Prop:=
 ∀(w0:World) (foot Y:Nat->Prop) (pin:Nat->Option (Option Nat)) (β:Nat->Option Nat) (a:Act) (w:World),(∀o b,pin o=some b->o<m)->a.tmps.size=n->RelF P w0 foot Y pin (look s.env) (hook s.heap) β a w->(∀k,Occ pin β k->k<s.nx)->
  c.wp P (Lift P w0 foot Y pin n Q) a w
variable {c:Code} {Q:AExit->St->Prop} {s:St}
theorem Lift.mono {Q':AExit->St->Prop}(hq:∀e s,Q e s->Q' e s)(e:Exit)(a:Act)(w:World)(h:Lift P w0 foot Y pin n Q e a w):Lift P w0 foot Y pin n Q' e a w:=by
 cases e with
 |normal=>obtain⟨s,β,h1,h2⟩:=h;exact⟨s,β,hq _ _ h1,h2⟩
 |exit i=>obtain⟨s,β,h1,h2⟩:=h;exact⟨s,β,hq _ _ h1,h2⟩
 |ret=>obtain⟨s,β,h1,h2⟩:=h;exact⟨s,β,hq _ _ h1,h2⟩
 |_=>exact h.elim
theorem Awp.mono {Q':AExit->St->Prop}(h:Awp P n m c Q s)(hq:∀e s,Q e s->Q' e s):Awp P n m c Q' s:=
 λw0 foot Y pin β a w hm hn hR hb=>wp_mono (h w0 foot Y pin β a w hm hn hR hb)<|Lift.mono hq
theorem Awp.weak {s':St}(hs:Sle m s s')(h:Awp P n m c Q s'):Awp P n m c Q s:=λw0 foot Y pin _ a w hm hn hR _=>
 let ⟨β',h1,h2⟩:=WO hs hm hR
 h w0 foot Y pin β' a w hm hn h1 h2
theorem Awp.skip (h:Q .normal s):Awp P n m .skip Q s:=λ_ _ _ _ β _ _ _ hn hR hb=>wp_skip ⟨s,β,h,hn,hR,hb⟩
theorem Awp.ret (h:Q .ret s):Awp P n m .ret Q s:=λ_ _ _ _ β _ _ _ hn hR hb=>wp_ret ⟨s,β,h,hn,hR,hb⟩
theorem Awp.exit {i:Nat}(h:Q (.exit i) s):Awp P n m (.exit i) Q s:=λ_ _ _ _ β _ _ _ hn hR hb=>wp_exit ⟨s,β,h,hn,hR,hb⟩
def Xs (K:St->Prop)(Q:AExit->St->Prop):AExit->St->Prop
 |.normal,s=>K s
 |e,s=>Q e s
def yj (i:Nat)(Q:AExit->St->Prop):AExit->St->Prop
 |.exit j,s=>if j=i then Q .normal s else Q (.exit j) s
 |e,s=>Q e s
theorem Awp.seq {c₁ c₂:Code}(h:Awp P n m c₁ (Xs (Awp P n m c₂ Q) Q) s):Awp P n m (.seq c₁ c₂) Q s:=λw0 foot Y pin β a w hm hn hR hb=>by
 refine wp_seq<|wp_mono (h w0 foot Y pin β a w hm hn hR hb) λe a' w' hq=>?_
 cases e with
 |normal=>obtain⟨s',β',h1,h2,h3,h4⟩:=hq;exact h1 w0 foot Y pin β' a' w' hm h2 h3 h4
 |exit i=>exact hq
 |ret=>exact hq
 |_=>exact hq.elim
theorem Awp.cond {x:Operand}{c₁ c₂:Code}{t:Bool}(hc:ev s.env x=.c (.a<|.fz<|.bool t))(ht:t=true->Awp P n m c₁ Q s)(hf:t=false->Awp P n m c₂ Q s):Awp P n m (.cond x c₁ c₂) Q s:=λw0 foot Y pin β a w hm hn hR hb=>by
 have hv:=hR.eval x;rw[<-mH,hc] at hv;refine wp_cond (t:=t) hv.bool_inv ?_;cases t with
 |true=>exact ht rfl w0 foot Y pin β a w hm hn hR hb
 |false=>exact hf rfl w0 foot Y pin β a w hm hn hR hb
theorem Awp.label {l:Nat}(h:Q .normal s):Awp P n m (.label l) Q s:=λ_ _ _ _ β _ _ _ hn hR hb=>wp_label ⟨s,β,h,hn,hR,hb⟩
theorem Awp.scope (h:Awp P n m c Q s):Awp P n m (.scope c) Q s:=λw0 foot Y pin β a w hm hn hR hb=>by
 refine wp_scope_straight<|wp_mono (h w0 foot Y pin β a w hm hn hR hb) λe a' w' hq=>?_
 cases e with
 |goto l=>exact hq.elim
 |_=>exact hq
theorem Awp.block {i:Nat}(h:Awp P n m c (yj i Q) s):Awp P n m (.block i c) Q s:=λw0 foot Y pin β a w hm hn hR hb=>by
 refine wp_block<|wp_mono (h w0 foot Y pin β a w hm hn hR hb) λe a' w' hq=>?_
 cases e with
 |normal=>exact hq
 |exit j=>
  obtain⟨s',β',h1,h2⟩:=hq;simp only[yj] at h1;simp only[Exit.inBlock];split at h1
  next hj=>rw[oX hj];exact⟨s',β',h1,h2⟩
  next hj=>rw[oV hj];exact⟨s',β',h1,h2⟩
 |ret=>exact hq
 |_=>exact hq.elim
theorem Awp.region {i:Nat} {ops:Array Oper} {d:Bool} (hP:P.follows .mixedOrders=true) (hd:dstB ops n=true)
  (hl:lex P ops s.nx ops.toList 0 s.env s.heap [] λe h tr=>(d=true->WH ops tr=true)/\Q .normal ⟨e,h,s.nx+32*ops.size⟩):Awp P n m (.region i ops d) Q s:=λw0 foot Y pin β a w _ hn hR hb=>by
 subst hn;exact KH (R:=Q .normal) hP hd hl hR hb λs' a' w' β' h1 h2 h3 h4=>⟨s',β',h1,h2,h3,h4⟩
end
structure Calm (w0 w w':World):Prop where
 size:w.heap.size<=w'.heap.size
 cells:∀(b:Nat) us t z,w.heap[b]?=some (.cells us t z)->w'.heap[b]?=some (.cells us t z)
 maps:∀(b:Nat) ms ck,w.heap[b]?=some (.map ms ck)->w'.heap[b]?=some (.map ms ck)
 old:∀b,b<w0.heap.size->w'.heap[b]?=w.heap[b]?
 os:w'.os=w.os
 tape:w'.tape=w.tape
 output:w'.output=w.output
section
variable {w0 w w':World} (c:Calm w0 w w')
include c
theorem Calm.cell {a:Addr}{u:Value}(h:w.cell? a=some u):w'.cell? a=some u:=by
 unfold World.cell? at h ⊢;cases ho:w.heap[a.block]? with
 |none=>rw[ho] at h;cases h
 |some o=>
  rw[ho] at h;cases o with
  |cells us t z=>rw[c.cells _ us t z ho];exact h
  |_=>cases h
theorem Calm.shape {b:Nat}{x:TypeId×Nat}(h:w.shape? b=some x):w'.shape? b=some x:=by
 unfold World.shape? at h ⊢;cases ho:w.heap[b]? with
 |none=>rw[ho] at h;cases h
 |some o=>
  rw[ho] at h;cases o with
  |cells us t z=>rw[c.cells _ us t z ho];exact h
  |_=>cases h
variable {X:Nat->Prop} {β:Nat->Option Nat}
theorem FRep.calm {f:FV}{v:Value}(h:FRep w X f v):FRep w' X f v:=by
 induction h with
 |int k n=>exact .int k n
 |bool b=>exact .bool b
 |str l=>exact .str l
 |cst v h=>exact .cst v h
 |N=>exact .N
 |slnil n=>exact .slnil n
 |sl0 nn n a=>exact .sl0 nn n a
 |z0 nn a=>exact .z0 nn a
 |z0n=>exact .z0n
 |sl nn n es b off cap len u h1 h2 h3 h4 h5 h6 _ ih=>exact .sl nn n es b off cap len u h1 h2 h3 (sA h4 c.size) h5 (λi j e f he hf=>c.cell<|h6 i j e f he hf) ih
 |pt cs b off u h1 h2 h3 _ ih=>exact .pt cs b off u h1 (sA h2 c.size) (λj f hf=>c.cell<|h3 j f hf) ih
 |mp es b ms ku vu h1 h2 h3 h4 h5 h6 _ _ ih1 ih2=>exact .mp es b ms ku vu h1 (sA h2 c.size) (c.maps _ _ _ h3) h4 h5 h6 ih1 ih2
theorem ARep.calm {f:AV}{v:Value}(h:ARep w X β f v):ARep w' X β f v:=by
 cases h with
 |fz x v h=>exact .fz x v<|FRep.calm c h
 |ep o n i j b h=>exact .ep o n i j b h
 |osl o n off len b q cap sz t h1 h2 h3 h4 h5=>exact .osl o n off len b q cap sz t h1 (c.shape h2) h3 h4 h5
 |oslN o n off=>exact .oslN o n off
 |mp o b h=>exact .mp o b h
 |any v h=>exact .any v h
 |bld t o b v h1 h2 h3=>exact .bld t o b v h1 (c.shape h2) h3
 |osb o e len b cap h1 h2 h3 h4=>exact .osb o e len b cap h1 (c.shape h2) h3 h4
theorem WRep.calm {f:WV}{v:Value}(h:WRep w X β f v):WRep w' X β f v:=by
 cases h with
 |a x v h=>exact .a x v<|ARep.calm c h
 |fn f first cap us vs h1 h2=>exact .fn f first cap us vs (h1.imp λ_ _ _ h=>h.imp λ_ _ _ h=>ARep.calm c h) (h2.imp λ_ _ _ h=>h.imp λ_ _ _ h=>ARep.calm c h)
theorem TRep.calm {f:TV}{v:Value}(h:TRep w X β f v):TRep w' X β f v:=by
 cases f with
 |any=>trivial
 |c x=>exact WRep.calm c h
 |agg cs=>obtain⟨us,h1,h2⟩:=h;exact⟨us,h1,h2.imp λ_ _ _ h=>WRep.calm c h⟩
 |tup vs=>obtain⟨us,h1,h2⟩:=h;exact⟨us,h1,h2.imp λ_ _ _ h=>h.imp λ_ _ _ h=>WRep.calm c h⟩
theorem ORep.calm {o:AObj}{b:Nat}(h:ORep w X β o b):ORep w' X β o b:=by
 have arr:∀(n:Nat) (es:List<|List WV),(∃(us:List Value) (t:TypeId),w.heap[b]?=some (.cells us.toArray t (0,0))/\es.length*n<=us.length/\(∀e∈es,e.length=n)/\
   ∀(i j:Nat) (e:List WV) (c:WV),es[i]?=some e->e[j]?=some c->∃u,us[i*n+j]?=some u/\WRep w X β c u)->(∃(us:List Value) (t:TypeId),w'.heap[b]?=some (.cells us.toArray t (0,0))/\es.length*n<=us.length/\(∀e∈es,e.length=n)/\
   ∀(i j:Nat) (e:List WV) (c:WV),es[i]?=some e->e[j]?=some c->∃u,us[i*n+j]?=some u/\WRep w' X β c u):=by
  rintro n es ⟨us,t,h1,h2,h3,h4⟩;exact⟨us,t,c.cells _ _ _ _ h1,h2,h3,λi j e x he hx=>let ⟨u,hu,hr⟩:=h4 i j e x he hx;⟨u,hu,WRep.calm c hr⟩⟩
 have mp:∀(es:List<|(Bool×List FV)×(Bool×List WV)),(∃(ms:List MapEntry) (clock:Nat),w.heap[b]?=some (.map ms.toArray clock)/\ms.length=es.length/\
   (∀(i:Nat) (e:(Bool×List FV)×(Bool×List WV)) (m:MapEntry),es[i]?=some e->ms[i]?=some m->PRep (FRep w X) e.1 m.key/\PRep (WRep w X β) e.2 m.val)/\
   clock=ms.length/\(∀(i:Nat) (m:MapEntry),ms[i]?=some m->m.born=i))->(∃(ms:List MapEntry) (clock:Nat),w'.heap[b]?=some (.map ms.toArray clock)/\ms.length=es.length/\
   (∀(i:Nat) (e:(Bool×List FV)×(Bool×List WV)) (m:MapEntry),es[i]?=some e->ms[i]?=some m->PRep (FRep w' X) e.1 m.key/\PRep (WRep w' X β) e.2 m.val)/\
   clock=ms.length/\(∀(i:Nat) (m:MapEntry),ms[i]?=some m->m.born=i)):=by
  rintro es ⟨ms,ck,h1,h2,h3,h4,h5⟩;exact⟨ms,ck,c.maps _ _ _ h1,h2,λi e m he hm=>let ⟨x,y⟩:=h3 i e m he hm;⟨x.imp λ_ _ _ h=>FRep.calm c h,y.imp λ_ _ _ h=>WRep.calm c h⟩,h4,h5⟩
 cases o with
 |gone=>trivial
 |arr n es=>exact arr _ _ h
 |arz n fs=>exact arr _ _ h
 |mapo es=>exact mp _ h
 |mapz es=>exact mp _ h
theorem Objs.calm {h:Nat->AObj}{Y:Nat->Prop}(hO:Objs h β Y w):Objs h β Y w':=
 ⟨λo b h1 h2=>ORep.calm c<|hO.rep o b h1 h2,λo h1=>(hO.has o h1).imp (λ⟨b,h2,h3,h4⟩=>⟨b,h2,sA h3 c.size,h4⟩) id,hO.inj,λo b hb=>sA (hO.lt o b hb) c.size⟩
theorem Good.calm {foot:Nat->Prop}(g:Good w0 foot w):Good w0 foot w':=
 ⟨rS g.size c.size,λb hb hf=>(c.old b hb).trans<|g.blk b hb hf,λb hb=>by
  rw[<-g.shp b hb];unfold World.shape?;rw[c.old b hb],c.os.trans g.os,c.tape.trans g.tape,c.output.trans g.output⟩
theorem RelF.calm {P:Program}{foot Y:Nat->Prop}{pin:Nat->Option (Option Nat)}{e:Nat->TV}{h:Nat->AObj}{a:Act}(hR:RelF P w0 foot Y pin e h β a w)(hm:Marks w0 w' a.defers):RelF P w0 foot Y pin e h β a w':=
 ⟨Good.calm c hR.good,λi=>TRep.calm c<|hR.env i,Objs.calm c hR.objs,hR.own,hm,hR.ylt,hR.pins,hR.gl⟩
end
def mJ (w:World)(b:Nat):Prop:=∀o,w.heap[b]?=some o->(∀us t z,o ≠ .cells us t z)/\∀ms ck,o ≠ .map ms ck
theorem Calm.put {w0 w:World}{b:Nat}{o:Obj}(hb:mJ w b)(h0:w0.heap.size<=b):Calm w0 w (w.putObj b o):=by
 have other:∀k,k≠b->(w.putObj b o).heap[k]?=w.heap[k]? :=λk hk=>World.putObj_heap_other hk;refine⟨zb,λk us t z hk=>?_,λk ms ck hk=>?_,λk hk=>other k za,rfl,rfl,rfl⟩
 .rw[other k λe=>by subst e;exact(hb _ hk).1 us t z rfl];exact hk
 .rw[other k λe=>by subst e;exact(hb _ hk).2 ms ck rfl];exact hk
theorem Calm.alloc (w0 w:World)(o:Obj)(h0:w0.heap.size<=w.heap.size):Calm w0 w (w.alloc o):=by
 have old:∀k,k<w.heap.size->(w.alloc o).heap[k]?=w.heap[k]? :=λk hk=>by
  show(w.heap.push o)[k]?=w.heap[k]?
  grind
 refine⟨zb,λk us t z hk=>?_,λk ms ck hk=>?_,λk hk=>old k za,rfl,rfl,rfl⟩
 .grind
 .grind
theorem Calm.refl (w0 w:World):Calm w0 w w:=⟨r6 _,λ_ _ _ _ h=>h,λ_ _ _ h=>h,λ_ _=>rfl,rfl,rfl,rfl⟩
theorem Calm.trans {w0 a b c:World}(h:Calm w0 a b)(k:Calm w0 b c):Calm w0 a c:=
 ⟨rS h.size k.size,λb us t z hb=>k.cells b us t z<|h.cells b us t z hb,λb ms ck hb=>k.maps b ms ck<|h.maps b ms ck hb,λb hb=>(k.old b hb).trans<|h.old b hb,k.os.trans h.os,k.tape.trans h.tape,k.output.trans h.output⟩
theorem YK {w:World}{b:Nat}{x:Option (List Deferred)}(h:w.heap[b]?=some (.deferred x)):mJ w b:=λo ho=>by
 grind
theorem Yx {w:World}{b:Nat}{x:Loop}(h:w.heap[b]?=some (.loop x)):mJ w b:=λo ho=>by
 grind
def kJ:List Nat->World->World
 |[],w=>w
 |D::Ds,w=>kJ Ds<|w.putObj D<|.deferred none
theorem gP {w0:World}:∀ {Ds:List Nat} {w:World},Ds.Nodup->(∀D∈Ds,w0.heap.size<=D/\w.heap[D]?=some (.deferred<|some []))->Calm w0 w (kJ Ds w)
 |[],w,_,_=>Calm.refl _ _
 |D::Ds,w,hn,h=>by
  have h1:=h D r7;have hn':=rY.1 hn;refine(Calm.put (YK h1.2) h1.1).trans<|gP hn'.2 λE hE=>⟨(h E<|r9 _ hE).1,?_⟩
  have hne:E≠D:=λe=>hn'.1 zd;rw[World.putObj_heap_other hne]
  grind
theorem RelF.shut {P:Program}{w0 w:World}{foot Y:Nat->Prop}{pin:Nat->Option (Option Nat)}{e:Nat->TV}{h:Nat->AObj}{β:Nat->Option Nat}{a:Act}(hR:RelF P w0 foot Y pin e h β a w):
  ∃Ds,a.defers=Ds.map mark/\Ds.Nodup/\(∀D∈Ds,w.heap[D]?=some (.deferred<|some []))/\RelF P w0 foot Y pin e h β {tmps:=a.tmps,defers:=[]} (kJ Ds w):=by
 obtain⟨Ds,hds,hnd,hdd⟩:=hR.defers;have hR0:RelF P w0 foot Y pin e h β {tmps:=a.tmps,defers:=[]} w:=⟨hR.good,hR.env,hR.objs,hR.own,Marks.nil _ _,hR.ylt,hR.pins,hR.gl⟩;exact⟨Ds,hds,hnd,λD hD=>(hdd D hD).2,hR0.calm (gP hnd hdd)<|Marks.nil _ _⟩
theorem kK {P:Program}{fn:Func}{tmps:Array Value}{R:Ending->World->Prop}{n:Nat}:∀ {Ds:List Nat} {w:World},Ds.Nodup->(∀D∈Ds,w.heap[D]?=some (.deferred<|some []))->
  (∃v,(results fn tmps).run P (kJ Ds w)=.ok v (kJ Ds w)/\R (.returned v) (kJ Ds w))->LeavesInM Fence.wide n P fn tmps R (Ds.map mark) .returning w
 |[],w,_,_,h=>h
 |D::Ds,w,hn,hD,h=>by
  have hn':=rY.1 hn;refine⟨zb,.inl ⟨D,_,rfl,run_takeDeferred<|hD D r7,kK hn'.2 (λE hE=>?_) h⟩⟩;have hne:E≠D:=λe=>hn'.1 zd;rw[World.putObj_heap_other hne]
  grind
open Go
def resA (P:Program)(s:St):ResultVar->Option TV
 |.tmp t=>some<|look s.env t
 |.cell t ty=>match tyOf P ty with
  |some d=>(wR d (λo=>flat<|hook s.heap o)<|look s.env t).map (·.1)
  |none=>none
def Km (P:Program)(s:St):List ResultVar->Option (List TV)
 |[]=>some []
 |x::l=>match resA P s x,Km P s l with
  |some v,some vs=>some<|v::vs
  |_,_=>none
def JK:List TV->Option (List<|Bool×List WV)
 |[]=>some []
 |x::l=>match gO x,JK l with
  |some v,some vs=>some<|v::vs
  |_,_=>none
def dg:List TV->Option TV
 |[x]=>some x
 |l=>(JK l).map .tup
def jU:Nat->List TV->Env
 |_,[]=> []
 |i,x::l=>(i,x)::jU (i+1) l
def yO:Nat->List AObj->AHeap
 |_,[]=> []
 |i,x::l=>(i,x)::yO (i+1) l
theorem ZO:∀(l:List TV) (i k:Nat),look (jU i l) k=if i<=k then l.getD (k-i) .any else .any
 |[],i,k=>by simp[jU,look]
 |x::l,i,k=>by
  simp only[jU,look];by_cases h:i=k
  .subst h;simp
  .rw[oV h,ZO l];by_cases h2:i<=k
   .rw[oX za,oX h2,show k-i=(k-(i+1))+1 by omega];simp
   .rw[oV za,oV h2]
theorem kv:∀(l:List AObj) (i k:Nat),hook (yO i l) k=if i<=k then l.getD (k-i) .gone else .gone
 |[],i,k=>by simp[yO,hook]
 |x::l,i,k=>by
  simp only[yO,hook];by_cases h:i=k
  .subst h;simp
  .rw[oV h,kv l];by_cases h2:i<=k
   .rw[oX za,oX h2,show k-i=(k-(i+1))+1 by omega];simp
   .rw[oV za,oV h2]
def iA (P:Program)(rl:List ResultVar)(m:Nat)(r:TV)(Hs':List AObj)(s:St):Prop:=
 ∃(rs rs':List TV) (σ:Nat->Nat) (E:Lent) (r0:TV),Km P s rl=some rs/\dg rs'=some r0/\TV.Le r0 r/\E.ok (hook s.heap)/\
  All2 (λx y=>TV.Le (x.lend E) (y.ren σ)/\y.lt Hs'.length=true) rs rs'/\(∀o,o<m->σ o=o)/\
  (∀p∈yO 0 Hs',isLive p.2->p.1<Hs'.length/\flat ((hook s.heap<|σ p.1).lend E)=flat (p.2.ren σ)/\p.2.lt Hs'.length=true/\∀q∈E,q.1≠σ p.1)/\
  (∀p∈yO 0 Hs',∀q∈yO 0 Hs',isLive p.2->isLive q.2->σ p.1=σ q.1->p.1=q.1)
def Ret (P:Program)(rl:List ResultVar)(m:Nat)(r:TV)(Hs':List AObj):AExit->St->Prop
 |.exit _=>λ_=>False
 |_=>iA P rl m r Hs'
section
variable {P:Program} {w0:World} {foot:Nat->Prop} {Y:Nat->Prop} {pin:Nat->Option (Option Nat)}
theorem JT {ty:TypeId}{u v:Value}{w:World}(h:(Instr.loadAt ty u).run P w=.ok v w):(do loadVar ty (<-asAddr u):Sem Value).run P w=.ok v w:=by
 cases u with
 |pointer p=>
  cases p with
  |some a=>simpa[Instr.loadAt,Instr.sureAddr,asAddr] using h
  |none=>simp[Instr.loadAt,Instr.sureAddr] at h
 |_=>simp[Instr.loadAt,Instr.sureAddr] at h
def ny (tmps:Array Value):ResultVar->Sem Value
 |.tmp t=>pure<|tmps.getD t undef
 |.cell b t=>do loadVar t (<-asAddr<|tmps.getD b undef)
theorem resA_run {s:St}{β:Nat->Option Nat}{a:Act}{w:World}(hR:RelF P w0 foot Y pin (look s.env) (hook s.heap) β a w){x:ResultVar}{v:TV}(hx:resA P s x=some v):
  ∃u,(ny a.tmps x).run P w=.ok u w/\TRep w (XO Y (hook s.heap) β) β v u:=by
 cases x with
 |tmp t=>
  simp only[resA,r8] at hx;subst hx;exact⟨_,rfl,hR.env t⟩
 |cell t ty=>
  simp only[resA] at hx;split at hx
  next d hd=>obtain⟨r,hl,rfl⟩:=oY.1 hx;have hf:∀o,flat (flat<|hook s.heap o)=flat (hook s.heap o):=λo=>vh _;have hO:=jr (h':=λo=>flat<|hook s.heap o) hf hR.objs;have hx1:=hR.env t;rw[<-Yb (h':=λo=>flat<|hook s.heap o) hf] at hx1 ⊢;obtain⟨u,g1,g2⟩:=WE (P:=P) hO hd hx1 hl;exact⟨u,JT g1,g2⟩
  .cases hx
theorem KF {s:St}{β:Nat->Option Nat}{a:Act}{w:World}(hR:RelF P w0 foot Y pin (look s.env) (hook s.heap) β a w):∀ {l:List ResultVar} {vs:List TV},Km P s l=some vs->
  ∃us,(l.mapM<|ny a.tmps).run P w=.ok us w/\LRep (TRep w (XO Y (hook s.heap) β) β) vs us
 |[],vs,h=>by
  simp only[Km,r8] at h;subst h;exact⟨[],zb,.nil⟩
 |x::l,vs,h=>by
  simp only[Km] at h;split at h
  .rename_i v vs' h1 h2;injection h with h;subst h
   obtain⟨u,g1,g2⟩:=resA_run hR h1;obtain⟨us,g3,g4⟩:=KF hR h2;refine⟨u::us,?_,.cons g2 g4⟩;rw[List.mapM_cons];simp only[rW,g1,rI,g3,sg]
  .cases h
theorem XA {X:Nat->Prop}{β:Nat->Option Nat}{w:World}:∀ {l:List TV} {rows:List (Bool×List WV)} {us:List Value},JK l=some rows->LRep (TRep w X β) l us->LRep (PRep<|WRep w X β) rows us
 |[],rows,us,h,hl=>by
  simp only[JK,r8] at h;subst h;have:us=[]:=rk (zo hl.1.symm);subst this;exact .nil
 |x::l,rows,us,h,hl=>by
  simp only[JK] at h;split at h
  .rename_i v vs h1 h2;injection h with h;subst h
   obtain⟨u,us',rfl,hu,hr⟩:=hl.cons_inv;refine .cons ?_<|XA h2 hr
   unfold gO at h1;split at h1
   .injection h1 with h1;subst h1
    exact⟨[u],rfl,.cons hu .nil,λ_=>rfl⟩
   .injection h1 with h1;subst h1
    obtain⟨zs,rfl,hz⟩:=hu;exact⟨zs,rfl,hz,λh=>by cases h⟩
   .cases h1
  .cases h
theorem nu {X:Nat->Prop}{β:Nat->Option Nat}{w:World}{l:List TV}{r:TV}{us:List Value}(h:dg l=some r)(hl:LRep (TRep w X β) l us):
  TRep w X β r (if h:us.toArray.size=1 then us.toArray[0] else .tuple us.toArray):=by
 unfold dg at h;split at h
 .injection h with h;subst h
  obtain⟨u,us',rfl,hu,hr⟩:=hl.cons_inv;have:us'=[]:=rk (zo hr.1.symm);subst this;exact hu
 .rename_i hne;obtain⟨rows,h1,rfl⟩:=oY.1 h
  have hlen:us.toArray.size≠1:=by
   intro hc;have h2:=hl.1;simp at hc
   match l,h2,hne with
   |[],h2,_=>simp[hc] at h2
   |[x],_,hne=>exact hne x rfl
   |_::_::_,h2,_=>simp[hc] at h2
  rw[dif_neg hlen];exact⟨us,rfl,XA h1 hl⟩
theorem AC.intro {f:FuncId} {fn:Func} {c:Code} {rl:List ResultVar} {n:Nat} {args:List TV} {Hs Hs':List AObj} {r:TV} (hf:P.funcs[f]?=some fn) (hb:fn.body=some c) (hrl:fn.results.toList=rl) (hn:fn.ntmps=n) (hen:xq P f=true) (hsz:args.length<=n)
  (hlen:Hs.length<=Hs'.length) (hlive:∀x∈Hs,isLive x) (hlive':∀x∈Hs'.drop Hs.length,isLive x)
  (h:Awp P n Hs.length c (Ret P rl Hs.length r Hs') ⟨jU 0 args,yO 0 Hs,Hs.length⟩):AC P f args Hs r Hs':=by
 subst hrl;subst hn;refine⟨hen,hlen,λw vals β Y hβ hY hgl hO hargs=>?_⟩;have hhook:∀l:List AObj,hook (yO 0 l)=λo=>l.getD o .gone:=λl=>funext λo=>by rw[kv];simp
 refine(callsIn_wide (n:=0)).1<|callsIn_of_wp_marks hf hb trivial (wpIn_wide.2 ?_)
 have hvl:=hargs.1
 have hpin:∀o x,(λo=>if o<Hs.length then some (β o) else none:Nat->Option (Option Nat)) o=some x->o<Hs.length/\β o=x:=λo x hx=>by
  simp only at hx;split at hx
  next ho=>injection hx with hx;exact⟨ho,hx⟩
  .cases hx
 refine wp_mono (h w (Own (λo=>Hs.getD o .gone) β) Y (λo=>if o<Hs.length then some (β o) else none) β _ w (λo x hx=>(hpin o x hx).1) zj ⟨Good.refl _ _,λi=>?_,?_,λo b h1 h2=>.inl ⟨o,?_,h2⟩,Marks.nil _ _,hY,λo x hx=>(hpin o x hx).2,hgl⟩ λk hk=>?_) λe a' w' hq=>?_
 .rw[ZO,oX<|sY _,tY];show TRep w (XO Y (hook<|yO 0 Hs) β) β _ _;rw[hhook];by_cases hi:i<args.length
  .have h1:args[i]?=some args[i]:=rf hi;have h2:vals[i]?=some (vals[i]' za):=rf za;have:=hargs.2 i _ _ h1 h2;simp only[getD,h1,sN]
   have h3:(vals.toArray++Array.replicate (fn.ntmps-vals.toArray.size) undef).getD i undef=vals[i]' za:=by
    simp[sc,Array.getElem?_append,(za:i<vals.length)]
   rw[h3];exact this
  .simp only[getD,ss (by omega:args.length<=i),Option.getD_none];trivial
 .show Objs (hook<|yO 0 Hs) β Y w;rw[hhook];exact hO
 .have h1':isLive (hook (yO 0 Hs) o):=h1;rw[hhook] at h1';exact h1'
 .rcases hk with hk|hk
  .cases hb:β k with
   |none=>exact absurd hb hk
   |some b=>exact hβ k b hb
  .simp only at hk;split at hk
   .assumption
   .exact absurd rfl hk
 .have key:At P w (Own (λo=>Hs.getD o .gone) β) Y (λo=>if o<Hs.length then some (β o) else none) fn.ntmps (iA P fn.results.toList Hs.length r Hs') a' w'->∃Ds w1,a'.defers=Ds.map mark/\Ds.Nodup/\(∀D∈Ds,w'.heap[D]?=some (.deferred<|some []))/\w1=kJ Ds w'/\∃v,(results fn a'.tmps).run P w1=.ok v w1/\∃v' β',Ending.returned v=.returned v'/\
    Good w (Own (λo=>Hs.getD o .gone) β) w1/\Objs (λo=>Hs'.getD o .gone) β' Y w1/\TRep w1 (λb=>Y b\/Own (λo=>Hs'.getD o .gone) β' b) β' r v'/\
    (∀o b,β' o=some b->o<Hs'.length)/\(∀o,o<Hs.length->β' o=β o)/\(∀o b,Hs.length<=o->β' o=some b->w.heap.size<=b\/Own (λo=>Hs.getD o .gone) β b):=by
   rintro ⟨s,β',⟨rs,rs',σ,E,r0,h1,h2,h3,h4,h5,h6,h7,h8⟩,_,hR,_⟩;obtain⟨Ds,hds,hnd,hdd,hR⟩:=hR.shut;refine⟨Ds,_,hds,hnd,hdd,rfl,?_⟩;clear hdd;generalize kJ Ds w'=w' at hR ⊢;obtain⟨us,g1,g2⟩:=KF hR h1;have k:=iY h4 h7 h8
   have hrs:LRep (TRep w' (XO Y (hook<|yO 0 Hs')<|cutβ σ Hs'.length β')<|cutβ σ Hs'.length β') rs' us:=by
    clear h1 h2 g1
    induction rs generalizing rs' us with
    |nil=>
     cases rs' with
     |nil=>
      have:us=[]:=rk (zo g2.1.symm);subst this;exact .nil
     |cons y ys=>exact h5.elim
    |cons x xs ih=>
     cases rs' with
     |nil=>exact h5.elim
     |cons y ys=>
      obtain⟨u,us',rfl,hu,hr⟩:=g2.cons_inv;exact .cons (k.rep hR.objs hu h5.1.1 h5.1.2)<|ih _ h5.2 _ hr
   have hp:=TRep.le h3<|nu h2 hrs
   refine⟨(if h:us.toArray.size=1 then us.toArray[0] else .tuple us.toArray),?_,_,cutβ σ Hs'.length β',rfl,hR.good,?_,?_,λo b ho=>?_,λo ho=>?_,λo b ho hb=>?_⟩
   .unfold results;rw[<-Array.toArray_toList (xs:=fn.results),List.mapM_toArray];simp only[rW,Sem.run_map,sg];show((Sem.run P (List.mapM (ny a'.tmps) fn.results.toList) w').andThen _).andThen _=_;rw[g1];rfl
   .have:=k.objs hR.objs;rw[hhook] at this;exact this
   .have:=hp;rw[hhook] at this;exact this
   .simp only[cutβ] at ho;split at ho
    .assumption
    .cases ho
   .simp only[cutβ,(za:o<Hs'.length),rG,h6 o ho];exact hR.pins o (β o) (by simp[ho])
   .simp only[cutβ] at hb;split at hb
    .rename_i hlt
     have hl:isLive (hook (yO 0 Hs') o):=by
      rw[kv,oX<|sY _,tY];simp only[getD,rf hlt,sN];refine hlive' _<|List.mem_iff_getElem?.2 ⟨o-Hs.length,?_⟩
      rw[sK,(za:Hs.length+(o-Hs.length)=o)];exact rf hlt
     rcases hR.own _ b (k.live hl) hb with h9|h9
     .exact .inr h9
     .exact .inl h9
    .cases hb
  cases e with
  |normal=>
   obtain⟨Ds,w1,h1,h2,h3,rfl,v,h4,h5⟩:=key hq;show LeavesInM Fence.wide 0 P fn a'.tmps _ a'.defers .returning w';rw[h1];exact kK h2 h3 ⟨v,h4,h5⟩
  |ret=>
   obtain⟨Ds,w1,h1,h2,h3,rfl,v,h4,h5⟩:=key hq;show LeavesInM Fence.wide 0 P fn a'.tmps _ a'.defers .returning w';rw[h1];exact kK h2 h3 ⟨v,h4,h5⟩
  |exit i=>obtain⟨s,β,h1,_⟩:=hq;exact h1.elim
  |_=>exact hq.elim
end
end Go.AM
namespace Go.AM
def FV.I:FV->Int|.int _ n=>n|_=>0
def FV.asB:FV->Bool|.bool b=>b|_=>false
def FV.S:FV->List UInt8|.str l=>l|_=> []
def FV.ses:FV->List (List FV)|.sl _ _ es=>es|_=> []
def FV.L (n:Nat):FV->Bool|.N=>true|.sl _ m _=>m==n|.z0 _=>true|_=>false
def FV.cut (x:FV)(lo hi:Nat):FV:=match x with|.sl b n es=>.sl b n ((es.take hi).drop lo)|y=>y
def FV.cut0 (x:FV):FV:=match x with|.sl b _ _=>.z0 b|y=>y
def shp:List FV->Nat->List FV->List FV
 |[],_,_=> []
 |.int k _::z,j,r=>.int k (r.getD j .N).I::shp z (j+1) r
 |.bool _::z,j,r=>.bool (r.getD j .N).asB::shp z (j+1) r
 |.str _::z,j,r=>.str (r.getD j .N).S::shp z (j+1) r
 |_::z,j,r=>r.getD j .N::shp z (j+1) r
theorem XS:∀(z:List FV) (j:Nat) (r:List FV),(shp z j r).length=z.length
 |[],_,_=>rfl
 |x::z,j,r=>by cases x<;>simp only[shp,r5,XS z]
def br (b:Bool)(t f:Prop):Prop:=match b with|true=>t|false=>f
theorem zu {b:Bool}{t f:Prop}(h1:b=true->t)(h2:b=false->f):br b t f:=by
 cases b
 .exact h2 rfl
 .exact h1 rfl
theorem br_true {t f:Prop}:br true t f=t:=rfl
theorem Wy {t f:Prop}:br false t f=f:=rfl
def oK' (r:Option AR)(K:AR->Prop):Prop:=match r with|some r=>K r|none=>False
theorem xF {r:Option AR}{K:AR->Prop}(h:oK' r K):∃x,r=some x/\K x:=by
 cases r with
 |none=>exact h.elim
 |some x=>exact⟨x,rfl,h⟩
def FV.isPt:FV->Bool|.pt _=>true|_=>false
def FV.prow:FV->List FV|.pt cs=>cs|_=> []
def FV.isNp:FV->Bool|.cst (.pointer none)=>true|_=>false
def FV.isMp:FV->Bool|.mp _=>true|_=>false
def FV.mes:FV->List MapZ|.mp es=>es|_=> []
def ask (b:Bool)(K:Prop):Prop:=match b with|true=>K|false=>False
theorem Zb {b:Bool}{K:Prop}(h:ask b K):b=true/\K:=by
 cases b
 .exact h.elim
 .exact⟨rfl,h⟩
theorem Jl {y:FV}(h:y.isPt=true):y=.pt y.prow:=by cases y<;>first|rfl|cases h
theorem isMp_eq {y:FV}(h:y.isMp=true):y=.mp y.mes:=by cases y<;>first|rfl|cases h
theorem isNp_eq {y:FV}(h:y.isNp=true):y=.cst (.pointer none):=by
 unfold FV.isNp at h;split at h
 .rfl
 .cases h
def kindB (z c:FV):Bool:=
 match z with
 |.int k _=>match c with|.int k' _=>k==k' |_=>false
 |.bool _=>match c with|.bool _=>true|_=>false
 |.str _=>match c with|.str _=>true|_=>false
 |_=>true
def shpB:List FV->List FV->Bool
 |[],_=>true
 |z::zs,r=>match r with
  |[]=>false
  |c::r=>kindB z c&&shpB zs r
theorem gG:∀ {z r:List FV} (p:List FV),shpB z r=true->shp z p.length (p++r)=r.take z.length/\z.length<=r.length
 |[],r,p,_=>⟨by simp[shp],zb⟩
 |x::z,[],p,h=>by cases h
 |x::z,c::r,p,h=>by
  have e1:(p++c::r).getD p.length .N=c:=by simp[getD]
  have h':=(oZ _ _▸(show(kindB x c&&shpB z r)=true from h):kindB x c=true/\shpB z r=true);obtain⟨g1,g2⟩:=gG (p++[c]) h'.2;rw[(zb:p++c::r=(p++[c])++r),] at e1;have e3:(p++[c]).length=p.length+1:=zb
  rw[e3] at g1;rw[(zb:p++c::r=(p++[c])++r)];have hk:=h'.1;refine⟨?_,by simp only[r5];omega⟩
  cases x<;>simp only[shp,e1,g1,r5,List.take_succ_cons]<;>simp only[kindB] at hk<;>cases c<;>
   first
   |rfl
   |cases hk
   |(simp only[rT] at hk;subst hk;rfl)
def tyP (P:Program)(t:TypeId)(f:TyD->Prop):Prop:=match tyOf P t with|some d=>f d|none=>False
theorem yX {P:Program}{t:TypeId}{f:TyD->Prop}(h:tyP P t f):∃d,tyOf P t=some d/\f d:=by
 unfold tyP at h
 grind
def J1 (h:Nat->AObj):WV->Prop
 |.a (.osl o n off len)=>match h o with|.arz m fs=>n=m/\off+len<=fs.length|_=>True
 |_=>True
def givW (h:Nat->AObj):WV->WV×AHeap
 |.a (.osl o n off len)=>match h o with
  |.arz _ fs=>(.a<|.fz<|.sl false n<|(fs.drop off).take len,[(o,.gone)])
  |_=>(.a<|.osl o n off len,[])
 |x=>(x,[])
theorem nv {h:Nat->AObj}{x:WV}(hx:J1 h x):qm h x=givW h x:=by
 cases x with
 |fn f a b=>rfl
 |a x=>
  cases x with
  |osl o n off len=>
   simp only[qm,givW,J1] at hx ⊢
   grind
  |_=>rfl
def KU (h:Nat->AObj):List WV->List WV×AHeap
 |[]=>([],[])
 |x::r=>((givW h x).1::(KU h r).1,(givW h x).2++(KU h r).2)
def qv (h:Nat->AObj):List WV->Prop
 |[]=>True
 |.a (.osl o n off len)::r=>J1 h (.a<|.osl o n off len)/\qv h r
 |_::r=>qv h r
theorem YN {h:Nat->AObj}{x:WV}{r:List WV}(hx:qv h<|x::r):J1 h x/\qv h r:=by
 cases x with
 |fn f a b=>exact⟨trivial,hx⟩
 |a x=>
  cases x with
  |osl o n off len=>exact hx
  |_=>exact⟨trivial,hx⟩
theorem dH {h:Nat->AObj}:∀ {l:List WV},qv h l->vd h l=KU h l
 |[],_=>rfl
 |x::r,hx=>by
  have:=YN hx;simp only[vd,KU,nv this.1,dH this.2]
def givT (h:Nat->AObj):TV->TV×AHeap
 |.c x=>(.c (givW h x).1,(givW h x).2)
 |.agg cs=>(.agg (KU h cs).1,(KU h cs).2)
 |x=>(x,[])
def oD (h:Nat->AObj):TV->Prop
 |.c (.a (.osl o n off len))=>J1 h<|.a<|.osl o n off len
 |.agg cs=>qv h cs
 |_=>True
theorem mF {h:Nat->AObj}{x:WV}(hx:oD h<|.c x):J1 h x:=by
 cases x with
 |fn f a b=>trivial
 |a x=>cases x with
  |osl o n off len=>exact hx
  |_=>trivial
theorem givT_eq {h:Nat->AObj}{x:TV}(hx:oD h x):Zy h x=givT h x:=by
 cases x with
 |c x=>simp only[Zy,givT,nv<|mF hx]
 |agg cs=>simp only[Zy,givT,dH (h:=h) (l:=cs) hx]
 |_=>rfl
def givP (h:Nat->AObj):List (Nat×TV)->List (Nat×TV)×AHeap
 |[]=>([],[])
 |(i,x)::r=>((i,(givT h x).1)::(givP h r).1,(givT h x).2++(givP h r).2)
def asksT (h:Nat->AObj)(x:TV)(K:Prop):Prop:=
 match x with
 |.c (.a (.osl o n off len))=>J1 h (.a<|.osl o n off len)/\K
 |.agg cs=>match cs.any (λc=>match c with|.a (.osl _ _ _ _)=>true|_=>false) with
  |true=>qv h cs/\K
  |false=>K
 |_=>K
theorem Xd {h:Nat->AObj}:∀ {cs:List WV},cs.any (λc=>match c with|.a (.osl _ _ _ _)=>true|_=>false)=false->qv h cs
 |[],_=>trivial
 |x::r,hx=>by
  simp only[List.any_cons,Bool.or_eq_false_iff] at hx;have:=Xd (h:=h) hx.2;cases x with
  |fn f a b=>exact this
  |a x=>cases x with
   |osl o n off len=>cases hx.1
   |_=>exact this
theorem gi {h:Nat->AObj}{x:TV}{K:Prop}(hx:asksT h x K):oD h x/\K:=by
 unfold asksT at hx;split at hx
 .exact hx
 .rename_i cs;split at hx
  .exact hx
  next hn=>exact⟨Xd hn,hx⟩
 next h1 h2=>refine⟨?_,hx⟩;unfold oD;simp
def asksP (h:Nat->AObj):List (Nat×TV)->Prop->Prop
 |[],K=>K
 |(_,x)::r,K=>asksT h x<|asksP h r K
theorem Yp {h:Nat->AObj}:∀ {l:List (Nat×TV)} {K:Prop},asksP h l K->vo h l=givP h l/\K
 |[],_,hx=>⟨rfl,hx⟩
 |(i,x)::r,K,hx=>by
  obtain⟨h1,h2⟩:=gi hx;obtain⟨h3,h4⟩:=Yp h2;exact⟨by simp only[vo,givP,givT_eq h1,h3],h4⟩
section
variable {P:Program}
def elemV (de:TyD)(x:TV)(i:Int)(K:TV->Prop):Prop:=
 match x with
 |.c (.a (.osl o n off len))=>match de.size==n with
  |true=>(0<=i/\i<len)/\K (.c<|.a<|.ep o n (off+i.toNat) 0)
  |false=>False
 |.c (.a (.fz y))=>match de.zero with
  |some z=>(y.L de.size=true/\0<=i/\i<y.ses.length/\shp z 0 (y.ses.getD i.toNat [])=y.ses.getD i.toNat [])/\K (.c<|.a<|.fz<|.pt<|shp z 0<|y.ses.getD i.toNat [])
  |none=>False
 |_=>False
theorem iM {de:TyD}{x:TV}{i:Int}{K:TV->Prop}(h:elemV de x i K):∃v,W3 de x i=some v/\K v:=by
 unfold elemV at h;split at h
 .rename_i o n off len;split at h
  next hs=>simp only[rT] at hs;exact⟨_,by simp only[W3,hs,h.1,and_self,rG],h.2⟩
  .grind
 .rename_i y;split at h
  .rename_i z hz;obtain⟨⟨h1,h2,h3,h4⟩,h5⟩:=h;rw[h4] at h5;cases y with
   |sl nn n es=>
    simp only[FV.L,rT] at h1;simp only[FV.ses] at h3 h5;exact⟨_,by simp only[W3,h1,h2,h3,and_self,rG],h5⟩
   |N=>simp[FV.ses] at h3;omega
   |z0=>simp[FV.ses] at h3;omega
   |_=>cases h1
  .grind
 .grind
def qN (P:Program)(d:TyD)(x ix:TV)(K:TV->Prop):Prop:=
 match ix with
 |.c (.a (.fz (.int _ i)))=>match d.kind with
  |.slice e=>tyP P e λde=>elemV de x i K
  |.arr m e=>tyP P e λde=>match x with
   |.c (.a (.ep o n k j))=>(0<=i/\i<m)/\K (.c<|.a<|.ep o n k<|j+i.toNat*de.size)
   |_=>False
  |_=>False
 |_=>False
theorem Xt {d:TyD}{x ix:TV}{K:TV->Prop}(h:qN P d x ix K):∃v,xb P d x ix=some v/\K v:=by
 unfold qN at h;split at h
 .split at h
  next he=>obtain⟨de,hd,hnew⟩:=yX h;clear h;have h:=hnew;clear hnew;obtain⟨v,hv,hk⟩:=iM h;exact⟨v,by simp only[xb,he,hd,hv],hk⟩
  .rename_i he;obtain⟨de,hd,hnew⟩:=yX h;clear h;have h:=hnew;clear hnew;split at h
   .exact⟨_,by simp only[xb,he,hd,fk,h.1,and_self,rG],h.2⟩
   .grind
  .grind
 .grind
def nA (P:Program)(d:TyD)(x ix:TV)(K:TV->Prop):Prop:=
 match ix with
 |.c (.a (.fz (.int _ i)))=>match d.kind with
  |.str=>match x with
   |.c (.a (.fz (.str l)))=>(0<=i/\i<l.length)/\K (.c<|.a<|.fz<|.int .u8 (l.getD i.toNat 0).toNat)
   |_=>False
  |_=>match Xz P d x ix with|some v=>K v|none=>False
 |_=>False
theorem pA {d:TyD}{x ix:TV}{K:TV->Prop}(h:nA P d x ix K):∃v,Xz P d x ix=some v/\K v:=by
 unfold nA at h;split at h
 .split at h
  .rename_i he;split at h
   .exact⟨_,by simp only[Xz,he,h.1,and_self,rG],h.2⟩
   .grind
  .grind
 .grind
def bndV (x:Option TV)(dflt:Int)(K:Int->Prop):Prop:=
 match x with
 |none=>K dflt
 |some (.c (.a (.fz (.int _ i))))=>K i
 |_=>False
theorem qo {x:Option TV}{dflt most:Nat}{K:Int->Prop}(h:bndV x dflt K):∃i:Int,K i/\(0<=i->i<=most->wv x dflt most=some i.toNat):=by
 unfold bndV at h;split at h
 .exact⟨dflt,h,λ_ _=>by simp[wv]⟩
 next i=>exact⟨i,h,λh1 h2=>by simp only[wv,h1,h2,and_self,rG]⟩
 .grind
def K3 (lo hi mx:Option TV)(len:Nat)(K:Nat->Nat->Prop):Prop:=
 match mx with
 |none=>bndV hi len λb=>bndV lo ((0:Nat):Int) λa=>(0<=a/\a<=b/\b<=len)/\K a.toNat b.toNat
 |some m=>match hi with
  |none=>False
  |some _=>bndV (some m) len λc=>bndV hi len λb=>bndV lo ((0:Nat):Int) λa=>(0<=a/\a<=b/\b<=c/\c<=len)/\K a.toNat b.toNat
theorem qK {lo hi mx:Option TV}{len:Nat}{K:Nat->Nat->Prop}(h:K3 lo hi mx len K):∃a b,Zz lo hi mx len=some (a,b)/\K a b:=by
 unfold K3 at h;split at h
 .obtain⟨b,h,hb⟩:=qo (most:=len) h;obtain⟨a,h,ha⟩:=qo (most:=b.toNat) h;obtain⟨⟨h1,h2,h3⟩,hk⟩:=h;refine⟨_,_,?_,hk⟩;have e1:wv none len len=some len:=rfl;simp only[Zz,e1,hb za h3,(za:b.toNat<=len),tE,rF,false_implies,and_self,rG,ha h1 za,ry]
 .split at h
  .grind
  next m hi=>obtain⟨c,h,hc⟩:=qo (most:=len) h;obtain⟨b,h,hb⟩:=qo (most:=len) h;obtain⟨a,h,ha⟩:=qo (most:=b.toNat) h;obtain⟨⟨h1,h2,h3,h4⟩,hk⟩:=h;refine⟨_,_,?_,hk⟩;simp only[Zz,hc za h4,hb za za,(za:b.toNat<=c.toNat),Option.isSome_some,implies_true,and_self,rG,ha h1 za,ry]
def mh (P:Program)(d:TyD)(x:TV)(lo hi mx:Option TV)(K:TV->Prop):Prop:=
 match d.kind with
 |.slice e=>tyP P e λde=>match x with
  |.c (.a (.osl o n off len))=>match n==de.size with
   |true=>K3 lo hi mx len λa b=>K<|.c<|.a<|.osl o n (off+a)<|b-a
   |false=>False
  |.c (.a (.fz y))=>y.L de.size=true/\K3 lo hi mx y.ses.length λa b=>br (uo mx) (K<|.c<|.a<|.fz y.cut0)<|K<|.c<|.a<|.fz<|y.cut a b
  |_=>False
 |.str=>match x,mx with
  |.c (.a (.fz (.str l))),none=>K3 lo hi none l.length λa b=>K<|.c<|.a<|.fz<|.str<|(l.take b).drop a
  |_,_=>False
 |_=>False
theorem pR {d:TyD}{x:TV}{lo hi mx:Option TV}{K:TV->Prop}(h:mh P d x lo hi mx K):∃v,wP P d x lo hi mx=some v/\K v:=by
 unfold mh at h;split at h
 .rename_i e he;obtain⟨de,hd,hnew⟩:=yX h;clear h;have h:=hnew;clear hnew;split at h
  .split at h
   next hn=>obtain⟨a,b,h1,h2⟩:=qK h;simp only[rT] at hn;subst hn;exact⟨_,by simp only[wP,he,hd,Z4,rG,h1,ry],h2⟩
   .grind
  .rename_i y;obtain⟨h0,h⟩:=h;obtain⟨a,b,h1,h2⟩:=qK h;cases y with
   |sl nn n es=>
    simp only[FV.L,rT] at h0;simp only[FV.ses] at h1;refine⟨_,by simp only[wP,he,hd,Z4,h0,rG,h1,ry];rfl,?_⟩;simp only[FV.cut,FV.cut0,h0] at h2 ⊢;cases hz:uo mx with
    |true=>rw[hz,br_true] at h2;exact zo h2
    |false=>rw[hz,Wy] at h2;exact zo h2
   |N=>
    simp only[FV.ses,rt] at h1;refine⟨_,by simp only[wP,he,hd,Z4,h1,ry];rfl,?_⟩;cases hz:uo mx<;>rw[hz] at h2<;>exact h2
   |z0 nn=>
    simp only[FV.ses,rt] at h1;refine⟨_,by simp only[wP,he,hd,Z4,h1,ry];rfl,?_⟩;cases hz:uo mx<;>rw[hz] at h2<;>exact h2
   |_=>cases h0
  .grind
 .rename_i he;split at h
  .obtain⟨a,b,h1,h2⟩:=qK h;exact⟨_,by simp only[wP,he,JD,h1,ry],h2⟩
  .grind
 .grind
def loadV (d:TyD)(h:Nat->AObj)(x:TV)(K:AR->Prop):Prop:=
 match x with
 |.c (.a (.ep o n i j))=>match h o with
  |.arz m fs=>match m==n,d.zero with
   |true,some z=>match z with
    |[]=>False
    |z0::zs=>(i<fs.length/\shp (z0::zs) j (fs.getD i [])=((fs.getD i []).drop j).take (z0::zs).length/\d.size=(z0::zs).length)/\
     K ⟨if d.agg then .agg (fzs<|shp (z0::zs) j<|fs.getD i []) else .c<|cell<|(shp (z0::zs) j<|fs.getD i []).getD 0 .N,[],[o]⟩
   |_,_=>False
  |_=>oK' ((wR d (λo=>flat<|h o) x).map λr=>⟨r.1,[],r.2⟩) K
 |.c (.a (.fz y))=>match d.zero with
  |some z=>ask (y.isPt&&(Nat.beq d.size z.length&&Nat.ble 1 z.length))<|ask (shpB z y.prow)<|K ⟨if d.agg then .agg (fzs<|shp z 0 y.prow) else .c<|cell<|(shp z 0 y.prow).getD 0 .N,[],[]⟩
  |none=>oK' ((wR d (λo=>flat<|h o) x).map λr=>⟨r.1,[],r.2⟩) K
 |_=>oK' ((wR d (λo=>flat<|h o) x).map λr=>⟨r.1,[],r.2⟩) K
theorem pX {d:TyD}{h:Nat->AObj}{x:TV}{K:AR->Prop}(hl:loadV d h x K):∃r,(wR d (λo=>flat<|h o) x).map (λr=>(⟨r.1,[],r.2⟩:AR))=some r/\K r:=by
 unfold loadV at hl;split at hl
 .rename_i o n i j;split at hl
  .rename_i m fs ho;split at hl
   .rename_i z hm hz;simp only[rT] at hm;split at hl
    .exact hl.elim
    .rename_i z0 zs;obtain⟨⟨h1,h2,h3⟩,hk⟩:=hl;have hget:fs[i]?=some (fs.getD i []):=by simp[getD,rf h1]
     generalize fs.getD i []=row at*;generalize hzz:z0::zs=z' at*
     have hlen:(row.drop j).length>=z'.length:=by
      have:=t8 List.length h2;rw[XS,rM,Nat.min_def] at this;split at this<;>omega
     have hzl:0<z'.length:=by rw[<-hzz];simp
     refine⟨_,?_,hk⟩;simp only[wR,ho,flat,hm,rG,rq,hget,ry];by_cases ha:d.agg=true
     .have e1:(fzs row).drop j=fzs (row.drop j):=by simp[fzs]
      simp only[X4,ha,rG,e1,show d.size<=(fzs<|row.drop j).length by simp[fzs];simp at hlen;omega,ry];rw[h2,h3];simp[fzs]
     .have e1:(fzs row).drop j=fzs (row.drop j):=by simp[fzs]
      simp only[X4,ha,rF,rN,e1]
      match hrd:row.drop j,hlen with
      |[],hlen=>exact absurd hzl (by simp only[rt] at hlen;omega)
      |y::ys,_=>
       simp only[fzs,rO,ry];rw[h2,hrd]
       match z',hzl with
       |_::_,_=>simp
   .exact hl.elim
  .exact xF hl
 .rename_i y;split at hl
  .rename_i z hz;obtain⟨h1,hl⟩:=Zb hl;obtain⟨h4,hk⟩:=Zb hl;simp only[oZ] at h1;obtain⟨h1,h2,h3⟩:=h1;have h2:=sw h2;have h3:=rR h3;obtain⟨h5,h6⟩:=gG [] h4;simp only[rH,rt] at h5;rw[h5] at hk;refine⟨_,?_,hk⟩;have hy:=Jl h1;generalize y.prow=row at*;subst hy;simp only[wR];by_cases ha:d.agg=true
   .simp only[X4,ha,rG,h2,show z.length<=(fzs row).length by simpa[fzs] using h6,ry];simp[fzs,List.map_take]
   .simp only[X4,ha,rF,rN]
    match row,h6 with
    |[],h6=>exact absurd h3 (by simp only[rt] at h6;omega)
    |c::cs,_=>
     match z,h3 with
     |_::_,_=>simp[fzs,ha]
  .exact xF hl
 .exact xF hl
def ln (d:TyD)(h:Nat->AObj)(x y:TV)(K:AR->Prop):Prop:=
 match x with
 |.c (.a (.ep o n i j))=>match h o with
  |.arz m fs=>match uQ y with
   |some cs=>match unfz cs with
    |some fcs=>match m==n&&fcs.length==d.size&&j==0&&fcs.length==n with
     |true=>(i<fs.length/\(fs.getD i []).length=n)/\K ⟨.any,[(o,.arz n<|fs.set i fcs)],[o]⟩
     |false=>match m==n&&fcs.length==d.size&&Nat.ble (j+fcs.length) n with
      |true=>(i<fs.length/\(fs.getD i []).length=n)/\K ⟨.any,[(o,.arz n<|fs.set i<|YG (fs.getD i []) j fcs)],[o]⟩
      |false=>oK' (uD d h x y) K
    |none=>False
   |none=>False
  |_=>oK' (uD d h x y) K
 |_=>oK' (uD d h x y) K
theorem pV {d:TyD}{h:Nat->AObj}{x y:TV}{K:AR->Prop}(hl:ln d h x y K):∃r,uD d h x y=some r/\K r:=by
 unfold ln at hl;split at hl
 .rename_i o n i j;split at hl
  .rename_i m fs ho;split at hl
   .rename_i cs hc;split at hl
    .rename_i fcs hu;split at hl
     .rename_i hb;simp only[oZ,rT] at hb;obtain⟨⟨⟨hm,hd⟩,hj⟩,hn⟩:=hb;obtain⟨⟨h1,h2⟩,hk⟩:=hl;have hget:fs[i]?=some (fs.getD i []):=zd
      have hsp:YG (fs.getD i []) j fcs=fcs:=by
       subst hj;simp only[YG,List.take_zero,rH,rB]
       grind
      simp only[uD,hc,ho,hu,hm,hd,and_self,rG,hget]
      grind
     .split at hl
      .rename_i hb;simp only[oZ,rT,Nat.ble_eq] at hb;obtain⟨⟨hm,hd⟩,hj⟩:=hb;obtain⟨⟨h1,h2⟩,hk⟩:=hl;have hget:fs[i]?=some (fs.getD i []):=zd
       simp only[uD,hc,ho,hu,hm,hd,and_self,rG,hget]
       grind
      .exact xF hl
    .grind
   .grind
  .exact xF hl
 .exact xF hl
def l9 (n:Nat)(h:Nat->AObj)(x:TV)(K:List (List FV)->List Nat->Prop):Prop:=
 match x with
 |.c (.a (.fz y))=>y.L n=true/\K y.ses []
 |.c (.a (.osl o m off len))=>match h o with
  |.arz m' es=>match m==n&&m'==n with
   |true=>off+len<=es.length/\K ((es.drop off).take len) [o]
   |false=>False
  |_=>False
 |_=>False
theorem pP {n:Nat}{h:Nat->AObj}{x:TV}{K:List (List FV)->List Nat->Prop}(hl:l9 n h x K):∃es rd,uM n h x=some (es,rd)/\K es rd:=by
 unfold l9 at hl;split at hl
 .rename_i y;obtain⟨h1,hk⟩:=hl;cases y with
  |sl nn m es=>simp only[FV.L,rT] at h1;exact⟨_,_,by simp only[uM,h1,rG];rfl,hk⟩
  |N=>exact⟨_,_,rfl,hk⟩
  |z0=>exact⟨_,_,rfl,hk⟩
  |_=>cases h1
 .split at hl
  .rename_i ho;split at hl
   next hb=>simp only[oZ,rT] at hb;exact⟨_,_,by simp only[uM,ho,hb.1,hb.2,hl.1,and_self,rG],hl.2⟩
   .grind
  .grind
 .grind
def fB (d:TyD)(fr:Nat)(h:Nat->AObj)(s x:TV)(K:AR->Prop):Prop:=
 l9 d.size h x λnew rd=>match s with
  |.c (.a (.fz .N))=>br new.isEmpty (K ⟨s,[],rd⟩)<|zS new.length d.bytes/\K ⟨.c<|.a<|.osl fr d.size 0 new.length,[(fr,.arz d.size new)],rd⟩
  |.c (.a (.fz (.z0 _)))=>br new.isEmpty (K ⟨s,[],rd⟩)<|zS new.length d.bytes/\K ⟨.c<|.a<|.osl fr d.size 0 new.length,[(fr,.arz d.size new)],rd⟩
  |.c (.a (.osl o n off len))=>match h o with
   |.arz m fs=>match n==d.size&&m==d.size&&off==0 && !(fr::rd).contains o with
    |true=>(len<=fs.length/\zS (len+new.length) d.bytes)/\
     K ⟨.c<|.a<|.osl fr d.size 0<|len+new.length,[(o,.gone),(fr,.arz d.size<|fs.take len++new)],o::rd⟩
    |false=>False
   |_=>False
  |_=>False
theorem fO {d:TyD}{fr:Nat}{h:Nat->AObj}{s x:TV}{K:AR->Prop}(hl:fB d fr h s x K):∃r,wg d fr h s x=some r/\K r:=by
 unfold fB at hl;obtain⟨new,rd,he,hl⟩:=pP hl;split at hl
 .by_cases hn:new=[]
  .subst hn;exact⟨_,by simp only[wg,he,rG],hl⟩
  .have:new.isEmpty=false:=by cases new<;>simp_all
   rw[this,Wy] at hl;exact⟨_,by simp only[wg,he,hn,rN,hl.1,rG],hl.2⟩
 .by_cases hn:new=[]
  .subst hn;exact⟨_,by simp only[wg,he,rG],hl⟩
  .have:new.isEmpty=false:=by cases new<;>simp_all
   rw[this,Wy] at hl;exact⟨_,by simp only[wg,he,hn,rN,hl.1,rG],hl.2⟩
 .split at hl
  .rename_i ho;split at hl
   next hb=>simp only[oZ,rT,sX] at hb;obtain⟨⟨⟨h1,h2⟩,h3⟩,h4⟩:=hb;obtain⟨⟨h5,h6⟩,hk⟩:=hl;exact⟨_,by simp only[wg,he,ho,h1,h2,h3,h4,h5,h6,Bool.not_false,and_self,rG],hk⟩
   .grind
  .grind
 .grind
def Jt (P:Program)(t':TypeId)(de:TyD)(fr:Nat)(s x:TV)(K:AR->Prop):Prop:=
 match P.underlying t',s,x with
 |some (.int _),.c (.a (.fz .N)),.c (.a (.fz (.int _ n)))=>match decide (0<de.size/\0<de.bytes)&&(de.zero.map List.length==some de.size) with
  |true=>(0<n/\zS n.toNat de.bytes)/\K ⟨.c<|.a<|.osl fr de.size 0 n.toNat,[(fr,.arz de.size [])],[]⟩
  |false=>False
 |_,_,_=>False
theorem Kw {t':TypeId}{de:TyD}{fr:Nat}{s x:TV}{K:AR->Prop}(hl:Jt P t' de fr s x K):∃r,(Za P t' de fr s x).map xa=some r/\K r:=by
 unfold Jt at hl;split at hl
 .rename_i ht;split at hl
  next hb=>simp only[oZ,rL,rT] at hb;refine⟨_,?_,hl.2⟩;unfold Za;simp only[ht];rw[oX ⟨hl.1.1,hb.1.1,hl.1.2,hb.1.2,hb.2⟩];rfl
  .grind
 .grind
def WA (P:Program)(b:Builtin)(ts:List TypeId)(fr:Nat)(h:Nat->AObj)(args:List TV)(K:AR->Prop):Prop:=
 match b,ts,args with
 |.len,[t],[x]=>tyP P t λd=>match d.kind,x with
  |.slice e,.c (.a (.fz y))=>tyP P e λde=>y.L de.size=true/\K ⟨iV y.ses.length,[],[]⟩
  |_,_=>oK' (xA P .len [t] fr h [x]) K
 |.append,[t,t'],[s,x]=>match t==t' with
  |true=>tyP P t λd=>match d.kind with
   |.slice e=>tyP P e λde=>match decide (0<de.size/\0<de.bytes/\de.bytes<=4096)&&(de.zero.map List.length==some de.size) with
    |true=>fB de fr h s x K
    |false=>False
   |_=>False
  |false=>tyP P t λd=>match d.kind with
   |.slice e=>tyP P e λde=>Jt P t' de fr s x K
   |_=>False
 |b,ts,args=>oK' (xA P b ts fr h args) K
theorem KV {b:Builtin}{ts:List TypeId}{fr:Nat}{h:Nat->AObj}{args:List TV}{K:AR->Prop}(hl:WA P b ts fr h args K):∃r,xA P b ts fr h args=some r/\K r:=by
 unfold WA at hl;split at hl
 .rename_i t x;obtain⟨d,hd,hnew⟩:=yX hl;clear hl;have hl:=hnew;clear hnew;split at hl
  .rename_i e y he;obtain⟨de,hde,hnew⟩:=yX hl;clear hl;have hl:=hnew;clear hnew;obtain⟨h1,hk⟩:=hl;cases y with
   |sl nn m es=>exact⟨_,by simp only[xA,xL,yr,hd,lenP,he,Xl,ry];rfl,hk⟩
   |N=>exact⟨_,by simp only[xA,xL,yr,hd,lenP,he,Xl,ry];rfl,hk⟩
   |z0=>exact⟨_,by simp only[xA,xL,yr,hd,lenP,he,Xl,ry];rfl,hk⟩
   |_=>cases h1
  .exact xF hl
 .rename_i t t' s x;split at hl
  .rename_i ht;simp only[rT] at ht;subst ht;obtain⟨d,hd,hnew⟩:=yX hl;clear hl;have hl:=hnew;clear hnew;split at hl
   .rename_i e he;obtain⟨de,hde,hnew⟩:=yX hl;clear hl;have hl:=hnew;clear hnew;split at hl
    next hb=>simp only[oZ,rL,rT] at hb;obtain⟨r,h1,h2⟩:=fO hl;exact⟨r,by simp only[xA,rG,yk,hd,he,hde,ZI,hb.1,hb.2,and_self,h1],h2⟩
    .grind
   .grind
  .rename_i ht;obtain⟨d,hd,hnew⟩:=yX hl;clear hl;have hl:=hnew;clear hnew;split at hl
   .rename_i e he;obtain⟨de,hde,hnew⟩:=yX hl;clear hl;have hl:=hnew;clear hnew;obtain⟨r,h1,h2⟩:=Kw hl;have ht':¬t=t':=zd
    exact⟨r,by simp only[xA,ht',rN,yk,hd,he,hde,h1],h2⟩
   .grind
 .exact xF hl
def ptrQ (P:Program)(t:TypeId)(op:BinOp)(x y:TV):Option (FV×Bool):=
 match x,y with
 |.c (.a (.fz y0)),.c (.a (.fz (.cst (.pointer none))))=>match tyOf P t with
  |some d=>match d.kind,op with
   |.ptr _,.eql=>some (y0,false)
   |.ptr _,.neq=>some (y0,true)
   |_,_=>none
  |none=>none
 |_,_=>none
theorem ptrQ_inv {t:TypeId}{op:BinOp}{x y:TV}{q:FV×Bool}{K:TV->Prop}(h:ptrQ P t op x y=some q)(hl:br q.1.isNp (K<|bV (!q.2))<|ask q.1.isPt<|K<|bV q.2):∃v,binA P t op x y=some v/\K v:=by
 have key:∀ {y0:FV} {b:Bool} {g:Bool->Bool},q=(y0,b)->(∀r,(Kv (.a<|.fz y0)<|.a<|.fz<|.cst<|.pointer none)=some r->∃v,binA P t op x y=some v/\v=bV (g r))->(g true= !b)->(g false=b)->∃v,binA P t op x y=some v/\K v:=by
  intro y0 b g hq hg g1 g2;subst hq;cases hn:y0.isNp with
  |true=>
   rw[hn] at hl;obtain⟨v,h1,rfl⟩:=hg true (by rw[isNp_eq hn];rfl);exact⟨_,h1,by rw[g1];exact hl⟩
  |false=>
   rw[hn] at hl;obtain⟨h2,hk⟩:=Zb hl;obtain⟨v,h1,rfl⟩:=hg false (by rw[Jl (y:=y0) h2];rfl);exact⟨_,h1,by rw[g2];exact hk⟩
 unfold ptrQ at h;split at h
 .rename_i y0;split at h
  .rename_i d hd;split at h
   .rename_i e hk;injection h with h
    exact key (g:=λr=>r) h.symm (λr hr=>⟨_,by simp only[binA,eqA,eqC,hd,hk,hr,eqOp,ry],rfl⟩) rfl rfl
   .rename_i e hk;injection h with h
    exact key (g:=λr=> !r) h.symm (λr hr=>⟨_,by simp only[binA,eqA,eqC,hd,hk,hr,eqOp,ry],rfl⟩) rfl rfl
   .cases h
  .cases h
 .cases h
def binV (P:Program)(t:TypeId)(op:BinOp)(x y:TV)(K:TV->Prop):Prop:=
 match op,x,y with
 |.quo,.c (.a (.fz (.int k a))),.c (.a (.fz (.int k' b)))=>(k=k'/\b≠0)/\K (.c<|.a<|.fz<|.int k<|k.wrap<|a.tdiv b)
 |.rem,.c (.a (.fz (.int k a))),.c (.a (.fz (.int k' b)))=>(k=k'/\b≠0)/\K (.c<|.a<|.fz<|.int k<|a.tmod b)
 |.add,.c (.a (.fz (.str a))),.c (.a (.fz (.str b)))=>(a.length+b.length<=1000000000000)/\K (.c<|.a<|.fz<|.str<|a++b)
 |op,x,y=>match ptrQ P t op x y with
  |some q=>br q.1.isNp (K<|bV (!q.2))<|ask q.1.isPt<|K<|bV q.2
  |none=>match binA P t op x y with|some v=>K v|none=>False
theorem binV_inv {t:TypeId}{op:BinOp}{x y:TV}{K:TV->Prop}(hl:binV P t op x y K):∃v,binA P t op x y=some v/\K v:=by
 unfold binV at hl;split at hl
 .obtain⟨⟨rfl,h2⟩,hk⟩:=hl;exact⟨_,by simp only[binA,rG,gh,h2,rN,ry],hk⟩
 .obtain⟨⟨rfl,h2⟩,hk⟩:=hl;exact⟨_,by simp only[binA,rG,gh,h2,rN,ry],hk⟩
 .obtain⟨h2,hk⟩:=hl;exact⟨_,by simp only[binA,ba,h2,rG,ry],hk⟩
 .split at hl
  next q hq=>exact ptrQ_inv hq hl
  .split at hl
   next v hv=>exact⟨v,hv,hl⟩
   .exact hl.elim
def exC:List FV->(List FV->Prop)->Prop
 |[],K=>K []
 |.int k _::z,K=> ∃n:Int,exC z λl=>K<|.int k n::l
 |.bool _::z,K=> ∃b:Bool,exC z λl=>K<|.bool b::l
 |.str _::z,K=> ∃s:List UInt8,exC z λl=>K<|.str s::l
 |_::z,K=> ∃x:FV,exC z λl=>K<|x::l
theorem fA:∀ {z:List FV} {K:List FV->Prop},exC z K->∃l,K l/\l.length=z.length/\((z.all λf=>match f with|.int _ _=>true|.bool _=>true|.str _=>true|_=>false)=true->(l.all FV.scalar)=true)
 |[],K,h=>⟨[],h,rfl,λ_=>rfl⟩
 |f::z,K,h=>by
  cases f<;>(obtain⟨a,h⟩:=h;obtain⟨l,hk,hlen,hs⟩:=fA h;refine⟨_,hk,zd,λhz=>?_⟩;simp only[tj,oZ,sr,rF,false_and] at hz ⊢)<;>
   first|(exact hz.elim)|(exact⟨rfl,hs hz⟩)
def fN (m:Bool×List EK)(key:List FV):List MapE->Nat->(Option Nat->Prop)->Prop
 |[],_,K=>K none
 |e::es,i,K=>match e.1.1==m.1 with
  |true=>match y9 m.2 (fzs key) (fzs e.1.2) with
   |some b=>br b (K<|some i)<|fN m key es (i+1) K
   |none=>False
  |false=>False
theorem jM {m:Bool×List EK}{key:List FV}:∀ {es:List MapE} {i:Nat} {K:Option Nat->Prop},fN m key es i K->∃r,vj m key es i=some r/\K r
 |[],i,K,h=>⟨none,rfl,h⟩
 |e::es,i,K,h=>by
  unfold fN at h;split at h
  .rename_i hag;split at h
   .rename_i b hb;simp only[vj];rw[oX zd,hb];cases b with
    |true=>exact⟨some i,rfl,h⟩
    |false=>exact jM (show fN m key es (i+1) K from h)
   .grind
  .grind
def few {α:Type}(l:List α):Bool:=Nat.ble l.length 24
def lkZ (m:(Bool×List EK)×(Bool×List WV))(k:List FV)(es:List MapZ)(rd:List Nat)(ok:Bool)(K:AR->Prop):Prop:=
 match unfz m.2.2 with
 |some z=>(exC z λl=>gH m k es=some (some l)/\oK' ((Ks ok (m.2.1,fzs l) true).map λv=>⟨v,[],rd⟩) K)\/(gH m k es=some none/\oK' ((Ks ok m.2 false).map λv=>⟨v,[],rd⟩) K)
 |none=>False
theorem lQ {m:(Bool×List EK)×(Bool×List WV)}{h:Nat->AObj}{x key:TV}{k:List FV}{es:List MapZ}{rd:List Nat}{ok:Bool}{K:AR->Prop}(hk:keyA m key=some k)(hoe:qI h x=some (rd,es))(hl:lkZ m k es rd ok K):∃r,wo m h x key ok=some r/\K r:=by
 unfold lkZ at hl;split at hl
 .rcases hl with hl|⟨hf,hl⟩
  .obtain⟨l,⟨hf,hl⟩,_⟩:=fA hl;obtain⟨r,hr,hK⟩:=xF hl;exact⟨r,by simp only[wo,hoe,hk,hf,hr],hK⟩
  .obtain⟨r,hr,hK⟩:=xF hl;exact⟨r,by simp only[wo,hoe,hk,hf,hr],hK⟩
 .exact hl.elim
def fm (m:(Bool×List EK)×(Bool×List WV))(h:Nat->AObj)(x key:TV)(ok:Bool)(K:AR->Prop):Prop:=
 match keyA m key with
 |some k=>match x with
  |.c (.a (.fz q))=>ask q.isMp<|lkZ m k q.mes [] ok K
  |x=>match vE h x with
   |some oe=>lkZ m k oe.2 [oe.1] ok K
   |none=>match kV (λo=>flat<|h o) x with
    |some oe=>match few oe.2 with
     |true=>fN m.1 k oe.2 0 λr=>oK' ((mK m oe.2 r ok).map λv=>⟨v,[],[oe.1]⟩) K
     |false=>False
    |none=>False
 |none=>False
theorem fX {m:(Bool×List EK)×(Bool×List WV)}{h:Nat->AObj}{x key:TV}{ok:Bool}{K:AR->Prop}(hl:fm m h x key ok K):∃r,wo m h x key ok=some r/\K r:=by
 unfold fm at hl;split at hl
 .rename_i k hk;split at hl
  next q=>obtain⟨hq,hl⟩:=Zb hl;exact lQ hk (by rw[isMp_eq hq];rfl) hl
  .rename_i hx
   have hz:qI h x=(vE h x).map λp=>([p.1],p.2):=by
    unfold qI;split
    .exact(hx _ rfl).elim
    .rfl
   split at hl
   next oe hoe=>exact lQ hk (by rw[hz,hoe];rfl) hl
   .rename_i hn;split at hl
    .rename_i oe hoe;split at hl
     .obtain⟨q,hq,hl⟩:=jM hl;obtain⟨r,hr,hK⟩:=xF hl
      have hm:mapL (λo=>flat<|h o) x=some ([oe.1],oe.2):=by
       unfold mapL;split
       .exact(hx _ rfl).elim
       .rw[hoe];rfl
      exact⟨r,by simp only[wo,hz,hn,Option.map_none,vw,hk,hm,hq,hr],hK⟩
     .exact hl.elim
    .exact hl.elim
 .exact hl.elim
def YA (m:(Bool×List EK)×(Bool×List WV))(h:Nat->AObj)(x key:TV)(K:AR->Prop):Prop:=
 match keyA m key with
 |some k=>match kV (λo=>flat<|h o) x with
  |some oe=>match few oe.2 with
   |true=>fN m.1 k oe.2 0 λr=>oK' (entE m oe.1 k oe.2 r) K
   |false=>False
  |none=>False
 |none=>False
theorem WS {m:(Bool×List EK)×(Bool×List WV)}{h:Nat->AObj}{x key:TV}{K:AR->Prop}(hl:YA m h x key K):∃r,wA m (λo=>flat<|h o) x key=some r/\K r:=by
 unfold YA at hl;split at hl
 .rename_i k hk;split at hl
  .rename_i oe hoe;split at hl
   .obtain⟨q,hq,hl⟩:=jM hl;obtain⟨r,hr,hK⟩:=xF hl;exact⟨r,by simp only[wA,hk,hoe,hq,hr],hK⟩
   .grind
  .grind
 .grind
def qQ (m:(Bool×List EK)×(Bool×List WV))(h:Nat->AObj)(x key v:TV)(K:AR->Prop):Prop:=
 match keyA m key,gO v with
 |some k,some r=>match vE h x with
  |some oe=>match unfz r.2 with
   |some fr=> ∃es':List MapZ,updZ m k (r.1,fr) oe.2=some es'/\K ⟨.any,[(oe.1,.mapz es')],[oe.1]⟩
   |none=>False
  |none=>match kV (λo=>flat<|h o) x with
   |some oe=>match few oe.2 with
    |true=>fN m.1 k oe.2 0 λq=>K ⟨.any,[(oe.1,.mapo<|updE m k r oe.2 q)],[oe.1]⟩
    |false=>False
   |none=>False
 |_,_=>False
theorem Xv {m:(Bool×List EK)×(Bool×List WV)}{h:Nat->AObj}{x key v:TV}{K:AR->Prop}(hl:qQ m h x key v K):∃r,yS m h x key v=some r/\K r:=by
 unfold qQ at hl;split at hl
 .rename_i k rw_ hk hrw;split at hl
  .rename_i oe hoe;split at hl
   next fr hfr=>obtain⟨es',hes,hK⟩:=hl;exact⟨_,by simp only[yS,hoe,hk,hrw,hfr,hes,ry],hK⟩
   .grind
  .rename_i hn;split at hl
   .rename_i oe hoe;split at hl
    .obtain⟨q,hq,hK⟩:=jM hl;exact⟨_,by simp only[yS,hn,yG,hk,hrw,hoe,hq],hK⟩
    .grind
   .grind
 .grind
def mapP (P:Program)(t:TypeId)(f:(Bool×List EK)×(Bool×List WV)->Prop):Prop:=match J3 P t with|some m=>f m|none=>False
theorem Wo {P:Program}{t:TypeId}{f:(Bool×List EK)×(Bool×List WV)->Prop}(h:mapP P t f):∃m,J3 P t=some m/\f m:=by
 unfold mapP at h
 grind
def elemP (P:Program)(t:TypeId)(f:TyD->Prop):Prop:=tyP P t λd=>match d.kind with
 |.slice e=>tyP P e f
 |_=>False
theorem nh {P:Program}{t:TypeId}{f:TyD->Prop}(h:elemP P t f):∃de,f de/\∀ {α:Type} (g:TyD->Option α),yk P t g=g de:=by
 obtain⟨d,hd,h⟩:=yX h;split at h
 .rename_i e hk;obtain⟨de,hde,h⟩:=yX h;unfold yk
  grind
 .grind
def qR (de:TyD)(fr:Nat)(x y:TV)(K:AR->Prop):Prop:=
 match x,y,de.zero with
 |.c (.a (.fz (.int _ n))),.c (.a (.fz (.int _ m))),some z=>(n=m/\0<=n/\z.length=de.size/\0<de.size/\0<de.bytes/\zS n.toNat de.bytes)/\K ⟨.c<|.a<|.osl fr de.size 0 n.toNat,[(fr,.arz de.size<|List.replicate n.toNat z)],[]⟩
 |_,_,_=>False
theorem Xq {de:TyD}{fr:Nat}{x y:TV}{K:AR->Prop}(h:qR de fr x y K):∃q,wV de fr x y=some q/\K ⟨.c<|.a<|.osl fr de.size 0 q.1,[(fr,.arz de.size<|List.replicate q.1 q.2)],[]⟩:=by
 unfold qR at h;split at h
 next k1 n k2 m z hz=>exact⟨(n.toNat,z),by simp only[wV,hz,oX h.1],h.2⟩
 .grind
def fldV (d:TyD)(f:Nat)(K:Nat->Prop):Prop:=
 match d.kind with
 |.struct fs=>match fs[f]? with
  |some fd=>match fd.2.1 with
   |0=>False
   |_+1=>K fd.1
  |none=>False
 |_=>False
def opV (P:Program)(o:Oper)(fr:Nat)(ρ:Operand->TV)(h:Nat->AObj)(K:AR->Prop):Prop:=
 match o.op with
 |.indexAddr t x ix=>tyP P t λd=>qN P d (ρ x) (ρ ix) λv=>K ⟨v,[],[]⟩
 |.index t x ix=>tyP P t λd=>nA P d (ρ x) (ρ ix) λv=>K ⟨v,[],[]⟩
 |.slice t x lo hi mx=>tyP P t λd=>mh P d (ρ x) (lo.map ρ) (hi.map ρ) (mx.map ρ) λv=>K ⟨v,[],[]⟩
 |.load t x=>tyP P t λd=>loadV d h (ρ x) K
 |.store t x y=>tyP P t λd=>ln d h (ρ x) (ρ y) K
 |.call ⟨.builtin b,args,ts⟩=>WA P b ts.toList fr h (args.toList.map ρ) K
 |.binOp op t x y _=>binV P t op (ρ x) (ρ y) λv=>K ⟨v,[],[]⟩
 |.build t parts=>asksP h (parts.toList.map λp=>(p.1,ρ p.2)) (tyP P t λd=>
   match XB P d (givP h<|parts.toList.map λp=>(p.1,ρ p.2)).1 with
   |some v=>K ⟨v,(givP h<|parts.toList.map λp=>(p.1,ρ p.2)).2,oslP<|parts.toList.map λp=>(p.1,ρ p.2)⟩
   |none=>False)
 |.buildSlice t len parts=>asksP h (parts.toList.map λp=>(p.1,ρ p.2))
   (oK' ((yk P t λde=>wh de fr len (givP h<|parts.toList.map λp=>(p.1,ρ p.2)).1).map λr=>
    ⟨(xa r).val,(xa r).upd++(givP h<|parts.toList.map λp=>(p.1,ρ p.2)).2,oslP<|parts.toList.map λp=>(p.1,ρ p.2)⟩) K)
 |.lookup t x ix ok=>mapP P t λm=>fm m h (ρ x) (ρ ix) ok K
 |.mapEntry t x k=>mapP P t λm=>YA m h (ρ x) (ρ k) K
 |.mapUpdate t x k v=>mapP P t λm=>qQ m h (ρ x) (ρ k) (ρ v) K
 |.makeSlice t l c=>elemP P t λde=>qR de fr (ρ l) (ρ c) K
 |.fieldAddr t x f=>match ρ x with
  |.c (.a (.fz y))=>tyP P t λd=>fldV d f λj=>ask y.isPt<|K ⟨.c<|.a<|.fz<|.pt<|y.prow.drop j,[],[]⟩
  |_=>oK' (aopF P o fr ρ h) K
 |.nilCheck x=>match ρ x with
  |.c (.a (.fz y))=>ask y.isPt<|K ⟨.c<|.a<|.fz y,[],[]⟩
  |_=>oK' (aopF P o fr ρ h) K
 |_=>oK' (aopF P o fr ρ h) K
theorem opV_inv {o:Oper}{fr:Nat}{ρ:Operand->TV}{h:Nat->AObj}{K:AR->Prop}(hl:opV P o fr ρ h K):∃r,aopF P o fr ρ h=some r/\K r:=by
 unfold opV at hl;split at hl
 next t x ix ho=>obtain⟨d,hd,hnew⟩:=yX hl;clear hl;have hl:=hnew;clear hnew;obtain⟨v,hv,hk⟩:=Xt hl;exact⟨_,by simp only[aopF,ho,aop,yr,hd,hv,valR,ry],hk⟩
 next t x ix ho=>obtain⟨d,hd,hnew⟩:=yX hl;clear hl;have hl:=hnew;clear hnew;obtain⟨v,hv,hk⟩:=pA hl;exact⟨_,by simp only[aopF,ho,aop,yr,hd,hv,valR,ry],hk⟩
 next t x lo hi mx ho=>obtain⟨d,hd,hnew⟩:=yX hl;clear hl;have hl:=hnew;clear hnew;obtain⟨v,hv,hk⟩:=pR hl;exact⟨_,by simp only[aopF,ho,aop,yr,hd,hv,valR,ry],hk⟩
 next t x ho=>obtain⟨d,hd,hnew⟩:=yX hl;clear hl;have hl:=hnew;clear hnew;obtain⟨r,hr,hk⟩:=pX hl;exact⟨r,by simp only[aopF,ho,aop,yr,hd,hr],hk⟩
 next t x y ho=>obtain⟨d,hd,hnew⟩:=yX hl;clear hl;have hl:=hnew;clear hnew;obtain⟨r,hr,hk⟩:=pV hl;exact⟨r,by simp only[aopF,ho,yr,hd,hr],hk⟩
 next b args ts ho=>obtain⟨r,hr,hk⟩:=KV hl;exact⟨r,by simp only[aopF,ho,hr],hk⟩
 next op t x y ot ho=>obtain⟨v,hv,hk⟩:=binV_inv hl;exact⟨_,by simp only[aopF,ho,aop,hv,valR,ry],hk⟩
 .rename_i t parts ho;obtain⟨hg,hl⟩:=Yp hl;obtain⟨d,hd,hnew⟩:=yX hl;clear hl;have hl:=hnew;clear hnew;split at hl
  next v hv=>exact⟨_,by simp only[aopF,ho,yr,hd,hg,hv,ry],hl⟩
  .exact hl.elim
 next t len parts ho=>obtain⟨hg,hl⟩:=Yp hl;obtain⟨r,hr,hk⟩:=xF hl;exact⟨r,by simp only[aopF,ho,hg,hr],hk⟩
 next t x ix ok ho=>obtain⟨m,hm,hnew⟩:=Wo hl;obtain⟨r,hr,hk⟩:=fX hnew;exact⟨r,by simp only[aopF,ho,xh,hm,hr],hk⟩
 next t x k ho=>obtain⟨m,hm,hnew⟩:=Wo hl;obtain⟨r,hr,hk⟩:=WS hnew;exact⟨r,by simp only[aopF,ho,aop,xh,hm,hr],hk⟩
 next t x k v ho=>obtain⟨m,hm,hnew⟩:=Wo hl;obtain⟨r,hr,hk⟩:=Xv hnew;exact⟨r,by simp only[aopF,ho,xh,hm,hr],hk⟩
 next t l c ho=>obtain⟨de,hnew,hw⟩:=nh hl;obtain⟨q,hq,hk⟩:=Xq hnew;exact⟨_,by simp only[aopF,ho,hw,hq,ry],hk⟩
 .rename_i t x f ho;split at hl
  .rename_i y hy;obtain⟨d,hd,hnew⟩:=yX hl;unfold fldV at hnew;split at hnew
   .rename_i fs hk;split at hnew
    .rename_i fd hf;split at hnew
     .exact hnew.elim
     next n hn=>obtain⟨h1,hk'⟩:=Zb hnew;refine⟨_,?_,hk'⟩;rw[Jl h1] at hy;simp only[aopF,ho,aop,yr,hd,kQ,hk,hf,hn,hy,valR,Nat.succ_ne_zero,rN,ry,FV.prow]
    .exact hnew.elim
   .exact hnew.elim
  .exact xF hl
 .rename_i x ho;split at hl
  next y hy=>obtain⟨h1,hk⟩:=Zb hl;refine⟨_,?_,hk⟩;rw[Jl h1] at hy ⊢;simp only[aopF,ho,aop,qF,hy,valR,ry,FV.prow]
  .exact xF hl
 .exact xF hl
end
def AV.ids:AV->List Nat
 |.ep o _ _ _=> [o]
 |.osl o _ _ _=> [o]
 |.mp o=> [o]
 |.bld _ o=> [o]
 |.osb o _ _=> [o]
 |_=> []
def WV.ids:WV->List Nat
 |.a x=>x.ids
 |.fn _ first cap=>(first.flatMap λp=>p.2.flatMap AV.ids)++(cap.flatMap λp=>p.2.flatMap AV.ids)
def TV.ids:TV->List Nat
 |.any=> []
 |.c x=>x.ids
 |.agg cs=>cs.flatMap WV.ids
 |.tup vs=>vs.flatMap λp=>p.2.flatMap WV.ids
def AObj.ids:AObj->List Nat
 |.arr _ es=>es.flatMap λe=>e.flatMap WV.ids
 |.mapo es=>es.flatMap λe=>e.2.2.flatMap WV.ids
 |_=> []
def AV.inn (l:List Nat):AV->Bool
 |.ep o _ _ _=>l.contains o
 |.osl o _ _ _=>l.contains o
 |.mp o=>l.contains o
 |.bld _ o=>l.contains o
 |.osb o _ _=>l.contains o
 |_=>true
def WV.inn (l:List Nat):WV->Bool
 |.a x=>x.inn l
 |.fn _ first cap=>(first.all λp=>p.2.all<|AV.inn l)&&(cap.all λp=>p.2.all<|AV.inn l)
def TV.inn (l:List Nat):TV->Bool
 |.any=>true
 |.c x=>x.inn l
 |.agg cs=>cs.all<|WV.inn l
 |.tup vs=>vs.all λp=>p.2.all<|WV.inn l
def AObj.inn (l:List Nat):AObj->Bool
 |.arr _ es=>es.all λe=>e.all<|WV.inn l
 |.mapo es=>es.all λe=>e.2.2.all<|WV.inn l
 |_=>true
def Kb (h:Nat->AObj):Nat->List Nat->List Nat->List Nat
 |0,_,seen=>seen
 |_+1,[],seen=>seen
 |k+1,o::todo,seen=>match seen.contains o with
  |true=>Kb h k todo seen
  |false=>Kb h k ((h o).ids++todo)<|seen++[o]
def keep (m:Nat)(U:List Nat):List Nat:=(List.range m).filter λo=> !U.contains o
def Zs (m:Nat)(U:List Nat)(h:Nat->AObj)(todo:List Nat):List Nat:=(Kb h 200 (keep m U++todo) []).filter λo=>Nat.ble m o||U.contains o
def inv (ids:List Nat)(o:Nat):Nat:=ids.idxOf o
def j7:List Nat->Bool
 |[]=>true
 |x::l=> !l.contains x&&j7 l
theorem xv:∀ {l:List Nat},j7 l=true->l.Nodup
 |[],_=>.nil
 |x::l,h=>by
  simp only[j7,oZ,sX,sS,decide_eq_false_iff_not] at h;exact rY.2 ⟨h.1,xv h.2⟩
def Js:AObj->Bool|.gone=>false|_=>true
theorem YV {x:AObj}(h:Js x=true):isLive x:=by cases x<;>simp_all[Js,isLive]
section
def Back (A:List Nat)(ν σ:Nat->Nat)(N:Nat):Prop:=∀o,A.contains o=true->ν o<N/\σ (ν o)=o
variable {A:List Nat} {ν σ:Nat->Nat} {N:Nat}
theorem AV.renV (H:Back A ν σ N){x:AV}(h:x.inn A=true):(x.ren ν).ren σ=x/\(x.ren ν).lt N=true:=by
 cases x<;>simp only[AV.inn] at h<;>simp only[AV.ren,AV.lt,and_self,rL]<;>have:=H _ h<;>simp[this]
theorem vM {α:Type}{f g:α->α}{p q:α->Bool}(hfg:∀x,p x=true->g (f x)=x/\q (f x)=true):∀ {l:List α},l.all p=true->(l.map f).map g=l/\(l.map f).all q=true
 |[],_=>⟨rfl,rfl⟩
 |x::l,h=>by
  simp only[tj,oZ] at h;have h2:=vM hfg h.2
  grind
theorem dN {α β:Type}{f g:α->α}{p q:α->Bool}(hfg:∀x,p x=true->g (f x)=x/\q (f x)=true)(x:β×List α)(h:x.2.all p=true):
  ((x.1,(x.2.map f).map g):β×List α)=x/\(x.2.map f).all q=true:=by
 have:=vM hfg h
 grind
theorem WV.renV (H:Back A ν σ N){x:WV}(h:x.inn A=true):(x.ren ν).ren σ=x/\(x.ren ν).lt N=true:=by
 cases x with
 |a x=>simp only[WV.ren,WV.lt,WV.inn] at h ⊢;have:=AV.renV H h;simp[this]
 |fn f first cap=>
  simp only[WV.inn,oZ] at h
  have key:∀l:List<|Bool×List AV,(l.all λp=>p.2.all<|AV.inn A)=true->
    ((l.map λp=>(p.1,p.2.map<|AV.ren ν)).map λp=>(p.1,p.2.map<|AV.ren σ))=l/\((l.map λp=>(p.1,p.2.map<|AV.ren ν)).all λp=>p.2.all<|AV.lt N)=true:=
   λl hl=>vM (p:=λp=>p.2.all<|AV.inn A) (λx hx=>dN (λy hy=>AV.renV H hy) x hx) hl
  simp only[WV.ren,WV.lt,(key _ h.1).1,(key _ h.2).1,(key _ h.1).2,(key _ h.2).2,tq,and_self]
theorem TV.renV (H:Back A ν σ N){x:TV}(h:x.inn A=true):(x.ren ν).ren σ=x/\(x.ren ν).lt N=true:=by
 cases x with
 |any=>exact⟨rfl,rfl⟩
 |c x=>simp only[TV.ren,TV.lt,TV.inn] at h ⊢;have:=WV.renV H h;simp[this]
 |agg cs=>simp only[TV.ren,TV.lt,TV.inn] at h ⊢;have:=vM (λx hx=>WV.renV H (x:=x) hx) h;simp only[this.1,this.2,and_self]
 |tup vs=>
  simp only[TV.ren,TV.lt,TV.inn] at h ⊢;have:=vM (f:=λp:Bool×List WV=>(p.1,p.2.map<|WV.ren ν)) (g:=λp=>(p.1,p.2.map<|WV.ren σ)) (q:=λp=>p.2.all<|WV.lt N) (λx hx=>dN (λy hy=>WV.renV H hy) x hx) h
  grind
theorem AObj.renV (H:Back A ν σ N){x:AObj}(h:x.inn A=true):(x.ren ν).ren σ=x/\(x.ren ν).lt N=true:=by
 cases x with
 |gone=>exact⟨rfl,rfl⟩
 |arz n fs=>exact⟨rfl,rfl⟩
 |mapz es=>exact⟨rfl,rfl⟩
 |arr n es=>
  simp only[AObj.ren,AObj.lt,AObj.inn] at h ⊢;have:=vM (f:=λe=>e.map<|WV.ren ν) (g:=λe=>e.map<|WV.ren σ) (q:=λe=>e.all<|WV.lt N) (λx hx=>vM (λy hy=>WV.renV H hy) hx) h
  grind
 |mapo es=>
  simp only[AObj.ren,AObj.lt,AObj.inn] at h ⊢
  have:=vM (f:=λe:(Bool×List FV)×(Bool×List WV)=>(e.1,(e.2.1,e.2.2.map<|WV.ren ν))) (g:=λe=>(e.1,(e.2.1,e.2.2.map<|WV.ren σ))) (q:=λe=>e.2.2.all<|WV.lt N) (p:=λe=>e.2.2.all<|WV.inn A)
   (λx hx=>by
    have:=vM (f:=WV.ren ν) (g:=WV.ren σ) (q:=WV.lt N) (λy hy=>WV.renV H hy) hx;exact⟨zd,this.2⟩) h
  grind
end
section
variable {ids:List Nat} {fr:Nat}
theorem inv_ok {o:Nat}(h:ids.contains o=true):inv ids o<ids.length/\sub ids fr (inv ids o)=o:=by
 simp only[sS,rL] at h;have h1:ids.idxOf o<ids.length:=List.idxOf_lt_length_iff.2 h;simp only[inv,sub,h1,rG]
 grind
theorem TV.ren_inv {x:TV}(h:x.inn ids=true):(x.ren<|inv ids).ren (sub ids fr)=x/\(x.ren<|inv ids).lt ids.length=true:=TV.renV (λ_ h=>inv_ok h) h
theorem AObj.ren_inv {x:AObj}(h:x.inn ids=true):(x.ren<|inv ids).ren (sub ids fr)=x/\(x.ren<|inv ids).lt ids.length=true:=AObj.renV (λ_ h=>inv_ok h) h
end
def dy (h:Nat->AObj):WV->Lent
 |.a (.osl o _ _ _)=>match h o with|.arz n fs=> [(o,n,fs)]|_=> []
 |_=> []
def ZR (h:Nat->AObj):TV->Lent
 |.c x=>dy h x
 |.agg cs=>cs.flatMap<|dy h
 |_=> []
def asksA (h:Nat->AObj):List TV->Prop->Prop
 |[],K=>K
 |x::r,K=>asksT h x<|asksA h r K
def LentOK (h:Nat->AObj)(L:Lent):Prop:=∀p∈L,h p.1=.arz p.2.1 p.2.2
theorem LentOK.ok {h:Nat->AObj}{L:Lent}(hl:LentOK h L):L.ok h:=λp hp=>by rw[hl p hp];rfl
theorem bR {h:Nat->AObj}{x:WV}:LentOK h (dy h x):=by
 intro p hp;cases x with
 |fn f a b=>cases hp
 |a x=>cases x with
  |osl o n off len=>
   simp only[dy] at hp
   grind
  |_=>cases hp
theorem lentT_ok {h:Nat->AObj}{x:TV}:LentOK h (ZR h x):=by
 intro p hp;cases x with
 |c x=>exact bR p hp
 |agg cs=>obtain⟨c,_,hc⟩:=List.mem_flatMap.1 hp;exact bR p hc
 |_=>cases hp
theorem jz {h:Nat->AObj}{l:List TV}:LentOK h (l.flatMap<|ZR h):=by
 intro p hp;obtain⟨c,_,hc⟩:=List.mem_flatMap.1 hp;exact lentT_ok p hc
theorem Y1 {h:Nat->AObj}:∀ {L:Lent} {o n:Nat} {fs:List (List FV)},LentOK h L->h o=.arz n fs->(o,n,fs)∈L->ya L o=some (n,fs)
 |(j,m,gs)::L,o,n,fs,hl,ho,hm=>by
  simp only[ya];split
  .rename_i hj;have:=hl _ r7
   grind
  .rename_i hj;rcases rx.1 hm with e|hm
   .grind
   .exact Y1 (λp hp=>hl p<|r9 _ hp) ho hm
theorem Zc {α:Type}:∀ {L:List (Nat×α)} {o:Nat},(∀p∈L,p.1≠o)->ya L o=none
 |[],_,_=>rfl
 |(j,x)::L,o,h=>by
  simp only[ya];rw[oV<|h _ r7];exact Zc λp hp=>h p<|r9 _ hp
theorem KZ {h:Nat->AObj}{L:Lent}{x:WV}(hl:LentOK h L)(hs:∀p∈dy h x,p∈L)(hf:J1 h x):x.lend L=(givW h x).1:=by
 cases x with
 |fn f a b=>rfl
 |a x=>cases x with
  |osl o n off len=>
   simp only[WV.lend,AV.lend,givW,dy,J1] at hs hf ⊢;cases ho:h o with
   |arz m fs=>
    rw[ho] at hs hf;rw[Y1 hl ho<|hs _ r7]
    grind
   |_=>
    rw[Zc];intro p hp e;have:=hl p hp
    grind
  |_=>rfl
theorem XT {h:Nat->AObj}{L:Lent}(hl:LentOK h L):∀ {cs:List WV},(∀p∈cs.flatMap (dy h),p∈L)->qv h cs->cs.map (WV.lend L)=(KU h cs).1
 |[],_,_=>rfl
 |x::r,hs,hf=>by
  have hf:=YN hf;simp only[rO,KU,KZ hl (λp hp=>hs p zd) hf.1,XT hl (cs:=r) (λp hp=>hs p zd) hf.2]
theorem mP {h:Nat->AObj}{L:Lent}{x:TV}(hl:LentOK h L)(hs:∀p∈ZR h x,p∈L)(hf:oD h x):x.lend L=(givT h x).1:=by
 cases x with
 |c x=>simp only[TV.lend,givT,KZ hl hs<|mF hf]
 |agg cs=>simp only[TV.lend,givT,XT hl hs hf]
 |_=>rfl
theorem Ym {h:Nat->AObj}{L:Lent}(hl:LentOK h L):∀ {l:List TV} {K:Prop},(∀p∈l.flatMap (ZR h),p∈L)->asksA h l K->l.map (TV.lend L)=l.map (λx=>(givT h x).1)/\K
 |[],_,_,hk=>⟨rfl,hk⟩
 |x::r,K,hs,hk=>by
  obtain⟨h1,h2⟩:=gi hk;obtain⟨h3,h4⟩:=Ym hl (l:=r) (λp hp=>hs p zd) h2;exact⟨by simp only[rO,h3,mP hl (λp hp=>hs p zd) h1],h4⟩
def resV (P:Program):List TypeId->(List (Bool×List FV)->Prop)->Prop
 |[],K=>K []
 |t::ts,K=>tyP P t λd=>match d.zero with
  |some z=>exC z λl=>resV P ts λr=>K<|(d.agg,l)::r
  |none=>False
def Jx:List (Bool×List FV)->TV
 |[(true,l)]=>.agg<|fzs l
 |[(false,[x])]=>.c<|cell x
 |l=>.tup<|l.map λp=>(p.1,fzs p.2)
def scalZ (P:Program)(ts:List TypeId):Bool:=ts.all λt=>match tyOf P t with
 |some d=>match d.zero with
  |some z=>z.all λf=>match f with|.int _ _=>true|.bool _=>true|.str _=>true|_=>false
  |none=>false
 |none=>false
theorem Wt {P:Program}:∀ {ts:List TypeId} {K:List (Bool×List FV)->Prop},resV P ts K->∃l,K l/\(scalZ P ts=true->∀p∈l,p.2.all FV.scalar=true)
 |[],K,h=>⟨[],h,λ_ _ hp=>by cases hp⟩
 |t::ts,K,h=>by
  obtain⟨d,hd,h⟩:=yX h;split at h
  .rename_i z hz;obtain⟨l,h,_,hs⟩:=fA h;obtain⟨r,h,hs2⟩:=Wt h;refine⟨_,h,λhsc=>?_⟩;simp only[scalZ,tj,oZ,hd,hz] at hsc;intro p hp;rcases rx.1 hp with rfl|hp
   .grind
   .exact hs2 (by simpa[scalZ] using hsc.2) p hp
  .grind
theorem lX (σ:Nat->Nat)(l:List FV):(fzs l).map (WV.ren σ)=fzs l:=by
 simp only[fzs,List.map_map];rfl
theorem Ki (σ:Nat->Nat)(l:List<|Bool×List FV):(Jx l).ren σ=Jx l:=by
 unfold Jx;split
 .simp only[TV.ren,lX]
 .rfl
 .simp only[TV.ren,List.map_map];congr 1;exact sI λp _=>by simp[lX]
theorem Wi {l:List FV}(h:l.all FV.scalar=true):(fzs l).all WV.scalar=true:=by
 simp only[fzs,List.all_map];exact h
theorem K4 {l:List (Bool×List FV)}(h:∀p∈l,p.2.all FV.scalar=true):(Jx l).scalar=true:=by
 unfold Jx;split
 .exact Wi<|h _ r7
 .have:=h _ r7;simpa[TV.scalar,WV.scalar,cell,AV.scalar] using this
 .simp only[TV.scalar,List.all_map,rP];exact λp hp=>Wi<|h p hp
structure Sh where
 X:Type
 val:X->TV
 obs:X->List AObj->List AObj
 fz:Bool
 mu:Bool
 kp:List Nat
def aG:List Nat->List AObj->List AObj->List AObj
 |[],_,out=>out
 |k::kp,H,out=>(aG kp H out).set k<|H.getD k .gone
def Sh.out (S:Sh)(x:S.X)(H:List AObj):List AObj:=aG S.kp H<|S.obs x H
theorem uW (H:List AObj):∀(kp:List Nat) (out:List AObj),(aG kp H out).length=out.length
 |[],_=>rfl
 |k::kp,out=>by rw[aG,rU,uW H kp]
theorem gK (H:List AObj):∀(kp:List Nat) (out:List AObj) (k:Nat),k∈kp->k<out.length->(aG kp H out)[k]?=some (H.getD k .gone)
 |[],_,_,h,_=>by cases h
 |j::kp,out,k,h,hk=>by
  rw[aG,sF];by_cases e:j=k
  .subst e;rw[oX rfl,oX<|by rw[uW];exact hk]
  .rw[oV e];rcases rx.1 h with q|q
   .omega
   .exact gK H kp out k q hk
def ownB:List Sh->Bool
 |[]=>false
 |S::l=> !S.fz||ownB l
def mutB:List Sh->Bool
 |[]=>false
 |S::l=>S.mu||mutB l
def lW (P:Program)(f:FuncId):List TypeId:=match P.funcs[f]? with|some fn=>fn.resultTypes.toList|none=> []
section
variable (P:Program) (sh:FuncId->List Sh)
def altV (A:Sh->Prop):List Sh->Prop
 |[]=>False
 |[S]=>A S
 |S::T::l=>A S\/altV A (T::l)
theorem bI {A:Sh->Prop}:∀ {l:List Sh},altV A l->∃S,A S
 |[],h=>h.elim
 |[S],h=>⟨S,h⟩
 |S::T::l,h=>h.elim (λh=>⟨S,h⟩) λh=>bI (l:=T::l) h
def pQ (f:FuncId)(args:List TV)(h:Nat->AObj)(fr:Nat)(K:TV->AHeap->List Nat->Prop):Prop:=
 match Kb h 200 (args.flatMap TV.ids) [] with
 |ids=>match j7 ids&&ids.all (λo=>Js (h o)&&(h o).inn ids)&&args.all (TV.inn ids)&&ids.all (λo=>Nat.blt o fr) with
  |true=>match sh f with
   |_::_=>altV (λS=> ∃x:S.X,AC P f (args.map<|TV.ren<|inv ids) (ids.map λo=>(h o).ren<|inv ids) (S.val x) (S.out x<|ids.map λo=>(h o).ren<|inv ids)/\
     match Nat.ble (S.out x<|ids.map λo=>(h o).ren<|inv ids).length (ids.length+32)&&S.kp.all (λk=>Nat.blt k ids.length&&Nat.blt k (S.out x<|ids.map λo=>(h o).ren<|inv ids).length) with
     |true=>K ((S.val x).ren<|sub ids fr) ((yD (sub ids fr) ids (S.out x<|ids.map λo=>(h o).ren<|inv ids)++xG (sub ids fr) fr ((S.out x<|ids.map λo=>(h o).ren<|inv ids).drop ids.length)).filter λp=> !(S.kp.map λk=>ids.getD k 0).contains p.1) ids
     |false=>False) (sh f)
   |[]=>resV P (lW P f) λrs=>AC P f (args.map<|TV.ren<|inv ids) (ids.map λo=>(h o).ren<|inv ids) (Jx rs) (ids.map λo=>(h o).ren<|inv ids)/\
     K (Jx rs) (yD (sub ids fr) ids<|ids.map λo=>(h o).ren<|inv ids) ids
  |false=>False
def callL (f:FuncId)(args:List TV)(h:Nat->AObj)(fr:Nat)(K:TV->AHeap->List Nat->Prop):Prop:=
 match args.flatMap (ZR h) with
 |[]=>pQ P sh f args h fr K
 |p::L=>asksA h args (match scalZ P (lW P f)&&(Kb h 200 ((args.map λx=>(givT h x).1).flatMap TV.ids) []).isEmpty&&(sh f).isEmpty with
  |true=>resV P (lW P f) λrs=>AC P f (args.map λx=>(givT h x).1) [] (Jx rs) []/\((args.map λx=>(givT h x).1).all (TV.lt 0)=true/\K (Jx rs) [] ((p::L).map Prod.fst))
  |false=>pQ P sh f (args.map λx=>(givT h x).1) (over ((p::L).map λp=>(p.1,AObj.gone)) h) fr
    (λr u rd=>K r (u++(p::L).map λp=>(p.1,AObj.gone))<|rd++(p::L).map Prod.fst))
def callV (f:FuncId)(args:List TV)(h:Nat->AObj)(fr:Nat)(K:TV->AHeap->List Nat->Prop):Prop:=
 match mutB (sh f) with
 |true=>pQ P sh f args h fr K
 |false=>callL P sh f args h fr K
end
section
variable {P:Program} {sh:FuncId->List Sh} {f:FuncId} {args:List TV} {h:Nat->AObj} {fr:Nat} {K K':TV->AHeap->List Nat->Prop}
theorem kH:∀ {l:List TV},All2 TV.Le l l
 |[]=>trivial
 |x::_=>⟨.refl x,kH⟩
theorem ZY {ids:List Nat}{fr:Nat}{args:List TV}(h:args.all (TV.inn ids)=true):(args.map<|TV.ren<|inv ids).map (TV.ren<|sub ids fr)=args/\(args.map<|TV.ren<|inv ids).all (TV.lt ids.length)=true:=
 vM (λ_ hx=>TV.ren_inv hx) h
theorem yM (l:List TV):l.map (TV.lend [])=l:=by
 have:TV.lend []=id:=by
  funext x
  have hw:∀y:WV,y.lend []=y:=λy=>by
   cases y with
   |a y=>cases y<;>rfl
   |fn f a b=>rfl
  cases x with
  |any=>rfl
  |c x=>simp only[TV.lend,hw,id]
  |agg cs=>simp only[TV.lend,id,show WV.lend []=id from funext hw,List.map_id]
  |tup vs=>rfl
 simp_all
theorem kG {ids:List Nat}{fr:Nat}:∀ {l:List Nat},(l.all λo=>Js (h o)&&(h o).inn ids)=true->
  ((l.map λo=>(h o).ren<|inv ids).map (AObj.ren<|sub ids fr)=l.map h/\(l.map λo=>(h o).ren<|inv ids).all (AObj.lt ids.length)=true)/\∀i∈l,isLive<|h i
 |[],_=>⟨⟨rfl,rfl⟩,λ_ hi=>by cases hi⟩
 |o::l,hl=>by
  simp only[tj,oZ] at hl;have h1:=AObj.ren_inv (fr:=fr) hl.1.2;have h2:=kG (fr:=fr) (l:=l) hl.2;refine⟨⟨zd,zd⟩,λi hi=>?_⟩;rcases rx.1 hi with rfl|hi
  .exact YV hl.1.1
  .grind
theorem YP (hc:pQ P sh f args h fr K):CallK P f args h fr K:=by
 unfold pQ at hc;generalize Kb h 200 (args.flatMap TV.ids) []=ids at hc;simp only at hc;split at hc
 .rename_i hb;simp only[oZ] at hb;obtain⟨⟨⟨h1,h2⟩,h3⟩,h0⟩:=hb;have h0:∀i∈ids,i<fr:=λi hi=>rR<|rP.1 h0 i hi
  have ha:=ZY (fr:=fr) h3;have ho:=kG (fr:=fr) h2;split at hc
  .obtain⟨S,x,hac,hc⟩:=bI hc;split at hc
   .rename_i hlen;rw[oZ] at hlen;refine⟨ids,[],_,_,_,_,hac,⟨xv h1,h0⟩,rR hlen.1,ho.1,?_,ha.2,ho.2,.inl rfl,S.kp.map λk=>ids.getD k 0,λi hi=>?_,zd⟩
    .rw[yM,ha.1];exact kH
    .obtain⟨k,hk,rfl⟩:=rK.1 hi;have hb:=rP.1 hlen.2 k hk;rw[oZ] at hb;have k1:k<ids.length:=rR hb.1
     have k2:k<(S.obs x<|ids.map λo=>(h o).ren<|inv ids).length:=by
      have:=rR hb.2
      rwa [Sh.out,uW] at this
     have e1:ids[k]?=some (ids.getD k 0):=zd
     rw[Sh.out,jv (xv h1) e1<|gK _ _ _ k hk k2];simp_all
   .grind
  .obtain⟨rs,⟨hac,hk⟩,_⟩:=Wt hc;refine⟨ids,[],_,_,_,_,hac,⟨xv h1,h0⟩,zb,ho.1,?_,ha.2,ho.2,.inl rfl,[],(λ_ h=>nomatch h),?_⟩
   .rw[yM,ha.1];exact kH
   .rw[Ki,tK zb,kept_nil];simpa[xG] using hk
 .grind
theorem CallK.imp (hc:CallK P f args h fr K)(hk:∀r u rd,K r u rd->K' r u rd):CallK P f args h fr K':=by
 obtain⟨ids,L,args',Hs,r,Hs',h1,h2,h3,h4,h5,h6,h7,h8,F,hF,h9⟩:=hc;exact⟨ids,L,args',Hs,r,Hs',h1,h2,h3,h4,h5,h6,h7,h8,F,hF,hk _ _ _ h9⟩
theorem ou (hc:callL P sh f args h fr K):CallE P f args h fr K:=by
 unfold callL at hc;split at hc
 .refine⟨[],(λp hp=>by cases hp),?_⟩;rw[yM];have e:over (([]:Lent).map λp=>(p.1,AObj.gone)) h=h:=by funext o;rfl
  exact(YP hc).imp λr u rd hk=>zd
 .rename_i p L hL;have hok:LentOK h (p::L):=by rw[<-hL];exact jz
  obtain⟨hl,hc⟩:=Ym hok (λq hq=>zd) hc;split at hc
  .rename_i hb;simp only[oZ] at hb;obtain⟨rs,⟨hac,hlt,hk⟩,hs⟩:=Wt hc;refine⟨[],(λp hp=>by cases hp),?_⟩;rw[yM];have e:over (([]:Lent).map λp=>(p.1,AObj.gone)) h=h:=by funext o;rfl
   refine⟨[],p::L,_,[],_,[],hac,⟨.nil,λ_ hi=>nomatch hi⟩,zb,⟨rfl,rfl⟩,?_,hlt,(λ_ hi=>nomatch hi),.inr ⟨hok.ok,(λ_ _ hi=>nomatch hi),K4<|hs hb.1.1,rfl⟩,[],(λ_ h=>nomatch h),?_⟩
   .rw[hl]
    have:∀ {l:List TV},l.all (TV.lt 0)=true->l.map (TV.ren<|sub [] fr)=l:=by
     intro l hl
     have key:∀x:TV,x.lt 0=true->x.ren (sub [] fr)=x:=by
      have ka:∀x:AV,x.lt 0=true->x.ren (sub [] fr)=x:=λx hx=>by cases x<;>simp_all[AV.lt,AV.ren]
      have kla:∀l:List AV,l.all (AV.lt 0)=true->l.map (AV.ren<|sub [] fr)=l:=λl hl=>by
       induction l with
       |nil=>rfl
       |cons x l ih=>simp only[tj,oZ] at hl;simp only[rO,ka x hl.1,ih hl.2]
      have klp:∀l:List<|Bool×List AV,(l.all λp=>p.2.all<|AV.lt 0)=true->(l.map λp=>(p.1,p.2.map<|AV.ren<|sub [] fr))=l:=λl hl=>by
       induction l with
       |nil=>rfl
       |cons x l ih=>simp only[tj,oZ] at hl;simp only[rO,kla x.2 hl.1,ih hl.2]
      have kw:∀x:WV,x.lt 0=true->x.ren (sub [] fr)=x:=λx hx=>by
       cases x with
       |a x=>simp only[WV.ren,ka x hx]
       |fn f a b=>simp only[WV.lt,oZ] at hx;simp only[WV.ren,klp a hx.1,klp b hx.2]
      have klw:∀l:List WV,l.all (WV.lt 0)=true->l.map (WV.ren<|sub [] fr)=l:=λl hl=>by
       induction l with
       |nil=>rfl
       |cons x l ih=>simp only[tj,oZ] at hl;simp only[rO,kw x hl.1,ih hl.2]
      intro x hx;cases x with
      |any=>rfl
      |c x=>simp only[TV.ren,kw x hx]
      |agg cs=>simp only[TV.ren,klw cs hx]
      |tup vs=>
       simp only[TV.lt] at hx;simp only[TV.ren];congr 1
       induction vs with
       |nil=>rfl
       |cons x l ih=>simp only[tj,oZ] at hx;simp only[rO,klw x.2 hx.1,ih hx.2]
     induction l with
     |nil=>rfl
     |cons x l ih=>simp only[tj,oZ] at hl;simp only[rO,key x hl.1,ih hl.2]
    rw[this hlt];exact kH
   .rw[Ki];simpa[yD,xG] using hk
  .refine⟨p::L,hok.ok,?_⟩;rw[hl];exact YP hc
theorem callC_E (hc:pQ P sh f args h fr K):CallE P f args h fr K:=by
 refine⟨[],(λp hp=>by cases hp),?_⟩;rw[yM];have e:over (([]:Lent).map λp=>(p.1,AObj.gone)) h=h:=by funext o;rfl
 exact(YP hc).imp λr u rd hk=>zd
theorem mj (hc:callV P sh f args h fr K):CallE P f args h fr K:=by
 unfold callV at hc;split at hc
 .exact callC_E hc
 .exact ou hc
end
section
variable (P:Program) (sh:FuncId->List Sh)
def softV (P:Program)(o:Oper)(fr:Nat)(ρ:Operand->TV)(h:Nat->AObj)(r:AR)(K:AR->Prop):Prop:=
 match Ze P o fr ρ h r with|⟨v,u,d⟩=>K ⟨v,u,d⟩
def oS (fr:Nat)(o:Oper)(e:Env)(h:AHeap)(tr:wd)(next:Env->AHeap->wd->Prop):Prop:=
 match goCall o.op with
 |some c=>
  match calleeOf (ev e) c with
  |some (f,args)=>callV P sh f args (hook h) fr λr h' ids=>next (putE o.dst r e) (h'++h) ((ids,h'.map Prod.fst)::tr)
  |none=>False
 |none=>opV P o fr (ev e) (hook h) λr=>softV P o fr (ev e) (hook h) r λr=>next (putE o.dst r.val e) (r.upd++h) ((r.rd,r.upd.map Prod.fst)::tr)
def lexV (ops:Array Oper)(nx:Nat):List Oper->Nat->Env->AHeap->wd->(Env->AHeap->wd->Prop)->Prop
 |[],_,e,h,tr,K=>K e h tr
 |o::rest,i,e,h,tr,K=>match o.guard with
  |none=>oS P sh (nx+32*i) o e h tr λe h tr=>lexV ops nx rest (i+1) e h tr K
  |some (j,b)=>match (ops[j]?).bind (·.dst) with
   |none=>False
   |some d=>match look e d with
    |.c (.a (.fz (.bool x)))=>
     match b with
     |true=>br x (oS P sh (nx+32*i) o ((d,bV true)::e) h tr λe h tr=>lexV ops nx rest (i+1) e h tr K)
       (lexV ops nx rest (i+1) (putE o.dst (.tup [])<|(d,bV false)::e) h (([],[])::tr) K)
     |false=>br x (lexV ops nx rest (i+1) (putE o.dst (.tup [])<|(d,bV true)::e) h (([],[])::tr) K)
       (oS P sh (nx+32*i) o ((d,bV false)::e) h tr λe h tr=>lexV ops nx rest (i+1) e h tr K)
    |.tup []=>lexV ops nx rest (i+1) (putE o.dst (.tup []) e) h (([],[])::tr) K
    |_=>False
end
section
variable {P:Program} {sh:FuncId->List Sh}
theorem CallE.imp {f:FuncId}{args:List TV}{h:Nat->AObj}{fr:Nat}{K K':TV->AHeap->List Nat->Prop}(hc:CallE P f args h fr K)(hk:∀r u rd,K r u rd->K' r u rd):CallE P f args h fr K':=by
 obtain⟨E,hE,hc⟩:=hc;exact⟨E,hE,hc.imp λr u rd h=>hk _ _ _ h⟩
theorem ev_look {e e':Env}(h:look e=look e'):ev e=ev e':=by funext x;cases x<;>simp only[ev,h]
theorem kO {e e':Env}(h:look e=look e')(d:Option Nat)(v:TV):look (putE d v e)=look (putE d v e'):=by
 cases d with
 |none=>exact h
 |some i=>funext k;simp only[putE,look,h]
theorem Yg {e:Env}{d:Nat}{v:TV}(h:look e d=v):look ((d,v)::e)=look e:=by
 funext k
 simp only[look]
 grind
theorem YM {fr:Nat} {o:Oper} {e e':Env} {h:AHeap} {tr:wd} {next next':Env->AHeap->wd->Prop} (he:look e=look e') (hs:oS P sh fr o e h tr next)
  (hn:∀d v h1 tr1,next (putE d v e) h1 tr1->next' (putE d v e') h1 tr1):p9 P fr o e' h tr next':=by
 unfold oS at hs;unfold p9;rw[<-ev_look he];cases hg:goCall o.op with
 |some c=>
  rw[hg] at hs;simp only at hs ⊢;cases hcl:calleeOf (ev e) c with
  |some fa=>rw[hcl] at hs;simp only at hs ⊢;exact(mj hs).imp λr u rd hk=>hn _ _ _ _ hk
  |none=>rw[hcl] at hs;exact hs.elim
 |none=>
  rw[hg] at hs;obtain⟨r,hr,hk⟩:=opV_inv hs;simp only[aopS,hr,ry];exact hn _ _ _ _ hk
theorem wQ {ops:Array Oper}{nx:Nat}:∀ {l:List Oper} {i:Nat} {e e':Env} {h:AHeap} {tr:wd} {K:Env->AHeap->wd->Prop},look e=look e'->lexV P sh ops nx l i e h tr K->
  lex P ops nx l i e' h tr λe1 h1 tr1=> ∃e2,look e2=look e1/\K e2 h1 tr1
 |[],_,_,_,_,_,_,he,hl=>⟨_,he,hl⟩
 |o::rest,i,e,e',h,tr,K,he,hl=>by
  unfold lexV at hl;unfold lex gM;split at hl
  next hg=>simp only[want,hg,rG];exact YM he hl λd v h1 tr1 hk=>wQ (kO he d v) hk
  .rename_i j b hg;split at hl
   .grind
   .rename_i d hd;split at hl
    .rename_i x hx
     have hw:want ops o (look e')=some (x==b):=by
      simp only[want,hg,hd,ry,<-he,hx]
     simp only[hw]
     have hsame:∀y,x=y->look ((d,bV y)::e)=look e':=λy hy=>by
      rw[<-he];exact Yg (by rw[hx,hy];rfl)
     cases b with
     |true=>
      simp only at hl;cases x with
      |true=>simp only[br,beq_self_eq_true,rG] at hl ⊢;exact YM (hsame _ rfl) hl λd v h1 tr1 hk=>wQ (kO (hsame _ rfl) d v) hk
      |false=>simp only[br] at hl;exact wQ (kO (hsame _ rfl) _ _) hl
     |false=>
      simp only at hl;cases x with
      |false=>simp only[br,beq_self_eq_true,rG] at hl ⊢;exact YM (hsame _ rfl) hl λd v h1 tr1 hk=>wQ (kO (hsame _ rfl) d v) hk
      |true=>simp only[br] at hl;exact wQ (kO (hsame _ rfl) _ _) hl
    .rename_i hx
     have hw:want ops o (look e')=some false:=by
      simp only[want,hg,hd,ry,<-he,hx]
     simp only[hw,rF,rN];exact wQ (kO he _ _) hl
    .grind
end
def Code.lwp (P:Program)(c:Code)(Q:Exit->Act->World->Prop)(a:Act)(w:World):Prop:=
 ∀(b:Frame) (k:List Item) (cs:List Frame),
  ∃e a' w',Q e a' w'/\Arrives P (lone (b.at a<|.code c:: .inLoop c::k) cs w) b k cs e a' w'
theorem lwp_wp {P:Program}{c:Code}{Q:Exit->Act->World->Prop}{a:Act}{w:World}(h:Code.lwp P c Q a w):(Code.loop c).wp P Q a w:=λb k cs=>by
 obtain⟨e,a',w',hq,harr⟩:=h b k cs;exact⟨e,a',w',hq,.of_steps (.one step_loop) harr⟩
theorem pL {P:Program}{c:Code}{Q:Exit->Act->World->Prop}{a:Act}{w:World}(h:c.wp P (Exit.then (Code.lwp P c Q) Q) a w):Code.lwp P c Q a w:=λb k cs=>by
 obtain⟨e,a₁,w₁,hq,harr⟩:=h b (.inLoop c::k) cs;cases e with
 |normal=>
  obtain⟨e₂,a₂,w₂,hq₂,harr₂⟩:=hq b k cs;exact⟨e₂,a₂,w₂,hq₂,.of_steps (Steps.trans harr<|.one step_inLoop) harr₂⟩
 |exit id=>exact⟨_,a₁,w₁,hq,.pass (x:=.inLoop c) rfl (λ_ _=>.inl zb) harr⟩
 |goto l=>exact⟨_,a₁,w₁,hq,.pass (x:=.inLoop c) rfl (λ_ _=>.inl zb) harr⟩
 |ret=>exact⟨_,a₁,w₁,hq,.pass (x:=.inLoop c) rfl (λ_ _=>.inl zb) harr⟩
 |panic ch=>exact⟨_,a₁,w₁,hq,.pass (x:=.inLoop c) rfl (λ_ _=>.inl zb) harr⟩
 |outgrown=>exact⟨_,a₁,w₁,hq,.pass (x:=.inLoop c) rfl (λ_ _=>.inl zb) harr⟩
section
variable {P:Program} {n m:Nat} {c:Code} {Q:AExit->St->Prop} {s:St}
def Alwp (P:Program)(n m:Nat)(c:Code)(Q:AExit->St->Prop)(s:St):Prop:=
 ∀(w0:World) (foot Y:Nat->Prop) (pin:Nat->Option (Option Nat)) (β:Nat->Option Nat) (a:Act) (w:World),(∀o b,pin o=some b->o<m)->a.tmps.size=n->RelF P w0 foot Y pin (look s.env) (hook s.heap) β a w->(∀k,Occ pin β k->k<s.nx)->
  Code.lwp P c (Lift P w0 foot Y pin n Q) a w
theorem Alwp.loop (h:Alwp P n m c Q s):Awp P n m (.loop c) Q s:=λw0 foot Y pin β a w hm hn hR hb=>lwp_wp<|h w0 foot Y pin β a w hm hn hR hb
theorem Alwp.unroll (h:Awp P n m c (Xs (Alwp P n m c Q) Q) s):Alwp P n m c Q s:=λw0 foot Y pin β a w hm hn hR hb=>by
 refine pL<|wp_mono (h w0 foot Y pin β a w hm hn hR hb) λe a' w' hq=>?_
 cases e with
 |normal=>obtain⟨s',β',h1,h2,h3,h4⟩:=hq;exact h1 w0 foot Y pin β' a' w' hm h2 h3 h4
 |exit i=>exact hq
 |ret=>exact hq
 |_=>exact hq.elim
theorem Alwp.weak {s':St}(hs:Sle m s s')(h:Alwp P n m c Q s'):Alwp P n m c Q s:=λw0 foot Y pin _ a w hm hn hR _=>
 let ⟨β',h1,h2⟩:=WO hs hm hR
 h w0 foot Y pin β' a w hm hn h1 h2
theorem Awp.look {e1 e2:Env}{h:AHeap}{nx:Nat}(he:look e1=look e2)(hA:Awp P n m c Q ⟨e1,h,nx⟩):Awp P n m c Q ⟨e2,h,nx⟩:=λw0 foot Y pin β a w hm hn hR hb=>
 hA w0 foot Y pin β a w hm hn zd hb
def eqQ (Q:AExit->St->Prop)(e:AExit)(s:St):Prop:=∃e2,Go.AM.look e2=Go.AM.look s.env/\Q e ⟨e2,s.heap,s.nx⟩
theorem Awp.uneq (h:Awp P n m c (eqQ Q) s):Awp P n m c Q s:=λw0 foot Y pin β a w hm hn hR hb=>by
 refine wp_mono (h w0 foot Y pin β a w hm hn hR hb) λe a' w' hq=>?_
 have key:∀x,At P w0 foot Y pin n (eqQ Q x) a' w'->At P w0 foot Y pin n (Q x) a' w':=by
  rintro x ⟨s',β',⟨e2,h1,h2⟩,h3,h4,h5⟩;exact⟨_,β',h2,h3,zd,h5⟩
 cases e with
 |normal=>exact key _ hq
 |exit i=>exact key _ hq
 |ret=>exact key _ hq
 |_=>exact hq.elim
end
def pts:Code->List Nat
 |.region i _ _=> [2*i]
 |.seq a b=>pts a++pts b
 |.cond _ a b=>pts a++pts b
 |.block i c=>(2*i+1)::pts c
 |.loop c=>pts c
 |.scope c=>pts c
 |_=> []
def isLoop:Code->Bool|.loop _=>true|.rangeFunc .. =>true|_=>false
def headA (P:Program)(n m:Nat):Code->(AExit->St->Prop)->St->Prop
 |.loop c,Q,s=>Alwp P n m c Q s
 |.rangeFunc g ps a b,Q,s=>Awp P n m (.rangeFunc g ps a b) Q s
 |_,_,_=>False
theorem headA.weak {P:Program}{n m:Nat}{c:Code}{Q:AExit->St->Prop}{s s':St}(hs:Sle m s s')(h:headA P n m c Q s'):headA P n m c Q s:=by
 cases c with
 |loop c=>exact Alwp.weak hs h
 |rangeFunc g ps a b=>exact Awp.weak hs h
 |_=>exact h.elim
theorem headA.awp {P:Program}{n m:Nat}{c:Code}{Q:AExit->St->Prop}{s:St}(h:headA P n m c Q s):Awp P n m c Q s:=by
 cases c with
 |loop c=>exact Alwp.loop h
 |rangeFunc g ps a b=>exact h
 |_=>exact h.elim
def rz (P:Program)(n m:Nat):Code->Nat->(AExit->St->Prop)->St->Prop
 |.region i ops d,p,Q,s=>p=2*i/\Awp P n m (.region i ops d) Q s
 |.seq a b,p,Q,s=>if (pts a).contains p then rz P n m a p (Xs (Awp P n m b Q) Q) s else rz P n m b p Q s
 |.cond _ a b,p,Q,s=>if (pts a).contains p then rz P n m a p Q s else rz P n m b p Q s
 |.block i c,p,Q,s=>if p=2*i+1 then headA P n m c (yj i Q) s else rz P n m c p (yj i Q) s
 |.loop c,p,Q,s=>rz P n m c p (Xs (Alwp P n m c Q) Q) s
 |.scope c,p,Q,s=>rz P n m c p Q s
 |_,_,_,_=>False
theorem uP {P:Program}{n m:Nat}:∀ {c:Code} {p:Nat} {Q:AExit->St->Prop} {s s':St},Sle m s s'->rz P n m c p Q s'->rz P n m c p Q s
 |.region i ops d,p,Q,s,s',hs,h=>⟨h.1,h.2.weak hs⟩
 |.seq a b,p,Q,s,s',hs,h=>by
  unfold rz at h ⊢;split
  next hc=>rw[oX hc] at h;exact uP hs h
  next hc=>rw[oV hc] at h;exact uP hs h
 |.cond x a b,p,Q,s,s',hs,h=>by
  unfold rz at h ⊢;split
  next hc=>rw[oX hc] at h;exact uP hs h
  next hc=>rw[oV hc] at h;exact uP hs h
 |.block i c,p,Q,s,s',hs,h=>by
  unfold rz at h ⊢;split
  next hc=>rw[oX hc] at h;exact headA.weak hs h
  next hc=>rw[oV hc] at h;exact uP hs h
 |.loop c,p,Q,s,s',hs,h=>by unfold rz at h ⊢;exact uP hs h
 |.skip,_,_,_,_,_,h=>h.elim
 |.rangeFunc ..,_,_,_,_,_,h=>h.elim
 |.exit _,_,_,_,_,_,h=>h.elim
 |.scope c,p,Q,s,s',hs,h=>by unfold rz at h ⊢;exact uP hs h
 |.label _,_,_,_,_,_,h=>h.elim
 |.goto _,_,_,_,_,_,h=>h.elim
 |.ret,_,_,_,_,_,h=>h.elim
 |.refuse _,_,_,_,_,_,h=>h.elim
def RPt (P:Program)(f:FuncId)(m:Nat)(r:TV)(Hs':List AObj)(p:Nat)(s:St):Prop:=
 ∃(fn:Func) (c:Code),P.funcs[f]?=some fn/\fn.body=some c/\rz P fn.ntmps m c p (Ret P fn.results.toList m r Hs') s
def invU (m:Nat)(rest:List Nat)(o:Nat):Nat:=match rest.contains o with|true=>m+rest.idxOf o|false=>o
def outU (m:Nat)(rest:List Nat)(o:Nat):Nat:=sub (List.range m++rest) 0 o
def okU (m:Nat)(U rest:List Nat):Bool:=j7 rest&&rest.all λo=>Nat.ble m o||U.contains o
def jB (m:Nat)(U rest:List Nat)(h:Nat->AObj):List AObj:=((List.range m).map λo=>match U.contains o with|true=>AObj.gone|false=>(h o).ren<|invU m rest)++rest.map λo=>(h o).ren<|invU m rest
def lvU (lv:List<|Nat×List Nat):List Nat:=match ya lv 1000001 with|some l=>l|none=> []
theorem uX {m:Nat}{U rest:List Nat}{h:Nat->AObj}:(jB m U rest h).length=m+rest.length:=by simp[jB]
theorem J4 {m:Nat}{rest:List Nat}{o:Nat}(h:o<m):outU m rest o=o:=by
 simp only[outU,sub,re,tx,(za:o<m+rest.length),rG,getD]
 grind
theorem io {m:Nat}{rest:List Nat}{j o:Nat}(h:rest[j]?=some o):outU m rest (m+j)=o:=by
 have hj:=(rr.1 h).1;simp only[outU,sub,re,tx,(za:m+j<m+rest.length),rG,getD]
 grind
theorem backU {m:Nat}{U rest:List Nat}:Back (keep m U++rest) (invU m rest) (outU m rest) (m+rest.length):=by
 intro o ho;unfold invU;split
 .rename_i hc;simp only[sS,rL] at hc;have h1:rest.idxOf o<rest.length:=List.idxOf_lt_length_iff.2 hc;refine⟨za,io ?_⟩
  grind
 .rename_i hc
  have hk:o∈keep m U:=by
   grind
  have hm:o<m:=by
   have:=(tQ.1 hk).1
   grind
  exact⟨za,J4 hm⟩
theorem bB {m:Nat}{U:List Nat}{o:Nat}:o∈keep m U↔o<m/\U.contains o=false:=by simp[keep]
theorem uN {m:Nat}{U rest:List Nat}{h:Nat->AObj}{j:Nat}{x:AObj}(hx:(jB m U rest h)[j]?=some x)(hl:isLive x):
  j<m+rest.length/\x=(h<|outU m rest j).ren (invU m rest)/\((j∈keep m U/\outU m rest j=j)\/(m<=j/\rest[j-m]?=some (outU m rest j))):=by
 have hlt:=(rr.1 hx).1;rw[uX] at hlt;refine⟨hlt,?_⟩;by_cases hj:j<m
 .unfold jB at hx;rw[sC zd,rq,tA hj] at hx;simp only[ry,r8] at hx;rw[J4 hj];split at hx
  .subst hx;exact hl.elim
  next hu=>exact⟨hx.symm,.inl ⟨bB.2 ⟨hj,za⟩,rfl⟩⟩
 .unfold jB at hx;rw[sT zd,sM,tx,rq] at hx;obtain⟨o,ho,rfl⟩:=oY.1 hx;have:=io (m:=m) ho
  grind
theorem Kj {m:Nat} {U rest:List Nat} {h:Nat->AObj} (hok:okU m U rest=true) {j j':Nat} {x x':AObj} (hx:(jB m U rest h)[j]?=some x) (hl:isLive x) (hx':(jB m U rest h)[j']?=some x') (hl':isLive x')
  (e:outU m rest j=outU m rest j'):j=j':=by
 simp only[okU,oZ,rP,tO] at hok
 have apart:∀o,o∈keep m U->o∈rest->False:=λo h1 h2=>by
  have h1:=bB.1 h1;rcases hok.2 o h2 with h3|h3
  .have:=rR h3;omega
  .grind
 obtain⟨_,_,g⟩:=uN hx hl;obtain⟨_,_,g'⟩:=uN hx' hl';rcases g with⟨g1,g2⟩|⟨g1,g2⟩<;>rcases g' with⟨g1',g2'⟩|⟨g1',g2'⟩
 .omega
 .grind
 .grind
 .rw[e] at g2;have:=qk (xv hok.1) g2 g2';omega
theorem Kh {m:Nat}{U rest:List Nat}{h:Nat->AObj}{j:Nat}{x:AObj}(hx:(jB m U rest h)[j]?=some x)(hl:isLive x):outU m rest j∈keep m U++rest:=by
 rcases(uN hx hl).2.2 with⟨g1,g2⟩|⟨_,g2⟩
 .grind
 .grind
def jY (m:Nat)(lv:List<|Nat×List Nat)(G:Nat->St->Prop)(p:Nat)(s:St):Prop:=
 match ya lv p with
 |none=>False
 |some live=>match Zs m (lvU lv) (hook s.heap) (live.flatMap λt=>(look s.env t).ids) with
  |rest=>match okU m (lvU lv) rest&&(keep m (lvU lv)++rest).all (λo=>(hook s.heap o).inn<|keep m (lvU lv)++rest)&&live.all (λt=>(look s.env t).inn<|keep m (lvU lv)++rest) with
   |true=>G p ⟨live.map λt=>(t,(look s.env t).ren<|invU m rest),yO 0<|jB m (lvU lv) rest<|hook s.heap,m+rest.length⟩
   |false=>False
theorem xO:∀ {l:List AObj} {k:Nat} {p:Nat×AObj},p∈yO k l->∃j,p.1=k+j/\l[j]?=some p.2
 |[],_,_,hp=>by cases hp
 |o::l,k,p,hp=>by
  rcases rx.1 hp with rfl|hp
  .simp
  .obtain⟨j,h1,h2⟩:=xO hp;exact⟨j+1,za,zd⟩
theorem XX (x:TV):x.lend []=x:=by
 have:=yM [x]
 grind
theorem aI (x:AObj):x.lend []=x:=by
 have hw:∀y:WV,y.lend []=y:=λy=>by
  have:=XX (.c y);simp only[TV.lend,TV.c.injEq] at this;exact this
 cases x with
 |arr n es=>simp only[AObj.lend,show WV.lend []=id from funext hw,List.map_id,List.map_id']
 |_=>rfl
theorem jK {m:Nat}{lv:List (Nat×List Nat)}{G:Nat->St->Prop}{p:Nat}{s:St}(hg:jY m lv G p s):∃s',Sle m s s'/\G p s':=by
 unfold jY at hg;split at hg
 .grind
 .rename_i live hlv;generalize Zs _ _ _ _=rest at hg;generalize lvU lv=U at hg;simp only at hg;split at hg
  .rename_i hb;simp only[oZ] at hb;obtain⟨⟨h1,h2⟩,h3⟩:=hb;refine⟨_,⟨outU m rest,[],(λp hp=>by cases hp),Nat.le_add_right _ _,λo ho=>J4 ho,λq hq=>?_,λq hq hl=>?_,λq hq q' hq' hl hl' e=>?_⟩,hg⟩
   .obtain⟨t,ht,rfl⟩:=rK.1 hq;have:=TV.renV (backU (m:=m) (U:=U) (rest:=rest))<|rP.1 h3 t ht
    rw[XX];exact⟨by rw[this.1];exact .refl _,this.2⟩
   .obtain⟨j,e1,e2⟩:=xO hq;obtain⟨g1,g2,_⟩:=uN e2 hl;have:=AObj.renV (backU (m:=m) (U:=U) (rest:=rest))<|rP.1 h2 _<|Kh e2 hl
    rw[rB] at e1;rw[e1,g2];exact⟨g1,by rw[aI,this.1],this.2,(λq hq=>by cases hq)⟩
   .obtain⟨j,e1,e2⟩:=xO hq;obtain⟨j',e1',e2'⟩:=xO hq';rw[rB] at e1 e1';rw[e1,e1'] at e ⊢;exact Kj h1 e2 hl e2' hl' e
  .grind
def retV (P:Program)(own:Bool)(rl:List ResultVar)(m:Nat)(U:List Nat)(R:TV->List AObj->Prop)(s:St):Prop:=
 match Km P s rl with
 |none=>False
 |some rs=>match own with
  |false=>asksA (hook s.heap) rs (match Zs m U (hook s.heap) ((rs.map λx=>(givT (hook s.heap) x).1).flatMap TV.ids) with
   |rest=>match okU m U rest&&(keep m U++rest).all (λo=>(hook s.heap o).inn<|keep m U++rest)&&(rs.map λx=>(givT (hook s.heap) x).1).all (TV.inn<|keep m U++rest)&&(rs.flatMap<|ZR<|hook s.heap).all (λp=> !(keep m U++rest).contains p.1) with
    |true=>match dg ((rs.map λx=>(givT (hook s.heap) x).1).map<|TV.ren<|invU m rest) with
     |some r0=>R r0 (jB m U rest<|hook s.heap)
     |none=>False
    |false=>False)
  |true=>match Zs m U (hook s.heap) (rs.flatMap TV.ids) with
   |rest=>match okU m U rest&&(keep m U++rest).all (λo=>(hook s.heap o).inn<|keep m U++rest)&&rs.all (TV.inn<|keep m U++rest) with
    |true=>match dg (rs.map<|TV.ren<|invU m rest) with
     |some r0=>R r0<|jB m U rest<|hook s.heap
     |none=>False
    |false=>False
theorem lend_inn {ids:List Nat}{E:Lent}(hd:∀p∈E,p.1 ∉ ids){x:AObj}(hx:x.inn ids=true):x.lend E=x:=by
 have hw:∀y:WV,y.inn ids=true->y.lend E=y:=λy hy=>by
  cases y with
  |fn f a b=>rfl
  |a y=>cases y with
   |osl o n off len=>
    simp only[WV.inn,AV.inn,sS,rL] at hy;simp only[WV.lend,AV.lend];rw[Zc]
    grind
   |_=>rfl
 cases x with
 |arr n es=>
  simp only[AObj.inn,rP] at hx;simp only[AObj.lend];congr 1
  conv=>rhs;rw[<-List.map_id es]
  refine sI λe he=>?_
  conv=>rhs;rw[id,<-List.map_id e]
  exact sI λy hy=>hw y<|hx e he y hy
 |_=>rfl
theorem KL {α β:Type}{R:α->β->Prop}{g:α->β}:∀ {l:List α},(∀x∈l,R x<|g x)->All2 R l (l.map g)
 |[],_=>trivial
 |x::_,h=>⟨h x r7,KL λy hy=>h y<|r9 _ hy⟩
theorem WQ {P:Program} {rl:List ResultVar} {m:Nat} {U:List Nat} {r r0:TV} {s:St} {rs rs1:List TV} {E:Lent} {rest:List Nat} (hrs:Km P s rl=some rs) (hl:rs.map (TV.lend E)=rs1) (hE:E.ok<|hook s.heap) (h1:okU m U rest=true)
  (h2:((keep m U++rest).all λo=>(hook s.heap o).inn<|keep m U++rest)=true) (h3:rs1.all (TV.inn<|keep m U++rest)=true)
  (hdis:∀p∈E,p.1 ∉ keep m U++rest) (hr0:dg (rs1.map<|TV.ren<|invU m rest)=some r0) (hle:TV.Le r0 r):iA P rl m r (jB m U rest<|hook s.heap) s:=by
 refine⟨rs,_,outU m rest,E,r0,hrs,hr0,hle,hE,?_,λo ho=>J4 ho,λq hq hl=>?_,λq hq q' hq' hl hl' e=>?_⟩
 .rw[<-hl,List.map_map];refine KL λx hx=>?_
  have hx2:(x.lend E).inn (keep m U++rest)=true:=by
   grind
  have:=TV.renV (backU (m:=m) (U:=U) (rest:=rest)) hx2;simp only[Function.comp,uX];exact⟨by rw[this.1];exact .refl _,this.2⟩
 .obtain⟨j,e1,e2⟩:=xO hq;obtain⟨g1,g2,_⟩:=uN e2 hl;have hmem:=Kh e2 hl;have hinn:=rP.1 h2 _ hmem;have:=AObj.renV (backU (m:=m) (U:=U) (rest:=rest)) hinn;rw[rB] at e1;rw[e1,g2,uX];exact⟨g1,by rw[lend_inn hdis hinn,this.1],this.2,λp hp e=>hdis p hp<|e▸hmem⟩
 .obtain⟨j,e1,e2⟩:=xO hq;obtain⟨j',e1',e2'⟩:=xO hq';rw[rB] at e1 e1';rw[e1,e1'] at e ⊢;exact Kj h1 e2 hl e2' hl' e
theorem dY {P:Program}{own:Bool}{rl:List ResultVar}{m:Nat}{U:List Nat}{r:TV}{Hs':List AObj}{s:St}(h:retV P own rl m U (λr0 Hs0=>TV.Le r0 r/\Hs0=Hs') s):iA P rl m r Hs' s:=by
 unfold retV at h;split at h
 .grind
 .rename_i rs hrs;split at h
  .obtain⟨hl,h⟩:=Ym (L:=rs.flatMap<|ZR<|hook s.heap) jz (λp hp=>hp) h;generalize Zs _ _ _ _=rest at h;simp only at h;split at h
   .rename_i hb;simp only[oZ] at hb;obtain⟨⟨⟨h1,h2⟩,h3⟩,h5⟩:=hb
    have hdis:∀p∈rs.flatMap (ZR<|hook s.heap),p.1 ∉ keep m U++rest:=λp hp hm=>by
     grind
    split at h
    next r0 hr0=>obtain⟨hle,rfl⟩:=h;exact WQ hrs hl jz.ok h1 h2 h3 hdis hr0 hle
    .grind
   .grind
  .generalize Zs _ _ _ _=rest at h;simp only at h;split at h
   .rename_i hb;simp only[oZ] at hb;obtain⟨⟨h1,h2⟩,h3⟩:=hb;split at h
    next r0 hr0=>obtain⟨hle,rfl⟩:=h;exact WQ (E:=[]) hrs (yM rs) (λp hp=>by cases hp) h1 h2 h3 (λp hp=>by cases hp) hr0 hle
    .grind
   .grind
section
variable (P:Program) (sh:FuncId->List Sh) (n m:Nat) (lv:List<|Nat×List Nat) (G:Nat->St->Prop)
def regV (ops:Array Oper)(d:Bool)(K:AExit->St->Prop)(s:St):Prop:=
 match dstB ops n with
 |true=>lexV P sh ops s.nx ops.toList 0 s.env s.heap [] λe h tr=>match !d||WH ops tr with
  |true=>K .normal ⟨e,h,s.nx+32*ops.size⟩
  |false=>False
 |false=>False
def Xj (K1:St->Prop)(K:AExit->St->Prop):AExit->St->Prop
 |.normal,s=>K1 s
 |e,s=>K e s
def condV (x:Operand)(s:St)(A B:St->Prop):Prop:=
 match ev s.env x with
 |.c (.a (.fz (.bool b)))=>match x with
  |.tmp t=>br b (A ⟨(t,bV true)::s.env,s.heap,s.nx⟩)<|B ⟨(t,bV false)::s.env,s.heap,s.nx⟩
  |_=>br b (A s)<|B s
 |_=>False
def runV:Code->(AExit->St->Prop)->St->Prop
 |.skip,K,s=>K .normal s
 |.ret,K,s=>K .ret s
 |.exit i,K,s=>K (.exit i) s
 |.seq a b,K,s=>runV a (Xj (runV b K) K) s
 |.cond x a b,K,s=>condV x s (runV a K)<|runV b K
 |.block i c,K,s=>match isLoop c with
  |true=>jY m lv G (2*i+1) s
  |false=>runV c (yj i K) s
 |.region i ops d,K,s=>match (ya lv<|2*i).isSome with
  |true=>jY m lv G (2*i) s
  |false=>regV P sh n ops d K s
 |.scope c,K,s=>runV c K s
 |.label _,K,s=>K .normal s
 |_,_,_=>False
def jG:Code->Nat->(AExit->St->Prop)->St->Prop
 |.region i ops d,p,K,s=>match p==2*i with
  |true=>regV P sh n ops d K s
  |false=>False
 |.seq a b,p,K,s=>match (pts a).contains p with
  |true=>jG a p (Xj (runV P sh n m lv G b K) K) s
  |false=>jG b p K s
 |.cond _ a b,p,K,s=>match (pts a).contains p with
  |true=>jG a p K s
  |false=>jG b p K s
 |.block i c,p,K,s=>match p==2*i+1 with
  |true=>match c with
   |.loop b=>runV P sh n m lv G b (Xj (jY m lv G<|2*i+1)<|yj i K) s
   |_=>False
  |false=>match c with
   |.loop b=>jG b p (Xj (jY m lv G<|2*i+1)<|yj i K) s
   |c=>jG c p (yj i K) s
 |.scope c,p,K,s=>jG c p K s
 |_,_,_,_=>False
end
section
variable {P:Program} {sh:FuncId->List Sh} {n m:Nat} {lv:List (Nat×List Nat)} {G:Nat->St->Prop}
theorem kP {P:Program}{ops:Array Oper}{nx:Nat}{K1 K2:Env->AHeap->wd->Prop}(hk:∀e h tr,K1 e h tr->K2 e h tr):∀ {l:List Oper} {i:Nat} {e:Env} {h:AHeap} {tr:wd},lex P ops nx l i e h tr K1->lex P ops nx l i e h tr K2:=by
 intro l
 induction l with
 |nil=>exact λh=>hk _ _ _ h
 |cons o rest ih=>
  intro i e h tr hl;unfold lex gM at hl ⊢;split
  .grind
  .rename_i w hw;rw[hw] at hl;simp only at hl;split
   .rename_i hw1;rw[oX hw1] at hl;unfold p9 at hl ⊢;cases hg:goCall o.op with
    |some c=>
     rw[hg] at hl;simp only at hl ⊢;cases hcl:calleeOf (ev e) c with
     |some fa=>rw[hcl] at hl;simp only at hl ⊢;exact hl.imp λr u rd hk=>ih hk
     |none=>rw[hcl] at hl;exact hl.elim
    |none=>grind
   .grind
theorem cS (hP:P.follows .mixedOrders=true){i:Nat}{ops:Array Oper}{d:Bool}{K Q:AExit->St->Prop}{s:St}(hk:∀e s,K e s->Q e s)(h:regV P sh n ops d K s):Awp P n m (.region i ops d) Q s:=by
 unfold regV at h;split at h
 .rename_i hd;refine Awp.uneq<|Awp.region hP hd ?_
  have h1:=wQ rfl h;refine kP ?_ h1;rintro e1 h1 tr1 ⟨e2,he,hk2⟩;split at hk2
  .rename_i hb;refine⟨λhd2=>?_,e2,he,hk _ _ hk2⟩
   grind
  .grind
 .grind
def GOK (P:Program)(n m:Nat)(G:Nat->St->Prop)(c:Code)(Q:AExit->St->Prop):Prop:=∀p s,p∈pts c->G p s->rz P n m c p Q s
theorem wc {K1 Q1:St->Prop}{K Q:AExit->St->Prop}(h1:∀s,K1 s->Q1 s)(h:∀e s,K e s->Q e s):∀e s,Xj K1 K e s->Xs Q1 Q e s:=by
 intro e s hk;cases e with
 |normal=>exact h1 s hk
 |exit i=>exact h _ s hk
 |ret=>exact h _ s hk
theorem xg {i:Nat}{K Q:AExit->St->Prop}(h:∀e s,K e s->Q e s):∀e s,yj i K e s->yj i Q e s:=by
 intro e s hk;cases e with
 |normal=>exact h _ s hk
 |exit j=>
  simp only[yj] at hk ⊢
  grind
 |ret=>exact h _ s hk
theorem GOK.left {a b:Code}{Q:AExit->St->Prop}(h:GOK P n m G (.seq a b) Q):GOK P n m G a (Xs (Awp P n m b Q) Q):=λp s hp hg=>by
 have:=h p s (rQ.2<|.inl hp) hg;unfold rz at this
 grind
theorem GOK.right {a b:Code}{Q:AExit->St->Prop}(hn:(pts<|.seq a b).Nodup)(h:GOK P n m G (.seq a b) Q):GOK P n m G b Q:=λp s hp hg=>by
 have:=h p s (rQ.2<|.inr hp) hg;unfold rz at this
 rwa [oV<|by have:=(sq.1 hn).2.2;simp only[sS,rL];exact λh1=>this p h1 p hp rfl] at this
theorem GOK.condL {x:Operand}{a b:Code}{Q:AExit->St->Prop}(h:GOK P n m G (.cond x a b) Q):GOK P n m G a Q:=λp s hp hg=>by
 have:=h p s (rQ.2<|.inl hp) hg;unfold rz at this
 grind
theorem GOK.condR {x:Operand}{a b:Code}{Q:AExit->St->Prop}(hn:(pts<|.cond x a b).Nodup)(h:GOK P n m G (.cond x a b) Q):GOK P n m G b Q:=λp s hp hg=>by
 have:=h p s (rQ.2<|.inr hp) hg;unfold rz at this
 rwa [oV<|by have:=(sq.1 hn).2.2;simp only[sS,rL];exact λh1=>this p h1 p hp rfl] at this
theorem GOK.block {i:Nat}{c:Code}{Q:AExit->St->Prop}(hn:(pts<|.block i c).Nodup)(h:GOK P n m G (.block i c) Q):GOK P n m G c (yj i Q):=λp s hp hg=>by
 have:=h p s (r9 _ hp) hg;unfold rz at this
 rwa [oV λe=>by subst e;exact(rY.1 hn).1 hp] at this
theorem GOK.loop {c:Code}{Q:AExit->St->Prop}(h:GOK P n m G (.loop c) Q):GOK P n m G c (Xs (Alwp P n m c Q) Q):=λp s hp hg=>by
 have:=h p s hp hg
 assumption
theorem GOK.scope {c:Code}{Q:AExit->St->Prop}(h:GOK P n m G (.scope c) Q):GOK P n m G c Q:=λp s hp hg=>by
 have:=h p s hp hg
 assumption
theorem GOK.head {i:Nat}{c:Code}{Q:AExit->St->Prop}(h:GOK P n m G (.block i c) Q){s:St}(hg:jY m lv G (2*i+1) s):headA P n m c (yj i Q) s:=by
 obtain⟨s',hs,hg⟩:=jK hg;have:=h _ _ r7 hg;unfold rz at this;rw[oX rfl] at this;exact headA.weak hs this
theorem xM (hP:P.follows .mixedOrders=true):∀ {c:Code} {K Q:AExit->St->Prop} {s:St},(pts c).Nodup->GOK P n m G c Q->(∀e s,K e s->Q e s)->runV P sh n m lv G c K s->Awp P n m c Q s
 |.skip,K,Q,s,_,_,hk,h=>Awp.skip<|hk _ _ h
 |.ret,K,Q,s,_,_,hk,h=>Awp.ret<|hk _ _ h
 |.exit i,K,Q,s,_,_,hk,h=>Awp.exit<|hk _ _ h
 |.seq a b,K,Q,s,hn,hG,hk,h=>by
  have hn':=sq.1 hn;exact Awp.seq<|xM hP hn'.1 hG.left (wc (λs hs=>xM hP hn'.2.1 (hG.right hn) hk hs) hk) h
 |.cond x a b,K,Q,s,hn,hG,hk,h=>by
  have hn':=sq.1 hn;unfold runV condV at h;split at h
  .rename_i t ht;split at h
   .rename_i tt;have hsame:∀y,t=y->look ((tt,bV y)::s.env)=look s.env:=λy hy=>Yg (by simp only[ev] at ht;rw[ht,hy];rfl);cases t with
    |true=>exact Awp.cond ht (λ_=>Awp.look (hsame _ rfl)<|xM hP hn'.1 hG.condL hk h) (λe=>by cases e)
    |false=>exact Awp.cond ht (λe=>by cases e) λ_=>Awp.look (hsame _ rfl)<|xM hP hn'.2.1 (hG.condR hn) hk h
   .cases t with
    |true=>exact Awp.cond ht (λ_=>xM hP hn'.1 hG.condL hk h) (λe=>by cases e)
    |false=>exact Awp.cond ht (λe=>by cases e) λ_=>xM hP hn'.2.1 (hG.condR hn) hk h
  .grind
 |.block i c,K,Q,s,hn,hG,hk,h=>by
  unfold runV at h;split at h
  next hl=>exact Awp.block (hG.head h).awp
  .exact Awp.block<|xM hP (rY.1 hn).2 (hG.block hn) (xg hk) h
 |.region i ops d,K,Q,s,hn,hG,hk,h=>by
  unfold runV at h;split at h
  .obtain⟨s',hs,hg⟩:=jK h;have:=hG _ _ r7 hg;exact this.2.weak hs
  .exact cS hP hk h
 |.loop _,_,_,_,_,_,_,h=>h.elim
 |.rangeFunc ..,_,_,_,_,_,_,h=>h.elim
 |.scope c,K,Q,s,hn,hG,hk,h=>by
  unfold runV at h;exact Awp.scope<|xM hP hn hG.scope hk h
 |.label _,K,Q,s,_,_,hk,h=>Awp.label<|hk _ _ h
 |.goto _,_,_,_,_,_,_,h=>h.elim
 |.refuse _,_,_,_,_,_,_,h=>h.elim
theorem wy (hP:P.follows .mixedOrders=true):∀ {c:Code} {p:Nat} {K Q:AExit->St->Prop} {s:St},(pts c).Nodup->GOK P n m G c Q->(∀e s,K e s->Q e s)->jG P sh n m lv G c p K s->rz P n m c p Q s
 |.region i ops d,p,K,Q,s,_,_,hk,h=>by
  unfold jG at h;split at h
  next hp=>exact⟨zd,cS hP hk h⟩
  .grind
 |.seq a b,p,K,Q,s,hn,hG,hk,h=>by
  have hn':=sq.1 hn;unfold jG at h;unfold rz;split at h
  next hp=>rw[oX hp];exact wy hP hn'.1 hG.left (wc (λs hs=>xM hP hn'.2.1 (hG.right hn) hk hs) hk) h
  next hp=>rw[oV zd];exact wy hP hn'.2.1 (hG.right hn) hk h
 |.cond x a b,p,K,Q,s,hn,hG,hk,h=>by
  have hn':=sq.1 hn;unfold jG at h;unfold rz;split at h
  next hp=>rw[oX hp];exact wy hP hn'.1 hG.condL hk h
  next hp=>rw[oV zd];exact wy hP hn'.2.1 (hG.condR hn) hk h
 |.block i c,p,K,Q,s,hn,hG,hk,h=>by
  unfold jG at h;unfold rz;split at h
  .rename_i hp;rw[oX zd];split at h
   next b=>have hn2:(pts b).Nodup:=(rY.1 hn).2;exact(Alwp.unroll (xM hP hn2 (GOK.loop<|hG.block hn) (wc (λs hs=>hG.head hs)<|xg hk) h):Alwp _ _ _ _ _ _)
   .grind
  .rename_i hp;rw[oV zd];split at h
   next b=>have hn2:(pts b).Nodup:=(rY.1 hn).2;unfold rz;exact wy hP hn2 (GOK.loop<|hG.block hn) (wc (λs hs=>hG.head hs)<|xg hk) h
   .exact wy hP (rY.1 hn).2 (hG.block hn) (xg hk) h
 |.skip,_,_,_,_,_,_,_,h=>h.elim
 |.ret,_,_,_,_,_,_,_,h=>h.elim
 |.exit _,_,_,_,_,_,_,_,h=>h.elim
 |.loop _,_,_,_,_,_,_,_,h=>h.elim
 |.rangeFunc ..,_,_,_,_,_,_,_,h=>h.elim
 |.scope c,p,K,Q,s,hn,hG,hk,h=>by
  unfold jG at h;unfold rz;exact wy hP hn hG.scope hk h
 |.label _,_,_,_,_,_,_,_,h=>h.elim
 |.goto _,_,_,_,_,_,_,_,h=>h.elim
 |.refuse _,_,_,_,_,_,_,_,h=>h.elim
end
def endV (P:Program)(own:Bool)(rl:List ResultVar)(m:Nat)(U:List Nat)(R:TV->List AObj->Prop):AExit->St->Prop
 |.exit _,_=>False
 |_,s=>retV P own rl m U R s
def vcE (P:Program)(sh:FuncId->List Sh)(lv:List<|Nat×List Nat)(f:FuncId)(args:List TV)(Hs:List AObj)(R:TV->List AObj->Prop)(G:Nat->St->Prop):Prop:=
 match P.funcs[f]? with
 |some fn=>match fn.body with
  |some c=>match xq P f&&Nat.ble args.length fn.ntmps&&j7 (pts c) with
   |true=>runV P sh fn.ntmps Hs.length lv G c (endV P (ownB<|sh f) fn.results.toList Hs.length (lvU lv) R) ⟨jU 0 args,yO 0 Hs,Hs.length⟩
   |false=>False
  |none=>False
 |none=>False
def vcP (P:Program)(sh:FuncId->List Sh)(lv:List<|Nat×List Nat)(f:FuncId)(m:Nat)(R:TV->List AObj->Prop)(G:Nat->St->Prop)(p:Nat)(s:St):Prop:=
 match P.funcs[f]? with
 |some fn=>match fn.body with
  |some c=>match j7 (pts c) with
   |true=>jG P sh fn.ntmps m lv G c p (endV P (ownB<|sh f) fn.results.toList m (lvU lv) R) s
   |false=>False
  |none=>False
 |none=>False
section
variable {P:Program} {sh:FuncId->List Sh} {lv:List (Nat×List Nat)} {f:FuncId}
theorem Jv {own:Bool}{rl:List ResultVar}{m:Nat}{U:List Nat}{r:TV}{Hs':List AObj}:∀e s,endV P own rl m U (λr0 Hs0=>TV.Le r0 r/\Hs0=Hs') e s->Ret P rl m r Hs' e s:=by
 intro e s h;cases e with
 |normal=>exact dY h
 |exit i=>exact h
 |ret=>exact dY h
theorem fU {fn:Func}{c:Code}{m:Nat}{r:TV}{Hs':List AObj}(hf:P.funcs[f]?=some fn)(hb:fn.body=some c):GOK P fn.ntmps m (RPt P f m r Hs') c (Ret P fn.results.toList m r Hs'):=by
 rintro p s _ ⟨fn',c',h1,h2,h3⟩
 grind
theorem AC.vc (hP:P.follows .mixedOrders=true) (sh:FuncId->List Sh) (lv:List<|Nat×List Nat) {args:List TV} {Hs Hs':List AObj} {r:TV} (hlen:Hs.length<=Hs'.length) (hlive:∀x∈Hs,isLive x) (hlive':∀x∈Hs'.drop Hs.length,isLive x)
  (h:vcE P sh lv f args Hs (λr0 Hs0=>TV.Le r0 r/\Hs0=Hs')<|RPt P f Hs.length r Hs'):AC P f args Hs r Hs':=by
 unfold vcE at h;split at h
 .rename_i fn hf;split at h
  .rename_i c hc;split at h
   next hb=>simp only[oZ] at hb;exact AC.intro hf hc rfl rfl hb.1.1 (rR hb.1.2) hlen hlive hlive' (xM hP (xv hb.2) (fU hf hc) Jv h)
   .grind
  .grind
 .grind
theorem RPt.vc (hP:P.follows .mixedOrders=true) (sh:FuncId->List Sh) (lv:List<|Nat×List Nat) {m:Nat} {Hs':List AObj} {r:TV} {p:Nat} {s:St}
  (h:vcP P sh lv f m (λr0 Hs0=>TV.Le r0 r/\Hs0=Hs') (RPt P f m r Hs') p s):RPt P f m r Hs' p s:=by
 unfold vcP at h;split at h
 .rename_i fn hf;split at h
  .rename_i c hc;split at h
   next hb=>exact⟨fn,c,hf,hc,wy hP (xv hb) (fU hf hc) Jv h⟩
   .grind
  .grind
 .grind
end
theorem AC.le {P:Program}{f:FuncId}{args args':List TV}{Hs Hs':List AObj}{r r':TV}(h:AC P f args' Hs r Hs')(ha:All2 TV.Le args args')(hr:TV.Le r r'):AC P f args Hs r' Hs':=by
 refine⟨h.1,h.2.1,λw vals β Y h1 h2 hgl h3 h4=>?_⟩;refine(h.2.2 w vals β Y h1 h2 hgl h3<|J0 ha h4).mono λe w' ⟨v,β',h5,h6,h7,h8,h9⟩=>?_;exact⟨v,β',h5,h6,h7,TRep.le hr h8,h9⟩
theorem AC.args {P:Program}{f:FuncId}{args args':List TV}{Hs Hs':List AObj}{r:TV}(h:AC P f args' Hs r Hs')(ha:All2 TV.Le args args'):AC P f args Hs r Hs':=h.le ha<|.refl r
inductive OLe:AObj->AObj->Prop
 |refl (a:AObj):OLe a a
 |rows (n:Nat) (fs gs:List (List FV)):gs.length<=fs.length->(∀(i:Nat) (e e':List FV),fs[i]?=some e->gs[i]?=some e'->e.length=e'.length)->
   (∀(i j:Nat) (e e':List FV) (f f':FV),fs[i]?=some e->gs[i]?=some e'->e[j]?=some f->e'[j]?=some f'->FV.Le f f')->OLe (.arz n fs) (.arz n gs)
theorem OLe.live {a b:AObj}(h:OLe a b):isLive a↔isLive b:=by cases h<;>exact Iff.rfl
theorem OLe.bare {a b:AObj}(h:OLe a b)(hb:bareO a):bareO b:=by
 cases h with
 |refl=>exact hb
 |rows n fs gs hl _ _=>
  obtain⟨m,hm⟩:=hb;simp only[flat,AObj.arr.injEq,List.map_eq_nil_iff] at hm;have:gs=[]:=rk zd;exact⟨n,by rw[this];rfl⟩
theorem OLe.rep {w:World}{X:Nat->Prop}{β:Nat->Option Nat}{a b:AObj}{k:Nat}(h:OLe a b)(hr:ORep w X β a k):ORep w X β b k:=by
 cases h with
 |refl=>exact hr
 |rows n fs gs hl he hf=>
  obtain⟨us,t,h1,h2,h3,h4⟩:=hr
  have back:∀ {i:Nat} {e':List FV},gs[i]?=some e'->∃e,fs[i]?=some e/\e.length=e'.length:=by
   grind
  have hlen:gs.length*n<=fs.length*n:=rZ _ hl;refine⟨us,t,h1,zd,λe' he'=>?_,λi j e' c' he' hc'=>?_⟩
  .obtain⟨g,hg,rfl⟩:=rK.1 he';obtain⟨i,hi⟩:=sP hg;obtain⟨e,h5,h6⟩:=back hi;have:=h3 (fzs e)<|rK.2 ⟨e,rV h5,rfl⟩
   simp only[fzs,sM] at this ⊢;omega
  .rw[rq] at he';obtain⟨g,hg,rfl⟩:=oY.1 he';rw[fzs,rq] at hc';obtain⟨f',hf',rfl⟩:=oY.1 hc';obtain⟨e,h5,h6⟩:=back hg;have hj:j<e.length:=zd
   have hej:=rf hj;obtain⟨u,hu,hr⟩:=h4 i j (fzs e) (cell e[j]) zd (by rw[fzs,rq,hej];rfl);exact⟨u,hu,WRep.le (.a _ _<|.fz _ _<|hf i j e g _ _ h5 hg hej hf') hr⟩
theorem AC.obj {P:Program}{f:FuncId}{args:List TV}{Hs Hs' Hs'':List AObj}{r:TV}(h:AC P f args Hs r Hs')(ho:All2 OLe Hs' Hs''):AC P f args Hs r Hs'':=by
 have len:∀ {a b:List AObj},All2 OLe a b->a.length=b.length:=by
  intro a
  induction a with
  |nil=>intro b h;cases b; · rfl
        .exact h.elim
  |cons x a ih=>intro b h;cases b; · exact h.elim
                .simp[ih h.2]
 have get:∀ {a b:List AObj} (i:Nat),All2 OLe a b->OLe (a.getD i .gone) (b.getD i .gone):=by
  intro a
  induction a with
  |nil=>intro b i h;cases b; · exact .refl _
        .grind
  |cons x a ih=>
   intro b i h;cases b with
   |nil=>exact h.elim
   |cons y b=>cases i with
    |zero=>exact h.1
    |succ i=>exact ih (b:=b) i h.2
 have hl:=len ho;refine⟨h.1,by rw[<-hl];exact h.2.1,λw vals β Y h1 h2 hgl h3 h4=>?_⟩;refine(h.2.2 w vals β Y h1 h2 hgl h3 h4).mono λe w' ⟨v,β',k1,k2,k3,k4,k5,k6,k7⟩=>?_
 have hown:Own (λo=>Hs''.getD o .gone) β'=Own (λo=>Hs'.getD o .gone) β':=by
  funext b
  exact propext ⟨λ⟨o,a,c⟩=>⟨o,(get o ho).live.2 a,c⟩,λ⟨o,a,c⟩=>⟨o,(get o ho).live.1 a,c⟩⟩
 refine⟨v,β',k1,k2,⟨λo b a c=>?_,λo a=>?_,λo o' b a a'=>k3.inj o o' b ((get o ho).live.2 a)<|(get o' ho).live.2 a',k3.lt⟩,by simp_all,zd,k6,k7⟩
 .rw[hown];exact(get o ho).rep<|k3.rep o b ((get o ho).live.2 a) c
 .exact(k3.has o<|(get o ho).live.2 a).imp id λ⟨p,q⟩=>⟨(get o ho).bare p,q⟩
abbrev ci (n:Int):TV:=.c<|.a<|.fz<|.int .i64 n
abbrev cb (b:Bool):TV:=.c<|.a<|.fz<|.bool b
abbrev cs (s:List UInt8):TV:=.c<|.a<|.fz<|.str s
abbrev c8 (n:Int):TV:=.c<|.a<|.fz<|.int .u8 n
def LeR:List FV->List FV->Prop
 |[],[]=>True
 |x::xs,y::ys=>FV.Le x y/\LeR xs ys
 |_,_=>False
theorem LeR.refl:∀l:List FV,LeR l l
 |[]=>trivial
 |x::l=>⟨.refl x,LeR.refl l⟩
theorem LeR.length:∀ {a b:List FV},LeR a b->a.length=b.length
 |[],[],_=>rfl
 |_::_,_::_,h=>by simp[h.2.length]
 |[],_::_,h=>h.elim
 |_::_,[],h=>h.elim
theorem LeR.get:∀ {a b:List FV},LeR a b->∀(i:Nat) (x y:FV),a[i]?=some x->b[i]?=some y->FV.Le x y
 |[],[],_,i,x,y,hx,_=>zd
 |a::a9,b::bs,h,i,x,y,hx,hy=>by
  cases i with
  |zero=>simp at hx hy;subst hx;subst hy;exact h.1
  |succ i=>exact h.2.get i x y zd zd
theorem le_agg {a b:List FV}(h:LeR a b):TV.Le (.agg<|fzs a) (.agg<|fzs b):=by
 refine .agg _ _ (by simp[fzs,h.length]) λi x y hx hy=>?_;rw[fzs,rq] at hx hy;obtain⟨x',hx',rfl⟩:=oY.1 hx;obtain⟨y',hy',rfl⟩:=oY.1 hy;exact .a _ _<|.fz _ _<|h.get i x' y' hx' hy'
theorem le_c {x y:FV}(h:FV.Le x y):TV.Le (.c<|.a<|.fz x) (.c<|.a<|.fz y):=.c _ _<|.a _ _<|.fz _ _ h
inductive Tm where
 |mk (k:Int) (s:List UInt8) (n:Int) (l:List Tm)
 deriving Inhabited
namespace Tm
def k:Tm->Int|.mk k _ _ _=>k
def s:Tm->List UInt8|.mk _ s _ _=>s
def n:Tm->Int|.mk _ _ n _=>n
def l:Tm->List Tm|.mk _ _ _ l=>l
end Tm
mutual
def FT:Tm->List FV
 |.mk k s n l=> [.int .i64 k,.str s,.int .i64 n,.sl false 4<|FTs l]
def FTs:List Tm->List (List FV)
 |[]=> []
 |t::l=>FT t::FTs l
end
mutual
def Tm.sz:Tm->Nat
 |.mk _ _ _ l=>1+Tm.szs l
def Tm.szs:List Tm->Nat
 |[]=>0
 |t::l=>Tm.sz t+Tm.szs l
end
theorem vp:∀l:List Tm,FTs l=l.map FT
 |[]=>rfl
 |t::l=>by simp only[FTs,rO,vp l]
theorem zq (l:List Tm):(FTs l).length=l.length:=by rw[vp,sM]
theorem xB (a b:List Tm):FTs (a++b)=FTs a++FTs b:=by simp only[vp,t7]
theorem Xb (t:Tm):(FT t).length=4:=by cases t;rfl
theorem cH (t:Tm):FT t=[.int .i64 t.k,.str t.s,.int .i64 t.n,.sl false 4<|FTs t.l]:=by cases t;rfl
theorem Tm.sz_pos (t:Tm):1<=t.sz:=by cases t;simp only[Tm.sz];omega
theorem Tm.sz_eq (t:Tm):t.sz=1+Tm.szs t.l:=by cases t;rfl
mutual
def Tm.bk:Tm->Nat
 |.mk _ s _ l=>1+s.length+Tm.bks l
def Tm.bks:List Tm->Nat
 |[]=>0
 |t::l=>Tm.bk t+Tm.bks l
end
mutual
theorem Tm.sz_bk:∀t:Tm,t.sz<=t.bk
 |.mk _ s _ l=>by have:=Tm.szs_bks l;simp only[Tm.sz,Tm.bk];omega
theorem Tm.szs_bks:∀l:List Tm,Tm.szs l<=Tm.bks l
 |[]=>r6 _
 |t::l=>by have:=Tm.sz_bk t;have:=Tm.szs_bks l;simp only[Tm.szs,Tm.bks];omega
end
theorem Tm.szs_mem:∀ {l:List Tm} {t:Tm},t∈l->t.sz<=Tm.szs l
 |x::l,t,h=>by
  rcases rx.1 h with rfl|h
  .simp only[Tm.szs];omega
  .have:=Tm.szs_mem h;simp only[Tm.szs];omega
theorem Tm.szs_append:∀(a b:List Tm),Tm.szs (a++b)=Tm.szs a+Tm.szs b
 |[],b=>by simp[Tm.szs]
 |t::a,b=>by simp only[sk,Tm.szs,Tm.szs_append a b];omega
theorem Tm.szs_length:∀l:List Tm,l.length<=Tm.szs l
 |[]=>r6 _
 |t::l=>by have:=Tm.szs_length l;have:=t.sz_pos;simp only[r5,Tm.szs];omega
theorem Tm.ind {P:Tm->Prop}(h:∀t,(∀u∈t.l,P u)->P t):∀t,P t:=by
 have key:∀n t,t.sz<=n->P t:=by
  intro n
  induction n with
  |zero=>intro t ht;have:=t.sz_pos;omega
  |succ n ih=>
   intro t ht;refine h t λu hu=>ih u ?_;have:=Tm.szs_mem hu;rw[Tm.sz_eq] at ht;omega
 exact λt=>key _ t<|r6 _
theorem X3 (l:List Tm):Int.toNat (l.length:Int)=l.length:=za
theorem Wx (a:List Tm)(t:Tm)(b:List Tm):getD (FTs<|a++t::b) a.length []=FT t:=by
 rw[vp]
 grind
theorem w64 {x:Int}(h1: -9223372036854775808<=x)(h2:x<=9223372036854775807):wrap .i64 x=x:=Go.IntWalk.i64_in _ ⟨h1,h2⟩
def B:Nat:=549755813888
theorem leFT {k n:Int}{s:List UInt8}{x:FV}{l:List Tm}(h:FV.Le x<|.sl false 4<|FTs l):LeR [.int .i64 k,.str s,.int .i64 n,x] (FT<|.mk k s n l):=⟨.refl _,.refl _,.refl _,h,trivial⟩
theorem leSl {b:Bool}{l:List Tm}:FV.Le (.sl b 4<|FTs l) (.sl false 4<|FTs l):=.nn _ _ _
theorem xU:FV.Le .N (.sl false 4<|FTs []):=.N 4
theorem cB {b:Bool}{rows:List (List FV)}{l:List Tm}(hl:rows.length=l.length)(h:∀(i:Nat) (r:List FV) (t:Tm),rows[i]?=some r->l[i]?=some t->LeR r (FT t)):FV.Le (.sl b 4 rows) (.sl false 4<|FTs l):=by
 refine .trans _ (.sl b 4<|FTs l) _ (.rows b 4 rows _ (by rw[zq,hl]) (λi e e' he he'=>?_) λi j e e' f f' he he' hf hf'=>?_) leSl
 .rw[vp,rq] at he';obtain⟨t,ht,rfl⟩:=oY.1 he';exact(h i e t he ht).length
 .rw[vp,rq] at he';obtain⟨t,ht,rfl⟩:=oY.1 he';exact(h i e t he ht).get j f f' hf hf'
theorem midI (a:List Tm)(t:Tm)(b:List Tm):getD (FTs<|a++t::b) (Int.toNat (a.length:Int)) []=FT t:=by
 rw[(za:Int.toNat (a.length:Int)=a.length),Wx]
theorem midI' (a a':List Tm)(h:a.length=a'.length)(t:Tm)(b:List Tm):getD (FTs<|a'++t::b) (Int.toNat (a.length:Int)) []=FT t:=by rw[h,midI]
theorem nx {α:Type}(a:List α)(t:α):(((a++[t]).length:Nat):Int)=(a.length:Int)+1:=zb
theorem ap {α:Type}(a:List α)(t:α)(b:List α):(a++[t])++b=a++t::b:=zb
theorem lenI (l:List Tm):(((FTs l).length:Nat):Int)=(l.length:Int):=by rw[zq]
theorem ltI {α:Type}(a:List α)(t:α)(b:List α):(a.length:Int)<(((a++t::b).length:Nat):Int):=zd
theorem ltI' (a:List Tm)(t:Tm)(b:List Tm):(a.length:Int)<(((FTs<|a++t::b).length:Nat):Int):=by rw[zq];exact ltI a t b
theorem geI' (a:List Tm):¬(a.length:Int)<(((FTs<|a++[]).length:Nat):Int):=by rw[zq];simp
abbrev aT (t:Tm):TV:=.agg [.a<|.fz<|.int .i64 t.k,.a<|.fz<|.str t.s,.a<|.fz<|.int .i64 t.n,.a<|.fz<|.sl false 4<|FTs t.l]
abbrev cT (t:Tm):List WV:=[.a<|.fz<|.int .i64 t.k,.a<|.fz<|.str t.s,.a<|.fz<|.int .i64 t.n,.a<|.fz<|.sl false 4<|FTs t.l]
abbrev rE (r:List FV):List FV:=[.int .i64<|FV.I<|getD r 0 FV.N,.str<|FV.S<|getD r 1 FV.N,.int .i64<|FV.I<|getD r 2 FV.N,getD r 3 FV.N]
abbrev cE (r:List FV):List WV:=[.a<|.fz<|.int .i64<|FV.I<|getD r 0 FV.N,.a<|.fz<|.str<|FV.S<|getD r 1 FV.N,.a<|.fz<|.int .i64<|FV.I<|getD r 2 FV.N,.a<|.fz<|getD r 3 FV.N]
abbrev aE (r:List FV):TV:=.agg<|cE r
abbrev FT4 (t:Tm):List FV:=[.int .i64 t.k,.str t.s,.int .i64 t.n,.sl false 4<|FTs t.l]
theorem vP (t:Tm):aE (FT t)=aT t:=by cases t;rfl
theorem uI (t:Tm):rE (FT t)=FT t:=by cases t;rfl
theorem vT (t:Tm):FT4 t=FT t:=by cases t;rfl
theorem bZ (n:Nat)(l:List Tm):drop n (FTs l)=FTs (drop n l):=by rw[vp,vp,List.map_drop]
theorem FTs_take (n:Nat)(l:List Tm):take n (FTs l)=FTs (take n l):=by rw[vp,vp,List.map_take]
theorem Kc (a:List Tm)(t:Tm)(b:List Tm):aE (getD (FTs<|a++t::b) (Int.toNat (a.length:Int)) [])=aT t:=by
 rw[show getD (FTs<|a++t::b) (Int.toNat (a.length:Int)) []=FT t from by rw[(za:Int.toNat (a.length:Int)=a.length),Wx]];exact vP t
theorem XI (a:List Tm)(t:Tm)(b:List Tm):rE (getD (FTs<|a++t::b) (Int.toNat (a.length:Int)) [])=getD (FTs<|a++t::b) (Int.toNat (a.length:Int)) []:=by
 rw[show getD (FTs<|a++t::b) (Int.toNat (a.length:Int)) []=FT t from by rw[(za:Int.toNat (a.length:Int)=a.length),Wx]];exact uI t
structure Inf where
 lv:Int
 bd:Bool
 v:Tm
def Inf.c (i:Inf):List FV:=[.int .i64 i.lv,.bool i.bd,.int .i64 i.v.k,.str i.v.s,.int .i64 i.v.n,.sl false 4<|FTs i.v.l]
def SR (l:List Inf):List (List FV):=l.map Inf.c
structure Sto where
 V:List Inf
 T:List Int
def IR (l:List Int):List (List FV):=l.map λn=> [.int .i64 n]
abbrev aL (l:List Tm):TV:=.c<|.a<|.fz<|.sl false 4<|FTs l
theorem leT {k n:Int}{s:List UInt8}{x:FV}{l:List Tm}(h:FV.Le x<|.sl false 4<|FTs l):TV.Le (.agg [.a<|.fz<|.int .i64 k,.a<|.fz<|.str s,.a<|.fz<|.int .i64 n,.a<|.fz x]) (aT<|.mk k s n l):=le_agg<|leFT h
theorem zH {x y:Bool}(h:x=y):TV.Le (cb x) (cb y)/\([]:List AObj)=[]:=⟨by rw[h];exact .refl _,rfl⟩
theorem jn {x y:Int}(h:x=y):TV.Le (ci x) (ci y)/\([]:List AObj)=[]:=⟨by rw[h];exact .refl _,rfl⟩
theorem KR {x y:TV}(h:TV.Le x y):TV.Le x y/\([]:List AObj)=[]:=⟨h,rfl⟩
theorem AC.of_calls {P:Program} {f:FuncId} {args:List TV} {vals:List Value} {r:TV} {v:Value} (hen:xq P f=true) (h:∀w,Calls P f vals.toArray w λe w'=>e=.returned v/\w'=w)
  (hv:∀(w:World) (X:Nat->Prop) (β:Nat->Option Nat) (us:List Value),LRep (TRep w X β) args us->us=vals) (hr:∀(w:World) (X:Nat->Prop) (β:Nat->Option Nat),TRep w X β r v):AC P f args [] r []:=by
 refine⟨hen,r6 _,λw us β Y h1 h2 _ h3 h4=>?_⟩;rw[hv _ _ _ _ h4];refine(h w).mono λe w' ⟨he,hw⟩=>?_;subst hw;exact⟨v,β,he,Good.refl _ _,h3,hr _ _ _,h1,λo ho=>absurd ho<|A1 _,λo b _ hb=>absurd (h1 o b hb)<|A1 _⟩
theorem AC.str_u8 {P:Program}{f:FuncId}{s:List UInt8}{c n:Int}(hen:xq P f=true)(h:∀w,Calls P f #[.string ⟨s.toArray⟩,.int .u8 c] w λe w'=>e=.returned (.int .i64 n)/\w'=w):AC P f [cs s,c8 c] [] (ci n) []:=by
 refine AC.of_calls (vals:=[.string ⟨s.toArray⟩,.int .u8 c]) hen h (λw X β us hu=>?_) λw X β=>.a _ _<|.fz _ _<|.int _ _
 obtain⟨u,us',rfl,h1,h2⟩:=hu.cons_inv;obtain⟨v,vs',rfl,h3,h4⟩:=h2.cons_inv;rw[TRep.str_inv h1,TRep.int_inv h3,h4.nil_inv]
structure Cel where
 t:Int
 a:Int
 b:Int
 c:Int
 d:Int
 deriving DecidableEq
abbrev Cel.r (x:Cel):List FV:=[.int .i64 x.t,.int .i64 x.a,.int .i64 x.b,.int .i64 x.c,.int .i64 x.d]
structure Trl where
 o:Int
 x:Cel
 top:Int
abbrev Trl.r (e:Trl):List FV:=[.int .i64 e.o,.int .i64 e.x.t,.int .i64 e.x.a,.int .i64 e.x.b,.int .i64 e.x.c,.int .i64 e.x.d,.int .i64 e.top]
def CR (l:List Cel):List (List FV):=l.map Cel.r
def TR (l:List Trl):List (List FV):=l.map Trl.r
def NR (l:List<|List UInt8):List (List FV):=l.map λs=> [.str s]
def NM:List (List UInt8)->Nat->List MapZ
 |[],_=> []
 |s::l,i=>((false,[.str s]),(false,[.int .i64 (i:Int)]))::NM l (i+1)
structure Hp where
 C:List Cel
 T:List Trl
 M:Int
 L:Int
 N:List<|List UInt8
structure Rd where
 s:Hp
 f:Int
 e:Int
structure Wk where
 s:Hp
 f:Int
 n:Nat
 R:List<|List FV
open Go.ChangeShapes Go.WideShapes Go.ChangeAt Go.RowKit
section
variable {H:Type} {enc:TypeId×Value->H} {P:Program} {w:World}
abbrev Z3:Nat->Prop:=λ_=>False
def RdN (enc:TypeId×Value->H)(P:Program)(w:World)(b:DataW H->Nat)(fuel:Nat)(t:TypeId){α:Type}(F:α->List FV)(sz:α->Nat):Prop:=
 ∀cs x,DataW.trod enc P w 0 (λ_=>true) true fuel t cs=some x->∃a,LRep (FRep w Z3) (F a) cs/\sz a<=b x.1
theorem iQ {b:DataW H->Nat}{t:TypeId}{k:IntKind}(ht:P.underlying t=some (.int k))(hb:∀d,1<=b d)(fuel:Nat):RdN enc P w b fuel t (λn:Int=> [.int k n]) (λ_=>1):=by
 intro cs x h;obtain⟨n,rfl,rfl,_⟩:=DataW.trod_int ht h;exact⟨n,.cons (.int k n) .nil,hb _⟩
theorem rd_str {b:DataW H->Nat}{t:TypeId}(ht:P.underlying t=some .string)(hb:∀l:List UInt8,l.length+1<=b (.lit<|.string l))(fuel:Nat):RdN enc P w b fuel t (λl:List UInt8=> [.str l]) (λl=>l.length+1):=by
 intro cs x h;obtain⟨s,rfl,rfl,_⟩:=DataW.trod_string ht h;refine⟨s.data.toList,.cons ?_ .nil,hb _⟩;have h2:=FRep.str (w:=w) (X:=Z3) s.data.toList;omega
def X9 {α:Type}(sz:α->Nat):List α->Nat
 |[]=>0
 |a::l=>sz a+X9 sz l
theorem sum_le {α:Type}{sz:α->Nat}{b:DataW H->Nat}{bs:List (DataW H)->Nat}(hbs:∀d l,bs (d::l)=b d+bs l):∀ {xs:List α} {es:List (DataW H×List MemPlace)},xs.length=es.length->(∀(i:Nat) (x:α) (y:DataW H×List MemPlace),xs[i]?=some x->es[i]?=some y->sz x<=b y.1)->X9 sz xs<=bs (es.map (·.1))
 |[],_,_,_=>by simp[X9]
 |x::xs,[],h,_=>zd
 |x::xs,e::es,h,hr=>by
  have h1:=hr 0 x e rfl rfl;have h2:=sum_le (sz:=sz) hbs (xs:=xs) (es:=es) zd λi x y hx hy=>hr (i+1) x y zd zd;simp only[X9,rO,hbs];omega
theorem KE {a:Addr}{n:Nat}{cs:List Value}(h:w.cells? 0 a n=some cs):cs.length=n/\∀j u,cs[j]?=some u->w.cell? (a.add j)=some u:=by
 unfold World.cells? at h;refine⟨by have:=mapM_some_length h;exact zo this,λj u hu=>?_⟩
 have hj:j<n:=by
  have h1:=(rr.1 hu).1;have:=mapM_some_length h;simp at this;omega
 have:=mapM_some_get h j j zd
 grind
theorem mI {a:Addr}{u:Value}(h:w.cell? a=some u):a.spot=none:=by
 unfold World.cell? at h;split at h
 .simp_all
 .cases h
theorem cell_blk {a:Addr}{u:Value}(h:w.cell? a=some u):a.block<w.heap.size:=by
 apply Decidable.byContradiction;intro hn;have:w.heap[a.block]?=none:=zd
 simp[World.cell?,this] at h
theorem add_zero (a:Addr):a.add 0=a:=rfl
theorem bJ (b o k:Nat):(Addr.mk b o none).add k=⟨b,o+k,none⟩:=by
 unfold Addr.add
 grind
theorem dV {b:DataW H->Nat} {bs:List (DataW H)->Nat} (hbs:∀d l,bs (d::l)=b d+bs l) (hb0:∀d,1<=b d) (hb:∀es sp,bs es+1<=b (.slice es sp)) {t e:TypeId} (ht:P.underlying t=some (.slice e)) {n:Nat} (hn:P.cellsOf e=n) (hn0:0<n)
  {α:Type} {F:α->List FV} {sz:α->Nat} (hF:∀a,(F a).length=n) {fuel:Nat} (ih:∀k,k<fuel->RdN enc P w b k e F sz):RdN enc P w b fuel t (λl:List α=> [.sl false n<|l.map F]) (λl=>X9 sz l+1):=by
 intro cs x h;rcases DataW.trod_slice ht h with⟨rfl,rfl⟩|⟨a,len,cap,elems,rest,k,rfl,rfl,rfl,_,hlc,_,hlen,hel,hrest,_⟩
 .exact⟨[],.cons (.slnil n) .nil,by simpa[X9] using hb0 _⟩
 .rw[hn] at hel
  have key:∀(i:Nat) (y:DataW H×List MemPlace),elems[i]?=some y->∃x:α,(∃cs,w.cells? 0 (a.add<|i*n) n=some cs/\LRep (FRep w Z3) (F x) cs)/\sz x<=b y.1:=by
   intro i y hy;have hi:i<len:=by rw[<-hlen];exact(rr.1 hy).1
   have h1:=hel i hi;rw[hy] at h1;obtain⟨cs,h2,h3⟩:=sO.1 h1;obtain⟨x,h4,h5⟩:=ih k (Nat.lt_succ_self _) cs y h3
   grind
  have key2:∃xs:List α,xs.length=elems.length/\∀(i:Nat) (x:α),xs[i]?=some x->(∃cs,w.cells? 0 (a.add<|i*n) n=some cs/\LRep (FRep w Z3) (F x) cs)/\∀y,elems[i]?=some y->sz x<=b y.1:=by
   have:∀(l:List<|DataW H×List MemPlace) (o:Nat),(∀i,l[i]?=elems[o+i]?)->∃xs:List α,xs.length=l.length/\∀(i:Nat) (x:α),xs[i]?=some x->(∃cs,w.cells? 0 (a.add<|(o+i)*n) n=some cs/\LRep (FRep w Z3) (F x) cs)/\∀y,l[i]?=some y->sz x<=b y.1:=by
    intro l
    induction l with
    |nil=>exact λo _=>⟨[],rfl,λi x h=>by simp at h⟩
    |cons y l ih=>
     intro o ho;obtain⟨x,hx1,hx2⟩:=key o y (by have:=ho 0;exact zo this.symm);obtain⟨xs,h1,h2⟩:=ih (o+1) (λi=>by have:=ho (i+1);rw[(za:o+1+i=o+(i+1))];exact zo this);refine⟨x::xs,by simp[h1],λi x' hx'=>?_⟩
     grind
   obtain⟨xs,h1,h2⟩:=this elems 0 (λi=>zb)
   grind
  obtain⟨xs,hxl,hx⟩:=key2;have hsum:=sum_le (sz:=sz) (b:=b) hbs hxl λi x y h1 h2=>(hx i x h1).2 y h2;have hb':=hb (elems.map (·.1)) (rest.map (·.1));refine⟨xs,?_,show X9 sz xs+1<=b (.slice (elems.map (·.1)) (rest.map (·.1))) by omega⟩;by_cases hc0:cap=0
  .have h0:len=0:=za
   subst hc0;subst h0;have:xs=[]:=List.length_eq_zero_iff.1 za;subst this;exact .cons (.sl0 false n a) .nil
  .have hone:∃cs,w.cells? 0 a n=some cs:=by
    by_cases h0:len=0
    .have hr:=(hrest rfl).2 0 za
     have hr':rest[0]? ≠ none:=by
      grind
     rw[hn] at hr;rw[h0,show(0+0)*n=0 by simp,add_zero] at hr;cases hcl:w.cells? 0 a n with
     |none=>rw[hcl] at hr;exact absurd hr.symm hr'
     |some cs=>exact⟨cs,rfl⟩
    .have:0<xs.length:=za
     obtain⟨⟨cs,h1,_⟩,_⟩:=hx 0 xs[0] (by simp[this]);rw[(zb:0*n=0),add_zero] at h1
     grind
   obtain⟨cs0,hq⟩:=hone;obtain⟨hl0,hq'⟩:=KE hq;have hq0:=hq' 0 (cs0[0]' za) zb;rw[add_zero] at hq0;have hsp:a.spot=none:=mI hq0;have hbl:a.block<w.heap.size:=cell_blk hq0;obtain⟨blk,off,sp⟩:=a;subst hsp;refine .cons (.sl false n (xs.map F) blk off cap len (λi j=>(w.cell? ⟨blk,off+i*n+j,none⟩).getD<|.bool false) (by rw[sM];omega) (by rw[sM];omega) (λh=>h) hbl (λi e he=>?_) (λi j e f he hf=>?_) λi j e f he hf=>?_) .nil
   .grind
   all_goals
    rw[rq] at he;obtain⟨x,hxi,rfl⟩:=oY.1 he;obtain⟨⟨cs,h1,h2⟩,_⟩:=hx i x hxi;obtain⟨h3,h4⟩:=KE h1;have hj:j<cs.length:=by rw[<-h2.1];exact(rr.1 hf).1
    have h5:=h4 j cs[j] zb;rw[bJ,bJ] at h5
   .rw[h5];rfl
   .rw[h5];exact h2.2 j f cs[j] hf zb
theorem FT_sum:∀l:List Tm,Tm.bks l=X9 Tm.bk l
 |[]=>rfl
 |t::l=>by rw[Tm.bks,X9,FT_sum l]
structure TmTy (P:Program)(T:TypeId)(f0 f1 f2 f3:Field):Prop where
 str:P.underlying T=some (.struct #[f0,f1,f2,f3])
 u0:P.underlying f0.type=some (.int .i64)
 u1:P.underlying f1.type=some .string
 u2:P.underlying f2.type=some (.int .i64)
 u3:P.underlying f3.type=some (.slice T)
 o0:f0.offset=0
 o1:f1.offset=1
 o2:f2.offset=2
 o3:f3.offset=3
 c0:P.cellsOf f0.type=1
 c1:P.cellsOf f1.type=1
 c2:P.cellsOf f2.type=1
 c3:P.cellsOf f3.type=1
 cT:P.cellsOf T=4
structure Bulk (b:DataW H->Nat)(bs:List (DataW H)->Nat):Prop where
 nil:bs []=0
 cons:∀d l,bs (d::l)=b d+bs l
 one:∀d,1<=b d
 slice:∀es sp,bs es+1<=b (.slice es sp)
 str:∀l:List UInt8,l.length+1<=b (.lit<|.string l)
 agg:∀l,bs l+1<=b (.agg l)
theorem LRep.one {α:Type}{R:α->Value->Prop}{c:α}{u:Value}(h:LRep R [c] [u]):R c u:=h.2 0 c u rfl rfl
theorem rd_term {b:DataW H->Nat}{bs:List (DataW H)->Nat}(hb:Bulk b bs){T:TypeId}{f0 f1 f2 f3:Field}(hT:TmTy P T f0 f1 f2 f3):∀fuel,RdN enc P w b fuel T FT Tm.bk:=by
 intro fuel
 induction fuel using Nat.strongRecOn with
 |_ fuel ih=>
  intro cs x h;obtain⟨xs,n,rfl,rfl,hl,hxl,hf⟩:=DataW.trod_struct hT.str h;rw[hT.cT] at hl
  match cs,hl with
  |[v0,v1,v2,v3],_=>
  match xs,hxl with
  |[x0,x1,x2,x3],_=>
  have g0:=hf 0 f0 rfl;have g1:=hf 1 f1 rfl;have g2:=hf 2 f2 rfl;have g3:=hf 3 f3 rfl;rw[hT.o0,hT.c0] at g0;rw[hT.o1,hT.c1] at g1;rw[hT.o2,hT.c2] at g2;rw[hT.o3,hT.c3] at g3;obtain⟨k,r0,_⟩:=iQ (b:=b) hT.u0 hb.one n _ _ g0;obtain⟨s,r1,z1⟩:=rd_str (b:=b) hT.u1 hb.str n _ _ g1;have z1:s.length+1<=b x1.1:=z1;obtain⟨m,r2,_⟩:=iQ (b:=b) hT.u2 hb.one n _ _ g2;obtain⟨l,r3,z3⟩:=dV (F:=FT) (sz:=Tm.bk) hb.cons hb.one hb.slice hT.u3 hT.cT za Xb (λk hk=>ih k za) _ _ g3;have z3:X9 Tm.bk l+1<=b x3.1:=z3;refine⟨.mk k s m l,?_,?_⟩
  .rw[FT,vp];exact .cons (LRep.one r0)<|.cons (LRep.one r1)<|.cons (LRep.one r2)<|.cons (LRep.one r3) .nil
  .have:=hb.one x0.1;simp only[Tm.bk,FT_sum];show _<=b (.agg [x0.1,x1.1,x2.1,x3.1]);have h9:=hb.agg [x0.1,x1.1,x2.1,x3.1];simp only[hb.cons,hb.nil] at h9;omega
theorem none_own {Y:Nat->Prop}(hY:∀b,¬Y b){Hs:List AObj}:(λb=>Y b\/Own (λo=>Hs.getD o .gone) (λ_=>none) b)=Z3:=by
 funext b
 refine propext ⟨λh=>?_,λh=>h.elim⟩;rcases h with h|⟨o,_,h⟩
 .exact(hY b h).elim
 .cases h
abbrev β0:Nat->Option Nat:=λ_=>none
theorem gj {b:DataW H->Nat} {bs:List (DataW H)->Nat} (hb:Bulk b bs) {T:TypeId} {f0 f1 f2 f3:Field} (hT:TmTy P T f0 f1 f2 f3) {r:Reach} {base:Nat} {v:Value} {d:DataW H} {ps:List MemPlace}
  (hv:Value.okWide P w r base T v) (hd:DataW.Trod enc P w 0 (λ_=>true) true T v d ps):∃t:Tm,TRep w Z3 β0 (aT t) v/\t.bk<=b d:=by
 obtain⟨cs,rfl,_⟩:=okWide_struct hT.str hv;obtain⟨fuel,hf⟩:=hd;obtain⟨t,h1,h2⟩:=rd_term hb hT fuel _ _ hf;refine⟨t,⟨cs.toList,zb,?_⟩,h2⟩;rw[cH] at h1;have h1:LRep (FRep w Z3) [.int .i64 t.k,.str t.s,.int .i64 t.n,.sl false 4<|FTs t.l] cs.toList:=h1;exact h1.map (g:=λx=>WV.a<|.fz x) λc u _ h=>.a _ _<|.fz _ _ h
theorem nU {w':World}{foot:Nat->Prop}(g:Good w foot w')(hf:∀b,¬foot b)(may:MemPlace->Prop):w.keptBut w' may:=by
 refine⟨g.os,g.output,λi hi=>?_⟩;rw[g.blk i hi<|hf i];exact(World.keptBut_refl w may).2.2 i hi
theorem ic {w':World}{foot:Nat->Prop}(g:Good w foot w')(hf:∀b,¬foot b){p:MemPlace}(hp:p.block<w.heap.size):w.sameAt w' p:=by
 cases p with
 |cell b o=>exact World.cell?_of_block (a:=⟨b,o,none⟩)<|g.blk b hp<|hf b
 |map b=>exact g.blk b hp<|hf b
theorem jx (hl:laidOutB P=true){w':World}{sp:Nat->Bool}:∀ {ts:List TypeId} {vs:List Value} {ds:List (DataW H)} {p:List MemPlace},DataW.TrodAll enc P w 0 (λ_=>true) true ts vs ds p->
  (∀t∈ts,P.readableRec t=true/\t<P.types.size)->(∀x∈p,w.sameAt w' x)->(∀x∈p,sp x.block=true)->DataW.TrodAll enc P w' 0 sp true ts vs ds p
 |[],_,_,_,h,_,_,_=>by
  obtain⟨rfl,rfl,rfl⟩:=trodAll_nil h;exact trodAll_mk0
 |t::ts,_,_,_,h,ht,hs,hsp=>by
  obtain⟨v,vs',d,ds',p,q,rfl,rfl,rfl,⟨n,h1⟩,h2⟩:=trodAll_cons h;have hr:=(ht t r7).1
  exact⟨p,q,⟨n,DataW.trod_stays (kids_book hl hr) (book_sized hr) (λh=>by cases h) ⟨(ht t r7).2,book_self t⟩ h1 (λx hx=>hs x<|sE _ hx) λx hx=>hsp x<|sE _ hx⟩,
   jx hl h2 (λu hu=>ht u<|r9 _ hu) (λx hx=>hs x<|tH _ hx) (λx hx=>hsp x<|tH _ hx),rfl⟩
theorem mU (hl:laidOutB P=true) {f:Func} {s:ChangeSpec} {apart fresh handsOn again:Bool} {w':World} {args:Array Value} {ds gs:List (DataW H)} {before:List MemPlace} {foot:Nat->Prop} {tb:TypeId}
  (hW:DataW.Whole enc P f.params.toList s.vars apart w args.toList ds gs before) (hv:s.vars=[]) (hs:∀ds':List<|DataW H,ds'.length=ds.length->s.fn H ds'={results:=[.lit<|.bool true],args:=ds'})
  (ht:∀t∈f.params.toList,P.readableRec t=true/\t<P.types.size) (hr:f.resultTypes= #[tb]) (hb:P.underlying tb=some .bool) (g:Good w foot w') (hf:∀b,¬foot b):
  s.post enc P f apart fresh handsOn again w args (.bool true) w':=by
 have hlt:=hW.lt;obtain⟨p,q,h1,h2,he,hz,hn⟩:=hW;rw[hv] at h2;obtain⟨rfl,rfl⟩:=trodVars_none h2;rw[rp] at he;subst he;have hold:∀x∈before,(λb=>decide (b<w.heap.size)) x.block=true:=λx hx=>by simpa using hlt x hx
 have hfn:=hs (ds++[]) zb
 have hargs:∀sp:Nat->Bool,(∀x∈before,sp x.block=true)->DataW.TrodAll enc P w' 0 sp true f.params.toList args.toList (s.fn H<|ds++[]).args before:=λsp hsp=>by
  rw[hfn,rp];exact jx hl h1 ht (λx hx=>ic g hf<|hlt x hx) hsp
 have hres:∀(b:Nat) (sp:Nat->Bool) (hd:Bool),DataW.TrodAll enc P w' b sp hd f.resultTypes.toList ((Value.bool true).resultList f.resultTypes.size) (s.fn H<|ds++[]).results []:=λb sp hd=>by
  rw[hfn,hr];exact trodAll_mk1 ⟨1,by simp[DataW.trod,Value.cells,hb]⟩
 have hvars:∀sp:Nat->Bool,DataW.TrodVars enc P w' sp s.vars (s.fn H<|ds++[]).vars []:=λsp=>by
  rw[hfn,hv];rfl
 refine⟨ds,[],before,[],before,[],⟨before,[],h1,by rw[hv];rfl,zb,hz,hn⟩,hres _ _ _,hargs _ hold,hvars _,World.keptBut_mono (λx hx=>⟨hx,?_⟩) (nU g hf (· ∈before)),λ_=>?_⟩
 .exact zo hx
 .refine⟨ok_one hr rfl (okWide_bool_mk hb _),_,_,([]++before)++[],⟨[]++before,[],trodAll_append (hargs _ λ_ _=>rfl)<|hres _ _ _,hvars _,rfl,?_,?_⟩,?_⟩
  .intro b off hp;have hp:MemPlace.cell b off∈before:=zo hp
   have hb:=hlt _ hp
   have:w'.frozen? ⟨b,off,none⟩=w.frozen? ⟨b,off,none⟩:=by
    unfold World.frozen?;rw[g.blk b hb<|hf b]
   rw[this];exact hz b off hp
  .intro ha;simpa using hn ha
  .intro x hx _;exact zo hx
theorem law_true {f:FuncId}{args:List TV}(hgl:Gl P w Z3)(h:AC P f args [] (cb true) []){vals:List Value}(hv:LRep (TRep w Z3 β0) args vals):
  Calls P f vals.toArray w λe w'=>e=.returned (.bool true)/\∃foot,(∀b,¬foot b)/\Good w foot w':=by
 have hX:(λb=>(λ_:Nat=>False) b\/Own (λo=>([]:List AObj).getD o .gone) β0 b)=Z3:=none_own λ_ h=>h;refine(h.2.2 w vals β0 (λ_=>False) (λo b h=>by cases h) (λb h=>h.elim) (hgl.sub λb ⟨o,h5,_⟩=>by simp[isLive] at h5) ⟨λo b h _=>by simp[isLive] at h,λo h=>by simp[isLive] at h,λo o' b h=>by simp[isLive] at h,λo b h=>by cases h⟩<|by rw[hX];exact hv).mono λe w' ⟨v,β',h1,h2,h3,h4,_⟩=>?_;subst h1;cases h4 with
 |a _ _ h4=>
  cases h4 with
  |fz _ _ h4=>
   cases h4;exact⟨rfl,_,λb ⟨o,h5,_⟩=>by simp[isLive] at h5,h2⟩
end
end Go.AM
namespace Go.AM
open Go.ChangeShapes Go.WideShapes Go.ChangeAt Go.RowKit
end Go.AM
namespace Go.AM
open Go.ChangeShapes Go.WideShapes Go.ChangeAt Go.RowKit
section
variable {H:Type} {enc:TypeId×Value->H} {P:Program} {w:World}
theorem oU {b:DataW H->Nat} {bs:List (DataW H)->Nat} (hb:Bulk b bs) {T S:TypeId} {n:Nat} {α:Type} {F:α->List FV} {sz:α->Nat} (hF:∀a,(F a).length=n) (hn:P.cellsOf T=n) (hn0:0<n) (hz:∀a,1<=sz a)
  (h1:∀k,RdN enc P w b k T F sz) (hS:P.underlying S=some (.slice T)) {r:Reach} {base:Nat} {v:Value} {d:DataW H} {ps:List MemPlace}
  (hv:Value.okWide P w r base S v) (hd:DataW.Trod enc P w 0 (λ_=>true) true S v d ps):∃l:List α,TRep w Z3 β0 (.c<|.a<|.fz<|.sl false n<|l.map F) v/\X9 sz l+1<=b d:=by
 obtain⟨a,len,cap,rfl⟩:=okWide_slice hS hv;obtain⟨fuel,hf⟩:=hd;obtain⟨l,h1,h2⟩:=dV hb.cons hb.one hb.slice hS hn hn0 hF (λk _=>h1 k) _ _ hf;have h1:LRep (FRep w Z3) [.sl false n<|l.map F] [_]:=h1;exact⟨l,.a _ _<|.fz _ _ h1.one,h2⟩
end
end Go.AM
namespace Go.AM
open Go.ChangeShapes Go.WideShapes Go.ChangeAt Go.RowKit
mutual
inductive Cd where
 |mk (nm:List UInt8) (ar fr vs sl:Int) (ins:List In1)
inductive In1 where
 |mk (k a:Int) (t:Tm) (l:List Tm) (c:List Cd)
end
namespace Cd
def nm:Cd->List UInt8|.mk x _ _ _ _ _=>x
def fr:Cd->Int|.mk _ _ x _ _ _=>x
def vs:Cd->Int|.mk _ _ _ x _ _=>x
def sl:Cd->Int|.mk _ _ _ _ x _=>x
end Cd
namespace In1
def k:In1->Int|.mk x _ _ _ _=>x
def a:In1->Int|.mk _ x _ _ _=>x
def t:In1->Tm|.mk _ _ x _ _=>x
def l:In1->List Tm|.mk _ _ _ x _=>x
def c:In1->List Cd|.mk _ _ _ _ x=>x
end In1
instance:Inhabited Cd:=⟨.mk [] 0 0 0 0 []⟩
instance:Inhabited In1:=⟨.mk 0 0 default [] []⟩
end Go.AM
namespace Go.AM
abbrev FR (r:Option Nat):Fence:={Fence.wide with round:=r}
def vD (ops:Array Oper):Bool:=ops.all λo=>match o.op with|.defer _=>false|_=>true
theorem KD {ops:Array Oper}(h:vD ops=true):∀(i:Nat) (o:Oper),ops[i]?=some o->∀c,o.op ≠ .defer c:=λi o ho c e=>by
 have:=sj.1 h o<|tT ho
 rw[e] at this;cases this
theorem XH {ops:Array Oper}(h:vD ops=true):∀o∈ops.toList,∀c,o.op ≠ .defer c:=λo ho=>by
 obtain⟨i,hi⟩:=sP ho;exact KD h i o (zo hi)
theorem calls_in {r:Option Nat}{n:Nat}{P:Program}{f:FuncId}{args:Array Value}{w:World}{R:Ending->World->Prop}(h:Calls P f args w R):CallsIn (FR r) n P f args w R:=by
 have:=(callsIn_wide (n:=n)).2 h;exact this
theorem rows_in {r:Option Nat}{n:Nat}{P:Program}{row:String}{args:Array Value}{w:World}{R:Value->World->Prop}(h:Rows P row args w R):RowsIn (FR r) n P row args w R:=
 λc cs _=>let ⟨v,w',hr,s⟩:=h c cs;⟨v,w',hr,stepsIn_wide.2 s⟩
theorem op_in {r:Option Nat}{n:Nat}{P:Program}{o:Oper}{a:Act}{w:World}{K:Act->World->Prop}{Q:Exit->Act->World->Prop}(hnd:∀c,o.op ≠ .defer c)(h:o.wp P a w K Q):o.wpIn (FR r) n P a w K Q:=by
 refine⟨λ_ _=>trivial,?_⟩;rw[Oper.semAt_eq _ _ _ hnd];unfold Oper.wp at h;generalize (execOp a.eval o).run P w=res at h ⊢;cases res with
 |ok nx w'=>cases nx with
  |value v=>exact h
  |skip=>exact h
  |defer d=>exact h
  |enter f args=>exact⟨λhd=>by simp[FR,Fence.wide] at hd,calls_in h⟩
  |row row args=>exact⟨λhd=>by simp[FR,Fence.wide] at hd,rows_in h⟩
  |_=>exact h.elim
 |halt hl w'=>cases hl with
  |panic v=>exact h
  |_=>exact h.elim
theorem gX {r:Option Nat}{n:Nat}{P:Program}{ops:Array Oper}{Q:Exit->Act->World->Prop}(hq:¬LetsOut Q):∀ {l:List Oper} {a:Act} {w:World},(∀o∈l,∀c,o.op ≠ .defer c)->wpList P ops Q l a w->wpListIn (FR r) n P ops Q l a w
 |[],_,_,_,h=>h
 |o::rest,a,w,hd,h=>by
  have ih:∀a w,wpList P ops Q rest a w->wpListIn (FR r) n P ops Q rest a w:=λa w h=>gX hq (λo ho=>hd o<|r9 _ ho) h;unfold wpList at h;unfold wpListIn;split at h
  .rename_i hw;rw[oX hw];rcases h with h|⟨_,h⟩
   .exact op_in (hd o r7)<|Oper.wp_mono ih h
   .exact absurd h hq
  next hw=>rw[oV hw];exact⟨λ_ _=>trivial,ih _ _ h⟩
theorem dW {r:Option Nat}{n:Nat}{P:Program}{ops:Array Oper}{Q:Exit->Act->World->Prop}(hq:¬LetsOut Q)(hd:∀(i:Nat) (o:Oper),ops[i]?=some o->∀c,o.op ≠ .defer c):∀ {fuel:Nat} {listed:Array Bool} {a:Act} {w:World},
  wpAny P .any ops Q fuel listed a w->wpAnyIn (FR r) n P .any ops Q fuel listed a w
 |0,_,_,_,h=>h
 |fuel+1,listed,a,w,h=>by
  refine⟨h.1,λi hi=>?_⟩;have h2:=h.2 i hi;unfold wpOp at h2;unfold wpOpIn;cases ho:ops[i]? with
  |none=>rw[ho] at h2;exact dW hq hd h2
  |some o=>
   rw[ho] at h2;simp only at h2 ⊢;split at h2
   .rename_i hw;rw[oX hw];rcases h2 with h2|⟨_,h2⟩
    .exact op_in (hd i o ho)<|Oper.wp_mono (λa w h=>dW hq hd h) h2
    .exact absurd h2 hq
   next hw=>rw[oV hw];exact⟨λ_ _=>trivial,dW hq hd h2⟩
section
variable {P:Program} {w0:World} {foot:Nat->Prop} {Y:Nat->Prop} {pin:Nat->Option (Option Nat)}
theorem JB {r:Option Nat} {n id:Nat} {ops:Array Oper} {dr:Bool} {s:St} {β:Nat->Option Nat} {a:Act} {w:World} {Q:Exit->Act->World->Prop} {R:St->Prop} (hm:P.follows .mixedOrders=true) (hnd:vD ops=true) (hq:¬LetsOut Q) (hdst:dstB ops a.tmps.size=true)
  (hl:lex P ops s.nx ops.toList 0 s.env s.heap [] λe h tr=>(dr=true->WH ops tr=true)/\R ⟨e,h,s.nx+32*ops.size⟩)
  (hR:RelF P w0 foot Y pin (look s.env) (hook s.heap) β a w) (hb:∀k,Occ pin β k->k<s.nx)
  (hQ:∀s' a' w' β',R s'->a'.tmps.size=a.tmps.size->RelF P w0 foot Y pin (look s'.env) (hook s'.heap) β' a' w'->(∀k,Occ pin β' k->k<s'.nx)->Q .normal a' w'):(Code.region id ops dr).wpIn (FR r) n P Q a w:=by
 have hdst':∀(j:Nat) (q:Oper) (d:Nat),ops[j]?=some q->q.dst=some d->d<a.tmps.size:=by
  intro j q d hq hd;have:=sj.1 hdst q<|tT hq
  rw[hd] at this;exact zo this
 obtain⟨δs,e',h',tr',hch,he,hh,htr,hdraw,hRR⟩:=jE _ _ _ _ _ hl;rw[rp] at htr
 have hfin:∀a' w' β',a'.tmps.size=a.tmps.size->RelF P w0 foot Y pin (endE (look s.env) δs) (endH (hook s.heap) δs) β' a' w'->(∀k,Occ pin β' k->k<s.nx+32*ops.size)->Q .normal a' w':=by
  intro a' w' β' h1 h2 h3;refine hQ _ a' w' β' hRR h1 ?_ h3;show RelF P w0 foot Y pin (look e') (hook h') β' a' w';rw[he,hh];exact h2
 cases dr with
 |false=>
  refine wpIn_region_list<|gX hq (XH hnd)<|qa hdst' ops.toList 0 _ _ δs β a w (λo ho=>?_) hch rfl hR (zo hb) λa' w' β' h1 _ h2 h3=>hfin a' w' β' h1 h2<|zo h3
  obtain⟨j,hj⟩:=sP ho;exact⟨j,zo hj⟩
 |true=>
  refine wpIn_region_any hm<|dW hq (KD hnd) ?_
  have hR':RelF P w0 foot Y pin (look s.env) (hook s.heap) β a {w with drawn:=w.drawn+1}:=by
   have g:Goes w {w with drawn:=w.drawn+1} (XO Y (hook s.heap) β) (XO Y (hook s.heap) β) β β:=⟨r6 _,λb hb _=>⟨rfl,hb⟩,λ_ _=>rfl,λo b hb=>⟨hb,hR.objs.lt o b hb⟩⟩
   exact⟨hR.good.drew,λi=>(hR.env i).goes g,⟨λo b h1 h2=>(hR.objs.rep o b h1 h2).goes g rfl,hR.objs.has,hR.objs.inj,hR.objs.lt⟩,hR.own,hR.defers,hR.ylt,hR.pins,hR.gl⟩
  have hfalse:∀i,(Array.replicate ops.size false).getD i false=false:=by
   intro i;by_cases hi:i<ops.size
   .simp[hi]
   .simp[hi]
  refine XF (w0:=w0) (foot:=foot) (Y:=Y) hch htr (hdraw rfl) hdst' hfin ops.size _ β a _ zb ?_ (λj o e _ h2=>by rw[hfalse] at h2;cases h2) rfl (kN hR' (λt=>?_) λx=>?_) λk hk=>.inl<|hb k hk
  .have:((List.range ops.size).filter λi=> !(Array.replicate ops.size false).getD i true)=List.range ops.size:=by
    apply hJ.2;intro i hi;simp only[List.mem_range] at hi;simp[hi]
   rw[this];simp
  .have key:∀n,eD (look s.env) (λj=>δs.getD j ⟨none,.any,[],[]⟩) (λj=>(Array.replicate ops.size false).getD j false) n=look s.env:=by
    intro n;induction n with
    |zero=>rfl
    |succ n ih=>simp only[eD];rw[oV<|by rw[hfalse];simp];exact ih
   rw[key]
  .have key:∀n,hD (hook s.heap) (λj=>δs.getD j ⟨none,.any,[],[]⟩) (λj=>(Array.replicate ops.size false).getD j false) n=hook s.heap:=by
    intro n;induction n with
    |zero=>rfl
    |succ n ih=>simp only[hD];rw[oV<|by rw[hfalse];simp];exact ih
   rw[key]
end
theorem J5 {P:Program} {w0:World} {foot Y:Nat->Prop} {pin:Nat->Option (Option Nat)} {r:Option Nat} {n id:Nat} {ops:Array Oper} {s:St} {β:Nat->Option Nat} {a:Act} {w:World} {Q:Exit->Act->World->Prop} {R:St->Prop} (hnd:vD ops=true) (hq:¬LetsOut Q) (hdst:dstB ops a.tmps.size=true)
  (hl:lex P ops s.nx ops.toList 0 s.env s.heap [] λe h _=>R ⟨e,h,s.nx+32*ops.size⟩)
  (hR:RelF P w0 foot Y pin (look s.env) (hook s.heap) β a w) (hb:∀k,Occ pin β k->k<s.nx)
  (hQ:∀s' a' w' β',R s'->a'.tmps.size=a.tmps.size->a'.defers=a.defers->RelF P w0 foot Y pin (look s'.env) (hook s'.heap) β' a' w'->(∀k,Occ pin β' k->k<s'.nx)->Q .normal a' w'):(Code.region id ops false).wpIn (FR r) n P Q a w:=by
 have hdst':∀(j:Nat) (q:Oper) (d:Nat),ops[j]?=some q->q.dst=some d->d<a.tmps.size:=by
  intro j q d hq hd;have:=sj.1 hdst q<|tT hq
  rw[hd] at this;exact zo this
 obtain⟨δs,e',h',tr',hch,he,hh,_,hRR⟩:=jE _ _ _ _ _ hl;refine wpIn_region_list<|gX hq (XH hnd)<|qa hdst' ops.toList 0 _ _ δs β a w (λo ho=>?_) hch rfl hR (zo hb) λa' w' β' h1 hd h2 h3=>?_
 .obtain⟨j,hj⟩:=sP ho;exact⟨j,zo hj⟩
 .refine hQ _ a' w' β' hRR h1 hd ?_ (zo h3);show RelF P w0 foot Y pin (look e') (hook h') β' a' w';rw[he,hh];exact h2
def AsgS (P:Program)(n:Nat)(A:Code)(s:St)(R:St->Prop):Prop:=
 ∀(w0:World) (foot Y:Nat->Prop) (pin:Nat->Option (Option Nat)) (r:Option Nat) (n':Nat) (β:Nat->Option Nat) (a:Act) (w:World) (Q:Exit->Act->World->Prop),¬LetsOut Q->a.tmps.size=n->
  RelF P w0 foot Y pin (look s.env) (hook s.heap) β a w->(∀k,Occ pin β k->k<s.nx)->
  (∀s' a' w' β',R s'->a'.tmps.size=n->a'.defers=a.defers->RelF P w0 foot Y pin (look s'.env) (hook s'.heap) β' a' w'->(∀k,Occ pin β' k->k<s'.nx)->Q .normal a' w')->A.wpIn (FR r) n' P Q a w
theorem AsgS.region {P:Program} {n id:Nat} {ops:Array Oper} {s:St} {R:St->Prop} (hnd:vD ops=true) (hdst:dstB ops n=true)
  (hl:lex P ops s.nx ops.toList 0 s.env s.heap [] λe h _=>R ⟨e,h,s.nx+32*ops.size⟩):AsgS P n (.region id ops false) s R:=by
 intro w0 foot Y pin r n' β a w Q hq ha hR hb hQ;subst ha;exact J5 hnd hq hdst hl hR hb hQ
theorem AsgS.seq {P:Program}{n:Nat}{A A':Code}{s:St}{R R':St->Prop}(h1:AsgS P n A s R)(h2:∀s',R s'->AsgS P n A' s' R'):AsgS P n (.seq A A') s R':=by
 intro w0 foot Y pin r n' β a w Q hq ha hR hb hQ;refine wpIn_seq<|h1 w0 foot Y pin r n' β a w _ (λ⟨_,_,h⟩=>hq ⟨_,_,h⟩) ha hR hb λs' a' w' β' k1 k2 k3 k4 k5=>?_
 exact h2 s' k1 w0 foot Y pin r n' β' a' w' Q hq k2 k4 k5 λs2 a2 w2 β2 j1 j2 j3 j4 j5=>hQ s2 a2 w2 β2 j1 j2 (j3.trans k3) j4 j5
theorem AsgS.mono {P:Program}{n:Nat}{A:Code}{s:St}{R R':St->Prop}(h1:AsgS P n A s R)(h2:∀s',R s'->R' s'):AsgS P n A s R':=
 λw0 foot Y pin r n' β a w Q hq ha hR hb hQ=>h1 w0 foot Y pin r n' β a w Q hq ha hR hb λs' a' w' β' k1=>hQ s' a' w' β'<|h2 s' k1
section
variable {P:Program} {n m:Nat} {c:Code} {Q:AExit->St->Prop} {s:St}
def AwpR (P:Program)(n m:Nat)(c:Code)(Q:AExit->St->Prop)(s:St):Prop:=
 ∀(l:Nat) (w0:World) (foot Y:Nat->Prop) (pin:Nat->Option (Option Nat)) (β:Nat->Option Nat) (a:Act) (w:World),(∀o b,pin o=some b->o<m)->a.tmps.size=n->RelF P w0 foot Y pin (look s.env) (hook s.heap) β a w->(∀k,Occ pin β k->k<s.nx)->
  c.wpIn (FR<|some l) 0 P (Lift P w0 foot Y pin n Q) a w
theorem AwpR.mono {Q':AExit->St->Prop}(h:AwpR P n m c Q s)(hq:∀e s,Q e s->Q' e s):AwpR P n m c Q' s:=
 λl w0 foot Y pin β a w hm hn hR hb=>wpIn_mono (h l w0 foot Y pin β a w hm hn hR hb)<|Lift.mono hq
theorem AwpR.skip (h:Q .normal s):AwpR P n m .skip Q s:=λ_ _ _ _ _ β _ _ _ hn hR hb=>wpIn_skip ⟨s,β,h,hn,hR,hb⟩
theorem AwpR.ret (h:Q .ret s):AwpR P n m .ret Q s:=λ_ _ _ _ _ β _ _ _ hn hR hb=>wpIn_ret ⟨s,β,h,hn,hR,hb⟩
theorem AwpR.exit {i:Nat}(h:Q (.exit i) s):AwpR P n m (.exit i) Q s:=λ_ _ _ _ _ β _ _ _ hn hR hb=>wpIn_exit ⟨s,β,h,hn,hR,hb⟩
theorem AwpR.seq {c₁ c₂:Code}(h:AwpR P n m c₁ (Xs (AwpR P n m c₂ Q) Q) s):AwpR P n m (.seq c₁ c₂) Q s:=λl w0 foot Y pin β a w hm hn hR hb=>by
 refine wpIn_seq<|wpIn_mono (h l w0 foot Y pin β a w hm hn hR hb) λe a' w' hq=>?_
 cases e with
 |normal=>obtain⟨s',β',h1,h2,h3,h4⟩:=hq;exact h1 l w0 foot Y pin β' a' w' hm h2 h3 h4
 |exit i=>exact hq
 |ret=>exact hq
 |_=>exact hq.elim
theorem AwpR.cond {x:Operand}{c₁ c₂:Code}{t:Bool}(hc:ev s.env x=.c (.a<|.fz<|.bool t))(ht:t=true->AwpR P n m c₁ Q s)(hf:t=false->AwpR P n m c₂ Q s):AwpR P n m (.cond x c₁ c₂) Q s:=λl w0 foot Y pin β a w hm hn hR hb=>by
 have hv:=hR.eval x;rw[<-mH,hc] at hv;refine wpIn_cond (t:=t) hv.bool_inv ?_;cases t with
 |true=>exact ht rfl l w0 foot Y pin β a w hm hn hR hb
 |false=>exact hf rfl l w0 foot Y pin β a w hm hn hR hb
theorem AwpR.block {i:Nat}(h:AwpR P n m c (yj i Q) s):AwpR P n m (.block i c) Q s:=λl w0 foot Y pin β a w hm hn hR hb=>by
 refine wpIn_block<|wpIn_mono (h l w0 foot Y pin β a w hm hn hR hb) λe a' w' hq=>?_
 cases e with
 |normal=>exact hq
 |exit j=>
  obtain⟨s',β',h1,h2⟩:=hq;simp only[yj] at h1;simp only[Exit.inBlock];split at h1
  next hj=>rw[oX hj];exact⟨s',β',h1,h2⟩
  next hj=>rw[oV hj];exact⟨s',β',h1,h2⟩
 |ret=>exact hq
 |_=>exact hq.elim
theorem lift_out {w0:World}{foot Y:Nat->Prop}{pin:Nat->Option (Option Nat)}:¬LetsOut (Lift P w0 foot Y pin n Q):=λ⟨_,_,h⟩=>h
theorem AwpR.region {i:Nat} {ops:Array Oper} {d:Bool} (hP:P.follows .mixedOrders=true) (hd:dstB ops n=true) (hnd:vD ops=true)
  (hl:lex P ops s.nx ops.toList 0 s.env s.heap [] λe h tr=>(d=true->WH ops tr=true)/\Q .normal ⟨e,h,s.nx+32*ops.size⟩):AwpR P n m (.region i ops d) Q s:=λl w0 foot Y pin β a w _ hn hR hb=>by
 subst hn;exact JB (R:=Q .normal) hP hnd lift_out hd hl hR hb λs' a' w' β' h1 h2 h3 h4=>⟨s',β',h1,h2,h3,h4⟩
theorem AwpR.look {e1 e2:Env}{h:AHeap}{nx:Nat}(he:look e1=look e2)(hA:AwpR P n m c Q ⟨e1,h,nx⟩):AwpR P n m c Q ⟨e2,h,nx⟩:=λl w0 foot Y pin β a w hm hn hR hb=>
 hA l w0 foot Y pin β a w hm hn (by show RelF _ _ _ _ _ (Go.AM.look e1) _ _ _ _;rw[he];exact hR) hb
theorem AwpR.uneq (h:AwpR P n m c (eqQ Q) s):AwpR P n m c Q s:=λl w0 foot Y pin β a w hm hn hR hb=>by
 refine wpIn_mono (h l w0 foot Y pin β a w hm hn hR hb) λe a' w' hq=>?_
 have key:∀x,At P w0 foot Y pin n (eqQ Q x) a' w'->At P w0 foot Y pin n (Q x) a' w':=by
  rintro x ⟨s',β',⟨e2,h1,h2⟩,h3,h4,h5⟩;exact⟨_,β',h2,h3,by show RelF _ _ _ _ _ (Go.AM.look e2) _ _ _ _;rw[h1];exact h4,h5⟩
 cases e with
 |normal=>exact key _ hq
 |exit i=>exact key _ hq
 |ret=>exact key _ hq
 |_=>exact hq.elim
end
def wB:Code->Bool
 |.skip=>true
 |.ret=>true
 |.exit _=>true
 |.seq a b=>wB a&&wB b
 |.cond _ a b=>wB a&&wB b
 |.block _ c=> !isLoop c&&wB c
 |.region _ ops _=>vD ops
 |_=>false
section
variable {P:Program} {sh:FuncId->List Sh} {n m:Nat}
theorem regR_inv (hP:P.follows .mixedOrders=true){i:Nat}{ops:Array Oper}{d:Bool}{K Q:AExit->St->Prop}{s:St}(hnd:vD ops=true)(hk:∀e s,K e s->Q e s)(h:regV P sh n ops d K s):AwpR P n m (.region i ops d) Q s:=by
 unfold regV at h;split at h
 .rename_i hd;refine AwpR.uneq<|AwpR.region hP hd hnd ?_
  have h1:=wQ rfl h;refine kP ?_ h1;rintro e1 h1 tr1 ⟨e2,he,hk2⟩;split at hk2
  next hb=>refine⟨λhd2=>?_,e2,he,hk _ _ hk2⟩;subst hd2;exact zo hb
  .exact hk2.elim
 .exact h.elim
theorem vF (hP:P.follows .mixedOrders=true){G:Nat->St->Prop}:∀ {c:Code} {K Q:AExit->St->Prop} {s:St},wB c=true->(∀e s,K e s->Q e s)->runV P sh n m [] G c K s->AwpR P n m c Q s
 |.skip,K,Q,s,_,hk,h=>AwpR.skip<|hk _ _ h
 |.ret,K,Q,s,_,hk,h=>AwpR.ret<|hk _ _ h
 |.exit i,K,Q,s,_,hk,h=>AwpR.exit<|hk _ _ h
 |.seq a b,K,Q,s,hp,hk,h=>by
  simp only[wB,oZ] at hp;refine AwpR.seq<|vF hP hp.1 (λe s hs=>?_) h
  cases e with
  |normal=>exact vF hP hp.2 hk hs
  |exit i=>exact hk _ s hs
  |ret=>exact hk _ s hs
 |.cond x a b,K,Q,s,hp,hk,h=>by
  simp only[wB,oZ] at hp;unfold runV condV at h;split at h
  .rename_i t ht;split at h
   .rename_i tt;have hsame:∀y,t=y->look ((tt,bV y)::s.env)=look s.env:=λy hy=>Yg (by simp only[ev] at ht;rw[ht,hy];rfl);cases t with
    |true=>exact AwpR.cond ht (λ_=>AwpR.look (hsame _ rfl)<|vF hP hp.1 hk h) (λe=>by cases e)
    |false=>exact AwpR.cond ht (λe=>by cases e) λ_=>AwpR.look (hsame _ rfl)<|vF hP hp.2 hk h
   .cases t with
    |true=>exact AwpR.cond ht (λ_=>vF hP hp.1 hk h) (λe=>by cases e)
    |false=>exact AwpR.cond ht (λe=>by cases e) λ_=>vF hP hp.2 hk h
  .exact h.elim
 |.block i c,K,Q,s,hp,hk,h=>by
  simp only[wB,oZ,sX] at hp;unfold runV at h;rw[hp.1] at h;exact AwpR.block<|vF hP hp.2 (xg hk) h
 |.region i ops d,K,Q,s,hp,hk,h=>by
  unfold runV at h;simp only[ya,tE] at h;exact regR_inv hP hp hk h
 |.loop _,_,_,_,hp,_,_=>by cases hp
 |.rangeFunc ..,_,_,_,hp,_,_=>by cases hp
 |.scope _,_,_,_,hp,_,_=>by cases hp
 |.label _,_,_,_,hp,_,_=>by cases hp
 |.goto _,_,_,_,hp,_,_=>by cases hp
 |.refuse _,_,_,_,hp,_,_=>by cases hp
end
theorem AV.ren_id (x:AV):x.ren (λo=>o)=x:=by cases x<;>rfl
theorem jm {α:Type}{f:α->α}(h:∀x,f x=x)(l:List α):l.map f=l:=by
 rw[show f=id from funext h,List.map_id]
theorem WV.ren_id (x:WV):x.ren (λo=>o)=x:=by
 cases x with
 |a x=>simp only[WV.ren,AV.ren_id]
 |fn f a b=>
  simp only[WV.ren];rw[jm (λp:Bool×List AV=>by rw[jm AV.ren_id]) a,jm (λp:Bool×List AV=>by rw[jm AV.ren_id]) b]
theorem TV.ren_id (x:TV):x.ren (λo=>o)=x:=by
 cases x with
 |any=>rfl
 |c x=>simp only[TV.ren,WV.ren_id]
 |agg cs=>simp only[TV.ren];rw[jm WV.ren_id]
 |tup vs=>simp only[TV.ren];rw[jm (λp:Bool×List WV=>by rw[jm WV.ren_id]) vs]
theorem TRep.cut {w:World}{X:Nat->Prop}{β:Nat->Option Nat}{m:Nat}{x:TV}{v:Value}(h:TRep w X β x v)(hlt:x.lt m=true):TRep w X (cutβ (λo=>o) m β) x v:=by
 refine TRep.unmap (σ:=λo=>o) (m:=m) (β2:=β) (X2:=X) (λ_ _ h=>h) (λo b ho hb=>by simp only[cutβ,ho,rG];exact hb) hlt ?_;rw[TV.ren_id];exact h
section
variable {P:Program} {w0:World} {foot:Nat->Prop} {Y:Nat->Prop} {pin:Nat->Option (Option Nat)} {e:Nat->TV} {h h':Nat->AObj} {β β':Nat->Option Nat} {a:Act} {W W':World} {m0:Nat}
theorem RelF.under (hR:RelF P w0 foot Y pin e h β a W) (hlt:∀i,(e i).lt m0=true) (g:Good W (Own h β) W') (hO:Objs h' β' Y W') (hown:∀o b,isLive (h' o)->β' o=some b->Own h β b\/W.heap.size<=b)
  (hp:∀o,o<m0->β' o=β o) (hpm:∀o b,pin o=some b->o<m0):RelF P w0 foot Y pin e h' β' a W':=by
 have old:∀b,Own h β b->foot b\/w0.heap.size<=b:=λb ⟨o,h1,h2⟩=>hR.own o b h1 h2
 have gs:Goes W W' (XO Y h β) (XO Y h' β') (cutβ (λo=>o) m0 β) β':=by
  refine⟨g.size,λb hx hb=>⟨g.blk b hb λho=>hx<|.inr ho,λhx'=>?_⟩,g.shp,λo b hb=>?_⟩
  .rcases hx' with hy|⟨o,h1,h2⟩
   .grind
   .grind
  .simp only[cutβ] at hb;split at hb
   next ho=>exact⟨zd,hR.objs.lt o b hb⟩
   .cases hb
 refine⟨hR.good.trans g λb hb ho=>?_,λi=>((hR.env i).cut<|hlt i).goes gs,hO,λo b h1 h2=>?_,hR.defers.good hR.objs g,hR.ylt,λo x hx=>?_,hR.gl⟩
 .grind
 .rcases hown o b h1 h2 with h3|h3
  .grind
  .exact .inr<|rS hR.good.size h3
 .rw[hp o<|hpm o x hx];exact hR.pins o x hx
end
abbrev bk0 (S I:TypeId):Array Oper:= #[
 ⟨some 4,.load S<|.tmp 1,S, "iter.go:28", #[],none⟩,
 ⟨some 5,.call ⟨.builtin .len, #[.tmp 4], #[S]⟩,I, "iter.go:28", #[⟨0,.data⟩],none⟩,
 ⟨some 6,.binOp .sub I (.tmp 5) (.const<|.int .i64 1) I,I, "iter.go:28", #[⟨1,.data⟩],none⟩,
 ⟨some 3,.assign<|.tmp 6,I, "iter.go:28", #[⟨2,.data⟩,⟨0,.phase⟩,⟨1,.phase⟩,⟨2,.phase⟩],none⟩]
abbrev bk1 (I B:TypeId):Array Oper:= #[
 ⟨some 7,.move<|.tmp 3,I, "iter.go:28", #[],none⟩,
 ⟨some 8,.binOp .geq I (.tmp 7) (.const<|.int .i64 0) I,B, "iter.go:28", #[⟨0,.data⟩],none⟩]
abbrev bk3a (S E Y I:TypeId):List Oper:=[
 ⟨some 11,.move<|.tmp 0,Y, "iter.go:29", #[],none⟩,
 ⟨some 12,.move<|.tmp 3,I, "iter.go:29", #[],none⟩,
 ⟨some 13,.load S<|.tmp 1,S, "iter.go:29", #[],none⟩,
 ⟨some 14,.move<|.tmp 3,I, "iter.go:29", #[],none⟩,
 ⟨some 15,.indexAddr S (.tmp 13)<|.tmp 14,0, "iter.go:29", #[⟨2,.data⟩,⟨3,.data⟩],none⟩,
 ⟨some 16,.load E<|.tmp 15,E, "iter.go:29", #[⟨4,.data⟩],none⟩]
abbrev bk3b (E I B:TypeId):List Oper:=[
 ⟨some 17,.call ⟨.value<|.tmp 11, #[.tmp 12,.tmp 16], #[I,E]⟩,B, "iter.go:29", #[⟨0,.data⟩,⟨1,.data⟩,⟨5,.data⟩],none⟩,
 ⟨some 18,.unOp .not B<|.tmp 17,B, "iter.go:29", #[⟨6,.data⟩],none⟩]
abbrev bk2 (I:TypeId):Array Oper:= #[
 ⟨some 9,.move<|.tmp 3,I, "iter.go:28", #[],none⟩,
 ⟨some 10,.binOp .sub I (.tmp 9) (.const<|.int .i64 1) I,I, "iter.go:28", #[⟨0,.data⟩],none⟩,
 ⟨some 3,.assign<|.tmp 10,I, "iter.go:28", #[⟨1,.data⟩,⟨0,.phase⟩,⟨1,.phase⟩],none⟩]
abbrev bkRound (S E Y I B:TypeId):Code:=
 .seq (.seq (.region 1 (bk1 I B) false)<|.cond (.tmp 8) .skip<|.exit 0)
  (.seq (.block 1<|.seq (.region 3 (bk3a S E Y I++bk3b E I B).toArray false)<|.cond (.tmp 18) .ret .skip)<|.region 2 (bk2 I) false)
def bkBody (S E Y I B:TypeId):Code:=.seq (.region 0 (bk0 S I) false)<|.block 0<|.loop<|bkRound S E Y I B
def IsBk (P:Program)(bk:FuncId)(S E:TypeId):Prop:=xq P bk=true/\∃(fn:Func) (Y I B:TypeId),P.funcs[bk]?=some fn/\fn.body=some (bkBody S E Y I B)/\fn.ntmps=19/\fn.results= #[]
section
variable {P:Program} {n:Nat} {ops:Array Oper} {Q:Exit->Act->World->Prop} {l:List Oper} {a:Act} {w:World}
theorem yq {d:Option Nat}{op:Op}{t:TypeId}{p:String}{af:Array Edge}{v:Value}(hnd:∀c,op ≠ .defer c)(h:(execOp a.eval ⟨d,op,t,p,af,none⟩).run P w=.ok (.value v) w)(k:wpListIn Fence.wide n P ops Q l (a.put d v) w):wpListIn Fence.wide n P ops Q (⟨d,op,t,p,af,none⟩::l) a w:=by
 unfold wpListIn;refine⟨λ_ _=>trivial,?_⟩;rw[Oper.semAt_eq _ _ _ hnd,h];exact k
theorem ZF {d i:Nat}{v:Value}:(a.put (some d) v).tmps.getD i undef=if i=d/\d<a.tmps.size then v else a.tmps.getD i undef:=by
 simp only[Act.put,sc,tN]
 grind
theorem size_put {d:Option Nat}{v:Value}:(a.put d v).tmps.size=a.tmps.size:=by cases d<;>simp[Act.put]
theorem pp {d:Option Nat}{v:Value}:(a.put d v).defers=a.defers:=by cases d<;>rfl
theorem yf {t:Nat}:a.eval (.tmp t)=a.tmps.getD t undef:=rfl
theorem lx {I:TypeId}{r:Int}(x y:Operand):(do eqGuard .sub I x y (.int .i64 r) (.int .i64 1);binOp .sub I (.int .i64 r) (.int .i64 1):Sem Value).run P w=.ok (.int .i64<|IntKind.i64.wrap<|r-1) w:=by rfl
theorem run_geq {I:TypeId}{r:Int}(x y:Operand):(do eqGuard .geq I x y (.int .i64 r) (.int .i64 0);binOp .geq I (.int .i64 r) (.int .i64 0):Sem Value).run P w=.ok (.bool<|r>=0) w:=by rfl
end
structure Itf (a:Act)(yv bp:Value):Prop where
 size:a.tmps.size=19
 defers:a.defers=[]
 t0:a.tmps.getD 0 undef=yv
 t1:a.tmps.getD 1 undef=bp
theorem Itf.put {a:Act}{yv bp:Value}(h:Itf a yv bp){d:Nat}(hd:2<=d)(v:Value):Itf (a.put (some d) v) yv bp:=
 ⟨by rw[size_put];exact h.size,by rw[pp];exact h.defers,by rw[ZF,oV za];exact h.t0,by rw[ZF,oV za];exact h.t1⟩
theorem WR {P:Program}{w:World}{s:Sem Value}{v:Value}(h:s.run P w=.ok v w):(do pure (.value (<-s)):Sem Next).run P w=.ok (.value v) w:=by simp_all
section
variable {P:Program} {a:Act} {w:World} {d:Option Nat} {t I S:TypeId} {p:String} {af:Array Edge} {u v x:Value} {i j:Nat}
theorem xload (h:(Instr.loadAt S<|a.eval<|.tmp i).run P w=.ok v w):(execOp a.eval ⟨d,.load S<|.tmp i,t,p,af,none⟩).run P w=.ok (.value v) w:=WR h
theorem xlen (h:(Builtin.len_ #[S] t #[a.eval<|.tmp i]).run P w=.ok v w):(execOp a.eval ⟨d,.call ⟨.builtin .len, #[.tmp i], #[S]⟩,t,p,af,none⟩).run P w=.ok (.value v) w:=by
 have e:(execOp a.eval ⟨d,.call ⟨.builtin .len, #[.tmp i], #[S]⟩,t,p,af,none⟩).run P w=(do pure (.value (<-Builtin.len_ #[S] t #[a.eval<|.tmp i])):Sem Next).run P w:=by
  simp only[execOp,resolve,invoke,rW,sg,rI,builtin,List.map_toArray,rO,List.map_nil]
 simp_all
theorem lL:(execOp a.eval ⟨d,.move<|.tmp i,t,p,af,none⟩).run P w=.ok (.value<|a.eval<|.tmp i) w:=rfl
theorem nI:(execOp a.eval ⟨d,.assign<|.tmp i,t,p,af,none⟩).run P w=.ok (.value<|a.eval<|.tmp i) w:=rfl
theorem xbin {op:BinOp}{c:Value}(h:(do eqGuard op I (.tmp i) (.const c) (a.eval<|.tmp i) c;binOp op I (a.eval<|.tmp i) c:Sem Value).run P w=.ok v w):(execOp a.eval ⟨d,.binOp op I (.tmp i) (.const c) I,t,p,af,none⟩).run P w=.ok (.value v) w:=by
 refine Eq.trans ?_<|WR h
 rfl
theorem xnot {b:Bool}(h:a.eval (.tmp i)=.bool b):(execOp a.eval ⟨d,.unOp .not I<|.tmp i,t,p,af,none⟩).run P w=.ok (.value<|.bool (!b)) w:=by
 have h1:(Op.unary .not<|a.eval<|.tmp i).run P w=.ok (.bool (!b)) w:=by rw[h];rfl
 exact WR h1
theorem xindex (h:(Instr.indexAt S (a.eval<|.tmp i)<|a.eval<|.tmp j).run P w=.ok v w):(execOp a.eval ⟨d,.indexAddr S (.tmp i)<|.tmp j,t,p,af,none⟩).run P w=.ok (.value v) w:=WR h
end
section
variable {P:Program} {n:Nat} {Q:Exit->Act->World->Prop} {a:Act} {w:World} {S E Yt I B:TypeId} {yv bp sv ev uv:Value}
theorem Itf.same {a:Act}(h:Itf a yv bp){d:Nat}(hd:d<19)(v:Value):(a.put (some d) v).tmps.getD d undef=v:=by rw[ZF,oX ⟨rfl,by rw[h.size];exact hd⟩]
theorem zV {a:Act}{d i:Nat}(hd:i≠d)(v:Value):(a.put (some d) v).tmps.getD i undef=a.tmps.getD i undef:=by rw[ZF,oV λh=>hd h.1]
theorem bk0_in {N:Nat} (hi:Itf a yv bp) (hl:(Instr.loadAt S bp).run P w=.ok sv w) (hn:(Builtin.len_ #[S] I #[sv]).run P w=.ok (.int .i64 N) w)
  (k:∀a',Itf a' yv bp->a'.tmps.getD 3 undef=.int .i64 (IntKind.i64.wrap<|(N:Int)-1)->Q .normal a' w):(Code.region 0 (bk0 S I) false).wpIn Fence.wide n P Q a w:=by
 refine wpIn_region_list ?_;refine yq (v:=sv) zb (xload<|by rw[yf,hi.t1];exact hl) ?_;have h1:=hi.put (d:=4) za sv;have g4:=hi.same (d:=4) za sv;generalize a.put (some 4) sv=a1 at h1 g4 ⊢;refine yq (v:=.int .i64 N) zb (xlen<|by rw[yf,g4];exact hn) ?_;have h2:=h1.put (d:=5) za<|.int .i64 N
 have g5:=h1.same (d:=5) za<|.int .i64 N
 generalize a1.put (some 5) (.int .i64 N)=a2 at h2 g5 ⊢;refine yq (v:=.int .i64<|IntKind.i64.wrap<|(N:Int)-1) zb (xbin<|by rw[yf,g5];exact lx _ _) ?_;have h3:=h2.put (d:=6) za<|.int .i64<|IntKind.i64.wrap<|(N:Int)-1
 have g6:=h2.same (d:=6) za<|.int .i64<|IntKind.i64.wrap<|(N:Int)-1
 refine yq zb nI ?_;rw[yf,g6];exact k _ (h3.put za _)<|h3.same za _
theorem bk1_in {r:Int} (hi:Itf a yv bp) (h3:a.tmps.getD 3 undef=.int .i64 r)
  (k:∀a',Itf a' yv bp->a'.tmps.getD 3 undef=.int .i64 r->a'.tmps.getD 8 undef=.bool (r>=0)->Q .normal a' w):(Code.region 1 (bk1 I B) false).wpIn Fence.wide n P Q a w:=by
 refine wpIn_region_list ?_;refine yq zb lL ?_;rw[yf,h3];have h1:=hi.put (d:=7) za<|.int .i64 r
 have g7:=hi.same (d:=7) za<|.int .i64 r
 have f3:(a.put (some 7)<|.int .i64 r).tmps.getD 3 undef=.int .i64 r:=(zV za _).trans h3;refine yq (v:=.bool<|r>=0) zb (xbin<|by rw[yf,g7];exact run_geq _ _) ?_;exact k _ (h1.put za _) ((zV za _).trans f3)<|h1.same za _
theorem bk2_in {r:Int} (hi:Itf a yv bp) (h3:a.tmps.getD 3 undef=.int .i64 r)
  (k:∀a',Itf a' yv bp->a'.tmps.getD 3 undef=.int .i64 (IntKind.i64.wrap<|r-1)->Q .normal a' w):(Code.region 2 (bk2 I) false).wpIn Fence.wide n P Q a w:=by
 refine wpIn_region_list ?_;refine yq zb lL ?_;rw[yf,h3];have h1:=hi.put (d:=9) za<|.int .i64 r
 have g9:=hi.same (d:=9) za<|.int .i64 r
 generalize a.put (some 9) (.int .i64 r)=a1 at h1 g9 ⊢;refine yq (v:=.int .i64<|IntKind.i64.wrap<|r-1) zb (xbin<|by rw[yf,g9];exact lx _ _) ?_;have h2:=h1.put (d:=10) za<|.int .i64<|IntKind.i64.wrap<|r-1
 have g10:=h1.same (d:=10) za<|.int .i64<|IntKind.i64.wrap<|r-1
 refine yq zb nI ?_;rw[yf,g10];exact k _ (h2.put za _)<|h2.same za _
theorem bk3_in {r:Int} {l:Nat} {lp:Loop} {R:World->Prop} (hyv:yv=.func (.yield l) #[] #[]) (hi:Itf a yv bp) (h3:a.tmps.getD 3 undef=.int .i64 r)
  (hl:(Instr.loadAt S bp).run P w=.ok sv w) (hx:(Instr.indexAt S sv<|.int .i64 r).run P w=.ok ev w) (he:(Instr.loadAt E ev).run P w=.ok uv w) (hlp:w.heap[l]?=some (.loop lp)) (hps:lp.params.size=2)
  (hr:RoundIn Fence.wide (n-1) P l lp.fn ((lp.params.zip #[.int .i64 r,uv]).foldl (λtmps (t,a)=>tmps.setIfInBounds t a) lp.tmps) lp.assign lp.body w λe w'=>e=.returned (.bool true)/\R w')
  (k:∀a' w',Itf a' yv bp->a'.tmps.getD 3 undef=.int .i64 r->a'.tmps.getD 18 undef=.bool false->R w'->Q .normal a' w'):(Code.region 3 (bk3a S E Yt I++bk3b E I B).toArray false).wpIn Fence.wide n P Q a w:=by
 refine wpIn_region_list ?_;refine yq zb lL ?_;rw[yf,hi.t0];have h1:=hi.put (d:=11) za yv;have g11:=hi.same (d:=11) za yv;have f3:(a.put (some 11) yv).tmps.getD 3 undef=.int .i64 r:=(zV za _).trans h3;generalize a.put (some 11) yv=a1 at h1 g11 f3 ⊢;refine yq zb lL ?_;rw[yf,f3];have h2:=h1.put (d:=12) za<|.int .i64 r
 have g12:=h1.same (d:=12) za<|.int .i64 r
 replace g11:=(zV (a:=a1) (d:=12) (i:=11) za<|.int .i64 r).trans g11
 replace f3:=(zV (a:=a1) (d:=12) (i:=3) za<|.int .i64 r).trans f3
 generalize a1.put (some 12) (.int .i64 r)=a2 at h2 g12 g11 f3 ⊢;refine yq (v:=sv) zb (xload<|by rw[yf,h2.t1];exact hl) ?_;have h3:=h2.put (d:=13) za sv;have g13:=h2.same (d:=13) za sv
 replace g11:=(zV (a:=a2) (d:=13) (i:=11) za sv).trans g11
 replace g12:=(zV (a:=a2) (d:=13) (i:=12) za sv).trans g12
 replace f3:=(zV (a:=a2) (d:=13) (i:=3) za sv).trans f3
 generalize a2.put (some 13) sv=a3 at h3 g13 g12 g11 f3 ⊢;refine yq zb lL ?_;rw[yf,f3];have h4:=h3.put (d:=14) za<|.int .i64 r
 have g14:=h3.same (d:=14) za<|.int .i64 r
 replace g11:=(zV (a:=a3) (d:=14) (i:=11) za<|.int .i64 r).trans g11
 replace g12:=(zV (a:=a3) (d:=14) (i:=12) za<|.int .i64 r).trans g12
 replace g13:=(zV (a:=a3) (d:=14) (i:=13) za<|.int .i64 r).trans g13
 replace f3:=(zV (a:=a3) (d:=14) (i:=3) za<|.int .i64 r).trans f3
 generalize a3.put (some 14) (.int .i64 r)=a4 at h4 g14 g13 g12 g11 f3 ⊢;refine yq (v:=ev) zb (xindex<|by rw[yf,yf,g13,g14];exact hx) ?_;have h5:=h4.put (d:=15) za ev;have g15:=h4.same (d:=15) za ev
 replace g11:=(zV (a:=a4) (d:=15) (i:=11) za ev).trans g11
 replace g12:=(zV (a:=a4) (d:=15) (i:=12) za ev).trans g12
 replace f3:=(zV (a:=a4) (d:=15) (i:=3) za ev).trans f3
 generalize a4.put (some 15) ev=a5 at h5 g15 g12 g11 f3 ⊢;refine yq (v:=uv) zb (xload<|by rw[yf,g15];exact he) ?_;have h6:=h5.put (d:=16) za uv;have g16:=h5.same (d:=16) za uv
 replace g11:=(zV (a:=a5) (d:=16) (i:=11) za uv).trans g11
 replace g12:=(zV (a:=a5) (d:=16) (i:=12) za uv).trans g12
 replace f3:=(zV (a:=a5) (d:=16) (i:=3) za uv).trans f3
 generalize a5.put (some 16) uv=a6 at h6 g16 g12 g11 f3 ⊢;show wpListIn Fence.wide n P _ Q (bk3b E I B) a6 w;unfold bk3b wpListIn;refine⟨λ_ _=>trivial,?_⟩;rw[Oper.semAt_eq _ _ _ zb]
 have hrun:(execOp a6.eval ⟨some 17,.call ⟨.value<|.tmp 11, #[.tmp 12,.tmp 16], #[I,E]⟩,B, "iter.go:29", #[⟨0,.data⟩,⟨1,.data⟩,⟨5,.data⟩],none⟩).run P w=.ok (.round l lp.fn ((lp.params.zip #[.int .i64 r,uv]).foldl (λtmps (t,a)=>tmps.setIfInBounds t a) lp.tmps) lp.assign lp.body) w:=by
  have e1:a6.eval (.tmp 11)=.func (.yield l) #[] #[]:=by rw[yf,g11,hyv]
  have hy:=run_yield (P:=P) (w:=w) (l:=l) (r:=lp) (args:= #[.int .i64 r,uv]) hlp zd;simp only[execOp,resolve,Deferred.ofValue,e1,invoke,callFunc,rW,sg,rI,List.map_toArray,rO,List.map_nil,yf,g12,g16]
  grind
 rw[hrun];refine⟨λh=>(by simp[Fence.wide] at h),hr.mono ?_⟩;rintro e w' ⟨rfl,hw⟩;have h7:=h6.put (d:=17) za<|.bool true
 have g17:=h6.same (d:=17) za<|.bool true
 replace f3:=(zV (a:=a6) (d:=17) (i:=3) za<|.bool true).trans f3
 show wpListIn _ _ _ _ _ _ (a6.put (some 17)<|.bool true) w';refine yq (v:=.bool (!true)) zb (xnot<|by rw[yf,g17]) ?_;exact k _ _ (h7.put za _) ((zV za _).trans f3) (h7.same za _) hw
end
theorem iR {w0 w:World}{ds:List Deferred}{l:Nat}{r:Loop}{o:Obj}(m:Marks w0 w ds)(hl:w.heap[l]?=some (.loop r)):Marks w0 (w.putObj l o) ds:=by
 obtain⟨Ds,h1,h2,h3⟩:=m;refine⟨Ds,h1,h2,λD hD=>⟨(h3 D hD).1,?_⟩⟩;have h4:=(h3 D hD).2;have hne:D≠l:=λe=>zd
 rw[World.putObj_heap_other hne];exact h4
section
variable {P:Program} {w0:World} {foot:Nat->Prop} {Y:Nat->Prop} {pin pin':Nat->Option (Option Nat)} {e:Nat->TV} {h:Nat->AObj} {β:Nat->Option Nat} {a:Act} {w:World} {l:Nat} {r:Loop}
theorem RelF.turn (hR:RelF P w0 foot Y pin e h β a w)(hl:w.heap[l]?=some (.loop r))(h0:w0.heap.size<=l)(o:Obj):RelF P w0 foot Y pin e h β a (w.putObj l o):=
 RelF.calm (Calm.put (Yx hl) h0) hR (iR hR.defers hl)
theorem gl_put (hg:Gl P w foot)(hl:w.heap[l]?=some (.loop r))(o:Obj):Gl P (w.putObj l o) foot:=λk hk=>by
 obtain⟨h1,h2,h3⟩:=hg k hk;refine⟨?_,h2,by simp_all⟩;unfold Lib.TabIs World.var? at*;rw[hk] at h1 ⊢;simp only[tD] at h1 ⊢;by_cases hkl:k=l
 .grind
 .rw[World.putObj_heap_other hkl];exact h1
theorem RelF.rebase (hR:RelF P w0 foot Y pin e h β a w)(hd:a.defers=[])(hp:∀o x,pin' o=some x->β o=x)(hl:w.heap[l]?=some (.loop r))(o:Obj):
  RelF P (w.putObj l o) (Own h β) Y pin' e h β a (w.putObj l o):=by
 have c:Calm {w with heap:= #[]} w (w.putObj l o):=Calm.put (Yx hl)<|sY _
 exact⟨⟨r6 _,λ_ _ _=>rfl,λ_ _=>rfl,rfl,rfl,rfl⟩,λi=>TRep.calm c<|hR.env i,Objs.calm c hR.objs,λo b h1 h2=>.inl ⟨o,h1,h2⟩,hd▸Marks.nil _ _,λb hb=>by rw[World.putObj_size];exact hR.y b hb,hp,gl_put hR.now hl o⟩
theorem RelF.notOwn (hR:RelF P w0 foot Y pin e h β a w)(hl:w.heap[l]?=some (.loop r)):¬Own h β l:=λho=>by
 rcases hR.objs.own_heap ho with⟨us,t,h5⟩|⟨ms,ck,h5⟩<;>rw[hl] at h5<;>cases h5
end
structure Out (P:Program)(w0:World)(foot Y:Nat->Prop)(pin:Nat->Option (Option Nat))(env:Env)(m0:Nat)(a:Act)(β0:Nat->Option Nat)(l:Nat)(lp:Loop)(Hx:AHeap)(nxx:Nat)(w:World):Prop where
 ex:∃β,RelF P w0 foot Y pin (look env) (hook Hx) β a w/\(∀k,Occ pin β k->k<nxx)/\∀o,o<m0->β o=β0 o
 lp:w.heap[l]?=some (.loop lp)
theorem ld {env:Env}{m0:Nat}(h:∀p∈env,p.2.lt m0=true)(i:Nat):(look env i).lt m0=true:=by
 rcases JG (l:=env) (i:=i) with h1|h1
 .rw[h1];rfl
 .grind
section
variable {P:Program} {w0:World} {foot Y:Nat->Prop} {pin:Nat->Option (Option Nat)} {env:Env} {m0 n:Nat} {a:Act} {β0:Nat->Option Nat} {l:Nat} {lp:Loop}
variable {α:Type} {H:α->AHeap} {nx:α->Nat} {Next:α->Prop}
theorem nc {x:α} {w:World} {k p1 p2:Nat} {A body:Code} {v:TV} {uv:Value}
  {β:Nat->Option Nat} (hR:RelF P w0 foot Y pin (look env) (hook<|H x) β a w) (hb:∀k,Occ pin β k->k<nx x) (hβ:∀o,o<m0->β o=β0 o) (hlp:w.heap[l]?=some (.loop lp)) (hl0:w0.heap.size<=l) (henv:∀p∈env,p.2.lt m0=true) (hpm:∀o b,pin o=some b->o<m0) (hm0:m0<=nx x) (hmx:∀x,Next x->m0<=nx x) (hn:a.tmps.size=n)
  (htm:lp.tmps=a.tmps) (hpa:lp.params= #[p1,p2]) (has:lp.assign=A) (hbo:lp.body=body) (hst:lp.state=.ready) (hpe:lp.pending=none)
  (hp1:p1<n) (hp2:p2<n)
  (hvr:TRep w (XO Y (hook<|H x) β) β v uv)
  (hround:AsgS P n A ⟨(p2,v)::(p1,iV k)::env,H x,nx x⟩ λs=>AwpR P n m0 body (λex s'=>ex=.normal/\∃x',Next x'/\Sle m0 s' ⟨[],H x',nx x'⟩) s):
  RoundIn Fence.wide 0 P l lp.fn ((lp.params.zip #[.int .i64 k,uv]).foldl (λtmps (t,a)=>tmps.setIfInBounds t a) lp.tmps) lp.assign lp.body w (λe w'=>e=.returned (.bool true)/\∃x',Next x'/\Out P w0 foot Y pin env m0 a β0 l lp (H x') (nx x') w'):=by
 have hlw:l<w.heap.size:=(sG.1 hlp).1
 let pin':Nat->Option (Option Nat):=λo=>if o<m0 then some (β o) else none
 have hpin':∀o b,pin' o=some b->o<m0:=λo b h=>by
  grind
 have hpv:∀ {β':Nat->Option Nat},(∀o x,pin' o=some x->β' o=x)->∀o,o<m0->β' o=β o:=λhp o ho=>hp o (β o) zd;refine roundIn_of_wpIn trivial ?_;rw[has,hbo,hpa,htm];have etm:((#[p1,p2]:Array Nat).zip #[.int .i64 k,uv]).foldl (λtmps (t,a)=>tmps.setIfInBounds t a) a.tmps=(a.tmps.setIfInBounds p1<|.int .i64 k).setIfInBounds p2 uv:=zb
 rw[etm];have hsz:((a.tmps.setIfInBounds p1<|.int .i64 k).setIfInBounds p2 uv).size=n:=zd
 have hR1:RelF P w (Own (hook<|H x) β) Y pin' (look<|(p2,v)::(p1,iV k)::env) (hook<|H x) β {tmps:=(a.tmps.setIfInBounds p1<|.int .i64 k).setIfInBounds p2 uv,defers:=[]} w:=by
  refine⟨⟨r6 _,λ_ _ _=>rfl,λ_ _=>rfl,rfl,rfl,rfl⟩,λi=>?_,hR.objs,λo b h1 h2=>.inl ⟨o,h1,h2⟩,Marks.nil _ _,hR.y,λo x hx=>?_,hR.now⟩
  .simp only[look,sc,tN,Array.size_setIfInBounds];by_cases h2:p2=i
   .grind
   .simp only[h2,rN];by_cases h1:p1=i
    .subst h1;simp only[rG,(za:p1<a.tmps.size)];exact .int_mk _ _
    .simp only[h1,rN];have:=hR.env i;simp_all
  .grind
 refine hround w _ _ _ (some l) _ β _ w _ (λ⟨_,_,h⟩=>h) hsz hR1 (λo ho=>?_) λs1 a1 w1 β1 hA hs1 hd1 hR1' hb1=>?_
 .rcases ho with ho|ho
  .exact hb o<|.inl ho
  .grind
 .have hl1:w1.heap[l]?=some (.loop lp):=(hR1'.good.blk l hlw<|hR.notOwn hlp).trans hlp;refine⟨_,run_beginRound hl1 hst,?_⟩;have hR2:=hR1'.rebase (pin':=pin') hd1 hR1'.pins hl1<|.loop {lp with state:=.busy}
  refine wpIn_mono (hA l _ _ Y pin' β1 a1 _ hpin' hs1 hR2 hb1) λex a2 w2 hq=>?_;cases ex with
  |normal=>
   obtain⟨s2,β2,⟨_,x',hx',hsle⟩,h2,h3,h4⟩:=hq;obtain⟨β3,hR3,hb3⟩:=WO hsle hpin' h3;have hl1':(w1.putObj l<|.loop {lp with state:=.busy}).heap[l]?=some (.loop {lp with state:=.busy}):=World.putObj_heap_same (sG.1 hl1).1
   have hl2:w2.heap[l]?=some (.loop {lp with state:=.busy}):=(hR3.good.blk l (sG.1 hl1').1<|hR2.notOwn hl1').trans hl1'
   refine⟨_,_,run_endRound none hl2,rfl,x',hx',⟨β3,?_,λo ho=>?_,λo ho=>?_⟩,?_⟩
   .have U1:=hR.under (λi=>ld henv i) hR1'.good hR1'.objs hR1'.own (hpv hR1'.pins) hpm;have U2:=U1.turn hl1 hl0<|.loop {lp with state:=.busy}
    have U3:=U2.under (λi=>ld henv i) hR3.good hR3.objs hR3.own (λo ho=>(hpv hR3.pins o ho).trans (hpv hR1'.pins o ho).symm) hpm;exact U3.turn hl2 hl0 _
   .rcases ho with ho|ho
    .exact hb3 o<|.inl ho
    .cases hq:pin o with
     |none=>exact absurd hq ho
     |some b=>have:=hpm o b hq;have:=hmx x' hx';omega
   .exact(hpv hR3.pins o ho).trans<|hβ o ho
   .rw[World.putObj_heap_same (sG.1 hl2).1];cases lp
    grind
  |ret=>obtain⟨_,_,⟨h,_⟩,_⟩:=hq;cases h
  |exit i=>obtain⟨_,_,⟨h,_⟩,_⟩:=hq;cases h
  |goto t=>exact hq.elim
  |panic c=>exact hq.elim
  |outgrown=>exact hq.elim
end
theorem len_run {P:Program}{w:World}{X:Nat->Prop}{β:Nat->Option Nat}{t e ty:TypeId}{d:TyD}{x:TV}{u:Value}{N:Nat}{rd:List Nat}(hd:tyOf P t=some d)(hk:d.kind=.slice e)(hx:TRep w X β x u)(hl:Xl x=some (N,rd)):(Builtin.len_ #[t] ty #[u]).run P w=.ok (.int .i64 N) w:=by
 have ht:=xc hd hk;unfold Xl at hl;split at hl
 .injection hl with hl;injection hl with h1 h2;subst h1;rw[hx.nils_inv];simp[Builtin.len_,rj ht,goInt]
 .injection hl with hl;injection hl with h1 h2;subst h1
  have h1:=hx.fz_inv;cases h1 with
  |slnil=>simp[Builtin.len_,rj ht,goInt]
  |sl0 _ _ a=>simp[Builtin.len_,rj ht,goInt]
  |sl _ _ _ b off cap len f g1=>subst g1;simp[Builtin.len_,rj ht,goInt]
 .injection hl with hl;injection hl with h1 h2;subst h1
  have h1:=hx.fz_inv;cases h1 with
  |z0 _ a=>simp[Builtin.len_,rj ht,goInt]
  |z0n=>simp[Builtin.len_,rj ht,goInt]
 .injection hl with hl;injection hl with h1 h2;subst h1
  obtain⟨b,q,cap,sz,tt,_,_,_,_,_,rfl⟩|⟨rfl,rfl⟩:=hx.osl_inv
  .simp[Builtin.len_,rj ht,goInt]
  .simp[Builtin.len_,rj ht,goInt]
 .cases hl
theorem i64_id {x:Int}(h1: -9223372036854775808<=x)(h2:x<=9223372036854775807):wrap .i64 x=x:=Go.IntWalk.i64_in _ ⟨h1,h2⟩
section
variable {P:Program} {w0:World} {foot Y:Nat->Prop} {pin:Nat->Option (Option Nat)} {e:Nat->TV} {h:AHeap} {β:Nat->Option Nat} {a:Act} {w:World}
theorem RelF.load {S:TypeId}{dS:TyD}{x:TV}{u:Value}{r:TV×List Nat}(hR:RelF P w0 foot Y pin e (hook h) β a w)(hS:tyOf P S=some dS)(hx:TRep w (XO Y (hook h) β) β x u)(hl:wR dS (λo=>flat<|hook h o) x=some r):
  ∃v,(Instr.loadAt S u).run P w=.ok v w/\TRep w (XO Y (hook h) β) β r.1 v:=by
 have hf:∀o,flat (flat<|hook h o)=flat (hook h o):=λo=>vh _;have hO:=jr (h':=λo=>flat<|hook h o) hf hR.objs;rw[<-Yb (h':=λo=>flat<|hook h o) hf] at hx ⊢;exact WE (P:=P) hO hS hx hl
end
theorem itf0 (y b:Value):Itf {tmps:= #[y,b]++Array.replicate (19-(#[y,b]:Array Value).size) undef,defers:=[]} y b:=
 ⟨zb,rfl,zb,zb⟩
theorem cw {P:Program} {n m m0:Nat} {env:Env} {α:Type} {H:α->AHeap} {nx:α->Nat} {Inv:α->Prop} {idx:α->Nat} {y v:α->TV} {bk:FuncId} {S E:TypeId} {dS dE:TyD} {g:Operand} {p1 p2:Nat} {A body:Code} {Q:AExit->St->Prop} {N oc:Nat} {xs:TV} {x0:α} {rdn:List Nat}
  (hbk:IsBk P bk S E) (hS:tyOf P S=some dS) (hk:dS.kind=.slice E) (hE:tyOf P E=some dE) (hm:m<=m0) (henv:∀p∈env,p.2.lt m0=true)
  (hg:ev env g=.c (.fn (.func bk) [] [(false,[.ep oc 1 0 0])])) (hoc:oc<m0) (hnx:∀x,Inv x->m0<=nx x)
  (hbox:∀x,Inv x->∃rd,wR dS (λo=>flat<|hook (H x) o) (.c<|.a<|.ep oc 1 0 0)=some (xs,rd)) (hlen:Xl xs=some (N,rdn)) (hN:N<9223372036854775808)
  (hel:∀x k,Inv x->idx x=k+1->∃rd,xb P dS xs (iV k)=some (y x)/\wR dE (λo=>flat<|hook (H x) o) (y x)=some (v x,rd))
  (hp1:p1<n) (hp2:p2<n)
  (hround:∀x k,Inv x->idx x=k+1->AsgS P n A ⟨(p2,v x)::(p1,iV k)::env,H x,nx x⟩ λs=>AwpR P n m0 body (λex s'=>ex=.normal/\∃x',(Inv x'/\idx x'=k)/\Sle m0 s' ⟨[],H x',nx x'⟩) s)
  (hx0:Inv x0) (hi0:idx x0=N) (hdone:∀x,Inv x->idx x=0->Q .normal ⟨env,H x,nx x⟩):
  Awp P n m (.rangeFunc g #[p1,p2] A body) Q ⟨env,H x0,nx x0⟩:=λw0 foot Y pin β a w hpm hn hR hb=>by
 obtain⟨hent,fn,Yt,I,B,hfn,hbody,hnt,hres⟩:=hbk;refine(wpIn_wide (n:=0)).1<|wpIn_rangeFunc λfid _=>?_
 have hv:=hR.eval g;rw[<-mH,hg] at hv;generalize hav:a.eval g=av at hv;cases hv with
 |fn _ _ _ us vs hl1 hl2=>
 have hus:us=[]:=hl1.nil_inv;subst hus;obtain⟨bp,vs',rfl,hp,hvs⟩:=hl2.cons_inv;have hvs':vs'=[]:=hvs.nil_inv;subst hvs';obtain⟨qs,rfl,hq,h1⟩:=hp;have h1:=h1 rfl;obtain⟨bp,qs',rfl,hbp,hqs⟩:=hq.cons_inv;have hqs':qs'=[]:=hqs.nil_inv;subst hqs';have hbpR:ARep w (XO Y (hook<|H x0) β) β (.ep oc 1 0 0) bp:=hbp;have hsize:=hR.good.size
 let l:=w.heap.size+1
 let lp:Loop:={state:=.ready,pending:=none,fn:=fid,tmps:=a.tmps,params:= #[p1,p2],assign:=A,body:=body,defers:=w.heap.size}
 let w1:=(w.alloc<|.deferred<|some []).alloc<|.loop lp
 have hl1:w1.heap[l]?=some (.loop lp):=by
  have:=World.alloc_heap_new (w.alloc<|.deferred<|some [])<|.loop lp
  rwa [World.size_alloc] at this
 have hD1:w1.heap[w.heap.size]?=some (.deferred<|some []):=by
  show((w.heap.push _).push _)[w.heap.size]?=_
  grind
 have c1:Calm w0 w w1:=(Calm.alloc w0 w _ hsize).trans<|Calm.alloc w0 _ _<|by rw[World.size_alloc];omega
 have old1:∀b,b<w.heap.size->w1.heap[b]?=w.heap[b]? :=λb hb=>by
  show((w.heap.push _).push _)[b]?=_
  grind
 obtain⟨Ds,hds,hnds,hdd⟩:=hR.defers;have hm1:Marks w0 w1 a.defers:=⟨Ds,hds,hnds,λD hD=>⟨(hdd D hD).1,by rw[old1 D (sG.1 (hdd D hD).2).1];exact(hdd D hD).2⟩⟩;have hRc:RelF P w0 foot Y pin (look env) (hook<|H x0) β a w1:=RelF.calm c1 hR hm1
 have hR1:RelF P w0 foot Y pin (look env) (hook<|H x0) β {a with defers:=mark w.heap.size::a.defers} w1:=by
  refine⟨hRc.good,hRc.env,hRc.objs,hRc.own,⟨w.heap.size::Ds,by rw[hds];rfl,rY.2 ⟨λhD=>?_,hnds⟩,λD hD=>?_⟩,hRc.ylt,hRc.pins,hRc.gl⟩
  .grind
  .rcases rx.1 hD with rfl|hD
   .exact⟨hsize,hD1⟩
   .exact⟨(hdd D hD).1,by rw[old1 D (sG.1 (hdd D hD).2).1];exact(hdd D hD).2⟩
 have hO0:Out P w0 foot Y pin env m0 {a with defers:=mark w.heap.size::a.defers} β l lp (H x0) (nx x0) w1:=⟨⟨β,hR1,hb,λ_ _=>rfl⟩,hl1⟩
 have hl0:w0.heap.size<=l:=za
 have hav':a.eval g=.func (.func bk) #[] #[bp]:=hav
 have hres1:(resolve a.eval (rangeCall g l) 0).run P w1=.ok {target:=.fn (.func bk) #[bp],args:= #[.func (.yield l) #[] #[]]} w1:=by
  simp only[resolve,Deferred.ofValue,hav',sg,List.map_toArray,rO,List.map_nil,show a.eval (.const<|.func (.yield l) #[] #[])=.func (.yield l) #[] #[] from rfl];simp
 have hinv1:(invoke (.fn (.func bk) #[bp]) #[.func (.yield l) #[] #[]]).run P w1=.ok (.enter bk #[.func (.yield l) #[] #[],bp]) w1:=by
  unfold xq at hent;rw[hfn] at hent;simp only[oZ,sX,beq_eq_false_iff_ne] at hent;have hb:fn.body.isNone=false:=by rw[hbody];rfl
  simp only[invoke,callFunc,rW,sg,rI,run_program,hfn,beq_eq_false_iff_ne.2 hent.1,rF,rN,hb];rfl
 refine⟨l,[mark w.heap.size],w1,_,w1,bk, #[.func (.yield l) #[] #[],bp],w1,run_enterLoop_outer fid a.tmps #[p1,p2] _ body,hres1,λ_ _=>trivial,hinv1,λh=>absurd h zc,?_⟩;refine callsIn_of_wp hfn hbody trivial ?_
 have hi0':Itf {tmps:= #[.func (.yield l) #[] #[],bp]++Array.replicate (fn.ntmps-(#[.func (.yield l) #[] #[],bp]:Array Value).size) undef,defers:=[]} (.func (.yield l) #[] #[]) bp:=by
  rw[hnt];exact itf0 _ _
 generalize ({tmps:= #[.func (.yield l) #[] #[],bp]++Array.replicate (fn.ntmps-(#[.func (.yield l) #[] #[],bp]:Array Value).size) undef,defers:=[]}:Act)=a0 at hi0' ⊢
 have hend:∀x W a2,Inv x->idx x=0->Itf a2 (.func (.yield l) #[] #[]) bp->Out P w0 foot Y pin env m0 {a with defers:=mark w.heap.size::a.defers} β l lp (H x) (nx x) W->bodyPost P fn (rangePost Fence.wide 0 P l (Lift P w0 foot Y pin n Q) {a with defers:=[mark w.heap.size]++a.defers}) .normal a2 W:=by
  intro x W a2 hx hix hi2 hO;refine⟨hi2.defers,.tuple #[],by simp[results,hres],?_⟩;obtain⟨β2,hR2,hb2,_⟩:=hO.ex;exact⟨none,_,run_endLoop hO.lp<|by simp[lp],⟨_,β2,hdone x hx hix,hn,hR2.turn hO.lp hl0 _,hb2⟩⟩
 have hread:∀x W,Inv x->Out P w0 foot Y pin env m0 {a with defers:=mark w.heap.size::a.defers} β l lp (H x) (nx x) W->∃β2 sv,RelF P w0 foot Y pin (look env) (hook<|H x) β2 {a with defers:=mark w.heap.size::a.defers} W/\(∀k,Occ pin β2 k->k<nx x)/\(∀o,o<m0->β2 o=β o)/\(Instr.loadAt S bp).run P W=.ok sv W/\TRep W (XO Y (hook<|H x) β2) β2 xs sv:=by
  intro x W hx hO;obtain⟨β2,hR2,hb2,hβ2⟩:=hO.ex;obtain⟨rd,hld⟩:=hbox x hx
  have hep:TRep W (XO Y (hook<|H x) β2) β2 (.c<|.a<|.ep oc 1 0 0) bp:=by
   refine .a _ _ ?_;cases hbpR with
   |ep _ _ _ _ b hb=>exact .ep _ _ _ _ b<|(hβ2 oc hoc).trans hb
  obtain⟨sv,h1,h2⟩:=hR2.load hS hep hld;exact⟨β2,sv,hR2,hb2,hβ2,h1,h2⟩
 obtain⟨β2,sv,hR2,_,_,hld,hxs⟩:=hread x0 w1 hx0 hO0;refine wpIn_seq<|bk0_in hi0' hld (len_run hS hk hxs hlen) λa1 hi1 h31=>?_
 rw[i64_id za za] at h31
 refine wpIn_block (wpIn_loop (λa2 W=> ∃x,Inv x/\idx x<=N/\Itf a2 (.func (.yield l) #[] #[]) bp/\a2.tmps.getD 3 undef=.int .i64 ((idx x:Int)-1)/\Out P w0 foot Y pin env m0 {a with defers:=mark w.heap.size::a.defers} β l lp (H x) (nx x) W)
  (λa2 _=>match a2.tmps.getD 3 undef with|.int _ r=>(r+1).toNat|_=>0) ⟨x0,hx0,za,hi1,by rw[hi0];exact h31,hO0⟩ ?_)
 rintro a2 W ⟨x,hx,hle,hi2,h32,hO⟩;refine wpIn_seq<|wpIn_seq<|bk1_in hi2 h32 λa3 hi3 h33 h8=>?_
 cases hix:idx x with
 |zero=>
  refine wpIn_cond_false (by rw[yf,h8,hix];rfl)<|wpIn_exit ?_
  simp only[Exit.then,Exit.inBlock,rG];exact hend x W a3 hx hix hi3 hO
 |succ k=>
  rw[hix] at h33 h32 h8;have ek:((k+1:Nat):Int)-1=(k:Int):=za
  rw[ek] at h33 h32 h8;refine wpIn_cond_true (by rw[yf,h8];simp)<|wpIn_skip ?_
  obtain⟨β3,sv,hR3,hb3,hβ3,hld,hxs⟩:=hread x W hx hO;obtain⟨rd,hixa,hlde⟩:=hel x k hx hix;obtain⟨ev,hev,hevr⟩:=kX hS hixa hxs<|.int_mk _ _
  obtain⟨uv,huv,huvr⟩:=hR3.load hE hevr hlde
  refine wpIn_seq (wpIn_block (wpIn_seq (bk3_in (lp:=lp) (R:=λW'=> ∃x',(Inv x'/\idx x'=k)/\Out P w0 foot Y pin env m0 {a with defers:=mark w.heap.size::a.defers} β l lp (H x') (nx x') W') rfl hi3 h33 hld hev huv hO.lp rfl
   (nc (v:=v x) hR3 hb3 hβ3 hO.lp hl0 henv (λo b hq=>sA (hpm o b hq) hm) (hnx x hx) (λx' hx'=>hnx x' hx'.1) hn rfl rfl rfl rfl rfl rfl hp1 hp2 huvr (hround x k hx hix)) λa4 W' hi4 h34 h18 ⟨x',⟨hx',hix'⟩,hO'⟩=>?_)))
  .refine wpIn_cond_false (by rw[yf,h18])<|wpIn_skip ?_
   refine bk2_in hi4 h34 λa5 hi5 h35=>?_;rw[i64_id za za] at h35;refine⟨⟨x',hx',za,hi5,by rw[hix'];exact h35,hO'⟩,?_⟩;simp only[h35,h32];omega
def ctxQ (P:Program)(n m:Nat):Code->Nat->(AExit->St->Prop)->(AExit->St->Prop)
 |.seq a b,p,Q=>if (pts a).contains p then ctxQ P n m a p (Xs (Awp P n m b Q) Q) else ctxQ P n m b p Q
 |.cond _ a b,p,Q=>if (pts a).contains p then ctxQ P n m a p Q else ctxQ P n m b p Q
 |.block i c,p,Q=>if p=2*i+1 then Q else ctxQ P n m c p<|yj i Q
 |.loop c,p,Q=>ctxQ P n m c p<|Xs (Alwp P n m c Q) Q
 |_,_,Q=>Q
def rngP:Code->Option (Operand×Nat×Nat×Code×Code)
 |.rangeFunc g ps A b=>match ps.toList with
  |[p1,p2]=>some (g,p1,p2,A,b)
  |_=>none
 |_=>none
theorem rngP_inv {c:Code}{g:Operand}{p1 p2:Nat}{A b:Code}(h:rngP c=some (g,p1,p2,A,b)):c=.rangeFunc g #[p1,p2] A b:=by
 unfold rngP at h;split at h
 .rename_i g' ps A' b';split at h
  .rename_i q1 q2 hps;injection h with h
   simp only[rX] at h;obtain⟨rfl,rfl,rfl,rfl,rfl⟩:=h;have:ps= #[q1,q2]:=by apply tV;exact zo hps
   rw[this]
  .cases h
 .cases h
def asgB (n:Nat):Code->Bool
 |.region _ ops false=>vD ops&&dstB ops n
 |.seq (.region _ ops false) (.region _ ops' false)=>(vD ops&&dstB ops n)&&(vD ops'&&dstB ops' n)
 |_=>false
def asgV (P:Program)(sh:FuncId->List Sh)(n:Nat)(A:Code)(K:AExit->St->Prop)(s:St):Prop:=
 match A with
 |.region _ ops _=>regV P sh n ops false K s
 |.seq (.region _ ops _) (.region _ ops' _)=>regV P sh n ops false (Xj (regV P sh n ops' false K) λ_ _=>False) s
 |_=>False
theorem Jk {P:Program}{sh:FuncId->List Sh}{n id:Nat}{ops:Array Oper}{K:AExit->St->Prop}{s:St}{R:St->Prop}(hnd:vD ops=true)(hdst:dstB ops n=true)(h:regV P sh n ops false K s)(hk:∀s',K .normal s'->∀e,look s'.env=look e->R ⟨e,s'.heap,s'.nx⟩):AsgS P n (.region id ops false) s R:=by
 unfold regV at h;split at h
 .refine AsgS.region hnd hdst<|kP ?_<|wQ rfl h
  rintro e h _ ⟨e2,he,hk2⟩;simp only[Bool.not_false,Bool.true_or] at hk2;exact hk _ hk2 e he
 .exact h.elim
def qW:Code->Nat->Option (Operand×Nat×Nat×Code×Code)
 |.seq a b,p=>if (pts a).contains p then qW a p else qW b p
 |.cond _ a b,p=>if (pts a).contains p then qW a p else qW b p
 |.block i c,p=>if p=2*i+1 then rngP c else qW c p
 |.loop c,p=>qW c p
 |_,_=>none
section
variable {P:Program} {n m:Nat}
theorem uB {g:Operand}{p1 p2:Nat}{A y:Code}{s:St}:∀ {c:Code} {p:Nat} {Q:AExit->St->Prop},qW c p=some (g,p1,p2,A,y)->(∀i,Awp P n m (.rangeFunc g #[p1,p2] A y) (yj i<|ctxQ P n m c p Q) s)->rz P n m c p Q s
 |.seq a b,p,Q,hr,h=>by
  unfold qW at hr;unfold rz;unfold ctxQ at h;split
  next hc=>rw[oX hc] at hr;simp only[hc,rG] at h;exact uB hr h
  next hc=>rw[oV hc] at hr;simp only[hc] at h;exact uB hr h
 |.cond _ a b,p,Q,hr,h=>by
  unfold qW at hr;unfold rz;unfold ctxQ at h;split
  next hc=>rw[oX hc] at hr;simp only[hc,rG] at h;exact uB hr h
  next hc=>rw[oV hc] at hr;simp only[hc] at h;exact uB hr h
 |.block i c,p,Q,hr,h=>by
  unfold qW at hr;unfold rz;unfold ctxQ at h;split
  next hc=>rw[oX hc] at hr;simp only[hc,rG] at h;rw[rngP_inv hr];exact h i
  next hc=>rw[oV hc] at hr;simp only[hc,rN] at h;exact uB hr h
 |.loop c,p,Q,hr,h=>by
  unfold qW at hr;unfold rz;unfold ctxQ at h;exact uB hr h
 |.skip,_,_,hr,_=>by cases hr
 |.rangeFunc ..,_,_,hr,_=>by cases hr
 |.exit _,_,_,hr,_=>by cases hr
 |.scope _,_,_,hr,_=>by cases hr
 |.label _,_,_,hr,_=>by cases hr
 |.goto _,_,_,hr,_=>by cases hr
 |.ret,_,_,hr,_=>by cases hr
 |.region ..,_,_,hr,_=>by cases hr
 |.refuse _,_,_,hr,_=>by cases hr
end
def aftV (P:Program)(sh:FuncId->List Sh)(n m:Nat)(lv:List<|Nat×List Nat)(G:Nat->St->Prop):Code->Nat->(AExit->St->Prop)->St->Prop
 |.seq a b,p,K,s=>match (pts a).contains p with
  |true=>aftV P sh n m lv G a p (Xj (runV P sh n m lv G b K) K) s
  |false=>aftV P sh n m lv G b p K s
 |.cond _ a b,p,K,s=>match (pts a).contains p with
  |true=>aftV P sh n m lv G a p K s
  |false=>aftV P sh n m lv G b p K s
 |.block i c,p,K,s=>match p==2*i+1 with
  |true=>K .normal s
  |false=>match c with
   |.loop b=>aftV P sh n m lv G b p (Xj (jY m lv G<|2*i+1)<|yj i K) s
   |c=>aftV P sh n m lv G c p (yj i K) s
 |_,_,_,_=>False
section
variable {P:Program} {sh:FuncId->List Sh} {n m:Nat} {lv:List (Nat×List Nat)} {G:Nat->St->Prop}
theorem uy (hP:P.follows .mixedOrders=true):∀ {c:Code} {p:Nat} {K Q:AExit->St->Prop} {s:St},(pts c).Nodup->GOK P n m G c Q->(∀e s,K e s->Q e s)->aftV P sh n m lv G c p K s->ctxQ P n m c p Q .normal s
 |.seq a b,p,K,Q,s,hn,hG,hk,h=>by
  have hn':=sq.1 hn;unfold aftV at h;unfold ctxQ;split at h
  next hp=>rw[oX hp];exact uy hP hn'.1 hG.left (wc (λs hs=>xM hP hn'.2.1 (hG.right hn) hk hs) hk) h
  next hp=>rw[oV<|by simp only[hp];decide];exact uy hP hn'.2.1 (hG.right hn) hk h
 |.cond x a b,p,K,Q,s,hn,hG,hk,h=>by
  have hn':=sq.1 hn;unfold aftV at h;unfold ctxQ;split at h
  next hp=>rw[oX hp];exact uy hP hn'.1 hG.condL hk h
  next hp=>rw[oV<|by simp only[hp];decide];exact uy hP hn'.2.1 (hG.condR hn) hk h
 |.block i c,p,K,Q,s,hn,hG,hk,h=>by
  unfold aftV at h;unfold ctxQ;split at h
  next hp=>rw[oX<|zo hp];exact hk _ _ h
  .rename_i hp;rw[oV<|zo hp];split at h
   next b=>have hn2:(pts b).Nodup:=(rY.1 hn).2;unfold ctxQ;exact uy hP hn2 (GOK.loop<|hG.block hn) (wc (λs hs=>hG.head hs)<|xg hk) h
   .exact uy hP (rY.1 hn).2 (hG.block hn) (xg hk) h
 |.skip,_,_,_,_,_,_,_,h=>h.elim
 |.exit _,_,_,_,_,_,_,_,h=>h.elim
 |.ret,_,_,_,_,_,_,_,h=>h.elim
 |.loop _,_,_,_,_,_,_,_,h=>h.elim
 |.region ..,_,_,_,_,_,_,_,h=>h.elim
 |.rangeFunc ..,_,_,_,_,_,_,_,h=>h.elim
 |.scope _,_,_,_,_,_,_,_,h=>h.elim
 |.label _,_,_,_,_,_,_,_,h=>h.elim
 |.goto _,_,_,_,_,_,_,_,h=>h.elim
 |.refuse _,_,_,_,_,_,_,_,h=>h.elim
end
def vcA (P:Program)(sh:FuncId->List Sh)(lv:List<|Nat×List Nat)(f:FuncId)(m:Nat)(R:TV->List AObj->Prop)(G:Nat->St->Prop)(p:Nat)(s:St):Prop:=
 match P.funcs[f]? with
 |some fn=>match fn.body with
  |some c=>match j7 (pts c) with
   |true=>aftV P sh fn.ntmps m lv G c p (endV P (ownB<|sh f) fn.results.toList m (lvU lv) R) s
   |false=>False
  |none=>False
 |none=>False
def endR (m0:Nat)(U:List Nat)(R:AHeap->Nat->Prop):AExit->St->Prop
 |.normal,s=>jY m0 [(0,[]),(1000001,U)] (λ_ s'=>R s'.heap s'.nx) 0 s
 |_,_=>False
def vcR (P:Program)(sh:FuncId->List Sh)(f:FuncId)(m0:Nat)(U:List Nat)(p:Nat)(env:Env)(k:Int)(v:TV)(h:AHeap)(nx:Nat)(R:AHeap->Nat->Prop):Prop:=
 match P.funcs[f]? with
 |some fn=>match fn.body with
  |some c=>match qW c p with
   |some (_,p1,p2,A,body)=>asgV P sh fn.ntmps A (Xj (runV P sh fn.ntmps m0 [] (λ_ _=>False) body<|endR m0 U R) λ_ _=>False) ⟨(p2,v)::(p1,iV k)::env,h,nx⟩
   |none=>False
  |none=>False
 |none=>False
def prepV (m0:Nat)(U live:List Nat)(K:St->Prop)(s:St):Prop:=jY m0 [(0,live),(1000001,U)] (λ_ s'=>K s') 0 s
def rngB (P:Program)(f:FuncId)(p:Nat):Option Operand:=
 match P.funcs[f]? with
 |some fn=>match fn.body with
  |some c=>match qW c p with
   |some (g,p1,p2,A,body)=>match j7 (pts c)&&asgB fn.ntmps A&&wB body&&Nat.blt p1 fn.ntmps&&Nat.blt p2 fn.ntmps with
    |true=>some g
    |false=>none
   |none=>none
  |none=>none
 |none=>none
theorem Sle.less {m m0:Nat}{s s':St}(h:Sle m0 s s')(hm:m<=m0):Sle m s s':=by
 obtain⟨σ,E,h1,h2,h3,h4⟩:=h;exact⟨σ,E,h1,rS hm h2,λo ho=>h3 o<|sA ho hm,h4⟩
theorem Sle.noEnv {m:Nat}{s s':St}(h:Sle m s s'):Sle m s ⟨[],s'.heap,s'.nx⟩:=by
 obtain⟨σ,E,h1,h2,h3,h4,h5⟩:=h;exact⟨σ,E,h1,h2,h3,(λp hp=>by cases hp),h5⟩
theorem K0 {m:Nat}{lv:List (Nat×List Nat)}{G:Nat->St->Prop}{p:Nat}{s:St}(h:jY m lv G p s):∃s',Sle m s s'/\G p s':=jK h
theorem RPt.back {P:Program} {sh:FuncId->List Sh} {lv:List (Nat×List Nat)} {f:FuncId} {m m0 p oc N:Nat} {r:TV} {Hs':List AObj} {U live rdn:List Nat} {env:Env} {s0:St} {α:Type} {H:α->AHeap} {nx:α->Nat} {Inv:α->Prop} {idx:α->Nat} {y v:α->TV} {x0:α} {bk:FuncId} {S E:TypeId} {dS dE:TyD} {g:Operand} {xs:TV}
  (hP:P.follows .mixedOrders=true) (hrg:rngB P f p=some g) (hbk:IsBk P bk S E) (hS:tyOf P S=some dS) (hk:dS.kind=.slice E) (hE:tyOf P E=some dE)
  (hs:prepV m0 U live (λs'=>s'=⟨env,H x0,nx x0⟩) s0) (hm:Nat.ble m m0=true) (henv:env.all (λp=>p.2.lt m0)=true)
  (hg:ev env g=.c (.fn (.func bk) [] [(false,[.ep oc 1 0 0])])) (hoc:Nat.blt oc m0=true) (hnx:∀x,Inv x->m0<=nx x)
  (hbox:∀x,Inv x->∃rd,wR dS (λo=>flat<|hook (H x) o) (.c<|.a<|.ep oc 1 0 0)=some (xs,rd)) (hlen:Xl xs=some (N,rdn)) (hN:N<9223372036854775808)
  (hel:∀x k,Inv x->idx x=k+1->∃rd,xb P dS xs (iV k)=some (y x)/\wR dE (λo=>flat<|hook (H x) o) (y x)=some (v x,rd))
  (hround:∀x k,Inv x->idx x=k+1->vcR P sh f m0 U p env k (v x) (H x) (nx x) λh n=> ∃x',(Inv x'/\idx x'=k)/\h=H x'/\n=nx x')
  (hx0:Inv x0) (hi0:idx x0=N) (hdone:∀x,Inv x->idx x=0->vcA P sh lv f m (λr0 Hs0=>TV.Le r0 r/\Hs0=Hs') (RPt P f m r Hs') p ⟨env,H x,nx x⟩):
  RPt P f m r Hs' p s0:=by
 have hm':m<=m0:=rR hm;obtain⟨s',hsle,rfl⟩:=K0 hs;unfold rngB at hrg;unfold vcR at hround;split at hrg
 .rename_i fn hf;simp only[hf] at hround;split at hrg
  .rename_i c hb;simp only[hb] at hround;split at hrg
   .rename_i g' p1 p2 A body hat;simp only[hat] at hround;split at hrg
    .rename_i hall;injection hrg with hrg
     subst hrg;simp only[oZ] at hall;obtain⟨⟨⟨⟨h1,h2⟩,h3⟩,h4⟩,h5⟩:=hall;refine⟨fn,c,hf,hb,uP (hsle.less hm')<|uB hat λi=>?_⟩;refine cw (m0:=m0) (Inv:=Inv) (idx:=idx) (y:=y) (v:=v) hbk hS hk hE hm' (λp hp=>rP.1 henv p hp) hg (zo hoc) hnx hbox hlen hN hel (zo h4) (zo h5) (λx k hx hix=>?_) hx0 hi0 λx hx hix=>?_
     .have hr:=hround x k hx hix
      have fin:∀s':St,Xj (runV P sh fn.ntmps m0 [] (λ_ _=>False) body (endR m0 U λh n=> ∃x',(Inv x'/\idx x'=k)/\h=H x'/\n=nx x')) (λ_ _=>False) .normal s'->∀e,look s'.env=look e->AwpR P fn.ntmps m0 body (λex s'=>ex=.normal/\∃x',(Inv x'/\idx x'=k)/\Sle m0 s' ⟨[],H x',nx x'⟩) ⟨e,s'.heap,s'.nx⟩:=by
       intro s' hk2 e he;refine AwpR.look he<|AwpR.mono (vF hP h3 (λ_ _ h=>h) hk2) λex s hs=>?_
       cases ex with
       |normal=>
        have hs:jY m0 [(0,[]),(1000001,U)] (λ_ s'=> ∃x',(Inv x'/\idx x'=k)/\s'.heap=H x'/\s'.nx=nx x') 0 s:=hs;obtain⟨s2,hs2,x',hx',e1,e2⟩:=K0 hs;exact⟨rfl,x',hx',e1▸e2▸hs2.noEnv⟩
       |exit i=>exact hs.elim
       |ret=>exact hs.elim
      unfold asgB at h2;split at h2
      .simp only[oZ] at h2;exact Jk h2.1 h2.2 hr fin
      .simp only[oZ] at h2;refine AsgS.seq (Jk (R:=λs'=> ∃s'',look s'.env=look s''.env/\s'.heap=s''.heap/\s'.nx=s''.nx/\regV P sh fn.ntmps _ false _ s'') h2.1.1 h2.1.2 hr λs' hk2 e he=>⟨s',he.symm,rfl,rfl,hk2⟩) λs' hs'=>?_;obtain⟨s'',e1,e2,e3,hk3⟩:=hs';intro w0 foot Y pin r n' β a w Q q1 q2 q3 q4 q5;refine Jk h2.2.1 h2.2.2 hk3 fin w0 foot Y pin r n' β a w Q q1 q2 ?_ ?_ q5
       .rw[<-e1,<-e2];exact q3
       .rw[<-e3];exact q4
      .cases h2
     .have ha:=hdone x hx hix;unfold vcA at ha;simp only[hf,hb,h1] at ha;exact uy hP (xv h1) (fU hf hb) (λe s h=>Jv e s h) ha
    .cases hrg
   .cases hrg
  .cases hrg
 .cases hrg
open Go.ChangeShapes Go.WideShapes Go.ChangeAt Go.RowKit
end Go.AM
namespace Go.AM
structure Ma where
 s:Hp
 P:FV
 T:FV
 S:Int
 V:FV
 nf:FV
 na:Int
 A:FV
 L:Int
 I:FV
 n:Nat
 C:List<|List FV
 f:Int
 w:Bool
 o:FV
def moO (h k:Nat)(z:Ma):AObj:=
 .arr 14 [[.a<|.ep h 6 0 0,.a<|.fz z.P,.a<|.fz z.T,.a<|.fz<|.int .i64 z.S,.a<|.fz z.V,.a<|.fz z.nf,.a<|.fz<|.int .i64 z.na,.a<|.fz z.A,.a<|.fz<|.int .i64 z.L,.a<|.fz z.I,.a<|.osl k 10 0 z.n,.a<|.fz<|.int .i64 z.f,.a<|.fz<|.bool z.w,.a<|.fz z.o]]
abbrev hpO (a b d m:Nat)(z:Hp):AObj:=.arr 6 [[.a<|.osl a 5 0 z.C.length,.a<|.osl b 7 0 z.T.length,.a<|.fz<|.int .i64 z.M,.a<|.fz<|.int .i64 z.L,.a<|.osl d 1 0 z.N.length,.a<|.mp m]]
abbrev hOb (z:Hp)(l:List AObj):List AObj:=hpO 1 2 3 4 z:: .arz 5 (CR z.C):: .arz 7 (TR z.T):: .arz 1 (NR z.N):: .mapz (NM z.N 0)::l
abbrev hSb (z:Hp)(l:List AObj):List AObj:=hpO 5 6 7 4 z:: .gone:: .gone:: .gone:: .mapz (NM z.N 0):: .arz 5 (CR z.C):: .arz 7 (TR z.T):: .arz 1 (NR z.N)::l
abbrev rOb (z:Rd)(l:List AObj):List AObj:=.arr 3 [[.a<|.ep 1 6 0 0,.a<|.fz<|.int .i64 z.f,.a<|.fz<|.int .i64 z.e]]::hpO 2 3 4 5 z.s:: .arz 5 (CR z.s.C):: .arz 7 (TR z.s.T):: .arz 1 (NR z.s.N):: .mapz (NM z.s.N 0)::l
abbrev rSb (z:Rd)(l:List AObj):List AObj:=.arr 3 [[.a<|.ep 1 6 0 0,.a<|.fz<|.int .i64 z.f,.a<|.fz<|.int .i64 z.e]]::hpO 6 7 8 5 z.s:: .gone:: .gone:: .gone:: .mapz (NM z.s.N 0):: .arz 5 (CR z.s.C):: .arz 7 (TR z.s.T):: .arz 1 (NR z.s.N)::l
abbrev wOb (z:Wk)(l:List AObj):List AObj:=.arr 3 [[.a<|.ep 1 6 0 0,.a<|.osl 6 2 0 z.n,.a<|.fz<|.int .i64 z.f]]::hpO 2 3 4 5 z.s:: .arz 5 (CR z.s.C):: .arz 7 (TR z.s.T):: .arz 1 (NR z.s.N):: .mapz (NM z.s.N 0):: .arz 2 z.R::l
abbrev wSb (z:Wk)(l:List AObj):List AObj:=.arr 3 [[.a<|.ep 1 6 0 0,.a<|.osl 10 2 0 z.n,.a<|.fz<|.int .i64 z.f]]::hpO 7 8 9 5 z.s:: .gone:: .gone:: .gone:: .mapz (NM z.s.N 0):: .gone:: .arz 5 (CR z.s.C):: .arz 7 (TR z.s.T):: .arz 1 (NR z.s.N):: .arz 2 z.R::l
def numO:Nat->List AObj->AHeap
 |_,[]=> []
 |k,o::l=>(k,o)::numO (k+1) l
end Go.AM
