/- Laws, part 2. No conditions. -/
import Derived.Test.YtbpjamookpnilaaGreatPart1
import Derived.Deep.LoopGhost
import Derived.Scope
import Derived.RangeFuncLeaves
import Derived.RangeFuncRecord
import Derived.OrdersIn
import Derived.TacticsIn
import Derived.LoopN
import Derived.IntWalk
import Derived.ProofKit
import Derived.OpenShut
import Derived.JoinedCond
import Derived.WalkKit
import Derived.RangeFuncIn
set_option linter.all false
open Go.IntKind (wrap)
open List (getD take drop)
namespace Go.AM
theorem m4 (e:Env)(x:Operand):ev e x=evF (look e) x:=by cases x<;>rfl
structure Dl where
 dst:Option Nat
 val:TV
 upd:AHeap
 rd:List Nat
inductive OpStep (P:Program)(ops:Array Oper)(o:Oper)(fr:Nat)(e:Nat->TV)(h:Nat->AObj):Dl->Prop
 |skip:want ops o e=some false->OpStep P ops o fr e h ⟨o.dst,.tup [],[],[]⟩
 |plain (r:AR):want ops o e=some true->goCall o.op=none->aopS P o fr (evF e) h=some r->OpStep P ops o fr e h ⟨o.dst,r.val,r.upd,r.rd⟩
 |call (c:Call) (f:FuncId) (args:List TV) (r:TV) (upd:AHeap) (rd:List Nat):want ops o e=some true->goCall o.op=some c->calleeOf (evF e) c=some (f,args)->
   CallE P f args h fr (λr' u' d'=>r'=r/\u'=upd/\d'=rd)->OpStep P ops o fr e h ⟨o.dst,r,upd,rd⟩
def putF (d:Option Nat)(v:TV)(e:Nat->TV):Nat->TV:=match d with|some i=>AM.upd e i v|none=>e
theorem YQ (d:Option Nat)(v:TV)(e:Env):look (putE d v e)=putF d v (look e):=by
 funext k;cases d with
 |none=>rfl
 |some i=>
  simp only[putE,look,putF,AM.upd];by_cases h:i=k
  .simp[h]
  .simp[h,show k≠i from λe=>h e.symm]
def mark (D:Nat):Deferred:={target:=.collected D,args:= #[]}
def Marks (w0 w:World)(ds:List Deferred):Prop:=∃Ds:List Nat,ds=Ds.map mark/\Ds.Nodup/\∀D∈Ds,w0.heap.size<=D/\w.heap[D]?=some (.deferred<|some [])
theorem Marks.nil (w0 w:World):Marks w0 w []:=⟨[],rfl,.nil,λ_ h=>nomatch h⟩
theorem rY {w:World}{X:Nat->Prop}{β:Nat->Option Nat}{o:AObj}{b:Nat}(h:ORep w X β o b)(g:isLive o):(∃e t,w.heap[b]?=some (.cells e t (0,0)))\/∃ms f,w.heap[b]?=some (.map ms f):=by
 cases o with
 |gone=>exact g.elim
 |arr n es=>obtain⟨e,t,d,_⟩:=h;exact .inl ⟨_,_,d⟩
 |arz n es=>obtain⟨e,t,d,_⟩:=h;exact .inl ⟨_,_,d⟩
 |mapo es=>obtain⟨ms,f,d,_⟩:=h;exact .inr ⟨_,_,d⟩
 |mapz es=>obtain⟨ms,f,d,_⟩:=h;exact .inr ⟨_,_,d⟩
theorem Objs.own_heap {h:Nat->AObj}{β:Nat->Option Nat}{Y:Nat->Prop}{w:World}(i:Objs h β Y w){b:Nat}(f:Own h β b):(∃g t,w.heap[b]?=some (.cells g t (0,0)))\/∃ms j,w.heap[b]?=some (.map ms j):=by obtain⟨o,d,e⟩:=f;exact rY (i.rep o b d e) d
theorem Marks.good {w0 w w':World}{f:List Deferred}{h:Nat->AObj}{β:Nat->Option Nat}{Y:Nat->Prop}(m:Marks w0 w f)(o:Objs h β Y w)(g:Good w (Own h β) w'):Marks w0 w' f:=by
 obtain⟨Ds,p,i,e⟩:=m;refine⟨Ds,p,i,λD hD=>⟨(e D hD).1,?_⟩⟩;have d:=(e D hD).2;rw[g.blk D (AW.1 d).1 λj=>?_]
 .exact d
 .rcases o.own_heap j with⟨u,t,b⟩|⟨ms,r,b⟩<;>rw[d] at b<;>cases b
structure RelF (P:Program)(w0:World)(foot:Nat->Prop)(Y:Nat->Prop)(pin:Nat->Option (Option Nat))(e:Nat->TV)(h:Nat->AObj)(β:Nat->Option Nat)(a:Act)(w:World):Prop where
 good:Good w0 foot w
 env:∀i,TRep w (XO Y h β) β (e i)<|a.tmps.getD i undef
 objs:Objs h β Y w
 own:∀o b,isLive (h o)->β o=some b->foot b\/w0.heap.size<=b
 defers:Marks w0 w a.defers
 ylt:∀b,Y b->b<w0.heap.size
 pins:∀o x,pin o=some x->β o=x
 gl:Gl P w0 foot
section
variable {P:Program} {w0:World} {foot:Nat->Prop} {Y:Nat->Prop} {pin:Nat->Option (Option Nat)} {e:Nat->TV} {h:Nat->AObj} {β:Nat->Option Nat} {a:Act} {w:World}
theorem RelF.eval (b:RelF P w0 foot Y pin e h β a w)(x:Operand):TRep w (XO Y h β) β (evF e x) (a.eval x):=by
 cases x with
 |tmp t=>exact b.env t
 |const v=>exact tvOf_rep _ _ _ v
 |global g=>trivial
 |func f=>exact .fn (.func f) [] [] [] [] .nil .nil
theorem RelF.y (d:RelF P w0 foot Y pin e h β a w):∀b,Y b->b<w.heap.size:=λb f=>AK (d.ylt b f) d.good.size
theorem RelF.now (d:RelF P w0 foot Y pin e h β a w):Gl P w (Own h β):=d.gl.later d.good λb i ⟨o,g,f⟩=>by
 rcases d.own o b g f with h3|h3
 .exact h3
 .omega
theorem RelF.step (f:RelF P w0 foot Y pin e h β a w) {h':Nat->AObj} {g:Nat->Option Nat} {w':World} {fr:Nat->Prop} (y:∀o,fr o->β o=none) (E:∀o,fr o->pin o=none) (m:Moves h h' β g Y w w' fr) {d:Option Nat} {v:TV} {u:Value} (F:TRep w' (XO Y h' g) g v u)
  (hd:∀i,d=some i->i<a.tmps.size):RelF P w0 foot Y pin (putF d v e) h' g (a.put d u) w':=by
 have A:=m.goes f.objs y;have j:∀b,b<w0.heap.size->Own h β b->foot b:=by
  rintro b z ⟨o,h1,h2⟩;rcases f.own o b h1 h2 with h3|h3
  .exact h3
  .omega
 refine⟨f.good.trans m.good j,λi=>?_,m.objs,λo b D z=>?_,?_,f.ylt,λo x r=>?_,f.gl⟩
 .cases d with
  |none=>exact(f.env i).goes A
  |some k=>
   simp only[putF,AM.upd,Act.put];by_cases p:i=k
   .subst p;simp only[tZ];have:=hd i rfl;simpa[EG,this] using F
   .simp only[p,A6];have:(a.tmps.setIfInBounds k u).getD i undef=a.tmps.getD i undef:=by simp[Array.getElem?_setIfInBounds_ne (show k≠i from λe=>p e.symm)]
    rw[this];exact(f.env i).goes A
 .rcases m.bnew o b z with h1|⟨C,h1|h1⟩
  .rcases m.lmono o D with h2|h2
   .exact f.own o b h2 h1
   .rw[y o h2] at h1;cases h1
  .exact .inr<|AX f.good.size h1
  .obtain⟨o',h2,h3⟩:=h1;exact f.own o' b h2 h3
 .have:=f.defers.good f.objs m.good;cases d<;>exact this
 .have h1:=f.pins o x r;cases x with
  |some b=>exact m.bmono o b h1
  |none=>
   cases h2:g o with
   |none=>rfl
   |some b=>
    rcases m.bnew o b h2 with h3|⟨h3,_⟩
    .rw[h1] at h3;cases h3
    .rw[E o h3] at r;cases r
def Occ (pin:Nat->Option (Option Nat))(β:Nat->Option Nat)(k:Nat):Prop:=β k≠none\/pin k≠none
theorem vE {g:Array Oper}{o:Oper}{b:Bool}(D:RelF P w0 foot Y pin e h β a w)(p:∀(j:Nat) (q:Oper) (d:Nat),g[j]?=some q->q.dst=some d->d<a.tmps.size)(f:want g o e=some b):Region.wanted o (yielded g a.tmps)=b:=by
 unfold want at f;unfold Region.wanted;split at f;next z=>simp only[z];exact zp f
 .rename_i j C z;simp only[z];split at f
  .rename_i x y;injection f with f
   obtain⟨d,hd,r⟩:=tH.1 y;obtain⟨q,v,u⟩:=E5.1 hd;have i:=p j q d v u;have m:=D.env d;rw[r] at m;have m:=m.bool_inv;have A:yielded g a.tmps j=some x:=by
    unfold yielded;rw[hd];simp only[Ev];have:a.tmps[d]?=some (.bool x):=by rw[AP i];simp[Array.getD,i] at m;rw[m]
    rw[this]
   rw[A,<-f];cases x<;>cases C<;>rfl
  .rename_i y;injection f with f
   obtain⟨d,hd,r⟩:=tH.1 y;obtain⟨q,v,u⟩:=E5.1 hd;have i:=p j q d v u;have m:=D.env d;rw[r] at m;obtain⟨F,m,E⟩:=m;have:F=[]:=tS (zp E.1.symm);subst this;have A:yielded g a.tmps j=none:=by
    unfold yielded;rw[hd];simp only[Ev];have:a.tmps[d]?=some (.tuple #[]):=by rw[AP i];simp[Array.getD,i] at m;rw[m]
    rw[this]
   rw[A,<-f];cases C<;>rfl
  .cases f
theorem ZE {ops:Array Oper} {o:Oper} {fr:Nat} {δ:Dl} (hR:RelF P w0 foot Y pin e h β a w) (hfr:∀j,j<32->β (fr+j)=none) (hpn:∀j,j<32->pin (fr+j)=none) (hdst:∀(j:Nat) (q:Oper) (d:Nat),ops[j]?=some q->q.dst=some d->d<a.tmps.size) (hod:∀d,o.dst=some d->d<a.tmps.size)
  (hs:OpStep P ops o fr e h δ) {K:Act->World->Prop} {Q:Exit->Act->World->Prop}
  (hK:∀a' w' β',a'.tmps.size=a.tmps.size->a'.defers=a.defers->RelF P w0 foot Y pin (putF δ.dst δ.val e) (over δ.upd h) β' a' w'->(∀k,β' k≠none->β k≠none\/(fr<=k/\k<fr+32))->K a' w'):
  if Region.wanted o (yielded ops a.tmps) then o.wp P a w K Q else K (a.put o.dst undef) w:=by
 have hsz:∀u,(a.put o.dst u).tmps.size=a.tmps.size:=by intro u;unfold Act.put;cases o.dst<;>simp
 have hdf:∀(d:Option Nat) u,(a.put d u).defers=a.defers:=by intro d u;unfold Act.put;cases d<;>rfl
 have hbd:∀ {β':Nat->Option Nat} {h':Nat->AObj} {w':World} {f:Nat->Prop},Moves h h' β β' Y w w' f->(∀k,f k->fr<=k/\k<fr+32)->∀k,β' k≠none->β k≠none\/(fr<=k/\k<fr+32):=by
  intro β' h' w' f m hf k hk;cases hb:β' k with
  |none=>exact absurd hb hk
  |some b=>
   rcases m.bnew k b hb with h1|⟨h1,_⟩
   .exact .inl (by rw[h1];simp)
   .exact .inr<|hf k h1
 cases hs with
 |skip hw=>rw[vE hR hdst hw,tD zb];have m:=Moves.refl hR.objs λ_=>rfl;exact hK _ _ _ (hsz _) (hdf _ _) (hR.step (λ_ h=>h.elim) (λ_ h=>h.elim) m (d:=o.dst) (v:=.tup []) ⟨[],rfl,.nil⟩ hod)<|hbd m λ_ h=>h.elim
 |plain r hw hg ha=>
  rw[vE hR hdst hw,tG rfl];obtain⟨n,v,w',β',hrun,hn,hm,hv⟩:=nV hR.objs hR.y hfr hR.eval ha;have hfr0:∀k,(fr<=k/\k<fr+32)->β k=none:=λk hk=>by have:=hfr (k-fr) za;rwa [(za:fr+(k-fr)=k)] at this
  have hfin:=hK _ _ _ (hsz v) (hdf _ _) (hR.step hfr0 (λk hk=>by have:=hpn (k-fr) za;rwa [(za:fr+(k-fr)=k)] at this) hm hv hod)<|hbd hm λk hk=>hk;unfold Oper.wp;rw[hrun];rcases hn with rfl|⟨rfl,rfl⟩
  .exact hfin
  .exact hfin
 |call c f args r upd rd hw hg hc hK'=>
  rw[vE hR hdst hw,tG rfl];obtain⟨dd,op,t,p,af,g⟩:=o;simp only[goCall] at hg;split at hg
  .rename_i x a9 ts;injection hg with hg
   subst hg;simp only[calleeOf] at hc;split at hc
   .rename_i fid first cap hx;injection hc with hc
    injection hc with hc1 hc2
    subst hc1;have hrx:=hR.eval x;rw[hx] at hrx;cases hfx:a.eval x with
    |func fn fs cs=>
     rw[hfx] at hrx;cases hrx with
     |fn _ _ _ us vs hl1 hl2=>
      have atomT:∀(l:List<|Bool×List AV) (zs:List Value),LRep (PRep<|ARep w (XO Y h β) β) l zs->LRep (TRep w (XO Y h β) β) (l.map λp=>match p with|(true,cs)=>TV.agg (cs.map WV.a)|(false,[x])=>TV.c (.a x)|_=>TV.any) zs:=by
       intro l zs hl;refine hl.map λp u _ hp=>?_;obtain⟨qs,rfl,hq,h1⟩:=hp;obtain⟨b,cs⟩:=p;cases b with
       |true=>exact⟨qs,rfl,hq.map λc u _ h=>.a _ _ h⟩
       |false=>
        have:=h1 rfl
        match cs,this with
        |[y],_=>obtain⟨u,us',rfl,hu,_⟩:=hq.cons_inv;exact .a _ _ (by simpa[shut] using hu)
      have hargs:LRep (TRep w (XO Y h β) β) args (us++a9.toList.map a.eval++vs):=by rw[<-hc2];exact((atomT _ _ hl1).append<|qA hR.eval a9.toList).append<|atomT _ _ hl2
      obtain⟨hent,r',upd',rd',⟨e1,e2,e3⟩,hcall⟩:=pu hR.objs hR.now hR.y hfr hargs hK';subst e1;subst e2;subst e3;have hrun:(execOp a.eval ⟨dd,.call ⟨.value x,a9,ts⟩,t,p,af,g⟩).run P w=.ok (.enter fid (us++a9.toList.map a.eval++vs).toArray) w:=by
       unfold xF at hent;split at hent
       .rename_i fn hfn;simp only[tF,AA,beq_eq_false_iff_ne] at hent;have hb:fn.body.isNone=false:=by cases hb:fn.body<;>simp_all
        have harr:us.toArray++Array.map a.eval a9++vs.toArray=(us++a9.toList.map a.eval++vs).toArray:=by apply EL;simp
        simp only[execOp,resolve,Deferred.ofValue,hfx,invoke,callFunc,Ao,Av,A2,run_program,hfn,beq_eq_false_iff_ne.2 hent.1,tX,A6,hb,harr]
       .cases hent
      unfold Oper.wp;rw[hrun];simp only[Oper.upon];refine hcall.mono λen w' ⟨v,β',he,hm,hv⟩=>?_;subst he;exact hK _ _ _ (hsz v) (hdf _ _) (hR.step (λk hk=>by have:=hfr (k-fr) za;rwa [(za:fr+(k-fr)=k)] at this) (λk hk=>by have:=hpn (k-fr) za;rwa [(za:fr+(k-fr)=k)] at this) hm hv hod)<|hbd hm λk hk=>hk
    |_=>rw[hfx] at hrx;cases hrx
   .cases hc
  .cases hg
end
theorem nN {e b:Nat->TV}{x:Operand}(h:∀t,x=.tmp t->b t=e t):evF b x=evF e x:=by
 cases x with
 |tmp t=>exact h t rfl
 |_=>rfl
theorem u9 {h h':Nat->AObj}{x:TV}{o:Nat}{es:List MapE}(b:j9 h x=some (o,es))(d:h' o=h o):j9 h' x=some (o,es):=by unfold j9 at b ⊢;grind
theorem lu {h h':Nat->AObj}{x:TV}{d:List Nat×List MapE}(b:mapL h x=some d)(e:∀k∈d.1,h' k=h k):mapL h' x=some d:=by
 unfold mapL at b ⊢;split at b
 .exact b
 .obtain⟨p,f,rfl⟩:=tH.1 b;rw[u9 (o:=p.1) (es:=p.2) f<|e p.1 zb];rfl
theorem jG {m:(Bool×List EK)×(Bool×List WV)}{h h':Nat->AObj}{x key:TV}{ok:Bool}{r:AR}(b:wY m h x key ok=some r)(f:∀k∈r.rd,h' k=h k):wY m h' x key ok=some r:=by
 unfold wY at b ⊢;split at b
 .split at b
  .rename_i g d;obtain⟨o,es⟩:=g;split at b;next q e=>obtain⟨v,i,rfl⟩:=tH.1 b;simp only[lu d f,e,i,tW]
   .cases b
  .cases b
 .cases b
theorem entE_rd {m:(Bool×List EK)×(Bool×List WV)}{o:Nat}{k:List FV}{es:List MapE}{q:Option Nat}{r:AR}(h:entE m o k es q=some r):r.rd=[o]:=by unfold entE at h;grind
theorem Yb {m:(Bool×List EK)×(Bool×List WV)}{h h':Nat->AObj}{x key:TV}{r:AR}(b:wC m h x key=some r)(e:∀k∈r.rd,h' k=h k):wC m h' x key=some r:=by
 unfold wC at b ⊢;split at b
 .split at b
  .rename_i g d;obtain⟨o,es⟩:=g;split at b;next q f=>simp only[u9 d<|e o<|by rw[entE_rd b];simp,f,b]
   .cases b
  .cases b
 .cases b
theorem qN {h h':Nat->AObj}{x s v:TV}{r:AR}(b:wu h x s v=some r)(g:∀k∈r.rd,h' k=h k):wu h' x s v=some r:=by
 unfold wu at b ⊢;split at b
 .rename_i i u n m f e;obtain⟨o,es⟩:=i;split at b
  .rename_i p d;split at b<;>simp only[tL,reduceCtorEq] at b;rename_i j;subst b;simp only[u9 f<|g o zb,d,e,j,tZ]
  .cases b
 .cases b
theorem uo {m:(Bool×List EK)×(Bool×List WV)}{h h':Nat->AObj}{x key v:TV}{r:AR}(b:yG m h x key v=some r)(f:∀k∈r.rd,h' k=h k):yG m h' x key v=some r:=by
 unfold yG at b ⊢;split at b
 .rename_i k g p i;split at b
  .rename_i j d;obtain⟨o,es⟩:=j;split at b
   .rename_i q e;injection b with b;subst b
    simp only[u9 d<|f o zb,e]
   .cases b
  .cases b
 .cases b
theorem Zz {h h':Nat->AObj}{x:TV}{o:Nat}{es:List MapZ}(b:vw h x=some (o,es))(d:h' o=h o):vw h' x=some (o,es):=by unfold vw at b ⊢;grind
theorem gM {h h':Nat->AObj}{x:TV}{o:Nat}{es:List MapE}(d:j9 (λo=>flat<|h o) x=some (o,es))(b:vw h x=none)(e:h' o=h o):vw h' x=none:=by unfold j9 at d;unfold vw at b ⊢;grind
theorem fW {h h':Nat->AObj}{x:TV}{d:List Nat×List MapZ}(b:qL h x=some d)(e:∀k∈d.1,h' k=h k):qL h' x=some d:=by
 unfold qL at b ⊢;split at b
 .exact b
 .obtain⟨p,f,rfl⟩:=tH.1 b;rw[Zz (o:=p.1) (es:=p.2) f<|e p.1 zb];rfl
theorem ly {h h':Nat->AObj}{x:TV}{f:List Nat×List MapE}(d:mapL (λo=>flat<|h o) x=some f)(b:qL h x=none)(g:∀k∈f.1,h' k=h k):qL h' x=none:=by
 unfold qL at b ⊢;split at b
 .cases b
 .rename_i e;unfold mapL at d;split at d
  .exact(e _ rfl).elim
  .obtain⟨p,i,rfl⟩:=tH.1 d;rw[gM (o:=p.1) (es:=p.2) i (Option.map_eq_none_iff.1 b)<|g p.1 zb];rfl
theorem Jc {m:(Bool×List EK)×(Bool×List WV)}{h h':Nat->AObj}{x key:TV}{ok:Bool}{r:AR}(b:wv m h x key ok=some r)(f:∀k∈r.rd,h' k=h k):wv m h' x key ok=some r:=by
 unfold wv at b;split at b
 .rename_i j d;have e:r.rd=j.1:=by
   split at b
   .split at b
    .obtain⟨v,_,rfl⟩:=tH.1 b;rfl
    .obtain⟨v,_,rfl⟩:=tH.1 b;rfl
    .cases b
   .cases b
  unfold wv;simp only[fW d λk i=>f k<|by rw[e];exact i];exact b
 .rename_i p;have u:=jG (h':=λo=>flat<|h' o) b (λk i=>by simp only[f k i]);have g:qL h' x=none:=by
   unfold wY at b;split at b
   .split at b
    .rename_i j d;split at b
     .obtain⟨v,_,rfl⟩:=tH.1 b;exact ly d p f
     .cases b
    .cases b
   .cases b
  unfold wv;simp only[g];exact u
theorem ZI {m:(Bool×List EK)×(Bool×List WV)}{h h':Nat->AObj}{x key v:TV}{r:AR}(b:yS m h x key v=some r)(f:∀k∈r.rd,h' k=h k):yS m h' x key v=some r:=by
 unfold yS at b;split at b
 .rename_i e d;obtain⟨o,es⟩:=e;have g:r.rd=[o]:=by
   split at b
   .split at b
    .obtain⟨v,_,rfl⟩:=tH.1 b;rfl
    .cases b
   .cases b
  unfold yS;simp only[Zz d<|f o zd];exact b
 .rename_i j;have p:=uo (h':=λo=>flat<|h' o) b (λk u=>zd);have i:vw h' x=none:=by
   unfold yG at b;split at b
   .split at b
    .rename_i e d;obtain⟨o,es⟩:=e;split at b
     .injection b with b;subst b
      exact gM d j<|f o zb
     .cases b
    .cases b
   .cases b
  unfold yS;grind
theorem mH {P:Program}{o:Oper}{fr:Nat}{ρ e:Operand->TV}{h:Nat->AObj}(f:∀x∈o.op.operands,e x=ρ x):aop P o fr e h=aop P o fr ρ h:=by
 obtain⟨C,D,z,A,v,w⟩:=o
 have g:∀i:Array<|Nat×Operand,(∀x∈(i.toList.map (·.2)),e x=ρ x)->(i.toList.map λp=>(p.1,e p.2))=(i.toList.map λp=>(p.1,ρ p.2)):=λi f=>
  AY λp E=>zd
 have d:∀o:Option Operand,(∀x∈o.toArray,e x=ρ x)->o.map e=o.map ρ:=λo F=>by cases o<;>simp_all
 cases D;case build t i=>simp only[aop];rw[g i λx u=>f x<|by simpa[Op.operands] using u]
 case buildSlice t n i=>simp only[aop];rw[g i λx u=>f x<|by simpa[Op.operands] using u]
 case makeFunc fn first captured=>simp only[aop];rw[AY (l:=first.toList) λx u=>f x<|by simp[Op.operands];exact .inl zd,AY (l:=captured.toList) λx u=>f x<|by simp[Op.operands];exact .inr zd]
 case slice t x lo hi mx=>simp only[aop];rw[f x<|by simp[Op.operands],d lo λy j=>f y<|by simp[Op.operands] at j ⊢;simp[j],d hi λy j=>f y<|by simp[Op.operands] at j ⊢;simp[j],d mx λy j=>f y<|by simp[Op.operands] at j ⊢;simp[j]]
 case call c=>
  obtain⟨callee,args,G⟩:=c;cases callee with
  |builtin b=>simp only[aop];rw[AY (l:=args.toList) λx u=>f x<|by simp[Op.operands,Call.operands];exact zp u]
  |value x=>rfl
  |invoke x m=>rfl
 case makeMap t r=>cases r<;>rfl
 all_goals simp only[aop,Op.operands] at f ⊢
 all_goals first
  |rfl
  |(simp only[List.mem_toArray,A1,List.not_mem_nil,or_false,forall_eq_or_imp,forall_eq] at f;simp only[f])
theorem dV {d:TyD}{h h':Nat->AObj}{x:TV}{r:TV×List Nat}(b:wS d h x=some r)(e:∀k∈r.2,h' k=h k):wS d h' x=some r:=by
 unfold wS at b ⊢;split at b
 .grind
 .exact b
 .cases b
theorem Zx {d:TyD}{h h':Nat->AObj}{x y:TV}{r:AR}(b:vS d h x y=some r)(e:∀k∈r.rd,h' k=h k):vS d h' x y=some r:=by unfold vS at b ⊢;grind
theorem wg {n:Nat}{h h':Nat->AObj}{x:TV}{r:List (List WV)×List Nat}(b:w4 n h x=some r)(d:∀k∈r.2,h' k=h k):w4 n h' x=some r:=by unfold w4 at b ⊢;grind
theorem J3 {d:TyD}{fr:Nat}{h h':Nat->AObj}{s x:TV}{r:AR}(b:jq d fr h s x=some r)(f:∀k∈r.rd,h' k=h k):jq d fr h' s x=some r:=by
 unfold jq at b ⊢;split at b
 .rename_i u;rw[tG u];unfold xC at b ⊢;cases e:w4 d.size h x with
  |none=>rw[e] at b;cases b
  |some q=>
   obtain⟨p,rd⟩:=q;rw[e] at b;simp only at b;split at b
   .have:∀k∈rd,h' k=h k:=by grind
    rw[wg e this];exact b
   .have:∀k∈rd,h' k=h k:=by grind
    rw[wg e this];exact b
   .rename_i o n j g;split at b
    .rename_i m es w;split at b
     .rename_i i;injection b with b;subst b
      rw[wg e λk v=>f k<|tK _ v];grind
     .cases b
    .cases b
   .cases b
 .cases b
theorem pH {d:TyD}{h h':Nat->AObj}{x:TV}{r:Nat×List Nat}(b:lenP d h x=some r)(e:∀k∈r.2,h' k=h k):lenP d h' x=some r:=by
 unfold lenP at b ⊢;split at b
 .exact b
 .exact b
 .unfold t5 at b ⊢;grind
 .exact b
 .cases b
theorem jY {P:Program}{o:Oper}{fr:Nat}{ρ:Operand->TV}{h h':Nat->AObj}{r:AR}(f:aop P o fr ρ h=some r)(j:∀k∈r.rd,h' k=h k):aop P o fr ρ h'=some r:=by
 obtain⟨d,F,t,p,H,g⟩:=o;cases F;case load lt x=>simp only[aop] at f ⊢;obtain⟨w,hd,i⟩:=zN f;obtain⟨q,D,rfl⟩:=tH.1 i;simp only[yy,hd,dV D j,tW]
 case store st x y=>simp only[aop] at f ⊢;obtain⟨w,hd,i⟩:=zN f;simp only[yy,hd,Zx i j]
 case convert src dst x=>
  simp only[aop] at f ⊢;split at f
  .obtain⟨w,hd,i⟩:=zN f;simp only[textA,yy,hd];split at i
   .split at i;next es rd E=>obtain⟨l,A,rfl⟩:=tH.1 i;simp only[wg E j,A,tW]
    .cases i
   .cases i
  .exact f
 case call c=>
  obtain⟨callee,args,J⟩:=c;cases callee with
  |builtin b=>
   simp only[aop] at f ⊢;unfold xU at f ⊢;split at f
   .obtain⟨w,hd,i⟩:=zN f;obtain⟨q,D,rfl⟩:=tH.1 i;simp only[yy,hd,pH D j,tW]
   .split at f;next z=>obtain⟨w,e,I,hd,G,C,i⟩:=yb f;rw[tG z];unfold yj;rw[hd];simp only;rw[G];simp only;rw[C];exact J3 i j
    .grind
   .exact f
   .exact f
   .exact f
   .cases f
  |value x=>exact f
  |invoke x m=>exact f
 case lookup lt x ix ok=>simp only[aop] at f ⊢;obtain⟨m,u,i⟩:=yA f;simp only[xA,u,jG i j]
 case mapEntry lt x k=>simp only[aop] at f ⊢;obtain⟨m,u,i⟩:=yA f;simp only[xA,u,Yb i j]
 case entryStore lt x s v=>simp only[aop] at f ⊢;exact qN f j
 case mapUpdate lt x k v=>simp only[aop] at f ⊢;obtain⟨m,u,i⟩:=yA f;simp only[xA,u,uo i j]
 case makeMap lt r=>cases r<;>exact f
 all_goals exact f
theorem gy {d:TyD}{h h':Nat->AObj}{x y:TV}{r:AR}(b:ut d h x y=some r)(e:∀k∈r.rd,h' k=h k):ut d h' x y=some r:=by
 unfold ut at b ⊢;split at b
 .rename_i cs o n i j g;split at b
  .grind
  .rename_i m;have f:r.rd=[o]:=by unfold vS at b;grind
   have p:h' o=h o:=e o zd;split
   .grind
   .exact Zx b e
 .cases b
theorem Kc {n:Nat}{h h':Nat->AObj}{x:TV}(e:∀o m d b,x=.c (.a<|.osl o m d b)->h' o=h o):uC n h' x=uC n h x:=by unfold uC;grind
theorem oQ {n:Nat}{h:Nat->AObj}{o m d b:Nat}{e:List (List FV)}{rd:List Nat}(f:uC n h (.c<|.a<|.osl o m d b)=some (e,rd)):o∈rd:=by unfold uC at f;grind
theorem Wc {n:Nat}{h:Nat->AObj}{o m d b:Nat}{e:List (List WV)}{rd:List Nat}(f:w4 n h (.c<|.a<|.osl o m d b)=some (e,rd)):o∈rd:=by unfold w4 at f;grind
theorem qO {d:TyD}{fr:Nat}{h:Nat->AObj}{s x:TV}{r:AR}(e:xC d fr h s x=some r):∃b rd,w4 d.size h x=some (b,rd)/\(∀k∈rd,k∈r.rd):=by unfold xC at e;grind
theorem qm {d:TyD}{fr:Nat}{h h':Nat->AObj}{s x:TV}{r:AR}(f:xC d fr h s x=some r)(g:∀k∈r.rd,h' k=h k):xC d fr h' s x=some r:=by obtain⟨j,rd,e,b⟩:=qO f;unfold xC at f ⊢;rw[e] at f;rw[wg e λk i=>g k<|b k i];grind
theorem JK {d:TyD}{fr:Nat}{h h':Nat->AObj}{s x:TV}{r:AR}(b:wo d fr h s x=some r)(z:∀k∈r.rd,h' k=h k):wo d fr h' s x=some r:=by
 have f:∀k∈r.rd,flat (h' k)=flat (h k):=λk F=>zd;have C:∀o m j g,x=.c (.a<|.osl o m j g)->h' o=h o:=by
  intro o m j g e;subst e;unfold wo at b;split at b
  .rename_i v rd i;have D:=oQ i;split at b
   .grind
   .grind
   .split at b
    .grind
    .obtain⟨p,y,w,u⟩:=qO b;exact z o<|u o<|Wc w
   .cases b
  .obtain⟨p,y,w,u⟩:=qO b;exact z o<|u o<|Wc w
 unfold wo at b ⊢;rw[Kc C];split at b
 .rename_i v rd i;split at b
  .exact b
  .exact b
  .rename_i o n j g;split at b
   .grind
   .rename_i A;have E:h' o=h o:=by
     have:o∈r.rd:=by unfold xC at b;grind
     grind
    split
    .grind
    .exact qm b f
  .cases b
 next i=>exact qm b f
theorem Xb {h h':Nat->AObj}{x:WV}(e:∀k∈oslW x,h' k=h k):qa h' x=qa h x:=by
 unfold qa;split;next o n b d=>rw[e o<|by simp[oslW]]
 .rfl
theorem Zp {h h':Nat->AObj}:∀ {l:List WV},(∀k∈l.flatMap oslW,h' k=h k)->vd h' l=vd h l
 |[],_=>rfl
 |x::l,b=>by simp only[vd];rw[Xb λk d=>b k zd,Zp λk d=>b k zd]
theorem dT {h h':Nat->AObj}{x:TV}(b:∀k∈oslT x,h' k=h k):ZF h' x=ZF h x:=by
 cases x with
 |c x=>simp only[ZF];rw[Xb b]
 |agg cs=>simp only[ZF];rw[Zp b]
 |_=>rfl
theorem jB {h h':Nat->AObj}:∀ {l:List (Nat×TV)},(∀k∈oslP l,h' k=h k)->ve h' l=ve h l
 |[],_=>rfl
 |(i,x)::l,d=>by simp only[ve];rw[dT λk b=>d k<|by simp only[oslP,List.flatMap_cons];exact Eo _ b,jB λk b=>d k<|by simp only[oslP,List.flatMap_cons];exact EX _ b]
theorem l7 {P:Program}{o:Oper}{fr:Nat}{ρ f:Operand->TV}{h:Nat->AObj}(d:∀x∈o.op.operands,f x=ρ x):aopF P o fr f h=aopF P o fr ρ h:=by
 have w:=mH (P:=P) (o:=o) (fr:=fr) (h:=λo=>flat<|h o) d;obtain⟨C,D,z,A,j,u⟩:=o
 have e:∀g:Array<|Nat×Operand,(∀x∈(g.toList.map (·.2)),f x=ρ x)->(g.toList.map λp=>(p.1,f p.2))=(g.toList.map λp=>(p.1,ρ p.2)):=λg d=>
  AY λp E=>zd
 cases D;case build t g=>simp only[aopF];rw[e g λx i=>d x<|by simpa[Op.operands] using i]
 case buildSlice t n g=>simp only[aopF];rw[e g λx i=>d x<|by simpa[Op.operands] using i]
 case store t x y=>simp only[aopF];rw[d x<|by simp[Op.operands],d y<|by simp[Op.operands]]
 case call c=>
  obtain⟨callee,args,F⟩:=c;cases callee with
  |builtin b=>simp only[aopF];rw[AY (l:=args.toList) λx i=>d x<|by simp[Op.operands,Call.operands];exact zp i]
  |value x=>exact w
  |invoke x m=>exact w
 case makeSlice t l c=>simp only[aopF];rw[d l<|by simp[Op.operands],d c<|by simp[Op.operands]]
 case lookup t x ix ok=>simp only[aopF];rw[d x<|by simp[Op.operands],d ix<|by simp[Op.operands]]
 case mapUpdate t x k v=>simp only[aopF];rw[d x<|by simp[Op.operands],d k<|by simp[Op.operands],d v<|by simp[Op.operands]]
 case makeMap t r=>cases r<;>rfl
 all_goals exact w
theorem mD {P:Program}{o:Oper}{fr:Nat}{ρ:Operand->TV}{h h':Nat->AObj}{r:AR}(b:aopF P o fr ρ h=some r)(j:∀k∈r.rd,h' k=h k):aopF P o fr ρ h'=some r:=by
 have f:∀k∈r.rd,flat (h' k)=flat (h k):=λk F=>zd;cases d:o.op;case store st x y=>simp only[aopF,d] at b ⊢;obtain⟨H,hd,i⟩:=zN b;simp only[yy,hd,gy i j]
 case build bt parts=>simp only[aopF,d] at b ⊢;obtain⟨v,C,rfl⟩:=tH.1 b;rw[jB j,C];rfl
 case buildSlice st len parts=>simp only[aopF,d] at b ⊢;obtain⟨v,C,rfl⟩:=tH.1 b;rw[jB j,C];rfl
 case call c=>
  obtain⟨callee,args,p⟩:=c;cases callee with
  |builtin bb=>
   simp only[aopF,d] at b ⊢;by_cases L:∃E t2 G D,bb=.append/\p.toList=[E,t2]/\args.toList.map ρ=[G,D]
   .obtain⟨E,t2,G,D,rfl,I,K⟩:=L;rw[I,K] at b ⊢;simp only[xL] at b ⊢;split at b
    .rename_i u;obtain⟨H,e,M,hd,F,z,i⟩:=yb b;rw[tG u];unfold yj;rw[hd];simp only;rw[F];simp only;rw[z];dsimp only;unfold Y3 at i ⊢;split at i;next J=>rw[tG J];exact JK i j
     .cases i
    .grind
   .have A:∀h,xL P bb p.toList fr h (args.toList.map ρ)=xU P bb p.toList fr (λo=>flat<|h o) (args.toList.map ρ):=by intro h;unfold xL;grind
    rw[A] at b ⊢;have e:∀g,aop P o fr ρ g=xU P bb p.toList fr g (args.toList.map ρ):=λg=>by simp only[aop,d]
    rw[<-e] at b ⊢;exact jY (h':=λo=>flat<|h' o) b f
  |value x=>
   have e:∀g,aopF P o fr ρ g=aop P o fr ρ (λk=>flat<|g k):=λg=>by simp only[aopF,d]
   rw[e] at b ⊢;exact jY b f
  |invoke x m=>
   have e:∀g,aopF P o fr ρ g=aop P o fr ρ (λk=>flat<|g k):=λg=>by simp only[aopF,d]
   rw[e] at b ⊢;exact jY b f
 case makeSlice st l c=>simp only[aopF,d] at b ⊢;exact b
 case lookup lt x ix ok=>simp only[aopF,d] at b ⊢;obtain⟨m,w,i⟩:=yA b;simp only[xA,w,Jc i j]
 case mapUpdate lt x k v=>simp only[aopF,d] at b ⊢;obtain⟨m,w,i⟩:=yA b;simp only[xA,w,ZI i j]
 case makeMap lt r=>
  cases r with
  |none=>simp only[aopF,d] at b ⊢;exact b
  |some r=>simp only[aopF,d] at b ⊢;exact jY b f
 all_goals
  have e:∀g,aopF P o fr ρ g=aop P o fr ρ (λk=>flat<|g k):=λg=>by simp only[aopF,d]
  rw[e] at b ⊢;exact jY b f
theorem pQ {P:Program}{o:Oper}{fr:Nat}{ρ b:Operand->TV}{h:Nat->AObj}(d:∀x∈o.op.operands,b x=ρ x):aopS P o fr b h=aopS P o fr ρ h:=by unfold aopS;rw[l7 d];congr 1;funext r;exact fO d
theorem nq {P:Program}{o:Oper}{fr:Nat}{ρ:Operand->TV}{h h':Nat->AObj}{r:AR}(d:aopS P o fr ρ h=some r)(b:∀k∈r.rd,h' k=h k):aopS P o fr ρ h'=some r:=by obtain⟨r0,e,rfl⟩:=tH.1 d;rw[softA_rd] at b;unfold aopS;rw[mD e b,tW,lk b]
theorem pX {P:Program}{f:FuncId}{args:List TV}{h h':Nat->AObj}{fr:Nat}{r:TV}{u:AHeap}{rd:List Nat}(M:CallK P f args h fr λr' e d=>r'=r/\e=u/\d=rd)(j:∀k∈rd,h' k=h k):
  CallK P f args h' fr (λr' e d=>r'=r/\e=u/\d=rd):=by
 obtain⟨b,L,args',Hs,r0,Hs',H,g,A,⟨V,K⟩,v,S,U,o,F,D,J,N,w⟩:=M;subst w;have G:∀i∈b,h' i=h i:=λi G=>j i zd;refine⟨b,L,args',Hs,r0,Hs',H,g,A,⟨?_,K⟩,v,S,λi m=>zd,?_,F,λi m=>?_,J,N,rfl⟩
 .simp_all
 .rcases o with o|⟨z,x,C,E⟩
  .grind
  .exact .inr ⟨λp I=>by rw[j p.1 zd];exact z p I,x,C,E⟩
 .have O:=D i m;obtain⟨k,y,T,_,_⟩:=Yg g.1 O;grind
theorem ln {P:Program}{f:FuncId}{args:List TV}{h h':Nat->AObj}{fr:Nat}{r:TV}{u:AHeap}{rd:List Nat}(T:CallE P f args h fr λr' o i=>r'=r/\o=u/\i=rd)(z:∀k∈rd,h' k=h k):
  CallE P f args h' fr (λr' o i=>r'=r/\o=u/\i=rd):=by
 obtain⟨E,C,b,L,args',Hs,r0,Hs',N,w,H,V,y,X,S,J,F,K,k1,k2,k3⟩:=T;have j:E.ok h':=λp O=>by rw[z p.1 zd];exact C p O
 have e:∀k∈b++L.map Prod.fst,over (E.map λp=>(p.1,AObj.gone)) h' k=over (E.map λp=>(p.1,AObj.gone)) h k:=by intro k hk;unfold over;grind
 obtain⟨g,L',d,Hs2,v,Hs2',G,D,I,M,A,x,U,W,F',m,Y,Z,j3⟩:=pX (r:=r0.ren<|sub b fr) (u:=(yC (sub b fr) b Hs'++xO (sub b fr) fr (Hs'.drop b.length)).filter λp=> !F.contains p.1) (rd:=b++L.map Prod.fst) ⟨b,L,args',Hs,r0,Hs',N,w,H,V,y,X,S,J,F,K,rfl,rfl,rfl⟩ e;exact⟨E,j,g,L',d,Hs2,v,Hs2',G,D,I,M,A,x,U,W,F',m,zd,zd,zd⟩
theorem qJ {f:Array Oper}{o:Oper}{e i:Nat->TV}(h:∀t∈o.looksAt f,i t=e t):want f o i=want f o e:=by
 unfold want;cases m:o.guard with
 |none=>rfl
 |some g=>
  obtain⟨j,b⟩:=g;simp only;cases hd:(f[j]?).bind (·.dst) with
  |none=>rfl
  |some d=>
   have:i d=e d:=h d (by simp[Oper.looksAt,m,hd]);grind
theorem K3 {P:Program}{i:Array Oper}{o:Oper}{fr:Nat}{e u:Nat->TV}{h h':Nat->AObj}{w:Dl}(A:OpStep P i o fr e h w)(p:∀t∈o.looksAt i,u t=e t)(z:∀k∈w.rd,h' k=h k):OpStep P i o fr u h' w:=by
 have b:∀x∈o.op.operands,evF u x=evF e x:=λx H=>nN λt C=>p t (by subst C;exact Eo _ (List.mem_filterMap.2 ⟨.tmp t,zd,rfl⟩));cases A with
 |skip m=>exact .skip (by rw[qJ p];exact m)
 |plain r m d D=>exact .plain r (by rw[qJ p];exact m) d<|nq (by rw[pQ b];exact D) z
 |call c f args r upd rd m d E F=>
  refine .call c f args r upd rd (by rw[qJ p];exact m) d ?_<|ln F z;rw[<-E];have j:o.op.operands=c.operands:=by
   unfold goCall at d;split at d;next v=>injection d with d;subst d;rw[v];rfl
   .cases d
  rw[j] at b;unfold calleeOf;cases g:c.callee with
  |value x=>simp only;rw[b x<|by simp[Call.operands,g],AY (l:=c.args.toList) λy G=>b y<|by simp[Call.operands,g];exact .inr zd]
  |_=>rfl
inductive Chain (P:Program)(ops:Array Oper)(nx:Nat):List Oper->Nat->(Nat->TV)->(Nat->AObj)->List Dl->Prop
 |nil (i:Nat) (e:Nat->TV) (h:Nat->AObj):Chain P ops nx [] i e h []
 |cons (o:Oper) (l:List Oper) (i:Nat) (e:Nat->TV) (h:Nat->AObj) (δ:Dl) (δs:List Dl):OpStep P ops o (nx+32*i) e h δ->δ.dst=o.dst->Chain P ops nx l (i+1) (putF δ.dst δ.val e) (over δ.upd h) δs->Chain P ops nx (o::l) i e h (δ::δs)
def endE (e:Nat->TV):List Dl->(Nat->TV)
 |[]=>e
 |δ::δs=>endE (putF δ.dst δ.val e) δs
def endH (h:Nat->AObj):List Dl->(Nat->AObj)
 |[]=>h
 |δ::δs=>endH (over δ.upd h) δs
theorem gA (u H:AHeap):hook (u++H)=over u (hook H):=funext λo=>dg u H o
theorem qq {P:Program}{u:Array Oper}{nx:Nat}{K:Env->AHeap->wq->Prop}:∀(l:List Oper) (i:Nat) (e:Env) (h:AHeap) (v:wq),lex P u nx l i e h v K->
  ∃b x h' m,Chain P u nx l i (look e) (hook h) b/\look x=endE (look e) b/\hook h'=endH (hook h) b/\m=(b.map λd=>(d.rd,d.upd.map Prod.fst)).reverse++v/\K x h' m
 |[],i,e,h,v,g=>⟨[],e,h,v,.nil _ _ _,rfl,rfl,rfl,g⟩
 |o::l,i,e,h,v,g=>by
  have fin:∀(d:Dl) (C:Env) (A:AHeap),OpStep P u o (nx+32*i) (look e) (hook h) d->d.dst=o.dst->look C=putF d.dst d.val (look e)->hook A=over d.upd (hook h)->
    lex P u nx l (i+1) C A ((d.rd,d.upd.map Prod.fst)::v) K->
    ∃b x h' m,Chain P u nx (o::l) i (look e) (hook h) b/\look x=endE (look e) b/\hook h'=endH (hook h) b/\m=(b.map λd=>(d.rd,d.upd.map Prod.fst)).reverse++v/\K x h' m:=by
   intro d C A T hd N J g;obtain⟨b,x,h',m,S,M,c3,c4,Z⟩:=qq l (i+1) C A _ g;rw[N,J] at S;rw[N] at M;rw[J] at c3;exact⟨d::b,x,h',m,.cons o l i _ _ d b T hd S,M,c3,zd,Z⟩
  rw[lex] at g;unfold K0 at g;split at g
  .grind
  .rename_i w I;split at g
   .rename_i z;subst z;unfold pO at g;split at g
    .rename_i c G;split at g
     .rename_i f args O;have y:calleeOf (evF<|look e) c=some (f,args):=by assumption
      obtain⟨E,W,j,L,args',Hs,r,Hs',Y,X,g3,g4,V,U,g7,g8,F,hF,hk⟩:=g
      exact fin ⟨o.dst,r.ren<|sub j<|nx+32*i,((yC (sub j<|nx+32*i) j Hs'++xO (sub j<|nx+32*i) (nx+32*i) (Hs'.drop j.length)).filter λp=> !F.contains p.1)++E.map λp=>(p.1,AObj.gone),(j++L.map Prod.fst)++E.map Prod.fst⟩ _ _
       (.call c f args _ _ _ I G y ⟨E,W,j,L,args',Hs,r,Hs',Y,X,g3,g4,V,U,g7,g8,F,hF,rfl,rfl,rfl⟩) rfl (YQ _ _ _) (gA _ _) hk
     .grind
    .rename_i G;split at g
     .rename_i r hr;have D:aopS P o (nx+32*i) (evF<|look e) (hook h)=some r:=by assumption
      exact fin ⟨o.dst,r.val,r.upd,r.rd⟩ _ _ (.plain r I G D) rfl (YQ _ _ _) (gA _ _) g
     .grind
   .rename_i z;have H:w=false:=zd;subst H;exact fin ⟨o.dst,.tup [],[],[]⟩ _ _ (.skip I) rfl (YQ _ _ _) (by rfl) g
section
variable {P:Program} {ops:Array Oper} {w0:World} {foot:Nat->Prop} {Y:Nat->Prop} {pin:Nat->Option (Option Nat)}
theorem jU {nx sz:Nat}(v:∀(j:Nat) (q:Oper) (d:Nat),ops[j]?=some q->q.dst=some d->d<sz){Q:Exit->Act->World->Prop}:∀(l:List Oper) (i:Nat) (e:Nat->TV) (h:Nat->AObj) (f:List Dl) (β:Nat->Option Nat) (a:Act) (w:World),
  (∀o∈l,∃j:Nat,ops[j]?=some o)->Chain P ops nx l i e h f->a.tmps.size=sz->RelF P w0 foot Y pin e h β a w->(∀k,Occ pin β k->k<nx+32*i)->(∀p w' g,p.tmps.size=sz->p.defers=a.defers->RelF P w0 foot Y pin (endE e f) (endH h f) g p w'->(∀k,Occ pin g k->k<nx+32*(i+l.length))->Q .normal p w')->wpList P ops Q l a w
 |[],i,e,h,f,β,a,w,_,u,r,C,x,G=>by cases u;exact G a w β r rfl C za
 |o::l,i,e,h,f,β,a,w,m,u,r,C,x,G=>by
  cases u with
  |cons _ _ _ _ _ V f M hd u=>
   obtain⟨j,U⟩:=m o zb;refine wpList_step λK T=>?_;have L:∀j,j<32->β (nx+32*i+j)=none:=by
    intro j _;cases F:β (nx+32*i+j) with
    |none=>rfl
    |some b=>have:=x (nx+32*i+j) (.inl zd);omega
   have A:∀j,j<32->pin (nx+32*i+j)=none:=by
    intro j _;cases F:pin (nx+32*i+j) with
    |none=>rfl
    |some b=>have:=x (nx+32*i+j) (.inr zd);omega
   refine ZE C L A zd (λd hd=>zd) M λp w' g O D I H=>?_;refine T p w'<|jU v l (i+1) _ _ f g p w' (λo S=>m o<|tK _ S) u za I (λk hk=>?_) λJ E z h1 y N W=>G J E z h1 (y.trans D) N λk hk=>?_
   .rcases hk with hk|hk
    .rcases H k hk with h1|h1
     .have:=x k (.inl h1);omega
     .omega
    .have:=x k (.inr hk);omega
   .grind
end
def eD (e0:Nat->TV)(δ:Nat->Dl)(D:Nat->Bool):Nat->(Nat->TV)
 |0=>e0
 |k+1=>if D k=true then putF (δ k).dst (δ k).val (eD e0 δ D k) else eD e0 δ D k
def hD (h0:Nat->AObj)(δ:Nat->Dl)(D:Nat->Bool):Nat->(Nat->AObj)
 |0=>h0
 |k+1=>if D k=true then over (δ k).upd (hD h0 δ D k) else hD h0 δ D k
theorem wE {d:Option Nat}{v:TV}{e:Nat->TV}{t:Nat}(h:d=some t):putF d v e t=v:=by subst h;simp[putF,AM.upd]
theorem kD {d:Option Nat}{v:TV}{e:Nat->TV}{t:Nat}(h:d≠some t):putF d v e t=e t:=by
 cases d with
 |none=>rfl
 |some i=>simp only[putF,AM.upd];rw[tD λe=>h<|by rw[e]]
theorem wF {u:AHeap}{h:Nat->AObj}{x:Nat}(b:y4 u x=none):over u h x=h x:=by simp[over,b]
variable {e0:Nat->TV} {h0:Nat->AObj} {δ:Nat->Dl}
theorem J7 {D D':Nat->Bool}{t:Nat}:∀k,(∀j,j<k->(δ j).dst=some t->D j=D' j)->eD e0 δ D k t=eD e0 δ D' k t
 |0,_=>rfl
 |k+1,h=>by
  have ih:=J7 k (λj b=>h j za);simp only[eD];by_cases hd:(δ k).dst=some t
  .have:=h k za hd;rw[this];split
   .rw[wE hd,wE hd]
   .exact ih
  .split<;>split<;>simp only[kD hd,ih]
theorem Jx {D D':Nat->Bool}{x:Nat}:∀k,(∀j,j<k->y4 (δ j).upd x≠none->D j=D' j)->hD h0 δ D k x=hD h0 δ D' k x
 |0,_=>rfl
 |k+1,h=>by
  have ih:=Jx k (λj b=>h j za);simp only[hD];cases hd:y4 (δ k).upd x with
  |some y=>
   have:=h k za (by rw[hd];simp);rw[this];split
   .simp[over,hd]
   .exact ih
  |none=>split<;>split<;>simp only[wF hd,ih]
def add (D:Nat->Bool)(i k:Nat):Bool:=if k=i then true else D k
theorem eD_add {D:Nat->Bool}{i t:Nat}(m:D i=false):∀n,i<n->(∀j,i<j->j<n->D j=true->(δ i).dst=some t->(δ j).dst≠some t)->eD e0 δ (add D i) n t=putF (δ i).dst (δ i).val (eD e0 δ D n) t
 |0,h,_=>za
 |n+1,h,g=>by
  by_cases f:i=n
  .subst f;simp only[eD,add,tZ,m,tX,A6];by_cases hd:(δ i).dst=some t
   .rw[wE hd,wE hd]
   .rw[kD hd,kD hd];exact J7 i (λj p _=>by simp[add,(za:j≠i)])
  .have ih:=eD_add m n za (λj o r=>g j o za);simp only[eD,add,show¬n=i from λe=>f e.symm,A6];by_cases d:D n=true
   .simp only[d,tZ];by_cases hd:(δ n).dst=some t
    .have b:(δ i).dst≠some t:=λb=>g n za za d b hd;rw[wE hd,kD b,wE hd]
    .rw[kD hd];by_cases b:(δ i).dst=some t
     .rw[wE b];rw[wE b] at ih;exact ih
     .rw[kD b,kD hd];rw[kD b] at ih;exact ih
   .rw[tD d,tD d];exact ih
theorem hD_add {D:Nat->Bool}{i x:Nat}(m:D i=false):∀n,i<n->(∀j,i<j->j<n->D j=true->y4 (δ i).upd x≠none->y4 (δ j).upd x=none)->hD h0 δ (add D i) n x=over (δ i).upd (hD h0 δ D n) x
 |0,h,_=>za
 |n+1,h,g=>by
  by_cases f:i=n
  .subst f;simp only[hD,add,tZ,m,tX,A6];cases hd:y4 (δ i).upd x with
   |some y=>simp[over,hd]
   |none=>rw[wF hd,wF hd];exact Jx i (λj p _=>by simp[add,(za:j≠i)])
  .have ih:=hD_add m n za (λj o r=>g j o za);simp only[hD,add,show¬n=i from λe=>f e.symm,A6];by_cases d:D n=true
   .simp only[d,tZ];cases hd:y4 (δ n).upd x with
    |some y=>
     have b:y4 (δ i).upd x=none:=by
      cases b:y4 (δ i).upd x with
      |none=>rfl
      |some z=>have:=g n za za d (by rw[b];simp);rw[hd] at this;cases this
     rw[wF b];simp[over,hd]
    |none=>
     rw[wF hd];cases b:y4 (δ i).upd x with
     |some y=>simp only[over,b] at ih ⊢;exact ih
     |none=>rw[wF b,wF hd];rw[wF b] at ih;exact ih
   .rw[tD d,tD d];exact ih
inductive Anc (ops:Array Oper)(i:Nat):Nat->Prop
 |one (j:Nat) (o:Oper) (e:Edge):ops[j]?=some o->e∈o.after->Region.binds .any e=true->e.on=i->Anc ops i j
 |more (j:Nat) (o:Oper) (e:Edge):ops[j]?=some o->e∈o.after->Region.binds .any e=true->Anc ops i e.on->Anc ops i j
theorem Ww {b:Array Oper} {D:Nat->Bool} (hD:∀(j:Nat) (o:Oper) (e:Edge),b[j]?=some o->D j=true->e∈o.after->Region.binds .any e=true->D e.on=true) {i j:Nat} (h:Anc b i j)
  (m:∀(o:Oper) (e:Edge),b[j]?=some o->e∈o.after->Region.binds .any e=true->D e.on=true):D i=true:=by
 induction h with
 |one j o e f g d v=>rw[<-v];exact m o e f g d
 |more j o e f g d _ ih=>exact ih λo' w p r u=>hD _ o' w p (m o e f g d) r u
theorem Wf {b:Array Oper}(p:∀(j:Nat) (o:Oper) (e:Edge),b[j]?=some o->e∈o.after->Region.binds .any e=true->e.on<j)(j i:Nat)(h:((Region.before b).getD j 0).testBit i=true):Anc b i j:=by
 let F:Array Nat->Oper->Array Nat:=λacc o=>acc.push<|o.after.foldl (λs e=>if Region.binds .any e then s ||| 2^e.on ||| acc.getD e.on 0 else s) 0;have key:∀(l:List Oper) (k:Nat) (acc:Array Nat),(∀j,l[j]?=b[k+j]?)->acc.size=k->(∀j,j<k->∀i,(acc.getD j 0).testBit i=true->Anc b i j)->∀j i,((l.foldl F acc).getD j 0).testBit i=true->Anc b i j:=by
  intro l
  induction l with
  |nil=>
   intro k acc _ m f j i hb;simp only[List.foldl_nil] at hb;by_cases z:j<k
   .exact f j z i hb
   .rw[Au,Array.getElem?_eq_none za] at hb;simp at hb
  |cons o l ih=>
   intro k acc C m f j i hb;simp only[Ek] at hb;have y:b[k]?=some o:=by simpa using (C 0).symm
   refine ih (k+1) (F acc o) (λj=>by have:=C (j+1);simpa[EA,EO 1 j] using this) (by simp[F,m]) (λj z i hb=>?_) j i hb;by_cases g:j<k
   .refine f j g i ?_;simp only[F,Au,A8,show¬j=acc.size by omega,A6] at hb;simpa[Au] using hb
   .have g:j=k:=za;subst g;simp only[F,Au,A8,m,tZ,AU] at hb;have v:∀(es:List Edge),(∀e∈es,e∈o.after)->∀s,(s.testBit i=true->Anc b i j)->((es.foldl (λs e=>if Region.binds .any e then s ||| 2^e.on ||| acc.getD e.on 0 else s) s).testBit i=true)->Anc b i j:=by
     intro es
     induction es with
     |nil=>intro _ s w hb;exact w hb
     |cons e es x=>
      intro u s w hb;simp only[Ek] at hb;refine x (λe h=>u e<|tK _ h) _ (λhb=>?_) hb;have r:=u e zb;split at hb
      .rename_i d;simp only[Nat.testBit_or,Nat.testBit_two_pow,Ey,Ak] at hb;rcases hb with(hb|hb)|hb
       .exact w hb
       .exact .one j o e y r d hb
       .have A:=p j o e y r d;exact .more j o e y r d<|f e.on A i hb
      .exact w hb
    refine v o.after.toList (λe h=>zp h) 0 (λh=>by simp at h) ?_;rw[<-S9] at hb;simpa[Au] using hb
 have:=key b.toList 0 #[] (λj=>zb) rfl (λj z=>za) j i;apply this;rw[S9];exact h
theorem Kh {P:Program}{g:Array Oper}{nx:Nat}:∀ {l:List Oper} {i:Nat} {e:Nat->TV} {h:Nat->AObj} {b:List Dl},Chain P g nx l i e h b->b.length=l.length/\
  ∀k o,l[k]?=some o->∃d,b[k]?=some d/\d.dst=o.dst/\OpStep P g o (nx+32*(i+k)) (endE e<|b.take k) (endH h<|b.take k) d
 |[],i,e,h,b,j=>by cases j;exact⟨rfl,λk o f=>by simp at f⟩
 |o::l,i,e,h,b,j=>by
  cases j with
  |cons _ _ _ _ _ d b m hd j=>
   obtain⟨w,x⟩:=Kh j;refine⟨by simp[w],λk o' f=>?_⟩;cases k with
   |zero=>simp at f;subst f;exact⟨d,rfl,hd,by simpa[endE,endH] using m⟩
   |succ k=>obtain⟨p,r,u,v⟩:=x k o' (zp f);refine⟨p,zp r,u,?_⟩;rw[(za:i+(k+1)=i+1+k)];simpa[endE,endH] using v
theorem rN (e0:Nat->TV)(b:List Dl)(g:Dl)(D:Nat->Bool):∀k,k<=b.length->(∀j,j<k->D j=true)->endE e0 (b.take k)=eD e0 (λj=>b.getD j g) D k:=by
 have f:∀(l:List Dl) (e:Nat->TV) (d:Dl),endE e (l++[d])=putF d.dst d.val (endE e l):=by
  intro l;induction l with
  |nil=>intro e d;rfl
  |cons x l ih=>intro e d;exact ih _ _
 intro k
 induction k with
 |zero=>intro _ _;rfl
 |succ k ih=>intro m hD;have h:k<b.length:=za;rw[Ez h,f,ih za λj i=>hD j za];simp only[eD,hD k za,tZ,getD,tO h,AU]
theorem tz (m:Nat->AObj)(b:List Dl)(f:Dl)(D:Nat->Bool):∀k,k<=b.length->(∀j,j<k->D j=true)->endH m (b.take k)=hD m (λj=>b.getD j f) D k:=by
 have e:∀(l:List Dl) (h:Nat->AObj) (d:Dl),endH h (l++[d])=over d.upd (endH h l):=by
  intro l;induction l with
  |nil=>intro h d;rfl
  |cons x l ih=>intro h d;exact ih _ _
 intro k
 induction k with
 |zero=>intro _ _;rfl
 |succ k ih=>intro p i;have g:k<b.length:=za;rw[Ez g,e,ih za λj o=>i j za];simp only[hD,i k za,tZ,getD,tO g,AU]
def upTo (i j:Nat):Bool:=decide (j<i)
theorem nD (e0:Nat->TV)(d:Nat->Dl)(i:Nat):∀n,i<=n->eD e0 d (upTo i) n=eD e0 d (upTo i) i
 |0,h=>by have:i=0:=za
          subst this;rfl
 |n+1,h=>by
  by_cases b:i=n+1
  .rw[b]
  .simp only[eD];rw[tD<|by simp[upTo];omega];exact nD e0 d i n za
theorem t8 (e:Nat->AObj)(d:Nat->Dl)(i:Nat):∀n,i<=n->hD e d (upTo i) n=hD e d (upTo i) i
 |0,h=>by have:i=0:=za
          subst this;rfl
 |n+1,h=>by
  by_cases b:i=n+1
  .rw[b]
  .simp only[hD];rw[tD<|by simp[upTo];omega];exact t8 e d i n za
theorem Yf {u:AHeap}{x:Nat}(h:y4 u x≠none):x∈u.map Prod.fst:=by
 cases b:y4 u x with
 |none=>exact absurd b h
 |some y=>exact Ay.2 ⟨_,uG b,rfl⟩
theorem ld {b:Array Oper}{g:wq}(h:JN b g=true):
  (∀(j:Nat) (o:Oper) (e:Edge),b[j]?=some o->e∈o.after->Region.binds .any e=true->e.on<j)/\
  ∀(i j:Nat) (p r:Oper) (m d:List Nat×List Nat),i<j->b[i]?=some p->b[j]?=some r->g.reverse[i]?=some m->g.reverse[j]?=some d->((Region.before b).getD j 0).testBit i=false->
   p.apart b r=true/\(∀o∈m.2,o ∉ d.1/\o ∉ d.2)/\(∀o∈d.2,o ∉ m.1):=by
 simp only[JN,tF] at h;obtain⟨⟨_,F⟩,H⟩:=h;refine⟨λj o e D G E=>?_,λi j p r m d v z x y w f=>?_⟩
 .have:=A7.1 F (o,j) (by rw[EH];exact zp D);have:=Az.1 this e G;simpa[E] using this
 .have C:((r,d),j)∈(b.toList.zip g.reverse).zipIdx:=by rw[EH];simp only[EP];exact⟨zp x,w⟩
  have A:((p,m),i)∈(b.toList.zip g.reverse).zipIdx:=by rw[EH];simp only[EP];exact⟨zp z,y⟩
  have u:=A7.1 (A7.1 H _ C) _ A;simp only[v,decide_true,Bool.not_true,Ec,f,tF,A7,AA,E8,decide_eq_false_iff_not] at u;exact⟨u.1.1,u.1.2,u.2⟩
section
variable {P:Program} {w0:World} {foot:Nat->Prop} {Y:Nat->Prop} {pin:Nat->Option (Option Nat)}
theorem kP {e b:Nat->TV}{h h':Nat->AObj}{β:Nat->Option Nat}{a:Act}{w:World}(g:RelF P w0 foot Y pin e h β a w)(d:∀t,b t=e t)(f:∀o,h' o=h o):RelF P w0 foot Y pin b h' β a w:=by have:b=e:=funext d;have:h'=h:=funext f;grind
theorem W9 {g:Array Oper} {nx sz:Nat} {e0:Nat->TV} {h0:Nat->AObj} {r:List Dl} {tr:wq} (hch:Chain P g nx g.toList 0 e0 h0 r) (htr:tr=(r.map λT=>(T.rd,T.upd.map Prod.fst)).reverse) (hB:JN g tr=true)
  (hdst:∀(j:Nat) (q:Oper) (d:Nat),g[j]?=some q->q.dst=some d->d<sz) {Q:Exit->Act->World->Prop}
  (hQ:∀a' w' β',a'.tmps.size=sz->RelF P w0 foot Y pin (endE e0 r) (endH h0 r) β' a' w'->(∀k,Occ pin β' k->k<nx+32*g.size)->Q .normal a' w'):
  ∀(A:Nat) (f:Array Bool) (β:Nat->Option Nat) (a:Act) (w:World),f.size=g.size->((List.range g.size).filter λi=> !f.getD i true).length=A->(∀(j:Nat) (o:Oper) (e:Edge),g[j]?=some o->f.getD j false=true->e∈o.after->Region.binds .any e=true->f.getD e.on false=true)->
   a.tmps.size=sz->RelF P w0 foot Y pin (eD e0 (λj=>r.getD j ⟨none,.any,[],[]⟩) (λj=>f.getD j false) g.size) (hD h0 (λj=>r.getD j ⟨none,.any,[],[]⟩) (λj=>f.getD j false) g.size) β a w->(∀k,Occ pin β k->k<nx\/∃i,i<g.size/\f.getD i false=true/\nx+32*i<=k/\k<nx+32*(i+1))->wpAny P .any g Q A f a w:=by
 obtain⟨L,W⟩:=ld hB;obtain⟨hlen,hget⟩:=Kh hch;simp only[Er,Array.getElem?_toList,A4] at hlen hget;let I:Dl:=⟨none,.any,[],[]⟩;let T:Nat->Dl:=λj=>r.getD j I;have hδ:∀j o,g[j]?=some o->∃d,r[j]?=some d/\T j=d/\d.dst=o.dst/\tr.reverse[j]?=some (d.rd,d.upd.map Prod.fst):=by intro j o Z;obtain⟨d,h1,p,_⟩:=hget j o Z;grind
 intro A
 induction A with
 |zero=>
  intro f β a w hsz u h J hR hb;have hall:∀i,i<g.size->f.getD i true=true:=by intro i O;have:=tS u;have p:=List.filter_eq_nil_iff.1 this i (zp O);grind
  have hfull:∀i,i<g.size->f.getD i false=true:=by intro i O;have:=hall i O;simp only[Au,AP (za:i<f.size),AU] at this ⊢;exact this
  refine⟨?_,hQ a w β J (kP hR (λt=>?_) λo=>?_) λk hk=>?_⟩
  .unfold Region.ready;rw[List.filter_eq_nil_iff];intro i O;simp only[List.mem_range] at O;simp[hall i O]
  .have:=rN e0 r I (λj=>f.getD j false) g.size za λj z=>hfull j z;rw[tN za] at this;rw[this]
  .have:=tz h0 r I (λj=>f.getD j false) g.size za λj z=>hfull j z;rw[tN za] at this;rw[this]
  .rcases hb k hk with h1|⟨i,h1,_,_,M⟩<;>omega
 |succ A ih=>
  intro f β a w hsz u h J hR hb;refine⟨λhready=>?_,λi O=>?_⟩
  .
   exfalso;have hex:∃i,i<g.size/\f.getD i true=false:=by
    have hne:((List.range g.size).filter λi=> !f.getD i true)≠[]:=by intro e;rw[e] at u;simp at u
    obtain⟨i,O⟩:=List.exists_mem_of_ne_nil _ hne;rw[S3] at O;exact⟨i,zp O.1,zp O.2⟩
   have hmin:∀n,(∃i,i<n/\i<g.size/\f.getD i true=false)->∃i,i<g.size/\f.getD i true=false/\∀j,j<i->f.getD j true=true:=by
    intro n
    induction n with
    |zero=>rintro ⟨i,O,_⟩;omega
    |succ n ih2=>
     rintro ⟨i,O,hi2,hi3⟩;by_cases hlow:∃i,i<n/\i<g.size/\f.getD i true=false
     .exact ih2 hlow
     .have hin:i=n:=by
       by_cases e:i<n
       .exact absurd ⟨i,e,hi2,hi3⟩ hlow
       .omega
      subst hin;refine⟨i,hi2,hi3,λj z=>?_⟩;cases hj2:f.getD j true with
      |true=>rfl
      |false=>exact absurd ⟨j,z,za,hj2⟩ hlow
   obtain⟨i0,h1,p⟩:=hex;obtain⟨i,hi1,hi2,hi3⟩:=hmin g.size ⟨i0,h1,h1,p⟩;have F:i∈Region.ready .any g f:=by rw[mem_ready];refine⟨hi2,g[i],AP hi1,λe he hbe=>?_⟩;have hlt:=L i g[i] e (AP hi1) he hbe;have:=hi3 e.on hlt;have hls:e.on<f.size:=za;simp only[Au,AP hls,AU] at this ⊢;exact this
   rw[hready] at F;cases F
  .obtain⟨X,o,Z,N⟩:=mem_ready.1 O;have U:i<g.size:=(AW.1 Z).1;have m:f.getD i false=false:=by simp only[Au,AP (za:i<f.size),AU] at X ⊢;exact X
   obtain⟨d,hd1,hd2,hd3,hd4⟩:=hδ i o Z;have hanc_i:∀j,Anc g j i->f.getD j false=true:=λj z=>Ww (D:=λj=>f.getD j false) h z (λo' e h1 p C=>by rw[Z] at h1;injection h1 with h1;subst h1;exact N e p C);have hanc_j:∀j,f.getD j false=true->¬Anc g i j:=λj z hanc=>by have:=Ww (D:=λj=>f.getD j false) h hanc λo' e h1 p C=>h j o' e h1 z p C;rw[m] at this;cases this
   have S:∀j,j<g.size->j≠i->(f.getD j false=upTo i j)\/(∃V H,g[j]?=some V/\T j=H/\H.dst=V.dst/\
     ((j<i/\V.apart g o=true/\(∀x∈H.upd.map Prod.fst,x ∉ d.rd/\x ∉ d.upd.map Prod.fst)/\(∀x∈d.upd.map Prod.fst,x ∉ H.rd))\/
      (i<j/\o.apart g V=true/\(∀x∈d.upd.map Prod.fst,x ∉ H.rd/\x ∉ H.upd.map Prod.fst)/\(∀x∈H.upd.map Prod.fst,x ∉ d.rd)))):=by
    intro j z hne;have hoj:g[j]?=some g[j]:=AP z;obtain⟨H,g1,g2,g3,g4⟩:=hδ j _ hoj;rcases Nat.lt_or_gt_of_ne hne with hlt|hgt
    .cases E:((Region.before g).getD i 0).testBit j with
     |true=>
      have:=hanc_i j<|Wf L i j E;exact .inl (by rw[this];simp[upTo,hlt])
     |false=>
      have:=W j i _ o _ _ hlt hoj Z g4 hd4 E;exact .inr ⟨_,H,hoj,g2,g3,.inl ⟨hlt,this.1,this.2.1,this.2.2⟩⟩
    .cases E:((Region.before g).getD j 0).testBit i with
     |true=>
      have hanc:=Wf L j i E;have:f.getD j false=false:=by
       cases hl:f.getD j false with
       |false=>rfl
       |true=>exact absurd hanc<|hanc_j j hl
      exact .inl (by rw[this];simp[upTo];omega)
     |false=>
      have:=W i j o _ _ _ hgt Z hoj hd4 g4 E;exact .inr ⟨_,H,hoj,g2,g3,.inr ⟨hgt,this.1,this.2.1,this.2.2⟩⟩
   have hstep:OpStep P g o (nx+32*i) (eD e0 T (λj=>f.getD j false) g.size) (hD h0 T (λj=>f.getD j false) g.size) d:=by
    obtain⟨d',h1,_,C⟩:=hget i o Z;rw[hd1] at h1;injection h1 with h1;subst h1
    have e1:=rN e0 r I (upTo i) i za (λj z=>by simp[upTo,z]);have e2:=tz h0 r I (upTo i) i za (λj z=>by simp[upTo,z]);rw[e1,e2,<-nD e0 _ i g.size za,<-t8 h0 _ i g.size za] at C;refine K3 C (λt ht=>?_) λx hx=>?_
    .refine J7 g.size λj z hdj=>?_;by_cases v:j=i
     .subst v;rw[m];simp[upTo]
     .rcases S j z v with M|⟨V,H,g1,g2,g3,h5⟩
      .exact M
      .exfalso;have hdj':V.dst=some t:=by have:T j=H:=g2;rw[<-g3,<-this];exact hdj
       rcases h5 with⟨_,hap,_⟩|⟨_,hap,_⟩
       .exact(Oper.apart_spec hap).1 t hdj' ht
       .exact(Oper.apart_spec hap).2.2 t hdj' ht
    .refine Jx g.size λj z hdj=>?_;by_cases v:j=i
     .subst v;rw[m];simp[upTo]
     .rcases S j z v with M|⟨V,H,g1,g2,g3,h5⟩
      .exact M
      .exfalso;have hxu:x∈H.upd.map Prod.fst:=by have:T j=H:=g2;rw[<-this];exact Yf hdj
       rcases h5 with⟨_,_,h6,_⟩|⟨_,_,_,h6⟩
       .exact(h6 x hxu).1 hx
       .exact h6 x hxu hx
   have hfr:∀j,j<32->β (nx+32*i+j)=none:=by
    intro j z;cases hbj:β (nx+32*i+j) with
    |none=>rfl
    |some b=>
     rcases hb _ (.inl (by rw[hbj];simp:β (nx+32*i+j)≠none)) with h1|⟨i',h1,p,C,M⟩
     .omega
     .have:i'=i:=za;subst this;rw[m] at p;cases p
   have hpn:∀j,j<32->pin (nx+32*i+j)=none:=by
    intro j z;cases hbj:pin (nx+32*i+j) with
    |none=>rfl
    |some b=>
     rcases hb _ (.inr (by rw[hbj];simp:pin (nx+32*i+j)≠none)) with h1|⟨i',h1,p,C,M⟩
     .omega
     .have:i'=i:=za;subst this;rw[m] at p;cases p
   unfold wpOp;rw[Z];simp only;have G:∀j,(f.setIfInBounds i true).getD j false=add (λj=>f.getD j false) i j:=by
    intro j;simp only[add];by_cases v:j=i
    .subst v;simp[(za:j<f.size)]
    .rw[tD v];exact getD_set_ne false λe=>v e.symm
   have hgo:=ZE (o:=o) (fr:=nx+32*i) hR hfr hpn (by rw[J];exact hdst) (λdd hdd=>by rw[J];exact hdst i o dd Z hdd) hstep
    (K:=wpAny P .any g Q A<|f.setIfInBounds i true) (Q:=Q) (λa' w' β' ha' _ hR' hb'=>by
     refine ih (f.setIfInBounds i true) β' a' w' (zp hsz) ?_ ?_ (by rw[ha',J]) (kP hR' (λt=>?_) λx=>?_) (λk hk=>?_)
     .
      have hperm:((List.range g.size).filter λk=> !(f.setIfInBounds i true).getD k true)=((List.range g.size).filter λk=> !f.getD k true).filter (λk=>k !=i):=by
       rw[List.filter_filter];apply List.filter_congr;intro k _;by_cases hki:k=i
       .subst hki;simp[(za:k<f.size)]
       .rw[getD_set_ne true λe=>hki e.symm];simp[hki]
      rw[hperm];have hnd:((List.range g.size).filter λk=> !f.getD k true).Nodup:=List.Pairwise.filter _ List.nodup_range;have F:i∈(List.range g.size).filter λk=> !f.getD k true:=by rw[S3];exact⟨zp U,by rw[X];rfl⟩
      have hc:(((List.range g.size).filter λk=> !f.getD k true).filter λk=>k !=i).length+1=((List.range g.size).filter λk=> !f.getD k true).length:=by
       have:((List.range g.size).filter λk=> !f.getD k true).filter (λk=>k !=i)=((List.range g.size).filter λk=> !f.getD k true).erase i:=by rw[List.Nodup.erase_eq_filter hnd]
       rw[this,List.length_erase_of_mem F];have:=List.length_pos_of_mem F;omega
      omega
     .intro j V e h1 p C M;rw[G] at p ⊢;simp only[add] at p ⊢;split
      .rfl
      .split at p
       .rename_i v;subst v;rw[Z] at h1;injection h1 with h1;subst h1
        exact N e C M
       .exact h j V e h1 p C M
     .show eD e0 T _ g.size t=_;have he:(λj=>(f.setIfInBounds i true).getD j false)=add (λj=>f.getD j false) i:=funext G;rw[he,eD_add (by exact m) g.size U λj h1 p C M=>?_]
      .rw[show T i=d from hd2]
      .intro h5;rcases S j p za with h6|⟨V,H,g1,g2,g3,h7⟩
       .rw[h6] at C;simp[upTo] at C;omega
       .have hdi:o.dst=some t:=by rw[<-hd3,<-hd2];exact M
        have hdj:V.dst=some t:=by rw[<-g3,<-g2];exact h5
        rcases h7 with⟨h8,_⟩|⟨_,hap,_⟩
        .omega
        .exact(Oper.apart_spec hap).2.1 t hdi hdj
     .show hD h0 T _ g.size x=_;have he:(λj=>(f.setIfInBounds i true).getD j false)=add (λj=>f.getD j false) i:=funext G;rw[he,hD_add (by exact m) g.size U λj h1 p C M=>?_]
      .rw[show T i=d from hd2]
      .rcases S j p za with h6|⟨V,H,g1,g2,g3,h7⟩
       .rw[h6] at C;simp[upTo] at C;omega
       .have hdi:x∈d.upd.map Prod.fst:=by rw[<-hd2];exact Yf M
        rcases h7 with⟨h8,_⟩|⟨_,_,h9,_⟩
        .omega
        .have:=(h9 x hdi).2;rw[<-g2] at this;cases hf:y4 (T j).upd x with
         |none=>rfl
         |some y=>exact absurd (Yf<|by rw[hf];simp) this
     .rcases(show Occ pin β k\/(nx+32*i<=k/\k<nx+32*i+32) from hk.elim (λhk=>(hb' k hk).imp .inl id) λhk=>.inl<|.inr hk) with h1|h1
      .rcases hb k h1 with p|⟨i',p,C,M,h5⟩
       .exact .inl p
       .refine .inr ⟨i',p,?_,M,h5⟩;rw[G];simp only[add];split
        .rfl
        .exact C
      .refine .inr ⟨i,U,?_,za,za⟩;rw[G];simp[add])
   split at hgo;next hw=>rw[tG hw];exact .inl hgo
   next hw=>rw[tD hw];exact hgo
theorem gX {id:Nat} {f:Array Oper} {N:Bool} {s:St} {β:Nat->Option Nat} {a:Act} {w:World} {Q:Exit->Act->World->Prop} {R:St->Prop} (hm:P.follows .mixedOrders=true) (F:dstB f a.tmps.size=true)
  (Z:lex P f s.nx f.toList 0 s.env s.heap [] λe h tr=>(N=true->JN f tr=true)/\R ⟨e,h,s.nx+32*f.size⟩)
  (r:RelF P w0 foot Y pin (look s.env) (hook s.heap) β a w) (D:∀k,Occ pin β k->k<s.nx)
  (U:∀K u w' m,R K->u.tmps.size=a.tmps.size->RelF P w0 foot Y pin (look K.env) (hook K.heap) m u w'->(∀k,Occ pin m k->k<K.nx)->Q .normal u w'):(Code.region id f N).wp P Q a w:=by
 have v:∀(j:Nat) (q:Oper) (d:Nat),f[j]?=some q->q.dst=some d->d<a.tmps.size:=by intro j q d hq hd;have:=Az.1 F q<|EJ hq;rw[hd] at this;exact zp this
 obtain⟨y,V,h',tr',I,W,hh,J,E,L⟩:=qq _ _ _ _ _ Z;rw[tY] at J;have z:∀u w' m,u.tmps.size=a.tmps.size->RelF P w0 foot Y pin (endE (look s.env) y) (endH (hook s.heap) y) m u w'->(∀k,Occ pin m k->k<s.nx+32*f.size)->Q .normal u w':=by intro u w' m H C O;refine U _ u w' m L H ?_ O;show RelF P w0 foot Y pin (look V) (hook h') m u w';rw[W,hh];exact C
 cases N with
 |false=>refine wp_region_list<|jU v f.toList 0 _ _ y β a w (λo X=>?_) I rfl r (zp D) λu w' m H _ C O=>z u w' m H C<|zp O;obtain⟨j,T⟩:=E6 X;exact⟨j,zp T⟩
 |true=>
  refine wp_region_any hm ?_;have M:RelF P w0 foot Y pin (look s.env) (hook s.heap) β a {w with drawn:=w.drawn+1}:=by have g:Goes w {w with drawn:=w.drawn+1} (XO Y (hook s.heap) β) (XO Y (hook s.heap) β) β β:=⟨tJ _,λb D _=>⟨rfl,D⟩,λ_ _=>rfl,λo b D=>⟨D,r.objs.lt o b D⟩⟩;exact⟨r.good.drew,λi=>(r.env i).goes g,⟨λo b H C=>(r.objs.rep o b H C).goes g rfl,r.objs.has,r.objs.inj,r.objs.lt⟩,r.own,r.defers,r.ylt,r.pins,r.gl⟩
  have p:∀i,(Array.replicate f.size false).getD i false=false:=by
   intro i;by_cases G:i<f.size
   .simp[G]
   .simp[G]
  refine W9 (w0:=w0) (foot:=foot) (Y:=Y) I J (E rfl) v z f.size _ β a _ zb ?_ (λj o e _ C=>by rw[p] at C;cases C) rfl (kP M (λt=>?_) λx=>?_) λk S=>.inl<|D k S
  .have:((List.range f.size).filter λi=> !(Array.replicate f.size false).getD i true)=List.range f.size:=by apply S5.2;intro i G;simp only[List.mem_range] at G;simp[G]
   rw[this];simp
  .have key:∀n,eD (look s.env) (λj=>y.getD j ⟨none,.any,[],[]⟩) (λj=>(Array.replicate f.size false).getD j false) n=look s.env:=by
    intro n;induction n with
    |zero=>rfl
    |succ n ih=>simp only[eD];rw[tD<|by rw[p];simp];exact ih
   rw[key]
  .have key:∀n,hD (hook s.heap) (λj=>y.getD j ⟨none,.any,[],[]⟩) (λj=>(Array.replicate f.size false).getD j false) n=hook s.heap:=by
    intro n;induction n with
    |zero=>rfl
    |succ n ih=>simp only[hD];rw[tD<|by rw[p];simp];exact ih
   rw[key]
end
section
variable {w:World} {h h':Nat->AObj} {β:Nat->Option Nat} {Y:Nat->Prop} {σ:Nat->Nat} {E:Lent} {n':Nat}
def cutβ (σ:Nat->Nat)(n':Nat)(β:Nat->Option Nat)(o:Nat):Option Nat:=if o<n' then β (σ o) else none
theorem mW (A:Objs h β Y w) {L:Lent} (K:L.ok h) {Z:Nat->Prop} (E:∀b,¬XO Y h β b->¬Z b) (v:∀p∈L,∀b,β p.1=some b->¬Z b)
  {x:AObj} {b:Nat} (m:ORep w (XO Y h β) β x b):ORep w Z β (x.lend L) b:=by
 have g:Goes w w (XO Y h β) Z β β:=⟨tJ _,λb f _=>⟨rfl,E b f⟩,λ_ _=>rfl,λo b f=>⟨f,A.lt o b f⟩⟩;cases x with
 |gone=>trivial
 |arz n O=>exact m.goes g rfl
 |mapo es=>exact m.goes g rfl
 |mapz es=>exact m.goes g rfl
 |arr n es=>
  obtain⟨M,t,H,N,J,G⟩:=m;refine⟨M,t,H,zp N,λe r=>?_,λi j e c r C=>?_⟩
  .obtain⟨z,d,rfl⟩:=Ay.1 r;simp[J z d]
  .rw[tV] at r;obtain⟨z,d,rfl⟩:=tH.1 r;rw[tV] at C;obtain⟨D,y,rfl⟩:=tH.1 C;obtain⟨u,F,I⟩:=G i j z D d y;exact⟨u,F,uJ A K E v (x:=.c D) I⟩
theorem nz {x:AObj}{L:Lent}:isLive (x.lend L)↔isLive x:=by cases x<;>exact Iff.rfl
theorem live_ren {x:AObj}:isLive (x.ren σ)↔isLive x:=by cases x<;>exact Iff.rfl
theorem pF {x:AObj}{L:Lent}(h:bareO x):bareO (x.lend L):=by
 obtain⟨n,h⟩:=h;cases x with
 |arr m es=>simp only[flat,AObj.arr.injEq] at h;rw[h.2];exact⟨m,rfl⟩
 |arz m b=>exact⟨n,h⟩
 |_=>exact⟨n,h⟩
structure Weak (h h':Nat->AObj)(σ:Nat->Nat)(E:Lent)(n':Nat):Prop where
 ok:E.ok h
 obj:∀o,isLive (h' o)->o<n'/\flat ((h<|σ o).lend E)=flat ((h' o).ren σ)/\(h' o).lt n'=true/\∀q∈E,q.1≠σ o
 inj:∀o o',isLive (h' o)->isLive (h' o')->σ o=σ o'->o=o'
theorem Weak.live (k:Weak h h' σ E n'){o:Nat}(b:isLive<|h' o):isLive (h<|σ o):=by have:=(k.obj o b).2.1;rw[<-nz (L:=E),<-w9,this,w9,live_ren];exact b
theorem Weak.own (k:Weak h h' σ E n'){b:Nat}(e:Own h' (cutβ σ n' β) b):Own h β b:=by
 obtain⟨o,f,d⟩:=e;simp only[cutβ] at d;split at d
 .exact⟨σ o,k.live f,d⟩
 .cases d
theorem Weak.xo (k:Weak h h' σ E n'){b:Nat}(d:¬XO Y h β b):¬XO Y h' (cutβ σ n' β) b:=λe=>by
 rcases e with h1|h1
 .exact d<|.inl h1
 .exact d<|.inr<|k.own h1
theorem Weak.given (k:Weak h h' σ E n')(f:Objs h β Y w):∀p∈E,∀b,β p.1=some b->¬XO Y h' (cutβ σ n' β) b:=by
 intro p g b i m;have j:isLive (h p.1):=by rw[<-w9,k.ok p g];trivial
 rcases m with d|⟨o,d,e⟩
 .exact(f.here j i).2 d
 .simp only[cutβ] at e;split at e
  .exact(k.obj o d).2.2.2 p g<|f.inj _ _ b j (k.live d) i e
  .cases e
theorem Weak.rep (k:Weak h h' σ E n')(g:Objs h β Y w){x y:TV}{v:Value}(j:TRep w (XO Y h β) β x v)(d:TV.Le (x.lend E)<|y.ren σ)(e:y.lt n'=true):TRep w (XO Y h'<|cutβ σ n' β) (cutβ σ n' β) y v:=by have i:=TRep.le d<|uJ g k.ok (λb f=>k.xo f) (k.given g) j;exact TRep.unmap (m:=n') (λ_ _ h=>h) (λo b p f=>by simp only[cutβ,p,tZ];exact f) e i
theorem Weak.objs (k:Weak h h' σ E n')(i:Objs h β Y w):Objs h' (cutβ σ n' β) Y w:=by
 have d:∀o b,cutβ σ n' β o=some b->β (σ o)=some b:=λo b e=>by
  simp only[cutβ] at e;split at e
  .exact e
  .cases e
 refine⟨λo b f g=>?_,λo f=>?_,λo o' b f g j p=>k.inj o o' f g<|i.inj _ _ b (k.live f) (k.live g) (d _ _ j)<|d _ _ p,λo b e=>i.lt _ b<|d o b e⟩
 .obtain⟨A,v,y,_⟩:=k.obj o f;have x:=mW i k.ok (λb e=>k.xo e) (k.given i)<|i.rep (σ o) b (k.live f)<|d o b g;have r:=(KD v).1 x;exact ORep.unmap (m:=n') (λ_ _ h=>h) (λo b z e=>by simp only[cutβ,z,tZ];exact e) y r
 .rcases i.has (σ o) (k.live f) with⟨b,g,j,p⟩|⟨g,j⟩
  .exact .inl ⟨b,by simp only[cutβ,(k.obj o f).1,tZ];exact g,j,p⟩
  .refine .inr ⟨?_,by simp only[cutβ,(k.obj o f).1,tZ];exact j⟩;obtain⟨n,u⟩:=pF (L:=E) g;refine Xo (σ:=σ) |>.1 ⟨n,?_⟩;rw[<-(k.obj o f).2.1];exact u
end
def Sle (m:Nat)(s s':St):Prop:=∃(σ:Nat->Nat) (E:Lent),Lent.ok E (hook s.heap)/\m<=s'.nx/\(∀o,o<m->σ o=o)/\
 (∀p∈s'.env,TV.Le ((look s.env p.1).lend E) (p.2.ren σ)/\p.2.lt s'.nx=true)/\
 (∀p∈s'.heap,isLive p.2->p.1<s'.nx/\flat ((hook s.heap<|σ p.1).lend E)=flat (p.2.ren σ)/\p.2.lt s'.nx=true/\∀q∈E,q.1≠σ p.1)/\
 (∀p∈s'.heap,∀q∈s'.heap,isLive p.2->isLive q.2->σ p.1=σ q.1->p.1=q.1)
theorem ZT:∀ {l:AHeap} {o:Nat},isLive (hook l o)->(o,hook l o)∈l
 |[],_,h=>h.elim
 |(j,v)::l,o,h=>by
  simp only[hook] at h ⊢;split at h;next e=>rw[tG e,<-e];exact tM
  next e=>rw[tD e];exact tK _<|ZT h
theorem Jy:∀ {l:Env} {i:Nat},look l i=.any\/(i,look l i)∈l
 |[],_=>.inl rfl
 |(j,v)::l,i=>by
  simp only[look];split;next e=>rw[<-e];exact .inr tM
  .rcases Jy (l:=l) (i:=i) with h|h
   .exact .inl h
   .exact .inr<|tK _ h
section
variable {P:Program} {w0:World} {foot:Nat->Prop} {Y:Nat->Prop} {pin:Nat->Option (Option Nat)} {n m:Nat}
theorem r7 {u:AHeap} {h:Nat->AObj} {σ:Nat->Nat} {E:Lent} {b:Nat} (i:E.ok h) (m:∀p∈u,isLive p.2->p.1<b/\flat ((h<|σ p.1).lend E)=flat (p.2.ren σ)/\p.2.lt b=true/\∀q∈E,q.1≠σ p.1)
  (j:∀p∈u,∀q∈u,isLive p.2->isLive q.2->σ p.1=σ q.1->p.1=q.1):Weak h (hook u) σ E b:=
 ⟨i,λ_ d=>m _ (ZT d) d,λ_ _ f g e=>j _ (ZT f) _ (ZT g) f g e⟩
theorem WH {s e:St}(y:Sle m s e)(u:∀o b,pin o=some b->o<m){β:Nat->Option Nat}{a:Act}{w:World}(d:RelF P w0 foot Y pin (look s.env) (hook s.heap) β a w):
  ∃f,RelF P w0 foot Y pin (look e.env) (hook e.heap) f a w/\∀k,Occ pin f k->k<e.nx:=by
 obtain⟨σ,E,C,v,h,r,A,z⟩:=y;have k:=r7 C A z;refine⟨cutβ σ e.nx β,⟨d.good,λi=>?_,k.objs d.objs,λo b h1 g=>?_,d.defers,d.ylt,λo b p=>?_,d.gl⟩,λo ho=>?_⟩
 .rcases Jy (l:=e.env) (i:=i) with h1|h1
  .rw[h1];trivial
  .exact k.rep d.objs (d.env i) (r _ h1).1 (r _ h1).2
 .simp only[cutβ] at g;split at g
  .exact d.own _ b (k.live h1) g
  .cases g
 .have h1:=u o b p;simp only[cutβ,(za:o<e.nx),tZ,h o h1];exact d.pins o b p
 .rcases ho with ho|ho
  .simp only[cutβ] at ho;split at ho
   .assumption
   .exact absurd rfl ho
  .cases j:pin o with
   |none=>exact absurd j ho
   |some x=>have:=u o x j;omega
inductive AExit where
 |normal
 |exit (id:Nat)
 |ret
 deriving DecidableEq
def At (P:Program)(w0:World)(foot Y:Nat->Prop)(pin:Nat->Option (Option Nat))(n:Nat)(Q:St->Prop)(a:Act)(w:World):Prop:=
 ∃s β,Q s/\a.tmps.size=n/\RelF P w0 foot Y pin (look s.env) (hook s.heap) β a w/\∀k,Occ pin β k->k<s.nx
def Lift (P:Program)(w0:World)(foot Y:Nat->Prop)(pin:Nat->Option (Option Nat))(n:Nat)(Q:AExit->St->Prop):Exit->Act->World->Prop
 |.normal=>At P w0 foot Y pin n<|Q .normal
 |.exit i=>At P w0 foot Y pin n<|Q<|.exit i
 |.ret=>At P w0 foot Y pin n<|Q .ret
 |_=>λ_ _=>False
def Awp (P:Program)(n m:Nat)(c:Code)(Q:AExit->St->Prop)(s:St):Prop:=
 ∀(w0:World) (foot Y:Nat->Prop) (pin:Nat->Option (Option Nat)) (β:Nat->Option Nat) (a:Act) (w:World),(∀o b,pin o=some b->o<m)->a.tmps.size=n->RelF P w0 foot Y pin (look s.env) (hook s.heap) β a w->(∀k,Occ pin β k->k<s.nx)->
  c.wp P (Lift P w0 foot Y pin n Q) a w
variable {c:Code} {Q:AExit->St->Prop} {s:St}
theorem Lift.mono {Q':AExit->St->Prop}(f:∀e s,Q e s->Q' e s)(e:Exit)(a:Act)(w:World)(h:Lift P w0 foot Y pin n Q e a w):Lift P w0 foot Y pin n Q' e a w:=by
 cases e with
 |normal=>obtain⟨s,β,b,d⟩:=h;exact⟨s,β,f _ _ b,d⟩
 |exit i=>obtain⟨s,β,b,d⟩:=h;exact⟨s,β,f _ _ b,d⟩
 |ret=>obtain⟨s,β,b,d⟩:=h;exact⟨s,β,f _ _ b,d⟩
 |_=>exact h.elim
theorem Awp.mono {Q':AExit->St->Prop}(h:Awp P n m c Q s)(f:∀e s,Q e s->Q' e s):Awp P n m c Q' s:=
 λw0 foot Y b β a w j g d i=>wp_mono (h w0 foot Y b β a w j g d i)<|Lift.mono f
theorem Awp.weak {d:St}(i:Sle m s d)(h:Awp P n m c Q d):Awp P n m c Q s:=λw0 foot Y b _ a w e g f _=>
 let ⟨β',h1,h2⟩:=WH i e f
 h w0 foot Y b β' a w e g h1 h2
theorem Awp.skip (h:Q .normal s):Awp P n m .skip Q s:=λ_ _ _ _ β _ _ _ d b e=>wp_skip ⟨s,β,h,d,b,e⟩
theorem Awp.ret (h:Q .ret s):Awp P n m .ret Q s:=λ_ _ _ _ β _ _ _ d b e=>wp_ret ⟨s,β,h,d,b,e⟩
theorem Awp.exit {i:Nat}(h:Q (.exit i) s):Awp P n m (.exit i) Q s:=λ_ _ _ _ β _ _ _ d b e=>wp_exit ⟨s,β,h,d,b,e⟩
def XL (K:St->Prop)(Q:AExit->St->Prop):AExit->St->Prop
 |.normal,s=>K s
 |e,s=>Q e s
def yi (i:Nat)(Q:AExit->St->Prop):AExit->St->Prop
 |.exit j,s=>if j=i then Q .normal s else Q (.exit j) s
 |e,s=>Q e s
theorem Awp.seq {b d:Code}(h:Awp P n m b (XL (Awp P n m d Q) Q) s):Awp P n m (.seq b d) Q s:=λw0 foot Y f β a w o r p u=>by
 refine wp_seq<|wp_mono (h w0 foot Y f β a w o r p u) λe A w' g=>?_;cases e with
 |normal=>obtain⟨C,j,x,z,y,v⟩:=g;exact x w0 foot Y f j A w' o z y v
 |exit i=>exact g
 |ret=>exact g
 |_=>exact g.elim
theorem Awp.cond {x:Operand}{b d:Code}{t:Bool}(r:ev s.env x=.c (.a<|.fz<|.bool t))(p:t=true->Awp P n m b Q s)(o:t=false->Awp P n m d Q s):Awp P n m (.cond x b d) Q s:=λw0 foot Y e β a w j h f i=>by
 have g:=f.eval x;rw[<-m4,r] at g;refine wp_cond (t:=t) g.bool_inv ?_;cases t with
 |true=>exact p rfl w0 foot Y e β a w j h f i
 |false=>exact o rfl w0 foot Y e β a w j h f i
theorem Awp.label {l:Nat}(h:Q .normal s):Awp P n m (.label l) Q s:=λ_ _ _ _ β _ _ _ d b e=>wp_label ⟨s,β,h,d,b,e⟩
theorem Awp.scope (h:Awp P n m c Q s):Awp P n m (.scope c) Q s:=λw0 foot Y b β a w j g f i=>by
 refine wp_scope_straight<|wp_mono (h w0 foot Y b β a w j g f i) λe o w' d=>?_;cases e with
 |goto l=>exact d.elim
 |_=>exact d
theorem Awp.block {i:Nat}(h:Awp P n m c (yi i Q) s):Awp P n m (.block i c) Q s:=λw0 foot Y o β a w y v u x=>by
 refine wp_block<|wp_mono (h w0 foot Y o β a w y v u x) λe z w' f=>?_;cases e with
 |normal=>exact f
 |exit j=>
  obtain⟨p,b,d,r⟩:=f;simp only[yi] at d;simp only[Exit.inBlock];split at d;next g=>rw[tG g];exact⟨p,b,d,r⟩
  next g=>rw[tD g];exact⟨p,b,d,r⟩
 |ret=>exact f
 |_=>exact f.elim
theorem Awp.region {i:Nat} {b:Array Oper} {d:Bool} (v:P.follows .mixedOrders=true) (hd:dstB b n=true)
  (A:lex P b s.nx b.toList 0 s.env s.heap [] λe h z=>(d=true->JN b z=true)/\Q .normal ⟨e,h,s.nx+32*b.size⟩):Awp P n m (.region i b d) Q s:=λw0 foot Y x β a w _ o g p=>by
 subst o;exact gX (R:=Q .normal) v hd A g p λj D w' f u C y r=>⟨j,f,u,C,y,r⟩
end
structure Calm (w0 w w':World):Prop where
 size:w.heap.size<=w'.heap.size
 cells:∀(b:Nat) us t z,w.heap[b]?=some (.cells us t z)->w'.heap[b]?=some (.cells us t z)
 maps:∀(b:Nat) ms ck,w.heap[b]?=some (.map ms ck)->w'.heap[b]?=some (.map ms ck)
 old:∀b,b<w0.heap.size->w'.heap[b]?=w.heap[b]?
 os:w'.os=w.os
 tape:w'.tape=w.tape
 output:w'.output=w.output
section
variable {w0 w w':World} (c:Calm w0 w w')
include c
theorem Calm.cell {a:Addr}{u:Value}(h:w.cell? a=some u):w'.cell? a=some u:=by
 unfold World.cell? at h ⊢;cases b:w.heap[a.block]? with
 |none=>rw[b] at h;cases h
 |some o=>
  rw[b] at h;cases o with
  |cells d t z=>rw[c.cells _ d t z b];exact h
  |_=>cases h
theorem Calm.shape {b:Nat}{x:TypeId×Nat}(h:w.shape? b=some x):w'.shape? b=some x:=by
 unfold World.shape? at h ⊢;cases d:w.heap[b]? with
 |none=>rw[d] at h;cases h
 |some o=>
  rw[d] at h;cases o with
  |cells e t z=>rw[c.cells _ e t z d];exact h
  |_=>cases h
variable {X:Nat->Prop} {β:Nat->Option Nat}
theorem FRep.calm {f:FV}{v:Value}(h:FRep w X f v):FRep w' X f v:=by
 induction h with
 |int k n=>exact .int k n
 |bool b=>exact .bool b
 |str l=>exact .str l
 |cst v h=>exact .cst v h
 |N=>exact .N
 |slnil n=>exact .slnil n
 |sl0 g n a=>exact .sl0 g n a
 |z0 g a=>exact .z0 g a
 |z0n=>exact .z0n
 |sl g n es b d cap C u p m o z A D _ ih=>exact .sl g n es b d cap C u p m o (AK z c.size) A (λi j e f F x=>c.cell<|D i j e f F x) ih
 |pt cs b d u p m o _ ih=>exact .pt cs b d u p (AK m c.size) (λj f x=>c.cell<|o j f x) ih
 |mp es b ms G E p m o z A D _ _ y r=>exact .mp es b ms G E p (AK m c.size) (c.maps _ _ _ o) z A D y r
theorem ARep.calm {f:AV}{v:Value}(h:ARep w X β f v):ARep w' X β f v:=by
 cases h with
 |fz x v h=>exact .fz x v<|FRep.calm c h
 |ep o n i j b h=>exact .ep o n i j b h
 |osl o n d g b q cap sz t r p m u y=>exact .osl o n d g b q cap sz t r (c.shape p) m u y
 |oslN o n d=>exact .oslN o n d
 |mp o b h=>exact .mp o b h
 |any v h=>exact .any v h
 |bld t o b v r p m=>exact .bld t o b v r (c.shape p) m
 |osb o e g b cap r p m u=>exact .osb o e g b cap r (c.shape p) m u
theorem WRep.calm {f:WV}{v:Value}(h:WRep w X β f v):WRep w' X β f v:=by
 cases h with
 |a x v h=>exact .a x v<|ARep.calm c h
 |fn f first cap e vs b d=>exact .fn f first cap e vs (b.imp λ_ _ _ h=>h.imp λ_ _ _ h=>ARep.calm c h) (d.imp λ_ _ _ h=>h.imp λ_ _ _ h=>ARep.calm c h)
theorem TRep.calm {f:TV}{v:Value}(h:TRep w X β f v):TRep w' X β f v:=by
 cases f with
 |any=>trivial
 |c x=>exact WRep.calm c h
 |agg cs=>obtain⟨e,b,d⟩:=h;exact⟨e,b,d.imp λ_ _ _ h=>WRep.calm c h⟩
 |tup vs=>obtain⟨e,b,d⟩:=h;exact⟨e,b,d.imp λ_ _ _ h=>h.imp λ_ _ _ h=>WRep.calm c h⟩
theorem ORep.calm {o:AObj}{b:Nat}(h:ORep w X β o b):ORep w' X β o b:=by
 have arr:∀(n:Nat) (es:List<|List WV),(∃(f:List Value) (t:TypeId),w.heap[b]?=some (.cells f.toArray t (0,0))/\es.length*n<=f.length/\(∀e∈es,e.length=n)/\
   ∀(i j:Nat) (e:List WV) (c:WV),es[i]?=some e->e[j]?=some c->∃u,f[i*n+j]?=some u/\WRep w X β c u)->(∃(f:List Value) (t:TypeId),w'.heap[b]?=some (.cells f.toArray t (0,0))/\es.length*n<=f.length/\(∀e∈es,e.length=n)/\
   ∀(i j:Nat) (e:List WV) (c:WV),es[i]?=some e->e[j]?=some c->∃u,f[i*n+j]?=some u/\WRep w' X β c u):=by
  rintro n es ⟨f,t,z,r,g,v⟩;exact⟨f,t,c.cells _ _ _ _ z,r,g,λi j e x p F=>let ⟨u,hu,hr⟩:=v i j e x p F;⟨u,hu,WRep.calm c hr⟩⟩
 have A:∀(es:List<|(Bool×List FV)×(Bool×List WV)),(∃(ms:List MapEntry) (d:Nat),w.heap[b]?=some (.map ms.toArray d)/\ms.length=es.length/\
   (∀(i:Nat) (e:(Bool×List FV)×(Bool×List WV)) (m:MapEntry),es[i]?=some e->ms[i]?=some m->PRep (FRep w X) e.1 m.key/\PRep (WRep w X β) e.2 m.val)/\
   d=ms.length/\(∀(i:Nat) (m:MapEntry),ms[i]?=some m->m.born=i))->(∃(ms:List MapEntry) (d:Nat),w'.heap[b]?=some (.map ms.toArray d)/\ms.length=es.length/\
   (∀(i:Nat) (e:(Bool×List FV)×(Bool×List WV)) (m:MapEntry),es[i]?=some e->ms[i]?=some m->PRep (FRep w' X) e.1 m.key/\PRep (WRep w' X β) e.2 m.val)/\
   d=ms.length/\(∀(i:Nat) (m:MapEntry),ms[i]?=some m->m.born=i)):=by
  rintro es ⟨ms,D,z,r,g,v,E⟩;exact⟨ms,D,c.maps _ _ _ z,r,λi e m p C=>let ⟨x,y⟩:=g i e m p C;⟨x.imp λ_ _ _ h=>FRep.calm c h,y.imp λ_ _ _ h=>WRep.calm c h⟩,v,E⟩
 cases o with
 |gone=>trivial
 |arr n es=>exact arr _ _ h
 |arz n G=>exact arr _ _ h
 |mapo es=>exact A _ h
 |mapz es=>exact A _ h
theorem Objs.calm {h:Nat->AObj}{Y:Nat->Prop}(d:Objs h β Y w):Objs h β Y w':=
 ⟨λo b e f=>ORep.calm c<|d.rep o b e f,λo e=>(d.has o e).imp (λ⟨b,f,j,i⟩=>⟨b,f,AK j c.size,i⟩) id,d.inj,λo b g=>AK (d.lt o b g) c.size⟩
theorem Good.calm {foot:Nat->Prop}(g:Good w0 foot w):Good w0 foot w':=
 ⟨AX g.size c.size,λb d e=>(c.old b d).trans<|g.blk b d e,λb d=>by rw[<-g.shp b d];unfold World.shape?;rw[c.old b d],c.os.trans g.os,c.tape.trans g.tape,c.output.trans g.output⟩
theorem RelF.calm {P:Program}{foot Y:Nat->Prop}{d:Nat->Option (Option Nat)}{e:Nat->TV}{h:Nat->AObj}{a:Act}(b:RelF P w0 foot Y d e h β a w)(f:Marks w0 w' a.defers):RelF P w0 foot Y d e h β a w':=
 ⟨Good.calm c b.good,λi=>TRep.calm c<|b.env i,Objs.calm c b.objs,b.own,f,b.ylt,b.pins,b.gl⟩
end
def mq (w:World)(b:Nat):Prop:=∀o,w.heap[b]?=some o->(∀us t z,o ≠ .cells us t z)/\∀ms ck,o ≠ .map ms ck
theorem Calm.put {w0 w:World}{b:Nat}{o:Obj}(g:mq w b)(j:w0.heap.size<=b):Calm w0 w (w.putObj b o):=by
 have d:∀k,k≠b->(w.putObj b o).heap[k]?=w.heap[k]? :=λk f=>World.putObj_heap_other f;refine⟨zb,λk i t z f=>?_,λk ms h f=>?_,λk f=>d k za,rfl,rfl,rfl⟩
 .rw[d k λe=>by subst e;exact(g _ f).1 i t z rfl];exact f
 .rw[d k λe=>by subst e;exact(g _ f).2 ms h rfl];exact f
theorem Calm.alloc (w0 w:World)(o:Obj)(d:w0.heap.size<=w.heap.size):Calm w0 w (w.alloc o):=by
 have old:∀k,k<w.heap.size->(w.alloc o).heap[k]?=w.heap[k]? :=λk b=>by show(w.heap.push o)[k]?=w.heap[k]?;grind
 refine⟨zb,λk f t z b=>?_,λk ms e b=>?_,λk b=>old k za,rfl,rfl,rfl⟩
 .grind
 .grind
theorem Calm.refl (w0 w:World):Calm w0 w w:=⟨tJ _,λ_ _ _ _ h=>h,λ_ _ _ h=>h,λ_ _=>rfl,rfl,rfl,rfl⟩
theorem Calm.trans {w0 a b c:World}(h:Calm w0 a b)(k:Calm w0 b c):Calm w0 a c:=
 ⟨AX h.size k.size,λb f t z d=>k.cells b f t z<|h.cells b f t z d,λb ms e d=>k.maps b ms e<|h.maps b ms e d,λb d=>(k.old b d).trans<|h.old b d,k.os.trans h.os,k.tape.trans h.tape,k.output.trans h.output⟩
theorem Xh {w:World}{b:Nat}{x:Option (List Deferred)}(h:w.heap[b]?=some (.deferred x)):mq w b:=λo d=>by grind
theorem Xf {w:World}{b:Nat}{x:Loop}(h:w.heap[b]?=some (.loop x)):mq w b:=λo d=>by grind
def uD:List Nat->World->World
 |[],w=>w
 |D::Ds,w=>uD Ds<|w.putObj D<|.deferred none
theorem KX {w0:World}:∀ {Ds:List Nat} {w:World},Ds.Nodup->(∀D∈Ds,w0.heap.size<=D/\w.heap[D]?=some (.deferred<|some []))->Calm w0 w (uD Ds w)
 |[],w,_,_=>Calm.refl _ _
 |D::Ds,w,g,h=>by have f:=h D tM;have b:=E1.1 g;refine(Calm.put (Xh f.2) f.1).trans<|KX b.2 λE i=>⟨(h E<|tK _ i).1,?_⟩;have d:E≠D:=λe=>b.1 zd;rw[World.putObj_heap_other d];grind
theorem RelF.shut {P:Program}{w0 w:World}{foot Y:Nat->Prop}{d:Nat->Option (Option Nat)}{e:Nat->TV}{h:Nat->AObj}{β:Nat->Option Nat}{a:Act}(b:RelF P w0 foot Y d e h β a w):
  ∃Ds,a.defers=Ds.map mark/\Ds.Nodup/\(∀D∈Ds,w.heap[D]?=some (.deferred<|some []))/\RelF P w0 foot Y d e h β {tmps:=a.tmps,defers:=[]} (uD Ds w):=by
 obtain⟨Ds,i,g,f⟩:=b.defers;have j:RelF P w0 foot Y d e h β {tmps:=a.tmps,defers:=[]} w:=⟨b.good,b.env,b.objs,b.own,Marks.nil _ _,b.ylt,b.pins,b.gl⟩;exact⟨Ds,i,g,λD hD=>(f D hD).2,j.calm (KX g f)<|Marks.nil _ _⟩
theorem uE {P:Program}{fn:Func}{tmps:Array Value}{R:Ending->World->Prop}{n:Nat}:∀ {Ds:List Nat} {w:World},Ds.Nodup->(∀D∈Ds,w.heap[D]?=some (.deferred<|some []))->(∃v,(results fn tmps).run P (uD Ds w)=.ok v (uD Ds w)/\R (.returned v) (uD Ds w))->LeavesInM Fence.wide n P fn tmps R (Ds.map mark) .returning w
 |[],w,_,_,h=>h
 |D::Ds,w,f,hD,h=>by have b:=E1.1 f;refine⟨zb,.inl ⟨D,_,rfl,run_takeDeferred<|hD D tM,uE b.2 (λE g=>?_) h⟩⟩;have d:E≠D:=λe=>b.1 zd;rw[World.putObj_heap_other d];grind
open Go
def resA (P:Program)(s:St):ResultVar->Option TV
 |.tmp t=>some<|look s.env t
 |.cell t ty=>match tyOf P ty with
  |some d=>(wS d (λo=>flat<|hook s.heap o)<|look s.env t).map (·.1)
  |none=>none
def gY (P:Program)(s:St):List ResultVar->Option (List TV)
 |[]=>some []
 |x::l=>match resA P s x,gY P s l with
  |some v,some vs=>some<|v::vs
  |_,_=>none
def gK:List TV->Option (List<|Bool×List WV)
 |[]=>some []
 |x::l=>match Kj x,gK l with
  |some v,some vs=>some<|v::vs
  |_,_=>none
def d8:List TV->Option TV
 |[x]=>some x
 |l=>(gK l).map .tup
def qI:Nat->List TV->Env
 |_,[]=> []
 |i,x::l=>(i,x)::qI (i+1) l
def yO:Nat->List AObj->AHeap
 |_,[]=> []
 |i,x::l=>(i,x)::yO (i+1) l
theorem YG:∀(l:List TV) (i k:Nat),look (qI i l) k=if i<=k then l.getD (k-i) .any else .any
 |[],i,k=>by simp[qI,look]
 |x::l,i,k=>by
  simp only[qI,look];by_cases h:i=k
  .subst h;simp
  .rw[tD h,YG l];by_cases b:i<=k
   .rw[tG za,tG b,show k-i=(k-(i+1))+1 by omega];simp
   .rw[tD za,tD b]
theorem kf:∀(l:List AObj) (i k:Nat),hook (yO i l) k=if i<=k then l.getD (k-i) .gone else .gone
 |[],i,k=>by simp[yO,hook]
 |x::l,i,k=>by
  simp only[yO,hook];by_cases h:i=k
  .subst h;simp
  .rw[tD h,kf l];by_cases b:i<=k
   .rw[tG za,tG b,show k-i=(k-(i+1))+1 by omega];simp
   .rw[tD za,tD b]
def iP (P:Program)(rl:List ResultVar)(m:Nat)(r:TV)(Hs':List AObj)(s:St):Prop:=
 ∃(rs rs':List TV) (σ:Nat->Nat) (E:Lent) (r0:TV),gY P s rl=some rs/\d8 rs'=some r0/\TV.Le r0 r/\E.ok (hook s.heap)/\
  All2 (λx y=>TV.Le (x.lend E) (y.ren σ)/\y.lt Hs'.length=true) rs rs'/\(∀o,o<m->σ o=o)/\
  (∀p∈yO 0 Hs',isLive p.2->p.1<Hs'.length/\flat ((hook s.heap<|σ p.1).lend E)=flat (p.2.ren σ)/\p.2.lt Hs'.length=true/\∀q∈E,q.1≠σ p.1)/\
  (∀p∈yO 0 Hs',∀q∈yO 0 Hs',isLive p.2->isLive q.2->σ p.1=σ q.1->p.1=q.1)
def Ret (P:Program)(rl:List ResultVar)(m:Nat)(r:TV)(Hs':List AObj):AExit->St->Prop
 |.exit _=>λ_=>False
 |_=>iP P rl m r Hs'
section
variable {P:Program} {w0:World} {foot:Nat->Prop} {Y:Nat->Prop} {pin:Nat->Option (Option Nat)}
theorem gj {ty:TypeId}{u v:Value}{w:World}(h:(Instr.loadAt ty u).run P w=.ok v w):(do loadVar ty (<-asAddr u):Sem Value).run P w=.ok v w:=by
 cases u with
 |pointer p=>
  cases p with
  |some a=>simpa[Instr.loadAt,Instr.sureAddr,asAddr] using h
  |none=>simp[Instr.loadAt,Instr.sureAddr] at h
 |_=>simp[Instr.loadAt,Instr.sureAddr] at h
def nr (tmps:Array Value):ResultVar->Sem Value
 |.tmp t=>pure<|tmps.getD t undef
 |.cell b t=>do loadVar t (<-asAddr<|tmps.getD b undef)
theorem resA_run {s:St}{β:Nat->Option Nat}{a:Act}{w:World}(f:RelF P w0 foot Y pin (look s.env) (hook s.heap) β a w){x:ResultVar}{v:TV}(b:resA P s x=some v):
  ∃u,(nr a.tmps x).run P w=.ok u w/\TRep w (XO Y (hook s.heap) β) β v u:=by
 cases x with
 |tmp t=>simp only[resA,tL] at b;subst b;exact⟨_,rfl,f.env t⟩
 |cell t ty=>
  simp only[resA] at b;split at b;next d hd=>obtain⟨r,i,rfl⟩:=tH.1 b;have g:∀o,flat (flat<|hook s.heap o)=flat (hook s.heap o):=λo=>vm _;have j:=qC (h':=λo=>flat<|hook s.heap o) g f.objs;have e:=f.env t;rw[<-YH (h':=λo=>flat<|hook s.heap o) g] at e ⊢;obtain⟨u,h,m⟩:=Jf (P:=P) j hd e i;exact⟨u,gj h,m⟩
  .cases b
theorem Kf {s:St}{β:Nat->Option Nat}{a:Act}{w:World}(d:RelF P w0 foot Y pin (look s.env) (hook s.heap) β a w):∀ {l:List ResultVar} {vs:List TV},gY P s l=some vs->
  ∃b,(l.mapM<|nr a.tmps).run P w=.ok b w/\LRep (TRep w (XO Y (hook s.heap) β) β) vs b
 |[],vs,h=>by simp only[gY,tL] at h;subst h;exact⟨[],zb,.nil⟩
 |x::l,vs,h=>by
  simp only[gY] at h;split at h
  .rename_i v i f e;injection h with h;subst h
   obtain⟨u,g,m⟩:=resA_run d f;obtain⟨b,j,o⟩:=Kf d e;refine⟨u::b,?_,.cons m o⟩;rw[List.mapM_cons];simp only[Ao,g,A2,j,Av]
  .cases h
theorem Wa {X:Nat->Prop}{β:Nat->Option Nat}{w:World}:∀ {l:List TV} {rows:List (Bool×List WV)} {d:List Value},gK l=some rows->LRep (TRep w X β) l d->LRep (PRep<|WRep w X β) rows d
 |[],rows,d,h,e=>by simp only[gK,tL] at h;subst h;have:d=[]:=tS (zp e.1.symm);subst this;exact .nil
 |x::l,rows,d,h,e=>by
  simp only[gK] at h;split at h
  .rename_i v vs b g;injection h with h;subst h
   obtain⟨u,o,rfl,f,j⟩:=e.cons_inv;refine .cons ?_<|Wa g j;unfold Kj at b;split at b
   .injection b with b;subst b
    exact⟨[u],rfl,.cons f .nil,λ_=>rfl⟩
   .injection b with b;subst b
    obtain⟨m,rfl,i⟩:=f;exact⟨m,rfl,i,λh=>by cases h⟩
   .cases b
  .cases h
theorem om {X:Nat->Prop}{β:Nat->Option Nat}{w:World}{l:List TV}{r:TV}{d:List Value}(h:d8 l=some r)(g:LRep (TRep w X β) l d):
  TRep w X β r (if h:d.toArray.size=1 then d.toArray[0] else .tuple d.toArray):=by
 unfold d8 at h;split at h
 .injection h with h;subst h
  obtain⟨u,j,rfl,p,o⟩:=g.cons_inv;have:j=[]:=tS (zp o.1.symm);subst this;exact p
 .rename_i b;obtain⟨rows,m,rfl⟩:=tH.1 h;have e:d.toArray.size≠1:=by
   intro i;have f:=g.1;simp at i
   match l,f,b with
   |[],f,_=>simp[i] at f
   |[x],_,b=>exact b x rfl
   |_::_::_,f,_=>simp[i] at f
  rw[dif_neg e];exact⟨d,rfl,Wa m g⟩
theorem AC.intro {f:FuncId} {fn:Func} {c:Code} {rl:List ResultVar} {n:Nat} {args:List TV} {Hs Hs':List AObj} {r:TV} (hf:P.funcs[f]?=some fn) (H:fn.body=some c) (hrl:fn.results.toList=rl) (hn:fn.ntmps=n) (hen:xF P f=true) (hsz:args.length<=n)
  (O:Hs.length<=Hs'.length) (hlive:∀x∈Hs,isLive x) (J:∀x∈Hs'.drop Hs.length,isLive x)
  (h:Awp P n Hs.length c (Ret P rl Hs.length r Hs') ⟨qI 0 args,yO 0 Hs,Hs.length⟩):AC P f args Hs r Hs':=by
 subst hrl;subst hn;refine⟨hen,O,λw vals β Y hβ hY Z hO m=>?_⟩;have d:∀l:List AObj,hook (yO 0 l)=λo=>l.getD o .gone:=λl=>funext λo=>by rw[kf];simp
 refine(callsIn_wide (n:=0)).1<|callsIn_of_wp_marks hf H trivial (wpIn_wide.2 ?_);have hvl:=m.1
 have L:∀o x,(λo=>if o<Hs.length then some (β o) else none:Nat->Option (Option Nat)) o=some x->o<Hs.length/\β o=x:=λo x z=>by
  simp only at z;split at z;next C=>injection z with z;exact⟨C,z⟩
  .cases z
 refine wp_mono (h w (Own (λo=>Hs.getD o .gone) β) Y (λo=>if o<Hs.length then some (β o) else none) β _ w (λo x z=>(L o x z).1) zj ⟨Good.refl _ _,λi=>?_,?_,λo b j p=>.inl ⟨o,?_,p⟩,Marks.nil _ _,hY,λo x z=>(L o x z).2,Z⟩ λk hk=>?_) λe K w' W=>?_
 .rw[YG,tG<|AT _,ET];show TRep w (XO Y (hook<|yO 0 Hs) β) β _ _;rw[d];by_cases hi:i<args.length
  .have j:args[i]?=some args[i]:=tO hi;have p:vals[i]?=some (vals[i]' za):=tO za;have:=m.2 i _ _ j p;simp only[getD,j,AU];have M:(vals.toArray++Array.replicate (fn.ntmps-vals.toArray.size) undef).getD i undef=vals[i]' za:=by simp[Au,Array.getElem?_append,(za:i<vals.length)]
   rw[M];exact this
  .simp only[getD,EW (by omega:args.length<=i),Option.getD_none];trivial
 .show Objs (hook<|yO 0 Hs) β Y w;rw[d];exact hO
 .have U:isLive (hook (yO 0 Hs) o):=j;rw[d] at U;exact U
 .rcases hk with hk|hk
  .cases H:β k with
   |none=>exact absurd H hk
   |some b=>exact hβ k b H
  .simp only at hk;split at hk
   .assumption
   .exact absurd rfl hk
 .have key:At P w (Own (λo=>Hs.getD o .gone) β) Y (λo=>if o<Hs.length then some (β o) else none) fn.ntmps (iP P fn.results.toList Hs.length r Hs') K w'->∃Ds w1,K.defers=Ds.map mark/\Ds.Nodup/\(∀D∈Ds,w'.heap[D]?=some (.deferred<|some []))/\w1=uD Ds w'/\∃v,(results fn K.tmps).run P w1=.ok v w1/\∃v' g,Ending.returned v=.returned v'/\
    Good w (Own (λo=>Hs.getD o .gone) β) w1/\Objs (λo=>Hs'.getD o .gone) g Y w1/\TRep w1 (λb=>Y b\/Own (λo=>Hs'.getD o .gone) g b) g r v'/\
    (∀o b,g o=some b->o<Hs'.length)/\(∀o,o<Hs.length->g o=β o)/\(∀o b,Hs.length<=o->g o=some b->w.heap.size<=b\/Own (λo=>Hs.getD o .gone) β b):=by
   rintro ⟨s,g,⟨rs,G,σ,E,r0,j,p,M,V,I,h6,h7,h8⟩,_,F,_⟩;obtain⟨Ds,hds,X,T,F⟩:=F.shut;refine⟨Ds,_,hds,X,T,rfl,?_⟩;clear T;generalize uD Ds w'=w' at F ⊢;obtain⟨N,g1,g2⟩:=Kf F j;have k:=r7 V h7 h8;have hrs:LRep (TRep w' (XO Y (hook<|yO 0 Hs')<|cutβ σ Hs'.length g)<|cutβ σ Hs'.length g) G N:=by
    clear j p g1
    induction rs generalizing G N with
    |nil=>
     cases G with
     |nil=>
      have:N=[]:=tS (zp g2.1.symm);subst this;exact .nil
     |cons y ys=>exact I.elim
    |cons x xs ih=>
     cases G with
     |nil=>exact I.elim
     |cons y ys=>obtain⟨u,us',rfl,hu,hr⟩:=g2.cons_inv;exact .cons (k.rep F.objs hu I.1.1 I.1.2)<|ih _ I.2 _ hr
   have hp:=TRep.le M<|om p hrs;refine⟨(if h:N.toArray.size=1 then N.toArray[0] else .tuple N.toArray),?_,_,cutβ σ Hs'.length g,rfl,F.good,?_,?_,λo b C=>?_,λo C=>?_,λo b C H=>?_⟩
   .unfold results;rw[<-S1 (xs:=fn.results),List.mapM_toArray];simp only[Ao,Sem.run_map,Av];show((Sem.run P (List.mapM (nr K.tmps) fn.results.toList) w').andThen _).andThen _=_;rw[g1];rfl
   .have:=k.objs F.objs;rw[d] at this;exact this
   .have:=hp;rw[d] at this;exact this
   .simp only[cutβ] at C;split at C
    .assumption
    .cases C
   .simp only[cutβ,(za:o<Hs'.length),tZ,h6 o C];exact F.pins o (β o) (by simp[C])
   .simp only[cutβ] at H;split at H
    .rename_i S;have hl:isLive (hook (yO 0 Hs') o):=by rw[kf,tG<|AT _,ET];simp only[getD,tO S,AU];refine J _<|List.mem_iff_getElem?.2 ⟨o-Hs.length,?_⟩;rw[E2,(za:Hs.length+(o-Hs.length)=o)];exact tO S
     rcases F.own _ b (k.live hl) H with h9|h9
     .exact .inr h9
     .exact .inl h9
    .cases H
  cases e with
  |normal=>obtain⟨Ds,w1,j,p,M,rfl,v,V,I⟩:=key W;show LeavesInM Fence.wide 0 P fn K.tmps _ K.defers .returning w';rw[j];exact uE p M ⟨v,V,I⟩
  |ret=>obtain⟨Ds,w1,j,p,M,rfl,v,V,I⟩:=key W;show LeavesInM Fence.wide 0 P fn K.tmps _ K.defers .returning w';rw[j];exact uE p M ⟨v,V,I⟩
  |exit i=>obtain⟨s,β,j,_⟩:=W;exact j.elim
  |_=>exact W.elim
end
end Go.AM
namespace Go.AM
def FV.I:FV->Int|.int _ n=>n|_=>0
def FV.asB:FV->Bool|.bool b=>b|_=>false
def FV.S:FV->List UInt8|.str l=>l|_=> []
def FV.ses:FV->List (List FV)|.sl _ _ es=>es|_=> []
def FV.L (n:Nat):FV->Bool|.N=>true|.sl _ m _=>m==n|.z0 _=>true|_=>false
def FV.cut (x:FV)(lo hi:Nat):FV:=match x with|.sl b n es=>.sl b n ((es.take hi).drop lo)|y=>y
def FV.cut0 (x:FV):FV:=match x with|.sl b _ _=>.z0 b|y=>y
def shp:List FV->Nat->List FV->List FV
 |[],_,_=> []
 |.int k _::z,j,r=>.int k (r.getD j .N).I::shp z (j+1) r
 |.bool _::z,j,r=>.bool (r.getD j .N).asB::shp z (j+1) r
 |.str _::z,j,r=>.str (r.getD j .N).S::shp z (j+1) r
 |_::z,j,r=>r.getD j .N::shp z (j+1) r
theorem Wj:∀(z:List FV) (j:Nat) (r:List FV),(shp z j r).length=z.length
 |[],_,_=>rfl
 |x::z,j,r=>by cases x<;>simp only[shp,tC,Wj z]
def br (b:Bool)(t f:Prop):Prop:=match b with|true=>t|false=>f
theorem zu {b:Bool}{t f:Prop}(e:b=true->t)(d:b=false->f):br b t f:=by
 cases b
 .exact d rfl
 .exact e rfl
theorem br_true {t f:Prop}:br true t f=t:=rfl
theorem Jk {t f:Prop}:br false t f=f:=rfl
def oK' (r:Option AR)(K:AR->Prop):Prop:=match r with|some r=>K r|none=>False
theorem xP {r:Option AR}{K:AR->Prop}(h:oK' r K):∃x,r=some x/\K x:=by
 cases r with
 |none=>exact h.elim
 |some x=>exact⟨x,rfl,h⟩
def FV.isPt:FV->Bool|.pt _=>true|_=>false
def FV.prow:FV->List FV|.pt cs=>cs|_=> []
def FV.isNp:FV->Bool|.cst (.pointer none)=>true|_=>false
def FV.isMp:FV->Bool|.mp _=>true|_=>false
def FV.mes:FV->List MapZ|.mp es=>es|_=> []
def ask (b:Bool)(K:Prop):Prop:=match b with|true=>K|false=>False
theorem Zj {b:Bool}{K:Prop}(h:ask b K):b=true/\K:=by
 cases b
 .exact h.elim
 .exact⟨rfl,h⟩
theorem Ju {y:FV}(h:y.isPt=true):y=.pt y.prow:=by cases y<;>first|rfl|cases h
theorem isMp_eq {y:FV}(h:y.isMp=true):y=.mp y.mes:=by cases y<;>first|rfl|cases h
theorem isNp_eq {y:FV}(h:y.isNp=true):y=.cst (.pointer none):=by
 unfold FV.isNp at h;split at h
 .rfl
 .cases h
def kindB (z c:FV):Bool:=
 match z with
 |.int k _=>match c with|.int k' _=>k==k' |_=>false
 |.bool _=>match c with|.bool _=>true|_=>false
 |.str _=>match c with|.str _=>true|_=>false
 |_=>true
def shpB:List FV->List FV->Bool
 |[],_=>true
 |z::zs,r=>match r with
  |[]=>false
  |c::r=>kindB z c&&shpB zs r
theorem K8:∀ {z r:List FV} (p:List FV),shpB z r=true->shp z p.length (p++r)=r.take z.length/\z.length<=r.length
 |[],r,p,_=>⟨by simp[shp],zb⟩
 |x::z,[],p,h=>by cases h
 |x::z,c::r,p,h=>by
  have d:(p++c::r).getD p.length .N=c:=by simp[getD]
  have h':=(tF _ _▸(show(kindB x c&&shpB z r)=true from h):kindB x c=true/\shpB z r=true);obtain⟨e,g⟩:=K8 (p++[c]) h'.2;rw[(zb:p++c::r=(p++[c])++r),] at d;have f:(p++[c]).length=p.length+1:=zb;rw[f] at e;rw[(zb:p++c::r=(p++[c])++r)];have b:=h'.1;refine⟨?_,by simp only[tC];omega⟩
  cases x<;>simp only[shp,d,e,tC,List.take_succ_cons]<;>simp only[kindB] at b<;>cases c<;>
   first
   |rfl
   |cases b
   |(simp only[Al] at b;subst b;rfl)
def tyP (P:Program)(t:TypeId)(f:TyD->Prop):Prop:=match tyOf P t with|some d=>f d|none=>False
theorem yY {P:Program}{t:TypeId}{f:TyD->Prop}(h:tyP P t f):∃d,tyOf P t=some d/\f d:=by unfold tyP at h;grind
def JB (h:Nat->AObj):WV->Prop
 |.a (.osl o n off len)=>match h o with|.arz m fs=>n=m/\off+len<=fs.length|_=>True
 |_=>True
def givW (h:Nat->AObj):WV->WV×AHeap
 |.a (.osl o n off len)=>match h o with
  |.arz _ fs=>(.a<|.fz<|.sl false n<|(fs.drop off).take len,[(o,.gone)])
  |_=>(.a<|.osl o n off len,[])
 |x=>(x,[])
theorem sE {h:Nat->AObj}{x:WV}(d:JB h x):qa h x=givW h x:=by
 cases x with
 |fn f a b=>rfl
 |a x=>
  cases x with
  |osl o n g e=>simp only[qa,givW,JB] at d ⊢;grind
  |_=>rfl
def gP (h:Nat->AObj):List WV->List WV×AHeap
 |[]=>([],[])
 |x::r=>((givW h x).1::(gP h r).1,(givW h x).2++(gP h r).2)
def ql (h:Nat->AObj):List WV->Prop
 |[]=>True
 |.a (.osl o n off len)::r=>JB h (.a<|.osl o n off len)/\ql h r
 |_::r=>ql h r
theorem Yd {h:Nat->AObj}{x:WV}{r:List WV}(d:ql h<|x::r):JB h x/\ql h r:=by
 cases x with
 |fn f a b=>exact⟨trivial,d⟩
 |a x=>
  cases x with
  |osl o n g e=>exact d
  |_=>exact⟨trivial,d⟩
theorem pp {h:Nat->AObj}:∀ {l:List WV},ql h l->vd h l=gP h l
 |[],_=>rfl
 |x::r,b=>by have:=Yd b;simp only[vd,gP,sE this.1,pp this.2]
def givT (h:Nat->AObj):TV->TV×AHeap
 |.c x=>(.c (givW h x).1,(givW h x).2)
 |.agg cs=>(.agg (gP h cs).1,(gP h cs).2)
 |x=>(x,[])
def nA (h:Nat->AObj):TV->Prop
 |.c (.a (.osl o n off len))=>JB h<|.a<|.osl o n off len
 |.agg cs=>ql h cs
 |_=>True
theorem iW {h:Nat->AObj}{x:WV}(g:nA h<|.c x):JB h x:=by
 cases x with
 |fn f a b=>trivial
 |a x=>cases x with
  |osl o n e d=>exact g
  |_=>trivial
theorem givT_eq {h:Nat->AObj}{x:TV}(b:nA h x):ZF h x=givT h x:=by
 cases x with
 |c x=>simp only[ZF,givT,sE<|iW b]
 |agg cs=>simp only[ZF,givT,pp (h:=h) (l:=cs) b]
 |_=>rfl
def givP (h:Nat->AObj):List (Nat×TV)->List (Nat×TV)×AHeap
 |[]=>([],[])
 |(i,x)::r=>((i,(givT h x).1)::(givP h r).1,(givT h x).2++(givP h r).2)
def asksT (h:Nat->AObj)(x:TV)(K:Prop):Prop:=
 match x with
 |.c (.a (.osl o n off len))=>JB h (.a<|.osl o n off len)/\K
 |.agg cs=>match cs.any (λc=>match c with|.a (.osl _ _ _ _)=>true|_=>false) with
  |true=>ql h cs/\K
  |false=>K
 |_=>K
theorem Xt {h:Nat->AObj}:∀ {cs:List WV},cs.any (λc=>match c with|.a (.osl _ _ _ _)=>true|_=>false)=false->ql h cs
 |[],_=>trivial
 |x::r,d=>by
  simp only[E3,Bool.or_eq_false_iff] at d;have:=Xt (h:=h) d.2;cases x with
  |fn f a b=>exact this
  |a x=>cases x with
   |osl o n g e=>cases d.1
   |_=>exact this
theorem Kk {h:Nat->AObj}{x:TV}{K:Prop}(b:asksT h x K):nA h x/\K:=by
 unfold asksT at b;split at b
 .exact b
 .rename_i cs;split at b
  .exact b
  next d=>exact⟨Xt d,b⟩
 next f e=>refine⟨?_,b⟩;unfold nA;simp
def asksP (h:Nat->AObj):List (Nat×TV)->Prop->Prop
 |[],K=>K
 |(_,x)::r,K=>asksT h x<|asksP h r K
theorem YR {h:Nat->AObj}:∀ {l:List (Nat×TV)} {K:Prop},asksP h l K->ve h l=givP h l/\K
 |[],_,b=>⟨rfl,b⟩
 |(i,x)::r,K,b=>by obtain⟨g,d⟩:=Kk b;obtain⟨f,e⟩:=YR d;exact⟨by simp only[ve,givP,givT_eq g,f],e⟩
section
variable {P:Program}
def elemV (de:TyD)(x:TV)(i:Int)(K:TV->Prop):Prop:=
 match x with
 |.c (.a (.osl o n off len))=>match de.size==n with
  |true=>(0<=i/\i<len)/\K (.c<|.a<|.ep o n (off+i.toNat) 0)
  |false=>False
 |.c (.a (.fz y))=>match de.zero with
  |some z=>(y.L de.size=true/\0<=i/\i<y.ses.length/\shp z 0 (y.ses.getD i.toNat [])=y.ses.getD i.toNat [])/\K (.c<|.a<|.fz<|.pt<|shp z 0<|y.ses.getD i.toNat [])
  |none=>False
 |_=>False
theorem oq {f:TyD}{x:TV}{i:Int}{K:TV->Prop}(h:elemV f x i K):∃v,XS f x i=some v/\K v:=by
 unfold elemV at h;split at h
 .rename_i o n p r;split at h;next g=>simp only[Al] at g;exact⟨_,by simp only[XS,g,h.1,and_self,tZ],h.2⟩
  .grind
 .rename_i y;split at h
  .rename_i z w;obtain⟨⟨e,j,b,m⟩,d⟩:=h;rw[m] at d;cases y with
   |sl u n es=>simp only[FV.L,Al] at e;simp only[FV.ses] at b d;exact⟨_,by simp only[XS,e,j,b,and_self,tZ],d⟩
   |N=>simp[FV.ses] at b;omega
   |z0=>simp[FV.ses] at b;omega
   |_=>cases e
  .grind
 .grind
def Z4 (P:Program)(d:TyD)(x ix:TV)(K:TV->Prop):Prop:=
 match ix with
 |.c (.a (.fz (.int _ i)))=>match d.kind with
  |.slice e=>tyP P e λde=>elemV de x i K
  |.arr m e=>tyP P e λde=>match x with
   |.c (.a (.ep o n k j))=>(0<=i/\i<m)/\K (.c<|.a<|.ep o n k<|j+i.toNat*de.size)
   |_=>False
  |_=>False
 |_=>False
theorem Xu {d:TyD}{x f:TV}{K:TV->Prop}(h:Z4 P d x f K):∃v,xm P d x f=some v/\K v:=by
 unfold Z4 at h;split at h
 .split at h;next e=>obtain⟨j,hd,b⟩:=yY h;clear h;have h:=b;clear b;obtain⟨v,g,i⟩:=oq h;exact⟨v,by simp only[xm,e,hd,g],i⟩
  .rename_i e;obtain⟨j,hd,b⟩:=yY h;clear h;have h:=b;clear b;split at h
   .exact⟨_,by simp only[xm,e,hd,dz,h.1,and_self,tZ],h.2⟩
   .grind
  .grind
 .grind
def nt (P:Program)(d:TyD)(x ix:TV)(K:TV->Prop):Prop:=
 match ix with
 |.c (.a (.fz (.int _ i)))=>match d.kind with
  |.str=>match x with
   |.c (.a (.fz (.str l)))=>(0<=i/\i<l.length)/\K (.c<|.a<|.fz<|.int .u8 (l.getD i.toNat 0).toNat)
   |_=>False
  |_=>match XT P d x ix with|some v=>K v|none=>False
 |_=>False
theorem pZ {d:TyD}{x b:TV}{K:TV->Prop}(h:nt P d x b K):∃v,XT P d x b=some v/\K v:=by
 unfold nt at h;split at h
 .split at h
  .rename_i e;split at h
   .exact⟨_,by simp only[XT,e,h.1,and_self,tZ],h.2⟩
   .grind
  .grind
 .grind
def bndV (x:Option TV)(dflt:Int)(K:Int->Prop):Prop:=
 match x with
 |none=>K dflt
 |some (.c (.a (.fz (.int _ i))))=>K i
 |_=>False
theorem qH {x:Option TV}{b most:Nat}{K:Int->Prop}(h:bndV x b K):∃i:Int,K i/\(0<=i->i<=most->wA x b most=some i.toNat):=by
 unfold bndV at h;split at h
 .exact⟨b,h,λ_ _=>by simp[wA]⟩
 next i=>exact⟨i,h,λe d=>by simp only[wA,e,d,and_self,tZ]⟩
 .grind
def gQ (lo hi mx:Option TV)(len:Nat)(K:Nat->Nat->Prop):Prop:=
 match mx with
 |none=>bndV hi len λb=>bndV lo ((0:Nat):Int) λa=>(0<=a/\a<=b/\b<=len)/\K a.toNat b.toNat
 |some m=>match hi with
  |none=>False
  |some _=>bndV (some m) len λc=>bndV hi len λb=>bndV lo ((0:Nat):Int) λa=>(0<=a/\a<=b/\b<=c/\c<=len)/\K a.toNat b.toNat
theorem Zd {p g o:Option TV}{d:Nat}{K:Nat->Nat->Prop}(h:gQ p g o d K):∃a b,ZO p g o d=some (a,b)/\K a b:=by
 unfold gQ at h;split at h
 .obtain⟨b,h,e⟩:=qH (most:=d) h;obtain⟨a,h,i⟩:=qH (most:=b.toNat) h;obtain⟨⟨j,w,r⟩,f⟩:=h;refine⟨_,_,?_,f⟩;have u:wA none d d=some d:=rfl;simp only[ZO,u,e za r,(za:b.toNat<=d),En,tX,false_implies,and_self,tZ,i j za,tW]
 .split at h
  .grind
  next m g=>obtain⟨c,h,x⟩:=qH (most:=d) h;obtain⟨b,h,e⟩:=qH (most:=d) h;obtain⟨a,h,i⟩:=qH (most:=b.toNat) h;obtain⟨⟨j,w,r,v⟩,f⟩:=h;refine⟨_,_,?_,f⟩;simp only[ZO,x za v,e za za,(za:b.toNat<=c.toNat),Option.isSome_some,implies_true,and_self,tZ,i j za,tW]
def oV (P:Program)(d:TyD)(x:TV)(lo hi mx:Option TV)(K:TV->Prop):Prop:=
 match d.kind with
 |.slice e=>tyP P e λde=>match x with
  |.c (.a (.osl o n off len))=>match n==de.size with
   |true=>gQ lo hi mx len λa b=>K<|.c<|.a<|.osl o n (off+a)<|b-a
   |false=>False
  |.c (.a (.fz y))=>y.L de.size=true/\gQ lo hi mx y.ses.length λa b=>br (uc mx) (K<|.c<|.a<|.fz y.cut0)<|K<|.c<|.a<|.fz<|y.cut a b
  |_=>False
 |.str=>match x,mx with
  |.c (.a (.fz (.str l))),none=>gQ lo hi none l.length λa b=>K<|.c<|.a<|.fz<|.str<|(l.take b).drop a
  |_,_=>False
 |_=>False
theorem lx {d:TyD}{x:TV}{u w o:Option TV}{K:TV->Prop}(h:oV P d x u w o K):∃v,wQ P d x u w o=some v/\K v:=by
 unfold oV at h;split at h
 .rename_i e j;obtain⟨A,hd,i⟩:=yY h;clear h;have h:=i;clear i;split at h
  .split at h;next r=>obtain⟨a,b,g,f⟩:=Zd h;simp only[Al] at r;subst r;exact⟨_,by simp only[wQ,j,hd,Ze,tZ,g,tW],f⟩
   .grind
  .rename_i y;obtain⟨p,h⟩:=h;obtain⟨a,b,g,f⟩:=Zd h;cases y with
   |sl z n es=>
    simp only[FV.L,Al] at p;simp only[FV.ses] at g;refine⟨_,by simp only[wQ,j,hd,Ze,p,tZ,g,tW];rfl,?_⟩;simp only[FV.cut,FV.cut0,p] at f ⊢;cases m:uc o with
    |true=>rw[m,br_true] at f;exact zp f
    |false=>rw[m,Jk] at f;exact zp f
   |N=>simp only[FV.ses,tR] at g;refine⟨_,by simp only[wQ,j,hd,Ze,g,tW];rfl,?_⟩;cases m:uc o<;>rw[m] at f<;>exact f
   |z0 z=>simp only[FV.ses,tR] at g;refine⟨_,by simp only[wQ,j,hd,Ze,g,tW];rfl,?_⟩;cases m:uc o<;>rw[m] at f<;>exact f
   |_=>cases p
  .grind
 .rename_i j;split at h
  .obtain⟨a,b,g,f⟩:=Zd h;exact⟨_,by simp only[wQ,j,Jw,g,tW],f⟩
  .grind
 .grind
def loadV (d:TyD)(h:Nat->AObj)(x:TV)(K:AR->Prop):Prop:=
 match x with
 |.c (.a (.ep o n i j))=>match h o with
  |.arz m fs=>match m==n,d.zero with
   |true,some z=>match z with
    |[]=>False
    |z0::zs=>(i<fs.length/\shp (z0::zs) j (fs.getD i [])=((fs.getD i []).drop j).take (z0::zs).length/\d.size=(z0::zs).length)/\
     K ⟨if d.agg then .agg (fzs<|shp (z0::zs) j<|fs.getD i []) else .c<|cell<|(shp (z0::zs) j<|fs.getD i []).getD 0 .N,[],[o]⟩
   |_,_=>False
  |_=>oK' ((wS d (λo=>flat<|h o) x).map λr=>⟨r.1,[],r.2⟩) K
 |.c (.a (.fz y))=>match d.zero with
  |some z=>ask (y.isPt&&(Nat.beq d.size z.length&&Nat.ble 1 z.length))<|ask (shpB z y.prow)<|K ⟨if d.agg then .agg (fzs<|shp z 0 y.prow) else .c<|cell<|(shp z 0 y.prow).getD 0 .N,[],[]⟩
  |none=>oK' ((wS d (λo=>flat<|h o) x).map λr=>⟨r.1,[],r.2⟩) K
 |_=>oK' ((wS d (λo=>flat<|h o) x).map λr=>⟨r.1,[],r.2⟩) K
theorem rg {d:TyD}{h:Nat->AObj}{x:TV}{K:AR->Prop}(e:loadV d h x K):∃r,(wS d (λo=>flat<|h o) x).map (λr=>(⟨r.1,[],r.2⟩:AR))=some r/\K r:=by
 unfold loadV at e;split at e
 .rename_i o n i j;split at e
  .rename_i m E M;split at e
   .rename_i z L S;simp only[Al] at L;split at e
    .exact e.elim
    .rename_i T N;obtain⟨⟨u,g,p⟩,C⟩:=e;have w:E[i]?=some (E.getD i []):=by simp[getD,tO u]
     generalize E.getD i []=b at*;generalize F:T::N=G at*;have f:(b.drop j).length>=G.length:=by have:=congrArg List.length g;rw[Wj,AH,Nat.min_def] at this;split at this<;>omega
     have A:0<G.length:=by rw[<-F];simp
     refine⟨_,?_,C⟩;simp only[wS,M,flat,L,tZ,tV,w,tW];by_cases v:d.agg=true
     .have H:(fzs b).drop j=fzs (b.drop j):=by simp[fzs]
      simp only[ZK,v,tZ,H,show d.size<=(fzs<|b.drop j).length by simp[fzs];simp at f;omega,tW];rw[g,p];simp[fzs]
     .have H:(fzs b).drop j=fzs (b.drop j):=by simp[fzs]
      simp only[ZK,v,tX,A6,H]
      match I:b.drop j,f with
      |[],f=>exact absurd A (by simp only[tR] at f;omega)
      |y::ys,_=>
       simp only[fzs,Aw,tW];rw[g,I]
       match G,A with
       |_::_,_=>simp
   .exact e.elim
  .exact xP e
 .rename_i y;split at e
  .rename_i z S;obtain⟨u,e⟩:=Zj e;obtain⟨O,C⟩:=Zj e;simp only[tF] at u;obtain⟨u,g,p⟩:=u;have g:=AJ g;have p:=A9 p;obtain⟨J,D⟩:=K8 [] O;simp only[E0,tR] at J;rw[J] at C;refine⟨_,?_,C⟩;have U:=Ju u;generalize y.prow=b at*;subst U;simp only[wS];by_cases v:d.agg=true
   .simp only[ZK,v,tZ,g,show z.length<=(fzs b).length by simpa[fzs] using D,tW];simp[fzs,List.map_take]
   .simp only[ZK,v,tX,A6]
    match b,D with
    |[],D=>exact absurd p (by simp only[tR] at D;omega)
    |c::cs,_=>
     match z,p with
     |_::_,_=>simp[fzs,v]
  .exact xP e
 .exact xP e
def iE (d:TyD)(h:Nat->AObj)(x y:TV)(K:AR->Prop):Prop:=
 match x with
 |.c (.a (.ep o n i j))=>match h o with
  |.arz m fs=>match uI y with
   |some cs=>match unfz cs with
    |some fcs=>match m==n&&fcs.length==d.size&&j==0&&fcs.length==n with
     |true=>(i<fs.length/\(fs.getD i []).length=n)/\K ⟨.any,[(o,.arz n<|fs.set i fcs)],[o]⟩
     |false=>match m==n&&fcs.length==d.size&&Nat.ble (j+fcs.length) n with
      |true=>(i<fs.length/\(fs.getD i []).length=n)/\K ⟨.any,[(o,.arz n<|fs.set i<|u7 (fs.getD i []) j fcs)],[o]⟩
      |false=>oK' (ut d h x y) K
    |none=>False
   |none=>False
  |_=>oK' (ut d h x y) K
 |_=>oK' (ut d h x y) K
theorem pM {d:TyD}{h:Nat->AObj}{x y:TV}{K:AR->Prop}(b:iE d h x y K):∃r,ut d h x y=some r/\K r:=by
 unfold iE at b;split at b
 .rename_i o n i j;split at b
  .rename_i m g w;split at b
   .rename_i cs v;split at b
    .rename_i f A;split at b
     .rename_i p;simp only[tF,Al] at p;obtain⟨⟨⟨u,hd⟩,z⟩,G⟩:=p;obtain⟨⟨F,C⟩,E⟩:=b;have e:g[i]?=some (g.getD i []):=zd;have D:u7 (g.getD i []) j f=f:=by subst z;simp only[u7,List.take_zero,E0,A4];grind
      simp only[ut,v,w,A,u,hd,and_self,tZ,e];grind
     .split at b
      .rename_i p;simp only[tF,Al,Nat.ble_eq] at p;obtain⟨⟨u,hd⟩,z⟩:=p;obtain⟨⟨F,C⟩,E⟩:=b;have e:g[i]?=some (g.getD i []):=zd;simp only[ut,v,w,A,u,hd,and_self,tZ,e];grind
      .exact xP b
    .grind
   .grind
  .exact xP b
 .exact xP b
def o7 (n:Nat)(h:Nat->AObj)(x:TV)(K:List (List FV)->List Nat->Prop):Prop:=
 match x with
 |.c (.a (.fz y))=>y.L n=true/\K y.ses []
 |.c (.a (.osl o m off len))=>match h o with
  |.arz m' es=>match m==n&&m'==n with
   |true=>off+len<=es.length/\K ((es.drop off).take len) [o]
   |false=>False
  |_=>False
 |_=>False
theorem pT {n:Nat}{h:Nat->AObj}{x:TV}{K:List (List FV)->List Nat->Prop}(b:o7 n h x K):∃es rd,uC n h x=some (es,rd)/\K es rd:=by
 unfold o7 at b;split at b
 .rename_i y;obtain⟨f,e⟩:=b;cases y with
  |sl i m es=>simp only[FV.L,Al] at f;exact⟨_,_,by simp only[uC,f,tZ];rfl,e⟩
  |N=>exact⟨_,_,rfl,e⟩
  |z0=>exact⟨_,_,rfl,e⟩
  |_=>cases f
 .split at b
  .rename_i g;split at b;next d=>simp only[tF,Al] at d;exact⟨_,_,by simp only[uC,g,d.1,d.2,b.1,and_self,tZ],b.2⟩
   .grind
  .grind
 .grind
def dk (d:TyD)(fr:Nat)(h:Nat->AObj)(s x:TV)(K:AR->Prop):Prop:=
 o7 d.size h x λnew rd=>match s with
  |.c (.a (.fz .N))=>br new.isEmpty (K ⟨s,[],rd⟩)<|zI new.length d.bytes/\K ⟨.c<|.a<|.osl fr d.size 0 new.length,[(fr,.arz d.size new)],rd⟩
  |.c (.a (.fz (.z0 _)))=>br new.isEmpty (K ⟨s,[],rd⟩)<|zI new.length d.bytes/\K ⟨.c<|.a<|.osl fr d.size 0 new.length,[(fr,.arz d.size new)],rd⟩
  |.c (.a (.osl o n off len))=>match h o with
   |.arz m fs=>match n==d.size&&m==d.size&&off==0 && !(fr::rd).contains o with
    |true=>(len<=fs.length/\zI (len+new.length) d.bytes)/\
     K ⟨.c<|.a<|.osl fr d.size 0<|len+new.length,[(o,.gone),(fr,.arz d.size<|fs.take len++new)],o::rd⟩
    |false=>False
   |_=>False
  |_=>False
theorem dK {d:TyD}{fr:Nat}{h:Nat->AObj}{s x:TV}{K:AR->Prop}(b:dk d fr h s x K):∃r,wo d fr h s x=some r/\K r:=by
 unfold dk at b;obtain⟨e,rd,g,b⟩:=pT b;split at b
 .by_cases f:e=[]
  .subst f;exact⟨_,by simp only[wo,g,tZ],b⟩
  .have:e.isEmpty=false:=by cases e<;>simp_all
   rw[this,Jk] at b;exact⟨_,by simp only[wo,g,f,A6,b.1,tZ],b.2⟩
 .by_cases f:e=[]
  .subst f;exact⟨_,by simp only[wo,g,tZ],b⟩
  .have:e.isEmpty=false:=by cases e<;>simp_all
   rw[this,Jk] at b;exact⟨_,by simp only[wo,g,f,A6,b.1,tZ],b.2⟩
 .split at b
  .rename_i m;split at b;next i=>simp only[tF,Al,AA] at i;obtain⟨⟨⟨w,j⟩,v⟩,p⟩:=i;obtain⟨⟨u,y⟩,o⟩:=b;exact⟨_,by simp only[wo,g,m,w,j,v,p,u,y,EN,and_self,tZ],o⟩
   .grind
  .grind
 .grind
def Jl (P:Program)(t':TypeId)(de:TyD)(fr:Nat)(s x:TV)(K:AR->Prop):Prop:=
 match P.underlying t',s,x with
 |some (.int _),.c (.a (.fz .N)),.c (.a (.fz (.int _ n)))=>match decide (0<de.size/\0<de.bytes)&&(de.zero.map List.length==some de.size) with
  |true=>(0<n/\zI n.toNat de.bytes)/\K ⟨.c<|.a<|.osl fr de.size 0 n.toNat,[(fr,.arz de.size [])],[]⟩
  |false=>False
 |_,_,_=>False
theorem gJ {f:TypeId}{e:TyD}{fr:Nat}{s x:TV}{K:AR->Prop}(b:Jl P f e fr s x K):∃r,(Z5 P f e fr s x).map xh=some r/\K r:=by
 unfold Jl at b;split at b
 .rename_i g;split at b;next d=>simp only[tF,Ak,Al] at d;refine⟨_,?_,b.2⟩;unfold Z5;simp only[g];rw[tG ⟨b.1.1,d.1.1,b.1.2,d.1.2,d.2⟩];rfl
  .grind
 .grind
def WL (P:Program)(b:Builtin)(ts:List TypeId)(fr:Nat)(h:Nat->AObj)(args:List TV)(K:AR->Prop):Prop:=
 match b,ts,args with
 |.len,[t],[x]=>tyP P t λd=>match d.kind,x with
  |.slice e,.c (.a (.fz y))=>tyP P e λde=>y.L de.size=true/\K ⟨iV y.ses.length,[],[]⟩
  |_,_=>oK' (xL P .len [t] fr h [x]) K
 |.append,[t,t'],[s,x]=>match t==t' with
  |true=>tyP P t λd=>match d.kind with
   |.slice e=>tyP P e λde=>match decide (0<de.size/\0<de.bytes/\de.bytes<=4096)&&(de.zero.map List.length==some de.size) with
    |true=>dk de fr h s x K
    |false=>False
   |_=>False
  |false=>tyP P t λd=>match d.kind with
   |.slice e=>tyP P e λde=>Jl P t' de fr s x K
   |_=>False
 |b,ts,args=>oK' (xL P b ts fr h args) K
theorem KW {b:Builtin}{C:List TypeId}{fr:Nat}{h:Nat->AObj}{args:List TV}{K:AR->Prop}(g:WL P b C fr h args K):∃r,xL P b C fr h args=some r/\K r:=by
 unfold WL at g;split at g
 .rename_i t x;obtain⟨d,hd,f⟩:=yY g;clear g;have g:=f;clear f;split at g
  .rename_i e y j;obtain⟨A,i,f⟩:=yY g;clear g;have g:=f;clear f;obtain⟨o,z⟩:=g;cases y with
   |sl E m es=>exact⟨_,by simp only[xL,xU,yy,hd,lenP,j,XD,tW];rfl,z⟩
   |N=>exact⟨_,by simp only[xL,xU,yy,hd,lenP,j,XD,tW];rfl,z⟩
   |z0=>exact⟨_,by simp only[xL,xU,yy,hd,lenP,j,XD,tW];rfl,z⟩
   |_=>cases o
  .exact xP g
 .rename_i t D s x;split at g
  .rename_i p;simp only[Al] at p;subst p;obtain⟨d,hd,f⟩:=yY g;clear g;have g:=f;clear f;split at g
   .rename_i e j;obtain⟨A,i,f⟩:=yY g;clear g;have g:=f;clear f;split at g;next w=>simp only[tF,Ak,Al] at w;obtain⟨r,o,u⟩:=dK g;exact⟨r,by simp only[xL,tZ,yj,hd,j,i,Y3,w.1,w.2,and_self,o],u⟩
    .grind
   .grind
  .rename_i p;obtain⟨d,hd,f⟩:=yY g;clear g;have g:=f;clear f;split at g
   .rename_i e j;obtain⟨A,i,f⟩:=yY g;clear g;have g:=f;clear f;obtain⟨r,o,u⟩:=gJ g;have v:¬t=D:=zd;exact⟨r,by simp only[xL,v,A6,yj,hd,j,i,o],u⟩
   .grind
 .exact xP g
def ptrQ (P:Program)(t:TypeId)(op:BinOp)(x y:TV):Option (FV×Bool):=
 match x,y with
 |.c (.a (.fz y0)),.c (.a (.fz (.cst (.pointer none))))=>match tyOf P t with
  |some d=>match d.kind,op with
   |.ptr _,.eql=>some (y0,false)
   |.ptr _,.neq=>some (y0,true)
   |_,_=>none
  |none=>none
 |_,_=>none
theorem ptrQ_inv {t:TypeId}{m:BinOp}{x y:TV}{q:FV×Bool}{K:TV->Prop}(h:ptrQ P t m x y=some q)(j:br q.1.isNp (K<|bV (!q.2))<|ask q.1.isPt<|K<|bV q.2):∃v,binA P t m x y=some v/\K v:=by
 have key:∀ {f:FV} {b:Bool} {g:Bool->Bool},q=(f,b)->(∀r,(gH (.a<|.fz f)<|.a<|.fz<|.cst<|.pointer none)=some r->∃v,binA P t m x y=some v/\v=bV (g r))->(g true= !b)->(g false=b)->∃v,binA P t m x y=some v/\K v:=by
  intro f b g A w D C;subst A;cases p:f.isNp with
  |true=>rw[p] at j;obtain⟨v,u,rfl⟩:=w true (by rw[isNp_eq p];rfl);exact⟨_,u,by rw[D];exact j⟩
  |false=>rw[p] at j;obtain⟨z,i⟩:=Zj j;obtain⟨v,u,rfl⟩:=w false (by rw[Ju (y:=f) z];rfl);exact⟨_,u,by rw[C];exact i⟩
 unfold ptrQ at h;split at h
 .rename_i f;split at h
  .rename_i d hd;split at h
   .rename_i e i;injection h with h
    exact key (g:=λr=>r) h.symm (λr o=>⟨_,by simp only[binA,eqA,eqC,hd,i,o,eqOp,tW],rfl⟩) rfl rfl
   .rename_i e i;injection h with h
    exact key (g:=λr=> !r) h.symm (λr o=>⟨_,by simp only[binA,eqA,eqC,hd,i,o,eqOp,tW],rfl⟩) rfl rfl
   .cases h
  .cases h
 .cases h
def binV (P:Program)(t:TypeId)(op:BinOp)(x y:TV)(K:TV->Prop):Prop:=
 match op,x,y with
 |.quo,.c (.a (.fz (.int k a))),.c (.a (.fz (.int k' b)))=>(k=k'/\b≠0)/\K (.c<|.a<|.fz<|.int k<|k.wrap<|a.tdiv b)
 |.rem,.c (.a (.fz (.int k a))),.c (.a (.fz (.int k' b)))=>(k=k'/\b≠0)/\K (.c<|.a<|.fz<|.int k<|a.tmod b)
 |.add,.c (.a (.fz (.str a))),.c (.a (.fz (.str b)))=>(a.length+b.length<=1000000000000)/\K (.c<|.a<|.fz<|.str<|a++b)
 |op,x,y=>match ptrQ P t op x y with
  |some q=>br q.1.isNp (K<|bV (!q.2))<|ask q.1.isPt<|K<|bV q.2
  |none=>match binA P t op x y with|some v=>K v|none=>False
theorem binV_inv {t:TypeId}{f:BinOp}{x y:TV}{K:TV->Prop}(b:binV P t f x y K):∃v,binA P t f x y=some v/\K v:=by
 unfold binV at b;split at b
 .obtain⟨⟨rfl,e⟩,d⟩:=b;exact⟨_,by simp only[binA,tZ,Kv,e,A6,tW],d⟩
 .obtain⟨⟨rfl,e⟩,d⟩:=b;exact⟨_,by simp only[binA,tZ,Kv,e,A6,tW],d⟩
 .obtain⟨e,d⟩:=b;exact⟨_,by simp only[binA,cQ,e,tZ,tW],d⟩
 .split at b;next q h=>exact ptrQ_inv h b
  .split at b;next v g=>exact⟨v,g,b⟩
   .exact b.elim
def exC:List FV->(List FV->Prop)->Prop
 |[],K=>K []
 |.int k _::z,K=> ∃n:Int,exC z λl=>K<|.int k n::l
 |.bool _::z,K=> ∃b:Bool,exC z λl=>K<|.bool b::l
 |.str _::z,K=> ∃s:List UInt8,exC z λl=>K<|.str s::l
 |_::z,K=> ∃x:FV,exC z λl=>K<|x::l
theorem cg:∀ {z:List FV} {K:List FV->Prop},exC z K->∃l,K l/\l.length=z.length/\((z.all λf=>match f with|.int _ _=>true|.bool _=>true|.str _=>true|_=>false)=true->(l.all FV.scalar)=true)
 |[],K,h=>⟨[],h,rfl,λ_=>rfl⟩
 |f::z,K,h=>by
  cases f<;>(obtain⟨a,h⟩:=h;obtain⟨l,e,d,g⟩:=cg h;refine⟨_,e,zd,λb=>?_⟩;simp only[AZ,tF,AS,tX,false_and] at b ⊢)<;>
   first|(exact b.elim)|(exact⟨rfl,g b⟩)
def cn (m:Bool×List EK)(key:List FV):List MapE->Nat->(Option Nat->Prop)->Prop
 |[],_,K=>K none
 |e::es,i,K=>match e.1.1==m.1 with
  |true=>match zY m.2 (fzs key) (fzs e.1.2) with
   |some b=>br b (K<|some i)<|cn m key es (i+1) K
   |none=>False
  |false=>False
theorem qn {m:Bool×List EK}{key:List FV}:∀ {es:List MapE} {i:Nat} {K:Option Nat->Prop},cn m key es i K->∃r,vi m key es i=some r/\K r
 |[],i,K,h=>⟨none,rfl,h⟩
 |e::es,i,K,h=>by
  unfold cn at h;split at h
  .rename_i f;split at h
   .rename_i b d;simp only[vi];rw[tG zd,d];cases b with
    |true=>exact⟨some i,rfl,h⟩
    |false=>exact qn (show cn m key es (i+1) K from h)
   .grind
  .grind
def few {α:Type}(l:List α):Bool:=Nat.ble l.length 24
def lkZ (m:(Bool×List EK)×(Bool×List WV))(k:List FV)(es:List MapZ)(rd:List Nat)(ok:Bool)(K:AR->Prop):Prop:=
 match unfz m.2.2 with
 |some z=>(exC z λl=>XH m k es=some (some l)/\oK' ((gF ok (m.2.1,fzs l) true).map λv=>⟨v,[],rd⟩) K)\/(XH m k es=some none/\oK' ((gF ok m.2 false).map λv=>⟨v,[],rd⟩) K)
 |none=>False
theorem i9 {m:(Bool×List EK)×(Bool×List WV)}{h:Nat->AObj}{x key:TV}{k:List FV}{es:List MapZ}{rd:List Nat}{ok:Bool}{K:AR->Prop}(i:keyA m key=some k)(d:qL h x=some (rd,es))(b:lkZ m k es rd ok K):∃r,wv m h x key ok=some r/\K r:=by
 unfold lkZ at b;split at b
 .rcases b with b|⟨e,b⟩
  .obtain⟨l,⟨e,b⟩,_⟩:=cg b;obtain⟨r,f,g⟩:=xP b;exact⟨r,by simp only[wv,d,i,e,f],g⟩
  .obtain⟨r,f,g⟩:=xP b;exact⟨r,by simp only[wv,d,i,e,f],g⟩
 .exact b.elim
def dH (m:(Bool×List EK)×(Bool×List WV))(h:Nat->AObj)(x key:TV)(ok:Bool)(K:AR->Prop):Prop:=
 match keyA m key with
 |some k=>match x with
  |.c (.a (.fz q))=>ask q.isMp<|lkZ m k q.mes [] ok K
  |x=>match vw h x with
   |some oe=>lkZ m k oe.2 [oe.1] ok K
   |none=>match j9 (λo=>flat<|h o) x with
    |some oe=>match few oe.2 with
     |true=>cn m.1 k oe.2 0 λr=>oK' ((nT m oe.2 r ok).map λv=>⟨v,[],[oe.1]⟩) K
     |false=>False
    |none=>False
 |none=>False
theorem dC {m:(Bool×List EK)×(Bool×List WV)}{h:Nat->AObj}{x key:TV}{ok:Bool}{K:AR->Prop}(b:dH m h x key ok K):∃r,wv m h x key ok=some r/\K r:=by
 unfold dH at b;split at b
 .rename_i k e;split at b;next q=>obtain⟨f,b⟩:=Zj b;exact i9 e (by rw[isMp_eq f];rfl) b
  .rename_i i;have j:qL h x=(vw h x).map λp=>([p.1],p.2):=by
    unfold qL;split
    .exact(i _ rfl).elim
    .rfl
   split at b;next g d=>exact i9 e (by rw[j,d];rfl) b
   .rename_i v;split at b
    .rename_i g d;split at b
     .obtain⟨q,f,b⟩:=qn b;obtain⟨r,u,w⟩:=xP b;have y:mapL (λo=>flat<|h o) x=some ([g.1],g.2):=by
       unfold mapL;split
       .exact(i _ rfl).elim
       .rw[d];rfl
      exact⟨r,by simp only[wv,j,v,Option.map_none,wY,e,y,f,u],w⟩
     .exact b.elim
    .exact b.elim
 .exact b.elim
def Yy (m:(Bool×List EK)×(Bool×List WV))(h:Nat->AObj)(x key:TV)(K:AR->Prop):Prop:=
 match keyA m key with
 |some k=>match j9 (λo=>flat<|h o) x with
  |some oe=>match few oe.2 with
   |true=>cn m.1 k oe.2 0 λr=>oK' (entE m oe.1 k oe.2 r) K
   |false=>False
  |none=>False
 |none=>False
theorem Jz {m:(Bool×List EK)×(Bool×List WV)}{h:Nat->AObj}{x key:TV}{K:AR->Prop}(b:Yy m h x key K):∃r,wC m (λo=>flat<|h o) x key=some r/\K r:=by
 unfold Yy at b;split at b
 .rename_i k e;split at b
  .rename_i j d;split at b
   .obtain⟨q,g,b⟩:=qn b;obtain⟨r,f,i⟩:=xP b;exact⟨r,by simp only[wC,e,d,g,f],i⟩
   .grind
  .grind
 .grind
def Z9 (m:(Bool×List EK)×(Bool×List WV))(h:Nat->AObj)(x key v:TV)(K:AR->Prop):Prop:=
 match keyA m key,Kj v with
 |some k,some r=>match vw h x with
  |some oe=>match unfz r.2 with
   |some fr=> ∃es':List MapZ,updZ m k (r.1,fr) oe.2=some es'/\K ⟨.any,[(oe.1,.mapz es')],[oe.1]⟩
   |none=>False
  |none=>match j9 (λo=>flat<|h o) x with
   |some oe=>match few oe.2 with
    |true=>cn m.1 k oe.2 0 λq=>K ⟨.any,[(oe.1,.mapo<|updE m k r oe.2 q)],[oe.1]⟩
    |false=>False
   |none=>False
 |_,_=>False
theorem XM {m:(Bool×List EK)×(Bool×List WV)}{h:Nat->AObj}{x key v:TV}{K:AR->Prop}(b:Z9 m h x key v K):∃r,yS m h x key v=some r/\K r:=by
 unfold Z9 at b;split at b
 .rename_i k o j e;split at b
  .rename_i w d;split at b;next fr f=>obtain⟨y,i,g⟩:=b;exact⟨_,by simp only[yS,d,j,e,f,i,tW],g⟩
   .grind
  .rename_i p;split at b
   .rename_i w d;split at b
    .obtain⟨q,u,g⟩:=qn b;exact⟨_,by simp only[yS,p,yG,j,e,d,u],g⟩
    .grind
   .grind
 .grind
def mapP (P:Program)(t:TypeId)(f:(Bool×List EK)×(Bool×List WV)->Prop):Prop:=match J2 P t with|some m=>f m|none=>False
theorem Jm {P:Program}{t:TypeId}{f:(Bool×List EK)×(Bool×List WV)->Prop}(h:mapP P t f):∃m,J2 P t=some m/\f m:=by unfold mapP at h;grind
def elemP (P:Program)(t:TypeId)(f:TyD->Prop):Prop:=tyP P t λd=>match d.kind with
 |.slice e=>tyP P e f
 |_=>False
theorem rR {P:Program}{t:TypeId}{f:TyD->Prop}(h:elemP P t f):∃b,f b/\∀ {α:Type} (g:TyD->Option α),yj P t g=g b:=by
 obtain⟨d,hd,h⟩:=yY h;split at h
 .rename_i e j;obtain⟨b,i,h⟩:=yY h;unfold yj;grind
 .grind
def Zb (de:TyD)(fr:Nat)(x y:TV)(K:AR->Prop):Prop:=
 match x,y,de.zero with
 |.c (.a (.fz (.int _ n))),.c (.a (.fz (.int _ m))),some z=>(n=m/\0<=n/\z.length=de.size/\0<de.size/\0<de.bytes/\zI n.toNat de.bytes)/\K ⟨.c<|.a<|.osl fr de.size 0 n.toNat,[(fr,.arz de.size<|List.replicate n.toNat z)],[]⟩
 |_,_,_=>False
theorem Xy {b:TyD}{fr:Nat}{x y:TV}{K:AR->Prop}(h:Zb b fr x y K):∃q,wW b fr x y=some q/\K ⟨.c<|.a<|.osl fr b.size 0 q.1,[(fr,.arz b.size<|List.replicate q.1 q.2)],[]⟩:=by
 unfold Zb at h;split at h;next e n f m z d=>exact⟨(n.toNat,z),by simp only[wW,d,tG h.1],h.2⟩
 .grind
def fldV (d:TyD)(f:Nat)(K:Nat->Prop):Prop:=
 match d.kind with
 |.struct fs=>match fs[f]? with
  |some fd=>match fd.2.1 with
   |0=>False
   |_+1=>K fd.1
  |none=>False
 |_=>False
def opV (P:Program)(o:Oper)(fr:Nat)(ρ:Operand->TV)(h:Nat->AObj)(K:AR->Prop):Prop:=
 match o.op with
 |.indexAddr t x ix=>tyP P t λd=>Z4 P d (ρ x) (ρ ix) λv=>K ⟨v,[],[]⟩
 |.index t x ix=>tyP P t λd=>nt P d (ρ x) (ρ ix) λv=>K ⟨v,[],[]⟩
 |.slice t x lo hi mx=>tyP P t λd=>oV P d (ρ x) (lo.map ρ) (hi.map ρ) (mx.map ρ) λv=>K ⟨v,[],[]⟩
 |.load t x=>tyP P t λd=>loadV d h (ρ x) K
 |.store t x y=>tyP P t λd=>iE d h (ρ x) (ρ y) K
 |.call ⟨.builtin b,args,ts⟩=>WL P b ts.toList fr h (args.toList.map ρ) K
 |.binOp op t x y _=>binV P t op (ρ x) (ρ y) λv=>K ⟨v,[],[]⟩
 |.build t parts=>asksP h (parts.toList.map λp=>(p.1,ρ p.2)) (tyP P t λd=>
   match XZ P d (givP h<|parts.toList.map λp=>(p.1,ρ p.2)).1 with
   |some v=>K ⟨v,(givP h<|parts.toList.map λp=>(p.1,ρ p.2)).2,oslP<|parts.toList.map λp=>(p.1,ρ p.2)⟩
   |none=>False)
 |.buildSlice t len parts=>asksP h (parts.toList.map λp=>(p.1,ρ p.2))
   (oK' ((yj P t λde=>wx de fr len (givP h<|parts.toList.map λp=>(p.1,ρ p.2)).1).map λr=>
    ⟨(xh r).val,(xh r).upd++(givP h<|parts.toList.map λp=>(p.1,ρ p.2)).2,oslP<|parts.toList.map λp=>(p.1,ρ p.2)⟩) K)
 |.lookup t x ix ok=>mapP P t λm=>dH m h (ρ x) (ρ ix) ok K
 |.mapEntry t x k=>mapP P t λm=>Yy m h (ρ x) (ρ k) K
 |.mapUpdate t x k v=>mapP P t λm=>Z9 m h (ρ x) (ρ k) (ρ v) K
 |.makeSlice t l c=>elemP P t λde=>Zb de fr (ρ l) (ρ c) K
 |.fieldAddr t x f=>match ρ x with
  |.c (.a (.fz y))=>tyP P t λd=>fldV d f λj=>ask y.isPt<|K ⟨.c<|.a<|.fz<|.pt<|y.prow.drop j,[],[]⟩
  |_=>oK' (aopF P o fr ρ h) K
 |.nilCheck x=>match ρ x with
  |.c (.a (.fz y))=>ask y.isPt<|K ⟨.c<|.a<|.fz y,[],[]⟩
  |_=>oK' (aopF P o fr ρ h) K
 |_=>oK' (aopF P o fr ρ h) K
theorem opV_inv {o:Oper}{fr:Nat}{ρ:Operand->TV}{h:Nat->AObj}{K:AR->Prop}(g:opV P o fr ρ h K):∃r,aopF P o fr ρ h=some r/\K r:=by
 unfold opV at g;split at g;next t x E i=>obtain⟨d,hd,e⟩:=yY g;clear g;have g:=e;clear e;obtain⟨v,u,j⟩:=Xu g;exact⟨_,by simp only[aopF,i,aop,yy,hd,u,valR,tW],j⟩
 next t x E i=>obtain⟨d,hd,e⟩:=yY g;clear g;have g:=e;clear e;obtain⟨v,u,j⟩:=pZ g;exact⟨_,by simp only[aopF,i,aop,yy,hd,u,valR,tW],j⟩
 next t x N T M i=>obtain⟨d,hd,e⟩:=yY g;clear g;have g:=e;clear e;obtain⟨v,u,j⟩:=lx g;exact⟨_,by simp only[aopF,i,aop,yy,hd,u,valR,tW],j⟩
 next t x i=>obtain⟨d,hd,e⟩:=yY g;clear g;have g:=e;clear e;obtain⟨r,p,j⟩:=rg g;exact⟨r,by simp only[aopF,i,aop,yy,hd,p],j⟩
 next t x y i=>obtain⟨d,hd,e⟩:=yY g;clear g;have g:=e;clear e;obtain⟨r,p,j⟩:=pM g;exact⟨r,by simp only[aopF,i,yy,hd,p],j⟩
 next b args W i=>obtain⟨r,p,j⟩:=KW g;exact⟨r,by simp only[aopF,i,p],j⟩
 next O t x y V i=>obtain⟨v,u,j⟩:=binV_inv g;exact⟨_,by simp only[aopF,i,aop,u,valR,tW],j⟩
 .rename_i t parts i;obtain⟨C,g⟩:=YR g;obtain⟨d,hd,e⟩:=yY g;clear g;have g:=e;clear e;split at g;next v u=>exact⟨_,by simp only[aopF,i,yy,hd,C,u,tW],g⟩
  .exact g.elim
 next t J parts i=>obtain⟨C,g⟩:=YR g;obtain⟨r,p,j⟩:=xP g;exact⟨r,by simp only[aopF,i,C,p],j⟩
 next t x E ok i=>obtain⟨m,w,e⟩:=Jm g;obtain⟨r,p,j⟩:=dC e;exact⟨r,by simp only[aopF,i,xA,w,p],j⟩
 next t x k i=>obtain⟨m,w,e⟩:=Jm g;obtain⟨r,p,j⟩:=Jz e;exact⟨r,by simp only[aopF,i,aop,xA,w,p],j⟩
 next t x k v i=>obtain⟨m,w,e⟩:=Jm g;obtain⟨r,p,j⟩:=XM e;exact⟨r,by simp only[aopF,i,xA,w,p],j⟩
 next t l c i=>obtain⟨S,e,I⟩:=rR g;obtain⟨q,H,j⟩:=Xy e;exact⟨_,by simp only[aopF,i,I,H,tW],j⟩
 .rename_i t x f i;split at g
  .rename_i y z;obtain⟨d,hd,e⟩:=yY g;unfold fldV at e;split at e
   .rename_i L j;split at e
    .rename_i U G;split at e
     .exact e.elim
     next n F=>obtain⟨D,A⟩:=Zj e;refine⟨_,?_,A⟩;rw[Ju D] at z;simp only[aopF,i,aop,yy,hd,kO,j,G,F,z,valR,Nat.succ_ne_zero,A6,tW,FV.prow]
    .exact e.elim
   .exact e.elim
  .exact xP g
 .rename_i x i;split at g;next y z=>obtain⟨D,j⟩:=Zj g;refine⟨_,?_,j⟩;rw[Ju D] at z ⊢;simp only[aopF,i,aop,qo,z,valR,tW,FV.prow]
  .exact xP g
 .exact xP g
end
def AV.ids:AV->List Nat
 |.ep o _ _ _=> [o]
 |.osl o _ _ _=> [o]
 |.mp o=> [o]
 |.bld _ o=> [o]
 |.osb o _ _=> [o]
 |_=> []
def WV.ids:WV->List Nat
 |.a x=>x.ids
 |.fn _ first cap=>(first.flatMap λp=>p.2.flatMap AV.ids)++(cap.flatMap λp=>p.2.flatMap AV.ids)
def TV.ids:TV->List Nat
 |.any=> []
 |.c x=>x.ids
 |.agg cs=>cs.flatMap WV.ids
 |.tup vs=>vs.flatMap λp=>p.2.flatMap WV.ids
def AObj.ids:AObj->List Nat
 |.arr _ es=>es.flatMap λe=>e.flatMap WV.ids
 |.mapo es=>es.flatMap λe=>e.2.2.flatMap WV.ids
 |_=> []
def AV.inn (l:List Nat):AV->Bool
 |.ep o _ _ _=>l.contains o
 |.osl o _ _ _=>l.contains o
 |.mp o=>l.contains o
 |.bld _ o=>l.contains o
 |.osb o _ _=>l.contains o
 |_=>true
def WV.inn (l:List Nat):WV->Bool
 |.a x=>x.inn l
 |.fn _ first cap=>(first.all λp=>p.2.all<|AV.inn l)&&(cap.all λp=>p.2.all<|AV.inn l)
def TV.inn (l:List Nat):TV->Bool
 |.any=>true
 |.c x=>x.inn l
 |.agg cs=>cs.all<|WV.inn l
 |.tup vs=>vs.all λp=>p.2.all<|WV.inn l
def AObj.inn (l:List Nat):AObj->Bool
 |.arr _ es=>es.all λe=>e.all<|WV.inn l
 |.mapo es=>es.all λe=>e.2.2.all<|WV.inn l
 |_=>true
def Km (h:Nat->AObj):Nat->List Nat->List Nat->List Nat
 |0,_,seen=>seen
 |_+1,[],seen=>seen
 |k+1,o::todo,seen=>match seen.contains o with
  |true=>Km h k todo seen
  |false=>Km h k ((h o).ids++todo)<|seen++[o]
def keep (m:Nat)(U:List Nat):List Nat:=(List.range m).filter λo=> !U.contains o
def ZB (m:Nat)(U:List Nat)(h:Nat->AObj)(todo:List Nat):List Nat:=(Km h 200 (keep m U++todo) []).filter λo=>Nat.ble m o||U.contains o
def inv (ids:List Nat)(o:Nat):Nat:=ids.idxOf o
def jd:List Nat->Bool
 |[]=>true
 |x::l=> !l.contains x&&jd l
theorem xJ:∀ {l:List Nat},jd l=true->l.Nodup
 |[],_=>.nil
 |x::l,h=>by simp only[jd,tF,AA,E8,decide_eq_false_iff_not] at h;exact E1.2 ⟨h.1,xJ h.2⟩
def Jr:AObj->Bool|.gone=>false|_=>true
theorem Ym {x:AObj}(h:Jr x=true):isLive x:=by cases x<;>simp_all[Jr,isLive]
section
def Back (A:List Nat)(ν σ:Nat->Nat)(N:Nat):Prop:=∀o,A.contains o=true->ν o<N/\σ (ν o)=o
variable {A:List Nat} {ν σ:Nat->Nat} {N:Nat}
theorem AV.renV (H:Back A ν σ N){x:AV}(h:x.inn A=true):(x.ren ν).ren σ=x/\(x.ren ν).lt N=true:=by cases x<;>simp only[AV.inn] at h<;>simp only[AV.ren,AV.lt,and_self,Ak]<;>have:=H _ h<;>simp[this]
theorem vG {α:Type}{f g:α->α}{p q:α->Bool}(b:∀x,p x=true->g (f x)=x/\q (f x)=true):∀ {l:List α},l.all p=true->(l.map f).map g=l/\(l.map f).all q=true
 |[],_=>⟨rfl,rfl⟩
 |x::l,h=>by simp only[AZ,tF] at h;have d:=vG b h.2;grind
theorem cU {α β:Type}{f g:α->α}{p q:α->Bool}(b:∀x,p x=true->g (f x)=x/\q (f x)=true)(x:β×List α)(h:x.2.all p=true):
  ((x.1,(x.2.map f).map g):β×List α)=x/\(x.2.map f).all q=true:=by
 have:=vG b h;grind
theorem WV.renV (H:Back A ν σ N){x:WV}(h:x.inn A=true):(x.ren ν).ren σ=x/\(x.ren ν).lt N=true:=by
 cases x with
 |a x=>simp only[WV.ren,WV.lt,WV.inn] at h ⊢;have:=AV.renV H h;simp[this]
 |fn f first cap=>
  simp only[WV.inn,tF] at h
  have key:∀l:List<|Bool×List AV,(l.all λp=>p.2.all<|AV.inn A)=true->((l.map λp=>(p.1,p.2.map<|AV.ren ν)).map λp=>(p.1,p.2.map<|AV.ren σ))=l/\((l.map λp=>(p.1,p.2.map<|AV.ren ν)).all λp=>p.2.all<|AV.lt N)=true:=
   λl d=>vG (p:=λp=>p.2.all<|AV.inn A) (λx e=>cU (λy b=>AV.renV H b) x e) d
  simp only[WV.ren,WV.lt,(key _ h.1).1,(key _ h.2).1,(key _ h.1).2,(key _ h.2).2,E7,and_self]
theorem TV.renV (H:Back A ν σ N){x:TV}(h:x.inn A=true):(x.ren ν).ren σ=x/\(x.ren ν).lt N=true:=by
 cases x with
 |any=>exact⟨rfl,rfl⟩
 |c x=>simp only[TV.ren,TV.lt,TV.inn] at h ⊢;have:=WV.renV H h;simp[this]
 |agg cs=>simp only[TV.ren,TV.lt,TV.inn] at h ⊢;have:=vG (λx b=>WV.renV H (x:=x) b) h;simp only[this.1,this.2,and_self]
 |tup vs=>simp only[TV.ren,TV.lt,TV.inn] at h ⊢;have:=vG (f:=λp:Bool×List WV=>(p.1,p.2.map<|WV.ren ν)) (g:=λp=>(p.1,p.2.map<|WV.ren σ)) (q:=λp=>p.2.all<|WV.lt N) (λx b=>cU (λy d=>WV.renV H d) x b) h;grind
theorem AObj.renV (H:Back A ν σ N){x:AObj}(h:x.inn A=true):(x.ren ν).ren σ=x/\(x.ren ν).lt N=true:=by
 cases x with
 |gone=>exact⟨rfl,rfl⟩
 |arz n i=>exact⟨rfl,rfl⟩
 |mapz es=>exact⟨rfl,rfl⟩
 |arr n es=>simp only[AObj.ren,AObj.lt,AObj.inn] at h ⊢;have:=vG (f:=λe=>e.map<|WV.ren ν) (g:=λe=>e.map<|WV.ren σ) (q:=λe=>e.all<|WV.lt N) (λx d=>vG (λy b=>WV.renV H b) d) h;grind
 |mapo es=>
  simp only[AObj.ren,AObj.lt,AObj.inn] at h ⊢
  have:=vG (f:=λe:(Bool×List FV)×(Bool×List WV)=>(e.1,(e.2.1,e.2.2.map<|WV.ren ν))) (g:=λe=>(e.1,(e.2.1,e.2.2.map<|WV.ren σ))) (q:=λe=>e.2.2.all<|WV.lt N) (p:=λe=>e.2.2.all<|WV.inn A)
   (λx d=>by have:=vG (f:=WV.ren ν) (g:=WV.ren σ) (q:=WV.lt N) (λy b=>WV.renV H b) d;exact⟨zd,this.2⟩) h
  grind
end
section
variable {ids:List Nat} {fr:Nat}
theorem inv_ok {o:Nat}(h:ids.contains o=true):inv ids o<ids.length/\sub ids fr (inv ids o)=o:=by simp only[E8,Ak] at h;have b:ids.idxOf o<ids.length:=List.idxOf_lt_length_iff.2 h;simp only[inv,sub,b,tZ];grind
theorem TV.ren_inv {x:TV}(h:x.inn ids=true):(x.ren<|inv ids).ren (sub ids fr)=x/\(x.ren<|inv ids).lt ids.length=true:=TV.renV (λ_ h=>inv_ok h) h
theorem AObj.ren_inv {x:AObj}(h:x.inn ids=true):(x.ren<|inv ids).ren (sub ids fr)=x/\(x.ren<|inv ids).lt ids.length=true:=AObj.renV (λ_ h=>inv_ok h) h
end
def fQ (h:Nat->AObj):WV->Lent
 |.a (.osl o _ _ _)=>match h o with|.arz n fs=> [(o,n,fs)]|_=> []
 |_=> []
def Yi (h:Nat->AObj):TV->Lent
 |.c x=>fQ h x
 |.agg cs=>cs.flatMap<|fQ h
 |_=> []
def asksA (h:Nat->AObj):List TV->Prop->Prop
 |[],K=>K
 |x::r,K=>asksT h x<|asksA h r K
def LentOK (h:Nat->AObj)(L:Lent):Prop:=∀p∈L,h p.1=.arz p.2.1 p.2.2
theorem LentOK.ok {h:Nat->AObj}{L:Lent}(d:LentOK h L):L.ok h:=λp b=>by rw[d p b];rfl
theorem aI {h:Nat->AObj}{x:WV}:LentOK h (fQ h x):=by
 intro p d;cases x with
 |fn f a b=>cases d
 |a x=>cases x with
  |osl o n g e=>simp only[fQ] at d;grind
  |_=>cases d
theorem lentT_ok {h:Nat->AObj}{x:TV}:LentOK h (Yi h x):=by
 intro p b;cases x with
 |c x=>exact aI p b
 |agg cs=>obtain⟨c,_,d⟩:=List.mem_flatMap.1 b;exact aI p d
 |_=>cases b
theorem jZ {h:Nat->AObj}{l:List TV}:LentOK h (l.flatMap<|Yi h):=by intro p d;obtain⟨c,_,b⟩:=List.mem_flatMap.1 d;exact lentT_ok p b
theorem Yu {h:Nat->AObj}:∀ {L:Lent} {o n:Nat} {b:List (List FV)},LentOK h L->h o=.arz n b->(o,n,b)∈L->y4 L o=some (n,b)
 |(j,m,gs)::L,o,n,b,d,f,hm=>by
  simp only[y4];split
  .rename_i g;have:=d _ tM;grind
  .rename_i g;rcases A1.1 hm with e|hm
   .grind
   .exact Yu (λp i=>d p<|tK _ i) f hm
theorem Z2 {α:Type}:∀ {L:List (Nat×α)} {o:Nat},(∀p∈L,p.1≠o)->y4 L o=none
 |[],_,_=>rfl
 |(j,x)::L,o,h=>by simp only[y4];rw[tD<|h _ tM];exact Z2 λp b=>h p<|tK _ b
theorem Kt {h:Nat->AObj}{L:Lent}{x:WV}(g:LentOK h L)(d:∀p∈fQ h x,p∈L)(i:JB h x):x.lend L=(givW h x).1:=by
 cases x with
 |fn f a b=>rfl
 |a x=>cases x with
  |osl o n v r=>
   simp only[WV.lend,AV.lend,givW,fQ,JB] at d i ⊢;cases j:h o with
   |arz m w=>rw[j] at d i;rw[Yu g j<|d _ tM];grind
   |_=>rw[Z2];intro p u e;have:=g p u;grind
  |_=>rfl
theorem XQ {h:Nat->AObj}{L:Lent}(e:LentOK h L):∀ {cs:List WV},(∀p∈cs.flatMap (fQ h),p∈L)->ql h cs->cs.map (WV.lend L)=(gP h cs).1
 |[],_,_=>rfl
 |x::r,d,b=>by have b:=Yd b;simp only[Aw,gP,Kt e (λp f=>d p zd) b.1,XQ e (cs:=r) (λp f=>d p zd) b.2]
theorem sS {h:Nat->AObj}{L:Lent}{x:TV}(e:LentOK h L)(d:∀p∈Yi h x,p∈L)(b:nA h x):x.lend L=(givT h x).1:=by
 cases x with
 |c x=>simp only[TV.lend,givT,Kt e d<|iW b]
 |agg cs=>simp only[TV.lend,givT,XQ e d b]
 |_=>rfl
theorem YA {h:Nat->AObj}{L:Lent}(e:LentOK h L):∀ {l:List TV} {K:Prop},(∀p∈l.flatMap (Yi h),p∈L)->asksA h l K->l.map (TV.lend L)=l.map (λx=>(givT h x).1)/\K
 |[],_,_,b=>⟨rfl,b⟩
 |x::r,K,d,b=>by obtain⟨g,f⟩:=Kk b;obtain⟨j,i⟩:=YA e (l:=r) (λp m=>d p zd) f;exact⟨by simp only[Aw,j,sS e (λp m=>d p zd) g],i⟩
def resV (P:Program):List TypeId->(List (Bool×List FV)->Prop)->Prop
 |[],K=>K []
 |t::ts,K=>tyP P t λd=>match d.zero with
  |some z=>exC z λl=>resV P ts λr=>K<|(d.agg,l)::r
  |none=>False
def WY:List (Bool×List FV)->TV
 |[(true,l)]=>.agg<|fzs l
 |[(false,[x])]=>.c<|cell x
 |l=>.tup<|l.map λp=>(p.1,fzs p.2)
def scalZ (P:Program)(ts:List TypeId):Bool:=ts.all λt=>match tyOf P t with
 |some d=>match d.zero with
  |some z=>z.all λf=>match f with|.int _ _=>true|.bool _=>true|.str _=>true|_=>false
  |none=>false
 |none=>false
theorem Jj {P:Program}:∀ {f:List TypeId} {K:List (Bool×List FV)->Prop},resV P f K->∃l,K l/\(scalZ P f=true->∀p∈l,p.2.all FV.scalar=true)
 |[],K,h=>⟨[],h,λ_ _ hp=>by cases hp⟩
 |t::f,K,h=>by
  obtain⟨d,hd,h⟩:=yY h;split at h
  .rename_i z g;obtain⟨l,h,_,i⟩:=cg h;obtain⟨r,h,e⟩:=Jj h;refine⟨_,h,λb=>?_⟩;simp only[scalZ,AZ,tF,hd,g] at b;intro p hp;rcases A1.1 hp with rfl|hp
   .grind
   .exact e (by simpa[scalZ] using b.2) p hp
  .grind
theorem o9 (σ:Nat->Nat)(l:List FV):(fzs l).map (WV.ren σ)=fzs l:=by simp only[fzs,EU];rfl
theorem KC (σ:Nat->Nat)(l:List<|Bool×List FV):(WY l).ren σ=WY l:=by
 unfold WY;split
 .simp only[TV.ren,o9]
 .rfl
 .simp only[TV.ren,EU];congr 1;exact AY λp _=>by simp[o9]
theorem Wh {l:List FV}(h:l.all FV.scalar=true):(fzs l).all WV.scalar=true:=by simp only[fzs,List.all_map];exact h
theorem Ki {l:List (Bool×List FV)}(h:∀p∈l,p.2.all FV.scalar=true):(WY l).scalar=true:=by
 unfold WY;split
 .exact Wh<|h _ tM
 .have:=h _ tM;simpa[TV.scalar,WV.scalar,cell,AV.scalar] using this
 .simp only[TV.scalar,List.all_map,A7];exact λp b=>Wh<|h p b
structure Sh where
 X:Type
 val:X->TV
 obs:X->List AObj->List AObj
 fz:Bool
 mu:Bool
 kp:List Nat
def lJ:List Nat->List AObj->List AObj->List AObj
 |[],_,out=>out
 |k::kp,H,out=>(lJ kp H out).set k<|H.getD k .gone
def Sh.out (S:Sh)(x:S.X)(H:List AObj):List AObj:=lJ S.kp H<|S.obs x H
theorem uF (H:List AObj):∀(d:List Nat) (b:List AObj),(lJ d H b).length=b.length
 |[],_=>rfl
 |k::d,b=>by rw[lJ,EQ,uF H d]
theorem KG (H:List AObj):∀(d:List Nat) (b:List AObj) (k:Nat),k∈d->k<b.length->(lJ d H b)[k]?=some (H.getD k .gone)
 |[],_,_,h,_=>by cases h
 |j::d,b,k,h,f=>by
  rw[lJ,Eb];by_cases e:j=k
  .subst e;rw[tG rfl,tG<|by rw[uF];exact f]
  .rw[tD e];rcases A1.1 h with q|q
   .omega
   .exact KG H d b k q f
def ownB:List Sh->Bool
 |[]=>false
 |S::l=> !S.fz||ownB l
def mutB:List Sh->Bool
 |[]=>false
 |S::l=>S.mu||mutB l
def tf (P:Program)(f:FuncId):List TypeId:=match P.funcs[f]? with|some fn=>fn.resultTypes.toList|none=> []
section
variable (P:Program) (sh:FuncId->List Sh)
def altV (A:Sh->Prop):List Sh->Prop
 |[]=>False
 |[S]=>A S
 |S::T::l=>A S\/altV A (T::l)
theorem bh {A:Sh->Prop}:∀ {l:List Sh},altV A l->∃S,A S
 |[],h=>h.elim
 |[S],h=>⟨S,h⟩
 |S::T::l,h=>h.elim (λh=>⟨S,h⟩) λh=>bh (l:=T::l) h
def pC (f:FuncId)(args:List TV)(h:Nat->AObj)(fr:Nat)(K:TV->AHeap->List Nat->Prop):Prop:=
 match Km h 200 (args.flatMap TV.ids) [] with
 |ids=>match jd ids&&ids.all (λo=>Jr (h o)&&(h o).inn ids)&&args.all (TV.inn ids)&&ids.all (λo=>Nat.blt o fr) with
  |true=>match sh f with
   |_::_=>altV (λS=> ∃x:S.X,AC P f (args.map<|TV.ren<|inv ids) (ids.map λo=>(h o).ren<|inv ids) (S.val x) (S.out x<|ids.map λo=>(h o).ren<|inv ids)/\
     match Nat.ble (S.out x<|ids.map λo=>(h o).ren<|inv ids).length (ids.length+32)&&S.kp.all (λk=>Nat.blt k ids.length&&Nat.blt k (S.out x<|ids.map λo=>(h o).ren<|inv ids).length) with
     |true=>K ((S.val x).ren<|sub ids fr) ((yC (sub ids fr) ids (S.out x<|ids.map λo=>(h o).ren<|inv ids)++xO (sub ids fr) fr ((S.out x<|ids.map λo=>(h o).ren<|inv ids).drop ids.length)).filter λp=> !(S.kp.map λk=>ids.getD k 0).contains p.1) ids
     |false=>False) (sh f)
   |[]=>resV P (tf P f) λrs=>AC P f (args.map<|TV.ren<|inv ids) (ids.map λo=>(h o).ren<|inv ids) (WY rs) (ids.map λo=>(h o).ren<|inv ids)/\
     K (WY rs) (yC (sub ids fr) ids<|ids.map λo=>(h o).ren<|inv ids) ids
  |false=>False
def callL (f:FuncId)(args:List TV)(h:Nat->AObj)(fr:Nat)(K:TV->AHeap->List Nat->Prop):Prop:=
 match args.flatMap (Yi h) with
 |[]=>pC P sh f args h fr K
 |p::L=>asksA h args (match scalZ P (tf P f)&&(Km h 200 ((args.map λx=>(givT h x).1).flatMap TV.ids) []).isEmpty&&(sh f).isEmpty with
  |true=>resV P (tf P f) λrs=>AC P f (args.map λx=>(givT h x).1) [] (WY rs) []/\((args.map λx=>(givT h x).1).all (TV.lt 0)=true/\K (WY rs) [] ((p::L).map Prod.fst))
  |false=>pC P sh f (args.map λx=>(givT h x).1) (over ((p::L).map λp=>(p.1,AObj.gone)) h) fr
    (λr u rd=>K r (u++(p::L).map λp=>(p.1,AObj.gone))<|rd++(p::L).map Prod.fst))
def callV (f:FuncId)(args:List TV)(h:Nat->AObj)(fr:Nat)(K:TV->AHeap->List Nat->Prop):Prop:=
 match mutB (sh f) with
 |true=>pC P sh f args h fr K
 |false=>callL P sh f args h fr K
end
section
variable {P:Program} {sh:FuncId->List Sh} {f:FuncId} {args:List TV} {h:Nat->AObj} {fr:Nat} {K K':TV->AHeap->List Nat->Prop}
theorem vL:∀ {l:List TV},All2 TV.Le l l
 |[]=>trivial
 |x::_=>⟨.refl x,vL⟩
theorem YB {b:List Nat}{fr:Nat}{args:List TV}(h:args.all (TV.inn b)=true):(args.map<|TV.ren<|inv b).map (TV.ren<|sub b fr)=args/\(args.map<|TV.ren<|inv b).all (TV.lt b.length)=true:=
 vG (λ_ d=>TV.ren_inv d) h
theorem yK (l:List TV):l.map (TV.lend [])=l:=by
 have:TV.lend []=id:=by
  funext x
  have d:∀y:WV,y.lend []=y:=λy=>by
   cases y with
   |a y=>cases y<;>rfl
   |fn f a b=>rfl
  cases x with
  |any=>rfl
  |c x=>simp only[TV.lend,d,id]
  |agg cs=>simp only[TV.lend,id,show WV.lend []=id from funext d,Sc]
  |tup vs=>rfl
 simp_all
theorem uQ {b:List Nat}{fr:Nat}:∀ {l:List Nat},(l.all λo=>Jr (h o)&&(h o).inn b)=true->((l.map λo=>(h o).ren<|inv b).map (AObj.ren<|sub b fr)=l.map h/\(l.map λo=>(h o).ren<|inv b).all (AObj.lt b.length)=true)/\∀i∈l,isLive<|h i
 |[],_=>⟨⟨rfl,rfl⟩,λ_ hi=>by cases hi⟩
 |o::l,d=>by
  simp only[AZ,tF] at d;have f:=AObj.ren_inv (fr:=fr) d.1.2;have e:=uQ (fr:=fr) (l:=l) d.2;refine⟨⟨zd,zd⟩,λi hi=>?_⟩;rcases A1.1 hi with rfl|hi
  .exact Ym d.1.1
  .grind
theorem Yh (e:pC P sh f args h fr K):CallK P f args h fr K:=by
 unfold pC at e;generalize Km h 200 (args.flatMap TV.ids) []=b at e;simp only at e;split at e
 .rename_i j;simp only[tF] at j;obtain⟨⟨⟨v,C⟩,z⟩,p⟩:=j;have p:∀i∈b,i<fr:=λi w=>A9<|A7.1 p i w;have m:=YB (fr:=fr) z;have u:=uQ (fr:=fr) C;split at e
  .obtain⟨S,x,g,e⟩:=bh e;split at e
   .rename_i d;rw[tF] at d;refine⟨b,[],_,_,_,_,g,⟨xJ v,p⟩,A9 d.1,u.1,?_,m.2,u.2,.inl rfl,S.kp.map λk=>b.getD k 0,λi w=>?_,zd⟩
    .rw[yK,m.1];exact vL
    .obtain⟨k,r,rfl⟩:=Ay.1 w;have j:=A7.1 d.2 k r;rw[tF] at j;have D:k<b.length:=A9 j.1;have A:k<(S.obs x<|b.map λo=>(h o).ren<|inv b).length:=by have:=A9 j.2;rwa [Sh.out,uF] at this
     have y:b[k]?=some (b.getD k 0):=zd;rw[Sh.out,qr (xJ v) y<|KG _ _ _ k r A];simp_all
   .grind
  .obtain⟨E,⟨g,r⟩,_⟩:=Jj e;refine⟨b,[],_,_,_,_,g,⟨xJ v,p⟩,zb,u.1,?_,m.2,u.2,.inl rfl,[],(λ_ h=>nomatch h),?_⟩
   .rw[yK,m.1];exact vL
   .rw[KC,Et zb,kept_nil];simpa[xO] using r
 .grind
theorem CallK.imp (p:CallK P f args h fr K)(j:∀r u rd,K r u rd->K' r u rd):CallK P f args h fr K':=by obtain⟨b,L,args',Hs,r,Hs',y,w,o,g,d,v,i,x,F,m,e⟩:=p;exact⟨b,L,args',Hs,r,Hs',y,w,o,g,d,v,i,x,F,m,j _ _ _ e⟩
theorem mO (i:callL P sh f args h fr K):CallE P f args h fr K:=by
 unfold callL at i;split at i
 .refine⟨[],(λp C=>by cases C),?_⟩;rw[yK];have e:over (([]:Lent).map λp=>(p.1,AObj.gone)) h=h:=by funext o;rfl
  exact(Yh i).imp λr u rd F=>zd
 .rename_i p L H;have j:LentOK h (p::L):=by rw[<-H];exact jZ
  obtain⟨d,i⟩:=YA j (λq J=>zd) i;split at i
  .rename_i D;simp only[tF] at D;obtain⟨M,⟨A,y,F⟩,I⟩:=Jj i;refine⟨[],(λp C=>by cases C),?_⟩;rw[yK];have e:over (([]:Lent).map λp=>(p.1,AObj.gone)) h=h:=by funext o;rfl
   refine⟨[],p::L,_,[],_,[],A,⟨.nil,λ_ m=>nomatch m⟩,zb,⟨rfl,rfl⟩,?_,y,(λ_ m=>nomatch m),.inr ⟨j.ok,(λ_ _ m=>nomatch m),Ki<|I D.1.1,rfl⟩,[],(λ_ h=>nomatch h),?_⟩
   .rw[d];have:∀ {l:List TV},l.all (TV.lt 0)=true->l.map (TV.ren<|sub [] fr)=l:=by
     intro l d;have key:∀x:TV,x.lt 0=true->x.ren (sub [] fr)=x:=by
      have G:∀x:AV,x.lt 0=true->x.ren (sub [] fr)=x:=λx g=>by cases x<;>simp_all[AV.lt,AV.ren]
      have z:∀l:List AV,l.all (AV.lt 0)=true->l.map (AV.ren<|sub [] fr)=l:=λl d=>by
       induction l with
       |nil=>rfl
       |cons x l ih=>simp only[AZ,tF] at d;simp only[Aw,G x d.1,ih d.2]
      have v:∀l:List<|Bool×List AV,(l.all λp=>p.2.all<|AV.lt 0)=true->(l.map λp=>(p.1,p.2.map<|AV.ren<|sub [] fr))=l:=λl d=>by
       induction l with
       |nil=>rfl
       |cons x l ih=>simp only[AZ,tF] at d;simp only[Aw,z x.2 d.1,ih d.2]
      have E:∀x:WV,x.lt 0=true->x.ren (sub [] fr)=x:=λx g=>by
       cases x with
       |a x=>simp only[WV.ren,G x g]
       |fn f a b=>simp only[WV.lt,tF] at g;simp only[WV.ren,v a g.1,v b g.2]
      have w:∀l:List WV,l.all (WV.lt 0)=true->l.map (WV.ren<|sub [] fr)=l:=λl d=>by
       induction l with
       |nil=>rfl
       |cons x l ih=>simp only[AZ,tF] at d;simp only[Aw,E x d.1,ih d.2]
      intro x g;cases x with
      |any=>rfl
      |c x=>simp only[TV.ren,E x g]
      |agg cs=>simp only[TV.ren,w cs g]
      |tup vs=>
       simp only[TV.lt] at g;simp only[TV.ren];congr 1
       induction vs with
       |nil=>rfl
       |cons x l ih=>simp only[AZ,tF] at g;simp only[Aw,w x.2 g.1,ih g.2]
     induction l with
     |nil=>rfl
     |cons x l ih=>simp only[AZ,tF] at d;simp only[Aw,key x d.1,ih d.2]
    rw[this y];exact vL
   .rw[KC];simpa[yC,xO] using F
  .refine⟨p::L,j.ok,?_⟩;rw[d];exact Yh i
theorem callC_E (b:pC P sh f args h fr K):CallE P f args h fr K:=by
 refine⟨[],(λp d=>by cases d),?_⟩;rw[yK];have e:over (([]:Lent).map λp=>(p.1,AObj.gone)) h=h:=by funext o;rfl
 exact(Yh b).imp λr u rd g=>zd
theorem i8 (b:callV P sh f args h fr K):CallE P f args h fr K:=by
 unfold callV at b;split at b
 .exact callC_E b
 .exact mO b
end
section
variable (P:Program) (sh:FuncId->List Sh)
def softV (P:Program)(o:Oper)(fr:Nat)(ρ:Operand->TV)(h:Nat->AObj)(r:AR)(K:AR->Prop):Prop:=
 match Z1 P o fr ρ h r with|⟨v,u,d⟩=>K ⟨v,u,d⟩
def mU (fr:Nat)(o:Oper)(e:Env)(h:AHeap)(tr:wq)(next:Env->AHeap->wq->Prop):Prop:=
 match goCall o.op with
 |some c=>
  match calleeOf (ev e) c with
  |some (f,args)=>callV P sh f args (hook h) fr λr h' ids=>next (putE o.dst r e) (h'++h) ((ids,h'.map Prod.fst)::tr)
  |none=>False
 |none=>opV P o fr (ev e) (hook h) λr=>softV P o fr (ev e) (hook h) r λr=>next (putE o.dst r.val e) (r.upd++h) ((r.rd,r.upd.map Prod.fst)::tr)
def lexV (ops:Array Oper)(nx:Nat):List Oper->Nat->Env->AHeap->wq->(Env->AHeap->wq->Prop)->Prop
 |[],_,e,h,tr,K=>K e h tr
 |o::rest,i,e,h,tr,K=>match o.guard with
  |none=>mU P sh (nx+32*i) o e h tr λe h tr=>lexV ops nx rest (i+1) e h tr K
  |some (j,b)=>match (ops[j]?).bind (·.dst) with
   |none=>False
   |some d=>match look e d with
    |.c (.a (.fz (.bool x)))=>
     match b with
     |true=>br x (mU P sh (nx+32*i) o ((d,bV true)::e) h tr λe h tr=>lexV ops nx rest (i+1) e h tr K)
       (lexV ops nx rest (i+1) (putE o.dst (.tup [])<|(d,bV false)::e) h (([],[])::tr) K)
     |false=>br x (lexV ops nx rest (i+1) (putE o.dst (.tup [])<|(d,bV true)::e) h (([],[])::tr) K)
       (mU P sh (nx+32*i) o ((d,bV false)::e) h tr λe h tr=>lexV ops nx rest (i+1) e h tr K)
    |.tup []=>lexV ops nx rest (i+1) (putE o.dst (.tup []) e) h (([],[])::tr) K
    |_=>False
end
section
variable {P:Program} {sh:FuncId->List Sh}
theorem CallE.imp {f:FuncId}{args:List TV}{h:Nat->AObj}{fr:Nat}{K K':TV->AHeap->List Nat->Prop}(b:CallE P f args h fr K)(e:∀r u rd,K r u rd->K' r u rd):CallE P f args h fr K':=by obtain⟨E,d,b⟩:=b;exact⟨E,d,b.imp λr u rd h=>e _ _ _ h⟩
theorem ev_look {e b:Env}(h:look e=look b):ev e=ev b:=by funext x;cases x<;>simp only[ev,h]
theorem kW {e b:Env}(h:look e=look b)(d:Option Nat)(v:TV):look (putE d v e)=look (putE d v b):=by
 cases d with
 |none=>exact h
 |some i=>funext k;simp only[putE,look,h]
theorem X4 {e:Env}{d:Nat}{v:TV}(h:look e d=v):look ((d,v)::e)=look e:=by funext k;simp only[look];grind
theorem Xj {fr:Nat} {o:Oper} {e j:Env} {h:AHeap} {w:wq} {next b:Env->AHeap->wq->Prop} (A:look e=look j) (f:mU P sh fr o e h w next)
  (p:∀d v x g,next (putE d v e) x g->b (putE d v j) x g):pO P fr o j h w b:=by
 unfold mU at f;unfold pO;rw[<-ev_look A];cases y:goCall o.op with
 |some c=>
  rw[y] at f;simp only at f ⊢;cases i:calleeOf (ev e) c with
  |some C=>rw[i] at f;simp only at f ⊢;exact(i8 f).imp λr u rd m=>p _ _ _ _ m
  |none=>rw[i] at f;exact f.elim
 |none=>rw[y] at f;obtain⟨r,z,m⟩:=opV_inv f;simp only[aopS,z,tW];exact p _ _ _ _ m
theorem wO {m:Array Oper}{nx:Nat}:∀ {l:List Oper} {i:Nat} {e u:Env} {h:AHeap} {D:wq} {K:Env->AHeap->wq->Prop},look e=look u->lexV P sh m nx l i e h D K->
  lex P m nx l i u h D λH z p=> ∃F,look F=look H/\K F z p
 |[],_,_,_,_,_,_,r,g=>⟨_,r,g⟩
 |o::rest,i,e,u,h,D,K,r,g=>by
  unfold lexV at g;unfold lex K0;split at g;next A=>simp only[want,A,tZ];exact Xj r g λd v z p w=>wO (kW r d v) w
  .rename_i j b A;split at g
   .grind
   .rename_i d hd;split at g
    .rename_i x C;have E:want m o (look u)=some (x==b):=by simp only[want,A,hd,tW,<-r,C]
     simp only[E];have f:∀y,x=y->look ((d,bV y)::e)=look u:=λy G=>by rw[<-r];exact X4 (by rw[C,G];rfl)
     cases b with
     |true=>
      simp only at g;cases x with
      |true=>simp only[br,EZ,tZ] at g ⊢;exact Xj (f _ rfl) g λd v z p w=>wO (kW (f _ rfl) d v) w
      |false=>simp only[br] at g;exact wO (kW (f _ rfl) _ _) g
     |false=>
      simp only at g;cases x with
      |false=>simp only[br,EZ,tZ] at g ⊢;exact Xj (f _ rfl) g λd v z p w=>wO (kW (f _ rfl) d v) w
      |true=>simp only[br] at g;exact wO (kW (f _ rfl) _ _) g
    .rename_i C;have E:want m o (look u)=some false:=by simp only[want,A,hd,tW,<-r,C]
     simp only[E,tX,A6];exact wO (kW r _ _) g
    .grind
end
def Code.lwp (P:Program)(c:Code)(Q:Exit->Act->World->Prop)(a:Act)(w:World):Prop:=
 ∀(b:Frame) (k:List Item) (cs:List Frame),
  ∃e a' w',Q e a' w'/\Arrives P (lone (b.at a<|.code c:: .inLoop c::k) cs w) b k cs e a' w'
theorem lwp_wp {P:Program}{c:Code}{Q:Exit->Act->World->Prop}{a:Act}{w:World}(h:Code.lwp P c Q a w):(Code.loop c).wp P Q a w:=λb k cs=>by obtain⟨e,g,w',f,d⟩:=h b k cs;exact⟨e,g,w',f,.of_steps (.one step_loop) d⟩
theorem pE {P:Program}{c:Code}{Q:Exit->Act->World->Prop}{a:Act}{w:World}(h:c.wp P (Exit.then (Code.lwp P c Q) Q) a w):Code.lwp P c Q a w:=λb k cs=>by
 obtain⟨e,f,g,m,d⟩:=h b (.inLoop c::k) cs;cases e with
 |normal=>obtain⟨o,p,r,j,i⟩:=m b k cs;exact⟨o,p,r,j,.of_steps (Steps.trans d<|.one step_inLoop) i⟩
 |exit id=>exact⟨_,f,g,m,.pass (x:=.inLoop c) rfl (λ_ _=>.inl zb) d⟩
 |goto l=>exact⟨_,f,g,m,.pass (x:=.inLoop c) rfl (λ_ _=>.inl zb) d⟩
 |ret=>exact⟨_,f,g,m,.pass (x:=.inLoop c) rfl (λ_ _=>.inl zb) d⟩
 |panic u=>exact⟨_,f,g,m,.pass (x:=.inLoop c) rfl (λ_ _=>.inl zb) d⟩
 |outgrown=>exact⟨_,f,g,m,.pass (x:=.inLoop c) rfl (λ_ _=>.inl zb) d⟩
section
variable {P:Program} {n m:Nat} {c:Code} {Q:AExit->St->Prop} {s:St}
def Alwp (P:Program)(n m:Nat)(c:Code)(Q:AExit->St->Prop)(s:St):Prop:=
 ∀(w0:World) (foot Y:Nat->Prop) (pin:Nat->Option (Option Nat)) (β:Nat->Option Nat) (a:Act) (w:World),(∀o b,pin o=some b->o<m)->a.tmps.size=n->RelF P w0 foot Y pin (look s.env) (hook s.heap) β a w->(∀k,Occ pin β k->k<s.nx)->
  Code.lwp P c (Lift P w0 foot Y pin n Q) a w
theorem Alwp.loop (h:Alwp P n m c Q s):Awp P n m (.loop c) Q s:=λw0 foot Y b β a w f g d e=>lwp_wp<|h w0 foot Y b β a w f g d e
theorem Alwp.unroll (h:Awp P n m c (XL (Alwp P n m c Q) Q) s):Alwp P n m c Q s:=λw0 foot Y b β a w g r j o=>by
 refine pE<|wp_mono (h w0 foot Y b β a w g r j o) λe y w' d=>?_;cases e with
 |normal=>obtain⟨z,f,v,p,u,x⟩:=d;exact v w0 foot Y b f y w' g p u x
 |exit i=>exact d
 |ret=>exact d
 |_=>exact d.elim
theorem Alwp.weak {e:St}(g:Sle m s e)(h:Alwp P n m c Q e):Alwp P n m c Q s:=λw0 foot Y b _ a w d i f _=>
 let ⟨β',h1,h2⟩:=WH g d f
 h w0 foot Y b β' a w d i h1 h2
theorem Awp.look {e d:Env}{h:AHeap}{nx:Nat}(o:look e=look d)(f:Awp P n m c Q ⟨e,h,nx⟩):Awp P n m c Q ⟨d,h,nx⟩:=λw0 foot Y b β a w g j p i=>
 f w0 foot Y b β a w g j zd i
def eqQ (Q:AExit->St->Prop)(e:AExit)(s:St):Prop:=∃e2,Go.AM.look e2=Go.AM.look s.env/\Q e ⟨e2,s.heap,s.nx⟩
theorem Awp.uneq (h:Awp P n m c (eqQ Q) s):Awp P n m c Q s:=λw0 foot Y b β a w p y v j=>by
 refine wp_mono (h w0 foot Y b β a w p y v j) λe g w' d=>?_;have key:∀x,At P w0 foot Y b n (eqQ Q x) g w'->At P w0 foot Y b n (Q x) g w':=by rintro x ⟨z,f,⟨C,A,u⟩,o,D,r⟩;exact⟨_,f,u,o,zd,r⟩
 cases e with
 |normal=>exact key _ d
 |exit i=>exact key _ d
 |ret=>exact key _ d
 |_=>exact d.elim
end
def pts:Code->List Nat
 |.region i _ _=> [2*i]
 |.seq a b=>pts a++pts b
 |.cond _ a b=>pts a++pts b
 |.block i c=>(2*i+1)::pts c
 |.loop c=>pts c
 |.scope c=>pts c
 |_=> []
def isLoop:Code->Bool|.loop _=>true|.rangeFunc .. =>true|_=>false
def headA (P:Program)(n m:Nat):Code->(AExit->St->Prop)->St->Prop
 |.loop c,Q,s=>Alwp P n m c Q s
 |.rangeFunc g ps a b,Q,s=>Awp P n m (.rangeFunc g ps a b) Q s
 |_,_,_=>False
theorem headA.weak {P:Program}{n m:Nat}{c:Code}{Q:AExit->St->Prop}{s e:St}(d:Sle m s e)(h:headA P n m c Q e):headA P n m c Q s:=by
 cases c with
 |loop c=>exact Alwp.weak d h
 |rangeFunc g f a b=>exact Awp.weak d h
 |_=>exact h.elim
theorem headA.awp {P:Program}{n m:Nat}{c:Code}{Q:AExit->St->Prop}{s:St}(h:headA P n m c Q s):Awp P n m c Q s:=by
 cases c with
 |loop c=>exact Alwp.loop h
 |rangeFunc g d a b=>exact h
 |_=>exact h.elim
def rz (P:Program)(n m:Nat):Code->Nat->(AExit->St->Prop)->St->Prop
 |.region i ops d,p,Q,s=>p=2*i/\Awp P n m (.region i ops d) Q s
 |.seq a b,p,Q,s=>if (pts a).contains p then rz P n m a p (XL (Awp P n m b Q) Q) s else rz P n m b p Q s
 |.cond _ a b,p,Q,s=>if (pts a).contains p then rz P n m a p Q s else rz P n m b p Q s
 |.block i c,p,Q,s=>if p=2*i+1 then headA P n m c (yi i Q) s else rz P n m c p (yi i Q) s
 |.loop c,p,Q,s=>rz P n m c p (XL (Alwp P n m c Q) Q) s
 |.scope c,p,Q,s=>rz P n m c p Q s
 |_,_,_,_=>False
theorem kc {P:Program}{n m:Nat}:∀ {c:Code} {p:Nat} {Q:AExit->St->Prop} {s g:St},Sle m s g->rz P n m c p Q g->rz P n m c p Q s
 |.region i j d,p,Q,s,g,e,h=>⟨h.1,h.2.weak e⟩
 |.seq a b,p,Q,s,g,e,h=>by
  unfold rz at h ⊢;split;next f=>rw[tG f] at h;exact kc e h
  next f=>rw[tD f] at h;exact kc e h
 |.cond x a b,p,Q,s,g,e,h=>by
  unfold rz at h ⊢;split;next f=>rw[tG f] at h;exact kc e h
  next f=>rw[tD f] at h;exact kc e h
 |.block i c,p,Q,s,g,e,h=>by
  unfold rz at h ⊢;split;next f=>rw[tG f] at h;exact headA.weak e h
  next f=>rw[tD f] at h;exact kc e h
 |.loop c,p,Q,s,g,e,h=>by unfold rz at h ⊢;exact kc e h
 |.skip,_,_,_,_,_,h=>h.elim
 |.rangeFunc ..,_,_,_,_,_,h=>h.elim
 |.exit _,_,_,_,_,_,h=>h.elim
 |.scope c,p,Q,s,g,e,h=>by unfold rz at h ⊢;exact kc e h
 |.label _,_,_,_,_,_,h=>h.elim
 |.goto _,_,_,_,_,_,h=>h.elim
 |.ret,_,_,_,_,_,h=>h.elim
 |.refuse _,_,_,_,_,_,h=>h.elim
def RPt (P:Program)(f:FuncId)(m:Nat)(r:TV)(Hs':List AObj)(p:Nat)(s:St):Prop:=
 ∃(fn:Func) (c:Code),P.funcs[f]?=some fn/\fn.body=some c/\rz P fn.ntmps m c p (Ret P fn.results.toList m r Hs') s
def invU (m:Nat)(rest:List Nat)(o:Nat):Nat:=match rest.contains o with|true=>m+rest.idxOf o|false=>o
def outU (m:Nat)(rest:List Nat)(o:Nat):Nat:=sub (List.range m++rest) 0 o
def okU (m:Nat)(U rest:List Nat):Bool:=jd rest&&rest.all λo=>Nat.ble m o||U.contains o
def qz (m:Nat)(U rest:List Nat)(h:Nat->AObj):List AObj:=((List.range m).map λo=>match U.contains o with|true=>AObj.gone|false=>(h o).ren<|invU m rest)++rest.map λo=>(h o).ren<|invU m rest
def lvU (lv:List<|Nat×List Nat):List Nat:=match y4 lv 1000001 with|some l=>l|none=> []
theorem uZ {m:Nat}{U rest:List Nat}{h:Nat->AObj}:(qz m U rest h).length=m+rest.length:=by simp[qz]
theorem J5 {m:Nat}{rest:List Nat}{o:Nat}(h:o<m):outU m rest o=o:=by simp only[outU,sub,tE,List.length_range,(za:o<m+rest.length),tZ,getD];grind
theorem nO {m:Nat}{rest:List Nat}{j o:Nat}(h:rest[j]?=some o):outU m rest (m+j)=o:=by have b:=(tQ.1 h).1;simp only[outU,sub,tE,List.length_range,(za:m+j<m+rest.length),tZ,getD];grind
theorem backU {m:Nat}{U rest:List Nat}:Back (keep m U++rest) (invU m rest) (outU m rest) (m+rest.length):=by
 intro o f;unfold invU;split
 .rename_i b;simp only[E8,Ak] at b;have g:rest.idxOf o<rest.length:=List.idxOf_lt_length_iff.2 b;refine⟨za,nO ?_⟩;grind
 .rename_i b;have e:o∈keep m U:=by grind
  have d:o<m:=by have:=(S3.1 e).1;grind
  exact⟨za,J5 d⟩
theorem ao {m:Nat}{U:List Nat}{o:Nat}:o∈keep m U↔o<m/\U.contains o=false:=by simp[keep]
theorem ki {m:Nat}{U rest:List Nat}{h:Nat->AObj}{j:Nat}{x:AObj}(b:(qz m U rest h)[j]?=some x)(f:isLive x):
  j<m+rest.length/\x=(h<|outU m rest j).ren (invU m rest)/\((j∈keep m U/\outU m rest j=j)\/(m<=j/\rest[j-m]?=some (outU m rest j))):=by
 have d:=(tQ.1 b).1;rw[uZ] at d;refine⟨d,?_⟩;by_cases e:j<m
 .unfold qz at b;rw[Ea zd,tV,Ep e] at b;simp only[tW,tL] at b;rw[J5 e];split at b
  .subst b;exact f.elim
  next i=>exact⟨b.symm,.inl ⟨ao.2 ⟨e,za⟩,rfl⟩⟩
 .unfold qz at b;rw[Ei zd,Ax,List.length_range,tV] at b;obtain⟨o,g,rfl⟩:=tH.1 b;have:=nO (m:=m) g;grind
theorem gS {m:Nat} {U rest:List Nat} {h:Nat->AObj} (b:okU m U rest=true) {j f:Nat} {x w:AObj} (E:(qz m U rest h)[j]?=some x) (A:isLive x) (u:(qz m U rest h)[f]?=some w) (v:isLive w)
  (e:outU m rest j=outU m rest f):j=f:=by
 simp only[okU,tF,A7,Ey] at b
 have p:∀o,o∈keep m U->o∈rest->False:=λo y D=>by
  have y:=ao.1 y;rcases b.2 o D with h3|h3
  .have:=A9 h3;omega
  .grind
 obtain⟨_,_,g⟩:=ki E A;obtain⟨_,_,C⟩:=ki u v;rcases g with⟨z,r⟩|⟨z,r⟩<;>rcases C with⟨i,d⟩|⟨i,d⟩
 .omega
 .grind
 .grind
 .rw[e] at r;have:=qE (xJ b.1) r d;omega
theorem gp {m:Nat}{U rest:List Nat}{h:Nat->AObj}{j:Nat}{x:AObj}(b:(qz m U rest h)[j]?=some x)(d:isLive x):outU m rest j∈keep m U++rest:=by
 rcases(ki b d).2.2 with⟨f,e⟩|⟨_,e⟩
 .grind
 .grind
def qv (m:Nat)(lv:List<|Nat×List Nat)(G:Nat->St->Prop)(p:Nat)(s:St):Prop:=
 match y4 lv p with
 |none=>False
 |some live=>match ZB m (lvU lv) (hook s.heap) (live.flatMap λt=>(look s.env t).ids) with
  |rest=>match okU m (lvU lv) rest&&(keep m (lvU lv)++rest).all (λo=>(hook s.heap o).inn<|keep m (lvU lv)++rest)&&live.all (λt=>(look s.env t).inn<|keep m (lvU lv)++rest) with
   |true=>G p ⟨live.map λt=>(t,(look s.env t).ren<|invU m rest),yO 0<|qz m (lvU lv) rest<|hook s.heap,m+rest.length⟩
   |false=>False
theorem xX:∀ {l:List AObj} {k:Nat} {p:Nat×AObj},p∈yO k l->∃j,p.1=k+j/\l[j]?=some p.2
 |[],_,_,hp=>by cases hp
 |o::l,k,p,hp=>by
  rcases A1.1 hp with rfl|hp
  .simp
  .obtain⟨j,d,b⟩:=xX hp;exact⟨j+1,za,zd⟩
theorem Wn (x:TV):x.lend []=x:=by have:=yK [x];grind
theorem pD (x:AObj):x.lend []=x:=by
 have b:∀y:WV,y.lend []=y:=λy=>by have:=Wn (.c y);simp only[TV.lend,TV.c.injEq] at this;exact this
 cases x with
 |arr n es=>simp only[AObj.lend,show WV.lend []=id from funext b,Sc,List.map_id']
 |_=>rfl
theorem jM {m:Nat}{lv:List (Nat×List Nat)}{G:Nat->St->Prop}{p:Nat}{s:St}(d:qv m lv G p s):∃w,Sle m s w/\G p w:=by
 unfold qv at d;split at d
 .grind
 .rename_i live E;generalize ZB _ _ _ _=rest at d;generalize lvU lv=U at d;simp only at d;split at d
  .rename_i x;simp only[tF] at x;obtain⟨⟨D,F⟩,A⟩:=x;refine⟨_,⟨outU m rest,[],(λp z=>by cases z),Nat.le_add_right _ _,λo y=>J5 y,λq b=>?_,λq b h=>?_,λq b K r h v e=>?_⟩,d⟩
   .obtain⟨t,I,rfl⟩:=Ay.1 b;have:=TV.renV (backU (m:=m) (U:=U) (rest:=rest))<|A7.1 A t I;rw[Wn];exact⟨by rw[this.1];exact .refl _,this.2⟩
   .obtain⟨j,g,i⟩:=xX b;obtain⟨C,H,_⟩:=ki i h;have:=AObj.renV (backU (m:=m) (U:=U) (rest:=rest))<|A7.1 F _<|gp i h;rw[A4] at g;rw[g,H];exact⟨C,by rw[pD,this.1],this.2,(λq b=>by cases b)⟩
   .obtain⟨j,g,i⟩:=xX b;obtain⟨J,f,u⟩:=xX r;rw[A4] at g f;rw[g,f] at e ⊢;exact gS D i h u v e
  .grind
def retV (P:Program)(own:Bool)(rl:List ResultVar)(m:Nat)(U:List Nat)(R:TV->List AObj->Prop)(s:St):Prop:=
 match gY P s rl with
 |none=>False
 |some rs=>match own with
  |false=>asksA (hook s.heap) rs (match ZB m U (hook s.heap) ((rs.map λx=>(givT (hook s.heap) x).1).flatMap TV.ids) with
   |rest=>match okU m U rest&&(keep m U++rest).all (λo=>(hook s.heap o).inn<|keep m U++rest)&&(rs.map λx=>(givT (hook s.heap) x).1).all (TV.inn<|keep m U++rest)&&(rs.flatMap<|Yi<|hook s.heap).all (λp=> !(keep m U++rest).contains p.1) with
    |true=>match d8 ((rs.map λx=>(givT (hook s.heap) x).1).map<|TV.ren<|invU m rest) with
     |some r0=>R r0 (qz m U rest<|hook s.heap)
     |none=>False
    |false=>False)
  |true=>match ZB m U (hook s.heap) (rs.flatMap TV.ids) with
   |rest=>match okU m U rest&&(keep m U++rest).all (λo=>(hook s.heap o).inn<|keep m U++rest)&&rs.all (TV.inn<|keep m U++rest) with
    |true=>match d8 (rs.map<|TV.ren<|invU m rest) with
     |some r0=>R r0<|qz m U rest<|hook s.heap
     |none=>False
    |false=>False
theorem lend_inn {d:List Nat}{E:Lent}(hd:∀p∈E,p.1 ∉ d){x:AObj}(h:x.inn d=true):x.lend E=x:=by
 have i:∀y:WV,y.inn d=true->y.lend E=y:=λy g=>by
  cases y with
  |fn f a b=>rfl
  |a y=>cases y with
   |osl o n j r=>simp only[WV.inn,AV.inn,E8,Ak] at g;simp only[WV.lend,AV.lend];rw[Z2];grind
   |_=>rfl
 cases x with
 |arr n es=>
  simp only[AObj.inn,A7] at h;simp only[AObj.lend];congr 1
  conv=>rhs;rw[<-Sc es]
  refine AY λe m=>?_
  conv=>rhs;rw[id,<-Sc e]
  exact AY λy g=>i y<|h e m y g
 |_=>rfl
theorem gE {α β:Type}{R:α->β->Prop}{g:α->β}:∀ {l:List α},(∀x∈l,R x<|g x)->All2 R l (l.map g)
 |[],_=>trivial
 |x::_,h=>⟨h x tM,gE λy b=>h y<|tK _ b⟩
theorem J8 {P:Program} {I:List ResultVar} {m:Nat} {U:List Nat} {r r0:TV} {s:St} {y g:List TV} {E:Lent} {rest:List Nat} (w:gY P s I=some y) (h:y.map (TV.lend E)=g) (M:E.ok<|hook s.heap) (N:okU m U rest=true)
  (O:((keep m U++rest).all λo=>(hook s.heap o).inn<|keep m U++rest)=true) (W:g.all (TV.inn<|keep m U++rest)=true)
  (f:∀p∈E,p.1 ∉ keep m U++rest) (H:d8 (g.map<|TV.ren<|invU m rest)=some r0) (F:TV.Le r0 r):iP P I m r (qz m U rest<|hook s.heap) s:=by
 refine⟨y,_,outU m rest,E,r0,w,H,F,M,?_,λo J=>J5 J,λq z h=>?_,λq z V C h G e=>?_⟩
 .rw[<-h,EU];refine gE λx X=>?_;have A:(x.lend E).inn (keep m U++rest)=true:=by grind
  have:=TV.renV (backU (m:=m) (U:=U) (rest:=rest)) A;simp only[Function.comp,uZ];exact⟨by rw[this.1];exact .refl _,this.2⟩
 .obtain⟨j,u,v⟩:=xX z;obtain⟨L,S,_⟩:=ki v h;have b:=gp v h;have d:=A7.1 O _ b;have:=AObj.renV (backU (m:=m) (U:=U) (rest:=rest)) d;rw[A4] at u;rw[u,S,uZ];exact⟨L,by rw[lend_inn f d,this.1],this.2,λp K e=>f p K<|e▸b⟩
 .obtain⟨j,u,v⟩:=xX z;obtain⟨T,i,D⟩:=xX C;rw[A4] at u i;rw[u,i] at e ⊢;exact gS N v h D G e
theorem bG {P:Program}{w:Bool}{x:List ResultVar}{m:Nat}{U:List Nat}{r:TV}{Hs':List AObj}{s:St}(h:retV P w x m U (λr0 Hs0=>TV.Le r0 r/\Hs0=Hs') s):iP P x m r Hs' s:=by
 unfold retV at h;split at h
 .grind
 .rename_i j f;split at h
  .obtain⟨y,h⟩:=YA (L:=j.flatMap<|Yi<|hook s.heap) jZ (λp e=>e) h;generalize ZB _ _ _ _=rest at h;simp only at h;split at h
   .rename_i g;simp only[tF] at g;obtain⟨⟨⟨u,v⟩,o⟩,A⟩:=g;have i:∀p∈j.flatMap (Yi<|hook s.heap),p.1 ∉ keep m U++rest:=λp e z=>by grind
    split at h;next r0 d=>obtain⟨b,rfl⟩:=h;exact J8 f y jZ.ok u v o i d b
    .grind
   .grind
  .generalize ZB _ _ _ _=rest at h;simp only at h;split at h
   .rename_i g;simp only[tF] at g;obtain⟨⟨u,v⟩,o⟩:=g;split at h;next r0 d=>obtain⟨b,rfl⟩:=h;exact J8 (E:=[]) f (yK j) (λp e=>by cases e) u v o (λp e=>by cases e) d b
    .grind
   .grind
section
variable (P:Program) (sh:FuncId->List Sh) (n m:Nat) (lv:List<|Nat×List Nat) (G:Nat->St->Prop)
def regV (ops:Array Oper)(d:Bool)(K:AExit->St->Prop)(s:St):Prop:=
 match dstB ops n with
 |true=>lexV P sh ops s.nx ops.toList 0 s.env s.heap [] λe h tr=>match !d||JN ops tr with
  |true=>K .normal ⟨e,h,s.nx+32*ops.size⟩
  |false=>False
 |false=>False
def Xv (K1:St->Prop)(K:AExit->St->Prop):AExit->St->Prop
 |.normal,s=>K1 s
 |e,s=>K e s
def condV (x:Operand)(s:St)(A B:St->Prop):Prop:=
 match ev s.env x with
 |.c (.a (.fz (.bool b)))=>match x with
  |.tmp t=>br b (A ⟨(t,bV true)::s.env,s.heap,s.nx⟩)<|B ⟨(t,bV false)::s.env,s.heap,s.nx⟩
  |_=>br b (A s)<|B s
 |_=>False
def runV:Code->(AExit->St->Prop)->St->Prop
 |.skip,K,s=>K .normal s
 |.ret,K,s=>K .ret s
 |.exit i,K,s=>K (.exit i) s
 |.seq a b,K,s=>runV a (Xv (runV b K) K) s
 |.cond x a b,K,s=>condV x s (runV a K)<|runV b K
 |.block i c,K,s=>match isLoop c with
  |true=>qv m lv G (2*i+1) s
  |false=>runV c (yi i K) s
 |.region i ops d,K,s=>match (y4 lv<|2*i).isSome with
  |true=>qv m lv G (2*i) s
  |false=>regV P sh n ops d K s
 |.scope c,K,s=>runV c K s
 |.label _,K,s=>K .normal s
 |_,_,_=>False
def qh:Code->Nat->(AExit->St->Prop)->St->Prop
 |.region i ops d,p,K,s=>match p==2*i with
  |true=>regV P sh n ops d K s
  |false=>False
 |.seq a b,p,K,s=>match (pts a).contains p with
  |true=>qh a p (Xv (runV P sh n m lv G b K) K) s
  |false=>qh b p K s
 |.cond _ a b,p,K,s=>match (pts a).contains p with
  |true=>qh a p K s
  |false=>qh b p K s
 |.block i c,p,K,s=>match p==2*i+1 with
  |true=>match c with
   |.loop b=>runV P sh n m lv G b (Xv (qv m lv G<|2*i+1)<|yi i K) s
   |_=>False
  |false=>match c with
   |.loop b=>qh b p (Xv (qv m lv G<|2*i+1)<|yi i K) s
   |c=>qh c p (yi i K) s
 |.scope c,p,K,s=>qh c p K s
 |_,_,_,_=>False
end
section
variable {P:Program} {sh:FuncId->List Sh} {n m:Nat} {lv:List (Nat×List Nat)} {G:Nat->St->Prop}
theorem kV {P:Program}{f:Array Oper}{nx:Nat}{K1 K2:Env->AHeap->wq->Prop}(j:∀e h d,K1 e h d->K2 e h d):∀ {l:List Oper} {i:Nat} {e:Env} {h:AHeap} {d:wq},lex P f nx l i e h d K1->lex P f nx l i e h d K2:=by
 intro l
 induction l with
 |nil=>exact λh=>j _ _ _ h
 |cons o rest ih=>
  intro i e h d b;unfold lex K0 at b ⊢;split
  .grind
  .rename_i w p;rw[p] at b;simp only at b;split
   .rename_i m;rw[tG m] at b;unfold pO at b ⊢;cases v:goCall o.op with
    |some c=>
     rw[v] at b;simp only at b ⊢;cases g:calleeOf (ev e) c with
     |some x=>rw[g] at b;simp only at b ⊢;exact b.imp λr u rd j=>ih j
     |none=>rw[g] at b;exact b.elim
    |none=>grind
   .grind
theorem cx (u:P.follows .mixedOrders=true){i:Nat}{b:Array Oper}{d:Bool}{K Q:AExit->St->Prop}{s:St}(r:∀e s,K e s->Q e s)(h:regV P sh n b d K s):Awp P n m (.region i b d) Q s:=by
 unfold regV at h;split at h
 .rename_i hd;refine Awp.uneq<|Awp.region u hd ?_;have g:=wO rfl h;refine kV ?_ g;rintro w g p ⟨j,o,f⟩;split at f
  .rename_i x;refine⟨λv=>?_,j,o,r _ _ f⟩;grind
  .grind
 .grind
def GOK (P:Program)(n m:Nat)(G:Nat->St->Prop)(c:Code)(Q:AExit->St->Prop):Prop:=∀p s,p∈pts c->G p s->rz P n m c p Q s
theorem wy {K1 Q1:St->Prop}{K Q:AExit->St->Prop}(d:∀s,K1 s->Q1 s)(h:∀e s,K e s->Q e s):∀e s,Xv K1 K e s->XL Q1 Q e s:=by
 intro e s b;cases e with
 |normal=>exact d s b
 |exit i=>exact h _ s b
 |ret=>exact h _ s b
theorem xG {i:Nat}{K Q:AExit->St->Prop}(h:∀e s,K e s->Q e s):∀e s,yi i K e s->yi i Q e s:=by
 intro e s b;cases e with
 |normal=>exact h _ s b
 |exit j=>simp only[yi] at b ⊢;grind
 |ret=>exact h _ s b
theorem GOK.left {a b:Code}{Q:AExit->St->Prop}(h:GOK P n m G (.seq a b) Q):GOK P n m G a (XL (Awp P n m b Q) Q):=λp s d e=>by have:=h p s (A0.2<|.inl d) e;unfold rz at this;grind
theorem GOK.right {a b:Code}{Q:AExit->St->Prop}(f:(pts<|.seq a b).Nodup)(h:GOK P n m G (.seq a b) Q):GOK P n m G b Q:=λp s d e=>by have:=h p s (A0.2<|.inr d) e;unfold rz at this;rwa [tD<|by have:=(Ej.1 f).2.2;simp only[E8,Ak];exact λg=>this p g p d rfl] at this
theorem GOK.condL {x:Operand}{a b:Code}{Q:AExit->St->Prop}(h:GOK P n m G (.cond x a b) Q):GOK P n m G a Q:=λp s d e=>by have:=h p s (A0.2<|.inl d) e;unfold rz at this;grind
theorem GOK.condR {x:Operand}{a b:Code}{Q:AExit->St->Prop}(f:(pts<|.cond x a b).Nodup)(h:GOK P n m G (.cond x a b) Q):GOK P n m G b Q:=λp s d e=>by have:=h p s (A0.2<|.inr d) e;unfold rz at this;rwa [tD<|by have:=(Ej.1 f).2.2;simp only[E8,Ak];exact λg=>this p g p d rfl] at this
theorem GOK.block {i:Nat}{c:Code}{Q:AExit->St->Prop}(f:(pts<|.block i c).Nodup)(h:GOK P n m G (.block i c) Q):GOK P n m G c (yi i Q):=λp s b d=>by have:=h p s (tK _ b) d;unfold rz at this;rwa [tD λe=>by subst e;exact(E1.1 f).1 b] at this
theorem GOK.loop {c:Code}{Q:AExit->St->Prop}(h:GOK P n m G (.loop c) Q):GOK P n m G c (XL (Alwp P n m c Q) Q):=λp s b d=>by have:=h p s b d;assumption
theorem GOK.scope {c:Code}{Q:AExit->St->Prop}(h:GOK P n m G (.scope c) Q):GOK P n m G c Q:=λp s b d=>by have:=h p s b d;assumption
theorem GOK.head {i:Nat}{c:Code}{Q:AExit->St->Prop}(h:GOK P n m G (.block i c) Q){s:St}(b:qv m lv G (2*i+1) s):headA P n m c (yi i Q) s:=by obtain⟨e,d,b⟩:=jM b;have:=h _ _ tM b;unfold rz at this;rw[tG rfl] at this;exact headA.weak d this
theorem xT (r:P.follows .mixedOrders=true):∀ {c:Code} {K Q:AExit->St->Prop} {s:St},(pts c).Nodup->GOK P n m G c Q->(∀e s,K e s->Q e s)->runV P sh n m lv G c K s->Awp P n m c Q s
 |.skip,K,Q,s,_,_,f,h=>Awp.skip<|f _ _ h
 |.ret,K,Q,s,_,_,f,h=>Awp.ret<|f _ _ h
 |.exit i,K,Q,s,_,_,f,h=>Awp.exit<|f _ _ h
 |.seq a b,K,Q,s,o,j,f,h=>by have g:=Ej.1 o;exact Awp.seq<|xT r g.1 j.left (wy (λs v=>xT r g.2.1 (j.right o) f v) f) h
 |.cond x a b,K,Q,s,o,j,f,h=>by
  have g:=Ej.1 o;unfold runV condV at h;split at h
  .rename_i t u;split at h
   .rename_i C;have p:∀y,t=y->look ((C,bV y)::s.env)=look s.env:=λy A=>X4 (by simp only[ev] at u;rw[u,A];rfl);cases t with
    |true=>exact Awp.cond u (λ_=>Awp.look (p _ rfl)<|xT r g.1 j.condL f h) (λe=>by cases e)
    |false=>exact Awp.cond u (λe=>by cases e) λ_=>Awp.look (p _ rfl)<|xT r g.2.1 (j.condR o) f h
   .cases t with
    |true=>exact Awp.cond u (λ_=>xT r g.1 j.condL f h) (λe=>by cases e)
    |false=>exact Awp.cond u (λe=>by cases e) λ_=>xT r g.2.1 (j.condR o) f h
  .grind
 |.block i c,K,Q,s,o,j,f,h=>by
  unfold runV at h;split at h;next E=>exact Awp.block (j.head h).awp
  .exact Awp.block<|xT r (E1.1 o).2 (j.block o) (xG f) h
 |.region i w d,K,Q,s,o,j,f,h=>by
  unfold runV at h;split at h
  .obtain⟨D,v,z⟩:=jM h;have:=j _ _ tM z;exact this.2.weak v
  .exact cx r f h
 |.loop _,_,_,_,_,_,_,h=>h.elim
 |.rangeFunc ..,_,_,_,_,_,_,h=>h.elim
 |.scope c,K,Q,s,o,j,f,h=>by unfold runV at h;exact Awp.scope<|xT r o j.scope f h
 |.label _,K,Q,s,_,_,f,h=>Awp.label<|f _ _ h
 |.goto _,_,_,_,_,_,_,h=>h.elim
 |.refuse _,_,_,_,_,_,_,h=>h.elim
theorem wK (r:P.follows .mixedOrders=true):∀ {c:Code} {p:Nat} {K Q:AExit->St->Prop} {s:St},(pts c).Nodup->GOK P n m G c Q->(∀e s,K e s->Q e s)->qh P sh n m lv G c p K s->rz P n m c p Q s
 |.region i w d,p,K,Q,s,_,_,j,h=>by
  unfold qh at h;split at h;next u=>exact⟨zd,cx r j h⟩
  .grind
 |.seq a b,p,K,Q,s,f,g,j,h=>by
  have o:=Ej.1 f;unfold qh at h;unfold rz;split at h;next u=>rw[tG u];exact wK r o.1 g.left (wy (λs v=>xT r o.2.1 (g.right f) j v) j) h
  next u=>rw[tD zd];exact wK r o.2.1 (g.right f) j h
 |.cond x a b,p,K,Q,s,f,g,j,h=>by
  have o:=Ej.1 f;unfold qh at h;unfold rz;split at h;next u=>rw[tG u];exact wK r o.1 g.condL j h
  next u=>rw[tD zd];exact wK r o.2.1 (g.condR f) j h
 |.block i c,p,K,Q,s,f,g,j,h=>by
  unfold qh at h;unfold rz;split at h
  .rename_i u;rw[tG zd];split at h;next b=>have hn2:(pts b).Nodup:=(E1.1 f).2;exact(Alwp.unroll (xT r hn2 (GOK.loop<|g.block f) (wy (λs v=>g.head v)<|xG j) h):Alwp _ _ _ _ _ _)
   .grind
  .rename_i u;rw[tD zd];split at h;next b=>have hn2:(pts b).Nodup:=(E1.1 f).2;unfold rz;exact wK r hn2 (GOK.loop<|g.block f) (wy (λs v=>g.head v)<|xG j) h
   .exact wK r (E1.1 f).2 (g.block f) (xG j) h
 |.skip,_,_,_,_,_,_,_,h=>h.elim
 |.ret,_,_,_,_,_,_,_,h=>h.elim
 |.exit _,_,_,_,_,_,_,_,h=>h.elim
 |.loop _,_,_,_,_,_,_,_,h=>h.elim
 |.rangeFunc ..,_,_,_,_,_,_,_,h=>h.elim
 |.scope c,p,K,Q,s,f,g,j,h=>by unfold qh at h;unfold rz;exact wK r f g.scope j h
 |.label _,_,_,_,_,_,_,_,h=>h.elim
 |.goto _,_,_,_,_,_,_,_,h=>h.elim
 |.refuse _,_,_,_,_,_,_,_,h=>h.elim
end
def endV (P:Program)(own:Bool)(rl:List ResultVar)(m:Nat)(U:List Nat)(R:TV->List AObj->Prop):AExit->St->Prop
 |.exit _,_=>False
 |_,s=>retV P own rl m U R s
def vcE (P:Program)(sh:FuncId->List Sh)(lv:List<|Nat×List Nat)(f:FuncId)(args:List TV)(Hs:List AObj)(R:TV->List AObj->Prop)(G:Nat->St->Prop):Prop:=
 match P.funcs[f]? with
 |some fn=>match fn.body with
  |some c=>match xF P f&&Nat.ble args.length fn.ntmps&&jd (pts c) with
   |true=>runV P sh fn.ntmps Hs.length lv G c (endV P (ownB<|sh f) fn.results.toList Hs.length (lvU lv) R) ⟨qI 0 args,yO 0 Hs,Hs.length⟩
   |false=>False
  |none=>False
 |none=>False
def vcP (P:Program)(sh:FuncId->List Sh)(lv:List<|Nat×List Nat)(f:FuncId)(m:Nat)(R:TV->List AObj->Prop)(G:Nat->St->Prop)(p:Nat)(s:St):Prop:=
 match P.funcs[f]? with
 |some fn=>match fn.body with
  |some c=>match jd (pts c) with
   |true=>qh P sh fn.ntmps m lv G c p (endV P (ownB<|sh f) fn.results.toList m (lvU lv) R) s
   |false=>False
  |none=>False
 |none=>False
section
variable {P:Program} {sh:FuncId->List Sh} {lv:List (Nat×List Nat)} {f:FuncId}
theorem WJ {b:Bool}{d:List ResultVar}{m:Nat}{U:List Nat}{r:TV}{Hs':List AObj}:∀e s,endV P b d m U (λr0 Hs0=>TV.Le r0 r/\Hs0=Hs') e s->Ret P d m r Hs' e s:=by
 intro e s h;cases e with
 |normal=>exact bG h
 |exit i=>exact h
 |ret=>exact bG h
theorem dY {fn:Func}{c:Code}{m:Nat}{r:TV}{Hs':List AObj}(h:P.funcs[f]?=some fn)(e:fn.body=some c):GOK P fn.ntmps m (RPt P f m r Hs') c (Ret P fn.results.toList m r Hs'):=by rintro p s _ ⟨b,j,i,g,d⟩;grind
theorem AC.vc (m:P.follows .mixedOrders=true) (sh:FuncId->List Sh) (lv:List<|Nat×List Nat) {args:List TV} {Hs Hs':List AObj} {r:TV} (e:Hs.length<=Hs'.length) (d:∀x∈Hs,isLive x) (b:∀x∈Hs'.drop Hs.length,isLive x)
  (h:vcE P sh lv f args Hs (λr0 Hs0=>TV.Le r0 r/\Hs0=Hs')<|RPt P f Hs.length r Hs'):AC P f args Hs r Hs':=by
 unfold vcE at h;split at h
 .rename_i fn j;split at h
  .rename_i c i;split at h;next g=>simp only[tF] at g;exact AC.intro j i rfl rfl g.1.1 (A9 g.1.2) e d b (xT m (xJ g.2) (dY j i) WJ h)
   .grind
  .grind
 .grind
theorem RPt.vc (e:P.follows .mixedOrders=true) (sh:FuncId->List Sh) (lv:List<|Nat×List Nat) {m:Nat} {Hs':List AObj} {r:TV} {p:Nat} {s:St}
  (h:vcP P sh lv f m (λr0 Hs0=>TV.Le r0 r/\Hs0=Hs') (RPt P f m r Hs') p s):RPt P f m r Hs' p s:=by
 unfold vcP at h;split at h
 .rename_i fn d;split at h
  .rename_i c b;split at h;next g=>exact⟨fn,c,d,b,wK e (xJ g) (dY d b) WJ h⟩
   .grind
  .grind
 .grind
end
theorem AC.le {P:Program}{f:FuncId}{args args':List TV}{Hs Hs':List AObj}{r r':TV}(h:AC P f args' Hs r Hs')(j:All2 TV.Le args args')(y:TV.Le r r'):AC P f args Hs r' Hs':=by refine⟨h.1,h.2.1,λw vals β Y u p b i o=>?_⟩;refine(h.2.2 w vals β Y u p b i<|WI j o).mono λe w' ⟨v,d,A,z,m,x,g⟩=>?_;exact⟨v,d,A,z,m,TRep.le y x,g⟩
theorem AC.args {P:Program}{f:FuncId}{args args':List TV}{Hs Hs':List AObj}{r:TV}(h:AC P f args' Hs r Hs')(b:All2 TV.Le args args'):AC P f args Hs r Hs':=h.le b<|.refl r
inductive OLe:AObj->AObj->Prop
 |refl (a:AObj):OLe a a
 |rows (n:Nat) (fs gs:List (List FV)):gs.length<=fs.length->(∀(i:Nat) (e e':List FV),fs[i]?=some e->gs[i]?=some e'->e.length=e'.length)->(∀(i j:Nat) (e e':List FV) (f f':FV),fs[i]?=some e->gs[i]?=some e'->e[j]?=some f->e'[j]?=some f'->FV.Le f f')->OLe (.arz n fs) (.arz n gs)
theorem OLe.live {a b:AObj}(h:OLe a b):isLive a↔isLive b:=by cases h<;>exact Iff.rfl
theorem OLe.bare {a b:AObj}(h:OLe a b)(d:bareO a):bareO b:=by
 cases h with
 |refl=>exact d
 |rows n f gs g _ _=>obtain⟨m,e⟩:=d;simp only[flat,AObj.arr.injEq,List.map_eq_nil_iff] at e;have:gs=[]:=tS zd;exact⟨n,by rw[this];rfl⟩
theorem OLe.rep {w:World}{X:Nat->Prop}{β:Nat->Option Nat}{a b:AObj}{k:Nat}(h:OLe a b)(v:ORep w X β a k):ORep w X β b k:=by
 cases h with
 |refl=>exact v
 |rows n A gs D O J=>
  obtain⟨I,t,C,M,G,H⟩:=v;have f:∀ {i:Nat} {r:List FV},gs[i]?=some r->∃e,A[i]?=some e/\e.length=r.length:=by grind
  have z:gs.length*n<=A.length*n:=Ar _ D;refine⟨I,t,C,zd,λr d=>?_,λi j r N d m=>?_⟩
  .obtain⟨g,p,rfl⟩:=Ay.1 d;obtain⟨i,L⟩:=E6 p;obtain⟨e,x,E⟩:=f L;have:=G (fzs e)<|Ay.2 ⟨e,Aq x,rfl⟩;simp only[fzs,Ax] at this ⊢;omega
  .rw[tV] at d;obtain⟨g,p,rfl⟩:=tH.1 d;rw[fzs,tV] at m;obtain⟨f',y,rfl⟩:=tH.1 m;obtain⟨e,x,E⟩:=f p;have F:j<e.length:=zd;have o:=tO F;obtain⟨u,K,v⟩:=H i j (fzs e) (cell e[j]) zd (by rw[fzs,tV,o];rfl);exact⟨u,K,WRep.le (.a _ _<|.fz _ _<|J i j e g _ _ x p o y) v⟩
theorem AC.obj {P:Program}{f:FuncId}{args:List TV}{Hs Hs' Hs'':List AObj}{r:TV}(h:AC P f args Hs r Hs')(g:All2 OLe Hs' Hs''):AC P f args Hs r Hs'':=by
 have z:∀ {a b:List AObj},All2 OLe a b->a.length=b.length:=by
  intro a
  induction a with
  |nil=>intro b h;cases b; · rfl
        .exact h.elim
  |cons x a ih=>intro b h;cases b; · exact h.elim
                .simp[ih h.2]
 have d:∀ {a b:List AObj} (i:Nat),All2 OLe a b->OLe (a.getD i .gone) (b.getD i .gone):=by
  intro a
  induction a with
  |nil=>intro b i h;cases b; · exact .refl _
        .grind
  |cons x a ih=>
   intro b i h;cases b with
   |nil=>exact h.elim
   |cons y b=>cases i with
    |zero=>exact h.1
    |succ i=>exact ih (b:=b) i h.2
 have E:=z g;refine⟨h.1,by rw[<-E];exact h.2.1,λw vals β Y D G C I K=>?_⟩;refine(h.2.2 w vals β Y D G C I K).mono λe w' ⟨v,j,L,J,u,N,O,F,M⟩=>?_;have m:Own (λo=>Hs''.getD o .gone) j=Own (λo=>Hs'.getD o .gone) j:=by funext b;exact propext ⟨λ⟨o,a,c⟩=>⟨o,(d o g).live.2 a,c⟩,λ⟨o,a,c⟩=>⟨o,(d o g).live.1 a,c⟩⟩
 refine⟨v,j,L,J,⟨λo b a c=>?_,λo a=>?_,λo o' b a H=>u.inj o o' b ((d o g).live.2 a)<|(d o' g).live.2 H,u.lt⟩,by simp_all,zd,F,M⟩
 .rw[m];exact(d o g).rep<|u.rep o b ((d o g).live.2 a) c
 .exact(u.has o<|(d o g).live.2 a).imp id λ⟨p,q⟩=>⟨(d o g).bare p,q⟩
abbrev ci (n:Int):TV:=.c<|.a<|.fz<|.int .i64 n
abbrev cb (b:Bool):TV:=.c<|.a<|.fz<|.bool b
abbrev cs (s:List UInt8):TV:=.c<|.a<|.fz<|.str s
abbrev c8 (n:Int):TV:=.c<|.a<|.fz<|.int .u8 n
def LeR:List FV->List FV->Prop
 |[],[]=>True
 |x::xs,y::ys=>FV.Le x y/\LeR xs ys
 |_,_=>False
theorem LeR.refl:∀l:List FV,LeR l l
 |[]=>trivial
 |x::l=>⟨.refl x,LeR.refl l⟩
theorem LeR.length:∀ {a b:List FV},LeR a b->a.length=b.length
 |[],[],_=>rfl
 |_::_,_::_,h=>by simp[h.2.length]
 |[],_::_,h=>h.elim
 |_::_,[],h=>h.elim
theorem LeR.get:∀ {a b:List FV},LeR a b->∀(i:Nat) (x y:FV),a[i]?=some x->b[i]?=some y->FV.Le x y
 |[],[],_,i,x,y,hx,_=>zd
 |a::a9,b::bs,h,i,x,y,hx,hy=>by
  cases i with
  |zero=>simp at hx hy;subst hx;subst hy;exact h.1
  |succ i=>exact h.2.get i x y zd zd
theorem KQ {a b:List FV}(h:LeR a b):TV.Le (.agg<|fzs a) (.agg<|fzs b):=by refine .agg _ _ (by simp[fzs,h.length]) λi x y f g=>?_;rw[fzs,tV] at f g;obtain⟨m,d,rfl⟩:=tH.1 f;obtain⟨j,e,rfl⟩:=tH.1 g;exact .a _ _<|.fz _ _<|h.get i m j d e
theorem le_c {x y:FV}(h:FV.Le x y):TV.Le (.c<|.a<|.fz x) (.c<|.a<|.fz y):=.c _ _<|.a _ _<|.fz _ _ h
inductive Tm where
 |mk (k:Int) (s:List UInt8) (n:Int) (l:List Tm)
 deriving Inhabited
namespace Tm
def k:Tm->Int|.mk k _ _ _=>k
def s:Tm->List UInt8|.mk _ s _ _=>s
def n:Tm->Int|.mk _ _ n _=>n
def l:Tm->List Tm|.mk _ _ _ l=>l
end Tm
mutual
def FT:Tm->List FV
 |.mk k s n l=> [.int .i64 k,.str s,.int .i64 n,.sl false 4<|FTs l]
def FTs:List Tm->List (List FV)
 |[]=> []
 |t::l=>FT t::FTs l
end
mutual
def Tm.sz:Tm->Nat
 |.mk _ _ _ l=>1+Tm.szs l
def Tm.szs:List Tm->Nat
 |[]=>0
 |t::l=>Tm.sz t+Tm.szs l
end
theorem yf:∀l:List Tm,FTs l=l.map FT
 |[]=>rfl
 |t::l=>by simp only[FTs,Aw,yf l]
theorem zq (l:List Tm):(FTs l).length=l.length:=by rw[yf,Ax]
theorem yh (a b:List Tm):FTs (a++b)=FTs a++FTs b:=by simp only[yf,E4]
theorem ym (t:Tm):(FT t).length=4:=by cases t;rfl
theorem Zv (t:Tm):FT t=[.int .i64 t.k,.str t.s,.int .i64 t.n,.sl false 4<|FTs t.l]:=by cases t;rfl
theorem Tm.sz_pos (t:Tm):1<=t.sz:=by cases t;simp only[Tm.sz];omega
theorem Tm.sz_eq (t:Tm):t.sz=1+Tm.szs t.l:=by cases t;rfl
mutual
def Tm.bk:Tm->Nat
 |.mk _ s _ l=>1+s.length+Tm.bks l
def Tm.bks:List Tm->Nat
 |[]=>0
 |t::l=>Tm.bk t+Tm.bks l
end
mutual
theorem Tm.sz_bk:∀t:Tm,t.sz<=t.bk
 |.mk _ s _ l=>by have:=Tm.szs_bks l;simp only[Tm.sz,Tm.bk];omega
theorem Tm.szs_bks:∀l:List Tm,Tm.szs l<=Tm.bks l
 |[]=>tJ _
 |t::l=>by have:=Tm.sz_bk t;have:=Tm.szs_bks l;simp only[Tm.szs,Tm.bks];omega
end
theorem Tm.bks_mem:∀ {l:List Tm} {t:Tm},t∈l->t.bk<=Tm.bks l
 |x::l,t,h=>by
  rcases A1.1 h with rfl|h
  .simp only[Tm.bks];omega
  .have:=Tm.bks_mem h;simp only[Tm.bks];omega
theorem Tm.szs_mem:∀ {l:List Tm} {t:Tm},t∈l->t.sz<=Tm.szs l
 |x::l,t,h=>by
  rcases A1.1 h with rfl|h
  .simp only[Tm.szs];omega
  .have:=Tm.szs_mem h;simp only[Tm.szs];omega
theorem Tm.szs_append:∀(a b:List Tm),Tm.szs (a++b)=Tm.szs a+Tm.szs b
 |[],b=>by simp[Tm.szs]
 |t::a,b=>by simp only[AE,Tm.szs,Tm.szs_append a b];omega
theorem Tm.szs_length:∀l:List Tm,l.length<=Tm.szs l
 |[]=>tJ _
 |t::l=>by have:=Tm.szs_length l;have:=t.sz_pos;simp only[tC,Tm.szs];omega
theorem Tm.ind {P:Tm->Prop}(h:∀t,(∀u∈t.l,P u)->P t):∀t,P t:=by
 have key:∀n t,t.sz<=n->P t:=by
  intro n
  induction n with
  |zero=>intro t b;have:=t.sz_pos;omega
  |succ n ih=>intro t b;refine h t λu d=>ih u ?_;have:=Tm.szs_mem d;rw[Tm.sz_eq] at b;omega
 exact λt=>key _ t<|tJ _
theorem ko (l:List Tm):Int.toNat (l.length:Int)=l.length:=za
theorem WC (a:List Tm)(t:Tm)(b:List Tm):getD (FTs<|a++t::b) a.length []=FT t:=by rw[yf];grind
theorem w64 {x:Int}(b: -9223372036854775808<=x)(d:x<=9223372036854775807):wrap .i64 x=x:=Go.IntWalk.i64_in _ ⟨b,d⟩
def B:Nat:=549755813888
theorem leFT {k n:Int}{s:List UInt8}{x:FV}{l:List Tm}(h:FV.Le x<|.sl false 4<|FTs l):LeR [.int .i64 k,.str s,.int .i64 n,x] (FT<|.mk k s n l):=⟨.refl _,.refl _,.refl _,h,trivial⟩
theorem leSl {b:Bool}{l:List Tm}:FV.Le (.sl b 4<|FTs l) (.sl false 4<|FTs l):=.nn _ _ _
theorem zO:FV.Le .N (.sl false 4<|FTs []):=.N 4
theorem au {b:Bool}{rows:List (List FV)}{l:List Tm}(p:rows.length=l.length)(h:∀(i:Nat) (r:List FV) (t:Tm),rows[i]?=some r->l[i]?=some t->LeR r (FT t)):FV.Le (.sl b 4 rows) (.sl false 4<|FTs l):=by
 refine .trans _ (.sl b 4<|FTs l) _ (.rows b 4 rows _ (by rw[zq,p]) (λi e u g d=>?_) λi j e u f f' g d v m=>?_) leSl
 .rw[yf,tV] at d;obtain⟨t,o,rfl⟩:=tH.1 d;exact(h i e t g o).length
 .rw[yf,tV] at d;obtain⟨t,o,rfl⟩:=tH.1 d;exact(h i e t g o).get j f f' v m
theorem midI (a:List Tm)(t:Tm)(b:List Tm):getD (FTs<|a++t::b) (Int.toNat (a.length:Int)) []=FT t:=by rw[(za:Int.toNat (a.length:Int)=a.length),WC]
theorem midI' (a d:List Tm)(h:a.length=d.length)(t:Tm)(b:List Tm):getD (FTs<|d++t::b) (Int.toNat (a.length:Int)) []=FT t:=by rw[h,midI]
theorem nx {α:Type}(a:List α)(t:α):(((a++[t]).length:Nat):Int)=(a.length:Int)+1:=zb
theorem ap {α:Type}(a:List α)(t:α)(b:List α):(a++[t])++b=a++t::b:=zb
theorem lenI (l:List Tm):(((FTs l).length:Nat):Int)=(l.length:Int):=by rw[zq]
theorem ltI {α:Type}(a:List α)(t:α)(b:List α):(a.length:Int)<(((a++t::b).length:Nat):Int):=zd
theorem ltI' (a:List Tm)(t:Tm)(b:List Tm):(a.length:Int)<(((FTs<|a++t::b).length:Nat):Int):=by rw[zq];exact ltI a t b
theorem geI' (a:List Tm):¬(a.length:Int)<(((FTs<|a++[]).length:Nat):Int):=by rw[zq];simp
abbrev aT (t:Tm):TV:=.agg [.a<|.fz<|.int .i64 t.k,.a<|.fz<|.str t.s,.a<|.fz<|.int .i64 t.n,.a<|.fz<|.sl false 4<|FTs t.l]
abbrev cT (t:Tm):List WV:=[.a<|.fz<|.int .i64 t.k,.a<|.fz<|.str t.s,.a<|.fz<|.int .i64 t.n,.a<|.fz<|.sl false 4<|FTs t.l]
abbrev rE (r:List FV):List FV:=[.int .i64<|FV.I<|getD r 0 FV.N,.str<|FV.S<|getD r 1 FV.N,.int .i64<|FV.I<|getD r 2 FV.N,getD r 3 FV.N]
abbrev cE (r:List FV):List WV:=[.a<|.fz<|.int .i64<|FV.I<|getD r 0 FV.N,.a<|.fz<|.str<|FV.S<|getD r 1 FV.N,.a<|.fz<|.int .i64<|FV.I<|getD r 2 FV.N,.a<|.fz<|getD r 3 FV.N]
abbrev aE (r:List FV):TV:=.agg<|cE r
abbrev FT4 (t:Tm):List FV:=[.int .i64 t.k,.str t.s,.int .i64 t.n,.sl false 4<|FTs t.l]
theorem yT (t:Tm):aE (FT t)=aT t:=by cases t;rfl
theorem cE_FT (t:Tm):cE (FT t)=cT t:=by cases t;rfl
theorem yD (t:Tm):rE (FT t)=FT t:=by cases t;rfl
theorem wN (t:Tm):FT4 t=FT t:=by cases t;rfl
theorem bD (n:Nat)(l:List Tm):drop n (FTs l)=FTs (drop n l):=by rw[yf,yf,List.map_drop]
theorem FTs_take (n:Nat)(l:List Tm):take n (FTs l)=FTs (take n l):=by rw[yf,yf,List.map_take]
theorem FTs_set (n:Nat)(l:List Tm)(t:Tm):List.set (FTs l) n (FT t)=FTs (List.set l n t):=by rw[yf,yf,S8]
theorem xN (a:List Tm)(t:Tm)(b:List Tm):aE (getD (FTs<|a++t::b) (Int.toNat (a.length:Int)) [])=aT t:=by rw[show getD (FTs<|a++t::b) (Int.toNat (a.length:Int)) []=FT t from by rw[(za:Int.toNat (a.length:Int)=a.length),WC]];exact yT t
theorem xr (a:List Tm)(t:Tm)(b:List Tm):rE (getD (FTs<|a++t::b) (Int.toNat (a.length:Int)) [])=getD (FTs<|a++t::b) (Int.toNat (a.length:Int)) []:=by rw[show getD (FTs<|a++t::b) (Int.toNat (a.length:Int)) []=FT t from by rw[(za:Int.toNat (a.length:Int)=a.length),WC]];exact yD t
theorem take_app (x y:List<|List FV):take (x.length+y.length) (drop 0<|take x.length x++y)=x++y:=zd
theorem nc (x:List FV)(y:List<|List FV):take (1+y.length) (drop 0<|[x]++y)=x::y:=zd
mutual
def okI:Tm->Prop
 |.mk _ _ n l=>(-9223372036854775808<=n/\n<=9223372036854775807)/\okIs l
def okIs:List Tm->Prop
 |[]=>True
 |t::l=>okI t/\okIs l
end
theorem nu:∀ {l:List Tm},(∀t∈l,okI t)->okIs l
 |[],_=>trivial
 |t::l,h=>⟨h t tM,nu λu b=>h u<|tK _ b⟩
structure Inf where
 lv:Int
 bd:Bool
 v:Tm
def Inf.c (i:Inf):List FV:=[.int .i64 i.lv,.bool i.bd,.int .i64 i.v.k,.str i.v.s,.int .i64 i.v.n,.sl false 4<|FTs i.v.l]
def SR (l:List Inf):List (List FV):=l.map Inf.c
structure Sto where
 V:List Inf
 T:List Int
def IR (l:List Int):List (List FV):=l.map λn=> [.int .i64 n]
abbrev aL (l:List Tm):TV:=.c<|.a<|.fz<|.sl false 4<|FTs l
theorem leT {k n:Int}{s:List UInt8}{x:FV}{l:List Tm}(h:FV.Le x<|.sl false 4<|FTs l):TV.Le (.agg [.a<|.fz<|.int .i64 k,.a<|.fz<|.str s,.a<|.fz<|.int .i64 n,.a<|.fz x]) (aT<|.mk k s n l):=KQ<|leFT h
theorem pB {x y:Tm}(h:x=y):TV.Le (aT x) (aT y)/\([]:List AObj)=[]:=⟨by rw[h];exact .refl _,rfl⟩
theorem zD {x y:Bool}(h:x=y):TV.Le (cb x) (cb y)/\([]:List AObj)=[]:=⟨by rw[h];exact .refl _,rfl⟩
theorem yF {x y:Int}(h:x=y):TV.Le (ci x) (ci y)/\([]:List AObj)=[]:=⟨by rw[h];exact .refl _,rfl⟩
theorem uw {x y:TV}(h:TV.Le x y):TV.Le x y/\([]:List AObj)=[]:=⟨h,rfl⟩
theorem AC.of_calls {P:Program} {f:FuncId} {args:List TV} {vals:List Value} {r:TV} {v:Value} (g:xF P f=true) (h:∀w,Calls P f vals.toArray w λe w'=>e=.returned v/\w'=w)
  (j:∀(w:World) (X:Nat->Prop) (β:Nat->Option Nat) (d:List Value),LRep (TRep w X β) args d->d=vals) (C:∀(w:World) (X:Nat->Prop) (β:Nat->Option Nat),TRep w X β r v):AC P f args [] r []:=by
 refine⟨g,tJ _,λw d β Y i D _ m u=>?_⟩;rw[j _ _ _ _ u];refine(h w).mono λe w' ⟨x,z⟩=>?_;subst z;exact⟨v,β,x,Good.refl _ _,m,C _ _ _,i,λo y=>absurd y<|Nat.not_lt_zero _,λo b _ p=>absurd (i o b p)<|Nat.not_lt_zero _⟩
theorem AC.str_u8 {P:Program}{f:FuncId}{s:List UInt8}{c n:Int}(b:xF P f=true)(h:∀w,Calls P f #[.string ⟨s.toArray⟩,.int .u8 c] w λe w'=>e=.returned (.int .i64 n)/\w'=w):AC P f [cs s,c8 c] [] (ci n) []:=by refine AC.of_calls (vals:=[.string ⟨s.toArray⟩,.int .u8 c]) b h (λw X β r g=>?_) λw X β=>.a _ _<|.fz _ _<|.int _ _;obtain⟨u,p,rfl,m,j⟩:=g.cons_inv;obtain⟨v,o,rfl,d,i⟩:=j.cons_inv;rw[TRep.str_inv m,TRep.int_inv d,i.nil_inv]
theorem aO {w:World}{X:Nat->Prop}{n:Nat}{es:List (List FV)}{v:Value}(h:FRep w X (.sl false n es) v):(v=.slice none 0 0/\es=[])\/FRep w X (.sl true n es) v:=by
 cases h with
 |slnil=>exact .inl ⟨rfl,rfl⟩
 |sl0 m n a=>exact .inr<|.sl0 true n a
 |sl m n es b e cap d u g o i f r p j=>exact .inr<|.sl true n es b e cap d u g o i f r p j
theorem mg {w:World}{X:Nat->Prop}{β:Nat->Option Nat}{x:FV}{vals:List Value}(h:LRep (TRep w X β) [.c<|.a<|.fz x] vals):∃v,vals=[v]/\FRep w X x v:=by
 obtain⟨v,e,rfl,b,d⟩:=h.cons_inv;obtain rfl:=d.nil_inv;refine⟨v,rfl,?_⟩;have b:WRep w X β (.a<|.fz x) v:=b;cases b with
 |a _ _ b=>cases b with
  |fz _ _ b=>exact b
theorem dt {w:World}{X:Nat->Prop}{β:Nat->Option Nat}{x:FV}{v:Value}(h:FRep w X x v):LRep (TRep w X β) [.c<|.a<|.fz x] [v]:=.cons (.a _ _<|.fz _ _ h) .nil
theorem AC.clone0 {P:Program}{f:FuncId}{n:Nat}(z:AC P f [.c<|.a<|.fz .N] [] (.c<|.a<|.fz .N) [])(J:AC P f [.c<|.a<|.fz<|.sl true n []] [] (.c<|.a<|.osl 0 n 0 0) [.arz n []]):
  AC P f [.c<|.a<|.fz<|.sl false n []] [] (.c<|.a<|.fz<|.sl false n []) []:=by
 refine⟨z.1,zb,λw vals β Y A u x y F=>?_⟩;obtain⟨v,rfl,hv⟩:=mg F;rcases aO hv with⟨e,_⟩|hv
 .subst e;exact(z.le (r':=.c<|.a<|.fz<|.sl false n []) (vL)<|le_c<|.N n).2.2 w [_] β Y A u x y<|dt .N
 .refine(J.2.2 w [v] β Y A u x y<|dt hv).mono λe w' ⟨m,p,E,G,K,g,O,M,N⟩=>?_;have d:(λb=>Y b\/Own (λo=>([]:List AObj).getD o .gone) (λ_=>none) b)=Y:=by funext b;refine propext ⟨λh=>h.elim id λ⟨o,h,_⟩=>by simp[isLive] at h,.inl⟩
  refine⟨m,λ_=>none,E,G,⟨λo b h=>by simp[isLive] at h,λo h=>by simp[isLive] at h,λo o' b h=>by simp[isLive] at h,λo b h=>by cases h⟩,?_,(λo b h=>by cases h),(λo h=>by simp at h),(λo b _ h=>by cases h)⟩;rw[d];have g:WRep w' _ p (.a<|.osl 0 n 0 0) m:=g;refine show WRep w' Y (λ_=>none) (.a<|.fz<|.sl false n []) m from ?_;cases g with
  |a _ _ g=>cases g with
   |oslN=>exact .a _ _<|.fz _ _<|.slnil n
   |osl o n L H r q cap sz t I T V U S=>obtain⟨C,D⟩:=K.here (o:=0) (b:=r) (by simp[isLive]) I;exact .a _ _<|.fz _ _<|.sl false n [] r q cap 0 (λ_ _=>.bool false) rfl (AT _) D C (λi e h=>by simp at h) (λi j e f h=>by simp at h) λi j e f h=>by simp at h
theorem AC.clone_le {P:Program}{f:FuncId}{n M:Nat}(g:AC P f [.c<|.a<|.fz .N] [] (.c<|.a<|.fz .N) [])(d:∀es:List<|List FV,es.length<=M->AC P f [.c<|.a<|.fz<|.sl true n es] [] (.c<|.a<|.osl 0 n 0 es.length) [.arz n es]):
  (∀es:List<|List FV,es≠[]->es.length<=M->AC P f [.c<|.a<|.fz<|.sl false n es] [] (.c<|.a<|.osl 0 n 0 es.length) [.arz n es])/\AC P f [.c<|.a<|.fz<|.sl false n []] [] (.c<|.a<|.fz<|.sl false n []) []:=by
 refine⟨λes b o=>⟨g.1,zb,λw vals β Y p h j m i=>?_⟩,(AC.clone0 g<|d []<|AT _)⟩;obtain⟨v,rfl,hv⟩:=mg i;rcases aO hv with⟨_,e⟩|hv
 .exact absurd e b
 .exact(d es o).2.2 w [v] β Y p h j m<|dt hv
structure Cel where
 t:Int
 a:Int
 b:Int
 c:Int
 d:Int
 deriving DecidableEq
structure Trl where
 o:Int
 x:Cel
 top:Int
structure Hp where
 C:List Cel
 T:List Trl
 M:Int
 L:Int
 N:List<|List UInt8
open Go.ChangeShapes Go.WideShapes Go.ChangeAt Go.RowKit
section
variable {H:Type} {enc:TypeId×Value->H} {P:Program} {w:World}
abbrev kA:Nat->Prop:=λ_=>False
def RdN (enc:TypeId×Value->H)(P:Program)(w:World)(b:DataW H->Nat)(fuel:Nat)(t:TypeId){α:Type}(F:α->List FV)(sz:α->Nat):Prop:=
 ∀cs x,DataW.trod enc P w 0 (λ_=>true) true fuel t cs=some x->∃a,LRep (FRep w kA) (F a) cs/\sz a<=b x.1
theorem sK {b:DataW H->Nat}{t:TypeId}{k:IntKind}(f:P.underlying t=some (.int k))(g:∀d,1<=b d)(e:Nat):RdN enc P w b e t (λn:Int=> [.int k n]) (λ_=>1):=by intro cs x h;obtain⟨n,rfl,rfl,_⟩:=DataW.trod_int f h;exact⟨n,.cons (.int k n) .nil,g _⟩
def Num (k:IntKind):={n:Int // (Lit.int k n).wf=true}
theorem rd_num {b:DataW H->Nat}{t:TypeId}{k:IntKind}(g:P.underlying t=some (.int k))(i:∀d,1<=b d)(e:Nat):RdN enc P w b e t (λn:Num k=> [.int k n.1]) (λ_=>1):=by intro cs x h;obtain⟨n,rfl,rfl,f⟩:=DataW.trod_int g h;exact⟨⟨n,f⟩,.cons (.int k n) .nil,i _⟩
theorem rd_str {b:DataW H->Nat}{t:TypeId}(f:P.underlying t=some .string)(e:∀l:List UInt8,l.length+1<=b (.lit<|.string l))(d:Nat):RdN enc P w b d t (λl:List UInt8=> [.str l]) (λl=>l.length+1):=by intro cs x h;obtain⟨s,rfl,rfl,_⟩:=DataW.trod_string f h;refine⟨s.data.toList,.cons ?_ .nil,e _⟩;have g:=FRep.str (w:=w) (X:=kA) s.data.toList;omega
def uR {α:Type}(sz:α->Nat):List α->Nat
 |[]=>0
 |a::l=>sz a+uR sz l
theorem Kp {α:Type}{sz:α->Nat}:∀ {l:List α} {a:α},a∈l->sz a<=uR sz l
 |x::l,a,h=>by
  rcases A1.1 h with rfl|h
  .simp[uR]
  .have:=Kp (sz:=sz) h;simp only[uR];omega
theorem sum_le {α:Type}{sz:α->Nat}{b:DataW H->Nat}{bs:List (DataW H)->Nat}(f:∀d l,bs (d::l)=b d+bs l):∀ {xs:List α} {es:List (DataW H×List MemPlace)},xs.length=es.length->(∀(i:Nat) (x:α) (y:DataW H×List MemPlace),xs[i]?=some x->es[i]?=some y->sz x<=b y.1)->uR sz xs<=bs (es.map (·.1))
 |[],_,_,_=>by simp[uR]
 |x::xs,[],h,_=>zd
 |x::xs,e::es,h,g=>by have m:=g 0 x e rfl rfl;have j:=sum_le (sz:=sz) f (xs:=xs) (es:=es) zd λi x y o p=>g (i+1) x y zd zd;simp only[uR,Aw,f];omega
theorem KV {a:Addr}{n:Nat}{cs:List Value}(h:w.cells? 0 a n=some cs):cs.length=n/\∀j u,cs[j]?=some u->w.cell? (a.add j)=some u:=by
 unfold World.cells? at h;refine⟨by have:=mapM_some_length h;exact zp this,λj u b=>?_⟩;have d:j<n:=by have e:=(tQ.1 b).1;have:=mapM_some_length h;simp at this;omega
 have:=mapM_some_get h j j zd;grind
theorem o8 {a:Addr}{u:Value}(h:w.cell? a=some u):a.spot=none:=by
 unfold World.cell? at h;split at h
 .simp_all
 .cases h
theorem cell_blk {a:Addr}{u:Value}(h:w.cell? a=some u):a.block<w.heap.size:=by apply Decidable.byContradiction;intro b;have:w.heap[a.block]?=none:=zd;simp[World.cell?,this] at h
theorem add_zero (a:Addr):a.add 0=a:=rfl
theorem bJ (b o k:Nat):(Addr.mk b o none).add k=⟨b,o+k,none⟩:=by unfold Addr.add;grind
theorem Jn {b:DataW H->Nat} {bs:List (DataW H)->Nat} (Y:∀d l,bs (d::l)=b d+bs l) (T:∀d,1<=b d) (hb:∀es sp,bs es+1<=b (.slice es sp)) {t e:TypeId} (ht:P.underlying t=some (.slice e)) {n:Nat} (hn:P.cellsOf e=n) (hn0:0<n)
  {α:Type} {F:α->List FV} {sz:α->Nat} (hF:∀a,(F a).length=n) {r:Nat} (ih:∀k,k<r->RdN enc P w b k e F sz):RdN enc P w b r t (λl:List α=> [.sl false n<|l.map F]) (λl=>uR sz l+1):=by
 intro cs x h;rcases DataW.trod_slice ht h with⟨rfl,rfl⟩|⟨a,p,cap,g,rest,k,rfl,rfl,rfl,_,hlc,_,G,D,z,_⟩
 .exact⟨[],.cons (.slnil n) .nil,by simpa[uR] using T _⟩
 .rw[hn] at D;have key:∀(i:Nat) (y:DataW H×List MemPlace),g[i]?=some y->∃x:α,(∃cs,w.cells? 0 (a.add<|i*n) n=some cs/\LRep (FRep w kA) (F x) cs)/\sz x<=b y.1:=by
   intro i y hy;have hi:i<p:=by rw[<-G];exact(tQ.1 hy).1
   have m:=D i hi;rw[hy] at m;obtain⟨cs,v,h3⟩:=E5.1 m;obtain⟨x,h4,K⟩:=ih k (Nat.lt_succ_self _) cs y h3;grind
  have I:∃xs:List α,xs.length=g.length/\∀(i:Nat) (x:α),xs[i]?=some x->(∃cs,w.cells? 0 (a.add<|i*n) n=some cs/\LRep (FRep w kA) (F x) cs)/\∀y,g[i]?=some y->sz x<=b y.1:=by
   have:∀(l:List<|DataW H×List MemPlace) (o:Nat),(∀i,l[i]?=g[o+i]?)->∃xs:List α,xs.length=l.length/\∀(i:Nat) (x:α),xs[i]?=some x->(∃cs,w.cells? 0 (a.add<|(o+i)*n) n=some cs/\LRep (FRep w kA) (F x) cs)/\∀y,l[i]?=some y->sz x<=b y.1:=by
    intro l
    induction l with
    |nil=>exact λo _=>⟨[],rfl,λi x h=>by simp at h⟩
    |cons y l ih=>intro o ho;obtain⟨x,hx1,hx2⟩:=key o y (by have:=ho 0;exact zp this.symm);obtain⟨xs,m,v⟩:=ih (o+1) (λi=>by have:=ho (i+1);rw[(za:o+1+i=o+(i+1))];exact zp this);refine⟨x::xs,by simp[m],λi x' hx'=>?_⟩;grind
   obtain⟨xs,m,v⟩:=this g 0 (λi=>zb);grind
  obtain⟨xs,W,V⟩:=I;have hsum:=sum_le (sz:=sz) (b:=b) Y W λi x y m v=>(V i x m).2 y v;have hb':=hb (g.map (·.1)) (rest.map (·.1));refine⟨xs,?_,show uR sz xs+1<=b (.slice (g.map (·.1)) (rest.map (·.1))) by omega⟩;by_cases hc0:cap=0
  .have Z:p=0:=za;subst hc0;subst Z;have:xs=[]:=List.length_eq_zero_iff.1 za;subst this;exact .cons (.sl0 false n a) .nil
  .have C:∃cs,w.cells? 0 a n=some cs:=by
    by_cases Z:p=0
    .have J:=(z rfl).2 0 za;have hr':rest[0]? ≠ none:=by grind
     rw[hn] at J;rw[Z,show(0+0)*n=0 by simp,add_zero] at J;cases X:w.cells? 0 a n with
     |none=>rw[X] at J;exact absurd J.symm hr'
     |some cs=>exact⟨cs,rfl⟩
    .have:0<xs.length:=za;obtain⟨⟨cs,m,_⟩,_⟩:=V 0 xs[0] (by simp[this]);rw[(zb:0*n=0),add_zero] at m;grind
   obtain⟨N,hq⟩:=C;obtain⟨hl0,S⟩:=KV hq;have u:=S 0 (N[0]' za) zb;rw[add_zero] at u;have hsp:a.spot=none:=o8 u;have M:a.block<w.heap.size:=cell_blk u;obtain⟨A,E,sp⟩:=a;subst hsp;refine .cons (.sl false n (xs.map F) A E cap p (λi j=>(w.cell? ⟨A,E+i*n+j,none⟩).getD<|.bool false) (by rw[Ax];omega) (by rw[Ax];omega) (λh=>h) M (λi e L=>?_) (λi j e f L O=>?_) λi j e f L O=>?_) .nil
   .grind
   all_goals
    rw[tV] at L;obtain⟨x,U,rfl⟩:=tH.1 L;obtain⟨⟨cs,m,v⟩,_⟩:=V i x U;obtain⟨h3,h4⟩:=KV m;have hj:j<cs.length:=by rw[<-v.1];exact(tQ.1 O).1
    have K:=h4 j cs[j] zb;rw[bJ,bJ] at K
   .rw[K];rfl
   .rw[K];exact v.2 j f cs[j] O zb
theorem FT_sum:∀l:List Tm,Tm.bks l=uR Tm.bk l
 |[]=>rfl
 |t::l=>by rw[Tm.bks,uR,FT_sum l]
structure TmTy (P:Program)(T:TypeId)(f0 f1 f2 f3:Field):Prop where
 str:P.underlying T=some (.struct #[f0,f1,f2,f3])
 u0:P.underlying f0.type=some (.int .i64)
 u1:P.underlying f1.type=some .string
 u2:P.underlying f2.type=some (.int .i64)
 u3:P.underlying f3.type=some (.slice T)
 o0:f0.offset=0
 o1:f1.offset=1
 o2:f2.offset=2
 o3:f3.offset=3
 c0:P.cellsOf f0.type=1
 c1:P.cellsOf f1.type=1
 c2:P.cellsOf f2.type=1
 c3:P.cellsOf f3.type=1
 cT:P.cellsOf T=4
structure Bulk (b:DataW H->Nat)(bs:List (DataW H)->Nat):Prop where
 nil:bs []=0
 cons:∀d l,bs (d::l)=b d+bs l
 one:∀d,1<=b d
 slice:∀es sp,bs es+1<=b (.slice es sp)
 str:∀l:List UInt8,l.length+1<=b (.lit<|.string l)
 agg:∀l,bs l+1<=b (.agg l)
theorem LRep.one {α:Type}{R:α->Value->Prop}{c:α}{u:Value}(h:LRep R [c] [u]):R c u:=h.2 0 c u rfl rfl
theorem rd_term {b:DataW H->Nat}{J:List (DataW H)->Nat}(f:Bulk b J){T:TypeId}{f0 E r z:Field}(d:TmTy P T f0 E r z):∀e,RdN enc P w b e T FT Tm.bk:=by
 intro e
 induction e using Nat.strongRecOn with
 |_ e ih=>
  intro cs x h;obtain⟨xs,n,rfl,rfl,D,j,g⟩:=DataW.trod_struct d.str h;rw[d.cT] at D
  match cs,D with
  |[U,V,S,O],_=>
  match xs,j with
  |[x0,o,u,i],_=>
  have A:=g 0 f0 rfl;have C:=g 1 E rfl;have y:=g 2 r rfl;have p:=g 3 z rfl;rw[d.o0,d.c0] at A;rw[d.o1,d.c1] at C;rw[d.o2,d.c2] at y;rw[d.o3,d.c3] at p;obtain⟨k,r0,_⟩:=sK (b:=b) d.u0 f.one n _ _ A;obtain⟨s,M,G⟩:=rd_str (b:=b) d.u1 f.str n _ _ C;have G:s.length+1<=b o.1:=G;obtain⟨m,I,_⟩:=sK (b:=b) d.u2 f.one n _ _ y;obtain⟨l,K,v⟩:=Jn (F:=FT) (sz:=Tm.bk) f.cons f.one f.slice d.u3 d.cT za ym (λk N=>ih k za) _ _ p;have v:uR Tm.bk l+1<=b i.1:=v;refine⟨.mk k s m l,?_,?_⟩
  .rw[FT,yf];exact .cons (LRep.one r0)<|.cons (LRep.one M)<|.cons (LRep.one I)<|.cons (LRep.one K) .nil
  .have:=f.one x0.1;simp only[Tm.bk,FT_sum];show _<=b (.agg [x0.1,o.1,u.1,i.1]);have L:=f.agg [x0.1,o.1,u.1,i.1];simp only[f.cons,f.nil] at L;omega
theorem none_own {Y:Nat->Prop}(d:∀b,¬Y b){Hs:List AObj}:(λb=>Y b\/Own (λo=>Hs.getD o .gone) (λ_=>none) b)=kA:=by
 funext b;refine propext ⟨λh=>?_,λh=>h.elim⟩;rcases h with h|⟨o,_,h⟩
 .exact(d b h).elim
 .cases h
abbrev β0:Nat->Option Nat:=λ_=>none
theorem mS {b:DataW H->Nat} {p:List (DataW H)->Nat} (A:Bulk b p) {T:TypeId} {f0 D m y:Field} (j:TmTy P T f0 D m y) {r:Reach} {f:Nat} {v:Value} {d:DataW H} {E:List MemPlace}
  (z:Value.okWide P w r f T v) (hd:DataW.Trod enc P w 0 (λ_=>true) true T v d E):∃t:Tm,TRep w kA β0 (aT t) v/\t.bk<=b d:=by
 obtain⟨cs,rfl,_⟩:=okWide_struct j.str z;obtain⟨e,o⟩:=hd;obtain⟨t,i,C⟩:=rd_term A j e _ _ o;refine⟨t,⟨cs.toList,zb,?_⟩,C⟩;rw[Zv] at i;have i:LRep (FRep w kA) [.int .i64 t.k,.str t.s,.int .i64 t.n,.sl false 4<|FTs t.l] cs.toList:=i;exact i.map (g:=λx=>WV.a<|.fz x) λc u _ h=>.a _ _<|.fz _ _ h
theorem open_num {t:TypeId} {k:IntKind} (f:P.underlying t=some (.int k)) {r:Reach} {b:Nat} {v:Value} {d:DataW H} {g:List MemPlace}
  (h:Value.okWide P w r b t v) (hd:DataW.Trod enc P w 0 (λ_=>true) true t v d g):∃n:Int,TRep w kA β0 (.c<|.a<|.fz<|.int k n) v/\(Lit.int k n).wf=true:=by
 obtain⟨n,rfl,_,_,e⟩:=open_int f h hd;exact⟨n,.a _ _<|.fz _ _<|.int k n,e⟩
theorem sG {w':World}{foot:Nat->Prop}(g:Good w foot w')(f:∀b,¬foot b)(d:MemPlace->Prop):w.keptBut w' d:=by refine⟨g.os,g.output,λi e=>?_⟩;rw[g.blk i e<|f i];exact(World.keptBut_refl w d).2.2 i e
theorem mw {w':World}{foot:Nat->Prop}(g:Good w foot w')(e:∀b,¬foot b){p:MemPlace}(d:p.block<w.heap.size):w.sameAt w' p:=by
 cases p with
 |cell b o=>exact World.cell?_of_block (a:=⟨b,o,none⟩)<|g.blk b d<|e b
 |map b=>exact g.blk b d<|e b
theorem qk (j:laidOutB P=true){w':World}{m:Nat->Bool}:∀ {f:List TypeId} {vs:List Value} {o:List (DataW H)} {p:List MemPlace},DataW.TrodAll enc P w 0 (λ_=>true) true f vs o p->(∀t∈f,P.readableRec t=true/\t<P.types.size)->(∀x∈p,w.sameAt w' x)->(∀x∈p,m x.block=true)->DataW.TrodAll enc P w' 0 m true f vs o p
 |[],_,_,_,h,_,_,_=>by obtain⟨rfl,rfl,rfl⟩:=trodAll_nil h;exact trodAll_mk0
 |t::f,_,_,_,h,g,i,e=>by
  obtain⟨v,y,d,C,p,q,rfl,rfl,rfl,⟨n,z⟩,D⟩:=trodAll_cons h;have r:=(g t tM).1
  exact⟨p,q,⟨n,DataW.trod_stays (kids_book j r) (book_sized r) (λh=>by cases h) ⟨(g t tM).2,book_self t⟩ z (λx b=>i x<|Eo _ b) λx b=>e x<|Eo _ b⟩,
   qk j D (λu A=>g u<|tK _ A) (λx b=>i x<|EX _ b) (λx b=>e x<|EX _ b),rfl⟩
theorem iy (hl:laidOutB P=true) {f:Func} {s:ChangeSpec} {h y e D:Bool} {w':World} {args:Array Value} {z gs:List (DataW H)} {d:List MemPlace} {foot:Nat->Prop} {S:TypeId}
  (T:DataW.Whole enc P f.params.toList s.vars h w args.toList z gs d) (K:s.vars=[]) (Y:∀v:List<|DataW H,v.length=z.length->s.fn H v={results:=[.lit<|.bool true],args:=v})
  (X:∀t∈f.params.toList,P.readableRec t=true/\t<P.types.size) (V:f.resultTypes= #[S]) (I:P.underlying S=some .bool) (g:Good w foot w') (J:∀b,¬foot b):
  s.post enc P f h y e D w args (.bool true) w':=by
 have E:=T.lt;obtain⟨p,q,N,U,O,M,W⟩:=T;rw[K] at U;obtain⟨rfl,rfl⟩:=trodVars_none U;rw[tY] at O;subst O;have F:∀x∈d,(λb=>decide (b<w.heap.size)) x.block=true:=λx u=>by simpa using E x u
 have C:=Y (z++[]) zb;have j:∀o:Nat->Bool,(∀x∈d,o x.block=true)->DataW.TrodAll enc P w' 0 o true f.params.toList args.toList (s.fn H<|z++[]).args d:=λo L=>by rw[C,tY];exact qk hl N X (λx u=>mw g J<|E x u) L
 have r:∀(b:Nat) (o:Nat->Bool) (hd:Bool),DataW.TrodAll enc P w' b o hd f.resultTypes.toList ((Value.bool true).resultList f.resultTypes.size) (s.fn H<|z++[]).results []:=λb o hd=>by rw[C,V];exact trodAll_mk1 ⟨1,by simp[DataW.trod,Value.cells,I]⟩
 have i:∀o:Nat->Bool,DataW.TrodVars enc P w' o s.vars (s.fn H<|z++[]).vars []:=λo=>by rw[C,K];rfl
 refine⟨z,[],d,[],d,[],⟨d,[],N,by rw[K];rfl,zb,M,W⟩,r _ _ _,j _ F,i _,World.keptBut_mono (λx u=>⟨u,?_⟩) (sG g J (· ∈d)),λ_=>?_⟩
 .exact zp u
 .refine⟨ok_one V rfl (okWide_bool_mk I _),_,_,([]++d)++[],⟨[]++d,[],trodAll_append (j _ λ_ _=>rfl)<|r _ _ _,i _,rfl,?_,?_⟩,?_⟩
  .intro b m G;have G:MemPlace.cell b m∈d:=zp G;have I:=E _ G;have:w'.frozen? ⟨b,m,none⟩=w.frozen? ⟨b,m,none⟩:=by unfold World.frozen?;rw[g.blk b I<|J b]
   rw[this];exact M b m G
  .intro Z;simpa using W Z
  .intro x u _;exact zp u
theorem law_true {f:FuncId}{args:List TV}(g:Gl P w kA)(h:AC P f args [] (cb true) []){vals:List Value}(p:LRep (TRep w kA β0) args vals):
  Calls P f vals.toArray w λe w'=>e=.returned (.bool true)/\∃foot,(∀b,¬foot b)/\Good w foot w':=by
 have u:(λb=>(λ_:Nat=>False) b\/Own (λo=>([]:List AObj).getD o .gone) β0 b)=kA:=none_own λ_ h=>h;refine(h.2.2 w vals β0 (λ_=>False) (λo b h=>by cases h) (λb h=>h.elim) (g.sub λb ⟨o,i,_⟩=>by simp[isLive] at i) ⟨λo b h _=>by simp[isLive] at h,λo h=>by simp[isLive] at h,λo o' b h=>by simp[isLive] at h,λo b h=>by cases h⟩<|by rw[u];exact p).mono λe w' ⟨v,m,j,r,x,d,_⟩=>?_;subst j;cases d with
 |a _ _ d=>
  cases d with
  |fz _ _ d=>cases d;exact⟨rfl,_,λb ⟨o,i,_⟩=>by simp[isLive] at i,r⟩
end
end Go.AM
namespace Go.AM
open Go.ChangeShapes Go.WideShapes Go.ChangeAt Go.RowKit
section
variable {H:Type} {enc:TypeId×Value->H} {P:Program} {w:World}
theorem JO {n:Int}(h:(Lit.int .i64 n).wf=true): -9223372036854775808<=n/\n<=9223372036854775807:=by simp only[Lit.wf,IntKind.min,IntKind.max,IntKind.signed,IntKind.bits,tF,Ak,tZ] at h;omega
abbrev TmI:={t:Tm // okI t}
theorem gG:∀l:List TmI,Tm.bks (l.map (·.1))=uR (λt:TmI=>t.1.bk) l
 |[]=>rfl
 |t::l=>by rw[Aw,Tm.bks,uR,gG l]
theorem okIs_val (l:List TmI):okIs (l.map (·.1)):=nu λt b=>by obtain⟨u,_,rfl⟩:=Ay.1 b;exact u.2
theorem p8 {b:DataW H->Nat}{M:List (DataW H)->Nat}(g:Bulk b M){T:TypeId}{f0 I C E:Field}(d:TmTy P T f0 I C E):∀f,RdN enc P w b f T (λt:TmI=>FT t.1) (λt=>t.1.bk):=by
 intro f
 induction f using Nat.strongRecOn with
 |_ f ih=>
  intro cs x h;obtain⟨xs,n,rfl,rfl,A,o,i⟩:=DataW.trod_struct d.str h;rw[d.cT] at A
  match cs,A with
  |[V,O,S,W],_=>
  match xs,o with
  |[x0,j,G,p],_=>
  have u:=i 0 f0 rfl;have r:=i 1 I rfl;have y:=i 2 C rfl;have z:=i 3 E rfl;rw[d.o0,d.c0] at u;rw[d.o1,d.c1] at r;rw[d.o2,d.c2] at y;rw[d.o3,d.c3] at z;obtain⟨k,r0,_⟩:=sK (b:=b) d.u0 g.one n _ _ u;obtain⟨s,K,v⟩:=rd_str (b:=b) d.u1 g.str n _ _ r;have v:s.length+1<=b j.1:=v;obtain⟨m,J,_⟩:=rd_num (b:=b) d.u2 g.one n _ _ y;obtain⟨l,N,D⟩:=Jn (F:=λt:TmI=>FT t.1) (sz:=λt:TmI=>t.1.bk) g.cons g.one g.slice d.u3 d.cT za (λt=>ym t.1) (λk U=>ih k za) _ _ z;have D:uR (λt:TmI=>t.1.bk) l+1<=b p.1:=D;refine⟨⟨.mk k s m.1 (l.map (·.1)),JO m.2,okIs_val l⟩,?_,?_⟩
  .have e:FTs (l.map (·.1))=l.map λt:TmI=>FT t.1:=by rw[yf,EU];rfl
   show LRep (FRep w kA) (FT (.mk k s m.1 (l.map (·.1)))) _;rw[FT,e];exact .cons (LRep.one r0)<|.cons (LRep.one K)<|.cons (LRep.one J)<|.cons (LRep.one N) .nil
  .have:=g.one x0.1;show Tm.bk (.mk k s m.1 (l.map (·.1)))<=b (.agg [x0.1,j.1,G.1,p.1]);simp only[Tm.bk,gG];have L:=g.agg [x0.1,j.1,G.1,p.1];simp only[g.cons,g.nil] at L;omega
end
end Go.AM
namespace Go.AM
open Go.ChangeShapes Go.WideShapes Go.ChangeAt Go.RowKit
section
variable {H:Type} {enc:TypeId×Value->H} {P:Program} {w:World}
theorem sg {b:DataW H->Nat} {y:List (DataW H)->Nat} (g:Bulk b y) {T S:TypeId} {n:Nat} {α:Type} {F:α->List FV} {sz:α->Nat} (o:∀a,(F a).length=n) (x:P.cellsOf T=n) (hn0:0<n) (C:∀a,1<=sz a)
  (e:∀k,RdN enc P w b k T F sz) (i:P.underlying S=some (.slice T)) {r:Reach} {f:Nat} {v:Value} {d:DataW H} {m:List MemPlace}
  (p:Value.okWide P w r f S v) (hd:DataW.Trod enc P w 0 (λ_=>true) true S v d m):∃l:List α,TRep w kA β0 (.c<|.a<|.fz<|.sl false n<|l.map F) v/\uR sz l+1<=b d:=by
 obtain⟨a,z,cap,rfl⟩:=okWide_slice i p;obtain⟨h,j⟩:=hd;obtain⟨l,e,u⟩:=Jn g.cons g.one g.slice i x hn0 o (λk _=>e k) _ _ j;have e:LRep (FRep w kA) [.sl false n<|l.map F] [_]:=e;exact⟨l,.a _ _<|.fz _ _ e.one,u⟩
end
end Go.AM
namespace Go.AM
open Go.ChangeShapes Go.WideShapes Go.ChangeAt Go.RowKit
mutual
inductive Cd where
 |mk (nm:List UInt8) (ar fr vs sl:Int) (ins:List In1)
inductive In1 where
 |mk (k a:Int) (t:Tm) (l:List Tm) (c:List Cd)
end
namespace Cd
def nm:Cd->List UInt8|.mk x _ _ _ _ _=>x
def ar:Cd->Int|.mk _ x _ _ _ _=>x
def fr:Cd->Int|.mk _ _ x _ _ _=>x
def vs:Cd->Int|.mk _ _ _ x _ _=>x
def sl:Cd->Int|.mk _ _ _ _ x _=>x
def ins:Cd->List In1|.mk _ _ _ _ _ x=>x
end Cd
namespace In1
def k:In1->Int|.mk x _ _ _ _=>x
def a:In1->Int|.mk _ x _ _ _=>x
def t:In1->Tm|.mk _ _ x _ _=>x
def l:In1->List Tm|.mk _ _ _ x _=>x
def c:In1->List Cd|.mk _ _ _ _ x=>x
end In1
instance:Inhabited Cd:=⟨.mk [] 0 0 0 0 []⟩
instance:Inhabited In1:=⟨.mk 0 0 default [] []⟩
mutual
def FC:Cd->List FV
 |.mk nm ar fr vs sl ins=> [.str nm,.int .i64 ar,.int .i64 fr,.int .i64 vs,.int .i64 sl,.sl false 8<|FIs ins]
def FI:In1->List FV
 |.mk k a t l c=> [.int .i64 k,.int .i64 a,.int .i64 t.k,.str t.s,.int .i64 t.n,.sl false 4<|FTs t.l,.sl false 4<|FTs l,.sl false 6<|FCs c]
def FIs:List In1->List (List FV)
 |[]=> []
 |x::l=>FI x::FIs l
def FCs:List Cd->List (List FV)
 |[]=> []
 |x::l=>FC x::FCs l
end
theorem uH:∀l:List In1,FIs l=l.map FI
 |[]=>by rw[FIs];rfl
 |x::l=>by rw[FIs,uH l];rfl
theorem jo:∀l:List Cd,FCs l=l.map FC
 |[]=>by rw[FCs];rfl
 |x::l=>by rw[FCs,jo l];rfl
theorem si (x:In1):(FI x).length=8:=by cases x;simp[FI]
theorem zR (l:List In1):(FIs l).length=l.length:=by rw[uH,Ax]
theorem yB (l:List Cd):(FCs l).length=l.length:=by rw[jo,Ax]
mutual
def Cd.sz:Cd->Nat
 |.mk nm _ _ _ _ ins=>1+nm.length+In1.szs ins
def In1.sz1:In1->Nat
 |.mk _ _ t l c=>1+t.bk+Tm.bks l+Cd.szs c
def In1.szs:List In1->Nat
 |[]=>0
 |x::l=>In1.sz1 x+In1.szs l
def Cd.szs:List Cd->Nat
 |[]=>0
 |x::l=>Cd.sz x+Cd.szs l
end
theorem Cd.szs_mem:∀ {l:List Cd} {c:Cd},c∈l->c.sz<=Cd.szs l
 |x::l,c,h=>by
  rcases A1.1 h with rfl|h
  .simp only[Cd.szs];omega
  .have:=Cd.szs_mem h;simp only[Cd.szs];omega
theorem In1.szs_mem:∀ {l:List In1} {c:In1},c∈l->c.sz1<=In1.szs l
 |x::l,c,h=>by
  rcases A1.1 h with rfl|h
  .simp only[In1.szs];omega
  .have:=In1.szs_mem h;simp only[In1.szs];omega
theorem Cd.ind {P:Cd->Prop}(h:∀c,(∀x∈c.ins,∀d∈x.c,P d)->P c):∀c,P c:=by
 have key:∀n c,Cd.sz c<=n->P c:=by
  intro n
  induction n with
  |zero=>intro c b;cases c;simp only[Cd.sz] at b;omega
  |succ n ih=>intro c b;refine h c λx e d hd=>ih d ?_;have g:=In1.szs_mem e;have f:=Cd.szs_mem hd;cases c;cases x;simp only[Cd.sz,Cd.ins,In1.sz1,In1.c] at*;omega
 exact λc=>key _ c<|tJ _
abbrev aC (c:Cd):TV:=.agg [.a<|.fz<|.str c.nm,.a<|.fz<|.int .i64 c.ar,.a<|.fz<|.int .i64 c.fr,.a<|.fz<|.int .i64 c.vs,.a<|.fz<|.int .i64 c.sl,.a<|.fz<|.sl false 8<|FIs c.ins]
abbrev aCs (l:List Cd):TV:=.c<|.a<|.fz<|.sl false 6<|FCs l
theorem iG (c:Cd):FC c=[.str c.nm,.int .i64 c.ar,.int .i64 c.fr,.int .i64 c.vs,.int .i64 c.sl,.sl false 8<|FIs c.ins]:=by cases c;rw[FC];rfl
theorem FI_eta (x:In1):FI x=[.int .i64 x.k,.int .i64 x.a,.int .i64 x.t.k,.str x.t.s,.int .i64 x.t.n,.sl false 4<|FTs x.t.l,.sl false 4<|FTs x.l,.sl false 6<|FCs x.c]:=by cases x;rw[FI];rfl
section
variable {H:Type} {enc:TypeId×Value->H} {P:Program} {w:World}
structure Key where
 any:Bool
 k:Int
 nm:List UInt8
 n:Int
 ar:Int
 deriving DecidableEq
abbrev aK (k:Key):TV:=.agg [.a<|.fz<|.bool k.any,.a<|.fz<|.int .i64 k.k,.a<|.fz<|.str k.nm,.a<|.fz<|.int .i64 k.n,.a<|.fz<|.int .i64 k.ar]
end
end Go.AM
namespace Go.AM
abbrev FR (r:Option Nat):Fence:={Fence.wide with round:=r}
def vD (ops:Array Oper):Bool:=ops.all λo=>match o.op with|.defer _=>false|_=>true
theorem gw {b:Array Oper}(h:vD b=true):∀(i:Nat) (o:Oper),b[i]?=some o->∀c,o.op ≠ .defer c:=λi o d c e=>by have:=Az.1 h o<|EJ d;rw[e] at this;cases this
theorem W1 {b:Array Oper}(h:vD b=true):∀o∈b.toList,∀c,o.op ≠ .defer c:=λo d=>by obtain⟨i,e⟩:=E6 d;exact gw h i o (zp e)
theorem calls_in {r:Option Nat}{n:Nat}{P:Program}{f:FuncId}{args:Array Value}{w:World}{R:Ending->World->Prop}(h:Calls P f args w R):CallsIn (FR r) n P f args w R:=by have:=(callsIn_wide (n:=n)).2 h;exact this
theorem rows_in {r:Option Nat}{n:Nat}{P:Program}{b:String}{args:Array Value}{w:World}{R:Value->World->Prop}(h:Rows P b args w R):RowsIn (FR r) n P b args w R:=
 λc cs _=>let ⟨v,w',hr,s⟩:=h c cs;⟨v,w',hr,stepsIn_wide.2 s⟩
theorem op_in {r:Option Nat}{n:Nat}{P:Program}{o:Oper}{a:Act}{w:World}{K:Act->World->Prop}{Q:Exit->Act->World->Prop}(b:∀c,o.op ≠ .defer c)(h:o.wp P a w K Q):o.wpIn (FR r) n P a w K Q:=by
 refine⟨λ_ _=>trivial,?_⟩;rw[Oper.semAt_eq _ _ _ b];unfold Oper.wp at h;generalize (execOp a.eval o).run P w=e at h ⊢;cases e with
 |ok nx w'=>cases nx with
  |value v=>exact h
  |skip=>exact h
  |defer d=>exact h
  |enter f args=>exact⟨λhd=>by simp[FR,Fence.wide] at hd,calls_in h⟩
  |row row args=>exact⟨λhd=>by simp[FR,Fence.wide] at hd,rows_in h⟩
  |_=>exact h.elim
 |halt g w'=>cases g with
  |panic v=>exact h
  |_=>exact h.elim
theorem dI {r:Option Nat}{n:Nat}{P:Program}{b:Array Oper}{Q:Exit->Act->World->Prop}(e:¬LetsOut Q):∀ {l:List Oper} {a:Act} {w:World},(∀o∈l,∀c,o.op ≠ .defer c)->wpList P b Q l a w->wpListIn (FR r) n P b Q l a w
 |[],_,_,_,h=>h
 |o::rest,a,w,hd,h=>by
  have ih:∀a w,wpList P b Q rest a w->wpListIn (FR r) n P b Q rest a w:=λa w h=>dI e (λo f=>hd o<|tK _ f) h;unfold wpList at h;unfold wpListIn;split at h
  .rename_i d;rw[tG d];rcases h with h|⟨_,h⟩
   .exact op_in (hd o tM)<|Oper.wp_mono ih h
   .exact absurd h e
  next d=>rw[tD d];exact⟨λ_ _=>trivial,ih _ _ h⟩
theorem bm {r:Option Nat}{n:Nat}{P:Program}{e:Array Oper}{Q:Exit->Act->World->Prop}(f:¬LetsOut Q)(hd:∀(i:Nat) (o:Oper),e[i]?=some o->∀c,o.op ≠ .defer c):∀ {fuel:Nat} {b:Array Bool} {a:Act} {w:World},
  wpAny P .any e Q fuel b a w->wpAnyIn (FR r) n P .any e Q fuel b a w
 |0,_,_,_,h=>h
 |fuel+1,b,a,w,h=>by
  refine⟨h.1,λi m=>?_⟩;have d:=h.2 i m;unfold wpOp at d;unfold wpOpIn;cases g:e[i]? with
  |none=>rw[g] at d;exact bm f hd d
  |some o=>
   rw[g] at d;simp only at d ⊢;split at d
   .rename_i j;rw[tG j];rcases d with d|⟨_,d⟩
    .exact op_in (hd i o g)<|Oper.wp_mono (λa w h=>bm f hd h) d
    .exact absurd d f
   next j=>rw[tD j];exact⟨λ_ _=>trivial,bm f hd d⟩
section
variable {P:Program} {w0:World} {foot:Nat->Prop} {Y:Nat->Prop} {pin:Nat->Option (Option Nat)}
theorem JH {r:Option Nat} {n id:Nat} {f:Array Oper} {O:Bool} {s:St} {β:Nat->Option Nat} {a:Act} {w:World} {Q:Exit->Act->World->Prop} {R:St->Prop} (X:P.follows .mixedOrders=true) (I:vD f=true) (M:¬LetsOut Q) (H:dstB f a.tmps.size=true)
  (hl:lex P f s.nx f.toList 0 s.env s.heap [] λe h tr=>(O=true->JN f tr=true)/\R ⟨e,h,s.nx+32*f.size⟩)
  (u:RelF P w0 foot Y pin (look s.env) (hook s.heap) β a w) (F:∀k,Occ pin β k->k<s.nx)
  (hQ:∀N v w' m,R N->v.tmps.size=a.tmps.size->RelF P w0 foot Y pin (look N.env) (hook N.heap) m v w'->(∀k,Occ pin m k->k<N.nx)->Q .normal v w'):(Code.region id f O).wpIn (FR r) n P Q a w:=by
 have y:∀(j:Nat) (q:Oper) (d:Nat),f[j]?=some q->q.dst=some d->d<a.tmps.size:=by intro j q d M hd;have:=Az.1 H q<|EJ M;rw[hd] at this;exact zp this
 obtain⟨z,e',h',W,K,he,V,G,E,T⟩:=qq _ _ _ _ _ hl;rw[tY] at G;have D:∀v w' m,v.tmps.size=a.tmps.size->RelF P w0 foot Y pin (endE (look s.env) z) (endH (hook s.heap) z) m v w'->(∀k,Occ pin m k->k<s.nx+32*f.size)->Q .normal v w':=by intro v w' m J C S;refine hQ _ v w' m T J ?_ S;show RelF P w0 foot Y pin (look e') (hook h') m v w';rw[he,V];exact C
 cases O with
 |false=>refine wpIn_region_list<|dI M (W1 I)<|jU y f.toList 0 _ _ z β a w (λo ho=>?_) K rfl u (zp F) λv w' m J _ C S=>D v w' m J C<|zp S;obtain⟨j,hj⟩:=E6 ho;exact⟨j,zp hj⟩
 |true=>
  refine wpIn_region_any X<|bm M (gw I) ?_;have U:RelF P w0 foot Y pin (look s.env) (hook s.heap) β a {w with drawn:=w.drawn+1}:=by have g:Goes w {w with drawn:=w.drawn+1} (XO Y (hook s.heap) β) (XO Y (hook s.heap) β) β β:=⟨tJ _,λb F _=>⟨rfl,F⟩,λ_ _=>rfl,λo b F=>⟨F,u.objs.lt o b F⟩⟩;exact⟨u.good.drew,λi=>(u.env i).goes g,⟨λo b J C=>(u.objs.rep o b J C).goes g rfl,u.objs.has,u.objs.inj,u.objs.lt⟩,u.own,u.defers,u.ylt,u.pins,u.gl⟩
  have p:∀i,(Array.replicate f.size false).getD i false=false:=by
   intro i;by_cases L:i<f.size
   .simp[L]
   .simp[L]
  refine W9 (w0:=w0) (foot:=foot) (Y:=Y) K G (E rfl) y D f.size _ β a _ zb ?_ (λj o e _ C=>by rw[p] at C;cases C) rfl (kP U (λt=>?_) λx=>?_) λk Z=>.inl<|F k Z
  .have:((List.range f.size).filter λi=> !(Array.replicate f.size false).getD i true)=List.range f.size:=by apply S5.2;intro i L;simp only[List.mem_range] at L;simp[L]
   rw[this];simp
  .have key:∀n,eD (look s.env) (λj=>z.getD j ⟨none,.any,[],[]⟩) (λj=>(Array.replicate f.size false).getD j false) n=look s.env:=by
    intro n;induction n with
    |zero=>rfl
    |succ n ih=>simp only[eD];rw[tD<|by rw[p];simp];exact ih
   rw[key]
  .have key:∀n,hD (hook s.heap) (λj=>z.getD j ⟨none,.any,[],[]⟩) (λj=>(Array.replicate f.size false).getD j false) n=hook s.heap:=by
    intro n;induction n with
    |zero=>rfl
    |succ n ih=>simp only[hD];rw[tD<|by rw[p];simp];exact ih
   rw[key]
end
theorem WT {P:Program} {w0:World} {foot Y:Nat->Prop} {f:Nat->Option (Option Nat)} {r:Option Nat} {n id:Nat} {b:Array Oper} {s:St} {β:Nat->Option Nat} {a:Act} {w:World} {Q:Exit->Act->World->Prop} {R:St->Prop} (x:vD b=true) (y:¬LetsOut Q) (p:dstB b a.tmps.size=true)
  (L:lex P b s.nx b.toList 0 s.env s.heap [] λe h _=>R ⟨e,h,s.nx+32*b.size⟩)
  (S:RelF P w0 foot Y f (look s.env) (hook s.heap) β a w) (N:∀k,Occ f β k->k<s.nx)
  (J:∀u m w' g,R u->m.tmps.size=a.tmps.size->m.defers=a.defers->RelF P w0 foot Y f (look u.env) (hook u.heap) g m w'->(∀k,Occ f g k->k<u.nx)->Q .normal m w'):(Code.region id b false).wpIn (FR r) n P Q a w:=by
 have i:∀(j:Nat) (q:Oper) (d:Nat),b[j]?=some q->q.dst=some d->d<a.tmps.size:=by intro j q d y hd;have:=Az.1 p q<|EJ y;rw[hd] at this;exact zp this
 obtain⟨C,G,h',F,z,I,E,_,v⟩:=qq _ _ _ _ _ L;refine wpIn_region_list<|dI y (W1 x)<|jU i b.toList 0 _ _ C β a w (λo M=>?_) z rfl S (zp N) λm w' g K hd D H=>?_
 .obtain⟨j,O⟩:=E6 M;exact⟨j,zp O⟩
 .refine J _ m w' g v K hd ?_ (zp H);show RelF P w0 foot Y f (look G) (hook h') g m w';rw[I,E];exact D
def AsgS (P:Program)(n:Nat)(A:Code)(s:St)(R:St->Prop):Prop:=
 ∀(w0:World) (foot Y:Nat->Prop) (pin:Nat->Option (Option Nat)) (r:Option Nat) (n':Nat) (β:Nat->Option Nat) (a:Act) (w:World) (Q:Exit->Act->World->Prop),¬LetsOut Q->a.tmps.size=n->
  RelF P w0 foot Y pin (look s.env) (hook s.heap) β a w->(∀k,Occ pin β k->k<s.nx)->(∀s' a' w' β',R s'->a'.tmps.size=n->a'.defers=a.defers->RelF P w0 foot Y pin (look s'.env) (hook s'.heap) β' a' w'->(∀k,Occ pin β' k->k<s'.nx)->Q .normal a' w')->A.wpIn (FR r) n' P Q a w
theorem AsgS.region {P:Program} {n id:Nat} {b:Array Oper} {s:St} {R:St->Prop} (f:vD b=true) (d:dstB b n=true)
  (m:lex P b s.nx b.toList 0 s.env s.heap [] λe h _=>R ⟨e,h,s.nx+32*b.size⟩):AsgS P n (.region id b false) s R:=by
 intro w0 foot Y g r v β a w Q j p u o i;subst p;exact WT f j d m u o i
theorem AsgS.seq {P:Program}{n:Nat}{A A':Code}{s:St}{R R':St->Prop}(y:AsgS P n A s R)(i:∀d,R d->AsgS P n A' d R'):AsgS P n (.seq A A') s R':=by intro w0 foot Y b r g β a w Q f G K D p;refine wpIn_seq<|y w0 foot Y b r g β a w _ (λ⟨_,_,h⟩=>f ⟨_,_,h⟩) G K D λd H w' e u E I j x=>?_;exact i d u w0 foot Y b r g e H w' Q f E j x λC z L β2 v o J F m=>p C z L β2 v o (J.trans I) F m
theorem AsgS.mono {P:Program}{n:Nat}{A:Code}{s:St}{R R':St->Prop}(i:AsgS P n A s R)(f:∀b,R b->R' b):AsgS P n A s R':=
 λw0 foot Y d r m β a w Q j p v o g=>i w0 foot Y d r m β a w Q j p v o λb u w' e h=>g b u w' e<|f b h
section
variable {P:Program} {n m:Nat} {c:Code} {Q:AExit->St->Prop} {s:St}
def AwpR (P:Program)(n m:Nat)(c:Code)(Q:AExit->St->Prop)(s:St):Prop:=
 ∀(l:Nat) (w0:World) (foot Y:Nat->Prop) (pin:Nat->Option (Option Nat)) (β:Nat->Option Nat) (a:Act) (w:World),(∀o b,pin o=some b->o<m)->a.tmps.size=n->RelF P w0 foot Y pin (look s.env) (hook s.heap) β a w->(∀k,Occ pin β k->k<s.nx)->
  c.wpIn (FR<|some l) 0 P (Lift P w0 foot Y pin n Q) a w
theorem AwpR.mono {Q':AExit->St->Prop}(h:AwpR P n m c Q s)(i:∀e s,Q e s->Q' e s):AwpR P n m c Q' s:=
 λl w0 foot Y b β a w g d f j=>wpIn_mono (h l w0 foot Y b β a w g d f j)<|Lift.mono i
theorem AwpR.skip (h:Q .normal s):AwpR P n m .skip Q s:=λ_ _ _ _ _ β _ _ _ b d e=>wpIn_skip ⟨s,β,h,b,d,e⟩
theorem AwpR.ret (h:Q .ret s):AwpR P n m .ret Q s:=λ_ _ _ _ _ β _ _ _ b d e=>wpIn_ret ⟨s,β,h,b,d,e⟩
theorem AwpR.exit {i:Nat}(h:Q (.exit i) s):AwpR P n m (.exit i) Q s:=λ_ _ _ _ _ β _ _ _ b d e=>wpIn_exit ⟨s,β,h,b,d,e⟩
theorem AwpR.seq {d b:Code}(h:AwpR P n m d (XL (AwpR P n m b Q) Q) s):AwpR P n m (.seq d b) Q s:=λl w0 foot Y f β a w o r A y=>by
 refine wpIn_seq<|wpIn_mono (h l w0 foot Y f β a w o r A y) λe z w' g=>?_;cases e with
 |normal=>obtain⟨C,j,x,p,u,v⟩:=g;exact x l w0 foot Y f j z w' o p u v
 |exit i=>exact g
 |ret=>exact g
 |_=>exact g.elim
theorem AwpR.cond {x:Operand}{d b:Code}{t:Bool}(o:ev s.env x=.c (.a<|.fz<|.bool t))(r:t=true->AwpR P n m d Q s)(p:t=false->AwpR P n m b Q s):AwpR P n m (.cond x d b) Q s:=λl w0 foot Y e β a w h g f j=>by
 have i:=f.eval x;rw[<-m4,o] at i;refine wpIn_cond (t:=t) i.bool_inv ?_;cases t with
 |true=>exact r rfl l w0 foot Y e β a w h g f j
 |false=>exact p rfl l w0 foot Y e β a w h g f j
theorem AwpR.block {i:Nat}(h:AwpR P n m c (yi i Q) s):AwpR P n m (.block i c) Q s:=λl w0 foot Y g β a w v u y x=>by
 refine wpIn_block<|wpIn_mono (h l w0 foot Y g β a w v u y x) λe z w' f=>?_;cases e with
 |normal=>exact f
 |exit j=>
  obtain⟨r,b,d,p⟩:=f;simp only[yi] at d;simp only[Exit.inBlock];split at d;next o=>rw[tG o];exact⟨r,b,d,p⟩
  next o=>rw[tD o];exact⟨r,b,d,p⟩
 |ret=>exact f
 |_=>exact f.elim
theorem lift_out {w0:World}{foot Y:Nat->Prop}{b:Nat->Option (Option Nat)}:¬LetsOut (Lift P w0 foot Y b n Q):=λ⟨_,_,h⟩=>h
theorem AwpR.region {i:Nat} {b:Array Oper} {d:Bool} (v:P.follows .mixedOrders=true) (hd:dstB b n=true) (g:vD b=true)
  (z:lex P b s.nx b.toList 0 s.env s.heap [] λe h x=>(d=true->JN b x=true)/\Q .normal ⟨e,h,s.nx+32*b.size⟩):AwpR P n m (.region i b d) Q s:=λl w0 foot Y p β a w _ o D C=>by
 subst o;exact JH (R:=Q .normal) v g lift_out hd z D C λA E w' f y j r u=>⟨A,f,y,j,r,u⟩
theorem AwpR.look {b e:Env}{h:AHeap}{nx:Nat}(g:look b=look e)(j:AwpR P n m c Q ⟨b,h,nx⟩):AwpR P n m c Q ⟨e,h,nx⟩:=λl w0 foot Y d β a w o f i p=>
 j l w0 foot Y d β a w o f (by show RelF _ _ _ _ _ (Go.AM.look b) _ _ _ _;rw[g];exact i) p
theorem AwpR.uneq (h:AwpR P n m c (eqQ Q) s):AwpR P n m c Q s:=λl w0 foot Y b β a w p o C y=>by
 refine wpIn_mono (h l w0 foot Y b β a w p o C y) λe g w' d=>?_;have key:∀x,At P w0 foot Y b n (eqQ Q x) g w'->At P w0 foot Y b n (Q x) g w':=by rintro x ⟨D,f,⟨z,v,j⟩,r,u,A⟩;exact⟨_,f,j,r,by show RelF _ _ _ _ _ (Go.AM.look z) _ _ _ _;rw[v];exact u,A⟩
 cases e with
 |normal=>exact key _ d
 |exit i=>exact key _ d
 |ret=>exact key _ d
 |_=>exact d.elim
end
def wB:Code->Bool
 |.skip=>true
 |.ret=>true
 |.exit _=>true
 |.seq a b=>wB a&&wB b
 |.cond _ a b=>wB a&&wB b
 |.block _ c=> !isLoop c&&wB c
 |.region _ ops _=>vD ops
 |_=>false
section
variable {P:Program} {sh:FuncId->List Sh} {n m:Nat}
theorem regR_inv (v:P.follows .mixedOrders=true){i:Nat}{f:Array Oper}{d:Bool}{K Q:AExit->St->Prop}{s:St}(j:vD f=true)(r:∀e s,K e s->Q e s)(h:regV P sh n f d K s):AwpR P n m (.region i f d) Q s:=by
 unfold regV at h;split at h
 .rename_i hd;refine AwpR.uneq<|AwpR.region v hd j ?_;have o:=wO rfl h;refine kV ?_ o;rintro y o w ⟨p,u,b⟩;split at b;next x=>refine⟨λg=>?_,p,u,r _ _ b⟩;subst g;exact zp x
  .exact b.elim
 .exact h.elim
theorem vv (o:P.follows .mixedOrders=true){G:Nat->St->Prop}:∀ {c:Code} {K Q:AExit->St->Prop} {s:St},wB c=true->(∀e s,K e s->Q e s)->runV P sh n m [] G c K s->AwpR P n m c Q s
 |.skip,K,Q,s,_,g,h=>AwpR.skip<|g _ _ h
 |.ret,K,Q,s,_,g,h=>AwpR.ret<|g _ _ h
 |.exit i,K,Q,s,_,g,h=>AwpR.exit<|g _ _ h
 |.seq a b,K,Q,s,f,g,h=>by
  simp only[wB,tF] at f;refine AwpR.seq<|vv o f.1 (λe s r=>?_) h;cases e with
  |normal=>exact vv o f.2 g r
  |exit i=>exact g _ s r
  |ret=>exact g _ s r
 |.cond x a b,K,Q,s,f,g,h=>by
  simp only[wB,tF] at f;unfold runV condV at h;split at h
  .rename_i t p;split at h
   .rename_i w;have j:∀y,t=y->look ((w,bV y)::s.env)=look s.env:=λy v=>X4 (by simp only[ev] at p;rw[p,v];rfl);cases t with
    |true=>exact AwpR.cond p (λ_=>AwpR.look (j _ rfl)<|vv o f.1 g h) (λe=>by cases e)
    |false=>exact AwpR.cond p (λe=>by cases e) λ_=>AwpR.look (j _ rfl)<|vv o f.2 g h
   .cases t with
    |true=>exact AwpR.cond p (λ_=>vv o f.1 g h) (λe=>by cases e)
    |false=>exact AwpR.cond p (λe=>by cases e) λ_=>vv o f.2 g h
  .exact h.elim
 |.block i c,K,Q,s,f,g,h=>by simp only[wB,tF,AA] at f;unfold runV at h;rw[f.1] at h;exact AwpR.block<|vv o f.2 (xG g) h
 |.region i u d,K,Q,s,f,g,h=>by unfold runV at h;simp only[y4,En] at h;exact regR_inv o f g h
 |.loop _,_,_,_,f,_,_=>by cases f
 |.rangeFunc ..,_,_,_,f,_,_=>by cases f
 |.scope _,_,_,_,f,_,_=>by cases f
 |.label _,_,_,_,f,_,_=>by cases f
 |.goto _,_,_,_,f,_,_=>by cases f
 |.refuse _,_,_,_,f,_,_=>by cases f
end
theorem AV.ren_id (x:AV):x.ren (λo=>o)=x:=by cases x<;>rfl
theorem jx {α:Type}{f:α->α}(h:∀x,f x=x)(l:List α):l.map f=l:=by rw[show f=id from funext h,Sc]
theorem WV.ren_id (x:WV):x.ren (λo=>o)=x:=by
 cases x with
 |a x=>simp only[WV.ren,AV.ren_id]
 |fn f a b=>simp only[WV.ren];rw[jx (λp:Bool×List AV=>by rw[jx AV.ren_id]) a,jx (λp:Bool×List AV=>by rw[jx AV.ren_id]) b]
theorem TV.ren_id (x:TV):x.ren (λo=>o)=x:=by
 cases x with
 |any=>rfl
 |c x=>simp only[TV.ren,WV.ren_id]
 |agg cs=>simp only[TV.ren];rw[jx WV.ren_id]
 |tup vs=>simp only[TV.ren];rw[jx (λp:Bool×List WV=>by rw[jx WV.ren_id]) vs]
theorem TRep.cut {w:World}{X:Nat->Prop}{β:Nat->Option Nat}{m:Nat}{x:TV}{v:Value}(h:TRep w X β x v)(d:x.lt m=true):TRep w X (cutβ (λo=>o) m β) x v:=by refine TRep.unmap (σ:=λo=>o) (m:=m) (β2:=β) (X2:=X) (λ_ _ h=>h) (λo b f e=>by simp only[cutβ,f,tZ];exact e) d ?_;rw[TV.ren_id];exact h
section
variable {P:Program} {w0:World} {foot:Nat->Prop} {Y:Nat->Prop} {pin:Nat->Option (Option Nat)} {e:Nat->TV} {h h':Nat->AObj} {β β':Nat->Option Nat} {a:Act} {W W':World} {m0:Nat}
theorem RelF.under (d:RelF P w0 foot Y pin e h β a W) (y:∀i,(e i).lt m0=true) (g:Good W (Own h β) W') (z:Objs h' β' Y W') (j:∀o b,isLive (h' o)->β' o=some b->Own h β b\/W.heap.size<=b)
  (A:∀o,o<m0->β' o=β o) (u:∀o b,pin o=some b->o<m0):RelF P w0 foot Y pin e h' β' a W':=by
 have old:∀b,Own h β b->foot b\/w0.heap.size<=b:=λb ⟨o,p,m⟩=>d.own o b p m;have gs:Goes W W' (XO Y h β) (XO Y h' β') (cutβ (λo=>o) m0 β) β':=by
  refine⟨g.size,λb r f=>⟨g.blk b f λv=>r<|.inr v,λw=>?_⟩,g.shp,λo b f=>?_⟩
  .rcases w with C|⟨o,p,m⟩
   .grind
   .grind
  .simp only[cutβ] at f;split at f;next v=>exact⟨zd,d.objs.lt o b f⟩
   .cases f
 refine⟨d.good.trans g λb f v=>?_,λi=>((d.env i).cut<|y i).goes gs,z,λo b p m=>?_,d.defers.good d.objs g,d.ylt,λo x r=>?_,d.gl⟩
 .grind
 .rcases j o b p m with h3|h3
  .grind
  .exact .inr<|AX d.good.size h3
 .rw[A o<|u o x r];exact d.pins o x r
end
abbrev bk0 (S I:TypeId):Array Oper:= #[
 ⟨some 4,.load S<|.tmp 1,S, "iter.go:28", #[],none⟩,
 ⟨some 5,.call ⟨.builtin .len, #[.tmp 4], #[S]⟩,I, "iter.go:28", #[⟨0,.data⟩],none⟩,
 ⟨some 6,.binOp .sub I (.tmp 5) (.const<|.int .i64 1) I,I, "iter.go:28", #[⟨1,.data⟩],none⟩,
 ⟨some 3,.assign<|.tmp 6,I, "iter.go:28", #[⟨2,.data⟩,⟨0,.phase⟩,⟨1,.phase⟩,⟨2,.phase⟩],none⟩]
abbrev bk1 (I B:TypeId):Array Oper:= #[
 ⟨some 7,.move<|.tmp 3,I, "iter.go:28", #[],none⟩,
 ⟨some 8,.binOp .geq I (.tmp 7) (.const<|.int .i64 0) I,B, "iter.go:28", #[⟨0,.data⟩],none⟩]
abbrev bk3a (S E Y I:TypeId):List Oper:=[
 ⟨some 11,.move<|.tmp 0,Y, "iter.go:29", #[],none⟩,
 ⟨some 12,.move<|.tmp 3,I, "iter.go:29", #[],none⟩,
 ⟨some 13,.load S<|.tmp 1,S, "iter.go:29", #[],none⟩,
 ⟨some 14,.move<|.tmp 3,I, "iter.go:29", #[],none⟩,
 ⟨some 15,.indexAddr S (.tmp 13)<|.tmp 14,0, "iter.go:29", #[⟨2,.data⟩,⟨3,.data⟩],none⟩,
 ⟨some 16,.load E<|.tmp 15,E, "iter.go:29", #[⟨4,.data⟩],none⟩]
abbrev bk3b (E I B:TypeId):List Oper:=[
 ⟨some 17,.call ⟨.value<|.tmp 11, #[.tmp 12,.tmp 16], #[I,E]⟩,B, "iter.go:29", #[⟨0,.data⟩,⟨1,.data⟩,⟨5,.data⟩],none⟩,
 ⟨some 18,.unOp .not B<|.tmp 17,B, "iter.go:29", #[⟨6,.data⟩],none⟩]
abbrev bk2 (I:TypeId):Array Oper:= #[
 ⟨some 9,.move<|.tmp 3,I, "iter.go:28", #[],none⟩,
 ⟨some 10,.binOp .sub I (.tmp 9) (.const<|.int .i64 1) I,I, "iter.go:28", #[⟨0,.data⟩],none⟩,
 ⟨some 3,.assign<|.tmp 10,I, "iter.go:28", #[⟨1,.data⟩,⟨0,.phase⟩,⟨1,.phase⟩],none⟩]
abbrev bkRound (S E Y I B:TypeId):Code:=
 .seq (.seq (.region 1 (bk1 I B) false)<|.cond (.tmp 8) .skip<|.exit 0)
  (.seq (.block 1<|.seq (.region 3 (bk3a S E Y I++bk3b E I B).toArray false)<|.cond (.tmp 18) .ret .skip)<|.region 2 (bk2 I) false)
def bkBody (S E Y I B:TypeId):Code:=.seq (.region 0 (bk0 S I) false)<|.block 0<|.loop<|bkRound S E Y I B
def IsBk (P:Program)(bk:FuncId)(S E:TypeId):Prop:=xF P bk=true/\∃(fn:Func) (Y I B:TypeId),P.funcs[bk]?=some fn/\fn.body=some (bkBody S E Y I B)/\fn.ntmps=19/\fn.results= #[]
section
variable {P:Program} {n:Nat} {ops:Array Oper} {Q:Exit->Act->World->Prop} {l:List Oper} {a:Act} {w:World}
theorem yx {d:Option Nat}{e:Op}{t:TypeId}{p:String}{f:Array Edge}{v:Value}(b:∀c,e ≠ .defer c)(h:(execOp a.eval ⟨d,e,t,p,f,none⟩).run P w=.ok (.value v) w)(k:wpListIn Fence.wide n P ops Q l (a.put d v) w):wpListIn Fence.wide n P ops Q (⟨d,e,t,p,f,none⟩::l) a w:=by unfold wpListIn;refine⟨λ_ _=>trivial,?_⟩;rw[Oper.semAt_eq _ _ _ b,h];exact k
theorem Y1 {d i:Nat}{v:Value}:(a.put (some d) v).tmps.getD i undef=if i=d/\d<a.tmps.size then v else a.tmps.getD i undef:=by simp only[Act.put,Au,EG];grind
theorem size_put {d:Option Nat}{v:Value}:(a.put d v).tmps.size=a.tmps.size:=by cases d<;>simp[Act.put]
theorem lK {d:Option Nat}{v:Value}:(a.put d v).defers=a.defers:=by cases d<;>rfl
theorem yd {t:Nat}:a.eval (.tmp t)=a.tmps.getD t undef:=rfl
theorem mb {I:TypeId}{r:Int}(x y:Operand):(do eqGuard .sub I x y (.int .i64 r) (.int .i64 1);binOp .sub I (.int .i64 r) (.int .i64 1):Sem Value).run P w=.ok (.int .i64<|IntKind.i64.wrap<|r-1) w:=by rfl
theorem run_geq {I:TypeId}{r:Int}(x y:Operand):(do eqGuard .geq I x y (.int .i64 r) (.int .i64 0);binOp .geq I (.int .i64 r) (.int .i64 0):Sem Value).run P w=.ok (.bool<|r>=0) w:=by rfl
end
structure Itf (a:Act)(yv bp:Value):Prop where
 size:a.tmps.size=19
 defers:a.defers=[]
 t0:a.tmps.getD 0 undef=yv
 t1:a.tmps.getD 1 undef=bp
theorem Itf.put {a:Act}{b e:Value}(h:Itf a b e){d:Nat}(hd:2<=d)(v:Value):Itf (a.put (some d) v) b e:=
 ⟨by rw[size_put];exact h.size,by rw[lK];exact h.defers,by rw[Y1,tD za];exact h.t0,by rw[Y1,tD za];exact h.t1⟩
theorem Jt {P:Program}{w:World}{s:Sem Value}{v:Value}(h:s.run P w=.ok v w):(do pure (.value (<-s)):Sem Next).run P w=.ok (.value v) w:=by simp_all
section
variable {P:Program} {a:Act} {w:World} {d:Option Nat} {t I S:TypeId} {p:String} {af:Array Edge} {u v x:Value} {i j:Nat}
theorem xload (h:(Instr.loadAt S<|a.eval<|.tmp i).run P w=.ok v w):(execOp a.eval ⟨d,.load S<|.tmp i,t,p,af,none⟩).run P w=.ok (.value v) w:=Jt h
theorem xlen (h:(Builtin.len_ #[S] t #[a.eval<|.tmp i]).run P w=.ok v w):(execOp a.eval ⟨d,.call ⟨.builtin .len, #[.tmp i], #[S]⟩,t,p,af,none⟩).run P w=.ok (.value v) w:=by
 have e:(execOp a.eval ⟨d,.call ⟨.builtin .len, #[.tmp i], #[S]⟩,t,p,af,none⟩).run P w=(do pure (.value (<-Builtin.len_ #[S] t #[a.eval<|.tmp i])):Sem Next).run P w:=by simp only[execOp,resolve,invoke,Ao,Av,A2,builtin,List.map_toArray,Aw,S7]
 simp_all
theorem rU:(execOp a.eval ⟨d,.move<|.tmp i,t,p,af,none⟩).run P w=.ok (.value<|a.eval<|.tmp i) w:=rfl
theorem lX:(execOp a.eval ⟨d,.assign<|.tmp i,t,p,af,none⟩).run P w=.ok (.value<|a.eval<|.tmp i) w:=rfl
theorem xbin {b:BinOp}{c:Value}(h:(do eqGuard b I (.tmp i) (.const c) (a.eval<|.tmp i) c;binOp b I (a.eval<|.tmp i) c:Sem Value).run P w=.ok v w):(execOp a.eval ⟨d,.binOp b I (.tmp i) (.const c) I,t,p,af,none⟩).run P w=.ok (.value v) w:=by refine Eq.trans ?_<|Jt h;rfl
theorem xnot {b:Bool}(h:a.eval (.tmp i)=.bool b):(execOp a.eval ⟨d,.unOp .not I<|.tmp i,t,p,af,none⟩).run P w=.ok (.value<|.bool (!b)) w:=by
 have e:(Op.unary .not<|a.eval<|.tmp i).run P w=.ok (.bool (!b)) w:=by rw[h];rfl
 exact Jt e
theorem xindex (h:(Instr.indexAt S (a.eval<|.tmp i)<|a.eval<|.tmp j).run P w=.ok v w):(execOp a.eval ⟨d,.indexAddr S (.tmp i)<|.tmp j,t,p,af,none⟩).run P w=.ok (.value v) w:=Jt h
end
section
variable {P:Program} {n:Nat} {Q:Exit->Act->World->Prop} {a:Act} {w:World} {S E Yt I B:TypeId} {yv bp sv ev uv:Value}
theorem Itf.same {a:Act}(h:Itf a yv bp){d:Nat}(hd:d<19)(v:Value):(a.put (some d) v).tmps.getD d undef=v:=by rw[Y1,tG ⟨rfl,by rw[h.size];exact hd⟩]
theorem zQ {a:Act}{d i:Nat}(hd:i≠d)(v:Value):(a.put (some d) v).tmps.getD i undef=a.tmps.getD i undef:=by rw[Y1,tD λh=>hd h.1]
theorem bk0_in {N:Nat} (g:Itf a yv bp) (r:(Instr.loadAt S bp).run P w=.ok sv w) (m:(Builtin.len_ #[S] I #[sv]).run P w=.ok (.int .i64 N) w)
  (k:∀e,Itf e yv bp->e.tmps.getD 3 undef=.int .i64 (IntKind.i64.wrap<|(N:Int)-1)->Q .normal e w):(Code.region 0 (bk0 S I) false).wpIn Fence.wide n P Q a w:=by
 refine wpIn_region_list ?_;refine yx (v:=sv) zb (xload<|by rw[yd,g.t1];exact r) ?_;have b:=g.put (d:=4) za sv;have j:=g.same (d:=4) za sv;generalize a.put (some 4) sv=o at b j ⊢;refine yx (v:=.int .i64 N) zb (xlen<|by rw[yd,j];exact m) ?_;have f:=b.put (d:=5) za<|.int .i64 N;have i:=b.same (d:=5) za<|.int .i64 N;generalize o.put (some 5) (.int .i64 N)=u at f i ⊢;refine yx (v:=.int .i64<|IntKind.i64.wrap<|(N:Int)-1) zb (xbin<|by rw[yd,i];exact mb _ _) ?_;have h:=f.put (d:=6) za<|.int .i64<|IntKind.i64.wrap<|(N:Int)-1;have p:=f.same (d:=6) za<|.int .i64<|IntKind.i64.wrap<|(N:Int)-1;refine yx zb lX ?_;rw[yd,p];exact k _ (h.put za _)<|h.same za _
theorem bk1_in {r:Int} (g:Itf a yv bp) (e:a.tmps.getD 3 undef=.int .i64 r)
  (k:∀b,Itf b yv bp->b.tmps.getD 3 undef=.int .i64 r->b.tmps.getD 8 undef=.bool (r>=0)->Q .normal b w):(Code.region 1 (bk1 I B) false).wpIn Fence.wide n P Q a w:=by
 refine wpIn_region_list ?_;refine yx zb rU ?_;rw[yd,e];have f:=g.put (d:=7) za<|.int .i64 r;have h:=g.same (d:=7) za<|.int .i64 r;have i:(a.put (some 7)<|.int .i64 r).tmps.getD 3 undef=.int .i64 r:=(zQ za _).trans e;refine yx (v:=.bool<|r>=0) zb (xbin<|by rw[yd,h];exact run_geq _ _) ?_;exact k _ (f.put za _) ((zQ za _).trans i)<|f.same za _
theorem bk2_in {r:Int} (i:Itf a yv bp) (j:a.tmps.getD 3 undef=.int .i64 r)
  (k:∀f,Itf f yv bp->f.tmps.getD 3 undef=.int .i64 (IntKind.i64.wrap<|r-1)->Q .normal f w):(Code.region 2 (bk2 I) false).wpIn Fence.wide n P Q a w:=by
 refine wpIn_region_list ?_;refine yx zb rU ?_;rw[yd,j];have b:=i.put (d:=9) za<|.int .i64 r;have g:=i.same (d:=9) za<|.int .i64 r;generalize a.put (some 9) (.int .i64 r)=m at b g ⊢;refine yx (v:=.int .i64<|IntKind.i64.wrap<|r-1) zb (xbin<|by rw[yd,g];exact mb _ _) ?_;have h:=b.put (d:=10) za<|.int .i64<|IntKind.i64.wrap<|r-1;have e:=b.same (d:=10) za<|.int .i64<|IntKind.i64.wrap<|r-1;refine yx zb lX ?_;rw[yd,e];exact k _ (h.put za _)<|h.same za _
theorem bk3_in {r:Int} {l:Nat} {lp:Loop} {R:World->Prop} (U:yv=.func (.yield l) #[] #[]) (T:Itf a yv bp) (m:a.tmps.getD 3 undef=.int .i64 r)
  (hl:(Instr.loadAt S bp).run P w=.ok sv w) (hx:(Instr.indexAt S sv<|.int .i64 r).run P w=.ok ev w) (he:(Instr.loadAt E ev).run P w=.ok uv w) (M:w.heap[l]?=some (.loop lp)) (Y:lp.params.size=2)
  (Z:RoundIn Fence.wide (n-1) P l lp.fn ((lp.params.zip #[.int .i64 r,uv]).foldl (λtmps (t,a)=>tmps.setIfInBounds t a) lp.tmps) lp.assign lp.body w λe w'=>e=.returned (.bool true)/\R w')
  (k:∀D w',Itf D yv bp->D.tmps.getD 3 undef=.int .i64 r->D.tmps.getD 18 undef=.bool false->R w'->Q .normal D w'):(Code.region 3 (bk3a S E Yt I++bk3b E I B).toArray false).wpIn Fence.wide n P Q a w:=by
 refine wpIn_region_list ?_;refine yx zb rU ?_;rw[yd,T.t0];have N:=T.put (d:=11) za yv;have b:=T.same (d:=11) za yv;have g:(a.put (some 11) yv).tmps.getD 3 undef=.int .i64 r:=(zQ za _).trans m;generalize a.put (some 11) yv=J at N b g ⊢;refine yx zb rU ?_;rw[yd,g];have G:=N.put (d:=12) za<|.int .i64 r;have f:=N.same (d:=12) za<|.int .i64 r
 replace b:=(zQ (a:=J) (d:=12) (i:=11) za<|.int .i64 r).trans b
 replace g:=(zQ (a:=J) (d:=12) (i:=3) za<|.int .i64 r).trans g;generalize J.put (some 12) (.int .i64 r)=F at G f b g ⊢;refine yx (v:=sv) zb (xload<|by rw[yd,G.t1];exact hl) ?_;have m:=G.put (d:=13) za sv;have j:=G.same (d:=13) za sv
 replace b:=(zQ (a:=F) (d:=13) (i:=11) za sv).trans b
 replace f:=(zQ (a:=F) (d:=13) (i:=12) za sv).trans f
 replace g:=(zQ (a:=F) (d:=13) (i:=3) za sv).trans g;generalize F.put (some 13) sv=x at m j f b g ⊢;refine yx zb rU ?_;rw[yd,g];have L:=m.put (d:=14) za<|.int .i64 r;have z:=m.same (d:=14) za<|.int .i64 r
 replace b:=(zQ (a:=x) (d:=14) (i:=11) za<|.int .i64 r).trans b
 replace f:=(zQ (a:=x) (d:=14) (i:=12) za<|.int .i64 r).trans f
 replace j:=(zQ (a:=x) (d:=14) (i:=13) za<|.int .i64 r).trans j
 replace g:=(zQ (a:=x) (d:=14) (i:=3) za<|.int .i64 r).trans g;generalize x.put (some 14) (.int .i64 r)=H at L z j f b g ⊢;refine yx (v:=ev) zb (xindex<|by rw[yd,yd,j,z];exact hx) ?_;have K:=L.put (d:=15) za ev;have u:=L.same (d:=15) za ev
 replace b:=(zQ (a:=H) (d:=15) (i:=11) za ev).trans b
 replace f:=(zQ (a:=H) (d:=15) (i:=12) za ev).trans f
 replace g:=(zQ (a:=H) (d:=15) (i:=3) za ev).trans g;generalize H.put (some 15) ev=C at K u f b g ⊢;refine yx (v:=uv) zb (xload<|by rw[yd,u];exact he) ?_;have O:=K.put (d:=16) za uv;have o:=K.same (d:=16) za uv
 replace b:=(zQ (a:=C) (d:=16) (i:=11) za uv).trans b
 replace f:=(zQ (a:=C) (d:=16) (i:=12) za uv).trans f
 replace g:=(zQ (a:=C) (d:=16) (i:=3) za uv).trans g;generalize C.put (some 16) uv=y at O o f b g ⊢;show wpListIn Fence.wide n P _ Q (bk3b E I B) y w;unfold bk3b wpListIn;refine⟨λ_ _=>trivial,?_⟩;rw[Oper.semAt_eq _ _ _ zb];have p:(execOp y.eval ⟨some 17,.call ⟨.value<|.tmp 11, #[.tmp 12,.tmp 16], #[I,E]⟩,B, "iter.go:29", #[⟨0,.data⟩,⟨1,.data⟩,⟨5,.data⟩],none⟩).run P w=.ok (.round l lp.fn ((lp.params.zip #[.int .i64 r,uv]).foldl (λtmps (t,a)=>tmps.setIfInBounds t a) lp.tmps) lp.assign lp.body) w:=by
  have X:y.eval (.tmp 11)=.func (.yield l) #[] #[]:=by rw[yd,b,U]
  have hy:=run_yield (P:=P) (w:=w) (l:=l) (r:=lp) (args:= #[.int .i64 r,uv]) M zd;simp only[execOp,resolve,Deferred.ofValue,X,invoke,callFunc,Ao,Av,A2,List.map_toArray,Aw,S7,yd,f,o];grind
 rw[p];refine⟨λh=>(by simp[Fence.wide] at h),Z.mono ?_⟩;rintro e w' ⟨rfl,hw⟩;have W:=O.put (d:=17) za<|.bool true;have V:=O.same (d:=17) za<|.bool true
 replace g:=(zQ (a:=y) (d:=17) (i:=3) za<|.bool true).trans g;show wpListIn _ _ _ _ _ _ (y.put (some 17)<|.bool true) w';refine yx (v:=.bool (!true)) zb (xnot<|by rw[yd,V]) ?_;exact k _ _ (W.put za _) ((zQ za _).trans g) (W.same za _) hw
end
theorem iR {w0 w:World}{f:List Deferred}{l:Nat}{r:Loop}{o:Obj}(m:Marks w0 w f)(j:w.heap[l]?=some (.loop r)):Marks w0 (w.putObj l o) f:=by obtain⟨Ds,g,i,d⟩:=m;refine⟨Ds,g,i,λD hD=>⟨(d D hD).1,?_⟩⟩;have h:=(d D hD).2;have b:D≠l:=λe=>zd;rw[World.putObj_heap_other b];exact h
section
variable {P:Program} {w0:World} {foot:Nat->Prop} {Y:Nat->Prop} {pin pin':Nat->Option (Option Nat)} {e:Nat->TV} {h:Nat->AObj} {β:Nat->Option Nat} {a:Act} {w:World} {l:Nat} {r:Loop}
theorem RelF.turn (d:RelF P w0 foot Y pin e h β a w)(b:w.heap[l]?=some (.loop r))(f:w0.heap.size<=l)(o:Obj):RelF P w0 foot Y pin e h β a (w.putObj l o):=
 RelF.calm (Calm.put (Xf b) f) d (iR d.defers b)
theorem gl_put (f:Gl P w foot)(i:w.heap[l]?=some (.loop r))(o:Obj):Gl P (w.putObj l o) foot:=λk e=>by
 obtain⟨d,g,h⟩:=f k e;refine⟨?_,g,by simp_all⟩;unfold Lib.TabIs World.var? at*;rw[e] at d ⊢;simp only[Ev] at d ⊢;by_cases b:k=l
 .grind
 .rw[World.putObj_heap_other b];exact d
theorem RelF.rebase (d:RelF P w0 foot Y pin e h β a w)(hd:a.defers=[])(p:∀o x,pin' o=some x->β o=x)(f:w.heap[l]?=some (.loop r))(o:Obj):
  RelF P (w.putObj l o) (Own h β) Y pin' e h β a (w.putObj l o):=by
 have c:Calm {w with heap:= #[]} w (w.putObj l o):=Calm.put (Xf f)<|AT _;exact⟨⟨tJ _,λ_ _ _=>rfl,λ_ _=>rfl,rfl,rfl,rfl⟩,λi=>TRep.calm c<|d.env i,Objs.calm c d.objs,λo b j g=>.inl ⟨o,j,g⟩,hd▸Marks.nil _ _,λb m=>by rw[World.putObj_size];exact d.y b m,p,gl_put d.now f o⟩
theorem RelF.notOwn (f:RelF P w0 foot Y pin e h β a w)(d:w.heap[l]?=some (.loop r)):¬Own h β l:=λg=>by rcases f.objs.own_heap g with⟨i,t,b⟩|⟨ms,j,b⟩<;>rw[d] at b<;>cases b
end
structure Out (P:Program)(w0:World)(foot Y:Nat->Prop)(pin:Nat->Option (Option Nat))(env:Env)(m0:Nat)(a:Act)(β0:Nat->Option Nat)(l:Nat)(lp:Loop)(Hx:AHeap)(nxx:Nat)(w:World):Prop where
 ex:∃β,RelF P w0 foot Y pin (look env) (hook Hx) β a w/\(∀k,Occ pin β k->k<nxx)/\∀o,o<m0->β o=β0 o
 lp:w.heap[l]?=some (.loop lp)
theorem sj {env:Env}{m0:Nat}(h:∀p∈env,p.2.lt m0=true)(i:Nat):(look env i).lt m0=true:=by
 rcases Jy (l:=env) (i:=i) with h1|h1
 .rw[h1];rfl
 .grind
section
variable {P:Program} {w0:World} {foot Y:Nat->Prop} {pin:Nat->Option (Option Nat)} {env:Env} {m0 n:Nat} {a:Act} {β0:Nat->Option Nat} {l:Nat} {lp:Loop}
variable {α:Type} {H:α->AHeap} {nx:α->Nat} {Next:α->Prop}
theorem mT {x:α} {w:World} {k m F:Nat} {A body:Code} {v:TV} {L:Value}
  {β:Nat->Option Nat} (M:RelF P w0 foot Y pin (look env) (hook<|H x) β a w) (hb:∀k,Occ pin β k->k<nx x) (hβ:∀o,o<m0->β o=β0 o) (I:w.heap[l]?=some (.loop lp)) (S:w0.heap.size<=l) (G:∀p∈env,p.2.lt m0=true) (J:∀o b,pin o=some b->o<m0) (hm0:m0<=nx x) (hmx:∀x,Next x->m0<=nx x) (hn:a.tmps.size=n)
  (htm:lp.tmps=a.tmps) (hpa:lp.params= #[m,F]) (has:lp.assign=A) (hbo:lp.body=body) (hst:lp.state=.ready) (hpe:lp.pending=none)
  (hp1:m<n) (hp2:F<n)
  (hvr:TRep w (XO Y (hook<|H x) β) β v L)
  (u:AsgS P n A ⟨(F,v)::(m,iV k)::env,H x,nx x⟩ λs=>AwpR P n m0 body (λex s'=>ex=.normal/\∃r,Next r/\Sle m0 s' ⟨[],H r,nx r⟩) s):
  RoundIn Fence.wide 0 P l lp.fn ((lp.params.zip #[.int .i64 k,L]).foldl (λtmps (t,a)=>tmps.setIfInBounds t a) lp.tmps) lp.assign lp.body w (λe w'=>e=.returned (.bool true)/\∃r,Next r/\Out P w0 foot Y pin env m0 a β0 l lp (H r) (nx r) w'):=by
 have hlw:l<w.heap.size:=(AW.1 I).1;let pin':Nat->Option (Option Nat):=λo=>if o<m0 then some (β o) else none
 have j:∀o b,pin' o=some b->o<m0:=λo b h=>by grind
 have z:∀ {O:Nat->Option Nat},(∀o x,pin' o=some x->O o=x)->∀o,o<m0->O o=β o:=λhp o ho=>hp o (β o) zd;refine roundIn_of_wpIn trivial ?_;rw[has,hbo,hpa,htm];have etm:((#[m,F]:Array Nat).zip #[.int .i64 k,L]).foldl (λtmps (t,a)=>tmps.setIfInBounds t a) a.tmps=(a.tmps.setIfInBounds m<|.int .i64 k).setIfInBounds F L:=zb;rw[etm];have X:((a.tmps.setIfInBounds m<|.int .i64 k).setIfInBounds F L).size=n:=zd;have hR1:RelF P w (Own (hook<|H x) β) Y pin' (look<|(F,v)::(m,iV k)::env) (hook<|H x) β {tmps:=(a.tmps.setIfInBounds m<|.int .i64 k).setIfInBounds F L,defers:=[]} w:=by
  refine⟨⟨tJ _,λ_ _ _=>rfl,λ_ _=>rfl,rfl,rfl,rfl⟩,λi=>?_,M.objs,λo b V W=>.inl ⟨o,V,W⟩,Marks.nil _ _,M.y,λo x hx=>?_,M.now⟩
  .simp only[look,Au,EG,Array.size_setIfInBounds];by_cases W:F=i
   .grind
   .simp only[W,A6];by_cases V:m=i
    .subst V;simp only[tZ,(za:m<a.tmps.size)];exact .int_mk _ _
    .simp only[V,A6];have:=M.env i;simp_all
  .grind
 refine u w _ _ _ (some l) _ β _ w _ (λ⟨_,_,h⟩=>h) X hR1 (λo ho=>?_) λs1 a1 w1 β1 hA hs1 Z d hb1=>?_
 .rcases ho with ho|ho
  .exact hb o<|.inl ho
  .grind
 .have hl1:w1.heap[l]?=some (.loop lp):=(d.good.blk l hlw<|M.notOwn I).trans I;refine⟨_,run_beginRound hl1 hst,?_⟩;have T:=d.rebase (pin':=pin') Z d.pins hl1<|.loop {lp with state:=.busy};refine wpIn_mono (hA l _ _ Y pin' β1 a1 _ j hs1 T hb1) λex a2 w2 C=>?_;cases ex with
  |normal=>
   obtain⟨s2,β2,⟨_,r,U,N⟩,W,h3,h4⟩:=C;obtain⟨β3,f,hb3⟩:=WH N j h3;have g:(w1.putObj l<|.loop {lp with state:=.busy}).heap[l]?=some (.loop {lp with state:=.busy}):=World.putObj_heap_same (AW.1 hl1).1;have K:w2.heap[l]?=some (.loop {lp with state:=.busy}):=(f.good.blk l (AW.1 g).1<|T.notOwn g).trans g;refine⟨_,_,run_endRound none K,rfl,r,U,⟨β3,?_,λo ho=>?_,λo ho=>?_⟩,?_⟩
   .have U1:=M.under (λi=>sj G i) d.good d.objs d.own (z d.pins) J;have U2:=U1.turn hl1 S<|.loop {lp with state:=.busy};have U3:=U2.under (λi=>sj G i) f.good f.objs f.own (λo ho=>(z f.pins o ho).trans (z d.pins o ho).symm) J;exact U3.turn K S _
   .rcases ho with ho|ho
    .exact hb3 o<|.inl ho
    .cases C:pin o with
     |none=>exact absurd C ho
     |some b=>have:=J o b C;have:=hmx r U;omega
   .exact(z f.pins o ho).trans<|hβ o ho
   .rw[World.putObj_heap_same (AW.1 K).1];cases lp;grind
  |ret=>obtain⟨_,_,⟨h,_⟩,_⟩:=C;cases h
  |exit i=>obtain⟨_,_,⟨h,_⟩,_⟩:=C;cases h
  |goto t=>exact C.elim
  |panic c=>exact C.elim
  |outgrown=>exact C.elim
end
theorem len_run {P:Program}{w:World}{X:Nat->Prop}{β:Nat->Option Nat}{t e ty:TypeId}{d:TyD}{x:TV}{u:Value}{N:Nat}{rd:List Nat}(hd:tyOf P t=some d)(p:d.kind=.slice e)(j:TRep w X β x u)(g:XD x=some (N,rd)):(Builtin.len_ #[t] ty #[u]).run P w=.ok (.int .i64 N) w:=by
 have i:=xp hd p;unfold XD at g;split at g
 .injection g with g;injection g with h m;subst h;rw[j.nils_inv];simp[Builtin.len_,tT i,goInt]
 .injection g with g;injection g with h m;subst h
  have h:=j.fz_inv;cases h with
  |slnil=>simp[Builtin.len_,tT i,goInt]
  |sl0 _ _ a=>simp[Builtin.len_,tT i,goInt]
  |sl _ _ _ b v cap o f r=>subst r;simp[Builtin.len_,tT i,goInt]
 .injection g with g;injection g with h m;subst h
  have h:=j.fz_inv;cases h with
  |z0 _ a=>simp[Builtin.len_,tT i,goInt]
  |z0n=>simp[Builtin.len_,tT i,goInt]
 .injection g with g;injection g with h m;subst h
  obtain⟨b,q,cap,sz,y,_,_,_,_,_,rfl⟩|⟨rfl,rfl⟩:=j.osl_inv
  .simp[Builtin.len_,tT i,goInt]
  .simp[Builtin.len_,tT i,goInt]
 .cases g
theorem i64_id {x:Int}(d: -9223372036854775808<=x)(b:x<=9223372036854775807):wrap .i64 x=x:=Go.IntWalk.i64_in _ ⟨d,b⟩
section
variable {P:Program} {w0:World} {foot Y:Nat->Prop} {pin:Nat->Option (Option Nat)} {e:Nat->TV} {h:AHeap} {β:Nat->Option Nat} {a:Act} {w:World}
theorem RelF.load {S:TypeId}{f:TyD}{x:TV}{u:Value}{r:TV×List Nat}(j:RelF P w0 foot Y pin e (hook h) β a w)(m:tyOf P S=some f)(d:TRep w (XO Y (hook h) β) β x u)(g:wS f (λo=>flat<|hook h o) x=some r):
  ∃v,(Instr.loadAt S u).run P w=.ok v w/\TRep w (XO Y (hook h) β) β r.1 v:=by
 have b:∀o,flat (flat<|hook h o)=flat (hook h o):=λo=>vm _;have i:=qC (h':=λo=>flat<|hook h o) b j.objs;rw[<-YH (h':=λo=>flat<|hook h o) b] at d ⊢;exact Jf (P:=P) i m d g
end
theorem itf0 (y b:Value):Itf {tmps:= #[y,b]++Array.replicate (19-(#[y,b]:Array Value).size) undef,defers:=[]} y b:=
 ⟨zb,rfl,zb,zb⟩
theorem bX {P:Program} {n m m0:Nat} {env:Env} {α:Type} {H:α->AHeap} {nx:α->Nat} {Inv:α->Prop} {idx:α->Nat} {y v:α->TV} {bk:FuncId} {S E:TypeId} {dS dE:TyD} {g:Operand} {p1 p2:Nat} {A body:Code} {Q:AExit->St->Prop} {N oc:Nat} {xs:TV} {x0:α} {rdn:List Nat}
  (hbk:IsBk P bk S E) (hS:tyOf P S=some dS) (hk:dS.kind=.slice E) (hE:tyOf P E=some dE) (hm:m<=m0) (henv:∀p∈env,p.2.lt m0=true)
  (hg:ev env g=.c (.fn (.func bk) [] [(false,[.ep oc 1 0 0])])) (hoc:oc<m0) (hnx:∀x,Inv x->m0<=nx x)
  (hbox:∀x,Inv x->∃rd,wS dS (λo=>flat<|hook (H x) o) (.c<|.a<|.ep oc 1 0 0)=some (xs,rd)) (hlen:XD xs=some (N,rdn)) (hN:N<9223372036854775808)
  (hel:∀x k,Inv x->idx x=k+1->∃rd,xm P dS xs (iV k)=some (y x)/\wS dE (λo=>flat<|hook (H x) o) (y x)=some (v x,rd))
  (hp1:p1<n) (hp2:p2<n)
  (M:∀x k,Inv x->idx x=k+1->AsgS P n A ⟨(p2,v x)::(p1,iV k)::env,H x,nx x⟩ λs=>AwpR P n m0 body (λex s'=>ex=.normal/\∃u,(Inv u/\idx u=k)/\Sle m0 s' ⟨[],H u,nx u⟩) s)
  (hx0:Inv x0) (hi0:idx x0=N) (hdone:∀x,Inv x->idx x=0->Q .normal ⟨env,H x,nx x⟩):
  Awp P n m (.rangeFunc g #[p1,p2] A body) Q ⟨env,H x0,nx x0⟩:=λw0 foot Y d β a w hpm hn hR hb=>by
 obtain⟨j,fn,Yt,I,B,hfn,J,hnt,hres⟩:=hbk;refine(wpIn_wide (n:=0)).1<|wpIn_rangeFunc λfid _=>?_;have hv:=hR.eval g;rw[<-m4,hg] at hv;generalize hav:a.eval g=av at hv;cases hv with
 |fn _ _ _ us vs hl1 hl2=>
 have hus:us=[]:=hl1.nil_inv;subst hus;obtain⟨e,vs',rfl,hp,hvs⟩:=hl2.cons_inv;have hvs':vs'=[]:=hvs.nil_inv;subst hvs';obtain⟨qs,rfl,hq,h1⟩:=hp;have h1:=h1 rfl;obtain⟨e,qs',rfl,hbp,hqs⟩:=hq.cons_inv;have hqs':qs'=[]:=hqs.nil_inv;subst hqs';have hbpR:ARep w (XO Y (hook<|H x0) β) β (.ep oc 1 0 0) e:=hbp;have C:=hR.good.size;let l:=w.heap.size+1;let lp:Loop:={state:=.ready,pending:=none,fn:=fid,tmps:=a.tmps,params:= #[p1,p2],assign:=A,body:=body,defers:=w.heap.size};let w1:=(w.alloc<|.deferred<|some []).alloc<|.loop lp;have hl1:w1.heap[l]?=some (.loop lp):=by have:=World.alloc_heap_new (w.alloc<|.deferred<|some [])<|.loop lp;rwa [World.size_alloc] at this
 have hD1:w1.heap[w.heap.size]?=some (.deferred<|some []):=by show((w.heap.push _).push _)[w.heap.size]?=_;grind
 have c1:Calm w0 w w1:=(Calm.alloc w0 w _ C).trans<|Calm.alloc w0 _ _<|by rw[World.size_alloc];omega
 have old1:∀b,b<w.heap.size->w1.heap[b]?=w.heap[b]? :=λb hb=>by show((w.heap.push _).push _)[b]?=_;grind
 obtain⟨Ds,hds,Z,z⟩:=hR.defers;have hm1:Marks w0 w1 a.defers:=⟨Ds,hds,Z,λD hD=>⟨(z D hD).1,by rw[old1 D (AW.1 (z D hD).2).1];exact(z D hD).2⟩⟩;have i:RelF P w0 foot Y d (look env) (hook<|H x0) β a w1:=RelF.calm c1 hR hm1;have hR1:RelF P w0 foot Y d (look env) (hook<|H x0) β {a with defers:=mark w.heap.size::a.defers} w1:=by
  refine⟨i.good,i.env,i.objs,i.own,⟨w.heap.size::Ds,by rw[hds];rfl,E1.2 ⟨λhD=>?_,Z⟩,λD hD=>?_⟩,i.ylt,i.pins,i.gl⟩
  .grind
  .rcases A1.1 hD with rfl|hD
   .exact⟨C,hD1⟩
   .exact⟨(z D hD).1,by rw[old1 D (AW.1 (z D hD).2).1];exact(z D hD).2⟩
 have hO0:Out P w0 foot Y d env m0 {a with defers:=mark w.heap.size::a.defers} β l lp (H x0) (nx x0) w1:=⟨⟨β,hR1,hb,λ_ _=>rfl⟩,hl1⟩;have hl0:w0.heap.size<=l:=za;have hav':a.eval g=.func (.func bk) #[] #[e]:=hav;have hres1:(resolve a.eval (rangeCall g l) 0).run P w1=.ok {target:=.fn (.func bk) #[e],args:= #[.func (.yield l) #[] #[]]} w1:=by simp only[resolve,Deferred.ofValue,hav',Av,List.map_toArray,Aw,S7,show a.eval (.const<|.func (.yield l) #[] #[])=.func (.yield l) #[] #[] from rfl];simp
 have hinv1:(invoke (.fn (.func bk) #[e]) #[.func (.yield l) #[] #[]]).run P w1=.ok (.enter bk #[.func (.yield l) #[] #[],e]) w1:=by
  unfold xF at j;rw[hfn] at j;simp only[tF,AA,beq_eq_false_iff_ne] at j;have hb:fn.body.isNone=false:=by rw[J];rfl
  simp only[invoke,callFunc,Ao,Av,A2,run_program,hfn,beq_eq_false_iff_ne.2 j.1,tX,A6,hb];rfl
 refine⟨l,[mark w.heap.size],w1,_,w1,bk, #[.func (.yield l) #[] #[],e],w1,run_enterLoop_outer fid a.tmps #[p1,p2] _ body,hres1,λ_ _=>trivial,hinv1,λh=>absurd h zc,?_⟩;refine callsIn_of_wp hfn J trivial ?_;have V:Itf {tmps:= #[.func (.yield l) #[] #[],e]++Array.replicate (fn.ntmps-(#[.func (.yield l) #[] #[],e]:Array Value).size) undef,defers:=[]} (.func (.yield l) #[] #[]) e:=by rw[hnt];exact itf0 _ _
 generalize ({tmps:= #[.func (.yield l) #[] #[],e]++Array.replicate (fn.ntmps-(#[.func (.yield l) #[] #[],e]:Array Value).size) undef,defers:=[]}:Act)=a0 at V ⊢;have hend:∀x W O,Inv x->idx x=0->Itf O (.func (.yield l) #[] #[]) e->Out P w0 foot Y d env m0 {a with defers:=mark w.heap.size::a.defers} β l lp (H x) (nx x) W->bodyPost P fn (rangePost Fence.wide 0 P l (Lift P w0 foot Y d n Q) {a with defers:=[mark w.heap.size]++a.defers}) .normal O W:=by intro x W O T f hi2 L;refine⟨hi2.defers,.tuple #[],by simp[results,hres],?_⟩;obtain⟨β2,G,hb2,_⟩:=L.ex;exact⟨none,_,run_endLoop L.lp<|by simp[lp],⟨_,β2,hdone x T f,hn,G.turn L.lp hl0 _,hb2⟩⟩
 have K:∀x W,Inv x->Out P w0 foot Y d env m0 {a with defers:=mark w.heap.size::a.defers} β l lp (H x) (nx x) W->∃β2 sv,RelF P w0 foot Y d (look env) (hook<|H x) β2 {a with defers:=mark w.heap.size::a.defers} W/\(∀k,Occ d β2 k->k<nx x)/\(∀o,o<m0->β2 o=β o)/\(Instr.loadAt S e).run P W=.ok sv W/\TRep W (XO Y (hook<|H x) β2) β2 xs sv:=by
  intro x W T L;obtain⟨β2,G,hb2,X⟩:=L.ex;obtain⟨rd,F⟩:=hbox x T;have hep:TRep W (XO Y (hook<|H x) β2) β2 (.c<|.a<|.ep oc 1 0 0) e:=by
   refine .a _ _ ?_;cases hbpR with
   |ep _ _ _ _ b hb=>exact .ep _ _ _ _ b<|(X oc hoc).trans hb
  obtain⟨sv,h1,h2⟩:=G.load hS hep F;exact⟨β2,sv,G,hb2,X,h1,h2⟩
 obtain⟨β2,sv,G,_,_,F,hxs⟩:=K x0 w1 hx0 hO0;refine wpIn_seq<|bk0_in V F (len_run hS hk hxs hlen) λa1 hi1 h31=>?_;rw[i64_id za za] at h31
 refine wpIn_block (wpIn_loop (λO W=> ∃x,Inv x/\idx x<=N/\Itf O (.func (.yield l) #[] #[]) e/\O.tmps.getD 3 undef=.int .i64 ((idx x:Int)-1)/\Out P w0 foot Y d env m0 {a with defers:=mark w.heap.size::a.defers} β l lp (H x) (nx x) W)
  (λO _=>match O.tmps.getD 3 undef with|.int _ r=>(r+1).toNat|_=>0) ⟨x0,hx0,za,hi1,by rw[hi0];exact h31,hO0⟩ ?_)
 rintro O W ⟨x,T,hle,hi2,U,L⟩;refine wpIn_seq<|wpIn_seq<|bk1_in hi2 U λa3 hi3 h33 h8=>?_;cases f:idx x with
 |zero=>refine wpIn_cond_false (by rw[yd,h8,f];rfl)<|wpIn_exit ?_;simp only[Exit.then,Exit.inBlock,tZ];exact hend x W a3 T f hi3 L
 |succ k=>
  rw[f] at h33 U h8;have ek:((k+1:Nat):Int)-1=(k:Int):=za;rw[ek] at h33 U h8;refine wpIn_cond_true (by rw[yd,h8];simp)<|wpIn_skip ?_;obtain⟨β3,sv,hR3,hb3,hβ3,F,hxs⟩:=K x W T L;obtain⟨rd,hixa,hlde⟩:=hel x k T f;obtain⟨ev,hev,hevr⟩:=jj hS hixa hxs<|.int_mk _ _;obtain⟨uv,huv,huvr⟩:=hR3.load hE hevr hlde
  refine wpIn_seq (wpIn_block (wpIn_seq (bk3_in (lp:=lp) (R:=λW'=> ∃u,(Inv u/\idx u=k)/\Out P w0 foot Y d env m0 {a with defers:=mark w.heap.size::a.defers} β l lp (H u) (nx u) W') rfl hi3 h33 F hev huv L.lp rfl
   (mT (v:=v x) hR3 hb3 hβ3 L.lp hl0 henv (λo b hq=>AK (hpm o b hq) hm) (hnx x T) (λu hx'=>hnx u hx'.1) hn rfl rfl rfl rfl rfl rfl hp1 hp2 huvr (M x k T f)) λa4 W' hi4 h34 h18 ⟨u,⟨hx',hix'⟩,hO'⟩=>?_)))
  .refine wpIn_cond_false (by rw[yd,h18])<|wpIn_skip ?_;refine bk2_in hi4 h34 λa5 hi5 h35=>?_;rw[i64_id za za] at h35;refine⟨⟨u,hx',za,hi5,by rw[hix'];exact h35,hO'⟩,?_⟩;simp only[h35,U];omega
def ctxQ (P:Program)(n m:Nat):Code->Nat->(AExit->St->Prop)->(AExit->St->Prop)
 |.seq a b,p,Q=>if (pts a).contains p then ctxQ P n m a p (XL (Awp P n m b Q) Q) else ctxQ P n m b p Q
 |.cond _ a b,p,Q=>if (pts a).contains p then ctxQ P n m a p Q else ctxQ P n m b p Q
 |.block i c,p,Q=>if p=2*i+1 then Q else ctxQ P n m c p<|yi i Q
 |.loop c,p,Q=>ctxQ P n m c p<|XL (Alwp P n m c Q) Q
 |_,_,Q=>Q
def rngP:Code->Option (Operand×Nat×Nat×Code×Code)
 |.rangeFunc g ps A b=>match ps.toList with
  |[p1,p2]=>some (g,p1,p2,A,b)
  |_=>none
 |_=>none
theorem rngP_inv {c:Code}{g:Operand}{e f:Nat}{A b:Code}(h:rngP c=some (g,e,f,A,b)):c=.rangeFunc g #[e,f] A b:=by
 unfold rngP at h;split at h
 .rename_i o m A' p;split at h
  .rename_i i j d;injection h with h
   simp only[Am] at h;obtain⟨rfl,rfl,rfl,rfl,rfl⟩:=h;have:m= #[i,j]:=by apply EL;exact zp d
   rw[this]
  .cases h
 .cases h
def asgB (n:Nat):Code->Bool
 |.region _ ops false=>vD ops&&dstB ops n
 |.seq (.region _ ops false) (.region _ ops' false)=>(vD ops&&dstB ops n)&&(vD ops'&&dstB ops' n)
 |_=>false
def asgV (P:Program)(sh:FuncId->List Sh)(n:Nat)(A:Code)(K:AExit->St->Prop)(s:St):Prop:=
 match A with
 |.region _ ops _=>regV P sh n ops false K s
 |.seq (.region _ ops _) (.region _ ops' _)=>regV P sh n ops false (Xv (regV P sh n ops' false K) λ_ _=>False) s
 |_=>False
theorem J6 {P:Program}{sh:FuncId->List Sh}{n id:Nat}{b:Array Oper}{K:AExit->St->Prop}{s:St}{R:St->Prop}(i:vD b=true)(f:dstB b n=true)(h:regV P sh n b false K s)(m:∀g,K .normal g->∀e,look g.env=look e->R ⟨e,g.heap,g.nx⟩):AsgS P n (.region id b false) s R:=by
 unfold regV at h;split at h
 .refine AsgS.region i f<|kV ?_<|wO rfl h;rintro e h _ ⟨o,j,d⟩;simp only[EN,EC] at d;exact m _ d e j
 .exact h.elim
def qS:Code->Nat->Option (Operand×Nat×Nat×Code×Code)
 |.seq a b,p=>if (pts a).contains p then qS a p else qS b p
 |.cond _ a b,p=>if (pts a).contains p then qS a p else qS b p
 |.block i c,p=>if p=2*i+1 then rngP c else qS c p
 |.loop c,p=>qS c p
 |_,_=>none
section
variable {P:Program} {n m:Nat}
theorem ug {g:Operand}{f j:Nat}{A y:Code}{s:St}:∀ {c:Code} {p:Nat} {Q:AExit->St->Prop},qS c p=some (g,f,j,A,y)->(∀i,Awp P n m (.rangeFunc g #[f,j] A y) (yi i<|ctxQ P n m c p Q) s)->rz P n m c p Q s
 |.seq a b,p,Q,d,h=>by
  unfold qS at d;unfold rz;unfold ctxQ at h;split;next e=>rw[tG e] at d;simp only[e,tZ] at h;exact ug d h
  next e=>rw[tD e] at d;simp only[e] at h;exact ug d h
 |.cond _ a b,p,Q,d,h=>by
  unfold qS at d;unfold rz;unfold ctxQ at h;split;next e=>rw[tG e] at d;simp only[e,tZ] at h;exact ug d h
  next e=>rw[tD e] at d;simp only[e] at h;exact ug d h
 |.block i c,p,Q,d,h=>by
  unfold qS at d;unfold rz;unfold ctxQ at h;split;next e=>rw[tG e] at d;simp only[e,tZ] at h;rw[rngP_inv d];exact h i
  next e=>rw[tD e] at d;simp only[e,A6] at h;exact ug d h
 |.loop c,p,Q,d,h=>by unfold qS at d;unfold rz;unfold ctxQ at h;exact ug d h
 |.skip,_,_,d,_=>by cases d
 |.rangeFunc ..,_,_,d,_=>by cases d
 |.exit _,_,_,d,_=>by cases d
 |.scope _,_,_,d,_=>by cases d
 |.label _,_,_,d,_=>by cases d
 |.goto _,_,_,d,_=>by cases d
 |.ret,_,_,d,_=>by cases d
 |.region ..,_,_,d,_=>by cases d
 |.refuse _,_,_,d,_=>by cases d
end
def aftV (P:Program)(sh:FuncId->List Sh)(n m:Nat)(lv:List<|Nat×List Nat)(G:Nat->St->Prop):Code->Nat->(AExit->St->Prop)->St->Prop
 |.seq a b,p,K,s=>match (pts a).contains p with
  |true=>aftV P sh n m lv G a p (Xv (runV P sh n m lv G b K) K) s
  |false=>aftV P sh n m lv G b p K s
 |.cond _ a b,p,K,s=>match (pts a).contains p with
  |true=>aftV P sh n m lv G a p K s
  |false=>aftV P sh n m lv G b p K s
 |.block i c,p,K,s=>match p==2*i+1 with
  |true=>K .normal s
  |false=>match c with
   |.loop b=>aftV P sh n m lv G b p (Xv (qv m lv G<|2*i+1)<|yi i K) s
   |c=>aftV P sh n m lv G c p (yi i K) s
 |_,_,_,_=>False
section
variable {P:Program} {sh:FuncId->List Sh} {n m:Nat} {lv:List (Nat×List Nat)} {G:Nat->St->Prop}
theorem uh (r:P.follows .mixedOrders=true):∀ {c:Code} {p:Nat} {K Q:AExit->St->Prop} {s:St},(pts c).Nodup->GOK P n m G c Q->(∀e s,K e s->Q e s)->aftV P sh n m lv G c p K s->ctxQ P n m c p Q .normal s
 |.seq a b,p,K,Q,s,g,j,o,h=>by
  have d:=Ej.1 g;unfold aftV at h;unfold ctxQ;split at h;next f=>rw[tG f];exact uh r d.1 j.left (wy (λs u=>xT r d.2.1 (j.right g) o u) o) h
  next f=>rw[tD<|by simp only[f];decide];exact uh r d.2.1 (j.right g) o h
 |.cond x a b,p,K,Q,s,g,j,o,h=>by
  have d:=Ej.1 g;unfold aftV at h;unfold ctxQ;split at h;next f=>rw[tG f];exact uh r d.1 j.condL o h
  next f=>rw[tD<|by simp only[f];decide];exact uh r d.2.1 (j.condR g) o h
 |.block i c,p,K,Q,s,g,j,o,h=>by
  unfold aftV at h;unfold ctxQ;split at h;next f=>rw[tG<|zp f];exact o _ _ h
  .rename_i f;rw[tD<|zp f];split at h;next b=>have hn2:(pts b).Nodup:=(E1.1 g).2;unfold ctxQ;exact uh r hn2 (GOK.loop<|j.block g) (wy (λs u=>j.head u)<|xG o) h
   .exact uh r (E1.1 g).2 (j.block g) (xG o) h
 |.skip,_,_,_,_,_,_,_,h=>h.elim
 |.exit _,_,_,_,_,_,_,_,h=>h.elim
 |.ret,_,_,_,_,_,_,_,h=>h.elim
 |.loop _,_,_,_,_,_,_,_,h=>h.elim
 |.region ..,_,_,_,_,_,_,_,h=>h.elim
 |.rangeFunc ..,_,_,_,_,_,_,_,h=>h.elim
 |.scope _,_,_,_,_,_,_,_,h=>h.elim
 |.label _,_,_,_,_,_,_,_,h=>h.elim
 |.goto _,_,_,_,_,_,_,_,h=>h.elim
 |.refuse _,_,_,_,_,_,_,_,h=>h.elim
end
def vcA (P:Program)(sh:FuncId->List Sh)(lv:List<|Nat×List Nat)(f:FuncId)(m:Nat)(R:TV->List AObj->Prop)(G:Nat->St->Prop)(p:Nat)(s:St):Prop:=
 match P.funcs[f]? with
 |some fn=>match fn.body with
  |some c=>match jd (pts c) with
   |true=>aftV P sh fn.ntmps m lv G c p (endV P (ownB<|sh f) fn.results.toList m (lvU lv) R) s
   |false=>False
  |none=>False
 |none=>False
def endR (m0:Nat)(U:List Nat)(R:AHeap->Nat->Prop):AExit->St->Prop
 |.normal,s=>qv m0 [(0,[]),(1000001,U)] (λ_ s'=>R s'.heap s'.nx) 0 s
 |_,_=>False
def vcR (P:Program)(sh:FuncId->List Sh)(f:FuncId)(m0:Nat)(U:List Nat)(p:Nat)(env:Env)(k:Int)(v:TV)(h:AHeap)(nx:Nat)(R:AHeap->Nat->Prop):Prop:=
 match P.funcs[f]? with
 |some fn=>match fn.body with
  |some c=>match qS c p with
   |some (_,p1,p2,A,body)=>asgV P sh fn.ntmps A (Xv (runV P sh fn.ntmps m0 [] (λ_ _=>False) body<|endR m0 U R) λ_ _=>False) ⟨(p2,v)::(p1,iV k)::env,h,nx⟩
   |none=>False
  |none=>False
 |none=>False
def mK (m0:Nat)(U live:List Nat)(K:St->Prop)(s:St):Prop:=qv m0 [(0,live),(1000001,U)] (λ_ s'=>K s') 0 s
def rngB (P:Program)(f:FuncId)(p:Nat):Option Operand:=
 match P.funcs[f]? with
 |some fn=>match fn.body with
  |some c=>match qS c p with
   |some (g,p1,p2,A,body)=>match jd (pts c)&&asgB fn.ntmps A&&wB body&&Nat.blt p1 fn.ntmps&&Nat.blt p2 fn.ntmps with
    |true=>some g
    |false=>none
   |none=>none
  |none=>none
 |none=>none
theorem Sle.less {m m0:Nat}{s d:St}(h:Sle m0 s d)(b:m<=m0):Sle m s d:=by obtain⟨σ,E,g,j,f,e⟩:=h;exact⟨σ,E,g,AX b j,λo i=>f o<|AK i b,e⟩
theorem Sle.noEnv {m:Nat}{s b:St}(h:Sle m s b):Sle m s ⟨[],b.heap,b.nx⟩:=by obtain⟨σ,E,g,i,e,j,f⟩:=h;exact⟨σ,E,g,i,e,(λp d=>by cases d),f⟩
theorem Kb {m:Nat}{lv:List (Nat×List Nat)}{G:Nat->St->Prop}{p:Nat}{s:St}(h:qv m lv G p s):∃b,Sle m s b/\G p b:=jM h
theorem RPt.back {P:Program} {sh:FuncId->List Sh} {lv:List (Nat×List Nat)} {f:FuncId} {m m0 p oc N:Nat} {r:TV} {Hs':List AObj} {U live rdn:List Nat} {env:Env} {s0:St} {α:Type} {H:α->AHeap} {nx:α->Nat} {Inv:α->Prop} {idx:α->Nat} {y v:α->TV} {x0:α} {bk:FuncId} {S E:TypeId} {W dE:TyD} {g:Operand} {xs:TV}
  (hP:P.follows .mixedOrders=true) (d:rngB P f p=some g) (hbk:IsBk P bk S E) (hS:tyOf P S=some W) (hk:W.kind=.slice E) (hE:tyOf P E=some dE)
  (F:mK m0 U live (λu=>u=⟨env,H x0,nx x0⟩) s0) (hm:Nat.ble m m0=true) (L:env.all (λp=>p.2.lt m0)=true)
  (hg:ev env g=.c (.fn (.func bk) [] [(false,[.ep oc 1 0 0])])) (hoc:Nat.blt oc m0=true) (hnx:∀x,Inv x->m0<=nx x)
  (O:∀x,Inv x->∃rd,wS W (λo=>flat<|hook (H x) o) (.c<|.a<|.ep oc 1 0 0)=some (xs,rd)) (V:XD xs=some (N,rdn)) (hN:N<9223372036854775808)
  (hel:∀x k,Inv x->idx x=k+1->∃rd,xm P W xs (iV k)=some (y x)/\wS dE (λo=>flat<|hook (H x) o) (y x)=some (v x,rd))
  (b:∀x k,Inv x->idx x=k+1->vcR P sh f m0 U p env k (v x) (H x) (nx x) λh n=> ∃j,(Inv j/\idx j=k)/\h=H j/\n=nx j)
  (hx0:Inv x0) (hi0:idx x0=N) (G:∀x,Inv x->idx x=0->vcA P sh lv f m (λr0 Hs0=>TV.Le r0 r/\Hs0=Hs') (RPt P f m r Hs') p ⟨env,H x,nx x⟩):
  RPt P f m r Hs' p s0:=by
 have M:m<=m0:=A9 hm;obtain⟨u,K,rfl⟩:=Kb F;unfold rngB at d;unfold vcR at b;split at d
 .rename_i fn Z;simp only[Z] at b;split at d
  .rename_i c X;simp only[X] at b;split at d
   .rename_i g' p1 p2 A body T;simp only[T] at b;split at d
    .rename_i D;injection d with d
     subst d;simp only[tF] at D;obtain⟨⟨⟨⟨h1,C⟩,h3⟩,h4⟩,h5⟩:=D;refine⟨fn,c,Z,X,kc (K.less M)<|ug T λi=>?_⟩;refine bX (m0:=m0) (Inv:=Inv) (idx:=idx) (y:=y) (v:=v) hbk hS hk hE M (λp hp=>A7.1 L p hp) hg (zp hoc) hnx O V hN hel (zp h4) (zp h5) (λx k hx J=>?_) hx0 hi0 λx hx J=>?_
     .have hr:=b x k hx J;have fin:∀u:St,Xv (runV P sh fn.ntmps m0 [] (λ_ _=>False) body (endR m0 U λh n=> ∃j,(Inv j/\idx j=k)/\h=H j/\n=nx j)) (λ_ _=>False) .normal u->∀e,look u.env=look e->AwpR P fn.ntmps m0 body (λex u=>ex=.normal/\∃j,(Inv j/\idx j=k)/\Sle m0 u ⟨[],H j,nx j⟩) ⟨e,u.heap,u.nx⟩:=by
       intro u I e he;refine AwpR.look he<|AwpR.mono (vv hP h3 (λ_ _ h=>h) I) λex s F=>?_;cases ex with
       |normal=>
        have F:qv m0 [(0,[]),(1000001,U)] (λ_ u=> ∃j,(Inv j/\idx j=k)/\u.heap=H j/\u.nx=nx j) 0 s:=F;obtain⟨s2,hs2,j,hx',e1,e2⟩:=Kb F;exact⟨rfl,j,hx',e1▸e2▸hs2.noEnv⟩
       |exit i=>exact F.elim
       |ret=>exact F.elim
      unfold asgB at C;split at C
      .simp only[tF] at C;exact J6 C.1 C.2 hr fin
      .simp only[tF] at C;refine AsgS.seq (J6 (R:=λu=> ∃z,look u.env=look z.env/\u.heap=z.heap/\u.nx=z.nx/\regV P sh fn.ntmps _ false _ z) C.1.1 C.1.2 hr λu I e he=>⟨u,he.symm,rfl,rfl,I⟩) λu hs'=>?_;obtain⟨z,e1,e2,e3,hk3⟩:=hs';intro w0 foot Y pin r n' β a w Q q1 q2 q3 q4 q5;refine J6 C.2.1 C.2.2 hk3 fin w0 foot Y pin r n' β a w Q q1 q2 ?_ ?_ q5
       .rw[<-e1,<-e2];exact q3
       .rw[<-e3];exact q4
      .cases C
     .have ha:=G x hx J;unfold vcA at ha;simp only[Z,X,h1] at ha;exact uh hP (xJ h1) (dY Z X) (λe s h=>WJ e s h) ha
    .cases d
   .cases d
  .cases d
 .cases d
def a7 (P:Program)(S E:TypeId)(n:Nat):Bool:=
 match tyOf P S,tyOf P E with
 |some dS,some dE=>(match dS.kind with|.slice e=>Nat.beq e E|_=>false) && !dS.agg&&dE.agg&&Nat.beq dE.size n
 |_,_=>false
theorem RPt.backF {P:Program} {sh:FuncId->List Sh} {lv:List (Nat×List Nat)} {f:FuncId} {m m0 p oc n:Nat} {r:TV} {Hs':List AObj} {U live:List Nat} {env:Env} {s0:St} {α:Type} {H:α->AHeap} {nx:α->Nat} {Inv:α->Prop} {idx:α->Nat} {x0:α} {bk:FuncId} {S E:TypeId} {g:Operand} {es:List (List FV)}
  (hP:P.follows .mixedOrders=true) (I:rngB P f p=some g) (O:IsBk P bk S E) (o:a7 P S E n=true)
  (hs:mK m0 U live (λs'=>s'=⟨env,H x0,nx x0⟩) s0) (hm:Nat.ble m m0=true) (z:env.all (λp=>p.2.lt m0)=true)
  (hg:ev env g=.c (.fn (.func bk) [] [(false,[.ep oc 1 0 0])])) (V:Nat.blt oc m0=true) (M:∀x,Inv x->m0<=nx x)
  (D:∀x,Inv x->hook (H x) oc=.arr 1 [[.a<|.fz<|.sl false n es]]) (C:∀e∈es,e.length=n) (hN:es.length<9223372036854775808)
  (j:∀x,Inv x->idx x<=es.length)
  (i:∀x k,Inv x->idx x=k+1->k<es.length->vcR P sh f m0 U p env k (.agg<|fzs<|es.getD k []) (H x) (nx x) λh n=> ∃G,(Inv G/\idx G=k)/\h=H G/\n=nx G)
  (T:Inv x0) (W:idx x0=es.length) (u:∀x,Inv x->idx x=0->vcA P sh lv f m (λr0 Hs0=>TV.Le r0 r/\Hs0=Hs') (RPt P f m r Hs') p ⟨env,H x,nx x⟩):
  RPt P f m r Hs' p s0:=by
 unfold a7 at o;split at o
 .rename_i dS dE hS Z;split at o
  .rename_i e Y;simp only[tF,AA] at o;obtain⟨⟨⟨K,h2⟩,h3⟩,F⟩:=o;have K:=AJ K;have F:=AJ F;subst K;have L:∀(d:TyD) (l:List WV),d.agg=true->d.size=l.length->ZK d l=some (.agg l):=λd l ha hl=>by unfold ZK;rw[ha,tG rfl,tG za,hl,List.take_length]
   refine RPt.back (y:=λx=>.c<|.a<|.fz<|.pt<|es.getD (idx x-1) []) (v:=λx=>.agg<|fzs<|es.getD (idx x-1) []) (xs:=.c<|.a<|.fz<|.sl false n es) (N:=es.length) (rdn:=[]) hP I O hS Y Z hs hm z hg V M (λx w=>?_) rfl hN (λx k w b=>?_) (λx k w b=>?_) T W u
   .refine⟨[oc],?_⟩;unfold wS;simp only[D x w];show(if 1=1 then _ else none)=_;rw[tG rfl];show(match ZK dS [.a<|.fz<|.sl false n es] with|some v=>some (v,[oc])|none=>none)=_;unfold ZK;rw[h2];rfl
   .have J:=j x w;have X:k<es.length:=za;have hr:=C (es.getD k []) (by simp[getD,X]);refine⟨[],?_,?_⟩
    .unfold xm iV;simp only[Y,Z,XS];rw[tG ⟨F,za,za⟩,hJ,b,ED]
    .unfold wS;simp only[b,ED];rw[L dE _ h3<|by rw[F];unfold fzs;rw[Ax,hr]]
   .have J:=j x w;have:=i x k w b za;simp only[b,ED];exact this
  .cases o
 .cases o
open Go.ChangeShapes Go.WideShapes Go.ChangeAt Go.RowKit
abbrev Cl:=Int×Tm×Tm
abbrev FL (c:Cl):List FV:=[.int .i64 c.1,.int .i64 c.2.1.k,.str c.2.1.s,.int .i64 c.2.1.n,.sl false 4<|FTs c.2.1.l,.int .i64 c.2.2.k,.str c.2.2.s,.int .i64 c.2.2.n,.sl false 4<|FTs c.2.2.l]
def CLs (l:List Cl):List (List FV):=l.map FL
theorem zW (l:List Cl):(CLs l).length=l.length:=by simp[CLs]
abbrev aCl (c:Cl):TV:=.agg [.a<|.fz<|.int .i64 c.1,.a<|.fz<|.int .i64 c.2.1.k,.a<|.fz<|.str c.2.1.s,.a<|.fz<|.int .i64 c.2.1.n,.a<|.fz<|.sl false 4<|FTs c.2.1.l,.a<|.fz<|.int .i64 c.2.2.k,.a<|.fz<|.str c.2.2.s,.a<|.fz<|.int .i64 c.2.2.n,.a<|.fz<|.sl false 4<|FTs c.2.2.l]
abbrev aCls (l:List Cl):TV:=.c<|.a<|.fz<|.sl false 9<|CLs l
section
variable {H:Type} {enc:TypeId×Value->H} {P:Program} {w:World}
abbrev ClI:={n:Int // -9223372036854775808<=n/\n<=9223372036854775807}×TmI×TmI
abbrev ClI.c (v:ClI):Cl:=(v.1.1,v.2.1.1,v.2.2.1)
structure ClTy (P:Program)(T Tt:TypeId)(f0 f1 f2:Field):Prop where
 str:P.underlying T=some (.struct #[f0,f1,f2])
 u0:P.underlying f0.type=some (.int .i64)
 t1:f1.type=Tt
 t2:f2.type=Tt
 o0:f0.offset=0
 o1:f1.offset=1
 o2:f2.offset=5
 c0:P.cellsOf f0.type=1
 cT:P.cellsOf T=9
theorem FT_FL (v:ClI):FL v.c=[.int .i64 v.1.1]++(FT v.2.1.1++FT v.2.2.1):=by obtain⟨n,⟨a,_⟩,⟨b,_⟩⟩:=v;cases a;cases b;rfl
theorem rd_cl {b:DataW H->Nat}{I:List (DataW H)->Nat}(e:Bulk b I){T Tt:TypeId}{M N W L f0 G F:Field}(g:TmTy P Tt M N W L)(d:ClTy P T Tt f0 G F)(f:Nat):
  RdN enc P w b f T (λv:ClI=>FL v.c) (λv=>v.2.1.1.bk+v.2.2.1.bk+1):=by
 intro cs x h;obtain⟨xs,n,rfl,rfl,E,j,p⟩:=DataW.trod_struct d.str h;rw[d.cT] at E
 match cs,E with
 |[v0,v1,X,S,Z,O,V,v7,U],_=>
 match xs,j with
 |[x0,m,o],_=>
 have y:=p 0 f0 rfl;have C:=p 1 G rfl;have A:=p 2 F rfl;rw[d.o0,d.c0] at y;rw[d.o1,d.t1,g.cT] at C;rw[d.o2,d.t2,g.cT] at A;obtain⟨i,r0,D⟩:=rd_num (b:=b) d.u0 e.one n _ _ y;obtain⟨t,Y,r⟩:=p8 e g n _ _ C;obtain⟨u,J,z⟩:=p8 e g n _ _ A;have D:1<=b x0.1:=D;have r:t.1.bk<=b m.1:=r;have z:u.1.bk<=b o.1:=z;refine⟨(⟨i.1,JO i.2⟩,t,u),?_,?_⟩
 .show LRep (FRep w kA) (FL<|ClI.c (⟨i.1,JO i.2⟩,t,u)) [v0,v1,X,S,Z,O,V,v7,U];rw[FT_FL];exact .cons (LRep.one r0)<|LRep.append Y J
 .show t.1.bk+u.1.bk+1<=b (.agg [x0.1,m.1,o.1]);have K:=e.agg [x0.1,m.1,o.1];simp only[e.cons,e.nil] at K;omega
end
end Go.AM
namespace Go.AM
structure Ma where
 s:Hp
 P:FV
 T:FV
 S:Int
 V:FV
 nf:FV
 na:Int
 A:FV
 L:Int
 I:FV
 n:Nat
 C:List<|List FV
 f:Int
 w:Bool
 o:FV
def moO (h k:Nat)(z:Ma):AObj:=
 .arr 14 [[.a<|.ep h 6 0 0,.a<|.fz z.P,.a<|.fz z.T,.a<|.fz<|.int .i64 z.S,.a<|.fz z.V,.a<|.fz z.nf,.a<|.fz<|.int .i64 z.na,.a<|.fz z.A,.a<|.fz<|.int .i64 z.L,.a<|.fz z.I,.a<|.osl k 10 0 z.n,.a<|.fz<|.int .i64 z.f,.a<|.fz<|.bool z.w,.a<|.fz z.o]]
def numO:Nat->List AObj->AHeap
 |_,[]=> []
 |k,o::l=>(k,o)::numO (k+1) l
end Go.AM
