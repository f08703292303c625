/- Laws, part 2. No conditions. -/
import Derived.Test.YthpemajiigpfmaaGreatPart1
import Derived.Deep.LoopGhost
import Derived.Scope
import Derived.RangeFuncLeaves
import Derived.RangeFuncRecord
import Derived.OrdersIn
import Derived.TacticsIn
import Derived.LoopN
import Derived.IntWalk
import Derived.ProofKit
import Derived.OpenShut
import Derived.JoinedCond
import Derived.WalkKit
import Derived.RangeFuncIn
set_option linter.all false
open Go.IntKind (wrap)
open List (getD take drop)
namespace Go.AM
def oJ {e b x}(h:∀t,x=.tmp t->b t=e t):evF b x=evF e x:=by
 cases x with
 |tmp t=>exact h t rfl
 |_=>rfl
def ux {h h' x o es}(b:j7 h x=some (o,es))(d:h' o=h o):j7 h' x=some (o,es):=by unfold j7 at b ⊢;grind
def iZ {h h' x d}(b:mapL h x=some d)(e:∀k∈d.1,h' k=h k):mapL h' x=some d:=by
 unfold mapL at b ⊢;split at b
 .exact b
 .obtain⟨p,f,rfl⟩:=EM.1 b;rw[ux (o:=p.1) (es:=p.2) f<|e p.1 zb];rfl
def jG {m h h' x key ok r}(b:vz m h x key ok=some r)(f:∀k∈r.rd,h' k=h k):vz m h' x key ok=some r:=by
 unfold vz at b ⊢;split at b
 .split at b
  .rename_i g d;let ⟨o,es⟩:=g;split at b;next q e=>obtain⟨v,i,rfl⟩:=EM.1 b;simp[iZ d f,e,i,S2]
   .cases b
  .cases b
 .cases b
def entE_rd {m o k es q r}(h:entE m o k es q=some r):r.rd=[o]:=by unfold entE at h;grind
def YT {m h h' x key r}(b:wB m h x key=some r)(e:∀k∈r.rd,h' k=h k):wB m h' x key=some r:=by
 unfold wB at b ⊢;split at b
 .split at b
  .rename_i g d;let ⟨o,es⟩:=g;split at b;next q f=>simp[ux d<|e o<|by rw[entE_rd b];simp,f,b]
   .cases b
  .cases b
 .cases b
def qX {h h' x s v r}(b:wm h x s v=some r)(g:∀k∈r.rd,h' k=h k):wm h' x s v=some r:=by
 unfold wm at b ⊢;split at b
 .rename_i i u n m f e;let ⟨o,es⟩:=i;split at b
  .rename_i p d;split at b<;>simp[EO,reduceCtorEq] at b;rename_i j;subst b;simp[ux f<|g o zb,d,e,j,S9]
  .cases b
 .cases b
def uK {m h h' x key v r}(b:yy m h x key v=some r)(f:∀k∈r.rd,h' k=h k):yy m h' x key v=some r:=by
 unfold yy at b ⊢;split at b
 .rename_i k g p i;split at b
  .rename_i j d;let ⟨o,es⟩:=j;split at b
   .rename_i q e;injection b with b;subst b
    simp[ux d<|f o zb,e]
   .cases b
  .cases b
 .cases b
def ZD {h h' x o es}(b:vE h x=some (o,es))(d:h' o=h o):vE h' x=some (o,es):=by unfold vE at b ⊢;grind
def gQ {h h' x o es}(d:j7 (λo=>flat<|h o) x=some (o,es))(b:vE h x=none)(e:h' o=h o):vE h' x=none:=by unfold j7 at d;unfold vE at b ⊢;grind
def cX {h h' x d}(b:Zj h x=some d)(e:∀k∈d.1,h' k=h k):Zj h' x=some d:=by
 unfold Zj at b ⊢;split at b
 .exact b
 .obtain⟨p,f,rfl⟩:=EM.1 b;rw[ZD (o:=p.1) (es:=p.2) f<|e p.1 zb];rfl
def m4 {h h' x f}(d:mapL (λo=>flat<|h o) x=some f)(b:Zj h x=none)(g:∀k∈f.1,h' k=h k):Zj h' x=none:=by
 unfold Zj at b ⊢;split at b
 .cases b
 .rename_i e;unfold mapL at d;split at d
  .rfl
  .obtain⟨p,i,rfl⟩:=EM.1 d;rw[gQ (o:=p.1) (es:=p.2) i (Option.map_eq_none_iff.1 b)<|g p.1 zb];rfl
def WU {m h h' x key ok r}(b:wo m h x key ok=some r)(f:∀k∈r.rd,h' k=h k):wo m h' x key ok=some r:=by
 unfold wo at b;split at b
 .rename_i j d;have e:r.rd=j.1:=by
   split at b
   .split at b
    .obtain⟨v,_,rfl⟩:=EM.1 b;rfl
    .obtain⟨v,_,rfl⟩:=EM.1 b;rfl
    .cases b
   .cases b
  unfold wo;simp[cX d λk i=>f k<|e▸i];exact b
 .rename_i p;have g:Zj h' x=none:=by
   unfold vz at b;split at b
   .split at b
    .rename_i j d;split at b
     .obtain⟨v,_,rfl⟩:=EM.1 b;exact m4 d p f
     .cases b
    .cases b
   .cases b
  unfold wo;simp[g];exact(jG (h':=λo=>flat<|h' o) b λk i=>zd)
def ZT {m h h' x key v r}(b:yN m h x key v=some r)(f:∀k∈r.rd,h' k=h k):yN m h' x key v=some r:=by
 unfold yN at b;split at b
 .rename_i e d;let ⟨o,es⟩:=e;have g:r.rd=[o]:=by
   split at b
   .split at b
    .obtain⟨v,_,rfl⟩:=EM.1 b;rfl
    .cases b
   .cases b
  unfold yN;simp[ZD d<|f o zd];exact b
 .rename_i j;have p:=uK (h':=λo=>flat<|h' o) b (λk u=>zd);have i:vE h' x=none:=by
   unfold yy at b;split at b
   .split at b
    .rename_i e d;let ⟨o,es⟩:=e;split at b
     .injection b with b;subst b
      exact gQ d j<|f o zb
     .cases b
    .cases b
   .cases b
  unfold yN;grind
def E5 {P o fr ρ e h}(f:∀x∈o.op.operands,e x=ρ x):aop P o fr e h=aop P o fr ρ h:=by
 let ⟨C,D,z,A,v,w⟩:=o
 have g:∀i:Array<|Nat×Operand,(∀x∈(i.toList.map (·.2)),e x=ρ x)->(i.toList.map λp=>(p.1,e p.2))=(i.toList.map λp=>(p.1,ρ p.2)):=λi f=>
  SU λp E=>zd
 have d:∀o:Option Operand,(∀x∈o.toArray,e x=ρ x)->o.map e=o.map ρ:=λo F=>by cases o<;>simp_all
 cases D;case build t i=>simp[aop];rw[g i λx u=>f x<|by simpa[Op.operands] using u]
 case buildSlice t n i=>simp[aop];rw[g i λx u=>f x<|by simpa[Op.operands] using u]
 case makeFunc fn first captured=>simp[aop];rw[SU (l:=first.toList) λx u=>f x<|by simp[Op.operands];exact .inl zd,SU (l:=captured.toList) λx u=>f x<|by simp[Op.operands];exact .inr zd]
 case slice t x lo hi mx=>simp[aop];rw[f x<|by simp[Op.operands],d lo λy j=>f y<|by simp[Op.operands] at j ⊢;simp[j],d hi λy j=>f y<|by simp[Op.operands] at j ⊢;simp[j],d mx λy j=>f y<|by simp[Op.operands] at j ⊢;simp[j]]
 case call c=>
  let ⟨callee,args,G⟩:=c;cases callee with
  |builtin b=>simp[aop];rw[SU (l:=args.toList) λx u=>f x<|by simp[Op.operands,Call.operands];exact zl u]
  |value x=>rfl
  |invoke x m=>rfl
 case makeMap t r=>cases r<;>rfl
 all_goals simp only[aop,Op.operands] at f ⊢
 all_goals first
  |rfl
  |(simp[List.mem_toArray,S4,List.not_mem_nil,or_false,forall_eq_or_imp,forall_eq] at f;simp[f])
def dM {d h h' x r}(b:wD d h x=some r)(e:∀k∈r.2,h' k=h k):wD d h' x=some r:=by
 unfold wD at b ⊢;split at b
 .grind
 .exact b
 .cases b
def Zn {d h h' x y r}(b:uh d h x y=some r)(e:∀k∈r.rd,h' k=h k):uh d h' x y=some r:=by unfold uh at b ⊢;grind
def xY {n h h' x r}(b:w7 n h x=some r)(d:∀k∈r.2,h' k=h k):w7 n h' x=some r:=by unfold w7 at b ⊢;grind
def Jy {d fr h h' s x r}(b:jB d fr h s x=some r)(f:∀k∈r.rd,h' k=h k):jB d fr h' s x=some r:=by
 unfold jB at b ⊢;split at b
 .rename_i u;rw[EL u];unfold xf at b ⊢;cases e:w7 d.size h x with
  |none=>rw[e] at b;cases b
  |some q=>
   let ⟨p,rd⟩:=q;rw[e] at b;simp at b;split at b
   .have:∀k∈rd,h' k=h k:=by grind
    rw[xY e this];exact b
   .have:∀k∈rd,h' k=h k:=by grind
    rw[xY e this];exact b
   .rename_i o n j g;split at b
    .rename_i m es w;split at b
     .rename_i i;injection b with b;subst b
      rw[xY e λk v=>f k<|EP _ v];grind
     .cases b
    .cases b
   .cases b
 .cases b
def lJ {d h h' x r}(b:lenP d h x=some r)(e:∀k∈r.2,h' k=h k):lenP d h' x=some r:=by
 unfold lenP at b ⊢;split at b
 .exact b
 .exact b
 .unfold tj at b ⊢;grind
 .exact b
 .cases b
def qa {P o fr ρ h h' r}(f:aop P o fr ρ h=some r)(j:∀k∈r.rd,h' k=h k):aop P o fr ρ h'=some r:=by
 let ⟨d,F,t,p,H,g⟩:=o;cases F;case load lt x=>simp[aop] at f ⊢;let ⟨w,hd,i⟩:=zO f;obtain⟨q,D,rfl⟩:=EM.1 i;simp[yl,hd,dM D j,S2]
 case store st x y=>simp[aop] at f ⊢;let ⟨w,hd,i⟩:=zO f;simp[yl,hd,Zn i j]
 case convert src dst x=>
  simp[aop] at f ⊢;split at f
  .let ⟨w,hd,i⟩:=zO f;simp[textA,yl,hd];split at i
   .split at i;next es rd E=>obtain⟨l,A,rfl⟩:=EM.1 i;simp[xY E j,A,S2]
    .cases i
   .cases i
  .exact f
 case call c=>
  let ⟨callee,args,J⟩:=c;cases callee with
  |builtin b=>
   simp[aop] at f ⊢;unfold xQ at f ⊢;split at f
   .let ⟨w,hd,i⟩:=zO f;obtain⟨q,D,rfl⟩:=EM.1 i;simp[yl,hd,lJ D j,S2]
   .split at f
    .rename_i z;let ⟨w,e,I,hd,G,C,i⟩:=y9 f;rw[EL z];unfold yf;rw[hd];simp;rw[G];simp;rw[C];exact Jy i j
    .grind
   .exact f
   .exact f
   .exact f
   .cases f
  |value x=>exact f
  |invoke x m=>exact f
 case lookup lt x ix ok=>simp[aop] at f ⊢;let ⟨m,u,i⟩:=yn f;simp[xg,u,jG i j]
 case mapEntry lt x k=>simp[aop] at f ⊢;let ⟨m,u,i⟩:=yn f;simp[xg,u,YT i j]
 case entryStore lt x s v=>simp[aop] at f ⊢;exact qX f j
 case mapUpdate lt x k v=>simp[aop] at f ⊢;let ⟨m,u,i⟩:=yn f;simp[xg,u,uK i j]
 case makeMap lt r=>cases r<;>exact f
 all_goals exact f
def KI {d h h' x y r}(b:uL d h x y=some r)(e:∀k∈r.rd,h' k=h k):uL d h' x y=some r:=by
 unfold uL at b ⊢;split at b
 .rename_i cs o n i j g;split at b
  .grind
  .rename_i m;have f:r.rd=[o]:=by unfold uh at b;grind
   have p:=e o zd;split
   .grind
   .exact Zn b e
 .cases b
def gn {n h h' x}(e:∀o m d b,x=.c (.a<|.osl o m d b)->h' o=h o):ki n h' x=ki n h x:=by unfold ki;grind
def AB {n h o m d b e rd}(f:ki n h (.c<|.a<|.osl o m d b)=some (e,rd)):o∈rd:=by unfold ki at f;grind
def WR {n h o m d b e rd}(f:w7 n h (.c<|.a<|.osl o m d b)=some (e,rd)):o∈rd:=by unfold w7 at f;grind
def Z0 {d:TyD}{fr:Nat}{h:Nat->AObj}{s x:TV}{r:AR}(e:xf d fr h s x=some r):∃b rd,w7 d.size h x=some (b,rd)/\(∀k∈rd,k∈r.rd):=by unfold xf at e;grind
def jT {d:TyD}{fr:Nat}{h h':Nat->AObj}{s x:TV}{r:AR}(f:xf d fr h s x=some r)(g:∀k∈r.rd,h' k=h k):xf d fr h' s x=some r:=by obtain⟨j,rd,e,b⟩:=Z0 f;unfold xf at f ⊢;rw[e] at f;rw[xY e λk i=>g k<|b k i];grind
def JN {d:TyD}{fr:Nat}{h h':Nat->AObj}{s x:TV}{r:AR}(b:wk d fr h s x=some r)(z:∀k∈r.rd,h' k=h k):wk d fr h' s x=some r:=by
 have f:∀k∈r.rd,flat (h' k)=flat (h k):=λk F=>zd;have C:∀o m j g,x=.c (.a<|.osl o m j g)->h' o=h o:=by
  intro o m j g e;subst e;unfold wk at b;split at b
  .rename_i v rd i;have D:=AB i;split at b
   .grind
   .grind
   .split at b
    .grind
    .obtain⟨p,y,w,u⟩:=Z0 b;exact z o<|u o<|WR w
   .cases b
  .obtain⟨p,y,w,u⟩:=Z0 b;exact z o<|u o<|WR w
 unfold wk at b ⊢;rw[gn C];split at b
 .rename_i v rd i;split at b
  .exact b
  .exact b
  .rename_i o n j g;split at b
   .grind
   .rename_i A;have E:h' o=h o:=by
     have:o∈r.rd:=by unfold xf at b;grind
     grind
    split
    .grind
    .exact jT b f
  .cases b
 next i=>exact jT b f
def YG {h h' x}(e:∀k∈oslW x,h' k=h k):qB h' x=qB h x:=by
 unfold qB;split;next o n b d=>rw[e o<|by simp[oslW]]
 .rfl
def ZN {h h'}:∀ {l},(∀k∈l.flatMap oslW,h' k=h k)->vv h' l=vv h l
 |[],_=>rfl
 |x::l,b=>by simp only[vv];rw[YG λk d=>b k zd,ZN λk d=>b k zd]
def dI {h h' x}(b:∀k∈oslT x,h' k=h k):ZW h' x=ZW h x:=by
 cases x with
 |c x=>simp only[ZW];rw[YG b]
 |agg cs=>simp only[ZW];rw[ZN b]
 |_=>rfl
def jo {h h'}:∀ {l},(∀k∈oslP l,h' k=h k)->vq h' l=vq h l
 |[],_=>rfl
 |(i,x)::l,d=>by simp only[vq];rw[dI λk b=>d k<|by simp only[oslP,F0];exact Gj _ b,jo λk b=>d k<|by simp only[oslP,F0];exact GN _ b]
def lR {P o fr ρ f h}(d:∀x∈o.op.operands,f x=ρ x):aopF P o fr f h=aopF P o fr ρ h:=by
 have w:=E5 (P:=P) (o:=o) (fr:=fr) (h:=λo=>flat<|h o) d;let ⟨C,D,z,A,j,u⟩:=o
 have e:∀g:Array<|Nat×Operand,(∀x∈(g.toList.map (·.2)),f x=ρ x)->(g.toList.map λp=>(p.1,f p.2))=(g.toList.map λp=>(p.1,ρ p.2)):=λg d=>
  SU λp E=>zd
 cases D;case build t g=>simp[aopF];rw[e g λx i=>d x<|by simpa[Op.operands] using i]
 case buildSlice t n g=>simp[aopF];rw[e g λx i=>d x<|by simpa[Op.operands] using i]
 case store t x y=>simp[aopF];rw[d x<|by simp[Op.operands],d y<|by simp[Op.operands]]
 case call c=>
  let ⟨callee,args,F⟩:=c;cases callee with
  |builtin b=>simp[aopF];rw[SU (l:=args.toList) λx i=>d x<|by simp[Op.operands,Call.operands];exact zl i]
  |value x=>exact w
  |invoke x m=>exact w
 case makeSlice t l c=>simp[aopF];rw[d l<|by simp[Op.operands],d c<|by simp[Op.operands]]
 case lookup t x ix ok=>simp[aopF];rw[d x<|by simp[Op.operands],d ix<|by simp[Op.operands]]
 case mapUpdate t x k v=>simp[aopF];rw[d x<|by simp[Op.operands],d k<|by simp[Op.operands],d v<|by simp[Op.operands]]
 case makeMap t r=>cases r<;>rfl
 all_goals exact w
def ny {P o fr ρ h h' r}(b:aopF P o fr ρ h=some r)(j:∀k∈r.rd,h' k=h k):aopF P o fr ρ h'=some r:=by
 have f:∀k∈r.rd,flat (h' k)=flat (h k):=λk F=>zd;cases d:o.op;case store st x y=>simp[aopF,d] at b ⊢;let ⟨H,hd,i⟩:=zO b;simp[yl,hd,KI i j]
 case build bt parts=>simp only[aopF,d] at b ⊢;obtain⟨v,C,rfl⟩:=EM.1 b;rw[jo j,C];rfl
 case buildSlice st len parts=>simp only[aopF,d] at b ⊢;obtain⟨v,C,rfl⟩:=EM.1 b;rw[jo j,C];rfl
 case call c=>
  let ⟨callee,args,p⟩:=c;cases callee with
  |builtin bb=>
   simp[aopF,d] at b ⊢;by_cases L:∃E t2 G D,bb=.append/\p.toList=[E,t2]/\args.toList.map ρ=[G,D]
   .obtain⟨E,t2,G,D,rfl,I,K⟩:=L;rw[I,K] at b ⊢;simp[xx] at b ⊢;split at b
    .rename_i u;let ⟨H,e,M,hd,F,z,i⟩:=y9 b;rw[EL u];unfold yf;rw[hd];simp;rw[F];simp;rw[z];dsimp only;unfold Y3 at i ⊢;split at i;next J=>rw[EL J];exact JN i j
     .cases i
    .grind
   .have A:∀h,xx P bb p.toList fr h (args.toList.map ρ)=xQ P bb p.toList fr (λo=>flat<|h o) (args.toList.map ρ):=by intro h;unfold xx;grind
    rw[A] at b ⊢;have e:∀g,aop P o fr ρ g=xQ P bb p.toList fr g (args.toList.map ρ):=λg=>by simp[aop,d]
    rw[<-e] at b ⊢;exact qa (h':=λo=>flat _) b f
  |value x=>
   have e:∀g,aopF P o fr ρ g=aop P o fr ρ (λk=>flat<|g k):=λg=>by simp[aopF,d]
   rw[e] at b ⊢;exact qa b f
  |invoke x m=>
   have e:∀g,aopF P o fr ρ g=aop P o fr ρ (λk=>flat<|g k):=λg=>by simp[aopF,d]
   rw[e] at b ⊢;exact qa b f
 case makeSlice st l c=>simp[aopF,d] at b ⊢;exact b
 case lookup lt x ix ok=>simp[aopF,d] at b ⊢;let ⟨m,w,i⟩:=yn b;simp[xg,w,WU i j]
 case mapUpdate lt x k v=>simp[aopF,d] at b ⊢;let ⟨m,w,i⟩:=yn b;simp[xg,w,ZT i j]
 case makeMap lt r=>
  cases r with
  |none=>simp[aopF,d] at b ⊢;exact b
  |some r=>simp[aopF,d] at b ⊢;exact qa b f
 all_goals
  have e:∀g,aopF P o fr ρ g=aop P o fr ρ (λk=>flat<|g k):=λg=>by simp[aopF,d]
  rw[e] at b ⊢;exact qa b f
def iC {P o fr ρ b h}(d:∀x∈o.op.operands,b x=ρ x):aopS P o fr b h=aopS P o fr ρ h:=by unfold aopS;rw[lR d];congr 1;funext r;exact dN d
def nr {P o fr ρ h h' r}(d:aopS P o fr ρ h=some r)(b:∀k∈r.rd,h' k=h k):aopS P o fr ρ h'=some r:=by obtain⟨r0,e,rfl⟩:=EM.1 d;rw[softA_rd] at b;unfold aopS;rw[ny e b,S2,iT b]
def lL {P f args h h' fr r u rd}(M:CallK P f args h fr λr' e d=>r'=r/\e=u/\d=rd)(j:∀k∈rd,h' k=h k):
  CallK P f args h' fr (λr' e d=>r'=r/\e=u/\d=rd):=by
 let ⟨b,L,args',Hs,r0,Hs',H,g,A,⟨V,K⟩,v,S,U,o,F,D,J,N,w⟩:=M;subst w;have G:∀i∈b,h' i=h i:=λi G=>j i zd;refine⟨b,L,args',Hs,r0,Hs',H,g,A,⟨?_,K⟩,v,S,λi m=>zd,?_,F,λi m=>?_,J,N,rfl⟩
 .simp_all
 .rcases o with o|⟨z,x,C,E⟩
  .grind
  .exact .inr ⟨λp I=>(j p.1 zd)▸z p I,x,C,E⟩
 .have O:=D i m;let ⟨k,y,T,_,_⟩:=YV g.1 O;grind
def i7 {P f args h h' fr r u rd}(T:CallE P f args h fr λr' o i=>r'=r/\o=u/\i=rd)(z:∀k∈rd,h' k=h k):
  CallE P f args h' fr (λr' o i=>r'=r/\o=u/\i=rd):=by
 let ⟨E,C,b,L,args',Hs,r0,Hs',N,w,H,V,y,X,S,J,F,K,k1,k2,k3⟩:=T;have j:E.ok h':=λp O=>(z p.1 zd)▸C p O;have e:∀k∈b++L.map Prod.fst,over (E.map λp=>(p.1,AObj.gone)) h' k=over (E.map λp=>(p.1,AObj.gone)) h k:=by intro k hk;unfold over;grind
 let ⟨g,L',d,Hs2,v,Hs2',G,D,I,M,A,x,U,W,F',m,Y,Z,j3⟩:=lL (r:=r0.ren _) (u:=(yr _ b Hs'++xI _ fr _).filter λp=> !F.contains p.1) (rd:=b++L.map Prod.fst) ⟨b,L,args',Hs,r0,Hs',N,w,H,V,y,X,S,J,F,K,rfl,rfl,rfl⟩ e;exact⟨E,j,g,L',d,Hs2,v,Hs2',G,D,I,M,A,x,U,W,F',m,zd,zd,zd⟩
def Z6 {f o e i}(h:∀t∈o.looksAt f,i t=e t):want f o i=want f o e:=by
 unfold want;cases m:o.guard with
 |none=>rfl
 |some g=>
  let ⟨j,b⟩:=g;simp only;cases hd:(f[j]?).bind (·.dst) with
  |none=>rfl
  |some d=>
   have:i d=e d:=h d (by simp[Oper.looksAt,m,hd]);grind
def KU {P i o fr e u h h' w}(A:OpStep P i o fr e h w)(p:∀t∈o.looksAt i,u t=e t)(z:∀k∈w.rd,h' k=h k):OpStep P i o fr u h' w:=by
 have b:∀x∈o.op.operands,evF u x=evF e x:=λx H=>oJ λt C=>p t (by subst C;exact Gj _ (List.mem_filterMap.2 ⟨.tmp t,zd,rfl⟩));cases A with
 |skip m=>exact .skip<|(Z6 p)▸m
 |plain r m d D=>exact .plain r ((Z6 p)▸m) d<|nr ((iC b)▸D) z
 |call c f args r upd rd m d E F=>
  refine .call c f args r upd rd ((Z6 p)▸m) d ?_<|i7 F z;rw[<-E];have j:o.op.operands=c.operands:=by
   unfold goCall at d;split at d;next v=>injection d with d;subst d;rw[v];rfl
   .cases d
  rw[j] at b;unfold calleeOf;cases g:c.callee with
  |value x=>simp;rw[b x<|by simp[Call.operands,g],SU (l:=c.args.toList) λy G=>b y<|by simp[Call.operands,g];exact .inr zd]
  |_=>rfl
inductive Chain (P:Program)(ops:Array Oper)(nx:Nat):List Oper->Nat->(Nat->TV)->(Nat->AObj)->List Dl->Prop
 |nil (i:Nat) (e:Nat->TV) (h:Nat->AObj):Chain P ops nx [] i e h []
 |cons (o:Oper) (l:List Oper) (i:Nat) (e:Nat->TV) (h:Nat->AObj) (δ:Dl) (δs:List Dl):OpStep P ops o (nx+32*i) e h δ->δ.dst=o.dst->Chain P ops nx l (i+1) (putF δ.dst δ.val e) (over δ.upd h) δs->Chain P ops nx (o::l) i e h (δ::δs)
def endE (e:Nat->TV):List Dl->(Nat->TV)
 |[]=>e
 |δ::δs=>endE (putF δ.dst δ.val e) δs
def endH (h:Nat->AObj):List Dl->(Nat->AObj)
 |[]=>h
 |δ::δs=>endH (over δ.upd h) δs
def KF (u H):hook (u++H)=over u (hook H):=funext λo=>dT u H o
def qu {P u nx K}:∀(l) (i) (e) (h) (v),lex P u nx l i e h v K->
  ∃b x h' m,Chain P u nx l i (look e) (hook h) b/\look x=endE (look e) b/\hook h'=endH (hook h) b/\m=(b.map λd=>(d.rd,d.upd.map Prod.fst)).reverse++v/\K x h' m
 |[],i,e,h,v,g=>⟨[],e,h,v,.nil _ _ _,rfl,rfl,rfl,g⟩
 |o::l,i,e,h,v,g=>by
  have fin:∀(d) C A,OpStep P u o (nx+32*i) (look e) (hook h) d->d.dst=o.dst->look C=putF d.dst d.val (look e)->hook A=over d.upd (hook h)->
    lex P u nx l (i+1) C A ((d.rd,d.upd.map Prod.fst)::v) K->
    ∃b x h' m,Chain P u nx (o::l) i (look e) (hook h) b/\look x=endE (look e) b/\hook h'=endH (hook h) b/\m=(b.map λd=>(d.rd,d.upd.map Prod.fst)).reverse++v/\K x h' m:=by
   intro d C A T hd N J g;let ⟨b,x,h',m,S,M,c3,c4,Z⟩:=qu l (i+1) C A _ g;rw[N,J] at S;rw[N] at M;rw[J] at c3;exact⟨d::b,x,h',m,.cons o l i _ _ d b T hd S,M,c3,zd,Z⟩
  rw[lex] at g;unfold gj at g;split at g
  .grind
  .rename_i w I;split at g
   .rename_i z;subst z;unfold lW at g;split at g
    .rename_i c G;split at g
     .rename_i f args O;have y:calleeOf (evF<|look e) c=some (f,args):=by assumption
      let ⟨E,W,j,L,args',Hs,r,Hs',Y,X,g3,g4,V,U,g7,g8,F,hF,hk⟩:=g
      exact fin ⟨o.dst,r.ren<|sub j _,((yr _ j Hs'++xI _ _ _).filter λp=> !F.contains p.1)++E.map λp=>(p.1,AObj.gone),(j++L.map Prod.fst)++E.map Prod.fst⟩ _ _
       (.call c f args _ _ _ I G y ⟨E,W,j,L,args',Hs,r,Hs',Y,X,g3,g4,V,U,g7,g8,F,hF,rfl,rfl,rfl⟩) rfl (XG _ _ _) (KF _ _) hk
     .grind
    .rename_i G;split at g
     .rename_i r hr;have D:aopS P o (nx+32*i) (evF<|look e) (hook h)=some r:=by assumption
      exact fin ⟨o.dst,r.val,r.upd,r.rd⟩ _ _ (.plain r I G D) rfl (XG _ _ _) (KF _ _) g
     .grind
   .rename_i z;have H:w=false:=zd;subst H;exact fin ⟨o.dst,.tup [],[],[]⟩ _ _ (.skip I) rfl (XG _ _ _) (by rfl) g
section
variable {P:Program} {ops:Array Oper} {w0:World} {foot:Nat->Prop} {Y:Nat->Prop} {pin:Nat->Option (Option Nat)}
def qx {nx sz:Nat}(v:∀(j:Nat) (q:Oper) (d:Nat),ops[j]?=some q->q.dst=some d->d<sz){Q:Exit->Act->World->Prop}:∀(l:List Oper) (i:Nat) (e:Nat->TV) (h:Nat->AObj) (f:List Dl) (β:Nat->Option Nat) (a:Act) (w:World),
  (∀o∈l,∃j:Nat,ops[j]?=some o)->Chain P ops nx l i e h f->a.tmps.size=sz->RelF P w0 foot Y pin e h β a w->(∀k,Occ pin β k->k<nx+32*i)->(∀p w' g,p.tmps.size=sz->p.defers=a.defers->RelF P w0 foot Y pin (endE e f) (endH h f) g p w'->(∀k,Occ pin g k->k<nx+32*(i+l.length))->Q .normal p w')->wpList P ops Q l a w
 |[],i,e,h,f,β,a,w,_,u,r,C,x,G=>by cases u;exact G a w β r rfl C za
 |o::l,i,e,h,f,β,a,w,m,u,r,C,x,G=>by
  cases u with
  |cons _ _ _ _ _ V f M hd u=>
   obtain⟨j,U⟩:=m o zb;refine wpList_step λK T=>?_;have L:∀j,j<32->β (nx+32*i+j)=none:=by
    intro j _;cases F:β (nx+32*i+j) with
    |none=>rfl
    |some b=>have:=x (nx+32*i+j) (.inl zd);omega
   have A:∀j,j<32->pin (nx+32*i+j)=none:=by
    intro j _;cases F:pin (nx+32*i+j) with
    |none=>rfl
    |some b=>have:=x (nx+32*i+j) (.inr zd);omega
   refine ZI C L A zd (λd hd=>zd) M λp w' g O D I H=>?_;refine T p w'<|qx v l (i+1) _ _ f g p w' (λo S=>m o<|EP _ S) u za I (λk hk=>?_) λJ E z h1 y N W=>G J E z h1 (y.trans D) N λk hk=>?_
   .rcases hk with hk|hk
    .rcases H k hk with h1|h1
     .have:=x k (.inl h1);omega
     .omega
    .have:=x k (.inr hk);omega
   .grind
end
def eD (e0:Nat->TV)(δ:Nat->Dl)(D:Nat->Bool):Nat->(Nat->TV)
 |0=>e0
 |k+1=>if D k=true then putF (δ k).dst (δ k).val (eD e0 δ D k) else eD e0 δ D k
def hD (h0:Nat->AObj)(δ:Nat->Dl)(D:Nat->Bool):Nat->(Nat->AObj)
 |0=>h0
 |k+1=>if D k=true then over (δ k).upd (hD h0 δ D k) else hD h0 δ D k
def wI {d v e t}(h:d=some t):putF d v e t=v:=by subst h;simp[putF,AM.upd]
def kJ {d v e t}(h:d≠some t):putF d v e t=e t:=by
 cases d with
 |none=>rfl
 |some i=>simp only[putF,AM.upd];rw[EG λe=>h<|by rw[e]]
def wL {u:AHeap}{h x}(b:zZ u x=none):over u h x=h x:=by simp[over,b]
variable {e0:Nat->TV} {h0:Nat->AObj} {δ:Nat->Dl}
def Kc {D D' t}:∀k,(∀j,j<k->(δ j).dst=some t->D j=D' j)->eD e0 δ D k t=eD e0 δ D' k t
 |0,_=>rfl
 |k+1,h=>by
  have ih:=Kc k (λj b=>h j za);simp[eD];by_cases hd:(δ k).dst=some t
  .have:=h k za hd;rw[this];split
   .rw[wI hd,wI hd]
   .exact ih
  .split<;>split<;>simp[kJ hd,ih]
def Jk {D D' x}:∀k,(∀j,j<k->zZ (δ j).upd x≠none->D j=D' j)->hD h0 δ D k x=hD h0 δ D' k x
 |0,_=>rfl
 |k+1,h=>by
  have ih:=Jk k (λj b=>h j za);simp[hD];cases hd:zZ (δ k).upd x with
  |some y=>
   have:=h k za (by rw[hd];simp);rw[this];split
   .simp[over,hd]
   .exact ih
  |none=>split<;>split<;>simp[wL hd,ih]
def add (D:Nat->Bool)(i k:Nat):=if k=i then true else D k
def eD_add {D i t}(m:D i=false):∀n,i<n->(∀j,i<j->j<n->D j=true->(δ i).dst=some t->(δ j).dst≠some t)->eD e0 δ (add D i) n t=putF (δ i).dst (δ i).val (eD e0 δ D n) t
 |0,h,_=>za
 |n+1,h,g=>by
  by_cases f:i=n
  .subst f;simp[eD,add,S9,m,S5,Sj];by_cases hd:(δ i).dst=some t
   .rw[wI hd,wI hd]
   .rw[kJ hd,kJ hd];exact Kc i (λj p _=>by simp[add,(za:j≠i)])
  .have ih:=eD_add m n za (λj o r=>g j o za);simp[eD,add,show¬n=i from λe=>f e.symm,Sj];by_cases d:D n=true
   .simp[d,S9];by_cases hd:(δ n).dst=some t
    .have b:=λb=>g n za za d b hd;rw[wI hd,kJ b,wI hd]
    .rw[kJ hd];by_cases b:(δ i).dst=some t
     .rw[wI b];rw[wI b] at ih;exact ih
     .rw[kJ b,kJ hd];rw[kJ b] at ih;exact ih
   .grind
def hD_add {D i x}(m:D i=false):∀n,i<n->(∀j,i<j->j<n->D j=true->zZ (δ i).upd x≠none->zZ (δ j).upd x=none)->hD h0 δ (add D i) n x=over (δ i).upd (hD h0 δ D n) x
 |0,h,_=>za
 |n+1,h,g=>by
  by_cases f:i=n
  .subst f;simp[hD,add,S9,m,S5,Sj];cases hd:zZ (δ i).upd x with
   |some y=>simp[over,hd]
   |none=>rw[wL hd,wL hd];exact Jk i (λj p _=>by simp[add,(za:j≠i)])
  .have ih:=hD_add m n za (λj o r=>g j o za);simp[hD,add,show¬n=i from λe=>f e.symm,Sj];by_cases d:D n=true
   .simp[d,S9];cases hd:zZ (δ n).upd x with
    |some y=>
     have b:zZ (δ i).upd x=none:=by grind
     rw[wL b];simp[over,hd]
    |none=>
     rw[wL hd];cases b:zZ (δ i).upd x with
     |some y=>simp[over,b] at ih ⊢;exact ih
     |none=>rw[wL b,wL hd];rw[wL b] at ih;exact ih
   .grind
inductive Anc (ops:Array Oper)(i:Nat):Nat->Prop
 |one (j:Nat) (o:Oper) (e:Edge):ops[j]?=some o->e∈o.after->Region.binds .any e=true->e.on=i->Anc ops i j
 |more (j:Nat) (o:Oper) (e:Edge):ops[j]?=some o->e∈o.after->Region.binds .any e=true->Anc ops i e.on->Anc ops i j
def Wm {b} {D:Nat->Bool} (hD:∀(j) o e,b[j]?=some o->D j=true->e∈o.after->Region.binds .any e=true->D e.on=true) {i j} (h:Anc b i j)
  (m:∀(o) e,b[j]?=some o->e∈o.after->Region.binds .any e=true->D e.on=true):D i=true:=by
 induction h with
 |one j o e f g d v=>rw[<-v];exact m o e f g d
 |more j o e f g d _ ih=>exact ih λo' w p r u=>hD _ o' w p (m o e f g d) r u
def WJ {b}(p:∀(j) o e,b[j]?=some o->e∈o.after->Region.binds .any e=true->e.on<j)(j i)(h:((Region.before b).getD j 0).testBit i=true):Anc b i j:=by
 let F:Array Nat->Oper->Array Nat:=λacc o=>acc.push<|o.after.foldl (λs e=>if Region.binds .any e then s ||| 2^e.on ||| acc.getD e.on 0 else s) 0;have key:∀(l:List Oper) k acc,(∀j,l[j]?=b[k+j]?)->acc.size=k->(∀j,j<k->∀i,(acc.getD j 0).testBit i=true->Anc b i j)->∀j i,((l.foldl F acc).getD j 0).testBit i=true->Anc b i j:=by
  intro l
  induction l with
  |nil=>grind
  |cons o l ih=>
   intro k acc C m f j i hb;simp only[Gz] at hb;have y:b[k]?=some o:=by simpa using (C 0).symm
   refine ih (k+1) _ (λj=>by have:=C (j+1);simpa[GF,GS 1 j] using this) zd (λj z i hb=>?_) j i hb;by_cases g:j<k
   .refine f j g i ?_;simp[F,SB,Sm,show¬j=acc.size by omega,Sj] at hb;simpa[SB] using hb
   .have g:j=k:=za;subst g;simp only[F,SB,Sm,m,S9,Sq] at hb;have v:∀(es:List Edge),(∀e∈es,e∈o.after)->∀s,(s.testBit i=true->Anc b i j)->((es.foldl (λs e=>if Region.binds .any e then s ||| 2^e.on ||| acc.getD e.on 0 else s) s).testBit i=true)->Anc b i j:=by
     intro es
     induction es with
     |nil=>intro _ s w hb;exact w hb
     |cons e es x=>
      intro u s w hb;simp only[Gz] at hb;refine x (λe h=>u e<|EP _ h) _ (λhb=>?_) hb;have r:=u e zb;split at hb
      .rename_i d;simp only[Nat.testBit_or,Nat.testBit_two_pow,Bool.or_eq_true,Sf] at hb;rcases hb with(hb|hb)|hb
       .exact w hb
       .exact .one j o e y r d hb
       .have A:=p j o e y r d;exact .more j o e y r d<|f e.on A i hb
      .exact w hb
    refine v o.after.toList (λe h=>zd) 0 (λh=>by simp at h) ?_;rw[<-Array.foldl_toList] at hb;simpa[SB] using hb
 have:=key b.toList 0 #[] (λj=>zb) rfl (λj z=>za) j i;apply this;rw[Array.foldl_toList];exact h
def ff {P g nx}:∀ {l} {i} {e} {h} {b},Chain P g nx l i e h b->b.length=l.length/\
  ∀k o,l[k]?=some o->∃d,b[k]?=some d/\d.dst=o.dst/\OpStep P g o (nx+32*(i+k)) (endE e<|b.take k) (endH h<|b.take k) d
 |[],i,e,h,b,j=>by cases j;exact⟨rfl,λk o f=>by simp at f⟩
 |o::l,i,e,h,b,j=>by
  cases j with
  |cons _ _ _ _ _ d b m hd j=>
   let ⟨w,x⟩:=ff j;refine⟨by simp[w],λk o' f=>?_⟩;cases k with
   |zero=>simp at f;subst f;exact⟨d,rfl,hd,by simpa[endE,endH] using m⟩
   |succ k=>
    let ⟨p,r,u,v⟩:=x k o' zd;refine⟨p,zl r,u,?_⟩;rw[(za:i+(k+1)=i+1+k)];simpa[endE,endH] using v
def r7 (e0)(b:List Dl)(g D):∀k,k<=b.length->(∀j,j<k->D j=true)->endE e0 (b.take k)=eD e0 (λj=>b.getD j g) D k:=by
 have f:∀(l) e d,endE e (l++[d])=putF d.dst d.val (endE e l):=by
  intro l;induction l with
  |nil=>intro e d;rfl
  |cons x l ih=>intro e d;exact ih _ _
 intro k
 induction k with
 |zero=>intro _ _;rfl
 |succ k ih=>intro m hD;have h:k<b.length:=za;rw[GD h,f,ih za λj i=>hD j za];simp[eD,hD k za,S9,getD,EU h,Sq]
def Aj (m)(b:List Dl)(f D):∀k,k<=b.length->(∀j,j<k->D j=true)->endH m (b.take k)=hD m (λj=>b.getD j f) D k:=by
 have e:∀(l) h d,endH h (l++[d])=over d.upd (endH h l):=by
  intro l;induction l with
  |nil=>intro h d;rfl
  |cons x l ih=>intro h d;exact ih _ _
 intro k
 induction k with
 |zero=>intro _ _;rfl
 |succ k ih=>intro p i;have g:k<b.length:=za;rw[GD g,e,ih za λj o=>i j za];simp[hD,i k za,S9,getD,EU g,Sq]
def upTo (i j:Nat):Bool:=decide (j<i)
def o9 (e0 d i):∀n,i<=n->eD e0 d (upTo i) n=eD e0 d (upTo i) i
 |0,h=>by have:i=0:=za
          grind
 |n+1,h=>by
  by_cases b:i=n+1
  .rw[b]
  .simp[eD];rw[EG<|by simp[upTo];omega];exact o9 e0 d i n za
def nu (e d i):∀n,i<=n->hD e d (upTo i) n=hD e d (upTo i) i
 |0,h=>by have:i=0:=za
          grind
 |n+1,h=>by
  by_cases b:i=n+1
  .rw[b]
  .simp[hD];rw[EG<|by simp[upTo];omega];exact nu e d i n za
def XL {u:AHeap}{x}(h:zZ u x≠none):x∈u.map Prod.fst:=by
 cases b:zZ u x with
 |none=>exact absurd b h
 |some y=>exact SG.2 ⟨_,kE b,rfl⟩
def iM {b:Array Oper}{g:wj}(h:Jj b g=true):
  (∀(j:Nat) (o:Oper) (e:Edge),b[j]?=some o->e∈o.after->Region.binds .any e=true->e.on<j)/\
  ∀(i j:Nat) (p r:Oper) (m d:List Nat×List Nat),i<j->b[i]?=some p->b[j]?=some r->g.reverse[i]?=some m->g.reverse[j]?=some d->((Region.before b).getD j 0).testBit i=false->
   p.apart b r=true/\(∀o∈m.2,o ∉ d.1/\o ∉ d.2)/\(∀o∈d.2,o ∉ m.1):=by
 simp only[Jj,EN] at h;obtain⟨⟨_,F⟩,H⟩:=h;refine⟨λj o e D G E=>?_,λi j p r m d v z x y w f=>?_⟩
 .have:=Sc.1 F (o,j) (by rw[GL];exact zl D);have:=SF.1 this e G;simpa[E] using this
 .have C:((r,d),j)∈(b.toList.zip g.reverse).zipIdx:=by rw[GL];simp only[GW];exact⟨zl x,w⟩
  have A:((p,m),i)∈(b.toList.zip g.reverse).zipIdx:=by rw[GL];simp only[GW];exact⟨zl z,y⟩
  have u:=Sc.1 (Sc.1 H _ C) _ A;simp only[v,decide_true,Bool.not_true,Gh,f,EN,Sc,SK,G5,decide_eq_false_iff_not] at u;exact⟨u.1.1,u.1.2,u.2⟩
section
variable {P:Program} {w0:World} {foot:Nat->Prop} {Y:Nat->Prop} {pin:Nat->Option (Option Nat)}
def kX {e b h h' β a w}(g:RelF P w0 foot Y pin e h β a w)(d:∀t,b t=e t)(f:∀o,h' o=h o):RelF P w0 foot Y pin b h' β a w:=by have:b=e:=funext d;have:h'=h:=funext f;grind
def WP {g:Array Oper} {nx sz:Nat} {e0:Nat->TV} {h0:Nat->AObj} {r:List Dl} {tr:wj} (hch:Chain P g nx g.toList 0 e0 h0 r) (htr:tr=(r.map λT=>(T.rd,T.upd.map Prod.fst)).reverse) (hB:Jj g tr=true)
  (hdst:∀(j:Nat) (q:Oper) (d:Nat),g[j]?=some q->q.dst=some d->d<sz) {Q:Exit->Act->World->Prop}
  (hQ:∀a' w' β',a'.tmps.size=sz->RelF P w0 foot Y pin (endE e0 r) (endH h0 r) β' a' w'->(∀k,Occ pin β' k->k<nx+32*g.size)->Q .normal a' w'):
  ∀(A:Nat) (f:Array Bool) (β:Nat->Option Nat) (a:Act) (w:World),f.size=g.size->((List.range g.size).filter λi=> !f.getD i true).length=A->(∀(j:Nat) (o:Oper) (e:Edge),g[j]?=some o->f.getD j false=true->e∈o.after->Region.binds .any e=true->f.getD e.on false=true)->
   a.tmps.size=sz->RelF P w0 foot Y pin (eD e0 (λj=>r.getD j ⟨none,.any,[],[]⟩) (λj=>f.getD j false) g.size) (hD h0 (λj=>r.getD j ⟨none,.any,[],[]⟩) (λj=>f.getD j false) g.size) β a w->(∀k,Occ pin β k->k<nx\/∃i,i<g.size/\f.getD i false=true/\nx+32*i<=k/\k<nx+32*(i+1))->wpAny P .any g Q A f a w:=by
 obtain⟨L,W⟩:=iM hB;obtain⟨hlen,hget⟩:=ff hch;simp only[Gq,Array.getElem?_toList,Sa] at hlen hget;let I:Dl:=⟨none,.any,[],[]⟩;let T:Nat->Dl:=λj=>r.getD j I;have hδ:∀j o,g[j]?=some o->∃d,r[j]?=some d/\T j=d/\d.dst=o.dst/\tr.reverse[j]?=some (d.rd,d.upd.map Prod.fst):=by intro j o Z;obtain⟨d,h1,p,_⟩:=hget j o Z;grind
 intro A
 induction A with
 |zero=>
  intro f β a w hsz u h J hR hb;have hall:∀i,i<g.size->f.getD i true=true:=by intro i O;have:=S1 u;have p:=List.filter_eq_nil_iff.1 this i (zl O);grind
  have hfull:∀i,i<g.size->f.getD i false=true:=by intro i O;have:=hall i O;simp only[SB,SP (za:i<f.size),Sq] at this ⊢;exact this
  refine⟨?_,hQ a w β J (kX hR (λt=>?_) λo=>?_) λk hk=>?_⟩
  .unfold Region.ready;rw[List.filter_eq_nil_iff];intro i O;simp only[F1] at O;simp[hall i O]
  .have:=r7 e0 r I (λj=>f.getD j false) g.size za λj z=>hfull j z;rw[EV za] at this;rw[this]
  .have:=Aj h0 r I (λj=>f.getD j false) g.size za λj z=>hfull j z;rw[EV za] at this;rw[this]
  .rcases hb k hk with h1|⟨i,h1,_,_,M⟩<;>omega
 |succ A ih=>
  intro f β a w hsz u h J hR hb;refine⟨λhready=>?_,λi O=>?_⟩
  .
   exfalso;have hex:∃i,i<g.size/\f.getD i true=false:=by
    have hne:((List.range g.size).filter λi=> !f.getD i true)≠[]:=by intro e;rw[e] at u;simp at u
    obtain⟨i,O⟩:=List.exists_mem_of_ne_nil _ hne;rw[F7] at O;exact⟨i,zl O.1,zl O.2⟩
   have hmin:∀n,(∃i,i<n/\i<g.size/\f.getD i true=false)->∃i,i<g.size/\f.getD i true=false/\∀j,j<i->f.getD j true=true:=by
    intro n
    induction n with
    |zero=>rintro ⟨i,O,_⟩;omega
    |succ n ih2=>
     rintro ⟨i,O,hi2,hi3⟩;by_cases hlow:∃i,i<n/\i<g.size/\f.getD i true=false
     .exact ih2 hlow
     .have hin:i=n:=by
       by_cases e:i<n
       .exact absurd ⟨i,e,hi2,hi3⟩ hlow
       .omega
      subst hin;refine⟨i,hi2,hi3,λj z=>?_⟩;cases hj2:f.getD j true with
      |true=>rfl
      |false=>exact absurd ⟨j,z,za,hj2⟩ hlow
   obtain⟨i0,h1,p⟩:=hex;obtain⟨i,hi1,hi2,hi3⟩:=hmin g.size ⟨i0,h1,h1,p⟩;have F:i∈Region.ready .any g f:=by rw[mem_ready];refine⟨hi2,g[i],SP hi1,λe he hbe=>?_⟩;have hlt:=L i g[i] e (SP hi1) he hbe;have:=hi3 e.on hlt;have hls:e.on<f.size:=za;simp only[SB,SP hls,Sq] at this ⊢;exact this
   rw[hready] at F;cases F
  .obtain⟨X,o,Z,N⟩:=mem_ready.1 O;have U:i<g.size:=(ST.1 Z).1;have m:f.getD i false=false:=by simp only[SB,SP (za:i<f.size),Sq] at X ⊢;exact X
   obtain⟨d,hd1,hd2,hd3,hd4⟩:=hδ i o Z;have hanc_i:∀j,Anc g j i->f.getD j false=true:=λj z=>Wm (D:=λj=>f.getD j false) h z (λo' e h1 p C=>by rw[Z] at h1;injection h1 with h1;subst h1;exact N e p C);have hanc_j:∀j,f.getD j false=true->¬Anc g i j:=λj z hanc=>by have:=Wm (D:=λj=>f.getD j false) h hanc λo' e h1 p C=>h j o' e h1 z p C;rw[m] at this;cases this
   have S:∀j,j<g.size->j≠i->(f.getD j false=upTo i j)\/(∃V H,g[j]?=some V/\T j=H/\H.dst=V.dst/\
     ((j<i/\V.apart g o=true/\(∀x∈H.upd.map Prod.fst,x ∉ d.rd/\x ∉ d.upd.map Prod.fst)/\(∀x∈d.upd.map Prod.fst,x ∉ H.rd))\/
      (i<j/\o.apart g V=true/\(∀x∈d.upd.map Prod.fst,x ∉ H.rd/\x ∉ H.upd.map Prod.fst)/\(∀x∈H.upd.map Prod.fst,x ∉ d.rd)))):=by
    intro j z hne;have hoj:g[j]?=some g[j]:=SP z;obtain⟨H,g1,g2,g3,g4⟩:=hδ j _ hoj;rcases Nat.lt_or_gt_of_ne hne with hlt|hgt
    .cases E:((Region.before g).getD i 0).testBit j with
     |true=>
      have:=hanc_i j<|WJ L i j E;exact .inl (by rw[this];simp[upTo,hlt])
     |false=>
      have:=W j i _ o _ _ hlt hoj Z g4 hd4 E;exact .inr ⟨_,H,hoj,g2,g3,.inl ⟨hlt,this.1,this.2.1,this.2.2⟩⟩
    .cases E:((Region.before g).getD j 0).testBit i with
     |true=>
      have hanc:=WJ L j i E;have:f.getD j false=false:=by
       cases hl:f.getD j false with
       |false=>rfl
       |true=>exact absurd hanc<|hanc_j j hl
      exact .inl (by rw[this];simp[upTo];omega)
     |false=>
      have:=W i j o _ _ _ hgt Z hoj hd4 g4 E;exact .inr ⟨_,H,hoj,g2,g3,.inr ⟨hgt,this.1,this.2.1,this.2.2⟩⟩
   have hstep:OpStep P g o (nx+32*i) (eD e0 T (λj=>f.getD j false) g.size) (hD h0 T (λj=>f.getD j false) g.size) d:=by
    obtain⟨d',h1,_,C⟩:=hget i o Z;rw[hd1] at h1;injection h1 with h1;subst h1
    have e1:=r7 e0 r I (upTo i) i za (λj z=>by simp[upTo,z]);have e2:=Aj h0 r I (upTo i) i za (λj z=>by simp[upTo,z]);rw[e1,e2,<-o9 e0 _ i g.size za,<-nu h0 _ i g.size za] at C;refine KU C (λt ht=>?_) λx hx=>?_
    .refine Kc g.size λj z hdj=>?_;by_cases v:j=i
     .subst v;rw[m];simp[upTo]
     .rcases S j z v with M|⟨V,H,g1,g2,g3,h5⟩
      .exact M
      .exfalso;have hdj':V.dst=some t:=by have:T j=H:=g2;rw[<-g3,<-this];exact hdj
       rcases h5 with⟨_,hap,_⟩|⟨_,hap,_⟩
       .exact(Oper.apart_spec hap).1 t hdj' ht
       .exact(Oper.apart_spec hap).2.2 t hdj' ht
    .refine Jk g.size λj z hdj=>?_;by_cases v:j=i
     .subst v;rw[m];simp[upTo]
     .rcases S j z v with M|⟨V,H,g1,g2,g3,h5⟩
      .exact M
      .exfalso;have hxu:x∈H.upd.map Prod.fst:=by have:T j=H:=g2;rw[<-this];exact XL hdj
       rcases h5 with⟨_,_,h6,_⟩|⟨_,_,_,h6⟩
       .exact(h6 x hxu).1 hx
       .exact h6 x hxu hx
   have hfr:∀j,j<32->β (nx+32*i+j)=none:=by
    intro j z;cases hbj:β (nx+32*i+j) with
    |none=>rfl
    |some b=>
     rcases hb _ (.inl (by rw[hbj];simp:β (nx+32*i+j)≠none)) with h1|⟨i',h1,p,C,M⟩
     .omega
     .have:i'=i:=za;subst this;rw[m] at p;cases p
   have hpn:∀j,j<32->pin (nx+32*i+j)=none:=by
    intro j z;cases hbj:pin (nx+32*i+j) with
    |none=>rfl
    |some b=>
     rcases hb _ (.inr (by rw[hbj];simp:pin (nx+32*i+j)≠none)) with h1|⟨i',h1,p,C,M⟩
     .omega
     .have:i'=i:=za;subst this;rw[m] at p;cases p
   unfold wpOp;rw[Z];simp only;have G:∀j,(f.setIfInBounds i true).getD j false=add (λj=>f.getD j false) i j:=by
    intro j;simp only[add];by_cases v:j=i
    .subst v;simp[(za:j<f.size)]
    .rw[EG v];exact getD_set_ne false λe=>v e.symm
   have hgo:=ZI (o:=o) (fr:=nx+32*i) hR hfr hpn (by rw[J];exact hdst) (λdd hdd=>by rw[J];exact hdst i o dd Z hdd) hstep
    (K:=wpAny P .any g Q A<|f.setIfInBounds i true) (Q:=Q) (λa' w' β' ha' _ hR' hb'=>by
     refine ih (f.setIfInBounds i true) β' a' w' (zl hsz) ?_ ?_ (by rw[ha',J]) (kX hR' (λt=>?_) λx=>?_) (λk hk=>?_)
     .
      have hperm:((List.range g.size).filter λk=> !(f.setIfInBounds i true).getD k true)=((List.range g.size).filter λk=> !f.getD k true).filter (λk=>k !=i):=by
       rw[List.filter_filter];apply List.filter_congr;intro k _;by_cases hki:k=i
       .subst hki;simp[(za:k<f.size)]
       .rw[getD_set_ne true λe=>hki e.symm];simp[hki]
      rw[hperm];have hnd:((List.range g.size).filter λk=> !f.getD k true).Nodup:=List.Pairwise.filter _ List.nodup_range;have F:i∈(List.range g.size).filter λk=> !f.getD k true:=by rw[F7];exact⟨zl U,by rw[X];rfl⟩
      have hc:(((List.range g.size).filter λk=> !f.getD k true).filter λk=>k !=i).length+1=((List.range g.size).filter λk=> !f.getD k true).length:=by
       have:((List.range g.size).filter λk=> !f.getD k true).filter (λk=>k !=i)=((List.range g.size).filter λk=> !f.getD k true).erase i:=by rw[List.Nodup.erase_eq_filter hnd]
       rw[this,List.length_erase_of_mem F];have:=List.length_pos_of_mem F;omega
      omega
     .intro j V e h1 p C M;rw[G] at p ⊢;simp only[add] at p ⊢;split
      .rfl
      .split at p
       .rename_i v;subst v;rw[Z] at h1;injection h1 with h1;subst h1
        exact N e C M
       .exact h j V e h1 p C M
     .show eD e0 T _ g.size t=_;have he:(λj=>(f.setIfInBounds i true).getD j false)=add (λj=>f.getD j false) i:=funext G;rw[he,eD_add (by exact m) g.size U λj h1 p C M=>?_]
      .rw[show T i=d from hd2]
      .intro h5;rcases S j p za with h6|⟨V,H,g1,g2,g3,h7⟩
       .rw[h6] at C;simp[upTo] at C;omega
       .have hdi:o.dst=some t:=by rw[<-hd3,<-hd2];exact M
        have hdj:V.dst=some t:=by rw[<-g3,<-g2];exact h5
        rcases h7 with⟨h8,_⟩|⟨_,hap,_⟩
        .omega
        .exact(Oper.apart_spec hap).2.1 t hdi hdj
     .show hD h0 T _ g.size x=_;have he:(λj=>(f.setIfInBounds i true).getD j false)=add (λj=>f.getD j false) i:=funext G;rw[he,hD_add (by exact m) g.size U λj h1 p C M=>?_]
      .rw[show T i=d from hd2]
      .rcases S j p za with h6|⟨V,H,g1,g2,g3,h7⟩
       .rw[h6] at C;simp[upTo] at C;omega
       .have hdi:x∈d.upd.map Prod.fst:=by rw[<-hd2];exact XL M
        rcases h7 with⟨h8,_⟩|⟨_,_,h9,_⟩
        .omega
        .have:=(h9 x hdi).2;rw[<-g2] at this;cases hf:zZ (T j).upd x with
         |none=>rfl
         |some y=>exact absurd (XL<|by rw[hf];simp) this
     .rcases(show Occ pin β k\/(nx+32*i<=k/\k<nx+32*i+32) from hk.elim (λhk=>(hb' k hk).imp .inl id) λhk=>.inl<|.inr hk) with h1|h1
      .rcases hb k h1 with p|⟨i',p,C,M,h5⟩
       .exact .inl p
       .refine .inr ⟨i',p,?_,M,h5⟩;rw[G];simp only[add];split
        .rfl
        .exact C
      .refine .inr ⟨i,U,?_,za,za⟩;rw[G];simp[add])
   split at hgo;next hw=>rw[EL hw];exact .inl hgo
   next hw=>rw[EG hw];exact hgo
def gd {id:Nat} {f:Array Oper} {N:Bool} {s:St} {β:Nat->Option Nat} {a:Act} {w:World} {Q:Exit->Act->World->Prop} {R:St->Prop} (hm:P.follows .mixedOrders=true) (F:dstB f a.tmps.size=true)
  (Z:lex P f s.nx f.toList 0 s.env s.heap [] λe h tr=>(N=true->Jj f tr=true)/\R ⟨e,h,s.nx+32*f.size⟩)
  (r:RelF P w0 foot Y pin (look s.env) (hook s.heap) β a w) (D:∀k,Occ pin β k->k<s.nx)
  (U:∀K u w' m,R K->u.tmps.size=a.tmps.size->RelF P w0 foot Y pin (look K.env) (hook K.heap) m u w'->(∀k,Occ pin m k->k<K.nx)->Q .normal u w'):(Code.region id f N).wp P Q a w:=by
 have v:∀(j:Nat) (q:Oper) (d:Nat),f[j]?=some q->q.dst=some d->d<a.tmps.size:=by intro j q d hq hd;have:=SF.1 F q<|GO hq;rw[hd] at this;exact zl this
 obtain⟨y,V,h',tr',I,W,hh,J,E,L⟩:=qu _ _ _ _ _ Z;rw[S6] at J;have z:∀u w' m,u.tmps.size=a.tmps.size->RelF P w0 foot Y pin (endE (look s.env) y) (endH (hook s.heap) y) m u w'->(∀k,Occ pin m k->k<s.nx+32*f.size)->Q .normal u w':=by intro u w' m H C O;refine U _ u w' m L H ?_ O;show RelF P w0 foot Y pin (look V) (hook h') m u w';rw[W,hh];exact C
 cases N with
 |false=>refine wp_region_list<|qx v f.toList 0 _ _ y β a w (λo X=>?_) I rfl r (zl D) λu w' m H _ C O=>z u w' m H C<|zl O;obtain⟨j,T⟩:=G4 X;exact⟨j,zl T⟩
 |true=>
  refine wp_region_any hm ?_;have M:RelF P w0 foot Y pin (look s.env) (hook s.heap) β a {w with drawn:=w.drawn+1}:=by have g:Goes w {w with drawn:=w.drawn+1} (XO Y (hook s.heap) β) (XO Y (hook s.heap) β) β β:=⟨EI _,λb D _=>⟨rfl,D⟩,λ_ _=>rfl,λo b D=>⟨D,r.objs.lt o b D⟩⟩;exact⟨r.good.drew,λi=>(r.env i).goes g,⟨λo b H C=>(r.objs.rep o b H C).goes g rfl,r.objs.has,r.objs.inj,r.objs.lt⟩,r.own,r.defers,r.ylt,r.pins,r.gl⟩
  have p:∀i,(Array.replicate f.size false).getD i false=false:=by
   intro i;by_cases G:i<f.size
   .simp[G]
   .simp[G]
  refine WP (w0:=w0) (foot:=foot) (Y:=Y) I J (E rfl) v z f.size _ β a _ zb ?_ (λj o e _ C=>by rw[p] at C;cases C) rfl (kX M (λt=>?_) λx=>?_) λk S=>.inl<|D k S
  .have:((List.range f.size).filter λi=> !(Array.replicate f.size false).getD i true)=List.range f.size:=by apply List.filter_eq_self.2;intro i G;simp only[F1] at G;simp[G]
   rw[this];simp
  .have key:∀n,eD (look s.env) (λj=>y.getD j ⟨none,.any,[],[]⟩) (λj=>(Array.replicate f.size false).getD j false) n=look s.env:=by
    intro n;induction n with
    |zero=>rfl
    |succ n ih=>simp only[eD];rw[EG<|by rw[p];simp];exact ih
   rw[key]
  .have key:∀n,hD (hook s.heap) (λj=>y.getD j ⟨none,.any,[],[]⟩) (λj=>(Array.replicate f.size false).getD j false) n=hook s.heap:=by
    intro n;induction n with
    |zero=>rfl
    |succ n ih=>simp only[hD];rw[EG<|by rw[p];simp];exact ih
   rw[key]
end
section
variable {w:World} {h h':Nat->AObj} {β:Nat->Option Nat} {Y:Nat->Prop} {σ:Nat->Nat} {E:Lent} {n':Nat}
def cutβ (σ:Nat->Nat)(n':Nat)(β:Nat->Option Nat)(o:Nat):=if o<n' then β (σ o) else none
def A4 (A:Objs h β Y w) {L} (K:L.ok h) {Z} (E:∀b,¬XO Y h β b->¬Z b) (v:∀p∈L,∀b,β p.1=some b->¬Z b)
  {x} {b} (m:ORep w (XO Y h β) β x b):ORep w Z β (x.lend L) b:=by
 have g:Goes w w _ Z β β:=⟨EI _,λb f _=>⟨rfl,E b f⟩,λ_ _=>rfl,λo b f=>⟨f,A.lt o b f⟩⟩;cases x with
 |gone=>trivial
 |arz n O=>exact m.goes g rfl
 |mapo es=>exact m.goes g rfl
 |mapz es=>exact m.goes g rfl
 |arr n es=>
  let ⟨M,t,H,N,J,G⟩:=m;refine⟨M,t,H,zl N,λe r=>?_,λi j e c r C=>?_⟩
  .grind
  .rw[EX] at r;obtain⟨z,d,rfl⟩:=EM.1 r;rw[EX] at C;obtain⟨D,y,rfl⟩:=EM.1 C;let ⟨u,F,I⟩:=G i j z D d y;exact⟨u,F,kH A K E v (x:=.c D) I⟩
def Aq {x L}:isLive (x.lend L)↔isLive x:=by cases x<;>exact Iff.rfl
def live_ren {x}:isLive (x.ren σ)↔isLive x:=by cases x<;>exact Iff.rfl
def lX {x L}(h:bareO x):bareO (x.lend L):=by
 let ⟨n,h⟩:=h;cases x with
 |arr m es=>simp[flat,AObj.arr.injEq] at h;rw[h.2];exact⟨m,rfl⟩
 |arz m b=>exact⟨n,h⟩
 |_=>exact⟨n,h⟩
structure Weak (h h':Nat->AObj)(σ:Nat->Nat)(E:Lent)(n':Nat):Prop where
 ok:E.ok h
 obj:∀o,isLive (h' o)->o<n'/\flat ((h<|σ o).lend E)=flat ((h' o).ren σ)/\(h' o).lt n'=true/\∀q∈E,q.1≠σ o
 inj:∀o o',isLive (h' o)->isLive (h' o')->σ o=σ o'->o=o'
def Weak.live (k:Weak h h' σ E n'){o}(b:isLive<|h' o):isLive (h<|σ o):=by have:=(k.obj o b).2.1;rw[<-Aq (L:=E),<-xN,this,xN,live_ren];exact b
def Weak.own (k:Weak h h' σ E n'){b}(e:Own h' (cutβ σ n' β) b):Own h β b:=by
 let ⟨o,f,d⟩:=e;simp only[cutβ] at d;split at d
 .exact⟨σ o,k.live f,d⟩
 .cases d
def Weak.xo (k:Weak h h' σ E n'){b}(d:¬XO Y h β b):¬XO Y h' (cutβ σ n' β) b:=λe=>by
 rcases e with h1|h1
 .grind
 .exact d<|.inr<|k.own h1
def Weak.given (k:Weak h h' σ E n')(f:Objs h β Y w):∀p∈E,∀b,β p.1=some b->¬XO Y h' (cutβ σ n' β) b:=by
 intro p g b i m;have j:isLive (h p.1):=by rw[<-xN,k.ok p g];trivial
 rcases m with d|⟨o,d,e⟩
 .exact(f.here j i).2 d
 .simp only[cutβ] at e;split at e
  .exact(k.obj o d).2.2.2 p g<|f.inj _ _ b j (k.live d) i e
  .cases e
def Weak.rep (k:Weak h h' σ E n')(g:Objs h β Y w){x y v}(j:TRep w (XO Y h β) β x v)(d:TV.Le (x.lend E)<|y.ren σ)(e:y.lt n'=true):TRep w (XO Y h'<|cutβ σ n' β) (cutβ σ n' β) y v:=by exact TRep.unmap (m:=n') (λ_ _ h=>h) (λo b p f=>by simp[cutβ,p,S9];exact f) e<|TRep.le d<|kH g k.ok (λb f=>k.xo f) (k.given g) j
def Weak.objs (k:Weak h h' σ E n')(i:Objs h β Y w):Objs h' (cutβ σ n' β) Y w:=by
 have d:∀o b,cutβ σ n' β o=some b->β _=some b:=λo b e=>by
  simp only[cutβ] at e;split at e
  .exact e
  .cases e
 refine⟨λo b f g=>?_,λo f=>?_,λo o' b f g j p=>k.inj o o' f g<|i.inj _ _ b (k.live f) (k.live g) (d _ _ j)<|d _ _ p,λo b e=>i.lt _ b<|d o b e⟩
 .let ⟨A,v,y,_⟩:=k.obj o f;exact ORep.unmap (m:=n') (λ_ _ h=>h) (λo b z e=>by simp[cutβ,z,S9];exact e) y<|(d9 v).1<|A4 i k.ok (λb e=>k.xo e) (k.given i)<|i.rep (σ o) b (k.live f)<|d o b g
 .rcases i.has (σ o) (k.live f) with⟨b,g,j,p⟩|⟨g,j⟩
  .exact .inl ⟨b,by simp[cutβ,(k.obj o f).1,S9];exact g,j,p⟩
  .refine .inr ⟨?_,by simp[cutβ,(k.obj o f).1,S9];exact j⟩;let ⟨n,u⟩:=lX (L:=E) g;refine qh (σ:=σ) |>.1 ⟨n,?_⟩;rw[<-(k.obj o f).2.1];exact u
end
def Sle (m:Nat)(s s':St):Prop:=∃(σ:Nat->Nat) (E:Lent),Lent.ok E (hook s.heap)/\m<=s'.nx/\(∀o,o<m->σ o=o)/\
 (∀p∈s'.env,TV.Le ((look s.env p.1).lend E) (p.2.ren σ)/\p.2.lt s'.nx=true)/\
 (∀p∈s'.heap,isLive p.2->p.1<s'.nx/\flat ((hook s.heap<|σ p.1).lend E)=flat (p.2.ren σ)/\p.2.lt s'.nx=true/\∀q∈E,q.1≠σ p.1)/\
 (∀p∈s'.heap,∀q∈s'.heap,isLive p.2->isLive q.2->σ p.1=σ q.1->p.1=q.1)
def ZZ:∀ {l} {o},isLive (hook l o)->(o,hook l o)∈l
 |[],_,h=>h.elim
 |(j,v)::l,o,h=>by
  simp only[hook] at h ⊢;split at h
  .grind
  next e=>rw[EG e];exact EP _<|ZZ h
def JO:∀ {l} {i},look l i=.any\/(i,look l i)∈l
 |[],_=>.inl rfl
 |(j,v)::l,i=>by
  simp only[look];split
  .grind
  .rcases JO (l:=l) (i:=i) with h|h
   .exact .inl h
   .grind
section
variable {P:Program} {w0:World} {foot:Nat->Prop} {Y:Nat->Prop} {pin:Nat->Option (Option Nat)} {n m:Nat}
def AD {u h σ E b} (i:E.ok h) (m:∀p∈u,isLive p.2->p.1<b/\flat ((h<|σ p.1).lend E)=flat (p.2.ren σ)/\p.2.lt b=true/\∀q∈E,q.1≠σ p.1)
  (j:∀p∈u,∀q∈u,isLive p.2->isLive q.2->σ p.1=σ q.1->p.1=q.1):Weak h (hook u) σ E b:=
 ⟨i,λ_ d=>m _ (ZZ d) d,λ_ _ f g e=>j _ (ZZ f) _ (ZZ g) f g e⟩
def JV {s e}(y:Sle m s e)(u:∀o b,pin o=some b->o<m){β a w}(d:RelF P w0 foot Y pin (look s.env) (hook s.heap) β a w):
  ∃f,RelF P w0 foot Y pin (look e.env) (hook e.heap) f a w/\∀k,Occ pin f k->k<e.nx:=by
 let ⟨σ,E,C,v,h,r,A,z⟩:=y;have k:=AD C A z;refine⟨cutβ σ e.nx β,⟨d.good,λi=>?_,k.objs d.objs,λo b h1 g=>?_,d.defers,d.ylt,λo b p=>?_,d.gl⟩,λo ho=>?_⟩
 .rcases JO (l:=e.env) (i:=i) with h1|h1
  .rw[h1];trivial
  .exact k.rep d.objs (d.env i) (r _ h1).1 (r _ h1).2
 .simp only[cutβ] at g;split at g
  .exact d.own _ b (k.live h1) g
  .cases g
 .have h1:=u o b p;simp[cutβ,(za:o<e.nx),S9,h o h1];exact d.pins o b p
 .rcases ho with ho|ho
  .simp only[cutβ] at ho;grind
  .cases j:pin o with
   |none=>exact absurd j ho
   |some x=>have:=u o x j;omega
inductive AExit where
 |normal
 |exit (id:Nat)
 |ret
 deriving DecidableEq
def At (P:Program)(w0:World)(foot Y:Nat->Prop)(pin:Nat->Option (Option Nat))(n:Nat)(Q:St->Prop)(a:Act)(w:World):=
 ∃s β,Q s/\a.tmps.size=n/\RelF P w0 foot Y pin (look s.env) (hook s.heap) β a w/\∀k,Occ pin β k->k<s.nx
def Lift (P:Program)(w0:World)(foot Y:Nat->Prop)(pin:Nat->Option (Option Nat))(n:Nat)(Q:AExit->St->Prop):Exit->Act->World->Prop
 |.normal=>At P w0 foot Y pin n<|Q .normal
 |.exit i=>At P w0 foot Y pin n<|Q<|.exit i
 |.ret=>At P w0 foot Y pin n<|Q .ret
 |_=>λ_ _=>False
def Awp (P:Program)(n m:Nat)(c:Code)(Q:AExit->St->Prop)(s:St):Prop:=
 ∀(w0:World) (foot Y:Nat->Prop) (pin:Nat->Option (Option Nat)) (β:Nat->Option Nat) (a:Act) (w:World),(∀o b,pin o=some b->o<m)->a.tmps.size=n->RelF P w0 foot Y pin (look s.env) (hook s.heap) β a w->(∀k,Occ pin β k->k<s.nx)->
  c.wp P (Lift P w0 foot Y pin n Q) a w
variable {c:Code} {Q:AExit->St->Prop} {s:St}
def Lift.mono {Q'}(f:∀e s,Q e s->Q' e s)(e a w)(h:Lift P w0 foot Y pin n Q e a w):Lift P w0 foot Y pin n Q' e a w:=by
 cases e with
 |normal=>let ⟨s,β,b,d⟩:=h;exact⟨s,β,f _ _ b,d⟩
 |exit i=>let ⟨s,β,b,d⟩:=h;exact⟨s,β,f _ _ b,d⟩
 |ret=>let ⟨s,β,b,d⟩:=h;exact⟨s,β,f _ _ b,d⟩
 |_=>exact h.elim
def Awp.mono {Q'}(h:Awp P n m c Q s)(f:∀e s,Q e s->Q' e s):Awp P n m c Q' s:=
 λw0 foot Y b β a w j g d i=>wp_mono (h w0 foot Y b β a w j g d i)<|Lift.mono f
def Awp.weak {d:St}(i:Sle m s d)(h:Awp P n m c Q d):Awp P n m c Q s:=λw0 foot Y b _ a w e g f _=>
 let ⟨β',h1,h2⟩:=JV i e f
 h w0 foot Y b β' a w e g h1 h2
def Awp.skip (h:Q .normal s):Awp P n m .skip Q s:=λ_ _ _ _ β _ _ _ d b e=>wp_skip ⟨s,β,h,d,b,e⟩
def Awp.ret (h:Q .ret s):Awp P n m .ret Q s:=λ_ _ _ _ β _ _ _ d b e=>wp_ret ⟨s,β,h,d,b,e⟩
def Awp.exit {i}(h:Q (.exit i) s):Awp P n m (.exit i) Q s:=λ_ _ _ _ β _ _ _ d b e=>wp_exit ⟨s,β,h,d,b,e⟩
def XM (K:St->Prop)(Q:AExit->St->Prop):AExit->St->Prop
 |.normal,s=>K s
 |e,s=>Q e s
def yh (i:Nat)(Q:AExit->St->Prop):AExit->St->Prop
 |.exit j,s=>if j=i then Q .normal s else Q (.exit j) s
 |e,s=>Q e s
def Awp.seq {b d}(h:Awp P n m b (XM (Awp P n m d Q) Q) s):Awp P n m (.seq b d) Q s:=λw0 foot Y f β a w o r p u=>by
 refine wp_seq<|wp_mono (h w0 foot Y f β a w o r p u) λe A w' g=>?_;cases e with
 |normal=>let ⟨C,j,x,z,y,v⟩:=g;exact x w0 foot Y f j A w' o z y v
 |exit i=>exact g
 |ret=>exact g
 |_=>exact g.elim
def Awp.cond {x b d t}(r:ev s.env x=.c (.a<|.fz<|.bool t))(p:t=true->Awp P n m b Q s)(o:t=false->Awp P n m d Q s):Awp P n m (.cond x b d) Q s:=λw0 foot Y e β a w j h f i=>by
 have g:=f.eval x;rw[<-mb,r] at g;refine wp_cond (t:=t) g.bool_inv ?_;cases t with
 |true=>exact p rfl w0 foot Y e β a w j h f i
 |false=>exact o rfl w0 foot Y e β a w j h f i
def Awp.label {l}(h:Q .normal s):Awp P n m (.label l) Q s:=λ_ _ _ _ β _ _ _ d b e=>wp_label ⟨s,β,h,d,b,e⟩
def Awp.scope (h:Awp P n m c Q s):Awp P n m (.scope c) Q s:=λw0 foot Y b β a w j g f i=>by
 refine wp_scope_straight<|wp_mono (h w0 foot Y b β a w j g f i) λe o w' d=>?_;cases e with
 |goto l=>exact d.elim
 |_=>exact d
def Awp.block {i}(h:Awp P n m c (yh i Q) s):Awp P n m (.block i c) Q s:=λw0 foot Y o β a w y v u x=>by
 refine wp_block<|wp_mono (h w0 foot Y o β a w y v u x) λe z w' f=>?_;cases e with
 |normal=>exact f
 |exit j=>
  let ⟨p,b,d,r⟩:=f;simp[yh] at d;simp[Exit.inBlock];split at d;next g=>rw[EL g];exact⟨p,b,d,r⟩
  next g=>rw[EG g];exact⟨p,b,d,r⟩
 |ret=>exact f
 |_=>exact f.elim
def Awp.region {i b d} (v:P.follows .mixedOrders=true) (hd:dstB b n=true)
  (A:lex P b s.nx b.toList 0 s.env s.heap [] λe h z=>(d=true->Jj b z=true)/\Q .normal ⟨e,h,s.nx+32*b.size⟩):Awp P n m (.region i b d) Q s:=λw0 foot Y x β a w _ o g p=>by
 subst o;exact gd (R:=Q .normal) v hd A g p λj D w' f u C y r=>⟨j,f,u,C,y,r⟩
end
structure Calm (w0 w w':World):Prop where
 size:w.heap.size<=w'.heap.size
 cells:∀(b:Nat) us t z,w.heap[b]?=some (.cells us t z)->w'.heap[b]?=some (.cells us t z)
 maps:∀(b:Nat) ms ck,w.heap[b]?=some (.map ms ck)->w'.heap[b]?=some (.map ms ck)
 old:∀b,b<w0.heap.size->w'.heap[b]?=w.heap[b]?
 os:w'.os=w.os
 tape:w'.tape=w.tape
 output:w'.output=w.output
section
variable {w0 w w':World} (c:Calm w0 w w')
include c
def Calm.cell {a u}(h:w.cell? a=some u):w'.cell? a=some u:=by
 unfold World.cell? at h ⊢;cases b:w.heap[a.block]? with
 |none=>rw[b] at h;cases h
 |some o=>
  rw[b] at h;cases o with
  |cells d t z=>rw[c.cells _ d t z b];exact h
  |_=>cases h
def Calm.shape {b x}(h:w.shape? b=some x):w'.shape? b=some x:=by
 unfold World.shape? at h ⊢;cases d:w.heap[b]? with
 |none=>rw[d] at h;cases h
 |some o=>
  rw[d] at h;cases o with
  |cells e t z=>rw[c.cells _ e t z d];exact h
  |_=>cases h
variable {X:Nat->Prop} {β:Nat->Option Nat}
def FRep.calm {f v}(h:FRep w X f v):FRep w' X f v:=by
 induction h with
 |int k n=>exact .int k n
 |bool b=>exact .bool b
 |str l=>exact .str l
 |cst v h=>exact .cst v h
 |N=>exact .N
 |slnil n=>exact .slnil n
 |sl0 g n a=>exact .sl0 g n a
 |z0 g a=>exact .z0 g a
 |z0n=>exact .z0n
 |sl g n es b d cap C u p m o z A D _ ih=>exact .sl g n es b d cap C u p m o (SM z c.size) A (λi j e f F x=>c.cell<|D i j e f F x) ih
 |pt cs b d u p m o _ ih=>exact .pt cs b d u p (SM m c.size) (λj f x=>c.cell<|o j f x) ih
 |mp es b ms G E p m o z A D _ _ y r=>exact .mp es b ms G E p (SM m c.size) (c.maps _ _ _ o) z A D y r
def ARep.calm {f v}(h:ARep w X β f v):ARep w' X β f v:=by
 cases h with
 |fz x v h=>exact .fz x v<|FRep.calm c h
 |ep o n i j b h=>exact .ep o n i j b h
 |osl o n d g b q cap sz t r p m u y=>exact .osl o n d g b q cap sz t r (c.shape p) m u y
 |oslN o n d=>exact .oslN o n d
 |mp o b h=>exact .mp o b h
 |any v h=>exact .any v h
 |bld t o b v r p m=>exact .bld t o b v r (c.shape p) m
 |osb o e g b cap r p m u=>exact .osb o e g b cap r (c.shape p) m u
def WRep.calm {f v}(h:WRep w X β f v):WRep w' X β f v:=by
 cases h with
 |a x v h=>exact .a x v<|ARep.calm c h
 |fn f first cap e vs b d=>exact .fn f first cap e vs (b.imp λ_ _ _ h=>h.imp λ_ _ _ h=>ARep.calm c h) (d.imp λ_ _ _ h=>h.imp λ_ _ _ h=>ARep.calm c h)
def TRep.calm {f v}(h:TRep w X β f v):TRep w' X β f v:=by
 cases f with
 |any=>trivial
 |c x=>exact WRep.calm c h
 |agg cs=>let ⟨e,b,d⟩:=h;exact⟨e,b,d.imp λ_ _ _ h=>WRep.calm c h⟩
 |tup vs=>let ⟨e,b,d⟩:=h;exact⟨e,b,d.imp λ_ _ _ h=>h.imp λ_ _ _ h=>WRep.calm c h⟩
def ORep.calm {o b}(h:ORep w X β o b):ORep w' X β o b:=by
 have arr:∀(n) (es:List<|List WV),(∃(f:List Value) (t:TypeId),w.heap[b]?=some (.cells f.toArray t (0,0))/\es.length*n<=f.length/\(∀e∈es,e.length=n)/\
   ∀(i j) e c,es[i]?=some e->e[j]?=some c->∃u,f[i*n+j]?=some u/\WRep w X β c u)->(∃(f:List Value) (t:TypeId),w'.heap[b]?=some (.cells f.toArray t (0,0))/\es.length*n<=f.length/\(∀e∈es,e.length=n)/\
   ∀(i j) e c,es[i]?=some e->e[j]?=some c->∃u,f[i*n+j]?=some u/\WRep w' X β c u):=by
  rintro n es ⟨f,t,z,r,g,v⟩;exact⟨f,t,c.cells _ _ _ _ z,r,g,λi j e x p F=>let ⟨u,hu,hr⟩:=v i j e x p F;⟨u,hu,WRep.calm c hr⟩⟩
 have A:∀(es:List<|(Bool×List FV)×(Bool×List WV)),(∃(ms:List MapEntry) (d:Nat),w.heap[b]?=some (.map ms.toArray d)/\ms.length=es.length/\
   (∀(i:Nat) (e:(Bool×List FV)×(Bool×List WV)) (m:MapEntry),es[i]?=some e->ms[i]?=some m->PRep (FRep w X) e.1 m.key/\PRep (WRep w X β) e.2 m.val)/\
   d=ms.length/\(∀(i:Nat) (m:MapEntry),ms[i]?=some m->m.born=i))->(∃(ms:List MapEntry) (d:Nat),w'.heap[b]?=some (.map ms.toArray d)/\ms.length=es.length/\
   (∀(i:Nat) (e:(Bool×List FV)×(Bool×List WV)) (m:MapEntry),es[i]?=some e->ms[i]?=some m->PRep (FRep w' X) e.1 m.key/\PRep (WRep w' X β) e.2 m.val)/\
   d=ms.length/\(∀(i:Nat) (m:MapEntry),ms[i]?=some m->m.born=i)):=by
  rintro es ⟨ms,D,z,r,g,v,E⟩;exact⟨ms,D,c.maps _ _ _ z,r,λi e m p C=>let ⟨x,y⟩:=g i e m p C;⟨x.imp λ_ _ _ h=>FRep.calm c h,y.imp λ_ _ _ h=>WRep.calm c h⟩,v,E⟩
 cases o with
 |gone=>trivial
 |arr n es=>exact arr _ _ h
 |arz n G=>exact arr _ _ h
 |mapo es=>exact A _ h
 |mapz es=>exact A _ h
def Objs.calm {h Y}(d:Objs h β Y w):Objs h β Y w':=
 ⟨λo b e f=>ORep.calm c<|d.rep o b e f,λo e=>(d.has o e).imp (λ⟨b,f,j,i⟩=>⟨b,f,SM j c.size,i⟩) id,d.inj,λo b g=>SM (d.lt o b g) c.size⟩
def Good.calm {foot}(g:Good w0 foot w):Good w0 foot w':=
 ⟨SW g.size c.size,λb d e=>(c.old b d).trans<|g.blk b d e,λb d=>by rw[<-g.shp b d];unfold World.shape?;rw[c.old b d],c.os.trans g.os,c.tape.trans g.tape,c.output.trans g.output⟩
def RelF.calm {P foot Y d e h a}(b:RelF P w0 foot Y d e h β a w)(f:Marks w0 w' a.defers):RelF P w0 foot Y d e h β a w':=
 ⟨Good.calm c b.good,λi=>TRep.calm c<|b.env i,Objs.calm c b.objs,b.own,f,b.ylt,b.pins,b.gl⟩
end
def mH (w:World)(b:Nat):Prop:=∀o,w.heap[b]?=some o->(∀us t z,o ≠ .cells us t z)/\∀ms ck,o ≠ .map ms ck
def Calm.put {w0 w b o}(g:mH w b)(j:w0.heap.size<=b):Calm w0 w (w.putObj b o):=by
 have d:∀k,k≠b->(w.putObj b o).heap[k]?=w.heap[k]? :=λk f=>World.putObj_heap_other f;refine⟨zb,λk i t z f=>?_,λk ms h f=>?_,λk f=>d k za,rfl,rfl,rfl⟩
 .rw[d k λe=>by subst e;exact(g _ f).1 i t z rfl];exact f
 .rw[d k λe=>by subst e;exact(g _ f).2 ms h rfl];exact f
def Calm.alloc (w0 w o)(d:w0.heap.size<=w.heap.size):Calm w0 w (w.alloc o):=by
 have old:∀k,k<w.heap.size->(w.alloc o).heap[k]?=w.heap[k]? :=λk b=>by show(w.heap.push o)[k]?=w.heap[k]?;grind
 refine⟨zb,λk f t z b=>?_,λk ms e b=>?_,λk b=>old k za,rfl,rfl,rfl⟩
 .grind
 .grind
def Calm.refl (w0 w):Calm w0 w w:=⟨EI _,λ_ _ _ _ h=>h,λ_ _ _ h=>h,λ_ _=>rfl,rfl,rfl,rfl⟩
def Calm.trans {w0 a b c}(h:Calm w0 a b)(k:Calm w0 b c):Calm w0 a c:=
 ⟨SW h.size k.size,λb f t z d=>k.cells b f t z<|h.cells b f t z d,λb ms e d=>k.maps b ms e<|h.maps b ms e d,λb d=>(k.old b d).trans<|h.old b d,k.os.trans h.os,k.tape.trans h.tape,k.output.trans h.output⟩
def YK {w b x}(h:w.heap[b]?=some (.deferred x)):mH w b:=λo d=>by grind
def YW {w b x}(h:w.heap[b]?=some (.loop x)):mH w b:=λo d=>by grind
def uS:List Nat->World->World
 |[],w=>w
 |D::Ds,w=>uS Ds<|w.putObj D<|.deferred none
def gO {w0}:∀ {Ds} {w},Ds.Nodup->(∀D∈Ds,w0.heap.size<=D/\w.heap[D]?=some (.deferred<|some []))->Calm w0 w (uS Ds w)
 |[],w,_,_=>Calm.refl _ _
 |D::Ds,w,g,h=>by have f:=h D ET;have b:=SV.1 g;refine(Calm.put (YK f.2) f.1).trans<|gO b.2 λE i=>⟨(h E<|EP _ i).1,?_⟩;have d:E≠D:=λe=>b.1 zd;rw[World.putObj_heap_other d];grind
def RelF.shut {P:Program}{w0 w:World}{foot Y:Nat->Prop}{d:Nat->Option (Option Nat)}{e:Nat->TV}{h:Nat->AObj}{β:Nat->Option Nat}{a:Act}(b:RelF P w0 foot Y d e h β a w):
  ∃Ds,a.defers=Ds.map mark/\Ds.Nodup/\(∀D∈Ds,w.heap[D]?=some (.deferred<|some []))/\RelF P w0 foot Y d e h β {tmps:=a.tmps,defers:=[]} (uS Ds w):=by
 obtain⟨Ds,i,g,f⟩:=b.defers;have j:RelF P w0 foot Y d e h β {tmps:=a.tmps,defers:=[]} w:=⟨b.good,b.env,b.objs,b.own,Marks.nil _ _,b.ylt,b.pins,b.gl⟩;exact⟨Ds,i,g,λD hD=>(f D hD).2,j.calm (gO g f)<|Marks.nil _ _⟩
def kN {P fn tmps R n}:∀ {Ds} {w},Ds.Nodup->(∀D∈Ds,w.heap[D]?=some (.deferred<|some []))->(∃v,(results fn tmps).run P (uS Ds w)=.ok v (uS Ds w)/\R (.returned v) (uS Ds w))->LeavesInM Fence.wide n P fn tmps R (Ds.map mark) .returning w
 |[],w,_,_,h=>h
 |D::Ds,w,f,hD,h=>by have b:=SV.1 f;refine⟨zb,.inl ⟨D,_,rfl,run_takeDeferred<|hD D ET,kN b.2 (λE g=>?_) h⟩⟩;have d:E≠D:=λe=>b.1 zd;rw[World.putObj_heap_other d];grind
open Go
def resA (P:Program)(s:St):ResultVar->Option TV
 |.tmp t=>some<|look s.env t
 |.cell t ty=>match tyOf P ty with
  |some d=>(wD d (λo=>flat<|hook s.heap o)<|look s.env t).map (·.1)
  |none=>none
def ft (P:Program)(s:St):List ResultVar->Option (List TV)
 |[]=>some []
 |x::l=>match resA P s x,ft P s l with
  |some v,some vs=>some<|v::vs
  |_,_=>none
def KQ:List TV->Option (List<|Bool×List WV)
 |[]=>some []
 |x::l=>match gI x,KQ l with
  |some v,some vs=>some<|v::vs
  |_,_=>none
def dm:List TV->Option TV
 |[x]=>some x
 |l=>(KQ l).map .tup
def jV:Nat->List TV->Env
 |_,[]=> []
 |i,x::l=>(i,x)::jV (i+1) l
def yF:Nat->List AObj->AHeap
 |_,[]=> []
 |i,x::l=>(i,x)::yF (i+1) l
def YF:∀(l) (i k),look (jV i l) k=if i<=k then l.getD (k-i) .any else .any
 |[],i,k=>by simp[jV,look]
 |x::l,i,k=>by
  simp[jV,look];by_cases h:i=k
  .subst h;simp
  .rw[EG h,YF l];grind
def kr:∀(l) (i k),hook (yF i l) k=if i<=k then l.getD (k-i) .gone else .gone
 |[],i,k=>by simp[yF,hook]
 |x::l,i,k=>by
  simp[yF,hook];by_cases h:i=k
  .subst h;simp
  .rw[EG h,kr l];grind
def tD (P:Program)(rl:List ResultVar)(m:Nat)(r:TV)(Hs':List AObj)(s:St):Prop:=
 ∃(rs rs':List TV) (σ:Nat->Nat) (E:Lent) (r0:TV),ft P s rl=some rs/\dm rs'=some r0/\TV.Le r0 r/\E.ok (hook s.heap)/\
  All2 (λx y=>TV.Le (x.lend E) (y.ren σ)/\y.lt Hs'.length=true) rs rs'/\(∀o,o<m->σ o=o)/\
  (∀p∈yF 0 Hs',isLive p.2->p.1<Hs'.length/\flat ((hook s.heap<|σ p.1).lend E)=flat (p.2.ren σ)/\p.2.lt Hs'.length=true/\∀q∈E,q.1≠σ p.1)/\
  (∀p∈yF 0 Hs',∀q∈yF 0 Hs',isLive p.2->isLive q.2->σ p.1=σ q.1->p.1=q.1)
def Ret (P:Program)(rl:List ResultVar)(m:Nat)(r:TV)(Hs':List AObj):AExit->St->Prop
 |.exit _=>λ_=>False
 |_=>tD P rl m r Hs'
section
variable {P:Program} {w0:World} {foot:Nat->Prop} {Y:Nat->Prop} {pin:Nat->Option (Option Nat)}
def fO {ty u v w}(h:(Instr.loadAt ty u).run P w=.ok v w):(do loadVar ty (<-asAddr u)).run P w=.ok v w:=by
 cases u with
 |pointer p=>
  cases p with
  |some a=>simpa[Instr.loadAt,Instr.sureAddr,asAddr] using h
  |none=>simp[Instr.loadAt,Instr.sureAddr] at h
 |_=>simp[Instr.loadAt,Instr.sureAddr] at h
def si (tmps:Array Value):ResultVar->Sem Value
 |.tmp t=>pure<|tmps.getD t undef
 |.cell b t=>do loadVar t (<-asAddr<|tmps.getD b undef)
def resA_run {s β a w}(f:RelF P w0 foot Y pin (look s.env) (hook s.heap) β a w){x v}(b:resA P s x=some v):
  ∃u,(si a.tmps x).run P w=.ok u w/\TRep w (XO Y (hook s.heap) β) β v u:=by
 cases x with
 |tmp t=>simp[resA,EO] at b;subst b;exact⟨_,rfl,f.env t⟩
 |cell t ty=>
  simp[resA] at b;split at b
  .rename_i d hd;obtain⟨r,i,rfl⟩:=EM.1 b;have g:∀o,flat _=flat (hook s.heap o):=λo=>vo _;have e:=f.env t;rw[<-Yv (h':=λo=>flat _) g] at e ⊢;let ⟨u,h,m⟩:=Kl (P:=P) (qt (h':=λo=>flat _) g f.objs) hd e i;exact⟨u,fO h,m⟩
  .cases b
def fR {s β a w}(d:RelF P w0 foot Y pin (look s.env) (hook s.heap) β a w):∀ {l} {vs},ft P s l=some vs->
  ∃b,(l.mapM<|si a.tmps).run P w=.ok b w/\LRep (TRep w (XO Y (hook s.heap) β) β) vs b
 |[],vs,h=>by simp[ft,EO] at h;subst h;exact⟨[],zb,.nil⟩
 |x::l,vs,h=>by
  simp[ft] at h;split at h
  .rename_i v i f e;injection h with h;subst h
   let ⟨u,g,m⟩:=resA_run d f;let ⟨b,j,o⟩:=fR d e;refine⟨u::b,?_,.cons m o⟩;simp_all
  .cases h
def Wj {X β w}:∀ {l} {rows} {d},KQ l=some rows->LRep (TRep w X β) l d->LRep (PRep<|WRep w X β) rows d
 |[],rows,d,h,e=>by simp[KQ,EO] at h;subst h;have:d=[]:=S1 (zl e.1.symm);subst this;exact .nil
 |x::l,rows,d,h,e=>by
  simp[KQ] at h;split at h
  .rename_i v vs b g;injection h with h;subst h
   obtain⟨u,o,rfl,f,j⟩:=e.cons_inv;refine .cons ?_<|Wj g j;unfold gI at b;split at b
   .injection b with b;subst b
    exact⟨[u],rfl,.cons f .nil,λ_=>rfl⟩
   .injection b with b;subst b
    obtain⟨m,rfl,i⟩:=f;exact⟨m,rfl,i,λh=>by cases h⟩
   .cases b
  .cases h
def nC {X β w l r d}(h:dm l=some r)(g:LRep (TRep w X β) l d):
  TRep w X β r (if h:d.toArray.size=1 then d.toArray[0] else .tuple d.toArray):=by
 unfold dm at h;split at h
 .injection h with h;subst h
  obtain⟨u,j,rfl,p,o⟩:=g.cons_inv;have:j=[]:=S1 (zl o.1.symm);grind
 .rename_i b;obtain⟨rows,m,rfl⟩:=EM.1 h;have e:d.toArray.size≠1:=by
   intro i;have f:=g.1;simp at i
   match l,f,b with
   |[],f,_=>simp[i] at f
   |[x],_,b=>exact b x rfl
   |_::_::_,f,_=>simp[i] at f
  rw[dif_neg e];exact⟨d,rfl,Wj m g⟩
def AC.intro {f:FuncId} {fn:Func} {c:Code} {rl:List ResultVar} {n:Nat} {args:List TV} {Hs Hs':List AObj} {r:TV} (hf:P.funcs[f]?=some fn) (H:fn.body=some c) (hrl:fn.results.toList=rl) (hn:fn.ntmps=n) (hen:xp P f=true) (hsz:args.length<=n)
  (O:Hs.length<=Hs'.length) (hlive:∀x∈Hs,isLive x) (J:∀x∈Hs'.drop Hs.length,isLive x)
  (h:Awp P n Hs.length c (Ret P rl Hs.length r Hs') ⟨jV 0 args,yF 0 Hs,Hs.length⟩):AC P f args Hs r Hs':=by
 subst hrl;subst hn;refine⟨hen,O,λw vals β Y hβ hY Z hO m=>?_⟩;have d:∀l:List AObj,hook (yF 0 l)=λo=>l.getD o .gone:=λl=>funext λo=>by rw[kr];simp
 refine(callsIn_wide (n:=0)).1<|callsIn_of_wp_marks hf H trivial (wpIn_wide.2 ?_);have hvl:=m.1
 have L:∀o x,(λo=>if o<Hs.length then some (β o) else none:Nat->Option (Option Nat)) o=some x->o<Hs.length/\β o=x:=λo x z=>by
  simp only at z;split at z;next C=>injection z with z;exact⟨C,z⟩
  .cases z
 refine wp_mono (h w (Own (λo=>Hs.getD o .gone) β) Y (λo=>if o<Hs.length then some (β o) else none) β _ w (λo x z=>(L o x z).1) zj ⟨Good.refl _ _,λi=>?_,?_,λo b j p=>.inl ⟨o,?_,p⟩,Marks.nil _ _,hY,λo x z=>(L o x z).2,Z⟩ λk hk=>?_) λe K w' W=>?_
 .rw[YF,EL<|SQ _,GY];show TRep w (XO Y (hook<|yF 0 Hs) β) β _ _;rw[d];by_cases hi:i<args.length
  .have j:args[i]?=some args[i]:=EU hi;have p:vals[i]?=some (vals[i]' za):=EU za;have:=m.2 i _ _ j p;simp only[getD,j,Sq];have M:(vals.toArray++Array.replicate (fn.ntmps-vals.toArray.size) undef).getD i undef=vals[i]' za:=by simp[SB,Array.getElem?_append,(za:i<vals.length)]
   rw[M];exact this
  .simp only[getD,GM (by omega:args.length<=i),Option.getD_none];trivial
 .show Objs (hook<|yF 0 Hs) β Y w;rw[d];exact hO
 .have U:isLive (hook (yF 0 Hs) o):=j;rw[d] at U;exact U
 .rcases hk with hk|hk
  .cases H:β k with
   |none=>exact absurd H hk
   |some b=>exact hβ k b H
  .simp only at hk;split at hk
   .assumption
   .exact absurd rfl hk
 .have key:At P w (Own (λo=>Hs.getD o .gone) β) Y (λo=>if o<Hs.length then some (β o) else none) fn.ntmps (tD P fn.results.toList Hs.length r Hs') K w'->∃Ds w1,K.defers=Ds.map mark/\Ds.Nodup/\(∀D∈Ds,w'.heap[D]?=some (.deferred<|some []))/\w1=uS Ds w'/\∃v,(results fn K.tmps).run P w1=.ok v w1/\∃v' g,Ending.returned v=.returned v'/\
    Good w (Own (λo=>Hs.getD o .gone) β) w1/\Objs (λo=>Hs'.getD o .gone) g Y w1/\TRep w1 (λb=>Y b\/Own (λo=>Hs'.getD o .gone) g b) g r v'/\
    (∀o b,g o=some b->o<Hs'.length)/\(∀o,o<Hs.length->g o=β o)/\(∀o b,Hs.length<=o->g o=some b->w.heap.size<=b\/Own (λo=>Hs.getD o .gone) β b):=by
   rintro ⟨s,g,⟨rs,G,σ,E,r0,j,p,M,V,I,h6,h7,h8⟩,_,F,_⟩;obtain⟨Ds,hds,X,T,F⟩:=F.shut;refine⟨Ds,_,hds,X,T,rfl,?_⟩;clear T;generalize uS Ds w'=w' at F ⊢;obtain⟨N,g1,g2⟩:=fR F j;have k:=AD V h7 h8;have hrs:LRep (TRep w' (XO Y (hook<|yF 0 Hs')<|cutβ σ Hs'.length g)<|cutβ σ Hs'.length g) G N:=by
    clear j p g1
    induction rs generalizing G N with
    |nil=>
     cases G with
     |nil=>
      have:N=[]:=S1 (zl g2.1.symm);subst this;exact .nil
     |cons y ys=>exact I.elim
    |cons x xs ih=>
     cases G with
     |nil=>exact I.elim
     |cons y ys=>obtain⟨u,us',rfl,hu,hr⟩:=g2.cons_inv;exact .cons (k.rep F.objs hu I.1.1 I.1.2)<|ih _ I.2 _ hr
   have hp:=TRep.le M<|nC p hrs;refine⟨(if h:N.toArray.size=1 then N.toArray[0] else .tuple N.toArray),?_,_,cutβ σ Hs'.length g,rfl,F.good,?_,?_,λo b C=>?_,λo C=>?_,λo b C H=>?_⟩
   .unfold results;rw[<-F6 (xs:=fn.results),List.mapM_toArray];simp only[Sv,Sem.run_map,SC];show((Sem.run P (List.mapM (si K.tmps) fn.results.toList) w').andThen _).andThen _=_;rw[g1];rfl
   .have:=k.objs F.objs;rw[d] at this;exact this
   .have:=hp;rw[d] at this;exact this
   .simp only[cutβ] at C;split at C
    .assumption
    .cases C
   .simp only[cutβ,(za:o<Hs'.length),S9,h6 o C];exact F.pins o (β o) (by simp[C])
   .simp only[cutβ] at H;split at H
    .rename_i S;have hl:isLive (hook (yF 0 Hs') o):=by rw[kr,EL<|SQ _,GY];simp only[getD,EU S,Sq];refine J _<|List.mem_iff_getElem?.2 ⟨o-Hs.length,?_⟩;rw[SS,(za:Hs.length+(o-Hs.length)=o)];exact EU S
     rcases F.own _ b (k.live hl) H with h9|h9
     .exact .inr h9
     .exact .inl h9
    .cases H
  cases e with
  |normal=>obtain⟨Ds,w1,j,p,M,rfl,v,V,I⟩:=key W;show LeavesInM Fence.wide 0 P fn K.tmps _ K.defers .returning w';rw[j];exact kN p M ⟨v,V,I⟩
  |ret=>obtain⟨Ds,w1,j,p,M,rfl,v,V,I⟩:=key W;show LeavesInM Fence.wide 0 P fn K.tmps _ K.defers .returning w';rw[j];exact kN p M ⟨v,V,I⟩
  |exit i=>obtain⟨s,β,j,_⟩:=W;exact j.elim
  |_=>exact W.elim
end
end Go.AM
namespace Go.AM
def FV.I:FV->Int|.int _ n=>n|_=>0
def FV.asB:FV->Bool|.bool b=>b|_=>false
def FV.S:FV->List UInt8|.str l=>l|_=> []
def FV.ses:FV->List (List FV)|.sl _ _ es=>es|_=> []
def FV.L (n:Nat):FV->Bool|.N=>true|.sl _ m _=>m==n|.z0 _=>true|_=>false
def FV.cut (x:FV)(lo hi:Nat):FV:=match x with|.sl b n es=>.sl b n ((es.take hi).drop lo)|y=>y
def FV.cut0 (x:FV):FV:=match x with|.sl b _ _=>.z0 b|y=>y
def shp:List FV->Nat->List FV->List FV
 |[],_,_=> []
 |.int k _::z,j,r=>.int k (r.getD j .N).I::shp z (j+1) r
 |.bool _::z,j,r=>.bool (r.getD j .N).asB::shp z (j+1) r
 |.str _::z,j,r=>.str (r.getD j .N).S::shp z (j+1) r
 |_::z,j,r=>r.getD j .N::shp z (j+1) r
def W9:∀(z) (j) (r),(shp z j r).length=z.length
 |[],_,_=>rfl
 |x::z,j,r=>by cases x<;>simp[shp,EH,W9 z]
def br (b:Bool)(t f:Prop):Prop:=match b with|true=>t|false=>f
def zm {b t f}(e:b=true->t)(d:b=false->f):br b t f:=by
 cases b
 .exact d rfl
 .exact e rfl
def br_true {t f}:br true t f=t:=rfl
def J4 {t f}:br false t f=f:=rfl
def oK' (r:Option AR)(K:AR->Prop):=match r with|some r=>K r|none=>False
def xH {r K}(h:oK' r K):∃x,r=some x/\K x:=by
 cases r with
 |none=>exact h.elim
 |some x=>exact⟨x,rfl,h⟩
def FV.isPt:FV->Bool|.pt _=>true|_=>false
def FV.prow:FV->List FV|.pt cs=>cs|_=> []
def FV.isNp:FV->Bool|.cst (.pointer none)=>true|_=>false
def FV.isMp:FV->Bool|.mp _=>true|_=>false
def FV.mes:FV->List MapZ|.mp es=>es|_=> []
def ask (b:Bool)(K:Prop):Prop:=match b with|true=>K|false=>False
def qU {b K}(h:ask b K):b=true/\K:=by
 cases b
 .exact h.elim
 .exact⟨rfl,h⟩
def zq {b K}(h:b=true)(k:K):ask b K:=by subst h;exact k
def Xb {y:FV}(h:y.isPt=true):y=.pt y.prow:=by cases y<;>first|rfl|cases h
def isMp_eq {y:FV}(h:y.isMp=true):y=.mp y.mes:=by cases y<;>first|rfl|cases h
def isNp_eq {y:FV}(h:y.isNp=true):y=.cst (.pointer none):=by unfold FV.isNp at h;grind
def kindB (z c:FV):Bool:=
 match z with
 |.int k _=>match c with|.int k' _=>k==k' |_=>false
 |.bool _=>match c with|.bool _=>true|_=>false
 |.str _=>match c with|.str _=>true|_=>false
 |_=>true
def shpB:List FV->List FV->Bool
 |[],_=>true
 |z::zs,r=>match r with
  |[]=>false
  |c::r=>kindB z c&&shpB zs r
def fA:∀ {z r} (p),shpB z r=true->shp z p.length (p++r)=r.take z.length/\z.length<=r.length
 |[],r,p,_=>⟨by simp[shp],zb⟩
 |x::z,[],p,h=>by cases h
 |x::z,c::r,p,h=>by
  have d:(p++c::r).getD p.length .N=c:=zb;have h':=(EN _ _▸(h));let ⟨e,g⟩:=fA (p++[c]) h'.2;rw[(zb:p++c::r=(p++[c])++r),] at d;have f:(p++[c]).length=p.length+1:=zb;rw[f] at e;rw[(zb:p++c::r=(p++[c])++r)];have b:=h'.1;refine⟨?_,by simp[EH];omega⟩
  cases x<;>simp only[shp,d,e,EH,List.take_succ_cons]<;>simp[kindB] at b<;>cases c<;>
   first
   |rfl
   |cases b
   |(simp[Sw] at b;subst b;rfl)
def tyP (P:Program)(t:TypeId)(f:TyD->Prop):Prop:=match tyOf P t with|some d=>f d|none=>False
def yS {P t f}(h:tyP P t f):∃d,tyOf P t=some d/\f d:=by unfold tyP at h;grind
def JI (h:Nat->AObj):WV->Prop
 |.a (.osl o n off len)=>match h o with|.arz m fs=>n=m/\off+len<=fs.length|_=>True
 |_=>True
def givW (h:Nat->AObj):WV->WV×AHeap
 |.a (.osl o n off len)=>match h o with
  |.arz _ fs=>(.a<|.fz<|.sl false n<|(fs.drop off).take len,[(o,.gone)])
  |_=>(.a<|.osl o n off len,[])
 |x=>(x,[])
def nX {h x}(d:JI h x):qB h x=givW h x:=by
 cases x with
 |fn f a b=>rfl
 |a x=>
  cases x with
  |osl o n g e=>simp[qB,givW,JI] at d ⊢;grind
  |_=>rfl
def d5 (h:Nat->AObj):List WV->List WV×AHeap
 |[]=>([],[])
 |x::r=>((givW h x).1::(d5 h r).1,(givW h x).2++(d5 h r).2)
def qr (h:Nat->AObj):List WV->Prop
 |[]=>True
 |.a (.osl o n off len)::r=>JI h (.a<|.osl o n off len)/\qr h r
 |_::r=>qr h r
def Yz {h x r}(d:qr h<|x::r):JI h x/\qr h r:=by
 cases x with
 |fn f a b=>exact⟨trivial,d⟩
 |a x=>
  cases x with
  |osl o n g e=>exact d
  |_=>exact⟨trivial,d⟩
def lD {h}:∀ {l},qr h l->vv h l=d5 h l
 |[],_=>rfl
 |x::r,b=>by have:=Yz b;simp[vv,d5,nX this.1,lD this.2]
def givT (h:Nat->AObj):TV->TV×AHeap
 |.c x=>(.c (givW h x).1,(givW h x).2)
 |.agg cs=>(.agg (d5 h cs).1,(d5 h cs).2)
 |x=>(x,[])
def Ea (h:Nat->AObj):TV->Prop
 |.c (.a (.osl o n off len))=>JI h<|.a<|.osl o n off len
 |.agg cs=>qr h cs
 |_=>True
def th {h x}(g:Ea h<|.c x):JI h x:=by
 cases x with
 |fn f a b=>trivial
 |a x=>cases x with
  |osl o n e d=>exact g
  |_=>trivial
def givT_eq {h x}(b:Ea h x):ZW h x=givT h x:=by
 cases x with
 |c x=>simp[ZW,givT,nX<|th b]
 |agg cs=>simp[ZW,givT,lD (h:=h) (l:=cs) b]
 |_=>rfl
def givP (h:Nat->AObj):List (Nat×TV)->List (Nat×TV)×AHeap
 |[]=>([],[])
 |(i,x)::r=>((i,(givT h x).1)::(givP h r).1,(givT h x).2++(givP h r).2)
def asksT (h:Nat->AObj)(x:TV)(K:Prop):Prop:=
 match x with
 |.c (.a (.osl o n off len))=>JI h (.a<|.osl o n off len)/\K
 |.agg cs=>match cs.any (λc=>match c with|.a (.osl _ _ _ _)=>true|_=>false) with
  |true=>qr h cs/\K
  |false=>K
 |_=>K
def X3 {h}:∀ {cs},cs.any (λc=>match c with|.a (.osl _ _ _ _)=>true|_=>false)=false->qr h cs
 |[],_=>trivial
 |x::r,d=>by
  simp only[SY,Bool.or_eq_false_iff] at d;have:=X3 (h:=h) d.2;cases x with
  |fn f a b=>exact this
  |a x=>cases x with
   |osl o n g e=>cases d.1
   |_=>exact this
def gG {h x K}(b:asksT h x K):Ea h x/\K:=by
 unfold asksT at b;split at b
 .exact b
 .rename_i cs;split at b
  .exact b
  next d=>exact⟨X3 d,b⟩
 next f e=>refine⟨?_,b⟩;unfold Ea;simp
def asksP (h:Nat->AObj):List (Nat×TV)->Prop->Prop
 |[],K=>K
 |(_,x)::r,K=>asksT h x<|asksP h r K
def Xq {h}:∀ {l} {K},asksP h l K->vq h l=givP h l/\K
 |[],_,b=>⟨rfl,b⟩
 |(i,x)::r,K,b=>by let ⟨g,d⟩:=gG b;let ⟨f,e⟩:=Xq d;exact⟨by simp[vq,givP,givT_eq g,f],e⟩
section
variable {P:Program}
def elemV (de:TyD)(x:TV)(i:Int)(K:TV->Prop):Prop:=
 match x with
 |.c (.a (.osl o n off len))=>match de.size==n with
  |true=>(0<=i/\i<len)/\K (.c<|.a<|.ep o n (off+i.toNat) 0)
  |false=>False
 |.c (.a (.fz y))=>match de.zero with
  |some z=>(y.L de.size=true/\0<=i/\i<y.ses.length/\shp z 0 (y.ses.getD i.toNat [])=y.ses.getD i.toNat [])/\K (.c<|.a<|.fz<|.pt<|shp z 0<|y.ses.getD i.toNat [])
  |none=>False
 |_=>False
def mM {f x i K}(h:elemV f x i K):∃v,Xi f x i=some v/\K v:=by
 unfold elemV at h;split at h
 .rename_i o n p r;split at h;next g=>simp[Sw] at g;exact⟨_,by simp[Xi,g,h.1,and_self,S9],h.2⟩
  .grind
 .rename_i y;split at h
  .rename_i z w;let ⟨⟨e,j,b,m⟩,d⟩:=h;rw[m] at d;cases y with
   |sl u n es=>simp[FV.L,Sw] at e;simp[FV.ses] at b d;exact⟨_,by simp[Xi,e,j,b,and_self,S9],d⟩
   |N=>simp[FV.ses] at b;omega
   |z0=>simp[FV.ses] at b;omega
   |_=>cases e
  .grind
 .grind
def Za (P:Program)(d:TyD)(x ix:TV)(K:TV->Prop):=
 match ix with
 |.c (.a (.fz (.int _ i)))=>match d.kind with
  |.slice e=>tyP P e λde=>elemV de x i K
  |.arr m e=>tyP P e λde=>match x with
   |.c (.a (.ep o n k j))=>(0<=i/\i<m)/\K (.c<|.a<|.ep o n k<|j+i.toNat*de.size)
   |_=>False
  |_=>False
 |_=>False
def W0 {d x f K}(h:Za P d x f K):∃v,yJ P d x f=some v/\K v:=by
 unfold Za at h;split at h
 .split at h
  .rename_i e;let ⟨j,hd,b⟩:=yS h;clear h;have h:=b;clear b;let ⟨v,g,i⟩:=mM h;exact⟨v,by simp[yJ,e,hd,g],i⟩
  .rename_i e;let ⟨j,hd,b⟩:=yS h;clear h;have h:=b;clear b;split at h
   .exact⟨_,by simp[yJ,e,hd,dt,h.1,and_self,S9],h.2⟩
   .grind
  .grind
 .grind
def sf (P:Program)(d:TyD)(x ix:TV)(K:TV->Prop):=
 match ix with
 |.c (.a (.fz (.int _ i)))=>match d.kind with
  |.str=>match x with
   |.c (.a (.fz (.str l)))=>(0<=i/\i<l.length)/\K (.c<|.a<|.fz<|.int .u8 (l.getD i.toNat 0).toNat)
   |_=>False
  |_=>match Wl P d x ix with|some v=>K v|none=>False
 |_=>False
def iz {d x b K}(h:sf P d x b K):∃v,Wl P d x b=some v/\K v:=by
 unfold sf at h;split at h
 .split at h
  .rename_i e;split at h
   .exact⟨_,by simp[Wl,e,h.1,and_self,S9],h.2⟩
   .grind
  .grind
 .grind
def bndV (x:Option TV)(dflt:Int)(K:Int->Prop):Prop:=
 match x with
 |none=>K dflt
 |some (.c (.a (.fz (.int _ i))))=>K i
 |_=>False
def qq {x}{b most:Nat}{K}(h:bndV x b K):∃i,K i/\(0<=i->i<=most->wQ x b most=some i.toNat):=by
 unfold bndV at h;split at h
 .exact⟨b,h,λ_ _=>by simp[wQ]⟩
 next i=>exact⟨i,h,λe d=>by simp[wQ,e,d,and_self,S9]⟩
 .grind
def KS (lo hi mx:Option TV)(len:Nat)(K:Nat->Nat->Prop):=
 match mx with
 |none=>bndV hi len λb=>bndV lo ((0:Nat)) λa=>(0<=a/\a<=b/\b<=len)/\K a.toNat b.toNat
 |some m=>match hi with
  |none=>False
  |some _=>bndV (some m) len λc=>bndV hi len λb=>bndV lo ((0:Nat)) λa=>(0<=a/\a<=b/\b<=c/\c<=len)/\K a.toNat b.toNat
def Z7 {p g o d K}(h:KS p g o d K):∃a b,ZV p g o d=some (a,b)/\K a b:=by
 unfold KS at h;split at h
 .let ⟨b,h,e⟩:=qq (most:=d) h;let ⟨a,h,i⟩:=qq (most:=b.toNat) h;let ⟨⟨j,w,r⟩,f⟩:=h;refine⟨_,_,?_,f⟩;have u:wQ none d d=some d:=rfl;simp[ZV,u,e za r,(za:b.toNat<=d),G7,S5,false_implies,and_self,S9,i j za,S2]
 .split at h
  .grind
  .rename_i m g;let ⟨c,h,x⟩:=qq (most:=d) h;let ⟨b,h,e⟩:=qq (most:=d) h;let ⟨a,h,i⟩:=qq (most:=b.toNat) h;let ⟨⟨j,w,r,v⟩,f⟩:=h;refine⟨_,_,?_,f⟩;simp[ZV,x za v,e za za,(za:b.toNat<=c.toNat),Option.isSome_some,implies_true,and_self,S9,i j za,S2]
def oU (P:Program)(d:TyD)(x:TV)(lo hi mx:Option TV)(K:TV->Prop):=
 match d.kind with
 |.slice e=>tyP P e λde=>match x with
  |.c (.a (.osl o n off len))=>match n==de.size with
   |true=>KS lo hi mx len λa b=>K<|.c<|.a<|.osl o n (off+a)<|b-a
   |false=>False
  |.c (.a (.fz y))=>y.L de.size=true/\KS lo hi mx y.ses.length λa b=>br (uC mx) (K<|.c<|.a<|.fz y.cut0)<|K<|.c<|.a<|.fz<|y.cut a b
  |_=>False
 |.str=>match x,mx with
  |.c (.a (.fz (.str l))),none=>KS lo hi none l.length λa b=>K<|.c<|.a<|.fz<|.str<|(l.take b).drop a
  |_,_=>False
 |_=>False
def iH {d x u w o K}(h:oU P d x u w o K):∃v,vb P d x u w o=some v/\K v:=by
 unfold oU at h;split at h
 .rename_i e j;let ⟨A,hd,i⟩:=yS h;clear h;have h:=i;clear i;split at h
  .split at h
   .rename_i r;let ⟨a,b,g,f⟩:=Z7 h;simp[Sw] at r;subst r;exact⟨_,by simp[vb,j,hd,Zk,S9,g,S2],f⟩
   .grind
  .rename_i y;let ⟨p,h⟩:=h;let ⟨a,b,g,f⟩:=Z7 h;cases y with
   |sl z n es=>
    simp[FV.L,Sw] at p;simp[FV.ses] at g;refine⟨_,by simp[vb,j,hd,Zk,p,S9,g,S2];rfl,?_⟩;simp[FV.cut,FV.cut0,p] at f ⊢;cases m:uC o with
    |true=>rw[m,br_true] at f;exact zl f
    |false=>rw[m,J4] at f;exact zl f
   |N=>simp[FV.ses,EY] at g;refine⟨_,by simp[vb,j,hd,Zk,g,S2];rfl,?_⟩;cases m:uC o<;>rw[m] at f<;>exact f
   |z0 z=>simp[FV.ses,EY] at g;refine⟨_,by simp[vb,j,hd,Zk,g,S2];rfl,?_⟩;cases m:uC o<;>rw[m] at f<;>exact f
   |_=>cases p
  .grind
 .rename_i j;split at h
  .let ⟨a,b,g,f⟩:=Z7 h;exact⟨_,by simp[vb,j,JE,g,S2],f⟩
  .grind
 .grind
def loadV (d:TyD)(h:Nat->AObj)(x:TV)(K:AR->Prop):Prop:=
 match x with
 |.c (.a (.ep o n i j))=>match h o with
  |.arz m fs=>match m==n,d.zero with
   |true,some z=>match z with
    |[]=>False
    |z0::zs=>(i<fs.length/\shp (z0::zs) j (fs.getD i [])=((fs.getD i []).drop j).take (z0::zs).length/\d.size=(z0::zs).length)/\
     K ⟨if d.agg then .agg (fzs<|shp (z0::zs) j<|fs.getD i []) else .c<|cell<|(shp (z0::zs) j<|fs.getD i []).getD 0 .N,[],[o]⟩
   |_,_=>False
  |_=>oK' ((wD d (λo=>flat<|h o) x).map λr=>⟨r.1,[],r.2⟩) K
 |.c (.a (.fz y))=>match d.zero with
  |some z=>ask (y.isPt&&(Nat.beq d.size z.length&&Nat.ble 1 z.length))<|ask (shpB z y.prow)<|K ⟨if d.agg then .agg (fzs<|shp z 0 y.prow) else .c<|cell<|(shp z 0 y.prow).getD 0 .N,[],[]⟩
  |none=>oK' ((wD d (λo=>flat<|h o) x).map λr=>⟨r.1,[],r.2⟩) K
 |_=>oK' ((wD d (λo=>flat<|h o) x).map λr=>⟨r.1,[],r.2⟩) K
def sR {d h x K}(e:loadV d h x K):∃r,(wD d (λo=>flat<|h o) x).map (λr=>(⟨r.1,[],r.2⟩))=some r/\K r:=by
 unfold loadV at e;split at e
 .rename_i o n i j;split at e
  .rename_i m E M;split at e
   .rename_i z L S;simp[Sw] at L;split at e
    .exact e.elim
    .rename_i T N;let ⟨⟨u,g,p⟩,C⟩:=e;have w:E[i]?=some (E.getD i []):=by simp[getD,EU u]
     generalize E.getD i []=b at*;generalize F:T::N=G at*;have f:(b.drop j).length>=G.length:=by have:=SJ List.length g;rw[W9,S8,Nat.min_def] at this;grind
     have A:0<G.length:=zd;refine⟨_,?_,C⟩;simp[wD,M,flat,L,S9,EX,w,S2];by_cases v:d.agg=true
     .have H:(fzs b).drop j=fzs (b.drop j):=by simp[fzs]
      simp[jr,v,S9,H,show d.size<=(fzs<|b.drop j).length by simp[fzs];simp at f;omega,S2];rw[g,p];simp[fzs]
     .have H:(fzs b).drop j=fzs (b.drop j):=by simp[fzs]
      simp[jr,v,S5,Sj,H]
      match I:b.drop j,f with
      |[],f=>exact absurd A (by simp only[EY] at f;omega)
      |y::ys,_=>simp[fzs,SA,S2];grind
   .exact e.elim
  .exact xH e
 .rename_i y;split at e
  .rename_i z S;let ⟨u,e⟩:=qU e;let ⟨O,C⟩:=qU e;simp only[EN] at u;let ⟨u,g,p⟩:=u;have p:=Sp p;let ⟨J,D⟩:=fA [] O;simp[SD,EY] at J;rw[J] at C;refine⟨_,?_,C⟩;have U:=Xb u;generalize y.prow=b at*;subst U;simp[wD];by_cases v:d.agg=true
   .simp[jr,v,S9,(S7 g),show z.length<=(fzs b).length by simpa[fzs] using D,S2];simp[fzs,Gu]
   .simp[jr,v,S5,Sj]
    match b,D with
    |[],D=>exact absurd p (by simp only[EY] at D;omega)
    |c::cs,_=>
     match z,p with
     |_::_,_=>simp[fzs,v]
  .exact xH e
 .exact xH e
def rv (d:TyD)(h:Nat->AObj)(x y:TV)(K:AR->Prop):Prop:=
 match x with
 |.c (.a (.ep o n i j))=>match h o with
  |.arz m fs=>match uR y with
   |some cs=>match unfz cs with
    |some fcs=>match m==n&&fcs.length==d.size&&j==0&&fcs.length==n with
     |true=>(i<fs.length/\(fs.getD i []).length=n)/\K ⟨.any,[(o,.arz n<|fs.set i fcs)],[o]⟩
     |false=>match m==n&&fcs.length==d.size&&Nat.ble (j+fcs.length) n with
      |true=>(i<fs.length/\(fs.getD i []).length=n)/\K ⟨.any,[(o,.arz n<|fs.set i<|uq (fs.getD i []) j fcs)],[o]⟩
      |false=>oK' (uL d h x y) K
    |none=>False
   |none=>False
  |_=>oK' (uL d h x y) K
 |_=>oK' (uL d h x y) K
def iJ {d h x y K}(b:rv d h x y K):∃r,uL d h x y=some r/\K r:=by
 unfold rv at b;split at b
 .rename_i o n i j;split at b
  .rename_i m g w;split at b
   .rename_i cs v;split at b
    .rename_i f A;split at b
     .rename_i p;simp[EN,Sw] at p;let ⟨⟨⟨u,hd⟩,z⟩,G⟩:=p;let ⟨⟨F,C⟩,E⟩:=b;have e:g[i]?=some (g.getD i []):=zd;have D:uq (g.getD i []) j f=f:=by subst z;simp[uq,List.take_zero,SD,Sa];grind
      simp only[uL,v,w,A,u,hd,and_self,S9,e];grind
     .split at b
      .rename_i p;simp[EN,Sw,Nat.ble_eq] at p;let ⟨⟨u,hd⟩,z⟩:=p;let ⟨⟨F,C⟩,E⟩:=b;have e:g[i]?=some (g.getD i []):=zd;simp only[uL,v,w,A,u,hd,and_self,S9,e];grind
      .exact xH b
    .grind
   .grind
  .exact xH b
 .exact xH b
def rR (n:Nat)(h:Nat->AObj)(x:TV)(K:List (List FV)->List Nat->Prop):Prop:=
 match x with
 |.c (.a (.fz y))=>y.L n=true/\K y.ses []
 |.c (.a (.osl o m off len))=>match h o with
  |.arz m' es=>match m==n&&m'==n with
   |true=>off+len<=es.length/\K ((es.drop off).take len) [o]
   |false=>False
  |_=>False
 |_=>False
def i6 {n h x K}(b:rR n h x K):∃es rd,ki n h x=some (es,rd)/\K es rd:=by
 unfold rR at b;split at b
 .rename_i y;let ⟨f,e⟩:=b;cases y with
  |sl i m es=>simp[FV.L,Sw] at f;exact⟨_,_,by simp[ki,f,S9];rfl,e⟩
  |N=>exact⟨_,_,rfl,e⟩
  |z0=>exact⟨_,_,rfl,e⟩
  |_=>cases f
 .split at b
  .rename_i g;split at b;next d=>simp[EN,Sw] at d;exact⟨_,_,by simp[ki,g,d.1,d.2,b.1,and_self,S9],b.2⟩
   .grind
  .grind
 .grind
def dg (d:TyD)(fr:Nat)(h:Nat->AObj)(s x:TV)(K:AR->Prop):=
 rR d.size h x λnew rd=>match s with
  |.c (.a (.fz .N))=>br new.isEmpty (K ⟨s,[],rd⟩)<|zw new.length d.bytes/\K ⟨.c<|.a<|.osl fr d.size 0 new.length,[(fr,.arz d.size new)],rd⟩
  |.c (.a (.fz (.z0 _)))=>br new.isEmpty (K ⟨s,[],rd⟩)<|zw new.length d.bytes/\K ⟨.c<|.a<|.osl fr d.size 0 new.length,[(fr,.arz d.size new)],rd⟩
  |.c (.a (.osl o n off len))=>match h o with
   |.arz m fs=>match n==d.size&&m==d.size&&off==0 && !(fr::rd).contains o with
    |true=>(len<=fs.length/\zw (len+new.length) d.bytes)/\
     K ⟨.c<|.a<|.osl fr d.size 0<|len+new.length,[(o,.gone),(fr,.arz d.size<|fs.take len++new)],o::rd⟩
    |false=>False
   |_=>False
  |_=>False
def di {d fr h s x K}(b:dg d fr h s x K):∃r,wk d fr h s x=some r/\K r:=by
 unfold dg at b;let ⟨e,rd,g,b⟩:=i6 b;split at b
 .by_cases f:e=[]
  .subst f;exact⟨_,by simp[wk,g,S9],b⟩
  .have:e.isEmpty=false:=by cases e<;>simp_all
   rw[this,J4] at b;exact⟨_,by simp[wk,g,f,Sj,b.1,S9],b.2⟩
 .by_cases f:e=[]
  .subst f;exact⟨_,by simp[wk,g,S9],b⟩
  .have:e.isEmpty=false:=by cases e<;>simp_all
   rw[this,J4] at b;exact⟨_,by simp[wk,g,f,Sj,b.1,S9],b.2⟩
 .split at b
  .rename_i m;split at b
   .rename_i i;simp[EN,Sw,SK] at i;let ⟨⟨⟨w,j⟩,v⟩,p⟩:=i;let ⟨⟨u,y⟩,o⟩:=b;exact⟨_,by simp[wk,g,m,w,j,v,p,u,y,GR,and_self,S9],o⟩
   .grind
  .grind
 .grind
def JZ (P:Program)(t':TypeId)(de:TyD)(fr:Nat)(s x:TV)(K:AR->Prop):Prop:=
 match P.underlying t',s,x with
 |some (.int _),.c (.a (.fz .N)),.c (.a (.fz (.int _ n)))=>match decide (0<de.size/\0<de.bytes)&&(de.zero.map List.length==some de.size) with
  |true=>(0<n/\zw n.toNat de.bytes)/\K ⟨.c<|.a<|.osl fr de.size 0 n.toNat,[(fr,.arz de.size [])],[]⟩
  |false=>False
 |_,_,_=>False
def fT {f e fr s x K}(b:JZ P f e fr s x K):∃r,(qR P f e fr s x).map yV=some r/\K r:=by
 unfold JZ at b;split at b
 .rename_i g;split at b;next d=>simp only[EN,Sf,Sw] at d;refine⟨_,?_,b.2⟩;unfold qR;simp only[g];rw[EL ⟨b.1.1,d.1.1,b.1.2,d.1.2,d.2⟩];rfl
  .grind
 .grind
def JU (P:Program)(b:Builtin)(ts:List TypeId)(fr:Nat)(h:Nat->AObj)(args:List TV)(K:AR->Prop):=
 match b,ts,args with
 |.len,[t],[x]=>tyP P t λd=>match d.kind,x with
  |.slice e,.c (.a (.fz y))=>tyP P e λde=>y.L de.size=true/\K ⟨iV y.ses.length,[],[]⟩
  |_,_=>oK' (xx P .len [t] fr h [x]) K
 |.append,[t,t'],[s,x]=>match t==t' with
  |true=>tyP P t λd=>match d.kind with
   |.slice e=>tyP P e λde=>match decide (0<de.size/\0<de.bytes/\de.bytes<=4096)&&(de.zero.map List.length==some de.size) with
    |true=>dg de fr h s x K
    |false=>False
   |_=>False
  |false=>tyP P t λd=>match d.kind with
   |.slice e=>tyP P e λde=>JZ P t' de fr s x K
   |_=>False
 |b,ts,args=>oK' (xx P b ts fr h args) K
def gB {b C fr h args K}(g:JU P b C fr h args K):∃r,xx P b C fr h args=some r/\K r:=by
 unfold JU at g;split at g
 .rename_i t x;let ⟨d,hd,f⟩:=yS g;clear g;have g:=f;clear f;split at g
  .rename_i e y j;let ⟨A,i,f⟩:=yS g;clear g;have g:=f;clear f;let ⟨o,z⟩:=g;cases y with
   |sl E m es=>exact⟨_,by simp[xx,xQ,yl,hd,lenP,j,XN,S2];rfl,z⟩
   |N=>exact⟨_,by simp[xx,xQ,yl,hd,lenP,j,XN,S2];rfl,z⟩
   |z0=>exact⟨_,by simp[xx,xQ,yl,hd,lenP,j,XN,S2];rfl,z⟩
   |_=>cases o
  .exact xH g
 .rename_i t D s x;split at g
  .rename_i p;simp[Sw] at p;subst p;let ⟨d,hd,f⟩:=yS g;clear g;have g:=f;clear f;split at g
   .rename_i e j;let ⟨A,i,f⟩:=yS g;clear g;have g:=f;clear f;split at g
    .rename_i w;simp[EN,Sf,Sw] at w;let ⟨r,o,u⟩:=di g;exact⟨r,by simp[xx,S9,yf,hd,j,i,Y3,w.1,w.2,and_self,o],u⟩
    .grind
   .grind
  .rename_i p;let ⟨d,hd,f⟩:=yS g;clear g;have g:=f;clear f;split at g
   .rename_i e j;let ⟨A,i,f⟩:=yS g;clear g;have g:=f;clear f;let ⟨r,o,u⟩:=fT g;have v:¬t=D:=zd;exact⟨r,by simp[xx,v,Sj,yf,hd,j,i,o],u⟩
   .grind
 .exact xH g
def ptrQ (P:Program)(t:TypeId)(op:BinOp)(x y:TV):Option (FV×Bool):=
 match x,y with
 |.c (.a (.fz y0)),.c (.a (.fz (.cst (.pointer none))))=>match tyOf P t with
  |some d=>match d.kind,op with
   |.ptr _,.eql=>some (y0,false)
   |.ptr _,.neq=>some (y0,true)
   |_,_=>none
  |none=>none
 |_,_=>none
def ptrQ_inv {t m x y q}{K:TV->Prop}(h:ptrQ P t m x y=some q)(j:br q.1.isNp (K<|bV (!q.2))<|ask q.1.isPt<|K<|bV q.2):∃v,binA P t m x y=some v/\K v:=by
 have key:∀ {f} {b:Bool} {g:Bool->Bool},q=(f,b)->(∀r,(gA (.a<|.fz f)<|.a<|.fz<|.cst<|.pointer none)=some r->∃v,binA P t m x y=some v/\v=bV (g r))->(g true= !b)->(g false=b)->∃v,binA P t m x y=some v/\K v:=by
  intro f b g A w D C;subst A;cases p:f.isNp with
  |true=>rw[p] at j;obtain⟨v,u,rfl⟩:=w true (by rw[isNp_eq p];rfl);exact⟨_,u,D▸j⟩
  |false=>rw[p] at j;let ⟨z,i⟩:=qU j;obtain⟨v,u,rfl⟩:=w false (by rw[Xb (y:=f) z];rfl);grind
 unfold ptrQ at h;split at h
 .rename_i f;split at h
  .rename_i d hd;split at h
   .rename_i e i;injection h with h
    exact key (g:=λr=>r) h.symm (λr o=>⟨_,by simp[binA,eqA,eqC,hd,i,o,eqOp,S2],rfl⟩) rfl rfl
   .rename_i e i;injection h with h
    exact key (g:=λr=> !r) h.symm (λr o=>⟨_,by simp[binA,eqA,eqC,hd,i,o,eqOp,S2],rfl⟩) rfl rfl
   .cases h
  .cases h
 .cases h
def binV (P:Program)(t:TypeId)(op:BinOp)(x y:TV)(K:TV->Prop):Prop:=
 match op,x,y with
 |.quo,.c (.a (.fz (.int k a))),.c (.a (.fz (.int k' b)))=>(k=k'/\b≠0)/\K (.c<|.a<|.fz<|.int k<|k.wrap<|a.tdiv b)
 |.rem,.c (.a (.fz (.int k a))),.c (.a (.fz (.int k' b)))=>(k=k'/\b≠0)/\K (.c<|.a<|.fz<|.int k<|a.tmod b)
 |.add,.c (.a (.fz (.str a))),.c (.a (.fz (.str b)))=>(a.length+b.length<=1000000000000)/\K (.c<|.a<|.fz<|.str<|a++b)
 |op,x,y=>match ptrQ P t op x y with
  |some q=>br q.1.isNp (K<|bV (!q.2))<|ask q.1.isPt<|K<|bV q.2
  |none=>match binA P t op x y with|some v=>K v|none=>False
def binV_inv {t f x y K}(b:binV P t f x y K):∃v,binA P t f x y=some v/\K v:=by
 unfold binV at b;split at b
 .obtain⟨⟨rfl,e⟩,d⟩:=b;exact⟨_,by simp[binA,S9,KP,e,Sj,S2],d⟩
 .obtain⟨⟨rfl,e⟩,d⟩:=b;exact⟨_,by simp[binA,S9,KP,e,Sj,S2],d⟩
 .let ⟨e,d⟩:=b;exact⟨_,by simp[binA,pJ,e,S9,S2],d⟩
 .split at b;next q h=>exact ptrQ_inv h b
  .grind
def exC:List FV->(List FV->Prop)->Prop
 |[],K=>K []
 |.int k _::z,K=> ∃n:Int,exC z λl=>K<|.int k n::l
 |.bool _::z,K=> ∃b:Bool,exC z λl=>K<|.bool b::l
 |.str _::z,K=> ∃s:List UInt8,exC z λl=>K<|.str s::l
 |_::z,K=> ∃x:FV,exC z λl=>K<|x::l
def cN:∀ {z} {K},exC z K->∃l,K l/\l.length=z.length/\((z.all λf=>match f with|.int _ _=>true|.bool _=>true|.str _=>true|_=>false)=true->l.all FV.scalar=true)
 |[],K,h=>⟨[],h,rfl,λ_=>rfl⟩
 |f::z,K,h=>by
  cases f<;>(let ⟨a,h⟩:=h;let ⟨l,e,d,g⟩:=cN h;refine⟨_,e,zd,λb=>?_⟩;simp only[G0,EN,SL,S5,false_and] at b ⊢)<;>
   first|(exact b.elim)|(exact⟨rfl,g b⟩)
def cH (m:Bool×List EK)(key:List FV):List MapE->Nat->(Option Nat->Prop)->Prop
 |[],_,K=>K none
 |e::es,i,K=>match e.1.1==m.1 with
  |true=>match zY m.2 (fzs key) (fzs e.1.2) with
   |some b=>br b (K<|some i)<|cH m key es (i+1) K
   |none=>False
  |false=>False
def jL {m key}:∀ {es} {i} {K},cH m key es i K->∃r,xW m key es i=some r/\K r
 |[],i,K,h=>⟨none,rfl,h⟩
 |e::es,i,K,h=>by
  unfold cH at h;split at h
  .rename_i f;split at h
   .rename_i b d;simp only[xW];rw[EL zd,d];cases b with
    |true=>exact⟨some i,rfl,h⟩
    |false=>exact jL<|h
   .grind
  .grind
def few {α:Type}(l:List α):=Nat.ble l.length 24
def lkZ (m:(Bool×List EK)×(Bool×List WV))(k:List FV)(es:List MapZ)(rd:List Nat)(ok:Bool)(K:AR->Prop):Prop:=
 match unfz m.2.2 with
 |some z=>(exC z λl=>ua m k es=some (some l)/\oK' ((fk ok (m.2.1,fzs l) true).map λv=>⟨v,[],rd⟩) K)\/ua m k es=some none/\oK' ((fk ok m.2 false).map λv=>⟨v,[],rd⟩) K
 |none=>False
def Ef {m h x key k es rd ok K}(i:keyA m key=some k)(d:Zj h x=some (rd,es))(b:lkZ m k es rd ok K):∃r,wo m h x key ok=some r/\K r:=by
 unfold lkZ at b;split at b
 .rcases b with b|⟨e,b⟩
  .let ⟨l,⟨e,b⟩,_⟩:=cN b;let ⟨r,f,g⟩:=xH b;exact⟨r,by simp[wo,d,i,e,f],g⟩
  .let ⟨r,f,g⟩:=xH b;exact⟨r,by simp[wo,d,i,e,f],g⟩
 .exact b.elim
def dl (m:(Bool×List EK)×(Bool×List WV))(h:Nat->AObj)(x key:TV)(ok:Bool)(K:AR->Prop):Prop:=
 match keyA m key with
 |some k=>match x with
  |.c (.a (.fz q))=>ask q.isMp<|lkZ m k q.mes [] ok K
  |x=>match vE h x with
   |some oe=>lkZ m k oe.2 [oe.1] ok K
   |none=>match j7 (λo=>flat<|h o) x with
    |some oe=>match few oe.2 with
     |true=>cH m.1 k oe.2 0 λr=>oK' ((sM m oe.2 r ok).map λv=>⟨v,[],[oe.1]⟩) K
     |false=>False
    |none=>False
 |none=>False
def dJ {m h x key ok K}(b:dl m h x key ok K):∃r,wo m h x key ok=some r/\K r:=by
 unfold dl at b;split at b
 .rename_i k e;split at b
  .rename_i q;let ⟨f,b⟩:=qU b;exact Ef e (by rw[isMp_eq f];rfl) b
  .rename_i i;have j:Zj h x=(vE h x).map λp=>([p.1],p.2):=by unfold Zj;grind
   split at b;next g d=>exact Ef e zd b
   .rename_i v;split at b
    .rename_i g d;split at b
     .let ⟨q,f,b⟩:=jL b;let ⟨r,u,w⟩:=xH b;have y:mapL (λo=>flat<|h o) x=some ([g.1],g.2):=by unfold mapL;grind
      exact⟨r,by simp[wo,j,v,Option.map_none,vz,e,y,f,u],w⟩
     .exact b.elim
    .exact b.elim
 .exact b.elim
def X5 (m:(Bool×List EK)×(Bool×List WV))(h:Nat->AObj)(x key:TV)(K:AR->Prop):Prop:=
 match keyA m key with
 |some k=>match j7 (λo=>flat<|h o) x with
  |some oe=>match few oe.2 with
   |true=>cH m.1 k oe.2 0 λr=>oK' (entE m oe.1 k oe.2 r) K
   |false=>False
  |none=>False
 |none=>False
def Jz {m h x key K}(b:X5 m h x key K):∃r,wB m (λo=>flat<|h o) x key=some r/\K r:=by
 unfold X5 at b;split at b
 .rename_i k e;split at b
  .rename_i j d;split at b
   .let ⟨q,g,b⟩:=jL b;let ⟨r,f,i⟩:=xH b;exact⟨r,by simp[wB,e,d,g,f],i⟩
   .grind
  .grind
 .grind
def Zc (m:(Bool×List EK)×(Bool×List WV))(h:Nat->AObj)(x key v:TV)(K:AR->Prop):Prop:=
 match keyA m key,gI v with
 |some k,some r=>match vE h x with
  |some oe=>match unfz r.2 with
   |some fr=> ∃es',updZ m k (r.1,fr) oe.2=some es'/\K ⟨.any,[(oe.1,.mapz es')],[oe.1]⟩
   |none=>False
  |none=>match j7 (λo=>flat<|h o) x with
   |some oe=>match few oe.2 with
    |true=>cH m.1 k oe.2 0 λq=>K ⟨.any,[(oe.1,.mapo<|updE m k r oe.2 q)],[oe.1]⟩
    |false=>False
   |none=>False
 |_,_=>False
def W1 {m h x key v K}(b:Zc m h x key v K):∃r,yN m h x key v=some r/\K r:=by
 unfold Zc at b;split at b
 .rename_i k o j e;split at b
  .rename_i w d;split at b
   .rename_i fr f;let ⟨y,i,g⟩:=b;exact⟨_,by simp[yN,d,j,e,f,i,S2],g⟩
   .grind
  .rename_i p;split at b
   .rename_i w d;split at b
    .let ⟨q,u,g⟩:=jL b;exact⟨_,by simp[yN,p,yy,j,e,d,u],g⟩
    .grind
   .grind
 .grind
def mapP (P:Program)(t:TypeId)(f:(Bool×List EK)×(Bool×List WV)->Prop):Prop:=match Jx P t with|some m=>f m|none=>False
def Kd {P t f}(h:mapP P t f):∃m,Jx P t=some m/\f m:=by unfold mapP at h;grind
def elemP (P:Program)(t:TypeId)(f:TyD->Prop):=tyP P t λd=>match d.kind with
 |.slice e=>tyP P e f
 |_=>False
def tX {P t f}(h:elemP P t f):∃b,f b/\∀ {α} (g:TyD->Option α),yf P t g=g b:=by
 let ⟨d,hd,h⟩:=yS h;split at h
 .rename_i e j;let ⟨b,i,h⟩:=yS h;unfold yf;grind
 .grind
def qN (de:TyD)(fr:Nat)(x y:TV)(K:AR->Prop):=
 match x,y,de.zero with
 |.c (.a (.fz (.int _ n))),.c (.a (.fz (.int _ m))),some z=>(n=m/\0<=n/\z.length=de.size/\0<de.size/\0<de.bytes/\zw n.toNat de.bytes)/\K ⟨.c<|.a<|.osl fr de.size 0 n.toNat,[(fr,.arz de.size<|List.replicate n.toNat z)],[]⟩
 |_,_,_=>False
def XX {b fr x y K}(h:qN b fr x y K):∃q,vi b fr x y=some q/\K ⟨.c<|.a<|.osl fr b.size 0 q.1,[(fr,.arz b.size<|List.replicate q.1 q.2)],[]⟩:=by
 unfold qN at h;split at h;next e n f m z d=>exact⟨(n.toNat,z),by simp[vi,d,EL h.1],h.2⟩
 .grind
def fldV (d:TyD)(f:Nat)(K:Nat->Prop):Prop:=
 match d.kind with
 |.struct fs=>match fs[f]? with
  |some fd=>match fd.2.1 with
   |0=>False
   |_+1=>K fd.1
  |none=>False
 |_=>False
def opV (P:Program)(o:Oper)(fr:Nat)(ρ:Operand->TV)(h:Nat->AObj)(K:AR->Prop):Prop:=
 match o.op with
 |.indexAddr t x ix=>tyP P t λd=>Za P d (ρ x) (ρ ix) λv=>K ⟨v,[],[]⟩
 |.index t x ix=>tyP P t λd=>sf P d (ρ x) (ρ ix) λv=>K ⟨v,[],[]⟩
 |.slice t x lo hi mx=>tyP P t λd=>oU P d (ρ x) (lo.map ρ) (hi.map ρ) (mx.map ρ) λv=>K ⟨v,[],[]⟩
 |.load t x=>tyP P t λd=>loadV d h (ρ x) K
 |.store t x y=>tyP P t λd=>rv d h (ρ x) (ρ y) K
 |.call ⟨.builtin b,args,ts⟩=>JU P b ts.toList fr h (args.toList.map ρ) K
 |.binOp op t x y _=>binV P t op (ρ x) (ρ y) λv=>K ⟨v,[],[]⟩
 |.build t parts=>asksP h (parts.toList.map λp=>(p.1,ρ p.2)) (tyP P t λd=>
   match WN P d (givP h<|parts.toList.map λp=>(p.1,ρ p.2)).1 with
   |some v=>K ⟨v,(givP h<|parts.toList.map λp=>(p.1,ρ p.2)).2,oslP<|parts.toList.map λp=>(p.1,ρ p.2)⟩
   |none=>False)
 |.buildSlice t len parts=>asksP h (parts.toList.map λp=>(p.1,ρ p.2))
   (oK' ((yf P t λde=>wl de fr len (givP h<|parts.toList.map λp=>(p.1,ρ p.2)).1).map λr=>
    ⟨(yV r).val,(yV r).upd++(givP h<|parts.toList.map λp=>(p.1,ρ p.2)).2,oslP<|parts.toList.map λp=>(p.1,ρ p.2)⟩) K)
 |.lookup t x ix ok=>mapP P t λm=>dl m h (ρ x) (ρ ix) ok K
 |.mapEntry t x k=>mapP P t λm=>X5 m h (ρ x) (ρ k) K
 |.mapUpdate t x k v=>mapP P t λm=>Zc m h (ρ x) (ρ k) (ρ v) K
 |.makeSlice t l c=>elemP P t λde=>qN de fr (ρ l) (ρ c) K
 |.fieldAddr t x f=>match ρ x with
  |.c (.a (.fz y))=>tyP P t λd=>fldV d f λj=>ask y.isPt<|K ⟨.c<|.a<|.fz<|.pt<|y.prow.drop j,[],[]⟩
  |_=>oK' (aopF P o fr ρ h) K
 |.nilCheck x=>match ρ x with
  |.c (.a (.fz y))=>ask y.isPt<|K ⟨.c<|.a<|.fz y,[],[]⟩
  |_=>oK' (aopF P o fr ρ h) K
 |_=>oK' (aopF P o fr ρ h) K
def opV_inv {o fr ρ h K}(g:opV P o fr ρ h K):∃r,aopF P o fr ρ h=some r/\K r:=by
 unfold opV at g;split at g
 .rename_i t x E i;let ⟨d,hd,e⟩:=yS g;clear g;have g:=e;clear e;let ⟨v,u,j⟩:=W0 g;exact⟨_,by simp[aopF,i,aop,yl,hd,u,valR,S2],j⟩
 .rename_i t x E i;let ⟨d,hd,e⟩:=yS g;clear g;have g:=e;clear e;let ⟨v,u,j⟩:=iz g;exact⟨_,by simp[aopF,i,aop,yl,hd,u,valR,S2],j⟩
 .rename_i t x N T M i;let ⟨d,hd,e⟩:=yS g;clear g;have g:=e;clear e;let ⟨v,u,j⟩:=iH g;exact⟨_,by simp[aopF,i,aop,yl,hd,u,valR,S2],j⟩
 .rename_i t x i;let ⟨d,hd,e⟩:=yS g;clear g;have g:=e;clear e;let ⟨r,p,j⟩:=sR g;exact⟨r,by simp[aopF,i,aop,yl,hd,p],j⟩
 .rename_i t x y i;let ⟨d,hd,e⟩:=yS g;clear g;have g:=e;clear e;let ⟨r,p,j⟩:=iJ g;exact⟨r,by simp[aopF,i,yl,hd,p],j⟩
 .rename_i b args W i;let ⟨r,p,j⟩:=gB g;exact⟨r,by simp[aopF,i,p],j⟩
 .rename_i O t x y V i;let ⟨v,u,j⟩:=binV_inv g;exact⟨_,by simp[aopF,i,aop,u,valR,S2],j⟩
 .rename_i t parts i;let ⟨C,g⟩:=Xq g;let ⟨d,hd,e⟩:=yS g;clear g;have g:=e;clear e;split at g;next v u=>exact⟨_,by simp[aopF,i,yl,hd,C,u,S2],g⟩
  .exact g.elim
 .rename_i t J parts i;let ⟨C,g⟩:=Xq g;let ⟨r,p,j⟩:=xH g;exact⟨r,by simp[aopF,i,C,p],j⟩
 .rename_i t x E ok i;let ⟨m,w,e⟩:=Kd g;let ⟨r,p,j⟩:=dJ e;exact⟨r,by simp[aopF,i,xg,w,p],j⟩
 .rename_i t x k i;let ⟨m,w,e⟩:=Kd g;let ⟨r,p,j⟩:=Jz e;exact⟨r,by simp[aopF,i,aop,xg,w,p],j⟩
 .rename_i t x k v i;let ⟨m,w,e⟩:=Kd g;let ⟨r,p,j⟩:=W1 e;exact⟨r,by simp[aopF,i,xg,w,p],j⟩
 .rename_i t l c i;let ⟨S,e,I⟩:=tX g;let ⟨q,H,j⟩:=XX e;exact⟨_,by simp[aopF,i,I,H,S2],j⟩
 .rename_i t x f i;split at g
  .rename_i y z;let ⟨d,hd,e⟩:=yS g;unfold fldV at e;split at e
   .rename_i L j;split at e
    .rename_i U G;split at e
     .exact e.elim
     .rename_i n F;let ⟨D,A⟩:=qU e;refine⟨_,?_,A⟩;rw[Xb D] at z;simp[aopF,i,aop,yl,hd,kU,j,G,F,z,valR,Nat.succ_ne_zero,Sj,S2,FV.prow]
    .exact e.elim
   .exact e.elim
  .exact xH g
 .rename_i x i;split at g
  .rename_i y z;let ⟨D,j⟩:=qU g;refine⟨_,?_,j⟩;rw[Xb D] at z ⊢;simp[aopF,i,aop,jN,z,valR,S2,FV.prow]
  .exact xH g
 .exact xH g
end
def AV.ids:AV->List Nat
 |.ep o _ _ _=> [o]
 |.osl o _ _ _=> [o]
 |.mp o=> [o]
 |.bld _ o=> [o]
 |.osb o _ _=> [o]
 |_=> []
def WV.ids:WV->List Nat
 |.a x=>x.ids
 |.fn _ first cap=>(first.flatMap λp=>p.2.flatMap AV.ids)++(cap.flatMap λp=>p.2.flatMap AV.ids)
def TV.ids:TV->List Nat
 |.any=> []
 |.c x=>x.ids
 |.agg cs=>cs.flatMap WV.ids
 |.tup vs=>vs.flatMap λp=>p.2.flatMap WV.ids
def AObj.ids:AObj->List Nat
 |.arr _ es=>es.flatMap λe=>e.flatMap WV.ids
 |.mapo es=>es.flatMap λe=>e.2.2.flatMap WV.ids
 |_=> []
def AV.inn (l:List Nat):AV->Bool
 |.ep o _ _ _=>l.contains o
 |.osl o _ _ _=>l.contains o
 |.mp o=>l.contains o
 |.bld _ o=>l.contains o
 |.osb o _ _=>l.contains o
 |_=>true
def WV.inn (l:List Nat):WV->Bool
 |.a x=>x.inn l
 |.fn _ first cap=>(first.all λp=>p.2.all<|AV.inn l)&&(cap.all λp=>p.2.all<|AV.inn l)
def TV.inn (l:List Nat):TV->Bool
 |.any=>true
 |.c x=>x.inn l
 |.agg cs=>cs.all<|WV.inn l
 |.tup vs=>vs.all λp=>p.2.all<|WV.inn l
def AObj.inn (l:List Nat):AObj->Bool
 |.arr _ es=>es.all λe=>e.all<|WV.inn l
 |.mapo es=>es.all λe=>e.2.2.all<|WV.inn l
 |_=>true
def KK (h:Nat->AObj):Nat->List Nat->List Nat->List Nat
 |0,_,seen=>seen
 |_+1,[],seen=>seen
 |k+1,o::todo,seen=>match seen.contains o with
  |true=>KK h k todo seen
  |false=>KK h k ((h o).ids++todo)<|seen++[o]
def keep (m:Nat)(U:List Nat):List Nat:=(List.range m).filter λo=> !U.contains o
def Zy (m:Nat)(U:List Nat)(h:Nat->AObj)(todo:List Nat):List Nat:=(KK h 200 (keep m U++todo) []).filter λo=>Nat.ble m o||U.contains o
def inv (ids:List Nat)(o:Nat):=ids.idxOf o
def je:List Nat->Bool
 |[]=>true
 |x::l=> !l.contains x&&je l
def xy:∀ {l},je l=true->l.Nodup
 |[],_=>.nil
 |x::l,h=>by simp[je,EN,SK,G5,decide_eq_false_iff_not] at h;exact SV.2 ⟨h.1,xy h.2⟩
def Ka:AObj->Bool|.gone=>false|_=>true
def XD {x}(h:Ka x=true):isLive x:=by cases x<;>simp_all[Ka,isLive]
section
def Back (A:List Nat)(ν σ:Nat->Nat)(N:Nat):Prop:=∀o,A.contains o=true->ν o<N/\σ (ν o)=o
variable {A:List Nat} {ν σ:Nat->Nat} {N:Nat}
def AV.renV (H:Back A ν σ N){x:AV}(h:x.inn A=true):(x.ren ν).ren σ=x/\(x.ren ν).lt N=true:=by cases x<;>simp only[AV.inn] at h<;>simp[AV.ren,AV.lt,and_self,Sf]<;>have:=H _ h<;>simp[this]
def vS {α:Type}{f g}{p q:α->Bool}(b:∀x,p x=true->g (f x)=x/\q (f x)=true):∀ {l:List α},l.all p=true->(l.map f).map g=l/\(l.map f).all q=true
 |[],_=>⟨rfl,rfl⟩
 |x::l,h=>by simp only[G0,EN] at h;have d:=vS b h.2;grind
def bR {α β:Type}{f g}{p q:α->Bool}(b:∀x,p x=true->g (f x)=x/\q (f x)=true)(x)(h:x.2.all p=true):
  ((x.1,(x.2.map f).map g):β×List α)=x/\(x.2.map f).all q=true:=by
 have:=vS b h;grind
def WV.renV (H:Back A ν σ N){x:WV}(h:x.inn A=true):(x.ren ν).ren σ=x/\(x.ren ν).lt N=true:=by
 cases x with
 |a x=>simp[WV.ren,WV.lt,WV.inn] at h ⊢;have:=AV.renV H h;simp[this]
 |fn f first cap=>
  simp only[WV.inn,EN] at h
  have key:∀l:List<|Bool×List AV,(l.all λp=>p.2.all _)=true->((l.map λp=>(p.1,p.2.map<|AV.ren ν)).map λp=>(p.1,p.2.map<|AV.ren σ))=l/\((l.map λp=>(p.1,p.2.map<|AV.ren ν)).all λp=>p.2.all<|AV.lt N)=true:=
   λl d=>vS (p:=λp=>p.2.all<|AV.inn A) (λx e=>bR (λy b=>AV.renV H b) x e) d
  simp[WV.ren,WV.lt,(key _ h.1).1,(key _ h.2).1,(key _ h.1).2,(key _ h.2).2,GH,and_self]
def TV.renV (H:Back A ν σ N){x:TV}(h:x.inn A=true):(x.ren ν).ren σ=x/\(x.ren ν).lt N=true:=by
 cases x with
 |any=>exact⟨rfl,rfl⟩
 |c x=>simp[TV.ren,TV.lt,TV.inn] at h ⊢;have:=WV.renV H h;simp[this]
 |agg cs=>simp only[TV.ren,TV.lt,TV.inn] at h ⊢;have:=vS (λx b=>WV.renV H (x:=x) b) h;simp[this.1,this.2,and_self]
 |tup vs=>simp only[TV.ren,TV.lt,TV.inn] at h ⊢;have:=vS (f:=λp:Bool×List WV=>(p.1,p.2.map _)) (g:=λp=>(p.1,p.2.map _)) (q:=λp=>p.2.all _) (λx b=>bR (λy d=>WV.renV H d) x b) h;grind
def AObj.renV (H:Back A ν σ N){x:AObj}(h:x.inn A=true):(x.ren ν).ren σ=x/\(x.ren ν).lt N=true:=by
 cases x with
 |gone=>exact⟨rfl,rfl⟩
 |arz n i=>exact⟨rfl,rfl⟩
 |mapz es=>exact⟨rfl,rfl⟩
 |arr n es=>simp only[AObj.ren,AObj.lt,AObj.inn] at h ⊢;have:=vS (f:=λe=>e.map<|WV.ren ν) (g:=λe=>e.map<|WV.ren σ) (q:=λe=>e.all<|WV.lt N) (λx d=>vS (λy b=>WV.renV H b) d) h;grind
 |mapo es=>
  simp only[AObj.ren,AObj.lt,AObj.inn] at h ⊢
  have:=vS (f:=λe:(Bool×List FV)×(Bool×List WV)=>(e.1,(e.2.1,e.2.2.map _))) (g:=λe=>(e.1,(e.2.1,e.2.2.map<|WV.ren σ))) (q:=λe=>e.2.2.all _) (p:=λe=>e.2.2.all _)
   (λx d=>by have:=vS (f:=WV.ren ν) (g:=WV.ren σ) (q:=WV.lt N) (λy b=>WV.renV H b) d;exact⟨zd,this.2⟩) h
  grind
end
section
variable {ids:List Nat} {fr:Nat}
def inv_ok {o}(h:ids.contains o=true):inv ids o<ids.length/\sub ids fr (inv ids o)=o:=by simp[G5,Sf] at h;simp only[inv,sub,(List.idxOf_lt_length_iff.2 h),S9];grind
def TV.ren_inv {x:TV}(h:x.inn ids=true):(x.ren<|inv ids).ren (sub ids fr)=x/\(x.ren<|inv ids).lt ids.length=true:=TV.renV (λ_ h=>inv_ok h) h
def AObj.ren_inv {x:AObj}(h:x.inn ids=true):(x.ren<|inv ids).ren (sub ids fr)=x/\(x.ren<|inv ids).lt ids.length=true:=AObj.renV (λ_ h=>inv_ok h) h
end
def bB (h:Nat->AObj):WV->Lent
 |.a (.osl o _ _ _)=>match h o with|.arz n fs=> [(o,n,fs)]|_=> []
 |_=> []
def Xx (h:Nat->AObj):TV->Lent
 |.c x=>bB h x
 |.agg cs=>cs.flatMap<|bB h
 |_=> []
def asksA (h:Nat->AObj):List TV->Prop->Prop
 |[],K=>K
 |x::r,K=>asksT h x<|asksA h r K
def LentOK (h:Nat->AObj)(L:Lent):=∀p∈L,h p.1=.arz p.2.1 p.2.2
def LentOK.ok {h L}(d:LentOK h L):L.ok h:=λp b=>by rw[d p b];rfl
def pH {h x}:LentOK h (bB h x):=by
 intro p d;cases x with
 |fn f a b=>cases d
 |a x=>cases x with
  |osl o n g e=>simp[bB] at d;grind
  |_=>cases d
def lentT_ok {h x}:LentOK h (Xx h x):=by
 intro p b;cases x with
 |c x=>exact pH p b
 |agg cs=>let ⟨c,_,d⟩:=List.mem_flatMap.1 b;exact pH p d
 |_=>cases b
def jR {h}{l:List TV}:LentOK h (l.flatMap<|Xx h):=by intro p d;let ⟨c,_,b⟩:=List.mem_flatMap.1 d;exact lentT_ok p b
def XA {h}:∀ {L} {o n} {b},LentOK h L->h o=.arz n b->(o,n,b)∈L->zZ L o=some (n,b)
 |(j,m,gs)::L,o,n,b,d,f,hm=>by
  simp[zZ];split
  .rename_i g;have:=d _ ET;grind
  .rename_i g;rcases S4.1 hm with e|hm
   .grind
   .exact XA (λp i=>d p<|EP _ i) f hm
def qZ {α}:∀ {L:List (Nat×α)} {o},(∀p∈L,p.1≠o)->zZ L o=none
 |[],_,_=>rfl
 |(j,x)::L,o,h=>by simp[zZ];rw[EG<|h _ ET];exact qZ λp b=>h p<|EP _ b
def gJ {h L x}(g:LentOK h L)(d:∀p∈bB h x,p∈L)(i:JI h x):x.lend L=(givW h x).1:=by
 cases x with
 |fn f a b=>rfl
 |a x=>cases x with
  |osl o n v r=>
   simp only[WV.lend,AV.lend,givW,bB,JI] at d i ⊢;cases j:h o with
   |arz m w=>rw[j] at d i;rw[XA g j<|d _ ET];grind
   |_=>rw[qZ];intro p u e;have:=g p u;grind
  |_=>rfl
def WI {h L}(e:LentOK h L):∀ {cs},(∀p∈cs.flatMap (bB h),p∈L)->qr h cs->cs.map (WV.lend L)=(d5 h cs).1
 |[],_,_=>rfl
 |x::r,d,b=>by have b:=Yz b;simp[SA,d5,gJ e (λp f=>d p zd) b.1,WI e (cs:=r) (λp f=>d p zd) b.2]
def nM {h L x}(e:LentOK h L)(d:∀p∈Xx h x,p∈L)(b:Ea h x):x.lend L=(givT h x).1:=by
 cases x with
 |c x=>simp[TV.lend,givT,gJ e d<|th b]
 |agg cs=>simp[TV.lend,givT,WI e d b]
 |_=>rfl
def Xu {h L}(e:LentOK h L):∀ {l} {K},(∀p∈l.flatMap (Xx h),p∈L)->asksA h l K->l.map (TV.lend L)=l.map (λx=>(givT h x).1)/\K
 |[],_,_,b=>⟨rfl,b⟩
 |x::r,K,d,b=>by let ⟨g,f⟩:=gG b;let ⟨j,i⟩:=Xu e (l:=r) (λp m=>d p zd) f;exact⟨by simp[SA,j,nM e (λp m=>d p zd) g],i⟩
def resV (P:Program):List TypeId->(List (Bool×List FV)->Prop)->Prop
 |[],K=>K []
 |t::ts,K=>tyP P t λd=>match d.zero with
  |some z=>exC z λl=>resV P ts λr=>K<|(d.agg,l)::r
  |none=>False
def Ji:List (Bool×List FV)->TV
 |[(true,l)]=>.agg<|fzs l
 |[(false,[x])]=>.c<|cell x
 |l=>.tup<|l.map λp=>(p.1,fzs p.2)
def scalZ (P:Program)(ts:List TypeId):=ts.all λt=>match tyOf P t with
 |some d=>match d.zero with
  |some z=>z.all λf=>match f with|.int _ _=>true|.bool _=>true|.str _=>true|_=>false
  |none=>false
 |none=>false
def J1 {P}:∀ {f} {K},resV P f K->∃l,K l/\(scalZ P f=true->∀p∈l,p.2.all FV.scalar=true)
 |[],K,h=>⟨[],h,λ_ _ hp=>by cases hp⟩
 |t::f,K,h=>by
  let ⟨d,hd,h⟩:=yS h;split at h
  .rename_i z g;let ⟨l,h,_,i⟩:=cN h;let ⟨r,h,e⟩:=J1 h;refine⟨_,h,λb=>?_⟩;simp[scalZ,G0,EN,hd,g] at b;intro p hp;rcases S4.1 hp with rfl|hp
   .grind
   .exact e (by simpa[scalZ] using b.2) p hp
  .grind
def tG (σ l):(fzs l).map (WV.ren σ)=fzs l:=by simp only[fzs,GT];rfl
def fu (σ l):(Ji l).ren σ=Ji l:=by
 unfold Ji;split
 .simp[TV.ren,tG]
 .rfl
 .simp only[TV.ren,GT];congr 1;exact SU λp _=>by simp[tG]
def Wi {l}(h:l.all FV.scalar=true):(fzs l).all WV.scalar=true:=by simp only[fzs,List.all_map];exact h
def KX {l}(h:∀p∈l,p.2.all FV.scalar=true):(Ji l).scalar=true:=by
 unfold Ji;split
 .exact Wi<|h _ ET
 .have:=h _ ET;simpa[TV.scalar,WV.scalar,cell,AV.scalar] using this
 .simp only[TV.scalar,List.all_map,Sc];exact λp b=>Wi<|h p b
structure Sh where
 X:Type
 val:X->TV
 obs:X->List AObj->List AObj
 fz:Bool
 mu:Bool
 kp:List Nat
def i8:List Nat->List AObj->List AObj->List AObj
 |[],_,out=>out
 |k::kp,H,out=>(i8 kp H out).set k<|H.getD k .gone
def Sh.out (S:Sh)(x:S.X)(H:List AObj):=i8 S.kp H<|S.obs x H
def kf (H):∀(d) (b),(i8 d H b).length=b.length
 |[],_=>rfl
 |k::d,b=>by rw[i8,Gn,kf H d]
def KR (H):∀(d) (b) (k),k∈d->k<b.length->(i8 d H b)[k]?=some (H.getD k .gone)
 |[],_,_,h,_=>by cases h
 |j::d,b,k,h,f=>by
  rw[i8,Gm];by_cases e:j=k
  .subst e;rw[EL rfl,EL<|by rw[kf];exact f]
  .rw[EG e];rcases S4.1 h with q|q
   .omega
   .exact KR H d b k q f
def ownB:List Sh->Bool
 |[]=>false
 |S::l=> !S.fz||ownB l
def mutB:List Sh->Bool
 |[]=>false
 |S::l=>S.mu||mutB l
def rG (P:Program)(f:FuncId):List TypeId:=match P.funcs[f]? with|some fn=>fn.resultTypes.toList|none=> []
section
variable (P:Program) (sh:FuncId->List Sh)
def altV (A:Sh->Prop):List Sh->Prop
 |[]=>False
 |[S]=>A S
 |S::T::l=>A S\/altV A (T::l)
def pm {A}:∀ {l},altV A l->∃S,A S
 |[],h=>h.elim
 |[S],h=>⟨S,h⟩
 |S::T::l,h=>h.elim (λh=>⟨S,h⟩) λh=>pm (l:=T::l) h
def iQ (f:FuncId)(args:List TV)(h:Nat->AObj)(fr:Nat)(K:TV->AHeap->List Nat->Prop):Prop:=
 match KK h 200 (args.flatMap TV.ids) [] with
 |ids=>match je ids&&ids.all (λo=>Ka (h o)&&(h o).inn ids)&&args.all (TV.inn ids)&&ids.all (λo=>Nat.blt o fr) with
  |true=>match sh f with
   |_::_=>altV (λS=> ∃x:S.X,AC P f (args.map<|TV.ren<|inv ids) (ids.map λo=>(h o).ren<|inv ids) (S.val x) (S.out x<|ids.map λo=>(h o).ren<|inv ids)/\
     match Nat.ble (S.out x<|ids.map λo=>(h o).ren<|inv ids).length (ids.length+32)&&S.kp.all (λk=>Nat.blt k ids.length&&Nat.blt k (S.out x<|ids.map λo=>(h o).ren<|inv ids).length) with
     |true=>K ((S.val x).ren<|sub ids fr) ((yr (sub ids fr) ids (S.out x<|ids.map λo=>(h o).ren<|inv ids)++xI (sub ids fr) fr ((S.out x<|ids.map λo=>(h o).ren<|inv ids).drop ids.length)).filter λp=> !(S.kp.map λk=>ids.getD k 0).contains p.1) ids
     |false=>False) (sh f)
   |[]=>resV P (rG P f) λrs=>AC P f (args.map<|TV.ren<|inv ids) (ids.map λo=>(h o).ren<|inv ids) (Ji rs) (ids.map λo=>(h o).ren<|inv ids)/\
     K (Ji rs) (yr (sub ids fr) ids<|ids.map λo=>(h o).ren<|inv ids) ids
  |false=>False
def callL (f:FuncId)(args:List TV)(h:Nat->AObj)(fr:Nat)(K:TV->AHeap->List Nat->Prop):Prop:=
 match args.flatMap (Xx h) with
 |[]=>iQ P sh f args h fr K
 |p::L=>asksA h args (match scalZ P (rG P f)&&(KK h 200 ((args.map λx=>(givT h x).1).flatMap TV.ids) []).isEmpty&&(sh f).isEmpty with
  |true=>resV P (rG P f) λrs=>AC P f (args.map λx=>(givT h x).1) [] (Ji rs) []/\((args.map λx=>(givT h x).1).all (TV.lt 0)=true/\K (Ji rs) [] ((p::L).map Prod.fst))
  |false=>iQ P sh f (args.map λx=>(givT h x).1) (over ((p::L).map λp=>(p.1,AObj.gone)) h) fr
    (λr u rd=>K r (u++(p::L).map λp=>(p.1,AObj.gone))<|rd++(p::L).map Prod.fst))
def callV (f:FuncId)(args:List TV)(h:Nat->AObj)(fr:Nat)(K:TV->AHeap->List Nat->Prop):Prop:=
 match mutB (sh f) with
 |true=>iQ P sh f args h fr K
 |false=>callL P sh f args h fr K
end
section
variable {P:Program} {sh:FuncId->List Sh} {f:FuncId} {args:List TV} {h:Nat->AObj} {fr:Nat} {K K':TV->AHeap->List Nat->Prop}
def ub:∀ {l},All2 TV.Le l l
 |[]=>trivial
 |x::_=>⟨.refl x,ub⟩
def Yo {b fr}{args:List TV}(h:args.all (TV.inn b)=true):(args.map<|TV.ren<|inv b).map (TV.ren<|sub b fr)=args/\(args.map<|TV.ren<|inv b).all (TV.lt b.length)=true:=
 vS (λ_ d=>TV.ren_inv d) h
def yC (l:List TV):l.map (TV.lend [])=l:=by
 have:TV.lend []=id:=by
  funext x
  have d:∀y:WV,y.lend []=y:=λy=>by
   cases y with
   |a y=>cases y<;>rfl
   |fn f a b=>rfl
  cases x with
  |any=>rfl
  |c x=>simp[TV.lend,d,id]
  |agg cs=>simp[TV.lend,id,show WV.lend []=id from funext d,List.map_id]
  |tup vs=>rfl
 simp_all
def kz {b fr}:∀ {l:List Nat},(l.all λo=>Ka (h o)&&(h o).inn b)=true->((l.map λo=>(h o).ren<|inv b).map (AObj.ren<|sub b fr)=l.map h/\(l.map λo=>(h o).ren<|inv b).all (AObj.lt b.length)=true)/\∀i∈l,isLive<|h i
 |[],_=>⟨⟨rfl,rfl⟩,λ_ hi=>by cases hi⟩
 |o::l,d=>by
  simp only[G0,EN] at d;have f:=AObj.ren_inv (fr:=fr) d.1.2;have e:=kz (fr:=fr) (l:=l) d.2;refine⟨⟨zd,zd⟩,λi hi=>?_⟩;rcases S4.1 hi with rfl|hi
  .exact XD d.1.1
  .grind
def XI (e:iQ P sh f args h fr K):CallK P f args h fr K:=by
 unfold iQ at e;generalize KK h 200 _ []=b at e;simp only at e;split at e
 .rename_i j;simp only[EN] at j;let ⟨⟨⟨v,C⟩,z⟩,p⟩:=j;have p:=λi w=>Sp<|Sc.1 p i w;have m:=Yo (fr:=fr) z;have u:=kz (fr:=fr) C;split at e
  .let ⟨S,x,g,e⟩:=pm e;split at e
   .rename_i d;rw[EN] at d;refine⟨b,[],_,_,_,_,g,⟨xy v,p⟩,Sp d.1,u.1,?_,m.2,u.2,.inl rfl,S.kp.map λk=>b.getD k 0,λi w=>?_,zd⟩
    .rw[yC,m.1];exact ub
    .obtain⟨k,r,rfl⟩:=SG.1 w;have j:=Sc.1 d.2 k r;rw[EN] at j;have D:=Sp j.1;have A:k<(S.obs x<|b.map λo=>(h o).ren<|inv b).length:=by have:=Sp j.2;rwa [Sh.out,kf] at this
     have y:b[k]?=some (b.getD k 0):=zd;rw[Sh.out,jU (xy v) y<|KR _ _ _ k r A];simp_all
   .grind
  .let ⟨E,⟨g,r⟩,_⟩:=J1 e;refine⟨b,[],_,_,_,_,g,⟨xy v,p⟩,zb,u.1,?_,m.2,u.2,.inl rfl,[],(λ_ h=>nomatch h),?_⟩
   .rw[yC,m.1];exact ub
   .rw[fu,GJ zb,kept_nil];simpa[xI] using r
 .grind
def CallK.imp (p:CallK P f args h fr K)(j:∀r u rd,K r u rd->K' r u rd):CallK P f args h fr K':=by let ⟨b,L,args',Hs,r,Hs',y,w,o,g,d,v,i,x,F,m,e⟩:=p;exact⟨b,L,args',Hs,r,Hs',y,w,o,g,d,v,i,x,F,m,j _ _ _ e⟩
def rx (i:callL P sh f args h fr K):CallE P f args h fr K:=by
 unfold callL at i;split at i
 .refine⟨[],(λp C=>by cases C),?_⟩;rw[yC];have e:over (([]:Lent).map λp=>(p.1,AObj.gone)) h=h:=by funext o;rfl
  exact(XI i).imp λr u rd F=>zd
 .rename_i p L H;have j:LentOK h (p::L):=H▸jR;let ⟨d,i⟩:=Xu j (λq J=>zd) i;split at i
  .rename_i D;simp[EN] at D;let ⟨M,⟨A,y,F⟩,I⟩:=J1 i;refine⟨[],(λp C=>by cases C),?_⟩;rw[yC];have e:over (([]:Lent).map λp=>(p.1,AObj.gone)) h=h:=by funext o;rfl
   refine⟨[],p::L,_,[],_,[],A,⟨.nil,λ_ m=>nomatch m⟩,zb,⟨rfl,rfl⟩,?_,y,(λ_ m=>nomatch m),.inr ⟨j.ok,(λ_ _ m=>nomatch m),KX<|I D.1.1,rfl⟩,[],(λ_ h=>nomatch h),?_⟩
   .rw[d];have:∀ {l:List TV},l.all (TV.lt 0)=true->l.map (TV.ren<|sub [] fr)=l:=by
     intro l d;have key:∀x:TV,x.lt 0=true->x.ren (sub [] fr)=x:=by
      have G:∀x:AV,x.lt 0=true->x.ren (sub [] fr)=x:=λx g=>by cases x<;>simp_all[AV.lt,AV.ren]
      have z:∀l:List AV,l.all (AV.lt 0)=true->l.map (AV.ren<|sub [] fr)=l:=λl d=>by
       induction l with
       |nil=>rfl
       |cons x l ih=>simp only[G0,EN] at d;simp[SA,G x d.1,ih d.2]
      have v:∀l:List<|Bool×List AV,(l.all λp=>p.2.all<|AV.lt 0)=true->(l.map λp=>(p.1,p.2.map<|AV.ren<|sub [] fr))=l:=λl d=>by
       induction l with
       |nil=>rfl
       |cons x l ih=>simp only[G0,EN] at d;simp[SA,z x.2 d.1,ih d.2]
      have E:∀x:WV,x.lt 0=true->x.ren (sub [] fr)=x:=λx g=>by
       cases x with
       |a x=>simp[WV.ren,G x g]
       |fn f a b=>simp only[WV.lt,EN] at g;simp only[WV.ren,v a g.1,v b g.2]
      have w:∀l:List WV,l.all (WV.lt 0)=true->l.map (WV.ren<|sub [] fr)=l:=λl d=>by
       induction l with
       |nil=>rfl
       |cons x l ih=>simp only[G0,EN] at d;simp[SA,E x d.1,ih d.2]
      intro x g;cases x with
      |any=>rfl
      |c x=>simp[TV.ren,E x g]
      |agg cs=>simp[TV.ren,w cs g]
      |tup vs=>
       simp only[TV.lt] at g;simp[TV.ren];congr 1
       induction vs with
       |nil=>rfl
       |cons x l ih=>simp only[G0,EN] at g;simp[SA,w x.2 g.1,ih g.2]
     induction l with
     |nil=>rfl
     |cons x l ih=>simp only[G0,EN] at d;simp only[SA,key x d.1,ih d.2]
    rw[this y];exact ub
   .rw[fu];simpa[yr,xI] using F
  .refine⟨p::L,j.ok,?_⟩;rw[d];exact XI i
def callC_E (b:iQ P sh f args h fr K):CallE P f args h fr K:=by
 refine⟨[],(λp d=>by cases d),?_⟩;rw[yC];have e:over (([]:Lent).map λp=>(p.1,AObj.gone)) h=h:=by funext o;rfl
 exact(XI b).imp λr u rd g=>zd
def sE (b:callV P sh f args h fr K):CallE P f args h fr K:=by
 unfold callV at b;split at b
 .exact callC_E b
 .exact rx b
end
section
variable (P:Program) (sh:FuncId->List Sh)
def softV (P:Program)(o:Oper)(fr:Nat)(ρ:Operand->TV)(h:Nat->AObj)(r:AR)(K:AR->Prop):Prop:=
 match qQ P o fr ρ h r with|⟨v,u,d⟩=>K ⟨v,u,d⟩
def rX (fr:Nat)(o:Oper)(e:Env)(h:AHeap)(tr:wj)(next:Env->AHeap->wj->Prop):Prop:=
 match goCall o.op with
 |some c=>
  match calleeOf (ev e) c with
  |some (f,args)=>callV P sh f args (hook h) fr λr h' ids=>next (putE o.dst r e) (h'++h) ((ids,h'.map Prod.fst)::tr)
  |none=>False
 |none=>opV P o fr (ev e) (hook h) λr=>softV P o fr (ev e) (hook h) r λr=>next (putE o.dst r.val e) (r.upd++h) ((r.rd,r.upd.map Prod.fst)::tr)
def lexV (ops:Array Oper)(nx:Nat):List Oper->Nat->Env->AHeap->wj->(Env->AHeap->wj->Prop)->Prop
 |[],_,e,h,tr,K=>K e h tr
 |o::rest,i,e,h,tr,K=>match o.guard with
  |none=>rX P sh (nx+32*i) o e h tr λe h tr=>lexV ops nx rest (i+1) e h tr K
  |some (j,b)=>match (ops[j]?).bind (·.dst) with
   |none=>False
   |some d=>match look e d with
    |.c (.a (.fz (.bool x)))=>
     match b with
     |true=>br x (rX P sh (nx+32*i) o ((d,bV true)::e) h tr λe h tr=>lexV ops nx rest (i+1) e h tr K)
       (lexV ops nx rest (i+1) (putE o.dst (.tup [])<|(d,bV false)::e) h (([],[])::tr) K)
     |false=>br x (lexV ops nx rest (i+1) (putE o.dst (.tup [])<|(d,bV true)::e) h (([],[])::tr) K)
       (rX P sh (nx+32*i) o ((d,bV false)::e) h tr λe h tr=>lexV ops nx rest (i+1) e h tr K)
    |.tup []=>lexV ops nx rest (i+1) (putE o.dst (.tup []) e) h (([],[])::tr) K
    |_=>False
end
section
variable {P:Program} {sh:FuncId->List Sh}
def CallE.imp {f args h fr K K'}(b:CallE P f args h fr K)(e:∀r u rd,K r u rd->K' r u rd):CallE P f args h fr K':=by let ⟨E,d,b⟩:=b;exact⟨E,d,b.imp λr u rd h=>e _ _ _ h⟩
def ev_look {e b}(h:look e=look b):ev e=ev b:=by funext x;cases x<;>simp[ev,h]
def kT {e b}(h:look e=look b)(d v):look (putE d v e)=look (putE d v b):=by
 cases d with
 |none=>exact h
 |some i=>funext k;simp[putE,look,h]
def YZ {e d v}(h:look e d=v):look ((d,v)::e)=look e:=by funext k;simp[look];grind
def Yy {fr o e j h w next b} (A:look e=look j) (f:rX P sh fr o e h w next)
  (p:∀d v x g,next (putE d v e) x g->b (putE d v j) x g):lW P fr o j h w b:=by
 unfold rX at f;unfold lW;rw[<-ev_look A];cases y:goCall o.op with
 |some c=>
  rw[y] at f;simp at f ⊢;cases i:calleeOf _ c with
  |some C=>rw[i] at f;simp at f ⊢;exact(sE f).imp λr u rd m=>p _ _ _ _ m
  |none=>rw[i] at f;exact f.elim
 |none=>rw[y] at f;let ⟨r,z,m⟩:=opV_inv f;simp[aopS,z,S2];exact p _ _ _ _ m
def vd {m nx}:∀ {l} {i} {e u} {h} {D} {K},look e=look u->lexV P sh m nx l i e h D K->
  lex P m nx l i u h D λH z p=> ∃F,look F=look H/\K F z p
 |[],_,_,_,_,_,_,r,g=>⟨_,r,g⟩
 |o::rest,i,e,u,h,D,K,r,g=>by
  unfold lexV at g;unfold lex gj;split at g;next A=>simp[want,A,S9];exact Yy r g λd v z p w=>vd (kT r d v) w
  .rename_i j b A;split at g
   .grind
   .rename_i d hd;split at g
    .rename_i x C;have E:want m o (look u)=some (x==b):=by simp[want,A,hd,S2,<-r,C]
     simp[E];have f:∀y,x=y->look ((d,bV y)::e)=look u:=λy G=>by rw[<-r];exact YZ (by rw[C,G];rfl)
     cases b with
     |true=>
      simp at g;cases x with
      |true=>simp[br,beq_self_eq_true,S9] at g ⊢;exact Yy (f _ rfl) g λd v z p w=>vd (kT (f _ rfl) d v) w
      |false=>simp[br] at g;exact vd (kT (f _ rfl) _ _) g
     |false=>
      simp at g;cases x with
      |false=>simp[br,beq_self_eq_true,S9] at g ⊢;exact Yy (f _ rfl) g λd v z p w=>vd (kT (f _ rfl) d v) w
      |true=>simp[br] at g;exact vd (kT (f _ rfl) _ _) g
    .rename_i C;have E:want m o (look u)=some false:=by simp[want,A,hd,S2,<-r,C]
     simp[E,S5,Sj];exact vd (kT r _ _) g
    .grind
end
def Code.lwp (P:Program)(c:Code)(Q:Exit->Act->World->Prop)(a:Act)(w:World):=
 ∀(b) k cs,
  ∃e a' w',Q e a' w'/\Arrives P (lone (b.at a<|.code c:: .inLoop c::k) cs w) b k cs e a' w'
def lwp_wp {P c Q a w}(h:Code.lwp P c Q a w):(Code.loop c).wp P Q a w:=λb k cs=>by let ⟨e,g,w',f,d⟩:=h b k cs;exact⟨e,g,w',f,.of_steps (.one step_loop) d⟩
def iU {P c Q a w}(h:c.wp P (Exit.then (Code.lwp P c Q) Q) a w):Code.lwp P c Q a w:=λb k cs=>by
 let ⟨e,f,g,m,d⟩:=h b (.inLoop c::k) cs;cases e with
 |normal=>
  let ⟨o,p,r,j,i⟩:=m b k cs;exact⟨o,p,r,j,.of_steps (Steps.trans d<|.one step_inLoop) i⟩
 |exit id=>exact⟨_,f,g,m,.pass (x:=.inLoop c) rfl (λ_ _=>.inl zb) d⟩
 |goto l=>exact⟨_,f,g,m,.pass (x:=.inLoop c) rfl (λ_ _=>.inl zb) d⟩
 |ret=>exact⟨_,f,g,m,.pass (x:=.inLoop c) rfl (λ_ _=>.inl zb) d⟩
 |panic u=>exact⟨_,f,g,m,.pass (x:=.inLoop c) rfl (λ_ _=>.inl zb) d⟩
 |outgrown=>exact⟨_,f,g,m,.pass (x:=.inLoop c) rfl (λ_ _=>.inl zb) d⟩
section
variable {P:Program} {n m:Nat} {c:Code} {Q:AExit->St->Prop} {s:St}
def Alwp (P:Program)(n m:Nat)(c:Code)(Q:AExit->St->Prop)(s:St):Prop:=
 ∀(w0:World) (foot Y:Nat->Prop) (pin:Nat->Option (Option Nat)) (β:Nat->Option Nat) (a:Act) (w:World),(∀o b,pin o=some b->o<m)->a.tmps.size=n->RelF P w0 foot Y pin (look s.env) (hook s.heap) β a w->(∀k,Occ pin β k->k<s.nx)->
  Code.lwp P c (Lift P w0 foot Y pin n Q) a w
def Alwp.loop (h:Alwp P n m c Q s):Awp P n m (.loop c) Q s:=λw0 foot Y b β a w f g d e=>lwp_wp<|h w0 foot Y b β a w f g d e
def Alwp.unroll (h:Awp P n m c (XM (Alwp P n m c Q) Q) s):Alwp P n m c Q s:=λw0 foot Y b β a w g r j o=>by
 refine iU<|wp_mono (h w0 foot Y b β a w g r j o) λe y w' d=>?_;cases e with
 |normal=>let ⟨z,f,v,p,u,x⟩:=d;exact v w0 foot Y b f y w' g p u x
 |exit i=>exact d
 |ret=>exact d
 |_=>exact d.elim
def Alwp.weak {e}(g:Sle m s e)(h:Alwp P n m c Q e):Alwp P n m c Q s:=λw0 foot Y b _ a w d i f _=>
 let ⟨β',h1,h2⟩:=JV g d f
 h w0 foot Y b β' a w d i h1 h2
def Awp.look {e d h nx}(o:look e=look d)(f:Awp P n m c Q ⟨e,h,nx⟩):Awp P n m c Q ⟨d,h,nx⟩:=λw0 foot Y b β a w g j p i=>
 f w0 foot Y b β a w g j zd i
def eqQ (Q:AExit->St->Prop)(e:AExit)(s:St):Prop:=∃e2,Go.AM.look e2=Go.AM.look s.env/\Q e ⟨e2,s.heap,s.nx⟩
def Awp.uneq (h:Awp P n m c (eqQ Q) s):Awp P n m c Q s:=λw0 foot Y b β a w p y v j=>by
 refine wp_mono (h w0 foot Y b β a w p y v j) λe g w' d=>?_;have key:∀x,At P w0 foot Y b n (eqQ Q x) g w'->At P w0 foot Y b n (Q x) g w':=by rintro x ⟨z,f,⟨C,A,u⟩,o,D,r⟩;exact⟨_,f,u,o,zd,r⟩
 cases e with
 |normal=>exact key _ d
 |exit i=>exact key _ d
 |ret=>exact key _ d
 |_=>exact d.elim
end
def pts:Code->List Nat
 |.region i _ _=> [2*i]
 |.seq a b=>pts a++pts b
 |.cond _ a b=>pts a++pts b
 |.block i c=>(2*i+1)::pts c
 |.loop c=>pts c
 |.scope c=>pts c
 |_=> []
def isLoop:Code->Bool|.loop _=>true|.rangeFunc .. =>true|_=>false
def headA (P:Program)(n m:Nat):Code->(AExit->St->Prop)->St->Prop
 |.loop c,Q,s=>Alwp P n m c Q s
 |.rangeFunc g ps a b,Q,s=>Awp P n m (.rangeFunc g ps a b) Q s
 |_,_,_=>False
def headA.weak {P n m c Q s e}(d:Sle m s e)(h:headA P n m c Q e):headA P n m c Q s:=by
 cases c with
 |loop c=>exact Alwp.weak d h
 |rangeFunc g f a b=>exact Awp.weak d h
 |_=>exact h.elim
def headA.awp {P n m c Q s}(h:headA P n m c Q s):Awp P n m c Q s:=by
 cases c with
 |loop c=>exact Alwp.loop h
 |rangeFunc g d a b=>exact h
 |_=>exact h.elim
def rz (P:Program)(n m:Nat):Code->Nat->(AExit->St->Prop)->St->Prop
 |.region i ops d,p,Q,s=>p=2*i/\Awp P n m (.region i ops d) Q s
 |.seq a b,p,Q,s=>if (pts a).contains p then rz P n m a p (XM (Awp P n m b Q) Q) s else rz P n m b p Q s
 |.cond _ a b,p,Q,s=>if (pts a).contains p then rz P n m a p Q s else rz P n m b p Q s
 |.block i c,p,Q,s=>if p=2*i+1 then headA P n m c (yh i Q) s else rz P n m c p (yh i Q) s
 |.loop c,p,Q,s=>rz P n m c p (XM (Alwp P n m c Q) Q) s
 |.scope c,p,Q,s=>rz P n m c p Q s
 |_,_,_,_=>False
def kB {P n m}:∀ {c} {p} {Q} {s g},Sle m s g->rz P n m c p Q g->rz P n m c p Q s
 |.region i j d,p,Q,s,g,e,h=>⟨h.1,h.2.weak e⟩
 |.seq a b,p,Q,s,g,e,h=>by
  unfold rz at h ⊢;split;next f=>rw[EL f] at h;exact kB e h
  next f=>rw[EG f] at h;exact kB e h
 |.cond x a b,p,Q,s,g,e,h=>by
  unfold rz at h ⊢;split;next f=>rw[EL f] at h;exact kB e h
  next f=>rw[EG f] at h;exact kB e h
 |.block i c,p,Q,s,g,e,h=>by
  unfold rz at h ⊢;split;next f=>rw[EL f] at h;exact headA.weak e h
  next f=>rw[EG f] at h;exact kB e h
 |.loop c,p,Q,s,g,e,h=>by unfold rz at h ⊢;exact kB e h
 |.skip,_,_,_,_,_,h=>h.elim
 |.rangeFunc ..,_,_,_,_,_,h=>h.elim
 |.exit _,_,_,_,_,_,h=>h.elim
 |.scope c,p,Q,s,g,e,h=>by unfold rz at h ⊢;exact kB e h
 |.label _,_,_,_,_,_,h=>h.elim
 |.goto _,_,_,_,_,_,h=>h.elim
 |.ret,_,_,_,_,_,h=>h.elim
 |.refuse _,_,_,_,_,_,h=>h.elim
def RPt (P:Program)(f:FuncId)(m:Nat)(r:TV)(Hs':List AObj)(p:Nat)(s:St):Prop:=
 ∃(fn:Func) (c:Code),P.funcs[f]?=some fn/\fn.body=some c/\rz P fn.ntmps m c p (Ret P fn.results.toList m r Hs') s
def invU (m:Nat)(rest:List Nat)(o:Nat):Nat:=match rest.contains o with|true=>m+rest.idxOf o|false=>o
def outU (m:Nat)(rest:List Nat)(o:Nat):=sub (List.range m++rest) 0 o
def okU (m:Nat)(U rest:List Nat):=je rest&&rest.all λo=>Nat.ble m o||U.contains o
def qJ (m:Nat)(U rest:List Nat)(h:Nat->AObj):=((List.range m).map λo=>match U.contains o with|true=>AObj.gone|false=>(h o).ren<|invU m rest)++rest.map λo=>(h o).ren<|invU m rest
def lvU (lv:List<|Nat×List Nat):List Nat:=match zZ lv 1000001 with|some l=>l|none=> []
def kP {m U rest h}:(qJ m U rest h).length=m+rest.length:=by simp[qJ]
def Je {m rest o}(h:o<m):outU m rest o=o:=by simp[outU,sub,EJ,List.length_range,(za:o<m+rest.length),S9,getD];grind
def mZ {m rest j o}(h:rest[j]?=some o):outU m rest (m+j)=o:=by have b:=(EW.1 h).1;simp[outU,sub,EJ,List.length_range,(za:m+j<m+rest.length),S9,getD];grind
def backU {m U rest}:Back (keep m U++rest) (invU m rest) (outU m rest) (m+rest.length):=by
 intro o f;unfold invU;split
 .rename_i b;simp[G5,Sf] at b;have g:=List.idxOf_lt_length_iff.2 b;refine⟨za,mZ ?_⟩;grind
 .rename_i b;have e:o∈keep m U:=by grind
  have d:o<m:=by have:=(F7.1 e).1;grind
  exact⟨za,Je d⟩
def lw {m U o}:o∈keep m U↔o<m/\U.contains o=false:=by simp[keep]
def kL {m U rest h j x}(b:(qJ m U rest h)[j]?=some x)(f:isLive x):
  j<m+rest.length/\x=(h<|outU m rest j).ren (invU m rest)/\(j∈keep m U/\outU m rest j=j\/m<=j/\rest[j-m]?=some (outU m rest j)):=by
 have d:=(EW.1 b).1;rw[kP] at d;refine⟨d,?_⟩;by_cases e:j<m
 .unfold qJ at b;rw[Gy zd,EX,Gc e] at b;simp only[S2,EO] at b;rw[Je e];split at b
  .subst b;exact f.elim
  next i=>exact⟨b.symm,.inl ⟨lw.2 ⟨e,za⟩,rfl⟩⟩
 .unfold qJ at b;rw[Gx zd,Sn,List.length_range,EX] at b;obtain⟨o,g,rfl⟩:=EM.1 b;have:=mZ (m:=m) g;grind
def f5 {m U rest h} (b:okU m U rest=true) {j f x w} (E:(qJ m U rest h)[j]?=some x) (A:isLive x) (u:(qJ m U rest h)[f]?=some w) (v:isLive w)
  (e:outU m rest j=outU m rest f):j=f:=by
 simp only[okU,EN,Sc,Bool.or_eq_true] at b
 have p:∀o,o∈keep m U->o∈rest->False:=λo y D=>by
  have y:=lw.1 y;rcases b.2 o D with h3|h3
  .have:=Sp h3;omega
  .grind
 let ⟨_,_,g⟩:=kL E A;let ⟨_,_,C⟩:=kL u v;rcases g with⟨z,r⟩|⟨z,r⟩<;>rcases C with⟨i,d⟩|⟨i,d⟩
 .omega
 .grind
 .grind
 .rw[e] at r;have:=jZ (xy b.1) r d;omega
def gV {m U rest h j x}(b:(qJ m U rest h)[j]?=some x)(d:isLive x):outU m rest j∈keep m U++rest:=by
 rcases(kL b d).2.2 with⟨f,e⟩|⟨_,e⟩
 .grind
 .grind
def qv (m:Nat)(lv:List<|Nat×List Nat)(G:Nat->St->Prop)(p:Nat)(s:St):Prop:=
 match zZ lv p with
 |none=>False
 |some live=>match Zy m (lvU lv) (hook s.heap) (live.flatMap λt=>(look s.env t).ids) with
  |rest=>match okU m (lvU lv) rest&&(keep m (lvU lv)++rest).all (λo=>(hook s.heap o).inn<|keep m (lvU lv)++rest)&&live.all (λt=>(look s.env t).inn<|keep m (lvU lv)++rest) with
   |true=>G p ⟨live.map λt=>(t,(look s.env t).ren<|invU m rest),yF 0<|qJ m (lvU lv) rest<|hook s.heap,m+rest.length⟩
   |false=>False
def xS:∀ {l} {k} {p},p∈yF k l->∃j,p.1=k+j/\l[j]?=some p.2
 |[],_,_,hp=>by cases hp
 |o::l,k,p,hp=>by
  rcases S4.1 hp with rfl|hp
  .simp
  .let ⟨j,d,b⟩:=xS hp;exact⟨j+1,za,zd⟩
def WS (x:TV):x.lend []=x:=by have:=yC [x];grind
def iF (x:AObj):x.lend []=x:=by
 have b:=λy=>by have:=WS (.c y);simp[TV.lend,TV.c.injEq] at this;exact this
 cases x with
 |arr n es=>simp[AObj.lend,show WV.lend []=id from funext b,List.map_id,List.map_id']
 |_=>rfl
def qg {m lv G p s}(d:qv m lv G p s):∃w,Sle m s w/\G p w:=by
 unfold qv at d;split at d
 .grind
 .rename_i live E;generalize Zy _ _ _ _=rest at d;generalize lvU lv=U at d;simp only at d;split at d
  .rename_i x;simp only[EN] at x;let ⟨⟨D,F⟩,A⟩:=x;refine⟨_,⟨outU m rest,[],(λp z=>by cases z),Nat.le_add_right _ _,λo y=>Je y,λq b=>?_,λq b h=>?_,λq b K r h v e=>?_⟩,d⟩
   .obtain⟨t,I,rfl⟩:=SG.1 b;have:=TV.renV (backU (m:=m) (U:=U) (rest:=rest))<|Sc.1 A t I;rw[WS];exact⟨by rw[this.1];exact .refl _,this.2⟩
   .let ⟨j,g,i⟩:=xS b;let ⟨C,H,_⟩:=kL i h;have:=AObj.renV (backU (m:=m) (U:=U) (rest:=rest))<|Sc.1 F _<|gV i h;rw[Sa] at g;rw[g,H];exact⟨C,by rw[iF,this.1],this.2,(λq b=>by cases b)⟩
   .let ⟨j,g,i⟩:=xS b;let ⟨J,f,u⟩:=xS r;rw[Sa] at g f;rw[g,f] at e ⊢;exact f5 D i h u v e
  .grind
def retV (P:Program)(own:Bool)(rl:List ResultVar)(m:Nat)(U:List Nat)(R:TV->List AObj->Prop)(s:St):Prop:=
 match ft P s rl with
 |none=>False
 |some rs=>match own with
  |false=>asksA (hook s.heap) rs (match Zy m U (hook s.heap) ((rs.map λx=>(givT (hook s.heap) x).1).flatMap TV.ids) with
   |rest=>match okU m U rest&&(keep m U++rest).all (λo=>(hook s.heap o).inn<|keep m U++rest)&&(rs.map λx=>(givT (hook s.heap) x).1).all (TV.inn<|keep m U++rest)&&(rs.flatMap<|Xx<|hook s.heap).all (λp=> !(keep m U++rest).contains p.1) with
    |true=>match dm ((rs.map λx=>(givT (hook s.heap) x).1).map<|TV.ren<|invU m rest) with
     |some r0=>R r0 (qJ m U rest<|hook s.heap)
     |none=>False
    |false=>False)
  |true=>match Zy m U (hook s.heap) (rs.flatMap TV.ids) with
   |rest=>match okU m U rest&&(keep m U++rest).all (λo=>(hook s.heap o).inn<|keep m U++rest)&&rs.all (TV.inn<|keep m U++rest) with
    |true=>match dm (rs.map<|TV.ren<|invU m rest) with
     |some r0=>R r0<|qJ m U rest<|hook s.heap
     |none=>False
    |false=>False
def lend_inn {d E}(hd:∀p∈E,p.1 ∉ d){x:AObj}(h:x.inn d=true):x.lend E=x:=by
 have i:∀y:WV,y.inn d=true->y.lend E=y:=λy g=>by
  cases y with
  |fn f a b=>rfl
  |a y=>cases y with
   |osl o n j r=>simp[WV.inn,AV.inn,G5,Sf] at g;simp[WV.lend,AV.lend];rw[qZ];grind
   |_=>rfl
 cases x with
 |arr n es=>
  simp[AObj.inn,Sc] at h;simp[AObj.lend];congr 1
  conv=>rhs;rw[<-List.map_id es]
  refine SU λe m=>?_
  conv=>rhs;rw[id,<-List.map_id e]
  exact SU λy g=>i y<|h e m y g
 |_=>rfl
def fU {α β R}{g:α->β}:∀ {l},(∀x∈l,R x<|g x)->All2 R l (l.map g)
 |[],_=>trivial
 |x::_,h=>⟨h x ET,fU λy b=>h y<|EP _ b⟩
def JH {P I m U r r0 s y g E rest} (w:ft P s I=some y) (h:y.map (TV.lend E)=g) (M:E.ok<|hook s.heap) (N:okU m U rest=true)
  (O:((keep m U++rest).all λo=>(hook s.heap o).inn<|keep m U++rest)=true) (W:g.all (TV.inn<|keep m U++rest)=true)
  (f:∀p∈E,p.1 ∉ keep m U++rest) (H:dm (g.map<|TV.ren<|invU m rest)=some r0) (F:TV.Le r0 r):tD P I m r (qJ m U rest<|hook s.heap) s:=by
 refine⟨y,_,outU m rest,E,r0,w,H,F,M,?_,λo J=>Je J,λq z h=>?_,λq z V C h G e=>?_⟩
 .rw[<-h,GT];refine fU λx X=>?_;have A:(x.lend E).inn (keep m U++rest)=true:=by grind
  have:=TV.renV (backU (m:=m) (U:=U) (rest:=rest)) A;simp[Function.comp,kP];exact⟨by rw[this.1];exact .refl _,this.2⟩
 .let ⟨j,u,v⟩:=xS z;let ⟨L,S,_⟩:=kL v h;have b:=gV v h;have d:=Sc.1 O _ b;have:=AObj.renV (backU (m:=m) (U:=U) (rest:=rest)) d;rw[Sa] at u;rw[u,S,kP];exact⟨L,by rw[lend_inn f d,this.1],this.2,λp K e=>f p K<|e▸b⟩
 .let ⟨j,u,v⟩:=xS z;let ⟨T,i,D⟩:=xS C;rw[Sa] at u i;rw[u,i] at e ⊢;exact f5 N v h D G e
def lH {P w x m U r Hs' s}(h:retV P w x m U (λr0 Hs0=>TV.Le r0 r/\Hs0=Hs') s):tD P x m r Hs' s:=by
 unfold retV at h;split at h
 .grind
 .rename_i j f;split at h
  .let ⟨y,h⟩:=Xu (L:=j.flatMap _) jR (λp e=>e) h;generalize Zy _ _ _ _=rest at h;simp only at h;split at h
   .rename_i g;simp only[EN] at g;let ⟨⟨⟨u,v⟩,o⟩,A⟩:=g;have i:∀p∈j.flatMap (Xx<|hook s.heap),p.1 ∉ keep m U++rest:=λp e z=>by grind
    split at h;next r0 d=>obtain⟨b,rfl⟩:=h;exact JH f y jR.ok u v o i d b
    .grind
   .grind
  .generalize Zy _ _ _ _=rest at h;simp only at h;split at h
   .rename_i g;simp only[EN] at g;let ⟨⟨u,v⟩,o⟩:=g;split at h;next r0 d=>obtain⟨b,rfl⟩:=h;exact JH (E:=[]) f (yC j) (λp e=>by cases e) u v o (λp e=>by cases e) d b
    .grind
   .grind
section
variable (P:Program) (sh:FuncId->List Sh) (n m:Nat) (lv:List<|Nat×List Nat) (G:Nat->St->Prop)
def regV (ops:Array Oper)(d:Bool)(K:AExit->St->Prop)(s:St):Prop:=
 match dstB ops n with
 |true=>lexV P sh ops s.nx ops.toList 0 s.env s.heap [] λe h tr=>match !d||Jj ops tr with
  |true=>K .normal ⟨e,h,s.nx+32*ops.size⟩
  |false=>False
 |false=>False
def XP (K1:St->Prop)(K:AExit->St->Prop):AExit->St->Prop
 |.normal,s=>K1 s
 |e,s=>K e s
def condV (x:Operand)(s:St)(A B:St->Prop):Prop:=
 match ev s.env x with
 |.c (.a (.fz (.bool b)))=>match x with
  |.tmp t=>br b (A ⟨(t,bV true)::s.env,s.heap,s.nx⟩)<|B ⟨(t,bV false)::s.env,s.heap,s.nx⟩
  |_=>br b (A s)<|B s
 |_=>False
def runV:Code->(AExit->St->Prop)->St->Prop
 |.skip,K,s=>K .normal s
 |.ret,K,s=>K .ret s
 |.exit i,K,s=>K (.exit i) s
 |.seq a b,K,s=>runV a (XP (runV b K) K) s
 |.cond x a b,K,s=>condV x s (runV a K)<|runV b K
 |.block i c,K,s=>match isLoop c with
  |true=>qv m lv G (2*i+1) s
  |false=>runV c (yh i K) s
 |.region i ops d,K,s=>match (zZ lv<|2*i).isSome with
  |true=>qv m lv G (2*i) s
  |false=>regV P sh n ops d K s
 |.scope c,K,s=>runV c K s
 |.label _,K,s=>K .normal s
 |_,_,_=>False
def jJ:Code->Nat->(AExit->St->Prop)->St->Prop
 |.region i ops d,p,K,s=>match p==2*i with
  |true=>regV P sh n ops d K s
  |false=>False
 |.seq a b,p,K,s=>match (pts a).contains p with
  |true=>jJ a p (XP (runV P sh n m lv G b K) K) s
  |false=>jJ b p K s
 |.cond _ a b,p,K,s=>match (pts a).contains p with
  |true=>jJ a p K s
  |false=>jJ b p K s
 |.block i c,p,K,s=>match p==2*i+1 with
  |true=>match c with
   |.loop b=>runV P sh n m lv G b (XP (qv m lv G<|2*i+1)<|yh i K) s
   |_=>False
  |false=>match c with
   |.loop b=>jJ b p (XP (qv m lv G<|2*i+1)<|yh i K) s
   |c=>jJ c p (yh i K) s
 |.scope c,p,K,s=>jJ c p K s
 |_,_,_,_=>False
end
section
variable {P:Program} {sh:FuncId->List Sh} {n m:Nat} {lv:List (Nat×List Nat)} {G:Nat->St->Prop}
def j6 {P f nx K1 K2}(j:∀e h d,K1 e h d->K2 e h d):∀ {l} {i} {e} {h} {d},lex P f nx l i e h d K1->lex P f nx l i e h d K2:=by
 intro l
 induction l with
 |nil=>exact λh=>j _ _ _ h
 |cons o rest ih=>
  intro i e h d b;unfold lex gj at b ⊢;split
  .grind
  .rename_i w p;rw[p] at b;simp at b;split
   .rename_i m;rw[EL m] at b;unfold lW at b ⊢;cases v:goCall o.op with
    |some c=>
     rw[v] at b;simp at b ⊢;cases g:calleeOf _ c with
     |some x=>rw[g] at b;simp at b ⊢;exact b.imp λr u rd j=>ih j
     |none=>rw[g] at b;exact b.elim
    |none=>grind
   .grind
def l8 (u:P.follows .mixedOrders=true){i b d K Q s}(r:∀e s,K e s->Q e s)(h:regV P sh n b d K s):Awp P n m (.region i b d) Q s:=by
 unfold regV at h;split at h
 .rename_i hd;refine Awp.uneq<|Awp.region u hd ?_;have g:=vd rfl h;refine j6 ?_ g;rintro w g p ⟨j,o,f⟩;split at f
  .rename_i x;refine⟨λv=>?_,j,o,r _ _ f⟩;grind
  .grind
 .grind
def GOK (P:Program)(n m:Nat)(G:Nat->St->Prop)(c:Code)(Q:AExit->St->Prop):Prop:=∀p s,p∈pts c->G p s->rz P n m c p Q s
def wq {K1 Q1 K Q}(d:∀s,K1 s->Q1 s)(h:∀e s,K e s->Q e s):∀e s,XP K1 K e s->XM Q1 Q e s:=by
 intro e s b;cases e with
 |normal=>exact d s b
 |exit i=>exact h _ s b
 |ret=>exact h _ s b
def xw {i K Q}(h:∀e s,K e s->Q e s):∀e s,yh i K e s->yh i Q e s:=by
 intro e s b;cases e with
 |normal=>exact h _ s b
 |exit j=>simp[yh] at b ⊢;grind
 |ret=>exact h _ s b
def GOK.left {a b Q}(h:GOK P n m G (.seq a b) Q):GOK P n m G a (XM (Awp P n m b Q) Q):=λp s d e=>by have:=h p s (Sb.2<|.inl d) e;unfold rz at this;grind
def GOK.right {a b Q}(f:(pts<|.seq a b).Nodup)(h:GOK P n m G (.seq a b) Q):GOK P n m G b Q:=λp s d e=>by have:=h p s (Sb.2<|.inr d) e;unfold rz at this;rwa [EG<|by have:=(Gb.1 f).2.2;simp[G5,Sf];exact λg=>this p g p d rfl] at this
def GOK.condL {x a b Q}(h:GOK P n m G (.cond x a b) Q):GOK P n m G a Q:=λp s d e=>by have:=h p s (Sb.2<|.inl d) e;unfold rz at this;grind
def GOK.condR {x a b Q}(f:(pts<|.cond x a b).Nodup)(h:GOK P n m G (.cond x a b) Q):GOK P n m G b Q:=λp s d e=>by have:=h p s (Sb.2<|.inr d) e;unfold rz at this;rwa [EG<|by have:=(Gb.1 f).2.2;simp[G5,Sf];exact λg=>this p g p d rfl] at this
def GOK.block {i c Q}(f:(pts<|.block i c).Nodup)(h:GOK P n m G (.block i c) Q):GOK P n m G c (yh i Q):=λp s b d=>by have:=h p s (EP _ b) d;unfold rz at this;rwa [EG λe=>by subst e;exact(SV.1 f).1 b] at this
def GOK.loop {c Q}(h:GOK P n m G (.loop c) Q):GOK P n m G c (XM (Alwp P n m c Q) Q):=λp s b d=>by have:=h p s b d;assumption
def GOK.scope {c Q}(h:GOK P n m G (.scope c) Q):GOK P n m G c Q:=λp s b d=>by have:=h p s b d;assumption
def GOK.head {i c Q}(h:GOK P n m G (.block i c) Q){s}(b:qv m lv G (2*i+1) s):headA P n m c (yh i Q) s:=by let ⟨e,d,b⟩:=qg b;have:=h _ _ ET b;unfold rz at this;rw[EL rfl] at this;exact headA.weak d this
def xP (r:P.follows .mixedOrders=true):∀ {c} {K Q} {s},(pts c).Nodup->GOK P n m G c Q->(∀e s,K e s->Q e s)->runV P sh n m lv G c K s->Awp P n m c Q s
 |.skip,K,Q,s,_,_,f,h=>Awp.skip<|f _ _ h
 |.ret,K,Q,s,_,_,f,h=>Awp.ret<|f _ _ h
 |.exit i,K,Q,s,_,_,f,h=>Awp.exit<|f _ _ h
 |.seq a b,K,Q,s,o,j,f,h=>by have g:=Gb.1 o;exact Awp.seq<|xP r g.1 j.left (wq (λs v=>xP r g.2.1 (j.right o) f v) f) h
 |.cond x a b,K,Q,s,o,j,f,h=>by
  have g:=Gb.1 o;unfold runV condV at h;split at h
  .rename_i t u;split at h
   .rename_i C;have p:∀y,t=y->look ((C,bV y)::s.env)=look s.env:=λy A=>YZ (by simp[ev] at u;rw[u,A];rfl);cases t with
    |true=>exact Awp.cond u (λ_=>Awp.look (p _ rfl)<|xP r g.1 j.condL f h) (λe=>by cases e)
    |false=>exact Awp.cond u (λe=>by cases e) λ_=>Awp.look (p _ rfl)<|xP r g.2.1 (j.condR o) f h
   .cases t with
    |true=>exact Awp.cond u (λ_=>xP r g.1 j.condL f h) (λe=>by cases e)
    |false=>exact Awp.cond u (λe=>by cases e) λ_=>xP r g.2.1 (j.condR o) f h
  .grind
 |.block i c,K,Q,s,o,j,f,h=>by
  unfold runV at h;split at h;next E=>exact Awp.block (j.head h).awp
  .exact Awp.block<|xP r (SV.1 o).2 (j.block o) (xw f) h
 |.region i w d,K,Q,s,o,j,f,h=>by
  unfold runV at h;split at h
  .let ⟨D,v,z⟩:=qg h;have:=j _ _ ET z;exact this.2.weak v
  .exact l8 r f h
 |.loop _,_,_,_,_,_,_,h=>h.elim
 |.rangeFunc ..,_,_,_,_,_,_,h=>h.elim
 |.scope c,K,Q,s,o,j,f,h=>by unfold runV at h;exact Awp.scope<|xP r o j.scope f h
 |.label _,K,Q,s,_,_,f,h=>Awp.label<|f _ _ h
 |.goto _,_,_,_,_,_,_,h=>h.elim
 |.refuse _,_,_,_,_,_,_,h=>h.elim
def wV (r:P.follows .mixedOrders=true):∀ {c} {p} {K Q} {s},(pts c).Nodup->GOK P n m G c Q->(∀e s,K e s->Q e s)->jJ P sh n m lv G c p K s->rz P n m c p Q s
 |.region i w d,p,K,Q,s,_,_,j,h=>by
  unfold jJ at h;split at h;next u=>exact⟨zd,l8 r j h⟩
  .grind
 |.seq a b,p,K,Q,s,f,g,j,h=>by
  have o:=Gb.1 f;unfold jJ at h;unfold rz;split at h;next u=>rw[EL u];exact wV r o.1 g.left (wq (λs v=>xP r o.2.1 (g.right f) j v) j) h
  next u=>rw[EG zd];exact wV r o.2.1 (g.right f) j h
 |.cond x a b,p,K,Q,s,f,g,j,h=>by
  have o:=Gb.1 f;unfold jJ at h;unfold rz;split at h;next u=>rw[EL u];exact wV r o.1 g.condL j h
  next u=>rw[EG zd];exact wV r o.2.1 (g.condR f) j h
 |.block i c,p,K,Q,s,f,g,j,h=>by
  unfold jJ at h;unfold rz;split at h
  .rename_i u;rw[EL zd];split at h;next b=>exact(Alwp.unroll<|xP r ((SV.1 f).2) (GOK.loop<|g.block f) (wq (λs v=>g.head v)<|xw j) h)
   .grind
  .rename_i u;rw[EG zd];split at h;next b=>unfold rz;exact wV r ((SV.1 f).2) (GOK.loop<|g.block f) (wq (λs v=>g.head v)<|xw j) h
   .exact wV r (SV.1 f).2 (g.block f) (xw j) h
 |.skip,_,_,_,_,_,_,_,h=>h.elim
 |.ret,_,_,_,_,_,_,_,h=>h.elim
 |.exit _,_,_,_,_,_,_,_,h=>h.elim
 |.loop _,_,_,_,_,_,_,_,h=>h.elim
 |.rangeFunc ..,_,_,_,_,_,_,_,h=>h.elim
 |.scope c,p,K,Q,s,f,g,j,h=>by unfold jJ at h;unfold rz;exact wV r f g.scope j h
 |.label _,_,_,_,_,_,_,_,h=>h.elim
 |.goto _,_,_,_,_,_,_,_,h=>h.elim
 |.refuse _,_,_,_,_,_,_,_,h=>h.elim
end
def endV (P:Program)(own:Bool)(rl:List ResultVar)(m:Nat)(U:List Nat)(R:TV->List AObj->Prop):AExit->St->Prop
 |.exit _,_=>False
 |_,s=>retV P own rl m U R s
def vcE (P:Program)(sh:FuncId->List Sh)(lv:List<|Nat×List Nat)(f:FuncId)(args:List TV)(Hs:List AObj)(R:TV->List AObj->Prop)(G:Nat->St->Prop):Prop:=
 match P.funcs[f]? with
 |some fn=>match fn.body with
  |some c=>match xp P f&&Nat.ble args.length fn.ntmps&&je (pts c) with
   |true=>runV P sh fn.ntmps Hs.length lv G c (endV P (ownB<|sh f) fn.results.toList Hs.length (lvU lv) R) ⟨jV 0 args,yF 0 Hs,Hs.length⟩
   |false=>False
  |none=>False
 |none=>False
def vcP (P:Program)(sh:FuncId->List Sh)(lv:List<|Nat×List Nat)(f:FuncId)(m:Nat)(R:TV->List AObj->Prop)(G:Nat->St->Prop)(p:Nat)(s:St):Prop:=
 match P.funcs[f]? with
 |some fn=>match fn.body with
  |some c=>match je (pts c) with
   |true=>jJ P sh fn.ntmps m lv G c p (endV P (ownB<|sh f) fn.results.toList m (lvU lv) R) s
   |false=>False
  |none=>False
 |none=>False
section
variable {P:Program} {sh:FuncId->List Sh} {lv:List (Nat×List Nat)} {f:FuncId}
def Jt {b d m U r Hs'}:∀e s,endV P b d m U (λr0 Hs0=>TV.Le r0 r/\Hs0=Hs') e s->Ret P d m r Hs' e s:=by
 intro e s h;cases e with
 |normal=>exact lH h
 |exit i=>exact h
 |ret=>exact lH h
def bm {fn c m r Hs'}(h:P.funcs[f]?=some fn)(e:fn.body=some c):GOK P fn.ntmps m (RPt P f m r Hs') c (Ret P fn.results.toList m r Hs'):=by rintro p s _ ⟨b,j,i,g,d⟩;grind
def AC.vc (m:P.follows .mixedOrders=true) (sh:FuncId->List Sh) (lv:List<|Nat×List Nat) {args:List TV} {Hs Hs':List AObj} {r:TV} (e:Hs.length<=Hs'.length) (d:∀x∈Hs,isLive x) (b:∀x∈Hs'.drop Hs.length,isLive x)
  (h:vcE P sh lv f args Hs (λr0 Hs0=>TV.Le r0 r/\Hs0=Hs')<|RPt P f Hs.length r Hs'):AC P f args Hs r Hs':=by
 unfold vcE at h;split at h
 .rename_i fn j;split at h
  .rename_i c i;split at h;next g=>simp only[EN] at g;exact AC.intro j i rfl rfl g.1.1 (Sp g.1.2) e d b (xP m (xy g.2) (bm j i) Jt h)
   .grind
  .grind
 .grind
def RPt.vc (e:P.follows .mixedOrders=true) (sh:FuncId->List Sh) (lv:List<|Nat×List Nat) {m:Nat} {Hs':List AObj} {r:TV} {p:Nat} {s:St}
  (h:vcP P sh lv f m (λr0 Hs0=>TV.Le r0 r/\Hs0=Hs') (RPt P f m r Hs') p s):RPt P f m r Hs' p s:=by
 unfold vcP at h;split at h
 .rename_i fn d;split at h
  .rename_i c b;split at h;next g=>exact⟨fn,c,d,b,wV e (xy g) (bm d b) Jt h⟩
   .grind
  .grind
 .grind
end
def AC.le {P f args args' Hs Hs' r r'}(h:AC P f args' Hs r Hs')(j:All2 TV.Le args args')(y:TV.Le r r'):AC P f args Hs r' Hs':=by refine⟨h.1,h.2.1,λw vals β Y u p b i o=>?_⟩;exact(h.2.2 w vals β Y u p b i<|K3 j o).mono λe w' ⟨v,d,A,z,m,x,g⟩=>⟨v,d,A,z,m,TRep.le y x,g⟩
def AC.args {P f args args' Hs Hs' r}(h:AC P f args' Hs r Hs')(b:All2 TV.Le args args'):AC P f args Hs r Hs':=h.le b<|.refl r
inductive OLe:AObj->AObj->Prop
 |refl (a:AObj):OLe a a
 |rows (n:Nat) (fs gs:List (List FV)):gs.length<=fs.length->(∀(i:Nat) (e e':List FV),fs[i]?=some e->gs[i]?=some e'->e.length=e'.length)->(∀(i j:Nat) (e e':List FV) (f f':FV),fs[i]?=some e->gs[i]?=some e'->e[j]?=some f->e'[j]?=some f'->FV.Le f f')->OLe (.arz n fs) (.arz n gs)
def OLe.live {a b}(h:OLe a b):isLive a↔isLive b:=by cases h<;>exact Iff.rfl
def OLe.bare {a b}(h:OLe a b)(d:bareO a):bareO b:=by
 cases h with
 |refl=>exact d
 |rows n f gs g _ _=>
  let ⟨m,e⟩:=d;simp[flat,AObj.arr.injEq,List.map_eq_nil_iff] at e;simp_all
def OLe.rep {w X β a b k}(h:OLe a b)(v:ORep w X β a k):ORep w X β b k:=by
 cases h with
 |refl=>exact v
 |rows n A gs D O J=>
  let ⟨I,t,C,M,G,H⟩:=v;have f:∀ {i:Nat} {r:List FV},gs[i]?=some r->∃e,A[i]?=some e/\e.length=r.length:=by grind
  have z:gs.length*n<=A.length*n:=Ss _ D;refine⟨I,t,C,zd,λr d=>?_,λi j r N d m=>?_⟩
  .obtain⟨g,p,rfl⟩:=SG.1 d;let ⟨i,L⟩:=G4 p;let ⟨e,x,E⟩:=f L;have:=G _<|SG.2 ⟨e,Sl x,rfl⟩;simp[fzs,Sn] at this ⊢;omega
  .rw[EX] at d;obtain⟨g,p,rfl⟩:=EM.1 d;rw[fzs,EX] at m;obtain⟨f',y,rfl⟩:=EM.1 m;let ⟨e,x,E⟩:=f p;have F:j<e.length:=zd;have o:=EU F;let ⟨u,K,v⟩:=H i j (fzs e) (cell e[j]) zd (by rw[fzs,EX,o];rfl);exact⟨u,K,WRep.le (.a _ _<|.fz _ _<|J i j e g _ _ x p o y) v⟩
def AC.obj {P:Program}{f:FuncId}{args:List TV}{Hs Hs' Hs'':List AObj}{r:TV}(h:AC P f args Hs r Hs')(g:All2 OLe Hs' Hs''):AC P f args Hs r Hs'':=by
 have z:∀ {a b:List AObj},All2 OLe a b->a.length=b.length:=by
  intro a
  induction a with
  |nil=>intro b h;cases b; · rfl
        .exact h.elim
  |cons x a ih=>intro b h;cases b; · exact h.elim
                .simp[ih h.2]
 have d:∀ {a b:List AObj} (i:Nat),All2 OLe a b->OLe (a.getD i .gone) (b.getD i .gone):=by
  intro a
  induction a with
  |nil=>intro b i h;cases b; · exact .refl _
        .grind
  |cons x a ih=>
   intro b i h;cases b with
   |nil=>exact h.elim
   |cons y b=>cases i with
    |zero=>exact h.1
    |succ i=>exact ih (b:=b) i h.2
 have E:=z g;refine⟨h.1,by rw[<-E];exact h.2.1,λw vals β Y D G C I K=>?_⟩;refine(h.2.2 w vals β Y D G C I K).mono λe w' ⟨v,j,L,J,u,N,O,F,M⟩=>?_;have m:Own (λo=>Hs''.getD o .gone) j=Own (λo=>Hs'.getD o .gone) j:=by funext b;exact propext ⟨λ⟨o,a,c⟩=>⟨o,(d o g).live.2 a,c⟩,λ⟨o,a,c⟩=>⟨o,(d o g).live.1 a,c⟩⟩
 refine⟨v,j,L,J,⟨λo b a c=>?_,λo a=>?_,λo o' b a H=>u.inj o o' b ((d o g).live.2 a)<|(d o' g).live.2 H,u.lt⟩,by simp_all,zd,F,M⟩
 .rw[m];exact(d o g).rep<|u.rep o b ((d o g).live.2 a) c
 .exact(u.has o<|(d o g).live.2 a).imp id λ⟨p,q⟩=>⟨(d o g).bare p,q⟩
abbrev ci (n:Int):TV:=.c<|.a<|.fz<|.int .i64 n
abbrev cb (b:Bool):TV:=.c<|.a<|.fz<|.bool b
abbrev cs (s:List UInt8):TV:=.c<|.a<|.fz<|.str s
abbrev c8 (n:Int):TV:=.c<|.a<|.fz<|.int .u8 n
def LeR:List FV->List FV->Prop
 |[],[]=>True
 |x::xs,y::ys=>FV.Le x y/\LeR xs ys
 |_,_=>False
def LeR.refl:∀l,LeR l l
 |[]=>trivial
 |x::l=>⟨.refl x,LeR.refl l⟩
def LeR.length:∀ {a b},LeR a b->a.length=b.length
 |[],[],_=>rfl
 |_::_,_::_,h=>by simp[h.2.length]
 |[],_::_,h=>h.elim
 |_::_,[],h=>h.elim
def LeR.get:∀ {a b:List FV},LeR a b->∀(i:Nat) (x y:FV),a[i]?=some x->b[i]?=some y->FV.Le x y
 |[],[],_,i,x,y,hx,_=>zd
 |a::a9,b::bs,h,i,x,y,hx,hy=>by
  cases i with
  |zero=>simp at hx hy;subst hx;subst hy;exact h.1
  |succ i=>exact h.2.get i x y zd zd
def WA {a b}(h:LeR a b):TV.Le (.agg<|fzs a) (.agg<|fzs b):=by refine .agg _ _ (by simp[fzs,h.length]) λi x y f g=>?_;rw[fzs,EX] at f g;obtain⟨m,d,rfl⟩:=EM.1 f;obtain⟨j,e,rfl⟩:=EM.1 g;exact .a _ _<|.fz _ _<|h.get i m j d e
def le_c {x y}(h:FV.Le x y):TV.Le (.c<|.a<|.fz x) (.c<|.a<|.fz y):=.c _ _<|.a _ _<|.fz _ _ h
inductive Tm where
 |mk (k:Int) (s:List UInt8) (n:Int) (l:List Tm)
 deriving Inhabited
namespace Tm
def k:Tm->Int|.mk k _ _ _=>k
def s:Tm->List UInt8|.mk _ s _ _=>s
def n:Tm->Int|.mk _ _ n _=>n
def l:Tm->List Tm|.mk _ _ _ l=>l
end Tm
mutual
def FT:Tm->List FV
 |.mk k s n l=> [.int .i64 k,.str s,.int .i64 n,.sl false 4<|FTs l]
def FTs:List Tm->List (List FV)
 |[]=> []
 |t::l=>FT t::FTs l
end
mutual
def Tm.sz:Tm->Nat
 |.mk _ _ _ l=>1+Tm.szs l
def Tm.szs:List Tm->Nat
 |[]=>0
 |t::l=>Tm.sz t+Tm.szs l
end
def yZ:∀l,FTs l=l.map FT
 |[]=>rfl
 |t::l=>by simp[FTs,SA,yZ l]
def zn (l):(FTs l).length=l.length:=by rw[yZ,Sn]
def yj (a b):FTs (a++b)=FTs a++FTs b:=by simp[yZ,SN]
def xO (t):(FT t).length=4:=by cases t;rfl
def Zo (t):FT t=[.int .i64 t.k,.str t.s,.int .i64 t.n,.sl false 4<|FTs t.l]:=by cases t;rfl
def Tm.sz_pos (t:Tm):1<=t.sz:=by cases t;simp only[Tm.sz];omega
def Tm.sz_eq (t:Tm):t.sz=1+Tm.szs t.l:=by cases t;rfl
mutual
def Tm.bk:Tm->Nat
 |.mk _ s _ l=>1+s.length+Tm.bks l
def Tm.bks:List Tm->Nat
 |[]=>0
 |t::l=>Tm.bk t+Tm.bks l
end
mutual
def Tm.sz_bk:∀t:Tm,t.sz<=t.bk
 |.mk _ s _ l=>by have:=Tm.szs_bks l;simp only[Tm.sz,Tm.bk];omega
def Tm.szs_bks:∀l:List Tm,Tm.szs l<=Tm.bks l
 |[]=>EI _
 |t::l=>by have:=Tm.sz_bk t;have:=Tm.szs_bks l;simp only[Tm.szs,Tm.bks];omega
end
def Tm.bks_mem:∀ {l} {t},t∈l->t.bk<=Tm.bks l
 |x::l,t,h=>by
  rcases S4.1 h with rfl|h
  .simp only[Tm.bks];omega
  .have:=Tm.bks_mem h;simp[Tm.bks];omega
def Tm.szs_mem:∀ {l} {t},t∈l->t.sz<=Tm.szs l
 |x::l,t,h=>by
  rcases S4.1 h with rfl|h
  .simp only[Tm.szs];omega
  .have:=Tm.szs_mem h;simp[Tm.szs];omega
def Tm.szs_append:∀(a b),Tm.szs (a++b)=Tm.szs a+Tm.szs b
 |[],b=>by simp[Tm.szs]
 |t::a,b=>by simp[SE,Tm.szs,Tm.szs_append a b];omega
def Tm.szs_length:∀l,l.length<=Tm.szs l
 |[]=>EI _
 |t::l=>by have:=Tm.szs_length l;have:=t.sz_pos;simp[EH,Tm.szs];omega
def Tm.ind {P:Tm->Prop}(h:∀t,(∀u∈t.l,P u)->P t):∀t,P t:=by
 have key:∀n t,t.sz<=n->P t:=by
  intro n
  induction n with
  |zero=>intro t b;have:=t.sz_pos;omega
  |succ n ih=>intro t b;refine h t λu d=>ih u ?_;have:=Tm.szs_mem d;rw[Tm.sz_eq] at b;omega
 exact λt=>key _ t<|EI _
def Xk (l:List Tm):Int.toNat l.length=l.length:=za
def JM (a t b):getD (FTs<|a++t::b) a.length []=FT t:=by rw[yZ];grind
def w64 {x:Int}(b: -9223372036854775808<=x)(d:x<=9223372036854775807):wrap .i64 x=x:=Go.IntWalk.i64_in _ ⟨b,d⟩
def B:Nat:=549755813888
def leFT {k n s x l}(h:FV.Le x<|.sl false 4<|FTs l):LeR [.int .i64 k,.str s,.int .i64 n,x] (FT<|.mk k s n l):=⟨.refl _,.refl _,.refl _,h,trivial⟩
def leSl {b l}:FV.Le (.sl b 4<|FTs l) (.sl false 4<|FTs l):=.nn _ _ _
def yY:FV.Le .N (.sl false 4<|FTs []):=.N 4
def nA {b rows l}(p:rows.length=l.length)(h:∀(i:Nat) r t,rows[i]?=some r->l[i]?=some t->LeR r (FT t)):FV.Le (.sl b 4 rows) (.sl false 4<|FTs l):=by
 refine .trans _ _ _ (.rows b 4 rows _ (by rw[zn,p]) (λi e u g d=>?_) λi j e u f f' g d v m=>?_) leSl
 .rw[yZ,EX] at d;obtain⟨t,o,rfl⟩:=EM.1 d;exact(h i e t g o).length
 .rw[yZ,EX] at d;obtain⟨t,o,rfl⟩:=EM.1 d;exact(h i e t g o).get j f f' v m
def midI (a t b):getD (FTs<|a++t::b) (Int.toNat a.length) []=FT t:=by rw[(za:Int.toNat a.length=a.length),JM]
def midI' (a d:List Tm)(h:a.length=d.length)(t b):getD (FTs<|d++t::b) (Int.toNat a.length) []=FT t:=by rw[h,midI]
def nx {α:Type}(a)(t:α):(((a++[t]).length))=(a.length:Int)+1:=zb
def ap {α:Type}(a t)(b:List α):a++[t]++b=a++t::b:=zb
def lenI (l):(((FTs l).length))=(l.length:Int):=by rw[zn]
def ltI {α:Type}(a t)(b:List α):a.length<(((a++t::b).length):Int):=zd
def ltI' (a t b):a.length<(((FTs<|a++t::b).length):Int):=by rw[zn];exact ltI a t b
def geI' (a):¬a.length<(((FTs<|a++[]).length):Int):=by rw[zn];simp
abbrev aT (t:Tm):TV:=.agg [.a<|.fz<|.int .i64 t.k,.a<|.fz<|.str t.s,.a<|.fz<|.int .i64 t.n,.a<|.fz<|.sl false 4<|FTs t.l]
abbrev cT (t:Tm):List WV:=[.a<|.fz<|.int .i64 t.k,.a<|.fz<|.str t.s,.a<|.fz<|.int .i64 t.n,.a<|.fz<|.sl false 4<|FTs t.l]
abbrev rE (r:List FV):List FV:=[.int .i64<|FV.I<|getD r 0 FV.N,.str<|FV.S<|getD r 1 FV.N,.int .i64<|FV.I<|getD r 2 FV.N,getD r 3 FV.N]
abbrev cE (r:List FV):List WV:=[.a<|.fz<|.int .i64<|FV.I<|getD r 0 FV.N,.a<|.fz<|.str<|FV.S<|getD r 1 FV.N,.a<|.fz<|.int .i64<|FV.I<|getD r 2 FV.N,.a<|.fz<|getD r 3 FV.N]
abbrev aE (r:List FV):TV:=.agg<|cE r
abbrev FT4 (t:Tm):List FV:=[.int .i64 t.k,.str t.s,.int .i64 t.n,.sl false 4<|FTs t.l]
def xb (t):aE (FT t)=aT t:=by cases t;rfl
def cE_FT (t):cE (FT t)=cT t:=by cases t;rfl
def yO (t):rE (FT t)=FT t:=by cases t;rfl
def wG (t):FT4 t=FT t:=by cases t;rfl
def pc (n l):drop n (FTs l)=FTs (drop n l):=by rw[yZ,yZ,List.map_drop]
def FTs_take (n l):take n (FTs l)=FTs (take n l):=by rw[yZ,yZ,Gu]
def vW (a t b):aE (getD (FTs<|a++t::b) (Int.toNat a.length) [])=aT t:=by rw[show getD _ (Int.toNat a.length) []=FT t from by rw[(za:Int.toNat a.length=a.length),JM]];exact xb t
def wy (a t b):rE (getD (FTs<|a++t::b) (Int.toNat a.length) [])=getD (FTs<|a++t::b) (Int.toNat a.length) []:=by rw[show getD _ (Int.toNat a.length) []=FT t from by rw[(za:Int.toNat a.length=a.length),JM]];exact yO t
mutual
def okI:Tm->Prop
 |.mk _ _ n l=>(-9223372036854775808<=n/\n<=9223372036854775807)/\okIs l
def okIs:List Tm->Prop
 |[]=>True
 |t::l=>okI t/\okIs l
end
def lC:∀ {l} {t},okIs l->t∈l->okI t
 |x::l,t,h,hm=>by
  rcases S4.1 hm with rfl|hm
  .exact h.1
  .exact lC h.2 hm
def AQ:∀ {l},(∀t∈l,okI t)->okIs l
 |[],_=>trivial
 |t::l,h=>⟨h t ET,AQ λu b=>h u<|EP _ b⟩
def IR (l:List Int):List (List FV):=l.map λn=> [.int .i64 n]
abbrev aL (l:List Tm):TV:=.c<|.a<|.fz<|.sl false 4<|FTs l
def leT {k n s x l}(h:FV.Le x<|.sl false 4<|FTs l):TV.Le (.agg [.a<|.fz<|.int .i64 k,.a<|.fz<|.str s,.a<|.fz<|.int .i64 n,.a<|.fz x]) (aT<|.mk k s n l):=WA<|leFT h
def ret_t {x y}(h:x=y):TV.Le (aT x) (aT y)/\([]:List AObj)=[]:=⟨h ▸ .refl _,rfl⟩
def zy {x y}(h:x=y):TV.Le (cb x) (cb y)/\([]:List AObj)=[]:=⟨h ▸ .refl _,rfl⟩
def xB {x y}(h:x=y):TV.Le (ci x) (ci y)/\([]:List AObj)=[]:=⟨h ▸ .refl _,rfl⟩
def X0 {x y}(h:TV.Le x y):TV.Le x y/\([]:List AObj)=[]:=⟨h,rfl⟩
def AC.of_calls {P:Program} {f:FuncId} {args:List TV} {vals:List Value} {r:TV} {v:Value} (g:xp P f=true) (h:∀w,Calls P f vals.toArray w λe w'=>e=.returned v/\w'=w)
  (j:∀(w:World) (X:Nat->Prop) (β:Nat->Option Nat) (d:List Value),LRep (TRep w X β) args d->d=vals) (C:∀(w:World) (X:Nat->Prop) (β:Nat->Option Nat),TRep w X β r v):AC P f args [] r []:=by
 refine⟨g,EI _,λw d β Y i D _ m u=>?_⟩;rw[j _ _ _ _ u];refine(h w).mono λe w' ⟨x,z⟩=>?_;subst z;exact⟨v,β,x,Good.refl _ _,m,C _ _ _,i,λo y=>absurd y<|GA _,λo b _ p=>absurd (i o b p)<|GA _⟩
def AC.str_u8 {P f s c n}(b:xp P f=true)(h:∀w,Calls P f #[.string ⟨s.toArray⟩,.int .u8 c] w λe w'=>e=.returned (.int .i64 n)/\w'=w):AC P f [cs s,c8 c] [] (ci n) []:=by refine AC.of_calls (vals:=[.string ⟨s.toArray⟩,.int .u8 c]) b h (λw X β r g=>?_) λw X β=>.a _ _<|.fz _ _<|.int _ _;obtain⟨u,p,rfl,m,j⟩:=g.cons_inv;obtain⟨v,o,rfl,d,i⟩:=j.cons_inv;rw[TRep.str_inv m,TRep.int_inv d,i.nil_inv]
def bZ {w X n es v}(h:FRep w X (.sl false n es) v):v=.slice none 0 0/\es=[]\/FRep w X (.sl true n es) v:=by
 cases h with
 |slnil=>exact .inl ⟨rfl,rfl⟩
 |sl0 m n a=>exact .inr<|.sl0 true n a
 |sl m n es b e cap d u g o i f r p j=>exact .inr<|.sl true n es b e cap d u g o i f r p j
def rT {w X β x vals}(h:LRep (TRep w X β) [.c<|.a<|.fz x] vals):∃v,vals=[v]/\FRep w X x v:=by
 obtain⟨v,e,rfl,b,d⟩:=h.cons_inv;obtain rfl:=d.nil_inv;refine⟨v,rfl,?_⟩;have b:=b;cases b with
 |a _ _ b=>cases b with
  |fz _ _ b=>exact b
def bj {w X β x v}(h:FRep w X x v):LRep (TRep w X β) [.c<|.a<|.fz x] [v]:=.cons (.a _ _<|.fz _ _ h) .nil
def AC.clone0 {P f n}(z:AC P f [.c<|.a<|.fz .N] [] (.c<|.a<|.fz .N) [])(J:AC P f [.c<|.a<|.fz<|.sl true n []] [] (.c<|.a<|.osl 0 n 0 0) [.arz n []]):
  AC P f [.c<|.a<|.fz<|.sl false n []] [] (.c<|.a<|.fz<|.sl false n []) []:=by
 refine⟨z.1,zb,λw vals β Y A u x y F=>?_⟩;obtain⟨v,rfl,hv⟩:=rT F;rcases bZ hv with⟨e,_⟩|hv
 .subst e;exact(z.le (r':=.c<|.a<|.fz<|.sl false n []) (ub)<|le_c<|.N n).2.2 w [_] β Y A u x y<|bj .N
 .refine(J.2.2 w [v] β Y A u x y<|bj hv).mono λe w' ⟨m,p,E,G,K,g,O,M,N⟩=>?_;have d:(λb=>Y b\/Own (λo=>([]).getD o .gone) (λ_=>none) b)=Y:=by funext b;refine propext ⟨λh=>h.elim id λ⟨o,h,_⟩=>zd,.inl⟩
  refine⟨m,λ_=>none,E,G,⟨λo b h=>zb,λo h=>by simp[isLive] at h,λo o' b h=>zb,λo b h=>by cases h⟩,?_,(λo b h=>by cases h),(λo h=>by simp at h),(λo b _ h=>by cases h)⟩;rw[d];have g:=g;refine show WRep w' Y (λ_=>none) (.a<|.fz<|.sl false n []) m from ?_;cases g with
  |a _ _ g=>cases g with
   |oslN=>exact .a _ _<|.fz _ _<|.slnil n
   |osl o n L H r q cap sz t I T V U S=>
    let ⟨C,D⟩:=K.here (o:=0) (b:=r) (by simp[isLive]) I;exact .a _ _<|.fz _ _<|.sl false n [] r q cap 0 (λ_ _=>.bool false) rfl (SQ _) D C (λi e h=>by simp at h) (λi j e f h=>by simp at h) λi j e f h=>by simp at h
def AC.clone_le {P:Program}{f:FuncId}{n M:Nat}(g:AC P f [.c<|.a<|.fz .N] [] (.c<|.a<|.fz .N) [])(d:∀es:List<|List FV,es.length<=M->AC P f [.c<|.a<|.fz<|.sl true n es] [] (.c<|.a<|.osl 0 n 0 es.length) [.arz n es]):
  (∀es:List<|List FV,es≠[]->es.length<=M->AC P f [.c<|.a<|.fz<|.sl false n es] [] (.c<|.a<|.osl 0 n 0 es.length) [.arz n es])/\AC P f [.c<|.a<|.fz<|.sl false n []] [] (.c<|.a<|.fz<|.sl false n []) []:=by
 refine⟨λes b o=>⟨g.1,zb,λw vals β Y p h j m i=>?_⟩,(AC.clone0 g<|d []<|SQ _)⟩;obtain⟨v,rfl,hv⟩:=rT i;rcases bZ hv with⟨_,e⟩|hv
 .exact absurd e b
 .exact(d es o).2.2 w [v] β Y p h j m<|bj hv
structure Cel where
 t:Int
 a:Int
 b:Int
 c:Int
 d:Int
 deriving DecidableEq
abbrev Cel.r (x:Cel):List FV:=[.int .i64 x.t,.int .i64 x.a,.int .i64 x.b,.int .i64 x.c,.int .i64 x.d]
structure Trl where
 o:Int
 x:Cel
 top:Int
abbrev Trl.r (e:Trl):List FV:=[.int .i64 e.o,.int .i64 e.x.t,.int .i64 e.x.a,.int .i64 e.x.b,.int .i64 e.x.c,.int .i64 e.x.d,.int .i64 e.top]
def CR (l:List Cel):=l.map Cel.r
def TR (l:List Trl):=l.map Trl.r
def NR (l:List<|List UInt8):List (List FV):=l.map λs=> [.str s]
def NM:List (List UInt8)->Nat->List MapZ
 |[],_=> []
 |s::l,i=>((false,[.str s]),(false,[.int .i64 (i:Int)]))::NM l (i+1)
structure Hp where
 C:List Cel
 T:List Trl
 M:Int
 L:Int
 N:List<|List UInt8
structure Rd where
 s:Hp
 f:Int
 e:Int
structure Wk where
 s:Hp
 f:Int
 n:Nat
 R:List<|List FV
open Go.ChangeShapes Go.WideShapes Go.ChangeAt Go.RowKit
section
variable {H:Type} {enc:TypeId×Value->H} {P:Program} {w:World}
abbrev ko:Nat->Prop:=λ_=>False
def RdN (enc:TypeId×Value->H)(P:Program)(w:World)(b:DataW H->Nat)(fuel:Nat)(t:TypeId){α:Type}(F:α->List FV)(sz:α->Nat):Prop:=
 ∀cs x,DataW.trod enc P w 0 (λ_=>true) true fuel t cs=some x->∃a,LRep (FRep w ko) (F a) cs/\sz a<=b x.1
def rd_int {b t k}(f:P.underlying t=some (.int k))(g:∀d,1<=b d)(e):RdN enc P w b e t (λn:Int=> [.int k n]) (λ_=>1):=by intro cs x h;obtain⟨n,rfl,rfl,_⟩:=DataW.trod_int f h;exact⟨n,.cons (.int k n) .nil,g _⟩
def Num (k:IntKind):={n:Int // (Lit.int k n).wf=true}
def rd_num {b t k}(g:P.underlying t=some (.int k))(i:∀d,1<=b d)(e):RdN enc P w b e t (λn:Num k=> [.int k n.1]) (λ_=>1):=by intro cs x h;obtain⟨n,rfl,rfl,f⟩:=DataW.trod_int g h;exact⟨⟨n,f⟩,.cons (.int k n) .nil,i _⟩
def rd_bool {b t}(f:P.underlying t=some .bool)(g:∀d,1<=b d)(e):RdN enc P w b e t (λn:Bool=> [.bool n]) (λ_=>1):=by intro cs x h;obtain⟨n,rfl,rfl⟩:=DataW.trod_bool f h;exact⟨n,.cons (.bool n) .nil,g _⟩
def rd_str {b t}(f:P.underlying t=some .string)(e:∀l,l.length+1<=b (.lit<|.string l))(d):RdN enc P w b d t (λl:List UInt8=> [.str l]) (λl=>l.length+1):=by intro cs x h;obtain⟨s,rfl,rfl,_⟩:=DataW.trod_string f h;refine⟨s.data.toList,.cons ?_ .nil,e _⟩;have g:=FRep.str (w:=w) (X:=ko) s.data.toList;omega
def jX {α:Type}(sz:α->Nat):List α->Nat
 |[]=>0
 |a::l=>sz a+jX sz l
def d7 {α sz}:∀ {l} {a:α},a∈l->sz a<=jX sz l
 |x::l,a,h=>by
  rcases S4.1 h with rfl|h
  .simp[jX]
  .have:=d7 (sz:=sz) h;simp[jX];omega
def sum_le {α sz}{b:DataW H->Nat}{bs:List (DataW H)->Nat}(f:∀d l,bs (d::l)=b d+bs l):∀ {xs} {es:List (DataW H×List MemPlace)},xs.length=es.length->(∀(i:Nat) (x:α) y,xs[i]?=some x->es[i]?=some y->sz x<=b y.1)->jX sz xs<=bs (es.map (·.1))
 |[],_,_,_=>by simp[jX]
 |x::xs,[],h,_=>zd
 |x::xs,e::es,h,g=>by have m:=g 0 x e rfl rfl;have j:=sum_le (sz:=sz) f (xs:=xs) (es:=es) zd λi x y o p=>g (i+1) x y zd zd;simp[jX,SA,f];omega
def gy {a n cs}(h:w.cells? 0 a n=some cs):cs.length=n/\∀j u,cs[j]?=some u->w.cell? (a.add j)=some u:=by
 unfold World.cells? at h;refine⟨by have:=mapM_some_length h;exact zl this,λj u b=>?_⟩;have d:j<n:=by have e:=(EW.1 b).1;have:=mapM_some_length h;simp at this;omega
 have:=mapM_some_get h j j zd;grind
def AT {a u}(h:w.cell? a=some u):a.spot=none:=by
 unfold World.cell? at h;split at h
 .simp_all
 .cases h
def cell_blk {a u}(h:w.cell? a=some u):a.block<w.heap.size:=by apply Decidable.byContradiction;intro b;have:w.heap[a.block]?=none:=zd;simp[World.cell?,this] at h
def add_zero (a:Addr):a.add 0=a:=rfl
def lj (b o k):(Addr.mk b o none).add k=⟨b,o+k,none⟩:=by unfold Addr.add;grind
def l7 {b:DataW H->Nat} {bs:List (DataW H)->Nat} (Y:∀d l,bs (d::l)=b d+bs l) (T:∀d,1<=b d) (hb:∀es sp,bs es+1<=b (.slice es sp)) {t e:TypeId} (ht:P.underlying t=some (.slice e)) {n:Nat} (hn:P.cellsOf e=n) (hn0:0<n)
  {α:Type} {F:α->List FV} {sz:α->Nat} (hF:∀a,(F a).length=n) {r:Nat} (ih:∀k,k<r->RdN enc P w b k e F sz):RdN enc P w b r t (λl:List α=> [.sl false n<|l.map F]) (λl=>jX sz l+1):=by
 intro cs x h;rcases DataW.trod_slice ht h with⟨rfl,rfl⟩|⟨a,p,cap,g,rest,k,rfl,rfl,rfl,_,hlc,_,G,D,z,_⟩
 .exact⟨[],.cons (.slnil n) .nil,by simpa[jX] using T _⟩
 .rw[hn] at D;have key:∀(i:Nat) (y:DataW H×List MemPlace),g[i]?=some y->∃x:α,(∃cs,w.cells? 0 (a.add<|i*n) n=some cs/\LRep (FRep w ko) (F x) cs)/\sz x<=b y.1:=by
   intro i y hy;have hi:i<p:=by rw[<-G];exact(EW.1 hy).1
   have m:=D i hi;rw[hy] at m;obtain⟨cs,v,h3⟩:=G3.1 m;obtain⟨x,h4,K⟩:=ih k (Nat.lt_succ_self _) cs y h3;grind
  have I:∃xs:List α,xs.length=g.length/\∀(i:Nat) (x:α),xs[i]?=some x->(∃cs,w.cells? 0 (a.add<|i*n) n=some cs/\LRep (FRep w ko) (F x) cs)/\∀y,g[i]?=some y->sz x<=b y.1:=by
   have:∀(l:List<|DataW H×List MemPlace) (o:Nat),(∀i,l[i]?=g[o+i]?)->∃xs:List α,xs.length=l.length/\∀(i:Nat) (x:α),xs[i]?=some x->(∃cs,w.cells? 0 (a.add<|(o+i)*n) n=some cs/\LRep (FRep w ko) (F x) cs)/\∀y,l[i]?=some y->sz x<=b y.1:=by
    intro l
    induction l with
    |nil=>exact λo _=>⟨[],rfl,λi x h=>by simp at h⟩
    |cons y l ih=>intro o ho;obtain⟨x,hx1,hx2⟩:=key o y (by have:=ho 0;exact zl this.symm);obtain⟨xs,m,v⟩:=ih (o+1) (λi=>by have:=ho (i+1);rw[(za:o+1+i=o+(i+1))];exact zl this);refine⟨x::xs,by simp[m],λi x' hx'=>?_⟩;grind
   obtain⟨xs,m,v⟩:=this g 0 (λi=>zb);grind
  obtain⟨xs,W,V⟩:=I;have hsum:=sum_le (sz:=sz) (b:=b) Y W λi x y m v=>(V i x m).2 y v;have hb':=hb (g.map (·.1)) (rest.map (·.1));refine⟨xs,?_,show jX sz xs+1<=b (.slice (g.map (·.1)) (rest.map (·.1))) by omega⟩;by_cases hc0:cap=0
  .have Z:p=0:=za;subst hc0;subst Z;have:xs=[]:=List.length_eq_zero_iff.1 za;subst this;exact .cons (.sl0 false n a) .nil
  .have C:∃cs,w.cells? 0 a n=some cs:=by
    by_cases Z:p=0
    .have J:=(z rfl).2 0 za;have hr':rest[0]? ≠ none:=by grind
     rw[hn] at J;rw[Z,show(0+0)*n=0 by simp,add_zero] at J;cases X:w.cells? 0 a n with
     |none=>rw[X] at J;exact absurd J.symm hr'
     |some cs=>exact⟨cs,rfl⟩
    .have:0<xs.length:=za;obtain⟨⟨cs,m,_⟩,_⟩:=V 0 xs[0] (by simp[this]);rw[(zb:0*n=0),add_zero] at m;grind
   obtain⟨N,hq⟩:=C;obtain⟨hl0,S⟩:=gy hq;have u:=S 0 (N[0]' za) zb;rw[add_zero] at u;have hsp:a.spot=none:=AT u;have M:a.block<w.heap.size:=cell_blk u;obtain⟨A,E,sp⟩:=a;subst hsp;refine .cons (.sl false n (xs.map F) A E cap p (λi j=>(w.cell? ⟨A,E+i*n+j,none⟩).getD<|.bool false) (by rw[Sn];omega) (by rw[Sn];omega) (λh=>h) M (λi e L=>?_) (λi j e f L O=>?_) λi j e f L O=>?_) .nil
   .grind
   all_goals
    rw[EX] at L;obtain⟨x,U,rfl⟩:=EM.1 L;obtain⟨⟨cs,m,v⟩,_⟩:=V i x U;obtain⟨h3,h4⟩:=gy m;have hj:j<cs.length:=by rw[<-v.1];exact(EW.1 O).1
    have K:=h4 j cs[j] zb;rw[lj,lj] at K
   .rw[K];rfl
   .rw[K];exact v.2 j f cs[j] O zb
structure TmTy (P:Program)(T:TypeId)(f0 f1 f2 f3:Field):Prop where
 str:P.underlying T=some (.struct #[f0,f1,f2,f3])
 u0:P.underlying f0.type=some (.int .i64)
 u1:P.underlying f1.type=some .string
 u2:P.underlying f2.type=some (.int .i64)
 u3:P.underlying f3.type=some (.slice T)
 o0:f0.offset=0
 o1:f1.offset=1
 o2:f2.offset=2
 o3:f3.offset=3
 c0:P.cellsOf f0.type=1
 c1:P.cellsOf f1.type=1
 c2:P.cellsOf f2.type=1
 c3:P.cellsOf f3.type=1
 cT:P.cellsOf T=4
structure Bulk (b:DataW H->Nat)(bs:List (DataW H)->Nat):Prop where
 nil:bs []=0
 cons:∀d l,bs (d::l)=b d+bs l
 one:∀d,1<=b d
 slice:∀es sp,bs es+1<=b (.slice es sp)
 str:∀l:List UInt8,l.length+1<=b (.lit<|.string l)
 agg:∀l,bs l+1<=b (.agg l)
def LRep.one {α R}{c:α}{u}(h:LRep R [c] [u]):R c u:=h.2 0 c u rfl rfl
def none_own {Y:Nat->Prop}(d:∀b,¬Y b){Hs:List AObj}:(λb=>Y b\/Own (λo=>Hs.getD o .gone) (λ_=>none) b)=ko:=by
 funext b;refine propext ⟨λh=>?_,λh=>h.elim⟩;rcases h with h|⟨o,_,h⟩
 .grind
 .cases h
abbrev β0:Nat->Option Nat:=λ_=>none
def open_num {t k} (f:P.underlying t=some (.int k)) {r b v d g}
  (h:Value.okWide P w r b t v) (hd:DataW.Trod enc P w 0 (λ_=>true) true t v d g):∃n,TRep w ko β0 (.c<|.a<|.fz<|.int k n) v/\(Lit.int k n).wf=true:=by
 obtain⟨n,rfl,_,_,e⟩:=open_int f h hd;exact⟨n,.a _ _<|.fz _ _<|.int k n,e⟩
def sx {w' foot}(g:Good w foot w')(f:∀b,¬foot b)(d):w.keptBut w' d:=by refine⟨g.os,g.output,λi e=>?_⟩;rw[g.blk i e<|f i];grind
def sF {w' foot}(g:Good w foot w')(e:∀b,¬foot b){p}(d:p.block<w.heap.size):w.sameAt w' p:=by
 cases p with
 |cell b o=>exact World.cell?_of_block (a:=⟨b,o,none⟩)<|g.blk b d<|e b
 |map b=>exact g.blk b d<|e b
def jO (j:laidOutB P=true){w' m}:∀ {f} {vs} {o} {p},DataW.TrodAll enc P w 0 (λ_=>true) true f vs o p->(∀t∈f,P.readableRec t=true/\t<P.types.size)->(∀x∈p,w.sameAt w' x)->(∀x∈p,m x.block=true)->DataW.TrodAll enc P w' 0 m true f vs o p
 |[],_,_,_,h,_,_,_=>by obtain⟨rfl,rfl,rfl⟩:=trodAll_nil h;rfl
 |t::f,_,_,_,h,g,i,e=>by
  obtain⟨v,y,d,C,p,q,rfl,rfl,rfl,⟨n,z⟩,D⟩:=trodAll_cons h;have r:=(g t ET).1
  exact⟨p,q,⟨n,DataW.trod_stays (kids_book j r) (book_sized r) (λh=>by cases h) ⟨(g t ET).2,book_self t⟩ z (λx b=>i x<|Gj _ b) λx b=>e x<|Gj _ b⟩,
   jO j D (λu A=>g u<|EP _ A) (λx b=>i x<|GN _ b) (λx b=>e x<|GN _ b),rfl⟩
def tE (hl:laidOutB P=true) {f:Func} {s:ChangeSpec} {h y e D:Bool} {w':World} {args:Array Value} {z gs:List (DataW H)} {d:List MemPlace} {foot:Nat->Prop} {S:TypeId}
  (T:DataW.Whole enc P f.params.toList s.vars h w args.toList z gs d) (K:s.vars=[]) (Y:∀v:List<|DataW H,v.length=z.length->s.fn H v={results:=[.lit<|.bool true],args:=v})
  (X:∀t∈f.params.toList,P.readableRec t=true/\t<P.types.size) (V:f.resultTypes= #[S]) (I:P.underlying S=some .bool) (g:Good w foot w') (J:∀b,¬foot b):
  s.post enc P f h y e D w args (.bool true) w':=by
 have E:=T.lt;obtain⟨p,q,N,U,O,M,W⟩:=T;rw[K] at U;obtain⟨rfl,rfl⟩:=trodVars_none U;rw[S6] at O;subst O;have F:∀x∈d,(λb=>decide (b<w.heap.size)) x.block=true:=λx u=>by simpa using E x u
 have C:=Y (z++[]) zb;have j:∀o:Nat->Bool,(∀x∈d,o x.block=true)->DataW.TrodAll enc P w' 0 o true f.params.toList args.toList (s.fn H<|z++[]).args d:=λo L=>by rw[C,S6];exact jO hl N X (λx u=>sF g J<|E x u) L
 have r:∀(b:Nat) (o:Nat->Bool) (hd:Bool),DataW.TrodAll enc P w' b o hd f.resultTypes.toList ((Value.bool true).resultList f.resultTypes.size) (s.fn H<|z++[]).results []:=λb o hd=>by rw[C,V];exact trodAll_mk1 ⟨1,by simp[DataW.trod,Value.cells,I]⟩
 have i:∀o:Nat->Bool,DataW.TrodVars enc P w' o s.vars (s.fn H<|z++[]).vars []:=λo=>by rw[C,K];rfl
 refine⟨z,[],d,[],d,[],⟨d,[],N,by rw[K];rfl,zb,M,W⟩,r _ _ _,j _ F,i _,World.keptBut_mono (λx u=>⟨u,?_⟩) (sx g J (· ∈d)),λ_=>?_⟩
 .exact zl u
 .refine⟨ok_one V rfl (okWide_bool_mk I _),_,_,([]++d)++[],⟨[]++d,[],trodAll_append (j _ λ_ _=>rfl)<|r _ _ _,i _,rfl,?_,?_⟩,?_⟩
  .intro b m G;have G:MemPlace.cell b m∈d:=zl G;have I:=E _ G;have:w'.frozen? ⟨b,m,none⟩=w.frozen? ⟨b,m,none⟩:=by unfold World.frozen?;rw[g.blk b I<|J b]
   rw[this];exact M b m G
  .intro Z;simpa using W Z
  .intro x u _;exact zl u
def law_true {f:FuncId}{args:List TV}(g:Gl P w ko)(h:AC P f args [] (cb true) []){vals:List Value}(p:LRep (TRep w ko β0) args vals):
  Calls P f vals.toArray w λe w'=>e=.returned (.bool true)/\∃foot,(∀b,¬foot b)/\Good w foot w':=by
 have u:(λb=>(λ_:Nat=>False) b\/Own (λo=>([]:List AObj).getD o .gone) β0 b)=ko:=none_own λ_ h=>h;refine(h.2.2 w vals β0 (λ_=>False) (λo b h=>by cases h) (λb h=>h.elim) (g.sub λb ⟨o,i,_⟩=>by simp[isLive] at i) ⟨λo b h _=>by simp[isLive] at h,λo h=>by simp[isLive] at h,λo o' b h=>by simp[isLive] at h,λo b h=>by cases h⟩<|by rw[u];exact p).mono λe w' ⟨v,m,j,r,x,d,_⟩=>?_;subst j;cases d with
 |a _ _ d=>
  cases d with
  |fz _ _ d=>cases d;exact⟨rfl,_,λb ⟨o,i,_⟩=>by simp[isLive] at i,r⟩
end
end Go.AM
namespace Go.AM
open Go.ChangeShapes Go.WideShapes Go.ChangeAt Go.RowKit
section
variable {H:Type} {enc:TypeId×Value->H} {P:Program} {w:World}
def Jn {n}(h:(Lit.int .i64 n).wf=true): -9223372036854775808<=n/\n<=9223372036854775807:=by simp[Lit.wf,IntKind.min,IntKind.max,IntKind.signed,IntKind.bits,EN,Sf,S9] at h;omega
abbrev TmI:={t:Tm // okI t}
def gK:∀l,Tm.bks (l.map (·.1))=jX (λt:TmI=>t.1.bk) l
 |[]=>rfl
 |t::l=>by rw[SA,Tm.bks,jX,gK l]
def okIs_val (l:List TmI):okIs (l.map (·.1)):=AQ λt b=>by grind
def J0 {b M}(g:Bulk b M){T f0 I C E}(d:TmTy P T f0 I C E):∀f,RdN enc P w b f T (λt:TmI=>FT t.1) (λt=>t.1.bk):=by
 intro f
 induction f using Nat.strongRecOn with
 |_ f ih=>
  intro cs x h;obtain⟨xs,n,rfl,rfl,A,o,i⟩:=DataW.trod_struct d.str h;rw[d.cT] at A
  match cs,A with
  |[V,O,S,W],_=>
  match xs,o with
  |[x0,j,G,p],_=>
  have u:=i 0 f0 rfl;have r:=i 1 I rfl;have y:=i 2 C rfl;have z:=i 3 E rfl;rw[d.o0,d.c0] at u;rw[d.o1,d.c1] at r;rw[d.o2,d.c2] at y;rw[d.o3,d.c3] at z;let ⟨k,r0,_⟩:=rd_int (b:=b) d.u0 g.one n _ _ u;let ⟨s,K,v⟩:=rd_str (b:=b) d.u1 g.str n _ _ r;have v:s.length+1<=b j.1:=v;let ⟨m,J,_⟩:=rd_num (b:=b) d.u2 g.one n _ _ y;let ⟨l,N,D⟩:=l7 (F:=λt:TmI=>FT t.1) (sz:=λt:TmI=>t.1.bk) g.cons g.one g.slice d.u3 d.cT za (λt=>xO t.1) (λk U=>ih k za) _ _ z;have D:jX (λt:TmI=>t.1.bk) l+1<=b p.1:=D;refine⟨⟨.mk k s m.1 (l.map (·.1)),Jn m.2,okIs_val l⟩,?_,?_⟩
  .have e:FTs (l.map (·.1))=l.map λt:TmI=>FT t.1:=by rw[yZ,GT];rfl
   show LRep _ (FT (.mk k s m.1 (l.map (·.1)))) _;rw[FT,e];exact .cons (LRep.one r0)<|.cons (LRep.one K)<|.cons (LRep.one J)<|.cons (LRep.one N) .nil
  .have:=g.one x0.1;show Tm.bk (.mk k s m.1 (l.map (·.1)))<=b (.agg [x0.1,j.1,G.1,p.1]);simp only[Tm.bk,gK];have L:=g.agg [x0.1,j.1,G.1,p.1];simp[g.cons,g.nil] at L;omega
def WK {b E} (y:Bulk b E) {T f0 D p C} (j:TmTy P T f0 D p C) {r f v d o}
  (m:Value.okWide P w r f T v) (hd:DataW.Trod enc P w 0 (λ_=>true) true T v d o):∃t,TRep w ko β0 (aT t) v/\t.bk<=b d/\okI t:=by
 obtain⟨cs,rfl,_⟩:=okWide_struct j.str m;let ⟨e,A⟩:=hd;let ⟨t,i,z⟩:=J0 y j e _ _ A;refine⟨t.1,⟨cs.toList,zb,?_⟩,z,t.2⟩;have i:LRep _ (FT t.1) cs.toList:=i;rw[Zo] at i;exact i.map (g:=λx=>WV.a _) λc u _ h=>.a _ _<|.fz _ _ h
end
end Go.AM
namespace Go.AM
open Go.ChangeShapes Go.WideShapes Go.ChangeAt Go.RowKit
section
variable {H:Type} {enc:TypeId×Value->H} {P:Program} {w:World}
def fe {b:DataW H->Nat} {y:List (DataW H)->Nat} (g:Bulk b y) {T S:TypeId} {n:Nat} {α:Type} {F:α->List FV} {sz:α->Nat} (o:∀a,(F a).length=n) (x:P.cellsOf T=n) (hn0:0<n) (C:∀a,1<=sz a)
  (e:∀k,RdN enc P w b k T F sz) (i:P.underlying S=some (.slice T)) {r:Reach} {f:Nat} {v:Value} {d:DataW H} {m:List MemPlace}
  (p:Value.okWide P w r f S v) (hd:DataW.Trod enc P w 0 (λ_=>true) true S v d m):∃l:List α,TRep w ko β0 (.c<|.a<|.fz<|.sl false n<|l.map F) v/\jX sz l+1<=b d:=by
 obtain⟨a,z,cap,rfl⟩:=okWide_slice i p;obtain⟨h,j⟩:=hd;obtain⟨l,e,u⟩:=l7 g.cons g.one g.slice i x hn0 o (λk _=>e k) _ _ j;have e:LRep (FRep w ko) [.sl false n<|l.map F] [_]:=e;exact⟨l,.a _ _<|.fz _ _ e.one,u⟩
end
end Go.AM
namespace Go.AM
open Go.ChangeShapes Go.WideShapes Go.ChangeAt Go.RowKit
mutual
inductive Cd where
 |mk (nm:List UInt8) (ar fr vs sl:Int) (ins:List In1)
inductive In1 where
 |mk (k a:Int) (t:Tm) (l:List Tm) (c:List Cd)
end
namespace Cd
def nm:Cd->List UInt8|.mk x _ _ _ _ _=>x
def ar:Cd->Int|.mk _ x _ _ _ _=>x
def fr:Cd->Int|.mk _ _ x _ _ _=>x
def vs:Cd->Int|.mk _ _ _ x _ _=>x
def sl:Cd->Int|.mk _ _ _ _ x _=>x
def ins:Cd->List In1|.mk _ _ _ _ _ x=>x
end Cd
namespace In1
def k:In1->Int|.mk x _ _ _ _=>x
def a:In1->Int|.mk _ x _ _ _=>x
def t:In1->Tm|.mk _ _ x _ _=>x
def l:In1->List Tm|.mk _ _ _ x _=>x
def c:In1->List Cd|.mk _ _ _ _ x=>x
end In1
instance:Inhabited Cd:=⟨.mk [] 0 0 0 0 []⟩
instance:Inhabited In1:=⟨.mk 0 0 default [] []⟩
mutual
def FC:Cd->List FV
 |.mk nm ar fr vs sl ins=> [.str nm,.int .i64 ar,.int .i64 fr,.int .i64 vs,.int .i64 sl,.sl false 8<|FIs ins]
def FI:In1->List FV
 |.mk k a t l c=> [.int .i64 k,.int .i64 a,.int .i64 t.k,.str t.s,.int .i64 t.n,.sl false 4<|FTs t.l,.sl false 4<|FTs l,.sl false 6<|FCs c]
def FIs:List In1->List (List FV)
 |[]=> []
 |x::l=>FI x::FIs l
def FCs:List Cd->List (List FV)
 |[]=> []
 |x::l=>FC x::FCs l
end
def uj:∀l,FIs l=l.map FI
 |[]=>by rw[FIs];rfl
 |x::l=>by rw[FIs,uj l];rfl
def kv:∀l,FCs l=l.map FC
 |[]=>by rw[FCs];rfl
 |x::l=>by rw[FCs,kv l];rfl
def Ee (x):(FI x).length=8:=by cases x;simp[FI]
def zP (l):(FIs l).length=l.length:=by rw[uj,Sn]
def y3 (l):(FCs l).length=l.length:=by rw[kv,Sn]
mutual
def Cd.sz:Cd->Nat
 |.mk nm _ _ _ _ ins=>1+nm.length+In1.szs ins
def In1.sz1:In1->Nat
 |.mk _ _ t l c=>1+t.bk+Tm.bks l+Cd.szs c
def In1.szs:List In1->Nat
 |[]=>0
 |x::l=>In1.sz1 x+In1.szs l
def Cd.szs:List Cd->Nat
 |[]=>0
 |x::l=>Cd.sz x+Cd.szs l
end
def Cd.szs_mem:∀ {l} {c},c∈l->c.sz<=Cd.szs l
 |x::l,c,h=>by
  rcases S4.1 h with rfl|h
  .simp only[Cd.szs];omega
  .have:=Cd.szs_mem h;simp[Cd.szs];omega
def In1.szs_mem:∀ {l} {c},c∈l->c.sz1<=In1.szs l
 |x::l,c,h=>by
  rcases S4.1 h with rfl|h
  .simp only[In1.szs];omega
  .have:=In1.szs_mem h;simp[In1.szs];omega
def Cd.ind {P:Cd->Prop}(h:∀c,(∀x∈c.ins,∀d∈x.c,P d)->P c):∀c,P c:=by
 have key:∀n c,Cd.sz c<=n->P c:=by
  intro n
  induction n with
  |zero=>intro c b;cases c;simp only[Cd.sz] at b;omega
  |succ n ih=>intro c b;refine h c λx e d hd=>ih d ?_;have g:=In1.szs_mem e;have f:=Cd.szs_mem hd;cases c;cases x;simp only[Cd.sz,Cd.ins,In1.sz1,In1.c] at*;omega
 exact λc=>key _ c<|EI _
abbrev aC (c:Cd):TV:=.agg [.a<|.fz<|.str c.nm,.a<|.fz<|.int .i64 c.ar,.a<|.fz<|.int .i64 c.fr,.a<|.fz<|.int .i64 c.vs,.a<|.fz<|.int .i64 c.sl,.a<|.fz<|.sl false 8<|FIs c.ins]
abbrev aCs (l:List Cd):TV:=.c<|.a<|.fz<|.sl false 6<|FCs l
def xE (c):FC c=[.str c.nm,.int .i64 c.ar,.int .i64 c.fr,.int .i64 c.vs,.int .i64 c.sl,.sl false 8<|FIs c.ins]:=by cases c;rw[FC];rfl
def xZ (x):FI x=[.int .i64 x.k,.int .i64 x.a,.int .i64 x.t.k,.str x.t.s,.int .i64 x.t.n,.sl false 4<|FTs x.t.l,.sl false 4<|FTs x.l,.sl false 6<|FCs x.c]:=by cases x;rw[FI];rfl
section
variable {H:Type} {enc:TypeId×Value->H} {P:Program} {w:World}
structure Key where
 any:Bool
 k:Int
 nm:List UInt8
 n:Int
 ar:Int
 deriving DecidableEq
abbrev aK (k:Key):TV:=.agg [.a<|.fz<|.bool k.any,.a<|.fz<|.int .i64 k.k,.a<|.fz<|.str k.nm,.a<|.fz<|.int .i64 k.n,.a<|.fz<|.int .i64 k.ar]
end
end Go.AM
namespace Go.AM
abbrev FR (r:Option Nat):={Fence.wide with round:=r}
def vK (ops:Array Oper):=ops.all λo=>match o.op with|.defer _=>false|_=>true
def KA {b}(h:vK b=true):∀(i:Nat) (o),b[i]?=some o->∀c,o.op ≠ .defer c:=λi o d c e=>by have:=SF.1 h o<|GO d;grind
def Wd {b}(h:vK b=true):∀o∈b.toList,∀c,o.op ≠ .defer c:=λo d=>by let ⟨i,e⟩:=G4 d;exact KA h i o zd
def calls_in {r n P f args w R}(h:Calls P f args w R):CallsIn (FR r) n P f args w R:=by have:=(callsIn_wide (n:=n)).2 h;exact this
def rows_in {r n P b args w R}(h:Rows P b args w R):RowsIn (FR r) n P b args w R:=
 λc cs _=>let ⟨v,w',hr,s⟩:=h c cs;⟨v,w',hr,stepsIn_wide.2 s⟩
def op_in {r n P}{o:Oper}{a w K Q}(b:∀c,o.op ≠ .defer c)(h:o.wp P a w K Q):o.wpIn (FR r) n P a w K Q:=by
 refine⟨λ_ _=>trivial,?_⟩;rw[Oper.semAt_eq _ _ _ b];unfold Oper.wp at h;generalize (execOp a.eval o).run P w=e at h ⊢;cases e with
 |ok nx w'=>cases nx with
  |value v=>exact h
  |skip=>exact h
  |defer d=>exact h
  |enter f args=>exact⟨λhd=>by simp[FR,Fence.wide] at hd,calls_in h⟩
  |row row args=>exact⟨λhd=>by simp[FR,Fence.wide] at hd,rows_in h⟩
  |_=>exact h.elim
 |halt g w'=>cases g with
  |panic v=>exact h
  |_=>exact h.elim
def cU {r n P b Q}(e:¬LetsOut Q):∀ {l} {a} {w},(∀o∈l,∀c,o.op ≠ .defer c)->wpList P b Q l a w->wpListIn (FR r) n P b Q l a w
 |[],_,_,_,h=>h
 |o::rest,a,w,hd,h=>by
  have ih:∀a w,wpList P b Q rest a w->wpListIn (FR r) n P b Q rest a w:=λa w h=>cU e (λo f=>hd o<|EP _ f) h;unfold wpList at h;unfold wpListIn;split at h
  .rename_i d;rw[EL d];rcases h with h|⟨_,h⟩
   .exact op_in (hd o ET)<|Oper.wp_mono ih h
   .grind
  next d=>rw[EG d];exact⟨λ_ _=>trivial,ih _ _ h⟩
def pU {r n P e Q}(f:¬LetsOut Q)(hd:∀(i:Nat) o,e[i]?=some o->∀c,o.op ≠ .defer c):∀ {fuel} {b} {a} {w},
  wpAny P .any e Q fuel b a w->wpAnyIn (FR r) n P .any e Q fuel b a w
 |0,_,_,_,h=>h
 |fuel+1,b,a,w,h=>by
  refine⟨h.1,λi m=>?_⟩;have d:=h.2 i m;unfold wpOp at d;unfold wpOpIn;cases g:e[i]? with
  |none=>rw[g] at d;exact pU f hd d
  |some o=>
   rw[g] at d;simp at d ⊢;split at d
   .rename_i j;rw[EL j];rcases d with d|⟨_,d⟩
    .exact op_in (hd i o g)<|Oper.wp_mono (λa w h=>pU f hd h) d
    .grind
   next j=>rw[EG j];exact⟨λ_ _=>trivial,pU f hd d⟩
section
variable {P:Program} {w0:World} {foot:Nat->Prop} {Y:Nat->Prop} {pin:Nat->Option (Option Nat)}
def J6 {r:Option Nat} {n id:Nat} {f:Array Oper} {O:Bool} {s:St} {β:Nat->Option Nat} {a:Act} {w:World} {Q:Exit->Act->World->Prop} {R:St->Prop} (X:P.follows .mixedOrders=true) (I:vK f=true) (M:¬LetsOut Q) (H:dstB f a.tmps.size=true)
  (hl:lex P f s.nx f.toList 0 s.env s.heap [] λe h tr=>(O=true->Jj f tr=true)/\R ⟨e,h,s.nx+32*f.size⟩)
  (u:RelF P w0 foot Y pin (look s.env) (hook s.heap) β a w) (F:∀k,Occ pin β k->k<s.nx)
  (hQ:∀N v w' m,R N->v.tmps.size=a.tmps.size->RelF P w0 foot Y pin (look N.env) (hook N.heap) m v w'->(∀k,Occ pin m k->k<N.nx)->Q .normal v w'):(Code.region id f O).wpIn (FR r) n P Q a w:=by
 have y:∀(j:Nat) (q:Oper) (d:Nat),f[j]?=some q->q.dst=some d->d<a.tmps.size:=by intro j q d M hd;have:=SF.1 H q<|GO M;rw[hd] at this;exact zl this
 obtain⟨z,e',h',W,K,he,V,G,E,T⟩:=qu _ _ _ _ _ hl;rw[S6] at G;have D:∀v w' m,v.tmps.size=a.tmps.size->RelF P w0 foot Y pin (endE (look s.env) z) (endH (hook s.heap) z) m v w'->(∀k,Occ pin m k->k<s.nx+32*f.size)->Q .normal v w':=by intro v w' m J C S;refine hQ _ v w' m T J ?_ S;show RelF P w0 foot Y pin (look e') (hook h') m v w';rw[he,V];exact C
 cases O with
 |false=>refine wpIn_region_list<|cU M (Wd I)<|qx y f.toList 0 _ _ z β a w (λo ho=>?_) K rfl u (zl F) λv w' m J _ C S=>D v w' m J C<|zl S;obtain⟨j,hj⟩:=G4 ho;exact⟨j,zl hj⟩
 |true=>
  refine wpIn_region_any X<|pU M (KA I) ?_;have U:RelF P w0 foot Y pin (look s.env) (hook s.heap) β a {w with drawn:=w.drawn+1}:=by have g:Goes w {w with drawn:=w.drawn+1} (XO Y (hook s.heap) β) (XO Y (hook s.heap) β) β β:=⟨EI _,λb F _=>⟨rfl,F⟩,λ_ _=>rfl,λo b F=>⟨F,u.objs.lt o b F⟩⟩;exact⟨u.good.drew,λi=>(u.env i).goes g,⟨λo b J C=>(u.objs.rep o b J C).goes g rfl,u.objs.has,u.objs.inj,u.objs.lt⟩,u.own,u.defers,u.ylt,u.pins,u.gl⟩
  have p:∀i,(Array.replicate f.size false).getD i false=false:=by
   intro i;by_cases L:i<f.size
   .simp[L]
   .simp[L]
  refine WP (w0:=w0) (foot:=foot) (Y:=Y) K G (E rfl) y D f.size _ β a _ zb ?_ (λj o e _ C=>by rw[p] at C;cases C) rfl (kX U (λt=>?_) λx=>?_) λk Z=>.inl<|F k Z
  .have:((List.range f.size).filter λi=> !(Array.replicate f.size false).getD i true)=List.range f.size:=by apply List.filter_eq_self.2;intro i L;simp only[F1] at L;simp[L]
   rw[this];simp
  .have key:∀n,eD (look s.env) (λj=>z.getD j ⟨none,.any,[],[]⟩) (λj=>(Array.replicate f.size false).getD j false) n=look s.env:=by
    intro n;induction n with
    |zero=>rfl
    |succ n ih=>simp only[eD];rw[EG<|by rw[p];simp];exact ih
   rw[key]
  .have key:∀n,hD (hook s.heap) (λj=>z.getD j ⟨none,.any,[],[]⟩) (λj=>(Array.replicate f.size false).getD j false) n=hook s.heap:=by
    intro n;induction n with
    |zero=>rfl
    |succ n ih=>simp only[hD];rw[EG<|by rw[p];simp];exact ih
   rw[key]
end
def K7 {P:Program} {w0:World} {foot Y:Nat->Prop} {f:Nat->Option (Option Nat)} {r:Option Nat} {n id:Nat} {b:Array Oper} {s:St} {β:Nat->Option Nat} {a:Act} {w:World} {Q:Exit->Act->World->Prop} {R:St->Prop} (x:vK b=true) (y:¬LetsOut Q) (p:dstB b a.tmps.size=true)
  (L:lex P b s.nx b.toList 0 s.env s.heap [] λe h _=>R ⟨e,h,s.nx+32*b.size⟩)
  (S:RelF P w0 foot Y f (look s.env) (hook s.heap) β a w) (N:∀k,Occ f β k->k<s.nx)
  (J:∀u m w' g,R u->m.tmps.size=a.tmps.size->m.defers=a.defers->RelF P w0 foot Y f (look u.env) (hook u.heap) g m w'->(∀k,Occ f g k->k<u.nx)->Q .normal m w'):(Code.region id b false).wpIn (FR r) n P Q a w:=by
 have i:∀(j:Nat) (q:Oper) (d:Nat),b[j]?=some q->q.dst=some d->d<a.tmps.size:=by intro j q d y hd;have:=SF.1 p q<|GO y;rw[hd] at this;exact zl this
 obtain⟨C,G,h',F,z,I,E,_,v⟩:=qu _ _ _ _ _ L;refine wpIn_region_list<|cU y (Wd x)<|qx i b.toList 0 _ _ C β a w (λo M=>?_) z rfl S (zl N) λm w' g K hd D H=>?_
 .obtain⟨j,O⟩:=G4 M;exact⟨j,zl O⟩
 .refine J _ m w' g v K hd ?_ (zl H);show RelF P w0 foot Y f (look G) (hook h') g m w';rw[I,E];exact D
def AsgS (P:Program)(n:Nat)(A:Code)(s:St)(R:St->Prop):Prop:=
 ∀(w0:World) (foot Y:Nat->Prop) (pin:Nat->Option (Option Nat)) (r:Option Nat) (n':Nat) (β:Nat->Option Nat) (a:Act) (w:World) (Q:Exit->Act->World->Prop),¬LetsOut Q->a.tmps.size=n->
  RelF P w0 foot Y pin (look s.env) (hook s.heap) β a w->(∀k,Occ pin β k->k<s.nx)->(∀s' a' w' β',R s'->a'.tmps.size=n->a'.defers=a.defers->RelF P w0 foot Y pin (look s'.env) (hook s'.heap) β' a' w'->(∀k,Occ pin β' k->k<s'.nx)->Q .normal a' w')->A.wpIn (FR r) n' P Q a w
def AsgS.region {P n id b s R} (f:vK b=true) (d:dstB b n=true)
  (m:lex P b s.nx b.toList 0 s.env s.heap [] λe h _=>R ⟨e,h,s.nx+32*b.size⟩):AsgS P n (.region id b false) s R:=by
 intro w0 foot Y g r v β a w Q j p u o i;subst p;exact K7 f j d m u o i
def AsgS.seq {P n A A' s R R'}(y:AsgS P n A s R)(i:∀d,R d->AsgS P n A' d R'):AsgS P n (.seq A A') s R':=by intro w0 foot Y b r g β a w Q f G K D p;exact wpIn_seq<|y w0 foot Y b r g β a w _ (λ⟨_,_,h⟩=>f ⟨_,_,h⟩) G K D λd H w' e u E I j x=>i d u w0 foot Y b r g e H w' Q f E j x λC z L β2 v o J F m=>p C z L β2 v o (J.trans I) F m
def AsgS.mono {P n A s R R'}(i:AsgS P n A s R)(f:∀b,R b->R' b):AsgS P n A s R':=
 λw0 foot Y d r m β a w Q j p v o g=>i w0 foot Y d r m β a w Q j p v o λb u w' e h=>g b u w' e<|f b h
section
variable {P:Program} {n m:Nat} {c:Code} {Q:AExit->St->Prop} {s:St}
def AwpR (P:Program)(n m:Nat)(c:Code)(Q:AExit->St->Prop)(s:St):Prop:=
 ∀(l:Nat) (w0:World) (foot Y:Nat->Prop) (pin:Nat->Option (Option Nat)) (β:Nat->Option Nat) (a:Act) (w:World),(∀o b,pin o=some b->o<m)->a.tmps.size=n->RelF P w0 foot Y pin (look s.env) (hook s.heap) β a w->(∀k,Occ pin β k->k<s.nx)->
  c.wpIn (FR<|some l) 0 P (Lift P w0 foot Y pin n Q) a w
def AwpR.mono {Q'}(h:AwpR P n m c Q s)(i:∀e s,Q e s->Q' e s):AwpR P n m c Q' s:=
 λl w0 foot Y b β a w g d f j=>wpIn_mono (h l w0 foot Y b β a w g d f j)<|Lift.mono i
def AwpR.skip (h:Q .normal s):AwpR P n m .skip Q s:=λ_ _ _ _ _ β _ _ _ b d e=>wpIn_skip ⟨s,β,h,b,d,e⟩
def AwpR.ret (h:Q .ret s):AwpR P n m .ret Q s:=λ_ _ _ _ _ β _ _ _ b d e=>wpIn_ret ⟨s,β,h,b,d,e⟩
def AwpR.exit {i}(h:Q (.exit i) s):AwpR P n m (.exit i) Q s:=λ_ _ _ _ _ β _ _ _ b d e=>wpIn_exit ⟨s,β,h,b,d,e⟩
def AwpR.seq {d b}(h:AwpR P n m d (XM (AwpR P n m b Q) Q) s):AwpR P n m (.seq d b) Q s:=λl w0 foot Y f β a w o r A y=>by
 refine wpIn_seq<|wpIn_mono (h l w0 foot Y f β a w o r A y) λe z w' g=>?_;cases e with
 |normal=>let ⟨C,j,x,p,u,v⟩:=g;exact x l w0 foot Y f j z w' o p u v
 |exit i=>exact g
 |ret=>exact g
 |_=>exact g.elim
def AwpR.cond {x d b t}(o:ev s.env x=.c (.a<|.fz<|.bool t))(r:t=true->AwpR P n m d Q s)(p:t=false->AwpR P n m b Q s):AwpR P n m (.cond x d b) Q s:=λl w0 foot Y e β a w h g f j=>by
 have i:=f.eval x;rw[<-mb,o] at i;refine wpIn_cond (t:=t) i.bool_inv ?_;cases t with
 |true=>exact r rfl l w0 foot Y e β a w h g f j
 |false=>exact p rfl l w0 foot Y e β a w h g f j
def AwpR.block {i}(h:AwpR P n m c (yh i Q) s):AwpR P n m (.block i c) Q s:=λl w0 foot Y g β a w v u y x=>by
 refine wpIn_block<|wpIn_mono (h l w0 foot Y g β a w v u y x) λe z w' f=>?_;cases e with
 |normal=>exact f
 |exit j=>
  let ⟨r,b,d,p⟩:=f;simp[yh] at d;simp[Exit.inBlock];split at d;next o=>rw[EL o];exact⟨r,b,d,p⟩
  next o=>rw[EG o];exact⟨r,b,d,p⟩
 |ret=>exact f
 |_=>exact f.elim
def lift_out {w0 foot Y b}:¬LetsOut (Lift P w0 foot Y b n Q):=λ⟨_,_,h⟩=>h
def AwpR.region {i b d} (v:P.follows .mixedOrders=true) (hd:dstB b n=true) (g:vK b=true)
  (z:lex P b s.nx b.toList 0 s.env s.heap [] λe h x=>(d=true->Jj b x=true)/\Q .normal ⟨e,h,s.nx+32*b.size⟩):AwpR P n m (.region i b d) Q s:=λl w0 foot Y p β a w _ o D C=>by
 subst o;exact J6 (R:=Q .normal) v g lift_out hd z D C λA E w' f y j r u=>⟨A,f,y,j,r,u⟩
def AwpR.look {b e h nx}(g:look b=look e)(j:AwpR P n m c Q ⟨b,h,nx⟩):AwpR P n m c Q ⟨e,h,nx⟩:=λl w0 foot Y d β a w o f i p=>
 j l w0 foot Y d β a w o f (by show RelF _ _ _ _ _ _ _ _ _ _;rw[g];exact i) p
def AwpR.uneq (h:AwpR P n m c (eqQ Q) s):AwpR P n m c Q s:=λl w0 foot Y b β a w p o C y=>by
 refine wpIn_mono (h l w0 foot Y b β a w p o C y) λe g w' d=>?_;have key:∀x,At P w0 foot Y b n (eqQ Q x) g w'->At P w0 foot Y b n (Q x) g w':=by rintro x ⟨D,f,⟨z,v,j⟩,r,u,A⟩;exact⟨_,f,j,r,by show RelF _ _ _ _ _ _ _ _ _ _;rw[v];exact u,A⟩
 cases e with
 |normal=>exact key _ d
 |exit i=>exact key _ d
 |ret=>exact key _ d
 |_=>exact d.elim
end
def wN:Code->Bool
 |.skip=>true
 |.ret=>true
 |.exit _=>true
 |.seq a b=>wN a&&wN b
 |.cond _ a b=>wN a&&wN b
 |.block _ c=> !isLoop c&&wN c
 |.region _ ops _=>vK ops
 |_=>false
section
variable {P:Program} {sh:FuncId->List Sh} {n m:Nat}
def regR_inv (v:P.follows .mixedOrders=true){i f d K Q s}(j:vK f=true)(r:∀e s,K e s->Q e s)(h:regV P sh n f d K s):AwpR P n m (.region i f d) Q s:=by
 unfold regV at h;split at h
 .rename_i hd;refine AwpR.uneq<|AwpR.region v hd j ?_;have o:=vd rfl h;refine j6 ?_ o;rintro y o w ⟨p,u,b⟩;split at b
  .rename_i x;refine⟨λg=>?_,p,u,r _ _ b⟩;grind
  .exact b.elim
 .exact h.elim
def vF (o:P.follows .mixedOrders=true){G}:∀ {c} {K Q} {s},wN c=true->(∀e s,K e s->Q e s)->runV P sh n m [] G c K s->AwpR P n m c Q s
 |.skip,K,Q,s,_,g,h=>AwpR.skip<|g _ _ h
 |.ret,K,Q,s,_,g,h=>AwpR.ret<|g _ _ h
 |.exit i,K,Q,s,_,g,h=>AwpR.exit<|g _ _ h
 |.seq a b,K,Q,s,f,g,h=>by
  simp[wN,EN] at f;refine AwpR.seq<|vF o f.1 (λe s r=>?_) h;cases e with
  |normal=>exact vF o f.2 g r
  |exit i=>exact g _ s r
  |ret=>exact g _ s r
 |.cond x a b,K,Q,s,f,g,h=>by
  simp[wN,EN] at f;unfold runV condV at h;split at h
  .rename_i t p;split at h
   .rename_i w;have j:∀y,t=y->look ((w,bV y)::s.env)=look s.env:=λy v=>YZ (by simp[ev] at p;rw[p,v];rfl);cases t with
    |true=>exact AwpR.cond p (λ_=>AwpR.look (j _ rfl)<|vF o f.1 g h) (λe=>by cases e)
    |false=>exact AwpR.cond p (λe=>by cases e) λ_=>AwpR.look (j _ rfl)<|vF o f.2 g h
   .cases t with
    |true=>exact AwpR.cond p (λ_=>vF o f.1 g h) (λe=>by cases e)
    |false=>exact AwpR.cond p (λe=>by cases e) λ_=>vF o f.2 g h
  .exact h.elim
 |.block i c,K,Q,s,f,g,h=>by simp[wN,EN,SK] at f;unfold runV at h;rw[f.1] at h;exact AwpR.block<|vF o f.2 (xw g) h
 |.region i u d,K,Q,s,f,g,h=>by unfold runV at h;simp[zZ,G7] at h;exact regR_inv o f g h
 |.loop _,_,_,_,f,_,_=>by cases f
 |.rangeFunc ..,_,_,_,f,_,_=>by cases f
 |.scope _,_,_,_,f,_,_=>by cases f
 |.label _,_,_,_,f,_,_=>by cases f
 |.goto _,_,_,_,f,_,_=>by cases f
 |.refuse _,_,_,_,f,_,_=>by cases f
end
def AV.ren_id (x:AV):x.ren (λo=>o)=x:=by cases x<;>rfl
def jD {α:Type}{f}(h:∀x,f x=x)(l:List α):l.map f=l:=by rw[show f=id from funext h,List.map_id]
def WV.ren_id (x:WV):x.ren (λo=>o)=x:=by
 cases x with
 |a x=>simp[WV.ren,AV.ren_id]
 |fn f a b=>simp only[WV.ren];rw[jD (λp:Bool×List AV=>by rw[jD AV.ren_id]) a,jD (λp:Bool×List AV=>by rw[jD AV.ren_id]) b]
def TV.ren_id (x:TV):x.ren (λo=>o)=x:=by
 cases x with
 |any=>rfl
 |c x=>simp[TV.ren,WV.ren_id]
 |agg cs=>simp[TV.ren];rw[jD WV.ren_id]
 |tup vs=>simp[TV.ren];rw[jD (λp:Bool×List WV=>by rw[jD WV.ren_id]) vs]
def TRep.cut {w X β m x v}(h:TRep w X β x v)(d:x.lt m=true):TRep w X (cutβ (λo=>o) m β) x v:=by refine TRep.unmap (σ:=λo=>o) (m:=m) (β2:=β) (X2:=X) (λ_ _ h=>h) (λo b f e=>by simp[cutβ,f,S9];exact e) d ?_;rw[TV.ren_id];exact h
section
variable {P:Program} {w0:World} {foot:Nat->Prop} {Y:Nat->Prop} {pin:Nat->Option (Option Nat)} {e:Nat->TV} {h h':Nat->AObj} {β β':Nat->Option Nat} {a:Act} {W W':World} {m0:Nat}
def RelF.under (d:RelF P w0 foot Y pin e h β a W) (y:∀i,(e i).lt m0=true) (g:Good W (Own h β) W') (z:Objs h' β' Y W') (j:∀o b,isLive (h' o)->β' o=some b->Own h β b\/W.heap.size<=b)
  (A:∀o,o<m0->β' o=β o) (u:∀o b,pin o=some b->o<m0):RelF P w0 foot Y pin e h' β' a W':=by
 have old:∀b,Own h β b->foot b\/w0.heap.size<=b:=λb ⟨o,p,m⟩=>d.own o b p m;have gs:Goes W W' (XO Y h β) (XO Y h' β') (cutβ (λo=>o) m0 β) β':=by
  refine⟨g.size,λb r f=>⟨g.blk b f λv=>r<|.inr v,λw=>?_⟩,g.shp,λo b f=>?_⟩
  .rcases w with C|⟨o,p,m⟩
   .grind
   .grind
  .simp only[cutβ] at f;split at f;next v=>exact⟨zd,d.objs.lt o b f⟩
   .cases f
 refine⟨d.good.trans g λb f v=>?_,λi=>((d.env i).cut<|y i).goes gs,z,λo b p m=>?_,d.defers.good d.objs g,d.ylt,λo x r=>?_,d.gl⟩
 .grind
 .rcases j o b p m with h3|h3
  .grind
  .exact .inr<|SW d.good.size h3
 .rw[A o<|u o x r];exact d.pins o x r
end
abbrev bk0 (S I:TypeId):Array Oper:= #[
 ⟨some 4,.load S<|.tmp 1,S, "iter.go:28", #[],none⟩,
 ⟨some 5,.call ⟨.builtin .len, #[.tmp 4], #[S]⟩,I, "iter.go:28", #[⟨0,.data⟩],none⟩,
 ⟨some 6,.binOp .sub I (.tmp 5) (.const<|.int .i64 1) I,I, "iter.go:28", #[⟨1,.data⟩],none⟩,
 ⟨some 3,.assign<|.tmp 6,I, "iter.go:28", #[⟨2,.data⟩,⟨0,.phase⟩,⟨1,.phase⟩,⟨2,.phase⟩],none⟩]
abbrev bk1 (I B:TypeId):Array Oper:= #[
 ⟨some 7,.move<|.tmp 3,I, "iter.go:28", #[],none⟩,
 ⟨some 8,.binOp .geq I (.tmp 7) (.const<|.int .i64 0) I,B, "iter.go:28", #[⟨0,.data⟩],none⟩]
abbrev bk3a (S E Y I:TypeId):List Oper:=[
 ⟨some 11,.move<|.tmp 0,Y, "iter.go:29", #[],none⟩,
 ⟨some 12,.move<|.tmp 3,I, "iter.go:29", #[],none⟩,
 ⟨some 13,.load S<|.tmp 1,S, "iter.go:29", #[],none⟩,
 ⟨some 14,.move<|.tmp 3,I, "iter.go:29", #[],none⟩,
 ⟨some 15,.indexAddr S (.tmp 13)<|.tmp 14,0, "iter.go:29", #[⟨2,.data⟩,⟨3,.data⟩],none⟩,
 ⟨some 16,.load E<|.tmp 15,E, "iter.go:29", #[⟨4,.data⟩],none⟩]
abbrev bk3b (E I B:TypeId):List Oper:=[
 ⟨some 17,.call ⟨.value<|.tmp 11, #[.tmp 12,.tmp 16], #[I,E]⟩,B, "iter.go:29", #[⟨0,.data⟩,⟨1,.data⟩,⟨5,.data⟩],none⟩,
 ⟨some 18,.unOp .not B<|.tmp 17,B, "iter.go:29", #[⟨6,.data⟩],none⟩]
abbrev bk2 (I:TypeId):Array Oper:= #[
 ⟨some 9,.move<|.tmp 3,I, "iter.go:28", #[],none⟩,
 ⟨some 10,.binOp .sub I (.tmp 9) (.const<|.int .i64 1) I,I, "iter.go:28", #[⟨0,.data⟩],none⟩,
 ⟨some 3,.assign<|.tmp 10,I, "iter.go:28", #[⟨1,.data⟩,⟨0,.phase⟩,⟨1,.phase⟩],none⟩]
abbrev bkRound (S E Y I B:TypeId):Code:=
 .seq (.seq (.region 1 (bk1 I B) false)<|.cond (.tmp 8) .skip<|.exit 0)
  (.seq (.block 1<|.seq (.region 3 (bk3a S E Y I++bk3b E I B).toArray false)<|.cond (.tmp 18) .ret .skip)<|.region 2 (bk2 I) false)
def bkBody (S E Y I B:TypeId):Code:=.seq (.region 0 (bk0 S I) false)<|.block 0<|.loop<|bkRound S E Y I B
def IsBk (P:Program)(bk:FuncId)(S E:TypeId):Prop:=xp P bk=true/\∃(fn:Func) (Y I B:TypeId),P.funcs[bk]?=some fn/\fn.body=some (bkBody S E Y I B)/\fn.ntmps=19/\fn.results= #[]
section
variable {P:Program} {n:Nat} {ops:Array Oper} {Q:Exit->Act->World->Prop} {l:List Oper} {a:Act} {w:World}
def ym {d:Option Nat}{e t p f v}(b:∀c,e ≠ .defer c)(h:(execOp a.eval ⟨d,e,t,p,f,none⟩).run P w=.ok (.value v) w)(k:wpListIn Fence.wide n P ops Q l (a.put d v) w):wpListIn Fence.wide n P ops Q (⟨d,e,t,p,f,none⟩::l) a w:=by unfold wpListIn;refine⟨λ_ _=>trivial,?_⟩;rw[Oper.semAt_eq _ _ _ b,h];exact k
def Ya {d i:Nat}{v}:(a.put (some d) v).tmps.getD i undef=if i=d/\d<a.tmps.size then v else a.tmps.getD i undef:=by simp[Act.put,SB,GK];grind
def size_put {d:Option Nat}{v}:(a.put d v).tmps.size=a.tmps.size:=by cases d<;>simp[Act.put]
def lU {d:Option Nat}{v}:(a.put d v).defers=a.defers:=by cases d<;>rfl
def yc {t:Nat}:a.eval (.tmp t)=a.tmps.getD t undef:=rfl
def nF {I r}(x y):(do eqGuard .sub I x y (.int .i64 r) (.int .i64 1);binOp .sub I (.int .i64 r) (.int .i64 1):Sem Value).run P w=.ok (.int .i64<|IntKind.i64.wrap<|r-1) w:=by rfl
def run_geq {I r}(x y):(do eqGuard .geq I x y (.int .i64 r) (.int .i64 0);binOp .geq I (.int .i64 r) (.int .i64 0):Sem Value).run P w=.ok (.bool<|r>=0) w:=by rfl
end
structure Itf (a:Act)(yv bp:Value):Prop where
 size:a.tmps.size=19
 defers:a.defers=[]
 t0:a.tmps.getD 0 undef=yv
 t1:a.tmps.getD 1 undef=bp
def Itf.put {a b e}(h:Itf a b e){d:Nat}(hd:2<=d)(v):Itf (a.put (some d) v) b e:=
 ⟨by rw[size_put];exact h.size,by rw[lU];exact h.defers,by rw[Ya,EG za];exact h.t0,by rw[Ya,EG za];exact h.t1⟩
def JJ {P w s v}(h:s.run P w=.ok v w):(do pure (.value (<-s)):Sem Next).run P w=.ok (.value v) w:=by simp_all
section
variable {P:Program} {a:Act} {w:World} {d:Option Nat} {t I S:TypeId} {p:String} {af:Array Edge} {u v x:Value} {i j:Nat}
def xload (h:(Instr.loadAt S<|a.eval<|.tmp i).run P w=.ok v w):(execOp a.eval ⟨d,.load S<|.tmp i,t,p,af,none⟩).run P w=.ok (.value v) w:=JJ h
def xlen (h:(Builtin.len_ #[S] t #[a.eval<|.tmp i]).run P w=.ok v w):(execOp a.eval ⟨d,.call ⟨.builtin .len, #[.tmp i], #[S]⟩,t,p,af,none⟩).run P w=.ok (.value v) w:=by
 have e:(execOp a.eval ⟨d,.call ⟨.builtin .len, #[.tmp i], #[S]⟩,t,p,af,none⟩).run P w=(do pure (.value (<-Builtin.len_ #[S] t #[a.eval<|.tmp i])):Sem Next).run P w:=by simp[execOp,resolve,invoke,Sv,SC,Se,builtin,List.map_toArray,SA,List.map_nil]
 simp_all
def nc:(execOp a.eval ⟨d,.move<|.tmp i,t,p,af,none⟩).run P w=.ok (.value<|a.eval<|.tmp i) w:=rfl
def AH:(execOp a.eval ⟨d,.assign<|.tmp i,t,p,af,none⟩).run P w=.ok (.value<|a.eval<|.tmp i) w:=rfl
def xbin {b c}(h:(do eqGuard b I (.tmp i) (.const c) (a.eval<|.tmp i) c;binOp b I (a.eval<|.tmp i) c:Sem Value).run P w=.ok v w):(execOp a.eval ⟨d,.binOp b I (.tmp i) (.const c) I,t,p,af,none⟩).run P w=.ok (.value v) w:=by refine Eq.trans ?_<|JJ h;rfl
def xnot {b}(h:a.eval (.tmp i)=.bool b):(execOp a.eval ⟨d,.unOp .not I<|.tmp i,t,p,af,none⟩).run P w=.ok (.value<|.bool (!b)) w:=by
 have e:(Op.unary .not<|a.eval<|.tmp i).run P w=.ok (.bool (!b)) w:=by rw[h];rfl
 exact JJ e
def xindex (h:(Instr.indexAt S (a.eval<|.tmp i)<|a.eval<|.tmp j).run P w=.ok v w):(execOp a.eval ⟨d,.indexAddr S (.tmp i)<|.tmp j,t,p,af,none⟩).run P w=.ok (.value v) w:=JJ h
end
section
variable {P:Program} {n:Nat} {Q:Exit->Act->World->Prop} {a:Act} {w:World} {S E Yt I B:TypeId} {yv bp sv ev uv:Value}
def Itf.same {a}(h:Itf a yv bp){d:Nat}(hd:d<19)(v):(a.put (some d) v).tmps.getD d undef=v:=by rw[Ya,EL ⟨rfl,h.size▸hd⟩]
def zV {a:Act}{d i:Nat}(hd:i≠d)(v):(a.put (some d) v).tmps.getD i undef=a.tmps.getD i undef:=by rw[Ya,EG λh=>hd h.1]
def bk0_in {N:Nat} (g:Itf a yv bp) (r:(Instr.loadAt S bp).run P w=.ok sv w) (m:(Builtin.len_ #[S] I #[sv]).run P w=.ok (.int .i64 N) w)
  (k:∀e,Itf e yv bp->e.tmps.getD 3 undef=.int .i64 (IntKind.i64.wrap<|N-1)->Q .normal e w):(Code.region 0 (bk0 S I) false).wpIn Fence.wide n P Q a w:=by
 refine wpIn_region_list ?_;refine ym (v:=sv) zb (xload<|by rw[yc,g.t1];exact r) ?_;have b:=g.put (d:=4) za sv;have j:=g.same (d:=4) za sv;generalize a.put _ sv=o at b j ⊢;refine ym (v:=.int .i64 N) zb (xlen<|by rw[yc,j];exact m) ?_;have f:=b.put (d:=5) za<|.int .i64 N;have i:=b.same (d:=5) za<|.int .i64 N;generalize o.put _ _=u at f i ⊢;refine ym (v:=.int .i64<|IntKind.i64.wrap<|N-1) zb (xbin<|by rw[yc,i];exact nF _ _) ?_;have h:=f.put (d:=6) za<|.int .i64<|IntKind.i64.wrap<|N-1;refine ym zb AH ?_;rw[yc,(f.same (d:=6) za<|.int .i64<|IntKind.i64.wrap<|N-1)];exact k _ (h.put za _)<|h.same za _
def bk1_in {r} (g:Itf a yv bp) (e:a.tmps.getD 3 undef=.int .i64 r)
  (k:∀b,Itf b yv bp->b.tmps.getD 3 undef=.int .i64 r->b.tmps.getD 8 undef=.bool (r>=0)->Q .normal b w):(Code.region 1 (bk1 I B) false).wpIn Fence.wide n P Q a w:=by
 refine wpIn_region_list ?_;refine ym zb nc ?_;rw[yc,e];have f:=g.put (d:=7) za<|.int .i64 r;have i:(a.put (some 7)<|.int .i64 r).tmps.getD 3 undef=.int .i64 r:=(zV za _).trans e;exact ym (v:=.bool _) zb (xbin<|by rw[yc,(g.same (d:=7) za<|.int .i64 r)];exact run_geq _ _)<|k _ (f.put za _) ((zV za _).trans i)<|f.same za _
def bk2_in {r} (i:Itf a yv bp) (j:a.tmps.getD 3 undef=.int .i64 r)
  (k:∀f,Itf f yv bp->f.tmps.getD 3 undef=.int .i64 (IntKind.i64.wrap<|r-1)->Q .normal f w):(Code.region 2 (bk2 I) false).wpIn Fence.wide n P Q a w:=by
 refine wpIn_region_list ?_;refine ym zb nc ?_;rw[yc,j];have b:=i.put (d:=9) za<|.int .i64 r;have g:=i.same (d:=9) za<|.int .i64 r;generalize a.put _ _=m at b g ⊢;refine ym (v:=.int .i64 _) zb (xbin<|by rw[yc,g];exact nF _ _) ?_;have h:=b.put (d:=10) za<|.int .i64<|IntKind.i64.wrap<|r-1;refine ym zb AH ?_;rw[yc,(b.same (d:=10) za<|.int .i64<|IntKind.i64.wrap<|r-1)];exact k _ (h.put za _)<|h.same za _
def bk3_in {r:Int} {l:Nat} {lp:Loop} {R:World->Prop} (U:yv=.func (.yield l) #[] #[]) (T:Itf a yv bp) (m:a.tmps.getD 3 undef=.int .i64 r)
  (hl:(Instr.loadAt S bp).run P w=.ok sv w) (hx:(Instr.indexAt S sv<|.int .i64 r).run P w=.ok ev w) (he:(Instr.loadAt E ev).run P w=.ok uv w) (M:w.heap[l]?=some (.loop lp)) (Y:lp.params.size=2)
  (Z:RoundIn Fence.wide (n-1) P l lp.fn ((lp.params.zip #[.int .i64 r,uv]).foldl (λtmps (t,a)=>tmps.setIfInBounds t a) lp.tmps) lp.assign lp.body w λe w'=>e=.returned (.bool true)/\R w')
  (k:∀D w',Itf D yv bp->D.tmps.getD 3 undef=.int .i64 r->D.tmps.getD 18 undef=.bool false->R w'->Q .normal D w'):(Code.region 3 (bk3a S E Yt I++bk3b E I B).toArray false).wpIn Fence.wide n P Q a w:=by
 refine wpIn_region_list ?_;refine ym zb nc ?_;rw[yc,T.t0];have N:=T.put (d:=11) za yv;have b:=T.same (d:=11) za yv;have g:(a.put (some 11) yv).tmps.getD 3 undef=.int .i64 r:=(zV za _).trans m;generalize a.put (some 11) yv=J at N b g ⊢;refine ym zb nc ?_;rw[yc,g];have G:=N.put (d:=12) za<|.int .i64 r;have f:=N.same (d:=12) za<|.int .i64 r
 replace b:=(zV (a:=J) (d:=12) (i:=11) za<|.int .i64 r).trans b
 replace g:=(zV (a:=J) (d:=12) (i:=3) za<|.int .i64 r).trans g;generalize J.put (some 12) (.int .i64 r)=F at G f b g ⊢;refine ym (v:=sv) zb (xload<|by rw[yc,G.t1];exact hl) ?_;have m:=G.put (d:=13) za sv;have j:=G.same (d:=13) za sv
 replace b:=(zV (a:=F) (d:=13) (i:=11) za sv).trans b
 replace f:=(zV (a:=F) (d:=13) (i:=12) za sv).trans f
 replace g:=(zV (a:=F) (d:=13) (i:=3) za sv).trans g;generalize F.put (some 13) sv=x at m j f b g ⊢;refine ym zb nc ?_;rw[yc,g];have L:=m.put (d:=14) za<|.int .i64 r;have z:=m.same (d:=14) za<|.int .i64 r
 replace b:=(zV (a:=x) (d:=14) (i:=11) za<|.int .i64 r).trans b
 replace f:=(zV (a:=x) (d:=14) (i:=12) za<|.int .i64 r).trans f
 replace j:=(zV (a:=x) (d:=14) (i:=13) za<|.int .i64 r).trans j
 replace g:=(zV (a:=x) (d:=14) (i:=3) za<|.int .i64 r).trans g;generalize x.put (some 14) (.int .i64 r)=H at L z j f b g ⊢;refine ym (v:=ev) zb (xindex<|by rw[yc,yc,j,z];exact hx) ?_;have K:=L.put (d:=15) za ev;have u:=L.same (d:=15) za ev
 replace b:=(zV (a:=H) (d:=15) (i:=11) za ev).trans b
 replace f:=(zV (a:=H) (d:=15) (i:=12) za ev).trans f
 replace g:=(zV (a:=H) (d:=15) (i:=3) za ev).trans g;generalize H.put (some 15) ev=C at K u f b g ⊢;refine ym (v:=uv) zb (xload<|by rw[yc,u];exact he) ?_;have O:=K.put (d:=16) za uv;have o:=K.same (d:=16) za uv
 replace b:=(zV (a:=C) (d:=16) (i:=11) za uv).trans b
 replace f:=(zV (a:=C) (d:=16) (i:=12) za uv).trans f
 replace g:=(zV (a:=C) (d:=16) (i:=3) za uv).trans g;generalize C.put (some 16) uv=y at O o f b g ⊢;show wpListIn Fence.wide n P _ Q (bk3b E I B) y w;unfold bk3b wpListIn;refine⟨λ_ _=>trivial,?_⟩;rw[Oper.semAt_eq _ _ _ zb];have p:(execOp y.eval ⟨some 17,.call ⟨.value<|.tmp 11, #[.tmp 12,.tmp 16], #[I,E]⟩,B, "iter.go:29", #[⟨0,.data⟩,⟨1,.data⟩,⟨5,.data⟩],none⟩).run P w=.ok (.round l lp.fn ((lp.params.zip #[.int .i64 r,uv]).foldl (λtmps (t,a)=>tmps.setIfInBounds t a) lp.tmps) lp.assign lp.body) w:=by
  have X:y.eval (.tmp 11)=.func (.yield l) #[] #[]:=by rw[yc,b,U]
  have hy:=run_yield (P:=P) (w:=w) (l:=l) (r:=lp) (args:= #[.int .i64 r,uv]) M zd;simp only[execOp,resolve,Deferred.ofValue,X,invoke,callFunc,Sv,SC,Se,List.map_toArray,SA,List.map_nil,yc,f,o];grind
 rw[p];refine⟨λh=>(by simp[Fence.wide] at h),Z.mono ?_⟩;rintro e w' ⟨rfl,hw⟩;have W:=O.put (d:=17) za<|.bool true;have V:=O.same (d:=17) za<|.bool true
 replace g:=(zV (a:=y) (d:=17) (i:=3) za<|.bool true).trans g;show wpListIn _ _ _ _ _ _ (y.put (some 17)<|.bool true) w';refine ym (v:=.bool (!true)) zb (xnot<|by rw[yc,V]) ?_;exact k _ _ (W.put za _) ((zV za _).trans g) (W.same za _) hw
end
def oq {w0 w f l r o}(m:Marks w0 w f)(j:w.heap[l]?=some (.loop r)):Marks w0 (w.putObj l o) f:=by let ⟨Ds,g,i,d⟩:=m;refine⟨Ds,g,i,λD hD=>⟨(d D hD).1,?_⟩⟩;have b:D≠l:=λe=>zd;rw[World.putObj_heap_other b];exact((d D hD).2)
section
variable {P:Program} {w0:World} {foot:Nat->Prop} {Y:Nat->Prop} {pin pin':Nat->Option (Option Nat)} {e:Nat->TV} {h:Nat->AObj} {β:Nat->Option Nat} {a:Act} {w:World} {l:Nat} {r:Loop}
def RelF.turn (d:RelF P w0 foot Y pin e h β a w)(b:w.heap[l]?=some (.loop r))(f:w0.heap.size<=l)(o):RelF P w0 foot Y pin e h β a (w.putObj l o):=
 RelF.calm (Calm.put (YW b) f) d (oq d.defers b)
def gl_put (f:Gl P w foot)(i:w.heap[l]?=some (.loop r))(o):Gl P (w.putObj l o) foot:=λk e=>by
 let ⟨d,g,h⟩:=f k e;refine⟨?_,g,by simp_all⟩;unfold Lib.TabIs World.var? at*;rw[e] at d ⊢;simp[Gv] at d ⊢;by_cases b:k=l
 .grind
 .rw[World.putObj_heap_other b];exact d
def RelF.rebase (d:RelF P w0 foot Y pin e h β a w)(hd:a.defers=[])(p:∀o x,pin' o=some x->β o=x)(f:w.heap[l]?=some (.loop r))(o:Obj):
  RelF P (w.putObj l o) (Own h β) Y pin' e h β a (w.putObj l o):=by
 have c:Calm {w with heap:= #[]} w (w.putObj l o):=Calm.put (YW f)<|SQ _;exact⟨⟨EI _,λ_ _ _=>rfl,λ_ _=>rfl,rfl,rfl,rfl⟩,λi=>TRep.calm c<|d.env i,Objs.calm c d.objs,λo b j g=>.inl ⟨o,j,g⟩,hd▸Marks.nil _ _,λb m=>by rw[World.putObj_size];exact d.y b m,p,gl_put d.now f o⟩
def RelF.notOwn (f:RelF P w0 foot Y pin e h β a w)(d:w.heap[l]?=some (.loop r)):¬Own h β l:=λg=>by rcases f.objs.own_heap g with⟨i,t,b⟩|⟨ms,j,b⟩<;>rw[d] at b<;>cases b
end
structure Out (P:Program)(w0:World)(foot Y:Nat->Prop)(pin:Nat->Option (Option Nat))(env:Env)(m0:Nat)(a:Act)(β0:Nat->Option Nat)(l:Nat)(lp:Loop)(Hx:AHeap)(nxx:Nat)(w:World):Prop where
 ex:∃β,RelF P w0 foot Y pin (look env) (hook Hx) β a w/\(∀k,Occ pin β k->k<nxx)/\∀o,o<m0->β o=β0 o
 lp:w.heap[l]?=some (.loop lp)
def mm {env m0}(h:∀p∈env,p.2.lt m0=true)(i):(look env i).lt m0=true:=by
 rcases JO (l:=env) (i:=i) with h1|h1
 .rw[h1];rfl
 .grind
section
variable {P:Program} {w0:World} {foot Y:Nat->Prop} {pin:Nat->Option (Option Nat)} {env:Env} {m0 n:Nat} {a:Act} {β0:Nat->Option Nat} {l:Nat} {lp:Loop}
variable {α:Type} {H:α->AHeap} {nx:α->Nat} {Next:α->Prop}
def tB {x:α} {w:World} {k m F:Nat} {A body:Code} {v:TV} {L:Value}
  {β:Nat->Option Nat} (M:RelF P w0 foot Y pin (look env) (hook<|H x) β a w) (hb:∀k,Occ pin β k->k<nx x) (hβ:∀o,o<m0->β o=β0 o) (I:w.heap[l]?=some (.loop lp)) (S:w0.heap.size<=l) (G:∀p∈env,p.2.lt m0=true) (J:∀o b,pin o=some b->o<m0) (hm0:m0<=nx x) (hmx:∀x,Next x->m0<=nx x) (hn:a.tmps.size=n)
  (htm:lp.tmps=a.tmps) (hpa:lp.params= #[m,F]) (has:lp.assign=A) (hbo:lp.body=body) (hst:lp.state=.ready) (hpe:lp.pending=none)
  (hp1:m<n) (hp2:F<n)
  (hvr:TRep w (XO Y (hook<|H x) β) β v L)
  (u:AsgS P n A ⟨(F,v)::(m,iV k)::env,H x,nx x⟩ λs=>AwpR P n m0 body (λex s'=>ex=.normal/\∃r,Next r/\Sle m0 s' ⟨[],H r,nx r⟩) s):
  RoundIn Fence.wide 0 P l lp.fn ((lp.params.zip #[.int .i64 k,L]).foldl (λtmps (t,a)=>tmps.setIfInBounds t a) lp.tmps) lp.assign lp.body w (λe w'=>e=.returned (.bool true)/\∃r,Next r/\Out P w0 foot Y pin env m0 a β0 l lp (H r) (nx r) w'):=by
 have hlw:l<w.heap.size:=(ST.1 I).1;let pin':Nat->Option (Option Nat):=λo=>if o<m0 then some (β o) else none
 have j:∀o b,pin' o=some b->o<m0:=λo b h=>by grind
 have z:∀ {O:Nat->Option Nat},(∀o x,pin' o=some x->O o=x)->∀o,o<m0->O o=β o:=λhp o ho=>hp o (β o) zd;refine roundIn_of_wpIn trivial ?_;rw[has,hbo,hpa,htm];have etm:((#[m,F]:Array Nat).zip #[.int .i64 k,L]).foldl (λtmps (t,a)=>tmps.setIfInBounds t a) a.tmps=(a.tmps.setIfInBounds m<|.int .i64 k).setIfInBounds F L:=zb;rw[etm];have X:((a.tmps.setIfInBounds m<|.int .i64 k).setIfInBounds F L).size=n:=zd;have hR1:RelF P w (Own (hook<|H x) β) Y pin' (look<|(F,v)::(m,iV k)::env) (hook<|H x) β {tmps:=(a.tmps.setIfInBounds m<|.int .i64 k).setIfInBounds F L,defers:=[]} w:=by
  refine⟨⟨EI _,λ_ _ _=>rfl,λ_ _=>rfl,rfl,rfl,rfl⟩,λi=>?_,M.objs,λo b V W=>.inl ⟨o,V,W⟩,Marks.nil _ _,M.y,λo x hx=>?_,M.now⟩
  .simp only[look,SB,GK,Array.size_setIfInBounds];by_cases W:F=i
   .grind
   .simp only[W,Sj];by_cases V:m=i
    .subst V;simp only[S9,(za:m<a.tmps.size)];exact .int_mk _ _
    .simp only[V,Sj];have:=M.env i;simp_all
  .grind
 refine u w _ _ _ (some l) _ β _ w _ (λ⟨_,_,h⟩=>h) X hR1 (λo ho=>?_) λs1 a1 w1 β1 hA hs1 Z d hb1=>?_
 .rcases ho with ho|ho
  .exact hb o<|.inl ho
  .grind
 .have hl1:w1.heap[l]?=some (.loop lp):=(d.good.blk l hlw<|M.notOwn I).trans I;refine⟨_,run_beginRound hl1 hst,?_⟩;have T:=d.rebase (pin':=pin') Z d.pins hl1<|.loop {lp with state:=.busy};refine wpIn_mono (hA l _ _ Y pin' β1 a1 _ j hs1 T hb1) λex a2 w2 C=>?_;cases ex with
  |normal=>
   obtain⟨s2,β2,⟨_,r,U,N⟩,W,h3,h4⟩:=C;obtain⟨β3,f,hb3⟩:=JV N j h3;have g:(w1.putObj l<|.loop {lp with state:=.busy}).heap[l]?=some (.loop {lp with state:=.busy}):=World.putObj_heap_same (ST.1 hl1).1;have K:w2.heap[l]?=some (.loop {lp with state:=.busy}):=(f.good.blk l (ST.1 g).1<|T.notOwn g).trans g;refine⟨_,_,run_endRound none K,rfl,r,U,⟨β3,?_,λo ho=>?_,λo ho=>?_⟩,?_⟩
   .have U1:=M.under (λi=>mm G i) d.good d.objs d.own (z d.pins) J;exact((U1.turn hl1 S<|.loop {lp with state:=.busy}).under (λi=>mm G i) f.good f.objs f.own (λo ho=>(z f.pins o ho).trans (z d.pins o ho).symm) J).turn K S _
   .rcases ho with ho|ho
    .exact hb3 o<|.inl ho
    .cases C:pin o with
     |none=>exact absurd C ho
     |some b=>have:=J o b C;have:=hmx r U;omega
   .exact(z f.pins o ho).trans<|hβ o ho
   .rw[World.putObj_heap_same (ST.1 K).1];cases lp;grind
  |ret=>obtain⟨_,_,⟨h,_⟩,_⟩:=C;cases h
  |exit i=>obtain⟨_,_,⟨h,_⟩,_⟩:=C;cases h
  |goto t=>exact C.elim
  |panic c=>exact C.elim
  |outgrown=>exact C.elim
end
def len_run {P w X β t e ty d x u N rd}(hd:tyOf P t=some d)(p:d.kind=.slice e)(j:TRep w X β x u)(g:XN x=some (N,rd)):(Builtin.len_ #[t] ty #[u]).run P w=.ok (.int .i64 N) w:=by
 have i:=yW hd p;unfold XN at g;split at g
 .injection g with g;injection g with h m;subst h;rw[j.nils_inv];simp[Builtin.len_,EZ i,goInt]
 .injection g with g;injection g with h m;subst h
  cases j.fz_inv with
  |slnil=>simp[Builtin.len_,EZ i,goInt]
  |sl0 _ _ a=>simp[Builtin.len_,EZ i,goInt]
  |sl _ _ _ b v cap o f r=>subst r;simp[Builtin.len_,EZ i,goInt]
 .injection g with g;injection g with h m;subst h
  cases j.fz_inv with
  |z0 _ a=>simp[Builtin.len_,EZ i,goInt]
  |z0n=>simp[Builtin.len_,EZ i,goInt]
 .injection g with g;injection g with h m;subst h
  obtain⟨b,q,cap,sz,y,_,_,_,_,_,rfl⟩|⟨rfl,rfl⟩:=j.osl_inv
  .simp[Builtin.len_,EZ i,goInt]
  .simp[Builtin.len_,EZ i,goInt]
 .cases g
def i64_id {x}(d: -9223372036854775808<=x)(b:x<=9223372036854775807):wrap .i64 x=x:=Go.IntWalk.i64_in _ ⟨d,b⟩
section
variable {P:Program} {w0:World} {foot Y:Nat->Prop} {pin:Nat->Option (Option Nat)} {e:Nat->TV} {h:AHeap} {β:Nat->Option Nat} {a:Act} {w:World}
def RelF.load {S f x u r}(j:RelF P w0 foot Y pin e (hook h) β a w)(m:tyOf P S=some f)(d:TRep w (XO Y (hook h) β) β x u)(g:wD f (λo=>flat<|hook h o) x=some r):
  ∃v,(Instr.loadAt S u).run P w=.ok v w/\TRep w (XO Y (hook h) β) β r.1 v:=by
 have b:∀o,flat _=flat (hook h o):=λo=>vo _;rw[<-Yv (h':=λo=>flat _) b] at d ⊢;exact Kl (P:=P) (qt (h':=λo=>flat _) b j.objs) m d g
end
def itf0 (y b):Itf {tmps:= #[y,b]++Array.replicate (19-(#[y,b]).size) undef,defers:=[]} y b:=
 ⟨zb,rfl,zb,zb⟩
def lG {P:Program} {n m m0:Nat} {env:Env} {α:Type} {H:α->AHeap} {nx:α->Nat} {Inv:α->Prop} {idx:α->Nat} {y v:α->TV} {bk:FuncId} {S E:TypeId} {dS dE:TyD} {g:Operand} {p1 p2:Nat} {A body:Code} {Q:AExit->St->Prop} {N oc:Nat} {xs:TV} {x0:α} {rdn:List Nat}
  (hbk:IsBk P bk S E) (hS:tyOf P S=some dS) (hk:dS.kind=.slice E) (hE:tyOf P E=some dE) (hm:m<=m0) (henv:∀p∈env,p.2.lt m0=true)
  (hg:ev env g=.c (.fn (.func bk) [] [(false,[.ep oc 1 0 0])])) (hoc:oc<m0) (hnx:∀x,Inv x->m0<=nx x)
  (hbox:∀x,Inv x->∃rd,wD dS (λo=>flat<|hook (H x) o) (.c<|.a<|.ep oc 1 0 0)=some (xs,rd)) (hlen:XN xs=some (N,rdn)) (hN:N<9223372036854775808)
  (hel:∀x k,Inv x->idx x=k+1->∃rd,yJ P dS xs (iV k)=some (y x)/\wD dE (λo=>flat<|hook (H x) o) (y x)=some (v x,rd))
  (hp1:p1<n) (hp2:p2<n)
  (M:∀x k,Inv x->idx x=k+1->AsgS P n A ⟨(p2,v x)::(p1,iV k)::env,H x,nx x⟩ λs=>AwpR P n m0 body (λex s'=>ex=.normal/\∃u,(Inv u/\idx u=k)/\Sle m0 s' ⟨[],H u,nx u⟩) s)
  (hx0:Inv x0) (hi0:idx x0=N) (hdone:∀x,Inv x->idx x=0->Q .normal ⟨env,H x,nx x⟩):
  Awp P n m (.rangeFunc g #[p1,p2] A body) Q ⟨env,H x0,nx x0⟩:=λw0 foot Y d β a w hpm hn hR hb=>by
 obtain⟨j,fn,Yt,I,B,hfn,J,hnt,hres⟩:=hbk;refine(wpIn_wide (n:=0)).1<|wpIn_rangeFunc λfid _=>?_;have hv:=hR.eval g;rw[<-mb,hg] at hv;generalize hav:a.eval g=av at hv;cases hv with
 |fn _ _ _ us vs hl1 hl2=>
 have hus:us=[]:=hl1.nil_inv;subst hus;obtain⟨e,vs',rfl,hp,hvs⟩:=hl2.cons_inv;have hvs':vs'=[]:=hvs.nil_inv;subst hvs';obtain⟨qs,rfl,hq,h1⟩:=hp;have h1:=h1 rfl;obtain⟨e,qs',rfl,hbp,hqs⟩:=hq.cons_inv;have hqs':qs'=[]:=hqs.nil_inv;subst hqs';have hbpR:ARep w (XO Y (hook<|H x0) β) β (.ep oc 1 0 0) e:=hbp;have C:=hR.good.size;let l:=w.heap.size+1;let lp:Loop:={state:=.ready,pending:=none,fn:=fid,tmps:=a.tmps,params:= #[p1,p2],assign:=A,body:=body,defers:=w.heap.size};let w1:=(w.alloc<|.deferred<|some []).alloc<|.loop lp;have hl1:w1.heap[l]?=some (.loop lp):=by have:=World.alloc_heap_new (w.alloc<|.deferred<|some [])<|.loop lp;rwa [World.size_alloc] at this
 have hD1:w1.heap[w.heap.size]?=some (.deferred<|some []):=by show((w.heap.push _).push _)[w.heap.size]?=_;grind
 have c1:Calm w0 w w1:=(Calm.alloc w0 w _ C).trans<|Calm.alloc w0 _ _<|by rw[World.size_alloc];omega
 have old1:∀b,b<w.heap.size->w1.heap[b]?=w.heap[b]? :=λb hb=>by show((w.heap.push _).push _)[b]?=_;grind
 obtain⟨Ds,hds,Z,z⟩:=hR.defers;have hm1:Marks w0 w1 a.defers:=⟨Ds,hds,Z,λD hD=>⟨(z D hD).1,by rw[old1 D (ST.1 (z D hD).2).1];exact(z D hD).2⟩⟩;have i:RelF P w0 foot Y d (look env) (hook<|H x0) β a w1:=RelF.calm c1 hR hm1;have hR1:RelF P w0 foot Y d (look env) (hook<|H x0) β {a with defers:=mark w.heap.size::a.defers} w1:=by
  refine⟨i.good,i.env,i.objs,i.own,⟨w.heap.size::Ds,by rw[hds];rfl,SV.2 ⟨λhD=>?_,Z⟩,λD hD=>?_⟩,i.ylt,i.pins,i.gl⟩
  .grind
  .rcases S4.1 hD with rfl|hD
   .exact⟨C,hD1⟩
   .exact⟨(z D hD).1,by rw[old1 D (ST.1 (z D hD).2).1];exact(z D hD).2⟩
 have hO0:Out P w0 foot Y d env m0 {a with defers:=mark w.heap.size::a.defers} β l lp (H x0) (nx x0) w1:=⟨⟨β,hR1,hb,λ_ _=>rfl⟩,hl1⟩;have hl0:w0.heap.size<=l:=za;have hav':a.eval g=.func (.func bk) #[] #[e]:=hav;have hres1:(resolve a.eval (rangeCall g l) 0).run P w1=.ok {target:=.fn (.func bk) #[e],args:= #[.func (.yield l) #[] #[]]} w1:=by simp only[resolve,Deferred.ofValue,hav',SC,List.map_toArray,SA,List.map_nil,show a.eval (.const<|.func (.yield l) #[] #[])=.func (.yield l) #[] #[] from rfl];simp
 have hinv1:(invoke (.fn (.func bk) #[e]) #[.func (.yield l) #[] #[]]).run P w1=.ok (.enter bk #[.func (.yield l) #[] #[],e]) w1:=by
  unfold xp at j;rw[hfn] at j;simp only[EN,SK,beq_eq_false_iff_ne] at j;have hb:fn.body.isNone=false:=by rw[J];rfl
  simp only[invoke,callFunc,Sv,SC,Se,run_program,hfn,beq_eq_false_iff_ne.2 j.1,S5,Sj,hb];rfl
 refine⟨l,[mark w.heap.size],w1,_,w1,bk, #[.func (.yield l) #[] #[],e],w1,run_enterLoop_outer fid a.tmps #[p1,p2] _ body,hres1,λ_ _=>trivial,hinv1,λh=>absurd h zc,?_⟩;refine callsIn_of_wp hfn J trivial ?_;have V:Itf {tmps:= #[.func (.yield l) #[] #[],e]++Array.replicate (fn.ntmps-(#[.func (.yield l) #[] #[],e]:Array Value).size) undef,defers:=[]} (.func (.yield l) #[] #[]) e:=by rw[hnt];exact itf0 _ _
 generalize ({tmps:= #[.func (.yield l) #[] #[],e]++Array.replicate (fn.ntmps-(#[.func (.yield l) #[] #[],e]:Array Value).size) undef,defers:=[]}:Act)=a0 at V ⊢;have hend:∀x W O,Inv x->idx x=0->Itf O (.func (.yield l) #[] #[]) e->Out P w0 foot Y d env m0 {a with defers:=mark w.heap.size::a.defers} β l lp (H x) (nx x) W->bodyPost P fn (rangePost Fence.wide 0 P l (Lift P w0 foot Y d n Q) {a with defers:=[mark w.heap.size]++a.defers}) .normal O W:=by intro x W O T f hi2 L;refine⟨hi2.defers,.tuple #[],by simp[results,hres],?_⟩;obtain⟨β2,G,hb2,_⟩:=L.ex;exact⟨none,_,run_endLoop L.lp<|by simp[lp],⟨_,β2,hdone x T f,hn,G.turn L.lp hl0 _,hb2⟩⟩
 have K:∀x W,Inv x->Out P w0 foot Y d env m0 {a with defers:=mark w.heap.size::a.defers} β l lp (H x) (nx x) W->∃β2 sv,RelF P w0 foot Y d (look env) (hook<|H x) β2 {a with defers:=mark w.heap.size::a.defers} W/\(∀k,Occ d β2 k->k<nx x)/\(∀o,o<m0->β2 o=β o)/\(Instr.loadAt S e).run P W=.ok sv W/\TRep W (XO Y (hook<|H x) β2) β2 xs sv:=by
  intro x W T L;obtain⟨β2,G,hb2,X⟩:=L.ex;obtain⟨rd,F⟩:=hbox x T;have hep:TRep W (XO Y (hook<|H x) β2) β2 (.c<|.a<|.ep oc 1 0 0) e:=by
   refine .a _ _ ?_;cases hbpR with
   |ep _ _ _ _ b hb=>exact .ep _ _ _ _ b<|(X oc hoc).trans hb
  obtain⟨sv,h1,h2⟩:=G.load hS hep F;exact⟨β2,sv,G,hb2,X,h1,h2⟩
 obtain⟨β2,sv,G,_,_,F,hxs⟩:=K x0 w1 hx0 hO0;refine wpIn_seq<|bk0_in V F (len_run hS hk hxs hlen) λa1 hi1 h31=>?_;rw[i64_id za za] at h31
 refine wpIn_block (wpIn_loop (λO W=> ∃x,Inv x/\idx x<=N/\Itf O (.func (.yield l) #[] #[]) e/\O.tmps.getD 3 undef=.int .i64 ((idx x:Int)-1)/\Out P w0 foot Y d env m0 {a with defers:=mark w.heap.size::a.defers} β l lp (H x) (nx x) W)
  (λO _=>match O.tmps.getD 3 undef with|.int _ r=>(r+1).toNat|_=>0) ⟨x0,hx0,za,hi1,by rw[hi0];exact h31,hO0⟩ ?_)
 rintro O W ⟨x,T,hle,hi2,U,L⟩;refine wpIn_seq<|wpIn_seq<|bk1_in hi2 U λa3 hi3 h33 h8=>?_;cases f:idx x with
 |zero=>refine wpIn_cond_false (by rw[yc,h8,f];rfl)<|wpIn_exit ?_;simp only[Exit.then,Exit.inBlock,S9];exact hend x W a3 T f hi3 L
 |succ k=>
  rw[f] at h33 U h8;have ek:((k+1:Nat):Int)-1=(k:Int):=za;rw[ek] at h33 U h8;refine wpIn_cond_true (by rw[yc,h8];simp)<|wpIn_skip ?_;obtain⟨β3,sv,hR3,hb3,hβ3,F,hxs⟩:=K x W T L;obtain⟨rd,hixa,hlde⟩:=hel x k T f;obtain⟨ev,hev,hevr⟩:=jj hS hixa hxs<|.int_mk _ _;obtain⟨uv,huv,huvr⟩:=hR3.load hE hevr hlde
  refine wpIn_seq (wpIn_block (wpIn_seq (bk3_in (lp:=lp) (R:=λW'=> ∃u,(Inv u/\idx u=k)/\Out P w0 foot Y d env m0 {a with defers:=mark w.heap.size::a.defers} β l lp (H u) (nx u) W') rfl hi3 h33 F hev huv L.lp rfl
   (tB (v:=v x) hR3 hb3 hβ3 L.lp hl0 henv (λo b hq=>SM (hpm o b hq) hm) (hnx x T) (λu hx'=>hnx u hx'.1) hn rfl rfl rfl rfl rfl rfl hp1 hp2 huvr (M x k T f)) λa4 W' hi4 h34 h18 ⟨u,⟨hx',hix'⟩,hO'⟩=>?_)))
  .refine wpIn_cond_false (by rw[yc,h18])<|wpIn_skip ?_;refine bk2_in hi4 h34 λa5 hi5 h35=>?_;rw[i64_id za za] at h35;refine⟨⟨u,hx',za,hi5,by rw[hix'];exact h35,hO'⟩,?_⟩;simp only[h35,U];omega
def ctxQ (P:Program)(n m:Nat):Code->Nat->(AExit->St->Prop)->(AExit->St->Prop)
 |.seq a b,p,Q=>if (pts a).contains p then ctxQ P n m a p (XM (Awp P n m b Q) Q) else ctxQ P n m b p Q
 |.cond _ a b,p,Q=>if (pts a).contains p then ctxQ P n m a p Q else ctxQ P n m b p Q
 |.block i c,p,Q=>if p=2*i+1 then Q else ctxQ P n m c p<|yh i Q
 |.loop c,p,Q=>ctxQ P n m c p<|XM (Alwp P n m c Q) Q
 |_,_,Q=>Q
def rngP:Code->Option (Operand×Nat×Nat×Code×Code)
 |.rangeFunc g ps A b=>match ps.toList with
  |[p1,p2]=>some (g,p1,p2,A,b)
  |_=>none
 |_=>none
def rngP_inv {c g e f A b}(h:rngP c=some (g,e,f,A,b)):c=.rangeFunc g #[e,f] A b:=by
 unfold rngP at h;split at h
 .rename_i o m A' p;split at h
  .rename_i i j d;injection h with h
   simp[Sr] at h;obtain⟨rfl,rfl,rfl,rfl,rfl⟩:=h;have:m= #[i,j]:=zd;rw[this]
  .cases h
 .cases h
def asgB (n:Nat):Code->Bool
 |.region _ ops false=>vK ops&&dstB ops n
 |.seq (.region _ ops false) (.region _ ops' false)=>(vK ops&&dstB ops n)&&(vK ops'&&dstB ops' n)
 |_=>false
def asgV (P:Program)(sh:FuncId->List Sh)(n:Nat)(A:Code)(K:AExit->St->Prop)(s:St):Prop:=
 match A with
 |.region _ ops _=>regV P sh n ops false K s
 |.seq (.region _ ops _) (.region _ ops' _)=>regV P sh n ops false (XP (regV P sh n ops' false K) λ_ _=>False) s
 |_=>False
def JC {P sh n id b K s R}(i:vK b=true)(f:dstB b n=true)(h:regV P sh n b false K s)(m:∀g,K .normal g->∀e,look g.env=look e->R ⟨e,g.heap,g.nx⟩):AsgS P n (.region id b false) s R:=by
 unfold regV at h;split at h
 .refine AsgS.region i f<|j6 ?_<|vd rfl h;grind
 .exact h.elim
def Zb:Code->Nat->Option (Operand×Nat×Nat×Code×Code)
 |.seq a b,p=>if (pts a).contains p then Zb a p else Zb b p
 |.cond _ a b,p=>if (pts a).contains p then Zb a p else Zb b p
 |.block i c,p=>if p=2*i+1 then rngP c else Zb c p
 |.loop c,p=>Zb c p
 |_,_=>none
section
variable {P:Program} {n m:Nat}
def uE {g f j A y s}:∀ {c} {p} {Q},Zb c p=some (g,f,j,A,y)->(∀i,Awp P n m (.rangeFunc g #[f,j] A y) (yh i<|ctxQ P n m c p Q) s)->rz P n m c p Q s
 |.seq a b,p,Q,d,h=>by
  unfold Zb at d;unfold rz;unfold ctxQ at h;split;next e=>rw[EL e] at d;simp only[e,S9] at h;exact uE d h
  next e=>rw[EG e] at d;simp only[e] at h;exact uE d h
 |.cond _ a b,p,Q,d,h=>by
  unfold Zb at d;unfold rz;unfold ctxQ at h;split;next e=>rw[EL e] at d;simp only[e,S9] at h;exact uE d h
  next e=>rw[EG e] at d;simp only[e] at h;exact uE d h
 |.block i c,p,Q,d,h=>by
  unfold Zb at d;unfold rz;unfold ctxQ at h;split;next e=>rw[EL e] at d;simp[e,S9] at h;rw[rngP_inv d];exact h i
  next e=>rw[EG e] at d;simp[e,Sj] at h;exact uE d h
 |.loop c,p,Q,d,h=>by unfold Zb at d;unfold rz;unfold ctxQ at h;exact uE d h
 |.skip,_,_,d,_=>by cases d
 |.rangeFunc ..,_,_,d,_=>by cases d
 |.exit _,_,_,d,_=>by cases d
 |.scope _,_,_,d,_=>by cases d
 |.label _,_,_,d,_=>by cases d
 |.goto _,_,_,d,_=>by cases d
 |.ret,_,_,d,_=>by cases d
 |.region ..,_,_,d,_=>by cases d
 |.refuse _,_,_,d,_=>by cases d
end
def aftV (P:Program)(sh:FuncId->List Sh)(n m:Nat)(lv:List<|Nat×List Nat)(G:Nat->St->Prop):Code->Nat->(AExit->St->Prop)->St->Prop
 |.seq a b,p,K,s=>match (pts a).contains p with
  |true=>aftV P sh n m lv G a p (XP (runV P sh n m lv G b K) K) s
  |false=>aftV P sh n m lv G b p K s
 |.cond _ a b,p,K,s=>match (pts a).contains p with
  |true=>aftV P sh n m lv G a p K s
  |false=>aftV P sh n m lv G b p K s
 |.block i c,p,K,s=>match p==2*i+1 with
  |true=>K .normal s
  |false=>match c with
   |.loop b=>aftV P sh n m lv G b p (XP (qv m lv G<|2*i+1)<|yh i K) s
   |c=>aftV P sh n m lv G c p (yh i K) s
 |_,_,_,_=>False
section
variable {P:Program} {sh:FuncId->List Sh} {n m:Nat} {lv:List (Nat×List Nat)} {G:Nat->St->Prop}
def uD (r:P.follows .mixedOrders=true):∀ {c} {p} {K Q} {s},(pts c).Nodup->GOK P n m G c Q->(∀e s,K e s->Q e s)->aftV P sh n m lv G c p K s->ctxQ P n m c p Q .normal s
 |.seq a b,p,K,Q,s,g,j,o,h=>by
  have d:=Gb.1 g;unfold aftV at h;unfold ctxQ;split at h;next f=>rw[EL f];exact uD r d.1 j.left (wq (λs u=>xP r d.2.1 (j.right g) o u) o) h
  next f=>rw[EG<|by simp only[f];decide];exact uD r d.2.1 (j.right g) o h
 |.cond x a b,p,K,Q,s,g,j,o,h=>by
  have d:=Gb.1 g;unfold aftV at h;unfold ctxQ;split at h;next f=>rw[EL f];exact uD r d.1 j.condL o h
  next f=>rw[EG<|by simp only[f];decide];exact uD r d.2.1 (j.condR g) o h
 |.block i c,p,K,Q,s,g,j,o,h=>by
  unfold aftV at h;unfold ctxQ;split at h
  .grind
  .rename_i f;rw[EG<|ne_of_beq_false f];split at h;next b=>unfold ctxQ;exact uD r ((SV.1 g).2) (GOK.loop<|j.block g) (wq (λs u=>j.head u)<|xw o) h
   .exact uD r (SV.1 g).2 (j.block g) (xw o) h
 |.skip,_,_,_,_,_,_,_,h=>h.elim
 |.exit _,_,_,_,_,_,_,_,h=>h.elim
 |.ret,_,_,_,_,_,_,_,h=>h.elim
 |.loop _,_,_,_,_,_,_,_,h=>h.elim
 |.region ..,_,_,_,_,_,_,_,h=>h.elim
 |.rangeFunc ..,_,_,_,_,_,_,_,h=>h.elim
 |.scope _,_,_,_,_,_,_,_,h=>h.elim
 |.label _,_,_,_,_,_,_,_,h=>h.elim
 |.goto _,_,_,_,_,_,_,_,h=>h.elim
 |.refuse _,_,_,_,_,_,_,_,h=>h.elim
end
def vcA (P:Program)(sh:FuncId->List Sh)(lv:List<|Nat×List Nat)(f:FuncId)(m:Nat)(R:TV->List AObj->Prop)(G:Nat->St->Prop)(p:Nat)(s:St):Prop:=
 match P.funcs[f]? with
 |some fn=>match fn.body with
  |some c=>match je (pts c) with
   |true=>aftV P sh fn.ntmps m lv G c p (endV P (ownB<|sh f) fn.results.toList m (lvU lv) R) s
   |false=>False
  |none=>False
 |none=>False
def endR (m0:Nat)(U:List Nat)(R:AHeap->Nat->Prop):AExit->St->Prop
 |.normal,s=>qv m0 [(0,[]),(1000001,U)] (λ_ s'=>R s'.heap s'.nx) 0 s
 |_,_=>False
def vcR (P:Program)(sh:FuncId->List Sh)(f:FuncId)(m0:Nat)(U:List Nat)(p:Nat)(env:Env)(k:Int)(v:TV)(h:AHeap)(nx:Nat)(R:AHeap->Nat->Prop):Prop:=
 match P.funcs[f]? with
 |some fn=>match fn.body with
  |some c=>match Zb c p with
   |some (_,p1,p2,A,body)=>asgV P sh fn.ntmps A (XP (runV P sh fn.ntmps m0 [] (λ_ _=>False) body<|endR m0 U R) λ_ _=>False) ⟨(p2,v)::(p1,iV k)::env,h,nx⟩
   |none=>False
  |none=>False
 |none=>False
def m5 (m0:Nat)(U live:List Nat)(K:St->Prop)(s:St):Prop:=qv m0 [(0,live),(1000001,U)] (λ_ s'=>K s') 0 s
def rngB (P:Program)(f:FuncId)(p:Nat):Option Operand:=
 match P.funcs[f]? with
 |some fn=>match fn.body with
  |some c=>match Zb c p with
   |some (g,p1,p2,A,body)=>match je (pts c)&&asgB fn.ntmps A&&wN body&&Nat.blt p1 fn.ntmps&&Nat.blt p2 fn.ntmps with
    |true=>some g
    |false=>none
   |none=>none
  |none=>none
 |none=>none
def Sle.less {m m0 s d}(h:Sle m0 s d)(b:m<=m0):Sle m s d:=by let ⟨σ,E,g,j,f,e⟩:=h;exact⟨σ,E,g,SW b j,λo i=>f o<|SM i b,e⟩
def Sle.noEnv {m s b}(h:Sle m s b):Sle m s ⟨[],b.heap,b.nx⟩:=by let ⟨σ,E,g,i,e,j,f⟩:=h;exact⟨σ,E,g,i,e,(λp d=>by cases d),f⟩
def fY {m lv G p s}(h:qv m lv G p s):∃b,Sle m s b/\G p b:=qg h
def RPt.back {P:Program} {sh:FuncId->List Sh} {lv:List (Nat×List Nat)} {f:FuncId} {m m0 p oc N:Nat} {r:TV} {Hs':List AObj} {U live rdn:List Nat} {env:Env} {s0:St} {α:Type} {H:α->AHeap} {nx:α->Nat} {Inv:α->Prop} {idx:α->Nat} {y v:α->TV} {x0:α} {bk:FuncId} {S E:TypeId} {W dE:TyD} {g:Operand} {xs:TV}
  (hP:P.follows .mixedOrders=true) (d:rngB P f p=some g) (hbk:IsBk P bk S E) (hS:tyOf P S=some W) (hk:W.kind=.slice E) (hE:tyOf P E=some dE)
  (F:m5 m0 U live (λu=>u=⟨env,H x0,nx x0⟩) s0) (hm:Nat.ble m m0=true) (L:env.all (λp=>p.2.lt m0)=true)
  (hg:ev env g=.c (.fn (.func bk) [] [(false,[.ep oc 1 0 0])])) (hoc:Nat.blt oc m0=true) (hnx:∀x,Inv x->m0<=nx x)
  (O:∀x,Inv x->∃rd,wD W (λo=>flat<|hook (H x) o) (.c<|.a<|.ep oc 1 0 0)=some (xs,rd)) (V:XN xs=some (N,rdn)) (hN:N<9223372036854775808)
  (hel:∀x k,Inv x->idx x=k+1->∃rd,yJ P W xs (iV k)=some (y x)/\wD dE (λo=>flat<|hook (H x) o) (y x)=some (v x,rd))
  (b:∀x k,Inv x->idx x=k+1->vcR P sh f m0 U p env k (v x) (H x) (nx x) λh n=> ∃j,(Inv j/\idx j=k)/\h=H j/\n=nx j)
  (hx0:Inv x0) (hi0:idx x0=N) (G:∀x,Inv x->idx x=0->vcA P sh lv f m (λr0 Hs0=>TV.Le r0 r/\Hs0=Hs') (RPt P f m r Hs') p ⟨env,H x,nx x⟩):
  RPt P f m r Hs' p s0:=by
 have M:m<=m0:=Sp hm;obtain⟨u,K,rfl⟩:=fY F;unfold rngB at d;unfold vcR at b;split at d
 .rename_i fn Z;simp only[Z] at b;split at d
  .rename_i c X;simp only[X] at b;split at d
   .rename_i g' p1 p2 A body T;simp only[T] at b;split at d
    .rename_i D;injection d with d
     subst d;simp only[EN] at D;obtain⟨⟨⟨⟨h1,C⟩,h3⟩,h4⟩,h5⟩:=D;refine⟨fn,c,Z,X,kB (K.less M)<|uE T λi=>?_⟩;refine lG (m0:=m0) (Inv:=Inv) (idx:=idx) (y:=y) (v:=v) hbk hS hk hE M (λp hp=>Sc.1 L p hp) hg (zl hoc) hnx O V hN hel (zl h4) (zl h5) (λx k hx J=>?_) hx0 hi0 λx hx J=>?_
     .have hr:=b x k hx J;have fin:∀u:St,XP (runV P sh fn.ntmps m0 [] (λ_ _=>False) body (endR m0 U λh n=> ∃j,(Inv j/\idx j=k)/\h=H j/\n=nx j)) (λ_ _=>False) .normal u->∀e,look u.env=look e->AwpR P fn.ntmps m0 body (λex u=>ex=.normal/\∃j,(Inv j/\idx j=k)/\Sle m0 u ⟨[],H j,nx j⟩) ⟨e,u.heap,u.nx⟩:=by
       intro u I e he;refine AwpR.look he<|AwpR.mono (vF hP h3 (λ_ _ h=>h) I) λex s F=>?_;cases ex with
       |normal=>
        have F:qv m0 [(0,[]),(1000001,U)] (λ_ u=> ∃j,(Inv j/\idx j=k)/\u.heap=H j/\u.nx=nx j) 0 s:=F;obtain⟨s2,hs2,j,hx',e1,e2⟩:=fY F;exact⟨rfl,j,hx',e1▸e2▸hs2.noEnv⟩
       |exit i=>exact F.elim
       |ret=>exact F.elim
      unfold asgB at C;split at C
      .simp only[EN] at C;exact JC C.1 C.2 hr fin
      .simp only[EN] at C;refine AsgS.seq (JC (R:=λu=> ∃z,look u.env=look z.env/\u.heap=z.heap/\u.nx=z.nx/\regV P sh fn.ntmps _ false _ z) C.1.1 C.1.2 hr λu I e he=>⟨u,he.symm,rfl,rfl,I⟩) λu hs'=>?_;obtain⟨z,e1,e2,e3,hk3⟩:=hs';intro w0 foot Y pin r n' β a w Q q1 q2 q3 q4 q5;refine JC C.2.1 C.2.2 hk3 fin w0 foot Y pin r n' β a w Q q1 q2 ?_ ?_ q5
       .rw[<-e1,<-e2];exact q3
       .rw[<-e3];exact q4
      .cases C
     .have ha:=G x hx J;unfold vcA at ha;simp only[Z,X,h1] at ha;exact uD hP (xy h1) (bm Z X) (λe s h=>Jt e s h) ha
    .cases d
   .cases d
  .cases d
 .cases d
def r8 (P:Program)(S E:TypeId)(n:Nat):Bool:=
 match tyOf P S,tyOf P E with
 |some dS,some dE=>(match dS.kind with|.slice e=>Nat.beq e E|_=>false) && !dS.agg&&dE.agg&&Nat.beq dE.size n
 |_,_=>false
def RPt.backF {P:Program} {sh:FuncId->List Sh} {lv:List (Nat×List Nat)} {f:FuncId} {m m0 p oc n:Nat} {r:TV} {Hs':List AObj} {U live:List Nat} {env:Env} {s0:St} {α:Type} {H:α->AHeap} {nx:α->Nat} {Inv:α->Prop} {idx:α->Nat} {x0:α} {bk:FuncId} {S E:TypeId} {g:Operand} {es:List (List FV)}
  (hP:P.follows .mixedOrders=true) (I:rngB P f p=some g) (O:IsBk P bk S E) (o:r8 P S E n=true)
  (hs:m5 m0 U live (λs'=>s'=⟨env,H x0,nx x0⟩) s0) (hm:Nat.ble m m0=true) (z:env.all (λp=>p.2.lt m0)=true)
  (hg:ev env g=.c (.fn (.func bk) [] [(false,[.ep oc 1 0 0])])) (V:Nat.blt oc m0=true) (M:∀x,Inv x->m0<=nx x)
  (D:∀x,Inv x->hook (H x) oc=.arr 1 [[.a<|.fz<|.sl false n es]]) (C:∀e∈es,e.length=n) (hN:es.length<9223372036854775808)
  (j:∀x,Inv x->idx x<=es.length)
  (i:∀x k,Inv x->idx x=k+1->k<es.length->vcR P sh f m0 U p env k (.agg<|fzs<|es.getD k []) (H x) (nx x) λh n=> ∃G,(Inv G/\idx G=k)/\h=H G/\n=nx G)
  (T:Inv x0) (W:idx x0=es.length) (u:∀x,Inv x->idx x=0->vcA P sh lv f m (λr0 Hs0=>TV.Le r0 r/\Hs0=Hs') (RPt P f m r Hs') p ⟨env,H x,nx x⟩):
  RPt P f m r Hs' p s0:=by
 unfold r8 at o;split at o
 .rename_i dS dE hS Z;split at o
  .rename_i e Y;simp only[EN,SK] at o;obtain⟨⟨⟨K,h2⟩,h3⟩,F⟩:=o;have K:=S7 K;have F:=S7 F;subst K;have L:∀(d:TyD) (l:List WV),d.agg=true->d.size=l.length->jr d l=some (.agg l):=λd l ha hl=>by unfold jr;rw[ha,EL rfl,EL za,hl,List.take_length]
   refine RPt.back (y:=λx=>.c<|.a<|.fz<|.pt<|es.getD (idx x-1) []) (v:=λx=>.agg<|fzs<|es.getD (idx x-1) []) (xs:=.c<|.a<|.fz<|.sl false n es) (N:=es.length) (rdn:=[]) hP I O hS Y Z hs hm z hg V M (λx w=>?_) rfl hN (λx k w b=>?_) (λx k w b=>?_) T W u
   .refine⟨[oc],?_⟩;unfold wD;simp only[D x w];show(if 1=1 then _ else none)=_;rw[EL rfl];show(match jr dS [.a<|.fz<|.sl false n es] with|some v=>some (v,[oc])|none=>none)=_;unfold jr;rw[h2];rfl
   .have J:=j x w;have X:k<es.length:=za;have hr:=C (es.getD k []) (by simp[getD,X]);refine⟨[],?_,?_⟩
    .unfold yJ iV;simp only[Y,Z,Xi];rw[EL ⟨F,za,za⟩,S3,b,G8]
    .unfold wD;simp only[b,G8];rw[L dE _ h3<|by rw[F];unfold fzs;rw[Sn,hr]]
   .have J:=j x w;have:=i x k w b za;simp only[b,G8];exact this
  .cases o
 .cases o
open Go.ChangeShapes Go.WideShapes Go.ChangeAt Go.RowKit
abbrev Cl:=Int×Tm×Tm
abbrev FL (c:Cl):List FV:=[.int .i64 c.1,.int .i64 c.2.1.k,.str c.2.1.s,.int .i64 c.2.1.n,.sl false 4<|FTs c.2.1.l,.int .i64 c.2.2.k,.str c.2.2.s,.int .i64 c.2.2.n,.sl false 4<|FTs c.2.2.l]
def CLs (l:List Cl):=l.map FL
def yd (l):(CLs l).length=l.length:=by simp[CLs]
abbrev aCl (c:Cl):TV:=.agg [.a<|.fz<|.int .i64 c.1,.a<|.fz<|.int .i64 c.2.1.k,.a<|.fz<|.str c.2.1.s,.a<|.fz<|.int .i64 c.2.1.n,.a<|.fz<|.sl false 4<|FTs c.2.1.l,.a<|.fz<|.int .i64 c.2.2.k,.a<|.fz<|.str c.2.2.s,.a<|.fz<|.int .i64 c.2.2.n,.a<|.fz<|.sl false 4<|FTs c.2.2.l]
abbrev aCls (l:List Cl):TV:=.c<|.a<|.fz<|.sl false 9<|CLs l
section
variable {H:Type} {enc:TypeId×Value->H} {P:Program} {w:World}
abbrev ClI:={n:Int // -9223372036854775808<=n/\n<=9223372036854775807}×TmI×TmI
abbrev ClI.c (v:ClI):Cl:=(v.1.1,v.2.1.1,v.2.2.1)
structure ClTy (P:Program)(T Tt:TypeId)(f0 f1 f2:Field):Prop where
 str:P.underlying T=some (.struct #[f0,f1,f2])
 u0:P.underlying f0.type=some (.int .i64)
 t1:f1.type=Tt
 t2:f2.type=Tt
 o0:f0.offset=0
 o1:f1.offset=1
 o2:f2.offset=5
 c0:P.cellsOf f0.type=1
 cT:P.cellsOf T=9
def FT_FL (v:ClI):FL v.c=[.int .i64 v.1.1]++(FT v.2.1.1++FT v.2.2.1):=by let ⟨n,⟨a,_⟩,⟨b,_⟩⟩:=v;cases a;cases b;rfl
def rd_cl {b I}(e:Bulk b I){T Tt M N W L f0 G F}(g:TmTy P Tt M N W L)(d:ClTy P T Tt f0 G F)(f):
  RdN enc P w b f T (λv:ClI=>FL v.c) (λv=>v.2.1.1.bk+v.2.2.1.bk+1):=by
 intro cs x h;obtain⟨xs,n,rfl,rfl,E,j,p⟩:=DataW.trod_struct d.str h;rw[d.cT] at E
 match cs,E with
 |[v0,v1,X,S,Z,O,V,v7,U],_=>
 match xs,j with
 |[x0,m,o],_=>
 have y:=p 0 f0 rfl;have C:=p 1 G rfl;have A:=p 2 F rfl;rw[d.o0,d.c0] at y;rw[d.o1,d.t1,g.cT] at C;rw[d.o2,d.t2,g.cT] at A;let ⟨i,r0,D⟩:=rd_num (b:=b) d.u0 e.one n _ _ y;let ⟨t,Y,r⟩:=J0 e g n _ _ C;let ⟨u,J,z⟩:=J0 e g n _ _ A;have D:=D;have r:t.1.bk<=b m.1:=r;have z:u.1.bk<=b o.1:=z;refine⟨(⟨i.1,Jn i.2⟩,t,u),?_,?_⟩
 .show LRep _ (FL<|ClI.c (⟨i.1,Jn i.2⟩,t,u)) [v0,v1,X,S,Z,O,V,v7,U];rw[FT_FL];exact .cons (LRep.one r0)<|LRep.append Y J
 .show t.1.bk+u.1.bk+1<=b (.agg [x0.1,m.1,o.1]);have K:=e.agg [x0.1,m.1,o.1];simp[e.cons,e.nil] at K;omega
end
end Go.AM
namespace Go.AM
def AV.ice (o n:Nat)(fs:List<|List FV):AV->AV
 |.osl k m off len=>if k=o/\m=n/\off+len<=fs.length then .fz (.sl (!(len==0)) n<|(fs.drop off).take len) else .osl k m off len
 |.ep k m i j=>if k=o/\m=n/\i<fs.length then .fz (.pt<|(fs.getD i []).drop j) else .ep k m i j
 |x=>x
def AV.icem (o:Nat)(zs:List MapZ):AV->AV
 |.mp k=>if k=o then .fz (.mp zs) else .mp k
 |x=>x
def WV.onA (g:AV->AV):WV->WV
 |.a x=>.a<|g x
 |x=>x
def TV.onA (g:AV->AV):TV->TV
 |.c x=>.c<|x.onA g
 |.agg cs=>.agg<|cs.map<|WV.onA g
 |.tup vs=>.tup<|vs.map λp=>(p.1,p.2.map<|WV.onA g)
 |x=>x
def AObj.onA (g:AV->AV):AObj->AObj
 |.arr n es=>.arr n<|es.map λe=>e.map<|WV.onA g
 |x=>x
def live_onA {g x}:isLive (x.onA g)↔isLive x:=by cases x<;>exact Iff.rfl
def bare_onA {g x}(h:bareO x):bareO (x.onA g):=by
 let ⟨n,b⟩:=h;cases x with
 |arr m es=>simp[flat,AObj.arr.injEq] at b;exact⟨n,by simp[AObj.onA,flat,b.1,b.2]⟩
 |_=>exact⟨n,b⟩
def AC.freezes {P f args Hs Hs' r} (h:AC P f args Hs r Hs') (o g) (X:isLive<|Hs'.getD o .gone)
  (hg:∀(w) (Y Z) β x v,Objs (λo=>Hs'.getD o .gone) β Y w->(∀b,¬XO Y (λo=>Hs'.getD o .gone) β b->¬Z b)->(∀b,β o=some b->¬Z b)->ARep w (XO Y (λo=>Hs'.getD o .gone) β) β x v->ARep w Z β (g x) v):
  AC P f args Hs (r.onA g) ((Hs'.set o .gone).map<|AObj.onA g):=by
 refine⟨h.1,zl h.2.1,λw vals β Y I J hgl h3 h4=>?_⟩;refine(h.2.2 w vals β Y I J hgl h3 h4).mono λe w' ⟨v,p,k1,k2,L,k4,k5,k6,k7⟩=>?_;have hN:∀k,((Hs'.set o .gone).map<|AObj.onA g).getD k .gone=(if k=o then AObj.gone else(Hs'.getD k .gone).onA g):=by
  intro k;rw[getD,EX,Gm];by_cases e:k=o
  .subst e;simp[S9];split<;>rfl
  .rw[EG λh=>e h.symm,EG e,getD];cases Hs'[k]? <;>rfl
 have A:∀k,isLive (((Hs'.set o .gone).map<|AObj.onA g).getD k .gone)->k≠o/\isLive (Hs'.getD k .gone):=by
  intro k F;rw[hN] at F;by_cases e:k=o
  .rw[EL e] at F;exact F.elim
  .rw[EG e] at F;exact⟨e,live_onA.1 F⟩
 have V:∀b,¬XO Y (λo=>Hs'.getD o .gone) p b->¬(Y b\/Own (λo'=>((Hs'.set o .gone).map<|AObj.onA g).getD o' .gone) p b):=by
  rintro b D (E|⟨k,F,E⟩)
  .grind
  .exact D<|.inr ⟨k,(A k F).2,E⟩
 have hoZ:∀b,p o=some b->¬(Y b\/Own (λo'=>((Hs'.set o .gone).map<|AObj.onA g).getD o' .gone) p b):=by
  rintro b D (E|⟨k,F,E⟩)
  .exact(L.here X D).2 E
  .exact(A k F).1<|L.inj k o b (A k F).2 X E D
 have hA:∀x v,ARep w' (XO Y (λo=>Hs'.getD o .gone) p) p x v->ARep w' (λb=>Y b\/Own (λo'=>((Hs'.set o .gone).map<|AObj.onA g).getD o' .gone) p b) p x v:=λx v C=>C.mono (EI _) (λb D _=>⟨rfl,V b D⟩) (λ_ _=>rfl) λo b D=>⟨D,L.lt o b D⟩;have hF:∀x v,FRep w' (XO Y (λo=>Hs'.getD o .gone) p) x v->FRep w' (λb=>Y b\/Own (λo'=>((Hs'.set o .gone).map<|AObj.onA g).getD o' .gone) p b) x v:=λx v C=>C.mono (EI _) λb D _=>⟨rfl,V b D⟩;have K:∀x v,WRep w' (XO Y (λo=>Hs'.getD o .gone) p) p x v->WRep w' (λb=>Y b\/Own (λo'=>((Hs'.set o .gone).map<|AObj.onA g).getD o' .gone) p b) p x v:=by
  intro x v C;cases C with
  |a x v C=>exact .a _ v<|hA _ _ C
  |fn f first cap G vs I J=>exact .fn f first cap G vs (I.imp λ_ _ _ h=>h.imp λc u _ h=>hA c u h) (J.imp λ_ _ _ h=>h.imp λc u _ h=>hA c u h)
 have hW:∀x v,WRep w' (XO Y (λo=>Hs'.getD o .gone) p) p x v->WRep w' (λb=>Y b\/Own (λo'=>((Hs'.set o .gone).map<|AObj.onA g).getD o' .gone) p b) p (x.onA g) v:=by
  intro x v C;cases C with
  |a x v C=>exact .a _ v<|(λx v C=>hg w' Y _ p x v L V hoZ C) _ _ C
  |fn f first cap G vs I J=>exact K _ _<|.fn f first cap G vs I J
 refine⟨v,p,k1,k2,⟨λk b F D=>?_,λk F=>?_,λa c b ha W hab hcb=>L.inj a c b (A a ha).2 (A c W).2 hab hcb,L.lt⟩,?_,λo b D=>by simpa using k5 o b D,k6,k7⟩
 .let ⟨O,hl⟩:=A k F;have C:=L.rep k b hl D;rw[hN,EG O];cases hx:Hs'.getD k .gone with
  |gone=>trivial
  |arz n fs=>rw[hx] at C;let ⟨G,t,T,S,U,M⟩:=C;exact⟨G,t,T,S,U,λi j e c H W=>let ⟨u,hu,C⟩:=M i j e c H W;⟨u,hu,K _ _ C⟩⟩
  |arr n es=>
   rw[hx] at C;let ⟨G,t,T,S,U,M⟩:=C;refine⟨G,t,T,zl S,λe H=>?_,λi j e c H W=>?_⟩
   .grind
   .rw[EX] at H;grind
  |mapo es=>rw[hx] at C;let ⟨ms,ck,T,S,U,M,g5⟩:=C;exact⟨ms,ck,T,S,λi e m H hm=>let ⟨x,y⟩:=U i e m H hm;⟨x.imp λ_ _ _ h=>hF _ _ h,y.imp λ_ _ _ h=>K _ _ h⟩,M,g5⟩
  |mapz es=>rw[hx] at C;let ⟨ms,ck,T,S,U,M,g5⟩:=C;exact⟨ms,ck,T,S,λi e m H hm=>let ⟨x,y⟩:=U i e m H hm;⟨x.imp λ_ _ _ h=>hF _ _ h,y.imp λ_ _ _ h=>K _ _ h⟩,M,g5⟩
 .let ⟨O,hl⟩:=A k F;rcases L.has k hl with h5|⟨h5,h6⟩
  .exact .inl h5
  .exact .inr ⟨by rw[hN,EG O];exact bare_onA h5,h6⟩
 .cases r with
  |any=>trivial
  |c x=>exact hW x v k4
  |agg cs=>let ⟨G,I,J⟩:=k4;exact⟨G,I,J.map λc u _ h=>hW c u h⟩
  |tup vs=>let ⟨G,I,J⟩:=k4;exact⟨G,I,J.map λc u _ h=>h.map λd z _ h=>hW d z h⟩
def AC.ice {P:Program}{f:FuncId}{args:List TV}{Hs Hs':List AObj}{r:TV}(h:AC P f args Hs r Hs')(o n:Nat)(z:List<|List FV)(M:flat (Hs'.getD o .gone)=.arr n (z.map fzs)):
  AC P f args Hs (r.onA<|AV.ice o n z) ((Hs'.set o .gone).map<|AObj.onA<|AV.ice o n z):=by
 refine h.freezes o _ (by rw[<-xN,M];trivial) λw Y Z β x v I L H K=>?_;have J:ARep w Z β x v:=K.mono (EI _) (λb p _=>⟨rfl,L b p⟩) (λ_ _=>rfl) λo b p=>⟨p,I.lt o b p⟩;have W:∀x v,FRep w (XO Y (λo=>Hs'.getD o .gone) β) x v->FRep w Z x v:=λx v D=>D.mono (EI _) λb p _=>⟨rfl,L b p⟩;cases x with
 |osl k m y g=>
  simp only[AV.ice];split
  .rename_i A;obtain⟨rfl,rfl,A⟩:=A;have N:=Kf I L M rfl A H K;refine .fz _ _ ?_;by_cases S:g=0
   .subst S;exact zl N
   .rw[show(!(g==0))=true by simpa using S];cases T:(z.drop y).take g with
    |nil=>have:=SJ List.length T;simp at this;omega
    |cons e es=>
     rw[T] at N;cases N with
     |sl _ _ _ b y cap g u U h2 h3 h4 V X h7=>exact .sl true m (e::es) b y cap g u U h2 h3 h4 V X h7
  .exact J
 |ep k m i j=>
  simp only[AV.ice];split
  .rename_i A;obtain⟨rfl,rfl,A⟩:=A;cases K with
   |ep _ _ _ _ b p=>
    obtain⟨O,tt,g1,g2,g3,g4⟩:=ue I M p;have E:z[i]?=some (z.getD i []):=by simp[getD,EU A]
    generalize z.getD i []=F at*;have d:∀q f,(F.drop j)[q]?=some f->∃u,O[i*m+j+q]?=some u/\FRep w Z f u:=by intro q f C;rw[SS] at C;obtain⟨u,G,D⟩:=g4 i (j+q) (fzs F) (cell f) (by rw[EX,E];rfl) (by rw[fzs,EX,C];rfl);rw[GF];exact⟨u,G,W _ _<|dP D⟩
    refine .fz _ _<|.pt _ b (i*m+j) (λq=>O.getD (i*m+j+q) undef) (H b p) (I.lt _ b p) (λq f C=>?_) λq f C=>?_
    .obtain⟨u,G,_⟩:=d q f C;simp only[World.cell?,g1,Gf,G7,S5,Sj,getD,G];rfl
    .obtain⟨u,G,D⟩:=d q f C;simp only[getD,G,Sq];exact D
  .exact J
 |_=>exact J
def AC.icem {P:Program}{f:FuncId}{args:List TV}{Hs Hs':List AObj}{r:TV}(h:AC P f args Hs r Hs')(o:Nat)(C:List MapZ)(ho:Hs'.getD o .gone=.mapz C):
  AC P f args Hs (r.onA<|AV.icem o C) ((Hs'.set o .gone).map<|AObj.onA<|AV.icem o C):=by
 have D:isLive (Hs'.getD o .gone):=by rw[ho];trivial
 refine h.freezes o _ D λw Y Z β x v U hZ T X=>?_;have W:ARep w Z β x v:=X.mono (EI _) (λb z _=>⟨rfl,hZ b z⟩) (λ_ _=>rfl) λo b z=>⟨z,U.lt o b z⟩;have hF:∀x v,FRep w (XO Y (λo=>Hs'.getD o .gone) β) x v->FRep w Z x v:=λx v H=>H.mono (EI _) λb z _=>⟨rfl,hZ b z⟩;cases x with
 |mp k=>
  simp only[AV.icem];split
  .rename_i hc;subst hc;cases X with
   |mp _ b z=>
    have H:=U.rep k b D z;simp only[ho] at H;obtain⟨ms,ck,g1,S,g3,g4,g5⟩:=H;have S:ms.length=C.length:=zl S;have hz:∀(i:Nat) (e:MapZ) (m:MapEntry),C[i]?=some e->ms[i]?=some m->PRep (FRep w Z) e.1 m.key/\PRep (FRep w Z) e.2 m.val:=λi e m d g=>by obtain⟨p,q⟩:=g3 i (thaw e) m (by rw[EX,d];rfl) g;refine⟨p.imp λc u _ h=>hF c u h,?_⟩;obtain⟨L,G,F,E⟩:=q;exact⟨L,G,F.unmap λc u _ h=>hF c u<|dP h,λh=>by simpa[thaw,fzs] using E h⟩
    have y:∀i:Nat,∃V vu:List Value,∀(e:MapZ) (m:MapEntry),C[i]?=some e->ms[i]?=some m->(m.key=shut e.1.1 V/\LRep (FRep w Z) e.1.2 V/\(e.1.1=false->e.1.2.length=1))/\m.val=shut e.2.1 vu/\LRep (FRep w Z) e.2.2 vu/\(e.2.1=false->e.2.2.length=1):=by
     intro i;by_cases J:i<C.length
     .obtain⟨⟨L,M,I,N⟩,vs,G,F,E⟩:=hz i C[i] (ms[i]' za) (EU J)<|EU za;refine⟨L,vs,λe m d g=>?_⟩;rw[EU J] at d;rw[EU za] at g;injection d with d;injection g with g;subst d;subst g
      exact⟨⟨M,I,N⟩,G,F,E⟩
     .exact⟨[],[],λe m d=>absurd (EW.1 d).1 J⟩
    have g:∀(i:Nat) (e:MapZ),C[i]?=some e->∃m,ms[i]?=some m:=λi e d=>⟨_,EU<|by have:=(EW.1 d).1;omega⟩;refine .fz _ _<|.mp C b ms (λi=>(y i).choose) (λi=>(y i).choose_spec.choose) (T b z) (U.lt _ b z) (by rw[<-g4];exact g1) S g5 (λi e m d g=>?_) (λi j e f u d O K=>?_) λi j e f u d O K=>?_
    .obtain⟨⟨M,I,N⟩,G,F,E⟩:=(y i).choose_spec.choose_spec e m d g;exact⟨⟨M,I.1,N⟩,G,F.1,E⟩
    .obtain⟨m,g⟩:=g i e d;exact((y i).choose_spec.choose_spec e m d g).1.2.1.2 j f u O K
    .obtain⟨m,g⟩:=g i e d;exact((y i).choose_spec.choose_spec e m d g).2.2.1.2 j f u O K
  .exact W
 |_=>exact W
def AC.renum {P:Program} {f:FuncId} {args:List TV} {Hs Hs':List AObj} {r:TV} (h:AC P f args Hs r Hs') (σ:Nat->Nat) (H:List AObj) (X:TV) (O:X.ren σ=r) (W:X.lt H.length=true)
  (u:(List.range H.length).all (λi=>(H.getD i .gone).lt H.length)=true) (C:∀i,i<H.length->(H.getD i .gone).ren σ=Hs'.getD (σ i) .gone) (J:∀i j,i<H.length->j<H.length->σ i=σ j->i=j) (E:∀i,i<Hs.length->σ i=i) (G:Hs.length<=H.length):AC P f args Hs X H:=by
 refine⟨h.1,G,λw vals β Y h1 h2 N h3 h4=>?_⟩;refine(h.2.2 w vals β Y h1 h2 N h3 h4).mono λe w' ⟨v,d,k1,k2,M,k4,k5,k6,k7⟩=>?_;have ho1:∀i,i<H.length->(H.getD i .gone).lt H.length=true:=λi hi=>Sc.1 u i<|F1.2 hi;have p:∀k,isLive (H.getD k .gone)->k<H.length/\isLive (Hs'.getD (σ k) .gone):=by
  intro k g;by_cases I:k<H.length
  .refine⟨I,?_⟩;rw[<-C k I];cases hx:H.getD k .gone with
   |gone=>rw[hx] at g;exact g
   |_=>trivial
  .rw[getD,GM za] at g;exact g.elim
 have y:∀k b,(if k<H.length then d (σ k) else none)=some b->k<H.length/\d (σ k)=some b:=by
  intro k b g;split at g;next q=>exact⟨q,g⟩
  .cases g
 have S:∀b,¬XO Y (λo=>Hs'.getD o .gone) d b->¬(Y b\/Own (λo=>H.getD o .gone) (λk=>if k<H.length then d (σ k) else none) b):=by
  rintro b D (hy|⟨k,g,A⟩)
  .exact D<|.inl hy
  .exact D<|.inr ⟨σ k,(p k g).2,(y k b A).2⟩
 have hF:∀x v,FRep w' (XO Y (λo=>Hs'.getD o .gone) d) x v->FRep w' (λb=>Y b\/Own (λo=>H.getD o .gone) (λk=>if k<H.length then d (σ k) else none) b) x v:=λx v O=>O.mono (EI _) λb y _=>⟨rfl,S b y⟩;have K:∀o b,o<H.length->d (σ o)=some b->(if o<H.length then d (σ o) else none)=some b:=λo b u h=>by rw[EL u];exact h
 refine⟨v,λk=>if k<H.length then d (σ k) else none,k1,k2,⟨λk b g A=>?_,λk g=>?_,λa c b ha hc V Z=>?_,λo b u=>M.lt _ _ (y o b u).2⟩,?_,λo b u=>(y o b u).1,λo u=>?_,λo b hol U=>?_⟩
 .obtain⟨z,F⟩:=y k b A;refine ORep.unmap (σ:=σ) (m:=H.length) hF K (ho1 k z) ?_;rw[C k z];exact M.rep (σ k) b (p k g).2 F
 .obtain⟨z,F⟩:=p k g;rcases M.has (σ k) F with⟨b,L,T,p3⟩|⟨L,T⟩
  .exact .inl ⟨b,by simp only[EL z];exact L,T,p3⟩
  .refine .inr ⟨?_,by simp only[EL z];exact T⟩;rw[<-C k z] at L;exact qh.1 L
 .obtain⟨a1,a2⟩:=y a b V;obtain⟨c1,c2⟩:=y c b Z;exact J a c a1 c1<|M.inj (σ a) (σ c) b (p a ha).2 (p c hc).2 a2 c2
 .exact TRep.unmap (σ:=σ) (m:=H.length) hF K W (by rw[O];exact k4)
 .simp only[EL (za:o<H.length),E o u];exact k6 o u
 .obtain⟨z,F⟩:=y o b U;refine k7 (σ o) b ?_ F;rcases Nat.lt_or_ge (σ o) Hs.length with q|q
  .have:=J o (σ o) z za (by rw[E _ q]);omega
  .exact q
def sk (a k i:Nat):=if i<a then i else i+k
def AC.skip {P:Program} {f:FuncId} {args:List TV} {Hs Hs':List AObj} {r:TV} (h:AC P f args Hs r Hs') (a k:Nat) (H:List AObj) (g:TV) (v:g.ren (sk a k)=r) (o:g.lt H.length=true)
  (w:H.all (AObj.lt H.length)=true) (y:H.map (AObj.ren<|sk a k)=(List.range H.length).map λi=>Hs'.getD (sk a k i) .gone) (z:Hs.length<=a) (d:Hs.length<=H.length):AC P f args Hs g H:=by
 have u:∀i,i<H.length->∃x,H[i]?=some x/\H.getD i .gone=x:=λi b=>⟨_,EU b,by simp[getD,EU b]⟩;refine h.renum (sk a k) H g v o (Sc.2 λi b=>?_) (λi b=>?_) (λi j _ _ e=>?_) (λi b=>?_) d
 .obtain⟨x,m,p⟩:=u i<|F1.1 b;rw[p];exact Sc.1 w x<|Sl m
 .obtain⟨x,m,p⟩:=u i b;have:=SJ (λl=>l[i]?) y;simp only[EX,m,Gc b,S2,EO] at this;rw[p,this]
 .unfold sk at e;split at e<;>split at e<;>omega
 .unfold sk;rw[EL za]
structure Ma where
 s:Hp
 P:FV
 T:FV
 S:Int
 V:FV
 nf:FV
 na:Int
 A:FV
 L:Int
 I:FV
 n:Nat
 C:List<|List FV
 f:Int
 w:Bool
 o:FV
def moO (h k:Nat)(z:Ma):AObj:=
 .arr 14 [[.a<|.ep h 6 0 0,.a<|.fz z.P,.a<|.fz z.T,.a<|.fz<|.int .i64 z.S,.a<|.fz z.V,.a<|.fz z.nf,.a<|.fz<|.int .i64 z.na,.a<|.fz z.A,.a<|.fz<|.int .i64 z.L,.a<|.fz z.I,.a<|.osl k 10 0 z.n,.a<|.fz<|.int .i64 z.f,.a<|.fz<|.bool z.w,.a<|.fz z.o]]
abbrev hpO (a b d m:Nat)(z:Hp):AObj:=.arr 6 [[.a<|.osl a 5 0 z.C.length,.a<|.osl b 7 0 z.T.length,.a<|.fz<|.int .i64 z.M,.a<|.fz<|.int .i64 z.L,.a<|.osl d 1 0 z.N.length,.a<|.mp m]]
abbrev mOb (z:Ma)(l:List AObj):List AObj:=moO 1 6 z::hpO 2 3 4 5 z.s:: .arz 5 (CR z.s.C):: .arz 7 (TR z.s.T):: .arz 1 (NR z.s.N):: .mapz (NM z.s.N 0):: .arz 10 z.C::l
abbrev mOk (b:Nat)(z:Ma)(l:List AObj):List AObj:=moO (b+1) (b+6) z::hpO (b+2) (b+3) (b+4) (b+5) z.s:: .arz 5 (CR z.s.C):: .arz 7 (TR z.s.T):: .arz 1 (NR z.s.N):: .mapz (NM z.s.N 0):: .arz 10 z.C::l
abbrev mSb (z:Ma)(l:List AObj):=moO 1 10 z::hpO 7 8 9 5 z.s:: .gone:: .gone:: .gone:: .mapz (NM z.s.N 0):: .gone:: .arz 5 (CR z.s.C):: .arz 7 (TR z.s.T):: .arz 1 (NR z.s.N):: .arz 10 z.C::l
abbrev mSc (z:Ma)(x:AObj)(l:List AObj):=moO 1 11 z::hpO 8 9 10 5 z.s:: .gone:: .gone:: .gone:: .mapz (NM z.s.N 0):: .gone::x:: .arz 5 (CR z.s.C):: .arz 7 (TR z.s.T):: .arz 1 (NR z.s.N):: .arz 10 z.C::l
abbrev hOb (z:Hp)(l:List AObj):=hpO 1 2 3 4 z:: .arz 5 (CR z.C):: .arz 7 (TR z.T):: .arz 1 (NR z.N):: .mapz (NM z.N 0)::l
abbrev hSb (z:Hp)(l:List AObj):=hpO 5 6 7 4 z:: .gone:: .gone:: .gone:: .mapz (NM z.N 0):: .arz 5 (CR z.C):: .arz 7 (TR z.T):: .arz 1 (NR z.N)::l
abbrev rOb (z:Rd)(l:List AObj):=.arr 3 [[.a<|.ep 1 6 0 0,.a<|.fz<|.int .i64 z.f,.a<|.fz<|.int .i64 z.e]]::hpO 2 3 4 5 z.s:: .arz 5 (CR z.s.C):: .arz 7 (TR z.s.T):: .arz 1 (NR z.s.N):: .mapz (NM z.s.N 0)::l
abbrev rSb (z:Rd)(l:List AObj):=.arr 3 [[.a<|.ep 1 6 0 0,.a<|.fz<|.int .i64 z.f,.a<|.fz<|.int .i64 z.e]]::hpO 6 7 8 5 z.s:: .gone:: .gone:: .gone:: .mapz (NM z.s.N 0):: .arz 5 (CR z.s.C):: .arz 7 (TR z.s.T):: .arz 1 (NR z.s.N)::l
abbrev wOb (z:Wk)(l:List AObj):=.arr 3 [[.a<|.ep 1 6 0 0,.a<|.osl 6 2 0 z.n,.a<|.fz<|.int .i64 z.f]]::hpO 2 3 4 5 z.s:: .arz 5 (CR z.s.C):: .arz 7 (TR z.s.T):: .arz 1 (NR z.s.N):: .mapz (NM z.s.N 0):: .arz 2 z.R::l
abbrev wSb (z:Wk)(l:List AObj):=.arr 3 [[.a<|.ep 1 6 0 0,.a<|.osl 10 2 0 z.n,.a<|.fz<|.int .i64 z.f]]::hpO 7 8 9 5 z.s:: .gone:: .gone:: .gone:: .mapz (NM z.s.N 0):: .gone:: .arz 5 (CR z.s.C):: .arz 7 (TR z.s.T):: .arz 1 (NR z.s.N):: .arz 2 z.R::l
def numO:Nat->List AObj->AHeap
 |_,[]=> []
 |k,o::l=>(k,o)::numO (k+1) l
end Go.AM
