/- Laws, part 7. No conditions. -/
import Derived.Test.YthpemajiigpfmaaGreatPart6
import Derived.Test.YthpemajiigpfmaaGreatRows
set_option linter.all false
set_option maxRecDepth 100000
open Go Go.Proofs
open Go.IntKind (wrap)
namespace Go.AM
def Can (n:Nat)(m:Ma):Prop:=(∃k e,k≠0/\m.o=evM k e)\/∃(G:Gs) (K:Nat) (ch:List Ch) (i:Im),GOk G/\G.V.length<=1000000/\K+n*9441336306<=100000000000/\G.F+n*3000<=33000/\Bs G K {m with f:=3000} ch i/\(m.w=true\/m.w=false/\Go m i)
def Can.less {k m}(h:Can (k+1) m):Can k m:=by
 rcases h with h|⟨G,K,g,i,b,f,e,j,d⟩
 .exact .inl h
 .refine .inr ⟨G,K,g,i,b,f,?_,?_,d⟩
  .exact SW (Nat.add_le_add_left (Ss _<|Nat.le_succ k) K) e
  .omega
structure Evt where
 k:Int
 vs:List Tm
 e:Int
 f:Int
def EvOk (x:Evt):=VsOk x.vs
def Bs.refuel {G K m d i}(h:Bs G K m d i):Bs {G with F:=G.F+3000} K {m with f:=3000} d i:=by have f0:=h.f0;have i2:=h.i2;exact {h with f0:=zb,f1:=zb,i2:=zk,ok:=λc b=>⟨(h.ok c b).1,by have:=(h.ok c b).2.1;dsimp only;omega,(h.ok c b).2.2⟩}
def bM {n m}(h:Can (n+1) m):∃(x:Evt) (d:Ma),AC EF 9 [aM,ci 3000] (mOb m []) (tEv x.k x.vs x.e x.f) (mSb d [])/\EvOk x/\Can n d:=by
 rcases h with⟨k,e,u,g⟩|⟨G,K,J,i,b,r,H,I,A,C⟩
 .exact⟨⟨k,[],e,3000⟩,m,c_nextO g 3000,fI,.inl ⟨k,e,u,g⟩⟩
 .let ⟨k,vs,e,f',d,y,w,v⟩:=c_next b r za A C;refine⟨⟨k,vs,e,f'⟩,d,y,w,?_⟩;rcases v with⟨u,E,z,j,g⟩|⟨rfl,D,_,_,p,i2,o⟩
  .exact .inl ⟨E,z,j,g⟩
  .refine .inr ⟨{G with F:=G.F+3000},K+9441336306,p,i2,⟨zk,b.l,b.c,b.t⟩,r,za,zk,o.refuel,.inl D⟩
inductive Rn:Ma->List Evt->Ma->Prop
 |nil (m:Ma):Rn m [] m
 |cons {m m1 m2:Ma} {x:Evt} {l:List Evt}:AC EF 9 [aM,ci 3000] (mOb m []) (tEv x.k x.vs x.e x.f) (mSb m1 [])->EvOk x->Rn m1 l m2->Rn m (x::l) m2
def Rn.snoc {m d g x l}(h:Rn m l d)(b:AC EF 9 [aM,ci 3000] (mOb d []) (tEv x.k x.vs x.e x.f)<|mSb g [])(j:EvOk x):Rn m (l++[x]) g:=by
 induction h with
 |nil m=>exact .cons b j<|.nil _
 |cons i o _ ih=>exact .cons i o<|ih b
abbrev evR (x:Evt):=uX x.k x.vs x.e
abbrev wEe (o:Nat):List Evt->TV
 |[]=>.c<|.a<|.fz .N
 |x::l=>.c<|.a<|.osl o 3 0 (x::l).length
abbrev oEv:List Evt->List AObj
 |[]=> []
 |x::l=> [.arz 3<|(x::l).map evR]
def nEv:List Evt->Nat
 |[]=>0
 |_::_=>1
abbrev aBs (l:List Bool):TV:=.c<|qf<|.sl false 1<|l.map λb=> [.bool b]
abbrev epM (o:Nat):TV:=.c<|.a<|.ep o 14 0 0
abbrev stT1 (T:List Bool)(m n s t:Ma)(es fs:List Evt)(i:Int):St:=⟨[(4,aBs T),(11,cb true),(20,epM 0),(21,epM 7),(22,epM 14),(23,epM 21),(24,wEe 28 es),(25,wEe (28+nEv es) fs),(26,ci i)],numO 0<|mOb m<|mOk 7 n<|mOk 14 s<|mOk 21 t<|oEv es++oEv fs,28+nEv es+nEv fs⟩
abbrev stT5 (s t:Ma)(es fs:List Evt)(i:Int):St:=⟨[(11,cb true),(22,epM 0),(23,epM 7),(24,wEe 14 es),(25,wEe (14+nEv es) fs),(31,ci i)],numO 0<|mOb s<|mOk 7 t<|oEv es++oEv fs,14+nEv es+nEv fs⟩
abbrev stT9 (t:Ma)(fs:List Evt)(i:Int):St:=⟨[(11,cb true),(23,epM 0),(25,wEe 7 fs),(35,ci i)],numO 0<|mOb t<|oEv fs,7+nEv fs⟩
def Jv (l y):List.take l.length (l.map evR)++[uX y.k y.vs y.e]=(l++[y]).map evR:=by rw[EV zb,SN];rfl
def aS (l:List Evt):l.length<=(l.map evR).length:=zb
def ev_sub (a x b)(h:a.length<=1000000):List.take (Int.toNat (wrap .i64<|a.length+1)-Int.toNat a.length) (List.drop (0+Int.toNat a.length)<|(a++x::b).map evR)=[evR x]:=by rw[w64 za za,(za:Int.toNat (a.length+1)-Int.toNat a.length=1),(zb:0+Int.toNat a.length=(a.map evR).length),SN,List.drop_left];rfl
def l_t9 (h)(o:h.length<=1000000):∀(b a) (t j),h=a++b->Rn t b j->RPt EF 3 0 (cb true) [] 9 (stT9 t h a.length)
 |[],a,t,j,d,_=>by
  have g:¬a.length<(h.length:Int):=by rw[d];simp
  match h,g with
  |[],g=>exact rpv (v3_9a ..) ⟨rfl,bF g rrl⟩
  |y::q,g=>exact rpv (v3_9b ..)<|bF g rrl
 |x::b,a,t,j,d,.cons u p r=>by
  have i:a.length<=1000000:=by rw[d] at o;simp at o;omega
  have m:a.length<(h.length:Int):=by rw[d];simp;omega
  have ih:=l_t9 h o b (a++[x]) _ j (by rw[d];simp) r;rw[show((a++[x]).length)=wrap .i64 (a.length+1) by rw[w64 za za];simp] at ih;have v:=t8 x.k x.vs x.e p.1 p.2;have es:=ev_sub a x b i;rw[<-d] at es;have w:wrap .i64 (a.length+1)=a.length+1:=w64 za za
  match h,m,ih,es with
  |y::q,m,ih,es=>exact rpv (v3_9b ..)<|bT m ⟨((x.k,x.vs,x.e,x.f),_),u,⟨za,by rw[w];omega,by rw[w];exact m⟩,⟨rfl,by rw[w,Sn];omega⟩,⟨rfl,EI _⟩,true,by rw[es];exact v,rfl,bN ih⟩
def l_t5 (es j)(u:es.length<=1000000)(C:j.length<=1000000)(t v)(o:Rn t j v):∀(b a) (s r),es=a++b->Rn s b r->RPt EF 3 0 (cb true) [] 5 (stT5 s t es j a.length)
 |[],a,s,r,g,_=>by
  have d:¬a.length<(es.length:Int):=by rw[g];simp
  have i:=l_t9 j C j [] t v rfl o
  match es,j,d,i with
  |[],[],d,i=>exact rpv (v3_5a ..) ⟨rfl,bF d i⟩
  |x::l,[],d,i=>exact rpv (v3_5b ..)<|bF d i
  |[],y::q,d,i=>exact rpv (v3_5c ..) ⟨rfl,bF d i⟩
  |x::l,y::q,d,i=>exact rpv (v3_5d ..)<|bF d i
 |x::b,a,s,r,g,.cons D A F=>by
  have p:a.length<=1000000:=by rw[g] at u;simp at u;omega
  have m:a.length<(es.length:Int):=by rw[g];simp;omega
  have ih:=l_t5 es j u C t v o b (a++[x]) _ r (by rw[g];simp) F;rw[show((a++[x]).length)=wrap .i64 (a.length+1) by rw[w64 za za];simp] at ih;have E:=t8 x.k x.vs x.e A.1 A.2;have h:=ev_sub a x b p;rw[<-g] at h;have w:wrap .i64 (a.length+1)=a.length+1:=w64 za za
  match es,j,m,ih,h with
  |z::l,[],m,ih,h=>exact rpv (v3_5b ..)<|bT m ⟨((x.k,x.vs,x.e,x.f),_),D,⟨za,by rw[w];omega,by rw[w];exact m⟩,⟨rfl,by rw[w,Sn];omega⟩,⟨rfl,EI _⟩,true,by rw[h];exact E,rfl,bN ih⟩
  |z::l,y::q,m,ih,h=>exact rpv (v3_5d ..)<|bT m ⟨((x.k,x.vs,x.e,x.f),_),D,⟨za,by rw[w];omega,by rw[w];exact m⟩,⟨rfl,by rw[w,Sn];omega⟩,⟨rfl,EI _⟩,true,by rw[h];exact E,rfl,bN ih⟩
def b_mid (a c b):List.getD ((a++c::b).map λb=>([.bool b]:List FV)) (Int.toNat a.length) []=[.bool c]:=by grind
def l_t1 (T)(v:T.length<=10){M N}:∀(b a) (m n) (es o),T=a++b->es.length+o.length<=a.length->Can b.length m->Can b.length n->Rn M es m->Rn N o n->RPt EF 3 0 (cb true) [] 1 (stT1 T m n M N es o a.length)
 |[],a,m,n,es,o,h,d,H,G,E,D=>by
  have p:¬a.length<(((T.map λb=>([.bool b]:List FV)).length):Int):=by rw[h];simp
  have L:a.length<=10:=zd;have r:=l_t5 es o za za N n D es [] M m rfl E
  match es,o,r with
  |[],[],r=>exact rpv (v3_1a ..) ⟨rfl,bF p r⟩
  |x::l,[],r=>exact rpv (v3_1b ..) ⟨rfl,bF p r⟩
  |[],y::q,r=>exact rpv (v3_1c ..) ⟨rfl,bF p r⟩
  |x::l,y::q,r=>exact rpv (v3_1d ..) ⟨rfl,bF p r⟩
 |c::b,a,m,n,es,o,h,d,H,G,E,D=>by
  have K:a.length<=10:=zd;have g:(a.length:Int)<(((T.map λb=>([.bool b]:List FV)).length:Nat)):=by rw[h];simp;omega
  have u:=b_mid a c b;rw[<-h] at u;have J:((a++[c]).length)=wrap .i64 ((a.length:Int)+1):=by rw[w64 za za];simp
  have i:T=(a++[c])++b:=by rw[h];simp
  have A:(a++[c]).length=a.length+1:=zb;cases c with
  |true=>
   let ⟨x,C,j,F,I⟩:=bM H;have ih:=l_t1 T v b (a++[true]) C n (es++[x]) o i (by rw[A];simp;omega) I G.less (E.snoc j F) D;rw[J] at ih
   match es,o,ih,d with
   |[],[],ih,d=>refine rpv (v3_1a ..) ?_;rw[u];exact⟨rfl,bT g ⟨⟨rfl,za,g,rfl⟩,bP ⟨((x.k,x.vs,x.e,x.f),C),j,EI _,zc,ih⟩⟩⟩
   |z::l,[],ih,d=>refine rpv (v3_1b ..) ?_;rw[u];exact⟨rfl,bT g ⟨⟨rfl,za,g,rfl⟩,bP ⟨((x.k,x.vs,x.e,x.f),C),j,EI _,⟨aS _,by simp at d ⊢;unfold zw;omega⟩,by rw[Jv (z::l) x,show(z::l).length+1=(z::(l++[x])).length by simp];exact ih⟩⟩⟩
   |[],y::q,ih,d=>refine rpv (v3_1c ..) ?_;rw[u];exact⟨rfl,bT g ⟨⟨rfl,za,g,rfl⟩,bP ⟨((x.k,x.vs,x.e,x.f),C),j,EI _,zc,ih⟩⟩⟩
   |z::l,y::q,ih,d=>refine rpv (v3_1d ..) ?_;rw[u];exact⟨rfl,bT g ⟨⟨rfl,za,g,rfl⟩,bP ⟨((x.k,x.vs,x.e,x.f),C),j,EI _,⟨aS _,by simp at d ⊢;unfold zw;omega⟩,by rw[Jv (z::l) x,show(z::l).length+1=(z::(l++[x])).length by simp];exact ih⟩⟩⟩
  |false=>
   let ⟨x,w,j,F,I⟩:=bM G;have ih:=l_t1 T v b (a++[false]) m w es (o++[x]) i (by rw[A];simp;omega) H.less I E<|D.snoc j F;rw[J] at ih
   match es,o,ih,d with
   |[],[],ih,d=>refine rpv (v3_1a ..) ?_;rw[u];exact⟨rfl,bT g ⟨⟨rfl,za,g,rfl⟩,bN ⟨((x.k,x.vs,x.e,x.f),w),j,EI _,zc,ih⟩⟩⟩
   |z::l,[],ih,d=>refine rpv (v3_1b ..) ?_;rw[u];exact⟨rfl,bT g ⟨⟨rfl,za,g,rfl⟩,bN ⟨((x.k,x.vs,x.e,x.f),w),j,EI _,zc,ih⟩⟩⟩
   |[],y::q,ih,d=>refine rpv (v3_1c ..) ?_;rw[u];exact⟨rfl,bT g ⟨⟨rfl,za,g,rfl⟩,bN ⟨((x.k,x.vs,x.e,x.f),w),j,EI _,⟨aS _,by simp at d ⊢;unfold zw;omega⟩,by rw[Jv (y::q) x,show(y::q).length+1=(y::(q++[x])).length by simp];exact ih⟩⟩⟩
   |z::l,y::q,ih,d=>refine rpv (v3_1d ..) ?_;rw[u];exact⟨rfl,bT g ⟨⟨rfl,za,g,rfl⟩,bN ⟨((x.k,x.vs,x.e,x.f),w),j,EI _,⟨aS _,by simp at d ⊢;unfold zw;omega⟩,by rw[Jv (y::q) x,show(y::q).length+1=(y::(q++[x])).length by simp];exact ih⟩⟩⟩
def Y9:AC EF 8 [] [] cB []:=acv (v8 ..) rrl
def od (l)(b:PgOk l 20)(g)(e:CdOk g/\nbC g):∃m,AC EF 7 [aCs l,aC g,cB,cb true] [] aM (mOb m [])/\Can 10 m:=by
 cases h:ZO l g with
 |false=>
  let ⟨m,d,f⟩:=new_bad l g true (by have:=b.1;omega) (λc i=>⟨(b.2 c i).1.2.1,(b.2 c i).2⟩) e.1.2.1 e.2 h;exact⟨m,d,.inl ⟨2,0,zc,f⟩⟩
 |true=>
  obtain⟨m,d,r|⟨G,f,u,o,p,j⟩⟩:=new_good l g true b.1 b.2 e.1 e.2 h
  .exact⟨m,d,.inl r⟩
  .exact⟨m,d,.inr ⟨G,0,[],.nil,f,u,za,j.2,j.1 3000 za za,.inr ⟨o,p⟩⟩⟩
def c_two26 (L)(v:∀c∈L,c.2.1.bk<=2097152/\c.2.2.bk<=2097152/\tmI c.2.1/\tmI c.2.2)(a b)(y:a.bk<=2097152/\tmI a)(o:b.bk<=2097152/\tmI b)(f T):AC EF 3 [aCls L,aT a,aT b,ci f,aBs T] [] (cb true) []:=by
 have sz:∀t:Tm,t.bk<=2097152->t.sz<=B:=λt h=>by have:=Tm.sz_bk t;simp[B];omega
 let ⟨o1,J,X⟩:=fG L (λc u=>⟨sz _ (v c u).1,sz _ (v c u).2.1⟩) a (sz a y.1) f;let ⟨o2,S,N⟩:=fG L (λc u=>⟨sz _ (v c u).1,sz _ (v c u).2.1⟩) b (sz b o.1) f;refine acv (v3 ..) ⟨_,oD,bN ⟨_,J,_,S,zm (λ_=>rrl) λW=>zm (λ_=>rrl) λY=>⟨rfl,zm (λ_=>rrl) λI=>?_⟩⟩⟩;have H:T.length<=10:=zd;let ⟨D,w,U,na,_⟩:=X W;let ⟨_,_,V,M,_⟩:=N Y;have A:=ov_ts v w;let ⟨l,g,p,E,r⟩:=gm L D A a (.ofM y.1 y.2 U na) f;let ⟨l',G,Z,x,j⟩:=gm L D A b (.ofM o.1 o.2 V M) f;refine⟨_,_,_,_,_,_,_,_,E,_,_,_,_,_,_,_,_,x,zm (λ_=>rrl) λO=>zm (λ_=>rrl) λK=>?_⟩;have r:=r zd;let ⟨m,C,F⟩:=od l r.1 g r.2;let ⟨n,z,cn⟩:=od l r.1 G (j zd).2
 have i:∀(d k) {m:Ma},Can (k+d) m->Can k m:=λd=>by
  induction d with
  |zero=>exact λk m h=>h
  |succ d ih=>exact λk m h=>ih k h.less
 have e:T.length+(10-T.length)=10:=za;exact⟨_,_,_,Y9,m,C,_,_,_,Y9,n,z,_,_,_,Y9,m,C,_,_,_,Y9,n,z,l_t1 T H T [] m n [] [] rfl (EI _) (i (10-T.length) _ zd) (i (10-T.length) _ zd) (.nil _) (.nil _)⟩
open Go.ChangeShapes Go.WideShapes Go.ChangeAt Go.RowKit
section
variable {H:Type} {enc:TypeId×Value->H} {P:Program} {w:World}
def open_cls {b:DataW H->Nat} {bs:List (DataW H)->Nat} (hb:Bulk b bs) {T Tt S:TypeId} {g0 g1 g2 g3 f0 f1 f2:Field} (hT:TmTy P Tt g0 g1 g2 g3) (hV:ClTy P T Tt f0 f1 f2) (hS:P.underlying S=some (.slice T)) {r:Reach} {base:Nat} {v:Value} {d:DataW H} {ps:List MemPlace}
  (hv:Value.okWide P w r base S v) (hd:DataW.Trod enc P w 0 (λ_=>true) true S v d ps):∃l:List Cl,TRep w ko β0 (aCls l) v/\∀c∈l,c.2.1.bk<=b d/\c.2.2.bk<=b d/\okI c.2.1/\okI c.2.2:=by
 obtain⟨l,h1,h2⟩:=fe (n:=9) (F:=λv:ClI=>FL v.c) (sz:=λv=>v.2.1.1.bk+v.2.2.1.bk+1) hb (λ_=>rfl) hV.cT za (λ_=>Nat.succ_le_succ<|SQ _) (λk=>rd_cl hb hT hV k) hS hv hd;refine⟨l.map ClI.c,by rw[aCls,CLs,GT];exact h1,λc hc=>?_⟩;obtain⟨v,hv,rfl⟩:=SG.1 hc;have h3:v.2.1.1.bk+v.2.2.1.bk+1<=_:=d7 (sz:=λv:ClI=>v.2.1.1.bk+v.2.2.1.bk+1) hv;exact⟨by show v.2.1.1.bk<=_;omega,by show v.2.2.1.bk<=_;omega,v.2.1.2,v.2.2.2⟩
end
end Go.AM
namespace Go.Proofs.YthpemajiigpfmaaGreat.base
open Go.ChangeShapes Go.WideShapes Go.ChangeAt Go.RowKit Go.AM
def one_le {H:Type}(d:DataW H):1<=Rows.uptoBulk d:=by
 cases d with
 |lit l=>cases l<;>simp[Rows.uptoBulk]
 |_=>simp[Rows.uptoBulk]
def bulk {H:Type}:Bulk (H:=H) Rows.uptoBulk Rows.uptoBulkAll:=
 ⟨rfl,λ_ _=>rfl,one_le,λes b=>by simp only[Rows.uptoBulk];omega,λl=>by simp[Rows.uptoBulk],λl=>by simp[Rows.uptoBulk]⟩
def own:ownKnob EF.godebug=none:=zg
def laidOut:laidOutB EF=true:=zg
def tmTy:∃f0 e d b:Field,TmTy EF 26 f0 e d b:=
 ⟨_,_,_,_,Tryz.underlying26,Tryz.underlying23,Tryz.underlying9,Tryz.underlying3,Tryz.underlying24,rfl,rfl,rfl,rfl,zg,zg,zg,zg,zg⟩
def rec3:EF.readableRec 3=true:=zg
def lt3:3<EF.types.size:=S0 zg
def rec22:EF.readableRec 22=true:=zg
def lt22:22<EF.types.size:=S0 zg
def rec26:EF.readableRec 26=true:=zg
def lt26:26<EF.types.size:=S0 zg
def rec27:EF.readableRec 27=true:=zg
def lt27:27<EF.types.size:=S0 zg
def noGl (g:Nat)(h:EF.globalNamed "internal/strconv.uint64pow10" =some g):False:=by
 rw[(zg:EF.globalNamed "internal/strconv.uint64pow10" =none)] at h;cases h
def nh {n:Int}(h:(Lit.int .i64 n).wf=true): -9223372036854775808<=n/\n<=9223372036854775807:=by simp only[Lit.wf,IntKind.min,IntKind.max,IntKind.signed,IntKind.bits,EN,Sf,S9] at h;omega
def upto {H:Type}{l:List (DataW H)}(b:Rows.uptoSmall H l=true):Rows.uptoBulkAll l<=1048576:=S0 b
end Go.Proofs.YthpemajiigpfmaaGreat.base
