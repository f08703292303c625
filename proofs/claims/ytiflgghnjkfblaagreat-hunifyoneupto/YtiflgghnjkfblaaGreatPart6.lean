/- Laws, part 6. No conditions. -/
import Derived.Test.YtiflgghnjkfblaaGreatPart5
import Derived.Test.YtiflgghnjkfblaaGreatRows
set_option linter.all false
set_option maxRecDepth 100000
open Go Go.Proofs
namespace Go.AM
section
variable {V:Int->Option La}
def HdX (V:Int->Option La)(N:List<|List UInt8)(h:Int)(c:Cel)(hd:La):Prop:=HdL V hd/\(c.t=4/\hd=.var h\/c.t=0/\hd=.con 0 0 (nameOf N c.a)/\0<=c.a/\c.a<(N.length:Int)\/c.t=1/\hd=.con 1 c.a []\/c.t=2/\hd=.con 2 c.a []\/c.t=3/\hd=.bv c.a.toNat/\0<=c.a)
theorem Sv.hd {s:Hp}{Z:List Gh}{G:Nat->Int->Prop}{a:Int}{x:Sd}{A:La}(h:MG V s Z)(sx:Sv V s Z G a x A)(n6:x.c.t≠6):∃hd,Eqv V (mat Z x.h) hd/\HdX V s.N x.h x.c hd:=by
 have ck:=h.at sx.k;rw[sx.c] at ck;have tg:=ck.tg;have n5:=sx.n5;have n7:=sx.n7;have n8:=sx.n8;have n9:=sx.n9;by_cases t4:x.c.t=4
 .obtain⟨a1,a2,_⟩:=ck.x4 t4;have a1:mat Z x.h=.var x.h:=a1;exact⟨.var x.h,by rw[a1];exact .refl _,a2,.inl ⟨t4,rfl⟩⟩
 .by_cases t0:x.c.t=0
  .obtain⟨a1,a2,a3⟩:=ck.x0 t0;exact⟨_,a3,trivial,.inr<|.inl ⟨t0,rfl,a1,a2⟩⟩
  .by_cases t1:x.c.t=1
   .exact⟨_,(ck.x1 t1).2,trivial,.inr<|.inr<|.inl ⟨t1,rfl⟩⟩
   .by_cases t2:x.c.t=2
    .exact⟨_,ck.x2 t2,trivial,.inr<|.inr<|.inr<|.inl ⟨t2,rfl⟩⟩
    .obtain⟨⟨a1,_⟩,a2⟩:=ck.x3 za;exact⟨_,a2,trivial,.inr<|.inr<|.inr<|.inr ⟨za,rfl,a1⟩⟩
theorem name_inj {N:List (List UInt8)}(hN:N.Nodup){a b:Int}(a0:0<=a)(a1:a<(N.length:Int))(b0:0<=b)(b1:b<(N.length:Int))(e:nameOf N a=nameOf N b):a=b:=by
 unfold nameOf at e;rw[oX ⟨a0,a1⟩,oX ⟨b0,b1⟩,rf za,rf za] at e;have:=(List.getElem_inj hN).1 e;omega
theorem HdX.eq {N:List (List UInt8)}(hN:N.Nodup){h g:Int}{c d:Cel}{hd:La}(a:HdX V N h c hd)(b:HdX V N g d hd):c.t=d.t/\(c.t≠4->c.a=d.a/\∀z,hd ≠ .var z)/\(c.t=4->h=g):=by
 obtain⟨_,a⟩:=a;obtain⟨_,b⟩:=b;rcases a with⟨a1,a2⟩|⟨a1,a2,a3,a4⟩|⟨a1,a2⟩|⟨a1,a2⟩|⟨a1,a2,a3⟩<;>rcases b with⟨b1,b2⟩|⟨b1,b2,b3,b4⟩|⟨b1,b2⟩|⟨b1,b2⟩|⟨b1,b2,b3⟩<;>(rw[a2] at b2;try (exact La.noConfusion b2))
 .injection b2 with b2
  exact⟨za,λw=>absurd a1 w,λ_=>b2⟩
 .injection b2 with _ _ b2
  exact⟨za,λ_=>⟨name_inj hN a3 a4 b3 b4 b2,λz w=>by rw[a2] at w;cases w⟩,λw=>za⟩
 .injection b2 with b2;exact absurd b2 zc
 .injection b2 with b2;exact absurd b2 zc
 .injection b2 with b2;exact absurd b2 zc
 .injection b2 with _ b2
  exact⟨za,λ_=>⟨b2,λz w=>by rw[a2] at w;cases w⟩,λw=>za⟩
 .injection b2 with b2;exact absurd b2 zc
 .injection b2 with b2;exact absurd b2 zc
 .injection b2 with b2;exact absurd b2 zc
 .injection b2 with _ b2
  exact⟨za,λ_=>⟨b2,λz w=>by rw[a2] at w;cases w⟩,λw=>za⟩
 .injection b2 with b2
  exact⟨za,λ_=>⟨za,λz w=>by rw[a2] at w;cases w⟩,λw=>za⟩
theorem zip_pg (hV:ClV V){M:Int->Int}{W:List Gh}:∀ {js ks:List Int} {L L':List La},All2 (λx X=>Me V W x X) js L->All2 (λx X=>Me V W x X) ks L'->All2 (Eqv V) L L'->(∀a∈L,Gd V M pT pT a)->(∀a∈L',Gd V M pT pT a)->∀q∈js.zip ks,PGz V M (mat W q.1) (mat W q.2)
 |[],_,_,_,_,_,_,_,_,q,h=>by rw[List.zip_nil_left] at h;cases h
 |_::_,[],_,_,_,_,_,_,_,q,h=>by rw[List.zip_nil_right] at h;cases h
 |_::_,_::_,[],_,h,_,_,_,_,_,_=>h.elim
 |_::_,_::_,_::_,[],_,h,_,_,_,_,_=>h.elim
 |a::js,b::ks,A::L,B::L',h1,h2,h3,g1,g2,q,h=>by
  rw[List.zip_cons_cons] at h;rcases rx.1 h with r|r
  .rw[r];exact⟨(h1.1.e.trans hV h3.1).trans hV h2.1.e.symm,(g1 A r7).eqv hV h1.1.e.symm,(g2 B r7).eqv hV h2.1.e.symm⟩
  .exact zip_pg hV h1.2 h2.2 h3.2 (λa ha=>g1 a<|r9 _ ha) (λa ha=>g2 a<|r9 _ ha) q r
def Sq (V:Int->Option La)(M:Int->Int)(W:List Gh)(H:Nat->Int->Prop)(q:Int×Int):Prop:=(Kin W q.1/\Kin W q.2)/\(H 0 q.1/\H 0 q.2)/\PGz V M (mat W q.1) (mat W q.2)
theorem one_a {w:Wp}{Z:List Gh}{G:Nat->Int->Prop}{d:Int}{M:Int->Int}(h:MG V w.s Z)(hN:NmV w.s.N)(hg:Rg w.s G)(hm:Rm w.s w.f<|d+4)(d0:0<=d)(hM:∀x,0<=M x->Mz Z x=M x){p:Int×Int}(hp:Sq V M Z G p):
  (oneW w p).1.1=80/\(oneW w p).2.s.N=w.s.N\/(oneW w p).1.1=0/\Aw V w Z G d (oneW w p).2 (λW H=> ∀q∈(oneW w p).1.2,Sq V M W H q):=by
 have hV:=h.cl;obtain⟨⟨k1,k2⟩,⟨g1,g2⟩,pg⟩:=hp;unfold oneW;rcases look_a h hg hm za (.self k1) g1 with⟨q,qn⟩|⟨q,E,H,a1,a2,a3,a4,a5,a6,sx⟩
 .rw[oX<|by rw[q];decide];exact .inl ⟨q,qn⟩
 rw[oV<|by rw[q];simp];generalize lookW w p.1=z at*;rcases look_a a1 a5 a6 za (.self<|k2.app E) (a4 0 _ g2) with⟨q1,qn⟩|⟨q1,F,I,b1,b2,b3,b4,b5,b6,sy⟩
 .rw[oX<|by rw[q1];decide];exact .inl ⟨q1,qn.trans a3⟩
 rw[oV<|by rw[q1];simp];generalize lookW z.2 p.2=z' at*;have sx:=sx.up a5 F b2 b4;rw[zJ E k2] at sy
 have hM2:∀x,0<=M x->Mz (Z++E++F) x=M x:=λx hx=>by
  have:=hM x hx;have k:=Mz_in (Z:=Z) (x:=x) (by rw[this];exact hx);rw[xR F<|k.app E,xR E k];exact this
 have hN2:NmV z'.2.s.N:=by rw[b3,a3];exact hN
 have fin:∀ {v:Wp} {P:List Gh->(Nat->Int->Prop)->Prop},Aw V z'.2 (Z++E++F) I d v P->Aw V w Z G d v P:=λ⟨E',H',c1,c2,c3,c4,c5,c6,c7⟩=>⟨E++F++E',H',by rw[<-rh,<-rh];exact c1,(a2.trans b2).trans c2,(c3.trans b3).trans a3,(a4.trans b4).trans c4,c5,c6,by rw[<-rh,<-rh];exact c7⟩;generalize z.1.1=x at*;generalize z'.1.1=y at*;have kk1:=(k1.app E).app F;have kk2:=(k2.app E).app F;unfold oneG;split
 next q6=>obtain⟨u1,u2⟩:=under_a (p:=p) b1 hN2 b5 b6 d0 sx sy ⟨kk1,by rw[zJ F<|k1.app E,zJ E k1];exact .refl _⟩ ⟨kk2,by rw[zJ F<|k2.app E,zJ E k2];exact .refl _⟩ (b4 0 _<|a4 0 _ g1) (b4 0 _<|a4 0 _ g2) pg q6;exact .inr ⟨u1,fin u2⟩
 rename_i q6;obtain⟨L,x1,x2⟩:=sx.w;obtain⟨L',y1,y2⟩:=sy.w;obtain⟨hx,e1,e2⟩:=sx.hd b1 λw=>q6<|.inl w
 obtain⟨hy,f1,f2⟩:=sy.hd b1 λw=>q6<|.inr w
 have ex:=x2.trans hV<|wq hV L e1
 have ey:=y2.trans hV<|wq hV L' f1
 obtain⟨eh,eL⟩:=XQ e2.1 f2.1<|(ex.symm.trans hV pg.1).trans hV ey
 subst eh;obtain⟨ct,ca,ch⟩:=e2.eq hN2.1 f2;split
 .rename_i q4;obtain⟨c1,c2,c3⟩:=q4
  have hv:hx=.var x.h:=by
   have:=e2.2;rcases this with w|w|w|w|w
   .exact w.2
   .omega
   .omega
   .omega
   .omega
  rw[hv] at ex;have lv:=b1.lv sx.k (by rw[sx.c];exact c1);rw[sx.c] at lv;obtain⟨ls,P⟩:=pg.2.1.pat hV lv.2.2 ex;have hMx:M x.h=x.c.a:=by rw[<-hM2 _ P.c0];exact lv.1
  rcases prune_a b1 hN2 b5 (b6.le za) d0 sx sy c1 c2 c3 hMx pg with⟨u,un⟩|⟨u1,u2⟩
  .exact .inl ⟨u,(un.trans b3).trans a3⟩
  .refine .inr ⟨u1,fin ?_⟩;obtain⟨E',H',c1,c2,c3,c4,c5,c6,c7⟩:=u2;exact⟨E',H',c1,c2,c3,c4,c5,c6,λq hq=>nomatch hq⟩
 rename_i q4;have nx:x.c.t≠4:=λw=>q4 ⟨w,za,ch w⟩;rw[oV nx,oV za];have hl:x.js.length=y.js.length:=by rw[kL x1,kL eL,<-kL y1]
 have cl:YU x y=false:=by
  unfold YU;rw[ct,(ca nx).1,hl];simp
 rw[oV<|by rw[cl];simp];refine .inr ⟨rfl,fin ⟨[],I,by rw[rp];exact b1,Keep.refl _,rfl,λ_ _ h=>h,b5,b6.le za,λq hq=>?_⟩⟩;rw[rp];have hm:=List.of_mem_zip (a:=q.1) (b:=q.2) hq;exact⟨fI x1 y1 q hq,⟨sx.gl _ hm.1,sy.gl _ hm.2⟩,zip_pg hV x1 y1 eL (pg.2.1.args hV e2.1 (ca nx).2 ex) (pg.2.2.args hV e2.1 (ca nx).2 ey) q hq⟩
theorem run_a {d:Int}{M:Int->Int}(d0:0<=d):∀(n:Nat) (w:Wp) (Z:List Gh) (G:Nat->Int->Prop) (st:List<|Int×Int),MG V w.s Z->NmV w.s.N->Rg w.s G->Rm w.s w.f d->(∀x,0<=M x->Mz Z x=M x)->(∀q∈st,Sq V M Z G q)->
  ((runZ n w st).1=80\/(runZ n w st).1=0/\NS w.s (runZ n w st).2.s)/\(runZ n w st).2.s.N=w.s.N
 |n,w,Z,G,[],_,_,_,_,_,_=>⟨.inr ⟨by cases n<;>rfl,by cases n<;>exact Keep.refl _⟩,by cases n<;>rfl⟩
 |0,w,Z,G,_::_,_,_,_,_,_,_=>⟨.inl rfl,rfl⟩
 |n+1,w,Z,G,p::st,h,hN,hg,hm,hM,hst=>by
  rw[runZ];split
  .exact⟨.inl rfl,rfl⟩
  rename_i qf;rcases one_a (w:=⟨w.s,w.f-1⟩) h hN hg (hm.less za) d0 hM (hst p r7) with⟨q,qn⟩|⟨q,E,H,a1,a2,a3,a4,a5,a6,a7⟩
  .rw[oX<|by rw[q];decide];exact⟨.inl q,qn⟩
  rw[oV<|by rw[q];simp]
  obtain⟨r,rn⟩:=run_a d0 n (oneW ⟨w.s,w.f-1⟩ p).2 (Z++E) H ((oneW ⟨w.s,w.f-1⟩ p).1.2++st) a1 (by rw[a3];exact hN) a5 a6 (λx hx=>by
    have:=hM x hx;rw[xR E<|Mz_in<|by rw[this];exact hx];exact this) (λq hq=>by
    rcases rQ.1 hq with r|r
    .exact a7 q r
    .obtain⟨⟨s1,s2⟩,⟨s3,s4⟩,s5⟩:=hst q (r9 _ r);exact⟨⟨s1.app E,s2.app E⟩,⟨a4 0 _ s3,a4 0 _ s4⟩,by rw[zJ E s1,zJ E s2];exact s5⟩)
  exact⟨r.imp id λw=>⟨w.1,a2.trans w.2⟩,rn.trans a3⟩
theorem Tls.mem {s:Hp}{P:Int->Prop}:∀ {l:List Int} {w:Tm} {k:Nat} {u:Tm},Tls s P l w k u->∀x∈l,∃j v,Tl s P x j v
 |_,_,_,_,.nil=>λ_ h=>nomatch h
 |_,_,_,_,.cons a b=>λx hx=>by
  rcases rx.1 hx with w|w
  .exact⟨_,_,w▸a⟩
  .exact b.mem x w
def OnT (s:Hp)(P:Int->Prop)(x:Int)(l:List Int):Prop:=∃a j v k,Tl s P a j v/\Pa s a x l k
theorem tl_rg {s:Hp}{P:Int->Prop}:Rg s (λi x=>(i=0/\∃l,OnT s P x l)\/(i=1/\∃l,OnT s P x l/\l≠[])):=by
 have key:∀ {x:Int} {l:List Int},OnT s P x l->∃h m k,Sp s x l h m k/\((cellOf s.C h).t=6->∃j v,Tl s P (cellOf s.C h).a j v)/\(∀y∈m,∃j v,Tl s P y j v):=λ⟨a,j,v,k,t,p⟩=>by
  cases t with
  |lam _ sp h6 b=>
   obtain⟨i,e⟩:=sp.at p;exact⟨_,_,_,e,λ_=>⟨_,_,b⟩,λ_ h=>nomatch h⟩
  |app _ sp h6 b=>
   obtain⟨i,e⟩:=sp.at p;exact⟨_,_,_,e,λw=>absurd w h6,b.mem⟩
 have o0:∀ {x:Int},((0=0/\∃l,OnT s P x l)\/(0=1/\∃l,OnT s P x l/\l≠[]))->∃l,OnT s P x l:=λw=>by
  rcases w with w|w
  .exact w.2
  .exact absurd w.1 zc
 have o1:∀ {x:Int},((1=0/\∃l,OnT s P x l)\/(1=1/\∃l,OnT s P x l/\l≠[]))->∃l,OnT s P x l/\l≠[]:=λw=>by
  rcases w with w|w
  .exact absurd w.1 zc
  .exact w.2
 refine⟨λx hx=>?_,λx hx=>?_,λx hx=>?_,λx hx=>?_⟩
 .obtain⟨l,o⟩:=o0 hx;have o':=o;obtain⟨a,j,v,k,t,p⟩:=o';obtain⟨h,m,k',e,e6,em⟩:=key o;cases e with
  |done h1 h2 h3 h4 h5 h6=>exact⟨h1,h2,λw=>absurd w h3,λw=>by obtain⟨j,v,q⟩:=e6 w;exact .inl ⟨rfl,[],_,_,_,0,q,.nil⟩,λw=>absurd w h4,λw=>absurd w h5⟩
  |ref h1 h2 e=>exact⟨h1,za,λ_=>.inl ⟨rfl,l,a,j,v,k,t,p.ref h1 h2⟩,λw=>za,λw=>za,λw=>za⟩
  |app h1 h2 e=>
   refine⟨h1,za,λw=>za,λw=>za,λ_=>⟨.inr ⟨rfl,_,⟨a,j,v,_,t,p.app h1 h2⟩,zb⟩,?_⟩,λw=>za⟩;obtain⟨j,v,q⟩:=em _<|e.mem _ r7
   exact .inl ⟨rfl,[],_,_,_,0,q,.nil⟩
 .obtain⟨l,o⟩:=o0 hx;obtain⟨h,m,k',e,_⟩:=key o;obtain⟨e,c,_,h5,_⟩:=e.ch;exact⟨e,c,h5⟩
 .obtain⟨l,o,hl⟩:=o1 hx;have o':=o;obtain⟨a,j,v,k,t,p⟩:=o';obtain⟨h,m,k',e,e6,em⟩:=key o;refine⟨.inl ⟨rfl,l,o⟩,?_⟩;cases e with
  |done h1 h2 h3 h4 h5 h6=>exact⟨λw=>hl<|h6 w,λw=>absurd w h3,λw=>absurd w h5⟩
  |ref h1 h2 e=>exact⟨za,λ_=>.inr ⟨rfl,l,⟨a,j,v,k,t,p.ref h1 h2⟩,hl⟩,λw=>za⟩
  |app h1 h2 e=>exact⟨za,λw=>za,λw=>za⟩
 .rcases hx with hx|hx
  .exact absurd hx.1 zc
  .exact absurd hx.1 zc
end
section
variable {V:Int->Option La}
theorem Kn {K:Nat}{s:Hp}(ok:OkH s)(nm:NmB K s){Z:List Gh}(h:MG V s Z)(hN:NmV s.N){a b:Int}(ka:Kin Z a)(kb:Kin Z b)(n8:nfC qA s.C<=8)(e:(allZ s [a] [b] 5000).1.2=0):
  ∃V' E,MG V' (allZ s [a] [b] 5000).2 (Z++E)/\NmV (allZ s [a] [b] 5000).2.N/\PGz V' (Mz<|Z++E) (mat (Z++E) a) (mat (Z++E) b)/\(allZ s [a] [b] 5000).2.C.length<=s.C.length+500000/\(allZ s [a] [b] 5000).2.T.length<=s.T.length+500000/\Mv true s (allZ s [a] [b] 5000).2/\NmB K (allZ s [a] [b] 5000).2:=by
 have okw:OkW K ⟨s,5000⟩:=⟨ok,zm,zm,nm⟩;have hk:∀q∈ [(a,b)],Kin Z q.1/\Kin Z q.2:=λq hq=>by rw[rJ.1 hq];exact⟨ka,kb⟩
 unfold allZ at e ⊢;split at e
 .exact absurd e (by show¬(1:Int)=0;decide)
 rename_i q1;rw[oV q1];split at e
 next q2=>exact absurd e q2
 rename_i q2;rw[oV q2];have q2:(runZ (5000:Int).toNat ⟨s,5000⟩<|[a].zip [b]).1=0:=zo q2
 rw[show [a].zip [b]=[(a,b)] from rfl] at q2 ⊢;obtain⟨V',E,a1,a2,a3,a4,a5⟩:=runZ_m (V:=V) (Z:=Z) _ _ [(a,b)] okw (by dsimp only;decide) h hN hk q2;have g:=run_w (V:=V) (Z:=Z) _ _ [(a,b)] okw (by dsimp only;decide) h hN hk n8 q2;have o:=YO (5000:Int).toNat [(a,b)] okw (by dsimp only;decide);have gc:=g.c;have gt:=g.t;have of:=o.f0;dsimp only at gc gt ⊢;have p:=a5 (a,b) r7 [];rw[rp] at p;exact⟨V',E,a2,a3,p,za,za,o.mv,o.n q2⟩
theorem nY {s:Hp}{f:Int}{Z:List Gh}{P Q:Int->Prop}(f0:0<=f)(h:MG V s Z)(hN:NmV s.N){a:Int}{A:La}(hk:Me V Z a A)(hE:Ev s P Q)(e:(zQ s a f).1.2.2=0):
  ∃P' Q' k raw,(∀x,P x->P' x)/\Ev (zQ s a f).2 P' Q'/\Tl (zQ s a f).2 P' a k raw/\(k:Int)<=f/\(zQ s a f).1.1=(if validB raw=true then zy raw else raw)/\Fr P s (zQ s a f).2/\(zQ s a f).2.C.length<=s.C.length+4*f.toNat/\(zQ s a f).2.T.length<=s.T.length+4*f.toNat:=by
 have tl:=fj (2*f.toNat+2) (f.toNat+1) P Q ⟨s,f,0⟩ a Z A (r6 _) (r6 _) h hN (λ_=>hk) hE;have fr:=Y2 (2*f.toNat+2) (f.toNat+1) ⟨s,f,0⟩ a Z A (r6 _) (r6 _) h hN (λ_=>hk) hE;have fw:=(WP (q:=qA) (2*f.toNat+2) (f.toNat+1) ⟨s,f,0⟩ a<|r6 _).1;have mv:=(Mvr.full (s0:=s) (2*f.toNat+2) (f.toNat+1) ⟨s,f,0⟩ a ⟨.refl s,f0⟩).2;unfold zQ at e ⊢;generalize fulR (2*f.toNat+2) (f.toNat+1) ⟨s,f,0⟩ a=z at*;by_cases q:z.2.e=0
 .have q2:¬z.2.e≠0:=λw=>w q;rw[oV q2];obtain⟨P',Q',k,p1,p2,p3,p4⟩:=tl q;have gc:=fw.c;have gt:=fw.t;dsimp only at p4 gc gt ⊢;exact⟨P',Q',k,z.1,p1,p2,p3,za,rfl,fr,za,za⟩
 .have q2:z.2.e≠0:=q;rw[oX q2] at e;exact absurd e q
theorem full_tl2 {s:Hp}{f:Int}{P:Int->Prop}{a:Int}{k:Nat}{raw:Tm}(t:Tl s P a k raw)(hk:(k:Int)<=f):(zQ s a f).1.2.2=0/\(zQ s a f).1.1=(if validB raw=true then zy raw else raw):=by
 have e:=t.full (N:=2*f.toNat+2) (f.toNat+1) f hk (r6 _)<|r6 _
 unfold zQ;rw[e];dsimp only;rw[oV zb];exact⟨rfl,rfl⟩
theorem Sp.cells {s t:Hp}(c:t.C=s.C){a h:Int}{l m:List Int}{k:Nat}(q:Sp s a l h m k):Sp t a l h m k:=by
 induction q with
 |done h1 h2 h3 h4 h5 h6=>exact .done (by rw[c];exact h1) (by rw[c];exact h2) (by rw[c];exact h3) (by rw[c];exact h4) (by rw[c];exact h5) (by rw[c];exact h6)
 |ref h1 h2 _ ih=>exact .ref (by rw[c];exact h1) (by rw[c];exact h2) (by rw[c];exact ih)
 |app h1 h2 _ ih=>exact .app (by rw[c];exact h1) (by rw[c];exact h2) (by rw[c];exact ih)
mutual
theorem Tl.cells {s t:Hp}{P:Int->Prop}(c:t.C=s.C)(n:t.N=s.N):∀ {a:Int} {k:Nat} {u:Tm},Tl s P a k u->Tl t P a k u
 |_,_,_,.lam ha sp h6 b=>.lam ha (sp.cells c) (by rw[c];exact h6) (by rw[c];exact Tl.cells c n b)
 |_,_,_,.app ha sp h6 b=>.app ha (sp.cells c) (by rw[c];exact h6) (by rw[JC (by rw[c]) n];exact Tls.cells c n b)
theorem Tls.cells {s t:Hp}{P:Int->Prop}(c:t.C=s.C)(n:t.N=s.N):∀ {l:List Int} {w:Tm} {k:Nat} {u:Tm},Tls s P l w k u->Tls t P l w k u
 |_,_,_,_,.nil=>.nil
 |_,_,_,_,.cons a b=>.cons (Tl.cells c n a)<|Tls.cells c n b
end
theorem one_law {K:Nat} {s:Hp} (ok:OkH s) (nm:NmB K s) (gz:GoodZ s) {Z:List Gh} (h:MG V s Z) (hN:NmV s.N) {a b:Int} (ka:Kin Z a) (kb:Kin Z b) (n8:nfC qA s.C<=8) (hC:s.C.length<=10000) (hT:s.T.length<=10000) (hM:s.M=1000000) (hL:s.L=1000000) (e1:(allZ s [a] [b] 5000).1.2=0)
  (e2:(zQ (allZ s [a] [b] 5000).2 a 5000).1.2.2=0) (e3:(zQ (zQ (allZ s [a] [b] 5000).2 a 5000).2 b 5000).1.2.2=0):
  (zQ (zQ (allZ s [a] [b] 5000).2 a 5000).2 b 5000).1.1=(zQ (allZ s [a] [b] 5000).2 a 5000).1.1/\
  ((allZ (zQ (zQ (allZ s [a] [b] 5000).2 a 5000).2 b 5000).2 [a] [b] 20000).1.2=0\/(allZ (zQ (zQ (allZ s [a] [b] 5000).2 a 5000).2 b 5000).2 [a] [b] 20000).1.2=80)/\
  (zQ (allZ (zQ (zQ (allZ s [a] [b] 5000).2 a 5000).2 b 5000).2 [a] [b] 20000).2 a 5000).1.2.2=0/\
  (zQ (allZ (zQ (zQ (allZ s [a] [b] 5000).2 a 5000).2 b 5000).2 [a] [b] 20000).2 a 5000).1.1=(zQ (allZ s [a] [b] 5000).2 a 5000).1.1:=by
 obtain⟨V',E,a1,a2,a3,a4,a5,a6,a7⟩:=Kn ok nm h hN ka kb n8 e1;have l2:=a6.len;have g2:=(a6.later gz).1;generalize (allZ s [a] [b] 5000).2=s2 at*;have ka2:=ka.app E;have kb2:=kb.app E;have same:=mS (g:=5000) a1 a2 (.self ka2) (.self kb2) a3.1 e2 e3;obtain⟨P1,Q1,k,raw,_,p2,p3,p4,p5,_,p7,p8⟩:=nY (P:=λ_=>False) (Q:=λ_=>False) zc a1 a2 (.self ka2) ⟨λ_ h=>h.elim,λ_ h=>h.elim⟩ e2;obtain⟨F,b1,_,b3,_⟩:=YY a1 a2 (.self ka2) e2;have m3:=(kT s2 a 5000 zc).1;have l3:=m3.len;have g3:=(m3.later g2).1;generalize hz3:zQ s2 a 5000=z3 at*;have hN3:NmV z3.2.N:=by rw[b3];exact a2
 obtain⟨P2,Q2,k2,raw2,q1,q2,q3,q4,q5,q6,q7,q8⟩:=nY zc b1 hN3 (.self<|kb2.app F) p2 e3;obtain⟨G,c1,_,c3,_⟩:=YY b1 hN3 (.self<|kb2.app F) e3;have m4:=(kT z3.2 b 5000 zc).1;have l4:=m4.len;have g4:=(m4.later g3).1;generalize zQ z3.2 b 5000=z4 at*;have hN4:NmV z4.2.N:=by rw[c3];exact hN3
 have ta:Tl z4.2 P1 a k raw:=p3.fr p2 q6 c3;have rg:=tl_rg (s:=z4.2) (P:=P2);have ga:(λ(i:Nat) (x:Int)=>(i=0/\∃l,OnT z4.2 P2 x l)\/(i=1/\∃l,OnT z4.2 P2 x l/\l≠[])) 0 a:=.inl ⟨rfl,[],a,k,raw,0,ta.up q1,.nil⟩;have gb:(λ(i:Nat) (x:Int)=>(i=0/\∃l,OnT z4.2 P2 x l)\/(i=1/\∃l,OnT z4.2 P2 x l/\l≠[])) 0 b:=.inl ⟨rfl,[],b,k2,raw2,0,q3,.nil⟩;have oa:=rg.u a ga;have ob:=rg.u b gb
 have hodd:∀ {x:Int},inC z4.2.C x=true->(cellOf z4.2.C x).t<9->oddZ z4.2.C x=false:=λh1 h2=>by
  unfold oddZ;rw[h1];simp;omega
 have st:Sq V' (Mz<|Z++E) (Z++E++F++G) (λ(i:Nat) (x:Int)=>(i=0/\∃l,OnT z4.2 P2 x l)\/(i=1/\∃l,OnT z4.2 P2 x l/\l≠[])) (a,b):=by
  refine⟨⟨(ka2.app F).app G,(kb2.app F).app G⟩,⟨ga,gb⟩,?_⟩;dsimp only;rw[zJ G<|ka2.app F,zJ G<|kb2.app F,zJ F ka2,zJ F kb2];exact a3
 obtain⟨r,rn⟩:=run_a (d:=0) (M:=Mz<|Z++E) zc (20000:Int).toNat ⟨z4.2,20000⟩ (Z++E++F++G) _ [(a,b)] c1 hN4 rg ⟨zm,zm,zm⟩ (λx hx=>by
  have:=Mz_in hx;rw[xR G<|this.app F,xR F this]) (λq hq=>by rw[rJ.1 hq];exact st)
 have e4:allZ z4.2 [a] [b] 20000=if (runZ (20000:Int).toNat ⟨z4.2,20000⟩ [(a,b)]).1≠0 then((0,(runZ (20000:Int).toNat ⟨z4.2,20000⟩ [(a,b)]).1),vH (runZ (20000:Int).toNat ⟨z4.2,20000⟩ [(a,b)]).2.s z4.2.C.length z4.2.T.length)
   else(((runZ (20000:Int).toNat ⟨z4.2,20000⟩ [(a,b)]).2.f,0),(runZ (20000:Int).toNat ⟨z4.2,20000⟩ [(a,b)]).2.s):=by
  unfold allZ;rw[oV<|by simp[hodd oa.1 oa.2.1,hodd ob.1 ob.2.1]];rfl
 have nm4:NmB K z4.2:=m4.nm<|m3.nm a7
 have okw:OkW K ⟨z4.2,20000⟩:=⟨c1.ok,zm,zm,nm4⟩;have o:=YO (20000:Int).toNat [(a,b)] okw (by dsimp only;decide);have lat:=(o.mv.later g4).2;generalize runZ (20000:Int).toNat ⟨z4.2,20000⟩ [(a,b)]=y at*;rw[e4]
 have fin:∀ {t:Hp},Tl t P1 a k raw->(zQ t a 5000).1.2.2=0/\(zQ t a 5000).1.1=z3.1.1:=λh=>by
  obtain⟨t1,t2⟩:=full_tl2 h p4;exact⟨t1,by rw[t2,p5]⟩
 rcases r with r|⟨r,r2⟩
 .rw[oX<|by rw[r];decide];have lb:=lat.back;have t5:Tl (vH y.2.s z4.2.C.length z4.2.T.length) P1 a k raw:=Tl.cells lb.1 rn ta;exact⟨same,.inr r,fin t5⟩
 .rw[oV<|by rw[r];simp];have ev4:Ev z4.2 P1 Q1:=p2.fr q6;exact⟨same,.inl rfl,fin<|ta.fr ev4 (ev4.ns r2) rn⟩
end
section
variable {β:Type}
def oN (n:Nat)(K:Nat->β):β:=match n with
 |0=>K 0
 |k+1=>K<|k+1
def oI (n:Int)(K:Int->β):β:=match n with
 |.ofNat k=>oN k λk=>K<|.ofNat k
 |.negSucc k=>oN k λk=>K<|.negSucc k
def oL {α:Type}(f:α->(α->β)->β):List α->(List α->β)->β
 |[],K=>K []
 |x::l,K=>f x λx=>oL f l λl=>K<|x::l
def o1 {α:Type}(x:α)(K:α->β):β:=K x
def oB (b:Bool)(K:Bool->β):β:=match b with
 |true=>K true
 |false=>K false
def oF (x:FV)(K:FV->β):β:=match x with
 |.int k n=>oI n λn=>K<|.int k n
 |.bool b=>oB b λb=>K<|.bool b
 |.str l=>oL o1 l λl=>K<|.str l
 |.sl nn n es=>oB nn λnn=>oN n λn=>oL (oL o1) es λes=>K<|.sl nn n es
 |.pt cs=>oL o1 cs λcs=>K<|.pt cs
 |.mp es=>oL o1 es λes=>K<|.mp es
 |.z0 nn=>oB nn λnn=>K<|.z0 nn
 |.N=>K .N
 |.cst v=>K<|.cst v
def oA (x:AV)(K:AV->β):β:=match x with
 |.fz x=>oF x λx=>K<|.fz x
 |.ep o n i j=>oN o λo=>oN n λn=>oN i λi=>oN j λj=>K<|.ep o n i j
 |.osl o n i j=>oN o λo=>oN n λn=>oN i λi=>oN j λj=>K<|.osl o n i j
 |.mp o=>oN o λo=>K<|.mp o
 |.bld t o=>oN t λt=>oN o λo=>K<|.bld t o
 |.osb o e n=>oN o λo=>oN e λe=>oN n λn=>K<|.osb o e n
 |.any=>K .any
def oP {α γ:Type}(f:α->(α->β)->β)(g:γ->(γ->β)->β)(p:α×γ)(K:α×γ->β):β:=match p with
 |(a,b)=>f a λa=>g b λb=>K (a,b)
def oW (x:WV)(K:WV->β):β:=match x with
 |.a x=>oA x λx=>K<|.a x
 |.fn f a b=>oL (oP oB<|oL oA) a λa=>oL (oP oB<|oL oA) b λb=>K<|.fn f a b
def oT (x:TV)(K:TV->β):β:=match x with
 |.any=>K .any
 |.c x=>oW x λx=>K<|.c x
 |.agg cs=>oL oW cs λcs=>K<|.agg cs
 |.tup vs=>oL (oP oB<|oL oW) vs λvs=>K<|.tup vs
def oO (x:AObj)(K:AObj->β):β:=match x with
 |.gone=>K .gone
 |.arr n es=>oN n λn=>oL (oL oW) es λes=>K<|.arr n es
 |.arz n fs=>oN n λn=>oL (oL oF) fs λfs=>K<|.arz n fs
 |.mapo es=>oL (oP (oP oB<|oL oF)<|oP oB<|oL oW) es λes=>K<|.mapo es
 |.mapz es=>oL (oP (oP oB<|oL oF)<|oP oB<|oL oF) es λes=>K<|.mapz es
def jS {α:Type}(f:α->(α->β)->β):Prop:=∀x K,f x K=K x
theorem yW:jS (oN (β:=β)):=λx K=>by cases x<;>rfl
theorem opens_I:jS (oI (β:=β)):=λx K=>by cases x<;>(simp only[oI];rw[yW])
theorem Wr {α:Type}:jS (o1 (α:=α) (β:=β)):=λ_ _=>rfl
theorem vK:jS (oB (β:=β)):=λx K=>by cases x<;>rfl
theorem yi {α:Type}{f:α->(α->β)->β}(h:jS f):jS (oL f):=λl=>by
 induction l with
 |nil=>exact λ_=>rfl
 |cons x l ih=>intro K;simp only[oL];rw[h,ih]
theorem vO {α γ:Type}{f:α->(α->β)->β}{g:γ->(γ->β)->β}(hf:jS f)(hg:jS g):jS (oP f g):=λp K=>by
 obtain⟨a,b⟩:=p;simp only[oP];rw[hf,hg]
theorem Xf:jS (oF (β:=β)):=λx K=>by
 cases x<;>simp only[oF]
 .rw[opens_I]
 .rw[vK]
 .rw[yi Wr]
 .rw[vK,yW,yi<|yi Wr]
 .rw[vK]
 .rw[yi Wr]
 .rw[yi Wr]
theorem fR:jS (oA (β:=β)):=λx K=>by
 cases x<;>simp only[oA]
 .rw[Xf]
 .rw[yW,yW,yW,yW]
 .rw[yW,yW,yW,yW]
 .rw[yW]
 .rw[yW,yW]
 .rw[yW,yW,yW]
theorem Xe:jS (oW (β:=β)):=λx K=>by
 cases x<;>simp only[oW]
 .rw[fR]
 .rw[yi<|vO vK<|yi fR,yi<|vO vK<|yi fR]
theorem ZN:jS (oT (β:=β)):=λx K=>by
 cases x<;>simp only[oT]
 .rw[Xe]
 .rw[yi Xe]
 .rw[yi<|vO vK<|yi Xe]
theorem d7:jS (oO (β:=β)):=λx K=>by
 cases x<;>simp only[oO]
 .rw[yW,yi<|yi Xe]
 .rw[yW,yi<|yi Xf]
 .rw[yi<|vO (vO vK<|yi Xf)<|vO vK<|yi Xe]
 .rw[yi<|vO (vO vK<|yi Xf)<|vO vK<|yi Xf]
end
abbrev RunF:=FuncId->List TV->List AObj->Option (TV×List AObj)
def WZ (P:Program)(run:RunF):Prop:=∀f args Hs r Hs',run f args Hs=some (r,Hs')->AC P f args Hs r Hs'
def nE:AV->AV->Bool
 |.fz (.int k n),.fz (.int k' n')=>(decide (k=k')&&decide (n=n'))
 |.ep a b c d,.ep a' b' c' d'=>Nat.beq a a'&&Nat.beq b b'&&Nat.beq c c'&&Nat.beq d d'
 |_,_=>false
def cG:List WV->List WV->Bool
 |[],[]=>true
 |.a x::l,.a y::r=>nE x y&&cG l r
 |_,_=>false
def sameO:AObj->AObj->Bool
 |.arr n [e],.arr n' [e']=>Nat.beq n n'&&cG e e'
 |_,_=>false
theorem lh {x y:AV}(h:nE x y=true):x=y:=by
 unfold nE at h;split at h
 .grind
 .simp_all
 .cases h
theorem gR:∀ {x y:List WV},cG x y=true->x=y
 |[],[],_=>rfl
 |.a x::l,.a y::r,h=>by
  simp only[cG,oZ] at h;rw[lh h.1,gR h.2]
 |[],_::_,h=>by cases h
 |.a _::_,[],h=>by cases h
 |.fn _ _ _::_,[],h=>by cases h
 |.fn _ _ _::_,.a _::_,h=>by cases h
 |.fn _ _ _::_,.fn _ _ _::_,h=>by cases h
 |.a _::_,.fn _ _ _::_,h=>by cases h
theorem sameO_eq {x y:AObj}(h:sameO x y=true):x=y:=by
 unfold sameO at h;split at h
 .simp only[oZ] at h;rw[sw h.1,gR h.2]
 .cases h
def keptX (u:AHeap)(h:Nat->AObj)(ids:List Nat):List Nat:=ids.filter λi=>match ya u i with|some y=>sameO y (h i)|none=>false
def dR (run:RunF)(f:FuncId)(args:List TV)(h:Nat->AObj)(fr:Nat):Option (TV×AHeap×List Nat):=
 match Kb h 400 (args.flatMap TV.ids) [] with
 |ids=>match j7 ids&&ids.all (λo=>Js (h o)&&(h o).inn ids)&&args.all (TV.inn ids)&&ids.all (λo=>Nat.blt o fr) with
  |true=>match run f (args.map<|TV.ren<|inv ids) (ids.map λo=>(h o).ren<|inv ids) with
   |some (r,Hs')=>match Nat.ble Hs'.length (ids.length+32) with
    |true=>match keptX (yD (sub ids fr) ids Hs') h ids with
     |F=>some (r.ren<|sub ids fr,(yD (sub ids fr) ids Hs'++xG (sub ids fr) fr (Hs'.drop ids.length)).filter λp=> !F.contains p.1,ids)
    |false=>none
   |none=>none
  |false=>none
theorem gV {P:Program}{run:RunF}(hr:WZ P run){f:FuncId}{args:List TV}{h:Nat->AObj}{fr:Nat}{r:TV}{u:AHeap}{rd:List Nat}(hc:dR run f args h fr=some (r,u,rd)):
  CallK P f args h fr λr' u' rd'=>r'=r/\u'=u/\rd'=rd:=by
 unfold dR at hc;generalize Kb h 400 (args.flatMap TV.ids) []=ids at hc;simp only at hc;split at hc
 .rename_i hb;simp only[oZ] at hb;obtain⟨⟨⟨h1,h2⟩,h3⟩,h0⟩:=hb;have h0:∀i∈ids,i<fr:=λi hi=>rR<|rP.1 h0 i hi
  have ha:=ZY (fr:=fr) h3;have ho:=kG (fr:=fr) h2;split at hc
  .rename_i r0 Hs' hrun;split at hc
   .rename_i hlen;simp only[r8,rX] at hc;refine⟨ids,[],_,_,_,_,hr _ _ _ _ _ hrun,⟨xv h1,h0⟩,rR hlen,ho.1,?_,ha.2,ho.2,.inl rfl,keptX (yD (sub ids fr) ids Hs') h ids,λi hi=>?_,zd⟩
    .rw[yM,ha.1];exact kH
    .have h5:=(tQ.1 hi).2;split at h5
     next y hy=>rw[hy,sameO_eq h5]
     .cases h5
   .cases hc
  .cases hc
 .cases hc
def callX (run:RunF)(mode:FuncId->Nat)(f:FuncId)(args:List TV)(h:Nat->AObj)(fr:Nat):Option (TV×AHeap×List Nat):=
 match Nat.ble (mode f) 1 with
 |true=>dR run f args h fr
 |false=>match args.flatMap (ZR h) with
  |L=>match dR run f (args.map<|TV.lend L) (over (L.map λp=>(p.1,AObj.gone)) h) fr with
   |some (r,u,rd)=>some (r,u++L.map λp=>(p.1,AObj.gone),rd++L.map Prod.fst)
   |none=>none
theorem callX_ok {P:Program}{run:RunF}{mode:FuncId->Nat}(hr:WZ P run){f:FuncId}{args:List TV}{h:Nat->AObj}{fr:Nat}{r:TV}{u:AHeap}{rd:List Nat}(hc:callX run mode f args h fr=some (r,u,rd)):
  CallE P f args h fr λr' u' rd'=>r'=r/\u'=u/\rd'=rd:=by
 unfold callX at hc;split at hc
 .refine⟨[],(λp hp=>by cases hp),?_⟩;rw[yM];have e:over (([]:Lent).map λp=>(p.1,AObj.gone)) h=h:=by funext o;rfl
  exact(gV hr hc).imp λr u rd hk=>zd
 .refine⟨args.flatMap<|ZR h,jz.ok,?_⟩;simp only at hc;split at hc
  .rename_i r1 u1 rd1 hk;refine(gV hr hk).imp λr u rd hk=>?_
   grind
  .cases hc
section
variable (P:Program) (run:RunF) (mode:FuncId->Nat)
def stepX (fr:Nat)(o:Oper)(e:Env)(h:AHeap)(tr:wd):Option (Env×AHeap×wd):=
 match goCall o.op with
 |some c=>match calleeOf (ev e) c with
  |some (f,args)=>match callX run mode f args (hook h) fr with
   |some (r,u,rd)=>oT r λr=>some (putE o.dst r e,u++h,(rd,u.map Prod.fst)::tr)
   |none=>none
  |none=>none
 |none=>match aopS P o fr (ev e) (hook h) with
  |some r=>oT r.val λv=>some (putE o.dst v e,r.upd++h,(r.rd,r.upd.map Prod.fst)::tr)
  |none=>none
def lexX (ops:Array Oper)(nx:Nat):List Oper->Nat->Env->AHeap->wd->Option (Env×AHeap×wd)
 |[],_,e,h,tr=>some (e,h,tr)
 |o::rest,i,e,h,tr=>match want ops o (look e) with
  |none=>none
  |some w=>match (match w with|true=>stepX P run mode (nx+32*i) o e h tr|false=>some (putE o.dst (.tup []) e,h,([],[])::tr)) with
   |some (e,h,tr)=>lexX ops nx rest (i+1) e h tr
   |none=>none
variable {P run mode}
theorem Wn (hr:WZ P run){ops:Array Oper}{nx:Nat}:∀ {l:List Oper} {i:Nat} {e:Env} {h:AHeap} {tr:wd} {e1:Env} {h1:AHeap} {tr1:wd},
  lexX P run mode ops nx l i e h tr=some (e1,h1,tr1)->lex P ops nx l i e h tr λe h tr=>e=e1/\h=h1/\tr=tr1
 |[],_,_,_,_,_,_,_,hl=>by
  simp only[lexX,r8,rX] at hl;exact hl
 |o::rest,i,e,h,tr,e1,h1,tr1,hl=>by
  unfold lexX at hl;unfold lex gM;split at hl
  .cases hl
  .rename_i w hw;rw[hw];simp only;split at hl
   .rename_i e2 h2 tr2 he;have ih:=Wn hr hl;cases w with
    |false=>grind
    |true=>
     simp only at he;rw[oX rfl];unfold stepX at he;unfold p9;cases hg:goCall o.op with
     |some c=>
      rw[hg] at he;simp only at he ⊢;split at he
      .rename_i f args hcl;rw[hcl];split at he
       .rename_i r u rd hcall;rw[ZN] at he;refine(callX_ok hr hcall).imp λr' u' rd' hk=>?_
        grind
       .cases he
      .cases he
     |none=>
      rw[hg] at he;simp only at he ⊢;split at he
      .rename_i r ha;rw[ZN] at he
       grind
      .cases he
   .cases hl
end
def lr (m:Nat)(U live:List Nat)(s:St):Option St:=
 match Zs m U (hook s.heap) (live.flatMap λt=>(look s.env t).ids) with
 |rest=>match okU m U rest&&(keep m U++rest).all (λo=>(hook s.heap o).inn<|keep m U++rest)&&live.all (λt=>(look s.env t).inn<|keep m U++rest) with
  |true=>oL (oP oN oT) (live.map λt=>(t,(look s.env t).ren<|invU m rest)) λenv=>oL oO (jB m U rest<|hook s.heap) λobs=>some ⟨env,yO 0 obs,m+rest.length⟩
  |false=>none
theorem J8 {m:Nat}{U live:List Nat}{s s':St}(h:lr m U live s=some s'):Sle m s s':=by
 have hg:jY m [(0,live),(1000001,U)] (λ_ s1=>s1=s') 0 s:=by
  unfold lr at h;unfold jY;simp only[ya,rG,lvU,show¬((0:Nat)=1000001) by decide,rN];simp only at h ⊢;split at h
  .rename_i hb
   try rw[hb]
   rw[yi<|vO yW ZN,yi d7,r8] at h;exact h
  .cases h
 obtain⟨s1,h1,h2⟩:=jK hg
 grind
def ip (m:Nat)(s:St):List Nat:=(List.range m).filter λo=> !Js (hook s.heap o)
section
variable (P:Program) (run:RunF) (mode:FuncId->Nat) (bks:FuncId->Option (TypeId×TypeId)) (n m lf:Nat)
def regX (ops:Array Oper)(d:Bool)(s:St):Option St:=
 match dstB ops n with
 |true=>match lexX P run mode ops s.nx ops.toList 0 s.env s.heap [] with
  |some (e,h,tr)=>match !d||WH ops tr with
   |true=>some ⟨e,h,s.nx+32*ops.size⟩
   |false=>none
  |none=>none
 |false=>none
def loopX (F:St->Option (AExit×St)):Nat->St->Option (AExit×St)
 |0,_=>none
 |k+1,s=>match lr m (ip m s) (List.range n) s with
  |some s=>match F s with
   |some (.normal,s)=>loopX F k s
   |r=>r
  |none=>none
def asgX:Code->St->Option St
 |.region _ ops false,s=>match vD ops with
  |true=>regX P run mode n ops false s
  |false=>none
 |.seq a b,s=>match asgX a s with
  |some s=>asgX b s
  |none=>none
 |_,_=>none
def cV:TV->TV->Bool
 |.c (.a (.osl a b c d)),.c (.a (.osl a' b' c' d'))=>Nat.beq a a'&&Nat.beq b b'&&Nat.beq c c'&&Nat.beq d d'
 |.c (.a (.fz .N)),.c (.a (.fz .N))=>true
 |_,_=>false
def boxX (dS:TyD)(oc:Nat)(h:AHeap):TV:=match wR dS (λo=>flat<|hook h o) (.c<|.a<|.ep oc 1 0 0) with
 |some (v,_)=>v
 |none=>.any
def elX (dS dE:TyD)(xs:TV)(k:Nat)(h:AHeap):Option (TV×TV):=match xb P dS xs (iV k) with
 |some y=>match wR dE (λo=>flat<|hook h o) y with
  |some (v,_)=>some (y,v)
  |none=>none
 |none=>none
def goX (dS dE:TyD)(xs:TV)(oc p1 p2:Nat)(env:Env)(m0:Nat)(FA:St->Option St)(FB:St->Option (AExit×St)):Nat->AHeap->Nat->Option (AHeap×Nat)
 |0,h,nx=>some (h,nx)
 |k+1,h,nx=>match elX P dS dE xs k h with
  |some (_,v)=>match FA ⟨(p2,v)::(p1,iV k)::env,h,nx⟩ with
   |some s=>match FB s with
    |some (.normal,s)=>match lr m0 (ip m0 s) [] s with
     |some s=>match cV (boxX dS oc s.heap) xs&&Nat.ble m0 s.nx with
      |true=>goX dS dE xs oc p1 p2 env m0 FA FB k s.heap s.nx
      |false=>none
     |none=>none
    |_=>none
   |none=>none
  |none=>none
def rngOf:TV->Option (FuncId×Nat)
 |.c (.fn (.func bk) [] [(false,[.ep oc 1 0 0])])=>some (bk,oc)
 |_=>none
def rngX (g:Operand)(ps:List Nat)(FA:St->Option St)(FB:St->Option (AExit×St))(pb:Bool)(s:St):Option (AExit×St):=
 match rngOf (ev s.env g),ps with
 |some (bk,oc),[p1,p2]=>match bks bk with
  |some (S,E)=>match tyOf P S,tyOf P E with
   |some dS,some dE=>match boxX dS oc s.heap with
    |xs=>match Xl xs with
     |some (N,_)=>match pb&&(match dS.kind with|.slice e=>Nat.beq e E|_=>false)&&cV (boxX dS oc s.heap) xs&&Nat.blt p1 n&&Nat.blt p2 n&&s.env.all (λp=>p.2.lt s.nx)&&Nat.blt oc s.nx&&Nat.blt N 9223372036854775808&&Nat.ble m s.nx with
      |true=>match goX P dS dE xs oc p1 p2 s.env s.nx FA FB N s.heap s.nx with
       |some (h,nx)=>some (.normal,⟨s.env,h,nx⟩)
       |none=>none
      |false=>none
     |none=>none
   |_,_=>none
  |none=>none
 |_,_=>none
def xP:Code->St->Option (AExit×St)
 |.skip,s=>some (.normal,s)
 |.ret,s=>some (.ret,s)
 |.exit i,s=>some (.exit i,s)
 |.seq a b,s=>match xP a s with
  |some (.normal,s)=>xP b s
  |r=>r
 |.cond x a b,s=>match ev s.env x with
  |.c (.a (.fz (.bool t)))=>match t with
   |true=>xP a s
   |false=>xP b s
  |_=>none
 |.block i c,s=>match xP c s with
  |some (.exit j,s)=>match Nat.beq j i with
   |true=>some (.normal,s)
   |false=>some (.exit j,s)
  |r=>r
 |.region _ ops d,s=>match regX P run mode n ops d s with
  |some s=>some (.normal,s)
  |none=>none
 |.loop c,s=>loopX n m (xP c) lf s
 |.scope c,s=>xP c s
 |.label _,s=>some (.normal,s)
 |.rangeFunc g ps A b,s=>match lr m (ip m s) (List.range n) s with
  |some s=>rngX P bks n m g ps.toList (asgX P run mode n A) (xP b) (wB b) s
  |none=>none
 |_,_=>none
variable {P run mode bks n m lf}
theorem Awp.le {c:Code}{Q:AExit->St->Prop}{s s':St}(hs:Sle m s s')(h:Awp P n m c Q s'):Awp P n m c Q s:=Awp.weak hs h
theorem cm {c:Code}{F:St->Option (AExit×St)}(hF:∀s e s',F s=some (e,s')->Awp P n m c (λe1 s1=>e1=e/\s1=s') s):∀ {k:Nat} {s:St} {e:AExit} {s':St},
  loopX n m F k s=some (e,s')->Alwp P n m c (λe1 s1=>e1=e/\s1=s') s
 |0,_,_,_,h=>by cases h
 |k+1,s,e,s',h=>by
  unfold loopX at h;split at h
  .rename_i s1 hs1;refine Alwp.weak (J8 hs1)<|Alwp.unroll ?_
   split at h
   next s2 h2=>refine(hF _ _ _ h2).mono λe1 s1 hk=>?_;obtain⟨rfl,rfl⟩:=hk;exact cm hF h
   .rename_i hne;refine(hF _ _ _ h).mono λe1 s1 hk=>?_;obtain⟨rfl,rfl⟩:=hk;cases e1 with
    |normal=>exact absurd h<|hne _
    |_=>exact⟨rfl,rfl⟩
  .cases h
theorem regX_ok (hP:P.follows .mixedOrders=true)(hr:WZ P run){i:Nat}{ops:Array Oper}{d:Bool}{s s':St}(hnd:vD ops=true)(h:regX P run mode n ops d s=some s'):AwpR P n m (.region i ops d) (λe1 s1=>e1=.normal/\s1=s') s:=by
 unfold regX at h;split at h
 .rename_i hd;refine AwpR.region hP hd hnd ?_;split at h
  .rename_i e2 h2 tr2 hl;split at h
   .rename_i hb;rw[r8] at h;subst h;refine kP ?_<|Wn hr hl
    rintro e1 h1 tr1 ⟨rfl,rfl,rfl⟩;refine⟨λhd2=>?_,rfl,rfl⟩;subst hd2;exact zo hb
   .cases h
  .cases h
 .cases h
theorem dx (hr:WZ P run):∀ {A:Code} {s s':St},asgX P run mode n A s=some s'->AsgS P n A s λs1=>s1=s'
 |.seq a b,s,s',h=>by
  unfold asgX at h;split at h
  next s1 h1=>exact AsgS.seq (dx hr h1) λs2 e=>by subst e;exact dx hr h
  .cases h
 |.region i ops false,s,s',h=>by
  unfold asgX at h;split at h
  .rename_i hnd;unfold regX at h;split at h
   .rename_i hd;split at h
    .rename_i e2 h2 tr2 hl;split at h
     .rw[r8] at h;subst h;refine AsgS.region hnd hd<|kP ?_<|Wn hr hl
      rintro e1 h1 tr1 ⟨rfl,rfl,rfl⟩;rfl
     .cases h
    .cases h
   .cases h
  .cases h
 |.region i ops true,s,s',h=>by cases h
 |.skip,_,_,h=>by cases h
 |.ret,_,_,h=>by cases h
 |.exit _,_,_,h=>by cases h
 |.cond ..,_,_,h=>by cases h
 |.block ..,_,_,h=>by cases h
 |.loop _,_,_,h=>by cases h
 |.rangeFunc ..,_,_,h=>by cases h
 |.scope _,_,_,h=>by cases h
 |.label _,_,_,h=>by cases h
 |.goto _,_,_,h=>by cases h
 |.refuse _,_,_,h=>by cases h
theorem vG (hP:P.follows .mixedOrders=true)(hr:WZ P run):∀ {c:Code} {s:St} {e:AExit} {s':St},wB c=true->xP P run mode bks n m lf c s=some (e,s')->∀ {m0:Nat},AwpR P n m0 c (λe1 s1=>e1=e/\s1=s') s
 |.skip,s,e,s',_,h,_=>by
  simp only[xP,r8,rX] at h;exact AwpR.skip ⟨h.1,h.2⟩
 |.ret,s,e,s',_,h,_=>by
  simp only[xP,r8,rX] at h;exact AwpR.ret ⟨h.1,h.2⟩
 |.exit i,s,e,s',_,h,_=>by
  simp only[xP,r8,rX] at h;exact AwpR.exit ⟨h.1,h.2⟩
 |.seq a b,s,e,s',hp,h,_=>by
  simp only[wB,oZ] at hp;unfold xP at h;refine AwpR.seq ?_;split at h
  next s1 h1=>refine(vG hP hr hp.1 h1).mono λe1 s2 hk=>?_;obtain⟨rfl,rfl⟩:=hk;exact vG hP hr hp.2 h
  .rename_i hne;refine(vG hP hr hp.1 h).mono λe1 s2 hk=>?_;obtain⟨rfl,rfl⟩:=hk;cases e1 with
   |normal=>exact absurd h<|hne _
   |_=>exact⟨rfl,rfl⟩
 |.cond x a b,s,e,s',hp,h,_=>by
  simp only[wB,oZ] at hp;unfold xP at h;split at h
  .rename_i t ht;cases t with
   |true=>exact AwpR.cond ht (λ_=>vG hP hr hp.1 h) (λe=>by cases e)
   |false=>exact AwpR.cond ht (λe=>by cases e) λ_=>vG hP hr hp.2 h
  .cases h
 |.block i c,s,e,s',hp,h,_=>by
  simp only[wB,oZ] at hp;unfold xP at h;refine AwpR.block ?_;split at h
  .rename_i j s1 h1;refine(vG hP hr hp.2 h1).mono λe1 s2 hk=>?_;obtain⟨rfl,rfl⟩:=hk;simp only[yj];split at h
   next hb=>rw[oX<|sw hb];simp only[r8,rX] at h;exact⟨h.1,h.2⟩
   next hb=>rw[oV<|Nat.ne_of_beq_eq_false hb];simp only[r8,rX] at h;exact⟨h.1,h.2⟩
  .rename_i hne;refine(vG hP hr hp.2 h).mono λe1 s2 hk=>?_;obtain⟨rfl,rfl⟩:=hk;cases e1 with
   |exit j=>exact absurd h<|hne _ _
   |_=>exact⟨rfl,rfl⟩
 |.region i ops d,s,e,s',hp,h,_=>by
  unfold xP at h;split at h
  next s1 h1=>simp only[r8,rX] at h;obtain⟨rfl,rfl⟩:=h;exact regX_ok hP hr hp h1
  .cases h
 |.loop _,_,_,_,hp,_,_=>by cases hp
 |.rangeFunc ..,_,_,_,hp,_,_=>by cases hp
 |.scope _,_,_,_,hp,_,_=>by cases hp
 |.label _,_,_,_,hp,_,_=>by cases hp
 |.goto _,_,_,_,hp,_,_=>by cases hp
 |.refuse _,_,_,_,hp,_,_=>by cases hp
theorem mV {x y:TV}(h:cV x y=true):x=y:=by
 unfold cV at h;split at h
 .simp only[oZ] at h;rw[sw h.1.1.1,sw h.1.1.2,sw h.1.2,sw h.2]
 .rfl
 .cases h
theorem ia {dS:TyD}{oc:Nat}{h:AHeap}{xs:TV}(hx:boxX dS oc h=xs)(hn:xs ≠ .any):∃rd,wR dS (λo=>flat<|hook h o) (.c<|.a<|.ep oc 1 0 0)=some (xs,rd):=by
 unfold boxX at hx;split at hx
 next v rd e=>exact⟨rd,by rw[e,hx]⟩
 .exact absurd hx.symm hn
theorem rngX_ok {g:Operand} {ps:Array Nat} {A b:Code} {FA:St->Option St} {FB:St->Option (AExit×St)} {s s':St} {e:AExit} (hbk:∀f S E,bks f=some (S,E)->IsBk P f S E)
  (hA:∀s s',FA s=some s'->AsgS P n A s λs1=>s1=s') (hB:wB b=true->∀s e s',FB s=some (e,s')->∀ {m0:Nat},AwpR P n m0 b (λe1 s1=>e1=e/\s1=s') s)
  (h:rngX P bks n m g ps.toList FA FB (wB b) s=some (e,s')):Awp P n m (.rangeFunc g ps A b) (λe1 s1=>e1=e/\s1=s') s:=by
 unfold rngX at h;split at h
 .rename_i bk oc p1 p2 hg hps;have hps:ps= #[p1,p2]:=by cases ps;simp at hps;rw[hps]
  subst hps
  have hg:ev s.env g=.c (.fn (.func bk) [] [(false,[.ep oc 1 0 0])]):=by
   unfold rngOf at hg;split at hg
   next e1=>simp only[r8,rX] at hg;rw[e1,hg.1,hg.2]
   .cases hg
  split at h
  .rename_i S E hSE;split at h
   .rename_i dS dE hS hE;dsimp only at h;generalize hxs:boxX dS oc s.heap=xs at h;split at h
    .rename_i N rdn hlen;split at h
     .rename_i hb;simp only[oZ] at hb;obtain⟨⟨⟨⟨⟨⟨⟨⟨b1,b2⟩,b3⟩,b4⟩,b5⟩,b6⟩,b7⟩,b8⟩,b9⟩:=hb
      have hk:dS.kind=.slice E:=by
       split at b2
       next e1 he=>rw[he,sw b2]
       .cases b2
      have hany:xs ≠ .any:=λe=>by rw[e] at hlen;cases hlen
      split at h
      .rename_i hf nf hgo;simp only[r8,rX] at h;obtain⟨rfl,rfl⟩:=h;obtain⟨env,h0,nx0⟩:=s;dsimp only at*
       refine cw (α:=Nat×AHeap×Nat) (H:=λx=>x.2.1) (nx:=λx=>x.2.2) (idx:=λx=>x.1) (m0:=nx0) (xs:=xs) (N:=N) (x0:=(N,h0,nx0))
        (y:=λx=>match elX P dS dE xs (x.1-1) x.2.1 with|some (y,_)=>y|none=>.any) (v:=λx=>match elX P dS dE xs (x.1-1) x.2.1 with|some (_,v)=>v|none=>.any)
        (Inv:=λx=>(nx0<=x.2.2/\boxX dS oc x.2.1=xs)/\goX P dS dE xs oc p1 p2 env nx0 FA FB x.1 x.2.1 x.2.2=some (hf,nf))
        (hbk _ _ _ hSE) hS hk hE (rR b9) (λp hp=>rP.1 b6 p hp) hg (rR b7) (λx hx=>hx.1.1) (λx hx=>ia hx.1.2 hany) hlen (rR b8)
        (λx k hx hix=>?_) (rR b4) (rR b5) (λx k hx hix=>?_) ⟨⟨r6 _,hxs⟩,hgo⟩ rfl (λx hx hix=>?_)
       .obtain⟨i,hh,nn⟩:=x;dsimp only at hx hix ⊢;subst hix;have h2:=hx.2;unfold goX at h2;rw[tL];split at h2
        .rename_i y v hel
         try rw[hel]
         unfold elX at hel;split at hel
         .rename_i y1 hy;split at hel
          next v1 rd hv=>simp only[r8,rX] at hel;exact⟨rd,by rw[hy,hel.1],by rw[<-hel.1,hv,hel.2]⟩
          .cases hel
         .cases hel
        .cases h2
       .obtain⟨i,hh,nn⟩:=x;dsimp only at hx hix ⊢;subst hix;have h2:=hx.2;unfold goX at h2;rw[tL];split at h2
        .rename_i y v hel
         try rw[hel]
         try dsimp only
         split at h2
         .rename_i s1 hs1;refine(hA _ _ hs1).mono λs2 e=>?_;subst e;split at h2
          .rename_i s3 hs3;refine(hB b1 _ _ _ hs3).mono λe1 s4 hk=>?_;obtain⟨rfl,rfl⟩:=hk;split at h2
           .rename_i s5 hs5;split at h2
            next hb2=>simp only[oZ] at hb2;exact⟨rfl,(k,s5.heap,s5.nx),⟨⟨⟨rR hb2.2,mV hb2.1⟩,h2⟩,rfl⟩,(J8 hs5).noEnv⟩
            .cases h2
           .cases h2
          .cases h2
         .cases h2
        .cases h2
       .obtain⟨i,hh,nn⟩:=x;dsimp only at hx hix ⊢;subst hix;have h2:=hx.2;simp only[goX,r8,rX] at h2;rw[h2.1,h2.2];exact⟨rfl,rfl⟩
      .cases h
     .cases h
    .cases h
   .cases h
  .cases h
 .cases h
theorem wu (hP:P.follows .mixedOrders=true)(hr:WZ P run)(hbk:∀f S E,bks f=some (S,E)->IsBk P f S E):∀ {c:Code} {s:St} {e:AExit} {s':St},xP P run mode bks n m lf c s=some (e,s')->Awp P n m c (λe1 s1=>e1=e/\s1=s') s
 |.skip,s,e,s',h=>by
  simp only[xP,r8,rX] at h;exact Awp.skip ⟨h.1,h.2⟩
 |.ret,s,e,s',h=>by
  simp only[xP,r8,rX] at h;exact Awp.ret ⟨h.1,h.2⟩
 |.exit i,s,e,s',h=>by
  simp only[xP,r8,rX] at h;exact Awp.exit ⟨h.1,h.2⟩
 |.seq a b,s,e,s',h=>by
  unfold xP at h;refine Awp.seq ?_;split at h
  next s1 h1=>refine(wu hP hr hbk h1).mono λe1 s2 hk=>?_;obtain⟨rfl,rfl⟩:=hk;exact wu hP hr hbk h
  .rename_i hne;refine(wu hP hr hbk h).mono λe1 s2 hk=>?_;obtain⟨rfl,rfl⟩:=hk;cases e1 with
   |normal=>exact absurd h<|hne _
   |_=>exact⟨rfl,rfl⟩
 |.cond x a b,s,e,s',h=>by
  unfold xP at h;split at h
  .rename_i t ht;cases t with
   |true=>exact Awp.cond ht (λ_=>wu hP hr hbk h) (λe=>by cases e)
   |false=>exact Awp.cond ht (λe=>by cases e) λ_=>wu hP hr hbk h
  .cases h
 |.block i c,s,e,s',h=>by
  unfold xP at h;refine Awp.block ?_;split at h
  .rename_i j s1 h1;refine(wu hP hr hbk h1).mono λe1 s2 hk=>?_;obtain⟨rfl,rfl⟩:=hk;simp only[yj];split at h
   next hb=>rw[oX<|sw hb];simp only[r8,rX] at h;exact⟨h.1,h.2⟩
   next hb=>rw[oV<|Nat.ne_of_beq_eq_false hb];simp only[r8,rX] at h;exact⟨h.1,h.2⟩
  .rename_i hne;refine(wu hP hr hbk h).mono λe1 s2 hk=>?_;obtain⟨rfl,rfl⟩:=hk;cases e1 with
   |exit j=>exact absurd h<|hne _ _
   |_=>exact⟨rfl,rfl⟩
 |.region i ops d,s,e,s',h=>by
  unfold xP at h;split at h
  .rename_i s1 h1;simp only[r8,rX] at h;obtain⟨rfl,rfl⟩:=h;unfold regX at h1;split at h1
   .rename_i hd;refine Awp.region hP hd ?_;split at h1
    .rename_i e2 h2 tr2 hl;split at h1
     .rename_i hb;rw[r8] at h1;subst h1;refine kP ?_<|Wn hr hl
      rintro e1 h1 tr1 ⟨rfl,rfl,rfl⟩;refine⟨λhd2=>?_,rfl,rfl⟩;subst hd2;exact zo hb
     .cases h1
    .cases h1
   .cases h1
  .cases h
 |.loop c,s,e,s',h=>by
  unfold xP at h;exact Alwp.loop<|cm (λs e s' hs=>wu hP hr hbk hs) h
 |.rangeFunc g ps A b,s,e,s',h=>by
  unfold xP at h;split at h
  next s1 hs1=>exact Awp.le (J8 hs1)<|rngX_ok hbk (λ_ _=>dx hr) (λhp _ _ _=>vG hP hr hp) h
  .cases h
 |.scope c,s,e,s',h=>by
  unfold xP at h;exact Awp.scope<|wu hP hr hbk h
 |.label _,s,e,s',h=>by
  simp only[xP,r8,rX] at h;exact Awp.label ⟨h.1,h.2⟩
 |.goto _,_,_,_,h=>by cases h
 |.refuse _,_,_,_,h=>by cases h
end
def lentR (fz:Bool)(h:Nat->AObj)(rs:List TV):Lent:=match fz with|true=>rs.flatMap (ZR h)|false=> []
theorem lentR_ok {fz:Bool}{h:Nat->AObj}{rs:List TV}:LentOK h (lentR fz h rs):=by
 cases fz with
 |true=>exact jz
 |false=>exact λp hp=>nomatch hp
def retX (P:Program)(fz:Bool)(rl:List ResultVar)(m:Nat)(U:List Nat)(s:St):Option (TV×List AObj):=
 match Km P s rl with
 |none=>none
 |some rs=>match lentR fz (hook s.heap) rs with
  |E=>match U++(E.map Prod.fst).filter (λo=>Nat.blt o m) with
   |U=>match Zs m U (hook s.heap) ((rs.map<|TV.lend E).flatMap TV.ids) with
    |rest=>match okU m U rest&&(keep m U++rest).all (λo=>(hook s.heap o).inn<|keep m U++rest)&&(rs.map<|TV.lend E).all (TV.inn<|keep m U++rest)&&E.all (λp=> !(keep m U++rest).contains p.1) with
     |true=>match dg ((rs.map<|TV.lend E).map<|TV.ren<|invU m rest) with
      |some r0=>oT r0 λr0=>oL oO (jB m U rest<|hook s.heap) λHs=>some (r0,Hs)
      |none=>none
     |false=>none
theorem lY {P:Program}{fz:Bool}{rl:List ResultVar}{m:Nat}{U:List Nat}{s:St}{r:TV}{Hs':List AObj}(h:retX P fz rl m U s=some (r,Hs')):iA P rl m r Hs' s:=by
 unfold retX at h;split at h
 .cases h
 .rename_i rs hrs;dsimp only at h;split at h
  .rename_i hb;simp only[oZ] at hb;obtain⟨⟨⟨h1,h2⟩,h3⟩,h5⟩:=hb;split at h
   .rename_i r0 hr0;rw[ZN,yi d7] at h;obtain⟨rfl,rfl⟩:=h;refine WQ (E:=lentR fz (hook s.heap) rs) hrs rfl lentR_ok.ok h1 h2 h3 (λp hp hm=>?_) hr0 (.refl _)
    grind
   .cases h
  .cases h
def runX (P:Program)(mode:FuncId->Nat)(bks:FuncId->Option (TypeId×TypeId))(O:RunF)(lf:Nat):Nat->RunF
 |0,_,_,_=>none
 |k+1,f,args,Hs=>match O f args Hs with
  |some x=>some x
  |none=>match P.funcs[f]? with
   |some fn=>match fn.body with
    |some c=>match xq P f&&Nat.ble args.length fn.ntmps&&Hs.all Js with
     |true=>oL oT args λargs=>oL oO Hs λHs=>match xP P (runX P mode bks O lf k) mode bks fn.ntmps Hs.length lf c ⟨jU 0 args,yO 0 Hs,Hs.length⟩ with
      |some (.exit _,_)=>none
      |some (_,s)=>match retX P (Nat.ble 1 (mode f)&&Nat.ble (mode f) 2) fn.results.toList Hs.length (ip Hs.length s) s with
       |some (r,Hs')=>match Nat.ble Hs.length Hs'.length&&(Hs'.drop Hs.length).all Js with
        |true=>some (r,Hs')
        |false=>none
       |none=>none
      |none=>none
     |false=>none
    |none=>none
   |none=>none
theorem oQ {P:Program}{mode:FuncId->Nat}{bks:FuncId->Option (TypeId×TypeId)}{O:RunF}{lf:Nat}(hO:WZ P O)(hP:P.follows .mixedOrders=true)(hbk:∀f S E,bks f=some (S,E)->IsBk P f S E):∀k,WZ P (runX P mode bks O lf k)
 |0=>λf args Hs r Hs' h=>by cases h
 |k+1=>λf args Hs r Hs' h=>by
  unfold runX at h;split at h
  next x hx=>rw[h] at hx;exact hO _ _ _ _ _ hx
  split at h
  .rename_i fn hf;split at h
   .rename_i c hc;split at h
    .rename_i hb;simp only[oZ] at hb;rw[yi ZN,yi d7] at h
     have key:∀ {e:AExit} {s:St},xP P (runX P mode bks O lf k) mode bks fn.ntmps Hs.length lf c ⟨jU 0 args,yO 0 Hs,Hs.length⟩=some (e,s)->(∀i,e ≠ .exit i)->
       (match retX P (Nat.ble 1 (mode f)&&Nat.ble (mode f) 2) fn.results.toList Hs.length (ip Hs.length s) s with
       |some (r,Hs')=>match Nat.ble Hs.length Hs'.length&&(Hs'.drop Hs.length).all Js with
        |true=>some (r,Hs')
        |false=>none
       |none=>none)=some (r,Hs')->AC P f args Hs r Hs':=by
      intro e s hs he h;split at h
      .rename_i r1 Hs1 hret;split at h
       .rename_i hb2;simp only[oZ] at hb2;simp only[r8,rX] at h;obtain⟨rfl,rfl⟩:=h;refine AC.intro hf hc rfl rfl hb.1.1 (rR hb.1.2) (rR hb2.1) (λx hx=>YV<|rP.1 hb.2 x hx) (λx hx=>YV<|rP.1 hb2.2 x hx) ?_;refine(wu hP (oQ hO hP hbk k) hbk hs).mono λe1 s1 hk=>?_;obtain⟨rfl,rfl⟩:=hk;cases e1 with
        |exit i=>exact absurd rfl (he i)
        |normal=>exact lY hret
        |ret=>exact lY hret
       .cases h
      .cases h
     cases hs:xP P (runX P mode bks O lf k) mode bks fn.ntmps Hs.length lf c ⟨jU 0 args,yO 0 Hs,Hs.length⟩ with
     |none=>rw[hs] at h;cases h
     |some q=>
      obtain⟨e,s⟩:=q;rw[hs] at h;cases e with
      |exit i=>cases h
      |normal=>exact key hs (λi hi=>by cases hi) h
      |ret=>exact key hs (λi hi=>by cases hi) h
    .cases h
   .cases h
  .cases h
theorem runX_AC {P:Program}(hP:P.follows .mixedOrders=true)(mode:FuncId->Nat)(lf k:Nat){f:FuncId}{args:List TV}{Hs:List AObj}{r:TV}{Hs':List AObj}(h:runX P mode (λ_=>none) (λ_ _ _=>none) lf k f args Hs=some (r,Hs')):AC P f args Hs r Hs':=oQ (λ_ _ _ _ _ h=>by cases h) hP (λ_ _ _ h=>by cases h) k _ _ _ _ _ h
theorem GoodZ.mv {b:Bool}{s t:Hp}(g:GoodZ s)(h:Mv b s t):GoodZ t:=(h.later g).1
theorem NmB.of {K D K2:Nat}{s t:Hp}(h:NmB K s)(hN:t.N.length=s.N.length)(hC:s.C.length<=D+t.C.length)(hK:K+D<=K2):NmB K2 t:=by
 unfold NmB at*;omega
theorem ij {K:Nat}{s:Hp}(hg:GoodZ s)(ok:OkH s)(nm:NmB K s)(a b:List Int)(f:Int)(f0:0<=f)(f1:f<=100000):
  OkH (allZ s a b f).2/\GoodZ (allZ s a b f).2/\NmB (K+2097154) (allZ s a b f).2/\((allZ s a b f).1.2=0\/(allZ s a b f).1.1=0)/\(allZ s a b f).1.1<=f/\
  ((allZ s a b f).1.2≠0->(allZ s a b f).2.C=s.C/\(allZ s a b f).2.T=s.T/\(allZ s a b f).1.1=0)/\(a.length≠b.length->(allZ s a b f).1.2=1):=by
 have okw:OkW K ⟨s,f⟩:=⟨ok,f0,zm,nm⟩;have r:=YO f.toNat (a.zip b) okw zm;unfold allZ;generalize runZ f.toNat ⟨s,f⟩ (a.zip b)=z at*;split
 .exact⟨ok,hg,by unfold NmB at*;dsimp only;omega,.inr rfl,f0,λ_=>⟨rfl,rfl,rfl⟩,λ_=>rfl⟩
 .rename_i q;have la:=r.mv.later hg;split
  .obtain⟨b1,b2⟩:=la.2.back;have ml:=r.mv.len;have mC:=r.h.C;have mN:=r.m;refine⟨⟨by rw[b1];exact ok.C,?_,by rw[b2];exact ok.T,?_⟩,?_,?_,.inr rfl,f0,λ_=>⟨b1,b2,rfl⟩,λh=>absurd (.inl h) q⟩
   .show z.2.s.M<=_;rw[ml.2.1];exact ok.M
   .show z.2.s.L<=_;rw[ml.2.2];exact ok.L
   .intro e he;rw[b2] at he;rw[b1];exact hg e he
   .exact mN.of (D:=1048576) rfl za za
  next q2=>exact⟨r.h,la.1,r.m.of (D:=0) rfl zm za,.inl rfl,by have:=r.f1;exact this,λh=>absurd rfl h,λh=>absurd (.inl h) q⟩
abbrev hn0:Hp:=⟨[],[],100,100,[]⟩
abbrev hn1:Hp:=⟨[⟨4,0,0,0,0⟩],[],100,100,[]⟩
abbrev tmA:Tm:=.mk 5 [] 0 [.mk 6 [] 0 [.mk 4 [] 0 [],bndT 0]]
abbrev tmB:Tm:=.mk 5 [] 0 [.mk 6 [] 0 [.mk 0 [102] 0 [],bndT 0,bndT 0]]
abbrev hn2:Hp:=⟨[⟨4,0,0,0,0⟩,⟨3,0,0,0,0⟩,⟨7,0,1,0,0⟩,⟨6,2,0,0,0⟩],[],100,100,[]⟩
abbrev hn3:Hp:=⟨[⟨4,0,0,0,0⟩,⟨3,0,0,0,0⟩,⟨7,0,1,0,0⟩,⟨6,2,0,0,0⟩,⟨0,0,0,0,0⟩,⟨3,0,0,0,0⟩,⟨7,4,5,0,0⟩,⟨3,0,0,0,0⟩,⟨7,6,7,0,0⟩,⟨6,8,0,0,0⟩],[],100,100,[[102]]⟩
abbrev tmK:Tm:=.mk 0 [107] 0 []
abbrev hw9:(Int×Int)×Hp:=allZ hn3 [3] [9] 100
abbrev hw10:(Tm×Int×Int)×Hp:=zQ hw9.2 0 100
abbrev hw11:(Int×Int)×Hp:=encS none hw10.2 tmK
abbrev hw12:(Int×Int)×Hp:=allZ hw11.2 [0] [hw11.1.1] 100
theorem nk:(hw9.1.2==0&&hw10.1.2.2==0&&hw11.1.2==0&&hw12.1.2==170)=true/\hw10.1.1=tmB:=⟨zg,zg⟩
theorem w22_encA:encS (some [0]) hn1 tmA=((3,0),hn2):=zg
theorem w22_same:AC rc 10 [aT tmB,aT tmB] [] (cb true) []:=runX_AC hP (λf=>bif List.contains [44] f then 0 else 1) 200 60 zg
theorem w22_encS:encS none hn2 tmB=((9,0),hn3):=zg
theorem lu:AC rc 4 [] [] (cb true) []:=by
 have h0:=nC 100 100;rw[show(⟨[],[],zO [zE [100,0],1048576],zO [zE [100,0],1048576],[]⟩:Hp)=hn0 from rfl] at h0;have o0:OkH hn0:=⟨zc,zc,zc,zc⟩;have h1:=ZC hn0 o0 0;rw[show zD hn0 0=((0,0),hn1) from rfl] at h1;have o3:OkH hn3:=⟨zc,zc,zc,zc⟩;have g3:GoodZ hn3:=λe he=>by cases he
 have m3:NmB 1 hn3:=by unfold NmB;decide
 have o2:OkH hn2:=⟨zc,zc,zc,zc⟩;have m2:NmB 1 hn2:=by unfold NmB;decide
 have o1:OkH hn1:=⟨zc,zc,zc,zc⟩;have m1:NmB 1 hn1:=by unfold NmB;decide
 have h2:=c_EncC 1 za 0 [] tmA zc hn1 o1 m1;rw[w22_encA] at h2;have h3:=lB 1 za tmB zc hn2 o2 m2;rw[w22_encS] at h3;have h9:=ZE hn3 3 9 100<|WI 1 za hn3 g3 o3 m3 [3] [9] 100 zc zc za za
 obtain⟨o9,g9,m9,_⟩:=ij g3 o3 m3 [3] [9] 100 za za;have h10:=Yv hw9.2 0 100 o9 za za;have qv10:=(kT hw9.2 0 100 za).1;have o10:=qv10.ok o9;have g10:=g9.mv qv10;have m10:=qv10.nm m9;have h11:=lB _ za tmK zc hw10.2 o10 m10;have qv11:=jq none hw10.2 tmK;have m11:=(Z8 none tmK o10 m10).2;have h12:=ZE hw11.2 0 hw11.1.1 100<|WI _ za hw11.2 (g10.mv qv11) (qv11.ok o10) m11 [0] [hw11.1.1] 100 zb zb za za
 obtain⟨wr1,wr2⟩:=nk;simp only[oZ,rT] at wr1;obtain⟨⟨⟨q9,q10⟩,q11⟩,q12⟩:=wr1;have sm:=w22_same;have ap1:=wX (.mk 4 [] 0 []) [bndT 0] zc;have ap2:=wX (.mk 0 [102] 0 []) [bndT 0,bndT 0] zc;have la1:=Yw 1 (.mk 6 [] 0 [.mk 4 [] 0 [],bndT 0]) za;have la2:=Yw 1 (.mk 6 [] 0 [.mk 0 [102] 0 [],bndT 0,bndT 0]) za;have e4:=leT (k:=4) (s:=[]) (n:=0) (l:=[]) xU;have e0:=leT (k:=0) (s:=[102]) (n:=0) (l:=[]) xU;have lb1:=args1 (x:=bndT 0)<|leFT (l:=[]) xU
 have lb2:=args2 (x:=bndT 0) (y:=bndT 0) (leFT (l:=[]) xU)<|leFT (l:=[]) xU
 refine acv (v4 ..) ?_
 refine⟨hn0,h0,(0,0,hn1),h1,⟨rfl,r6 _⟩,_,ap1.args ⟨e4,lb1,trivial⟩,_,la1,((3,0),hn2),h2,⟨rfl,r6 _⟩,_,ap2.args ⟨e0,lb2,trivial⟩,_,la2,((9,0),hn3),h3,
  (hw9.1.1,hw9.1.2,hw9.2),h9,(hw10.1.1,hw10.1.2.1,hw10.1.2.2,hw10.2),h10,hw11,h11.args ⟨.refl _,leT xU,.refl _,trivial⟩,(hw12.1.1,hw12.1.2,hw12.2),h12,⟨rfl,r6 _⟩,_,ap2.args ⟨e0,lb2,trivial⟩,_,la2,true,by rw[wr2];exact sm,?_⟩
 exact zB (λ_=>zB (λ_=>zB (λ_=>zB (λ_=>zB (λ_=>zB (λ_=>bP<|zH<|zo q12) λh=>absurd q11 h) λh=>absurd q10 h) λh=>absurd q9 h) λh=>absurd rfl h) λh=>absurd rfl h) λh=>absurd rfl h
abbrev hpZ (s:Hp):AHeap:=[(0,hp6 1 2 3 4 s),(1,.arz 5<|CR s.C),(2,.arz 7<|TR s.T),(3,.arz 1<|NR s.N),(4,.mapz<|NM s.N 0)]
def aJ (t:Tm):Bool:=large t 24 || !near 1000 t
def gn (l:List Tm):Bool:=decide ((l.length:Int)>6)||l.any aJ
theorem dK (l:List Tm)(hl:l.length<=1000)(hz:∀t∈l,t.sz<=B):∀(b pre:List Tm),l=pre++b->RPt rc 5 0 (cb<|b.any aJ) [] 1 ⟨[(0,aL l),(3,ci (pre.length:Int))],[],0⟩
 |[],pre,hp=>by
  rw[rp] at hp;refine rpv (v5_1a ..) ?_;rw[zq];exact⟨rfl,bF (by rw[hp];omega)<|zH rfl⟩
 |t::b,pre,hp=>by
  have ih:=dK l hl hz b (pre++[t]) (by rw[hp];simp);rw[show(((pre++[t]).length:Nat):Int)=(pre.length:Int)+1 by simp] at ih;have hlen:l.length=pre.length+(b.length+1):=by rw[hp];simp
  have em:List.getD (FTs l) (Int.toNat (pre.length:Int)) []=FT t:=by rw[hp];exact midI pre t b
  have hm:t∈l:=by rw[hp];simp
  have h1:=c_large t (hz t hm) 24 za za;have h2:=c_near 1000 za za t<|hz t hm
  have e:(t::b).any aJ=((large t 24 || !near 1000 t)||b.any aJ):=rfl;rw[e];refine rpv (v5_1a ..) ?_;rw[em,zq,w64 (x:=(pre.length:Int)+1) za za,vP];refine⟨rfl,zu (λ_=>⟨⟨rfl,za,za,uI t⟩,_,h1,⟨rfl,za,za,uI t⟩,_,h2,zu (λq=>zH ?_) λq=>zu (λq2=>zH ?_) λq2=>?_⟩) λh=>absurd (ri h) za⟩
  .rw[q];rfl
  .rw[q2,Bool.or_true,Bool.true_or]
  .rw[q,q2];exact ih
theorem c_over22 (l:List Tm)(hz:∀t∈l,t.sz<=B):AC rc 5 [aL l] [] (cb<|gn l) []:=by
 have e:gn l=(decide ((l.length:Int)>6)||l.any aJ):=rfl;rw[e];refine acv (v5 ..) ?_;rw[zq];refine⟨rfl,zu (λq=>zH ?_) λq=>?_⟩
 .rw[q];rfl
 .rw[q,tS];have q:=ri q;exact dK l za hz l [] rfl
def yE (V:Option<|List Int):List Tm->List Int->Hp->(List Int×Bool)×Hp
 |[],out,s=>((out,true),s)
 |t::l,out,s=>if (encS V s t).1.2≠0 then(([],false),(encS V s t).2) else yE V l (out++[(encS V s t).1.1]) (encS V s t).2
abbrev tCl (x:List Int×Bool):TV:=.tup [(false,[qf<|.sl false 1<|IR x.1]),(false,[qf<|.bool x.2])]
theorem leCl (e:Bool):TV.Le (.tup [(false,[qf .N]),(false,[qf<|.bool e])]) (tCl ([],e)):=
 ZP (xs:=[(false,[.N]),(false,[.bool e])]) (ys:=[(false,[.sl false 1<|IR []]),(false,[.bool e])]) ⟨⟨rfl,.N 1,trivial⟩,⟨rfl,.refl _⟩,trivial⟩
abbrev oCb (l0:List Tm)(s:Hp):List AObj:=[hp6 6 7 8 4 s,.gone,.gone,.gone,.mapz<|NM s.N 0,.arz 4<|FTs l0,.arz 5<|CR s.C,.arz 7<|TR s.T,.arz 1<|NR s.N]
abbrev oCc (l0:List Tm)(vs:List Int)(s:Hp):List AObj:=[hp6 7 8 9 4 s,.gone,.gone,.gone,.mapz<|NM s.N 0,.arz 4<|FTs l0,.arz 1<|IR vs,.arz 5<|CR s.C,.arz 7<|TR s.T,.arz 1<|NR s.N]
abbrev stClB  (l0:List Tm) (out:List Int) (s:Hp) (i:Int):St:=
 if out=[] then⟨[(0,aH 0),(1,.c<|.a<|.osl 5 4 0 l0.length),(2,.c<|qf<|.z0 true),(8,.c<|qf .N),(9,ci i)],[(0,hp6 6 7 8 4 s),(1,.gone),(2,.gone),(3,.gone),(4,.mapz<|NM s.N 0),(5,.arz 4<|FTs l0),(6,.arz 5<|CR s.C),(7,.arz 7<|TR s.T),(8,.arz 1<|NR s.N)],9⟩
 else⟨[(0,aH 0),(1,.c<|.a<|.osl 5 4 0 l0.length),(2,.c<|qf<|.z0 true),(8,.c<|.a<|.osl 9 1 0 out.length),(9,ci i)],[(0,hp6 6 7 8 4 s),(1,.gone),(2,.gone),(3,.gone),(4,.mapz<|NM s.N 0),(5,.arz 4<|FTs l0),(6,.arz 5<|CR s.C),(7,.arz 7<|TR s.T),(8,.arz 1<|NR s.N)]++[(9,.arz 1<|IR out)],10⟩
theorem cr (K:Nat)(hK:K<=100000000000)  (l0:List Tm)(hl:l0.length<=1000)(hz:∀t∈l0,t.sz<=B):∀(b pre:List Tm) (out:List Int) (s:Hp),l0=pre++b->out.length<=pre.length->OkH s->NmB K s->
  RPt rc 7 6 (tCl (yE (some []) b out s).1) (oCb l0 (yE (some []) b out s).2) 1 (stClB  l0 out s (pre.length:Int))
 |[],pre,out,s,hp,_,ok,nm=>by
  rw[rp] at hp;have e:yE (some []) [] out s=((out,true),s):=rfl;rw[e];unfold stClB;by_cases hn:out=[]
  .subst hn;rw[oX rfl];refine rpv (v7_1a ..) ?_;exact bF (by rw[hp];omega) ⟨leCl true,rfl⟩
  .rw[oV hn];refine rpv (v7_1b ..) ?_;refine bF (by rw[hp];omega) ⟨⟨rfl,by rw[zF];omega⟩,?_,rfl⟩;rw[sH,ro<|by rw[zF];exact r6 _];exact .refl _
 |t::b,pre,out,s,hp,ho,ok,nm=>by
  have hlen:l0.length=pre.length+(b.length+1):=by rw[hp];simp
  have em:List.getD (FTs l0) (0+Int.toNat (pre.length:Int)) []=FT t:=by rw[rB,hp];exact midI pre t b
  have hE:=c_EncB K hK  t (hz t<|by rw[hp];simp) s ok nm;have mv:=jq (some []) s t;have n:=Z8 (some []) t ok nm;have eA:yE (some []) (t::b) out s=if (encS (some []) s t).1.2≠0 then(([],false),(encS (some []) s t).2) else yE (some []) b (out++[(encS (some []) s t).1.1]) (encS (some []) s t).2:=rfl
  rw[eA];have nx:=λh=>cr K hK  l0 hl hz b (pre++[t]) (out++[(encS (some []) s t).1.1]) (encS (some []) s t).2 (by rw[hp];simp) (zo ho) (mv.ok ok)<|n.1 h
  rw[show(((pre++[t]).length:Nat):Int)=(pre.length:Int)+1 by simp] at nx;generalize encS (some []) s t=z at*;unfold stClB at nx ⊢;rw[oV<|ug _ _,Jb,re] at nx;have e4:rE (FT t)=List.take 4 (List.drop 0<|FT t):=by rw[uI];obtain⟨k,nm,n,l⟩:=t;rfl
  have lt:0+Int.toNat (pre.length:Int)<(FTs l0).length:=by rw[zq];omega
  by_cases hn:out=[]
  .subst hn;rw[oX rfl];refine rpv (v7_1a ..) ?_;rw[em,w64 (x:=(pre.length:Int)+1) za za,vP];refine zu (λ_=>⟨⟨za,za⟩,⟨lt,e4,rfl⟩,z,hE,zZ (λq=>?_) λq=>⟨r6 _,by unfold zS;omega,?_⟩⟩) (λh=>absurd (ri h) za)
   .rw[oX q];exact⟨leCl false,rfl⟩
   .rw[oV λw=>w q];exact nx q
  .rw[oV hn];refine rpv (v7_1b ..) ?_;rw[em,w64 (x:=(pre.length:Int)+1) za za,vP];refine zu (λ_=>⟨⟨za,za⟩,⟨lt,e4,rfl⟩,z,hE,zZ (λq=>?_) λq=>⟨r6 _,⟨by rw[zF];exact r6 _,by unfold zS;omega⟩,?_⟩⟩) (λh=>absurd (ri h) za)
   .rw[oX q];exact⟨leCl false,rfl⟩
   .rw[oV λw=>w q,ro<|by rw[zF];exact r6 _];exact nx q
theorem c_cellsB (K:Nat)(hK:K<=100000000000)  (l0:List Tm)(hl:l0.length<=1000)(hz:∀t∈l0,t.sz<=B)(s:Hp)(ok:OkH s)(nm:NmB K s):AC rc 7 [aH 0,.c<|.a<|.osl 5 4 0 l0.length,.c<|qf<|.z0 true] [hp6 1 2 3 4 s,.arz 5<|CR s.C,.arz 7<|TR s.T,.arz 1<|NR s.N,.mapz<|NM s.N 0,.arz 4<|FTs l0] (tCl (yE (some []) l0 [] s).1) (oCb l0 (yE (some []) l0 [] s).2):=by
 have h:=cr K hK  l0 hl hz l0 [] [] s rfl (r6 _) ok nm;refine acv (v7 ..) ?_;exact h
abbrev stClC (v0:Int)(vs:List Int)(l0:List Tm)(out:List Int)(s:Hp)(i:Int):St:=
 if out=[] then⟨[(0,aH 0),(1,.c<|.a<|.osl 5 4 0 l0.length),(2,.c<|.a<|.osl 6 1 0<|vs.length+1),(8,.c<|qf .N),(9,ci i)],[(0,hp6 7 8 9 4 s),(1,.gone),(2,.gone),(3,.gone),(4,.mapz<|NM s.N 0),(5,.arz 4<|FTs l0),(6,.arz 1<|IR<|v0::vs),(7,.arz 5<|CR s.C),(8,.arz 7<|TR s.T),(9,.arz 1<|NR s.N)],10⟩
 else⟨[(0,aH 0),(1,.c<|.a<|.osl 5 4 0 l0.length),(2,.c<|.a<|.osl 6 1 0<|vs.length+1),(8,.c<|.a<|.osl 10 1 0 out.length),(9,ci i)],[(0,hp6 7 8 9 4 s),(1,.gone),(2,.gone),(3,.gone),(4,.mapz<|NM s.N 0),(5,.arz 4<|FTs l0),(6,.arz 1<|IR<|v0::vs),(7,.arz 5<|CR s.C),(8,.arz 7<|TR s.T),(9,.arz 1<|NR s.N)]++[(10,.arz 1<|IR out)],11⟩
theorem ah (K:Nat)(hK:K<=100000000000)(v0:Int)(vs:List Int)(l0:List Tm)(hl:l0.length<=1000)(hz:∀t∈l0,t.sz<=B):∀(b pre:List Tm) (out:List Int) (s:Hp),l0=pre++b->out.length<=pre.length->OkH s->NmB K s->
  RPt rc 7 7 (tCl (yE (some<|v0::vs) b out s).1) (oCc l0 (v0::vs) (yE (some<|v0::vs) b out s).2) 1 (stClC v0 vs l0 out s (pre.length:Int))
 |[],pre,out,s,hp,_,ok,nm=>by
  rw[rp] at hp;have e:yE (some<|v0::vs) [] out s=((out,true),s):=rfl;rw[e];unfold stClC;by_cases hn:out=[]
  .subst hn;rw[oX rfl];refine rpv (cA ..) ?_;exact bF (by rw[hp];omega) ⟨leCl true,rfl⟩
  .rw[oV hn];refine rpv (bD ..) ?_;refine bF (by rw[hp];omega) ⟨⟨rfl,by rw[zF];omega⟩,?_,rfl⟩;rw[sH,ro<|by rw[zF];exact r6 _];exact .refl _
 |t::b,pre,out,s,hp,ho,ok,nm=>by
  have hlen:l0.length=pre.length+(b.length+1):=by rw[hp];simp
  have em:List.getD (FTs l0) (0+Int.toNat (pre.length:Int)) []=FT t:=by rw[rB,hp];exact midI pre t b
  have hE:=c_EncC K hK v0 vs t (hz t<|by rw[hp];simp) s ok nm;have mv:=jq (some<|v0::vs) s t;have n:=Z8 (some<|v0::vs) t ok nm;have eA:yE (some<|v0::vs) (t::b) out s=if (encS (some<|v0::vs) s t).1.2≠0 then(([],false),(encS (some<|v0::vs) s t).2) else yE (some<|v0::vs) b (out++[(encS (some<|v0::vs) s t).1.1]) (encS (some<|v0::vs) s t).2:=rfl
  rw[eA];have nx:=λh=>ah K hK v0 vs l0 hl hz b (pre++[t]) (out++[(encS (some<|v0::vs) s t).1.1]) (encS (some<|v0::vs) s t).2 (by rw[hp];simp) (zo ho) (mv.ok ok)<|n.1 h
  rw[show(((pre++[t]).length:Nat):Int)=(pre.length:Int)+1 by simp] at nx;generalize encS (some<|v0::vs) s t=z at*;unfold stClC at nx ⊢;rw[oV<|ug _ _,Jb,re] at nx;have e4:rE (FT t)=List.take 4 (List.drop 0<|FT t):=by rw[uI];obtain⟨k,nm,n,l⟩:=t;rfl
  have lt:0+Int.toNat (pre.length:Int)<(FTs l0).length:=by rw[zq];omega
  by_cases hn:out=[]
  .subst hn;rw[oX rfl];refine rpv (cA ..) ?_;rw[em,w64 (x:=(pre.length:Int)+1) za za,vP];refine zu (λ_=>⟨⟨za,za⟩,⟨lt,e4,rfl⟩,z,hE,zZ (λq=>?_) λq=>⟨r6 _,by unfold zS;omega,?_⟩⟩) (λh=>absurd (ri h) za)
   .rw[oX q];exact⟨leCl false,rfl⟩
   .rw[oV λw=>w q];exact nx q
  .rw[oV hn];refine rpv (bD ..) ?_;rw[em,w64 (x:=(pre.length:Int)+1) za za,vP];refine zu (λ_=>⟨⟨za,za⟩,⟨lt,e4,rfl⟩,z,hE,zZ (λq=>?_) λq=>⟨r6 _,⟨by rw[zF];exact r6 _,by unfold zS;omega⟩,?_⟩⟩) (λh=>absurd (ri h) za)
   .rw[oX q];exact⟨leCl false,rfl⟩
   .rw[oV λw=>w q,ro<|by rw[zF];exact r6 _];exact nx q
theorem c_cellsC (K:Nat)(hK:K<=100000000000)(v0:Int)(vs:List Int)(l0:List Tm)(hl:l0.length<=1000)(hz:∀t∈l0,t.sz<=B)(s:Hp)(ok:OkH s)(nm:NmB K s):AC rc 7 [aH 0,.c<|.a<|.osl 5 4 0 l0.length,.c<|.a<|.osl 6 1 0<|vs.length+1] [hp6 1 2 3 4 s,.arz 5<|CR s.C,.arz 7<|TR s.T,.arz 1<|NR s.N,.mapz<|NM s.N 0,.arz 4<|FTs l0,.arz 1<|IR<|v0::vs] (tCl (yE (some<|v0::vs) l0 [] s).1) (oCc l0 (v0::vs) (yE (some<|v0::vs) l0 [] s).2):=by
 have h:=ah K hK v0 vs l0 hl hz l0 [] [] s rfl (r6 _) ok nm;refine acv (v7_i1 ..) ?_;exact h
theorem lI (s:Hp)(lv:Int):(zD s lv).1.2=0\/(zD s lv).1.2=200:=by
 unfold zD putS;split
 .rename_i q;exfalso
  have:yC s ⟨4,zE [lv,0],0,0,0⟩=true:=by
   unfold yC;simp only[zE,List.foldl];simp;omega
  rw[this] at q;cases q
 .split
  .exact .inr rfl
  .exact .inl rfl
abbrev nT (a b:Nat)(s:Sto):AObj:=.arr 2 [[.a<|.osl a 6 0 s.V.length,.a<|.osl b 1 0 s.T.length]]
def wY (s:Sto)(lv:Int):Sto:=⟨s.V++[⟨zE [lv,0],false,noT⟩],s.T⟩
theorem o7 (l:List Inf):(SR l).length=l.length:=by simp[SR]
theorem iJ {n:Nat}{fs gs:List (List FV)}(hl:gs.length=fs.length)(h:∀(i:Nat) (e e':List FV),fs[i]?=some e->gs[i]?=some e'->LeR e e'):OLe (.arz n fs) (.arz n gs):=
 .rows n fs gs za (λi e e' he he'=>(h i e e' he he').length) λi j e e' f f' he he' hf hf'=>(h i e e' he he').get j f f' hf hf'
theorem ole_appL {n:Nat}{a:List (List FV)}{x y:List FV}(h:LeR x y):OLe (.arz n<|a++[x]) (.arz n<|a++[y]):=by
 refine iJ zb λi e e' he he'=>?_;by_cases q:i<a.length
 .rw[sC q] at he he';rw[he] at he';injection he' with he';subst he';exact LeR.refl _
 .rw[sT za] at he he';cases hi:i-a.length with
  |zero=>rw[hi] at he he';simp at he he';subst he;subst he';exact h
  |succ k=>rw[hi] at he;simp at he
theorem Kx (s:Sto)(lv:Int)(h:s.V.length<=1073741824):AC rc 18 [.c<|.a<|.ep 0 2 0 0,ci lv] [nT 1 2 s,.arz 6<|SR s.V,.arz 1<|IR s.T] (ci (s.V.length:Int)) [nT 3 4<|wY s lv,.gone,.gone,.arz 6<|SR (wY s lv).V,.arz 1<|IR s.T]:=by
 have hrow:LeR [.int .i64<|zE [lv,0],.bool false,.int .i64 0,.str [],.int .i64 0,.N] (Inf.c ⟨zE [lv,0],false,noT⟩):=⟨.refl _,.refl _,.refl _,.refl _,.refl _,xU,trivial⟩;have hV:(wY s lv).V.length=s.V.length+1:=by simp[wY]
 have hSR:SR (wY s lv).V=SR s.V++[Inf.c ⟨zE [lv,0],false,noT⟩]:=by simp[SR,wY]
 refine AC.obj (Hs':=[.arr 2 [[.a<|.osl 3 6 0<|s.V.length+1,.a<|.osl 4 1 0 s.T.length]],.gone,.gone,.arz 6<|SR s.V++[[.int .i64<|zE [lv,0],.bool false,.int .i64 0,.str [],.int .i64 0,.N]],.arz 1<|IR s.T]) ?_ ⟨by rw[nT,hV];exact .refl _,.refl _,.refl _,by rw[hSR];exact ole_appL hrow,.refl _,trivial⟩;refine acv (v18 ..) ?_;rw[w64 (x:=(((s.V.length+1:Nat):Int)-1)) za za,ro<|by rw[o7];omega];exact⟨za,⟨by rw[o7];omega,by unfold zS;omega⟩,by rw[show(((s.V.length+1:Nat):Int)-1)=(s.V.length:Int) by omega];exact .refl _,rfl⟩
def layZ:List Int->List Int->Hp->Sto->List Int×Hp×Sto
 |[],vs,s,q=>(vs,s,q)
 |x::l,vs,s,q=>layZ l (vs++[(zD s x).1.1]) (zD s x).2<|wY q x
abbrev hpL (s:Hp)(q:Sto):AHeap:=hpZ s++[(5,nT 6 7 q),(6,.arz 6<|SR q.V),(7,.arz 1<|IR q.T)]
abbrev obL (s:Hp)(q:Sto):List AObj:=[hp6 1 2 3 4 s,.arz 5<|CR s.C,.arz 7<|TR s.T,.arz 1<|NR s.N,.mapz<|NM s.N 0,nT 6 7 q,.arz 6<|SR q.V,.arz 1<|IR q.T]
abbrev tL3 (v:WV):TV:=.tup [(false,[.a<|.ep 0 6 0 0]),(false,[.a<|.ep 5 2 0 0]),(false,[v])]
theorem l_laid (ls:List Int)(hls:ls.length<=1000):∀(b pre vs:List Int) (s:Hp) (q:Sto),ls=pre++b->vs≠[]->vs.length=pre.length->q.V.length=pre.length->OkH s->
  RPt rc 6 0 (tL3<|.a<|.osl 8 1 0 (layZ b vs s q).1.length) (obL (layZ b vs s q).2.1 (layZ b vs s q).2.2++[.arz 1<|IR (layZ b vs s q).1]) 1 ⟨[(0,aIs ls),(5,aH 0),(6,.c<|.a<|.ep 5 2 0 0),(7,.c<|.a<|.osl 8 1 0 vs.length),(8,ci (pre.length:Int))],hpL s q++[(8,.arz 1<|IR vs)],9⟩
 |[],pre,vs,s,q,hp,_,_,_,_=>by
  rw[rp] at hp;refine rpv (v6_1b ..) ?_;rw[zF];exact⟨rfl,bF (by rw[hp];omega) rrl⟩
 |x::b,pre,vs,s,q,hp,hn,hv,hq,ok=>by
  have hF:=ZC s ok x
  have hR:=Kx q x (by rw[hq];have:pre.length<=ls.length:=by rw[hp];simp
                      omega)
  have mv:Mv false s (zD s x).2:=.put _<|.refl _
  have ih:=l_laid ls hls b (pre++[x]) (vs++[(zD s x).1.1]) (zD s x).2 (wY q x) (by rw[hp];simp) (ug _ _) (by simp[hv]) (by simp[wY,hq])<|mv.ok ok
  rw[show(((pre++[x]).length:Nat):Int)=(pre.length:Int)+1 by simp,Jb,re] at ih;have hlen:ls.length=pre.length+(b.length+1):=by rw[hp];simp
  have em:List.getD (IR ls) (Int.toNat (pre.length:Int)) []=[.int .i64 x]:=by rw[hp];exact bi pre x b
  have hlt:(pre.length:Int)<(((IR ls).length:Nat):Int):=by rw[zF];omega
  have e0:layZ (x::b) vs s q=layZ b (vs++[(zD s x).1.1]) (zD s x).2 (wY q x):=rfl;rw[e0];refine rpv (v6_1b ..) ?_;rw[em,w64 (x:=(pre.length:Int)+1) za za,ro (l:=IR vs)<|by rw[zF];exact r6 _];generalize zD s x=z at*;obtain⟨⟨z1,z2⟩,zs⟩:=z;exact⟨rfl,bT hlt ⟨⟨rfl,za,hlt,rfl⟩,(z1,z2,zs),hF,r6 _,⟨by rw[zF];exact r6 _,by unfold zS;omega⟩,⟨rfl,za,hlt,rfl⟩,(_,wY q x),hR,ih⟩⟩
abbrev hn6:Hp:=⟨[],[],zO [zE [1000000,0],1048576],zO [zE [1000000,0],1048576],[]⟩
theorem bw:OkH hn6:=⟨zb,zc,zb,zc⟩
theorem c_laid0:AC rc 6 [aIs []] [] (tL3<|qf<|.z0 true) (obL hn6 ⟨[],[]⟩):=by
 have hn:=nC 1000000 1000000;refine acv (v6 ..) ?_;refine⟨_,hn,rpv (v6_1a ..) ?_⟩;exact⟨rfl,bF zc rrl⟩
theorem c_laid (x:Int)(l:List Int)(hl:l.length<=900):AC rc 6 [aIs<|x::l] [] (tL3<|.a<|.osl 8 1 0 (layZ (x::l) [] hn6 ⟨[],[]⟩).1.length) (obL (layZ (x::l) [] hn6 ⟨[],[]⟩).2.1 (layZ (x::l) [] hn6 ⟨[],[]⟩).2.2++[.arz 1<|IR (layZ (x::l) [] hn6 ⟨[],[]⟩).1]):=by
 have hn:=nC 1000000 1000000;have hF:=ZC hn6 bw x;have hR:=Kx ⟨[],[]⟩ x zb;have mv:Mv false hn6 (zD hn6 x).2:=.put _<|.refl _
 have nx:=l_laid (x::l) zj l [x] [(zD hn6 x).1.1] (zD hn6 x).2 (wY ⟨[],[]⟩ x) rfl zb rfl rfl (mv.ok bw);have e0:layZ (x::l) [] hn6 ⟨[],[]⟩=layZ l [(zD hn6 x).1.1] (zD hn6 x).2 (wY ⟨[],[]⟩ x):=rfl;rw[e0];have hlt:((0:Nat):Int)<(((IR<|x::l).length:Nat):Int):=by rw[zF];simp only[r5];omega
 generalize zD hn6 x=z at*;obtain⟨⟨z1,z2⟩,zs⟩:=z;refine acv (v6 ..) ?_;refine⟨_,hn,rpv (v6_1a ..) ?_⟩;exact⟨rfl,bT hlt ⟨⟨rfl,ru _,hlt,rfl⟩,(z1,z2,zs),hF,r6 _,by unfold zS;omega,⟨rfl,ru _,hlt,rfl⟩,(_,wY ⟨[],[]⟩ x),hR,nx⟩⟩
theorem empty_m {s:Hp}(ok:OkH s)(hC:s.C=[]):MG (λ_=>none) s []:=
 ⟨ok,by rw[hC];rfl,(λx v h=>by cases h),(λx h=>absurd rfl h),λi c z h1 _=>by rw[hC] at h1;cases h1⟩
section
variable {V:Int->Option La}
theorem fresh_m {s:Hp}{Z:List Gh}(h:MG V s Z)(lv:Int)(e:(zD s lv).1.2=0):(zD s lv).1.1=(Z.length:Int)/\MG V (zD s lv).2 (Z++[⟨.var (Z.length:Int),[.dum (zE [lv,0]).toNat]⟩])/\(zD s lv).2.N=s.N:=by
 have hl:=h.len
 have dm:V (s.C.length:Int)=none:=by
  cases q:V (s.C.length:Int) with
  |none=>rfl
  |some v=>have:=h.dom _ (by rw[q];exact λw=>by cases w);omega
 have no:∀ {m:Int} {P:Prop},m≠4->(4:Int)=m->P:=λh e=>absurd e.symm h;rcases h.put ⟨4,zE [lv,0],0,0,0⟩ ⟨.var (Z.length:Int),[.dum (zE [lv,0]).toNat]⟩ (λ_=>⟨⟨by show(0:Int)<=4;decide,by show(4:Int)<=11;decide⟩,no zc,no zc,no zc,no zc,λ_=>⟨by rw[hl],dm,rfl,max0 lv⟩,no zc,no zc,no zc,no zc,no zc,no zc,no zc⟩) with⟨a,_⟩|⟨_,b,g,w⟩
 .exact absurd e a
 .unfold zD;exact⟨b,g,by rw[w]⟩
theorem pi (n:Nat):VarO (some ((List.range n).map λi:Nat=>(i:Int))):=λC x hx e=>by
 unfold varE at e ⊢;dsimp only at e ⊢;rw[sM,tx] at e ⊢;split at e
 .exact absurd e (by show¬(1:Int)=0;decide)
 .rename_i q;rw[oV q];split at e
  .rename_i w;rw[oX w];dsimp only;have ex:x.toNat<n:=za
   rw[List.getD,rq,tA ex];show((x.toNat:Nat):Int)=x;omega
  .exact absurd e (by show¬(1:Int)=0;decide)
end
structure LdZ (s:Hp)(Z:List Gh)(vs:List Int):Prop where
 g:MG (λ_=>none) s Z
 z:GoodZ s
 v:∀x,Kin Z x->mat Z x=.var x
 vs:vs=(List.range Z.length).map λi:Nat=>(i:Int)
 T:s.T=[]
 N:s.N=[]
 M:s.M=1000000/\s.L=1000000
theorem lay_m:∀(b vs:List Int) (s:Hp) (q:Sto) (Z:List Gh),LdZ s Z vs->Z.length+b.length<=1000->∃Z',LdZ (layZ b vs s q).2.1 Z' (layZ b vs s q).1/\Z'.length=Z.length+b.length
 |[],vs,s,q,Z,h,_=>⟨Z,h,rfl⟩
 |x::b,vs,s,q,Z,h,hl=>by
  have e0:(zD s x).1.2=0:=by
   rcases lI s x with e|e
   .exact e
   .exfalso;have hM:=h.M.1;have:=h.g.len;simp only[r5] at hl;unfold zD putS at e;split at e
    .exact absurd e (by show¬(1:Int)=200;decide)
    .split at e
     .omega
     .exact absurd e (by show¬(0:Int)=200;decide)
  obtain⟨a1,a2,a3⟩:=fresh_m h.g x e0;have mv:Mv false s (zD s x).2:=.put _<|.refl _
  have pc:=Wc s ⟨4,zE [x,0],0,0,0⟩
  have L1:LdZ (zD s x).2 (Z++[⟨.var (Z.length:Int),[.dum (zE [x,0]).toNat]⟩]) (vs++[(zD s x).1.1]):=by
   refine⟨a2,h.z.mv mv,λy hy=>?_,?_,by unfold zD;rw[pc.2.2.2.2];exact h.T,by rw[a3];exact h.N,by unfold zD;rw[pc.2.1,pc.2.2.1];exact h.M⟩
   .by_cases q:y<(Z.length:Int)
    .have k:Kin Z y:=⟨hy.p0,q⟩;rw[zJ _ k];exact h.v y k
    .have:=hy.p1;simp only[re,rD] at this;have e:y=(Z.length:Int):=za
     rw[e];exact(J9 Z _).1
   .rw[h.vs,a1,re,rD,List.range_succ,t7];rfl
  obtain⟨Z',b1,b2⟩:=lay_m b (vs++[(zD s x).1.1]) (zD s x).2 (wY q x) _ L1 (by simp only[re,rD,r5,rt] at hl ⊢;omega);exact⟨Z',b1,by rw[b2];simp only[re,rD,r5,rt];omega⟩
theorem oR {p:Int->Prop}(hp:∀x,0<=x->p x):∀t:Tm,validB t=true->near 1000 t=true->∀d:Nat,2000<=d->Cq p d (toL t):=by
 refine Tm.ind λt ih=>?_;obtain⟨k,s,n,l⟩:=t;intro hv hn d hd;rw[near,oZ] at hn;obtain⟨hn1,hn2⟩:=hn
 have key:∀(l:List Tm),(∀u∈l,∀d:Nat,2000<=d->Cq p d (toL u))->∀f:La,∀d:Nat,2000<=d->Cq p d f->Cq p d (apps f<|toLs l):=λl hl f d hd hf=>(Cq.apps _ _).2 ⟨hf,λa ha=>by
  rw[y8] at ha;obtain⟨u,hu,rfl⟩:=rK.1 ha;exact hl u hu d hd⟩
 have nr:∀ {l:List Tm},fP 1000 l=true->∀u∈l,near 1000 u=true:=by
  intro l
  induction l with
  |nil=>intro _ u hu;cases hu
  |cons a l ihl=>
   intro h u hu;rw[fP,oZ] at h;rcases rx.1 hu with w|w
   .rw[w];exact h.1
   .exact ihl h.2 u w
 by_cases h3:k=3
 .subst h3;rw[yY];have v:=Xx.1 hv
  have hn1:n<=1000:=by
   rcases Int.lt_or_le 1000 n with q|q
   .rw[decide_eq_true q] at hn1;exact absurd hn1 Bool.false_ne_true
   .exact q
  show n.toNat<d/\n.toNat<=2097152;omega
 by_cases h4:k=4
 .subst h4;rw[wO]
  have v0:0<=n:=by
   rw[validB,oV zc,oV zc,oV zc,oV zc,oX zc] at hv;simp only[oZ,rL] at hv;exact hv.1.1.1.1
  exact hp n v0
 by_cases h5:k=5
 .subst h5;obtain⟨x,hl,_⟩:=okB5 (zG _ hv) rfl;subst hl;rw[aq] at hv
  have vx:validB x=true:=by
   simp only[oZ] at hv;have:=hv.2;rw[yp,oZ] at this;exact this.1
  rw[yQ];exact ih x r7 vx (nr hn2 x r7) (d+1) za
 by_cases h6:k=6
 .subst h6;obtain⟨x,y,r,hl,hx,_⟩:=okB6 (zG _ hv) rfl;subst hl;rw[lH] at hv
  have vl:yp (x::y::r)=true:=by
   simp only[oZ] at hv;exact hv.2
  have vm:∀u∈x::y::r,validB u=true:=by
   have:∀l:List Tm,yp l=true->∀u∈l,validB u=true:=by
    intro l
    induction l with
    |nil=>intro _ u hu;cases hu
    |cons a l ihl=>
     intro h u hu;rw[yp,oZ] at h;rcases rx.1 hu with w|w
     .rw[w];exact h.1
     .exact ihl h.2 u w
   exact this _ vl
  rw[wb];exact key (y::r) (λu hu d hd=>ih u (r9 _ hu) (vm u<|r9 _ hu) (nr hn2 u<|r9 _ hu) d hd) (toL x) d hd<|ih x r7 (vm x r7) (nr hn2 x r7) d hd
 .rw[toL,mkL,oV h5,oV h6,oV h3,oV h4];trivial
theorem cP {Z Z':List Gh}{n:Nat}(hv:∀x,Kin Z x->mat Z x=.var x)(hn:n=Z.length)(F:List Gh)(hZ:Z'=Z++F):∀x,0<=x->Vq (some ((List.range n).map λi:Nat=>(i:Int))) Z' x:=λx h0 C e=>by
 unfold varE at e;dsimp only at e;rw[sM,tx] at e;split at e
 .exact absurd e (by show¬(1:Int)=0;decide)
 next q=>have k:Kin Z x:=⟨h0,za⟩;rw[hZ];exact⟨k.app F,by rw[zJ F k];exact hv x k⟩
structure StZ (s:Hp)(a b:Int):Prop where
 g:∃Z,MG (λ_=>none) s Z/\Kin Z a/\Kin Z b
 N:NmV s.N
 z:GoodZ s
 n:NmB 1 s
 f:nfC qA s.C<=8
 C:s.C.length<=10000
 T:s.T.length<=10000
 M:s.M=1000000/\s.L=1000000
theorem start_z {ls vs:List Int}{s:Hp}{Z:List Gh}(h:LdZ s Z vs)(hl:Z.length<=8){a b:Tm}(ho:gn [a,b]=false)(e1:(encS (some vs) s a).1.2=0)(e2:(encS (some vs) (encS (some vs) s a).2 b).1.2=0):StZ (encS (some vs) (encS (some vs) s a).2 b).2 (encS (some vs) s a).1.1 (encS (some vs) (encS (some vs) s a).2 b).1.1:=by
 have big:∀t∈ [a,b],near 1000 t=true/\t.sz<=24:=λt ht=>by
  unfold gn at ho;rw[Bool.or_eq_false_iff] at ho;have:=List.any_eq_false.1 ho.2 t ht;simp only[aJ,tO,not_or,Bool.not_eq_true,Bool.not_eq_false'] at this;exact⟨this.2,by have:=large_sz this.1;omega⟩
 obtain⟨na,sa⟩:=big a r7;obtain⟨nb,sb⟩:=big b<|r9 _ r7
 have hO:VarO (some vs):=by rw[h.vs];exact pi _
 have hN:NmV s.N:=by rw[h.N];exact⟨List.Pairwise.nil,λ_ w=>by cases w⟩
 have ok:=h.g.ok;have n0:NmB 1 s:=by unfold NmB;rw[h.N];simp
 have ez1:=mW (some vs) s a e1;have mv1:=jq (some vs) s a;have nm1:=(Z8 (some vs) a ok n0).1 e1;obtain⟨E,a1,⟨a2,_⟩,_,a5⟩:=cK hO h.g a (d:=2000) (λhv=>by rw[h.vs];exact oR (cP h.v rfl [] (rp Z).symm) a hv na 2000<|r6 _) e1;have hlen:=h.g.len;have hM:=h.M;have hT:=h.T;have hz:=h.z.mv mv1;generalize encS (some vs) s a=z at*;have ez2:=mW (some vs) z.2 b e2;have mv2:=jq (some vs) z.2 b;have nm2:=(Z8 (some vs) b a1.ok nm1).1 e2;obtain⟨F,b1,⟨b2,_⟩,_,b5⟩:=cK hO a1 b (d:=2000) (λhv=>by rw[h.vs];exact oR (cP h.v rfl E rfl) b hv nb 2000<|r6 _) e2;have l1:=mv1.len;have l2:=mv2.len;have f0:nfC qA s.C<=s.C.length:=List.countP_le_length;have f1:=ez1.2.2 qA;have f2:=ez2.2.2 qA;have c1:=ez1.1;have c2:=ez2.1;exact⟨⟨Z++E++F,b1,a2.app F,b2⟩,b5<|a5 hN,hz.mv mv2,nm2,za,za,by rw[ez2.2.1,ez1.2.1,hT];simp,by rw[l2.2.1,l1.2.1];exact hM.1,by rw[l2.2.2,l1.2.2];exact hM.2⟩
theorem full_szZ {K:Nat}{s:Hp}(ok:OkH s)(nm:NmB K s)(a:Int):(zQ s a 5000).1.1.sz<=B:=by
 have:=(Ja (K:=K) (w:=⟨s,5000⟩) ⟨ok,zm,zm,nm⟩ a).2.2;have e:(yg ⟨s,5000⟩ a).1.1=(zQ s a 5000).1.1:=rfl;rw[e] at this;simp only[B];omega
abbrev hz1 (s:Hp)(a b:Int):(Int×Int)×Hp:=allZ s [a] [b] 5000
abbrev hz2 (s:Hp)(a b:Int):(Tm×Int×Int)×Hp:=zQ (hz1 s a b).2 a 5000
abbrev hz3 (s:Hp)(a b:Int):(Tm×Int×Int)×Hp:=zQ (hz2 s a b).2 b 5000
abbrev hz4 (s:Hp)(a b:Int):(Int×Int)×Hp:=allZ (hz3 s a b).2 [a] [b] 20000
abbrev hz5 (s:Hp)(a b:Int):(Tm×Int×Int)×Hp:=zQ (hz4 s a b).2 a 5000
theorem iT {s:Hp}{a b:Int}(h:StZ s a b):∃(y1:(Int×Int)×Hp) (y2 y3:(Tm×Int×Int)×Hp) (y4:(Int×Int)×Hp) (y5:(Tm×Int×Int)×Hp),
  AC rc 8 [aH 0,ci a,ci b,ci 5000] (oH s) (t2 y1.1) (oH' y1.2)/\(y1.1.2=0->
   AC rc 9 [aH 0,ci a,ci 5000] (oH y1.2) (tFu y2.1) (oH' y2.2)/\AC rc 9 [aH 0,ci b,ci 5000] (oH y2.2) (tFu y3.1) (oH' y3.2)/\(y2.1.2.2=0->y3.1.2.2=0->
    AC rc 10 [aT y2.1.1,aT y3.1.1] [] (cb true) []/\AC rc 8 [aH 0,ci a,ci b,ci 20000] (oH y3.2) (t2 y4.1) (oH' y4.2)/\
    AC rc 9 [aH 0,ci a,ci 5000] (oH y4.2) (tFu y5.1) (oH' y5.2)/\AC rc 10 [aT y2.1.1,aT y5.1.1] [] (cb true) []/\(y4.1.2=0\/y4.1.2=80)/\y5.1.2.2=0)):=by
 refine⟨hz1 s a b,hz2 s a b,hz3 s a b,hz4 s a b,hz5 s a b,?_⟩;obtain⟨Z,g,ka,kb⟩:=h.g;refine⟨ZE s a b 5000<|WI 1 za s h.z g.ok h.n [a] [b] 5000 zb zb za za,λe1=>?_⟩;obtain⟨V',E,a1,a2,a3,a4,a5,a6,a7⟩:=Kn g.ok h.n g h.N ka kb h.f e1;have g2:=h.z.mv a6;have law:=one_law g.ok h.n h.z g h.N ka kb h.f h.C h.T h.M.1 h.M.2 e1;have m3:=(kT (hz1 s a b).2 a 5000 zc).1;have o3:=m3.ok a1.ok;have m4:=(kT (hz2 s a b).2 b 5000 zc).1;have o4:=m4.ok o3;have n3:=m3.nm a7;have n4:=m4.nm n3;have g4:=(g2.mv m3).mv m4;refine⟨Yv _ a 5000 a1.ok za za,Yv _ b 5000 o3 za za,λe2 e3=>?_⟩;obtain⟨l1,l2,l3,l4⟩:=law e2 e3;obtain⟨o5,_⟩:=ij g4 o4 n4 [a] [b] 20000 za za;have sz:=full_szZ a1.ok a7 a;have sm:=λu=>c_rsame (hz2 s a b).1.1 sz u;have s1:=sm (hz3 s a b).1.1;have s2:=sm (hz5 s a b).1.1;rw[show qt (hz2 s a b).1.1 (hz3 s a b).1.1=true from(YF _ _).2 l1.symm] at s1;rw[show qt (hz2 s a b).1.1 (hz5 s a b).1.1=true from(YF _ _).2 l4.symm] at s2;exact⟨s1,ZE _ a b 20000<|WI 1 za _ g4 o4 n4 [a] [b] 20000 zb zb za za,Yv _ a 5000 o5 za za,s2,l2,l3⟩
theorem fE (ls:List Int)(a b:Tm)(ha:a.bk<=B)(hb:b.bk<=B):AC rc 3 [aIs ls,aT a,aT b] [] (cb true) []:=by
 have hza:=rS (Tm.sz_bk a) ha;have hzb:=rS (Tm.sz_bk b) hb
 have hz:∀t∈ [a,b],t.sz<=B:=λt ht=>by
  rcases rx.1 ht with w|w
  .rw[w];exact hza
  .rw[rJ.1 w];exact hzb
 have hw:=lu;have o1:=c_over22 [a,b] hz;have st:=λ(vs:List Int) (s:Hp) (Z:List Gh) (h:LdZ s Z vs) (hl:Z.length<=8) (ho:gn [a,b]=false) e1 e2=>iT<|start_z (ls:=ls) h hl ho e1 e2
 have l0:LdZ hn6 [] []:=⟨empty_m bw rfl,(λe he=>by cases he),(λx hx=>by have:=hx.p0;have:=hx.p1;simp at this;omega),rfl,rfl,rfl,rfl,rfl⟩;obtain⟨ak,as',an,al⟩:=a;obtain⟨bk,bs,bn,bl⟩:=b;refine acv (v3 (IR ls) ak as' an (FTs al) bk bs bn (FTs bl) _ _) ?_;rw[zF];refine⟨true,hw,bN ⟨⟨rfl,r6 _⟩,_,o1,rfl,zu (λ_=>zH rfl) λq1=>⟨rfl,zu (λ_=>zH rfl) λq4=>?_⟩⟩⟩;have q4:=ri q4;obtain⟨Z,lz,zl'⟩:=lay_m ls [] hn6 ⟨[],[]⟩ [] l0 zj;have zl:Z.length<=8:=by rw[zl'];simp only[rt];omega
 by_cases hn:ls=[]
 .subst hn;have hl:=c_laid0;have lz:LdZ hn6 [] []:=l0;have c1:=c_cellsB 0 za [.mk ak as' an al,.mk bk bs bn bl] zb hz hn6 bw<|sY _
  have st:=st [] hn6 [] lz zb q1;by_cases w1:(encS (some []) hn6<|.mk ak as' an al).1.2=0
  .by_cases w2:(encS (some []) (encS (some []) hn6<|.mk ak as' an al).2<|.mk bk bs bn bl).1.2=0
   .have e:yE (some []) [.mk ak as' an al,.mk bk bs bn bl] [] hn6=(([(encS (some []) hn6<|.mk ak as' an al).1.1,(encS (some []) (encS (some []) hn6<|.mk ak as' an al).2<|.mk bk bs bn bl).1.1],true),(encS (some []) (encS (some []) hn6<|.mk ak as' an al).2<|.mk bk bs bn bl).2):=by
     rw[yE,oV λw=>w w1,yE,oV λw=>w w2];rfl
    rw[e] at c1;have st:=st w1 w2;generalize (encS (some []) (encS (some []) hn6<|.mk ak as' an al).2<|.mk bk bs bn bl)=z at*;generalize (encS (some []) hn6<|.mk ak as' an al).1.1=x0 at*;obtain⟨⟨x1,z2⟩,zs⟩:=z;obtain⟨y1,y2,y3,y4,y5,f0,F⟩:=st;obtain⟨⟨y11,y12⟩,y1s⟩:=y1;obtain⟨⟨y21,y22,y23⟩,y2s⟩:=y2;obtain⟨⟨y31,y32,y33⟩,y3s⟩:=y3;obtain⟨⟨y41,y42⟩,y4s⟩:=y4;obtain⟨⟨y51,y52,y53⟩,y5s⟩:=y5;dsimp only at*;refine .inl ⟨(hn6,⟨[],[]⟩),hl,([x0,x1],true,zs),c1,bN ⟨⟨rfl,zc,by show(0:Int)<2;decide,rfl⟩,⟨rfl,zc,by show(1:Int)<2;decide,rfl⟩,(y11,y12,y1s),f0,zZ (λ_=>zH rfl) λe1=>?_⟩⟩;obtain⟨f1,f2,f3⟩:=F e1;refine⟨⟨rfl,zc,by show(0:Int)<2;decide,rfl⟩,(y21,y22,y23,y2s),f1,⟨rfl,zc,by show(1:Int)<2;decide,rfl⟩,(y31,y32,y33,y3s),f2,zZ (λ_=>zH rfl) λe2=>zZ (λ_=>zH rfl) λe3=>?_⟩;obtain⟨g1,g2,g3,g4,g5,g6⟩:=f3 e2 e3;refine⟨true,g1,⟨rfl,zc,by show(0:Int)<2;decide,rfl⟩,⟨rfl,zc,by show(1:Int)<2;decide,rfl⟩,(y41,y42,y4s),g2,⟨rfl,zc,by show(0:Int)<2;decide,rfl⟩,(y51,y52,y53,y5s),g3,true,g4,?_⟩;exact bP<|bP<|zB (λ_=>zB (λ_=>zH rfl) λw=>absurd g6 w) λw=>zB (λ_=>zB (λ_=>zH rfl) λw=>absurd g6 w) λw3=>absurd (g5.resolve_left w) w3
   .have e:yE (some []) [.mk ak as' an al,.mk bk bs bn bl] [] hn6=(([],false),(encS (some []) (encS (some []) hn6<|.mk ak as' an al).2<|.mk bk bs bn bl).2):=by
     rw[yE,oV λw=>w w1,yE,oX w2]
    rw[e] at c1;exact .inl ⟨(hn6,⟨[],[]⟩),hl,([],false,_),c1,bP<|zH rfl⟩
  .have e:yE (some []) [.mk ak as' an al,.mk bk bs bn bl] [] hn6=(([],false),(encS (some []) hn6<|.mk ak as' an al).2):=by
    rw[yE,oX w1]
   rw[e] at c1;exact .inl ⟨(hn6,⟨[],[]⟩),hl,([],false,_),c1,bP<|zH rfl⟩
 .obtain⟨x,l,rfl⟩:∃x l,ls=x::l:=by
   cases ls with
   |nil=>exact absurd rfl hn
   |cons x l=>exact⟨x,l,rfl⟩
  have hl:=c_laid x l (by simp only[r5] at q4;omega);have hvl:(layZ (x::l) [] hn6 ⟨[],[]⟩).1.length=Z.length:=by rw[lz.vs];simp
  have hzl:Z.length≠0:=by rw[zl'];simp
  generalize layZ (x::l) [] hn6 ⟨[],[]⟩=w at*;obtain⟨vs,s,q⟩:=w;dsimp only at hl lz hvl
  obtain⟨v0,vs,rfl⟩:∃v0 l,vs=v0::l:=by
   cases vs with
   |nil=>exact absurd hvl.symm hzl
   |cons x l=>exact⟨x,l,rfl⟩
  have c1:=c_cellsC 0 za v0 vs [.mk ak as' an al,.mk bk bs bn bl] zb hz s lz.g.ok (by unfold NmB;rw[lz.N];simp);have st:=st (v0::vs) s Z lz zl q1;by_cases w1:(encS (some<|v0::vs) s<|.mk ak as' an al).1.2=0
  .by_cases w2:(encS (some<|v0::vs) (encS (some<|v0::vs) s<|.mk ak as' an al).2<|.mk bk bs bn bl).1.2=0
   .have e:yE (some<|v0::vs) [.mk ak as' an al,.mk bk bs bn bl] [] s=(([(encS (some<|v0::vs) s<|.mk ak as' an al).1.1,(encS (some<|v0::vs) (encS (some<|v0::vs) s<|.mk ak as' an al).2<|.mk bk bs bn bl).1.1],true),(encS (some<|v0::vs) (encS (some<|v0::vs) s<|.mk ak as' an al).2<|.mk bk bs bn bl).2):=by
     rw[yE,oV λw=>w w1,yE,oV λw=>w w2];rfl
    rw[e] at c1;have st:=st w1 w2;generalize (encS (some<|v0::vs) (encS (some<|v0::vs) s<|.mk ak as' an al).2<|.mk bk bs bn bl)=z at*;generalize (encS (some<|v0::vs) s<|.mk ak as' an al).1.1=x0 at*;obtain⟨⟨x1,z2⟩,zs⟩:=z;obtain⟨y1,y2,y3,y4,y5,f0,F⟩:=st;obtain⟨⟨y11,y12⟩,y1s⟩:=y1;obtain⟨⟨y21,y22,y23⟩,y2s⟩:=y2;obtain⟨⟨y31,y32,y33⟩,y3s⟩:=y3;obtain⟨⟨y41,y42⟩,y4s⟩:=y4;obtain⟨⟨y51,y52,y53⟩,y5s⟩:=y5;dsimp only at*;refine .inr ⟨(s,q,v0::vs),hl,([x0,x1],true,zs),c1,bN ⟨⟨rfl,zc,by show(0:Int)<2;decide,rfl⟩,⟨rfl,zc,by show(1:Int)<2;decide,rfl⟩,(y11,y12,y1s),f0,zZ (λ_=>zH rfl) λe1=>?_⟩⟩;obtain⟨f1,f2,f3⟩:=F e1;refine⟨⟨rfl,zc,by show(0:Int)<2;decide,rfl⟩,(y21,y22,y23,y2s),f1,⟨rfl,zc,by show(1:Int)<2;decide,rfl⟩,(y31,y32,y33,y3s),f2,zZ (λ_=>zH rfl) λe2=>zZ (λ_=>zH rfl) λe3=>?_⟩;obtain⟨g1,g2,g3,g4,g5,g6⟩:=f3 e2 e3;refine⟨true,g1,⟨rfl,zc,by show(0:Int)<2;decide,rfl⟩,⟨rfl,zc,by show(1:Int)<2;decide,rfl⟩,(y41,y42,y4s),g2,⟨rfl,zc,by show(0:Int)<2;decide,rfl⟩,(y51,y52,y53,y5s),g3,true,g4,?_⟩;exact bP<|bP<|zB (λ_=>zB (λ_=>zH rfl) λw=>absurd g6 w) λw=>zB (λ_=>zB (λ_=>zH rfl) λw=>absurd g6 w) λw3=>absurd (g5.resolve_left w) w3
   .have e:yE (some<|v0::vs) [.mk ak as' an al,.mk bk bs bn bl] [] s=(([],false),(encS (some<|v0::vs) (encS (some<|v0::vs) s<|.mk ak as' an al).2<|.mk bk bs bn bl).2):=by
     rw[yE,oV λw=>w w1,yE,oX w2]
    rw[e] at c1;exact .inr ⟨(s,q,v0::vs),hl,([],false,_),c1,bP<|zH rfl⟩
  .have e:yE (some<|v0::vs) [.mk ak as' an al,.mk bk bs bn bl] [] s=(([],false),(encS (some<|v0::vs) s<|.mk ak as' an al).2):=by
    rw[yE,oX w1]
   rw[e] at c1;exact .inr ⟨(s,q,v0::vs),hl,([],false,_),c1,bP<|zH rfl⟩
open Go.ChangeShapes Go.WideShapes Go.ChangeAt Go.RowKit
end Go.AM
namespace Go.Proofs.YtiflgghnjkfblaaGreat.base
open Go.ChangeShapes Go.WideShapes Go.ChangeAt Go.RowKit Go.AM
theorem one_le {H:Type}(d:DataW H):1<=Rows.uptoBulk d:=by
 cases d with
 |lit l=>cases l<;>simp[Rows.uptoBulk]
 |_=>simp[Rows.uptoBulk]
theorem bulk {H:Type}:Bulk (H:=H) Rows.uptoBulk Rows.uptoBulkAll:=
 ⟨rfl,λ_ _=>rfl,one_le,λes sp=>by simp only[Rows.uptoBulk];omega,λl=>by simp[Rows.uptoBulk],λl=>by simp[Rows.uptoBulk]⟩
theorem own:ownKnob rc.godebug=none:=zg
theorem laidOut:laidOutB rc=true:=zg
theorem tmTy:∃f0 f1 f2 f3:Field,TmTy rc 26 f0 f1 f2 f3:=
 ⟨_,_,_,_,Tryz.underlying26,Tryz.underlying23,Tryz.underlying9,Tryz.underlying3,Tryz.underlying24,rfl,rfl,rfl,rfl,zg,zg,zg,zg,zg⟩
theorem rec22:rc.readableRec 22=true:=zg
theorem lt22:22<rc.types.size:=rA zg
theorem rec26:rc.readableRec 26=true:=zg
theorem lt26:26<rc.types.size:=rA zg
theorem noGl (g:Nat)(h:rc.globalNamed "internal/strconv.uint64pow10" =some g):False:=by
 rw[(zg:rc.globalNamed "internal/strconv.uint64pow10" =none)] at h;cases h
theorem upto {H:Type}{l:List (DataW H)}(hk:Rows.uptoSmall H l=true):Rows.uptoBulkAll l<=1048576:=rA hk
end Go.Proofs.YtiflgghnjkfblaaGreat.base
