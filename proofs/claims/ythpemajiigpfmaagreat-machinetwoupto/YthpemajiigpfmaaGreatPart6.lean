/- Laws, part 6. No conditions. -/
import Derived.Test.YthpemajiigpfmaaGreatPart5
import Derived.Lib.Builder
import Derived.Lib.AppendStr
import Derived.Lib.UnsafeStr
import Derived.Lib.Walk
import Derived.Lib.MakeNoZero
import Derived.Laws.Externs
set_option linter.all false
set_option maxRecDepth 100000
open Go Go.Proofs
open Go.IntKind (wrap)
open List (getD take drop)
open Int (toNat)
namespace Go.AM
def skb {k j:Int}{A B}(h:k≠j)(b:B):br (k==j) A B:=zm (λq=>absurd (zl q) h) λ_=>b
def ask6 {a b c d e f P Q}(h:a=true)(o:b=true)(i:c=true)(j:d=true)(m:e=true)(g:f=true)(p:P)(q:Q):ask a (ask b<|ask c<|ask d<|ask e<|ask f<|P/\Q):=zq h<|zq o<|zq i<|zq j<|zq m<|zq g ⟨p,q⟩
def Bs.cut {G K m d i}(h:Bs G K m d i)(j)(e:j<=m.n):Bs G K {m with n:=j} (d.take j) i:={h with
 cn:=by have:=h.cn;rw[S8];dsimp only;omega
 c3:=by have:=h.c3;dsimp only;omega
 cr:=by have q:=SJ (take j) h.cr;rw[F2,G2 e,<-Gu] at q;exact q
 mks:=λc b=>h.mks c (SX b)
 so:=h.so.sublist (List.take_sublist _ _)
 ok:=λc b=>h.ok c (SX b)}
def c_mstep {G:Gs} (hG:GOk G) {K:Nat} (hK:K+2097154<=100000000000) {m:Ma} {ch:List Ch} {i:Im} (h:Bs G K m ch i) (hi:(imD i:Int)+m.f+1<=G.F) {c:Cd} {v:SlO} {b d:Int} {k:Fr} {a:Int} (y:m.nf=frF (.mk c v b d k a)) {ws:List Int} (hA:m.A=.sl false 1 (IR ws)\/m.A=.N/\ws=[])
  {q:Nat} (hp:Pc (some ws.length) (.mk c v b d k a) m.na q) (hq:q<=imD i)
  (hbi:∀t:Tm,bl t=true->t.sz<=2000->tmI t->Go {m with na:=wrap .i64 (m.na+1)} i->∃o D,AC EF 46 [aM,aT t] (mOb m []) (ci o) (mSb D [])/\Po G (K+2097154) m.f o D):
  ∃o D,AC EF 26 [aM] (mOb m []) (ci o) (mSb D [])/\Po G (K+2097154) m.f o D:=by
 have f0:=h.f0;obtain⟨at_,L,p,q',hna,rfl,p1,p2,p3,p4,p5,p6,p7,p8,p9,p10,p11⟩:=hp.inv;have hat:at_<c.ins.length:=by rw[<-p7.1];exact(EW.1 p8).1
 obtain⟨x,hx⟩:∃x,c.ins[at_]?=some x:=⟨_,EU hat⟩;have hmem:=Sl hx;obtain⟨⟨z1,z5⟩,z2,z3,z4⟩:=p1.sub hmem;have hB:c.ins.length<=B:=by exact(YM p1.2.1).2.1
 have hB2:(at_:Int)<=549755813888:=by simp only[B] at hB;omega
 have wr1:wrap .i64 (m.na+1)=((at_+1:Nat):Int):=by rw[hna,w64 za za];omega
 obtain⟨w,hfl,_⟩:=vC_at p1.1 hx;have J:=bE hfl;have E:=p7.2 at_ x p hx p8;have hcnt:=p1.cnt;have e0:FV.prow m.nf=[.pt<|FC c,slF v,.int .i64 b,.int .i64 d,frF k,.int .i64 a]:=by rw[y];rfl
 have g:FV.isPt m.nf=true:=by rw[y];rfl
 have Z:shpB [.cst<|.pointer none] (FV.prow m.nf)=true:=by rw[e0];rfl
 have u:FV.isPt (getD (FV.prow m.nf) 0 FV.N)=true:=by rw[e0];rfl
 have e5:getD (drop 5<|FV.prow<|getD (FV.prow m.nf) 0 FV.N) 0 FV.N=.sl false 8 (FIs c.ins):=by rw[e0];show getD (drop 5<|FC c) 0 FV.N=_;rw[xE];rfl
 have U:shpB [.N] (drop 5<|FV.prow<|getD (FV.prow m.nf) 0 FV.N)=true:=by rw[e0];show shpB [.N] (drop 5<|FC c)=_;rw[xE];rfl
 have Y:FV.L 8 (getD (drop 5<|FV.prow<|getD (FV.prow m.nf) 0 FV.N) 0 FV.N)=true:=by rw[e5];rfl
 have M:0<=m.na:=za;have W:m.na<(((FV.ses<|getD (drop 5<|FV.prow<|getD (FV.prow m.nf) 0 FV.N) 0 FV.N).length:Nat):Int):=by rw[e5];show m.na<(((FIs c.ins).length:Nat):Int);rw[zP];omega
 have X:getD (FV.ses<|getD (drop 5<|FV.prow<|getD (FV.prow m.nf) 0 FV.N) 0 FV.N) (toNat m.na) []=FI x:=by rw[e5,hna,S3];show getD (FIs c.ins) at_ []=_;rw[uj];simp[getD,hx]
 have s4:shpB [.cst<|.pointer none,.int .i64 0] (drop 4<|FV.prow m.nf)=true:=by rw[e0];cases k<;>rfl
 have s5:shpB [.int .i64 0] (drop 2<|FV.prow m.nf)=true:=by rw[e0];rfl
 have s6:shpB [.N] (drop 1<|FV.prow m.nf)=true:=by rw[e0];match v with|none=>rfl|some []=>rfl|some (_::_)=>rfl
 have nx:x.k≠3->x.k≠4->x.k≠8->x.k≠10->∀(H:Option Nat) (v':SlO),(slL v').length=(slL v).length->(headK x.k=true->∃n,H=some n/\c.ar<=(n:Int))->Pc H (.mk c v' b d k a) (wrap .i64<|m.na+1) ((aftP x.k p).2.toNat+q'):=λh3 h4 h8 h10 H v' hv hh=>by rw[wr1];exact Pc.to p1 (hv.trans p2) p3 p4 p5 p6 p7 hx za ((E.2 h3 h4 h8).2.2 h10) (E.2 h3 h4 h8).1 hh p11
 have af:x.k≠14->x.k≠15->(aftP x.k p).2=p.2:=λh1 h2=>by unfold aftP;repeat' split
                                                        all_goals first|rfl|(exfalso;omega)
 have go:x.k≠3->x.k≠4->x.k≠8->x.k≠10->x.k≠14->x.k≠15->∀v':SlO,(slL v').length=(slL v).length->Go {m with nf:=frF (.mk c v' b d k a),na:=wrap .i64 (m.na+1)} i:=λh3 h4 h8 h10 h14 h15 v' hv=>
  ⟨.mk c v' b d k a,ws,(aftP x.k p).2.toNat+q',rfl,hA,nx h3 h4 h8 h10 _ v' hv<|p10 x hx,by rw[af h14 h15];exact hq⟩
 have go1:x.k≠3->x.k≠4->x.k≠8->x.k≠10->x.k≠14->x.k≠15->Go {m with na:=wrap .i64 (m.na+1)} i:=λh3 h4 h8 h10 h14 h15=>by have:=go h3 h4 h8 h10 h14 h15 v rfl;rw[<-y] at this;exact this
 have no:∀(j:Int),x.k≠j->∀ {q:Prop},((x.k:Int)==j)=true->q:=λj hj q h=>absurd (zl h) hj;have ys:∀ {j:Int},x.k=j->∀ {q:Prop},((x.k:Int)==j)=false->q:=λhj q h=>absurd hj (zl h);by_cases k0:x.k=0\/x.k=1
 .have hh:headK x.k=true:=by rcases k0 with e|e<;>rw[e]<;>rfl
  obtain⟨n,hn,hn2⟩:=p10 x hx hh;obtain rfl:ws.length=n:=by injection hn
  have hxa:0<=x.a/\x.a<c.ar:=by unfold insB at J;rw[EL k0] at J;simp only[EN,Sf] at J;exact J.1
  have hA':m.A=.sl false 1 (IR ws):=hA.resolve_right λ⟨_,e⟩=>by subst e;simp at hn2;omega
  obtain⟨o,D,O,g2⟩:=iE hK h y (go1 za za za za za za) hA' x ⟨hxa.1,za⟩ ⟨by simp only[B];omega,z5⟩;refine⟨o,D,acv (v26 ..) ?_,g2⟩;unfold w26_0;rw[X,xZ];refine ask6 g g Z u u U ⟨Y,M,W,rfl⟩ ?_;rcases k0 with e|e
  .exact zm (λ_=>⟨(o,D),O,.refl _,rfl⟩)<|ys e
  .exact zm (no 0 za) λ_=>zm (λ_=>⟨(o,D),O,.refl _,rfl⟩)<|ys e
 have hh:headK x.k=true->False:=λw=>by simp[headK] at w;omega
 by_cases e:x.k=2
 .obtain⟨o,D,O,g2⟩:=mT hG za h y x.t za z5 (.mk c v b d k a) (wrap .i64<|m.na+1) (nx za za za za none v rfl λw=>(hh w).elim) (by rw[af za za];exact hq);rw[aPl,<-y] at O;refine⟨o,D,acv (v26 ..) ?_,g2.up za<|EQ _⟩;rw[X,xZ];refine ask6 g g Z u u U ⟨Y,M,W,rfl⟩ ?_;iterate 2 refine skb (k:=x.k) za ?_
  exact zm (λ_=>⟨(o,D),O,.refl _,rfl⟩)<|ys e
 by_cases e:x.k=3
 .have pz:=E.1<|.inl e;obtain⟨o,D,O,g2⟩:=mT hG za h y x.t za z5 k a p11 za;refine⟨o,D,acv (v26 ..) ?_,g2.up za<|EQ _⟩;rw[X,xZ];refine ask6 g g Z u u U ⟨Y,M,W,rfl⟩ ?_;rw[e0];iterate 3 refine skb (k:=x.k) za ?_
  exact zm (λ_=>zq g<|zq g<|zq (by rw[<-e0];exact s4) ⟨(o,D),O,.refl _,rfl⟩)<|ys e
 by_cases e:x.k=4
 .refine⟨0,{m with nf:=frF k,na:=a},acv (v26 ..) ?_,.inl ⟨rfl,EQ _,ch,i,{h.up (za:K<=K+2097154) with},k,ws,q',rfl,hA,p11.arg _,za⟩⟩;rw[X,xZ];refine ask6 g g Z u u U ⟨Y,M,W,rfl⟩ ?_;rw[e0];iterate 4 refine skb (k:=x.k) za ?_
  exact zm (λ_=>zq g<|zq g<|zq (by rw[<-e0];exact s4) rrl)<|ys e
 by_cases e:x.k=5
 .have hl2:x.l.length=2:=by unfold fldB at hfl;simp only[EN] at hfl;have:=hfl.2.2.2.2.1;rw[EL e] at this;exact zl this
  obtain⟨o,D,O,g2⟩:=c_equal hK h y (go1 za za za za za za) x.l hl2 (λt ht=>⟨by have:=(z2 t ht).1;simp only[B];omega,(z2 t ht).2⟩);refine⟨o,D,acv (v26 ..) ?_,g2⟩;rw[X,xZ];refine ask6 g g Z u u U ⟨Y,M,W,rfl⟩ ?_;iterate 5 refine skb (k:=x.k) za ?_
  exact zm (λ_=>⟨(o,D),O,.refl _,rfl⟩)<|ys e
 by_cases e:x.k=6
 .have hnum:bl x.t=true:=by unfold insB at J;rw[EG k0,EG za,EL e] at J;exact J
  obtain⟨o,D,O,g2⟩:=hbi x.t hnum z1 z5<|go1 za za za za za za;refine⟨o,D,acv (v26 ..) ?_,g2⟩;rw[X,xZ];refine ask6 g g Z u u U ⟨Y,M,W,rfl⟩ ?_;iterate 6 refine skb (k:=x.k) za ?_
  exact zm (λ_=>⟨(o,D),O,.refl _,rfl⟩)<|ys e
 by_cases e:x.k=7
 .have fm:yb [b,(m.n:Int)]=min b (m.n:Int):=rfl;have hb:=(h.cut (toNat<|yb [b,(m.n:Int)])<|by rw[fm];omega).up (za:K<=K+2097154);refine⟨0,{m with na:=wrap .i64 (m.na+1),n:=toNat (yb [b,(m.n:Int)])},acv (v26 ..) ?_,.inl ⟨rfl,EQ _,_,i,{hb with},go1 za za za za za za⟩⟩;rw[X,xZ];refine ask6 g g Z u u U ⟨Y,M,W,rfl⟩ ?_;have O:(0:Int)<=yb [b,(m.n:Int)]/\yb [b,(m.n:Int)]<=(m.n:Int):=by rw[fm];omega
  rw[e0];iterate 7 refine skb (k:=x.k) za ?_
  exact zm (λ_=>zq g<|zq g<|zq (by rw[<-e0];exact s5) ⟨⟨EQ _,O⟩,.refl _,rfl⟩)<|ys e
 by_cases e:x.k=8
 .refine⟨1,m,acv (v26 ..) ?_,.inr<|.inl ⟨rfl,EQ _,ch,i,h.up za⟩⟩;rw[X,xZ];refine ask6 g g Z u u U ⟨Y,M,W,rfl⟩ ?_;iterate 8 refine skb (k:=x.k) za ?_
  exact zm (λ_=>rrl)<|ys e
 have jp:x.k=9\/x.k=10->∀H:Option Nat,Pc H (.mk c v b d k a) x.a ((aftP x.k p).2.toNat+q'):=λhk H=>by have hr:=J;unfold insB at hr;rw[EG k0,EG za,EG za,EL hk,Sf] at hr;have:=Pc.to (j:=x.a.toNat) p1 p2 p3 p4 p5 p6 p7 hx za ((E.2 za za za).2.1 hk) (E.2 za za za).1 (λw=>(hh w).elim) p11 (H:=H);rwa [show(x.a.toNat:Int)=x.a by omega] at this
 by_cases e:x.k=9
 .have hpu:=c_push m h.len h.S (.mk c v b d k a) x.a .N .nil 0 .N;have hb:=h.push (.mk c v b d k a) x.a .N .nil 0 .N<|.inl ⟨rfl,_,jp (.inl e) none,by rw[af za za];exact hq⟩;rw[aCh,<-y] at hpu;generalize jI m (.mk c v b d k a) x.a .N .nil 0 .N=z at hpu hb;obtain⟨z1,m1⟩:=z;dsimp only at hpu hb;rcases hb with rfl|⟨rfl,hf1,hs1,hn1,hn2,hA1,hb⟩
  .refine⟨_,_,acv (v26 ..) ?_,.inr<|.inr<|ke (m:=m1) (l:=m1.f) (e:=202) zc zc⟩;rw[X,xZ];refine ask6 g g Z u u U ⟨Y,M,W,rfl⟩ ?_;iterate 9 refine skb (k:=x.k) za ?_
   exact zm (λ_=>⟨(202,m1),hpu,bP ⟨yw m1 m1.f 202,xv _ _ _,.refl _,SJ (λz=>mSb z []) y5⟩⟩)<|ys e
  .refine⟨0,{m1 with nf:=m.nf,na:=wrap .i64 (m.na+1)},acv (v26 ..) ?_,.inl ⟨rfl,hf1,_,i,{hb.up (za:K<=K+2097154) with},?_⟩⟩
   .rw[X,xZ];refine ask6 g g Z u u U ⟨Y,M,W,rfl⟩ ?_;iterate 9 refine skb (k:=x.k) za ?_
    exact zm (λ_=>⟨(0,m1),hpu,bN rrl⟩)<|ys e
   .obtain⟨k',ws',q2,r1,r2,r3,r4⟩:=go1 za za za za za za;exact⟨k',ws',q2,r1,by rw[<-hA1] at r2;exact r2,r3,r4⟩
 by_cases e:x.k=10
 .refine⟨0,{m with na:=x.a},acv (v26 ..) ?_,.inl ⟨rfl,EQ _,ch,i,{h.up (za:K<=K+2097154) with},.mk c v b d k a,ws,_,y,hA,jp (.inr e) _,by rw[af za za];exact hq⟩⟩;rw[X,xZ];refine ask6 g g Z u u U ⟨Y,M,W,rfl⟩ ?_;iterate 10 refine skb (k:=x.k) za ?_
  exact zm (λ_=>rrl)<|ys e
 have sl:x.k=11\/x.k=13->0<=x.a/\x.a<((slL v).length:Int):=λhk=>by have hr:=J;unfold insB at hr;rw[EG k0,EG za,EG za,EG za,EL hk,Sf] at hr;rw[p2];omega
 by_cases e:x.k=11
 .obtain⟨o,D,O,g2⟩:=c_slot (m:={m with L:=wrap .i64 (m.L+1)}) {h with} y x.a (sl<|.inl e) za ⟨1,wrap .i64<|m.L+1,0,0,0⟩ zb<|go za za za za za za;refine⟨o,D,acv (v26 ..) ?_,g2.up za<|EQ _⟩;rw[X,xZ];refine ask6 g g Z u u U ⟨Y,M,W,rfl⟩ ?_;iterate 11 refine skb (k:=x.k) za ?_
  exact zm (λ_=>⟨(o,D),O,.refl _,rfl⟩)<|ys e
 by_cases e:x.k=12
 .refine⟨0,{m with na:=wrap .i64 (m.na+1),L:=wrap .i64 (m.L-1)},acv (v26 ..) ?_,.inl ⟨rfl,EQ _,ch,i,{h.up (za:K<=K+2097154) with},go1 za za za za za za⟩⟩;rw[X,xZ];refine ask6 g g Z u u U ⟨Y,M,W,rfl⟩ ?_;iterate 12 refine skb (k:=x.k) za ?_
  exact zm (λ_=>rrl)<|ys e
 by_cases e:x.k=13
 .obtain⟨o,D,O,g2⟩:=c_slot h y x.a (sl<|.inr e) za ⟨4,m.L,0,0,0⟩ zb<|go za za za za za za;refine⟨o,D,acv (v26 ..) ?_,g2.up za<|EQ _⟩;rw[X,xZ];refine ask6 g g Z u u U ⟨Y,M,W,rfl⟩ ?_;iterate 13 refine skb (k:=x.k) za ?_
  exact zm (λ_=>⟨(o,D),O,.refl _,rfl⟩)<|ys e
 by_cases e:x.k=14
 .have e1:(aftP x.k p).2=p.2+1:=by rw[e];rfl
  have fr:∀d∈x.c,d.fr<=c.sl:=λd hd=>(AX c.ins 0 none (vC_eq p1.1).2.2.1 x hmem d hd).1
  have hb:Bs G (K+2097154) {m with na:=wrap .i64 (m.na+1),I:=imF (.mk x.c v i)} ch (.mk x.c v i):={h.up (za:K<=K+2097154) with
   I:=rfl,i1:=⟨λd hd=>⟨z4 d hd,by have:=fr d hd;omega⟩,z3,za,h.i1⟩,i2:=by simp only[imD];omega}
  refine⟨0,{m with na:=wrap .i64 (m.na+1),I:=imF (.mk x.c v i)},?_,.inl ⟨rfl,EQ _,ch,_,hb,.mk c v b d k a,ws,_,y,hA,nx za za za za _ v rfl (λw=>(hh w).elim),by rw[e1];simp only[imD];omega⟩⟩;have hI2:=h.I
  have r:AC EF 26 [aM] (mOb m []) (ci 0) (.arr 14 [[.a<|.ep 1 6 0 0,qf m.P,qf m.T,qi m.S,qf m.V,qf m.nf,qi<|wrap .i64<|m.na+1,qf m.A,qi m.L,.a<|.ep 10 3 0 0,.a<|.osl 11 10 0 m.n,qi m.f,qf<|.bool m.w,qf m.o]]::
    hpO 7 8 9 5 m.s:: .gone:: .gone:: .gone:: .mapz (NM m.s.N 0):: .gone:: .arz 5 (CR m.s.C):: .arz 7 (TR m.s.T):: .arz 1 (NR m.s.N):: .arr 3 [[qf<|.sl false 6<|FCs x.c,qf<|getD (drop 1<|FV.prow m.nf) 0 FV.N,qf m.I]]::[.arz 10 m.C]):=by
   refine acv (v26 ..) ?_;rw[X,xZ];refine ask6 g g Z u u U ⟨Y,M,W,rfl⟩ ?_;iterate 14 refine skb (k:=x.k) za ?_
   exact zm (λ_=>zq g<|zq g<|zq s6 rrl)<|ys e
  have e6:getD (drop 1<|FV.prow m.nf) 0 FV.N=slF v:=by rw[e0];rfl
  rw[e6,hI2] at r;exact(r.ice 10 3 [[.sl false 6<|FCs x.c,slF v,imF i]] rfl).skip 10 1 _ (ci 0) rfl rfl rfl rfl zb zb
 by_cases e:x.k=15
 .have e1:(aftP x.k p).2=p.2-1:=by rw[e];rfl
  have e2:=(E.2 za za za).1;cases i with
  |nil=>simp only[imD] at hq;omega
  |mk cs_ s_ i=>
   have hI2:=h.I;have u0:FV.prow m.I=[.sl false 6<|FCs cs_,slF s_,imF i]:=by rw[hI2];rfl
   have u1:FV.isPt m.I=true:=by rw[hI2];rfl
   have u2:shpB [.cst<|.pointer none] (drop 2<|FV.prow m.I)=true:=by rw[u0];cases i<;>rfl
   have hb:Bs G (K+2097154) {m with na:=wrap .i64 (m.na+1),I:=imF i} ch i:={h.up (za:K<=K+2097154) with
    I:=rfl,i1:=h.i1.2.2.2,i2:=by have:=h.i2;simp only[imD] at this;dsimp only;omega}
   refine⟨0,{m with na:=wrap .i64 (m.na+1),I:=imF i},acv (v26 ..) ?_,.inl ⟨rfl,EQ _,ch,i,hb,.mk c v b d k a,ws,_,y,hA,nx za za za za _ v rfl (λw=>(hh w).elim),by rw[e1];simp only[imD] at hq;omega⟩⟩;rw[X,xZ];refine ask6 g g Z u u U ⟨Y,M,W,rfl⟩ ?_;rw[u0];iterate 15 refine skb (k:=x.k) za ?_
   exact zm (λ_=>zq u1<|zq u1<|zq (by rw[<-u0];exact u2) rrl)<|ys e
 refine⟨0,{m with na:=wrap .i64 (m.na+1)},acv (v26 ..) ?_,.inl ⟨rfl,EQ _,ch,i,{h.up (za:K<=K+2097154) with},go1 za za za za za za⟩⟩;rw[X,xZ];refine ask6 g g Z u u U ⟨Y,M,W,rfl⟩ ?_;iterate 16 refine skb (k:=x.k) za ?_
 exact rrl
def I64 (x:Int):= -9223372036854775808<=x/\x<=9223372036854775807
def testV (op:List UInt8)(a b:Int):Bool×Int:=
 if op=[60] then(decide (a<b),0) else if op=[61,60] then(decide (a<=b),0) else if op=[62] then(decide (a>b),0) else if op=[62,61] then(decide (a>=b),0) else(false,180)
abbrev tII (z:Int×Int):TV:=.tup [(false,[qi z.1]),(false,[qi z.2])]
abbrev tBI (z:Bool×Int):TV:=.tup [(false,[qf<|.bool z.1]),(false,[qi z.2])]
def leBI {a b z}(h:z=(a,b)):TV.Le (.tup [(false,[qf<|.bool a]),(false,[qi b])]) (tBI z)/\([]:List AObj)=[]:=by rw[h];exact rrl
abbrev cu (n:Int):TV:=.c<|qf<|.int .u64 n
def mh (a)(b:I64 a):AC EF 166 [ci a] [] (cu a.natAbs) []:=by
 refine acv (v166 ..) ?_;unfold I64 at b;refine zm (λh=>?_) λh=>?_
 .have h:=S0 h;rw[show wrap .u64 _=a.natAbs by rw[IntKind.wrap_u64,IntKind.wrap_u64];omega];exact rrl
 .have h:=ES h;rw[show wrap .u64 a=a.natAbs by rw[IntKind.wrap_u64];omega];exact rrl
def c_amul (x y:Nat)(e:x<18446744073709551616)(j:y<18446744073709551616):AC EF 167 [cu x,cu y] [] (.tup [(false,[qf<|.int .u64<|(x*y/18446744073709551616:Nat)]),(false,[qf<|.int .u64<|(x*y % 18446744073709551616:Nat)])]) []:=by
 refine AC.of_calls (vals:=[.int .u64 x,.int .u64 y]) (v:=.tuple #[.int .u64<|(x*y/18446744073709551616),.int .u64<|(x*y % 18446744073709551616:Nat)]) zg (λw=>Tryz.bits_Mul64 x y e j w) (λw X β p o=>?_) λw X β=>?_
 .obtain⟨u,h,rfl,d,m⟩:=o.cons_inv;obtain⟨v,i,rfl,f,g⟩:=m.cons_inv;rw[TRep.int_inv d,TRep.int_inv f,g.nil_inv]
 .refine⟨[.int .u64<|(x*y/18446744073709551616),.int .u64<|(x*y % 18446744073709551616)],rfl,?_⟩;have b:∀n,PRep (WRep w X β) (false,[qf<|.int .u64 n]) _:=λn=>⟨[.int .u64 n],rfl,.cons (.a _ _<|.fz _ _<|.int _ _) .nil,λ_=>rfl⟩;exact .cons (b _)<|.cons (b _) .nil
def JF (x):I64 (wrap .i64 x):=by rw[IntKind.wrap_i64];unfold I64;omega
def ja {x y:List UInt8}(h:(x==y)=false):¬x=y:=zl h
def YR {x y:List UInt8}(h:(x==y)=true):x=y:=zl h
def c_atest (g a b):AC EF 121 [cs g,ci a,ci b] [] (tBI<|testV g a b) []:=by
 refine acv (v121 ..) ?_;unfold testV
 repeat' (first|refine zm (λh=>?_) (λh=>?_))
 .rw[EL<|YR h];exact leBI rfl
 next d=>rw[EG<|ja d,EL<|YR h];exact leBI rfl
 next e d=>rw[EG<|ja e,EG<|ja d,EL<|YR h];exact leBI rfl
 next f e d=>rw[EG<|ja f,EG<|ja e,EG<|ja d,EL<|YR h];exact leBI rfl
 next f e d=>rw[EG<|ja f,EG<|ja e,EG<|ja d,EG<|ja h];exact leBI rfl
def acE {lv f args}{X:Int×Int->Prop}(e:∀z,vcE EF sh lv f args [] (λr0 Hs0=>TV.Le r0 (tII z)/\Hs0=[]) (RPt EF f 0 (tII z) [])=X z)(h:∃z,I64 z.1/\X z):∃z,I64 z.1/\AC EF f args [] (tII z) []:=by let ⟨z,d,b⟩:=h;exact⟨z,d,AC.vc hP sh lv (EI _) zb zb<|Eq.mpr (e z) b⟩
def brE {b}{t f:Int×Int->Prop}(e:b=true->∃z,I64 z.1/\t z)(d:b=false->∃z,I64 z.1/\f z):∃z,I64 z.1/\br b (t z) (f z):=by
 cases b with
 |true=>exact e rfl
 |false=>exact d rfl
def zI:I64 0:=by unfold I64;omega
def bQ (a b):∃z,I64 z.1/\AC EF 164 [ci a,ci b] [] (tII z) []:=by refine acE (λz=>v164 a b _ [])<|brE (λ_=>brE (λ_=>⟨(0,182),zI,.refl _,rfl⟩) λ_=>⟨(wrap .i64 _,0),JF _,.refl _,rfl⟩) λ_=>⟨(wrap .i64 _,0),JF _,.refl _,rfl⟩
def YE (m d b):∃z,I64 z.1/\AC EF 165 [cb m,cu d,cu b] [] (tII z) []:=by refine acE (λz=>v165 m d b _ []) ?_;refine brE (λ_=>brE (λ_=>?_) λ_=>brE (λ_=>?_) λ_=>brE (λ_=>?_) λ_=>?_) λ_=>brE (λ_=>?_) λ_=>brE (λ_=>?_) λ_=>brE (λ_=>?_) λ_=>?_;all_goals first|exact⟨(0,182),zI,.refl _,rfl⟩|exact⟨(_,0),JF _,.refl _,rfl⟩
def x_ado (g a b)(i:I64 a)(m:I64 b):∃z,I64 z.1/\AC EF 123 [cs g,ci a,ci b] [] (tII z) []:=by
 have f:=mh a i;have j:=mh b m;have na:a.natAbs<=9223372036854775808:=by unfold I64 at i;omega
 have x:b.natAbs<=9223372036854775808:=by unfold I64 at m;omega
 have v:b≠0->I64 (a.tmod b):=λh=>by have e:=Int.natAbs_tmod a b;have d:=Nat.mod_lt a.natAbs (za:b.natAbs>0);unfold I64 at*;omega
 have u:b≠0->(b.natAbs:Int)≠0:=λh=>za;refine acE (λz=>v123 g a b _ []) ?_;refine brE (λ_=>?_) λ_=>brE (λ_=>?_) λ_=>brE (λ_=>brE (λ_=>?_) λ_=>?_) λ_=>brE (λ_=>?_) λ_=>brE (λh=>brE (λ_=>⟨(0,181),zI,.refl _,rfl⟩) λq=>brE (λw=>?_) λ_=>?_) λ_=>brE (λh=>brE (λ_=>⟨(0,181),zI,.refl _,rfl⟩) λq=>brE (λ_=>?_) λw=>?_) λ_=>⟨(0,180),zI,.refl _,rfl⟩
 .let ⟨z,e,d⟩:=bQ a b;exact⟨z,e,_,_,d,.refl _,rfl⟩
 .let ⟨z,e,d⟩:=YE (decide (a>0)) 0 a.natAbs;exact⟨z,e,_,f,_,_,d,.refl _,rfl⟩
 .let ⟨z,e,d⟩:=bQ a (wrap .i64<|0-b);exact⟨z,e,_,_,d,.refl _,rfl⟩
 .let ⟨y,e,d⟩:=bQ a 9223372036854775807;by_cases q:y.2=0
  .let ⟨z,o,p⟩:=bQ y.1 1;exact⟨z,o,_,_,d,zm (λw=>by simp[q] at w) λ_=>⟨_,_,p,.refl _,rfl⟩⟩
  .exact⟨(0,y.2),zI,_,_,d,zm (λ_=>rrl) λw=>absurd (zl w) q⟩
 .have r:=c_amul a.natAbs b.natAbs za za;obtain⟨z,e,d⟩:=YE _ _ _;exact⟨z,e,_,f,_,j,_,_,r,_,_,d,.refl _,rfl⟩
 .rw[YR h] at w;cases w
 .obtain⟨z,e,d⟩:=YE _ 0 _;exact⟨z,e,_,f,_,j,⟨rfl,u<|zl q⟩,_,_,d,.refl _,rfl⟩
 .exact⟨(_,0),v<|zl q,⟨rfl,zl q⟩,.refl _,rfl⟩
 .rw[h] at w;cases w
abbrev tNo (n o:Int):TV:=.tup [(false,[qi n]),(false,[qi o])]
def NuOk (G:Gs)(K:Nat)(i:Im)(ch:List Ch)(m:Ma):Prop:=∀a:Int,∃(n o:Int) (m':Ma),AC EF 78 [aM,ci a] (mOb m []) (tNo n o) (mSb m' [])/\(o≠0->Po G K m.f o m')/\(o=0->m'.f<=m.f/\Bs G K m' ch i/\m'.nf=m.nf/\m'.na=m.na/\m'.A=m.A/\I64 n)
def Go.of {m e i}(h:Go m i)(f:e.nf=m.nf)(g:e.na=m.na)(j:e.A=m.A):Go e i:=by let ⟨k,o,q,a,b,c,d⟩:=h;exact⟨k,o,q,f.trans a,by rw[j];exact b,by rw[g];exact c,d⟩
def mQ {G K j i}(g:∀m,Bs G K m j i->NuOk G K i j m){m}(h:Bs G K m j i)(C:Go {m with na:=wrap .i64 (m.na+1)} i)(A x y):
  ∃o J,AC EF 77 [aM,cs A,ci x,ci y] (mOb m []) (ci o) (mSb J [])/\Po G K m.f o J:=by
 let ⟨e,o1,d,u,V,W⟩:=g m h x;by_cases v:o1=0
 .subst v;let ⟨M,F,O,S,T,i1⟩:=W rfl;let ⟨p,D,b,E,N,X⟩:=g d F y;by_cases z:D=0
  .subst z;let ⟨Y,r,U,t2,t3,i2⟩:=X rfl;have H:=c_atest A e p;have L:Go {b with na:=wrap .i64 _} i:=C.of (U.trans O) (by show wrap .i64 (b.na+1)=_;rw[t2,S])<|t3.trans T;cases I:(testV A e p).1 with
   |true=>refine⟨0,{b with na:=wrap .i64 (b.na+1)},acv (v77 ..) ?_,.inl ⟨rfl,zk,j,i,{r with},L⟩⟩;exact⟨((e,0),d),u,bN ⟨((p,0),b),E,bN ⟨_,_,H,zm (λw=>by rw[I] at w;cases w) λ_=>rrl⟩⟩⟩
   |false=>refine⟨1,b,acv (v77 ..) ?_,.inr<|.inl ⟨rfl,za,j,i,r⟩⟩;exact⟨((e,0),d),u,bN ⟨((p,0),b),E,bN ⟨_,_,H,zm (λ_=>rrl) λw=>by rw[I] at w;cases w⟩⟩⟩
  .refine⟨D,b,acv (v77 ..) ?_,(N z).up (EI _) M⟩;exact⟨((e,0),d),u,bN ⟨((p,D),b),E,zm (λ_=>rrl) λw=>absurd (zl w) z⟩⟩
 .refine⟨o1,d,acv (v77 ..) ?_,V v⟩;exact⟨((e,o1),d),u,zm (λ_=>rrl) λw=>absurd (zl w) v⟩
def hJ {G K}(hK:K+2097154<=100000000000){m I i}(S:∀m,Bs G K m I i->NuOk G K i I m)(h:Bs G K m I i){c v b d k a}(W:m.nf=frF (.mk c v b d k a))(M:Go {m with na:=wrap .i64 (m.na+1)} i)(t)(hz:t.sz<=2000)(hi:tmI t)(V:bl t=true):
  ∃o r,AC EF 46 [aM,aT t] (mOb m []) (ci o) (mSb r [])/\Po G (K+2097154) m.f o r:=by
 have f0:=h.f0;have J:=vM t (by simp[B];omega);let ⟨js,e,j,g1,g2,N⟩:=Jf za h W (zo t).2 (fc t za)<|KV t (by simp[B];omega) hi;have hl:(zo t).2.length=2:=by unfold bl at V;simp[EN,Sw] at V;exact V.2.2
 let ⟨H,D,u,E⟩:=t;by_cases Y:e=0
 .subst Y;let ⟨g4,g3⟩:=g2 rfl;clear g2;rw[hl] at g3
  match js,g3 with
  |[x,y],_=>
   have U:=h.hq g4 f0<|EQ _;have r0:FV.L 1 (.sl false 1<|IR [x,y])=true/\((0:Int)<=0/\(0<(((IR [x,y]).length):Int)/\([.int .i64<|FV.I<|getD (getD (IR [x,y]) 0 []) 0 FV.N])=getD (IR [x,y]) 0 [])):=⟨rfl,zc,by show 0<2;decide,rfl⟩;have T:FV.L 1 (.sl false 1<|IR [x,y])=true/\((0:Int)<=1/\(1<(((IR [x,y]).length):Int)/\([.int .i64<|FV.I<|getD (getD (IR [x,y]) 1 []) 0 FV.N])=getD (IR [x,y]) 1 [])):=⟨rfl,zc,by show 1<2;decide,rfl⟩;by_cases p:(zo<|.mk H D u E).1.s=[105,115]
   .let ⟨n,o,g,n1,n2,n3⟩:=S _ U y;by_cases X:o=0
    .subst X;let ⟨f1,O,t1,t2,t3,i1⟩:=n3 rfl;have hp:=wd g.s ⟨2,n,0,0,0⟩ (by have:=O.h.C;omega);have L:=O.gr<|Gr.put g.s ⟨2,n,0,0,0⟩ λ_=>i1;generalize putS g.s ⟨2,n,0,0,0⟩=z at*;by_cases F:z.1.2=0
     .let ⟨o',r,Z,A⟩:=bD za L (M.of t1 (by show wrap .i64 (g.na+1)=_;rw[t2]) t3) x z.1.1;refine⟨o',r,acv (v46 ..) ?_,A.up (EI _) f1⟩;exact⟨zo<|.mk H D u E,J,(([x,y],0),{m with s:=j}),N,bN <| zm (λw=>by simp[p] at w) λ_=>⟨T,((n,0),g),n1,bN ⟨z,hp,zm (λw=>absurd F<|zl w) λ_=>⟨r0,(o',r),Z,.refl _,rfl⟩⟩⟩⟩
     .refine⟨_,_,acv (v46 ..) ?_,(vm (l:=g.f) L F<|EQ _).up za f1⟩;exact⟨zo<|.mk H D u E,J,(([x,y],0),{m with s:=j}),N,bN <| zm (λw=>by simp[p] at w) λ_=>⟨T,((n,0),g),n1,bN ⟨z,hp,zm (λ_=>⟨_,xv {g with s:=z.2} g.f z.1.2,.refl _,SJ (λz=>mSb z [])<|y5 (m:={g with s:=z.2})⟩) λw=>absurd (zl w) F⟩⟩⟩
    .refine⟨o,g,acv (v46 ..) ?_,(n2 X).up za<|EQ _⟩;exact⟨zo<|.mk H D u E,J,(([x,y],0),{m with s:=j}),N,bN <| zm (λw=>by simp[p] at w) λ_=>⟨T,((n,o),g),n1,zm (λ_=>rrl) λw=>absurd (zl w) X⟩⟩
   .let ⟨o',r,Z,A⟩:=mQ S U M (zo<|.mk H D u E).1.s x y;refine⟨o',r,acv (v46 ..) ?_,A.up za<|EQ _⟩;exact⟨zo<|.mk H D u E,J,(([x,y],0),{m with s:=j}),N,bN <| zm (λ_=>⟨r0,T,(o',r),Z,.refl _,rfl⟩) λw=>absurd (zl w) p⟩
 .have U:=h.hq g1 f0<|EQ _;refine⟨_,_,acv (v46 ..) ?_,(vm (l:=m.f) U Y<|EQ _).up za<|EQ _⟩;exact⟨zo<|.mk H D u E,J,((js,e),{m with s:=j}),N,zm (λ_=>⟨yw {m with s:=j} m.f e,xv _ _ _,.refl _,SJ (λz=>mSb z [])<|y5 (m:={m with s:=j})⟩) λw=>absurd (zl w) Y⟩
def XW (op:List UInt8):Int:=
 if op=[43] then 2 else if op=[45] then 2 else if op=[42] then 2 else if op=[100,105,118] then 2 else if op=[109,111,100] then 2 else if op=[126] then 1 else 0
def Y2 (b):XW b=0\/XW b=1\/XW b=2:=by
 unfold XW;repeat' split
 all_goals simp
def AA (b):AC EF 122 [cs b] [] (ci<|XW b) []:=by
 refine acv (v122 ..) ?_;unfold XW;refine zm (λh=>?_) λh=>?_
 .rw[EL<|YR h];exact rrl
 rw[EG<|ja h];refine zm (λh=>?_) λh=>?_
 .rw[EL<|YR h];exact rrl
 rw[EG<|ja h];refine zm (λh=>?_) λh=>?_
 .rw[EL<|YR h];exact rrl
 rw[EG<|ja h];refine zm (λh=>?_) λh=>?_
 .rw[EL<|YR h];exact rrl
 rw[EG<|ja h];refine zm (λh=>?_) λh=>?_
 .rw[EL<|YR h];exact rrl
 rw[EG<|ja h];refine zm (λh=>?_) λh=>?_
 .rw[EL<|YR h];exact rrl
 rw[EG<|ja h];exact rrl
def headS_f (s a f)(h:(yK s a f).1.2.2=0):(yK s a f).1.2.1+(yK s a f).1.1.2.length+1<=f:=by
 revert h;unfold yK;split
 .grind
 next q=>intro _;exact(((fH _ ⟨s,f,0⟩ a<|EI _).2)<|zl q).1
def l_nudo1 (m s x a b){z}(d:AC EF 123 [cs s,ci a,ci b] [] (tII z) []):RPt EF 78 7 (tNo z.1 (yw m m.f z.2).1) (mSb (yw m m.f z.2).2 []) 1 ⟨[(0,aM),(12,cs s),(14,.c<|.a<|.ep 11 2 0 0),(90,aIs [x]),(91,ci<|((IR [x]).length)),(92,ci 1)],numO 0<|mSb m [.arr 2 [[qi a,qi b]]],12⟩:=
 rpv (tO ..) (bF (by simp[IR]) ⟨⟨EQ _,zc⟩,⟨zc,zc⟩,_,_,d,_,xv m m.f z.2,.refl _,SJ (λz=>mSb z []) y5⟩)
def l_nudo2 (m s x y a b){z}(d:AC EF 123 [cs s,ci a,ci b] [] (tII z) []):RPt EF 78 7 (tNo z.1 (yw m m.f z.2).1) (mSb (yw m m.f z.2).2 []) 1 ⟨[(0,aM),(12,cs s),(14,.c<|.a<|.ep 11 2 0 0),(90,aIs [x,y]),(91,ci<|((IR [x,y]).length)),(92,ci 2)],numO 0<|mSb m [.arr 2 [[qi a,qi b]]],12⟩:=
 rpv (v78_1c ..) (bF (by simp[IR]) ⟨⟨EQ _,zc⟩,⟨zc,zc⟩,_,_,d,_,xv m m.f z.2,.refl _,SJ (λz=>mSb z []) y5⟩)
abbrev NuT (s:List UInt8)(m:Ma)(xs:List Int)(r:TV)(Hs':List AObj):=∃n,AC EF 122 [cs s] [] (ci n) []/\br (n==0) (∃z:Int×Ma,AC EF 23 [aM,ci m.f,ci 180] (mOb m []) (ci z.1) (mOb {z.2 with s:=m.s,C:=m.C} [])/\TV.Le (tNo 0 z.1) r/\mSb {z.2 with s:=m.s,C:=m.C} []=Hs')
 (FV.L 1 (.sl false 1<|IR xs)=true/\br (n !=(((IR xs).length))) (∃z:Int×Ma,AC EF 23 [aM,ci m.f,ci 180] (mOb m []) (ci z.1) (mOb {z.2 with s:=m.s,C:=m.C} [])/\TV.Le (tNo 0 z.1) r/\mSb {z.2 with s:=m.s,C:=m.C} []=Hs')
  (FV.L 1 (.sl false 1<|IR xs)=true/\RPt EF 78 7 r Hs' 1 ⟨[(0,aM),(12,cs s),(14,.c<|.a<|.ep 11 2 0 0),(90,aIs xs),(91,ci<|((IR xs).length)),(92,ci 0)],numO 0<|mSb m [.arr 2 [[qi 0,qi 0]]],12⟩))
def c_number {G K T i}:∀(n:Nat) (m),Bs G K m T i->m.f<=n->NuOk G K i T m:=by
 intro n
 induction n using Nat.strongRecOn with
 |_ n ih=>
 intro m h hf a;have f0:=h.f0;have f1:=h.f1;have hh:=cQ m.s a m.f h.h za za;let ⟨g1,g2,O⟩:=rk a h.h h.g h.n f0 za;have D:=headS_f m.s a m.f;generalize yK m.s a m.f=z at*;let ⟨⟨⟨hd,xs⟩,left,e⟩,b⟩:=z;dsimp only at g1 g2 O D hh;have ht:=xv {m with s:=b} left e;by_cases he:e=0
 .subst he;have D:=D rfl;have H:=h.hq g1 g2 O;have hc:=wY b hd;have hn:=Kp b (zB b.C hd).a;have i0:I64 0:=by unfold I64;omega
  by_cases Z:(zB b.C hd).t=2/\xs=[]
  .obtain⟨Z,rfl⟩:=Z;refine⟨(zB b.C hd).a,0,{m with s:=b,f:=left},acv (v78 ..) ?_,λq=>absurd rfl q,λ_=>⟨O,H,rfl,rfl,rfl,H.ih.cell Z⟩⟩;exact⟨(hd,[],left,0,b),hh,_,ht,bN ⟨_,_,_,_,_,_,hc,zm (λ_=>⟨rfl,bP rrl⟩) λq=>by simp[Z] at q⟩⟩
  .
   have p:∀r Hs',7<=Hs'.length->(∀x∈Hs'.drop 7,isLive x)->NuT (if (zB b.C hd).t=0 then uP b.N (zB b.C hd).a else []) {m with s:=b,f:=left} xs r Hs'->AC EF 78 [aM,ci a] (mOb m []) r Hs':=λr Hs' l1 l2 hT=>by
    refine AC.vc hP sh lv78 l1 (by simp[isLive,moO]) l2<|Eq.mpr (v78 ..) ?_;refine⟨(hd,xs,left,0,b),hh,_,ht,bN ⟨_,_,_,_,_,_,hc,?_⟩⟩
    have tl:br ((zB b.C hd).t==0) (∃s,AC EF 112 [aH 0,ci (zB b.C hd).a] (hOb b []) (cs s) (hOb b [])/\NuT s {m with s:=b,f:=left} xs r Hs') (NuT [] {m with s:=b,f:=left} xs r Hs'):=
     zm (λq=>⟨_,hn,by rw[EL<|zl q] at hT;exact hT⟩) λq=>by rw[EG<|zl q] at hT;exact hT
    refine zm (λq=>⟨rfl,zm (λw=>absurd ⟨zl q,?_⟩ Z) λ_=>tl⟩) λ_=>tl;cases xs with
    |nil=>rfl
    |cons=>simp[IR] at w;omega
   generalize (if (zB b.C hd).t=0 then uP b.N (zB b.C hd).a else [])=s at p;have v:∀m,7<=(mSb m []).length/\∀x∈(mSb m []).drop 7,isLive x:=λm=>⟨zb,by simp[isLive,moO]⟩;have j:XW s=0\/XW s≠xs.length->∃(n o:Int) (u:Ma),AC EF 78 [aM,ci a] (mOb m []) (tNo n o) (mSb u [])/\(o≠0->Po G K m.f o u)/\(o=0->u.f<=m.f/\Bs G K u T i/\u.nf=m.nf/\u.na=m.na/\u.A=m.A/\I64 n):=λq=>by refine⟨0,_,_,p _ (mSb (yw {m with s:=b,f:=left} left 180).2 []) (v _).1 (v _).2 ⟨_,AA s,zm (λ_=>⟨yw {m with s:=b,f:=left} left 180,xv _ _ _,.refl _,SJ (λz=>mSb z []) y5⟩) λw=>⟨rfl,zm (λ_=>⟨yw {m with s:=b,f:=left} left 180,xv _ _ _,.refl _,SJ (λz=>mSb z []) y5⟩) λw2=>?_⟩⟩,λ_=>vm H zc O,λq=>absurd q<|jk zc⟩;rw[zD] at w2;simp at w w2;omega
   have fin:∀(d) (z:Int×Int),I64 z.1->Bs G K d T i->d.f<=m.f->d.nf=m.nf->d.na=m.na->d.A=m.A->AC EF 78 [aM,ci a] (mOb m []) (tNo z.1 (yw d d.f z.2).1) (mSb (yw d d.f z.2).2 [])->
     ∃(n o:Int) (u:Ma),AC EF 78 [aM,ci a] (mOb m []) (tNo n o) (mSb u [])/\(o≠0->Po G K m.f o u)/\(o=0->u.f<=m.f/\Bs G K u T i/\u.nf=m.nf/\u.na=m.na/\u.A=m.A/\I64 n):=λd z hz X S M J L hac=>by
    refine⟨_,_,_,hac,λw=>?_,λw=>?_⟩
    .by_cases q:z.2=0
     .rw[q,sr] at w;exact absurd rfl w
     .exact vm X q S
    .by_cases q:z.2=0
     .rw[q,sr];exact⟨S,X,M,J,L,hz⟩
     .exact absurd w<|jk q
   have nx:=λn k=>w64 (x:=n+k)
   match xs,p,j,D with
   |[],p,j,D=>exact j (by rcases Y2 s with e|e|e<;>rw[e]<;>simp)
   |_::_::_::l,p,j,D=>exact j<|.inr<|by rcases Y2 s with e|e|e<;>rw[e]<;>simp<;>omega
   |[x],p,j,D=>
    by_cases W:XW s=1
    .simp[EH,EY] at D;let ⟨E,o1,d,r1,r2,r3⟩:=ih left.toNat za {m with s:=b,f:=left} H zk x
     have Y:∀r Hs',7<=Hs'.length->(∀x∈Hs'.drop 7,isLive x)->RPt EF 78 7 r Hs' 1 ⟨[(0,aM),(12,cs s),(14,.c<|.a<|.ep 11 2 0 0),(90,aIs [x]),(91,ci<|((IR [x]).length)),(92,ci 0)],numO 0<|mSb {m with s:=b,f:=left} [.arr 2 [[qi 0,qi 0]]],12⟩->AC EF 78 [aM,ci a] (mOb m []) r Hs':=
      λr Hs' l1 l2 V=>p r Hs' l1 l2 ⟨_,AA s,zm (λw=>by rw[W] at w;cases w) λ_=>⟨rfl,zm (λw=>by rw[W] at w;cases w) λ_=>⟨rfl,V⟩⟩⟩
     by_cases F:o1=0
     .subst F;let ⟨S,M,J,L,k5,k6⟩:=r3 rfl;let ⟨z,z1,z2⟩:=x_ado s E 0 k6 i0;refine fin d z z1 M (by dsimp only at S;omega) J L k5<|Y _ _ (v _).1 (v _).2<|rpv (pf ..)<|bP ⟨⟨rfl,EQ _,by show 0<1;decide,rfl⟩,((E,0),d),r1,bN ⟨⟨EQ _,zc⟩,l_nudo1 d s x E 0 z2⟩⟩
     .refine⟨0,o1,d,Y _ _ (v _).1 (v _).2<|rpv (pf ..)<|bP ⟨⟨rfl,EQ _,by show 0<1;decide,rfl⟩,((E,o1),d),r1,zm (λw=>rrl) λw=>absurd (zl w) F⟩,λw=>(r2 w).up (EI _) O,λw=>absurd w F⟩
    .exact j (by rcases Y2 s with e|e|e<;>rw[e]<;>simp;omega)
   |[x,y],p,j,D=>
    by_cases W:XW s=2
    .simp[EH,EY] at D;let ⟨E,o1,d,r1,r2,r3⟩:=ih left.toNat za {m with s:=b,f:=left} H zk x
     have Y:∀r Hs',7<=Hs'.length->(∀x∈Hs'.drop 7,isLive x)->RPt EF 78 7 r Hs' 1 ⟨[(0,aM),(12,cs s),(14,.c<|.a<|.ep 11 2 0 0),(90,aIs [x,y]),(91,ci<|((IR [x,y]).length)),(92,ci 0)],numO 0<|mSb {m with s:=b,f:=left} [.arr 2 [[qi 0,qi 0]]],12⟩->AC EF 78 [aM,ci a] (mOb m []) r Hs':=
      λr Hs' l1 l2 V=>p r Hs' l1 l2 ⟨_,AA s,zm (λw=>by rw[W] at w;cases w) λ_=>⟨rfl,zm (λw=>by rw[W] at w;cases w) λ_=>⟨rfl,V⟩⟩⟩
     by_cases F:o1=0
     .subst F;let ⟨S,M,J,L,k5,k6⟩:=r3 rfl;dsimp only at S J L k5;have k7:=M.f0;let ⟨n2,o2,m3,s1,s2,s3⟩:=ih left.toNat za d M za y
      have U:∀r Hs',7<=Hs'.length->(∀x∈Hs'.drop 7,isLive x)->RPt EF 78 7 r Hs' 1 ⟨[(0,aM),(12,cs s),(14,.c<|.a<|.ep 11 2 0 0),(90,aIs [x,y]),(91,ci<|((IR [x,y]).length)),(92,ci 1)],numO 0<|mSb d [.arr 2 [[qi E,qi 0]]],12⟩->AC EF 78 [aM,ci a] (mOb m []) r Hs':=
       λr Hs' l1 l2 V=>Y r Hs' l1 l2<|rpv (pf ..)<|bP ⟨⟨rfl,EQ _,by show 0<2;decide,rfl⟩,((E,0),d),r1,bN ⟨⟨EQ _,zc⟩,V⟩⟩
      by_cases I:o2=0
      .subst I;let ⟨t1,t2,t3,t4,t5,t6⟩:=s3 rfl;let ⟨z,z1,z2⟩:=x_ado s E n2 k6 t6;refine fin m3 z z1 t2 za (t3.trans J) (t4.trans L) (t5.trans k5)<|U _ _ (v _).1 (v _).2<|rpv (tO ..)<|bP ⟨⟨rfl,zc,by show 1<2;decide,rfl⟩,((n2,0),m3),s1,bN ⟨⟨zc,zc⟩,l_nudo2 m3 s x y E n2 z2⟩⟩
      .refine⟨0,o2,m3,U _ _ (v _).1 (v _).2<|rpv (tO ..)<|bP ⟨⟨rfl,zc,by show 1<2;decide,rfl⟩,((n2,o2),m3),s1,zm (λw=>rrl) λw=>absurd (zl w) I⟩,λw=>(s2 w).up (EI _) za,λw=>absurd w I⟩
     .refine⟨0,o1,d,Y _ _ (v _).1 (v _).2<|rpv (pf ..)<|bP ⟨⟨rfl,EQ _,by show 0<2;decide,rfl⟩,((E,o1),d),r1,zm (λw=>rrl) λw=>absurd (zl w) F⟩,λw=>(r2 w).up (EI _) O,λw=>absurd w F⟩
    .exact j (by rcases Y2 s with e|e|e<;>rw[e]<;>simp;omega)
 .have H:=h.hq g1 f0<|EQ _;have hn:=jk (m:={m with s:=b}) (l:=left) he;refine⟨0,(yw {m with s:=b} left e).1,(yw {m with s:=b} left e).2,?_,λ_=>vm H he<|EQ _,λq=>absurd q hn⟩;refine acv (v78 ..) ⟨(hd,xs,left,e,b),hh,_,ht,zm (λ_=>⟨.refl _,?_⟩) λq=>absurd (zl q) hn⟩;exact SJ (λz=>mSb z [])<|y5 (m:={m with s:=b})
abbrev tEv (k:Int)(vs:List Tm)(e f:Int):TV:=.tup [(true,[qi k,qf<|.sl false 4<|FTs vs,qi e]),(false,[qi f])]
def leEv (f):TV.Le (.tup [(true,[qi 0,qf .N,qi 0]),(false,[qi f])]) (tEv 0 [] 0 f):=
 XE (xs:=[(true,[.int .i64 0,.N,.int .i64 0]),(false,[.int .i64 f])]) (ys:=[(true,[.int .i64 0,.sl false 4 [],.int .i64 0]),(false,[.int .i64 f])]) ⟨⟨rfl,.refl _,.N 4,.refl _,trivial⟩,⟨rfl,.refl _⟩,trivial⟩
abbrev OvT (m:Ma)(f:Int)(H:List AObj)(r:TV)(Hs':List AObj):=ask (FV.isPt m.o&&true)<|ask (shpB [.int .i64 0,.N,.int .i64 0]<|FV.prow m.o)<|TV.Le (.tup [(true,[qi<|FV.I<|getD (FV.prow m.o) 0 FV.N,qf<|getD (FV.prow m.o) 1 FV.N,qi<|FV.I<|getD (FV.prow m.o) 2 FV.N]),(false,[qi f])]) r/\H=Hs'
def ov_t {m k e}(d:m.o=evM k e)(f){H Hs'}(b:H=Hs'):OvT m f H (tEv k [] e f) Hs'/\FV.isPt m.o=true:=by unfold OvT;rw[d];exact⟨⟨.refl _,b⟩,rfl⟩
def ir_el (V n)(h:n<V.length):([.int .i64<|FV.I<|getD (getD (IR V) n []) 0 FV.N])=getD (IR V) n []:=by
 have e:getD (IR V) n []=[.int .i64 V[n]]:=by simp[IR,getD,h]
 rw[e];rfl
def full_hq {s}(a){f K}(ok:OkH s)(g:GoodZ s)(n:NmB K s)(f0:0<=f)(j:f<=3000):Hq K s (xe s a f).2/\0<=(xe s a f).1.2.1/\(xe s a f).1.2.1<=f/\(xe s a f).1.2.2≠170:=by let ⟨b,i⟩:=aq s a f f0;let ⟨e,_,d⟩:=fullS_ok s a f ok f0 za;refine⟨Mv.hq b.up g e<|b.nm n,i,d,?_⟩;have h:=(Mvr.full (s0:=s) (2*f.toNat+2) (f.toNat+1) (r:=⟨s,f,0⟩) a ⟨.refl s,f0,zb⟩).2.2;unfold xe;grind
def avW:List Tm->WV
 |[]=>.a<|.fz .N
 |x::l=>.a<|.osl 13 4 0 (x::l).length
def avB:List Tm->List AObj
 |[]=> []
 |x::l=> [.arz 4<|FTs<|x::l]
def avN:List Tm->Nat
 |[]=>13
 |_::_=>14
abbrev stAn (m:Ma)(V:FV)(n:Int)(vs:List Tm):St:=⟨[(0,aM),(2,.c<|.a<|.ep 11 3 0 0),(4,.c<|.a<|.ep 12 3 0 0),(14,.c<|qf V),(15,ci<|((FV.ses V).length)),(16,ci n)],numO 0<|mSb m<|.arr 3 [[qi 0,qf .N,qi 0]]:: .arr 3 [[qi 0,avW vs,qi 0]]::avB vs,avN vs⟩
def lh (l t):take l.length (FTs l)++[FT4 t]=FTs (l++[t]):=by rw[EV<|by rw[zn];exact EI _,wG,yj];rfl
def VsOk (vs:List Tm):Prop:=(∀t∈vs,t.sz<=10000000)/\vs.length<=1000000
def fI:VsOk []:=⟨(λt b=>nomatch b),SQ _⟩
def full_szM (s a f)(ok:OkH s)(f0:0<=f)(f1:f<=3000):(xe s a f).1.1.sz<=10000000:=by
 have b:OkR ⟨s,f,0⟩:=⟨ok,zk,zk⟩;have sz:=ge (fulR (2*f.toNat+2) (f.toNat+1) ⟨s,f,0⟩ a).1;have d:=(Zi _ (f.toNat+1) f (EI _) za ⟨s,f,0⟩ a b<|EQ _).2.2;unfold xe;split
 .show t0.sz<=_;decide
 .grind
def Nx (G:Gs)(K:Nat)(F:Int)(vs:List Tm)(k f:Int)(m':Ma):=VsOk vs/\(k≠0/\Ov m'\/k=0/\m'.w=true/\f=m'.f/\f<=F/\∃ch i,Bs G K m' ch i)
def Nx.up {G K K' vs F F' k f m}(h:Nx G K F vs k f m)(g:K<=K')(j:F<=F'):Nx G K' F' vs k f m:=
 ⟨h.1,h.2.imp id λ⟨a,b,c,d,e,i,h⟩=>⟨a,b,c,za,e,i,h.up g⟩⟩
def l_ans {G K}(Z:G.V.length<=1000000){x}(J:FV.L 1 x=true)(r:FV.ses x=IR G.V){W i}:∀(X b) (vs) (m),G.V=b++X->vs.length=b.length->(∀t∈vs,t.sz<=10000000)->Bs G K m W i->
  ∃k p e f L,RPt EF 25 7 (tEv k p e f) (mSb L []) 1 (stAn m x b.length vs)/\Nx G K m.f p k f L
 |[],b,vs,m,o,E,T,h=>by
  have F:¬b.length<(((FV.ses x).length):Int):=by rw[r,zD,o];simp
  refine⟨0,vs,0,m.f,{m with w:=true},?_,⟨T,by rw[o] at Z;simp at Z;omega⟩,.inr ⟨rfl,rfl,rfl,EQ _,W,i,{h with}⟩⟩
  match vs with
  |[]=>exact rpv (rt ..)<|bF F ⟨leEv m.f,rfl⟩
  |y::l=>refine rpv (AS ..)<|bF F ⟨⟨⟨rfl,by rw[zn];omega⟩,trivial⟩,?_⟩;rw[Sg,EV<|by rw[zn];exact EI _];exact rrl
 |a::X,b,vs,m,o,E,T,h=>by
  have hlen:b.length<G.V.length:=by rw[o];simp
  have d:b.length<(((FV.ses x).length):Int):=by rw[r,zD];omega
  have O:0<=(b.length:Int):=za;have I:=ir_el G.V (toNat (b.length:Int)) za;rw[<-r] at I;have f0:=h.f0;have f1:=h.f1;have H:=tF m.s (FV.I<|getD (getD (FV.ses x) (toNat b.length) []) 0 FV.N) m.f h.h za za;let ⟨g1,g2,Y,g4⟩:=full_hq (FV.I<|getD (getD (FV.ses x) (toNat b.length) []) 0 FV.N) h.h h.g h.n f0 f1;have zz:=full_szM m.s (FV.I<|getD (getD (FV.ses x) (toNat b.length) []) 0 FV.N) m.f h.h f0 f1;generalize xe m.s (FV.I<|getD (getD (FV.ses x) (toNat b.length) []) 0 FV.N) m.f=z at*;let ⟨⟨⟨C,u,A,v⟩,left,e⟩,j⟩:=z;dsimp only at g1 g2 Y g4 H zz;have ht:=xv {m with s:=j} left e;by_cases U:e=0
  .subst U;have hb:Bs G K {m with s:=j,f:=left} W i:=h.hq g1 g2 Y
   let ⟨k,p,e',f,L,D,M⟩:=l_ans Z J r X (b++[a]) (vs++[.mk C u A v]) _ (by rw[o];simp) (by simp[E]) (λt ht=>by
    rcases Sb.1 ht with ht|ht
    .exact T t ht
    .rw[Si.1 ht];exact zz) hb
   refine⟨k,p,e',f,L,?_,M.up (EI _) Y⟩;have e1:((b++[a]).length)=wrap .i64 (b.length+1):=by rw[w64 za za];simp
   rw[e1] at D
   match vs,E,D with
   |[],E,D=>exact rpv (rt ..)<|bT d ⟨⟨J,O,d,I⟩,(.mk C u A v,left,0,j),H,_,ht,bN ⟨EI _,zc,D⟩⟩
   |y::l,E,D=>refine rpv (AS ..)<|bT d ⟨⟨J,O,d,I⟩,(.mk C u A v,left,0,j),H,_,ht,bN ⟨EI _,⟨by rw[zn];exact EI _,by simp at E ⊢;unfold zw;omega⟩,?_⟩⟩;rw[lh (y::l)<|.mk C u A v];have S:(y::l).length+1=(y::(l++[Tm.mk C u A v])).length:=zb;rw[S];exact D
  .let ⟨o2,k,S,hk,ho⟩:=ke (m:={m with s:=j}) (l:=left) U g4;have M:=jk (m:={m with s:=j}) (l:=left) U;refine⟨k,[],S,(yw {m with s:=j} left e).2.f,(yw {m with s:=j} left e).2,?_,fI,.inl ⟨hk,k,S,hk,ho⟩⟩;have N:=ov_t ho (yw {m with s:=j} left e).2.f<|SJ (λz=>mSb z [])<|y5 (m:={m with s:=j}) (l:=left) (e:=e)
   match vs with
   |[]=>exact rpv (rt ..)<|bT d ⟨⟨J,O,d,I⟩,(.mk C u A v,left,e,j),H,_,ht,zm (λ_=>zq N.2 N.1) λw=>absurd (zl w) M⟩
   |y::l=>exact rpv (AS ..)<|bT d ⟨⟨J,O,d,I⟩,(.mk C u A v,left,e,j),H,_,ht,zm (λ_=>zq N.2 N.1) λw=>absurd (zl w) M⟩
def pj {G K}(p:G.V.length<=1000000){m d i}(h:Bs G K m d i):∃k vs e f b,AC EF 25 [aM] (mOb m []) (tEv k vs e f) (mSb b [])/\Nx G K m.f vs k f b:=by let ⟨k,vs,e,f,b,g,o⟩:=l_ans p h.V.1 h.V.2 G.V [] [] m rfl rfl (λt j=>nomatch j) h;refine⟨k,vs,e,f,b,acv (v25 ..) ?_,o⟩;exact⟨h.V.1,g⟩
abbrev stX (m:Ma)(o:Int):St:=⟨[(0,aM),(4,.c<|.a<|.ep 11 3 0 0),(6,ci o)],numO 0<|mSb m [.arr 3 [[qi 0,qf .N,qi 0]]],12⟩
abbrev NxR (G:Gs)(K:Nat)(F:Int)(m:Ma)(o:Int):=∃k vs e f m',RPt EF 9 7 (tEv k vs e f) (mSb m' []) 1 (stX m o)/\Nx G K F vs k f m'
def l_nov {G K F m}(h:Ov m):NxR G K F m 2:=by let ⟨k,e,d,b⟩:=h;have g:=ov_t b m.f (H:=mSb m []) rfl;exact⟨k,[],e,m.f,m,rpv (cW ..)<|bP<|zq g.2 g.1,fI,.inl ⟨d,k,e,d,b⟩⟩
def Ao {G K K' F m y i}(h:Bs G K m y i)(E:m.f<=F)(ih:∀b g u,Bs G (K+1048576) b g u->Go b u->b.f<=m.f->NxR G K' F b 0):NxR G K' F m 1:=by
 let ⟨o,p,C,D,A⟩:=c_back h;have nx:NxR G K' F p o:=by
  rcases D with⟨rfl,x,r,i1,j,v⟩|⟨rfl,_⟩|⟨rfl,d⟩
  .grind
  .omega
  .exact l_nov d
 let ⟨k,vs,e,f,b,z,w⟩:=nx;exact⟨k,vs,e,f,b,rpv (cW ..)<|bN <| bP ⟨(o,p),C,z⟩,w⟩
def l_next {G}(Z:GOk G)(X:G.V.length<=1000000):∀(n K:Nat) (m:Ma) (C) (i),K+n*3145730<=100000000000->m.f<=n->Bs G K m C i->Go m i->NxR G (K+n*3145730) m.f m 0:=by
 intro n
 induction n with
 |zero=>
  intro K m C i hK hn h ⟨k,ws,q,g,T,U,O⟩;cases k with
  |nil=>
   let ⟨k,vs,e,f,j,r,u⟩:=pj X h;exact⟨k,vs,e,f,j,rpv (cW ..) (bN <| bN <| zm (λ_=>⟨((k,vs,e,f),j),r,.refl _,rfl⟩) λw=>by rw[g] at w;cases w),u.up za<|EQ _⟩
  |mk c v b d k a=>
   have z:=ov_t (m:={m with o:=evM 4 0}) (k:=4) (e:=0) rfl m.f (H:=mSb {m with o:=evM 4 0} []) rfl;exact⟨4,[],0,m.f,{m with o:=evM 4 0},rpv (cW ..) (bN <| bN <| zm (λw=>by rw[g] at w;cases w) λ_=>zq (by rw[g];rfl)<|zm (λ_=>⟨(2,{m with o:=evM 4 0}),uI m 4 0,zq z.2 z.1⟩) λw=>absurd (ES w) za),fI,.inl ⟨zc,4,0,zc,rfl⟩⟩
 |succ n ih=>
  intro K m C i hK hn h y;let ⟨k,ws,q,g,T,U,O⟩:=y;cases k with
  |nil=>
   let ⟨k,vs,e,f,j,r,u⟩:=pj X h;exact⟨k,vs,e,f,j,rpv (cW ..) (bN <| bN <| zm (λ_=>⟨((k,vs,e,f),j),r,.refl _,rfl⟩) λw=>by rw[g] at w;cases w),u.up za<|EQ _⟩
  |mk c v b d k a=>
   by_cases N:m.f<=0
   .have z:=ov_t (m:={m with o:=evM 4 0}) (k:=4) (e:=0) rfl m.f (H:=mSb {m with o:=evM 4 0} []) rfl;exact⟨4,[],0,m.f,{m with o:=evM 4 0},rpv (cW ..) (bN <| bN <| zm (λw=>by rw[g] at w;cases w) λ_=>zq (by rw[g];rfl)<|bT N ⟨(2,{m with o:=evM 4 0}),uI m 4 0,zq z.2 z.1⟩),fI,.inl ⟨zc,4,0,zc,rfl⟩⟩
   .have f1:=h.f1;have i2:=h.i2;have wr:wrap .i64 (m.f-1)=m.f-1:=w64 za za;have W:Bs G K {m with f:=m.f-1} C i:=h.mv (s:=m.s) (.refl _) h.h h.n za za
    let ⟨o,L,S,E⟩:=c_mstep Z za W zk (c:=c) (v:=v) (b:=b) (d:=d) (k:=k) (a:=a) g T U O λt ht hz hi y=>
     hJ za (λD p=>c_number D.f.toNat D p<|by have:=p.f0;omega) W g y t hz hi ht
    have nx:NxR G (K+(n+1)*3145730) m.f L o:=by
     rcases E with⟨rfl,I,A,i1,x,hg⟩|⟨rfl,I,A,i1,x⟩|⟨rfl,M⟩
     .dsimp only at I;let ⟨k,vs,e,f,j,r,u⟩:=ih (K+2097154) L A i1 za za x hg;exact⟨k,vs,e,f,j,r,u.up za za⟩
     .dsimp only at I;refine Ao x za λD F i2 p J Y=>?_;let ⟨k,vs,e,f,j,r,u⟩:=ih (K+2097154+1048576) D F i2 za za p J;exact⟨k,vs,e,f,j,r,u.up za za⟩
     .exact l_nov M
    let ⟨k',vs,e,f,j,r,u⟩:=nx;rw[<-wr] at S;exact⟨k',vs,e,f,j,rpv (cW ..) (bN <| bN <| zm (λw=>by rw[g] at w;cases w) λ_=>zq (by rw[g];rfl)<|bF N ⟨(o,L),S,r⟩),u⟩
def c_next {G:Gs}(z:GOk G)(D:G.V.length<=1000000){K:Nat}(I:K+9441336306<=100000000000){m:Ma}{f:Int}{x:List Ch}{i:Im}(h:Bs G K {m with f:=f} x i)(v:m.w=true\/m.w=false/\Go m i):
  ∃k vs e f' b,AC EF 9 [aM,ci f] (mOb m []) (tEv k vs e f') (mSb b [])/\Nx G (K+9441336306) f vs k f' b:=by
 have f0:=h.f0;have f1:=h.f1;dsimp only at f0 f1;have E:m.o=npF:=h.o;have A:Bs G K {m with f:=f,w:=false} x i:={h with}
 have C:∀o:Int,NxR G (K+9441336306) f {m with f:=f,w:=false} o->(m.w=true/\o=1\/m.w=false/\o=0)->∃k vs e f' b,AC EF 9 [aM,ci f] (mOb m []) (tEv k vs e f') (mSb b [])/\Nx G (K+9441336306) f vs k f' b:=λo ⟨k,vs,e,f',b,g,p⟩ F=>by
  refine⟨k,vs,e,f',b,acv (v9 ..) (zm (λ_=>?_) λw=>by rw[E] at w;cases w),p⟩;rcases F with⟨d,rfl⟩|⟨d,rfl⟩
  .exact zm (λ_=>g) λw=>by rw[d] at w;cases w
  .exact zm (λw=>by rw[d] at w;cases w) λ_=>g
 rcases v with d|⟨d,v⟩
 .refine C 1 (Ao A (EQ _) λH r i2 u y j=>?_)<|.inl ⟨d,rfl⟩;obtain⟨k,vs,e,f',b,g,p⟩:=l_next z D 3000 (K+1048576) H r i2 za (by dsimp only at j;omega) u y;exact⟨k,vs,e,f',b,g,p.up za<|by dsimp only at j;omega⟩
 .obtain⟨k,vs,e,f',b,g,p⟩:=l_next z D 3000 K {m with f:=f,w:=false} x i za f1 A<|v.of rfl rfl rfl;exact C 0 ⟨k,vs,e,f',b,g,p.up za<|EQ _⟩<|.inr ⟨d,rfl⟩
def c_nextO {m:Ma}{k e:Int}(d:m.o=evM k e)(f:Int):AC EF 9 [aM,ci f] (mOb m []) (tEv k [] e f) (mSb m []):=by have b:=ov_t d f (H:=mSb m []) rfl;exact acv (v9 ..)<|zm (λw=>by rw[d] at w;cases w) λ_=>zq b.2<|zq b.2 b.1
def oddB (c:Cd):=if c.fr=0 then !vC c else true
def c_odd (c)(b:zC c)(d:nbC c):AC EF 33 [aC c] [] (cb<|oddB c) []:=by
 refine acv (v33 ..) ?_;unfold oddB;refine zm (λh=>?_) λh=>?_
 .rw[EG<|zl h];exact rrl
 .rw[EL<|zl h];exact⟨_,KD c b d,.refl _,rfl⟩
def fstB:List Cd->Int->Int
 |[],_=> -1
 |c::l,i=>if oddB c=true then i else fstB l<|i+1
def pd:∀(l) (i),0<=i->decide (fstB l i>=0)=l.any oddB
 |[],i,_=>by simp[fstB]
 |c::l,i,h=>by
  have:=pd l (i+1) za;rw[fstB,SY];split;next q=>rw[q];simp;omega
  next q=>rw[this];simp[F5] at q;rw[q];rfl
def l_ixR (l)(g:l.length<=1000000):∀(b a),l=a++b->(∀c∈b,zC c/\nbC c)->
  RPt EF 65 0 (ci<|fstB b a.length) [] 1 ⟨[(0,aCs l),(1,.c<|.fn (.func 33) [] []),(7,ci<|((FCs l).length)),(8,ci a.length)],[],0⟩
 |[],a,d,_=>by refine rpv (Wv ..)<|bF (by rw[y3,d];simp) rrl
 |c::b,a,d,f=>by
  have j:a.length<=1000000:=by rw[d] at g;simp at g;omega
  have e:a.length<(((FCs l).length):Int):=by rw[y3,d];simp;omega
  have i:=gX a c b;rw[<-d] at i;have o:=c_odd c (f c ET).1 (f c ET).2;have ih:=l_ixR l g b (a++[c]) (by rw[d];simp) λx p=>f x<|EP _ p;rw[show((a++[c]).length)=a.length+1 by simp] at ih;refine rpv (Wv ..) ?_;rw[w64 (x:=a.length+1) za za,i];refine bT e ⟨⟨rfl,za,e,bI c⟩,oddB c,by have m:=o;rw[<-(pZ c)] at m;exact m,?_⟩;rw[fstB];exact zm (λh=>by rw[EL h];exact rrl) λh=>by rw[EG<|by rw[h];simp];exact ih
def ZO (l:List Cd)(g:Cd):= !oddB g&&(decide (g.ar=0) && !l.any oddB)
def ah (l g)(j:l.length<=1000000)(f:∀c∈l,zC c/\nbC c)(m:zC g)(h:nbC g):AC EF 16 [aCs l,aC g] [] (cb<|ZO l g) []:=by
 have e:=c_odd g m h;have o:AC EF 65 [aCs l,.c _] [] (ci<|fstB l 0) []:=acv (v65_F33 ..) ⟨rfl,l_ixR l j l [] rfl f⟩;have i:AC EF 35 [aCs l,.c<|.fn (.func 33) [] []] [] (cb<|l.any oddB) []:=by refine acv (v35_F33 ..) ⟨_,o,?_⟩;rw[pd l 0<|EQ _];exact rrl
 refine acv (v16 ..) ⟨_,e,zm (λd=>zm (λb=>⟨_,i,?_,rfl⟩) λb=>⟨?_,rfl⟩) λd=>⟨?_,rfl⟩⟩
 .rw[ZO,d,show decide (g.ar=0)=true by simpa using b];exact .refl _
 .rw[ZO,show decide (g.ar=0)=false by simpa using b,Sx,Sz];exact .refl _
 .rw[ZO,d,Sx];exact .refl _
def hp0:Hp:=⟨[],[],yb [zS [1000000,0],1048576],yb [zS [1000000,0],1048576],[]⟩
abbrev cB:TV:=.agg [qi 1000000,qi 1000000,qi 100000]
abbrev ma0 (l:List Cd)(T:FV):Ma:=⟨hp0,.sl false 6<|FCs l,T,zS [100000,0],.N,npF,0,.N,0,npF,0,[],0,false,npF⟩
def sgA (i:Nat):=if i=11 then 12 else if i=12 then 13 else if i=13 then 11 else i
def sgB (i:Nat):=if i=11 then 12 else if i=12 then 11 else i
abbrev argF (a:Int):=[aM,.agg [.a<|.ep 7 6 0 0,qf .N],aPl .nil a]
def mB {m0 m c b d a n x s}(h:AC EF 22 (argF n) (mOb m0 [cdO c]) (okT 12)<|mSc m (cdO c)<|frOB c 13 b d a<|some<|x::s):
  AC EF 22 (argF n) (mOb m0 [cdO c]) (okT 11) (moO 1 13 m::hpO 8 9 10 5 m.s:: .gone:: .gone:: .gone:: .mapz (NM m.s.N 0):: .gone::cdO c:: .arz 5 (CR m.s.C):: .arz 7 (TR m.s.T):: .arz 1 (NR m.s.N):: .arr 6 [[.a<|.ep 7 6 0 0,.a<|.osl 12 1 0 (x::s).length,qi b,qi d,qf npF,qi a]]:: .arz 1 (IR<|x::s)::[.arz 10 m.C]):=by
 refine h.renum sgA _ _ rfl rfl rfl (λi f=>?_) (λi j _ _ e=>?_) (λi f=>?_) zb
 .match i,f with
  |0,_|1,_|2,_|3,_|4,_|5,_|6,_|7,_|8,_|9,_|10,_|11,_|12,_|13,_=>rfl
  |n+14,f=>simp at f;omega
 .unfold sgA at e;repeat' split at e
  all_goals omega
 .unfold sgA;simp at f;repeat' split
  all_goals omega
def mE {m0 m c b d a n}{o:SlO}(g:o=none\/o=some [])(h:AC EF 22 (argF n) (mOb m0 [cdO c]) (okT 12)<|mSc m (cdO c)<|frOB c 13 b d a o):
  AC EF 22 (argF n) (mOb m0 [cdO c]) (okT 11) (moO 1 12 m::hpO 8 9 10 5 m.s:: .gone:: .gone:: .gone:: .mapz (NM m.s.N 0):: .gone::cdO c:: .arz 5 (CR m.s.C):: .arz 7 (TR m.s.T):: .arz 1 (NR m.s.N):: .arr 6 [[.a<|.ep 7 6 0 0,qf<|slF o,qi b,qi d,qf npF,qi a]]::[.arz 10 m.C]):=by
 rcases g with rfl|rfl
 all_goals
  refine h.renum sgB _ _ rfl rfl rfl (λi f=>?_) (λi j _ _ e=>?_) (λi f=>?_) zb
  .match i,f with
   |0,_|1,_|2,_|3,_|4,_|5,_|6,_|7,_|8,_|9,_|10,_|11,_|12,_=>rfl
   |n+13,f=>simp at f;omega
  .unfold sgB at e;repeat' split at e
   all_goals omega
  .unfold sgB;simp at f;repeat' split
   all_goals omega
def oK (c):flat (cdO c)=.arr 6 ([FC c].map fzs):=by rw[xE];rfl
def ice_v (o k V)(b:k<=V.length):AV.ice o 1 (IR V) (.osl o 1 0 k)=.fz (.sl (!k==0) 1<|IR<|V.take k):=by rw[AV.ice,EL ⟨rfl,rfl,by rw[zD];omega⟩,Sg];simp[IR,Gu]
abbrev NwG (l:List Cd)(g:Cd)(idx:Bool):Prop:=∃m,AC EF 7 [aCs l,aC g,cB,cb idx] [] aM (mOb m [])/\(Ov m\/∃G,GOk G/\G.V.length<=1000000/\m.w=false/\Go m .nil/\(∀f,0<=f->f<=3000->Bs G 0 {m with f:=f} [] .nil)/\G.F+10*3000<=33000)
def new_bad (l:List Cd)(g:Cd)(idx:Bool)(e:l.length<=1000000)(d:∀c∈l,zC c/\nbC c)(i:zC g)(h:nbC g)(f:ZO l g=false):
  ∃m,AC EF 7 [aCs l,aC g,cB,cb idx] [] aM (mOb m [])/\m.o=evM 2 0:=by
 have j:=c_hnew 1000000 1000000;have b:=ah l g e d i h;rw[f] at b;refine⟨{ma0 l npF with o:=evM 2 0},acv (v7 ..) ?_,rfl⟩;exact⟨_,j,_,b,bP ⟨(2,{ma0 l npF with o:=evM 2 0}),uI (ma0 l npF) 2 0,.refl _,rfl⟩⟩
def hp0_ok:OkH hp0/\GoodZ hp0/\NmB 0 hp0/\IH hp0:=
 ⟨⟨zc,zc,zc,zc⟩,λe b=>(by cases b),by show 0<=0+0;omega,λc d=>(by cases d),λe b=>(by cases b)⟩
def new_bs {l:List Cd}{g:Cd}{T:FV}{e:Hp}{o:SlO}{V:FV}(d:Gr hp0 e)(b:CdOk g)(h:g.fr=0)(i:g.ar=0)(r:GOk ⟨l,T,(slL o).take g.vs.toNat,3000⟩)(j:(slL o).length=max g.vs.toNat g.sl.toNat)(w:FV.L 1 V=true/\FV.ses V=IR ((slL o).take g.vs.toNat)):
  ∃G,GOk G/\G.V.length<=1000000/\Go ⟨e,.sl false 6<|FCs l,T,zS [100000,0],V,frF<|.mk g o 0 1 .nil 0,0,.N,0,npF,0,[],0,false,npF⟩ .nil/\
   (∀f,0<=f->f<=3000->Bs G 0 ⟨e,.sl false 6<|FCs l,T,zS [100000,0],V,frF<|.mk g o 0 1 .nil 0,0,.N,0,npF,0,[],f,false,npF⟩ [] .nil)/\G.F+10*3000<=33000:=by
 have x:=b.cnt;obtain⟨u,y,v,m⟩:=hp0_ok;have p:=d.1.later y;refine⟨_,r,?_,⟨.mk g o 0 1 .nil 0,[],0,rfl,.inr ⟨rfl,rfl⟩,Pc.first (q:=0) b (by rw[j,h];simp) (EQ _) rfl zc (by rw[i];exact EQ _) (.nil _ _),EI _⟩,λf f0 f1=>?_,by show(3000:Int)+10*3000<=33000;decide⟩
 .show((slL o).take g.vs.toNat).length<=_;rw[S8];omega
 .exact⟨d.2.1 u,p.1,d.2.2 0 v,d.1.ih m,by show zS [100000,0]<=100000;decide,rfl,rfl,w,rfl,f0,f1,rfl,trivial,by simp only[imD];omega,⟨[],.inr ⟨rfl,rfl⟩⟩,rfl,by show(0:Nat)<=100000;decide,rfl,λc b=>(by cases b),.nil,λc b=>(by cases b)⟩
def odd_fr {c}(h:oddB c=false):c.fr=0:=by unfold oddB at h;grind
def new_good (l:List Cd)(g:Cd)(idx:Bool)(X:l.length<=20)(F:∀c∈l,CdOk c/\nbC c)(D:CdOk g)(hn:nbC g)(u:ZO l g=true):NwG l g idx:=by
 have L:=c_hnew 1000000 1000000;have E:=ah l g za (λc h=>⟨(F c h).1.2.1,(F c h).2⟩) D.2.1 hn;rw[u] at E;have K:=c_inewz l X λc h=>(F c h).1.2.1;have ⟨hfr,har,hfl⟩:g.fr=0/\g.ar=0/\∀c∈l,c.fr=0:=by simp only[ZO,EN,SK,Sf,List.any_eq_false] at u;exact⟨odd_fr u.1,u.2.1,λc h=>odd_fr<|by simpa using u.2.2 c h⟩
 have A:=D.cnt;obtain⟨T,i⟩:∃T:FV,T=(if idx=true then .pt [.mp<|tabZ<|tabT l 0 []] else npF):=⟨_,rfl⟩;have Y:∀V,GOk ⟨l,T,V,3000⟩:=λV=>⟨by show(3000:Int)<=33000;decide,X,λc h=>⟨(F c h).1,hfl c h⟩,by rw[i];cases idx<;>simp⟩;obtain⟨b,gr,⟨e,he,f⟩|⟨o,p,_,f⟩⟩:=c_frameB (ma0 l T) g 0 hp0_ok.1 hfr za za
 .have v:e≠0:=za;refine⟨(yw {ma0 l T with s:=b} 0 e).2,acv (v7 ..) ⟨_,L,_,E,bN <| ?_⟩,.inl (ke v za).2⟩;have Z:=jk (m:={ma0 l T with s:=b}) (l:=0) v;have j:=xv {ma0 l T with s:=b} 0 e;cases idx<;>subst i
  .exact bN <| .inl ⟨(e,_),f,_,j,zm (λw=>absurd (zl w) Z) λ_=>⟨.refl _,SJ (λz=>mOb z []) y5⟩⟩
  .exact bP ⟨_,K,.inl ⟨(e,_),f,_,j,zm (λw=>absurd (zl w) Z) λ_=>⟨.refl _,SJ (λz=>mOb z []) y5⟩⟩⟩
 .have j:=xv {ma0 l T with s:=b} 0 0;by_cases d:o=none\/o=some []
  .have f:=mE d f;have hl0:(slL o).length=0:=by rcases d with rfl|rfl<;>rfl
   have J:toNat g.vs=0:=za;have M:FV.L 1 (slF o)=true/\(((FV.ses<|slF o).length:Nat):Int)=0:=by rcases d with rfl|rfl<;>exact⟨rfl,rfl⟩
   have r:0<=g.vs:=A.2.2.2.1;have y:g.vs<=(((FV.ses<|slF o).length:Nat):Int):=by rw[M.2];omega
   have H:FV.L 1 (FV.cut (slF o) 0<|toNat g.vs)=true/\FV.ses (FV.cut (slF o) 0<|toNat g.vs)=IR ((slL o).take g.vs.toNat):=by rw[J];rcases d with rfl|rfl<;>exact⟨rfl,rfl⟩
   have O:AC EF 7 [aCs l,aC g,cB,cb idx] [] aM (.arr 14 [[.a<|.ep 1 6 0 0,qf<|.sl false 6<|FCs l,qf T,qi<|zS [100000,0],qf<|FV.cut (slF o) 0<|toNat g.vs,.a<|.ep 6 6 0 0,qi 0,qf .N,qi 0,qf npF,.a<|.osl 8 10 0 0,qi 0,qf<|.bool false,qf npF]]::
     hpO 2 3 4 5 b:: .arz 5 (CR b.C):: .arz 7 (TR b.T):: .arz 1 (NR b.N):: .mapz (NM b.N 0):: .arr 6 [[.a<|.ep 7 6 0 0,qf<|slF o,qi 0,qi 1,qf npF,qi 0]]::cdO g::[.arz 10 []]):=by
    refine acv (v7 ..) ⟨_,L,_,E,bN <| ?_⟩;cases idx<;>subst i
    .exact bN <| .inr<|.inr ⟨(_,npF,slF o,0,1,npF,0),f,_,j,bP ⟨M.1,⟨EQ _,r,y⟩,.refl _,rfl⟩⟩
    .exact bP ⟨_,K,.inr<|.inr ⟨(_,npF,slF o,0,1,npF,0),f,_,j,bP ⟨M.1,⟨EQ _,r,y⟩,.refl _,rfl⟩⟩⟩
   have hD:=((O.ice 7 6 [FC g]<|oK g).ice 6 6 [[.pt<|FC g,slF o,.int .i64 0,.int .i64 1,npF,.int .i64 0]] rfl).skip 6 2 (mOb ⟨b,.sl false 6<|FCs l,T,zS [100000,0],FV.cut (slF o) 0<|toNat g.vs,frF<|.mk g o 0 1 .nil 0,0,.N,0,npF,0,[],0,false,npF⟩ []) aM rfl rfl rfl rfl zb zb;obtain⟨G,W,U,S,I⟩:=new_bs gr D hfr har (Y _) p H;exact⟨_,hD,.inr ⟨G,W,U,rfl,S,I⟩⟩
  .match o,p,f,d with
   |none,_,_,d=>exact absurd (.inl rfl) d
   |some [],_,_,d=>exact absurd (.inr rfl) d
   |some (x::s),p,f,_=>
    have f:=mB f;have r:0<=g.vs:=A.2.2.2.1;have y:g.vs<=(((x::s).length:Nat):Int):=by simp only[slL,Sq] at p;omega
    have J:g.vs.toNat<=(x::s).length:=by simp only[slL,Sq] at p;omega
    have O:AC EF 7 [aCs l,aC g,cB,cb idx] [] aM (.arr 14 [[.a<|.ep 1 6 0 0,qf<|.sl false 6<|FCs l,qf T,qi<|zS [100000,0],.a<|.osl 6 1 0<|toNat g.vs,.a<|.ep 7 6 0 0,qi 0,qf .N,qi 0,qf npF,.a<|.osl 9 10 0 0,qi 0,qf<|.bool false,qf npF]]::
      hpO 2 3 4 5 b:: .arz 5 (CR b.C):: .arz 7 (TR b.T):: .arz 1 (NR b.N):: .mapz (NM b.N 0):: .arz 1 (IR<|x::s):: .arr 6 [[.a<|.ep 8 6 0 0,.a<|.osl 6 1 0 (x::s).length,qi 0,qi 1,qf npF,qi 0]]::cdO g::[.arz 10 []]):=by
     refine acv (v7 ..) ⟨_,L,_,E,bN <| ?_⟩;cases idx<;>subst i
     .exact bN <| .inr<|.inl ⟨(_,npF,x::s,0,1,npF,0),f,_,j,bP ⟨⟨EQ _,r,y⟩,.refl _,rfl⟩⟩
     .exact bP ⟨_,K,.inr<|.inl ⟨(_,npF,x::s,0,1,npF,0),f,_,j,bP ⟨⟨EQ _,r,y⟩,.refl _,rfl⟩⟩⟩
    have hB:AC EF 7 [aCs l,aC g,cB,cb idx] [] aM (.arr 14 [[.a<|.ep 1 6 0 0,qf<|.sl false 6<|FCs l,qf T,qi<|zS [100000,0],.a<|AV.ice 6 1 (IR<|x::s)<|.osl 6 1 0<|toNat g.vs,.a<|.ep 7 6 0 0,qi 0,qf .N,qi 0,qf npF,.a<|.osl 9 10 0 0,qi 0,qf<|.bool false,qf npF]]::
      hpO 2 3 4 5 b:: .arz 5 (CR b.C):: .arz 7 (TR b.T):: .arz 1 (NR b.N):: .mapz (NM b.N 0):: .gone:: .arr 6 [[.a<|.ep 8 6 0 0,.a<|AV.ice 6 1 (IR<|x::s)<|.osl 6 1 0 (x::s).length,qi 0,qi 1,qf npF,qi 0]]::cdO g::[.arz 10 []]):=O.ice 6 1 (IR<|x::s) rfl
    rw[ice_v 6 _ _ J,ice_sl 6 0] at hB;have hD:=((hB.ice 8 6 [FC g]<|oK g).ice 7 6 [[.pt<|FC g,.sl true 1<|IR<|x::s,.int .i64 0,.int .i64 1,npF,.int .i64 0]] rfl).skip 6 3 (mOb ⟨b,.sl false 6<|FCs l,T,zS [100000,0],.sl (!(g.vs.toNat==0)) 1<|IR<|(x::s).take g.vs.toNat,frF<|.mk g (some<|x::s) 0 1 .nil 0,0,.N,0,npF,0,[],0,false,npF⟩ []) aM rfl rfl rfl rfl zb zb;obtain⟨G,W,U,S,I⟩:=new_bs (V:=.sl (!(g.vs.toNat==0)) 1<|IR<|(x::s).take g.vs.toNat) gr D hfr har (Y _) p ⟨rfl,rfl⟩;exact⟨_,hD,.inr ⟨G,W,U,rfl,S,I⟩⟩
open Go.RowKit Go.Lib
open Go.RowKit Go.Lib in
set_option maxHeartbeats 1000000 in
def Wr (b:Addr)(n c:Nat)(d:n<=c)(w:World):
  Calls EF 207 #[.slice (some b) n c] w λe w'=>e=.returned (.slice (some b) n n)/\w'=w:=by
 go_enter Tryz.func207,Tryz.ntmps207
 go_wp2
 go_ret;simp_all
open Go.RowKit Go.Lib in
set_option maxHeartbeats 1000000 in
def nI (w:World):
  Calls EF 207 #[.slice none 0 0] w λe w'=>e=.returned (.slice none 0 0)/\w'=w:=by
 go_enter Tryz.func207,Tryz.ntmps207
 go_wp2
 go_ret;simp_all
def AwP (w:World)(cells:List Value)(nv:Int)(any:Bool)(n1:Nat)(e:Ending)(w':World):Prop:=
 ∃(cap:Nat) (tail:Array Value),e=.returned (.agg #[.int .i64 nv,.slice (some ⟨w.heap.size+4,0,none⟩) n1 cap,.bool any])/\n1<=cap/\w'.heap[w.heap.size+4]?=some (.cells (cells.toArray++tail) 26 (0,0))/\
  (∀j,j<w.heap.size->w'.heap[j]?=w.heap[j]?)/\w'.heap.size=w.heap.size+5/\w'.os=w.os/\w'.tape=w.tape/\w'.output=w.output
def JR (w:World)(a b c d e:Obj){j:Nat}(f:j<w.heap.size):(((((w.alloc a).alloc b).alloc c).alloc d).alloc e).drew.drew.heap[j]?=w.heap[j]? :=by show((((w.heap.push a).push b).push c).push d |>.push e)[j]?=_;grind
def J5 (w:World)(a b c d e:Obj):(((((w.alloc a).alloc b).alloc c).alloc d).alloc e).drew.drew.heap[w.heap.size+4]?=some e:=by show((((w.heap.push a).push b).push c).push d |>.push e)[w.heap.size+4]?=_;grind
def Xa (w:World)(a b c d e:Obj):(((((w.alloc a).alloc b).alloc c).alloc d).alloc e).drew.drew.heap.size=w.heap.size+5:=by simp_all
def four_old (w:World)(a b c d:Obj){j:Nat}(e:j<w.heap.size):((((w.alloc a).alloc b).alloc c).alloc d).drew.drew.heap[j]?=w.heap[j]? :=by show((((w.heap.push a).push b).push c).push d)[j]?=_;grind
open Go.RowKit Go.Lib in
set_option maxHeartbeats 2000000 in
def ie (bb d n c:Nat)(y:n<=c)(G:n<=1000000000)(b:List Value)(A:b.length=n*4)(o:Int)(f:Bool)(k s m lv:Value)(w:World)(F:b≠[]->bb<w.heap.size)(i:∀j v,b[j]?=some v->w.cell? ⟨bb,d+j,none⟩=some v):
  Calls EF 195 #[.agg #[.int .i64 o,(.slice (some ⟨bb,d,none⟩) n c),.bool f],.agg #[k,s,m,lv]] w (AwP w (b++[k,s,m,lv]) o f<|n+1):=by
 have x:¬(n+1<=n):=za;have C:¬(9223372036854775807<(n:Int)+1/\Tryz.t26.bytes=0):=za;have u:¬(281474976710656<Builtin.nextslicecap (n+1) n*Tryz.t26.bytes):=by have:=growslice_fits_succ (old:=n) (bytes:=Tryz.t26.bytes) (by show n*56<=_;omega) (by show 56<=_;omega);omega
 have D:∀W:World,(∀j v,b[j]?=some v->W.cell? ⟨bb,d+j,none⟩=some v)->Sem.run EF (loadCellsFrom ⟨bb,d,none⟩ 0 (n*4) #[]) W=.ok b.toArray W:=λW h=>run_firstCells_some (P:=EF) W 4 n ⟨bb,d,none⟩ n n b A (λj v g=>by rw[Addr.add_lit];exact h j v g)
 go_enter Tryz.func195,Tryz.ntmps195
 go_wp2;have r:=D ((((w.alloc<|Obj.cells #[Value.int IntKind.i64 o,Value.slice (some ⟨bb,d,none⟩) n c,Value.bool f] 240).alloc<|Obj.cells #[k,s,m,lv] 26).alloc<|Obj.cells #[Value.int IntKind.i64 0,Value.slice none 0 0,Value.bool false] 240).alloc<|Obj.cells #[k,s,m,lv] 26).drew.drew (λj v g=>by have z:=i j v g;have p:=F (λe=>by rw[e] at g;simp at g);have E:=four_old w (Obj.cells #[Value.int IntKind.i64 o,Value.slice (some ⟨bb,d,none⟩) n c,Value.bool f] 240) (Obj.cells #[k,s,m,lv] 26) (Obj.cells #[Value.int IntKind.i64 0,Value.slice none 0 0,Value.bool false] 240) (Obj.cells #[k,s,m,lv] 26) p;rw[<-z];unfold World.cell?;simp only[E])
 go_region_with (first|(go_at_call 207;refine(Wr ⟨bb,d,none⟩ n c y _).mono ?_;rintro e H ⟨rfl,rfl⟩));all_goals go_wp2
 all_goals refine bodyPost_ret (v:=.agg #[.int .i64 o,.slice (some ⟨w.heap.size+1+1+1+1,0,none⟩) (n+1)<|(Question.appendCap (n+1) n 26).cut<|w.tape (w.drawn+1)<|Question.appendCap (n+1) n 26,.bool f]) (by simp only[results,Tryz.f195];go_simp) rfl ?_
 all_goals exact⟨_,Builtin.zeroCells #[.int .i64 0,.string ⟨#[]⟩,.int .i64 0,.slice none 0 0] (grownCap w.drew (n+1) n 26-(n+1)),rfl,grownCap_ge w.drew (n+1) n 26,(J5 w _ _ _ _ _).trans<|SJ (λq=>some<|Obj.cells q 26 (0,0))<|by rw[<-Array.append_assoc,show(b++[k,s,m,lv]).toArray=b.toArray++ #[k,s,m,lv] by simp];rfl,λj g=>JR w _ _ _ _ _ g,Xa w _ _ _ _ _,rfl,rfl,rfl⟩
open Go.RowKit Go.Lib in
set_option maxHeartbeats 2000000 in
def Ay (d:Int)(b:Bool)(k s m lv:Value)(w:World):
  Calls EF 195 #[.agg #[.int .i64 d,.slice none 0 0,.bool b],.agg #[k,s,m,lv]] w (AwP w ([]++[k,s,m,lv]) d b<|0+1):=by
 have g:¬(281474976710656<Builtin.nextslicecap 1 0*Tryz.t26.bytes):=by exact Nat.not_lt.2<|growslice_fits_succ (old:=0) (bytes:=Tryz.t26.bytes) (by show 0*56<=_;omega)<|by show 56<=_;omega
 go_enter Tryz.func195,Tryz.ntmps195
 go_wp2
 go_region_with (first|(go_at_call 207;refine(nI _).mono ?_;rintro e h ⟨rfl,rfl⟩));all_goals go_wp2
 all_goals refine bodyPost_ret (v:=.agg #[.int .i64 d,.slice (some ⟨w.heap.size+1+1+1+1,0,none⟩) 1<|(Question.appendCap 1 0 26).cut<|w.tape (w.drawn+1)<|Question.appendCap 1 0 26,.bool b]) (by simp only[results,Tryz.f195];go_simp) rfl ?_
 all_goals exact⟨_,Builtin.zeroCells #[.int .i64 0,.string ⟨#[]⟩,.int .i64 0,.slice none 0 0] (grownCap w.drew 1 0 26-1),rfl,grownCap_ge w.drew 1 0 26,(J5 w _ _ _ _ _).trans<|SJ (λq=>some<|Obj.cells q 26 (0,0)) rfl,λj f=>JR w _ _ _ _ _ f,Xa w _ _ _ _ _,rfl,rfl,rfl⟩
open Go.RowKit Go.Lib in
set_option maxHeartbeats 2000000 in
def iI (b:Addr)(f:Int)(d:Bool)(k s m lv:Value)(w:World):
  Calls EF 195 #[.agg #[.int .i64 f,.slice (some b) 0 0,.bool d],.agg #[k,s,m,lv]] w (AwP w ([]++[k,s,m,lv]) f d<|0+1):=by
 have i:¬(281474976710656<Builtin.nextslicecap 1 0*Tryz.t26.bytes):=by exact Nat.not_lt.2<|growslice_fits_succ (old:=0) (bytes:=Tryz.t26.bytes) (by show 0*56<=_;omega)<|by show 56<=_;omega
 have o:∀W:World,Sem.run EF (loadCellsFrom b 0 0 #[]) W=.ok #[] W:=λW=>rfl
 go_enter Tryz.func195,Tryz.ntmps195
 go_wp2;have h:=o ((((w.alloc<|Obj.cells #[Value.int IntKind.i64 f,Value.slice (some b) 0 0,Value.bool d] 240).alloc<|Obj.cells #[k,s,m,lv] 26).alloc<|Obj.cells #[Value.int IntKind.i64 0,Value.slice none 0 0,Value.bool false] 240).alloc<|Obj.cells #[k,s,m,lv] 26).drew.drew
 go_region_with (first|(go_at_call 207;refine(Wr b 0 0 (EI _) _).mono ?_;rintro e p ⟨rfl,rfl⟩));all_goals go_wp2
 all_goals refine bodyPost_ret (v:=.agg #[.int .i64 f,.slice (some ⟨w.heap.size+1+1+1+1,0,none⟩) 1<|(Question.appendCap 1 0 26).cut<|w.tape (w.drawn+1)<|Question.appendCap 1 0 26,.bool d]) (by simp only[results,Tryz.f195];go_simp) rfl ?_
 all_goals exact⟨_,Builtin.zeroCells #[.int .i64 0,.string ⟨#[]⟩,.int .i64 0,.slice none 0 0] (grownCap w.drew 1 0 26-1),rfl,grownCap_ge w.drew 1 0 26,(J5 w _ _ _ _ _).trans<|SJ (λq=>some<|Obj.cells q 26 (0,0)) rfl,λj g=>JR w _ _ _ _ _ g,Xa w _ _ _ _ _,rfl,rfl,rfl⟩
abbrev aAr (nv:Int)(L:List Tm)(any:Bool):TV:=.agg [qi nv,qf<|.sl false 4<|FTs L,qf<|.bool any]
def Xz {w:World}{X:Nat->Prop}{β:Nat->Option Nat}{x:FV}{v:Value}(h:WRep w X β (qf x) v):FRep w X x v:=by
 cases h with
 |a _ _ h=>cases h with
  |fz _ _ h=>exact h
def four_inv {w:World}{X:Nat->Prop}{β:Nat->Option Nat}{a b c d:FV}{vs:List Value}(h:LRep (WRep w X β) [qf a,qf b,qf c,qf d] vs):∃k s m lv,vs=[k,s,m,lv]/\FRep w X a k/\FRep w X b s/\FRep w X c m/\FRep w X d lv:=by obtain⟨k,r,rfl,i,h⟩:=h.cons_inv;obtain⟨s,r,rfl,e,h⟩:=h.cons_inv;obtain⟨m,r,rfl,f,h⟩:=h.cons_inv;obtain⟨lv,r,rfl,g,h⟩:=h.cons_inv;obtain rfl:=h.nil_inv;exact⟨k,s,m,lv,rfl,Xz i,Xz e,Xz f,Xz g⟩
def oY {w:World}{X:Nat->Prop}{β:Nat->Option Nat}{a b c:FV}{vs:List Value}(h:LRep (WRep w X β) [qf a,qf b,qf c] vs):∃k s m,vs=[k,s,m]/\FRep w X a k/\FRep w X b s/\FRep w X c m:=by obtain⟨k,r,rfl,f,h⟩:=h.cons_inv;obtain⟨s,r,rfl,d,h⟩:=h.cons_inv;obtain⟨m,r,rfl,e,h⟩:=h.cons_inv;obtain rfl:=h.nil_inv;exact⟨k,s,m,rfl,Xz f,Xz d,Xz e⟩
def FT4' (g:Tm):FT g=[.int .i64 g.k,.str g.s,.int .i64 g.n,.sl false 4<|FTs g.l]:=by cases g;rfl
def E0 {w:World} {X:Nat->Prop} {L:List Tm} {b g:Nat} {u:Nat->Nat->Value}
  (D:∀(i j:Nat) (e:List FV) (f:FV),(FTs L)[i]?=some e->e[j]?=some f->w.cell? ⟨b,g+i*4+j,none⟩=some (u i j)) (C:∀(i j:Nat) (e:List FV) (f:FV),(FTs L)[i]?=some e->e[j]?=some f->FRep w X f (u i j)):
  ∃d:List Value,d.length=L.length*4/\(∀j v,d[j]?=some v->w.cell? ⟨b,g+j,none⟩=some v)/\∀(i j:Nat) (e:List FV) (f:FV),(FTs L)[i]?=some e->e[j]?=some f->∃v,d[i*4+j]?=some v/\FRep w X f v:=by
 have m:∀i,i<L.length->∃t,(FTs L)[i]?=some (FT t):=λi x=>⟨L[i],by rw[yZ,EX,EU x];rfl⟩;refine⟨(List.range<|L.length*4).map λq=>u (q/4)<|q % 4,zb,λj v r=>?_,λi j e f h z=>?_⟩
 .rw[EX] at r;obtain⟨q,o,rfl⟩:=EM.1 r;have y:j<L.length*4:=by have:=(EW.1 o).1;exact zl this
  rw[Gc y] at o;injection o with o
  subst o;obtain⟨t,p⟩:=m (j/4) za;have A:j % 4<(FT t).length:=by rw[xO];omega
  have:=D (j/4) (j % 4) _ _ p<|EU A;rw[(za:g+j=g+j/4*4+j % 4)];exact this
 .have x:i<L.length:=by have:=(EW.1 h).1;rwa [zn] at this
  obtain⟨t,p⟩:=m i x;rw[p] at h;injection h with h
  have r:j<4:=by have:=(EW.1 z).1;rwa [<-h,xO] at this
  refine⟨u i j,?_,C i j e f (by rw[p,h]) z⟩;rw[EX,Gc za];show some (u ((i*4+j)/4)<|(i*4+j) % 4)=_;rw[show(i*4+j)/4=i by omega,show(i*4+j) % 4=j by omega]
def oM {w w':World} {X X':Nat->Prop} {N:Nat->Option Nat} {L:List Tm} {g:Tm} {I:Int} {A:Bool} {r:List Value} {k s m lv v:Value} (G:r.length=L.length*4)
  (C:∀(i j:Nat) (e:List FV) (f:FV),(FTs L)[i]?=some e->e[j]?=some f->∃v,r[i*4+j]?=some v/\FRep w X f v)
  (V:FRep w X (.int .i64 g.k) k) (U:FRep w X (.str g.s) s) (T:FRep w X (.int .i64 g.n) m) (W:FRep w X (.sl false 4<|FTs g.l) lv)
  (h:AwP w (r++[k,s,m,lv]) I A (L.length+1) (.returned v) w') (S:¬X' (w.heap.size+4)) (J:∀b,¬X b->b<w.heap.size->¬X' b):TRep w' X' N (aAr I (L++[g]) A) v:=by
 obtain⟨cap,O,e,D,H,E,Y,_⟩:=h;injection e with e
 subst e;have p:∀ {f:FV} {v:Value},FRep w X f v->FRep w' X' f v:=λd=>d.mono za λb hb x=>⟨E b x,J b hb x⟩
 have z:∀(j:Nat) (f:FV),(FT g)[j]?=some f->∃v,[k,s,m,lv][j]?=some v/\FRep w' X' f v:=λj f d=>by
  rw[FT4'] at d
  match j with
  |0=>simp at d;subst d;exact⟨k,rfl,p V⟩
  |1=>simp at d;subst d;exact⟨s,rfl,p U⟩
  |2=>simp at d;subst d;exact⟨m,rfl,p T⟩
  |3=>simp at d;subst d;exact⟨lv,rfl,p W⟩
  |j+4=>simp at d
 have y:∀(i j:Nat) (e:List FV) (f:FV),(FTs<|L++[g])[i]?=some e->e[j]?=some f->e.length=4/\∃v,(r++[k,s,m,lv])[i*4+j]?=some v/\FRep w' X' f v:=λi j e f o d=>by
  rw[yj] at o;have K:e.length=4:=by rw[<-yj,yZ,EX] at o;obtain⟨t,_,rfl⟩:=EM.1 o;exact xO t
  have hj:j<4:=by have:=(EW.1 d).1;omega
  refine⟨K,?_⟩;by_cases Z:i<L.length
  .rw[Gy<|by rw[zn];exact Z] at o;obtain⟨v,u,F⟩:=C i j e f o d;exact⟨v,by rw[Gy za];exact u,p F⟩
  .rw[Gx<|by rw[zn];omega,zn] at o;have M:i-L.length=0:=by have:=(EW.1 o).1;simp[FTs] at this;omega
   rw[M] at o;injection o with o
   subst o;obtain⟨v,u,F⟩:=z j f d;exact⟨v,by rw[Gx za,G,(za:i*4+j-L.length*4=j)];exact u,F⟩
 refine⟨[.int .i64 I,.slice (some ⟨w.heap.size+4,0,none⟩) (L.length+1) cap,.bool A],rfl,.cons (.a _ _<|.fz _ _<|.int _ _)<|.cons (.a _ _<|.fz _ _ ?_)<|.cons (.a _ _<|.fz _ _<|.bool _) .nil⟩;refine .sl false 4 (FTs<|L++[g]) (w.heap.size+4) 0 cap (L.length+1) (λi j=>(r++[k,s,m,lv]).getD (i*4+j) undef) (by rw[zn];simp) (by rw[zn];exact zl D) S za (λi e o=>?_) (λi j e f o d=>?_) λi j e f o d=>?_
 .rw[yZ,EX] at o;obtain⟨t,_,rfl⟩:=EM.1 o;exact xO t
 .obtain⟨_,v,u,_⟩:=y i j e f o d;have x:=(EW.1 u).1;show World.cell? w' _=some (getD _ _ _);unfold World.cell?;simp only[H,getD,u,Sq];simp only[Sa,G7,S5,Sj];rw[Array.getElem?_append_left<|zl x];exact zl u
 .obtain⟨_,v,u,F⟩:=y i j e f o d;show FRep w' X' f<|getD _ _ _;simp only[getD,u,Sq];exact F
def slF_inv {w:World}{X:Nat->Prop}{es:List (List FV)}{v:Value}(h:FRep w X (.sl false 4 es) v):(v=.slice none 0 0/\es=[])\/(∃a,v=.slice (some a) 0 0/\es=[])\/
  ∃(b d cap:Nat) (u:Nat->Nat->Value),v=.slice (some ⟨b,d,none⟩) es.length cap/\es.length<=cap/\¬X b/\b<w.heap.size/\(∀(i j:Nat) (e:List FV) (f:FV),es[i]?=some e->e[j]?=some f->w.cell? ⟨b,d+i*4+j,none⟩=some (u i j))/\(∀(i j:Nat) (e:List FV) (f:FV),es[i]?=some e->e[j]?=some f->FRep w X f (u i j)):=by
 cases h with
 |slnil=>exact .inl ⟨rfl,rfl⟩
 |sl0 _ _ a=>exact .inr<|.inl ⟨a,rfl,rfl⟩
 |sl _ _ _ b d cap m u o p r g z y x=>exact .inr<|.inr ⟨b,d,cap,u,by rw[o],p,r,g,y,x⟩
def mJ (z:Int)(L:List Tm)(p:Bool)(g:Tm)(hL:L.length<=1000000000):AC EF 195 [aAr z L p,aT g] [] (aAr z (L++[g]) p) []:=by
 refine⟨zg,EI _,λw vals β Y E hY hG hO C=>?_⟩;have S:∀b,(Y b\/Own (λo=>([]:List AObj).getD o .gone) β b)->Y b:=λb h=>h.elim id λ⟨o,h,_⟩=>by simp[isLive] at h
 obtain⟨u1,us,rfl,K,h2⟩:=C.cons_inv;obtain⟨u2,us2,rfl,I,h4⟩:=h2.cons_inv;obtain rfl:=h4.nil_inv;obtain⟨a1,rfl,K⟩:=K;obtain⟨a2,rfl,I⟩:=I;obtain⟨k,s,m,lv,rfl,r1,r2,r3,r4⟩:=four_inv I;obtain⟨x,v,y,rfl,q1,Z,q3⟩:=oY K;have ex:x=.int .i64 z:=by cases q1;rfl
 have ey:y=.bool p:=by cases q3;rfl
 subst ex;subst ey
 have fin:∀d:List Value,d.length=L.length*4->(∀(i j:Nat) (e:List FV) (f:FV),(FTs L)[i]?=some e->e[j]?=some f->∃v,d[i*4+j]?=some v/\FRep w (λb=>Y b\/Own (λo=>([]:List AObj).getD o .gone) β b) f v)->
   Calls EF 195 #[.agg #[.int .i64 z,v,.bool p],.agg #[k,s,m,lv]] w (AwP w (d++[k,s,m,lv]) z p<|L.length+1)->
   Calls EF 195 #[.agg #[.int .i64 z,v,.bool p],.agg #[k,s,m,lv]] w λe w'=> ∃v r,e=.returned v/\Good w (Own (λo=>([]:List AObj).getD o .gone) β) w'/\Objs (λo=>([]:List AObj).getD o .gone) r Y w'/\
    TRep w' (λb=>Y b\/Own (λo=>([]:List AObj).getD o .gone) r b) r (aAr z (L++[g]) p) v/\(∀o b,r o=some b->o<([]:List AObj).length)/\(∀o,o<([]:List AObj).length->r o=β o)/\(∀o b,([]:List AObj).length<=o->r o=some b->w.heap.size<=b\/Own (λo=>([]:List AObj).getD o .gone) β b):=λd N T hc=>by
  refine hc.mono λe w' hp=>?_;have U:=hp;obtain⟨cap,X,rfl,hcap,hnew,A,hsz,M,O,e3⟩:=hp;refine⟨_,β,rfl,⟨za,λb D _=>A b D,λb D=>by unfold World.shape?;rw[A b D],M,O,e3⟩,⟨λo b h=>by simp[isLive] at h,λo h=>by simp[isLive] at h,λo o' b h=>by simp[isLive] at h,λo b h=>by have:=hO.lt o b h;omega⟩,?_,E,λ_ _=>rfl,λo b _ h=>absurd (E o b h)<|GA _⟩;exact oM N T r1 r2 r3 r4 U (λhx=>by have:=hY _ (S _ hx);omega) λb D _=>D
 have G:∀ {es:List (List FV)},FTs L=es->es=[]->L.length=0:=λM O=>by rw[<-zn L,M,O];rfl
 generalize J:FTs L=es at Z fin;rcases slF_inv Z with⟨rfl,e⟩|⟨a,rfl,e⟩|⟨b,V,cap,u,rfl,W,g3,g4,g6,g7⟩
 .have F:=G J e;refine fin [] (by rw[F];rfl) (λi j e' f H=>by rw[e] at H;simp at H) ?_;rw[F];exact Ay z p k s m lv w
 .have F:=G J e;refine fin [] (by rw[F];rfl) (λi j e' f H=>by rw[e] at H;simp at H) ?_;rw[F];exact iI a z p k s m lv w
 .subst J;obtain⟨d,o1,o2,o3⟩:=E0 g6 g7;rw[zn] at W fin ⊢;exact fin d o1 o3<|ie b V L.length cap W hL d o1 z p k s m lv w (λ_=>g4) o2
abbrev lY:List UInt8:=[116,114,117,101]
abbrev nFail:List UInt8:=[102,97,105,108]
abbrev nCut:List UInt8:=[33]
abbrev nPi:List UInt8:=[112,105]
abbrev nSig:List UInt8:=[115,105,103,109,97]
abbrev nAnd:List UInt8:=[44]
abbrev nOr:List UInt8:=[59]
abbrev nImp:List UInt8:=[61,62]
abbrev nIf:List UInt8:=[58,45]
abbrev nEq:List UInt8:=[61]
def XS (s:List UInt8):Int:=if s=lY\/s=nFail\/s=nCut then 0 else if s=nPi\/s=nSig then 1 else 2
def zp (t:Tm)(flex:Int):=
 if (zo t).1.k=4\/(zo t).1.k=3 then([],[],flex) else if (zo t).1.k≠0 then([],[],130) else if logB (zo t).1.s=false then([],(zo t).2,0) else if ((zo t).2.length)≠XS (zo t).1.s then([],[],130) else((zo t).1.s,(zo t).2,0)
abbrev noT0:Tm:=.mk 0 [] 0 []
abbrev W2:Tm:=.mk 0 lY 0 []
abbrev andT:Tm:=.mk 0 nAnd 0 []
abbrev bd0:Tm:=.mk 3 [] 0 []
def y8 (t:Tm):=if t.k=5 then hd t.l else zH (shT 0 1 t 0) [bd0]
abbrev andG (b g:Tm):Tm:=.mk 6 [] 0 [andT,b,g]
def wJ:List Tm->Tm
 |[]=>W2
 |g::l=>l.foldl andG g
def ZY:List Int->List Tm->Int->Bool
 |_,[],_=>true
 |m,t::l,k=>if t.k≠3 then false else if k<=t.n then false else if m.contains t.n=true then false else ZY (m++[t.n]) l k
def patG:Nat->Tm->Int->Bool
 |0,_,_=>false
 |n+1,t,k=>if t.k=5 then patG n (hd t.l) (k+1) else if (zo t).1.k=5 then false else if (zo t).1.k=4\/((zo t).1.k=3/\k<=(zo t).1.n) then ZY [] (zo t).2 k else(zo t).2.all λu=>patG n u k
abbrev at0 (l:List Tm):=l.getD 0 noT0
abbrev at1 (l:List Tm):=l.getD 1 noT0
mutual
def zE (w:Bool):Nat->Tm->Int
 |0,_=>0
 |n+1,t=>if (zp t 133).2.2≠0 then(zp t 133).2.2 else if (zp t 133).1=nIf then 130 else if (zp t 133).1=nAnd\/(zp t 133).1=nOr then(if zE w n (at0 (zp t 133).2.1)≠0 then zE w n (at0 (zp t 133).2.1) else zE w n<|at1 (zp t 133).2.1) else if (zp t 133).1=nImp then(if (clsF w n false 0 []<|at0 (zp t 133).2.1).1≠0 then(clsF w n false 0 []<|at0 (zp t 133).2.1).1 else zE w n<|at1 (zp t 133).2.1) else if (zp t 133).1=nPi\/(zp t 133).1=nSig then zE w n (y8<|at0 (zp t 133).2.1) else 0
def clsF (w:Bool):Nat->Bool->Int->List Tm->Tm->Int×List Cl
 |0,_,_,_,_=>(0,[])
 |n+1,any,vs,L,t=>if (zp t 131).2.2≠0 then((zp t 131).2.2,[]) else if (zp t 131).1=[] then
   (if (!(any||w)&&(zp t 131).2.1.any λu=> !patG n u 0)=true then(132,[]) else(0,[(vs,t,wJ L)]))
  else if (zp t 131).1=nAnd then
   (if (clsF w n any vs L<|at0 (zp t 131).2.1).1≠0 then clsF w n any vs L (at0 (zp t 131).2.1) else((clsF w n any vs L<|at1 (zp t 131).2.1).1,(clsF w n any vs L<|at0 (zp t 131).2.1).2++(clsF w n any vs L<|at1 (zp t 131).2.1).2)) else if (zp t 131).1=nPi then clsF w n any (vs+1) (L.map λg=>shT 0 1 g 0)<|y8<|at0 (zp t 131).2.1 else if (zp t 131).1=nImp then(if zE w n (at0 (zp t 131).2.1)≠0 then(zE w n<|at0 (zp t 131).2.1,[]) else clsF w n any vs (L++[at0 (zp t 131).2.1])<|at1 (zp t 131).2.1) else if (zp t 131).1=nIf then(if zE w n (at1 (zp t 131).2.1)≠0 then(zE w n<|at1 (zp t 131).2.1,[]) else clsF w n any vs (L++[at1 (zp t 131).2.1])<|at0 (zp t 131).2.1) else(131,[])
end
def tL (s):AC EF 133 [cs s] [] (ci<|XS s) []:=by
 refine acv (v133 ..) ?_;unfold XS
 repeat' (refine zm (λ_=>?_) λ_=>?_)
 all_goals exact xB (by simp_all)
def rM (t)(e:t.sz<=B)(h:¬(t.k=6/\zt t=true)):AC EF 74 [aT t] [] (.tup [(true,cT t),(false,[qf .N])]) []:=by
 have f:=xR t e;let ⟨k,b,n,l⟩:=t;refine AC.vc hP shO lv6 (EI _) zb zb<|Eq.mpr (v74_O k b n _ _ _) ?_;refine zm (λ_=>rrl) λd=>⟨_,f,zm (λ_=>rrl) λh'=>absurd ⟨?_,?_⟩ h⟩
 .have d:=d;show k=6;exact zl d
 .exact zl h'
def gZ (t)(i:t.sz<=B)(g:t.k=6)(h:zt t=true):AC EF 74 [aT t] [] (.tup [(true,cT<|hd t.l),(false,[.a<|.osl 0 4 0 (t.l.drop 1).length])]) [.arz 4<|FTs<|t.l.drop 1]:=by
 have o:=xR t i;have b:=Tm.szs_length t.l;have e:=t.sz_eq;let ⟨k,f,n,l⟩:=t;subst g;obtain⟨x,y,r,rfl,j,p⟩:=okB6 (zW _ h) rfl;simp[Tm.l,EH,B] at b e i;have m:drop 1 (take (toNat<|((FTs<|x::y::r).length))<|FTs<|x::y::r)=FTs (y::r):=by rw[Ki];rfl
 refine AC.vc hP shO lv6 zb zb (by simp[isLive])<|Eq.mpr (v74_O 6 f n (FTs<|x::y::r) _ _) ?_;rw[m];refine bN ⟨_,o,zm (λh'=>absurd h<|zl h') λ_=>?_⟩;refine⟨el0 x<|y::r,rfl,⟨za,by rw[zn];simp[EH];omega,EQ _⟩,.inr ⟨_,(sT.1 (FTs<|y::r) (by simp[FTs])<|by rw[zn];simp[EH,B];omega),?_,rfl⟩⟩;rw[show cE (getD (FTs<|x::y::r) 0 [])=cT x from cE_FT x,zn];exact .refl _
def kQ {t flex}(g:flex≠0)(h:(zp t flex).2.2=0):(zo t).1.k=0/\((zp t flex).1=[]/\logB (zo t).1.s=false/\(zp t flex).2.1=(zo t).2\/(zp t flex).1=(zo t).1.s/\logB (zo t).1.s=true/\(zp t flex).2.1=(zo t).2/\((zo t).2.length)=XS (zo t).1.s):=by unfold zp at h ⊢;grind
def kM (t flex)(A:t.sz<=B)(m:(zp t flex).2.1=[]):AC EF 85 [aT t,ci flex] [] (.tup [(false,[qf<|.str (zp t flex).1]),(false,[qf .N]),(false,[qf<|.int .i64 (zp t flex).2.2])]) []:=by
 have c3:=ud (zo t).1.s;have w:=tL (zo t).1.s;refine AC.vc hP shO lv6 (EI _) zb zb<|Eq.mpr (v85 t.k t.s t.n (FTs t.l) flex ..) ?_;have fin:∀(a) e,zp t flex=(a,[],e)->TV.Le (.tup [(false,[qf<|.str a]),(false,[qf .N]),(false,[qi e])]) (.tup [(false,[qf<|.str (zp t flex).1]),(false,[qf .N]),(false,[qf<|.int .i64 (zp t flex).2.2])])/\([])=[]:=λa e h=>by rw[h];exact rrl
 have z:((zo t).1.k==4)=true->zp t flex=([],[],flex):=λh=>by unfold zp;rw[EL<|.inl<|eq_of_beq h]
 have v:((zo t).1.k==3)=true->zp t flex=([],[],flex):=λh=>by unfold zp;rw[EL<|.inr<|eq_of_beq h]
 have s0:((zo t).1.k==4)=false->((zo t).1.k==3)=false->((zo t).1.k !=0)=true->zp t flex=([],[],130):=λb d h=>by have b:¬(zo t).1.k=4:=ne_of_beq_false b;have d:¬(zo t).1.k=3:=ne_of_beq_false d;unfold zp;rw[EG za,EL<|bne_iff_ne.1 h]
 have sl:((zo t).1.k==4)=false->((zo t).1.k==3)=false->((zo t).1.k !=0)=false->(!logB (zo t).1.s)=true->zp t flex=([],(zo t).2,0):=λb d f h=>by have b:¬(zo t).1.k=4:=ne_of_beq_false b;have d:¬(zo t).1.k=3:=ne_of_beq_false d;unfold zp;rw[EG za,EG<|zl f,EL zd]
 have p:((zo t).1.k==4)=false->((zo t).1.k==3)=false->((zo t).1.k !=0)=false->(!logB (zo t).1.s)=false->(((zo t).2.length) !=XS (zo t).1.s)=true->zp t flex=([],[],130):=λb d f h g=>by have b:¬(zo t).1.k=4:=ne_of_beq_false b;have d:¬(zo t).1.k=3:=ne_of_beq_false d;unfold zp;rw[EG za,EG<|zl f,EG<|zl h,EL<|bne_iff_ne.1 g]
 have u:((zo t).1.k==4)=false->((zo t).1.k==3)=false->((zo t).1.k !=0)=false->(!logB (zo t).1.s)=false->(((zo t).2.length) !=XS (zo t).1.s)=false->zp t flex=((zo t).1.s,(zo t).2,0):=λb d f h g=>by have b:¬(zo t).1.k=4:=ne_of_beq_false b;have d:¬(zo t).1.k=3:=ne_of_beq_false d;unfold zp;rw[EG za,EG<|zl f,EG<|zl h,EG<|zl g]
 by_cases i:t.k=6/\zt t=true
 .have e:zo t=(hd t.l,t.l.drop 1):=EL i;have o:=gZ t A i.1 i.2;have j:(zo t).2≠[]:=by let ⟨k,s,n,l⟩:=t;have E:=i.1;subst E;obtain⟨x,y,r,rfl,_,_⟩:=okB6 (zW _ i.2) rfl;rw[e];simp[Tm.l]
  rw[show hd t.l=(zo t).1 by rw[e],show t.l.drop 1=(zo t).2 by rw[e]] at o;refine .inr ⟨zo t,o,zm (λh=>fin _ _<|z h) λb=>zm (λh=>fin _ _<|v h) λd=>zm (λh=>fin _ _<|s0 b d h) λf=>⟨_,c3,zm (λh=>?_) λh=>⟨_,w,zm (λg=>fin _ _<|p b d f h g) λg=>?_⟩⟩⟩
  .grind
  .grind
 .have e:zo t=(t,[]):=EG i;have D:(zo t).1=t:=by rw[e]
  have C:(zo t).2=[]:=by rw[e]
  rw[D] at c3 w z v s0 sl p u;rw[C] at sl p u;exact .inl ⟨t,(rM t A i),zm (λh=>fin _ _<|z h) λb=>zm (λh=>fin _ _<|v h) λd=>zm (λh=>fin _ _<|s0 b d h) λf=>⟨_,c3,zm (λh=>fin _ _<|sl b d f h) λh=>⟨rfl,_,w,zm (λg=>fin _ _<|p b d f h g) λg=>fin _ _<|u b d f h g⟩⟩⟩
def xn (t flex)(o:t.sz<=B)(f:(zp t flex).2.1≠[]):AC EF 85 [aT t,ci flex] [] (.tup [(false,[qf<|.str (zp t flex).1]),(false,[.a<|.osl 0 4 0 (zp t flex).2.1.length]),(false,[qf<|.int .i64 (zp t flex).2.2])]) [.arz 4<|FTs (zp t flex).2.1]:=by
 have j:=Sk λp=>by have e:zo t=(t,[]):=EG p;refine f ?_;unfold zp;grind
 have e:zo t=(hd t.l,t.l.drop 1):=EL j;have m:=gZ t o j.1 j.2;rw[show hd t.l=(zo t).1 by rw[e],show t.l.drop 1=(zo t).2 by rw[e]] at m;refine AC.vc hP shO lv6 zb zb (by simp[isLive])<|Eq.mpr (v85 t.k t.s t.n _ flex ..) ?_;refine .inr ⟨zo t,m,zm (λh=>?_) λb=>zm (λh=>?_) λd=>zm (λh=>?_) λg=>⟨_,(ud (zo t).1.s),zm (λh=>?_) λh=>⟨_,(tL (zo t).1.s),zm (λi=>?_) λi=>?_⟩⟩⟩
 .exact absurd (by unfold zp;rw[EL<|.inl<|eq_of_beq h]) f
 .exact absurd (by unfold zp;rw[EL<|.inr<|eq_of_beq h]) f
 .have b:¬(zo t).1.k=4:=zl b;have d:¬(zo t).1.k=3:=ne_of_beq_false d;exact absurd (by unfold zp;rw[EG za,EL<|bne_iff_ne.1 h]) f
 .have b:¬(zo t).1.k=4:=zl b;have d:¬(zo t).1.k=3:=ne_of_beq_false d;have:zp t flex=([],(zo t).2,0):=by unfold zp;rw[EG za,EG<|zl g,EL zd]
  rw[this];exact rrl
 .have b:¬(zo t).1.k=4:=zl b;have d:¬(zo t).1.k=3:=ne_of_beq_false d;exact absurd (by unfold zp;rw[EG za,EG<|zl g,EG<|zl h,EL<|bne_iff_ne.1 i]) f
 .have b:¬(zo t).1.k=4:=zl b;have d:¬(zo t).1.k=3:=ne_of_beq_false d;have:zp t flex=((zo t).1.s,(zo t).2,0):=by unfold zp;rw[EG za,EG<|zl g,EG<|zl h,EG<|zl i]
  rw[this];exact rrl
def cD (a b):AC EF 194 [.c<|.a<|.osl 0 4 0 2] [.arz 4<|FTs [a,b]] (.tup []) [.arz 4<|FTs [b,a]]:=by
 refine acv (v194_i1 2 (FTs [a,b]) ..) ?_;rw[w64 za za];refine rpv (Wn 2 0 1 (FTs [a,b]) ..) ?_;refine bP<|?_;rw[w64 za za,w64 za za];have e0:rE (getD (FTs [a,b]) 0 [])=FT a:=yO a;have d:rE (getD (FTs [a,b]) 1 [])=FT b:=yO b;have t0:take 4 (drop 0<|getD (FTs [a,b]) 0 [])=FT a:=by cases a;rfl
 have e:take 4 (drop 0<|getD (FTs [a,b]) 1 [])=FT b:=by cases b;rfl
 refine⟨⟨za,za⟩,⟨by show 1<2;omega,d.trans e.symm,rfl⟩,⟨za,za⟩,⟨by show 0<2;omega,e0.trans t0.symm,rfl⟩,⟨za,za⟩,⟨by show 0<2;omega,by show(FT a).length=4;exact xO a⟩,⟨za,za⟩,⟨by show 1<2;omega,by show(FT b).length=4;exact xO b⟩,?_⟩;have f:List.set (List.set (FTs [a,b]) (0+toNat 0)<|rE<|getD (FTs [a,b]) (0+toNat 1) []) (0+toNat 1) (rE<|getD (FTs [a,b]) (0+toNat 0) [])=FTs [b,a]:=by rw[show 0+toNat 0=0 from rfl,show 0+toNat 1=1 from rfl,e0,d];rfl
 rw[f];refine rpv (Wn 2 (0+1) (1-1) (FTs [b,a]) ..) ?_;exact bN rrl
def c_applyN (k s n args)(h:args.length<2199023255552):AC EF 12 [.agg [qi k,qf<|.str s,qi n,qf .N],aL args] [] (aT<|zH (.mk k s n []) args) []:=
 (wX _ args<|by simpa[Tm.l] using h).args ⟨leT yY,.refl _,trivial⟩
def pP (f i s0):∀(b a) (t),(a++b).length<=1000000000->
  RPt EF 192 0 (aT<|b.foldl andG t) [] 1 ⟨[(2,.c<|.a<|.ep 0 4 0 0),(3,.c<|.a<|.ep 1 4 0 0),(17,aL<|a++b),(18,ci (a++b).length),(19,ci a.length)],[(0,.arr 4 [[qi f,qf<|.str s0,qi i,qf .N]]),(1,.arr 4 [cT t])],2⟩
 |[],a,t,h=>by let ⟨k,s,n,l⟩:=t;refine rpv (Ez ..) ?_;exact bF zb rrl
 |g::b,a,t,h=>by
  have e:=pP f i s0 b (a++[g]) (andG t g) (zl h);rw[ap,nx] at e;have j:=c_applyN 0 nAnd 0 [t,g] zb;simp[EJ,EH] at h;have d:a.length<((a++g::b).length:Int):=by simp[EJ,EH];omega
  refine rpv (Ez ..) ?_;rw[w64 za za];refine bT d ⟨⟨rfl,za,by rw[zn];exact d,wy ..⟩,⟨rfl,za⟩,andG t g,?_,e⟩;rw[wy,midI];refine j.args ⟨.refl _,.c _ _<|.a _ _<|.fz _ _ ?_,trivial⟩;let ⟨k,s,n,l⟩:=t;exact .refl _
def c_kabody (e L b)(h:L.length<=1000000000):AC EF 192 [aAr e L b] [] (aT<|wJ L) []:=by
 refine acv (v192 ..) ?_;cases L with
 |nil=>exact⟨rfl,bP<|X0<|leT yY⟩
 |cons g L=>
  refine⟨rfl,zm (λh=>?_) λ_=>⟨⟨rfl,za,?_,?_⟩,rfl,⟨za,?_,za⟩,rfl,?_⟩⟩
  .rw[zn] at h;grind
  .grind
  .exact yO g
  .grind
  .have i:drop 1 (take (toNat<|((FTs<|g::L).length))<|FTs<|g::L)=FTs L:=by rw[Ki];rfl
   rw[i,show cE (getD (FTs<|g::L) 0 [])=cT g from cE_FT g];have d:(((FTs L).length))=L.length:=by rw[zn]
   rw[d];exact(pP 0 0 [] L [] g<|by simp only[EH] at h;simpa using Nat.le_of_succ_le h)
def fM (m d r p):∀(b a),(a++b).length<=1000000000->a≠[]->(∀g∈a++b,g.sz<=B/\bd M61 g)->
  RPt EF 193 0 (aAr m ((a++b).map λg=>shT 0 1 g 0) d) [] 1 ⟨[(2,.c<|.a<|.ep 0 3 0 0),(3,.c<|.a<|.ep 1 3 0 0),(13,aL<|a++b),(14,ci (a++b).length),(15,ci a.length)],
   [(0,.arr 3 [[qi r,qf .N,qf<|.bool p]]),(1,.arr 3 [[qi m,.a<|.osl 2 4 0 a.length,qf<|.bool d]]),(2,.arz 4<|FTs<|a.map λg=>shT 0 1 g 0)],3⟩
 |[],a,h,j,f=>by refine rpv (E1 ..) ?_;refine bF zb ⟨⟨⟨rfl,by rw[zn];simp⟩,trivial⟩,?_,rfl⟩;rw[S6,Sg,EV<|by rw[zn];simp];exact .refl _
 |g::b,a,h,j,f=>by
  have i:=fM m d r p b (a++[g]) (zl h) zb (zl f);rw[ap,nx,show((a++[g]).map λg=>shT 0 1 g 0)=(a.map λg=>shT 0 1 g 0)++[shT 0 1 g 0] by simp,yj] at i;have e:=f g zb;simp[EJ,EH] at h;have o:a.length<((a++g::b).length:Int):=by simp[EJ,EH];omega
  refine rpv (E1 ..) ?_;rw[w64 za za];refine bT o ⟨⟨rfl,za,by rw[zn];exact o,wy ..⟩,shT 0 1 g 0,by rw[vW];exact(Yk g 0 1 e.1 e.2 za zb za zd),za,⟨by rw[zn];simp,by unfold zw;omega⟩,?_⟩;rw[EV<|by rw[zn];simp,wG];rw[show(a++[g]).length=a.length+1 by simp] at i;exact i
def tu (f L b)(h:L.length<=1000000000)(v:0<=f)(u:f<=M61)(o:∀g∈L,g.sz<=B/\bd M61 g):AC EF 193 [aAr f L b] [] (aAr (f+1) (L.map λg=>shT 0 1 g 0) b) []:=by
 refine acv (v193 ..) ?_;simp[M61] at u;rw[w64 za za];refine⟨rfl,rpv (v193_1a ..) ?_⟩;cases L with
 |nil=>exact zm (λh=>by cases h) (λ_=>⟨.agg _ _ rfl (λi x y d e=>by
   match i with
   |0=>simp at d e;subst d;subst e;exact .refl _
   |1=>simp at d e;subst d;subst e;exact .a _ _ (.fz _ _ yY)
   |2=>simp at d e;subst d;subst e;exact .refl _
   |i+3=>simp at d),rfl⟩)
 |cons g L=>
  have j:=o g ET;have m:0<(((FTs<|g::L).length):Int):=by rw[zn];simp only[EH];omega
  rw[w64 za za];refine bT m ⟨⟨rfl,za,m,yO g⟩,shT 0 1 g 0,by rw[show aE (getD (FTs<|g::L) (toNat 0) [])=aT g from xb g];exact(Yk g 0 1 j.1 j.2 za zb za zd),za,by unfold zw;omega,?_⟩;rw[wG,zn];exact(fM (f+1) b 0 false L [g] (zl h) zb<|zl o)
def dX (t)(f:zt t=true)(g:t.sz<=B)(p:bd M61 t):AC EF 87 [aT t] [] (aT<|y8 t) []:=by
 have j:=xR t g;have m:=Yk t 0 1 g p za zb za zd;have o:(shT 0 1 t 0).l.length<=B:=by have:=Tm.szs_length (shT 0 1 t 0).l;have:=(shT 0 1 t 0).sz_eq;have:=Wy 0 1 t 0;omega
 simp[B] at o
 have c3:=(wX _ [bd0]<|by simp[EH,EY];omega).args (args:=[aT<|shT 0 1 t 0,.c<|qf<|.sl false 4 [[.int .i64 3,.str [],.int .i64 0,.N]]]) ⟨.refl _,.c _ _ (.a _ _ (.fz _ _ (nA (l:=[bd0]) rfl (λi r u d e=>by
  match i with
  |0=>simp at d e;subst d;subst e;exact leFT yY
  |i+1=>simp at d)))),trivial⟩
 let ⟨k,s,n,l⟩:=t;refine acv (v87 ..) ?_;unfold y8;refine⟨_,j,zm (λh=>absurd f<|zl h) λ_=>zm (λh=>?_) λh=>⟨_,m,⟨rfl,za⟩,_,c3,?_⟩⟩
 .have b:(Tm.mk k s n l).k=5:=zl h;subst b;obtain⟨x,rfl,_⟩:=okB5 (zW _ f) rfl;refine⟨⟨rfl,za,by show 0<1;omega,yO x⟩,?_,rfl⟩;show TV.Le (aE<|FT x) _;rw[xb,EL (show(Tm.mk 5 s n [x]).k=5 from rfl)];exact .refl _
 .have b:¬(Tm.mk k s n l).k=5:=zl h;exact ret_t (by rw[EG b])
def c_ktell (c X)(h:X.length<=1000000000):AC EF 175 [aCl c,.c<|.a<|.ep 0 1 0 0] [.arr 1 [[.a<|.osl 1 9 0 X.length]],.arz 9<|CLs X] (.tup []) [.arr 1 [[.a<|.osl 2 9 0 (X++[c]).length]],.gone,.arz 9<|CLs<|X++[c]]:=by refine acv (v175 ..) ?_;refine⟨za,⟨by rw[yd];exact EI _,by unfold zw;omega⟩,.refl _,?_⟩;rw[EV<|by rw[yd];exact EI _];simp[CLs]
abbrev mKi:=((false,[EK.int]),(false,[qf<|.bool false]))
def ZS (m:List Int):List MapZ:=m.map λn=>((false,[.int .i64 n]),(false,[.bool true]))
def YD (n):∀(m) (i),(m.contains n=false->xW mKi.1 [.int .i64 n] ((ZS m).map thaw) i=some none)/\(m.contains n=true->∃j,xW mKi.1 [.int .i64 n] ((ZS m).map thaw) i=some (some<|i+j)/\(ZS m)[j]?=some ((false,[.int .i64 n]),(false,[.bool true])))
 |[],i=>⟨λ_=>rfl,λh=>by cases h⟩
 |x::m,i=>by
  have ih:=YD n m<|i+1;have b:xW mKi.1 [.int .i64 n] ((ZS<|x::m).map thaw) i=if ((n==x)&&true)=true then some _ else xW mKi.1 [.int .i64 n] ((ZS m).map thaw) _:=rfl
  rw[b];by_cases q:n=x
  .subst q;refine⟨λh=>?_,λ_=>⟨0,zb,rfl⟩⟩;simp at h
  .have e:((n==x)&&true)=false:=by simp[q]
   rw[e];have g:(x::m).contains n=m.contains n:=by simp[List.contains_cons,q]
   rw[g];refine⟨ih.1,λh=>?_⟩;let ⟨j,f,d⟩:=ih.2 h;exact⟨j+1,by rw[EG zb,f,(za:i+1+j=i+(j+1))],by simpa[ZS] using d⟩
def fZ {n m}(h:m.contains n=false):ua mKi [.int .i64 n] (ZS m)=some none/\updZ mKi [.int .i64 n] (false,[.bool true]) (ZS m)=some (ZS<|m++[n]):=by have:=(YD n m 0).1 h;refine⟨by unfold ua;rw[this],by unfold updZ;rw[this];simp[ZS]⟩
def mj {n m}(h:m.contains n=true):ua mKi [.int .i64 n] (ZS m)=some (some [.bool true]):=by let ⟨j,d,b⟩:=(YD n m 0).2 h;unfold ua;grind
def AF (k):∀(b a) (m),(a++b).length<=B->RPt EF 205 0 (cb<|ZY m b k) [] 1 ⟨[(1,ci k),(5,.c<|.a<|.mp 0),(9,aL<|a++b),(10,ci (a++b).length),(11,ci a.length)],[(0,.mapz<|ZS m)],1⟩
 |[],a,m,h=>by refine rpv (mR ..) ?_;exact bF zb<|zy rfl
 |t::b,a,m,h=>by
  have f:=AF k b (a++[t]) (m++[t.n]) (zl h);rw[ap,nx] at f;simp[EJ,EH,B] at h;have e:a.length<((a++t::b).length:Int):=by simp[EJ,EH];omega
  have e0:FV.I (getD (getD (FTs<|a++t::b) (toNat a.length) []) 0 FV.N)=t.k:=by rw[midI];cases t;rfl
  have i:FV.I (getD (getD (FTs<|a++t::b) (toNat a.length) []) 2 FV.N)=t.n:=by rw[midI];cases t;rfl
  refine rpv (mR ..) ?_;rw[w64 za za,e0,i,ZY];refine bT e ⟨⟨rfl,za,by rw[zn];exact e,wy ..⟩,zm (λh=>zy ?_) λg=>zm (λh=>zy ?_) λj=>?_⟩
  .rw[EL<|zl h]
  .rw[EG<|zl g,EL<|zl h]
  .rw[EG<|zl g,EG<|zl j];cases d:m.contains t.n with
   |true=>exact .inl ⟨true,mj d,bP<|zy rfl⟩
   |false=>exact .inr ⟨(fZ d).1,_,(fZ d).2,f⟩
def c_kdist (l k)(h:l.length<=B):AC EF 205 [aL l,ci k] [] (cb<|ZY [] l k) []:=by refine acv (v205 ..) ?_;rw[zn];exact⟨rfl,(AF k l [] [] h)⟩
def sG (p n b):∀a,(a++b).length<=B->(∀u∈b,AC EF 206 [aT u,.c<|.a<|.ep 0 1 0 0] [obN n] (cb<|p u) [obN n])->RPt EF 144 1 (ci<|ixF p b a.length) [obN n] 1 ⟨[(0,aL<|a++b),(1,.c<|.fn (.func 206) [] [(false,[.ep 0 1 0 0])]),(7,ci (a++b).length),(8,ci a.length)],[(0,obN n)],1⟩:=by
 induction b with
 |nil=>intro a e _;refine rpv (ZM ..) ?_;exact bF zb rrl
 |cons t b d=>
  intro a e ih;have i:=ltI' a t b;have m:=ih t ET;have f:=d (a++[t]) (zl e) λu j=>ih u<|EP _ j;rw[ap,nx,show(a++[t]).length=a.length+1 by simp] at f;rw[ixF];simp[EJ,EH,B] at e;have g:a.length<((a++t::b).length:Int):=by simp[EJ,EH];omega
  refine rpv (ZM ..) ?_;rw[w64 za za];refine bT g ⟨⟨rfl,za,i,wy ..⟩,p t,by rw[vW];exact m,zm (λh=>?_) λh=>?_⟩
  .rw[EL h];exact rrl
  .rw[EG<|by rw[h];simp];exact f
def iK (p n l)(d:l.length<=B)(h:∀u∈l,AC EF 206 [aT u,.c<|.a<|.ep 0 1 0 0] [obN n] (cb<|p u) [obN n]):AC EF 103 [aL l,.c<|.fn (.func 206) [] [(false,[.ep 0 1 0 0])]] [obN n] (cb<|l.any p) [obN n]:=by
 have b:=sG p n l [] d h;have e:AC EF 144 [aL l,.c<|.fn (.func 206) [] [(false,[.ep 0 1 0 0])]] [obN n] (ci<|ixF p l 0) [obN n]:=by refine acv (Eu ..) ?_;rw[zn];exact⟨rfl,b⟩
 refine acv (A0 ..) ?_;exact⟨_,e,by rw[ju p l 0];exact rrl⟩
def Y0 (t):(zo t).1.sz<=t.sz/\(∀u∈(zo t).2,u.sz+1<=t.sz)/\(zo t).2.length<=t.sz:=by
 unfold zo;split
 .rename_i h;let ⟨k,s,n,l⟩:=t;obtain⟨x,y,r,rfl,_,_⟩:=okB6 (zW _ h.2) h.1;have e:=Tm.szs_length<|y::r;refine⟨?_,λu b=>?_,?_⟩
  .simp[Tm.l,hd,List.headD_cons,Tm.sz,Tm.szs];omega
  .have:=Tm.szs_mem (show u∈y::r from b);have d:=x.sz_pos;simp[Tm.sz,Tm.szs] at*;omega
  .simp[Tm.l,List.drop_succ_cons,Sg,Tm.sz,Tm.szs] at*;omega
 .grind
def ow:∀(n) (t:Tm) (k),t.sz<=n->t.sz<=B->zt t=true->0<=k->k+n<=M61->AC EF 191 [aT t,ci k] [] (cb<|patG n t k) []
 |0,t,k,z,_,_,_,_=>by have:=t.sz_pos;omega
 |n+1,t,k,z,A,p,D,F=>by
  have C:=vM t A;have v:=Y0 t;have i:∀u∈(zo t).2,zt u=true:=by
   intro u g;unfold zo at g;split at g
   .let ⟨w,s,m,l⟩:=t;exact wS p (.inr ‹_/\_›.1) u<|GB g
   .simp at g
  have y:=c_kdist (zo t).2 k za;have c3:=iK (λu=> !patG n u k) k (zo t).2 za (λu g=>by have h:=ow n u k (by have:=v.2.1 u g;omega) (by have:=v.2.1 u g;omega) (i u g) D za;let ⟨a,b,c,d⟩:=u;refine acv (v206 ..) ?_;exact⟨_,h,.refl _,rfl⟩);rw[patG];simp[M61] at F;refine acv (v191 t.k t.s t.n (FTs t.l) k ..) ?_;rw[w64 (x:=k+1) za za];refine zm (λh=>?_) λe=>⟨zo t,C,zm (λh=>zy ?_) λf=>zm (λh=>⟨_,y,zy ?_⟩) λo=>zm (λh=>zm (λj=>⟨_,y,zy ?_⟩) λj=>⟨_,c3,zy ?_⟩) λr=>⟨_,c3,zy ?_⟩⟩
  .have e:t.k=5:=zl h;rw[EL e];let ⟨w,s,m,l⟩:=t;have e:=e;subst e;obtain⟨x,rfl,_⟩:=okB5 (zW _ p) rfl;have E:=ow n x (k+1) (by simp[Tm.sz,Tm.szs] at z;omega) (by simp[Tm.sz,Tm.szs] at A;omega) (wS p (.inl rfl) x zb) za (by simp[M61];omega);exact⟨⟨rfl,za,by show 0<1;omega,yO x⟩,_,by show AC EF 191 [aE<|FT x,_] [] _ [];rw[xb];exact E,zy rfl⟩
  .rw[EG<|zl e,EL<|zl h]
  .rw[EG<|zl e,EG<|zl f,EL<|.inl<|zl h]
  .rw[EG<|zl e,EG<|zl f,EL<|.inr ⟨zl h,zl j⟩]
  .have r:(zo t).1.k=3:=zl h;have j:¬k<=(zo t).1.n:=zl j;rw[EG<|zl e,EG<|zl f,EG za,Xg]
  .have r:¬(zo t).1.k=3:=zl r;have G:¬(zo t).1.k=4:=zl o;rw[EG<|zl e,EG<|zl f,EG za,Xg]
mutual
def ms (b:Int->List UInt8->Nat):Tm->Nat
 |.mk k s _ l=>b k s+mss b l
def mss (b:Int->List UInt8->Nat):List Tm->Nat
 |[]=>0
 |t::l=>ms b t+mss b l
end
mutual
def KW:∀t:Tm,ms (λ_ _=>1) t=t.sz
 |.mk _ _ _ l=>by rw[ms,Tm.sz,mss_sz l]
def mss_sz:∀l:List Tm,mss (λ_ _=>1) l=Tm.szs l
 |[]=>rfl
 |t::l=>by rw[mss,Tm.szs,KW t,mss_sz l]
end
mutual
def JP:∀t:Tm,ms (λ_ s=>1+s.length) t=t.bk
 |.mk _ _ _ l=>by rw[ms,Tm.bk,mss_bk l]
def mss_bk:∀l:List Tm,mss (λ_ s=>1+s.length) l=Tm.bks l
 |[]=>rfl
 |t::l=>by rw[mss,Tm.bks,JP t,mss_bk l]
end
abbrev wb:Int->List UInt8->Nat:=λk _=>if k=0 then 4 else 1
abbrev wt (t:Tm):Nat:=ms wb t
mutual
def Yp:∀t:Tm,t.sz<=wt t
 |.mk k _ _ l=>by
  have:=sI l;unfold wt;rw[Tm.sz,ms];have:1<=wb k []:=by unfold wb;split<;>omega
  have e:wb k []=wb k ‹_›:=rfl;omega
def sI:∀l:List Tm,Tm.szs l<=mss wb l
 |[]=>EI _
 |t::l=>by have:=Yp t;have:=sI l;rw[Tm.szs,mss];unfold wt at*;omega
end
section
variable {b:Int->List UInt8->Nat}
def Ks (t):ms b t=b t.k t.s+mss b t.l:=by cases t;rw[ms];rfl
def WT:∀l m,mss b (l++m)=mss b l+mss b m
 |[],m=>by simp[mss]
 |t::l,m=>by rw[SE,mss,mss,WT l m];omega
def E2:∀ {l} {t},t∈l->ms b t<=mss b l
 |x::l,t,h=>by
  rw[mss];rcases S4.1 h with rfl|h
  .omega
  .have:=E2 h;omega
def mX (g)(h:∀u d,u.k≠5->u.k≠6->(g u d).k≠6)(t d)(b:(zQ g t d).k=6):t.k=6:=by
 let ⟨k,s,n,l⟩:=t;rw[zQ] at b;split at b
 .rw[withF_k] at b;exact b
 next f=>exact absurd b<|h _ _ (λe=>f<|by rw[show k=5 from e];rfl) λe=>f<|by rw[show k=6 from e];rfl
def xV (b)(h:∀u d,u.k≠5->u.k≠6->(b u d).k≠6)(k s n l d)(g:(k==5||k==6)=true):
  zQ b (.mk k s n l) d=.mk k s n (zK b l<|d+if (k==5)=true then 1 else 0):=by
 rw[zQ,EL g,xK,EG λe=>?_];rfl
 match l,e with
 |[],e=>have:=e.2.1;simp[zK] at this
 |t::l,e=>
  have f:=e.2.2.1;have i:(t.k !=6)=true:=e.2.2.2;rw[zK,List.headD_cons] at f;have:=mX b h t _ (zl f);grind
mutual
def Kb (lf:Tm->Int->Tm)(h:∀u d,u.k≠5->u.k≠6->(lf u d).k≠6)(hm:∀u d,u.k≠5->u.k≠6->ms b (lf u d)<=ms b u):∀(t:Tm) (d:Int),ms b (zQ lf t d)<=ms b t
 |.mk k s n l,d=>by
  by_cases hk:(k==5||k==6)=true
  .have:=aB lf h hm l<|d+if (k==5)=true then 1 else 0
   rw[xV lf h k s n l d hk,ms,ms];omega
  .rw[zQ,EG hk];exact hm _ _ (λe=>hk<|by rw[show k=5 from e];rfl) (λe=>hk<|by rw[show k=6 from e];rfl)
def aB (lf:Tm->Int->Tm)(h:∀u d,u.k≠5->u.k≠6->(lf u d).k≠6)(hm:∀u d,u.k≠5->u.k≠6->ms b (lf u d)<=ms b u):∀(l:List Tm) (d:Int),mss b (zK lf l d)<=mss b l
 |[],_=>EI _
 |t::l,d=>by have:=Kb lf h hm t d;have:=aB lf h hm l d;rw[zK,mss,mss];omega
end
def El (fr by_ u d)(b:u.k≠6):(yM fr by_ u d).k≠6:=by rw[pn];exact b
def Ar (fr by_ t d):ms b (shT fr by_ t d)<=ms b t:=by
 refine Kb _ (λu d _ e=>El _ _ u d e) (λu d _ _=>?_) t d;unfold yM;split
 .rw[Ks u];exact EI _
 .omega
def kR (i v:Int)(u:Tm)(d:Int):xD i (.mk 4 [] v []) u d=if (u.k==3)=true then(if u.n<d+i then u else if (u.n==d+i)=true then .mk 4 [] v [] else .mk u.k u.s (u.n-1) u.l) else u:=rfl
def cO (i v u d)(b:u.k≠6):(xD i (.mk 4 [] v []) u d).k≠6:=by
 rw[kR];split
 .split
  .exact b
  .split
   .intro h;cases h
   .exact b
 .exact b
def rc (g:∀s,b 4 []<=b 3 s)(i v t d):ms b (suT i (.mk 4 [] v []) t d)<=ms b t:=by
 refine Kb _ (λu d _ f=>cO _ _ u d f) (λu d _ _=>?_) t d;rw[kR];split
 .rename_i e;have e:u.k=3:=zd;split
  .omega
  .split
   .rw[Ks u,e,ms];have:=g u.s;simp[mss];omega
   .rw[Ks u];exact EI _
 .omega
def apply_ms (d:∀s,b 6 []<=b 6 s)(f l):ms b (zH f l)<=b 6 []+ms b f+mss b l:=by
 match l with
 |[]=>show ms b f<=_;omega
 |x::r=>
  show ms b (if (f.k==6)=true/\f.l≠[] then .mk 6 [] 0 _ else .mk 6 [] 0 _)<=_;split
  .rw[ms,WT,Ks f];omega
  .rw[ms,mss];omega
def dL (d:∀s,b 6 []<=b 6 s)(t)(e:zt t=true):ms b (y8 t)<=b 6 []+ms b t+b 3 []:=by
 unfold y8;split
 .rename_i f;let ⟨k,s,n,l⟩:=t;obtain⟨x,rfl,_⟩:=okB5 (zW _ e) f;show ms b x<=_;rw[ms,mss];omega
 .have g:=apply_ms d (shT 0 1 t 0) [bd0];have h:=Ar (b:=b) 0 1 t 0;rw[mss,mss,ms,mss] at g;omega
end
def vp {t}(h:(zo t).2≠[]):∃s n x y r,t=.mk 6 s n (x::y::r)/\zo t=(x,y::r)/\zt t=true:=by
 unfold zo at h;split at h
 .rename_i b;let ⟨k,s,n,l⟩:=t;have d:=b.1;subst d;obtain⟨x,y,r,rfl,_,_⟩:=okB6 (zW _ b.2) rfl;exact⟨s,n,x,y,r,rfl,EL b,b.2⟩
 .grind
def arg_ms (b:Int->List UInt8->Nat){t u:Tm}(d:u∈(zo t).2):(∃s,ms b t>=b 6 s+ms b (zo t).1+ms b u):=by obtain⟨s,n,x,y,r,rfl,e,_⟩:=vp (t:=t) (λe=>by rw[e] at d;cases d);rw[e] at d ⊢;have f:ms b u<=mss b (y::r):=E2 d;exact⟨s,by rw[ms,mss];show _>=b 6 s+ms b x+ms b u;omega⟩
def head_wt {t}(h:(zo t).1.k=0):4<=wt (zo t).1:=by unfold wt;rw[Ks,h];grind
def vA {t u}(d:u∈(zo t).2)(h:(zo t).1.k=0):5+wt u<=wt t:=by let ⟨s,b⟩:=arg_ms wb d;have:=head_wt h;grind
def Zx {t u}(d:u∈(zo t).2):2+u.sz<=t.sz:=by let ⟨s,b⟩:=arg_ms (λ_ _=>1) d;rw[KW,KW,KW] at b;have:=(zo t).1.sz_pos;omega
def Zh {t}(d:zt t=true):wt (y8 t)<=wt t+2:=by have:=dL (b:=wb) (λ_=>EI _) t d;grind
def Jc {t}(d:zt t=true):(y8 t).sz<=t.sz+2:=by have:=dL (b:=λ_ _=>1) (λ_=>EI _) t d;rw[KW,KW] at this;omega
def zR {t u}(b:u∈(zo t).2):zt u=true:=by obtain⟨s,n,x,y,r,rfl,e,d⟩:=vp (t:=t) (λe=>zd);rw[e] at b;exact wS d (.inr rfl) u<|EP _ b
def fQ {M t}(d:M+1<=4611686018427387904)(b:zt t=true)(e:bd M t):zt (shT 0 1 t 0)=true:=by rw[wz,EN];exact⟨re 0<|zW _ b,shT_lv (D:=0) za d t 0 0 e (ul b)<|EQ 0⟩
def io {M t}(g:M+1<=4611686018427387904)(b:zt t=true)(f:bd M t):zt (y8 t)=true:=by
 unfold y8;split
 .rename_i d;let ⟨k,s,n,l⟩:=t;obtain⟨x,rfl,_⟩:=okB5 (zW _ b) d;exact wS b (.inl d) x zb
 .have e:=fQ g b f;rw[wz,EN];exact⟨qE (zW _ e) rfl,jS (ul e) rfl⟩
def sV {M t}(f:0<=M)(e:zt t=true)(b:bd M t):bd (M+1) (y8 t):=by
 unfold y8;split
 .rename_i d;let ⟨k,s,n,l⟩:=t;obtain⟨x,rfl,_⟩:=okB5 (zW _ e) d;exact vD za _<|xU (bd_l b)<|by simp[hd,Tm.l]
 .exact jH (np za t 0 b<|EQ 0) ⟨⟨λ_=>⟨by show 0-(M+1)<=0;omega,za⟩,trivial⟩,trivial⟩
def TG (n:Nat)(t:Tm):Prop:=zt t=true/\t.sz<=1000000/\bd (1000000000000-n) t
def TG.mono {n m t}(h:TG n t)(b:m<=n):TG m t:=⟨h.1,h.2.1,vD za _ h.2.2⟩
def TG.arg {n t u}(h:TG (n+1) t)(b:u∈(zo t).2):TG n u:=by refine⟨zR b,by have:=Zx b;have:=h.2.1;omega,?_⟩;obtain⟨s,m,x,y,r,rfl,e,_⟩:=vp (t:=t) (λe=>zd);rw[e] at b;exact vD za _<|xU (bd_l h.2.2)<|EP _ b
def TG.body {n t u}(g:n<=1000000000)(h:TG (n+1) t)(b:u∈(zo t).2):TG n (y8 u):=by
 have d:=zR b;have f:bd (1000000000000-(n+1:Nat)) u:=by obtain⟨s,m,x,y,r,rfl,e,_⟩:=vp (t:=t) (λe=>zd);rw[e] at b;exact xU (bd_l h.2.2)<|EP _ b
 refine⟨io za d f,by have:=Zx b;have:=h.2.1;have:=Jc d;omega,?_⟩;have:=sV za d f;grind
def TG.sh {n t}(b:n<=1000000000)(h:TG (n+1) t):TG n (shT 0 1 t 0):=by refine⟨fQ za h.1 h.2.2,by have:=Wy 0 1 t 0;have:=h.2.1;omega,?_⟩;have:=np (fr:=0) (by_:=1) za t 0 h.2.2<|EQ 0;grind
def KO {t flex}(g:flex≠0)(h:(zp t flex).2.2=0)(b:(zp t flex).1≠[]):(zo t).1.k=0/\(zp t flex).1=(zo t).1.s/\(zp t flex).2.1=(zo t).2/\((zo t).2.length)=XS (zp t flex).1:=by
 obtain⟨j,⟨e,_⟩|⟨d,_,i,f⟩⟩:=kQ g h
 .grind
 .grind
def two_of {l:List Tm}(h:(l.length:Int)=2):∃a b,l=[a,b]:=by
 match l,h with
 |[a,b],_=>exact⟨a,b,rfl⟩
 |[],h=>simp at h
 |[_],h=>simp at h
 |_::_::_::_,h=>simp[EH] at h;omega
def one_of {l:List Tm}(h:(l.length:Int)=1):∃a,l=[a]:=by
 match l,h with
 |[a],_=>exact⟨a,rfl⟩
 |[],h=>simp at h
 |_::_::_,h=>simp[EH] at h;omega
def ya {t:Tm}{flex:Int}(f:flex≠0)(h:(zp t flex).2.2=0)(d:(zp t flex).1=nAnd\/(zp t flex).1=nOr\/(zp t flex).1=nImp\/(zp t flex).1=nIf):
  ∃a c,(zp t flex).2.1=[a,c]/\(zo t).2=[a,c]/\(zo t).1.k=0:=by
 have b:(zp t flex).1≠[]:=by rcases d with e|e|e|e<;>rw[e]<;>simp
 obtain⟨j,m,g,i⟩:=KO f h b;have:XS (zp t flex).1=2:=by rcases d with e|e|e|e<;>rw[e]<;>rfl
 obtain⟨a,c,e⟩:=two_of<|i.trans this;exact⟨a,c,g.trans e,e,j⟩
def yT {t flex}(f:flex≠0)(h:(zp t flex).2.2=0)(d:(zp t flex).1=nPi\/(zp t flex).1=nSig):
  ∃a,(zp t flex).2.1=[a]/\(zo t).2=[a]/\(zo t).1.k=0:=by
 have b:(zp t flex).1≠[]:=by rcases d with e|e<;>rw[e]<;>simp
 let ⟨j,m,g,i⟩:=KO f h b;have:XS (zp t flex).1=1:=by rcases d with e|e<;>rw[e]<;>rfl
 let ⟨a,e⟩:=one_of<|i.trans this;grind
def Wc {t a c}(h:(zo t).2=[a,c]):2+a.sz+c.sz<=t.sz:=by
 obtain⟨s,n,x,y,r,rfl,e,_⟩:=vp (t:=t) (by rw[h];simp);rw[e] at h;injection h with b d
 subst b;subst d;have:=x.sz_pos;simp[Tm.sz,Tm.szs];omega
def vH (w):∀(n) (b) (vs) (L) (t),(clsF w n b vs L t).2.length<=t.sz
 |0,_,_,_,t=>SQ _
 |n+1,b,vs,L,t=>by
  rw[clsF];split
  .grind
  .rename_i h;have h:=Sk h;split
   .split
    .grind
    .exact t.sz_pos
   .split
    .rename_i d;let ⟨a,c,e,f,_⟩:=ya za h<|.inl d;rw[e];have j:=vH w n b vs L a;have p:=vH w n b vs L c;have i:=Wc f;grind
    .split
     .rename_i d;let ⟨a,e,f,_⟩:=yT za h<|.inl d;rw[e];have m:a∈(zo t).2:=zd;have j:=vH w n b (vs+1) (L.map λg=>shT 0 1 g 0)<|y8 a;have p:=Jc<|zR m;have i:=Zx m;grind
     .split
      .rename_i d;let ⟨a,c,e,f,_⟩:=ya za h<|.inr<|.inr<|.inl d;rw[e];have i:=Wc f;split
       .grind
       .have j:=vH w n b vs (L++[a]) c;grind
      .split
       .rename_i d;let ⟨a,c,e,f,_⟩:=ya za h<|.inr<|.inr<|.inr d;rw[e];have i:=Wc f;split
        .grind
        .have j:=vH w n b vs (L++[c]) a;grind
       .grind
def br_t {c p q}(h:c=true)(b:p):br c p q:=zm (λ_=>b) (λh'=>zd)
def br_f {c p q}(h:c=false)(b:q):br c p q:=zm (λh'=>zd) λ_=>b
def uU (a):take 4 (drop 0<|FT a)=FT a:=by cases a;rfl
abbrev tellK:TV:=.c<|.fn (.func 175) [] [(false,[.ep 0 1 0 0])]
abbrev inK (X:List Cl):List AObj:=[.arr 1 [[.a<|.osl 1 9 0 X.length]],.arz 9<|CLs X]
abbrev outK (X:List Cl):List AObj:=[.arr 1 [[.a<|.osl 2 9 0 X.length]],.gone,.arz 9<|CLs X]
def c_keach1 (n)(u:Tm)(e:u.sz<=n)(g:u.sz<=B)(f:zt u=true)(i:n<=M61):AC EF 190 [aT u] [] (cb (!patG n u 0)) []:=by have h:=ow n u 0 e g f (EQ 0) za;let ⟨a,b,c,d⟩:=u;refine acv (v190 ..) ?_;exact⟨_,h,zy rfl⟩
def l_ixE1 (p b):∀a,(a++b).length<=B->(∀u∈b,AC EF 190 [aT u] [] (cb<|p u) [])->
  RPt EF 144 1 (ci<|ixF p b a.length) [.arz 4<|FTs<|a++b] 1 ⟨[(0,.c<|.a<|.osl 0 4 0 (a++b).length),(1,.c<|.fn (.func 190) [] []),(7,ci (a++b).length),(8,ci a.length)],[(0,.arz 4<|FTs<|a++b)],1⟩:=by
 induction b with
 |nil=>intro a e _;refine rpv (kD ..) ?_;exact bF zb rrl
 |cons t b d=>
  intro a e ih;have j:=ih t ET;have f:=d (a++[t]) (zl e) λu i=>ih u<|EP _ i;rw[ap,nx,show(a++[t]).length=a.length+1 by simp] at f;rw[ixF];simp[EJ,EH,B] at e;have g:a.length<((a++t::b).length:Int):=by simp[EJ,EH];omega
  refine rpv (kD ..) ?_;rw[w64 za za,Sa,midI,xb];refine bT g ⟨⟨za,g⟩,⟨by rw[zn,EJ,EH];omega,(yO t).trans (uU t).symm,rfl⟩,p t,j,zm (λh=>?_) λh=>?_⟩
  .rw[EL h];exact rrl
  .rw[EG<|by rw[h];simp];exact f
def c_anyE1 (p l)(e:l.length<=B)(h:∀u∈l,AC EF 190 [aT u] [] (cb<|p u) []):AC EF 103 [.c<|.a<|.osl 0 4 0 l.length,.c<|.fn (.func 190) [] []] [.arz 4<|FTs l] (cb<|l.any p) [.arz 4<|FTs l]:=by
 have b:=l_ixE1 p l [] e h;have d:AC EF 144 [.c<|.a<|.osl 0 4 0 l.length,.c<|.fn (.func 190) [] []] [.arz 4<|FTs l] (ci<|ixF p l 0) [.arz 4<|FTs l]:=by refine acv (gk ..) ?_;exact b
 refine acv (Kx ..) ?_;exact⟨_,d,by rw[ju p l 0];exact rrl⟩
def c_anyE1N:AC EF 103 [.c<|qf .N,.c<|.fn (.func 190) [] []] [] (cb false) []:=by
 have d:AC EF 144 [aL [],.c<|.fn (.func 190) [] []] [] (ci (-1)) []:=by refine acv (mi ..) ?_;refine⟨rfl,rpv (gp ..) ?_⟩;exact br_f rfl (xB rfl)
 have b:AC EF 103 [aL [],.c<|.fn (.func 190) [] []] [] (cb false) []:=by refine acv (sS ..) ?_;exact⟨_,d,zy rfl⟩
 exact b.args ⟨.c _ _<|.a _ _<|.fz _ _ yY,.refl _,trivial⟩
def GC (n:Nat):Prop:=
 (∀t,wt t<=n->TG n t->AC EF 53 [aT t] [] (ci<|zE false n t) [])/\
 (∀(any:Bool) (vs:Int) (L:List Tm) (t:Tm) (X:List Cl),wt t<=n->TG n t->(∀g∈L,TG n g)->0<=vs->vs+n<=1000000000000->L.length+n<=1000000000->X.length+t.sz<=1000000000->
  AC EF 174 [aT t,aAr vs L any,tellK] (inK X) (ci (clsF false n any vs L t).1) (outK<|X++(clsF false n any vs L t).2))
def all_of {n}(h:GC n)(j:n<=1000000000)(b t)(m:wt t<=n)(e:TG n t):AC EF 134 [aT t,aAr 0 [] b] [] (.tup [(false,[qf<|.sl false 9<|CLs (if (clsF false n b 0 [] t).1=0 then(clsF false n b 0 [] t).2 else [])]),(false,[qf<|.int .i64 (clsF false n b 0 [] t).1])]) []:=by
 have f:=h.2 b 0 [] t [] m e (λg i=>by cases i) (EQ 0) za (zl j) (by have:=e.2.1;simp[EY];omega);rw[SD] at f;refine acv (v134 ..) ?_;refine⟨(_,_),f,zm (λd=>?_) λd=>?_⟩
 .rw[EG<|bne_iff_ne.1 d];exact⟨Zr ⟨lw1<|.a _ _<|.fz _ _<|.N 9,lwR _,trivial⟩,rfl⟩
 .have d:(clsF false n b 0 [] t).1=0:=zl d;rw[EL d,d];refine⟨⟨rfl,by rw[yd];omega⟩,?_,rfl⟩;rw[Sg,EV<|by rw[yd];exact EI _];exact .refl _
def xA (n:Nat)(any:Bool)(t:Tm):=if (clsF false n any 0 [] t).1=0 then(clsF false n any 0 [] t).2 else []
def arN (e):TV.Le (.agg [qi 0,qf .N,qf<|.bool e]) (aAr 0 [] e):=.agg _ _ rfl (λi x y b d=>by
 match i with
 |0=>simp at b d;subst b;subst d;exact .refl _
 |1=>simp at b d;subst b;subst d;exact .a _ _ (.fz _ _ yY)
 |2=>simp at b d;subst b;subst d;exact .refl _
 |i+3=>simp at b)
def bq {n}(h:GC n)(g:n<=1000000000)(t)(i:wt t<=n)(e:TG n t):AC EF 86 [aT t] [] (.tup [(false,[qf<|.sl false 9<|CLs<|xA n false t]),(false,[qf<|.int .i64 (clsF false n false 0 [] t).1])]) []:=by have f:=xR t (by have:=e.2.1;simp[B];omega);have m:=(all_of h g false t i e).args (args:=[aT t,.agg [qi 0,qf .N,qf _]]) ⟨.refl _,arN _,trivial⟩;have j:=e.1;let ⟨a,b,c,d⟩:=t;refine acv (v86 ..) ?_;exact⟨_,f,br_f (by rw[j];rfl) ⟨(_,_),m,.refl _,rfl⟩⟩
def E7 {n}(h:GC n)(g:n<=1000000000)(t)(i:wt t<=n)(e:TG n t):AC EF 136 [aT t] [] (.tup [(false,[qf<|.sl false 9<|CLs<|xA n true t]),(false,[qf<|.int .i64 (clsF false n true 0 [] t).1])]) []:=by have f:=xR t (by have:=e.2.1;simp[B];omega);have m:=(all_of h g true t i e).args (args:=[aT t,.agg [qi 0,qf .N,qf _]]) ⟨.refl _,arN _,trivial⟩;have j:=e.1;let ⟨a,b,c,d⟩:=t;refine acv (v136 ..) ?_;exact⟨_,f,br_f (by rw[j];rfl) ⟨(_,_),m,.refl _,rfl⟩⟩
def sZ {n}(h:GC n)(N:n+1<=1000000000)(t)(O:wt t<=n+1)(z:TG (n+1) t):AC EF 53 [aT t] [] (ci<|zE false (n+1) t) []:=by
 have w:t.sz<=B:=by have:=z.2.1;simp[B];omega
 have F:=xR t w;rw[z.1] at F;have J:∀R:Int,((∃M:List UInt8×Int,True)->True)->True:=λ_ _=>trivial;have sub:=λu m v=>h.1 u (by have:=vA m v;omega)<|z.arg m;refine acv (v53 t.k t.s t.n (FTs t.l) ..) ?_;refine⟨_,F,br_f rfl ?_⟩;rw[zE];by_cases d:(zp t 133).2.2≠0
 .rw[EL d];have C:(zp t 133).2.1=[]:=by unfold zp at d ⊢;grind
  exact .inl ⟨((zp t 133).1,(zp t 133).2.2),kM t 133 w C,br_t (zl d)<|xB rfl⟩
 .rw[EG d];have d:=Sk d;by_cases j:(zp t 133).1=nIf
  .rw[EL j];let ⟨a,c,e,x,v⟩:=ya za d<|.inr<|.inr<|.inr j;have b:=xn t 133 w (by rw[e];simp);rw[e,j,d] at b;exact .inr ⟨(nIf,[a,c],0),b,br_f rfl (br_t rfl (xB rfl))⟩
  .rw[EG j];by_cases g:(zp t 133).1=nAnd\/(zp t 133).1=nOr
   .rw[EL g];let ⟨a,c,e,x,v⟩:=ya za d<|g.imp_right .inl;have b:=xn t 133 w (by rw[e];simp);rw[e,d] at b;have y:=sub a zd v;rw[e]
    have fin:br ((zE false n a) !=0) (TV.Le (ci<|zE false n a) (ci (if zE false n a≠0 then zE false n a else zE false n c))/\([]:List AObj)=[])
      ((0<=(1:Int)/\1<(((List.length [a,c]):Nat):Int))/\((1<(FTs [a,c]).length/\((rE<|getD (FTs [a,c]) 1 []))=take 4 (drop 0<|getD (FTs [a,c]) 1 [])/\(4:Nat)=4)/\∃G,AC EF 53 [aE<|getD (FTs [a,c]) 1 []] [] (ci G) []/\(TV.Le (ci G) (ci (if zE false n a≠0 then zE false n a else zE false n c))/\([]:List AObj)=[]))):=by
     refine zm (λq=>?_) (λq=>⟨⟨za,zb⟩,⟨by show 1<2;omega,(yO c).trans (uU c).symm,rfl⟩,zE false n c,by rw[show aE (getD (FTs [a,c]) 1 [])=aT c from xb c];exact(sub c zd v),?_⟩)
     .exact xB (by rw[EL<|bne_iff_ne.1 q])
     .exact xB (by rw[EG<|zl q])
    rcases g with hn' |hn'
    .rw[hn'] at b;exact .inr ⟨(nAnd,[a,c],0),b,br_f rfl (br_f rfl (br_t rfl ⟨⟨za,zb⟩,⟨by show 0<2;omega,(yO a).trans (uU a).symm,rfl⟩,_,by rw[show aE (getD (FTs [a,c]) 0 [])=aT a from xb a];exact y,fin⟩))⟩
    .rw[hn'] at b;exact .inr ⟨(nOr,[a,c],0),b,br_f rfl (br_f rfl (br_f rfl (br_t rfl ⟨⟨za,zb⟩,⟨by show 0<2;omega,(yO a).trans (uU a).symm,rfl⟩,_,by rw[show aE (getD (FTs [a,c]) 0 [])=aT a from xb a];exact y,fin⟩)))⟩
   .rw[EG g];have p:=λq=>g<|.inl q;have r:=λq=>g<|.inr q;by_cases f:(zp t 133).1=nImp
    .rw[EL f];let ⟨a,c,e,x,v⟩:=ya za d<|.inr<|.inr<|.inl f;have b:=xn t 133 w (by rw[e];simp);rw[e,f,d] at b;have m:a∈(zo t).2:=zd;rw[e]
     refine .inr ⟨(nImp,[a,c],0),b,br_f rfl (br_f rfl (br_f rfl (br_f rfl (br_t rfl ⟨⟨za,zb⟩,⟨by show 0<2;omega,(yO a).trans (uU a).symm,rfl⟩,(_,_),by rw[show aE (getD (FTs [a,c]) 0 [])=aT a from xb a];exact(bq h za a (by have:=vA m v;omega)<|z.arg m),
      zm (λq=>?_) (λq=>⟨⟨za,zb⟩,⟨by show 1<2;omega,(yO c).trans (uU c).symm,rfl⟩,zE false n c,by rw[show aE (getD (FTs [a,c]) 1 [])=aT c from xb c];exact(sub c zd v),?_⟩)⟩))))⟩
     .exact xB (by rw[EL<|zl q];rfl)
     .exact xB (by rw[EG<|zl q];rfl)
    .rw[EG f];by_cases i:(zp t 133).1=nPi\/(zp t 133).1=nSig
     .rw[EL i];let ⟨a,e,x,v⟩:=yT za d i;have b:=xn t 133 w (by rw[e];simp);rw[e,d] at b;have m:a∈(zo t).2:=zd;have H:=Zx m;have A:=dX a (zR m) za<|vD zd _ (z.arg m).2.2;have y:=h.1 (y8 a) (by have:=vA m v;have:=Zh (zR m);omega)<|z.body za m;rw[e];rcases i with hn' |hn'
      .rw[hn'] at b;exact .inr ⟨(nPi,[a],0),b,br_f rfl (br_f rfl (br_f rfl (br_f rfl (br_f rfl (br_t rfl ⟨⟨za,zb⟩,⟨by show 0<1;omega,(yO a).trans (uU a).symm,rfl⟩,_,by rw[show aE (getD (FTs [a]) 0 [])=aT a from xb a];exact A,_,y,xB rfl⟩)))))⟩
      .rw[hn'] at b;exact .inr ⟨(nSig,[a],0),b,br_f rfl (br_f rfl (br_f rfl (br_f rfl (br_f rfl (br_f rfl (br_t rfl ⟨⟨za,zb⟩,⟨by show 0<1;omega,(yO a).trans (uU a).symm,rfl⟩,_,by rw[show aE (getD (FTs [a]) 0 [])=aT a from xb a];exact A,_,y,xB rfl⟩))))))⟩
     .rw[EG i];have hp1:=λq=>i<|.inl q;have hp2:=λq=>i<|.inr q;have o:∀ {s:List UInt8},¬(zp t 133).1=s->(((zp t 133).1:List UInt8)==s)=false:=λq=>zl q;by_cases C:(zp t 133).2.1=[]
      .have b:=kM t 133 w C;rw[d] at b;exact .inl ⟨((zp t 133).1,0),b,br_f rfl (br_f (o j)<|br_f (o p)<|br_f (o r)<|br_f (o f)<|br_f (o hp1)<|br_f (o hp2)<|xB rfl)⟩
      .have b:=xn t 133 w C;rw[d] at b;exact .inr ⟨((zp t 133).1,(zp t 133).2.1,0),b,br_f rfl (br_f (o j)<|br_f (o p)<|br_f (o r)<|br_f (o f)<|br_f (o hp1)<|br_f (o hp2)<|xB rfl)⟩
def clsF_err {w n b vs L t}(d:(zp t 131).2.2≠0):clsF w (n+1) b vs L t=((zp t 131).2.2,[]):=by rw[clsF,EL d]
def s7 {t flex}(b:(zp t flex).2.2≠0):(zp t flex).2.1=[]:=by unfold zp at b ⊢;grind
def j0 {i X}:TV.Le (ci i) (ci i)/\outK X=outK (X++([])):=⟨.refl _,zb⟩
def rp {n} (h:GC n) (hn:n+1<=1000000000) (b) (vs:Int) (L t X) (hw:wt t<=n+1) (G:TG (n+1) t) (M:∀g∈L,TG (n+1) g) (N:0<=vs) (h1:vs+(n+1:Nat)<=1000000000000)
  (hL:L.length+(n+1)<=1000000000) (hX:X.length+t.sz<=1000000000):AC EF 174 [aT t,aAr vs L b,tellK] (inK X) (ci (clsF false (n+1) b vs L t).1) (outK<|X++(clsF false (n+1) b vs L t).2):=by
 have C:t.sz<=B:=by have:=G.2.1;simp[B];omega
 have E:∀g∈L,TG n g:=λg q=>(M g q).mono za;have sub:=λu o N=>h.1 u (by have:=vA o N;omega)<|G.arg o
 have v:∀(L') X',∀u∈(zo t).2,(zo t).1.k=0->(∀g∈L',TG n g)->L'.length<=L.length+1->X'.length+u.sz<=1000000000->AC EF 174 [aT u,aAr vs L' b,tellK] (inK X') (ci (clsF false n b vs L' u).1) (outK<|X'++(clsF false n b vs L' u).2):=
  λL' X' u o z T H Y=>h.2 b vs L' u X' (by have:=vA o z;omega) (G.arg o) T N za za Y
 have m:=c_kabody vs L b za;have I:=c_ktell (vs,t,wJ L) X (by have:=t.sz_pos;omega);refine acv (nS t.k t.s t.n (FTs t.l) vs (FTs L) b X.length (CLs X) ..) ?_;by_cases j:(zp t 131).2.2≠0
 .rw[clsF_err j];exact .inl ⟨((zp t 131).1,(zp t 131).2.2),kM t 131 C<|s7 j,br_t (zl j) j0⟩
 rw[clsF,EG j];have j:=Sk j;by_cases y:(zp t 131).1=[]
 .rw[EL y]
  have fin:∀c,c=false->AC EF 175 [aCl (vs,t,wJ L),.c<|.a<|.ep 0 1 0 0] (inK X) (.tup []) (outK<|X++[(vs,t,wJ L)])/\(TV.Le (ci 0) (ci (if c=true then(132,([])) else(0,[(vs,t,wJ L)])).1)/\outK (X++[(vs,t,wJ L)])=outK (X++(if c=true then((132:Int),([])) else(0,[(vs,t,wJ L)])).2)):=
   λc O=>⟨I,by rw[O];exact rrl⟩
  by_cases H:(zp t 131).2.1=[]
  .have d:=kM t 131 C H;rw[j,y] at d;have O:(!(b||false)&&(zp t 131).2.1.any λu=> !patG n u 0)=false:=by rw[H];simp
   refine .inl ⟨([],0),d,br_f rfl (br_t rfl (zm (λ_=>⟨false,c_anyE1N,br_f rfl ⟨wJ L,m,X++[(vs,t,wJ L)],fin _ O⟩⟩) λ_=>⟨wJ L,m,X++[(vs,t,wJ L)],fin _ O⟩))⟩
  .have d:=xn t 131 C H;rw[j,y] at d;have K:(zp t 131).2.1=(zo t).2:=by obtain⟨_,⟨_,_,q⟩|⟨_,_,q,_⟩⟩:=kQ za j<;>exact q
   have D:=c_anyE1 (λu=> !patG n u 0) (zp t 131).2.1 (by rw[K];have:=(Y0 t).2.2;omega) (λu o=>by rw[K] at o;have U:=Zx o;have:=Yp t;exact c_keach1 n u za za (zR o) (by simp[M61];omega));refine .inr ⟨([],(zp t 131).2.1,0),d,br_f rfl (br_t rfl (zm (λF=>⟨_,D,zm (λq=>?_) λq=>⟨wJ L,m,X++[(vs,t,wJ L)],fin _ ?_⟩⟩) λF=>⟨wJ L,m,X++[(vs,t,wJ L)],fin _ ?_⟩))⟩
   .have F:b=false:=zl F;rw[EL<|by rw[F,q];rfl];exact j0
   .rw[q,Sz]
   .have F:b=true:=zl F;rw[F];rfl
 rw[EG y];by_cases i:(zp t 131).1=nAnd
 .rw[EL i];let ⟨a,c,e,r,z⟩:=ya za j<|.inl i;have d:=xn t 131 C (by rw[e];simp);rw[e,i,j] at d;have U:=Wc r;have hta:=vH false n b vs L a;have D:=v L X a (by rw[r];simp) z E za za;have J:=v L (X++(clsF false n b vs L a).2) c (by rw[r];simp) z E za (by rw[EJ];omega);rw[e]
  refine .inr ⟨(nAnd,[a,c],0),d,br_f rfl (br_f rfl (br_t rfl ⟨⟨za,by show 0<2;omega⟩,⟨by show 0<2;omega,(yO a).trans (uU a).symm,rfl⟩,((clsF false n b vs L a).1,X++(clsF false n b vs L a).2),by rw[show aE (getD (FTs [a,c]) 0 [])=aT a from xb a];exact D,
   zm (λq=>?_) (λq=>⟨⟨za,by show 1<2;omega⟩,⟨by show 1<2;omega,(yO c).trans (uU c).symm,rfl⟩,((clsF false n b vs L c).1,(X++(clsF false n b vs L a).2)++(clsF false n b vs L c).2),by rw[show aE (getD (FTs [a,c]) 1 [])=aT c from xb c];exact J,?_⟩)⟩))⟩
  .have q:(clsF false n b vs L a).1≠0:=zl q;rw[EL (show(clsF false n b vs L<|at0 [a,c]).1≠0 from q)];exact rrl
  .have q:(clsF false n b vs L a).1=0:=zl q;rw[EG λp=>p q];refine⟨.refl _,?_⟩;rw[SH];rfl
 rw[EG i];by_cases w:(zp t 131).1=nPi
 .rw[EL w];let ⟨a,e,r,z⟩:=yT za j<|.inl w;have d:=xn t 131 C (by rw[e];simp);rw[e,w,j] at d;have o:a∈(zo t).2:=by rw[r];simp
  have hz2:=Zx o;have W:=Jc<|zR o;have S:=dX a (zR o) za<|vD (by simp[M61];omega) _ (G.arg o).2.2;have cu:=tu vs L b za N (by simp[M61];omega) (λg q=>⟨by have:=(M g q).2.1;simp[B];omega,vD (by simp[M61];omega) _ (M g q).2.2⟩);have D:=h.2 b (vs+1) (L.map λg=>shT 0 1 g 0) (y8 a) X (by have:=vA o z;have:=Zh (zR o);omega) (G.body za o) (λg q=>by obtain⟨g',Z,rfl⟩:=SG.1 q;exact(M g' Z).sh za) za za (by rw[Sn];omega) za;rw[e]
  exact .inr ⟨(nPi,[a],0),d,br_f rfl (br_f rfl (br_f rfl (br_t rfl ⟨⟨za,by show 0<1;omega⟩,⟨by show 0<1;omega,(yO a).trans (uU a).symm,rfl⟩,_,by rw[show aE (getD (FTs [a]) 0 [])=aT a from xb a];exact S,(vs+1,(L.map λg=>shT 0 1 g 0),b),cu,
   ((clsF false n b (vs+1) (L.map λg=>shT 0 1 g 0)<|y8 a).1,X++(clsF false n b (vs+1) (L.map λg=>shT 0 1 g 0)<|y8 a).2),D,.refl _,rfl⟩)))⟩
 rw[EG w];by_cases f:(zp t 131).1=nImp
 .rw[EL f];let ⟨a,c,e,r,z⟩:=ya za j<|.inr<|.inr<|.inl f;have d:=xn t 131 C (by rw[e];simp);rw[e,f,j] at d;have U:=Wc r;have D:=sub a (by rw[r];simp) z;have V:=mJ vs L b a za
  have J:=v (L++[a]) X c (by rw[r];simp) z (λg q=>by
   rcases Sb.1 q with q|q
   .exact E g q
   .have:g=a:=zl q;subst this;exact G.arg (by rw[r];simp)) zb za
  rw[e]
  refine .inr ⟨(nImp,[a,c],0),d,br_f rfl (br_f rfl (br_f rfl (br_f rfl (br_t rfl ⟨[c,a],cD a c,⟨za,by show 1<2;omega⟩,⟨by show 1<2;omega,(yO a).trans (uU a).symm,rfl⟩,zE false n a,by rw[show aE (getD (FTs [c,a]) 1 [])=aT a from xb a];exact D,
   zm (λq=>?_) (λq=>⟨⟨za,by show 0<2;omega⟩,⟨by show 0<2;omega,(yO c).trans (uU c).symm,rfl⟩,⟨za,by show 1<2;omega⟩,⟨by show 1<2;omega,(yO a).trans (uU a).symm,rfl⟩,(vs,L++[a],b),by rw[show aE (getD (FTs [c,a]) 1 [])=aT a from xb a];exact V,
    ((clsF false n b vs (L++[a]) c).1,X++(clsF false n b vs (L++[a]) c).2),by rw[show aE (getD (FTs [c,a]) 0 [])=aT c from xb c];exact J,?_⟩)⟩))))⟩
  .have q:zE false n a≠0:=zl q;rw[EL (show zE false n (at0 [a,c])≠0 from q)];exact j0
  .have q:zE false n a=0:=zl q;rw[EG λp=>p q];exact rrl
 rw[EG f];by_cases x:(zp t 131).1=nIf
 .rw[EL x];let ⟨a,c,e,r,z⟩:=ya za j<|.inr<|.inr<|.inr x;have d:=xn t 131 C (by rw[e];simp);rw[e,x,j] at d;have U:=Wc r;have J:=sub c (by rw[r];simp) z;have V:=mJ vs L b c za
  have D:=v (L++[c]) X a (by rw[r];simp) z (λg q=>by
   rcases Sb.1 q with q|q
   .exact E g q
   .have:g=c:=zl q;subst this;exact G.arg (by rw[r];simp)) zb za
  rw[e]
  refine .inr ⟨(nIf,[a,c],0),d,br_f rfl (br_f rfl (br_f rfl (br_f rfl (br_f rfl (br_t rfl ⟨⟨za,by show 1<2;omega⟩,⟨by show 1<2;omega,(yO c).trans (uU c).symm,rfl⟩,zE false n c,by rw[show aE (getD (FTs [a,c]) 1 [])=aT c from xb c];exact J,
   zm (λq=>?_) (λq=>⟨⟨za,by show 0<2;omega⟩,⟨by show 0<2;omega,(yO a).trans (uU a).symm,rfl⟩,⟨za,by show 1<2;omega⟩,⟨by show 1<2;omega,(yO c).trans (uU c).symm,rfl⟩,(vs,L++[c],b),by rw[show aE (getD (FTs [a,c]) 1 [])=aT c from xb c];exact V,
    ((clsF false n b vs (L++[c]) a).1,X++(clsF false n b vs (L++[c]) a).2),by rw[show aE (getD (FTs [a,c]) 0 [])=aT a from xb a];exact D,?_⟩)⟩)))))⟩
  .have q:zE false n c≠0:=zl q;rw[EL (show zE false n (at1 [a,c])≠0 from q)];exact j0
  .have q:zE false n c=0:=zl q;rw[EG λp=>p q];exact rrl
 rw[EG x];have A:∀ {s:List UInt8},¬(zp t 131).1=s->(((zp t 131).1:List UInt8)==s)=false:=λq=>zl q;by_cases H:(zp t 131).2.1=[]
 .have d:=kM t 131 C H;rw[j] at d;exact .inl ⟨((zp t 131).1,0),d,br_f rfl (br_f (A y)<|br_f (A i)<|br_f (A w)<|br_f (A f)<|br_f (A x) j0)⟩
 .have d:=xn t 131 C H;rw[j] at d;exact .inr ⟨((zp t 131).1,(zp t 131).2.1,0),d,br_f rfl (br_f (A y)<|br_f (A i)<|br_f (A w)<|br_f (A f)<|br_f (A x) j0)⟩
def Eg:∀n,n<=1000000000->GC n
 |0,_=>⟨λt b _=>by have:=Yp t;have:=t.sz_pos;omega,λ_ _ _ t _ b _=>by have:=Yp t;have:=t.sz_pos;omega⟩
 |n+1,f=>by have h:=Eg n za;exact⟨λt b e=>sZ h f t b e,λd vs L t X b e g j o m i=>rp h f d vs L t X b e g j o m i⟩
def tw (n)(e:n<=1000000000)(t)(b:wt t<=n)(d:TG n t):AC EF 53 [aT t] [] (ci<|zE false n t) []:=(Eg n e).1 t b d
def c_kparts (n)(b:n<=1000000000)(t)(d:wt t<=n)(e:TG n t):AC EF 136 [aT t] [] (.tup [(false,[qf<|.sl false 9<|CLs<|xA n true t]),(false,[qf<|.int .i64 (clsF false n true 0 [] t).1])]) []:=E7 (Eg n b) b t d e
def gms (b:Int->List UInt8->Nat):List Tm->Nat
 |[]=>0
 |g::l=>ms b g+(b 6 []+b 0 nAnd)+gms b l
def Zg (b):∀l m,gms b (l++m)=gms b l+gms b m
 |[],m=>by simp[gms]
 |x::l,m=>by rw[SE,gms,gms,Zg b l m];omega
def cp (b):∀l,gms b (l.map λg=>shT 0 1 g 0)<=gms b l
 |[]=>EI _
 |g::l=>by have:=cp b l;have:=Ar (b:=b) 0 1 g 0;rw[SA,gms,gms];omega
def sm (b x g):ms b (andG x g)=b 6 []+b 0 nAnd+ms b x+ms b g:=by rw[ms,mss,mss,mss,mss,ms,mss];omega
def bX (b):∀(l) (x),ms b (l.foldl andG x)<=ms b x+gms b l
 |[],x=>EI _
 |g::l,x=>by have:=bX b l (andG x g);rw[sm] at this;rw[Gz,gms];omega
def mS (b L)(h:L≠[]):ms b (wJ L)<=gms b L:=by
 cases L with
 |nil=>exact absurd rfl h
 |cons x L=>have:=bX b L x;show ms b (L.foldl andG x)<=_;rw[gms];omega
def andG_bd {M x g}(b:bd M x)(d:bd M g):bd M (andG x g):=bd6 ⟨⟨λe=>absurd e za,trivial⟩,b,d,trivial⟩
def sh_43 {t}(flex)(h:(zo t).1.k=4\/(zo t).1.k=3):zp t flex=([],[],flex):=by unfold zp;rw[EL h]
def sh_0 {t}(flex)(b:¬(zo t).1.k=4)(d:¬(zo t).1.k=3)(h:(zo t).1.k≠0):zp t flex=([],[],130):=by unfold zp;rw[EG za,EL h]
def log_ne {s}(h:logB s=true):s≠[]:=by intro e;rw[e] at h;revert h;decide
def dV {t a c}(e:(zo t).2=[a,c]):(FV.L 4 (.sl false 4<|FTs (zo t).2)=true/\0<=(0:Int)/\0<(((FTs (zo t).2).length):Int)/\(rE<|getD (FTs (zo t).2) 0 [])=getD (FTs (zo t).2) 0 [])/\
  (FV.L 4 (.sl false 4<|FTs (zo t).2)=true/\0<=(1:Int)/\1<(((FTs (zo t).2).length):Int)/\(rE<|getD (FTs (zo t).2) 1 [])=getD (FTs (zo t).2) 1 [])/\
  aE (getD (FTs (zo t).2) 0 [])=aT a/\aE (getD (FTs (zo t).2) 1 [])=aT c:=by
 rw[e];exact⟨⟨rfl,za,by show 0<2;omega,yO a⟩,⟨rfl,za,by show 1<2;omega,yO c⟩,xb a,xb c⟩
def tR {t a}(e:(zo t).2=[a]):(FV.L 4 (.sl false 4<|FTs (zo t).2)=true/\0<=(0:Int)/\0<(((FTs (zo t).2).length):Int)/\(rE<|getD (FTs (zo t).2) 0 [])=getD (FTs (zo t).2) 0 [])/\
  aE (getD (FTs (zo t).2) 0 [])=aT a:=by
 rw[e];exact⟨⟨rfl,za,by show 0<1;omega,yO a⟩,xb a⟩
end Go.AM
namespace Go.AM
def wiB (t:Tm)(vars loose:Int):=zt t&&(unF vars t&&decide (vr t 0 0<=loose))
def clB (n:Nat)(c:Cl):=decide (0<=c.1)&&decide (c.1<=4096)&&(wiB c.2.1 0 c.1&&(wiB c.2.2 0 c.1&&(XU c.2.1&&zE false n c.2.2==0)))
def vI (n:Nat)(prog:List Cl)(goal:Tm)(vars:Int):=decide (0<=vars)&&decide (vars<=4096)&&(wiB goal vars 0&&(zE false n goal==0&&prog.all (clB n)))
def TB (n:Nat)(t:Tm):Prop:=t.bk<=B/\t.sz<=1000000/\bd (1000000000000-n) t/\wt t<=n
def TB.tg {n t}(h:TB n t)(b:zt t=true):TG n t:=⟨b,h.2.1,h.2.2.1⟩
def TB.sz {n t}(h:TB n t):t.sz<=B:=by have:=h.2.1;simp[B];omega
def TB.bd {n t}(h:TB n t):bd 2305843009213693952 t:=vD za _ h.2.2.1
def ak (n):AC EF 51 [ci n] [] (cb (decide (0<=n)&&decide (n<=4096))) []:=by refine acv (v51 ..) ?_;exact zm (λh=>zy<|by rw[h];rfl) (λh=>zy<|by rw[h];rfl)
def dC (p n b):∀a,(a++b).length<=B->(∀u∈b,AC EF 130 [aT u,.c<|.a<|.ep 0 1 0 0] [obN n] (cb<|p u) [obN n])->RPt EF 144 1 (ci<|ixF p b a.length) [obN n] 1 ⟨[(0,aL<|a++b),(1,.c<|.fn (.func 130) [] [(false,[.ep 0 1 0 0])]),(7,ci (a++b).length),(8,ci a.length)],[(0,obN n)],1⟩:=by
 induction b with
 |nil=>intro a d _;refine rpv (ZH ..) ?_;exact bF zb rrl
 |cons t b e=>
  intro a d ih;have i:=ltI' a t b;have m:=ih t ET;have f:=e (a++[t]) (zl d) λu g=>ih u<|EP _ g;rw[ap,nx,show(a++[t]).length=a.length+1 by simp] at f;rw[ixF];simp[EJ,EH,B] at d;have j:a.length<((a++t::b).length:Int):=by simp[EJ,EH];omega
  refine rpv (ZH ..) ?_;rw[w64 za za];refine bT j ⟨⟨rfl,za,i,wy ..⟩,p t,by rw[vW];exact m,zm (λh=>?_) λh=>?_⟩
  .rw[EL h];exact rrl
  .rw[EG<|by rw[h];simp];exact f
def gC (p n l)(b:l.length<=B)(h:∀u∈l,AC EF 130 [aT u,.c<|.a<|.ep 0 1 0 0] [obN n] (cb<|p u) [obN n]):AC EF 103 [aL l,.c<|.fn (.func 130) [] [(false,[.ep 0 1 0 0])]] [obN n] (cb<|l.any p) [obN n]:=by
 have d:=dC p n l [] b h;have e:AC EF 144 [aL l,.c<|.fn (.func 130) [] [(false,[.ep 0 1 0 0])]] [obN n] (ci<|ixF p l 0) [obN n]:=by refine acv (nQ ..) ?_;rw[zn];exact⟨rfl,d⟩
 refine acv (tU ..) ?_;exact⟨_,e,by rw[ju p l 0];exact rrl⟩
def c_splain (n):∀t,t.sz<=B->AC EF 83 [aT t,ci n] [] (cb<|unF n t) []:=by
 refine Tm.ind λt ih j=>?_;have i:=Tm.szs_length t.l;have m:=t.sz_eq;have f:∀u∈t.l,AC EF 130 [aT u,.c _] [obN n] _ [obN n]:=λu b=>by have g:=ih u b (by have:=Tm.szs_mem b;omega);refine acv (v130 ..) ?_;exact⟨_,g,.refl _,rfl⟩
 have d:=gC (λu=> !unF n u) n t.l za f;refine acv (v83 ..) ?_;have e:=Xg (unF n) t.l;rw[unF_eq,<-e];refine zm (λh=>zy<|by rw[h];rfl) (λh=>zm (λh'=>zm (λq=>zy<|by rw[h,h',q];rfl) λq=>⟨_,d,zy<|by rw[h,h',q];rfl⟩) λh'=>⟨_,d,zy<|by rw[h,h'];rfl⟩)
def XJ (t b d)(e:t.sz<=B)(j:bd 2305843009213693952 t):AC EF 52 [aT t,ci b,ci d] [] (cb<|wiB t b d) []:=by have i:=xR t e;have g:=c_splain b t e;have f:=A8 t e j;refine acv (v52 ..) ?_;unfold wiB;exact⟨_,i,zm (λh=>⟨_,g,zm (λq=>⟨_,f,zy<|by rw[h,q];rfl⟩) λq=>zy<|by rw[h,q];rfl⟩) λh=>zy<|by rw[h];rfl⟩
def c_spred (t)(d:t.sz<=B):AC EF 56 [aT t] [] (.tup [(false,[qf<|.str (zo t).1.s]),(false,[qf<|.bool<|XU t])]) []:=by have e:=vM t d;have b:=ud (zo t).1.s;refine acv (v56 ..) ?_;unfold XU;exact⟨_,e,zm (λh=>⟨_,b,by rw[h];exact rrl⟩) λh=>by rw[h];exact rrl⟩
def E8 (n)(o:n<=1000000000)(c)(f:TB n c.2.1)(e:TB n c.2.2):AC EF 55 [aCl c] [] (cb (!clB n c)) []:=by
 have i:=c_spred c.2.1 f.sz;have j:=ak c.1;have c3:=XJ c.2.1 0 c.1 f.sz f.bd;have h:=XJ c.2.2 0 c.1 e.sz e.bd;let ⟨vs,b,d⟩:=c;refine acv (v55 ..) ?_;unfold clB;simp at i j c3 h;refine⟨_,_,i,_,j,zm (λq=>zy ?_) λg=>⟨_,c3,zm (λq=>zy ?_) λp=>⟨_,h,zm (λq=>zy ?_) λm=>zm (λq=>zy ?_) λr=>⟨_,tw n o d e.2.2.2<|e.tg ?_,zy ?_⟩⟩⟩⟩
 .have q:(decide (0<=vs)&&decide (vs<=4096))=false:=by revert q;cases (decide (0<=vs)&&decide (vs<=4096))<;>simp
  rw[q];rfl
 .rw[show wiB b 0 vs=false by simpa using q,Sx,Sz];rfl
 .rw[show wiB d 0 vs=false by simpa using q,Sx,Sz,Sz];rfl
 .rw[show XU b=false by simpa using q,Sx,Sz,Sz,Sz];rfl
 .have:wiB d 0 vs=true:=zl m;unfold wiB at this;exact(Bool.and_eq_true_iff.1 this).1
 .have g:(decide (0<=vs)&&decide (vs<=4096))=true:=by revert g;cases (decide (0<=vs)&&decide (vs<=4096))<;>simp
  rw[g,show wiB b 0 vs=true by simpa using p,show wiB d 0 vs=true by simpa using m,show XU b=true by simpa using r];rfl
def ixCl (p:Cl->Bool):List Cl->Nat->Int
 |[],_=> -1
 |t::l,i=>if p t=true then(i:Int) else ixCl p l<|i+1
def pa (p):∀(l) (i),decide (ixCl p l i>=0)=l.any p
 |[],_=>rfl
 |t::l,i=>by
  rw[ixCl,SY];split;next h=>rw[h];simp
  next h=>rw[pa p l,show p t=false by simpa using h,Gh]
def lr (a c b):getD (CLs<|a++c::b) (toNat a.length) []=FL c:=by rw[(za:toNat a.length=a.length),CLs];simp[getD]
def l_ixcl (p b):∀a,(a++b).length<=B->(∀u∈b,AC EF 55 [aCl u] [] (cb<|p u) [])->RPt EF 88 0 (ci<|ixCl p b a.length) [] 1 ⟨[(0,aCls<|a++b),(1,.c<|.fn (.func 55) [] []),(7,ci (a++b).length),(8,ci a.length)],[],0⟩:=by
 induction b with
 |nil=>intro a d _;refine rpv (Wa ..) ?_;exact bF zb<|xB rfl
 |cons t b e=>
  intro a d ih;have i:=ih t ET;have g:=e (a++[t]) (zl d) λu j=>ih u<|EP _ j;rw[ap,nx,show(a++[t]).length=a.length+1 by simp] at g;rw[ixCl];simp[EJ,EH,B] at d;have f:a.length<((a++t::b).length:Int):=by simp[EJ,EH];omega
  refine rpv (Wa ..) ?_;rw[w64 za za,lr];refine bT f ⟨⟨rfl,za,by rw[yd];exact f,rfl⟩,p t,i,zm (λh=>?_) λh=>?_⟩
  .rw[EL h];exact xB rfl
  .rw[EG<|by rw[h];simp];exact g
def not_any (p)(l:List Cl):(!l.any λc=> !p c)=l.all p:=by induction l with|nil=>rfl|cons t l ih=>rw[SY,G0,<-ih];cases p t<;>simp
def bU (n)(j:n<=1000000000)(d goal b)(e:TB n goal)(r:d.length<=B)(m:∀c∈d,TB n c.2.1/\TB n c.2.2):AC EF 30 [aCls d,aT goal,ci b] [] (cb<|vI n d goal b) []:=by
 have v:=ak b;have c3:=XJ goal b 0 e.sz e.bd;have u:=l_ixcl (λc=> !clB n c) d [] r λc i=>E8 n j c (m c i).1 (m c i).2;have p:AC EF 88 [aCls d,.c<|.fn (.func 55) [] []] [] (ci<|ixCl (λc=> !clB n c) d 0) []:=by refine acv (v88_F55 ..) ?_;rw[yd];exact⟨rfl,u⟩
 have o:AC EF 54 [aCls d,.c<|.fn (.func 55) [] []] [] (cb<|d.any λc=> !clB n c) []:=by refine acv (v54_F55 ..) ?_;exact⟨_,p,zy<|pa _ d 0⟩
 refine acv (v30 ..) ?_;unfold vI;rw[<-not_any];refine⟨_,v,zm (λq=>zy ?_) λg=>⟨_,c3,zm (λq=>zy ?_) λh=>⟨_,tw n j goal e.2.2.2<|e.tg ?_,zm (λq=>zy ?_) λf=>⟨_,o,zy ?_⟩⟩⟩⟩
 .have q:(decide (0<=b)&&decide (b<=4096))=false:=by revert q;cases (decide (0<=b)&&decide (b<=4096))<;>simp
  rw[q];rfl
 .rw[show wiB goal b 0=false by simpa using q,Sx,Sz]
 .have:wiB goal b 0=true:=zl h;unfold wiB at this;exact(Bool.and_eq_true_iff.1 this).1
 .have q:(zE false n goal==0)=false:=zl q;rw[q,Sx,Sz,Sz]
 .have g:(decide (0<=b)&&decide (b<=4096))=true:=by revert g;cases (decide (0<=b)&&decide (b<=4096))<;>simp
  have f:(zE false n goal==0)=true:=zl f;rw[g,show wiB goal b 0=true by simpa using h,f];rfl
def bn (t d b):wiB t d b=true↔zt t=true/\unF d t=true/\ji t 0<=b:=by unfold wiB;rw[EN,EN,decide_eq_true_iff,(loose_R t).1]
def clB_iff (n c):clB n c=true↔(0<=c.1/\c.1<=4096)/\(zt c.2.1=true/\unF 0 c.2.1=true/\ji c.2.1 0<=c.1)/\(zt c.2.2=true/\unF 0 c.2.2=true/\ji c.2.2 0<=c.1)/\((zo c.2.1).1.k=0/\logB (zo c.2.1).1.s=false)/\zE false n c.2.2=0:=by unfold clB;rw[EN,EN,EN,EN,EN,decide_eq_true_iff,decide_eq_true_iff,bn,bn,XU,EN,Sw,Sw,SK]
abbrev vN4 (v:Int):Tm:=.mk 4 [] v []
def yU (vs:List Int)(u:Tm)(d:Int):=if (u.k==3)=true/\d<=u.n then(if u.n<d+vs.length then vN4 (vs.getD (toNat<|vs.length-1-(u.n-d)) 0) else .mk 3 [] (u.n-vs.length) []) else u
def yA (vs:List Int)(t:Tm):=zQ (yU vs) t 0
def Yw (vs u d)(b:u.k≠6):(yU vs u d).k≠6:=by
 unfold yU;split
 .split<;>(intro h;cases h)
 .exact b
def lB (vs){n d}(h:d<=n):yU vs (.mk 3 [] n []) d=if n<d+vs.length then vN4 (vs.getD (toNat<|vs.length-1-(n-d)) 0) else .mk 3 [] (n-vs.length) []:=by unfold yU;exact EL ⟨rfl,h⟩
def op_leaf (vs v u d)(m:u.k=3->u.s=[]/\u.l=[])(r:u.k≠5)(w:u.k≠6):zQ (yU vs) (xD 0 (vN4 v) u d) d=yU (vs++[v]) u d:=by
 let ⟨k,s,n,l⟩:=u;simp[Tm.k,Tm.s,Tm.l] at m r w;have b:∀(f) h j l',f≠5->f≠6->zQ _ _ d=yU vs (.mk f h j l') d:=λf h j l' y z=>vh _ _ _ _ _ _ (by simp[y,z]);rw[kR];by_cases x:k=3
 .subst x;obtain⟨rfl,rfl⟩:=m rfl;have c3:((Tm.mk 3 [] n []).k==3)=true:=rfl;rw[EL c3];show zQ (yU vs) (if n<d+0 then _ else if (n==d+0)=true then _ else _) d=_;by_cases o:n<d+0
  .rw[EL o,b _ _ _ _ za za];unfold yU;rw[EG (λe=>by have:d<=n:=e.2;omega),EG (λe=>by have:d<=n:=e.2;omega)]
  .rw[EG o];by_cases g:(n==d+0)=true
   .have i:n=d+0:=zl g;rw[EL g,b _ _ _ _ za za];unfold yU;rw[EG (λe=>by cases e.1),EL ⟨c3,by show d<=n;omega⟩];show _=if n<d+((vs++[v]).length) then _ else _
    rw[EL<|by rw[EJ];simp[EH,EY];omega];show vN4 v=vN4 ((vs++[v]).getD (toNat<|((vs++[v]).length)-1-(n-d)) 0);rw[show toNat (((vs++[v]).length)-1-(n-d))=vs.length by rw[EJ];simp[EH,EY];omega];grind
   .have i:¬n=d+0:=zl g;rw[EG g];show zQ _ (.mk 3 [] (n-1) []) d=_;rw[b _ _ _ _ za za];rw[lB vs za,lB _ za];show(if n-1<d+vs.length then vN4 (vs.getD (toNat<|vs.length-1-(n-1-d)) 0) else Tm.mk 3 [] _ [])=if n<d+((vs++[v]).length) then vN4 ((vs++[v]).getD (toNat<|((vs++[v]).length)-1-(n-d)) 0) else Tm.mk 3 [] _ []
    have C:((vs++[v]).length:Int)=vs.length+1:=zb;rw[C];grind
 .have c3:((Tm.mk k s n l).k==3)=false:=by simpa[Tm.k] using x
  rw[EG<|by rw[c3];simp,b _ _ _ _ r w];unfold yU;grind
mutual
def bare3:Tm->Prop
 |.mk k s _ l=>(k=3->s=[]/\l=[])/\gh l
def gh:List Tm->Prop
 |[]=>True
 |t::l=>bare3 t/\gh l
end
mutual
def Z3:∀t:Tm,zt t=true->bare3 t
 |.mk k s n l,h=>by
  refine⟨λe=>?_,?_⟩
  .subst e;exact⟨(Zp.1 h).2.2.1,(Zp.1 h).2.2.2⟩
  .by_cases h56:k=5\/k=6
   .exact YJ l λu hu=>wS h h56 u hu
   .have:l=[]:=okB0 (zW _ h) (λe=>h56<|.inl e) λe=>h56<|.inr e;subst this;trivial
def YJ:∀l:List Tm,(∀u∈l,zt u=true)->gh l
 |[],_=>trivial
 |t::l,h=>⟨Z3 t<|h t ET,YJ l λu hu=>h u<|EP _ hu⟩
end
mutual
def rS (vs:List Int)(v:Int):∀(t:Tm) (d:Int),bare3 t->zQ (yU vs) (zQ (xD 0<|vN4 v) t d) d=zQ (yU<|vs++[v]) t d
 |.mk k s n l,d,h=>by
  by_cases hk:(k==5||k==6)=true
  .rw[xV _ (λu d _ h6=>cO 0 v u d h6) k s n l d hk,xV _ (λu d _ h6=>Yw vs u d h6) _ _ _ _ _ hk,xV _ (λu d _ h6=>Yw (vs++[v]) u d h6) _ _ _ _ _ hk,li vs v l _ h.2]
  .have h5:k≠5:=λe=>hk (by rw[e];rfl);have h6:k≠6:=λe=>hk (by rw[e];rfl);rw[vh _ k s n l d<|zl hk,vh _ k s n l d<|zl hk];exact op_leaf vs v _ d h.1 h5 h6
def li (vs:List Int)(v:Int):∀(l:List Tm) (d:Int),gh l->zK (yU vs) (zK (xD 0<|vN4 v) l d) d=zK (yU<|vs++[v]) l d
 |[],_,_=>rfl
 |t::l,d,h=>by rw[zK,zK,zK,rS vs v t d h.1,li vs v l d h.2]
end
def KH (vs v t)(b:zt t=true):yA vs (suT 0 (vN4 v) t 0)=yA (vs++[v]) t:=rS vs v t 0<|Z3 t b
mutual
def tm:∀(t:Tm) (d:Int),bare3 t->zQ (yU []) t d=t
 |.mk k s n l,d,h=>by
  by_cases hk:(k==5||k==6)=true
  .rw[xV _ (λu d _ h6=>Yw [] u d h6) k s n l d hk,aw l _ h.2]
  .rw[vh _ k s n l d<|zl hk];unfold yU;split
   .rename_i h3;have h3k:k=3:=by simpa[Tm.k] using h3.1
    subst h3k;obtain⟨rfl,rfl⟩:=h.1 rfl;have:d<=n:=h3.2;exact(EG (show¬n<d+(([]:List Int).length:Int) by simp only[EY];omega)).trans (by rw[show(Tm.mk 3 [] n []).n-(([]:List Int).length:Int)=n by show n-((0:Nat):Int)=n;omega])
   .rfl
def aw:∀(l:List Tm) (d:Int),gh l->zK (yU []) l d=l
 |[],_,_=>rfl
 |t::l,d,h=>by rw[zK,tm t d h.1,aw l d h.2]
end
def az (t)(b:zt t=true):yA [] t=t:=tm t 0<|Z3 t b
def valid4 {s n l}:zt (.mk 4 s n l)=true↔0<=n/\n<=4611686018427387904/\s=[]/\l=[]:=by
 rw[zt,lenI];simp only[show((4:Int)==0)=false from rfl,show((4:Int)==1)=false from rfl,show((4:Int)==2)=false from rfl,show((4:Int)==3)=false from rfl,S5,Sj,show((4:Int)==4)=true from rfl,S9];simp only[EN,Sf,Sw];constructor
 .simp_all
 .rintro ⟨d,b,e,rfl⟩;exact⟨⟨⟨⟨d,b⟩,e⟩,rfl⟩,rfl⟩
def VR (vs:List Int):Prop:=vs.length<=1000000/\∀v∈vs,0<=v/\v<=4611686018427387904
def fq {v}(d:0<=v)(b:v<=4611686018427387904):zt (vN4 v)=true:=valid4.2 ⟨d,b,rfl,rfl⟩
def fi (M v):bd M (vN4 v):=⟨λe=>absurd e zb,trivial⟩
def gM {M v:Int}{t}(b:zt t=true)(e:0<=v)(f:v<=4611686018427387904)(g:t.sz<=1000000):zt (suT 0 (vN4 v) t 0)=true:=by have d:=fq e f;rw[wz,EN];exact⟨suT_ok 0 (zW _ d)<|zW _ b,suT_lv (M:=0) (D:=t.sz) (EQ 0) za (fi 0 v) (ul d) (ul b) 0 (EQ 0) za⟩
def suV_sz (v t):(suT 0 (vN4 v) t 0).sz<=t.sz:=by have:=rc (b:=λ_ _=>1) (λ_=>EI _) 0 v t 0;rw[KW,KW] at this;exact this
def suV_bd {M v t}(d:t.sz<=M)(b:bd M t):bd M (suT 0 (vN4 v) t 0):=
 suT_bd (M':=0) (D:=t.sz) _ t 0 b (fi 0 v) za (EQ 0) za (EQ 0) za
abbrev byV (vs:List Int):=vs.map vN4
def c_backT (l):AC EF 126 [aL l] [] (.c<|.fn (.func 168) [] [(false,[.ep 0 1 0 0])]) [.arr 1 [[qf<|.sl false 4<|FTs l]]]:=by refine acv (v126 ..) ?_;exact rrl
def isBkT:IsBk EF 168 24 26:=⟨zg,_,265,3,4,Tryz.func168,zg,zg,zg⟩
def bTyT:r8 EF 24 26 4=true:=zg
abbrev hpOp (vs:List Int)(t:Tm):AHeap:=[(0,.arr 1 [[qf<|.sl false 4<|FTs<|byV vs]]),(1,.arr 4 [cT t]),(2,.arr 4 [[qi 0,qf<|.str [],qi 0,qf .N]]),(3,.arr 1 [[qf<|.sl false 4<|FTs<|byV vs]])]
def bH (vs)(w:VR vs)(t)(G:zt t=true)(D:t.sz<=1000000)(E:bd 1000000000000 t):AC EF 125 [aT t,.c<|.a<|.ep 0 1 0 0] [.arr 1 [[qf<|.sl false 4<|FTs<|byV vs]]] (aT<|yA vs t) [.arr 1 [[qf<|.sl false 4<|FTs<|byV vs]]]:=by
 refine acv (v125 t.k t.s t.n (FTs t.l) ..) ?_;refine⟨byV vs,c_backT<|byV vs,?_⟩;have b:(byV vs).length=vs.length:=zb;have J:=w.1
 refine RPt.backF (sh:=sh) (lv:=lv125) (α:=Nat×Tm) (Inv:=λx=>x.1<=vs.length/\zt x.2=true/\x.2.sz<=1000000/\bd 1000000000000 x.2/\yA (vs.take x.1) x.2=yA vs t) (idx:=λx=>x.1) (nx:=λ_=>4) (m0:=4) (U:=[]) (live:=[2,3,7]) (oc:=3) (n:=4) (es:=FTs<|byV vs) (x0:=(vs.length,t)) (g:=.tmp 7) (env:=[(2,.c<|.a<|.ep 1 4 0 0),(3,.c<|.a<|.ep 2 4 0 0),(7,.c<|.fn (.func 168) [] [(false,[.ep 3 1 0 0])])])
  (H:=λx=>hpOp vs x.2) hP zg isBkT bTyT ?_ zb zg zg zb (λ_ _=>za) (λ_ _=>rfl) (λe z=>?_) (by rw[zn,b];omega) (λx j=>by rw[zn,b];exact j.1) (λx k j o K=>?_) ⟨EI _,G,D,E,zb⟩ (by rw[zn,b]) λx j r=>?_
 .refine Eq.mpr (v125_1an ..) ?_;rfl
 .rw[yZ] at z;obtain⟨u,_,rfl⟩:=SG.1 z;exact xO u
 .let ⟨i,u⟩:=x;subst o;let ⟨A,h,y,p,f⟩:=j;simp at A h y p f;have d:k<vs.length:=za;have m:=w.2 vs[k]<|F4 d;have C:getD (FTs<|byV vs) k []=FT (vN4 vs[k]):=by rw[yZ];simp[byV,getD,d]
  rw[C];refine Eq.mpr (tZ ..) ?_;refine⟨vN4 vs[k],(Yk (vN4 vs[k]) 0 k (by show 1<=B;simp only[B];omega) (fi _ _) za zb za zd),suT 0 (vN4 vs[k]) u 0,(Ei u (vN4 vs[k]) 0 (by show 1<=B;simp only[B];omega) (by show u.sz+nd u*1<=B;have:=nd_sz u;simp[B];omega) (vD zd _ p) (fi _ _) za zb),(k,suT 0 (vN4 vs[k]) u 0),⟨⟨by show k<=vs.length;omega,gM (M:=0) h m.1 m.2 y,by have:=suV_sz vs[k] u;show(suT 0 (vN4 vs[k]) u 0).sz<=_;omega,suV_bd za p,?_⟩,rfl⟩,rfl,rfl⟩;show yA (vs.take k) (suT 0 (vN4 vs[k]) u 0)=_;rw[KH _ _ _ h,<-f,GD d]
 .let ⟨i,u⟩:=x;subst r;let ⟨_,h,_,_,f⟩:=j;simp[List.take_zero] at f h;refine Eq.mpr (Eh ..) ?_;rw[az u h] at f;rw[<-f];exact rrl
def w6 (u:Tm)(d:Int):=if u.k=4\/u.k=3/\d<=u.n then .mk 4 [] 0 [] else u
def erT (t:Tm)(d:Int):=zQ w6 t d
def erL (l:List Tm)(d:Int):=zK w6 l d
abbrev frB (t:Tm)(d:Int):=t.k=4\/t.k=3/\d<=t.n
def nG (u d)(b:u.k≠6):(w6 u d).k≠6:=by
 unfold w6;split
 .intro h;cases h
 .exact b
def jx {t}(d)(b:t.k=5\/t.k=6):erT t d=.mk t.k t.s t.n (erL t.l<|d+if (t.k==5)=true then 1 else 0):=by let ⟨k,s,n,l⟩:=t;exact xV _ (λu d _ f=>nG u d f) k s n l d (by rcases b with e|e<;>rw[show k=_ from e]<;>rfl)
def qj {k}(s n l d)(b:k=5\/k=6):erT (.mk k s n l) d=.mk k s n (erL l<|d+if (k==5)=true then 1 else 0):=jx (t:=.mk k s n l) d b
def vR {t}(d)(b:¬(t.k=5\/t.k=6)):erT t d=w6 t d:=by let ⟨k,s,n,l⟩:=t;exact vh _ k s n l d (by have f:¬k=5:=λe=>b (.inl e);have g:¬k=6:=λe=>b (.inr e);simp[f,g])
def vJ (t l d):erL (t::l) d=erT t d::erL l d:=rfl
def X4 {u d}(h:frB u d):w6 u d=.mk 4 [] 0 []:=EL h
def jW {u d}(h:¬frB u d):w6 u d=u:=EG h
def aZ (u d)(f:¬(u.k=5\/u.k=6)):¬((w6 u d).k=5\/(w6 u d).k=6):=by
 by_cases b:frB u d
 .rw[X4 b];rintro (e|e)<;>cases e
 .rw[jW b];exact f
def XF {t b d}(h:erT t d=erT b d):
  (t.k=5\/t.k=6)/\b.k=t.k/\b.s=t.s/\b.n=t.n/\erL t.l (d+if (t.k==5)=true then 1 else 0)=erL b.l (d+if (t.k==5)=true then 1 else 0)\/¬(t.k=5\/t.k=6)/\frB t d/\frB b d\/¬(t.k=5\/t.k=6)/\¬frB t d/\¬frB b d/\b=t:=by
 by_cases g:t.k=5\/t.k=6
 .rw[jx d g] at h;by_cases e:b.k=5\/b.k=6
  .rw[jx d e] at h;injection h with j p m o
   simp_all
  .rw[vR d e] at h;exact absurd (by rw[<-h];exact g)<|aZ b d e
 .rw[vR d g] at h;by_cases e:b.k=5\/b.k=6
  .rw[jx d e] at h;exact absurd (by rw[h];exact e)<|aZ t d g
  .rw[vR d e] at h;by_cases i:frB t d
   .rw[X4 i] at h;refine .inr<|.inl ⟨g,i,?_⟩;by_cases f:frB b d
    .exact f
    .rw[jW f] at h;exact absurd (.inl<|by rw[<-h];rfl) f
   .rw[jW i] at h;by_cases f:frB b d
    .rw[X4 f] at h;exact absurd (.inl<|by rw[h];rfl) i
    .rw[jW f] at h;exact .inr<|.inr ⟨g,i,f,h.symm⟩
def jw {a l l' d}(h:erL (a::l) d=erL l' d):∃a' r,l'=a'::r/\erT a d=erT a' d/\erL l d=erL r d:=by
 match l',h with
 |[],h=>cases h
 |a'::r,h=>injection h with b e;exact⟨a',r,rfl,b,e⟩
def YN {l' d}(h:erL [] d=erL l' d):l'=[]:=by
 match l',h with
 |[],h=>rfl
 |a'::r,h=>cases h
def lO {l l' d}(h:erL l d=erL l' d):l.length=l'.length:=by
 induction l generalizing l' with
 |nil=>rw[YN h]
 |cons a l ih=>obtain⟨e,r,rfl,_,b⟩:=jw h;rw[EH,EH,ih b]
def pp {t g:Tm}{d:Int}(h:erT t d=erT g d)(o:zt t=true)(j:zt g=true):erT (zo t).1 d=erT (zo g).1 d/\erL (zo t).2 d=erL (zo g).2 d:=by
 unfold zo;rcases XF h with⟨m,f,_,_,i⟩|⟨m,_,w⟩|⟨m,_,_,rfl⟩
 .by_cases b:t.k=6
  .rw[EL ⟨b,o⟩,EL ⟨f.trans b,j⟩];obtain⟨k,s,n,l⟩:=t;obtain⟨v,z,A,l'⟩:=g;have b:k=6:=b;subst b;have f:v=6:=f;subst f;obtain⟨x,y,r,rfl,_,_⟩:=okB6 (zW _ o) rfl;have i:erL (x::y::r) (d+0)=erL l' (d+0):=i;rw[Int.add_zero] at i;obtain⟨C,r',rfl,u,p⟩:=jw i;exact⟨u,p⟩
  .rw[EG λq=>b q.1,EG λq=>b<|f▸q.1];exact⟨h,rfl⟩
 .rw[EG λq=>m<|.inr q.1,EG λq=>by rcases w with e|e<;>omega];exact⟨h,rfl⟩
 .exact⟨rfl,rfl⟩
def rN:∀(l l') (m) (k),erL l k=erL l' k->ZY m l k=ZY m l' k
 |[],l',m,k,h=>by rw[YN h]
 |t::l,l',m,k,h=>by
  obtain⟨e,r,rfl,j,o⟩:=jw h;rw[ZY,ZY];rcases XF j with⟨g,i,_⟩|⟨g,f,d⟩|⟨g,f,d,rfl⟩
  .grind
  .grind
  .rw[rN l r _ k o]
def all_er (p):∀(l l') (k),erL l k=erL l' k->(∀u∈l,∀b∈l',erT u k=erT b k->p u=p b)->l.all p=l'.all p
 |[],l',k,h,_=>by rw[YN h]
 |t::l,l',k,h,q=>by obtain⟨i,r,rfl,e,g⟩:=jw h;rw[G0,G0,q t zb i zb e,all_er p l r k g λu f b d=>q u (EP _ f) b<|EP _ d]
def AZ {n t k}(b:¬t.k=5):patG (n+1) t k=if (zo t).1.k=5 then false else if frB (zo t).1 k then ZY [] (zo t).2 k else(zo t).2.all λu=>patG n u k:=by rw[patG,EG b]
def rB:∀(n) (t f) (k),erT t k=erT f k->zt t=true->zt f=true->patG n t k=patG n f k
 |0,_,_,_,_,_,_=>rfl
 |n+1,t,f,k,h,z,i=>by
  have v:=pp h z i
  have D:¬t.k=5->¬f.k=5->patG _ t k=patG _ f k:=λH p=>by
   rw[AZ H,AZ p];have C:=all_er (λu=>patG n u k) _ _ k v.2 λu G F y e=>rB n u F k e (zR G)<|zR y;rcases XF v.1 with⟨j,g,_⟩|⟨j,o,b⟩|⟨j,o,b,e⟩
   .have A:¬frB (zo t).1 k:=λq=>by rcases q with q|q<;>omega
    have r:¬frB (zo f).1 k:=λq=>za;rw[EG A,EG r,C];by_cases d:(zo t).1.k=5
    .grind
    .rw[EG d,EG λq=>d<|g.symm.trans q]
   .have A:=λq=>j<|.inl q;have r:¬(zo f).1.k=5:=λq=>za;rw[EG A,EG r,EL o,EL b,(rN _ _ [] k v.2)]
   .grind
  rcases XF h with⟨j,g,_,_,M⟩|⟨j,o,b⟩|⟨j,o,b,rfl⟩
  .by_cases d:t.k=5
   .rw[patG,patG,EL d,EL<|g.trans d];let ⟨J,s,m,l⟩:=t;let ⟨K,N,T,l'⟩:=f;subst d;subst g;obtain⟨x,rfl,_⟩:=okB5 (zW _ z) rfl;obtain⟨E,rfl,_⟩:=okB5 (zW _ i) rfl;let ⟨S,r',e,I,O⟩:=jw M;injection e with L U
    subst L;exact rB n x E (k+1) I (wS z (.inl rfl) x zb)<|wS i (.inl rfl) E zb
   .grind
  .grind
  .rfl
mutual
def er_er:∀(t:Tm) (d e:Int),d<=e->erT (erT t e) d=erT t d
 |.mk k s n l,d,e,h=>by
  by_cases hk:k=5\/k=6
  .rw[qj s n l e hk,qj s n l d hk,qj s n _ d hk,er_ers l _ _ za]
  .rw[vR (t:=.mk k s n l) e hk,vR (t:=.mk k s n l) d hk];unfold w6;by_cases hf:frB (.mk k s n l) e
   .rw[EL hf,vR _<|by rintro (e|e)<;>cases e];have:frB (.mk k s n l) d:=hf.imp id (λq=>⟨q.1,by have:=q.2;omega⟩);rw[EL this];rfl
   .rw[EG hf,vR (t:=.mk k s n l) _ hk];rfl
def er_ers:∀(l:List Tm) (d e:Int),d<=e->erL (erL l e) d=erL l d
 |[],_,_,_=>rfl
 |t::l,d,e,h=>by rw[vJ,vJ,vJ,er_er t d e h,er_ers l d e h]
end
mutual
def WW (lf:Tm->Int->Tm)(h6:∀u d,u.k≠5->u.k≠6->(lf u d).k≠6)(hl:∀u d,¬(u.k=5\/u.k=6)->¬((lf u d).k=5\/(lf u d).k=6)/\w6 (lf u d) d=w6 u d):∀(t:Tm) (d:Int),erT (zQ lf t d) d=erT t d
 |.mk k s n l,d=>by
  by_cases hk:k=5\/k=6
  .have hk2:(k==5||k==6)=true:=by rcases hk with e|e<;>rw[e]<;>rfl
   rw[xV lf h6 k s n l d hk2,qj s n _ d hk,qj s n l d hk,pk lf h6 hl l _]
  .have hk2:(k==5||k==6)=false:=by have h5:¬k=5:=λe=>hk<|.inl e;have h6:¬k=6:=λe=>hk<|.inr e;simp[h5,h6]
   have:=hl (.mk k s n l) d hk;rw[vh lf k s n l d hk2,vR _ this.1,vR (t:=.mk k s n l) _ hk,this.2]
def pk (lf:Tm->Int->Tm)(h6:∀u d,u.k≠5->u.k≠6->(lf u d).k≠6)(hl:∀u d,¬(u.k=5\/u.k=6)->¬((lf u d).k=5\/(lf u d).k=6)/\w6 (lf u d) d=w6 u d):∀(l:List Tm) (d:Int),erL (zK lf l d) d=erL l d
 |[],_=>rfl
 |t::l,d=>by rw[zK,vJ,vJ,WW lf h6 hl t d,pk lf h6 hl l d]
end
def er_sh (t d):erT (shT 0 1 t d) d=erT t d:=by
 refine WW _ (λu d _ e=>El 0 1 u d e) (λu d f=>⟨by rw[pn];exact f,?_⟩) t d;unfold yM;split
 .rename_i h;have b:u.k=3:=zd;unfold w6;rw[EL<|.inr ⟨b,by show d<=u.n+1;omega⟩,EL<|.inr ⟨b,za⟩]
 .rfl
def er_suV (v t d):erT (suT 0 (.mk 4 [] v []) t d) d=erT t d:=by
 refine WW _ (λu d _ j=>cO 0 v u d j) (λu d g=>?_) t d;rw[kR];by_cases f:(u.k==3)=true
 .have b:u.k=3:=zl f;rw[EL f];by_cases h:u.n<d+0
  .grind
  .rw[EG h];split
   .refine⟨(by rintro (e|e)<;>cases e),?_⟩;unfold w6;rw[EL<|.inl rfl,EL<|.inr ⟨b,za⟩]
   .rename_i i;have i:¬u.n=d+0:=zl i;refine⟨g,?_⟩;unfold w6;rw[EL<|.inr ⟨b,by show d<=u.n-1;omega⟩,EL<|.inr ⟨b,za⟩]
 .grind
def er_open (vs t):erT (yA vs t) 0=erT t 0:=by
 refine WW _ (λu d _ f=>Yw vs u d f) (λu d g=>?_) t 0;unfold yU;split
 .rename_i h;have b:u.k=3:=zd;split
  .refine⟨(by rintro (e|e)<;>cases e),?_⟩;unfold w6;rw[EL<|.inl rfl,EL<|.inr ⟨b,h.2⟩]
  next i=>refine⟨(by rintro (e|e)<;>cases e),?_⟩;unfold w6;rw[EL<|.inr ⟨rfl,by show d<=u.n-vs.length;omega⟩,EL<|.inr ⟨b,h.2⟩]
 .grind
def WB:∀(l m) (d),erL (l++m) d=erL l d++erL m d
 |[],_,_=>rfl
 |t::l,m,d=>by rw[SE,vJ,vJ,WB l m d];rfl
def am (f x d):erT (zH f [x]) d=zH (erT f d) [erT x d]:=by
 show erT (if (f.k==6)=true/\f.l≠[] then .mk 6 [] 0 (f.l++[x]) else .mk 6 [] 0 [f,x]) d=if ((erT f d).k==6)=true/\(erT f d).l≠[] then .mk 6 [] 0 _ else .mk 6 [] 0 [erT f d,erT x d]
 have e0:∀l,erT (.mk 6 [] 0 l) d=.mk 6 [] 0 (erL l d):=λl=>by rw[jx d<|.inr rfl];show Tm.mk 6 [] 0 (erL l<|d+0)=_;grind
 by_cases b:f.k=6
 .have h:=jx d<|.inr b;rw[show(d+if (f.k==5)=true then 1 else 0)=d by rw[b];exact Int.add_zero d] at h;rw[h,b];by_cases g:f.l=[]
  .rw[g,EG zb,EG<|by simp[erL,zK,Tm.l],e0,vJ,h,g,b];rfl
  .have j:erL f.l d≠[]:=λe=>g<|YN (l':=f.l) (d:=d)<|by rw[e];rfl
   rw[EL ⟨rfl,g⟩,EL ⟨rfl,j⟩,e0,WB];rfl
 .have i:¬(erT f d).k=6:=by
   by_cases m:f.k=5
   .rw[jx d<|.inl m];show¬f.k=6;omega
   .rw[vR d za];exact nG f d b
  rw[EG<|by simp[b],EG<|by simp[i],e0];rfl
def Em {t g}(h:erT t 0=erT g 0)(r:zt t=true)(m:zt g=true):erT (y8 t) 0=erT (y8 g) 0:=by
 have d:g.k=5↔t.k=5:=by
  rcases XF h with⟨_,f,_⟩|⟨i,_,j⟩|⟨_,_,_,rfl⟩
  .rw[f]
  .omega
  .rfl
 unfold y8;by_cases b:t.k=5
 .rw[EL b,EL<|d.2 b];rcases XF h with⟨_,f,_,_,w⟩|⟨i,_⟩|⟨i,_⟩
  .let ⟨k,s,n,l⟩:=t;let ⟨u,y,z,l'⟩:=g;subst b;subst f;obtain⟨x,rfl,_⟩:=okB5 (zW _ r) rfl;obtain⟨p,rfl,_⟩:=okB5 (zW _ m) rfl;let ⟨A,r',e,o,_⟩:=jw w;injection e with v C
   subst v;have o:erT x 1=erT p 1:=o;show erT x 0=erT p 0;rw[<-er_er x 0 1 za,o,er_er p 0 1 za]
  .omega
  .omega
 .rw[EG b,EG λq=>b<|d.1 q,am,am,er_sh,er_sh,h]
def bK {t b}(flex)(h:erT t 0=erT b 0)(m:zt t=true)(g:zt b=true):(zp t flex).1=(zp b flex).1/\(zp t flex).2.2=(zp b flex).2.2/\erL (zp t flex).2.1 0=erL (zp b flex).2.1 0:=by
 have f:=pp h m g;rcases XF f.1 with⟨j,o,_⟩|⟨j,i,d⟩|⟨j,i,d,e⟩
 .rw[sh_0 (t:=t) flex za za za,sh_0 (t:=b) flex za za za];grind
 .rw[sh_43 (t:=t) flex za,sh_43 (t:=b) flex za];grind
 .unfold zp;rw[e,lO f.2];grind
def er_two {a c b e d}(h:erL [a,c] d=erL [b,e] d):erT a d=erT b d/\erT c d=erT e d:=by
 injection h with g f
 injection f with i _
 exact⟨g,i⟩
def er_one {a b d}(h:erL [a] d=erL [b] d):erT a d=erT b d:=by injection h with e _
def any_er (p q):∀(l l') (k),erL l k=erL l' k->(∀u∈l,∀b∈l',erT u k=erT b k->p u=q b)->l.any p=l'.any q
 |[],l',k,h,_=>by rw[YN h];rfl
 |t::l,l',k,h,w=>by obtain⟨f,r,rfl,i,e⟩:=jw h;rw[SY,SY,w t zb f zb i,any_er p q l r k e λu g b d=>w u (EP _ g) b<|EP _ d]
def cV {t flex}(d:flex≠0)(h:(zp t flex).2.2=0):(zp t flex).2.1=(zo t).2/\(zo t).1.k=0:=by
 obtain⟨b,⟨_,_,q⟩|⟨_,_,q,_⟩⟩:=kQ d h
 .grind
 .grind
def Yh (w):∀n,n<=1000000000->(∀t x,TG n t->TG n x->erT t 0=erT x 0->zE w n t=zE w n x)/\
  ∀(j) (vs D) (L L') (t x),TG n t->TG n x->erT t 0=erT x 0->(clsF w n j vs L t).1=(clsF w n j D L' x).1
 |0,_=>⟨λ_ _ _ _ _=>rfl,λ_ _ _ _ _ _ _ _ _ _=>rfl⟩
 |n+1,hn=>by
  let ⟨E,F⟩:=Yh w n za;refine⟨λt x S A h=>?_,λj vs D L L' t x S A h=>?_⟩
  .let ⟨T,W,I⟩:=bK 133 h S.1 A.1;rw[zE,zE,<-T,<-W];by_cases o:(zp t 133).2.2≠0
   .rw[EL o,EL o]
   rw[EG o,EG o];have o:=Sk o;by_cases v:(zp t 133).1=nIf
   .grind
   rw[EG v,EG v];have G:∀V,∃a c b g,(zp t 133).2.1=[a,c]/\(zp x 133).2.1=[b,g]/\TG n a/\TG n b/\TG n c/\TG n g/\erT a 0=erT b 0/\erT c 0=erT g 0:=λV=>by let ⟨a,c,q,H,_⟩:=ya za o V;let ⟨b,g,r,m,_⟩:=ya (t:=x) za (W.symm.trans o) zd;rw[q,r] at I;exact⟨a,c,b,g,q,r,S.arg<|by rw[H];simp,A.arg<|by rw[m];simp,S.arg<|by rw[H];simp,A.arg<|by rw[m];simp,er_two I⟩
   by_cases d:(zp t 133).1=nAnd\/(zp t 133).1=nOr
   .rw[EL d,EL d];let ⟨a,c,b,g,q,r,O,C,N,y,K,M⟩:=G<|d.imp_right .inl;grind
   rw[EG d,EG d];by_cases f:(zp t 133).1=nImp
   .grind
   rw[EG f,EG f];by_cases i:(zp t 133).1=nPi\/(zp t 133).1=nSig
   .rw[EL i,EL i];let ⟨a,q,H,_⟩:=yT za o i;let ⟨b,r,m,_⟩:=yT (t:=x) za (W.symm.trans o) (by rw[<-T];exact i);rw[q,r] at I;rw[q,r];exact E (y8 a) (y8 b) (S.body za<|by rw[H];simp) (A.body za<|by rw[m];simp)<|Em (er_one I) (zR (t:=t)<|by rw[H];simp)<|zR (t:=x)<|by rw[m];simp
   grind
  .let ⟨T,W,I⟩:=bK 131 h S.1 A.1;rw[clsF,clsF,<-T,<-W];by_cases o:(zp t 131).2.2≠0
   .grind
   rw[EG o,EG o];have o:=Sk o;have U:=W.symm.trans o;by_cases J:(zp t 131).1=[]
   .rw[EL J,EL J];have:(zp t 131).2.1.any (λu=> !patG n u 0)=(zp x 131).2.1.any (λu=> !patG n u 0):=any_er _ _ _ _ 0 I λu Z u' X e=>by rw[(cV za o).1] at Z;rw[(cV za U).1] at X;rw[rB n u u' 0 e (zR Z)<|zR X]
    grind
   rw[EG J,EG J];have G:∀V,∃a c b g,(zp t 131).2.1=[a,c]/\(zp x 131).2.1=[b,g]/\TG n a/\TG n b/\TG n c/\TG n g/\erT a 0=erT b 0/\erT c 0=erT g 0:=λV=>by let ⟨a,c,q,H,_⟩:=ya za o V;let ⟨b,g,r,m,_⟩:=ya (t:=x) za U (by rw[<-T];exact V);rw[q,r] at I;exact⟨a,c,b,g,q,r,S.arg<|by rw[H];simp,A.arg<|by rw[m];simp,S.arg<|by rw[H];simp,A.arg<|by rw[m];simp,er_two I⟩
   by_cases d:(zp t 131).1=nAnd
   .rw[EL d,EL d];let ⟨a,c,b,g,q,r,O,C,N,y,K,M⟩:=G<|.inl d;rw[q,r];have f1:=F j vs D L L' a b O C K;by_cases z:(clsF w n j vs L a).1=0
    .rw[EG λp=>p z,EG λp=>p<|f1.symm.trans z];exact(F j vs D L L' c g N y M)
    .rw[EL (show(clsF w n j vs L<|at0 [a,c]).1≠0 from z),EL (show(clsF w n j D L'<|at0 [b,g]).1≠0 from λp=>z<|f1.trans p)];exact f1
   rw[EG d,EG d];by_cases i:(zp t 131).1=nPi
   .rw[EL i,EL i];let ⟨a,q,H,_⟩:=yT za o<|.inl i;let ⟨b,r,m,_⟩:=yT (t:=x) za U (by rw[<-T];exact .inl i);rw[q,r] at I;rw[q,r];exact F j _ _ _ _ (y8 a) (y8 b) (S.body za<|by rw[H];simp) (A.body za<|by rw[m];simp)<|Em (er_one I) (zR (t:=t)<|by rw[H];simp)<|zR (t:=x)<|by rw[m];simp
   rw[EG i,EG i];by_cases f:(zp t 131).1=nImp
   .rw[EL f,EL f];let ⟨a,c,b,g,q,r,O,C,N,y,K,M⟩:=G<|.inr<|.inr<|.inl f;rw[q,r];have f1:=E a b O C K;by_cases z:zE w n a=0
    .rw[EG λp=>p z,EG λp=>p<|f1.symm.trans z];exact(F j vs D (L++[a]) (L'++[b]) c g N y M)
    .rw[EL (show zE w n (at0 [a,c])≠0 from z),EL (show zE w n (at0 [b,g])≠0 from λp=>z<|f1.trans p)];exact f1
   rw[EG f,EG f];by_cases v:(zp t 131).1=nIf
   .rw[EL v,EL v];let ⟨a,c,b,g,q,r,O,C,N,y,K,M⟩:=G<|.inr<|.inr<|.inr v;rw[q,r];have f1:=E c g N y M;by_cases z:zE w n c=0
    .rw[EG λp=>p z,EG λp=>p<|f1.symm.trans z];exact(F j vs D (L++[c]) (L'++[g]) a b O C K)
    .rw[EL (show zE w n (at1 [a,c])≠0 from z),EL (show zE w n (at1 [b,g])≠0 from λp=>z<|f1.trans p)];exact f1
   rw[EG v,EG v]
def xm (t):1<=wt t:=by have:=Yp t;have:=t.sz_pos;omega
def Y5:∀(n) (t) (k),t.sz<=n->zt t=true->patG (n+1) t k=patG n t k
 |0,t,k,h,_=>by have:=t.sz_pos;omega
 |n+1,t,k,h,e=>by
  conv=>lhs;rw[patG]
  conv=>rhs;rw[patG]
  by_cases d:t.k=5
  .rw[EL d,EL d];let ⟨f,s,m,l⟩:=t;subst d;obtain⟨x,rfl,_⟩:=okB5 (zW _ e) rfl;exact Y5 n x _ (by simp[Tm.sz,Tm.szs] at h;omega)<|wS e (.inl rfl) x zb
  .rw[EG d,EG d];have:(zo t).2.all (λu=>patG (n+1) u k)=(zo t).2.all λu=>patG n u k:=by rw[Gp,Sc,Sc];exact⟨λq u b=>by rw[<-Y5 n u k (by have:=Zx b;omega)<|zR b];exact q u b,λq u b=>by rw[Y5 n u k (by have:=Zx b;omega)<|zR b];exact q u b⟩
   rw[this]
def Yi (w:Bool):∀n:Nat,n<=1000000000->(∀t:Tm,wt t<=n->TG n t->zE w (n+1) t=zE w n t)/\(∀(b:Bool) (vs:Int) (L:List Tm) (t:Tm),wt t<=n->TG n t->clsF w (n+1) b vs L t=clsF w n b vs L t)
 |0,_=>⟨λt h=>by have:=xm t;omega,λ_ _ _ t h=>by have:=xm t;omega⟩
 |n+1,J=>by
  obtain⟨m,o⟩:=Yi w n za;refine⟨λt I F=>?_,λb vs L t I F=>?_⟩
  .conv=>lhs;rw[zE]
   conv=>rhs;rw[zE]
   by_cases j:(zp t 133).2.2≠0
   .rw[EL j,EL j]
   rw[EG j,EG j];have j:(zp t 133).2.2=0:=Sk j
   have r:∀(G:(zp t 133).1=nAnd\/(zp t 133).1=nOr\/(zp t 133).1=nImp\/(zp t 133).1=nIf),∃a c,(zp t 133).2.1=[a,c]/\TG n a/\TG n c/\wt a<=n/\wt c<=n:=λG=>by
    obtain⟨a,c,q,D,v⟩:=ya za j G;have p:a∈(zo t).2:=by rw[D];simp
    have H:c∈(zo t).2:=by rw[D];simp
    exact⟨a,c,q,F.arg p,F.arg H,by have:=vA p v;omega,by have:=vA H v;omega⟩
   by_cases i:(zp t 133).1=nIf
   .rw[EL i,EL i]
   rw[EG i,EG i];by_cases d:(zp t 133).1=nAnd\/(zp t 133).1=nOr
   .rw[EL d,EL d];obtain⟨a,c,q,C,A,x,z⟩:=r<|d.imp_right .inl;rw[q];show(if zE w (n+1) a≠0 then zE w (n+1) a else zE w (n+1) c)=if zE w n a≠0 then zE w n a else zE w n c
    rw[m a x C,m c z A]
   rw[EG d,EG d];by_cases f:(zp t 133).1=nImp
   .rw[EL f,EL f];obtain⟨a,c,q,C,A,x,z⟩:=r<|.inr<|.inr<|.inl f;rw[q];show(if (clsF w (n+1) false 0 [] a).1≠0 then(clsF w (n+1) false 0 [] a).1 else zE w (n+1) c)=if (clsF w n false 0 [] a).1≠0 then(clsF w n false 0 [] a).1 else zE w n c
    rw[o false 0 [] a x C,m c z A]
   rw[EG f,EG f];by_cases g:(zp t 133).1=nPi\/(zp t 133).1=nSig
   .rw[EL g,EL g];obtain⟨a,q,D,v⟩:=yT za j g;have p:a∈(zo t).2:=by rw[D];simp
    rw[q];exact m (y8 a) (by have:=vA p v;have:=Zh (zR p);omega)<|F.body za p
   rw[EG g,EG g]
  .conv=>lhs;rw[clsF]
   conv=>rhs;rw[clsF]
   by_cases j:(zp t 131).2.2≠0
   .rw[EL j,EL j]
   rw[EG j,EG j];have j:(zp t 131).2.2=0:=Sk j
   have r:∀(G:(zp t 131).1=nAnd\/(zp t 131).1=nOr\/(zp t 131).1=nImp\/(zp t 131).1=nIf),∃a c,(zp t 131).2.1=[a,c]/\TG n a/\TG n c/\wt a<=n/\wt c<=n:=λG=>by
    obtain⟨a,c,q,D,v⟩:=ya za j G;have p:a∈(zo t).2:=by rw[D];simp
    have H:c∈(zo t).2:=by rw[D];simp
    exact⟨a,c,q,F.arg p,F.arg H,by have:=vA p v;omega,by have:=vA H v;omega⟩
   by_cases y:(zp t 131).1=[]
   .rw[EL y,EL y];have:(zp t 131).2.1.any (λu=> !patG (n+1) u 0)=(zp t 131).2.1.any (λu=> !patG n u 0):=by obtain⟨q,v⟩:=cV za j;rw[q,Gp,List.any_eq_true,List.any_eq_true];have k:∀u∈(zo t).2,patG (n+1) u 0=patG n u 0:=λu E=>Y5 n u 0 (by have:=vA E v;have:=Yp u;omega)<|zR E;exact⟨λ⟨u,E,e⟩=>⟨u,E,by rw[<-k u E];exact e⟩,λ⟨u,E,e⟩=>⟨u,E,by rw[k u E];exact e⟩⟩
    rw[this]
   rw[EG y,EG y];by_cases d:(zp t 131).1=nAnd
   .rw[EL d,EL d];obtain⟨a,c,q,C,A,x,z⟩:=r<|.inl d;rw[q];show(if (clsF w (n+1) b vs L a).1≠0 then clsF w (n+1) b vs L a else((clsF w (n+1) b vs L c).1,(clsF w (n+1) b vs L a).2++(clsF w (n+1) b vs L c).2))=if (clsF w n b vs L a).1≠0 then clsF w n b vs L a else((clsF w n b vs L c).1,(clsF w n b vs L a).2++(clsF w n b vs L c).2)
    rw[o b vs L a x C,o b vs L c z A]
   rw[EG d,EG d];by_cases g:(zp t 131).1=nPi
   .rw[EL g,EL g];obtain⟨a,q,D,v⟩:=yT za j<|.inl g;have p:a∈(zo t).2:=by rw[D];simp
    rw[q];exact o b _ _ (y8 a) (by have:=vA p v;have:=Zh (zR p);omega)<|F.body za p
   rw[EG g,EG g];by_cases f:(zp t 131).1=nImp
   .rw[EL f,EL f];obtain⟨a,c,q,C,A,x,z⟩:=r<|.inr<|.inr<|.inl f;rw[q];show(if zE w (n+1) a≠0 then(zE w (n+1) a,[]) else clsF w (n+1) b vs (L++[a]) c)=if zE w n a≠0 then(zE w n a,[]) else clsF w n b vs (L++[a]) c
    rw[m a x C,o b vs (L++[a]) c z A]
   rw[EG f,EG f];by_cases i:(zp t 131).1=nIf
   .rw[EL i,EL i];obtain⟨a,c,q,C,A,x,z⟩:=r<|.inr<|.inr<|.inr i;rw[q];show(if zE w (n+1) c≠0 then(zE w (n+1) c,[]) else clsF w (n+1) b vs (L++[c]) a)=if zE w n c≠0 then(zE w n c,[]) else clsF w n b vs (L++[c]) a
    rw[m c z A,o b vs (L++[c]) a x C]
   rw[EG i,EG i]
def dG (w){t m}(d:wt t<=m):∀n,m<=n->n<=1000000000->TG n t->zE w n t=zE w m t:=by
 intro n
 induction n with
 |zero=>intro h _ _;have:=xm t;omega
 |succ n ih=>
  intro h f b;by_cases e:m=n+1
  .rw[e]
  .rw[(Yi w n za).1 t za<|b.mono za,ih za za<|b.mono za]
def cls_le (w){b vs L t m}(f:wt t<=m):∀n,m<=n->n<=1000000000->TG n t->clsF w n b vs L t=clsF w m b vs L t:=by
 intro n
 induction n with
 |zero=>intro h _ _;have:=xm t;omega
 |succ n ih=>
  intro h g d;by_cases e:m=n+1
  .rw[e]
  .rw[(Yi w n za).2 b vs L t za<|d.mono za,ih za za<|d.mono za]
def qP (w:Bool):∀(n:Nat) (vs:Int) (L:List Tm) (t:Tm),(clsF w n false vs L t).1=0->clsF w n true vs L t=clsF w n false vs L t
 |0,_,_,_,_=>rfl
 |n+1,vs,L,t,h=>by
  rw[clsF] at h
  conv=>lhs;rw[clsF]
  conv=>rhs;rw[clsF]
  by_cases i:(zp t 131).2.2≠0
  .rw[EL i,EL i]
  rw[EG i] at h;rw[EG i,EG i];by_cases e:(zp t 131).1=[]
  .rw[EL e] at h;rw[EL e,EL e];by_cases j:(!(false||w)&&(zp t 131).2.1.any λu=> !patG n u 0)=true
   .rw[EL j] at h;cases h
   .rw[EG j,EG zb]
  rw[EG e] at h;rw[EG e,EG e];by_cases b:(zp t 131).1=nAnd
  .rw[EL b] at h;rw[EL b,EL b];by_cases z:(clsF w n false vs L<|at0 (zp t 131).2.1).1≠0
   .rw[EL z] at h;exact absurd h z
   .rw[EG z] at h;rw[qP w n vs L _<|Sk z,qP w n vs L _ h]
  rw[EG b] at h;rw[EG b,EG b];by_cases f:(zp t 131).1=nPi
  .rw[EL f] at h;rw[EL f,EL f];exact qP w n _ _ _ h
  rw[EG f] at h;rw[EG f,EG f];by_cases d:(zp t 131).1=nImp
  .rw[EL d] at h;rw[EL d,EL d];by_cases z:zE w n (at0 (zp t 131).2.1)≠0
   .rw[EL z,EL z]
   .rw[EG z] at h;rw[EG z,EG z];exact qP w n _ _ _ h
  rw[EG d] at h;rw[EG d,EG d];by_cases g:(zp t 131).1=nIf
  .rw[EL g] at h;rw[EL g,EL g];by_cases z:zE w n (at1 (zp t 131).2.1)≠0
   .rw[EL z,EL z]
   .rw[EG z] at h;rw[EG z,EG z];exact qP w n _ _ _ h
  rw[EG g,EG g]
def sN {t a c}(h:(zo t).2=[a,c])(b:(zo t).1.k=0):5+wt a+wt c<=wt t:=by
 obtain⟨s,n,x,y,r,rfl,e,_⟩:=vp (t:=t) (by rw[h];simp);rw[e] at h b;injection h with d f
 subst d;subst f;have g:4<=ms wb x:=by rw[Ks,show x.k=0 from b];show 4<=4+_;omega
 unfold wt;simp[ms,mss];grind
def GG (M:Nat)(g:Tm):Prop:=TG M g/\wt g<=M/\zE false M g=0
def GG.le {M m g}(h:GG M g)(b:m<=M)(d:wt g<=m)(e:M<=1000000000):GG m g:=⟨h.1.mono b,d,(dG false d M b e h.1)▸h.2.2⟩
def TD (M W:Nat)(c:Cl):Prop:=TG M c.2.1/\wt c.2.1<=W/\((zo c.2.1).1.k=0/\logB (zo c.2.1).1.s=false)/\∃L,c.2.2=wJ L/\gms wb L<=W/\∀g∈L,GG M g
def TD.mono {M W W' c}(h:TD M W c)(g:W<=W'):TD M W' c:=by let ⟨b,j,f,L,d,i,e⟩:=h;exact⟨b,za,f,L,d,za,e⟩
def jP (f):∀(n M),n<=M->n+M<=1000000000->∀(vs) (L) (t),wt t<=n->TG (n+M) t->(∀g∈L,TG (n+M) g/\wt g<=M/\zE false M g=0)->(clsF false n f vs L t).1=0->∀c∈(clsF false n f vs L t).2,(vs<=c.1/\c.1<=vs+wt t)/\TD M (gms wb L+wt t) c
 |0,_,_,_,_,_,t,h,_,_,_=>by have:=xm t;omega
 |n+1,M,Z,hM,vs,L,t,hw,W,I,h=>by
  rw[clsF] at h ⊢;have w:∀g∈L,TG (n+M) g/\wt g<=M/\zE false M g=0:=λg o=>⟨(I g o).1.mono za,(I g o).2⟩;have v:TG (n+M+1) t:=(za:n+M+1=n+1+M)▸W;by_cases r:(zp t 131).2.2≠0
  .grind
  rw[EG r] at h ⊢;have r:=Sk r;by_cases E:(zp t 131).1=[]
  .rw[EL E] at h ⊢;split at h
   .cases h
   .rename_i X;rw[EG X];intro c O;have O:c=(vs,t,wJ L):=zd;subst O;refine⟨⟨EQ _,by show vs<=vs+wt t;omega⟩,W.mono za,zb,?_,L,rfl,za,λg o=>⟨(I g o).1.mono za,(I g o).2⟩⟩;obtain⟨h0,⟨_,q,_⟩|⟨q,C,_⟩⟩:=kQ za r
    .grind
    .exact absurd (q.symm.trans E)<|log_ne C
  rw[EG E] at h ⊢;have y:∀V,∃a c,(zp t 131).2.1=[a,c]/\TG (n+M) a/\TG (n+M) c/\5+wt a+wt c<=wt t:=λV=>by let ⟨a,c,q,C,S⟩:=ya za r V;exact⟨a,c,q,v.arg zd,v.arg<|by rw[C];simp,sN C S⟩
  by_cases j:(zp t 131).1=nAnd
  .rw[EL j] at h ⊢;let ⟨a,c,q,F,H,G⟩:=y<|.inl j;rw[q] at h ⊢;by_cases z:(clsF false n f vs L<|at0 [a,c]).1≠0
   .grind
   .rw[EG z] at h ⊢;intro x hx;rcases Sb.1 hx with hx|hx
    .have:=jP f n M za za vs L a za F w (Sk z) x hx;exact⟨⟨this.1.1,za⟩,this.2.mono za⟩
    .have:=jP f n M za za vs L c za H w h x hx;exact⟨⟨this.1.1,za⟩,this.2.mono za⟩
  rw[EG j] at h ⊢;by_cases A:(zp t 131).1=nPi
  .rw[EL A] at h ⊢;let ⟨a,q,C,S⟩:=yT za r<|.inl A;have N:a∈(zo t).2:=by rw[C];simp
   have G:=vA N S;have hb:=Zh<|zR N;rw[q] at h ⊢;intro x hx;have o:=cp wb L;have:=jP f n M za za (vs+1) (L.map λg=>shT 0 1 g 0) (y8 a) za (v.body za N) (λg o=>by obtain⟨J,K,rfl⟩:=SG.1 o;have q:=I J K;have Y:TG (n+M+1) J:=(za:n+M+1=n+1+M)▸q.1;have U:=Y.sh za;refine⟨U,by have:=Ar (b:=wb) 0 1 J 0;have:=q.2.1;unfold wt at*;omega,?_⟩;exact((Yh false M za).1 _ _ (U.mono za) (q.1.mono za)<|er_sh J 0).trans q.2.2) h x hx;exact⟨⟨za,za⟩,this.2.mono za⟩
  rw[EG A] at h ⊢
  have p:∀g d,TG (n+M) g->TG (n+M) d->5+wt g+wt d<=wt t->zE false n g=0->(clsF false n f vs (L++[g]) d).1=0->∀x∈(clsF false n f vs (L++[g]) d).2,(vs<=x.1/\x.1<=vs+wt t)/\TD M (gms wb L+wt t) x:=λg d T td G o hd x hx=>by
   have:=jP f n M za za vs (L++[g]) d za td (λu hu=>by
    rcases Sb.1 hu with hu|hu
    .exact w u hu
    .have:u=g:=zl hu;subst this;exact⟨T,za,(dG false (m:=n) za M za za<|T.mono za)▸o⟩) hd x hx
   rw[Zg,gms,gms] at this;have e:wb 6 []+wb 0 nAnd=5:=rfl;exact⟨⟨this.1.1,za⟩,this.2.mono<|by unfold wt at*;omega⟩
  by_cases i:(zp t 131).1=nImp
  .grind
  rw[EG i] at h ⊢;by_cases D:(zp t 131).1=nIf
  .rw[EL D] at h ⊢;let ⟨a,c,q,F,H,G⟩:=y<|.inr<|.inr<|.inr D;rw[q] at h ⊢;by_cases z:zE false n (at1 [a,c])≠0
   .grind
   .rw[EG z] at h ⊢;exact p c a H F za (Sk z) h
  grind
def fC {b g}(d:zt b=true)(e:zt g=true):zt (andG b g)=true:=by
 rw[valid6];have h:yL [andT,b,g]=true:=by rw[yL,yL,yL,yL,d,e];rfl
 rw[h];rfl
def sH {b g}(d:zt b=true)(e:zt g=true):zo (andG b g)=(andT,[b,g]):=by unfold zo;rw[EL ⟨rfl,fC d e⟩];rfl
def sC {b g}(d:zt b=true)(e:zt g=true)(flex):zp (andG b g) flex=(nAnd,[b,g],0):=by unfold zp;rw[sH d e];rfl
def and_goal (w n){b g}(d:zt b=true)(e:zt g=true):zE w (n+1) (andG b g)=if zE w n b≠0 then zE w n b else zE w n g:=by rw[zE,sC d e];rfl
def and_wt (b g):wt (andG b g)=5+wt b+wt g:=by unfold wt;rw[sm];rfl
def GG.and {M b g}(d:GG M b)(e:GG M g)(h:wt (andG b g)<=M)(f:M<=1000000000)(p:wt (andG b g)<=1000000):GG M (andG b g):=by have o:=and_wt b g;refine⟨⟨fC d.1.1 e.1.1,by have:=Yp (andG b g);omega,andG_bd d.1.2.2 e.1.2.2⟩,h,?_⟩;obtain⟨m,rfl⟩:∃m,M=m+1:=⟨M-1,za⟩;rw[and_goal false m d.1.1 e.1.1,EG λq=>q (d.le (m:=m) za za f).2.2];exact(e.le (m:=m) za za f).2.2
def GG.foldl {M}(f:M<=1000000000):∀(l) (x),GG M x->(∀g∈l,GG M g)->ms wb x+gms wb l<=M->ms wb x+gms wb l<=1000000->GG M (l.foldl andG x)
 |[],x,b,_,_,_=>b
 |g::l,x,b,d,h,m=>by have e:wb 6 []+wb 0 nAnd=5:=rfl;rw[gms] at h m;have j:=and_wt x g;unfold wt at j;exact GG.foldl f l _ (b.and (d g zb) zd f zd) (λu i=>d u<|EP _ i) za za
def iL:zt W2=true:=zc
def GG.true {M}(h:4<=M)(b:M<=1000000000):GG M W2:=by refine⟨⟨iL,by show 1<=1000000;omega,⟨λe=>absurd e za,trivial⟩⟩,h,?_⟩;obtain⟨m,rfl⟩:∃m,M=m+1:=⟨M-1,za⟩;rfl
def GG.fold {M}(f:4<=M)(d:M<=1000000000)(L)(b:∀g∈L,GG M g)(e:gms wb L<=M)(i:gms wb L<=1000000):GG M (wJ L):=by
 cases L with
 |nil=>exact GG.true f d
 |cons x L=>rw[gms] at e i;exact GG.foldl d L x (b x zb) (λu h=>b u<|EP _ h) za za
abbrev mkI (k a:Int):In1:=.mk k a noT0 [] []
def zJ:Nat->Int->List Int
 |0,_=> []
 |n+1,f=>f::zJ n (f+1)
def argI:Nat->List Tm->List In1
 |_,[]=> []
 |i,t::l=>.mk (if t.k=0\/t.k=2 then 1 else 0) i t [] []::argI (i+1) l
def lastK (l:List In1):=match l.getLast? with|some x=>x.k|none=>0
def finI (l:List In1):=if lastK l=3 then l else l++[mkI 4 0]
abbrev Bf:=Bool->Tm->Int->Nat->Int×List In1
def w8 (bf:Bf)(c:Cl)(fr:Int):Cd:=
 .mk (zo<|yA (zJ c.1.toNat fr) c.2.1).1.s (zo<|yA (zJ c.1.toNat fr) c.2.1).2.length fr c.1
  (bf true (yA (zJ c.1.toNat fr) c.2.2) (fr+c.1) (zo<|yA (zJ c.1.toNat fr) c.2.1).2.length).1
  (finI<|argI 0 (zo<|yA (zJ c.1.toNat fr) c.2.1).2++(bf true (yA (zJ c.1.toNat fr) c.2.2) (fr+c.1) (zo<|yA (zJ c.1.toNat fr) c.2.1).2.length).2)
abbrev BoR:=Int×List In1
def bodA (r:BoR)(f:Int->Nat->BoR)(p:Nat):BoR:=((f r.1<|p+r.2.length).1,r.2++(f r.1<|p+r.2.length).2)
def bodO (r:BoR)(f:Int->Nat->BoR)(p:Nat):BoR:=
 ((f r.1<|p+1+r.2.length+1).1,mkI 9 ((p+1+r.2.length+1:Nat))::(r.2++mkI 10 ((p+1+r.2.length+1+(f r.1<|p+1+r.2.length+1).2.length:Nat))::(f r.1<|p+1+r.2.length+1).2))
def bodP (s:Int)(r:BoR):BoR:=(r.1,mkI 11 s::(r.2++[mkI 12 0]))
def bodS (s:Int)(r:BoR):BoR:=(r.1,mkI 13 s::r.2)
def bodI (c:List Cd)(r:BoR):BoR:=(r.1,.mk 14 0 noT0 [] c::(r.2++[mkI 15 0]))
def bodC:Nat->Bf
 |0,_,_,s,_=>(s,[])
 |n+1,last,t,s,p=>
  if (zo t).1.s=lY then(s,[]) else if (zo t).1.s=nFail then(s,[mkI 8 0]) else if (zo t).1.s=nCut then(s,[mkI 7 0]) else if (zo t).1.s=nAnd then bodA (bodC n false (at0 (zo t).2) s p) (bodC n last<|at1 (zo t).2) p else if (zo t).1.s=nOr then bodO (bodC n false (at0 (zo t).2) s<|p+1) (bodC n false<|at1 (zo t).2) p else if (zo t).1.s=nPi then bodP s<|bodC n false (suT 0 (vN4 s) (y8<|at0 (zo t).2) 0) (s+1)<|p+1 else if (zo t).1.s=nSig then bodS s<|bodC n last (suT 0 (vN4 s) (y8<|at0 (zo t).2) 0) (s+1)<|p+1 else if (zo t).1.s=nImp then bodI ((xA n true<|at0 (zo t).2).map λc=>w8 (bodC n) c s)<|bodC n false (at1 (zo t).2) s<|p+1 else if (zo t).1.s=nEq then(s,[.mk 5 0 noT0 (zo t).2 []]) else if numB (zo t).1.s=true then(s,[.mk 6 0 t [] []]) else(s,[.mk (if last=true then 3 else 2) 0 t [] []])
def ij (n:Nat)(c:Cl):Cd:=w8 (bodC n) c 0
abbrev nQuery:List UInt8:=[113,117,101,114,121]
def ia (n:Nat)(g:Tm)(vars:Int):Cd:=.mk nQuery 0 0 vars (bodC n true g vars 0).1<|finI (bodC n true g vars 0).2
def jf (v t):wt (suT 0 (vN4 v) t 0)<=wt t:=rc (b:=wb) (λ_=>EI _) 0 v t 0
def TG.suV {M t v}(h:TG M t)(e:M<=1000000000)(b:0<=v)(d:v<=4611686018427387904):TG M (suT 0 (vN4 v) t 0):=
 ⟨gM (M:=0) h.1 b d h.2.1,by have:=suV_sz v t;have:=h.2.1;omega,suV_bd (by have:=h.2.1;omega) h.2.2⟩
def GG.suV {M t v}(h:GG M t)(b:M<=1000000000)(e:0<=v)(f:v<=4611686018427387904):GG M (suT 0 (vN4 v) t 0):=by have d:=h.1.suV b e f;exact⟨d,by have:=jf v t;have:=h.2.1;omega,((Yh false M b).1 _ _ d h.1<|er_suV v t 0).trans h.2.2⟩
def TG.open {M}(f:M<=1000000000):∀(vs),(∀v∈vs,0<=v/\v<=4611686018427387904)->∀t,TG M t->TG M (yA vs t)/\wt (yA vs t)<=wt t:=by
 have key:∀(b:List Int),(∀v∈b,0<=v/\v<=4611686018427387904)->∀t,TG M t->TG M (yA b.reverse t)/\wt (yA b.reverse t)<=wt t:=by
  intro b
  induction b with
  |nil=>intro _ t h;rw[List.reverse_nil,az t h.1];exact⟨h,EI _⟩
  |cons v b ih=>intro d t h;rw[GE,<-KH _ _ _ h.1];have:=d v zb;have e:=ih (λu g=>d u<|EP _ g) _<|h.suV f this.1 this.2;exact⟨e.1,SW e.2<|jf v t⟩
 intro vs d t h;have:=key vs.reverse (λv q=>d v<|List.mem_reverse.1 q) t h;grind
def GG.open {M}(d:M<=1000000000){vs}(e:∀v∈vs,0<=v/\v<=4611686018427387904){t}(h:GG M t):GG M (yA vs t)/\wt (yA vs t)<=wt t:=by have b:=TG.open d vs e t h.1;exact⟨⟨b.1,by have:=h.2.1;omega,((Yh false M d).1 _ _ b.1 h.1<|er_open vs t).trans h.2.2⟩,b.2⟩
def bv {t flex}(d:flex≠0)(h:(zp t flex).2.2=0)(b:logB (zo t).1.s=true):(zp t flex).1=(zo t).1.s:=by
 obtain⟨_,⟨_,q,_⟩|⟨q,_⟩⟩:=kQ d h
 .grind
 .exact q
def GG.head {M t}(h:GG (M+1) t):(zp t 133).2.2=0:=by have:=h.2.2;rw[zE] at this;omega
def GG.two {M t}(h:GG (M+1) t)(i:(zo t).1.s=nAnd\/(zo t).1.s=nOr):∃a c,(zo t).2=[a,c]/\GG M a/\GG M c/\5+wt a+wt c<=wt t:=by
 have g:=h.head;have b:(zp t 133).1=nAnd\/(zp t 133).1=nOr:=(bv za g<|by rcases i with e|e<;>rw[e]<;>decide)▸i;let ⟨a,c,q,f,j⟩:=ya (t:=t) (flex:=133) za g<|b.imp_right .inl;have o:=sN f j;have m:=h.2.1;have d:=h.2.2;rw[zE,EG λp=>p g,EG zd,EL b,q] at d;have d:(if zE false M a≠0 then zE false M a else zE false M c)=0:=d;by_cases z:zE false M a≠0
 .omega
 .rw[EG z] at d;exact⟨a,c,f,⟨h.1.arg zd,za,Sk z⟩,⟨h.1.arg zd,za,d⟩,o⟩
def GG.one {M}(m:M<=1000000000){t}(h:GG (M+1) t)(g:(zo t).1.s=nPi\/(zo t).1.s=nSig):∃a,(zo t).2=[a]/\TG M a/\GG M (y8 a)/\3+wt (y8 a)<=wt t:=by have f:=h.head;have b:(zp t 133).1=nPi\/(zp t 133).1=nSig:=(bv za f<|by rcases g with e|e<;>rw[e]<;>decide)▸g;let ⟨a,q,i,o⟩:=yT (t:=t) (flex:=133) za f b;have d:a∈(zo t).2:=zd;have w:=vA d o;have v:=Zh<|zR d;have r:=h.2.1;have j:=h.2.2;rw[zE,EG λp=>p f,EG zd,EG (by rcases b with e|e<;>rw[e]<;>decide),EG zd,EL b,q] at j;exact⟨a,i,h.1.arg d,⟨h.1.body m d,za,j⟩,za⟩
def GG.imp {M t}(h:GG (M+1) t)(g:(zo t).1.s=nImp):∃a c,(zo t).2=[a,c]/\TG M a/\(clsF false M false 0 [] a).1=0/\GG M c/\5+wt a+wt c<=wt t:=by
 have f:=h.head;have b:(zp t 133).1=nImp:=(bv za f<|by rw[g];decide)▸g;let ⟨a,c,q,e,i⟩:=ya (t:=t) (flex:=133) za f<|.inr<|.inr<|.inl b;have m:=sN e i;have j:=h.2.1;have d:=h.2.2;rw[zE,EG λp=>p f,EG zd,EG<|by rw[b];decide,EL b,q] at d;have d:(if (clsF false M false 0 [] a).1≠0 then(clsF false M false 0 [] a).1 else zE false M c)=0:=d;by_cases z:(clsF false M false 0 [] a).1≠0
 .omega
 .rw[EG z] at d;exact⟨a,c,e,h.1.arg zd,Sk z,⟨h.1.arg zd,za,d⟩,m⟩
def OKc (n:Nat)(c:Cl)(fr:Int):Prop:=(0<=c.1/\c.1<=100000)/\(0<=fr/\fr+c.1+n+(n*n:Nat)<=1000000000)/\TG (n*n+n) c.2.1/\GG (n*n+n) c.2.2/\wt c.2.2<=n
def sq_s (n):(n+1)*(n+1)+(n+1)=n*n+3*n+1+1:=by grind
def sq_b {n}(h:n<=10000):n*n<=100000000:=SW (Nat.mul_le_mul h h) za
def fold_wt2 (L){W}(b:4<=W)(h:gms wb L<=W):wt (wJ L)<=W:=by
 cases L with
 |nil=>exact b
 |cons x L=>have:=mS wb (x::L) zb;unfold wt;omega
def ao {n:Nat}(N:n+1<=10000){t:Tm}(M:wt t<=n+1)(h:GG ((n+1)*(n+1)+(n+1)) t)(w:(zo t).1.s=nImp)(s:Int)(H:0<=s)(K:s+n+n+(n*n:Nat)<=1000000000):
  ∃a c,(zo t).2=[a,c]/\TG n a/\wt a<=n/\(clsF false n true 0 [] a).1=0/\GG (n*n+n) c/\5+wt a+wt c<=wt t/\(∀x∈(clsF false n true 0 [] a).2,OKc n x s/\TD (n*n+n) (wt a) x/\x.1<=wt a):=by
 have C:=sq_b (n:=n) za;rw[sq_s] at h;obtain⟨a,c,e,o,A,D,p⟩:=h.imp w;have w1:wt a<=n:=za;have b:(clsF false n false 0 [] a).1=0:=by rw[<-cls_le false (m:=n) w1 _ za za o];exact A
 have d:=qP false n 0 [] a b;have f:(clsF false n true 0 [] a).1=0:=by rw[d];exact b
 refine⟨a,c,e,o.mono za,w1,f,D.le za za za,p,λx F=>?_⟩;obtain⟨⟨z,J⟩,j⟩:=jP true n (n*n+n) za za 0 [] a w1 (o.mono za) (λg I=>by cases I) f x F;have j:TD (n*n+n) (wt a) x:=j.mono (by simp only[gms];omega);obtain⟨r,y,v,L,i,G,u⟩:=j;have E:GG (n*n+n) x.2.2:=by rw[i];exact GG.fold za za L u za za
 exact⟨⟨⟨z,za⟩,⟨H,za⟩,r,E,by rw[i];exact fold_wt2 L za za⟩,⟨r,y,v,L,i,G,u⟩,za⟩
def uV:∀(n:Nat),n<=10000->∀(b:Bool) (t:Tm) (s:Int) (p:Nat),wt t<=n->GG (n*n+n) t->0<=s->s+wt t<=1000000000->(bodC n b t s p).2.length<=wt t/\s<=(bodC n b t s p).1/\(bodC n b t s p).1<=s+wt t
 |0,_,_,t,_,_,h,_,_,_=>by have:=xm t;omega
 |n+1,N,b,t,s,p,J,h,i,L=>by
  have I:=sq_b (n:=n) za;have o:=xm t;rw[sq_s] at h;rw[bodC];by_cases C:(zo t).1.s=lY
  .rw[EL C];exact⟨SQ _,EQ _,by show s<=_;omega⟩
  rw[EG C];by_cases E:(zo t).1.s=nFail
  .rw[EL E];exact⟨o,EQ _,by show s<=_;omega⟩
  rw[EG E];by_cases c3:(zo t).1.s=nCut
  .rw[EL c3];exact⟨o,EQ _,by show s<=_;omega⟩
  rw[EG c3];by_cases A:(zo t).1.s=nAnd
  .rw[EL A];obtain⟨a,c,e,d,g,u⟩:=h.two<|.inl A;rw[e];have j:=uV n za false a s p za (d.le za za za) i za;have H:=uV n za b c (bodC n false a s p).1 (p+(bodC n false a s p).2.length) za (g.le za za za) za za;refine⟨?_,?_,?_⟩
   .show((bodC n false a s p).2++(bodC n b c (bodC n false a s p).1<|p+(bodC n false a s p).2.length).2).length<=_;rw[EJ];omega
   .show s<=(bodC n b c (bodC n false a s p).1<|p+(bodC n false a s p).2.length).1;omega
   .show(bodC n b c (bodC n false a s p).1<|p+(bodC n false a s p).2.length).1<=_;omega
  rw[EG A];by_cases x:(zo t).1.s=nOr
  .rw[EL x];obtain⟨a,c,e,d,g,u⟩:=h.two<|.inr x;rw[e];show(bodO (bodC n false a s<|p+1) (bodC n false c) p).2.length<=_/\s<=(bodO (bodC n false a s<|p+1) (bodC n false c) p).1/\(bodO (bodC n false a s<|p+1) (bodC n false c) p).1<=_;have j:=uV n za false a s (p+1) za (d.le za za za) i za;generalize M:bodC n false a s (p+1)=r at j ⊢;have H:=uV n za false c r.1 (p+1+r.2.length+1) za (g.le za za za) za za;unfold bodO;simp only[EH,EJ];exact⟨za,za,za⟩
  rw[EG x];by_cases w:(zo t).1.s=nPi
  .rw[EL w];obtain⟨a,e,F,d,u⟩:=h.one za<|.inl w;rw[e];have z:=(d.suV (v:=s) za i za).le (m:=n*n+n) za (by have:=jf s (y8 a);omega) za;have G:=jf s<|y8 a;have j:=uV n za false (suT 0 (vN4 s) (y8 a) 0) (s+1) (p+1) za z za za;rw[show at0 [a]=a from rfl];unfold bodP;simp only[EH,EJ,EY];exact⟨za,za,za⟩
  rw[EG w];by_cases y:(zo t).1.s=nSig
  .rw[EL y];obtain⟨a,e,F,d,u⟩:=h.one za<|.inr y;rw[e];have z:=(d.suV (v:=s) za i za).le (m:=n*n+n) za (by have:=jf s (y8 a);omega) za;have G:=jf s<|y8 a;have j:=uV n za b (suT 0 (vN4 s) (y8 a) 0) (s+1) (p+1) za z za za;rw[show at0 [a]=a from rfl];unfold bodS;simp only[EH];exact⟨za,za,za⟩
  rw[EG y];by_cases c8:(zo t).1.s=nImp
  .rw[EL c8];obtain⟨a,c,e,F,K,g,u⟩:=h.imp c8;rw[e];have j:=uV n za false c s (p+1) za (g.le za za za) i za;rw[show at1 [a,c]=c from rfl];unfold bodI;simp only[EH,EJ,EY];exact⟨za,za,za⟩
  rw[EG c8];by_cases D:(zo t).1.s=nEq
  .rw[EL D];exact⟨o,EQ _,by show s<=_;omega⟩
  rw[EG D];by_cases f:numB (zo t).1.s=true
  .rw[EL f];exact⟨o,EQ _,by show s<=_;omega⟩
  rw[EG f];exact⟨o,EQ _,by show s<=_;omega⟩
def kj:∀(n) (f),(zJ n f).length=n
 |0,_=>rfl
 |n+1,f=>by rw[zJ,EH,kj n]
def fE:∀(n) (f) (v),v∈zJ n f->f<=v/\v<f+n
 |0,_,v,h=>by cases h
 |n+1,f,v,h=>by
  rcases S4.1 h with rfl|h
  .omega
  .have:=fE n _ v h;omega
def WD:∀(n) (f),zJ (n+1) f=zJ n f++[f+n]
 |0,f=>by rw[zJ,zJ,zJ];simp
 |n+1,f=>by rw[zJ,WD n _,zJ,SE,show f+1+n=f+((n+1:Nat)) by omega]
def l_ixOp (p:Tm->Bool)(b:List Tm):∀a:List Tm,(a++b).length<=B->(∀u∈b,AC EF 124 [aT u] [] (cb<|p u) [])->RPt EF 144 0 (ci<|ixF p b a.length) [] 1 ⟨[(0,aL<|a++b),(1,.c<|.fn (.func 124) [] []),(7,ci (a++b).length),(8,ci a.length)],[],0⟩:=by
 induction b with
 |nil=>intro a d _;refine rpv (Zm ..) ?_;exact bF zb<|xB rfl
 |cons t b e=>
  intro a d ih;have m:=ltI' a t b;have g:=ih t ET;have f:=e (a++[t]) (zl d) λu i=>ih u<|EP _ i;rw[ap,nx,show(a++[t]).length=a.length+1 by simp] at f;rw[ixF];simp only[EJ,EH,B] at d;have j:(a.length:Int)<((a++t::b).length:Int):=by simp only[EJ,EH];omega
  refine rpv (Zm ..) ?_;rw[w64 za za];refine bT j ⟨⟨rfl,za,m,wy ..⟩,p t,by rw[vW];exact g,zm (λh=>?_) λh=>?_⟩
  .rw[EL h];exact xB rfl
  .rw[EG<|by rw[h];simp];exact f
def c_anyOp (p:Tm->Bool)(l:List Tm)(d:l.length<=B)(h:∀u∈l,AC EF 124 [aT u] [] (cb<|p u) []):AC EF 103 [aL l,.c<|.fn (.func 124) [] []] [] (cb<|l.any p) []:=by
 have b:=l_ixOp p l [] d h;have e:AC EF 144 [aL l,.c<|.fn (.func 124) [] []] [] (ci<|ixF p l 0) []:=by refine acv (EB ..) ?_;rw[zn];exact⟨rfl,b⟩
 refine acv (tN ..) ?_;exact⟨_,e,zy<|by rw[ju p l 0]⟩
def Jm (t:Tm)(e:t.sz<=B):AC EF 124 [aT t] [] (cb (!zt t)) []:=by have h:=xR t e;obtain⟨a,b,c,d⟩:=t;refine acv (v124 ..) ?_;exact⟨_,h,zy rfl⟩
def c_kopen (c:Cl)(vs:List Int)(e:VR vs)(p:c.1=vs.length)(j:zt c.2.1=true)(m:zt c.2.2=true)(w:c.2.1.sz<=1000000)(r:c.2.2.sz<=1000000)(A:bd 1000000000000 c.2.1)(z:bd 1000000000000 c.2.2):
  AC EF 81 [aCl c,aL<|byV vs] [] (.tup [(true,cT<|yA vs c.2.1),(true,cT<|yA vs c.2.2)]) []:=by
 have b:(byV vs).length=vs.length:=by simp[byV]
 have h:=c_anyOp (λu=> !zt u) (byV vs) (by rw[b];have:=e.1;simp only[B];omega) (λu f=>by obtain⟨v,_,rfl⟩:=SG.1 f;exact Jm (vN4 v) (by show 1<=B;simp only[B];omega));have d:((byV vs).any λu=> !zt u)=false:=by rw[List.any_eq_false];intro u f;obtain⟨v,o,rfl⟩:=SG.1 f;have:=e.2 v o;rw[fq this.1 this.2];simp
 rw[d] at h;have i:=Jm c.2.1 (by simp only[B];omega);have g:=Jm c.2.2 (by simp only[B];omega);rw[j] at i;rw[m] at g;have o1:=bH vs e c.2.1 j w A;have x:=bH vs e c.2.2 m r z;obtain⟨n,y,C⟩:=c;refine acv (v81 ..) ?_;exact⟨rfl,br_f (by rw[zn,b,p];simp) ⟨_,h,br_f rfl ⟨_,i,br_f rfl ⟨_,g,br_f rfl ⟨_,o1,_,x,.refl _,rfl⟩⟩⟩⟩⟩
abbrev stI (s:Int)(l:List In1):List AObj:=[.arr 2 [[qi s,.a<|.osl 1 8 0 l.length]],.arz 8<|FIs l]
abbrev stO (s:Int)(l:List In1):List AObj:=[.arr 2 [[qi s,.a<|.osl 2 8 0 l.length]],.gone,.arz 8<|FIs l]
abbrev ep2:TV:=.c<|.a<|.ep 0 2 0 0
abbrev aIw (x:In1):TV:=.agg [qi x.k,qi x.a,qi x.t.k,qf<|.str x.t.s,qi x.t.n,qf<|.sl false 4<|FTs x.t.l,qf<|.sl false 4<|FTs x.l,qf<|.sl false 6<|FCs x.c]
def FIs_snoc (l:List In1)(x:In1):FIs l++[FI x]=FIs (l++[x]):=by rw[uj,uj,SN];rfl
def take_FIs (l:List In1):take l.length (FIs l)=FIs l:=EV (by rw[zP];exact EI _)
def lA (x:In1)(s:Int)(l:List In1)(b:l.length<=1000000000):AC EF 58 [ep2,aIw x] (stI s l) (ci l.length) (stO s<|l++[x]):=by
 refine acv (v58 x.k x.a x.t.k x.t.s x.t.n (FTs x.t.l) (FTs x.l) (FCs x.c) s l.length (FIs l) ..) ?_;rw[w64 (x:=((l.length+1:Nat):Int)-1) za za,take_FIs,<-xZ x,FIs_snoc];refine⟨EI _,⟨by rw[zP];exact EI _,by unfold zw;omega⟩,?_,?_⟩
 .rw[show((l.length+1:Nat):Int)-1=(l.length:Int) by omega];exact .refl _
 .grind
def uy (k a s:Int)(l:List In1)(d:l.length<=1000000000):AC EF 58 [ep2,.agg [qi k,qi a,qi 0,qf<|.str [],qi 0,qf .N,qf .N,qf .N]] (stI s l) (ci l.length) (stO s<|l++[mkI k a]):=
 (lA (mkI k a) s l d).args ⟨.refl _,WA (a:=[.int .i64 k,.int .i64 a,.int .i64 0,.str [],.int .i64 0,.N,.N,.N]) (b:=[.int .i64 k,.int .i64 a,.int .i64 0,.str [],.int .i64 0,.sl false 4 [],.sl false 4 [],.sl false 6 []]) ⟨.refl _,.refl _,.refl _,.refl _,.refl _,.N 4,.N 4,.N 6,trivial⟩,trivial⟩
def J3 (k a:Int)(t:Tm)(s:Int)(l:List In1)(d:l.length<=1000000000):AC EF 58 [ep2,.agg [qi k,qi a,qi t.k,qf<|.str t.s,qi t.n,qf<|.sl false 4<|FTs t.l,qf .N,qf .N]] (stI s l) (ci l.length) (stO s<|l++[.mk k a t [] []]):=
 (lA (.mk k a t [] []) s l d).args ⟨.refl _,WA (a:=[.int .i64 k,.int .i64 a,.int .i64 t.k,.str t.s,.int .i64 t.n,.sl false 4<|FTs t.l,.N,.N]) (b:=[.int .i64 k,.int .i64 a,.int .i64 t.k,.str t.s,.int .i64 t.n,.sl false 4<|FTs t.l,.sl false 4 [],.sl false 6 []]) ⟨.refl _,.refl _,.refl _,.refl _,.refl _,.refl _,.N 4,.N 6,trivial⟩,trivial⟩
def c_pputL (k a:Int)(m:List Tm)(s:Int)(l:List In1)(d:l.length<=1000000000):AC EF 58 [ep2,.agg [qi k,qi a,qi 0,qf<|.str [],qi 0,qf .N,qf<|.sl false 4<|FTs m,qf .N]] (stI s l) (ci l.length) (stO s<|l++[.mk k a noT0 m []]):=
 (lA (.mk k a noT0 m []) s l d).args ⟨.refl _,WA (a:=[.int .i64 k,.int .i64 a,.int .i64 0,.str [],.int .i64 0,.N,.sl false 4<|FTs m,.N]) (b:=[.int .i64 k,.int .i64 a,.int .i64 0,.str [],.int .i64 0,.sl false 4 [],.sl false 4<|FTs m,.sl false 6 []]) ⟨.refl _,.refl _,.refl _,.refl _,.refl _,.N 4,.refl _,.N 6,trivial⟩,trivial⟩
def c_pputC (k a:Int)(m:List Cd)(s:Int)(l:List In1)(d:l.length<=1000000000):AC EF 58 [ep2,.agg [qi k,qi a,qi 0,qf<|.str [],qi 0,qf .N,qf .N,qf<|.sl false 6<|FCs m]] (stI s l) (ci l.length) (stO s<|l++[.mk k a noT0 [] m]):=
 (lA (.mk k a noT0 [] m) s l d).args ⟨.refl _,WA (a:=[.int .i64 k,.int .i64 a,.int .i64 0,.str [],.int .i64 0,.N,.N,.sl false 6<|FCs m]) (b:=[.int .i64 k,.int .i64 a,.int .i64 0,.str [],.int .i64 0,.sl false 4 [],.sl false 4 [],.sl false 6<|FCs m]) ⟨.refl _,.refl _,.refl _,.refl _,.refl _,.N 4,.N 4,.refl _,trivial⟩,trivial⟩
def cZ (a b:List In1):FIs (a++b)=FIs a++FIs b:=by rw[uj,uj,uj,SN]
def pM {α:Type}(x y:α):∀(a b:List α),(a++x::b).set a.length y=a++y::b
 |[],_=>rfl
 |z::a,b=>zb
def c_phere (a b:List In1)(k v s:Int)(h:a.length<=1000000000):AC EF 135 [ep2,ci a.length] (stI s<|a++mkI k v::b) (.tup []) (stO s<|a++mkI k ((a++mkI k v::b).length:Nat)::b):=by
 refine acv (v135 a.length s (a++mkI k v::b).length (FIs<|a++mkI k v::b) ..) ?_;have e:FIs (a++mkI k v::b)=FIs a++FI (mkI k v)::FIs b:=by rw[cZ];rfl
 have g:0+toNat (a.length:Int)=(FIs a).length:=by rw[zP];omega
 have f:getD (FIs a++FI (mkI k v)::FIs b) (FIs a).length []=FI (mkI k v):=zb;rw[e,g,f,pM];refine⟨⟨za,by rw[EJ,EH];omega⟩,⟨zb,Ee _⟩,.refl _,?_⟩;generalize d:(a++mkI k v::b).length=n;have hn2:(a++mkI k (n:Nat)::b).length=n:=by rw[<-d,EJ,EJ];rfl
 show _=[AObj.arr 2 [[qi s,.a<|.osl 2 8 0 (a++mkI k (n:Nat)::b).length]],.gone,.arz 8<|FIs<|a++mkI k (n:Nat)::b];rw[hn2,cZ];rfl
def sq (n:Int):AC EF 80 [ci n] [] (aT<|vN4 n) []:=by refine acv (v80 ..) ?_;exact X0<|leT yY
def ox (k:Int)(t:Tm)(s:Int)(l:List In1)(j:l.length<=1000000000)(r:0<=s)(p:s<=1000000000)(e:zt t=true)(o:t.sz<=1000000)(g:bd 1000000000000 t):
  AC EF 90 [ep2,ci k,aT t] (stI s l) (aT<|suT 0 (vN4 s) (y8 t) 0) (stO (s+1)<|l++[mkI k s]):=by
 have i:=Jc e;have h:=dX t e (by simp only[B];omega)<|vD zd _ g;have m:=Ei (y8 t) (vN4 s) 0 (by show 1<=B;simp only[B];omega) (by show(y8 t).sz+nd (y8 t)*1<=B;have:=nd_sz (y8 t);simp only[B];omega) (vD (by simp only[M61];omega) _<|sV za e g) (fi _ _) za zb;obtain⟨a,b,c,d⟩:=t;refine acv (v90 k a b c (FTs d) s l.length (FIs l) ..) ?_;rw[w64 (x:=s+1) za za];exact⟨vN4 s,sq s,(l.length,s+1,l++[mkI k s]),(uy k s (s+1) l j),_,h,_,m,.refl _,rfl⟩
def BdC (n:Nat):=∀(last) t (s:Int) l p,p=l.length->wt t<=n->GG (n*n+n) t->0<=s->s+wt t+(n*n:Nat)<=1000000000->l.length+wt t<=1000000000->
 AC EF 57 [ep2,aT t,cb last] (stI s l) (.tup []) (stO (bodC n last t s p).1<|l++(bodC n last t s p).2)
def l6 (L a b k v i N s)(e:L=a++mkI k v::b)(f:L.length=N)(d:i=(a.length:Int))(g:a.length<=1000000000):AC EF 135 [ep2,ci i] (stI s L) (.tup []) (stO s<|a++mkI k N::b):=by subst f;subst e;subst d;exact c_phere a b k v s g
def uH {s b l l'}(e:s=b)(d:l=l'):TV.Le (.tup []) (.tup [])/\stO s l=stO b l':=by subst e;subst d;exact rrl
def c_por {n}(f:n<=10000)(h:BdC n)(a b)(s:Int)(l)(e:GG (n*n+n) a)(g:GG (n*n+n) b)(z:5+wt a+wt b<=n+1)(i:0<=s)(D:s+wt a+wt b+5+(n*n:Nat)<=1000000000)(F:l.length+wt a+wt b+5<=1000000000):
  AC EF 89 [ep2,aT a,aT b] (stI s l) (.tup []) (stO (bodO (bodC n false a s<|l.length+1) (bodC n false b) l.length).1<|l++(bodO (bodC n false a s<|l.length+1) (bodC n false b) l.length).2):=by
 have x:=uy 9 0 s l za;have E:=uV n f false a s (l.length+1) za e i za;unfold BdC at h;have o:=h false a s (l++[mkI 9 0]) (l.length+1) zb za e i za (by simp[EJ,EH,EY];omega);generalize A:bodC n false a s _=r at*;have v:=uy 10 0 r.1 (l++[mkI 9 0]++r.2) (by simp[EJ,EH,EY];omega);have p:(l++[mkI 9 0]++r.2++[mkI 10 0]).length=l.length+1+r.2.length+1:=by simp only[EJ,EH,EY]
 have y:=l6 (l++[mkI 9 0]++r.2++[mkI 10 0]) l (r.2++[mkI 10 0]) 9 0 l.length (l.length+1+r.2.length+1) r.1 zb p rfl za;have C:=uV n f false b r.1 (l.length+1+r.2.length+1) za g za za;have u:=h false b r.1 (l++mkI 9 ((l.length+1+r.2.length+1))::(r.2++[mkI 10 0])) (l.length+1+r.2.length+1) (by simp[EJ,EH,EY];omega) za g za za (by simp[EJ,EH,EY];omega);unfold bodO;generalize j:bodC n false b r.1 (l.length+1+r.2.length+1)=d at*;have m:(l++mkI 9 ((l.length+1+r.2.length+1))::(r.2++[mkI 10 0])++d.2).length=l.length+1+r.2.length+1+d.2.length:=by simp[EJ,EH,EY];omega
 have w:=l6 (l++mkI 9 ((l.length+1+r.2.length+1))::(r.2++[mkI 10 0])++d.2) (l++mkI 9 ((l.length+1+r.2.length+1))::r.2) d.2 10 0 ((l++[mkI 9 0]++r.2).length) (l.length+1+r.2.length+1+d.2.length) d.1 zb m (by simp only[EJ,EH,EY];omega) (by simp[EJ,EH];omega);refine acv (v89 a.k a.s a.n (FTs a.l) b.k b.s b.n (FTs b.l) s l.length (FIs l) ..) ?_;refine⟨(_,_,_),x,(_,_),o,(_,_,_),v,(_,_),y,(_,_),u,(_,_),w,uH rfl ?_⟩;simp
def ii (a x):lastK (a++[x])=x.k:=by unfold lastK;rw[List.getLast?_append];rfl
def c_pfin {n}(u:n<=10000)(h:BdC n)(t)(s:Int)(l p)(y:p=l.length)(g:wt t<=n)(e:GG (n*n+n) t)(d:0<=s)(v:s+wt t+(n*n:Nat)<=1000000000)(j:l.length+wt t<=1000000000):
  AC EF 31 [ep2,aT t] (stI s l) (.tup []) (stO (bodC n true t s p).1<|finI<|l++(bodC n true t s p).2):=by
 have i:=h true t s l p y g e d v j;have bb:=uV n u true t s p g e d za;generalize bodC n true t s p=r at*;have b:=uy 4 0 r.1 (l++r.2) (by rw[EJ];omega);have f:(l++r.2).length<=1000000000:=by rw[EJ];omega
 refine acv (v31 t.k t.s t.n _ s l.length _ ..) ?_;refine⟨(r.1,l++r.2),i,?_⟩;dsimp only;clear i;generalize l++r.2=m at*;rw[w64 (x:=(m.length)-1) za za];unfold finI;rcases GP m with rfl|⟨a,x,rfl⟩
 .exact br_t rfl ⟨(_,_,_),b,.refl _,by rw[EG zc]⟩
 .rw[List.concat_eq_append] at*;have o:0+toNat (((a++[x]).length)-1)=a.length:=by rw[EJ];simp only[EH,EY];omega
  have w:getD (FIs<|a++[x]) a.length []=FI x:=by rw[cZ];simp[getD,zP,FIs,SR]
  rw[ii];refine br_f (by simp only[EJ,EH,EY];simp;omega) ?_;rw[o,w];refine⟨⟨by rw[EJ];simp only[EH,EY];omega,za⟩,⟨by rw[zP,EJ];simp only[EH,EY];omega,by cases x;rfl,rfl⟩,?_⟩;rw[FI0];refine zm (λq=>⟨(_,_,_),b,.refl _,?_⟩) λq=>⟨.refl _,?_⟩
  .rw[EG<|zl q]
  .rw[EL<|zl q]
def gu:∀(a) (i) (t),argI i (a++[t])=argI i a++[.mk (if t.k=0\/t.k=2 then 1 else 0) (i+a.length:Nat) t [] []]
 |[],i,t=>by rw[SD,argI,argI,argI];simp
 |x::a,i,t=>by rw[SE,argI,argI,gu a _ t,SE,EH,(za:i+1+a.length=i+(a.length+1))]
def Yf:∀(a) (i),(argI i a).length=a.length
 |[],_=>rfl
 |x::a,i=>by rw[argI,EH,EH,Yf a]
abbrev z6:=[qf<|.str [],qi 0,qi 0,qi 0,qi 0,qf .N]
abbrev cCl9 (c:Cl):=[qi c.1,qi c.2.1.k,qf<|.str c.2.1.s,qi c.2.1.n,qf<|.sl false 4<|FTs c.2.1.l,qi c.2.2.k,qf<|.str c.2.2.s,qi c.2.2.n,qf<|.sl false 4<|FTs c.2.2.l]
abbrev hp5 (c:Cl)(bo hh:Tm)(s:Int)(m:List In1):AHeap:=[(0,.arr 9 [cCl9 c]),(1,.arr 6 [z6]),(2,.arr 4 [cT bo]),(3,.arr 4 [cT hh]),(4,.arr 2 [[qi s,.a<|.osl 5 8 0 m.length]]),(5,.arz 8<|FIs m)]
abbrev ev5 (fr:Int)(xs:List Tm)(i:Int):Env:=[(1,ci fr),(2,.c<|.a<|.ep 0 9 0 0),(4,.c<|.a<|.ep 1 6 0 0),(8,.c<|.a<|.ep 2 4 0 0),(9,.c<|.a<|.ep 3 4 0 0),(10,aL xs),(11,.c<|.a<|.ep 4 2 0 0),(45,aL xs),(46,ci xs.length),(47,ci i)]
def pC {n}(C:n<=10000)(h:BdC n)(c d i)(fr s:Int)(xs)(D:wt d<=n)(A:GG (n*n+n) d)(v:0<=s)(E:s+wt d+(n*n:Nat)<=1000000000)(u:xs.length<=1000000):
  ∀(b a),xs=a++b->RPt EF 49 0 (aC<|.mk i.s xs.length fr c.1 (bodC n true d s xs.length).1<|finI<|argI 0 xs++(bodC n true d s xs.length).2) [] 5 ⟨ev5 fr xs a.length,hp5 c d i s<|argI 0 a,6⟩
 |[],a,j=>by
  have F:a=xs:=by rw[j,S6]
  subst F;have y:=Yf a 0;have k:=c_pfin C h d s (argI 0 a) a.length y.symm D A v E (by rw[y];omega);refine rpv (v49_5a ..) ?_;refine br_f zb ⟨((bodC n true d s a.length).1,finI<|argI 0 a++(bodC n true d s a.length).2),k,rfl,⟨rfl,by rw[zP];simp⟩,?_,rfl⟩
  .rw[Sg,EV<|by rw[zP];exact EI _,zn];exact .refl _
 |t::b,a,j=>by
  have ih:=pC C h c d i fr s xs D A v E u b (a++[t]) (by rw[j];simp);rw[gu,nx,Sa] at ih;have r:a.length<xs.length:=by rw[j];simp
  have e:getD (FTs xs) (toNat a.length) []=FT t:=by rw[j];exact midI ..
  have g:∀o,(if t.k=0\/t.k=2 then 1 else 0)=o->∃z:Int×Int×List In1,AC EF 58 [ep2,.agg [qi o,qi a.length,qi t.k,qf<|.str t.s,qi t.n,qf _,qf .N,qf .N]]
    [.arr 2 [[qi s,.a _]],.arz 8 _] (ci z.1) [.arr 2 [[qi z.2.1,.a<|.osl 2 8 0 z.2.2.length]],.gone,.arz 8<|FIs z.2.2]/\
    RPt EF 49 0 (aC<|.mk i.s xs.length fr c.1 (bodC n true d s xs.length).1<|finI<|argI 0 xs++(bodC n true d s xs.length).2) [] 5 ⟨ev5 fr xs<|a.length+1,hp5 c d i z.2.1 z.2.2,6⟩:=λo G=>by
   have k:=J3 o a.length t s (argI 0 a) (by rw[Yf];omega);rw[G] at ih;exact⟨(_,_,_),k,ih⟩
  refine rpv (v49_5a ..) ?_;rw[w64 (x:=a.length+1) za za,e];let ⟨k,p,m,H⟩:=t;refine br_t (zl r) ⟨⟨rfl,za,by rw[zn];omega,yO<|.mk k p m H⟩,zm (λq=>?_) λq=>zm (λf=>?_) λf=>?_⟩
  .have q:(k==0)=true:=q;have q:k=0:=zl q;exact g 1 (by rw[EL<|.inl q])
  .have f:(k==2)=true:=f;have f:k=2:=zl f;exact g 1 (by rw[EL<|.inr f])
  .have q:(k==0)=false:=q;have f:(k==2)=false:=f;have q:¬k=0:=zl q;have f:¬k=2:=zl f;exact g 0 (by rw[EG λw=>w.elim q f])
abbrev ev1 (fr:Int)(xs:WV)(v i:Int):Env:=[(1,ci fr),(2,.c<|.a<|.ep 0 9 0 0),(4,.c<|.a<|.ep 1 6 0 0),(5,.c xs),(16,ci v),(17,ci i)]
def CpG (n:Nat)(c:Cl)(fr:Int):=∀by_,by_=byV (zJ c.1.toNat fr)->∃z:Tm×Tm,AC EF 81 [aCl c,aL by_] [] (.tup [(true,cT z.1),(true,cT z.2)]) []/\∃y:Tm×List Tm,AC EF 74 [aT z.1] [] (.tup [(true,cT y.1),(false,[qf<|.sl false 4<|FTs y.2])]) []/\
 RPt EF 49 0 (aC<|w8 (bodC n) c fr) [] 5 ⟨ev5 fr y.2 0,hp5 c z.2 y.1 (fr+c.1) [],6⟩
def byV_snoc (n fr):FTs (byV<|zJ n fr)++[FT4<|vN4<|fr+n]=FTs (byV<|zJ (n+1) fr):=by rw[WD];show FTs _++_=FTs ((zJ n fr++[fr+n]).map vN4);rw[SN,yZ,yZ,SN];rfl
def Ye {n:Nat}{fr:Int}(f:0<=fr)(e:fr+n<=1000000000)(b:n<=1000000):VR (zJ n fr):=⟨by rw[kj];exact b,λv d=>by have:=fE n fr v d;omega⟩
def cpG {n}(g:n<=10000)(h:BdC n)(c fr)(r:OKc n c fr):CpG n c fr:=by
 let ⟨⟨w,u⟩,⟨f0,f1⟩,b,d,x⟩:=r;have m:=sq_b g;have e:VR (zJ c.1.toNat fr):=Ye f0 za za;intro by_ f;subst f;have o:=c_kopen c _ e (by rw[kj];omega) b.1 d.1.1 b.2.1 d.1.2.1 (vD za _ b.2.2)<|vD za _ d.1.2.2;let ⟨i,_⟩:=TG.open za _ e.2 _ b;let ⟨j,w1⟩:=GG.open za e.2 d;have p:(yA (zJ c.1.toNat fr) c.2.1).sz<=B:=by have:=i.2.1;simp[B];omega
 have k:=vM (yA (zJ c.1.toNat fr) c.2.1) p;have v:=(Y0<|yA (zJ c.1.toNat fr) c.2.1).2.2;have l5:=pC g h c (yA (zJ c.1.toNat fr) c.2.2) (zo<|yA (zJ c.1.toNat fr) c.2.1).1 fr (fr+c.1) (zo<|yA (zJ c.1.toNat fr) c.2.1).2 za j za za (by have:=i.2.1;omega) (zo<|yA (zJ c.1.toNat fr) c.2.1).2 [] rfl;exact⟨(_,_),o,zo<|yA (zJ c.1.toNat fr) c.2.1,k,l5⟩
def pA {n}(c fr)(f:CpG n c fr)(g:c.1<=100000)(f0:0<=fr)(f1:fr+c.1<=1000000000):∀(k j:Nat),0<j->(j+k)=c.1->
  RPt EF 49 0 (aC<|w8 (bodC n) c fr) [] 1 ⟨ev1 fr (.a<|.osl 2 4 0 j) c.1 j,[(0,.arr 9 [cCl9 c]),(1,.arr 6 [z6]),(2,.arz 4<|FTs<|byV<|zJ j fr)],3⟩
 |0,j,h,d=>by
  have e:c.1.toNat=j:=za;let ⟨z,o,y,k,l5⟩:=f (byV<|zJ j fr) (by rw[e]);have b:(FTs<|byV<|zJ j fr).length=j:=by rw[zn,byV,Sn,kj]
  refine rpv (v49_1b ..) ?_;rw[w64 (x:=fr+c.1) za za];refine br_f zj ⟨⟨rfl,by rw[b];omega⟩,z,?_,y,k,rfl,?_⟩
  .rw[Sg,EV<|by rw[b];exact EI _];exact o
  .rw[zn];exact l5
 |k+1,j,h,d=>by
  have ih:=pA c fr f g f0 f1 k (j+1) za za;have b:(FTs<|byV<|zJ j fr).length=j:=by rw[zn,byV,Sn,kj]
  refine rpv (v49_1b ..) ?_;rw[w64 (x:=fr+j) za za,w64 (x:=j+1) za za];refine br_t (Gk za) ⟨vN4<|fr+j,sq _,EI _,⟨by rw[b];exact EI _,by unfold zw;omega⟩,?_⟩;rw[EV<|by rw[b];exact EI _,byV_snoc];exact ih
def dR {n}(i:n<=10000)(h:BdC n)(c fr)(f:OKc n c fr):AC EF 49 [aCl c,ci fr] [] (aC<|w8 (bodC n) c fr) []:=by
 have d:=cpG i h c fr f;let ⟨⟨j,g⟩,⟨f0,f1⟩,_⟩:=f;refine acv (v49 ..) ?_;refine rpv (v49_1a fr c.1 0 c.1 c.2.1.k c.2.1.s c.2.1.n (FTs c.2.1.l) c.2.2.k c.2.2.s c.2.2.n (FTs c.2.2.l) ..) ?_;rw[w64 (x:=fr+c.1) za za,w64 (x:=fr+0) za za];refine zm (λq=>⟨vN4<|fr+0,sq _,EI _,zc,?_⟩) λq=>?_
 .have q:=S0 q;obtain⟨m,p⟩:∃m:Nat,c.1=m+1:=⟨(c.1-1).toNat,za⟩;have l:=pA c fr d g f0 za m 1 za za;have e:byV (zJ 1 fr)=[vN4<|fr+0]:=by rw[Int.add_zero];rfl
  rw[e] at l;exact l
 .have q:=ES q;have b:c.1=0:=za;let ⟨z,o,y,k,l5⟩:=d [] (by rw[b];rfl);refine⟨z,o.args ⟨.refl _,.c _ _<|.a _ _<|.fz _ _ yY,trivial⟩,y,k,rfl,?_⟩;rw[zn];exact l5
def pF (l x):FCs l++[[.str x.nm,.int .i64 x.ar,.int .i64 x.fr,.int .i64 x.vs,.int .i64 x.sl,.sl false 8<|FIs x.ins]]=FCs (l++[x]):=by rw[kv,kv,SN];show _=List.map FC l++[FC x];rw[xE x]
abbrev evI (w:WV)(xs:List Cl)(i:Int):Env:=[(0,ep2),(5,.c<|.a<|.ep 3 4 0 0),(8,.c w),(16,aCls xs),(17,ci xs.length),(18,ci i)]
abbrev hpI (s:Int)(l:List In1)(g:Tm):AHeap:=[(0,.arr 2 [[qi s,.a<|.osl 2 8 0 l.length]]),(1,.gone),(2,.arz 8<|FIs l),(3,.arr 4 [cT g])]
def ae {n}(p:n<=10000)(h:BdC n)(g)(s:Int)(l b)(f:wt g<=n)(j:GG (n*n+n) g)(i:0<=s)(m:s+wt g+(n*n:Nat)<=1000000000)(u:l.length+wt g+1<=1000000000):
  ∃e:Int×List In1,AC EF 57 [ep2,aT g,cb false] (stI s<|l++[.mk 14 0 noT0 [] b]) (.tup []) (stO e.1 e.2)/\∃d:Int×Int×List In1,AC EF 58 [ep2,.agg [qi 15,qi 0,qi 0,qf<|.str [],qi 0,qf .N,qf .N,qf .N]] (stI e.1 e.2) (ci d.1) (stO d.2.1 d.2.2)/\
   TV.Le (.tup []) (.tup [])/\stO d.2.1 d.2.2=stO (bodI b<|bodC n false g s<|l.length+1).1 (l++(bodI b<|bodC n false g s<|l.length+1).2):=by
 have k:=h false g s (l++[.mk 14 0 noT0 [] b]) (l.length+1) zb f j i m (by rw[EJ];simp[EH,EY];omega);have bb:=uV n p false g s (l.length+1) f j i za;generalize bodC n false g s _=r at*;have o:=uy 15 0 r.1 (l++[.mk 14 0 noT0 [] b]++r.2) (by simp[EJ,EH,EY];omega);refine⟨(_,_),k,(_,_,_),o,uH rfl ?_⟩;unfold bodI;simp
def l_pimp {n}(m:n<=10000)(h:BdC n)(g s l xs)(j:xs.length<=1000000)(p:∀x∈xs,OKc n x s)(u:wt g<=n)(v:GG (n*n+n) g)(w:0<=s)(r:s+wt g+(n*n:Nat)<=1000000000)(o:l.length+wt g+1<=1000000000):
  ∀(b a),xs=a++b->a≠[]->RPt EF 91 2 (.tup []) (stO (bodI (xs.map λc=>w8 (bodC n) c s)<|bodC n false g s<|l.length+1).1<|l++(bodI (xs.map λc=>w8 (bodC n) c s)<|bodC n false g s<|l.length+1).2) 1
   ⟨evI (.a<|.osl 4 6 0 a.length) xs a.length,hpI s l g++[(4,.arz 6<|FCs<|a.map λc=>w8 (bodC n) c s)],5⟩
 |[],a,f,_=>by
  have D:a=xs:=zd;subst D;have d:(FCs<|a.map λc=>w8 (bodC n) c s).length=a.length:=by rw[y3,Sn]
  let ⟨y,z,C,A,e⟩:=ae m h g s l (a.map λc=>w8 (bodC n) c s) u v w r o;refine rpv (v91_1b ..) ?_;refine br_f zb ⟨⟨rfl,by rw[d];omega⟩,(l.length,s,l++[.mk 14 0 noT0 []<|a.map λc=>w8 _ c s]),?_,y,z,C,A,e⟩;rw[Sg,EV<|d▸EI _];exact c_pputC 14 0 (a.map λc=>w8 (bodC n) c s) s l za
 |c::b,a,f,E=>by
  have ih:=l_pimp m h g s l xs j p u v w r o b (a++[c]) (by rw[f];simp) zb;rw[nx,SN,EJ] at ih;have d:(FCs<|a.map λc=>w8 (bodC n) c s).length=a.length:=by rw[y3,Sn]
  have i:a.length<xs.length:=zd;have e:getD (CLs xs) (toNat a.length) []=FL c:=f▸lr ..;refine rpv (v91_1b ..) ?_;rw[w64 (x:=a.length+1) za za,e];refine br_t (zl i) ⟨⟨rfl,za,by rw[yd];omega,rfl⟩,_,(dR m h c s<|p c zd),EI _,⟨d▸EI _,by unfold zw;omega⟩,?_⟩;rw[EV<|d▸EI _,pF];exact ih
def c_pimp {n}(i:n<=10000)(h:BdC n)(d g s l xs e)(A:AC EF 136 [aT d] [] (.tup [(false,[qf<|.sl false 9<|CLs xs]),(false,[qi e])]) [])(b:xs.length<=1000000)(f:∀x∈xs,OKc n x s)(o:wt g<=n)(p:GG (n*n+n) g)(r:0<=s)(m:s+wt g+(n*n:Nat)<=1000000000)(j:l.length+wt g+1<=1000000000):
  AC EF 91 [ep2,aT d,aT g] (stI s l) (.tup []) (stO (bodI (xs.map λc=>w8 (bodC n) c s)<|bodC n false g s<|l.length+1).1<|l++(bodI (xs.map λc=>w8 (bodC n) c s)<|bodC n false g s<|l.length+1).2):=by
 refine acv (v91 d.k d.s d.n (FTs d.l) g.k g.s g.n (FTs g.l) s l.length (FIs l) ..) ?_;refine⟨(xs,e),A,rfl,?_⟩;rw[yd];refine rpv (v91_1a (CLs xs) xs.length 0 s l.length (FIs l) g.k g.s g.n (FTs g.l) ..) ?_
 match xs,b,f with
 |[],_,_=>
  let ⟨u,v,z,y,e⟩:=ae i h g s l [] o p r m j;exact br_f rfl ⟨(_,_,_),uy 14 0 s l za,u,v,z,y,e⟩
 |c::xs,b,f=>rw[w64 (x:=0+1) za za];refine br_t (Gk zb) ⟨⟨rfl,za,by rw[yd];simp only[EH];omega,rfl⟩,_,(dR i h c s<|f c zb),EI _,zc,?_⟩;have w:[[FV.str (w8 (bodC n) c s).nm,.int .i64 (w8 (bodC n) c s).ar,.int .i64 (w8 (bodC n) c s).fr,.int .i64 (w8 (bodC n) c s).vs,.int .i64 (w8 (bodC n) c s).sl,.sl false 8<|FIs (w8 (bodC n) c s).ins]]=FCs ([c].map λc=>w8 (bodC n) c s):=pF [] _;rw[w];exact(l_pimp i h g s l _ b f o p r m j xs [c] rfl zb)
def vZ (s):numB s=(s==[105,115]||(s==[60]||(s==[61,60]||(s==[62]||s==[62,61])))):=by unfold numB nums;grind
def oR {n}(hn:n+1<=10000)(h:BdC n):BdC (n+1):=by
 intro d t s l p hp hw C w h1 hl;subst hp;have hsq:=sq_b (n:=n) za;have X:(n+1)*(n+1)=n*n+2*n+1:=by rw[Nat.mul_add,SO];omega
 have O:=C;rw[sq_s] at C;have c1:=vM t (by have:=C.1.2.1;simp[B];omega);have W:=xm t;rw[bodC];refine acv (v57 t.k t.s t.n (FTs t.l) d s l.length (FIs l) ..) ?_;refine⟨zo t,c1,zm (λq=>?_) λo=>zm (λq=>?_) λy=>zm (λq=>?_) λA=>zm (λq=>?_) λE=>zm (λq=>?_) λI=>zm (λq=>?_) λK=>zm (λq=>?_) λT=>zm (λq=>?_) λV=>zm (λq=>?_) λq9=>?_⟩
 .rw[EL<|zl q];exact uH rfl zb
 .rw[EG<|zl o,EL<|zl q];exact⟨(_,_,_),uy 8 0 s l za,uH rfl rfl⟩
 .rw[EG<|zl o,EG<|zl y,EL<|zl q];exact⟨(_,_,_),uy 7 0 s l za,uH rfl rfl⟩
 .have e:(zo t).1.s=nAnd:=zl q;rw[EG<|zl o,EG<|zl y,EG<|zl A,EL e];let ⟨a,c,b,f,j,L⟩:=C.two<|.inl e;let ⟨r,u,G,H⟩:=dV b;rw[G,H];have f:=f.le (m:=n*n+n) za za za;have j:=j.le (m:=n*n+n) za za za;have N:=h false a s l l.length rfl za f w za za;have bb:=uV n za false a s l.length za f w za;have F:=h d c (bodC n false a s l.length).1 (l++(bodC n false a s l.length).2) (l.length+(bodC n false a s l.length).2.length) (by rw[EJ]) za j za za (by rw[EJ];omega);rw[b];exact⟨by rw[<-b];exact r,(_,_),N,by rw[<-b];exact u,(_,_),F,uH rfl (by rw[SH];rfl)⟩
 .have e:(zo t).1.s=nOr:=zl q;rw[EG<|zl o,EG<|zl y,EG<|zl A,EG<|zl E,EL e];let ⟨a,c,b,f,j,L⟩:=C.two<|.inr e;let ⟨r,u,G,H⟩:=dV b;rw[G,H];have f:=f.le (m:=n*n+n) za za za;have j:=j.le (m:=n*n+n) za za za;have N:=c_por za h a c s l f j za w za za;rw[b];exact⟨by rw[<-b];exact r,by rw[<-b];exact u,(_,_),N,.refl _,rfl⟩
 .have e:(zo t).1.s=nPi:=zl q;rw[EG<|zl o,EG<|zl y,EG<|zl A,EG<|zl E,EG<|zl I,EL e];let ⟨a,b,i,f,L⟩:=C.one za<|.inl e;let ⟨r,u⟩:=tR b;rw[u];have w2:=jf s<|y8 a;have J:=(f.suV (v:=s) za w za).le (m:=n*n+n) za za za;have D:=ox 11 a s l za w za i.1 i.2.1<|vD za _ i.2.2;have F:=h false (suT 0 (vN4 s) (y8 a) 0) (s+1) (l++[mkI 11 s]) (l.length+1) zb za J za za (by rw[EJ];simp[EH,EY];omega);have bb:=uV n za false (suT 0 (vN4 s) (y8 a) 0) (s+1) (l.length+1) za J za za;rw[b];refine⟨by rw[<-b];exact r,(_,_,_),D,(_,_),F,(_,_,_),uy 12 0 _ _<|by simp[EJ,EH,EY];omega,uH rfl ?_⟩;show _=l++(mkI 11 s::((bodC n false (suT 0 (vN4 s) (y8 a) 0) (s+1)<|l.length+1).2++[mkI 12 0]));simp
 .have e:(zo t).1.s=nSig:=zl q;rw[EG<|zl o,EG<|zl y,EG<|zl A,EG<|zl E,EG<|zl I,EG<|zl K,EL e];let ⟨a,b,i,f,L⟩:=C.one za<|.inr e;let ⟨r,u⟩:=tR b;rw[u];have w2:=jf s<|y8 a;have J:=(f.suV (v:=s) za w za).le (m:=n*n+n) za za za;have D:=ox 13 a s l za w za i.1 i.2.1<|vD za _ i.2.2;have F:=h d (suT 0 (vN4 s) (y8 a) 0) (s+1) (l++[mkI 13 s]) (l.length+1) zb za J za za (by rw[EJ];simp[EH,EY];omega);rw[b];refine⟨by rw[<-b];exact r,(_,_,_),D,(_,_),F,uH rfl ?_⟩;show _=l++(mkI 13 s::(bodC n d (suT 0 (vN4 s) (y8 a) 0) (s+1)<|l.length+1).2);simp
 .have e:(zo t).1.s=nImp:=zl q;rw[EG<|zl o,EG<|zl y,EG<|zl A,EG<|zl E,EG<|zl I,EG<|zl K,EG<|zl T,EL e];let ⟨a,c,b,i,wa,hc,j,L,Y⟩:=ao hn hw O e s w za;let ⟨r,u,G,H⟩:=dV b;rw[G,H];have cP:=c_kparts n za a wa i;have U:xA n true a=(clsF false n true 0 [] a).2:=by unfold xA;rw[EL hc]
  have Z:=vH false n true 0 [] a;have M:=λx hx=>(Y x<|by rw[<-U];exact hx).1;have ci:=c_pimp za h a c s l (xA n true a) _ cP (by rw[U];have:=i.2.1;omega) M za j w za za;rw[b];exact⟨by rw[<-b];exact r,by rw[<-b];exact u,(_,_),ci,.refl _,rfl⟩
 .rw[EG<|zl o,EG<|zl y,EG<|zl A,EG<|zl E,EG<|zl I,EG<|zl K,EG<|zl T,EG<|zl V,EL<|zl q];exact⟨(_,_,_),c_pputL 5 0 (zo t).2 s l za,uH rfl rfl⟩
 .rw[EG<|zl o,EG<|zl y,EG<|zl A,EG<|zl E,EG<|zl I,EG<|zl K,EG<|zl T,EG<|zl V,EG<|zl q9];have g:numB (zo t).1.s=true->∃z:Int×Int×List In1,AC EF 58 [ep2,.agg [qi 6,qi 0,qi t.k,qf<|.str t.s,qi t.n,qf<|.sl false 4<|FTs t.l,qf .N,qf .N]] (stI s l) (ci z.1) (stO z.2.1 z.2.2)/\(TV.Le (.tup []) (.tup [])/\stO z.2.1 z.2.2=stO (if numB (zo t).1.s=true then(s,[In1.mk 6 0 t [] []]) else(s,[.mk (if d=true then 3 else 2) 0 t [] []])).1 (l++(if numB (zo t).1.s=true then(s,[In1.mk 6 0 t [] []]) else(s,[.mk (if d=true then 3 else 2) 0 t [] []])).2)):=λq=>by rw[EL q];exact⟨(_,_,_),J3 6 0 t s l za,uH rfl rfl⟩
  refine zm (λq=>g<|by rw[vZ,q];rfl) (λr1=>zm (λq=>g<|by rw[vZ,q];simp) λr2=>zm (λq=>g<|by rw[vZ,q];simp) λr3=>zm (λq=>g<|by rw[vZ,q];simp) λr4=>zm (λq=>g<|by rw[vZ,q];simp) λr5=>?_);have S:numB (zo t).1.s=false:=by rw[vZ,r1,r2,r3,r4,r5];rfl
  rw[EG<|by rw[S];simp];refine zm (λq=>?_) λq=>?_
  .rw[EL q];exact⟨(_,_,_),J3 3 0 t s l za,uH rfl rfl⟩
  .rw[EG<|by rw[q];simp];exact⟨(_,_,_),J3 2 0 t s l za,uH rfl rfl⟩
def mI:∀n,n<=10000->BdC n
 |0,_=>λb t s l p _ e _ _ _ _=>by have:=xm t;omega
 |n+1,d=>oR d<|mI n za
abbrev bb:Int->List UInt8->Nat:=λ_ s=>1+s.length
def lx {t a c}(h:(zo t).2=[a,c]):∃s,1+s+(zo t).1.bk+a.bk+c.bk<=t.bk:=by
 obtain⟨s,n,x,y,r,rfl,e,_⟩:=vp (t:=t) (by rw[h];simp);rw[e] at h ⊢;injection h with b d
 subst b;subst d;exact⟨s.length,by simp[Tm.bk,Tm.bks];omega⟩
def rL {t a}(h:(zo t).2=[a]):1+(zo t).1.bk+a.bk<=t.bk:=by
 obtain⟨s,n,x,y,r,rfl,e,_⟩:=vp (t:=t) (by rw[h];simp);rw[e] at h ⊢;injection h with b d
 subst b;subst d;simp[Tm.bk,Tm.bks];omega
def jl (t:Tm):1+t.s.length<=t.bk:=by cases t;simp only[Tm.bk,Tm.s];omega
def cC {t}(d:zt t=true):(y8 t).bk<=t.bk+2:=by have:=dL (b:=bb) (λ_=>zb) t d;rw[JP,JP] at this;grind
def suV_bk (v t):(suT 0 (vN4 v) t 0).bk<=t.bk:=by have:=rc (b:=bb) (λ_=>zb) 0 v t 0;rw[JP,JP] at this;exact this
def op_bk (vs t):(yA vs t).bk<=t.bk:=by
 have:=Kb (b:=bb) _ (λu d _ e=>Yw vs u d e) (λu d f e=>by
  unfold yU;split
  .split
   .rw[Ks u];show 1+0+0<=1+_+_;omega
   .rw[Ks u];show 1+0+0<=1+_+_;omega
  .exact EI _) t 0
 rw[JP,JP] at this;exact this
def aQ (t):(zo t).1.bk<=t.bk/\Tm.bks (zo t).2<=t.bk:=by
 unfold zo;split
 .rename_i h;let ⟨k,s,n,l⟩:=t;have b:=h.1;subst b;obtain⟨x,y,r,rfl,_,_⟩:=okB6 (zW _ h.2) rfl;simp[hd,Tm.l,List.headD_cons,List.drop_succ_cons,Sg,Tm.bk,Tm.bks];omega
 .exact⟨EI _,SQ _⟩
def gmb_map:∀L,gms bb (L.map λg=>shT 0 1 g 0)<=gms bb L:=cp bb
def YO (b):∀(n),n<=1000000000->∀(vs) (L) (t),TG n t->(clsF false n b vs L t).1=0->∀c∈(clsF false n b vs L t).2,c.2.1.bk<=t.bk/\∃L',c.2.2=wJ L'/\gms bb L'<=gms bb L+t.bk
 |0,_,_,_,_,_,_,c,hc=>by cases hc
 |n+1,O,vs,L,t,E,h,c,hc=>by
  rw[clsF] at h hc;by_cases p:(zp t 131).2.2≠0
  .grind
  rw[EG p] at h hc;have p:=Sk p;by_cases w:(zp t 131).1=[]
  .grind
  rw[EG w] at h hc;have K:1+(zp t 131).1.length<=(zo t).1.bk:=by
   obtain⟨_,⟨q,_⟩|⟨q,_⟩⟩:=kQ za p
   .grind
   .rw[q];exact jl _
  have u:∀H,∃a c,(zp t 131).2.1=[a,c]/\TG n a/\TG n c/\2+(zp t 131).1.length+a.bk+c.bk<=t.bk:=λH=>by let ⟨a,c,q,x,M⟩:=ya za p H;let ⟨s,A⟩:=lx x;exact⟨a,c,q,E.arg<|by rw[x];simp,E.arg<|by rw[x];simp,za⟩
  by_cases i:(zp t 131).1=nAnd
  .rw[EL i] at h hc;let ⟨a,d,q,D,y,A⟩:=u<|.inl i;rw[q] at h hc;by_cases z:(clsF false n b vs L<|at0 [a,d]).1≠0
   .grind
   .rw[EG z] at h hc;rcases Sb.1 hc with hc|hc
    .let ⟨F,L',v,C⟩:=YO b n za vs L a D (Sk z) c hc;grind
    .let ⟨F,L',v,C⟩:=YO b n za vs L d y h c hc;grind
  rw[EG i] at h hc;by_cases m:(zp t 131).1=nPi
  .rw[EL m] at h hc;let ⟨a,q,x,M⟩:=yT za p<|.inl m;have G:a∈(zo t).2:=zd;have A:=rL x;have N:=cC<|zR G;have r:(zp t 131).1.length=2:=by rw[m];rfl
   rw[q] at h hc;let ⟨F,L',v,C⟩:=YO b n za _ (L.map λg=>shT 0 1 g 0) _ (E.body za G) h c hc;have:=gmb_map L;grind
  rw[EG m] at h hc;have o:∀g d,TG n d->4+g.bk+d.bk<=t.bk->(clsF false n b vs (L++[g]) d).1=0->c∈(clsF false n b vs (L++[g]) d).2->c.2.1.bk<=t.bk/\∃L',c.2.2=wJ L'/\gms bb L'<=gms bb L+t.bk:=λg d y A hd J=>by let ⟨F,L',v,C⟩:=YO b n za vs (L++[g]) d y hd c J;rw[Zg,gms,gms,JP] at C;grind
  by_cases f:(zp t 131).1=nImp
  .grind
  rw[EG f] at h hc;by_cases j:(zp t 131).1=nIf
  .rw[EL j] at h hc;let ⟨a,d,q,D,y,A⟩:=u<|.inr<|.inr<|.inr j;have r:(zp t 131).1.length=2:=by rw[j];rfl
   rw[q] at h hc;by_cases z:zE false n (at1 [a,d])≠0
   .grind
   .rw[EG z] at h hc;exact o d a D za h hc
  grind
def fold_bk (L){W}(b:5<=W)(h:gms bb L<=W):(wJ L).bk<=W:=by
 cases L with
 |nil=>exact b
 |cons x L=>have:=mS bb (x::L) zb;rw[JP] at this;omega
def with_tI {k s n l l2}(d:k≠2)(_:tmI<|.mk k s n l)(h:∀u∈l2,tmI u):tmI (xK (.mk k s n l) l2):=by
 unfold xK;split
 .match l2,h with
  |[],_=>rename_i q;exact absurd q.2.1 zb
  |x::r,h=>exact vX (h x ET) λu b=>h u<|EP _ b
 .exact xh d h
def PT (x:In1):Prop:=(x.t.sz<=2000/\tmI x.t)/\(∀u∈x.l,u.sz<=2000/\tmI u)/\x.c.length<=300/\tCs x.c
def PI (x:In1):=((x.t.bk<=B/\Tm.bks x.l<=B/\x.c.length<=B/\zCs x.c)/\bd 2305843009213693952 x.t/\(∀u∈x.l,bd 2305843009213693952 u)/\nbCs x.c)/\PT x
def Ym:tmI noT0:=xh zc λu b=>nomatch b
def dy:tCs []:=by rw[tCs];trivial
def bd_no (M):bd M noT0:=⟨λe=>absurd e zb,trivial⟩
def PI.plain (k a):PI (mkI k a):=⟨⟨⟨by show 1<=B;simp only[B];omega,by show 0<=B;omega,by show 0<=B;omega,by show zCs [];rw[zCs];trivial⟩,bd_no _,(λu b=>nomatch b),by show nbCs [];rw[nbCs];trivial⟩,⟨by show 1<=2000;omega,Ym⟩,(λu b=>nomatch b),by show 0<=300;omega,dy⟩
def PI.term (k a){t}(h:t.bk<=B)(d:bd 2305843009213693952 t)(e:t.sz<=2000/\tmI t):PI (.mk k a t [] []):=⟨⟨⟨h,by show 0<=B;omega,by show 0<=B;omega,by show zCs [];rw[zCs];trivial⟩,d,(λu b=>nomatch b),by show nbCs [];rw[nbCs];trivial⟩,e,(λu b=>nomatch b),by show 0<=300;omega,dy⟩
def PI.row (k a){l}(h:Tm.bks l<=B)(b:∀u∈l,bd 2305843009213693952 u)(d:∀u∈l,u.sz<=2000/\tmI u):PI (.mk k a noT0 l []):=⟨⟨⟨by show 1<=B;simp only[B];omega,h,by show 0<=B;omega,by show zCs [];rw[zCs];trivial⟩,bd_no _,b,by show nbCs [];rw[nbCs];trivial⟩,⟨by show 1<=2000;omega,Ym⟩,d,by show 0<=300;omega,dy⟩
def mO:∀ {l},(∀x∈l,PI x)->nbIs l
 |[],_=>by rw[nbIs];trivial
 |.mk k a t q c::r,h=>by rw[nbIs];exact⟨(h _<|ET ..).1.2,mO λx b=>h x<|EP _ b⟩
def mW:∀ {l},(∀d∈l,nbC d)->nbCs l
 |[],_=>by rw[nbCs];trivial
 |c::r,h=>by rw[nbCs];exact⟨h _<|ET ..,mW λx b=>h x<|EP _ b⟩
def pw {M t}(h:bd M t):∀u∈(zo t).2,bd M u:=λu b=>by obtain⟨s,n,x,y,r,rfl,e,_⟩:=vp (t:=t) (λe=>zd);rw[e] at b;exact xU (bd_l h)<|EP _ b
def pv:∀(l) (i) (x),x∈argI i l->∃k a t,x=.mk k a t [] []/\t∈l
 |[],_,x,h=>by cases h
 |t::l,i,x,h=>by
  rw[argI] at h;rcases S4.1 h with rfl|h
  .grind
  .let ⟨k,a,u,e,b⟩:=pv l _ x h;grind
def pK {l x}(h:x∈finI l):x∈l\/x=mkI 4 0:=by unfold finI at h;grind
def pN (l):(finI l).length<=l.length+1:=by unfold finI;grind
def code_z {nm:List UInt8}{ar fr vs sl:Int}{l:List In1}(d:nm.length<=B)(e:l.length<=B)(h:∀x∈l,PI x):zC (.mk nm ar fr vs sl l)/\nbC (.mk nm ar fr vs sl l)/\tC (.mk nm ar fr vs sl l):=by rw[zC,nbC,tC];exact⟨⟨d,e,zIs_of λx b=>(h x b).1.1⟩,mO h,tIs_of λx b=>(h x b).2⟩
def cM (f)(g:∀u d,tmI u->tmI (f u d)):∀(t) (d),tmI t->tmI (zQ f t d):=by
 refine Tm.ind λt ih d h=>?_;let ⟨k,s,n,l⟩:=t;rw[zQ];split
 .have o:∀l2,(∀u∈l2,u∈l)->∀e,∀u∈zK f l2 e,tmI u:=λl2=>by
   induction l2 with
   |nil=>intro _ e u hu;rw[zK] at hu;cases hu
   |cons x l2 i=>
    intro b e u hu;rw[zK] at hu;rcases S4.1 hu with rfl|hu
    .exact ih x (b x ET) e<|i9 h x<|b x ET
    .grind
  have m:k≠2:=by rename_i q;intro e;subst e;cases q
  exact with_tI m h<|o l (λ_ h=>h) _
 .exact g _ _ h
def op_tI (vs){t}(h:tmI t):tmI (yA vs t):=cM _ (λu d b=>by
 unfold yU;split
 .split<;>exact xh zc λu b=>nomatch b
 .exact b) t 0 h
def Jg {t}(h:tmI t):∀u∈(zo t).2,tmI u:=λu b=>by obtain⟨s,n,x,y,r,rfl,e,_⟩:=vp (t:=t) (λe=>zd);rw[e] at b;exact i9 h u<|EP _ b
def Zw {t u}(h:u∈(zo t).2):u.sz<=t.sz:=by obtain⟨s,n,x,y,r,rfl,e,_⟩:=vp (t:=t) (λe=>zd);rw[e] at h;have:=Tm.szs_mem<|EP x (show u∈y::r from h);rw[Tm.sz];omega
def tI_hd {t}(h:tmI t):tmI (hd t.l):=by
 cases e:t.l with
 |nil=>exact Ym
 |cons x r=>exact i9 h x zd
def tx {u}(h:tmI u)(b:(u.k==3)=true)(m):tmI (.mk u.k u.s m u.l):=xh (λe=>zd)<|i9 h
def shG_tI (fr b){t}(h:tmI t)(d):tmI (shT fr b t d):=cM _ (λu d e=>by
 unfold yM;split;next q=>exact tx e q.1 _
 .exact e) t d h
def sh_tI {t}(h:tmI t):tmI (shT 0 1 t 0):=shG_tI 0 1 h 0
def vN_tI (v):tmI (vN4 v):=xh zc λu b=>nomatch b
def suV_tI (v){t}(h:tmI t):tmI (suT 0 (vN4 v) t 0):=cM _ (λu d b=>by
 unfold xD;split
 .rename_i q;split
  .exact b
  .split
   .exact shG_tI _ _ (vN_tI v) _
   .exact tx b q _
 .exact b) t 0 h
def dQ {t}(h:tmI t):tmI (y8 t):=by
 unfold y8;split
 .exact tI_hd h
 .exact vX (sh_tI h) λu b=>by rw[Si.1 b];exact xh zc λu b=>nomatch b
def fold_tI {L}(h:∀u∈L,tmI u):tmI (wJ L):=by
 have e:∀s,tmI (.mk 0 s 0 []):=λs=>xh zc λu hu=>nomatch hu;cases L with
 |nil=>exact e _
 |cons g L=>
  have:∀(L:List Tm) g,tmI g->(∀u∈L,tmI u)->tmI (L.foldl andG g):=λL=>by
   induction L with
   |nil=>exact λg b _=>b
   |cons x L ih=>intro g b d;refine ih _ (xh zc λu hu=>?_) λu hu=>d u<|EP _ hu;grind
  exact this L g (h g ET) λu hu=>h u<|EP _ hu
def shape_tI {t f}(h:tmI t):∀u∈(zp t f).2.1,tmI u:=by
 unfold zp
 repeat' split
 all_goals first|exact Jg h|(intro u b;cases b)
def at_tI {l}(h:∀u∈l,tmI u):tmI (at0 l)/\tmI (at1 l):=by
 match l,h with
 |[],_=>exact⟨Ym,Ym⟩
 |[a],h=>exact⟨h a zb,Ym⟩
 |a::b::_,h=>exact⟨h a zb,h b zb⟩
def jF (w b):∀(n) (vs) (L) (t),(∀u∈L,tmI u)->tmI t->∀c∈(clsF w n b vs L t).2,tmI c.2.1/\tmI c.2.2
 |0,_,_,_,_,_,c,hc=>by cases hc
 |n+1,vs,L,t,e,h,c,hc=>by
  have k:=at_tI<|shape_tI (f:=131) h
  have d:∀g,tmI g->∀u∈L++[g],tmI u:=λg i u hu=>by
   rcases Sb.1 hu with hu|hu
   .exact e u hu
   .rw[Si.1 hu];exact i
  rw[clsF] at hc
  repeat' split at hc
  all_goals first
   |exact jF w b n _ _ _ e k.1 c hc
   |exact jF w b n _ _ _ (d _ k.1) k.2 c hc
   |exact jF w b n _ _ _ (d _ k.2) k.1 c hc
   |(rcases Sb.1 hc with hc|hc
     .exact jF w b n _ _ _ e k.1 c hc
     .exact jF w b n _ _ _ e k.2 c hc)
   |exact jF w b n _ _ _ (λu hu=>by obtain⟨g,i,rfl⟩:=SG.1 hu;exact sh_tI (e g i)) (dQ k.1) c hc
   |(rw[Si.1 hc];exact⟨h,fold_tI e⟩)
   |cases hc
def comp_z {n}(G:n<=300){c fr}(y:OKc n c fr)(j:tmI c.2.1)(F:wt c.2.1<=2000)(A:c.2.1.bk<=1000000000)(h:∀x∈(bodC n true (yA (zJ c.1.toNat fr) c.2.2) (fr+c.1) (zo<|yA (zJ c.1.toNat fr) c.2.1).2.length).2,PI x):
  zC (w8 (bodC n) c fr)/\nbC (w8 (bodC n) c fr)/\tC (w8 (bodC n) c fr):=by
 let ⟨⟨z,C⟩,⟨f0,f1⟩,o,g,D⟩:=y;have r:=sq_b (n:=n) za;have e:VR (zJ c.1.toNat fr):=Ye f0 za za;let ⟨f,u⟩:=TG.open za _ e.2 _ o;let ⟨i,w1⟩:=GG.open za e.2 g;have H:=aQ<|yA (zJ c.1.toNat fr) c.2.1;have I:=op_bk (zJ c.1.toNat fr) c.2.1;have v:=jl (zo<|yA (zJ c.1.toNat fr) c.2.1).1;have w:=(Y0<|yA (zJ c.1.toNat fr) c.2.1).2.2;have E:=f.2.1;have bb:=uV n za true (yA (zJ c.1.toNat fr) c.2.2) (fr+c.1) (zo<|yA (zJ c.1.toNat fr) c.2.1).2.length za i za za;have d:=pN<|argI 0 (zo<|yA (zJ c.1.toNat fr) c.2.1).2++(bodC n true (yA (zJ c.1.toNat fr) c.2.2) (fr+c.1) (zo<|yA (zJ c.1.toNat fr) c.2.1).2.length).2;rw[EJ,Yf] at d;refine code_z (by simp[B];omega) (by simp[B];omega) λx hx=>?_;rcases pK hx with hx|rfl
 .rcases Sb.1 hx with hx|hx
  .obtain⟨k,a,t,rfl,b⟩:=pv _ _ _ hx;have:=Tm.bks_mem b;have m:=Zw b;have p:=Yp<|yA (zJ c.1.toNat fr) c.2.1;exact PI.term _ _ (by simp[B];omega) (pw (vD za _ f.2.2) t b) ⟨za,Jg (op_tI _ j) t b⟩
  .exact h x hx
 .exact PI.plain _ _
def XR:∀(n),n<=300->∀(f) (t) (s:Int) (p),wt t<=n->GG (n*n+n) t->t.bk<=1000000000->0<=s->s+wt t+(n*n:Nat)<=1000000000->tmI t->∀x∈(bodC n f t s p).2,PI x
 |0,_,_,t,_,_,h,_,_,_,_,_=>by have:=xm t;omega
 |n+1,hn,f,t,s,p,hw,h,hk,y,h1,K=>by
  have i:=Jg K;have Y:=Yp t;have hsq:=sq_b (n:=n) za;have U:(n+1)*(n+1)=n*n+2*n+1:=by rw[Nat.mul_add,SO];omega
  have hp:=xm t;have J:=h;rw[sq_s] at h;have z:bd 2305843009213693952 t:=vD za _ h.1.2.2;rw[bodC];by_cases X:(zo t).1.s=lY
  .rw[EL X];intro x hx;cases hx
  rw[EG X];by_cases c2:(zo t).1.s=nFail
  .rw[EL c2];intro x hx;rw[show x=mkI 8 0 by simpa using hx];exact PI.plain _ _
  rw[EG c2];by_cases c3:(zo t).1.s=nCut
  .rw[EL c3];intro x hx;rw[show x=mkI 7 0 by simpa using hx];exact PI.plain _ _
  rw[EG c3];by_cases O:(zo t).1.s=nAnd
  .rw[EL O];let ⟨a,c,e,g,o,E⟩:=h.two<|.inl O;let ⟨_,j⟩:=lx e;have g:=g.le (m:=n*n+n) za za za;have o:=o.le (m:=n*n+n) za za za;rw[e];have b1:=uV n za false a s p za g y za;intro x hx;rcases Sb.1 (show x∈(bodC n false a s p).2++(bodC n f c (bodC n false a s p).1<|p+(bodC n false a s p).2.length).2 from hx) with hx|hx
   .exact XR n za false a s p za g za y za (i a<|by rw[e];simp) x hx
   .exact XR n za f c _ _ za o za za za (i c<|by rw[e];simp) x hx
  rw[EG O];by_cases T:(zo t).1.s=nOr
  .rw[EL T];let ⟨a,c,e,g,o,E⟩:=h.two<|.inr T;let ⟨_,j⟩:=lx e;have g:=g.le (m:=n*n+n) za za za;have o:=o.le (m:=n*n+n) za za za;rw[e,show at0 [a,c]=a from rfl,show at1 [a,c]=c from rfl];have b1:=uV n za false a s (p+1) za g y za;have i1:=XR n za false a s (p+1) za g za y za<|i a<|by rw[e];simp
   generalize bodC n false a s (p+1)=r at*;have i2:=XR n za false c r.1 (p+1+r.2.length+1) za o za za za<|i c<|by rw[e];simp
   intro x hx;unfold bodO at hx;rcases S4.1 hx with rfl|hx
   .exact PI.plain _ _
   rcases Sb.1 hx with hx|hx
   .exact i1 x hx
   rcases S4.1 hx with rfl|hx
   .exact PI.plain _ _
   .exact i2 x hx
  rw[EG T];by_cases F:(zo t).1.s=nPi
  .rw[EL F];let ⟨a,e,C,g,E⟩:=h.one za<|.inl F;rw[e,show at0 [a]=a from rfl];have j:=rL e;have S:=cC C.1;have I:=suV_bk s<|y8 a;have b:=jl (zo t).1;rw[F] at b;have b:=b;have w2:=jf s<|y8 a;have M:=(g.suV (v:=s) za y za).le (m:=n*n+n) za za za;have i1:=XR n za false (suT 0 (vN4 s) (y8 a) 0) (s+1) (p+1) za M za za za<|suV_tI s<|dQ<|i a<|by rw[e];simp
   intro x hx;unfold bodP at hx;rcases S4.1 hx with rfl|hx
   .exact PI.plain _ _
   rcases Sb.1 hx with hx|hx
   .exact i1 x hx
   .rw[show x=mkI 12 0 by simpa using hx];exact PI.plain _ _
  rw[EG F];by_cases G:(zo t).1.s=nSig
  .rw[EL G];let ⟨a,e,C,g,E⟩:=h.one za<|.inr G;rw[e,show at0 [a]=a from rfl];have j:=rL e;have S:=cC C.1;have I:=suV_bk s<|y8 a;have b:=jl (zo t).1;rw[G] at b;have b:=b;have w2:=jf s<|y8 a;have M:=(g.suV (v:=s) za y za).le (m:=n*n+n) za za za;have i1:=XR n za f (suT 0 (vN4 s) (y8 a) 0) (s+1) (p+1) za M za za za<|suV_tI s<|dQ<|i a<|by rw[e];simp
   intro x hx;unfold bodS at hx;rcases S4.1 hx with rfl|hx
   .exact PI.plain _ _
   .exact i1 x hx
  rw[EG G];by_cases c8:(zo t).1.s=nImp
  .rw[EL c8];let ⟨a,c,e,C,wa,V,o,E,H⟩:=ao za hw J c8 s y za;rw[e,show at0 [a,c]=a from rfl,show at1 [a,c]=c from rfl];let ⟨_,j⟩:=lx e;have b:=jl (zo t).1;rw[c8] at b;have b:=b;have hb6:=jl a;have hb7:=jl c;have i1:=XR n za false c s (p+1) za o za y za<|i c<|by rw[e];simp
   have N:xA n true a=(clsF false n true 0 [] a).2:=by unfold xA;rw[EL V]
   have A:∀d∈(xA n true a).map λc=>w8 (bodC n) c s,zC d/\nbC d/\tC d:=λd hd=>by
    obtain⟨x,hx,rfl⟩:=SG.1 hd;rw[N] at hx;let ⟨o1,o2,o3⟩:=H x hx;let ⟨r1,L',r2,r3⟩:=YO true n za 0 [] a C V x hx;rw[gms] at r3;let ⟨⟨v0,v1⟩,⟨f0,f1⟩,hT,Z,L⟩:=o1;have hR:VR (zJ x.1.toNat s):=Ye f0 za za;let ⟨g1,w1⟩:=GG.open za hR.2 Z;have ob:=op_bk (zJ x.1.toNat s) x.2.2;have hf:x.2.2.bk<=1000000000:=by rw[r2];exact fold_bk L' za za
    have tI:=jF false true n 0 [] a (λu w=>nomatch w) (i a<|by rw[e];simp) x hx;exact comp_z za ⟨⟨v0,v1⟩,⟨f0,f1⟩,hT,Z,L⟩ tI.1 (by have:=o2.2.1;omega) za<|XR n za true _ _ _ za g1 za za za<|op_tI _ tI.2
   have hlen:=vH false n true 0 [] a;have hz:=C.2.1;intro x hx;unfold bodI at hx;rcases S4.1 hx with rfl|hx
   .exact⟨⟨⟨by show 1<=B;simp only[B];omega,by show 0<=B;omega,by show((xA n true a).map λc=>w8 (bodC n) c s).length<=B;rw[Sn,N];simp[B];omega,zCs_of λd hd=>(A d hd).1⟩,bd_no _,(λu w=>nomatch w),mW λd hd=>(A d hd).2.1⟩,⟨by show 1<=2000;omega,Ym⟩,(λu w=>nomatch w),by show((xA n true a).map λc=>w8 (bodC n) c s).length<=300;rw[Sn,N];have:=Yp a;omega,tCs_of λd hd=>(A d hd).2.2⟩
   rcases Sb.1 hx with hx|hx
   .exact i1 x hx
   .rw[show x=mkI 15 0 by simpa using hx];exact PI.plain _ _
  rw[EG c8];have E:=aQ t;by_cases W:(zo t).1.s=nEq
  .rw[EL W];intro x hx;rw[show x=.mk 5 0 noT0 (zo t).2 [] by simpa using hx];exact PI.row _ _ (by simp[B];omega) (pw z) λu w=>⟨by have:=Zw w;omega,i u w⟩
  rw[EG W];by_cases D:numB (zo t).1.s=true
  .rw[EL D];intro x hx;rw[show x=.mk 6 0 t [] [] by simpa using hx];exact PI.term _ _ (by simp[B];omega) z ⟨za,K⟩
  rw[EG D];intro x hx;rw[show x=.mk (if f=true then 3 else 2) 0 t [] [] by simpa using hx];exact PI.term _ _ (by simp[B];omega) z ⟨za,K⟩
abbrev N0:Nat:=300
abbrev cd0:Cd:=.mk [] 0 0 0 0 []
abbrev aCE (x:Cd×Int):TV:=.tup [(true,cCd x.1),(false,[qi x.2])]
def X9 (ok:Bool)(c:Cd):Cd×Int:=bif ok&&vC c then(c,0) else(cd0,240)
def w4 (c:Cl):Cd×Int:=X9 (vI N0 [c] W2 0)<|ij N0 c
def Kn (g:Tm)(vars:Int):Cd×Int:=X9 (vI N0 [] g vars)<|ia N0 g vars
def TS (t:Tm):Prop:=t.bk<=100000000/\wt t<=N0/\bd 1000000 t/\tmI t
def TS.tb {t:Tm}(h:TS t):TB N0 t:=⟨by have:=h.1;simp only[B];omega,by have:=h.2.1;have:=Yp t;simp only[N0] at*;omega,vD (by simp only[N0];omega) _ h.2.2.1,h.2.1⟩
def TS.tg {t:Tm}(h:TS t)(b:zt t=true)(M:Nat)(d:M<=1000000000):TG M t:=⟨b,h.tb.2.1,vD za _ h.2.2.1⟩
def TS.gg {t:Tm}(h:TS t)(b:zt t=true)(d:zE false N0 t=0):GG (N0*N0+N0) t:=
 ⟨h.tg b _ zc,by have:=h.2.1;simp only[N0] at*;omega,by rw[dG false (m:=N0) h.2.1 _ zc zc<|h.tg b _ zc];exact d⟩
def ts_true:TS W2:=⟨by show 5<=_;omega,by show 4<=300;omega,⟨λe=>absurd e<|by show¬(0:Int)=3;omega,trivial⟩,xh zc λu b=>nomatch b⟩
def lI {c:Cl}(g:TS c.2.1)(b:TS c.2.2)(h:vI N0 [c] W2 0=true):OKc N0 c 0/\clB N0 c=true:=by unfold vI at h;rw[EN,EN,EN,G0,List.all_nil,Gi,EN] at h;have e:=(clB_iff _ _).1 h.2.2.2;obtain⟨⟨d,j⟩,⟨w1,_⟩,⟨i,_⟩,_,f⟩:=e;exact⟨⟨⟨d,za⟩,⟨EQ 0,by simp only[N0];omega⟩,g.tg w1 _ zc,b.gg i f,b.2.1⟩,h.2.2.2⟩
def nW {c:Cl}(b:TS c.2.1)(d:TS c.2.2)(h:OKc N0 c 0):zC (ij N0 c)/\nbC (ij N0 c)/\tC (ij N0 c):=by have g:=h;obtain⟨⟨j,p⟩,⟨f0,f1⟩,r,f,o⟩:=h;have e:VR (zJ c.1.toNat 0):=Ye f0 za za;obtain⟨i,w1⟩:=GG.open zc e.2 f;have m:=op_bk (zJ c.1.toNat 0) c.2.2;have:=b.1;have:=d.1;exact comp_z zc g b.2.2.2 (by have:=b.2.1;simp only[N0] at*;omega) za<|XR N0 zc true _ _ _ za i za za (by have:(N0*N0:Nat)=90000:=rfl;simp only[N0] at*;omega)<|op_tI _ d.2.2.2
def leCd0:TV.Le (.tup [(true,[qf<|.str [],qi 0,qi 0,qi 0,qi 0,qf .N]),(false,[qi 240])]) (aCE (cd0,240)):=
 Zr ⟨⟨rfl,.refl _,.refl _,.refl _,.refl _,.refl _,.a _ _<|.fz _ _<|.N 8,trivial⟩,lwR _,trivial⟩
def KG {ok:Bool}{c:Cd}(h:(ok&&vC c)=false):X9 ok c=(cd0,240):=by unfold X9;rw[h];rfl
def cA {c:Cd}(h:vC c=true):X9 true c=(c,0):=by unfold X9;rw[h];rfl
def c_pchk (c:Cd)(b:zC c)(d:nbC c):AC EF 32 [aC c] [] (aCE<|X9 true c) []:=by
 have h:=KD c b d;refine acv (v32 c.nm c.ar c.fr c.vs c.sl (FIs c.ins) ..) ?_;refine⟨_,h,zm (λq=>?_) λq=>?_⟩
 .rw[KG<|by rw[SL];exact zl q];exact⟨leCd0,rfl⟩
 .rw[cA<|zl q];exact rrl
def Ax (c:Cl)(b:TS c.2.1)(e:TS c.2.2):AC EF 28 [aCl c] [] (aCE<|w4 c) []:=by
 have cr:=(bU N0 zc [c] W2 0 ts_true.tb (by show 1<=B;simp only[B];omega) λd hd=>by rw[show d=c by simpa using hd];exact⟨b.tb,e.tb⟩).args (args:=[aCls [c],.agg [qi 0,qf<|.str lY,qi 0,qf .N],ci 0]) ⟨.refl _,leT yY,.refl _,trivial⟩;refine acv (v28 ..) ?_;refine⟨⟨rfl,EI _⟩,_,cr,rfl,zm (λq=>?_) λq=>?_⟩
 .unfold w4;rw[KG<|by rw[show vI N0 [c] W2 0=false by simpa using q];rfl];exact⟨leCd0,rfl⟩
 .have f:vI N0 [c] W2 0=true:=zl q;obtain⟨g,_⟩:=lI b e f;obtain⟨h,i,_⟩:=nW b e g;unfold w4;rw[f];exact⟨ij N0 c,dR zc (mI N0 zc) c 0 g,_,c_pchk _ h i,.refl _,rfl⟩
def KB {g:Tm}{b:Int}(d:TS g)(h:vI N0 [] g b=true):(0<=b/\b<=4096)/\GG (N0*N0+N0) g:=by unfold vI at h;rw[EN,EN,EN,EN,decide_eq_true_iff,decide_eq_true_iff,bn,Sw] at h;exact⟨h.1,d.gg h.2.1.1 h.2.2.1⟩
def se {g:Tm}{b:Int}(d:TS g)(h:GG (N0*N0+N0) g)(i:0<=b)(o:b<=4096):zC (ia N0 g b)/\nbC (ia N0 g b)/\tC (ia N0 g b):=by
 have j:=d.2.1;have p:=d.1;have e:(N0*N0:Nat)=90000:=rfl;have bb:=uV N0 zc true g b 0 j h i (by simp only[N0] at*;omega);have m:=pN (bodC N0 true g b 0).2;refine code_z (by show 5<=B;simp only[B];omega) (by simp only[B,N0] at*;omega) λx f=>?_;rcases pK f with f|rfl
 .exact XR N0 zc true g b 0 j h za i (by simp only[N0] at*;omega) d.2.2.2 x f
 .exact PI.plain _ _
def c_pgoal (g:Tm)(b:Int)(f:TS g):AC EF 13 [aT g,ci b] [] (aCE<|Kn g b) []:=by
 have cr:=(bU N0 zc [] g b f.tb (by show 0<=B;omega) λd hd=>by cases hd).args (args:=[.c<|qf .N,aT g,ci b]) ⟨.c _ _<|.a _ _<|.fz _ _<|.N 9,.refl _,.refl _,trivial⟩;refine acv (v13 g.k g.s g.n (FTs g.l) b ..) ?_;refine⟨_,cr,zm (λq=>?_) λq=>?_⟩
 .unfold Kn;rw[KG<|by rw[show vI N0 [] g b=false by simpa using q];rfl];exact⟨leCd0,rfl⟩
 .have h:vI N0 [] g b=true:=zl q;obtain⟨⟨i,r⟩,j⟩:=KB f h;obtain⟨m,p,_⟩:=se f j i r;have o:=f.2.1;have e:(N0*N0:Nat)=90000:=rfl;have k:=c_pfin (n:=N0) zc (mI N0 zc) g b [] 0 rfl o j i (by simp only[N0] at*;omega) (by show 0+_<=_;simp only[N0] at*;omega);rw[SD] at k;unfold Kn;rw[h];refine⟨(_,_),k,⟨rfl,by rw[zP];simp⟩,_,?_,.refl _,rfl⟩;rw[Sg,EV<|by rw[zP];exact EI _];exact c_pchk (ia N0 g b) m p
def s8 {c:Cl}(e:TS c.2.1)(f:TS c.2.2)(h:(w4 c).2=0):CdOk (w4 c).1/\nbC (w4 c).1:=by
 unfold w4 at h ⊢;cases b:vI N0 [c] W2 0 with
 |false=>rw[b] at h;cases h
 |true=>
  obtain⟨j,_⟩:=lI e f b;obtain⟨i,m,g⟩:=nW e f j;rw[b] at h;cases d:vC (ij N0 c) with
  |false=>rw[KG<|by rw[d];rfl] at h;cases h
  |true=>rw[cA d];exact⟨⟨d,i,g⟩,m⟩
def goal_ok {g:Tm}{b:Int}(f:TS g)(h:(Kn g b).2=0):CdOk (Kn g b).1/\nbC (Kn g b).1:=by
 unfold Kn at h ⊢;cases d:vI N0 [] g b with
 |false=>rw[d] at h;cases h
 |true=>
  obtain⟨⟨m,p⟩,o⟩:=KB f d;obtain⟨j,r,i⟩:=se f o m p;rw[d] at h;cases e:vC (ia N0 g b) with
  |false=>rw[KG<|by rw[e];rfl] at h;cases h
  |true=>rw[cA e];exact⟨⟨e,j,i⟩,r⟩
abbrev oPs:List Cd->List AObj
 |[]=> []
 |c::l=> [.arz 6<|FCs<|c::l]
abbrev wPs:List Cd->TV
 |[]=>.c<|.a<|.fz .N
 |c::l=>.c<|.a<|.osl 0 6 0 (c::l).length
abbrev oxPs (l:List Cd):=numO 0<|oPs l
def nxPs:List Cd->Nat
 |[]=>0
 |_::_=>1
abbrev stPg (L:List Cl)(i:Int)(out:List Cd):St:=⟨[(4,wPs out),(9,aCls L),(10,ci<|((CLs L).length)),(11,ci i)],oxPs out,nxPs out⟩
abbrev tPg (l:List Cd)(e:Int):TV:=.tup [(false,[qf<|.sl false 6<|FCs l]),(false,[qi e])]
def KC (l x):FCs l++[[.str x.nm,.int .i64 x.ar,.int .i64 x.fr,.int .i64 x.vs,.int .i64 x.sl,.sl false 8<|FIs x.ins]]=FCs (l++[x]):=by rw[kv,kv,SN];show _=List.map FC l++[FC x];rw[xE x]
def lePg0 (e):TV.Le (.tup [(false,[qf .N]),(false,[qi e])]) (tPg [] e):=
 Zr ⟨lw1<|.a _ _<|.fz _ _<|.N 6,lwR _,trivial⟩
def PgOk (l:List Cd)(n:Nat):Prop:=l.length<=n/\∀c∈l,CdOk c/\nbC c
def l_prog (L)(y:L.length<=20)(h:∀c∈L,TS c.2.1/\TS c.2.2):∀(b a) (f),L=a++b->PgOk f a.length->
  ∃l e,RPt EF 11 0 (tPg l e) [] 1 (stPg L a.length f)/\(e=0->PgOk l L.length)
 |[],a,f,i,o=>by
  have r:¬a.length<(((CLs L).length):Int):=by rw[yd,i];simp
  refine⟨f,0,?_,λ_=>⟨by rw[i];exact zl o.1,o.2⟩⟩
  match f with
  |[]=>exact rpv (hU ..)<|bF r ⟨lePg0 0,rfl⟩
  |x::l=>refine rpv (mU ..)<|bF r ⟨⟨rfl,by rw[y3];omega⟩,?_⟩;rw[Sg,EV<|by rw[y3];exact EI _];exact rrl
 |c::b,a,f,i,o=>by
  have C:a.length<=20:=by rw[i] at y;simp at y;omega
  have g:a.length<(((CLs L).length):Int):=by rw[yd,i];simp;omega
  have u:=h c (by rw[i];simp);have v:=Ax c u.1 u.2;have p:=lr a c b;rw[<-i] at p;have F:FV.L 9 (.sl false 9<|CLs L)=true/\(0<=a.length/\(a.length<(((CLs L).length):Int)/\True)):=⟨rfl,za,g,trivial⟩;cases j:decide ((w4 c).2=0) with
  |false=>
   have j:=ES j;refine⟨[],(w4 c).2,?_,λh=>absurd h j⟩
   match f with
   |[]=>refine rpv (hU ..) ?_;rw[p];exact bT g ⟨⟨rfl,za,g,rfl⟩,_,v,zm (λ_=>⟨lePg0 _,rfl⟩) λw=>absurd (zl w) j⟩
   |x::l=>refine rpv (mU ..) ?_;rw[p];exact bT g ⟨⟨rfl,za,g,rfl⟩,_,v,zm (λ_=>⟨lePg0 _,rfl⟩) λw=>absurd (zl w) j⟩
  |true=>
   have j:=S0 j;have ok:=s8 u.1 u.2 j
   let ⟨l,e,m,A⟩:=l_prog L y h b (a++[c]) (f++[(w4 c).1]) (by rw[i];simp) ⟨by have:=o.1;simp;omega,λd hd=>by
    rcases Sb.1 hd with hd|hd
    .exact o.2 d hd
    .rw[Si.1 hd];exact ok⟩
   refine⟨l,e,?_,A⟩;have E:((a++[c]).length)=wrap .i64 (a.length+1):=by rw[w64 za za];simp
   rw[E] at m;have z:=o.1
   match f,m with
   |[],m=>refine rpv (hU ..) ?_;rw[p];exact zm (λ_=>⟨⟨rfl,za,g,rfl⟩,_,v,zm (λw=>by rw[j] at w;cases w) λ_=>⟨EI _,zc,by have:=KC [] (w4 c).1;rw[FCs,SD] at this;rw[this];exact m⟩⟩) λw=>absurd g<|ES w
   |x::l2,m=>refine rpv (mU ..) ?_;rw[p];refine bT g ⟨⟨rfl,za,g,rfl⟩,_,v,zm (λw=>by rw[j] at w;cases w) λ_=>⟨EI _,⟨by rw[y3];exact EI _,by simp at z ⊢;unfold zw;omega⟩,?_⟩⟩;rw[EV<|by rw[y3];exact EI _,KC<|x::l2];have D:(x::l2).length+1=(x::(l2++[(w4 c).1])).length:=zb;rw[D];exact m
def c_pprog (L)(f:L.length<=20)(h:∀c∈L,TS c.2.1/\TS c.2.2):∃l e,AC EF 11 [aCls L] [] (tPg l e) []/\(e=0->PgOk l 20):=by let ⟨l,e,g,b⟩:=l_prog L f h L [] [] rfl ⟨EI _,λc d=>nomatch d⟩;exact⟨l,e,acv (v11 ..) ⟨rfl,g⟩,λh=>⟨by have:=(b h).1;omega,(b h).2⟩⟩
abbrev tCp (l:List Cd)(g:Cd)(b:Bool):TV:=.tup [(false,[qf<|.sl false 6<|FCs l]),(true,cCd g),(false,[qf<|.bool b])]
def gm (L)(m:L.length<=20)(h:∀c∈L,TS c.2.1/\TS c.2.2)(g)(f:TS g)(d):∃l c b,AC EF 6 [aCls L,aT g,ci d] [] (tCp l c b) []/\(b=true->PgOk l 20/\CdOk c/\nbC c):=by
 let ⟨l,e,j,o⟩:=c_pprog L m h;have i:=c_pgoal g d f;refine⟨l,(Kn g d).1,(e==0&&(Kn g d).2==0),acv (v6 ..) ⟨_,_,j,_,i,zm (λq=>⟨?_,rfl⟩) λq=>⟨?_,rfl⟩⟩,λq=>?_⟩
 .rw[show(e==0)=true from q,SL];exact .refl _
 .rw[show(e==0)=false from q,Sx];exact .refl _
 .rw[EN] at q;exact⟨o<|zl q.1,goal_ok f<|zl q.2⟩
def ovC (c:Cl):=large c.2.1 60||(large c.2.2 60||(!near 1000 c.2.1||(!near 1000 c.2.2||decide (c.1>20))))
abbrev stOv (L:List Cl)(i:Int):St:=⟨[(0,aCls L),(9,ci i)],[],0⟩
def l_ov (L)(i:L.length<=20)(h:∀c∈L,c.2.1.sz<=B/\c.2.2.sz<=B):∀(b a),L=a++b->RPt EF 5 0 (cb<|b.any ovC) [] 1 (stOv L a.length)
 |[],a,d=>by
  have j:¬a.length<(((CLs L).length):Int):=by rw[yd,d];simp
  exact rpv (v5_1a ..) ⟨rfl,bF j rrl⟩
 |c::b,a,d=>by
  have o:a.length<=20:=by rw[d] at i;simp at i;omega
  have e:a.length<(((CLs L).length):Int):=by rw[yd,d];simp;omega
  have g:=h c (by rw[d];simp);have m:=lr a c b;rw[<-d] at m;have ih:=l_ov L i h b (a++[c]) (by rw[d];simp);rw[show((a++[c]).length)=wrap .i64 (a.length+1) by rw[w64 za za];simp] at ih;have z:=dx c.2.1 g.1 60 za za;have w:=dx c.2.2 g.2 60 za za;have p:=mL 1000 za za c.2.1 g.1;have A:=mL 1000 za za c.2.2 g.2;have t:∀x,x=true->TV.Le (cb true) _/\([])=[]:=λx u=>by rw[u];exact rrl
  refine rpv (v5_1a ..) ?_;rw[m,SY,ovC];have f:FV.L 9 (.sl false 9<|CLs L)=true/\(0<=(a.length:Int)/\(a.length<(((CLs L).length):Int)/\(FL c)=FL c)):=⟨rfl,za,e,rfl⟩;refine⟨rfl,bT e ⟨f,_,z,f,_,w,f,_,p,f,_,A,zm (λq=>?_) λy=>zm (λq=>?_) λv=>zm (λq=>?_) λr=>zm (λq=>?_) λD=>⟨f,zm (λq=>?_) λC=>?_⟩⟩⟩
  .exact t _ (by rw[q];rfl)
  .exact t _ (by rw[q];simp)
  .exact t _ (by rw[q];simp)
  .exact t _ (by rw[q];simp)
  .exact t _ (by rw[show decide (c.1>20)=true from q];simp)
  .rw[y,v,r,D,show decide (c.1>20)=false from C];exact ih
def fG (L)(h:∀c∈L,c.2.1.sz<=B/\c.2.2.sz<=B)(g)(j:g.sz<=B)(d):∃b,AC EF 5 [aCls L,aT g,ci d] [] (cb b) []/\(b=false->L.length<=20/\L.any ovC=false/\large g 60=false/\near 1000 g=true/\d<=10):=by
 have e:=dx g j 60 za za;have i:=mL 1000 za za g j;by_cases f:L.length<=20
 .have o:=l_ov L f h L [] rfl;refine⟨large g 60||(!near 1000 g||(decide (d>10)||L.any ovC)),acv (v5 ..) ⟨_,e,_,i,rfl,bF (by rw[yd];omega) <| zm (λq=>⟨?_,rfl⟩) λm=>zm (λq=>⟨?_,rfl⟩) λr=>zm (λq=>⟨?_,rfl⟩) λp=>?_⟩,λq=>?_⟩
  .rw[q];exact .refl _
  .rw[q];simp[GU,GV];exact .refl _
  .rw[show decide _=true from q];simp[GU,GV];exact .refl _
  .rw[m,r,show decide _=false from p];exact o
  .simp only[Bool.or_eq_false_iff,Bool.not_eq_false',decide_eq_false_iff_not] at q;exact⟨f,q.2.2.2,q.1,q.2.1,za⟩
 .exact⟨true,acv (v5 ..) ⟨_,e,_,i,rfl,zm (λ_=>rrl) λq=>absurd (ES q)<|by rw[yd];omega⟩,λq=>by cases q⟩
def wt_szM:∀t,wt t<=4*t.sz:=by
 refine Tm.ind λt ih=>?_;let ⟨k,s,n,l⟩:=t
 have e:∀l2,(∀u∈l2,u∈l)->mss wb l2<=4*Tm.szs l2:=λl2=>by
  induction l2 with
  |nil=>intro _;exact EI _
  |cons x l2 b=>intro h;have d:=ih x<|h x ET;have g:=b λy f=>h y<|EP _ f;rw[Tm.szs,mss];unfold wt at d;omega
 have:=e l λ_ h=>h;unfold wt;rw[Tm.sz,ms];have h:wb k s<=4:=by unfold wb;split<;>omega
 omega
def TS.ofM {t}(g:t.bk<=2097152)(d:tmI t)(b:large t 60=false)(e:near 1000 t=true):TS t:=by have f:=large_sz b;have:=wt_szM t;exact⟨za,by simp[N0];omega,vD (M:=1000) za _<|oZ t e,d⟩
def ov_ts {L:List Cl}(b:∀c∈L,c.2.1.bk<=2097152/\c.2.2.bk<=2097152/\tmI c.2.1/\tmI c.2.2)(h:L.any ovC=false):∀c∈L,TS c.2.1/\TS c.2.2:=λc d=>by have h:=List.any_eq_false.1 h c d;simp[ovC,Bool.or_eq_true,not_or,F5,SK,Bool.not_eq_false,Sf] at h;have b:=b c d;exact⟨.ofM b.1 b.2.2.1 h.1 h.2.2.1,.ofM b.2.1 b.2.2.2 h.2.1 h.2.2.2.1⟩
abbrev tRn (z:Tm×List Int):TV:=.tup [(true,cT z.1),(false,[qf<|.sl false 1<|IR z.2])]
abbrev wRn:List Tm->WV
 |[]=>.a<|.fz .N
 |x::l=>.a<|.osl 3 4 0 (x::l).length
abbrev oRn:List Tm->AHeap
 |[]=> []
 |x::l=> [(3,.arz 4<|FTs<|x::l)]
def nRn:List Tm->Nat
 |[]=>3
 |_::_=>4
abbrev nTm:AObj:=.arr 4 [[qi 0,qf<|.str [],qi 0,qf .N]]
abbrev stRn (k:Int)(s:List UInt8)(n:Int)(l:List Tm)(V:List Int)(out:List Tm)(i:Int):St:=⟨[(1,.c<|qf<|.sl false 1<|IR V),(2,.c<|.a<|.ep 0 4 0 0),(4,.c<|.a<|.ep 1 4 0 0),(8,.c<|.a<|.ep 2 4 0 0),(9,ci i)],(0,.arr 4 [[qi k,qf<|.str s,qi n,qf<|.sl false 4<|FTs l]])::(1,nTm)::(2,.arr 4 [[qi k,qf<|.str s,qi n,wRn out]])::oRn out,nRn out⟩
def RnOk (t:Tm)(V:List Int)(z:Tm×List Int):Prop:=z.1.sz<=t.sz/\z.2.length<=V.length+t.sz
def l_rn5 (k s n l)(m:l.length<=1000000000)(ih:∀t∈l,∀V,V.length+t.sz<=15000000000000->∃z,AC EF 27 [aT t,.c<|qf<|.sl false 1<|IR V] [] (tRn z) []/\RnOk t V z):
  ∀(b a d) (V),l=a++b->d.length=a.length->V.length+Tm.szs b<=15000000000000->∃z,RPt EF 27 0 (tRn z) [] 5 (stRn k s n l V d a.length)/\z.1.sz<=1+Tm.szs d+Tm.szs b/\z.2.length<=V.length+Tm.szs b
 |[],a,d,V,e,g,r=>by
  have i:¬a.length<(((FTs l).length):Int):=by rw[zn,e];simp
  refine⟨(.mk k s n d,V),?_,by rw[Tm.sz];omega,Nat.le_add_right ..⟩
  match d with
  |[]=>exact rpv (v27_5a ..) ⟨rfl,bF i ⟨Zr ⟨⟨rfl,.refl _,.refl _,.refl _,.a _ _<|.fz _ _<|.N 4,trivial⟩,lwR _,trivial⟩,rfl⟩⟩
  |x::q=>refine rpv (v27_5b ..) ⟨rfl,bF i ⟨⟨⟨rfl,by rw[zn];omega⟩,trivial⟩,?_⟩⟩;rw[Sg,EV<|by rw[zn];exact EI _];exact rrl
 |t::b,a,d,V,e,g,r=>by
  rw[Tm.szs] at r;have p:a.length<=1000000000:=zd;let ⟨z,u,E,D⟩:=ih t zd V za;let ⟨y,f,w,A⟩:=l_rn5 k s n l m ih b (a++[t]) (d++[z.1]) z.2 (by rw[e];simp) (by simp[g]) za;have C:Tm.szs (d++[z.1])=Tm.szs d+z.1.sz:=by
   clear f w g
   induction d with
   |nil=>simp[Tm.szs]
   |cons x q ih=>rw[SE,Tm.szs,ih,Tm.szs];omega
  refine⟨y,?_,by rw[Tm.szs];omega,by rw[Tm.szs];omega⟩;have j:=vW a t b;have o:=wy a t b;have h:=ltI' a t b;rw[<-e] at j o h;rw[show((a++[t]).length)=wrap .i64 (a.length+1) by rw[w64 za za];simp] at f
  match d,g,f with
  |[],g,f=>refine rpv (v27_5a ..) ?_;rw[j];exact⟨rfl,bT h ⟨⟨rfl,za,h,o⟩,z,u,EI _,zc,by rw[show [FT4 z.1]=FTs [z.1] by rw[FTs,FTs,wG]];exact f⟩⟩
  |x::q,g,f=>refine rpv (v27_5b ..) ?_;rw[j];have v:(x::q).length+1=(x::(q++[z.1])).length:=zb;exact⟨rfl,bT h ⟨⟨rfl,za,h,o⟩,z,u,EI _,⟨by rw[zn];exact EI _,by simp at g ⊢;unfold zw;omega⟩,by rw[lh (x::q) z.1,v];exact f⟩⟩
def l_rn1 (k s n l V)(h:V.length<=15000000000000):∀(b a),V=a++b->
  ∃z,RPt EF 27 0 (tRn z) [] 1 ⟨[(1,.c<|qf<|.sl false 1<|IR V),(2,.c<|.a<|.ep 0 4 0 0),(4,.c<|.a<|.ep 1 4 0 0),(6,ci a.length)],[(0,.arr 4 [[qi k,qf<|.str s,qi n,qf<|.sl false 4<|FTs l]]),(1,nTm)],2⟩/\z.1.sz=1/\z.2.length<=V.length+1
 |[],a,d=>by
  have i:¬a.length<(((IR V).length):Int):=by rw[zD,d];simp
  refine⟨(.mk 4 [] V.length [],V++[n]),?_,rfl,zb⟩;have j:∀x,TV.Le (.tup [(true,[qi 4,qf<|.str [],qi x,qf .N]),(false,[qf<|.sl false 1<|IR<|V++[n]])]) (tRn (.mk 4 [] x [],V++[n])):=λx=>Zr ⟨⟨rfl,.refl _,.refl _,.refl _,.a _ _<|.fz _ _<|.N 4,trivial⟩,lwR _,trivial⟩;have e:IR V++[[.int .i64 n]]=IR (V++[n]):=by simp[IR]
  refine rpv (rq ..) ⟨rfl,bF i ⟨rfl,zm (λw=>?_) λw=>?_⟩⟩
  .have g:V=[]:=by cases V with|nil=>rfl|cons x V=>cases w
   subst g;exact⟨rfl,EI _,zc,⟨rfl,EI _⟩,j _,rfl⟩
  .refine⟨by rw[zD];unfold zw;omega,rfl,EI _,⟨EI _,by rw[zD];unfold zw;omega⟩,⟨rfl,zb⟩,?_⟩;rw[Sg,EV<|EI (IR V).length,e,EV<|by simp[zD],zD];exact⟨j _,rfl⟩
 |x::b,a,d=>by
  have f:a.length<(((IR V).length):Int):=by rw[zD,d];simp;omega
  have m:a.length<=15000000000000:=by rw[d] at h;simp at h;omega
  have p:=ir_el V (toNat a.length) (by rw[zD] at f;omega);by_cases g:(FV.I<|getD (getD (IR V) (toNat a.length) []) 0 FV.N)=n
  .refine⟨(.mk 4 [] a.length [],V),?_,rfl,zb⟩;exact rpv (rq ..) ⟨rfl,bT f ⟨⟨rfl,za,f,p⟩,zm (λ_=>⟨Zr ⟨⟨rfl,.refl _,.refl _,.refl _,.a _ _<|.fz _ _<|.N 4,trivial⟩,lwR _,trivial⟩,rfl⟩) λw=>absurd g<|zl w⟩⟩
  .let ⟨z,o,r⟩:=l_rn1 k s n l V h b (a++[x]) (by rw[d];simp);rw[show((a++[x]).length)=wrap .i64 (a.length+1) by rw[w64 za za];simp] at o;refine⟨z,?_,r⟩;exact rpv (rq ..) ⟨rfl,bT f ⟨⟨rfl,za,f,p⟩,zm (λw=>absurd (zl w) g) λ_=>o⟩⟩
def c_rnm:∀t,t.sz<=1000000000->∀V,V.length+t.sz<=15000000000000->∃z,AC EF 27 [aT t,.c<|qf<|.sl false 1<|IR V] [] (tRn z) []/\RnOk t V z:=by
 refine Tm.ind λt ih o V h=>?_;let ⟨k,s,n,l⟩:=t;have m:(Tm.mk k s n l).sz=1+Tm.szs l:=by rw[Tm.sz]
 have g:=Tm.szs_length l;by_cases e:k=4
 .let ⟨z,d,i,j⟩:=l_rn1 k s n l V za V [] rfl;exact⟨z,acv (v27 k s n _ ..)<|zm (λ_=>d) λw=>absurd e<|zl w,za,za⟩
 .by_cases b:k=5\/k=6
  .let ⟨z,d,i,j⟩:=l_rn5 k s n l za (λt f V h=>ih t f (by have:=Tm.szs_mem f;omega) V h) l [] [] V rfl rfl za;refine⟨z,acv (v27 k s n _ ..)<|zm (λw=>absurd (zl w) e) λ_=>zm (λw=>?_) λ_=>d,by rw[Tm.szs] at i;omega,za⟩;have p:k≠5:=zl w;exact zm (λw=>absurd za (show¬k=6 by simpa using w)) λ_=>d
  .refine⟨(.mk k s n l,V),acv (v27 k s n _ ..)<|zm (λw=>absurd (zl w) e) λ_=>zm (λ_=>zm (λ_=>rrl) λw=>absurd (.inr<|zl w) b) λw=>absurd (.inl<|zl w) b,EI _,Nat.le_add_right ..⟩
abbrev uX (k:Int)(vs:List Tm)(e:Int):List FV:=[.int .i64 k,.sl false 4<|FTs vs,.int .i64 e]
abbrev wMet:Option (List Int)->FV
 |none=>.N
 |some V=>.sl false 1<|IR V
abbrev stAl (k:Int)(vs:List Tm)(e:Int)(V:Option<|List Int)(i:Int):St:=⟨[(0,.c<|qf<|.sl false 3 [uX k vs e]),(1,.c<|qf<|.sl false 3 [uX k vs e]),(5,ci 0),(6,.c<|qf<|wMet V),(7,.c<|qf<|wMet V),(8,ci i)],[],0⟩
abbrev AlG (k:Int)(vs:List Tm)(e:Int):=RPt EF 10 0 (cb true) [] 1 ⟨[(0,.c<|qf<|.sl false 3 [uX k vs e]),(1,.c<|qf<|.sl false 3 [uX k vs e]),(5,ci<|wrap .i64<|0+1)],[],0⟩
def l_al (k vs e)(v:∀t∈vs,t.sz<=10000000)(o:vs.length<=1000000)(r:AlG k vs e):∀(b a) (V),vs=a++b->(V=none->a=[])->(V.getD []).length+b.length*10000000<=15000000000000->RPt EF 10 0 (cb true) [] 5 (stAl k vs e V a.length)
 |[],a,V,d,A,x=>by
  have i:¬a.length<(((FTs vs).length):Int):=by rw[zn,d];simp
  have g:FV.L 3 (.sl false 3 [uX k vs e])=true/\((0:Int)<=0/\(0<(1:Int)/\(uX k vs e=uX k vs e))):=⟨rfl,za,za,rfl⟩
  match V with
  |none=>exact rpv (v10_5a ..) ⟨g,rfl,bF i r⟩
  |some V=>exact rpv (v10_5b ..) ⟨g,rfl,bF i r⟩
 |t::b,a,V,d,A,x=>by
  have g:FV.L 3 (.sl false 3 [uX k vs e])=true/\((0:Int)<=0/\(0<(1:Int)/\(uX k vs e=uX k vs e))):=⟨rfl,za,za,rfl⟩;have C:=v t zd;have w:a.length<=1000000:=zd;simp[EH] at x;let ⟨z,f,E,D⟩:=c_rnm t za (V.getD []) za;have ih:=l_al k vs e v o r b (a++[t]) (some z.2) (by rw[d];simp) (λh=>by cases h) (by show z.2.length+_<=_;omega);rw[show((a++[t]).length)=wrap .i64 (a.length+1) by rw[w64 za za];simp] at ih;have p:=c_rsame z.1 (by simp[B];omega) z.1;rw[(f8 _ _).2 rfl] at p;have u:=vW a t b;have y:=wy a t b;have j:=ltI' a t b;rw[<-d] at u y j;have m:FV.L 4 (.sl false 4<|FTs vs)=true/\(0<=(a.length:Int)/\(a.length<(((FTs vs).length:Nat):Int)/\rE (getD (FTs vs) (toNat (a.length:Int)) [])=getD (FTs vs) (toNat (a.length:Int)) [])):=⟨rfl,za,j,y⟩;rw[<-u] at f
  match V,f with
  |none,f=>
   have f:=f.args (args:=[aE<|getD (FTs vs) (toNat (a.length:Int)) [],.c<|qf .N]) ⟨.refl _,.c _ _<|.a _ _<|.fz _ _<|.N 1,trivial⟩;exact rpv (v10_5a ..) ⟨g,rfl,bT j ⟨g,m,z,f,g,m,z,f,true,p,bN ih⟩⟩
  |some V,f=>exact rpv (v10_5b ..) ⟨g,rfl,bT j ⟨g,m,z,f,g,m,z,f,true,p,bN ih⟩⟩
def t8 (k vs e)(f:∀t∈vs,t.sz<=10000000)(h:vs.length<=1000000):AC EF 10 [.c<|qf<|.sl false 3 [uX k vs e],.c<|qf<|.sl false 3 [uX k vs e]] [] (cb true) []:=by
 have b:FV.L 3 (.sl false 3 [uX k vs e])=true/\((0:Int)<=0/\(0<(1:Int)/\(uX k vs e=uX k vs e))):=⟨rfl,za,za,rfl⟩;have g:AlG k vs e:=by refine rpv (v10_1a ..) ⟨rfl,bF (by show¬wrap .i64 _<1;decide) rrl⟩
 have d:=l_al k vs e f za g vs [] none rfl (λ_=>rfl) (by show 0+_<=_;omega);refine acv (v10 ..) ⟨rfl,rfl,zm (λw=>absurd w zb) λ_=>?_⟩;exact rpv (v10_1a ..) ⟨rfl,bT (show 0<1 by decide) ⟨b,b,zm (λw=>absurd w zb) λ_=>⟨b,b,zm (λw=>absurd w zb) λ_=>⟨b,rfl,b,rfl,zm (λw=>absurd w zb) λ_=>d⟩⟩⟩⟩
section
variable {β:Type}
def oN (n:Nat)(K:Nat->β):=match n with
 |0=>K 0
 |k+1=>K<|k+1
def oI (n:Int)(K:Int->β):=match n with
 |.ofNat k=>oN k λk=>K<|.ofNat k
 |.negSucc k=>oN k λk=>K<|.negSucc k
def oL {α:Type}(f:α->(α->β)->β):List α->(List α->β)->β
 |[],K=>K []
 |x::l,K=>f x λx=>oL f l λl=>K<|x::l
def o1 {α:Type}(x:α)(K:α->β):=K x
def oB (b:Bool)(K:Bool->β):=match b with
 |true=>K true
 |false=>K false
def oF (x:FV)(K:FV->β):=match x with
 |.int k n=>oI n λn=>K<|.int k n
 |.bool b=>oB b λb=>K<|.bool b
 |.str l=>oL o1 l λl=>K<|.str l
 |.sl nn n es=>oB nn λnn=>oN n λn=>oL (oL o1) es λes=>K<|.sl nn n es
 |.pt cs=>oL o1 cs λcs=>K<|.pt cs
 |.mp es=>oL o1 es λes=>K<|.mp es
 |.z0 nn=>oB nn λnn=>K<|.z0 nn
 |.N=>K .N
 |.cst v=>K<|.cst v
def oA (x:AV)(K:AV->β):=match x with
 |.fz x=>oF x λx=>K<|.fz x
 |.ep o n i j=>oN o λo=>oN n λn=>oN i λi=>oN j λj=>K<|.ep o n i j
 |.osl o n i j=>oN o λo=>oN n λn=>oN i λi=>oN j λj=>K<|.osl o n i j
 |.mp o=>oN o λo=>K<|.mp o
 |.bld t o=>oN t λt=>oN o λo=>K<|.bld t o
 |.osb o e n=>oN o λo=>oN e λe=>oN n λn=>K<|.osb o e n
 |.any=>K .any
def oP {α γ:Type}(f:α->(α->β)->β)(g:γ->(γ->β)->β)(p:α×γ)(K:α×γ->β):=match p with
 |(a,b)=>f a λa=>g b λb=>K (a,b)
def oW (x:WV)(K:WV->β):=match x with
 |.a x=>oA x λx=>K<|.a x
 |.fn f a b=>oL (oP oB<|oL oA) a λa=>oL (oP oB<|oL oA) b λb=>K<|.fn f a b
def oT (x:TV)(K:TV->β):=match x with
 |.any=>K .any
 |.c x=>oW x λx=>K<|.c x
 |.agg cs=>oL oW cs λcs=>K<|.agg cs
 |.tup vs=>oL (oP oB<|oL oW) vs λvs=>K<|.tup vs
def oO (x:AObj)(K:AObj->β):=match x with
 |.gone=>K .gone
 |.arr n es=>oN n λn=>oL (oL oW) es λes=>K<|.arr n es
 |.arz n fs=>oN n λn=>oL (oL oF) fs λfs=>K<|.arz n fs
 |.mapo es=>oL (oP (oP oB<|oL oF)<|oP oB<|oL oW) es λes=>K<|.mapo es
 |.mapz es=>oL (oP (oP oB<|oL oF)<|oP oB<|oL oF) es λes=>K<|.mapz es
def jK {α:Type}(f:α->(α->β)->β):Prop:=∀x K,f x K=K x
def yQ:jK (oN (β:=β)):=λx K=>by cases x<;>rfl
def opens_I:jK (oI (β:=β)):=λx K=>by cases x<;>(simp[oI];rw[yQ])
def Ja {α}:jK (o1 (α:=α) (β:=β)):=λ_ _=>rfl
def vQ:jK (oB (β:=β)):=λx K=>by cases x<;>rfl
def ye {α}{f:α->(α->β)->β}(h:jK f):jK (oL f):=λl=>by
 induction l with
 |nil=>exact λ_=>rfl
 |cons x l ih=>intro K;simp[oL];rw[h,ih]
def vV {α d}{f:α->(α->β)->β}{g:d->(d->β)->β}(e:jK f)(h:jK g):jK (oP f g):=λp K=>by let ⟨a,b⟩:=p;simp[oP];rw[e,h]
def Xo:jK (oF (β:=β)):=λx K=>by
 cases x<;>simp[oF]
 .rw[opens_I]
 .rw[vQ]
 .rw[ye Ja]
 .rw[vQ,yQ,ye<|ye Ja]
 .rw[vQ]
 .rw[ye Ja]
 .rw[ye Ja]
def dK:jK (oA (β:=β)):=λx K=>by
 cases x<;>simp[oA]
 .rw[Xo]
 .rw[yQ,yQ,yQ,yQ]
 .rw[yQ,yQ,yQ,yQ]
 .rw[yQ]
 .rw[yQ,yQ]
 .rw[yQ,yQ,yQ]
def YP:jK (oW (β:=β)):=λx K=>by
 cases x<;>simp[oW]
 .rw[dK]
 .rw[ye<|vV vQ<|ye dK,ye<|vV vQ<|ye dK]
def Xv:jK (oT (β:=β)):=λx K=>by
 cases x<;>simp[oT]
 .rw[YP]
 .rw[ye YP]
 .rw[ye<|vV vQ<|ye YP]
def bG:jK (oO (β:=β)):=λx K=>by
 cases x<;>simp[oO]
 .rw[yQ,ye<|ye YP]
 .rw[yQ,ye<|ye Xo]
 .rw[ye<|vV (vV vQ<|ye Xo)<|vV vQ<|ye YP]
 .rw[ye<|vV (vV vQ<|ye Xo)<|vV vQ<|ye Xo]
end
abbrev RunF:=FuncId->List TV->List AObj->Option (TV×List AObj)
def XQ (P:Program)(run:RunF):=∀f args Hs r Hs',run f args Hs=some (r,Hs')->AC P f args Hs r Hs'
def rJ:AV->AV->Bool
 |.fz (.int k n),.fz (.int k' n')=>(decide (k=k')&&decide (n=n'))
 |.ep a b c d,.ep a' b' c' d'=>Nat.beq a a'&&Nat.beq b b'&&Nat.beq c c'&&Nat.beq d d'
 |_,_=>false
def ac:List WV->List WV->Bool
 |[],[]=>true
 |.a x::l,.a y::r=>rJ x y&&ac l r
 |_,_=>false
def sameO:AObj->AObj->Bool
 |.arr n [e],.arr n' [e']=>Nat.beq n n'&&ac e e'
 |_,_=>false
def tT {x y}(h:rJ x y=true):x=y:=by
 unfold rJ at h;split at h
 .grind
 .simp_all
 .cases h
def fh:∀ {x y},ac x y=true->x=y
 |[],[],_=>rfl
 |.a x::l,.a y::r,h=>by simp[ac,EN] at h;rw[tT h.1,fh h.2]
 |[],_::_,h=>by cases h
 |.a _::_,[],h=>by cases h
 |.fn _ _ _::_,[],h=>by cases h
 |.fn _ _ _::_,.a _::_,h=>by cases h
 |.fn _ _ _::_,.fn _ _ _::_,h=>by cases h
 |.a _::_,.fn _ _ _::_,h=>by cases h
def sameO_eq {x y}(h:sameO x y=true):x=y:=by
 unfold sameO at h;split at h
 .simp only[EN] at h;rw[S7 h.1,fh h.2]
 .cases h
def keptX (u:AHeap)(h:Nat->AObj)(ids:List Nat):=ids.filter λi=>match zZ u i with|some y=>sameO y (h i)|none=>false
def lk (run:RunF)(f:FuncId)(args:List TV)(h:Nat->AObj)(fr:Nat):Option (TV×AHeap×List Nat):=
 match KK h 400 (args.flatMap TV.ids) [] with
 |ids=>match je ids&&ids.all (λo=>Ka (h o)&&(h o).inn ids)&&args.all (TV.inn ids)&&ids.all (λo=>Nat.blt o fr) with
  |true=>match run f (args.map<|TV.ren<|inv ids) (ids.map λo=>(h o).ren<|inv ids) with
   |some (r,Hs')=>match Nat.ble Hs'.length (ids.length+32) with
    |true=>match keptX (yr (sub ids fr) ids Hs') h ids with
     |F=>some (r.ren<|sub ids fr,(yr (sub ids fr) ids Hs'++xI (sub ids fr) fr (Hs'.drop ids.length)).filter λp=> !F.contains p.1,ids)
    |false=>none
   |none=>none
  |false=>none
def fS {P g}(F:XQ P g){f args h fr r u rd}(d:lk g f args h fr=some (r,u,rd)):
  CallK P f args h fr λr' G o=>r'=r/\G=u/\o=rd:=by
 unfold lk at d;generalize KK h 400 _ []=b at d;simp only at d;split at d
 .rename_i x;simp only[EN] at x;let ⟨⟨⟨C,E⟩,D⟩,p⟩:=x;have z:=Yo (fr:=fr) D;have w:=kz (fr:=fr) E;split at d
  .rename_i r0 Hs' e;split at d
   .rename_i j;simp only[EO,Sr] at d;refine⟨b,[],_,_,_,_,F _ _ _ _ _ e,⟨xy C,(λi m=>Sp<|Sc.1 p i m)⟩,Sp j,w.1,?_,z.2,w.2,.inl rfl,keptX (yr (sub b fr) b Hs') h b,λi m=>?_,zd⟩
    .rw[yC,z.1];exact ub
    .have v:=(F7.1 m).2;split at v;next y A=>rw[A,sameO_eq v]
     .cases v
   .cases d
  .cases d
 .cases d
def callX (run:RunF)(mode:FuncId->Nat)(f:FuncId)(args:List TV)(h:Nat->AObj)(fr:Nat):Option (TV×AHeap×List Nat):=
 match Nat.ble (mode f) 1 with
 |true=>lk run f args h fr
 |false=>match args.flatMap (Xx h) with
  |L=>match lk run f (args.map<|TV.lend L) (over (L.map λp=>(p.1,AObj.gone)) h) fr with
   |some (r,u,rd)=>some (r,u++L.map λp=>(p.1,AObj.gone),rd++L.map Prod.fst)
   |none=>none
def callX_ok {P d g}(m:XQ P d){f args h fr r u rd}(b:callX d g f args h fr=some (r,u,rd)):
  CallE P f args h fr λr' w i=>r'=r/\w=u/\i=rd:=by
 unfold callX at b;split at b
 .refine⟨[],(λp v=>by cases v),?_⟩;rw[yC];have e:over (([]:Lent).map λp=>(p.1,AObj.gone)) h=h:=by funext o;rfl
  exact(fS m b).imp λr u rd j=>zd
 .refine⟨args.flatMap _,jR.ok,?_⟩;simp at b;split at b
  .rename_i y z x j;refine(fS m j).imp λr u rd j=>?_;grind
  .cases b
section
variable (P:Program) (run:RunF) (mode:FuncId->Nat)
def stepX (fr:Nat)(o:Oper)(e:Env)(h:AHeap)(tr:wj):Option (Env×AHeap×wj):=
 match goCall o.op with
 |some c=>match calleeOf (ev e) c with
  |some (f,args)=>match callX run mode f args (hook h) fr with
   |some (r,u,rd)=>oT r λr=>some (putE o.dst r e,u++h,(rd,u.map Prod.fst)::tr)
   |none=>none
  |none=>none
 |none=>match aopS P o fr (ev e) (hook h) with
  |some r=>oT r.val λv=>some (putE o.dst v e,r.upd++h,(r.rd,r.upd.map Prod.fst)::tr)
  |none=>none
def lexX (ops:Array Oper)(nx:Nat):List Oper->Nat->Env->AHeap->wj->Option (Env×AHeap×wj)
 |[],_,e,h,tr=>some (e,h,tr)
 |o::rest,i,e,h,tr=>match want ops o (look e) with
  |none=>none
  |some w=>match (match w with|true=>stepX P run mode (nx+32*i) o e h tr|false=>some (putE o.dst (.tup []) e,h,([],[])::tr)) with
   |some (e,h,tr)=>lexX ops nx rest (i+1) e h tr
   |none=>none
variable {P run mode}
def Jw (A:XQ P run){p nx}:∀ {l} {i} {e} {h} {m} {y} {x} {g},
  lexX P run mode p nx l i e h m=some (y,x,g)->lex P p nx l i e h m λe h m=>e=y/\h=x/\m=g
 |[],_,_,_,_,_,_,_,d=>by simp[lexX,EO,Sr] at d;exact d
 |o::rest,i,e,h,m,y,x,g,d=>by
  unfold lexX at d;unfold lex gj;split at d
  .cases d
  .rename_i w E;rw[E];simp;split at d
   .rename_i H F D b;have ih:=Jw A d;cases w with
    |false=>grind
    |true=>
     simp at b;rw[EL rfl];unfold stepX at b;unfold lW;cases z:goCall o.op with
     |some c=>
      rw[z] at b;simp at b ⊢;split at b
      .rename_i f args v;rw[v];split at b
       .rename_i r u rd j;rw[Xv] at b;refine(callX_ok A j).imp λr' G C J=>?_;grind
       .cases b
      .cases b
     |none=>
      rw[z] at b;simp at b ⊢;split at b
      .rename_i r I;rw[Xv] at b;grind
      .cases b
   .cases d
end
def nq (m:Nat)(U live:List Nat)(s:St):Option St:=
 match Zy m U (hook s.heap) (live.flatMap λt=>(look s.env t).ids) with
 |rest=>match okU m U rest&&(keep m U++rest).all (λo=>(hook s.heap o).inn<|keep m U++rest)&&live.all (λt=>(look s.env t).inn<|keep m U++rest) with
  |true=>oL (oP oN oT) (live.map λt=>(t,(look s.env t).ren<|invU m rest)) λenv=>oL oO (qJ m U rest<|hook s.heap) λobs=>some ⟨env,yF 0 obs,m+rest.length⟩
  |false=>none
def Jb {m U live s b}(h:nq m U live s=some b):Sle m s b:=by
 have f:qv m [(0,live),(1000001,U)] (λ_ d=>d=b) 0 s:=by
  unfold nq at h;unfold qv;simp[zZ,S9,lvU,show¬(0=1000001) by decide,Sj];simp at h ⊢;split at h
  .rename_i e
   try rw[e]
   rw[ye<|vV yQ Xv,ye bG,EO] at h;exact h
  .cases h
 let ⟨d,i,g⟩:=qg f;grind
def tJ (m:Nat)(s:St):List Nat:=(List.range m).filter λo=> !Ka (hook s.heap o)
section
variable (P:Program) (run:RunF) (mode:FuncId->Nat) (bks:FuncId->Option (TypeId×TypeId)) (n m lf:Nat)
def regX (ops:Array Oper)(d:Bool)(s:St):Option St:=
 match dstB ops n with
 |true=>match lexX P run mode ops s.nx ops.toList 0 s.env s.heap [] with
  |some (e,h,tr)=>match !d||Jj ops tr with
   |true=>some ⟨e,h,s.nx+32*ops.size⟩
   |false=>none
  |none=>none
 |false=>none
def loopX (F:St->Option (AExit×St)):Nat->St->Option (AExit×St)
 |0,_=>none
 |k+1,s=>match nq m (tJ m s) (List.range n) s with
  |some s=>match F s with
   |some (.normal,s)=>loopX F k s
   |r=>r
  |none=>none
def asgX:Code->St->Option St
 |.region _ ops false,s=>match vK ops with
  |true=>regX P run mode n ops false s
  |false=>none
 |.seq a b,s=>match asgX a s with
  |some s=>asgX b s
  |none=>none
 |_,_=>none
def pQ:TV->TV->Bool
 |.c (.a (.osl a b c d)),.c (.a (.osl a' b' c' d'))=>Nat.beq a a'&&Nat.beq b b'&&Nat.beq c c'&&Nat.beq d d'
 |.c (.a (.fz .N)),.c (.a (.fz .N))=>true
 |_,_=>false
def boxX (dS:TyD)(oc:Nat)(h:AHeap):TV:=match wD dS (λo=>flat<|hook h o) (.c<|.a<|.ep oc 1 0 0) with
 |some (v,_)=>v
 |none=>.any
def elX (dS dE:TyD)(xs:TV)(k:Nat)(h:AHeap):Option (TV×TV):=match yJ P dS xs (iV k) with
 |some y=>match wD dE (λo=>flat<|hook h o) y with
  |some (v,_)=>some (y,v)
  |none=>none
 |none=>none
def goX (dS dE:TyD)(xs:TV)(oc p1 p2:Nat)(env:Env)(m0:Nat)(FA:St->Option St)(FB:St->Option (AExit×St)):Nat->AHeap->Nat->Option (AHeap×Nat)
 |0,h,nx=>some (h,nx)
 |k+1,h,nx=>match elX P dS dE xs k h with
  |some (_,v)=>match FA ⟨(p2,v)::(p1,iV k)::env,h,nx⟩ with
   |some s=>match FB s with
    |some (.normal,s)=>match nq m0 (tJ m0 s) [] s with
     |some s=>match pQ (boxX dS oc s.heap) xs&&Nat.ble m0 s.nx with
      |true=>goX dS dE xs oc p1 p2 env m0 FA FB k s.heap s.nx
      |false=>none
     |none=>none
    |_=>none
   |none=>none
  |none=>none
def rngOf:TV->Option (FuncId×Nat)
 |.c (.fn (.func bk) [] [(false,[.ep oc 1 0 0])])=>some (bk,oc)
 |_=>none
def rngX (g:Operand)(ps:List Nat)(FA:St->Option St)(FB:St->Option (AExit×St))(pb:Bool)(s:St):Option (AExit×St):=
 match rngOf (ev s.env g),ps with
 |some (bk,oc),[p1,p2]=>match bks bk with
  |some (S,E)=>match tyOf P S,tyOf P E with
   |some dS,some dE=>match boxX dS oc s.heap with
    |xs=>match XN xs with
     |some (N,_)=>match pb&&(match dS.kind with|.slice e=>Nat.beq e E|_=>false)&&pQ (boxX dS oc s.heap) xs&&Nat.blt p1 n&&Nat.blt p2 n&&s.env.all (λp=>p.2.lt s.nx)&&Nat.blt oc s.nx&&Nat.blt N 9223372036854775808&&Nat.ble m s.nx with
      |true=>match goX P dS dE xs oc p1 p2 s.env s.nx FA FB N s.heap s.nx with
       |some (h,nx)=>some (.normal,⟨s.env,h,nx⟩)
       |none=>none
      |false=>none
     |none=>none
   |_,_=>none
  |none=>none
 |_,_=>none
def xT:Code->St->Option (AExit×St)
 |.skip,s=>some (.normal,s)
 |.ret,s=>some (.ret,s)
 |.exit i,s=>some (.exit i,s)
 |.seq a b,s=>match xT a s with
  |some (.normal,s)=>xT b s
  |r=>r
 |.cond x a b,s=>match ev s.env x with
  |.c (.a (.fz (.bool t)))=>match t with
   |true=>xT a s
   |false=>xT b s
  |_=>none
 |.block i c,s=>match xT c s with
  |some (.exit j,s)=>match Nat.beq j i with
   |true=>some (.normal,s)
   |false=>some (.exit j,s)
  |r=>r
 |.region _ ops d,s=>match regX P run mode n ops d s with
  |some s=>some (.normal,s)
  |none=>none
 |.loop c,s=>loopX n m (xT c) lf s
 |.scope c,s=>xT c s
 |.label _,s=>some (.normal,s)
 |.rangeFunc g ps A b,s=>match nq m (tJ m s) (List.range n) s with
  |some s=>rngX P bks n m g ps.toList (asgX P run mode n A) (xT b) (wN b) s
  |none=>none
 |_,_=>none
variable {P run mode bks n m lf}
def Awp.le {c Q s b}(d:Sle m s b)(h:Awp P n m c Q b):Awp P n m c Q s:=Awp.weak d h
def ld {c F}(i:∀s e f,F s=some (e,f)->Awp P n m c (λb d=>b=e/\d=f) s):∀ {k} {s} {e} {f},
  loopX n m F k s=some (e,f)->Alwp P n m c (λb d=>b=e/\d=f) s
 |0,_,_,_,h=>by cases h
 |k+1,s,e,f,h=>by
  unfold loopX at h;split at h
  .rename_i d hs1;refine Alwp.weak (Jb hs1)<|Alwp.unroll ?_;split at h;next p o=>refine(i _ _ _ o).mono λb d g=>?_;obtain⟨rfl,rfl⟩:=g;exact ld i h
   .rename_i j;refine(i _ _ _ h).mono λb d g=>?_;obtain⟨rfl,rfl⟩:=g;cases b with
    |normal=>exact absurd h<|j _
    |_=>exact⟨rfl,rfl⟩
  .cases h
def regX_ok (x:P.follows .mixedOrders=true)(w:XQ P run){i b d s g}(f:vK b=true)(h:regX P run mode n b d s=some g):AwpR P n m (.region i b d) (λj r=>j=.normal/\r=g) s:=by
 unfold regX at h;split at h
 .rename_i hd;refine AwpR.region x hd f ?_;split at h
  .rename_i A z u o;split at h
   .rename_i v;rw[EO] at h;subst h;refine j6 ?_<|Jw w o;grind
   .cases h
  .cases h
 .cases h
def cq (f:XQ P run):∀ {A} {s d},asgX P run mode n A s=some d->AsgS P n A s λo=>o=d
 |.seq a b,s,d,h=>by
  unfold asgX at h;split at h;next o m=>exact AsgS.seq (cq f m) λx e=>by subst e;exact cq f h
  .cases h
 |.region i g false,s,d,h=>by
  unfold asgX at h;split at h
  .rename_i j;unfold regX at h;split at h
   .rename_i hd;split at h
    .rename_i w v u p;split at h
     .rw[EO] at h;subst h;refine AsgS.region j hd<|j6 ?_<|Jw f p;grind
     .cases h
    .cases h
   .cases h
  .cases h
 |.region i g true,s,d,h=>by cases h
 |.skip,_,_,h=>by cases h
 |.ret,_,_,h=>by cases h
 |.exit _,_,_,h=>by cases h
 |.cond ..,_,_,h=>by cases h
 |.block ..,_,_,h=>by cases h
 |.loop _,_,_,h=>by cases h
 |.rangeFunc ..,_,_,h=>by cases h
 |.scope _,_,_,h=>by cases h
 |.label _,_,_,h=>by cases h
 |.goto _,_,_,h=>by cases h
 |.refuse _,_,_,h=>by cases h
def vL (p:P.follows .mixedOrders=true)(o:XQ P run):∀ {c} {s} {e} {g},wN c=true->xT P run mode bks n m lf c s=some (e,g)->∀ {m0},AwpR P n m0 c (λv y=>v=e/\y=g) s
 |.skip,s,e,g,_,h,_=>by simp[xT,EO,Sr] at h;exact AwpR.skip ⟨h.1,h.2⟩
 |.ret,s,e,g,_,h,_=>by simp[xT,EO,Sr] at h;exact AwpR.ret ⟨h.1,h.2⟩
 |.exit i,s,e,g,_,h,_=>by simp[xT,EO,Sr] at h;exact AwpR.exit ⟨h.1,h.2⟩
 |.seq a b,s,e,g,f,h,_=>by
  simp[wN,EN] at f;unfold xT at h;refine AwpR.seq ?_;split at h;next y w=>refine(vL p o f.1 w).mono λv A u=>?_;obtain⟨rfl,rfl⟩:=u;exact vL p o f.2 h
  .rename_i r;refine(vL p o f.1 h).mono λv A u=>?_;obtain⟨rfl,rfl⟩:=u;cases v with
   |normal=>exact absurd h<|r _
   |_=>exact⟨rfl,rfl⟩
 |.cond x a b,s,e,g,f,h,_=>by
  simp[wN,EN] at f;unfold xT at h;split at h
  .rename_i t C;cases t with
   |true=>exact AwpR.cond C (λ_=>vL p o f.1 h) (λe=>by cases e)
   |false=>exact AwpR.cond C (λe=>by cases e) λ_=>vL p o f.2 h
  .cases h
 |.block i c,s,e,g,f,h,_=>by
  simp[wN,EN] at f;unfold xT at h;refine AwpR.block ?_;split at h
  .rename_i j y w;refine(vL p o f.2 w).mono λv A u=>?_;obtain⟨rfl,rfl⟩:=u;simp[yh];split at h
   .simp_all
   .rename_i z;rw[EG<|Nat.ne_of_beq_eq_false z];grind
  .rename_i r;refine(vL p o f.2 h).mono λv A u=>?_;obtain⟨rfl,rfl⟩:=u;cases v with
   |exit j=>exact absurd h<|r _ _
   |_=>exact⟨rfl,rfl⟩
 |.region i D d,s,e,g,f,h,_=>by
  unfold xT at h;split at h;next y w=>simp[EO,Sr] at h;obtain⟨rfl,rfl⟩:=h;exact regX_ok p o f w
  .cases h
 |.loop _,_,_,_,f,_,_=>by cases f
 |.rangeFunc ..,_,_,_,f,_,_=>by cases f
 |.scope _,_,_,_,f,_,_=>by cases f
 |.label _,_,_,_,f,_,_=>by cases f
 |.goto _,_,_,_,f,_,_=>by cases f
 |.refuse _,_,_,_,f,_,_=>by cases f
def sJ {x y}(h:pQ x y=true):x=y:=by
 unfold pQ at h;split at h
 .simp_all
 .rfl
 .cases h
def mq {d oc h xs}(b:boxX d oc h=xs)(f:xs ≠ .any):∃rd,wD d (λo=>flat<|hook h o) (.c<|.a<|.ep oc 1 0 0)=some (xs,rd):=by unfold boxX at b;grind
def rngX_ok {g:Operand} {L:Array Nat} {A b:Code} {FA:St->Option St} {FB:St->Option (AExit×St)} {s C:St} {e:AExit} (X:∀f S E,bks f=some (S,E)->IsBk P f S E)
  (hA:∀s C,FA s=some C->AsgS P n A s λI=>I=C) (hB:wN b=true->∀s e C,FB s=some (e,C)->∀ {m0:Nat},AwpR P n m0 b (λG I=>G=e/\I=C) s)
  (h:rngX P bks n m g L.toList FA FB (wN b) s=some (e,C)):Awp P n m (.rangeFunc g L A b) (λG I=>G=e/\I=C) s:=by
 unfold rngX at h;split at h
 .rename_i bk oc p1 p2 D w;have w:L= #[p1,p2]:=zd;subst w;have D:ev s.env g=.c (.fn (.func bk) [] [(false,[.ep oc 1 0 0])]):=by unfold rngOf at D;grind
  split at h
  .rename_i S E M;split at h
   .rename_i J U hS hE;dsimp only at h;generalize V:boxX J oc s.heap=xs at h;split at h
    .rename_i N rdn u;split at h
     .rename_i hb;simp only[EN] at hb;let ⟨⟨⟨⟨⟨⟨⟨⟨b1,O⟩,b3⟩,b4⟩,b5⟩,b6⟩,b7⟩,b8⟩,b9⟩:=hb;have Z:J.kind=.slice E:=by
       split at O
       .simp_all
       .cases O
      have K:xs ≠ .any:=λe=>by rw[e] at u;cases u
      split at h
      .rename_i hf nf T;simp[EO,Sr] at h;obtain⟨rfl,rfl⟩:=h;let ⟨env,h0,z⟩:=s;dsimp only at*
       refine lG (α:=Nat×AHeap×Nat) (H:=λx=>x.2.1) (nx:=λx=>x.2.2) (idx:=λx=>x.1) (m0:=z) (xs:=xs) (N:=N) (x0:=(N,h0,z))
        (y:=λx=>match elX P J U xs (x.1-1) x.2.1 with|some (y,_)=>y|none=>.any) (v:=λx=>match elX P J U xs (x.1-1) x.2.1 with|some (_,v)=>v|none=>.any)
        (Inv:=λx=>(z<=x.2.2/\boxX J oc x.2.1=xs)/\goX P J U xs oc p1 p2 env z FA FB x.1 x.2.1 x.2.2=some _)
        (X _ _ _ M) hS Z hE (Sp b9) (λp hp=>Sc.1 b6 p hp) D (Sp b7) (λx r=>r.1.1) (λx r=>mq r.1.2 K) u (Sp b8)
        (λx k r o=>?_) (Sp b4) (Sp b5) (λx k r o=>?_) ⟨⟨EI _,V⟩,T⟩ rfl (λx r o=>?_)
       .let ⟨i,hh,nn⟩:=x;dsimp only at r o ⊢;subst o;have j:=r.2;unfold goX at j;rw[G8];split at j
        .rename_i y v d
         try rw[d]
         unfold elX at d;grind
        .cases j
       .let ⟨i,hh,nn⟩:=x;dsimp only at r o ⊢;subst o;have j:=r.2;unfold goX at j;rw[G8];split at j
        .rename_i y v d
         try rw[d]
         try dsimp only
         split at j
         .rename_i I hs1;refine(hA _ _ hs1).mono λs2 e=>?_;subst e;split at j
          .rename_i s3 Y;refine(hB b1 _ _ _ Y).mono λG s4 Z=>?_;obtain⟨rfl,rfl⟩:=Z;split at j
           .rename_i s5 W;split at j;next F=>simp only[EN] at F;exact⟨rfl,(k,s5.heap,s5.nx),⟨⟨⟨Sp F.2,sJ F.1⟩,j⟩,rfl⟩,(Jb W).noEnv⟩
            .cases j
           .cases j
          .cases j
         .cases j
        .cases j
       .let ⟨i,hh,nn⟩:=x;dsimp only at r o ⊢;subst o;have j:=r.2;simp[goX,EO,Sr] at j;grind
      .cases h
     .cases h
    .cases h
   .cases h
  .cases h
 .cases h
def wv (v:P.follows .mixedOrders=true)(u:XQ P run)(o:∀f S E,bks f=some (S,E)->IsBk P f S E):∀ {c} {s} {e} {p},xT P run mode bks n m lf c s=some (e,p)->Awp P n m c (λw C=>w=e/\C=p) s
 |.skip,s,e,p,h=>by simp[xT,EO,Sr] at h;exact Awp.skip ⟨h.1,h.2⟩
 |.ret,s,e,p,h=>by simp[xT,EO,Sr] at h;exact Awp.ret ⟨h.1,h.2⟩
 |.exit i,s,e,p,h=>by simp[xT,EO,Sr] at h;exact Awp.exit ⟨h.1,h.2⟩
 |.seq a b,s,e,p,h=>by
  unfold xT at h;refine Awp.seq ?_;split at h;next C r=>refine(wv v u o r).mono λw G z=>?_;obtain⟨rfl,rfl⟩:=z;exact wv v u o h
  .rename_i y;refine(wv v u o h).mono λw G z=>?_;obtain⟨rfl,rfl⟩:=z;cases w with
   |normal=>exact absurd h<|y _
   |_=>exact⟨rfl,rfl⟩
 |.cond x a b,s,e,p,h=>by
  unfold xT at h;split at h
  .rename_i t H;cases t with
   |true=>exact Awp.cond H (λ_=>wv v u o h) (λe=>by cases e)
   |false=>exact Awp.cond H (λe=>by cases e) λ_=>wv v u o h
  .cases h
 |.block i c,s,e,p,h=>by
  unfold xT at h;refine Awp.block ?_;split at h
  .rename_i j C r;refine(wv v u o r).mono λw G z=>?_;obtain⟨rfl,rfl⟩:=z;simp[yh];split at h
   .simp_all
   .rename_i D;rw[EG<|Nat.ne_of_beq_eq_false D];grind
  .rename_i y;refine(wv v u o h).mono λw G z=>?_;obtain⟨rfl,rfl⟩:=z;cases w with
   |exit j=>exact absurd h<|y _ _
   |_=>exact⟨rfl,rfl⟩
 |.region i N d,s,e,p,h=>by
  unfold xT at h;split at h
  .rename_i C r;simp[EO,Sr] at h;obtain⟨rfl,rfl⟩:=h;unfold regX at r;split at r
   .rename_i hd;refine Awp.region v hd ?_;split at r
    .rename_i U T M I;split at r
     .rename_i D;rw[EO] at r;subst r;refine j6 ?_<|Jw u I;grind
     .cases r
    .cases r
   .cases r
  .cases h
 |.loop c,s,e,p,h=>by unfold xT at h;exact Alwp.loop<|ld (λs e p J=>wv v u o J) h
 |.rangeFunc g O A b,s,e,p,h=>by
  unfold xT at h;split at h;next C hs1=>exact Awp.le (Jb hs1)<|rngX_ok o (λ_ _=>cq u) (λL _ _ _=>vL v u L) h
  .cases h
 |.scope c,s,e,p,h=>by unfold xT at h;exact Awp.scope<|wv v u o h
 |.label _,s,e,p,h=>by simp[xT,EO,Sr] at h;exact Awp.label ⟨h.1,h.2⟩
 |.goto _,_,_,_,h=>by cases h
 |.refuse _,_,_,_,h=>by cases h
end
def lentR (fz:Bool)(h:Nat->AObj)(rs:List TV):Lent:=match fz with|true=>rs.flatMap (Xx h)|false=> []
def lentR_ok {b h d}:LentOK h (lentR b h d):=by
 cases b with
 |true=>exact jR
 |false=>exact λp e=>nomatch e
def retX (P:Program)(fz:Bool)(rl:List ResultVar)(m:Nat)(U:List Nat)(s:St):Option (TV×List AObj):=
 match ft P s rl with
 |none=>none
 |some rs=>match lentR fz (hook s.heap) rs with
  |E=>match U++(E.map Prod.fst).filter (λo=>Nat.blt o m) with
   |U=>match Zy m U (hook s.heap) ((rs.map<|TV.lend E).flatMap TV.ids) with
    |rest=>match okU m U rest&&(keep m U++rest).all (λo=>(hook s.heap o).inn<|keep m U++rest)&&(rs.map<|TV.lend E).all (TV.inn<|keep m U++rest)&&E.all (λp=> !(keep m U++rest).contains p.1) with
     |true=>match dm ((rs.map<|TV.lend E).map<|TV.ren<|invU m rest) with
      |some r0=>oT r0 λr0=>oL oO (qJ m U rest<|hook s.heap) λHs=>some (r0,Hs)
      |none=>none
     |false=>none
def Eo {P g f m U s r Hs'}(h:retX P g f m U s=some (r,Hs')):tD P f m r Hs' s:=by
 unfold retX at h;split at h
 .cases h
 .rename_i j d;dsimp only at h;split at h
  .rename_i e;simp only[EN] at e;let ⟨⟨⟨i,o⟩,u⟩,w⟩:=e;split at h
   .rename_i r0 b;rw[Xv,ye bG] at h;obtain⟨rfl,rfl⟩:=h;refine JH (E:=lentR g _ j) d rfl lentR_ok.ok i o u (λp x v=>?_) b (.refl _);grind
   .cases h
  .cases h
def eqL {α:Type}(f:α->α->Bool):List α->List α->Bool
 |[],[]=>true
 |x::l,y::r=>f x y&&eqL f l r
 |_,_=>false
def EqOK {α:Type}(f:α->α->Bool):=∀x y,f x y=true->x=y
def EqOK.l {α}{f:α->α->Bool}(h:EqOK f):EqOK (eqL f)
 |[],[],_=>rfl
 |x::l,y::r,e=>by simp[eqL,EN] at e;rw[h _ _ e.1,h.l _ _ e.2]
 |[],_::_,e=>by cases e
 |_::_,[],e=>by cases e
def eqB (a b:Bool):=match a with
 |true=>b
 |false=> !b
def YU:EqOK eqB:=λa b h=>by cases a<;>cases b<;>simp_all[eqB]
def eqP {α β:Type}(f:α->α->Bool)(g:β->β->Bool)(x y:α×β):=f x.1 y.1&&g x.2 y.2
def EqOK.p {α β}{f:α->α->Bool}{g:β->β->Bool}(d:EqOK f)(b:EqOK g):EqOK (eqP f g):=λx y h=>by simp[eqP,EN] at h;exact Prod.ext (d _ _ h.1)<|b _ _ h.2
def eqU (a b:UInt8):=Nat.beq a.toNat b.toNat
def eqU_ok:EqOK eqU:=λa b h=>UInt8.toNat_inj.1<|S7 h
def eqF:Nat->FV->FV->Bool
 |_+1,.int a n,.int b m=>decide (a=b)&&decide (n=m)
 |_+1,.bool a,.bool b=>eqB a b
 |_+1,.str a,.str b=>eqL eqU a b
 |_+1,.N,.N=>true
 |_+1,.z0 a,.z0 b=>eqB a b
 |_+1,.cst (.pointer none),.cst (.pointer none)=>true
 |k+1,.sl a n x,.sl b m y=>eqB a b&&Nat.beq n m&&eqL (eqL<|eqF k) x y
 |k+1,.pt x,.pt y=>eqL (eqF k) x y
 |_,_,_=>false
def lq:∀k,EqOK (eqF k)
 |0=>λx y h=>by cases x<;>cases h
 |k+1=>λx y h=>by
  unfold eqF at h;split at h<;>try simp only[EN,Sf] at h
  .rw[h.1,h.2]
  .rw[YU _ _ h]
  .rw[eqU_ok.l _ _ h]
  .rfl
  .rw[YU _ _ h]
  .rfl
  next e=>cases e;rw[YU _ _ h.1.1,S7 h.1.2,(lq k).l.l _ _ h.2]
  next e=>cases e;rw[(lq k).l _ _ h]
  .cases h
def eqW:WV->WV->Bool
 |.a (.fz x),.a (.fz y)=>eqF 30 x y
 |.a (.ep a b c d),.a (.ep a' b' c' d')=>Nat.beq a a'&&Nat.beq b b'&&Nat.beq c c'&&Nat.beq d d'
 |.a (.osl a b c d),.a (.osl a' b' c' d')=>Nat.beq a a'&&Nat.beq b b'&&Nat.beq c c'&&Nat.beq d d'
 |.a (.mp a),.a (.mp b)=>Nat.beq a b
 |_,_=>false
def pE:EqOK eqW:=λx y h=>by
 unfold eqW at h;split at h<;>try simp only[EN] at h
 .rw[lq _ _ _ h]
 .simp_all
 .simp_all
 .simp_all
 .cases h
def eqT:TV->TV->Bool
 |.c x,.c y=>eqW x y
 |.agg x,.agg y=>eqL eqW x y
 |_,_=>false
def eqT_ok:EqOK eqT:=λx y h=>by
 unfold eqT at h;split at h
 .rw[pE _ _ h]
 .rw[pE.l _ _ h]
 .cases h
def eqO:AObj->AObj->Bool
 |.gone,.gone=>true
 |.arr n x,.arr m y=>Nat.beq n m&&eqL (eqL eqW) x y
 |.arz n x,.arz m y=>Nat.beq n m&&eqL (eqL<|eqF 30) x y
 |.mapo x,.mapo y=>eqL (eqP (eqP eqB<|eqL<|eqF 30)<|eqP eqB<|eqL eqW) x y
 |.mapz x,.mapz y=>eqL (eqP (eqP eqB<|eqL<|eqF 30)<|eqP eqB<|eqL<|eqF 30) x y
 |_,_=>false
def eqO_ok:EqOK eqO:=λx y h=>by
 have b:=(lq 30).l;unfold eqO at h;split at h<;>try simp only[EN] at h
 .rfl
 .rw[S7 h.1,pE.l.l _ _ h.2]
 .rw[S7 h.1,b.l _ _ h.2]
 .rw[((YU.p b).p<|YU.p pE.l).l _ _ h]
 .rw[((YU.p b).p<|YU.p b).l _ _ h]
 .cases h
abbrev ZU:=FuncId×List TV×List AObj×TV×List AObj
def orcX:List ZU->RunF
 |[],_,_,_=>none
 |(g,a,H,r,H')::l,f,args,Hs=>match Nat.beq g f&&(eqL eqT a args&&eqL eqO H Hs) with
  |true=>some (r,H')
  |false=>orcX l f args Hs
def tq {P}:∀ {l},(∀x∈l,AC P x.1 x.2.1 x.2.2.1 x.2.2.2.1 x.2.2.2.2)->XQ P (orcX l)
 |[],_=>λ_ _ _ _ _ h=>by cases h
 |(g,a,H,r,H')::l,d=>λf args Hs i H1 h=>by
  unfold orcX at h;split at h;next b=>simp only[EN] at b;simp[EO,Sr] at h;have:=d _ ET;rw[<-h.1,<-h.2,<-S7 b.1,<-eqT_ok.l _ _ b.2.1,<-eqO_ok.l _ _ b.2.2];exact this
  .exact tq (λx e=>d x<|EP _ e) _ _ _ _ _ h
def runX (P:Program)(mode:FuncId->Nat)(bks:FuncId->Option (TypeId×TypeId))(O:RunF)(lf:Nat):Nat->RunF
 |0,_,_,_=>none
 |k+1,f,args,Hs=>match O f args Hs with
  |some x=>some x
  |none=>match P.funcs[f]? with
   |some fn=>match fn.body with
    |some c=>match xp P f&&Nat.ble args.length fn.ntmps&&Hs.all Ka with
     |true=>oL oT args λargs=>oL oO Hs λHs=>match xT P (runX P mode bks O lf k) mode bks fn.ntmps Hs.length lf c ⟨jV 0 args,yF 0 Hs,Hs.length⟩ with
      |some (.exit _,_)=>none
      |some (_,s)=>match retX P (Nat.ble 1 (mode f)&&Nat.ble (mode f) 2) fn.results.toList Hs.length (tJ Hs.length s) s with
       |some (r,Hs')=>match Nat.ble Hs.length Hs'.length&&(Hs'.drop Hs.length).all Ka with
        |true=>some (r,Hs')
        |false=>none
       |none=>none
      |none=>none
     |false=>none
    |none=>none
   |none=>none
def rr {P:Program}{b:FuncId->Nat}{d:FuncId->Option (TypeId×TypeId)}{O:RunF}{u:Nat}(z:XQ P O)(y:P.follows .mixedOrders=true)(p:∀f S E,d f=some (S,E)->IsBk P f S E):∀k,XQ P (runX P b d O u k)
 |0=>λf args Hs r Hs' h=>by cases h
 |k+1=>λf args Hs r Hs' h=>by
  unfold runX at h;split at h;next x o=>rw[h] at o;exact z _ _ _ _ _ o
  split at h
  .rename_i fn D;split at h
   .rename_i c F;split at h
    .rename_i v;simp only[EN] at v;rw[ye Xv,ye bG] at h
     have key:∀ {e:AExit} {s:St},xT P (runX P b d O u k) b d fn.ntmps Hs.length u c ⟨jV 0 args,yF 0 Hs,Hs.length⟩=some (e,s)->(∀i,e ≠ .exit i)->(match retX P (Nat.ble 1 (b f)&&Nat.ble (b f) 2) fn.results.toList Hs.length (tJ Hs.length s) s with
       |some (r,Hs')=>match Nat.ble Hs.length Hs'.length&&(Hs'.drop Hs.length).all Ka with
        |true=>some (r,Hs')
        |false=>none
       |none=>none)=some (r,Hs')->AC P f args Hs r Hs':=by
      intro e s m C h;split at h
      .rename_i J Hs1 g;split at h
       .rename_i j;simp only[EN] at j;simp only[EO,Sr] at h;obtain⟨rfl,rfl⟩:=h;refine AC.intro D F rfl rfl v.1.1 (Sp v.1.2) (Sp j.1) (λx o=>XD<|Sc.1 v.2 x o) (λx o=>XD<|Sc.1 j.2 x o) ?_;refine(wv y (rr z y p k) p m).mono λH I G=>?_;obtain⟨rfl,rfl⟩:=G;cases H with
        |exit i=>exact absurd rfl (C i)
        |normal=>exact Eo g
        |ret=>exact Eo g
       .cases h
      .cases h
     cases m:xT P (runX P b d O u k) b d fn.ntmps Hs.length u c ⟨jV 0 args,yF 0 Hs,Hs.length⟩ with
     |none=>rw[m] at h;cases h
     |some q=>
      obtain⟨e,s⟩:=q;rw[m] at h;cases e with
      |exit i=>cases h
      |normal=>exact key m (λi w=>by cases w) h
      |ret=>exact key m (λi w=>by cases w) h
    .cases h
   .cases h
  .cases h
def runX_ACo {P:Program}(i:P.follows .mixedOrders=true)(d:FuncId->Nat){b:FuncId->Option (TypeId×TypeId)}(e:∀f S E,b f=some (S,E)->IsBk P f S E){l:List ZU}(g:∀x∈l,AC P x.1 x.2.1 x.2.2.1 x.2.2.2.1 x.2.2.2.2)(j k:Nat){f:FuncId}{args:List TV}{Hs:List AObj}{r:TV}{Hs':List AObj}(h:runX P d b (orcX l) j k f args Hs=some (r,Hs')):AC P f args Hs r Hs':=rr (tq g) i e k _ _ _ _ _ h
def wIsBk:IsBk EF 168 24 26:=⟨zg,_,265,3,4,Tryz.func168,zg,zg,zg⟩
def wBk (f:FuncId):Option (TypeId×TypeId):=bif Nat.beq f 168 then some (24,26) else bif Nat.beq f 203 then some (64,3) else none
def wBk_ok (f:FuncId)(S E:TypeId)(h:wBk f=some (S,E)):IsBk EF f S E:=by
 unfold wBk at h;cases h1:Nat.beq f 168 with
 |true=>rw[h1] at h;cases h;rw[S7 h1];exact wIsBk
 |false=>
  rw[h1] at h;cases h2:Nat.beq f 203 with
  |true=>rw[h2] at h;cases h;rw[S7 h2];exact isBkI
  |false=>rw[h2] at h;cases h
def wMo (f:FuncId):Nat:=bif Nat.beq f 50 then 0 else 1
def KE {l:List ZU}(hl:∀x∈l,AC EF x.1 x.2.1 x.2.2.1 x.2.2.2.1 x.2.2.2.2){f:FuncId}{args:List TV}{Hs:List AObj}{r:TV}{Hs':List AObj}(h:runX EF wMo wBk (orcX l) 300 80 f args Hs=some (r,Hs')):AC EF f args Hs r Hs':=runX_ACo hP wMo wBk_ok hl 300 80 h
abbrev wi (n:Int):FV:=.int .i64 n
abbrev wf (x:FV):WV:=qf x
abbrev wT (k:Int)(s:List UInt8):List FV:=[wi k,.str s,wi 0,.N]
abbrev wTr:List FV:=wT 0 [116,114,117,101]
abbrev wAp (x:List FV):List FV:=[wi 6,.str [],wi 0,.sl false 4 [wT 0 [112],x]]
abbrev wCl (c:UInt8):List FV:=wi 0::(wAp (wT 0 [c])++wTr)
abbrev wIn (k:Int)(x:List FV):List FV:=wi k::wi 0::(x++[.N,.N])
abbrev wCd (c:UInt8):List FV:=[.str [112],wi 1,wi 0,wi 0,wi 0,.sl false 8 [wIn 1<|wT 0 [c],wIn 4<|wT 0 []]]
abbrev wGl:List FV:=[.str [113,117,101,114,121],wi 0,wi 0,wi 1,wi 1,.sl false 8 [wIn 3<|wAp<|wT 4 []]]
abbrev wA (l:List FV):TV:=.agg<|l.map wf
abbrev wP:FV:=.sl false 6 [wCd 97,wCd 98]
abbrev wBr:List AObj:=[.arz 9 [wCl 97,wCl 98]]
abbrev wK1:List ZU:=[(34,[wA<|wCd 97],[],cb true,[]),(34,[wA<|wCd 98],[],cb true,[]),(34,[wA wGl],[],cb true,[])]
def w_no:∀x∈([]:List ZU),AC EF x.1 x.2.1 x.2.2.1 x.2.2.2.1 x.2.2.2.2:=λ_ h=>nomatch h
def YB {x:ZU}{l:List ZU}(h:AC EF x.1 x.2.1 x.2.2.1 x.2.2.2.1 x.2.2.2.2)(hl:∀x∈l,AC EF x.1 x.2.1 x.2.2.1 x.2.2.2.1 x.2.2.2.2):∀y∈x::l,AC EF y.1 y.2.1 y.2.2.1 y.2.2.2.1 y.2.2.2.2:=List.forall_mem_cons.2 ⟨h,hl⟩
def w_k1:∀x∈wK1,AC EF x.1 x.2.1 x.2.2.1 x.2.2.2.1 x.2.2.2.2:=YB (KE w_no zg)<|YB (KE w_no zg)<|YB (KE w_no zg) w_no
abbrev wPr:ZU:=(11,[.c<|.a<|.osl 0 9 0 2],wBr,.tup [(false,[wf wP]),(false,[wf<|wi 0])],wBr)
def w_pr:AC EF wPr.1 wPr.2.1 wPr.2.2.1 wPr.2.2.2.1 wPr.2.2.2.2:=KE w_k1 zg
abbrev wGo:ZU:=(13,[wA<|wAp<|wT 4 [],.c<|wf<|wi 1],[],.tup [(true,wGl.map wf),(false,[wf<|wi 0])],[])
def w_go:AC EF wGo.1 wGo.2.1 wGo.2.2.1 wGo.2.2.2.1 wGo.2.2.2.2:=KE w_k1 zg
abbrev wM (nf:AV)(A:FV)(k n:Nat)(f:Int)(w:Bool):AObj:=.arr 14 [[.a<|.ep 1 6 0 0,wf wP,.a<|.ep 6 1 0 0,wf<|wi 100000,.a<|.osl 9 1 0 1,.a nf,wf<|wi 0,wf A,wf<|wi 0,wf npF,.a<|.osl k 10 0 n,wf<|wi f,wf<|.bool w,wf npF]]
abbrev wH (a b c x y z:Nat):AObj:=.arr 6 [[.a<|.osl a 5 0 x,.a<|.osl b 7 0 y,wf<|wi 1000000,wf<|wi 1000000,.a<|.osl c 1 0 z,.a<|.mp 5]]
abbrev wR:List AObj:=[.arr 1 [[.a<|.mp 7]],.mapo [((true,[.str [112],wi 1]),(false,[.a<|.osl 8 6 0 2]))],.arz 6 [[wi 0,.bool false,wi 0,.str [97],wi 0,wi 0],[wi 1,.bool false,wi 0,.str [98],wi 0,wi 0]],.arz 1 [[wi 0]],
 .arr 6 [[.a<|.ep 11 6 0 0,.a<|.osl 9 1 0 1,wf<|wi 0,wf<|wi 1,wf npF,wf<|wi 0]],.arr 6 [wGl.map wf]]
abbrev wC (t a:Int):List FV:=[wi t,wi a,wi 0,wi 0,wi 0]
abbrev wE (c:UInt8):List FV:=[wi 0,.sl false 4 [wT 0 [c]],wi 0]
abbrev wNx:ZU:=(9,[aM,ci 1000],wM (.ep 10 6 0 0) .N 12 0 0 false::wH 2 3 4 1 0 0:: .arz 5 [wC 4 0]:: .arz 7 []:: .arz 1 []:: .mapz []::(wR++[.arz 10 []]),.tup [(true,(wE 97).map wf),(false,[wf<|wi 991])],
 wM (.fz npF) (.sl false 1 [[wi 0]]) 16 1 991 true::wH 13 14 15 3 1 1:: .gone:: .gone:: .gone:: .mapz [((false,[.str [97]]),(false,[wi 0]))]::(wR++[.gone,.arz 5 [wC 5 2,wC 0 0,wC 0 0],.arz 7 [wi 0::wi 4::wC 0 0],.arz 1 [[.str [97]]],
  .arz 10 [[wi 1,wi 0,wi 0,npF,npF,wi 0,.sl false 1 [[wi 0]],npF,wi 0,.sl false 2 [[.pt<|wCd 98,.N]]]]]))
def w_nx:AC EF wNx.1 wNx.2.1 wNx.2.2.1 wNx.2.2.2.1 wNx.2.2.2.2:=KE w_no zg
abbrev wEv:ZU:=(14,[.c<|wf wP,wA wGl,wA [wi 1000000,wi 1000000,wi 100000],cb true,ci 9,ci 1000],[],.c<|wf<|.sl false 3 [wE 97,wE 98,[wi 1,.N,wi 0]],[])
def w_ev:AC EF wEv.1 wEv.2.1 wEv.2.2.1 wEv.2.2.2.1 wEv.2.2.2.2:=KE (YB w_nx w_k1) zg
def oD:AC EF 4 [] [] (cb true) []:=KE (YB w_ev<|YB w_pr<|YB w_go w_k1) zg
end Go.AM
