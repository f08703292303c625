/- Laws, part 5. No conditions. -/
import Derived.Test.YtbpjamookpnilaaGreatPart4
set_option linter.all false
set_option maxRecDepth 100000
open Go Go.Proofs
open Go.IntKind (wrap)
open List (getD take drop)
open Int (toNat)
namespace Go.AM
abbrev bb:Int->List UInt8->Nat:=λ_ s=>1+s.length
theorem bz {t a c:Tm}(h:(zr t).2=[a,c]):∃s,1+s+(zr t).1.bk+a.bk+c.bk<=t.bk:=by
 obtain⟨s,n,x,y,r,rfl,e,_⟩:=ue (t:=t) (by rw[h];simp);rw[e] at h ⊢;injection h with b d
 subst b;subst d;exact⟨s.length,by simp only[Tm.bk,Tm.bks];omega⟩
theorem iS {t a:Tm}(h:(zr t).2=[a]):1+(zr t).1.bk+a.bk<=t.bk:=by
 obtain⟨s,n,x,y,r,rfl,e,_⟩:=ue (t:=t) (by rw[h];simp);rw[e] at h ⊢;injection h with b d
 subst b;subst d;simp only[Tm.bk,Tm.bks];omega
theorem jv (t:Tm):1+t.s.length<=t.bk:=by cases t;simp only[Tm.bk,Tm.s];omega
theorem cl {t:Tm}(d:validB t=true):(y9 t).bk<=t.bk+2:=by have:=dD (b:=bb) (λ_=>by show 1+0<=1+_;omega) t d;rw[Jp,Jp] at this;exact AX this (by show 1+0+t.bk+(1+0)<=_;omega)
theorem suV_bk (v:Int)(t:Tm):(suT 0 (vN4 v) t 0).bk<=t.bk:=by have:=sP (b:=bb) (λ_=>by show 1+0<=1+_;omega) 0 v t 0;rw[Jp,Jp] at this;exact this
theorem op_bk (vs:List Int)(t:Tm):(openG vs t).bk<=t.bk:=by
 have:=Xc (b:=bb) (zE vs) (λu d _ e=>yX vs u d e) (λu d f e=>by
  unfold zE;split
  .split
   .rw[XB u];show 1+0+0<=1+_+_;omega
   .rw[XB u];show 1+0+0<=1+_+_;omega
  .exact tJ _) t 0
 rw[Jp,Jp] at this;exact this
theorem bE (t:Tm):(zr t).1.bk<=t.bk/\Tm.bks (zr t).2<=t.bk:=by
 unfold zr;split;next h=>obtain⟨k,s,n,l⟩:=t;have b:k=6:=h.1;subst b;obtain⟨x,y,r,rfl,_,_⟩:=okB6 (zB _ h.2) rfl;simp only[hd,Tm.l,EI,S6,A3,Tm.bk,Tm.bks];omega
 .exact⟨tJ _,AT _⟩
theorem gmb_map:∀L:List Tm,gms bb (L.map λg=>shT 0 1 g 0)<=gms bb L:=dZ bb
theorem YC (b:Bool):∀(n:Nat),n<=1000000000->∀(vs:Int) (L:List Tm) (t:Tm),TG n t->(clsF false n b vs L t).1=0->∀c∈(clsF false n b vs L t).2,c.2.1.bk<=t.bk/\∃L',c.2.2=wL L'/\gms bb L'<=gms bb L+t.bk
 |0,_,_,_,_,_,_,c,hc=>by cases hc
 |n+1,O,vs,L,t,E,h,c,hc=>by
  rw[clsF] at h hc;by_cases p:(zw t 131).2.2≠0
  .rw[tG p] at h;exact absurd h p
  rw[tD p] at h hc;have p:(zw t 131).2.2=0:=A5 p;by_cases w:(zw t 131).1=[]
  .rw[tG w] at h hc;split at h
   .cases h
   .rename_i I;rw[tD I] at hc;have hc:c=(vs,t,wL L):=zp hc;subst hc;exact⟨tJ _,L,rfl,za⟩
  rw[tD w] at h hc;have K:1+(zw t 131).1.length<=(zr t).1.bk:=by
   obtain⟨_,⟨q,_⟩|⟨q,_⟩⟩:=kJ za p
   .exact absurd q w
   .rw[q];exact jv _
  have u:∀(H:(zw t 131).1=nAnd\/(zw t 131).1=nOr\/(zw t 131).1=nImp\/(zw t 131).1=nIf),∃a c,(zw t 131).2.1=[a,c]/\TG n a/\TG n c/\2+(zw t 131).1.length+a.bk+c.bk<=t.bk:=λH=>by obtain⟨a,c,q,x,M⟩:=yc za p H;obtain⟨s,A⟩:=bz x;exact⟨a,c,q,E.arg<|by rw[x];simp,E.arg<|by rw[x];simp,za⟩
  by_cases i:(zw t 131).1=nAnd
  .rw[tG i] at h hc;obtain⟨a,d,q,D,y,A⟩:=u<|.inl i;rw[q] at h hc;by_cases z:(clsF false n b vs L<|at0 [a,d]).1≠0
   .rw[tG z] at h;exact absurd h z
   .rw[tD z] at h hc;rcases A0.1 hc with hc|hc
    .obtain⟨F,L',v,C⟩:=YC b n za vs L a D (A5 z) c hc;exact⟨za,L',v,za⟩
    .obtain⟨F,L',v,C⟩:=YC b n za vs L d y h c hc;exact⟨za,L',v,za⟩
  rw[tD i] at h hc;by_cases m:(zw t 131).1=nPi
  .rw[tG m] at h hc;obtain⟨a,q,x,M⟩:=xb za p<|.inl m;have G:a∈(zr t).2:=by rw[x];simp
   have A:=iS x;have N:=cl<|zP G;have r:(zw t 131).1.length=2:=by rw[m];rfl
   rw[q] at h hc;obtain⟨F,L',v,C⟩:=YC b n za (vs+1) (L.map λg=>shT 0 1 g 0) (y9 a) (E.body za G) h c hc;have:=gmb_map L;exact⟨za,L',v,za⟩
  rw[tD m] at h hc;have o:∀g d:Tm,TG n d->4+g.bk+d.bk<=t.bk->(clsF false n b vs (L++[g]) d).1=0->c∈(clsF false n b vs (L++[g]) d).2->c.2.1.bk<=t.bk/\∃L',c.2.2=wL L'/\gms bb L'<=gms bb L+t.bk:=λg d y A hd J=>by obtain⟨F,L',v,C⟩:=YC b n za vs (L++[g]) d y hd c J;rw[Zc,gms,gms,Jp] at C;have e:bb 6 []+bb 0 nAnd=3:=rfl;exact⟨za,L',v,za⟩
  by_cases f:(zw t 131).1=nImp
  .rw[tG f] at h hc;obtain⟨a,d,q,D,y,A⟩:=u<|.inr<|.inr<|.inl f;have r:(zw t 131).1.length=2:=by rw[f];rfl
   rw[q] at h hc;by_cases z:zH false n (at0 [a,d])≠0
   .rw[tG z] at h;exact absurd h z
   .rw[tD z] at h hc;exact o a d y za h hc
  rw[tD f] at h hc;by_cases j:(zw t 131).1=nIf
  .rw[tG j] at h hc;obtain⟨a,d,q,D,y,A⟩:=u<|.inr<|.inr<|.inr j;have r:(zw t 131).1.length=2:=by rw[j];rfl
   rw[q] at h hc;by_cases z:zH false n (at1 [a,d])≠0
   .rw[tG z] at h;exact absurd h z
   .rw[tD z] at h hc;exact o d a D za h hc
  rw[tD j] at h;cases h
theorem fold_bk (L:List Tm){W:Nat}(b:5<=W)(h:gms bb L<=W):(wL L).bk<=W:=by
 cases L with
 |nil=>exact b
 |cons x L=>have:=rM bb (x::L) zb;rw[Jp] at this;omega
def PI (x:In1):Prop:=(x.t.bk<=B/\Tm.bks x.l<=B/\x.c.length<=B/\zCs x.c)/\bd 2305843009213693952 x.t/\(∀u∈x.l,bd 2305843009213693952 u)/\nbCs x.c
theorem bd_no (M:Int):bd M noT0:=⟨λe=>absurd e<|by show¬(0:Int)=3;omega,trivial⟩
theorem PI.plain (k a:Int):PI (mkI k a):=⟨⟨by show 1<=B;simp only[B];omega,by show 0<=B;omega,by show 0<=B;omega,by show zCs [];rw[zCs];trivial⟩,bd_no _,(λu hu=>nomatch hu),by show nbCs [];rw[nbCs];trivial⟩
theorem PI.term (k a:Int){t:Tm}(h:t.bk<=B)(hb:bd 2305843009213693952 t):PI (.mk k a t [] []):=⟨⟨h,by show 0<=B;omega,by show 0<=B;omega,by show zCs [];rw[zCs];trivial⟩,hb,(λu hu=>nomatch hu),by show nbCs [];rw[nbCs];trivial⟩
theorem PI.row (k a:Int){l:List Tm}(h:Tm.bks l<=B)(hb:∀u∈l,bd 2305843009213693952 u):PI (.mk k a noT0 l []):=⟨⟨by show 1<=B;simp only[B];omega,h,by show 0<=B;omega,by show zCs [];rw[zCs];trivial⟩,bd_no _,hb,by show nbCs [];rw[nbCs];trivial⟩
theorem rZ:∀ {l:List In1},(∀x∈l,PI x)->nbIs l
 |[],_=>by rw[nbIs];trivial
 |.mk k a t q c::r,h=>by rw[nbIs];exact⟨(h _<|tM ..).2,rZ λx hx=>h x<|tK _ hx⟩
theorem sY:∀ {l:List Cd},(∀d∈l,nbC d)->nbCs l
 |[],_=>by rw[nbCs];trivial
 |c::r,h=>by rw[nbCs];exact⟨h _<|tM ..,sY λx b=>h x<|tK _ b⟩
theorem co {M:Int}{t:Tm}(h:bd M t):∀u∈(zr t).2,bd M u:=λu b=>by obtain⟨s,n,x,y,r,rfl,e,_⟩:=ue (t:=t) (λe=>by rw[e] at b;cases b);rw[e] at b;exact yN (bd_l h)<|tK _ b
theorem aU:∀(l:List Tm) (i:Nat) (x:In1),x∈argI i l->∃k a t,x=.mk k a t [] []/\t∈l
 |[],_,x,h=>by cases h
 |t::l,i,x,h=>by
  rw[argI] at h;rcases A1.1 h with rfl|h
  .exact⟨_,_,t,rfl,zb⟩
  .obtain⟨k,a,u,e,b⟩:=aU l (i+1) x h;exact⟨k,a,u,e,tK _ b⟩
theorem finI_mem {l:List In1}{x:In1}(h:x∈finI l):x∈l\/x=mkI 4 0:=by
 unfold finI at h;split at h
 .exact .inl h
 .rcases A0.1 h with h|h
  .exact .inl h
  .exact .inr (zp h)
theorem finI_len (l:List In1):(finI l).length<=l.length+1:=by
 unfold finI;split
 .omega
 .rw[tE];simp
theorem code_z {nm:List UInt8}{ar fr vs sl:Int}{l:List In1}(hn:nm.length<=B)(hl:l.length<=B)(h:∀x∈l,PI x):zC (.mk nm ar fr vs sl l)/\nbC (.mk nm ar fr vs sl l):=by rw[zC,nbC];exact⟨⟨hn,hl,zIs_of λx hx=>(h x hx).1⟩,rZ h⟩
theorem comp_z {n:Nat}(hn:n<=10000){c:Cl}{fr:Int}(hk:OKc n c fr)(h1:c.2.1.bk<=1000000000)(hb:∀x∈(bodC n true (openG (slotsF c.1.toNat fr) c.2.2) (fr+c.1) (zr<|openG (slotsF c.1.toNat fr) c.2.1).2.length).2,PI x):
  zC (wj (bodC n) c fr)/\nbC (wj (bodC n) c fr):=by
 obtain⟨⟨v0,v1⟩,⟨f0,f1⟩,hT,hG,hw⟩:=hk;have hsq:=sq_b hn;have hR:VR (slotsF c.1.toNat fr):=kX f0 za za;obtain⟨t1,_⟩:=TG.open za _ hR.2 _ hT;obtain⟨g1,w1⟩:=GG.open za hR.2 hG;have hs:=bE<|openG (slotsF c.1.toNat fr) c.2.1;have ho:=op_bk (slotsF c.1.toNat fr) c.2.1;have hnm:=jv (zr<|openG (slotsF c.1.toNat fr) c.2.1).1;have hsl:=(ZR<|openG (slotsF c.1.toNat fr) c.2.1).2.2;have hz:=t1.2.1;have bb:=kZ n hn true (openG (slotsF c.1.toNat fr) c.2.2) (fr+c.1) (zr<|openG (slotsF c.1.toNat fr) c.2.1).2.length za g1 za za;have hfl:=finI_len<|argI 0 (zr<|openG (slotsF c.1.toNat fr) c.2.1).2++(bodC n true (openG (slotsF c.1.toNat fr) c.2.2) (fr+c.1) (zr<|openG (slotsF c.1.toNat fr) c.2.1).2.length).2;rw[tE,Y9] at hfl;refine code_z (by simp only[B];omega) (by simp only[B];omega) λx hx=>?_;rcases finI_mem hx with hx|rfl
 .rcases A0.1 hx with hx|hx
  .obtain⟨k,a,t,rfl,ht⟩:=aU _ _ _ hx;have:=Tm.bks_mem ht;exact PI.term _ _ (by simp only[B];omega)<|co (yQ za _ t1.2.2) t ht
  .exact hb x hx
 .exact PI.plain _ _
theorem WB:∀(n:Nat),n<=10000->∀(last:Bool) (t:Tm) (s:Int) (p:Nat),wt t<=n->GG (n*n+n) t->t.bk<=1000000000->0<=s->s+wt t+(n*n:Nat)<=1000000000->∀x∈(bodC n last t s p).2,PI x
 |0,_,_,t,_,_,h,_,_,_,_=>by have:=xz t;omega
 |n+1,hn,last,t,s,p,hw,h,hk,h0,h1=>by
  have hsq:=sq_b (n:=n) za;have hmul:(n+1)*(n+1)=n*n+2*n+1:=by rw[Nat.mul_add,AG];omega
  have hp:=xz t;have hg0:=h;rw[sq_s] at h;have hbt:bd 2305843009213693952 t:=yQ za _ h.1.2.2;rw[bodC];by_cases c1:(zr t).1.s=pS
  .rw[tG c1];intro x hx;cases hx
  rw[tD c1];by_cases c2:(zr t).1.s=nFail
  .rw[tG c2];intro x hx;rw[show x=mkI 8 0 by simpa using hx];exact PI.plain _ _
  rw[tD c2];by_cases c3:(zr t).1.s=nCut
  .rw[tG c3];intro x hx;rw[show x=mkI 7 0 by simpa using hx];exact PI.plain _ _
  rw[tD c3];by_cases c4:(zr t).1.s=nAnd
  .rw[tG c4];obtain⟨a,c,e,ga,gc,hs⟩:=h.two<|.inl c4;obtain⟨_,hb2⟩:=bz e;have ga:=ga.le (m:=n*n+n) za za za;have gc:=gc.le (m:=n*n+n) za za za;rw[e];have b1:=kZ n za false a s p za ga h0 za;intro x hx;rcases A0.1 (show x∈(bodC n false a s p).2++(bodC n last c (bodC n false a s p).1<|p+(bodC n false a s p).2.length).2 from hx) with hx|hx
   .exact WB n za false a s p za ga za h0 za x hx
   .exact WB n za last c _ _ za gc za za za x hx
  rw[tD c4];by_cases c5:(zr t).1.s=nOr
  .rw[tG c5];obtain⟨a,c,e,ga,gc,hs⟩:=h.two<|.inr c5;obtain⟨_,hb2⟩:=bz e;have ga:=ga.le (m:=n*n+n) za za za;have gc:=gc.le (m:=n*n+n) za za za;rw[e,show at0 [a,c]=a from rfl,show at1 [a,c]=c from rfl];have b1:=kZ n za false a s (p+1) za ga h0 za;have i1:=WB n za false a s (p+1) za ga za h0 za;generalize bodC n false a s (p+1)=r at*;have i2:=WB n za false c r.1 (p+1+r.2.length+1) za gc za za za;intro x hx;unfold bodO at hx;rcases A1.1 hx with rfl|hx
   .exact PI.plain _ _
   rcases A0.1 hx with hx|hx
   .exact i1 x hx
   rcases A1.1 hx with rfl|hx
   .exact PI.plain _ _
   .exact i2 x hx
  rw[tD c5];by_cases c6:(zr t).1.s=nPi
  .rw[tG c6];obtain⟨a,e,ta,ga,hs⟩:=h.one za<|.inl c6;rw[e,show at0 [a]=a from rfl];have hb2:=iS e;have hb3:=cl ta.1;have hb4:=suV_bk s<|y9 a;have hb5:=jv (zr t).1;rw[c6] at hb5;have hb5:3<=(zr t).1.bk:=hb5;have w2:=ja s<|y9 a;have g2:=(ga.suV (v:=s) za h0 za).le (m:=n*n+n) za za za;have i1:=WB n za false (suT 0 (vN4 s) (y9 a) 0) (s+1) (p+1) za g2 za za za;intro x hx;unfold bodP at hx;rcases A1.1 hx with rfl|hx
   .exact PI.plain _ _
   rcases A0.1 hx with hx|hx
   .exact i1 x hx
   .rw[show x=mkI 12 0 by simpa using hx];exact PI.plain _ _
  rw[tD c6];by_cases c7:(zr t).1.s=nSig
  .rw[tG c7];obtain⟨a,e,ta,ga,hs⟩:=h.one za<|.inr c7;rw[e,show at0 [a]=a from rfl];have hb2:=iS e;have hb3:=cl ta.1;have hb4:=suV_bk s<|y9 a;have hb5:=jv (zr t).1;rw[c7] at hb5;have hb5:6<=(zr t).1.bk:=hb5;have w2:=ja s<|y9 a;have g2:=(ga.suV (v:=s) za h0 za).le (m:=n*n+n) za za za;have i1:=WB n za last (suT 0 (vN4 s) (y9 a) 0) (s+1) (p+1) za g2 za za za;intro x hx;unfold bodS at hx;rcases A1.1 hx with rfl|hx
   .exact PI.plain _ _
   .exact i1 x hx
  rw[tD c7];by_cases c8:(zr t).1.s=nImp
  .rw[tG c8];obtain⟨a,c,e,ta,wa,hc,gc,hs,hkk⟩:=aR hn hw hg0 c8 s h0 za;rw[e,show at0 [a,c]=a from rfl,show at1 [a,c]=c from rfl];obtain⟨_,hb2⟩:=bz e;have hb5:=jv (zr t).1;rw[c8] at hb5;have hb5:3<=(zr t).1.bk:=hb5;have hb6:=jv a;have hb7:=jv c;have i1:=WB n za false c s (p+1) za gc za h0 za;have hV:xV n true a=(clsF false n true 0 [] a).2:=by unfold xV;rw[tG hc]
   have hcs:∀d∈(xV n true a).map λc=>wj (bodC n) c s,zC d/\nbC d:=λd hd=>by
    obtain⟨x,hx,rfl⟩:=Ay.1 hd;rw[hV] at hx;obtain⟨o1,o2,o3⟩:=hkk x hx;obtain⟨r1,L',r2,r3⟩:=YC true n za 0 [] a ta hc x hx;rw[gms] at r3;obtain⟨⟨v0,v1⟩,⟨f0,f1⟩,hT,hG,hw2⟩:=o1;have hR:VR (slotsF x.1.toNat s):=kX f0 za za;obtain⟨g1,w1⟩:=GG.open za hR.2 hG;have ob:=op_bk (slotsF x.1.toNat s) x.2.2;have hf:x.2.2.bk<=1000000000:=by rw[r2];exact fold_bk L' za za
    exact comp_z za ⟨⟨v0,v1⟩,⟨f0,f1⟩,hT,hG,hw2⟩ za<|WB n za true _ _ _ za g1 za za za
   have hlen:=vz false n true 0 [] a;have hz:=ta.2.1;intro x hx;unfold bodI at hx;rcases A1.1 hx with rfl|hx
   .exact⟨⟨by show 1<=B;simp only[B];omega,by show 0<=B;omega,by show((xV n true a).map λc=>wj (bodC n) c s).length<=B;rw[Ax,hV];simp only[B];omega,zCs_of λd hd=>(hcs d hd).1⟩,bd_no _,(λu hu=>nomatch hu),sY λd hd=>(hcs d hd).2⟩
   rcases A0.1 hx with hx|hx
   .exact i1 x hx
   .rw[show x=mkI 15 0 by simpa using hx];exact PI.plain _ _
  rw[tD c8];have hs:=bE t;by_cases c9:(zr t).1.s=nEq
  .rw[tG c9];intro x hx;rw[show x=.mk 5 0 noT0 (zr t).2 [] by simpa using hx];exact PI.row _ _ (by simp only[B];omega)<|co hbt
  rw[tD c9];by_cases c10:numB (zr t).1.s=true
  .rw[tG c10];intro x hx;rw[show x=.mk 6 0 t [] [] by simpa using hx];exact PI.term _ _ (by simp only[B];omega) hbt
  rw[tD c10];intro x hx;rw[show x=.mk (if last=true then 3 else 2) 0 t [] [] by simpa using hx];exact PI.term _ _ (by simp only[B];omega) hbt
theorem sH (t:Tm)(d b:Int):wiB t d b=true↔validB t=true/\unF d t=true/\vO t 0<=b:=by unfold wiB;rw[tF,tF,decide_eq_true_iff,(fB t).1]
theorem ip (n:Nat)(c:Cl):clB n c=true↔(0<=c.1/\c.1<=4096)/\(validB c.2.1=true/\unF 0 c.2.1=true/\vO c.2.1 0<=c.1)/\(validB c.2.2=true/\unF 0 c.2.2=true/\vO c.2.2 0<=c.1)/\((zr c.2.1).1.k=0/\logB (zr c.2.1).1.s=false)/\zH false n c.2.2=0:=by unfold clB;rw[tF,tF,tF,tF,tF,decide_eq_true_iff,decide_eq_true_iff,sH,sH,XN,tF,Al,Al,AA]
abbrev N0:Nat:=2000
abbrev cd0:Cd:=.mk [] 0 0 0 0 []
abbrev aCE (x:Cd×Int):TV:=.tup [(true,cCd x.1),(false,[qi x.2])]
def YW (ok:Bool)(c:Cd):Cd×Int:=bif ok&&vC c then(c,0) else(cd0,240)
def xD (c:Cl):Cd×Int:=YW (uS N0 [c] ZP 0)<|Zi N0 c
def TS (t:Tm):Prop:=t.bk<=100000000/\wt t<=N0/\bd 1000000 t
def TSW (t:Tm):Prop:=t.bk<=100000000/\wt t<=N0
theorem TSW.tw {t:Tm}(h:TSW t):TW N0 t:=⟨by have:=h.1;simp only[B];omega,by have:=h.2;have:=Xx t;simp only[N0] at*;omega,h.2⟩
theorem TS.tb {t:Tm}(h:TS t):TB N0 t:=⟨by have:=h.1;simp only[B];omega,by have:=h.2.1;have:=Xx t;simp only[N0] at*;omega,yQ (by simp only[N0];omega) _ h.2.2,h.2.1⟩
theorem TS.tg {t:Tm}(h:TS t)(hv:validB t=true)(M:Nat)(hM:M<=1000000000):TG M t:=⟨hv,h.tb.2.1,yQ za _ h.2.2⟩
theorem TS.gg {t:Tm}(h:TS t)(b:validB t=true)(d:zH false N0 t=0):GG (N0*N0+N0) t:=
 ⟨h.tg b _ zc,by have:=h.2.1;simp only[N0] at*;omega,by rw[fw false (m:=N0) h.2.1 _ zc zc<|h.tg b _ zc];exact d⟩
theorem ts_true:TS ZP:=⟨by show 5<=_;omega,by show 4<=2000;omega,⟨λe=>absurd e<|by show¬(0:Int)=3;omega,trivial⟩⟩
theorem ah {c:Cl}(g:TS c.2.1)(b:TS c.2.2)(h:uS N0 [c] ZP 0=true):OKc N0 c 0/\clB N0 c=true:=by unfold uS at h;rw[tF,tF,tF,AZ,List.all_nil,Eu,tF] at h;have e:=(ip _ _).1 h.2.2.2;obtain⟨⟨d,j⟩,⟨w1,_⟩,⟨i,_⟩,_,f⟩:=e;exact⟨⟨⟨d,za⟩,⟨tU 0,by simp only[N0];omega⟩,g.tg w1 _ zc,b.gg i f,b.2.1⟩,h.2.2.2⟩
theorem lY {c:Cl}(h1:TS c.2.1)(h2:TS c.2.2)(h:OKc N0 c 0):zC (Zi N0 c)/\nbC (Zi N0 c):=by have hk:=h;obtain⟨⟨v0,v1⟩,⟨f0,f1⟩,hT,hG,hw⟩:=h;have hR:VR (slotsF c.1.toNat 0):=kX f0 za za;obtain⟨g1,w1⟩:=GG.open zc hR.2 hG;have ob:=op_bk (slotsF c.1.toNat 0) c.2.2;have:=h1.1;have:=h2.1;exact comp_z zc hk za<|WB N0 zc true _ _ _ za g1 za za (by have:(N0*N0:Nat)=4000000:=rfl;simp only[N0] at*;omega)
theorem leCd0:TV.Le (.tup [(true,[qf<|.str [],qi 0,qi 0,qi 0,qi 0,qf .N]),(false,[qi 240])]) (aCE (cd0,240)):=
 jL ⟨⟨rfl,.refl _,.refl _,.refl _,.refl _,.refl _,.a _ _<|.fz _ _<|.N 8,trivial⟩,lwR _,trivial⟩
theorem mo {ok:Bool}{c:Cd}(h:(ok&&vC c)=false):YW ok c=(cd0,240):=by unfold YW;rw[h];rfl
theorem chk_yes {c:Cd}(h:vC c=true):YW true c=(c,0):=by unfold YW;rw[h];rfl
theorem c_pchk (c:Cd)(b:zC c)(d:nbC c):AC tB 44 [aC c] [] (aCE<|YW true c) []:=by
 have h:=t6 c b d;refine acv (v44 c.nm c.ar c.fr c.vs c.sl (FIs c.ins) ..) ?_;refine⟨_,h,zu (λq=>?_) λq=>?_⟩
 .rw[mo<|by rw[AS];exact zp q];exact⟨leCd0,rfl⟩
 .rw[chk_yes<|zp q];exact rrl
theorem ts_of {c:Cl}(h1:TSW c.2.1)(h2:TSW c.2.2)(h:uS N0 [c] ZP 0=true):TS c.2.1/\TS c.2.2:=by unfold uS at h;rw[tF,tF,tF,AZ,List.all_nil,Eu,tF] at h;have hc:=h.2.2.2;unfold clB at hc;rw[tF,tF,tF,tF,decide_eq_true_iff,decide_eq_true_iff] at hc;have z:∀ {t:Tm},TSW t->wiB t 0 c.1=true->TS t:=λ{t} h w=>⟨h.1,h.2,by have:=Xx t;have:=h.2;unfold wiB at w;rw[tF,tF,decide_eq_true_iff,(fB t).1] at w;exact lo_bd (m:=4096) za t 0 w.1 za za (by simp only[N0] at*;omega)⟩;exact⟨z h1 hc.2.1,z h2 hc.2.2.1⟩
theorem rT (c:Cl)(h1:TSW c.2.1)(h2:TSW c.2.2):AC tB 27 [aCl c] [] (aCE<|xD c) []:=by
 have cr:=(c_sright N0 zc [c] ZP 0 ts_true.tb (by show 1<=B;simp only[B];omega) λd hd=>by rw[show d=c by simpa using hd];exact⟨h1.tw,h2.tw⟩).args (args:=[aCls [c],.agg [qi 0,qf<|.str pS,qi 0,qf .N],ci 0]) ⟨.refl _,leT zO,.refl _,trivial⟩;refine acv (v27 ..) ?_;refine⟨⟨rfl,tJ _⟩,_,cr,rfl,zu (λq=>?_) λq=>?_⟩
 .unfold xD;rw[mo<|by rw[show uS N0 [c] ZP 0=false by simpa using q];rfl];exact⟨leCd0,rfl⟩
 .have hr:uS N0 [c] ZP 0=true:=zp q;obtain⟨h1,h2⟩:=ts_of h1 h2 hr;obtain⟨hk,_⟩:=ah h1 h2 hr;obtain⟨hz,hn⟩:=lY h1 h2 hk;unfold xD;rw[hr];exact⟨Zi N0 c,fZ zc (bd_all N0 zc) c 0 hk,_,c_pchk _ hz hn,.refl _,rfl⟩
abbrev oS' (s:Sto):List AObj:=[sto2 3 4 s,.gone,.gone,.arz 6<|SR s.V,.arz 1<|IR s.T]
def freshS (s:Sto)(lv:Int):Sto:=⟨s.V++[⟨xH [lv,0],false,noT⟩],s.T⟩
theorem wU (l:List Int):(IR l).length=l.length:=by simp[IR]
theorem pP (a b:List Int):IR (a++b)=IR a++IR b:=by simp[IR]
theorem bu {n:Nat}{g gs:List (List FV)}(r:gs.length=g.length)(h:∀(i:Nat) (e d:List FV),g[i]?=some e->gs[i]?=some d->LeR e d):OLe (.arz n g) (.arz n gs):=
 .rows n g gs za (λi e d o b=>(h i e d o b).length) λi j e d f f' o b p m=>(h i e d o b).get j f f' p m
theorem ole_app {n:Nat}{a:List (List FV)}{x y:List FV}(h:LeR x y):OLe (.arz n<|a++[x]) (.arz n<|a++[y]):=by
 refine bu zb λi e g d b=>?_;by_cases q:i<a.length
 .rw[Ea q] at d b;rw[d] at b;injection b with b;subst b;exact LeR.refl _
 .rw[Ei za] at d b;cases f:i-a.length with
  |zero=>rw[f] at d b;simp at d b;subst d;subst b;exact h
  |succ k=>rw[f] at d;simp at d
theorem ole_set {n i:Nat}{a:List (List FV)}{x y:List FV}(h:LeR x y):OLe (.arz n<|a.set i x) (.arz n<|a.set i y):=by
 refine bu zb λj e g d b=>?_;rw[Eb] at d b;split at d
 .rename_i q;rw[tG q] at b;split at d;next f=>rw[tG f] at b;injection d with d;injection b with b;subst d;subst b;exact h
  .cases d
 next q=>rw[tD q] at b;rw[d] at b;injection b with b;subst b;exact LeR.refl _
theorem Y5 (s:Sto)(lv:Int)(h:s.V.length<=1073741824):AC tB 11 [aS 0,ci lv] (oS s) (ci (s.V.length:Int)) (oS'<|freshS s lv):=by
 have hrow:LeR [.int .i64<|xH [lv,0],.bool false,.int .i64 0,.str [],.int .i64 0,.N] (Inf.c ⟨xH [lv,0],false,noT⟩):=⟨.refl _,.refl _,.refl _,.refl _,.refl _,zO,trivial⟩;have hV:(freshS s lv).V.length=s.V.length+1:=by simp[freshS]
 refine AC.obj (Hs':=[.arr 2 [[.a<|.osl 3 6 0<|s.V.length+1,.a<|.osl 4 1 0 s.T.length]],.gone,.gone,.arz 6<|SR s.V++[[.int .i64<|xH [lv,0],.bool false,.int .i64 0,.str [],.int .i64 0,.N]],.arz 1<|IR s.T]) ?_ ⟨by rw[sto2,hV];exact .refl _,.refl _,.refl _,?_,.refl _,trivial⟩
 .refine acv (v11 ..) ?_;rw[w64 (x:=(((s.V.length+1:Nat):Int)-1)) za za,tN<|by rw[vP];omega];exact⟨za,⟨by rw[vP];omega,by unfold zI;omega⟩,by rw[show(((s.V.length+1:Nat):Int)-1)=(s.V.length:Int) by omega];exact .refl _,rfl⟩
 .show OLe _<|.arz 6<|SR<|s.V++[⟨xH [lv,0],false,noT⟩];rw[nH];exact ole_app hrow
def uz (s:Sto)(x:Int)(t:Tm):Bool:=inB s.V x&&(!(zL s.V x).bd&&(validB t&&decide (xf t 0 0<=0)))
def bindS (s:Sto)(x:Int)(t:Tm):Sto:=if uz s x t=true then⟨s.V.set x.toNat ⟨(zL s.V x).lv,true,t⟩,s.T++[x]⟩ else s
def Jq (s:Sto)(x:Int)(t:Tm):Int:=if uz s x t=true then 0 else 1
theorem kB {s:Sto}{x:Int}{t:Tm}(h:uz s x t=false):bindS s x t=s/\Jq s x t=1:=by unfold bindS Jq;rw[h];exact⟨rfl,rfl⟩
theorem vX {s:Sto}{x:Int}{t:Tm}(h:uz s x t=true):bindS s x t=⟨s.V.set x.toNat ⟨(zL s.V x).lv,true,t⟩,s.T++[x]⟩/\Jq s x t=0:=by unfold bindS Jq;rw[h];exact⟨rfl,rfl⟩
theorem bind_end {s:Sto}{x:Int}{t:Tm}(d:uz s x t=true)(g:0<=x)(f:x<(s.V.length:Int)){e:List FV}(b:LeR e<|Inf.c ⟨(zL s.V x).lv,true,t⟩):
  All2 OLe [.arr 2 [[.a<|.osl 3 6 0 s.V.length,.a<|.osl 4 1 0<|s.T.length+1]],.gone,.gone,.arz 6<|List.set (SR s.V) (0+x.toNat) e,.arz 1<|IR s.T++[[.int .i64 x]]] (oS'<|bindS s x t):=by
 rw[(vX d).1];refine⟨by rw[sto2,EQ,tE];exact .refl _,.refl _,.refl _,?_,?_,trivial⟩
 .show OLe _<|.arz 6<|SR<|s.V.set x.toNat _;rw[show SR (s.V.set x.toNat ⟨(zL s.V x).lv,true,t⟩)=List.set (SR s.V) (0+x.toNat) (Inf.c ⟨(zL s.V x).lv,true,t⟩) by rw[A4,SR,SR,S8]];exact ole_set b
 .show OLe _<|.arz 1<|IR<|s.T++[x];rw[pP];exact .refl _
theorem iU (s:Sto)(x:Int)(t:Tm)(hT:s.T.length<=1073741824)(hz:t.sz<=B)(hb:bd M61 t):AC tB 158 [aS 0,ci x,aT t] (oS s) (ci<|Jq s x t) (oS'<|bindS s x t):=by
 have h1:=qQ s x;have h2:=yz t hz;have h3:=dp t hz<|yQ zc _ hb;have hB:uz s x t=(inB s.V x&&(!(zL s.V x).bd&&(validB t&&decide (xf t 0 0<=0)))):=rfl;cases hq:uz s x t with
 |false=>
  rw[(kB hq).1,(kB hq).2];rw[hq] at hB;obtain⟨k,str,n,l⟩:=t;refine acv (v158 x k str n (FTs l) ..) ?_;refine⟨(_,_,_,_),h1,zu (λ_=>rrl) λe1=>zu (λ_=>rrl) λe2=>⟨_,h2,zu (λ_=>rrl) λe3=>⟨_,h3,zu (λ_=>rrl) λe4=>?_⟩⟩⟩;exfalso;have e1:(!(inB s.V x))=false:=e1
  have e1:inB s.V x=true:=by cases h:inB s.V x; · rw[h] at e1;cases e1
                             .rfl
  have e2:(zL s.V x).bd=false:=e2;have e3:validB (.mk k str n l)=true:=zp e3;rw[e1,e2,e3,AD<|by have:=tP e4;omega] at hB;cases hB
 |true=>
  rw[(vX hq).2];have hq':=hq;rw[hB] at hq';simp only[tF,AA,Ak] at hq';obtain⟨g1,g2,g3,g4⟩:=hq';have g1':0<=x/\x<(s.V.length:Int):=by simp[inB] at g1;omega
  refine AC.obj (Hs':=[.arr 2 [[.a<|.osl 3 6 0 s.V.length,.a<|.osl 4 1 0<|s.T.length+1]],.gone,.gone,.arz 6<|List.set (SR s.V) (0+x.toNat) [.int .i64 (zL s.V x).lv,.bool true,.int .i64 t.k,.str t.s,.int .i64 t.n,.sl false 4<|FTs t.l],.arz 1<|IR s.T++[[.int .i64 x]]]) ?_<|bind_end hq g1'.1 g1'.2 (show LeR [.int .i64 (zL s.V x).lv,.bool true,.int .i64 t.k,.str t.s,.int .i64 t.n,.sl false 4<|FTs t.l] (Inf.c ⟨(zL s.V x).lv,true,t⟩) from LeR.refl _);obtain⟨hl,ei⟩:=Y8 g1'.1 g1'.2;obtain⟨k,str,n,l⟩:=t;refine acv (v158 x k str n (FTs l) ..) ?_;refine⟨(_,_,_,_),h1,zu (λe=>by have e:(!(inB s.V x))=true:=e;rw[g1] at e;cases e) λ_=>zu (λe=>by have e:(zL s.V x).bd=true:=e;rw[g2] at e;cases e) λ_=>⟨_,h2,zu (λe=>by rw[g3] at e;cases e) λ_=>⟨_,h3,bF za ⟨g1',⟨by rw[vP];omega,?_⟩,za,⟨by rw[wU];omega,by unfold zI;omega⟩,.refl _,?_⟩⟩⟩⟩
  .rw[A4,SR_get hl];rfl
  .rw[tN<|by rw[wU];omega];rfl
theorem c_iodd (t:Tm)(hs:t.sz<=B):AC tB 166 [aT t] [] (cb (!validB t)) []:=by have hv:=yz t hs;obtain⟨k,s,n,l⟩:=t;refine acv (v166 k s n (FTs l) ..) ?_;exact⟨_,hv,zD rfl⟩
theorem YO (x:Int):AC tB 171 [ci x] [] (aT<|.mk 4 [] x []) []:=by refine acv (v171 ..) ?_;exact⟨leT (l:=[]) zO,rfl⟩
theorem qb (n:Int):AC tB 155 [ci n] [] (aT<|.mk 3 [] n []) []:=by refine acv (v155 ..) ?_;exact⟨leT (l:=[]) zO,rfl⟩
def Zh (s:Sto)(lams:Nat)(on:List Tm):Tm:=j7 lams<|zJ (.mk 4 [] (s.V.length:Int) []) on
def vp (s:Sto)(x lv:Int)(lams:Nat)(on:List Tm):Sto:=bindS (freshS s lv) x<|Zh s lams on
theorem c_hang (s:Sto)(x lv:Int)(lams:Nat)(on:List Tm)(hl:lams<=1000000)(ho:on.length<=1000000)(hV:s.V.length<=1073741824)(hT:s.T.length<=1073741824)(hz:(Zh s lams on).sz<=B)(hb:bd M61<|Zh s lams on):
  AC tB 156 [aS 0,ci x,ci lv,ci (lams:Int),aL on] (oS s) (aT<|.mk 4 [] (s.V.length:Int) []) (oS'<|vp s x lv lams on):=by
 have h1:=Y5 s lv za;have h2:=YO (s.V.length:Int);have h3:=w8 (.mk 4 [] (s.V.length:Int) []) on (by simp only[Tm.l,tR];omega);have h4:=pc lams (zJ (.mk 4 [] (s.V.length:Int) []) on) za;have h5:=iU (freshS s lv) x (Zh s lams on) hT hz hb;refine acv (v156 ..) ?_;exact⟨(_,freshS s lv),h1,_,h2,_,h3,_,h4,(_,vp s x lv lams on),h5,.refl _,rfl⟩
def onK (n:Int):List Bool->Int->List Tm
 |[],_=> []
 |b::r,i=>if b=true then .mk 3 [] (n-1-i) []::onK n r (i+1) else onK n r<|i+1
def BRb (l:List Bool):List (List FV):=l.map λb=> [.bool b]
theorem xd (l:List Bool):(BRb l).length=l.length:=by simp[BRb]
abbrev hsP16 (s:Sto)(e:Inf)(rest:List<|Nat×AObj):List (Nat×AObj):=(0,sto2 3 4 s)::(1,.gone)::(2,.gone)::(3,.arz 6<|SR s.V)::(4,.arz 1<|IR s.T)::(5,.arr 6 [[qi e.lv,qf<|.bool e.bd,qi e.v.k,qf<|.str e.v.s,qi e.v.n,qf<|.sl false 4<|FTs e.v.l]])::rest
abbrev stPb (s:Sto)(x:Int)(e:Inf)(keep:List Bool)(i:Nat)(o:List Tm):St:=
 ⟨[(0,aS 0),(1,ci x),(2,.c<|qf<|.sl false 1<|BRb keep),(7,.c<|.a<|.ep 5 6 0 0),(9,.c<|.a<|.osl 6 4 0 o.length),(24,.c<|qf<|.sl false 1<|BRb keep),(25,ci (keep.length:Int)),(26,ci (i:Int))],hsP16 s e [(6,.arz 4<|FTs o)],7⟩
theorem Je (s:Sto)(x:Int)(e:Inf)(keep:List Bool)(hk:keep.length<=1000)(res:List Tm)(hh:AC tB 156 [aS 0,ci x,ci e.lv,ci (keep.length:Int),aL res] (oS s) (aT<|.mk 4 [] (s.V.length:Int) [])<|oS'<|vp s x e.lv keep.length res):
  ∀(j i:Nat) (o:List Tm),i+j=keep.length->o.length<=i->o++onK (keep.length:Int) (keep.drop i) (i:Int)=res->RPt tB 138 3 (ci 0) (oS'<|vp s x e.lv keep.length res) 1 (stPb s x e keep i o)
 |0,i,o,hi,ho,hr=>by have hlen:=xd keep;refine rpv (ni ..) ?_;rw[Et za,onK,tY] at hr;subst hr;refine bF za ⟨rfl,⟨rfl,by rw[zq];omega⟩,((.mk 4 [] (s.V.length:Int) []:Tm),vp s x e.lv keep.length o),?_,.refl _,rfl⟩;rw[A3,tN<|by rw[zq];exact tJ _,hlen];exact hh
 |j+1,i,o,hi,ho,hr=>by
  have hlen:=xd keep;have hi2:i<keep.length:=za;have eg:getD (BRb keep) (toNat (i:Int)) []=[.bool keep[i]]:=by rw[hJ];simp[BRb,getD,hi2]
  have ed:keep.drop i=keep[i]::keep.drop (i+1):=Em hi2;rw[ed,onK] at hr;refine rpv (ni ..) ?_;rw[eg,w64 (x:=(i:Int)+1) za za,hlen,w64 (x:=(keep.length:Int)-1) za za,w64 (x:=(keep.length:Int)-1-(i:Int)) za za];refine zu (λ_=>⟨⟨rfl,za,za,rfl⟩,zu (λhb=>?_) λhb=>?_⟩) (λh=>absurd (tP h) za)
  .have hb:keep[i]=true:=hb;rw[tG hb] at hr;refine⟨rfl,_,qb _,tJ _,⟨by rw[zq];omega,by simp only[zI];omega⟩,?_⟩;have nx:=Je s x e keep hk res hh j (i+1) (o++[.mk 3 [] ((keep.length:Int)-1-(i:Int)) []]) za zj (by rw[AB];exact hr);rw[wN,show take o.length (FTs o)++[FT<|.mk 3 [] ((keep.length:Int)-1-(i:Int)) []]=FTs (o++[.mk 3 [] ((keep.length:Int)-1-(i:Int)) []]) by rw[tN<|by rw[zq];exact tJ _,yh];rfl];simp only[stPb,tE,Ex] at nx;exact nx
  .have hb:keep[i]=false:=hb;rw[tD<|by rw[hb];simp] at hr;exact Je s x e keep hk res hh j (i+1) o za za hr
abbrev stPa (s:Sto)(x:Int)(e:Inf)(keep:List Bool)(i:Nat):St:=
 ⟨[(0,aS 0),(1,ci x),(2,.c<|qf<|.sl false 1<|BRb keep),(7,.c<|.a<|.ep 5 6 0 0),(9,.c<|qf .N),(24,.c<|qf<|.sl false 1<|BRb keep),(25,ci (keep.length:Int)),(26,ci (i:Int))],hsP16 s e [],6⟩
theorem bC (s:Sto)(x:Int)(e:Inf)(keep:List Bool)(hk:keep.length<=1000)(res:List Tm)(hh:AC tB 156 [aS 0,ci x,ci e.lv,ci (keep.length:Int),aL res] (oS s) (aT<|.mk 4 [] (s.V.length:Int) [])<|oS'<|vp s x e.lv keep.length res):
  ∀(j i:Nat),i+j=keep.length->onK (keep.length:Int) (keep.drop i) (i:Int)=res->RPt tB 138 3 (ci 0) (oS'<|vp s x e.lv keep.length res) 1 (stPa s x e keep i)
 |0,i,hi,hr=>by have hlen:=xd keep;refine rpv (tu ..) ?_;rw[Et za,onK] at hr;subst hr;refine bF za ⟨rfl,((.mk 4 [] (s.V.length:Int) []:Tm),vp s x e.lv keep.length []),?_,.refl _,rfl⟩;rw[hlen];exact hh.args ⟨.refl _,.refl _,.refl _,.refl _,.c _ _<|.a _ _<|.fz _ _ zO,trivial⟩
 |j+1,i,hi,hr=>by
  have hlen:=xd keep;have hi2:i<keep.length:=za;have eg:getD (BRb keep) (toNat (i:Int)) []=[.bool keep[i]]:=by rw[hJ];simp[BRb,getD,hi2]
  have ed:keep.drop i=keep[i]::keep.drop (i+1):=Em hi2;rw[ed,onK] at hr;refine rpv (tu ..) ?_;rw[eg,w64 (x:=(i:Int)+1) za za,hlen,w64 (x:=(keep.length:Int)-1) za za,w64 (x:=(keep.length:Int)-1-(i:Int)) za za];refine zu (λ_=>⟨⟨rfl,za,za,rfl⟩,zu (λhb=>?_) λhb=>?_⟩) (λh=>absurd (tP h) za)
  .have hb:keep[i]=true:=hb;rw[tG hb] at hr;refine⟨rfl,_,qb _,tJ _,by simp only[zI];omega,?_⟩;exact Je s x e keep hk res hh j (i+1) [.mk 3 [] ((keep.length:Int)-1-(i:Int)) []] za zb hr
  .have hb:keep[i]=false:=hb;rw[tD<|by rw[hb];simp] at hr;exact bC s x e keep hk res hh j (i+1) za hr
def wM (s:Sto)(x:Int)(keep:List Bool):Sto:=if inB s.V x=true/\(zL s.V x).bd=false then vp s x (zL s.V x).lv keep.length (onK (keep.length:Int) keep 0) else s
def jb (s:Sto)(x:Int):Int:=if inB s.V x=true/\(zL s.V x).bd=false then 0 else 1
theorem c_iprune (s:Sto)(x:Int)(keep:List Bool)(hk:keep.length<=1000)(hh:AC tB 156 [aS 0,ci x,ci (zL s.V x).lv,ci (keep.length:Int),aL<|onK (keep.length:Int) keep 0] (oS s) (aT<|.mk 4 [] (s.V.length:Int) [])<|oS'<|vp s x (zL s.V x).lv keep.length<|onK (keep.length:Int) keep 0):
  AC tB 138 [aS 0,ci x,.c<|qf<|.sl false 1<|BRb keep] (oS s) (ci<|jb s x) (oS'<|wM s x keep):=by
 have hi:=qQ s x;have hlen:=xd keep;refine acv (v138 ..) ?_;refine⟨((zL s.V x).lv,(zL s.V x).bd,(zL s.V x).v,inB s.V x),hi,zu (λh=>?_) λh=>zu (λh2=>?_) λh2=>⟨rfl,?_⟩⟩
 .have h:inB s.V x=false:=zp h;rw[jb,wM,tD<|by rw[h];simp,tD<|by rw[h];simp];exact rrl
 .have h2:(zL s.V x).bd=true:=h2;rw[jb,wM,tD<|by rw[h2];simp,tD<|by rw[h2];simp];exact rrl
 .have h:inB s.V x=true:=zp h;have h2:(zL s.V x).bd=false:=h2;rw[jb,wM,tG ⟨h,h2⟩,tG ⟨h,h2⟩,hlen];exact bC s x (zL s.V x) keep hk _ hh keep.length 0 za (by rw[A3];rfl)
theorem c_smark (s:Sto):AC tB 49 [aS 0] (oS s) (.agg [qi (s.T.length:Int),qi (s.V.length:Int)]) (oS s):=by refine acv (v49 ..) ?_;exact rrl
theorem bv (a b:Int)(h:a<=b):xI [a,b]=a:=by simp only[xI,List.foldl,min,minOfLe];rw[tG h]
theorem drop_get {l:List Int}{j:Nat}{x:Int}{xs:List Int}(h:l.drop j=x::xs):j<l.length/\getD (IR l) j []=[.int .i64 x]/\l.drop (j+1)=xs:=by
 have b:j<l.length:=by
  rcases Nat.lt_or_ge j l.length with q|q
  .exact q
  .rw[Et q] at h;cases h
 rw[Em b] at h;injection h with e d
 exact⟨b,by simp[IR,getD,b,e],d⟩
def clrI (i:Inf):Inf:=⟨i.lv,false,noT⟩
def clrV (V:List Inf)(x:Int):List Inf:=V.modify x.toNat clrI
def clrR (h:List<|List FV)(x:Int):List (List FV):=List.set h (0+x.toNat) [.int .i64<|FV.I<|getD (getD h (0+x.toNat) []) 0 FV.N,.bool false,.int .i64 0,.str [],.int .i64 0,.N]
def RowOf (i:Inf)(r:List FV):Prop:=r=Inf.c i\/(i.bd=false/\i.v=noT/\r=[.int .i64 i.lv,.bool false,.int .i64 0,.str [],.int .i64 0,.N])
def RowsOf (V:List Inf)(h:List<|List FV):Prop:=h.length=V.length/\∀(i:Nat) (v:Inf) (r:List FV),V[i]?=some v->h[i]?=some r->RowOf v r
theorem RowOf.le {i:Inf}{r:List FV}(h:RowOf i r):LeR r (Inf.c i):=by
 rcases h with rfl|⟨d,b,rfl⟩
 .exact LeR.refl _
 .obtain⟨lv,bd,v⟩:=i;simp only at d b;subst d;subst b;exact⟨.refl _,.refl _,.refl _,.refl _,.refl _,zO,trivial⟩
theorem RowOf.sz {i:Inf}{r:List FV}(h:RowOf i r):r.length=6/\FV.I (getD r 0 FV.N)=i.lv/\take 1 r=[.int .i64 i.lv]:=by rcases h with rfl|⟨_,_,rfl⟩<;>exact⟨rfl,rfl,rfl⟩
theorem SR_of (V:List Inf):RowsOf V (SR V):=⟨vP V,λi v r d b=>by rw[SR,tV,d] at b;injection b with b;exact .inl b.symm⟩
theorem RowsOf.get {V:List Inf}{h:List (List FV)}(d:RowsOf V h){i:Nat}(e:i<V.length):RowOf V[i] (getD h i []):=by
 have b:i<h.length:=by rw[d.1];exact e
 have:=d.2 i _ _ (tO e)<|tO b;simpa[getD,b] using this
theorem ua (V:List Inf)(x:Int):(clrV V x).length=V.length:=by simp[clrV]
theorem bR (V:List Inf)(x:Int)(i:Nat):(clrV V x)[i]?=V[i]?.map λv=>if x.toNat=i then clrI v else v:=by
 rw[clrV,S2];cases V[i]? with
 |none=>rfl
 |some v=>rfl
theorem RowsOf.clr {V:List Inf}{h:List (List FV)}(f:RowsOf V h){x:Int}(g:x.toNat<V.length):RowsOf (clrV V x) (clrR h x):=by
 refine⟨by rw[ua,clrR,EQ,f.1],λi v r j b=>?_⟩;rw[bR] at j;rw[clrR,A4,Eb] at b;obtain⟨o,d,rfl⟩:=tH.1 j;by_cases e:x.toNat=i
 .subst e;rw[tG rfl,tG<|by rw[f.1];exact g] at b;injection b with b
  have m:=(f.get g).sz;rw[m.2.1] at b;rw[tG rfl];have:V[x.toNat]=o:=by rw[tO g] at d;injection d
  exact .inr ⟨rfl,rfl,by rw[<-b,this];rfl⟩
 .rw[tD e] at b ⊢;exact f.2 i _ _ d b
theorem jw:∀(xs:List Int) (V:List Inf),(xs.foldl clrV V).length=V.length
 |[],_=>rfl
 |x::xs,V=>by rw[Ek,jw xs,ua]
theorem gN:∀(xs:List Int) (V:List Inf) (h:List<|List FV),RowsOf V h->(∀x∈xs,0<=x/\x<(V.length:Int))->RowsOf (xs.foldl clrV V) (xs.foldl clrR h)
 |[],_,_,b,_=>b
 |x::xs,V,h,b,d=>by have f:=d x tM;exact gN xs _ _ (b.clr za) λy e=>by rw[ua];exact d y<|tK _ e
theorem jT:∀(xs:List Int) (V:List Inf) (i:Nat),(xs.foldl clrV V)[i]?=V[i]?.map λv=>if xs.any (λx=>x.toNat==i)=true then clrI v else v
 |[],V,i=>zb
 |x::xs,V,i=>by rw[Ek,jT xs,bR,Option.map_map];congr 1;funext v;simp only[Function.comp,E3,Ey,Al];by_cases b:x.toNat=i<;>by_cases d:xs.any (λx=>x.toNat==i)=true<;>simp[b,d,clrI]
theorem nZ {n:Nat}{g gs:List (List FV)}(p:gs.length<=g.length)(h:∀(i:Nat) (e d:List FV),g[i]?=some e->gs[i]?=some d->LeR e d):OLe (.arz n g) (.arz n gs):=
 .rows n g gs p (λi e d o b=>(h i e d o b).length) λi j e d f f' o b r m=>(h i e d o b).get j f f' r m
theorem c_sundo1 (x v:Int):AC tB 77 [ci x,.c<|.a<|.ep 0 1 0 0] [obj1 v] (cb (decide (x>=v))) [obj1 v]:=by refine acv (v77 ..) ?_;exact rrl
abbrev fnU:TV:=.c<|.fn (.func 77) [] [(false,[.ep 1 1 0 0])]
theorem l_sidx (T:List Int)(m:Nat)(v:Int)(hm:m<=T.length)(hB:T.length<=1073741824)(h:∀x∈T.take m,x<v):∀(j i:Nat),i+j=m->
  RPt tB 108 2 (ci (-1)) [.arz 1<|IR T,obj1 v] 1 ⟨[(0,.c<|.a<|.osl 0 1 0 m),(1,fnU),(7,ci (m:Int)),(8,ci (i:Int))],[(0,.arz 1<|IR T),(1,obj1 v)],2⟩
 |0,i,hi=>by refine rpv (YL ..) ?_;exact bF za rrl
 |j+1,i,hi=>by
  refine rpv (YL ..) ?_;have hi2:i<T.length:=za;have eg:getD (IR T) (0+toNat (i:Int)) []=[.int .i64 T[i]]:=by rw[A4,hJ];simp[IR,getD,hi2]
  have hx:T[i]<v:=h _ (by rw[List.mem_take_iff_getElem];exact⟨i,za,rfl⟩);have hc:=c_sundo1 T[i] v;rw[eg,w64 (x:=(i:Int)+1) za za];refine zu (λ_=>⟨⟨za,za⟩,⟨by rw[wU];omega,rfl,rfl⟩,_,hc,bF za<|?_⟩) (λh=>absurd (tP h) za);exact l_sidx T m v hm hB h j (i+1) za
theorem c_sdel (T:List Int)(m:Nat)(v:Int)(hm:m<=T.length)(hB:T.length<=1073741824)(h:∀x∈T.take m,x<v):
  AC tB 76 [.c<|.a<|.osl 0 1 0 m,fnU] [.arz 1<|IR T,obj1 v] (.c<|.a<|.osl 0 1 0 m) [.arz 1<|IR T,obj1 v]:=by
 have h1:AC tB 108 [.c<|.a<|.osl 0 1 0 m,fnU] [.arz 1<|IR T,obj1 v] (ci (-1)) [.arz 1<|IR T,obj1 v]:=by refine acv (v108_F77 ..) ?_;exact l_sidx T m v hm hB h m 0 za
 refine acv (v76_F77 ..) ?_;exact⟨_,h1,bP rrl⟩
abbrev stU (T:List Int)(L m n:Nat)(h:List<|List FV)(i:Nat):St:=
 ⟨[(0,aS 0),(3,.c<|.a<|.ep 5 2 0 0),(4,ci (m:Int)),(22,.c<|.a<|.osl 4 1 m<|T.length-m),(23,ci ((T.length-m:Nat):Int)),(24,ci (i:Int))],
  [(0,.arr 2 [[.a<|.osl 3 6 0 L,.a<|.osl 4 1 0 T.length]]),(1,.gone),(2,.gone),(3,.arz 6 h),(4,.arz 1<|IR T),(5,.arr 2 [[qi (m:Int),qi (n:Int)]])],6⟩
theorem lW (T:List Int)(L m n:Nat)(hm:m<=T.length)(hB:T.length<=1073741824)(hn:n<=L)(hT:∀x∈T,0<=x/\x<(L:Int))(hk:∀x∈T.take m,x<(n:Int)):
  ∀(xs:List Int) (i:Nat) (V:List Inf) (h:List<|List FV),T.drop (m+i)=xs->i+xs.length=T.length-m->RowsOf V h->V.length=L->
  RPt tB 52 3 (.tup []) [.arr 2 [[.a<|.osl 3 6 0 n,.a<|.osl 4 1 0 m]],.gone,.gone,.arz 6<|xs.foldl clrR h,.arz 1<|IR T] 1 (stU T L m n h i)
 |[],i,V,h,hd,hi,hr,hV=>by refine rpv (v52_1a ..) ?_;have hc:=c_sdel T m (n:Int) hm hB hk;simp only[tR,Ed] at hi;rw[WR za,bv _ _ za,hJ,hJ];exact bF za ⟨za,za,_,hc,.refl _,rfl⟩
 |x::xs,i,V,h,hd,hi,hr,hV=>by
  refine rpv (v52_1a ..) ?_;obtain⟨g1,g2,g3⟩:=drop_get hd;have hx:=hT x<|Eg<|by rw[hd];exact tM
  have hxl:x.toNat<V.length:=za;have hrow:=(hr.get hxl).sz;have hlen:=hr.1;simp only[tC] at hi;have nx:=lW T L m n hm hB hn hT hk xs (i+1) (clrV V x) (clrR h x) (by rw[<-EA];exact g3) za (hr.clr hxl) (by rw[ua];exact hV);rw[show(toNat (i:Int))=i from hJ i,g2,w64 (x:=(i:Int)+1) za za];refine zu (λ_=>⟨⟨za,za⟩,⟨by rw[wU];omega,rfl,rfl⟩,hx,⟨by show 0+x.toNat<_;omega,?_,rfl⟩,hx,⟨by show 0+x.toNat<_;omega,by show(getD h (0+x.toNat) []).length=6;rw[A4];exact hrow.1⟩,nx⟩) (λh=>absurd (tP h) za);show [FV.int .i64<|FV.I<|getD (getD h (0+x.toNat) []) 0 FV.N]=take 1 (drop 0<|getD h (0+x.toNat) []);rw[A4,A3,hrow.2.1,hrow.2.2]
def ZM (s:Sto)(m n:Nat):Sto:=⟨((s.T.drop m).foldl clrV s.V).take n,s.T.take m⟩
def OKT (s:Sto):Prop:=∀x∈s.T,0<=x/\x<(s.V.length:Int)
theorem c_sundo (s:Sto)(m n:Nat)(hm:m<=s.T.length)(hB:s.T.length<=1073741824)(hn:n<=s.V.length)(hT:OKT s)(hk:∀x∈s.T.take m,x<(n:Int)):
  AC tB 52 [aS 0,.agg [qi (m:Int),qi (n:Int)]] (oS s) (.tup []) (oS'<|ZM s m n):=by
 have hr:=gN (s.T.drop m) s.V (SR s.V) (SR_of _) λx hx=>hT x<|Eg hx;refine AC.obj (Hs':=[.arr 2 [[.a<|.osl 3 6 0 n,.a<|.osl 4 1 0 m]],.gone,.gone,.arz 6<|(s.T.drop m).foldl clrR<|SR s.V,.arz 1<|IR s.T]) ?_ ⟨?_,.refl _,.refl _,?_,?_,trivial⟩
 .refine acv (v52 ..) ?_;rw[WR za,bv _ _ za,hJ,hJ,A4];exact⟨za,lW s.T s.V.length m n hm hB hn hT hk (s.T.drop m) 0 s.V (SR s.V) rfl zb (SR_of _) rfl⟩
 .have e1:(ZM s m n).V.length=n:=by simp only[ZM,AH,jw];omega
  have e2:(ZM s m n).T.length=m:=by simp only[ZM,AH];omega
  rw[sto2,e1,e2];exact .refl _
 .have e0:=jw (s.T.drop m) s.V;refine nZ (by rw[vP,hr.1,ZM,AH];omega) λi e e' he he'=>?_;rw[SR,tV] at he';obtain⟨v,hv,rfl⟩:=tH.1 he';rw[ZM,AL] at hv;split at hv
  .exact(hr.2 i v e hv he).le
  .cases hv
 .refine nZ (by rw[wU,wU,ZM,AH];omega) λi e e' he he'=>?_;rw[IR,tV] at he he';obtain⟨v,hv,rfl⟩:=tH.1 he';obtain⟨v2,hv2,rfl⟩:=tH.1 he;rw[ZM,AL] at hv;split at hv
  .rw[hv2] at hv;injection hv with hv;subst hv;exact LeR.refl _
  .cases hv
def yU (fu:Int->Tm->Tm×Int×Int):Bool->List Tm->Int->List Tm×Int×Int
 |_,[],g=>([],0,g)
 |true,t::l,g=>(t::(yU fu false l g).1,(yU fu false l g).2)
 |false,t::l,g=>if (fu g t).2.1≠0 then([],(fu g t).2) else((fu g t).1::(yU fu false l (fu g t).2.2).1,(yU fu false l (fu g t).2.2).2)
def ZQ (h:Tm)(r:List Tm×Int×Int):Tm×Int×Int:=if r.2.1≠0 then(noT,r.2) else(.mk h.k h.s h.n r.1,r.2)
def di (fu:Int->Tm->Tm×Int×Int)(q:Tm×Int×Int):Tm×Int×Int:=if q.2.1≠0 then(noT,q.2) else ZQ q.1<|yU fu (q.1.k==6) q.1.l q.2.2
def jR (s:Sto)(f:Int)(t:Tm):Tm×Int×Int:=((runH s f.toNat t).1,(runH s f.toNat t).2.1,f-((runH s f.toNat t).2.2:Int))
def y6 (s:Sto):Nat->Int->Tm->Tm×Int×Int
 |0,f,_=>(noT,80,f)
 |D+1,f,t=>if f<=0 then(noT,80,f) else di (y6 s D)<|jR s (f-1) t
theorem dW (s:Sto):∀(F:Nat) (t:Tm),(runH s F t).2.2<=F
 |0,t=>by
  have b:runH s 0 t=if (zU s t).2=0 then(t,0,0) else(noT,80,0):=rfl
  rw[b];split<;>exact tJ _
 |F+1,t=>by
  have b:runH s (F+1) t=if (zU s t).2=0 then(t,0,0) else if (zU s t).2=2 then(noT,80,0) else((runH s F (zU s t).1).1,(runH s F (zU s t).1).2.1,(runH s F (zU s t).1).2.2+1):=rfl
  rw[b];split
  .exact AT _
  .split
   .exact AT _
   .have:=dW s F (zU s t).1;simp only;omega
theorem kL {fu:Int->Tm->Tm×Int×Int}(h:∀g t,0<=g->0<=(fu g t).2.2/\(fu g t).2.2<=g):∀(l:List Tm) (e:Bool) (g:Int),0<=g->0<=(yU fu e l g).2.2/\(yU fu e l g).2.2<=g
 |[],_,g,b=>⟨b,tU _⟩
 |t::l,true,g,b=>kL h l false g b
 |t::l,false,g,b=>by
  have d:=h g t b;rw[yU];split
  .exact d
  .have:=kL h l false _ d.1;exact⟨this.1,by simp only;omega⟩
theorem vQ (s:Sto):∀(D:Nat) (f:Int) (t:Tm),0<=f->0<=(y6 s D f t).2.2/\(y6 s D f t).2.2<=f
 |0,f,t,h=>⟨h,tU _⟩
 |D+1,f,t,h=>by
  rw[y6];split
  .exact⟨h,tU _⟩
  .have e:=dW s (f-1).toNat t;have b:0<=(jR s (f-1) t).2.2/\(jR s (f-1) t).2.2<=f-1:=by simp only[jR];omega
   unfold di;split
   .exact⟨b.1,by simp only;omega⟩
   .have d:=kL (vQ s D) (jR s (f-1) t).1.l ((jR s (f-1) t).1.k==6) _ b.1;unfold ZQ;split<;>exact⟨d.1,by simp only;omega⟩
abbrev aFT (z:Tm×Int×Int):TV:=aTE z.1 z.2.1
abbrev aEP3:TV:=.c<|.a<|.ep 3 1 0 0
abbrev stF (s:Sto)(k:Int)(str:List UInt8)(n:Int)(l0:List Tm)(g:Int)(l:List Tm)(i:Int):St:=
 ⟨[(0,aS 0),(2,aEP3),(4,.c<|.a<|.ep 4 4 0 0),(6,.c<|.a<|.ep 5 4 0 0),(9,.c<|.a<|.osl 6 4 0 l0.length),(36,ci l0.length),(37,ci i)],
  [(0,sto2 1 2 s),(1,.arz 6<|SR s.V),(2,.arz 1<|IR s.T),(3,obj1 g),(4,.arr 4 [cT<|.mk k str n l0]),(5,.arr 4 [zT]),(6,.arz 4<|FTs l)],7⟩
theorem fT (s:Sto)(k:Int)(str:List UInt8)(n:Int)(l0:List Tm)(hl0:l0.length<=SZ)(fu:Int->Tm->Tm×Int×Int)(hfu:∀g t,0<=g->0<=(fu g t).2.2/\(fu g t).2.2<=g):
  ∀(b a:List Tm) (sk:Bool) (g:Int),sk=((k==6)&&(a.length==0))->a.length+b.length=l0.length->0<=g->(∀u∈b,∀g':Int,0<=g'->g'<=g->AC tB 179 [aS 0,aT u,aEP3] (oSf s g') (aFT<|fu g' u) (oSf s (fu g' u).2.2))->
  RPt tB 179 4 (aFT<|ZQ (.mk k str n l0) (a++(yU fu sk b g).1,(yU fu sk b g).2)) (oSf s (yU fu sk b g).2.2) 1 (stF s k str n l0 g (a++b) a.length)
 |[],a,sk,g,hsk,hlen,hg,_=>by refine rpv (rI l0.length l0.length a.length s.V.length s.T.length (SR s.V) (IR s.T) g k str n (FTs l0) 0 [] 0 (FTs<|a++[]) _ _) ?_;simp only[tR,Ed] at hlen;refine bF za ⟨⟨⟨rfl,by rw[zq];simp;omega⟩,trivial⟩,?_,rfl⟩;rw[A3,tN<|by rw[zq];simp;omega];exact leTE leSl
 |t::b,a,sk,g,hsk,hlen,hg,ih=>by
  simp only[tC,SZ] at hlen hl0;have em:=xr a t b;have h3:=ltI' a t b;have el:(0+toNat (a.length:Int))<(FTs<|a++t::b).length/\((rE (getD (FTs<|a++t::b) (0+toNat (a.length:Int)) []):List FV)=take 4 (drop 0<|getD (FTs<|a++t::b) (0+toNat (a.length:Int)) [])/\(4:Nat)=4):=by rw[A4,em];refine⟨za,?_,rfl⟩;rw[midI,A3,tN<|by rw[ym];exact tJ _]
  have el2:(0+toNat (a.length:Int))<(FTs<|a++t::b).length/\(getD (FTs<|a++t::b) (0+toNat (a.length:Int)) []).length=4:=⟨el.1,by rw[A4,midI];exact ym t⟩;have ea:aE (getD (FTs<|a++t::b) (0+toNat (a.length:Int)) [])=aT t:=by rw[A4,xN]
  refine rpv (rI l0.length l0.length a.length s.V.length s.T.length (SR s.V) (IR s.T) g k str n (FTs l0) 0 [] 0 (FTs<|a++t::b) _ _) ?_;rw[ea,w64 (x:=(a.length:Int)+1) za za];refine zu (λ_=>?_) (λh=>absurd (tP h) za);cases sk with
  |true=>
   have hsk:(k==6)=true/\(a.length==0)=true:=by rw[<-tF];exact hsk.symm
   have ha:a=[]:=tS (zp hsk.2);subst ha;have h2:=fT s k str n l0 (by simp only[SZ];omega) fu hfu b [t] false g zb (by simp at hlen ⊢;omega) hg λu hu=>ih u<|tK _ hu;exact zu (λ_=>bP h2) (λh=>absurd hsk.1<|by rw[h];simp)
  |false=>
   have hc:=ih t tM g hg<|tU _;have hq:=hfu g t hg;have go:((0:Int)<=(a.length:Int)/\(a.length:Int)<((l0.length:Nat):Int)):=za;have eK:yU fu false (t::b) g=if (fu g t).2.1≠0 then([],(fu g t).2) else((fu g t).1::(yU fu false b (fu g t).2.2).1,(yU fu false b (fu g t).2.2).2):=rfl
   have next:=fT s k str n l0 (by simp only[SZ];omega) fu hfu b (a++[(fu g t).1]) false (fu g t).2.2 zb zj hq.1 (λu hu g' h0 h1=>ih u (tK _ hu) g' h0 za);generalize fu g t=z at*;obtain⟨z1,z2,z3⟩:=z;simp only at hc hq eK next
   have step:br (z2 !=0) (TV.Le (.tup [(true,[qi 0,qf<|.str [],qi 0,qf .N]),(false,[qi z2])]) (aFT<|ZQ (.mk k str n l0) (a++(yU fu false (t::b) g).1,(yU fu false (t::b) g).2))/\oSf s z3=oSf s (yU fu false (t::b) g).2.2)
     (RPt tB 179 4 (aFT<|ZQ (.mk k str n l0) (a++(yU fu false (t::b) g).1,(yU fu false (t::b) g).2)) (oSf s (yU fu false (t::b) g).2.2) 1<|stF s k str n l0 z3 (a++z1::b)<|(a.length:Int)+1):=by
    refine zu (λh=>?_) λh=>?_
    .have h:z2≠0:=zp h;rw[tG h] at eK;rw[eK,ZQ,tG h];exact⟨leTE (l:=[]) zO,rfl⟩
    .have h:¬z2≠0:=zp h;rw[tD h] at eK;rw[eK];rw[AB,ap a z1 b,nx] at next;exact next
   have tail:=step;rw[show stF s k str n l0 z3 (a++z1::b) ((a.length:Int)+1)=⟨[(0,aS 0),(2,aEP3),(4,.c<|.a<|.ep 4 4 0 0),(6,.c<|.a<|.ep 5 4 0 0),(9,.c<|.a<|.osl 6 4 0 l0.length),(36,ci l0.length),(37,ci<|(a.length:Int)+1)],
  [(0,sto2 1 2 s),(1,.arz 6<|SR s.V),(2,.arz 1<|IR s.T),(3,obj1 z3),(4,.arr 4 [cT<|.mk k str n l0]),(5,.arr 4 [zT]),(6,.arz 4<|List.set (FTs<|a++t::b) (0+toNat (a.length:Int))<|FT4 z1)],7⟩ by rw[tv]] at tail
   have hsk:((k==6)&&(a.length==0))=false:=hsk.symm;refine zu (λh6=>zu (λh0=>?_) λ_=>⟨go,el,(z1,z2,z3),hc,go,el2,tail⟩) λ_=>⟨go,el,(z1,z2,z3),hc,go,el2,tail⟩;exfalso;have h6:(k==6)=true:=h6;have h0:((a.length:Int)==0)=true:=h0;rw[h6,AS] at hsk;simp at hsk h0;exact hsk h0
theorem c_sfull (s:Sto)(hs:OKS s):∀(D:Nat) (f:Int) (t:Tm),f.toNat<=D->0-9223372036854775808<=f->validB t=true->Fit f.toNat t->AC tB 179 [aS 0,aT t,aEP3] (oSf s f) (aFT<|y6 s D f t) (oSf s (y6 s D f t).2.2):=by
 intro D
 induction D with
 |zero=>intro f t hD h0 hv hf;obtain⟨k,str,n,l⟩:=t;refine acv (v179 k str n (FTs l) ..) ?_;exact zu (λ_=>⟨leTE (l:=[]) zO,rfl⟩) (λh=>absurd (tP h) za)
 |succ D ihD=>
  intro f t hD h0 hv hf;by_cases hf0:f<=0
  .have e:y6 s (D+1) f t=(noT,80,f):=by rw[y6,tG hf0]
   rw[e];obtain⟨k,str,n,l⟩:=t;refine acv (v179 k str n (FTs l) ..) ?_;exact zu (λ_=>⟨leTE (l:=[]) zO,rfl⟩) (λh=>absurd (tP h) za)
  .have hfit:=hf.mono (show(f-1).toNat<=f.toNat by omega);have hf5:=hf.2.2.2;have hh:=ig s hs (f-1).toNat (f-1) t rfl za hv hfit;have hq:=jP hs hv hfit;have e:y6 s (D+1) f t=di (y6 s D) (jR s (f-1) t):=by rw[y6,tD hf0]
   rw[e];have eh:jR s (f-1) t=((runH s (f-1).toNat t).1,(runH s (f-1).toNat t).2.1,f-1-((runH s (f-1).toNat t).2.2:Int)):=rfl;rw[eh];generalize runH s (f-1).toNat t=q at*;obtain⟨h,er,u⟩:=q;simp only at hh hq ⊢;obtain⟨hu,hq⟩:=hq
   have start:∀(r:TV) (o:Int),br (er !=0) (TV.Le (.tup [(true,[qi 0,qf<|.str [],qi 0,qf .N]),(false,[qi er])]) r/\oSf s (f-1-(u:Int))=oSf s o)
     ((∃b:Bool,AC tB 98 [.c<|qf<|.sl false 4<|FTs h.l] [] (.c<|qf<|.sl b 4 []) []/\FV.L 4 (.sl b 4 [])=true/\RPt tB 179 4 r (oSf s o) 1 ⟨[(0,aS 0),(2,aEP3),(4,.c<|.a<|.ep 4 4 0 0),(6,.c<|.a<|.ep 5 4 0 0),(9,.c<|qf<|.sl b 4 []),(36,ci 0),(37,ci 0)],
       [(0,sto2 1 2 s),(1,.arz 6<|SR s.V),(2,.arz 1<|IR s.T),(3,obj1<|f-1-(u:Int)),(4,.arr 4 [cT h]),(5,.arr 4 [zT])],6⟩)\/
      (∃z:List (List FV),AC tB 98 [.c<|qf<|.sl false 4<|FTs h.l] [] (.c<|.a<|.osl 0 4 0 z.length) [.arz 4 z]/\RPt tB 179 4 r (oSf s o) 1 ⟨[(0,aS 0),(2,aEP3),(4,.c<|.a<|.ep 4 4 0 0),(6,.c<|.a<|.ep 5 4 0 0),(9,.c<|.a<|.osl 6 4 0 z.length),(36,ci z.length),(37,ci 0)],
        [(0,sto2 1 2 s),(1,.arz 6<|SR s.V),(2,.arz 1<|IR s.T),(3,obj1<|f-1-(u:Int)),(4,.arr 4 [cT h]),(5,.arr 4 [zT]),(6,.arz 4 z)],7⟩))->
     AC tB 179 [aS 0,aT t,aEP3] (oSf s f) r (oSf s o):=λr o hb=>by
    obtain⟨tk,ts,tn,tl⟩:=t;refine acv (v179 tk ts tn (FTs tl) ..) ?_;rw[w64 (x:=f-1) za za];exact bF za ⟨(h,er,f-1-(u:Int)),hh,hb⟩
   refine start _ _<|zu (λhe=>?_) λhe=>?_
   .have he:er≠0:=zp he;rw[di,tG he];exact⟨leTE (l:=[]) zO,rfl⟩
   .have he:er=0:=zp he;subst he;rcases hq with⟨_,hvh,hfh,_⟩|⟨h80,_⟩
    .have hls:h.l.length<=SZ:=by have:=hfh.sz;have:=h.sz_eq;have:=Tm.szs_length h.l;omega
     rw[di,tD zb];have hg0:0<=f-1-(u:Int):=za
     have kid:∀x∈h.l,∀g':Int,0<=g'->g'<=f-1-(u:Int)->AC tB 179 [aS 0,aT x,aEP3] (oSf s g') (aFT<|y6 s D g' x) (oSf s (y6 s D g' x).2.2):=λx hx g' h0 h1=>by
      have hvx:validB x=true:=by
       obtain⟨hk,hst,hn,hl⟩:=h;by_cases h5:hk=5\/hk=6
       .exact zX hvh h5 x hx
       .rw[not_or] at h5;have:=okB0 (zB _ hvh) h5.1 h5.2;have hx:x∈hl:=hx;rw[this] at hx;cases hx
      exact ihD g' x za za hvx<|(hfh.kid hx).mono za
     have loop:=fT s h.k h.s h.n h.l hls (y6 s D) (vQ s D) h.l [] (h.k==6) (f-1-(u:Int)) zb zb hg0 kid;obtain⟨hk,hst,hn,hl⟩:=h;simp only[Tm.l,Tm.k,Tm.s,Tm.n,E0] at loop hls ⊢;have e9:ZQ (.mk hk hst hn hl) ((yU (y6 s D) (hk==6) hl<|f-1-(u:Int)).1,(yU (y6 s D) (hk==6) hl<|f-1-(u:Int)).2)=ZQ (.mk hk hst hn hl) (yU (y6 s D) (hk==6) hl<|f-1-(u:Int)):=rfl;have e8:(ZQ (.mk hk hst hn hl)<|yU (y6 s D) (hk==6) hl<|f-1-(u:Int)).2.2=(yU (y6 s D) (hk==6) hl<|f-1-(u:Int)).2.2:=by unfold ZQ;split<;>rfl
     rw[e8];by_cases hnil:hl=[]
     .subst hnil;refine .inl ⟨false,Ji.2,rfl,?_⟩;refine rpv (v179_1a false [] 0 0 s.V.length s.T.length (SR s.V) (IR s.T) (f-1-(u:Int)) hk hst hn (FTs []) 0 [] 0 _ _) ?_;exact bN rrl
     .refine .inr ⟨FTs hl,Ji.1 (FTs hl) (by rw[yf];simp[hnil])<|by rw[zq];simp only[SZ,B] at*;omega,?_⟩;rw[zq];exact loop
    .cases h80
def lastT (l:List Tm):Tm:=l.getLastD default
def JF (b:Tm):Tm:=zJ (hd b.l) b.l.tail.dropLast
def vh (b:Tm):Bool:=b.k==6&&(lastT b.l).k==3&&(lastT b.l).n==0&&occF (JF b) 0==0
def qK (b:Tm):Tm:=if vh b=true then shT 0 (-1) (JF b) 0 else noT
mutual
def zM:Tm->Tm
 |.mk k s n l=>if (k==5)=true then(if vh (hd<|yW l)=true then qK (hd<|yW l) else .mk 5 [] 0 [hd<|yW l]) else if (k==6)=true then zJ (hd<|yW l) (yW l).tail else .mk k s n l
def yW:List Tm->List Tm
 |[]=> []
 |t::l=>zM t::yW l
end
theorem gd {k n:Int}{s:List UInt8}{l:List Tm}(h:okB (.mk k s n l)=true)(f:k=6):∃x a z,l=x::a++[z]/\x.k≠6/\okB x=true/\okL a=true/\okB z=true:=by obtain⟨x,y,r,rfl,d,b⟩:=okB6 h f;refine⟨x,(y::r).dropLast,(y::r).getLast zb,by rw[AE,List.dropLast_concat_getLast],d,vK b tM,ri λu e=>vK b<|tK _<|List.dropLast_subset _ e,vK b<|tK _<|List.getLast_mem _⟩
theorem last_app (x:Tm)(a:List Tm)(z:Tm):lastT (x::a++[z])=z:=by rw[lastT,List.getLastD_eq_getLast?,List.getLast?_append];rfl
theorem Y0 (k n:Int)(s:List UInt8)(x:Tm)(a:List Tm)(z:Tm):JF (.mk k s n<|x::a++[z])=zJ x a:=by rw[JF];show zJ x ((a++[z]).dropLast)=_;rw[List.dropLast_concat]
theorem drop6 {b:Tm}(h:vh b=true):b.k=6:=by simp only[vh,tF,Al] at h;exact h.1.1.1
theorem drop0 {b:Tm}(h:vh b=true):occF (JF b) 0=0:=by simp only[vh,tF,Al] at h;exact h.2
theorem ba {b:Tm}(h:okB b=true)(j:b.k=6):okB (JF b)=true/\(lvB b=true->lvB (JF b)=true)/\(JF b).sz<=b.sz/\∀M,bd M b->bd M (JF b):=by
 obtain⟨k,s,n,l⟩:=b;have d:k=6:=j;obtain⟨x,a,z,rfl,o,m,i,p⟩:=gd h d;rw[Y0];refine⟨vk m i,λf=>?_,?_,λM g=>?_⟩
 .rw[wd<|.inr d] at f;exact vg (jz f tM)<|aj λu e=>jz f<|tK _<|Eo _ e
 .have:=xS x a;simp only[Tm.sz,AE,Tm.szs,Tm.szs_append];omega
 .exact xB (yN g.2 tM)<|jh λu e=>yN g.2<|tK _<|Eo _ e
theorem ph:∀ {l:List Tm} {i:Int},occL l i=0->∀u∈l,occF u i=0
 |x::l,i,h,u,hu=>by
  simp only[occL] at h;rcases A1.1 hu with rfl|hu
  .omega
  .exact ph (l:=l) za u hu
theorem occ_kids {k n:Int}{s:List UInt8}{l:List Tm}{d:Int}(h:occF (.mk k s n l) d=0):∀u∈l,occF u (d+if (k==5)=true then 1 else 0)=0:=by
 rw[occF] at h;split at h
 .cases h
 .exact ph h
theorem lQ {t:Tm}(h:lvB t=true)(d:Int)(i:occF t d=0)(hd:0<=d):lvB (shT 0 (-1) t d)=true:=by
 refine ZW _ (λu d=>occF u d=0/\0<=d) (λk s n l d g u b=>⟨occ_kids g.1 u b,by have:=g.2;split<;>omega⟩) (λu d b g p o=>?_) t d h ⟨i,hd⟩;unfold ye;split
 .rename_i f;obtain⟨k,s,n,l⟩:=u;have j:k=3:=by have f:=f.1;have f:(k==3)=true:=f;exact zp f
  subst j;rw[jp zc zc,kC] at b;have m:n≠d:=λe=>by have:=g.1;rw[occF,tG ⟨rfl,by simp[e]⟩] at this;cases this
  have r:d+0<=n:=f.2;have:=g.2;show lvB (.mk 3 s (n+ -1) l)=true;rw[jp zc zc,kC];exact⟨za,za,b.2.2.1,b.2.2.2⟩
 .exact b
theorem sZ {M:Int}(j:1<=M){t:Tm}(h:bd M t)(d:Int)(hd:0<=d):bd M (shT 0 (-1) t d):=by
 refine ZZ _ M M (d+t.sz) (λu g b i _=>?_) t d h hd<|tU _;unfold ye;split;next f=>obtain⟨k,s,n,l⟩:=u;exact⟨λe=>by have:=b.1 e;have m:g+0<=n:=f.2;simp only[Tm.n];omega,b.2⟩
 .exact b
theorem dropF_ok {b:Tm}(h:okB b=true)(hd:vh b=true):okB (qK b)=true/\(lvB b=true->lvB (qK b)=true)/\(qK b).sz<=b.sz/\∀M,1<=M->bd M b->bd M (qK b):=by obtain⟨e,m,j,f⟩:=ba h<|drop6 hd;rw[qK,tG hd];exact⟨ad 0 e,λg=>lQ (m g) 0 (drop0 hd)<|tU _,AX (jW ..) j,λM i d=>sZ i (f M d) 0<|tU _⟩
mutual
theorem uY:∀t:Tm,okB t=true->okB (zM t)=true/\(lvB t=true->lvB (zM t)=true)/\(zM t).sz<=t.sz/\∀M,1<=M->bd M t->bd M (zM t)
 |.mk k s n l,h=>by
  have hl:=f6 l<|KA h;rw[zM];split
  .rename_i h5;have h5:k=5:=zp h5;obtain⟨x,rfl,hx⟩:=okB5 h h5;obtain⟨g1,g2,g3,g4⟩:=hl;simp only[yW,okL,lvL,Eu,Tm.szs] at g1 g2 g3 g4;show okB (if vh (zM x)=true then qK (zM x) else .mk 5 [] 0 [zM x])=true/\_;rw[show hd (yW [x])=zM x from rfl];split;next hd=>obtain⟨f1,f2,f3,f4⟩:=dropF_ok g1 hd;refine⟨f1,λhl=>f2<|g2 ?_,by simp only[Tm.sz,Tm.szs];omega,λM hM hb=>f4 M hM (g4 M hM hb.2).1⟩;rw[wd<|.inl h5] at hl;simpa[lvL] using hl
   .refine⟨by simp[okB,okL,g1],λhl=>?_,by simp only[Tm.sz,Tm.szs];omega,λM hM hb=>⟨λe=>za,g4 M hM hb.2⟩⟩;rw[wd<|.inl h5] at hl;rw[wd<|.inl rfl];simp only[lvL,Eu] at hl ⊢;exact g2 hl
  .split
   .rename_i h6;have h6:k=6:=zp h6;obtain⟨x,y,r,rfl,_,_⟩:=okB6 h h6;obtain⟨g1,g2,g3,g4⟩:=hl;rw[show hd (yW<|x::y::r)=zM x from rfl,show(yW<|x::y::r).tail=yW (y::r) from rfl];rw[show yW (x::y::r)=zM x::yW (y::r) from rfl] at g1 g2 g3 g4;simp only[okL,tF] at g1;refine⟨vk g1.1 g1.2,λhl=>?_,?_,λM hM hb=>?_⟩
    .rw[wd<|.inr h6] at hl;have:=g2 hl;simp only[lvL,tF] at this;exact vg this.1 this.2
    .have:=xS (zM x)<|yW<|y::r;simp only[Tm.szs] at g3;simp only[Tm.sz,Tm.szs];omega
    .have:=g4 M hM hb.2;exact xB this.1 this.2
   .exact⟨h,λhl=>hl,tJ _,λM _ hb=>hb⟩
theorem f6:∀l:List Tm,okL l=true->okL (yW l)=true/\(lvL l=true->lvL (yW l)=true)/\Tm.szs (yW l)<=Tm.szs l/\∀M,1<=M->bds M l->bds M (yW l)
 |[],_=>⟨rfl,λ_=>rfl,tJ _,λ_ _ _=>trivial⟩
 |t::l,h=>by simp only[okL,tF] at h;obtain⟨a1,a2,a3,a4⟩:=uY t h.1;obtain⟨b1,b2,b3,b4⟩:=f6 l h.2;refine⟨by simp only[yW,okL,a1,b1,E7],λhl=>?_,by simp only[yW,Tm.szs];omega,λM hM hb=>⟨a4 M hM hb.1,b4 M hM hb.2⟩⟩;simp only[lvL,tF] at hl;simp only[yW,lvL,a2 hl.1,b2 hl.2,E7]
end
theorem c_efree (t:Tm)(i:Int)(d:t.sz<=B)(e:0-2305843009213693952<=i)(b:i+t.sz<=2305843009213693952):AC tB 187 [aT t,ci i] [] (cb<|validB t&&decide (occF t i>0)) []:=by
 have h:=rX t d i e b;obtain⟨k,s,n,l⟩:=t;refine acv (v187 k s n (FTs l) i _ _) ?_;refine⟨_,h,zD ?_⟩;cases validB (.mk k s n l) with
 |false=>rfl
 |true=>simp
theorem lastI (x:Tm)(a:List Tm)(z:Tm)(b:a.length<=SZ):wrap .i64 ((((FTs<|x::a++[z]).length:Nat):Int)-1)=((x::a).length:Int):=by rw[zq];simp only[SZ] at b;rw[w64 zj zj];simp
theorem c_edrop (b:Tm)(E:okB b=true)(M:lvB b=true)(C:b.sz<=SZ)(S:bd M61 b):AC tB 185 [aT b] [] (.tup [(true,cT<|qK b),(false,[qf<|.bool<|vh b])]) []:=by
 have m:vh b=false->qK b=noT:=λh=>tD (by rw[h];simp);obtain⟨k,s,n,l⟩:=b;have i:=Tm.szs_length l;simp only[Tm.sz,SZ] at C;refine acv (v185 k s n (FTs l) _ _) ?_;refine⟨rfl,zu (λh=>?_) λh=>?_⟩
 .have hd:vh (.mk k s n l)=false:=by have h:(k !=6)=true:=h;rw[vh,show(Tm.k (.mk k s n l)==6)=false by show(k==6)=false;exact zp h];rfl
  rw[m hd,hd];exact⟨leTB (l:=[]) zO,rfl⟩
 .have T:k=6:=zp h;subst T;obtain⟨x,a,z,rfl,W,Y,X,Z⟩:=gd E rfl;obtain⟨J,G,F,I⟩:=ba E rfl;have hd:vh (.mk 6 s n<|x::a++[z])=(z.k==3&&z.n==0&&occF (zJ x a) 0==0):=by rw[vh,Y0,show Tm.l (.mk 6 s n<|x::a++[z])=x::a++[z] from rfl,last_app];rfl
  have p:vh (.mk 6 s n<|x::a++[z])=true->qK (.mk 6 s n<|x::a++[z])=shT 0 (-1) (zJ x a) 0:=λh=>by rw[qK,tG h,Y0]
  rw[Y0] at J G F I;have A:a.length<=130000000:=by rw[tE,tC] at i;omega
  rw[lastI x a z A];have D:FV.L 4 (.sl false 4<|FTs<|x::a++[z])=true/\((0:Int)<=((x::a).length:Int)/\(((x::a).length:Int)<(((FTs<|x::a++[z]).length:Nat):Int)/\(rE (getD (FTs<|x::a++[z]) (toNat ((x::a).length:Int)) []):List FV)=getD (FTs<|x::a++[z]) (toNat ((x::a).length:Int)) [])):=⟨rfl,za,ltI' (x::a) z [],xr (x::a) z []⟩;have H:getD (FTs<|x::a++[z]) (toNat ((x::a).length:Int)) []=FT z:=midI (x::a) z [];have N:FV.I (getD (getD (FTs<|x::a++[z]) (toNat ((x::a).length:Int)) []) 0 FV.N)=z.k:=by rw[H];cases z;rfl
  have L:FV.I (getD (getD (FTs<|x::a++[z]) (toNat ((x::a).length:Int)) []) 2 FV.N)=z.n:=by rw[H];cases z;rfl
  rw[N,L];refine⟨D,zu (λf=>?_) λf=>⟨D,zu (λe=>?_) λe=>⟨el0 x<|a++[z],rfl,⟨za,by simp only[tC];omega,by rw[lenI,tE];omega⟩,?_⟩⟩⟩
  .have d:vh (.mk 6 s n<|x::a++[z])=false:=by have f:(z.k !=3)=true:=f;rw[hd,show(z.k==3)=false by simpa using f];rfl
   rw[m d,d];exact⟨leTB (l:=[]) zO,rfl⟩
  .have d:vh (.mk 6 s n<|x::a++[z])=false:=by have e:(z.n !=0)=true:=e;rw[hd,show(z.n==0)=false by simpa using e];simp
   rw[m d,d];exact⟨leTB (l:=[]) zO,rfl⟩
  .have U:aE (getD (FTs<|x::a++[z]) 0 [])=aT x:=yT x;have V:drop 1 (take (toNat ((x::a).length:Int))<|FTs<|x::a++[z])=FTs a:=by rw[ko,FTs_take,bD,List.take_left];rfl
   rw[U,V];have O:x.l.length<=x.sz:=by have:=x.sz_eq;have:=Tm.szs_length x.l;omega
   have K:x.sz<=130000000:=by simp only[AE,Tm.szs] at C;omega
   have u:=w8 x a za;have v:(zJ x a).sz<=SZ:=by simp only[Tm.sz] at F;simp only[SZ];omega
   have j:=c_efree (zJ x a) 0 (by simp only[SZ,B] at*;omega) za (by simp only[SZ] at v;omega);have o:validB (zJ x a)=true:=by rw[xc,J,G M];rfl
   rw[o,AS] at j;have w:=jE (zJ x a) 0 (-1) (by simp only[SZ,B] at*;omega) (I _ S) (tU _) (by simp only[M61];omega) za (by simp only[M61];omega);have r:(z.k==3)=true:=by have f:(z.k !=3)=false:=f;exact zp f
   have y:(z.n==0)=true:=by have e:(z.n !=0)=false:=e;exact zp e
   refine⟨_,u,_,j,zu (λg=>?_) λg=>?_⟩
   .have d:vh (.mk 6 s n<|x::a++[z])=false:=by have g:=hU g;rw[hd,show(occF (zJ x a) 0==0)=false by simp;omega,Ap]
    rw[m d,d];exact⟨leTB (l:=[]) zO,rfl⟩
   .have d:vh (.mk 6 s n<|x::a++[z])=true:=by have g:=tP g;rw[hd,r,y,show(occF (zJ x a) 0==0)=true by simp;omega];rfl
    rw[p d,d];exact⟨_,w,.refl _,rfl⟩
theorem KZ:∀(b a acc:List Tm),acc≠[]->acc.length=a.length->(∀u∈b,AC tB 181 [aT u] [] (aT<|zM u) [])->(a++b).length<=SZ->(hd<|acc++yW b).l.length<=B->
  RPt tB 181 0 (aT<|zJ (hd<|acc++yW b) (acc++yW b).tail) [] 3 ⟨[(2,.c<|.a<|.ep 0 4 0 0),(6,.c<|.a<|.osl 1 4 0 acc.length),(30,aL<|a++b),(31,ci (((FTs<|a++b).length:Nat):Int)),(32,ci a.length)],[(0,.arr 4 [zT]),(1,.arz 4<|FTs acc)],2⟩
 |[],a,acc,g,d,_,f,e=>by
  simp only[yW,tY] at e f ⊢;refine rpv (nE ..) ?_
  match acc,g,d,e with
  |x::r,_,d,e=>
   simp only[SZ,B,tC] at f d e;have e:x.l.length<=549755813888:=e;have i:=w8 x r za;have v:take (toNat ((x::r).length:Int)-1) (drop 1<|FTs<|x::r)=FTs r:=by rw[ko,bD,tN<|by rw[zq];simp];rfl
   have p:aE (getD (FTs<|x::r) 0 [])=aT x:=yT x;rw[v,p];refine bF (by rw[zq];omega) ⟨⟨za,zb⟩,⟨by rw[zq];simp,?_,rfl⟩,⟨za,zj,tU _⟩,⟨rfl,by rw[ko,zq];simp;omega⟩,_,i.args ⟨.refl _,le_c leSl,trivial⟩,uw<|.refl _⟩;rw[show getD (FTs<|x::r) 0 []=FT x from rfl,yD,A3,tN<|by rw[ym];exact tJ _]
 |t::b,a,acc,g,d,ih,f,e=>by
  have j:=f;simp only[tE,tC,SZ] at j;have w:=ih t tM;have h:=KZ b (a++[t]) (acc++[zM t]) zb (by simp[d]) (λu y=>ih u<|tK _ y) (by rw[ap];exact f) (by rw[ap];exact e);have m:=ltI' a t b;rw[ap,ap,nx] at h;rw[yW];refine rpv (nE ..) ?_;rw[xN,w64 (x:=(a.length:Int)+1) za za];refine bT m ⟨⟨rfl,za,m,xr ..⟩,zM t,w,tJ _,⟨by rw[zq];omega,wT za⟩,?_⟩;have o:take acc.length (FTs acc)++[FT4<|zM t]=FTs (acc++[zM t]):=by rw[tN<|by rw[zq];omega,wN,yh];rfl
  rw[o];rw[tE] at h;exact h
theorem cO:∀t:Tm,okB t=true->lvB t=true->t.sz<=SZ->bd M61 t->AC tB 181 [aT t] [] (aT<|zM t) []:=by
 refine Tm.ind λt ih w m v C=>?_;have j:=Tm.szs_length t.l;have b:=KA w;obtain⟨k,s,n,l⟩:=t;simp only[Tm.sz,Tm.l,SZ] at v j b;refine acv (v181 k s n (FTs l) _ _) ?_;refine zu (λh=>?_) λh=>zu (λh'=>⟨rfl,?_⟩) λh'=>?_
 .have I:k=5:=zp h;subst I;obtain⟨x,rfl,z⟩:=okB5 w rfl;rw[wd<|.inl rfl] at m;have g:lvB x=true:=by simpa[lvL] using m
  simp only[Tm.szs] at v;obtain⟨G,E,K,F⟩:=uY x z;have p:=ih x (AO.2 rfl) z g (by simp only[SZ];omega) C.2.1;have D:=c_edrop (zM x) G (E g) (by simp only[SZ];omega)<|F _ (by simp only[M61];omega) C.2.1;have o:=pc 1 (zM x) za;have e:zM (.mk 5 s n [x])=if vh (zM x)=true then qK (zM x) else .mk 5 [] 0 [zM x]:=by rw[zM,tG (show((5:Int)==5)=true from rfl)];rfl
  rw[show aE (getD (FTs [x]) 0 [])=aT x from yT x,e];refine⟨el0 x [],_,p,(qK<|zM x,vh<|zM x),D,zu (λhd=>?_) λhd=>⟨_,o,?_⟩⟩
  .have hd:vh (zM x)=true:=hd;rw[tG hd];exact rrl
  .rw[tD<|by rw[show vh (zM x)=false from hd];simp];exact rrl
 .have H:k=6:=zp h';subst H;obtain⟨x,y,r,rfl,J,_⟩:=okB6 w rfl;rw[wd<|.inr rfl] at m;have f:∀u∈x::y::r,AC tB 181 [aT u] [] (aT<|zM u) []:=λu d=>ih u d (vK b d) (jz m d) (by have:=Tm.szs_mem d;simp only[SZ];omega)<|yN C.2 d;have z:=(uY x<|vK b tM).2.2.1;have A:(zM x).l.length<=B:=by have p:=(zM x).sz_eq;have D:=Tm.szs_length (zM x).l;simp only[Tm.szs] at v;simp only[B];omega
  have i:=KZ (y::r) [x] [zM x] zb rfl (λu d=>f u<|tK _ d) (show(x::y::r).length<=SZ by simp only[SZ];omega) A;have p:=f x tM;have o:=ltI' [] x<|y::r;refine rpv (v181_3a ..) ?_;rw[show aE (getD (FTs<|x::y::r) (toNat 0) [])=aT x from yT x,w64 za za];refine bT o ⟨⟨rfl,za,o,yD x⟩,zM x,p,tJ _,wT za,?_⟩;rw[wN];exact i
 .have h:(k==5)=false:=h;have h':(k==6)=false:=h';rw[zM,tD<|by rw[h];simp,tD<|by rw[h'];simp];exact rrl
theorem c_eShort (t:Tm)(e:t.sz<=SZ)(b:bd M61 t):AC tB 180 [aT t] [] (aT (if validB t=true then zM t else t)) []:=by
 have d:=yz t (by simp only[SZ,B] at*;omega);have f:=λh=>cO t (zB t h) (xM h) e b;obtain⟨k,s,n,l⟩:=t;refine acv (v180 k s n (FTs l) _ _) ?_;refine⟨_,d,zu (λh=>?_) λh=>?_⟩
 .rw[tD<|by rw[not_t h];simp];exact rrl
 .rw[tG<|lc h];exact⟨_,f<|lc h,.refl _,rfl⟩
theorem runH_sz {s:Sto}(g:OKS s):∀(F:Nat) (t:Tm),validB t=true->Fit F t->(runH s F t).2.1=0->(runH s F t).1.sz+42000*(F-(runH s F t).2.2)<=t.sz+42000*F:=by
 intro F
 induction F with
 |zero=>intro t d e h;rw[runH] at h ⊢;split<;>rename_i q
        .exact tJ _
        .rw[tD q] at h;cases h
 |succ F ih=>
  intro t d e h;rw[runH] at h ⊢;split
  .exact tJ _
  .rename_i q;rw[tD q] at h;split;next b=>rw[tG b] at h;cases h
   .rename_i b;rw[tD b] at h
    have q1:(zU s t).2=1:=by rcases WU s t with q' |q' |q'; · exact absurd q' q
                             .exact q'
                             .exact absurd q' b
    obtain⟨v,i⟩:=jO g d e q1;have m:=ih _ v i h;have j:=stepS_sz g d e q1;simp only;omega
theorem WE {fu:Int->Tm->Tm×Int×Int}(i:∀g t,0<=g->0<=(fu g t).2.2/\(fu g t).2.2<=g){A:Tm->Tm->Prop}:
  ∀(l:List Tm) (d:Bool) (g:Int),0<=g->(∀u∈(if d=true then l.drop 1 else l),∀f:Int,0<=f->f<=g->(fu f u).2.1=0->A u (fu f u).1/\(fu f u).1.sz+42000*(fu f u).2.2.toNat<=u.sz+42000*f.toNat)->(yU fu d l g).2.1=0->Tm.szs (yU fu d l g).1+42000*(yU fu d l g).2.2.toNat<=Tm.szs l+42000*g.toNat/\(yU fu d l g).1.length=l.length/\(d=true->hd (yU fu d l g).1=hd l)/\All2 A (if d=true then l.drop 1 else l) (if d=true then(yU fu d l g).1.drop 1 else(yU fu d l g).1)
 |[],d,g,_,_,_=>by refine⟨tJ _,rfl,λ_=>rfl,?_⟩;cases d<;>trivial
 |t::l,true,g,m,h,j=>by have:=WE i l false g m h j;refine⟨?_,by rw[yU,tC,this.2.1];rfl,λ_=>rfl,this.2.2.2⟩;have r:=this.1;show t.sz+Tm.szs _+_<=t.sz+Tm.szs l+_;have e:(yU fu true (t::l) g).2.2=(yU fu false l g).2.2:=rfl;rw[e];omega
 |t::l,false,g,m,h,j=>by
  have w:yU fu false (t::l) g=if (fu g t).2.1≠0 then([],(fu g t).2) else((fu g t).1::(yU fu false l (fu g t).2.2).1,(yU fu false l (fu g t).2.2).2):=rfl
  rw[w] at j ⊢;by_cases q:(fu g t).2.1≠0
  .rw[tG q] at j;exact absurd j q
  .rw[tD q] at j ⊢;have q:(fu g t).2.1=0:=zp q;have r:=i g t m;have p:=h t tM g m (tU _) q;have o:=WE i l false (fu g t).2.2 r.1 (λu v f a b c=>h u (tK _ v) f a za c) j;refine⟨?_,by simp only[tC,o.2.1],λe=>(by cases e),⟨p.1,o.2.2.2⟩⟩;have x:=o.1;have y:=p.2;simp only[Tm.szs];omega
theorem ae {α β:Type}{R:α->β->Prop}{Q:β->Prop}(h:∀x y,R x y->Q y):∀ {a:List α} {b:List β},All2 R a b->∀y∈b,Q y
 |[],[],_,y,hy=>by cases hy
 |x::a,z::b,d,y,hy=>by
  rcases A1.1 hy with rfl|hy
  .exact h _ _ d.1
  .exact ae h d.2 y hy
 |[],_::_,h,_,_=>h.elim
 |_::_,[],h,_,_=>h.elim
theorem mem_hd {l:List Tm}{y:Tm}(h:y∈l):y=hd l\/y∈l.drop 1:=by
 cases l with
 |nil=>cases h
 |cons x l=>exact(A1.1 h).imp id id
theorem Wv {l:List Tm}:yV l=true↔∀u∈l,validB u=true:=by
 induction l with
 |nil=>exact⟨(λ_ u b=>nomatch b),λ_=>rfl⟩
 |cons x l ih=>rw[yV,tF,ih];exact⟨λh u b=>(A1.1 b).elim (λe=>e▸h.1)<|h.2 u,λh=>⟨h x tM,λu b=>h u<|tK _ b⟩⟩
theorem pv {k n:Int}{s:List UInt8}{l d:List Tm}(b:validB (.mk k s n l)=true)(e:d.length=l.length)(i:k=6->hd d=hd l)(f:k=5\/k=6->∀u∈d,validB u=true):validB (.mk k s n d)=true:=by
 by_cases g:k=5
 .subst g;rw[cM] at b ⊢;simp only[tF] at b ⊢;exact⟨⟨b.1.1,by rw[e];exact b.1.2⟩,Wv.2<|f<|.inl rfl⟩
 .by_cases h:k=6
  .subst h;rw[gO] at b ⊢;simp only[tF] at b ⊢;rw[i rfl,e];exact⟨b.1,Wv.2<|f<|.inr rfl⟩
  .have:=okB0 (zB _ b) g h;subst this;have:d=[]:=tS e;subst this;exact b
theorem WO {s:Sto}(I:OKS s):∀(D:Nat) (f:Int) (t:Tm),f.toNat<=D->0<=f->validB t=true->Fit f.toNat t->(y6 s D f t).2.1=0->(validB (y6 s D f t).1=true/\bd M61 (y6 s D f t).1)/\(y6 s D f t).1.sz+42000*(y6 s D f t).2.2.toNat<=t.sz+42000*f.toNat
 |0,f,t,_,_,_,_,h=>by rw[y6] at h;cases h
 |D+1,f,t,hD,h0,V,hf,h=>by
  rw[y6] at h ⊢;split;next q=>rw[tG q] at h;cases h
  rename_i q;rw[tD q] at h;have o:=hf.mono (show(f-1).toNat<=f.toNat by omega);have G:=jP I V o;have E:=runH_sz I (f-1).toNat t V o;have Z:jR s (f-1) t=((runH s (f-1).toNat t).1,(runH s (f-1).toNat t).2.1,f-1-((runH s (f-1).toNat t).2.2:Int)):=rfl;rw[Z] at h ⊢;generalize runH s (f-1).toNat t=q at*;obtain⟨x,W,u⟩:=q;simp only at G E h ⊢;obtain⟨hu,G⟩:=G;rw[di] at h ⊢;split;next v=>rw[tG v] at h;exact absurd h v
  rename_i v;rw[tD v] at h;have he:W=0:=zp v;subst he;rcases G with⟨_,i,p,_⟩|⟨N,_⟩
  .have E:=E rfl;obtain⟨k,H,n,l⟩:=x;simp only[Tm.l,Tm.k,Tm.s,Tm.n] at h ⊢;have O:0<=f-1-(u:Int):=za
   have m:∀x∈l,k=5\/k=6:=λx g=>by
    by_cases F:k=5\/k=6
    .exact F
    .rw[not_or] at F;have:=okB0 (zB _ i) F.1 F.2;rw[this] at g;cases g
   have L:∀x∈l,∀d:Int,0<=d->d<=f-1-(u:Int)->(y6 s D d x).2.1=0->(validB (y6 s D d x).1=true/\bd M61 (y6 s D d x).1)/\(y6 s D d x).1.sz+42000*(y6 s D d x).2.2.toNat<=x.sz+42000*d.toNat:=λx g d a b c=>
    WO I D d x za a (zX i (m x g) x g) ((p.kid (show x∈Tm.l (.mk k H n l) from g)).mono za) c
   unfold ZQ at h ⊢;split;next C=>rw[tG C] at h;exact absurd h C
   rename_i C;have h9:(yU (y6 s D) (k==6) l<|f-1-(u:Int)).2.1=0:=zp C
   have sub:∀x∈(if (k==6)=true then l.drop 1 else l),x∈l:=λx g=>by
    split at g
    .exact Eg g
    .exact g
   have U:=WE (A:=λ_ y=>validB y=true/\bd M61 y) (vQ s D) l (k==6) (f-1-(u:Int)) O (λx g d a b c=>L x (sub x g) d a b c) h9;generalize yU (y6 s D) (k==6) l (f-1-(u:Int))=r at*;obtain⟨Y,X,g2⟩:=r;simp only at U ⊢;obtain⟨k1,K,T,k4⟩:=U;have S:=ae (Q:=λy=>validB y=true/\bd M61 y) (λ_ _ h=>h) k4
   have w:∀y∈Y,validB y=true/\bd M61 y:=λy j=>by
    by_cases M:(k==6)=true
    .rcases mem_hd j with e|e
     .rw[T M] at e;have hl:l≠[]:=λe2=>by rw[e2] at K;rw[tS K] at j;cases j
      have J:y∈l:=by cases l with
       |nil=>exact absurd rfl hl
       |cons z l=>rw[e];exact tM
      exact⟨zX i (m y J) y J,yN p.bd.2 J⟩
     .exact S y (by rw[tG M];exact e)
    .exact S y (by rw[tD M];exact j)
   refine⟨⟨pv i K (λe=>T (by have e:k=6:=e;rw[e];rfl)) λ_ y j=>(w y j).1,⟨p.bd.1,jh λy j=>(w y j).2⟩⟩,?_⟩;simp only[Tm.sz] at E ⊢;omega
  .cases N
def xw (s:Sto)(f:Int)(t:Tm):Tm×Int×Int:=
 if validB t=true then(if (y6 s f.toNat f t).2.1=0 then(zM (y6 s f.toNat f t).1,(y6 s f.toNat f t).2.2,0) else(noT,0,(y6 s f.toNat f t).2.1)) else(noT,0,1)
theorem gD (s:Sto)(D:Nat){f:Int}(t:Tm)(h:f<=0):y6 s D f t=(noT,80,f):=by
 cases D with
 |zero=>rfl
 |succ D=>rw[y6,tG h]
def fullR (s:Sto)(f:Int)(t:Tm):Tm×Int×Int:=
 if validB t=true then(if (y6 s f.toNat f t).2.1=0 then((y6 s f.toNat f t).1,(y6 s f.toNat f t).2.2,0) else(noT,0,(y6 s f.toNat f t).2.1)) else(noT,0,1)
theorem fi (s:Sto)(hs:OKS s)(f:Int)(t:Tm)(h0:0-9223372036854775808<=f)(hz:t.sz<=B)(hf:validB t=true->Fit f.toNat t):
  AC tB 28 [aT t,ci f,.c<|.fn (.func 179) [(false,[.ep 0 2 0 0])] []] (oS s) (aHd<|fullR s f t) (oS s):=by
 have h1:=yz t hz;have h2:=λhv=>c_sfull s hs f.toNat f t (tJ _) h0 hv<|hf hv;have hV:fullR s f t=if validB t=true then(if (y6 s f.toNat f t).2.1=0 then((y6 s f.toNat f t).1,(y6 s f.toNat f t).2.2,0) else(noT,0,(y6 s f.toNat f t).2.1)) else(noT,0,1):=rfl
 rw[hV];generalize y6 s f.toNat f t=z at*;obtain⟨z1,z2,z3⟩:=z;obtain⟨k,str,n,l⟩:=t;refine acv (v28_F179 k str n (FTs l) ..) ?_;refine⟨_,h1,zu (λh=>?_) λh=>⟨(z1,z2,z3),h2<|zp h,zu (λh'=>?_) λh'=>?_⟩⟩
 .rw[tD<|zp h];exact⟨leHd (l:=[]) zO,rfl⟩
 .have h:validB (.mk k str n l)=true:=zp h;rw[tG h,tD<|zp h'];exact⟨leHd (l:=[]) zO,rfl⟩
 .have h:validB (.mk k str n l)=true:=zp h;rw[tG h,tG<|zp h'];exact rrl
theorem rr (s:Sto)(hs:OKS s)(f:Int)(t:Tm)(h0:0-9223372036854775808<=f)(hz:t.sz<=B)(hf:validB t=true->Fit f.toNat t):AC tB 167 [aS 0,aT t,ci f] (oS s) (aHd<|xw s f t) (oS s):=by
 have h:=fi s hs f t h0 hz hf
 have hsh:validB t=true->(y6 s f.toNat f t).2.1=0->AC tB 180 [aT (y6 s f.toNat f t).1] [] (aT<|zM (y6 s f.toNat f t).1) []:=λhv he=>by
  have h0:0<=f:=by
   rcases Int.le_total 0 f with q|q
   .exact q
   .rw[gD s _ t q] at he;cases he
  obtain⟨⟨a,b⟩,c⟩:=WO hs f.toNat f t (tJ _) h0 hv (hf hv) he;have:=(hf hv).2.1;have h3:=c_eShort (y6 s f.toNat f t).1 za b;rw[tG a] at h3;exact h3
 have e1:xw s f t=if validB t=true then(if (y6 s f.toNat f t).2.1=0 then(zM (y6 s f.toNat f t).1,(y6 s f.toNat f t).2.2,0) else(noT,0,(y6 s f.toNat f t).2.1)) else(noT,0,1):=rfl
 have e2:fullR s f t=if validB t=true then(if (y6 s f.toNat f t).2.1=0 then((y6 s f.toNat f t).1,(y6 s f.toNat f t).2.2,0) else(noT,0,(y6 s f.toNat f t).2.1)) else(noT,0,1):=rfl
 have go:∀z:Tm×Int×Int,AC tB 28 [aT t,ci f,.c<|.fn (.func 179) [(false,[.ep 0 2 0 0])] []] (oS s) (aHd z) (oS s)->∀r:TV,br (z.2.2 !=0) (TV.Le (.tup [(true,[qi 0,qf<|.str [],qi 0,qf .N]),(false,[qi 0]),(false,[qi z.2.2])]) r/\oS s=oS s)
   (∃u:Tm,AC tB 180 [aT z.1] [] (aT u) []/\TV.Le (.tup [(true,cT u),(false,[qi z.2.1]),(false,[qi 0])]) r/\oS s=oS s)->AC tB 167 [aS 0,aT t,ci f] (oS s) r (oS s):=λz hz r hb=>by
  obtain⟨k,str,n,l⟩:=t;refine acv (v167 k str n (FTs l) ..) ?_;exact⟨z,hz,hb⟩
 refine go _ h _ ?_;rw[e1,e2];by_cases hv:validB t=true
 .rw[tG hv,tG hv];by_cases he:(y6 s f.toNat f t).2.1=0
  .rw[tG he,tG he];exact bN ⟨_,hsh hv he,.refl _,rfl⟩
  .rw[tD he,tD he];exact zu (λ_=>⟨leHd (l:=[]) zO,rfl⟩) (λh=>absurd (zp h) he)
 .rw[tD hv,tD hv];exact bP ⟨leHd (l:=[]) zO,rfl⟩
theorem vA (s:Sto)(x:Int)(t:Tm):(bindS s x t).V.length=s.V.length:=by unfold bindS;split<;>simp
theorem OKS.bindA {s:Sto}{x:Int}{t:Tm}(h:OKS s)(f:t.sz<=40000)(e:bd 2199023255552 t):OKS (bindS s x t):=by
 by_cases q:uz s x t=true
 .rw[(vX q).1];intro i d b;rcases El d with d|rfl
  .exact h i d b
  .refine⟨?_,f,e⟩;simp only[uz,tF] at q;exact q.2.2.1
 .rw[(kB<|zp q).1];exact h
theorem p6 {s:Sto}{x:Int}{t:Tm}(q:uz s x t=true):0<=x/\x<(s.V.length:Int):=by simp only[uz,tF,inB,Ak] at q;exact q.1
def Ext (s0 s:Sto):Prop:=∃xs,s.T=s0.T++xs/\s0.V.length<=s.V.length/\∀j,j<s0.V.length->(xs.foldl clrV s.V)[j]?=s0.V[j]?
theorem Ext.refl (s:Sto):Ext s s:=⟨[],zb,tJ _,λ_ _=>rfl⟩
theorem Ext.fresh {s0 s:Sto}(h:Ext s0 s)(lv:Int):Ext s0 (freshS s lv):=by obtain⟨xs,e,f,b⟩:=h;refine⟨xs,e,by simp only[freshS,tE];omega,λj d=>?_⟩;rw[<-b j d,jT,jT];show(s.V++_)[j]?.map _=_;rw[Ea za]
theorem Ext.bind {s0 s:Sto}(h:Ext s0 s)(o:∀i∈s.V,i.bd=false->i.v=noT)(x:Int)(t:Tm):Ext s0 (bindS s x t):=by
 by_cases q:uz s x t=true
 .obtain⟨xs,u,w,p⟩:=h;have f:=p6 q;obtain⟨d,m⟩:=Y8 f.1 f.2;have b:(zL s.V x).bd=false:=by simp only[uz,tF,AA] at q;exact q.2.1
  rw[m] at b;have g:=o _ (List.getElem_mem d) b;rw[(vX q).1,m];refine⟨xs++[x],by rw[u,AB],by rw[EQ];exact w,λj r=>?_⟩;rw[<-p j r,jT,jT,Eb];by_cases e:x.toNat=j
  .subst e;rw[tG rfl,tG d,tO d];simp only[tW,List.any_append,E3,EZ,EC,Ee,tZ];congr 1;generalize s.V[x.toNat]=v at*;obtain⟨lv,bd,v⟩:=v;simp only at b g;subst b;subst g;unfold clrI;split<;>rfl
  .rw[tD e];congr 1;funext v;simp[List.any_append,e]
 .rw[(kB<|zp q).1];exact h
theorem Ext.cut {s0 s:Sto}(h:Ext s0 s)(f:OKT s0):s0.T.length<=s.T.length/\s0.V.length<=s.V.length/\∀x∈s.T.take s0.T.length,x<(s0.V.length:Int):=by obtain⟨xs,d,e,g⟩:=h;refine⟨by rw[d,tE];omega,e,λx b=>?_⟩;rw[d,List.take_left] at b;exact(f x b).2
def wZ (t:Tm):Bool:=(zM t).k==3||(zM t).k==1
def yE (t:Tm):Tm:=if wZ t=true then zM t else noT
abbrev Jg (t:Tm)(b:Bool):TV:=.tup [(true,cT t),(false,[qf<|.bool b])]
theorem nW (t:Tm)(hs:t.sz<=SZ)(hb:bd M61 t):AC tB 168 [aT t] [] (if validB t=true then Jg (yE t) (wZ t) else Jg noT false) []:=by
 have h0:=yz t (by simp only[SZ,B] at*;omega);have h:=λh=>cO t (zB t h) (xM h) hs hb;have e1:∀b,wZ t=b->yE t=if b=true then zM t else noT:=λb h=>by rw[yE,h]
 have e2:wZ t=((zM t).k==3||(zM t).k==1):=rfl;obtain⟨k,s,n,l⟩:=t;refine acv (v168 k s n (FTs l) _ _) ?_;refine⟨_,h0,zu (λhv=>?_) λhv=>⟨_,h<|lc hv,zu (λh3=>?_) λh3=>zu (λh1=>?_) λh1=>?_⟩⟩
 .rw[tD<|by rw[not_t hv];simp];exact⟨leTB (l:=[]) zO,rfl⟩
 .have h3:((zM<|.mk k s n l).k==3)=true:=h3;have e:wZ (.mk k s n l)=true:=by rw[e2,h3];rfl
  rw[tG<|lc hv,e1 true e,e,tG rfl];exact rrl
 .have h1:((zM<|.mk k s n l).k==1)=true:=h1;have e:wZ (.mk k s n l)=true:=by rw[e2,h1,Ee]
  rw[tG<|lc hv,e1 true e,e,tG rfl];exact rrl
 .have h3:((zM<|.mk k s n l).k==3)=false:=h3;have h1:((zM<|.mk k s n l).k==1)=false:=h1;have e:wZ (.mk k s n l)=false:=by rw[e2,h1,h3];rfl
  rw[tG<|lc hv,e1 false e,e];exact⟨leTB (l:=[]) zO,rfl⟩
theorem mz (p:Tm->Bool):∀(l:List Tm) (i:Nat), -1<=ixF p l i/\ixF p l i<(i:Int)+(l.length:Int)+1
 |[],i=>by simp only[ixF];omega
 |t::l,i=>by
  have:=mz p l<|i+1;rw[ixF];split
  .simp only[tC];omega
  .simp only[tC];omega
theorem l_ixiodd (p:Tm->Bool)(b:List Tm):∀a:List Tm,(a++b).length<=B->(∀u∈b,AC tB 166 [aT u] [] (cb<|p u) [])->RPt tB 42 0 (ci<|ixF p b a.length) [] 1 ⟨[(0,aL<|a++b),(1,.c<|.fn (.func 166) [] []),(7,ci ((a++b).length:Int)),(8,ci (a.length:Int))],[],0⟩:=by
 induction b with
 |nil=>intro a hs _;refine rpv (YP ..) ?_;exact bF zb<|yF rfl
 |cons t b ihb=>
  intro a hs ih;have h3:=ltI' a t b;have h1:=ih t tM;have h2:=ihb (a++[t]) (zp hs) λu hu=>ih u<|tK _ hu;rw[ap,nx,show(a++[t]).length=a.length+1 by simp] at h2;rw[ixF];simp only[tE,tC,B] at hs;have h4:(a.length:Int)<((a++t::b).length:Int):=by simp only[tE,tC];omega
  refine rpv (YP ..) ?_;rw[w64 za za];refine bT h4 ⟨⟨rfl,za,h3,xr ..⟩,p t,by rw[xN];exact h1,zu (λh=>?_) λh=>?_⟩
  .rw[tG h];exact yF rfl
  .rw[tD<|by rw[h];simp];exact h2
theorem c_ixiodd (p:Tm->Bool)(l:List Tm)(hl:l.length<=B)(h:∀u∈l,AC tB 166 [aT u] [] (cb<|p u) []):AC tB 42 [aL l,.c<|.fn (.func 166) [] []] [] (ci<|ixF p l 0) []:=by have:=l_ixiodd p l [] hl h;refine acv (v42_F166 ..) ?_;rw[zq];exact⟨rfl,this⟩
theorem lZ (p:Tm->Bool)(l:List Tm)(hl:l.length<=B)(h:∀u∈l,AC tB 166 [aT u] [] (cb<|p u) []):AC tB 25 [aL l,.c<|.fn (.func 166) [] []] [] (cb<|l.any p) []:=by refine acv (v25_F166 ..) ?_;exact⟨_,c_ixiodd p l hl h,zD<|vJ p l 0⟩
theorem fI (p:Tm->Bool)(b:List Tm):∀a:List Tm,(a++b).length<=B->(∀u∈b,AC tB 173 [aT u] [] (cb<|p u) [])->RPt tB 42 0 (ci<|ixF p b a.length) [] 1 ⟨[(0,aL<|a++b),(1,.c<|.fn (.func 173) [] []),(7,ci ((a++b).length:Int)),(8,ci (a.length:Int))],[],0⟩:=by
 induction b with
 |nil=>intro a hs _;refine rpv (YK ..) ?_;exact bF zb<|yF rfl
 |cons t b ihb=>
  intro a hs ih;have h3:=ltI' a t b;have h1:=ih t tM;have h2:=ihb (a++[t]) (zp hs) λu hu=>ih u<|tK _ hu;rw[ap,nx,show(a++[t]).length=a.length+1 by simp] at h2;rw[ixF];simp only[tE,tC,B] at hs;have h4:(a.length:Int)<((a++t::b).length:Int):=by simp only[tE,tC];omega
  refine rpv (YK ..) ?_;rw[w64 za za];refine bT h4 ⟨⟨rfl,za,h3,xr ..⟩,p t,by rw[xN];exact h1,zu (λh=>?_) λh=>?_⟩
  .rw[tG h];exact yF rfl
  .rw[tD<|by rw[h];simp];exact h2
theorem fm (p:Tm->Bool)(l:List Tm)(hl:l.length<=B)(h:∀u∈l,AC tB 173 [aT u] [] (cb<|p u) []):AC tB 42 [aL l,.c<|.fn (.func 173) [] []] [] (ci<|ixF p l 0) []:=by have:=fI p l [] hl h;refine acv (v42_F173 ..) ?_;rw[zq];exact⟨rfl,this⟩
theorem gf (p:Tm->Bool)(l:List Tm)(hl:l.length<=B)(h:∀u∈l,AC tB 173 [aT u] [] (cb<|p u) []):AC tB 25 [aL l,.c<|.fn (.func 173) [] []] [] (cb<|l.any p) []:=by refine acv (v25_F173 ..) ?_;exact⟨_,fm p l hl h,zD<|vJ p l 0⟩
abbrev obT (t:Tm):AObj:=.arr 4 [cT t]
theorem mm (p:Tm->Bool)(o:Tm)(b:List Tm):∀a:List Tm,(a++b).length<=B->(∀u∈b,AC tB 169 [aT u,.c<|.a<|.ep 0 4 0 0] [obT o] (cb<|p u) [obT o])->
  RPt tB 42 1 (ci<|ixF p b a.length) [obT o] 1 ⟨[(0,aL<|a++b),(1,.c<|.fn (.func 169) [] [(false,[.ep 0 4 0 0])]),(7,ci ((a++b).length:Int)),(8,ci (a.length:Int))],[(0,obT o)],1⟩:=by
 induction b with
 |nil=>intro a hs _;obtain⟨ok,os,on,ol⟩:=o;refine rpv (Xk ..) ?_;exact bF zb rrl
 |cons t b ihb=>
  intro a hs ih;have h3:=ltI' a t b;have h1:=ih t tM;have h2:=ihb (a++[t]) (zp hs) λu hu=>ih u<|tK _ hu;rw[ap,nx,show(a++[t]).length=a.length+1 by simp] at h2;rw[ixF];simp only[tE,tC,B] at hs;have h4:(a.length:Int)<((a++t::b).length:Int):=by simp only[tE,tC];omega
  obtain⟨ok,os,on,ol⟩:=o;refine rpv (Xk ..) ?_;rw[w64 za za];refine bT h4 ⟨⟨rfl,za,h3,xr ..⟩,p t,by rw[xN];exact h1,zu (λh=>?_) λh=>?_⟩
  .rw[tG h];exact rrl
  .rw[tD<|by rw[h];simp];exact h2
theorem ow (p:Tm->Bool)(o:Tm)(l:List Tm)(hl:l.length<=B)(h:∀u∈l,AC tB 169 [aT u,.c<|.a<|.ep 0 4 0 0] [obT o] (cb<|p u) [obT o]):AC tB 42 [aL l,.c<|.fn (.func 169) [] [(false,[.ep 0 4 0 0])]] [obT o] (ci<|ixF p l 0) [obT o]:=by have:=mm p o l [] hl h;obtain⟨ok,os,on,ol⟩:=o;refine acv (v42_F169 ..) ?_;rw[zq];exact⟨rfl,this⟩
theorem pJ (p:Tm->Bool)(o:Tm)(b:List Tm):∀a:List Tm,(a++b).length<=B->(∀u∈b,AC tB 186 [aT u,.c<|.a<|.ep 0 4 0 0] [obT o] (cb<|p u) [obT o])->
  RPt tB 42 1 (ci<|ixF p b a.length) [obT o] 1 ⟨[(0,aL<|a++b),(1,.c<|.fn (.func 186) [] [(false,[.ep 0 4 0 0])]),(7,ci ((a++b).length:Int)),(8,ci (a.length:Int))],[(0,obT o)],1⟩:=by
 induction b with
 |nil=>intro a hs _;obtain⟨ok,os,on,ol⟩:=o;refine rpv (Xr ..) ?_;exact bF zb rrl
 |cons t b ihb=>
  intro a hs ih;have h3:=ltI' a t b;have h1:=ih t tM;have h2:=ihb (a++[t]) (zp hs) λu hu=>ih u<|tK _ hu;rw[ap,nx,show(a++[t]).length=a.length+1 by simp] at h2;rw[ixF];simp only[tE,tC,B] at hs;have h4:(a.length:Int)<((a++t::b).length:Int):=by simp only[tE,tC];omega
  obtain⟨ok,os,on,ol⟩:=o;refine rpv (Xr ..) ?_;rw[w64 za za];refine bT h4 ⟨⟨rfl,za,h3,xr ..⟩,p t,by rw[xN];exact h1,zu (λh=>?_) λh=>?_⟩
  .rw[tG h];exact rrl
  .rw[tD<|by rw[h];simp];exact h2
theorem pV (p:Tm->Bool)(o:Tm)(l:List Tm)(hl:l.length<=B)(h:∀u∈l,AC tB 186 [aT u,.c<|.a<|.ep 0 4 0 0] [obT o] (cb<|p u) [obT o]):AC tB 42 [aL l,.c<|.fn (.func 186) [] [(false,[.ep 0 4 0 0])]] [obT o] (ci<|ixF p l 0) [obT o]:=by have:=pJ p o l [] hl h;obtain⟨ok,os,on,ol⟩:=o;refine acv (v42_F186 ..) ?_;rw[zq];exact⟨rfl,this⟩
def lfB (a b:Tm):Bool:=a.k==b.k&&a.n==b.n
theorem oC (a b:Tm):AC tB 170 [aT a,aT b] [] (cb<|lfB a b) []:=by
 obtain⟨k,s,n,l⟩:=a;obtain⟨k',s',n',l'⟩:=b;refine acv (v170 k s n (FTs l) k' s' n' (FTs l') _ _) ?_;have e:lfB (.mk k s n l) (.mk k' s' n' l')=(k==k'&&n==n'):=rfl;refine zu (λh=>?_) λh=>?_
 .have h:(k==k')=true:=h;rw[e,h,AS];exact rrl
 .have h:(k==k')=false:=h;rw[e,h,As];exact rrl
theorem c_args1 (a o:Tm):AC tB 169 [aT a,.c<|.a<|.ep 0 4 0 0] [obT o] (cb<|lfB a o) [obT o]:=by have h:=oC a o;obtain⟨k,s,n,l⟩:=a;obtain⟨k',s',n',l'⟩:=o;refine acv (v169 k s n (FTs l) k' s' n' (FTs l') _ _) ?_;exact⟨_,h,.refl _,rfl⟩
theorem c_image1 (a o:Tm):AC tB 186 [aT a,.c<|.a<|.ep 0 4 0 0] [obT o] (cb<|lfB a o) [obT o]:=by have h:=oC a o;obtain⟨k,s,n,l⟩:=a;obtain⟨k',s',n',l'⟩:=o;refine acv (v186 k s n (FTs l) k' s' n' (FTs l') _ _) ?_;exact⟨_,h,.refl _,rfl⟩
theorem l_ixO (o:Tm)(b:List Tm):∀a:List Tm,(a++b).length<=B->
  RPt tB 42 2 (ci<|ixF (λu=>lfB u o) b a.length) [.arz 4<|FTs<|a++b,obT o] 1 ⟨[(0,.c<|.a<|.osl 0 4 0 (a++b).length),(1,.c<|.fn (.func 169) [] [(false,[.ep 1 4 0 0])]),(7,ci ((a++b).length:Int)),(8,ci (a.length:Int))],[(0,.arz 4<|FTs<|a++b),(1,obT o)],2⟩:=by
 induction b with
 |nil=>intro a hs;obtain⟨ok,os,on,ol⟩:=o;refine rpv (je ..) ?_;exact bF zb rrl
 |cons t b ihb=>
  intro a hs;have h3:=ltI' a t b;have h1:=c_args1 t o;have h2:=ihb (a++[t]) (zp hs);rw[ap,nx,show(a++[t]).length=a.length+1 by simp] at h2;rw[ixF];simp only[tE,tC,B] at hs;have h4:(a.length:Int)<((a++t::b).length:Int):=by simp only[tE,tC];omega
  have em:=xr a t b;obtain⟨ok,os,on,ol⟩:=o;refine rpv (je ..) ?_;rw[w64 za za];refine bT h4 ⟨by simp only[tE,tC];omega,⟨by rw[A4];omega,by rw[A4,em,midI,A3,tN<|by rw[ym];exact tJ _],rfl⟩,lfB t<|.mk ok os on ol,by rw[A4,xN];exact h1,zu (λh=>?_) λh=>?_⟩
  .rw[tG h];exact rrl
  .rw[tD<|by rw[h];simp];exact h2
theorem c_ixO (o:Tm)(l:List Tm)(hl:l.length<=B):AC tB 42 [.c<|.a<|.osl 0 4 0 l.length,.c<|.fn (.func 169) [] [(false,[.ep 1 4 0 0])]] [.arz 4<|FTs l,obT o] (ci<|ixF (λu=>lfB u o) l 0) [.arz 4<|FTs l,obT o]:=by have:=l_ixO o l [] hl;obtain⟨ok,os,on,ol⟩:=o;refine acv (fG ..) ?_;exact this
theorem c_anyO (o:Tm)(l:List Tm)(hl:l.length<=B):AC tB 25 [.c<|.a<|.osl 0 4 0 l.length,.c<|.fn (.func 169) [] [(false,[.ep 1 4 0 0])]] [.arz 4<|FTs l,obT o] (cb<|l.any λu=>lfB u o) [.arz 4<|FTs l,obT o]:=by have h:=c_ixO o l hl;have e:=vJ (λu=>lfB u o) l 0;obtain⟨ok,os,on,ol⟩:=o;refine acv (dP ..) ?_;exact⟨_,h,by rw[<-e];exact .refl _,rfl⟩
theorem c_anyN (o:Tm):AC tB 25 [.c<|qf .N,.c<|.fn (.func 169) [] [(false,[.ep 0 4 0 0])]] [obT o] (cb false) [obT o]:=by
 have h:=ow (λu=>lfB u o) o [] (by simp only[tR,B];omega) (λu hu=>by cases hu);have hh:AC tB 25 [aL [],.c<|.fn (.func 169) [] [(false,[.ep 0 4 0 0])]] [obT o] (cb false) [obT o]:=by obtain⟨ok,os,on,ol⟩:=o;refine acv (v25_F169 ..) ?_;exact⟨_,h,.refl _,rfl⟩
 exact hh.args ⟨.c _ _<|.a _ _<|.fz _ _ zO,.refl _,trivial⟩
def j0 (lv:Int)(out:List Tm)(u:Tm):Bool:= !wZ u||((yE u).k==1&&decide ((yE u).n<=lv))||out.any λv=>lfB v<|yE u
def wP (s:Sto)(lv:Int):List Tm->List Tm->Int->List Tm×Int×Int
 |out,[],f=>(out,f,0)
 |out,t::l,f=>if (xw s f t).2.2≠0 then([],0,(xw s f t).2.2) else if j0 lv out (xw s f t).1=true then([],0,171) else wP s lv (out++[yE (xw s f t).1]) l (xw s f t).2.1
def yJ (s:Sto)(x:Int)(l:List Tm)(f:Int):List Tm×Int×Int:=if (!inB s.V x||l.any λt=> !validB t)=true then([],0,1) else wP s (zL s.V x).lv [] l f
abbrev aArs (z:List Tm×Int×Int):TV:=.tup [(false,[qf<|.sl false 4<|FTs z.1]),(false,[qi z.2.1]),(false,[qi z.2.2])]
theorem leAr {x:FV}{a b:Int}{l:List Tm}(h:FV.Le x<|.sl false 4<|FTs l):TV.Le (.tup [(false,[qf x]),(false,[qi a]),(false,[qi b])]) (aArs (l,a,b)):=jL ⟨⟨rfl,.a _ _<|.fz _ _ h,trivial⟩,lwR _,lwR _,trivial⟩
theorem Jh {s:Sto}(r:OKS s){f:Int}{t:Tm}(m:validB t=true->Fit f.toNat t)(i:(xw s f t).2.2=0):validB t=true/\validB (xw s f t).1=true/\bd M61 (xw s f t).1/\(xw s f t).1.sz<=SZ/\(xw s f t).1.sz+42000*(xw s f t).2.1.toNat<=t.sz+42000*f.toNat/\0<=(xw s f t).2.1/\(xw s f t).2.1<=f:=by
 unfold xw at i ⊢;split at i
 .rename_i e;rw[tG e];have j:0<=f\/(y6 s f.toNat f t).2.1≠0:=by
   rcases Int.le_total 0 f with q|q
   .exact .inl q
   .right;rw[gD s _ t q];simp
  split at i
  .rename_i d;rw[tG d];have j:0<=f:=j.resolve_right λh=>h d;obtain⟨⟨a,b⟩,c⟩:=WO r f.toNat f t (tJ _) j e (m e) d;have o:=vQ s f.toNat f t j;have g:=uY _<|zB _ a;have p:=(m e).2.1;exact⟨e,by rw[xc,g.1,g.2.1<|xM a];rfl,g.2.2.2 _ (by simp only[M61];omega) b,by have:=g.2.2.1;simp only;omega,by have:=g.2.2.1;simp only;omega,o⟩
  next d=>exact absurd i d
 .cases i
abbrev oInf (i:Inf):AObj:=.arr 6 [[qi i.lv,qf<|.bool i.bd,qi i.v.k,qf<|.str i.v.s,qi i.v.n,qf<|.sl false 4<|FTs i.v.l]]
theorem rO (s:Sto)(hs:OKS s)(i:Inf)(l0:List Tm)(hl0:l0.length<=1000000000):∀(b pre out:List Tm) (f:Int),out.length=pre.length->out≠[]->l0=pre++b->0-9223372036854775808<=f->(∀t∈b,t.sz<=B/\(validB t=true->Fit f.toNat t))->
  RPt tB 153 3 (aArs<|wP s i.lv out b f) (oS s) 1
   ⟨[(0,aS 0),(3,ci f),(11,.c<|.a<|.ep 3 6 0 0),(13,.c<|.a<|.osl 4 4 0 out.length),(35,aL l0),(36,ci (l0.length:Int)),(37,ci (pre.length:Int))],
    [(0,sto2 1 2 s),(1,.arz 6<|SR s.V),(2,.arz 1<|IR s.T),(3,oInf i),(4,.arz 4<|FTs out)],5⟩
 |[],pre,out,f,ho,hne,hl,h0,_=>by subst hl;obtain⟨ilv,ibd,⟨ik,is,iN,il⟩⟩:=i;refine rpv (rt f out.length (FTs<|pre++[]) ((pre++[]).length:Nat) (pre.length:Nat) ..) ?_;refine bF (by rw[tY];omega) ⟨⟨rfl,by rw[zq];omega⟩,?_,rfl⟩;rw[A3,tN<|by rw[zq];omega];exact leAr leSl
 |t::b,pre,out,f,ho,hne,hl,h0,hb=>by
  subst hl;obtain⟨hz,hfit⟩:=hb t tM;have h3:=ltI' pre t b;have em:=xr pre t b;have hF:=rr s hs f t h0 hz hfit;have okF:=Jh hs hfit;have eA:wP s i.lv out (t::b) f=if (xw s f t).2.2≠0 then([],0,(xw s f t).2.2) else if j0 i.lv out (xw s f t).1=true then([],0,171) else wP s i.lv (out++[yE (xw s f t).1]) b (xw s f t).2.1:=rfl
  have next:=λg w h1 h2=>rO s hs i (pre++t::b) hl0 b (pre++[t]) (out++[w]) g zj zb zb h1 h2;simp only[tE,tC] at hl0;rw[eA];generalize xw s f t=z at*;obtain⟨u,g,e⟩:=z;simp only at okF hF ⊢;have h4:((pre.length:Nat):Int)<(((pre++t::b).length:Nat):Int):=by simp only[tE,tC];omega
  obtain⟨ilv,ibd,⟨ik,is,iN,il⟩⟩:=i;refine rpv (rt f out.length (FTs<|pre++t::b) ((pre++t::b).length:Nat) (pre.length:Nat) ..) ?_;rw[xN,w64 (x:=((pre.length:Nat):Int)+1) za za];refine bT h4 ⟨⟨rfl,za,h3,em⟩,(u,g,e),hF,zu (λhe=>?_) λhe=>?_⟩
  .have he:e≠0:=by have he:(e !=0)=true:=he;exact zp he
   rw[tG he];exact⟨leAr (l:=[]) zO,rfl⟩
  .have he:e=0:=by have he:(e !=0)=false:=he;exact zp he
   subst he;obtain⟨hv,hvu,hbu,hsz,_,hg0,hg1⟩:=okF rfl;rw[tD zb];have hleaf:=nW u hsz hbu;rw[tG hvu] at hleaf;have hany:=c_anyO (yE u) out (by simp only[B];omega);have eb:j0 ilv out u=(!wZ u||((yE u).k==1&&decide ((yE u).n<=ilv))||out.any λv=>lfB v<|yE u):=rfl
   have go:j0 ilv out u=false->1<=1/\(out.length<=(FTs out).length/\zI (out.length+1) 56)/\RPt tB 153 3 (aArs<|wP s ilv (out++[yE u]) b g) (oS s) 1
     ⟨[(0,aS 0),(3,ci g),(11,.c<|.a<|.ep 3 6 0 0),(13,.c<|.a<|.osl 4 4 0<|out.length+1),(35,aL<|pre++t::b),(36,ci ((pre++t::b).length:Int)),(37,ci<|(pre.length:Int)+1)],
      [(0,sto2 1 2 s),(1,.arz 6<|SR s.V),(2,.arz 1<|IR s.T),(3,oInf ⟨ilv,ibd,⟨ik,is,iN,il⟩⟩),(4,.arz 4<|take out.length (FTs out)++[FT4<|yE u])],5⟩:=λ_=>by
    have hn:=next g (yE u) za (λx hx=>⟨(hb x<|tK _ hx).1,λhv=>((hb x<|tK _ hx).2 hv).mono za⟩);have e5:take out.length (FTs out)++[FT4<|yE u]=FTs (out++[yE u]):=by rw[tN<|by rw[zq];omega,wN,yh];rfl
    have e7:(out++[yE u]).length=out.length+1:=zb;have e8:(((pre++[t]).length:Nat):Int)=(pre.length:Int)+1:=zb;rw[e7,e8] at hn;rw[e5];exact⟨tJ _,⟨by rw[zq];exact tJ _,wT za⟩,hn⟩
   have bad:j0 ilv out u=true->(TV.Le (.tup [(false,[qf .N]),(false,[qi 0]),(false,[qi 171])]) (aArs (if j0 ilv out u=true then([],0,171) else wP s ilv (out++[yE u]) b g))/\oS s=oS s):=λh=>by rw[tG h];exact⟨leAr (l:=[]) zO,rfl⟩
   have good:∀h:j0 ilv out u=false,1<=1/\(out.length<=(FTs out).length/\zI (out.length+1) 56)/\RPt tB 153 3 (aArs (if j0 ilv out u=true then([],0,171) else wP s ilv (out++[yE u]) b g)) (oS s) 1
     ⟨[(0,aS 0),(3,ci g),(11,.c<|.a<|.ep 3 6 0 0),(13,.c<|.a<|.osl 4 4 0<|out.length+1),(35,aL<|pre++t::b),(36,ci ((pre++t::b).length:Int)),(37,ci<|(pre.length:Int)+1)],
      [(0,sto2 1 2 s),(1,.arz 6<|SR s.V),(2,.arz 1<|IR s.T),(3,oInf ⟨ilv,ibd,⟨ik,is,iN,il⟩⟩),(4,.arz 4<|take out.length (FTs out)++[FT4<|yE u])],5⟩:=λh=>by
    have:=go h;rw[tD<|by rw[h];simp];exact this
   refine⟨(yE u,wZ u),hleaf,zu (λh1=>?_) λh1=>?_⟩
   .have h1:((yE u).k==1)=true:=h1;rw[h1,AS] at eb;refine⟨_,hany,zu (λh2=>bad ?_) λh2=>zu (λh3=>bad ?_) λh3=>zu (λh4=>bad ?_) λh4=>good ?_⟩
    .have h2:(!wZ u)=true:=h2;rw[eb,h2];rfl
    .have h3:decide ((yE u).n<=ilv)=true:=h3;rw[eb,h3,Ee];rfl
    .have h4:(out.any λv=>lfB v<|yE u)=true:=h4;rw[eb,h4,Ee]
    .have h2:(!wZ u)=false:=h2;have h3:decide ((yE u).n<=ilv)=false:=h3;have h4:(out.any λv=>lfB v<|yE u)=false:=h4;rw[eb,h2,h3,h4];rfl
   .have h1:((yE u).k==1)=false:=h1;rw[h1,As,S0] at eb;refine⟨_,hany,zu (λh2=>bad ?_) λh2=>zu (λh4=>bad ?_) λh4=>good ?_⟩
    .have h2:(!wZ u)=true:=h2;rw[eb,h2];rfl
    .have h4:(out.any λv=>lfB v<|yE u)=true:=h4;rw[eb,h4,Ee]
    .have h2:(!wZ u)=false:=h2;have h4:(out.any λv=>lfB v<|yE u)=false:=h4;rw[eb,h2,h4];rfl
theorem mA (s:Sto)(hs:OKS s)(x f:Int)(l:List Tm)(hl0:l.length<=1000000000)(h0:0-9223372036854775808<=f)(hb:∀t∈l,t.sz<=B/\(validB t=true->Fit f.toNat t)):AC tB 153 [aS 0,ci x,aL l,ci f] (oS s) (aArs<|yJ s x l f) (oS s):=by
 have hI:=qQ s x;have hO:=lZ (λt=> !validB t) l (by simp only[B];omega) λu hu=>c_iodd u (hb u hu).1;have eA:yJ s x l f=if (!inB s.V x||l.any λt=> !validB t)=true then([],0,1) else wP s (zL s.V x).lv [] l f:=rfl
 rw[eA];generalize zL s.V x=i at*;generalize inB s.V x=ib at*;generalize (l.any λt=> !validB t)=od at*;obtain⟨ilv,ibd,iv⟩:=i;refine acv (v153 x (FTs l) f ..) ?_;refine⟨(ilv,ibd,iv,ib),hI,zu (λh=>?_) λh=>⟨_,hO,zu (λh2=>?_) λh2=>⟨rfl,?_⟩⟩⟩
 .have h:(!ib)=true:=h;rw[h,EC,tG rfl];exact⟨leAr (l:=[]) zO,rfl⟩
 .rw[h2,Ee,tG rfl];exact⟨leAr (l:=[]) zO,rfl⟩
 have h:(!ib)=false:=h;rw[h,h2,tD zb,zq];show RPt tB 153 3 (aArs<|wP s ilv [] l f) (oS s) 1 ⟨[(0,aS 0),(3,ci f),(11,.c<|.a<|.ep 3 6 0 0),(13,.c<|qf .N),(35,aL l),(36,ci (l.length:Int)),(37,ci 0)],[(0,sto2 1 2 s),(1,.arz 6<|SR s.V),(2,.arz 1<|IR s.T),(3,oInf ⟨ilv,ibd,iv⟩)],4⟩;cases l with
 |nil=>obtain⟨ik,is,iN,il⟩:=iv;refine rpv (m7 f (FTs []) 0 0 ..) ?_;exact bN ⟨leAr (l:=[]) zO,rfl⟩
 |cons t b=>
  obtain⟨hz,hfit⟩:=hb t tM;have h3:=ltI' [] t b;have em:=xr [] t b;have hF:=rr s hs f t h0 hz hfit;have okF:=Jh hs hfit;have eA:wP s ilv [] (t::b) f=if (xw s f t).2.2≠0 then([],0,(xw s f t).2.2) else if j0 ilv [] (xw s f t).1=true then([],0,171) else wP s ilv [yE (xw s f t).1] b (xw s f t).2.1:=rfl
  have next:=λg w h1 h2=>rO s hs ⟨ilv,ibd,iv⟩ (t::b) hl0 b [t] [w] g rfl zb rfl h1 h2;simp only[tC] at hl0;rw[eA];generalize xw s f t=z at*;obtain⟨u,g,e⟩:=z;simp only at okF hF ⊢;obtain⟨ik,is,iN,il⟩:=iv;refine rpv (m7 f (FTs<|t::b) ((t::b).length:Nat) 0 ..) ?_;rw[show aE (getD (FTs<|t::b) (toNat 0) [])=aT t from yT t,w64 (x:=(0:Int)+1) za za];refine zu (λ_=>⟨⟨rfl,tU _,h3,em⟩,(u,g,e),hF,zu (λhe=>?_) λhe=>?_⟩) (λh=>absurd (tP h)<|by simp only[tC];omega)
  .have he:e≠0:=by have he:(e !=0)=true:=he;exact zp he
   rw[tG he];exact⟨leAr (l:=[]) zO,rfl⟩
  .have he:e=0:=by have he:(e !=0)=false:=he;exact zp he
   subst he;obtain⟨hv,hvu,hbu,hsz,_,hg0,hg1⟩:=okF rfl;rw[tD zb];have hleaf:=nW u hsz hbu;rw[tG hvu] at hleaf;have hany:=c_anyN<|yE u;have eb:j0 ilv [] u=(!wZ u||((yE u).k==1&&decide ((yE u).n<=ilv))):=by rw[j0,List.any_nil,S0]
   have bad:j0 ilv [] u=true->(TV.Le (.tup [(false,[qf .N]),(false,[qi 0]),(false,[qi 171])]) (aArs (if j0 ilv [] u=true then([],0,171) else wP s ilv [yE u] b g))/\oS s=oS s):=λh=>by rw[tG h];exact⟨leAr (l:=[]) zO,rfl⟩
   have good:∀h:j0 ilv [] u=false,1<=1/\zI 1 56/\RPt tB 153 3 (aArs (if j0 ilv [] u=true then([],0,171) else wP s ilv [yE u] b g)) (oS s) 1
     ⟨[(0,aS 0),(3,ci g),(11,.c<|.a<|.ep 3 6 0 0),(13,.c<|.a<|.osl 4 4 0 1),(35,aL<|t::b),(36,ci ((t::b).length:Int)),(37,ci<|0+1)],
      [(0,sto2 1 2 s),(1,.arz 6<|SR s.V),(2,.arz 1<|IR s.T),(3,oInf ⟨ilv,ibd,⟨ik,is,iN,il⟩⟩),(4,.arz 4 [FT4<|yE u])],5⟩:=λh=>by
    have hn:=next g (yE u) za (λx hx=>⟨(hb x<|tK _ hx).1,λhv=>((hb x<|tK _ hx).2 hv).mono za⟩);rw[tD<|by rw[h];simp,wN];exact⟨tJ _,wT za,hn⟩
   refine⟨(yE u,wZ u),hleaf,zu (λh1=>?_) λh1=>?_⟩
   .have h1:((yE u).k==1)=true:=h1;rw[h1,AS] at eb;refine⟨_,hany,zu (λh2=>bad ?_) λh2=>zu (λh3=>bad ?_) λh3=>bN<|good ?_⟩
    .have h2:(!wZ u)=true:=h2;rw[eb,h2];rfl
    .have h3:decide ((yE u).n<=ilv)=true:=h3;rw[eb,h3,Ee]
    .have h2:(!wZ u)=false:=h2;have h3:decide ((yE u).n<=ilv)=false:=h3;rw[eb,h2,h3];rfl
   .have h1:((yE u).k==1)=false:=h1;rw[h1,As,S0] at eb;refine⟨_,hany,zu (λh2=>bad ?_) λh2=>bN<|good ?_⟩
    .have h2:(!wZ u)=true:=h2;rw[eb,h2]
    .have h2:(!wZ u)=false:=h2;rw[eb,h2]
def FPr (p:Tm×Tm):List FV:=FT p.1++FT p.2
def PTs (l:List<|Tm×Tm):List (List FV):=l.map FPr
theorem ub (l:List<|Tm×Tm):(PTs l).length=l.length:=by simp[PTs]
theorem kS (a b:List<|Tm×Tm):PTs (a++b)=PTs a++PTs b:=by simp[PTs]
theorem FPr_len (p:Tm×Tm):(FPr p).length=8:=by simp[FPr,ym]
abbrev fnB (bk oc:Nat):TV:=.c<|.fn (.func bk) [] [(false,[.ep oc 1 0 0])]
theorem c_backP (l:List<|List FV):AC tB 50 [.c<|qf<|.sl false 8 l] [] (fnB 74 0) [.arr 1 [[qf<|.sl false 8 l]]]:=by refine acv (v50 ..) ?_;exact rrl
theorem isBkP:IsBk tB 74 79 78:=⟨zg,_,141,3,4,Tryz.func74,zg,zg,zg⟩
theorem bTyP:a7 tB 79 78 8=true:=zg
def stk (R:List<|List FV)(n:Nat)(ps:List<|Tm×Tm):List (List FV):=if ps=[] then R else R.take n++PTs ps
theorem cK {R:List (List FV)}{n:Nat}(d:n<=R.length)(b:List<|Tm×Tm):n+b.length<=(stk R n b).length/\(stk R n b).take (n+b.length)=R.take n++PTs b:=by
 unfold stk;split;next h=>subst h;simp[PTs,d]
 .have e:(R.take n++PTs b).length=n+b.length:=by simp[ub];omega
  exact⟨za,tN za⟩
abbrev oWk (s:Sto)(n:Nat)(R:List<|List FV)(f:Int):List AObj:=[.arr 3 [[.a<|.ep 1 2 0 0,.a<|.osl 4 8 0 n,qi f]],sto2 2 3 s,.arz 6<|SR s.V,.arz 1<|IR s.T,.arz 8 R]
abbrev oWk' (s:Sto)(n:Nat)(R:List<|List FV)(f:Int):List AObj:=[.arr 3 [[.a<|.ep 1 2 0 0,.a<|.osl 7 8 0 n,qi f]],sto2 5 6 s,.gone,.gone,.gone,.arz 6<|SR s.V,.arz 1<|IR s.T,.arz 8 R]
abbrev hpPu (s:Sto)(n:Nat)(R:List<|List FV)(f:Int)(a b:List Tm):AHeap:=
 [(0,.arr 3 [[.a<|.ep 1 2 0 0,.a<|.osl 14 8 0 n,qi f]]),(1,sto2 12 13 s),(2,.gone),(3,.gone),(4,.gone),(5,.gone),(6,.gone),(7,.gone),(8,.arr 1 [[.a<|.ep 0 3 0 0]]),(9,.arr 1 [[qf<|.sl false 4<|FTs a]]),(10,.arr 1 [[qf<|.sl false 4<|FTs b]]),(11,.arr 1 [[qf<|.sl false 4<|FTs a]]),(12,.arz 6<|SR s.V),(13,.arz 1<|IR s.T),(14,.arz 8 R)]
theorem oJ (s:Sto)(n:Nat)(R:List<|List FV)(f:Int)(a b:List Tm)(hab:a.length=b.length)(hn:n<=R.length)(hs:n+a.length<=1099511627776):
  AC tB 103 [.c<|.a<|.ep 0 3 0 0,aL a,aL b] (oWk s n R f) (.tup []) (oWk' s (n+a.length) (stk R n (a.zip b).reverse) f):=by
 refine acv (v103 (FTs a) (FTs b) ..) ?_;refine⟨a,my a,?_⟩;have hz:(a.zip b).length=a.length:=by simp[hab]
 refine RPt.backF (sh:=sh) (lv:=lv103) (α:=Nat) (Inv:=λi=>i<=a.length) (idx:=λi=>i) (nx:=λ_=>15) (m0:=12) (U:=[5,6,7]) (live:=[3,4,5,8]) (oc:=11) (n:=4) (es:=FTs a) (x0:=a.length) (g:=.tmp 8) (env:=[(3,.c<|.a<|.ep 8 1 0 0),(4,.c<|.a<|.ep 9 1 0 0),(5,.c<|.a<|.ep 10 1 0 0),(8,fnB 126 11)])
  (H:=λi=>hpPu s (n+(a.length-i)) (stk R n ((a.zip b).drop i).reverse) f a b) hP zg isBkT bTyT ?_ zg zg zg zg (λ_ _=>za) (λ_ _=>rfl) (λe he=>?_) (by rw[zq];omega) (λi hi=>by rw[zq];exact hi) (λi k hi hik hk=>?_) (tJ _) (by rw[zq]) λi hi h0=>?_
 .refine Eq.mpr (v103_1an ..) ?_;rw[Nat.sub_self,Ed,Et za];rfl
 .rw[yf] at he;obtain⟨t,_,rfl⟩:=Ay.1 he;exact ym t
 .have hik:i=k+1:=hik;have hi:i<=a.length:=hi;subst hik;have ha:k<a.length:=za;have hb:k<b.length:=za;have hd:=cK hn ((a.zip b).drop<|k+1).reverse;have hrl:(((a.zip b).drop<|k+1).reverse).length=a.length-(k+1):=by simp[hab]
  rw[hrl] at hd;have ea:getD (FTs a) (toNat ((k:Nat):Int)) []=FT a[k]:=by rw[yf];simp[getD,ha]
  have eb:getD (FTs b) (toNat ((k:Nat):Int)) []=FT b[k]:=by rw[yf];simp[getD,hb]
  have edz:(a.zip b).drop k=(a[k],b[k])::(a.zip b).drop (k+1):=by rw[Em za];simp
  have estk:stk R n ((a.zip b).drop k).reverse=take (n+(a.length-(k+1))) (stk R n ((a.zip b).drop<|k+1).reverse)++[FPr (a[k],b[k])]:=by rw[hd.2,edz,EV];unfold stk;rw[tD zb,kS,<-AB];rfl
  have en:n+(a.length-k)=n+(a.length-(k+1))+1:=za;have ef:getD (FTs a) k []=FT a[k]:=by rw[<-ea,hJ]
  rw[ef];generalize a[k]=u at*;generalize b[k]=w at*;obtain⟨uk,us,un,ul⟩:=u;obtain⟨wk,ws,wn,wl⟩:=w;refine Eq.mpr (i5 ..) ?_;rw[ea,eb,zq,zq];refine⟨⟨rfl,za,za,rfl⟩,⟨rfl,za,za,rfl⟩,tJ _,⟨hd.1,by unfold zI;omega⟩,k,⟨(by omega:k<=a.length),rfl⟩,?_,rfl⟩;show _=hpPu s (n+(a.length-k)) (stk R n ((a.zip b).drop k).reverse) f a b;rw[estk,en];rfl
 .have h0:i=0:=h0;subst h0;refine Eq.mpr (m8 ..) ?_;rw[A3,ET];exact rrl
structure IS where
 s:Sto
 f:Int
 e:Int
abbrev aIV:TV:=.c<|.a<|.ep 0 6 0 0
abbrev oIV (x lv:Int)(L:List Tm)(f e:Int):AObj:=.arr 6 [[.a<|.ep 1 2 0 0,qi x,qi lv,qf<|.sl false 4<|FTs L,qi f,qi e]]
abbrev oIs (x lv:Int)(L:List Tm)(f e:Int)(s:Sto):List AObj:=[oIV x lv L f e,sto2 2 3 s,.arz 6<|SR s.V,.arz 1<|IR s.T]
abbrev oIt (x lv:Int)(L:List Tm)(f e:Int)(s:Sto):List AObj:=[oIV x lv L f e,sto2 4 5 s,.gone,.gone,.arz 6<|SR s.V,.arz 1<|IR s.T]
abbrev bV3 (n:Int):Tm:=.mk 3 [] n []
def w5 (q:IS)(e:Int):IS:=if q.e=0 then⟨q.s,q.f,e⟩ else q
theorem m9 (x lv:Int)(L:List Tm)(f e er:Int)(s:Sto):AC tB 182 [aIV,ci er] (oIs x lv L f e s) (aT noT) (oIs x lv L f (if e=0 then er else e) s):=by
 refine acv (v182 ..) ?_;refine zu (λh=>?_) λh=>?_
 .have h:(e==0)=true:=h;rw[tG<|zp h];exact⟨leT (l:=[]) zO,rfl⟩
 .have h:(e==0)=false:=h;rw[tD<|zp h];exact⟨leT (l:=[]) zO,rfl⟩
def outT (t:Tm)(k:Int):Tm:=if t.k=3 then .mk t.k t.s (t.n-k) t.l else t
def imgT (lv:Int)(L:List Tm)(t:Tm)(k:Int):Tm×Bool:=
 if t.k=3/\t.n<k then(t,true) else if ixF (λu=>lfB u<|outT t k) L 0>=0 then(bV3<|k+(L.length:Int)-1-ixF (λu=>lfB u<|outT t k) L 0,true) else(t,t.k==1&&decide (t.n<=lv))
theorem cR (x lv:Int)(L:List Tm)(f e:Int)(s:Sto)(t:Tm)(k:Int)(hL:L.length<=100000)(hn:t.k=3-> -4611686018427387904<=t.n/\t.n<=4611686018427387904)(hk0:0<=k)(hk1:k<=1099511627776):
  AC tB 184 [aIV,aT t,ci k] (oIs x lv L f e s) (Jg (imgT lv L t k).1 (imgT lv L t k).2) (oIs x lv L f e s):=by
 have hx:=pV (λu=>lfB u<|outT t k) (outT t k) L (by simp only[B];omega) λu _=>c_image1 u<|outT t k;have hlt:=mz (λu=>lfB u<|outT t k) L 0;have i1:t.k=3/\t.n<k->imgT lv L t k=(t,true):=λh=>tG h;have i2:¬(t.k=3/\t.n<k)->ixF (λu=>lfB u<|outT t k) L 0>=0->imgT lv L t k=(bV3<|k+(L.length:Int)-1-ixF (λu=>lfB u<|outT t k) L 0,true):=λh h2=>(tD h).trans<|tG h2;have i3:¬(t.k=3/\t.n<k)->¬ixF (λu=>lfB u<|outT t k) L 0>=0->imgT lv L t k=(t,t.k==1&&decide (t.n<=lv)):=λh h2=>(tD h).trans<|tD h2;generalize imgT lv L t k=Z at*;generalize ixF (λu=>lfB u<|outT t k) L 0=p at*;have hb:=qb<|k+(L.length:Int)-1-p;obtain⟨tk,ts,tn,tl⟩:=t;simp only[Tm.n,Tm.k] at hn i1 i2 i3
 have tail:¬(tk=3/\tn<k)->br (decide (p>=0)) (FV.L 4 (.sl false 4<|FTs L)=true/\∃z2:Tm,AC tB 155 [ci<|wrap .i64<|wrap .i64 (wrap .i64 (k+(((FTs L).length:Nat):Int))-1)-p] [] (aT z2) []/\
   TV.Le (.tup [(true,cT z2),(false,[qf<|.bool true])]) (Jg Z.1 Z.2)/\oIs x lv L f e s=oIs x lv L f e s)
   (br (tk==1) (TV.Le (.tup [(true,[qi tk,qf<|.str ts,qi tn,qf<|.sl false 4<|FTs tl]),(false,[qf<|.bool (decide (tn<=lv))])]) (Jg Z.1 Z.2)/\oIs x lv L f e s=oIs x lv L f e s)
    (TV.Le (.tup [(true,[qi tk,qf<|.str ts,qi tn,qf<|.sl false 4<|FTs tl]),(false,[qf<|.bool false])]) (Jg Z.1 Z.2)/\oIs x lv L f e s=oIs x lv L f e s)):=by
  intro h0;rw[zq];refine zu (λh=>?_) λh=>?_
  .have h:=hU h;rw[i2 h0 h,w64 (x:=k+(L.length:Int)) za za,w64 (x:=k+(L.length:Int)-1) za za,w64 (x:=k+(L.length:Int)-1-p) za za];exact⟨rfl,_,hb,.refl _,rfl⟩
  .have h:=tP h;rw[i3 h0 h];refine zu (λh1=>?_) λh1=>?_
   .rw[h1,AS];exact rrl
   .rw[h1,As];exact rrl
 refine acv (v184 tk ts tn (FTs tl) k ..) ?_;refine zu (λh3=>?_) λh3=>?_
 .have h3:tk=3:=by have h3:(tk==3)=true:=h3;exact zp h3
  subst h3;have hn:=hn rfl;have eo:outT (.mk 3 ts tn tl) k=.mk 3 ts (tn-k) tl:=rfl;rw[eo] at hx;refine zu (λh4=>?_) λh4=>?_
  .have h4:=hU h4;rw[i1 ⟨rfl,h4⟩];exact rrl
  .have h4:=tP h4;rw[w64 (x:=tn-k) za za];refine bP ⟨p,hx,tail λq=>h4 q.2⟩
 .have h3:tk≠3:=by have h3:(tk==3)=false:=h3;exact zp h3
  have eo:outT (.mk tk ts tn tl) k=.mk tk ts tn tl:=tD h3;rw[eo] at hx;refine zu (λh=>absurd (by have h:(tk==3)=true:=h;exact zp h) h3) λ_=>⟨p,hx,tail λq=>h3 q.1⟩
def imgs (lv:Int)(L:List Tm)(k:Int)(m:Nat):List Tm->Nat->List Tm×List Tm->List Tm×List Tm
 |[],_,a=>a
 |t::l,i,a=>imgs lv L k m l (i+1) (if (imgT lv L t k).2=true then(a.1++[bV3<|(m:Int)-1-(i:Int)],a.2++[(imgT lv L t k).1]) else a)
def j6 (c:Bool)(lvy k:Int)(n:Nat):List Tm->Nat->List Tm×List Tm->List Tm×List Tm
 |[],_,a=>a
 |t::l,i,a=>j6 c lvy k n l (i+1) (if (c&&(t.k==1&&decide (t.n<=lvy)))=true then(a.1++[t],a.2++[bV3<|k+(n:Int)-1-(i:Int)]) else a)
def onF (lv lvy:Int)(L:List Tm)(k:Int)(ls:List Tm):List Tm×List Tm:=j6 (decide (lvy>lv)) lvy k L.length L 0<|imgs lv L k ls.length ls 0 ([],[])
def ZN (lv:Int)(L:List Tm)(q:IS)(y k:Int)(ls:List Tm)(f:Int):Tm×IS:=
 if (imgs lv L k ls.length ls 0 ([],[])).1.length=ls.length/\(zL q.s.V y).lv<=lv then(zJ (.mk 4 [] y []) (imgs lv L k ls.length ls 0 ([],[])).2,⟨q.s,f,q.e⟩) else(zJ (.mk 4 [] (q.s.V.length:Int) []) (onF lv (zL q.s.V y).lv L k ls).2,⟨vp q.s y (xI [lv,(zL q.s.V y).lv]) ls.length (onF lv (zL q.s.V y).lv L k ls).1,f,q.e⟩)
def wm (lv:Int)(L:List Tm)(q:IS)(y:Int)(l:List Tm)(k:Int):Tm×IS:=
 if (yJ q.s y l q.f).2.2≠0 then(noT,w5 q (yJ q.s y l q.f).2.2) else ZN lv L q y k (yJ q.s y l q.f).1 (yJ q.s y l q.f).2.1
abbrev fxH (x lv:Int)(L:List Tm)(f e:Int)(s:Sto)(i:Inf):AHeap:=[(0,oIV x lv L f e),(1,sto2 4 5 s),(2,.gone),(3,.gone),(4,.arz 6<|SR s.V),(5,.arz 1<|IR s.T),(6,.arr 4 [zT]),(7,oInf i)]
abbrev fxS (x lv:Int)(L:List Tm)(f e:Int)(s:Sto)(i:Inf)(y k:Int)(ls on im l:List Tm)(a b c:Nat)(j:Int):St:=
 if on=[] then⟨[(0,aIV),(1,ci y),(3,ci k),(8,.c<|.a<|.ep 6 4 0 0),(9,aL ls),(12,.c<|.a<|.ep 7 6 0 0),(14,.c<|qf .N),(15,.c<|qf .N),(a,aL l),(b,ci (l.length:Int)),(c,ci j)],fxH x lv L f e s i,8⟩
 else⟨[(0,aIV),(1,ci y),(3,ci k),(8,.c<|.a<|.ep 6 4 0 0),(9,aL ls),(12,.c<|.a<|.ep 7 6 0 0),(14,.c<|.a<|.osl 8 4 0 on.length),(15,.c<|.a<|.osl 9 4 0 im.length),(a,aL l),(b,ci (l.length:Int)),(c,ci j)],fxH x lv L f e s i++[(8,.arz 4<|FTs on),(9,.arz 4<|FTs im)],10⟩
theorem sV {α:Type}(l:List α)(a:α):l++[a]≠[]:=zb
theorem dJ (x lv:Int) (L:List Tm) (f e:Int) (s:Sto) (ilv:Int) (ibd:Bool) (iv:Tm) (y k:Int) (ls:List Tm) (hL:L.length<=100000) (hk0:0<=k) (hk1:k<=1099511627776) (r:Tm) (S:Sto) (fin:List Tm×List Tm)
  (hfin:fin.1.length<=200000/\fin.2.length<=200000) (hh:AC tB 156 [aS 0,ci y,ci<|xI [lv,ilv],ci (ls.length:Int),aL fin.1] (oS s) (aT<|.mk 4 [] (s.V.length:Int) [])<|oS' S) (hr:zJ (.mk 4 [] (s.V.length:Int) []) fin.2=r):
  ∀(b pre on im:List Tm),L=pre++b->on.length=im.length->on.length+b.length<=200000->j6 (decide (ilv>lv)) ilv k L.length b pre.length (on,im)=fin->
  RPt tB 183 4 (aT r) (oIt x lv L f e S) 5 (fxS x lv L f e s ⟨ilv,ibd,iv⟩ y k ls on im L 105 106 107 (pre.length:Int))
 |[],pre,on,im,hl,ho,h2,hm=>by
  rw[tY] at hl;have hm:(on,im)=fin:=hm;subst hm;have ha:=w8 (.mk 4 [] (s.V.length:Int) []) im (by simp only[Tm.l,tR];omega);simp only at hh hr hfin;rw[hr] at ha;obtain⟨ik,is,iN,il⟩:=iv;unfold fxS;by_cases hn:on=[]
  .subst hn;have:im=[]:=tS ho.symm;subst this;rw[tG rfl];refine rpv (rm ..) ?_;refine bF (by rw[hl];omega) ⟨rfl,?_⟩;rw[zq];exact⟨(_,S),hh.args ⟨.refl _,.refl _,.refl _,.refl _,.c _ _<|.a _ _<|.fz _ _ zO,trivial⟩,_,ha.args ⟨.refl _,.c _ _<|.a _ _<|.fz _ _ zO,trivial⟩,.refl _,rfl⟩
  .rw[tD hn];refine rpv (mr ..) ?_;refine bF (by rw[hl];omega) ⟨rfl,⟨rfl,by rw[zq];omega⟩,?_⟩;rw[zq,A3,tN (l:=FTs on)<|by rw[zq];exact tJ _,A3,tN (l:=FTs im)<|by rw[zq];exact tJ _];refine⟨(_,S),hh,?_⟩;exact⟨⟨rfl,by rw[zq];omega⟩,_,ha,.refl _,rfl⟩
 |t::b,pre,on,im,hl,ho,h2,hm=>by
  have hlen:L.length=pre.length+(b.length+1):=by rw[hl];simp
  have em:getD (FTs L) (toNat (pre.length:Int)) []=FT t:=by rw[hl];exact midI pre t b
  have h3:((pre.length:Nat):Int)<(((FTs L).length:Nat):Int):=by rw[zq];omega
  have ek:FV.I (getD (FT t) 0 FV.N)=t.k:=by cases t;rfl
  have en:FV.I (getD (FT t) 2 FV.N)=t.n:=by cases t;rfl
  have hmm:j6 (decide (ilv>lv)) ilv k L.length (t::b) pre.length (on,im)=j6 (decide (ilv>lv)) ilv k L.length b (pre.length+1) (if (decide (ilv>lv)&&(t.k==1&&decide (t.n<=ilv)))=true then(on++[t],im++[bV3<|k+(L.length:Int)-1-(pre.length:Int)]) else(on,im)):=rfl;rw[hmm] at hm;have ej:(((pre++[t]).length:Nat):Int)=(pre.length:Int)+1:=zb;have en1:(pre++[t]).length=pre.length+1:=zb;have skip:(decide (ilv>lv)&&(t.k==1&&decide (t.n<=ilv)))=false->RPt tB 183 4 (aT r) (oIt x lv L f e S) 5 (fxS x lv L f e s ⟨ilv,ibd,iv⟩ y k ls on im L 105 106 107<|(pre.length:Int)+1):=λh=>by rw[h,tD zb] at hm;have:=dJ x lv L f e s ilv ibd iv y k ls hL hk0 hk1 r S fin hfin hh hr b (pre++[t]) on im (by rw[hl];simp) ho (by simp only[tC] at h2;omega) (by rw[en1];exact hm);rw[ej] at this;exact this
  have take:(decide (ilv>lv)&&(t.k==1&&decide (t.n<=ilv)))=true->on.length+1+b.length<=200000->RPt tB 183 4 (aT r) (oIt x lv L f e S) 5 (fxS x lv L f e s ⟨ilv,ibd,iv⟩ y k ls (on++[t]) (im++[bV3<|k+(L.length:Int)-1-(pre.length:Int)]) L 105 106 107<|(pre.length:Int)+1):=λh h9=>by rw[tG h] at hm;have:=dJ x lv L f e s ilv ibd iv y k ls hL hk0 hk1 r S fin hfin hh hr b (pre++[t]) (on++[t]) (im++[bV3<|k+(L.length:Int)-1-(pre.length:Int)]) (by rw[hl];simp) (by simp[ho]) (by simp only[tE,tC,tR];omega) (by rw[en1];exact hm);rw[ej] at this;exact this
  have hb:=qb<|k+(L.length:Int)-1-(pre.length:Int);have room:on.length+1+b.length<=200000:=by simp only[tC] at h2;omega
  have op:FV.L 4 (.sl false 4<|FTs L)=true/\((0:Int)<=(pre.length:Int)/\(((pre.length:Int)<(((FTs L).length:Nat):Int))/\((rE (FT t):List FV)=FT t))):=⟨rfl,za,h3,yD t⟩;obtain⟨ik,is,iN,il⟩:=iv;have w:wrap .i64 (wrap .i64 (wrap .i64 (k+(((FTs L).length:Nat):Int))-1)-(pre.length:Int))=k+(L.length:Int)-1-(pre.length:Int):=by rw[zq,w64 (x:=k+(L.length:Int)) za za,w64 (x:=k+(L.length:Int)-1) za za,w64 za za]
  unfold fxS at skip take ⊢;rw[tD<|sV on t] at take;by_cases hn:on=[]
  .subst hn;have:im=[]:=tS ho.symm;subst this;rw[tG rfl] at skip ⊢;refine rpv (rm ..) ?_;rw[em,ek,en,w64 (x:=(pre.length:Int)+1) za za,w];refine zu (λ_=>⟨op,zu (λc1=>zu (λc2=>zu (λc3=>?_) λc3=>skip ?_) λc2=>skip ?_) λc1=>skip ?_⟩) (λh=>absurd (tP h) za)
   .have c1:decide (ilv>lv)=true:=c1;have c2:(t.k==1)=true:=c2;have c3:decide (t.n<=ilv)=true:=c3;refine⟨tJ _,wT za,rfl,_,hb,tJ _,wT za,?_⟩;rw[yD];exact take (by rw[c1,c2,c3];rfl) room
   .have c3:decide (t.n<=ilv)=false:=c3;rw[c3,Ap,Ap]
   .have c2:(t.k==1)=false:=c2;rw[c2,As,Ap]
   .have c1:decide (ilv>lv)=false:=c1;rw[c1,As]
  .rw[tD hn] at skip ⊢;refine rpv (mr ..) ?_;rw[em,ek,en,w64 (x:=(pre.length:Int)+1) za za,w];refine zu (λ_=>⟨op,zu (λc1=>zu (λc2=>zu (λc3=>?_) λc3=>skip ?_) λc2=>skip ?_) λc1=>skip ?_⟩) (λh=>absurd (tP h) za)
   .have c1:decide (ilv>lv)=true:=c1;have c2:(t.k==1)=true:=c2;have c3:decide (t.n<=ilv)=true:=c3;refine⟨tJ _,⟨by rw[zq];exact tJ _,wT za⟩,rfl,_,hb,tJ _,⟨by rw[zq];exact tJ _,wT za⟩,?_⟩;rw[yD,tN (l:=FTs on)<|by rw[zq];exact tJ _,tN (l:=FTs im)<|by rw[zq];exact tJ _,wN];have:=take (by rw[c1,c2,c3];rfl) room;rw[yh,yh,tE,tE] at this;exact this
   .have c3:decide (t.n<=ilv)=false:=c3;rw[c3,Ap,Ap]
   .have c2:(t.k==1)=false:=c2;rw[c2,As,Ap]
   .have c1:decide (ilv>lv)=false:=c1;rw[c1,As]
theorem uN (c:Bool)(b k:Int)(n:Nat):∀(l:List Tm) (i:Nat) (a:List Tm×List Tm),a.1.length=a.2.length->(j6 c b k n l i a).1.length=(j6 c b k n l i a).2.length/\(j6 c b k n l i a).1.length<=a.1.length+l.length
 |[],_,a,h=>⟨h,tJ _⟩
 |t::l,i,a,h=>by
  rw[j6];split
  .have:=uN c b k n l (i+1) (a.1++[t],a.2++[bV3<|k+(n:Int)-1-(i:Int)]) (by simp[h]);exact⟨this.1,by have:=this.2;simp only[tE,tC,tR] at this ⊢;omega⟩
  .have:=uN c b k n l (i+1) a h;exact⟨this.1,by have:=this.2;simp only[tC];omega⟩
theorem jS (lv:Int)(L:List Tm)(k:Int)(m:Nat):∀(l:List Tm) (i:Nat) (a:List Tm×List Tm),a.1.length=a.2.length->(imgs lv L k m l i a).1.length=(imgs lv L k m l i a).2.length/\(imgs lv L k m l i a).1.length<=a.1.length+l.length
 |[],_,a,h=>⟨h,tJ _⟩
 |t::l,i,a,h=>by
  rw[imgs];split
  .have:=jS lv L k m l (i+1) (a.1++[bV3<|(m:Int)-1-(i:Int)],a.2++[(imgT lv L t k).1]) (by simp[h]);exact⟨this.1,by have:=this.2;simp only[tE,tC,tR] at this ⊢;omega⟩
  .have:=jS lv L k m l (i+1) a h;exact⟨this.1,by have:=this.2;simp only[tC];omega⟩
theorem fM (x lv:Int) (L:List Tm) (f e:Int) (s:Sto) (ilv:Int) (ibd:Bool) (iv:Tm) (y k:Int) (ls:List Tm) (hls:ls.length<=100000) (r:Tm) (S:Sto) (fin:List Tm×List Tm)
  (hI:∀t∈ls,AC tB 184 [aIV,aT t,ci k] (oIs x lv L f e s) (Jg (imgT lv L t k).1 (imgT lv L t k).2)<|oIs x lv L f e s)
  (full:fin.1.length=ls.length->ilv<=lv->zJ (.mk 4 [] y []) fin.2=r/\s=S)
  (part:¬(fin.1.length=ls.length/\ilv<=lv)->RPt tB 183 4 (aT r) (oIt x lv L f e S) 5 (fxS x lv L f e s ⟨ilv,ibd,iv⟩ y k ls fin.1 fin.2 L 105 106 107 0)):
  ∀(b pre on im:List Tm),ls=pre++b->on.length=im.length->on.length<=pre.length->imgs lv L k ls.length b pre.length (on,im)=fin->
  RPt tB 183 4 (aT r) (oIt x lv L f e S) 1 (fxS x lv L f e s ⟨ilv,ibd,iv⟩ y k ls on im ls 55 56 57 (pre.length:Int))
 |[],pre,on,im,hl,ho,h2,hm=>by
  rw[tY] at hl;have hm:(on,im)=fin:=hm;subst hm;have hlp:ls.length=pre.length:=by rw[hl]
  have ha:=w8 (.mk 4 [] y []) im (by simp only[Tm.l,tR];omega);simp only at full part;have hv:=YO y;obtain⟨ik,is,iN,il⟩:=iv;unfold fxS at part ⊢;by_cases hn:on=[]
  .subst hn;have:im=[]:=tS ho.symm;subst this;rw[tG rfl] at part ⊢;refine rpv (iY ..) ?_;rw[zq];refine bF (by rw[hl];omega) ⟨rfl,rfl,zu (λc1=>zu (λc2=>?_) λc2=>⟨rfl,?_⟩) λc1=>⟨rfl,?_⟩⟩
   .have c1:(0:Int)=(ls.length:Int):=ES c1;have c2:=hU c2;obtain⟨e1,rfl⟩:=full (by simp only[tR];omega) c2;rw[e1] at ha;exact⟨_,hv,_,ha.args ⟨.refl _,.c _ _<|.a _ _<|.fz _ _ zO,trivial⟩,.refl _,rfl⟩
   .have c2:=tP c2;rw[zq];exact part λh=>c2 h.2
   .have c1:((0:Int)==(ls.length:Int))=false:=c1;rw[zq];exact part (λh=>by have:=h.1;simp only[tR] at this;rw[<-this] at c1;cases c1)
  .rw[tD hn] at part ⊢;refine rpv (ia ..) ?_;rw[zq];refine bF (by rw[hl];omega) ⟨rfl,zu (λc1=>zu (λc2=>?_) λc2=>⟨rfl,?_⟩) λc1=>⟨rfl,?_⟩⟩
   .have c1:(on.length:Int)=(ls.length:Int):=ES c1;have c2:=hU c2;obtain⟨e1,rfl⟩:=full za c2;rw[e1] at ha;rw[A3,tN<|by rw[zq];exact tJ _];exact⟨_,hv,⟨rfl,by rw[zq];omega⟩,_,ha,.refl _,rfl⟩
   .have c2:=tP c2;rw[zq];exact part λh=>c2 h.2
   .have c1:((on.length:Int)==(ls.length:Int))=false:=c1;rw[zq];exact part (λh=>by rw[h.1] at c1;simp at c1)
 |t::b,pre,on,im,hl,ho,h2,hm=>by
  have hlen:ls.length=pre.length+(b.length+1):=by rw[hl];simp
  have em:getD (FTs ls) (toNat (pre.length:Int)) []=FT t:=by rw[hl];exact midI pre t b
  have ea:aE (getD (FTs ls) (toNat (pre.length:Int)) [])=aT t:=by rw[hl];exact xN pre t b
  have h3:((pre.length:Nat):Int)<(((FTs ls).length:Nat):Int):=by rw[zq];omega
  have hmm:imgs lv L k ls.length (t::b) pre.length (on,im)=imgs lv L k ls.length b (pre.length+1) (if (imgT lv L t k).2=true then(on++[bV3<|(ls.length:Int)-1-(pre.length:Int)],im++[(imgT lv L t k).1]) else(on,im)):=rfl;rw[hmm] at hm;have hi:=hI t (by rw[hl];simp);have ej:(((pre++[t]).length:Nat):Int)=(pre.length:Int)+1:=zb;have en1:(pre++[t]).length=pre.length+1:=zb;generalize imgT lv L t k=z at*;obtain⟨z1,z2⟩:=z;simp only at hm hi;have skip:z2=false->RPt tB 183 4 (aT r) (oIt x lv L f e S) 1 (fxS x lv L f e s ⟨ilv,ibd,iv⟩ y k ls on im ls 55 56 57<|(pre.length:Int)+1):=λh=>by rw[h,tD zb] at hm;have:=fM x lv L f e s ilv ibd iv y k ls hls r S fin hI full part b (pre++[t]) on im (by rw[hl];simp) ho (by rw[en1];omega) (by rw[en1];exact hm);rw[ej] at this;exact this
  have take:z2=true->RPt tB 183 4 (aT r) (oIt x lv L f e S) 1 (fxS x lv L f e s ⟨ilv,ibd,iv⟩ y k ls (on++[bV3<|(ls.length:Int)-1-(pre.length:Int)]) (im++[z1]) ls 55 56 57<|(pre.length:Int)+1):=λh=>by rw[tG h] at hm;have:=fM x lv L f e s ilv ibd iv y k ls hls r S fin hI full part b (pre++[t]) (on++[bV3<|(ls.length:Int)-1-(pre.length:Int)]) (im++[z1]) (by rw[hl];simp) (by simp[ho]) (by rw[en1];simp;omega) (by rw[en1];exact hm);rw[ej] at this;exact this
  have hb:=qb<|(ls.length:Int)-1-(pre.length:Int);have op:FV.L 4 (.sl false 4<|FTs ls)=true/\((0:Int)<=(pre.length:Int)/\(((pre.length:Int)<(((FTs ls).length:Nat):Int))/\((rE (getD (FTs ls) (toNat (pre.length:Int)) []):List FV)=getD (FTs ls) (toNat (pre.length:Int)) []))):=⟨rfl,za,h3,by rw[em];exact yD t⟩;have w:wrap .i64 (wrap .i64 ((((FTs ls).length:Nat):Int)-1)-(pre.length:Int))=(ls.length:Int)-1-(pre.length:Int):=by rw[zq,w64 (x:=(ls.length:Int)-1) za za,w64 za za]
  obtain⟨ik,is,iN,il⟩:=iv;unfold fxS at skip take ⊢;rw[tD<|sV on _] at take;by_cases hn:on=[]
  .subst hn;have:im=[]:=tS ho.symm;subst this;rw[tG rfl] at skip ⊢;refine rpv (iY ..) ?_;rw[ea,w64 (x:=(pre.length:Int)+1) za za,w];refine zu (λ_=>⟨op,(z1,z2),hi,zu (λc=>⟨rfl,_,hb,tJ _,wT za,tJ _,wT za,by rw[wN,wN];exact take c⟩) λc=>skip c⟩) (λh=>absurd (tP h) za)
  .rw[tD hn] at skip ⊢;refine rpv (ia ..) ?_;rw[ea,w64 (x:=(pre.length:Int)+1) za za,w];refine zu (λ_=>⟨op,(z1,z2),hi,zu (λc=>⟨rfl,_,hb,tJ _,⟨by rw[zq];exact tJ _,wT za⟩,tJ _,⟨by rw[zq];exact tJ _,wT za⟩,?_⟩) λc=>skip c⟩) (λh=>absurd (tP h) za);rw[tN (l:=FTs on)<|by rw[zq];exact tJ _,tN (l:=FTs im)<|by rw[zq];exact tJ _,wN,wN];have:=take c;rw[yh,yh,tE,tE] at this;exact this
theorem c_iflex (x lv:Int) (L:List Tm) (q:IS) (y:Int) (l:List Tm) (k:Int) (hL:L.length<=100000) (hk0:0<=k) (hk1:k<=1099511627776)
  (hA:AC tB 153 [aS 0,ci y,aL l,ci q.f] (oS q.s) (aArs<|yJ q.s y l q.f)<|oS q.s) (hls:(yJ q.s y l q.f).1.length<=100000)
  (hI:∀t∈(yJ q.s y l q.f).1,AC tB 184 [aIV,aT t,ci k] (oIs x lv L (yJ q.s y l q.f).2.1 q.e q.s) (Jg (imgT lv L t k).1 (imgT lv L t k).2)<|oIs x lv L (yJ q.s y l q.f).2.1 q.e q.s)
  (hh:(yJ q.s y l q.f).2.2=0->AC tB 156 [aS 0,ci y,ci<|xI [lv,(zL q.s.V y).lv],ci ((yJ q.s y l q.f).1.length:Int),aL (onF lv (zL q.s.V y).lv L k (yJ q.s y l q.f).1).1] (oS q.s) (aT<|.mk 4 [] (q.s.V.length:Int) []) (oS'<|vp q.s y (xI [lv,(zL q.s.V y).lv]) (yJ q.s y l q.f).1.length (onF lv (zL q.s.V y).lv L k (yJ q.s y l q.f).1).1)):
  AC tB 183 [aIV,ci y,aL l,ci k] (oIs x lv L q.f q.e q.s) (aT (wm lv L q y l k).1) (oIt x lv L (wm lv L q y l k).2.f (wm lv L q y l k).2.e (wm lv L q y l k).2.s):=by
 have hinf:=qQ q.s y;have eF:wm lv L q y l k=if (yJ q.s y l q.f).2.2≠0 then(noT,w5 q (yJ q.s y l q.f).2.2) else ZN lv L q y k (yJ q.s y l q.f).1 (yJ q.s y l q.f).2.1:=rfl
 rw[eF];generalize yJ q.s y l q.f=z at*;obtain⟨ls,g,er⟩:=z;simp only at hA hls hI hh ⊢;refine acv (v183 ..) ?_;refine⟨(ls,g,er),hA,zu (λh=>?_) λh=>?_⟩
 .have h:er≠0:=by have h:(er !=0)=true:=h;exact zp h
  rw[tG h];have hf:=m9 x lv L q.f q.e er q.s;refine⟨(x,lv,L,q.f,if q.e=0 then er else q.e),hf,?_,?_⟩
  .exact leT (l:=[])<|.refl _
  .unfold w5;split<;>rfl
 .have h:er=0:=by have h:(er !=0)=false:=h;exact zp h
  subst h;rw[tD zb];have eG:ZN lv L q y k ls g=if (imgs lv L k ls.length ls 0 ([],[])).1.length=ls.length/\(zL q.s.V y).lv<=lv then(zJ (.mk 4 [] y []) (imgs lv L k ls.length ls 0 ([],[])).2,⟨q.s,g,q.e⟩) else(zJ (.mk 4 [] (q.s.V.length:Int) []) (onF lv (zL q.s.V y).lv L k ls).2,⟨vp q.s y (xI [lv,(zL q.s.V y).lv]) ls.length (onF lv (zL q.s.V y).lv L k ls).1,g,q.e⟩):=rfl
  have hh:=hh rfl;have eo:∀w,onF lv w L k ls=j6 (decide (w>lv)) w k L.length L 0 (imgs lv L k ls.length ls 0 ([],[])):=λw=>rfl;have il:=jS lv L k ls.length ls 0 ([],[]) rfl;rw[eG];generalize zL q.s.V y=i at*;obtain⟨ilv,ibd,iv⟩:=i;have ml:=uN (decide (ilv>lv)) ilv k L.length L 0 (imgs lv L k ls.length ls 0 ([],[])) il.1;rw[<-eo ilv] at ml;simp only[tR,A4] at il ml;refine⟨(ilv,ibd,iv,inB q.s.V y),hinf,rfl,?_⟩;rw[zq]
  have main:∀(r:Tm) (S:Sto),((imgs lv L k ls.length ls 0 ([],[])).1.length=ls.length->ilv<=lv->zJ (.mk 4 [] y []) (imgs lv L k ls.length ls 0 ([],[])).2=r/\q.s=S)->(¬((imgs lv L k ls.length ls 0 ([],[])).1.length=ls.length/\ilv<=lv)->zJ (.mk 4 [] (q.s.V.length:Int) []) (onF lv ilv L k ls).2=r/\vp q.s y (xI [lv,ilv]) ls.length (onF lv ilv L k ls).1=S)->
    RPt tB 183 4 (aT r) (oIt x lv L g q.e S) 1 (fxS x lv L g q.e q.s ⟨ilv,ibd,iv⟩ y k ls [] [] ls 55 56 57 0):=λr S h1 h2=>by
   refine fM x lv L g q.e q.s ilv ibd iv y k ls hls r S _ hI h1 (λhn=>?_) ls [] [] [] rfl rfl (tJ _) rfl;obtain⟨e1,e2⟩:=h2 hn;have hfin:(onF lv ilv L k ls).1.length<=200000/\(onF lv ilv L k ls).2.length<=200000:=by rw[<-ml.1];omega
   rw[e2] at hh;exact dJ x lv L g q.e q.s ilv ibd iv y k ls hL hk0 hk1 r S (onF lv ilv L k ls) hfin hh e1 L [] _ _ rfl il.1 za rfl
  split;next hc=>exact main _ _ (λ_ _=>⟨rfl,rfl⟩) λhn=>absurd hc hn
  next hc=>exact main _ _ (λa b=>absurd ⟨a,b⟩ hc) λ_=>⟨rfl,rfl⟩
theorem ij {s:Sto}{D:Nat}{f:Int}{t:Tm}(h:(y6 s D f t).2.1=0):1<=f/\0<=(y6 s D f t).2.2/\(y6 s D f t).2.2<=f-1:=by
 cases D with
 |zero=>cases h
 |succ D=>
  rw[y6] at h ⊢;split at h
  .cases h
  .rename_i d;rw[tD d];have g:=dW s (f-1).toNat t;have b:0<=(jR s (f-1) t).2.2/\(jR s (f-1) t).2.2<=f-1:=by simp only[jR];omega
   have e:=kL (vQ s D) (jR s (f-1) t).1.l ((jR s (f-1) t).1.k==6) _ b.1;refine⟨za,?_⟩;unfold di;split
   .exact⟨b.1,by simp only;omega⟩
   .unfold ZQ;split<;>exact⟨e.1,by simp only;omega⟩
theorem mY {s:Sto}{f:Int}{t:Tm}(h:(xw s f t).2.2=0):1<=f/\0<=(xw s f t).2.1/\(xw s f t).2.1<=f-1:=by
 unfold xw at h ⊢;split at h
 .rename_i d;rw[tG d];split at h;next b=>rw[tG b];exact ij b
  next b=>exact absurd h b
 .cases h
theorem Kw {s:Sto}(lv:Int):∀(l b:List Tm) (f:Int),0<=f->(wP s lv b l f).2.2=0->0<=(wP s lv b l f).2.1/\((wP s lv b l f).1.length:Int)+(wP s lv b l f).2.1<=(b.length:Int)+f
 |[],b,f,e,_=>⟨e,tU _⟩
 |t::l,b,f,e,h=>by
  rw[wP] at h ⊢;split at h;next d=>exact absurd h d
  .rename_i d;rw[tD d];split at h
   .cases h
   next g=>rw[tD g];have hd:=mY (by simpa using d:(xw s f t).2.2=0);have:=Kw lv l (b++[yE (xw s f t).1]) (xw s f t).2.1 hd.2.1 h;simp only[tE,tC,tR] at this;omega
def lfP (t:Tm):Prop:=t.sz=1/\(t.k=3\/t.k=1)/\t.l=[]/\bd M61 t/\validB t=true
theorem leafF_P {u:Tm}(f:validB u=true)(i:bd M61 u)(h:wZ u=true):lfP (yE u):=by
 have b:=uY _<|zB _ f;have vs:validB (zM u)=true:=by rw[xc,b.1,b.2.1<|xM f];rfl
 have g:=b.2.2.2 _ (by simp only[M61];omega) i;have e:yE u=zM u:=by rw[yE,tG h]
 rw[e];have d:(zM u).k=3\/(zM u).k=1:=by unfold wZ at h;exact zp h
 generalize zM u=w at*;obtain⟨k,s,n,l⟩:=w;have d:k=3\/k=1:=d;have j:l=[]:=okB0 (zB _ vs) za za;subst j;exact⟨rfl,d,rfl,g,vs⟩
theorem rC {s:Sto}(j:OKS s)(lv:Int):∀(l b:List Tm) (f:Int),(∀t∈l,validB t=true->Fit f.toNat t)->(∀t∈b,lfP t)->∀t∈(wP s lv b l f).1,lfP t
 |[],b,f,_,d=>d
 |t::l,b,f,m,d=>by
  rw[wP];split
  .exact λt h=>nomatch h
  .rename_i o;have e:=Jh j (m t tM) (zp o);split
   .exact λt h=>nomatch h
   .rename_i g;have i:wZ (xw s f t).1=true:=by rw[j0] at g;simp only[Ey,not_or,AA,Bool.not_eq_false] at g;exact g.1.1
    exact rC j lv l _ _ (λu hu p=>(m u (tK _ hu) p).mono<|by have:=e.2.2.2.2.2;omega) (λu hu=>by
     rcases A0.1 hu with hu|hu
     .exact d u hu
     .simp at hu;subst hu;exact leafF_P e.2.1 e.2.2.1 i)
theorem jK {s:Sto}(i:OKS s)(x:Int)(l:List Tm)(f:Int)(j:∀t∈l,validB t=true->Fit f.toNat t):(∀t∈(yJ s x l f).1,lfP t)/\(0<=f->(yJ s x l f).2.2=0->0<=(yJ s x l f).2.1/\((yJ s x l f).1.length:Int)+(yJ s x l f).2.1<=f/\inB s.V x=true)/\((yJ s x l f).2.2≠0->(yJ s x l f).1=[]):=by
 unfold yJ;split
 .exact⟨(λt h=>by cases h),(λ_ h=>by cases h),λ_=>rfl⟩
 .rename_i e;refine⟨rC i _ l [] f j (λt h=>nomatch h),λg d=>?_,λd=>?_⟩
  .have:=Kw (s:=s) (zL s.V x).lv l [] f g d;simp only[tR] at this;refine⟨this.1,za,?_⟩;simp only[Ey,not_or,AA,Bool.not_eq_false] at e;exact e.1
  .have key:∀(l b:List Tm) (f:Int),(wP s (zL s.V x).lv b l f).2.2≠0->(wP s (zL s.V x).lv b l f).1=[]:=by
    intro l
    induction l with
    |nil=>exact λb f h=>absurd rfl h
    |cons t l ih=>
     intro b f h;rw[wP] at h ⊢;split
     .rfl
     .rename_i o;rw[tD o] at h;split
      .rfl
      next m=>rw[tD m] at h;exact ih _ _ h
   exact key l [] f d
theorem kG {s:Sto}(m:OKS s){f:Int}{t:Tm}(o:0<=f)(j:validB t=true->Fit f.toNat t)(d:(zZ s f t).2.2=0):validB (zZ s f t).1=true/\Fit (zZ s f t).2.1.toNat (zZ s f t).1/\0<=(zZ s f t).2.1/\(zZ s f t).2.1<=f:=by
 unfold zZ at d ⊢;split at d
 .rename_i g;rw[tG g];have h:=jP m g<|j g;split at d
  .rename_i e;rw[tG e];obtain⟨p,h⟩:=h;rcases h with⟨_,a,b,_⟩|⟨i,_⟩
   .refine⟨a,?_,by simp only;omega,by simp only;omega⟩;have:(f-((runH s f.toNat t).2.2:Int)).toNat=f.toNat-(runH s f.toNat t).2.2:=za;simp only[this];exact b
   .rw[i] at e;cases e
  next e=>exact absurd d e
 .cases d
theorem ZS:∀(n:Nat) (f:Tm),(j7 n f).sz=n+f.sz
 |0,f=>by rw[j7];omega
 |n+1,f=>by rw[j7,ZS n];simp only[Tm.sz,Tm.szs,tR];omega
theorem WS {M:Int}:∀(n:Nat) {t:Tm},bd M t->bd M (j7 n t)
 |0,_,h=>h
 |n+1,t,h=>by rw[j7];exact WS n ⟨λe=>absurd e zc,h,trivial⟩
def LP (L:List Tm):Prop:=L.length<=900/\∀t∈L,t.sz=1
theorem JI:∀ {l:List Tm},(∀t∈l,t.sz=1)->Tm.szs l=l.length
 |[],_=>rfl
 |t::l,h=>by rw[Tm.szs,h t tM,JI λu b=>h u<|tK _ b,tC];omega
theorem bnd_P {n:Int}(d:0<=n)(b:n<=2199023255552):(bV3 n).sz=1/\bd 2199023255552 (bV3 n):=by
 refine⟨rfl,λ_=>⟨?_,?_⟩,trivial⟩
 .show -2199023255552<=n;omega
 .show n<=2199023255552;omega
theorem imgs_P (lv:Int)(L:List Tm)(k:Int)(m:Nat)(d:m<=100000):∀(l:List Tm) (i:Nat) (a:List Tm×List Tm),i+l.length<=m->(∀t∈a.1,t.sz=1/\bd 2199023255552 t)->∀t∈(imgs lv L k m l i a).1,t.sz=1/\bd 2199023255552 t
 |[],_,_,_,h=>h
 |t::l,i,a,b,h=>by
  rw[imgs];simp only[tC] at b;refine imgs_P lv L k m d l (i+1) _ za ?_;split
  .intro u hu;rcases A0.1 hu with hu|hu
   .exact h u hu
   .simp at hu;subst hu;exact bnd_P za za
  .exact h
theorem one_bd {t:Tm}{M:Int}(h:t.sz=1)(d:t.k=1):t.sz=1/\bd M t:=by
 refine⟨h,?_⟩;obtain⟨k,s,n,l⟩:=t;have d:k=1:=d;have e:l=[]:=by
  cases l with
  |nil=>rfl
  |cons a b=>
   have:=a.sz_pos;simp only[Tm.sz,Tm.szs] at h;omega
 subst e;exact⟨λq=>za,trivial⟩
theorem lV (c:Bool)(b k:Int)(n:Nat):∀(l:List Tm) (i:Nat) (a:List Tm×List Tm),(∀t∈l,t.sz=1)->(∀t∈a.1,t.sz=1/\bd 2199023255552 t)->∀t∈(j6 c b k n l i a).1,t.sz=1/\bd 2199023255552 t
 |[],_,_,_,h=>h
 |t::l,i,a,e,h=>by
  rw[j6];refine lV c b k n l (i+1) _ (λu hu=>e u<|tK _ hu) ?_;split
  .rename_i d;simp only[tF,Al] at d;intro u hu;rcases A0.1 hu with hu|hu
   .exact h u hu
   .simp at hu;subst hu;exact one_bd (e _ tM) d.2.1
  .exact h
theorem onF_P {L:List Tm}(f:LP L)(lv b k:Int)(ls:List Tm)(g:ls.length<=900):(onF lv b L k ls).1.length<=1800/\(onF lv b L k ls).1.length=(onF lv b L k ls).2.length/\∀t∈(onF lv b L k ls).1,t.sz=1/\bd 2199023255552 t:=by have e:=jS lv L k ls.length ls 0 ([],[]) rfl;have d:=uN (decide (b>lv)) b k L.length L 0 _ e.1;have i:=f.1;simp only[tR,A4] at e d;refine⟨?_,d.1,lV _ _ _ _ L 0 _ f.2<|imgs_P lv L k ls.length za ls 0 ([],[]) za λt h=>nomatch h⟩;have:=d.2;unfold onF;omega
theorem dR {s:Sto}{m:Nat}{on:List Tm}(d:s.V.length<=1073741824)(g:m<=900)(e:on.length<=1800)(h:∀t∈on,t.sz=1/\bd 2199023255552 t):(Zh s m on).sz<=40000/\bd 2199023255552 (Zh s m on):=by
 have i:=xS (.mk 4 [] (s.V.length:Int) []) on;have f:=JI λt b=>(h t b).1;have j:(Tm.mk 4 [] (s.V.length:Int) []).sz=1:=rfl;refine⟨by rw[Zh,ZS];omega,WS _<|xB ⟨λ_=>⟨?_,?_⟩,trivial⟩<|jh λt b=>(h t b).2⟩
 .show -2199023255552<=((s.V.length:Nat):Int);omega
 .show((s.V.length:Nat):Int)<=2199023255552;omega
structure GI (C:Nat)(q:IS):Prop where
 ok:OKS q.s
 V:q.s.V.length+q.f.toNat<=C
 T:q.s.T.length+q.f.toNat<=C
 f0: -9223372036854775808<=q.f
 f1:q.f<=900
theorem GI.fail {C:Nat}{q:IS}(h:GI C q)(e:Int):GI C (w5 q e):=by
 unfold w5;split
 .exact⟨h.ok,h.V,h.T,h.f0,h.f1⟩
 .exact h
theorem uM (q:IS)(e:Int):(w5 q e).f=q.f:=by unfold w5;split<;>rfl
theorem GI.less {C:Nat}{q:IS}(h:GI C q){f:Int}(b:0<=f)(d:f<=q.f):GI C ⟨q.s,f,q.e⟩:=⟨h.ok,by have:=h.V;simp only;omega,by have:=h.T;simp only;omega,by simp only;omega,by have:=h.f1;simp only;omega⟩
theorem mC (s:Sto)(lv:Int):(freshS s lv).V.length=s.V.length+1/\(freshS s lv).T=s.T:=by
 constructor
 .simp[freshS]
 .rfl
theorem uL (s:Sto)(x:Int)(t:Tm):(bindS s x t).T.length<=s.T.length+1:=by
 by_cases q:uz s x t=true
 .rw[(vX q).1];simp
 .rw[(kB<|zp q).1];omega
theorem OKS.hang {s:Sto}(h:OKS s)(y lv:Int){m:Nat}{on:List Tm}(d:(Zh s m on).sz<=40000/\bd 2199023255552 (Zh s m on)):OKS (vp s y lv m on):=by
 refine OKS.bindA (λi hi b=>?_) d.1 d.2;rcases A0.1 hi with hi|hi
 .exact h i hi b
 .simp at hi;subst hi;cases b
theorem dw (lv:Int)(L:List Tm)(q:IS)(y k:Int)(ls:List Tm)(f:Int):(ZN lv L q y k ls f).2.f=f:=by unfold ZN;split<;>rfl
theorem gi_flexG {C:Nat}(u:C<=1073741824){L:List Tm}(i:LP L){lv:Int}{q:IS}(h:GI C q)(y k:Int)(ls:List Tm){f:Int}(g:0<=f)(p:f<=q.f)(r:q.s.V.length+f.toNat+1<=C)(v:q.s.T.length+f.toNat+1<=C)(b:ls.length<=900):GI C (ZN lv L q y k ls f).2:=by
 have e:=h.f1;unfold ZN;split
 .exact h.less g p
 .have o:=onF_P i lv (zL q.s.V y).lv k ls b;have j:=dR (s:=q.s) (m:=ls.length) za b o.1 o.2.2;have d:=mC q.s<|xI [lv,(zL q.s.V y).lv];refine⟨h.ok.hang y _ j,?_,?_,by simp only;omega,by simp only;omega⟩
  .show(vp _ _ _ _ _).V.length+f.toNat<=C;rw[vp,vA,d.1];omega
  .show(vp _ _ _ _ _).T.length+f.toNat<=C;have:=uL (freshS q.s<|xI [lv,(zL q.s.V y).lv]) y<|Zh q.s ls.length (onF lv (zL q.s.V y).lv L k ls).1;rw[d.2] at this;rw[vp];omega
theorem gi_flexF {C:Nat}(g:C<=1073741824){L:List Tm}(m:LP L){lv:Int}{q:IS}(h:GI C q)(d:0<=q.f)(p:q.s.V.length+q.f.toNat+1<=C)(r:q.s.T.length+q.f.toNat+1<=C)(y:Int)(l:List Tm)(k:Int)(o:∀t∈l,validB t=true->Fit q.f.toNat t):
  GI C (wm lv L q y l k).2/\(wm lv L q y l k).2.f<=q.f/\0<=(wm lv L q y l k).2.f:=by
 have j:=jK h.ok y l q.f o;unfold wm;split
 .exact⟨h.fail _,by rw[uM];exact tU _,by rw[uM];exact d⟩
 next i=>have b:=j.2.1 d (zp i);have e:=h.f1;exact⟨gi_flexG g m h y k _ b.1 za za za za,by rw[dw];omega,by rw[dw];exact b.1⟩
theorem lfP_n {t:Tm}(d:bd M61 t)(b:t.k=3): -4611686018427387904<=t.n/\t.n<=4611686018427387904:=by obtain⟨k,s,n,l⟩:=t;have b:k=3:=b;have:=d.1 b;simp only[M61] at this;exact⟨by show -4611686018427387904<=n;omega,by show n<=4611686018427387904;omega⟩
theorem aM {C:Nat}(E:C<=1073741824){L:List Tm}(v:LP L)(x:Int){lv:Int}{q:IS}(h:GI C q)(A:0<=q.f)(G:q.s.V.length+q.f.toNat+1<=C)(F:q.s.T.length+q.f.toNat+1<=C)(y:Int)(l:List Tm)(k:Int)(u:l.length<=1000000000)(w:∀t∈l,t.sz<=B/\(validB t=true->Fit q.f.toNat t))(g:0<=k)(d:k<=1099511627776):
  AC tB 183 [aIV,ci y,aL l,ci k] (oIs x lv L q.f q.e q.s) (aT (wm lv L q y l k).1) (oIt x lv L (wm lv L q y l k).2.f (wm lv L q y l k).2.e (wm lv L q y l k).2.s):=by
 have i:=jK h.ok y l q.f λt j=>(w t j).2;have z:=h.f1;have D:=v.1;have b:(yJ q.s y l q.f).1.length<=900:=by
  by_cases p:(yJ q.s y l q.f).2.2=0
  .have:=i.2.1 A p;omega
  .rw[i.2.2 p];simp
 refine c_iflex x lv L q y l k za g d (mA q.s h.ok y q.f l za za w) za (λt j=>?_) λ_=>?_
 .exact cR x lv L _ _ _ t k za (lfP_n (i.1 t j).2.2.2.1) g d
 .have o:=onF_P v lv (zL q.s.V y).lv k (yJ q.s y l q.f).1 b;have r:=dR (s:=q.s) (m:=(yJ q.s y l q.f).1.length) za b o.1 o.2.2;exact c_hang q.s y _ _ _ za za za za (by have:=r.1;simp only[B];omega)<|yQ (by simp only[M61];omega) _ r.2
def xW (tm:IS->Tm->Tm×IS):List Tm->IS->List Tm×IS
 |[],q=>([],q)
 |t::l,q=>((tm q t).1::(xW tm l (tm q t).2).1,(xW tm l (tm q t).2).2)
def fh (lv:Int)(L:List Tm)(tm:IS->Tm->Tm×IS)(q:IS)(h:Tm)(l:List Tm)(k:Int):Tm×IS:=
 if (h.k=3\/h.k=1)/\(imgT lv L h k).2=false then(noT,w5 q 170) else(zJ (if h.k=3\/h.k=1 then(imgT lv L h k).1 else h) (xW tm l q).1,(xW tm l q).2)
def uX (x lv:Int)(L:List Tm)(tm:IS->Tm->Int->Tm×IS)(q:IS)(h:Tm×List Tm)(k:Int):Tm×IS:=
 if h.1.k=5 then(j7 1 (tm q (hd h.1.l)<|k+1).1,(tm q (hd h.1.l)<|k+1).2) else if h.1.k=4 then(if h.1.n=x then(noT,w5 q 170) else wm lv L q h.1.n h.2 k) else fh lv L (λq t=>tm q t k) q h.1 h.2 k
def lq (x lv:Int)(L:List Tm)(tm:IS->Tm->Int->Tm×IS)(q:IS)(z:Tm×Int×Int)(k:Int):Tm×IS:=
 if z.2.2≠0 then(noT,w5 q z.2.2) else uX x lv L tm ⟨q.s,z.2.1,q.e⟩ (zr z.1) k
def yw (x lv:Int)(L:List Tm):Nat->IS->Tm->Int->Tm×IS
 |0,q,_,_=>if q.e≠0 then(noT,q) else(noT,w5 q 80)
 |D+1,q,t,k=>if q.e≠0 then(noT,q) else if q.f<=0 then(noT,w5 q 80) else lq x lv L (yw x lv L D) q (zZ q.s (q.f-1) t) k
theorem Ya {z:Tm}{F:Nat}(m:validB z=true)(g:Fit F z):(validB (zr z).1=true/\Fit F (zr z).1)/\(∀t∈(zr z).2,t.sz<=SZ/\(validB t=true->Fit F t))/\(zr z).2.length<=SZ/\∀u∈(zr z).1.l,u.sz<=SZ/\(validB u=true->Fit F u):=by
 have D:=g.sz;have e:=Tm.szs_length z.l;have j:=z.sz_eq;have b:∀w:Tm,Fit F w->∀u∈w.l,u.sz<=SZ/\(validB u=true->Fit F u):=λw o u d=>⟨(o.kid d).sz,λ_=>o.kid d⟩;unfold zr;split;next A=>obtain⟨k,s,n,l⟩:=z;have f:k=6:=A.1;obtain⟨x,y,r,rfl,v,_⟩:=okB6 (zB _ m) f;have C:=zX m (.inr f) x tM;have i:Fit F x:=g.kid (show x∈Tm.l (.mk k s n<|x::y::r) from tM);refine⟨⟨C,i⟩,λt p=>b _ g t<|Eg p,?_,λu d=>b x i u d⟩;simp only[Tm.l,tC,List.length_drop] at e j ⊢;omega
 .exact⟨⟨m,g⟩,(λt h=>nomatch h),AT _,λu d=>b z g u d⟩
section
variable {C:Nat} (hC:C<=1073741824) {L:List Tm} (hL:LP L) (x lv:Int)
include hC hL
omit hC hL in
theorem r6 {tm:IS->Tm->Tm×IS}{f0:Int}(d:∀q t,GI C q->0<=q.f->q.f<=f0->(q.e=0->validB t=true->Fit q.f.toNat t)->GI C (tm q t).2/\(tm q t).2.f<=q.f/\0<=(tm q t).2.f):
  ∀(l:List Tm) (q:IS),GI C q->0<=q.f->q.f<=f0->(∀t∈l,validB t=true->Fit q.f.toNat t)->GI C (xW tm l q).2/\(xW tm l q).2.f<=q.f/\0<=(xW tm l q).2.f
 |[],q,h,g,_,_=>⟨h,tU _,g⟩
 |t::l,q,h,g,o,i=>by have a:=d q t h g o λ_=>i t tM;have b:=r6 d l (tm q t).2 a.1 a.2.2 za (λu j m=>(i u (tK _ j) m).mono za);exact⟨b.1,by show(xW tm l (tm q t).2).2.f<=q.f;omega,b.2.2⟩
theorem Xg:∀(D:Nat) (q:IS) (t:Tm) (k:Int),GI C q->0<=q.f->(q.e=0->validB t=true->Fit q.f.toNat t)->GI C (yw x lv L D q t k).2/\(yw x lv L D q t k).2.f<=q.f/\0<=(yw x lv L D q t k).2.f
 |0,q,t,k,h,v,_=>by
  rw[yw];split
  .exact⟨h,tU _,v⟩
  .exact⟨h.fail _,by rw[uM];exact tU _,by rw[uM];exact v⟩
 |D+1,q,t,k,h,v,X=>by
  rw[yw];have j:∀e,GI C (w5 q e)/\(w5 q e).f<=q.f/\0<=(w5 q e).f:=λe=>⟨h.fail _,by rw[uM];exact tU _,by rw[uM];exact v⟩;split
  .exact⟨h,tU _,v⟩
  .rename_i H;have H:q.e=0:=zp H;split
   .exact j _
   .rename_i N;have hV:=h.V;have hT:=h.T;have r:validB t=true->Fit (q.f-1).toNat t:=λy=>(X H y).mono za;unfold lq;split
    .exact j _
    .rename_i S;have K:=kG h.ok za r (zp S);generalize zZ q.s (q.f-1) t=z at*;obtain⟨m,p,z3⟩:=z;simp only at K ⊢;obtain⟨y,G,i,Z⟩:=K;have A:=Ya y G;have g:GI C ⟨q.s,p,q.e⟩:=h.less i za;have j:∀e,GI C (w5 ⟨q.s,p,q.e⟩ e)/\(w5 ⟨q.s,p,q.e⟩ e).f<=q.f/\0<=(w5 ⟨q.s,p,q.e⟩ e).f:=λe=>⟨g.fail _,by rw[uM];simp only;omega,by rw[uM];exact i⟩;have ih:=λI J W=>Xg D I J W;unfold uX;split
     .rename_i U;have F:(zr m).1.l≠[]:=λe=>by have o:=zB _ A.1.1;generalize (zr m).1=w at*;obtain⟨wk,ws,wn,wl⟩:=w;obtain⟨u,Y,_⟩:=okB5 o U;rw[Y] at e;cases e
      have O:hd (zr m).1.l∈(zr m).1.l:=by
       cases M:(zr m).1.l with
       |nil=>exact absurd M F
       |cons a b=>exact tM
      have:=ih ⟨q.s,p,q.e⟩ (hd (zr m).1.l) (k+1) g i λ_ y=>(A.2.2.2 _ O).2 y;simp only at this;exact⟨this.1,by simp only;omega,this.2.2⟩
     .split
      .split
       .exact j _
       .have:=gi_flexF hC hL (lv:=lv) g i (by simp only;omega) (by simp only;omega) (zr m).1.n (zr m).2 k λt E=>(A.2.1 t E).2;simp only at this;exact⟨this.1,za,this.2.2⟩
      .unfold fh;split
       .exact j _
       .have:=r6 (tm:=λq t=>yw x lv L D q t k) (f0:=p) (λI J a b _ d=>ih I J k a b d) (zr m).2 ⟨q.s,p,q.e⟩ g i (tU _) λt E=>(A.2.1 t E).2;simp only at this;exact⟨this.1,by simp only;omega,this.2.2⟩
end
abbrev tmH (x lv:Int)(L:List Tm)(q:IS)(h:Tm):AHeap:=[(0,oIV x lv L q.f q.e),(1,sto2 4 5 q.s),(2,.gone),(3,.gone),(4,.arz 6<|SR q.s.V),(5,.arz 1<|IR q.s.T),(6,.arr 4 [zT]),(7,.arr 4 [cT h])]
section
variable {C:Nat} (hC:C<=1073741824) {L:List Tm} (hL:LP L) (x lv:Int)
theorem po {tm:IS->Tm->Tm×IS} {f0 k:Int} (h:Tm) (n:Nat) (hn:n<=1000000000) (hhl:h.l.length<=1000000000)
  (htm:∀q t,GI C q->0<=q.f->q.f<=f0->(q.e=0->validB t=true->Fit q.f.toNat t)->GI C (tm q t).2/\(tm q t).2.f<=q.f/\0<=(tm q t).2.f)
  (hk:∀q t,GI C q->0<=q.f->q.f<=f0->t.sz<=B->(q.e=0->validB t=true->Fit q.f.toNat t)->AC tB 175 [aIV,aT t,ci k] (oIs x lv L q.f q.e q.s) (aT (tm q t).1) (oIt x lv L (tm q t).2.f (tm q t).2.e (tm q t).2.s)):
  ∀(b a:List Tm) (q:IS),a.length+b.length=n->GI C q->0<=q.f->q.f<=f0->(∀t∈b,t.sz<=B/\(validB t=true->Fit q.f.toNat t))->
  RPt tB 175 4 (aT<|zJ h<|a++(xW tm b q).1) (oIt x lv L (xW tm b q).2.f (xW tm b q).2.e (xW tm b q).2.s) 3
   ⟨[(0,aIV),(2,ci k),(6,.c<|.a<|.ep 6 4 0 0),(9,.c<|.a<|.ep 7 4 0 0),(10,.c<|.a<|.osl 8 4 0 n),(102,.c<|.a<|.osl 8 4 0 n),(103,ci (n:Int)),(104,ci (a.length:Int))],tmH x lv L q h++[(8,.arz 4<|FTs<|a++b)],9⟩
 |[],a,q,hl,_,_,_,_=>by rw[tR,Ed] at hl;rw[tY,show(xW tm [] q).1=[] from rfl,tY,show(xW tm [] q).2=q from rfl];have ha:=w8 h a za;obtain⟨hk',hs,hn',hl'⟩:=h;refine RPt.vc hP shO XP<|Eq.mpr (mQ ..) ?_;refine bF za ⟨⟨rfl,by rw[zq];omega⟩,_,?_,.refl _,rfl⟩;rw[A3,tN<|by rw[zq];omega];exact ha
 |t::b,a,q,hl,hg,h0,h1,hb=>by
  have hlen:(a++t::b).length=n:=by simp only[tE,tC] at hl ⊢;omega
  have h3:=ltI' a t b;have hbt:=hb t tM;have ht:=htm q t hg h0 h1 λ_=>hbt.2;have hc:=hk q t hg h0 h1 hbt.1 λ_=>hbt.2;have next:=po h n hn hhl htm hk b (a++[(tm q t).1]) (tm q t).2 (by simp only[tE,tC,tR] at hl ⊢;omega) ht.1 ht.2.2 za (λu hu=>⟨(hb u<|tK _ hu).1,λhv=>((hb u<|tK _ hu).2 hv).mono za⟩);have eK:xW tm (t::b) q=((tm q t).1::(xW tm b (tm q t).2).1,(xW tm b (tm q t).2).2):=rfl;rw[eK];simp only;rw[AB,show [(tm q t).1]++(xW tm b (tm q t).2).1=(tm q t).1::(xW tm b (tm q t).2).1 from rfl,ap,nx] at next;simp only[tC] at hl;have em:=xr a t b;have hsz:(0+toNat (a.length:Int))<(FTs<|a++t::b).length:=za
  obtain⟨hk',hs,hn',hl'⟩:=h;refine RPt.vc hP shO XP<|Eq.mpr (mQ ..) ?_;rw[w64 (x:=(a.length:Int)+1) za za];refine zu (λ_=>⟨za,⟨hsz,by rw[A4,em,midI,A3,tN<|by rw[ym];exact tJ _],rfl⟩,((tm q t).1,(tm q t).2.s,x,lv,L,(tm q t).2.f,(tm q t).2.e),?_,za,⟨hsz,by rw[A4,midI];exact ym t⟩,?_⟩) (λh=>absurd (tP h) za)
  .rw[A4,xN];exact hc
  .rw[tv];exact next
omit hC hL
abbrev FAILP (x lv:Int)(L:List Tm)(q:IS)(er:Int)(r:TV)(Hs':List AObj):Prop:=
 ∃z:Int×Int×List Tm×Int×Int,AC tB 182 [aIV,ci er] (oIs x lv L q.f q.e q.s) (.agg [qi 0,qf<|.str [],qi 0,qf<|.sl false 4 []]) (oIs z.1 z.2.1 z.2.2.1 z.2.2.2.1 z.2.2.2.2 q.s)/\
  TV.Le (.agg [qi 0,qf<|.str [],qi 0,qf<|.sl false 4 []]) r/\oIt z.1 z.2.1 z.2.2.1 z.2.2.2.1 z.2.2.2.2 q.s=Hs'
theorem Ke (q:IS)(b:Int):FAILP x lv L q b (aT noT) (oIt x lv L (w5 q b).f (w5 q b).e (w5 q b).s):=by have d:=m9 x lv L q.f q.e b q.s;refine⟨(x,lv,L,q.f,if q.e=0 then b else q.e),d,.refl _,?_⟩;unfold w5;split<;>rfl
abbrev IMGP (x lv:Int)(L:List Tm)(q:IS)(h:Tm)(k:Int)(r:TV)(Hs':List AObj)(R:Tm->Prop):Prop:=
 ∃z:Tm×Bool,AC tB 184 [aIV,aT h,ci k] (oIs x lv L q.f q.e q.s) (Jg z.1 z.2) (oIs x lv L q.f q.e q.s)/\br (!z.2) (FAILP x lv L q 170 r Hs') (R z.1)
abbrev TREE (x lv:Int)(L:List Tm)(q:IS)(h:Tm)(k:Int)(r:TV)(Hs':List AObj)(F:Prop)(R:Tm->Prop):Prop:=
 br (h.k==5) ((FV.L 4 (.sl false 4<|FTs h.l)=true/\((0:Int)<=0/\((0:Int)<(((FTs h.l).length:Nat):Int)/\(rE (getD (FTs h.l) 0 []):List FV)=getD (FTs h.l) 0 [])))/\
  ∃z:Tm×Sto×Int×Int×List Tm×Int×Int,AC tB 175 [aIV,aE<|getD (FTs h.l) 0 [],ci<|wrap .i64<|k+1] (oIs x lv L q.f q.e q.s) (aT z.1) (oIt z.2.2.1 z.2.2.2.1 z.2.2.2.2.1 z.2.2.2.2.2.1 z.2.2.2.2.2.2 z.2.1)/\
   ∃z6:Tm,AC tB 172 [ci 1,aT z.1] [] (aT z6) []/\TV.Le (aT z6) r/\oIt z.2.2.1 z.2.2.2.1 z.2.2.2.2.1 z.2.2.2.2.2.1 z.2.2.2.2.2.2 z.2.1=Hs')
 (br (h.k==4) (br (h.n==x) (FAILP x lv L q 170 r Hs') F)<|br (h.k==3) (IMGP x lv L q h k r Hs' R)<|br (h.k==1) (IMGP x lv L q h k r Hs' R)<|R h)
theorem imgT_l (lv:Int)(L:List Tm)(t:Tm)(k:Int):(imgT lv L t k).1.l.length<=t.l.length:=by
 unfold imgT;split
 .exact tJ _
 .split
  .exact AT _
  .exact tJ _
theorem tree_p {C:Nat} {tm:IS->Tm->Int->Tm×IS} (A:L.length<=100000) (q:IS) (h:Tm×List Tm) (k:Int) (D:0<=k) (S:k+1<=1099511627776) (N:validB h.1=true) (I:bd M61 h.1)
  (y:h.1.k=5->AC tB 175 [aIV,aT<|hd h.1.l,ci<|k+1] (oIs x lv L q.f q.e q.s) (aT (tm q (hd h.1.l)<|k+1).1) (oIt x lv L (tm q (hd h.1.l)<|k+1).2.f (tm q (hd h.1.l)<|k+1).2.e (tm q (hd h.1.l)<|k+1).2.s))
  (F:Prop) (R:Tm->Prop) (O:h.1.k=4->h.1.n≠x->uX x lv L tm q h k=wm lv L q h.1.n h.2 k->F)
  (G:∀h',h'.l.length<=h.1.l.length->uX x lv L tm q h k=(zJ h' (xW (λq t=>tm q t k) h.2 q).1,(xW (λq t=>tm q t k) h.2 q).2)->R h'):
  TREE x lv L q h.1 k (aT (uX x lv L tm q h k).1) (oIt x lv L (uX x lv L tm q h k).2.f (uX x lv L tm q h k).2.e (uX x lv L tm q h k).2.s) F R:=by
 have g:uX x lv L tm q h k=if h.1.k=5 then(j7 1 (tm q (hd h.1.l)<|k+1).1,(tm q (hd h.1.l)<|k+1).2) else if h.1.k=4 then(if h.1.n=x then(noT,w5 q 170) else wm lv L q h.1.n h.2 k) else fh lv L (λq t=>tm q t k) q h.1 h.2 k:=rfl
 have H:fh lv L (λq t=>tm q t k) q h.1 h.2 k=if (h.1.k=3\/h.1.k=1)/\(imgT lv L h.1 k).2=false then(noT,w5 q 170) else(zJ (if h.1.k=3\/h.1.k=1 then(imgT lv L h.1 k).1 else h.1) (xW (λq t=>tm q t k) h.2 q).1,(xW (λq t=>tm q t k) h.2 q).2):=rfl
 have j:h.1.k≠5->h.1.k≠4->(h.1.k=3\/h.1.k=1)->IMGP x lv L q h.1 k (aT (uX x lv L tm q h k).1) (oIt x lv L (uX x lv L tm q h k).2.f (uX x lv L tm q h k).2.e (uX x lv L tm q h k).2.s) R:=λb d v=>by
  rw[tD b,tD d,H] at g;have M:=cR x lv L q.f q.e q.s h.1 k A (lfP_n I) D za;refine⟨imgT lv L h.1 k,M,zu (λc=>?_) λc=>?_⟩
  .have c:(imgT lv L h.1 k).2=false:=zp c;rw[tG ⟨v,c⟩] at g;rw[g];exact Ke x lv q 170
  .have c:(imgT lv L h.1 k).2=true:=zp c;rw[tD (λe=>by rw[c] at e;cases e.2),tG v] at g;exact G _ (imgT_l lv L h.1 k) g
 refine zu (λb=>?_) λb=>zu (λd=>zu (λi=>?_) λi=>?_) λd=>zu (λr=>?_) λr=>zu (λp=>?_) λp=>?_
 .have b:h.1.k=5:=zp b;rw[tG b] at g;have y:=y b;rw[g];have z:∃u l',h.1.l=u::l':=by have o:=zB _ N;generalize h.1=w at*;obtain⟨W,V,U,T⟩:=w;obtain⟨u,K,_⟩:=okB5 o b;exact⟨u,[],K⟩
  obtain⟨u,l',E⟩:=z;rw[E] at y ⊢;have J:=pc 1 (tm q u<|k+1).1 za;refine⟨⟨rfl,tU _,ltI' [] u l',xr [] u l'⟩,((tm q u<|k+1).1,(tm q u<|k+1).2.s,x,lv,L,(tm q u<|k+1).2.f,(tm q u<|k+1).2.e),?_,_,J,.refl _,rfl⟩;rw[show aE (getD (FTs<|u::l') 0 [])=aT u from yT u,w64 (x:=k+1) za za];exact y
 .have b:h.1.k≠5:=zp b;have d:h.1.k=4:=zp d;have i:h.1.n=x:=zp i;rw[tD b,tG d,tG i] at g;rw[g];exact Ke x lv q 170
 .have b:h.1.k≠5:=zp b;have d:h.1.k=4:=zp d;have i:h.1.n≠x:=zp i;rw[tD b,tG d,tD i] at g;exact O d i g
 .exact j (zp b) (zp d)<|.inl<|zp r
 .exact j (zp b) (zp d)<|.inr<|zp p
 .have b:h.1.k≠5:=zp b;have d:h.1.k≠4:=zp d;have r:h.1.k≠3:=zp r;have p:h.1.k≠1:=zp p;have m:¬(h.1.k=3\/h.1.k=1):=λe=>e.elim r p;rw[tD b,tD d,H,tD λe=>m e.1,tD m] at g;exact G _ (tJ _) g
end
theorem sc {C:Nat}(hC:C<=1073741824){L:List Tm}(hL:LP L)(x lv:Int):∀(D:Nat) (q:IS) (t:Tm) (k:Int),q.f.toNat<=D->GI C q->0<=q.f->t.sz<=B->(q.e=0->validB t=true->Fit q.f.toNat t)->0<=k->k+q.f<=549755813888->
  AC tB 175 [aIV,aT t,ci k] (oIs x lv L q.f q.e q.s) (aT (yw x lv L D q t k).1) (oIt x lv L (yw x lv L D q t k).2.f (yw x lv L D q t k).2.e (yw x lv L D q t k).2.s)
 |0,q,t,k,hD,hg,h0,hz,hf,hk0,hk1=>by
  obtain⟨tk,ts,tn,tl⟩:=t;refine AC.vc hP shO XP zb (by simp[isLive]) (by simp[isLive])<|Eq.mpr (v175 tk ts tn (FTs tl) k ..) ?_;rw[yw];refine zu (λhe=>?_) (λhe=>zu (λhf0=>?_) λhf0=>absurd (tP hf0) za)
  .have he:q.e≠0:=by have he:(q.e !=0)=true:=he;exact zp he
   rw[tG he];exact⟨leT (l:=[]) zO,rfl⟩
  .have he:q.e=0:=by have he:(q.e !=0)=false:=he;exact zp he
   rw[tD<|by simp[he]];exact Ke x lv q 80
 |D+1,q,t,k,hD,hg,h0,hz,hf,hk0,hk1=>by
  have ih:=λq' t' k'=>sc hC hL x lv D q' t' k';have hL1:=hL.1;have hf1:=hg.f1;have hV:=hg.V;have hT:=hg.T;rw[yw];by_cases he:q.e≠0
  .rw[tG he];obtain⟨tk,ts,tn,tl⟩:=t;refine AC.vc hP shO XP zb (by simp[isLive]) (by simp[isLive])<|Eq.mpr (v175 tk ts tn (FTs tl) k ..) ?_;exact zu (λ_=>⟨leT (l:=[]) zO,rfl⟩) (λh=>absurd (by have h:(q.e !=0)=false:=h;exact zp h) he)
  rw[tD he];have he:q.e=0:=zp he;by_cases hf0:q.f<=0
  .rw[tG hf0];obtain⟨tk,ts,tn,tl⟩:=t;refine AC.vc hP shO XP zb (by simp[isLive]) (by simp[isLive])<|Eq.mpr (v175 tk ts tn (FTs tl) k ..) ?_;exact zu (λh=>absurd he (by have h:(q.e !=0)=true:=h;exact zp h)) λ_=>bT hf0<|Ke x lv q 80
  rw[tD hf0];have hfit:validB t=true->Fit (q.f-1).toNat t:=λhv=>(hf he hv).mono za;have hh:=JQ q.s hg.ok (q.f-1) t za hz hfit;have ok:=kG hg.ok (t:=t) (f:=q.f-1) za hfit
  have enter:∀(r:TV) (Hs':List AObj),br ((zZ q.s (q.f-1) t).2.2 !=0) (FAILP x lv L q (zZ q.s (q.f-1) t).2.2 r Hs')
    ((∃z4:Tm,AC tB 68 [aT (zZ q.s (q.f-1) t).1] [] (.tup [(true,cT z4),(false,[qf .N])]) []/\TREE x lv L ⟨q.s,(zZ q.s (q.f-1) t).2.1,q.e⟩ z4 k r Hs'
      (∃z8:Tm×Sto×Int×Int×List Tm×Int×Int,AC tB 183 [aIV,ci z4.n,.c<|qf .N,ci k] (oIs x lv L (zZ q.s (q.f-1) t).2.1 q.e q.s) (aT z8.1) (oIt z8.2.2.1 z8.2.2.2.1 z8.2.2.2.2.1 z8.2.2.2.2.2.1 z8.2.2.2.2.2.2 z8.2.1)/\TV.Le (aT z8.1) r/\oIt z8.2.2.1 z8.2.2.2.1 z8.2.2.2.2.1 z8.2.2.2.2.2.1 z8.2.2.2.2.2.2 z8.2.1=Hs')
      (λh'=>FV.L 4 .N=true/\RPt tB 175 4 r Hs' 3 ⟨[(0,aIV),(2,ci k),(6,.c<|.a<|.ep 6 4 0 0),(9,.c<|.a<|.ep 7 4 0 0),(10,.c<|qf .N),(102,.c<|qf .N),(103,ci 0),(104,ci 0)],tmH x lv L ⟨q.s,(zZ q.s (q.f-1) t).2.1,q.e⟩ h',8⟩))\/
     (∃z13:Tm×List Tm,AC tB 68 [aT (zZ q.s (q.f-1) t).1] [] (.tup [(true,cT z13.1),(false,[.a<|.osl 0 4 0 z13.2.length])]) [.arz 4<|FTs z13.2]/\TREE x lv L ⟨q.s,(zZ q.s (q.f-1) t).2.1,q.e⟩ z13.1 k r Hs'
       (((4:Nat)=4/\(0+z13.2.length)<=(FTs z13.2).length)/\∃z8:Tm×Sto×Int×Int×List Tm×Int×Int,AC tB 183 [aIV,ci z13.1.n,.c<|qf<|.sl false 4<|take z13.2.length<|drop 0<|FTs z13.2,ci k] (oIs x lv L (zZ q.s (q.f-1) t).2.1 q.e q.s) (aT z8.1) (oIt z8.2.2.1 z8.2.2.2.1 z8.2.2.2.2.1 z8.2.2.2.2.2.1 z8.2.2.2.2.2.2 z8.2.1)/\TV.Le (aT z8.1) r/\oIt z8.2.2.1 z8.2.2.2.1 z8.2.2.2.2.1 z8.2.2.2.2.2.1 z8.2.2.2.2.2.2 z8.2.1=Hs')
       (λh'=>RPt tB 175 4 r Hs' 3 ⟨[(0,aIV),(2,ci k),(6,.c<|.a<|.ep 6 4 0 0),(9,.c<|.a<|.ep 7 4 0 0),(10,.c<|.a<|.osl 8 4 0 z13.2.length),(102,.c<|.a<|.osl 8 4 0 z13.2.length),(103,ci (z13.2.length:Int)),(104,ci 0)],tmH x lv L ⟨q.s,(zZ q.s (q.f-1) t).2.1,q.e⟩ h'++[(8,.arz 4<|FTs z13.2)],9⟩)))->
    Hs'.length=6->(∀o∈Hs'.drop 4,isLive o)->AC tB 175 [aIV,aT t,ci k] (oIs x lv L q.f q.e q.s) r Hs':=λr Hs' hb hl hlv=>by
   obtain⟨tk,ts,tn,tl⟩:=t;refine AC.vc hP shO XP (by simp[hl]) (by simp[isLive]) hlv<|Eq.mpr (v175 tk ts tn (FTs tl) k ..) ?_;rw[w64 (x:=q.f-1) za za];exact zu (λh=>absurd he (by have h:(q.e !=0)=true:=h;exact zp h)) λ_=>bF hf0 ⟨_,hh,hb⟩
  refine enter _ _ ?_ rfl (by simp[isLive]);have eH:∀z:Tm×Int×Int,lq x lv L (yw x lv L D) q z k=if z.2.2≠0 then(noT,w5 q z.2.2) else uX x lv L (yw x lv L D) ⟨q.s,z.2.1,q.e⟩ (zr z.1) k:=λz=>rfl
  rw[eH];clear enter hh;generalize zZ q.s (q.f-1) t=z at*;obtain⟨z1,z2,z3⟩:=z;simp only at ok ⊢;refine zu (λh3=>?_) λh3=>?_
  .have h3:z3≠0:=by have h3:(z3 !=0)=true:=h3;exact zp h3
   rw[tG h3];exact Ke x lv q z3
  have h3:z3=0:=by have h3:(z3 !=0)=false:=h3;exact zp h3
  subst h3;rw[tD zb];obtain⟨hv,hfz,hz0,hz1⟩:=ok rfl;have sp:=Ya hv hfz;have g:GI C ⟨q.s,z2,q.e⟩:=hg.less hz0 za;have hzs:=hfz.sz;have hkids:=λq' t' (a:GI C q') (b:0<=q'.f) (c:q'.f<=z2) (d:t'.sz<=B) e=>ih q' t' k za a b d e hk0 za;have htm:=λq' t' (a:GI C q') (b:0<=q'.f) (_:q'.f<=z2) e=>Xg hC hL x lv D q' t' k a b e
  have hlam:(zr z1).1.k=5->AC tB 175 [aIV,aT<|hd (zr z1).1.l,ci<|k+1] (oIs x lv L z2 q.e q.s) (aT (yw x lv L D ⟨q.s,z2,q.e⟩ (hd (zr z1).1.l)<|k+1).1) (oIt x lv L (yw x lv L D ⟨q.s,z2,q.e⟩ (hd (zr z1).1.l)<|k+1).2.f (yw x lv L D ⟨q.s,z2,q.e⟩ (hd (zr z1).1.l)<|k+1).2.e (yw x lv L D ⟨q.s,z2,q.e⟩ (hd (zr z1).1.l)<|k+1).2.s):=λh5=>by
   have hm:hd (zr z1).1.l∈(zr z1).1.l:=by have o:=zB _ sp.1.1;generalize (zr z1).1=w at*;obtain⟨wk,ws,wn,wl⟩:=w;obtain⟨u,hu,_⟩:=okB5 o h5;have hu:wl=[u]:=hu;subst hu;exact tM
   have:=sp.2.2.2 _ hm;exact ih ⟨q.s,z2,q.e⟩ _ (k+1) (by simp only;omega) g hz0 (by have:=this.1;simp only[SZ,B] at*;omega) (λ_=>this.2) za (by simp only;omega)
  by_cases h6:z1.k=6/\validB z1=true
  .have esp:zr z1=(hd z1.l,z1.l.drop 1):=tG h6;have hcs:=qg z1 (by simp only[SZ,B] at*;omega) h6.1 h6.2;rw[esp] at sp hlam ⊢;simp only at sp hlam;refine .inr ⟨(hd z1.l,z1.l.drop 1),hcs,tree_p (C:=C) x lv za ⟨q.s,z2,q.e⟩ (hd z1.l,z1.l.drop 1) k hk0 za sp.1.1 sp.1.2.bd hlam _ _ (λh4 hx hs=>?_) λh' hle hs=>?_⟩
   .rw[hs];have hc:=aM hC hL x (lv:=lv) g hz0 (by simp only;omega) (by simp only;omega) (hd z1.l).n (z1.l.drop 1) k (by have:=sp.2.2.1;simp only[SZ] at this;omega) (λt ht=>⟨by have:=(sp.2.1 t ht).1;simp only[SZ,B] at*;omega,(sp.2.1 t ht).2⟩) hk0 za;refine⟨⟨by trivial,by rw[zq];omega⟩,((wm lv L ⟨q.s,z2,q.e⟩ (hd z1.l).n (z1.l.drop 1) k).1,(wm lv L ⟨q.s,z2,q.e⟩ (hd z1.l).n (z1.l.drop 1) k).2.s,x,lv,L,(wm lv L ⟨q.s,z2,q.e⟩ (hd z1.l).n (z1.l.drop 1) k).2.f,(wm lv L ⟨q.s,z2,q.e⟩ (hd z1.l).n (z1.l.drop 1) k).2.e),?_,.refl _,rfl⟩;rw[A3,tN<|by rw[zq];exact tJ _];exact hc
   .rw[hs];have hh':h'.l.length<=1000000000:=by have h1:=sp.1.2.sz;have h2:=(hd z1.l).sz_eq;have h3:=Tm.szs_length (hd z1.l).l;have hle:h'.l.length<=(hd z1.l).l.length:=hle;simp only[SZ] at h1;omega
    exact po (C:=C) x lv h' (z1.l.drop 1).length (by have:=sp.2.2.1;simp only[SZ] at this;omega) hh' htm hkids (z1.l.drop 1) [] ⟨q.s,z2,q.e⟩ zb g hz0 (tU _) (λt ht=>⟨by have:=(sp.2.1 t ht).1;simp only[SZ,B] at*;omega,(sp.2.1 t ht).2⟩)
  .have esp:zr z1=(z1,[]):=tD h6;have hcs:=Yk z1 (by simp only[SZ,B] at*;omega) h6;rw[esp] at sp hlam ⊢;simp only at sp hlam;refine .inl ⟨z1,hcs,tree_p (C:=C) x lv za ⟨q.s,z2,q.e⟩ (z1,[]) k hk0 za sp.1.1 sp.1.2.bd hlam _ _ (λh4 hx hs=>?_) λh' hle hs=>?_⟩
   .rw[hs];have hc:=aM hC hL x (lv:=lv) g hz0 (by simp only;omega) (by simp only;omega) z1.n [] k zb (λt ht=>nomatch ht) hk0 za;exact⟨((wm lv L ⟨q.s,z2,q.e⟩ z1.n [] k).1,(wm lv L ⟨q.s,z2,q.e⟩ z1.n [] k).2.s,x,lv,L,(wm lv L ⟨q.s,z2,q.e⟩ z1.n [] k).2.f,(wm lv L ⟨q.s,z2,q.e⟩ z1.n [] k).2.e),hc.args ⟨.refl _,.refl _,.c _ _<|.a _ _<|.fz _ _ zO,.refl _,trivial⟩,.refl _,rfl⟩
   .rw[hs];have hle:h'.l.length<=z1.l.length:=hle;have ha:=w8 h' [] (by have h1:=sp.1.2.sz;have h2:=z1.sz_eq;have h3:=Tm.szs_length z1.l;simp only[SZ,tR] at*;omega);refine⟨rfl,?_⟩;obtain⟨hk',hs',hn',hl'⟩:=h';refine RPt.vc hP shO XP<|Eq.mpr (v175_3a ..) ?_;exact bN ⟨_,ha.args ⟨.refl _,.c _ _<|.a _ _<|.fz _ _ zO,trivial⟩,.refl _,rfl⟩
def kg (t:Tm):Bool:=validB t&&(t.k==3||t.k==1)
theorem c_ileaf (t:Tm)(hz:t.sz<=B):AC tB 174 [aT t] [] (cb<|kg t) []:=by
 have hv:=yz t hz;have e:kg t=(validB t&&(t.k==3||t.k==1)):=rfl;rw[e];generalize validB t=v at*;obtain⟨k,s,n,l⟩:=t;refine acv (v174 k s n (FTs l) ..) ?_;refine⟨_,hv,zu (λh=>zu (λh3=>?_) λh3=>?_) λh=>?_⟩
 .have h3:(k==3)=true:=h3;rw[h,show((Tm.mk k s n l).k==3)=true from h3];exact zD rfl
 .have h3:(k==3)=false:=h3;rw[h,show((Tm.mk k s n l).k==3)=false from h3];exact zD rfl
 .rw[h];exact zD rfl
theorem mI (t:Tm)(hz:t.sz<=B):AC tB 173 [aT t] [] (cb (!kg t)) []:=by have h:=c_ileaf t hz;obtain⟨k,s,n,l⟩:=t;refine acv (v173 k s n (FTs l) ..) ?_;exact⟨_,h,zD rfl⟩
def zK (s:Sto)(x:Int)(l:List Tm)(t:Tm)(f:Int):(Tm×Int×Int)×Sto:=
 if (!inB s.V x||(zL s.V x).bd || !validB t||l.any λu=> !kg u)=true then((noT,0,1),s) else if (yw x (zL s.V x).lv l f.toNat ⟨s,f,0⟩ t 0).2.e≠0 then((noT,0,(yw x (zL s.V x).lv l f.toNat ⟨s,f,0⟩ t 0).2.e),(yw x (zL s.V x).lv l f.toNat ⟨s,f,0⟩ t 0).2.s) else((j7 l.length (yw x (zL s.V x).lv l f.toNat ⟨s,f,0⟩ t 0).1,(yw x (zL s.V x).lv l f.toNat ⟨s,f,0⟩ t 0).2.f,0),(yw x (zL s.V x).lv l f.toNat ⟨s,f,0⟩ t 0).2.s)
theorem Wq {t:Tm}(h:kg t=true):t.sz=1/\(t.k=3\/t.k=1)/\t.l=[]:=by simp only[kg,tF,Ey,Al] at h;obtain⟨k,s,n,l⟩:=t;have b:k=3\/k=1:=h.2;have:l=[]:=okB0 (zB _ h.1) za za;subst this;exact⟨rfl,b,rfl⟩
theorem rh {C:Nat} (hC:C<=1073741824) (s:Sto) (x:Int) (l:List Tm) (t:Tm) (f:Int) (h0:0<=f) (hf:f<=900) (hs:OKS s) (hV:s.V.length+f.toNat<=C) (hT:s.T.length+f.toNat<=C)
  (hl:l.length<=900) (hlz:∀u∈l,u.sz<=B) (hz:t.sz<=B) (hfit:validB t=true->Fit f.toNat t):
  AC tB 157 [aS 0,ci x,aL l,aT t,ci f] (oS s) (aHd (zK s x l t f).1) (oS' (zK s x l t f).2):=by
 have hI:=qQ s x;have ho:=c_iodd t hz;have ha:=gf (λu=> !kg u) l (by simp only[B];omega) λu hu=>mI u<|hlz u hu;have eF:zK s x l t f=if (!inB s.V x||(zL s.V x).bd || !validB t||l.any λu=> !kg u)=true then((noT,0,1),s) else if (yw x (zL s.V x).lv l f.toNat ⟨s,f,0⟩ t 0).2.e≠0 then((noT,0,(yw x (zL s.V x).lv l f.toNat ⟨s,f,0⟩ t 0).2.e),(yw x (zL s.V x).lv l f.toNat ⟨s,f,0⟩ t 0).2.s) else((j7 l.length (yw x (zL s.V x).lv l f.toNat ⟨s,f,0⟩ t 0).1,(yw x (zL s.V x).lv l f.toNat ⟨s,f,0⟩ t 0).2.f,0),(yw x (zL s.V x).lv l f.toNat ⟨s,f,0⟩ t 0).2.s):=rfl
 have hterm:(l.any λu=> !kg u)=false->AC tB 175 [aIV,aT t,ci 0] (oIs x (zL s.V x).lv l f 0 s) (aT (yw x (zL s.V x).lv l f.toNat ⟨s,f,0⟩ t 0).1) (oIt x (zL s.V x).lv l (yw x (zL s.V x).lv l f.toNat ⟨s,f,0⟩ t 0).2.f (yw x (zL s.V x).lv l f.toNat ⟨s,f,0⟩ t 0).2.e (yw x (zL s.V x).lv l f.toNat ⟨s,f,0⟩ t 0).2.s):=λh=>by have hL:LP l:=⟨hl,λu hu=>(Wq<|by have:=List.any_eq_false.1 h u hu;exact zp this).1⟩;exact sc hC hL x (zL s.V x).lv f.toNat ⟨s,f,0⟩ t 0 (tJ _) ⟨hs,hV,hT,by simp only;omega,hf⟩ h0 hz (λ_=>hfit) (tU _) (by simp only;omega)
 rw[eF];generalize zL s.V x=i at*;generalize inB s.V x=ib at*;generalize (l.any λu=> !kg u)=an at*;obtain⟨ilv,ibd,iv⟩:=i;simp only at hterm ⊢;generalize yw x ilv l f.toNat ⟨s,f,0⟩ t 0=w at*;obtain⟨w1,ws,wf,we⟩:=w;simp only at hterm ⊢;generalize validB t=vt at*;have bad:(!ib||ibd || !vt||an)=true->(TV.Le (.tup [(true,[qi 0,qf<|.str [],qi 0,qf .N]),(false,[qi 0]),(false,[qi 1])]) (aHd (if (!ib||ibd || !vt||an)=true then((noT,0,1),s) else if we≠0 then((noT,0,we),ws) else((j7 l.length w1,wf,0),ws)).1)/\oS' s=oS' (if (!ib||ibd || !vt||an)=true then((noT,0,1),s) else if we≠0 then((noT,0,we),ws) else((j7 l.length w1,wf,0),ws)).2):=λh=>by rw[tG h];exact⟨leHd (l:=[]) zO,rfl⟩
 obtain⟨tk,ts,tn,tl⟩:=t;refine acv (v157 x (FTs l) tk ts tn (FTs tl) f ..) ?_;refine⟨(ilv,ibd,iv,ib),hI,zu (λh=>bad ?_) λh=>zu (λh2=>bad ?_) λh2=>⟨_,ho,zu (λh3=>bad ?_) λh3=>⟨_,ha,zu (λh4=>bad ?_) λh4=>?_⟩⟩⟩
 .have h:(!ib)=true:=h;rw[h];rfl
 .have h2:ibd=true:=h2;rw[h2,Ee];rfl
 .rw[h3,Ee];rfl
 .have h4:an=true:=h4;rw[h4,Ee]
 .have h:(!ib)=false:=h;have h2:ibd=false:=h2;have h4:an=false:=h4;rw[h,h2,h3,h4,tD zb];refine⟨(w1,ws,x,ilv,l,wf,we),hterm h4,zu (λhe=>?_) λhe=>⟨rfl,?_⟩⟩
  .have he:we≠0:=by have he:(we !=0)=true:=he;exact zp he
   rw[tG he];exact⟨leHd (l:=[]) zO,rfl⟩
  .have he:we=0:=by have he:(we !=0)=false:=he;exact zp he
   rw[tD<|by simp[he],zq];exact⟨_,pc l.length w1 za,.refl _,rfl⟩
structure SD where
 t:Tm
 h:Tm
 a:List Tm
abbrev cSD (x:SD):List WV:=[qi x.t.k,qf<|.str x.t.s,qi x.t.n,qf<|.sl false 4<|FTs x.t.l,qi x.h.k,qf<|.str x.h.s,qi x.h.n,qf<|.sl false 4<|FTs x.h.l,qf<|.sl false 4<|FTs x.a]
abbrev aSD (x:SD):TV:=.agg<|cSD x
abbrev aSE (z:SD×Int):TV:=.tup [(true,cSD z.1),(false,[qi z.2])]
abbrev aLvE (z:List Tm×Int):TV:=.tup [(false,[qf<|.sl false 4<|FTs z.1]),(false,[qi z.2])]
abbrev noSD:SD:=⟨noT,noT,[]⟩
theorem leSE {k n k2 n2 e:Int}{s s2:List UInt8}{x x2 x3:FV}{l l2 l3:List Tm}(h:FV.Le x<|.sl false 4<|FTs l)(h2:FV.Le x2<|.sl false 4<|FTs l2)(h3:FV.Le x3<|.sl false 4<|FTs l3):
  TV.Le (.tup [(true,[qi k,qf<|.str s,qi n,qf x,qi k2,qf<|.str s2,qi n2,qf x2,qf x3]),(false,[qi e])]) (aSE (⟨.mk k s n l,.mk k2 s2 n2 l2,l3⟩,e)):=
 jL ⟨⟨rfl,.refl _,.refl _,.refl _,.a _ _<|.fz _ _ h,.refl _,.refl _,.refl _,.a _ _<|.fz _ _ h2,.a _ _<|.fz _ _ h3,trivial⟩,lwR _,trivial⟩
def XI (t:Tm):SD:=⟨t,(zr t).1,(zr t).2⟩
def yp (s:Sto)(f:Int)(t:Tm):(SD×Int)×Int:=
 if (zZ s f t).2.2≠0 then((noSD,(zZ s f t).2.2),f) else((XI (zZ s f t).1,0),(zZ s f t).2.1)
def zA (s:Sto)(f:Int)(x:SD):(List Tm×Int)×Int:=
 (((yJ s x.h.n x.a f).1,(yJ s x.h.n x.a f).2.2),if (yJ s x.h.n x.a f).2.2=0 then(yJ s x.h.n x.a f).2.1 else f)
abbrev aWk:TV:=.c<|.a<|.ep 0 3 0 0
theorem nQ (s:Sto)(hs:OKS s)(n:Nat)(R:List<|List FV)(f:Int)(x:SD)(hl0:x.a.length<=1000000000)(h0:0-9223372036854775808<=f)(hb:∀t∈x.a,t.sz<=B/\(validB t=true->Fit f.toNat t)):
  AC tB 136 [aWk,aSD x] (oWk s n R f) (aLvE (zA s f x).1) (oWk s n R (zA s f x).2):=by
 have hA:=mA s hs x.h.n f x.a hl0 h0 hb;have e:zA s f x=(((yJ s x.h.n x.a f).1,(yJ s x.h.n x.a f).2.2),if (yJ s x.h.n x.a f).2.2=0 then(yJ s x.h.n x.a f).2.1 else f):=rfl;rw[e];generalize yJ s x.h.n x.a f=z at*;obtain⟨ls,g,er⟩:=z;obtain⟨⟨tk,ts,tn,tl⟩,⟨hk,hs',hn,hl⟩,a⟩:=x;refine acv (v136 tk ts tn (FTs tl) hk hs' hn (FTs hl) (FTs a) ..) ?_;refine⟨(ls,g,er),hA,zu (λh=>?_) λh=>?_⟩
 .have h:er=0:=by have h:(er==0)=true:=h;exact zp h
  subst h;exact rrl
 .have h:er≠0:=by have h:(er==0)=false:=h;exact zp h
  exact⟨.refl _,by show _=oWk s n R (if er=0 then g else f);rw[tD h]⟩
theorem c_ulook (s:Sto)(hs:OKS s)(n:Nat)(R:List<|List FV)(f:Int)(t:Tm)(h0:0-9223372036854775808<=f)(hz:t.sz<=B)(hf:validB t=true->Fit f.toNat t)(hu:(zZ s f t).1.sz<=B):
  AC tB 102 [aWk,aT t] (oWk s n R f) (aSE (yp s f t).1) (oWk s n R (yp s f t).2):=by
 have hH:=JQ s hs f t h0 hz hf;have e:yp s f t=if (zZ s f t).2.2≠0 then((noSD,(zZ s f t).2.2),f) else((XI (zZ s f t).1,0),(zZ s f t).2.1):=rfl
 rw[e];generalize zZ s f t=z at*;obtain⟨u,g,er⟩:=z;obtain⟨tk,ts,tn,tl⟩:=t;refine AC.vc hP shO lv5 (tJ _) (by simp[isLive]) zb<|Eq.mpr (v102 tk ts tn (FTs tl) ..) ?_;refine⟨(u,g,er),hH,zu (λh=>?_) λh=>?_⟩
 .have h:er≠0:=by have h:(er !=0)=true:=h;exact zp h
  rw[tG h];exact⟨leSE (l:=[]) (l2:=[]) (l3:=[]) zO zO zO,rfl⟩
 .have h:er=0:=by have h:(er !=0)=false:=h;exact zp h
  subst h;rw[tD zb];by_cases hc:u.k=6/\validB u=true
  .refine .inr ⟨(hd u.l,u.l.drop 1),qg u hu hc.1 hc.2,⟨rfl,by rw[zq];omega⟩,?_⟩;have es:XI u=⟨u,hd u.l,u.l.drop 1⟩:=by unfold XI zr;rw[tG hc]
   rw[es,A3,tN<|by rw[zq];exact tJ _];exact rrl
  .refine .inl ⟨u,Yk u hu hc,?_⟩;have es:XI u=⟨u,u,[]⟩:=by unfold XI zr;rw[tD hc]
   rw[es];obtain⟨uk,us,un,ul⟩:=u;exact⟨leSE (.refl _) (.refl _) (l3:=[]) zO,rfl⟩
def ud (s:Sto)(f x:Int)(l:List Tm)(t:Tm):Int×Sto×Int:=
 if (zK s x l t f).1.2.2≠0 then((zK s x l t f).1.2.2,(zK s x l t f).2,f) else(Jq (zK s x l t f).2 x (zK s x l t f).1.1,bindS (zK s x l t f).2 x (zK s x l t f).1.1,(zK s x l t f).1.2.1)
theorem c_ubind (s:Sto) (n:Nat) (R:List<|List FV) (f:Int) (x:SD) (l:List Tm) (t:Tm)
  (hI:AC tB 157 [aS 0,ci x.h.n,aL l,aT t,ci f] (oS s) (aHd (zK s x.h.n l t f).1)<|oS' (zK s x.h.n l t f).2)
  (hB:(zK s x.h.n l t f).1.2.2=0->AC tB 158 [aS 0,ci x.h.n,aT (zK s x.h.n l t f).1.1] (oS (zK s x.h.n l t f).2) (ci<|Jq (zK s x.h.n l t f).2 x.h.n (zK s x.h.n l t f).1.1) (oS'<|bindS (zK s x.h.n l t f).2 x.h.n (zK s x.h.n l t f).1.1)):
  AC tB 139 [aWk,aSD x,aL l,aT t] (oWk s n R f) (ci (ud s f x.h.n l t).1) (oWk' (ud s f x.h.n l t).2.1 n R (ud s f x.h.n l t).2.2):=by
 have e:ud s f x.h.n l t=if (zK s x.h.n l t f).1.2.2≠0 then((zK s x.h.n l t f).1.2.2,(zK s x.h.n l t f).2,f) else(Jq (zK s x.h.n l t f).2 x.h.n (zK s x.h.n l t f).1.1,bindS (zK s x.h.n l t f).2 x.h.n (zK s x.h.n l t f).1.1,(zK s x.h.n l t f).1.2.1):=rfl
 rw[e];clear e;generalize zK s x.h.n l t f=z at*;obtain⟨⟨u,g,er⟩,S⟩:=z;obtain⟨⟨xk,xs,xn,xl⟩,⟨hk,hs',hn,hl⟩,a⟩:=x;simp only[Tm.n] at hI hB ⊢;obtain⟨tk,ts,tn,tl⟩:=t;refine acv (v139 xk xs xn (FTs xl) hk hs' hn (FTs hl) (FTs a) (FTs l) tk ts tn (FTs tl) ..) ?_;refine⟨((u,g,er),S),hI,zu (λh=>?_) λh=>?_⟩
 .have h:er≠0:=by have h:(er !=0)=true:=h;exact zp h
  rw[tG h];exact rrl
 .have h:er=0:=by have h:(er !=0)=false:=h;exact zp h
  rw[tD<|by simp[h]];exact⟨(Jq S hn u,bindS S hn u),hB h,.refl _,rfl⟩
def yr (s:Sto)(f:Int)(x:SD)(t:Tm):Int×Sto×Int:=
 if (zA s f x).1.2≠0 then((zA s f x).1.2,s,(zA s f x).2) else ud s (zA s f x).2 x.h.n (zA s f x).1.1 t
theorem c_uflex (s:Sto) (n:Nat) (R:List<|List FV) (f:Int) (x y:SD)
  (hL:AC tB 136 [aWk,aSD x] (oWk s n R f) (aLvE (zA s f x).1)<|oWk s n R (zA s f x).2)
  (hB:(zA s f x).1.2=0->AC tB 139 [aWk,aSD x,aL (zA s f x).1.1,aT y.t] (oWk s n R (zA s f x).2) (ci (ud s (zA s f x).2 x.h.n (zA s f x).1.1 y.t).1) (oWk' (ud s (zA s f x).2 x.h.n (zA s f x).1.1 y.t).2.1 n R (ud s (zA s f x).2 x.h.n (zA s f x).1.1 y.t).2.2)):
  AC tB 106 [aWk,aSD x,aSD y] (oWk s n R f) (ci (yr s f x y.t).1) (oWk' (yr s f x y.t).2.1 n R (yr s f x y.t).2.2):=by
 have e:yr s f x y.t=if (zA s f x).1.2≠0 then((zA s f x).1.2,s,(zA s f x).2) else ud s (zA s f x).2 x.h.n (zA s f x).1.1 y.t:=rfl
 rw[e];clear e;generalize zA s f x=z at*;obtain⟨⟨l,er⟩,g⟩:=z
 replace hB:er=0->AC tB 139 [aWk,aSD x,aL l,aT y.t] (oWk s n R g) (ci (ud s g x.h.n l y.t).1) (oWk' (ud s g x.h.n l y.t).2.1 n R (ud s g x.h.n l y.t).2.2):=hB;show AC tB 106 [aWk,aSD x,aSD y] (oWk s n R f) (ci (if er≠0 then(er,s,g) else ud s g x.h.n l y.t).1)<|oWk' (if er≠0 then(er,s,g) else ud s g x.h.n l y.t).2.1 n R (if er≠0 then(er,s,g) else ud s g x.h.n l y.t).2.2;generalize ud s g x.h.n l y.t=w at*;obtain⟨we,ws,wf⟩:=w;obtain⟨⟨xk,xs,xn,xl⟩,⟨hk,hs',hn,hl⟩,a⟩:=x;obtain⟨⟨yk,ys,yn,yl⟩,⟨gk,gs',gn,gl⟩,b⟩:=y;refine acv (v106 xk xs xn (FTs xl) hk hs' hn (FTs hl) (FTs a) yk ys yn (FTs yl) gk gs' gn (FTs gl) (FTs b) ..) ?_;refine⟨(l,er,n,g),hL,zu (λh=>?_) λh=>?_⟩
 .have h:er≠0:=by have h:(er !=0)=true:=h;exact zp h
  rw[tG h];exact rrl
 .have h:er=0:=by have h:(er !=0)=false:=h;exact zp h
  rw[tD<|by simp[h]];exact⟨(we,ws,n,R,wf),hB h,.refl _,rfl⟩
def ixB (v:Bool):List Bool->Nat->Int
 |[],_=> -1
 |t::l,i=>if (v==t)=true then(i:Int) else ixB v l<|i+1
theorem iz (v:Bool):∀(l:List Bool) (i:Nat),decide (ixB v l i>=0)=l.any λt=>v==t
 |[],_=>rfl
 |t::l,i=>by
  rw[ixB,E3];split;next h=>rw[h];simp
  next h=>rw[iz v l,show(v==t)=false by simpa using h,Ec]
theorem BR_mid (a:List Bool)(t:Bool)(b:List Bool):getD (BRb<|a++t::b) (toNat (a.length:Int)) []=[.bool t]:=by rw[hJ];simp[BRb,getD]
theorem l_indexb (v:Bool)(b:List Bool):∀a:List Bool,(a++b).length<=B->RPt tB 154 0 (ci<|ixB v b a.length) [] 1 ⟨[(0,.c<|qf<|.sl false 1<|BRb<|a++b),(1,cb v),(7,ci ((a++b).length:Int)),(8,ci (a.length:Int))],[],0⟩:=by
 induction b with
 |nil=>intro a hs;refine rpv (i7 ..) ?_;exact bF zb<|yF rfl
 |cons t b ihb=>
  intro a hs;have h2:=ihb (a++[t]) (zp hs);have hl:(a++t::b).length=a.length+(b.length+1):=zb;rw[AB,List.singleton_append,show(a++[t]).length=a.length+1 by simp] at h2;simp only[B] at hs;refine rpv (i7 ..) ?_;rw[BR_mid,xd];refine zu (λ_=>⟨⟨rfl,za,za,rfl⟩,zu (λh=>yF ?_) λh=>?_⟩) (λh=>absurd (tP h) za)
  .have h:(v==t)=true:=h;rw[ixB,tG h]
  .have h:¬(v==t)=true:=by have h:(v==t)=false:=h;simp[h]
   rw[ixB,tD h,w64 (x:=(a.length:Int)+1) za za];exact h2
theorem cd (v:Bool)(l:List Bool)(hl:l.length<=B):AC tB 137 [.c<|qf<|.sl false 1<|BRb l,cb v] [] (cb<|l.any λt=>v==t) []:=by
 have hi:AC tB 154 [.c<|qf<|.sl false 1<|BRb l,cb v] [] (ci<|ixB v l 0) []:=by refine acv (v154 ..) ?_;rw[xd];exact⟨rfl,l_indexb v l [] hl⟩
 refine acv (v137 ..) ?_;exact⟨_,hi,zD<|iz v l 0⟩
abbrev fsR (m:Nat):List (List FV):=List.replicate m [.bool false]
abbrev prS (s:Sto)(n:Nat)(R:List<|List FV)(f:Int)(x:SD)(a b:List Tm)(ks:List Bool)(m:Nat):St:=
 ⟨[(0,aWk),(4,.c<|.a<|.ep 8 9 0 0),(7,aL a),(9,aL b),(10,.c<|.a<|.osl 9 1 0 a.length),(41,ci (a.length:Int)),(42,ci (ks.length:Int))],
  [(0,.arr 3 [[.a<|.ep 1 2 0 0,.a<|.osl 7 8 0 n,qi f]]),(1,sto2 5 6 s),(2,.gone),(3,.gone),(4,.gone),(5,.arz 6<|SR s.V),(6,.arz 1<|IR s.T),(7,.arz 8 R),(8,.arr 9 [cSD x]),(9,.arz 1<|BRb ks++fsR m)],10⟩
theorem BR_snoc (ks:List Bool)(t:Bool)(m:Nat):List.set (BRb ks++fsR (m+1)) (0+toNat (ks.length:Int)) [.bool t]=BRb (ks++[t])++fsR m:=by rw[hJ,A4,List.set_append_right (h:=by rw[xd];exact tJ _),xd,Nat.sub_self];simp[BRb,List.replicate_succ]
theorem aZ (s:Sto) (n:Nat) (R:List<|List FV) (f:Int) (x:SD) (a b:List Tm) (ha:a.length<=1000000000) (hz:∀t∈a,t.sz<=B) (z:Int×Sto) (K:List Bool)
  (h0:(K.any λt=>false==t)=false->z=(0,s))
  (h1:(K.any λt=>false==t)=true->AC tB 138 [aS 0,ci x.h.n,.c<|qf<|.sl false 1<|BRb K] (oS s) (ci z.1) (oS' z.2)):
  ∀(ra rb pa pb:List Tm),a=pa++ra->b=pb++rb->pa.length=pb.length->ra.length=rb.length->List.zipWith xg a b=K->
  RPt tB 105 5 (ci z.1) (oWk' z.2 n R f) 3 (prS s n R f x a b (List.zipWith xg pa pb) ra.length)
 |[],rb,pa,pb,ea,eb,hp,hr,hK=>by
  have:rb=[]:=tS hr.symm;subst this;rw[tY] at ea eb;subst ea;subst eb;have hk:K.length=a.length:=by rw[<-hK];simp[hp]
  have hc:=cd false K (by simp only[B];omega);rw[hK];have ed:take a.length (drop 0<|BRb K++fsR 0)=BRb K:=by rw[A3,show fsR 0=[] from rfl,tY,tN<|by rw[xd];omega]
  have hl9:0+a.length<=(BRb K++fsR 0).length:=by rw[show fsR 0=[] from rfl,tY,xd];omega
  obtain⟨ze,zs⟩:=z;obtain⟨⟨xk,xs,xn,xl⟩,⟨hk',hs',hn,hl⟩,xa⟩:=x;show RPt tB 105 5 (ci ze) (oWk' zs n R f) 3<|prS s n R f ⟨.mk xk xs xn xl,.mk hk' hs' hn hl,xa⟩ a b K 0;refine rpv (lU ..) ?_;refine bF za ⟨⟨rfl,hl9⟩,_,by rw[ed];exact hc,rfl,zu (λh=>?_) λh=>⟨⟨rfl,hl9⟩,(ze,zs),?_,.refl _,rfl⟩⟩
  .have h:(K.any λt=>false==t)=false:=by have h:(!(K.any λt=>false==t))=true:=h;exact zp h
   have e:=h0 h;cases e;exact rrl
  .have h:(K.any λt=>false==t)=true:=by have h:(!(K.any λt=>false==t))=false:=h;exact zp h
   rw[ed];exact h1 h
 |t::ra,[],pa,pb,ea,eb,hp,hr,hK=>by cases hr
 |t::ra,u::rb,pa,pb,ea,eb,hp,hr,hK=>by
  have next:=aZ s n R f x a b ha hz z K h0 h1 ra rb (pa++[t]) (pb++[u]) (by rw[ea];simp) (by rw[eb];simp) (by simp[hp]) (zp hr) hK;have hs:=tx t (hz t<|by rw[ea];simp) u;have ezip:List.zipWith xg (pa++[t]) (pb++[u])=List.zipWith xg pa pb++[xg t u]:=by rw[List.zipWith_append hp];rfl
  have hkl:(List.zipWith xg pa pb).length=pa.length:=by simp[hp]
  have hal:a.length=pa.length+(ra.length+1):=by rw[ea];simp
  have hbl:b.length=pb.length+(rb.length+1):=by rw[eb];simp
  have hra:ra.length=rb.length:=zp hr;have ema:getD (FTs a) (toNat (pa.length:Int)) []=FT t:=by rw[ea];exact midI pa t ra
  have emb:getD (FTs b) (toNat (pa.length:Int)) []=FT u:=by rw[eb,hp];exact midI pb u rb
  have eaa:aE (getD (FTs a) (toNat (pa.length:Int)) [])=aT t:=by rw[ea];exact xN pa t ra
  have eab:aE (getD (FTs b) (toNat (pa.length:Int)) [])=aT u:=by rw[eb,hp];exact xN pb u rb
  rw[ezip] at next;unfold prS at next ⊢;rw[show(List.zipWith xg pa pb++[xg t u]).length=pa.length+1 by simp[hp]] at next;rw[hkl];have eset:=BR_snoc (List.zipWith xg pa pb) (xg t u) ra.length;rw[hkl] at eset;obtain⟨⟨xk,xs,xn,xl⟩,⟨hk',hs',hn,hl⟩,xa⟩:=x;refine rpv (lU ..) ?_;rw[eaa,eab,ema,emb,zq,zq];refine zu (λ_=>⟨⟨rfl,za,za,yD t⟩,⟨rfl,za,za,yD u⟩,_,hs,⟨za,za⟩,⟨?_,?_⟩,?_⟩) (λh=>absurd (tP h) za)
  .rw[tE,xd,hkl];simp
  .rw[hJ,A4];simp[getD,BRb,hp,List.replicate_succ]
  .rw[w64 (x:=(pa.length:Int)+1) za za];rw[show(t::ra).length=ra.length+1 from rfl,eset];exact next
def yR (s:Sto)(f:Int)(x y:SD):Int×Sto×Int:=
 if (zA s f x).1.2≠0 then((zA s f x).1.2,s,(zA s f x).2) else if (zA s (zA s f x).2 y).1.2≠0 then((zA s (zA s f x).2 y).1.2,s,(zA s (zA s f x).2 y).2) else if (zA s f x).1.1.length≠(zA s (zA s f x).2 y).1.1.length then(171,s,(zA s (zA s f x).2 y).2) else if ((List.zipWith xg (zA s f x).1.1 (zA s (zA s f x).2 y).1.1).any λt=>false==t)=false then(0,s,(zA s (zA s f x).2 y).2) else(jb s x.h.n,wM s x.h.n<|List.zipWith xg (zA s f x).1.1 (zA s (zA s f x).2 y).1.1,(zA s (zA s f x).2 y).2)
theorem c_uprune (s:Sto) (n:Nat) (R:List<|List FV) (f:Int) (x y:SD)
  (hA:AC tB 136 [aWk,aSD x] (oWk s n R f) (aLvE (zA s f x).1)<|oWk s n R (zA s f x).2)
  (hB:(zA s f x).1.2=0->AC tB 136 [aWk,aSD y] (oWk s n R (zA s f x).2) (aLvE (zA s (zA s f x).2 y).1) (oWk s n R (zA s (zA s f x).2 y).2))
  (ha:(zA s f x).1.1.length<=1000000000) (hz:∀t∈(zA s f x).1.1,t.sz<=B)
  (h1:((List.zipWith xg (zA s f x).1.1 (zA s (zA s f x).2 y).1.1).any λt=>false==t)=true->∀K:List Bool,K.length=(zA s f x).1.1.length->AC tB 138 [aS 0,ci x.h.n,.c<|qf<|.sl false 1<|BRb K] (oS s) (ci<|jb s x.h.n) (oS'<|wM s x.h.n K)):
  AC tB 105 [aWk,aSD x,aSD y] (oWk s n R f) (ci (yR s f x y).1) (oWk' (yR s f x y).2.1 n R (yR s f x y).2.2):=by
 unfold yR;generalize zA s f x=z at*;obtain⟨⟨a,er⟩,g⟩:=z
 replace hB:er=0->AC tB 136 [aWk,aSD y] (oWk s n R g) (aLvE (zA s g y).1) (oWk s n R (zA s g y).2):=hB
 replace ha:a.length<=1000000000:=ha
 replace hz:∀t∈a,t.sz<=B:=hz
 replace h1:((List.zipWith xg a (zA s g y).1.1).any λt=>false==t)=true->∀K:List Bool,K.length=a.length->AC tB 138 [aS 0,ci x.h.n,.c<|qf<|.sl false 1<|BRb K] (oS s) (ci<|jb s x.h.n) (oS'<|wM s x.h.n K):=h1;dsimp only;generalize zA s g y=w at*;obtain⟨⟨b,er2⟩,g2⟩:=w
 replace hB:er=0->AC tB 136 [aWk,aSD y] (oWk s n R g) (aLvE (b,er2)) (oWk s n R g2):=hB;dsimp only
 have main:a.length=b.length->∀z:Int×Sto,(((List.zipWith xg a b).any λt=>false==t)=false->z=(0,s))->(((List.zipWith xg a b).any λt=>false==t)=true->z=(jb s x.h.n,wM s x.h.n<|List.zipWith xg a b))->
   RPt tB 105 5 (ci z.1) (oWk' z.2 n R g2) 3 (prS s n R g2 x a b [] a.length):=λhab z z0 z1=>by
  refine aZ s n R g2 x a b ha hz z _ z0 (λh=>?_) a b [] [] rfl rfl rfl hab rfl;rw[z1 h];exact h1 h _ (by simp[hab])
 obtain⟨⟨xk,xs,xn,xl⟩,⟨hk,hs',hn,hl⟩,xa⟩:=x;obtain⟨⟨yk,ys,yn,yl⟩,⟨gk,gs',gn,gl⟩,ya⟩:=y;refine acv (v105 xk xs xn (FTs xl) hk hs' hn (FTs hl) (FTs xa) yk ys yn (FTs yl) gk gs' gn (FTs gl) (FTs ya) ..) ?_;refine⟨(a,er,n,g),hA,zu (λh=>?_) λh=>?_⟩
 .have h:er≠0:=by have h:(er !=0)=true:=h;exact zp h
  rw[tG h];exact rrl
 have h:er=0:=by have h:(er !=0)=false:=h;exact zp h
 rw[tD<|by simp[h]];refine⟨(b,er2,n,g2),hB h,zu (λh2=>?_) λh2=>⟨rfl,rfl,?_⟩⟩
 .have h2:er2≠0:=by have h2:(er2 !=0)=true:=h2;exact zp h2
  rw[tG h2];exact rrl
 have h2:er2=0:=by have h2:(er2 !=0)=false:=h2;exact zp h2
 rw[tD<|by simp[h2],zq,zq];refine zu (λh3=>?_) (λh3=>⟨rfl,⟨rfl,za,rfl,za,za,?_⟩,rfl,?_⟩)
 .have h3:a.length≠b.length:=by have h3:((a.length:Int) !=(b.length:Int))=true:=h3;intro q;rw[q] at h3;simp at h3
  rw[tG h3];exact rrl
 .unfold zI;rw[hJ];dsimp only;omega
 .have h3:a.length=b.length:=by have h3:((a.length:Int) !=(b.length:Int))=false:=h3;have:(a.length:Int)=(b.length:Int):=zp h3;omega
  rw[tD<|by simp[h3],hJ];split;next h4=>exact main h3 (0,s) (λ_=>rfl) (λq=>by rw[q] at h4;cases h4)
  next h4=>exact main h3 (jb s hn,wM s hn<|List.zipWith xg a b) (λq=>absurd q h4) λ_=>rfl
def vM (t:Tm):Tm:=if validB t=true then(if t.k=5 then hd t.l else zJ (shT 0 1 t 0) [.mk 3 [] 0 []]) else t
theorem c_ubody (t:Tm)(hz:t.sz<=B)(hb:bd M61 t)(hl:(shT 0 1 t 0).l.length+1<2199023255552):AC tB 87 [aT t] [] (aT<|vM t) []:=by
 have hv:=yz t hz;have hs:=jE t 0 1 hz hb (tU _) (by simp only[M61];omega) za (by simp only[M61];omega);have ha:=w8 (shT 0 1 t 0) [.mk 3 [] 0 []] hl;have ok5:validB t=true->t.k=5->∃u,t.l=[u]:=λh h5=>by obtain⟨k,s,n,l⟩:=t;obtain⟨u,hu,_⟩:=okB5 (zB _ h) h5;exact⟨u,hu⟩
 unfold vM;generalize validB t=v at*;generalize zJ (shT 0 1 t 0) [.mk 3 [] 0 []]=r at*;generalize shT 0 1 t 0=w at*;obtain⟨k,s,n,l⟩:=t;refine acv (v87 k s n (FTs l) ..) ?_;refine⟨_,hv,zu (λh=>?_) λh=>zu (λh5=>?_) λh5=>?_⟩
 .have h:v=false:=zp h;rw[h,tD zb];exact rrl
 .have h:v=true:=zp h;have h5:k=5:=ES h5;obtain⟨u,hu⟩:=ok5 h h5;have hu:l=[u]:=hu;subst hu;rw[tG h,tG (show(Tm.mk k s n [u]).k=5 from h5)];refine⟨el0 u [],?_,rfl⟩;rw[show aE (getD (FTs [u]) 0 [])=aT u from xN [] u []];exact .refl _
 .have h:v=true:=zp h;have h5:¬k=5:=by have h5:(k==5)=false:=h5;exact zp h5
  rw[tG h,tD (show¬(Tm.mk k s n l).k=5 from h5)];exact⟨w,hs,⟨rfl,za⟩,r,ha.args ⟨.refl _,args1<|leFT zO,trivial⟩,.refl _,rfl⟩
theorem aF (x:SD):AC tB 104 [aSD x] [] (cb<|x.h.k==4) []:=by obtain⟨⟨xk,xs,xn,xl⟩,⟨hk,hs',hn,hl⟩,a⟩:=x;refine acv (v104 xk xs xn (FTs xl) hk hs' hn (FTs hl) (FTs a) ..) ?_;exact rrl
def j8 (s:Sto)(g:Int)(x y:SD):(Int×Sto×Int)×List (Tm×Tm):=
 if x.t.k=5\/y.t.k=5 then((0,s,g),[(vM x.t,vM y.t)]) else if x.h.k=4/\y.h.k=4/\x.h.n=y.h.n then(yR s g x y,[]) else if x.h.k=4 then(yr s g x y.t,[]) else if y.h.k=4 then(yr s g y x.t,[]) else if xg x.h y.h=false\/x.a.length≠y.a.length then((170,s,g),[]) else((0,s,g),x.a.zip y.a)
def y8 (s:Sto)(f:Int)(p:Tm×Tm):(Int×Sto×Int)×List (Tm×Tm):=
 if (yp s f p.1).1.2≠0 then(((yp s f p.1).1.2,s,(yp s f p.1).2),[]) else if (yp s (yp s f p.1).2 p.2).1.2≠0 then(((yp s (yp s f p.1).2 p.2).1.2,s,(yp s (yp s f p.1).2 p.2).2),[]) else j8 s (yp s (yp s f p.1).2 p.2).2 (yp s f p.1).1.1 (yp s (yp s f p.1).2 p.2).1.1
abbrev oPa (n:Nat)(R:List<|List FV)(z:(Int×Sto×Int)×List (Tm×Tm)):List AObj:=oWk' z.1.2.1 (n+z.2.length) (stk R n z.2.reverse) z.1.2.2
theorem c_upair (s:Sto) (n:Nat) (R:List<|List FV) (f:Int) (p:Tm×Tm) (hn:n<=R.length) (hn2:n<=500000000000)
  (hX:AC tB 102 [aWk,aT p.1] (oWk s n R f) (aSE (yp s f p.1).1)<|oWk s n R (yp s f p.1).2)
  (hY:(yp s f p.1).1.2=0->AC tB 102 [aWk,aT p.2] (oWk s n R (yp s f p.1).2) (aSE (yp s (yp s f p.1).2 p.2).1) (oWk s n R (yp s (yp s f p.1).2 p.2).2))
  (hG:∀x y g,(yp s f p.1).1=(x,0)->yp s (yp s f p.1).2 p.2=((y,0),g)->
   AC tB 87 [aT x.t] [] (aT<|vM x.t) []/\AC tB 87 [aT y.t] [] (aT<|vM y.t) []/\x.h.sz<=B/\x.a.length<=1000000000/\
   (x.h.k=4/\y.h.k=4/\x.h.n=y.h.n->AC tB 105 [aWk,aSD x,aSD y] (oWk s n R g) (ci (yR s g x y).1) (oWk' (yR s g x y).2.1 n R (yR s g x y).2.2))/\
   (¬(x.t.k=5\/y.t.k=5)->¬(x.h.k=4/\y.h.k=4/\x.h.n=y.h.n)->x.h.k=4->AC tB 106 [aWk,aSD x,aSD y] (oWk s n R g) (ci (yr s g x y.t).1) (oWk' (yr s g x y.t).2.1 n R (yr s g x y.t).2.2))/\
   (¬(x.t.k=5\/y.t.k=5)->¬(x.h.k=4/\y.h.k=4/\x.h.n=y.h.n)->y.h.k=4->AC tB 106 [aWk,aSD y,aSD x] (oWk s n R g) (ci (yr s g y x.t).1) (oWk' (yr s g y x.t).2.1 n R (yr s g y x.t).2.2))):
  AC tB 75 [aWk,.agg [qi p.1.k,qf<|.str p.1.s,qi p.1.n,qf<|.sl false 4<|FTs p.1.l,qi p.2.k,qf<|.str p.2.s,qi p.2.n,qf<|.sl false 4<|FTs p.2.l]] (oWk s n R f) (ci (y8 s f p).1.1) (oPa n R<|y8 s f p):=by
 unfold y8;generalize yp s f p.1=zx at*;obtain⟨⟨x,e1⟩,g1⟩:=zx;dsimp only at hX hY hG ⊢;generalize yp s g1 p.2=zy at*;obtain⟨⟨y,e2⟩,g⟩:=zy;dsimp only at hX hY hG ⊢;obtain⟨⟨ak,a2,an,al⟩,⟨bk,bs,bn,bl⟩⟩:=p;refine acv (v75 ak a2 an (FTs al) bk bs bn (FTs bl) ..) ?_;refine⟨(x.t,x.h,x.a,e1,n,g1),hX,zu (λh=>?_) λh=>?_⟩
 .have h:e1≠0:=by have h:(e1 !=0)=true:=h;exact zp h
  rw[tG h];exact rrl
 have h:e1=0:=by have h:(e1 !=0)=false:=h;exact zp h
 subst h;rw[tD zb];refine⟨(y.t,y.h,y.a,e2,n,g),hY rfl,zu (λh=>?_) λh=>?_⟩
 .have h:e2≠0:=by have h:(e2 !=0)=true:=h;exact zp h
  rw[tG h];exact rrl
 have h:e2=0:=by have h:(e2 !=0)=false:=h;exact zp h
 subst h;rw[tD zb];obtain⟨bx,by_,hxz,hxl,pr,fx,fy⟩:=hG x y g rfl rfl;clear hX hY hG;have hs:=tx x.h hxz y.h;have ux:=aF x;have uy:=aF y;have push1:=oJ s n R g [vM x.t] [vM y.t] rfl hn (by simp only[tC,tR];omega);have q4:∀t:Tm,aL [t]=.c (qf<|.sl false 4 [FT4 t]):=λt=>by rw[wN];rfl
 rw[q4,q4] at push1;have body:j8 s g x y=((0,s,g),[(vM x.t,vM y.t)])->TV.Le (.c<|qi 0) (ci (j8 s g x y).1.1)/\oWk' s (n+ [vM x.t].length) (stk R n ([vM x.t].zip [vM y.t]).reverse) g=oPa n R (j8 s g x y):=λe=>by rw[e];exact rrl
 refine zu (λh5=>?_) λh5=>zu (λh6=>?_) λh6=>?_
 .have h5:x.t.k=5:=ES h5;exact⟨_,bx,_,by_,⟨rfl,tJ _⟩,⟨rfl,tJ _⟩,(s,n+1,stk R n [(vM x.t,vM y.t)],g),push1,body<|by unfold j8;rw[tG<|.inl h5]⟩
 .have h6:y.t.k=5:=ES h6;exact⟨_,bx,_,by_,⟨rfl,tJ _⟩,⟨rfl,tJ _⟩,(s,n+1,stk R n [(vM x.t,vM y.t)],g),push1,body<|by unfold j8;rw[tG<|.inr h6]⟩
 have h5:¬x.t.k=5:=by have h5:(x.t.k==5)=false:=h5;exact zp h5
 have h6:¬y.t.k=5:=by have h6:(y.t.k==5)=false:=h6;exact zp h6
 have e0:j8 s g x y=if x.h.k=4/\y.h.k=4/\x.h.n=y.h.n then(yR s g x y,[]) else if x.h.k=4 then(yr s g x y.t,[]) else if y.h.k=4 then(yr s g y x.t,[]) else if xg x.h y.h=false\/x.a.length≠y.a.length then((170,s,g),[]) else((0,s,g),x.a.zip y.a):=by unfold j8;rw[tD<|by simp[h5,h6]]
 clear body push1;have one:∀z:Int×Sto×Int,j8 s g x y=(z,[])->TV.Le (ci z.1) (ci (j8 s g x y).1.1)/\oWk' z.2.1 n R z.2.2=oPa n R (j8 s g x y):=λz e=>by rw[e];exact rrl
 refine⟨_,ux,zu (λhx=>?_) λhx=>?_⟩
 .have hx4:x.h.k=4:=ES hx;have flex:¬(y.h.k=4/\x.h.n=y.h.n)->j8 s g x y=(yr s g x y.t,[]):=λq=>by rw[e0,tD λr=>q r.2,tG hx4]
  refine⟨_,uy,zu (λhy=>zu (λhN=>?_) λhN=>?_) λhy=>?_⟩
  .have hy4:y.h.k=4:=ES hy;have hN:x.h.n=y.h.n:=ES hN;exact⟨((yR s g x y).1,(yR s g x y).2.1,n,R,(yR s g x y).2.2),pr ⟨hx4,hy4,hN⟩,one (yR s g x y)<|by rw[e0,tG ⟨hx4,hy4,hN⟩]⟩
  .have hN:¬x.h.n=y.h.n:=by have hN:(x.h.n==y.h.n)=false:=hN;exact zp hN
   exact⟨_,ux,zu (λ_=>⟨((yr s g x y.t).1,(yr s g x y.t).2.1,n,R,(yr s g x y.t).2.2),fx (λq=>q.elim h5 h6) (λq=>hN q.2.2) hx4,one (yr s g x y.t)<|flex λq=>hN q.2⟩) λq=>absurd (hx.symm.trans q) zb⟩
  .have hy4:¬y.h.k=4:=by have hy:(y.h.k==4)=false:=hy;exact zp hy
   exact⟨_,ux,zu (λ_=>⟨((yr s g x y.t).1,(yr s g x y.t).2.1,n,R,(yr s g x y.t).2.2),fx (λq=>q.elim h5 h6) (λq=>hy4 q.2.1) hx4,one (yr s g x y.t)<|flex λq=>hy4 q.1⟩) λq=>absurd (hx.symm.trans q) zb⟩
 .have hx4:¬x.h.k=4:=by have hx:(x.h.k==4)=false:=hx;exact zp hx
  refine⟨_,ux,zu (λq=>absurd (hx.symm.trans q) zb) λ_=>⟨_,uy,zu (λhy=>?_) λhy=>⟨_,hs,zu (λhq=>?_) λhq=>⟨rfl,rfl,?_⟩⟩⟩⟩
  .have hy4:y.h.k=4:=ES hy;exact⟨((yr s g y x.t).1,(yr s g y x.t).2.1,n,R,(yr s g y x.t).2.2),fy (λq=>q.elim h5 h6) (λq=>hx4 q.1) hy4,one (yr s g y x.t)<|by rw[e0,tD λq=>hx4 q.1,tD hx4,tG hy4]⟩
  .have hy4:¬y.h.k=4:=by have hy:(y.h.k==4)=false:=hy;exact zp hy
   have hq:xg x.h y.h=false:=by have hq:(!xg x.h y.h)=true:=hq;exact zp hq
   exact one (170,s,g) (by rw[e0,tD λq=>hx4 q.1,tD hx4,tD hy4,tG<|.inl hq])
  .have hy4:¬y.h.k=4:=by have hy:(y.h.k==4)=false:=hy;exact zp hy
   have hq:xg x.h y.h=true:=by have hq:(!xg x.h y.h)=false:=hq;exact zp hq
   rw[zq,zq];refine zu (λhl=>?_) λhl=>?_
   .have hl:x.a.length≠y.a.length:=by have hl:((x.a.length:Int) !=(y.a.length:Int))=true:=hl;intro q;rw[q] at hl;simp at hl
    exact one (170,s,g) (by rw[e0,tD λq=>hx4 q.1,tD hx4,tD hy4,tG<|.inr hl])
   .have hl:x.a.length=y.a.length:=by have hl:((x.a.length:Int) !=(y.a.length:Int))=false:=hl;have:(x.a.length:Int)=(y.a.length:Int):=zp hl;omega
    have e1:j8 s g x y=((0,s,g),x.a.zip y.a):=by rw[e0,tD λq=>hx4 q.1,tD hx4,tD hy4,tD<|by simp[hq,hl]]
    refine⟨(s,n+x.a.length,stk R n (x.a.zip y.a).reverse,g),oJ s n R g x.a y.a hl hn za,?_⟩;rw[e1];refine⟨.refl _,?_⟩;show _=oWk' s (n+(x.a.zip y.a).length) (stk R n (x.a.zip y.a).reverse) g;rw[show(x.a.zip y.a).length=x.a.length by simp[hl]]
def runW:Nat->Sto->Int->List (Tm×Tm)->Int×Sto×Int
 |_,s,f,[]=>(0,s,f)
 |0,s,f,_::_=>(80,s,f)
 |F+1,s,f,p::st=>
  if f<=0 then(80,s,f) else if (y8 s (f-1) p).1.1≠0 then(y8 s (f-1) p).1 else runW F (y8 s (f-1) p).1.2.1 (y8 s (f-1) p).1.2.2<|(y8 s (f-1) p).2++st
abbrev ruS (s:Sto)(n:Nat)(R:List<|List FV)(f:Int):St:=
 ⟨[(0,aWk)],[(0,.arr 3 [[.a<|.ep 1 2 0 0,.a<|.osl 7 8 0 n,qi f]]),(1,sto2 5 6 s),(2,.gone),(3,.gone),(4,.gone),(5,.arz 6<|SR s.V),(6,.arz 1<|IR s.T),(7,.arz 8 R)],8⟩
theorem take_top {R A:List (List FV)}{x:List FV}{m:Nat}(b:A.length=m)(h:R.take (m+1)=A++[x]):getD R m []=x/\R.take m=A/\m<R.length:=by
 have d:(R.take<|m+1).length=m+1:=by rw[h];simp[b]
 have e:m<R.length:=by rw[AH] at d;omega
 refine⟨?_,?_,e⟩
 .have:(R.take<|m+1)[m]?=some x:=by rw[h,<-b];simp
  rw[List.getElem?_take_of_lt za] at this;simp[getD,this]
 .have:(R.take<|m+1).take m=A:=by rw[h,<-b];simp
  rw[List.take_take,EE za] at this;exact this
abbrev aPr (p:Tm×Tm):TV:=.agg [qi p.1.k,qf<|.str p.1.s,qi p.1.n,qf<|.sl false 4<|FTs p.1.l,qi p.2.k,qf<|.str p.2.s,qi p.2.n,qf<|.sl false 4<|FTs p.2.l]
theorem l_urun {I:Sto->Int->List (Tm×Tm)->Prop} (hsm:∀s f st,I s f st->st.length<=500000000000/\f<=1000000000)
  (hpair:∀s f p st n R,I s f (p::st)->0<f->n<=R.length->n=st.length->AC tB 75 [aWk,aPr p] (oWk s n R<|f-1) (ci (y8 s (f-1) p).1.1) (oPa n R<|y8 s (f-1) p))
  (hnext:∀s f p st,I s f (p::st)->0<f->(y8 s (f-1) p).1.1=0->I (y8 s (f-1) p).1.2.1 (y8 s (f-1) p).1.2.2 ((y8 s (f-1) p).2++st)/\(y8 s (f-1) p).1.2.2<=f-1):
  ∀(F:Nat) (s:Sto) (f:Int) (st:List<|Tm×Tm) (R:List<|List FV),f.toNat<=F->I s f st->R.take st.length=PTs st.reverse->
  ∃n' R',RPt tB 51 5 (ci (runW F s f st).1) (oWk' (runW F s f st).2.1 n' R' (runW F s f st).2.2) 1<|ruS s st.length R f
 |F,s,f,[],R,hF,hI,hR=>by
  refine⟨0,R,?_⟩;have e:runW F s f []=(0,s,f):=by cases F<;>rfl
  rw[e];refine rpv (pm ..) ?_;exact bF zb rrl
 |F,s,f,p::st,R,hF,hI,hR=>by
  have hs:=hsm s f _ hI;simp only[tC] at hs;rw[EV,kS] at hR;obtain⟨t1,t2,t3⟩:=take_top (m:=st.length) (A:=PTs st.reverse) (x:=FPr p) (by simp[ub]) hR;have ew:wrap .i64 ((((p::st).length:Nat):Int)-1)=(st.length:Int):=by rw[tC,w64 za za];omega
  have ep:getD R (0+(st.length:Int).toNat) []=FPr p:=by rw[hJ,A4];exact t1
  by_cases hf:f<=0
  .have e:runW F s f (p::st)=(80,s,f):=by
    cases F with
    |zero=>rfl
    |succ F=>rw[runW,tG hf]
   refine⟨st.length,R,?_⟩;rw[e];obtain⟨⟨ak,a2,an,al⟩,⟨bk,bs,bn,bl⟩⟩:=p;refine rpv (pm ..) ?_;rw[ew,ep];refine zu (λ_=>⟨⟨za,by simp only[tC];omega⟩,⟨by rw[hJ];omega,rfl,rfl⟩,⟨tU _,za,by simp only[tC];omega⟩,zu (λ_=>⟨.refl _,by rw[hJ]⟩) λh=>absurd (tP h) za⟩) (λh=>absurd (tP h)<|by simp only[tC];omega)
  .cases F with
   |zero=>omega
   |succ F=>
    have hp:=hpair s f p st st.length R hI za za rfl;have hn:=hnext s f p st hI za;have e:runW (F+1) s f (p::st)=if (y8 s (f-1) p).1.1≠0 then(y8 s (f-1) p).1 else runW F (y8 s (f-1) p).1.2.1 (y8 s (f-1) p).1.2.2 ((y8 s (f-1) p).2++st):=by rw[runW,tD hf]
    have next:(y8 s (f-1) p).1.1=0->∃n' R',RPt tB 51 5 (ci (runW F (y8 s (f-1) p).1.2.1 (y8 s (f-1) p).1.2.2<|(y8 s (f-1) p).2++st).1) (oWk' (runW F (y8 s (f-1) p).1.2.1 (y8 s (f-1) p).1.2.2<|(y8 s (f-1) p).2++st).2.1 n' R' (runW F (y8 s (f-1) p).1.2.1 (y8 s (f-1) p).1.2.2<|(y8 s (f-1) p).2++st).2.2) 1
      (ruS (y8 s (f-1) p).1.2.1 (st.length+(y8 s (f-1) p).2.length) (stk R st.length (y8 s (f-1) p).2.reverse) (y8 s (f-1) p).1.2.2):=λh0=>by
     have hn:=hn h0;have hd:=cK (n:=st.length) (R:=R) za (y8 s (f-1) p).2.reverse;rw[List.length_reverse,t2] at hd;have:=l_urun hsm hpair hnext F (y8 s (f-1) p).1.2.1 (y8 s (f-1) p).1.2.2 ((y8 s (f-1) p).2++st) (stk R st.length (y8 s (f-1) p).2.reverse) za hn.1 (by rw[tE,EO,hd.2,List.reverse_append,kS]);rw[tE,EO] at this;exact this
    rw[e];clear e hn;generalize y8 s (f-1) p=q at*;obtain⟨⟨qe,qs,qf⟩,qp⟩:=q;dsimp only at next ⊢;by_cases h0:qe=0
    .rw[tD<|by simp[h0]];obtain⟨n',R',hr⟩:=next h0;refine⟨n',R',?_⟩;obtain⟨⟨ak,a2,an,al⟩,⟨bk,bs,bn,bl⟩⟩:=p;refine rpv (pm ..) ?_;rw[ew,ep,w64 (x:=f-1) za za,hJ];refine zu (λ_=>⟨⟨za,by simp only[tC];omega⟩,⟨za,rfl,rfl⟩,⟨tU _,za,by simp only[tC];omega⟩,bF za ⟨(qe,qs,st.length+qp.length,stk R st.length qp.reverse,qf),hp,zu (λh=>absurd h0 (by have h:(qe !=0)=true:=h;exact zp h)) λ_=>hr⟩⟩) (λh=>absurd (tP h)<|by simp only[tC];omega)
    .rw[tG h0];refine⟨st.length+qp.length,stk R st.length qp.reverse,?_⟩;obtain⟨⟨ak,a2,an,al⟩,⟨bk,bs,bn,bl⟩⟩:=p;refine rpv (pm ..) ?_;rw[ew,ep,w64 (x:=f-1) za za,hJ];refine zu (λ_=>⟨⟨za,by simp only[tC];omega⟩,⟨za,rfl,rfl⟩,⟨tU _,za,by simp only[tC];omega⟩,bF za ⟨(qe,qs,st.length+qp.length,stk R st.length qp.reverse,qf),hp,zu (λ_=>rrl) λh=>absurd (by have h:(qe !=0)=false:=h;exact zp h) h0⟩⟩) (λh=>absurd (tP h)<|by simp only[tC];omega)
def badP (p:Tm×Tm):Bool:= !validB p.1 || !validB p.2
theorem c_uall1 (p:Tm×Tm)(h1:p.1.sz<=B)(h2:p.2.sz<=B):AC tB 48 [aPr p] [] (cb<|badP p) []:=by
 have v1:=yz p.1 h1;have v2:=yz p.2 h2;unfold badP;obtain⟨a,b⟩:=p;dsimp only at v1 v2 ⊢;generalize validB a=x at*;generalize validB b=y at*;obtain⟨ak,a2,an,al⟩:=a;obtain⟨bk,bs,bn,bl⟩:=b;refine acv (v48 ak a2 an (FTs al) bk bs bn (FTs bl) ..) ?_;refine⟨_,v1,zu (λh=>?_) λh=>⟨_,v2,?_⟩⟩
 .have h:(!x)=true:=h;rw[h];exact zD rfl
 .have h:(!x)=false:=h;rw[h,Ec];exact zD rfl
def ixP (q:Tm×Tm->Bool):List (Tm×Tm)->Nat->Int
 |[],_=> -1
 |t::l,i=>if q t=true then(i:Int) else ixP q l<|i+1
theorem lR (q:Tm×Tm->Bool):∀(l:List<|Tm×Tm) (i:Nat),decide (ixP q l i>=0)=l.any q
 |[],_=>rfl
 |t::l,i=>by
  rw[ixP,E3];split;next h=>rw[h];simp
  next h=>rw[lR q l,show q t=false by simpa using h,Ec]
theorem PTs_mid (a:List<|Tm×Tm)(t:Tm×Tm)(b:List<|Tm×Tm):getD (PTs<|a++t::b) (toNat (a.length:Int)) []=FPr t:=by rw[hJ];simp[PTs,getD]
theorem l_idxp (b:List<|Tm×Tm):∀a:List<|Tm×Tm,(a++b).length<=B->(∀p∈b,p.1.sz<=B/\p.2.sz<=B)->RPt tB 73 0 (ci<|ixP badP b a.length) [] 1 ⟨[(0,.c<|qf<|.sl false 8<|PTs<|a++b),(1,.c<|.fn (.func 48) [] []),(7,ci ((a++b).length:Int)),(8,ci (a.length:Int))],[],0⟩:=by
 induction b with
 |nil=>intro a hs _;refine rpv (W3 ..) ?_;exact bF zb<|yF rfl
 |cons t b ihb=>
  intro a hs hz;have h2:=ihb (a++[t]) (zp hs) λp hp=>hz p<|tK _ hp;have hl:(a++t::b).length=a.length+(b.length+1):=zb;rw[AB,List.singleton_append,show(a++[t]).length=a.length+1 by simp] at h2;simp only[B] at hs;have h1:=c_uall1 t (hz t tM).1 (hz t tM).2;have hm:=PTs_mid a t b;have ei:ixP badP (t::b) a.length=if badP t=true then(a.length:Int) else ixP badP b (a.length+1):=rfl
  rw[ei];generalize badP t=bp at*;obtain⟨⟨ak,a2,an,al⟩,⟨bk,bs,bn,bl⟩⟩:=t;refine rpv (W3 ..) ?_;rw[hm,ub,w64 (x:=(a.length:Int)+1) za za];refine zu (λ_=>⟨⟨rfl,za,za,rfl⟩,bp,h1,zu (λh=>?_) λh=>?_⟩) (λh=>absurd (tP h) za)
  .rw[tG h];exact yF rfl
  .rw[tD<|by rw[h];simp];exact h2
theorem c_anyp (l:List<|Tm×Tm)(hl:l.length<=B)(hz:∀p∈l,p.1.sz<=B/\p.2.sz<=B):AC tB 47 [.c<|qf<|.sl false 8<|PTs l,.c<|.fn (.func 48) [] []] [] (cb<|l.any badP) []:=by
 have hi:AC tB 73 [.c<|qf<|.sl false 8<|PTs l,.c<|.fn (.func 48) [] []] [] (ci<|ixP badP l 0) []:=by have:=l_idxp l [] hl hz;refine acv (v73_F48 ..) ?_;rw[ub];exact⟨rfl,this⟩
 refine acv (v47_F48 ..) ?_;exact⟨_,hi,zD<|lR badP l 0⟩
abbrev aE2 (z:Int×Int):TV:=.tup [(false,[qi z.1]),(false,[qi z.2])]
def allF (s:Sto)(l:List<|Tm×Tm)(f:Int):(Int×Int)×Sto:=
 if l.any badP=true then((0,1),s) else if (runW f.toNat s f l).1≠0 then((0,(runW f.toNat s f l).1),ZM (runW f.toNat s f l).2.1 s.T.length s.V.length) else(((runW f.toNat s f l).2.2,0),(runW f.toNat s f l).2.1)
abbrev alH (s:Sto)(f:Int)(l:List<|Tm×Tm)(i:Nat):AHeap:=
 [(0,sto2 10 11 s),(1,.gone),(2,.gone),(3,.gone),(4,.gone),(5,.arr 2 [[qi (s.T.length:Int),qi (s.V.length:Int)]]),(6,.arr 1 [[.a<|.ep 7 3 0 0]]),(7,.arr 3 [[.a<|.ep 0 2 0 0,.a<|.osl 12 8 0<|l.length-i,qi f]]),(8,.gone),(9,.arr 1 [[qf<|.sl false 8<|PTs l]]),(10,.arz 6<|SR s.V),(11,.arz 1<|IR s.T),(12,.arz 8<|PTs (l.drop i).reverse)]
theorem c_uall (s:Sto) (l:List<|Tm×Tm) (f:Int) (hl:l.length<=1000000000) (hz:∀p∈l,p.1.sz<=B/\p.2.sz<=B)
  (hrun:l.any badP=false->∃n' R',AC tB 51 [aWk] (oWk s l.length (PTs l.reverse) f) (ci (runW f.toNat s f l).1)<|oWk' (runW f.toNat s f l).2.1 n' R' (runW f.toNat s f l).2.2)
  (hundo:l.any badP=false->(runW f.toNat s f l).1≠0->AC tB 52 [aS 0,.agg [qi (s.T.length:Int),qi (s.V.length:Int)]] (oS (runW f.toNat s f l).2.1) (.tup []) (oS'<|ZM (runW f.toNat s f l).2.1 s.T.length s.V.length)):
  AC tB 30 [aS 0,.c<|qf<|.sl false 8<|PTs l,ci f] (oS s) (aE2 (allF s l f).1) (oS' (allF s l f).2):=by
 have hany:=c_anyp l (by simp only[B];omega) hz;have hm:=c_smark s;refine acv (v30 (PTs l) f ..) ?_;refine⟨_,hany,zu (λh=>?_) λh=>?_⟩
 .have e:allF s l f=((0,1),s):=by unfold allF;rw[tG h]
  rw[e];exact rrl
 have ea:allF s l f=if (runW f.toNat s f l).1≠0 then((0,(runW f.toNat s f l).1),ZM (runW f.toNat s f l).2.1 s.T.length s.V.length) else(((runW f.toNat s f l).2.2,0),(runW f.toNat s f l).2.1):=by unfold allF;rw[tD<|by rw[h];simp]
 obtain⟨n',R',hr⟩:=hrun h;have hundo:=hundo h;refine⟨(s.T.length:Int),(s.V.length:Int),hm,PTs l,c_backP<|PTs l,?_⟩
 refine RPt.backF (sh:=sh) (lv:=lv30) (α:=Nat) (Inv:=λi=>i<=l.length) (idx:=λi=>i) (nx:=λ_=>13) (m0:=10) (U:=[3,4,8]) (live:=[0,8,9,22]) (oc:=9) (n:=8) (es:=PTs l) (x0:=l.length) (g:=.tmp 22) (env:=[(0,aS 0),(8,.c<|.a<|.ep 5 2 0 0),(9,.c<|.a<|.ep 6 1 0 0),(22,fnB 74 9)])
  (H:=λi=>alH s f l i) hP zg isBkP bTyP ?_ zg zg zg zg (λ_ _=>za) (λi _=>rfl) (λe he=>?_) (by rw[ub];omega) (λi hi=>by rw[ub];exact hi) (λi k hi hik hk=>?_) (tJ _) (by rw[ub]) λi hi h0=>?_
 .refine Eq.mpr (v30_1an ..) ?_;unfold alH;rw[Nat.sub_self,List.drop_length];rfl
 .obtain⟨t,_,rfl⟩:=Ay.1 he;exact FPr_len t
 .have hik:i=k+1:=hik;have hi:i<=l.length:=hi;subst hik;have hkl:k<l.length:=za;have ef:getD (PTs l) k []=FPr l[k]:=by simp[PTs,getD,hkl]
  have edz:l.drop k=l[k]::l.drop (k+1):=Em hkl;have estk:PTs (l.drop k).reverse=PTs (l.drop<|k+1).reverse++[FPr l[k]]:=by rw[edz,EV,kS];rfl
  have hlen:(PTs (l.drop<|k+1).reverse).length=l.length-(k+1):=by simp[ub]
  rw[ef];generalize l[k]=p at*;obtain⟨⟨ak,a2,an,al⟩,⟨bk,bs,bn,bl⟩⟩:=p;refine Eq.mpr (v30_1ara ..) ?_;refine⟨tJ _,⟨za,by unfold zI;omega⟩,k,⟨(by omega:k<=l.length),rfl⟩,?_,rfl⟩;unfold alH;rw[estk,(za:l.length-k=l.length-(k+1)+1),tN za];rfl
 .have h0:i=0:=h0;subst h0;rw[ea];clear ea hany hm;unfold alH;rw[ET,A3];generalize runW f.toNat s f l=w at*;obtain⟨we,ws,wf⟩:=w;dsimp only at hundo hr ⊢;refine Eq.mpr (v30_1aza ..) ?_;refine⟨(we,ws,n',R',wf),hr,zu (λq=>?_) λq=>?_⟩
  .have q:we≠0:=by have q:(we !=0)=true:=q;exact zp q
   rw[tG q];exact⟨_,hundo q,.refl _,rfl⟩
  .have q:we=0:=by have q:(we !=0)=false:=q;exact zp q
   rw[tD<|by simp[q]];exact rrl
mutual
theorem loose_ge:∀(t:Tm) (k acc:Int),acc<=xf t k acc
 |.mk kd _ n l,k,acc=>by
  rw[xf];split
  .exact jJ l (k+1) acc
  .split
   .exact jJ l k acc
   .split
    .unfold maxI;split<;>omega
    .exact tU _
theorem jJ:∀(l:List Tm) (k acc:Int),acc<=uu l k acc
 |[],_,_=>tU _
 |t::l,k,acc=>by rw[uu];have h1:=loose_ge t k acc;have h2:=jJ l k<|xf t k acc;omega
end
mutual
theorem bW (M:Int):∀(t:Tm) (k acc:Int),validB t=true->0<=k->k+(t.sz:Int)<=M->xf t k acc<=0->bd M t
 |.mk kd s n l,k,acc,hv,hk,hM,h=>by
  have hok:=zB _ hv;simp only[Tm.sz] at hM;by_cases h5:kd=5
  .have hkid:=zX hv<|.inl h5;subst h5;rw[xf,tG zc] at h;exact⟨λq=>za,qY M l (k+1) acc hkid za za h⟩
  .by_cases h6:kd=6
   .have hkid:=zX hv<|.inr h6;subst h6;rw[xf,tD zc,tG zc] at h;exact⟨λq=>za,qY M l k acc hkid hk za h⟩
   .have hl:=okB0 hok h5 h6;subst hl;refine⟨λq=>?_,trivial⟩;subst q;rw[xf,tD zc,tD zc,tG zc] at h;have hn:0<=n:=by rw[validB,tD zc,tD zc,tD zc,tG zc] at hv;simp only[tF,Ak] at hv;exact hv.1.1.1.1
    have:n-k+1<=0:=by unfold maxI at h;split at h<;>omega
    omega
theorem qY (M:Int):∀(l:List Tm) (k acc:Int),(∀u∈l,validB u=true)->0<=k->k+(Tm.szs l:Int)<=M->uu l k acc<=0->bds M l
 |[],_,_,_,_,_,_=>trivial
 |t::l,k,acc,hv,hk,hM,h=>by rw[uu] at h;have h1:=jJ l k<|xf t k acc;simp only[Tm.szs] at hM;exact⟨bW M t k acc (hv t tM) hk za za,qY M l k _ (λu hu=>hv u<|tK _ hu) hk za h⟩
end
theorem OKS.bindL {s:Sto}{x:Int}{t:Tm}(h:OKS s)(e:t.sz<=40000):OKS (bindS s x t):=by
 by_cases q:uz s x t=true
 .have b:=q;simp only[uz,tF,Ak] at b;have d:bd 2199023255552 t:=bW _ t 0 0 b.2.2.1 (tU _) za b.2.2.2;exact OKS.bindA h e d
 .rw[(kB<|zp q).1];exact h
theorem kQ (q:IS){e:Int}(h:e≠0):(w5 q e).e≠0:=by
 unfold w5;split
 .exact h
 next h=>exact h
theorem aJ {lv:Int}{L:List Tm}{t:Tm}{k:Int}(h:t.sz=1):(imgT lv L t k).1.sz=1:=by
 unfold imgT;split
 .exact h
 .split
  .rfl
  .exact h
theorem cG (lv:Int)(L:List Tm)(k:Int)(m:Nat):∀(l:List Tm) (i:Nat) (a:List Tm×List Tm),(∀t∈l,t.sz=1)->(∀t∈a.2,t.sz=1)->∀t∈(imgs lv L k m l i a).2,t.sz=1
 |[],_,_,_,h=>h
 |t::l,i,a,b,h=>by
  rw[imgs];refine cG lv L k m l (i+1) _ (λu hu=>b u<|tK _ hu) ?_;split
  .intro u hu;rcases A0.1 hu with hu|hu
   .exact h u hu
   .rw[AO.1 hu];exact aJ<|b t tM
  .exact h
theorem gL (c:Bool)(b k:Int)(n:Nat):∀(l:List Tm) (i:Nat) (a:List Tm×List Tm),(∀t∈a.2,t.sz=1)->∀t∈(j6 c b k n l i a).2,t.sz=1
 |[],_,_,h=>h
 |t::l,i,a,h=>by
  rw[j6];refine gL c b k n l (i+1) _ ?_;split
  .intro u hu;rcases A0.1 hu with hu|hu
   .exact h u hu
   .rw[AO.1 hu];rfl
  .exact h
theorem flexG_sz {lv:Int}{L:List Tm}{q:IS}{y k:Int}{ls:List Tm}{f:Int}(h:∀t∈ls,t.sz=1):(ZN lv L q y k ls f).1.sz<=2+ls.length+L.length:=by
 have e:=cG lv L k ls.length ls 0 ([],[]) h λt h=>nomatch h;have d:=jS lv L k ls.length ls 0 ([],[]) rfl;have g:=gL (decide ((zL q.s.V y).lv>lv)) (zL q.s.V y).lv k L.length L 0 _ e;have i:=uN (decide ((zL q.s.V y).lv>lv)) (zL q.s.V y).lv k L.length L 0 (imgs lv L k ls.length ls 0 ([],[])) d.1;simp only[tR,A4] at d;unfold ZN;split
 .have a:=xS (.mk 4 [] y []) (imgs lv L k ls.length ls 0 ([],[])).2;have b:=JI e;have c:(Tm.mk 4 [] y []).sz=1:=rfl;simp only;omega
 .have a:=xS (.mk 4 [] (q.s.V.length:Int) []) (onF lv (zL q.s.V y).lv L k ls).2;have b:=JI g;have c:(Tm.mk 4 [] (q.s.V.length:Int) []).sz=1:=rfl;simp only;unfold onF at a ⊢;omega
section
variable {C:Nat} (hC:C<=1073741824) {L:List Tm} (hL:LP L) (hL1:L.length<=157) (x lv:Int)
include hC hL hL1
omit hC hL hL1 in
theorem oX {tm:IS->Tm->Tm×IS} {f0:Int} (g:∀q t,GI C q->0<=q.f->q.f<=f0->(q.e=0->validB t=true->Fit q.f.toNat t)->GI C (tm q t).2/\(tm q t).2.f<=q.f/\0<=(tm q t).2.f)
  (d:∀q t,GI C q->0<=q.f->q.f<=f0->(q.e=0->validB t=true->Fit q.f.toNat t)->(tm q t).2.e=0->q.e=0/\((tm q t).1.sz:Int)+160*(tm q t).2.f<=160*q.f):
  ∀(l:List Tm) (q:IS),GI C q->0<=q.f->q.f<=f0->(∀t∈l,validB t=true->Fit q.f.toNat t)->(xW tm l q).2.e=0->q.e=0/\(Tm.szs (xW tm l q).1:Int)+160*(xW tm l q).2.f<=160*q.f
 |[],q,h,i,_,_,j=>⟨j,by simp only[xW,Tm.szs];omega⟩
 |t::l,q,h,i,o,m,j=>by have a:=g q t h i o λ_=>m t tM;have b:=oX g d l (tm q t).2 a.1 a.2.2 za (λu r p=>(m u (tK _ r) p).mono za) j;have c:=d q t h i o (λ_=>m t tM) b.1;refine⟨c.1,?_⟩;simp only[xW,Tm.szs];have:=b.2;have:=c.2;omega
theorem iF:∀(D:Nat) (q:IS) (t:Tm) (k:Int),GI C q->0<=q.f->(q.e=0->validB t=true->Fit q.f.toNat t)->(yw x lv L D q t k).2.e=0->q.e=0/\((yw x lv L D q t k).1.sz:Int)+160*(yw x lv L D q t k).2.f<=160*q.f
 |0,q,t,k,h,h0,_,i=>by
  rw[yw] at i;split at i;next G=>exact absurd i G
  .exact absurd i<|kQ _ zc
 |D+1,q,t,k,h,h0,hf,i=>by
  rw[yw] at i ⊢;split at i;next G=>exact absurd i G
  rename_i G;rw[tD G];have e0:q.e=0:=zp G;refine⟨e0,?_⟩;split at i
  .exact absurd i<|kQ _ zc
  rename_i Y;rw[tD Y];have hV:=h.V;have hT:=h.T;have H:validB t=true->Fit (q.f-1).toNat t:=λF=>(hf e0 F).mono za;unfold lq at i ⊢;split at i;next O=>exact absurd i<|kQ _ O
  rename_i O;rw[tD O];have ok:=kG h.ok za H (zp O);generalize zZ q.s (q.f-1) t=z at*;obtain⟨j,p,z3⟩:=z;simp only at ok i ⊢;obtain⟨F,X,m,hz1⟩:=ok;have K:=Ya F X;have g:GI C ⟨q.s,p,q.e⟩:=h.less m za;have ih:=λE A U=>iF D E A U;have gi:=λE A U=>Xg hC hL x lv D E A U;unfold uX at i ⊢;split at i
  .rename_i J;rw[tG J];have hne:(zr j).1.l≠[]:=λe=>by have o:=zB _ K.1.1;generalize (zr j).1=w at*;obtain⟨wk,ws,wn,wl⟩:=w;obtain⟨u,hu,_⟩:=okB5 o J;rw[hu] at e;cases e
   have hm:hd (zr j).1.l∈(zr j).1.l:=by
    cases hl:(zr j).1.l with
    |nil=>exact absurd hl hne
    |cons a b=>exact tM
   have:=ih ⟨q.s,p,q.e⟩ (hd (zr j).1.l) (k+1) g m (λ_ F=>(K.2.2.2 _ hm).2 F) i;simp only at this ⊢;rw[ZS];have:=this.2;omega
  rename_i J;rw[tD J];split at i
  .rename_i S;rw[tG S];split at i
   .exact absurd i<|kQ _ zc
   rename_i hx;rw[tD hx];have ha:=jK g.ok (zr j).1.n (zr j).2 p λt M=>(K.2.1 t M).2;unfold wm at i ⊢;split at i;next N=>exact absurd i<|kQ _ N
   rename_i N;rw[tD N];have W:=ha.2.1 m (zp N);have:=flexG_sz (lv:=lv) (L:=L) (q:=⟨q.s,p,q.e⟩) (y:=(zr j).1.n) (k:=k) (f:=(yJ q.s (zr j).1.n (zr j).2 p).2.1) λt M=>(ha.1 t M).1;rw[dw];simp only at this W ⊢;omega
  rename_i S;rw[tD S];unfold fh at i ⊢;split at i
  .exact absurd i<|kQ _ zc
  rename_i hi;rw[tD hi];have I:(zr j).1.k≠6:=by
   unfold zr;split;next I=>obtain⟨zk,zs,zn,zl⟩:=j;obtain⟨a,b,r,rfl,Z,_⟩:=okB6 (zB _ F) I.1;exact Z
   next I=>exact λq=>I ⟨q,F⟩
  have v:(zr j).1.sz=1:=by have o:=zB _ K.1.1;generalize (zr j).1=w at*;obtain⟨wk,ws,wn,wl⟩:=w;have:=okB0 o J I;subst this;rfl
  have kk:=oX (tm:=λq t=>yw x lv L D q t k) (f0:=p) (λE A a b _ d=>gi E A k a b d) (λE A a b _ d e=>ih E A k a b d e) (zr j).2 ⟨q.s,p,q.e⟩ g m (tU _) (λt M=>(K.2.1 t M).2) i;have hh:(if (zr j).1.k=3\/(zr j).1.k=1 then(imgT lv L (zr j).1 k).1 else(zr j).1).sz=1:=by
   split
   .exact aJ v
   .exact v
  have ap:=xS (if (zr j).1.k=3\/(zr j).1.k=1 then(imgT lv L (zr j).1 k).1 else(zr j).1) (xW (λq t=>yw x lv L D q t k) (zr j).2 ⟨q.s,p,q.e⟩).1;have k2:=kk.2;simp only at k2 ap ⊢;omega
end
section
variable {p:Int->Bool}
theorem hd_mem {l:List Tm}(h:l≠[]):hd l∈l:=by
 cases l with
 |nil=>exact absurd rfl h
 |cons a b=>exact tM
end
inductive Chg (s0:Sto):Sto->Prop
 |refl:Chg s0 s0
 |fresh {s:Sto} (lv:Int):Chg s0 s->Chg s0 (freshS s lv)
 |bind {s:Sto} (x:Int) (t:Tm):Chg s0 s->Chg s0 (bindS s x t)
theorem Chg.hang {s0 s:Sto}(h:Chg s0 s)(y lv:Int)(m:Nat)(on:List Tm):Chg s0 (vp s y lv m on):=(h.fresh lv).bind _ _
theorem Chg.fail {s0:Sto}{q:IS}(h:Chg s0 q.s)(e:Int):Chg s0 (w5 q e).s:=by unfold w5;split<;>exact h
theorem ny {s0:Sto}(lv:Int)(L:List Tm){q:IS}(h:Chg s0 q.s)(y:Int)(l:List Tm)(k:Int):Chg s0 (wm lv L q y l k).2.s:=by
 unfold wm;split
 .exact h.fail _
 .unfold ZN;split
  .exact h
  .exact h.hang _ _ _ _
theorem bj {s0:Sto}{tm:IS->Tm->Tm×IS}(b:∀q t,Chg s0 q.s->Chg s0 (tm q t).2.s):∀(l:List Tm) (q:IS),Chg s0 q.s->Chg s0 (xW tm l q).2.s
 |[],_,h=>h
 |t::l,q,h=>bj b l (tm q t).2<|b q t h
theorem WN {s0:Sto}(x lv:Int)(L:List Tm):∀(D:Nat) (q:IS) (t:Tm) (k:Int),Chg s0 q.s->Chg s0 (yw x lv L D q t k).2.s
 |0,q,t,k,h=>by
  rw[yw];split
  .exact h
  .exact h.fail _
 |D+1,q,t,k,h=>by
  rw[yw];split
  .exact h
  .split
   .exact h.fail _
   .unfold lq;split
    .exact h.fail _
    .generalize zZ q.s (q.f-1) t=z;obtain⟨i,b,j⟩:=z;dsimp only;unfold uX;split
     .exact WN x lv L D ⟨q.s,b,q.e⟩ _ _ h
     .split
      .split
       .exact Chg.fail (q:=⟨q.s,b,q.e⟩) h _
       .exact ny lv L (q:=⟨q.s,b,q.e⟩) h _ _ _
      .unfold fh;split
       .exact Chg.fail (q:=⟨q.s,b,q.e⟩) h _
       .exact bj (λg d a=>WN x lv L D g d k a) _ ⟨q.s,b,q.e⟩ h
theorem XR {s0 s:Sto}(h:Chg s0 s)(x:Int)(l:List Tm)(t:Tm)(f:Int):Chg s0 (zK s x l t f).2:=by
 unfold zK;split
 .exact h
 .split<;>exact WN _ _ _ _ _ _ _ h
theorem oU {s0 s:Sto}(h:Chg s0 s)(x:Int)(K:List Bool):Chg s0 (wM s x K):=by
 unfold wM;split
 .exact h.hang _ _ _ _
 .exact h
theorem ru {s0 s:Sto}(h:Chg s0 s)(f x:Int)(l:List Tm)(t:Tm):Chg s0 (ud s f x l t).2.1:=by
 unfold ud;split
 .exact XR h _ _ _ _
 .exact(XR h _ _ _ _).bind _ _
theorem KT {s0 s:Sto}(h:Chg s0 s)(f:Int)(x:SD)(t:Tm):Chg s0 (yr s f x t).2.1:=by
 unfold yr;split
 .exact h
 .exact ru h _ _ _ _
theorem lB {s0 s:Sto}(h:Chg s0 s)(f:Int)(x y:SD):Chg s0 (yR s f x y).2.1:=by
 unfold yR;split
 .exact h
 .split
  .exact h
  .split
   .exact h
   .split
    .exact h
    .exact oU h _ _
theorem bM {s0 s:Sto}(h:Chg s0 s)(f:Int)(p:Tm×Tm):Chg s0 (y8 s f p).1.2.1:=by
 unfold y8;split
 .exact h
 .split
  .exact h
  .unfold j8;split
   .exact h
   .split
    .exact lB h _ _ _
    .split
     .exact KT h _ _ _
     .split
      .exact KT h _ _ _
      .split<;>exact h
theorem oo {s0:Sto}:∀(F:Nat) (s:Sto) (f:Int) (b:List<|Tm×Tm),Chg s0 s->Chg s0 (runW F s f b).2.1
 |_,s,f,[],h=>by rw[runW];exact h
 |0,s,f,_::_,h=>by rw[runW];exact h
 |F+1,s,f,p::b,h=>by
  rw[runW];split
  .exact h
  .split
   .exact bM h _ _
   .exact oo F _ _ _<|bM h _ _
def WF (s:Sto):Prop:=∀i∈s.V,i.bd=false->i.v=noT
theorem WF.fresh {s:Sto}(h:WF s)(lv:Int):WF (freshS s lv):=λi hi b=>by
 rcases A0.1 hi with hi|hi
 .exact h i hi b
 .simp at hi;subst hi;rfl
theorem WF.bind {s:Sto}(h:WF s)(x:Int)(t:Tm):WF (bindS s x t):=λi b d=>by
 by_cases q:uz s x t=true
 .rw[(vX q).1] at b;rcases El b with b|rfl
  .exact h i b d
  .cases d
 .rw[(kB<|zp q).1] at b;exact h i b d
theorem OKT.fresh {s:Sto}(h:OKT s)(lv:Int):OKT (freshS s lv):=λx b=>by have:=h x b;rw[(mC s lv).1];omega
theorem OKT.bind {s:Sto}(h:OKT s)(x:Int)(t:Tm):OKT (bindS s x t):=λy hy=>by
 rw[vA];by_cases q:uz s x t=true
 .rw[(vX q).1] at hy;rcases A0.1 hy with hy|hy
  .exact h y hy
  .simp at hy;subst hy;exact p6 q
 .rw[(kB<|zp q).1] at hy;exact h y hy
theorem Chg.all {s0 s:Sto}(h:Chg s0 s)(w:WF s0)(t:OKT s0):WF s/\OKT s/\Ext s0 s:=by
 induction h with
 |refl=>exact⟨w,t,.refl _⟩
 |fresh lv _ ih=>exact⟨ih.1.fresh lv,ih.2.1.fresh lv,ih.2.2.fresh lv⟩
 |bind x u _ ih=>exact⟨ih.1.bind x u,ih.2.1.bind x u,ih.2.2.bind ih.1 x u⟩
theorem gt {s:Sto}(h:OKS s)(E:Nat):∀ {F:Nat} {t:Tm},validB t=true->Fit (F+E) t->(runH s F t).2.1=0->validB (runH s F t).1=true/\Fit (F-(runH s F t).2.2+E) (runH s F t).1/\(runH s F t).2.2<=F
 |0,t,d,g,b=>by
  rw[runH] at b ⊢;split
  .exact⟨d,zp g,tJ _⟩
  next q=>rw[tD q] at b;cases b
 |F+1,t,d,g,b=>by
  rw[runH] at b ⊢;split
  .exact⟨d,g,AT _⟩
  .rename_i q;rw[tD q] at b;split;next e=>rw[tG e] at b;cases b
   .rename_i e;rw[tD e] at b
    have h1:(zU s t).2=1:=by rcases WU s t with r|r|r; · exact absurd r q
                             .exact r
                             .exact absurd r e
    obtain⟨v,f⟩:=jO (F:=F+E) h d (by rw[(za:F+E+1=F+1+E)];exact g) h1;have:=gt h E v f b;refine⟨this.1,?_,by have:=this.2.2;simp only;omega⟩;have j:=this.2.1;simp only;rw[show F+1-((runH s F (zU s t).1).2.2+1)+E=F-(runH s F (zU s t).1).2.2+E by omega];exact j
theorem s9 {s:Sto}(h:OKS s)(E:Nat){f:Int}{t:Tm}(j:0<=f)(i:validB t=true->Fit (f.toNat+E) t)(b:(zZ s f t).2.2=0):validB (zZ s f t).1=true/\Fit ((zZ s f t).2.1.toNat+E) (zZ s f t).1/\0<=(zZ s f t).2.1/\(zZ s f t).2.1<=f:=by
 unfold zZ at b ⊢;split at b
 .rename_i e;rw[tG e];split at b
  .rename_i d;rw[tG d];have g:=gt h E e (i e) d;refine⟨g.1,?_,by simp only;omega,by simp only;omega⟩;have:(f-((runH s f.toNat t).2.2:Int)).toNat=f.toNat-(runH s f.toNat t).2.2:=za;simp only[this];exact g.2.1
  next d=>exact absurd b d
 .cases b
def okP (F:Nat)(t:Tm):Prop:=validB t=true/\Fit F t
theorem okP.mono {F G:Nat}{t:Tm}(h:okP F t)(b:G<=F):okP G t:=⟨h.1,h.2.mono b⟩
theorem kE {F:Nat}{z:Tm}(h:okP F z):okP F (zr z).1/\(∀t∈(zr z).2,okP F t)/\(zr z).2.length<=SZ:=by
 have d:=Ya h.1 h.2;refine⟨d.1,λt b=>?_,d.2.2.1⟩;unfold zr at b;split at b;next g=>obtain⟨k,s,n,l⟩:=z;have e:t∈l:=Eg b;have f:=zX h.1 (.inr g.1) t e;exact⟨f,h.2.kid e⟩
 .cases b
theorem bw {F:Nat}{t:Tm}(h:okP (F+1) t):okP F (vM t):=by
 have b:=h.1;unfold vM;rw[tG b];split;next d=>obtain⟨k,s,n,l⟩:=t;have d:k=5:=d;obtain⟨u,m,_⟩:=okB5 (zB _ b) d;subst m;have j:=zX b (.inl d) u tM;exact⟨j,(h.2.kid (show u∈Tm.l (.mk k s n [u]) from tM)).mono za⟩
 .have g:=ad (fr:=0) (by_:=1) 0<|zB _ b;have f:=h.2.2.2.1;have r:=h.2.2.2.2;have lv:=nS (by_:=1) (M:=M61-SZ-SZ*((F+1:Nat):Int)) (D:=0) za (by simp only[M61,SZ];omega) t 0 0 f (xM b)<|tU _;have bb:=aQ (fr:=0) (by_:=1) za t 0 f<|tU _;have sz:=jW 0 1 t 0;have az:=xS (shT 0 1 t 0) [.mk 3 [] 0 []];have e:=vk (args:=[.mk 3 [] 0 []]) g zc;have i:=vg (args:=[.mk 3 [] 0 []]) lv zc;have p:=h.2.2.1;have o:Tm.szs [.mk 3 [] 0 []]=1:=rfl;refine⟨by rw[xc,e,i];rfl,e,za,xB (yQ (by simp only[SZ];omega) _ bb) ⟨⟨λ_=>⟨?_,?_⟩,trivial⟩,trivial⟩,za⟩
  .simp only[M61,SZ];omega
  .simp only[M61,SZ];omega
theorem Xn {s:Sto}(m:OKS s){f:Int}(o:0<=f){t:Tm}(h:okP (f.toNat+1) t){x:SD}{g:Int}(e:yp s f t=((x,0),g)):0<=g/\g<=f/\okP (g.toNat+1) x.t/\x=XI x.t/\zZ s f t=(x.t,g,0):=by
 unfold yp at e;split at e;next q=>injection e with b d;injection b with b j;exact absurd j q
 .rename_i q;have q:(zZ s f t).2.2=0:=zp q;have i:=s9 m 1 o (λ_=>h.2) q;injection e with b d;injection b with b j
  subst b;refine⟨by rw[<-d];exact i.2.2.1,by rw[<-d];exact i.2.2.2,?_,rfl,?_⟩
  .rw[<-d];exact⟨i.1,i.2.1⟩
  .rw[<-d,<-q];rfl
theorem bV3_bd {n:Int}(d: -1000000<=n)(b:n<=1000000):bd M61 (bV3 n):=⟨λ_=>⟨by simp only[M61];omega,by simp only[M61];omega⟩,trivial⟩
theorem Yx:bd M61 noT:=⟨λq=>(by cases q),trivial⟩
theorem mB {lv:Int}{L:List Tm}{t:Tm}{k:Int}(h:bd M61 t)(f:L.length<=900)(b:0<=k)(d:k<=6000):bd M61 (imgT lv L t k).1:=by
 have e:=mz (λu=>lfB u<|outT t k) L 0;unfold imgT;split
 .exact h
 .split
  .exact bV3_bd za za
  .exact h
theorem oh (lv:Int)(L:List Tm)(k:Int)(m:Nat)(e:L.length<=900)(b:0<=k)(d:k<=6000):∀(l:List Tm) (i:Nat) (a:List Tm×List Tm),(∀t∈l,bd M61 t)->(∀t∈a.2,bd M61 t)->∀t∈(imgs lv L k m l i a).2,bd M61 t
 |[],_,_,_,h=>h
 |t::l,i,a,f,h=>by
  rw[imgs];refine oh lv L k m e b d l (i+1) _ (λu hu=>f u<|tK _ hu) ?_;split
  .intro u hu;rcases A0.1 hu with hu|hu
   .exact h u hu
   .rw[AO.1 hu];exact mB (f t tM) e b d
  .exact h
theorem ay (c:Bool)(b k:Int)(n:Nat)(g:n<=900)(d:0<=k)(e:k<=6000):∀(l:List Tm) (i:Nat) (a:List Tm×List Tm),i+l.length<=n->(∀t∈a.2,bd M61 t)->∀t∈(j6 c b k n l i a).2,bd M61 t
 |[],_,_,_,h=>h
 |t::l,i,a,f,h=>by
  rw[j6];simp only[tC] at f;refine ay c b k n g d e l (i+1) _ za ?_;split
  .intro u hu;rcases A0.1 hu with hu|hu
   .exact h u hu
   .rw[AO.1 hu];exact bV3_bd za za
  .exact h
theorem aN {M:Int}(n:Nat){t:Tm}(h:bd M t):bd M (j7 n t):=WS n h
section
variable {C:Nat} (hC:C<=1073741824) {L:List Tm} (hL:LP L) (x lv:Int)
include hL
theorem flexG_bd {q:IS}{y k:Int}{ls:List Tm}{f:Int}(h:∀t∈ls,bd M61 t)(b:0<=k)(d:k<=6000):bd M61 (ZN lv L q y k ls f).1:=by
 have e:=oh lv L k ls.length hL.1 b d ls 0 ([],[]) h λt h=>nomatch h;have g:=ay (decide ((zL q.s.V y).lv>lv)) (zL q.s.V y).lv k L.length hL.1 b d L 0 _ za e;unfold ZN;split
 .exact xB ⟨λq=>(by cases q),trivial⟩<|jh e
 .exact xB ⟨λq=>(by cases q),trivial⟩<|jh g
include hC
omit hC hL in
theorem mL {tm:IS->Tm->Tm×IS} {f0:Int} (b:∀q t,GI C q->0<=q.f->q.f<=f0->(q.e=0->validB t=true->Fit q.f.toNat t)->GI C (tm q t).2/\(tm q t).2.f<=q.f/\0<=(tm q t).2.f)
  (d:∀q t,GI C q->0<=q.f->q.f<=f0->(q.e=0->validB t=true->Fit q.f.toNat t)->bd M61 (tm q t).1):
  ∀(l:List Tm) (q:IS),GI C q->0<=q.f->q.f<=f0->(∀t∈l,validB t=true->Fit q.f.toNat t)->bds M61 (xW tm l q).1
 |[],q,h,i,_,_=>trivial
 |t::l,q,h,i,j,g=>by have a:=b q t h i j λ_=>g t tM;exact⟨d q t h i j λ_=>g t tM,mL b d l (tm q t).2 a.1 a.2.2 za λu m o=>(g u (tK _ m) o).mono za⟩
theorem nb:∀(D:Nat) (q:IS) (t:Tm) (k:Int),GI C q->0<=q.f->(q.e=0->validB t=true->Fit q.f.toNat t)->0<=k->k+(D:Int)<=6000->bd M61 (yw x lv L D q t k).1
 |0,q,t,k,h,V,_,_,_=>by rw[yw];split<;>exact Yx
 |D+1,q,t,k,h,V,O,p,Z=>by
  rw[yw];split
  .exact Yx
  rename_i N;have e0:q.e=0:=zp N;split
  .exact Yx
  rename_i W;have y:validB t=true->Fit (q.f-1).toNat t:=λH=>(O e0 H).mono za;unfold lq;split
  .exact Yx
  rename_i M;have J:=kG h.ok za y (zp M);generalize zZ q.s (q.f-1) t=z at*;obtain⟨j,E,z3⟩:=z;dsimp only at J ⊢;obtain⟨H,I,i,S⟩:=J;have v:=kE ⟨H,I⟩;have g:GI C ⟨q.s,E,q.e⟩:=h.less i za;have ih:=λm r F=>nb D m r F;have U:=λm r F=>Xg hC hL x lv D m r F;unfold uX;split
  .rename_i X;have G:(zr j).1.l≠[]:=λe=>by have o:=zB _ v.1.1;generalize (zr j).1=w at*;obtain⟨wk,ws,wn,wl⟩:=w;obtain⟨u,Y,_⟩:=okB5 o X;rw[Y] at e;cases e
   have hm:hd (zr j).1.l∈(zr j).1.l:=hd_mem G;exact aN 1<|ih ⟨q.s,E,q.e⟩ _ (k+1) g i (λ_ _=>v.1.2.kid hm) za za
  split
  .split
   .exact Yx
   have T:=jK g.ok (zr j).1.n (zr j).2 E λt A _=>(v.2.1 t A).2;unfold wm;split
   .exact Yx
   exact flexG_bd hL lv (λt A=>(T.1 t A).2.2.2.1) p za
  .unfold fh;split
   .exact Yx
   have K:=mL (C:=C) (tm:=λq t=>yw x lv L D q t k) (f0:=E) (λm r a b _ d=>U m r k a b d) (λm r a b _ d=>ih m r k a b d p za) (zr j).2 ⟨q.s,E,q.e⟩ g i (tU _) λt A _=>(v.2.1 t A).2;refine xB ?_ K;split
   .exact mB v.1.2.bd hL.1 p za
   .exact v.1.2.bd
end
theorem gR {C:Nat}(i:C<=1073741824){s:Sto}(p:OKS s)(x:Int){l:List Tm}{t:Tm}{f:Int}(o:0<=f)(H:f<=157)(F:s.V.length+f.toNat<=C)(E:s.T.length+f.toNat<=C)(y:l.length<=157)(d:validB t=true->Fit f.toNat t):
  OKS (zK s x l t f).2/\(zK s x l t f).2.V.length<=C/\(zK s x l t f).2.T.length<=C/\((zK s x l t f).1.2.2=0->0<=(zK s x l t f).1.2.1/\(zK s x l t f).1.2.1<=f/\
   (zK s x l t f).2.V.length+(zK s x l t f).1.2.1.toNat<=C/\(zK s x l t f).2.T.length+(zK s x l t f).1.2.1.toNat<=C/\(zK s x l t f).1.1.sz<=40000/\bd M61 (zK s x l t f).1.1):=by
 unfold zK;split
 .exact⟨p,by simp only;omega,by simp only;omega,λh=>by cases h⟩
 .rename_i r;simp only[Ey,not_or] at r;have m:LP l:=⟨za,λu G=>(Wq (t:=u)<|by have:=List.any_eq_false.1 (by simpa using r.2:(l.any λu=> !kg u)=false) u G;exact zp this).1⟩;have j:GI C ⟨s,f,0⟩:=⟨p,F,E,by simp only;omega,by simp only;omega⟩;have g:=Xg i m x (zL s.V x).lv f.toNat ⟨s,f,0⟩ t 0 j o λ_=>d;have z:=iF i m y x (zL s.V x).lv f.toNat ⟨s,f,0⟩ t 0 j o λ_=>d;have b:=nb i m x (zL s.V x).lv f.toNat ⟨s,f,0⟩ t 0 j o (λ_=>d) (tU _) za;generalize yw x (zL s.V x).lv l f.toNat ⟨s,f,0⟩ t 0=w at*;obtain⟨w1,I,J,v⟩:=w;have A:=g.1.V;have D:=g.1.T;dsimp only at*;split;next e=>exact⟨g.1.ok,zm,zm,λh=>absurd h e⟩
  .rename_i e;have e:v=0:=zp e;have z:=(z e).2;refine⟨g.1.ok,zm,zm,λ_=>⟨g.2.2,g.2.1,A,D,?_,aN _ b⟩⟩;dsimp only;rw[ZS];omega
theorem onK_P (m:Int)(e:m<=1000):∀(d:List Bool) (i:Int),0<=i->i+(d.length:Int)<=m->(onK m d i).length<=d.length/\∀t∈onK m d i,t.sz=1/\bd 2199023255552 t
 |[],i,_,_=>⟨tJ _,λt h=>by rw[onK] at h;cases h⟩
 |b::d,i,g,f=>by
  simp only[tC] at f;have ih:=onK_P m e d (i+1) za za;rw[onK];split
  .refine⟨by simp only[tC];omega,λt ht=>?_⟩;rcases A1.1 ht with rfl|ht
   .exact bnd_P (n:=m-1-i) za za
   .exact ih.2 t ht
  .exact⟨by simp only[tC];omega,ih.2⟩
theorem aV {s:Sto}(d:s.V.length<=1073741824){K:List Bool}(b:K.length<=900):(Zh s K.length<|onK (K.length:Int) K 0).sz<=40000/\bd 2199023255552 (Zh s K.length<|onK (K.length:Int) K 0):=by have o:=onK_P (K.length:Int) za K 0 (tU _) za;exact dR d b za o.2
theorem c_kprune {s:Sto}(hV:s.V.length<=1073741824)(hT:s.T.length<=1073741824)(x:Int){K:List Bool}(hK:K.length<=900):AC tB 138 [aS 0,ci x,.c<|qf<|.sl false 1<|BRb K] (oS s) (ci<|jb s x) (oS'<|wM s x K):=by have o:=onK_P (K.length:Int) za K 0 (tU _) za;have hp:=aV hV hK;exact c_iprune s x K za<|c_hang s x _ _ _ za za za za (by have:=hp.1;simp only[B];omega)<|yQ (by simp only[M61];omega) _ hp.2
theorem mG {s:Sto}(b:OKS s)(e:s.V.length<=1073741824)(x:Int){K:List Bool}(g:K.length<=900):OKS (wM s x K)/\(wM s x K).V.length<=s.V.length+1/\(wM s x K).T.length<=s.T.length+1:=by
 have h:=aV e g;unfold wM;split
 .have d:=mC s (zL s.V x).lv;have f:=uL (freshS s (zL s.V x).lv) x<|Zh s K.length<|onK (K.length:Int) K 0;rw[d.2] at f;exact⟨b.hang x _ h,by rw[vp,vA,d.1];omega,by rw[vp];omega⟩
 .exact⟨b,za,za⟩
def dG (C:Nat)(g:Int)(z:Int×Sto×Int):Prop:=
 OKS z.2.1/\z.2.1.V.length<=C/\z.2.1.T.length<=C/\(z.1=0->0<=z.2.2/\z.2.2<=g/\z.2.1.V.length+z.2.2.toNat<=C/\z.2.1.T.length+z.2.2.toNat<=C)
theorem kj {s:Sto}(f:OKS s){g:Int}(d:0<=g){x:SD}(i:∀t∈x.a,okP (g.toNat+1) t):
  (∀t∈(zA s g x).1.1,lfP t)/\((zA s g x).1.1.length:Int)<=g/\0<=(zA s g x).2/\(zA s g x).2<=g:=by
 have b:=jK f x.h.n x.a g (λt j _=>(i t j).2.mono za);unfold zA;by_cases q:(yJ s x.h.n x.a g).2.2=0
 .have m:=b.2.1 d q;rw[tG q];exact⟨b.1,zm,zm,zm⟩
 .rw[tD q];have e:=b.2.2 q;exact⟨b.1,by dsimp only;rw[e];exact zp d,d,tU _⟩
theorem WM {s:Sto}(e:OKS s)(n:Nat)(R:List<|List FV){g:Int}(h:0<=g){x:SD}(b:∀t∈x.a,okP (g.toNat+1) t)(f:x.a.length<=SZ):
  AC tB 136 [aWk,aSD x] (oWk s n R g) (aLvE (zA s g x).1) (oWk s n R (zA s g x).2):=by
 refine nQ s e n R g x (by simp only[SZ] at f;omega) za λt d=>⟨?_,λ_=>(b t d).2.mono za⟩;have:=(b t d).2.sz;simp only[SZ,B] at*;omega
theorem okP.B {F:Nat}{t:Tm}(h:okP F t):t.sz<=B:=by have:=h.2.sz;simp only[SZ,Go.AM.B] at*;omega
section
variable {C:Nat} (hC:C<=1073741824) {s:Sto} (hs:OKS s) {g:Int} (h0:0<=g) (h1:g<=156) (hV:s.V.length+g.toNat+1<=C) (hT:s.T.length+g.toNat+1<=C)
include hC hs h0 h1 hV hT
theorem nI (x:SD)(j:∀t∈x.a,okP (g.toNat+1) t){t:Tm}(m:okP (g.toNat+1) t):dG C g (yr s g x t):=by
 have i:=kj hs h0 j;unfold yr;split;next q=>exact⟨hs,zm,zm,λe=>absurd e q⟩
 .have b:=gR (C:=C-1) za hs x.h.n (l:=(zA s g x).1.1) (t:=t) (f:=(zA s g x).2) i.2.2.1 za za za za (λ_=>m.2.mono za);unfold ud;split;next q=>exact⟨b.1,zm,zm,λe=>absurd e q⟩
  .rename_i q;have q:(zK s x.h.n (zA s g x).1.1 t (zA s g x).2).1.2.2=0:=zp q;have d:=b.2.2.2 q;have o:=uL (zK s x.h.n (zA s g x).1.1 t (zA s g x).2).2 x.h.n (zK s x.h.n (zA s g x).1.1 t (zA s g x).2).1.1;have bV:=vA (zK s x.h.n (zA s g x).1.1 t (zA s g x).2).2 x.h.n (zK s x.h.n (zA s g x).1.1 t (zA s g x).2).1.1;exact⟨b.1.bindL d.2.2.2.2.1,zm,zm,λ_=>⟨d.1,zm,zm,zm⟩⟩
theorem c_flex (n:Nat)(R:List<|List FV)(x y:SD)(i:∀t∈x.a,okP (g.toNat+1) t)(j:x.a.length<=SZ)(d:okP (g.toNat+1) y.t):
  AC tB 106 [aWk,aSD x,aSD y] (oWk s n R g) (ci (yr s g x y.t).1) (oWk' (yr s g x y.t).2.1 n R (yr s g x y.t).2.2):=by
 have b:=kj hs h0 i;have o:=gR (C:=C-1) za hs x.h.n (l:=(zA s g x).1.1) (t:=y.t) (f:=(zA s g x).2) b.2.2.1 za za za za (λ_=>d.2.mono za);refine c_uflex s n R g x y (WM hs n R h0 i j) λ_=>?_;refine c_ubind s n R (zA s g x).2 x (zA s g x).1.1 y.t ?_ λq=>?_
 .exact rh (C:=C-1) za s x.h.n _ y.t _ b.2.2.1 za hs za za za (λu m=>by have:=(b.1 u m).1;simp only[B];omega) d.B (λ_=>d.2.mono za)
 .have e:=o.2.2.2 q;exact iU _ _ _ za (by have:=e.2.2.2.2.1;simp only[B];omega) e.2.2.2.2.2
theorem prune_ok (x y:SD)(m:∀t∈x.a,okP (g.toNat+1) t)(i:∀t∈y.a,okP (g.toNat+1) t):dG C g (yR s g x y):=by
 have f:=kj hs h0 m;have b:=kj hs f.2.2.1 (x:=y) (λt o=>(i t o).mono za);unfold yR;split;next q=>exact⟨hs,zm,zm,λe=>absurd e q⟩
 .split;next q=>exact⟨hs,zm,zm,λe=>absurd e q⟩
  .split
   .exact⟨hs,zm,zm,λe=>by cases e⟩
   .split
    .exact⟨hs,zm,zm,λ_=>⟨b.2.2.1,zm,zm,zm⟩⟩
    next d _=>have j:=mG hs za x.h.n (K:=List.zipWith xg (zA s g x).1.1 (zA s (zA s g x).2 y).1.1) (by simp only[List.length_zipWith];omega);exact⟨j.1,zm,zm,λ_=>⟨b.2.2.1,zm,zm,zm⟩⟩
theorem c_prune' (n:Nat)(R:List<|List FV)(x y:SD)(i:∀t∈x.a,okP (g.toNat+1) t)(b:x.a.length<=SZ)(j:∀t∈y.a,okP (g.toNat+1) t)(d:y.a.length<=SZ):
  AC tB 105 [aWk,aSD x,aSD y] (oWk s n R g) (ci (yR s g x y).1) (oWk' (yR s g x y).2.1 n R (yR s g x y).2.2):=by
 have f:=kj hs h0 i;exact c_uprune s n R g x y (WM hs n R h0 i b) (λ_=>WM hs n R f.2.2.1 (λt e=>(j t e).mono za) d) za (λt e=>by have:=(f.1 t e).1;simp only[B];omega) (λ_ K m=>c_kprune za za x.h.n za)
end
structure UI (C:Nat)(s:Sto)(f:Int)(st:List<|Tm×Tm):Prop where
 ok:OKS s
 V:s.V.length+f.toNat<=C
 T:s.T.length+f.toNat<=C
 f1:f<=157
 fit:∀p∈st,okP f.toNat p.1/\okP f.toNat p.2
 len:st.length+200000000*f.toNat<=400000000000
theorem dq {s:Sto}(d:OKS s){f:Int}{t:Tm}(h:0<=f)(g:validB t=true->Fit f.toNat t):(zZ s f t).1.sz<=B:=by
 by_cases q:(zZ s f t).2.2=0
 .have:=(kG d h g q).2.1.sz;simp only[SZ,B] at*;omega
 .have e:(zZ s f t).1=noT:=by
   unfold zZ at q ⊢;split
   .rename_i b;rw[tG b] at q;split;next i=>rw[tG i] at q;exact absurd rfl q
    .rfl
   .rfl
  rw[e];simp only[B];decide
theorem c_look {s:Sto}(b:OKS s)(n:Nat)(R:List<|List FV){f:Int}(d:0<=f){t:Tm}(h:okP f.toNat t):AC tB 102 [aWk,aT t] (oWk s n R f) (aSE (yp s f t).1) (oWk s n R (yp s f t).2):=
 c_ulook s b n R f t za h.B (λ_=>h.2) (dq b d λ_=>h.2)
theorem c_body {F:Nat}{t:Tm}(h:okP F t):AC tB 87 [aT t] [] (aT<|vM t) []:=by refine c_ubody t h.B h.2.bd ?_;have f:=jW 0 1 t 0;have e:=(shT 0 1 t 0).sz_eq;have d:=Tm.szs_length (shT 0 1 t 0).l;have b:=h.2.sz;simp only[SZ] at b;omega
section
variable {C:Nat} (hC:C<=1073741824) {s:Sto} {f:Int} {p:Tm×Tm} {st:List (Tm×Tm)} (h:UI C s f<|p::st) (hf:0<f)
include hC h hf
theorem lT:dG C (f-1) (y8 s (f-1) p).1/\((y8 s (f-1) p).1.1=0->(∀q∈(y8 s (f-1) p).2,okP (y8 s (f-1) p).1.2.2.toNat q.1/\okP (y8 s (f-1) p).1.2.2.toNat q.2)/\(y8 s (f-1) p).2.length<=200000000):=by
 have O:=h.V;have W:=h.T;have M:=h.f1;have A:=h.fit p tM;rw[(za:f.toNat=(f-1).toNat+1)] at A;have j:∀(e g:Int),e≠0->dG C (f-1) (e,s,g):=λe g J=>⟨h.ok,zm,zm,λq=>absurd q J⟩;unfold y8;split;next q=>exact⟨j _ _ q,λe=>absurd e q⟩
 rename_i w;have w:(yp s (f-1) p.1).1.2=0:=zp w;have G:=Xn h.ok (f:=f-1) za (t:=p.1) A.1 (x:=(yp s (f-1) p.1).1.1) (g:=(yp s (f-1) p.1).2) (by rw[<-w]);generalize yp s (f-1) p.1=N at*;obtain⟨⟨x,S⟩,o⟩:=N;dsimp only at*;split;next q=>exact⟨j _ _ q,λe=>absurd e q⟩
 rename_i D;have D:(yp s o p.2).1.2=0:=zp D;have m:=Xn h.ok (f:=o) G.1 (t:=p.2) (A.2.mono za) (x:=(yp s o p.2).1.1) (g:=(yp s o p.2).2) (by rw[<-D]);generalize yp s o p.2=L at*;obtain⟨⟨y,U⟩,g⟩:=L;dsimp only at*;have F:okP (g.toNat+1) x.t:=G.2.2.1.mono za;have E:okP (g.toNat+1) y.t:=m.2.2.1;have r:=kE F;have v:=kE E;have I:x.a=(zr x.t).2:=by rw[G.2.2.2.1];rfl
 have K:y.a=(zr y.t).2:=by rw[m.2.2.2.1];rfl
 rw[<-I] at r;rw[<-K] at v;have L1:∀z,dG C g z->dG C (f-1) z:=λz u=>⟨u.1,u.2.1,u.2.2.1,λe=>by have:=u.2.2.2 e;exact⟨this.1,za,this.2.2.1,this.2.2.2⟩⟩;have i:dG C (f-1) (0,s,g):=⟨h.ok,zm,zm,λ_=>⟨m.1,zm,zm,zm⟩⟩;unfold j8;split
 .refine⟨i,λ_=>⟨λq d=>?_,zb⟩⟩;rw[AO.1 d];exact⟨bw F,bw E⟩
 split
 .exact⟨L1 _<|prune_ok hC h.ok m.1 za za za x y r.2.1 v.2.1,λ_=>⟨λq d=>(nomatch d),zb⟩⟩
 split
 .exact⟨L1 _<|nI hC h.ok m.1 za za za x r.2.1 E,λ_=>⟨λq d=>(nomatch d),zb⟩⟩
 split
 .exact⟨L1 _<|nI hC h.ok m.1 za za za y v.2.1 F,λ_=>⟨λq d=>(nomatch d),zb⟩⟩
 split
 .exact⟨j _ _ zc,λe=>absurd (show(170:Int)=0 from e) zc⟩
 .refine⟨i,λ_=>⟨λq d=>?_,?_⟩⟩
  .have H:=List.of_mem_zip (a:=q.1) (b:=q.2) d;exact⟨(r.2.1 _ H.1).mono zm,(v.2.1 _ H.2).mono zm⟩
  .have:=r.2.2;simp only[List.length_zip,SZ] at*;omega
theorem gz (e:(y8 s (f-1) p).1.1=0):UI C (y8 s (f-1) p).1.2.1 (y8 s (f-1) p).1.2.2 ((y8 s (f-1) p).2++st)/\(y8 s (f-1) p).1.2.2<=f-1:=by
 have k:=lT hC h hf;have b:=k.1.2.2.2 e;have i:=k.2 e;have g:=h.f1;have d:=h.len;simp only[tC] at d;refine⟨⟨k.1.1,b.2.2.1,b.2.2.2,za,λq hq=>?_,?_⟩,b.2.1⟩
 .rcases A0.1 hq with hq|hq
  .exact i.1 q hq
  .have:=h.fit q<|tK _ hq;exact⟨this.1.mono za,this.2.mono za⟩
 .rw[tE];omega
theorem c_pair {n:Nat}{R:List (List FV)}(D:n<=R.length)(hn2:n<=500000000000):AC tB 75 [aWk,aPr p] (oWk s n R<|f-1) (ci (y8 s (f-1) p).1.1) (oPa n R<|y8 s (f-1) p):=by
 have F:=h.V;have G:=h.T;have E:=h.f1;have d:=h.fit p tM;rw[(za:f.toNat=(f-1).toNat+1)] at d;have m:(yp s (f-1) p.1).1.2=0->0<=(yp s (f-1) p.1).2/\(yp s (f-1) p.1).2<=f-1:=λv=>by have e:=Xn h.ok (f:=f-1) za (t:=p.1) d.1 (x:=(yp s (f-1) p.1).1.1) (g:=(yp s (f-1) p.1).2) (by rw[<-v]);exact⟨e.1,e.2.1⟩
 refine c_upair s n R (f-1) p D hn2 (c_look h.ok n R za<|d.1.mono za) (λq=>c_look h.ok n R (m q).1<|d.2.mono<|by have:=m q;omega) λx y g u w=>?_;have m:=m (by rw[u]);have e:=Xn h.ok (f:=f-1) za (t:=p.1) d.1 (x:=x) (g:=(yp s (f-1) p.1).2) (by rw[<-u]);have i:=Xn h.ok (f:=(yp s (f-1) p.1).2) m.1 (t:=p.2) (d.2.mono za) (x:=y) (g:=g) w;have r:okP (g.toNat+1) x.t:=e.2.2.1.mono za;have o:okP (g.toNat+1) y.t:=i.2.2.1;have b:=kE r;have j:=kE o;have z:x.a=(zr x.t).2:=by rw[e.2.2.2.1];rfl
 have C:y.a=(zr y.t).2:=by rw[i.2.2.2.1];rfl
 have A:x.h=(zr x.t).1:=by rw[e.2.2.2.1];rfl
 rw[<-z,<-A] at b;rw[<-C] at j
 exact⟨c_body r,c_body o,b.1.B,by have:=b.2.2;simp only[SZ] at this;omega,λ_=>c_prune' hC h.ok i.1 za za za n R x y b.2.1 b.2.2 j.2.1 j.2.2,
  λ_ _ _=>c_flex hC h.ok i.1 za za za n R x y b.2.1 b.2.2 o,λ_ _ _=>c_flex hC h.ok i.1 za za za n R y x j.2.1 j.2.2 r⟩
end
theorem run_ok {C:Nat}(i:C<=1073741824):∀(F:Nat) (s:Sto) (f:Int) (b:List<|Tm×Tm),UI C s f b->OKS (runW F s f b).2.1/\(runW F s f b).2.1.V.length<=C/\(runW F s f b).2.1.T.length<=C/\(0<=f->(runW F s f b).1=0->0<=(runW F s f b).2.2/\(runW F s f b).2.2<=f/\(runW F s f b).2.1.V.length+(runW F s f b).2.2.toNat<=C/\(runW F s f b).2.1.T.length+(runW F s f b).2.2.toNat<=C)
 |F,s,f,[],h=>by
  have e:runW F s f []=(0,s,f):=by cases F<;>rfl
  have d:=h.V;have g:=h.T;rw[e];exact⟨h.ok,zm,zm,λq _=>⟨q,tU _,d,g⟩⟩
 |0,s,f,p::b,h=>by have d:=h.V;have g:=h.T;rw[runW];exact⟨h.ok,zm,zm,λ_ q=>by cases q⟩
 |F+1,s,f,p::b,h=>by
  have d:=h.V;have g:=h.T;rw[runW];split
  .exact⟨h.ok,zm,zm,λ_ q=>by cases q⟩
  rename_i m;have k:=lT i h za;split;next q=>exact⟨k.1.1,k.1.2.1,k.1.2.2.1,λ_ e=>absurd e q⟩
  rename_i q;have q:(y8 s (f-1) p).1.1=0:=zp q;have nx:=gz i h za q;have r:=run_ok i F _ _ _ nx.1;have j:=k.1.2.2.2 q;exact⟨r.1,r.2.1,r.2.2.1,λ_ e=>by have:=r.2.2.2 j.1 e;exact⟨this.1,za,this.2.2⟩⟩
theorem c_urunU {C:Nat}(hC:C<=1073741824){s:Sto}{f:Int}{l:List (Tm×Tm)}(h0: -9223372036854775808<=f)(h:UI C s f l):
  ∃n' R',AC tB 51 [aWk] (oWk s l.length (PTs l.reverse) f) (ci (runW f.toNat s f l).1) (oWk' (runW f.toNat s f l).2.1 n' R' (runW f.toNat s f l).2.2):=by
 have a1:∀s f st,UI C s f st->st.length<=500000000000/\f<=1000000000:=λs f st h=>⟨by have:=h.len;omega,by have:=h.f1;omega⟩;have a2:∀s f p st n R,UI C s f (p::st)->0<f->n<=R.length->n=st.length->AC tB 75 [aWk,aPr p] (oWk s n R<|f-1) (ci (y8 s (f-1) p).1.1) (oPa n R<|y8 s (f-1) p):=λs f p st n R hI hf hn hl=>by have:=hI.len;simp only[tC] at this;exact c_pair hC hI hf hn za
 have a4:take l.length (PTs l.reverse)=PTs l.reverse:=tN (by rw[ub,List.length_reverse];exact tJ _);obtain⟨n',R',hr⟩:=l_urun (I:=UI C) a1 a2 (λs f p st hI hf e=>gz hC hI hf e) f.toNat s f l (PTs l.reverse) (tJ _) h a4;refine⟨n',R',acv (v51 ..) ?_⟩;exact hr
theorem c_uallU {C:Nat}(hC:C<=1073741824){s:Sto}{f:Int}{l:List (Tm×Tm)}(h0: -9223372036854775808<=f)(hl:l.length<=1000000)(hw:WF s)(ht:OKT s)(hz:∀p∈l,p.1.sz<=B/\p.2.sz<=B)(h:l.any badP=false->UI C s f l):
  AC tB 30 [aS 0,.c<|qf<|.sl false 8<|PTs l,ci f] (oS s) (aE2 (allF s l f).1) (oS' (allF s l f).2):=by
 refine c_uall s l f za hz (λq=>c_urunU hC h0<|h q) λq _=>?_;have r:=run_ok hC f.toNat s f l<|h q;have c:=(oo f.toNat s f l .refl).all hw ht;have cut:=c.2.2.cut ht;exact c_sundo _ _ _ cut.1 za cut.2.1 c.2.1 cut.2.2
theorem c_unify (s:Sto)(a b:Tm)(f:Int)(h:AC tB 30 [aS 0,.c<|qf<|.sl false 8<|PTs [(a,b)],ci f] (oS s) (aE2 (allF s [(a,b)] f).1)<|oS' (allF s [(a,b)] f).2):
  AC tB 13 [aS 0,aT a,aT b,ci f] (oS s) (aE2 (allF s [(a,b)] f).1) (oS' (allF s [(a,b)] f).2):=by
 generalize allF s [(a,b)] f=z at*;obtain⟨ak,a2,an,al⟩:=a;obtain⟨bk,bs,bn,bl⟩:=b;refine acv (v13 ak a2 an (FTs al) bk bs bn (FTs bl) ..) ?_;exact⟨⟨rfl,tJ _⟩,z,h,.refl _,rfl⟩
abbrev anyK:Key:=⟨true,0,[],0,0⟩
def keyH (h:Tm)(n:Int):Key:=if h.k=5 then anyK else if h.k=4 then anyK else if h.k=6 then anyK else⟨false,h.k,h.s,h.n,n⟩
def keyOf (t:Tm):Key:=if t.k=6 then(match t.l with|[]=>anyK|h::l=>keyH h l.length) else keyH t 0
def firstK (c:Cd):Key:=match c.ins with
 |[]=>anyK
 |x::_=>if x.a≠0 then anyK else if x.k=0 then keyOf x.t else if x.k=1 then keyOf x.t else anyK
def xZ (a b:Key):Bool:=if a.any=true then true else if b.any=true then true else((a.any==b.any)&&((a.k==b.k)&&((a.nm==b.nm)&&((a.n==b.n)&&((a.ar==b.ar)&&true)))))
theorem tsz_l (t:Tm)(b:t.sz<=B):t.l.length<=B:=by have:=Tm.szs_length t.l;have:=t.sz_eq;omega
theorem c_kof (t:Tm)(v:t.sz<=B):AC tB 16 [aT t] [] (aK<|keyOf t) []:=by
 have j:=tsz_l t v;obtain⟨k,s,n,l⟩:=t;simp only[Tm.l,B] at j;refine acv (v16 k s n (FTs l) _ _) ?_
 have b:∀ {u:Tm} {m:Int},∀K:Key,K=keyH u m->br (u.k==5) (TV.Le (aK anyK) (aK K)/\([]:List AObj)=[]) (br (u.k==4) (TV.Le (aK anyK) (aK K)/\([]:List AObj)=[])<|br (u.k==6) (TV.Le (aK anyK) (aK K)/\([]:List AObj)=[])<|TV.Le (aK ⟨false,u.k,u.s,u.n,m⟩) (aK K)/\([]:List AObj)=[]):=λ{u m} K r=>by
  subst r;unfold keyH;refine zu (λh=>?_) λh=>zu (λf=>?_) λf=>zu (λg=>?_) λg=>?_
  .rw[tG<|zp h];exact rrl
  .rw[tD<|zp h,tG<|zp f];exact rrl
  .rw[tD<|zp h,tD<|zp f,tG<|zp g];exact rrl
  .rw[tD<|zp h,tD<|zp f,tD<|zp g];exact rrl
 refine zu (λe=>?_) λe=>?_
 .have e:k=6:=zp e;subst e;cases l with
  |nil=>
   rw[show keyOf (.mk 6 s n [])=anyK by unfold keyOf;rw[tG (show Tm.k (.mk 6 s n [])=6 from rfl)];rfl]
   first|exact⟨rfl,bF (by simp[FTs]) (b (u:=.mk 6 s n []) (m:=0) anyK rfl)⟩|exact⟨rfl,zu (λ_=>rrl) (λh=>by simp[FTs] at h)⟩
  |cons x l=>
   rw[show keyOf (.mk 6 s n<|x::l)=keyH x l.length by unfold keyOf;rw[tG (show Tm.k (.mk 6 s n<|x::l)=6 from rfl)];rfl];have e0:FV.I (getD (getD (FTs<|x::l) 0 []) 0 FV.N)=x.k:=by cases x;rfl
   have y:FV.S (getD (getD (FTs<|x::l) 0 []) 1 FV.N)=x.s:=by cases x;rfl
   have p:FV.I (getD (getD (FTs<|x::l) 0 []) 2 FV.N)=x.n:=by cases x;rfl
   have o:wrap .i64 ((((FTs<|x::l).length:Nat):Int)-1)=(l.length:Int):=by rw[zq];simp only[tC] at j ⊢;rw[w64 za za];omega
   have d:FV.L 4 (.sl false 4<|FTs<|x::l)=true/\((0:Int)<=0/\((0:Int)<(((FTs<|x::l).length:Nat):Int)/\(rE (getD (FTs<|x::l) 0 []):List FV)=getD (FTs<|x::l) 0 [])):=⟨rfl,za,by rw[zq];simp only[tC];omega,yD x⟩;have i:=b (u:=x) (m:=l.length) (keyH x l.length) rfl;rw[<-o,<-e0,<-y,<-p] at i;rw[<-o]
   first
    |exact⟨rfl,zu (λ_=>⟨d,rfl,i⟩) (λh=>absurd (tP h) (by rw[zq];simp only[tC];omega))⟩
    |exact⟨rfl,zu (λh=>by rw[zq] at h;simp at h;omega) (λ_=>⟨d,rfl,i⟩)⟩
 .have w:keyOf (.mk k s n l)=keyH (.mk k s n l) 0:=by unfold keyOf;rw[tD (show¬Tm.k (.mk k s n l)=6 from(by simpa using e:¬k=6))]
  exact b (u:=.mk k s n l) (m:=0) _ w
theorem insz (c:Cd)(b:zC c){x:In1}{l:List In1}(h:c.ins=x::l):x.t.sz<=B:=by have e:=(Jo (gZ b).2.2 (show x∈c.ins by rw[h];simp)).1;have d:=Tm.sz_bk x.t;omega
theorem fi_elem (x:In1)(l:List In1):FV.L 8 (.sl false 8<|FIs<|x::l)=true/\((0:Int)<=0/\((0:Int)<(((FIs<|x::l).length:Nat):Int)/\(fIr (getD (FIs<|x::l) 0 []):List FV)=getD (FIs<|x::l) 0 [])):=by refine⟨rfl,za,by rw[zR];simp only[tC];omega,?_⟩;rw[show getD (FIs<|x::l) 0 []=FI x by rw[FIs];rfl];exact fIr_FI x
theorem mj (c:Cd)(m:zC c):AC tB 21 [aC c] [] (aK<|firstK c) []:=by
 cases g:c.ins with
 |nil=>
  have i:firstK c=anyK:=by rw[firstK,g]
  rw[i];refine acv (v21 ..) ?_;rw[g];exact⟨rfl,zu (λ_=>rrl) λh=>by simp[FIs] at h⟩
 |cons x l=>
  have j:=c_kof x.t<|insz c m g;rw[<-(show(TV.agg [qi<|FV.I<|getD (FI x) 2 FV.N,qf<|.str<|FV.S<|getD (FI x) 3 FV.N,qi<|FV.I<|getD (FI x) 4 FV.N,qf<|getD (FI x) 5 FV.N])=aT x.t from aIt_FI x)] at j;have i:firstK c=if x.a≠0 then anyK else if x.k=0 then keyOf x.t else if x.k=1 then keyOf x.t else anyK:=by rw[firstK,g]
  have f:=fi_elem x l;have e:getD (FIs<|x::l) 0 []=FI x:=by rw[FIs];rfl
  rw[e] at f;rw[i];refine acv (v21 ..) ?_;rw[g,e];refine⟨rfl,zu (λh=>by rw[zR] at h;simp at h;omega) λ_=>⟨f,zu (λh=>?_) λh=>⟨f,zu (λb=>⟨f,_,_,_,_,_,j,?_⟩) λb=>zu (λd=>⟨f,_,_,_,_,_,j,?_⟩) λd=>?_⟩⟩⟩
  .rw[tG<|by rw[FI1 x] at h;exact zp h];exact rrl
  .rw[tD<|by rw[FI1 x] at h;exact zp h,tG<|by rw[FI0 x] at b;exact zp b];exact rrl
  .rw[tD<|by rw[FI1 x] at h;exact zp h,tD<|by rw[FI0 x] at b;exact zp b,tG<|by rw[FI0 x] at d;exact zp d];exact rrl
  .rw[tD<|by rw[FI1 x] at h;exact zp h,tD<|by rw[FI0 x] at b;exact zp b,tD<|by rw[FI0 x] at d;exact zp d];exact rrl
theorem iT (a b:Key):AC tB 20 [aK a,aK b] [] (cb<|xZ a b) []:=by
 refine acv (v20 ..) ?_;unfold xZ;refine zu (λh=>?_) λh=>zu (λd=>?_) λd=>?_
 .rw[tG h];exact zD rfl
 .rw[tD<|by rw[h];simp,tG d];exact zD rfl
 .rw[tD<|by rw[h];simp,tD<|by rw[d];simp];exact zD rfl
theorem Kz (lf:Tm->Int->Tm)(d:Int):∀l:List Tm,zF lf l d=l.map λu=>zG lf u d
 |[]=>rfl
 |t::l=>by rw[zF,Aw,Kz lf d l]
theorem gU {vs ws:List Int}(hl:vs.length=ws.length){x:Tm}(m:Int)(h6:x.k≠6)(h:(keyH (zG (zE vs) x 0) m).any=false):keyH (zG (zE ws) x 0) m=keyH (zG (zE vs) x 0) m:=by
 obtain⟨k,s,n,l⟩:=x;by_cases h5:k=5
 .subst h5;rw[y5 _ (λu d _ h6=>yX vs u d h6) 5 s n l 0 rfl] at h;cases h
 .have e:(k==5||k==6)=false:=by simp[h5,show k≠6 from h6]
  rw[yq _ _ _ _ _ _ e] at h;rw[yq _ _ _ _ _ _ e,yq _ _ _ _ _ _ e];unfold zE at h ⊢;by_cases c:((Tm.mk k s n l).k==3)=true/\(0:Int)<=(Tm.mk k s n l).n
  .rw[tG c] at h;rw[tG c,tG c,<-hl];by_cases q:(Tm.mk k s n l).n<0+(vs.length:Int)
   .rw[tG q] at h;cases h
   .rw[tD q,tD q]
  .rw[tD c,tD c]
theorem key_open {vs ws:List Int}(hl:vs.length=ws.length){t:Tm}(hv:validB t=true)(h:(keyOf<|openG vs t).any=false):keyOf (openG ws t)=keyOf (openG vs t):=by
 by_cases h6:t.k=6
 .obtain⟨k,s,n,l⟩:=t;have h6:k=6:=h6;subst h6;obtain⟨x,y,r,rfl,hx,_⟩:=okB6 (zB _ hv) rfl;have e:∀vs:List Int,openG vs (.mk 6 s n<|x::y::r)=.mk 6 s n (zG (zE vs) x 0::zF (zE vs) (y::r) 0):=λvs=>y5 _ (λu d _ h6=>yX vs u d h6) 6 s n (x::y::r) 0 rfl;rw[e] at h;rw[e,e];have g:=gU hl ((zF (zE vs) (y::r) 0).length:Int) hx h;show keyH _ _=keyH _ _;rw[<-g,vq,vq]
 .have g:∀vs:List Int,keyOf (openG vs t)=keyH (zG (zE vs) t 0) 0:=λvs=>by
   unfold keyOf openG;rw[tD];by_cases h5:t.k=5
   .obtain⟨k,s,n,l⟩:=t;have h5:k=5:=h5;subst h5;rw[y5 _ (λu d _ h6=>yX vs u d h6) 5 s n l 0 rfl];exact h6
   .obtain⟨k,s,n,l⟩:=t;have h5:k≠5:=h5;rw[yq _ _ _ _ _ _<|by simp[h5,show k≠6 from h6]];exact yX vs _ _ h6
  rw[g] at h;rw[g,g];exact gU hl 0 h6 h
theorem op_split (vs:List Int){H:Tm}(hv:validB H=true)(hv':validB (openG vs H)=true):(zr<|openG vs H).2=(zr H).2.map (openG vs):=by
 by_cases h6:H.k=6
 .obtain⟨k,s,n,l⟩:=H;have h6:k=6:=h6;subst h6;have e:openG vs (.mk 6 s n l)=.mk 6 s n (zF (zE vs) l 0):=y5 _ (λu d _ h6=>yX vs u d h6) 6 s n l 0 rfl;rw[e] at hv';unfold zr;rw[e,tG ⟨rfl,hv'⟩,tG ⟨rfl,hv⟩];show(zF (zE vs) l 0).drop 1=(l.drop 1).map _;rw[Kz,List.map_drop];rfl
 .have:(openG vs H).k≠6:=by
   obtain⟨k,s,n,l⟩:=H;have h6:k≠6:=h6;unfold openG;by_cases h5:k=5
   .subst h5;rw[y5 _ (λu d _ h6=>yX vs u d h6) 5 s n l 0 rfl];exact h6
   .rw[yq _ _ _ _ _ _<|by simp[h5,h6]];exact yX vs _ _ h6
  unfold zr;rw[tD λq=>this q.1,tD λq=>h6 q.1];rfl
theorem rp (x:In1)(l:List In1):∃r,finI (x::l)=x::r:=by
 unfold finI;split
 .exact⟨l,rfl⟩
 .exact⟨l++[mkI 4 0],rfl⟩
theorem l9 {bf:Bf}{c:Cl}{fr:Int}{a:Tm}{r:List Tm}(e:(zr<|openG (slotsF c.1.toNat fr) c.2.1).2=a::r):firstK (wj bf c fr)=keyOf a:=by
 unfold wj;rw[e];generalize bf true (openG (slotsF c.1.toNat fr) c.2.2) (fr+c.1) (List.length<|a::r)=W;obtain⟨q,hq⟩:=rp (.mk (if a.k=0\/a.k=2 then 1 else 0) ((0:Nat):Int) a [] [])<|argI (0+1) r++W.2;rw[show argI 0 (a::r)++W.2=.mk (if a.k=0\/a.k=2 then 1 else 0) ((0:Nat):Int) a [] []::(argI (0+1) r++W.2) from rfl,hq];show(if ((0:Nat):Int)≠0 then anyK else if (if a.k=0\/a.k=2 then(1:Int) else 0)=0 then keyOf a else if (if a.k=0\/a.k=2 then(1:Int) else 0)=1 then keyOf a else anyK)=_;by_cases q:a.k=0\/a.k=2
 .rw[tG q];rfl
 .rw[tD q];rfl
theorem W0 (s:Sto):∀(F:Nat) (t:Tm) (d:Nat),(runH s F t).2.1=0->runH s (F+d) t=runH s F t
 |0,t,d,h=>by
  have h0:(zU s t).2=0:=by
   by_cases q:(zU s t).2=0
   .exact q
   .rw[runH,tD q] at h;cases h
  have e:∀F,runH s F t=(t,0,0):=λF=>by
   cases F with
   |zero=>rw[runH,tG h0]
   |succ F=>rw[runH,tG h0]
  rw[e,e]
 |F+1,t,d,h=>by
  rw[(za:F+1+d=(F+d)+1)];rw[runH] at h;rw[runH,runH];split
  .rfl
  .rename_i q;rw[tD q] at h;split
   .rfl
   next q2=>rw[tD q2] at h;rw[W0 s F _ d h]
theorem Wg (s:Sto)(f:Int){t:Tm}(hv:validB t=true)(h:(keyOf t).any=false):zZ s f t=(t,f,0)/\t.k≠5/\(zr t).1.k≠4:=by
 have key:t.k≠5/\t.k≠4/\(t.k=6->(hd t.l).k≠5/\(hd t.l).k≠4):=by
  have ok:=zB _ hv;obtain⟨k,str,n,l⟩:=t;unfold keyOf at h;by_cases h6:k=6
  .obtain⟨x,y,r,rfl,hx6,_⟩:=okB6 ok h6;rw[tG (show Tm.k (.mk k str n<|x::y::r)=6 from h6)] at h;refine⟨λe=>by have e:k=5:=e;omega,λe=>by have e:k=4:=e;omega,λ_=>⟨λe=>?_,λe=>?_⟩⟩
   .have e:x.k=5:=e;simp only[Tm.l,keyH] at h;rw[tG e] at h;cases h
   .have e:x.k=4:=e;simp only[Tm.l,keyH] at h;rw[tD za,tG e] at h;cases h
  .rw[tD (show¬Tm.k (.mk k str n l)=6 from h6)] at h;refine⟨λe=>?_,λe=>?_,λe=>absurd e h6⟩
   .unfold keyH at h;rw[tG e] at h;cases h
   .unfold keyH at h;rw[tD<|by rw[e];decide,tG e] at h;cases h
 have st:zU s t=(t,0):=by
  unfold zU;rw[tD<|by simp[valB,key.2.1]];by_cases h6:t.k=6
  .have k6:=key.2.2 h6;rw[tD<|zp h6,tD<|by simp[valB,k6.2],tG k6.1]
  .rw[tG h6]
 refine⟨?_,key.1,?_⟩
 .have r:runH s f.toNat t=(t,0,0):=by
   cases f.toNat with
   |zero=>rw[runH,st];rfl
   |succ F=>rw[runH,st];rfl
  unfold zZ;rw[tG hv,r];simp
 .unfold zr;split;next h6=>exact(key.2.2 h6.1).2
  .exact key.2.1
theorem gm {t:Tm}(hv:validB t=true):keyOf t=keyH (zr t).1 ((zr t).2.length:Int):=by
 unfold zr;by_cases h6:t.k=6
 .rw[tG ⟨h6,hv⟩];obtain⟨k,str,n,l⟩:=t;obtain⟨x,y,r,rfl,_,_⟩:=okB6 (zB _ hv) h6;unfold keyOf;rw[tG h6];simp only[Tm.l,tC,S6,A3];rfl
 .rw[tD λe=>h6 e.1];unfold keyOf;rw[tD h6];rfl
theorem lH {s:Sto}{t h:Tm}{f g F:Int}(hf:0<=f)(hF:f<=F)(e:zZ s f t=(h,g,0)):zZ s F t=(h,g+(F-f),0):=by
 unfold zZ at e ⊢;split at e
 .rename_i hv;rw[tG hv];split at e
  .rename_i q;have m:=W0 s f.toNat t (F.toNat-f.toNat) q;rw[(za:f.toNat+(F.toNat-f.toNat)=F.toNat)] at m;rw[m,tG q];injection e with e1 e2
   injection e2 with e2 _
   rw[e1];simp only[Am,true_and,and_true];omega
  .rename_i q;injection e with _ e2
   injection e2 with _ e3
   exact absurd e3 q
 .injection e with _ e2
  injection e2 with _ e3
  cases e3
theorem mR {a b:Key}(h:xZ a b=false):a.any=false/\b.any=false:=by
 have ka:a.any=false:=by
  cases e:a.any with
  |false=>rfl
  |true=>unfold xZ at h;rw[tG e] at h;cases h
 refine⟨ka,?_⟩;cases e:b.any with
 |false=>rfl
 |true=>unfold xZ at h;rw[tD<|by rw[ka];simp,tG e] at h;cases h
theorem failsH {s:Sto}{a b x:Tm}{g:Int}(va:validB a=true)(vb:validB b=true)(vx:validB x=true)(hx:zZ s 50 a=(x,g,0))(hg:0<=g)(h:xZ (keyOf x) (keyOf b)=false):(allF s [(a,b)] 100).1=(0,170):=by
 obtain⟨kx,kb⟩:=mR h;have rx:=Wg s 0 vx kx;have ra:=lH (F:=99) za za hx;have rb:=Wg s (g+49) vb kb;have la:yp s 99 a=((XI x,0),g+49):=by unfold yp;rw[ra];rfl
 have lb:yp s (g+49) b=((XI b,0),g+49):=by unfold yp;rw[rb.1];rfl
 have differ:xg (zr x).1 (zr b).1=false\/(zr x).2.length≠(zr b).2.length:=by
  by_cases q:xg (zr x).1 (zr b).1=true
  .right;intro el;have e:=(KP _ _).1 q;have:keyOf x=keyOf b:=by rw[gm vx,gm vb,e,el]
   rw[this] at h;unfold xZ at h;rw[tD<|by rw[kb];simp,tD<|by rw[kb];simp] at h;simp at h
  .exact .inl (zp q)
 have pr:(y8 s 99 (a,b)).1=(170,s,g+49):=by unfold y8;dsimp only;rw[la];dsimp only;rw[tD zb,lb];dsimp only;rw[tD zb];unfold j8 XI;dsimp only;rw[tD<|by simp[rx.2.1,rb.2.1],tD λe=>rx.2.2 e.1,tD rx.2.2,tD rb.2.2,tG differ]
 have rn:runW 100 s 100 [(a,b)]=(170,s,g+49):=by rw[runW,tD za,show(100:Int)-1=99 from rfl,pr];rfl
 unfold allF;rw[tD<|by simp[badP,va,vb],show(100:Int).toNat=100 from rfl,rn];rfl
theorem n7 {vs:List Int}{t:Tm}(hv:validB t=true)(hv':validB (openG vs t)=true)(h0:(zr t).1.k=0):(zr<|openG vs t).1=(zr t).1:=by
 have h:=WG (oZ vs t) hv' hv;rcases Zy h.1.symm with⟨hk,_⟩|⟨_,hf,_⟩|⟨_,_,_,e⟩
 .omega
 .rcases hf with q|q<;>omega
 .exact e
abbrev aIs (l:List Int):TV:=.c<|qf<|.sl false 1<|IR l
theorem IR_take (l:List Int)(x:Int):take l.length (IR l)++[[.int .i64 x]]=IR (l++[x]):=by rw[tN<|by simp[IR]];simp[IR]
abbrev obK (k:Key):AObj:=.arr 5 [[qf<|.bool k.any,qi k.k,qf<|.str k.nm,qi k.n,qi k.ar]]
theorem leIs0:TV.Le (.c<|qf .N) (aIs []):=.c _ _<|.a _ _<|.fz _ _<|.N 1
def selL (nm:List UInt8)(ar:Int)(k:Key):List Cd->Int->List Int
 |[],_=> []
 |c::l,i=>if ((c.nm==nm)&&((c.ar==ar)&&xZ (firstK c) k))=true then i::selL nm ar k l (i+1) else selL nm ar k l<|i+1
theorem pj (nm:List UInt8)(ar:Int)(k:Key):∀(l:List Cd) (i:Int),(selL nm ar k l i).length<=l.length
 |[],_=>tJ _
 |c::l,i=>by have:=pj nm ar k l (i+1);rw[selL];split<;>simp only[tC]<;>omega
theorem FC0 (c:Cd):FV.S (getD (FC c) 0 FV.N)=c.nm:=by cases c;rw[FC];rfl
theorem FC1 (c:Cd):FV.I (getD (FC c) 1 FV.N)=c.ar:=by cases c;rw[FC];rfl
theorem FC2 (c:Cd):FV.I (getD (FC c) 2 FV.N)=c.fr:=by cases c;rw[FC];rfl
theorem FC3 (c:Cd):FV.I (getD (FC c) 3 FV.N)=c.vs:=by cases c;rw[FC];rfl
theorem FC4 (c:Cd):FV.I (getD (FC c) 4 FV.N)=c.sl:=by cases c;rw[FC];rfl
theorem FC5 (c:Cd):getD (FC c) 5 FV.N=.sl false 8 (FIs c.ins):=by cases c;rw[FC];rfl
theorem rF (l:List Int)(b:l.length<=300):AC tB 33 [aIs l] [] (aIs l) []:=by
 refine acv (v33 ..) ?_;refine⟨rfl,rfl,rfl,⟨tU _,za,tU _,tU _⟩,zu (λh=>?_) λ_=>?_⟩
 .have:l=[]:=by cases l with
   |nil=>rfl
   |cons x l=>simp[IR] at h;omega
  subst this;exact⟨.c _ _<|.a _ _<|.fz _ _<|.z0 _ _,rfl⟩
 .rw[A3,hJ,tN<|tJ _];exact rrl
theorem el_ (c:Cd)(L:List Cd)(n:Nat)(b:(n:Int)<(((FCs L).length:Nat):Int)):FV.L 6 (.sl false 6<|FCs L)=true/\((0:Int)<=(n:Int)/\((n:Int)<(((FCs L).length:Nat):Int)/\([.str c.nm,.int .i64 c.ar,.int .i64 c.fr,.int .i64 c.vs,.int .i64 c.sl,.sl false 8<|FIs c.ins]:List FV)=FC c)):=⟨rfl,za,b,(iG c).symm⟩
abbrev evS (nm:List UInt8)(ar:Int)(o:TV)(l:List Cd)(i:Int):Env:=[(1,cs nm),(2,ci ar),(7,.c<|.a<|.ep 0 5 0 0),(9,o),(12,aCs l),(13,ci (((FCs l).length:Nat):Int)),(14,ci i)]
theorem dm (nm:List UInt8)(ar:Int)(k:Key):∀(b a:List Cd) (d:List Int),(a++b).length<=300->(∀c∈b,zC c)->d.length<=a.length->
  RPt tB 15 0 (aIs<|d++selL nm ar k b a.length) [] 1 ⟨evS nm ar (.c<|.a<|.osl 1 1 0 d.length) (a++b) a.length,[(0,obK k),(1,.arz 1<|IR d)],2⟩
 |[],a,d,m,o,D=>by
  have j:¬(a.length:Int)<(((FCs<|a++[]).length:Nat):Int):=by rw[yB];simp
  have E:selL nm ar k [] a.length=[]:=rfl;rw[E,tY];have f:=m;simp only[tE,tR] at f;have F:=rF d za;have y:take d.length (drop 0<|IR d)=IR d:=by rw[A3,tN<|by simp[IR]]
  first
   |(refine rpv (pe nm ar d.length (FCs (a++[])) (((FCs (a++[])).length:Nat):Int) a.length k.any k.k k.nm k.n k.ar (IR d) _ _) ?_
     rw[y];exact bF j ⟨⟨rfl,by simp[IR]⟩,_,F,.refl _,rfl⟩)
   |(refine rpv (pe (FCs (a++[])) nm ar d.length a.length k.any k.k k.nm k.n k.ar (IR d) _ _) ?_
     rw[y];exact⟨rfl,bF j ⟨⟨rfl,by simp[IR]⟩,.refl _,rfl⟩⟩)
 |c::b,a,d,m,o,D=>by
  have f:=m;simp only[tE,tC] at f;have e:(a.length:Int)<(((FCs<|a++c::b).length:Nat):Int):=by rw[yB];simp;omega
  have w:=m5 a c b;have A:=mj c<|o c tM;have C:=iT (firstK c) k;have G:FV.L 6 (.sl false 6<|FCs<|a++c::b)=true/\((0:Int)<=(a.length:Int)/\((a.length:Int)<(((FCs<|a++c::b).length:Nat):Int)/\(fCr (FC c):List FV)=FC c)):=⟨rfl,za,e,fCr_FC c⟩;have z:selL nm ar k (c::b) a.length=if ((c.nm==nm)&&((c.ar==ar)&&xZ (firstK c) k))=true then(a.length:Int)::selL nm ar k b ((a.length:Int)+1) else selL nm ar k b ((a.length:Int)+1):=rfl
  have i:((c.nm==nm)&&((c.ar==ar)&&xZ (firstK c) k))=true->RPt tB 15 0 (aIs<|d++selL nm ar k (c::b) a.length) [] 1 ⟨evS nm ar (.c<|.a<|.osl 1 1 0<|d.length+1) (a++c::b)<|(a.length:Int)+1,[(0,obK k),(1,.arz 1<|take d.length (IR d)++[[.int .i64 (a.length:Int)]])],2⟩:=λq=>by have:=dm nm ar k b (a++[c]) (d++[(a.length:Int)]) (zp m) (λu v=>o u<|tK _ v) zj;rw[nx,ap a c b,show(d++[(a.length:Int)]).length=d.length+1 by simp,<-IR_take d (a.length:Int)] at this;rw[z,tG q,show d++(a.length:Int)::selL nm ar k b ((a.length:Int)+1)=(d++[(a.length:Int)])++selL nm ar k b ((a.length:Int)+1) by simp];exact this
  have g:((c.nm==nm)&&((c.ar==ar)&&xZ (firstK c) k))=false->RPt tB 15 0 (aIs<|d++selL nm ar k (c::b) a.length) [] 1 ⟨evS nm ar (.c<|.a<|.osl 1 1 0 d.length) (a++c::b)<|(a.length:Int)+1,[(0,obK k),(1,.arz 1<|IR d)],2⟩:=λq=>by have:=dm nm ar k b (a++[c]) d (zp m) (λu v=>o u<|tK _ v) zj;rw[nx,ap a c b] at this;rw[z,tD<|by rw[q];simp];exact this
  first
   |(refine rpv (pe nm ar d.length (FCs (a++c::b)) (((FCs (a++c::b)).length:Nat):Int) a.length k.any k.k k.nm k.n k.ar (IR d) _ _) ?_
     rw[w64 (x:=(a.length:Int)+1) za za,w,FC0,FC1,FC2,FC3,FC4,FC5];refine bT e ⟨el_ c (a++c::b) a.length e,zu (λh=>zu (λp=>⟨_,_,_,_,_,A,_,C,zu (λr=>⟨tJ _,⟨by simp[IR],by unfold zI;omega⟩,i ?_⟩) λr=>g ?_⟩) λp=>g ?_) λh=>g ?_⟩)
   |(refine rpv (pe (FCs (a++c::b)) nm ar d.length a.length k.any k.k k.nm k.n k.ar (IR d) _ _) ?_
     rw[w64 (x:=(a.length:Int)+1) za za,w,FC0,FC1,FC2,FC3,FC4,FC5];refine⟨rfl,bT e ⟨el_ c (a++c::b) a.length e,zu (λh=>⟨el_ c (a++c::b) a.length e,zu (λp=>⟨el_ c (a++c::b) a.length e,_,_,_,_,_,A,_,C,zu (λr=>⟨tJ _,⟨by simp[IR],by unfold zI;omega⟩,i ?_⟩) λr=>g ?_⟩) λp=>g ?_⟩) λh=>g ?_⟩⟩)
  all_goals simp_all
theorem mP (nm:List UInt8)(ar:Int)(k:Key):∀(b a:List Cd),(a++b).length<=300->(∀c∈b,zC c)->
  RPt tB 15 0 (aIs<|selL nm ar k b a.length) [] 1 ⟨evS nm ar (.c<|qf .N) (a++b) a.length,[(0,obK k)],1⟩
 |[],a,j,i=>by
  have g:¬(a.length:Int)<(((FCs<|a++[]).length:Nat):Int):=by rw[yB];simp
  have A:=(rF [] zb).args (args:=[.c<|qf .N]) ⟨leIs0,trivial⟩
  first
   |(refine rpv (bg nm ar (FCs (a++[])) (((FCs (a++[])).length:Nat):Int) a.length k.any k.k k.nm k.n k.ar _ _) ?_
     exact bF g ⟨_,A,.refl _,rfl⟩)
   |(refine rpv (bg (FCs (a++[])) nm ar a.length k.any k.k k.nm k.n k.ar _ _) ?_
     exact⟨rfl,bF g ⟨leIs0,rfl⟩⟩)
 |c::b,a,j,i=>by
  have m:=j;simp only[tE,tC] at m;have d:(a.length:Int)<(((FCs<|a++c::b).length:Nat):Int):=by rw[yB];simp;omega
  have v:=m5 a c b;have y:=mj c<|i c tM;have z:=iT (firstK c) k;have w:selL nm ar k (c::b) a.length=if ((c.nm==nm)&&((c.ar==ar)&&xZ (firstK c) k))=true then(a.length:Int)::selL nm ar k b ((a.length:Int)+1) else selL nm ar k b ((a.length:Int)+1):=rfl
  have f:((c.nm==nm)&&((c.ar==ar)&&xZ (firstK c) k))=true->RPt tB 15 0 (aIs<|selL nm ar k (c::b) a.length) [] 1 ⟨evS nm ar (.c<|.a<|.osl 1 1 0 1) (a++c::b)<|(a.length:Int)+1,[(0,obK k),(1,.arz 1 [[.int .i64 (a.length:Int)]])],2⟩:=λq=>by have:=dm nm ar k b (a++[c]) [(a.length:Int)] (zp j) (λu r=>i u<|tK _ r) zb;rw[nx,ap a c b] at this;rw[w,tG q];exact this
  have e:((c.nm==nm)&&((c.ar==ar)&&xZ (firstK c) k))=false->RPt tB 15 0 (aIs<|selL nm ar k (c::b) a.length) [] 1 ⟨evS nm ar (.c<|qf .N) (a++c::b)<|(a.length:Int)+1,[(0,obK k)],1⟩:=λq=>by have:=mP nm ar k b (a++[c]) (zp j) λu r=>i u<|tK _ r;rw[nx,ap a c b] at this;rw[w,tD<|by rw[q];simp];exact this
  first
   |(refine rpv (bg nm ar (FCs (a++c::b)) (((FCs (a++c::b)).length:Nat):Int) a.length k.any k.k k.nm k.n k.ar _ _) ?_
     rw[w64 (x:=(a.length:Int)+1) za za,v,FC0,FC1,FC2,FC3,FC4,FC5];refine bT d ⟨el_ c (a++c::b) a.length d,zu (λh=>zu (λo=>⟨_,_,_,_,_,y,_,z,zu (λp=>⟨tJ _,by unfold zI;omega,f ?_⟩) λp=>e ?_⟩) λo=>e ?_) λh=>e ?_⟩)
   |(refine rpv (bg (FCs (a++c::b)) nm ar a.length k.any k.k k.nm k.n k.ar _ _) ?_
     rw[w64 (x:=(a.length:Int)+1) za za,v,FC0,FC1,FC2,FC3,FC4,FC5];refine⟨rfl,bT d ⟨el_ c (a++c::b) a.length d,zu (λh=>⟨el_ c (a++c::b) a.length d,zu (λo=>⟨el_ c (a++c::b) a.length d,_,_,_,_,_,y,_,z,zu (λp=>⟨tJ _,by unfold zI;omega,f ?_⟩) λp=>e ?_⟩) λo=>e ?_⟩) λh=>e ?_⟩⟩)
  all_goals simp_all
theorem c_isel (l:List Cd)(d:l.length<=300)(b:∀c∈l,zC c)(nm:List UInt8)(ar:Int)(k:Key):AC tB 15 [aCs l,cs nm,ci ar,aK k] [] (aIs<|selL nm ar k l 0) []:=by
 have h:=mP nm ar k l [] d b;refine acv (v15 ..) ?_
 first|exact⟨rfl,h⟩|exact h
end Go.AM
