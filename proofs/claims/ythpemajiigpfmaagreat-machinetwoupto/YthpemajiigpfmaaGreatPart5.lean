/- Laws, part 5. No conditions. -/
import Derived.Test.YthpemajiigpfmaaGreatPart4
set_option linter.all false
set_option maxRecDepth 100000
open Go Go.Proofs
open Go.IntKind (wrap)
open List (getD take drop)
open Int (toNat)
namespace Go.AM
def gF:∀ {l} {u},yL l=true->u∈l->zt u=true
 |x::l,u,h,hu=>by
  rw[yL,EN] at h;rcases S4.1 hu with rfl|hu
  .exact h.1
  .exact gF h.2 hu
def vL_of {k n s l}(h:zt (.mk k s n l)=true)(b:k=5\/k=6):yL l=true:=by rw[zt] at h;grind
def Gw.nm {s z K}(h:Gw s z)(i:z.1.2=0)(g:NmB K s):NmB K z.2:=by let ⟨_,d,e,f,b⟩:=h;rw[EL i] at b;unfold NmB at*;grind
def NmB.put {K s}(g:NmB K s)(c):NmB K (putS s c).2:=by let ⟨b,_,_,d,_⟩:=pg s c;unfold NmB at*;rw[b];omega
def NmB.set {K s}(g:NmB K s)(a c):NmB K (setS s a c).2:=by let ⟨b,_,_,d⟩:=nJ s a c;unfold NmB at*;rw[b];omega
def k56 {k n s l}(h:zt (.mk k s n l)=true)(g:k≠0)(i:k≠1)(e:k≠2)(f:k≠3)(j:k≠4):k=5\/k=6:=by rw[zt] at h;grind
def c_hvarA  (s n) (i:0<=n):AC EF 186 [aH 0,ci n,.c<|qf .N] (oH s) (t2<|varE none s.C n) (oH s):=by
 refine acv (v186_i1 ..) ?_
 first
 |(have f:=ZP s n
   exact⟨_,f,zm (λh=>⟨by rw[varE,EG<|zl h];exact .refl _,rfl⟩) λh=>⟨by rw[varE,EL zd];exact .refl _,rfl⟩⟩)
 |(have j:=zD vs
   refine⟨rfl,zm (λh=>⟨?_,rfl⟩) λh=>?_⟩
   .rfl
   .have h:=ES h;have b:n.toNat<vs.length:=za;rw[wW b];have e:vs.getD n.toNat 0=vs[n.toNat]:=zb;refine⟨⟨rfl,i,za,rfl⟩,_,(ZP s _),zm (λd=>⟨?_,rfl⟩) λd=>⟨?_,rfl⟩⟩
    .rfl
    .rw[varE,EG za,e,EL<|eq_of_beq d];exact .refl _)
 |(have j:=zD g
   refine zm (λh=>⟨?_,rfl⟩) (λh=>?_)
   .rfl
   .have h:=ES h;have b:n.toNat<g.length:=zb;rw[Sa,wW b];have e:g.getD n.toNat 0=g[n.toNat]:=zb;refine⟨⟨i,za⟩,⟨za,rfl,rfl⟩,_,(ZP s<|g[n.toNat]),zm (λd=>⟨?_,rfl⟩) λd=>⟨?_,rfl⟩⟩
    .rfl
    .rw[varE,EG zb,e,EL<|eq_of_beq d];exact .refl _)
abbrev stEnA  (f:Int) (x:List Tm) (n i:Int) (s:Hp):St:=
 ⟨[(0,aH 0),(2,.c<|qf .N),(8,ci f),(89,aL x),(90,ci n),(91,ci i)],[(0,hp6 5 6 7 4 s),(1,.gone),(2,.gone),(3,.gone),(4,.mapz<|NM s.N 0),(5,.arz 5<|CR s.C),(6,.arz 7<|TR s.T),(7,.arz 1<|NR s.N)],8⟩
def l_encA (K)(E:K<=100000000000)  :∀(b d) (f) (s),(∀u∈b,∀s,OkH s->NmB K s->AC EF 159 [aH 0,aT u,.c<|qf .N] (oH s) (t2 (encE none u s).1) (oH' (encE none u s).2))->(d++b).length<=B->OkH s->NmB K s->
  RPt EF 159 5 (t2 (encR none b f s).1) (oH' (encR none b f s).2) 5 (stEnA  f (d++b) ((d++b).length) d.length s)
 |[],d,f,s,_,_,_,_=>by refine rpv (WH ..) ?_;exact bF (by simp only[S6];omega) ⟨by rw[encR];exact .refl _,by rw[encR]⟩
 |u::b,d,f,s,p,m,ok,nm=>by
  have e:=zn<|d++u::b;have G:d.length<(d++u::b).length:=zb;have A:=p u ET s ok nm;have o:=vP none u s;have F:encR none (u::b) f s=if (encE none u s).1.2≠0 then((0,(encE none u s).1.2),(encE none u s).2) else if (putS (encE none u s).2 ⟨7,f,(encE none u s).1.1,0,0⟩).1.2≠0 then((0,(putS (encE none u s).2 ⟨7,f,(encE none u s).1.1,0,0⟩).1.2),(putS (encE none u s).2 ⟨7,f,(encE none u s).1.1,0,0⟩).2) else encR none b (putS (encE none u s).2 ⟨7,f,(encE none u s).1.1,0,0⟩).1.1 (putS (encE none u s).2 ⟨7,f,(encE none u s).1.1,0,0⟩).2:=by rw[encR]
  have g:=o.1 ok;have j:=λh=>o.nm (K:=K) h nm;generalize encE none u s=z at*;have D:=wd z.2 ⟨7,f,z.1.1,0,0⟩ (by have:=g.C;omega);have nx:=λh=>l_encA K E  b (d++[u]) (putS z.2 ⟨7,f,z.1.1,0,0⟩).1.1 (putS z.2 ⟨7,f,z.1.1,0,0⟩).2 (λv r=>p v<|EP _ r) (zl m) (g.put _)<|(j h).put _;rw[show(d++[u])++b=d++u::b by simp,show(((d++[u]).length))=d.length+1 by simp] at nx;generalize putS z.2 ⟨7,f,z.1.1,0,0⟩=y at*;simp[B] at m;refine rpv (WH ..) ?_;rw[vW,w64 (x:=d.length+1) za za,F];refine zm (λ_=>⟨⟨rfl,za,by rw[e];omega,wy d u b⟩,z,A,yg (λq=>?_) λq=>⟨y,D,yg (λi=>?_) λi=>?_⟩⟩) (λq=>absurd (ES q) za)
  .rw[EL q];exact rrl
  .rw[EG λw=>w q,EL i];exact rrl
  .rw[EG λw=>w q,EG λw=>w i];exact nx q
def c_encA (K)(Y:K<=100000000000)  :∀t,zt t=true->t.sz<=B->∀s,OkH s->NmB K s->AC EF 159 [aH 0,aT t,.c<|qf .N] (oH s) (t2 (encE none t s).1) (oH' (encE none t s).2):=by
 refine Tm.ind λt ih=>?_;let ⟨k,b,n,l⟩:=t;intro d U s ok nm;have hsz:Tm.szs l+1<=B:=by simp[Tm.sz] at U;omega
 have E:=Tm.szs_length l;refine acv (v159_i1 k b n (FTs l)  ..) ?_;have S:=ok.C;have hnm:s.N.length<=s.C.length+K:=nm;refine zF (λe0=>?_) λf=>zF (λM=>?_) λi=>zF (λL=>?_) λj=>zF (λH=>?_) λy=>zF (λD=>?_) λI=>?_
 .have X:=c_hsym s b za;exact⟨symS s b,X,_,(wd (symS s b).2 ⟨0,(symS s b).1,0,0,0⟩<|by unfold symS;split<;>simp<;>omega),by rw[encE,EL e0];exact .refl _,by rw[encE,EL e0]⟩
 .exact⟨_,wd s ⟨1,n,0,0,0⟩ za,by rw[encE,EG f,EL M];exact .refl _,by rw[encE,EG f,EL M]⟩
 .exact⟨_,wd s ⟨2,n,0,0,0⟩ za,by rw[encE,EG f,EG i,EL L];exact .refl _,by rw[encE,EG f,EG i,EL L]⟩
 .exact⟨_,wd s ⟨3,n,0,0,0⟩ za,by rw[encE,EG f,EG i,EG j,EL H];exact .refl _,by rw[encE,EG f,EG i,EG j,EL H]⟩
 .have h4:0<=n:=by subst D;rw[zt] at d;simp at d;exact d.1.1.1.1
  exact⟨_,c_hvarA  s n h4,by rw[encE,EG f,EG i,EG j,EG y,EL D];exact .refl _,by rw[encE,EG f,EG i,EG j,EG y,EL D]⟩
 .have r:=k56 d f i j y I;have p:=vL_of d r;have hE:encE none (.mk k b n l) s=encL none k l s:=by rw[encE,EG f,EG i,EG j,EG y,EG I]
  rw[hE];have G:l≠[]:=by intro e;subst e;rcases r with rfl|rfl<;>simp[zt,zn] at d
  match l,G with
  |u::l,_=>
   have g:=zn<|u::l;have O:=ih u ET (gF p ET) (by have:=Tm.szs_mem (t:=u) (l:=u::l) ET;omega) s ok nm;have J:=vP none u s;have hL:encL none k (u::l) s=if (encE none u s).1.2≠0 then((0,(encE none u s).1.2),(encE none u s).2) else if k=5 then putS (encE none u s).2 ⟨6,(encE none u s).1.1,0,0,0⟩ else encR none l (encE none u s).1.1 (encE none u s).2:=by rw[encL]
   rw[hL];have x:=J.1 ok;generalize encE none u s=z at*;have V:drop 1 (take (toNat<|((FTs<|u::l).length))<|FTs<|u::l)=FTs l:=by rw[S3,EV<|EI _];rfl
   have Z:aE (getD (FTs<|u::l) 0 [])=aT u:=xb u;rw[Z,V];refine⟨⟨rfl,EQ _,by rw[g];simp only[EH];omega,yO u⟩,z,O,yg (λq=>?_) λq=>zF (λT=>?_) λW=>⟨rfl,⟨za,zd,EQ _⟩,rfl,?_⟩⟩
   .rw[EL q];exact rrl
   .rw[EG λw=>w q,EL T];exact⟨_,(wd z.2 ⟨6,z.1.1,0,0,0⟩<|by have:=x.C;omega),.refl _,rfl⟩
   .rw[EG λw=>w q,EG W,zn];exact(λh=>l_encA K Y  l [] z.1.1 z.2 (λv d s o m=>ih v (EP _ d) (gF p<|EP _ d) (by have:=Tm.szs_mem (t:=v) (l:=u::l) (EP _ d);omega) s o m) (by simp[SD];simp[EH] at E;omega) x<|(λh=>J.nm (K:=K) h nm) h) q
def c_EncA (K)(x:K<=100000000000)  (t)(r:t.sz<=B)(s)(ok:OkH s)(nm:NmB K s):AC EF 114 [aH 0,aT t,.c<|qf .N] (oH s) (t2 (encS none s t).1) (oH' (encS none s t).2):=by
 have f:=xR t r;have j:=λh=>c_encA K x  t h r s ok nm;let ⟨_,d,e,u,_⟩:=vP none t s;have e0:encS none s t=if zt t=false then((0,1),s) else if (encE none t s).1.2≠0 then((0,(encE none t s).1.2),⟨(encE none t s).2.C.take s.C.length,(encE none t s).2.T,(encE none t s).2.M,(encE none t s).2.L,(encE none t s).2.N⟩) else encE none t s:=rfl
 rw[e0];have m:s.C.length<=(encE none t s).2.C.length:=by rw[u];simp
 generalize encE none t s=z at*;by_cases g:zt t=false
 .rw[EL g];let ⟨k,b,n,l⟩:=t;refine acv (cG k b n (FTs l)  ..) ?_;exact⟨_,f,zm (λ_=>rrl) λh=>by rw[g] at h;cases h⟩
 .rw[EG g];have g:zt t=true:=zl g;have j:=j g;by_cases q:z.1.2=0
  .rw[EG λw=>w q];let ⟨k,b,n,l⟩:=t;refine acv (cG k b n (FTs l)  ..) ?_;refine⟨_,f,zm (λh=>by rw[g] at h;cases h) λ_=>⟨z,j,yg (λw=>absurd q w) λ_=>?_⟩⟩;let ⟨⟨D,y⟩,E⟩:=z;dsimp only at q;subst q;exact rrl
  .rw[EL q];refine AC.obj (Hs':=[.arr 6 [[.a<|.osl 5 5 0 s.C.length,.a<|.osl 6 7 0 z.2.T.length,qi z.2.M,qi z.2.L,.a<|.osl 7 1 0 z.2.N.length,.a<|.mp 4]],.gone,.gone,.gone,.mapz<|NM z.2.N 0,  .arz 5<|CR z.2.C,.arz 7<|TR z.2.T,.arz 1<|NR z.2.N]) ?_ ⟨?_,.refl _,.refl _,.refl _,.refl _,?_,.refl _,.refl _,trivial⟩
   .let ⟨k,b,n,l⟩:=t;refine acv (cG k b n (FTs l)  ..) ?_;refine⟨_,f,zm (λh=>by rw[g] at h;cases h) λ_=>⟨z,j,yg (λw=>⟨⟨EQ _,za,za⟩,.refl _,?_⟩) λw=>absurd w q⟩⟩;rw[S3]
   .rw[hp6];simp[S8,G2 m];exact .refl _
   .refine Jq (by rw[xr,xr,S8];omega) λi e A j o=>?_;rw[CR,EX] at j o;obtain⟨v,f,rfl⟩:=EM.1 o;obtain⟨F,p,rfl⟩:=EM.1 j;rw[Sy] at f;split at f
    .rw[p] at f;injection f with f;subst f;exact LeR.refl _
    .cases f
def c_hvarB (vs s n)(i:0<=n):AC EF 186 [aH 0,ci n,.c<|qf<|.sl true 1<|IR vs] (oH s) (t2<|varE (some vs) s.C n) (oH s):=by
 refine acv (v186 ..) ?_
 first
 |(have f:=ZP s n
   exact⟨_,f,zm (λh=>⟨zb,rfl⟩) λh=>⟨zb,rfl⟩⟩)
 |(have j:=zD vs
   refine⟨rfl,zm (λh=>⟨?_,rfl⟩) λh=>?_⟩
   .have h:=S0 h;rw[varE,EL za];exact .refl _
   .have h:=ES h;have b:n.toNat<vs.length:=za;rw[wW b];have e:vs.getD n.toNat 0=vs[n.toNat]:=by simp[getD,b]
    refine⟨⟨rfl,i,za,rfl⟩,_,(ZP s<|vs[n.toNat]),zm (λd=>⟨?_,rfl⟩) λd=>⟨?_,rfl⟩⟩
    .rw[varE,EG za,e,EG<|zl d];exact .refl _
    .rw[varE,EG za,e,EL zd];exact .refl _)
 |(have j:=zD g
   refine zm (λh=>⟨?_,rfl⟩) (λh=>?_)
   .rfl
   .have h:=ES h;have b:n.toNat<g.length:=zb;rw[Sa,wW b];have e:g.getD n.toNat 0=g[n.toNat]:=zb;refine⟨⟨i,za⟩,⟨za,rfl,rfl⟩,_,(ZP s<|g[n.toNat]),zm (λd=>⟨?_,rfl⟩) λd=>⟨?_,rfl⟩⟩
    .rfl
    .rw[varE,EG zb,e,EL<|eq_of_beq d];exact .refl _)
abbrev stEnB (vs:List Int)(f:Int)(x:List Tm)(n i:Int)(s:Hp):St:=
 ⟨[(0,aH 0),(2,.c<|qf<|.sl true 1<|IR vs),(8,ci f),(89,aL x),(90,ci n),(91,ci i)],[(0,hp6 5 6 7 4 s),(1,.gone),(2,.gone),(3,.gone),(4,.mapz<|NM s.N 0),(5,.arz 5<|CR s.C),(6,.arz 7<|TR s.T),(7,.arz 1<|NR s.N)],8⟩
def l_encB (K)(E:K<=100000000000)(vs):∀(b d) (f) (s),(∀u∈b,∀s,OkH s->NmB K s->AC EF 159 [aH 0,aT u,.c<|qf<|.sl true 1<|IR vs] (oH s) (t2 (encE (some vs) u s).1) (oH' (encE (some vs) u s).2))->(d++b).length<=B->OkH s->NmB K s->
  RPt EF 159 5 (t2 (encR (some vs) b f s).1) (oH' (encR (some vs) b f s).2) 5 (stEnB vs f (d++b) ((d++b).length) d.length s)
 |[],d,f,s,_,_,_,_=>by refine rpv (tP ..) ?_;exact bF (by simp only[S6];omega) ⟨by rw[encR];exact .refl _,by rw[encR]⟩
 |u::b,d,f,s,p,m,ok,nm=>by
  have e:=zn<|d++u::b;have G:d.length<(d++u::b).length:=zb;have A:=p u ET s ok nm;have o:=vP (some vs) u s;have F:encR (some vs) (u::b) f s=if (encE (some vs) u s).1.2≠0 then((0,(encE (some vs) u s).1.2),(encE (some vs) u s).2) else if (putS (encE (some vs) u s).2 ⟨7,f,(encE (some vs) u s).1.1,0,0⟩).1.2≠0 then((0,(putS (encE (some vs) u s).2 ⟨7,f,(encE (some vs) u s).1.1,0,0⟩).1.2),(putS (encE (some vs) u s).2 ⟨7,f,(encE (some vs) u s).1.1,0,0⟩).2) else encR (some vs) b (putS (encE (some vs) u s).2 ⟨7,f,(encE (some vs) u s).1.1,0,0⟩).1.1 (putS (encE (some vs) u s).2 ⟨7,f,(encE (some vs) u s).1.1,0,0⟩).2:=by rw[encR]
  have g:=o.1 ok;have j:=λh=>o.nm (K:=K) h nm;generalize encE (some vs) u s=z at*;have D:=wd z.2 ⟨7,f,z.1.1,0,0⟩ (by have:=g.C;omega);have nx:=λh=>l_encB K E vs b (d++[u]) (putS z.2 ⟨7,f,z.1.1,0,0⟩).1.1 (putS z.2 ⟨7,f,z.1.1,0,0⟩).2 (λv r=>p v<|EP _ r) (zl m) (g.put _)<|(j h).put _;rw[show(d++[u])++b=d++u::b by simp,show(((d++[u]).length))=d.length+1 by simp] at nx;generalize putS z.2 ⟨7,f,z.1.1,0,0⟩=y at*;simp[B] at m;refine rpv (tP ..) ?_;rw[vW,w64 (x:=d.length+1) za za,F];refine zm (λ_=>⟨⟨rfl,za,by rw[e];omega,wy d u b⟩,z,A,yg (λq=>?_) λq=>⟨y,D,yg (λi=>?_) λi=>?_⟩⟩) (λq=>absurd (ES q) za)
  .rw[EL q];exact rrl
  .rw[EG λw=>w q,EL i];exact rrl
  .rw[EG λw=>w q,EG λw=>w i];exact nx q
def c_encB (K)(Y:K<=100000000000)(vs):∀t,zt t=true->t.sz<=B->∀s,OkH s->NmB K s->AC EF 159 [aH 0,aT t,.c<|qf<|.sl true 1<|IR vs] (oH s) (t2 (encE (some vs) t s).1) (oH' (encE (some vs) t s).2):=by
 refine Tm.ind λt ih=>?_;let ⟨k,b,n,l⟩:=t;intro d U s ok nm;have hsz:Tm.szs l+1<=B:=by simp[Tm.sz] at U;omega
 have E:=Tm.szs_length l;refine acv (v159 k b n (FTs l) (IR vs) ..) ?_;have S:=ok.C;have hnm:s.N.length<=s.C.length+K:=nm;refine zF (λe0=>?_) λf=>zF (λM=>?_) λi=>zF (λL=>?_) λj=>zF (λH=>?_) λy=>zF (λD=>?_) λI=>?_
 .have X:=c_hsym s b za;exact⟨symS s b,X,_,(wd (symS s b).2 ⟨0,(symS s b).1,0,0,0⟩<|by unfold symS;split<;>simp<;>omega),by rw[encE,EL e0];exact .refl _,by rw[encE,EL e0]⟩
 .exact⟨_,wd s ⟨1,n,0,0,0⟩ za,by rw[encE,EG f,EL M];exact .refl _,by rw[encE,EG f,EL M]⟩
 .exact⟨_,wd s ⟨2,n,0,0,0⟩ za,by rw[encE,EG f,EG i,EL L];exact .refl _,by rw[encE,EG f,EG i,EL L]⟩
 .exact⟨_,wd s ⟨3,n,0,0,0⟩ za,by rw[encE,EG f,EG i,EG j,EL H];exact .refl _,by rw[encE,EG f,EG i,EG j,EL H]⟩
 .have h4:0<=n:=by subst D;rw[zt] at d;simp at d;exact d.1.1.1.1
  exact⟨_,c_hvarB vs s n h4,by rw[encE,EG f,EG i,EG j,EG y,EL D];exact .refl _,by rw[encE,EG f,EG i,EG j,EG y,EL D]⟩
 .have r:=k56 d f i j y I;have p:=vL_of d r;have hE:encE (some vs) (.mk k b n l) s=encL (some vs) k l s:=by rw[encE,EG f,EG i,EG j,EG y,EG I]
  rw[hE];have G:l≠[]:=by intro e;subst e;rcases r with rfl|rfl<;>simp[zt,zn] at d
  match l,G with
  |u::l,_=>
   have g:=zn<|u::l;have O:=ih u ET (gF p ET) (by have:=Tm.szs_mem (t:=u) (l:=u::l) ET;omega) s ok nm;have J:=vP (some vs) u s;have hL:encL (some vs) k (u::l) s=if (encE (some vs) u s).1.2≠0 then((0,(encE (some vs) u s).1.2),(encE (some vs) u s).2) else if k=5 then putS (encE (some vs) u s).2 ⟨6,(encE (some vs) u s).1.1,0,0,0⟩ else encR (some vs) l (encE (some vs) u s).1.1 (encE (some vs) u s).2:=by rw[encL]
   rw[hL];have x:=J.1 ok;generalize encE (some vs) u s=z at*;have V:drop 1 (take (toNat<|((FTs<|u::l).length))<|FTs<|u::l)=FTs l:=by rw[S3,EV<|EI _];rfl
   have Z:aE (getD (FTs<|u::l) 0 [])=aT u:=xb u;rw[Z,V];refine⟨⟨rfl,EQ _,by rw[g];simp only[EH];omega,yO u⟩,z,O,yg (λq=>?_) λq=>zF (λT=>?_) λW=>⟨rfl,⟨za,zd,EQ _⟩,rfl,?_⟩⟩
   .rw[EL q];exact rrl
   .rw[EG λw=>w q,EL T];exact⟨_,(wd z.2 ⟨6,z.1.1,0,0,0⟩<|by have:=x.C;omega),.refl _,rfl⟩
   .rw[EG λw=>w q,EG W,zn];exact(λh=>l_encB K Y vs l [] z.1.1 z.2 (λv d s o m=>ih v (EP _ d) (gF p<|EP _ d) (by have:=Tm.szs_mem (t:=v) (l:=u::l) (EP _ d);omega) s o m) (by simp[SD];simp[EH] at E;omega) x<|(λh=>J.nm (K:=K) h nm) h) q
def c_EncB (K)(x:K<=100000000000)(vs t)(r:t.sz<=B)(s)(ok:OkH s)(nm:NmB K s):AC EF 114 [aH 0,aT t,.c<|qf<|.sl true 1<|IR vs] (oH s) (t2 (encS (some vs) s t).1) (oH' (encS (some vs) s t).2):=by
 have f:=xR t r;have j:=λh=>c_encB K x vs t h r s ok nm;let ⟨_,d,e,u,_⟩:=vP (some vs) t s;have e0:encS (some vs) s t=if zt t=false then((0,1),s) else if (encE _ t s).1.2≠0 then((0,(encE _ t s).1.2),⟨(encE _ t s).2.C.take s.C.length,(encE _ t s).2.T,(encE _ t s).2.M,(encE _ t s).2.L,(encE _ t s).2.N⟩) else encE _ t s:=rfl
 rw[e0];have m:s.C.length<=(encE (some vs) t s).2.C.length:=by rw[u];simp
 generalize encE (some vs) t s=z at*;by_cases g:zt t=false
 .rw[EL g];let ⟨k,b,n,l⟩:=t;refine acv (v114 k b n (FTs l) (IR vs) ..) ?_;exact⟨_,f,zm (λ_=>rrl) λh=>by rw[g] at h;cases h⟩
 .rw[EG g];have g:zt t=true:=zl g;have j:=j g;by_cases q:z.1.2=0
  .rw[EG λw=>w q];let ⟨k,b,n,l⟩:=t;refine acv (v114 k b n (FTs l) (IR vs) ..) ?_;refine⟨_,f,zm (λh=>by rw[g] at h;cases h) λ_=>⟨z,j,yg (λw=>absurd q w) λ_=>?_⟩⟩;let ⟨⟨D,y⟩,E⟩:=z;dsimp only at q;subst q;exact rrl
  .rw[EL q];refine AC.obj (Hs':=[.arr 6 [[.a<|.osl 5 5 0 s.C.length,.a<|.osl 6 7 0 z.2.T.length,qi z.2.M,qi z.2.L,.a<|.osl 7 1 0 z.2.N.length,.a<|.mp 4]],.gone,.gone,.gone,.mapz<|NM z.2.N 0,  .arz 5<|CR z.2.C,.arz 7<|TR z.2.T,.arz 1<|NR z.2.N]) ?_ ⟨?_,.refl _,.refl _,.refl _,.refl _,?_,.refl _,.refl _,trivial⟩
   .let ⟨k,b,n,l⟩:=t;refine acv (v114 k b n (FTs l) (IR vs) ..) ?_;refine⟨_,f,zm (λh=>by rw[g] at h;cases h) λ_=>⟨z,j,yg (λw=>⟨⟨EQ _,za,za⟩,.refl _,?_⟩) λw=>absurd w q⟩⟩;rw[S3]
   .rw[hp6];simp[S8,G2 m];exact .refl _
   .refine Jq (by rw[xr,xr,S8];omega) λi e A j o=>?_;rw[CR,EX] at j o;obtain⟨v,f,rfl⟩:=EM.1 o;obtain⟨F,p,rfl⟩:=EM.1 j;rw[Sy] at f;split at f
    .rw[p] at f;injection f with f;subst f;exact LeR.refl _
    .cases f
structure Wp where
 s:Hp
 f:Int
structure Sd where
 h:Int
 js:List Int
 c:Cel
abbrev noS:Sd:=⟨0,[],noC⟩
def lookW (w:Wp)(a:Int):(Sd×Int)×Wp:=
 if (yK w.s a w.f).1.2.2≠0 then((noS,(yK w.s a w.f).1.2.2),⟨(yK w.s a w.f).2,w.f⟩) else((⟨(yK w.s a w.f).1.1.1,(yK w.s a w.f).1.1.2,zB (yK w.s a w.f).2.C (yK w.s a w.f).1.1.1⟩,0),⟨(yK w.s a w.f).2,(yK w.s a w.f).1.2.1⟩)
def w9 (w:Wp)(a:Int):(Tm×Int)×Wp:=
 (((xe w.s a w.f).1.1,(xe w.s a w.f).1.2.2),⟨(xe w.s a w.f).2,if (xe w.s a w.f).1.2.2=0 then(xe w.s a w.f).1.2.1 else w.f⟩)
def lfZ (a b:Tm):=a.k==b.k&&a.n==b.n
def u9 (t:Tm):=if zt t=true then(if (zU t).k=3\/(zU t).k=1 then(zU t,true) else(noT,false)) else(noT,false)
def badZ (lv:Int)(out:List Tm)(u:Tm):= !(u9 u).2||(u9 u).1.k==1&&decide ((u9 u).1.n<=lv)||out.any λv=>lfZ v (u9 u).1
def zA (lv:Int):List Int->List Tm->Wp->(List Tm×Int)×Wp
 |[],out,w=>((out,0),w)
 |a::l,out,w=>
  if (w9 w a).1.2≠0 then(([],(w9 w a).1.2),(w9 w a).2) else if badZ lv out (w9 w a).1.1=true then(([],171),(w9 w a).2) else zA lv l (out++[(u9 (w9 w a).1.1).1]) (w9 w a).2
abbrev bndT (n:Int):Tm:=.mk 3 [] n []
def setW (w:Wp)(x:Int)(t:Tm):Int×Wp:=
 if (encS none w.s t).1.2≠0 then((encS none w.s t).1.2,⟨(encS none w.s t).2,w.f⟩) else((setS (encS none w.s t).2 x ⟨5,(encS none w.s t).1.1,0,0,0⟩).1,⟨(setS (encS none w.s t).2 x ⟨5,(encS none w.s t).1.1,0,0,0⟩).2,w.f⟩)
def yp (s:Hp)(lv:Int):=putS s ⟨4,zS [lv,0],0,0,0⟩
def wZ (w:Wp)(x lv:Int)(lams:Nat)(on:List Tm):=
 if (yp w.s lv).1.2≠0 then((noT,(yp w.s lv).1.2),⟨(yp w.s lv).2,w.f⟩) else((.mk 4 [] (yp w.s lv).1.1 [],(setW ⟨(yp w.s lv).2,w.f⟩ x<|w5 lams<|zH (.mk 4 [] (yp w.s lv).1.1 []) on).1),(setW ⟨(yp w.s lv).2,w.f⟩ x<|w5 lams<|zH (.mk 4 [] (yp w.s lv).1.1 []) on).2)
def onZ:List Tm->List Tm->List Tm
 |a::l,b::m=>(if lfZ a b=true then [bndT (l.length:Int)] else [])++onZ l m
 |_,_=> []
def uZ (w:Wp)(x y:Sd):=
 if (zA x.c.a x.js [] w).1.2≠0 then((zA x.c.a x.js [] w).1.2,(zA x.c.a x.js [] w).2) else if (zA y.c.a y.js [] (zA x.c.a x.js [] w).2).1.2≠0 then((zA y.c.a y.js [] (zA x.c.a x.js [] w).2).1.2,(zA y.c.a y.js [] (zA x.c.a x.js [] w).2).2) else if (zA x.c.a x.js [] w).1.1.length≠(zA y.c.a y.js [] (zA x.c.a x.js [] w).2).1.1.length then(171,(zA y.c.a y.js [] (zA x.c.a x.js [] w).2).2) else if (onZ (zA x.c.a x.js [] w).1.1 (zA y.c.a y.js [] (zA x.c.a x.js [] w).2).1.1).length=(zA x.c.a x.js [] w).1.1.length then(0,(zA y.c.a y.js [] (zA x.c.a x.js [] w).2).2)
 else((wZ (zA y.c.a y.js [] (zA x.c.a x.js [] w).2).2 x.h x.c.a (zA x.c.a x.js [] w).1.1.length<|onZ (zA x.c.a x.js [] w).1.1 (zA y.c.a y.js [] (zA x.c.a x.js [] w).2).1.1).1.2,
  (wZ (zA y.c.a y.js [] (zA x.c.a x.js [] w).2).2 x.h x.c.a (zA x.c.a x.js [] w).1.1.length<|onZ (zA x.c.a x.js [] w).1.1 (zA y.c.a y.js [] (zA x.c.a x.js [] w).2).1.1).2)
structure Iv where
 x:Int
 lv:Int
 l:List Tm
def ixZ (o:Tm):List Tm->Option Nat
 |[]=>none
 |u::l=>if lfZ u o=true then some l.length else ixZ o l
def outZ (t:Tm)(k:Int):=if t.k=3 then .mk t.k t.s (wr<|t.n-k) t.l else t
def vG (v:Iv)(t:Tm)(k:Int):=
 if t.k=3/\t.n<k then(t,true)
 else match ixZ (outZ t k) v.l with
  |some r=>(bndT<|k+r,true)
  |none=>(t,t.k==1&&decide (t.n<=v.lv))
def im1 (v:Iv)(k:Int):List Tm->List Tm×List Tm
 |[]=>([],[])
 |t::l=>if (vG v t k).2=true then(bndT (l.length:Int)::(im1 v k l).1,(vG v t k).1::(im1 v k l).2) else im1 v k l
def im2 (lv vlv k:Int):List Tm->List Tm×List Tm
 |[]=>([],[])
 |t::l=>if lv>vlv/\t.k=1/\t.n<=lv then(t::(im2 lv vlv k l).1,bndT (k+(l.length:Int))::(im2 lv vlv k l).2) else im2 lv vlv k l
def ZX (v:Iv)(y:Sd)(k:Int)(z:(List Tm×Int)×Wp):=
 if z.1.2≠0 then((noT,z.1.2),z.2) else if (im1 v k z.1.1).1.length=z.1.1.length/\y.c.a<=v.lv then((zH (.mk 4 [] y.h []) (im1 v k z.1.1).2,0),z.2)
 else((zH (wZ z.2 y.h (yb [v.lv,y.c.a]) z.1.1.length<|(im1 v k z.1.1).1++(im2 y.c.a v.lv k v.l).1).1.1<|(im1 v k z.1.1).2++(im2 y.c.a v.lv k v.l).2,
  (wZ z.2 y.h (yb [v.lv,y.c.a]) z.1.1.length<|(im1 v k z.1.1).1++(im2 y.c.a v.lv k v.l).1).1.2),
  (wZ z.2 y.h (yb [v.lv,y.c.a]) z.1.1.length<|(im1 v k z.1.1).1++(im2 y.c.a v.lv k v.l).1).2)
def W6 (v:Iv)(y:Sd)(k:Int)(w:Wp):=ZX v y k<|zA y.c.a y.js [] w
def vY (v:Iv)(N:List<|List UInt8)(x:Sd)(k:Int):=
 if x.c.t=0 then(.mk 0 (uP N x.c.a) 0 [],true) else if x.c.t=2 then(.mk 2 [] x.c.a [],true) else if x.c.t=1 then vG v (.mk 1 [] x.c.a []) k else vG v (bndT x.c.a) k
def j8 (F:Int->Wp->(Tm×Int)×Wp):List Int->Tm->Wp->(Tm×Int)×Wp
 |[],t,w=>((t,0),w)
 |b::l,t,w=>if (F b w).1.2≠0 then((noT,(F b w).1.2),(F b w).2) else j8 F l (zH t [(F b w).1.1]) (F b w).2
def termG (v:Iv)(F:Int->Int->Wp->(Tm×Int)×Wp)(k:Int)(z:(Sd×Int)×Wp):=
 if z.1.2≠0 then((noT,z.1.2),z.2) else if z.1.1.c.t=6 then((w5 1 (F z.1.1.c.a (k+1) z.2).1.1,(F z.1.1.c.a (k+1) z.2).1.2),(F z.1.1.c.a (k+1) z.2).2) else if z.1.1.c.t=4 then(if z.1.1.h=v.x then((noT,170),z.2) else W6 v z.1.1 k z.2) else if (vY v z.2.s.N z.1.1 k).2=false then((noT,170),z.2) else j8 (λb w=>F b k w) z.1.1.js (vY v z.2.s.N z.1.1 k).1 z.2
def yH (v:Iv):Nat->Int->Int->Wp->(Tm×Int)×Wp
 |0,_,_,w=>((noT,80),w)
 |n+1,a,k,w=>termG v (yH v n) k<|lookW w a
def f7 (x:Sd)(a:Int)(z:(List Tm×Int)×Wp):=
 if z.1.2≠0 then(z.1.2,z.2) else if (yH ⟨x.h,x.c.a,z.1.1⟩ (z.2.f.toNat+1) a 0 z.2).1.2≠0 then((yH ⟨x.h,x.c.a,z.1.1⟩ (z.2.f.toNat+1) a 0 z.2).1.2,(yH ⟨x.h,x.c.a,z.1.1⟩ (z.2.f.toNat+1) a 0 z.2).2) else setW (yH ⟨x.h,x.c.a,z.1.1⟩ (z.2.f.toNat+1) a 0 z.2).2 x.h<|w5 z.1.1.length (yH ⟨x.h,x.c.a,z.1.1⟩ (z.2.f.toNat+1) a 0 z.2).1.1
def ut (w:Wp)(x:Sd)(a:Int):=f7 x a<|zA x.c.a x.js [] w
def vg (w:Wp)(x:Sd)(a:Int):=
 if x.c.t=6 then((x.c.a,0),w) else if (xL w.s a 1).1.2≠0 then((0,(xL w.s a 1).1.2),⟨(xL w.s a 1).2,w.f⟩) else if (putS (xL w.s a 1).2 ⟨3,0,0,0,0⟩).1.2≠0 then((0,(putS (xL w.s a 1).2 ⟨3,0,0,0,0⟩).1.2),⟨(putS (xL w.s a 1).2 ⟨3,0,0,0,0⟩).2,w.f⟩)
 else((putS (putS (xL w.s a 1).2 ⟨3,0,0,0,0⟩).2 ⟨7,(xL w.s a 1).1.1,(putS (xL w.s a 1).2 ⟨3,0,0,0,0⟩).1.1,0,0⟩).1,
  ⟨(putS (putS (xL w.s a 1).2 ⟨3,0,0,0,0⟩).2 ⟨7,(xL w.s a 1).1.1,(putS (xL w.s a 1).2 ⟨3,0,0,0,0⟩).1.1,0,0⟩).2,w.f⟩)
abbrev Ow:=(Int×List (Int×Int))×Wp
def ZB (w:Wp)(x y:Sd)(p:Int×Int):Ow:=
 if (vg w x p.1).1.2≠0 then(((vg w x p.1).1.2,[]),(vg w x p.1).2) else if (vg (vg w x p.1).2 y p.2).1.2≠0 then(((vg (vg w x p.1).2 y p.2).1.2,[]),(vg (vg w x p.1).2 y p.2).2) else((0,[((vg w x p.1).1.1,(vg (vg w x p.1).2 y p.2).1.1)]),(vg (vg w x p.1).2 y p.2).2)
def lE (x y:Sd):=x.c.t !=y.c.t||x.c.a !=y.c.a||x.js.length !=y.js.length
def oneG (p:Int×Int)(x y:Sd)(w:Wp):=
 if x.c.t=6\/y.c.t=6 then ZB w x y p else if x.c.t=4/\y.c.t=4/\x.h=y.h then(((uZ w x y).1,[]),(uZ w x y).2) else if x.c.t=4 then(((ut w x p.2).1,[]),(ut w x p.2).2) else if y.c.t=4 then(((ut w y p.1).1,[]),(ut w y p.1).2) else if lE x y=true then((170,[]),w) else((0,x.js.zip y.js),w)
def oneW (w:Wp)(p:Int×Int):Ow:=
 if (lookW w p.1).1.2≠0 then(((lookW w p.1).1.2,[]),(lookW w p.1).2) else if (lookW (lookW w p.1).2 p.2).1.2≠0 then(((lookW (lookW w p.1).2 p.2).1.2,[]),(lookW (lookW w p.1).2 p.2).2) else oneG p (lookW w p.1).1.1 (lookW (lookW w p.1).2 p.2).1.1 (lookW (lookW w p.1).2 p.2).2
def runZ:Nat->Wp->List (Int×Int)->Int×Wp
 |_,w,[]=>(0,w)
 |0,w,_::_=>(80,w)
 |n+1,w,p::st=>
  if w.f<=0 then(80,w) else if (oneW ⟨w.s,w.f-1⟩ p).1.1≠0 then((oneW ⟨w.s,w.f-1⟩ p).1.1,(oneW ⟨w.s,w.f-1⟩ p).2) else runZ n (oneW ⟨w.s,w.f-1⟩ p).2<|(oneW ⟨w.s,w.f-1⟩ p).1.2++st
def oddZ (C:List Cel)(x:Int):= !inC C x||decide (9<=(zB C x).t)
def allZ (s:Hp)(a b:List Int)(f:Int):=
 if a.length≠b.length\/a.any (oddZ s.C)=true\/b.any (oddZ s.C)=true then((0,1),s) else if (runZ f.toNat ⟨s,f⟩<|a.zip b).1≠0 then((0,(runZ f.toNat ⟨s,f⟩<|a.zip b).1),xF (runZ f.toNat ⟨s,f⟩<|a.zip b).2.s s.C.length s.T.length) else(((runZ f.toNat ⟨s,f⟩<|a.zip b).2.f,0),(runZ f.toNat ⟨s,f⟩<|a.zip b).2.s)
abbrev aWk:TV:=.c<|.a<|.ep 0 3 0 0
abbrev wk3 (o r:Nat)(f:Int)(n:Nat):AObj:=.arr 3 [[.a<|.ep o 6 0 0,.a<|.osl r 2 0 n,qi f]]
abbrev oWk (w:Wp)(n:Nat)(R:List<|List FV):=[wk3 1 6 w.f n,hp6 2 3 4 5 w.s,.arz 5<|CR w.s.C,.arz 7<|TR w.s.T,.arz 1<|NR w.s.N,.mapz<|NM w.s.N 0,.arz 2 R]
abbrev oWk' (w:Wp)(n:Nat)(R:List<|List FV):=[wk3 1 10 w.f n,hp6 7 8 9 5 w.s,.gone,.gone,.gone,.mapz<|NM w.s.N 0,.gone,.arz 5<|CR w.s.C,.arz 7<|TR w.s.T,.arz 1<|NR w.s.N,.arz 2 R]
abbrev aSd (x:Sd):TV:=.agg [qi x.h,qf<|.sl false 1<|IR x.js,qi x.c.t,qi x.c.a,qi x.c.b,qi x.c.c,qi x.c.d]
abbrev tSd (x:Sd×Int):TV:=.tup [(true,[qi x.1.h,qf<|.sl false 1<|IR x.1.js,qi x.1.c.t,qi x.1.c.a,qi x.1.c.b,qi x.1.c.c,qi x.1.c.d]),(false,[qi x.2])]
abbrev tTE (x:Tm×Int):TV:=.tup [(true,cT x.1),(false,[qi x.2])]
structure OkW (K:Nat)(w:Wp):Prop where
 h:OkH w.s
 f0:0<=w.f
 f1:w.f<=3000000
 n:NmB K w.s
 i:IH w.s
def noTE (e):TV.Le (.tup [(true,[qi 0,qf<|.str [],qi 0,qf .N]),(false,[qi e])]) (tTE (noT,e)):=leTE (l:=[]) yY
def dc (a b):AC EF 218 [aT a,aT b] [] (cb<|lfZ a b) []:=by
 let ⟨k,s,n,l⟩:=a;let ⟨d,g,f,l'⟩:=b;refine acv (v218 k s n _ d g f _ _ _) ?_;have e:lfZ (.mk k s n l) (.mk d g f l')=(k==d&&n==f):=rfl;refine zm (λh=>?_) λh=>?_
 .have h:=h;rw[e,h,SL];exact rrl
 .have h:=h;rw[e,h,Sx];exact rrl
def qH (n):AC EF 219 [ci n] [] (aT<|bndT n) []:=by refine acv (v219 ..) ?_;exact⟨leT yY,rfl⟩
def dO (x):AC EF 212 [aSd x] [] (cb<|x.c.t==4) []:=by refine acv (v212 ..) ?_;exact rrl
def c_hclash (x y):AC EF 215 [aSd x,aSd y] [] (cb<|lE x y) []:=by
 have e:lE x y=(x.c.t !=y.c.t||x.c.a !=y.c.a||x.js.length !=y.js.length):=rfl;refine acv (v215 ..) ?_;rw[zD,zD];refine zm (λh=>?_) λh=>zm (λb=>?_) λb=>⟨rfl,rfl,?_⟩
 .rw[e,show(x.c.t !=y.c.t)=true from h];exact zy rfl
 .rw[e,show(x.c.t !=y.c.t)=false from h,show(x.c.a !=y.c.a)=true from b];exact zy rfl
 .rw[e,show(x.c.t !=y.c.t)=false from h,show(x.c.a !=y.c.a)=false from b];refine zy ?_;grind
def c_hLeaf (t)(g:t.sz<=SZ):AC EF 225 [aT t] [] (.tup [(true,cT (u9 t).1),(false,[qf<|.bool (u9 t).2])]) []:=by
 have i:=xR t (by simp[SZ,B] at*;omega);have h:=λh=>KN t (zW t h) (ul h) g<|WO t h;have e:u9 t=if zt t=true then(if (zU t).k=3\/(zU t).k=1 then(zU t,true) else(noT,false)) else(noT,false):=rfl
 rw[e];generalize zU t=z at*;let ⟨k,s,n,l⟩:=t;refine acv (v225 k s n (FTs l) _ _) ?_;refine⟨_,i,zm (λf=>?_) λf=>⟨_,h<|iw f,zm (λd=>?_) λd=>zm (λb=>?_) λb=>?_⟩⟩
 .rw[EG<|by rw[not_t f];simp];exact⟨leTB (l:=[]) yY,rfl⟩
 .have d:=d;rw[EL<|iw f,EL<|.inl<|eq_of_beq d];exact rrl
 .have b:=b;rw[EL<|iw f,EL<|.inr<|eq_of_beq b];exact rrl
 .have d:=d;rw[EL<|iw f,EG<|by simp at d b;rintro (q|q)<;>contradiction];exact⟨leTB (l:=[]) yY,rfl⟩
def cd (K w n R)(ok:OkW K w)(a):AC EF 210 [aWk,ci a] (oWk w n R) (tSd (lookW w a).1) (oWk' (lookW w a).2 n R):=by
 have j:=cQ w.s a w.f ok.h (by have:=ok.f0;omega) (by have:=ok.f1;omega);have e:lookW w a=if (yK w.s a w.f).1.2.2≠0 then((noS,(yK w.s a w.f).1.2.2),⟨(yK w.s a w.f).2,w.f⟩) else((⟨(yK w.s a w.f).1.1.1,(yK w.s a w.f).1.1.2,zB (yK w.s a w.f).2.C (yK w.s a w.f).1.1.1⟩,0),⟨(yK w.s a w.f).2,(yK w.s a w.f).1.2.1⟩):=rfl
 rw[e];generalize yK w.s a w.f=z at*;let ⟨⟨⟨hd,xs⟩,i,b⟩,d⟩:=z;dsimp only at*;refine acv (v210 ..) ?_;refine⟨(hd,xs,i,b,d),j,yg (λq=>?_) λq=>?_⟩
 .rw[EL q];exact⟨XE (xs:=[(true,[.int .i64 0,.N,.int .i64 0,.int .i64 0,.int .i64 0,.int .i64 0,.int .i64 0]),(false,[.int .i64 b])]) (ys:=[(true,[.int .i64 0,.sl false 1<|IR [],.int .i64 0,.int .i64 0,.int .i64 0,.int .i64 0,.int .i64 0]),(false,[.int .i64 b])]) ⟨⟨rfl,.refl _,.N 1,.refl _,.refl _,.refl _,.refl _,.refl _,trivial⟩,⟨rfl,.refl _⟩,trivial⟩,rfl⟩
 .rw[EG λw=>w q];exact⟨_,_,_,_,_,_,(wY d hd),.refl _,rfl⟩
def c_wfull (K w n R)(ok:OkW K w)(a):AC EF 224 [aWk,ci a] (oWk w n R) (tTE (w9 w a).1) (oWk' (w9 w a).2 n R):=by
 have d:=tF w.s a w.f ok.h (by have:=ok.f0;omega) (by have:=ok.f1;omega);have e:w9 w a=(((xe w.s a w.f).1.1,(xe w.s a w.f).1.2.2),⟨(xe w.s a w.f).2,if (xe w.s a w.f).1.2.2=0 then(xe w.s a w.f).1.2.1 else w.f⟩):=rfl;rw[e];generalize xe w.s a w.f=z at*;let ⟨⟨t,b,i⟩,g⟩:=z;dsimp only at*;refine acv (v224 ..) ?_;refine⟨(t,b,i,g),d,zF (λq=>?_) λq=>?_⟩
 .rw[EL q];exact rrl
 .rw[EG q];exact rrl
def JT (s)(ok:OkH s)(lv):AC EF 39 [aH 0,ci lv] (oH s) (t2 (yp s lv).1) (oH' (yp s lv).2):=by have b:=wd s ⟨4,zS [lv,0],0,0,0⟩ (by have:=ok.C;omega);refine acv (v39 ..) ?_;exact⟨yp s lv,b,.refl _,rfl⟩
abbrev aM:TV:=.c<|.a<|.ep 0 14 0 0
abbrev npF:FV:=.cst<|.pointer none
def evM (k e:Int):FV:=.pt [.int .i64 k,.sl false 4 [],.int .i64 e]
def uI (m k e):AC EF 20 [aM,.agg [qi k,qf .N,qi e]] (mOb m []) (ci 2) (mOb {m with o:=evM k e} []):=by
 have h:AC EF 20 [aM,.agg [qi k,qf<|.sl false 4 [],qi e]] (mOb m []) (ci 2) (.arr 14 [[.a<|.ep 1 6 0 0,qf m.P,qf m.T,qi m.S,qf m.V,qf m.nf,qi m.na,qf m.A,qi m.L,qf m.I,.a<|.osl 6 10 0 m.n,qi m.f,qf<|.bool m.w,.a<|.ep 7 3 0 0]]::(mOb m []).tail++[.arr 3 [[qi k,qf<|.sl false 4 [],qi e]]]):=by refine acv (v20 k [] e m _ _) ?_;exact rrl
 exact((h.ice 7 3 [[.int .i64 k,.sl false 4 [],.int .i64 e]] rfl).skip 7 1 (mOb {m with o:=evM k e} []) (ci 2) rfl rfl rfl rfl zb zb).args ⟨.refl _,.agg _ _ rfl (λi x y d b=>by
  match i,d,b with
  |0,d,b=>injection d with d;injection b with b;subst d;subst b;exact .refl _
  |1,d,b=>injection d with d;injection b with b;subst d;subst b;exact .a _ _ (.fz _ _<|.N 4)
  |2,d,b=>injection d with d;injection b with b;subst d;subst b;exact .refl _),trivial⟩
def yw (m:Ma)(l e:Int):Int×Ma:=
 if e=0 then(0,{m with f:=l}) else if e=170 then(1,m) else if e=80 then(2,{m with f:=0,o:=evM 4 0}) else if e=200\/e=201\/e=202 then(2,{m with o:=evM 5 e}) else if e=180\/e=181\/e=182 then(2,{m with o:=evM 3 e}) else(2,{m with o:=evM 2 0})
def told_eta (m l e):(yw m l e).2.s=m.s/\(yw m l e).2.C=m.C:=by unfold yw;repeat' (first|split|exact⟨rfl,rfl⟩)
def y5 {m l e}:({ (yw m l e).2 with s:=m.s,C:=m.C})=(yw m l e).2:=by let ⟨d,b⟩:=told_eta m l e;rw[<-d,<-b]
def aD (m l e):AC EF 23 [aM,ci l,ci e] (mOb m []) (ci (yw m l e).1) (mOb (yw m l e).2 []):=by
 refine acv (v23 l e m _ _) ?_;unfold yw;refine zm (λh=>?_) λo=>zm (λh=>?_) λu=>zm (λh=>?_) λb=>zm (λh=>?_) λj=>zm (λh=>?_) λp=>zm (λh=>?_) λi=>zm (λh=>?_) λr=>zm (λh=>?_) λg=>zm (λh=>?_) λd=>?_;all_goals simp only[Sw,beq_eq_false_iff_ne,ne_eq] at*
 .subst h;exact rrl
 .subst h;exact rrl
 .subst h;exact⟨(2,_),uI {m with f:=0} 4 0,.refl _,rfl⟩
 .subst h;exact⟨(2,_),uI m 5 200,.refl _,rfl⟩
 .subst h;exact⟨(2,_),uI m 5 201,.refl _,rfl⟩
 .subst h;exact⟨(2,_),uI m 5 202,.refl _,rfl⟩
 .subst h;exact⟨(2,_),uI m 3 180,.refl _,rfl⟩
 .subst h;exact⟨(2,_),uI m 3 181,.refl _,rfl⟩
 .subst h;exact⟨(2,_),uI m 3 182,.refl _,rfl⟩
 .rw[EG o,EG u,EG b,EG<|by simp[j,p,i],EG<|by simp[r,g,d]];exact⟨(2,_),uI m 2 0,.refl _,rfl⟩
abbrev SlO:=Option<|List Int
def slF:SlO->FV
 |none=>.N
 |some []=>.z0 true
 |some (x::s)=>.sl true 1<|IR<|x::s
def slL (o:SlO):=o.getD []
def slW (k:Nat):SlO->WV
 |none=>.a<|.fz .N
 |some []=>.a<|.fz<|.z0 true
 |some (x::s)=>.a<|.osl k 1 0 (x::s).length
def slB:SlO->List AObj
 |some (x::s)=> [.arz 1<|IR<|x::s]
 |_=> []
def slN (k:Nat):SlO->Nat
 |some (_::_)=>k+1
 |_=>k
inductive Fr where
 |nil
 |mk (c:Cd) (s:SlO) (b d:Int) (k:Fr) (a:Int)
def frF:Fr->FV
 |.nil=>npF
 |.mk c s b d k a=>.pt [.pt<|FC c,slF s,.int .i64 b,.int .i64 d,frF k,.int .i64 a]
def frD:Fr->Int
 |.nil=>0
 |.mk _ _ _ d _ _=>d
def Gr (s s':Hp):Prop:=Mv true s s'/\(OkH s->OkH s')/\∀K,NmB K s->NmB K s'
def Gr.refl (s):Gr s s:=⟨.refl _,id,λ_ h=>h⟩
def Gr.trans {a b c}(h:Gr a b)(g:Gr b c):Gr a c:=⟨h.1.trans g.1,λo=>g.2.1<|h.2.1 o,λK o=>g.2.2 K<|h.2.2 K o⟩
def Gr.put (s c)(b:c.t=2->N64 c.a:=by simp):Gr s (putS s c).2:=⟨Mv.put c (.refl _) b,λo=>o.put c,λ_ g=>g.put c⟩
def Xd (s x):take s.length (IR s)++[[.int .i64 x]]=IR (s++[x]):=by rw[EV<|by simp[IR]];simp[IR]
def px (v k)(b:k<=(slL v).length)(d:(slL v).length<=1000000):∃o,slL o=(slL v).take k/\
  (o=none/\AC EF 38 [.c<|qf<|FV.cut (slF v) 0 k] [] (.c<|qf .N) []\/
   o=some []/\AC EF 38 [.c<|qf<|FV.cut (slF v) 0 k] [] (.c<|qf<|.z0 true) []\/
   ∃x s,o=some (x::s)/\AC EF 38 [.c<|qf<|FV.cut (slF v) 0 k] [] (.c<|.a<|.osl 0 1 0 (IR<|x::s).length) [.arz 1<|IR<|x::s]):=by
 have f:AC EF 38 [.c<|qf<|.sl true 1 []] [] (.c<|qf<|.z0 true) []:=
  acv (sX ..) ⟨rfl,.refl _,rfl⟩
 match v,b,d with
 |none,_,_=>exact⟨none,by simp[slL],.inl ⟨rfl,acv (v38 ..) rrl⟩⟩
 |some [],_,_=>exact⟨some [],by simp[slL],.inr<|.inl ⟨rfl,f.args ⟨.c _ _<|.a _ _<|.fz _ _<|.z0 _ _,trivial⟩⟩⟩
 |some (x::s),b,d=>
  cases k with
  |zero=>exact⟨some [],by simp[slL],.inr<|.inl ⟨rfl,f⟩⟩
  |succ k=>
   refine⟨some<|x::s.take k,by simp[slL],.inr<|.inr ⟨x,s.take k,rfl,?_⟩⟩;have e:FV.cut (slF<|some<|x::s) 0 (k+1)=.sl true 1 (IR<|x::s.take k):=by simp[slF,FV.cut,IR,Gu]
   rw[e];refine acv (sX ..) ⟨rfl,zm (λh=>by simp[IR] at h) λ_=>⟨?_,.refl _,rfl⟩⟩;simp[slL,Sq,EH] at d b;simp[zw,IR,Sn,EH,S8];omega
def aU (s lv):(yp s lv).1.2=0\/(yp s lv).1.2=200:=by
 unfold yp putS;split
 .rename_i q;have:va s ⟨4,zS [lv,0],0,0,0⟩=true:=by unfold va;simp[zS,List.foldl];grind
  grind
 .grind
abbrev cdO (c:Cd):AObj:=.arr 6 [[qf<|.str c.nm,qi c.ar,qi c.fr,qi c.vs,qi c.sl,qf<|.sl false 8<|FIs c.ins]]
abbrev errT (e:Int):TV:=.tup [(false,[qf npF]),(false,[qi e])]
abbrev okT (o:Nat):TV:=.tup [(false,[.a<|.ep o 6 0 0]),(false,[qi 0])]
abbrev bsA (m:Ma)(c:Cd)(l:List AObj):=mSb m l
abbrev frOA (c:Cd)(c1 k:FV)(k0:Nat)(b d a:Int)(s:SlO):=.arr 6 [[qf<|.pt<|FC c,slW k0 s,qi b,qi d,qf k,qi a]]::slB s
abbrev stFA (m:Ma)(c:Cd)(c1 k:FV)(b d a:Int)(s:SlO):=numO 0<|bsA m c<|.arr 2 [[qf<|.pt<|FC c,qf c1]]::frOA c c1 k 13 b d a s
def l_fr5A (m c p k b d a)(r:c.sl<=1000000):∀(n) (s),n=c.sl.toNat-(slL s).length->(slL s).length<=2000000->
  ∃o,(slL o).length=(slL s).length+n/\RPt EF 22 7 (okT 11) (bsA m c<|frOA c p k 12 b d a o) 5 ⟨[(4,.c<|.a<|.ep 11 2 0 0),(8,.c<|.a<|.ep 12 6 0 0)],stFA m c p k b d a s,slN 13 s⟩:=by
 have j:getD (drop 4<|FC c) 0 FV.N=.int .i64 c.sl:=by rw[xE];rfl
 intro n
 induction n with
 |zero=>
  intro s f i;refine⟨s,rfl,?_⟩
  have fin:∀ {x:Int},¬x<c.sl->¬x<FV.I (getD (drop 4<|FV.prow<|.pt<|FC c) 0 FV.N):=λh=>by
   first|(rw[FV.prow,j,FV.I];exact h)|exact h
  match s,f with
  |none,f=>refine rpv (KL ..) ⟨rfl,(zq rfl (zq rfl (zq (by rw[FV.prow,xE];rfl) ?_)))⟩;exact bF (fin<|by simp[slL] at f;omega) rrl
  |some [],f=>refine rpv (Ky ..) ⟨rfl,(zq rfl (zq rfl (zq (by rw[FV.prow,xE];rfl) ?_)))⟩;exact bF (fin<|by simp[slL] at f;omega) rrl
  |some (x::s),f=>refine rpv (fL ..)<|zq rfl (zq rfl (zq (by rw[FV.prow,xE];rfl) ?_));exact bF (fin<|by simp[slL] at f ⊢;omega) rrl
 |succ n ih=>
  intro s f i;let ⟨o,u,g⟩:=ih (some<|slL s++[-1]) (by simp[slL] at*;omega) (by simp[slL] at*;omega);refine⟨o,by simp[slL] at*;omega,?_⟩
  have fin:∀ {x:Int},x<c.sl->x<FV.I (getD (drop 4<|FV.prow<|.pt<|FC c) 0 FV.N):=λh=>by
   first|(rw[FV.prow,j,FV.I];exact h)|exact h
  match s,f,i,g with
  |none,f,_,g=>refine rpv (KL ..) ⟨rfl,(zq rfl (zq rfl (zq (by rw[FV.prow,xE];rfl) ?_)))⟩;exact bT (fin<|by simp[slL] at f;omega) ⟨EI _,by simp[zw],g⟩
  |some [],f,_,g=>refine rpv (Ky ..) ⟨rfl,(zq rfl (zq rfl (zq (by rw[FV.prow,xE];rfl) ?_)))⟩;exact bT (fin<|by simp[slL] at f;omega) ⟨EI _,by simp[zw],g⟩
  |some (x::s),f,i,g=>
   refine rpv (fL ..)<|zq rfl (zq rfl (zq (by rw[FV.prow,xE];rfl) ?_));refine bT (fin<|by simp[slL] at f ⊢;omega)<|?_;simp[slL,Sq,EH] at i;refine⟨EI _,⟨by simp[IR],by simp[zw,EH];omega⟩,?_⟩;rw[Xd];have e:(x::s).length+1=(slL (some<|x::s)++[-1]).length:=by simp[slL]
   rw[e];exact g
def l_fr1A (m:Ma)(c u k b d a)(E:c.sl<=1000000)(I:c.vs<=1000000):∀(n) (i) (s) (v),n=(c.vs-i).toNat->0<=i->(slL v).length+n<=2000000->OkH s->
  ∃w,Gr s w/\(RPt EF 22 7 (errT 200) (bsA {m with s:=w} c []) 1 ⟨[(0,aM),(4,.c<|.a<|.ep 11 2 0 0),(8,.c<|.a<|.ep 12 6 0 0),(58,ci c.vs),(59,ci i)],stFA {m with s:=s} c u k b d a v,slN 13 v⟩\/
   ∃o,(slL o).length=max ((slL v).length+n) c.sl.toNat/\RPt EF 22 7 (okT 11) (bsA {m with s:=w} c<|frOA c u k 12 b d a o) 1 ⟨[(0,aM),(4,.c<|.a<|.ep 11 2 0 0),(8,.c<|.a<|.ep 12 6 0 0),(58,ci c.vs),(59,ci i)],stFA {m with s:=s} c u k b d a v,slN 13 v⟩):=by
 intro n
 induction n with
 |zero=>
  intro i s v G F y ok;let ⟨o,D,f⟩:=l_fr5A {m with s:=s} c u k b d a E _ v rfl za;refine⟨s,.refl _,.inr ⟨o,za,?_⟩⟩
  match v,f with
  |none,f=>exact rpv (Xr ..)<|bF za f
  |some [],f=>exact rpv (Ys ..)<|bF za f
  |some (x::t),f=>exact rpv (Yu ..)<|bF za f
 |succ n ih=>
  intro i s v G F y ok;have p:=JT s ok m.L;have C:Gr s (yp s m.L).2:=Gr.put s _;have A:=C.2.1 ok;rcases aU s m.L with q|q<;>generalize yp s m.L=z at*
  .let ⟨w,g,f⟩:=ih (i+1) z.2 (some<|slL v++[z.1.1]) za za (by simp[slL] at*;omega) A
   have j:∀r H,RPt EF 22 7 r H 1 ⟨[(0,aM),(4,(.c<|.a<|.ep 11 2 0 0)),(8,(.c<|.a<|.ep 12 6 0 0)),(58,ci c.vs),(59,ci<|i+1)],stFA {m with s:=z.2} c u k b d a<|some<|slL v++[z.1.1],slN 13<|some<|slL v++[z.1.1]⟩->RPt EF 22 7 r H 1 ⟨[(0,aM),(4,(.c<|.a<|.ep 11 2 0 0)),(8,(.c<|.a<|.ep 12 6 0 0)),(58,ci c.vs),(59,ci i)],stFA {m with s:=s} c u k b d a v,slN 13 v⟩:=λr H f=>by
    rw[<-w64 (x:=i+1) za za] at f
    match v,y,f with
    |none,_,f=>exact rpv (Xr ..)<|zm (λ_=>⟨(z.1.1,z.1.2,z.2),p,zm (λh=>by rw[q] at h;cases h) λ_=>⟨EI _,by simp[zw],f⟩⟩) λh=>absurd (ES h) za
    |some [],_,f=>exact rpv (Ys ..)<|zm (λ_=>⟨(z.1.1,z.1.2,z.2),p,zm (λh=>by rw[q] at h;cases h) λ_=>⟨EI _,by simp[zw],f⟩⟩) λh=>absurd (ES h) za
    |some (x::t),y,f=>
     simp[slL,Sq,EH] at y;refine rpv (Yu ..)<|zm (λ_=>⟨(z.1.1,z.1.2,z.2),p,zm (λh=>by rw[q] at h;cases h) λ_=>⟨EI _,⟨by simp[IR],by simp[zw,EH];omega⟩,?_⟩⟩) λh=>absurd (ES h) za;rw[Xd];have e:(x::t).length+1=(slL (some<|x::t)++[z.1.1]).length:=by simp[slL]
     rw[e];exact f
   refine⟨w,C.trans g,f.imp (j _ _) λ⟨o,D,h⟩=>⟨o,?_,j _ _ h⟩⟩;rw[D];simp[slL];omega
  .refine⟨z.2,C,.inl ?_⟩
   match v with
   |none=>exact rpv (Xr ..)<|zm (λ_=>⟨(z.1.1,z.1.2,z.2),p,zm (λ_=>by rw[q];exact rrl) λh=>by rw[q] at h;cases h⟩) λh=>absurd (ES h) za
   |some []=>exact rpv (Ys ..)<|zm (λ_=>⟨(z.1.1,z.1.2,z.2),p,zm (λ_=>by rw[q];exact rrl) λh=>by rw[q] at h;cases h⟩) λh=>absurd (ES h) za
   |some (x::t)=>exact rpv (Yu ..)<|zm (λ_=>⟨(z.1.1,z.1.2,z.2),p,zm (λ_=>by rw[q];exact rrl) λh=>by rw[q] at h;cases h⟩) λh=>absurd (ES h) za
abbrev bsB (m:Ma)(c:Cd)(l:List AObj):=mSc m (cdO c) l
abbrev frOB (c:Cd)  (k0:Nat)(b d a:Int)(s:SlO):=.arr 6 [[.a<|.ep 7 6 0 0,slW k0 s,qi b,qi d,qf npF,qi a]]::slB s
abbrev stFB (m:Ma)(c:Cd)  (b d a:Int)(s:SlO):=numO 0<|bsB m c<|.arr 2 [[.a<|.ep 7 6 0 0,qf .N]]::frOB c  14 b d a s
def l_fr5B (m c b d a)(p:c.sl<=1000000):∀(n) (s),n=c.sl.toNat-(slL s).length->(slL s).length<=2000000->
  ∃o,(slL o).length=(slL s).length+n/\RPt EF 22 8 (okT 12) (bsB m c<|frOB c  13 b d a o) 5 ⟨[(4,.c<|.a<|.ep 12 2 0 0),(8,.c<|.a<|.ep 13 6 0 0)],stFB m c  b d a s,slN 14 s⟩:=by
 have j:getD (drop 4<|FC c) 0 FV.N=.int .i64 c.sl:=by rw[xE];rfl
 intro n
 induction n with
 |zero=>
  intro s f i;refine⟨s,rfl,?_⟩
  have fin:∀ {x:Int},¬x<c.sl->¬x<c.sl:=λh=>by
   first|(rw[FV.prow,j,FV.I];exact h)|exact h
  match s,f with
  |none,f=>refine rpv (v22_5a ..) ⟨rfl,?_⟩;exact bF (fin<|by simp[slL] at f;omega) rrl
  |some [],f=>refine rpv (v22_5b ..) ⟨rfl,?_⟩;exact bF (fin<|by simp[slL] at f;omega) rrl
  |some (x::s),f=>refine rpv (v22_5c ..) ?_;exact bF (fin<|by simp[slL] at f ⊢;omega) rrl
 |succ n ih=>
  intro s f i;let ⟨o,r,g⟩:=ih (some<|slL s++[-1]) (by simp[slL] at*;omega) (by simp[slL] at*;omega);refine⟨o,by simp[slL] at*;omega,?_⟩
  have fin:∀ {x:Int},x<c.sl->x<c.sl:=λh=>by
   first|(rw[FV.prow,j,FV.I];exact h)|exact h
  match s,f,i,g with
  |none,f,_,g=>refine rpv (v22_5a ..) ⟨rfl,?_⟩;exact bT (fin<|by simp[slL] at f;omega) ⟨EI _,by simp[zw],g⟩
  |some [],f,_,g=>refine rpv (v22_5b ..) ⟨rfl,?_⟩;exact bT (fin<|by simp[slL] at f;omega) ⟨EI _,by simp[zw],g⟩
  |some (x::s),f,i,g=>
   refine rpv (v22_5c ..) ?_;refine bT (fin<|by simp[slL] at f ⊢;omega)<|?_;simp[slL,Sq,EH] at i;refine⟨EI _,⟨by simp[IR],by simp[zw,EH];omega⟩,?_⟩;rw[Xd];have e:(x::s).length+1=(slL (some<|x::s)++[-1]).length:=by simp[slL]
   rw[e];exact g
def l_fr1B (m:Ma)(c b d a)(D:c.sl<=1000000)(G:c.vs<=1000000):∀(n) (i) (s) (v),n=(c.vs-i).toNat->0<=i->(slL v).length+n<=2000000->OkH s->
  ∃u,Gr s u/\(RPt EF 22 8 (errT 200) (bsB {m with s:=u} c []) 1 ⟨[(0,aM),(4,.c<|.a<|.ep 12 2 0 0),(8,.c<|.a<|.ep 13 6 0 0),(58,ci c.vs),(59,ci i)],stFB {m with s:=s} c  b d a v,slN 14 v⟩\/
   ∃o,(slL o).length=max ((slL v).length+n) c.sl.toNat/\RPt EF 22 8 (okT 12) (bsB {m with s:=u} c<|frOB c  13 b d a o) 1 ⟨[(0,aM),(4,.c<|.a<|.ep 12 2 0 0),(8,.c<|.a<|.ep 13 6 0 0),(58,ci c.vs),(59,ci i)],stFB {m with s:=s} c  b d a v,slN 14 v⟩):=by
 intro n
 induction n with
 |zero=>
  intro i s v F E w ok;let ⟨o,C,f⟩:=l_fr5B {m with s:=s} c  b d a D _ v rfl za;refine⟨s,.refl _,.inr ⟨o,za,?_⟩⟩
  match v,f with
  |none,f=>exact rpv (ni ..)<|bF za f
  |some [],f=>exact rpv (rf ..)<|bF za f
  |some (x::t),f=>exact rpv (AL ..)<|bF za f
 |succ n ih=>
  intro i s v F E w ok;have p:=JT s ok m.L;have A:Gr s (yp s m.L).2:=Gr.put s _;have y:=A.2.1 ok;rcases aU s m.L with q|q<;>generalize yp s m.L=z at*
  .let ⟨u,g,f⟩:=ih (i+1) z.2 (some<|slL v++[z.1.1]) za za (by simp[slL] at*;omega) y
   have j:∀r H,RPt EF 22 8 r H 1 ⟨[(0,aM),(4,(.c<|.a<|.ep 12 2 0 0)),(8,(.c<|.a<|.ep 13 6 0 0)),(58,ci c.vs),(59,ci<|i+1)],stFB {m with s:=z.2} c  b d a<|some<|slL v++[z.1.1],slN 14<|some<|slL v++[z.1.1]⟩->RPt EF 22 8 r H 1 ⟨[(0,aM),(4,(.c<|.a<|.ep 12 2 0 0)),(8,(.c<|.a<|.ep 13 6 0 0)),(58,ci c.vs),(59,ci i)],stFB {m with s:=s} c  b d a v,slN 14 v⟩:=λr H f=>by
    rw[<-w64 (x:=i+1) za za] at f
    match v,w,f with
    |none,_,f=>exact rpv (ni ..)<|zm (λ_=>⟨(z.1.1,z.1.2,z.2),p,zm (λh=>by rw[q] at h;cases h) λ_=>⟨EI _,by simp[zw],f⟩⟩) λh=>absurd (ES h) za
    |some [],_,f=>exact rpv (rf ..)<|zm (λ_=>⟨(z.1.1,z.1.2,z.2),p,zm (λh=>by rw[q] at h;cases h) λ_=>⟨EI _,by simp[zw],f⟩⟩) λh=>absurd (ES h) za
    |some (x::t),w,f=>
     simp[slL,Sq,EH] at w;refine rpv (AL ..)<|zm (λ_=>⟨(z.1.1,z.1.2,z.2),p,zm (λh=>by rw[q] at h;cases h) λ_=>⟨EI _,⟨by simp[IR],by simp[zw,EH];omega⟩,?_⟩⟩) λh=>absurd (ES h) za;rw[Xd];have e:(x::t).length+1=(slL (some<|x::t)++[z.1.1]).length:=by simp[slL]
     rw[e];exact f
   refine⟨u,A.trans g,f.imp (j _ _) λ⟨o,C,h⟩=>⟨o,?_,j _ _ h⟩⟩;rw[C];simp[slL];omega
  .refine⟨z.2,A,.inl ?_⟩
   match v with
   |none=>exact rpv (ni ..)<|zm (λ_=>⟨(z.1.1,z.1.2,z.2),p,zm (λ_=>by rw[q];exact rrl) λh=>by rw[q] at h;cases h⟩) λh=>absurd (ES h) za
   |some []=>exact rpv (rf ..)<|zm (λ_=>⟨(z.1.1,z.1.2,z.2),p,zm (λ_=>by rw[q];exact rrl) λh=>by rw[q] at h;cases h⟩) λh=>absurd (ES h) za
   |some (x::t)=>exact rpv (AL ..)<|zm (λ_=>⟨(z.1.1,z.1.2,z.2),p,zm (λ_=>by rw[q];exact rrl) λh=>by rw[q] at h;cases h⟩) λh=>absurd (ES h) za
def slF_len (v):(FV.ses<|slF v).length=(slL v).length/\FV.L 1 (slF v)=true:=by
 match v with
 |none=>exact⟨rfl,rfl⟩
 |some []=>exact⟨rfl,rfl⟩
 |some (x::s)=>exact⟨by simp[slF,FV.ses,slL,IR],rfl⟩
def JK (o):∀x∈slB o,isLive x:=by
 match o with
 |none=>simp[slB]
 |some []=>simp[slB]
 |some (x::s)=>simp[slB,isLive]
abbrev aCn (c:Cd)(v:SlO):TV:=.agg [qf<|.pt<|FC c,qf<|slF v]
abbrev aPl (k:Fr)(a:Int):TV:=.agg [qf<|frF k,qi a]
def c_frameA (m c v k a)(ok:OkH m.s)(I:0<=c.fr/\c.fr<=((slL v).length:Int))(V:(slL v).length<=1000000)(Z:c.vs<=1000000)(O:c.sl<=1000000)(G:0<=frD k/\frD k<=1000000):
  ∃j,Gr m.s j/\((∃e,(e=200\/e=202)/\AC EF 22 [aM,aCn c v,aPl k a] (mOb m []) (errT e) (mSb {m with s:=j} []))\/
   ∃o,(slL o).length=max (c.fr.toNat+c.vs.toNat) c.sl.toNat/\frD k+1<=m.S/\AC EF 22 [aM,aCn c v,aPl k a] (mOb m []) (okT 11) (mSb {m with s:=j}<|frOA c (slF v) (frF k) 12 m.n (frD k+1) a o)):=by
 have D:FV.I (getD (drop 2<|FV.prow<|.pt<|FC c) 0 FV.N)=c.fr:=by rw[FV.prow,xE];rfl
 have W:FV.I (getD (drop 3<|FV.prow<|.pt<|FC c) 0 FV.N)=c.vs:=by rw[FV.prow,xE];rfl
 have F:shpB [.int .i64 0] (drop 2<|FV.prow<|.pt<|FC c)=true:=by rw[FV.prow,xE];rfl
 have p:shpB [.int .i64 0] (drop 3<|FV.prow<|.pt<|FC c)=true:=by rw[FV.prow,xE];rfl
 let ⟨E,z⟩:=slF_len v;let ⟨C,T,b⟩:=px v (toNat<|FV.I<|getD (drop 2<|FV.prow<|.pt<|FC c) 0 FV.N) (by rw[D];omega) V;have w:(slL C).length=c.fr.toNat:=zd;have A:0<=FV.I (getD (drop 2<|FV.prow<|.pt<|FC c) 0 FV.N):=D▸I.1;have y:FV.I (getD (drop 2<|FV.prow<|.pt<|FC c) 0 FV.N)<=((FV.ses<|slF v).length):=by rw[D,E];exact I.2
 by_cases u:m.S<frD k+1
 .refine⟨m.s,.refl _,.inl ⟨202,.inr rfl,?_⟩⟩;refine acv (v22_i1 ..) ?_;cases k with
  |nil=>exact bP<|zm (λ_=>rrl) λh=>absurd (ES h)<|by simp[frD] at u;omega
  |mk X j L d Y M=>simp[frD] at u G;refine bN <| zq rfl (zq rfl (zq rfl (zq rfl ?_)));exact zm (λ_=>rrl) λh=>absurd (ES h) (by show¬¬wrap .i64 (d+1)>m.S;rw[w64 za za];omega)
 .let ⟨j,g,f⟩:=l_fr1A m c (slF v) (frF k) m.n (frD k+1) a O Z _ 0 m.s C rfl (EQ _) za ok
  have i:∀r H,RPt EF 22 7 r H 1 ⟨[(0,aM),(4,(.c<|.a<|.ep 11 2 0 0)),(8,(.c<|.a<|.ep 12 6 0 0)),(58,ci c.vs),(59,ci 0)],stFA {m with s:=m.s} c (slF v) (frF k) m.n (frD k+1) a C,slN 13 C⟩->7<=H.length->(∀x∈H.drop 7,isLive x)->AC EF 22 [aM,aCn c v,aPl k a] (mOb m []) r H:=λr H f K N=>by
   rw[<-W] at f;refine AC.vc hP sh lv22 K (by simp[isLive,moO]) N<|Eq.mpr (v22_i1 ..) ?_;cases k with
   |nil=>
    refine bP<|bF (by simp[frD] at u;omega) <| zq rfl (zq rfl (zq F ⟨z,⟨EQ _,A,y⟩,?_⟩));rcases b with⟨e,b⟩|⟨e,b⟩|⟨x,s,e,b⟩<;>subst e
    .exact .inl ⟨(),b,zq rfl (zq rfl (zq p f))⟩
    .exact .inr<|.inl ⟨(),b,zq rfl (zq rfl (zq p f))⟩
    .exact .inr<|.inr ⟨IR<|x::s,b,zq rfl (zq rfl (zq p<|by rw[show(IR<|x::s).length=(x::s).length by simp[IR]];exact f))⟩
   |mk X j L d Y M=>
    simp only[frD] at u G f;rw[<-w64 (x:=d+1) za za] at f u;refine bN <| zq rfl (zq rfl (zq rfl (zq rfl (bF u <| zq rfl (zq rfl (zq F ⟨z,⟨EQ _,A,y⟩,?_⟩))))));rcases b with⟨e,b⟩|⟨e,b⟩|⟨x,s,e,b⟩<;>subst e
    .exact .inl ⟨(),b,zq rfl (zq rfl (zq p f))⟩
    .exact .inr<|.inl ⟨(),b,zq rfl (zq rfl (zq p f))⟩
    .exact .inr<|.inr ⟨IR<|x::s,b,zq rfl (zq rfl (zq p<|by rw[show(IR<|x::s).length=(x::s).length by simp[IR]];exact f))⟩
  refine⟨j,g,f.imp (λh=>⟨200,.inl rfl,i _ _ h zb<|by simp[isLive]⟩) λ⟨o,J,U⟩=>⟨o,?_,za,i _ _ U zb<|by simpa[isLive] using JK o⟩⟩;omega
def c_frameB (m c a)(ok:OkH m.s)(w:c.fr=0)(z:c.vs<=1000000)(u:c.sl<=1000000):
  ∃d,Gr m.s d/\((∃e,(e=200\/e=202)/\AC EF 22 [aM,.agg [.a<|.ep 7 6 0 0,qf .N],aPl .nil a] (mOb m [cdO c]) (errT e) (mSc {m with s:=d} (cdO c) []))\/
   ∃o,(slL o).length=max c.vs.toNat c.sl.toNat/\1<=m.S/\AC EF 22 [aM,.agg [.a<|.ep 7 6 0 0,qf .N],aPl .nil a] (mOb m [cdO c]) (okT 12) (mSc {m with s:=d} (cdO c)<|frOB c 13 m.n 1 a o)):=by
 let ⟨C,D,i⟩:=px none 0 (EI _) (by simp[slL]);by_cases A:m.S<1
 .refine⟨m.s,.refl _,.inl ⟨202,.inr rfl,?_⟩⟩;refine acv (v22 ..) ?_;exact zm (λ_=>rrl) λh=>absurd (ES h) za
 .let ⟨d,g,f⟩:=l_fr1B m c m.n 1 a u z _ 0 m.s none rfl (EQ _) (by simp[slL];omega) ok;have i:=acv (v38 ..) rrl
  have b:∀r H,RPt EF 22 8 r H 1 ⟨[(0,aM),(4,(.c<|.a<|.ep 12 2 0 0)),(8,(.c<|.a<|.ep 13 6 0 0)),(58,ci c.vs),(59,ci 0)],stFB {m with s:=m.s} c m.n 1 a none,slN 14 none⟩->8<=H.length->(∀x∈H.drop 8,isLive x)->AC EF 22 [aM,.agg [.a<|.ep 7 6 0 0,qf .N],aPl .nil a] (mOb m [cdO c]) r H:=λr H f p v=>
   AC.vc hP sh lv22 p (by simp[isLive,moO]) v (Eq.mpr (v22 ..)<|bF A ⟨rfl,⟨EQ _,za,by rw[w];exact EQ _⟩,.inl ⟨(),i,f⟩⟩)
  refine⟨d,g,f.imp (λh=>⟨200,.inl rfl,b _ _ h zb<|by simp[isLive]⟩) λ⟨o,j,y⟩=>⟨o,?_,za,b _ _ y zb<|by simpa[isLive] using JK o⟩⟩;rw[j];simp[slL]
abbrev anyK:Key:=⟨true,0,[],0,0⟩
def keyH (h:Tm)(n:Int):=if h.k=5 then anyK else if h.k=4 then anyK else if h.k=6 then anyK else⟨false,h.k,h.s,h.n,n⟩
def Xe (t:Tm):=if t.k=6 then(match t.l with|[]=>anyK|h::l=>keyH h l.length) else keyH t 0
def xG (c:Cd):=match c.ins with
 |[]=>anyK
 |x::_=>if x.a≠0 then anyK else if x.k=0 then Xe x.t else if x.k=1 then Xe x.t else anyK
def uJ (a b:Key):=if a.any=true then true else if b.any=true then true else(a.any==b.any&&(a.k==b.k&&(a.nm==b.nm&&(a.n==b.n&&(a.ar==b.ar&&true)))))
def tsz_l (t:Tm)(b:t.sz<=B):t.l.length<=B:=by have:=Tm.szs_length t.l;have:=t.sz_eq;omega
def c_kof (t)(v:t.sz<=B):AC EF 66 [aT t] [] (aK<|Xe t) []:=by
 have j:=tsz_l t v;let ⟨k,s,n,l⟩:=t;simp[Tm.l,B] at j;refine acv (v66 k s n (FTs l) _ _) ?_
 have b:∀ {u} {m:Int},∀K:Key,K=keyH u m->br (u.k==5) (TV.Le (aK anyK) (aK K)/\([])=[]) (br (u.k==4) (TV.Le (aK anyK) (aK K)/\([])=[])<|br (u.k==6) (TV.Le (aK anyK) (aK K)/\([])=[])<|TV.Le (aK ⟨false,u.k,u.s,u.n,m⟩) (aK K)/\([])=[]):=λ{u m} K r=>by
  subst r;unfold keyH;refine zm (λh=>?_) λh=>zm (λf=>?_) λf=>zm (λg=>?_) λg=>?_
  .rw[EL<|zl h];exact rrl
  .rw[EG<|zl h,EL<|zl f];exact rrl
  .rw[EG<|zl h,EG<|zl f,EL<|zl g];exact rrl
  .rw[EG<|zl h,EG<|zl f,EG<|zl g];exact rrl
 refine zm (λe=>?_) λe=>?_
 .have e:k=6:=zl e;subst e;cases l with
  |nil=>
   rw[show Xe (.mk 6 s n [])=anyK by unfold Xe;rw[EL (show Tm.k (.mk 6 s n [])=6 from rfl)];rfl]
   first|exact⟨rfl,bF (by simp[FTs]) (b (u:=.mk 6 s n []) (m:=0) anyK rfl)⟩|exact⟨rfl,zm (λ_=>rrl) (λh=>by simp[FTs] at h)⟩
  |cons x l=>
   rw[show Xe (.mk 6 s n<|x::l)=keyH x l.length by unfold Xe;rw[EL (show Tm.k (.mk 6 s n<|x::l)=6 from rfl)];rfl];have e0:FV.I (getD (getD (FTs<|x::l) 0 []) 0 FV.N)=x.k:=by cases x;rfl
   have y:FV.S (getD (getD (FTs<|x::l) 0 []) 1 FV.N)=x.s:=by cases x;rfl
   have p:FV.I (getD (getD (FTs<|x::l) 0 []) 2 FV.N)=x.n:=by cases x;rfl
   have o:wrap .i64 ((((FTs<|x::l).length))-1)=l.length:=by rw[zn];simp only[EH] at j ⊢;rw[w64 za za];omega
   have d:FV.L 4 (.sl false 4<|FTs<|x::l)=true/\((0:Int)<=0/\((0:Int)<(((FTs<|x::l).length:Nat):Int)/\(rE (getD (FTs<|x::l) 0 []):List FV)=getD (FTs<|x::l) 0 [])):=⟨rfl,za,by rw[zn];simp only[EH];omega,yO x⟩;have i:=b (u:=x) (m:=l.length) (keyH x l.length) rfl;rw[<-o,<-e0,<-y,<-p] at i;rw[<-o]
   first
    |exact⟨rfl,zm (λ_=>⟨d,rfl,i⟩) (λh=>absurd (ES h) (by rw[zn];simp only[EH];omega))⟩
    |exact⟨rfl,zm (λh=>by rw[zn] at h;simp at h;omega) (λ_=>⟨d,rfl,i⟩)⟩
 .have w:Xe (.mk k s n l)=keyH (.mk k s n l) 0:=by unfold Xe;rw[EG (show¬Tm.k (.mk k s n l)=6 from(by simpa using e:¬k=6))]
  exact b (u:=.mk k s n l) (m:=0) _ w
def insz (c)(b:zC c){x l}(h:c.ins=x::l):x.t.sz<=B:=by have e:=(Xt (YM b).2.2 (show x∈c.ins by rw[h];simp)).1;have d:=Tm.sz_bk x.t;omega
def fi_elem (x l):FV.L 8 (.sl false 8<|FIs<|x::l)=true/\(0:Int)<=0/\0<(((FIs<|x::l).length):Int)/\(fIr<|getD (FIs<|x::l) 0 [])=getD (FIs<|x::l) 0 []:=by refine⟨rfl,za,by rw[zP];simp only[EH];omega,?_⟩;rw[show getD _ 0 []=FI x by rw[FIs];rfl];exact fIr_FI x
def dY (c)(m:zC c):AC EF 37 [aC c] [] (aK<|xG c) []:=by
 cases g:c.ins with
 |nil=>
  have i:xG c=anyK:=by rw[xG,g]
  rw[i];refine acv (v37 ..) ?_;rw[g];exact⟨rfl,zm (λ_=>rrl) λh=>by simp[FIs] at h⟩
 |cons x l=>
  have j:=c_kof x.t<|insz c m g;rw[<-(aIt_FI x)] at j;have i:xG c=if x.a≠0 then anyK else if x.k=0 then Xe x.t else if x.k=1 then Xe x.t else anyK:=by rw[xG,g]
  have f:=fi_elem x l;have e:getD (FIs<|x::l) 0 []=FI x:=by rw[FIs];rfl
  rw[e] at f;rw[i];refine acv (v37 ..) ?_;rw[g,e];refine⟨rfl,zm (λh=>by rw[zP] at h;simp at h;omega) λ_=>⟨f,zm (λh=>?_) λh=>⟨f,zm (λb=>⟨f,_,_,_,_,_,j,?_⟩) λb=>zm (λd=>⟨f,_,_,_,_,_,j,?_⟩) λd=>?_⟩⟩⟩
  .rw[EL<|by rw[FI1 x] at h;exact zl h];exact rrl
  .rw[EG<|by rw[FI1 x] at h;exact zl h,EL<|by rw[FI0 x] at b;exact zl b];exact rrl
  .rw[EG<|by rw[FI1 x] at h;exact zl h,EG<|by rw[FI0 x] at b;exact zl b,EL<|by rw[FI0 x] at d;exact zl d];exact rrl
  .rw[EG<|by rw[FI1 x] at h;exact zl h,EG<|by rw[FI0 x] at b;exact zl b,EG<|by rw[FI0 x] at d;exact zl d];exact rrl
def Kr (a b):AC EF 161 [aK a,aK b] [] (cb<|uJ a b) []:=by
 refine acv (v161 ..) ?_;unfold uJ;refine zm (λh=>?_) λh=>zm (λd=>?_) λd=>?_
 .rw[EL h];exact zy rfl
 .rw[EG<|by rw[h];simp,EL d];exact zy rfl
 .rw[EG<|by rw[h];simp,EG<|by rw[d];simp];exact zy rfl
abbrev Ent:=List UInt8×Int×List (Int×Key)
def kRow (x:Int×Key):List FV:=[.int .i64 x.1,.bool x.2.any,.int .i64 x.2.k,.str x.2.nm,.int .i64 x.2.n,.int .i64 x.2.ar]
def ER (l:List<|Int×Key):=l.map kRow
def insT (p:List UInt8×Int)(x:Int×Key):List Ent->List Ent
 |[]=> [(p.1,p.2,[x])]
 |e::E=>if (((p.1:List UInt8)==e.1)&&(((p.2:Int)==e.2.1)&&true))=true then(p.1,p.2,e.2.2++[x])::E else e::insT p x E
def YA:List Ent->Nat->List MapE
 |[],_=> []
 |e::E,o=>((true,[.str e.1,.int .i64 e.2.1]),(false,[.a<|.osl o 6 0 e.2.2.length]))::YA E (o+1)
def rowsO (E:List Ent):List AObj:=E.map λe=>.arz 6<|ER e.2.2
def tabZ (E:List Ent):List MapZ:=E.map λe=>((true,[.str e.1,.int .i64 e.2.1]),(false,[.sl false 6<|ER e.2.2]))
abbrev tab0:AObj:=.arr 1 [[.a<|.mp 1]]
def mapO (E:List Ent):AObj:=match E with|[]=>.mapz []|e::E=>.mapo<|YA (e::E) 2
def outN (E:List Ent):=tab0::mapO E::rowsO E
def ER_take (l x):take l.length (ER l)++[kRow x]=ER (l++[x]):=by rw[EV<|by simp[ER]];simp[ER]
def ER_len (l):l.length<=(ER l).length:=by simp[ER]
def len1 (l)(x:Int×Key):(l++[x]).length=l.length+1:=zb
abbrev EntR:=(List UInt8×Int)×Nat×List (List FV)
def toR (e:Ent):EntR:=((e.1,e.2.1),e.2.2.length,ER e.2.2)
def mw:List EntR->Nat->List MapE
 |[],_=> []
 |e::E,o=>((true,[.str e.1.1,.int .i64 e.1.2]),(false,[.a<|.osl o 6 0 e.2.1]))::mw E (o+1)
def numR:List EntR->Nat->AHeap
 |[],_=> []
 |e::E,o=>(o,.arz 6 e.2.2)::numR E (o+1)
def mapR (E:List EntR):AObj:=match E with|[]=>.mapz []|e::E=>.mapo<|mw (e::E) 2
def stR (L:List<|List FV)(n i:Int)(E:List EntR):St:=⟨[(3,.c<|.a<|.ep 0 1 0 0),(10,.c<|qf<|.sl false 6 L),(11,ci n),(12,ci i)],(0,tab0)::(1,mapR E)::numR E 2,2+E.length⟩
def chN (x:List FV)(nm:List UInt8)(ar:Int)(K:List EntR->Prop):List EntR->List EntR->Prop
 |pre,[]=>1<=1/\zw 1 56/\K (pre++[((nm,ar),1,[x])])
 |pre,e::E=>br ((nm==e.1.1)&&((ar==e.1.2)&&true)) (1<=1/\(e.2.1<=e.2.2.length/\zw (e.2.1+1) 56)/\K (pre++((nm,ar),e.2.1+1,take e.2.1 e.2.2++[x])::E))<|chN x nm ar K (pre++[e]) E
def askN (L:List<|List FV)(n i:Int)(c:List FV)(r:TV)(Hs:List AObj)(E:List EntR):=
 br (decide (i<n)) ((FV.L 6 (.sl false 6 L)=true/\0<=i/\i<(L.length)/\fCr c=c)/\∃(b:Bool) (k:Int) (s:List UInt8) (m a:Int),AC EF 37 [aCr c] [] (.agg [qf<|.bool b,qi k,qf<|.str s,qi m,qi a]) []/\
  chN [.int .i64 i,.bool b,.int .i64 k,.str s,.int .i64 m,.int .i64 a] (FV.S<|getD c 0 FV.N) (FV.I<|getD c 1 FV.N) (λE=>RPt EF 21 0 r Hs 1<|stR L n (wrap .i64<|i+1) E) [] E) (TV.Le (.c<|.a<|.ep 0 1 0 0) r/\(tab0::mapR E::E.map λe=>.arz 6 e.2.2)=Hs)
abbrev VN (L:List<|List FV)(n i:Int)(r:TV)(Hs:List AObj)(E:List EntR):Prop:=vcP EF sh lv21 21 0 (λr0 Hs0=>TV.Le r0 r/\Hs0=Hs) (RPt EF 21 0 r Hs) 1 (stR L n i E)=askN L n i (getD L (toNat i) []) r Hs E
def vN3 {L:List (List FV)}{n i:Int}{r:TV}{Hs:List AObj}(b z y e j p f m u g w c3 x v d o:EntR):∀E:List EntR,E.length<=4->VN L n i r Hs (b::z::y::e::j::p::f::m::u::g::w::c3::x::v::d::o::E)
 |[],_=>by unfold VN;kernel_rfl
 |[_],_=>by unfold VN;kernel_rfl
 |[_,_],_=>by unfold VN;kernel_rfl
 |[_,_,_],_=>by unfold VN;kernel_rfl
 |[_,_,_,_],_=>by unfold VN;kernel_rfl
 |b0::C::A::F::D::E,h=>absurd h (by simp only[EH];omega)
def vN2 {L:List (List FV)}{n i:Int}{r:TV}{Hs:List AObj}(b o m d f j e g:EntR):∀E:List EntR,E.length<=12->VN L n i r Hs (b::o::m::d::f::j::e::g::E)
 |[],_=>by unfold VN;kernel_rfl
 |[_],_=>by unfold VN;kernel_rfl
 |[_,_],_=>by unfold VN;kernel_rfl
 |[_,_,_],_=>by unfold VN;kernel_rfl
 |[_,_,_,_],_=>by unfold VN;kernel_rfl
 |[_,_,_,_,_],_=>by unfold VN;kernel_rfl
 |[_,_,_,_,_,_],_=>by unfold VN;kernel_rfl
 |[_,_,_,_,_,_,_],_=>by unfold VN;kernel_rfl
 |b0::u::p::y::w::v::x::z::E,h=>vN3 b o m d f j e g b0 u p y w v x z E (by simp only[EH] at h;omega)
def vN (L:List<|List FV)(n i:Int)(r:TV)(Hs:List AObj):∀E:List EntR,E.length<=20->VN L n i r Hs E
 |[],_=>by unfold VN;kernel_rfl
 |[_],_=>by unfold VN;kernel_rfl
 |[_,_],_=>by unfold VN;kernel_rfl
 |[_,_,_],_=>by unfold VN;kernel_rfl
 |[_,_,_,_],_=>by unfold VN;kernel_rfl
 |[_,_,_,_,_],_=>by unfold VN;kernel_rfl
 |[_,_,_,_,_,_],_=>by unfold VN;kernel_rfl
 |[_,_,_,_,_,_,_],_=>by unfold VN;kernel_rfl
 |b0::j::g::e::f::b::d::m::E,h=>vN2 b0 j g e f b d m E (by simp only[EH] at h;omega)
def chN_of {p x K}:∀(E b),(∀e∈E,e.2.2.length<=24)->K ((b++insT p x E).map toR)->chN (kRow x) p.1 p.2 K (b.map toR) (E.map toR)
 |[],b,_,h=>by rw[insT,SN] at h;exact⟨EI _,by unfold zw;omega,h⟩
 |e::E,b,d,h=>by
  rw[insT] at h;refine zm (λq=>?_) λq=>?_
  .have q:((p.1==e.1)&&((p.2==e.2.1)&&true))=true:=q;rw[EL q,SN,SA] at h;have i:=d e ET;refine⟨EI _,⟨ER_len _,by unfold zw;simp[toR];omega⟩,?_⟩;have f:toR (p.1,p.2,e.2.2++[x])=((p.1,p.2),(toR e).2.1+1,take (toR e).2.1 (toR e).2.2++[kRow x]):=by simp only[toR];rw[ER_take,len1]
   rw[f] at h;exact h
  .have q:((p.1==e.1)&&((p.2==e.2.1)&&true))=false:=q;rw[EG<|by rw[q];simp] at h;have:=chN_of E (b++[e]) (λu g=>d u<|EP _ g) (zl h);rw[SN] at this;exact this
def ab:∀(E) (o),mw (E.map toR) o=YA E o
 |[],_=>rfl
 |e::E,o=>by rw[SA,mw,ab E,YA];rfl
def mapR_eq (E):mapR (E.map toR)=mapO E:=by
 cases E with
 |nil=>rfl
 |cons e E=>show AObj.mapo (mw ((e::E).map toR) 2)=_;rw[ab];rfl
def stN (l:List Cd)(E:List Ent)(i:Int):=stR (FCs l) (((FCs l).length)) i<|E.map toR
def exitN (l E)(h:E.length<=20):RPt EF 21 0 (.c<|.a<|.ep 0 1 0 0) (outN E) 1 (stN l E<|((FCs l).length)):=by refine rpv (vN _ _ _ _ _ _<|by rw[Sn];exact h)<|bF (Int.lt_irrefl _) ⟨.refl _,?_⟩;rw[mapR_eq,GT];rfl
def stepN (l a b:List Cd)(c:Cd)(g:l=a++c::b)(m:l.length<=20)(j:zC c)(r:TV)(Hs:List AObj)(E:List Ent)(y:E.length<=19)(u:∀e∈E,e.2.2.length<=24)(w:RPt EF 21 0 r Hs 1<|stN l (insT (c.nm,c.ar) (a.length,xG c) E)<|(a.length:Int)+1):RPt EF 21 0 r Hs 1 (stN l E a.length):=by
 have v:=dY c j;have d:(a.length:Int)<(((FCs l).length:Nat):Int):=by rw[y3,g];simp;omega
 have f:=m;rw[g,EJ,EH] at f;have h:=gX a c b;rw[<-g] at h;have e0:FV.S (getD (FC c) 0 FV.N)=c.nm:=by cases c;rw[FC];rfl
 have o:FV.I (getD (FC c) 1 FV.N)=c.ar:=by cases c;rw[FC];rfl
 refine rpv (vN _ _ _ _ _ (E.map toR)<|by rw[Sn];omega) ?_;rw[h];unfold askN;rw[w64 (x:=(a.length:Int)+1) za za,e0,o];refine bT d ⟨⟨rfl,za,d,bI c⟩,_,_,_,_,_,by have i:=v;rw[<-(show aCr (FC c)=aC c from pZ c)] at i;exact i,?_⟩;exact chN_of (p:=(c.nm,c.ar)) (x:=((a.length:Int),xG c)) E [] u w
def AC.freeze {P f args} {es:List MapE} {rows} {U:List MapZ} (h:AC P f args [] (.c<|.a<|.ep 0 1 0 0)<|.arr 1 [[.a<|.mp 1]]:: .mapo es::rows) (L:U.length=es.length)
  (hz:∀(i) (e:MapE) z,es[i]?=some e->U[i]?=some z->e.1=z.1/\∃(n C:Nat) (K:List<|List FV),e.2=(false,[.a<|.osl (2+i) n 0 C])/\rows[i]?=some (.arz n K)/\C<=K.length/\z.2=(false,[.sl false n<|K.take C])):
  AC P f args [] (.c<|.a<|.ep 0 1 0 0) [.arr 1 [[.a<|.mp 1]],.mapz U]:=by
 refine⟨h.1,SQ _,λw vals β Y h1 h2 hgl h3 h4=>?_⟩;refine(h.2.2 w vals β Y h1 h2 hgl h3 h4).mono λe w' ⟨v,r,k1,T,F,W,k5,k6,k7⟩=>?_;have D:∀o b,(if o<2 then r o else none)=some b->o<2/\r o=some b:=by
  intro o b d;split at d;next q=>exact⟨q,d⟩
  .cases d
 have l0:=trivial;have l1:isLive ((AObj.arr 1 [[.a<|.mp 1]]:: .mapo es::rows).getD 1 .gone):=trivial;have hX:∀b,(Y b\/Own (λo=> [AObj.arr 1 [[.a<|.mp 1]],.mapz U].getD o .gone) (λo=>if o<2 then r o else none) b)->Y b\/Own (λo=>(AObj.arr 1 [[.a<|.mp 1]]:: .mapo es::rows).getD o .gone) r b:=by
  intro b d;rcases d with d|⟨o,_,A⟩
  .exact .inl d
  .let ⟨q,A⟩:=D o b A
   match o,q,A with
   |0,_,A=>exact .inr ⟨0,l0,A⟩
   |1,_,A=>exact .inr ⟨1,l1,A⟩
 have M:∀ {x} {u:Value},FRep w' (λb=>Y b\/Own (λo=>(AObj.arr 1 [[.a<|.mp 1]]:: .mapo es::rows).getD o .gone) r b) x u->FRep w' (λb=>Y b\/Own (λo=> [AObj.arr 1 [[.a<|.mp 1]],.mapz U].getD o .gone) (λo=>if o<2 then r o else none) b) x u:=
  λp=>p.mono (EI _) λb d _=>⟨rfl,λy=>d<|hX b y⟩
 refine⟨v,λo=>if o<2 then r o else none,k1,⟨T.size,λb d hno=>T.blk b d hno,T.shp,T.os,T.tape,T.output⟩,⟨λo b hl d=>?_,λo hl=>?_,λo o' b hl hl' d y=>?_,λo b d=>F.lt o b (D o b d).2⟩,?_,λo b d=>(D o b d).1,λo A=>absurd A<|GA _,λo b _ d=>?_⟩
 .let ⟨q,d⟩:=D o b d
  match o,q,d with
  |0,_,d=>
   have p:=F.rep 0 b l0 d;let ⟨us,t,g1,g2,g3,g4⟩:=p;refine⟨us,t,g1,g2,g3,λi j e c g H=>?_⟩;let ⟨u,E,p⟩:=g4 i j e c g H;refine⟨u,E,?_⟩;have H:c=.a (.mp 1):=by
    cases i with
    |zero=>simp at g;subst g;cases j with
     |zero=>simp at H;exact H.symm
     |succ j=>simp at H
    |succ i=>simp at g
   subst H;cases p with
   |a _ _ p=>cases p with
    |mp _ b1 hb1=>exact .a _ _<|.mp _ _ hb1
  |1,_,d=>
   have p:=F.rep 1 b l1 d;let ⟨ms,ck,g1,g2,g3,g4,g5⟩:=p;refine⟨ms,ck,g1,by rw[g2,Sn,L],λi e m g hm=>?_,g4,g5⟩;rw[EX] at g;obtain⟨z,X,rfl⟩:=EM.1 g;have hi:i<es.length:=by rw[<-L];exact(EW.1 X).1
   have hei:=EU hi;let ⟨e1,n,C,K,e2,e3,e4,e5⟩:=hz i _ z hei X;let ⟨J,N⟩:=g3 i _ m hei hm;refine⟨?_,?_⟩
   .show PRep _ z.1 m.key;rw[<-e1];exact J.imp λc u _ p=>M p
   .show PRep _ (z.2.1,fzs z.2.2) m.val;rw[e5];rw[e2] at N;let ⟨us,hus,V,_⟩:=N;have hul:=V.1
    match us,hul with
    |[u],_=>
    have E:=V.2 0 _ u rfl rfl;refine⟨[u],hus,⟨rfl,λj c v H hv=>?_⟩,λ_=>rfl⟩;cases j with
    |succ j=>simp[fzs] at H
    |zero=>
     simp[fzs] at H hv;subst H;subst hv;refine .a _ _<|.fz _ _ ?_;cases E with
     |a _ _ E=>
      cases E with
      |oslN=>simpa using FRep.slnil n
      |osl _ _ _ _ S q2 cap sz t G hs hlc hcs hq=>
       by_cases Z:cap=0
       .have:C=0:=za;subst Z;subst this;simpa using FRep.sl0 false n _
       .have hq:q2=0:=by
         rcases hq with hq|hq
         .simpa using hq
         .exact absurd hq Z
        subst hq;have O:(AObj.arr 1 [[.a<|.mp 1]]:: .mapo es::rows).getD (2+i) .gone=.arz n K:=by rw[(za:2+i=i+1+1),List.getD_cons_succ,List.getD_cons_succ,getD,e3];rfl
        have I:isLive ((AObj.arr 1 [[.a<|.mp 1]]:: .mapo es::rows).getD (2+i) .gone):=by rw[O];trivial
        have p:=F.rep (2+i) S I G;simp only[O] at p;let ⟨us2,t2,r1,r2,r3,r4⟩:=p;have hny:¬(Y S\/Own (λo=> [AObj.arr 1 [[.a<|.mp 1]],.mapz U].getD o .gone) (λo=>if o<2 then r o else none) S):=by
         intro y;rcases y with y|⟨o,_,A⟩
         .exact(F.here I G).2 y
         .let ⟨q,A⟩:=D o S A
          match o,q,A with
          |0,_,A=>have:=F.inj 0 (2+i) S l0 I A G;omega
          |1,_,A=>have:=F.inj 1 (2+i) S l1 I A G;omega
        have key:∀(a j) e f,(K.take C)[a]?=some e->e[j]?=some f->∃u,us2[a*n+j]?=some u/\FRep w' (λb=>Y b\/Own (λo=>(AObj.arr 1 [[.a<|.mp 1]]:: .mapo es::rows).getD o .gone) r b) f u:=by
         intro a j e f g hf;have g:K[a]?=some e:=by
          rw[Sy] at g;split at g
          .exact g
          .cases g
         let ⟨u,E,p⟩:=r4 a j (fzs e) (cell f) (by rw[EX,g];rfl) (by rw[fzs,EX,hf];rfl);refine⟨u,E,?_⟩;cases p with
         |a _ _ p=>cases p with
          |fz _ _ p=>exact p
        refine FRep.sl false n (K.take C) S 0 cap C (λa j=>us2.getD (a*n+j)<|.bool false) (by rw[S8];omega) (by rw[S8];omega) hny (F.lt _ _ G) (λa e g=>?_) (λa j e f g hf=>?_) λa j e f g hf=>?_
        .have g:K[a]?=some e:=by
          rw[Sy] at g;split at g
          .exact g
          .cases g
         have:=r3 (fzs e)<|SG.2 ⟨e,Sl g,rfl⟩;simpa[fzs] using this
        .let ⟨u,E,_⟩:=key a j e f g hf;simp[World.cell?,r1,Sa];simp[getD,E]
        .let ⟨u,E,p⟩:=key a j e f g hf;simp[getD,E,Sq];exact M p
 .match o,hl with
  |0,_=>
   rcases F.has 0 l0 with⟨b,J,N,V⟩|⟨J,N⟩
   .exact .inl ⟨b,zl J,N,V⟩
   .exfalso;let ⟨n,hn⟩:=J;simp[flat] at hn
  |1,_=>
   rcases F.has 1 l1 with⟨b,J,N,V⟩|⟨J,N⟩
   .exact .inl ⟨b,zl J,N,V⟩
   .exfalso;let ⟨n,hn⟩:=J;simp[flat] at hn
  |o+2,hl=>simp[isLive] at hl
 .let ⟨q,d⟩:=D o b d;let ⟨q',y⟩:=D o' b y
  have live:∀o,o<2->isLive ((AObj.arr 1 [[.a<|.mp 1]]:: .mapo es::rows).getD o .gone):=λo q=>by
   match o,q with
   |0,_=>exact l0
   |1,_=>exact l1
  exact F.inj o o' b (live o q) (live o' q') d y
 .have W:=W;cases W with
  |a _ _ W=>cases W with
   |ep _ _ _ _ b d=>exact .a _ _<|.ep _ _ _ _ _<|zl d
 .let ⟨_,d⟩:=D o b d;exact k7 o b (SQ _) d
structure Rs (K:Nat)(w:Wp)(e:Int)(v:Wp):Prop where
 h:OkH v.s
 f0:0<=v.f
 f1:v.f<=w.f
 mv:Mv true w.s v.s
 n:e=0->NmB K v.s
 m:NmB (K+1048577) v.s
def OkW.refl {K w}(h:OkW K w)(e):Rs K w e w:=⟨h.h,h.f0,EQ _,.refl _,λ_=>h.n,by have:=h.n;unfold NmB at*;omega⟩
def Rs.ok {K w v e}(h:Rs K w e v)(ok:OkW K w)(b:e=0):OkW K v:=⟨h.h,h.f0,by have:=h.f1;have:=ok.f1;omega,h.n b,h.mv.ih ok.i⟩
def Rs.trans {K w v u e d}(h:Rs K w e v)(g:Rs K v d u):Rs K w d u:=⟨g.h,g.f0,by have:=h.f1;have:=g.f1;omega,h.mv.trans g.mv,g.n,g.m⟩
def Rs.same {K w v e d}(h:Rs K w e v)(b:d=0->e=0):Rs K w d v:=⟨h.h,h.f0,h.f1,h.mv,λq=>h.n<|b q,h.m⟩
def Mv.nm {s t:Hp}{K:Nat}(h:Mv false s t)(g:NmB K s):NmB K t:=by have b:=h.N;have d:=h.len.1;unfold NmB at*;rw[b];omega
def OkW.mv {K w v}(b:OkW K w)(h:Mv false w.s v.s)(f0:0<=v.f)(d:v.f<=w.f)(e):Rs K w e v:=
 ⟨h.ok b.h,f0,d,h.up,λ_=>h.nm b.n,by have:=h.nm b.n;unfold NmB at*;omega⟩
def wu {K w}(b:OkW K w)(a):Rs K w (lookW w a).1.2 (lookW w a).2/\Mv false w.s (lookW w a).2.s/\
  ((lookW w a).1.2=0->(lookW w a).2.f+(lookW w a).1.1.js.length+1<=w.f):=by
 have g:=fH _ ⟨w.s,w.f,0⟩ a<|EI _;have u:=Ke w.s a w.f b.f0;have o:=pB w.s a w.f b.h b.f0 (by have:=b.f1;omega);have r:=b.f0;have key:(lookW w a).2.s=(yK w.s a w.f).2/\((lookW w a).1.2≠0/\(lookW w a).2.f=w.f\/(lookW w a).1.2=0/\0<=(lookW w a).2.f/\(lookW w a).2.f+(lookW w a).1.1.js.length+1<=w.f):=by
  unfold lookW;split;next q=>exact⟨rfl,.inl ⟨q,rfl⟩⟩
  .rename_i q;refine⟨rfl,.inr ⟨rfl,?_⟩⟩;have q:(yK w.s a w.f).1.2.2=0:=zl q;revert q;unfold yK;split;next h=>exact λq=>absurd q h
   next h=>intro _;have:=g.2 (zl h);exact⟨this.2,this.1⟩
 let ⟨i,j⟩:=key;have d:Mv false w.s (lookW w a).2.s:=by rw[i];exact u
 rcases j with⟨q,e⟩|⟨q,m,p⟩
 .exact⟨b.mv d za za _,d,λh=>absurd h q⟩
 .exact⟨b.mv d m za _,d,λ_=>p⟩
def ge (t):(if zt t=true then zU t else t).sz<=t.sz:=by
 split;next h=>exact(k9 t<|zW t h).2.2.1
 .exact EI _
def pD {K w}(b:OkW K w)(a):Rs K w (w9 w a).1.2 (w9 w a).2/\Mv false w.s (w9 w a).2.s/\(w9 w a).1.1.sz<=10000000:=by
 let ⟨r,i⟩:=aq w.s a w.f b.f0;have e:=b.f0;have m:=b.f1;have d:OkR ⟨w.s,w.f,0⟩:=⟨b.h,zk,zk⟩;have g:=Zi _ (w.f.toNat+1) w.f (EI _) za ⟨w.s,w.f,0⟩ a d<|EQ _;have sz:=ge (fulR (2*w.f.toNat+2) (w.f.toNat+1) ⟨w.s,w.f,0⟩ a).1;have p:(xe w.s a w.f).1.2.2=0->(xe w.s a w.f).1.2.1<=w.f:=by
  unfold xe;split;next h=>exact λq=>absurd q h
  next h=>intro _;exact g.2.1
 have u:(xe w.s a w.f).1.1.sz<=10000000:=by
  have o:=g.2.2;unfold xe;split
  .show t0.sz<=_;decide
  .show(if _ then _ else _:Tm).sz<=_;dsimp only at o;omega
 have v:(w9 w a).2.s=(xe w.s a w.f).2:=rfl;have j:=r;refine⟨b.mv j ?_ ?_ _,j,u⟩
 .show 0<=(if _ then _ else _:Int);split
  .exact i
  .exact e
 .show(if _ then _ else _)<=_;split;next q=>exact p q
  .exact EQ _
def leaf_nil {k n s l}(h:zt (.mk k s n l)=true)(b:k=3\/k=1):l=[]:=by
 rw[zt] at h;rcases b with rfl|rfl
 .simp[zn] at h;exact h.1.2
 .simp[zn] at h;exact h.1.2
def LfZ (t:Tm):Prop:=(t.k=3\/t.k=1)/\t.l=[]/\zt t=true
def leafZ_ok (t)(h:(u9 t).2=true):LfZ (u9 t).1:=by
 unfold u9 at h ⊢;split
 .rename_i d;rw[EL d] at h;split
  .rename_i q;have e:=k9 t<|zW t d;have b:zt (zU t)=true:=by rw[wz,e.1,e.2.1<|ul d];rfl
   refine⟨q,?_,b⟩;generalize zU t=z at*;let ⟨k,s,n,l⟩:=z;exact leaf_nil b q
  next q=>rw[EG q] at h;cases h
 next d=>rw[EG d] at h;cases h
def LfZ.sz {t}(h:LfZ t):t.sz=1:=by let ⟨k,s,n,l⟩:=t;have e:l=[]:=h.2.1;rw[e];rfl
def xC {K}(lv):∀(l) (b) {w},OkW K w->(∀t∈b,LfZ t)->Rs K w (zA lv l b w).1.2 (zA lv l b w).2/\Mv false w.s (zA lv l b w).2.s/\
  (zA lv l b w).1.1.length<=b.length+l.length/\∀t∈(zA lv l b w).1.1,LfZ t
 |[],b,w,f,h=>⟨f.refl _,.refl _,by simp[zA],h⟩
 |a::l,b,w,f,h=>by
  let ⟨d,g,_⟩:=pD f a;rw[zA];split
  .exact⟨d,g,zb,λt ht=>by cases ht⟩
  .rename_i q;have q:(w9 w a).1.2=0:=zl q;split
   .exact⟨d.same λ_=>q,g,zb,λt ht=>by cases ht⟩
   .rename_i i;have j:(u9 (w9 w a).1.1).2=true:=by
     cases e:(u9 (w9 w a).1.1).2 with
     |true=>rfl
     |false=>exact absurd (by unfold badZ;rw[e];rfl) i
    have ih:=xC lv l _ (d.ok f q) (λt ht=>by
     rcases Sb.1 ht with ht|ht
     .exact h t ht
     .rw[Si.1 ht];exact leafZ_ok _ j)
    refine⟨d.trans ih.1,g.trans ih.2.1,?_,ih.2.2.2⟩;have:=ih.2.2.1;simp[EJ,EH,EY] at this ⊢;omega
mutual
def tmI:Tm->Prop
 |.mk k _ n l=>(k=2->N64 n)/\tmIs l
def tmIs:List Tm->Prop
 |[]=>True
 |t::l=>tmI t/\tmIs l
end
def JS:∀ {l} {t},tmIs l->t∈l->tmI t
 |x::l,t,h,hm=>by
  rw[tmIs] at h;rcases S4.1 hm with rfl|hm
  .exact h.1
  .exact JS h.2 hm
def cx:∀ {l},(∀t∈l,tmI t)->tmIs l
 |[],_=>by rw[tmIs];trivial
 |t::l,h=>by rw[tmIs];exact⟨h t ET,cx λu b=>h u<|EP _ b⟩
def xh {k s n l}(h:k≠2)(b:∀t∈l,tmI t):tmI (.mk k s n l):=by rw[tmI];exact⟨λe=>absurd e h,cx b⟩
def i9 {t}(h:tmI t):∀u∈t.l,tmI u:=by let ⟨k,s,n,l⟩:=t;rw[tmI] at h;exact λu b=>JS h.2 b
def Yg:∀(n) {t},tmI t->tmI (w5 n t)
 |0,_,h=>h
 |n+1,t,h=>Yg n<|xh zc λu b=>by rw[Si.1 b];exact h
def vX {t l}(h:tmI t)(b:∀u∈l,tmI u):tmI (zH t l):=by
 unfold zH;split
 .exact h
 .split
  .refine xh zc λu hu=>?_;rcases Sb.1 hu with hu|hu
   .exact i9 h u hu
   .exact b u hu
  .refine xh zc λu hu=>?_;rcases S4.1 hu with rfl|hu
   .exact h
   .exact b u hu
def nR (V):∀(l),(∀u∈l,∀s,Mv true s (encE V u s).2)->∀(f) (s),Mv true s (encR V l f s).2
 |[],_,f,s=>by rw[encR];exact .refl _
 |u::l,h,f,s=>by
  have b:=h u ET s;rw[encR];split
  .exact b
  .split
   .exact b.put _
   .exact(b.put _).trans<|nR V l (λv d=>h v<|EP _ d) _ _
def sym_mv (s nm):Mv true s (symS s nm).2:=by
 unfold symS;split
 .exact .refl _
 .exact .names [nm] rfl (.refl s)
def encE_mv (V):∀(t),tmI t->∀s,Mv true s (encE V t s).2:=by
 refine Tm.ind λt ih=>?_;let ⟨k,nm,n,l⟩:=t;intro b s;rw[tmI] at b;have ih:=λu e=>ih u e<|JS b.2 e;rw[encE];split
 .exact(sym_mv s nm).put _
 .split
  .exact(Mv.refl s).put _
  .split;next f=>exact(Mv.refl s).put _ λ_=>b.1 f
   .split
    .exact(Mv.refl s).put _
    .split
     .exact .refl s
     .match l with
      |[]=>rw[encL];exact .refl s
      |u::l=>
       have d:=ih u ET s;rw[encL];split
       .exact d
       .split
        .exact d.put _
        .exact d.trans<|nR V l (λv g=>ih v<|EP _ g) _ _
def nO (V s t)(g:tmI t):Mv true s (encS V s t).2:=by
 by_cases h:(encS V s t).1.2=0
 .unfold encS at h ⊢;split
  .exact .refl s
  .split;next f b=>rw[EG f,EL b] at h;exact absurd h b
   .exact encE_mv V t g s
 .let ⟨e,d⟩:=tH V s t h;rw[d];exact .names e rfl (.refl s)
def encS_nm (V){K s}(t)(i:OkH s)(g:NmB K s):((encS V s t).1.2=0->NmB K (encS V s t).2)/\NmB (K+1048577) (encS V s t).2:=by
 have b:=vP V t s;unfold encS;split
 .exact⟨λ_=>g,by unfold NmB at*;dsimp only;omega⟩
 .split
  .rename_i q;refine⟨λh=>absurd h q,?_⟩;have o:=(b.1 i).C;let ⟨_,d,e,f,j⟩:=b;rw[EG q] at j;rw[f] at o ⊢;unfold NmB at*;simp[EJ,S8] at*;omega
  next q=>have:=b.nm (K:=K) (zl q) g;exact⟨λ_=>this,by unfold NmB at*;omega⟩
def encS_h (V s t)(ok:OkH s):OkH (encS V s t).2:=by
 have b:=(vP V t s).1 ok;unfold encS;split
 .exact ok
 .split
  .exact⟨by simp[S8];have:=ok.C;omega,b.M,b.T,b.L⟩
  .exact b
def hangW_sz (w x lv b on):(wZ w x lv b on).1.1.sz=1:=by unfold wZ;split<;>rfl
def tQ {K w}(ok:OkW K w)(x t)(e:tmI t):Rs K w (setW w x t).1 (setW w x t).2:=by
 have b:=nO none w.s t e;have nm:=encS_nm none t ok.h ok.n;unfold setW;split;next q=>exact⟨b.ok ok.h,ok.f0,EQ _,b,nm.1,nm.2⟩
 next q=>have d:=(nm.1<|zl q).set x ⟨5,(encS none w.s t).1.1,0,0,0⟩;exact⟨(b.set x _).ok ok.h,ok.f0,EQ _,b.set x _,λ_=>d,by unfold NmB at*;dsimp only;omega⟩
def OkW.fresh {K w}(b:OkW K w)(lv):Rs K w (yp w.s lv).1.2 ⟨(yp w.s lv).2,w.f⟩:=by have d:Mv false w.s (yp w.s lv).2:=.put _<|.refl _;exact b.mv (v:=⟨(yp w.s lv).2,w.f⟩) d b.f0 (EQ _) _
def ly {K w}(ok:OkW K w)(x lv b on)(f:∀u∈on,tmI u):Rs K w (wZ w x lv b on).1.2 (wZ w x lv b on).2/\(wZ w x lv b on).1.1.sz=1/\tmI (wZ w x lv b on).1.1:=by
 have d:=ok.fresh lv;unfold wZ;split
 .exact⟨d,rfl,xh zc zb⟩
 next q=>have e:tmI (.mk 4 [] (yp w.s lv).1.1 []):=xh zc zb;exact⟨d.trans<|tQ (d.ok ok<|zl q) x _<|Yg _<|vX e f,rfl,e⟩
def uW (v t k)(h:t.sz=1/\t.k≠2):(vG v t k).1.sz=1/\(vG v t k).1.k≠2:=by
 unfold vG;split
 .exact h
 .split
  .exact⟨rfl,by show 3≠2;decide⟩
  .exact h
def ones (l:List Tm):=∀t,t∈l->t.sz=1/\t.k≠2
def rF {t}(h:t.sz=1/\t.k≠2):tmI t:=by have e:=t.sz_eq;have d:=Tm.szs_length t.l;let ⟨k,s,n,l⟩:=t;have b:l=[]:=List.length_eq_zero_iff.1 (by have f:=h.1;simp[Tm.l] at e d;omega);subst b;exact xh h.2 zb
def ones.tmI {l}(h:ones l):∀t∈l,tmI t:=λt b=>rF<|h t b
def qD:∀ {l},ones l->Tm.szs l=l.length
 |[],_=>rfl
 |t::l,h=>by have ih:=qD (l:=l) λu b=>h u<|EP _ b;have:=(h t ET).1;simp[Tm.szs,EH];omega
def tY (v k):∀(l),ones l->ones (im1 v k l).2/\(im1 v k l).2.length<=l.length/\(im1 v k l).1.length=(im1 v k l).2.length/\ones (im1 v k l).1
 |[],_=>⟨(λt b=>nomatch b),EI _,rfl,(λt b=>nomatch b)⟩
 |t::l,h=>by
  let ⟨d,g,e,f⟩:=tY v k l λu hu=>h u<|EP _ hu;rw[im1];split
  .refine⟨λu hu=>?_,zj,by simp[e],λu hu=>?_⟩
   .rcases S4.1 hu with rfl|hu
    .exact uW v _ k<|h _ ET
    .exact d u hu
   .rcases S4.1 hu with rfl|hu
    .exact⟨rfl,by show 3≠2;decide⟩
    .exact f u hu
  .grind
def im2_ok (lv vlv k):∀(l),ones l->ones (im2 lv vlv k l).2/\(im2 lv vlv k l).2.length<=l.length/\(im2 lv vlv k l).1.length=(im2 lv vlv k l).2.length/\ones (im2 lv vlv k l).1
 |[],_=>⟨(λt b=>nomatch b),EI _,rfl,(λt b=>nomatch b)⟩
 |t::l,h=>by
  let ⟨d,g,e,f⟩:=im2_ok lv vlv k l λu hu=>h u<|EP _ hu;rw[im2];split
  .refine⟨λu hu=>?_,zj,by simp[e],λu hu=>?_⟩
   .rcases S4.1 hu with rfl|hu
    .exact⟨rfl,by show 3≠2;decide⟩
    .exact d u hu
   .rcases S4.1 hu with rfl|hu
    .exact h _ ET
    .exact f u hu
  .grind
def qb {a b}(f:ones a)(e:ones b):ones (a++b):=λu d=>(Sb.1 d).elim (λh=>f u h) λh=>e u h
def flexG_ok {K}(v y k){z}(ok:z.1.2=0->OkW K z.2)(m:ones v.l)(i:ones z.1.1):
  (z.1.2=0->Rs K z.2 (ZX v y k z).1.2 (ZX v y k z).2)/\(z.1.2≠0->(ZX v y k z).1.2=z.1.2/\(ZX v y k z).2=z.2)/\(ZX v y k z).1.1.sz<=2+z.1.1.length+v.l.length/\tmI (ZX v y k z).1.1:=by
 let ⟨b,r,o,j⟩:=tY v k z.1.1 i;let ⟨f,p,u,g⟩:=im2_ok y.c.a v.lv k v.l m;unfold ZX;split;next q=>exact⟨λh=>absurd h q,λ_=>⟨rfl,rfl⟩,by show noT.sz<=_;have:noT.sz=1:=rfl;omega,xh zc zb⟩
 .rename_i q;have q:z.1.2=0:=za;split
  .refine⟨λ_=>(ok q).refl _,λh=>absurd q h,?_,vX (xh zc zb) b.tmI⟩;have:=u6 (.mk 4 [] y.h []) (im1 v k z.1.1).2;rw[qD b] at this;have e:(Tm.mk 4 [] y.h []).sz=1:=rfl;grind
  .have d:=ly (ok q) y.h (yb [v.lv,y.c.a]) z.1.1.length ((im1 v k z.1.1).1++(im2 y.c.a v.lv k v.l).1) (qb j g).tmI;refine⟨λ_=>d.1,λh=>absurd q h,?_,vX d.2.2 (qb b f).tmI⟩;have:=u6 (wZ z.2 y.h (yb [v.lv,y.c.a]) z.1.1.length<|(im1 v k z.1.1).1++(im2 y.c.a v.lv k v.l).1).1.1<|(im1 v k z.1.1).2++(im2 y.c.a v.lv k v.l).2;rw[qD<|qb b f,EJ] at this;grind
def TrG (K:Nat)(w:Wp)(z:(Tm×Int)×Wp):Prop:=Rs K w z.1.2 z.2/\z.1.1.sz<=1+100004*(w.f-z.2.f).toNat/\tmI z.1.1
def aJ {K F m}(h:∀b w,OkW K w->w.f<=m->TrG K w (F b w)):∀(l) (t) {w},OkW K w->w.f<=m->tmI t->
  Rs K w (j8 F l t w).1.2 (j8 F l t w).2/\(j8 F l t w).1.1.sz<=t.sz+2*l.length+100004*(w.f-(j8 F l t w).2.f).toNat/\tmI (j8 F l t w).1.1
 |[],t,w,ok,_,g=>⟨ok.refl _,by simp[j8],by rw[j8];exact g⟩
 |b::l,t,w,ok,o,g=>by
  let ⟨d,x,r⟩:=h b w ok o;rw[j8];split
  .refine⟨d,?_,xh zc zb⟩;have:noT.sz=1:=rfl;grind
  .rename_i q;let ⟨i,v,p⟩:=aJ h l (zH t [(F b w).1.1]) (d.ok ok za) (by have:=d.f1;omega)<|vX g λu j=>(Si.1 j)▸r;refine⟨d.trans i,?_,p⟩;have:=uY t (F b w).1.1;have:=d.f1;have:=i.f1;grind
def gq (v N x k):(vY v N x k).1.sz=1:=by
 unfold vY;split
 .rfl
 .split
  .rfl
  .split
   .exact(uW _ _ _ ⟨rfl,by show 1≠2;decide⟩).1
   .exact(uW _ _ _ ⟨rfl,by show 3≠2;decide⟩).1
def Al (v N x k)(h:x.c.t=2->N64 x.c.a):tmI (vY v N x k).1:=by
 unfold vY;split
 .exact xh zc zb
 .split;next q=>rw[tmI,tmIs];exact⟨λ_=>h q,trivial⟩
  .split
   .exact rF<|uW _ _ _ ⟨rfl,by show 1≠2;decide⟩
   .exact rF<|uW _ _ _ ⟨rfl,by show 3≠2;decide⟩
def lookW_tI {K w}(ok:OkW K w)(a):(lookW w a).1.1.c.t=2->N64 (lookW w a).1.1.c.a:=by
 unfold lookW;split
 .grind
 .exact((Ke w.s a w.f ok.f0).ih ok.i).cell
def qn {l}(h:∀t∈l,LfZ t):ones l:=λt b=>⟨(h t b).sz,by have:=(h t b).1;omega⟩
def ql {K}(v)(r:ones v.l)(A:v.l.length<=100000):∀(n) (a k) {w},OkW K w->w.f.toNat<n->TrG K w (yH v n a k w)
 |0,_,_,_,_,h=>absurd h za
 |n+1,a,k,w,ok,M=>by
  let ⟨d,_,C⟩:=wu ok a;have D:=lookW_tI ok a;have O:=ok.f0;rw[yH];generalize lookW w a=z at*;unfold termG;have L:noT.sz=1:=rfl;have H:=d.f1;split
  .exact⟨d,zk,xh zc zb⟩
  .rename_i q;have q:z.1.2=0:=za;have i:=d.ok ok q;have C:=C q;have J:=d.f0;split
   .let ⟨j,x,p⟩:=ql v r A n z.1.1.c.a (k+1) i za;refine⟨d.trans j,?_,Yg 1 p⟩;have:=j.f1;have e:(w5 1 (yH v n z.1.1.c.a (k+1) z.2).1.1).sz=1+(yH v n z.1.1.c.a (k+1) z.2).1.1.sz:=by simp only[w5,Tm.sz,Tm.szs];omega
    grind
   .split
    .split
     .exact⟨d.same λ_=>q,zk,xh zc zb⟩
     .let ⟨l1,_,l3,E⟩:=xC (K:=K) z.1.1.c.a z.1.1.js [] i (λt G=>by cases G);simp[EY] at l3;have g:=flexG_ok (K:=K) v z.1.1 k (z:=zA z.1.1.c.a z.1.1.js [] z.2) (λh=>l1.ok i h) r<|qn E;unfold W6;generalize zA z.1.1.c.a z.1.1.js [] z.2=y at*;have u:Rs K z.2 (ZX v z.1.1 k y).1.2 (ZX v z.1.1 k y).2:=by
       by_cases e:y.1.2=0
       .exact l1.trans<|g.1 e
       .grind
      refine⟨d.trans u,?_,g.2.2.2⟩;have:=u.f1;omega
    .split
     .exact⟨d.same λ_=>q,zk,xh zc zb⟩
     .let ⟨j,x,p⟩:=aJ (K:=K) (F:=λb w=>yH v n b k w) (m:=z.2.f) (λb w o I=>ql v r A n b k o za) z.1.1.js (vY v z.2.s.N z.1.1 k).1 i (EQ _)<|Al _ _ _ _ D;refine⟨d.trans j,?_,p⟩;rw[gq] at x;have:=j.f1;omega
def bindG_ok {K}(x a){z}(ok:z.1.2=0->OkW K z.2)(d:ones z.1.1)(b:z.1.1.length<=100000):
  (z.1.2=0->Rs K z.2 (f7 x a z).1 (f7 x a z).2)/\(z.1.2≠0->(f7 x a z).1=z.1.2/\(f7 x a z).2=z.2):=by
 unfold f7;split
 .grind
 .rename_i q;have q:z.1.2=0:=za;have t:=ql ⟨x.h,x.c.a,z.1.1⟩ d b (z.2.f.toNat+1) a 0 (ok q) za;split
  .exact⟨λ_=>t.1,λh=>absurd q h⟩
  next e=>exact⟨λ_=>t.1.trans<|tQ (t.1.ok (ok q) za) _ _<|Yg _ t.2.2,λh=>absurd q h⟩
def l9 {K w}(b:OkW K w)(x a)(i:x.js.length<=100000):Rs K w (ut w x a).1 (ut w x a).2:=by
 let ⟨l1,_,l3,f⟩:=xC (K:=K) x.c.a x.js [] b (λt d=>by cases d);simp[EY] at l3;have g:=bindG_ok (K:=K) x a (z:=zA x.c.a x.js [] w) (λh=>l1.ok b h) (qn f) za;unfold ut;by_cases e:(zA x.c.a x.js [] w).1.2=0
 .exact l1.trans<|g.1 e
 .grind
def onZ_tI:∀a b,∀u∈onZ a b,tmI u
 |a::l,b::m,u,h=>by
  rw[onZ] at h;rcases Sb.1 h with h|h
  .split at h
   .rw[Si.1 h];exact xh zc zb
   .cases h
  .exact onZ_tI l m u h
 |[],_,u,h=>by rw[onZ] at h;cases h;all_goals simp
 |_::_,[],u,h=>by rw[onZ] at h;cases h;all_goals simp
def nH {K w}(ok:OkW K w)(x y):Rs K w (uZ w x y).1 (uZ w x y).2:=by
 let ⟨b,_,_,_⟩:=xC (K:=K) x.c.a x.js [] ok (λt g=>by cases g);unfold uZ;generalize zA x.c.a x.js [] w=z at*;split
 .exact b
 .rename_i q;have q:z.1.2=0:=za;have f:=b.ok ok q;let ⟨d,_,_,_⟩:=xC (K:=K) y.c.a y.js [] f (λt g=>by cases g);generalize zA y.c.a y.js [] z.2=u at*;split
  .exact b.trans d
  .rename_i e;have e:u.1.2=0:=za;split
   .exact b.trans<|d.same λ_=>e
   .split
    .exact b.trans<|d.same λ_=>e
    .exact b.trans<|d.trans (ly (d.ok f e) _ _ _ _<|onZ_tI _ _).1
def JX {K w}(b:OkW K w)(x a):Rs K w (vg w x a).1.2 (vg w x a).2:=by
 have d:=pI w.s a 1;unfold vg;split
 .exact b.refl _
 .split
  .exact b.mv (v:=⟨(xL w.s a 1).2,w.f⟩) d b.f0 (EQ _) _
  .split
   .exact b.mv (v:=⟨(putS (xL w.s a 1).2 ⟨3,0,0,0,0⟩).2,w.f⟩) (d.put _) b.f0 (EQ _) _
   .exact b.mv (v:=⟨_,w.f⟩) ((d.put _).put _) b.f0 (EQ _) _
def nP {K w}(d:OkW K w)(x y p):Rs K w (ZB w x y p).1.1 (ZB w x y p).2/\(ZB w x y p).1.2.length<=1:=by
 have b:=JX d x p.1;unfold ZB;split
 .grind
 .rename_i q;have q:(vg w x p.1).1.2=0:=za;have e:=JX (b.ok d q) y p.2;split
  .exact⟨b.trans e,SQ _⟩
  next f=>exact⟨b.trans<|e.same λ_=>za,EI _⟩
def rA {K w}(o:OkW K w)(p)(A:(lookW w p.1).1.1.js.length<=100000)(x:(lookW (lookW w p.1).2 p.2).1.1.js.length<=100000):Rs K w (oneW w p).1.1 (oneW w p).2/\((oneW w p).1.1=0->(oneW w p).1.2.length+(oneW w p).2.f<=w.f):=by
 let ⟨j,_,m⟩:=wu o p.1;unfold oneW;split
 .grind
 .rename_i q;have q:(lookW w p.1).1.2=0:=za;have i:=j.ok o q;have m:=m q;let ⟨g,_,v⟩:=wu i p.2;generalize lookW w p.1=z at*;generalize lookW z.2 p.2=u at*;split;next e=>exact⟨j.trans g,λh=>absurd h e⟩
  .rename_i e;have e:u.1.2=0:=za;have d:=g.ok i e;have v:=v e;have b:=(j.trans g);have y:=g.f1;have f0:=g.f0;unfold oneG;split
   .have r:=nP d z.1.1 u.1.1 p;exact⟨b.trans r.1,λ_=>by have:=r.2;have:=r.1.f1;omega⟩
   .split
    .have r:=nH d z.1.1 u.1.1;exact⟨b.trans r,λ_=>by have:=r.f1;simp[EY];omega⟩
    .split
     .have r:=l9 d z.1.1 p.2 za;exact⟨b.trans r,λ_=>by have:=r.f1;simp[EY];omega⟩
     .split
      .have r:=l9 d u.1.1 p.1 za;exact⟨b.trans r,λ_=>by have:=r.f1;simp[EY];omega⟩
      .split
       .exact⟨b.same λ_=>e,λh=>by cases h⟩
       .grind
def qI {K:Nat}{w:Wp}(d:OkW K w)(a:Int)(h:w.f<=100000):(lookW w a).1.1.js.length<=100000:=by
 obtain⟨g,_,b⟩:=wu d a;by_cases q:(lookW w a).1.2=0
 .have:=b q;have:=g.f0;omega
 .unfold lookW at q ⊢;split
  .exact SQ _
  next e=>rw[EG e] at q;exact absurd rfl q
def pe {K w}(b:OkW K w)(p)(h:w.f<=100000):Rs K w (oneW w p).1.1 (oneW w p).2/\((oneW w p).1.1=0->(oneW w p).1.2.length+(oneW w p).2.f<=w.f):=by
 by_cases q:(lookW w p.1).1.2=0
 .have d:=(wu b p.1).1;exact rA b p (qI b p.1 h)<|qI (d.ok b q) p.2<|by have:=d.f1;omega
 .have e:oneW w p=(((lookW w p.1).1.2,[]),(lookW w p.1).2):=by unfold oneW;rw[EL q]
  rw[e];exact⟨(wu b p.1).1,λh=>absurd h q⟩
def dW {K}:∀(n) {w} (g),OkW K w->w.f<=100000->Rs K w (runZ n w g).1 (runZ n w g).2
 |n,w,[],ok,_=>by
  have e:runZ n w []=(0,w):=by cases n<;>rfl
  rw[e];exact ok.refl _
 |0,w,p::g,ok,_=>ok.refl _
 |n+1,w,p::g,ok,o=>by
  rw[runZ];split
  .exact ok.refl _
  .rename_i q;have b:OkW K ⟨w.s,w.f-1⟩:=⟨ok.h,by have:=ok.f0;dsimp only;omega,by have:=ok.f1;dsimp only;omega,ok.n,ok.i⟩;have d:=(pe b p zk).1;have up:∀ {e} {v:Wp},Rs K ⟨w.s,w.f-1⟩ e v->Rs K w e v:=λr=>⟨r.h,r.f0,by have:=r.f1;dsimp only at this;omega,r.mv,r.n,r.m⟩;split
   .exact up d
   next j=>have:=d.f1;dsimp only at this;exact up<|d.trans<|dW n _ (d.ok b za) za
def ixQ (p:Tm->Bool):List Tm->Nat->Int
 |[],_=> -1
 |t::l,i=>if p t=true then(i:Int) else ixQ p l<|i+1
def sP (p):∀(l) (i),decide (ixQ p l i>=0)=l.any p
 |[],_=>rfl
 |t::l,i=>by
  rw[ixQ,SY];split
  .grind
  next h=>rw[sP p l,(zd:p t=false),Gh]
abbrev obQ (t:Tm):AObj:=.arr 4 [cT t]
def iN (a o):AC EF 226 [aT a,.c<|.a<|.ep 0 4 0 0] [obQ o] (cb<|lfZ a o) [obQ o]:=by have h:=dc a o;let ⟨k,s,n,l⟩:=a;let ⟨b,e,d,l'⟩:=o;refine acv (v226 k s n _ b e d _ _ _) ?_;exact⟨_,h,.refl _,rfl⟩
def l_ixQ (o b):∀a,(a++b).length<=B->
  RPt EF 144 2 (ci<|ixQ (λu=>lfZ u o) b a.length) [.arz 4<|FTs<|a++b,obQ o] 1 ⟨[(0,.c<|.a<|.osl 0 4 0 (a++b).length),(1,.c<|.fn (.func 226) [] [(false,[.ep 1 4 0 0])]),(7,ci<|(a++b).length),(8,ci a.length)],[(0,.arz 4<|FTs<|a++b),(1,obQ o)],2⟩:=by
 induction b with
 |nil=>intro a d;let ⟨ok,i,on,f⟩:=o;refine rpv (uQ ..) ?_;exact bF zb rrl
 |cons t b e=>
  intro a d;have r:=ltI' a t b;have j:=iN t o;have g:=e (a++[t]) (zl d);rw[SH,F3,show(((a++[t]).length))=(a.length:Int)+1 by simp,show(a++[t]).length=a.length+1 by simp] at g;rw[ixQ];simp[EJ,EH,B] at d;have p:a.length<((a++t::b).length:Int):=by simp[EJ,EH];omega
  have m:=wy a t b;let ⟨ok,i,on,f⟩:=o;refine rpv (uQ ..) ?_;rw[w64 za za];refine bT p ⟨by simp[EJ,EH];omega,⟨by rw[Sa];omega,by rw[Sa,m,midI,Sg,EV<|by rw[xO];exact EI _],rfl⟩,lfZ t _,by rw[Sa,vW];exact j,zm (λh=>?_) λh=>?_⟩
  .rw[EL h];exact rrl
  .rw[EG<|by rw[h];simp];exact g
def c_anyQ (o l)(f:l.length<=B):AC EF 103 [.c<|.a<|.osl 0 4 0 l.length,.c<|.fn (.func 226) [] [(false,[.ep 1 4 0 0])]] [.arz 4<|FTs l,obQ o] (cb<|l.any λu=>lfZ u o) [.arz 4<|FTs l,obQ o]:=by
 have h:AC EF 144 [.c<|.a<|.osl 0 4 0 l.length,.c<|.fn (.func 226) [] [(false,[.ep 1 4 0 0])]] [.arz 4<|FTs l,obQ o] (ci<|ixQ (λu=>lfZ u o) l 0) [.arz 4<|FTs l,obQ o]:=by have:=l_ixQ o l [] f;let ⟨ok,d,on,b⟩:=o;refine acv (KY ..) ?_;exact this
 have e:=sP (λu=>lfZ u o) l 0;let ⟨ok,d,on,b⟩:=o;refine acv (gL ..) ?_;exact⟨_,h,by rw[<-e];exact .refl _,rfl⟩
def c_anyQN (o):AC EF 103 [.c<|qf .N,.c<|.fn (.func 226) [] [(false,[.ep 0 4 0 0])]] [obQ o] (cb false) [obQ o]:=by
 have e:AC EF 103 [aL [],.c<|.fn (.func 226) [] [(false,[.ep 0 4 0 0])]] [obQ o] (cb false) [obQ o]:=by
  have h:AC EF 144 [aL [],.c<|.fn (.func 226) [] [(false,[.ep 0 4 0 0])]] [obQ o] (ci (-1)) [obQ o]:=by let ⟨ok,d,on,b⟩:=o;refine acv (sc ..) ?_;refine⟨rfl,rpv (fF ..) ?_⟩;exact bF (by simp[FTs]) rrl
  let ⟨ok,d,on,b⟩:=o;refine acv (Eb ..) ?_;exact⟨_,h,.refl _,rfl⟩
 exact e.args ⟨.c _ _<|.a _ _<|.fz _ _ yY,.refl _,trivial⟩
abbrev tLs (x:List Tm×Int):TV:=.tup [(false,[qf<|.sl false 4<|FTs x.1]),(false,[qi x.2])]
def leLs (e):TV.Le (.tup [(false,[qf .N]),(false,[qi e])]) (tLs ([],e)):=
 XE (xs:=[(false,[.N]),(false,[.int .i64 e])]) (ys:=[(false,[.sl false 4 _]),(false,[.int .i64 e])]) ⟨⟨rfl,yY,trivial⟩,⟨rfl,.refl _⟩,trivial⟩
abbrev wkH (w:Wp)(n:Nat)(R:List<|List FV):AHeap:=[(0,wk3 1 10 w.f n),(1,hp6 7 8 9 5 w.s),(2,.gone),(3,.gone),(4,.gone),(5,.mapz<|NM w.s.N 0),(6,.gone),(7,.arz 5<|CR w.s.C),(8,.arz 7<|TR w.s.T),(9,.arz 1<|NR w.s.N),(10,.arz 2 R)]
abbrev aIs (l:List Int):TV:=.c<|qf<|.sl false 1<|IR l
abbrev stLv (lv:Int)(l:List Int)(out:List Tm)(w:Wp)(n:Nat)(R:List<|List FV)(i:Int):St:=
 if out=[] then⟨[(0,aWk),(1,ci lv),(8,.c<|qf .N),(16,aIs l),(17,ci l.length),(18,ci i)],wkH w n R,11⟩
 else⟨[(0,aWk),(1,ci lv),(8,.c<|.a<|.osl 11 4 0 out.length),(16,aIs l),(17,ci l.length),(18,ci i)],wkH w n R++[(11,.arz 4<|FTs out)],12⟩
def fp (a x b):getD (IR<|a++x::b) (toNat a.length) []=[.int .i64 x]:=by rw[S3];exact Kk a x b
def ry (a x b):a.length<(((IR<|a++x::b).length):Int):=by rw[zD];simp;omega
def Yd {α:Type}(l)(a:α):l++[a]≠[]:=zb
def gS (K lv n R E)(S:E.length<=1000000000):∀(b d) (out) (w),E=d++b->out.length<=d.length->OkW K w->
  RPt EF 217 7 (tLs (zA lv b out w).1) (oWk' (zA lv b out w).2 n R) 1 (stLv lv E out w n R d.length)
 |[],d,out,w,I,_,ok=>by
  rw[S6] at I;subst I;unfold stLv;by_cases M:out=[]
  .subst M;rw[EL rfl];refine rpv (AI ..) ?_;exact bF za ⟨leLs 0,rfl⟩
  .rw[EG M];refine rpv (rC ..) ?_;refine bF za ⟨⟨rfl,by rw[zn];omega⟩,?_,rfl⟩;rw[Sg,EV<|by rw[zn];exact EI _];exact .refl _
 |a::b,d,out,w,I,ho,ok=>by
  have T:=c_wfull K w n R ok a;let ⟨Y,_,g3⟩:=pD ok a;have W:zA lv (a::b) out w=if (w9 w a).1.2≠0 then(([],(w9 w a).1.2),(w9 w a).2) else if badZ lv out (w9 w a).1.1=true then(([],171),(w9 w a).2) else zA lv b (out++[(u9 (w9 w a).1.1).1]) (w9 w a).2:=rfl
  have U:getD (IR E) (toNat (d.length:Int)) []=[.int .i64 a]:=by rw[I];exact fp d a b
  have O:(d.length:Int)<(((IR E).length:Nat):Int):=by rw[I];exact ry d a b
  have V:(d.length:Int)<(E.length:Int):=by rw[zD] at O;exact O
  have next:=λ(o) v X h2=>gS K lv n R E S b (d++[a]) o v (by rw[I];simp) (zl X) h2;rw[show(((d++[a]).length))=d.length+1 by simp] at next;rw[W];have L:=λh=>Y.ok ok h;generalize w9 w a=z at*
  let ⟨⟨t,e⟩,v⟩:=z;dsimp only at T g3 L ⊢;have r:=c_hLeaf t (by simp[SZ];omega);have C:badZ lv out t=(!(u9 t).2||((u9 t).1.k==1&&decide ((u9 t).1.n<=lv))||out.any λx=>lfZ x (u9 t).1):=rfl;generalize u9 t=y at*;let ⟨j,D⟩:=y;dsimp only at r C ⊢;have F:=c_anyQ j out (by simp[B];omega);have G:=c_anyQN j;unfold stLv at next ⊢;have i1:e≠0->(if e≠0 then(([],e),v) else if badZ lv out t=true then(([],171),v) else zA lv b (out++[j]) v)=(([],e),v):=λh=>EL h
  have i2:e=0->badZ lv out t=true->(if e≠0 then(([],e),v) else if badZ lv out t=true then(([],171),v) else zA lv b (out++[j]) v)=(([],171),v):=λh g=>by rw[EG λw=>w h,EL g]
  have i3:e=0->badZ lv out t=false->(if e≠0 then(([],e),v) else if badZ lv out t=true then(([],171),v) else zA lv b (out++[j]) v)=zA lv b (out++[j]) v:=λh g=>by rw[EG λw=>w h,EG<|by rw[g];simp]
  generalize (if e≠0 then(([],e),v) else if badZ lv out t=true then(([],171),v) else zA lv b (out++[j]) v)=Z at*
  have A:e=0->badZ lv out t=false->RPt EF 217 7 (tLs Z.1) (oWk' Z.2 n R) 1
    ⟨[(0,aWk),(1,ci lv),(8,.c<|.a<|.osl 11 4 0<|out.length+1),(16,aIs E),(17,ci E.length),(18,ci<|d.length+1)],wkH v n R++[(11,.arz 4<|FTs out++[FT4 j])],12⟩:=λN h=>by
   have:=next (out++[j]) v zj (L N);rw[EG<|Yd _ _,yj,EJ] at this;rw[i3 N h,wG];exact this
  have m:e=0->badZ lv out t=true->TV.Le (.tup [(false,[qf .N]),(false,[qi 171])]) (tLs Z.1)/\oWk' v n R=oWk' Z.2 n R:=λN h=>by rw[i2 N h];exact⟨leLs 171,rfl⟩
  by_cases M:out=[]
  .subst M;rw[EL rfl];refine rpv (AI ..) ?_;rw[U,w64 (x:=d.length+1) za za];have J:(([]:List Tm).any λx=>lfZ x j)=false:=rfl;refine bT V ⟨⟨rfl,za,O,rfl⟩,(t,e,⟨v.s,v.f,n,R⟩),T,yg (λq=>?_) λq=>⟨(j,D),r,zF (λu=>zm (λi=>m q ?_) λi=>zm (λp=>m q ?_) λp=>⟨false,G,bN ⟨EI _,vB za,A q ?_⟩⟩) λu=>zm (λi=>m q ?_) λi=>⟨false,G,bN ⟨EI _,vB za,A q ?_⟩⟩⟩⟩
   .rw[i1 q];exact⟨leLs e,rfl⟩
   .have i:(!D)=true:=i;rw[C,i];rfl
   .have p:=p;have u:=u;rw[C,p,u];simp
   .have i:=i;have p:=p;rw[C,i,p,J,Sz];rfl
   .have i:=i;rw[C,i];rfl
   .have i:=i;have u:=u;rw[C,i,J,show(j.k==1)=false by simpa using u];rfl
  .rw[EG M];refine rpv (rC ..) ?_;rw[U,w64 (x:=(d.length:Int)+1) za za,EV (l:=FTs out)<|by rw[zn];exact EI _];have H:out.length<=(FTs out).length/\zw (out.length+1) 56:=⟨by rw[zn];exact EI _,vB za⟩;refine bT V ⟨⟨rfl,za,O,rfl⟩,(t,e,⟨v.s,v.f,n,R⟩),T,yg (λq=>?_) λq=>⟨(j,D),r,zF (λu=>zm (λi=>m q ?_) λi=>zm (λp=>m q ?_) λp=>⟨_,F,zm (λh=>m q ?_) λh=>⟨EI _,H,A q ?_⟩⟩) λu=>zm (λi=>m q ?_) λi=>⟨_,F,zm (λh=>m q ?_) λh=>⟨EI _,H,A q ?_⟩⟩⟩⟩
   .rw[i1 q];exact⟨leLs e,rfl⟩
   .have i:(!D)=true:=i;rw[C,i];rfl
   .have p:decide (j.n<=lv)=true:=p;have u:=u;rw[C,p,u];simp
   .rw[C,h,GV]
   .have i:=i;have p:=p;rw[C,i,p,h,Sz];rfl
   .have i:=i;rw[C,i];rfl
   .rw[C,h,GV]
   .have i:=i;have u:=u;rw[C,i,h,show(j.k==1)=false by simpa using u];rfl
def qk (K lv n R l)(b:l.length<=1000000000)(w)(ok:OkW K w):AC EF 217 [aWk,ci lv,aIs l] (oWk w n R) (tLs (zA lv l [] w).1) (oWk' (zA lv l [] w).2 n R):=by refine acv (v217 ..) ?_;rw[zD];exact⟨rfl,(gS K lv n R l b l [] [] w rfl (EI _) ok)⟩
def c_wset (K)(b:K<=100000000000)(w n R)(ok:OkW K w)(x t)(d:t.sz<=B):AC EF 222 [aWk,ci x,aT t] (oWk w n R) (ci (setW w x t).1) (oWk' (setW w x t).2 n R):=by
 have i:=c_EncA K b t d w.s ok.h ok.n;have e:=encS_h none w.s t ok.h;have e0:setW w x t=if (encS none w.s t).1.2≠0 then((encS none w.s t).1.2,⟨(encS none w.s t).2,w.f⟩) else((setS (encS none w.s t).2 x ⟨5,(encS none w.s t).1.1,0,0,0⟩).1,⟨(setS (encS none w.s t).2 x ⟨5,(encS none w.s t).1.1,0,0,0⟩).2,w.f⟩):=rfl
 rw[e0];generalize encS none w.s t=z at*;let ⟨k,s,m,l⟩:=t;refine acv (v222 x k s m _ ..) ?_;refine⟨z,i,yg (λq=>?_) λq=>?_⟩
 .rw[EL q];exact rrl
 .rw[EG λw=>w q];exact⟨_,(c_hset z.2 x ⟨5,z.1.1,0,0,0⟩<|by have:=e.T;omega),.refl _,rfl⟩
def Yl:∀(n) (f),(w5 n f).sz=n+f.sz
 |0,f=>by rw[w5];omega
 |n+1,f=>by rw[w5,Yl n];simp[Tm.sz,Tm.szs];omega
def rD (K)(o:K<=100000000000)(w n R)(ok:OkW K w)(x lv)(b:Nat)(on)(C:b<=1000000000)(y:Tm.szs on<=1000000000):AC EF 220 [aWk,ci x,ci lv,ci b,aL on] (oWk w n R) (tTE (wZ w x lv b on).1) (oWk' (wZ w x lv b on).2 n R):=by
 have v:=JT w.s ok.h lv;have e0:wZ w x lv b on=if (yp w.s lv).1.2≠0 then((noT,(yp w.s lv).1.2),⟨(yp w.s lv).2,w.f⟩) else((.mk 4 [] (yp w.s lv).1.1 [],(setW ⟨(yp w.s lv).2,w.f⟩ x _).1),(setW ⟨(yp w.s lv).2,w.f⟩ x _).2):=rfl
 rw[e0];have j:=λh=>(ok.fresh lv).ok ok h;generalize yp w.s lv=z at*;let ⟨⟨a,e⟩,d⟩:=z;dsimp only at*;have m:=Tm.szs_length on;have p:=u6 (.mk 4 [] a []) on;have A:(Tm.mk 4 [] a []).sz=1:=rfl;refine acv (v220 x lv b (FTs on) ..) ?_;refine⟨(a,e,d),v,yg (λq=>?_) λq=>?_⟩
 .rw[EL q];exact⟨noTE e,rfl⟩
 .rw[EG λw=>w q];exact⟨_,((wX _ on<|by simp[Tm.l,EY];omega).args (args:=[.agg [qi 4,qf<|.str [],qi a,qf .N],aL on]) ⟨leT yY,.refl _,trivial⟩),_,(fg b (zH (.mk 4 [] a []) on) za),((setW ⟨d,w.f⟩ x<|w5 b<|zH (.mk 4 [] a []) on).1,⟨(setW ⟨d,w.f⟩ x<|w5 b<|zH (.mk 4 [] a []) on).2.s,(setW ⟨d,w.f⟩ x<|w5 b<|zH (.mk 4 [] a []) on).2.f,n,R⟩),(λh=>c_wset K o ⟨d,w.f⟩ n R (j h) x (w5 b<|zH (.mk 4 [] a []) on)<|by rw[Yl];simp[B];omega) q,leTE (l:=[]) yY,rfl⟩
def tabT:List Cd->Int->List Ent->List Ent
 |[],_,E=>E
 |c::l,i,E=>tabT l (i+1)<|insT (c.nm,c.ar) (i,xG c) E
def pY (p x):∀E,(insT p x E).length<=E.length+1
 |[]=>EI _
 |e::E=>by have:=pY p x E;rw[insT];split<;>simp[EH]<;>omega
def K9 (p x n):∀E,(∀e∈E,e.2.2.length<=n)->∀e∈insT p x E,e.2.2.length<=n+1
 |[],_,e,he=>by rw[insT,Si] at he;subst he;simp
 |e0::E,h,e,he=>by
  have b:=h e0 ET;rw[insT] at he;split at he
  .grind
  .rcases S4.1 he with rfl|he
   .omega
   .exact K9 p x n E (λu d=>h u<|EP _ d) e he
def l_inew (l)(g:l.length<=20)(m:∀c∈l,zC c):∀(b a) (E),l=a++b->E.length<=a.length->(∀e∈E,e.2.2.length<=a.length)->
  RPt EF 21 0 (.c<|.a<|.ep 0 1 0 0) (outN<|tabT b a.length E) 1 (stN l E a.length)
 |[],a,E,f,o,h=>by have d:l=a:=zd;have:=exitN l E zd;rw[y3,d] at this;rw[tabT,d];exact this
 |c::b,a,E,f,o,h=>by have j:a.length+(b.length+1)<=20:=zd;rw[tabT];refine stepN l a b c f g (m c zd) _ _ E za (λe i=>zd) ?_;have:=l_inew l g m b (a++[c]) (insT (c.nm,c.ar) (a.length,xG c) E) (by rw[f];simp) (by have:=pY (c.nm,c.ar) (a.length,xG c) E;simp;omega) (λe i=>by have:=K9 _ (a.length,xG c) a.length E h e i;exact zl this);grind
def Kt:∀(E) (o i) (e:MapE),(YA E o)[i]?=some e->∃x,E[i]?=some x/\e=((true,[.str x.1,.int .i64 x.2.1]),(false,[.a<|.osl (o+i) 6 0 x.2.2.length]))
 |[],o,i,e,h=>by simp[YA] at h
 |x::E,o,0,e,h=>by simp[YA,SI,EO] at h;grind
 |x::E,o,i+1,e,h=>by simp[YA,G9] at h;let ⟨y,d,b⟩:=Kt E _ i e h;grind
def gv:∀(E) (o),(YA E o).length=E.length
 |[],_=>rfl
 |_::E,o=>by rw[YA,EH,gv E];rfl
def c_inew (l)(g:l.length<=20)(b:∀c∈l,zC c):AC EF 21 [aCs l] [] (.c<|.a<|.ep 0 1 0 0) [tab0,.mapz<|tabZ<|tabT l 0 []]:=by
 have h:=l_inew l g b l [] [] rfl (EI _) λe j=>nomatch j
 have d:AC EF 21 [aCs l] [] (.c<|.a<|.ep 0 1 0 0) (outN<|tabT l 0 []):=by
  refine AC.vc hP sh lv21 (SQ _) zb (λx hx=>?_)<|Eq.mpr (v21 ..) ⟨rfl,h⟩;simp[EY,Sg,outN,S4] at hx;rcases hx with rfl|rfl|hx
  .trivial
  .unfold mapO;split<;>trivial
  .obtain⟨e,_,rfl⟩:=SG.1 hx;trivial
 revert d;generalize tabT l 0 []=E;intro d;cases E with
 |nil=>exact d
 |cons e E=>refine AC.freeze (es:=YA (e::E) 2) (rows:=rowsO<|e::E) d (by rw[gv,tabZ,Sn]) λi x z hx b=>?_;obtain⟨y,f,rfl⟩:=Kt _ _ _ _ hx;rw[tabZ,EX,f] at b;simp[S2,EO] at b;subst b;refine⟨rfl,6,y.2.2.length,ER y.2.2,rfl,by rw[rowsO,EX,f];rfl,ER_len _,?_⟩;rw[EV<|by simp[ER]]
def qm (nm:List UInt8)(ar:Int):List Ent->Option (List<|Int×Key)
 |[]=>none
 |e::E=>if (((nm:List UInt8)==e.1)&&(((ar:Int)==e.2.1)&&true))=true then some e.2.2 else qm nm ar E
abbrev mK:=((true,[EK.str,EK.int]),(false,[qf .N]))
def findT (nm ar):∀(E) (i),(qm nm ar E=none->xW mK.1 [.str nm,.int .i64 ar] ((tabZ E).map thaw) i=some none)/\
  ∀x,qm nm ar E=some x->∃(j:Nat) (e:Ent),xW mK.1 [.str nm,.int .i64 ar] ((tabZ E).map thaw) i=some (some<|i+j)/\E[j]?=some e/\e.2.2=x
 |[],i=>⟨λ_=>rfl,λx h=>by cases h⟩
 |e::E,i=>by
  have ih:=findT nm ar E<|i+1;have m:xW mK.1 [.str nm,.int .i64 ar] ((tabZ<|e::E).map thaw) i=if ((nm==e.1)&&((ar==e.2.1)&&true))=true then some _ else xW mK.1 [.str nm,.int .i64 ar] ((tabZ E).map thaw) _:=rfl
  rw[m,qm];by_cases q:((nm==e.1)&&((ar==e.2.1)&&true))=true
  .rw[EL q,EL q];exact⟨λh=>(by cases h),λx h=>⟨0,e,zb,rfl,zd⟩⟩
  .rw[EG q,EG q];refine⟨ih.1,λx h=>?_⟩;let ⟨j,d,f,b,g⟩:=ih.2 x h;exact⟨j+1,d,by rw[f,(za:i+1+j=i+(j+1))],zl b,g⟩
def m7 {nm ar E}(h:qm nm ar E=none):ua mK [.str nm,.int .i64 ar] (tabZ E)=some none:=by unfold ua;rw[(findT nm ar E 0).1 h]
def ip {nm ar E x}(h:qm nm ar E=some x):ua mK [.str nm,.int .i64 ar] (tabZ E)=some (some [.sl false 6<|ER x]):=by let ⟨j,e,b,f,d⟩:=(findT nm ar E 0).2 x h;unfold ua;rw[b];simp[Sa];rw[tabZ,EX,f];grind
def fitL (k:Key):List (Int×Key)->List Int
 |[]=> []
 |x::l=>if uJ x.2 k=true then x.1::fitL k l else fitL k l
def er_mid (a x b):getD (ER<|a++x::b) (toNat a.length) []=kRow x:=by rw[(za:toNat a.length=a.length),ER];simp[getD]
def mD (l x):take l.length (IR l)++[[.int .i64 x]]=IR (l++[x]):=by rw[EV<|by simp[IR]];simp[IR]
abbrev obK (k:Key):AObj:=.arr 5 [[qf<|.bool k.any,qi k.k,qf<|.str k.nm,qi k.n,qi k.ar]]
def dq (k):∀(b a) (d),(a++b).length<=300->d.length<=a.length->
  RPt EF 163 0 (aIs<|d++fitL k b) [] 1 ⟨[(3,.c<|.a<|.ep 0 5 0 0),(5,.c<|.a<|.osl 1 1 0 d.length),(8,.c<|qf<|.sl false 6<|ER<|a++b),(9,ci<|((ER<|a++b).length)),(10,ci a.length)],[(0,obK k),(1,.arz 1<|IR d)],2⟩
 |[],a,d,f,j=>by refine rpv (nN d.length _ (((ER _).length)) a.length k.any k.k k.nm k.n k.ar _ _ _) ?_;refine bF (by simp[ER]) ⟨⟨rfl,by simp[IR]⟩,?_,rfl⟩;rw[Sg,EV<|by simp[IR],fitL,S6];exact .refl _
 |x::b,a,d,f,j=>by
  simp[EJ,EH] at f;have e:a.length<(((ER<|a++x::b).length):Int):=by simp[ER];omega
  refine rpv (nN d.length (ER<|a++x::b) (((ER _).length)) a.length k.any k.k k.nm k.n k.ar _ _ _) ?_;rw[w64 (x:=a.length+1) za za,(er_mid a x b)];refine bT e ⟨⟨rfl,za,e,rfl⟩,uJ x.2 k,Kr x.2 k,zm (λh=>?_) λh=>?_⟩
  .have:=dq k b (a++[x]) (d++[x.1]) (zl f) zj;rw[nx,ap a x b,show(d++[x.1]).length=d.length+1 by simp,<-mD d x.1] at this;rw[fitL,EL h,(zb:d++x.1::fitL k b=(d++[x.1])++fitL k b)];exact⟨EI _,⟨by simp[IR],by unfold zw;omega⟩,this⟩
  .have:=dq k b (a++[x]) d (zl f) zj;rw[nx,ap a x b] at this;rw[fitL,EG<|by rw[h];simp];exact this
def leIs0:TV.Le (.c<|qf .N) (aIs []):=.c _ _<|.a _ _<|.fz _ _<|.N 1
def ED (k):∀(b a),(a++b).length<=300->
  RPt EF 163 0 (aIs<|fitL k b) [] 1 ⟨[(3,.c<|.a<|.ep 0 5 0 0),(5,.c<|qf .N),(8,.c<|qf<|.sl false 6<|ER<|a++b),(9,ci<|((ER<|a++b).length)),(10,ci a.length)],[(0,obK k)],1⟩
 |[],a,e=>by refine rpv (rW _ (((ER _).length)) a.length k.any k.k k.nm k.n k.ar _ _) ?_;exact bF (by simp[ER]) ⟨leIs0,rfl⟩
 |x::b,a,e=>by
  have f:=e;simp[EJ,EH] at f;have d:a.length<(((ER<|a++x::b).length):Int):=by simp[ER];omega
  have g:=er_mid a x b;refine rpv (rW _ (((ER _).length)) a.length k.any k.k k.nm k.n k.ar _ _) ?_;rw[w64 (x:=a.length+1) za za,g];refine bT d ⟨⟨rfl,za,d,rfl⟩,uJ x.2 k,Kr x.2 k,zm (λh=>?_) λh=>?_⟩
  .have:=dq k b (a++[x]) [x.1] (zl e) zb;rw[nx,ap a x b] at this;rw[fitL,EL h];exact⟨EI _,by unfold zw;omega,this⟩
  .have:=ED k b (a++[x]) (zl e);rw[nx,ap a x b] at this;rw[fitL,EG<|by rw[h];simp];exact this
def c_ifit (x)(b:x.length<=300)(k):AC EF 163 [.c<|qf<|.sl false 6<|ER x,aK k] [] (aIs<|fitL k x) []:=by have h:=ED k x [] b;refine acv (v163 ..) ?_;exact⟨rfl,h⟩
def selT (nm:List UInt8)(ar:Int)(k:Key)(E:List Ent):List Int:=match qm nm ar E with|some x=>fitL k x|none=> []
def c_itsel (E)(d:∀e∈E,e.2.2.length<=300)(nm ar k):AC EF 119 [.c<|qf<|.pt [.mp<|tabZ E],cs nm,ci ar,aK k] [] (aIs<|selT nm ar k E) []:=by
 refine acv (v119 ..) ?_;refine zq rfl (zq rfl (zq rfl (zq rfl ?_)));unfold selT;cases h:qm nm ar E with
 |some x=>
  let ⟨j,e,_,f,b⟩:=(findT nm ar E 0).2 x h;exact .inl ⟨_,ip h,_,c_ifit x (b▸d e (Sl f)) k,.refl _,rfl⟩
 |none=>exact .inr ⟨m7 h,_,(c_ifit [] zb k).args ⟨.c _ _<|.a _ _<|.fz _ _<|.N 6,.refl _,trivial⟩,.refl _,rfl⟩
def c_inewz (l)(e:l.length<=20)(d:∀c∈l,zC c):AC EF 21 [aCs l] [] (.c<|qf<|.pt [.mp<|tabZ<|tabT l 0 []]) []:=
 (((c_inew l e d).icem 1 _ rfl).ice 0 1 [[.mp _]] rfl).renum id [] _ rfl rfl rfl (λi b=>absurd b<|GA _) (λi _ b=>absurd b<|GA _) (λi b=>absurd b<|GA _) (EI _)
def selL (nm:List UInt8)(ar:Int)(k:Key):List Cd->Int->List Int
 |[],_=> []
 |c::l,i=>if ((c.nm==nm)&&((c.ar==ar)&&uJ (xG c) k))=true then i::selL nm ar k l (i+1) else selL nm ar k l<|i+1
def JA (nm ar k):∀(l) (i),(selL nm ar k l i).length<=l.length
 |[],_=>EI _
 |c::l,i=>by have:=JA nm ar k l (i+1);rw[selL];split<;>simp[EH]<;>omega
def FC0 (c):FV.S (getD (FC c) 0 FV.N)=c.nm:=by cases c;rw[FC];rfl
def FC1 (c):FV.I (getD (FC c) 1 FV.N)=c.ar:=by cases c;rw[FC];rfl
def FC2 (c):FV.I (getD (FC c) 2 FV.N)=c.fr:=by cases c;rw[FC];rfl
def FC3 (c):FV.I (getD (FC c) 3 FV.N)=c.vs:=by cases c;rw[FC];rfl
def FC4 (c):FV.I (getD (FC c) 4 FV.N)=c.sl:=by cases c;rw[FC];rfl
def FC5 (c):getD (FC c) 5 FV.N=.sl false 8 (FIs c.ins):=by cases c;rw[FC];rfl
def Au (l)(b:l.length<=300):AC EF 162 [aIs l] [] (aIs l) []:=by
 refine acv (v162 ..) ?_;refine⟨rfl,rfl,rfl,⟨EQ _,za,EQ _,EQ _⟩,zm (λh=>?_) λ_=>?_⟩
 .have:l=[]:=by cases l with
   |nil=>rfl
   |cons x l=>simp[IR] at h;omega
  subst this;exact⟨.c _ _<|.a _ _<|.fz _ _<|.z0 _ _,rfl⟩
 .rw[Sg,S3,EV<|EI _];exact rrl
def el_ (c L)(n:Nat)(b:n<(((FCs L).length):Int)):FV.L 6 (.sl false 6<|FCs L)=true/\0<=(n:Int)/\n<(((FCs L).length):Int)/\([.str c.nm,.int .i64 c.ar,.int .i64 c.fr,.int .i64 c.vs,.int .i64 c.sl,.sl false 8<|FIs c.ins])=FC c:=⟨rfl,za,b,(xE c).symm⟩
abbrev evS (nm:List UInt8)(ar:Int)(o:TV)(l:List Cd)(i:Int):Env:=[(1,cs nm),(2,ci ar),(7,.c<|.a<|.ep 0 5 0 0),(9,o),(12,aCs l),(13,ci<|((FCs l).length)),(14,ci i)]
def cI (nm ar k):∀(b a) (d),(a++b).length<=300->(∀c∈b,zC c)->d.length<=a.length->
  RPt EF 117 0 (aIs<|d++selL nm ar k b a.length) [] 1 ⟨evS nm ar (.c<|.a<|.osl 1 1 0 d.length) (a++b) a.length,[(0,obK k),(1,.arz 1<|IR d)],2⟩
 |[],a,d,m,o,D=>by
  have j:¬(a.length:Int)<(((FCs<|a++[]).length):Int):=by rw[y3];simp
  have E:selL nm ar k [] a.length=[]:=rfl;rw[E,S6];simp[EJ,EY] at m;have y:take d.length (drop 0<|IR d)=IR d:=by rw[Sg,EV<|by simp[IR]]
  first
   |(refine rpv (Jr nm ar d.length (FCs (a++[])) (((FCs (a++[])).length)) a.length k.any k.k k.nm k.n k.ar (IR d) _ _) ?_
     rw[y];exact bF j ⟨⟨rfl,by simp[IR]⟩,_,(Au d za),.refl _,rfl⟩)
   |(refine rpv (Jr (FCs (a++[])) nm ar d.length a.length k.any k.k k.nm k.n k.ar (IR d) _ _) ?_
     rw[y];exact⟨rfl,bF j ⟨⟨rfl,zb⟩,.refl _,rfl⟩⟩)
 |c::b,a,d,m,o,D=>by
  simp[EJ,EH] at m;have e:(a.length:Int)<(((FCs<|a++c::b).length:Nat):Int):=by rw[y3];simp;omega
  have w:=gX a c b;have A:=dY c<|o c ET;have C:=Kr (xG c) k;have G:FV.L 6 (.sl false 6<|FCs<|a++c::b)=true/\((0:Int)<=(a.length:Int)/\((a.length:Int)<(((FCs<|a++c::b).length:Nat):Int)/\(fCr (FC c):List FV)=FC c)):=⟨rfl,za,e,bI c⟩;have z:selL nm ar k (c::b) a.length=if ((c.nm==nm)&&((c.ar==ar)&&uJ (xG c) k))=true then(a.length:Int)::selL nm ar k b ((a.length:Int)+1) else selL nm ar k b ((a.length:Int)+1):=rfl
  have i:((c.nm==nm)&&((c.ar==ar)&&uJ (xG c) k))=true->RPt EF 117 0 (aIs<|d++selL nm ar k (c::b) a.length) [] 1 ⟨evS nm ar (.c<|.a<|.osl 1 1 0<|d.length+1) (a++c::b)<|(a.length:Int)+1,[(0,obK k),(1,.arz 1<|take d.length (IR d)++[[.int .i64 (a.length:Int)]])],2⟩:=λq=>by have:=cI nm ar k b (a++[c]) (d++[(a.length:Int)]) (zl m) (λu v=>o u<|EP _ v) zj;rw[nx,ap a c b,show(d++[(a.length:Int)]).length=d.length+1 by simp,<-mD d (a.length:Int)] at this;grind
  have g:((c.nm==nm)&&((c.ar==ar)&&uJ (xG c) k))=false->RPt EF 117 0 (aIs<|d++selL nm ar k (c::b) a.length) [] 1 ⟨evS nm ar (.c<|.a<|.osl 1 1 0 d.length) (a++c::b)<|(a.length:Int)+1,[(0,obK k),(1,.arz 1<|IR d)],2⟩:=λq=>by have:=cI nm ar k b (a++[c]) d (zl m) (λu v=>o u<|EP _ v) zj;grind
  first
   |(refine rpv (Jr nm ar d.length (FCs (a++c::b)) (((FCs (a++c::b)).length:Nat):Int) a.length k.any k.k k.nm k.n k.ar (IR d) _ _) ?_
     rw[w64 (x:=(a.length:Int)+1) za za,w,FC0,FC1,FC2,FC3,FC4,FC5];refine bT e ⟨el_ c (a++c::b) a.length e,zm (λh=>zm (λp=>⟨_,_,_,_,_,A,_,C,zm (λr=>⟨EI _,⟨by simp[IR],by unfold zw;omega⟩,i ?_⟩) λr=>g ?_⟩) λp=>g ?_) λh=>g ?_⟩)
   |(refine rpv (Jr (FCs (a++c::b)) nm ar d.length a.length k.any k.k k.nm k.n k.ar (IR d) _ _) ?_
     rw[w64 (x:=(a.length:Int)+1) za za,w,FC0,FC1,FC2,FC3,FC4,FC5];refine⟨rfl,bT e ⟨el_ c (a++c::b) a.length e,zm (λh=>⟨el_ c (a++c::b) a.length e,zm (λp=>⟨el_ c (a++c::b) a.length e,_,_,_,_,_,A,_,C,zm (λr=>⟨EI _,⟨zb,zb⟩,i ?_⟩) λr=>g ?_⟩) λp=>g ?_⟩) λh=>g ?_⟩⟩)
  all_goals simp_all
def nT (nm ar k):∀(b a),(a++b).length<=300->(∀c∈b,zC c)->
  RPt EF 117 0 (aIs<|selL nm ar k b a.length) [] 1 ⟨evS nm ar (.c<|qf .N) (a++b) a.length,[(0,obK k)],1⟩
 |[],a,j,i=>by
  have g:¬a.length<(((FCs<|a++[]).length):Int):=by rw[y3];simp
  first
   |(refine rpv (JY nm ar (FCs (a++[])) (((FCs (a++[])).length)) a.length k.any k.k k.nm k.n k.ar _ _) ?_
     exact bF g ⟨_,((Au [] zb).args (args:=[.c<|qf .N]) ⟨leIs0,trivial⟩),.refl _,rfl⟩)
   |(refine rpv (JY (FCs (a++[])) nm ar a.length k.any k.k k.nm k.n k.ar _ _) ?_
     exact⟨rfl,bF g ⟨leIs0,rfl⟩⟩)
 |c::b,a,j,i=>by
  simp[EJ,EH] at j;have d:a.length<(((FCs<|a++c::b).length):Int):=by rw[y3];simp;omega
  have v:=gX a c b;have y:=dY c<|i c ET;have z:=Kr (xG c) k;have w:selL nm ar k (c::b) a.length=if ((c.nm==nm)&&((c.ar==ar)&&uJ (xG c) k))=true then(a.length:Int)::selL nm ar k b (a.length+1) else selL nm ar k b (a.length+1):=rfl
  have f:((c.nm==nm)&&((c.ar==ar)&&uJ (xG c) k))=true->RPt EF 117 0 (aIs<|selL nm ar k (c::b) a.length) [] 1 ⟨evS nm ar _ _ _,[(0,obK k),(1,.arz 1 [[.int .i64 _]])],2⟩:=λq=>by have:=cI nm ar k b (a++[c]) [(a.length:Int)] (zl j) (λu r=>i u<|EP _ r) zb;rw[nx,ap a c b] at this;rw[w,EL q];exact this
  have e:((c.nm==nm)&&((c.ar==ar)&&uJ (xG c) k))=false->RPt EF 117 0 (aIs<|selL nm ar k (c::b) a.length) [] 1 ⟨evS nm ar (.c<|qf .N) (a++c::b)<|(a.length:Int)+1,[(0,obK k)],1⟩:=λq=>by have:=nT nm ar k b (a++[c]) (zl j) λu r=>i u<|EP _ r;grind
  first
   |(refine rpv (JY nm ar (FCs (a++c::b)) (((FCs (a++c::b)).length:Nat):Int) a.length k.any k.k k.nm k.n k.ar _ _) ?_
     rw[w64 (x:=(a.length:Int)+1) za za,v,FC0,FC1,FC2,FC3,FC4,FC5];refine bT d ⟨el_ c (a++c::b) a.length d,zm (λh=>zm (λo=>⟨_,_,_,_,_,y,_,z,zm (λp=>⟨EI _,by unfold zw;omega,f ?_⟩) λp=>e ?_⟩) λo=>e ?_) λh=>e ?_⟩)
   |(refine rpv (JY (FCs (a++c::b)) nm ar a.length k.any k.k k.nm k.n k.ar _ _) ?_
     rw[w64 (x:=(a.length:Int)+1) za za,v,FC0,FC1,FC2,FC3,FC4,FC5];refine⟨rfl,bT d ⟨el_ c (a++c::b) a.length d,zm (λh=>⟨el_ c (a++c::b) a.length d,zm (λo=>⟨el_ c (a++c::b) a.length d,_,_,_,_,_,y,_,z,zm (λp=>⟨EI _,zb,f ?_⟩) λp=>e ?_⟩) λo=>e ?_⟩) λh=>e ?_⟩⟩)
  all_goals simp_all
def c_isel (l)(d:l.length<=300)(b:∀c∈l,zC c)(nm ar k):AC EF 117 [aCs l,cs nm,ci ar,aK k] [] (aIs<|selL nm ar k l 0) []:=by
 have h:=nT nm ar k l [] d b;refine acv (v117 ..) ?_
 first|exact⟨rfl,h⟩|exact h
def wS {k n s l}(h:zt (.mk k s n l)=true)(e:k=5\/k=6):∀u∈l,zt u=true:=λu d=>by rw[wz,EN] at h ⊢;have f:=okB_l h.1;have b:=h.2;rw[vw e] at b;exact⟨ur f d,jC b d⟩
def LeW (p q:Bool×List WV):Prop:=p.1=q.1/\All2 WV.Le p.2 q.2
def JQ {α β R}:∀ {a} {b},All2 R a b->a.length=b.length/\∀(i:Nat) (x:α) (y:β),a[i]?=some x->b[i]?=some y->R x y
 |[],[],_=>⟨rfl,λi x y f _=>by simp at f⟩
 |x::a,y::b,h=>by
  have:=JQ h.2;refine⟨by simp[this.1],λi u v e d=>?_⟩
  match i,e,d with
  |0,e,d=>simp at e d;subst e;subst d;exact h.1
  |i+1,e,d=>exact this.2 i u v (zl e) (zl d)
 |[],_::_,h=>h.elim
 |_::_,[],h=>h.elim
def Zr {a b}(h:All2 LeW a b):TV.Le (.tup a) (.tup b):=by have:=JQ h;refine .tup _ _ this.1 λi p q g f=>?_;have e:=this.2 i p q g f;have d:=JQ e.2;exact⟨e.1,d.1,d.2⟩
def lw1 {x y b}(h:WV.Le x y):LeW (b,[x]) (b,[y]):=⟨rfl,h,trivial⟩
def lwR (p):LeW p p:=by
 let ⟨b,l⟩:=p;refine⟨rfl,?_⟩;show All2 WV.Le l l
 induction l with
 |nil=>trivial
 |cons x l ih=>exact⟨.refl _,ih⟩
def Ki (t:List<|List FV):take (toNat<|t.length) t=t:=by rw[S3,EV<|EI _]
def zo (t:Tm):=if t.k=6/\zt t=true then(hd t.l,t.l.drop 1) else(t,[])
abbrev aSp (z:Tm×List Tm):TV:=.tup [(true,cT z.1),(false,[qf<|.sl false 4<|FTs z.2])]
def vM (t)(j:t.sz<=B):AC EF 74 [aT t] [] (aSp<|zo t) []:=by
 have u:=xR t j;have d:=Tm.szs_length t.l;have f:=t.sz_eq;let ⟨k,b,n,l⟩:=t
 have o:∀x,FV.Le x _->TV.Le (.tup [(true,[qi k,qf<|.str b,qi n,qf<|.sl false 4<|FTs l]),(false,[qf x])]) (aSp (.mk k b n l,[])):=
  λx v=>Zr ⟨lwR _,lw1<|.a _ _<|.fz _ _ v,trivial⟩
 refine acv (v74 k b n (FTs l) _ _) ?_;refine zm (λh=>?_) λh=>⟨_,u,zm (λh'=>?_) λh'=>?_⟩
 .rw[zo,EG λe=>by have i:=e.1;subst i;cases h];exact⟨o _ yY,rfl⟩
 .rw[zo,EG λe=>by rw[show zt (.mk k b n l)=false by simpa using h'] at e;cases e.2];exact⟨o _ yY,rfl⟩
 .have p:k=6:=zl h;subst p;have m:zt (.mk 6 b n l)=true:=zl h';obtain⟨x,y,r,rfl,w,z⟩:=okB6 (zW _ m) rfl;simp[Tm.l,EH,B] at d f j;have g:=sT.1 (FTs<|y::r) (by simp[FTs]) (by rw[zn];simp[EH,B];omega);have i:drop 1 (take (toNat<|((FTs<|x::y::r).length))<|FTs<|x::y::r)=FTs (y::r):=by rw[Ki];rfl
  rw[i,zo,EL ⟨rfl,m⟩];refine⟨el0 x<|y::r,rfl,⟨za,by rw[zn];simp[EH];omega,EQ _⟩,.inr ⟨_,g,⟨rfl,za⟩,?_,rfl⟩⟩;rw[Sg,EV<|EI _,show cE (getD (FTs<|x::y::r) 0 [])=cT x from cE_FT x];exact .refl _
mutual
def unF (n:Int):Tm->Bool
 |.mk k _ m l=> !(k==1||k==4&&decide (m>=n))&&unL n l
def unL (n:Int):List Tm->Bool
 |[]=>true
 |t::l=>unF n t&&unL n l
end
def nD (n):∀l,unL n l=l.all (unF n)
 |[]=>rfl
 |t::l=>by rw[unL,nD n l];rfl
def unF_eq (n t):unF n t=(!(t.k==1||t.k==4&&decide (t.n>=n))&&t.l.all (unF n)):=by let ⟨k,s,m,l⟩:=t;rw[unF,nD];rfl
def XZ (t:Tm):=t.k==0&&(t.s==[]&&(t.n==0&&t.l.isEmpty))
def plB (n:Int)(t:Tm):Bool:=zt t&&(decide (vr t 0 0<=0)&&unF n t)
def logs:List (List UInt8):=[[58,45],[44],[59],[61,62],[61],[105,115],[60],[61,60],[62],[62,61],[116,114,117,101],[102,97,105,108],[33],[112,105],[115,105,103,109,97]]
def nums:List (List UInt8):=[[105,115],[60],[61,60],[62],[62,61]]
def logB (s:List UInt8):=logs.contains s
def numB (s:List UInt8):=nums.contains s
def nmB (s:List UInt8):=(YC s||gT s) && !logB s
def cntB (ar fr vs sl:Int):=decide (0<=ar/\ar<=4096/\0<=fr/\fr<=4096/\0<=vs/\vs<=4096/\sl<=4096/\fr+vs<=sl)
def XU (t:Tm):=(zo t).1.k==0 && !logB (zo t).1.s
def bl (t:Tm):=(zo t).1.k==0&&(numB (zo t).1.s&&(zo t).2.length==2)
def useA (k:Int):=k==0||k==1||k==9||k==10||k==11||k==13
def useT (k:Int):=k==0||k==1||k==2||k==3||k==6
def insB (ar fv sl n at_:Int)(was:Option<|Int×Int)(k a:Int)(t:Tm):Bool:=
 if k=0\/k=1 then decide (0<=a/\a<ar)&&((k==0||t.k==0||t.k==2)&&match was with|none=>true|some w=>(w.1==0||w.1==1)&&decide (w.2<a)) else if k=2\/k=3 then XU t else if k=6 then bl t else if k=9\/k=10 then decide (at_<a/\a<n) else if k=11\/k=13 then decide (fv<=a/\a<sl) else decide (0<=k/\k<=15)
def fldB (ar fv sl n at_:Int)(was:Option<|Int×Int)(k a:Int)(t:Tm)(l:List Tm)(c:Bool):Bool:=
 (XZ t||zt t)&&(insB ar fv sl n at_ was k a t&&((useA k||a==0)&&((k==14||c)&&((if k=5 then l.length==2 else l.isEmpty)&&((if useT k=true then plB sl t else XZ t)&&l.all (plB sl))))))
abbrev Pl:=Bool×Int×Int
def uc (l:List Pl)(at_:Int)(p:Int×Int):=
 if at_<l.length then(if (l.getD at_.toNat (false,0,0)).1=false then some (l.set at_.toNat (true,p)) else if l.getD at_.toNat (false,0,0)=(true,p) then some l else none) else none
def aftP (k:Int)(p:Int×Int):=if k=11 then(p.1+1,p.2) else if k=12 then(p.1-1,p.2) else if k=14 then(p.1,p.2+1) else if k=15 then(p.1,p.2-1) else p
def XV (l:List Pl)(i k a:Int):=
 if (l.getD i.toNat (false,0,0)).1=false then some l else if k=3\/k=4 then(if (l.getD i.toNat (false,0,0)).2=(0,0) then some l else none) else if k=8 then some l else if (aftP k (l.getD i.toNat (false,0,0)).2).1<0\/(aftP k (l.getD i.toNat (false,0,0)).2).2<0 then none
 else if k=9\/k=10 then
  match uc l a (aftP k (l.getD i.toNat (false,0,0)).2) with
  |none=>none
  |some l'=>if k=10 then some l' else uc l' (i+1)<|aftP k (l.getD i.toNat (false,0,0)).2 else uc l (i+1)<|aftP k (l.getD i.toNat (false,0,0)).2
def jz:List Pl->Int->List In1->Bool
 |_,_,[]=>true
 |l,i,x::r=>match XV l i x.k x.a with|none=>false|some l'=>jz l' (i+1) r
def bw (ins:List In1):=jz ((List.replicate ins.length (false,0,0)).set 0 (true,0,0)) 0 ins
def lZ (ins:List In1):=match ins.getLast? with|none=>false|some x=>x.k==3||x.k==4||x.k==8
mutual
def vC:Cd->Bool
 |.mk nm ar fr vs sl ins=>nmB nm&&(cntB ar fr vs sl&&(lZ ins&&(vIs ar (fr+vs) sl ins.length 0 none ins&&bw ins)))
def vIs (ar fv sl n:Int):Int->Option (Int×Int)->List In1->Bool
 |_,_,[]=>true
 |at_,was,.mk k a t l c::r=>fldB ar fv sl n at_ was k a t l c.isEmpty&&(vCs sl c&&vIs ar fv sl n (at_+1) (some (k,a)) r)
def vCs (sl:Int):List Cd->Bool
 |[]=>true
 |c::r=>decide (c.fr<=sl)&&(vC c&&vCs sl r)
end
def bg (sl):∀l,vCs sl l=l.all λc=>decide (c.fr<=sl)&&vC c
 |[]=>rfl
 |c::l=>by rw[vCs,bg sl l];simp[Bool.and_assoc]
def AX {ar g sl N}:∀(l) (e) (b),vIs ar g sl N e b l=true->∀x∈l,∀d∈x.c,d.fr<=sl/\vC d=true
 |[],_,_,_,x,hx,_,_=>by cases hx
 |.mk k a t l c::r,e,b,f,x,hx,d,hd=>by
  rw[vIs] at f;simp[EN] at f;rcases S4.1 hx with rfl|hx
  .have:=f.2.1;rw[bg,Sc] at this;have:=this d hd;simp[EN,Sf] at this;exact this
  .exact AX r _ _ f.2.2 x hx d hd
def vC_in {c:Cd}(h:vC c=true):∀x∈c.ins,∀d∈x.c,vC d=true:=by obtain⟨nm,ar,fr,vs,sl,ins⟩:=c;rw[vC] at h;simp only[EN] at h;exact λx b d hd=>(AX ins _ _ h.2.2.2.1 x b d hd).2
def ud (s):AC EF 61 [cs s] [] (cb<|logB s) []:=by
 refine acv (v61 ..) ?_
 repeat' (refine zm (λ_=>?_) λ_=>?_)
 all_goals exact zy (by simp_all[logB,logs])
def ixJ (p:Int->Bool):List Int->Nat->Int
 |[],_=> -1
 |t::l,i=>if p t=true then(i:Int) else ixJ p l<|i+1
def E6 (p):∀(l) (i),decide (ixJ p l i>=0)=l.any p
 |[],_=>rfl
 |t::l,i=>by
  rw[ixJ,SY];split
  .grind
  next h=>rw[E6 p l,(zd:p t=false),Gh]
def cntN (n:Int):=decide (n<0)||decide (n>4096)
def Ap (n):AC EF 99 [ci n] [] (cb<|cntN n) []:=by refine acv (v99 ..) ?_;exact zm (λh=>zy<|by rw[cntN,h];rfl) (λh=>zy<|by rw[cntN,h];rfl)
def AO (b):∀a,(a++b).length<=B->RPt EF 141 0 (ci<|ixJ cntN b a.length) [] 1 ⟨[(0,.c<|qf<|.sl false 1<|IR<|a++b),(1,.c<|.fn (.func 99) [] []),(7,ci (a++b).length),(8,ci a.length)],[],0⟩:=by
 induction b with
 |nil=>intro a d;refine rpv (Xn ..) ?_;exact bF zb<|xB rfl
 |cons t b e=>
  intro a d;have f:=e (a++[t]) (zl d);rw[ap,nx,show(a++[t]).length=a.length+1 by simp] at f;rw[ixJ];simp[EJ,EH,B] at d;have g:a.length<((a++t::b).length:Int):=by simp[EJ,EH];omega
  have i:getD (IR<|a++t::b) (toNat a.length) []=[.int .i64 t]:=by simp[IR]
  refine rpv (Xn ..) ?_;rw[w64 za za,i];refine bT g ⟨⟨rfl,za,by simp only[IR,Sn];exact g,rfl⟩,_,Ap t,zm (λh=>?_) λh=>?_⟩
  .rw[EL h];exact xB rfl
  .rw[EG<|by rw[h];simp];exact f
def c_ccount (l)(d:l.length<=B):AC EF 62 [.c<|qf<|.sl false 1<|IR l] [] (cb (!l.any cntN)) []:=by
 have h:=AO l [] d;have e:AC EF 141 [.c<|qf<|.sl false 1<|IR l,.c<|.fn (.func 99) [] []] [] (ci<|ixJ cntN l 0) []:=by refine acv (v141_F99 ..) ?_;rw[show(IR l).length=l.length by simp[IR]];exact⟨rfl,h⟩
 have b:AC EF 98 [.c<|qf<|.sl false 1<|IR l,.c<|.fn (.func 99) [] []] [] (cb<|l.any cntN) []:=by refine acv (v98_F99 ..) ?_;exact⟨_,e,zy<|E6 cntN l 0⟩
 refine acv (v62 ..) ?_;exact⟨_,b,zy rfl⟩
def ixF (p:Tm->Bool):List Tm->Nat->Int
 |[],_=> -1
 |t::l,i=>if p t=true then(i:Int) else ixF p l<|i+1
def ju (p):∀(l) (i),decide (ixF p l i>=0)=l.any p
 |[],_=>rfl
 |t::l,i=>by
  rw[ixF,SY];split
  .grind
  next h=>rw[ju p l,(zd:p t=false),Gh]
abbrev obN (n:Int):AObj:=.arr 1 [[qi n]]
abbrev obC (c:Cd):AObj:=.arr 6 [cCd c]
def cz (p n b):∀a,(a++b).length<=B->(∀u∈b,AC EF 142 [aT u,.c<|.a<|.ep 0 1 0 0] [obN n] (cb<|p u) [obN n])->RPt EF 144 1 (ci<|ixF p b a.length) [obN n] 1 ⟨[(0,aL<|a++b),(1,.c<|.fn (.func 142) [] [(false,[.ep 0 1 0 0])]),(7,ci (a++b).length),(8,ci a.length)],[(0,obN n)],1⟩:=by
 induction b with
 |nil=>intro a d _;refine rpv (Zt ..) ?_;exact bF zb rrl
 |cons t b e=>
  intro a d ih;have g:=ltI' a t b;have i:=ih t ET;have f:=e (a++[t]) (zl d) λu j=>ih u<|EP _ j;rw[ap,nx,show(a++[t]).length=a.length+1 by simp] at f;rw[ixF];simp[EJ,EH,B] at d;have m:a.length<((a++t::b).length:Int):=by simp[EJ,EH];omega
  refine rpv (Zt ..) ?_;rw[w64 za za];refine bT m ⟨⟨rfl,za,g,wy ..⟩,p t,by rw[vW];exact i,zm (λh=>?_) λh=>?_⟩
  .rw[EL h];exact rrl
  .rw[EG<|by rw[h];simp];exact f
def d6 (p n l)(b:l.length<=B)(h:∀u∈l,AC EF 142 [aT u,.c<|.a<|.ep 0 1 0 0] [obN n] (cb<|p u) [obN n]):AC EF 103 [aL l,.c<|.fn (.func 142) [] [(false,[.ep 0 1 0 0])]] [obN n] (cb<|l.any p) [obN n]:=by
 have e:=cz p n l [] b h;have d:AC EF 144 [aL l,.c<|.fn (.func 142) [] [(false,[.ep 0 1 0 0])]] [obN n] (ci<|ixF p l 0) [obN n]:=by refine acv (AJ ..) ?_;rw[zn];exact⟨rfl,e⟩
 refine acv (mn ..) ?_;exact⟨_,d,by rw[ju p l 0];exact rrl⟩
def l_ixcodd (p c b):∀a,(a++b).length<=B->(∀u∈b,AC EF 100 [aT u,.c<|.a<|.ep 0 6 0 0] [obC c] (cb<|p u) [obC c])->RPt EF 144 1 (ci<|ixF p b a.length) [obC c] 1 ⟨[(0,aL<|a++b),(1,.c<|.fn (.func 100) [] [(false,[.ep 0 6 0 0])]),(7,ci (a++b).length),(8,ci a.length)],[(0,obC c)],1⟩:=by
 induction b with
 |nil=>intro a d _;refine rpv (ZQ ..) ?_;exact bF zb rrl
 |cons t b e=>
  intro a d ih;have g:=ltI' a t b;have i:=ih t ET;have f:=e (a++[t]) (zl d) λu j=>ih u<|EP _ j;rw[ap,nx,show(a++[t]).length=a.length+1 by simp] at f;rw[ixF];simp[EJ,EH,B] at d;have m:a.length<((a++t::b).length:Int):=by simp[EJ,EH];omega
  refine rpv (ZQ ..) ?_;rw[w64 za za];refine bT m ⟨⟨rfl,za,g,wy ..⟩,p t,by rw[vW];exact i,zm (λh=>?_) λh=>?_⟩
  .rw[EL h];exact rrl
  .rw[EG<|by rw[h];simp];exact f
def Ex (p c l)(b:l.length<=B)(h:∀u∈l,AC EF 100 [aT u,.c<|.a<|.ep 0 6 0 0] [obC c] (cb<|p u) [obC c]):AC EF 103 [aL l,.c<|.fn (.func 100) [] [(false,[.ep 0 6 0 0])]] [obC c] (cb<|l.any p) [obC c]:=by
 have e:=l_ixcodd p c l [] b h;have d:AC EF 144 [aL l,.c<|.fn (.func 100) [] [(false,[.ep 0 6 0 0])]] [obC c] (ci<|ixF p l 0) [obC c]:=by refine acv (tS ..) ?_;rw[zn];exact⟨rfl,e⟩
 refine acv (mF ..) ?_;exact⟨_,d,by rw[ju p l 0];exact rrl⟩
def Xg (f)(l:List Tm):(!l.any λt=> !f t)=l.all f:=by induction l with|nil=>rfl|cons t l ih=>rw[SY,G0,<-ih];cases f t<;>simp
def c_cunder (n):∀t,t.sz<=B->AC EF 101 [aT t,ci n] [] (cb<|unF n t) []:=by
 refine Tm.ind λt ih j=>?_;have i:=Tm.szs_length t.l;have m:=t.sz_eq;have g:∀u∈t.l,AC EF 142 [aT u,.c _] [obN n] _ [obN n]:=λu d=>by have f:=ih u d (by have:=Tm.szs_mem d;omega);refine acv (v142 ..) ?_;exact⟨_,f,.refl _,rfl⟩
 have b:=d6 (λu=> !unF n u) n t.l za g;refine acv (v101 ..) ?_;have e:=Xg (unF n) t.l;rw[unF_eq,<-e];refine zm (λh=>zy<|by rw[h];rfl) (λh=>zm (λh'=>zm (λq=>zy<|by rw[h,h',q];rfl) λq=>⟨_,b,zy<|by rw[h,h',q];rfl⟩) λh'=>⟨_,b,zy<|by rw[h,h'];rfl⟩)
def Ed (t):u4 t (.mk 0 [] 0 [])=XZ t:=by
 let ⟨k,s,n,l⟩:=t;cases l with
 |nil=>simp[u4,uN,XZ,Tm.k,Tm.s,Tm.n,Tm.l]
 |cons x l=>simp[u4,uN,XZ,Tm.k,Tm.s,Tm.n,Tm.l]
def c_cempty (t)(e:t.sz<=B):AC EF 102 [aT t] [] (cb<|XZ t) []:=by
 have h:=(c_same t e<|.mk 0 [] 0 []).args (args:=[aT t,.agg [qi 0,qf<|.str [],qi 0,qf .N]]) ⟨.refl _,.agg _ _ rfl (λi x y b d=>by
  match i with
  |0=>simp at b d;subst b;subst d;exact .refl _
  |1=>simp at b d;subst b;subst d;exact .refl _
  |2=>simp at b d;subst b;subst d;exact .refl _
  |3=>simp at b d;subst b;subst d;exact .a _ _ (.fz _ _ yY)
  |i+4=>simp at b),trivial⟩
 refine acv (v102 ..) ?_;exact⟨_,h,zy<|Ed t⟩
def c_codd (c t)(b:t.sz<=B)(g:bd 2305843009213693952 t):AC EF 100 [aT t,.c<|.a<|.ep 0 6 0 0] [obC c] (cb (!plB c.sl t)) [obC c]:=by
 refine acv (v100 ..) ?_;refine⟨_,(xR t b),zm (λh=>⟨?_,rfl⟩) λh=>⟨_,(A8 t b g),zm (λq=>⟨?_,rfl⟩) λq=>⟨_,(c_cunder c.sl t b),?_,rfl⟩⟩⟩
 .rw[plB,(zd:zt t=false)];exact .refl _
 .have:decide (vr t 0 0<=0)=false:=by have:=S0 q;exact Gd za
  rw[plB,this,Sx,Sz];exact .refl _
 .have:decide (vr t 0 0<=0)=true:=by have:=ES q;exact Gk za
  rw[plB,this,(zd:zt t=true)];exact .refl _
def c_anyOdd (c l)(e:l.length<=B)(b:∀t∈l,t.sz<=B/\bd 2305843009213693952 t):AC EF 103 [aL l,.c<|.fn (.func 100) [] [(false,[.ep 0 6 0 0])]] [obC c] (cb (!l.all (plB c.sl))) [obC c]:=by rw[<-Xg,Bool.not_not];exact(Ex (λt=> !plB c.sl t) c l e λu d=>c_codd c u (b u d).1 (b u d).2)
def c_chead (k):AC EF 145 [ci k] [] (cb<|k==0||k==1) []:=by refine acv (v145 ..) ?_;exact zm (λh=>zy<|by rw[h];rfl) (λh=>zy<|by rw[h];rfl)
def c_cpred (t)(d:t.sz<=B):AC EF 146 [aT t] [] (cb<|XU t) []:=by have e:=vM t d;have b:=ud (zo t).1.s;refine acv (v146 ..) ?_;exact⟨_,e,zm (λh=>⟨_,b,zy<|by rw[XU,h];rfl⟩) λh=>zy<|by rw[XU,h];rfl⟩
def tf (t)(d:t.sz<=B):AC EF 147 [aT t] [] (cb<|bl t) []:=by
 refine acv (v147 ..) ?_;refine⟨_,(vM t d),?_⟩;rw[zn];have e:((((zo t).2.length):Int)==2)=((zo t).2.length==2):=zd;rw[e];unfold bl numB nums;generalize (zo t).1.s=s;generalize (zo t).1.k=k;generalize ((zo t).2.length==2)=b
 repeat' (first|refine zm (λ_=>?_) (λ_=>?_)|refine And.intro (show FV.L 4 _=true by rfl) ?_)
 all_goals exact zy (by simp_all)
def aftR (k:Int)(p:Int×Int):(Int×Int)×Bool×Bool:=
 if k=3\/k=4 then(p,false,p.1==0&&p.2==0) else if k=8 then(p,false,true) else(aftP k p,true,decide ((aftP k p).1>=0)&&decide ((aftP k p).2>=0))
def X8 {a b}(h:a=b):TV.Le a b:=h ▸ .refl _
def c_cafter (m p k)(d:0-M61<=p.1/\p.1<=M61)(b:0-M61<=p.2/\p.2<=M61):AC EF 106 [.agg [qf<|.bool m,qi p.1,qi p.2],ci k] []
  (.tup [(true,[qf<|.bool m,qf<|.int .i64 (aftR k p).1.1,qf<|.int .i64 (aftR k p).1.2]),(false,[qf<|.bool (aftR k p).2.1]),(false,[qf<|.bool (aftR k p).2.2])]) []:=by
 let ⟨x,y⟩:=p;simp[M61] at d b;refine acv (v106 ..) ?_;rw[w64 (x:=x+1) za za,w64 (x:=x-1) za za,w64 (x:=y+1) za za,w64 (x:=y-1) za za];unfold aftR aftP
 repeat' (refine zm (λ_=>?_) λ_=>?_)
 all_goals refine X0<|X8 ?_
 all_goals simp_all
 all_goals omega
def pR (p:Pl):List FV:=[.bool p.1,.int .i64 p.2.1,.int .i64 p.2.2]
def PRw (l:List Pl):=l.map pR
def vk (l):(PRw l).length=l.length:=by simp[PRw]
def rY {l i}(h:i<l.length):getD (PRw l) i []=pR (l.getD i (false,0,0)):=by simp[PRw,getD,EU h]
def pr_set (l i p):List.set (PRw l) i (pR p)=PRw (l.set i p):=by simp[PRw,GZ]
abbrev obL (n:Nat):AObj:=.arr 1 [[.a<|.osl 1 3 0 n]]
def tW (l)(i:Nat)(p):AC EF 105 [ci i,.agg [qf<|.bool true,qi p.1,qi p.2],.c<|.a<|.ep 0 1 0 0] [obL l.length,.arz 3<|PRw l]
  (cb (uc l i p).isSome) [obL l.length,.arz 3<|PRw<|(uc l i p).getD l]:=by
 refine acv (v105 ..) ?_;rw[S3,Sa];refine zm (λh=>?_) λh=>?_
 .have h:=S0 h;rw[uc,EG za];exact rrl
 .have h:=ES h;have d:i<l.length:=za;have j:0<=(i:Int)/\i<(l.length:Int):=⟨za,za⟩;rw[uc,EL za,S3];have u:List.set _ i [.bool true,.int .i64 p.1,.int .i64 p.2]=PRw _:=pr_set l i (true,p);have g:i<(l.set i (true,p)).length:=zl d;rw[u,(rY d),(rY g)];have r:(l.set i (true,p)).getD i (false,0,0)=(true,p):=by simp[getD,d]
  rw[r];generalize l.getD i (false,0,0)=q;let ⟨m,x,y⟩:=q;refine⟨j,⟨by rw[vk];exact d,rfl,rfl⟩,zm (λb=>?_) λb=>?_⟩
  .have b:m=false:=by simpa[pR,FV.asB] using b
   subst b;refine⟨j,⟨by rw[vk];exact d,rfl⟩,j,⟨by rw[vk];exact g,rfl,rfl⟩,X8 ?_,rfl⟩;simp[pR,FV.asB,FV.I]
  .have b:m=true:=by simpa[pR,FV.asB] using b
   subst b;refine⟨j,⟨by rw[vk];exact d,rfl,rfl⟩,?_⟩;by_cases f:((true,x,y))=(true,p)
   .rw[EG zb,EL f];obtain⟨_,rfl⟩:=Prod.mk.inj f;exact⟨X8<|by simp[pR,FV.asB,FV.I],rfl⟩
   .rw[EG zb,EG f];refine⟨X8 ?_,rfl⟩;let ⟨w,v⟩:=p;simp[pR,FV.asB,FV.I] at f ⊢;exact f
def En {l l' i p}(h:uc l i p=some l'):l'.length=l.length/\∀q∈l',q∈l\/q=(true,p):=by unfold uc at h;grind
def stepW_no {l i k a}(h:(l.getD i.toNat (false,0,0)).1=false):XV l i k a=some l:=by rw[XV,EL h]
def EC {l i k a}(h:(l.getD i.toNat (false,0,0)).1=true):XV l i k a=
  if (aftR k (l.getD i.toNat (false,0,0)).2).2.2=false then none else if (aftR k (l.getD i.toNat (false,0,0)).2).2.1=false then some l
  else if k=9\/k=10 then(match uc l a (aftR k (l.getD i.toNat (false,0,0)).2).1 with
   |none=>none
   |some l'=>if k=10 then some l' else uc l' (i+1) (aftR k (l.getD i.toNat (false,0,0)).2).1) else uc l (i+1) (aftR k (l.getD i.toNat (false,0,0)).2).1:=by
 rw[XV,EG<|by rw[h];simp];generalize (l.getD i.toNat _).2=p;let ⟨x,y⟩:=p;unfold aftR;grind
def aft_bd {k p n}(f:0<=p.1/\p.1<=n)(h:0<=p.2/\p.2<=n)(g:0<=n)(b:(aftR k p).2.2=true):(0<=(aftR k p).1.1/\(aftR k p).1.1<=n+1)/\0<=(aftR k p).1.2/\(aftR k p).1.2<=n+1:=by
 unfold aftR at b ⊢;split
 .simp;omega
 split
 .simp;omega
 rename_i e d;rw[EG e,EG d] at b;simp[EN,Sf] at b ⊢;unfold aftP at b ⊢;grind
abbrev fnM:TV:=.c<|.fn (.func 105) [] [(false,[.ep 0 1 0 0])]
def AG (ins)(hB:ins.length<=B):∀(b a:List In1) (l:List Pl),ins=a++b->l.length=ins.length->(∀x∈b,x.k=9\/x.k=10->0<=x.a/\x.a<=B)->(∀q∈l,(0<=q.2.1/\q.2.1<=a.length)/\0<=q.2.2/\q.2.2<=a.length)->
  RPt EF 64 0 (cb<|jz l a.length b) [] 1 ⟨[(3,.c<|.a<|.ep 0 1 0 0),(4,fnM),(22,.c<|qf<|.sl false 8<|FIs ins),(23,ci ins.length),(24,ci a.length)],[(0,obL l.length),(1,.arz 3<|PRw l)],2⟩
 |[],a,l,K,U,_,_=>by refine rpv (v64_1a ..) ?_;refine zm (λh=>absurd (S0 h) ?_) λ_=>zy rfl;rw[K];simp
 |x::b,a,l,K,U,X,Y=>by
  have u:a.length<l.length:=zd;have L:(a.length:Int)<(ins.length:Int):=za;simp[B] at hB
  have next:∀l':List Pl,l'.length=l.length->(∀q∈l',(0<=q.2.1/\q.2.1<=(a.length:Int)+1)/\0<=q.2.2/\q.2.2<=(a.length:Int)+1)->XV l a.length x.k x.a=some l'->
    RPt EF 64 0 (cb<|jz l a.length<|x::b) [] 1 ⟨[(3,.c<|.a<|.ep 0 1 0 0),(4,fnM),(22,.c<|qf<|.sl false 8<|FIs ins),(23,ci ins.length),(24,ci<|(a.length:Int)+1)],[(0,obL l.length),(1,.arz 3<|PRw l')],2⟩:=λl' A w J=>by
   have:=AG ins (by simp[B];omega) b (a++[x]) l' (by rw[K];simp) (by rw[A,U]) (λy hy=>X y<|EP _ hy) (λq f=>by have:=w q f;simp[EJ,G1];omega);rw[nx,A] at this;rw[jz,J];exact this
  have em:getD (FIs ins) (toNat a.length) []=FI x:=K▸da a x b;refine rpv (v64_1a ..) ?_;unfold bY J2;rw[w64 (x:=a.length+1) za za,em,FI0,FI1,S3,Sa,(rY u)];have G:l.getD a.length (false,0,0)∈l:=by simp[getD,EU u]
  have E:=Y _ G;have D:=stepW_no (l:=l) (i:=a.length) (k:=x.k) (a:=x.a);have r:=EC (l:=l) (i:=(a.length:Int)) (k:=x.k) (a:=x.a);rw[S3] at D r;generalize l.getD a.length (false,0,0)=q at*;let ⟨m,p⟩:=q;simp at E D r;have hn:(0:Int)<=(a.length:Int)/\(a.length:Int)<(l.length):=⟨za,za⟩;have e:∀q∈l,(0<=q.2.1/\q.2.1<=a.length+1)/\0<=q.2.2/\q.2.2<=(a.length:Int)+1:=λq f=>zd;refine bT L ⟨⟨rfl,za,by rw[zP];exact L,by rw[<-FI0 x,<-FI1 x];exact fIr_FI x⟩,hn,⟨by rw[vk];exact u,rfl,rfl⟩,zm (λA=>?_) λA=>?_⟩
  .exact next l rfl e (D<|by simpa[pR,FV.asB] using A)
  have A:m=true:=by simpa[pR,FV.asB] using A
  subst A;have g:=r rfl;refine⟨hn,⟨by rw[vk];exact u,rfl,rfl⟩,true,(aftR x.k p).1.1,(aftR x.k p).1.2,(aftR x.k p).2.1,(aftR x.k p).2.2,(c_cafter true p x.k (by simp[M61];omega)<|by simp[M61];omega),?_⟩;have d:XV l a.length x.k x.a=none->TV.Le (cb false) (cb<|jz l a.length<|x::b)/\([]:List AObj)=[]:=λh=>zy (by rw[jz,h]);refine zm (λw=>?_) λw=>?_
  .grind
  have w:(aftR x.k p).2.2=true:=zd;rw[EG<|by rw[w];simp] at g
  have I:∀(l1 l2:List Pl) i,(∀q∈l1,(0<=q.2.1/\q.2.1<=a.length+1)/\0<=q.2.2/\q.2.2<=a.length+1)->uc l1 i (aftR x.k p).1=some l2->l2.length=l1.length/\∀q∈l2,(0<=q.2.1/\q.2.1<=(a.length:Int)+1)/\0<=q.2.2/\q.2.2<=(a.length:Int)+1:=λl1 l2 i J N=>by
   have:=En N;refine⟨this.1,λq f=>?_⟩;rcases this.2 q f with h|h
   .exact J q h
   .rw[h];exact(aft_bd E.1 E.2 za w)
  have hN:∀(l1:List Pl),(((a.length:Nat):Int)+1)=((a.length+1:Nat):Int):=λ_=>za
  have M:∀l1:List Pl,l1.length=l.length->(∀q∈l1,(0<=q.2.1/\q.2.1<=a.length+1)/\0<=q.2.2/\q.2.2<=a.length+1)->XV l a.length x.k x.a=uc l1 (a.length+1) (aftR x.k p).1->
    ∃z:Bool×List (List FV),AC EF 105 [ci<|a.length+1,.agg [qf<|.bool true,qf<|.int .i64 (aftR x.k p).1.1,qf<|.int .i64 (aftR x.k p).1.2],.c<|.a<|.ep 0 1 0 0] [obL l.length,.arz 3<|PRw l1] (cb z.1) [obL l.length,.arz 3 z.2]/\
     br (!z.1) (TV.Le (cb false) (cb<|jz l a.length<|x::b)/\([]:List AObj)=[])
      (RPt EF 64 0 (cb<|jz l a.length<|x::b) [] 1 ⟨[(3,.c<|.a<|.ep 0 1 0 0),(4,fnM),(22,.c<|qf<|.sl false 8<|FIs ins),(23,ci ins.length),(24,ci<|(a.length:Int)+1)],[(0,obL l.length),(1,.arz 3 z.2)],2⟩):=λl1 Z J N=>by
   have o:=tW l1 (a.length+1) (aftR x.k p).1;rw[Z,<-hN l1] at o;refine⟨(_,_),o,zm (λh=>d ?_) λh=>?_⟩
   .rw[N];cases f:uc l1 ((a.length:Int)+1) (aftR x.k p).1 with
    |none=>rfl
    |some l2=>rw[f] at h;cases h
   .cases f:uc l1 ((a.length:Int)+1) (aftR x.k p).1 with
    |none=>rw[f] at h;cases h
    |some l2=>
     have C:=I l1 l2 _ J f;exact next l2 za C.2 (by rw[N,f])
  cases ho:(aftR x.k p).2.1 with
  |false=>
   rw[EL ho] at g;have:=next l rfl e g;refine zm (λ_=>?_) λ_=>?_
   .exact this
   .exact this
  |true=>
   rw[EG<|by rw[ho];simp] at g;by_cases F:x.k=9\/x.k=10
   .rw[EL F] at g;have hxa:=X x ET F;obtain⟨j,hj⟩:∃j:Nat,x.a=j:=⟨x.a.toNat,za⟩;have o:=tW l j (aftR x.k p).1;rw[<-hj] at o
    have key:∃z:Bool×List (List FV),AC EF 105 [ci x.a,.agg [qf<|.bool true,qf<|.int .i64 (aftR x.k p).1.1,qf<|.int .i64 (aftR x.k p).1.2],.c<|.a<|.ep 0 1 0 0] [obL l.length,.arz 3<|PRw l] (cb z.1) [obL l.length,.arz 3 z.2]/\
     br (!z.1) (TV.Le (cb false) (cb<|jz l a.length<|x::b)/\([]:List AObj)=[])
      (br (x.k !=10) (∃O:Bool×List (List FV),AC EF 105 [ci<|(a.length:Int)+1,.agg [qf<|.bool true,qf<|.int .i64 (aftR x.k p).1.1,qf<|.int .i64 (aftR x.k p).1.2],.c<|.a<|.ep 0 1 0 0] [obL l.length,.arz 3 z.2] (cb O.1) [obL l.length,.arz 3 O.2]/\
       br (!O.1) (TV.Le (cb false) (cb<|jz l a.length<|x::b)/\([]:List AObj)=[])
        (RPt EF 64 0 (cb<|jz l a.length<|x::b) [] 1 ⟨[(3,.c<|.a<|.ep 0 1 0 0),(4,fnM),(22,.c<|qf<|.sl false 8<|FIs ins),(23,ci ins.length),(24,ci<|(a.length:Int)+1)],[(0,obL l.length),(1,.arz 3 O.2)],2⟩))
       (RPt EF 64 0 (cb<|jz l a.length<|x::b) [] 1 ⟨[(3,.c<|.a<|.ep 0 1 0 0),(4,fnM),(22,.c<|qf<|.sl false 8<|FIs ins),(23,ci ins.length),(24,ci<|(a.length:Int)+1)],[(0,obL l.length),(1,.arz 3 z.2)],2⟩)):=by
     refine⟨(_,_),o,zm (λh=>d ?_) λh=>?_⟩
     .cases f:uc l x.a (aftR x.k p).1 with
      |none=>rw[f] at g;exact g
      |some l2=>rw[f] at h;cases h
     .cases f:uc l x.a (aftR x.k p).1 with
      |none=>rw[f] at h;cases h
      |some l2=>
       rw[f] at g;simp at g;have C:=I l l2 _ e f;refine zm (λW=>?_) λW=>?_
       .rw[EG<|bne_iff_ne.1 W] at g;exact M l2 C.1 C.2 g
       .rw[EL<|zl W] at g;exact next l2 C.1 C.2 g
    refine zm (λH=>?_) λH=>?_
    .exact key
    .have v:(x.k==10)=true:=by
      rcases F with h|h
      .rw[h] at H;cases H
      .rw[h];rfl
     rw[v];exact key
   .rw[EG F] at g;have H:(x.k==9)=false:=by simp[beq_eq_false_iff_ne];exact λh=>F<|.inl h
    have v:(x.k==10)=false:=by simp[beq_eq_false_iff_ne];exact λh=>F<|.inr h
    have T:(x.k !=10)=true:=by rw[bne,v];rfl
    rw[H,v,T];exact M l rfl e g
def c_cways (c:Cd)(d:c.ins.length<=B)(b:0<c.ins.length)(f:∀x∈c.ins,x.k=9\/x.k=10->0<=x.a/\x.a<=B):AC EF 64 [aC c] [] (cb<|bw c.ins) []:=by
 have h:=AG c.ins d c.ins [] ((List.replicate c.ins.length (false,0,0)).set 0 (true,0,0)) rfl zb f (λq g=>by
  rcases Ge g with h|h
  .grind
  .rw[h];simp)
 have e:PRw ((List.replicate c.ins.length (false,0,0)).set 0 (true,0,0))=List.set (List.replicate (toNat<|((FIs c.ins).length)) [.bool false,.int .i64 0,.int .i64 0]) 0 (uq (getD (List.replicate (toNat<|((FIs c.ins).length)) [.bool false,.int .i64 0,.int .i64 0]) 0 []) 0 [.bool true]):=by
  rw[<-pr_set,S3,zP];have:getD (List.replicate c.ins.length [FV.bool false,.int .i64 0,.int .i64 0]) 0 []=[.bool false,.int .i64 0,.int .i64 0]:=by simp[getD,b]
  rw[this];simp[PRw,pR,uq]
 rw[e] at h;simp[B] at d;have j:((FIs c.ins).length)=(c.ins.length:Int):=by rw[zP]
 refine acv (v64 ..) ?_;refine⟨rfl,⟨rfl,za,rfl,za,za,?_⟩,⟨za,?_⟩,⟨?_,?_⟩,rfl,?_⟩
 .unfold zw;rw[S3,zP];omega
 .omega
 .grind
 .simp_all
 .have i:((List.replicate c.ins.length ((false,0,0):Pl)).set 0 (true,0,0)).length=toNat (((FIs c.ins).length)):=by simp[zP]
  rw[i,<-j] at h;exact h
def FI2 (x):FV.I (getD (FI x) 2 FV.N)=x.t.k:=by cases x;rw[FI];rfl
def FI4 (x):FV.I (getD (FI x) 4 FV.N)=x.t.n:=by cases x;rw[FI];rfl
def FI5 (x):getD (FI x) 5 FV.N=.sl false 4 (FTs x.t.l):=by cases x;rw[FI];rfl
def el8 (ins i)(d:0<=i)(b:i<ins.length)(x):FV.L 8 (.sl false 8<|FIs ins)=true/\0<=i/\i<(((FIs ins).length):Int)/\
  ([.int .i64 x.k,.int .i64 x.a,.int .i64 x.t.k,.str x.t.s,.int .i64 x.t.n,.sl false 4<|FTs x.t.l,.sl false 4<|FTs x.l,.sl false 6<|FCs x.c])=FI x:=
 ⟨rfl,d,by rw[zP];exact b,(xZ x).symm⟩
def oddC (sl:Int)(d:Cd):=decide (d.fr>sl) || !vC d
def vCs_any (sl l):(!l.any (oddC sl))=vCs sl l:=by
 rw[bg]
 induction l with
 |nil=>rfl
 |cons d l ih=>
  rw[SY,G0,<-ih,Bool.not_or];congr 1;unfold oddC;by_cases h:d.fr<=sl
  .rw[Gd za,Gk h];simp
  .rw[Gk za,Gd h];rfl
def c_cins1 (c d)(h:AC EF 34 [aC d] [] (cb<|vC d) []):AC EF 148 [aC d,.c<|.a<|.ep 0 6 0 0] [obC c] (cb<|oddC c.sl d) [obC c]:=by refine acv (v148 ..) ?_;exact zm (λq=>⟨X8<|by rw[oddC,q];rfl,rfl⟩) (λq=>⟨_,h,X8<|by rw[oddC,q];rfl,rfl⟩)
def ixC (p:Cd->Bool):List Cd->Nat->Int
 |[],_=> -1
 |t::l,i=>if p t=true then(i:Int) else ixC p l<|i+1
def tM (p):∀(l) (i),decide (ixC p l i>=0)=l.any p
 |[],_=>rfl
 |t::l,i=>by
  rw[ixC,SY];split;next h=>rw[h];simp
  next h=>rw[tM p l,show p t=false by simpa using h,Gh]
def ri (p c b):∀a,(a++b).length<=B->(∀u∈b,AC EF 148 [aC u,.c<|.a<|.ep 0 6 0 0] [obC c] (cb<|p u) [obC c])->RPt EF 65 1 (ci<|ixC p b a.length) [obC c] 1 ⟨[(0,aCs<|a++b),(1,.c<|.fn (.func 148) [] [(false,[.ep 0 6 0 0])]),(7,ci (a++b).length),(8,ci a.length)],[(0,obC c)],1⟩:=by
 induction b with
 |nil=>intro a f _;refine rpv (Yx ..) ?_;exact bF zb rrl
 |cons t b d=>
  intro a f ih;have m:=ih t ET;have j:=d (a++[t]) (zl f) λu o=>ih u<|EP _ o;rw[ap,nx,show(a++[t]).length=a.length+1 by simp] at j;rw[ixC];simp[EJ,EH,B] at f;have i:a.length<((a++t::b).length:Int):=by simp[EJ,EH];omega
  refine rpv (Yx ..) ?_;rw[w64 za za,gX];have e:=pZ t;refine bT i ⟨⟨rfl,za,by rw[y3];exact i,bI t⟩,p t,by have g:=m;rw[<-(pZ t)] at g;exact g,zm (λh=>?_) λh=>?_⟩
  .rw[EL h];exact rrl
  .rw[EG<|by rw[h];simp];exact j
def c_ccontc (c l)(e:l.length<=B)(h:∀u∈l,AC EF 34 [aC u] [] (cb<|vC u) []):AC EF 35 [aCs l,.c<|.fn (.func 148) [] [(false,[.ep 0 6 0 0])]] [obC c] (cb (!vCs c.sl l)) [obC c]:=by
 have d:=ri _ c l [] e λu f=>c_cins1 c u<|h u f;have b:AC EF 65 [aCs l,.c<|.fn (.func 148) [] [(false,[.ep 0 6 0 0])]] [obC c] (ci<|ixC (oddC c.sl) l 0) [obC c]:=by refine acv (v65_F148 ..) ?_;rw[y3];exact⟨rfl,d⟩
 rw[<-vCs_any,Bool.not_not];refine acv (v35_F148 ..) ?_;exact⟨_,b,by rw[tM (oddC c.sl) l 0];exact rrl⟩
def Xj (a:List In1):=a.getLast?.map λy=>(y.k,y.a)
def Wg (a x):Xj (a++[x])=some (x.k,x.a):=by simp[Xj]
def insR (c:Cd)(a:List In1)(x:In1):Bool:=
 if x.k=5 then x.l.length==2 else if x.k=14 then vCs c.sl x.c else insB c.ar (c.fr+c.vs) c.sl c.ins.length a.length (Xj a) x.k x.a x.t
abbrev usesT (k:Int)(ok:Bool):TV:=.tup [(true,[qf<|.bool<|useT k,qf<|.bool<|k==5,qf<|.bool<|k==14,qf<|.bool<|useA k]),(false,[qf<|.bool ok])]
def c_cins (c:Cd)(a b x)(p:c.ins=a++x::b)(D:c.ins.length<=B)(F:0<=c.fr+c.vs/\c.fr+c.vs<=B)(C:x.t.sz<=B)(G:x.c.length<=B)(hd:∀d∈x.c,AC EF 34 [aC d] [] (cb<|vC d) []):
  AC EF 104 [aC c,ci a.length] [] (usesT x.k<|insR c a x) []:=by
 simp only[B] at D F;have h:a.length<c.ins.length:=by rw[p];simp
 have e:getD (FIs c.ins) (toNat (a.length:Int)) []=FI x:=by rw[p];exact da a x b
 have v:=c_cpred x.t C;have r:=tf x.t C;have c3:=c_ccontc c x.c G hd;have j:=el8 c.ins a.length za za x;have u:((((FTs x.l).length:Nat):Int)==2)=(x.l.length==2):=by rw[zn,Gp,Sw,Sw];omega
 have g:(((FIs c.ins).length:Nat):Int)=c.ins.length:=by rw[zP]
 refine acv (v104 ..) ?_;unfold w104_6 w104_5 w104_4 w104_0 Er rH oV;rw[e,w64 (x:=c.fr+c.vs) za za];simp only[FI0,FI1,FI2,FI3,FI4,FI5,FI6,FI7];refine⟨j,?_⟩;have i:∀ok,insR c a x=ok->True:=λ_ _=>trivial;rcases GP a with o|⟨m,y,o⟩
 .subst o;have E:(decide ((([]:List In1).length:Int)>0))=false:=rfl;rw[E];simp only[insR,insB,Xj,List.getLast?_nil,Option.map_none];simp only[FV.ses,u,g];generalize x.k=k at*
  repeat' (first|refine zm (λ_=>?_) (λ_=>?_)|refine⟨_,v,?_⟩|refine⟨_,r,?_⟩|refine⟨_,c3,?_⟩|refine And.intro (show FV.L _ _=true by rfl) ?_)
  all_goals first
   |contradiction
   |(refine⟨X8 ?_,by trivial⟩;simp_all[useT,useA]<;>omega)
 .have o:a=m++[y]:=zl o;subst o;have z:(decide (((m++[y]).length:Int)>0))=true:=zb;have w:getD (FIs c.ins) (toNat<|wrap .i64<|((m++[y]).length:Int)-1) []=FI y:=by
   have q:wrap .i64 (((m++[y]).length:Int)-1)=(m.length:Int):=by simp only[EJ,G1] at h ⊢;rw[w64 za za];omega
   rw[q,p,SH];exact da m y<|x::b
  have f:=el8 c.ins (wrap .i64<|((m++[y]).length:Int)-1) (by
   simp[EJ,G1] at h ⊢;rw[w64 za za];omega) (by
   simp[EJ,G1] at h ⊢;rw[w64 za za];omega) y
  have A:=c_chead y.k;rw[z,w];simp only[FI0,FI1,FI2,FI3,FI4,FI5,FI6,FI7];simp only[insR,insB,Wg];simp only[FV.ses,u,g];rw[g] at f;generalize x.k=k at*
  repeat' (first|refine zm (λ_=>?_) (λ_=>?_)|refine⟨_,v,?_⟩|refine⟨_,r,?_⟩|refine⟨_,c3,?_⟩|refine⟨_,A,?_⟩|refine And.intro (by rfl) ?_|refine And.intro f ?_|refine And.intro (by rfl) ?_|refine And.intro (show FV.L 8 _=true by rfl) ?_)
  all_goals clear j f e w o p hd v r c3 A i u g z h
  all_goals first
   |contradiction
   |(refine⟨X8 ?_,by trivial⟩;simp_all[useT,useA]<;>omega)
def kc (c:Cd)(a:List In1)(x:In1):=fldB c.ar (c.fr+c.vs) c.sl c.ins.length a.length (Xj a) x.k x.a x.t x.l x.c.isEmpty&&vCs c.sl x.c
def oa (c a x):kc c a x=((x.k==14||(plB c.sl x.t||XZ x.t)&&x.l.all (plB c.sl))&&(insR c a x&&((useA x.k||x.a==0)&&((x.k==14||x.c.isEmpty)&&((x.k==5||x.l.isEmpty)&&(if useT x.k=true then plB c.sl x.t else XZ x.t)))))):=by
 have p:plB c.sl x.t=true->zt x.t=true:=λh=>by unfold plB at h;simp[EN] at h;exact h.1
 have o:x.c.isEmpty=true->vCs c.sl x.c=true:=λh=>by rw[List.isEmpty_iff.1 h,vCs]
 have u:x.l.isEmpty=true->x.l.all (plB c.sl)=true:=λh=>by rw[List.isEmpty_iff.1 h];rfl
 have g:x.k=5->insB c.ar (c.fr+c.vs) c.sl c.ins.length a.length (Xj a) x.k x.a x.t=true:=λh=>by rw[h];rfl
 have d:x.k=14->insB c.ar (c.fr+c.vs) c.sl c.ins.length a.length (Xj a) x.k x.a x.t=true:=λh=>by rw[h];rfl
 unfold kc fldB insR;grind
def oQ (c:Cd) (a b x) (j:c.ins=a++x::b) (r:c.ins.length<=B) (v:0<=c.fr+c.vs/\c.fr+c.vs<=B) (m:x.t.sz<=B) (g:bd 2305843009213693952 x.t) (C:x.l.length<=B) (z:∀t∈x.l,t.sz<=B/\bd 2305843009213693952 t)
  (w:x.c.length<=B) (hd:∀d∈x.c,AC EF 34 [aC d] [] (cb<|vC d) []):AC EF 63 [aC c,ci a.length] [] (cb<|kc c a x) []:=by
 have p:=c_cins c a b x j r v m w hd;have y:=c_codd c x.t m g;have u:=c_cempty x.t m;have c3:=c_anyOdd c x.l C z;have o:a.length<c.ins.length:=by rw[j];simp
 have e:getD (FIs c.ins) (toNat a.length) []=FI x:=by rw[j];exact da a x b
 have f:=el8 c.ins a.length za za x;have i:decide ((x.c.length:Int)>0)= !x.c.isEmpty:=by cases x.c<;>simp
 have h:decide (((x.l.length:Nat):Int)>0)= !x.l.isEmpty:=by cases x.l<;>simp
 refine acv (v63 ..) ?_;unfold w63_0 w63_1 w63_2 w63_3 w63_4;rw[e];simp only[FI0,FI1,FI2,FI3,FI4,FI5,FI6,FI7];refine⟨f,?_⟩;rw[oa];simp only[FV.ses,y3,zn];rw[i,h,show(x.a !=0)= !(x.a==0) from rfl,show(x.k !=14)= !(x.k==14) from rfl];unfold usesT at p;generalize insR c a x=OK at*;generalize plB c.sl x.t=A at*;generalize XZ x.t=E at*;generalize x.l.all _=Ls at*;generalize x.c.isEmpty=J at*;generalize x.l.isEmpty=I at*;generalize useA x.k=K at*;generalize useT x.k=H at*;generalize (x.a==0)=F at*;generalize (x.k==14)=D at*;generalize (x.k==5)=G at*
 repeat' (first|refine zm (λ_=>?_) (λ_=>?_)|refine⟨_,y,?_⟩|refine⟨_,u,?_⟩|refine⟨_,c3,?_⟩|refine⟨_,_,_,_,_,p,?_⟩|refine And.intro (by rfl) ?_|refine And.intro (show FV.L 6 _=true by rfl) ?_)
 all_goals clear p y u c3 j r v m g C z w hd o e f i h
 all_goals refine⟨X8 ?_,by trivial⟩
 all_goals (simp_all;done)
mutual
def nbC:Cd->Prop
 |.mk _ _ _ _ _ ins=>nbIs ins
def nbIs:List In1->Prop
 |[]=>True
 |.mk _ _ t l c::r=>(bd 2305843009213693952 t/\(∀u∈l,bd 2305843009213693952 u)/\nbCs c)/\nbIs r
def nbCs:List Cd->Prop
 |[]=>True
 |c::r=>nbC c/\nbCs r
end
def K0:∀ {l} {x},nbIs l->x∈l->bd 2305843009213693952 x.t/\(∀u∈x.l,bd 2305843009213693952 u)/\nbCs x.c
 |.mk k a t q c::r,x,h,hm=>by
  rw[nbIs] at h;rcases S4.1 hm with rfl|hm
  .exact h.1
  .exact K0 h.2 hm
def bS:∀ {l} {d},nbCs l->d∈l->nbC d
 |c::r,d,h,hm=>by
  rw[nbCs] at h;rcases S4.1 hm with rfl|hm
  .exact h.1
  .exact bS h.2 hm
def rj {c}(h:nbC c):nbIs c.ins:=by cases c;rw[nbC] at h;exact h
def aI (c)(i:zC c)(z:nbC c)(v:0<=c.fr+c.vs/\c.fr+c.vs<=B)(ih:∀x∈c.ins,∀d∈x.c,AC EF 34 [aC d] [] (cb<|vC d) [])(u:0<c.ins.length):∀(b a),c.ins=a++b->(∀x∈a,x.k=9\/x.k=10->0<=x.a/\x.a<=B)->
  RPt EF 34 0 (cb<|vIs c.ar (c.fr+c.vs) c.sl c.ins.length a.length (Xj a) b&&bw c.ins) [] 3 ⟨[(5,.c<|.a<|.ep 0 6 0 0),(68,ci c.ins.length),(69,ci a.length)],[(0,obC c)],1⟩
 |[],a,f,m=>by refine rpv (v34_3a ..) ?_;refine zm (λh=>absurd (S0 h) ?_) (λ_=>⟨_,(c_cways c ((YM i).2.1) u λx A=>m x zd),zy<|by rw[vIs];rfl⟩);rw[f];simp
 |x::b,a,f,m=>by
  have g:x∈c.ins:=zd;have C:=Xt (YM i).2.2 g;have E:=Tm.sz_bk x.t;have z6:=Tm.szs_bks x.l;have G:=Tm.szs_length x.l;have F:=C.2.2.1;have w:=K0 (rj z) g;have j:=(YM i).2.1;have D:a.length<c.ins.length:=zd;have ev:vIs c.ar (c.fr+c.vs) c.sl c.ins.length a.length (Xj a) (x::b)=(kc c a x&&vIs c.ar (c.fr+c.vs) c.sl c.ins.length (a.length+1) (some (x.k,x.a)) b):=by cases x;rw[vIs,kc,Bool.and_assoc];rfl
  rw[ev];simp[B] at j;refine rpv (v34_3a ..) ?_;rw[w64 (x:=a.length+1) za za];refine zm (λ_=>⟨_,(oQ c a b x f j v za w.1 za (λt r=>⟨by have:=Tm.szs_mem r;omega,w.2.1 t r⟩) za<|ih x g),zm (λh=>zy ?_) λh=>?_⟩) (λh=>absurd (ES h) za)
  .grind
  .have e:kc c a x=true:=zl h
   have:=aI c i z v ih u b (a++[x]) (by rw[f];simp) (λy hy p=>by
    rcases Sb.1 hy with hy|hy
    .exact m y hy p
    .have hy:y=x:=zl hy;subst hy;have:insB c.ar (c.fr+c.vs) c.sl c.ins.length a.length (Xj a) y.k y.a y.t=true:=by unfold kc fldB at e;grind
     unfold insB at this;rw[EG za,EG za,EG za,EL p] at this;have:=S0 this;simp[B];omega)
   rw[nx,Wg] at this;grind
def last_nil {l}(h:l.length=0):lZ l=false:=by rw[S1 h];rfl
def KD:∀c,zC c->nbC c->AC EF 34 [aC c] [] (cb<|vC c) []:=by
 refine Cd.ind λc ih L T=>?_;have K:=YM L;have U:c.ins.length<=B:=K.2.1;simp[B] at U;have G:∀x∈c.ins,∀d∈x.c,AC EF 34 [aC d] [] (cb<|vC d) []:=λx z d hd=>ih x z d hd (ct (Xt K.2.2 z).2.2.2 hd)<|bS (K0 (rj T) z).2.2 hd;have S:=au c.nm;have C:=A5 c.nm;have c3:=ud c.nm;have r:=c_ccount [c.ar,c.fr,c.vs,c.sl] (by simp[B]);have eV:vC c=(nmB c.nm&&(cntB c.ar c.fr c.vs c.sl&&(lZ c.ins&&(vIs c.ar (c.fr+c.vs) c.sl c.ins.length 0 none c.ins&&bw c.ins)))):=by cases c;rw[vC];rfl
 rw[eV];have o:(((FIs c.ins).length))=c.ins.length:=by rw[zP]
 have F:nmB c.nm=true->∀R:Prop,(∀b:Bool,R->False)\/True->True:=λ_ _ _=>trivial;have j:(!([c.ar,c.fr,c.vs,c.sl].any cntN))=true->(0<=c.ar/\c.ar<=4096)/\(0<=c.fr/\c.fr<=4096)/\(0<=c.vs/\c.vs<=4096)/\(0<=c.sl/\c.sl<=4096):=λh=>by simp[SY,List.any_nil,cntN,Bool.not_or,GR,Gi,EN,SK,decide_eq_false_iff_not] at h;omega
 have i:(!([c.ar,c.fr,c.vs,c.sl].any cntN))=false->cntB c.ar c.fr c.vs c.sl=false:=λh=>by
  unfold cntB;refine Gd λq=>?_;have:(!([c.ar,c.fr,c.vs,c.sl].any cntN))=true:=by simp[SY,List.any_nil,cntN,Bool.not_or,GR,Gi,EN,SK,decide_eq_false_iff_not];omega
  rw[this] at h;cases h
 have p:0<c.ins.length->0<=c.fr+c.vs/\c.fr+c.vs<=B->RPt EF 34 0 (cb<|vIs c.ar (c.fr+c.vs) c.sl c.ins.length 0 none c.ins&&bw c.ins) [] 3 ⟨[(5,.c<|.a<|.ep 0 6 0 0),(68,ci c.ins.length),(69,ci 0)],[(0,obC c)],1⟩:=λu Y=>aI c L T Y G u c.ins [] rfl (λx z=>by cases z);have rest:nmB c.nm=true->(∃b3:Bool,AC EF 62 [.c _] [] _ []/\(true=true)/\True):=λ_=>⟨_,r,rfl,trivial⟩
 have g:0<c.ins.length->∃y v,c.ins=v++[y]/\lZ c.ins=(y.k==3||y.k==4||y.k==8)/\getD (FIs c.ins) (toNat<|wrap .i64<|c.ins.length-1) []=FI y/\0<=wrap .i64 (c.ins.length-1)/\wrap .i64 (c.ins.length-1)<c.ins.length:=λu=>by
  rcases GP c.ins with h|⟨v,y,h⟩
  .rw[h] at u;cases u
  .have h:c.ins=v++[y]:=zl h;rw[w64 za za];refine⟨y,v,h,by rw[h];simp[lZ],?_,za,za⟩;rw[show(c.ins.length:Int)-1=v.length by rw[h];simp,h];exact da v y []
 refine acv (v34 ..) ?_;unfold w34_0;refine⟨rfl,_,S,?_⟩;rw[o];by_cases u:0<c.ins.length
 .let ⟨y,v,J,H,w,E,A⟩:=g u;have f:=el8 c.ins _ E A y;have I:((c.ins.length:Int)==0)=false:=by rw[beq_eq_false_iff_ne];omega
  rw[w,I,H];simp only[FI0,FI1,FI2,FI3,FI4,FI5,FI6,FI7];rw[o] at f;have m:=p u;clear p g J H w E A F rest eV ih G K U T L;unfold nmB;cases e:(!([c.ar,c.fr,c.vs,c.sl].any cntN)) with
  |false=>
   have O:=i e;rw[e] at r;rw[O];clear j i
   repeat' (first|refine zm (λ_=>?_) (λ_=>?_)|refine⟨_,C,?_⟩|refine⟨_,c3,?_⟩|refine⟨_,r,?_⟩|refine And.intro (And.intro True.intro (EI 4)) ?_|refine And.intro (And.intro (rfl:1=1) (EI 4)) ?_|refine And.intro True.intro ?_|refine And.intro (rfl:true=true) ?_|refine And.intro f ?_|fail)
   all_goals first
    |contradiction
    |exact⟨X8 (by rw[Sx,Sz]),by trivial⟩
  |true=>
   have hb:=j e;rw[e] at r;rw[w64 (x:=c.fr+c.vs) za za];have m:=m (by simp only[B];omega);have D:cntB c.ar c.fr c.vs c.sl= !decide (c.fr+c.vs>c.sl):=by
    unfold cntB;by_cases q:c.fr+c.vs>c.sl
    .rw[Gk q,Gd za];rfl
    .rw[Gd q,Gk za];rfl
   rw[D];clear D j i e hb I u;generalize (vIs c.ar (c.fr+c.vs) c.sl c.ins.length 0 none c.ins&&bw c.ins)=V at*;generalize decide (c.fr+c.vs>c.sl)=d at*;generalize YC c.nm=Z at*;generalize gT c.nm=n2 at*;generalize logB c.nm=W at*;generalize (y.k==3)=X at*;generalize (y.k==4)=k4 at*;generalize (y.k==8)=k8 at*
   repeat' (first|refine zm (λ_=>?_) (λ_=>?_)|refine⟨_,C,?_⟩|refine⟨_,c3,?_⟩|refine⟨_,r,?_⟩|refine And.intro (And.intro True.intro (EI 4)) ?_|refine And.intro (And.intro (rfl:1=1) (EI 4)) ?_|refine And.intro True.intro ?_|refine And.intro (rfl:true=true) ?_|refine And.intro f ?_|fail)
   all_goals first
    |contradiction
    |(refine⟨X8 ?_,by trivial⟩;clear m f S C c3 r;simp_all;done)
    |((have e9:((Z||n2) && !W&&(!d&&((X||k4||k8)&&V)))=V:=by (clear m f S C c3 r;simp_all));rw[e9];exact m)
 .have N:c.ins.length=0:=za;have I:((c.ins.length:Int)==0)=true:=by rw[Sw];omega
  have M:=last_nil N;rw[I,M,Sx,Sz,Sz];clear g
  repeat' (first|exact zy rfl|refine zm (λ_=>?_) (λ_=>?_)|refine⟨_,C,?_⟩|refine⟨_,c3,?_⟩|refine⟨_,r,?_⟩|refine And.intro (And.intro True.intro (EI 4)) ?_|refine And.intro (And.intro (rfl:1=1) (EI 4)) ?_|refine And.intro True.intro ?_|refine And.intro (rfl:true=true) ?_|fail)
  all_goals contradiction
def Az:∀(t) (k),0<=ji t k
 |.mk b s n l,k=>by
  rw[ji];split
  .exact nE _ _
  .split
   .exact We _ _
   .exact EQ _
def maxI_0 {a}(h:0<=a):maxI 0 a=a:=by unfold maxI;rw[EL h]
def loose_R (t):vr t 0 0=ji t 0/\0<=ji t 0:=by have h:=Az t 0;refine⟨?_,h⟩;rw[fB t 0 0<|EQ _];exact maxI_0 h
def cndW (L:List Pl)(j:Nat)(x:In1)(p:Int×Int):=
 (x.k=3\/x.k=4->p=(0,0))/\(x.k≠3->x.k≠4->x.k≠8->0<=(aftP x.k p).2/\(x.k=9\/x.k=10->L[x.a.toNat]?=some (true,aftP x.k p))/\(x.k≠10->L[j+1]?=some (true,aftP x.k p)))
def K8 {l l' i p}(g:0<=i)(h:uc l i p=some l'):l'.length=l.length/\l'[i.toNat]?=some (true,p)/\(∀(j:Nat) q,l[j]?=some (true,q)->l'[j]?=some (true,q))/\∀j,j≠i.toNat->l'[j]?=l[j]? :=by
 unfold uc at h;split at h
 .rename_i f;have f:i.toNat<l.length:=za;split at h
  .rename_i d;injection h with h
   subst h;refine⟨zb,by simp[f],λj q b=>?_,λj b=>by rw[List.getElem?_set_ne<|Ne.symm b]⟩;by_cases e:i.toNat=j
   .subst e;rw[getD,b] at d;cases d
   .rw[List.getElem?_set_ne e];exact b
  .split at h
   .rename_i d;injection h with h
    subst h;refine⟨rfl,?_,λj q b=>b,λj b=>rfl⟩;rw[getD,EU f] at d;rw[EU f];exact SJ some d
   .cases h
 .cases h
def step_ext {l l'}{i:Nat}{x}(C:x.k=9\/x.k=10->(i:Int)<x.a)(h:XV l i x.k x.a=some l'):
  l'.length=l.length/\(∀(j:Nat) q,l[j]?=some (true,q)->l'[j]?=some (true,q))/\(∀j,j<=i->l'[j]?=l[j]?)/\∀p,l[i]?=some (true,p)->cndW l' i x p:=by
 unfold XV at h;rw[S3] at h;have i1:((i:Int)+1).toNat=i+1:=za;split at h
 .rename_i y;injection h with h
  subst h;exact⟨rfl,λ_ _ h=>h,λ_ _=>rfl,λp b=>by rw[getD,b] at y;cases y⟩
 .rename_i J;have o:∀p,l[i]?=some (true,p)->(l.getD i (false,0,0)).2=p:=λp b=>by rw[getD,b];rfl
  split at h
  .rename_i e;split at h
   .rename_i H;injection h with h
    subst h;exact⟨rfl,λ_ _ h=>h,λ_ _=>rfl,λp b=>⟨λ_=>by rw[<-o p b];exact H,λE G _=>absurd e<|by simp[E,G]⟩⟩
   .cases h
  .rename_i e;split at h
   .rename_i I;injection h with h
    subst h;exact⟨rfl,λ_ _ h=>h,λ_ _=>rfl,λp b=>⟨λh=>absurd h e,λ_ _ h=>absurd I h⟩⟩
   .split at h
    .cases h
    .rename_i w;split at h
     .rename_i f;split at h
      .cases h
      .rename_i l1 F;have C:=C f;let ⟨D,r,z,A⟩:=K8 za F;split at h
       .rename_i u;injection h with h
        subst h;exact⟨D,z,λj f=>A j za,λp b=>⟨λh=>absurd h e,λ_ _ _=>by rw[o p b] at w r;exact⟨za,λ_=>r,λh=>absurd u h⟩⟩⟩
       .let ⟨v,d,m,g⟩:=K8 za h;rw[i1] at d g;exact⟨v.trans D,λj q h=>m j q<|z j q h,λj f=>by rw[g j za,A j za],λp b=>⟨λh=>absurd h e,λ_ _ _=>by rw[o p b] at w r d;exact⟨za,λ_=>m _ _ r,λ_=>d⟩⟩⟩
     .rename_i f;let ⟨v,d,m,g⟩:=K8 za h;rw[i1] at d g;exact⟨v,m,λj f=>g j za,λp b=>⟨λh=>absurd h e,λ_ _ _=>by rw[o p b] at w d;exact⟨za,λh=>absurd h f,λ_=>d⟩⟩⟩
def ph (ins:List In1)(A:∀(j:Nat) x,ins[j]?=some x->x.k=9\/x.k=10->j<x.a):∀(r) (i) (l),(∀n:Nat,r[n]?=ins[i+n]?)->l.length=ins.length->jz l i r=true->
  ∃L:List Pl,L.length=ins.length/\(∀(j:Nat) q,l[j]?=some (true,q)->L[j]?=some (true,q))/\(∀j,j<i->L[j]?=l[j]?)/\∀(j) (x) (p),i<=j->ins[j]?=some x->L[j]?=some (true,p)->cndW L j x p
 |[],i,l,g,v,_=>⟨l,v,λ_ _ h=>h,λ_ _=>rfl,λj x p o f _=>by have:=g (j-i);rw[(za:i+(j-i)=j),f] at this;simp at this⟩
 |x::r,i,l,g,v,d=>by
  rw[jz] at d;have f:ins[i]?=some x:=by have:=g 0;exact zl this.symm
  split at d
  .cases d
  .rename_i l' I;let ⟨H,N,w,E⟩:=step_ext (A i x f) I;let ⟨L,C,m,z,J⟩:=ph ins A r (i+1) l' (λn=>by have:=g (n+1);rw[G9] at this;rw[this];congr 1;omega) (H.trans v) d;refine⟨L,C,λj q h=>m j q<|N j q h,λj h=>by rw[z j za,w j za],λj y p o b u=>?_⟩;by_cases e:j=i
   .subst e;rw[f] at b;injection b with b;subst b
    rw[z j za,w j<|EI _] at u;let ⟨F,K⟩:=E p u;exact⟨F,λD G M=>let ⟨d1,d2,d3⟩:=K D G M;⟨d1,λh=>m _ _<|d2 h,λh=>m _ _<|d3 h⟩⟩
   .exact J j y p za b u
def Wt (c:Cd)(L:List Pl):Prop:=L.length=c.ins.length/\∀(j:Nat) (x:In1) (p:Int×Int),c.ins[j]?=some x->L[j]?=some (true,p)->cndW L j x p
def vIs_at {ar i sl N:Int}:∀(l:List In1) (b:Int) (d:Option<|Int×Int),vIs ar i sl N b d l=true->∀(j:Nat) (x:In1),l[j]?=some x->
  ∃w,fldB ar i sl N (b+j) w x.k x.a x.t x.l x.c.isEmpty=true/\(j=0->w=d)/\(∀y,0<j->l[j-1]?=some y->w=some (y.k,y.a))
 |[],_,_,_,_,_,h=>by simp at h
 |.mk k a t l c::r,b,d,e,j,x,g=>by
  rw[vIs] at e;simp only[EN] at e;cases j with
  |zero=>simp at g;subst g;exact⟨d,by rw[show b+((0:Nat):Int)=b by omega];exact e.1,λ_=>rfl,λy h=>absurd h za⟩
  |succ j=>
   obtain⟨w,o,m,p⟩:=vIs_at r (b+1) (some (k,a)) e.2.2 j x (zl g);refine⟨w,by rw[show b+((j+1:Nat):Int)=b+1+(j:Int) by omega];exact o,λh=>absurd h za,λy _ f=>?_⟩;cases j with
   |zero=>rw[m rfl];simp at f;subst f;rfl
   |succ j=>exact p y za (zl f)
def vC_eq {c}(h:vC c=true):cntB c.ar c.fr c.vs c.sl=true/\lZ c.ins=true/\vIs c.ar (c.fr+c.vs) c.sl c.ins.length 0 none c.ins=true/\bw c.ins=true:=by let ⟨nm,ar,fr,vs,sl,ins⟩:=c;rw[vC] at h;simp[EN] at h;exact h.2
def vC_at {c:Cd}(h:vC c=true){j:Nat}{x:In1}(b:c.ins[j]?=some x):
  ∃w,fldB c.ar (c.fr+c.vs) c.sl c.ins.length j w x.k x.a x.t x.l x.c.isEmpty=true/\(j=0->w=none)/\(∀y,0<j->c.ins[j-1]?=some y->w=some (y.k,y.a)):=by
 obtain⟨w,e,d⟩:=vIs_at c.ins 0 none (vC_eq h).2.2.1 j x b;exact⟨w,zl e,d⟩
def bE {ar e sl n b d k a t l c}(h:fldB ar e sl n b d k a t l c=true):insB ar e sl n b d k a t=true:=by unfold fldB at h;simp[EN] at h;exact h.2.1
def headK (k:Int):=k==0||k==1
def al {c:Cd}(h:vC c=true):∀(j i:Nat) (x y:In1),i<=j->c.ins[j]?=some x->c.ins[i]?=some y->headK x.k=true->headK y.k=true
 |0,i,x,y,r,d,b,f=>by obtain rfl:i=0:=za;rw[d] at b;injection b with b;rw[<-b];exact f
 |j+1,i,x,y,r,d,b,f=>by
  by_cases e:i=j+1
  .subst e;rw[d] at b;injection b with b;rw[<-b];exact f
  .obtain⟨w,o,_,p⟩:=vC_at h d;have z:j<c.ins.length:=by have:=(EW.1 d).1;omega
   have u:c.ins[j]?=some c.ins[j]:=EU z;have m:=p c.ins[j] za zb;subst m;have g:=bE o;have v:x.k=0\/x.k=1:=by simpa[headK] using f
   rw[insB,EL v] at g;simp only[EN] at g;exact al h j i c.ins[j] y za u b (by simpa[headK] using g.2.2.1)
def code_tab {c}(h:vC c=true):0<c.ins.length/\∃L,Wt c L/\L[0]?=some (true,0,0):=by
 let ⟨_,f,v,g⟩:=vC_eq h;have d:0<c.ins.length:=by
  cases e:c.ins with
  |nil=>rw[e] at f;cases f
  |cons=>simp
 let ⟨L,o,r,u,m⟩:=ph c.ins (λj x i hk=>by let ⟨w,b,_⟩:=vC_at h i;have b:=bE b;rcases hk with hk|hk<;>unfold insB at b<;>rw[hk] at b<;>simp at b<;>omega) c.ins 0 _ (λn=>zb) zb g;exact⟨d,L,⟨o,λj x p=>m j x p<|SQ _⟩,r 0 _<|by simp[d]⟩
abbrev aIv (v:Iv):TV:=.agg [.a<|.ep 0 3 0 0,qi v.x,qi v.lv,qf<|.sl false 4<|FTs v.l]
abbrev obIv (v:Iv):AObj:=.arr 4 [[.a<|.ep 0 3 0 0,qi v.x,qi v.lv,qf<|.sl false 4<|FTs v.l]]
abbrev zT4:AObj:=.arr 4 [[qi 0,qf<|.str [],qi 0,qf .N]]
abbrev tTB (x:Tm×Bool):TV:=.tup [(true,cT x.1),(false,[qf<|.bool x.2])]
abbrev wkI (w:Wp)(n:Nat)(R:List<|List FV):AHeap:=[(0,wk3 1 6 w.f n),(1,hp6 2 3 4 5 w.s),(2,.arz 5<|CR w.s.C),(3,.arz 7<|TR w.s.T),(4,.arz 1<|NR w.s.N),(5,.mapz<|NM w.s.N 0),(6,.arz 2 R)]
def iO (v:Iv)(t out:Tm)(k:Int)(b:List Tm):Tm×Bool:=
 match ixZ out b with
 |some r=>(bndT<|k+r,true)
 |none=>(t,t.k==1&&decide (t.n<=v.lv))
def lF (v t f k w n R)(i:0<=k)(j:k<=1000000000)(G:v.l.length<=1000000000):∀(b d),v.l=d++b->
  RPt EF 229 7 (tTB<|iO v t f k b) (oWk w n R) 1 ⟨[(2,ci k),(3,.c<|.a<|.ep 7 4 0 0),(4,.c<|.a<|.ep 8 4 0 0),(6,.c<|.a<|.ep 9 4 0 0),(8,.c<|.a<|.ep 10 4 0 0),(31,aL v.l),(32,ci v.l.length),(33,ci d.length)],wkI w n R++[(7,obIv v),(8,.arr 4 [cT t]),(9,zT4),(10,.arr 4 [cT f])],11⟩
 |[],d,g=>by
  rw[S6] at g;have e:iO v t f k []=(t,t.k==1&&decide _):=rfl;rw[e];let ⟨m,F,r,D⟩:=t;let ⟨ok,E,on,y⟩:=f;refine rpv (Ew ..) ?_;refine bF (by rw[g];omega)<|zm (λh=>?_) λh=>?_
  .have h:(m==1)=true:=h;simp[Tm.k,Tm.n];rw[h,SL];exact rrl
  .have h:(m==1)=false:=h;simp[Tm.k,Tm.n];rw[h,Sx];exact rrl
 |u::b,d,g=>by
  have ih:=lF v t f k w n R i j G b (d++[u]) (by rw[g];simp);rw[show(((d++[u]).length))=d.length+1 by simp] at ih;have o:v.l.length=d.length+(b.length+1):=zd;have C:getD (FTs v.l) (toNat d.length) []=FT u:=g▸midI d u b;have A:(d.length)<(((FTs v.l).length):Int):=by rw[zn];omega
  have z:=dc u f;have e:iO v t f k (u::b)=if lfZ u f=true then(bndT<|k+b.length,true) else iO v t f k b:=by unfold iO;rw[ixZ];cases lfZ u f<;>rfl
  rw[e];generalize lfZ u f=c at*;have p:wrap .i64 (wrap .i64 (wrap .i64 (k+(((FTs v.l).length)))-1)-d.length)=k+b.length:=by rw[zn,w64 (x:=k+v.l.length) za za,w64 (x:=k+v.l.length-1) za za,w64 za za];omega
  let ⟨m,F,r,D⟩:=t;let ⟨ok,E,on,y⟩:=f;refine rpv (Ew ..) ?_;rw[C,p,w64 (x:=d.length+1) za za];refine zm (λ_=>⟨⟨rfl,za,A,yO u⟩,c,by rw[xb];exact z,zm (λh=>?_) λh=>?_⟩) (λh=>absurd (ES h) za)
  .rw[EL h];exact⟨rfl,_,(qH<|k+b.length),.refl _,rfl⟩
  .grind
def K6 (v t k w n R)(o:0<=k)(r:k<=1000000000)(u:v.l.length<=1000000000):AC EF 229 [aIv v,aT t,ci k] (oWk w n R) (tTB<|vG v t k) (oWk w n R):=by
 have b:=lF v t (outZ t k) k w n R o r u v.l [] rfl;have e:vG v t k=if t.k=3/\t.n<k then(t,true) else iO v t _ k v.l:=rfl
 rw[e];let ⟨m,j,g,i⟩:=t;refine acv (v229 v.x v.lv (FTs v.l) m j g (FTs i) k ..) ?_;unfold w229_0;rw[zn];refine zF (λd=>zm (λf=>?_) λf=>zF (λ_=>⟨rfl,?_⟩) λh=>absurd d h) λd=>zF (λh=>absurd h d) λ_=>⟨rfl,?_⟩
 .have f:=S0 f;rw[EL ⟨d,f⟩];exact rrl
 .have f:=ES f;rw[EG λq=>f q.2];have p:outZ (.mk m j g i) k=.mk m j (wr<|g-k) i:=EL d;rw[p] at b ⊢;exact b
 .rw[EG λq=>d q.1];have p:outZ (.mk m j g i) k=.mk m j g i:=EG d;rw[p] at b ⊢;exact b
def c_wrigid (v x k w n R)(b:0<=k)(d:k<=1000000000)(h:v.l.length<=1000000000):AC EF 228 [aIv v,aSd x,ci k] (oWk w n R) (tTB<|vY v w.s.N x k) (oWk w n R):=by
 have e:vY v w.s.N x k=if x.c.t=0 then(.mk 0 _ 0 [],true) else if x.c.t=2 then(.mk 2 [] x.c.a [],true) else if x.c.t=1 then vG v (.mk 1 [] x.c.a []) k else vG v (bndT x.c.a) k:=rfl
 rw[e];refine acv (v228 v.x v.lv (FTs v.l) ..) ?_;refine zF (λe0=>⟨_,(Kp w.s x.c.a),?_⟩) λe0=>zF (λf=>?_) λf=>zF (λg=>⟨_,((K6 v _ k w n R b d h).args (args:=[aIv v,.agg [qi 1,qf<|.str [],qi x.c.a,qf .N],ci k]) ⟨.refl _,leT yY,.refl _,trivial⟩),?_⟩) λg=>⟨_,(qH x.c.a),_,(K6 v (bndT x.c.a) k w n R b d h),?_⟩
 .rw[EL e0];exact⟨leTB (l:=[]) yY,rfl⟩
 .rw[EG e0,EL f];exact⟨leTB (l:=[]) yY,rfl⟩
 .rw[EG e0,EG f,EL g];exact rrl
 .rw[EG e0,EG f,EG g];exact rrl
abbrev fxW (v:Iv)(y:Sd)(w:Wp)(n:Nat)(R:List<|List FV):=wkH w n R++[(11,obIv v),(12,.arr 7 [[qi y.h,qf<|.sl false 1<|IR y.js,qi y.c.t,qi y.c.a,qi y.c.b,qi y.c.c,qi y.c.d]]),(13,zT4)]
abbrev fxT (v:Iv)(y:Sd)(w:Wp)(n:Nat)(R:List<|List FV)(k:Int)(ls on im l:List Tm)(a b c:Nat)(j:Int):St:=
 if on=[] then⟨[(2,ci k),(3,.c<|.a<|.ep 11 4 0 0),(4,.c<|.a<|.ep 12 7 0 0),(6,.c<|.a<|.ep 13 4 0 0),(8,aL ls),(10,ci y.c.a),(11,.c<|qf .N),(12,.c<|qf .N),(a,aL l),(b,ci l.length),(c,ci j)],fxW v y w n R,14⟩
 else⟨[(2,ci k),(3,.c<|.a<|.ep 11 4 0 0),(4,.c<|.a<|.ep 12 7 0 0),(6,.c<|.a<|.ep 13 4 0 0),(8,aL ls),(10,ci y.c.a),(11,.c<|.a<|.osl 14 4 0 on.length),(12,.c<|.a<|.osl 15 4 0 im.length),(a,aL l),(b,ci l.length),(c,ci j)],fxW v y w n R++[(14,.arz 4<|FTs on),(15,.arz 4<|FTs im)],16⟩
def leNs:TV.Le (.c<|qf .N) (aL []):=.c _ _<|.a _ _<|.fz _ _ yY
abbrev hgZ (v:Iv)(y:Sd)(w:Wp)(m:Nat)(on im:List Tm):(Tm×Int)×Wp:=
 ((zH (wZ w y.h (yb [v.lv,y.c.a]) m on).1.1 im,(wZ w y.h (yb [v.lv,y.c.a]) m on).1.2),(wZ w y.h (yb [v.lv,y.c.a]) m on).2)
def bL (K)(Y:K<=100000000000)(v y w n R)(ok:OkW K w)(k)(E:0<=k)(M:k<=1000000000)(ls)(D:ls.length<=10000000)(hl:v.l.length<=10000000)(hv:ones v.l):
  ∀(b d on g),v.l=d++b->on.length=g.length->ones on->ones g->on.length+b.length<=100000000->
  RPt EF 227 7 (tTE (hgZ v y w ls.length (on++(im2 y.c.a v.lv k b).1)<|g++(im2 y.c.a v.lv k b).2).1) (oWk' (hgZ v y w ls.length (on++(im2 y.c.a v.lv k b).1)<|g++(im2 y.c.a v.lv k b).2).2 n R) 5 (fxT v y w n R k ls on g v.l 86 87 88 d.length)
 |[],d,on,g,j,A,o1,G,C=>by
  rw[S6] at j;have e1:(im2 y.c.a v.lv k []).1=[]:=rfl;have e2:(im2 y.c.a v.lv k []).2=[]:=rfl;rw[e1,e2,S6,S6];simp[EY] at C;have F:=rD K Y w n R ok y.h (yb [v.lv,y.c.a]) ls.length on za (by rw[qD o1];omega);have L:=hangW_sz w y.h (yb [v.lv,y.c.a]) ls.length on;unfold hgZ;generalize wZ w y.h (yb [v.lv,y.c.a]) ls.length on=z at*;let ⟨⟨t,e⟩,u⟩:=z;dsimp only at L F ⊢;have hll:t.l.length<=1:=by have:=t.sz_eq;have:=Tm.szs_length t.l;omega
  have U:=wX t g za;unfold fxT;by_cases r:on=[]
  .subst r;have:g=[]:=S1 A.symm;subst this;rw[EL rfl];refine rpv (E4 ..) ?_;refine bF (by rw[j];omega) ⟨rfl,?_⟩;rw[zn];exact⟨(t,e,⟨u.s,u.f,n,R⟩),F.args ⟨.refl _,.refl _,.refl _,.refl _,leNs,trivial⟩,_,U.args ⟨.refl _,leNs,trivial⟩,.refl _,rfl⟩
  .rw[EG r];refine rpv (nV ..) ?_;refine bF (by rw[j];omega) ⟨rfl,⟨rfl,by rw[zn];omega⟩,?_⟩;rw[zn,Sg,EV (l:=FTs on)<|by rw[zn];exact EI _,Sg,EV (l:=FTs g)<|by rw[zn];exact EI _];exact⟨(t,e,⟨u.s,u.f,n,R⟩),F,⟨rfl,by rw[zn];omega⟩,_,U,.refl _,rfl⟩
 |t::b,d,on,g,j,A,o1,G,C=>by
  have X:v.l.length=d.length+(b.length+1):=zd;have em:getD (FTs v.l) (toNat d.length) []=FT t:=j▸midI d t b;have H:(d.length)<(((FTs v.l).length:Nat):Int):=by rw[zn];omega
  have T:FV.I (getD (FT t) 0 FV.N)=t.k:=by cases t;rfl
  have V:FV.I (getD (FT t) 2 FV.N)=t.n:=by cases t;rfl
  have t1:t.sz=1/\t.k≠2:=hv t zd;simp[EH] at C;have hb:=qH<|k+(b.length:Int);have S:wrap .i64 (wrap .i64 (wrap .i64 (k+(((FTs v.l).length)))-1)-d.length)=k+b.length:=by rw[zn,w64 (x:=k+v.l.length) za za,w64 (x:=k+v.l.length-1) za za,w64 za za];omega
  have nx:=λ(J N) O I H h4=>bL K Y v y w n R ok k E M ls D hl hv b (d++[t]) J N (by rw[j];simp) O I H h4;rw[show(((d++[t]).length))=(d.length:Int)+1 by simp] at nx;have i1:y.c.a>v.lv/\t.k=1/\t.n<=y.c.a->(im2 y.c.a v.lv k<|t::b).1=t::(im2 y.c.a v.lv k b).1/\(im2 y.c.a v.lv k<|t::b).2=bndT (k+(b.length:Int))::(im2 y.c.a v.lv k b).2:=λh=>by rw[im2,EL h];exact⟨rfl,rfl⟩
  have i2:¬(y.c.a>v.lv/\t.k=1/\t.n<=y.c.a)->im2 y.c.a v.lv k (t::b)=im2 y.c.a v.lv k b:=λh=>by rw[im2,EG h]
  have m:∀(l:List Tm) (u:Tm),ones l->(u.sz=1/\u.k≠2)->ones (l++[u]):=λl u O I=>qb O λx hx=>(Si.1 hx)▸I;have skip:¬(y.c.a>v.lv/\t.k=1/\t.n<=y.c.a)->RPt EF 227 7 (tTE (hgZ v y w ls.length (on++(im2 y.c.a v.lv k<|t::b).1)<|g++(im2 y.c.a v.lv k<|t::b).2).1) (oWk' (hgZ v y w ls.length (on++(im2 y.c.a v.lv k<|t::b).1)<|g++(im2 y.c.a v.lv k<|t::b).2).2 n R) 5 (fxT v y w n R k ls on g v.l 86 87 88<|(d.length:Int)+1):=λh=>by rw[i2 h];exact nx on g A o1 G za
  have i:y.c.a>v.lv/\t.k=1/\t.n<=y.c.a->RPt EF 227 7 (tTE (hgZ v y w ls.length (on++(im2 y.c.a v.lv k<|t::b).1)<|g++(im2 y.c.a v.lv k<|t::b).2).1) (oWk' (hgZ v y w ls.length (on++(im2 y.c.a v.lv k<|t::b).1)<|g++(im2 y.c.a v.lv k<|t::b).2).2 n R) 5 (fxT v y w n R k ls (on++[t]) (g++[bndT<|k+b.length]) v.l 86 87 88<|d.length+1):=λh=>by let ⟨a1,a2⟩:=i1 h;have:=nx (on++[t]) (g++[bndT<|k+b.length]) (by simp[A]) (m _ _ o1 t1) (m _ _ G ⟨rfl,by show(3:Int)≠2;decide⟩) (by simp[EJ,EH,EY];omega);rw[SH,SH,F3,F3,<-a1,<-a2] at this;exact this
  generalize hgZ v y w ls.length (on++(im2 y.c.a v.lv k<|t::b).1) (g++(im2 y.c.a v.lv k<|t::b).2)=Z at*;have W:FV.L 4 (.sl false 4<|FTs v.l)=true/\((0:Int)<=(d.length:Int)/\(((d.length:Int)<(((FTs v.l).length)))/\((rE<|FT t)=FT t))):=⟨rfl,za,H,yO t⟩;clear nx i1 i2;unfold fxT at skip i ⊢;rw[EG<|Yd on t] at i;by_cases r:on=[]
  .subst r;have:g=[]:=S1 A.symm;subst this;rw[EL rfl] at skip ⊢;refine rpv (E4 ..) ?_;rw[em,T,V,w64 (x:=(d.length:Int)+1) za za,S];refine zm (λ_=>⟨W,zm (λp=>zF (λo=>zm (λc3=>⟨EI _,vB za,rfl,_,hb,EI _,vB za,?_⟩) λc3=>skip λq=>ES c3 q.2.2) λo=>skip λq=>o q.2.1) λp=>skip λq=>ES p q.1⟩) (λh=>absurd (ES h) za);rw[yO];exact i ⟨S0 p,o,S0 c3⟩
  .rw[EG r] at skip ⊢;refine rpv (nV ..) ?_;rw[em,T,V,w64 (x:=(d.length:Int)+1) za za,S];have r1:on.length<=(FTs on).length/\zw (on.length+1) 56:=⟨by rw[zn];exact EI _,vB za⟩;have r2:g.length<=(FTs g).length/\zw (g.length+1) 56:=⟨by rw[zn];exact EI _,vB za⟩;refine zm (λ_=>⟨W,zm (λp=>zF (λo=>zm (λc3=>⟨EI _,r1,rfl,_,hb,EI _,r2,?_⟩) λc3=>skip λq=>ES c3 q.2.2) λo=>skip λq=>o q.2.1) λp=>skip λq=>ES p q.1⟩) (λh=>absurd (ES h) za);rw[yO,EV (l:=FTs on)<|by rw[zn];exact EI _,EV (l:=FTs g)<|by rw[zn];exact EI _,wG];have:=i ⟨S0 p,o,S0 c3⟩;rw[yj,yj,EJ,EJ] at this;exact this
def ay (K) (X:K<=100000000000) (v y w n R) (ok:OkW K w) (k) (r:0<=k) (u:k<=1000000000) (ls) (D:ls.length<=10000000) (hl:v.l.length<=10000000) (hv:ones v.l) (Y:ones ls) (Z)
  (e:(im1 v k ls).1.length=ls.length->y.c.a<=v.lv->Z=((zH (.mk 4 [] y.h []) (im1 v k ls).2,0),w))
  (i:¬((im1 v k ls).1.length=ls.length/\y.c.a<=v.lv)->Z=hgZ v y w ls.length ((im1 v k ls).1++(im2 y.c.a v.lv k v.l).1) ((im1 v k ls).2++(im2 y.c.a v.lv k v.l).2)):
  ∀(b d on f),ls=d++b->on.length=f.length->on.length<=d.length->(im1 v k ls).1=on++(im1 v k b).1->(im1 v k ls).2=f++(im1 v k b).2->
  RPt EF 227 7 (tTE Z.1) (oWk' Z.2 n R) 1 (fxT v y w n R k ls on f ls 39 40 41 d.length)
 |[],d,on,f,C,m,N,o,p=>by
  rw[S6] at C;have hpl:ls.length=d.length:=by rw[C]
  have e1:(im1 v k []).1=[]:=rfl;have e2:(im1 v k []).2=[]:=rfl;rw[e1,S6] at o;rw[e2,S6] at p;let ⟨S,a2,L,V⟩:=tY v k ls Y;rw[o] at e i L V;rw[p] at e i S a2 L;have l5:¬(on.length=ls.length/\y.c.a<=v.lv)->RPt EF 227 7 _ _ 5 _:=λh=>by have:=bL K X v y w n R ok k r u ls D hl hv v.l [] on f rfl L V S za;rw[<-i h] at this;exact this
  have T:=(wX (.mk 4 [] y.h []) f<|by simp[Tm.l,EY];omega).args (args:=[.agg [qi 4,qf<|.str [],qi y.h,qf .N],aL f]) ⟨leT yY,.refl _,trivial⟩;unfold fxT at l5 ⊢;by_cases E:on=[]
  .subst E;have:f=[]:=S1 m.symm;subst this;rw[EL rfl] at l5 ⊢;refine rpv (nU ..) ?_;simp[zn];refine bF za ⟨rfl,rfl,zm (λg=>zm (λA=>?_) λA=>⟨rfl,l5 λq=>ES A q.2⟩) λg=>⟨rfl,l5 λq=>?_⟩⟩
   .have g:(0:Int)=(ls.length:Int):=by have g:((0:Int)==(ls.length:Int))=true:=g;exact zl g
    rw[e (by simp[EY];omega)<|S0 A];exact⟨_,T.args ⟨.refl _,leNs,trivial⟩,.refl _,rfl⟩
   .have g:((0:Int)==(ls.length:Int))=false:=g;have:=q.1;simp[EY] at this;rw[<-this] at g;simp at g
  .rw[EG E] at l5 ⊢;refine rpv (EE ..) ?_;simp only[zn];refine bF za ⟨rfl,zm (λg=>zm (λA=>?_) λA=>⟨rfl,l5 λq=>ES A q.2⟩) λg=>⟨rfl,l5 λq=>?_⟩⟩
   .have g:(on.length:Int)=(ls.length:Int):=by have g:((on.length:Int)==(ls.length:Int))=true:=g;exact zl g
    rw[e za<|S0 A];rw[Sg,EV (l:=FTs f)<|by rw[zn];exact EI _];exact⟨⟨by trivial,by first|omega|(rw[zn];omega)⟩,_,T,.refl _,rfl⟩
   .have g:((on.length:Int)==ls.length)=false:=g;rw[q.1] at g;simp at g
 |t::b,d,on,f,C,m,N,o,p=>by
  have W:ls.length=d.length+(b.length+1):=by rw[C];simp
  have em:getD (FTs ls) (toNat d.length) []=FT t:=by rw[C];exact midI d t b
  have H:((d.length:Nat))<(((FTs ls).length:Nat):Int):=by rw[zn];omega
  have I:=K6 v t k w n R r u za;have hb:=qH b.length;have O:wrap .i64 (wrap .i64 ((((FTs ls).length))-1)-d.length)=b.length:=by rw[zn,w64 (x:=ls.length-1) za za,w64 za za];omega
  have nx:=λ(J M) h1 h2 H h4=>ay K X v y w n R ok k r u ls D hl hv Y Z e i b (d++[t]) J M (by rw[C];simp) h1 h2 H h4;rw[show(((d++[t]).length))=(d.length:Int)+1 by simp] at nx;have e0:im1 v k (t::b)=if (vG v t k).2=true then(bndT b.length::(im1 v k b).1,(vG v t k).1::(im1 v k b).2) else im1 v k b:=rfl
  rw[e0] at o p;generalize vG v t k=z at*;let ⟨F,G⟩:=z;dsimp only at o p I;have skip:G=false->RPt EF 227 7 (tTE Z.1) (oWk' Z.2 n R) 1 (fxT v y w n R k ls on f ls 39 40 41<|d.length+1):=λh=>by rw[h,EG zb] at o p;exact nx on f m zj o p
  have j:G=true->RPt EF 227 7 (tTE Z.1) (oWk' Z.2 n R) 1 (fxT v y w n R k ls (on++[bndT b.length]) (f++[F]) ls 39 40 41<|d.length+1):=λh=>by rw[EL h] at o p;exact nx (on++[bndT b.length]) (f++[F]) (by simp[m]) zj (by rw[o];simp) (by rw[p];simp)
  clear nx e i;have U:FV.L 4 (.sl false 4<|FTs ls)=true/\(0<=(d.length:Int)/\(((d.length:Int)<(((FTs ls).length):Int))/\((rE<|FT t)=FT t))):=⟨rfl,za,H,yO t⟩;unfold fxT at skip j ⊢;rw[EG<|Yd on _] at j;by_cases E:on=[]
  .subst E;have:f=[]:=S1 m.symm;subst this;rw[EL rfl] at skip ⊢;refine rpv (nU ..) ?_;rw[em,w64 (x:=d.length+1) za za,O,xb];exact zm (λ_=>⟨U,(F,G),I,zm (λc=>⟨rfl,_,hb,EI _,vB za,EI _,vB za,by rw[wG,wG];exact j c⟩) λc=>skip c⟩) (λh=>absurd (ES h) za)
  .rw[EG E] at skip ⊢;refine rpv (EE ..) ?_;rw[em,w64 (x:=(d.length:Int)+1) za za,O,xb];have r1:on.length<=(FTs on).length/\zw (on.length+1) 56:=⟨by rw[zn];exact EI _,vB za⟩;have r2:f.length<=(FTs f).length/\zw (f.length+1) 56:=⟨by rw[zn];exact EI _,vB za⟩;refine zm (λ_=>⟨U,(F,G),I,zm (λc=>⟨rfl,_,hb,EI _,r1,EI _,r2,?_⟩) λc=>skip c⟩) (λh=>absurd (ES h) za);rw[EV (l:=FTs on)<|by rw[zn];exact EI _,EV (l:=FTs f)<|by rw[zn];exact EI _,wG,wG];have:=j c;rw[yj,yj,EJ,EJ] at this;exact this
def c_wflex (K)(A:K<=100000000000)(v y w n R)(ok:OkW K w)(k)(d:0<=k)(g:k<=1000000000)(F:y.js.length<=10000000)(C:v.l.length<=10000000)(E:ones v.l):
  AC EF 227 [aIv v,aSd y,ci k] (oWk w n R) (tTE (W6 v y k w).1) (oWk' (W6 v y k w).2 n R):=by
 have j:=qk K y.c.a n R y.js za w ok;let ⟨l1,_,l3,m⟩:=xC (K:=K) y.c.a y.js [] ok λt p=>nomatch p
 simp[EY] at l3;have e:W6 v y k w=ZX v y k _:=rfl;rw[e];generalize zA y.c.a y.js [] w=z at*;let ⟨⟨ls,b⟩,u⟩:=z;dsimp only at j l1 l3 m;have o:ZX v y k ((ls,b),u)=if b≠0 then((noT,b),u) else if (im1 v k ls).1.length=ls.length/\y.c.a<=v.lv then((zH (.mk 4 [] y.h []) (im1 v k ls).2,0),u) else hgZ v y u ls.length ((im1 v k ls).1++(im2 y.c.a v.lv k v.l).1) ((im1 v k ls).2++(im2 y.c.a v.lv k v.l).2):=rfl
 rw[o];refine acv (v227 v.x v.lv (FTs v.l) ..) ?_;refine⟨(ls,b,⟨u.s,u.f,n,R⟩),j,yg (λq=>?_) λq=>⟨rfl,?_⟩⟩
 .rw[EL q];exact⟨noTE b,rfl⟩
 .rw[EG λw=>w q];have q:=q;have i:=l1.ok ok q;have h:=ay K A v y u n R i k d g ls za C E (qn m) (if (im1 v k ls).1.length=ls.length/\y.c.a<=v.lv then((zH (.mk 4 [] y.h []) (im1 v k ls).2,0),u) else hgZ v y u ls.length ((im1 v k ls).1++(im2 y.c.a v.lv k v.l).1)<|(im1 v k ls).2++(im2 y.c.a v.lv k v.l).2) (λD r=>EL ⟨D,r⟩) (λh=>EG h) ls [] [] [] rfl rfl (EI _) rfl rfl;rw[zn];exact h
abbrev stTm (v:Iv)(l:List Int)(t:Tm)(k:Int)(w:Wp)(m:Nat)(R:List<|List FV)(i:Int):St:=
 ⟨[(2,ci k),(3,.c<|.a<|.ep 11 4 0 0),(6,.c<|.a<|.ep 12 4 0 0),(12,.c<|.a<|.ep 13 4 0 0),(81,aIs l),(82,ci l.length),(83,ci i)],wkH w m R++[(11,obIv v),(12,zT4),(13,.arr 4 [cT t])],14⟩
def oX (K v) (D:ones v.l) (C:v.l.length<=100000) (m R n k)
  (E:∀(b) w,OkW K w->w.f.toNat<n->k+w.f<=1000000000->AC EF 221 [aIv v,ci b,ci k] (oWk w m R) (tTE (yH v n b k w).1) (oWk' (yH v n b k w).2 m R)) (g) (y:g.length<=1000000000):
  ∀(b d) (t) (w),g=d++b->OkW K w->w.f.toNat<n->k+w.f<=1000000000->t.sz+2*b.length+100004*w.f.toNat<=1000000000000->
  RPt EF 221 7 (tTE (j8 (λb w=>yH v n b k w) b t w).1) (oWk' (j8 (λb w=>yH v n b k w) b t w).2 m R) 3 (stTm v g t k w m R d.length)
 |[],d,t,w,i,ok,_,_,_=>by rw[S6] at i;rw[j8];let ⟨J,L,T,O⟩:=t;refine rpv (o8 ..) ?_;exact bF (by rw[i];omega) rrl
 |a::b,d,t,w,i,ok,A,S,G=>by
  have F:=E a w ok A S;let ⟨o,U⟩:=ql (K:=K) v D C n a k ok A;have H:getD (IR g) (toNat d.length) []=[.int .i64 a]:=by rw[i];exact fp d a b
  have r:d.length<(((IR g).length):Int):=by rw[i];exact ry d a b
  have N:d.length<(g.length:Int):=by rw[zD] at r;exact r
  have M:j8 (λb w=>yH v n b k w) (a::b) t w=if (yH v n a k w).1.2≠0 then((noT,(yH v n a k w).1.2),(yH v n a k w).2) else j8 (λb w=>yH v n b k w) b (zH t [(yH v n a k w).1.1]) (yH v n a k w).2:=rfl
  rw[M];simp[EH] at G;have j:=λh=>o.ok ok h;have V:=o.f1;have f0:=o.f0;generalize yH v n a k w=z at*;let ⟨⟨u,e⟩,x⟩:=z;dsimp only at*;have p:=wX t [u] (by have:=t.sz_eq;have:=Tm.szs_length t.l;simp[EH,EY];omega);have I:=uY t u;have nx:=λh=>oX K v D C m R n k E g y b (d++[a]) (zH t [u]) x (by rw[i];simp) (j h) za za za;rw[show(((d++[a]).length))=d.length+1 by simp] at nx;let ⟨J,L,T,O⟩:=t;refine rpv (o8 ..) ?_;rw[H,w64 (x:=d.length+1) za za];refine bT N ⟨⟨rfl,za,r,rfl⟩,(u,e,⟨x.s,x.f,m,R⟩),F,yg (λq=>?_) λq=>⟨⟨rfl,EI _⟩,_,by rw[wG];exact p,?_⟩⟩
  .rw[EL q];exact⟨noTE e,rfl⟩
  .rw[EG λw=>w q];exact nx q
def bh (K)(E:K<=100000000000)(v)(C:ones v.l)(H:v.l.length<=100000)(m R):∀(n) (k),0<=k->∀(a) (w),OkW K w->w.f.toNat<n->k+w.f<=1000000000->
  AC EF 221 [aIv v,ci a,ci k] (oWk w m R) (tTE (yH v n a k w).1) (oWk' (yH v n a k w).2 m R)
 |0,_,_,_,_,_,h,_=>absurd h za
 |n+1,k,r,a,w,ok,X,hk=>by
  have F:=cd K w m R ok a;let ⟨G,_,L⟩:=wu ok a;have Z:=G.f1;have f0:=G.f0;have Y:=ok.f0;have M:=ok.f1;have g:=λh=>G.ok ok h;rw[yH];generalize lookW w a=z at*;let ⟨⟨x,e⟩,u⟩:=z;dsimp only at*;have T:termG v _ k ((x,e),u)=if e≠0 then((noT,e),u) else if x.c.t=6 then((w5 1 (yH v n x.c.a (k+1) u).1.1,(yH v n x.c.a _ u).1.2),(yH v n x.c.a _ u).2) else if x.c.t=4 then(if x.h=v.x then((noT,170),u) else W6 v x k u) else if (vY v u.s.N x k).2=false then((noT,170),u) else j8 (λb w=>yH v n b k w) x.js (vY v u.s.N x k).1 u:=rfl
  rw[T];have p:=dO x;have I:=c_wrigid v x k u m R r za za;have D:=gq v u.s.N x k;refine acv (v221 v.x v.lv (FTs v.l) ..) ?_;refine⟨(x.h,x.js,x.c.t,x.c.a,x.c.b,x.c.c,x.c.d,e,⟨u.s,u.f,m,R⟩),F,yg (λq=>?_) λq=>?_⟩
  .rw[EL q];exact⟨noTE e,rfl⟩
  rw[EG λw=>w q];have L:=L q;have g:=g q;refine zF (λj=>?_) λj=>?_
  .have j:=j;rw[EL j];have ih:=bh K E v C H m R n (k+1) za x.c.a u g za za;rw[w64 za za];have O:=fg 1 (yH v n x.c.a (k+1) u).1.1 za;exact⟨((yH v n x.c.a (k+1) u).1.1,(yH v n x.c.a (k+1) u).1.2,⟨(yH v n x.c.a (k+1) u).2.s,(yH v n x.c.a (k+1) u).2.f,m,R⟩),ih,_,O,.refl _,rfl⟩
  have j:=j;rw[EG j];refine⟨_,p,zF (λA=>?_) λA=>⟨_,p,zF (λh=>absurd h A) λ_=>?_⟩⟩
  .rw[EL A];refine zF (λi=>?_) λi=>⟨_,p,zF (λ_=>?_) λh=>absurd A h⟩
   .have i:=i;rw[EL i];exact⟨noTE 170,rfl⟩
   .have i:=i;rw[EG i];have V:=c_wflex K E v x u m R g k r za za za C;exact⟨((W6 v x k u).1.1,(W6 v x k u).1.2,⟨(W6 v x k u).2.s,(W6 v x k u).2.f,m,R⟩),V,.refl _,rfl⟩
  .rw[EG A];have lp:=oX K v C H m R n k (λb w o S W=>bh K E v C H m R n k r b w o S W) x.js za x.js [] (vY v u.s.N x k).1 u rfl g za za (by rw[D];omega);generalize vY v u.s.N x k=y at*;let ⟨U,J⟩:=y;dsimp only at*;refine⟨(U,J),I,zm (λh=>?_) λh=>⟨rfl,?_⟩⟩
   .have h:=h;rw[EL<|zl h];exact⟨noTE 170,rfl⟩
   .have h:=h;rw[EG<|zl h,zD];exact lp
def rU (K)(A:K<=100000000000)(w m R)(ok:OkW K w)(x a)(I:x.js.length<=100000):AC EF 214 [aWk,aSd x,ci a] (oWk w m R) (ci (ut w x a).1) (oWk' (ut w x a).2 m R):=by
 have C:=qk K x.c.a m R x.js za w ok;let ⟨l1,_,l3,p⟩:=xC (K:=K) x.c.a x.js [] ok λt G=>nomatch G
 simp[EY] at l3;have e:ut w x a=f7 x a (zA x.c.a x.js [] w):=rfl;rw[e];have g:=λh=>l1.ok ok h;generalize zA x.c.a x.js [] w=z at*;let ⟨⟨ls,o⟩,u⟩:=z;dsimp only at C l1 l3 p g;have H:f7 x a ((ls,o),u)=if o≠0 then(o,u) else if (yH ⟨x.h,x.c.a,ls⟩ (u.f.toNat+1) a 0 u).1.2≠0 then((yH ⟨x.h,x.c.a,ls⟩ (u.f.toNat+1) a 0 u).1.2,(yH ⟨x.h,x.c.a,ls⟩ (u.f.toNat+1) a 0 u).2) else setW (yH ⟨x.h,x.c.a,ls⟩ (u.f.toNat+1) a 0 u).2 x.h (w5 ls.length (yH ⟨x.h,x.c.a,ls⟩ (u.f.toNat+1) a 0 u).1.1):=rfl
 rw[H];refine acv (v214 ..) ?_;refine⟨(ls,o,⟨u.s,u.f,m,R⟩),C,yg (λq=>?_) λq=>?_⟩
 .rw[EL q];exact rrl
 rw[EG λw=>w q];have b:=g q;have J:=b.f0;have L:=b.f1;have D:=bh K A ⟨x.h,x.c.a,ls⟩ (qn p) zk m R (u.f.toNat+1) 0 (EQ _) a u b za za;let ⟨v,t2⟩:=ql (K:=K) ⟨x.h,x.c.a,ls⟩ (qn p) zk (u.f.toNat+1) a 0 b za;have i:=λh=>v.ok b h;generalize yH ⟨x.h,x.c.a,ls⟩ (u.f.toNat+1) a 0 u=y at*;let ⟨⟨t,F⟩,d⟩:=y;dsimp only at D v t2 i ⊢;refine⟨(t,F,⟨d.s,d.f,m,R⟩),D,yg (λj=>?_) λj=>?_⟩
 .rw[EL j];exact rrl
 .rw[EG λw=>w j];have t0:=v.f0;have E:=c_wset K A d m R (i j) x.h (w5 ls.length t) (by rw[Yl];simp[B];omega);have r:=fg ls.length t za;rw[zn];exact⟨rfl,_,r,((setW d x.h<|w5 ls.length t).1,⟨(setW d x.h<|w5 ls.length t).2.s,(setW d x.h<|w5 ls.length t).2.f,m,R⟩),E,.refl _,rfl⟩
def A2 (K w m R)(ok:OkW K w)(x a):AC EF 216 [aWk,aSd x,ci a] (oWk w m R) (t2 (vg w x a).1) (oWk' (vg w x a).2 m R):=by
 have p:=c_pLift w.s a 1 ok.h;have v:=pI w.s a 1
 have e:vg w x a=if x.c.t=6 then((x.c.a,0),w) else if (xL w.s a 1).1.2≠0 then((0,(xL w.s a 1).1.2),⟨(xL w.s a 1).2,w.f⟩) else if (putS (xL w.s a 1).2 ⟨3,0,0,0,0⟩).1.2≠0 then((0,(putS (xL w.s a 1).2 ⟨3,0,0,0,0⟩).1.2),⟨(putS (xL w.s a 1).2 ⟨3,0,0,0,0⟩).2,w.f⟩)
  else((putS (putS (xL w.s a 1).2 ⟨3,0,0,0,0⟩).2 ⟨7,(xL w.s a 1).1.1,(putS (xL w.s a 1).2 ⟨3,0,0,0,0⟩).1.1,0,0⟩).1,
   ⟨(putS (putS (xL w.s a 1).2 ⟨3,0,0,0,0⟩).2 ⟨7,(xL w.s a 1).1.1,(putS (xL w.s a 1).2 ⟨3,0,0,0,0⟩).1.1,0,0⟩).2,w.f⟩):=rfl
 rw[e];generalize xL w.s a 1=z at*;have d:=v.ok ok.h;have o:=wd z.2 ⟨3,0,0,0,0⟩ (by have:=d.C;omega);have g:=d.put ⟨3,0,0,0,0⟩;generalize putS z.2 ⟨3,0,0,0,0⟩=y at*;have r:=wd y.2 ⟨7,z.1.1,y.1.1,0,0⟩ (by have:=g.C;omega);generalize putS y.2 ⟨7,z.1.1,y.1.1,0,0⟩=u at*;let ⟨⟨D,A⟩,j⟩:=z;refine acv (v216 ..) ?_;refine zF (λb=>?_) λb=>⟨(D,A,j),p,yg (λq=>?_) λq=>⟨y,o,yg (λi=>?_) λi=>⟨u,r,?_⟩⟩⟩
 .have b:=b;rw[EL b];exact rrl
 .have b:=b;rw[EG b,EL q];exact rrl
 .have b:=b;rw[EG b,EG λw=>w q,EL i];exact rrl
 .have b:=b;rw[EG b,EG λw=>w q,EG λw=>w i];exact rrl
abbrev obSd (x:Sd):AObj:=.arr 7 [[qi x.h,qf<|.sl false 1<|IR x.js,qi x.c.t,qi x.c.a,qi x.c.b,qi x.c.c,qi x.c.d]]
abbrev stPr (x:Sd)(as_ bs on:List Tm)(w:Wp)(m:Nat)(R:List<|List FV)(i:Int):St:=
 if on=[] then⟨[(0,aWk),(4,.c<|.a<|.ep 11 7 0 0),(7,aL as_),(9,aL bs),(10,.c<|qf .N),(48,ci as_.length),(49,ci i)],wkH w m R++[(11,obSd x)],12⟩
 else⟨[(0,aWk),(4,.c<|.a<|.ep 11 7 0 0),(7,aL as_),(9,aL bs),(10,.c<|.a<|.osl 12 4 0 on.length),(48,ci as_.length),(49,ci i)],wkH w m R++[(11,obSd x),(12,.arz 4<|FTs on)],13⟩
def aj:∀(a b),ones (onZ a b)/\(onZ a b).length<=a.length
 |[],_=>⟨(λt d=>by simp[onZ] at d),by simp[onZ]⟩
 |_::_,[]=>⟨(λt d=>by simp[onZ] at d),by simp[onZ]⟩
 |a::l,b::r=>by
  let ⟨e,f⟩:=aj l r;rw[onZ];split
  .exact⟨qb (λt d=>(Si.1 d)▸⟨rfl,by show 3≠2;decide⟩) e,zj⟩
  .grind
def aW (K) (O:K<=100000000000) (x w m R) (ok:OkW K w) (i bs) (Y:i.length<=10000000) (Z)
  (p:(onZ i bs).length=i.length->Z=(0,w)) (o:(onZ i bs).length≠i.length->Z=((wZ w x.h x.c.a i.length<|onZ i bs).1.2,(wZ w x.h x.c.a i.length<|onZ i bs).2)):
  ∀(b j d c on),i=j++b->bs=d++c->j.length=d.length->b.length=c.length->on.length<=j.length->onZ i bs=on++onZ b c->
  RPt EF 213 7 (ci Z.1) (oWk' Z.2 m R) 3 (stPr x i bs on w m R j.length)
 |[],j,d,c,on,y,hd,_,A,W,v=>by
  rw[S6] at y;have hpl:i.length=j.length:=by rw[y]
  have e1:onZ [] c=[]:=by simp[onZ]
  rw[e1,S6] at v;have N:=aj i bs;rw[v] at p o N;have I:=rD K O w m R ok x.h x.c.a i.length on za (by rw[qD N.1];omega);generalize wZ w x.h x.c.a i.length on=z at*;let ⟨⟨t,e⟩,u⟩:=z;dsimp only at o I;unfold stPr;by_cases E:on=[]
  .subst E;rw[EL rfl];refine rpv (nZ ..) ?_;simp only[zn];refine bF za ⟨by trivial,by trivial,zF (λG=>?_) λG=>⟨by trivial,(t,e,⟨u.s,u.f,m,R⟩),I.args ⟨.refl _,.refl _,.refl _,.refl _,leNs,trivial⟩,?_⟩⟩
   .rw[p<|by simp[EY];omega];exact rrl
   .rw[o<|by simp[EY];omega];exact rrl
  .rw[EG E];refine rpv (nY ..) ?_;simp only[zn];refine bF za ⟨by trivial,zF (λG=>?_) λG=>⟨by trivial,⟨by trivial,za⟩,?_⟩⟩
   .rw[p za];exact rrl
   .rw[Sg,EV (l:=FTs on)<|by rw[zn];exact EI _,o za];exact⟨(t,e,⟨u.s,u.f,m,R⟩),I,.refl _,rfl⟩
 |a::b,j,d,[],on,_,_,_,A,_,_=>by simp at A
 |a::b,j,d,g::c,on,y,hd,F,A,W,v=>by
  have T:i.length=j.length+(b.length+1):=zd;have H:bs.length=d.length+(c.length+1):=zd;have V:getD (FTs i) (toNat j.length) []=FT a:=y▸midI j a b;have D:getD (FTs bs) (toNat j.length) []=FT g:=by rw[F,hd];exact midI d g c
  have X:((j.length:Nat):Int)<(((FTs i).length):Int):=by rw[zn];omega
  have h4:((j.length:Nat))<(((FTs bs).length:Nat):Int):=by rw[zn];simp[EH] at A;omega
  have M:=dc a g;have L:=qH b.length;have S:wrap .i64 (wrap .i64 ((((FTs i).length))-1)-j.length)=b.length:=by rw[zn,w64 (x:=i.length-1) za za,w64 za za];omega
  have nx:=λ(J) h1 h2=>aW K O x w m R ok i bs Y Z p o b (j++[a]) (d++[g]) c J (by rw[y];simp) (by rw[hd];simp) (by simp[F]) zd h1 h2;rw[show(((j++[a]).length:Nat))=(j.length:Int)+1 by simp] at nx;have e0:onZ (a::b) (g::c)=(if lfZ a g=true then [bndT _] else [])++onZ b c:=rfl;rw[e0] at v;generalize lfZ a g=q at*;have skip:q=false->RPt EF 213 7 _ _ 3 (stPr x i bs on w m R<|j.length+1):=λh=>by rw[h,EG zb,SD] at v;exact nx on zj v
  have r:q=true->RPt EF 213 7 _ (oWk' Z.2 m R) 3 (stPr x i bs (on++[bndT b.length]) w m R<|j.length+1):=λh=>by rw[EL h] at v;exact nx (on++[bndT b.length]) zj (by rw[v];simp)
  clear nx p o;have U:FV.L 4 (.sl false 4<|FTs i)=true/\(0<=(j.length:Int)/\(((j.length:Int)<(((FTs i).length):Int))/\((rE<|FT a)=FT a))):=⟨rfl,za,X,yO a⟩;have C:FV.L 4 (.sl false 4<|FTs bs)=true/\((0:Int)<=(j.length:Int)/\(((j.length:Int)<(((FTs bs).length:Nat):Int))/\((rE (FT g):List FV)=FT g))):=⟨rfl,za,h4,yO g⟩;unfold stPr at skip r ⊢;rw[EG<|Yd on _] at r;by_cases E:on=[]
  .subst E;rw[EL rfl] at skip ⊢;refine rpv (nZ ..) ?_;rw[V,D,w64 (x:=(j.length:Int)+1) za za,S,xb,xb];exact zm (λ_=>⟨U,C,q,M,zm (λc=>⟨rfl,_,L,EI _,vB za,by rw[wG];exact r c⟩) λc=>skip c⟩) (λh=>absurd (ES h) za)
  .rw[EG E] at skip ⊢;refine rpv (nY ..) ?_;rw[V,D,w64 (x:=(j.length:Int)+1) za za,S,xb,xb];have r1:on.length<=(FTs on).length/\zw (on.length+1) 56:=⟨by rw[zn];exact EI _,vB za⟩;refine zm (λ_=>⟨U,C,q,M,zm (λc=>⟨rfl,_,L,EI _,r1,?_⟩) λc=>skip c⟩) (λh=>absurd (ES h) za);rw[EV (l:=FTs on)<|by rw[zn];exact EI _,wG];have:=r c;rw[yj,EJ] at this;exact this
def c_wprune (K)(r:K<=100000000000)(w m R)(ok:OkW K w)(x y)(H:x.js.length<=10000000)(G:y.js.length<=10000000):AC EF 213 [aWk,aSd x,aSd y] (oWk w m R) (ci (uZ w x y).1) (oWk' (uZ w x y).2 m R):=by
 have v:=qk K x.c.a m R x.js za w ok;let ⟨i,_,A,_⟩:=xC (K:=K) x.c.a x.js [] ok λt o=>nomatch o
 simp[EY] at A;have D:=λh=>qk K y.c.a m R y.js za (zA x.c.a x.js [] w).2<|i.ok ok h;have F:=λh=>(xC (K:=K) y.c.a y.js [] (i.ok ok h) λt o=>nomatch o).1;unfold uZ;generalize zA x.c.a x.js [] w=z at*;generalize zA y.c.a y.js [] z.2=u at*;let ⟨⟨b,C⟩,w1⟩:=z;let ⟨⟨bs,E⟩,e⟩:=u;dsimp only at*;refine acv (v213 ..) ?_;refine⟨(b,C,⟨w1.s,w1.f,m,R⟩),v,yg (λq=>?_) λq=>⟨(bs,E,⟨e.s,e.f,m,R⟩),D q,yg (λg=>?_) λg=>⟨rfl,rfl,?_⟩⟩⟩
 .rw[EL q];exact rrl
 .rw[EG λw=>w q,EL g];exact rrl
 .rw[EG λw=>w q,EG λw=>w g,zn,zn];refine yg (λd=>?_) λd=>⟨rfl,?_⟩
  .have d:b.length≠(bs.length:Int):=d;rw[EL za];exact rrl
  .have d:b.length=(bs.length:Int):=d;have d:b.length=bs.length:=za;rw[EG λw=>w d];exact aW K r x e m R ((F q).ok ((λh=>i.ok ok h) q) g) b bs za (if (onZ b bs).length=b.length then(0,e) else((wZ e x.h x.c.a b.length<|onZ b bs).1.2,(wZ e x.h x.c.a b.length<|onZ b bs).2)) (λh=>EL h) (λh=>EG h) b [] [] bs [] rfl rfl rfl d (EI _) rfl
def PR (l:List<|Int×Int):List (List FV):=l.map λp=> [.int .i64 p.1,.int .i64 p.2]
def aP (l):(PR l).length=l.length:=by simp[PR]
def pO (a b):PR (a++b)=PR a++PR b:=by simp[PR]
def stkZ (R:List<|List FV)(n:Nat)(ps:List<|Int×Int):=if ps=[] then R else R.take n++PR ps
def fK {R n}(d:n<=R.length)(b):n+b.length<=(stkZ R n b).length/\(stkZ R n b).take (n+b.length)=R.take n++PR b:=by
 unfold stkZ;split;next h=>subst h;simp[PR,d]
 .have e:(R.take n++PR b).length=n+b.length:=by simp[aP];omega
  grind
abbrev oOw (z:Ow)(m:Nat)(R:List<|List FV):=oWk' z.2 (m+z.1.2.length)<|stkZ R m z.1.2.reverse
abbrev aP2 (p:Int×Int):TV:=.agg [qi p.1,qi p.2]
def c_wunder (K w m R)(i:m<=R.length)(j:m<=1099511627776)(ok:OkW K w)(x y p):AC EF 211 [aWk,aSd x,aSd y,aP2 p] (oWk w m R) (ci (ZB w x y p).1.1) (oOw (ZB w x y p) m R):=by
 have o:=A2 K w m R ok x p.1;have v:=λh=>A2 K (vg w x p.1).2 m R ((JX ok x p.1).ok ok h) y p.2;unfold ZB;generalize vg w x p.1=z at*;generalize vg z.2 y p.2=u at*;let ⟨⟨C,r⟩,w1⟩:=z;let ⟨⟨e,A⟩,d⟩:=u;dsimp only at*;refine acv (v211 ..) ?_;refine⟨(C,r,⟨w1.s,w1.f,m,R⟩),o,yg (λq=>?_) λq=>⟨(e,A,⟨d.s,d.f,m,R⟩),v q,yg (λb=>?_) λb=>⟨EI _,⟨i,by unfold zw;dsimp only;omega⟩,?_⟩⟩⟩
 .rw[EL q];exact rrl
 .rw[EG λw=>w q,EL b];exact rrl
 .rw[EG λw=>w q,EG λw=>w b];exact rrl
def dz (P:Program)(S E:TypeId):Bool:=
 match tyOf P S,tyOf P E with
 |some dS,some dE=>(match dS.kind with|.slice e=>Nat.beq e E|_=>false) && !dS.agg && !dE.agg&&Nat.beq dE.size 1
 |_,_=>false
def RPt.backI {P sh lv f} {m m0 p oc:Nat} {r Hs' U live env s0} {α:Type} {H:α->AHeap} {nx:α->Nat} {Inv:α->Prop} {idx:α->Nat} {x0 X S E g es}
  (hP:P.follows .mixedOrders=true) (K:rngB P f p=some g) (T:IsBk P X S E) (o:dz P S E=true)
  (Y:m5 m0 U live (λs'=>s'=⟨env,H x0,nx x0⟩) s0) (hm:Nat.ble m m0=true) (A:env.all (λp=>p.2.lt m0)=true)
  (hg:ev env g=.c (.fn (.func X) [] [(false,[.ep oc 1 0 0])])) (D:Nat.blt oc m0=true) (L:∀x,Inv x->m0<=nx x)
  (z:∀x,Inv x->hook (H x) oc=.arr 1 [[qf<|.sl false 1<|IR es]]) (hN:es.length<9223372036854775808)
  (j:∀x,Inv x->idx x<=es.length)
  (i:∀x k F,Inv x->idx x=k+1->vcR P sh f m0 U p env k (.c<|qf<|.int .i64 es[k]) (H x) (nx x) λh n=> ∃C,(Inv C/\idx C=k)/\h=H C/\n=nx C)
  (O:Inv x0) (I:idx x0=es.length) (u:∀x,Inv x->idx x=0->vcA P sh lv f m (λr0 Hs0=>TV.Le r0 r/\Hs0=Hs') (RPt P f m r Hs') p ⟨env,H x,nx x⟩):
  RPt P f m r Hs' p s0:=by
 unfold dz at o;split at o
 .rename_i dS dE hS V;split at o
  .rename_i e F;simp only[EN,SK] at o;let ⟨⟨⟨M,h2⟩,Z⟩,J⟩:=o;have M:=S7 M;subst M;refine RPt.back (y:=λx=>.c<|qf<|.pt<|(IR es).getD (idx x-1) []) (v:=λx=>.c<|qi<|es.getD (idx x-1) 0) (xs:=.c<|qf<|.sl false 1<|IR es) (N:=(IR es).length) (rdn:=[]) hP K T hS F V Y hm A hg D L (λx w=>?_) rfl (by rw[zD];exact hN) (λx k w d=>?_) (λx k w d=>?_) O (by rw[zD];exact I) u
   .refine⟨[oc],?_⟩;unfold wD;simp[z x w];show(if 1=1 then _ else none)=_;rw[EL rfl];show(match jr dS [qf _] with|some v=>some _|none=>none)=_;unfold jr;rw[h2];rfl
   .have G:=j x w;have b:k<es.length:=za;have W:k<(IR es).length:=by rw[zD];exact b
    refine⟨[],?_,?_⟩
    .unfold yJ iV;simp only[F,V,Xi];simp_all
    .unfold wD;simp only[d,G8];rw[wW b,show es.getD k 0=es[k] by simp[getD,b]];unfold jr;rw[Z];rfl
   .grind
  .cases o
 .cases o
abbrev fnI (bk oc:Nat):TV:=.c<|.fn (.func bk) [] [(false,[.ep oc 1 0 0])]
def Ec (l):AC EF 188 [.c<|qf<|.sl false 1 l] [] (fnI 203 0) [.arr 1 [[qf<|.sl false 1 l]]]:=by refine acv (v188 ..) ?_;exact rrl
def isBkI:IsBk EF 203 64 3:=⟨zg,_,296,3,4,Tryz.func203,zg,zg,zg⟩
def bTyI:dz EF 64 3=true:=zg
abbrev hpOn (w:Wp)(n:Nat)(R:List<|List FV)(x y:Sd):AHeap:=
 [(0,wk3 1 17 w.f n),(1,hp6 14 15 16 5 w.s),(2,.gone),(3,.gone),(4,.gone),(5,.mapz<|NM w.s.N 0),(6,.gone),(7,.gone),(8,.gone),(9,.gone),(10,.gone),(11,.arr 1 [[.a<|.ep 0 3 0 0]]),(12,obSd y),(13,.arr 1 [[qf<|.sl false 1<|IR x.js]]),(14,.arz 5<|CR w.s.C),(15,.arz 7<|TR w.s.T),(16,.arz 1<|NR w.s.N),(17,.arz 2 R)]
def l_wone (w n R)(x y:Sd)(f:x.js.length=y.js.length)(p:n<=R.length)(A:n+x.js.length<=1099511627776):
  RPt EF 204 7 (ci 0) (oWk' w (n+x.js.length)<|stkZ R n (x.js.zip y.js).reverse) 3 ⟨[(2,.c<|.a<|.ep 11 1 0 0),(7,.c<|.a<|.ep 12 7 0 0),(90,fnI 203 13)],wkH w n R++[(11,.arr 1 [[.a<|.ep 0 3 0 0]]),(12,obSd y),(13,.arr 1 [[qf<|.sl false 1<|IR x.js]])],14⟩:=by
 have D:(x.js.zip y.js).length=x.js.length:=by simp[f]
 refine RPt.backI (sh:=sh) (lv:=lv204) (α:=Nat) (Inv:=λi=>i<=x.js.length) (idx:=λi=>i) (nx:=λ_=>18) (m0:=14) (U:=[7,8,9,10]) (live:=[2,7,90]) (oc:=13) (es:=x.js) (x0:=x.js.length) (g:=.tmp 90) (env:=[(2,.c<|.a<|.ep 11 1 0 0),(7,.c<|.a<|.ep 12 7 0 0),(90,fnI 203 13)])
  (H:=λi=>hpOn w (n+(x.js.length-i)) (stkZ R n ((x.js.zip y.js).drop i).reverse) x y) hP zg isBkI bTyI ?_ zb zg zg zb (λ_ _=>za) (λ_ _=>rfl) za (λi e=>e) (λi k C e b=>?_) (EI _) rfl (λi e j=>?_)
 .refine Eq.mpr (v204_3an ..) ?_;rw[Nat.sub_self,Gg,GJ za];rfl
 .have b:=b;have e:=e;subst b;have o:k<y.js.length:=za;have hd:=fK p ((x.js.zip y.js).drop<|k+1).reverse;have h:(((x.js.zip y.js).drop<|k+1).reverse).length=x.js.length-(k+1):=by simp[f]
  rw[h] at hd;have z:getD (IR y.js) (toNat<|k) []=[.int .i64 y.js[k]]:=by rw[S3];exact wW o
  have m:(x.js.zip y.js).drop k=(x.js[k],y.js[k])::(x.js.zip y.js).drop (k+1):=by rw[List.drop_eq_getElem_cons za];simp
  have d:stkZ R n ((x.js.zip y.js).drop k).reverse=take (n+(x.js.length-(k+1))) (stkZ R n ((x.js.zip y.js).drop<|k+1).reverse)++[[.int .i64 x.js[k],.int .i64 y.js[k]]]:=by rw[hd.2,m,GE];unfold stkZ;rw[EG zb,pO,<-SH];rfl
  have r:n+(x.js.length-k)=n+(x.js.length-(k+1))+1:=za;generalize x.js[k]=u at*;generalize y.js[k]=v at*;refine Eq.mpr (As ..) ?_;rw[z,zD];refine⟨⟨rfl,za,za,rfl⟩,EI _,⟨hd.1,by unfold zw;omega⟩,k,⟨za,rfl⟩,?_,rfl⟩;show _=hpOn w (n+(x.js.length-k)) (stkZ R n ((x.js.zip y.js).drop k).reverse) x y;rw[d,r];rfl
 .have j:=j;subst j;refine Eq.mpr (ro ..) ?_;rw[Sg,GY];exact rrl
def c_wone (K)(H:K<=100000000000)(w m R)(S:m<=R.length)(hm2:m<=549755813888)(ok:OkW K w)(p)(j1:(lookW w p.1).1.1.js.length<=100000)(X:(lookW (lookW w p.1).2 p.2).1.1.js.length<=100000):
  AC EF 204 [aWk,aP2 p] (oWk w m R) (ci (oneW w p).1.1) (oOw (oneW w p) m R):=by
 have U:=cd K w m R ok p.1;let ⟨V,_,_⟩:=wu ok p.1;have D:=λh=>V.ok ok h;have T:=λh=>cd K (lookW w p.1).2 m R (D h) p.2;have Z:=λh=>(wu (D h) p.2).1;unfold oneW;generalize lookW w p.1=z at*;generalize lookW z.2 p.2=u at*;let ⟨⟨x,J⟩,w1⟩:=z;let ⟨⟨y,N⟩,g⟩:=u;dsimp only at*;have F:=dO x;have L:=dO y;refine acv (v204 p.1 p.2 ..) ?_;refine⟨(x.h,x.js,x.c.t,x.c.a,x.c.b,x.c.c,x.c.d,J,⟨w1.s,w1.f,m,R⟩),U,yg (λq=>?_) λq=>⟨(y.h,y.js,y.c.t,y.c.a,y.c.b,y.c.c,y.c.d,N,⟨g.s,g.f,m,R⟩),T q,yg (λE=>?_) λE=>?_⟩⟩
 .rw[EL q];exact rrl
 .rw[EG λw=>w q,EL E];exact rrl
 have q:=q;have E:=E;rw[EG λw=>w q,EG λw=>w E];have o:=(Z q).ok (D q) E;have G:=c_wunder K g m R S za o x y p;have O:=rU K H g m R o x p.2 j1;unfold oneG
 have I:∀z,AC EF 211 [aWk,aSd x,aSd y,aP2 p] (oWk g m R) _ _->∃j:Int×Wk,AC EF 211 [aWk,aSd x,aSd y,aP2 p] (oWk g m R) (ci j.1) (oWk' ⟨j.2.s,j.2.f⟩ j.2.n j.2.R)/\TV.Le (ci j.1) (ci z.1.1)/\oWk' ⟨j.2.s,j.2.f⟩ j.2.n j.2.R=oOw z m R:=λz Y=>
  ⟨(z.1.1,⟨z.2.s,z.2.f,m+z.1.2.length,stkZ R m z.1.2.reverse⟩),Y,.refl _,rfl⟩
 refine zF (λC=>?_) λC=>zF (λv=>?_) λv=>?_
 .have C:=C;rw[EL<|.inl C];exact I _ G
 .have v:=v;rw[EL<|.inr v];exact I _ G
 rw[EG λw=>w.elim C v];clear I G;refine⟨_,F,zF (λi=>⟨_,L,zF (λr=>zF (λA=>?_) λA=>⟨_,F,zF (λ_=>?_) λh=>absurd i h⟩) λr=>⟨_,F,zF (λ_=>?_) λh=>absurd i h⟩⟩) λi=>⟨_,F,zF (λh=>absurd h i) λ_=>⟨_,L,zF (λr=>?_) λr=>⟨_,(c_hclash x y),zm (λc=>?_) λc=>⟨_,Ec<|IR x.js,?_⟩⟩⟩⟩⟩
 .have A:=A;rw[EL ⟨i,r,A⟩];exact⟨((uZ g x y).1,⟨(uZ g x y).2.s,(uZ g x y).2.f,m,R⟩),(c_wprune K H g m R o x y za za),.refl _,rfl⟩
 .have A:=A;rw[EG λw=>A w.2.2,EL i];exact⟨((ut g x p.2).1,⟨(ut g x p.2).2.s,(ut g x p.2).2.f,m,R⟩),O,.refl _,rfl⟩
 .rw[EG λw=>r w.2.1,EL i];exact⟨((ut g x p.2).1,⟨(ut g x p.2).2.s,(ut g x p.2).2.f,m,R⟩),O,.refl _,rfl⟩
 .rw[EG λw=>i w.1,EG i,EL r];exact⟨((ut g y p.1).1,⟨(ut g y p.1).2.s,(ut g y p.1).2.f,m,R⟩),(rU K H g m R o y p.1 X),.refl _,rfl⟩
 .rw[EG λw=>i w.1,EG i,EG r,EL c];exact rrl
 .rw[EG λw=>i w.1,EG i,EG r,EG<|by rw[c];simp];have M:x.js.length=y.js.length:=by have e:lE x y=(x.c.t !=y.c.t||x.c.a !=y.c.a||x.js.length !=y.js.length):=rfl;grind
  show RPt EF 204 7 (ci 0) (oWk' g (m+(x.js.zip y.js).length)<|stkZ R m (x.js.zip y.js).reverse) 3 _;rw[show(x.js.zip y.js).length=x.js.length by simp[M]];exact(l_wone g m R x y M S za)
def ng {R A}{x:List FV}{m}(b:A.length=m)(h:R.take (m+1)=A++[x]):getD R m []=x/\R.take m=A/\m<R.length:=by
 have e:(R.take<|m+1).length=m+1:=by rw[h];simp[b]
 have d:m<R.length:=zd;refine⟨?_,?_,d⟩
 .have:(R.take<|m+1)[m]?=some x:=by rw[h,<-b];simp
  grind
 .have:(R.take<|m+1).take m=A:=by rw[h,<-b];simp
  grind
structure RunI (K:Nat)(I:Wp->List (Int×Int)->Prop):Prop where
 ok:∀w st,I w st->OkW K w/\st.length<=500000000
 js:∀w p st,I w (p::st)->0<w.f->(lookW ⟨w.s,w.f-1⟩ p.1).1.1.js.length<=100000/\(lookW (lookW ⟨w.s,w.f-1⟩ p.1).2 p.2).1.1.js.length<=100000
 nx:∀w p st,I w (p::st)->0<w.f->(oneW ⟨w.s,w.f-1⟩ p).1.1=0->I (oneW ⟨w.s,w.f-1⟩ p).2 ((oneW ⟨w.s,w.f-1⟩ p).1.2++st)
def OkW.less {K w}(h:OkW K w)(b:0<w.f):OkW K ⟨w.s,w.f-1⟩:=⟨h.h,zk,by have:=h.f1;dsimp only;omega,h.n,h.i⟩
def l_wrun (K)(H:K<=100000000000){I}(y:RunI K I):∀(F) (w) (b) (R),w.f.toNat<=F->I w b->R.take b.length=PR b.reverse->
  ∃i R',RPt EF 189 7 (ci (runZ F w b).1) (oWk' (runZ F w b).2 i R') 1 ⟨[(0,aWk)],wkH w b.length R,11⟩
 |F,w,[],R,O,u,z=>by
  refine⟨0,R,?_⟩;have e:runZ F w []=(0,w):=by cases F<;>rfl
  rw[e];refine RPt.vc hP sh uz<|Eq.mpr (kV ..) ?_;exact bF zb rrl
 |F,w,p::b,R,O,u,z=>by
  let ⟨ok,N⟩:=y.ok w _ u;simp[EH] at N;have f0:=ok.f0;have T:=ok.f1;rw[GE,pO] at z;let ⟨M,t2,t3⟩:=ng (m:=b.length) (A:=PR b.reverse) (x:=[.int .i64 p.1,.int .i64 p.2]) (by simp[aP]) z;have C:wrap .i64 ((((p::b).length))-1)=b.length:=by rw[EH,w64 za za];omega
  have D:getD R (0+(b.length:Int).toNat) []=[.int .i64 p.1,.int .i64 p.2]:=by rw[S3,Sa];exact M
  by_cases L:w.f<=0
  .have e:runZ F w (p::b)=(80,w):=by
    cases F with
    |zero=>rfl
    |succ F=>rw[runZ,EL L]
   refine⟨b.length,R,?_⟩;rw[e];refine RPt.vc hP sh uz<|Eq.mpr (kV ..) ?_;rw[C,D];refine zm (λ_=>⟨⟨za,by simp[EH];omega⟩,⟨by rw[S3];omega,rfl,rfl⟩,⟨EQ _,za,by simp[EH];omega⟩,zm (λ_=>⟨.refl _,by rw[S3]⟩) λh=>absurd (ES h) za⟩) (λh=>absurd (ES h)<|by simp only[EH];omega)
  .cases F with
   |zero=>omega
   |succ F=>
    have o:=y.js w p b u za;have j:=ok.less za;have E:=c_wone K H ⟨w.s,w.f-1⟩ b.length R za za j p o.1 o.2;have J:=(rA j p o.1 o.2).1.f1;have r:=y.nx w p b u za;have e:runZ (F+1) w (p::b)=if (oneW ⟨w.s,w.f-1⟩ p).1.1≠0 then((oneW ⟨w.s,w.f-1⟩ p).1.1,(oneW ⟨w.s,w.f-1⟩ p).2) else runZ F (oneW ⟨w.s,w.f-1⟩ p).2 ((oneW ⟨w.s,w.f-1⟩ p).1.2++b):=by rw[runZ,EG L]
    have next:(oneW ⟨w.s,w.f-1⟩ p).1.1=0->∃i R',RPt EF 189 7 (ci (runZ F (oneW ⟨w.s,w.f-1⟩ p).2<|(oneW ⟨w.s,w.f-1⟩ p).1.2++b).1) (oWk' (runZ F (oneW ⟨w.s,w.f-1⟩ p).2<|(oneW ⟨w.s,w.f-1⟩ p).1.2++b).2 i R') 1
      ⟨[(0,aWk)],wkH (oneW ⟨w.s,w.f-1⟩ p).2 (b.length+(oneW ⟨w.s,w.f-1⟩ p).1.2.length)<|stkZ R b.length (oneW ⟨w.s,w.f-1⟩ p).1.2.reverse,11⟩:=λd=>by
     have r:=r d;have hd:=fK (n:=b.length) (R:=R) za (oneW ⟨w.s,w.f-1⟩ p).1.2.reverse;rw[GI,t2] at hd;have:=l_wrun K H y F (oneW ⟨w.s,w.f-1⟩ p).2 ((oneW ⟨w.s,w.f-1⟩ p).1.2++b) (stkZ R b.length (oneW ⟨w.s,w.f-1⟩ p).1.2.reverse) (by dsimp only at J;omega) r (by rw[EJ,GS,hd.2,List.reverse_append,pO]);rw[EJ,GS] at this;exact this
    rw[e];clear e r J o;generalize oneW ⟨w.s,w.f-1⟩ p=q at*;let ⟨⟨G,g⟩,v⟩:=q;dsimp only at next E ⊢;by_cases d:G=0
    .rw[EG<|by simp[d]];let ⟨i,R',S⟩:=next d
     refine⟨i,R',?_⟩;refine RPt.vc hP sh uz<|Eq.mpr (kV ..) ?_;rw[C,D,w64 (x:=w.f-1) za za,S3];exact zm (λ_=>⟨⟨za,by simp[EH];omega⟩,⟨za,rfl,rfl⟩,⟨EQ _,za,by simp[EH];omega⟩,bF za ⟨(G,⟨v.s,v.f,b.length+g.length,stkZ R b.length g.reverse⟩),E,yg (λh=>absurd d h) λ_=>S⟩⟩) (λh=>absurd (ES h)<|by simp only[EH];omega)
    .rw[EL d];refine⟨b.length+g.length,stkZ R b.length g.reverse,?_⟩;refine RPt.vc hP sh uz<|Eq.mpr (kV ..) ?_;rw[C,D,w64 (x:=w.f-1) za za,S3];exact zm (λ_=>⟨⟨za,by simp[EH];omega⟩,⟨za,rfl,rfl⟩,⟨EQ _,za,by simp[EH];omega⟩,bF za ⟨(G,⟨v.s,v.f,b.length+g.length,stkZ R b.length g.reverse⟩),E,yg (λ_=>rrl) λh=>absurd h d⟩⟩) (λh=>absurd (ES h)<|by simp only[EH];omega)
def c_wrun (K)(e:K<=100000000000){I}(g:RunI K I)(w b)(i:I w b):∃d R',AC EF 189 [aWk] (oWk w b.length<|PR b.reverse) (ci (runZ w.f.toNat w b).1) (oWk' (runZ w.f.toNat w b).2 d R'):=by
 let ⟨d,R',h⟩:=l_wrun K e g w.f.toNat w b _ (EI _) i<|EV<|by rw[aP,GI];exact EI _
 refine⟨d,R',AC.vc hP sh uz zb (by simp[isLive]) (by simp[isLive])<|Eq.mpr (v189_i1 ..) ?_⟩;exact h
def c_wrun0 (w:Wp):AC EF 189 [aWk] [.arr 3 [[.a<|.ep 1 6 0 0,qf .N,qi w.f]],hp6 2 3 4 5 w.s,.arz 5<|CR w.s.C,.arz 7<|TR w.s.T,.arz 1<|NR w.s.N,.mapz<|NM w.s.N 0] (ci 0)
  [.arr 3 [[.a<|.ep 1 6 0 0,qf .N,qi w.f]],hp6 6 7 8 5 w.s,.gone,.gone,.gone,.mapz<|NM w.s.N 0,.arz 5<|CR w.s.C,.arz 7<|TR w.s.T,.arz 1<|NR w.s.N]:=by
 refine acv (v189 ..) ?_;refine rpv (v189_1a ..) ?_;exact⟨rfl,.refl _,rfl⟩
def RunL (K:Nat)(w:Wp)(st:List<|Int×Int):Prop:=OkW K w/\w.f<=100000/\st.length+w.f<=400000000
def runI_L (K:Nat):RunI K (RunL K) where
 ok:=λw u h=>⟨h.1,by have:=h.2.2;have:=h.1.f0;omega⟩
 js:=λw p u h o=>by
  have b:=h.1.less o;have j:w.f-1<=100000:=by have:=h.2.1;omega
  refine⟨qI b p.1 j,?_⟩;have d:=(wu b p.1).1;by_cases q:(lookW ⟨w.s,w.f-1⟩ p.1).1.2=0
  .exact qI (d.ok b q) p.2 (by have:=d.f1;dsimp only at this;omega)
  .have g:OkW (K+1048577) (lookW ⟨w.s,w.f-1⟩ p.1).2:=⟨d.h,d.f0,by have:=d.f1;have:=b.f1;dsimp only at*;omega,d.m,d.mv.ih b.i⟩;exact qI g p.2 (by have:=d.f1;dsimp only at this;omega)
 nx:=λw p u h o q=>by
  have b:=h.1.less o;have j:w.f-1<=100000:=by have:=h.2.1;omega
  obtain⟨r,e⟩:=pe b p j;have e:=e q;have v:=r.f1;dsimp only at e v;refine⟨r.ok b q,za,?_⟩;have:=h.2.2;grind
def GoodZ (s:Hp):=∀e∈s.T,0<=e.o/\e.o<s.C.length/\e.top<s.C.length
def putZ_or (s c):(putS s c).2=s\/(putS s c).2={s with C:=s.C++[c]}:=by
 unfold putS;split
 .simp
 .grind
def setZ_or (s x c):(setS s x c).2=s\/inC s.C x=true/\(setS s x c).2={s with C:=s.C.set x.toNat c,T:=s.T++[⟨x,zB s.C x,topS s.T x⟩]}:=by
 unfold setS;split
 .simp
 .grind
def topZ_lt {T x n}(b:x<n)(d:∀e∈T,e.top<n):topS T x<n:=by
 unfold topS;split
 .rcases fmax2 (x:=x) rfl with h|h
  .rw[h];exact b
  .grind
 .exact b
def KT:∀(D) (C) (c),(∀e∈D,e.o.toNat<C.length)->ug D (C++[c])=ug D C++[c]
 |[],_,_,_=>rfl
 |e::D,C,c,h=>by show(ug D _).set _ _=(ug D C).set _ _++[c];rw[(KT D C c λx b=>h x<|EP _ b),List.set_append_left _ _<|(xq D C)▸h e ET]
def LaterZ (s0 s:Hp):=s0.C.length<=s.C.length/\∃D,s.T=s0.T++D/\(ug D s.C).take s0.C.length=s0.C
def Mv.later {b s0 s}(h:Mv b s0 s)(j:GoodZ s0):GoodZ s/\LaterZ s0 s:=by
 induction h with
 |refl=>exact⟨j,EI _,[],zb,by simp[ug]⟩
 |@put' t c _ _ ih=>
  let ⟨f,i,D,hD,g⟩:=ih;rcases putZ_or t c with e|e<;>rw[e]
  .omega
  .refine⟨λx hx=>?_,zj,D,hD,?_⟩
   .have:=f x hx;grind
   .show(ug D _).take _=_;rw[KT D t.C c λx hx=>by have:=f x (hD▸GN _ hx);omega,List.take_append_of_le_length zd];exact g
 |@set' t a c _ _ ih=>
  let ⟨f,i,D,hD,g⟩:=ih;rcases setZ_or t a c with e|⟨d,e⟩<;>rw[e]
  .omega
  .simp[inC,EN,Sf] at d;let ⟨p,o⟩:=qd d.1 d.2;refine⟨λx hx=>?_,by simp[Gn];exact i,D++[⟨a,zB t.C a,topS t.T a⟩],by simp[hD,SH],?_⟩
   .simp[Gn];rcases Sb.1 hx with hx|hx
    .exact f x hx
    .rw[Si.1 hx];exact⟨d.1,d.2,topZ_lt d.2 λe m=>(f e m).2.2⟩
   .show(ug _ _).take _=_;rw[WG,List.set_set,o,List.set_getElem_self];exact g
 |names e _ _ ih=>exact ih
def LaterZ.back {s0 s}(h:LaterZ s0 s):(xF s s0.C.length s0.T.length).C=s0.C/\(xF s s0.C.length s0.T.length).T=s0.T:=by
 let ⟨d,D,hD,b⟩:=h;refine⟨?_,?_⟩
 .show(ug _ s.C).take s0.C.length=s0.C;grind
 .show s.T.take s0.T.length=s0.T;grind
def c_undoZ {b s0 s}(h:Mv b s0 s)(f:GoodZ s0)(ok:OkH s):AC EF 40 [aH 0,.agg [qi s0.C.length,qi s0.T.length]] (oH s) (.tup []) (oH'<|xF s s0.C.length s0.T.length):=by
 let ⟨g,i,D,hD,_⟩:=h.later f;refine sO s s0.C.length s0.T.length zd (by have:=ok.T;omega) i (λe d=>⟨(g e d).1,(g e d).2.1⟩) λe d=>?_;rw[hD,List.take_left'] at d
 .exact(f e d).2.2
 .rfl
abbrev oHb (s:Hp):=[.arr 1 [[.a<|.ep 1 6 0 0]],hp6 2 3 4 5 s,.arz 5<|CR s.C,.arz 7<|TR s.T,.arz 1<|NR s.N,.mapz<|NM s.N 0]
abbrev fnO (bk:Nat):TV:=.c<|.fn (.func bk) [] [(false,[.ep 0 1 0 0])]
def c_hall1 (s x):AC EF 187 [ci x,.c<|.a<|.ep 0 1 0 0] (oHb s) (cb<|oddZ s.C x) (oHb s):=by
 have e:oddZ s.C x=(!inC s.C x||decide _):=rfl;rw[e];refine acv (v187 ..) ?_;refine⟨_,_,_,_,_,_,(wY s x),zm (λh=>yI ?_) λh=>yI ?_⟩
 .rw[h];rfl
 .rw[h];rfl
def ixI (p:Int->Bool):List Int->Nat->Int
 |[],_=> -1
 |t::l,i=>if p t=true then(i:Int) else ixI p l<|i+1
def Aw (p):∀(l) (i),decide (ixI p l i>=0)=l.any p
 |[],_=>rfl
 |t::l,i=>by
  rw[ixI,SY];split
  .grind
  next h=>rw[Aw p l,(zd:p t=false),Gh]
def l_idxi (s d)(i:d.length<=1000000000):∀(b a),d=a++b->
  RPt EF 141 6 (ci<|ixI (oddZ s.C) b a.length) (oHb s) 1 ⟨[(0,aIs d),(1,fnO 187),(7,ci d.length),(8,ci a.length)],[(0,.arr 1 [[.a<|.ep 1 6 0 0]]),(1,hp6 2 3 4 5 s),(2,.arz 5<|CR s.C),(3,.arz 7<|TR s.T),(4,.arz 1<|NR s.N),(5,.mapz<|NM s.N 0)],6⟩
 |[],a,e=>by rw[S6] at e;refine rpv (Zu ..) ?_;exact bF (by rw[e];omega) rrl
 |t::b,a,e=>by
  have ih:=l_idxi s d i b (a++[t]) (by rw[e];simp);rw[show(((a++[t]).length))=(a.length:Int)+1 by simp,show(a++[t]).length=a.length+1 by simp] at ih;have m:getD (IR d) (toNat a.length) []=[.int .i64 t]:=by rw[e];exact fp a t b
  have f:a.length<(((IR d).length):Int):=by rw[e];exact ry a t b
  have j:a.length<(d.length:Int):=by rw[zD] at f;exact f
  have g:=c_hall1 s t;rw[ixI];refine rpv (Zu ..) ?_;rw[m,w64 (x:=a.length+1) za za];refine bT j ⟨⟨rfl,za,f,rfl⟩,oddZ s.C t,g,zm (λh=>?_) λh=>?_⟩
  .rw[EL h];exact rrl
  .rw[EG<|by rw[h];simp];exact ih
def c_anyi (s l)(b:l.length<=1000000000):AC EF 98 [aIs l,fnO 187] (oHb s) (cb<|l.any<|oddZ s.C) (oHb s):=by
 have h:AC EF 141 [aIs l,fnO 187] (oHb s) (ci<|ixI (oddZ s.C) l 0) (oHb s):=by have:=l_idxi s l b l [] rfl;refine acv (AW ..) ?_;rw[zD];exact⟨rfl,this⟩
 have e:=Aw (oddZ s.C) l 0;refine acv (v98_F187 ..) ?_;exact⟨_,h,by rw[<-e];exact .refl _,rfl⟩
abbrev haH (s:Hp)(f:Int)(a b:List Int)(i:Nat):AHeap:=
 if i=a.length then [(0,hp6 15 16 17 4 s),(1,.gone),(2,.gone),(3,.gone),(4,.mapz<|NM s.N 0),(5,.gone),(6,.gone),(7,.gone),(8,.arr 1 [[.a<|.ep 0 6 0 0]]),(9,.arr 1 [[qf<|.sl false 1<|IR a]]),(10,.arr 1 [[qf<|.sl false 1<|IR b]]),(11,.arr 2 [[qi s.C.length,qi s.T.length]]),(12,.arr 1 [[.a<|.ep 13 3 0 0]]),(13,.arr 3 [[.a<|.ep 0 6 0 0,qf .N,qi f]]),(14,.arr 1 [[qf<|.sl false 1<|IR a]]),(15,.arz 5<|CR s.C),(16,.arz 7<|TR s.T),(17,.arz 1<|NR s.N)] else [(0,hp6 15 16 17 4 s),(1,.gone),(2,.gone),(3,.gone),(4,.mapz<|NM s.N 0),(5,.gone),(6,.gone),(7,.gone),(8,.arr 1 [[.a<|.ep 0 6 0 0]]),(9,.arr 1 [[qf<|.sl false 1<|IR a]]),(10,.arr 1 [[qf<|.sl false 1<|IR b]]),(11,.arr 2 [[qi s.C.length,qi s.T.length]]),(12,.arr 1 [[.a<|.ep 13 3 0 0]]),(13,.arr 3 [[.a<|.ep 0 6 0 0,.a<|.osl 18 2 0<|a.length-i,qi f]]),(14,.arr 1 [[qf<|.sl false 1<|IR a]]),(15,.arz 5<|CR s.C),(16,.arz 7<|TR s.T),(17,.arz 1<|NR s.N),(18,.arz 2<|PR ((a.zip b).drop i).reverse)]
def c_hAll (s) (Y:GoodZ s) (a b f) (Z:a.length<=1000000000) (hb:b.length<=1000000000)
  (d:a.length=b.length->a.any (oddZ s.C)=false->b.any (oddZ s.C)=false->a≠[]->∃I R',AC EF 189 [aWk] (oWk ⟨s,f⟩ (a.zip b).length<|PR (a.zip b).reverse) (ci (runZ f.toNat ⟨s,f⟩<|a.zip b).1)<|oWk' (runZ f.toNat ⟨s,f⟩<|a.zip b).2 I R')
  (e:a.length=b.length->Mv true s (runZ f.toNat ⟨s,f⟩<|a.zip b).2.s) (A:OkH s):
  AC EF 160 [aH 0,aIs a,aIs b,ci f] (oH s) (t2 (allZ s a b f).1) (oH' (allZ s a b f).2):=by
 have V:=c_anyi s a Z;have N:=c_anyi s b hb;have M:=mA s;have e0:allZ s a b f=if a.length≠b.length\/a.any _=true\/b.any _=true then((0,1),s) else if (runZ f.toNat ⟨s,f⟩ _).1≠0 then((0,(runZ f.toNat ⟨s,f⟩ _).1),xF (runZ f.toNat ⟨s,f⟩<|a.zip b).2.s s.C.length s.T.length) else(((runZ f.toNat ⟨s,f⟩<|a.zip b).2.f,0),(runZ f.toNat ⟨s,f⟩<|a.zip b).2.s):=rfl
 rw[e0];refine acv (v160 (IR a) (IR b) f ..) ?_;rw[zD,zD];refine⟨rfl,rfl,yg (λq=>?_) λq=>⟨_,V,zm (λz=>?_) λz=>⟨_,N,zm (λx=>?_) λx=>⟨s.C.length,s.T.length,M,IR a,Ec<|IR a,?_⟩⟩⟩⟩
 .rw[EL<|.inl za];exact rrl
 .rw[EL<|.inr<|.inl z];exact rrl
 .rw[EL<|.inr<|.inr x];exact rrl
 have m:a.length=b.length:=za;rw[EG<|by rintro (w|w|w);exact w m;rw[z] at w;cases w;rw[x] at w;cases w];have d:=d m z x;have e:=e m;clear e0 V N M;have D:(a.zip b).length=a.length:=by simp[m]
 refine RPt.backI (sh:=sh) (lv:=lv160) (α:=Nat) (Inv:=λi=>i<=a.length) (idx:=λi=>i) (nx:=λi=>if i=a.length then 18 else 19) (m0:=15) (U:=[5,6,7]) (live:=[4,5,6,11,12,38]) (oc:=14) (es:=a) (x0:=a.length) (g:=.tmp 38) (env:=[(4,.c<|.a<|.ep 8 1 0 0),(5,.c<|.a<|.ep 9 1 0 0),(6,.c<|.a<|.ep 10 1 0 0),(11,.c<|.a<|.ep 11 2 0 0),(12,.c<|.a<|.ep 12 1 0 0),(38,fnI 203 14)])
  (H:=λi=>haH s f a b i) hP zg isBkI bTyI ?_ zg zg zg zg (λ_ _=>by split<;>omega) (λi _=>by unfold haH;split<;>rfl) za (λi o=>o) (λi k hk o j=>?_) (EI _) rfl (λi o J=>?_)
 .refine Eq.mpr (v160_1an ..) ?_;unfold haH;rw[EL rfl,EL rfl]
 .have j:i=k+1:=j;have o:i<=a.length:=o;subst j;have E:k<b.length:=za;have K:getD (IR a) (toNat<|k) []=[.int .i64 a[k]]:=by rw[S3];exact wW hk
  have O:getD (IR b) (toNat<|k) []=[.int .i64 b[k]]:=by rw[S3];exact wW E
  have G:(a.zip b).drop k=(a[k],b[k])::(a.zip b).drop (k+1):=by rw[List.drop_eq_getElem_cons za];simp
  have h:PR ((a.zip b).drop k).reverse=PR ((a.zip b).drop<|k+1).reverse++[[.int .i64 a[k],.int .i64 b[k]]]:=by rw[G,GE,pO];rfl
  have S:(PR ((a.zip b).drop<|k+1).reverse).length=a.length-(k+1):=by simp[aP,m]
  generalize a[k]=u at*;generalize b[k]=v at*;by_cases y:k+1=a.length
  .unfold haH;rw[EL y,EL y];refine Eq.mpr (Am ..) ?_;rw[K,O,zD,zD];refine⟨⟨rfl,za,za,rfl⟩,⟨rfl,za,za,rfl⟩,EI _,by unfold zw;omega,k,⟨(by omega:k<=a.length),rfl⟩,?_,by rw[EG za]⟩;rw[EG za,h,(za:a.length-k=1),show(a.zip b).drop (k+1)=[] from GJ za];rfl
  .unfold haH;rw[EG y,EG y];refine Eq.mpr (EA ..) ?_;rw[K,O,zD,zD];refine⟨⟨rfl,za,za,rfl⟩,⟨rfl,za,za,rfl⟩,EI _,⟨za,by unfold zw;omega⟩,k,⟨(by omega:k<=a.length),rfl⟩,?_,by rw[EG za]⟩;rw[EG za,h,(za:a.length-k=a.length-(k+1)+1),EV za];rfl
 .have J:i=0:=J;subst J;by_cases F:a=[]
  .subst F;have e0:runZ f.toNat ⟨s,f⟩ (([]).zip b)=(0,⟨s,f⟩):=by cases f.toNat<;>rfl
   rw[e0];have r:=c_wrun0 ⟨s,f⟩;unfold haH;rw[EL (show 0=([]).length from rfl),EL (show 0=([]).length from rfl)];refine Eq.mpr (mV ..) ?_;exact⟨(0,⟨s,f,0,[]⟩),r,bN rrl⟩
  .let ⟨I,R',r⟩:=d F;have p:¬0=a.length:=λq=>F<|S1 q.symm;unfold haH;rw[EG p,EG p,GY,Sg];rw[D] at r;generalize runZ f.toNat ⟨s,f⟩ (a.zip b)=w at*;let ⟨X,L⟩:=w;dsimp only at r e ⊢;have W:=c_undoZ e Y<|e.ok A;refine Eq.mpr (A9 ..) ?_;refine⟨(X,⟨L.s,L.f,I,R'⟩),r,yg (λq=>?_) λq=>?_⟩
   .rw[EL q];exact⟨_,W,.refl _,rfl⟩
   .rw[EG λw=>w q];exact rrl
def c_hUnify (s a b f)(h:AC EF 160 [aH 0,aIs [a],aIs [b],ci f] (oH s) (t2 (allZ s [a] [b] f).1)<|oH' (allZ s [a] [b] f).2):AC EF 115 [aH 0,ci a,ci b,ci f] (oH s) (t2 (allZ s [a] [b] f).1) (oH' (allZ s [a] [b] f).2):=by refine acv (v115 ..) ?_;exact⟨zc,zc,((allZ s [a] [b] f).1.1,(allZ s [a] [b] f).1.2,(allZ s [a] [b] f).2),h,.refl _,rfl⟩
def c_hAllL (K:Nat)(e:K<=100000000000)(s:Hp)(h:GoodZ s)(ok:OkH s)(nm:NmB K s)(g:IH s)(a b:List Int)(f:Int)(j:a.length<=1000000)(m:b.length<=1000000)(f0:0<=f)(i:f<=100000):
  AC EF 160 [aH 0,aIs a,aIs b,ci f] (oH s) (t2 (allZ s a b f).1) (oH' (allZ s a b f).2):=by
 have d:OkW K ⟨s,f⟩:=⟨ok,f0,zk,nm,g⟩;refine c_hAll s h a b f za za (λ_ _ _ _=>?_) (λ_=>(dW _ _ d zk).mv) ok;exact c_wrun K e (runI_L K) ⟨s,f⟩ (a.zip b) ⟨d,zk,by rw[List.length_zip];dsimp only;omega⟩
mutual
def tC:Cd->Prop
 |.mk _ _ _ _ _ l=>tIs l
def tIs:List In1->Prop
 |[]=>True
 |.mk _ _ t l c::r=>((t.sz<=2000/\tmI t)/\(∀u∈l,u.sz<=2000/\tmI u)/\c.length<=300/\tCs c)/\tIs r
def tCs:List Cd->Prop
 |[]=>True
 |c::r=>tC c/\tCs r
end
def Ey:∀ {l} {x},tIs l->x∈l->(x.t.sz<=2000/\tmI x.t)/\(∀u∈x.l,u.sz<=2000/\tmI u)/\x.c.length<=300/\tCs x.c
 |.mk k a t q c::r,x,h,hm=>by
  rw[tIs] at h;rcases S4.1 hm with rfl|hm
  .exact h.1
  .exact Ey h.2 hm
def Ej:∀ {l} {d},tCs l->d∈l->tC d
 |c::r,d,h,hm=>by
  rw[tCs] at h;rcases S4.1 hm with rfl|hm
  .exact h.1
  .exact Ej h.2 hm
def tC_ins {c}(h:tC c):tIs c.ins:=by cases c;rw[tC] at h;exact h
def tIs_of:∀ {l},(∀x∈l,(x.t.sz<=2000/\tmI x.t)/\(∀u∈x.l,u.sz<=2000/\tmI u)/\x.c.length<=300/\tCs x.c)->tIs l
 |[],_=>by rw[tIs];trivial
 |.mk k a t q c::r,h=>by rw[tIs];exact⟨h _<|ET ..,tIs_of λx b=>h x<|EP _ b⟩
def tCs_of:∀ {l},(∀d∈l,tC d)->tCs l
 |[],_=>by rw[tCs];trivial
 |c::r,h=>by rw[tCs];exact⟨h _<|ET ..,tCs_of λd hd=>h d<|EP _ hd⟩
def Ju:∀t,okI t->tmI t:=by refine Tm.ind λt ih h=>?_;let ⟨k,s,n,l⟩:=t;rw[okI] at h;rw[tmI];exact⟨λ_=>h.1,cx λu b=>ih u b<|lC h.2 b⟩
def CdOk (c:Cd):Prop:=vC c=true/\zC c/\tC c
inductive Pc:Option Nat->Fr->Int->Nat->Prop
 |nil (H:Option Nat) (a:Int):Pc H .nil a 0
 |mk {H:Option Nat} {c:Cd} {s:SlO} {b d:Int} {k:Fr} {a:Int} {at_:Nat} {L:List Pl} {p:Int×Int} {q:Nat}:CdOk c->(slL s).length=c.sl.toNat->0<=b->d=frD k+1->0<=frD k->d<=1000000->Wt c L->L[at_]?=some (true,p)->0<=p.2->(∀x,c.ins[at_]?=some x->headK x.k=true->∃n,H=some n/\c.ar<=(n:Int))->Pc none k a q->Pc H (.mk c s b d k a) at_ (p.2.toNat+q)
inductive Im where
 |nil
 |mk (cs:List Cd) (s:SlO) (k:Im)
def imF:Im->FV
 |.nil=>npF
 |.mk cs s k=>.pt [.sl false 6<|FCs cs,slF s,imF k]
def imD:Im->Nat
 |.nil=>0
 |.mk _ _ k=>imD k+1
def ImOk:Im->Prop
 |.nil=>True
 |.mk cs s k=>(∀c∈cs,CdOk c/\c.fr<=((slL s).length:Int))/\cs.length<=300/\(slL s).length<=4096/\ImOk k
structure Ca where
 c:Cd
 s:SlO
def caR (x:Ca):=[.pt<|FC x.c,slF x.s]
def CaOk (n:Nat)(x:Ca):=CdOk x.c/\x.c.fr<=((slL x.s).length)/\(slL x.s).length<=4096/\x.c.ar<=n
structure Ch where
 m1:Nat
 m2:Nat
 lv:Int
 im:Im
 t:Fr
 ta:Int
 A:FV
 b:Fr
 ba:Int
 lf:FV
def chR (c:Ch):=[.int .i64 c.m1,.int .i64 c.m2,.int .i64 c.lv,imF c.im,frF c.t,.int .i64 c.ta,c.A,frF c.b,.int .i64 c.ba,c.lf]
def ClOk (n:Nat)(A:FV)(b:Fr)(ba:Int)(l:List Ca):Prop:=∃ws:List Int,A=.sl false 1 (IR ws)/\(∀x∈l,CaOk ws.length x)/\∃q,Pc none b ba q/\q<=n
def LfOk (n:Nat)(t:Fr)(ta:Int)(A:FV)(b:Fr)(ba:Int)(lf:FV):=
 (lf=.N/\∃q,Pc none t ta q/\q<=n)\/∃l,l≠[]/\lf=.sl false 2 (l.map caR)/\ClOk n A b ba l
def ChOk (F f:Int)(c:Ch):Prop:=ImOk c.im/\(imD c.im:Int)+f<=F/\LfOk (imD c.im) c.t c.ta c.A c.b c.ba c.lf
def ChOk.less {F f g:Int}{c:Ch}(h:ChOk F f c)(b:g<=f):ChOk F g c:=⟨h.1,by have:=h.2.1;omega,h.2.2⟩
def MkOk (s:Hp)(a b:Nat):Prop:=a<=s.C.length/\b<=s.T.length/\∀e∈s.T.take b,e.o<(a:Int)/\e.top<(a:Int)
def LtZ (s t:Hp):=s.C.length<=t.C.length/\∃D,t.T=s.T++D
def MkOk.later {s t a b}(h:MkOk s a b)(g:LtZ s t):MkOk t a b:=by let ⟨i,D,f⟩:=g;refine⟨SW h.1 i,by rw[f,EJ];have:=h.2.1;omega,λe d=>h.2.2 e ?_⟩;rw[f,List.take_append_of_le_length h.2.1] at d;exact d
def MkOk.now {s}(g:GoodZ s):MkOk s s.C.length s.T.length:=⟨EI _,EI _,λe b=>(g e<|SX b).2⟩
def MkOk.undo {s a b n k}(h:MkOk s a b)(g:MkOk s n k)(j:a<=n)(i:b<=k):MkOk (xF s n k) a b:=by
 have f:(xF s n k).T=s.T.take k:=rfl;refine⟨?_,?_,λe d=>h.2.2 e ?_⟩
 .have:=g.1;simp[xF,S8,xq];omega
 .rw[f,S8];have:=h.2.1;omega
 .rw[f,F2,G2 i] at d;exact d
def Ep {s n k}(g:MkOk s n k)(f:GoodZ s)(ok:OkH s):GoodZ (xF s n k)/\OkH (xF s n k):=by
 have b:(xF s n k).C.length=n:=by have:=g.1;simp[xF,S8,xq];omega
 refine⟨λe d=>?_,⟨by rw[b];have:=g.1;have:=ok.C;omega,ok.M,?_,ok.L⟩⟩
 .rw[b];exact⟨(f e<|SX d).1,g.2.2 e d⟩
 .show(s.T.take k).length<=_;have:=ok.T;rw[S8];omega
structure Gs where
 P:List Cd
 T:FV
 V:List Int
 F:Int
structure Bs (G:Gs)(K:Nat)(m:Ma)(ch:List Ch)(i:Im):Prop where
 h:OkH m.s
 g:GoodZ m.s
 n:NmB K m.s
 ih:IH m.s
 S:m.S<=100000
 P:m.P=.sl false 6 (FCs G.P)
 T:m.T=G.T
 V:FV.L 1 m.V=true/\FV.ses m.V=IR G.V
 o:m.o=npF
 f0:0<=m.f
 f1:m.f<=3000
 I:m.I=imF i
 i1:ImOk i
 i2:(imD i:Int)+m.f<=G.F
 a:∃ws,m.A=.sl false 1 (IR ws)\/m.A=.N/\ws=[]
 cn:m.n=ch.length
 c3:m.n<=100000
 cr:m.C.take m.n=ch.map chR
 mks:∀c∈ch,MkOk m.s c.m1 c.m2
 so:ch.Pairwise λa b=>a.m1<=b.m1/\a.m2<=b.m2
 ok:∀c∈ch,ChOk G.F m.f c
def Go (m:Ma)(i:Im):Prop:=∃(k:Fr) (ws:List Int) (q:Nat),m.nf=frF k/\(m.A=.sl false 1 (IR ws)\/m.A=.N/\ws=[])/\Pc (some ws.length) k m.na q/\q<=imD i
def Ov (m:Ma):=∃k e,k≠0/\m.o=evM k e
def Po (G:Gs)(K:Nat)(F o:Int)(m:Ma):Prop:=(o=0/\m.f<=F/\∃ch i,Bs G K m ch i/\Go m i)\/(o=1/\m.f<=F/\∃ch i,Bs G K m ch i)\/o=2/\Ov m
def Bs.len {G K m b i}(h:Bs G K m b i):m.n<=m.C.length:=by have:=SJ List.length h.cr;rw[S8,Sn,<-h.cn] at this;omega
def Bs.mv {G:Gs}{K K':Nat}{m:Ma}{e:List Ch}{i:Im}(h:Bs G K m e i){s:Hp}{f:Int}(d:Mv true m.s s)(ok:OkH s)(nm:NmB K' s)(f0:0<=f)(u:f<=m.f):Bs G K' {m with s:=s,f:=f} e i:=by obtain⟨r,j⟩:=d.later h.g;have p:LtZ m.s s:=⟨j.1,j.2.imp λ_ h=>h.1⟩;exact⟨ok,r,nm,d.ih h.ih,h.S,h.P,h.T,h.V,h.o,f0,by have:=h.f1;dsimp only;omega,h.I,h.i1,by have:=h.i2;dsimp only;omega,h.a,h.cn,h.c3,h.cr,λc b=>(h.mks c b).later p,h.so,λc b=>(h.ok c b).less u⟩
def Bs.gr {G K m b i}(h:Bs G K m b i){s}(g:Gr m.s s):Bs G K {m with s:=s} b i:=
 h.mv g.1 (g.2.1 h.h) (g.2.2 K h.n) h.f0 (EQ _)
def Bs.up {G K K' m b i}(h:Bs G K m b i)(d:K<=K'):Bs G K' m b i:=
 {h with n:=by have:=h.n;unfold NmB at*;omega}
def ke {m l e}(b:e≠0)(d:e≠170):(yw m l e).1=2/\Ov (yw m l e).2:=by
 unfold yw;rw[EG b,EG d];split
 .exact⟨rfl,4,0,zc,rfl⟩
 .split
  .exact⟨rfl,5,e,zc,rfl⟩
  .split
   .exact⟨rfl,3,e,zc,rfl⟩
   .exact⟨rfl,2,0,zc,rfl⟩
abbrev aCh (t:Fr)(ta:Int)(A:FV)(b:Fr)(ba:Int)(lf:FV):TV:=.agg [qi 0,qi 0,qi 0,qf npF,qf<|frF t,qi ta,qf A,qf<|frF b,qi ba,qf lf]
def jI (m:Ma)(t:Fr)(ta:Int)(A:FV)(b:Fr)(ba:Int)(lf:FV):Int×Ma:=
 if m.S<=m.n then(202,m) else(0,{m with n:=m.n+1,C:=m.C.take m.n++[[.int .i64 m.s.C.length,.int .i64 m.s.T.length,.int .i64 m.L,m.I,frF t,.int .i64 ta,A,frF b,.int .i64 ba,lf]]})
def c_push (m)(f:m.n<=m.C.length)(g:m.S<=100000)(t d A b ba e):AC EF 47 [aM,aCh t d A b ba e] (mOb m []) (ci (jI m t d A b ba e).1) (mSb (jI m t d A b ba e).2 []):=by
 refine acv (v47 ..) ?_;unfold jI;refine zm (λh=>?_) λh=>?_
 .rw[EL<|S0 h];exact rrl
 .have h:=ES h;rw[EG h];exact⟨_,_,mA m.s,EI _,⟨f,by unfold zw;omega⟩,.refl _,rfl⟩
def Bs.push {G K m j i}(h:Bs G K m j i)(t d A b ba e)(r:LfOk (imD i) t d A b ba e):
  (jI m t d A b ba e).1=202\/(jI m t d A b ba e).1=0/\(jI m t d A b ba e).2.f<=m.f/\(jI m t d A b ba e).2.s=m.s/\(jI m t d A b ba e).2.nf=m.nf/\(jI m t d A b ba e).2.na=m.na/\(jI m t d A b ba e).2.A=m.A/\Bs G K (jI m t d A b ba e).2 (j++[⟨m.s.C.length,m.s.T.length,m.L,i,t,d,A,b,ba,e⟩]) i:=by
 unfold jI;split
 .exact .inl rfl
 .rename_i w;have u:=h.S;refine .inr ⟨rfl,EQ _,rfl,rfl,rfl,rfl,{h with c3:=zk,cn:= ?_,cr:= ?_,mks:= ?_,so:= ?_,ok:= ?_}⟩
  .simp[h.cn]
  .have v:=h.len;show take _ _=_;rw[EV zj,h.cr,SN,h.I];rfl
  .intro c hc;rcases Sb.1 hc with hc|hc
   .exact h.mks c hc
   .rw[Si.1 hc];exact MkOk.now h.g
  .refine List.pairwise_append.2 ⟨h.so,List.pairwise_singleton ..,λx o y p=>?_⟩;rw[Si.1 p];exact⟨(h.mks x o).1,(h.mks x o).2.1⟩
  .intro c hc;rcases Sb.1 hc with hc|hc
   .exact h.ok c hc
   .rw[Si.1 hc];exact⟨h.i1,h.i2,r⟩
def Pc.dep {H k a q}(h:Pc H k a q):0<=frD k/\frD k<=1000000:=by
 cases h with
 |nil=>exact⟨EQ _,zc⟩
 |mk _ _ _ b e d=>exact⟨by rw[frD,b];omega,d⟩
def CdOk.cnt {c}(h:CdOk c):0<=c.ar/\0<=c.fr/\c.fr<=4096/\0<=c.vs/\c.vs<=4096/\c.sl<=4096/\c.fr+c.vs<=c.sl:=by have:=S0 (vC_eq h.1).1;omega
def Pc.first {c:Cd}{o:SlO}{b d:Int}{k:Fr}{a:Int}{q n:Nat}(e:CdOk c)(p:(slL o).length=max (c.fr.toNat+c.vs.toNat) c.sl.toNat)(i:0<=b)(hd:d=frD k+1)(f:d<=1000000)(j:c.ar<=(n:Int))(g:Pc none k a q):Pc (some n) (.mk c o b d k a) 0 q:=by have r:=e.cnt;obtain⟨_,L,h,m⟩:=code_tab e.1;have:=Pc.mk (H:=some n) e (show(slL o).length=c.sl.toNat by omega) i hd g.dep.1 f h m (EQ 0) (λx _ _=>⟨n,rfl,j⟩) g;exact zl this
abbrev mFr (m:Ma)(n:Int)(c:Cd)(b d:Int)(k:Fr)(a:Int)(A:FV)(o:SlO):List AObj:=.arr 14 [[.a<|.ep 1 6 0 0,qf m.P,qf m.T,qi m.S,qf m.V,.a<|.ep 10 6 0 0,qi n,qf A,qi m.L,qf m.I,.a<|.osl (slN 11 o) 10 0 m.n,qi m.f,qf<|.bool m.w,qf m.o]]::
 hpO 7 8 9 5 m.s:: .gone:: .gone:: .gone:: .mapz (NM m.s.N 0):: .gone:: .arz 5 (CR m.s.C):: .arz 7 (TR m.s.T):: .arz 1 (NR m.s.N):: .arr 6 [[qf<|.pt<|FC c,slW 11 o,qi b,qi d,qf<|frF k,qi a]]::(slB o++[.arz 10 m.C])
def ice_sl (n k:Nat)(x s):AV.ice n 1 (IR<|x::s) (.osl n 1 0 (x::s).length)=.fz (.sl true 1<|IR<|x::s):=by
 have e:(IR<|x::s).length=(x::s).length:=by simp[IR]
 rw[AV.ice,EL ⟨rfl,rfl,by rw[e];omega⟩,Sg,EV<|by rw[e];exact EI _];rfl
def fr_ice {f args Hs m n c b d k a A o}(e:Hs.length<=10)(h:AC EF f args Hs (ci 0)<|mFr m n c b d k a A o):
  AC EF f args Hs (ci 0) (mSb {m with nf:=frF (.mk c o b d k a),na:=n,A:=A} []):=by
 match o,h with
 |none,h=>exact(h.ice 10 6 [[.pt _,.N,.int .i64 b,.int .i64 d,frF k,.int .i64 a]] rfl).skip 10 1 _ _ rfl rfl rfl rfl e zj
 |some [],h=>exact(h.ice 10 6 [[.pt<|FC c,.z0 true,.int .i64 b,.int .i64 d,frF k,.int .i64 a]] rfl).skip 10 1 _ (ci 0) rfl rfl rfl rfl e zj
 |some (x::s),h=>
  have g:AC EF f args Hs _ (.arr 14 [[.a _,qf m.P,qf m.T,qi m.S,qf m.V,.a _,qi n,qf A,qi m.L,qf m.I,.a _,qi m.f,qf _,qf m.o]]::
   hpO 7 8 9 5 m.s:: .gone:: .gone:: .gone:: .mapz _:: .gone:: .arz 5 _:: .arz 7 _:: .arz 1 _:: .arr 6 [[qf _,.a _,qi b,qi d,qf _,qi a]]:: .gone::[.arz 10 m.C]):=h.ice 11 1 _ rfl
  rw[ice_sl 11 0] at g;exact(g.ice 10 6 [[.pt _,.sl true 1 _,.int .i64 b,.int .i64 d,frF k,.int .i64 a]] rfl).skip 10 2 _ _ rfl rfl rfl rfl e zj
def ai {m:Ma}{o}:∀a,a∈slB o\/a=.arz 10 m.C->isLive a:=λa h=>h.elim (JK o a) λh=>by rw[h];trivial
def dw {G K m L i}(h:Bs G K m L i){A b ba l}(hc:ClOk (imD i) A b ba l):
  ∃o I,AC EF 41 [aM,.agg [qf A,qf<|frF b,qi ba],.c<|qf<|.sl false 2<|l.map caR] (mOb m []) (ci o) (mSb I [])/\Po G K m.f o I/\(l≠[]->o≠1):=by
 let ⟨X,V,Y,q,W,H⟩:=hc;have hd:=W.dep;cases l with
 |nil=>refine⟨1,m,?_,.inr<|.inl ⟨rfl,EQ _,L,i,h⟩,λw=>absurd rfl w⟩;refine acv (v41 ..) ?_;exact⟨rfl,.refl _,rfl⟩
 |cons x l=>
  let ⟨Z,x2,x3,x4⟩:=Y x ET;have xc:=Z.cnt
  have fr:∀d r,Bs G K d r i->∃j,Gr d.s j/\((∃e,(e=200\/e=202)/\AC EF 22 [aM,aCn x.c x.s,aPl b ba] (mOb d []) (errT e) (mSb {d with s:=j} []))\/
    ∃o,(slL o).length=max (x.c.fr.toNat+x.c.vs.toNat) x.c.sl.toNat/\frD b+1<=d.S/\AC EF 22 [aM,aCn x.c x.s,aPl b ba] _ _ _):=
   λd r M=>c_frameA d x.c x.s b ba M.h ⟨xc.2.1,x2⟩ za za za hd
  have fin:∀d r j o,Bs G K d r i->d.f<=m.f->Gr d.s j->(slL o).length=max _ x.c.sl.toNat->frD b+1<=d.S->
    AC EF 41 [aM,.agg [qf A,qf _,qi ba],.c _] (mOb m []) (ci 0) (mFr {d with s:=j} 0 x.c m.n (frD b+1) b ba A o)->
    ∃o I,AC EF 41 [aM,.agg [qf A,qf<|frF b,qi ba],.c<|qf<|.sl false 2<|(x::l).map caR] (mOb m []) (ci o) (mSb I [])/\Po G K m.f o I/\(x::l≠[]->o≠1):=λd r j o M p g E J T=>by
   have C:=M.gr g;have hS2:=M.S;refine⟨0,_,fr_ice zb T,.inl ⟨rfl,p,r,i,{C with a:=⟨X,.inl V⟩},.mk x.c o m.n (frD b+1) b ba,X,q,rfl,.inl V,?_,H⟩,λ_=>zc⟩;exact Pc.first Z E za rfl za x4 W
  have N:∀(d:Ma) j e,(e=200\/e=202)->(yw {d with s:=j} d.f e).1=2/\Ov (yw {d with s:=j} d.f e).2:=λd j e v=>ke za za;by_cases u:l=[]
  .subst u;obtain⟨j,g,⟨e,v,p⟩|⟨o,E,J,p⟩⟩:=fr m L h
   .refine⟨_,_,?_,.inr<|.inr<|N m j e v,λ_=>by rw[(N m j e v).1];decide⟩;refine acv (v41 ..) ?_;refine⟨rfl,bN ⟨rfl,bN ⟨⟨rfl,EQ _,zb,rfl⟩,.inl ⟨(e,_),p,zm (λ_=>⟨yw {m with s:=j} m.f e,?_,.refl _,?_⟩) λq=>by rcases v with rfl|rfl<;>cases q⟩⟩⟩⟩
    .rw[y5];exact aD _ _ _
    .rw[y5]
   .refine fin m L j o h (EQ _) g E J ?_;refine AC.vc hP sh lv24 zb (by simp[isLive,moO]) (by simpa[isLive] using ai)<|Eq.mpr (v41 ..) ?_;refine⟨rfl,bN ⟨rfl,bN ⟨⟨rfl,EQ _,zb,rfl⟩,.inr ?_⟩⟩⟩
    match o,p with
    |none,p=>exact .inr ⟨({m with s:=j},.pt<|FC x.c,.N,m.n,frD b+1,frF b,ba),p,.refl _,rfl⟩
    |some [],p=>exact .inr ⟨({m with s:=j},.pt<|FC x.c,.z0 true,m.n,frD b+1,frF b,ba),p,.refl _,rfl⟩
    |some (y::s),p=>exact .inl ⟨({m with s:=j},.pt<|FC x.c,y::s,m.n,frD b+1,frF b,ba),p,.refl _,rfl⟩
  .have D:1<(((x::l).map caR).length:Int):=by
    cases l with
    |nil=>exact absurd rfl u
    |cons=>simp;omega
   have e:drop 1 (take (toNat<|(((x::l).map caR).length))<|(x::l).map caR)=l.map caR:=by rw[S3,EV<|EI _];rfl
   have U:LfOk (imD i) .nil 0 A b ba (.sl false 2<|drop 1<|take (toNat<|(((x::l).map caR).length:Nat))<|(x::l).map caR):=.inr ⟨l,u,by rw[e],X,V,λy hy=>Y y<|EP _ hy,q,W,H⟩;have F:=c_push m h.len h.S .nil 0 A b ba<|.sl false 2<|drop 1<|take (toNat ((((x::l).map caR).length:Nat):Int))<|(x::l).map caR;have C:=h.push .nil 0 A b ba _ U;generalize jI m .nil 0 A b ba (.sl false 2<|drop 1<|take (toNat ((((x::l).map caR).length:Nat):Int))<|(x::l).map caR)=z at F C;let ⟨z1,d⟩:=z;dsimp only at F C;rcases C with rfl|⟨rfl,O,hs1,_,_,_,C⟩
   .refine⟨_,_,?_,.inr<|.inr<|ke (m:=d) (l:=d.f) (e:=202) zc zc,λ_=>by rw[(ke zc zc).1];decide⟩;refine acv (v41 ..) ?_;refine⟨rfl,zm (λq=>by simp at q;omega) λ_=>⟨rfl,bT D ⟨rfl,⟨zc,za,EQ _⟩,(202,d),F,bP ⟨yw d d.f 202,?_,.refl _,?_⟩⟩⟩⟩
    .rw[y5];exact aD _ _ _
    .rw[y5]
   .obtain⟨j,g,⟨e,v,p⟩|⟨o,E,J,p⟩⟩:=fr d _ C
    .refine⟨_,_,?_,.inr<|.inr<|N d j e v,λ_=>by rw[(N d j e v).1];decide⟩;refine acv (v41 ..) ?_;refine⟨rfl,zm (λq=>by simp at q;omega) λ_=>⟨rfl,bT D ⟨rfl,⟨zc,za,EQ _⟩,(0,d),F,bN ⟨⟨rfl,EQ _,za,rfl⟩,.inl ⟨(e,_),p,zm (λ_=>⟨yw {d with s:=j} d.f e,?_,.refl _,?_⟩) λq=>by rcases v with rfl|rfl<;>cases q⟩⟩⟩⟩⟩
     .rw[y5];exact aD _ _ _
     .rw[y5]
    .refine fin d _ j o C O g E J ?_;refine AC.vc hP sh lv24 zb (by simp[isLive,moO]) (by simpa[isLive] using ai)<|Eq.mpr (v41 ..) ?_;refine⟨rfl,zm (λq=>by simp at q;omega) λ_=>⟨rfl,bT D ⟨rfl,⟨zc,za,EQ _⟩,(0,d),F,bN ⟨⟨rfl,EQ _,za,rfl⟩,.inr ?_⟩⟩⟩⟩
     match o,p with
     |none,p=>exact .inr ⟨({d with s:=j},.pt<|FC x.c,.N,d.n,frD b+1,frF b,ba),p,.refl _,rfl⟩
     |some [],p=>exact .inr ⟨({d with s:=j},.pt<|FC x.c,.z0 true,d.n,frD b+1,frF b,ba),p,.refl _,rfl⟩
     |some (y::s),p=>exact .inl ⟨({d with s:=j},.pt<|FC x.c,y::s,d.n,frD b+1,frF b,ba),p,.refl _,rfl⟩
def aY:∀(D) (C),(∀c∈C,c.t=2->N64 c.a)->(∀e∈D,e.x.t=2->N64 e.x.a)->∀c∈ug D C,c.t=2->N64 c.a
 |[],_,h,_=>h
 |e::D,C,h,hD=>λc hc=>by
  have ih:=aY D C h λx b=>hD x<|EP _ b;have hc:=hc;rcases Ge hc with hc|hc
  .exact ih c hc
  .rw[hc];exact hD e ET
def undo_ih {s}(h:IH s)(n k):IH (xF s n k):=
 ⟨λc d=>aY _ _ h.1 (λe b=>h.2 e<|GB b) c<|SX d,λe b=>h.2 e<|SX b⟩
def Pc.arg {k a q}(h:Pc none k a q)(n):Pc (some n) k a q:=by
 cases h with
 |nil=>exact .nil _ _
 |mk u j r v p o f e i b d=>exact .mk u j r v p o f e i (λx m g=>by let ⟨_,h,_⟩:=b x m g;cases h) d
def c_back {G K m b i}(h:Bs G K m b i):
  ∃o w,AC EF 24 [aM] (mOb m []) (ci o) (mSb w [])/\Po G (K+1048576) m.f o w/\o≠1:=by
 have r:=h.cn;have p:=h.cr;have O:=h.len;have hS:=h.S;rcases GP b with rfl|⟨b,c,rfl⟩
 .have J:m.n=0:=zl r;refine⟨2,{m with o:=evM 1 0},?_,.inr<|.inr ⟨rfl,1,0,zc,rfl⟩,zc⟩;refine acv (v24 ..) ?_;rw[J];exact zm (λ_=>⟨(2,{m with o:=evM 1 0}),uI m 1 0,.refl _,by rw[<-J]⟩) λq=>absurd (ES q) zc
 .rw[List.concat_eq_append] at*;have hn:m.n=b.length+1:=zl r;have U:wrap .i64 ((m.n)-1)=b.length:=by have:=h.c3;rw[w64 za za];omega
  have V:getD m.C (0+toNat b.length) []=chR c:=by
   have q:(take m.n m.C)[b.length]?=(List.map chR<|b++[c])[b.length]? :=by rw[p]
   rw[Sy,EL za,EX,Gx<|EI _,Nat.sub_self] at q;rw[Sa,S3,getD,q];rfl
  have E:=h.ok c zb;have j:=h.mks c zb;have y:=h.so;rw[List.pairwise_append] at y;let ⟨Y,g2⟩:=Ep j h.g h.h;have hT:=h.h.T;have W:=sO m.s c.m1 c.m2 j.2.1 za j.1 (λe A=>⟨(h.g e A).1,(h.g e A).2.1⟩) λe A=>(j.2.2 e A).2
  have H:Bs G (K+1048576) {m with s:=xF m.s c.m1 c.m2,L:=c.lv,I:=imF c.im,n:=b.length} b c.im:={h with
   h:=g2,g:=Y,ih:=undo_ih h.ih _ _,I:=rfl,i1:=E.1,i2:=E.2.1,cn:=rfl
   n:=by have:=h.n;have:=h.h.C;show m.s.N.length<=_;unfold NmB at*;omega
   c3:=by have:=h.c3;dsimp only;omega
   cr:=by
    have q:(take m.n m.C).take b.length=(List.map chR<|b++[c]).take b.length:=by rw[p]
    rw[F2,G2 za,<-Gu,List.take_left] at q;exact q
   mks:=λx u=>(h.mks x<|by simp[u]).undo j (y.2.2 x u c zb).1 (y.2.2 x u c zb).2
   so:=y.1
   ok:=λx u=>h.ok x (by simp[u])}
  have z:0<=(b.length:Int)/\b.length<(m.n:Int):=za;rcases E.2.2 with⟨d,q,Z,F⟩|⟨l,v,d,D⟩
  .refine⟨0,{m with s:=xF m.s c.m1 c.m2,L:=c.lv,I:=imF c.im,n:=b.length,nf:=frF c.t,na:=c.ta},?_,.inl ⟨rfl,EQ _,b,c.im,{H with},?_⟩,zc⟩
   .refine acv (v24 ..) ?_;rw[U,V];exact zm (λq=>absurd (S0 q) za) λ_=>⟨z,⟨by rw[S3];omega,rfl,rfl⟩,⟨zc,z.1,za⟩,_,W,by show FV.L 2 c.lf=true;rw[d];rfl,zm (λq=>by have q:(decide (((FV.ses c.lf).length:Int)>0))=true:=q;rw[d] at q;cases q) λ_=>rrl⟩
   .let ⟨X,hw⟩:=h.a;exact⟨c.t,X,q,rfl,hw,Z.arg _,F⟩
  .let ⟨o,w,M,hp,h1⟩:=dw H D;rw[<-d] at M;refine⟨o,w,?_,hp,h1 v⟩;refine acv (v24 ..) ?_;rw[U,V]
   exact zm (λq=>absurd (S0 q) za) λ_=>⟨z,⟨by rw[S3];omega,rfl,rfl⟩,⟨zc,z.1,za⟩,_,W,by show FV.L 2 c.lf=true;rw[d];rfl,zm (λ_=>⟨(o,w),M,.refl _,rfl⟩) λq=>by
    have q:(decide (((FV.ses c.lf).length:Int)>0))=false:=q;rw[d] at q;cases l with
    |nil=>exact absurd rfl v
    |cons=>simp[FV.ses] at q⟩
def acW (k:Nat):List Ca->WV
 |[]=>.a<|.fz .N
 |x::l=>.a<|.osl k 2 0 (x::l).length
def acB:List Ca->List AObj
 |[]=> []
 |x::l=> [.arz 2<|(x::l).map caR]
def acN (k:Nat):List Ca->Nat
 |[]=>k
 |_::_=>k+1
def mf (nm ar k):∀(l) (i z),z∈selL nm ar k l i->∃(n:Nat) (c:Cd),z=i+n/\l[n]?=some c/\c.ar=ar
 |[],i,z,h=>by cases h
 |c::l,i,z,h=>by
  have e:z∈selL nm ar k l _->∃(n:Nat) (b:Cd),z=i+n/\(c::l)[n]?=some b/\b.ar=ar:=λh=>by let ⟨n,b,g,f,d⟩:=mf nm ar k l (i+1) z h;exact⟨n+1,b,za,zd,d⟩
  rw[selL] at h;split at h
  .rename_i q;rcases S4.1 h with rfl|h
   .simp[EN,Sw] at q;exact⟨0,c,za,rfl,q.2.1⟩
   .grind
  .grind
def fc_get {cs z c}(h:cs[z]?=some c):getD (FCs cs) z []=FC c/\z<(FCs cs).length:=by let ⟨b,_⟩:=EW.1 h;exact⟨by rw[kv];simp[getD,h],by rw[y3];exact b⟩
abbrev fcR (c:Cd):List FV:=[.str c.nm,.int .i64 c.ar,.int .i64 c.fr,.int .i64 c.vs,.int .i64 c.sl,.sl false 8<|FIs c.ins]
def A3 (x l y c)(h:y=caR c):take (x::l).length ((x::l).map caR)++[y]=(x::(l++[c])).map caR:=by rw[EV zb,h];simp
abbrev st9 (m:Ma)(zs:List Int)(i:Int)(acc:List Ca):St:=⟨[(4,.c<|.a<|.ep 7 1 0 0),(9,.c<|acW 8 acc),(56,aIs zs),(57,ci<|((IR zs).length)),(58,ci i)],numO 0<|mOb m<|.arr 1 [[.a<|.ep 0 14 0 0]]::acB acc,acN 8 acc⟩
def AY (m)(G:Gs)(n)(v:m.P=.sl false 6 (FCs G.P))(i:List Int)(A:∀z∈i,∃(j:Nat) (c:Cd),z=j/\G.P[j]?=some c/\CaOk n ⟨c,none⟩):∀(b a) (acc),i=a++b->acc.length+b.length<=10000000->i.length<=10000000->(∀x∈acc,CaOk n x)->
  ∃l:List Ca,(∀x∈l,CaOk n x)/\RPt EF 75 7 (.c<|qf<|.sl false 2<|l.map caR) (mOb m []) 9 (st9 m i a.length acc)
 |[],a,acc,d,o,h,u=>by
  have e:i=a:=zl d;have p:¬a.length<(((IR i).length):Int):=by rw[zD,e];omega
  refine⟨acc,u,?_⟩
  match acc with
  |[]=>exact rpv (v75_9a ..)<|bF p ⟨.c _ _<|.a _ _<|.fz _ _<|.N 2,rfl⟩
  |x::l=>refine rpv (v75_9b ..)<|bF p ⟨⟨rfl,zb⟩,?_⟩;rw[Sg,EV zb];exact rrl
 |z::b,a,acc,d,o,h,u=>by
  obtain⟨j,c,rfl,H,D⟩:=A z (by rw[d];simp);let ⟨J,K⟩:=fc_get H;have r:=fp a j b;rw[<-d] at r;have f:=ry a j b;rw[<-d] at f
  let ⟨l,F,g⟩:=AY m G n v i A b (a++[(j:Int)]) (acc++[⟨c,none⟩]) (by rw[d];simp) (by simp at o ⊢;omega) h (λx hx=>by
   rcases Sb.1 hx with hx|hx
   .exact u x hx
   .rw[Si.1 hx];exact D)
  refine⟨l,F,?_⟩;have L:a.length<=10000000:=by rw[d] at h;simp at h;omega
  have I:((a++[(j:Int)]).length)=wrap .i64 (a.length+1):=by rw[w64 za za];simp
  rw[I] at g;have w:getD (FV.ses m.P) (toNat<|FV.I<|getD [FV.int .i64 j] 0 FV.N) []=FC c:=by rw[v];exact J
  have el1:FV.L 6 m.P=true/\(0<=FV.I (getD [FV.int .i64 j] 0 FV.N)/\(FV.I (getD [FV.int .i64 j] 0 FV.N)<(((FV.ses m.P).length))/\fcR c=FC c)):=by rw[v];exact⟨rfl,Int.natCast_nonneg _,by show j<(((FCs G.P).length):Int);omega,(xE c).symm⟩
  have y:[FV.pt<|fcR c,FV.N]=caR ⟨c,none⟩:=by rw[caR,xE];rfl
  have C:0<=(a.length:Int):=za
  match acc,o,g with
  |[],_,g=>refine rpv (v75_9a ..) ?_;rw[r,w,FC0,FC1,FC2,FC3,FC4,FC5];refine bT f ⟨⟨rfl,C,f,rfl⟩,el1,EI _,zc,?_⟩;have g:RPt EF 75 7 (.c<|qf<|.sl false 2<|l.map caR) (mOb m []) 9 ⟨[(4,.c<|.a<|.ep 7 1 0 0),(9,.c<|.a<|.osl 8 2 0 1),(56,aIs i),(57,ci (((IR i).length:Nat):Int)),(58,ci<|wrap .i64<|(a.length:Int)+1)],numO 0<|mOb m [.arr 1 [[.a<|.ep 0 14 0 0]],.arz 2 [caR ⟨c,none⟩]],9⟩:=g;rw[<-y] at g;exact g
  |x::t,o,g=>refine rpv (v75_9b ..) ?_;rw[r,w,FC0,FC1,FC2,FC3,FC4,FC5];refine bT f ⟨⟨rfl,C,f,rfl⟩,el1,EI _,⟨zb,by simp at o ⊢;unfold zw;omega⟩,?_⟩;rw[A3 x t _ ⟨c,none⟩ y];have E:(x::t).length+1=(x::(t++[⟨c,none⟩])).length:=zb;rw[E];exact g
abbrev hpC (m:Ma)(nm:List UInt8)(ar:Int)(k:Key)(acc:List Ca):=numO 0<|mOb m<|.arr 1 [[.a<|.ep 0 14 0 0]]:: .arr 1 [[qf<|.str nm]]:: .arr 1 [[qi ar]]:: .arr 5 [[qf<|.bool k.any,qi k.k,qf<|.str k.nm,qi k.n,qi k.ar]]::acB acc
abbrev st1 (m:Ma)(nm:List UInt8)(ar:Int)(k:Key)(i:Im)(acc:List Ca):St:=⟨[(4,.c<|.a<|.ep 7 1 0 0),(5,.c<|.a<|.ep 8 1 0 0),(6,.c<|.a<|.ep 9 1 0 0),(7,.c<|.a<|.ep 10 5 0 0),(9,.c<|acW 11 acc),(10,.c<|qf<|imF i)],hpC m nm ar k acc,acN 11 acc⟩
abbrev st5 (m:Ma)(nm:List UInt8)(ar:Int)(k:Key)(i:Im)(zs:List Int)(j:Int)(acc:List Ca):St:=⟨[(4,.c<|.a<|.ep 7 1 0 0),(5,.c<|.a<|.ep 8 1 0 0),(6,.c<|.a<|.ep 9 1 0 0),(7,.c<|.a<|.ep 10 5 0 0),(9,.c<|acW 11 acc),(10,.c<|qf<|imF i),(33,aIs zs),(34,ci<|((IR zs).length)),(35,ci j)],hpC m nm ar k acc,acN 11 acc⟩
def pkC (cs_:List Cd)(s:SlO)(z:Int):List Ca:=match cs_[z.toNat]? with
 |some c=> [⟨c,s⟩]
 |none=> []
def nL (m nm ar k d s i r H)
  (o:List Int) (E:∀z∈o,∃(j:Nat) (c:Cd),z=j/\d[j]?=some c):∀(b a) (acc),o=a++b->acc.length+b.length<=10000000->o.length<=10000000->
  RPt EF 75 7 r H 1 (st1 m nm ar k i<|acc++b.flatMap (pkC d s))->RPt EF 75 7 r H 5 (st5 m nm ar k (.mk d s i) o a.length acc)
 |[],a,acc,f,v,p,u=>by
  have e:o=a:=zl f;have w:¬(a.length:Int)<(((IR o).length):Int):=by rw[zD,e];omega
  rw[List.flatMap_nil,S6] at u
  match acc,u with
  |[],u=>exact rpv (v75_5a ..)<|bF w <| zq rfl (zq rfl (zq (by cases i<;>rfl) u))
  |x::l,u=>exact rpv (v75_5b ..)<|bF w <| zq rfl (zq rfl (zq (by cases i<;>rfl) u))
 |z::b,a,acc,f,v,p,u=>by
  obtain⟨j,c,rfl,C⟩:=E z (by rw[f];simp);let ⟨J,M⟩:=fc_get C;have y:=fp a j b;rw[<-f] at y;have h:=ry a j b;rw[<-f] at h;have L:pkC d s j=[⟨c,s⟩]:=by rw[pkC,S3,C]
  rw[F0,L,<-SH] at u;have g:=nL m nm ar k d s i r H o E b (a++[(j:Int)]) (acc++[⟨c,s⟩]) (by rw[f];simp) (by simp at v ⊢;omega) p u;have N:a.length<=10000000:=by rw[f] at p;simp at p;omega
  have I:((a++[(j:Int)]).length:Int)=wrap .i64 ((a.length:Int)+1):=by rw[w64 za za];simp
  rw[I] at g;have A:getD (FV.ses<|getD (FV.prow<|imF<|.mk d s i) 0 FV.N) (toNat<|FV.I<|getD [FV.int .i64 j] 0 FV.N) []=FC c:=J
  have el1:FV.L 6 (getD (FV.prow<|imF<|.mk d s i) 0 FV.N)=true/\(0<=FV.I (getD [FV.int .i64 j] 0 FV.N)/\(FV.I (getD [FV.int .i64 j] 0 FV.N)<(((FV.ses<|getD (FV.prow<|imF<|.mk d s i) 0 FV.N).length))/\fcR c=FC c)):=
   ⟨rfl,Int.natCast_nonneg _,by show j<(((FCs d).length:Nat):Int);omega,(xE c).symm⟩
  have D:[FV.pt<|fcR c,slF s]=caR ⟨c,s⟩:=by rw[caR,xE]
  have F:(0:Int)<=(a.length:Int):=za
  match acc,v,g with
  |[],_,g=>
   refine rpv (v75_5a ..) ?_;rw[y,A,FC0,FC1,FC2,FC3,FC4,FC5];refine bT h ⟨⟨rfl,F,h,rfl⟩,zq rfl (zq rfl (zq rfl ⟨el1,zq rfl (zq rfl (zq (by match s with|none=>rfl|some []=>rfl|some _=>rfl) ⟨EI _,zc,?_⟩))⟩))⟩
   have g:RPt EF 75 7 r H 5 ⟨[(4,.c _),(5,.c _),(6,.c _),(7,.c _),(9,.c<|.a<|.osl 11 2 0 1),(10,.c<|qf<|imF<|.mk d s i),(33,aIs o),(34,ci<|((IR o).length)),(35,ci<|wrap .i64<|a.length+1)],
    numO 0 (mOb m<|.arr 1 [[.a<|.ep 0 14 0 0]]:: .arr 1 [[qf<|.str nm]]:: .arr 1 [[qi ar]]:: .arr 5 [[qf<|.bool k.any,qi k.k,qf<|.str k.nm,qi k.n,qi k.ar]]::[.arz 2 [caR ⟨c,s⟩]]),12⟩:=g
   rw[<-D] at g;exact g
  |x::t,v,g=>
   refine rpv (v75_5b ..) ?_;rw[y,A,FC0,FC1,FC2,FC3,FC4,FC5];refine bT h ⟨⟨rfl,F,h,rfl⟩,zq rfl (zq rfl (zq rfl ⟨el1,zq rfl (zq rfl (zq (by match s with|none=>rfl|some []=>rfl|some (_::_)=>rfl) ⟨EI _,⟨zb,by simp at v ⊢;unfold zw;omega⟩,?_⟩))⟩))⟩;have K:=A3 x t _ ⟨c,s⟩ D;have G:(x::t).length+1=(x::(t++[⟨c,s⟩])).length:=zb
   have g:RPt EF 75 7 r H 5 ⟨[(4,.c<|.a<|.ep 7 1 0 0),(5,.c<|.a<|.ep 8 1 0 0),(6,.c<|.a<|.ep 9 1 0 0),(7,.c<|.a<|.ep 10 5 0 0),(9,.c<|.a<|.osl 11 2 0 (x::(t++[⟨c,s⟩])).length),(10,.c<|qf<|imF<|.mk d s i),(33,aIs o),(34,ci (((IR o).length:Nat):Int)),(35,ci<|wrap .i64<|(a.length:Int)+1)],
    numO 0 (mOb m<|.arr 1 [[.a<|.ep 0 14 0 0]]:: .arr 1 [[qf<|.str nm]]:: .arr 1 [[qi ar]]:: .arr 5 [[qf<|.bool k.any,qi k.k,qf<|.str k.nm,qi k.n,qi k.ar]]::[.arz 2<|(x::(t++[⟨c,s⟩])).map caR]),12⟩:=g
   rw[<-K,<-G] at g;exact g
def XC (nm:List UInt8)(ar:Int)(E:List Ent):List (Int×Key):=match qm nm ar E with|some x=>x|none=> []
def KM (nm ar p x):∀E,XC nm ar (insT p x E)=if (nm==p.1&&(ar==p.2))=true then XC nm ar E++[x] else XC nm ar E
 |[]=>by
  simp only[insT,XC,qm,Gi];by_cases q:((nm==p.1)&&(ar==p.2))=true
  .rw[EL q];simp[q]
  .simp only[F5] at q;simp[q]
 |e::E=>by
  have ih:=KM nm ar p x E;by_cases b:((p.1==e.1)&&((p.2==e.2.1)&&true))=true
  .have g:p.1=e.1:=by simp at b;exact b.1
   have f:p.2=e.2.1:=by simp at b;exact b.2
   rw[insT,EL b];simp only[XC,qm,Gi,<-g,<-f];by_cases q:((nm==p.1)&&(ar==p.2))=true
   .simp[q]
   .simp only[F5] at q;simp[q]
  .rw[insT,EG b];by_cases d:((nm==e.1)&&((ar==e.2.1)&&true))=true
   .have g:nm=e.1:=by simp at d;exact d.1
    have f:ar=e.2.1:=by simp at d;exact d.2
    have h:¬((nm==p.1)&&(ar==p.2))=true:=by intro q;simp[EN,Sw] at q;apply b;rw[<-q.1,<-q.2,g,f];simp
    rw[EG h];simp only[XC,qm,d,S9]
   .simp only[XC,qm,d] at ih ⊢;exact ih
def newR (nm:List UInt8)(ar:Int):List Cd->Int->List (Int×Key)
 |[],_=> []
 |c::l,i=>if ((nm==c.nm)&&(ar==c.ar))=true then(i,xG c)::newR nm ar l (i+1) else newR nm ar l<|i+1
def fo (nm ar):∀(l) (i) (E),XC nm ar (tabT l i E)=XC nm ar E++newR nm ar l i
 |[],i,E=>by simp[tabT,newR]
 |c::l,i,E=>by rw[tabT,fo nm ar l _,KM,newR];split<;>simp
def sK (nm ar k):∀(l) (i),fitL k (newR nm ar l i)=selL nm ar k l i
 |[],i=>rfl
 |c::l,i=>by
  have ih:=sK nm ar k l<|i+1;have d:(nm==c.nm)=(c.nm==nm):=by rw[Gp];simp[Sw];exact eq_comm
  have b:(ar==c.ar)=(c.ar==ar):=by rw[Gp];simp[Sw];exact eq_comm
  rw[newR,selL,d,b];cases c.nm==nm<;>cases c.ar==ar<;>simp[SL,Sx,S5,S9,Sj,fitL,ih]
def selT_tab (nm ar k l):selT nm ar k (tabT l 0 [])=selL nm ar k l 0:=by have h:=fo nm ar l 0 [];rw[<-sK,show newR nm ar l 0=XC nm ar _ by rw[h];rfl];unfold selT XC;cases qm nm ar _<;>rfl
def aa:∀(l) (i) (E) (n),(∀e∈E,e.2.2.length<=n)->∀e∈tabT l i E,e.2.2.length<=n+l.length
 |[],i,E,n,h,e,b=>h e b
 |c::l,i,E,n,h,e,b=>by have:=aa l _ _ _ (K9 _ _ n E h) e b;simp[EH];omega
structure GOk (G:Gs):Prop where
 F:G.F<=33000
 l:G.P.length<=20
 c:∀c∈G.P,CdOk c/\c.fr=0
 t:G.T=npF\/G.T=.pt [.mp<|tabZ<|tabT G.P 0 []]
abbrev oC1 (m:Ma)(nm:List UInt8)(ar:Int)(k:Key):=[.arr 1 [[.a<|.ep 1 14 0 0]],moO 2 7 m,hpO 3 4 5 6 m.s,.arz 5<|CR m.s.C,.arz 7<|TR m.s.T,.arz 1<|NR m.s.N,.mapz<|NM m.s.N 0,.arz 10 m.C,.arr 1 [[qf<|.str nm]],.arr 1 [[qi ar]],
 .arr 5 [[qf<|.bool k.any,qi k.k,qf<|.str k.nm,qi k.n,qi k.ar]]]
def c_cand1 {G}(d:GOk G)(m)(i:m.P=.sl false 6 (FCs G.P))(b:m.T=G.T)(nm ar k):AC EF 118 [.c<|.a<|.ep 0 1 0 0,.c<|.a<|.ep 8 1 0 0,.c<|.a<|.ep 9 1 0 0,.c<|.a<|.ep 10 5 0 0] (oC1 m nm ar k) (aIs<|selL nm ar k G.P 0) (oC1 m nm ar k):=by
 have o:=d.l;have g:=c_isel G.P za (λc h=>(d.c c h).1.2.1) nm ar k;have f:=c_itsel _ (λe j=>by have:=aa G.P 0 [] 0 zb e j;omega) nm ar k;rw[selT_tab] at f;rw[aCs,<-i] at g;refine acv (v118 ..) ?_;rw[b];rcases d.t with e|e<;>rw[e]
 .exact bP ⟨_,g,.refl _,by rw[<-e,<-b];rfl⟩
 .exact bN <| zq rfl ⟨_,f,.refl _,by rw[<-e,<-b];rfl⟩
def sel_ok {b s nm}{n:Nat}{k}(f:∀c∈b,CdOk c/\c.fr<=((slL s).length))(h:(slL s).length<=4096):
  ∀z∈selL nm n k b 0,∃(j:Nat) (c:Cd),z=j/\b[j]?=some c/\CaOk n ⟨c,s⟩:=λz g=>by
 let ⟨j,c,i,d,m⟩:=mf nm n k b 0 z g;have e:=Sl d;exact⟨j,c,za,d,(f c e).1,(f c e).2,h,zk⟩
def Es {G}(p:GOk G)(m)(v:m.P=.sl false 6 (FCs G.P))(D:m.T=G.T)(nm n k):∀(i) (acc),ImOk i->acc.length+300*imD i<=9950000->(∀x∈acc,CaOk n x)->
  ∃l:List Ca,(∀x∈l,CaOk n x)/\RPt EF 75 7 (.c<|qf<|.sl false 2<|l.map caR) (mOb m []) 1 (st1 m nm n k i acc)
 |.nil,acc,A,C,y=>by
  have e:=c_cand1 p m v D nm n k;have g:=JA nm n k G.P 0;have K:=p.l;let ⟨l,u,f⟩:=AY m G n v (selL nm n k G.P 0) (sel_ok (s:=none) (λc e=>⟨(p.c c e).1,by rw[(p.c c e).2];simp[slL]⟩)<|by simp[slL]) _ [] acc rfl za za y;refine⟨l,u,?_⟩
  match acc,f with
  |[],f=>exact rpv (v75_1a ..)<|bP ⟨_,e,rfl,f⟩
  |x::t,f=>exact rpv (v75_1b ..)<|bP ⟨_,e,rfl,f⟩
 |.mk d s i,acc,A,C,y=>by
  let ⟨i1,i2,I,E⟩:=A;have e:=c_isel d i2 (λc e=>(i1 c e).1.2.1) nm n k;have g:=JA nm n k d 0;have ok:=sel_ok (nm:=nm) (n:=n) (k:=k) i1 I;simp[imD] at C
  have F:∀h:List Int,(h.flatMap<|pkC d s).length<=h.length:=λh=>by
   induction h with
   |nil=>exact EI _
   |cons z h ih=>
    rw[F0,EJ,EH];have:(pkC d s z).length<=1:=by unfold pkC;split<;>simp
    omega
  have J:=F<|selL nm n k d 0
  let ⟨l,u,f⟩:=Es p m v D nm n k i (acc++(selL nm n k d 0).flatMap (pkC d s)) E (by rw[EJ];omega) λx hx=>by
   rcases Sb.1 hx with hx|hx
   .exact y x hx
   .let ⟨z,r,hx⟩:=List.mem_flatMap.1 hx;obtain⟨j,c,rfl,H,w⟩:=ok z r;rw[pkC,S3,H] at hx;rw[Si.1 hx];exact w
  refine⟨l,u,?_⟩;have o:=nL m nm n k d s i _ _ (selL nm n k d 0) (λz r=>let ⟨j,c,a,b,_⟩:=ok z r;⟨j,c,a,b⟩) _ [] acc rfl za za f
  match acc,o with
  |[],o=>exact rpv (v75_1a ..)<|bN <| zq rfl (zq rfl (zq rfl (zq rfl ⟨_,e,rfl,o⟩)))
  |x::t,o=>exact rpv (v75_1b ..)<|bN <| zq rfl (zq rfl (zq rfl (zq rfl ⟨_,e,rfl,o⟩)))
def c_cand {G}(b:GOk G){K m f i}(h:Bs G K m f i)(nm n k):
  ∃l:List Ca,(∀x∈l,CaOk n x)/\AC EF 75 [aM,cs nm,ci n,aK k] (mOb m []) (.c<|qf<|.sl false 2<|l.map caR) (mOb m []):=by
 have j:=h.i2;have o:=h.f0;have g:=b.F;let ⟨l,d,e⟩:=Es b m h.P h.T nm n k i [] h.i1 zj zb;refine⟨l,d,acv (v75 ..) ?_⟩;rw[h.I];exact e
def Hq (K:Nat)(s s':Hp):=OkH s'/\GoodZ s'/\LtZ s s'/\NmB K s'/\(IH s->IH s')
def LtZ.refl (s):LtZ s s:=⟨EI _,[],zb⟩
def Hq.up {K K' s b}(h:Hq K s b)(d:K<=K'):Hq K' s b:=⟨h.1,h.2.1,h.2.2.1,by have:=h.2.2.2.1;unfold NmB at*;omega,h.2.2.2.2⟩
def Mv.hq {s b K}(h:Mv true s b)(g:GoodZ s)(ok:OkH b)(n:NmB K b):Hq K s b:=⟨ok,(h.later g).1,⟨(h.later g).2.1,(h.later g).2.2.imp λ_ h=>h.1⟩,n,h.ih⟩
def Bs.hq {G K K' m e i}(h:Bs G K m e i){s f}(b:Hq K' m.s s)(f0:0<=f)(g:f<=m.f):Bs G K' {m with s:=s,f:=f} e i:=
 ⟨b.1,b.2.1,b.2.2.2.1,b.2.2.2.2 h.ih,h.S,h.P,h.T,h.V,h.o,f0,by have:=h.f1;dsimp only;omega,h.I,h.i1,by have:=h.i2;dsimp only;omega,h.a,h.cn,h.c3,h.cr,λc d=>(h.mks c d).later b.2.2.1,h.so,λc d=>(h.ok c d).less g⟩
def vm {G K m d i}(h:Bs G K m d i){l e F}(b:e≠0)(j:m.f<=F):Po G K F (yw m l e).1 (yw m l e).2:=by
 by_cases g:e=170
 .rw[yw,EG b,EL g];exact .inr<|.inl ⟨rfl,j,d,i,h⟩
 .exact .inr<|.inr<|ke b g
def encS_ok (V s t)(ok:OkH s):OkH (encS V s t).2/\∃d e,(encS V s t).2=⟨s.C++d,s.T,s.M,s.L,s.N++e⟩/\((encS V s t).1.2=0->e.length<=d.length)/\e.length<=d.length+1048577:=by
 unfold encS;split
 .exact⟨ok,[],[],zb,zb,zb⟩
 .let ⟨g,d,e,b,f⟩:=vP V t s;have o:=g ok;have hd:d.length<=1048576:=by have:=o.C;rw[b] at this;simp at this;omega
  split
  .refine⟨⟨?_,o.M,o.T,o.L⟩,[],e,by rw[b];simp,λq=>by rename_i w;exact absurd q w,?_⟩
   .simp[S8];have:=ok.C;omega
   .split at f<;>simp<;>omega
  next w=>rw[EL<|zl w] at f;exact⟨o,d,e,b,λ_=>zl f,za⟩
def encS_hq (V s t)(o:tmI t)(ok:OkH s)(g:GoodZ s){K}(n:NmB K s):Hq (K+1048577) s (encS V s t).2/\((encS V s t).1.2=0->Hq K s (encS V s t).2):=by
 let ⟨f,d,e,m,p,r⟩:=encS_ok V s t ok;have b:=λq=>(nO V s t o).ih q;rw[m] at f b ⊢;have h:GoodZ ⟨s.C++d,s.T,s.M,s.L,s.N++e⟩:=λx j=>by have:=g x j;simp[EJ];omega
 have i:LtZ s ⟨s.C++d,s.T,s.M,s.L,s.N++e⟩:=⟨zb,[],zb⟩;unfold NmB at n;exact⟨⟨f,h,i,by unfold NmB;simp[EJ];omega,b⟩,λq=>⟨f,h,i,by have:=p q;unfold NmB;simp[EJ];omega,b⟩⟩
def c_EncS (K)(b:K<=100000000000)(v t)(d:t.sz<=B)(s)(ok:OkH s)(nm:NmB K s):∃V,AC EF 114 [aH 0,aT t,.c<|qf<|slF v] (oH s) (t2 (encS V s t).1) (oH' (encS V s t).2):=by
 match v with
 |none=>exact⟨none,c_EncA K b t d s ok nm⟩
 |some []=>exact⟨some [],(c_EncB K b [] t d s ok nm).args ⟨.refl _,.refl _,.c _ _<|.a _ _<|.fz _ _<|.z0 _ _,trivial⟩⟩
 |some (x::l)=>exact⟨some _,c_EncB K b _ t d s ok nm⟩
def jsW (k:Nat):List Int->WV
 |[]=>.a<|.fz .N
 |x::l=>.a<|.osl k 1 0 (x::l).length
def jsB:List Int->List AObj
 |[]=> []
 |x::l=> [.arz 1<|IR<|x::l]
def jsN (k:Nat):List Int->Nat
 |[]=>k
 |_::_=>k+1
abbrev tJs (js:List Int)(e:Int):TV:=.tup [(false,[qf<|.sl false 1<|IR js]),(false,[qi e])]
def leJs (e):TV.Le (.tup [(false,[qf .N]),(false,[qi e])]) (tJs [] e):=Zr ⟨⟨rfl,.a _ _<|.fz _ _<|.N 1,trivial⟩,lwR _,trivial⟩
abbrev stJ (m:Ma)(ts:List Tm)(s:Hp)(n:Int)(js:List Int):St:=⟨[(0,aM),(6,.c<|jsW 11 js),(11,.c<|qf<|.sl false 4<|FTs ts),(12,ci<|((FTs ts).length)),(13,ci n)],numO 0<|mSb {m with s:=s}<|jsB js,jsN 11 js⟩
def js_snoc (x l y):take (x::l).length (IR<|x::l)++[[.int .i64 y]]=IR (x::(l++[y])):=Xd _ y
def Hq.trans {K K' a b c}(h:Hq K a b)(g:Hq K' b c):Hq K' a c:=by let ⟨_,_,⟨r,D,d⟩,_,i⟩:=h;let ⟨o,e,⟨p,E,j⟩,f,m⟩:=g;exact⟨o,e,⟨za,D++E,by rw[j,d,SH]⟩,f,λq=>m<|i q⟩
def sA (K)(U:K<=100000000000)(m c v b d k a)(r:m.nf=frF (.mk c v b d k a))(y)(M:y.length<=1000000):∀(F f) (o) (s),y=f++F->(∀t∈F,t.sz<=B/\tmI t)->o.length=f.length->OkH s->GoodZ s->NmB K s->
  ∃(p:List Int) (e:Int) (G:Hp),Hq (K+1048577) s G/\(e=0->Hq K s G/\p.length=y.length)/\RPt EF 72 7 (tJs p e) (mSb {m with s:=G} []) 1 (stJ m y s f.length o)
 |[],f,o,s,j,_,C,ok,O,nm=>by
  have e:y=f:=zl j;have H:¬f.length<(((FTs y).length):Int):=by rw[zn,e];omega
  have W:Hq K s s:=⟨ok,O,.refl s,nm,id⟩;refine⟨o,0,s,W.up za,λ_=>⟨W,by rw[C,e]⟩,?_⟩
  match o with
  |[]=>exact rpv (rg ..)<|bF H ⟨leJs 0,rfl⟩
  |x::l=>refine rpv (rh ..)<|bF H ⟨⟨rfl,by simp[IR]⟩,?_⟩;rw[Sg,EV<|by simp[IR]];exact rrl
 |t::F,f,o,s,j,N,C,ok,O,nm=>by
  have A:FV.isPt m.nf=true:=by rw[r];rfl
  have J:shpB [.N] (drop 1<|FV.prow m.nf)=true:=by rw[r];match v with|none=>rfl|some []=>rfl|some _=>rfl
  have a3:getD (drop 1<|FV.prow m.nf) 0 FV.N=slF v:=by rw[r];rfl
  have S:f.length<=1000000:=by rw[j] at M;simp at M;omega
  have i:f.length<(((FTs y).length):Int):=by rw[zn,j];simp;omega
  have L:0<=(f.length:Int):=za;have I:=wy f t F;let ⟨V,g⟩:=c_EncS K U v t (N t ET).1 s ok nm;rw[<-a3,<-vW f t F] at g;rw[<-j] at I g;let ⟨Y,D⟩:=encS_hq V s t (N t ET).2 ok O nm;generalize encS V s t=z at*;by_cases q:z.1.2=0
  .have D:=D q;let ⟨p,e,G,g1,T,E⟩:=sA K U m c v b d k a r y M F (f++[t]) (o++[z.1.1]) z.2 (by rw[j];simp) (λu hu=>N u<|EP _ hu) (by simp[C]) D.1 D.2.1 D.2.2.2.1;refine⟨p,e,G,D.trans g1,λh=>⟨D.trans (T h).1,(T h).2⟩,?_⟩;have X:((f++[t]).length)=wrap .i64 (f.length+1):=by rw[w64 za za];simp
   rw[X] at E
   match o,C,E with
   |[],C,E=>exact rpv (rg ..)<|bT i ⟨⟨rfl,L,i,I⟩,zq A<|zq A<|zq J ⟨z,g,zm (λw=>by rw[q] at w;cases w) λ_=>⟨EI _,zc,E⟩⟩⟩
   |x::l,C,E=>refine rpv (rh ..)<|bT i ⟨⟨rfl,L,i,I⟩,zq A<|zq A<|zq J ⟨z,g,zm (λw=>by rw[q] at w;cases w) λ_=>⟨EI _,⟨by simp[IR],by simp at C ⊢;unfold zw;omega⟩,?_⟩⟩⟩;rw[js_snoc x l z.1.1];have Z:(x::l).length+1=(x::(l++[z.1.1])).length:=zb;rw[Z];exact E
  .refine⟨[],z.1.2,z.2,Y,λh=>absurd h q,?_⟩
   match o with
   |[]=>exact rpv (rg ..)<|bT i ⟨⟨rfl,L,i,I⟩,zq A<|zq A<|zq J ⟨z,g,zm (λ_=>⟨leJs _,rfl⟩) λw=>absurd (zl w) q⟩⟩
   |x::l=>exact rpv (rh ..)<|bT i ⟨⟨rfl,L,i,I⟩,zq A<|zq A<|zq J ⟨z,g,zm (λ_=>⟨leJs _,rfl⟩) λw=>absurd (zl w) q⟩⟩
def Jf {G K}(y:K<=100000000000){m r i}(h:Bs G K m r i){c v b d k a}(p:m.nf=frF (.mk c v b d k a))(f)(u:f.length<=1000000)(z:∀t∈f,t.sz<=B/\tmI t):
  ∃(o:List Int) (e:Int) (j:Hp),Hq (K+1048577) m.s j/\(e=0->Hq K m.s j/\o.length=f.length)/\AC EF 72 [aM,.c<|qf<|.sl false 4<|FTs f] (mOb m []) (tJs o e) (mSb {m with s:=j} []):=by
 let ⟨o,e,j,A,w,x⟩:=sA K y m c v b d k a p f u f [] [] m.s rfl z rfl h.h h.g h.n;exact⟨o,e,j,A,w,acv (v72 ..) ⟨rfl,x⟩⟩
def xv (m l e):AC EF 23 [aM,ci l,ci e] (mOb m []) (ci (yw m l e).1) (mOb { (yw m l e).2 with s:=m.s,C:=m.C} []):=by rw[y5];exact aD m l e
def sr (m l):yw m l 0=(0,{m with f:=l}):=rfl
def jk {m l e}(d:e≠0):(yw m l e).1≠0:=by
 by_cases b:e=170
 .simp[yw,b]
 .rw[(ke d b).1];decide
def rk {s}(a){f K}(ok:OkH s)(g:GoodZ s)(n:NmB K s)(f0:0<=f)(h:f<=100000000):Hq K s (yK s a f).2/\0<=(yK s a f).1.2.1/\(yK s a f).1.2.1<=f:=by
 have b:=Ke s a f f0;let ⟨e,_,d⟩:=pB s a f ok f0 h;refine⟨Mv.hq b.up g e<|b.nm n,?_,d⟩;unfold yK;split
 .exact EQ _
 .exact(Mvr.head (s0:=s) _ (r:=⟨s,f,0⟩) a ⟨.refl s,f0,by show 0≠170;decide⟩).2.1
abbrev tKo (k:Key)(o:Int):TV:=.tup [(true,[qf<|.bool k.any,qi k.k,qf<|.str k.nm,qi k.n,qi k.ar]),(false,[qi o])]
def c_key {G K m w i}(h:Bs G K m w i)(a):∃(k:Key) (o:Int) (d:Ma),AC EF 76 [aM,ci a] (mOb m []) (tKo k o) (mSb d [])/\(o≠0->Po G K m.f o d)/\(o=0->d.f<=m.f/\Bs G K d w i):=by
 have f0:=h.f0;have F:=h.f1;have j:=cQ m.s a m.f h.h za za;let ⟨x,E,v⟩:=rk a h.h h.g h.n f0 za;generalize yK m.s a m.f=z at*;let ⟨⟨⟨hd,xs⟩,left,e⟩,b⟩:=z;dsimp only at x E v j;have p:=xv {m with s:=b} left e;by_cases A:e=0
 .subst A;have D:=h.hq x E v;have r:=wY b hd;have u:=Kp b (zB b.C hd).a
  have fin:∀k,AC EF 76 [aM,ci a] (mOb m []) (tKo k 0) (mSb {m with s:=b,f:=left} [])->∃(k:Key) (o:Int) (d:Ma),AC EF 76 [aM,ci a] (mOb m []) (tKo k o) (mSb d [])/\(o≠0->Po G K m.f o d)/\(o=0->d.f<=m.f/\Bs G K d w i):=
   λk h=>⟨k,0,_,h,λq=>absurd rfl q,λ_=>⟨v,D⟩⟩
  by_cases t0:(zB b.C hd).t=0
  .refine fin ⟨false,0,uP b.N (zB b.C hd).a,0,xs.length⟩<|acv (v76 ..) ⟨(hd,xs,left,0,b),j,_,p,bN ⟨rfl,_,_,_,_,_,_,r,zm (λ_=>⟨_,u,?_,rfl⟩) λq=>by simp[t0] at q⟩⟩;rw[zD];exact .refl _
  .by_cases y:(zB b.C hd).t=1
   .refine fin ⟨false,1,[],(zB b.C hd).a,xs.length⟩<|acv (v76 ..) ⟨(hd,xs,left,0,b),j,_,p,bN ⟨rfl,_,_,_,_,_,_,r,zm (λq=>by simp[y] at q) λ_=>zm (λ_=>⟨?_,rfl⟩) λq=>by simp[y] at q⟩⟩;rw[zD];exact .refl _
   .by_cases t2:(zB b.C hd).t=2
    .refine fin ⟨false,2,[],(zB b.C hd).a,xs.length⟩<|acv (v76 ..) ⟨(hd,xs,left,0,b),j,_,p,bN ⟨rfl,_,_,_,_,_,_,r,zm (λq=>by simp[t2] at q) λ_=>zm (λq=>by simp[t2] at q) λ_=>zm (λ_=>⟨?_,rfl⟩) λq=>by simp[t2] at q⟩⟩;rw[zD];exact .refl _
    .exact fin ⟨true,0,[],0,0⟩<|acv (v76 ..) ⟨(hd,xs,left,0,b),j,_,p,bN ⟨rfl,_,_,_,_,_,_,r,zm (λq=>by simp[t0] at q) λ_=>zm (λq=>by simp[y] at q) λ_=>zm (λq=>by simp[t2] at q) λ_=>rrl⟩⟩
 .have D:=h.hq x f0<|EQ _;have u:=jk (m:={m with s:=b}) (l:=left) A;refine⟨⟨false,0,[],0,0⟩,(yw {m with s:=b} left e).1,(yw {m with s:=b} left e).2,?_,λ_=>vm D A<|EQ _,λq=>absurd q u⟩;refine acv (v76 ..) ⟨(hd,xs,left,e,b),j,_,p,zm (λ_=>⟨.refl _,?_⟩) λq=>absurd (zl q) u⟩;exact SJ (λz=>mSb z [])<|y5 (m:={m with s:=b})
def fc (t)(h:t.sz<=100000):(zo t).2.length<=1000000:=by
 have d:=Tm.szs_length t.l;have b:=t.sz_eq;unfold zo;split
 .simp[List.length_drop];omega
 .exact SQ _
def KV (t:Tm)(h:t.sz<=B)(d:tmI t):∀u∈(zo t).2,u.sz<=B/\tmI u:=by
 have e:=t.sz_eq;unfold zo;split
 .intro u b;have:=Tm.szs_mem<|GB b;exact⟨za,i9 d u<|GB b⟩
 .simp
def mT {G:Gs}(hG:GOk G){K:Nat}(hK:K<=100000000000){m:Ma}{I:List Ch}{i:Im}(h:Bs G K m I i){c:Cd}{v:SlO}{b d:Int}{k:Fr}{a:Int}(hnf:m.nf=frF (.mk c v b d k a))(t:Tm)(hz:t.sz<=100000)(hi:tmI t)(W:Fr)(ba:Int){q:Nat}(X:Pc none W ba q)(hq:q<=imD i):
  ∃o p,AC EF 44 [aM,aT t,aPl W ba] (mOb m []) (ci o) (mSb p [])/\Po G (K+1048577) m.f o p:=by
 have f0:=h.f0;have L:=vM t (by simp only[B];omega);obtain⟨j,e,u,g1,g2,J⟩:=Jf hK h hnf (zo t).2 (fc t hz)<|KV t (by simp only[B];omega) hi;obtain⟨E,F,D,C⟩:=t;by_cases he:e=0
 .subst he;obtain⟨g2,_⟩:=g2 rfl;have H:Bs G K {m with s:=u} I i:=h.hq g2 f0<|EQ _;obtain⟨l,hl,r⟩:=c_cand hG H (zo<|.mk E F D C).1.s (IR j).length ⟨true,0,[],0,0⟩;obtain⟨o,p,V,hp,_⟩:=dw H (A:=.sl false 1<|IR j) (b:=W) (ba:=ba) (l:=l) ⟨j,rfl,by rw[zD] at hl;exact hl,q,X,hq⟩;have up:∀ {o p},Po G K m.f o p->Po G (K+1048577) m.f o p:=λh=>h.imp (λ⟨a,b,I,i,h,g⟩=>⟨a,b,I,i,h.up za,g⟩) λh=>h.imp (λ⟨a,b,I,i,h⟩=>⟨a,b,I,i,h.up za⟩) id;have hT:m.T=npF\/m.T.isPt=true:=by
   rw[h.T];rcases hG.t with e|e<;>rw[e]
   .exact .inl rfl
   .exact .inr rfl
  rcases hT with hT|hT
  .refine⟨o,p,acv (v44 ..) ?_,up hp⟩;exact⟨zo (.mk E F D C),L,((j,0),{m with s:=u}),J,zm (λq=>by cases q) λ_=>⟨rfl,_,r,zm (λ_=>⟨(o,p),V,.refl _,rfl⟩) λq=>by have q:FV.isNp m.T=false:=q;rw[hT] at q;cases q⟩⟩
  .have w:¬FV.isNp m.T=true:=by rw[Xb hT];simp[FV.isNp]
   by_cases hj:j=[]
   .subst hj;refine⟨o,p,acv (v44 ..) ?_,up hp⟩;exact⟨zo<|.mk E F D C,L,(([],0),{m with s:=u}),J,bN ⟨rfl,_,r,zm (λq=>absurd q w) λ_=>zq hT ⟨rfl,bP ⟨(o,p),V,.refl _,rfl⟩⟩⟩⟩
   .by_cases U:l=[]
    .subst U;refine⟨o,p,acv (v44 ..) ?_,up hp⟩;exact⟨zo<|.mk E F D C,L,((j,0),{m with s:=u}),J,bN ⟨rfl,_,r,zm (λq=>absurd q w) λ_=>zq hT ⟨rfl,zm (λ_=>⟨(o,p),V,.refl _,rfl⟩) λ_=>⟨rfl,bP ⟨(o,p),V,.refl _,rfl⟩⟩⟩⟩⟩
    .obtain⟨x,j,rfl⟩:=List.exists_cons_of_ne_nil hj;obtain⟨y,l,rfl⟩:=List.exists_cons_of_ne_nil U;obtain⟨ky,o2,Z,M,p1,p2⟩:=c_key H<|FV.I<|getD (getD (IR<|x::j) 0 []) 0 FV.N;have n1:∀ {q:Prop},(((((IR<|x::j).length:Nat):Int):Int)==0)=true->q:=λq=>by simp[IR] at q<;>omega
     have n2:∀ {q:Prop},((((((y::l).map caR).length:Nat):Int):Int)==0)=true->q:=λq=>by simp at q<;>omega
     have q1:(0:Int)<(((IR<|x::j).length:Nat):Int):=by simp[IR]<;>omega
     by_cases ho:o2=0
     .subst ho;obtain⟨p3,N⟩:=p2 rfl;obtain⟨l2,O,S⟩:=c_cand hG N (zo<|.mk E F D C).1.s (IR<|x::j).length ky;obtain⟨o3,Y,ht3,hp3,_⟩:=dw N (A:=.sl false 1<|IR<|x::j) (b:=W) (ba:=ba) (l:=l2) ⟨x::j,rfl,by rw[zD] at O;exact O,q,X,hq⟩;have hp4:Po G K m.f o3 Y:=hp3.imp (λ⟨a,b,h⟩=>⟨a,by dsimp only at p3;omega,h⟩) λh=>h.imp (λ⟨a,b,h⟩=>⟨a,by dsimp only at p3;omega,h⟩) id;refine⟨o3,Y,acv (v44 ..) ?_,up hp4⟩;exact⟨zo<|.mk E F D C,L,((x::j,0),{m with s:=u}),J,bN ⟨rfl,_,r,zm (λq=>absurd q w) λ_=>zq hT ⟨rfl,zm n1 λ_=>⟨rfl,zm n2 λ_=>⟨⟨rfl,EQ _,q1,rfl⟩,((ky,0),Z),M,bN ⟨rfl,_,S,(o3,Y),ht3,.refl _,rfl⟩⟩⟩⟩⟩⟩
     .refine⟨o2,Z,acv (v44 ..) ?_,up<|p1 ho⟩;exact⟨zo<|.mk E F D C,L,((x::j,0),{m with s:=u}),J,bN ⟨rfl,_,r,zm (λq=>absurd q w) λ_=>zq hT ⟨rfl,zm n1 λ_=>⟨rfl,zm n2 λ_=>⟨⟨rfl,EQ _,q1,rfl⟩,((ky,o2),Z),M,zm (λ_=>rrl) λq=>absurd (zl q) ho⟩⟩⟩⟩⟩
 .have X:Bs G (K+1048577) {m with s:=u} I i:=h.hq g1 f0<|EQ _;refine⟨_,_,acv (v44 ..) ?_,vm (l:=m.f) X he<|EQ _⟩;refine⟨zo<|.mk E F D C,L,((j,e),{m with s:=u}),J,zm (λ_=>⟨yw {m with s:=u} m.f e,xv _ _ _,.refl _,?_⟩) λq=>absurd (zl q) he⟩;exact SJ (λz=>mSb z [])<|y5 (m:={m with s:=u})
def NmB.of {K D K2 s t}(h:NmB K s)(b:t.N.length=s.N.length)(e:s.C.length<=D+t.C.length)(d:K+D<=K2):NmB K2 t:=by unfold NmB at*;omega
def all_hq {K s}(i:GoodZ s)(ok:OkH s)(nm:NmB K s)(g:IH s)(a b){f}(f0:0<=f)(F:f<=100000):Hq (K+2097154) s (allZ s a b f).2/\0<=(allZ s a b f).1.1/\(allZ s a b f).1.1<=f:=by
 have j:OkW K ⟨s,f⟩:=⟨ok,f0,zd,nm,g⟩;have r:=dW f.toNat (a.zip b) j za;unfold allZ;generalize runZ f.toNat ⟨s,f⟩ _=z at*;split
 .exact⟨⟨ok,i,.refl s,by unfold NmB at*;dsimp only;omega,id⟩,EQ _,f0⟩
 .have d:=r.mv.later i;split
  .let ⟨x,w⟩:=d.2.back;have v:=r.mv.len;have A:=r.h.C;have mN:=r.m;refine⟨⟨⟨zd,?_,by rw[w];exact ok.T,?_⟩,?_,⟨zd,[],zd⟩,?_,?_⟩,EQ _,f0⟩
   .show z.2.s.M<=_;rw[v.2.1];exact ok.M
   .show z.2.s.L<=_;rw[v.2.2];exact ok.L
   .intro e u;rw[w] at u;rw[x];exact i e u
   .exact mN.of (D:=1048576) rfl za za
   .refine λ_=>⟨λc E=>g.1 c ?_,λe u=>g.2 e ?_⟩
    .grind
    .grind
  .have y:=r.m;have o:=r.f0;have p:=r.f1;exact⟨⟨r.h,d.1,⟨d.2.1,d.2.2.imp λ_ h=>h.1⟩,y.of (D:=0) rfl zb za,r.mv.ih⟩,o,p⟩
def Po.up {G K K' F F' o m}(h:Po G K F o m)(e:K<=K')(f:F<=F'):Po G K' F' o m:=
 h.imp (λ⟨a,b,d,i,h,g⟩=>⟨a,za,d,i,h.up e,g⟩) λh=>h.imp (λ⟨a,b,d,i,h⟩=>⟨a,za,d,i,h.up e⟩) id
def bD {G K}(D:K<=100000000000){m y i}(h:Bs G K m y i)(v:Go {m with na:=wrap .i64 (m.na+1)} i)(a b):
  ∃o x,AC EF 73 [aM,ci a,ci b] (mOb m []) (ci o) (mSb x [])/\Po G (K+2097154) m.f o x:=by
 have f0:=h.f0;have F:=h.f1;have u:=c_hUnify m.s a b m.f<|c_hAllL K D m.s h.g h.h h.n h.ih [a] [b] m.f zb zb f0 za;let ⟨r,C,p⟩:=all_hq h.g h.h h.n h.ih [a] [b] f0 za;generalize allZ m.s [a] [b] m.f=z at*;let ⟨⟨left,e⟩,d⟩:=z;dsimp only at r C p u;have A:=xv {m with s:=d} left e;by_cases w:e=0
 .subst w;have j:=h.hq r C p;refine⟨0,{m with s:=d,f:=left,na:=wrap .i64 _},acv (v73 ..) ?_,.inl ⟨rfl,p,y,i,{j with},v⟩⟩;exact⟨(left,0,d),u,_,A,bP rrl⟩
 .have j:=h.hq r f0<|EQ _;have E:=jk (m:={m with s:=d}) (l:=left) w;refine⟨_,_,acv (v73 ..) ?_,vm (l:=left) j w<|EQ _⟩;exact⟨(left,e,d),u,_,A,zm (λq=>absurd (zl q) E) λ_=>⟨.refl _,SJ (λz=>mSb z [])<|y5 (m:={m with s:=d})⟩⟩
def c_equal {G:Gs}{K:Nat}(S:K+2097154<=100000000000){m:Ma}{u:List Ch}{i:Im}(h:Bs G K m u i){c:Cd}{v:SlO}{b d:Int}{k:Fr}{a:Int}(A:m.nf=frF (.mk c v b d k a))(w:Go {m with na:=wrap .i64 (m.na+1)} i)(p:List Tm)(O:p.length=2)(M:∀t∈p,t.sz<=B/\tmI t):
  ∃o j,AC EF 45 [aM,.c<|qf<|.sl false 4<|FTs p] (mOb m []) (ci o) (mSb j [])/\Po G (K+2097154) m.f o j:=by
 have f0:=h.f0;obtain⟨D,e,g,J,H,F⟩:=Jf za h A p za M;by_cases C:e=0
 .subst C;obtain⟨I,E⟩:=H rfl;clear H;rw[O] at E
  match D,E with
  |[x,y],_=>
   have r:Bs G K {m with s:=g} u i:=h.hq I f0<|EQ _;obtain⟨o,j,N,L⟩:=bD za r w x y;refine⟨o,j,acv (v45 ..) ?_,L⟩;exact⟨(([x,y],0),{m with s:=g}),F,bN ⟨⟨rfl,zc,by show(0:Int)<2;decide,rfl⟩,⟨rfl,zc,by show(1:Int)<2;decide,rfl⟩,(o,j),N,.refl _,rfl⟩⟩
 .have r:Bs G (K+1048577) {m with s:=g} u i:=h.hq J f0<|EQ _;refine⟨_,_,acv (v45 ..) ?_,(vm (l:=m.f) r C<|EQ _).up za<|EQ _⟩;exact⟨((D,e),{m with s:=g}),F,zm (λ_=>⟨yw {m with s:=g} m.f e,xv _ _ _,.refl _,SJ (λz=>mSb z [])<|y5 (m:={m with s:=g})⟩) λq=>absurd (zl q) C⟩
abbrev aIn (x:In1):TV:=.agg [qi x.k,qi x.a,qi x.t.k,qf<|.str x.t.s,qi x.t.n,qf<|.sl false 4<|FTs x.t.l,qf<|.sl false 4<|FTs x.l,qf<|.sl false 6<|FCs x.c]
def iE {G:Gs}{K:Nat}(hK:K+2097154<=100000000000){m:Ma}{F:List Ch}{i:Im}(h:Bs G K m F i){c:Cd}{v:SlO}{b d:Int}{k:Fr}{a:Int}(M:m.nf=frF (.mk c v b d k a))(J:Go {m with na:=wrap .i64 (m.na+1)} i){r:List Int}(L:m.A=.sl false 1 (IR r))(x:In1)(w:0<=x.a/\x.a<(r.length:Int))(hz:x.t.sz<=B/\tmI x.t):
  ∃o p,AC EF 43 [aM,aIn x] (mOb m []) (ci o) (mSb p [])/\Po G (K+2097154) m.f o p:=by
 have f0:=h.f0;obtain⟨xk,g,⟨tk,Z,X,tl⟩,xl,xc⟩:=x;obtain⟨T,e,j,g1,V,U⟩:=Jf za h M [.mk tk Z X tl] zb (by intro u S;rw[Si.1 S];exact hz);by_cases O:e=0
 .subst O;obtain⟨Y,W⟩:=V rfl;clear V
  match T,W with
  |[y],_=>
   have D:Bs G K {m with s:=j} F i:=h.hq Y f0<|EQ _;have E:FV.L 1 m.A=true:=by rw[L];rfl
   have I:g.toNat<r.length:=by simp only[In1.a] at w;omega
   have N:getD (FV.ses m.A) (toNat g) []=[.int .i64 r[g.toNat]]:=by rw[L];simp[FV.ses,IR,getD,I]
   have C:([.int .i64<|FV.I<|getD (getD (FV.ses m.A) (toNat g) []) 0 FV.N]:List FV)=getD (FV.ses m.A) (toNat g) []:=by rw[N];rfl
   have H:g<(((FV.ses m.A).length:Nat):Int):=by rw[L];simp only[FV.ses,zD];exact w.2
   obtain⟨o,p,S,hp⟩:=bD za D J (FV.I<|getD (getD (FV.ses m.A) (toNat g) []) 0 FV.N) y;refine⟨o,p,acv (v43 ..) ?_,hp⟩;exact⟨⟨rfl,EI _⟩,(([y],0),{m with s:=j}),U,bN ⟨⟨E,w.1,H,C⟩,⟨rfl,zc,by show(0:Int)<1;decide,rfl⟩,(o,p),S,.refl _,rfl⟩⟩
 .have D:Bs G (K+1048577) {m with s:=j} F i:=h.hq g1 f0<|EQ _;refine⟨_,_,acv (v43 ..) ?_,(vm (l:=m.f) D O<|EQ _).up za<|EQ _⟩;exact⟨⟨rfl,EI _⟩,((T,e),{m with s:=j}),U,zm (λ_=>⟨yw {m with s:=j} m.f e,xv _ _ _,.refl _,SJ (λz=>mSb z [])<|y5 (m:={m with s:=j})⟩) λq=>absurd (zl q) O⟩
def IR_set (l n z):List.set (IR l) n [.int .i64 z]=IR (l.set n z):=by simp[IR,GZ]
def c_slot {G:Gs} {K:Nat} {m:Ma} {N:List Ch} {i:Im} (h:Bs G K m N i) {c:Cd} {v:SlO} {b d:Int} {k:Fr} {a:Int} (p:m.nf=frF (.mk c v b d k a)) (x:Int) (g:0<=x/\x<((slL v).length:Int)) (I:(slL v).length<=1000000) (e:Cel) (E:e.t=2->N64 e.a)
  (j:∀M,(slL M).length=(slL v).length->Go {m with nf:=frF (.mk c M b d k a),na:=wrap .i64 (m.na+1)} i):
  ∃o L,AC EF 48 [aM,ci x,aCe e] (mOb m []) (ci o) (mSb L [])/\Po G K m.f o L:=by
 have S:=wd m.s e (by have:=h.h.C;omega);have J:=h.gr<|Gr.put m.s e E;generalize putS m.s e=z at*;by_cases H:z.1.2=0
 .match v,g,I,p,j with
  |none,g,_,_,_=>simp[slL] at g;omega
  |some [],g,_,_,_=>simp[slL] at g;omega
  |some (y::l),g,I,p,j=>
   simp only[slL,Sq] at g I j
   have D:AC EF 38 [.c<|qf<|.sl true 1<|IR<|y::l] [] (.c<|.a<|.osl 0 1 0 (IR<|y::l).length) [.arz 1<|IR<|y::l]:=
    acv (sX ..) ⟨rfl,zm (λh=>by simp[IR] at h) λ_=>⟨by simp only[zw,IR,Sn];omega,.refl _,rfl⟩⟩
   obtain⟨u,l',O⟩:∃u l',(y::l).set x.toNat z.1.1=u::l':=by
    cases x.toNat with
    |zero=>exact⟨_,_,rfl⟩
    |succ n=>exact⟨_,_,rfl⟩
   have r:(u::l').length=(y::l).length:=by rw[<-O,Gn]
   have T:FV.isPt m.nf=true:=by rw[p];rfl
   have w:FV.prow m.nf=[.pt<|FC c,.sl true 1<|IR<|y::l,.int .i64 b,.int .i64 d,frF k,.int .i64 a]:=by rw[p];rfl
   have V:(FV.isPt m.nf&&true)=true:=by rw[T];rfl
   have U:shpB [.cst<|.pointer none,.N,.int .i64 0,.int .i64 0,.cst<|.pointer none,.int .i64 0] (FV.prow m.nf)=true:=by rw[w];cases k<;>rfl
   refine⟨0,{m with s:=z.2,nf:=frF (.mk c (some<|u::l') b d k a),na:=wrap .i64 (m.na+1)},fr_ice (m:={m with s:=z.2}) (A:=m.A) zb ?_,.inl ⟨rfl,EQ _,N,i,{J with},j _ r⟩⟩;refine AC.vc hP sh lv24 zb (by simp[isLive,moO]) (by simp[isLive,slB])<|Eq.mpr (v48 ..) ?_;rw[w];refine⟨z,S,zm (λq=>absurd H<|zl q) λ_=>zq T<|zq V<|zq (by rw[<-w];exact U)<|.inr<|.inr ⟨IR<|y::l,D,⟨g.1,by rw[zD];exact g.2⟩,⟨by rw[zD];omega,?_⟩,.refl _,?_⟩⟩
   .have F:0+x.toNat<(y::l).length:=za;simp only[IR,getD,EX,EU F];rfl
   .rw[IR_set,Sa,O,show(IR<|y::l).length=(u::l').length by rw[zD,r]];rfl
 .refine⟨_,_,acv (v48 ..) ?_,vm (l:=m.f) J H<|EQ _⟩;exact⟨z,S,zm (λ_=>⟨_,xv {m with s:=z.2} m.f z.1.2,.refl _,SJ (λz=>mSb z [])<|y5 (m:={m with s:=z.2})⟩) λq=>absurd (zl q) H⟩
def Pc.inv {H c s b d k a n q}(h:Pc H (.mk c s b d k a) n q):
  ∃(e:Nat) (L:List Pl) (p:Int×Int) (i:Nat),n=e/\q=p.2.toNat+i/\CdOk c/\(slL s).length=c.sl.toNat/\0<=b/\d=frD k+1/\0<=frD k/\d<=1000000/\Wt c L/\L[e]?=some (true,p)/\0<=p.2/\
   (∀x,c.ins[e]?=some x->headK x.k=true->∃n,H=some n/\c.ar<=n)/\Pc none k a i:=by
 cases h with
 |mk o m r u y j z w v f g=>exact⟨_,_,_,_,rfl,rfl,o,m,r,u,y,j,z,w,v,f,g⟩
def Pc.to {H:Option Nat} {c:Cd} {s:SlO} {b d:Int} {k:Fr} {a:Int} {q e j:Nat} {L:List Pl} {x:In1} {p:Int×Int} (g:CdOk c) (i:(slL s).length=c.sl.toNat) (m:0<=b) (o:d=frD k+1) (r:0<=frD k) (h:d<=1000000) (D:Wt c L)
  (u:c.ins[e]?=some x) (E:e<=j) (v:L[j]?=some (true,p)) (C:0<=p.2) (F:headK x.k=true->∃n,H=some n/\c.ar<=(n:Int)) (w:Pc none k a q):Pc H (.mk c s b d k a) j (p.2.toNat+q):=
 .mk g i m o r h D v C (λy z f=>F<|al g.1 j e y x E z u f) w
def CdOk.sub {c}(h:CdOk c){x}(e:x∈c.ins):(x.t.sz<=2000/\tmI x.t)/\(∀t∈x.l,t.sz<=2000/\tmI t)/\x.c.length<=300/\∀d∈x.c,CdOk d:=by have b:=Ey (tC_ins h.2.2) e;have f:=Xt (YM h.2.1).2.2 e;exact⟨b.1,b.2.1,b.2.2.1,λd hd=>⟨vC_in h.1 x e d hd,ct f.2.2.2 hd,Ej b.2.2.2 hd⟩⟩
end Go.AM
