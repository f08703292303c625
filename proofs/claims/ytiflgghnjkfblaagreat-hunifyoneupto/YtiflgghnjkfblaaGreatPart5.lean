/- Laws, part 5. No conditions. -/
import Derived.Test.YtiflgghnjkfblaaGreatPart4
set_option linter.all false
set_option maxRecDepth 100000
open Go Go.Proofs
open Go.IntKind (wrap)
namespace Go.AM
theorem c_wone (K:Nat)(hK:K<=100000000000)(w:Wp)(m:Nat)(R:List<|List FV)(hm:m<=R.length)(hm2:m<=549755813888)(ok:OkW K w)(p:Int×Int)(j1:(lookW w p.1).1.1.js.length<=100000)(j2:(lookW (lookW w p.1).2 p.2).1.1.js.length<=100000):
  AC rc 47 [aWk,aP2 p] (oWk w m R) (ci (oneW w p).1.1) (oOw (oneW w p) m R):=by
 have h1:=dv K w m R ok p.1;obtain⟨a1,_,_⟩:=xf ok p.1;have ok1:=λh=>a1.ok ok h;have h2:=λh=>dv K (lookW w p.1).2 m R (ok1 h) p.2;have b1:=λh=>(xf (ok1 h) p.2).1;unfold oneW;generalize lookW w p.1=z at*;generalize lookW z.2 p.2=u at*;obtain⟨⟨x,e1⟩,w1⟩:=z;obtain⟨⟨y,e2⟩,w2⟩:=u;dsimp only at*;have fx:=dq x;have fy:=dq y;have cl:=c_hclash x y;refine acv (v47 p.1 p.2 ..) ?_;refine⟨(x.h,x.js,x.c.t,x.c.a,x.c.b,x.c.c,x.c.d,e1,⟨w1.s,w1.f,m,R⟩),h1,zZ (λq=>?_) λq=>⟨(y.h,y.js,y.c.t,y.c.a,y.c.b,y.c.c,y.c.d,e2,⟨w2.s,w2.f,m,R⟩),h2 q,zZ (λq2=>?_) λq2=>?_⟩⟩
 .rw[oX q];exact rrl
 .rw[oV λw=>w q,oX q2];exact rrl
 have q:e1=0:=q;have q2:e2=0:=q2;rw[oV λw=>w q,oV λw=>w q2];have ok2:=(b1 q).ok (ok1 q) q2;have un:=c_wunder K w2 m R hm za ok2 x y p;have pr:=c_wprune K hK w2 m R ok2 x y za za;have bx:=mL K hK w2 m R ok2 x p.2 j1;have by_:=mL K hK w2 m R ok2 y p.1 j2;unfold oneG
 have uw:∀z:Ow,AC rc 68 [aWk,aSd x,aSd y,aP2 p] (oWk w2 m R) (ci z.1.1) (oOw z m R)->∃z3:Int×Wk,AC rc 68 [aWk,aSd x,aSd y,aP2 p] (oWk w2 m R) (ci z3.1) (oWk' ⟨z3.2.s,z3.2.f⟩ z3.2.n z3.2.R)/\TV.Le (ci z3.1) (ci z.1.1)/\oWk' ⟨z3.2.s,z3.2.f⟩ z3.2.n z3.2.R=oOw z m R:=λz hz=>
  ⟨(z.1.1,⟨z.2.s,z.2.f,m+z.1.2.length,stkZ R m z.1.2.reverse⟩),hz,.refl _,rfl⟩
 refine zB (λx6=>?_) λx6=>zB (λy6=>?_) λy6=>?_
 .have x6:x.c.t=6:=x6;rw[oX<|.inl x6];exact uw _ un
 .have y6:y.c.t=6:=y6;rw[oX<|.inr y6];exact uw _ un
 have x6:¬x.c.t=6:=x6;have y6:¬y.c.t=6:=y6;rw[oV λw=>w.elim x6 y6];clear uw un;refine⟨_,fx,zB (λx4=>⟨_,fy,zB (λy4=>zB (λhh=>?_) λhh=>⟨_,fx,zB (λ_=>?_) λh=>absurd x4 h⟩) λy4=>⟨_,fx,zB (λ_=>?_) λh=>absurd x4 h⟩⟩) λx4=>⟨_,fx,zB (λh=>absurd h x4) λ_=>⟨_,fy,zB (λy4=>?_) λy4=>⟨_,cl,zu (λc=>?_) λc=>⟨_,oq<|IR x.js,?_⟩⟩⟩⟩⟩
 .have hh:x.h=y.h:=hh;rw[oX ⟨x4,y4,hh⟩];exact⟨((xD w2 x y).1,⟨(xD w2 x y).2.s,(xD w2 x y).2.f,m,R⟩),pr,.refl _,rfl⟩
 .have hh:¬x.h=y.h:=hh;rw[oV λw=>hh w.2.2,oX x4];exact⟨((wL w2 x p.2).1,⟨(wL w2 x p.2).2.s,(wL w2 x p.2).2.f,m,R⟩),bx,.refl _,rfl⟩
 .rw[oV λw=>y4 w.2.1,oX x4];exact⟨((wL w2 x p.2).1,⟨(wL w2 x p.2).2.s,(wL w2 x p.2).2.f,m,R⟩),bx,.refl _,rfl⟩
 .rw[oV λw=>x4 w.1,oV x4,oX y4];exact⟨((wL w2 y p.1).1,⟨(wL w2 y p.1).2.s,(wL w2 y p.1).2.f,m,R⟩),by_,.refl _,rfl⟩
 .rw[oV λw=>x4 w.1,oV x4,oV y4,oX c];exact rrl
 .rw[oV λw=>x4 w.1,oV x4,oV y4,oV<|by rw[c];simp]
  have hl:x.js.length=y.js.length:=by
   have e:YU x y=(x.c.t !=y.c.t||x.c.a !=y.c.a||x.js.length !=y.js.length):=rfl;rw[e] at c;simp at c;exact c.2
  have lo:=l_wone w2 m R x y hl hm za;show RPt rc 47 7 (ci 0) (oWk' w2 (m+(x.js.zip y.js).length)<|stkZ R m (x.js.zip y.js).reverse) 3 _;rw[show(x.js.zip y.js).length=x.js.length by simp[hl]];exact lo
theorem nX {R A:List (List FV)}{x:List FV}{m:Nat}(hA:A.length=m)(h:R.take (m+1)=A++[x]):List.getD R m []=x/\R.take m=A/\m<R.length:=by
 have hl:(R.take<|m+1).length=m+1:=by rw[h];simp[hA]
 have hm:m<R.length:=by rw[rM] at hl;omega
 refine⟨?_,?_,hm⟩
 .have:(R.take<|m+1)[m]?=some x:=by rw[h,<-hA];simp
  rw[hU za] at this;simp[List.getD,this]
 .have:(R.take<|m+1).take m=A:=by rw[h,<-hA];simp
  rw[List.take_take,sU za] at this;exact this
structure RunI (K:Nat)(I:Wp->List (Int×Int)->Prop):Prop where
 ok:∀w st,I w st->OkW K w/\st.length<=500000000
 js:∀w p st,I w (p::st)->0<w.f->(lookW ⟨w.s,w.f-1⟩ p.1).1.1.js.length<=100000/\(lookW (lookW ⟨w.s,w.f-1⟩ p.1).2 p.2).1.1.js.length<=100000
 nx:∀w p st,I w (p::st)->0<w.f->(oneW ⟨w.s,w.f-1⟩ p).1.1=0->I (oneW ⟨w.s,w.f-1⟩ p).2 ((oneW ⟨w.s,w.f-1⟩ p).1.2++st)
theorem OkW.less {K:Nat}{w:Wp}(h:OkW K w)(h0:0<w.f):OkW K ⟨w.s,w.f-1⟩:=⟨h.h,zm,by have:=h.f1;dsimp only;omega,h.n⟩
theorem l_wrun (K:Nat)(hK:K<=100000000000){I:Wp->List (Int×Int)->Prop}(hI:RunI K I):∀(F:Nat) (w:Wp) (st:List<|Int×Int) (R:List<|List FV),w.f.toNat<=F->I w st->R.take st.length=PR st.reverse->
  ∃n' R',RPt rc 32 7 (ci (runZ F w st).1) (oWk' (runZ F w st).2 n' R') 1 ⟨[(0,aWk)],wkH w st.length R,11⟩
 |F,w,[],R,hF,hi,hR=>by
  refine⟨0,R,?_⟩;have e:runZ F w []=(0,w):=by cases F<;>rfl
  rw[e];refine RPt.vc hP sh jk<|Eq.mpr (jI ..) ?_
  exact bF zb rrl
 |F,w,p::st,R,hF,hi,hR=>by
  obtain⟨ok,hs⟩:=hI.ok w _ hi;simp only[r5] at hs;have f0:=ok.f0;have f1:=ok.f1;rw[tU,cN] at hR;obtain⟨t1,t2,t3⟩:=nX (m:=st.length) (A:=PR st.reverse) (x:=[.int .i64 p.1,.int .i64 p.2]) (by simp[aw]) hR
  have ew:wrap .i64 ((((p::st).length:Nat):Int)-1)=(st.length:Int):=by
   rw[r5,w64 za za];omega
  have ep:List.getD R (0+(st.length:Int).toNat) []=[.int .i64 p.1,.int .i64 p.2]:=by rw[rC,rB];exact t1
  by_cases hf:w.f<=0
  .have e:runZ F w (p::st)=(80,w):=by
    cases F with
    |zero=>rfl
    |succ F=>rw[runZ,oX hf]
   refine⟨st.length,R,?_⟩;rw[e];refine RPt.vc hP sh jk<|Eq.mpr (jI ..) ?_
   rw[ew,ep];refine zu (λ_=>⟨⟨za,by simp only[r5];omega⟩,⟨by rw[rC];omega,rfl,rfl⟩,⟨ru _,za,by simp only[r5];omega⟩,zu (λ_=>⟨.refl _,by rw[rC]⟩) λh=>absurd (ri h) za⟩) (λh=>absurd (ri h)<|by simp only[r5];omega)
  .cases F with
   |zero=>omega
   |succ F=>
    have hj:=hI.js w p st hi za;have ok1:=ok.less za;have hp:=c_wone K hK ⟨w.s,w.f-1⟩ st.length R za za ok1 p hj.1 hj.2;have hq:=(iX ok1 p hj.1 hj.2).1.f1;have hn:=hI.nx w p st hi za;have e:runZ (F+1) w (p::st)=if (oneW ⟨w.s,w.f-1⟩ p).1.1≠0 then((oneW ⟨w.s,w.f-1⟩ p).1.1,(oneW ⟨w.s,w.f-1⟩ p).2) else runZ F (oneW ⟨w.s,w.f-1⟩ p).2 ((oneW ⟨w.s,w.f-1⟩ p).1.2++st):=by rw[runZ,oV hf]
    have next:(oneW ⟨w.s,w.f-1⟩ p).1.1=0->∃n' R',RPt rc 32 7 (ci (runZ F (oneW ⟨w.s,w.f-1⟩ p).2<|(oneW ⟨w.s,w.f-1⟩ p).1.2++st).1) (oWk' (runZ F (oneW ⟨w.s,w.f-1⟩ p).2<|(oneW ⟨w.s,w.f-1⟩ p).1.2++st).2 n' R') 1
      ⟨[(0,aWk)],wkH (oneW ⟨w.s,w.f-1⟩ p).2 (st.length+(oneW ⟨w.s,w.f-1⟩ p).1.2.length)<|stkZ R st.length (oneW ⟨w.s,w.f-1⟩ p).1.2.reverse,11⟩:=λh0=>by
     have hn:=hn h0;have hd:=gq (n:=st.length) (R:=R) za (oneW ⟨w.s,w.f-1⟩ p).1.2.reverse;rw[tJ,t2] at hd;have:=l_wrun K hK hI F (oneW ⟨w.s,w.f-1⟩ p).2 ((oneW ⟨w.s,w.f-1⟩ p).1.2++st) (stkZ R st.length (oneW ⟨w.s,w.f-1⟩ p).1.2.reverse) (by dsimp only at hq;omega) hn (by rw[re,tX,hd.2,List.reverse_append,cN]);rw[re,tX] at this;exact this
    rw[e];clear e hn hq hj;generalize oneW ⟨w.s,w.f-1⟩ p=q at*;obtain⟨⟨qe,qp⟩,qw⟩:=q;dsimp only at next hp ⊢;by_cases h0:qe=0
    .rw[oV<|by simp[h0]];obtain⟨n',R',hr⟩:=next h0;refine⟨n',R',?_⟩;refine RPt.vc hP sh jk<|Eq.mpr (jI ..) ?_
     rw[ew,ep,w64 (x:=w.f-1) za za,rC];exact zu (λ_=>⟨⟨za,by simp only[r5];omega⟩,⟨za,rfl,rfl⟩,⟨ru _,za,by simp only[r5];omega⟩,bF za ⟨(qe,⟨qw.s,qw.f,st.length+qp.length,stkZ R st.length qp.reverse⟩),hp,zZ (λh=>absurd h0 h) λ_=>hr⟩⟩) (λh=>absurd (ri h)<|by simp only[r5];omega)
    .rw[oX h0];refine⟨st.length+qp.length,stkZ R st.length qp.reverse,?_⟩;refine RPt.vc hP sh jk<|Eq.mpr (jI ..) ?_
     rw[ew,ep,w64 (x:=w.f-1) za za,rC];exact zu (λ_=>⟨⟨za,by simp only[r5];omega⟩,⟨za,rfl,rfl⟩,⟨ru _,za,by simp only[r5];omega⟩,bF za ⟨(qe,⟨qw.s,qw.f,st.length+qp.length,stkZ R st.length qp.reverse⟩),hp,zZ (λ_=>rrl) λh=>absurd h h0⟩⟩) (λh=>absurd (ri h)<|by simp only[r5];omega)
theorem c_wrun (K:Nat)(hK:K<=100000000000){I:Wp->List (Int×Int)->Prop}(hI:RunI K I)(w:Wp)(st:List<|Int×Int)(hi:I w st):∃n' R',AC rc 32 [aWk] (oWk w st.length<|PR st.reverse) (ci (runZ w.f.toNat w st).1) (oWk' (runZ w.f.toNat w st).2 n' R'):=by
 obtain⟨n',R',h⟩:=l_wrun K hK hI w.f.toNat w st (PR st.reverse) (r6 _) hi<|ro<|by rw[aw,tJ];exact r6 _
 refine⟨n',R',AC.vc hP sh jk zb (by simp[isLive]) (by simp[isLive])<|Eq.mpr (v32_i1 ..) ?_⟩;exact h
theorem c_wrun0 (w:Wp):AC rc 32 [aWk] [.arr 3 [[.a<|.ep 1 6 0 0,qf .N,qi w.f]],hp6 2 3 4 5 w.s,.arz 5<|CR w.s.C,.arz 7<|TR w.s.T,.arz 1<|NR w.s.N,.mapz<|NM w.s.N 0] (ci 0)
  [.arr 3 [[.a<|.ep 1 6 0 0,qf .N,qi w.f]],hp6 6 7 8 5 w.s,.gone,.gone,.gone,.mapz<|NM w.s.N 0,.arz 5<|CR w.s.C,.arz 7<|TR w.s.T,.arz 1<|NR w.s.N]:=by
 refine acv (v32 ..) ?_;refine rpv (v32_1a ..) ?_;exact⟨rfl,.refl _,rfl⟩
def RunL (K:Nat)(w:Wp)(st:List<|Int×Int):Prop:=OkW K w/\w.f<=100000/\st.length+w.f<=400000000
theorem runI_L (K:Nat):RunI K (RunL K) where
 ok:=λw st h=>⟨h.1,by have:=h.2.2;have:=h.1.f0;omega⟩
 js:=λw p st h h0=>by
  have ok1:=h.1.less h0;have hf:w.f-1<=100000:=by have:=h.2.1;omega
  refine⟨qE ok1 p.1 hf,?_⟩;have h1:=(xf ok1 p.1).1;by_cases q:(lookW ⟨w.s,w.f-1⟩ p.1).1.2=0
  .exact qE (h1.ok ok1 q) p.2 (by have:=h1.f1;dsimp only at this;omega)
  .have ok2:OkW (K+1048577) (lookW ⟨w.s,w.f-1⟩ p.1).2:=⟨h1.h,h1.f0,by have:=h1.f1;have:=ok1.f1;dsimp only at*;omega,h1.m⟩;exact qE ok2 p.2 (by have:=h1.f1;dsimp only at this;omega)
 nx:=λw p st h h0 q=>by
  have ok1:=h.1.less h0;have hf:w.f-1<=100000:=by have:=h.2.1;omega
  obtain⟨g1,g2⟩:=ZB ok1 p hf;have g2:=g2 q;have f1:=g1.f1;dsimp only at g2 f1;refine⟨g1.ok ok1 q,za,?_⟩;have:=h.2.2;simp only[r5] at this;simp only[re];omega
def GoodZ (s:Hp):Prop:=∀e∈s.T,0<=e.o/\e.o<(s.C.length:Int)/\e.top<(s.C.length:Int)
theorem qU (s:Hp)(c:Cel):(putS s c).2=s\/(putS s c).2={s with C:=s.C++[c]}:=by
 unfold putS;split
 .exact .inl rfl
 .split
  .exact .inl rfl
  .exact .inr rfl
theorem w7 (s:Hp)(x:Int)(c:Cel):(setS s x c).2=s\/inC s.C x=true/\(setS s x c).2={s with C:=s.C.set x.toNat c,T:=s.T++[⟨x,cellOf s.C x,topS s.T x⟩]}:=by
 unfold setS;split
 .exact .inl rfl
 .rename_i h;split
  .exact .inl rfl
  .split
   .exact .inl rfl
   .split
    .exact .inl rfl
    .exact .inr ⟨zo h,rfl⟩
theorem topZ_lt {T:List Trl}{x n:Int}(hx:x<n)(hT:∀e∈T,e.top<n):topS T x<n:=by
 unfold topS;split
 .rcases fmax2 (x:=x) rfl with h|h
  .rw[h];exact hx
  .rw[h];exact hT _<|td _
 .exact hx
theorem Kf:∀(D:List Trl) (C:List Cel) (c:Cel),(∀e∈D,e.o.toNat<C.length)->uL D (C++[c])=uL D C++[c]
 |[],_,_,_=>rfl
 |e::D,C,c,h=>by
  have ih:=Kf D C c λx hx=>h x<|r9 _ hx
  have hl:=wD D C;show(uL D<|C++[c]).set _ _=(uL D C).set _ _++[c];rw[ih,List.set_append_left _ _<|by rw[hl];exact h e r7]
def LaterZ (s0 s:Hp):Prop:=s0.C.length<=s.C.length/\∃D,s.T=s0.T++D/\(uL D s.C).take s0.C.length=s0.C
theorem Mv.later {b:Bool}{s0 s:Hp}(h:Mv b s0 s)(hg:GoodZ s0):GoodZ s/\LaterZ s0 s:=by
 induction h with
 |refl=>exact⟨hg,r6 _,[],zb,by simp[uL]⟩
 |@put t c _ ih=>
  obtain⟨ig,hn,D,hD,hC⟩:=ih;rcases qU t c with e|e<;>rw[e]
  .exact⟨ig,hn,D,hD,hC⟩
  .refine⟨λx hx=>?_,zj,D,hD,?_⟩
   .have:=ig x hx;simp only[re,rD];omega
   .show(uL D<|t.C++[c]).take _=_;rw[Kf D t.C c λx hx=>by have:=ig x (by rw[hD];exact tH _ hx);omega,List.take_append_of_le_length<|by rw[wD];exact hn];exact hC
 |@set t a c _ ih=>
  obtain⟨ig,hn,D,hD,hC⟩:=ih;rcases w7 t a c with e|⟨hin,e⟩<;>rw[e]
  .exact⟨ig,hn,D,hD,hC⟩
  .simp only[inC,oZ,rL] at hin;obtain⟨hl,ec⟩:=jO hin.1 hin.2;refine⟨λx hx=>?_,by simp only[rU];exact hn,D++[⟨a,cellOf t.C a,topS t.T a⟩],by simp only[hD,rh],?_⟩
   .simp only[rU];rcases rQ.1 hx with hx|hx
    .exact ig x hx
    .rw[rJ.1 hx];exact⟨hin.1,hin.2,topZ_lt hin.2 λe he=>(ig e he).2.2⟩
   .show(uL (D++[_])<|t.C.set a.toNat c).take _=_;rw[XY,List.set_set,ec,List.set_getElem_self];exact hC
 |names e _ _ ih=>exact ih
theorem LaterZ.back {s0 s:Hp}(h:LaterZ s0 s):(vH s s0.C.length s0.T.length).C=s0.C/\(vH s s0.C.length s0.T.length).T=s0.T:=by
 obtain⟨hn,D,hD,hC⟩:=h;refine⟨?_,?_⟩
 .show(uL (s.T.drop s0.T.length) s.C).take s0.C.length=s0.C;rw[hD,List.drop_left']
  .exact hC
  .rfl
 .show s.T.take s0.T.length=s0.T;rw[hD,List.take_left'];rfl
theorem c_undoZ {b:Bool}{s0 s:Hp}(h:Mv b s0 s)(hg:GoodZ s0)(ok:OkH s):AC rc 33 [aH 0,.agg [qi (s0.C.length:Int),qi (s0.T.length:Int)]] (oH s) (.tup []) (oH'<|vH s s0.C.length s0.T.length):=by
 obtain⟨g,hn,D,hD,_⟩:=h.later hg;refine c_hundo s s0.C.length s0.T.length (by rw[hD];simp) (by have:=ok.T;omega) hn (λe he=>⟨(g e he).1,(g e he).2.1⟩) λe he=>?_;rw[hD,List.take_left'] at he
 .exact(hg e he).2.2
 .rfl
abbrev oHb (s:Hp):List AObj:=[.arr 1 [[.a<|.ep 1 6 0 0]],hp6 2 3 4 5 s,.arz 5<|CR s.C,.arz 7<|TR s.T,.arz 1<|NR s.N,.mapz<|NM s.N 0]
abbrev fnO (bk:Nat):TV:=.c<|.fn (.func bk) [] [(false,[.ep 0 1 0 0])]
theorem c_hall1 (s:Hp)(x:Int):AC rc 27 [ci x,.c<|.a<|.ep 0 1 0 0] (oHb s) (cb<|oddZ s.C x) (oHb s):=by
 have hc:=vN s x;have e:oddZ s.C x=(!inC s.C x||decide (9<=(cellOf s.C x).t)):=rfl;rw[e];refine acv (v27 ..) ?_;refine⟨_,_,_,_,_,_,hc,zu (λh=>yV ?_) λh=>yV ?_⟩
 .rw[h];rfl
 .rw[h];rfl
def ixI (p:Int->Bool):List Int->Nat->Int
 |[],_=> -1
 |t::l,i=>if p t=true then(i:Int) else ixI p l<|i+1
theorem mX (p:Int->Bool):∀(l:List Int) (i:Nat),decide (ixI p l i>=0)=l.any p
 |[],_=>rfl
 |t::l,i=>by
  rw[ixI,List.any_cons];split
  next h=>rw[h];simp
  next h=>rw[mX p l,show p t=false by simpa using h,tS]
theorem l_idxi (s:Hp)(l0:List Int)(hl:l0.length<=1000000000):∀(b a:List Int),l0=a++b->
  RPt rc 45 6 (ci<|ixI (oddZ s.C) b a.length) (oHb s) 1 ⟨[(0,aIs l0),(1,fnO 27),(7,ci (l0.length:Int)),(8,ci (a.length:Int))],[(0,.arr 1 [[.a<|.ep 1 6 0 0]]),(1,hp6 2 3 4 5 s),(2,.arz 5<|CR s.C),(3,.arz 7<|TR s.T),(4,.arz 1<|NR s.N),(5,.mapz<|NM s.N 0)],6⟩
 |[],a,hp=>by
  rw[rp] at hp;refine rpv (Wj ..) ?_;exact bF (by rw[hp];omega) rrl
 |t::b,a,hp=>by
  have ih:=l_idxi s l0 hl b (a++[t]) (by rw[hp];simp);rw[show(((a++[t]).length:Nat):Int)=(a.length:Int)+1 by simp,show(a++[t]).length=a.length+1 by simp] at ih;have hm:List.getD (IR l0) (Int.toNat (a.length:Int)) []=[.int .i64 t]:=by rw[hp];exact bi a t b
  have h3:(a.length:Int)<(((IR l0).length:Nat):Int):=by rw[hp];exact IR_lt a t b
  have h4:(a.length:Int)<((l0.length:Nat):Int):=by rw[zF] at h3;exact h3
  have h1:=c_hall1 s t;rw[ixI];refine rpv (Wj ..) ?_;rw[hm,w64 (x:=(a.length:Int)+1) za za];refine bT h4 ⟨⟨rfl,za,h3,rfl⟩,oddZ s.C t,h1,zu (λh=>?_) λh=>?_⟩
  .rw[oX h];exact rrl
  .rw[oV<|by rw[h];simp];exact ih
theorem c_anyi (s:Hp)(l:List Int)(hl:l.length<=1000000000):AC rc 29 [aIs l,fnO 27] (oHb s) (cb<|l.any<|oddZ s.C) (oHb s):=by
 have h:AC rc 45 [aIs l,fnO 27] (oHb s) (ci<|ixI (oddZ s.C) l 0) (oHb s):=by
  have:=l_idxi s l hl l [] rfl;refine acv (v45_F27 ..) ?_;rw[zF];exact⟨rfl,this⟩
 have e:=mX (oddZ s.C) l 0;refine acv (v29_F27 ..) ?_;exact⟨_,h,by rw[<-e];exact .refl _,rfl⟩
abbrev haH (s:Hp)(f:Int)(a b:List Int)(i:Nat):AHeap:=
 if i=a.length then [(0,hp6 15 16 17 4 s),(1,.gone),(2,.gone),(3,.gone),(4,.mapz<|NM s.N 0),(5,.gone),(6,.gone),(7,.gone),(8,.arr 1 [[.a<|.ep 0 6 0 0]]),(9,.arr 1 [[qf<|.sl false 1<|IR a]]),(10,.arr 1 [[qf<|.sl false 1<|IR b]]),(11,.arr 2 [[qi (s.C.length:Int),qi (s.T.length:Int)]]),(12,.arr 1 [[.a<|.ep 13 3 0 0]]),(13,.arr 3 [[.a<|.ep 0 6 0 0,qf .N,qi f]]),(14,.arr 1 [[qf<|.sl false 1<|IR a]]),(15,.arz 5<|CR s.C),(16,.arz 7<|TR s.T),(17,.arz 1<|NR s.N)]
 else [(0,hp6 15 16 17 4 s),(1,.gone),(2,.gone),(3,.gone),(4,.mapz<|NM s.N 0),(5,.gone),(6,.gone),(7,.gone),(8,.arr 1 [[.a<|.ep 0 6 0 0]]),(9,.arr 1 [[qf<|.sl false 1<|IR a]]),(10,.arr 1 [[qf<|.sl false 1<|IR b]]),(11,.arr 2 [[qi (s.C.length:Int),qi (s.T.length:Int)]]),(12,.arr 1 [[.a<|.ep 13 3 0 0]]),(13,.arr 3 [[.a<|.ep 0 6 0 0,.a<|.osl 18 2 0<|a.length-i,qi f]]),(14,.arr 1 [[qf<|.sl false 1<|IR a]]),(15,.arz 5<|CR s.C),(16,.arz 7<|TR s.T),(17,.arz 1<|NR s.N),(18,.arz 2<|PR ((a.zip b).drop i).reverse)]
theorem c_hAll (s:Hp) (hg:GoodZ s) (a b:List Int) (f:Int) (ha:a.length<=1000000000) (hb:b.length<=1000000000)
  (hrun:a.length=b.length->a.any (oddZ s.C)=false->b.any (oddZ s.C)=false->a≠[]->∃n' R',AC rc 32 [aWk] (oWk ⟨s,f⟩ (a.zip b).length<|PR (a.zip b).reverse) (ci (runZ f.toNat ⟨s,f⟩<|a.zip b).1)<|oWk' (runZ f.toNat ⟨s,f⟩<|a.zip b).2 n' R')
  (hmv:a.length=b.length->Mv true s (runZ f.toNat ⟨s,f⟩<|a.zip b).2.s) (hok:OkH s):
  AC rc 19 [aH 0,aIs a,aIs b,ci f] (oH s) (t2 (allZ s a b f).1) (oH' (allZ s a b f).2):=by
 have n1:=c_anyi s a ha;have n2:=c_anyi s b hb;have hm:=c_hmark s
 have e0:allZ s a b f=if a.length≠b.length\/a.any (oddZ s.C)=true\/b.any (oddZ s.C)=true then((0,1),s)
  else if (runZ f.toNat ⟨s,f⟩<|a.zip b).1≠0 then((0,(runZ f.toNat ⟨s,f⟩<|a.zip b).1),vH (runZ f.toNat ⟨s,f⟩<|a.zip b).2.s s.C.length s.T.length)
  else(((runZ f.toNat ⟨s,f⟩<|a.zip b).2.f,0),(runZ f.toNat ⟨s,f⟩<|a.zip b).2.s):=rfl
 rw[e0];refine acv (v19 (IR a) (IR b) f ..) ?_;rw[zF,zF];refine⟨rfl,rfl,zZ (λq=>?_) λq=>⟨_,n1,zu (λq1=>?_) λq1=>⟨_,n2,zu (λq2=>?_) λq2=>⟨(s.C.length:Int),(s.T.length:Int),hm,IR a,oq<|IR a,?_⟩⟩⟩⟩
 .rw[oX<|.inl za];exact rrl
 .rw[oX<|.inr<|.inl q1];exact rrl
 .rw[oX<|.inr<|.inr q2];exact rrl
 have hl:a.length=b.length:=za
 rw[oV<|by rintro (w|w|w);exact w hl;rw[q1] at w;cases w;rw[q2] at w;cases w];have hrun:=hrun hl q1 q2;have hmv:=hmv hl;clear e0 n1 n2 hm;have hzl:(a.zip b).length=a.length:=by simp[hl]
 refine RPt.backI (sh:=sh) (lv:=lv19) (α:=Nat) (Inv:=λi=>i<=a.length) (idx:=λi=>i) (nx:=λi=>if i=a.length then 18 else 19) (m0:=15) (U:=[5,6,7]) (live:=[4,5,6,11,12,38]) (oc:=14) (es:=a) (x0:=a.length) (g:=.tmp 38) (env:=[(4,.c<|.a<|.ep 8 1 0 0),(5,.c<|.a<|.ep 9 1 0 0),(6,.c<|.a<|.ep 10 1 0 0),(11,.c<|.a<|.ep 11 2 0 0),(12,.c<|.a<|.ep 12 1 0 0),(38,fnI 46 14)])
  (H:=λi=>haH s f a b i) hP zg isBkI bTyI ?_ zg zg zg zg (λ_ _=>by split<;>omega) (λi _=>by unfold haH;split<;>rfl) za (λi hi=>hi) (λi k hk hi hik=>?_) (r6 _) rfl (λi hi h0=>?_)
 .refine Eq.mpr (v19_1an ..) ?_;unfold haH;rw[oX rfl,oX rfl]
 .have hik:i=k+1:=hik;have hi:i<=a.length:=hi;subst hik;have hkb:k<b.length:=za
  have ea:List.getD (IR a) (Int.toNat ((k:Nat):Int)) []=[.int .i64 a[k]]:=by rw[rC];exact xY hk
  have eb:List.getD (IR b) (Int.toNat ((k:Nat):Int)) []=[.int .i64 b[k]]:=by rw[rC];exact xY hkb
  have edz:(a.zip b).drop k=(a[k],b[k])::(a.zip b).drop (k+1):=by
   rw[tI za];simp
  have estk:PR ((a.zip b).drop k).reverse=PR ((a.zip b).drop<|k+1).reverse++[[.int .i64 a[k],.int .i64 b[k]]]:=by rw[edz,tU,cN];rfl
  have hlen:(PR ((a.zip b).drop<|k+1).reverse).length=a.length-(k+1):=by simp[aw,hl]
  generalize a[k]=u at*;generalize b[k]=v at*;by_cases hc:k+1=a.length
  .unfold haH;rw[oX hc,oX hc];refine Eq.mpr (v19_1ara ..) ?_;rw[ea,eb,zF,zF];refine⟨⟨rfl,za,za,rfl⟩,⟨rfl,za,za,rfl⟩,r6 _,by unfold zS;omega,k,⟨(by omega:k<=a.length),rfl⟩,?_,by rw[oV za]⟩;rw[oV za,estk,(za:a.length-k=1),show(a.zip b).drop (k+1)=[] from tK za];rfl
  .unfold haH;rw[oV hc,oV hc];refine Eq.mpr (v19_1arb ..) ?_;rw[ea,eb,zF,zF];refine⟨⟨rfl,za,za,rfl⟩,⟨rfl,za,za,rfl⟩,r6 _,⟨za,by unfold zS;omega⟩,k,⟨(by omega:k<=a.length),rfl⟩,?_,by rw[oV za]⟩;rw[oV za,estk,(za:a.length-k=a.length-(k+1)+1),ro za];rfl
 .have h0:i=0:=h0;subst h0;by_cases hn:a=[]
  .subst hn;have e0:runZ f.toNat ⟨s,f⟩ (([]:List Int).zip b)=(0,⟨s,f⟩):=by cases f.toNat<;>rfl
   rw[e0];have hr:=c_wrun0 ⟨s,f⟩;unfold haH;rw[oX (show 0=([]:List Int).length from rfl),oX (show 0=([]:List Int).length from rfl)];refine Eq.mpr (v19_1aza ..) ?_;exact⟨(0,⟨s,f,0,[]⟩),hr,bN rrl⟩
  .obtain⟨n',R',hr⟩:=hrun hn;have hne:¬0=a.length:=λq=>hn<|rk q.symm
   unfold haH;rw[oV hne,oV hne,tY,sH];rw[hzl] at hr;generalize runZ f.toNat ⟨s,f⟩ (a.zip b)=w at*;obtain⟨we,ws⟩:=w;dsimp only at hr hmv ⊢;have hu:=c_undoZ hmv hg<|hmv.ok hok
   refine Eq.mpr (v19_1azb ..) ?_;refine⟨(we,⟨ws.s,ws.f,n',R'⟩),hr,zZ (λq=>?_) λq=>?_⟩
   .rw[oX q];exact⟨_,hu,.refl _,rfl⟩
   .rw[oV λw=>w q];exact rrl
theorem ZE (s:Hp)(a b f:Int)(h:AC rc 19 [aH 0,aIs [a],aIs [b],ci f] (oH s) (t2 (allZ s [a] [b] f).1)<|oH' (allZ s [a] [b] f).2):AC rc 8 [aH 0,ci a,ci b,ci f] (oH s) (t2 (allZ s [a] [b] f).1) (oH' (allZ s [a] [b] f).2):=by
 refine acv (v8 ..) ?_;exact⟨zc,zc,((allZ s [a] [b] f).1.1,(allZ s [a] [b] f).1.2,(allZ s [a] [b] f).2),h,.refl _,rfl⟩
theorem WI (K:Nat)(hK:K<=100000000000)(s:Hp)(hg:GoodZ s)(ok:OkH s)(nm:NmB K s)(a b:List Int)(f:Int)(ha:a.length<=1000000)(hb:b.length<=1000000)(f0:0<=f)(f1:f<=100000):
  AC rc 19 [aH 0,aIs a,aIs b,ci f] (oH s) (t2 (allZ s a b f).1) (oH' (allZ s a b f).2):=by
 have okw:OkW K ⟨s,f⟩:=⟨ok,f0,zm,nm⟩;refine c_hAll s hg a b f za za (λ_ _ _ _=>?_) (λ_=>(YO _ _ okw zm).mv) ok;exact c_wrun K hK (runI_L K) ⟨s,f⟩ (a.zip b) ⟨okw,zm,by rw[List.length_zip];dsimp only;omega⟩
theorem yc {C:List Cel}{a:Int}:inC C a=true↔0<=a/\a<(C.length:Int):=by simp[inC]
theorem xQ {C:List Cel}{a:Int}(h:inC C a=true):C[a.toNat]?=some (cellOf C a):=by
 obtain⟨h0,h1⟩:=yc.1 h;obtain⟨hl,e⟩:=jO h0 h1;rw[e];exact rf hl
structure Gh where
 m:La
 r:List Ent
def ghN:Gh:=⟨laD,[]⟩
def mat (Z:List Gh)(a:Int):La:=((Z[a.toNat]?).getD ghN).m
def rat (Z:List Gh)(a:Int):List Ent:=((Z[a.toNat]?).getD ghN).r
structure Kin (Z:List Gh)(a:Int):Prop where
 p0:0<=a
 p1:a<(Z.length:Int)
theorem zJ {Z:List Gh}(F:List Gh){a:Int}(h:Kin Z a):mat (Z++F) a=mat Z a:=by
 unfold mat;rw[sC<|by have:=h.p0;have:=h.p1;omega]
theorem jp {Z:List Gh}(F:List Gh){a:Int}(h:Kin Z a):rat (Z++F) a=rat Z a:=by
 unfold rat;rw[sC<|by have:=h.p0;have:=h.p1;omega]
theorem Kin.app {Z:List Gh}(F:List Gh){a:Int}(h:Kin Z a):Kin (Z++F) a:=⟨h.p0,by have:=h.p1;simp only[re];omega⟩
theorem J9 (Z:List Gh)(z:Gh):mat (Z++[z]) (Z.length:Int)=z.m/\rat (Z++[z]) (Z.length:Int)=z.r/\Kin (Z++[z]) (Z.length:Int):=by
 have e:(Z++[z])[((Z.length:Nat):Int).toNat]?=some z:=by rw[rC,sT<|r6 _,tZ];rfl
 exact⟨by unfold mat;rw[e];rfl,by unfold rat;rw[e];rfl,tf _,by simp only[re,rD];omega⟩
theorem gh_get {Z:List Gh}{i:Nat}{z:Gh}(h:Z[i]?=some z):mat Z (i:Int)=z.m/\rat Z (i:Int)=z.r/\Kin Z (i:Int):=by
 have hl:i<Z.length:=by rcases Nat.lt_or_ge i Z.length with q|q;exact q;rw[ss q] at h;cases h
 exact⟨by unfold mat;rw[rC,h];rfl,by unfold rat;rw[rC,h];rfl,tf _,za⟩
structure CkM (V:Int->Option La)(N:List<|List UInt8)(Z:List Gh)(n i:Int)(c:Cel)(z:Gh):Prop where
 tg:0<=c.t/\c.t<=11
 x0:c.t=0->0<=c.a/\c.a<(N.length:Int)/\Eqv V z.m (.con 0 0<|nameOf N c.a)
 x1:c.t=1->1<=c.a/\Eqv V z.m (.con 1 c.a [])
 x2:c.t=2->Eqv V z.m (.con 2 c.a [])
 x3:c.t=3->(0<=c.a/\c.a<=(i+1)*2097152)/\Eqv V z.m (.bv c.a.toNat)
 x4:c.t=4->z.m=.var i/\V i=none/\z.r=[.dum c.a.toNat]/\0<=c.a
 x5:c.t=5->Kin Z c.a/\Eqv V z.m (mat Z c.a)
 x6:c.t=6->Kin Z c.a/\Eqv V z.m (.lam<|mat Z c.a)
 x7:c.t=7->Kin Z c.a/\Kin Z c.b/\Eqv V z.m (.app (mat Z c.a)<|mat Z c.b)
 x8:c.t=8->Kin Z c.a/\Kin Z c.b/\(c.c=((rat Z c.b).length:Int)/\0<=c.d/\c.c<=n/\c.d<=n/\RwOk (rat Z c.b) c.d.toNat)/\Eqv V z.m ((mat Z c.a).su<|sgE (rat Z c.b) c.d.toNat)
 x9:c.t=9->z.r=[]
 x10:c.t=10->Kin Z c.a/\(0<=c.b/\c.b<=n)/\z.r=.dum c.b.toNat::rat Z c.a
 x11:c.t=11->Kin Z c.a/\Kin Z c.b/\(0<=c.c/\c.c<=n)/\z.r=.bnd (mat Z c.b) c.c.toNat::rat Z c.a
theorem CkM.more {V W:Int->Option La}{N N':List (List UInt8)}{Z:List Gh}{n n' i:Int}{c:Cel}{z:Gh}(h:CkM V N Z n i c z)(F:List Gh)(hn:n<=n')(hV:∀x v,V x=some v->W x=some v)(hi:c.t=4->W i=none)(hN:∀x,0<=x->x<(N.length:Int)->x<(N'.length:Int)/\nameOf N' x=nameOf N x):CkM W N' (Z++F) n' i c z:=
 ⟨h.tg,λq=>by obtain⟨a1,a2,a3⟩:=h.x0 q;obtain⟨b1,b2⟩:=hN _ a1 a2;exact⟨a1,b1,by rw[b2];exact a3.more hV⟩,λq=>⟨(h.x1 q).1,(h.x1 q).2.more hV⟩,λq=>(h.x2 q).more hV,λq=>⟨(h.x3 q).1,(h.x3 q).2.more hV⟩,λq=>⟨(h.x4 q).1,hi q,(h.x4 q).2.2⟩,
  λq=>by obtain⟨a1,a2⟩:=h.x5 q;exact⟨a1.app F,by rw[zJ F a1];exact a2.more hV⟩,
  λq=>by obtain⟨a1,a2⟩:=h.x6 q;exact⟨a1.app F,by rw[zJ F a1];exact a2.more hV⟩,
  λq=>by obtain⟨a1,a2,a3⟩:=h.x7 q;exact⟨a1.app F,a2.app F,by rw[zJ F a1,zJ F a2];exact a3.more hV⟩,
  λq=>by obtain⟨a1,a2,⟨a3,a4,a5,a6,a7⟩,a8⟩:=h.x8 q;exact⟨a1.app F,a2.app F,by rw[jp F a2];exact⟨a3,a4,sn a5 hn,sn a6 hn,a7⟩,by rw[zJ F a1,jp F a2];exact a8.more hV⟩,
  h.x9,λq=>by obtain⟨a1,a2,a3⟩:=h.x10 q;exact⟨a1.app F,⟨a2.1,sn a2.2 hn⟩,by rw[jp F a1];exact a3⟩,
  λq=>by obtain⟨a1,a2,a3,a4⟩:=h.x11 q;exact⟨a1.app F,a2.app F,⟨a3.1,sn a3.2 hn⟩,by rw[jp F a1,zJ F a2];exact a4⟩⟩
structure MG (V:Int->Option La)(s:Hp)(Z:List Gh):Prop where
 ok:OkH s
 len:Z.length=s.C.length
 cl:ClV V
 dom:∀x,V x≠none->0<=x/\x<(s.C.length:Int)
 ck:∀(i:Nat) (c:Cel) (z:Gh),s.C[i]?=some c->Z[i]?=some z->CkM V s.N Z (s.C.length:Int) (i:Int) c z
section
variable {V:Int->Option La} {s:Hp} {Z:List Gh} (h:MG V s Z)
include h
theorem MG.inC {a:Int}(ha:Kin Z a):Go.AM.inC s.C a=true:=yc.2 ⟨ha.p0,by have:=ha.p1;rw[h.len] at this;exact this⟩
theorem MG.at {a:Int}(ha:Kin Z a):CkM V s.N Z (s.C.length:Int) a (cellOf s.C a) ⟨mat Z a,rat Z a⟩:=by
 have hz:Z[a.toNat]?=some ⟨mat Z a,rat Z a⟩:=by
  have hl:a.toNat<Z.length:=by have:=ha.p0;have:=ha.p1;omega
  unfold mat rat;rw[rf hl];rfl
 have:=h.ck a.toNat _ _ (xQ<|h.inC ha) hz;rw[show((a.toNat:Nat):Int)=a by have:=ha.p0;omega] at this;exact this
theorem MG.put (c:Cel)(z:Gh)(hc:yC s c=true->CkM V s.N Z (s.C.length:Int) (s.C.length:Int) c z):
  (putS s c).1.2≠0/\(putS s c).2=s\/(putS s c).1.2=0/\(putS s c).1.1=(Z.length:Int)/\MG V (putS s c).2 (Z++[z])/\(putS s c).2={s with C:=s.C++[c]}:=by
 have ok:=h.ok.put c;unfold putS at ok ⊢;split
 .exact .inl ⟨by show(1:Int)≠0;decide,rfl⟩
 .rename_i q;split
  .exact .inl ⟨by show(200:Int)≠0;decide,rfl⟩
  .rename_i q2;rw[oV q,oV q2] at ok;have q:yC s c=true:=zo q
   have hl:=h.len
   have dm:∀i:Nat,s.C.length<=i->V (i:Int)=none:=λi hi=>by
    cases e:V (i:Int) with
    |none=>rfl
    |some v=>have:=h.dom (i:Int) (by rw[e];exact λw=>by cases w);omega
   refine .inr ⟨rfl,by rw[hl],⟨ok,by simp[h.len],h.cl,λx hx=>?_,λi c' z' h1 h2=>?_⟩,rfl⟩
   .have:=h.dom x hx;simp only[re,rD];omega
   .simp only[re,rD];by_cases hi:i<s.C.length
    .dsimp only at h1;rw[sC hi] at h1;rw[sC za] at h2;have ck:=h.ck i c' z' h1 h2;exact ck.more _ za (λ_ _ e=>e) (λe=>(ck.x4 e).2.1) λx h0 h1=>⟨h1,rfl⟩
    .dsimp only at h1;rw[sT za] at h1 h2;by_cases hi2:i=s.C.length
     .subst hi2;rw[tZ] at h1;rw[hl,tZ] at h2;simp only[se,r8] at h1 h2;subst h1;subst h2;exact(hc q).more _ za (λ_ _ e=>e) (λ_=>dm _<|r6 _) λx h0 h1=>⟨h1,rfl⟩
     .rw[ss zj] at h1;cases h1
theorem MG.set (a b:Int)(hk:Go.AM.inC s.C a=true->Kin Z b/\Eqv V (mat Z a) (mat Z b)):MG V (setS s a ⟨5,b,0,0,0⟩).2 Z:=by
 have ok:=h.ok.set a ⟨5,b,0,0,0⟩;rcases w7 s a ⟨5,b,0,0,0⟩ with e|⟨hin,e⟩
 .rw[e];exact h
 .rw[e] at ok ⊢;have hi:=yc.1 hin;refine⟨ok,by simp[h.len],h.cl,λx hx=>by simp only[rU];exact h.dom x hx,λi c z h1 h2=>?_⟩;simp only[rU];dsimp only at h1;rw[sF] at h1;split at h1
  .rename_i q;subst q;split at h1
   .injection h1 with h1
    subst h1;obtain⟨k2,k3⟩:=hk hin;have ez:=(gh_get h2).1;rw[show((a.toNat:Nat):Int)=a by omega] at ez;have no:∀ {n:Int} {P:Prop},n≠5->(5:Int)=n->P:=λh1 h2=>absurd h2.symm h1;exact⟨⟨by show(0:Int)<=5;decide,by show(5:Int)<=11;decide⟩,no zc,no zc,no zc,no zc,no zc,λ_=>⟨k2,by rw[<-ez];exact k3⟩,no zc,no zc,no zc,no zc,no zc,no zc⟩
   .cases h1
  .exact h.ck i c z h1 h2
end
def wa (V:Int->Option La)(x:Int)(v:La):Int->Option La:=λy=>if y=x then some v else V y
theorem MG.bind {V:Int->Option La}{s:Hp}{Z:List Gh}(h:MG V s Z)(x b:Int)(hx:Kin Z x)(h4:(cellOf s.C x).t=4)(hb:Kin Z b)(hcl:∀k,(mat Z b).lift k=mat Z b)(he:(setS s x ⟨5,b,0,0,0⟩).1=0):
  MG (wa V x<|mat Z b) (setS s x ⟨5,b,0,0,0⟩).2 Z/\(∀y v,V y=some v->wa V x (mat Z b) y=some v):=by
 obtain⟨hm,hn,_⟩:=(h.at hx).x4 h4
 have hs:∀y v,V y=some v->wa V x (mat Z b) y=some v:=λy v q=>by
  unfold wa;rw[oV λe=>by rw[e,hn] at q;cases q];exact q
 refine⟨?_,hs⟩;have ok:=h.ok.set x ⟨5,b,0,0,0⟩;rcases w7 s x ⟨5,b,0,0,0⟩ with e|⟨hin,e⟩
 .exfalso;unfold setS at e he;split at he
  .cases he
  .split at he
   .cases he
   .split at he
    .cases he
    .split at he
     .cases he
     next q1 q2 q3 q4=>rw[oV q1,oV q2,oV q3,oV q4] at e;have:=t8 (λs=>s.T.length) e;simp at this
 .rw[e] at ok ⊢;have hi:=yc.1 hin;refine⟨ok,by simp[h.len],λy v q=>?_,λy hy=>?_,λi c z h1 h2=>?_⟩
  .unfold wa at q;split at q
   .injection q with q;rw[<-q];exact hcl
   .exact h.cl y v q
  .simp only[rU];unfold wa at hy;split at hy
   next q=>rw[q];exact hi
   .exact h.dom y hy
  .simp only[rU];dsimp only at h1;rw[sF] at h1;split at h1
   .rename_i q;subst q;split at h1
    .injection h1 with h1
     subst h1;have ez:=(gh_get h2).1;rw[show((x.toNat:Nat):Int)=x by omega] at ez;have no:∀ {n:Int} {P:Prop},n≠5->(5:Int)=n->P:=λh1 h2=>absurd h2.symm h1
     exact⟨⟨by show(0:Int)<=5;decide,by show(5:Int)<=11;decide⟩,no zc,no zc,no zc,no zc,no zc,λ_=>⟨hb,by
      rw[<-ez];have hm:mat Z x=.var x:=hm;rw[hm];exact .of (.del<|by unfold wa;rw[oX rfl])⟩,no zc,no zc,no zc,no zc,no zc,no zc⟩
    .cases h1
   next q=>have ck:=h.ck i c z h1 h2;have:=ck.more [] (ru _) hs (λe4=>by unfold wa;rw[oV za];exact(ck.x4 e4).2.1) λx h0 h1=>⟨h1,rfl⟩;rw[rp] at this;exact this
def Keep (n:Int->Prop)(s s':Hp):Prop:=s.C.length<=s'.C.length/\∀(i:Nat) (c:Cel),s.C[i]?=some c->n c.t->s'.C[i]?=some c
abbrev NS:Hp->Hp->Prop:=Keep λt=>t≠8
abbrev NF:Hp->Hp->Prop:=Keep λt=>t=4
section
variable {n:Int->Prop} {s t u:Hp}
theorem Keep.refl (s:Hp):Keep n s s:=⟨r6 _,λ_ _ h _=>h⟩
theorem Keep.trans (h:Keep n s t)(g:Keep n t u):Keep n s u:=⟨rS h.1 g.1,λi c e q=>g.2 i c (h.2 i c e q) q⟩
theorem Keep.put (c:Cel)(h:Keep n s t):Keep n s (putS t c).2:=by
 rcases qU t c with e|e<;>rw[e]
 .exact h
 .exact⟨by have:=h.1;simp only[re,rD];omega,λi c' e q=>by
   have:=h.2 i c' e q;dsimp only;rw[sC<|by rcases Nat.lt_or_ge i t.C.length with q|q;exact q;rw[ss q] at this;cases this];exact this⟩
theorem Keep.set (a:Int)(c:Cel)(h:Keep n s t)(ha:inC s.C a=true->¬n (cellOf s.C a).t):Keep n s (setS t a c).2:=by
 rcases w7 t a c with e|⟨hin,e⟩<;>rw[e]
 .exact h
 .refine⟨by simp only[rU];exact h.1,λi c' e q=>?_⟩;dsimp only;rw[sF];split
  .rename_i q2;exfalso;have hi:i<s.C.length:=by rcases Nat.lt_or_ge i s.C.length with g|g;exact g;rw[ss g] at e;cases e
   have h0:=(yc.1 hin).1;have hs:inC s.C a=true:=yc.2 ⟨h0,za⟩;have:=xQ hs;rw[q2,e] at this;injection this with this
   exact ha hs (by rw[<-this];exact q)
  .exact h.2 i c' e q
theorem Keep.cell (h:Keep n s t){a:Int}(ha:inC s.C a=true)(hn:n (cellOf s.C a).t):inC t.C a=true/\cellOf t.C a=cellOf s.C a:=by
 have:=yc.1 ha;have hl:=h.1;have hin:inC t.C a=true:=yc.2 ⟨this.1,za⟩;refine⟨hin,?_⟩;have h1:=h.2 _ _ (xQ ha) hn;rw[xQ hin] at h1;injection h1
end
theorem NS.nf {s t:Hp}(h:NS s t):NF s t:=⟨h.1,λi c e q=>h.2 i c e<|by rw[q];decide⟩
theorem uK {x:Int}(h0: -4000000000000000000<=x)(h1:x<=4000000000000000000):wr x=x:=w64 za za
structure Me (V:Int->Option La)(Z:List Gh)(a:Int)(M:La):Prop where
 k:Kin Z a
 e:Eqv V (mat Z a) M
section
variable {V:Int->Option La}
theorem Me.app {Z:List Gh}{a:Int}{M:La}(h:Me V Z a M)(F:List Gh):Me V (Z++F) a M:=⟨h.k.app F,by rw[zJ F h.k];exact h.e⟩
theorem Me.tr (hV:ClV V){Z:List Gh}{a:Int}{M M':La}(h:Me V Z a M)(e:Eqv V M M'):Me V Z a M':=⟨h.k,h.e.trans hV e⟩
theorem Me.self {Z:List Gh}{a:Int}(h:Kin Z a):Me V Z a (mat Z a):=⟨h,.refl _⟩
def UpM (V:Int->Option La)(r:Rd)(Z:List Gh)(r':Rd)(P:List Gh->Prop):Prop:=∃E,MG V r'.s (Z++E)/\NS r.s r'.s/\r'.s.N=r.s.N/\(r'.e=0->r.e=0/\P (Z++E))
theorem UpM.mk0 {r r':Rd}{Z:List Gh}{P:List Gh->Prop}(h:MG V r.s Z)(e:r'.s=r.s)(hp:r'.e=0->r.e=0/\P Z):UpM V r Z r' P:=
 ⟨[],by rw[rp,e];exact h,by rw[e];exact .refl _,by rw[e],by rw[rp];exact hp⟩
theorem UpM.seq {r r1 r2:Rd}{Z:List Gh}{P Q:List Gh->Prop}(h:UpM V r Z r1 P)(g:∀E,MG V r1.s (Z++E)->r.s.C.length<=r1.s.C.length->(r1.e=0->P (Z++E))->UpM V r1 (Z++E) r2 Q):UpM V r Z r2 Q:=by
 obtain⟨E,a1,a2,a4,a3⟩:=h;obtain⟨F,b1,b2,b4,b3⟩:=g E a1 a2.1 λe=>(a3 e).2;refine⟨E++F,by rw[<-rh];exact b1,a2.trans b2,b4.trans a4,λe=>?_⟩;rw[<-rh];exact⟨(a3 (b3 e).1).1,(b3 e).2⟩
theorem UpM.imp {r r':Rd}{Z:List Gh}{P Q:List Gh->Prop}(h:UpM V r Z r' P)(g:∀E,r'.e=0->P (Z++E)->Q (Z++E)):UpM V r Z r' Q:=by
 obtain⟨E,a1,a2,a4,a3⟩:=h;exact⟨E,a1,a2,a4,λe=>⟨(a3 e).1,g E e (a3 e).2⟩⟩
theorem UpM.and {r r':Rd}{Z:List Gh}{P Q:List Gh->Prop}(h:UpM V r Z r' P)(g:∀E,r.e=0->Q (Z++E)):UpM V r Z r' (λW=>P W/\Q W):=by
 obtain⟨E,a1,a2,a4,a3⟩:=h;exact⟨E,a1,a2,a4,λe=>⟨(a3 e).1,(a3 e).2,g E (a3 e).1⟩⟩
theorem f5 {r:Rd}{Z:List Gh}(h:MG V r.s Z)(c:Cel)(z:Gh)(hc:r.e=0->yC r.s c=true->CkM V r.s.N Z (r.s.C.length:Int) (r.s.C.length:Int) c z):
  UpM V r Z (putR r c).2 (λW=>(Kin W (putR r c).1/\mat W (putR r c).1=z.m/\rat W (putR r c).1=z.r)/\(putR r c).2.s.C.length=r.s.C.length+1/\yC r.s c=true):=by
 unfold putR;split
 .rename_i e0
  have hf:(putS r.s c).1.2=0->yC r.s c=true:=λe=>by
   unfold putS at e;split at e
   .cases e
   next q=>exact zo q
  rcases h.put c z (hc e0) with⟨a,b⟩|⟨a,b,k,e⟩
  .exact UpM.mk0 h b λe=>absurd e a
  .have ml:=J9 Z z;refine⟨[z],k,Keep.put c<|.refl _,by dsimp only;rw[e],λ_=>⟨e0,?_⟩⟩;dsimp only;rw[b];exact⟨⟨ml.2.2,ml.1,ml.2.1⟩,by rw[e];simp,hf a⟩
 next e0=>exact UpM.mk0 h rfl (λe=>absurd e e0)
theorem bnd_m {r:Rd}{Z:List Gh}(h:MG V r.s Z)(x:Int)(hx:x<=((r.s.C.length:Int)+1)*2097152):UpM V r Z (putR r ⟨3,x,0,0,0⟩).2 (λW=>Me V W (putR r ⟨3,x,0,0,0⟩).1 (.bv x.toNat)/\0<=x):=by
 have no:∀ {m:Int} {P:Prop},m≠3->(3:Int)=m->P:=λh e=>absurd e.symm h;have f0:yC r.s ⟨3,x,0,0,0⟩=true->0<=x:=λf=>by unfold yC at f;exact zo f
 refine(f5 h ⟨3,x,0,0,0⟩ ⟨.bv x.toNat,[]⟩ λ_ f=>?_).imp λE _ k=>⟨⟨k.1.1,by rw[k.1.2.1];exact .refl _⟩,f0 k.2.2⟩;exact⟨⟨by show(0:Int)<=3;decide,by show(3:Int)<=11;decide⟩,no zc,no zc,no zc,λ_=>⟨⟨f0 f,hx⟩,.refl _⟩,no zc,no zc,no zc,no zc,no zc,no zc,no zc,no zc⟩
theorem nil_m {r:Rd}{Z:List Gh}(h:MG V r.s Z):UpM V r Z (putR r ⟨9,0,0,0,0⟩).2 (λW=>Kin W (putR r ⟨9,0,0,0,0⟩).1/\rat W (putR r ⟨9,0,0,0,0⟩).1=[]/\(putR r ⟨9,0,0,0,0⟩).2.s.C.length=r.s.C.length+1):=by
 have no:∀ {m:Int} {P:Prop},m≠9->(9:Int)=m->P:=λh e=>absurd e.symm h;refine(f5 h ⟨9,0,0,0,0⟩ ⟨laD,[]⟩ λ_ _=>?_).imp λE _ k=>⟨k.1.1,k.1.2.2,k.2.1⟩;exact⟨⟨by show(0:Int)<=9;decide,by show(9:Int)<=11;decide⟩,no zc,no zc,no zc,no zc,no zc,no zc,no zc,no zc,no zc,λ_=>rfl,no zc,no zc⟩
theorem W6 {r:Rd}{Z:List Gh}(h:MG V r.s Z)(a row x y:Int){A:La}{E:List Ent}{D:Nat}(hx:r.e=0->Me V Z a A/\Kin Z row/\rat Z row=E/\x=(E.length:Int)/\y=(D:Int)/\x<=(r.s.C.length:Int)/\y<=(r.s.C.length:Int)/\RwOk E D):
  UpM V r Z (putR r ⟨8,a,row,x,y⟩).2 (λW=>Me V W (putR r ⟨8,a,row,x,y⟩).1<|A.su<|sgE E D):=by
 have no:∀ {m:Int} {P:Prop},m≠8->(8:Int)=m->P:=λh e=>absurd e.symm h;refine(f5 h ⟨8,a,row,x,y⟩ ⟨A.su<|sgE E D,[]⟩ λe _=>?_).imp λF _ k=>⟨k.1.1,by rw[k.1.2.1];exact .refl _⟩;obtain⟨h1,h2,h3,h4,h5,h6,h7,h8⟩:=hx e;subst h3;exact⟨⟨by show(0:Int)<=8;decide,by show(8:Int)<=11;decide⟩,no zc,no zc,no zc,no zc,no zc,no zc,no zc,no zc,λ_=>⟨h1.k,h2,⟨h4,zm,h6,h7,by dsimp only;rw[h5,rC];exact h8⟩,by dsimp only;rw[h5,rC];exact(h1.e.su h.cl _).symm⟩,no zc,no zc,no zc⟩
theorem one_m {r:Rd}{Z:List Gh}(h:MG V r.s Z)(b:Int){B:La}(hb:r.e=0->Me V Z b B):UpM V r Z (putR r ⟨6,b,0,0,0⟩).2 (λW=>Me V W (putR r ⟨6,b,0,0,0⟩).1<|.lam B):=by
 have no:∀ {m:Int} {P:Prop},m≠6->(6:Int)=m->P:=λh e=>absurd e.symm h;refine(f5 h ⟨6,b,0,0,0⟩ ⟨.lam B,[]⟩ λe _=>?_).imp λF _ k=>⟨k.1.1,by rw[k.1.2.1];exact .refl _⟩;exact⟨⟨by show(0:Int)<=6;decide,by show(6:Int)<=11;decide⟩,no zc,no zc,no zc,no zc,no zc,no zc,λ_=>⟨(hb e).k,(hb e).e.lam.symm⟩,no zc,no zc,no zc,no zc,no zc⟩
theorem two_m {r:Rd}{Z:List Gh}(h:MG V r.s Z)(f x:Int){F A:La}(hx:r.e=0->Me V Z f F/\Me V Z x A):UpM V r Z (putR r ⟨7,f,x,0,0⟩).2 (λW=>Me V W (putR r ⟨7,f,x,0,0⟩).1<|.app F A):=by
 have no:∀ {m:Int} {P:Prop},m≠7->(7:Int)=m->P:=λh e=>absurd e.symm h;refine(f5 h ⟨7,f,x,0,0⟩ ⟨.app F A,[]⟩ λe _=>?_).imp λG _ k=>⟨k.1.1,by rw[k.1.2.1];exact .refl _⟩;obtain⟨h1,h2⟩:=hx e;exact⟨⟨by show(0:Int)<=7;decide,by show(7:Int)<=11;decide⟩,no zc,no zc,no zc,no zc,no zc,no zc,no zc,λ_=>⟨h1.k,h2.k,(h1.e.app h2.e).symm⟩,no zc,no zc,no zc,no zc⟩
theorem dum_m {r:Rd}{Z:List Gh}(h:MG V r.s Z)(row l:Int){E:List Ent}{D:Nat}(hx:r.e=0->Kin Z row/\rat Z row=E/\l=(D:Int)/\l<=(r.s.C.length:Int)):
  UpM V r Z (putR r ⟨10,row,l,0,0⟩).2 (λW=>Kin W (putR r ⟨10,row,l,0,0⟩).1/\rat W (putR r ⟨10,row,l,0,0⟩).1=.dum D::E/\(putR r ⟨10,row,l,0,0⟩).2.s.C.length=r.s.C.length+1):=by
 have no:∀ {m:Int} {P:Prop},m≠10->(10:Int)=m->P:=λh e=>absurd e.symm h;refine(f5 h ⟨10,row,l,0,0⟩ ⟨laD,.dum D::E⟩ λe _=>?_).imp λF _ k=>⟨k.1.1,k.1.2.2,k.2.1⟩;obtain⟨h1,h2,h3,h4⟩:=hx e;exact⟨⟨by show(0:Int)<=10;decide,by show(10:Int)<=11;decide⟩,no zc,no zc,no zc,no zc,no zc,no zc,no zc,no zc,no zc,no zc,λ_=>⟨h1,⟨zm,h4⟩,by dsimp only;rw[h2,h3,rC]⟩,no zc⟩
theorem bind_m {r:Rd}{Z:List Gh}(h:MG V r.s Z)(row b:Int){E:List Ent}(hx:r.e=0->Kin Z row/\rat Z row=E/\Kin Z b):
  UpM V r Z (putR r ⟨11,row,b,0,0⟩).2 (λW=>Kin W (putR r ⟨11,row,b,0,0⟩).1/\rat W (putR r ⟨11,row,b,0,0⟩).1=.bnd (mat Z b) 0::E/\(putR r ⟨11,row,b,0,0⟩).2.s.C.length=r.s.C.length+1):=by
 have no:∀ {m:Int} {P:Prop},m≠11->(11:Int)=m->P:=λh e=>absurd e.symm h;refine(f5 h ⟨11,row,b,0,0⟩ ⟨laD,.bnd (mat Z b) 0::E⟩ λe _=>?_).imp λF _ k=>⟨k.1.1,k.1.2.2,k.2.1⟩;obtain⟨h1,h2,h3⟩:=hx e;exact⟨⟨by show(0:Int)<=11;decide,by show(11:Int)<=11;decide⟩,no zc,no zc,no zc,no zc,no zc,no zc,no zc,no zc,no zc,no zc,no zc,λ_=>⟨h1,h3,⟨ru _,zm⟩,by dsimp only;rw[h2];rfl⟩⟩
theorem lift_m {r:Rd}{Z:List Gh}(h:MG V r.s Z)(a u:Int){A:La}{D:Nat}(hu:r.e=0->Me V Z a A/\u=(D:Int)/\u<=(r.s.C.length:Int)):UpM V r Z (xC r a u).2 (λW=>Me V W (xC r a u).1<|A.sh D 0):=by
 unfold xC;split
 next q=>exact UpM.mk0 h rfl λe=>⟨e,by obtain⟨h1,h2,_⟩:=hu e;rw[(za:D=0),La.sh_zero];exact h1⟩
 .refine((nil_m h).and (Q:=λW=>Me V W a A/\u=(D:Int)/\u<=(r.s.C.length:Int)) λE e=>⟨(hu e).1.app E,(hu e).2⟩).seq λE g hl k=>?_;refine(W6 g a _ 0 u (A:=A) (E:=[]) (D:=D) λe=>?_).imp λF _ k=>by rw[<-su_nil];exact k
  obtain⟨⟨k1,k2,k3⟩,k4,k5,k6⟩:=k e;exact⟨k4,k1,k2,rfl,k5,za,za,λe he=>nomatch he⟩
theorem fT {s:Hp}{Z:List Gh}(h:MG V s Z):∀(n:Nat) (r:Rd) (row:Int) (j:Nat),r.s=s->r.f.toNat+1<=n->Kin Z row->j<=2000000->
  (zR n r row j).2.s=s/\((zR n r row j).2.e=0->r.e=0)/\((zR n r row j).1.2=true->∃b,Kin Z b/\(zR n r row j).1.1=cellOf s.C b/\rat Z b=(rat Z row).drop j/\10<=(cellOf s.C b).t)/\((zR n r row j).1.2=false->(zR n r row j).2.e=0->(rat Z row).length<=j)
 |0,r,_,_,_,hn,_,_=>absurd hn za
 |n+1,r,row,j,e,hn,k,hj=>by
  have hin:=h.inC k;have ck:=h.at k;rw[zR,e];have fl:∀x:Int,x≠0->(yl r x).s=s/\((yl r x).e=0->r.e=0):=λx hx=>⟨e,λq=>absurd q<|wT r hx⟩;split
  next q=>rw[hin] at q;cases q
  .split
   .exact⟨(fl 1 zc).1,(fl 1 zc).2,(λq=>by cases q),λ_ q=>absurd q<|wT r zc⟩
   .rename_i q9;split
    next q=>refine⟨e,λq=>q,(λq=>by cases q),λ_ _=>?_⟩;have:rat Z row=[]:=ck.x9 q;rw[this];exact sY _
    .rename_i q10;split
     next q0=>refine⟨e,λq=>q,λ_=>⟨row,k,rfl,?_,za⟩,(λq=>by cases q)⟩;rw[(za:j=0),sH]
     .rename_i q0;split
      .exact⟨(fl 80 zc).1,(fl 80 zc).2,(λq=>by cases q),λ_ q=>absurd q<|wT r zc⟩
      .rename_i qf;obtain⟨i,rfl⟩:∃i,j=i+1:=⟨j-1,za⟩;have hw:wr (((i+1:Nat):Int)-1)=(i:Int):=by rw[uK za za];omega
       rw[hw]
       have kk:Kin Z (cellOf s.C row).a/\(rat Z row).drop (i+1)=(rat Z (cellOf s.C row).a).drop i/\((rat Z (cellOf s.C row).a).length<=i->(rat Z row).length<=i+1):=by
        have:=ck.tg;by_cases h10:(cellOf s.C row).t=10
        .obtain⟨m1,_,m3⟩:=ck.x10 h10;have m3:rat Z row=_:=m3;exact⟨m1,by rw[m3];rfl,λq=>by rw[m3,r5];omega⟩
        .obtain⟨m1,_,_,m3⟩:=ck.x11 za;have m3:rat Z row=_:=m3;exact⟨m1,by rw[m3];rfl,λq=>by rw[m3,r5];omega⟩
       obtain⟨i1,i2,i3,i4⟩:=fT h n ⟨s,r.f-1,r.e⟩ (cellOf s.C row).a i rfl zm kk.1 za;exact⟨i1,i2,λq=>by rw[kk.2.1];exact i3 q,λq1 q2=>kk.2.2<|i4 q1 q2⟩
structure ScM (Z:List Gh)(n:Int)(s:Cel)(E:List Ent)(D:Nat):Prop where
 r:Kin Z s.b
 e:rat Z s.b=E
 c:s.c=(E.length:Int)
 d:s.d=(D:Int)
 c1:s.c<=n
 d1:s.d<=n
 w:RwOk E D
theorem ScM.app {Z:List Gh}{n m:Int}{s:Cel}{E:List Ent}{D:Nat}(h:ScM Z n s E D)(F:List Gh)(hn:n<=m):ScM (Z++F) m s E D:=⟨h.r.app F,by rw[jp F h.r];exact h.e,h.c,h.d,sn h.c1 hn,sn h.d1 hn,h.w⟩
theorem los_m (n:Nat){r:Rd}{Z:List Gh}(h:MG V r.s Z)(s:Cel)(j:Int){E:List Ent}{D:Nat}(hn:r.f.toNat+1<=n)(hs:ScM Z (r.s.C.length:Int) s E D)(j0:0<=j)(j1:j<=(r.s.C.length:Int)*2097152):UpM V r Z (losR n r s j).2 (λW=>Me V W (losR n r s j).1<|sgE E D j.toNat):=by
 have hC:=h.ok.C;obtain⟨kr,er,ec,ed,c1,d1,hw⟩:=hs
 have ew:wr (wr (j-s.c)+s.d)=j-s.c+s.d:=by
  rw[uK (x:=j-s.c) za za,uK za za]
 have far:¬j<s.c->sgE E D j.toNat=.bv (j-s.c+s.d).toNat:=λq=>by
  unfold sgE;rw[ss za];show La.bv (j.toNat-E.length+D)=_;congr 1;omega
 unfold losR;rw[ew];split
 .rename_i qc;have en:=fT h n r s.b j.toNat rfl hn kr za;rw[show((j.toNat:Nat):Int)=j by omega] at en;generalize zR n r s.b j=z at*;obtain⟨⟨c,b⟩,r1⟩:=z;obtain⟨e1,e2,e3,e4⟩:=en;dsimp only at e1 e2 e3 e4 ⊢;have g:MG V r1.s Z:=by rw[e1];exact h
  have tr:∀ {r2:Rd} {P:List Gh->Prop},UpM V r1 Z r2 P->UpM V r Z r2 P:=λ⟨E,a1,a2,a4,a3⟩=>⟨E,a1,by rw[e1] at a2;exact a2,by rw[e1] at a4;exact a4,λe=>⟨e2 (a3 e).1,(a3 e).2⟩⟩;split
  .rename_i q;obtain⟨b,hb,eb,rb,t10⟩:=e3 q;have ck:=h.at hb;rw[<-eb] at ck t10;rw[er] at rb;have hl:j.toNat<E.length:=za
   have eg:E[j.toNat]?=some (E[j.toNat]):=rf hl;have hd:rat Z b=E[j.toNat]::E.drop (j.toNat+1):=by rw[rb,tI hl]
   have hm:E[j.toNat]∈E:=td hl;split
   .rename_i q10;obtain⟨_,m2,m3⟩:=ck.x10 q10;have m3:rat Z b=_:=m3;rw[hd] at m3;injection m3 with m3 _
    have hx:=hw _ hm;rw[m3] at hx;have hx:c.b.toNat<D:=hx;rw[uK (x:=s.d-1) za za,uK za za];refine tr<|(bnd_m g _<|by rw[e1];omega).imp λF _ k=>?_
    have:sgE E D j.toNat=.bv (s.d-1-c.b).toNat:=by
     unfold sgE;rw[eg,m3];show La.bv (D-1-c.b.toNat)=_;congr 1;omega
    rw[this];exact k.1
   .rename_i q10;have:=ck.tg;obtain⟨_,m2,m3,m4⟩:=ck.x11 za;have m4:rat Z b=_:=m4;rw[hd] at m4;injection m4 with m4 _
    have hx:=hw _ hm;rw[m4] at hx;have hx:c.c.toNat<=D:=hx;rw[uK (x:=s.d-c.c) za za];refine tr<|(lift_m g c.b (s.d-c.c) (A:=mat Z c.b) (D:=D-c.c.toNat) λ_=>⟨.self m2,za,by rw[e1];omega⟩).imp λF _ k=>?_
    have:sgE E D j.toNat=(mat Z c.b).sh (D-c.c.toNat) 0:=by
     unfold sgE;rw[eg,m4]
    rw[this];exact k
  .rename_i q;have q:b=false:=zo q
   refine tr<|(bnd_m g _<|by rw[e1];omega).imp λF e k=>?_
   exfalso
   have e0:r1.e=0:=by
    by_cases w:r1.e=0
    .exact w
    .rw[putR,oV w] at e;exact absurd e w
   have:=e4 q e0;rw[er] at this;omega
 next q=>exact(bnd_m h _ za).imp λF _ k=>by rw[far q];exact k.1
theorem lam_m {r:Rd}{Z:List Gh}(h:MG V r.s Z)(s:Cel)(b:Int){B:La}{E:List Ent}{D:Nat}(hs:ScM Z (r.s.C.length:Int) s E D)(hb:Me V Z b B):UpM V r Z (lamR r s b).2 (λW=>Me V W (lamR r s b).1<|(La.lam B).su<|sgE E D):=by
 have hC:=h.ok.C;obtain⟨kr,er,ec,ed,c1,d1,hw⟩:=hs;unfold lamR zY;rw[uK (x:=s.c+1) za za,uK (x:=s.d+1) za za];refine((dum_m h s.b s.d (E:=E) (D:=D) λ_=>⟨kr,er,ed,d1⟩).and (Q:=λW=>Me V W b B) λF _=>hb.app F).seq λF g hl k=>?_;generalize putR r ⟨10,s.b,s.d,0,0⟩=z at*;refine UpM.seq (W6 g b z.1 (s.c+1) (s.d+1) (A:=B) (E:=.dum D::E) (D:=D+1) λe=>?_) λG g2 hl2 k2=>?_
 .obtain⟨⟨k1,k2,k3⟩,k4⟩:=k e;exact⟨k4,k1,k2,by rw[r5];omega,za,za,za,rw_up hw⟩
 .refine(one_m g2 _ k2).imp λ_ _ k=>?_;rw[La.su,su_sgup hw];exact k
theorem app_m {r:Rd}{Z:List Gh}(h:MG V r.s Z)(s:Cel)(f x:Int){A X:La}{E:List Ent}{D:Nat}(hs:ScM Z (r.s.C.length:Int) s E D)(hf:Me V Z f A)(hx:Me V Z x X):UpM V r Z (appR r s f x).2 (λW=>Me V W (appR r s f x).1<|(La.app A X).su<|sgE E D):=by
 have hC:=h.ok.C;obtain⟨kr,er,ec,ed,c1,d1,hw⟩:=hs;unfold appR zY;rw[uK (x:=s.c+0) za za,uK (x:=s.d+0) za za,tu,tu];refine(W6 h f s.b s.c s.d (A:=A) λe=>⟨hf,kr,er,ec,ed,c1,d1,hw⟩).seq λF g hl k=>?_;generalize putR r ⟨8,f,s.b,s.c,s.d⟩=z at*;refine UpM.seq ((W6 g x s.b s.c s.d (A:=X) λe=>⟨hx.app F,kr.app F,by rw[jp F kr];exact er,ec,ed,za,za,hw⟩).and (Q:=λW=>Me V W z.1<|A.su<|sgE E D) λG e=>(k e).app G) λG g2 hl2 k2=>two_m g2 _ _ λe=>⟨(k2 e).2,(k2 e).1⟩
end
inductive Ch (s:Hp):Int->Int->Prop
 |refl (a:Int):Ch s a a
 |step {a b:Int}:inC s.C a=true->(cellOf s.C a).t=5->Ch s (cellOf s.C a).a b->Ch s a b
theorem Ch.trans {s:Hp}{a b c:Int}(h:Ch s a b)(g:Ch s b c):Ch s a c:=by
 induction h with
 |refl _=>exact g
 |step h1 h2 _ ih=>exact .step h1 h2<|ih g
theorem Ch.ns {s t:Hp}{a b:Int}(h:Ch s a b)(g:NS s t):Ch t a b:=by
 induction h with
 |refl _=>exact .refl _
 |step h1 h2 _ ih=>
  obtain⟨c1,c2⟩:=Keep.cell g h1 (by show _≠(8:Int);rw[h2];decide);exact .step c1 (by rw[c2];exact h2) (by rw[c2];exact ih)
theorem Ch.deref {s:Hp}:∀(n:Nat) (a:Int),Ch s a (vk s.C n a)
 |0,a=>.refl a
 |n+1,a=>by
  rw[vk];split
  .exact .refl a
  .rename_i q;split
   .exact .refl a
   next q2=>exact .step (zo q) (zo q2)<|Ch.deref n _
theorem Ch.mid {s:Hp}{e:Int}(h5:(cellOf s.C e).t≠5):∀(n:Nat) (a:Int),Ch s a e->Ch s (vk s.C n a) e/\(vk s.C n a=e\/(cellOf s.C<|vk s.C n a).t=5)
 |0,a,c=>by
  refine⟨c,?_⟩;cases c with
  |refl=>exact .inl rfl
  |step h1 h2 _=>exact .inr h2
 |n+1,a,c=>by
  rw[vk];cases c with
  |refl=>
   split
   .exact⟨.refl _,.inl rfl⟩
   .exact⟨.refl _,.inl rfl⟩
  |step h1 h2 h3=>
   rw[oV<|by rw[h1];decide,oV λw=>w h2];exact Ch.mid h5 n _ h3
section
variable {V:Int->Option La}
structure VisM (V:Int->Option La)(Z:List Gh)(C:List Cel)(x:Cel×Int)(A:La):Prop where
 i:inC C x.2=true
 c:x.1=cellOf C x.2
 m:Me V Z x.2 A
 n5:x.1.t≠5
 n9:x.1.t<9
theorem Ch.me {s:Hp}{Z:List Gh}(h:MG V s Z){a b:Int}{A:La}(c:Ch s a b)(k:Me V Z a A):Me V Z b A:=by
 induction c with
 |refl _=>exact k
 |step h1 h2 _ ih=>
  have:=(h.at k.k).x5 h2;exact ih ⟨this.1,(this.2.symm).trans h.cl k.e⟩
theorem jT {r:Rd}{a:Int}(e:(zt r a).2.e=0):r.e=0/\(zt r a).1.2=zX r.s.C a/\inC r.s.C (zX r.s.C a)=true/\(zt r a).1.1=cellOf r.s.C (zX r.s.C a)/\(zt r a).1.1.t≠5/\(zt r a).1.1.t<9:=by
 unfold zt at e ⊢;split
 next q=>rw[oX q] at e;exact absurd e<|wT r zc
 .rename_i q1;rw[oV q1] at e;split
  next q=>rw[oX q] at e;exact absurd e<|wT r zc
  .rename_i q2;rw[oV q2] at e;split
   next q=>rw[oX q] at e;exact absurd e<|wT r zc
   .rename_i q3;rw[oV q3] at e;split
    next q=>rw[oX q] at e;exact absurd e<|wT r zc
    .rename_i q4;rw[oV q4] at e;split
     next q=>rw[oX q] at e;exact absurd e q
     next q5=>exact⟨zo q5,rfl,zo q1,rfl,q3,by simp only;omega⟩
theorem ut {r:Rd}{Z:List Gh}(h:MG V r.s Z){a:Int}{A:La}(k:r.e=0->Me V Z a A)(e:(zt r a).2.e=0):r.e=0/\VisM V Z r.s.C (zt r a).1 A:=by
 obtain⟨e0,v1,v2,v3,v4,v5⟩:=jT e;exact⟨e0,by rw[v1];exact v2,by rw[v1];exact v3,by rw[v1];exact(Ch.deref _ _).me h<|k e0,v4,v5⟩
theorem level_m (n:Nat){r:Rd}{Z:List Gh}(h:MG V r.s Z)(x:Cel×Int)(s:Cel){A:La}{E:List Ent}{D:Nat}(hn:r.f.toNat+1<=n)(hs:ScM Z (r.s.C.length:Int) s E D)(hx:VisM V Z r.s.C x A)(n8:x.1.t≠8):UpM V r Z (xS n x.1 x.2 r s).2 (λW=>Me V W (xS n x.1 x.2 r s).1<|A.su<|sgE E D):=by
 obtain⟨c,t⟩:=x;obtain⟨hi,hc,hm,n5,n9⟩:=hx;dsimp only at*;have hV:=h.cl;have ck:=h.at hm.k;rw[<-hc] at ck;have to:∀ {B:La},Eqv V (mat Z t) B->Eqv V (B.su<|sgE E D) (A.su<|sgE E D):=λq=>((q.symm).trans hV hm.e).su hV _;unfold xS;split
 next q=>obtain⟨⟨b0,b2⟩,b1⟩:=ck.x3 q;have hl:=hm.k.p1;rw[h.len] at hl;exact(los_m n h s c.a hn hs b0 za).imp λF _ k=>k.tr hV<|to b1
 .rename_i q3;split
  next q=>obtain⟨k1,k2⟩:=ck.x6 q;exact(lam_m h s c.a hs<|.self k1).imp λF _ k=>k.tr hV<|to k2
  .rename_i q6;split
   next q=>obtain⟨k1,k2,k3⟩:=ck.x7 q;exact(app_m h s c.a c.b hs (.self k1)<|.self k2).imp λF _ k=>k.tr hV<|to k3
   .rename_i q7;refine UpM.mk0 h rfl λe=>⟨e,hm.k,?_⟩;have tg:=ck.tg;have same:∀ {B:La},Eqv V (mat Z t) B->B.su (sgE E D)=B->Eqv V (mat Z t) (A.su<|sgE E D):=λ{B} q1 q2=>q1.trans hV (by have:=to q1;rw[q2] at this;exact this);by_cases q0:c.t=0
    .exact same (ck.x0 q0).2.2 rfl
    .by_cases q1:c.t=1
     .exact same (ck.x1 q1).2 rfl
     .by_cases q2:c.t=2
      .exact same (ck.x2 q2) rfl
      .have q4:=(ck.x4 za).1;have q4:mat Z t=.var t:=q4;exact same (B:=.var t) (by rw[q4];exact .refl _) rfl
theorem spun_m (n:Nat){u:(Cel×Int)×Rd}{Z:List Gh}(h:MG V u.2.s Z)(s:Cel){A:La}{E:List Ent}{D:Nat}(hn:u.2.f.toNat+1<=n)(hs:ScM Z (u.2.s.C.length:Int) s E D)(hu:u.2.e=0->VisM V Z u.2.s.C u.1 A/\u.1.1.t≠8):UpM V u.2 Z (vv n u s).2 (λW=>Me V W (vv n u s).1<|A.su<|sgE E D):=by
 unfold vv;split
 next q=>exact UpM.mk0 h rfl λe=>absurd e q
 .rename_i q;have q:u.2.e=0:=zo q
  obtain⟨hx,n8⟩:=hu q;split
  .rename_i q0;refine UpM.mk0 h rfl λe=>⟨e,?_⟩;have e1:E=[]:=rk (by have:=hs.c;omega);have e2:D=0:=by have:=hs.d;omega
   rw[e1,e2,su_none];exact hx.m
  .exact level_m n h u.1 s hn hs hx n8
theorem Zt {r:Rd}{Z:List Gh}(h:MG V r.s Z)(a b:Int)(hk:r.e=0->Kin Z b/\Eqv V (mat Z a) (mat Z b)):MG V (zI r a b).s Z/\(zI r a b).s.N=r.s.N/\((zI r a b).e=0->r.e=0):=by
 unfold zI;split
 .rename_i q;refine⟨h.set a b λ_=>hk q.1,?_,λ_=>q.1⟩
  .rcases w7 r.s a ⟨5,b,0,0,0⟩ with e|⟨_,e⟩<;>rw[e]
 .exact⟨h,rfl,λe=>e⟩
mutual
theorem YX:∀(n:Nat) (r:Rd) (s:Cel) (Z:List Gh) (A:La) (E:List Ent) (D:Nat),2*r.f.toNat+2<=n->MG V r.s Z->ScM Z (r.s.C.length:Int) s E D->Me V Z s.a A->UpM V r Z (zA n r s).2 (λW=>Me V W (zA n r s).1<|A.su<|sgE E D)
 |0,_,_,_,_,_,_,hn,_,_,_=>absurd hn za
 |n+1,r,s,Z,A,E,D,hn,h,hs,ha=>by
  rw[zA];have vs:=wj r s.a;have vf:=xr r s.a;have vu:=λe=>ut h (a:=s.a) (A:=A) (λ_=>ha) e;generalize zt r s.a=u at*;have g:MG V u.2.s Z:=by rw[vs];exact h
  have sp:=lA n u Z A (λe=>by have:=vf.2 e;omega) g (λe=>by rw[vs];exact(vu e).2);have sf:=bo n u
  have r1:UpM V r Z (yA n u).2 (λW=>(VisM V W (yA n u).2.s.C (yA n u).1 A/\(yA n u).1.1.t≠8)):=by
   obtain⟨F,a1,a2,a4,a3⟩:=sp;exact⟨F,a1,by rw[vs] at a2;exact a2,by rw[a4,vs],λe=>⟨(vu (a3 e).1).1,(a3 e).2⟩⟩
  refine r1.seq λF g2 hl k=>?_;exact spun_m (n+1) (u:=yA n u) g2 s (by have:=vf.1;omega) (hs.app F za) k
theorem lA:∀(n:Nat) (u:(Cel×Int)×Rd) (Z:List Gh) (A:La),(u.2.e=0->2*u.2.f.toNat+3<=n)->MG V u.2.s Z->(u.2.e=0->VisM V Z u.2.s.C u.1 A)->UpM V u.2 Z (yA n u).2 (λW=>VisM V W (yA n u).2.s.C (yA n u).1 A/\(yA n u).1.1.t≠8)
 |0,u,Z,A,hn,h,hu=>UpM.mk0 h rfl λe=>absurd (hn e) za
 |n+1,u,Z,A,hn,h,hu=>by
  rw[yA];split
  .rename_i q;have hn:=hn q.1;have hx:=hu q.1;have ck:=h.at hx.m.k;rw[<-hx.c] at ck;obtain⟨s1,s2,⟨s3,s4,s5,s6,s7⟩,s8⟩:=ck.x8 q.2;have op:=YX n u.2 u.1.1 Z (mat Z u.1.1.a) (rat Z u.1.1.b) u.1.1.d.toNat za h ⟨s2,rfl,s3,za,s5,s6,s7⟩<|.self s1
   have of:=kI n u.2 u.1.1;generalize zA n u.2 u.1.1=z at*;obtain⟨E,a1,a2,a4,a3⟩:=op;have hy:mat (Z++E) u.1.2=mat Z u.1.2:=zJ E hx.m.k;have h8:¬(cellOf u.2.s.C u.1.2).t≠8:=λw=>w (by rw[<-hx.c];exact q.2);have hz:inC u.2.s.C u.1.2=true:=hx.i;have kp:=Zt a1 u.1.2 z.1 λe0=>⟨(a3 e0).2.k,by rw[hy];exact s8.trans h.cl (a3 e0).2.e.symm⟩
   have kn:NS u.2.s (zI z.2 u.1.2 z.1).s:=by
    unfold zI;split
    .exact Keep.set _ _ a2 λ_=>h8
    .exact a2
   have kf:=uF z.2 u.1.2 z.1;generalize zI z.2 u.1.2 z.1=r2 at*;obtain⟨k1,k2,k3⟩:=kp;have vs:=wj r2 z.1;have vf:=xr r2 z.1;have vu:=λe=>ut k1 (a:=z.1) (A:=A) (λe2=>((a3<|k3 e2).2).tr h.cl<|s8.symm.trans h.cl hx.m.e) e;generalize zt r2 z.1=w at*;obtain⟨F,b1,b2,b4,b3⟩:=lA n w (Z++E) A (λe=>by have:=vf.2 e;omega) (by rw[vs];exact k1) (λe=>by rw[vs];exact(vu e).2);refine⟨E++F,by rw[<-rh];exact b1,kn.trans<|by rw[vs] at b2;exact b2,by rw[b4,vs,k2,a4],λe=>?_⟩;rw[<-rh];exact⟨q.1,(b3 e).2⟩
  next q=>exact UpM.mk0 h rfl λe=>⟨e,hu e,λw=>q ⟨e,w⟩⟩
end
end
theorem wq {V:Int->Option La}(_:ClV V):∀(l:List La) {f g:La},Eqv V f g->Eqv V (apps f l) (apps g l)
 |[],_,_,h=>h
 |a::l,_,_,h=>wq ‹_› l (h.app<|.refl a)
theorem yn {V:Int->Option La}{Z:List Gh}(F:List Gh):∀ {l:List Int} {L:List La},All2 (λx X=>Me V Z x X) l L->All2 (λx X=>Me V (Z++F) x X) l L
 |[],[],_=>trivial
 |_::_,_::_,h=>⟨h.1.app F,yn F h.2⟩
theorem eqv_subR {V:Int->Option La}(hV:ClV V)(B:La){a b:La}(h:Eqv V a b):Eqv V (B.sub a 0) (B.sub b 0):=
 ((Eqv.of<|.beta B a).symm.trans hV<|Eqv.app (.refl<|.lam B) h).trans hV (.of<|.beta B b)
section
variable {V:Int->Option La}
theorem beta_m {r:Rd}{Z:List Gh}(h:MG V r.s Z)(b arg:Int){B A:La}(hb:r.e=0->Me V Z b B/\Me V Z arg A):UpM V r Z (wS r b arg).2 (λW=>Me V W (wS r b arg).1<|B.sub A 0):=by
 unfold wS;refine((nil_m h).and (Q:=λW=>Me V W b B/\Me V W arg A) λE e=>⟨(hb e).1.app E,(hb e).2.app E⟩).seq λE g hl k=>?_;generalize putR r ⟨9,0,0,0,0⟩=z at*;have p2:=bind_m g z.1 arg (E:=[]) λe=>⟨(k e).1.1,(k e).1.2.1,(k e).2.2.k⟩;have p3:(putR z.2 ⟨11,z.1,arg,0,0⟩).2.e=0->z.2.e=0/\True:=λe=>by obtain⟨_,_,_,_,a⟩:=p2;exact⟨(a e).1,trivial⟩
 refine(p2.and (Q:=λW=>Me V W b B/\Me V W arg A) λF e=>⟨(k e).2.1.app F,(k e).2.2.app F⟩).seq λF g2 hl2 k2=>?_;generalize putR z.2 ⟨11,z.1,arg,0,0⟩=y at*;refine(W6 g2 b y.1 1 0 (A:=B) (E:=[.bnd (mat (Z++E) arg) 0]) (D:=0) λe=>?_).imp λG e k3=>?_
 .obtain⟨⟨k1,k3,k4⟩,k5,_⟩:=k2 e;exact⟨k5,k1,k3,rfl,rfl,za,za,λe he=>by rw[rJ.1 he];exact r6 _⟩
 .rw[su_arg] at k3
  have ky:y.2.e=0:=by
   by_cases w:y.2.e=0
   .exact w
   .rw[putR,oV w] at e;exact absurd e w
  have kz:z.2.e=0:=(p3 ky).1;exact k3.tr g2.cl<|eqv_subR g2.cl B (k kz).2.2.e
theorem ue:∀(n:Nat) (l:List Int) (b:Bool) (a:Int) (r:Rd) (Z:List Gh) (A:La) (L:List La),2*r.f.toNat+2<=n->MG V r.s Z->(r.e=0->Me V Z a A/\All2 (λx X=>Me V Z x X) l L)->
  UpM V r Z (headL n l b a r).r λW=> ∃A' L',Me V W (headL n l b a r).a A'/\All2 (λx X=>Me V W x X) (headL n l b a r).l L'/\Eqv V (apps A L) (apps A' L')/\((cellOf (headL n l b a r).r.s.C (headL n l b a r).a).t=6->(headL n l b a r).l=[])/\(cellOf (headL n l b a r).r.s.C (headL n l b a r).a).t≠7/\(cellOf (headL n l b a r).r.s.C (headL n l b a r).a).t≠8/\(cellOf (headL n l b a r).r.s.C (headL n l b a r).a).t≠5/\(cellOf (headL n l b a r).r.s.C (headL n l b a r).a).t<9
 |0,_,_,_,_,_,_,_,hn,_,_=>absurd hn za
 |n+1,l,b,a,r,Z,A,L,hn,h,hk=>by
  have vs:=wj r a;have vf:=xr r a;have vu:=λe=>ut h (a:=a) (A:=A) (λe0=>(hk e0).1) e;have hV:=h.cl;rw[headL];split
  next q=>exact UpM.mk0 h rfl λe=>absurd e q
  .generalize zt r a=u at*;have g:MG V u.2.s Z:=by rw[vs];exact h
   split
   next q=>exact UpM.mk0 h vs λe=>absurd e q
   .rename_i q;have q:u.2.e=0:=zo q
    obtain⟨e0,hx⟩:=vu q;have fu:=vf.2 q;have hl:=(hk e0).2;have ck:=h.at hx.m.k;rw[<-hx.c] at ck;have tr:∀ {r2:Rd} {P:List Gh->Prop},UpM V u.2 Z r2 P->UpM V r Z r2 P:=λ⟨E,a1,a2,a4,a3⟩=>⟨E,a1,by rw[vs] at a2;exact a2,by rw[a4,vs],λe=>⟨e0,(a3 e).2⟩⟩;split
    next q7=>obtain⟨p1,p2,p3⟩:=ck.x7 q7;exact tr<|(ue n (u.1.1.b::l) b u.1.1.a u.2 Z (mat Z u.1.1.a) (mat Z u.1.1.b::L) za g λ_=>⟨.self p1,.self p2,hl⟩).imp λE _ ⟨A',L',k1,k2,k3,k4⟩=>⟨A',L',k1,k2,(wq hV L<|hx.m.e.symm.trans hV p3).trans hV k3,k4⟩
    .split
     .rename_i q8;obtain⟨s1,s2,⟨s3,s4,s5,s6,s7⟩,s8⟩:=ck.x8 q8;have op:=YX n u.2 u.1.1 Z (mat Z u.1.1.a) (rat Z u.1.1.b) u.1.1.d.toNat za g ⟨s2,rfl,s3,za,by rw[vs];exact s5,by rw[vs];exact s6,s7⟩<|.self s1
      have of:=kI n u.2 u.1.1;generalize zA n u.2 u.1.1=z at*;obtain⟨E,a1,a2,a4,a3⟩:=op;have hy:mat (Z++E) u.1.2=mat Z u.1.2:=zJ E hx.m.k;have h8:¬(cellOf u.2.s.C u.1.2).t≠8:=λw=>w (by rw[vs,<-hx.c];exact q8);have kp:=Zt a1 u.1.2 z.1 λe0=>⟨(a3 e0).2.k,by rw[hy];exact s8.trans hV (a3 e0).2.e.symm⟩
      have kn:NS u.2.s (zI z.2 u.1.2 z.1).s:=by
       unfold zI;split
       .exact Keep.set _ _ a2 λ_=>h8
       .exact a2
      have kf:=uF z.2 u.1.2 z.1;generalize zI z.2 u.1.2 z.1=r2 at*;obtain⟨k1,k2,k3⟩:=kp;obtain⟨F,b1,b2,b4,b3⟩:=ue n l b z.1 r2 (Z++E) A L za k1 λe=>⟨((a3<|k3 e).2).tr hV<|s8.symm.trans hV hx.m.e,yn E hl⟩;refine⟨E++F,by rw[<-rh];exact b1,by rw[<-vs];exact kn.trans b2,by rw[b4,k2,a4,vs],λe=>?_⟩;rw[<-rh];exact⟨e0,(b3 e).2⟩
     .rename_i q8
      have stop:(u.1.1.t=6->l=[])->UpM V r Z (HdS.mk l b u.1.2 u.2).r (λW=> ∃A' L',Me V W (HdS.mk l b u.1.2 u.2).a A'/\All2 (λx X=>Me V W x X) (HdS.mk l b u.1.2 u.2).l L'/\Eqv V (apps A L) (apps A' L')/\((cellOf (HdS.mk l b u.1.2 u.2).r.s.C (HdS.mk l b u.1.2 u.2).a).t=6->(HdS.mk l b u.1.2 u.2).l=[])/\(cellOf (HdS.mk l b u.1.2 u.2).r.s.C (HdS.mk l b u.1.2 u.2).a).t≠7/\(cellOf (HdS.mk l b u.1.2 u.2).r.s.C (HdS.mk l b u.1.2 u.2).a).t≠8/\(cellOf (HdS.mk l b u.1.2 u.2).r.s.C (HdS.mk l b u.1.2 u.2).a).t≠5/\(cellOf (HdS.mk l b u.1.2 u.2).r.s.C (HdS.mk l b u.1.2 u.2).a).t<9):=λw=>
       UpM.mk0 h vs λe=>⟨e0,A,L,hx.m,hl,.refl _,by dsimp only;rw[vs,<-hx.c];exact w,by dsimp only;rw[vs,<-hx.c];assumption,by dsimp only;rw[vs,<-hx.c];exact q8,by dsimp only;rw[vs,<-hx.c];exact hx.n5,by dsimp only;rw[vs,<-hx.c];exact hx.n9⟩
      split
      .rename_i q6;split
       next qn=>exact stop λ_=>qn
       .rename_i qn;obtain⟨l1,l2⟩:=ck.x6 q6
        obtain⟨y,l',L1,Lr,rfl,rfl,hy1,hy2⟩:∃y l' L1 Lr,l=y::l'/\L=L1::Lr/\Me V Z y L1/\All2 (λx X=>Me V Z x X) l' Lr:=by
         cases l with
         |nil=>exact absurd rfl qn
         |cons y l'=>cases L with
          |nil=>exact hl.elim
          |cons L1 Lr=>exact⟨y,l',L1,Lr,rfl,rfl,hl.1,hl.2⟩
        have be:=beta_m g u.1.1.a y (B:=mat Z u.1.1.a) (A:=L1) λ_=>⟨.self l1,hy1⟩;have bf:=nW u.2 u.1.1.a y;rw[show(y::l').tail=l' from rfl,show(y::l').headD 0=y from rfl];generalize wS u.2 u.1.1.a y=z at*;refine tr<|be.seq λE g2 hl2 k=>?_
        refine(ue n l' true z.1 z.2 (Z++E) ((mat Z u.1.1.a).sub L1 0) Lr za g2 λe=>⟨k e,yn E hy2⟩).imp λF _ ⟨A',L',k1,k2,k3,k4⟩=>⟨A',L',k1,k2,?_,k4⟩;refine(wq hV Lr ?_).trans hV k3;exact(Eqv.app ((hx.m.e.symm).trans hV l2)<|.refl L1).trans hV<|.of<|.beta _ _
      next q6=>exact stop λw=>absurd w q6
end
section
variable {V:Int->Option La}
def BegM (h:HdS)(root:Int):Prop:=∃e,inC h.r.s.C e=true/\(cellOf h.r.s.C e).t=7/\Ch h.r.s root e
theorem dC {r:Rd}{s0:Hp}(a b:Int)(h:NS s0 r.s)(ha:inC s0.C a=true->¬(cellOf s0.C a).t≠8):NS s0 (zI r a b).s:=by
 unfold zI;split
 .exact Keep.set _ _ h ha
 .exact h
theorem Jj {r:Rd}(a b:Int)(e:(zI r a b).e=0):Ch (zI r a b).s a b:=by
 unfold zI at e ⊢;split
 .rename_i q2;rw[oX q2] at e;have e2:(setS r.s a ⟨5,b,0,0,0⟩).1=0:=e
  have hin:inC r.s.C a=true/\(setS r.s a ⟨5,b,0,0,0⟩).2.C=r.s.C.set a.toNat ⟨5,b,0,0,0⟩:=by
   unfold setS at e2 ⊢;split
   next w=>rw[oX w] at e2;exact absurd e2 (by show¬(1:Int)=0;decide)
   .rename_i w1;rw[oV w1] at e2;split
    next w=>rw[oX w] at e2;exact absurd e2 (by show¬(1:Int)=0;decide)
    .rename_i w2;rw[oV w2] at e2;split
     next w=>rw[oX w] at e2;exact absurd e2 (by show¬(1:Int)=0;decide)
     .rename_i w3;rw[oV w3] at e2;split
      next w=>rw[oX w] at e2;exact absurd e2 (by show¬(201:Int)=0;decide)
      .exact⟨zo w1,rfl⟩
  have hb:=yc.1 hin.1;have hin2:inC (setS r.s a ⟨5,b,0,0,0⟩).2.C a=true:=yc.2 ⟨hb.1,by rw[hin.2];simp only[rU];exact hb.2⟩
  have hcell:cellOf (setS r.s a ⟨5,b,0,0,0⟩).2.C a=⟨5,b,0,0,0⟩:=by
   have:=xQ hin2;rw[hin.2,List.getElem?_set_self za] at this;rw[hin.2];injection this with this
   exact this.symm
  exact .step hin2 (by rw[hcell]) (by rw[hcell];exact .refl _)
 .rename_i q2;rw[oV q2] at e
  have:a=b:=by
   by_cases w:a=b
   .exact w
   .exact absurd ⟨e,w⟩ q2
  rw[this];exact .refl _
theorem Xg (root:Int):∀(n:Nat) (a:Int) (r:Rd) (Z:List Gh),2*r.f.toNat+2<=n->MG V r.s Z->(r.e=0->Kin Z a/\Ch r.s root a)->(headL n [] false a r).r.e=0->(headL n [] false a r).b=true->BegM (headL n [] false a r) root
 |0,_,_,_,hn,_,_,_,_=>absurd hn za
 |n+1,a,r,Z,hn,h,hk,he,hb=>by
  have vs:=wj r a;have vf:=xr r a;have va:=λe=>jT (r:=r) (a:=a) e;have vu:=λe=>ut h (a:=a) (A:=mat Z a) (λe0=>.self (hk e0).1) e;rw[headL] at he hb ⊢;split
  next q=>rw[oX q] at he;exact absurd he q
  .rename_i q0;rw[oV q0] at he hb;generalize zt r a=u at*;have g:MG V u.2.s Z:=by rw[vs];exact h
   split
   next q=>rw[oX q] at he;exact absurd he q
   .rename_i q;rw[oV q] at he hb;have q:u.2.e=0:=zo q
    obtain⟨e0,hx⟩:=vu q;have hc:Ch r.s root u.1.2:=(hk e0).2.trans (by rw[(va q).2.1];exact Ch.deref _ _);have fu:=vf.2 q;have ck:=h.at hx.m.k;rw[<-hx.c] at ck;split
    next q7=>rw[oX q7] at he hb;obtain⟨p1,p2,_⟩:=ck.x7 q7;obtain⟨E,a1,a2,a4,a3⟩:=ue n [u.1.1.b] false u.1.1.a u.2 Z _ [mat Z u.1.1.b] za g λ_=>⟨.self p1,.self p2,trivial⟩;rw[vs] at a2;obtain⟨c1,c2⟩:=Keep.cell a2 hx.i (by show _≠(8:Int);rw[<-hx.c,q7];decide);exact⟨u.1.2,c1,by rw[c2,<-hx.c];exact q7,hc.ns a2⟩
    .rename_i q7;rw[oV q7] at he hb;split
     .rename_i q8;rw[oX q8] at he hb;obtain⟨s1,s2,⟨s3,s4,s5,s6,s7⟩,s8⟩:=ck.x8 q8;have op:=YX n u.2 u.1.1 Z (mat Z u.1.1.a) (rat Z u.1.1.b) u.1.1.d.toNat za g ⟨s2,rfl,s3,za,by rw[vs];exact s5,by rw[vs];exact s6,s7⟩<|.self s1
      have of:=kI n u.2 u.1.1;generalize zA n u.2 u.1.1=z at*;obtain⟨E,a1,a2,a4,a3⟩:=op;have hy:mat (Z++E) u.1.2=mat Z u.1.2:=zJ E hx.m.k;have h8:¬(cellOf r.s.C u.1.2).t≠8:=λw=>w (by rw[<-hx.c];exact q8);rw[vs] at a2;have kp:=Zt a1 u.1.2 z.1 λe0=>⟨(a3 e0).2.k,by rw[hy];exact s8.trans h.cl (a3 e0).2.e.symm⟩;have kn:=dC u.1.2 z.1 a2 λ_=>h8;have kc:=λe=>Jj (r:=z.2) u.1.2 z.1 e;have kf:=uF z.2 u.1.2 z.1;generalize zI z.2 u.1.2 z.1=r2 at*;obtain⟨k1,k2,k3⟩:=kp;exact Xg root n z.1 r2 (Z++E) za k1 (λe=>⟨(a3<|k3 e).2.k,(hc.ns kn).trans<|kc e⟩) he hb
     .rename_i q8;rw[oV q8] at he hb;split
      next q6=>rw[oX q6,oX rfl] at hb;cases hb
      next q6=>rw[oV q6] at hb;cases hb
theorem cn:∀(l:List Int) (f:Int) (r:Rd) (Z:List Gh) (A:La) (L:List La),MG V r.s Z->(r.e=0->Me V Z f A/\All2 (λx X=>Me V Z x X) l L)->UpM V r Z (yB l f r).2 (λW=>Me V W (yB l f r).1<|apps A L)
 |[],f,r,Z,A,L,h,hk=>UpM.mk0 h rfl λe=>⟨e,by
  obtain⟨k1,k2⟩:=hk e;cases L with
  |nil=>exact k1
  |cons _ _=>exact k2.elim⟩
 |x::l,f,r,Z,A,[],h,hk=>by
  by_cases e:r.e=0
  .exact(hk e).2.elim
  .rw[wt _ _ _ e];exact UpM.mk0 h rfl λe2=>absurd e2 e
 |x::l,f,r,Z,A,X::L,h,hk=>by
  rw[yB];refine((two_m h f x (F:=A) (A:=X) λe=>⟨(hk e).1,(hk e).2.1⟩).and (Q:=λW=>All2 (λx X=>Me V W x X) l L) λE e=>yn E (hk e).2.2).seq λE g hl k=>?_;exact cn l _ _ (Z++E) (.app A X) L g k
def UfM (V:Int->Option La)(r:Rd)(Z:List Gh)(r':Rd)(P:List Gh->Prop):Prop:=∃E,MG V r'.s (Z++E)/\NF r.s r'.s/\r'.s.N=r.s.N/\(r'.e=0->r.e=0/\P (Z++E))
theorem UfM.imp {r r':Rd}{Z:List Gh}{P Q:List Gh->Prop}(h:UfM V r Z r' P)(g:∀E,r'.e=0->P (Z++E)->Q (Z++E)):UfM V r Z r' Q:=by
 obtain⟨E,a1,a2,a4,a3⟩:=h;exact⟨E,a1,a2,a4,λe=>⟨(a3 e).1,g E e (a3 e).2⟩⟩
structure SpM (V:Int->Option La)(s:Hp)(W:List Gh)(x:Int×List Int)(A:La):Prop where
 w:∃A' L',Me V W x.1 A'/\All2 (λx X=>Me V W x X) x.2 L'/\Eqv V A (apps A' L')
 l:(cellOf s.C x.1).t=6->x.2=[]
 n7:(cellOf s.C x.1).t≠7
 n8:(cellOf s.C x.1).t≠8
 n5:(cellOf s.C x.1).t≠5
 n9:(cellOf s.C x.1).t<9
theorem lT {r:Rd}{a b x:Int}(h:(cellOf r.s.C a).t≠(cellOf r.s.C x).t):cellOf (zI r a b).s.C x=cellOf r.s.C x:=by
 unfold zI;split
 .rcases w7 r.s a ⟨5,b,0,0,0⟩ with e|⟨hin,e⟩<;>rw[e]
  have hi:=yc.1 hin;dsimp only;unfold cellOf at*;simp only[rU];split
  .rename_i q;rw[sF];split
   .rename_i w;exfalso;have:a=x:=za
    rw[this] at h;exact h rfl
   .rfl
  .rfl
 .rfl
theorem YJ (n:Nat)(r:Rd)(root:Int)(Z:List Gh)(A:La)(hn:2*r.f.toNat+2<=n)(h:MG V r.s Z)(hk:r.e=0->Me V Z root A):UfM V r Z (zK n r root).2 (λW=>SpM V (zK n r root).2.s W (zK n r root).1 A):=by
 have hb:=Xg root n root r Z hn h λe=>⟨(hk e).k,.refl _⟩;obtain⟨E,a1,a2,a4,a3⟩:=ue n [] false root r Z A [] hn h λe=>⟨hk e,trivial⟩;unfold zK vr;generalize headL n [] false root r=z at*;dsimp only;split
 .rename_i q;by_cases e0:z.r.e=0
  .obtain⟨e1,A',L',k1,k2,k3,k4,k5,k6,k7,k8⟩:=a3 e0;obtain⟨e,c1,c2,c3⟩:=hb e0 q;have ap:=cn z.l z.a z.r (Z++E) A' L' a1 λ_=>⟨k1,k2⟩;generalize yB z.l z.a z.r=w at*;obtain⟨F,b1,b2,b4,b3⟩:=ap;obtain⟨m1,m2⟩:=Keep.cell b2 c1 (by show _≠(8:Int);rw[c2];decide);obtain⟨x1,x2⟩:=Keep.cell b2 (a1.inC k1.k) k6;have ch:=c3.ns b2;obtain⟨_,g2⟩:=Ch.mid (s:=w.2.s) (e:=e) (by rw[m2,c2];decide) w.2.s.C.length root ch
   have tt:(cellOf w.2.s.C<|zX w.2.s.C root).t=7\/(cellOf w.2.s.C<|zX w.2.s.C root).t=5:=by
    unfold zX;rcases g2 with g2|g2
    .left;rw[g2,m2,c2]
    .exact .inr g2
   have nf:NF r.s w.2.s:=NS.nf<|a2.trans b2
   have rm:Me V (Z++E++F) root A:=((hk e1).app E).app F;have rd:Me V (Z++E++F) (zX w.2.s.C root) A:=(Ch.deref _ _).me b1 rm;have kp:=Zt b1 (zX w.2.s.C root) w.1 λe=>⟨(b3 e).2.k,rd.e.trans h.cl<|k3.trans h.cl (b3 e).2.e.symm⟩;have kc:=lT (r:=w.2) (a:=zX w.2.s.C root) (b:=w.1) (x:=z.a) (by rw[x2];rcases tt with t|t<;>rw[t];exact λw=>k5 w.symm;exact λw=>k7 w.symm)
   have kn:NF r.s (zI w.2 (zX w.2.s.C root) w.1).s:=by
    unfold zI;split
    .refine Keep.set _ _ nf λhin q4=>?_;have q4:(cellOf r.s.C _).t=4:=q4;obtain⟨_,o2⟩:=Keep.cell nf hin q4;rcases tt with t|t<;>rw[o2,q4] at t<;>exact absurd t zc
    .exact nf
   refine⟨E++F,by rw[<-rh];exact kp.1,kn,by rw[kp.2.1,b4,a4],λe=>?_⟩;rw[<-rh];exact⟨e1,⟨A',L',k1.app F,yn F k2,k3⟩,by dsimp only;rw[kc,x2];exact k4,by dsimp only;rw[kc,x2];exact k5,by dsimp only;rw[kc,x2];exact k6,by dsimp only;rw[kc,x2];exact k7,by dsimp only;rw[kc,x2];exact k8⟩
  .rw[wt _ _ _ e0,uu e0];exact⟨E,a1,NS.nf a2,a4,λe=>absurd e e0⟩
 .refine⟨E,a1,NS.nf a2,a4,λe=>?_⟩;obtain⟨e1,A',L',k1,k2,k3,k4,k5,k6,k7,k8⟩:=a3 e;exact⟨e1,⟨A',L',k1,k2,k3⟩,k4,k5,k6,k7,k8⟩
end
def NmV (N:List<|List UInt8):Prop:=N.Nodup/\∀nm∈N,(Y3 nm||K7 nm)=true
theorem KO {f u:Tm}(hf:validB f=true)(hu:validB u=true):validB (applyF f [u])=true:=by
 rw[wF,oZ];have h1:okL [u]=true:=by rw[okL,okL,zG _ hu];rfl
 have h2:lvL [u]=true:=by rw[lvL,lvL,vB hu];rfl
 exact⟨k9 (zG _ hf) h1,kF (vB hf) h2⟩
theorem Yh (N:Nat):∀(n:Nat) (r:Rd) (a:Int),2*r.f.toNat+2<=N->(fulR N n r a).2.f<=r.f
 |0,r,_,_=>ru _
 |n+1,r,a,hN=>by
  have hf:=(uE N r a hN).1;rw[fulR];generalize zK N r a=z at*
  have fulls:∀(l:List Int) (t:Tm) (r1:Rd),2*r1.f.toNat+2<=N->(zW (fulR N n) l t r1).2.f<=r1.f:=by
   intro l
   induction l with
   |nil=>intro t r1 _;exact ru _
   |cons x l ih=>
    intro t r1 h1;rw[zW];have h2:=Yh N n r1 x h1;exact sn (ih _ _ za) h2
  unfold Zv;split
  .exact hf
  .split
   .exact sn (Yh N n _ _ za) hf
   .exact sn (fulls _ _ _ za) hf
section
variable {V:Int->Option La}
def stV (V:Int->Option La)(n:Nat):Sto:=⟨(List.range n).map λi:Nat=>⟨0,(V (i:Int)).isSome,noT⟩,[]⟩
theorem stV_no {n:Nat}(hd:∀x,V x≠none->0<=x/\x<(n:Int))(x:Int):(iD (stV V n).V x).bd=false↔V x=none:=by
 unfold iD stV;by_cases h:0<=x/\x<(n:Int)
 .have e:((List.range n).map λi:Nat=>(⟨0,(V (i:Int)).isSome,noT⟩:Inf))[x.toNat]?=some ⟨0,(V x).isSome,noT⟩:=by
   rw[rq,tA za];show some (⟨0,(V ((x.toNat:Nat):Int)).isSome,noT⟩:Inf)=_;rw[show((x.toNat:Nat):Int)=x by omega]
  simp only[sM,tx];rw[oX h,e];show(V x).isSome=false↔_;cases V x<;>simp
 .have hn:V x=none:=by
   cases e:V x with
   |none=>rfl
   |some v=>exact absurd (hd x<|by rw[e];exact λw=>by cases w) h
  simp only[sM,tx];rw[oV h,hn];simp
abbrev sV (V:Int->Option La):Sto:=stV V 1048577
theorem MG.sV {s:Hp}{Z:List Gh}(h:MG V s Z)(x:Int):(iD (sV V).V x).bd=false↔V x=none:=stV_no (λx hx=>by have:=h.dom x hx;have:=h.ok.C;omega) x
structure Tld (V:Int->Option La)(t:Tm)(A:La):Prop where
 v:validB t=true
 n:normB t=true
 u:ubB (Go.AM.sV V) t=true
 e:Eqv V A<|toL t
theorem m5 {t u:Tm}{A X:La}(hV:ClV V)(ht:Tld V t A)(h5:t.k≠5)(hu:Tld V u X):Tld V (applyF t [u]) (.app A X)/\(applyF t [u]).k≠5:=by
 have e:toL (applyF t [u])=.app (toL t) (toL u):=yL t [u];have hv:=KO ht.v hu.v;by_cases h6:t.k=6
 .obtain⟨k,s,n,l⟩:=t;have h6:k=6:=h6;subst h6;obtain⟨x,y,r,rfl,hx,_⟩:=okB6 (zG _ ht.v) rfl;have e1:applyF (.mk 6 s n<|x::y::r) [u]=.mk 6 [] 0 (x::y::r++[u]):=rfl;obtain⟨hx5,hl⟩:=uS ht.n;have hu2:=ht.u;rw[ubB,oZ] at hu2;refine⟨⟨hv,?_,?_,by rw[e];exact ht.e.app hu.e⟩,by rw[e1];show¬(6:Int)=5;decide⟩
  .rw[e1];refine norm6 hx5 (show xp ((x::y::r)++[u])=true from ?_);rw[Y8,hl,sr,xp,hu.n];rfl
  .rw[e1,ubB,fZ,hu2.2,sr,ubL,hu.u];rfl
 .have e1:applyF t [u]=.mk 6 [] 0 [t,u]:=by rw[wU h6,oV zb]
  refine⟨⟨hv,?_,?_,by rw[e];exact ht.e.app hu.e⟩,by rw[e1];show¬(6:Int)=5;decide⟩
  .rw[e1];refine norm6 h5 ?_;rw[xp,xp,xp,ht.n,hu.n];rfl
  .rw[e1,ubB,ubL,ubL,ubL,ht.u,hu.u];rfl
theorem leaf_m {s:Hp}{Z:List Gh}(h:MG V s Z)(hN:NmV s.N){x:Int×List Int}{A A':La}(_:A'=A')(hx:Me V Z x.1 A')(hs:SpM V s Z x A)(h6:(cellOf s.C x.1).t≠6):Tld V (leafR s x.1) A'/\(leafR s x.1).k≠5:=by
 have hV:=h.cl;have ck:=h.at hx.k;have hk:=hx.k;have to:∀ {B:La},Eqv V (mat Z x.1) B->Eqv V A' B:=λq=>hx.e.symm.trans hV q;have n5:=hs.n5;have n7:=hs.n7;have n8:=hs.n8;have n9:=hs.n9;have tg:=ck.tg;have hC:=h.ok.C;have hl:=h.len;unfold leafR;split
 .rename_i q;obtain⟨a1,a2,a3⟩:=ck.x0 q
  have nm:(Y3 (nameOf s.N (cellOf s.C x.1).a)||K7 (nameOf s.N (cellOf s.C x.1).a))=true:=by
   unfold nameOf;rw[oX ⟨a1,a2⟩,rf za];exact hN.2 _<|td _
  refine⟨⟨?_,rfl,rfl,to a3⟩,by show¬(0:Int)=5;decide⟩;rw[validB,oX (show((0:Int)==0)=true from rfl),nm];rfl
 .split
  next q=>obtain⟨a1,a2⟩:=ck.x1 q;refine⟨⟨?_,rfl,rfl,to a2⟩,by show¬(1:Int)=5;decide⟩;rw[validB];simp[a1,show FTs ([]:List Tm)=[] from rfl,show yp []=true from rfl]
  .split
   next q=>refine⟨⟨?_,rfl,rfl,to<|ck.x2 q⟩,by show¬(2:Int)=5;decide⟩;rw[validB];rfl
   .split
    next q=>obtain⟨⟨a1,a2⟩,a3⟩:=ck.x3 q;have p1:=hk.p1;exact⟨⟨Xx.2 ⟨a1,za,rfl,rfl⟩,rfl,rfl,to<|by rw[yY];exact a3⟩,by show¬(3:Int)=5;decide⟩
    .split
     .rename_i q;obtain⟨a1,a2,_⟩:=ck.x4 q;have p0:=hk.p0;have p1:=hk.p1;have a1:mat Z x.1=.var x.1:=a1;refine⟨⟨?_,rfl,?_,to<|by rw[a1];exact .refl _⟩,by show¬(4:Int)=5;decide⟩
      .rw[validB];simp[show FTs ([]:List Tm)=[] from rfl,show yp []=true from rfl];omega
      .rw[ubB,(h.sV x.1).2 a2];rfl
     .exfalso;omega
theorem Tld.lam {t:Tm}{A:La}(h:Tld V t A):Tld V (lamsF 1 t) (.lam A):=by
 have e:lamsF 1 t=.mk 5 [] 0 [t]:=rfl;rw[e];refine⟨?_,?_,?_,?_⟩
 .rw[aq];simp[yp,h.v]
 .rw[normB,xp,xp,h.n];rfl
 .rw[ubB,ubL,ubL,h.u];rfl
 .rw[yQ];exact h.e.lam
theorem Tld.tr (hV:ClV V){t:Tm}{A A':La}(h:Tld V t A)(e:Eqv V A' A):Tld V t A':=⟨h.v,h.n,h.u,e.trans hV h.e⟩
def FulM (V:Int->Option La)(F:Rd->Int->Tm×Rd)(m:Int):Prop:=∀(r:Rd) (a:Int) (Z:List Gh) (A:La),r.f<=m->MG V r.s Z->NmV r.s.N->(r.e=0->Me V Z a A)->UfM V r Z (F r a).2 (λ_=>Tld V (F r a).1 A)/\(F r a).2.f<=r.f
theorem Xc {F:Rd->Int->Tm×Rd}{m:Int}(hF:FulM V F m):∀(l:List Int) (t:Tm) (r:Rd) (Z:List Gh) (A:La) (L:List La),r.f<=m->MG V r.s Z->NmV r.s.N->(r.e=0->(Tld V t A/\t.k≠5)/\All2 (λx X=>Me V Z x X) l L)->UfM V r Z (zW F l t r).2 (λ_=>Tld V (zW F l t r).1<|apps A L)
 |[],t,r,Z,A,L,_,h,_,hk=>⟨[],by rw[rp];exact h,Keep.refl _,rfl,λe=>⟨e,by
  obtain⟨⟨k1,_⟩,k2⟩:=hk e;cases L with
  |nil=>exact k1
  |cons _ _=>exact k2.elim⟩⟩
 |x::l,t,r,Z,A,[],hm,h,hN,hk=>by
  have e:r.e≠0:=λe=>(hk e).2.elim;rw[zW];obtain⟨f1,f2⟩:=hF r x Z A hm h hN λe2=>absurd e2 e;obtain⟨E,a1,a2,a4,a3⟩:=f1;obtain⟨G,b1,b2,b4,b3⟩:=Xc hF l (applyF t [(F r x).1]) (F r x).2 (Z++E) A [] (sn f2 hm) a1 (by rw[a4];exact hN) λe2=>absurd (a3 e2).1 e;exact⟨E++G,by rw[<-rh];exact b1,a2.trans b2,b4.trans a4,λe2=>absurd (a3 (b3 e2).1).1 e⟩
 |x::l,t,r,Z,A,X::L,hm,h,hN,hk=>by
  rw[zW];obtain⟨f1,f2⟩:=hF r x Z X hm h hN λe=>(hk e).2.1;obtain⟨E,a1,a2,a4,a3⟩:=f1
  have ih:=Xc hF l (applyF t [(F r x).1]) (F r x).2 (Z++E) (.app A X) L (sn f2 hm) a1 (by rw[a4];exact hN) λe=>by
   obtain⟨e1,k⟩:=a3 e;obtain⟨⟨k1,k2⟩,k3⟩:=hk e1;exact⟨m5 h.cl k1 k2 k,yn E k3.2⟩
  obtain⟨G,b1,b2,b4,b3⟩:=ih;exact⟨E++G,by rw[<-rh];exact b1,a2.trans b2,b4.trans a4,λe2=>⟨(a3 (b3 e2).1).1,(b3 e2).2⟩⟩
theorem jX (N:Nat):∀(n:Nat) (r:Rd) (a:Int) (Z:List Gh) (A:La),2*r.f.toNat+2<=N->r.f.toNat+1<=n->MG V r.s Z->NmV r.s.N->(r.e=0->Me V Z a A)->UfM V r Z (fulR N n r a).2 (λ_=>Tld V (fulR N n r a).1 A)
 |0,_,_,_,_,_,hn,_,_,_=>absurd hn za
 |n+1,r,a,Z,A,hN,hn,h,hm,hk=>by
  have hd:=YJ N r a Z A hN h hk;have hf:=uE N r a hN;rw[fulR];generalize zK N r a=z at*;obtain⟨E,a1,a2,a4,a3⟩:=hd;have hV:=h.cl;unfold Zv;split
  next q=>exact⟨E,a1,a2,a4,λe=>absurd e q⟩
  .rename_i q;have q:z.2.e=0:=zo q
   obtain⟨e0,sp⟩:=a3 q;have fz:=hf.2 q;have hN2:NmV z.2.s.N:=by rw[a4];exact hm
   obtain⟨A',L',w1,w2,w3⟩:=sp.w;have go:∀ {r2:Rd} {P:List Gh->Prop},UfM V z.2 (Z++E) r2 P->UfM V r Z r2 P:=λ⟨F,b1,b2,b4,b3⟩=>⟨E++F,by rw[<-rh];exact b1,a2.trans b2,b4.trans a4,λe=>⟨e0,by rw[<-rh];exact(b3 e).2⟩⟩;split
   .rename_i q6;obtain⟨k1,k2⟩:=(a1.at w1.k).x6 q6;have hl:=sp.l q6
    have el:L'=[]:=by
     rw[hl] at w2;cases L' with
     |nil=>rfl
     |cons _ _=>exact w2.elim
    subst el;have ih:=jX N n z.2 (cellOf z.2.s.C z.1.1).a (Z++E) _ za za a1 hN2 λ_=>.self k1;refine go<|ih.imp λF _ k=>(k.lam).tr hV ?_
    exact(w3.trans hV<|w1.e.symm).trans hV k2
   next q6=>obtain⟨lf,l5⟩:=leaf_m (A:=A) a1 hN2 rfl w1 sp q6;have hF:FulM V (fulR N n) z.2.f:=λr2 b Z2 B h1 h2 h3 h4=>⟨jX N n r2 b Z2 B za za h2 h3 h4,Yh N n r2 b za⟩;refine go<|(Xc hF z.1.2 (leafR z.2.s z.1.1) z.2 (Z++E) A' L' (ru _) a1 hN2 λ_=>⟨⟨lf,l5⟩,w2⟩).imp λF _ k=>k.tr hV w3
end
def nfC (q:Int->Bool)(C:List Cel):Nat:=C.countP λc=>c.t==4&&q c.a
theorem nf_put (q:Int->Bool)(s:Hp)(c:Cel)(h4:c.t≠4):nfC q (putS s c).2.C<=nfC q s.C:=by
 rcases qU s c with e|e<;>rw[e]
 .exact r6 _
 .unfold nfC;rw[List.countP_append,List.countP_singleton,oV<|by simp[h4]];exact r6 _
theorem nf_set (q:Int->Bool)(s:Hp)(x b:Int):nfC q (setS s x ⟨5,b,0,0,0⟩).2.C<=nfC q s.C:=by
 rcases w7 s x ⟨5,b,0,0,0⟩ with e|⟨hi,e⟩<;>rw[e]
 .exact r6 _
 .have:=yc.1 hi;unfold nfC;dsimp only;have e5:∀y,((⟨5,b,0,0,0⟩:Cel).t==4&&q y)=false:=λy=>rfl;rw[List.countP_set za,e5];simp only[rF,rN];omega
structure Gr (q:Int->Bool)(r r':Rd)(k:Int):Prop where
 f:r'.f<=r.f
 c:(r'.s.C.length:Int)+4*r'.f<=r.s.C.length+4*r.f+k
 t:(r'.s.T.length:Int)+4*r'.f<=r.s.T.length+4*r.f+k
 n:nfC q r'.s.C<=nfC q r.s.C
section
variable {q:Int->Bool}
theorem Gr.refl (r:Rd){k:Int}(hk:0<=k):Gr q r r k:=⟨ru _,za,za,r6 _⟩
theorem Gr.trans {r1 r2 r3:Rd}{k j m:Int}(h:Gr q r1 r2 k)(g:Gr q r2 r3 j)(e:k+j<=m):Gr q r1 r3 m:=⟨sn g.f h.f,by have:=h.c;have:=g.c;omega,by have:=h.t;have:=g.t;omega,rS g.n h.n⟩
theorem Gr.le {r1 r2:Rd}{k m:Int}(h:Gr q r1 r2 k)(e:k<=m):Gr q r1 r2 m:=⟨h.f,by have:=h.c;omega,by have:=h.t;omega,h.n⟩
theorem ji (r:Rd)(c:Cel)(h4:c.t≠4):Gr q r (putR r c).2 1:=by
 unfold putR;split
 .refine⟨ru _,?_,?_,nf_put q r.s c h4⟩
  .dsimp only;rcases qU r.s c with e|e<;>rw[e]<;>(try simp only[re,rD,rU])<;>omega
  .dsimp only;rcases qU r.s c with e|e<;>rw[e]<;>(try simp only[re,rD,rU])<;>omega
 .exact .refl r zc
theorem iW (r:Rd)(a b:Int):Gr q r (zI r a b) 1:=by
 unfold zI;split
 .refine⟨ru _,?_,?_,nf_set q r.s a b⟩
  .dsimp only;rcases w7 r.s a ⟨5,b,0,0,0⟩ with e|⟨_,e⟩<;>rw[e]<;>(try simp only[re,rD,rU])<;>omega
  .dsimp only;rcases w7 r.s a ⟨5,b,0,0,0⟩ with e|⟨_,e⟩<;>rw[e]<;>(try simp only[re,rD,rU])<;>omega
 .exact .refl r zc
theorem fV (r:Rd)(a:Int):Gr q r (zt r a).2 0/\((zt r a).2.e=0->Gr q r (zt r a).2 (-4)):=by
 have vs:=wj r a;obtain⟨f1,f2⟩:=xr r a;refine⟨⟨f1,by rw[vs];omega,by rw[vs];omega,by rw[vs];exact r6 _⟩,λe=>?_⟩;have:=f2 e;exact⟨f1,by rw[vs];omega,by rw[vs];omega,by rw[vs];exact r6 _⟩
theorem mE:∀(n:Nat) (r:Rd) (row j:Int),Gr q r (zR n r row j).2 0
 |0,r,_,_=>.refl r zc
 |n+1,r,row,j=>by
  rw[zR];have fl:∀x:Int,Gr q r (yl r x) 0:=λx=>⟨ru _,by show(r.s.C.length:Int)+4*r.f<=_;omega,by show(r.s.T.length:Int)+4*r.f<=_;omega,r6 _⟩;split
  .exact fl 1
  .split
   .exact fl 1
   .split
    .exact .refl r zc
    .split
     .exact .refl r zc
     .split
      .exact fl 80
      .have h1:Gr q r ⟨r.s,r.f-1,r.e⟩ 0:=⟨zm,zm,zm,r6 _⟩;exact h1.trans (mE n _ _ _) zc
theorem lift_w (r:Rd)(a u:Int):Gr q r (xC r a u).2 2:=by
 unfold xC;split
 .exact .refl r zc
 .exact(ji r _ zb).trans (ji _ _ zb) zc
theorem los_w (n:Nat)(r:Rd)(s:Cel)(j:Int):Gr q r (losR n r s j).2 3:=by
 have e:=mE (q:=q) n r s.b j;unfold losR;split
 .split
  .split
   .exact e.trans (ji _ _ zb) zc
   .exact e.trans (lift_w _ _ _) zc
  .exact e.trans (ji _ _ zb) zc
 .exact(ji r _ zb).le zc
theorem lam_w (r:Rd)(s:Cel)(b:Int):Gr q r (lamR r s b).2 3:=((ji r _ zb).trans (ji _ _ zb) (m:=2) zc).trans (ji _ _ zb) zc
theorem app_w (r:Rd)(s:Cel)(f x:Int):Gr q r (appR r s f x).2 3:=((ji r _ zb).trans (ji _ _ zb) (m:=2) zc).trans (ji _ _ zb) zc
theorem beta_w (r:Rd)(b arg:Int):Gr q r (wS r b arg).2 3:=((ji r _ zb).trans (ji _ _ zb) (m:=2) zc).trans (ji _ _ zb) zc
theorem level_w (n:Nat)(c:Cel)(t:Int)(r:Rd)(s:Cel):Gr q r (xS n c t r s).2 3:=by
 unfold xS;split
 .exact los_w n r s _
 .split
  .exact lam_w r s _
  .split
   .exact app_w r s _ _
   .exact .refl r zc
theorem mY (n:Nat)(v:(Cel×Int)×Rd)(h:v.2.e≠0):yA n v=v:=by
 cases n with
 |zero=>rfl
 |succ n=>rw[yA,oV λw=>h w.1]
mutual
theorem open_w:∀(n:Nat) (r:Rd) (s:Cel),Gr q r (zA n r s).2 0
 |0,r,_=>.refl r zc
 |n+1,r,s=>by
  rw[zA];obtain⟨v1,v2⟩:=fV (q:=q) r s.a;by_cases e:(zt r s.a).2.e=0
  .obtain⟨s1,s2⟩:=spin_w n<|zt r s.a
   have v2:=v2 e;unfold vv;split
   .exact v2.trans s1 zc
   .rename_i qe;have s2:=v2.trans (s2<|zo qe) (m:= -4) zc;split
    .exact s2.le zc
    .exact s2.trans (level_w _ _ _ _ _) zc
  .rw[mY n _ e];unfold vv;rw[oX e];exact v1
theorem spin_w:∀(n:Nat) (v:(Cel×Int)×Rd),Gr q v.2 (yA n v).2 1/\((yA n v).2.e=0->Gr q v.2 (yA n v).2 0)
 |0,v=>⟨.refl _ zc,λ_=>.refl _ zc⟩
 |n+1,v=>by
  rw[yA];split
  .have o:=(open_w n v.2 v.1.1).trans (iW (q:=q) (zA n v.2 v.1.1).2 v.1.2 (zA n v.2 v.1.1).1) (m:=1) zc;generalize zI (zA n v.2 v.1.1).2 v.1.2 (zA n v.2 v.1.1).1=r2 at*;generalize (zA n v.2 v.1.1).1=b at*;obtain⟨v1,v2⟩:=fV (q:=q) r2 b;by_cases e:(zt r2 b).2.e=0
   .obtain⟨s1,s2⟩:=spin_w n<|zt r2 b
    have h:=(o.trans (v2 e) (m:= -3) zc).trans s1 (m:= -2) zc;exact⟨h.le zc,λ_=>h.le zc⟩
   .rw[mY n _ e];exact⟨o.trans v1 zc,λw=>absurd w e⟩
  .exact⟨.refl _ zc,λ_=>.refl _ zc⟩
end
theorem apps_w:∀(l:List Int) (f:Int) (r:Rd),Gr q r (yB l f r).2 l.length
 |[],_,r=>.refl r zb
 |x::l,f,r=>by
  rw[yB];exact(ji r _ zb).trans (apps_w l _ _) (by rw[r5];omega)
theorem Jm:∀(n:Nat) (l:List Int) (b:Bool) (a:Int) (r:Rd),Gr q r (headL n l b a r).r ((l.length:Int)-(headL n l b a r).l.length)/\((headL n l b a r).r.e=0->2*r.f.toNat+2<=n->Gr q r (headL n l b a r).r ((l.length:Int)-(headL n l b a r).l.length-1))
 |0,l,b,a,r=>⟨.refl r<|by show 0<=(l.length:Int)-l.length;omega,λ_ h=>absurd h za⟩
 |n+1,l,b,a,r=>by
  obtain⟨v1,v2⟩:=fV (q:=q) r a;have vf:=xr r a;rw[headL];split
  next w=>exact⟨.refl r zm,λe=>absurd e w⟩
  .split
   next w=>exact⟨v1.le zm,λe=>absurd e w⟩
   .rename_i w;have w:(zt r a).2.e=0:=zo w
    have v2:=v2 w;have fu:=vf.2 w;split
    .obtain⟨i1,i2⟩:=Jm n ((zt r a).1.1.b::l) b (zt r a).1.1.a (zt r a).2;simp only[r5] at i1 i2;exact⟨v2.trans i1 za,λ_ _=>v2.trans i1 za⟩
    .split
     .have o:=v2.trans ((open_w n (zt r a).2 (zt r a).1.1).trans (iW (q:=q) (zA n (zt r a).2 (zt r a).1.1).2 (zt r a).1.2 (zA n (zt r a).2 (zt r a).1.1).1) (m:=1) zc) (m:= -3) zc;obtain⟨i1,i2⟩:=Jm n l b (zA n (zt r a).2 (zt r a).1.1).1<|zI (zA n (zt r a).2 (zt r a).1.1).2 (zt r a).1.2 (zA n (zt r a).2 (zt r a).1.1).1
      exact⟨o.trans i1 za,λ_ _=>o.trans i1 za⟩
     .split
      .split
       .exact⟨v2.le zm,λ_ _=>v2.le zm⟩
       .rename_i hl;have o:=v2.trans (beta_w (q:=q) (zt r a).2 (zt r a).1.1.a<|l.headD 0) (m:= -1) zc
        have hp:1<=l.length:=by
         cases l with
         |nil=>exact absurd rfl hl
         |cons _ _=>simp
        obtain⟨i1,i2⟩:=Jm n l.tail true (wS (zt r a).2 (zt r a).1.1.a<|l.headD 0).1 (wS (zt r a).2 (zt r a).1.1.a<|l.headD 0).2;rw[List.length_tail] at i1;exact⟨o.trans i1 za,λ_ _=>o.trans i1 za⟩
      .exact⟨v2.le zm,λ_ _=>v2.le zm⟩
theorem head_w (n:Nat)(r:Rd)(root:Int)(hn:2*r.f.toNat+2<=n):Gr q r (zK n r root).2 0:=by
 obtain⟨h1,h2⟩:=Jm (q:=q) n [] false root r;unfold zK vr;generalize headL n [] false root r=z at*;dsimp only;split
 .by_cases e:z.r.e=0
  .have a:=apps_w (q:=q) z.l z.a z.r;generalize yB z.l z.a z.r=w at*;exact((h2 e hn).trans a (m:= -1)<|by simp only[rt];omega).trans (iW _ _ _) zc
  .rw[wt _ _ _ e,uu e];exact h1.le (by simp only[rt];omega)
 .exact h1.le (by simp only[rt];omega)
theorem WP (N:Nat):∀(n:Nat) (r:Rd) (a:Int),2*r.f.toNat+2<=N->Gr q r (fulR N n r a).2 0/\((fulR N n r a).2.e=0->1<=n->(fulR N n r a).2.f+1<=r.f)
 |0,r,_,_=>⟨.refl r zc,λ_ h=>absurd h zc⟩
 |n+1,r,a,hN=>by
  have h:=head_w (q:=q) N r a hN;have hf:=uE N r a hN;rw[fulR];generalize zK N r a=z at*
  have fulls:∀(l:List Int) (t:Tm) (r1:Rd),2*r1.f.toNat+2<=N->Gr q r1 (zW (fulR N n) l t r1).2 0:=by
   intro l
   induction l with
   |nil=>intro t r1 _;exact .refl r1 zc
   |cons x l ih=>
    intro t r1 h1;rw[zW];have h2:=Yh N n r1 x h1;exact(WP N n r1 x h1).1.trans (ih _ _ za) zc
  unfold Zv;split
  next w=>exact⟨h,λe=>absurd e w⟩
  .rename_i w;have f1:=hf.2 (zo w);have f2:=hf.1;split
   .have g:=(WP N n z.2 (cellOf z.2.s.C z.1.1).a za).1;exact⟨h.trans g zc,λ_ _=>by have:=g.f;dsimp only;omega⟩
   .have g:=fulls z.1.2 (leafR z.2.s z.1.1) z.2 za;exact⟨h.trans g zc,λ_ _=>by have:=g.f;omega⟩
end
def Cq (p:Int->Prop):Nat->La->Prop
 |d,.bv n=>n<d/\n<=2097152
 |_,.var x=>p x
 |_,.con _ _ _=>True
 |d,.lam b=>Cq p (d+1) b
 |d,.app f a=>Cq p d f/\Cq p d a
abbrev Cv (Z:List Gh)(d:Nat)(A:La):Prop:=Cq (λx=>Kin Z x/\mat Z x=.var x) d A
theorem Cq.lift {p:Int->Prop}:∀ {A:La} {d:Nat},Cq p d A->∀k,d<=k->A.lift k=A
 |.bv n,d,h,k,hk=>by rw[La.lift,oX<|by have:=h.1;omega]
 |.var _,_,_,_,_=>rfl
 |.con _ _ _,_,_,_,_=>rfl
 |.lam b,d,h,k,hk=>by rw[La.lift,Cq.lift (A:=b) (d:=d+1) h (k+1) za]
 |.app f a,d,h,k,hk=>by rw[La.lift,Cq.lift (A:=f) h.1 k hk,Cq.lift (A:=a) h.2 k hk]
theorem Cq.imp {p q:Int->Prop}(g:∀x,p x->q x):∀ {A:La} {d:Nat},Cq p d A->Cq q d A
 |.bv _,_,h=>h
 |.var x,_,h=>g x h
 |.con _ _ _,_,_=>trivial
 |.lam b,d,h=>Cq.imp g (A:=b) (d:=d+1) h
 |.app f a,_,h=>⟨Cq.imp g (A:=f) h.1,Cq.imp g (A:=a) h.2⟩
theorem Cv.app {Z:List Gh}(F:List Gh){A:La}{d:Nat}(h:Cv Z d A):Cv (Z++F) d A:=Cq.imp (λ_ w=>⟨w.1.app F,(zJ F w.1).trans w.2⟩) h
theorem Cq.apps {p:Int->Prop}{d:Nat}:∀(l:List La) (f:La),Cq p d (Go.AM.apps f l)↔Cq p d f/\∀a∈l,Cq p d a
 |[],f=>⟨λh=>⟨h,λ_ q=>by cases q⟩,λh=>h.1⟩
 |x::l,f=>by
  rw[w9,Cq.apps l];exact⟨λh=>⟨h.1.1,λa q=>by rcases rx.1 q with e|q;exact e▸h.1.2;exact h.2 a q⟩,λh=>⟨⟨h.1,h.2 x<|r7 ..⟩,λa q=>h.2 a<|r9 _ q⟩⟩
theorem Cv.lift {Z:List Gh}{A:La}{d:Nat}(h:Cv Z d A):∀k,d<=k->A.lift k=A:=Cq.lift h
theorem Cv.apps {Z:List Gh}{d:Nat}(l:List La)(f:La):Cv Z d (Go.AM.apps f l)↔Cv Z d f/\∀a∈l,Cv Z d a:=Cq.apps l f
theorem Cv.lams {Z:List Gh}:∀(n:Nat) {A:La} {d:Nat},Cv Z (d+n) A->Cv Z d (yy n A)
 |0,_,_,h=>h
 |n+1,A,d,h=>Cv.lams n (A:=A) (d:=d+1) (by rw[(za:d+1+n=d+(n+1))];exact h)
def Vq (O:Option<|List Int)(Z:List Gh)(x:Int):Prop:=∀C:List Cel,(varE O C x).2=0->Kin Z x/\mat Z x=.var x
theorem Vq.app {O:Option (List Int)}{Z:List Gh}(F:List Gh){d:Nat}{A:La}(h:Cq (Vq O Z) d A):Cq (Vq O<|Z++F) d A:=h.imp λ_ w C e=>⟨(w C e).1.app F,(zJ F (w C e).1).trans (w C e).2⟩
section
variable {V:Int->Option La}
theorem MG.names {s:Hp}{Z:List Gh}(h:MG V s Z)(e:List<|List UInt8):MG V {s with N:=s.N++e} Z:=
 ⟨⟨h.ok.C,h.ok.M,h.ok.T,h.ok.L⟩,h.len,h.cl,h.dom,λi c z h1 h2=>by
  have ck:=h.ck i c z h1 h2
  have:=ck.more (N':=s.N++e) (n':=s.C.length) [] (ru _) (λ_ _ q=>q) (λq=>(ck.x4 q).2.1) λx h0 h1=>⟨by simp only[re];omega,by
   unfold nameOf;rw[oX ⟨h0,by simp only[re];omega⟩,oX ⟨h0,h1⟩,sC za]⟩
  rw[rp] at this;exact this⟩
theorem cf {nm:List UInt8}:∀ {l:List (List UInt8)} {i x:Nat},Xn nm l i=some x->i<=x/\l[x-i]?=some nm
 |[],_,_,h=>by cases h
 |s::l,i,x,h=>by
  rw[Xn] at h;by_cases q:(((nm:List UInt8)==s)&&true)=true
  .rw[oX q] at h;injection h with h
   subst h;rw[ti] at q;exact⟨r6 _,by rw[tZ,eq_of_beq q];rfl⟩
  .rw[oV q] at h;obtain⟨a,b⟩:=cf h;exact⟨za,by rw[show x-i=(x-(i+1))+1 by omega,sR];exact b⟩
theorem bu {nm:List UInt8}:∀ {l:List (List UInt8)} {i:Nat},Xn nm l i=none->nm ∉ l
 |[],_,_=>λh=>nomatch h
 |s::l,i,h=>λhm=>by
  rw[Xn] at h;by_cases q:(((nm:List UInt8)==s)&&true)=true
  .rw[oX q] at h;cases h
  .rw[oV q] at h;rcases rx.1 hm with w|w
   .rw[w] at q;simp at q
   .exact bu h w
theorem sym_m {s:Hp}{Z:List Gh}(h:MG V s Z)(nm:List UInt8):MG V (symS s nm).2 Z/\(0<=(symS s nm).1/\(symS s nm).1<((symS s nm).2.N.length:Int))/\nameOf (symS s nm).2.N (symS s nm).1=nm/\(symS s nm).2.C=s.C/\(∀m∈(symS s nm).2.N,m∈s.N\/m=nm)/\(s.N.Nodup->(symS s nm).2.N.Nodup):=by
 unfold symS;split
 .rename_i i q;obtain⟨_,b⟩:=cf q;rw[tY] at b;have hl:i<s.N.length:=by rcases Nat.lt_or_ge i s.N.length with w|w;exact w;rw[ss w] at b;cases b
  refine⟨h,⟨tf _,zm⟩,?_,rfl,λm q=>.inl q,id⟩;unfold nameOf;dsimp only;rw[oX ⟨tf _,za⟩,rC,b];rfl
 .rename_i qn;refine⟨h.names [nm],⟨tf _,by simp only[re,rD];omega⟩,?_,rfl,λm q=>?_,λq=>sq.2 ⟨q,zb,λa ha b hb e=>bu qn<|by rw[rJ.1 hb] at e;exact e▸ha⟩⟩
  .unfold nameOf;dsimp only;rw[oX ⟨tf _,by simp only[re,rD];omega⟩,rC,sT<|r6 _,tZ];rfl
  .rcases rQ.1 q with q|q
   .exact .inl q
   .exact .inr<|rJ.1 q
def EnM (V:Int->Option La)(s:Hp)(Z:List Gh)(z:(Int×Int)×Hp)(A:La):Prop:=z.1.2=0->∃E,MG V z.2 (Z++E)/\(Kin (Z++E) z.1.1/\mat (Z++E) z.1.1=A)/\Keep (λ_=>True) s z.2/\(NmV s.N->NmV z.2.N)
theorem EnM.put {s:Hp}{Z:List Gh}(h:MG V s Z)(c:Cel)(z:Gh)(hc:yC s c=true->CkM V s.N Z (s.C.length:Int) (s.C.length:Int) c z):EnM V s Z (putS s c) z.m:=λe=>by
 rcases h.put c z hc with⟨a,_⟩|⟨_,b,g,w⟩
 .exact absurd e a
 .have ml:=J9 Z z;refine⟨[z],g,?_,Keep.put c<|.refl _,by rw[w];exact id⟩;rw[b];exact⟨ml.2.2,ml.1⟩
theorem EnM.seq {s:Hp}{Z:List Gh}{z y:(Int×Int)×Hp}{A B:La}(h:EnM V s Z z A)(h0:z.1.2=0)(g:∀E,MG V z.2 (Z++E)->Kin (Z++E) z.1.1->mat (Z++E) z.1.1=A->EnM V z.2 (Z++E) y B):EnM V s Z y B:=λe=>by
 obtain⟨E,a1,⟨a2,a3⟩,a4,a5⟩:=h h0;obtain⟨F,b1,b2,b4,b5⟩:=g E a1 a2 a3 e;exact⟨E++F,by rw[<-rh];exact b1,by rw[<-rh];exact b2,a4.trans b4,λq=>b5<|a5 q⟩
def VarO (O:Option<|List Int):Prop:=∀(C:List Cel) (n:Int),0<=n->(varE O C n).2=0->(varE O C n).1=n
theorem gr:VarO none:=λC n _ e=>by
 unfold varE at e ⊢;dsimp only at e ⊢;split at e
 next w=>rw[oX w]
 .exact absurd e (by show¬(1:Int)=0;decide)
def EncP (V:Int->Option La)(O:Option<|List Int)(t:Tm):Prop:=∀(s:Hp) (Z:List Gh) (d:Nat),validB t=true->MG V s Z->Cq (Vq O Z) d (toL t)->EnM V s Z (encE O t s) (toL t)
theorem two_en {s:Hp}{Z:List Gh}(h:MG V s Z){f x:Int}(hf:Kin Z f)(hx:Kin Z x):EnM V s Z (putS s ⟨7,f,x,0,0⟩) (.app (mat Z f)<|mat Z x):=by
 have no:∀ {m:Int} {P:Prop},m≠7->(7:Int)=m->P:=λh e=>absurd e.symm h;exact .put h _ ⟨.app (mat Z f)<|mat Z x,[]⟩ λ_=>⟨⟨by show(0:Int)<=7;decide,by show(7:Int)<=11;decide⟩,no zc,no zc,no zc,no zc,no zc,no zc,no zc,λ_=>⟨hf,hx,.refl _⟩,no zc,no zc,no zc,no zc⟩
theorem encr_m {O:Option (List Int)}:∀(l:List Tm) (_:∀u∈l,EncP V O u) (f:Int) (A:La) (s:Hp) (Z:List Gh) (d:Nat),yp l=true->MG V s Z->Kin Z f->mat Z f=A->(∀u∈l,Cq (Vq O Z) d<|toL u)->EnM V s Z (encR O l f s) (apps A<|toLs l)
 |[],_,f,A,s,Z,d,_,h,hk,hm,_=>λ_=>⟨[],by rw[rp];exact h,by rw[rp];exact⟨hk,hm⟩,.refl _,id⟩
 |u::l,hP,f,A,s,Z,d,hv,h,hk,hm,hc=>by
  rw[yp,oZ] at hv;have e1:=hP u (r7 ..) s Z d hv.1 h<|hc u<|r7 ..
  rw[encR];split
  next q=>exact λe=>absurd e q
  .rename_i q;have q:(encE O u s).1.2=0:=zo q
   refine e1.seq q λE g k1 k2=>?_;have e2:=two_en g (hk.app E) k1;split
   next q2=>exact λe=>absurd e q2
   next q2=>refine e2.seq (zo q2) λF g2 k3 k4=>?_;rw[toLs,w9];refine encr_m l (λv hv=>hP v<|r9 _ hv) _ _ _ _ d hv.2 g2 k3 (by rw[k4,k2,zJ E hk,hm]) λv hv=>Vq.app F<|Vq.app E<|hc v<|r9 _ hv
theorem enc_node {O:Option (List Int)}(hO:VarO O){k n:Int}{nm:List UInt8}{l:List Tm}(hP:∀u∈l,EncP V O u):EncP V O (.mk k nm n l):=λs Z d hv h hc=>by
 rw[encE];split
 .rename_i q;subst q;rw[validB,oX (show((0:Int)==0)=true from rfl),oZ,oZ] at hv;obtain⟨⟨v1,v2⟩,_⟩:=hv;have v2:=eq_of_beq v2;subst v2;obtain⟨a1,a2,a3,a4,a5,a6⟩:=sym_m h nm;have no:∀ {m:Int} {P:Prop},m≠0->(0:Int)=m->P:=λh e=>absurd e.symm h;intro e;obtain⟨E,b1,b2,b3,b4⟩:=EnM.put a1 ⟨0,(symS s nm).1,0,0,0⟩ ⟨.con 0 0 nm,[]⟩ (λ_=>⟨⟨by show(0:Int)<=0;decide,by show(0:Int)<=11;decide⟩,λ_=>⟨a2.1,a2.2,by dsimp only;rw[a3];exact .refl _⟩,no zc,no zc,no zc,no zc,no zc,no zc,no zc,no zc,no zc,no zc,no zc⟩) e;refine⟨E,b1,b2,⟨by rw[<-a4];exact b3.1,λi c q w=>b3.2 i c (by rw[a4];exact q) w⟩,λq=>b4 ⟨a6 q.1,λm hm=>?_⟩⟩;rcases a5 m hm with w|w
  .exact q.2 m w
  .rw[w];exact v1
 .rename_i q0;split
  next q=>subst q;rw[validB,oV zc,oX (show((1:Int)==1)=true from rfl),oZ,oZ,oZ] at hv;obtain⟨⟨⟨v1,v2⟩,_⟩,_⟩:=hv;have v2:=eq_of_beq v2;subst v2;have no:∀ {m:Int} {P:Prop},m≠1->(1:Int)=m->P:=λh e=>absurd e.symm h;exact .put h _ ⟨.con 1 n [],[]⟩ λ_=>⟨⟨by show(0:Int)<=1;decide,by show(1:Int)<=11;decide⟩,no zc,λ_=>⟨rA v1,.refl _⟩,no zc,no zc,no zc,no zc,no zc,no zc,no zc,no zc,no zc,no zc⟩
  .rename_i q1;split
   next q=>subst q;rw[validB,oV zc,oV zc,oX (show((2:Int)==2)=true from rfl),oZ,oZ] at hv;obtain⟨⟨v2,_⟩,_⟩:=hv;have v2:=eq_of_beq v2;subst v2;have no:∀ {m:Int} {P:Prop},m≠2->(2:Int)=m->P:=λh e=>absurd e.symm h;exact .put h _ ⟨.con 2 n [],[]⟩ λ_=>⟨⟨by show(0:Int)<=2;decide,by show(2:Int)<=11;decide⟩,no zc,no zc,λ_=>.refl _,no zc,no zc,no zc,no zc,no zc,no zc,no zc,no zc,no zc⟩
   .rename_i q2;split
    next q=>subst q;rw[yY] at hc;have hc:n.toNat<d/\n.toNat<=2097152:=hc;have v0:=(Xx.1 hv).1;have no:∀ {m:Int} {P:Prop},m≠3->(3:Int)=m->P:=λh e=>absurd e.symm h;rw[yY];exact .put h _ ⟨.bv n.toNat,[]⟩ λ_=>⟨⟨by show(0:Int)<=3;decide,by show(3:Int)<=11;decide⟩,no zc,no zc,no zc,λ_=>⟨⟨v0,zm⟩,.refl _⟩,no zc,no zc,no zc,no zc,no zc,no zc,no zc,no zc⟩
    .rename_i q3;split
     .rename_i q;subst q;rw[wO] at hc ⊢;intro e;have hc:Kin Z n/\mat Z n=.var n:=hc s.C e
      have v0:0<=n:=by
       rw[validB,oV zc,oV zc,oV zc,oV zc,oX zc] at hv;simp only[oZ,rL] at hv;exact hv.1.1.1.1
      have w:=hO s.C n v0 e;dsimp only at e ⊢;rw[w];exact⟨[],by rw[rp];exact h,by rw[rp];exact hc,.refl _,id⟩
     .rename_i q4;by_cases k5:k=5
      .subst k5;obtain⟨x,hl,_⟩:=okB5 (zG _ hv) rfl;subst hl;rw[aq] at hv
       have vx:validB x=true:=by
        simp only[oZ] at hv;have:=hv.2;rw[yp,oZ] at this;exact this.1
       rw[yQ] at hc ⊢;have hc:Cq (Vq O Z) (d+1) (toL x):=hc;have e1:=hP x (r7 ..) s Z (d+1) vx h hc;rw[encL];split
       next q=>exact λe=>absurd e q
       next q=>rw[oX rfl];refine e1.seq (zo q) λE g k1 k2=>?_;have no:∀ {m:Int} {P:Prop},m≠6->(6:Int)=m->P:=λh e=>absurd e.symm h;exact .put g _ ⟨.lam<|toL x,[]⟩ λ_=>⟨⟨by show(0:Int)<=6;decide,by show(6:Int)<=11;decide⟩,no zc,no zc,no zc,no zc,no zc,no zc,λ_=>⟨k1,by dsimp only;rw[k2];exact .refl _⟩,no zc,no zc,no zc,no zc,no zc⟩
      .by_cases k6:k=6
       .subst k6;obtain⟨x,y,r,hl,hx,_⟩:=okB6 (zG _ hv) rfl;subst hl;rw[lH] at hv
        have vl:yp (x::y::r)=true:=by
         simp only[oZ] at hv;exact hv.2
        rw[yp,oZ] at vl;rw[wb] at hc ⊢;obtain⟨c1,c2⟩:=(Cq.apps _ _).1 hc;have e1:=hP x (r7 ..) s Z d vl.1 h c1;rw[encL];split
        next q=>exact λe=>absurd e q
        next q=>refine e1.seq (zo q) λE g k1 k2=>?_;exact encr_m (y::r) (λv hv=>hP v<|r9 _ hv) _ _ _ _ d vl.2 g k1 k2 λv hv=>Vq.app E<|c2 _<|by rw[y8];exact List.mem_map_of_mem hv
       .exfalso;rw[validB,oV<|zo q0,oV<|zo q1,oV<|zo q2,oV<|zo q3,oV<|zo q4,oV<|zo k5,oV<|zo k6] at hv;cases hv
mutual
theorem enc_m {O:Option (List Int)}(hO:VarO O):∀t:Tm,EncP V O t
 |.mk _ _ _ l=>enc_node hO<|encs_m hO l
theorem encs_m {O:Option (List Int)}(hO:VarO O):∀l:List Tm,∀u∈l,EncP V O u
 |[],_,h=>by cases h
 |t::l,u,h=>(rx.1 h).elim (λe=>e▸enc_m hO t) λh=>encs_m hO l u h
end
theorem cK {O:Option (List Int)}(hO:VarO O){s:Hp}{Z:List Gh}(h:MG V s Z)(t:Tm){d:Nat}(hc:validB t=true->Cq (Vq O Z) d (toL t)):EnM V s Z (encS O s t) (toL t):=by
 unfold encS;split
 .exact λe=>absurd e (by show¬(1:Int)=0;decide)
 .rename_i hv;split
  next q=>exact λe=>absurd e q
  .exact enc_m hO t s Z d (zo hv) h<|hc<|zo hv
theorem set_m {w:Wp}{Z:List Gh}(h:MG V w.s Z)(hN:NmV w.s.N){x:Int}{t:Tm}(hx:Kin Z x)(h4:(cellOf w.s.C x).t=4)(hc:Cv Z 0<|toL t)(e:(setW w x t).1=0):∃E,MG (wa V x<|toL t) (setW w x t).2.s (Z++E)/\SubV V (wa V x<|toL t)/\NmV (setW w x t).2.s.N/\∀z,Kin Z z->z≠x->cellOf (setW w x t).2.s.C z=cellOf w.s.C z:=by
 have en:=cK gr h t λ_=>hc.imp λ_ w _ _=>w;unfold setW at e ⊢;split at e
 next q=>exact absurd e q
 .rename_i q;rw[oV q];obtain⟨E,a1,⟨a2,a3⟩,a4,a5⟩:=en (zo q);dsimp only at e ⊢;have hk:=a4.cell (h.inC hx) trivial;have b:=a1.bind x _ (hx.app E) (by rw[hk.2];exact h4) a2 (λk=>by rw[a3];exact hc.lift k<|sY _) e;rw[a3] at b;refine⟨E,b.1,b.2,?_⟩;rcases w7 (encS none w.s t).2 x ⟨5,(encS none w.s t).1.1,0,0,0⟩ with r|⟨hin,r⟩<;>rw[r]
  .exact⟨a5 hN,λz hz _=>(a4.cell (h.inC hz) trivial).2⟩
  .refine⟨a5 hN,λz hz ne=>?_⟩;rw[<-(a4.cell (h.inC hz) trivial).2];have hi:=yc.1 hin;have h0:=hz.p0;dsimp only;unfold cellOf;simp only[rU];split
   .rw[sF,oV za]
   .rfl
theorem dM:∀(n:Nat) (t:Tm) (s:Hp),(encE none (lamsF n t) s).1.2=0->(encE none t s).1.2=0/\(encE none (lamsF n t) s).2.C.length=(encE none t s).2.C.length+n
 |0,_,_,h=>⟨h,rfl⟩
 |n+1,t,s,h=>by
  rw[lamsF] at h ⊢;obtain⟨a,b⟩:=dM n _ s h;rw[b]
  have e:encE none (.mk 5 [] 0 [t]) s=encL none 5 [t] s:=by
   rw[encE,oV zc,oV zc,oV zc,oV zc,oV zc]
  rw[e,encL] at a ⊢;split at a
  next q=>exact absurd a q
  .rename_i q;rw[oX rfl] at a;rw[oV q,oX rfl];refine⟨zo q,?_⟩;rcases dL (encE none t s).2 ⟨6,(encE none t s).1.1,0,0,0⟩ with⟨_,g⟩|⟨g,_⟩
   .rw[g,re,rD];omega
   .exact absurd a g
theorem fg {w:Wp}{x:Int}{n:Nat}{t:Tm}(ok:OkH w.s)(e:(setW w x<|lamsF n t).1=0):n<=1048576:=by
 have q:(encE none (lamsF n t) w.s).1.2=0:=by
  unfold setW at e;split at e
  next q=>exact absurd e q
  .rename_i q;unfold encS at q;split at q
   .exact absurd (show(1:Int)≠0 by decide) q
   .split at q
    next w=>exact absurd w q
    .simpa using q
 obtain⟨_,b⟩:=dM n t w.s q;have:=((wN none (lamsF n t) w.s).1 ok).C;omega
theorem max0 (lv:Int):0<=zE [lv,0]:=by simp only[zE,List.foldl];omega
theorem uZ (C:List Cel)(c:Cel):inC (C++[c]) (C.length:Int)=true/\cellOf (C++[c]) (C.length:Int)=c:=by
 have h:inC (C++[c]) (C.length:Int)=true:=yc.2 ⟨tf _,by simp only[re,rD];omega⟩;have:=xQ h;rw[rC,sT<|r6 _,tZ] at this;injection this with this
 exact⟨h,this.symm⟩
theorem hang_m {w:Wp}{Z:List Gh}(h:MG V w.s Z)(hN:NmV w.s.N){x lv:Int}{n:Nat}{on:List Tm}(hx:Kin Z x)(h4:(cellOf w.s.C x).t=4)(hc:n<=1048576->∀u∈on,Cv Z n<|toL u)(e:(yP w x lv n on).1.2=0):
  ∃y E,(yP w x lv n on).1.1=.mk 4 [] y []/\(Kin (Z++E) y/\mat (Z++E) y=.var y)/\MG (wa V x<|yy n<|apps (.var y)<|toLs on) (yP w x lv n on).2.s (Z++E)/\SubV V (wa V x<|yy n<|apps (.var y)<|toLs on)/\NmV (yP w x lv n on).2.s.N/\(∀z,Kin Z z->z≠x->cellOf (yP w x lv n on).2.s.C z=cellOf w.s.C z)/\y=(Z.length:Int)/\cellOf (yP w x lv n on).2.s.C y=⟨4,zE [lv,0],0,0,0⟩:=by
 have dm:V (w.s.C.length:Int)=none:=by
  cases q:V (w.s.C.length:Int) with
  |none=>rfl
  |some v=>have:=h.dom _ (by rw[q];exact λw=>by cases w);omega
 have no:∀ {m:Int} {P:Prop},m≠4->(4:Int)=m->P:=λh e=>absurd e.symm h;have en:EnM V w.s Z (zD w.s lv) (.var (w.s.C.length:Int)):=.put h _ ⟨.var (w.s.C.length:Int),[.dum (zE [lv,0]).toNat]⟩ λ_=>⟨⟨by show(0:Int)<=4;decide,by show(4:Int)<=11;decide⟩,no zc,no zc,no zc,no zc,λ_=>⟨rfl,dm,rfl,max0 lv⟩,no zc,no zc,no zc,no zc,no zc,no zc,no zc⟩;unfold yP at e ⊢;split at e
 next q=>exact absurd e q
 .rename_i q;rw[oV q];dsimp only at e ⊢;have q:(zD w.s lv).1.2=0:=zo q
  have ey:(zD w.s lv).1.1=(w.s.C.length:Int):=by
   unfold zD putS at q ⊢;split at q
   .cases q
   .split at q
    .cases q
    next q1 q2=>rw[oV q1,oV q2]
  have ec:cellOf (zD w.s lv).2.C (w.s.C.length:Int)=⟨4,zE [lv,0],0,0,0⟩:=by
   unfold zD putS at q ⊢;split at q
   .cases q
   .split at q
    .cases q
    next q1 q2=>rw[oV q1,oV q2];exact(uZ _ _).2
  obtain⟨E,a1,⟨a2,a3⟩,a4,a5⟩:=en q;rw[ey] at a2 a3 e ⊢;have hk:=a4.cell (h.inC hx) trivial;have et:toL (lamsF n<|applyF (.mk 4 [] (w.s.C.length:Int) []) on)=yy n (apps (.var (w.s.C.length:Int))<|toLs on):=by rw[vI,yL,wO]
  have hc:=hc<|fg (w:=⟨(zD w.s lv).2,w.f⟩) a1.ok e
  obtain⟨F,b1,b2,b3,b4⟩:=set_m (w:=⟨(zD w.s lv).2,w.f⟩) (x:=x) (t:=lamsF n<|applyF (.mk 4 [] (w.s.C.length:Int) []) on) a1 (a5 hN) (hx.app E) (by dsimp only;rw[hk.2];exact h4) (by
   rw[et];refine Cv.lams n ((Cv.apps _ _).2 ⟨⟨a2,a3⟩,λa ha=>?_⟩);rw[y8] at ha;obtain⟨u,hu,rfl⟩:=rK.1 ha;rw[rB];exact(hc u hu).app E) e
  rw[et] at b1 b2;exact⟨_,E++F,rfl,⟨(by rw[<-rh];exact a2.app F),by rw[<-rh,zJ F a2];exact a3⟩,by rw[<-rh];exact b1,b2,b3,λz hz ne=>(b4 z (hz.app E) ne).trans (a4.cell (h.inC hz) trivial).2,by rw[h.len],(b4 _ a2<|by have:=hx.p1;rw[h.len] at this;omega).trans ec⟩
end
section
variable {V:Int->Option La}
theorem YW {w:Wp}{Z:List Gh}(h:MG V w.s Z){a:Int}{A:La}(hk:Me V Z a A)(e:(lookW w a).1.2=0):∃E,MG V (lookW w a).2.s (Z++E)/\NF w.s (lookW w a).2.s/\(lookW w a).2.s.N=w.s.N/\SpM V (lookW w a).2.s (Z++E) ((lookW w a).1.1.h,(lookW w a).1.1.js) A/\(lookW w a).1.1.c=cellOf (lookW w a).2.s.C (lookW w a).1.1.h:=by
 have hd:=YJ (2*w.f.toNat+2) ⟨w.s,w.f,0⟩ a Z A (r6 _) h λ_=>hk;unfold lookW xw at e ⊢;generalize zK (2*w.f.toNat+2) ⟨w.s,w.f,0⟩ a=z at*;obtain⟨E,a1,a2,a4,a3⟩:=hd;by_cases q:z.2.e=0
 .have q2:¬z.2.e≠0:=λw=>w q;rw[oV q2] at e ⊢;have q3:¬(0:Int)≠0:=λw=>w rfl;dsimp only at e ⊢;rw[oV q3];exact⟨E,a1,a2,a4,(a3 q).2,rfl⟩
 .have q2:z.2.e≠0:=q;rw[oX q2] at e;dsimp only at e;rw[oX q2] at e;exact absurd e q
theorem full_w {w:Wp}{Z:List Gh}(h:MG V w.s Z)(hN:NmV w.s.N){a:Int}{A:La}(hk:Me V Z a A)(e:(yg w a).1.2=0):∃E,MG V (yg w a).2.s (Z++E)/\NF w.s (yg w a).2.s/\(yg w a).2.s.N=w.s.N/\validB (yg w a).1.1=true/\Eqv V A (toL (yg w a).1.1):=by
 have hd:=jX (2*w.f.toNat+2) (w.f.toNat+1) ⟨w.s,w.f,0⟩ a Z A (r6 _) (r6 _) h hN λ_=>hk;unfold yg zQ at e ⊢;generalize fulR (2*w.f.toNat+2) (w.f.toNat+1) ⟨w.s,w.f,0⟩ a=z at*;obtain⟨E,a1,a2,a4,a3⟩:=hd;by_cases q:z.2.e=0
 .have q2:¬z.2.e≠0:=λw=>w q;have t:=(a3 q).2;rw[oV q2,oX t.v] at e ⊢;exact⟨E,a1,a2,a4,xN t.v,t.e.trans h.cl<|.of<|vn _ t.v⟩
 .have q2:z.2.e≠0:=q;rw[oX q2] at e;exact absurd e q
def IsLf (t:Tm):Prop:=∃n:Int,t=.mk 3 [] n []/\0<=n/\n<=4611686018427387904\/t=.mk 1 [] n []
theorem o8 {t:Tm}(hv:validB t=true)(hk:t.k=3\/t.k=1):IsLf t:=by
 obtain⟨k,s,n,l⟩:=t;have hk:k=3\/k=1:=hk;have hl:l=[]:=okB0 (zG _ hv) za za;subst hl;rcases hk with rfl|rfl
 .have:=Xx.1 hv;exact⟨n,.inl ⟨by rw[this.2.2.1],this.1,this.2.1⟩⟩
 .rw[validB,oV zc,oX zc] at hv;simp only[oZ,rT] at hv;exact⟨n,.inr<|by rw[hv.1.1.2]⟩
theorem wM {n:Int}:toL (.mk 1 [] n [])=.con 1 n []:=by
 rw[toL,mkL,oV zc,oV zc,oV zc,oV zc]
theorem xW (lv:Int):∀(l:List Int) (L:List La) (out:List Tm) (w:Wp) (Z:List Gh),MG V w.s Z->NmV w.s.N->All2 (λx X=>Me V Z x X) l L->(zw lv l out w).1.2=0->
  ∃E ws,MG V (zw lv l out w).2.s (Z++E)/\NF w.s (zw lv l out w).2.s/\(zw lv l out w).2.s.N=w.s.N/\(zw lv l out w).1.1=out++ws/\All2 (λA t=>Eqv V A<|toL t) L ws/\∀t∈ws,IsLf t
 |[],[],out,w,Z,h,_,_,_=>⟨[],[],by rw[rp];exact h,Keep.refl _,rfl,by rw[rp];rfl,trivial,λ_ q=>by cases q⟩
 |[],_::_,_,_,_,_,_,k,_=>k.elim
 |_::_,[],_,_,_,_,_,k,_=>k.elim
 |a::l,A::L,out,w,Z,h,hN,hk,e=>by
  rw[zw] at e ⊢;split at e
  next q=>exact absurd e q
  .rename_i q;rw[oV q];split at e
   .exact absurd e (by show¬(171:Int)=0;decide)
   .rename_i q2;rw[oV q2];obtain⟨E,a1,a2,a3,a4,a5⟩:=full_w h hN hk.1 (zo q);obtain⟨F,ws,b1,b2,b3,b4,b5,b6⟩:=xW lv l L _ _ (Z++E) a1 (by rw[a3];exact hN) (yn E hk.2) e
    have hl:(xK (yg w a).1.1).2=true:=by
     unfold badZ at q2;simp only[tO,sX,not_or] at q2;exact zo q2.1.1
    have key:Eqv V A (toL (xK (yg w a).1.1).1)/\IsLf (xK (yg w a).1.1).1:=by
     unfold xK at hl ⊢;rw[oX a4] at hl ⊢;split at hl
     next q3=>rw[oX q3];exact⟨a5.trans h.cl<|.of<|vn _ a4,o8 (xN a4) q3⟩
     .cases hl
    refine⟨E++F,(xK (yg w a).1.1).1::ws,by rw[<-rh];exact b1,a2.trans b2,b3.trans a3,by rw[b4];simp,⟨key.1,b5⟩,λt ht=>?_⟩;rcases rx.1 ht with r|r
    .rw[r];exact key.2
    .exact b6 t r
end
theorem gs_b (pre:List Tm)(t:Tm)(l:List Tm)(k:Nat):gs (toLs<|pre++t::l) (k+l.length) k=(toL t).sh k 0:=by
 have hl:(toLs<|pre++t::l).length=pre.length+(l.length+1):=by rw[y8,sM,re,r5]
 rw[gs,hl,oV za,oX za,(za:pre.length+(l.length+1)-1-(k+l.length-k)=pre.length),y8];congr 1;simp[List.getD]
theorem fp (o:Tm):∀ {l:List Tm} {r:Nat},ixZ o l=some r->∃pre t m,l=pre++t::m/\r=m.length/\lfZ t o=true
 |[],_,h=>by cases h
 |u::l,r,h=>by
  rw[ixZ] at h;split at h
  .rename_i q;injection h with h
   exact⟨[],u,l,rfl,h.symm,q⟩
  .obtain⟨p,t,m,a,b,c⟩:=fp o h;exact⟨u::p,t,m,by rw[a];rfl,b,c⟩
theorem j8 (n:Nat):toL (bndT (n:Int))=.bv n:=by rw[bndT,yY,rC]
section
variable {v:Iv} (hL:∀u∈v.l,IsLf u) {k:Nat} (hk:k+v.l.length<=2097152) {Z:List Gh}
include hL hk
theorem img_m {t:Tm}(ht:IsLf t)(h:(yZ v t (k:Int)).2=true):(toL (yZ v t (k:Int)).1).wk (gs<|toLs v.l) k=toL t/\Cv Z (k+v.l.length) (toL (yZ v t (k:Int)).1):=by
 unfold yZ at h ⊢;split
 .rename_i q;obtain⟨n,⟨rfl,h0,h1⟩|rfl⟩:=ht
  .have q2:n<(k:Int):=q.2;show(toL<|.mk 3 [] n []).wk _ _=toL (.mk 3 [] n [])/\Cv Z _ (toL<|.mk 3 [] n []);rw[yY,La.wk,gs,oX za];exact⟨rfl,za,za⟩
  .exact absurd q.1 (by show¬(1:Int)=3;decide)
 .rename_i q;rw[oV q] at h;split
  .rename_i r q2;obtain⟨pre,u,m,e1,e2,hp⟩:=fp _ q2;have hu:=hL u (by rw[e1];simp);have hlen:v.l.length=pre.length+(m.length+1):=by rw[e1,re,r5]
   rw[show((k:Int)+(r:Int))=((k+r:Nat):Int) by omega,j8];refine⟨?_,za,za⟩;rw[La.wk,e1,e2,gs_b];simp only[lfZ,oZ,rT] at hp;obtain⟨m',hm⟩:=hu;obtain⟨n,hn⟩:=ht;rcases hn with⟨rfl,h0,h1⟩|rfl
   .have eo:outZ (.mk 3 [] n []) (k:Int)=.mk 3 [] (wr<|n-k) []:=oX rfl;have ew:wr (n-(k:Int))=n-k:=w64 (x:=n-(k:Int)) za za;rw[eo,ew] at hp;rcases hm with⟨hm,_⟩|hm
    .rw[hm] at hp ⊢;have e2:m'=n-(k:Int):=hp.2;have q3:¬n<(k:Int):=λw=>q ⟨rfl,w⟩;rw[yY,yY,La.sh,oV za];congr 1;omega
    .rw[hm] at hp;exact absurd hp.1 (by show¬(1:Int)=3;decide)
   .have eo:outZ (.mk 1 [] n []) (k:Int)=.mk 1 [] n []:=oV (by show¬(1:Int)=3;decide);rw[eo] at hp;rcases hm with⟨hm,_⟩|hm
    .rw[hm] at hp;exact absurd hp.1 (by show¬(3:Int)=1;decide)
    .rw[hm] at hp ⊢;have e2:m'=n:=hp.2;subst e2;rw[wM];rfl
  .rename_i q2;rw[q2] at h;simp only[oZ,rT] at h;obtain⟨n,⟨rfl,_⟩|rfl⟩:=ht
   .exact absurd h.1 (by show¬(3:Int)=1;decide)
   .rw[wM];exact⟨rfl,trivial⟩
def kpZ (v:Iv)(k:Int)(l:List Tm):List Tm:=l.filter λt=>(yZ v t k).2
theorem pv:∀(l pre:List Tm),(∀t∈l,IsLf t)->
  ((toLs (im1 v (k:Int) l).1).map (λa=>a.wk (gs<|toLs<|pre++l) 0)=toLs (kpZ v (k:Int) l)/\(toLs (im1 v (k:Int) l).2).map (λa=>a.wk (gs<|toLs v.l) k)=toLs (kpZ v (k:Int) l))/\
  ((pre++l).length<=2097152->∀u∈(im1 v (k:Int) l).1,Cv Z (pre++l).length<|toL u)/\(∀u∈(im1 v (k:Int) l).2,Cv Z (k+v.l.length)<|toL u)/\(im1 v (k:Int) l).1.length=(kpZ v (k:Int) l).length
 |[],_,_=>⟨⟨rfl,rfl⟩,(λ_ _ q=>by cases q),(λ_ q=>by cases q),rfl⟩
 |t::l,pre,hl=>by
  have ih:=pv l (pre++[t]) λu hu=>hl u<|r9 _ hu
  rw[show pre++[t]++l=pre++t::l by simp] at ih;obtain⟨⟨i1,i2⟩,i3,i4,i5⟩:=ih;rw[im1,kpZ,List.filter_cons];split
  .rename_i q;obtain⟨m1,m2⟩:=img_m hL hk (Z:=Z) (hl t<|r7 ..) q;have e:=gs_b pre t l 0;rw[La.sh_zero,rB] at e;dsimp only;refine⟨⟨?_,?_⟩,λhp u hu=>?_,λu hu=>?_,by rw[r5,r5,i5];rfl⟩
   .rw[toLs,rO,i1,toLs,j8,La.wk,e];rfl
   .rw[toLs,rO,i2,toLs,m1];rfl
   .rcases rx.1 hu with r|r
    .rw[r,j8];simp only[re,r5] at hp ⊢;exact⟨za,za⟩
    .exact i3 hp u r
   .rcases rx.1 hu with r|r
    .rw[r];exact m2
    .exact i4 u r
  .exact⟨⟨i1,i2⟩,i3,i4,i5⟩
theorem im2_m (lv vlv:Int)(g:Nat->Nat->La)(d e:Nat):∀(l pre:List Tm),v.l=pre++l->
  ((toLs (im2 lv vlv (k:Int) l).1).map (λa=>a.wk g d)=toLs (im2 lv vlv (k:Int) l).1/\(toLs (im2 lv vlv (k:Int) l).2).map (λa=>a.wk (gs<|toLs v.l) k)=toLs (im2 lv vlv (k:Int) l).1)/\
  (∀u∈(im2 lv vlv (k:Int) l).1,Cv Z e<|toL u)/\(∀u∈(im2 lv vlv (k:Int) l).2,Cv Z (k+v.l.length)<|toL u)
 |[],_,_=>⟨⟨rfl,rfl⟩,(λ_ q=>by cases q),(λ_ q=>by cases q)⟩
 |t::l,pre,hl=>by
  obtain⟨⟨i1,i2⟩,i3,i4⟩:=im2_m lv vlv g d e l (pre++[t]) (by rw[hl];simp);rw[im2];split
  .rename_i q;obtain⟨n,⟨rfl,_⟩|rfl⟩:=hL t (by rw[hl];simp)
   .exact absurd q.2.1 (by show¬(3:Int)=1;decide)
   have ex:=gs_b pre (.mk 1 [] n []) l k;have hlen:v.l.length=pre.length+(l.length+1):=by rw[hl,re,r5]
   have eb:toL (bndT<|(k:Int)+(l.length:Int))=.bv (k+l.length):=by rw[show((k:Int)+(l.length:Int))=((k+l.length:Nat):Int) by omega,j8]
   dsimp only;refine⟨⟨?_,?_⟩,λu hu=>?_,λu hu=>?_⟩
   .rw[toLs,rO,i1,wM];rfl
   .rw[toLs,rO,i2,toLs,eb,La.wk,hl,ex,wM];rfl
   .rcases rx.1 hu with r|r
    .rw[r,wM];trivial
    .exact i3 u r
   .rcases rx.1 hu with r|r
    .rw[r,eb];exact⟨za,za⟩
    .exact i4 u r
  .exact⟨⟨i1,i2⟩,i3,i4⟩
end
def Mz (Z:List Gh)(x:Int):Int:=if 0<=x then(match rat Z x with|[.dum l]=>(l:Int)|_=> -1) else -1
theorem xR {Z:List Gh}(F:List Gh){x:Int}(h:Kin Z x):Mz (Z++F) x=Mz Z x:=by unfold Mz;rw[jp F h]
theorem Mz_in {Z:List Gh}{x:Int}(h:0<=Mz Z x):Kin Z x:=by
 unfold Mz at h;split at h
 .rename_i q;refine⟨q,?_⟩;by_cases w:x<(Z.length:Int)
  .exact w
  .have:rat Z x=[]:=by unfold rat;rw[ss za];rfl
   rw[this] at h;exact absurd h zc
 .exact absurd h zc
theorem MG.lv {V:Int->Option La}{s:Hp}{Z:List Gh}(h:MG V s Z){x:Int}(hx:Kin Z x)(h4:(cellOf s.C x).t=4):Mz Z x=(cellOf s.C x).a/\0<=(cellOf s.C x).a/\V x=none:=by
 obtain⟨_,a1,a2,a3⟩:=(h.at hx).x4 h4;have a2:rat Z x=_:=a2;refine⟨?_,a3,a1⟩;unfold Mz;rw[oX hx.p0,a2];show(((cellOf s.C x).a.toNat:Nat):Int)=_;omega
abbrev ppx (M:Int->Int)(x lv:Int):Int->Prop:=λz=>z≠x/\M z<=lv
abbrev pT:Int->Prop:=λ_=>True
def lfT (c:Int)(q:Int->Prop)(t:Tm):Prop:=IsLf t/\(t.k=1->c<t.n/\q t.n)
theorem lfT.q {c:Int}{q:Int->Prop}{t:Tm}(h:lfT c q t):lfQ c q (toL t):=by
 obtain⟨⟨n,⟨e,h0⟩|e⟩,h2⟩:=h
 .subst e;rw[yY];trivial
 .subst e;rw[wM];exact⟨rfl,rfl,(h2 rfl).1,(h2 rfl).2⟩
theorem am {a b:Tm}(ha:IsLf a)(hb:IsLf b)(h:toL a=toL b):a=b:=by
 obtain⟨n,⟨e,h0,_⟩|e⟩:=ha
 .subst e;obtain⟨m,⟨e,h1,_⟩|e⟩:=hb
  .subst e;rw[yY,yY] at h;injection h with h
   rw[(za:n=m)]
  .subst e;rw[yY,wM] at h;cases h
 .subst e;obtain⟨m,⟨e,h1,_⟩|e⟩:=hb
  .subst e;rw[yY,wM] at h;cases h
  .subst e;rw[wM,wM] at h;injection h with _ h _
   rw[h]
structure LPt (c:Int)(ls:List Tm):Prop where
 lf:∀t∈ls,lfT c (λ_=>True) t
 nd:(toLs ls).Nodup
theorem gk (lv:Int):∀(l:List Int) (out:List Tm) (w:Wp),(zw lv l out w).1.2=0->out.Pairwise (λa b=>lfZ a b=false)->(∀t∈out,t.k=1->lv<t.n)->
  (zw lv l out w).1.1.Pairwise (λa b=>lfZ a b=false)/\∀t∈(zw lv l out w).1.1,t.k=1->lv<t.n
 |[],out,w,_,h1,h2=>by rw[zw];exact⟨h1,h2⟩
 |a::l,out,w,h,h1,h2=>by
  rw[zw] at h ⊢;split at h
  next q=>exact absurd h q
  .rename_i q;rw[oV q];split at h
   .exact absurd h (by show¬(171:Int)=0;decide)
   .rename_i q2;rw[oV q2];unfold badZ at q2;simp only[tO,not_or,Bool.not_eq_true,Bool.and_eq_false_iff] at q2;refine gk lv l _ _ h (List.pairwise_append.2 ⟨h1,List.pairwise_singleton _ _,λa ha b hb=>?_⟩) λu hu hk=>?_
    .rw[rJ.1 hb];have:=List.any_eq_false.1 q2.2 a ha;exact zo this
    .rcases rQ.1 hu with hu|hu
     .exact h2 u hu hk
     .rw[rJ.1 hu] at hk ⊢;rcases q2.1.2 with w|w
      .rw[hk] at w;cases w
      .have:=ri w;omega
theorem u9 {lv:Int}{l:List Int}{w:Wp}{ws:List Tm}(h:(zw lv l [] w).1.2=0)(e:(zw lv l [] w).1.1=ws)(hl:∀t∈ws,IsLf t):LPt lv ws:=by
 obtain⟨p1,p2⟩:=gk lv l [] w h .nil λt ht=>nomatch ht;rw[e] at p1 p2;refine⟨λt ht=>⟨hl t ht,λhk=>⟨p2 t ht hk,trivial⟩⟩,?_⟩;rw[y8];refine List.pairwise_map.2<|p1.imp_of_mem λ{a b} ha hb hab e=>?_
 have:=am (hl a ha) (hl b hb) e;subst this;unfold lfZ at hab;simp at hab
theorem Zr {f:La->La}:∀ {l:List La},(l.map f).Nodup->l.Nodup:=λ{l} h=>(List.pairwise_map.1 h).imp λhab e=>hab (by rw[e])
theorem ub (l:List Tm)(p:Tm->Bool)(h:(toLs l).Nodup):(toLs<|l.filter p).Nodup:=by
 rw[y8] at h ⊢;exact List.Nodup.sublist (List.Sublist.map toL List.filter_sublist) h
theorem cv {c:Int}{q:Int->Prop}{n:Int}(h0:0<=n)(h1:n<=4611686018427387904):lfT c q (bndT n):=⟨⟨n,.inl ⟨rfl,h0,h1⟩⟩,λe=>absurd e<|by show¬(3:Int)=1;decide⟩
section
variable {v:Iv} {k:Nat} (hk:k+v.l.length<=2097152)
include hk
theorem img_lf {c:Int}{t:Tm}(ht:lfT c (λ_=>True) t)(h:(yZ v t (k:Int)).2=true):lfT c (λn=>n<=v.lv) (yZ v t (k:Int)).1:=by
 unfold yZ at h ⊢;split
 next q=>exact⟨ht.1,λe=>by have e:t.k=1:=e;have:=q.1;omega⟩
 .rename_i q;rw[oV q] at h;split
  .rename_i r q2;obtain⟨pre,u,m,e1,e2,_⟩:=fp _ q2;have hlen:v.l.length=pre.length+(m.length+1):=by rw[e1,re,r5]
   exact cv za za
  next q2=>rw[q2] at h;simp only[oZ,rT,rL] at h;exact⟨ht.1,λe=>⟨(ht.2 e).1,h.2⟩⟩
theorem lF (c:Int):∀l:List Tm,(∀t∈l,lfT c (λ_=>True) t)->∀t∈(im1 v (k:Int) l).2,lfT c (λn=>n<=v.lv) t
 |[],_=>λt ht=>nomatch ht
 |t::l,h=>by
  have ih:=lF c l λu hu=>h u<|r9 _ hu
  rw[im1];split
  .rename_i qi;intro u hu;rcases rx.1 hu with rfl|hu
   .exact img_lf hk (h t r7) qi
   .exact ih u hu
  .exact ih
omit hk in
theorem im1_lf (c:Int)(q:Int->Prop):∀l:List Tm,l.length<=1048576->(∀t∈(im1 v (k:Int) l).1,lfT c q t/\∃j:Nat,j<l.length/\t=bndT (j:Int))/\(toLs (im1 v (k:Int) l).1).Nodup
 |[],_=>⟨(λt ht=>nomatch ht),List.Pairwise.nil⟩
 |t::l,hl=>by
  simp only[r5] at hl ⊢;obtain⟨i1,i2⟩:=im1_lf c q l za;rw[im1];split
  .refine⟨λu hu=>?_,?_⟩
   .rcases rx.1 hu with rfl|hu
    .exact⟨cv za za,l.length,za,rfl⟩
    .obtain⟨a,j,b1,b2⟩:=i1 u hu;exact⟨a,j,za,b2⟩
   .rw[y8,rO,rY,<-y8];refine⟨λhm=>?_,i2⟩;rw[y8] at hm;obtain⟨u,hu,e⟩:=rK.1 hm;obtain⟨_,j,b1,b2⟩:=i1 u hu;rw[b2,j8,j8] at e;injection e with e
    omega
  .exact⟨λu hu=>by obtain⟨a,j,b1,b2⟩:=i1 u hu;exact⟨a,j,za,b2⟩,i2⟩
theorem im2_lf (lv vlv c:Int)(q:Int->Prop):∀l:List Tm,l.length<=v.l.length->
  (im2 lv vlv (k:Int) l).1=l.filter (λt=>decide (lv>vlv/\t.k=1/\t.n<=lv))/\∀t∈(im2 lv vlv (k:Int) l).2,lfT c q t
 |[],_=>⟨rfl,λt ht=>nomatch ht⟩
 |t::l,hl=>by
  simp only[r5] at hl;obtain⟨i1,i2⟩:=im2_lf lv vlv c q l za;rw[im2,List.filter_cons];split
  .rename_i w;rw[oX<|decide_eq_true w];refine⟨by rw[i1],λu hu=>?_⟩;rcases rx.1 hu with rfl|hu
   .exact cv za za
   .exact i2 u hu
  next w=>rw[oV<|zo w];exact⟨i1,i2⟩
end
theorem bA {w:Wp}{x lv:Int}{n:Nat}{on:List Tm}(ok:OkH w.s)(e:(yP w x lv n on).1.2=0):n<=1048576:=by
 unfold yP at e;split at e
 next q=>exact absurd e q
 .exact fg (w:=⟨(zD w.s lv).2,w.f⟩) (ok.put _) e
theorem jC {S:Int->Option La}{R:La->Tm->Prop}(g:Tm->La)(hR:∀a t,R a t->Eqv S a (g t)):∀(a:List La) (b:List Tm) (f h:La),Eqv S f h->All2 R a b->Eqv S (apps f a) (apps h<|b.map g)
 |[],[],_,_,h,_=>h
 |x::a,y::b,f,h,e,h2=>jC g hR a b (.app f x) (.app h<|g y) (e.app<|hR _ _ h2.1) h2.2
 |[],_::_,_,_,_,h2=>h2.elim
 |_::_,[],_,_,_,h2=>h2.elim
theorem Me.more {V W:Int->Option La}{Z:List Gh}{a:Int}{A:La}(h:Me V Z a A)(s:SubV V W):Me W Z a A:=⟨h.k,h.e.more s⟩
theorem ZW {V W:Int->Option La}{Z:List Gh}(s:SubV V W):∀ {l:List Int} {L:List La},All2 (λx X=>Me V Z x X) l L->All2 (λx X=>Me W Z x X) l L
 |[],[],_=>trivial
 |_::_,_::_,h=>⟨h.1.more s,ZW s h.2⟩
 |[],_::_,h=>h.elim
 |_::_,[],h=>h.elim
def Uw (V:Int->Option La)(Z:List Gh)(s':Hp)(x:Int)(P:(Int->Option La)->List Gh->Prop):Prop:=∃V' E,SubV V V'/\MG V' s' (Z++E)/\NmV s'.N/\(cellOf s'.C x).t=4/\(∀F,GX (Mz<|Z++E++F) (λz=>z≠x) V V')/\P V' (Z++E)
theorem Uw.seq {V:Int->Option La}{Z:List Gh}{s1 s2:Hp}{x:Int}{P Q:(Int->Option La)->List Gh->Prop}(h:Uw V Z s1 x P)(g:∀V' E,SubV V V'->MG V' s1 (Z++E)->NmV s1.N->(cellOf s1.C x).t=4->(∀F,GX (Mz<|Z++E++F) (λz=>z≠x) V V')->P V' (Z++E)->Uw V' (Z++E) s2 x Q):Uw V Z s2 x Q:=by
 obtain⟨V',E,a1,a2,a3,a4,a6,a5⟩:=h;obtain⟨V'',F,b1,b2,b3,b4,b6,b5⟩:=g V' E a1 a2 a3 a4 a6 a5
 exact⟨V'',E++F,a1.trans b1,by rw[<-rh];exact b2,b3,b4,λI=>by
  have:=a6 (F++I);rw[<-rh] at this;rw[<-rh];exact this.trans b2.cl (b6 I),by rw[<-rh];exact b5⟩
theorem Uw.of {V:Int->Option La}{Z E:List Gh}{s1:Hp}{x:Int}{P:(Int->Option La)->List Gh->Prop}(a:MG V s1<|Z++E)(b:NmV s1.N)(c:(cellOf s1.C x).t=4)(d:P V<|Z++E):Uw V Z s1 x P:=⟨V,E,.refl _,a,b,c,λ_=>.refl _,d⟩
def GU (V:Int->Option La)(W:List Gh)(x lv:Int)(t:Tm):Prop:=∀F S,ClV S->GX (Mz<|W++F) (λz=>z≠x) V S->Gd S (Mz<|W++F) (ppx (Mz<|W++F) x lv) (λn=>n<=lv) (toL t)
def GA (V:Int->Option La)(W:List Gh)(x lv:Int)(t:Tm):Prop:=∀F S,ClV S->GX (Mz<|W++F) (λz=>z≠x) V S->∃h az,toL t=apps h az/\HdL S h/\(∀z,h ≠ .var z)/\∀a∈az,Gd S (Mz<|W++F) (ppx (Mz<|W++F) x lv) (λn=>n<=lv) a
theorem GA.gu {V:Int->Option La}{W:List Gh}{x lv:Int}{t:Tm}(h:GA V W x lv t):GU V W x lv t:=λF S hS g=>by
 obtain⟨h,az,e,h1,h2,h3⟩:=h F S hS g;exact .rig h2 h1 (by rw[e];exact .refl _) h3
theorem GA.of {V V':Int->Option La}{W E:List Gh}{x lv:Int}{t:Tm}(h:GA V W x lv t)(g:∀F,GX (Mz<|W++E++F) (λz=>z≠x) V V'):GA V' (W++E) x lv t:=λF S hS gS=>by
 have:=h (E++F) S hS;rw[<-rh] at this;exact this ((g F).trans hS gS)
theorem GA.app {V:Int->Option La}{W:List Gh}{x lv:Int}{t u:Tm}(h:GA V W x lv t)(hu:GU V W x lv u):GA V W x lv (applyF t [u]):=λF S hS g=>by
 obtain⟨h,az,e,h1,h2,h3⟩:=h F S hS g;refine⟨h,az++[toL u],?_,h1,h2,λa ha=>?_⟩
 .rw[xx,<-e];exact yL t [u]
 .rcases rQ.1 ha with w|w
  .exact h3 a w
  .rw[rJ.1 w];exact hu F S hS g
theorem gd_gu {V:Int->Option La}{W:List Gh}{x lv:Int}{t:Tm}(h:∀F,Gd V (Mz<|W++F) (ppx (Mz<|W++F) x lv) (λn=>n<=lv)<|toL t):GU V W x lv t:=λF S hS g=>by
 refine(h F).more hS g.sub (λz u z1 z2 zp=>?_) (λz zp n hn=>by have:=zp.2;omega);obtain⟨n,b,e,hb⟩:=g.new z u z1 z2;exact⟨n,b,e,hb.weak (λw hw=>⟨⟨hw.1,by have:=hw.2;have:=zp.2;omega⟩,hw.2⟩) λ_ h=>h⟩
theorem vV (a b:List Tm):toLs (a++b)=toLs a++toLs b:=by rw[y8,y8,y8,t7]
theorem MG.var {V:Int->Option La}{s:Hp}{Z:List Gh}(h:MG V s Z){x:Int}(hx:Kin Z x)(h4:(cellOf s.C x).t=4):mat Z x=.var x:=((h.at hx).x4 h4).1
theorem WB {S:Int->Option La}(hcl:ClV S){x:Int}{b:La}{L:List La}{ws:List Tm}(hS:S x=some (yy ws.length b))(ha:All2 (λA t=>Eqv S A<|toL t) L ws):Eqv S (apps (.var x) L) (b.wk (gs<|toLs ws) 0):=by
 have e1:Eqv S (apps (.var x) L) (apps (.var x)<|ws.map toL):=jC toL (λ_ _ q=>q) L ws _ _ (.refl _) ha;have hl:(toLs ws).length=ws.length:=by rw[y8,sM]
 have e2:=Yi (V:=S) (toLs ws) b;rw[hl] at e2;rw[<-y8] at e1;exact e1.trans hcl<|.of<|(Sts.apps _<|Sts.del hS).trans e2
theorem jt {V W:Int->Option La}(s:SubV V W):∀ {L:List La} {ws:List Tm},All2 (λA t=>Eqv V A<|toL t) L ws->All2 (λA t=>Eqv W A<|toL t) L ws
 |[],[],_=>trivial
 |_::_,_::_,h=>⟨h.1.more s,jt s h.2⟩
 |[],_::_,h=>h.elim
 |_::_,[],h=>h.elim
section
variable {V:Int->Option La} {v:Iv} (hL:∀u∈v.l,IsLf u)
include hL
theorem flex_m (hLp:LPt v.lv v.l)(lv0:0<=v.lv){k:Nat}{w:Wp}{Z:List Gh}(h:MG V w.s Z)(hN:NmV w.s.N)(hx:Kin Z v.x)(h4:(cellOf w.s.C v.x).t=4){y:Sd}(hy:Kin Z y.h)(hyc:y.c=cellOf w.s.C y.h)(hy4:(cellOf w.s.C y.h).t=4)(hne:v.x≠y.h){L:List La}(hjs:All2 (λx X=>Me V Z x X) y.js L)(hk:k+v.l.length<=2097152)(e:(vX v y (k:Int) w).1.2=0):
  Uw V Z (vX v y (k:Int) w).2.s v.x (λV' W=>Eqv V' ((toL (vX v y (k:Int) w).1.1).wk (gs<|toLs v.l) k) (apps (.var y.h) L)/\Cv W (k+v.l.length) (toL (vX v y (k:Int) w).1.1)/\GU V' W v.x v.lv (vX v y (k:Int) w).1.1):=by
 have hlv:=xW (V:=V) y.c.a y.js L [] w Z h hN hjs;have hpt:=λe ws=>u9 (lv:=y.c.a) (l:=y.js) (w:=w) (ws:=ws) e;unfold vX at e ⊢;generalize zw y.c.a y.js [] w=z at*;unfold Zd at e ⊢;split at e
 next q=>exact absurd e q
 rename_i q;rw[oV q];obtain⟨E,ws,a1,a2,a3,a4,a5,a6⟩:=hlv (zo q);rw[rH] at a4;have pt:=hpt (zo q) ws a4 a6;rw[a4] at e ⊢;have cx:=a2.cell (h.inC hx) h4;have cy:=a2.cell (h.inC hy) hy4;have hV:=h.cl;obtain⟨ly1,ly2,ly3⟩:=a1.lv (hy.app E) (by rw[cy.2];exact hy4);rw[cy.2,<-hyc] at ly1 ly2;have My:∀F,Mz (Z++E++F) y.h=y.c.a:=λF=>by rw[xR F<|hy.app E];exact ly1
 have nd2:(toLs (im1 v (k:Int) ws).2).Nodup:=by
  have h:=ub ws (λt=>(yZ v t (k:Int)).2) pt.nd;obtain⟨⟨_,i2⟩,_⟩:=pv hL hk (Z:=Z++E) ws [] a6;unfold kpZ at i2;rw[<-i2] at h;exact Zr h
 split at e
 .rename_i q1;rw[oX q1];obtain⟨⟨i1,i2⟩,i3,i4,i5⟩:=pv hL hk (Z:=Z++E) ws [] a6
  have ek:kpZ v (k:Int) ws=ws:=by
   refine hJ.2 λt ht=>?_;rw[i5] at q1;exact List.length_filter_eq_length_iff.1 q1.1 t ht
  refine Uw.of a1 (by rw[a3];exact hN) (by rw[cx.2];exact h4) ⟨?_,?_,gd_gu λF=>?_⟩
  .dsimp only;rw[yL,wO,uT,i2,ek];have:=jC toL (λ_ _ q=>q) L ws (.var y.h) (.var y.h) (.refl _) a5;rw[<-y8] at this;exact this.symm
  .dsimp only;rw[yL,wO];refine(Cv.apps _ _).2 ⟨⟨hy.app E,?_⟩,λa ha=>?_⟩
   .rw[zJ E hy];exact h.var hy hy4
   .rw[y8] at ha;obtain⟨u,hu,rfl⟩:=rK.1 ha;exact i4 u hu
  .dsimp only;rw[yL,wO];refine .flx ly3 ⟨λw=>hne w.symm,by rw[My];exact q1.2⟩ (.refl _) ⟨ur .refl _,λl hl=>?_,nd2,by rw[My];exact ly2⟩;rw[y8] at hl;obtain⟨t,ht,rfl⟩:=rK.1 hl;rw[My];exact(lF hk y.c.a ws pt.lf t ht).q
 .rename_i q1;rw[oV q1];dsimp only at e ⊢
  have hh:=hang_m (w:=z.2) (x:=y.h) (lv:=zO [v.lv,y.c.a]) (n:=ws.length) (on:=(im1 v (k:Int) ws).1++(im2 y.c.a v.lv (k:Int) v.l).1) a1 (by rw[a3];exact hN) (hy.app E) (by rw[cy.2];exact hy4) (λhn u hu=>by
   rcases rQ.1 hu with r|r
   .exact(pv hL hk (Z:=Z++E) ws [] a6).2.1 (by rw[rH];omega) u r
   .exact(im2_m hL hk (Z:=Z++E) y.c.a v.lv (gs<|toLs ws) 0 ws.length v.l [] rfl).2.1 u r) e
  have hn:=bA (w:=z.2) (x:=y.h) (lv:=zO [v.lv,y.c.a]) (n:=ws.length) (on:=(im1 v (k:Int) ws).1++(im2 y.c.a v.lv (k:Int) v.l).1) a1.ok e;generalize yP z.2 y.h (zO [v.lv,y.c.a]) ws.length ((im1 v (k:Int) ws).1++(im2 y.c.a v.lv (k:Int) v.l).1)=g at*;obtain⟨y',F,b1,⟨b2,b3⟩,b4,b5,b6,b7,b8,b9⟩:=hh;have mn:zO [v.lv,y.c.a]<=v.lv/\zO [v.lv,y.c.a]<=y.c.a/\0<=zO [v.lv,y.c.a]:=by simp only[zO,List.foldl];omega
  have mx:zE [zO [v.lv,y.c.a],0]=zO [v.lv,y.c.a]:=by have:=mn.2.2;simp only[zE,List.foldl];omega
  obtain⟨ln1,ln2,ln3⟩:=b4.lv b2 (by rw[b9]);rw[b9] at ln1;dsimp only at ln1;rw[mx] at ln1;have Mn:∀I,Mz (Z++E++F++I) y'=zO [v.lv,y.c.a]:=λI=>by rw[xR I b2];exact ln1
  have My2:∀I,Mz (Z++E++F++I) y.h=y.c.a:=λI=>by rw[rh<|Z++E];exact My _
  have nyx:y'≠v.x:=λw=>by have:=(hx.app E).p1;omega
  obtain⟨j1,j2⟩:=im1_lf (v:=v) (k:=k) (zO [v.lv,y.c.a]) (λn=>n<=y.c.a) ws hn;have j3:=lF hk (zO [v.lv,y.c.a]) ws (λt ht=>⟨(pt.lf t ht).1,λe=>⟨by have:=((pt.lf t ht).2 e).1;omega,trivial⟩⟩);obtain⟨o1,o2⟩:=im2_lf hk y.c.a v.lv (zO [v.lv,y.c.a]) (λn=>n<=v.lv) v.l<|r6 _
  have mo_in:∀t∈(im2 y.c.a v.lv (k:Int) v.l).1,t∈v.l/\y.c.a>v.lv/\t.k=1/\t.n<=y.c.a:=λt ht=>by
   rw[o1] at ht;have:=tQ.1 ht;simp only[rL] at this;exact this
  have lfon:∀t∈(im1 v (k:Int) ws).1++(im2 y.c.a v.lv (k:Int) v.l).1,lfT (zO [v.lv,y.c.a]) (λn=>n<=y.c.a) t:=λt ht=>by
   rcases rQ.1 ht with ht|ht
   .exact(j1 t ht).1
   .obtain⟨m1,m2,m3,m4⟩:=mo_in t ht;have:=hLp.lf t m1;exact⟨this.1,λe=>⟨by have:=(this.2 e).1;omega,m4⟩⟩
  have ndon:(toLs<|(im1 v (k:Int) ws).1++(im2 y.c.a v.lv (k:Int) v.l).1).Nodup:=by
   rw[vV,sq];refine⟨j2,by rw[o1];exact ub v.l _ hLp.nd,λa ha b hb e=>?_⟩;rw[y8] at ha hb;obtain⟨t,ht,rfl⟩:=rK.1 ha;obtain⟨u,hu,rfl⟩:=rK.1 hb;obtain⟨jl,j,_,rfl⟩:=j1 t ht;obtain⟨m1,_,m3,_⟩:=mo_in u hu;have:=am jl.1 (hL u m1) e;rw[<-this] at m3;exact absurd m3 (by show¬(3:Int)=1;decide)
  have gx:∀I,GX (Mz<|Z++E++F++I) (λz=>z≠v.x) V (wa V y.h<|yy ws.length<|apps (.var y')<|toLs<|(im1 v (k:Int) ws).1++(im2 y.c.a v.lv (k:Int) v.l).1):=λI=>by
   refine⟨b5,λz u h1 h2=>?_⟩;unfold wa at h2;split at h2
   .rename_i qz;injection h2 with h2
    subst h2;subst qz;refine⟨ws.length,_,rfl,.flx (x:=y') ln3 ⟨nyx,by rw[Mn,My2];exact mn.2.1⟩ (.refl _) ⟨ur .refl _,λl hl=>?_,ndon,by rw[Mn];exact mn.2.2⟩⟩;rw[y8] at hl;obtain⟨t,ht,rfl⟩:=rK.1 hl;rw[Mn,My2];exact(lfon t ht).q
   .rw[h1] at h2;cases h2
  refine⟨_,E++F,b5,by rw[<-rh];exact b4,b6,by rw[b7 v.x (hx.app E) hne,cx.2];exact h4,λI=>by rw[<-rh];exact gx I,?_⟩;rw[<-rh];obtain⟨⟨i1,i2⟩,i3,i4,i5⟩:=pv hL hk (Z:=Z++E++F) ws [] a6;obtain⟨⟨p1,p2⟩,p3,p4⟩:=im2_m hL hk (Z:=Z++E++F) y.c.a v.lv (gs<|toLs ws) 0 ws.length v.l [] rfl;rw[b1];refine⟨?_,?_,gd_gu λI=>?_⟩
  .have e1:=WB (S:=wa V y.h<|yy ws.length<|apps (.var y')<|toLs<|(im1 v (k:Int) ws).1++(im2 y.c.a v.lv (k:Int) v.l).1) b4.cl (x:=y.h) (b:=apps (.var y')<|toLs<|(im1 v (k:Int) ws).1++(im2 y.c.a v.lv (k:Int) v.l).1) (by unfold wa;rw[oX rfl])<|jt b5 a5
   rw[uT,vV,t7,p1] at e1;rw[rH] at i1;rw[i1] at e1;rw[yL,wO,uT,vV (im1 v (k:Int) ws).2 (im2 y.c.a v.lv (k:Int) v.l).2,t7,i2,p2];rw[vV];exact e1.symm
  .rw[yL,wO];refine(Cv.apps _ _).2 ⟨⟨b2,b3⟩,λa ha=>?_⟩;rw[y8] at ha;obtain⟨u,hu,rfl⟩:=rK.1 ha;rcases rQ.1 hu with r|r
   .exact i4 u r
   .exact p4 u r
  .rw[yL,wO]
   have nd:(toLs<|(im1 v (k:Int) ws).2++(im2 y.c.a v.lv (k:Int) v.l).2).Nodup:=by
    refine Zr (f:=λa=>a.wk (gs<|toLs v.l) k) ?_;rw[vV,t7,i2,p2,sq];refine⟨ub ws _ pt.nd,by rw[o1];exact ub v.l _ hLp.nd,λa ha b hb e=>?_⟩;rw[y8] at ha hb;obtain⟨t,ht,rfl⟩:=rK.1 ha;obtain⟨u,hu,rfl⟩:=rK.1 hb;have ht:=(tQ.1 ht).1;obtain⟨m1,_,m3,m4⟩:=mo_in u hu;have:=am (a6 t ht) (hL u m1) e;subst this;have:=((pt.lf t ht).2 m3).1;omega
   refine .flx ln3 ⟨nyx,by rw[Mn];exact mn.1⟩ (.refl _) ⟨ur .refl _,λl hl=>?_,nd,by rw[Mn];exact mn.2.2⟩;rw[y8] at hl;obtain⟨t,ht,rfl⟩:=rK.1 hl;rw[Mn];rcases rQ.1 ht with ht|ht
   .exact(j3 t ht).q
   .exact(o2 t ht).q
theorem rigid_m {k:Nat}{s:Hp}{Z:List Gh}(h:MG V s Z){x:Sd}(hc:x.c=cellOf s.C x.h)(hx:Kin Z x.h)(n6:x.c.t≠6)(n7:x.c.t≠7)(n8:x.c.t≠8)(n5:x.c.t≠5)(n9:x.c.t<9)(n4:x.c.t≠4)(hk:k+v.l.length<=2097152)(e:(xJ v s.N x (k:Int)).2=true):
  Eqv V ((toL (xJ v s.N x (k:Int)).1).wk (gs<|toLs v.l) k) (mat Z x.h)/\Cv Z (k+v.l.length) (toL (xJ v s.N x (k:Int)).1):=by
 have ck:=h.at hx;rw[<-hc] at ck;have tg:=ck.tg;have hC:=h.ok.C;have hl:=h.len;have p1:=hx.p1;unfold xJ at e ⊢
 have con:∀ {k' n:Int} {nm:List UInt8},k'≠3->k'≠4->k'≠5->k'≠6->toL (.mk k' nm n [])=.con k' n nm:=λh3 h4 h5 h6=>by
  rw[toL,mkL,oV h5,oV h6,oV h3,oV h4]
 split
 next q=>rw[con zc zc zc zc];exact⟨(ck.x0 q).2.2.symm,trivial⟩
 .rename_i q0;rw[oV q0] at e;split
  next q=>rw[con zc zc zc zc];exact⟨(ck.x2 q).symm,trivial⟩
  .rename_i q2;rw[oV q2] at e;split
   next q=>rw[oX q] at e;obtain⟨m1,m2⟩:=img_m hL hk (Z:=Z) (t:=.mk 1 [] x.c.a []) ⟨_,.inr rfl⟩ e;rw[m1,wM];exact⟨(ck.x1 q).2.symm,m2⟩
   next q1=>rw[oV q1] at e;obtain⟨⟨c1,c2⟩,c3⟩:=ck.x3 za;obtain⟨m1,m2⟩:=img_m hL hk (Z:=Z) (t:=bndT x.c.a) ⟨_,.inl ⟨rfl,c1,za⟩⟩ e;rw[m1,bndT,yY];exact⟨c3.symm,m2⟩
end
theorem ae {v:Iv}{k:Nat}{s:Hp}{Z:List Gh}{V S:Int->Option La}(h:MG V s Z){x:Sd}(hc:x.c=cellOf s.C x.h)(hx:Kin Z x.h)(n6:x.c.t≠6)(n7:x.c.t≠7)(n8:x.c.t≠8)(n5:x.c.t≠5)(n9:x.c.t<9)(n4:x.c.t≠4)(hk:k+v.l.length<=2097152)(e:(xJ v s.N x (k:Int)).2=true):
  HdL S (toL (xJ v s.N x (k:Int)).1)/\∀z,toL (xJ v s.N x (k:Int)).1 ≠ .var z:=by
 have ck:=h.at hx;rw[<-hc] at ck;have tg:=ck.tg;have hC:=h.ok.C;have hl:=h.len;have p1:=hx.p1
 have con:∀ {k' n:Int} {nm:List UInt8},k'≠3->k'≠4->k'≠5->k'≠6->toL (.mk k' nm n [])=.con k' n nm:=λh3 h4 h5 h6=>by
  rw[toL,mkL,oV h5,oV h6,oV h3,oV h4]
 have lf:∀ {t:Tm},IsLf t->(yZ v t (k:Int)).2=true->HdL S (toL (yZ v t (k:Int)).1)/\∀z,toL (yZ v t (k:Int)).1 ≠ .var z:=λ{t} ht hi=>
  (img_lf hk (c:=t.n-1) ⟨ht,λ_=>⟨za,trivial⟩⟩ hi).q.hd
 unfold xJ at e ⊢;split
 .rw[con zc zc zc zc];exact⟨trivial,λz w=>by cases w⟩
 .rename_i q0;rw[oV q0] at e;split
  .rw[con zc zc zc zc];exact⟨trivial,λz w=>by cases w⟩
  .rename_i q2;rw[oV q2] at e;split
   next q=>rw[oX q] at e;exact lf ⟨_,.inr rfl⟩ e
   next q1=>rw[oV q1] at e;obtain⟨⟨c1,c2⟩,c3⟩:=ck.x3 za;exact lf ⟨_,.inl ⟨rfl,c1,za⟩⟩ e
def FwM (x lv:Int)(g:Nat->Nat->La)(k d:Nat)(F:Int->Wp->(Tm×Int)×Wp):Prop:=∀(b:Int) (w:Wp) (V:Int->Option La) (Z:List Gh) (B:La),MG V w.s Z->NmV w.s.N->Kin Z x->(cellOf w.s.C x).t=4->Me V Z b B->(F b w).1.2=0->
 Uw V Z (F b w).2.s x λV' W=>Eqv V' ((toL (F b w).1.1).wk g k) B/\Cv W d (toL (F b w).1.1)/\GU V' W x lv (F b w).1.1
theorem args_m {x lv:Int}{g:Nat->Nat->La}{k d:Nat}{F:Int->Wp->(Tm×Int)×Wp}(hF:FwM x lv g k d F):∀(js:List Int) (L:List La) (t:Tm) (T:La) (w:Wp) (V:Int->Option La) (Z:List Gh),MG V w.s Z->NmV w.s.N->Kin Z x->(cellOf w.s.C x).t=4->All2 (λx X=>Me V Z x X) js L->Eqv V ((toL t).wk g k) T->Cv Z d (toL t)->GA V Z x lv t->(wx F js t w).1.2=0->
  Uw V Z (wx F js t w).2.s x λV' W=>Eqv V' ((toL (wx F js t w).1.1).wk g k) (apps T L)/\Cv W d (toL (wx F js t w).1.1)/\GU V' W x lv (wx F js t w).1.1
 |[],[],t,T,w,V,Z,h,hN,hx,h4,_,ht,hc,ga,_=>Uw.of (E:=[]) (by rw[rp];exact h) hN h4 (by rw[rp];exact⟨ht,hc,ga.gu⟩)
 |[],_::_,_,_,_,_,_,_,_,_,_,q,_,_,_,_=>q.elim
 |_::_,[],_,_,_,_,_,_,_,_,_,q,_,_,_,_=>q.elim
 |b::l,B::L,t,T,w,V,Z,h,hN,hx,h4,q,ht,hc,ga,e=>by
  rw[wx] at e ⊢;split at e
  next q=>exact absurd e q
  rename_i q1;rw[oV q1];refine(hF b w V Z B h hN hx h4 q.1<|zo q1).seq λV' E s1 g1 n1 c1 gx p1=>?_;have et:toL (applyF t [(F b w).1.1])=.app (toL t) (toL (F b w).1.1):=yL t [_];exact args_m hF l L (applyF t [(F b w).1.1]) (.app T B) (F b w).2 V' (Z++E) g1 n1 (hx.app E) c1 (ZW s1<|yn E q.2) (by rw[et];exact(ht.more s1).app p1.1) (by rw[et];exact⟨hc.app E,p1.2.1⟩) ((ga.of gx).app p1.2.2) e
theorem cC {v:Iv}(hL:∀u∈v.l,IsLf u)(hLp:LPt v.lv v.l)(lv0:0<=v.lv):∀(n:Nat) (k:Nat),n+k+v.l.length<=2097152->FwM v.x v.lv (gs<|toLs v.l) k (k+v.l.length) (λa w=>yz v n a (k:Int) w)
 |0,k,_=>λa w V Z A h hN hx h4 hk e=>absurd e (by show¬(80:Int)=0;decide)
 |n+1,k,hn=>λa w V Z A h hN hx h4 hk e=>by
  have lk:=YW h hk;have hV:=h.cl;dsimp only at e ⊢;rw[yz] at e ⊢;generalize lookW w a=z at*;unfold nV at e ⊢;split at e
  next q=>exact absurd e q
  rename_i q;rw[oV q];obtain⟨E,a1,a2,a3,sp,ec⟩:=lk (zo q);obtain⟨A',L',w1,w2,w3⟩:=sp.w;have cx:=a2.cell (h.inC hx) h4;have hN1:NmV z.2.s.N:=by rw[a3];exact hN
  have h41:(cellOf z.2.s.C v.x).t=4:=by rw[cx.2];exact h4
  have sl:=sp.l;have n5:=sp.n5;have n7:=sp.n7;have n8:=sp.n8;have n9:=sp.n9;rw[<-ec] at sl n5 n7 n8 n9
  have fin:∀ {t:Tm} {s2:Hp} {B:La},Eqv V A B->Uw V (Z++E) s2 v.x (λV' W=>Eqv V' ((toL t).wk (gs<|toLs v.l) k) B/\Cv W (k+v.l.length) (toL t)/\GU V' W v.x v.lv t)->Uw V Z s2 v.x (λV' W=>Eqv V' ((toL t).wk (gs<|toLs v.l) k) A/\Cv W (k+v.l.length) (toL t)/\GU V' W v.x v.lv t):=λhb u=>by
   obtain⟨V',F,b1,b2,b3,b4,b7,b5,b6⟩:=u;exact⟨V',E++F,b1,by rw[<-rh];exact b2,b3,b4,λI=>by rw[<-rh];exact b7 I,by rw[<-rh];exact⟨b5.trans b2.cl (hb.more b1).symm,b6⟩⟩
  have ck:=a1.at w1.k;rw[<-ec] at ck;split at e
  .rename_i q6;rw[oX q6];obtain⟨k1,k2⟩:=ck.x6 q6;have hl:=sl q6
   have el:L'=[]:=by
    rw[hl] at w2;cases L' with
    |nil=>rfl
    |cons _ _=>exact w2.elim
   subst el;have ih:=cC hL hLp lv0 n (k+1) za z.1.1.c.a z.2 V (Z++E) _ a1 hN1 (hx.app E) h41<|.self k1
   dsimp only at ih e ⊢;rw[show(k:Int)+1=((k+1:Nat):Int) by omega] at e ⊢;obtain⟨V',F,b1,b2,b3,b4,b7,b5,b6,b8⟩:=ih e;refine fin (B:=.lam<|mat (Z++E) z.1.1.c.a) ((w3.trans hV w1.e.symm).trans hV k2) ⟨V',F,b1,b2,b3,b4,b7,?_,?_,λI S hS gS=>?_⟩
   .rw[vI];exact b5.lam
   .rw[vI];show Cv _ (k+v.l.length+1) _;rw[(za:k+v.l.length+1=k+1+v.l.length)];exact b6
   .rw[vI];exact .lam (.refl _)<|b8 I S hS gS
  .rename_i q6;rw[oV q6];split at e
   .rename_i q4;rw[oX q4];split at e
    .exact absurd e (by show¬(170:Int)=0;decide)
    .rename_i qx;rw[oV qx];have hy4:(cellOf z.2.s.C z.1.1.h).t=4:=by rw[<-ec];exact q4
     have hv:=a1.var w1.k hy4;refine fin ?_<|flex_m hL hLp lv0 a1 hN1 (hx.app E) h41 w1.k ec hy4 (λw=>qx w.symm) w2 za e
     refine w3.trans hV<|wq hV L' ?_
     rw[<-hv];exact w1.e.symm
   .rename_i q4;rw[oV q4];split at e
    .exact absurd e (by show¬(170:Int)=0;decide)
    .rename_i qr;rw[oV qr];have qr:(xJ v z.2.s.N z.1.1 (k:Int)).2=true:=zo qr
     have r:=rigid_m hL a1 ec w1.k q6 n7 n8 n5 n9 q4 (k:=k) za qr;exact fin w3<|args_m (cC hL hLp lv0 n k za) z.1.1.js L' _ A' z.2 V (Z++E) a1 hN1 (hx.app E) h41 w2 (r.1.trans hV w1.e) r.2 (λI S hS gS=>⟨_,[],rfl,(ae (S:=S) a1 ec w1.k q6 n7 n8 n5 n9 q4 (k:=k) za qr).1,(ae (S:=S) a1 ec w1.k q6 n7 n8 n5 n9 q4 (k:=k) za qr).2,λa ha=>nomatch ha⟩) e
def Uu (V:Int->Option La)(Z:List Gh)(s':Hp)(P:(Int->Option La)->List Gh->Prop):Prop:=∃V' E,SubV V V'/\MG V' s' (Z++E)/\NmV s'.N/\(∀F,GX (Mz<|Z++E++F) pT V V')/\P V' (Z++E)
theorem GX.gdT {V W:Int->Option La}{M:Int->Int}(hW:ClV W)(h:GX M pT V W){t:La}(hg:Gd V M pT pT t):Gd W M pT pT t:=h.gd hW (λ_ _ _ _=>trivial) hg
theorem md {V:Int->Option La}{M:Int->Int}{x:Int}{L:List La}{ws:List Tm}(hx:V x=none)(c0:0<=M x)(ha:All2 (λA t=>Eqv V A<|toL t) L ws)(pt:LPt (M x) ws):Gd V M pT pT (apps (.var x) L):=by
 have key:∀ {L:List La} {ws:List Tm},All2 (λA t=>Eqv V A<|toL t) L ws->All2 (Eqv V) L (toLs ws):=by
  intro L
  induction L with
  |nil=>intro ws h;cases ws with
   |nil=>trivial
   |cons=>exact h.elim
  |cons a L ih=>intro ws h;cases ws with
   |nil=>exact h.elim
   |cons t ws=>exact⟨h.1,ih h.2⟩
 refine .flx hx trivial (.refl _) ⟨key ha,λl hl=>?_,pt.nd,c0⟩;rw[y8] at hl;obtain⟨t,ht,rfl⟩:=rK.1 hl;exact(pt.lf t ht).q
theorem JN {V:Int->Option La}{L:List La}{ws:List Tm}(f:La)(ha:All2 (λA t=>Eqv V A<|toL t) L ws):Eqv V (apps f L) (apps f<|toLs ws):=by
 have:=jC toL (λ_ _ q=>q) L ws f f (.refl _) ha;rw[<-y8] at this;exact this
section
variable {V:Int->Option La}
theorem iP {K:Nat}{w:Wp}(ok:OkW K w)(hf:w.f<=100000){Z:List Gh}(h:MG V w.s Z)(hN:NmV w.s.N){x:Sd}{a:Int}{A:La}{L:List La}(hx:Kin Z x.h)(h4:(cellOf w.s.C x.h).t=4)(hxc:(cellOf w.s.C x.h).a=x.c.a)(hjs:All2 (λx X=>Me V Z x X) x.js L)(hl:x.js.length<=100000)(ha:Me V Z a A)(e:(wL w x a).1=0):
  Uu V Z (wL w x a).2.s (λV' W=> ∀F S,ClV S->GX (Mz<|W++F) pT V' S->Eqv S (apps (.var x.h) L) A/\Gd S (Mz<|W++F) pT pT (apps (.var x.h) L)):=by
 have hlv:=xW (V:=V) x.c.a x.js L [] w Z h hN hjs;have hf2:=(yU x.c.a x.js [] ok λt q=>by cases q).1.f1;have hpt:=λe ws=>u9 (lv:=x.c.a) (l:=x.js) (w:=w) (ws:=ws) e;unfold wL at e ⊢;generalize zw x.c.a x.js [] w=z at*;unfold Xm at e ⊢;split at e
 next q=>exact absurd e q
 rename_i q;rw[oV q];obtain⟨E,ws,a1,a2,a3,a4,a5,a6⟩:=hlv (zo q);rw[rH] at a4;have pt:=hpt (zo q) ws a4 a6;rw[a4] at e ⊢;have cx:=a2.cell (h.inC hx) h4;have hV:=h.cl;obtain⟨lx1,lx2,lx3⟩:=h.lv hx h4;rw[hxc] at lx1 lx2;have hlen:ws.length=x.js.length:=by rw[<-kL a5,kL hjs]
 have tm:=cC (v:=⟨x.h,x.c.a,ws⟩) a6 pt lx2 (z.2.f.toNat+1) 0 zm a z.2 V (Z++E) A a1 (by rw[a3];exact hN) (hx.app E) (by dsimp only;rw[cx.2];exact h4)<|ha.app E
 dsimp only at tm;rw[show((0:Nat):Int)=0 from rfl] at tm;generalize yz ⟨x.h,x.c.a,ws⟩ (z.2.f.toNat+1) a 0 z.2=y at*;split at e
 next q1=>exact absurd e q1
 rename_i q1;rw[oV q1];obtain⟨V',F,b1,b2,b3,b4,b7,b5,b6,b8⟩:=tm (zo q1);obtain⟨G,c1,c2,c3,_⟩:=set_m b2 b3 ((hx.app E).app F) b4 (t:=lamsF ws.length y.1.1) (by rw[vI];exact Cv.lams ws.length b6) e;rw[vI] at c1 c2;have Mx:∀I,Mz (Z++E++F++G++I) x.h=x.c.a:=λI=>by rw[xR I<|((hx.app E).app F).app G,xR G<|(hx.app E).app F,xR F<|hx.app E,xR E hx];exact lx1
 have vx:V' x.h=none:=((b2.at<|(hx.app E).app F).x4 b4).2.1
 have gx:∀I,GX (Mz<|Z++E++F++G++I) pT V (wa V' x.h<|yy ws.length<|toL y.1.1):=λI=>by
  have g7:=b7<|G++I
  have g8:=b8 (G++I) V' b2.cl<|.refl _
  rw[<-rh] at g7 g8
  have mo:∀ {p q:Int->Prop} {t':La},(∀y,p y->y≠x.h)->(∀y,p y->∀n,n<=Mz (Z++E++F++G++I) y->q n)->Gd V' (Mz<|Z++E++F++G++I) p q t'->Gd (wa V' x.h<|yy ws.length<|toL y.1.1) (Mz<|Z++E++F++G++I) p q t':=λhp hq h=>h.more c1.cl c2 (λy v h1 h2 h3=>by
   unfold wa at h2;rw[oV<|hp y h3,h1] at h2;cases h2) hq
  refine⟨b1.trans c2,λz u h1 h2=>?_⟩;unfold wa at h2;split at h2
  .rename_i qz;injection h2 with h2
   subst h2;rw[qz];refine⟨ws.length,toL y.1.1,rfl,?_⟩;rw[Mx];exact(mo (λz h=>h.1) (λz h n hn=>by have:=h.2;omega) g8).weak (λz h=>⟨trivial,h.2⟩) λ_ h=>h
  .obtain⟨n,b',e,hb'⟩:=g7.new z u h1 h2;exact⟨n,b',e,(mo (λz h=>h.1) (λz h n hn=>by have:=h.2;omega) hb').weak (λz h=>⟨trivial,h.2⟩) λ_ h=>h⟩
 refine⟨_,E++F++G,b1.trans c2,by rw[<-rh,<-rh];exact c1,c3,λI=>by rw[<-rh,<-rh];exact gx I,λI S hS gS=>?_⟩;rw[<-rh,<-rh] at gS ⊢;have gS2:=(gx I).trans hS gS;have e1:=WB (S:=wa V' x.h<|yy ws.length<|toL y.1.1) c1.cl (x:=x.h) (b:=toL y.1.1) (by unfold wa;rw[oX rfl])<|jt (b1.trans c2) a5
 refine⟨(e1.trans c1.cl<|b5.more c2).more gS.sub,gS2.gdT hS<|md lx3 (by rw[Mx];exact lx2) a5<|by rw[Mx];exact pt⟩
theorem pq {Z:List Gh}:∀(a b pa pb:List Tm),a.length=b.length->(∀t∈a,IsLf t)->(∀t∈b,IsLf t)->
  (toLs<|onZ a b).map (λt=>t.wk (gs<|toLs<|pa++a) 0)=(toLs<|onZ a b).map (λt=>t.wk (gs<|toLs<|pb++b) 0)/\((pa++a).length<=2097152->∀u∈onZ a b,Cv Z (pa++a).length<|toL u)/\(onZ a b).length<=a.length/\((onZ a b).length=a.length->a=b)
 |[],[],_,_,_,_,_=>⟨rfl,(λ_ _ q=>by cases q),r6 _,λ_=>rfl⟩
 |[],_::_,_,_,h,_,_=>by cases h
 |_::_,[],_,_,h,_,_=>by cases h
 |t::a,u::b,pa,pb,h,ha,hb=>by
  have hlen:a.length=b.length:=zo h
  obtain⟨i1,i2,i3,i4⟩:=pq (Z:=Z) a b (pa++[t]) (pb++[u]) hlen (λv hv=>ha v<|r9 _ hv) λv hv=>hb v<|r9 _ hv
  rw[show pa++[t]++a=pa++t::a by simp,show pb++[u]++b=pb++u::b by simp] at i1;rw[show pa++[t]++a=pa++t::a by simp] at i2;rw[onZ];split
  .rename_i q
   have et:t=u:=by
    unfold lfZ at q;rw[oZ,rT,rT] at q;obtain⟨n,⟨rfl,_⟩|rfl⟩:=ha t<|r7 ..
    .obtain⟨m,⟨rfl,_⟩|rfl⟩:=hb u<|r7 ..
     .have:=q.2;dsimp only[Tm.n] at this;rw[this]
     .exact absurd q.1 (by show¬(3:Int)=1;decide)
    .obtain⟨m,⟨rfl,_⟩|rfl⟩:=hb u<|r7 ..
     .exact absurd q.1 (by show¬(1:Int)=3;decide)
     .have:=q.2;dsimp only[Tm.n] at this;rw[this]
   have g1:=gs_b pa t a 0;have g2:=gs_b pb u b 0;rw[La.sh_zero,rB] at g1 g2;rw[t9];refine⟨?_,λhp v hv=>?_,by rw[r5,r5];omega,λhq=>by rw[et,i4<|zo hq]⟩
   .rw[toLs,rO,rO,i1,j8,La.wk,La.wk,g1,hlen,g2,et]
   .rcases rx.1 hv with r|r
    .rw[r,j8];simp only[re,r5] at hp ⊢;exact⟨za,za⟩
    .exact i2 hp v r
  .rw[rH];exact⟨i1,i2,by rw[r5];omega,λhq=>by rw[r5] at hq;omega⟩
theorem onZ_lf (c:Int)(q:Int->Prop):∀a b:List Tm,a.length<=1048576->(∀t∈onZ a b,lfT c q t/\∃j:Nat,j<a.length/\t=bndT (j:Int))/\(toLs<|onZ a b).Nodup
 |[],b,_=>by rw[show onZ [] b=[] by cases b<;>rfl];exact⟨(λt ht=>nomatch ht),List.Pairwise.nil⟩
 |t::a,[],_=>by rw[show onZ (t::a) []=[] from rfl];exact⟨(λt ht=>nomatch ht),List.Pairwise.nil⟩
 |t::a,u::b,hl=>by
  simp only[r5] at hl ⊢;obtain⟨i1,i2⟩:=onZ_lf c q a b za;rw[onZ];split
  .rw[t9];refine⟨λw hw=>?_,?_⟩
   .rcases rx.1 hw with rfl|hw
    .exact⟨cv za za,a.length,za,rfl⟩
    .obtain⟨a,j,b1,b2⟩:=i1 w hw;exact⟨a,j,za,b2⟩
   .rw[y8,rO,rY,<-y8];refine⟨λhm=>?_,i2⟩;rw[y8] at hm;obtain⟨w,hw,e⟩:=rK.1 hm;obtain⟨_,j,b1,b2⟩:=i1 w hw;rw[b2,j8,j8] at e;injection e with e
    omega
  .rw[rH];exact⟨λw hw=>by obtain⟨a,j,b1,b2⟩:=i1 w hw;exact⟨a,j,za,b2⟩,i2⟩
theorem pruneW_m {w:Wp}{Z:List Gh}(h:MG V w.s Z)(hN:NmV w.s.N){x y:Sd}{L M:List La}(hx:Kin Z x.h)(h4:(cellOf w.s.C x.h).t=4)(hxc:(cellOf w.s.C x.h).a=x.c.a)(hyc:y.c.a=x.c.a)(hjs:All2 (λx X=>Me V Z x X) x.js L)(hys:All2 (λx X=>Me V Z x X) y.js M)(e:(xD w x y).1=0):
  Uu V Z (xD w x y).2.s (λV' W=> ∀F S,ClV S->GX (Mz<|W++F) pT V' S->Eqv S (apps (.var x.h) L) (apps (.var x.h) M)/\Gd S (Mz<|W++F) pT pT (apps (.var x.h) L)/\Gd S (Mz<|W++F) pT pT (apps (.var x.h) M)):=by
 have hl1:=xW (V:=V) x.c.a x.js L [] w Z h hN hjs;have hp1:=λe ws=>u9 (lv:=x.c.a) (l:=x.js) (w:=w) (ws:=ws) e;unfold xD at e ⊢;generalize zw x.c.a x.js [] w=z at*;split at e
 next q=>exact absurd e q
 rename_i q;rw[oV q];obtain⟨E,ws,a1,a2,a3,a4,a5,a6⟩:=hl1 (zo q);rw[rH] at a4;have pt:=hp1 (zo q) ws a4 a6;rw[a4] at e ⊢;have hl2:=xW (V:=V) y.c.a y.js M [] z.2 (Z++E) a1 (by rw[a3];exact hN)<|yn E hys
 have hp2:=λe ws=>u9 (lv:=y.c.a) (l:=y.js) (w:=z.2) (ws:=ws) e;generalize zw y.c.a y.js [] z.2=z' at*;split at e
 next q1=>exact absurd e q1
 rename_i q1;rw[oV q1];obtain⟨F,us,b1,b2,b3,b4,b5,b6⟩:=hl2 (zo q1);rw[rH] at b4;have pu:=hp2 (zo q1) us b4 b6;rw[hyc] at pu;rw[b4] at e ⊢;have hV:=h.cl;have cx:=(a2.trans b2).cell (h.inC hx) h4;have hN2:NmV z'.2.s.N:=by rw[b3,a3];exact hN
 obtain⟨lx1,lx2,lx3⟩:=h.lv hx h4;rw[hxc] at lx1 lx2
 have gds:∀(I:List Gh),Gd V (Mz<|Z++I) pT pT (apps (.var x.h) L)/\Gd V (Mz<|Z++I) pT pT (apps (.var x.h) M):=λI=>
  ⟨md lx3 (by rw[xR I hx,lx1];exact lx2) a5<|by rw[xR I hx,lx1];exact pt,md lx3 (by rw[xR I hx,lx1];exact lx2) b5<|by rw[xR I hx,lx1];exact pu⟩
 split at e
 .exact absurd e (by show¬(171:Int)=0;decide)
 rename_i ql;rw[oV ql];have ql:ws.length=us.length:=zo ql
 split at e
 .rename_i qn;rw[oX qn];have:=(pq (Z:=Z) ws us [] [] ql a6 b6).2.2.2 qn;refine⟨V,E++F,.refl _,by rw[<-rh];exact b1,hN2,λ_=>.refl _,λI S hS gS=>?_⟩;have e1:=JN (.var x.h) a5;have e2:=JN (.var x.h) b5;rw[this] at e1;have g:=gds<|E++F++I
  rw[<-rh] at g;exact⟨(e1.trans hV e2.symm).more gS.sub,gS.gdT hS g.1,gS.gdT hS g.2⟩
 .rename_i qn;rw[oV qn];have hh:=hang_m (w:=z'.2) (x:=x.h) (lv:=x.c.a) (n:=ws.length) (on:=onZ ws us) b1 hN2 ((hx.app E).app F) (by rw[cx.2];exact h4) (λhn u hu=>(pq (Z:=Z++E++F) ws us [] [] ql a6 b6).2.1 (by rw[rH];omega) u hu) e;have hn:=bA (w:=z'.2) (x:=x.h) (lv:=x.c.a) (n:=ws.length) (on:=onZ ws us) b1.ok e;generalize yP z'.2 x.h x.c.a ws.length (onZ ws us)=g at*;obtain⟨y',G,c1,⟨c2,c3⟩,c4,c5,c6,c7,c8,c9⟩:=hh;have mx:zE [x.c.a,0]=x.c.a:=by simp only[zE,List.foldl];omega
  obtain⟨ln1,ln2,ln3⟩:=c4.lv c2 (by rw[c9]);rw[c9] at ln1;dsimp only at ln1;rw[mx] at ln1;obtain⟨o1,o2⟩:=onZ_lf x.c.a (λn=>n<=x.c.a) ws us hn
  have gx:∀I,GX (Mz<|Z++E++F++G++I) pT V (wa V x.h<|yy ws.length<|apps (.var y')<|toLs<|onZ ws us):=λI=>by
   have Mn:Mz (Z++E++F++G++I) y'=x.c.a:=by rw[xR I c2];exact ln1
   have Mx:Mz (Z++E++F++G++I) x.h=x.c.a:=by rw[xR I<|((hx.app E).app F).app G,xR G<|(hx.app E).app F,xR F<|hx.app E,xR E hx];exact lx1
   refine⟨c5,λz u h1 h2=>?_⟩;unfold wa at h2;split at h2
   .rename_i qz;injection h2 with h2
    subst h2;rw[qz];refine⟨ws.length,_,rfl,.flx (x:=y') ln3 ⟨trivial,by rw[Mn,Mx];exact ru _⟩ (.refl _) ⟨ur .refl _,λl hl=>?_,o2,by rw[Mn];exact lx2⟩⟩;rw[y8] at hl;obtain⟨t,ht,rfl⟩:=rK.1 hl;rw[Mn,Mx];exact(o1 t ht).1.q
   .rw[h1] at h2;cases h2
  refine⟨_,E++F++G,c5,by rw[<-rh,<-rh];exact c4,c6,λI=>by rw[<-rh,<-rh];exact gx I,λI S hS gS=>?_⟩;have e1:=WB (S:=wa V x.h<|yy ws.length<|apps (.var y')<|toLs<|onZ ws us) c4.cl (x:=x.h) (b:=apps (.var y')<|toLs<|onZ ws us) (by unfold wa;rw[oX rfl])<|jt c5 a5
  have e2:=WB (S:=wa V x.h<|yy ws.length<|apps (.var y')<|toLs<|onZ ws us) c4.cl (x:=x.h) (b:=apps (.var y')<|toLs<|onZ ws us) (by unfold wa;rw[oX rfl,ql])<|jt c5 b5
  have o:=(pq (Z:=Z) ws us [] [] ql a6 b6).1;rw[rH,rH] at o;rw[uT,o] at e1;rw[uT] at e2;rw[<-rh,<-rh] at gS ⊢;have gS2:=(gx I).trans hS gS;have g:=gds<|E++F++G++I
  rw[<-rh,<-rh,<-rh] at g;exact⟨(e1.trans c4.cl e2.symm).more gS.sub,gS2.gdT hS g.1,gS2.gdT hS g.2⟩
theorem WN {w:Wp}{Z:List Gh}(h:MG V w.s Z)(hN:NmV w.s.N){x:Sd}{a:Int}{A:La}(ha:Me V Z a A)(h6:x.c.t=6->Kin Z x.c.a/\Eqv V A (.lam<|mat Z x.c.a))(e:(yd w x a).1.2=0):
  ∃E B,MG V (yd w x a).2.s (Z++E)/\NmV (yd w x a).2.s.N/\Me V (Z++E) (yd w x a).1.1 B/\Eqv V A (.lam B)/\Keep (λt=>t≠8) w.s (yd w x a).2.s:=by
 unfold yd at e ⊢;split at e
 next q=>rw[oX q];obtain⟨k1,k2⟩:=h6 q;exact⟨[],mat Z x.c.a,by rw[rp];exact h,hN,by rw[rp];exact .self k1,k2,.refl _⟩
 .rename_i q;rw[oV q];split at e
  next q1=>exact absurd e q1
  rename_i q1;rw[oV q1]
  have hl:=lift_m (r:=⟨w.s,0,0⟩) h a 1 (A:=A) (D:=1) λ_=>⟨ha,rfl,by
   have:=ha.k.p0;have:=ha.k.p1;have:=h.len;dsimp only;omega⟩
  have el:∃E,MG V (yw w.s a 1).2 (Z++E)/\NS w.s (yw w.s a 1).2/\(yw w.s a 1).2.N=w.s.N/\Me V (Z++E) (yw w.s a 1).1.1 (A.sh 1 0):=by
   obtain⟨E,a1,a2,a4,a3⟩:=hl;unfold yw at q1 ⊢;split at q1
   .exact absurd (show(1:Int)≠0 by decide) q1
   .rename_i q2;rw[oV q2];by_cases q3:(xC ⟨w.s,0,0⟩ a 1).2.e≠0
    .exfalso;rw[oX q3] at q1;exact q1 q3
    .rw[oV q3];exact⟨E,a1,a2,a4,(a3<|zo q3).2⟩
  obtain⟨E,a1,a2,a3,a4⟩:=el;generalize yw w.s a 1=z at*;have no:∀ {m:Int} {P:Prop},m≠3->(3:Int)=m->P:=λh e=>absurd e.symm h;have en:EnM V z.2 (Z++E) (putS z.2 ⟨3,0,0,0,0⟩) (.bv 0):=.put a1 _ ⟨.bv 0,[]⟩ λ_=>⟨⟨by show(0:Int)<=3;decide,by show(3:Int)<=11;decide⟩,no zc,no zc,no zc,λ_=>⟨⟨ru _,zm⟩,.refl _⟩,no zc,no zc,no zc,no zc,no zc,no zc,no zc,no zc⟩;generalize putS z.2 ⟨3,0,0,0,0⟩=y at*;split at e
  next q2=>exact absurd e q2
  rename_i q2;rw[oV q2];obtain⟨F,b1,⟨b2,b3⟩,b4,b5⟩:=en (zo q2);obtain⟨G,c1,⟨c2,c3⟩,c4,c5⟩:=two_en b1 (f:=z.1.1) (x:=y.1.1) (a4.k.app F) b2 e;refine⟨E++F++G,_,by rw[<-rh,<-rh];exact c1,c5<|b5<|by rw[a3];exact hN,⟨by rw[<-rh,<-rh];exact c2,.refl _⟩,?_,?_⟩
  .rw[<-rh,<-rh,c3,b3];refine(Eqv.of<|Sts.eta A).symm.trans h.cl<|Eqv.lam<|.app ?_<|.refl _
   rw[<-La.sh_one];exact(a4.app F).e.symm
  .exact a2.trans ⟨rS b4.1 c4.1,λi c q _=>c4.2 i c (b4.2 i c q trivial) trivial⟩
end
theorem aB {V S:Int->Option La}(hs:SubV V S)(hcl:ClV S){W:List Gh}:∀ {js ks:List Int} {L M:List La} {f g:La},js.length=ks.length->All2 (λx X=>Me V W x X) js L->All2 (λx X=>Me V W x X) ks M->Eqv S f g->(∀q∈js.zip ks,Eqv S (mat W q.1)<|mat W q.2)->Eqv S (apps f L) (apps g M)
 |[],[],[],[],_,_,_,_,_,h,_=>h
 |[],[],_::_,_,_,_,_,h,_,_,_=>h.elim
 |[],[],_,_::_,_,_,_,_,h,_,_=>h.elim
 |[],_::_,_,_,_,_,h,_,_,_,_=>by cases h
 |_::_,[],_,_,_,_,h,_,_,_,_=>by cases h
 |_::_,_::_,[],_,_,_,_,h,_,_,_=>h.elim
 |_::_,_::_,_::_,[],_,_,_,_,h,_,_=>h.elim
 |a::js,b::ks,A::L,B::M,f,g,hl,h1,h2,hf,hz=>by
  rw[w9,w9];have z:=hz (a,b) (by rw[List.zip_cons_cons];exact r7 ..);refine aB hs hcl (zo hl) h1.2 h2.2 (hf.app ?_) λq hq=>hz q (by rw[List.zip_cons_cons];exact r9 _ hq);exact((h1.1.e.more hs).symm.trans hcl z).trans hcl<|h2.1.e.more hs
theorem bY:∀ {js ks:List Int},js.length=ks.length->∀x∈js,∃y,(x,y)∈js.zip ks
 |[],_,_,x,h=>by cases h
 |_::_,[],h,_,_=>by cases h
 |a::js,b::ks,hl,x,h=>by
  rw[List.zip_cons_cons];rcases rx.1 h with w|w
  .exact⟨b,by rw[w];exact r7 ..⟩
  .obtain⟨y,hy⟩:=bY (zo hl) x w;exact⟨y,r9 _ hy⟩
theorem aA:∀ {js ks:List Int},js.length=ks.length->∀y∈ks,∃x,(x,y)∈js.zip ks
 |_,[],_,x,h=>by cases h
 |[],_::_,h,_,_=>by cases h
 |a::js,b::ks,hl,x,h=>by
  rw[List.zip_cons_cons];rcases rx.1 h with w|w
  .exact⟨a,by rw[w];exact r7 ..⟩
  .obtain⟨y,hy⟩:=aA (zo hl) x w;exact⟨y,r9 _ hy⟩
def PGz (S:Int->Option La)(M:Int->Int)(a b:La):Prop:=Eqv S a b/\Gd S M pT pT a/\Gd S M pT pT b
theorem mf {V S:Int->Option La}(hs:SubV V S)(hcl:ClV S){M:Int->Int}{W:List Gh}:∀ {js:List Int} {L:List La},All2 (λx X=>Me V W x X) js L->(∀x∈js,Gd S M pT pT<|mat W x)->∀X∈L,Gd S M pT pT X
 |[],[],_,_,_,h=>by cases h
 |[],_::_,h,_,_,_=>h.elim
 |_::_,[],h,_,_,_=>h.elim
 |x::js,X::L,h,g,Y,hY=>by
  rcases rx.1 hY with w|w
  .rw[w];exact(g x r7).eqv hcl<|h.1.e.more hs
  .exact mf hs hcl h.2 (λy hy=>g y<|r9 _ hy) Y w
theorem fI {V:Int->Option La}{W:List Gh}:∀ {js ks:List Int} {L M:List La},All2 (λx X=>Me V W x X) js L->All2 (λx X=>Me V W x X) ks M->∀q∈js.zip ks,Kin W q.1/\Kin W q.2
 |[],_,_,_,_,_,q,h=>by rw[List.zip_nil_left] at h;cases h
 |_::_,[],_,_,_,_,q,h=>by rw[List.zip_nil_right] at h;cases h
 |_::_,_::_,[],_,h,_,_,_=>h.elim
 |_::_,_::_,_::_,[],_,h,_,_=>h.elim
 |a::js,b::ks,A::L,B::M,h1,h2,q,h=>by
  rw[List.zip_cons_cons] at h;rcases rx.1 h with r|r
  .rw[r];exact⟨h1.1.k,h2.1.k⟩
  .exact fI h1.2 h2.2 q r
structure SdM (V:Int->Option La)(s:Hp)(W:List Gh)(x:Sd)(A:La):Prop where
 w:∃L,All2 (λx X=>Me V W x X) x.js L/\Eqv V A (apps (mat W x.h) L)
 k:Kin W x.h
 c6:x.c.t=6->Kin W x.c.a/\Eqv V A (.lam<|mat W x.c.a)
 c4:x.c.t=4->cellOf s.C x.h=x.c
 c0:x.c.t=0->Eqv V (mat W x.h) (.con 0 0<|nameOf s.N x.c.a)
 c1:x.c.t=1->Eqv V (mat W x.h) (.con 1 x.c.a [])
 c2:x.c.t=2->Eqv V (mat W x.h) (.con 2 x.c.a [])
 c3:x.c.t=3->Eqv V (mat W x.h) (.bv x.c.a.toNat)
 tg:0<=x.c.t/\x.c.t<9/\x.c.t≠5/\x.c.t≠7/\x.c.t≠8
theorem SpM.sd {V:Int->Option La}{s:Hp}{W:List Gh}{x:Sd}{A:La}(h:MG V s W)(sp:SpM V s W (x.h,x.js) A)(ec:x.c=cellOf s.C x.h):SdM V s W x A:=by
 obtain⟨A',L,w1,w2,w3⟩:=sp.w;have hV:=h.cl;have ck:=h.at w1.k;have sl:=sp.l;have n5:=sp.n5;have n7:=sp.n7;have n8:=sp.n8;have n9:=sp.n9;dsimp only at*;rw[<-ec] at ck sl n5 n7 n8 n9;have hA:Eqv V A (apps (mat W x.h) L):=w3.trans hV<|wq hV L w1.e.symm
 refine⟨⟨L,w2,hA⟩,w1.k,λq=>?_,λq=>ec.symm,λq=>(ck.x0 q).2.2,λq=>(ck.x1 q).2,λq=>ck.x2 q,λq=>(ck.x3 q).2,ck.tg.1,n9,n5,n7,n8⟩;obtain⟨k1,k2⟩:=ck.x6 q;refine⟨k1,?_⟩;rw[sl q] at w2;cases L with
 |nil=>exact hA.trans hV k2
 |cons _ _=>exact w2.elim
theorem SdM.up {V:Int->Option La}{s s':Hp}{W:List Gh}{x:Sd}{A:La}(h:MG V s W)(a:SdM V s W x A)(F:List Gh)(hn:NF s s')(hN:s'.N=s.N):SdM V s' (W++F) x A:=by
 obtain⟨L,w1,w2⟩:=a.w;refine⟨⟨L,yn F w1,by rw[zJ F a.k];exact w2⟩,a.k.app F,λq=>?_,λq=>?_,?_,?_,?_,?_,a.tg⟩
 .obtain⟨k1,k2⟩:=a.c6 q;exact⟨k1.app F,by rw[zJ F k1];exact k2⟩
 .have:=hn.cell (h.inC a.k) (by rw[a.c4 q];exact q);rw[this.2];exact a.c4 q
 .rw[zJ F a.k,hN];exact a.c0
 .rw[zJ F a.k];exact a.c1
 .rw[zJ F a.k];exact a.c2
 .rw[zJ F a.k];exact a.c3
section
variable {V:Int->Option La}
theorem underW_m {w:Wp}{Z:List Gh}(h:MG V w.s Z)(hN:NmV w.s.N){x y:Sd}{p:Int×Int}{A B:La}(ha:Me V Z p.1 A)(hb:Me V Z p.2 B)(hx:SdM V w.s Z x A)(hy:SdM V w.s Z y B)(e:(xV w x y p).1.1=0):
  Uu V Z (xV w x y p).2.s (λV' W=>(∀q∈(xV w x y p).1.2,Kin W q.1/\Kin W q.2)/\∀F S,ClV S->GX (Mz<|W++F) pT V' S->(∀q∈(xV w x y p).1.2,PGz S (Mz<|W++F) (mat W q.1)<|mat W q.2)->PGz S (Mz<|W++F) A B):=by
 have h1:=WN h hN ha hx.c6;unfold xV at e ⊢;generalize yd w x p.1=z at*;split at e
 next q=>exact absurd e q
 rename_i q;rw[oV q];obtain⟨E,C,a1,a2,a3,a4,_⟩:=h1 (zo q);have h2:=WN a1 a2 (x:=y) (hb.app E) (λq=>by obtain⟨k1,k2⟩:=hy.c6 q;exact⟨k1.app E,by rw[zJ E k1];exact k2⟩);generalize yd z.2 y p.2=z' at*;split at e
 next q1=>exact absurd e q1
 rename_i q1;rw[oV q1];obtain⟨F,D,b1,b2,b3,b4,_⟩:=h2 (zo q1);refine⟨V,E++F,.refl _,by rw[<-rh];exact b1,b2,λ_=>.refl _,?_⟩;rw[<-rh];refine⟨λq hq=>?_,λI S hcl gS hq=>?_⟩
 .rw[rJ.1 hq];exact⟨a3.k.app F,b3.k⟩
 .obtain⟨r,r2,r3⟩:=hq _<|rJ.2 rfl
  dsimp only at r r2 r3;have hS:=gS.sub;have a5:=(a3.app F).e.more hS;have b5:=b3.e.more hS;exact⟨((a4.more hS).trans hcl<|Eqv.lam<|(a5.symm.trans hcl r).trans hcl b5).trans hcl (b4.more hS).symm,.lam (a4.more hS)<|r2.eqv hcl a5,.lam (b4.more hS)<|r3.eqv hcl b5⟩
theorem oneW_m {K:Nat}{w:Wp}(ok:OkW K w)(hf:w.f<=100000){Z:List Gh}(h:MG V w.s Z)(hN:NmV w.s.N){p:Int×Int}{A B:La}(ha:Me V Z p.1 A)(hb:Me V Z p.2 B)(e:(oneW w p).1.1=0):
  Uu V Z (oneW w p).2.s (λV' W=>(∀q∈(oneW w p).1.2,Kin W q.1/\Kin W q.2)/\∀F S,ClV S->GX (Mz<|W++F) pT V' S->(∀q∈(oneW w p).1.2,PGz S (Mz<|W++F) (mat W q.1)<|mat W q.2)->PGz S (Mz<|W++F) A B):=by
 have l1:=YW h ha;obtain⟨r1,_,r2⟩:=xf ok p.1;unfold oneW at e ⊢;generalize lookW w p.1=z at*;split at e
 next q=>exact absurd e q
 rename_i q;rw[oV q];have q:z.1.2=0:=zo q
 obtain⟨E,a1,a2,a3,a4,a5⟩:=l1 q;have ok1:=r1.ok ok q;have f1:=r1.f1;have j1:=r2 q;have g1:=ok1.f0;have l2:=YW a1<|hb.app E
 obtain⟨t1,_,t2⟩:=xf ok1 p.2;generalize lookW z.2 p.2=z' at*;split at e
 next q1=>exact absurd e q1
 rename_i q1;rw[oV q1];have q1:z'.1.2=0:=zo q1
 obtain⟨F,b1,b2,b3,b4,b5⟩:=l2 q1;have ok2:=t1.ok ok1 q1;have f2:=t1.f1;have j2:=t2 q1;have g2:=ok2.f0;have sx:SdM V z'.2.s (Z++E++F) z.1.1 A:=(a4.sd a1 a5).up a1 F b2 b3;have sy:SdM V z'.2.s (Z++E++F) z'.1.1 B:=b4.sd b1 b5;have hN2:NmV z'.2.s.N:=by rw[b3,a3];exact hN
 have ha2:=(ha.app E).app F;have hb2:=(hb.app E).app F;have step:∀ {s2:Hp} {Q:(Int->Option La)->List Gh->Prop},Uu V (Z++E++F) s2 Q->Uu V Z s2 Q:=λ⟨V',G,c1,c2,c3,c5,c4⟩=>⟨V',E++F++G,c1,by rw[<-rh,<-rh];exact c2,c3,λI=>by rw[<-rh,<-rh];exact c5 I,by rw[<-rh,<-rh];exact c4⟩;have hV:=h.cl;generalize z.1.1=x at*;generalize z'.1.1=y at*;generalize z'.2=v at*;obtain⟨L,x1,x2⟩:=sx.w;obtain⟨M,y1,y2⟩:=sy.w;refine step ?_;unfold oneG at e ⊢;split at e
 next q6=>rw[oX q6];exact underW_m b1 hN2 ha2 hb2 sx sy e
 rename_i q6;rw[oV q6];have nil:∀ {s2:Hp},Uu V (Z++E++F) s2 (λV' W=> ∀I S,ClV S->GX (Mz<|W++I) pT V' S->PGz S (Mz<|W++I) A B)->Uu V (Z++E++F) s2 (λV' W=>(∀q∈([]:List<|Int×Int),Kin W q.1/\Kin W q.2)/\∀I S,ClV S->GX (Mz<|W++I) pT V' S->(∀q∈([]:List<|Int×Int),PGz S (Mz<|W++I) (mat W q.1)<|mat W q.2)->PGz S (Mz<|W++I) A B):=λ⟨V',G,c1,c2,c3,c5,c4⟩=>⟨V',G,c1,c2,c3,c5,(λ_ q=>by cases q),λI S hS gS _=>c4 I S hS gS⟩;split at e
 .rename_i q4;rw[oX q4];obtain⟨c1,c2,c3⟩:=q4;have x4:=sx.c4 c1;have y4:=sy.c4 c2;have vx:=b1.var sx.k (by rw[x4];exact c1);obtain⟨V',G,d1,d2,d3,d5,d4⟩:=pruneW_m b1 hN2 sx.k (by rw[x4];exact c1) (by rw[x4]) (by rw[<-x4,<-y4,c3]) x1 y1 e;rw[vx] at x2;rw[<-c3,vx] at y2
  exact nil ⟨V',G,d1,d2,d3,d5,λI S hS gS=>by
   obtain⟨t1,t2,t3⟩:=d4 I S hS gS;have x3:=(x2.more d1).more gS.sub;have y3:=(y2.more d1).more gS.sub;exact⟨(x3.trans hS t1).trans hS y3.symm,t2.eqv hS x3.symm,t3.eqv hS y3.symm⟩⟩
 rename_i q4;rw[oV q4];split at e
 .rename_i qx;rw[oX qx];have x4:=sx.c4 qx;have vx:=b1.var sx.k (by rw[x4];exact qx);obtain⟨V',G,d1,d2,d3,d5,d4⟩:=iP ok2 za b1 hN2 sx.k (by rw[x4];exact qx) (by rw[x4]) x1 za hb2 e;rw[vx] at x2
  exact nil ⟨V',G,d1,d2,d3,d5,λI S hS gS=>by
   obtain⟨t1,t2⟩:=d4 I S hS gS;have x3:=(x2.more d1).more gS.sub;exact⟨x3.trans hS t1,t2.eqv hS x3.symm,t2.eqv hS t1⟩⟩
 rename_i qx;rw[oV qx];split at e
 .rename_i qy;rw[oX qy];have y4:=sy.c4 qy;have vy:=b1.var sy.k (by rw[y4];exact qy);obtain⟨V',G,d1,d2,d3,d5,d4⟩:=iP ok2 za b1 hN2 sy.k (by rw[y4];exact qy) (by rw[y4]) y1 za ha2 e;rw[vy] at y2
  exact nil ⟨V',G,d1,d2,d3,d5,λI S hS gS=>by
   obtain⟨t1,t2⟩:=d4 I S hS gS;have y3:=(y2.more d1).more gS.sub;exact⟨(y3.trans hS t1).symm,t2.eqv hS t1,t2.eqv hS y3.symm⟩⟩
 rename_i qy;rw[oV qy];split at e
 .exact absurd e (by show¬(170:Int)=0;decide)
 rename_i qc;rw[oV qc];unfold YU at qc;simp only[tO,bne_iff_ne,not_or,ne_eq,Decidable.not_not] at qc;obtain⟨⟨ct,ca⟩,cl⟩:=qc;refine⟨V,[],.refl _,by rw[rp];exact b1,hN2,λ_=>.refl _,?_⟩;rw[rp];refine⟨fI x1 y1,λI S hcl gS hq=>?_⟩;have hS:=gS.sub
 obtain⟨hd,g1,g2,g3,g4⟩:∃hd,Eqv V (mat (Z++E++F) x.h) hd/\Eqv V (mat (Z++E++F) y.h) hd/\HdL S hd/\∀z,hd ≠ .var z:=by
  have tg:=sx.tg;have no6:x.c.t≠6:=λw=>q6<|.inl w
  rcases(za:x.c.t=0\/x.c.t=1\/x.c.t=2\/x.c.t=3) with t|t|t|t
  .have:=sy.c0<|ct▸t
   rw[<-ca] at this;exact⟨_,sx.c0 t,this,trivial,λz w=>by cases w⟩
  .have:=sy.c1<|ct▸t
   rw[<-ca] at this;exact⟨_,sx.c1 t,this,trivial,λz w=>by cases w⟩
  .have:=sy.c2<|ct▸t
   rw[<-ca] at this;exact⟨_,sx.c2 t,this,trivial,λz w=>by cases w⟩
  .have:=sy.c3<|ct▸t
   rw[<-ca] at this;exact⟨_,sx.c3 t,this,trivial,λz w=>by cases w⟩
 have ex:=(x2.trans hV<|wq hV L g1).more hS;have ey:=(y2.trans hV<|wq hV M g2).more hS;refine⟨((x2.more hS).trans hcl<|aB hS hcl cl x1 y1 ((g1.trans hV g2.symm).more hS) λq h=>(hq q h).1).trans hcl (y2.more hS).symm,.rig g4 g3 ex<|mf hS hcl x1 λa ha=>?_,.rig g4 g3 ey<|mf hS hcl y1 λa ha=>?_⟩
 .obtain⟨b,hb⟩:=bY cl a ha;exact(hq _ hb).2.1
 .obtain⟨b,hb⟩:=aA cl a ha;exact(hq _ hb).2.2
theorem runZ_m {K:Nat}:∀(n:Nat) (w:Wp) (V:Int->Option La) (Z:List Gh) (st:List<|Int×Int),OkW K w->w.f<=100000->MG V w.s Z->NmV w.s.N->(∀q∈st,Kin Z q.1/\Kin Z q.2)->(runZ n w st).1=0->
  Uu V Z (runZ n w st).2.s λV' W=> ∀q∈st,∀F,PGz V' (Mz<|W++F) (mat W q.1)<|mat W q.2
 |n,w,V,Z,[],_,_,h,hN,_,_=>⟨V,[],.refl _,by rw[rp];cases n<;>exact h,by cases n<;>exact hN,λ_=>.refl _,λ_ q=>by cases q⟩
 |0,w,V,Z,_::_,_,_,_,_,_,e=>absurd e (by show¬(80:Int)=0;decide)
 |n+1,w,V,Z,p::st,ok,hf,h,hN,hk,e=>by
  rw[runZ] at e ⊢;split at e
  .exact absurd e (by show¬(80:Int)=0;decide)
  rename_i q0;rw[oV q0];split at e
  next q=>exact absurd e q
  rename_i q;rw[oV q];have q:(oneW ⟨w.s,w.f-1⟩ p).1.1=0:=zo q
  have g0:=ok.f0;have g1:=ok.f1;have ok1:OkW K ⟨w.s,w.f-1⟩:=ok.less za;have kp:=hk p<|r7 ..
  have om:=oneW_m (V:=V) ok1 zm h hN (.self kp.1) (.self kp.2) q;obtain⟨r1,_⟩:=ZB ok1 p zm;have ok2:=r1.ok ok1 q;have f2:=r1.f1;generalize oneW ⟨w.s,w.f-1⟩ p=z at*;obtain⟨V',E,a1,a2,a3,a6,a4,a5⟩:=om
  obtain⟨V'',F,b1,b2,b3,b6,b4⟩:=runZ_m n z.2 V' (Z++E) (z.1.2++st) ok2 (by dsimp only at f2;omega) a2 a3 (λq hq=>by
   rcases rQ.1 hq with r|r
   .exact a4 q r
   .have:=hk q (r9 _ r);exact⟨this.1.app E,this.2.app E⟩) e
  refine⟨V'',E++F,a1.trans b1,by rw[<-rh];exact b2,b3,λI=>?_,λq hq I=>?_⟩
  .have:=a6<|F++I
   rw[<-rh] at this;rw[<-rh];exact this.trans b2.cl<|b6 I
  rw[<-rh];rcases rx.1 hq with r|r
  .rw[r,zJ F<|kp.1.app E,zJ F<|kp.2.app E,zJ E kp.1,zJ E kp.2];have g:=b6 I;rw[rh] at g ⊢;refine a5 (F++I) V'' b2.cl g λq hq=>?_;have:=b4 q (sE _ hq) I;rw[zJ F (a4 q hq).1,zJ F (a4 q hq).2,rh] at this;exact this
  .exact b4 q (tH _ r) I
end
structure Pw (w v:Wp)(k:Int):Prop where
 f:v.f<=w.f
 c:(v.s.C.length:Int)+100*v.f<=w.s.C.length+100*w.f+k
 t:(v.s.T.length:Int)+100*v.f<=w.s.T.length+100*w.f+k
 n:∀q,nfC q v.s.C<=nfC q w.s.C
theorem Pw.refl (w:Wp){k:Int}(hk:0<=k):Pw w w k:=⟨ru _,za,za,λ_=>r6 _⟩
theorem Pw.trans {a b c:Wp}{k j m:Int}(h:Pw a b k)(g:Pw b c j)(e:k+j<=m):Pw a c m:=⟨sn g.f h.f,by have:=h.c;have:=g.c;omega,by have:=h.t;have:=g.t;omega,λq=>rS (g.n q)<|h.n q⟩
theorem iw {w:Wp}{a:Int}(e:(lookW w a).1.2=0):Pw w (lookW w a).2 (-96*((lookW w a).1.1.js.length+1))/\(lookW w a).1.1.c=cellOf (lookW w a).2.s.C (lookW w a).1.1.h:=by
 have hf:=uE (2*w.f.toNat+2) ⟨w.s,w.f,0⟩ a<|r6 _
 have hw:=λq=>head_w (q:=q) (2*w.f.toNat+2) ⟨w.s,w.f,0⟩ a<|r6 _
 unfold lookW xw at e ⊢;generalize zK (2*w.f.toNat+2) ⟨w.s,w.f,0⟩ a=z at*;by_cases q:z.2.e=0
 .have q2:¬z.2.e≠0:=λw=>w q;rw[oV q2] at e ⊢;have q3:¬(0:Int)≠0:=λw=>w rfl;dsimp only at e ⊢;rw[oV q3];have f1:=(hf.2 q).1;have g:=hw λ_=>true;have gc:=g.c;have gt:=g.t;dsimp only at f1 gc gt ⊢;exact⟨⟨zm,zm,zm,λp=>(hw p).n⟩,rfl⟩
 .have q2:z.2.e≠0:=q;rw[oX q2] at e;dsimp only at e;rw[oX q2] at e;exact absurd e q
theorem fullW_w {w:Wp}{a:Int}(e:(yg w a).1.2=0):Pw w (yg w a).2 (-96):=by
 have hw:=λq=>WP (q:=q) (2*w.f.toNat+2) (w.f.toNat+1) ⟨w.s,w.f,0⟩ a<|r6 _
 unfold yg zQ at e ⊢;generalize fulR (2*w.f.toNat+2) (w.f.toNat+1) ⟨w.s,w.f,0⟩ a=z at*;by_cases q:z.2.e=0
 .have q2:¬z.2.e≠0:=λw=>w q;rw[oV q2] at e ⊢;obtain⟨g,g2⟩:=hw λ_=>true;have g2:=g2 q za;have gc:=g.c;have gt:=g.t;dsimp only at g2 gc gt ⊢;rw[oX rfl];exact⟨zm,zm,zm,λp=>(hw p).1.n⟩
 .have q2:z.2.e≠0:=q;rw[oX q2] at e;exact absurd e q
theorem jP (lv:Int):∀(l:List Int) (out:List Tm) (w:Wp),(zw lv l out w).1.2=0->Pw w (zw lv l out w).2 (-96*l.length)/\(zw lv l out w).1.1.length=out.length+l.length
 |[],out,w,_=>⟨.refl w zb,by simp[zw]⟩
 |a::l,out,w,e=>by
  rw[zw] at e ⊢;split at e
  next q=>exact absurd e q
  .rename_i q;rw[oV q];split at e
   .exact absurd e (by show¬(171:Int)=0;decide)
   next q2=>rw[oV q2];have f:=fullW_w (w:=w) (a:=a) (zo q);obtain⟨i1,i2⟩:=jP lv l _ _ e;rw[i2];refine⟨f.trans i1<|by rw[r5];omega,by simp only[re,r5,rt];omega⟩
theorem nf_names (q:Int->Bool)(s:Hp)(nm:List UInt8):(symS s nm).2.C=s.C/\(symS s nm).2.T=s.T:=by
 unfold symS;split<;>exact⟨rfl,rfl⟩
def Ez (s s':Hp)(k:Nat):Prop:=s'.C.length<=s.C.length+k/\s'.T=s.T/\∀q,nfC q s'.C<=nfC q s.C
theorem Ez.put (s:Hp)(c:Cel)(h4:c.t≠4):Ez s (putS s c).2 1:=by
 refine⟨?_,(Wc s c).2.2.2.2,λq=>nf_put q s c h4⟩;rcases qU s c with e|e<;>rw[e]<;>(try simp only[re,rD])<;>omega
theorem Ez.trans {a b c:Hp}{k j:Nat}(h:Ez a b k)(g:Ez b c j):Ez a c (k+j):=⟨by have:=h.1;have:=g.1;omega,g.2.1.trans h.2.1,λq=>rS (g.2.2 q)<|h.2.2 q⟩
theorem Ez.le {a b:Hp}{k j:Nat}(h:Ez a b k)(e:k<=j):Ez a b j:=⟨rS h.1 za,h.2⟩
theorem encR_z (V:Option<|List Int):∀(l:List Tm),(∀u∈l,∀s,Ez s (encE V u s).2<|2*u.sz-1)->∀(f:Int) (s:Hp),Ez s (encR V l f s).2 (2*Tm.szs l)
 |[],_,f,s=>by rw[encR];exact⟨Nat.le_add_right _ _,rfl,λ_=>r6 _⟩
 |u::l,h,f,s=>by
  have h1:=h u r7 s;have h0:=u.sz_eq;rw[encR];simp only[Tm.szs];split
  .exact h1.le za
  .split
   .exact(h1.trans<|.put _ _ zb).le za
   .exact((h1.trans<|.put _ _ zb).trans<|encR_z V l (λv hv=>h v<|r9 _ hv) _ _).le za
theorem encE_z (V:Option<|List Int):∀(t:Tm) (s:Hp),Ez s (encE V t s).2 (2*t.sz-1):=by
 refine Tm.ind λt ih=>?_;obtain⟨k,nm,n,l⟩:=t;intro s;have h0:(Tm.mk k nm n l).sz=1+Tm.szs l:=by simp only[Tm.sz]
 rw[h0,encE]
 have sy:Ez s (symS s nm).2 0:=by
  obtain⟨a,b⟩:=nf_names (λ_=>true) s nm;exact⟨by rw[a];omega,b,λq=>by rw[a];exact r6 _⟩
 split
 .exact(sy.trans<|.put _ _ zb).le za
 .split
  .exact(Ez.put s _ zb).le za
  .split
   .exact(Ez.put s _ zb).le za
   .split
    .exact(Ez.put s _ zb).le za
    .split
     .exact⟨Nat.le_add_right _ _,rfl,λ_=>r6 _⟩
     .match l with
      |[]=>rw[encL];exact⟨Nat.le_add_right _ _,rfl,λ_=>r6 _⟩
      |u::l=>
       have h1:=ih u r7 s;have hu:=u.sz_eq;simp only[Tm.szs];rw[encL];split
       .exact h1.le za
       .split
        .exact(h1.trans<|.put _ _ zb).le za
        .exact(h1.trans<|encR_z V l (λv hv=>ih v<|r9 _ hv) _ _).le za
theorem mW (V:Option<|List Int)(s:Hp)(t:Tm)(e:(encS V s t).1.2=0):Ez s (encS V s t).2 (2*t.sz):=by
 unfold encS at e ⊢;split
 .exact⟨Nat.le_add_right _ _,rfl,λ_=>r6 _⟩
 .rename_i q;rw[oV q] at e;split
  next q2=>rw[oX q2] at e;exact absurd e q2
  .exact(encE_z V t s).le za
theorem nf_drop (q:Int->Bool)(s:Hp)(x b:Int)(e:(setS s x ⟨5,b,0,0,0⟩).1=0)(h4:(cellOf s.C x).t=4)(hq:q (cellOf s.C x).a=true):nfC q (setS s x ⟨5,b,0,0,0⟩).2.C+1<=nfC q s.C:=by
 have hin:inC s.C x=true:=by
  unfold setS at e;split at e
  .cases e
  next w=>exact zo w
 rcases w7 s x ⟨5,b,0,0,0⟩ with g|⟨_,g⟩
 .exfalso;unfold setS at e g;split at e
  .cases e
  .split at e
   .cases e
   .split at e
    .cases e
    .split at e
     .cases e
     next q1 q2 q3 q4=>rw[oV q1,oV q2,oV q3,oV q4] at g;have:=t8 (λs=>s.T.length) g;simp at this
 .rw[g];have hi:=yc.1 hin;have hl:x.toNat<s.C.length:=za
  have hc:s.C[x.toNat]=cellOf s.C x:=by
   have:=xQ hin;rw[rf hl] at this;injection this
  have hp:0<s.C.countP (λc=>c.t==4&&q c.a):=List.countP_pos_iff.2 ⟨s.C[x.toNat],td hl,by rw[hc,h4,hq];rfl⟩;have e5:∀y,((⟨5,b,0,0,0⟩:Cel).t==4&&q y)=false:=λy=>rfl;unfold nfC;dsimp only;rw[List.countP_set hl,e5,hc,h4,hq];simp only[rF,rN,BEq.rfl,tq,rG];omega
theorem set_w {w:Wp}{x:Int}{t:Tm}(e:(setW w x t).1=0):(setW w x t).2.f=w.f/\(setW w x t).2.s.C.length<=w.s.C.length+2*t.sz/\(setW w x t).2.s.T.length<=w.s.T.length+1/\∀q,nfC q (setW w x t).2.s.C<=nfC q w.s.C/\(inC w.s.C x=true->(cellOf w.s.C x).t=4->q (cellOf w.s.C x).a=true->Keep (λ_=>True) w.s (encS none w.s t).2->nfC q (setW w x t).2.s.C+1<=nfC q w.s.C):=by
 unfold setW at e ⊢;split at e
 next q=>exact absurd e q
 .rename_i q;rw[oV q];obtain⟨z1,z2,z3⟩:=mW none w.s t (zo q);dsimp only at e ⊢
  have st:(setS (encS none w.s t).2 x ⟨5,(encS none w.s t).1.1,0,0,0⟩).2.C.length=(encS none w.s t).2.C.length/\(setS (encS none w.s t).2 x ⟨5,(encS none w.s t).1.1,0,0,0⟩).2.T.length<=(encS none w.s t).2.T.length+1:=by
   rcases w7 (encS none w.s t).2 x ⟨5,(encS none w.s t).1.1,0,0,0⟩ with g|⟨_,g⟩<;>rw[g]<;>simp
  rw[z2] at st;refine⟨rfl,za,st.2,λp=>⟨rS (nf_set p _ _ _)<|z3 p,λhi h4 hq hk=>?_⟩⟩;have c:=hk.cell hi trivial;have:=nf_drop p _ x _ e (by rw[c.2];exact h4) (by rw[c.2];exact hq);have:=z3 p;omega
theorem hang_w {V:Int->Option La}{w:Wp}{Z:List Gh}(h:MG V w.s Z){x lv:Int}{n:Nat}{on:List Tm}(hx:Kin Z x)(h4:(cellOf w.s.C x).t=4)(ho:ones on)(hc:n<=1048576->∀u∈on,Cv Z n<|toL u)(e:(yP w x lv n on).1.2=0):
  (yP w x lv n on).2.f=w.f/\(yP w x lv n on).2.s.C.length<=w.s.C.length+1+2*(n+on.length+2)/\(yP w x lv n on).2.s.T.length<=w.s.T.length+1/\
  ∀q:Int->Bool,((q (zE [lv,0])=true->q (cellOf w.s.C x).a=true)->nfC q (yP w x lv n on).2.s.C<=nfC q w.s.C)/\(q (zE [lv,0])=false->q (cellOf w.s.C x).a=true->nfC q (yP w x lv n on).2.s.C+1<=nfC q w.s.C):=by
 have no:∀ {m:Int} {P:Prop},m≠4->(4:Int)=m->P:=λh e=>absurd e.symm h
 have dm:V (w.s.C.length:Int)=none:=by
  cases q:V (w.s.C.length:Int) with
  |none=>rfl
  |some v=>have:=h.dom _ (by rw[q];exact λw=>by cases w);omega
 have en:EnM V w.s Z (zD w.s lv) (.var (w.s.C.length:Int)):=.put h _ ⟨.var (w.s.C.length:Int),[.dum (zE [lv,0]).toNat]⟩ λ_=>⟨⟨by show(0:Int)<=4;decide,by show(4:Int)<=11;decide⟩,no zc,no zc,no zc,no zc,λ_=>⟨rfl,dm,rfl,max0 lv⟩,no zc,no zc,no zc,no zc,no zc,no zc,no zc⟩;unfold yP at e ⊢;split at e
 next q=>exact absurd e q
 .rename_i q;rw[oV q];have q:(zD w.s lv).1.2=0:=zo q
  have ec:(zD w.s lv).2.C=w.s.C++[⟨4,zE [lv,0],0,0,0⟩]/\(zD w.s lv).2.T=w.s.T/\(zD w.s lv).1.1=(w.s.C.length:Int):=by
   unfold zD putS at q ⊢;split at q
   .cases q
   .split at q
    .cases q
    next q1 q2=>rw[oV q1,oV q2];exact⟨rfl,rfl,rfl⟩
  obtain⟨E,a1,⟨a2,a3⟩,a4,a5⟩:=en q;have hk:=a4.cell (h.inC hx) trivial;dsimp only at e ⊢;have hn:=hc<|fg (w:=⟨(zD w.s lv).2,w.f⟩) a1.ok e
  rw[ec.2.2] at a2 a3;obtain⟨s1,s2,s3,s4⟩:=set_w e
  have sz:(lamsF n<|applyF (.mk 4 [] (zD w.s lv).1.1 []) on).sz<=n+on.length+2:=by
   have:=xX (.mk 4 [] (zD w.s lv).1.1 []) on;rw[vC ho] at this;have e1:(Tm.mk 4 [] (zD w.s lv).1.1 []).sz=1:=rfl
   have e2:∀(n:Nat) (t:Tm),(lamsF n t).sz=n+t.sz:=by
    intro n
    induction n with
    |zero=>intro t;rw[lamsF];omega
    |succ n ih=>intro t;rw[lamsF,ih];simp only[Tm.sz,Tm.szs];omega
   rw[e2];omega
  have lC:(zD w.s lv).2.C.length=w.s.C.length+1:=by rw[ec.1];simp
  dsimp only at s2 s3;rw[ec.2.1] at s3;refine⟨s1,za,s3,λp=>?_⟩
  have kp:Keep (λ_=>True) (zD w.s lv).2 (encS none (zD w.s lv).2<|lamsF n<|applyF (.mk 4 [] (zD w.s lv).1.1 []) on).2:=by
   have et:toL (lamsF n<|applyF (.mk 4 [] (zD w.s lv).1.1 []) on)=yy n (apps (.var (w.s.C.length:Int))<|toLs on):=by rw[vI,yL,wO,ec.2.2]
   have q9:(encS none (zD w.s lv).2<|lamsF n<|applyF (.mk 4 [] (zD w.s lv).1.1 []) on).1.2=0:=by
    unfold setW at e;split at e
    next w=>exact absurd e w
    next w=>exact zo w
   obtain⟨_,_,_,k,_⟩:=cK gr a1 (lamsF n<|applyF (.mk 4 [] (zD w.s lv).1.1 []) on) (d:=0) (λ_=>by
    refine Cq.imp (p:=λx=>Kin (Z++E) x/\mat (Z++E) x=.var x) (λ_ w _ _=>w) ?_;rw[et];refine Cv.lams n ((Cv.apps _ _).2 ⟨⟨a2,a3⟩,λa ha=>?_⟩);rw[y8] at ha;obtain⟨u,hu,rfl⟩:=rK.1 ha;rw[rB];exact(hn u hu).app E) q9
   exact k
  obtain⟨g1,g2⟩:=s4 p
  have nf:nfC p (zD w.s lv).2.C=nfC p w.s.C+(if p (zE [lv,0])=true then 1 else 0):=by
   rw[ec.1];unfold nfC;rw[List.countP_append,List.countP_singleton];rfl
  dsimp only at g1 g2;have g2:=g2 hk.1 (by rw[hk.2];exact h4);rw[hk.2] at g2;refine⟨λhp=>?_,λhp hq=>?_⟩
  .by_cases w:p (zE [lv,0])=true
   .rw[oX w] at nf;have:=g2 (hp w) kp;omega
   .rw[oV w] at nf;omega
  .rw[oV<|by rw[hp];simp] at nf;have:=g2 hq kp;omega
def wtD (lv:Int)(D:Nat)(C:List Cel):Nat:=D*nfC (λa=>decide (a>lv)) C
theorem wtD_le {lv:Int}{D:Nat}{C C':List Cel}(h:nfC (λa=>decide (a>lv)) C'<=nfC (λa=>decide (a>lv)) C):wtD lv D C'<=wtD lv D C:=Nat.mul_le_mul_left D h
theorem wtD_drop {lv:Int}{D:Nat}{C C':List Cel}(h:nfC (λa=>decide (a>lv)) C'+1<=nfC (λa=>decide (a>lv)) C):wtD lv D C'+D<=wtD lv D C:=by
 have:=Nat.mul_le_mul_left D h;unfold wtD;rw[Nat.mul_add,Nat.mul_one] at this;exact this
abbrev qA:Int->Bool:=λ_=>true
structure Tw (lv:Int)(D:Nat)(w v:Wp)(k j:Int):Prop where
 f:v.f<=w.f
 c:(v.s.C.length:Int)+100*v.f+wtD lv D v.s.C<=w.s.C.length+100*w.f+wtD lv D w.s.C+k
 t:(v.s.T.length:Int)+100*v.f<=w.s.T.length+100*w.f+j
 n:nfC qA v.s.C<=nfC qA w.s.C
theorem Tw.trans {lv:Int}{D:Nat}{a b c:Wp}{k j k' j' k2 j2:Int}(h:Tw lv D a b k j)(g:Tw lv D b c k' j')(e:k+k'<=k2)(e2:j+j'<=j2):Tw lv D a c k2 j2:=⟨sn g.f h.f,by have:=h.c;have:=g.c;omega,by have:=h.t;have:=g.t;omega,rS g.n h.n⟩
theorem Pw.tw {w v:Wp}{k:Int}(h:Pw w v k)(lv:Int)(D:Nat):Tw lv D w v k k:=⟨h.f,by have:=h.c;have:=wtD_le (lv:=lv) (D:=D) (h.n λa=>decide (a>lv));omega,h.t,h.n _⟩
theorem ni {l:List Tm}(h:∀u∈l,IsLf u):ones l:=λt ht=>by
 obtain⟨n,⟨rfl,_⟩|rfl⟩:=h t ht<;>rfl
theorem lJ (w:Wp)(x lv:Int)(n:Nat)(on:List Tm):(yP w x lv n on).1.1.sz=1:=by unfold yP;split<;>rfl
section
variable {V:Int->Option La} {v:Iv} (hL:∀u∈v.l,IsLf u)
include hL
theorem flex_w (lv0:0<=v.lv){D:Nat}(hD:4*v.l.length<=D){k:Nat}{w:Wp}{Z:List Gh}(h:MG V w.s Z)(hN:NmV w.s.N){y:Sd}(hy:Kin Z y.h)(hyc:y.c=cellOf w.s.C y.h)(hy4:(cellOf w.s.C y.h).t=4){L:List La}(hjs:All2 (λx X=>Me V Z x X) y.js L)(hk:k+v.l.length<=2097152)(e:(vX v y (k:Int) w).1.2=0):
  Tw v.lv D w (vX v y (k:Int) w).2 (9-2*(vX v y (k:Int) w).1.1.sz) 1:=by
 have hlv:=xW (V:=V) y.c.a y.js L [] w Z h hN hjs;have hlw:=jP y.c.a y.js [] w;unfold vX at e ⊢;generalize zw y.c.a y.js [] w=z at*;unfold Zd at e ⊢;split at e
 next q=>exact absurd e q
 rename_i q;rw[oV q];obtain⟨E,ws,a1,a2,a3,a4,a5,a6⟩:=hlv (zo q);obtain⟨p1,p2⟩:=hlw (zo q);rw[rH] at a4;rw[a4] at e p2 ⊢;rw[rt,rB] at p2;have p1:=p1.tw v.lv D;have cy:=a2.cell (h.inC hy) hy4;obtain⟨m1,m2,m3,m4⟩:=cQ v k ws<|ni a6
 obtain⟨o1,o2,o3,o4⟩:=m8 y.c.a v.lv k v.l<|ni hL
 split at e
 next q1=>rw[oX q1];have sz:=xX (.mk 4 [] y.h []) (im1 v k ws).2;rw[vC m1] at sz;have e1:(Tm.mk 4 [] y.h []).sz=1:=rfl;have pc:=p1.c;have pt:=p1.t;exact⟨p1.f,zm,zm,p1.n⟩
 .rename_i q1;rw[oV q1];dsimp only at e ⊢;have lon:((im1 v (k:Int) ws).1++(im2 y.c.a v.lv (k:Int) v.l).1).length=(im1 v (k:Int) ws).1.length+(im2 y.c.a v.lv (k:Int) v.l).1.length:=re
  obtain⟨g1,g2,g3,g4⟩:=hang_w (w:=z.2) (x:=y.h) (lv:=zO [v.lv,y.c.a]) (n:=ws.length) (on:=(im1 v (k:Int) ws).1++(im2 y.c.a v.lv (k:Int) v.l).1) a1 (hy.app E) (by rw[cy.2];exact hy4) (jA m4 o4) (λhn u hu=>by
   rcases rQ.1 hu with r|r
   .exact(pv hL hk (Z:=Z++E) ws [] a6).2.1 (by rw[rH];omega) u r
   .exact(im2_m hL hk (Z:=Z++E) y.c.a v.lv (gs<|toLs ws) 0 ws.length v.l [] rfl).2.1 u r) e
  have sz1:=(lJ z.2 y.h (zO [v.lv,y.c.a]) ws.length<|(im1 v (k:Int) ws).1++(im2 y.c.a v.lv (k:Int) v.l).1);generalize yP z.2 y.h (zO [v.lv,y.c.a]) ws.length ((im1 v (k:Int) ws).1++(im2 y.c.a v.lv (k:Int) v.l).1)=g at*;have sz:=xX g.1.1<|(im1 v (k:Int) ws).2++(im2 y.c.a v.lv (k:Int) v.l).2
  rw[vC<|jA m1 o1,re] at sz;have mx:zE [zO [v.lv,y.c.a],0]<=v.lv:=by simp only[zE,zO,List.foldl];omega
  have na:=(g4 qA).1 λ_=>rfl;have pc:=p1.c;have pt:=p1.t;have pf:=p1.f;by_cases hi:y.c.a>v.lv
  .have dr:=wtD_drop (lv:=v.lv) (D:=D)<|(g4 λa=>decide (a>v.lv)).2 (A2 za)<|decide_eq_true<|by rw[cy.2,<-hyc];exact hi
   exact⟨by rw[g1];exact pf,by (try dsimp only);omega,by (try dsimp only);omega,rS na p1.n⟩
  .have z2:(im2 y.c.a v.lv (k:Int) v.l).1.length=0:=by
    have:∀l,(im2 y.c.a v.lv (k:Int) l).1=[]:=by
     intro l
     induction l with
     |nil=>rfl
     |cons t l ih=>rw[im2,oV λw=>hi w.1];exact ih
    rw[this];rfl
   have dr:=wtD_le (lv:=v.lv) (D:=D)<|(g4 λa=>decide (a>v.lv)).1 λw=>by have:=rA w;omega
   exact⟨by rw[g1];exact pf,by (try dsimp only);omega,by (try dsimp only);omega,rS na p1.n⟩
end
def FwW (x lv:Int)(D:Nat)(F:Int->Wp->(Tm×Int)×Wp):Prop:=∀(b:Int) (w:Wp) (V:Int->Option La) (Z:List Gh) (B:La),MG V w.s Z->NmV w.s.N->Kin Z x->(cellOf w.s.C x).t=4->Me V Z b B->(F b w).1.2=0->Tw lv D w (F b w).2 (2-2*(F b w).1.1.sz) 0
theorem args_w {x lv:Int}{D:Nat}{g:Nat->Nat->La}{k d:Nat}{F:Int->Wp->(Tm×Int)×Wp}(hF:FwM x lv g k d F)(hW:FwW x lv D F):∀(js:List Int) (L:List La) (t:Tm) (w:Wp) (V:Int->Option La) (Z:List Gh),MG V w.s Z->NmV w.s.N->Kin Z x->(cellOf w.s.C x).t=4->All2 (λx X=>Me V Z x X) js L->(wx F js t w).1.2=0->
  Tw lv D w (wx F js t w).2 (2*t.sz+4*js.length-2*(wx F js t w).1.1.sz) 0
 |[],[],t,w,V,Z,_,_,_,_,_,_=>⟨ru _,by simp[wx],by simp[wx],r6 _⟩
 |[],_::_,_,_,_,_,_,_,_,_,q,_=>q.elim
 |_::_,[],_,_,_,_,_,_,_,_,q,_=>q.elim
 |b::l,B::L,t,w,V,Z,h,hN,hx,h4,q,e=>by
  rw[wx] at e ⊢;split at e
  next q=>exact absurd e q
  rename_i q1;rw[oV q1];have q1:(F b w).1.2=0:=zo q1
  have w1:=hW b w V Z B h hN hx h4 q.1 q1;obtain⟨V',E,s1,g1,n1,c1,gx,p1⟩:=hF b w V Z B h hN hx h4 q.1 q1;have w2:=args_w hF hW l L (applyF t [(F b w).1.1]) (F b w).2 V' (Z++E) g1 n1 (hx.app E) c1 (ZW s1<|yn E q.2) e;have sz:=vZ t (F b w).1.1;exact w1.trans w2 (by simp only[r5];omega) za
theorem l6 {v:Iv}(hL:∀u∈v.l,IsLf u)(hLp:LPt v.lv v.l)(lv0:0<=v.lv){D:Nat}(hD:4*v.l.length<=D):∀(n:Nat) (k:Nat),n+k+v.l.length<=2097152->FwW v.x v.lv D (λa w=>yz v n a (k:Int) w)
 |0,k,_=>λa w V Z A h hN hx h4 hk e=>absurd e (by show¬(80:Int)=0;decide)
 |n+1,k,hn=>λa w V Z A h hN hx h4 hk e=>by
  have lk:=YW h hk;have lw:=iw (w:=w) (a:=a);have hV:=h.cl;dsimp only at e ⊢;rw[yz] at e ⊢;generalize lookW w a=z at*;unfold nV at e ⊢;split at e
  next q=>exact absurd e q
  rename_i q;rw[oV q];obtain⟨E,a1,a2,a3,sp,ec⟩:=lk (zo q);have lw:=(lw<|zo q).1.tw v.lv D;obtain⟨A',L',w1,w2,w3⟩:=sp.w;have cx:=a2.cell (h.inC hx) h4;have hN1:NmV z.2.s.N:=by rw[a3];exact hN
  have h41:(cellOf z.2.s.C v.x).t=4:=by rw[cx.2];exact h4
  have ck:=a1.at w1.k;rw[<-ec] at ck;split at e
  .rename_i q6;rw[oX q6];obtain⟨k1,k2⟩:=ck.x6 q6;have ih:=l6 hL hLp lv0 hD n (k+1) za z.1.1.c.a z.2 V (Z++E) _ a1 hN1 (hx.app E) h41<|.self k1
   dsimp only at ih e ⊢;rw[show(k:Int)+1=((k+1:Nat):Int) by omega] at e ⊢;have sz:∀t:Tm,(lamsF 1 t).sz=1+t.sz:=λt=>by simp only[lamsF,Tm.sz,Tm.szs];omega
   rw[sz];exact lw.trans (ih e) za za
  .rename_i q6;rw[oV q6];split at e
   .rename_i q4;rw[oX q4];split at e
    .exact absurd e (by show¬(170:Int)=0;decide)
    .rename_i qx;rw[oV qx];have hy4:(cellOf z.2.s.C z.1.1.h).t=4:=by rw[<-ec];exact q4
     exact lw.trans (flex_w hL lv0 hD a1 hN1 w1.k ec hy4 w2 za e) za za
   .rename_i q4;rw[oV q4];split at e
    .exact absurd e (by show¬(170:Int)=0;decide)
    next qr=>rw[oV qr];have r:=args_w (cC hL hLp lv0 n k za) (l6 hL hLp lv0 hD n k za) z.1.1.js L' (xJ v z.2.s.N z.1.1 (k:Int)).1 z.2 V (Z++E) a1 hN1 (hx.app E) h41 w2 e;rw[Yn] at r;exact lw.trans r za za
structure Pn (w v:Wp)(k:Int):Prop where
 f:v.f<=w.f
 c:(v.s.C.length:Int)+100*v.f<=w.s.C.length+100*w.f+k
 t:(v.s.T.length:Int)+100*v.f<=w.s.T.length+100*w.f+k
 n:nfC qA v.s.C<=nfC qA w.s.C
theorem Pn.trans {a b c:Wp}{k j m:Int}(h:Pn a b k)(g:Pn b c j)(e:k+j<=m):Pn a c m:=⟨sn g.f h.f,by have:=h.c;have:=g.c;omega,by have:=h.t;have:=g.t;omega,rS g.n h.n⟩
theorem Pw.pn {w v:Wp}{k:Int}(h:Pw w v k):Pn w v k:=⟨h.f,h.c,h.t,h.n _⟩
theorem Pn.refl (w:Wp){k:Int}(hk:0<=k):Pn w w k:=(Pw.refl w hk).pn
section
variable {V:Int->Option La}
theorem bind_w {K:Nat}{w:Wp}(ok:OkW K w)(hf:w.f<=100000){Z:List Gh}(h:MG V w.s Z)(hN:NmV w.s.N){x:Sd}{a:Int}{A:La}{L:List La}(hx:Kin Z x.h)(h4:(cellOf w.s.C x.h).t=4)(hxc:(cellOf w.s.C x.h).a=x.c.a)(hjs:All2 (λx X=>Me V Z x X) x.js L)(hl:x.js.length<=100000)(ha:Me V Z a A)(h8:nfC qA w.s.C<=8)(e:(wL w x a).1=0):Pn w (wL w x a).2 10:=by
 have hlv:=xW (V:=V) x.c.a x.js L [] w Z h hN hjs;have hf2:=(yU x.c.a x.js [] ok λt q=>by cases q).1.f1;have hpt:=λe ws=>u9 (lv:=x.c.a) (l:=x.js) (w:=w) (ws:=ws) e;have hlw:=jP x.c.a x.js [] w;unfold wL at e ⊢;generalize zw x.c.a x.js [] w=z at*;unfold Xm at e ⊢;split at e
 next q=>exact absurd e q
 rename_i q;rw[oV q];obtain⟨E,ws,a1,a2,a3,a4,a5,a6⟩:=hlv (zo q);obtain⟨p1,p2⟩:=hlw (zo q);rw[rH] at a4;have pt:=hpt (zo q) ws a4 a6;rw[a4] at e p2 ⊢;rw[rt,rB] at p2;have cx:=a2.cell (h.inC hx) h4;obtain⟨lx1,lx2,lx3⟩:=h.lv hx h4;rw[hxc] at lx1 lx2;have tm:=l6 (v:=⟨x.h,x.c.a,ws⟩) a6 pt lx2 (D:=4*ws.length) (r6 _) (z.2.f.toNat+1) 0 zm a z.2 V (Z++E) A a1 (by rw[a3];exact hN) (hx.app E) (by dsimp only;rw[cx.2];exact h4)<|ha.app E
 dsimp only at tm;rw[show((0:Nat):Int)=0 from rfl] at tm;generalize yz ⟨x.h,x.c.a,ws⟩ (z.2.f.toNat+1) a 0 z.2=y at*;split at e
 next q1=>exact absurd e q1
 rename_i q1;rw[oV q1];have tm:=tm (zo q1);obtain⟨s1,s2,s3,s4⟩:=set_w e
 have e2:∀(n:Nat) (t:Tm),(lamsF n t).sz=n+t.sz:=by
  intro n
  induction n with
  |zero=>intro t;rw[lamsF];omega
  |succ n ih=>intro t;rw[lamsF,ih];simp only[Tm.sz,Tm.szs];omega
 rw[e2] at s2;have na:=(s4 qA).1;have tc:=tm.c;have tt:=tm.t;have pc:=p1.c;have ptt:=p1.t
 have hi:wtD x.c.a (4*ws.length) z.2.s.C<=32*ws.length:=by
  have h1:nfC (λa=>decide (a>x.c.a)) z.2.s.C<=nfC qA z.2.s.C:=List.countP_mono_left λc _ hc=>by
   simp only[oZ] at hc ⊢;exact⟨hc.1,trivial⟩
  have h2:=p1.n qA;have:4*ws.length*nfC (λa=>decide (a>x.c.a)) z.2.s.C<=4*ws.length*8:=Nat.mul_le_mul_left _ za;unfold wtD;omega
 exact⟨by rw[s1];exact sn tm.f p1.f,by rw[s1];omega,by rw[s1];omega,rS na<|rS tm.n<|p1.n _⟩
theorem prune_w {w:Wp}{Z:List Gh}(h:MG V w.s Z)(hN:NmV w.s.N){x y:Sd}{L M:List La}(hx:Kin Z x.h)(h4:(cellOf w.s.C x.h).t=4)(hjs:All2 (λx X=>Me V Z x X) x.js L)(hys:All2 (λx X=>Me V Z x X) y.js M)(e:(xD w x y).1=0):Pn w (xD w x y).2 10:=by
 have hl1:=xW (V:=V) x.c.a x.js L [] w Z h hN hjs;have hw1:=jP x.c.a x.js [] w;unfold xD at e ⊢;generalize zw x.c.a x.js [] w=z at*;split at e
 next q=>exact absurd e q
 rename_i q;rw[oV q];obtain⟨E,ws,a1,a2,a3,a4,a5,a6⟩:=hl1 (zo q);obtain⟨p1,p2⟩:=hw1 (zo q);rw[rH] at a4;rw[a4] at e p2 ⊢;rw[rt,rB] at p2;have hl2:=xW (V:=V) y.c.a y.js M [] z.2 (Z++E) a1 (by rw[a3];exact hN)<|yn E hys
 have hw2:=jP y.c.a y.js [] z.2;generalize zw y.c.a y.js [] z.2=z' at*;split at e
 next q1=>exact absurd e q1
 rename_i q1;rw[oV q1];obtain⟨F,us,b1,b2,b3,b4,b5,b6⟩:=hl2 (zo q1);obtain⟨t1,t2⟩:=hw2 (zo q1);rw[rH] at b4;rw[b4] at e t2 ⊢;have hp:=p1.trans t1 (m:= -96*(x.js.length:Int)) za;have cx:=(a2.trans b2).cell (h.inC hx) h4;split at e
 .exact absurd e (by show¬(171:Int)=0;decide)
 rename_i ql;rw[oV ql];have ql:ws.length=us.length:=zo ql
 split at e
 next qn=>rw[oX qn];exact⟨hp.f,by have:=hp.c;dsimp only;omega,by have:=hp.t;dsimp only;omega,hp.n _⟩
 .rename_i qn;rw[oV qn];have ol:=(pq (Z:=Z) ws us [] [] ql a6 b6).2.2.1
  have oo:ones (onZ ws us):=by
   have:∀a b:List Tm,ones (onZ a b):=by
    intro a
    induction a with
    |nil=>intro b t ht;rw[show onZ [] b=[] by cases b<;>rfl] at ht;cases ht
    |cons u a ih=>intro b;cases b with
     |nil=>intro t ht;cases ht
     |cons v b=>
      intro t ht;rw[onZ] at ht;rcases rQ.1 ht with w|w
      .split at w
       .rw[rJ.1 w];rfl
       .cases w
      .exact ih b t w
   exact this ws us
  obtain⟨g1,g2,g3,g4⟩:=hang_w (w:=z'.2) (x:=x.h) (lv:=x.c.a) (n:=ws.length) (on:=onZ ws us) b1 ((hx.app E).app F) (by rw[cx.2];exact h4) oo (λhn u hu=>(pq (Z:=Z++E++F) ws us [] [] ql a6 b6).2.1 (by rw[rH];omega) u hu) e;have na:=(g4 qA).1 λ_=>rfl;have hc:=hp.c;have ht:=hp.t;exact⟨by rw[g1];exact hp.f,zm,zm,rS na<|hp.n _⟩
theorem body_w (w:Wp)(x:Sd)(a:Int):(yd w x a).2.f=w.f/\Ez w.s (yd w x a).2.s 4:=by
 have hl:Ez w.s (yw w.s a 1).2 2:=by
  unfold yw;split
  .exact⟨Nat.le_add_right _ _,rfl,λ_=>r6 _⟩
  .dsimp only;unfold xC;rw[oV zc]
   have pr:∀(r:Rd) (c:Cel),c.t≠4->Ez r.s (putR r c).2.s 1:=λr c h4=>by
    unfold putR;split
    .exact .put _ _ h4
    .exact⟨Nat.le_add_right _ _,rfl,λ_=>r6 _⟩
   exact(pr ⟨w.s,0,0⟩ _ zb).trans<|pr _ _ zb
 unfold yd;split
 .exact⟨rfl,Nat.le_add_right _ _,rfl,λ_=>r6 _⟩
 .split
  .exact⟨rfl,hl.le za⟩
  .split
   .exact⟨rfl,(hl.trans<|.put _ _ zb).le za⟩
   .exact⟨rfl,(hl.trans<|.put _ _ zb).trans<|.put _ _ zb⟩
theorem under_w (w:Wp)(x y:Sd)(p:Int×Int):Pn w (xV w x y p).2 10:=by
 obtain⟨b1,b2,b3,b4⟩:=body_w w x p.1;obtain⟨c1,c2,c3,c4⟩:=body_w (yd w x p.1).2 y p.2;have h1:Pn w (yd w x p.1).2 4:=⟨za,za,by rw[b3];omega,b4 _⟩;have h2:Pn (yd w x p.1).2 (yd (yd w x p.1).2 y p.2).2 4:=⟨za,za,by rw[c3];omega,c4 _⟩;unfold xV;split
 .exact⟨h1.f,by have:=h1.c;dsimp only;omega,by have:=h1.t;dsimp only;omega,h1.n⟩
 .split
  .exact h1.trans h2 zc
  .exact h1.trans h2 zc
theorem one_w {K:Nat}{w:Wp}(ok:OkW K w)(hf:w.f<=100000){Z:List Gh}(h:MG V w.s Z)(hN:NmV w.s.N){p:Int×Int}{A B:La}(ha:Me V Z p.1 A)(hb:Me V Z p.2 B)(h8:nfC qA w.s.C<=8)(e:(oneW w p).1.1=0):Pn w (oneW w p).2 10:=by
 have l1:=YW h ha;have lw1:=iw (w:=w) (a:=p.1);obtain⟨r1,_,r2⟩:=xf ok p.1;unfold oneW at e ⊢;generalize lookW w p.1=z at*;split at e
 next q=>exact absurd e q
 rename_i q;rw[oV q];have q:z.1.2=0:=zo q
 obtain⟨E,a1,a2,a3,a4,a5⟩:=l1 q;have lw1:=(lw1 q).1;have ok1:=r1.ok ok q;have f1:=r1.f1;have j1:=r2 q;have g1:=ok1.f0;have l2:=YW a1<|hb.app E
 have lw2:=iw (w:=z.2) (a:=p.2);obtain⟨t1,_,t2⟩:=xf ok1 p.2;generalize lookW z.2 p.2=z' at*;split at e
 next q1=>exact absurd e q1
 rename_i q1;rw[oV q1];have q1:z'.1.2=0:=zo q1
 obtain⟨F,b1,b2,b3,b4,b5⟩:=l2 q1;have lw2:=(lw2 q1).1;have ok2:=t1.ok ok1 q1;have f2:=t1.f1;have j2:=t2 q1;have g2:=ok2.f0;have sx:SdM V z'.2.s (Z++E++F) z.1.1 A:=(a4.sd a1 a5).up a1 F b2 b3;have sy:SdM V z'.2.s (Z++E++F) z'.1.1 B:=b4.sd b1 b5;have hN2:NmV z'.2.s.N:=by rw[b3,a3];exact hN
 have ha2:=(ha.app E).app F;have hb2:=(hb.app E).app F;have pn:Pn w z'.2 0:=lw1.pn.trans lw2.pn za;have n8:nfC qA z'.2.s.C<=8:=rS pn.n h8;generalize z.1.1=x at*;generalize z'.1.1=y at*;generalize z'.2=v at*;obtain⟨L,x1,x2⟩:=sx.w;obtain⟨M,y1,y2⟩:=sy.w;unfold oneG at e ⊢;split at e
 next q6=>rw[oX q6];exact pn.trans (under_w v x y p) zc
 rename_i q6;rw[oV q6];split at e
 next q4=>rw[oX q4];have x4:=sx.c4 q4.1;exact pn.trans (prune_w b1 hN2 sx.k (by rw[x4];exact q4.1) x1 y1 e) zc
 rename_i q4;rw[oV q4];split at e
 next qx=>rw[oX qx];have x4:=sx.c4 qx;exact pn.trans (bind_w ok2 za b1 hN2 sx.k (by rw[x4];exact qx) (by rw[x4]) x1 za hb2 n8 e) zc
 rename_i qx;rw[oV qx];split at e
 next qy=>rw[oX qy];have y4:=sy.c4 qy;exact pn.trans (bind_w ok2 za b1 hN2 sy.k (by rw[y4];exact qy) (by rw[y4]) y1 za ha2 n8 e) zc
 rename_i qy;rw[oV qy];split
 .exact⟨pn.f,by have:=pn.c;dsimp only;omega,by have:=pn.t;dsimp only;omega,pn.n⟩
 .exact⟨pn.f,by have:=pn.c;dsimp only;omega,by have:=pn.t;dsimp only;omega,pn.n⟩
theorem run_w {K:Nat}:∀(n:Nat) (w:Wp) (V:Int->Option La) (Z:List Gh) (st:List<|Int×Int),OkW K w->w.f<=100000->MG V w.s Z->NmV w.s.N->(∀q∈st,Kin Z q.1/\Kin Z q.2)->nfC qA w.s.C<=8->(runZ n w st).1=0->Pn w (runZ n w st).2 0
 |n,w,V,Z,[],_,_,_,_,_,_,_=>by cases n<;>exact .refl w zc
 |0,w,V,Z,_::_,_,_,_,_,_,_,e=>absurd e (by show¬(80:Int)=0;decide)
 |n+1,w,V,Z,p::st,ok,hf,h,hN,hk,h8,e=>by
  rw[runZ] at e ⊢;split at e
  .exact absurd e (by show¬(80:Int)=0;decide)
  rename_i q0;rw[oV q0];split at e
  next q=>exact absurd e q
  rename_i q;rw[oV q];have q:(oneW ⟨w.s,w.f-1⟩ p).1.1=0:=zo q
  have ok1:OkW K ⟨w.s,w.f-1⟩:=ok.less za;have kp:=hk p<|r7 ..
  have om:=oneW_m (V:=V) ok1 zm h hN (.self kp.1) (.self kp.2) q;have ow:=one_w (V:=V) ok1 zm h hN (.self kp.1) (.self kp.2) h8 q;obtain⟨r1,_⟩:=ZB ok1 p zm;have ok2:=r1.ok ok1 q;have f2:=r1.f1;generalize oneW ⟨w.s,w.f-1⟩ p=z at*;obtain⟨V',E,a1,a2,a3,a6,a4,a5⟩:=om
  have r:=run_w n z.2 V' (Z++E) (z.1.2++st) ok2 (by dsimp only at f2;omega) a2 a3 (λq hq=>by
   rcases rQ.1 hq with r|r
   .exact a4 q r
   .have:=hk q (r9 _ r);exact⟨this.1.app E,this.2.app E⟩) (rS ow.n h8) e
  have oc:=ow.c;have ot:=ow.t;have of:=ow.f;dsimp only at oc ot of;exact⟨by have:=r.f;omega,by have:=r.c;omega,by have:=r.t;omega,rS r.n ow.n⟩
end
section
variable {V:Int->Option La}
theorem YY {s:Hp}{f:Int}{Z:List Gh}(h:MG V s Z)(hN:NmV s.N){a:Int}{A:La}(hk:Me V Z a A)(e:(zQ s a f).1.2.2=0):∃E,MG V (zQ s a f).2 (Z++E)/\NF s (zQ s a f).2/\(zQ s a f).2.N=s.N/\validB (zQ s a f).1.1=true/\Eqv V A (toL (zQ s a f).1.1)/\NfL V (toL (zQ s a f).1.1):=by
 have hd:=jX (2*f.toNat+2) (f.toNat+1) ⟨s,f,0⟩ a Z A (r6 _) (r6 _) h hN λ_=>hk;unfold zQ at e ⊢;generalize fulR (2*f.toNat+2) (f.toNat+1) ⟨s,f,0⟩ a=z at*;obtain⟨E,a1,a2,a4,a3⟩:=hd;by_cases q:z.2.e=0
 .have q2:¬z.2.e≠0:=λw=>w q;have t:=(a3 q).2;rw[oV q2,oX t.v] at e ⊢;have hok:=zG _ t.v;have nf:=nf_of (s:=sV V) (V:=V) (λx=>(h.sV x).1) (zy z.1) (xN t.v) (qX _ hok t.n) (bh _ _ hok t.n t.u).1<|bS _ hok
  exact⟨E,a1,a2,a4,xN t.v,t.e.trans h.cl<|.of<|vn _ t.v,nf.1⟩
 .have q2:z.2.e≠0:=q;rw[oX q2] at e;exact absurd e q
theorem mS {s:Hp}{f g:Int}{Z:List Gh}(h:MG V s Z)(hN:NmV s.N){a b:Int}{A B:La}(ha:Me V Z a A)(hb:Me V Z b B)(hab:Eqv V A B)(e:(zQ s a f).1.2.2=0)(e2:(zQ (zQ s a f).2 b g).1.2.2=0):
  (zQ (zQ s a f).2 b g).1.1=(zQ s a f).1.1:=by
 obtain⟨E,a1,a2,a3,a4,a5,a6⟩:=YY h hN ha e;obtain⟨F,b1,b2,b3,b4,b5,b6⟩:=YY a1 (by rw[a3];exact hN) (hb.app E) e2;have:Eqv V (toL (zQ (zQ s a f).2 b g).1.1) (toL (zQ s a f).1.1):=(b5.symm.trans h.cl hab.symm).trans h.cl a5;exact toL_inj _ _ b4 a4<|this.nf b6 a6
end
structure Ev (s:Hp)(R Q:Int->Prop):Prop where
 r:∀a,R a->inC s.C a=true/\(cellOf s.C a).t<=7/\((cellOf s.C a).t=5->R (cellOf s.C a).a)/\((cellOf s.C a).t=7->Q (cellOf s.C a).a)
 q:∀a,Q a->R a/\(cellOf s.C a).t≠6/\((cellOf s.C a).t=5->Q (cellOf s.C a).a)
def Fr (R:Int->Prop)(s s':Hp):Prop:=∀a,R a->inC s'.C a=true/\cellOf s'.C a=cellOf s.C a
theorem Fr.refl {R Q:Int->Prop}{s:Hp}(h:Ev s R Q):Fr R s s:=λa ha=>⟨(h.r a ha).1,rfl⟩
theorem Fr.trans {R:Int->Prop}{s t u:Hp}(h:Fr R s t)(g:Fr R t u):Fr R s u:=λa ha=>⟨(g a ha).1,(g a ha).2.trans (h a ha).2⟩
theorem Ev.fr {R Q:Int->Prop}{s t:Hp}(h:Ev s R Q)(g:Fr R s t):Ev t R Q:=
 ⟨λa ha=>by rw[(g a ha).2];exact⟨(g a ha).1,(h.r a ha).2⟩,λa ha=>by rw[(g a (h.q a ha).1).2];exact h.q a ha⟩
theorem Ev.ns {R Q:Int->Prop}{s t:Hp}(h:Ev s R Q)(g:NS s t):Fr R s t:=λa ha=>by
 obtain⟨h1,h2,_⟩:=h.r a ha;exact Keep.cell g h1 (by show _≠(8:Int);omega)
theorem Ev.ch {R Q:Int->Prop}{s:Hp}(h:Ev s R Q){a b:Int}(c:Ch s a b):(R a->R b)/\(Q a->Q b):=by
 induction c with
 |refl _=>exact⟨id,id⟩
 |step _ h2 _ ih=>exact⟨λq=>ih.1<|(h.r _ q).2.2.1 h2,λq=>ih.2<|(h.q _ q).2.2 h2⟩
theorem dU {R Q:Int->Prop}:∀(n:Nat) (l:List Int) (b:Bool) (a:Int) (r:Rd),Ev r.s R Q->R a->(l≠[]->Q a)->(headL n l b a r).b=b
 |0,_,_,_,_,_,_,_=>rfl
 |n+1,l,b,a,r,h,ha,hq=>by
  have vs:=wj r a;have va:=λe=>jT (r:=r) (a:=a) e;have hR:=(h.ch<|Ch.deref r.s.C.length a).1 ha;have hQ:=λw=>(h.ch<|Ch.deref r.s.C.length a).2<|hq w
  rw[headL];split
  .rfl
  .split
   .rfl
   .rename_i q;obtain⟨_,v1,_,v3,_⟩:=va (zo q);have hQ:l≠[]->Q (zX r.s.C a):=hQ;have hR:R (zX r.s.C a):=hR;obtain⟨c1,c2,c3,c5⟩:=h.r _ hR;rw[<-v3] at c2 c5;have hE:Ev (zt r a).2.s R Q:=by rw[vs];exact h
    split
    next q7=>have d1:=c5 q7;exact dU n ((zt r a).1.1.b::l) b (zt r a).1.1.a (zt r a).2 hE (h.q _ d1).1 λ_=>d1
    .split
     next q8=>omega
     .split
      .rename_i q6;split
       .rfl
       next ql=>exact absurd q6 (by rw[v3];exact(h.q _<|hQ ql).2.1)
      .rfl
theorem KN {V:Int->Option La}{R Q:Int->Prop}(root:Int):∀(n:Nat) (a:Int) (r:Rd) (Z:List Gh),2*r.f.toNat+2<=n->MG V r.s Z->Ev r.s R Q->(r.e=0->Kin Z a/\Ch r.s root a)->(headL n [] false a r).r.e=0->(headL n [] false a r).b=true->
  ∃e,inC (headL n [] false a r).r.s.C e=true/\(cellOf (headL n [] false a r).r.s.C e).t=7/\Ch (headL n [] false a r).r.s root e/\¬R e
 |0,_,_,_,hn,_,_,_,_,_=>absurd hn za
 |n+1,a,r,Z,hn,h,hE,hk,he,hb=>by
  have vs:=wj r a;have vf:=xr r a;have va:=λe=>jT (r:=r) (a:=a) e;have vu:=λe=>ut h (a:=a) (A:=mat Z a) (λe0=>.self (hk e0).1) e;rw[headL] at he hb ⊢;split
  next q=>rw[oX q] at he;exact absurd he q
  .rename_i q0;rw[oV q0] at he hb;generalize zt r a=u at*;have g:MG V u.2.s Z:=by rw[vs];exact h
   have gE:Ev u.2.s R Q:=by rw[vs];exact hE
   split
   next q=>rw[oX q] at he;exact absurd he q
   .rename_i q;rw[oV q] at he hb;have q:u.2.e=0:=zo q
    obtain⟨e0,hx⟩:=vu q;have hc:Ch r.s root u.1.2:=(hk e0).2.trans (by rw[(va q).2.1];exact Ch.deref _ _);have fu:=vf.2 q;have ck:=h.at hx.m.k;rw[<-hx.c] at ck;split
    next q7=>rw[oX q7] at he hb;obtain⟨p1,p2,_⟩:=ck.x7 q7;obtain⟨E,a1,a2,a4,a3⟩:=ue n [u.1.1.b] false u.1.1.a u.2 Z _ [mat Z u.1.1.b] za g λ_=>⟨.self p1,.self p2,trivial⟩;rw[vs] at a2;obtain⟨c1,c2⟩:=Keep.cell a2 hx.i (by show _≠(8:Int);rw[<-hx.c,q7];decide);refine⟨u.1.2,c1,by rw[c2,<-hx.c];exact q7,hc.ns a2,λhR=>?_⟩;have d:=(hE.r _ hR).2.2.2;rw[<-hx.c] at d;have d1:=d q7;have:=dU n [u.1.1.b] false u.1.1.a u.2 gE (hE.q _ d1).1 λ_=>d1;rw[this] at hb;cases hb
    .rename_i q7;rw[oV q7] at he hb;split
     .rename_i q8;rw[oX q8] at he hb;obtain⟨s1,s2,⟨s3,s4,s5,s6,s7⟩,s8⟩:=ck.x8 q8;have op:=YX n u.2 u.1.1 Z (mat Z u.1.1.a) (rat Z u.1.1.b) u.1.1.d.toNat za g ⟨s2,rfl,s3,za,by rw[vs];exact s5,by rw[vs];exact s6,s7⟩<|.self s1
      have of:=kI n u.2 u.1.1;generalize zA n u.2 u.1.1=z at*;obtain⟨E,a1,a2,a4,a3⟩:=op;have hy:mat (Z++E) u.1.2=mat Z u.1.2:=zJ E hx.m.k;have h8:¬(cellOf r.s.C u.1.2).t≠8:=λw=>w (by rw[<-hx.c];exact q8);rw[vs] at a2;have kp:=Zt a1 u.1.2 z.1 λe0=>⟨(a3 e0).2.k,by rw[hy];exact s8.trans h.cl (a3 e0).2.e.symm⟩;have kn:=dC u.1.2 z.1 a2 λ_=>h8;have kc:=λe=>Jj (r:=z.2) u.1.2 z.1 e;have kf:=uF z.2 u.1.2 z.1;generalize zI z.2 u.1.2 z.1=r2 at*;obtain⟨k1,k2,k3⟩:=kp;exact KN root n z.1 r2 (Z++E) za k1 (hE.fr<|hE.ns kn) (λe=>⟨(a3<|k3 e).2.k,(hc.ns kn).trans<|kc e⟩) he hb
     .rename_i q8;rw[oV q8] at he hb;split
      next q6=>rw[oX q6,oX rfl] at hb;cases hb
      next q6=>rw[oV q6] at hb;cases hb
theorem iC {V:Int->Option La}{R Q:Int->Prop}(n:Nat)(r:Rd)(root:Int)(Z:List Gh)(A:La)(hn:2*r.f.toNat+2<=n)(h:MG V r.s Z)(hk:r.e=0->Me V Z root A)(hE:Ev r.s R Q):Fr R r.s (zK n r root).2.s:=by
 have hb:=KN root n root r Z hn h hE λe=>⟨(hk e).k,.refl _⟩;obtain⟨E,a1,a2,a4,a3⟩:=ue n [] false root r Z A [] hn h λe=>⟨hk e,trivial⟩;unfold zK vr;generalize headL n [] false root r=z at*;dsimp only;split
 .rename_i q;by_cases e0:z.r.e=0
  .obtain⟨e1,A',L',k1,k2,_⟩:=a3 e0;obtain⟨e,c1,c2,c3,c4⟩:=hb e0 q;have ap:=cn z.l z.a z.r (Z++E) A' L' a1 λ_=>⟨k1,k2⟩;generalize yB z.l z.a z.r=w at*;obtain⟨F,b1,b2,b4,b3⟩:=ap;obtain⟨m1,m2⟩:=Keep.cell b2 c1 (by show _≠(8:Int);rw[c2];decide);have ch:=c3.ns b2;obtain⟨g1,_⟩:=Ch.mid (s:=w.2.s) (e:=e) (by rw[m2,c2];decide) w.2.s.C.length root ch;have fr:=hE.ns<|a2.trans b2
   have nR:¬R (zX w.2.s.C root):=λhR=>c4<|((hE.fr fr).ch g1).1 hR
   refine fr.trans λx hx=>?_;have ix:=(fr x hx).1;unfold zI;split
   .rcases w7 w.2.s (zX w.2.s.C root) ⟨5,w.1,0,0,0⟩ with s1|⟨hin,s1⟩<;>rw[s1]
    .exact⟨ix,rfl⟩
    .have hi:=yc.1 hin;have hj:=yc.1 ix;refine⟨yc.2 ⟨hj.1,by simp only[rU];exact hj.2⟩,?_⟩;dsimp only;unfold cellOf;simp only[rU,oX hj];rw[sF,oV λw2=>nR<|by rw[(za:zX w.2.s.C root=x)];exact hx]
   .exact⟨ix,rfl⟩
  .rw[wt _ _ _ e0,uu e0];exact hE.ns a2
 .exact hE.ns a2
inductive Pa (s:Hp)(root:Int):Int->List Int->Nat->Prop
 |nil:Pa s root root [] 0
 |ref {a:Int} {l:List Int} {k:Nat}:Pa s root a l k->inC s.C a=true->(cellOf s.C a).t=5->Pa s root (cellOf s.C a).a l k
 |app {a:Int} {l:List Int} {k:Nat}:Pa s root a l k->inC s.C a=true->(cellOf s.C a).t=7->Pa s root (cellOf s.C a).a ((cellOf s.C a).b::l) (k+1)
inductive Sp (s:Hp):Int->List Int->Int->List Int->Nat->Prop
 |done {a:Int} {l:List Int}:inC s.C a=true->(cellOf s.C a).t<9->(cellOf s.C a).t≠5->(cellOf s.C a).t≠7->(cellOf s.C a).t≠8->((cellOf s.C a).t=6->l=[])->Sp s a l a l 1
 |ref {a h:Int} {l m:List Int} {k:Nat}:inC s.C a=true->(cellOf s.C a).t=5->Sp s (cellOf s.C a).a l h m k->Sp s a l h m k
 |app {a h:Int} {l m:List Int} {k:Nat}:inC s.C a=true->(cellOf s.C a).t=7->Sp s (cellOf s.C a).a ((cellOf s.C a).b::l) h m k->Sp s a l h m (k+1)
theorem Pa.sp {s:Hp}{root a h:Int}{l m:List Int}{k j:Nat}(p:Pa s root a l k)(q:Sp s a l h m j):Sp s root [] h m (k+j):=by
 induction p generalizing j with
 |nil=>rw[rB];exact q
 |ref _ h1 h2 ih=>exact ih<|.ref h1 h2 q
 |app _ h1 h2 ih=>
  have:=ih<|.app h1 h2 q
  rw[show ∀k:Nat,k+1+j=k+(j+1) by omega];exact this
theorem Sp.at {s:Hp}{root a h:Int}{l m:List Int}{k K:Nat}(q:Sp s root [] h m K)(p:Pa s root a l k):∃j,Sp s a l h m j:=by
 induction p with
 |nil=>exact⟨K,q⟩
 |ref _ h1 h2 ih=>
  obtain⟨j,e⟩:=ih;cases e with
  |done _ _ n5=>exact absurd h2 n5
  |ref _ _ e=>exact⟨_,e⟩
  |app _ h7 _=>rw[h2] at h7;cases h7
 |app _ h1 h2 ih=>
  obtain⟨j,e⟩:=ih;cases e with
  |done _ _ _ n7=>exact absurd h2 n7
  |ref _ h5 _=>rw[h2] at h5;cases h5
  |app _ _ e=>exact⟨_,e⟩
theorem Pa.trans {s:Hp}{root f a:Int}{l:List Int}{k:Nat}(h:Pa s root f [] 0)(g:Pa s f a l k):Pa s root a l k:=by
 induction g with
 |nil=>exact h
 |ref _ h1 h2 ih=>exact .ref ih h1 h2
 |app _ h1 h2 ih=>exact .app ih h1 h2
theorem Pa.ns {s t:Hp}(n:NS s t){root a:Int}{l:List Int}{k:Nat}(h:Pa s root a l k):Pa t root a l k:=by
 induction h with
 |nil=>exact .nil
 |ref _ h1 h2 ih=>
  obtain⟨c1,c2⟩:=Keep.cell n h1 (by show _≠(8:Int);rw[h2];decide);rw[<-c2];exact .ref ih c1 (by rw[c2];exact h2)
 |app _ h1 h2 ih=>
  obtain⟨c1,c2⟩:=Keep.cell n h1 (by show _≠(8:Int);rw[h2];decide);rw[<-c2];exact .app ih c1 (by rw[c2];exact h2)
theorem Pa.ch {s:Hp}{root a b:Int}{l:List Int}{k:Nat}(h:Pa s root a l k)(c:Ch s a b):Pa s root b l k:=by
 induction c with
 |refl _=>exact h
 |step h1 h2 _ ih=>exact ih<|.ref h h1 h2
theorem Sp.ns {s t:Hp}(n:NS s t){a h:Int}{l m:List Int}{k:Nat}(q:Sp s a l h m k):Sp t a l h m k:=by
 induction q with
 |done h1 h2 h3 h4 h5 h6=>
  obtain⟨c1,c2⟩:=Keep.cell n h1 (by exact h5);exact .done c1 (by rw[c2];exact h2) (by rw[c2];exact h3) (by rw[c2];exact h4) (by rw[c2];exact h5) (by rw[c2];exact h6)
 |ref h1 h2 _ ih=>
  obtain⟨c1,c2⟩:=Keep.cell n h1 (by show _≠(8:Int);rw[h2];decide);exact .ref c1 (by rw[c2];exact h2) (by rw[c2];exact ih)
 |app h1 h2 _ ih=>
  obtain⟨c1,c2⟩:=Keep.cell n h1 (by show _≠(8:Int);rw[h2];decide);exact .app c1 (by rw[c2];exact h2) (by rw[c2];exact ih)
theorem Sp.mem {s:Hp}{a h:Int}{l m:List Int}{k:Nat}(q:Sp s a l h m k):∀x∈l,x∈m:=by
 induction q with
 |done=>exact λ_ h=>h
 |ref _ _ _ ih=>exact ih
 |app _ _ _ ih=>exact λx hx=>ih x<|r9 _ hx
theorem Sp.pos {s:Hp}{a h:Int}{l m:List Int}{k:Nat}(q:Sp s a l h m k):1<=k:=by
 induction q with
 |done=>exact r6 _
 |ref _ _ _ ih=>exact ih
 |app _ _ _ ih=>omega
theorem Jw:∀(n:Nat) (l:List Int) (a:Int) (r:Rd),(headL n l true a r).b=true
 |0,_,_,_=>rfl
 |n+1,l,a,r=>by
  rw[headL];split
  .rfl
  .split
   .rfl
   .split
    .exact Jw n _ _ _
    .split
     .exact Jw n _ _ _
     .split
      .split
       .rfl
       .exact Jw n _ _ _
      .rfl
theorem Jq {V:Int->Option La}(root:Int):∀(n:Nat) (l:List Int) (a:Int) (r:Rd) (Z:List Gh) (k:Nat),2*r.f.toNat+2<=n->MG V r.s Z->(r.e=0->Kin Z a/\Pa r.s root a l k)->(headL n l false a r).r.e=0->(headL n l false a r).b=false->
  ∃j:Nat,Pa (headL n l false a r).r.s root (headL n l false a r).a (headL n l false a r).l j/\(j:Int)+1+(headL n l false a r).r.f<=k+r.f
 |0,_,_,_,_,_,hn,_,_,_,_=>absurd hn za
 |n+1,l,a,r,Z,k,hn,h,hk,he,hb=>by
  have vs:=wj r a;have vf:=xr r a;have va:=λe=>jT (r:=r) (a:=a) e;have vu:=λe=>ut h (a:=a) (A:=mat Z a) (λe0=>.self (hk e0).1) e;rw[headL] at he hb ⊢;split
  next q=>rw[oX q] at he;exact absurd he q
  .rename_i q0;rw[oV q0] at he hb;generalize zt r a=u at*;have g:MG V u.2.s Z:=by rw[vs];exact h
   split
   next q=>rw[oX q] at he;exact absurd he q
   .rename_i q;rw[oV q] at he hb;have q:u.2.e=0:=zo q
    obtain⟨e0,hx⟩:=vu q;have hp:Pa r.s root u.1.2 l k:=(hk e0).2.ch (by rw[(va q).2.1];exact Ch.deref _ _);have fu:=vf.2 q;have ck:=h.at hx.m.k;rw[<-hx.c] at ck;have stop:∃j:Nat,Pa u.2.s root u.1.2 l j/\(j:Int)+1+u.2.f<=k+r.f:=⟨k,by rw[vs];exact hp,za⟩;split
    .rename_i q7;rw[oX q7] at he hb;obtain⟨p1,p2,_⟩:=ck.x7 q7
     obtain⟨j,j1,j2⟩:=Jq root n (u.1.1.b::l) u.1.1.a u.2 Z (k+1) za g (λ_=>⟨p1,by
      have hc:=hx.c;rw[vs,hc];exact .app hp hx.i (by rw[<-hc];exact q7)⟩) he hb
     exact⟨j,j1,za⟩
    .rename_i q7;rw[oV q7] at he hb;split
     .rename_i q8;rw[oX q8] at he hb;obtain⟨s1,s2,⟨s3,s4,s5,s6,s7⟩,s8⟩:=ck.x8 q8;have op:=YX n u.2 u.1.1 Z (mat Z u.1.1.a) (rat Z u.1.1.b) u.1.1.d.toNat za g ⟨s2,rfl,s3,za,by rw[vs];exact s5,by rw[vs];exact s6,s7⟩<|.self s1
      have of:=kI n u.2 u.1.1;generalize zA n u.2 u.1.1=z at*;obtain⟨E,a1,a2,a4,a3⟩:=op;have hy:mat (Z++E) u.1.2=mat Z u.1.2:=zJ E hx.m.k;have h8:¬(cellOf r.s.C u.1.2).t≠8:=λw=>w (by rw[<-hx.c];exact q8);rw[vs] at a2;have kp:=Zt a1 u.1.2 z.1 λe0=>⟨(a3 e0).2.k,by rw[hy];exact s8.trans h.cl (a3 e0).2.e.symm⟩;have kn:=dC u.1.2 z.1 a2 λ_=>h8;have kc:=λe=>Jj (r:=z.2) u.1.2 z.1 e;have kf:=uF z.2 u.1.2 z.1;generalize zI z.2 u.1.2 z.1=r2 at*;obtain⟨k1,k2,k3⟩:=kp;obtain⟨j,j1,j2⟩:=Jq root n l z.1 r2 (Z++E) k za k1 (λe=>⟨(a3<|k3 e).2.k,(hp.ns kn).ch<|kc e⟩) he hb;exact⟨j,j1,za⟩
     .rename_i q8;rw[oV q8] at he hb;split
      .rename_i q6;rw[oX q6] at he hb;split
       .exact stop
       next qn=>rw[oV qn] at hb;rw[Jw] at hb;cases hb
      .exact stop
theorem nH {r:Rd}{c:Cel}(e:(putR r c).2.e=0):r.e=0/\(putR r c).1=(r.s.C.length:Int)/\(putR r c).2.s.C=r.s.C++[c]:=by
 unfold putR at e ⊢;split
 .rename_i q;rw[oX q] at e;refine⟨q,?_⟩;have e:(putS r.s c).1.2=0:=e;unfold putS at e ⊢;split at e
  .cases e
  .rename_i q1;split at e
   .cases e
   next q2=>rw[oV q1,oV q2];exact⟨rfl,rfl⟩
 next q=>rw[oV q] at e;exact absurd e q
theorem Ji:∀(l:List Int) (f:Int) (r:Rd),Keep (λ_=>True) r.s (yB l f r).2.s
 |[],_,_=>Keep.refl _
 |x::l,f,r=>by
  rw[yB];refine Keep.trans ?_<|Ji l _ _
  unfold putR;split
  .exact Keep.put _<|.refl _
  .exact Keep.refl _
theorem oJ:∀(l:List Int) (f:Int) (r:Rd) (s':Hp),(yB l f r).2.e=0->(∀x,(r.s.C.length:Int)<=x->inC (yB l f r).2.s.C x=true->inC s'.C x=true/\cellOf s'.C x=cellOf (yB l f r).2.s.C x)->Pa s' (yB l f r).1 f l l.length
 |[],f,r,s',_,_=>.nil
 |x::l,f,r,s',e,h=>by
  have e1:(putR r ⟨7,f,x,0,0⟩).2.e=0:=by
   by_cases w:(putR r ⟨7,f,x,0,0⟩).2.e=0
   .exact w
   .rw[yB,wt _ _ _ w] at e;exact absurd e w
  obtain⟨p1,p2,p3⟩:=nH e1;rw[yB] at e h ⊢;have hk:=Ji l (putR r ⟨7,f,x,0,0⟩).1 (putR r ⟨7,f,x,0,0⟩).2;have cl:=uZ r.s.C ⟨7,f,x,0,0⟩;rw[<-p3,<-p2] at cl;have k1:=hk.cell cl.1 trivial;obtain⟨g1,g2⟩:=h _ (by rw[p2];exact ru _) k1.1;have ih:=oJ l _ _ s' e λy hy hi=>h y (by rw[p3] at hy;simp only[re,rD] at hy;omega) hi;have c7:cellOf s'.C (putR r ⟨7,f,x,0,0⟩).1=⟨7,f,x,0,0⟩:=by rw[g2,k1.2,cl.2]
  have:=Pa.app ih g1 (by rw[c7]);rw[c7] at this;exact this
theorem bK:∀(l:List Int) (f:Int) (r:Rd),(yB l f r).2.e=0->∀x,(r.s.C.length:Int)<=x->inC (yB l f r).2.s.C x=true->(cellOf (yB l f r).2.s.C x).t=7
 |[],f,r,_,x,h,hi=>absurd (yc.1 hi).2 (by show¬x<(r.s.C.length:Int);omega)
 |y::l,f,r,e,x,h,hi=>by
  have e1:(putR r ⟨7,f,y,0,0⟩).2.e=0:=by
   by_cases w:(putR r ⟨7,f,y,0,0⟩).2.e=0
   .exact w
   .rw[yB,wt _ _ _ w] at e;exact absurd e w
  obtain⟨p1,p2,p3⟩:=nH e1;rw[yB] at e hi ⊢;by_cases q:x=(r.s.C.length:Int)
  .have hk:=Ji l (putR r ⟨7,f,y,0,0⟩).1 (putR r ⟨7,f,y,0,0⟩).2;have cl:=uZ r.s.C ⟨7,f,y,0,0⟩;rw[<-p3,<-q] at cl;rw[(hk.cell cl.1 trivial).2,cl.2]
  .exact bK l _ _ e x (by rw[p3];simp only[re,rD];omega) hi
theorem Ch.set {s t:Hp}{x:Int}(h:∀y,y≠x->inC s.C y=true->inC t.C y=true/\cellOf t.C y=cellOf s.C y){a:Int}(c:Ch s a x):Ch t a x:=by
 induction c with
 |refl _=>exact .refl _
 |@step a b h1 h2 _ ih=>
  by_cases q:a=b
  .rw[q];exact .refl _
  .obtain⟨g1,g2⟩:=h a q h1;exact .step g1 (by rw[g2];exact h2) (by rw[g2];exact ih h)
theorem X7 {r:Rd}{a b y:Int}(n:y≠a)(h:inC r.s.C y=true):inC (zI r a b).s.C y=true/\cellOf (zI r a b).s.C y=cellOf r.s.C y:=by
 unfold zI;split
 .rcases w7 r.s a ⟨5,b,0,0,0⟩ with e|⟨hin,e⟩<;>rw[e]
  .exact⟨h,rfl⟩
  .have hi:=yc.1 hin;have hj:=yc.1 h;refine⟨yc.2 ⟨hj.1,by simp only[rU];exact hj.2⟩,?_⟩;dsimp only;unfold cellOf;simp only[rU,oX hj];rw[sF,oV λw=>n za]
 .exact⟨h,rfl⟩
theorem ox {V:Int->Option La}(n:Nat)(r:Rd)(root:Int)(Z:List Gh)(A:La)(hn:2*r.f.toNat+2<=n)(h:MG V r.s Z)(hk:r.e=0->Me V Z root A)(he:(zK n r root).2.e=0):
  ∃k:Nat,Sp (zK n r root).2.s root [] (zK n r root).1.1 (zK n r root).1.2 k/\(k:Int)+(zK n r root).2.f<=r.f:=by
 obtain⟨E0,m1,_,_,m3⟩:=YJ n r root Z A hn h hk;obtain⟨e00,sp⟩:=m3 he;have hf:=(uE n r root hn).2 he;obtain⟨A0,L0,w1,_⟩:=sp.w;have hin:=m1.inC w1.k;have s6:=sp.l;have s7:=sp.n7;have s8:=sp.n8;have s5:=sp.n5;have s9:=sp.n9;have fin:∀ {k:Nat},Pa (zK n r root).2.s root (zK n r root).1.1 (zK n r root).1.2 k->Sp (zK n r root).2.s root [] (zK n r root).1.1 (zK n r root).1.2 (k+1):=λp=>p.sp<|.done hin s9 s5 s7 s8 s6
 have hb:=Xg root n root r Z hn h λe=>⟨(hk e).k,.refl _⟩;have hp:=Jq root n [] root r Z 0 hn h λe=>⟨(hk e).k,.nil⟩;obtain⟨E,a1,a2,a4,a3⟩:=ue n [] false root r Z A [] hn h λe=>⟨hk e,trivial⟩;unfold zK vr at*;generalize headL n [] false root r=z at*;dsimp only at*;by_cases q:z.b=true
 .rw[oX q] at*
  have ew:(yB z.l z.a z.r).2.e=0:=by
   unfold zI at he;split at he
   next q2=>exact q2.1
   .exact he
  have e0:z.r.e=0:=by
   by_cases w:z.r.e=0
   .exact w
   .rw[wt _ _ _ w] at ew;exact ew
  obtain⟨e1,A',L',k1,k2,k3,k4,k5,k6,k7,k8⟩:=a3 e0;obtain⟨e,c1,c2,c3⟩:=hb e0 q;have ap:=cn z.l z.a z.r (Z++E) A' L' a1 λ_=>⟨k1,k2⟩;have kp:=Ji z.l z.a z.r;have pa:=oJ z.l z.a z.r (zI (yB z.l z.a z.r).2 (zX (yB z.l z.a z.r).2.s.C root) (yB z.l z.a z.r).1).s ew;have nw:=bK z.l z.a z.r ew;generalize yB z.l z.a z.r=w at*;obtain⟨F,b1,b2,b4,b3⟩:=ap;obtain⟨n1,n2⟩:=kp.cell c1 trivial;have ch:=c3.ns b2;obtain⟨_,g2⟩:=Ch.mid (s:=w.2.s) (e:=e) (by rw[n2,c2];decide) w.2.s.C.length root ch
  have old:zX w.2.s.C root<(z.r.s.C.length:Int):=by
   rcases g2 with g2|g2
   .have:=(yc.1 c1).2;unfold zX;rw[g2];exact this
   .rcases Int.lt_or_le (zX w.2.s.C root) (z.r.s.C.length:Int) with w1|w1
    .exact w1
    .have hx:inC w.2.s.C (zX w.2.s.C root)=true:=by
      rcases Bool.eq_false_or_eq_true (inC w.2.s.C<|zX w.2.s.C root) with w2|w2
      .exact w2
      .have:(cellOf w.2.s.C<|zX w.2.s.C root).t≠5:=by
        unfold cellOf;rw[oV λw3=>by rw[show inC w.2.s.C (zX w.2.s.C root)=true from yc.2 w3] at w2;cases w2];decide
       exact absurd g2 this
     have:=nw _ w1 hx;unfold zX at this;rw[g2] at this;cases this
  have pa:=pa λy hy hi=>X7 za hi;have c5:Ch (zI w.2 (zX w.2.s.C root) w.1).s root (zX w.2.s.C root):=Ch.set (λy hy hi=>X7 hy hi)<|Ch.deref (s:=w.2.s) _ root
  have c6:=c5.trans<|Jj (r:=w.2) (zX w.2.s.C root) w.1 he
  exact⟨_,fin<|(Pa.nil.ch c6).trans pa,za⟩
 .rw[oV q] at*;obtain⟨j,j1,j2⟩:=hp he (zo q);exact⟨_,fin j1,za⟩
section
variable {V:Int->Option La} {R Q:Int->Prop}
theorem J7 {F:Rd->Int->Tm×Rd}{m:Int}(hF:FulM V F m)(hG:∀(r:Rd) (a:Int) (Z:List Gh) (A:La),r.f<=m->MG V r.s Z->NmV r.s.N->(r.e=0->Me V Z a A)->Ev r.s R Q->Fr R r.s (F r a).2.s):∀(l:List Int) (t:Tm) (r:Rd) (Z:List Gh) (L:List La),r.f<=m->MG V r.s Z->NmV r.s.N->(r.e=0->All2 (λx X=>Me V Z x X) l L)->Ev r.s R Q->Fr R r.s (zW F l t r).2.s
 |[],t,r,Z,L,_,_,_,_,hE=>Fr.refl hE
 |x::l,t,r,Z,[],hm,h,hN,hk,hE=>by
  have e:r.e≠0:=λe=>(hk e).elim;rw[zW];obtain⟨⟨E,a1,a2,a4,a3⟩,f2⟩:=hF r x Z laD hm h hN λe2=>absurd e2 e;have g:=hG r x Z laD hm h hN (λe2=>absurd e2 e) hE;exact g.trans<|J7 hF hG l _ (F r x).2 (Z++E) [] (sn f2 hm) a1 (by rw[a4];exact hN) (λe2=>absurd (a3 e2).1 e)<|hE.fr g
 |x::l,t,r,Z,X::L,hm,h,hN,hk,hE=>by
  rw[zW];obtain⟨⟨E,a1,a2,a4,a3⟩,f2⟩:=hF r x Z X hm h hN λe=>(hk e).1;have g:=hG r x Z X hm h hN (λe=>(hk e).1) hE;exact g.trans<|J7 hF hG l _ (F r x).2 (Z++E) L (sn f2 hm) a1 (by rw[a4];exact hN) (λe=>yn E (hk (a3 e).1).2)<|hE.fr g
theorem Y2 (N:Nat):∀(n:Nat) (r:Rd) (a:Int) (Z:List Gh) (A:La),2*r.f.toNat+2<=N->r.f.toNat+1<=n->MG V r.s Z->NmV r.s.N->(r.e=0->Me V Z a A)->Ev r.s R Q->Fr R r.s (fulR N n r a).2.s
 |0,_,_,_,_,_,hn,_,_,_,_=>absurd hn za
 |n+1,r,a,Z,A,hN,hn,h,hm,hk,hE=>by
  have hd:=YJ N r a Z A hN h hk;have hf:=uE N r a hN;have fr:=iC N r a Z A hN h hk hE;rw[fulR];generalize zK N r a=z at*;obtain⟨E,a1,a2,a4,a3⟩:=hd;unfold Zv;split
  .exact fr
  .rename_i q;have q:z.2.e=0:=zo q
   obtain⟨e0,sp⟩:=a3 q;have fz:=hf.2 q;have hN2:NmV z.2.s.N:=by rw[a4];exact hm
   obtain⟨A',L',w1,w2,w3⟩:=sp.w;have hE2:=hE.fr fr;split
   next q6=>obtain⟨k1,k2⟩:=(a1.at w1.k).x6 q6;exact fr.trans<|Y2 N n z.2 (cellOf z.2.s.C z.1.1).a (Z++E) _ za za a1 hN2 (λ_=>.self k1) hE2
   .have hF:FulM V (fulR N n) z.2.f:=λr2 b Z2 B h1 h2 h3 h4=>⟨jX N n r2 b Z2 B za za h2 h3 h4,Yh N n r2 b za⟩;exact fr.trans<|J7 hF (λr2 b Z2 B h1 h2 h3 h4 h5=>Y2 N n r2 b Z2 B za za h2 h3 h4 h5) z.1.2 (leafR z.2.s z.1.1) z.2 (Z++E) L' (ru _) a1 hN2 (λ_=>w2) hE2
end
mutual
inductive Tl (s:Hp)(P:Int->Prop):Int->Nat->Tm->Prop
 |lam {a h:Int} {k j:Nat} {t:Tm}:P a->Sp s a [] h [] k->(cellOf s.C h).t=6->Tl s P (cellOf s.C h).a j t->Tl s P a (k+j) (lamsF 1 t)
 |app {a h:Int} {l:List Int} {k j:Nat} {t:Tm}:P a->Sp s a [] h l k->(cellOf s.C h).t≠6->Tls s P l (leafR s h) j t->Tl s P a (k+j) t
inductive Tls (s:Hp)(P:Int->Prop):List Int->Tm->Nat->Tm->Prop
 |nil {t:Tm}:Tls s P [] t 0 t
 |cons {x:Int} {l:List Int} {j k:Nat} {t u v:Tm}:Tl s P x j u->Tls s P l (applyF t [u]) k v->Tls s P (x::l) t (j+k) v
end
theorem Sp.fr {s t:Hp}{P Q:Int->Prop}(hE:Ev s P Q)(f:Fr P s t){a h:Int}{l m:List Int}{k:Nat}(q:Sp s a l h m k):P a->Sp t a l h m k/\P h:=by
 induction q with
 |done h1 h2 h3 h4 h5 h6=>
  intro ha;obtain⟨c1,c2⟩:=f _ ha;exact⟨.done c1 (by rw[c2];exact h2) (by rw[c2];exact h3) (by rw[c2];exact h4) (by rw[c2];exact h5)<|by rw[c2];exact h6,ha⟩
 |ref h1 h2 _ ih=>
  intro ha;obtain⟨c1,c2⟩:=f _ ha;obtain⟨i1,i2⟩:=ih<|(hE.r _ ha).2.2.1 h2
  exact⟨.ref c1 (by rw[c2];exact h2)<|by rw[c2];exact i1,i2⟩
 |app h1 h2 _ ih=>
  intro ha;obtain⟨c1,c2⟩:=f _ ha;obtain⟨i1,i2⟩:=ih (hE.q _<|(hE.r _ ha).2.2.2 h2).1;exact⟨.app c1 (by rw[c2];exact h2)<|by rw[c2];exact i1,i2⟩
theorem JC {s t:Hp}{h:Int}(c:cellOf t.C h=cellOf s.C h)(n:t.N=s.N):leafR t h=leafR s h:=by unfold leafR;rw[c,n]
mutual
theorem Tl.fr {s t:Hp}{P Q:Int->Prop}(hE:Ev s P Q)(f:Fr P s t)(n:t.N=s.N):∀ {a:Int} {k:Nat} {u:Tm},Tl s P a k u->Tl t P a k u
 |_,_,_,.lam ha sp h6 b=>by
  obtain⟨i1,i2⟩:=sp.fr hE f ha;have c:=(f _ i2).2;exact .lam ha i1 (by rw[c];exact h6) (by rw[c];exact Tl.fr hE f n b)
 |_,_,_,.app ha sp h6 b=>by
  obtain⟨i1,i2⟩:=sp.fr hE f ha;have c:=(f _ i2).2;exact .app ha i1 (by rw[c];exact h6) (by rw[JC c n];exact Tls.fr hE f n b)
theorem Tls.fr {s t:Hp}{P Q:Int->Prop}(hE:Ev s P Q)(f:Fr P s t)(n:t.N=s.N):∀ {l:List Int} {w:Tm} {k:Nat} {u:Tm},Tls s P l w k u->Tls t P l w k u
 |_,_,_,_,.nil=>.nil
 |_,_,_,_,.cons a b=>.cons (Tl.fr hE f n a)<|Tls.fr hE f n b
end
mutual
theorem Tl.up {s:Hp}{P R:Int->Prop}(h:∀x,P x->R x):∀ {a:Int} {k:Nat} {u:Tm},Tl s P a k u->Tl s R a k u
 |_,_,_,.lam ha sp h6 b=>.lam (h _ ha) sp h6<|Tl.up h b
 |_,_,_,.app ha sp h6 b=>.app (h _ ha) sp h6<|Tls.up h b
theorem Tls.up {s:Hp}{P R:Int->Prop}(h:∀x,P x->R x):∀ {l:List Int} {w:Tm} {k:Nat} {u:Tm},Tls s P l w k u->Tls s R l w k u
 |_,_,_,_,.nil=>.nil
 |_,_,_,_,.cons a b=>.cons (Tl.up h a)<|Tls.up h b
end
theorem mA:∀(L:Nat) (l:List Nat),l.Nodup->(∀x∈l,x<L)->l.length<=L
 |0,[],_,_=>r6 _
 |0,x::_,_,h=>absurd (h x r7)<|A1 x
 |L+1,l,hn,h=>by
  by_cases q:L∈l
  .have:=mA L (l.erase L) (hn.erase L) λx hx=>by
    have h1:=(hn.mem_erase_iff).1 hx;have:=h x h1.2;omega
   rw[List.length_erase_of_mem q] at this;omega
  .exact Nat.le_succ_of_le (mA L l hn λx hx=>by have:=h x hx;have:x≠L:=λe=>q (e▸hx);omega)
inductive ChL (s:Hp):Int->List Nat->Int->Prop
 |nil {a:Int}:ChL s a [] a
 |cons {a b:Int} {l:List Nat}:inC s.C a=true->(cellOf s.C a).t=5->ChL s (cellOf s.C a).a l b->ChL s a (a.toNat::l) b
theorem Ch.list {s:Hp}{a b:Int}(c:Ch s a b):∃l,ChL s a l b:=by
 induction c with
 |refl _=>exact⟨[],.nil⟩
 |step h1 h2 _ ih=>obtain⟨l,h⟩:=ih;exact⟨_,.cons h1 h2 h⟩
theorem ChL.det {s:Hp}{e:Int}(h5:(cellOf s.C e).t≠5):∀ {l:List Nat} {a:Int} {m:List Nat},ChL s a l e->ChL s a m e->l=m
 |_,_,_,.nil,.nil=>rfl
 |_,_,_,.nil,.cons _ h _=>absurd h h5
 |_,_,_,.cons _ h _,.nil=>absurd h h5
 |_,_,_,.cons _ _ h,.cons _ _ g=>by rw[ChL.det h5 h g]
theorem ChL.suf {s:Hp}{e:Int}{x:Nat}:∀ {l:List Nat} {a:Int},ChL s a l e->x∈l->(∃m,ChL s (x:Int) m e/\m.length<=l.length)/\x<s.C.length
 |_,_,.nil,h=>by cases h
 |_,_,.cons (a:=a) (l:=l) h1 h2 h3,h=>by
  have h0:=yc.1 h1;rcases rx.1 h with w|w
  .have ea:(x:Int)=a:=za
   exact⟨⟨a.toNat::l,by rw[ea];exact .cons h1 h2 h3,r6 _⟩,za⟩
  .obtain⟨⟨m,m1,m2⟩,m3⟩:=ChL.suf h3 w;exact⟨⟨m,m1,by rw[r5];omega⟩,m3⟩
theorem ChL.nodup {s:Hp}{e:Int}(h5:(cellOf s.C e).t≠5):∀ {l:List Nat} {a:Int},ChL s a l e->l.Nodup
 |_,_,.nil=>.nil
 |_,_,.cons (a:=a) (l:=l) h1 h2 h3=>by
  refine rY.2 ⟨λhm=>?_,ChL.nodup h5 h3⟩;obtain⟨⟨m,m1,m2⟩,_⟩:=ChL.suf h3 hm;have h0:=yc.1 h1;rw[show((a.toNat:Nat):Int)=a by omega] at m1;have:=ChL.det h5 m1<|.cons h1 h2 h3
  rw[this,r5] at m2;omega
theorem ChL.deref {s:Hp}{e:Int}(h5:(cellOf s.C e).t≠5):∀ {l:List Nat} {a:Int} (n:Nat),ChL s a l e->l.length<=n->vk s.C n a=e
 |_,_,0,.nil,_=>rfl
 |_,_,n+1,.nil,_=>by
  rw[vk,oX h5];split<;>rfl
 |_,_,0,.cons _ _ _,h=>absurd h (by rw[r5];omega)
 |_,_,n+1,.cons h1 h2 h3,h=>by
  rw[vk,oV<|by rw[h1];simp,oV λw=>w h2];exact ChL.deref h5 n h3 (by rw[r5] at h;omega)
theorem Ch.end {s:Hp}{a e:Int}(c:Ch s a e)(h5:(cellOf s.C e).t≠5):zX s.C a=e:=by
 obtain⟨l,h⟩:=c.list;have:=mA s.C.length l (h.nodup h5) λx hx=>(h.suf hx).2;exact h.deref h5 _ this
theorem Sp.ch {s:Hp}{a h:Int}{l m:List Int}{k:Nat}(q:Sp s a l h m k):∃e,Ch s a e/\inC s.C e=true/\(cellOf s.C e).t≠5/\(cellOf s.C e).t<9/\Sp s e l h m k:=by
 induction q with
 |@done a l h1 h2 h3 h4 h5 h6=>exact⟨a,.refl _,h1,h3,h2,.done h1 h2 h3 h4 h5 h6⟩
 |ref h1 h2 _ ih=>obtain⟨e,c,r⟩:=ih;exact⟨e,.step h1 h2 c,r⟩
 |@app a h l m k h1 h2 q _=>exact⟨a,.refl _,h1,by rw[h2];decide,by rw[h2];decide,.app h1 h2 q⟩
theorem qj {s:Hp}{a e f:Int}(c:Ch s a e)(h:inC s.C e=true)(h5:(cellOf s.C e).t≠5)(h9:(cellOf s.C e).t<9)(hf:0<f):zt ⟨s,f,0⟩ a=((cellOf s.C e,e),⟨s,f-1,0⟩):=by
 unfold zt;dsimp only;rw[c.end h5,oV<|by rw[h];simp,oV za,oV h5,oV za,oV zb]
theorem bO {s:Hp}(n:Nat)(b:Bool)(f:Int){a e:Int}(l:List Int)(k:Nat)(c1:Ch s a e)(c2:inC s.C e=true)(c3:(cellOf s.C e).t≠5)(c4:(cellOf s.C e).t<9)(k1:(k:Int)<=f)(k2:k<=n)(k3:1<=k):headL n l b a ⟨s,f,0⟩=headL n l b e ⟨s,f,0⟩:=by
 obtain⟨n,rfl⟩:∃j,n=j+1:=⟨n-1,za⟩;have e1:=qj (f:=f) c1 c2 c3 c4 za;have e2:=qj (f:=f) (.refl e) c2 c3 c4 za;rw[headL,headL,e1,e2];simp only[ne_eq,not_true_eq_false,rN]
theorem headL_tl {s:Hp}{a h:Int}{l m:List Int}{k:Nat}(n:Nat)(b:Bool)(f:Int)(q:Sp s a l h m k)(hf:(k:Int)<=f)(hn:k<=n):headL n l b a ⟨s,f,0⟩=⟨m,b,h,⟨s,f-k,0⟩⟩:=by
 induction q generalizing n b f with
 |@done a l h1 h2 h3 h4 h5 h6=>
  obtain⟨n,rfl⟩:∃j,n=j+1:=⟨n-1,za⟩;rw[headL,oV zb,qj (.refl a) h1 h3 h2 za,oV zb,oV h4,oV h5];split
  next q6=>rw[oX<|h6 q6];rfl
  .rfl
 |@ref a h l m k h1 h2 q ih=>
  obtain⟨e,c1,c2,c3,c4,_⟩:=q.ch;have hp:=q.pos;rw[<-ih n b f hf hn,bO n b f l k (.step h1 h2 c1) c2 c3 c4 hf hn hp,bO n b f l k c1 c2 c3 c4 hf hn hp]
 |@app a h l m k h1 h2 q ih=>
  obtain⟨n,rfl⟩:∃j,n=j+1:=⟨n-1,za⟩;have hp:=q.pos;rw[headL,oV zb,qj (.refl a) h1 (by rw[h2];decide) (by rw[h2];decide) za,oV zb,oX h2];dsimp only;rw[ih n b (f-1) za za,show f-1-(k:Int)=f-((k+1:Nat):Int) by omega]
theorem mD {s:Hp}{a h:Int}{m:List Int}{k n:Nat}{f:Int}(q:Sp s a [] h m k)(hf:(k:Int)<=f)(hn:2*f.toNat+2<=n):zK n ⟨s,f,0⟩ a=((h,m),⟨s,f-k,0⟩):=by
 unfold zK vr;rw[headL_tl n false f q hf za];rfl
mutual
theorem Tl.full {s:Hp}{P:Int->Prop}{N:Nat}:∀ {a:Int} {k:Nat} {t:Tm} (n:Nat) (f:Int),Tl s P a k t->(k:Int)<=f->2*f.toNat+2<=N->f.toNat+1<=n->fulR N n ⟨s,f,0⟩ a=(t,⟨s,f-k,0⟩)
 |_,_,_,0,_,_,_,_,h=>absurd h za
 |a,_,_,n+1,f,.lam (h:=h) (k:=k) (j:=j) ha sp h6 b,hf,hN,hn=>by
  have hp:=sp.pos;rw[fulR,mD sp za hN];unfold Zv;dsimp only;rw[oV zb,oX h6,Tl.full n (f-k) b za za za,show f-(k:Int)-(j:Int)=f-((k+j:Nat):Int) by omega]
 |a,_,_,n+1,f,.app (h:=h) (l:=l) (k:=k) (j:=j) ha sp h6 b,hf,hN,hn=>by
  have hp:=sp.pos;rw[fulR,mD sp za hN];unfold Zv;dsimp only;rw[oV zb,oV h6,Tls.full n (f-k) b za za za,show f-(k:Int)-(j:Int)=f-((k+j:Nat):Int) by omega]
theorem Tls.full {s:Hp}{P:Int->Prop}{N:Nat}:∀ {l:List Int} {w:Tm} {k:Nat} {t:Tm} (n:Nat) (f:Int),Tls s P l w k t->(k:Int)<=f->2*f.toNat+2<=N->f.toNat+1<=n->zW (fulR N n) l w ⟨s,f,0⟩=(t,⟨s,f-k,0⟩)
 |_,_,_,_,n,f,.nil,hf,hN,hn=>by rw[zW,show f-((0:Nat):Int)=f by omega]
 |_,_,_,_,n,f,.cons (j:=j) (k:=k) a b,hf,hN,hn=>by
  rw[zW,Tl.full n f a za hN hn];dsimp only;rw[Tls.full n (f-j) b za za za,show f-(j:Int)-(k:Int)=f-((j+k:Nat):Int) by omega]
end
theorem Ev.way {s:Hp}{P Q:Int->Prop}(hE:Ev s P Q){a h:Int}{m:List Int}{K:Nat}(q:Sp s a [] h m K):Ev s (λx=>P x\/∃l k,Pa s a x l k) (λx=>Q x\/∃l k,Pa s a x l k/\l≠[]):=by
 have key:∀ {x:Int} {l:List Int} {k:Nat},Pa s a x l k->inC s.C x=true/\(cellOf s.C x).t<=7/\((cellOf s.C x).t=6->l=[]):=λp=>by
  obtain⟨j,e⟩:=q.at p;cases e with
  |done h1 h2 h3 h4 h5 h6=>exact⟨h1,za,h6⟩
  |ref h1 h2 _=>exact⟨h1,za,λw=>by rw[h2] at w;cases w⟩
  |app h1 h2 _=>exact⟨h1,za,λw=>by rw[h2] at w;cases w⟩
 refine⟨λx hx=>?_,λx hx=>?_⟩
 .rcases hx with hx|⟨l,k,p⟩
  .obtain⟨h1,h2,h3,h4⟩:=hE.r x hx;exact⟨h1,h2,λw=>.inl<|h3 w,λw=>.inl<|h4 w⟩
  .obtain⟨h1,h2,_⟩:=key p;exact⟨h1,h2,λw=>.inr ⟨l,k,p.ref h1 w⟩,λw=>.inr ⟨_,_,p.app h1 w,zb⟩⟩
 .rcases hx with hx|⟨l,k,p,hl⟩
  .obtain⟨h1,h2,h3⟩:=hE.q x hx;exact⟨.inl h1,h2,λw=>.inl<|h3 w⟩
  .obtain⟨h1,h2,h3⟩:=key p;exact⟨.inr ⟨l,k,p⟩,λw=>hl<|h3 w,λw=>.inr ⟨l,k,p.ref h1 w,hl⟩⟩
section
variable {V:Int->Option La}
theorem co {F:Rd->Int->Tm×Rd} {m:Int} (hF:FulM V F m) (hG:∀(P Q:Int->Prop) (r:Rd) (a:Int) (Z:List Gh) (A:La),r.f<=m->MG V r.s Z->NmV r.s.N->(r.e=0->Me V Z a A)->Ev r.s P Q->Fr P r.s (F r a).2.s)
  (hT:∀(P Q:Int->Prop) (r:Rd) (a:Int) (Z:List Gh) (A:La),r.f<=m->MG V r.s Z->NmV r.s.N->(r.e=0->Me V Z a A)->Ev r.s P Q->(F r a).2.e=0->∃P' Q' k,(∀x,P x->P' x)/\Ev (F r a).2.s P' Q'/\Tl (F r a).2.s P' a k (F r a).1/\(k:Int)+(F r a).2.f<=r.f):
  ∀(l:List Int) (t:Tm) (P Q:Int->Prop) (r:Rd) (Z:List Gh) (L:List La),r.f<=m->MG V r.s Z->NmV r.s.N->(r.e=0->All2 (λx X=>Me V Z x X) l L)->Ev r.s P Q->(zW F l t r).2.e=0->∃P' Q' k,(∀x,P x->P' x)/\Ev (zW F l t r).2.s P' Q'/\Tls (zW F l t r).2.s P' l t k (zW F l t r).1/\(k:Int)+(zW F l t r).2.f<=r.f/\Fr P r.s (zW F l t r).2.s/\(zW F l t r).2.s.N=r.s.N
 |[],t,P,Q,r,Z,L,_,_,_,_,hE,_=>⟨P,Q,0,λ_ h=>h,hE,.nil,by show((0:Nat):Int)+r.f<=r.f;omega,Fr.refl hE,rfl⟩
 |x::l,t,P,Q,r,Z,L,hm,h,hN,hk,hE,he=>by
  rw[zW] at he ⊢
  have e0:(F r x).2.e=0/\r.e=0:=by
   by_cases w:r.e=0
   .cases L with
    |nil=>exact(hk w).elim
    |cons X L=>
     obtain⟨⟨E,a1,a2,a4,a3⟩,f2⟩:=hF r x Z X hm h hN λe=>(hk e).1;refine⟨?_,w⟩;by_cases w2:(F r x).2.e=0
     .exact w2
     .exfalso;have ⟨⟨E2,b1,b2,b4,b3⟩,_⟩:UfM V (F r x).2 (Z++E) (zW F l (applyF t [(F r x).1]) (F r x).2).2 (λ_=>Tld V _ _)/\True:=⟨Xc hF l (applyF t [(F r x).1]) (F r x).2 (Z++E) laD [] (sn f2 hm) a1 (by rw[a4];exact hN) λe=>absurd e w2,trivial⟩;exact w2 (b3 he).1
   .exfalso;obtain⟨⟨E,a1,a2,a4,a3⟩,f2⟩:=hF r x Z laD hm h hN λe=>absurd e w;have ⟨⟨E2,b1,b2,b4,b3⟩,_⟩:UfM V (F r x).2 (Z++E) (zW F l (applyF t [(F r x).1]) (F r x).2).2 (λ_=>Tld V _ _)/\True:=⟨Xc hF l (applyF t [(F r x).1]) (F r x).2 (Z++E) laD [] (sn f2 hm) a1 (by rw[a4];exact hN) λe=>absurd (a3 e).1 w,trivial⟩;exact w (a3 (b3 he).1).1
  cases L with
  |nil=>exact(hk e0.2).elim
  |cons X L=>
   obtain⟨⟨E,a1,a2,a4,a3⟩,f2⟩:=hF r x Z X hm h hN λe=>(hk e).1;have g:=hG P Q r x Z X hm h hN (λe=>(hk e).1) hE;obtain⟨P1,Q1,k1,p1,p2,p3,p4⟩:=hT P Q r x Z X hm h hN (λe=>(hk e).1) hE e0.1;obtain⟨P2,Q2,k2,q1,q2,q3,q4,q5,q6⟩:=co hF hG hT l (applyF t [(F r x).1]) P1 Q1 (F r x).2 (Z++E) L (sn f2 hm) a1 (by rw[a4];exact hN) (λe=>yn E (hk e0.2).2) p2 he;exact⟨P2,Q2,k1+k2,λy hy=>q1 y<|p1 y hy,q2,.cons ((p3.fr p2 q5 q6).up q1) q3,za,λy hy=>⟨(q5 y<|p1 y hy).1,(q5 y<|p1 y hy).2.trans (g y hy).2⟩,q6.trans a4⟩
theorem fj (N:Nat):∀(n:Nat) (P Q:Int->Prop) (r:Rd) (a:Int) (Z:List Gh) (A:La),2*r.f.toNat+2<=N->r.f.toNat+1<=n->MG V r.s Z->NmV r.s.N->(r.e=0->Me V Z a A)->Ev r.s P Q->(fulR N n r a).2.e=0->
  ∃P' Q' k,(∀x,P x->P' x)/\Ev (fulR N n r a).2.s P' Q'/\Tl (fulR N n r a).2.s P' a k (fulR N n r a).1/\(k:Int)+(fulR N n r a).2.f<=r.f
 |0,_,_,_,_,_,_,_,hn,_,_,_,_,_=>absurd hn za
 |n+1,P,Q,r,a,Z,A,hN,hn,h,hm,hk,hE,he=>by
  have hd:=YJ N r a Z A hN h hk;have hf:=uE N r a hN;have fr:=iC N r a Z A hN h hk hE;have hs:=ox N r a Z A hN h hk;rw[fulR] at he ⊢;generalize zK N r a=z at*;obtain⟨E,a1,a2,a4,a3⟩:=hd;unfold Zv at he ⊢;split at he
  next q=>exact absurd he q
  .rename_i q;rw[oV q];have q:z.2.e=0:=zo q
   obtain⟨e0,sp⟩:=a3 q;have fz:=hf.2 q;have o1:2*z.2.f.toNat+2<=N:=by clear hs he;omega
   have o2:z.2.f.toNat+1<=n:=by clear hs he;omega
   have hN2:NmV z.2.s.N:=by rw[a4];exact hm
   obtain⟨A',L',w1,w2,w3⟩:=sp.w;obtain⟨k,s1,s2⟩:=hs q;clear hs;have hE2:=(hE.fr fr).way s1;have ha:P a\/∃l k,Pa z.2.s a a l k:=.inr ⟨[],0,.nil⟩;split at he
   next q6=>have he:(fulR N n z.2 (cellOf z.2.s.C z.1.1).a).2.e=0:=he;rw[oX q6];obtain⟨k1,k2⟩:=(a1.at w1.k).x6 q6;have hl:=sp.l q6;rw[show z.1.2=[] from hl] at s1;have f1:=Y2 N n z.2 (cellOf z.2.s.C z.1.1).a (Z++E) _ o1 o2 a1 hN2 (λ_=>.self k1) hE2;obtain⟨F,b1,b2,b4,b3⟩:=jX N n z.2 (cellOf z.2.s.C z.1.1).a (Z++E) _ o1 o2 a1 hN2 λ_=>.self k1;obtain⟨P1,Q1,k3,p1,p2,p3,p4⟩:=fj N n _ _ z.2 (cellOf z.2.s.C z.1.1).a (Z++E) _ o1 o2 a1 hN2 (λ_=>.self k1) hE2 he;obtain⟨c1,c2⟩:=s1.fr hE2 f1 ha;have c3:=(f1 _ c2).2;refine⟨P1,Q1,k+k3,λx hx=>p1 x<|.inl hx,p2,.lam (p1 _ ha) c1 (by rw[c3];exact q6)<|by rw[c3];exact p3,zm⟩
   next q6=>rw[oV q6];have hF:FulM V (fulR N n) z.2.f:=λr2 b Z2 B h1 h2 h3 h4=>⟨jX N n r2 b Z2 B za za h2 h3 h4,Yh N n r2 b za⟩;obtain⟨P1,Q1,k3,p1,p2,p3,p4,p5,p6⟩:=co hF (λP Q r2 b Z2 B h1 h2 h3 h4 h5=>Y2 N n r2 b Z2 B za za h2 h3 h4 h5) (λP Q r2 b Z2 B h1 h2 h3 h4 h5 h6=>fj N n P Q r2 b Z2 B za za h2 h3 h4 h5 h6) z.1.2 (leafR z.2.s z.1.1) _ _ z.2 (Z++E) L' (ru _) a1 hN2 (λ_=>w2) hE2 he;obtain⟨c1,c2⟩:=s1.fr hE2 p5 ha;have c3:=(p5 _ c2).2;exact⟨P1,Q1,k+k3,λx hx=>p1 x<|.inl hx,p2,.app (p1 _ ha) c1 (by rw[c3];exact q6)<|by rw[JC c3 p6];exact p3,za⟩
end
structure Rg (s:Hp)(G:Nat->Int->Prop):Prop where
 u:∀a,G 0 a->inC s.C a=true/\(cellOf s.C a).t<9/\((cellOf s.C a).t=5->G 0 (cellOf s.C a).a)/\((cellOf s.C a).t=6->G 0 (cellOf s.C a).a)/\((cellOf s.C a).t=7->G 1 (cellOf s.C a).a/\G 0 (cellOf s.C a).b)/\((cellOf s.C a).t=8->G 0 (cellOf s.C a).a/\G 2 (cellOf s.C a).b)
 e:∀a,G 0 a->∃e,Ch s a e/\(cellOf s.C e).t≠5
 q:∀a,G 1 a->G 0 a/\(cellOf s.C a).t≠6/\((cellOf s.C a).t=5->G 1 (cellOf s.C a).a)/\((cellOf s.C a).t=8->G 1 (cellOf s.C a).a)
 r:∀a,G 2 a->inC s.C a=true/\((cellOf s.C a).t=9\/(cellOf s.C a).t=10/\G 2 (cellOf s.C a).a)
structure GE (s t:Hp)(G H:Nat->Int->Prop):Prop where
 l:s.C.length<=t.C.length
 up:∀i a,G i a->H i a
 dn:∀i a,inC s.C a=true->H i a->G i a
theorem GE.refl (s:Hp)(G:Nat->Int->Prop):GE s s G G:=⟨r6 _,λ_ _ h=>h,λ_ _ _ h=>h⟩
theorem GE.trans {s t u:Hp}{G H I:Nat->Int->Prop}(h:GE s t G H)(g:GE t u H I):GE s u G I:=⟨rS h.l g.l,λi a q=>g.up i a<|h.up i a q,λi a q w=>h.dn i a q<|g.dn i a (by have:=yc.1 q;have:=h.l;exact yc.2 ⟨za,za⟩) w⟩
structure Rm (s:Hp)(f d:Int):Prop where
 f0:0<=f
 C:(s.C.length:Int)+4*f+d<=s.M
 T:(s.T.length:Int)+4*f+d<=s.L
theorem Rm.le {s:Hp}{f d d':Int}(h:Rm s f d)(hd:d'<=d):Rm s f d':=⟨h.f0,by have:=h.C;omega,by have:=h.T;omega⟩
theorem Rm.less {s:Hp}{f d:Int}(h:Rm s f d)(hf:0<f):Rm s (f-1) (d+4):=⟨za,by have:=h.C;omega,by have:=h.T;omega⟩
section
variable {s:Hp} {G:Nat->Int->Prop}
theorem Rg.isT (h:Rg s G){a:Int}(ha:G 0 a):Go.AM.isT s.C a=true:=by
 obtain⟨h1,h2,_⟩:=h.u a ha;unfold Go.AM.isT rowB;rw[h1];simp;omega
theorem Rg.isR (h:Rg s G){a:Int}(ha:G 2 a):Go.AM.isR s.C a=true:=by
 obtain⟨h1,h2⟩:=h.r a ha;unfold Go.AM.isR rowB;rw[h1];simp;omega
theorem Rg.end (h:Rg s G){a:Int}(ha:G 0 a):∃e,Ch s a e/\inC s.C e=true/\(cellOf s.C e).t≠5/\(cellOf s.C e).t<9/\G 0 e/\(G 1 a->G 1 e):=by
 obtain⟨e,c,h5⟩:=h.e a ha
 have key:G 0 e/\(G 1 a->G 1 e):=by
  clear h5
  induction c with
  |refl _=>exact⟨ha,id⟩
  |step _ h2 _ ih=>
   obtain⟨i1,i2⟩:=ih<|(h.u _ ha).2.2.1 h2
   exact⟨i1,λq=>i2<|(h.q _ q).2.2.1 h2⟩
 obtain⟨u1,u2,_⟩:=h.u e key.1;exact⟨e,c,u1,h5,u2,key⟩
theorem Rg.put (h:Rg s G)(c:Cel)(K:Nat->Prop)(k0:K 0->c.t<9/\c.t≠5/\(c.t=6->G 0 c.a)/\(c.t=7->G 1 c.a/\G 0 c.b)/\(c.t=8->G 0 c.a/\G 2 c.b))(k1:K 1->K 0/\c.t≠6/\(c.t=8->G 1 c.a))(k2:K 2->c.t=9\/c.t=10/\G 2 c.a):
  Rg {s with C:=s.C++[c]} (λi x=>G i x\/x=(s.C.length:Int)/\K i):=by
 have kp:Keep (λ_=>True) s {s with C:=s.C++[c]}:=⟨zb,λi c' e _=>by
  dsimp only;rw[sC<|by rcases Nat.lt_or_ge i s.C.length with q|q;exact q;rw[ss q] at e;cases e];exact e⟩
 obtain⟨n1,n2⟩:=uZ s.C c;refine⟨λa ha=>?_,λa ha=>?_,λa ha=>?_,λa ha=>?_⟩
 .rcases ha with ha|⟨rfl,hk⟩
  .obtain⟨u1,u2,u3,u4,u5,u6⟩:=h.u a ha;obtain⟨c1,c2⟩:=kp.cell u1 trivial;rw[c2];exact⟨c1,u2,λw=>.inl<|u3 w,λw=>.inl<|u4 w,λw=>⟨.inl (u5 w).1,.inl (u5 w).2⟩,λw=>⟨.inl (u6 w).1,.inl (u6 w).2⟩⟩
  .obtain⟨u2,u3,u4,u5,u6⟩:=k0 hk;dsimp only;rw[n2];exact⟨n1,u2,λw=>absurd w u3,λw=>.inl<|u4 w,λw=>⟨.inl (u5 w).1,.inl (u5 w).2⟩,λw=>⟨.inl (u6 w).1,.inl (u6 w).2⟩⟩
 .rcases ha with ha|⟨rfl,hk⟩
  .obtain⟨e,c0,i1,h5,_⟩:=h.end ha;exact⟨e,c0.ns ⟨kp.1,λi c' e _=>kp.2 i c' e trivial⟩,by rw[(kp.cell i1 trivial).2];exact h5⟩
  .exact⟨_,.refl _,by dsimp only;rw[n2];exact(k0 hk).2.1⟩
 .rcases ha with ha|⟨rfl,hk⟩
  .obtain⟨q1,q2,q3,q4⟩:=h.q a ha;obtain⟨c1,c2⟩:=kp.cell (h.u a q1).1 trivial;rw[c2];exact⟨.inl q1,q2,λw=>.inl<|q3 w,λw=>.inl<|q4 w⟩
  .obtain⟨q1,q2,q4⟩:=k1 hk;dsimp only;rw[n2];exact⟨.inr ⟨rfl,q1⟩,q2,λw=>absurd w (k0 q1).2.1,λw=>.inl<|q4 w⟩
 .rcases ha with ha|⟨rfl,hk⟩
  .obtain⟨r1,r2⟩:=h.r a ha;obtain⟨c1,c2⟩:=kp.cell r1 trivial;rw[c2];exact⟨c1,r2.imp id λw=>⟨w.1,.inl w.2⟩⟩
  .dsimp only;rw[n2];exact⟨n1,(k2 hk).imp id λw=>⟨w.1,.inl w.2⟩⟩
theorem Rg.set (h:Rg s G){x b:Int}(h0:G 0 x)(hb:G 0 b)(nb:b≠x)(b5:(cellOf s.C b).t≠5)(hq:G 1 x->G 1 b){t:Hp}(hx:inC t.C x=true/\cellOf t.C x=⟨5,b,0,0,0⟩)(ho:∀y,y≠x->inC s.C y=true->inC t.C y=true/\cellOf t.C y=cellOf s.C y):Rg t G:=by
 have bc:=ho b nb (h.u b hb).1;refine⟨λa ha=>?_,λa ha=>?_,λa ha=>?_,λa ha=>?_⟩
 .by_cases e:a=x
  .rw[e,hx.2];exact⟨hx.1,by show(5:Int)<9;decide,λ_=>hb,λw=>absurd w<|by show¬(5:Int)=6;decide,λw=>absurd w<|by show¬(5:Int)=7;decide,λw=>absurd w<|by show¬(5:Int)=8;decide⟩
  .obtain⟨u1,u2⟩:=h.u a ha;obtain⟨c1,c2⟩:=ho a e u1;rw[c2];exact⟨c1,u2⟩
 .obtain⟨e,c,i1,h5, -, -, -⟩:=h.end ha
  have key:Ch t a x\/Ch t a e:=by
   clear ha h5 i1
   induction c with
   |refl _=>exact .inr<|.refl _
   |@step y z h1 h2 _ ih=>
    by_cases w:y=x
    .rw[w];exact .inl<|.refl _
    .obtain⟨c1,c2⟩:=ho y w h1;exact ih.imp (λk=>.step c1 (by rw[c2];exact h2)<|by rw[c2];exact k) λk=>.step c1 (by rw[c2];exact h2) (by rw[c2];exact k)
  have fin:Ch t a x->∃e,Ch t a e/\(cellOf t.C e).t≠5:=λk=>⟨b,k.trans<|.step hx.1 (by rw[hx.2])<|by rw[hx.2];exact .refl _,by rw[bc.2];exact b5⟩;rcases key with k|k
  .exact fin k
  .by_cases w:e=x
   .exact fin<|w▸k
   .exact⟨e,k,by rw[(ho e w i1).2];exact h5⟩
 .obtain⟨q1,q2,q3,q4⟩:=h.q a ha;by_cases e:a=x
  .rw[e,hx.2];exact⟨h0,by show¬(5:Int)=6;decide,λ_=>hq<|e▸ha,λw=>absurd w<|by show¬(5:Int)=8;decide⟩
  .obtain⟨c1,c2⟩:=ho a e (h.u a q1).1;rw[c2];exact⟨q1,q2,q3,q4⟩
 .obtain⟨r1,r2⟩:=h.r a ha;obtain⟨c1,c2⟩:=ho a (λw=>by have:=(h.u x h0).2.1;rw[w] at r2;omega) r1;rw[c2];exact⟨c1,r2⟩
end
def Ng (s:Hp)(G:Nat->Int->Prop)(r':Rd)(d:Int)(P:(Nat->Int->Prop)->Prop):Prop:=(r'.e=0\/r'.e=80)/\(r'.e=0->∃H,GE s r'.s G H/\Rg r'.s H/\Rm r'.s r'.f d/\P H)
theorem JO {r:Rd}{G:Nat->Int->Prop}{d:Int}(e:r.e=0)(h:Rg r.s G)(hm:Rm r.s r.f<|d+1)(d0:0<=d)(c:Cel)(K:Nat->Prop)(hf:yC r.s c=true)(k0:K 0->c.t<9/\c.t≠5/\(c.t=6->G 0 c.a)/\(c.t=7->G 1 c.a/\G 0 c.b)/\(c.t=8->G 0 c.a/\G 2 c.b))(k1:K 1->K 0/\c.t≠6/\(c.t=8->G 1 c.a))(k2:K 2->c.t=9\/c.t=10/\G 2 c.a):
  (putR r c).2.e=0/\∃H,GE r.s (putR r c).2.s G H/\Rg (putR r c).2.s H/\Rm (putR r c).2.s (putR r c).2.f d/\(∀i,K i->H i (putR r c).1)/\cellOf (putR r c).2.s.C (putR r c).1=c:=by
 have hC:=hm.C;have f0:=hm.f0
 have e1:putR r c=((r.s.C.length:Int),⟨{r.s with C:=r.s.C++[c]},r.f,0⟩):=by
  unfold putR putS;rw[oX e,oV<|by rw[hf];simp,oV za]
 rw[e1];refine⟨rfl,_,⟨zb,λi a q=>.inl q,λi a hi q=>q.resolve_right λw=>by have:=(yc.1 hi).2;omega⟩,h.put c K k0 k1 k2,⟨f0,by simp only[re,rD];omega,by have:=hm.T;dsimp only;omega⟩,λi q=>.inr ⟨rfl,q⟩,(uZ _ _).2⟩
theorem keep_g {r:Rd}{G:Nat->Int->Prop}{d:Int}(e:r.e=0)(h:Rg r.s G)(hm:Rm r.s r.f<|d+1)(d0:0<=d){x b:Int}(hx:G 0 x)(hb:G 0 b)(b5:(cellOf r.s.C b).t≠5)(hq:G 1 x->G 1 b):
  (zI r x b).e=0/\Rg (zI r x b).s G/\Rm (zI r x b).s (zI r x b).f d:=by
 by_cases nb:x=b
 .have:zI r x b=r:=by unfold zI;rw[oV λw=>w.2 nb]
  rw[this];exact⟨e,h,hm.le za⟩
 have hT:=hm.T;have f0:=hm.f0;have hin:=(h.u x hx).1;have hf:yC r.s ⟨5,b,0,0,0⟩=true:=by unfold yC;simp[h.isT hb]
 have hrow:rowB (cellOf r.s.C x)=false:=by have:=h.isT hx;unfold Go.AM.isT at this;rw[hin,sr] at this;exact zo this
 have e1:zI r x b=⟨{r.s with C:=r.s.C.set x.toNat ⟨5,b,0,0,0⟩,T:=r.s.T++[⟨x,cellOf r.s.C x,topS r.s.T x⟩]},r.f,0⟩:=by
  unfold zI setS;rw[oX ⟨e,nb⟩,oV<|by rw[hin];simp,oV<|by rw[hf];simp,oV<|by rw[hrow];simp[rowB],oV za]
 have ho:∀y,y≠x->inC r.s.C y=true->inC (zI r x b).s.C y=true/\cellOf (zI r x b).s.C y=cellOf r.s.C y:=λy hy hi=>X7 hy hi;have hi:=yc.1 hin
 have hxx:inC (zI r x b).s.C x=true/\cellOf (zI r x b).s.C x=⟨5,b,0,0,0⟩:=by
  rw[e1];have hin:inC (r.s.C.set x.toNat ⟨5,b,0,0,0⟩) x=true:=yc.2 ⟨hi.1,by simp only[rU];exact hi.2⟩;refine⟨hin,?_⟩;have:=xQ hin;rw[List.getElem?_set_self za] at this;injection this with this
  exact this.symm
 refine⟨by rw[e1],h.set hx hb (λw=>nb w.symm) b5 hq hxx ho,?_⟩;rw[e1];exact⟨f0,by have:=hm.C;simp only[rU];omega,by simp only[re,rD];omega⟩
theorem mw {r:Rd}(x b:Int)(G:Nat->Int->Prop):GE r.s (zI r x b).s G G:=by
 refine⟨?_,λ_ _ h=>h,λ_ _ _ h=>h⟩;unfold zI;split
 .exact(cp r.s x _).2.2.2
 .exact r6 _
theorem visit_er {r:Rd}(a:Int)(e:r.e≠0):(zt r a).2.e=r.e:=by
 have fl:∀x:Int,(yl r x).e=r.e:=λx=>by unfold yl;rw[oV e]
 unfold zt;split
 .exact fl 1
 .split
  .exact fl 1
  .split
   .exact fl 1
   .split
    .exact fl 80
    .first|rfl|rw[oX e]
theorem fC {r:Rd}{G:Nat->Int->Prop}{d:Int}(e:r.e=0)(h:Rg r.s G)(hm:Rm r.s r.f d){a:Int}(ha:G 0 a):(zt r a).2.e=80\/(zt r a).2.e=0/\(zt r a).2.s=r.s/\Rm r.s (zt r a).2.f (d+4)/\G 0 (zt r a).1.2/\(G 1 a->G 1 (zt r a).1.2)/\(zt r a).1.1=cellOf r.s.C (zt r a).1.2/\(zt r a).1.1.t≠5/\inC r.s.C (zt r a).1.2=true:=by
 obtain⟨s,f,e'⟩:=r;have e:e'=0:=e;subst e;obtain⟨x,c,i1,h5,h9,g0,g1⟩:=h.end ha;by_cases hf:0<f
 .right;rw[qj c i1 h5 h9 hf];exact⟨rfl,rfl,hm.less hf,g0,g1,rfl,h5,i1⟩
 .left;unfold zt;dsimp only;dsimp only at c i1 h5 h9;rw[c.end h5,oV<|by rw[i1];simp,oV za,oV h5,oX za];rfl
theorem iO {s:Hp}{G:Nat->Int->Prop}(h:Rg s G):∀(n:Nat) (r:Rd) (row j:Int),r.s=s->r.e=0->0<=r.f->G 2 row->r.f.toNat+1<=n->((zR n r row j).2.e=0\/(zR n r row j).2.e=80/\(zR n r row j).1.2=false)/\(zR n r row j).2.s=s/\0<=(zR n r row j).2.f/\(zR n r row j).2.f<=r.f/\((zR n r row j).1.2=true->(zR n r row j).1.1.t=10)
 |0,_,_,_,_,_,_,_,hn=>absurd hn za
 |n+1,r,row,j,es,e,f0,hr,hn=>by
  obtain⟨r1,r2⟩:=h.r row hr;rw[zR,es,oV<|by rw[r1];simp,oV za];have fl:(yl r 80).e=80:=by unfold yl;rw[oX e]
  split
  .exact⟨.inl e,es,f0,ru _,(λw=>by cases w)⟩
  .rename_i q9;have q10:=r2.resolve_left q9;split
   .exact⟨.inl e,es,f0,ru _,λ_=>q10.1⟩
   .split
    .exact⟨.inr ⟨fl,rfl⟩,es,f0,ru _,(λw=>by cases w)⟩
    next qf=>obtain⟨i1,i2,i3,i4,i5⟩:=iO h n ⟨s,r.f-1,r.e⟩ (cellOf s.C row).a (wr<|j-1) rfl e zm q10.2 zm;exact⟨i1,i2,i3,by dsimp only at i4;omega,i5⟩
section
variable {V:Int->Option La}
theorem bnd_g {r:Rd}{G:Nat->Int->Prop}{d:Int}(e:r.e=0)(h:Rg r.s G)(hm:Rm r.s r.f<|d+1)(d0:0<=d)(x:Int)(hx:0<=x):Ng r.s G (putR r ⟨3,x,0,0,0⟩).2 d (λH=>H 0 (putR r ⟨3,x,0,0,0⟩).1/\H 1 (putR r ⟨3,x,0,0,0⟩).1/\(cellOf (putR r ⟨3,x,0,0,0⟩).2.s.C (putR r ⟨3,x,0,0,0⟩).1).t=3):=by
 have no:∀ {m:Int} {P:Prop},m≠3->(3:Int)=m->P:=λh e=>absurd e.symm h;obtain⟨p1,H,p2,p3,p4,p5,p6⟩:=JO e h hm d0 ⟨3,x,0,0,0⟩ (λi=>i<=1) (by unfold yC;exact zo hx) (λ_=>⟨by show(3:Int)<9;decide,by show¬(3:Int)=5;decide,no zc,no zc,no zc⟩) (λ_=>⟨zc,by show¬(3:Int)=6;decide,no zc⟩) (λw=>absurd w zc);exact⟨.inl p1,λ_=>⟨H,p2,p3,p4,p5 0 zc,p5 1 zc,by rw[p6]⟩⟩
theorem los_g (n:Nat){r:Rd}{Z:List Gh}(h:MG V r.s Z)(s:Cel)(j:Int){E:List Ent}{D:Nat}(hn:r.f.toNat+1<=n)(hs:ScM Z (r.s.C.length:Int) s E D)(j0:0<=j)(j1:j<=(r.s.C.length:Int)*2097152){G:Nat->Int->Prop}{d:Int}(e:r.e=0)(hg:Rg r.s G)(hm:Rm r.s r.f<|d+1)(d0:0<=d)(hr:G 2 s.b):
  Ng r.s G (losR n r s j).2 d (λH=>H 0 (losR n r s j).1/\H 1 (losR n r s j).1/\(cellOf (losR n r s j).2.s.C (losR n r s j).1).t=3):=by
 have hC:=h.ok.C;obtain⟨kr,er,ec,ed,c1,d1,hw⟩:=hs
 have ew:wr (wr (j-s.c)+s.d)=j-s.c+s.d:=by
  rw[uK (x:=j-s.c) za za,uK za za]
 unfold losR;rw[ew];split
 .rename_i qc;have en:=fT h n r s.b j.toNat rfl hn kr za;have eg:=iO hg n r s.b j rfl e hm.f0 hr hn;rw[show((j.toNat:Nat):Int)=j by omega] at en;generalize zR n r s.b j=z at*;obtain⟨⟨c,b⟩,r1⟩:=z;obtain⟨e1,e2,e3,e4⟩:=en;obtain⟨g1,g2,g3,g4,g5⟩:=eg;dsimp only at e1 e2 e3 e4 g1 g2 g3 g4 g5 ⊢;rcases g1 with g1|⟨g1,g6⟩
  .have hm1:Rm r1.s r1.f (d+1):=⟨g3,by rw[e1];have:=hm.C;omega,by rw[e1];have:=hm.T;omega⟩;have hg1:Rg r1.s G:=by rw[e1];exact hg
   split
   .rename_i q;obtain⟨b,hb,eb,rb,t10⟩:=e3 q;have ck:=h.at hb;rw[<-eb] at ck t10;rw[er] at rb;have hl:j.toNat<E.length:=za
    have hd:rat Z b=E[j.toNat]::E.drop (j.toNat+1):=by rw[rb,tI hl]
    have hm:E[j.toNat]∈E:=td hl;rw[oX<|g5 q];obtain⟨_,m2,m3⟩:=ck.x10<|g5 q
    have m3:rat Z b=_:=m3;rw[hd] at m3;injection m3 with m3 _
    have hx:=hw _ hm;rw[m3] at hx;have hx:c.b.toNat<D:=hx;rw[uK (x:=s.d-1) za za,uK za za];have:=bnd_g g1 hg1 hm1 d0 (s.d-1-c.b) za;rw[e1] at this;exact this
   next q=>have:=e4 (zo q) g1;rw[er] at this;omega
  .rw[oV<|by rw[g6];simp];have:putR r1 ⟨3,j-s.c+s.d,0,0,0⟩=(0,r1):=by unfold putR;rw[oV<|by rw[g1];decide]
   rw[this];exact⟨.inr g1,λw=>by rw[g1] at w;cases w⟩
 .exact bnd_g e hg hm d0 _ za
theorem wit_g {r:Rd}{Z:List Gh}(h:MG V r.s Z)(s:Cel)(a row more:Int)(hn:(0<=s.c/\s.c<=1048576)/\(0<=s.d/\s.d<=1048576))(hm1:more=0\/more=1){G:Nat->Int->Prop}{d:Int}(e:r.e=0)(hg:Rg r.s G)(hm:Rm r.s r.f<|d+1)(d0:0<=d)(ha:G 0 a)(hr:G 2 row):
  (zY r s a row more).2.e=0/\∃H,GE r.s (zY r s a row more).2.s G H/\Rg (zY r s a row more).2.s H/\Rm (zY r s a row more).2.s (zY r s a row more).2.f d/\H 0 (zY r s a row more).1/\(G 1 a->H 1 (zY r s a row more).1):=by
 unfold zY;have no:∀ {m:Int} {P:Prop},m≠8->(8:Int)=m->P:=λh e=>absurd e.symm h
 have fits:yC r.s ⟨8,a,row,wr<|s.c+more,wr<|s.d+more⟩=true:=by
  rw[uK (x:=s.c+more) za za,uK (x:=s.d+more) za za];unfold yC;simp only[Int.reduceEq,rN,rG,hg.isT ha,hg.isR hr,sr,ti,oZ,rL];omega
 obtain⟨p1,H,p2,p3,p4,p5,p6⟩:=JO e hg hm d0 ⟨8,a,row,wr<|s.c+more,wr<|s.d+more⟩ (λi=>i=0\/i=1/\G 1 a) fits (λ_=>⟨by show(8:Int)<9;decide,by show¬(8:Int)=5;decide,no zc,no zc,λ_=>⟨ha,hr⟩⟩) (λw=>⟨.inl rfl,by show¬(8:Int)=6;decide,λ_=>(w.resolve_left zc).2⟩) (λw=>absurd w zb);exact⟨p1,H,p2,p3,p4,p5 0<|.inl rfl,λq=>p5 1<|.inr ⟨rfl,q⟩⟩
theorem lam_g {r:Rd}{Z:List Gh}(h:MG V r.s Z)(s:Cel)(b:Int){E:List Ent}{D:Nat}(hs:ScM Z (r.s.C.length:Int) s E D){B:La}(hb:Me V Z b B){G:Nat->Int->Prop}{d:Int}(e:r.e=0)(hg:Rg r.s G)(hm:Rm r.s r.f<|d+3)(d0:0<=d)(g0:G 0 b)(hr:G 2 s.b):
  Ng r.s G (lamR r s b).2 d (λH=>H 0 (lamR r s b).1/\(cellOf (lamR r s b).2.s.C (lamR r s b).1).t=6):=by
 have hC:=h.ok.C;obtain⟨kr,er,ec,ed,c1,d1,hw⟩:=hs;unfold lamR;have no:∀ {m:Int} {P:Prop},m≠10->(10:Int)=m->P:=λh e=>absurd e.symm h;have no6:∀ {m:Int} {P:Prop},m≠6->(6:Int)=m->P:=λh e=>absurd e.symm h;obtain⟨p1,H,p2,p3,p4,p5,p6⟩:=JO e hg (d:=d+2) (hm.le za) za ⟨10,s.b,s.d,0,0⟩ (λi=>i=2) (by unfold yC;simp[hg.isR hr];omega) (λw=>by cases w) (λw=>by cases w) λ_=>.inr ⟨rfl,hr⟩;have dm:=dum_m h s.b s.d (E:=E) (D:=D) λ_=>⟨kr,er,ed,d1⟩;generalize putR r ⟨10,s.b,s.d,0,0⟩=z at*;obtain⟨F,a1,_⟩:=dm;obtain⟨q1,I,q2,q3,q4,q5,_⟩:=wit_g a1 s b z.1 1 za (.inr rfl) p1 p3 (d:=d+1) (p4.le za) za (p2.up 0 _ g0)<|p5 2 rfl
 generalize zY z.2 s b z.1 1=y at*;obtain⟨t1,J,t2,t3,t4,t5,t6⟩:=JO q1 q3 (d:=d) q4 d0 ⟨6,y.1,0,0,0⟩ (λi=>i=0) (by unfold yC;simp[q3.isT q5]) (λ_=>⟨by show(6:Int)<9;decide,by show¬(6:Int)=5;decide,λ_=>q5,no6 zc,no6 zc⟩) (λw=>by cases w) (λw=>by cases w);exact⟨.inl t1,λ_=>⟨J,(p2.trans q2).trans t2,t3,t4,t5 0 rfl,by rw[t6]⟩⟩
theorem app_g {r:Rd}{Z:List Gh}(h:MG V r.s Z)(s:Cel)(f x:Int){E:List Ent}{D:Nat}(hs:ScM Z (r.s.C.length:Int) s E D){A:La}(hf:Me V Z f A){G:Nat->Int->Prop}{d:Int}(e:r.e=0)(hg:Rg r.s G)(hm:Rm r.s r.f<|d+3)(d0:0<=d)(gf:G 1 f)(gx:G 0 x)(hr:G 2 s.b):
  Ng r.s G (appR r s f x).2 d (λH=>H 0 (appR r s f x).1/\H 1 (appR r s f x).1/\(cellOf (appR r s f x).2.s.C (appR r s f x).1).t=7):=by
 have hC:=h.ok.C;have hs2:=hs;obtain⟨kr,er,ec,ed,c1,d1,hw⟩:=hs;unfold appR;have no7:∀ {m:Int} {P:Prop},m≠7->(7:Int)=m->P:=λh e=>absurd e.symm h;obtain⟨p1,H,p2,p3,p4,p5,p6⟩:=wit_g h s f s.b 0 za (.inl rfl) e hg (d:=d+2) (hm.le za) za (hg.q f gf).1 hr
 have a1:∃F,MG V (zY r s f s.b 0).2.s (Z++F):=by
  unfold zY;rw[uK (x:=s.c+0) za za,uK (x:=s.d+0) za za,tu,tu];obtain⟨F,a,_⟩:=W6 h f s.b s.c s.d (A:=A) (E:=E) (D:=D) λe=>⟨hf,kr,er,ec,ed,c1,d1,hw⟩;exact⟨F,a⟩
 generalize zY r s f s.b 0=z at*;obtain⟨F,a1⟩:=a1;obtain⟨q1,I,q2,q3,q4,q5,_⟩:=wit_g a1 s x s.b 0 za (.inl rfl) p1 p3 (d:=d+1) (p4.le za) za (p2.up 0 _ gx)<|p2.up 2 _ hr
 generalize zY z.2 s x s.b 0=y at*;have gz:=q2.up 1 _<|p6 gf
 obtain⟨t1,J,t2,t3,t4,t5,t6⟩:=JO q1 q3 (d:=d) q4 d0 ⟨7,z.1,y.1,0,0⟩ (λi=>i<=1) (by unfold yC;simp[q3.isT q5,q3.isT (q3.q _ gz).1]) (λ_=>⟨by show(7:Int)<9;decide,by show¬(7:Int)=5;decide,no7 zc,λ_=>⟨gz,q5⟩,no7 zc⟩) (λ_=>⟨zc,by show¬(7:Int)=6;decide,no7 zc⟩) (λw=>absurd w zc);exact⟨.inl t1,λ_=>⟨J,(p2.trans q2).trans t2,t3,t4,t5 0 zc,t5 1 zc,by rw[t6]⟩⟩
def Vg (s:Hp)(B:Prop)(x:Int)(H:Nat->Int->Prop):Prop:=H 0 x/\(B->H 1 x)/\(cellOf s.C x).t≠5/\(cellOf s.C x).t≠8
theorem level_g (n:Nat){r:Rd}{Z:List Gh}(h:MG V r.s Z)(x:Cel×Int)(s:Cel){A:La}{E:List Ent}{D:Nat}(hn:r.f.toNat+1<=n)(hs:ScM Z (r.s.C.length:Int) s E D)(hx:VisM V Z r.s.C x A)(n8:x.1.t≠8){G:Nat->Int->Prop}{d:Int}{B:Prop}(e:r.e=0)(hg:Rg r.s G)(hm:Rm r.s r.f<|d+3)(d0:0<=d)(g0:G 0 x.2)(g1:B->G 1 x.2)(hr:G 2 s.b):
  Ng r.s G (xS n x.1 x.2 r s).2 d (λH=>Vg (xS n x.1 x.2 r s).2.s B (xS n x.1 x.2 r s).1 H):=by
 obtain⟨c,t⟩:=x;obtain⟨hi,hc,hmm,n5,n9⟩:=hx;dsimp only at*;have ck:=h.at hmm.k;rw[<-hc] at ck;obtain⟨_,_,u5,u6,u7,u8⟩:=hg.u t g0;rw[<-hc] at u6 u7;unfold xS;split
 next q=>obtain⟨⟨b0,b2⟩,b1⟩:=ck.x3 q;have hl:=hmm.k.p1;rw[h.len] at hl;obtain⟨l1,l2⟩:=los_g n h s c.a hn hs b0 za e hg (hm.le za) d0 hr;exact⟨l1,λw=>by obtain⟨H,a1,a2,a3,a4,a5,a6⟩:=l2 w;exact⟨H,a1,a2,a3,a4,λ_=>a5,by rw[a6];decide,by rw[a6];decide⟩⟩
 .rename_i q3;split
  next q=>obtain⟨k1,k2⟩:=ck.x6 q;obtain⟨l1,l2⟩:=lam_g h s c.a hs (.self k1) e hg hm d0 (u6 q) hr;exact⟨l1,λw=>by obtain⟨H,a1,a2,a3,a4,a6⟩:=l2 w;exact⟨H,a1,a2,a3,a4,λw=>absurd q<|by rw[hc];exact(hg.q _<|g1 w).2.1,by rw[a6];decide,by rw[a6];decide⟩⟩
  .rename_i q6;split
   next q=>obtain⟨k1,k2,k3⟩:=ck.x7 q;obtain⟨l1,l2⟩:=app_g h s c.a c.b hs (.self k1) e hg hm d0 (u7 q).1 (u7 q).2 hr;exact⟨l1,λw=>by obtain⟨H,a1,a2,a3,a4,a5,a6⟩:=l2 w;exact⟨H,a1,a2,a3,a4,λ_=>a5,by rw[a6];decide,by rw[a6];decide⟩⟩
   .exact⟨.inl e,λ_=>⟨G,.refl _ G,hg,hm.le za,g0,g1,by dsimp only;rw[<-hc];exact n5,by dsimp only;rw[<-hc];exact n8⟩⟩
def Wg (s:Hp)(G:Nat->Int->Prop)(a:Int)(x:Cel×Int)(H:Nat->Int->Prop):Prop:=H 0 x.2/\(G 1 a->H 1 x.2)/\x.1=cellOf s.C x.2/\x.1.t≠5/\x.1.t≠8
mutual
theorem open_g:∀(n:Nat) (r:Rd) (s:Cel) (Z:List Gh) (A:La) (E:List Ent) (D:Nat) (G:Nat->Int->Prop) (d:Int),2*r.f.toNat+2<=n->MG V r.s Z->ScM Z (r.s.C.length:Int) s E D->Me V Z s.a A->r.e=0->Rg r.s G->Rm r.s r.f d->0<=d->G 0 s.a->G 2 s.b->
  Ng r.s G (zA n r s).2 d λH=>Vg (zA n r s).2.s (G 1 s.a) (zA n r s).1 H
 |0,_,_,_,_,_,_,_,_,hn,_,_,_,_,_,_,_,_,_=>absurd hn za
 |n+1,r,s,Z,A,E,D,G,d,hn,h,hs,ha,e,hg,hm,d0,g0,hr=>by
  rw[zA];have vs:=wj r s.a;have vf:=xr r s.a;have vu:=λe=>ut h (a:=s.a) (A:=A) (λ_=>ha) e;have vg:=fC e hg hm g0;generalize zt r s.a=u at*;rcases vg with v1|⟨v1,v2,v3,v4,v5,v6,v7,v8⟩
  .have eu:yA n u=u:=by
    cases n with
    |zero=>rfl
    |succ n=>rw[yA,oV<|by rw[v1];simp]
   rw[eu];unfold vv;rw[oX<|by rw[v1];decide];exact⟨.inr v1,λw=>by rw[v1] at w;cases w⟩
  .have g:MG V u.2.s Z:=by rw[vs];exact h
   have hx:VisM V Z u.2.s.C u.1 A:=by rw[vs];exact(vu v1).2
   have fu:=vf.2 v1;obtain⟨F,a1,a2,a4,a3⟩:=lA n u Z A (λe=>za) g λ_=>hx;obtain⟨s1,s2⟩:=spin_g n u Z A G d za g hx v1 (by rw[vs];exact hg) (by rw[vs];exact v3) d0 v4;have sf:=bo n u;generalize yA n u=w at*;unfold vv;split
   next q=>have:=s1.resolve_left q;exact⟨.inr this,λw=>by dsimp only at w;rw[this] at w;cases w⟩
   .rename_i q;have q:w.2.e=0:=zo q
    obtain⟨H,b1,b2,b3,b4,b5,b6,b7,b8⟩:=s2 q;rw[vs] at b1;split
    .exact⟨.inl q,λ_=>⟨H,b1,b2,b3.le za,b4,λw=>b5<|v5 w,by dsimp only;rw[<-b6];exact b7,by dsimp only;rw[<-b6];exact b8⟩⟩
    .obtain⟨l1,l2⟩:=level_g (n+1) a1 w.1 s (B:=G 1 s.a) (d:=d) za (hs.app F<|by rw[vs] at a2;exact Int.ofNat_le.2 a2.1) (a3 q).2.1 (a3 q).2.2 q b2 (b3.le za) d0 b4 (λw=>b5<|v5 w)<|b1.up 2 _ hr
     exact⟨l1,λw=>by obtain⟨I,c1,c2,c3,c4⟩:=l2 w;exact⟨I,b1.trans c1,c2,c3,c4⟩⟩
theorem spin_g:∀(n:Nat) (u:(Cel×Int)×Rd) (Z:List Gh) (A:La) (G:Nat->Int->Prop) (d:Int),2*u.2.f.toNat+3<=n->MG V u.2.s Z->VisM V Z u.2.s.C u.1 A->u.2.e=0->Rg u.2.s G->Rm u.2.s u.2.f (d+4)->0<=d->G 0 u.1.2->
  Ng u.2.s G (yA n u).2 (d+4) λH=>Wg (yA n u).2.s G u.1.2 (yA n u).1 H
 |0,_,_,_,_,_,hn,_,_,_,_,_,_,_=>absurd hn za
 |n+1,u,Z,A,G,d,hn,h,hx,e,hg,hm,d0,g0=>by
  rw[yA];split
  .rename_i q;have ck:=h.at hx.m.k;rw[<-hx.c] at ck;obtain⟨s1,s2,⟨s3,s4,s5,s6,s7⟩,s8⟩:=ck.x8 q.2;obtain⟨_,_,_,_,_,u8⟩:=hg.u _ g0;rw[<-hx.c] at u8;have op:=YX n u.2 u.1.1 Z (mat Z u.1.1.a) (rat Z u.1.1.b) u.1.1.d.toNat za h ⟨s2,rfl,s3,za,s5,s6,s7⟩<|.self s1
   obtain⟨o1,o2⟩:=open_g n u.2 u.1.1 Z (mat Z u.1.1.a) (rat Z u.1.1.b) u.1.1.d.toNat G (d+4) za h ⟨s2,rfl,s3,za,s5,s6,s7⟩ (.self s1) e hg hm za (u8 q.2).1 (u8 q.2).2;have of:=kI n u.2 u.1.1;have q1:G 1 u.1.2->G 1 u.1.1.a:=λw=>by rw[hx.c];exact(hg.q _ w).2.2.2 (by rw[<-hx.c];exact q.2)
   generalize zA n u.2 u.1.1=z at*;obtain⟨E,a1,a2,a4,a3⟩:=op;by_cases ez:z.2.e=0
   .obtain⟨H,b1,b2,b3,b4,b5,b6,b7⟩:=o2 ez;have hy:mat (Z++E) u.1.2=mat Z u.1.2:=zJ E hx.m.k;have kp:=Zt a1 u.1.2 z.1 λe0=>⟨(a3 e0).2.k,by rw[hy];exact s8.trans h.cl (a3 e0).2.e.symm⟩;obtain⟨g1,g2,g3⟩:=keep_g (d:=d+3) ez b2 (b3.le za) za (b1.up 0 _ g0) b4 b6 λw=>b5<|q1<|b1.dn 1 _ hx.i w
    have ge:=b1.trans<|mw (r:=z.2) u.1.2 z.1 H
    have kf:=uF z.2 u.1.2 z.1;generalize zI z.2 u.1.2 z.1=r2 at*;obtain⟨k1,k2,k3⟩:=kp;have vs:=wj r2 z.1;have vf:=xr r2 z.1;have vu:=λe=>ut k1 (a:=z.1) (A:=A) (λe2=>((a3 ez).2).tr h.cl<|s8.symm.trans h.cl hx.m.e) e;have vg:=fC g1 g2 g3 b4;generalize zt r2 z.1=w at*;rcases vg with v1|⟨v1,v2,v3,v4,v5,v6,v7,v8⟩
    .have eu:yA n w=w:=by
      cases n with
      |zero=>rfl
      |succ n=>rw[yA,oV<|by rw[v1];simp]
     rw[eu];exact⟨.inr v1,λq=>by rw[v1] at q;cases q⟩
    .obtain⟨t1,t2⟩:=spin_g n w (Z++E) A H d (by have:=(vf.2 v1);omega) (by rw[vs];exact k1) (by rw[vs];exact(vu v1).2) v1 (by rw[vs];exact g2) (by rw[vs];exact v3.le za) d0 v4
     exact⟨t1,λq=>by
      obtain⟨I,c1,c2,c3,c4,c5,c6⟩:=t2 q;rw[vs] at c1;exact⟨I,ge.trans c1,c2,c3,c4,λq2=>c5<|v5<|b5<|q1 q2,c6⟩⟩
   .have e8:=o1.resolve_left ez;have ek:zI z.2 u.1.2 z.1=z.2:=uu ez;rw[ek];have ev:(zt z.2 z.1).2.e=80:=(visit_er z.1 ez).trans e8
    have eu:yA n (zt z.2 z.1)=zt z.2 z.1:=by
     cases n with
     |zero=>rfl
     |succ n=>rw[yA,oV<|by rw[ev];simp]
    rw[eu];exact⟨.inr ev,λw=>by rw[ev] at w;cases w⟩
  next q=>exact⟨.inl e,λ_=>⟨G,.refl _ G,hg,hm,g0,id,hx.c,hx.n5,λw=>q ⟨e,w⟩⟩⟩
end
end
section
variable {V:Int->Option La}
theorem fv:∀(n:Nat) (l:List Int) (b:Bool) (a:Int) (r:Rd) (Z:List Gh) (A:La) (L:List La) (G:Nat->Int->Prop) (d:Int),2*r.f.toNat+2<=n->MG V r.s Z->Me V Z a A->All2 (λx X=>Me V Z x X) l L->r.e=0->Rg r.s G->Rm r.s r.f d->0<=d->G 0 a->(l≠[]->G 1 a)->(∀x∈l,G 0 x)->
  Ng r.s G (headL n l b a r).r d λH=>(headL n l b a r).b=b/\H 0 (headL n l b a r).a/\∀x∈(headL n l b a r).l,H 0 x
 |0,_,_,_,_,_,_,_,_,_,hn,_,_,_,_,_,_,_,_,_,_=>absurd hn za
 |n+1,l,b,a,r,Z,A,L,G,d,hn,h,ha,hl,e,hg,hm,d0,g0,g1,gl=>by
  have vs:=wj r a;have vf:=xr r a;have vu:=λe=>ut h (a:=a) (A:=A) (λ_=>ha) e;have vg:=fC e hg hm g0;have hV:=h.cl;rw[headL,oV<|by rw[e];simp];generalize zt r a=u at*;rcases vg with v1|⟨v1,v2,v3,v4,v5,v6,v7,v8⟩
  .rw[oX<|by rw[v1];decide];exact⟨.inr v1,λw=>by dsimp only at w;rw[v1] at w;cases w⟩
  .rw[oV<|by rw[v1];simp];obtain⟨e0,hx⟩:=vu v1;have fu:=vf.2 v1;have g:MG V u.2.s Z:=by rw[vs];exact h
   have gg:Rg u.2.s G:=by rw[vs];exact hg
   have gm:Rm u.2.s u.2.f (d+4):=by rw[vs];exact v3
   have ck:=h.at hx.m.k;rw[<-hx.c] at ck;obtain⟨_,_,_,u6,u7,u8⟩:=hg.u _ v4;rw[<-v6] at u6 u7 u8;have stop:Ng r.s G u.2 d (λH=>b=b/\H 0 u.1.2/\∀x∈l,H 0 x):=⟨.inl v1,λ_=>⟨G,by rw[vs];exact .refl _ G,gg,gm.le za,rfl,v4,gl⟩⟩;split
   .rename_i q7;obtain⟨p1,p2,p3⟩:=ck.x7 q7
    have r1:=fv n (u.1.1.b::l) b u.1.1.a u.2 Z (mat Z u.1.1.a) (mat Z u.1.1.b::L) G d za g (.self p1) ⟨.self p2,hl⟩ v1 gg (gm.le za) d0 (hg.q _ (u7 q7).1).1 (λ_=>(u7 q7).1) (λx hx=>by
     rcases rx.1 hx with w|w
     .rw[w];exact(u7 q7).2
     .exact gl x w)
    rw[vs] at r1;exact r1
   .split
    .rename_i q8;obtain⟨s1,s2,⟨s3,s4,s5,s6,s7⟩,s8⟩:=ck.x8 q8;have op:=YX n u.2 u.1.1 Z (mat Z u.1.1.a) (rat Z u.1.1.b) u.1.1.d.toNat za g ⟨s2,rfl,s3,za,by rw[vs];exact s5,by rw[vs];exact s6,s7⟩<|.self s1
     obtain⟨o1,o2⟩:=open_g n u.2 u.1.1 Z (mat Z u.1.1.a) (rat Z u.1.1.b) u.1.1.d.toNat G (d+4) za g ⟨s2,rfl,s3,za,by rw[vs];exact s5,by rw[vs];exact s6,s7⟩ (.self s1) v1 gg gm za (u8 q8).1 (u8 q8).2;have of:=kI n u.2 u.1.1;have q1:G 1 u.1.2->G 1 u.1.1.a:=λw=>by rw[v6];exact(hg.q _ w).2.2.2 (by rw[<-v6];exact q8)
     generalize zA n u.2 u.1.1=z at*;obtain⟨E,a1,a2,a4,a3⟩:=op;by_cases ez:z.2.e=0
     .obtain⟨H,b1,b2,b3,b4,b5,b6,b7⟩:=o2 ez;rw[vs] at b1;have hy:mat (Z++E) u.1.2=mat Z u.1.2:=zJ E hx.m.k;have kp:=Zt a1 u.1.2 z.1 λe0=>⟨(a3 e0).2.k,by rw[hy];exact s8.trans hV (a3 e0).2.e.symm⟩;obtain⟨g1',g2,g3⟩:=keep_g (d:=d+3) ez b2 (b3.le za) za (b1.up 0 _ v4) b4 b6 λw=>b5<|q1<|b1.dn 1 _ v8 w
      have ge:=b1.trans<|mw (r:=z.2) u.1.2 z.1 H
      have kf:=uF z.2 u.1.2 z.1;generalize zI z.2 u.1.2 z.1=r2 at*;obtain⟨k1,k2,k3⟩:=kp;obtain⟨t1,t2⟩:=fv n l b z.1 r2 (Z++E) A L H d za k1 (((a3 ez).2).tr hV<|s8.symm.trans hV hx.m.e) (yn E hl) g1' g2 (g3.le za) d0 b4 (λw=>b5<|q1<|v5<|g1 w) λx hx=>ge.up 0 _<|gl x hx
      exact⟨t1,λw=>by obtain⟨I,c1,c2⟩:=t2 w;exact⟨I,ge.trans c1,c2⟩⟩
     .have e8:=o1.resolve_left ez;have ek:zI z.2 u.1.2 z.1=z.2:=uu ez;rw[ek]
      have eu:headL n l b z.1 z.2=⟨l,b,z.1,z.2⟩:=by
       cases n with
       |zero=>rfl
       |succ n=>rw[headL,oX ez]
      rw[eu];exact⟨.inr e8,λw=>absurd w ez⟩
    .split
     .rename_i q6;split
      .exact stop
      next ql=>exact absurd q6 (by rw[v6];exact(hg.q _<|v5<|g1 ql).2.1)
     .exact stop
theorem headL_ns (n:Nat)(l:List Int)(b:Bool)(a:Int)(r:Rd)(Z:List Gh)(A:La)(L:List La)(hn:2*r.f.toNat+2<=n)(h:MG V r.s Z)(hk:r.e=0->Me V Z a A/\All2 (λx X=>Me V Z x X) l L):NS r.s (headL n l b a r).r.s:=by
 obtain⟨_,_,a2,_⟩:=ue n l b a r Z A L hn h hk;exact a2
theorem head_g (n:Nat)(r:Rd)(root:Int)(Z:List Gh)(A:La)(G:Nat->Int->Prop)(d:Int)(hn:2*r.f.toNat+2<=n)(h:MG V r.s Z)(hk:Me V Z root A)(e:r.e=0)(hg:Rg r.s G)(hm:Rm r.s r.f d)(d0:0<=d)(g0:G 0 root):
  Ng r.s G (zK n r root).2 d (λH=>(H 0 (zK n r root).1.1/\∀x∈(zK n r root).1.2,H 0 x)/\NS r.s (zK n r root).2.s):=by
 obtain⟨g1,g2⟩:=fv n [] false root r Z A [] G d hn h hk trivial e hg hm d0 g0 (λw=>absurd rfl w) (λ_ w=>by cases w);have ns:=headL_ns n [] false root r Z A [] hn h λ_=>⟨hk,trivial⟩;unfold zK vr;generalize headL n [] false root r=z at*;by_cases q:z.r.e=0
 .obtain⟨H,b1,b2,b3,b4,b5⟩:=g2 q;rw[oV<|by rw[b4];simp];exact⟨.inl q,λ_=>⟨H,b1,b2,b3,b5,ns⟩⟩
 .have e8:=g1.resolve_left q
  have:(if z.b=true then zI (yB z.l z.a z.r).2 (zX (yB z.l z.a z.r).2.s.C root) (yB z.l z.a z.r).1 else z.r)=z.r:=by
   split
   .rw[wt _ _ _ q,uu q]
   .rfl
  rw[this];exact⟨.inr e8,λw=>absurd w q⟩
def FulG (V:Int->Option La)(F:Rd->Int->Tm×Rd)(m:Int):Prop:=∀(r:Rd) (a:Int) (Z:List Gh) (A:La) (G:Nat->Int->Prop) (d:Int),r.f<=m->MG V r.s Z->NmV r.s.N->Me V Z a A->r.e=0->Rg r.s G->Rm r.s r.f d->0<=d->G 0 a->Ng r.s G (F r a).2 d λ_=>NS r.s (F r a).2.s
theorem ly {F:Rd->Int->Tm×Rd}{m:Int}(hF:FulM V F m)(hG:FulG V F m)(hE:∀r a,r.e≠0->(F r a).2.e=r.e):∀(l:List Int) (t:Tm) (r:Rd) (Z:List Gh) (L:List La) (G:Nat->Int->Prop) (d:Int),r.f<=m->MG V r.s Z->NmV r.s.N->All2 (λx X=>Me V Z x X) l L->r.e=0->Rg r.s G->Rm r.s r.f d->0<=d->(∀x∈l,G 0 x)->Ng r.s G (zW F l t r).2 d (λ_=>NS r.s (zW F l t r).2.s)
 |[],t,r,Z,L,G,d,_,_,_,_,e,hg,hm,_,_=>⟨.inl e,λ_=>⟨G,.refl _ G,hg,hm,Keep.refl _⟩⟩
 |_::_,_,_,_,[],_,_,_,_,_,k,_,_,_,_,_=>k.elim
 |x::l,t,r,Z,X::L,G,d,hf,h,hN,k,e,hg,hm,d0,gl=>by
  rw[zW];obtain⟨⟨E,a1,a2,a4,a3⟩,f2⟩:=hF r x Z X hf h hN λ_=>k.1;obtain⟨g1,g2⟩:=hG r x Z X G d hf h hN k.1 e hg hm d0<|gl x r7
  by_cases q:(F r x).2.e=0
  .obtain⟨H,b1,b2,b3,b4⟩:=g2 q;obtain⟨t1,t2⟩:=ly hF hG hE l (applyF t [(F r x).1]) (F r x).2 (Z++E) L H d (sn f2 hf) a1 (by rw[a4];exact hN) (yn E k.2) q b2 b3 d0 λy hy=>b1.up 0 _<|gl y<|r9 _ hy
   exact⟨t1,λw=>by obtain⟨I,c1,c2,c3,c4⟩:=t2 w;exact⟨I,b1.trans c1,c2,c3,b4.trans c4⟩⟩
  .have e8:=g1.resolve_left q
   have er:∀(l:List Int) (t:Tm) (r:Rd),r.e≠0->(zW F l t r).2.e=r.e:=by
    intro l
    induction l with
    |nil=>intro t r _;rfl
    |cons y l ih=>intro t r w;rw[zW,ih _ _<|by rw[hE r y w];exact w,hE r y w]
   have:=er l (applyF t [(F r x).1]) (F r x).2 q;rw[e8] at this;exact⟨.inr this,λw=>by rw[this] at w;cases w⟩
theorem full_er (N:Nat):∀(n:Nat) (r:Rd) (a:Int),r.e≠0->(fulR N n r a).2.e=r.e
 |0,_,_,_=>rfl
 |n+1,r,a,e=>by
  have:(zK N r a).2=r:=by
   have eL:headL N [] false a r=⟨[],false,a,r⟩:=by
    cases N with
    |zero=>rfl
    |succ N=>rw[headL,oX e]
   unfold zK vr;rw[eL];rfl
  rw[fulR];unfold Zv;rw[this,oX e]
theorem iZ (N:Nat):∀(n:Nat) (r:Rd) (a:Int) (Z:List Gh) (A:La) (G:Nat->Int->Prop) (d:Int),2*r.f.toNat+2<=N->r.f.toNat+1<=n->MG V r.s Z->NmV r.s.N->Me V Z a A->r.e=0->Rg r.s G->Rm r.s r.f d->0<=d->G 0 a->Ng r.s G (fulR N n r a).2 d (λ_=>NS r.s (fulR N n r a).2.s)
 |0,_,_,_,_,_,_,_,hn,_,_,_,_,_,_,_,_=>absurd hn za
 |n+1,r,a,Z,A,G,d,hN,hn,h,hNm,hk,e,hg,hm,d0,g0=>by
  have hd:=YJ N r a Z A hN h λ_=>hk;have hf:=uE N r a hN;obtain⟨g1,g2⟩:=head_g N r a Z A G d hN h hk e hg hm d0 g0;rw[fulR];generalize zK N r a=z at*;obtain⟨E,a1,a2,a4,a3⟩:=hd;unfold Zv;split
  next q=>have:=g1.resolve_left q;exact⟨.inr this,λw=>absurd w q⟩
  .rename_i q;have q:z.2.e=0:=zo q
   obtain⟨e0,sp⟩:=a3 q;have fz:=hf.2 q;have hN2:NmV z.2.s.N:=by rw[a4];exact hNm
   obtain⟨A',L',w1,w2,w3⟩:=sp.w;obtain⟨H,b1,b2,b3,⟨b4,b5⟩,b6⟩:=g2 q;obtain⟨_,_,_,u6,_⟩:=b2.u _ b4;have up:∀ {r2:Rd},Ng z.2.s H r2 d (λ_=>NS z.2.s r2.s)->Ng r.s G r2 d (λ_=>NS r.s r2.s):=λt=>⟨t.1,λw=>by obtain⟨I,c1,c2,c3,c4⟩:=t.2 w;exact⟨I,b1.trans c1,c2,c3,b6.trans c4⟩⟩;split
   next q6=>obtain⟨k1,k2⟩:=(a1.at w1.k).x6 q6;exact up<|iZ N n z.2 (cellOf z.2.s.C z.1.1).a (Z++E) _ H d za za a1 hN2 (.self k1) q b2 b3 d0<|u6 q6
   .have hF:FulM V (fulR N n) z.2.f:=λr2 b Z2 B h1 h2 h3 h4=>⟨jX N n r2 b Z2 B za za h2 h3 h4,Yh N n r2 b za⟩;exact up<|ly hF (λr2 b Z2 B G d h1 h2 h3 h4 h5 h6 h7 h8 h9=>iZ N n r2 b Z2 B G d za za h2 h3 h4 h5 h6 h7 h8 h9) (full_er N n) z.1.2 (leafR z.2.s z.1.1) z.2 (Z++E) L' H d (ru _) a1 hN2 w2 q b2 b3 d0 b5
end
theorem leaf_k {c:Int}{q:Int->Prop}{t:Tm}(hv:validB t=true)(h:lfQ c q<|toL t):t.k=3\/t.k=1:=by
 obtain⟨k,s,n,l⟩:=t;show k=3\/k=1;by_cases h6:k=6
 .subst h6;obtain⟨f,a,e⟩:=jd hv;rw[e] at h;exact h.elim
 by_cases h5:k=5
 .subst h5;rw[yQ] at h;exact h.elim
 by_cases h4:k=4
 .subst h4;rw[wO] at h;exact h.elim
 by_cases h3:k=3
 .exact .inl h3
 .rw[toL,mkL,oV h5,oV h6,oV h3,oV h4] at h;exact .inr h.1
theorem aU {V:Int->Option La}{t:Tm}{l:La}{c:Int}{q:Int->Prop}(hv:validB t=true)(hn:NfL V<|toL t)(hl:lfQ c q l)(e:Eqv V (toL t) l):(xK t).2=true/\toL (xK t).1=l/\IsLf (xK t).1:=by
 have nl:NfL V l:=by
  cases l with
  |con=>exact(dp _ _ _).2
  |bv=>exact(lm _).2
  |var=>exact hl.elim
  |lam=>exact hl.elim
  |app=>exact hl.elim
 have e1:toL t=l:=e.nf hn nl;have e2:toL (zy t)=l:=by rw[<-e1];exact hn.sts<|vn t hv
 have k:=leaf_k (xN hv) (by rw[e2];exact hl);unfold xK;rw[oX hv,oX k];exact⟨rfl,e2,o8 (xN hv) k⟩
theorem lfZ_eq {a b:Tm}(ha:IsLf a)(hb:IsLf b)(h:lfZ a b=true):a=b:=by
 unfold lfZ at h;rw[oZ,rT,rT] at h;obtain⟨n,⟨rfl,_⟩|rfl⟩:=ha
 .obtain⟨m,⟨rfl,_⟩|rfl⟩:=hb
  .have:=h.2;dsimp only[Tm.n] at this;rw[this]
  .exact absurd h.1 (by show¬(3:Int)=1;decide)
 .obtain⟨m,⟨rfl,_⟩|rfl⟩:=hb
  .exact absurd h.1 (by show¬(1:Int)=3;decide)
  .have:=h.2;dsimp only[Tm.n] at this;rw[this]
def UG (G H:Nat->Int->Prop):Prop:=∀i a,G i a->H i a
theorem UG.trans {G H I:Nat->Int->Prop}(h:UG G H)(g:UG H I):UG G I:=λi a q=>g i a<|h i a q
def Aw (V:Int->Option La)(w:Wp)(Z:List Gh)(G:Nat->Int->Prop)(d:Int)(v:Wp)(P:List Gh->(Nat->Int->Prop)->Prop):Prop:=∃E H,MG V v.s (Z++E)/\NS w.s v.s/\v.s.N=w.s.N/\UG G H/\Rg v.s H/\Rm v.s v.f d/\P (Z++E) H
section
variable {V:Int->Option La}
structure Sv (V:Int->Option La)(s:Hp)(Z:List Gh)(G:Nat->Int->Prop)(a:Int)(x:Sd)(A:La):Prop where
 k:Kin Z x.h
 c:cellOf s.C x.h=x.c
 w:∃L,All2 (λx X=>Me V Z x X) x.js L/\Eqv V A (apps (mat Z x.h) L)
 l:x.c.t=6->x.js=[]
 n5:x.c.t≠5
 n7:x.c.t≠7
 n8:x.c.t≠8
 n9:x.c.t<9
 g0:G 0 x.h
 gl:∀y∈x.js,G 0 y
 sp:∃k,Sp s a [] x.h x.js k
theorem Sv.up {s t:Hp}{Z:List Gh}{G H:Nat->Int->Prop}{a:Int}{x:Sd}{A:La}(hg:Rg s G)(h:Sv V s Z G a x A)(E:List Gh)(n:NS s t)(g:UG G H):Sv V t (Z++E) H a x A:=by
 obtain⟨L,w1,w2⟩:=h.w;obtain⟨k,sp⟩:=h.sp;refine⟨h.k.app E,?_,⟨L,yn E w1,by rw[zJ E h.k];exact w2⟩,h.l,h.n5,h.n7,h.n8,h.n9,g 0 _ h.g0,λy hy=>g 0 _<|h.gl y hy,k,sp.ns n⟩;rw[(n.cell (hg.u _ h.g0).1<|by rw[h.c];exact h.n8).2];exact h.c
theorem look_a {w:Wp}{Z:List Gh}{G:Nat->Int->Prop}{d:Int}(h:MG V w.s Z)(hg:Rg w.s G)(hm:Rm w.s w.f d)(d0:0<=d){a:Int}{A:La}(hk:Me V Z a A)(g0:G 0 a):(lookW w a).1.2=80/\(lookW w a).2.s.N=w.s.N\/(lookW w a).1.2=0/\Aw V w Z G d (lookW w a).2 (λW H=>Sv V (lookW w a).2.s W H a (lookW w a).1.1 A):=by
 have lk:=YW h hk;have hd:=head_g (2*w.f.toNat+2) ⟨w.s,w.f,0⟩ a Z A G d (r6 _) h hk rfl hg hm d0 g0;have hs:=ox (2*w.f.toNat+2) ⟨w.s,w.f,0⟩ a Z A (r6 _) h λ_=>hk;obtain⟨_,_,_,hn,_⟩:=YJ (2*w.f.toNat+2) ⟨w.s,w.f,0⟩ a Z A (r6 _) h λ_=>hk;unfold lookW xw at lk ⊢;generalize zK (2*w.f.toNat+2) ⟨w.s,w.f,0⟩ a=z at*;obtain⟨g1,g2⟩:=hd;by_cases q:z.2.e=0
 .right;have q2:¬z.2.e≠0:=λw=>w q;rw[oV q2] at lk ⊢;have q3:¬(0:Int)≠0:=λw=>w rfl;dsimp only at lk ⊢;rw[oV q3] at lk ⊢;obtain⟨E,a1,a2,a3,sp,ec⟩:=lk rfl;obtain⟨H,b1,b2,b3,⟨b4,b5⟩,b6⟩:=g2 q;obtain⟨k,s1,_⟩:=hs q;obtain⟨A',L,w1,w2,w3⟩:=sp.w;refine⟨rfl,E,H,a1,b6,a3,b1.up,b2,b3,w1.k,rfl,⟨L,w2,w3.trans h.cl<|wq h.cl L w1.e.symm⟩,sp.l,sp.n5,sp.n7,sp.n8,sp.n9,b4,b5,k,s1⟩
 .left;have q2:z.2.e≠0:=q;rw[oX q2];dsimp only;rw[oX q2];exact⟨g1.resolve_left q,hn⟩
theorem fullW_a {w:Wp}{Z:List Gh}{G:Nat->Int->Prop}{d:Int}(h:MG V w.s Z)(hN:NmV w.s.N)(hg:Rg w.s G)(hm:Rm w.s w.f d)(d0:0<=d){a:Int}{A:La}(hk:Me V Z a A)(g0:G 0 a):(yg w a).1.2=80/\(yg w a).2.s.N=w.s.N\/(yg w a).1.2=0/\Aw V w Z G d (yg w a).2 (λ_ _=>validB (yg w a).1.1=true/\Eqv V A (toL (yg w a).1.1)/\NfL V (toL (yg w a).1.1)):=by
 have lk:=YY (f:=w.f) h hN hk;have hd:=iZ (2*w.f.toNat+2) (w.f.toNat+1) ⟨w.s,w.f,0⟩ a Z A G d (r6 _) (r6 _) h hN hk rfl hg hm d0 g0;obtain⟨_,_,_,hn,_⟩:=jX (2*w.f.toNat+2) (w.f.toNat+1) ⟨w.s,w.f,0⟩ a Z A (r6 _) (r6 _) h hN λ_=>hk;unfold yg;unfold zQ at lk ⊢;generalize fulR (2*w.f.toNat+2) (w.f.toNat+1) ⟨w.s,w.f,0⟩ a=z at*;obtain⟨g1,g2⟩:=hd;by_cases q:z.2.e=0
 .right;have q2:¬z.2.e≠0:=λw=>w q;rw[oV q2] at lk ⊢;obtain⟨E,a1,a2,a3,a4,a5,a6⟩:=lk rfl;obtain⟨H,b1,b2,b3,b4⟩:=g2 q;exact⟨rfl,E,H,a1,b4,a3,b1.up,b2,b3,a4,a5,a6⟩
 .left;rw[oX q];exact⟨g1.resolve_left q,hn⟩
theorem WC (lv:Int):∀(l:List Int) (L ls:List La) (out:List Tm) (w:Wp) (Z:List Gh) (G:Nat->Int->Prop) (d:Int),MG V w.s Z->NmV w.s.N->Rg w.s G->Rm w.s w.f d->0<=d->All2 (λx X=>Me V Z x X) l L->(∀x∈l,G 0 x)->All2 (Eqv V) L ls->(∀u∈ls,lfQ lv pT u)->(toLs out++ls).Nodup->(∀t∈out,IsLf t)->
  (zw lv l out w).1.2=80/\(zw lv l out w).2.s.N=w.s.N\/(zw lv l out w).1.2=0/\Aw V w Z G d (zw lv l out w).2 λ_ _=>True
 |[],_,_,out,w,Z,G,d,h,_,hg,hm,_,_,_,_,_,_,_=>by rw[zw];exact .inr ⟨rfl,[],G,by rw[rp];exact h,Keep.refl _,rfl,(λ_ _ h=>h),hg,hm,trivial⟩
 |_::_,[],_,_,_,_,_,_,_,_,_,_,_,k,_,_,_,_,_=>k.elim
 |_::_,_::_,[],_,_,_,_,_,_,_,_,_,_,_,_,k,_,_,_=>k.elim
 |a::l,A::L,u::ls,out,w,Z,G,d,h,hN,hg,hm,d0,hk,gl,he,hl,hn,ho=>by
  rw[zw];rcases fullW_a h hN hg hm d0 hk.1 (gl a r7) with⟨q,qn⟩|⟨q,E,H,a1,a2,a3,a4,a5,a6,a7,a8,a9⟩
  .rw[oX<|by rw[q];decide];exact .inl ⟨q,qn⟩
  .rw[oV<|by rw[q];simp];have hu:=hl u r7;obtain⟨k1,k2,k3⟩:=aU a7 a9 hu<|a8.symm.trans h.cl he.1
   have bad:badZ lv out (yg w a).1.1=false:=by
    unfold badZ;simp only[Bool.or_eq_false_iff,Bool.and_eq_false_iff];refine⟨⟨by rw[k1];rfl,?_⟩,List.any_eq_false.2 λv hv hB=>?_⟩
    .by_cases c:(xK (yg w a).1.1).1.k=1
     .right;obtain⟨n,⟨e,_⟩|e⟩:=k3
      .rw[e] at c;exact absurd c (by show¬(3:Int)=1;decide)
      .rw[e,wM] at k2;rw[<-k2] at hu;have:=hu.2.2.1;rw[e];exact A2 (by show¬n<=lv;omega)
     .left;exact zo c
    .have:=lfZ_eq (ho v hv) k3 hB;have hm:u∈toLs out:=by rw[y8,<-k2,<-this];exact rK.2 ⟨v,hv,rfl⟩
     exact(sq.1 hn).2.2 u hm u r7 rfl
   rw[oV<|by rw[bad];simp]
   rcases WC lv l L ls (out++[(xK (yg w a).1.1).1]) (yg w a).2 (Z++E) H d a1 (by rw[a3];exact hN) a5 a6 d0 (yn E hk.2) (λx hx=>a4 0 _<|gl x<|r9 _ hx) he.2 (λv hv=>hl v<|r9 _ hv) (by
     rw[vV,rh];show(toLs out++(toL (xK (yg w a).1.1).1::ls)).Nodup;rw[k2];exact hn) (λv hv=>by
     rcases rQ.1 hv with w|w
     .exact ho v w
     .rw[rJ.1 w];exact k3) with⟨q1,qn⟩|⟨q1,F,I,b1,b2,b3,b4,b5,b6,_⟩
   .exact .inl ⟨q1,qn.trans a3⟩
   .exact .inr ⟨q1,E++F,I,by rw[<-rh];exact b1,a2.trans b2,b3.trans a3,a4.trans b4,b5,b6,trivial⟩
theorem dZ:∀a:List Tm,(onZ a a).length=a.length
 |[]=>rfl
 |t::a=>by
  rw[onZ,oX<|by unfold lfZ;simp,t9,r5,dZ a,r5]
theorem lf_lfQ {u:Tm}(h:IsLf u):lfQ (u.n-1) pT (toL u):=lfT.q ⟨h,λ_=>⟨za,trivial⟩⟩
theorem lf_all:∀ {L M:List La} {a b:List Tm},ClV V->All2 (Eqv V) L M->All2 (λA t=>Eqv V A<|toL t) L a->All2 (λA t=>Eqv V A<|toL t) M b->(∀u∈a,IsLf u)->(∀u∈b,IsLf u)->a=b
 |[],[],[],[],_,_,_,_,_,_=>rfl
 |[],_::_,_,_,_,h,_,_,_,_=>h.elim
 |_::_,[],_,_,_,h,_,_,_,_=>h.elim
 |[],[],_::_,_,_,_,h,_,_,_=>h.elim
 |[],[],[],_::_,_,_,_,h,_,_=>h.elim
 |_::_,_::_,[],_,_,_,h,_,_,_=>h.elim
 |_::_,_::_,_::_,[],_,_,_,h,_,_=>h.elim
 |x::L,y::M,a::az,b::bs,hV,h,h1,h2,ha,hb=>by
  have hx:=ha a r7;have hy:=hb b r7;rw[am hx hy<|(lf_lfQ hx).eq (lf_lfQ hy)<|(h1.1.symm.trans hV h.1).trans hV h2.1,lf_all hV h.2 h1.2 h2.2 (λu hu=>ha u<|r9 _ hu) λu hu=>hb u<|r9 _ hu]
theorem prune_a {w:Wp}{Z:List Gh}{G:Nat->Int->Prop}{d:Int}{M:Int->Int}(h:MG V w.s Z)(hN:NmV w.s.N)(hg:Rg w.s G)(hm:Rm w.s w.f d)(d0:0<=d){a b:Int}{x y:Sd}{A B:La}(sx:Sv V w.s Z G a x A)(sy:Sv V w.s Z G b y B)(x4:x.c.t=4)(y4:y.c.t=4)(xy:x.h=y.h)(hM:M x.h=x.c.a)(pg:PGz V M A B):
  (xD w x y).1=80/\(xD w x y).2.s.N=w.s.N\/(xD w x y).1=0/\Aw V w Z G d (xD w x y).2 (λ_ _=>True):=by
 have hV:=h.cl;obtain⟨L,w1,w2⟩:=sx.w;obtain⟨L',v1,v2⟩:=sy.w;have vx:=h.var sx.k (by rw[sx.c];exact x4);have no:=(h.lv sx.k<|by rw[sx.c];exact x4).2.2;rw[vx] at w2;rw[<-xy,vx] at v2;obtain⟨ls,P⟩:=pg.2.1.pat hV no w2;obtain⟨ms,Q⟩:=pg.2.2.pat hV no v2;have hyc:y.c.a=x.c.a:=by rw[<-sx.c,<-sy.c,xy]
 rw[hM] at P Q;have AL:=(XQ (h:=.var x.h) (g:=.var x.h) no no<|(w2.symm.trans hV pg.1).trans hV v2).2;have l1:=xW (V:=V) x.c.a x.js L [] w Z h hN w1;unfold xD;rcases WC x.c.a x.js L ls [] w Z G d h hN hg hm d0 w1 sx.gl P.eq P.lf P.nd (λt ht=>nomatch ht) with⟨q,qn⟩|⟨q,E,H,a1,a2,a3,a4,a5,a6,_⟩
 .rw[oX<|by rw[q];decide];exact .inl ⟨q,qn⟩
 rw[oV<|by rw[q];simp];obtain⟨E2,ws,_,_,_,c4,c5,c6⟩:=l1 q;rw[rH] at c4;generalize zw x.c.a x.js [] w=z at*;have l2:=xW (V:=V) y.c.a y.js L' [] z.2 (Z++E) a1 (by rw[a3];exact hN)<|yn E v1
 rcases WC y.c.a y.js L' ms [] z.2 (Z++E) H d a1 (by rw[a3];exact hN) a5 a6 d0 (yn E v1) (λx hx=>a4 0 _<|sy.gl x hx) Q.eq (by rw[hyc];exact Q.lf) Q.nd (λt ht=>nomatch ht) with⟨q1,qn⟩|⟨q1,F,I,b1,b2,b3,b4,b5,b6,_⟩
 .rw[oX<|by rw[q1];decide];exact .inl ⟨q1,qn.trans a3⟩
 rw[oV<|by rw[q1];simp];obtain⟨F2,us,_,_,_,e4,e5,e6⟩:=l2 q1;rw[rH] at e4;have eq:ws=us:=lf_all hV AL c5 e5 c6 e6;rw[c4,e4,eq,oV zb,oX<|dZ us];exact .inr ⟨rfl,E++F,I,by rw[<-rh];exact b1,a2.trans b2,b3.trans a3,a4.trans b4,b5,b6,trivial⟩
theorem Ch.mid2 {s:Hp}{a e z:Int}(c:Ch s a z):Ch s a e->(cellOf s.C e).t≠5->(cellOf s.C z).t=5/\Ch s z e\/z=e:=by
 induction c with
 |refl a=>
  intro g h5;cases g with
  |refl=>exact .inr rfl
  |step h1 h2 g=>exact .inl ⟨h2,.step h1 h2 g⟩
 |step h1 h2 _ ih=>
  intro g h5;cases g with
  |refl=>exact absurd h2 h5
  |step _ _ g=>exact ih g h5
theorem Rg.more {s:Hp}{G:Nat->Int->Prop}(h:Rg s G){a hd:Int}{js:List Int}{k:Nat}(ha:G 0 a)(sp:Sp s a [] hd js k)(h6:(cellOf s.C hd).t≠6):Rg s (λi x=>G i x\/i=1/\Ch s a x):=by
 obtain⟨e,c1,c2,c3,c4,c5⟩:=sp.ch
 have ce:(cellOf s.C e).t≠6/\(cellOf s.C e).t≠8:=by
  cases c5 with
  |done _ _ _ _ h8 _=>exact⟨h6,h8⟩
  |ref _ h5 _=>exact absurd h5 c3
  |app _ h7 _=>rw[h7];exact⟨zc,zc⟩
 have up:∀ {x:Int},Ch s a x->G 0 x:=λc=>by
  clear sp c1
  induction c with
  |refl _=>exact ha
  |step _ h2 _ ih=>exact ih<|(h.u _ ha).2.2.1 h2
 have key:∀ {x:Int},Ch s a x->(cellOf s.C x).t≠6/\(cellOf s.C x).t≠8:=λc=>by
  rcases c.mid2 c1 c3 with⟨w,_⟩|w
  .rw[w];exact⟨zc,zc⟩
  .rw[w];exact ce
 have o0:∀ {x:Int},(G 0 x\/0=1/\Ch s a x)->G 0 x:=λw=>w.resolve_right λq=>absurd q.1 zc;have o2:∀ {x:Int},(G 2 x\/2=1/\Ch s a x)->G 2 x:=λw=>w.resolve_right λq=>absurd q.1 zc;refine⟨λx hx=>?_,λx hx=>h.e x<|o0 hx,λx hx=>?_,λx hx=>?_⟩
 .obtain⟨u1,u2,u3,u4,u5,u6⟩:=h.u x<|o0 hx
  exact⟨u1,u2,λw=>.inl<|u3 w,λw=>.inl<|u4 w,λw=>⟨.inl (u5 w).1,.inl (u5 w).2⟩,λw=>⟨.inl (u6 w).1,.inl (u6 w).2⟩⟩
 .rcases hx with hx|⟨_,hx⟩
  .obtain⟨q1,q2,q3,q4⟩:=h.q x hx;exact⟨.inl q1,q2,λw=>.inl<|q3 w,λw=>.inl<|q4 w⟩
  .obtain⟨k1,k2⟩:=key hx;exact⟨.inl<|up hx,k1,λw=>.inr ⟨rfl,hx.trans<|.step (h.u x<|up hx).1 w<|.refl _⟩,λw=>absurd w k2⟩
 .obtain⟨r1,r2⟩:=h.r x<|o2 hx
  exact⟨r1,r2.imp id λw=>⟨w.1,.inl w.2⟩⟩
theorem body_mv (w:Wp)(x:Sd)(a:Int):Mv false w.s (yd w x a).2.s:=by
 have hm:=ZK w.s a 1;unfold yd;split
 .exact .refl _
 .split
  .exact hm
  .split
   .exact hm.put _
   .exact(hm.put _).put _
theorem put0_g {s:Hp}{G:Nat->Int->Prop}{d:Int}(h:Rg s G)(hm:Rm s 0<|d+1)(d0:0<=d)(c:Cel)(K:Nat->Prop)(hf:yC s c=true)(k0:K 0->c.t<9/\c.t≠5/\(c.t=6->G 0 c.a)/\(c.t=7->G 1 c.a/\G 0 c.b)/\(c.t=8->G 0 c.a/\G 2 c.b))(k1:K 1->K 0/\c.t≠6/\(c.t=8->G 1 c.a))(k2:K 2->c.t=9\/c.t=10/\G 2 c.a):
  (putS s c).1.2=0/\∃H,UG G H/\Rg (putS s c).2 H/\Rm (putS s c).2 0 d/\(∀i,K i->H i (putS s c).1.1):=by
 obtain⟨p1,H,p2,p3,p4,p5,_⟩:=JO (r:=⟨s,0,0⟩) rfl h hm d0 c K hf k0 k1 k2;exact⟨p1,H,p2.up,p3,p4,p5⟩
theorem body_a {w:Wp}{Z:List Gh}{G:Nat->Int->Prop}{d:Int}(h:MG V w.s Z)(hN:NmV w.s.N)(hg:Rg w.s G)(hm:Rm w.s w.f<|d+4)(d0:0<=d){a:Int}{x:Sd}{A:La}(sx:Sv V w.s Z G a x A)(ha:Me V Z a A)(g0:G 0 a):
  (yd w x a).1.2=0/\(x.c.t=6->(yd w x a).2=w)/\Aw V w Z G (if x.c.t=6 then d+4 else d) (yd w x a).2 (λW H=>H 0 (yd w x a).1.1/\∃B,Me V W (yd w x a).1.1 B/\Eqv V A (.lam B)):=by
 have hV:=h.cl;obtain⟨L,w1,w2⟩:=sx.w
 have bm:=WN h hN (x:=x) ha (λq=>by
  have ck:=h.at sx.k;rw[sx.c] at ck;obtain⟨k1,k2⟩:=ck.x6 q;rw[sx.l q] at w1;cases L with
  |nil=>exact⟨k1,w2.trans hV k2⟩
  |cons _ _=>exact w1.elim)
 have mv:=body_mv w x a;by_cases q:x.c.t=6
 .have e1:yd w x a=((x.c.a,0),w):=by unfold yd;rw[oX q]
  rw[e1] at bm ⊢;rw[oX q];obtain⟨E,B,b1,b2,b3,b4,b5⟩:=bm rfl;have u6:=(hg.u _ sx.g0).2.2.2.1;rw[sx.c] at u6;exact⟨rfl,λ_=>rfl,E,G,b1,Keep.refl _,rfl,λ_ _ h=>h,hg,hm,u6 q,B,b3,b4⟩
 .rw[oV q];obtain⟨k,sp⟩:=sx.sp;have hg1:=hg.more g0 sp (by rw[sx.c];exact q);have hm0:Rm w.s 0 (d+4+4*w.f):=⟨ru _,by have:=hm.C;omega,by have:=hm.T;omega⟩;have f0:=hm.f0;have no8:∀ {m:Int} {P:Prop},m≠8->(8:Int)=m->P:=λh e=>absurd e.symm h;have no3:∀ {m:Int} {P:Prop},m≠3->(3:Int)=m->P:=λh e=>absurd e.symm h;have no7:∀ {m:Int} {P:Prop},m≠7->(7:Int)=m->P:=λh e=>absurd e.symm h;obtain⟨u1,u2,_⟩:=hg.u a g0
  have lift:(yw w.s a 1).1.2=0/\∃H,UG G H/\Rg (yw w.s a 1).2 H/\Rm (yw w.s a 1).2 0 (d+2+4*w.f)/\H 1 (yw w.s a 1).1.1/\(yw w.s a 1).2.M=w.s.M/\(yw w.s a 1).2.L=w.s.L:=by
   have ml:=(ZK w.s a 1).len;obtain⟨p1,H,p2,p3,p4,p5,p6⟩:=JO (r:=⟨w.s,0,0⟩) (d:=d+3+4*w.f) rfl hg1 (by dsimp only;exact hm0.le za) za ⟨9,0,0,0,0⟩ (λi=>i=2) (by unfold yC;simp) (λw=>by cases w) (λw=>by cases w) λ_=>.inl rfl;have pf:(putR ⟨w.s,0,0⟩ ⟨9,0,0,0,0⟩).2.f=0:=ZX _ _;obtain⟨q1,I,q2,q3,q4,q5,q6⟩:=JO (r:=(putR ⟨w.s,0,0⟩ ⟨9,0,0,0,0⟩).2) (d:=d+2+4*w.f) p1 p3 (p4.le za) za ⟨8,a,(putR ⟨w.s,0,0⟩ ⟨9,0,0,0,0⟩).1,0,1⟩ (λi=>i<=1) (by unfold yC;simp[p3.isT<|p2.up 0 _<|.inl g0,p3.isR<|p5 2 rfl]) (λ_=>⟨by show(8:Int)<9;decide,by show¬(8:Int)=5;decide,no8 zc,no8 zc,λ_=>⟨p2.up 0 _<|.inl g0,p5 2 rfl⟩⟩) (λ_=>⟨zc,by show¬(8:Int)=6;decide,λ_=>p2.up 1 _<|.inr ⟨rfl,.refl _⟩⟩) (λw=>absurd w zc);have q7:(xC ⟨w.s,0,0⟩ a 1).2.e=0:=by unfold xC;rw[oV zc];exact q1
   have e2:yw w.s a 1=(((xC ⟨w.s,0,0⟩ a 1).1,0),(xC ⟨w.s,0,0⟩ a 1).2.s):=by
    unfold yw;rw[oV<|by rw[u1];simp;omega,oV<|by rw[q7];simp]
   have e3:xC ⟨w.s,0,0⟩ a 1=putR (putR ⟨w.s,0,0⟩ ⟨9,0,0,0,0⟩).2 ⟨8,a,(putR ⟨w.s,0,0⟩ ⟨9,0,0,0,0⟩).1,0,1⟩:=by unfold xC;rw[oV zc]
   rw[e2,e3] at ml ⊢;have qf:(putR (putR ⟨w.s,0,0⟩ ⟨9,0,0,0,0⟩).2 ⟨8,a,(putR ⟨w.s,0,0⟩ ⟨9,0,0,0,0⟩).1,0,1⟩).2.f=0:=by rw[ZX,pf]
   rw[qf] at q4;exact⟨rfl,I,λi z hz=>q2.up i z<|p2.up i z<|.inl hz,q3,q4,q5 1 zc,ml.2.1,ml.2.2⟩
  unfold yd at bm mv ⊢;rw[oV q] at bm mv ⊢;generalize yw w.s a 1=z at*;obtain⟨l1,H,l2,l3,l4,l5,_⟩:=lift;rw[oV<|by rw[l1];simp] at bm mv ⊢;obtain⟨p1,I,p2,p3,p4,p5⟩:=put0_g l3 (d:=d+1+4*w.f) (l4.le za) za ⟨3,0,0,0,0⟩ (λi=>i=0) (by unfold yC;simp) (λ_=>⟨by show(3:Int)<9;decide,by show¬(3:Int)=5;decide,no3 zc,no3 zc,no3 zc⟩) (λw=>by cases w) (λw=>by cases w);generalize putS z.2 ⟨3,0,0,0,0⟩=y at*;rw[oV<|by rw[p1];simp] at bm mv ⊢;have i1:=p2 1 _ l5;obtain⟨t1,J,t2,t3,t4,t5⟩:=put0_g p3 (d:=d+4*w.f) (p4.le za) za ⟨7,z.1.1,y.1.1,0,0⟩ (λi=>i=0) (by unfold yC;simp[p3.isT<|p5 0 rfl,p3.isT (p3.q _ i1).1]) (λ_=>⟨by show(7:Int)<9;decide,by show¬(7:Int)=5;decide,no7 zc,λ_=>⟨i1,p5 0 rfl⟩,no7 zc⟩) (λw=>by cases w) (λw=>by cases w);obtain⟨E,B,b1,b2,b3,b4,b5⟩:=bm t1;have mn:=mv.N;refine⟨t1,λw=>absurd w q,E,J,b1,b5,mn,(l2.trans p2).trans t2,t3,⟨f0,by have:=t4.C;dsimp only at*;omega,by have:=t4.T;dsimp only at*;omega⟩,t5 0 rfl,B,b3,b4⟩
theorem lam_inv (hV:ClV V){C D:La}(h:Eqv V (.lam C)<|.lam D):Eqv V C D:=by
 have key:∀C:La,Eqv V (.app (La.lift (.lam C) 0)<|.bv 0) C:=λC=>by
  have:=Sts.beta (V:=V) (C.lift 1)<|.bv 0
  rw[La.sub_lift_bv C 0] at this;exact Eqv.of this
 exact((key C).symm.trans hV<|(h.lift hV 0).app<|.refl<|.bv 0).trans hV<|key D
theorem gd_inv (hV:ClV V){M:Int->Int}{A C:La}(e:Eqv V A<|.lam C)(h:Gd V M pT pT A):Gd V M pT pT C:=by
 have:=Sts.beta (V:=V) (C.lift 1)<|.bv 0
 rw[La.sub_lift_bv C 0] at this;exact(h.body hV).eqv hV<|((e.lift hV 0).app<|.refl<|.bv 0).trans hV<|Eqv.of this
theorem under_a {w:Wp}{Z:List Gh}{G:Nat->Int->Prop}{d:Int}{M:Int->Int}(h:MG V w.s Z)(hN:NmV w.s.N)(hg:Rg w.s G)(hm:Rm w.s w.f<|d+4)(d0:0<=d){p:Int×Int}{x y:Sd}{A B:La}(sx:Sv V w.s Z G p.1 x A)(sy:Sv V w.s Z G p.2 y B)(ha:Me V Z p.1 A)(hb:Me V Z p.2 B)(g1:G 0 p.1)(g2:G 0 p.2)(pg:PGz V M A B)(h6:x.c.t=6\/y.c.t=6):
  (xV w x y p).1.1=0/\Aw V w Z G d (xV w x y p).2 (λW H=> ∀q∈(xV w x y p).1.2,(Kin W q.1/\Kin W q.2)/\(H 0 q.1/\H 0 q.2)/\PGz V M (mat W q.1) (mat W q.2)):=by
 have hV:=h.cl;obtain⟨a1,a2,E,H,a3,a4,a5,a6,a7,a8,a9,C,c1,c2⟩:=body_a h hN hg hm d0 sx ha g1;unfold xV;rw[oV<|by rw[a1];simp];have sy2:=sy.up hg E a4 a6;have hm2:Rm (yd w x p.1).2.s (yd w x p.1).2.f (if x.c.t=6 then d+4 else d):=a8
 generalize yd w x p.1=z at*
 have r2:(yd z.2 y p.2).1.2=0/\Aw V z.2 (Z++E) H d (yd z.2 y p.2).2 (λW H=>H 0 (yd z.2 y p.2).1.1/\∃B',Me V W (yd z.2 y p.2).1.1 B'/\Eqv V B (.lam B')):=by
  by_cases q:x.c.t=6
  .rw[oX q] at hm2;obtain⟨b1,b2,F,I,b3,b4,b5,b6,b7,b8,b9⟩:=body_a a3 (by rw[a5];exact hN) a7 hm2 d0 sy2 (hb.app E)<|a6 0 _ g2
   exact⟨b1,F,I,b3,b4,b5,b6,b7,b8.le<|by split<;>omega,b9⟩
  .rw[oV q] at hm2;have qy:=h6.resolve_left q;have e1:yd z.2 y p.2=((y.c.a,0),z.2):=by unfold yd;rw[oX qy]
   have bm:=WN a3 (by rw[a5];exact hN) (x:=y) (hb.app E) (λq=>by
    have ck:=a3.at sy2.k;rw[sy2.c] at ck;obtain⟨k1,k2⟩:=ck.x6 q;obtain⟨L,w1,w2⟩:=sy2.w;rw[sy2.l q] at w1;cases L with
    |nil=>exact⟨k1,w2.trans hV k2⟩
    |cons _ _=>exact w1.elim)
   rw[e1] at bm ⊢;obtain⟨F,B',b1,b2,b3,b4,b5⟩:=bm rfl;have u6:=(a7.u _ sy2.g0).2.2.2.1;rw[sy2.c] at u6;exact⟨rfl,F,H,b1,Keep.refl _,rfl,λ_ _ h=>h,a7,hm2,u6 qy,B',b3,b4⟩
 obtain⟨b1,F,I,b3,b4,b5,b6,b7,b8,b9,D,d1,d2⟩:=r2;rw[oV<|by rw[b1];simp];refine⟨rfl,E++F,I,by rw[<-rh];exact b3,a4.trans b4,b5.trans a5,a6.trans b6,b7,b8,λq hq=>?_⟩;rw[<-rh];rw[rJ.1 hq];have c3:=c1.app F;have e3:=lam_inv hV<|(c2.symm.trans hV pg.1).trans hV d2
 exact⟨⟨c3.k,d1.k⟩,⟨b6 0 _ a9,b9⟩,(c3.e.trans hV e3).trans hV d1.e.symm,(gd_inv hV c2 pg.2.1).eqv hV c3.e.symm,(gd_inv hV d2 pg.2.2).eqv hV d1.e.symm⟩
end
end Go.AM
