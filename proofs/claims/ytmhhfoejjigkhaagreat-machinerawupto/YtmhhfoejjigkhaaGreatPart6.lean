/- Contracts of the code's functions over plain values, and plain laws: part 6. No conditions. -/
import Derived.Test.YtmhhfoejjigkhaaGreatPart5
import Derived.Test.YtmhhfoejjigkhaaGreatPart2
import Derived.Test.YtmhhfoejjigkhaaGreatRows
set_option linter.all false
set_option maxRecDepth 100000
open Go Go.Proofs
namespace Go.AM
open Go.IntKind (wrap)
abbrev tEv (k:Int)(vs:List Tm)(e f:Int):TV:= .tup [(true,[qi k,qf<|.sl false 4<|FTs vs,qi e]),(false,[qi f])]
def leEv (f):TV.Le (.tup [(true,[qi 0,qf .N,qi 0]),(false,[qi f])]) (tEv 0 [] 0 f):=
 YD (xs:=[(true,[.int .i64 0, .N, .int .i64 0]),(false,[.int .i64 f])]) (ys:=[(true,[.int .i64 0, .sl false 4 [], .int .i64 0]),(false,[.int .i64 f])]) ⟨⟨rfl, .refl _, .N 4, .refl _,trivial⟩,⟨rfl, .refl _⟩,trivial⟩
abbrev OvT (m:Ma)(f:Int)(H:List AObj)(r:TV)(Hs':List AObj):=ask (FV.isPt m.o&&true)<|ask (shpB [.int .i64 0, .N, .int .i64 0]<|FV.prow m.o)<|TV.Le (.tup [(true,[qi<|FV.I<|List.getD (FV.prow m.o) 0 FV.N,qf<|List.getD (FV.prow m.o) 1 FV.N,qi<|FV.I<|List.getD (FV.prow m.o) 2 FV.N]),(false,[qi f])]) r/\H=Hs'
def ov_t {m k e}(d:m.o=evM k e)(f){H Hs'}(b:H=Hs'):OvT m f H (tEv k [] e f) Hs'/\FV.isPt m.o=true:=by
 unfold OvT;rw [d];exact ⟨⟨.refl _,b⟩,rfl⟩
def ir_el (V n)(h:n<V.length):([.int .i64<|FV.I<|List.getD (List.getD (IR V) n []) 0 FV.N])=List.getD (IR V) n []:=by
 have e:List.getD (IR V) n []=[.int .i64 V[n]]:=by simp [IR,List.getD,h]
 rw [e];rfl
def full_hq {s}(a){f K}(ok:OkH s)(g:GoodZ s)(n:NmB K s)(f0:0<=f)(j:f<=3000):Hq K s (yP s a f).2/\0<=(yP s a f).1.2.1/\(yP s a f).1.2.1<=f/\(yP s a f).1.2.2≠170:=by
 let ⟨b,i⟩:=cZ s a f f0
 let ⟨e,_,d⟩:=fullS_ok s a f ok f0 (by omega)
 refine ⟨Mv.hq b.up g e<|b.nm n,i,d, ?_⟩;have h:=(Mvr.full (s0:=s) (2*f.toNat+2) (f.toNat+1) (r:=⟨s,f,0⟩) a ⟨.refl s,f0,by simp⟩).2.2;unfold yP
 grind
def avW:List Tm->WV
 |[]=> .a<|.fz .N
 |x::l=> .a<|.osl 13 4 0 (x::l).length
def avB:List Tm->List AObj
 |[]=> []
 |x::l=> [.arz 4<|FTs<|x::l]
def avN:List Tm->Nat
 |[]=>13
 |_::_=>14
abbrev stAn (m:Ma)(V:FV)(n:Int)(vs:List Tm):St:=⟨[(0,aM),(2, .c<|.a<|.ep 11 3 0 0),(4, .c<|.a<|.ep 12 3 0 0),(14, .c<|qf V),(15,ci<|((FV.ses V).length)),(16,ci n)],numO 0<|mSb m<|.arr 3 [[qi 0,qf .N,qi 0]]:: .arr 3 [[qi 0,avW vs,qi 0]]::avB vs,avN vs⟩
def FTs_snoc (l t):List.take l.length (FTs l)++ [FT4 t]=FTs (l++ [t]):=by
 rw [rp<|by rw [zb];exact r9 _,wL,yA];rfl
def Nx (G:Gs)(K:Nat)(F k f:Int)(m':Ma):Prop:=k≠0\/k=0/\m'.w=true/\f=m'.f/\f<=F/\∃ch i,Bs G K m' ch i
def Nx.up {G K K' F F' k f m}(h:Nx G K F k f m)(e:K<=K')(j:F<=F'):Nx G K' F' k f m:=
 h.imp id λ⟨a,b,c,d,g,i,h⟩=>⟨a,b,c,by omega,g,i,h.up e⟩
def l_ans {G K}(hV:G.V.length<=1000000){x}(I:FV.L 1 x=true)(o:FV.ses x=IR G.V){Y i}:∀(W b) (vs) (m),G.V=b++W->vs.length=b.length->Bs G K m Y i->
  ∃k r e f S,RPt Tryz.prog 48 7 (tEv k r e f) (mSb S []) 1 (stAn m x b.length vs)/\Nx G K m.f k f S
 |[],b,vs,m,p,E,h=>by
  have H:¬b.length<(((FV.ses x).length):Int):=by rw [o,zn,p];simp
  refine ⟨0,vs,0,m.f,{ m with w:=true }, ?_, .inr ⟨rfl,rfl,rfl,rk _,Y,i,{ h with }⟩⟩
  match vs with
  |[]=>exact rpv (lq ..)<|bF H ⟨leEv m.f,rfl⟩
  |y::l=>
   refine rpv (oQ ..)<|bF H ⟨⟨⟨rfl,by rw [zb];omega⟩,trivial⟩, ?_⟩
   rw [rR,rp<|by rw [zb];exact r9 _];exact rrl
 |a::W,b,vs,m,p,E,h=>by
  have hlen:b.length<G.V.length:=by rw [p];simp
  have d:b.length<(((FV.ses x).length):Int):=by rw [o,zn];omega
  have O:0<=(b.length:Int):=by omega
  have J:=ir_el G.V (Int.toNat (b.length:Int)) (by omega);rw [<-o] at J;have f0:=h.f0;have f1:=h.f1;have F:=og m.s (FV.I<|List.getD (List.getD (FV.ses x) (Int.toNat b.length) []) 0 FV.N) m.f h.h (by omega) (by omega)
  let ⟨Z,g2,U,g4⟩:=full_hq (FV.I<|List.getD (List.getD (FV.ses x) (Int.toNat b.length) []) 0 FV.N) h.h h.g h.n f0 f1
  generalize yP m.s (FV.I<|List.getD (List.getD (FV.ses x) (Int.toNat b.length) []) 0 FV.N) m.f=z at*
  let ⟨⟨⟨C,v,A,u⟩,left,e⟩,j⟩:=z
  dsimp only at Z g2 U g4 F;have N:=yI { m with s:=j } left e
  by_cases T:e=0
  .subst T;have hb:Bs G K { m with s:=j,f:=left } Y i:=h.hq Z g2 U
   let ⟨k,r,e',f,S,D,M⟩:=l_ans hV I o W (b++ [a]) (vs++ [.mk C v A u]) _ (by rw [p];simp) (by simp [E]) hb
   refine ⟨k,r,e',f,S, ?_,M.up (r9 _) U⟩;have e1:((b++ [a]).length)=wrap .i64 (b.length+1):=by rw [w64 (by omega)<|by omega];simp
   rw [e1] at D
   match vs,E,D with
   |[],E,D=>exact rpv (lq ..)<|bT d ⟨⟨I,O,d,J⟩,(.mk C v A u,left,0,j),F,_,N,bN ⟨r9 _,by decide,D⟩⟩
   |y::l,E,D=>
    refine rpv (oQ ..)<|bT d ⟨⟨I,O,d,J⟩,(.mk C v A u,left,0,j),F,_,N,bN ⟨r9 _,⟨by rw [zb];exact r9 _,by simp at E ⊢;unfold zi;omega⟩, ?_⟩⟩
    rw [FTs_snoc (y::l)<|.mk C v A u];have X:(y::l).length+1=(y::(l++ [Tm.mk C v A u])).length:=by simp
    rw [X];exact D
  .let ⟨o2,k,X,hk,ho⟩:=uq (m:={ m with s:=j }) (l:=left) T g4
   have M:=kD (m:={ m with s:=j }) (l:=left) T
   refine ⟨k,[],X,(y3 { m with s:=j } left e).2.f,(y3 { m with s:=j } left e).2, ?_, .inl hk⟩
   have L:=ov_t ho (y3 { m with s:=j } left e).2.f<|si (λz=>mSb z [])<|zF (m:={ m with s:=j }) (l:=left) (e:=e)
   match vs with
   |[]=>exact rpv (lq ..)<|bT d ⟨⟨I,O,d,J⟩,(.mk C v A u,left,e,j),F,_,N,za (λ_=>zc L.2 L.1) λw=>absurd (by simpa using w) M⟩
   |y::l=>exact rpv (oQ ..)<|bT d ⟨⟨I,O,d,J⟩,(.mk C v A u,left,e,j),F,_,N,za (λ_=>zc L.2 L.1) λw=>absurd (by simpa using w) M⟩
def dc {G K}(g:G.V.length<=1000000){m j i}(h:Bs G K m j i):∃k vs e f b,AC Tryz.prog 48 [aM] (mOb m []) (tEv k vs e f) (mSb b [])/\Nx G K m.f k f b:=by
 let ⟨k,vs,e,f,b,d,o⟩:=l_ans g h.V.1 h.V.2 G.V [] [] m rfl rfl h
 refine ⟨k,vs,e,f,b,acv (v48 ..) ?_,o⟩;exact ⟨h.V.1,d⟩
abbrev stX (m:Ma)(o:Int):St:=⟨[(0,aM),(4, .c<|.a<|.ep 11 3 0 0),(6,ci o)],numO 0<|mSb m [.arr 3 [[qi 0,qf .N,qi 0]]],12⟩
abbrev NxR (G:Gs)(K:Nat)(F:Int)(m:Ma)(o:Int):=∃k vs e f m',RPt Tryz.prog 23 7 (tEv k vs e f) (mSb m' []) 1 (stX m o)/\Nx G K F k f m'
def l_nov {G K F m}(h:Ov m):NxR G K F m 2:=by
 let ⟨k,e,d,g⟩:=h
 have b:=ov_t g m.f (H:=mSb m []) rfl;exact ⟨k,[],e,m.f,m,rpv (YC ..)<|bP<|zc b.2 b.1, .inl d⟩
def iP {G K K' F m y i}(h:Bs G K m y i)(E:m.f<=F)(ih:∀b g u,Bs G (K+1048576) b g u->Go b u->b.f<=m.f->NxR G K' F b 0):NxR G K' F m 1:=by
 let ⟨o,p,C,D,A⟩:=c_back h
 have nx:NxR G K' F p o:=by
  rcases D with ⟨rfl,x,r,i1,j,v⟩|⟨rfl,_⟩|⟨rfl,d⟩
  .exact ih p r i1 j v x
  .exact absurd rfl A
  .exact l_nov d
 let ⟨k,vs,e,f,b,z,w⟩:=nx
 exact ⟨k,vs,e,f,b,rpv (YC ..)<|bN <| bP ⟨(o,p),C,z⟩,w⟩
def l_next {G}(hG:GOk G)(N:G.V.length<=1000000):∀(n K:Nat) (m:Ma) (D) (i),K+n*3145730<=100000000000->m.f<=n->Bs G K m D i->Go m i->NxR G (K+n*3145730) m.f m 0:=by
 intro n
 induction n with
 |zero=>
  intro K m D i Y hn h ⟨k,ws,q,g,T,X,U⟩;cases k with
  |nil=>
   let ⟨k,vs,e,f,j,u,r⟩:=dc N h
   exact ⟨k,vs,e,f,j,rpv (YC ..) (bN <| bN <| za (λ_=>⟨((k,vs,e,f),j),u, .refl _,rfl⟩) λw=>by rw [g] at w;cases w),r.up (by omega)<|rk _⟩
  |mk c v b d k a=>
   have z:=ov_t (m:={ m with o:=evM 4 0 }) (k:=4) (e:=0) rfl m.f (H:=mSb { m with o:=evM 4 0 } []) rfl
   exact ⟨4,[],0,m.f,{ m with o:=evM 4 0 },rpv (YC ..) (bN <| bN <| za (λw=>by rw [g] at w;cases w) λ_=>zc (by rw [g];rfl)<|za (λ_=>⟨(2,{ m with o:=evM 4 0 }),vL m 4 0,zc z.2 z.1⟩) λw=>absurd (rg w)<|by omega), .inl<|by decide⟩
 |succ n ih=>
  intro K m D i Y hn h x
  let ⟨k,ws,q,g,T,X,U⟩:=x
  cases k with
  |nil=>
   let ⟨k,vs,e,f,j,u,r⟩:=dc N h
   exact ⟨k,vs,e,f,j,rpv (YC ..) (bN <| bN <| za (λ_=>⟨((k,vs,e,f),j),u, .refl _,rfl⟩) λw=>by rw [g] at w;cases w),r.up (by omega)<|rk _⟩
  |mk c v b d k a=>
   by_cases S:m.f<=0
   .have z:=ov_t (m:={ m with o:=evM 4 0 }) (k:=4) (e:=0) rfl m.f (H:=mSb { m with o:=evM 4 0 } []) rfl
    exact ⟨4,[],0,m.f,{ m with o:=evM 4 0 },rpv (YC ..) (bN <| bN <| za (λw=>by rw [g] at w;cases w) λ_=>zc (by rw [g];rfl)<|bT S ⟨(2,{ m with o:=evM 4 0 }),vL m 4 0,zc z.2 z.1⟩), .inl<|by decide⟩
   .have f1:=h.f1;have i2:=h.i2;have wr:wrap .i64 (m.f-1)=m.f-1:=w64 (by omega) (by omega);have W:Bs G K { m with f:=m.f-1 } D i:=h.mv (s:=m.s) (.refl _) h.h h.n (by omega) (by omega)
    let ⟨o,L,O,I⟩:=c_mstep hG (by omega) W (by dsimp only;omega) (c:=c) (v:=v) (b:=b) (d:=d) (k:=k) (a:=a) g T X U λt ht hz hi x=>
     nL (by omega) (λC p=>c_number C.f.toNat C p<|by have:=p.f0;omega) W g x t hz hi ht
    have nx:NxR G (K+(n+1)*3145730) m.f L o:=by
     rcases I with ⟨rfl,J,A,i1,y,hg⟩|⟨rfl,J,A,i1,y⟩|⟨rfl,F⟩
     .dsimp only at J
      let ⟨k,vs,e,f,j,u,r⟩:=ih (K+2097154) L A i1 (by omega) (by omega) y hg
      exact ⟨k,vs,e,f,j,u,r.up (by omega)<|by omega⟩
     .dsimp only at J;refine iP y (by omega) λC M i2 p E hf2=> ?_
      let ⟨k,vs,e,f,j,u,r⟩:=ih (K+2097154+1048576) C M i2 (by omega) (by omega) p E
      exact ⟨k,vs,e,f,j,u,r.up (by omega)<|by omega⟩
     .exact l_nov F
    let ⟨Z,vs,e,f,j,u,r⟩:=nx
    rw [<-wr] at O;exact ⟨Z,vs,e,f,j,rpv (YC ..) (bN <| bN <| za (λw=>by rw [g] at w;cases w) λ_=>zc (by rw [g];rfl)<|bF S ⟨(o,L),O,u⟩),r⟩
def c_next {G:Gs}(E:GOk G)(z:G.V.length<=1000000){K:Nat}(J:K+9441336306<=100000000000){m:Ma}{f:Int}{x:List Ch}{i:Im}(h:Bs G K { m with f:=f } x i)(u:m.w=true\/m.w=false/\Go m i):
  ∃k vs e f' b,AC Tryz.prog 23 [aM,ci f] (mOb m []) (tEv k vs e f') (mSb b [])/\Nx G (K+9441336306) f k f' b:=by
 have f0:=h.f0;have D:=h.f1;dsimp only at f0 D;have F:m.o=npF:=h.o;have C:Bs G K { m with f:=f,w:=false } x i:={ h with }
 have A:∀o:Int,NxR G (K+9441336306) f { m with f:=f,w:=false } o->(m.w=true/\o=1\/m.w=false/\o=0)->∃k vs e f' b,AC Tryz.prog 23 [aM,ci f] (mOb m []) (tEv k vs e f') (mSb b [])/\Nx G (K+9441336306) f k f' b:=λo ⟨k,vs,e,f',b,g,p⟩ H=>by
  refine ⟨k,vs,e,f',b,acv (v23 ..) (za (λ_=> ?_) λw=>by rw [F] at w;cases w),p⟩;rcases H with ⟨d,rfl⟩|⟨d,rfl⟩
  .exact za (λ_=>g) λw=>by rw [d] at w;cases w
  .exact za (λw=>by rw [d] at w;cases w) λ_=>g
 rcases u with d|⟨d,u⟩
 .refine A 1 (iP C (rk _) λI y i2 v r j=> ?_)<|.inl ⟨d,rfl⟩
  obtain ⟨k,vs,e,f',b,g,p⟩:=l_next E z 3000 (K+1048576) I y i2 (by omega) (by dsimp only at j;omega) v r;exact ⟨k,vs,e,f',b,g,p.up (by omega)<|by dsimp only at j;omega⟩
 .obtain ⟨k,vs,e,f',b,g,p⟩:=l_next E z 3000 K { m with f:=f,w:=false } x i (by omega) D C<|u.of rfl rfl rfl
  exact A 0 ⟨k,vs,e,f',b,g,p.up (by omega)<|rk _⟩<|.inr ⟨d,rfl⟩
def pq {m:Ma}{k e:Int}(d:m.o=evM k e)(f:Int):AC Tryz.prog 23 [aM,ci f] (mOb m []) (tEv k [] e f) (mSb m []):=by
 have b:=ov_t d f (H:=mSb m []) rfl;exact acv (v23 ..)<|za (λw=>by rw [d] at w;cases w) λ_=>zc b.2<|zc b.2 b.1
def oddB (c:Cd):=if c.fr=0 then !vC c else true
def c_odd (c)(b:c.sz<=B)(d:nbC c):AC Tryz.prog 24 [aC c] [] (cb<|oddB c) []:=by
 refine acv (v24 ..) ?_;unfold oddB;refine za (λh=> ?_) λh=> ?_
 .rw [r8<|by simpa using h];exact rrl
 .rw [ri<|by simpa using h];exact ⟨_,c_cvalid c b d, .refl _,rfl⟩
def fstB:List Cd->Int->Int
 |[],_=> -1
 |c::l,i=>if oddB c=true then i else fstB l<|i+1
def bv:∀(l) (i),0<=i->decide (fstB l i>=0)=l.any oddB
 |[],i,_=>by simp [fstB]
 |c::l,i,h=>by
  have:=bv l (i+1) (by omega);rw [fstB,sK];split
  .rename_i q;rw [q];simp;omega
  .rename_i q;rw [this];simp [Bool.not_eq_true] at q;rw [q];rfl
def l_ixR (l)(f:l.length<=1000000):∀(b a),l=a++b->(∀c∈b,c.sz<=B/\nbC c)->
  RPt Tryz.prog 56 0 (ci<|fstB b a.length) [] 1 ⟨[(0,aCs l),(1, .c<|.fn (.func 24) [] []),(7,ci<|((FCs l).length)),(8,ci a.length)],[],0⟩
 |[],a,d,_=>by
  refine rpv (Xo ..)<|bF (by rw [zq,d];simp) rrl
 |c::b,a,d,g=>by
  have i:a.length<=1000000:=by rw [d] at f;simp at f;omega
  have e:a.length<(((FCs l).length):Int):=by rw [zq,d];simp;omega
  have m:=kR a c b;rw [<-d] at m;have o:=c_odd c (g c rn).1 (g c rn).2;have ih:=l_ixR l f b (a++ [c]) (by rw [d];simp) λx p=>g x<|rh _ p
  rw [show ((a++ [c]).length)=a.length+1 by simp] at ih;refine rpv (Xo ..) ?_;rw [w64 (x:=a.length+1) (by omega)<|by omega,m];refine bT e ⟨⟨rfl,by omega,e,qV c⟩,oddB c,by have j:=o;rw [<-(jy c)] at j;exact j, ?_⟩;rw [fstB];exact za (λh=>by rw [ri h];exact rrl) λh=>by rw [r8<|by rw [h];simp];exact ih
def jf (l:List Cd)(g:Cd):= !oddB g&&(decide (g.ar=0) && !l.any oddB)
def WD (l g)(h:l.length<=1000000)(m:∀c∈l,c.sz<=B/\nbC c)(i:g.sz<=B)(j:nbC g):AC Tryz.prog 9 [aCs l,aC g] [] (cb<|jf l g) []:=by
 have o:=c_odd g i j;have e:AC Tryz.prog 56 [aCs l, .c _] [] (ci<|fstB l 0) []:=acv (v56_F24 ..) ⟨rfl,l_ixR l h l [] rfl m⟩
 have f:AC Tryz.prog 26 [aCs l, .c<|.fn (.func 24) [] []] [] (cb<|l.any oddB) []:=by
  refine acv (v26_F24 ..) ⟨_,e, ?_⟩;rw [bv l 0<|rk _];exact rrl
 refine acv (v9 ..) ⟨_,o,za (λd=>za (λb=>⟨_,f, ?_,rfl⟩) λb=>⟨?_,rfl⟩) λd=>⟨?_,rfl⟩⟩
 .rw [jf,d,show decide (g.ar=0)=true by simpa using b];exact .refl _
 .rw [jf,show decide (g.ar=0)=false by simpa using b,rQ,s7];exact .refl _
 .rw [jf,d,rQ];exact .refl _
def hp0:Hp:=⟨[],[],zH [zp [3000,0],1048576],zH [zp [3000,0],1048576],[]⟩
abbrev WX:TV:= .agg [qi 3000,qi 3000,qi 300]
abbrev ma0 (l:List Cd)(T:FV):Ma:=⟨hp0, .sl false 6<|FCs l,T,zp [300,0], .N,npF,0, .N,0,npF,0,[],0,false,npF⟩
def sgA (i:Nat):=if i=11 then 12 else if i=12 then 13 else if i=13 then 11 else i
def sgB (i:Nat):=if i=11 then 12 else if i=12 then 11 else i
abbrev argF (a:Int):=[aM, .agg [.a<|.ep 7 6 0 0,qf .N],aPl .nil a]
def lA {m0 m c b d a n x s}(h:AC Tryz.prog 35 (argF n) (mOb m0 [cdO c]) (okT 12)<|mSc m (cdO c)<|frOB c 13 b d a<|some<|x::s):
  AC Tryz.prog 35 (argF n) (mOb m0 [cdO c]) (okT 11) (moO 1 13 m::hpO 8 9 10 5 m.s:: .gone:: .gone:: .gone:: .mapz (NM m.s.N 0):: .gone::cdO c:: .arz 5 (CR m.s.C):: .arz 7 (TR m.s.T):: .arz 1 (NR m.s.N):: .arr 6 [[.a<|.ep 7 6 0 0, .a<|.osl 12 1 0 (x::s).length,qi b,qi d,qf npF,qi a]]:: .arz 1 (IR<|x::s)::[.arz 10 m.C]):=by
 refine h.renum sgA _ _ rfl rfl rfl (λi f=> ?_) (λi j _ _ e=> ?_) (λi f=> ?_) (by simp)
 .match i,f with
  |0,_|1,_|2,_|3,_|4,_|5,_|6,_|7,_|8,_|9,_|10,_|11,_|12,_|13,_=>rfl
  |n+14,f=>simp at f;omega
 .unfold sgA at e;repeat' split at e
  all_goals omega
 .unfold sgA;simp at f;repeat' split
  all_goals omega
def l6 {m0 m c b d a n}{o:SlO}(g:o=none\/o=some [])(h:AC Tryz.prog 35 (argF n) (mOb m0 [cdO c]) (okT 12)<|mSc m (cdO c)<|frOB c 13 b d a o):
  AC Tryz.prog 35 (argF n) (mOb m0 [cdO c]) (okT 11) (moO 1 12 m::hpO 8 9 10 5 m.s:: .gone:: .gone:: .gone:: .mapz (NM m.s.N 0):: .gone::cdO c:: .arz 5 (CR m.s.C):: .arz 7 (TR m.s.T):: .arz 1 (NR m.s.N):: .arr 6 [[.a<|.ep 7 6 0 0,qf<|slF o,qi b,qi d,qf npF,qi a]]::[.arz 10 m.C]):=by
 rcases g with rfl|rfl
 all_goals
  refine h.renum sgB _ _ rfl rfl rfl (λi f=> ?_) (λi j _ _ e=> ?_) (λi f=> ?_) (by simp)
  .match i,f with
   |0,_|1,_|2,_|3,_|4,_|5,_|6,_|7,_|8,_|9,_|10,_|11,_|12,_=>rfl
   |n+13,f=>simp at f;omega
  .unfold sgB at e;repeat' split at e
   all_goals omega
  .unfold sgB;simp at f;repeat' split
   all_goals omega
def nB (c):flat (cdO c)= .arr 6 ([FC c].map fzs):=by rw [yZ];rfl
def ice_v (o k V)(b:k<=V.length):AV.ice o 1 (IR V) (.osl o 1 0 k)= .fz (.sl (!k==0) 1<|IR<|V.take k):=by
 rw [AV.ice,ri ⟨rfl,rfl,by rw [zn];omega⟩,rR];simp [IR,t9]
abbrev NwG (l:List Cd)(g:Cd)(idx:Bool):Prop:=∃m,AC Tryz.prog 15 [aCs l,aC g,WX,cb idx] [] aM (mOb m [])/\(Ov m\/∃G,GOk G/\G.V.length<=1000000/\m.w=false/\Go m .nil/\∀f,0<=f->f<=3000->Bs G 0 { m with f:=f } [] .nil)
def new_bad (l g idx)(f:l.length<=1000000)(h:∀c∈l,c.sz<=B/\nbC c)(i:g.sz<=B)(d:nbC g)(j:jf l g=false):
  ∃m,AC Tryz.prog 15 [aCs l,aC g,WX,cb idx] [] aM (mOb m [])/\m.o=evM 2 0:=by
 have e:=c_hnew 3000 3000;have b:=WD l g f h i d;rw [j] at b;refine ⟨{ ma0 l npF with o:=evM 2 0 },acv (v15 ..) ?_,rfl⟩
 exact ⟨_,e,_,b,bP ⟨(2,{ ma0 l npF with o:=evM 2 0 }),vL _ 2 0, .refl _,rfl⟩⟩
def hp0_ok:OkH hp0/\GoodZ hp0/\NmB 0 hp0/\IH hp0:=
 ⟨⟨by decide,by decide,by decide,by decide⟩,λe b=>(by cases b),by show 0<=0+0;omega,λc d=>(by cases d),λe b=>(by cases b)⟩
def new_bs {l:List Cd}{g:Cd}{T:FV}{e:Hp}{o:SlO}{V:FV}(d:Gr hp0 e)(b:CdOk g)(j:g.fr=0)(r:g.ar=0)(v:GOk ⟨l,T,(slL o).take g.vs.toNat⟩)(z:(slL o).length=max g.vs.toNat g.sl.toNat)(y:FV.L 1 V=true/\FV.ses V=IR ((slL o).take g.vs.toNat)):
  ∃G,GOk G/\G.V.length<=1000000/\Go ⟨e, .sl false 6<|FCs l,T,zp [300,0],V,frF<|.mk g o 0 1 .nil 0,0, .N,0,npF,0,[],0,false,npF⟩ .nil/\
   ∀f,0<=f->f<=3000->Bs G 0 ⟨e, .sl false 6<|FCs l,T,zp [300,0],V,frF<|.mk g o 0 1 .nil 0,0, .N,0,npF,0,[],f,false,npF⟩ [] .nil:=by
 have w:=b.cnt;obtain ⟨u,i,h,x⟩:=hp0_ok;have m:=d.1.later i;refine ⟨_,v, ?_,⟨.mk g o 0 1 .nil 0,[],0,rfl, .inr ⟨rfl,rfl⟩,Pc.first (q:=0) b (by omega) (rk _) rfl (by decide) (by omega) (.nil _ _),r9 _⟩,λf f0 p=> ?_⟩
 .grind
 .exact ⟨d.2.1 u,m.1,d.2.2 0 h,d.1.ih x,by show zp [300,0]<=300;decide,rfl,rfl,y,rfl,f0,p,rfl,trivial,by simp only [imD];omega,⟨[], .inr ⟨rfl,rfl⟩⟩,rfl,by simp,rfl,λc b=>(by cases b), .nil,λc b=>(by cases b)⟩
def odd_fr {c}(h:oddB c=false):c.fr=0:=by
 unfold oddB at h
 grind
def new_good (l g idx)(Z:l.length<=8)(D:∀c∈l,CdOk c/\nbC c)(F:CdOk g)(hn:nbC g)(r:jf l g=true):NwG l g idx:=by
 have M:=c_hnew 3000 3000;have E:=WD l g (by omega) (λc h=>⟨(D c h).1.2.1,(D c h).2⟩) F.2.1 hn;rw [r] at E;have L:=c_inewz l Z λc h=>(D c h).1.2.1
 have ⟨hfr,har,hfl⟩:g.fr=0/\g.ar=0/\∀c∈l,c.fr=0:=by
  simp [jf,rf,sB,rK,List.any_eq_false] at r;exact ⟨odd_fr r.1,r.2.1,λc h=>odd_fr<|by simpa using r.2.2 c h⟩
 have y:=F.cnt;obtain ⟨T,i⟩:∃T:FV,T=(if idx=true then .pt [.mp<|tabZ<|tabT l 0 []] else npF):=⟨_,rfl⟩
 have hG:∀V,GOk ⟨l,T,V⟩:=λV=>⟨Z,λc h=>⟨(D c h).1,hfl c h⟩,by rw [i];cases idx<;>simp⟩;obtain ⟨b,Y,⟨e,he,f⟩|⟨o,p,_,f⟩⟩:=c_frameB (ma0 l T) g 0 hp0_ok.1 hfr (by omega) (by omega)
 .have A:e≠0:=by omega
  refine ⟨(y3 { ma0 l T with s:=b } 0 e).2,acv (v15 ..) ⟨_,M,_,E,bN <| ?_⟩, .inl (uq A<|by omega).2⟩
  have X:=kD (m:={ ma0 l T with s:=b }) (l:=0) A
  have j:=yI { ma0 l T with s:=b } 0 e
  cases idx<;>subst i
  .exact bN <| .inl ⟨(e,_),f,_,j,za (λw=>absurd (by simpa using w) X) λ_=>⟨.refl _,si (λz=>mOb z []) zF⟩⟩
  .exact bP ⟨_,L, .inl ⟨(e,_),f,_,j,za (λw=>absurd (by simpa using w) X) λ_=>⟨.refl _,si (λz=>mOb z []) zF⟩⟩⟩
 .have j:=yI { ma0 l T with s:=b } 0 0
  by_cases d:o=none\/o=some []
  .have f:=l6 d f;have hl0:(slL o).length=0:=by rcases d with rfl|rfl<;>rfl
   have W:Int.toNat g.vs=0:=by omega
   have S:FV.L 1 (slF o)=true/\(((FV.ses<|slF o).length))=0:=by rcases d with rfl|rfl<;>exact ⟨rfl,rfl⟩
   have u:0<=g.vs:=y.2.2.2.1;have v:g.vs<=(((FV.ses<|slF o).length)):=by rw [S.2];omega
   have I:FV.L 1 (FV.cut (slF o) 0<|Int.toNat g.vs)=true/\FV.ses (FV.cut (slF o) 0<|Int.toNat g.vs)=IR ((slL o).take g.vs.toNat):=by rw [W];rcases d with rfl|rfl<;>exact ⟨rfl,rfl⟩
   have K:AC Tryz.prog 15 [aCs l,aC g,WX,cb idx] [] aM (.arr 14 [[.a<|.ep 1 6 0 0,qf<|.sl false 6<|FCs l,qf T,qi<|zp [300,0],qf<|FV.cut (slF o) 0<|Int.toNat g.vs, .a<|.ep 6 6 0 0,qi 0,qf .N,qi 0,qf npF, .a<|.osl 8 10 0 0,qi 0,qf<|.bool false,qf npF]]::
     hpO 2 3 4 5 b:: .arz 5 (CR b.C):: .arz 7 (TR b.T):: .arz 1 (NR b.N):: .mapz (NM b.N 0):: .arr 6 [[.a<|.ep 7 6 0 0,qf<|slF o,qi 0,qi 1,qf npF,qi 0]]::cdO g::[.arz 10 []]):=by
    refine acv (v15 ..) ⟨_,M,_,E,bN <| ?_⟩;cases idx<;>subst i
    .exact bN <| .inr<|.inr ⟨(_,npF,slF o,0,1,npF,0),f,_,j,bP ⟨S.1,⟨rk _,u,v⟩, .refl _,rfl⟩⟩
    .exact bP ⟨_,L, .inr<|.inr ⟨(_,npF,slF o,0,1,npF,0),f,_,j,bP ⟨S.1,⟨rk _,u,v⟩, .refl _,rfl⟩⟩⟩
   have hD:=((K.ice 7 6 [FC g]<|nB g).ice 6 6 [[.pt<|FC g,slF o, .int .i64 0, .int .i64 1,npF, .int .i64 0]] rfl).skip 6 2 (mOb ⟨b, .sl false 6<|FCs l,T,zp [300,0],FV.cut (slF o) 0<|Int.toNat g.vs,frF<|.mk g o 0 1 .nil 0,0, .N,0,npF,0,[],0,false,npF⟩ []) aM rfl rfl rfl rfl (by simp) (by simp)
   let ⟨G,U,O,J,H⟩:=new_bs Y F hfr har (hG _) p I
   exact ⟨_,hD, .inr ⟨G,U,O,rfl,J,H⟩⟩
  .match o,p,f,d with
   |none,_,_,d=>exact absurd (.inl rfl) d
   |some [],_,_,d=>exact absurd (.inr rfl) d
   |some (x::s),p,f,_=>
    have f:=lA f;have u:0<=g.vs:=y.2.2.2.1;have v:g.vs<=(((x::s).length:Nat)):=by simp only [slL,rP] at p;omega
    have W:g.vs.toNat<=(x::s).length:=by simp [slL,rP] at p;omega
    have K:AC Tryz.prog 15 [aCs l,aC g,WX,cb idx] [] aM (.arr 14 [[.a<|.ep 1 6 0 0,qf<|.sl false 6<|FCs l,qf T,qi<|zp [300,0], .a<|.osl 6 1 0<|Int.toNat g.vs, .a<|.ep 7 6 0 0,qi 0,qf .N,qi 0,qf npF, .a<|.osl 9 10 0 0,qi 0,qf<|.bool false,qf npF]]::
      hpO 2 3 4 5 b:: .arz 5 (CR b.C):: .arz 7 (TR b.T):: .arz 1 (NR b.N):: .mapz (NM b.N 0):: .arz 1 (IR<|x::s):: .arr 6 [[.a<|.ep 8 6 0 0, .a<|.osl 6 1 0 (x::s).length,qi 0,qi 1,qf npF,qi 0]]::cdO g::[.arz 10 []]):=by
     refine acv (v15 ..) ⟨_,M,_,E,bN <| ?_⟩;cases idx<;>subst i
     .exact bN <| .inr<|.inl ⟨(_,npF,x::s,0,1,npF,0),f,_,j,bP ⟨⟨rk _,u,v⟩, .refl _,rfl⟩⟩
     .exact bP ⟨_,L, .inr<|.inl ⟨(_,npF,x::s,0,1,npF,0),f,_,j,bP ⟨⟨rk _,u,v⟩, .refl _,rfl⟩⟩⟩
    have hB:AC Tryz.prog 15 [aCs l,aC g,WX,cb idx] [] aM (.arr 14 [[.a<|.ep 1 6 0 0,qf<|.sl false 6<|FCs l,qf T,qi<|zp [300,0], .a<|AV.ice 6 1 (IR<|x::s)<|.osl 6 1 0<|Int.toNat g.vs, .a<|.ep 7 6 0 0,qi 0,qf .N,qi 0,qf npF, .a<|.osl 9 10 0 0,qi 0,qf<|.bool false,qf npF]]::
      hpO 2 3 4 5 b:: .arz 5 (CR b.C):: .arz 7 (TR b.T):: .arz 1 (NR b.N):: .mapz (NM b.N 0):: .gone:: .arr 6 [[.a<|.ep 8 6 0 0, .a<|AV.ice 6 1 (IR<|x::s)<|.osl 6 1 0 (x::s).length,qi 0,qi 1,qf npF,qi 0]]::cdO g::[.arz 10 []]):=K.ice 6 1 (IR<|x::s) rfl
    rw [ice_v 6 _ _ W,ice_sl 6 0] at hB;have hD:=((hB.ice 8 6 [FC g]<|nB g).ice 7 6 [[.pt<|FC g, .sl true 1<|IR<|x::s, .int .i64 0, .int .i64 1,npF, .int .i64 0]] rfl).skip 6 3 (mOb ⟨b, .sl false 6<|FCs l,T,zp [300,0], .sl (!(g.vs.toNat==0)) 1<|IR<|(x::s).take g.vs.toNat,frF<|.mk g (some<|x::s) 0 1 .nil 0,0, .N,0,npF,0,[],0,false,npF⟩ []) aM rfl rfl rfl rfl (by simp) (by simp)
    let ⟨G,U,O,J,H⟩:=new_bs (V:= .sl (!(g.vs.toNat==0)) 1<|IR<|(x::s).take g.vs.toNat) Y F hfr har (hG _) p ⟨rfl,rfl⟩
    exact ⟨_,hD, .inr ⟨G,U,O,rfl,J,H⟩⟩
abbrev stE (m:Ma)(f:Int)(rows:List<|List FV):St:=⟨[(4,ci 4),(5,ci f),(13,aM),(14, .c<|.a<|.osl 7 3 0 rows.length)],numO 0<|mOb m [.arz 3 rows],8⟩
abbrev aEs (rows:List<|List FV):TV:= .c<|qf<|.sl false 3 rows
abbrev evR (k:Int)(vs:List Tm)(e:Int):List FV:=[.int .i64 k, .sl false 4<|FTs vs, .int .i64 e]
def l_ev {G}(u:GOk G)(C:G.V.length<=1000000):∀(n) (rows) (K) (m) (f) (r) (i),rows.length+n=4->1<=rows.length->K+n*9441336306<=100000000000->Bs G K { m with f:=f } r i->m.w=true->
  ∃b,b ≠ []/\RPt Tryz.prog 8 0 (aEs b) [] 1 (stE m f rows)
 |0,rows,K,m,f,r,i,H,y,I,h,x=>by
  refine ⟨rows,by intro e;simp [e] at y,rpv (v8_1b ..)<|bF (by omega) ⟨⟨rfl,by omega⟩, ?_⟩⟩;rw [rR,rp<|r9 _];exact rrl
 |n+1,rows,K,m,f,r,i,H,y,I,h,x=>by
  have g:(rows.length:Int)<4:=by omega
  let ⟨k,vs,e,f',d,D,j⟩:=c_next u C (by omega) h<|.inl x
  have E:List.take rows.length rows++ [evR k vs e]=rows++ [evR k vs e]:=by rw [rp<|r9 _]
  have v:rows.length<=rows.length/\zi (rows.length+1) 40:=⟨r9 _,by unfold zi;omega⟩;by_cases A:k=0
  .subst A;rcases j with j|⟨_,p,rfl,L,o,i2,F⟩
   .exact absurd rfl j
   .let ⟨b,J,z⟩:=l_ev u C n (rows++ [evR 0 vs e]) (K+9441336306) d d.f o i2 (by simp;omega) (by simp) (by omega) F p
    refine ⟨b,J,rpv (v8_1b ..)<|bT g ⟨((0,vs,e,d.f),d),D,r9 _,v,bN <| ?_⟩⟩;rw [stE,<-E,re,ry,Nat.min_self] at z;exact z
  .refine ⟨rows++ [evR k vs e],by simp,rpv (v8_1b ..)<|bT g ⟨((k,vs,e,f'),d),D,r9 _,v,za (λ_=>⟨⟨rfl,by simp⟩, ?_⟩) λw=>absurd (by simpa using w) A⟩⟩;rw [rR,rp<|by simp,<-E];exact rrl
def c_evGood {l g idx}(h:NwG l g idx):∃rows,rows ≠ []/\AC Tryz.prog 8 [aCs l,aC g,WX,cb idx,ci 4,ci 3000] [] (aEs rows) []:=by
 let ⟨m,A,C⟩:=h
 have F:∃rows,rows ≠ []/\RPt Tryz.prog 8 0 (aEs rows) [] 1 ⟨[(4,ci 4),(5,ci 3000),(13,aM),(14, .c<|qf .N)],numO 0<|mOb m [],7⟩:=by
  rcases C with ⟨k,e,i,E⟩|⟨G,u,v,z,I,o⟩
  .exact ⟨[evR k [] e],by simp,rpv (v8_1a ..) ⟨rfl,bP ⟨((k,[],e,3000),m),pq E 3000,r9 _,by decide,za (λ_=>⟨⟨rfl,r9 _⟩, .refl _,rfl⟩) λw=>absurd (by simpa using w) i⟩⟩⟩
  .let ⟨k,vs,e,f',d,x,j⟩:=c_next u v (by omega) (o 3000 (by omega)<|by omega)<|.inr ⟨z,I⟩
   by_cases i:k=0
   .subst i;rcases j with j|⟨_,r,rfl,K,p,i2,o⟩
    .exact absurd rfl j
    .let ⟨b,H,D⟩:=l_ev u v 3 [evR 0 vs e] (0+9441336306) d d.f p i2 (by simp) (by simp) (by omega) o r
     exact ⟨b,H,rpv (v8_1a ..) ⟨rfl,bP ⟨((0,vs,e,d.f),d),x,r9 _,by decide,bN D⟩⟩⟩
   .exact ⟨[evR k vs e],by simp,rpv (v8_1a ..) ⟨rfl,bP ⟨((k,vs,e,f'),d),x,r9 _,by decide,za (λ_=>⟨⟨rfl,r9 _⟩, .refl _,rfl⟩) λw=>absurd (by simpa using w) i⟩⟩⟩
 let ⟨rows,J,y⟩:=F
 exact ⟨rows,J,acv (v8 ..) ⟨m,A,y⟩⟩
def c_evBad {l g idx m}(b:AC Tryz.prog 15 [aCs l,aC g,WX,cb idx] [] aM<|mOb m [])(d:m.o=evM 2 0):AC Tryz.prog 8 [aCs l,aC g,WX,cb idx,ci 4,ci 3000] [] (aEs [evR 2 [] 0]) []:=
 acv (v8 ..) ⟨m,b,rpv (v8_1a ..) ⟨rfl,bP ⟨((2,[],0,3000),m),pq d 3000,r9 _,by decide,bP ⟨⟨rfl,r9 _⟩, .refl _,rfl⟩⟩⟩⟩
end Go.AM

namespace Go.AM
open Go.IntKind (wrap)
section
variable {β:Type}
def oN (n:Nat)(K:Nat->β):=match n with
 |0=>K 0
 |k+1=>K<|k+1
def oI (n:Int)(K:Int->β):=match n with
 |.ofNat k=>oN k λk=>K<|.ofNat k
 |.negSucc k=>oN k λk=>K<|.negSucc k
def oL {α:Type}(f:α->(α->β)->β):List α->(List α->β)->β
 |[],K=>K []
 |x::l,K=>f x λx=>oL f l λl=>K<|x::l
def o1 {α:Type}(x:α)(K:α->β):=K x
def oB (b:Bool)(K:Bool->β):=match b with
 |true=>K true
 |false=>K false
def oF (x:FV)(K:FV->β):=match x with
 |.int k n=>oI n λn=>K<|.int k n
 |.bool b=>oB b λb=>K<|.bool b
 |.str l=>oL o1 l λl=>K<|.str l
 |.sl nn n es=>oB nn λnn=>oN n λn=>oL (oL o1) es λes=>K<|.sl nn n es
 |.pt cs=>oL o1 cs λcs=>K<|.pt cs
 |.mp es=>oL o1 es λes=>K<|.mp es
 |.z0 nn=>oB nn λnn=>K<|.z0 nn
 |.N=>K .N
 |.cst v=>K<|.cst v
def oA (x:AV)(K:AV->β):=match x with
 |.fz x=>oF x λx=>K<|.fz x
 |.ep o n i j=>oN o λo=>oN n λn=>oN i λi=>oN j λj=>K<|.ep o n i j
 |.osl o n i j=>oN o λo=>oN n λn=>oN i λi=>oN j λj=>K<|.osl o n i j
 |.mp o=>oN o λo=>K<|.mp o
 |.bld t o=>oN t λt=>oN o λo=>K<|.bld t o
 |.osb o e n=>oN o λo=>oN e λe=>oN n λn=>K<|.osb o e n
 |.any=>K .any
def oP {α γ:Type}(f:α->(α->β)->β)(g:γ->(γ->β)->β)(p:α×γ)(K:α×γ->β):=match p with
 |(a,b)=>f a λa=>g b λb=>K (a,b)
def oW (x:WV)(K:WV->β):=match x with
 |.a x=>oA x λx=>K<|.a x
 |.fn f a b=>oL (oP oB<|oL oA) a λa=>oL (oP oB<|oL oA) b λb=>K<|.fn f a b
def oT (x:TV)(K:TV->β):=match x with
 |.any=>K .any
 |.c x=>oW x λx=>K<|.c x
 |.agg cs=>oL oW cs λcs=>K<|.agg cs
 |.tup vs=>oL (oP oB<|oL oW) vs λvs=>K<|.tup vs
def oO (x:AObj)(K:AObj->β):=match x with
 |.gone=>K .gone
 |.arr n es=>oN n λn=>oL (oL oW) es λes=>K<|.arr n es
 |.arz n fs=>oN n λn=>oL (oL oF) fs λfs=>K<|.arz n fs
 |.mapo es=>oL (oP (oP oB<|oL oF)<|oP oB<|oL oW) es λes=>K<|.mapo es
 |.mapz es=>oL (oP (oP oB<|oL oF)<|oP oB<|oL oF) es λes=>K<|.mapz es
def kM {α:Type}(f:α->(α->β)->β):Prop:=∀x K,f x K=K x
def yq:kM (oN (β:=β)):=λx K=>by cases x<;>rfl
def opens_I:kM (oI (β:=β)):=λx K=>by cases x<;>(simp [oI];rw [yq])
def Ws {α}:kM (o1 (α:=α) (β:=β)):=λ_ _=>rfl
def wU:kM (oB (β:=β)):=λx K=>by cases x<;>rfl
def zK {α}{f:α->(α->β)->β}(h:kM f):kM (oL f):=λl=>by
 induction l with
 |nil=>exact λ_=>rfl
 |cons x l ih=>intro K;simp [oL];rw [h,ih]
def wW {α d}{f:α->(α->β)->β}{g:d->(d->β)->β}(e:kM f)(h:kM g):kM (oP f g):=λp K=>by
 let ⟨a,b⟩:=p
 simp [oP];rw [e,h]
def ZX:kM (oF (β:=β)):=λx K=>by
 cases x<;>simp [oF]
 .rw [opens_I]
 .rw [wU]
 .rw [zK Ws]
 .rw [wU,yq,zK<|zK Ws]
 .rw [wU]
 .rw [zK Ws]
 .rw [zK Ws]
def gu:kM (oA (β:=β)):=λx K=>by
 cases x<;>simp [oA]
 .rw [ZX]
 .rw [yq,yq,yq,yq]
 .rw [yq,yq,yq,yq]
 .rw [yq]
 .rw [yq,yq]
 .rw [yq,yq,yq]
def YA:kM (oW (β:=β)):=λx K=>by
 cases x<;>simp [oW]
 .rw [gu]
 .rw [zK<|wW wU<|zK gu,zK<|wW wU<|zK gu]
def Y0:kM (oT (β:=β)):=λx K=>by
 cases x<;>simp [oT]
 .rw [YA]
 .rw [zK YA]
 .rw [zK<|wW wU<|zK YA]
def fw:kM (oO (β:=β)):=λx K=>by
 cases x<;>simp [oO]
 .rw [yq,zK<|zK YA]
 .rw [yq,zK<|zK ZX]
 .rw [zK<|wW (wW wU<|zK ZX)<|wW wU<|zK YA]
 .rw [zK<|wW (wW wU<|zK ZX)<|wW wU<|zK ZX]
end
abbrev RunF:=FuncId->List TV->List AObj->Option (TV×List AObj)
def YY (P:Program)(run:RunF):=∀f args Hs r Hs',run f args Hs=some (r,Hs')->AC P f args Hs r Hs'
def pP:AV->AV->Bool
 |.fz (.int k n), .fz (.int k' n')=>(decide (k=k')&&decide (n=n'))
 |.ep a b c d, .ep a' b' c' d'=>Nat.beq a a'&&Nat.beq b b'&&Nat.beq c c'&&Nat.beq d d'
 |_,_=>false
def c7:List WV->List WV->Bool
 |[],[]=>true
 |.a x::l, .a y::r=>pP x y&&c7 l r
 |_,_=>false
def sameO:AObj->AObj->Bool
 |.arr n [e], .arr n' [e']=>Nat.beq n n'&&c7 e e'
 |_,_=>false
def iE {x y}(h:pP x y=true):x=y:=by
 unfold pP at h;split at h
 .grind
 .simp_all
 .cases h
def K0:∀ {x y},c7 x y=true->x=y
 |[],[],_=>rfl
 |.a x::l, .a y::r,h=>by
  simp [c7,rf] at h;rw [iE h.1,K0 h.2]
 |[],_::_,h=>by cases h
 |.a _::_,[],h=>by cases h
 |.fn _ _ _::_,[],h=>by cases h
 |.fn _ _ _::_, .a _::_,h=>by cases h
 |.fn _ _ _::_, .fn _ _ _::_,h=>by cases h
 |.a _::_, .fn _ _ _::_,h=>by cases h
def sameO_eq {x y}(h:sameO x y=true):x=y:=by
 unfold sameO at h;split at h
 .simp only [rf] at h;rw [rB h.1,K0 h.2]
 .cases h
def keptX (u:AHeap)(h:Nat->AObj)(ids:List Nat):=ids.filter λi=>match zD u i with|some y=>sameO y (h i)|none=>false
def dD (run:RunF)(f:FuncId)(args:List TV)(h:Nat->AObj)(fr:Nat):Option (TV×AHeap×List Nat):=
 match Ks h 400 (args.flatMap TV.ids) [] with
 |ids=>match uX ids&&ids.all (λo=>WY (h o)&&(h o).inn ids)&&args.all (TV.inn ids)&&ids.all (λo=>Nat.blt o fr) with
  |true=>match run f (args.map<|TV.ren<|inv ids) (ids.map λo=>(h o).ren<|inv ids) with
   |some (r,Hs')=>match Nat.ble Hs'.length (ids.length+32) with
    |true=>match keptX (zY (sub ids fr) ids Hs') h ids with
     |F=>some (r.ren<|sub ids fr,(zY (sub ids fr) ids Hs'++yW (sub ids fr) fr (Hs'.drop ids.length)).filter λp=> !F.contains p.1,ids)
    |false=>none
   |none=>none
  |false=>none
def gc {P g}(F:YY P g){f args h fr r u rd}(d:dD g f args h fr=some (r,u,rd)):
  CallK P f args h fr λr' G o=>r'=r/\G=u/\o=rd:=by
 unfold dD at d;generalize Ks h 400 _ []=b at d;simp only at d;split at d
 .rename_i x;simp only [rf] at x
  let ⟨⟨⟨C,E⟩,D⟩,p⟩:=x
  have p:=λi m=>rL<|rH.1 p i m
  have z:=Zj (fr:=fr) D;have w:=uF (fr:=fr) E;split at d
  .rename_i r0 Hs' e;split at d
   .rename_i j;simp only [rc,rN] at d;refine ⟨b,[],_,_,_,_,F _ _ _ _ _ e,⟨yO C,p⟩,rL j,w.1, ?_,z.2,w.2, .inl rfl,keptX (zY (sub b fr) b Hs') h b,λi m=> ?_,by grind⟩
    .rw [yb,z.1];exact vn
    .have v:=(List.mem_filter.1 m).2;split at v
     .rename_i y A;rw [A,sameO_eq v]
     .cases v
   .cases d
  .cases d
 .cases d
def callX (run:RunF)(mode:FuncId->Nat)(f:FuncId)(args:List TV)(h:Nat->AObj)(fr:Nat):Option (TV×AHeap×List Nat):=
 match Nat.ble (mode f) 1 with
 |true=>dD run f args h fr
 |false=>match args.flatMap (Yp h) with
  |L=>match dD run f (args.map<|TV.lend L) (over (L.map λp=>(p.1,AObj.gone)) h) fr with
   |some (r,u,rd)=>some (r,u++L.map λp=>(p.1,AObj.gone),rd++L.map Prod.fst)
   |none=>none
def callX_ok {P d g}(m:YY P d){f args h fr r u rd}(b:callX d g f args h fr=some (r,u,rd)):
  CallE P f args h fr λr' w i=>r'=r/\w=u/\i=rd:=by
 unfold callX at b;split at b
 .refine ⟨[],(λp v=>by cases v), ?_⟩;rw [yb];have e:over (([]:Lent).map λp=>(p.1,AObj.gone)) h=h:=by funext o;rfl
  exact (gc m b).imp λr u rd j=>by grind
 .refine ⟨args.flatMap _,jE.ok, ?_⟩;simp at b;split at b
  .rename_i y z x j;refine (gc m j).imp λr u rd j=> ?_
   grind
  .cases b
section
variable (P:Program) (run:RunF) (mode:FuncId->Nat)
def stepX (fr:Nat)(o:Oper)(e:Env)(h:AHeap)(tr:xD):Option (Env×AHeap×xD):=
 match goCall o.op with
 |some c=>match calleeOf (ev e) c with
  |some (f,args)=>match callX run mode f args (hook h) fr with
   |some (r,u,rd)=>oT r λr=>some (putE o.dst r e,u++h,(rd,u.map Prod.fst)::tr)
   |none=>none
  |none=>none
 |none=>match aopS P o fr (ev e) (hook h) with
  |some r=>oT r.val λv=>some (putE o.dst v e,r.upd++h,(r.rd,r.upd.map Prod.fst)::tr)
  |none=>none
def lexX (ops:Array Oper)(nx:Nat):List Oper->Nat->Env->AHeap->xD->Option (Env×AHeap×xD)
 |[],_,e,h,tr=>some (e,h,tr)
 |o::rest,i,e,h,tr=>match want ops o (look e) with
  |none=>none
  |some w=>match (match w with|true=>stepX P run mode (nx+32*i) o e h tr|false=>some (putE o.dst (.tup []) e,h,([],[])::tr)) with
   |some (e,h,tr)=>lexX ops nx rest (i+1) e h tr
   |none=>none
variable {P run mode}
def W9 (A:YY P run){p nx}:∀ {l} {i} {e} {h} {m} {y} {x} {g},
  lexX P run mode p nx l i e h m=some (y,x,g)->lex P p nx l i e h m λe h m=>e=y/\h=x/\m=g
 |[],_,_,_,_,_,_,_,d=>by
  simp [lexX,rc,rN] at d;exact d
 |o::rest,i,e,h,m,y,x,g,d=>by
  unfold lexX at d;unfold lex JO;split at d
  .cases d
  .rename_i w E;rw [E];simp;split at d
   .rename_i H F D b;have ih:=W9 A d;cases w with
    |false=>grind
    |true=>
     simp at b;rw [ri rfl];unfold stepX at b;unfold a7;cases z:goCall o.op with
     |some c=>
      rw [z] at b;simp at b ⊢;split at b
      .rename_i f args v;rw [v];split at b
       .rename_i r u rd j;rw [Y0] at b;refine (callX_ok A j).imp λr' G C J=> ?_
        grind
       .cases b
      .cases b
     |none=>
      rw [z] at b;simp at b ⊢;split at b
      .rename_i r I;rw [Y0] at b
       grind
      .cases b
   .cases d
end
def nt (m:Nat)(U live:List Nat)(s:St):Option St:=
 match qW m U (hook s.heap) (live.flatMap λt=>(look s.env t).ids) with
 |rest=>match okU m U rest&&(keep m U++rest).all (λo=>(hook s.heap o).inn<|keep m U++rest)&&live.all (λt=>(look s.env t).inn<|keep m U++rest) with
  |true=>oL (oP oN oT) (live.map λt=>(t,(look s.env t).ren<|invU m rest)) λenv=>oL oO (kO m U rest<|hook s.heap) λobs=>some ⟨env,ye 0 obs,m+rest.length⟩
  |false=>none
def WA {m U live s b}(h:nt m U live s=some b):Sle m s b:=by
 have f:jm m [(0,live),(1000001,U)] (λ_ d=>d=b) 0 s:=by
  unfold nt at h;unfold jm;simp [zD,rC,lvU,show¬(0=1000001) by decide,rI];simp at h ⊢;split at h
  .rename_i e
   try rw [e]
   rw [zK<|wW yq Y0,zK fw,rc] at h;exact h
  .cases h
 let ⟨d,i,g⟩:=kW f
 grind
def mF (m:Nat)(s:St):List Nat:=(List.range m).filter λo=> !WY (hook s.heap o)
section
variable (P:Program) (run:RunF) (mode:FuncId->Nat) (bks:FuncId->Option (TypeId×TypeId)) (n m lf:Nat)
def regX (ops:Array Oper)(d:Bool)(s:St):Option St:=
 match dstB ops n with
 |true=>match lexX P run mode ops s.nx ops.toList 0 s.env s.heap [] with
  |some (e,h,tr)=>match !d||Wh ops tr with
   |true=>some ⟨e,h,s.nx+32*ops.size⟩
   |false=>none
  |none=>none
 |false=>none
def loopX (F:St->Option (AExit×St)):Nat->St->Option (AExit×St)
 |0,_=>none
 |k+1,s=>match nt m (mF m s) (List.range n) s with
  |some s=>match F s with
   |some (.normal,s)=>loopX F k s
   |r=>r
  |none=>none
def asgX:Code->St->Option St
 |.region _ ops false,s=>match wF ops with
  |true=>regX P run mode n ops false s
  |false=>none
 |.seq a b,s=>match asgX a s with
  |some s=>asgX b s
  |none=>none
 |_,_=>none
def bB:TV->TV->Bool
 |.c (.a (.osl a b c d)), .c (.a (.osl a' b' c' d'))=>Nat.beq a a'&&Nat.beq b b'&&Nat.beq c c'&&Nat.beq d d'
 |.c (.a (.fz .N)), .c (.a (.fz .N))=>true
 |_,_=>false
def boxX (dS:TyD)(oc:Nat)(h:AHeap):TV:=match wh dS (λo=>flat<|hook h o) (.c<|.a<|.ep oc 1 0 0) with
 |some (v,_)=>v
 |none=> .any
def elX (dS dE:TyD)(xs:TV)(k:Nat)(h:AHeap):Option (TV×TV):=match yC P dS xs (iV k) with
 |some y=>match wh dE (λo=>flat<|hook h o) y with
  |some (v,_)=>some (y,v)
  |none=>none
 |none=>none
def goX (dS dE:TyD)(xs:TV)(oc p1 p2:Nat)(env:Env)(m0:Nat)(FA:St->Option St)(FB:St->Option (AExit×St)):Nat->AHeap->Nat->Option (AHeap×Nat)
 |0,h,nx=>some (h,nx)
 |k+1,h,nx=>match elX P dS dE xs k h with
  |some (_,v)=>match FA ⟨(p2,v)::(p1,iV k)::env,h,nx⟩ with
   |some s=>match FB s with
    |some (.normal,s)=>match nt m0 (mF m0 s) [] s with
     |some s=>match bB (boxX dS oc s.heap) xs&&Nat.ble m0 s.nx with
      |true=>goX dS dE xs oc p1 p2 env m0 FA FB k s.heap s.nx
      |false=>none
     |none=>none
    |_=>none
   |none=>none
  |none=>none
def rngOf:TV->Option (FuncId×Nat)
 |.c (.fn (.func bk) [] [(false,[.ep oc 1 0 0])])=>some (bk,oc)
 |_=>none
def rngX (g:Operand)(ps:List Nat)(FA:St->Option St)(FB:St->Option (AExit×St))(pb:Bool)(s:St):Option (AExit×St):=
 match rngOf (ev s.env g),ps with
 |some (bk,oc),[p1,p2]=>match bks bk with
  |some (S,E)=>match tyOf P S,tyOf P E with
   |some dS,some dE=>match boxX dS oc s.heap with
    |xs=>match YW xs with
     |some (N,_)=>match pb&&(match dS.kind with|.slice e=>Nat.beq e E|_=>false)&&bB (boxX dS oc s.heap) xs&&Nat.blt p1 n&&Nat.blt p2 n&&s.env.all (λp=>p.2.lt s.nx)&&Nat.blt oc s.nx&&Nat.blt N 9223372036854775808&&Nat.ble m s.nx with
      |true=>match goX P dS dE xs oc p1 p2 s.env s.nx FA FB N s.heap s.nx with
       |some (h,nx)=>some (.normal,⟨s.env,h,nx⟩)
       |none=>none
      |false=>none
     |none=>none
   |_,_=>none
  |none=>none
 |_,_=>none
def xn:Code->St->Option (AExit×St)
 |.skip,s=>some (.normal,s)
 |.ret,s=>some (.ret,s)
 |.exit i,s=>some (.exit i,s)
 |.seq a b,s=>match xn a s with
  |some (.normal,s)=>xn b s
  |r=>r
 |.cond x a b,s=>match ev s.env x with
  |.c (.a (.fz (.bool t)))=>match t with
   |true=>xn a s
   |false=>xn b s
  |_=>none
 |.block i c,s=>match xn c s with
  |some (.exit j,s)=>match Nat.beq j i with
   |true=>some (.normal,s)
   |false=>some (.exit j,s)
  |r=>r
 |.region _ ops d,s=>match regX P run mode n ops d s with
  |some s=>some (.normal,s)
  |none=>none
 |.loop c,s=>loopX n m (xn c) lf s
 |.scope c,s=>xn c s
 |.label _,s=>some (.normal,s)
 |.rangeFunc g ps A b,s=>match nt m (mF m s) (List.range n) s with
  |some s=>rngX P bks n m g ps.toList (asgX P run mode n A) (xn b) (xS b) s
  |none=>none
 |_,_=>none
variable {P run mode bks n m lf}
def Awp.le {c Q s b}(d:Sle m s b)(h:Awp P n m c Q b):Awp P n m c Q s:=Awp.weak d h
def fZ {c F}(i:∀s e f,F s=some (e,f)->Awp P n m c (λb d=>b=e/\d=f) s):∀ {k} {s} {e} {f},
  loopX n m F k s=some (e,f)->Alwp P n m c (λb d=>b=e/\d=f) s
 |0,_,_,_,h=>by cases h
 |k+1,s,e,f,h=>by
  unfold loopX at h;split at h
  .rename_i d hs1;refine Alwp.weak (WA hs1)<|Alwp.unroll ?_
   split at h
   .rename_i p o;refine (i _ _ _ o).mono λb d g=> ?_;obtain ⟨rfl,rfl⟩:=g;exact fZ i h
   .rename_i j;refine (i _ _ _ h).mono λb d g=> ?_;obtain ⟨rfl,rfl⟩:=g;cases b with
    |normal=>exact absurd h<|j _
    |_=>exact ⟨rfl,rfl⟩
  .cases h
def regX_ok (x:P.follows .mixedOrders=true)(w:YY P run){i b d s g}(f:wF b=true)(h:regX P run mode n b d s=some g):AwpR P n m (.region i b d) (λj r=>j= .normal/\r=g) s:=by
 unfold regX at h;split at h
 .rename_i hd;refine AwpR.region x hd f ?_;split at h
  .rename_i A z u o;split at h
   .rename_i v;rw [rc] at h;subst h;refine uJ ?_<|W9 w o
    rintro j y p ⟨rfl,rfl,rfl⟩;refine ⟨λe=> ?_,rfl,rfl⟩;subst e;simpa using v
   .cases h
  .cases h
 .cases h
def gP (f:YY P run):∀ {A} {s d},asgX P run mode n A s=some d->AsgS P n A s λo=>o=d
 |.seq a b,s,d,h=>by
  unfold asgX at h;split at h
  .rename_i o m;exact AsgS.seq (gP f m) λx e=>by subst e;exact gP f h
  .cases h
 |.region i g false,s,d,h=>by
  unfold asgX at h;split at h
  .rename_i j;unfold regX at h;split at h
   .rename_i hd;split at h
    .rename_i w v u p;split at h
     .rw [rc] at h;subst h;refine AsgS.region j hd<|uJ ?_<|W9 f p
      rintro y m r ⟨rfl,rfl,rfl⟩;rfl
     .cases h
    .cases h
   .cases h
  .cases h
 |.region i g true,s,d,h=>by cases h
 |.skip,_,_,h=>by cases h
 |.ret,_,_,h=>by cases h
 |.exit _,_,_,h=>by cases h
 |.cond ..,_,_,h=>by cases h
 |.block ..,_,_,h=>by cases h
 |.loop _,_,_,h=>by cases h
 |.rangeFunc ..,_,_,h=>by cases h
 |.scope _,_,_,h=>by cases h
 |.label _,_,_,h=>by cases h
 |.goto _,_,_,h=>by cases h
 |.refuse _,_,_,h=>by cases h
def wN (p:P.follows .mixedOrders=true)(o:YY P run):∀ {c} {s} {e} {g},xS c=true->xn P run mode bks n m lf c s=some (e,g)->∀ {m0},AwpR P n m0 c (λv y=>v=e/\y=g) s
 |.skip,s,e,g,_,h,_=>by
  simp [xn,rc,rN] at h;exact AwpR.skip ⟨h.1,h.2⟩
 |.ret,s,e,g,_,h,_=>by
  simp [xn,rc,rN] at h;exact AwpR.ret ⟨h.1,h.2⟩
 |.exit i,s,e,g,_,h,_=>by
  simp [xn,rc,rN] at h;exact AwpR.exit ⟨h.1,h.2⟩
 |.seq a b,s,e,g,f,h,_=>by
  simp [xS,rf] at f;unfold xn at h;refine AwpR.seq ?_;split at h
  .rename_i y w;refine (wN p o f.1 w).mono λv A u=> ?_;obtain ⟨rfl,rfl⟩:=u;exact wN p o f.2 h
  .rename_i r;refine (wN p o f.1 h).mono λv A u=> ?_;obtain ⟨rfl,rfl⟩:=u;cases v with
   |normal=>exact absurd h<|r _
   |_=>exact ⟨rfl,rfl⟩
 |.cond x a b,s,e,g,f,h,_=>by
  simp [xS,rf] at f;unfold xn at h;split at h
  .rename_i t C;cases t with
   |true=>exact AwpR.cond C (λ_=>wN p o f.1 h) (λe=>by cases e)
   |false=>exact AwpR.cond C (λe=>by cases e) λ_=>wN p o f.2 h
  .cases h
 |.block i c,s,e,g,f,h,_=>by
  simp [xS,rf] at f;unfold xn at h;refine AwpR.block ?_;split at h
  .rename_i j y w;refine (wN p o f.2 w).mono λv A u=> ?_;obtain ⟨rfl,rfl⟩:=u;simp [zP];split at h
   .rename_i z;rw [ri<|rB z];simp [rc,rN] at h;exact ⟨h.1,h.2⟩
   .rename_i z;rw [r8<|Nat.ne_of_beq_eq_false z];simp [rc,rN] at h;exact ⟨h.1,h.2⟩
  .rename_i r;refine (wN p o f.2 h).mono λv A u=> ?_;obtain ⟨rfl,rfl⟩:=u;cases v with
   |exit j=>exact absurd h<|r _ _
   |_=>exact ⟨rfl,rfl⟩
 |.region i D d,s,e,g,f,h,_=>by
  unfold xn at h;split at h
  .rename_i y w;simp [rc,rN] at h;obtain ⟨rfl,rfl⟩:=h;exact regX_ok p o f w
  .cases h
 |.loop _,_,_,_,f,_,_=>by cases f
 |.rangeFunc ..,_,_,_,f,_,_=>by cases f
 |.scope _,_,_,_,f,_,_=>by cases f
 |.label _,_,_,_,f,_,_=>by cases f
 |.goto _,_,_,_,f,_,_=>by cases f
 |.refuse _,_,_,_,f,_,_=>by cases f
def ox {x y}(h:bB x y=true):x=y:=by
 unfold bB at h;split at h
 .simp only [rf] at h;rw [rB h.1.1.1,rB h.1.1.2,rB h.1.2,rB h.2]
 .rfl
 .cases h
def lx {d oc h xs}(b:boxX d oc h=xs)(f:xs ≠ .any):∃rd,wh d (λo=>flat<|hook h o) (.c<|.a<|.ep oc 1 0 0)=some (xs,rd):=by
 unfold boxX at b;split at b
 .rename_i v rd e;exact ⟨rd,by rw [e,b]⟩
 .exact absurd b.symm f
def rngX_ok {g:Operand} {L:Array Nat} {A b:Code} {FA:St->Option St} {FB:St->Option (AExit×St)} {s C:St} {e:AExit} (X:∀f S E,bks f=some (S,E)->IsBk P f S E)
  (hA:∀s C,FA s=some C->AsgS P n A s λI=>I=C) (hB:xS b=true->∀s e C,FB s=some (e,C)->∀ {m0:Nat},AwpR P n m0 b (λG I=>G=e/\I=C) s)
  (h:rngX P bks n m g L.toList FA FB (xS b) s=some (e,C)):Awp P n m (.rangeFunc g L A b) (λG I=>G=e/\I=C) s:=by
 unfold rngX at h;split at h
 .rename_i bk oc p1 p2 D w;have w:L= #[p1,p2]:=by cases L;simp at w;rw [w]
  subst w
  have D:ev s.env g= .c (.fn (.func bk) [] [(false,[.ep oc 1 0 0])]):=by
   unfold rngOf at D;split at D
   .rename_i G;simp [rc,rN] at D;rw [G,D.1,D.2]
   .cases D
  split at h
  .rename_i S E M;split at h
   .rename_i J U hS hE;dsimp only at h;generalize V:boxX J oc s.heap=xs at h;split at h
    .rename_i N rdn u;split at h
     .rename_i hb;simp only [rf] at hb
      let ⟨⟨⟨⟨⟨⟨⟨⟨b1,O⟩,b3⟩,b4⟩,b5⟩,b6⟩,b7⟩,b8⟩,b9⟩:=hb
      have Z:J.kind= .slice E:=by
       split at O
       .rename_i G he;rw [he,rB O]
       .cases O
      have K:xs ≠ .any:=λe=>by rw [e] at u;cases u
      split at h
      .rename_i hf nf T;simp [rc,rN] at h;obtain ⟨rfl,rfl⟩:=h
       let ⟨env,h0,z⟩:=s
       dsimp only at*
       refine bE (α:=Nat×AHeap×Nat) (H:=λx=>x.2.1) (nx:=λx=>x.2.2) (idx:=λx=>x.1) (m0:=z) (xs:=xs) (N:=N) (x0:=(N,h0,z))
        (y:=λx=>match elX P J U xs (x.1-1) x.2.1 with|some (y,_)=>y|none=> .any) (v:=λx=>match elX P J U xs (x.1-1) x.2.1 with|some (_,v)=>v|none=> .any)
        (Inv:=λx=>(z<=x.2.2/\boxX J oc x.2.1=xs)/\goX P J U xs oc p1 p2 env z FA FB x.1 x.2.1 x.2.2=some _)
        (X _ _ _ M) hS Z hE (rL b9) (λp hp=>rH.1 b6 p hp) D (rL b7) (λx r=>r.1.1) (λx r=>lx r.1.2 K) u (rL b8)
        (λx k r o=> ?_) (rL b4) (rL b5) (λx k r o=> ?_) ⟨⟨r9 _,V⟩,T⟩ rfl (λx r o=> ?_)
       .let ⟨i,hh,nn⟩:=x
        dsimp only at r o ⊢;subst o;have j:=r.2;unfold goX at j;rw [tx];split at j
        .rename_i y v d
         try rw [d]
         unfold elX at d;split at d
         .rename_i y1 hy;split at d
          .rename_i v1 rd hv;simp [rc,rN] at d;exact ⟨rd,by rw [hy,d.1],by rw [<-d.1,hv,d.2]⟩
          .cases d
         .cases d
        .cases j
       .let ⟨i,hh,nn⟩:=x
        dsimp only at r o ⊢;subst o;have j:=r.2;unfold goX at j;rw [tx];split at j
        .rename_i y v d
         try rw [d]
         try dsimp only
         split at j
         .rename_i I hs1;refine (hA _ _ hs1).mono λs2 e=> ?_;subst e;split at j
          .rename_i s3 Y;refine (hB b1 _ _ _ Y).mono λG s4 Z=> ?_;obtain ⟨rfl,rfl⟩:=Z;split at j
           .rename_i s5 W;split at j
            .rename_i F;simp only [rf] at F;exact ⟨rfl,(k,s5.heap,s5.nx),⟨⟨⟨rL F.2,ox F.1⟩,j⟩,rfl⟩,(WA W).noEnv⟩
            .cases j
           .cases j
          .cases j
         .cases j
        .cases j
       .let ⟨i,hh,nn⟩:=x
        dsimp only at r o ⊢;subst o;have j:=r.2;simp [goX,rc,rN] at j;rw [j.1,j.2];exact ⟨rfl,rfl⟩
      .cases h
     .cases h
    .cases h
   .cases h
  .cases h
 .cases h
def xN (v:P.follows .mixedOrders=true)(u:YY P run)(o:∀f S E,bks f=some (S,E)->IsBk P f S E):∀ {c} {s} {e} {p},xn P run mode bks n m lf c s=some (e,p)->Awp P n m c (λw C=>w=e/\C=p) s
 |.skip,s,e,p,h=>by
  simp [xn,rc,rN] at h;exact Awp.skip ⟨h.1,h.2⟩
 |.ret,s,e,p,h=>by
  simp [xn,rc,rN] at h;exact Awp.ret ⟨h.1,h.2⟩
 |.exit i,s,e,p,h=>by
  simp [xn,rc,rN] at h;exact Awp.exit ⟨h.1,h.2⟩
 |.seq a b,s,e,p,h=>by
  unfold xn at h;refine Awp.seq ?_;split at h
  .rename_i C r;refine (xN v u o r).mono λw G z=> ?_;obtain ⟨rfl,rfl⟩:=z;exact xN v u o h
  .rename_i y;refine (xN v u o h).mono λw G z=> ?_;obtain ⟨rfl,rfl⟩:=z;cases w with
   |normal=>exact absurd h<|y _
   |_=>exact ⟨rfl,rfl⟩
 |.cond x a b,s,e,p,h=>by
  unfold xn at h;split at h
  .rename_i t H;cases t with
   |true=>exact Awp.cond H (λ_=>xN v u o h) (λe=>by cases e)
   |false=>exact Awp.cond H (λe=>by cases e) λ_=>xN v u o h
  .cases h
 |.block i c,s,e,p,h=>by
  unfold xn at h;refine Awp.block ?_;split at h
  .rename_i j C r;refine (xN v u o r).mono λw G z=> ?_;obtain ⟨rfl,rfl⟩:=z;simp [zP];split at h
   .rename_i D;rw [ri<|rB D];simp [rc,rN] at h;exact ⟨h.1,h.2⟩
   .rename_i D;rw [r8<|Nat.ne_of_beq_eq_false D];simp [rc,rN] at h;exact ⟨h.1,h.2⟩
  .rename_i y;refine (xN v u o h).mono λw G z=> ?_;obtain ⟨rfl,rfl⟩:=z;cases w with
   |exit j=>exact absurd h<|y _ _
   |_=>exact ⟨rfl,rfl⟩
 |.region i N d,s,e,p,h=>by
  unfold xn at h;split at h
  .rename_i C r;simp [rc,rN] at h;obtain ⟨rfl,rfl⟩:=h;unfold regX at r;split at r
   .rename_i hd;refine Awp.region v hd ?_;split at r
    .rename_i U T M I;split at r
     .rename_i D;rw [rc] at r;subst r;refine uJ ?_<|W9 u I
      rintro w r K ⟨rfl,rfl,rfl⟩;refine ⟨λF=> ?_,rfl,rfl⟩;subst F;simpa using D
     .cases r
    .cases r
   .cases r
  .cases h
 |.loop c,s,e,p,h=>by
  unfold xn at h;exact Alwp.loop<|fZ (λs e p J=>xN v u o J) h
 |.rangeFunc g O A b,s,e,p,h=>by
  unfold xn at h;split at h
  .rename_i C hs1;exact Awp.le (WA hs1)<|rngX_ok o (λ_ _=>gP u) (λL _ _ _=>wN v u L) h
  .cases h
 |.scope c,s,e,p,h=>by
  unfold xn at h;exact Awp.scope<|xN v u o h
 |.label _,s,e,p,h=>by
  simp [xn,rc,rN] at h;exact Awp.label ⟨h.1,h.2⟩
 |.goto _,_,_,_,h=>by cases h
 |.refuse _,_,_,_,h=>by cases h
end
def lentR (fz:Bool)(h:Nat->AObj)(rs:List TV):Lent:=match fz with|true=>rs.flatMap (Yp h)|false=> []
def lentR_ok {b h d}:LentOK h (lentR b h d):=by
 cases b with
 |true=>exact jE
 |false=>exact λp e=>nomatch e
def retX (P:Program)(fz:Bool)(rl:List ResultVar)(m:Nat)(U:List Nat)(s:St):Option (TV×List AObj):=
 match JK P s rl with
 |none=>none
 |some rs=>match lentR fz (hook s.heap) rs with
  |E=>match U++(E.map Prod.fst).filter (λo=>Nat.blt o m) with
   |U=>match qW m U (hook s.heap) ((rs.map<|TV.lend E).flatMap TV.ids) with
    |rest=>match okU m U rest&&(keep m U++rest).all (λo=>(hook s.heap o).inn<|keep m U++rest)&&(rs.map<|TV.lend E).all (TV.inn<|keep m U++rest)&&E.all (λp=> !(keep m U++rest).contains p.1) with
     |true=>match fp ((rs.map<|TV.lend E).map<|TV.ren<|invU m rest) with
      |some r0=>oT r0 λr0=>oL oO (kO m U rest<|hook s.heap) λHs=>some (r0,Hs)
      |none=>none
     |false=>none
def ma {P g f m U s r Hs'}(h:retX P g f m U s=some (r,Hs')):pJ P f m r Hs' s:=by
 unfold retX at h;split at h
 .cases h
 .rename_i j d;dsimp only at h;split at h
  .rename_i e;simp only [rf] at e
   let ⟨⟨⟨i,o⟩,u⟩,w⟩:=e
   split at h
   .rename_i r0 b;rw [Y0,zK fw] at h;obtain ⟨rfl,rfl⟩:=h;refine WL (E:=lentR g _ j) d rfl lentR_ok.ok i o u (λp x v=> ?_) b (.refl _)
    grind
   .cases h
  .cases h
def eqL {α:Type}(f:α->α->Bool):List α->List α->Bool
 |[],[]=>true
 |x::l,y::r=>f x y&&eqL f l r
 |_,_=>false
def EqOK {α:Type}(f:α->α->Bool):=∀x y,f x y=true->x=y
def EqOK.l {α}{f:α->α->Bool}(h:EqOK f):EqOK (eqL f)
 |[],[],_=>rfl
 |x::l,y::r,e=>by simp [eqL,rf] at e;rw [h _ _ e.1,h.l _ _ e.2]
 |[],_::_,e=>by cases e
 |_::_,[],e=>by cases e
def eqB (a b:Bool):=match a with
 |true=>b
 |false=> !b
def Zv:EqOK eqB:=λa b h=>by cases a<;>cases b<;>simp_all [eqB]
def eqP {α β:Type}(f:α->α->Bool)(g:β->β->Bool)(x y:α×β):=f x.1 y.1&&g x.2 y.2
def EqOK.p {α β}{f:α->α->Bool}{g:β->β->Bool}(d:EqOK f)(b:EqOK g):EqOK (eqP f g):=λx y h=>by
 simp [eqP,rf] at h;exact Prod.ext (d _ _ h.1)<|b _ _ h.2
def eqU (a b:UInt8):=Nat.beq a.toNat b.toNat
def eqU_ok:EqOK eqU:=λa b h=>UInt8.toNat_inj.1<|rB h
def eqF:Nat->FV->FV->Bool
 |_+1, .int a n, .int b m=>decide (a=b)&&decide (n=m)
 |_+1, .bool a, .bool b=>eqB a b
 |_+1, .str a, .str b=>eqL eqU a b
 |_+1, .N, .N=>true
 |_+1, .z0 a, .z0 b=>eqB a b
 |_+1, .cst (.pointer none), .cst (.pointer none)=>true
 |k+1, .sl a n x, .sl b m y=>eqB a b&&Nat.beq n m&&eqL (eqL<|eqF k) x y
 |k+1, .pt x, .pt y=>eqL (eqF k) x y
 |_,_,_=>false
def c6:∀k,EqOK (eqF k)
 |0=>λx y h=>by cases x<;>cases h
 |k+1=>λx y h=>by
  unfold eqF at h;split at h<;>try simp only [rf,rK] at h
  .rw [h.1,h.2]
  .rw [Zv _ _ h]
  .rw [eqU_ok.l _ _ h]
  .rfl
  .rw [Zv _ _ h]
  .rfl
  .rename_i e;cases e;rw [Zv _ _ h.1.1,rB h.1.2,(c6 k).l.l _ _ h.2]
  .rename_i e;cases e;rw [(c6 k).l _ _ h]
  .cases h
def eqW:WV->WV->Bool
 |.a (.fz x), .a (.fz y)=>eqF 30 x y
 |.a (.ep a b c d), .a (.ep a' b' c' d')=>Nat.beq a a'&&Nat.beq b b'&&Nat.beq c c'&&Nat.beq d d'
 |.a (.osl a b c d), .a (.osl a' b' c' d')=>Nat.beq a a'&&Nat.beq b b'&&Nat.beq c c'&&Nat.beq d d'
 |.a (.mp a), .a (.mp b)=>Nat.beq a b
 |_,_=>false
def d7:EqOK eqW:=λx y h=>by
 unfold eqW at h;split at h<;>try simp only [rf] at h
 .rw [c6 _ _ _ h]
 .rw [rB h.1.1.1,rB h.1.1.2,rB h.1.2,rB h.2]
 .rw [rB h.1.1.1,rB h.1.1.2,rB h.1.2,rB h.2]
 .rw [rB h]
 .cases h
def eqT:TV->TV->Bool
 |.c x, .c y=>eqW x y
 |.agg x, .agg y=>eqL eqW x y
 |_,_=>false
def eqT_ok:EqOK eqT:=λx y h=>by
 unfold eqT at h;split at h
 .rw [d7 _ _ h]
 .rw [d7.l _ _ h]
 .cases h
def eqO:AObj->AObj->Bool
 |.gone, .gone=>true
 |.arr n x, .arr m y=>Nat.beq n m&&eqL (eqL eqW) x y
 |.arz n x, .arz m y=>Nat.beq n m&&eqL (eqL<|eqF 30) x y
 |.mapo x, .mapo y=>eqL (eqP (eqP eqB<|eqL<|eqF 30)<|eqP eqB<|eqL eqW) x y
 |.mapz x, .mapz y=>eqL (eqP (eqP eqB<|eqL<|eqF 30)<|eqP eqB<|eqL<|eqF 30) x y
 |_,_=>false
def eqO_ok:EqOK eqO:=λx y h=>by
 have b:=(c6 30).l;unfold eqO at h;split at h<;>try simp only [rf] at h
 .rfl
 .rw [rB h.1,d7.l.l _ _ h.2]
 .rw [rB h.1,b.l _ _ h.2]
 .rw [((Zv.p b).p<|Zv.p d7.l).l _ _ h]
 .rw [((Zv.p b).p<|Zv.p b).l _ _ h]
 .cases h
abbrev Z0:=FuncId×List TV×List AObj×TV×List AObj
def orcX:List Z0->RunF
 |[],_,_,_=>none
 |(g,a,H,r,H')::l,f,args,Hs=>match Nat.beq g f&&(eqL eqT a args&&eqL eqO H Hs) with
  |true=>some (r,H')
  |false=>orcX l f args Hs
def nl {P}:∀ {l},(∀x∈l,AC P x.1 x.2.1 x.2.2.1 x.2.2.2.1 x.2.2.2.2)->YY P (orcX l)
 |[],_=>λ_ _ _ _ _ h=>by cases h
 |(g,a,H,r,H')::l,d=>λf args Hs i H1 h=>by
  unfold orcX at h;split at h
  .rename_i b;simp only [rf] at b;simp [rc,rN] at h;have:=d _ rn;rw [<-h.1,<-h.2,<-rB b.1,<-eqT_ok.l _ _ b.2.1,<-eqO_ok.l _ _ b.2.2];exact this
  .exact nl (λx e=>d x<|rh _ e) _ _ _ _ _ h
def runX (P:Program)(mode:FuncId->Nat)(bks:FuncId->Option (TypeId×TypeId))(O:RunF)(lf:Nat):Nat->RunF
 |0,_,_,_=>none
 |k+1,f,args,Hs=>match O f args Hs with
  |some x=>some x
  |none=>match P.funcs[f]? with
   |some fn=>match fn.body with
    |some c=>match yJ P f&&Nat.ble args.length fn.ntmps&&Hs.all WY with
     |true=>oL oT args λargs=>oL oO Hs λHs=>match xn P (runX P mode bks O lf k) mode bks fn.ntmps Hs.length lf c ⟨jt 0 args,ye 0 Hs,Hs.length⟩ with
      |some (.exit _,_)=>none
      |some (_,s)=>match retX P (Nat.ble 1 (mode f)&&Nat.ble (mode f) 2) fn.results.toList Hs.length (mF Hs.length s) s with
       |some (r,Hs')=>match Nat.ble Hs.length Hs'.length&&(Hs'.drop Hs.length).all WY with
        |true=>some (r,Hs')
        |false=>none
       |none=>none
      |none=>none
     |false=>none
    |none=>none
   |none=>none
def l9 {P:Program}{b:FuncId->Nat}{d:FuncId->Option (TypeId×TypeId)}{O:RunF}{u:Nat}(z:YY P O)(y:P.follows .mixedOrders=true)(p:∀f S E,d f=some (S,E)->IsBk P f S E):∀k,YY P (runX P b d O u k)
 |0=>λf args Hs r Hs' h=>by cases h
 |k+1=>λf args Hs r Hs' h=>by
  unfold runX at h;split at h
  .rename_i x o;rw [h] at o;exact z _ _ _ _ _ o
  split at h
  .rename_i fn D;split at h
   .rename_i c F;split at h
    .rename_i v;simp only [rf] at v;rw [zK Y0,zK fw] at h
     have key:∀ {e:AExit} {s:St},xn P (runX P b d O u k) b d fn.ntmps Hs.length u c ⟨jt 0 args,ye 0 Hs,Hs.length⟩=some (e,s)->(∀i,e ≠ .exit i)->
       (match retX P (Nat.ble 1 (b f)&&Nat.ble (b f) 2) fn.results.toList Hs.length (mF Hs.length s) s with
       |some (r,Hs')=>match Nat.ble Hs.length Hs'.length&&(Hs'.drop Hs.length).all WY with
        |true=>some (r,Hs')
        |false=>none
       |none=>none)=some (r,Hs')->AC P f args Hs r Hs':=by
      intro e s m C h;split at h
      .rename_i J Hs1 g;split at h
       .rename_i j;simp only [rf] at j;simp only [rc,rN] at h;obtain ⟨rfl,rfl⟩:=h;refine AC.intro D F rfl rfl v.1.1 (rL v.1.2) (rL j.1) (λx o=>ZS<|rH.1 v.2 x o) (λx o=>ZS<|rH.1 j.2 x o) ?_;refine (xN y (l9 z y p k) p m).mono λH I G=> ?_;obtain ⟨rfl,rfl⟩:=G;cases H with
        |exit i=>exact absurd rfl (C i)
        |normal=>exact ma g
        |ret=>exact ma g
       .cases h
      .cases h
     cases m:xn P (runX P b d O u k) b d fn.ntmps Hs.length u c ⟨jt 0 args,ye 0 Hs,Hs.length⟩ with
     |none=>rw [m] at h;cases h
     |some q=>
      obtain ⟨e,s⟩:=q;rw [m] at h;cases e with
      |exit i=>cases h
      |normal=>exact key m (λi w=>by cases w) h
      |ret=>exact key m (λi w=>by cases w) h
    .cases h
   .cases h
  .cases h
def runX_ACo {P:Program}(i:P.follows .mixedOrders=true)(d:FuncId->Nat){b:FuncId->Option (TypeId×TypeId)}(e:∀f S E,b f=some (S,E)->IsBk P f S E){l:List Z0}(g:∀x∈l,AC P x.1 x.2.1 x.2.2.1 x.2.2.2.1 x.2.2.2.2)(j k:Nat){f:FuncId}{args:List TV}{Hs:List AObj}{r:TV}{Hs':List AObj}(h:runX P d b (orcX l) j k f args Hs=some (r,Hs')):AC P f args Hs r Hs':=l9 (nl g) i e k _ _ _ _ _ h
def isBkT:IsBk Tryz.prog 175 36 43:=⟨by kernel_rfl,_,253,3,4,Tryz.func175,by kernel_rfl,by kernel_rfl,by kernel_rfl⟩
def wBk (f:FuncId):Option (TypeId×TypeId):=bif Nat.beq f 175 then some (36,43) else bif Nat.beq f 229 then some (77,3) else none
def wBk_ok (f:FuncId)(S E:TypeId)(h:wBk f=some (S,E)):IsBk Tryz.prog f S E:=by
 unfold wBk at h;cases h1:Nat.beq f 175 with
 |true=>rw [h1] at h;cases h;rw [rB h1];exact isBkT
 |false=>
  rw [h1] at h;cases h2:Nat.beq f 229 with
  |true=>rw [h2] at h;cases h;rw [rB h2];exact isBkI
  |false=>rw [h2] at h;cases h
def wMo (f:FuncId):Nat:=bif Nat.beq f 58 then 0 else 1
def JW {l:List Z0}(hl:∀x∈l,AC Tryz.prog x.1 x.2.1 x.2.2.1 x.2.2.2.1 x.2.2.2.2){f:FuncId}{args:List TV}{Hs:List AObj}{r:TV}{Hs':List AObj}(h:runX Tryz.prog wMo wBk (orcX l) 300 80 f args Hs=some (r,Hs')):AC Tryz.prog f args Hs r Hs':=runX_ACo hP wMo wBk_ok hl 300 80 h
abbrev wi (n:Int):FV:= .int .i64 n
abbrev wf (x:FV):WV:=qf x
abbrev wT (k:Int)(s:List UInt8):List FV:=[wi k, .str s,wi 0, .N]
abbrev wTr:List FV:=wT 0 [116,114,117,101]
abbrev wAp (x:List FV):List FV:=[wi 6, .str [],wi 0, .sl false 4 [wT 0 [112],x]]
abbrev wCl (c:UInt8):List FV:=wi 0::(wAp (wT 0 [c])++wTr)
abbrev wIn (k:Int)(x:List FV):List FV:=wi k::wi 0::(x++ [.N, .N])
abbrev wCd (c:UInt8):List FV:=[.str [112],wi 1,wi 0,wi 0,wi 0, .sl false 8 [wIn 1<|wT 0 [c],wIn 4<|wT 0 []]]
abbrev wGl:List FV:=[.str [113,117,101,114,121],wi 0,wi 0,wi 1,wi 1, .sl false 8 [wIn 3<|wAp<|wT 4 []]]
abbrev wA (l:List FV):TV:= .agg<|l.map wf
abbrev wP:FV:= .sl false 6 [wCd 97,wCd 98]
abbrev wBr:List AObj:=[.arz 9 [wCl 97,wCl 98]]
abbrev wK1:List Z0:=[(25,[wA<|wCd 97],[],cb true,[]),(25,[wA<|wCd 98],[],cb true,[]),(25,[wA wGl],[],cb true,[])]
def w_no:∀x∈([]:List Z0),AC Tryz.prog x.1 x.2.1 x.2.2.1 x.2.2.2.1 x.2.2.2.2:=λ_ h=>nomatch h
def ZT {x:Z0}{l:List Z0}(h:AC Tryz.prog x.1 x.2.1 x.2.2.1 x.2.2.2.1 x.2.2.2.2)(hl:∀x∈l,AC Tryz.prog x.1 x.2.1 x.2.2.1 x.2.2.2.1 x.2.2.2.2):∀y∈x::l,AC Tryz.prog y.1 y.2.1 y.2.2.1 y.2.2.2.1 y.2.2.2.2:=List.forall_mem_cons.2 ⟨h,hl⟩
def w_k1:∀x∈wK1,AC Tryz.prog x.1 x.2.1 x.2.2.1 x.2.2.2.1 x.2.2.2.2:=ZT (JW w_no<|by kernel_rfl)<|ZT (JW w_no<|by kernel_rfl)<|ZT (JW w_no<|by kernel_rfl) w_no
abbrev wPr:Z0:=(10,[.c<|.a<|.osl 0 9 0 2],wBr, .tup [(false,[wf wP]),(false,[wf<|wi 0])],wBr)
def w_pr:AC Tryz.prog wPr.1 wPr.2.1 wPr.2.2.1 wPr.2.2.2.1 wPr.2.2.2.2:=JW w_k1 (by kernel_rfl)
abbrev wGo:Z0:=(12,[wA<|wAp<|wT 4 [], .c<|wf<|wi 1],[], .tup [(true,wGl.map wf),(false,[wf<|wi 0])],[])
def w_go:AC Tryz.prog wGo.1 wGo.2.1 wGo.2.2.1 wGo.2.2.2.1 wGo.2.2.2.2:=JW w_k1 (by kernel_rfl)
abbrev wM (nf:AV)(A:FV)(k n:Nat)(f:Int)(w:Bool):AObj:= .arr 14 [[.a<|.ep 1 6 0 0,wf wP, .a<|.ep 6 1 0 0,wf<|wi 100000, .a<|.osl 9 1 0 1, .a nf,wf<|wi 0,wf A,wf<|wi 0,wf npF, .a<|.osl k 10 0 n,wf<|wi f,wf<|.bool w,wf npF]]
abbrev wH (a b c x y z:Nat):AObj:= .arr 6 [[.a<|.osl a 5 0 x, .a<|.osl b 7 0 y,wf<|wi 1000000,wf<|wi 1000000, .a<|.osl c 1 0 z, .a<|.mp 5]]
abbrev wR:List AObj:=[.arr 1 [[.a<|.mp 7]], .mapo [((true,[.str [112],wi 1]),(false,[.a<|.osl 8 6 0 2]))], .arz 6 [[wi 0, .bool false,wi 0, .str [97],wi 0,wi 0],[wi 1, .bool false,wi 0, .str [98],wi 0,wi 0]], .arz 1 [[wi 0]],
 .arr 6 [[.a<|.ep 11 6 0 0, .a<|.osl 9 1 0 1,wf<|wi 0,wf<|wi 1,wf npF,wf<|wi 0]], .arr 6 [wGl.map wf]]
abbrev wC (t a:Int):List FV:=[wi t,wi a,wi 0,wi 0,wi 0]
abbrev wE (c:UInt8):List FV:=[wi 0, .sl false 4 [wT 0 [c]],wi 0]
abbrev wNx:Z0:=(23,[aM,ci 1000],wM (.ep 10 6 0 0) .N 12 0 0 false::wH 2 3 4 1 0 0:: .arz 5 [wC 4 0]:: .arz 7 []:: .arz 1 []:: .mapz []::(wR++ [.arz 10 []]), .tup [(true,(wE 97).map wf),(false,[wf<|wi 991])],
 wM (.fz npF) (.sl false 1 [[wi 0]]) 16 1 991 true::wH 13 14 15 3 1 1:: .gone:: .gone:: .gone:: .mapz [((false,[.str [97]]),(false,[wi 0]))]::(wR++ [.gone, .arz 5 [wC 5 2,wC 0 0,wC 0 0], .arz 7 [wi 0::wi 4::wC 0 0], .arz 1 [[.str [97]]],
  .arz 10 [[wi 1,wi 0,wi 0,npF,npF,wi 0, .sl false 1 [[wi 0]],npF,wi 0, .sl false 2 [[.pt<|wCd 98, .N]]]]]))
def w_nx:AC Tryz.prog wNx.1 wNx.2.1 wNx.2.2.1 wNx.2.2.2.1 wNx.2.2.2.2:=JW w_no (by kernel_rfl)
abbrev wEv:Z0:=(8,[.c<|wf wP,wA wGl,wA [wi 1000000,wi 1000000,wi 100000],cb true,ci 9,ci 1000],[], .c<|wf<|.sl false 3 [wE 97,wE 98,[wi 1, .N,wi 0]],[])
def w_ev:AC Tryz.prog wEv.1 wEv.2.1 wEv.2.2.1 wEv.2.2.2.1 wEv.2.2.2.2:=JW (ZT w_nx w_k1) (by kernel_rfl)
def mr:AC Tryz.prog 4 [] [] (cb true) []:=JW (ZT w_ev<|ZT w_pr<|ZT w_go w_k1) (by kernel_rfl)
abbrev stR26 (l:List Cd)(g:Cd)(idx r:Bool)(i:Int):St:=⟨[(0,aCs l),(2,cb idx),(4, .c<|.a<|.ep 0 6 0 0),(7,cb true),(9,cb r),(10,ci i)],[(0,cdO g)],1⟩
def okR (c:Cd):= !oddB c
def cX (c):okR c=(decide (c.fr=0)&&vC c):=by
 unfold okR oddB;split
 .rename_i h;simp [h]
 .rename_i h;simp [h]
def r26 (g:Cd):=decide (g.ar=0)&&okR g
def l_raw (l g idx)(F:l.length<=8)(E:∀c∈l,c.sz<=B/\okCd c)(G:g.sz<=B/\okCd g)(u:0<=w7 g 40):∀(b a) (r),l=a++b->(∀c∈a,0<=w7 c 40)->r=(r26 g&&a.all okR)->
  RPt Tryz.prog 3 0 (cb true) [] 1 (stR26 l g idx r a.length)
 |[],a,r,d,H,o=>by
  have d:l=a:=by rw [d];simp
  have I:¬a.length<(((FCs l).length):Int):=by rw [zq,d];omega
  have w:∀c∈l,c.sz<=B/\nbC c:=λc f=>⟨(E c f).1,ZB c 40 (by omega)<|H c<|by rw [<-d];exact f⟩;have v:=ZB g 40 (by omega) u;have S:=WD l g (by omega) w G.1 v
  have e:jf l g=r:=by
   rw [o,<-d];unfold jf r26;have:(!l.any oddB)=l.all okR:=by rw [List.all_eq_not_any_not];simp [okR,Bool.not_not]
   rw [this];unfold okR;cases oddB g<;>cases decide (g.ar=0)<;>rfl
  rw [e] at S
  have key:∃rows,AC Tryz.prog 8 [aCs l,aC g,WX,cb idx,ci 4,ci 3000] [] (aEs rows) []/\rows ≠ []/\(r=false->rows=[evR 2 [] 0]):=by
   cases D:r with
   |true=>
    rw [D] at o e;have o:=o.symm;simp [rf,rH] at o
    have z:∀c:Cd,okR c=true->c.sz<=B/\okCd c->0<=w7 c 40->CdOk c:=λc j p J=>by
     rw [cX,rf] at j;exact ⟨j.2,p.1,p.2,40,by omega,by omega,J⟩
    let ⟨rows,j,p⟩:=c_evGood<|new_good l g idx F (λc f=>⟨z c (o.2 c<|by rw [<-d];exact f) (E c f)<|H c<|by rw [<-d];exact f,(w c f).2⟩) (z g (by have:=o.1;simp [r26,rf] at this;exact this.2) G u) v e
    exact ⟨rows,p,j,λh=>by cases h⟩
   |false=>
    rw [D] at e
    let ⟨m,j,p⟩:=new_bad l g idx (by omega) w G.1 v e
    exact ⟨_,c_evBad j p,by simp,λ_=>rfl⟩
  let ⟨rows,j,p,J⟩:=key
  refine rpv (v3_1a ..) ⟨rfl,bF I ⟨rows,j,rfl,za (λh=> ?_) λ_=>⟨r,S,za (λh=>by cases r<;>cases h) λ_=>bP<|za (λ_=>rrl) λh=>⟨rfl, ?_⟩⟩⟩⟩
  .cases rows with
   |nil=>exact absurd rfl p
   |cons=>simp at h;omega
  .rw [J h];exact bP ⟨⟨rfl,by decide,by show 0<1;decide,rfl⟩, .refl _,rfl⟩
 |c::b,a,r,d,H,o=>by
  have M:a.length<=8:=by rw [d] at F;simp at F;omega
  have A:a.length<(((FCs l).length):Int):=by rw [zq,d];simp;omega
  have K:=kR a c b;rw [<-d] at K;have f:=E c (by rw [d];simp);have L:=di c f.1 40 (by omega) (by omega);have O:=c_cslots c f.1;have C:FV.L 6 (.sl false 6<|FCs l)=true/\(0<=(a.length:Int)/\(a.length<(((FCs l).length):Int)/\(fCr _)=FC c)):=⟨rfl,by omega,A,qV c⟩;rw [<-(jy c)] at L O
  have nx:0<=w7 c 40->RPt Tryz.prog 3 0 _ [] 1 (stR26 l g idx (r&&okR c)<|a.length+1):=λh=>by
   have:=l_raw l g idx F E G u b (a++ [c]) (r&&okR c) (by rw [d];simp) (λx hx=>by
    rcases rS.1 hx with hx|hx
    .exact H x hx
    .rw [rM.1 hx];exact h) (by rw [o,List.all_append];simp [tv])
   rwa [show ((a++ [c]).length)=a.length+1 by simp] at this
  refine rpv (v3_1a ..) ?_;rw [w64 (x:=(a.length:Int)+1) (by omega)<|by omega,K];refine ⟨rfl,bT A ⟨C,_,L,za (λ_=>rrl) λj=>⟨C,za (λ_=>rrl) λ_=>⟨C,_,O,za (λ_=>rrl) λ_=> ?_⟩⟩⟩⟩;have i:0<=w7 c 40:=by simp [ip] at j;omega
  have nx:=nx i;have N:=Kv c f.1<|ZB c 40 (by omega) i
  rw [<-(jy c)] at N;rw [cX] at nx;refine za (λq=>⟨C,za (λy=>⟨C,_,N, ?_⟩) λy=> ?_⟩) λq=> ?_
  .rw [FC2] at y;rw [q,show decide (c.fr=0)=true by simpa using y] at nx;exact nx
  .rw [FC2] at y;rw [q,show decide (c.fr=0)=false by simpa using y] at nx;exact nx
  .rw [q] at nx;exact nx
def Jp (l g idx)(o:∀c∈l,c.sz<=B/\okCd c)(f:g.sz<=B/\okCd g):AC Tryz.prog 3 [aCs l,aC g,cb idx] [] (cb true) []:=by
 have m:=di g f.1 40 (by omega) (by omega);refine acv (v3 ..) ⟨_,mr,bN ⟨_,m,rfl,za (λ_=>rrl) λv=>za (λ_=>rrl) λp=>za (λ_=>rrl) λ_=>za (λ_=>rrl) λ_=> ?_⟩⟩;have e:l.length<=8:=by have:=rg v;rw [zq] at this;omega
 have b:0<=w7 g 40:=by simp [ip] at p;omega
 have h:∀r,r=r26 g->RPt Tryz.prog 3 0 _ [] 1 _:=λr i=>l_raw l g idx e o f b l [] r rfl (λc j=>by cases j) (by rw [i];simp);have u:=Kv g f.1<|ZB g 40 (by omega) b
 refine za (λq=>za (λd=>⟨_,u,h _ ?_⟩) λd=>h _ ?_) λq=>h _ ?_
 .rw [r26,cX,show decide _=true by simpa using q,show decide _=true by simpa using d];rfl
 .rw [r26,cX,show decide (g.fr=0)=false by simpa using d];simp
 .rw [r26,show decide _=false by simpa using q];rfl
end Go.AM

set_option maxRecDepth 100000
open Go Go.Proofs
namespace Go.Proofs.YtmhhfoejjigkhaaGreat.base
open Go.ChangeShapes Go.WideShapes Go.ChangeAt Go.RowKit Go.AM
def one_le {H:Type}(d:DataW H):1<=Rows.uptoBulk d:=by
 cases d with
 |lit l=>cases l<;>simp [Rows.uptoBulk]
 |_=>simp [Rows.uptoBulk]
def bulk {H:Type}:Bulk (H:=H) Rows.uptoBulk Rows.uptoBulkAll:=
 ⟨rfl,λ_ _=>rfl,one_le,λes b=>by simp only [Rows.uptoBulk];omega,λl=>by simp [Rows.uptoBulk],λl=>by simp [Rows.uptoBulk]⟩
def own:ownKnob Tryz.prog.godebug=none:=by kernel_rfl
def laidOut:laidOutB Tryz.prog=true:=by kernel_rfl
def tmTy:∃f0 e d b:Field,TmTy Tryz.prog 43 f0 e d b:=
 ⟨_,_,_,_,Tryz.underlying43,Tryz.underlying41,Tryz.underlying9,Tryz.underlying3,Tryz.underlying36,rfl,rfl,rfl,rfl,by kernel_rfl,by kernel_rfl,by kernel_rfl,by kernel_rfl,by kernel_rfl⟩
def rec4:Tryz.prog.readableRec 4=true:=by kernel_rfl
def lt4:4<Tryz.prog.types.size:=ro (by kernel_rfl)
def rec22:Tryz.prog.readableRec 22=true:=by kernel_rfl
def lt22:22<Tryz.prog.types.size:=ro (by kernel_rfl)
def rec25:Tryz.prog.readableRec 25=true:=by kernel_rfl
def lt25:25<Tryz.prog.types.size:=ro (by kernel_rfl)
def noGl (g:Nat)(h:Tryz.prog.globalNamed "internal/strconv.uint64pow10" =some g):False:=by
 rw [show Tryz.prog.globalNamed "internal/strconv.uint64pow10" =none by kernel_rfl] at h;cases h
def upto {H:Type}{l:List (DataW H)}(b:Rows.uptoSmall H l=true):Rows.uptoBulkAll l<=1048576:=ro b
end Go.Proofs.YtmhhfoejjigkhaaGreat.base
