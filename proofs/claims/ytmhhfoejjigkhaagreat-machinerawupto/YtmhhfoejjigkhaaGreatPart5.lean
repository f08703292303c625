/- Contracts of the code's functions over plain values, and plain laws: part 5. No conditions. -/
import Derived.Test.YtmhhfoejjigkhaaGreatPart4
import Derived.Test.YtmhhfoejjigkhaaGreatPart2
set_option linter.all false
set_option maxRecDepth 100000
open Go Go.Proofs
namespace Go.AM
open Go.IntKind (wrap)
def ixQ (p:Tm->Bool):List Tm->Nat->Int
 |[],_=> -1
 |t::l,i=>if p t=true then (i:Int) else ixQ p l<|i+1
def lS (p):∀(l) (i),decide (ixQ p l i>=0)=l.any p
 |[],_=>rfl
 |t::l,i=>by
  rw [ixQ,sK];split
  .rename_i h;rw [h];simp
  .rename_i h;rw [lS p l,show p t=false by simpa using h,sF]
abbrev obQ (t:Tm):AObj:= .arr 4 [cT t]
def aY (a o):AC Tryz.prog 248 [aT a, .c<|.a<|.ep 0 4 0 0] [obQ o] (cb<|lfZ a o) [obQ o]:=by
 have h:=gS a o
 let ⟨k,s,n,l⟩:=a
 let ⟨b,e,d,l'⟩:=o
 refine acv (v248 k s n _ b e d _ _ _) ?_;exact ⟨_,h, .refl _,rfl⟩
def l_ixQ (o b):∀a,(a++b).length<=B->
  RPt Tryz.prog 139 2 (ci<|ixQ (λu=>lfZ u o) b a.length) [.arz 4<|FTs<|a++b,obQ o] 1 ⟨[(0, .c<|.a<|.osl 0 4 0 (a++b).length),(1, .c<|.fn (.func 248) [] [(false,[.ep 1 4 0 0])]),(7,ci<|(a++b).length),(8,ci a.length)],[(0, .arz 4<|FTs<|a++b),(1,obQ o)],2⟩:=by
 induction b with
 |nil=>
  intro a d
  let ⟨ok,i,on,f⟩:=o
  refine rpv (ux ..) ?_;exact bF (by simp) rrl
 |cons t b e=>
  intro a d;have r:=ltI' a t b;have j:=aY t o;have g:=e (a++ [t]) (by simpa using d);rw [sm,List.singleton_append,show (((a++ [t]).length))=(a.length:Int)+1 by simp,show (a++ [t]).length=a.length+1 by simp] at g;rw [ixQ];simp [re,r6,B] at d;have p:a.length<((a++t::b).length:Int):=by simp [re,r6];omega
  have m:=u9 a t b
  let ⟨ok,i,on,f⟩:=o
  refine rpv (ux ..) ?_;rw [w64 (by omega)<|by omega];refine bT p ⟨by simp [re,r6];omega,⟨by rw [rD];omega,by rw [rD,m,midI,rR,rp<|by rw [kS];exact r9 _],rfl⟩,lfZ t _,by rw [rD,kf];exact j,za (λh=> ?_) λh=> ?_⟩
  .rw [ri h];exact rrl
  .rw [r8<|by rw [h];simp];exact g
def c_anyQ (o l)(f:l.length<=B):AC Tryz.prog 98 [.c<|.a<|.osl 0 4 0 l.length, .c<|.fn (.func 248) [] [(false,[.ep 1 4 0 0])]] [.arz 4<|FTs l,obQ o] (cb<|l.any λu=>lfZ u o) [.arz 4<|FTs l,obQ o]:=by
 have h:AC Tryz.prog 139 [.c<|.a<|.osl 0 4 0 l.length, .c<|.fn (.func 248) [] [(false,[.ep 1 4 0 0])]] [.arz 4<|FTs l,obQ o] (ci<|ixQ (λu=>lfZ u o) l 0) [.arz 4<|FTs l,obQ o]:=by
  have:=l_ixQ o l [] f
  let ⟨ok,d,on,b⟩:=o
  refine acv (Jk ..) ?_;exact this
 have e:=lS (λu=>lfZ u o) l 0
 let ⟨ok,d,on,b⟩:=o
 refine acv (fB ..) ?_;exact ⟨_,h,by rw [<-e];exact .refl _,rfl⟩
def c_anyQN (o):AC Tryz.prog 98 [.c<|qf .N, .c<|.fn (.func 248) [] [(false,[.ep 0 4 0 0])]] [obQ o] (cb false) [obQ o]:=by
 have e:AC Tryz.prog 98 [aL [], .c<|.fn (.func 248) [] [(false,[.ep 0 4 0 0])]] [obQ o] (cb false) [obQ o]:=by
  have h:AC Tryz.prog 139 [aL [], .c<|.fn (.func 248) [] [(false,[.ep 0 4 0 0])]] [obQ o] (ci (-1)) [obQ o]:=by
   let ⟨ok,d,on,b⟩:=o
   refine acv (pp ..) ?_;refine ⟨rfl,rpv (JV ..) ?_⟩;exact bF (by simp [FTs]) rrl
  let ⟨ok,d,on,b⟩:=o
  refine acv (v98_F248 ..) ?_;exact ⟨_,h, .refl _,rfl⟩
 exact e.args ⟨.c _ _<|.a _ _<|.fz _ _ xL, .refl _,trivial⟩
abbrev tLs (x:List Tm×Int):TV:= .tup [(false,[qf<|.sl false 4<|FTs x.1]),(false,[qi x.2])]
def leLs (e):TV.Le (.tup [(false,[qf .N]),(false,[qi e])]) (tLs ([],e)):=
 YD (xs:=[(false,[.N]),(false,[.int .i64 e])]) (ys:=[(false,[.sl false 4 _]),(false,[.int .i64 e])]) ⟨⟨rfl,xL,trivial⟩,⟨rfl, .refl _⟩,trivial⟩
abbrev wkH (w:Wp)(n:Nat)(R:List<|List FV):AHeap:=[(0,wk3 1 10 w.f n),(1,hp6 7 8 9 5 w.s),(2, .gone),(3, .gone),(4, .gone),(5, .mapz<|NM w.s.N 0),(6, .gone),(7, .arz 5<|CR w.s.C),(8, .arz 7<|TR w.s.T),(9, .arz 1<|NR w.s.N),(10, .arz 2 R)]
abbrev aIs (l:List Int):TV:= .c<|qf<|.sl false 1<|IR l
abbrev stLv (lv:Int)(l:List Int)(out:List Tm)(w:Wp)(n:Nat)(R:List<|List FV)(i:Int):St:=
 if out=[] then ⟨[(0,aWk),(1,ci lv),(8, .c<|qf .N),(16,aIs l),(17,ci l.length),(18,ci i)],wkH w n R,11⟩
 else ⟨[(0,aWk),(1,ci lv),(8, .c<|.a<|.osl 11 4 0 out.length),(16,aIs l),(17,ci l.length),(18,ci i)],wkH w n R++ [(11, .arz 4<|FTs out)],12⟩
def Kz (a x b):List.getD (IR<|a++x::b) (Int.toNat a.length) []=[.int .i64 x]:=by rw [rt];exact Wv a x b
def pF (a x b):a.length<(((IR<|a++x::b).length):Int):=by rw [zn];simp;omega
def Zc {α:Type}(l)(a:α):l++ [a] ≠ []:=by simp
def KZ (K lv n R E)(S:E.length<=1000000000):∀(b d) (out) (w),E=d++b->out.length<=d.length->OkW K w->
  RPt Tryz.prog 239 7 (tLs (zh lv b out w).1) (oWk' (zh lv b out w).2 n R) 1 (stLv lv E out w n R d.length)
 |[],d,out,w,I,_,ok=>by
  rw [rF] at I;subst I;unfold stLv;by_cases M:out=[]
  .subst M;rw [ri rfl];refine rpv (pm ..) ?_;exact bF (by omega) ⟨leLs 0,rfl⟩
  .rw [r8 M];refine rpv (lR ..) ?_;refine bF (by omega) ⟨⟨rfl,by rw [zb];omega⟩, ?_,rfl⟩;rw [rR,rp<|by rw [zb];exact r9 _];exact .refl _
 |a::b,d,out,w,I,ho,ok=>by
  have T:=c_wfull K w n R ok a
  let ⟨Y,_,g3⟩:=bu ok a
  have W:zh lv (a::b) out w=if (xx w a).1.2≠0 then (([],(xx w a).1.2),(xx w a).2)
   else if badZ lv out (xx w a).1.1=true then (([],171),(xx w a).2) else zh lv b (out++ [(vi (xx w a).1.1).1]) (xx w a).2:=rfl
  have U:List.getD (IR E) (Int.toNat (d.length:Int)) []=[.int .i64 a]:=by rw [I];exact Kz d a b
  have O:(d.length:Int)<(((IR E).length:Nat):Int):=by rw [I];exact pF d a b
  have V:(d.length:Int)<(E.length:Int):=by rw [zn] at O;exact O
  have next:=λ(o) v X h2=>KZ K lv n R E S b (d++ [a]) o v (by rw [I];simp) (by simpa using X) h2;rw [show (((d++ [a]).length))=d.length+1 by simp] at next;rw [W];have L:=λh=>Y.ok ok h;generalize xx w a=z at*
  let ⟨⟨t,e⟩,v⟩:=z
  dsimp only at T g3 L ⊢;have r:=c_hLeaf t (by simp [SZ];omega);have C:badZ lv out t=(!(vi t).2||((vi t).1.k==1&&decide ((vi t).1.n<=lv))||out.any λx=>lfZ x (vi t).1):=rfl;generalize vi t=y at*
  let ⟨j,D⟩:=y
  dsimp only at r C ⊢;have F:=c_anyQ j out (by simp [B];omega);have G:=c_anyQN j;unfold stLv at next ⊢;have i1:e≠0->(if e≠0 then (([],e),v) else if badZ lv out t=true then (([],171),v) else zh lv b (out++ [j]) v)=(([],e),v):=λh=>ri h
  have i2:e=0->badZ lv out t=true->(if e≠0 then (([],e),v) else if badZ lv out t=true then (([],171),v) else zh lv b (out++ [j]) v)=(([],171),v):=λh g=>by rw [r8 λw=>w h,ri g]
  have i3:e=0->badZ lv out t=false->(if e≠0 then (([],e),v) else if badZ lv out t=true then (([],171),v) else zh lv b (out++ [j]) v)=zh lv b (out++ [j]) v:=λh g=>by rw [r8 λw=>w h,r8<|by rw [g];simp]
  generalize (if e≠0 then (([],e),v) else if badZ lv out t=true then (([],171),v) else zh lv b (out++ [j]) v)=Z at*
  have A:e=0->badZ lv out t=false->RPt Tryz.prog 239 7 (tLs Z.1) (oWk' Z.2 n R) 1
    ⟨[(0,aWk),(1,ci lv),(8, .c<|.a<|.osl 11 4 0<|out.length+1),(16,aIs E),(17,ci E.length),(18,ci<|d.length+1)],wkH v n R++ [(11, .arz 4<|FTs out++ [FT4 j])],12⟩:=λN h=>by
   have:=next (out++ [j]) v (by simp;omega) (L N);rw [r8<|Zc _ _,yA,re] at this;rw [i3 N h,wL];exact this
  have m:e=0->badZ lv out t=true->TV.Le (.tup [(false,[qf .N]),(false,[qi 171])]) (tLs Z.1)/\oWk' v n R=oWk' Z.2 n R:=λN h=>by
   rw [i2 N h];exact ⟨leLs 171,rfl⟩
  by_cases M:out=[]
  .subst M;rw [ri rfl];refine rpv (pm ..) ?_;rw [U,w64 (x:=d.length+1) (by omega)<|by omega];have J:(([]:List Tm).any λx=>lfZ x j)=false:=rfl;refine bT V ⟨⟨rfl,by omega,O,rfl⟩,(t,e,⟨v.s,v.f,n,R⟩),T,zQ (λq=> ?_) λq=>⟨(j,D),r,zl (λu=>za (λi=>m q ?_) λi=>za (λp=>m q ?_) λp=>⟨false,G,bN ⟨r9 _,vk<|by omega,A q ?_⟩⟩) λu=>za (λi=>m q ?_) λi=>⟨false,G,bN ⟨r9 _,vk<|by omega,A q ?_⟩⟩⟩⟩
   .rw [i1 q];exact ⟨leLs e,rfl⟩
   .have i:(!D)=true:=i;rw [C,i];rfl
   .have p:=p;have u:=u;rw [C,p,u];simp
   .have i:=i;have p:=p;rw [C,i,p,J,s7];rfl
   .have i:=i;rw [C,i];rfl
   .have i:=i;have u:=u;rw [C,i,J,show (j.k==1)=false by simpa using u];rfl
  .rw [r8 M];refine rpv (lR ..) ?_;rw [U,w64 (x:=(d.length:Int)+1) (by omega)<|by omega,rp (l:=FTs out)<|by rw [zb];exact r9 _];have H:out.length<=(FTs out).length/\zi (out.length+1) 56:=⟨by rw [zb];exact r9 _,vk<|by omega⟩;refine bT V ⟨⟨rfl,by omega,O,rfl⟩,(t,e,⟨v.s,v.f,n,R⟩),T,zQ (λq=> ?_) λq=>⟨(j,D),r,zl (λu=>za (λi=>m q ?_) λi=>za (λp=>m q ?_) λp=>⟨_,F,za (λh=>m q ?_) λh=>⟨r9 _,H,A q ?_⟩⟩) λu=>za (λi=>m q ?_) λi=>⟨_,F,za (λh=>m q ?_) λh=>⟨r9 _,H,A q ?_⟩⟩⟩⟩
   .rw [i1 q];exact ⟨leLs e,rfl⟩
   .have i:(!D)=true:=i;rw [C,i];rfl
   .have p:decide (j.n<=lv)=true:=p;have u:=u;rw [C,p,u];simp
   .rw [C,h,tj]
   .have i:=i;have p:=p;rw [C,i,p,h,s7];rfl
   .have i:=i;rw [C,i];rfl
   .rw [C,h,tj]
   .have i:=i;have u:=u;rw [C,i,h,show (j.k==1)=false by simpa using u];rfl
def jB (K lv n R l)(b:l.length<=1000000000)(w)(ok:OkW K w):AC Tryz.prog 239 [aWk,ci lv,aIs l] (oWk w n R) (tLs (zh lv l [] w).1) (oWk' (zh lv l [] w).2 n R):=by
 have h:=KZ K lv n R l b l [] [] w rfl (r9 _) ok;refine acv (v239 ..) ?_;rw [zn];exact ⟨rfl,h⟩
def c_wset (K)(b:K<=100000000000)(w n R)(ok:OkW K w)(x t)(d:t.sz<=B):AC Tryz.prog 244 [aWk,ci x,aT t] (oWk w n R) (ci (setW w x t).1) (oWk' (setW w x t).2 n R):=by
 have i:=c_EncA K b t d w.s ok.h ok.n;have e:=encS_h none w.s t ok.h
 have e0:setW w x t=if (encS none w.s t).1.2≠0 then ((encS none w.s t).1.2,⟨(encS none w.s t).2,w.f⟩)
  else ((setS (encS none w.s t).2 x ⟨5,(encS none w.s t).1.1,0,0,0⟩).1,⟨(setS (encS none w.s t).2 x ⟨5,(encS none w.s t).1.1,0,0,0⟩).2,w.f⟩):=rfl
 rw [e0];generalize encS none w.s t=z at*;have g:=c_hset z.2 x ⟨5,z.1.1,0,0,0⟩ (by have:=e.T;omega)
 let ⟨k,s,m,l⟩:=t
 refine acv (v244 x k s m _ ..) ?_;refine ⟨z,i,zQ (λq=> ?_) λq=> ?_⟩
 .rw [ri q];exact rrl
 .rw [r8 λw=>w q];exact ⟨_,g, .refl _,rfl⟩
def Y3:∀(n) (f),(xv n f).sz=n+f.sz
 |0,f=>by rw [xv];omega
 |n+1,f=>by
  rw [xv,Y3 n];simp [Tm.sz,Tm.szs];omega
def i6 (K)(o:K<=100000000000)(w n R)(ok:OkW K w)(x lv)(b:Nat)(on)(C:b<=1000000000)(y:Tm.szs on<=1000000000):AC Tryz.prog 242 [aWk,ci x,ci lv,ci b,aL on] (oWk w n R) (tTE (w8 w x lv b on).1) (oWk' (w8 w x lv b on).2 n R):=by
 have v:=Ja w.s ok.h lv;have r:=ok.fresh lv
 have e0:w8 w x lv b on=if (zW w.s lv).1.2≠0 then ((noT,(zW w.s lv).1.2),⟨(zW w.s lv).2,w.f⟩)
  else ((.mk 4 [] (zW w.s lv).1.1 [],(setW ⟨(zW w.s lv).2,w.f⟩ x _).1),(setW ⟨(zW w.s lv).2,w.f⟩ x _).2):=rfl
 rw [e0];have j:=λh=>r.ok ok h;generalize zW w.s lv=z at*
 let ⟨⟨a,e⟩,d⟩:=z
 dsimp only at*;have m:=Tm.szs_length on;have u:=(vI _ on<|by simp [Tm.l,rv];omega).args (args:=[.agg [qi 4,qf<|.str [],qi a,qf .N],aL on]) ⟨leT xL, .refl _,trivial⟩;have i:=gg b (zt (.mk 4 [] a []) on) (by omega);have p:=wY (.mk 4 [] a []) on;have A:(Tm.mk 4 [] a []).sz=1:=rfl;have g:=λh=>c_wset K o ⟨d,w.f⟩ n R (j h) x (xv b<|zt (.mk 4 [] a []) on) (by rw [Y3];simp [B];omega);refine acv (v242 x lv b (FTs on) ..) ?_;refine ⟨(a,e,d),v,zQ (λq=> ?_) λq=> ?_⟩
 .rw [ri q];exact ⟨noTE e,rfl⟩
 .rw [r8 λw=>w q];exact ⟨_,u,_,i,((setW ⟨d,w.f⟩ x<|xv b<|zt (.mk 4 [] a []) on).1,⟨(setW ⟨d,w.f⟩ x<|xv b<|zt (.mk 4 [] a []) on).2.s,(setW ⟨d,w.f⟩ x<|xv b<|zt (.mk 4 [] a []) on).2.f,n,R⟩),g q,leTE (l:=[]) xL,rfl⟩
def tabT:List Cd->Int->List Ent->List Ent
 |[],_,E=>E
 |c::l,i,E=>tabT l (i+1)<|insT (c.nm,c.ar) (i,yT c) E
def dF (p x):∀E,(insT p x E).length<=E.length+1
 |[]=>r9 _
 |e::E=>by
  have:=dF p x E;rw [insT];split<;>simp [r6]<;>omega
def XN (p x n):∀E,(∀e∈E,e.2.2.length<=n)->∀e∈insT p x E,e.2.2.length<=n+1
 |[],_,e,he=>by rw [insT,rM] at he;subst he;simp
 |e0::E,h,e,he=>by
  have b:=h e0 rn;rw [insT] at he;split at he
  .rcases rG.1 he with rfl|he
   .simp;exact b
   .have:=h e (rh _ he);omega
  .rcases rG.1 he with rfl|he
   .omega
   .exact XN p x n E (λu d=>h u<|rh _ d) e he
def l_inew (l)(g:l.length<=8)(m:∀c∈l,c.sz<=B):∀(b a) (E),l=a++b->E.length<=a.length->(∀e∈E,e.2.2.length<=a.length)->
  RPt Tryz.prog 34 0 (.c<|.a<|.ep 0 1 0 0) (outN<|tabT b a.length E) 1 (stN l E a.length)
 |[],a,E,f,o,i=>by
  have d:l=a:=by rw [f];simp
  have:=exitN l E (by rw [d] at g;omega);rw [zq,d] at this;rw [tabT,d];exact this
 |c::b,a,E,f,o,i=>by
  have j:a.length+(b.length+1)<=8:=by rw [f] at g;simpa using g
  rw [tabT];refine stepN l a b c f g (m c<|by rw [f];simp) _ _ E (by omega) (λe h=>by have:=i e h;omega) ?_
  have:=l_inew l g m b (a++ [c]) (insT (c.nm,c.ar) (a.length,yT c) E) (by rw [f];simp) (by have:=dF (c.nm,c.ar) (a.length,yT c) E;simp;omega) (λe h=>by
   have:=XN _ (a.length,yT c) a.length E i e h;simpa using this)
  rw [nx] at this;exact this
def KA:∀(E) (o i) (e:MapE),(YI E o)[i]? =some e->∃x,E[i]? =some x/\e=((true,[.str x.1, .int .i64 x.2.1]),(false,[.a<|.osl (o+i) 6 0 x.2.2.length]))
 |[],o,i,e,h=>by simp [YI] at h
 |x::E,o,0,e,h=>by
  simp [YI,sd,rc] at h;exact ⟨x,rfl,h.symm⟩
 |x::E,o,i+1,e,h=>by
  simp [YI,sN] at h
  let ⟨y,d,b⟩:=KA E _ i e h
  exact ⟨y,by simpa using d,by rw [b,show o+1+i=o+(i+1) by omega]⟩
def Ku:∀(E) (o),(YI E o).length=E.length
 |[],_=>rfl
 |_::E,o=>by rw [YI,r6,Ku E];rfl
def c_inew (l)(j:l.length<=8)(b:∀c∈l,c.sz<=B):AC Tryz.prog 34 [aCs l] [] (.c<|.a<|.ep 0 1 0 0) [tab0, .mapz<|tabZ<|tabT l 0 []]:=by
 have h:=l_inew l j b l [] [] rfl (r9 _) λe g=>nomatch g
 have d:AC Tryz.prog 34 [aCs l] [] (.c<|.a<|.ep 0 1 0 0) (outN<|tabT l 0 []):=by
  refine AC.vc hP sh lv34 (sQ _) (by simp) (λx hx=> ?_)<|Eq.mpr (v34 ..) ⟨rfl,h⟩
  simp [rv,rR,outN,rG] at hx;rcases hx with rfl|rfl|hx
  .trivial
  .unfold mapO;split<;>trivial
  .obtain ⟨e,_,rfl⟩:=ss.1 hx;trivial
 revert d;generalize tabT l 0 []=E;intro d;cases E with
 |nil=>exact d
 |cons e E=>
  refine AC.freeze (es:=YI _ 2) (rows:=rowsO _) d (by rw [Ku,tabZ,sc]) λi x z hx b=> ?_;obtain ⟨y,f,rfl⟩:=KA _ _ _ _ hx;rw [tabZ,rq,f] at b;simp [rx,rc] at b;subst b;refine ⟨rfl,6,y.2.2.length,ER y.2.2,rfl,by rw [rowsO,rq,f];rfl,ER_len _, ?_⟩;rw [rp<|by simp [ER]]
def jx (nm:List UInt8)(ar:Int):List Ent->Option (List<|Int×Key)
 |[]=>none
 |e::E=>if (((nm:List UInt8)==e.1)&&(((ar:Int)==e.2.1)&&true))=true then some e.2.2 else jx nm ar E
abbrev mK:=((true,[EK.str,EK.int]),(false,[qf .N]))
def findT (nm ar):∀(E) (i),(jx nm ar E=none->xK mK.1 [.str nm, .int .i64 ar] ((tabZ E).map thaw) i=some none)/\
  ∀x,jx nm ar E=some x->∃(j:Nat) (e:Ent),xK mK.1 [.str nm, .int .i64 ar] ((tabZ E).map thaw) i=some (some<|i+j)/\E[j]? =some e/\e.2.2=x
 |[],i=>⟨λ_=>rfl,λx h=>by cases h⟩
 |e::E,i=>by
  have ih:=findT nm ar E<|i+1
  have m:xK mK.1 [.str nm, .int .i64 ar] ((tabZ<|e::E).map thaw) i=if ((nm==e.1)&&((ar==e.2.1)&&true))=true then some _ else xK mK.1 [.str nm, .int .i64 ar] ((tabZ E).map thaw) _:=rfl
  rw [m,jx];by_cases q:((nm==e.1)&&((ar==e.2.1)&&true))=true
  .rw [ri q,ri q];exact ⟨λh=>(by cases h),λx h=>⟨0,e,(by rw [sT]),rfl,(by injection h)⟩⟩
  .rw [r8 q,r8 q];refine ⟨ih.1,λx h=> ?_⟩
   let ⟨j,d,f,b,g⟩:=ih.2 x h
   exact ⟨j+1,d,by rw [f,show i+1+j=i+(j+1) by omega],by simpa using b,g⟩
def bJ {nm ar E}(h:jx nm ar E=none):kH mK [.str nm, .int .i64 ar] (tabZ E)=some none:=by
 unfold kH;rw [(findT nm ar E 0).1 h]
def bK {nm ar E x}(h:jx nm ar E=some x):kH mK [.str nm, .int .i64 ar] (tabZ E)=some (some [.sl false 6<|ER x]):=by
 let ⟨j,e,b,f,d⟩:=(findT nm ar E 0).2 x h
 unfold kH;rw [b];simp [rD];rw [tabZ,rq,f];simp [rx,d,rC]
def fitL (k:Key):List (Int×Key)->List Int
 |[]=> []
 |x::l=>if vM x.2 k=true then x.1::fitL k l else fitL k l
def er_mid (a x b):List.getD (ER<|a++x::b) (Int.toNat a.length) []=kRow x:=by
 rw [show Int.toNat a.length=a.length by omega,ER];simp [List.getD]
def lh (l x):List.take l.length (IR l)++ [[.int .i64 x]]=IR (l++ [x]):=by
 rw [rp<|by simp [IR]];simp [IR]
abbrev obK (k:Key):AObj:= .arr 5 [[qf<|.bool k.any,qi k.k,qf<|.str k.nm,qi k.n,qi k.ar]]
def fo (k):∀(b a) (d),(a++b).length<=60->d.length<=a.length->
  RPt Tryz.prog 196 0 (aIs<|d++fitL k b) [] 1 ⟨[(3, .c<|.a<|.ep 0 5 0 0),(5, .c<|.a<|.osl 1 1 0 d.length),(8, .c<|qf<|.sl false 6<|ER<|a++b),(9,ci<|((ER<|a++b).length)),(10,ci a.length)],[(0,obK k),(1, .arz 1<|IR d)],2⟩
 |[],a,d,f,j=>by
  refine rpv (lb d.length _ (((ER _).length)) a.length k.any k.k k.nm k.n k.ar _ _ _) ?_;refine bF (by simp [ER]) ⟨⟨rfl,by simp [IR]⟩, ?_,rfl⟩;rw [rR,rp<|by simp [IR],fitL,rF];exact .refl _
 |x::b,a,d,f,j=>by
  have g:=f;simp [re,r6] at g;have e:a.length<(((ER<|a++x::b).length):Int):=by simp [ER];omega
  have i:=er_mid a x b;refine rpv (lb d.length _ (((ER _).length)) a.length k.any k.k k.nm k.n k.ar _ _ _) ?_;rw [w64 (x:=a.length+1) (by omega)<|by omega,i];refine bT e ⟨⟨rfl,by omega,e,rfl⟩,vM x.2 k,We x.2 k,za (λh=> ?_) λh=> ?_⟩
  .have:=fo k b (a++ [x]) (d++ [x.1]) (by simpa using f) (by simp;omega);rw [nx,ap a x b,show (d++ [x.1]).length=d.length+1 by simp,<-lh d x.1] at this;rw [fitL,ri h,show d++x.1::fitL k b=(d++ [x.1])++fitL k b by simp];exact ⟨r9 _,⟨by simp [IR],by unfold zi;omega⟩,this⟩
  .have:=fo k b (a++ [x]) d (by simpa using f) (by simp;omega);rw [nx,ap a x b] at this;rw [fitL,r8<|by rw [h];simp];exact this
def leIs0:TV.Le (.c<|qf .N) (aIs []):= .c _ _<|.a _ _<|.fz _ _<|.N 1
def mi (k):∀(b a),(a++b).length<=60->
  RPt Tryz.prog 196 0 (aIs<|fitL k b) [] 1 ⟨[(3, .c<|.a<|.ep 0 5 0 0),(5, .c<|qf .N),(8, .c<|qf<|.sl false 6<|ER<|a++b),(9,ci<|((ER<|a++b).length)),(10,ci a.length)],[(0,obK k)],1⟩
 |[],a,e=>by
  refine rpv (pT _ (((ER _).length)) a.length k.any k.k k.nm k.n k.ar _ _) ?_;exact bF (by simp [ER]) ⟨leIs0,rfl⟩
 |x::b,a,e=>by
  have f:=e;simp [re,r6] at f;have d:a.length<(((ER<|a++x::b).length):Int):=by simp [ER];omega
  have g:=er_mid a x b;refine rpv (pT _ (((ER _).length)) a.length k.any k.k k.nm k.n k.ar _ _) ?_;rw [w64 (x:=a.length+1) (by omega)<|by omega,g];refine bT d ⟨⟨rfl,by omega,d,rfl⟩,vM x.2 k,We x.2 k,za (λh=> ?_) λh=> ?_⟩
  .have:=fo k b (a++ [x]) [x.1] (by simpa using e) (by simp);rw [nx,ap a x b] at this;rw [fitL,ri h];exact ⟨r9 _,by unfold zi;omega,this⟩
  .have:=mi k b (a++ [x]) (by simpa using e);rw [nx,ap a x b] at this;rw [fitL,r8<|by rw [h];simp];exact this
def c_ifit (x)(b:x.length<=60)(k):AC Tryz.prog 196 [.c<|qf<|.sl false 6<|ER x,aK k] [] (aIs<|fitL k x) []:=by
 have h:=mi k x [] b;refine acv (v196 ..) ?_;exact ⟨rfl,h⟩
def selT (nm:List UInt8)(ar:Int)(k:Key)(E:List Ent):List Int:=match jx nm ar E with|some x=>fitL k x|none=> []
def c_itsel (E)(d:∀e∈E,e.2.2.length<=60)(nm ar k):AC Tryz.prog 166 [.c<|qf<|.pt [.mp<|tabZ E],cs nm,ci ar,aK k] [] (aIs<|selT nm ar k E) []:=by
 refine acv (v166 ..) ?_;refine zc rfl (zc rfl (zc rfl (zc rfl ?_)));unfold selT;cases h:jx nm ar E with
 |some x=>
  let ⟨j,e,_,f,b⟩:=(findT nm ar E 0).2 x h
  exact .inl ⟨_,bK h,_,c_ifit x (by rw [<-b];exact d e<|rJ f) k, .refl _,rfl⟩
 |none=>exact .inr ⟨bJ h,_,(c_ifit [] (by simp) k).args ⟨.c _ _<|.a _ _<|.fz _ _<|.N 6, .refl _,trivial⟩, .refl _,rfl⟩
def c_inewz (l)(e:l.length<=8)(d:∀c∈l,c.sz<=B):AC Tryz.prog 34 [aCs l] [] (.c<|qf<|.pt [.mp<|tabZ<|tabT l 0 []]) []:=
 (((c_inew l e d).icem 1 _ rfl).ice 0 1 [[.mp _]] rfl).renum id [] _ rfl rfl rfl (λi b=>absurd b<|tC _) (λi _ b=>absurd b<|tC _) (λi b=>absurd b<|tC _) (r9 _)
def selL (nm:List UInt8)(ar:Int)(k:Key):List Cd->Int->List Int
 |[],_=> []
 |c::l,i=>if ((c.nm==nm)&&((c.ar==ar)&&vM (yT c) k))=true then i::selL nm ar k l (i+1) else selL nm ar k l<|i+1
def Wd (nm ar k):∀(l) (i),(selL nm ar k l i).length<=l.length
 |[],_=>r9 _
 |c::l,i=>by have:=Wd nm ar k l (i+1);rw [selL];split<;>simp [r6]<;>omega
def FC0 (c):FV.S (List.getD (FC c) 0 FV.N)=c.nm:=by cases c;rw [FC];rfl
def FC1 (c):FV.I (List.getD (FC c) 1 FV.N)=c.ar:=by cases c;rw [FC];rfl
def FC2 (c):FV.I (List.getD (FC c) 2 FV.N)=c.fr:=by cases c;rw [FC];rfl
def FC3 (c):FV.I (List.getD (FC c) 3 FV.N)=c.vs:=by cases c;rw [FC];rfl
def FC4 (c):FV.I (List.getD (FC c) 4 FV.N)=c.sl:=by cases c;rw [FC];rfl
def FC5 (c):List.getD (FC c) 5 FV.N= .sl false 8 (FIs c.ins):=by cases c;rw [FC];rfl
def ir (l)(b:l.length<=60):AC Tryz.prog 195 [aIs l] [] (aIs l) []:=by
 refine acv (v195 ..) ?_;refine ⟨rfl,rfl,rfl,⟨rk _,by omega,rk _,rk _⟩,za (λh=> ?_) λ_=> ?_⟩
 .have:l=[]:=by cases l with
   |nil=>rfl
   |cons x l=>simp [IR] at h;omega
  subst this;exact ⟨.c _ _<|.a _ _<|.fz _ _<|.z0 _ _,rfl⟩
 .rw [rR,rt,rp<|r9 _];exact rrl
def el_ (c L)(n:Nat)(b:n<(((FCs L).length):Int)):FV.L 6 (.sl false 6<|FCs L)=true/\0<=(n:Int)/\n<(((FCs L).length):Int)/\([.str c.nm, .int .i64 c.ar, .int .i64 c.fr, .int .i64 c.vs, .int .i64 c.sl, .sl false 8<|FIs c.ins])=FC c:=⟨rfl,by omega,b,(yZ c).symm⟩
abbrev evS (nm:List UInt8)(ar:Int)(o:TV)(l:List Cd)(i:Int):Env:=[(1,cs nm),(2,ci ar),(7, .c<|.a<|.ep 0 5 0 0),(9,o),(12,aCs l),(13,ci<|((FCs l).length)),(14,ci i)]
def gD (nm ar k):∀(b a) (d),(a++b).length<=60->(∀c∈b,c.sz<=B)->d.length<=a.length->
  RPt Tryz.prog 164 0 (aIs<|d++selL nm ar k b a.length) [] 1 ⟨evS nm ar (.c<|.a<|.osl 1 1 0 d.length) (a++b) a.length,[(0,obK k),(1, .arz 1<|IR d)],2⟩
 |[],a,d,j,o,F=>by
  have i:¬(a.length:Int)<(((FCs<|a++ []).length):Int):=by rw [zq];simp
  have E:selL nm ar k [] a.length=[]:=rfl;rw [E,rF];have f:=j;simp [re,rv] at f;have D:=ir d (by omega);have w:List.take d.length (List.drop 0<|IR d)=IR d:=by rw [rR,rp<|by simp [IR]]
  first
   |(refine rpv (W2 nm ar d.length _ (((FCs _).length)) a.length k.any k.k k.nm k.n k.ar _ _ _) ?_
     rw [w];exact bF i ⟨⟨rfl,by simp [IR]⟩,_,D, .refl _,rfl⟩)
   |(refine rpv (W2 _ nm ar d.length a.length k.any k.k k.nm k.n k.ar _ _ _) ?_
     rw [w];exact ⟨rfl,bF i ⟨⟨rfl,by simp [IR]⟩, .refl _,rfl⟩⟩)
 |c::b,a,d,j,o,F=>by
  have f:=j;simp [re,r6] at f;have e:(a.length:Int)<(((FCs<|a++c::b).length:Nat):Int):=by rw [zq];simp;omega
  have z:=kR a c b;have C:=f8 c<|o c rn
  have y:=We (yT c) k;have G:FV.L 6 (.sl false 6<|FCs<|a++c::b)=true/\((0:Int)<=(a.length:Int)/\((a.length:Int)<(((FCs _).length:Nat):Int)/\(fCr _:List FV)=FC c)):=⟨rfl,by omega,e,qV c⟩;have A:selL nm ar k (c::b) a.length=if ((c.nm==nm)&&((c.ar==ar)&&vM (yT c) k))=true then (a.length:Int)::selL nm ar k b ((a.length:Int)+1) else selL nm ar k b ((a.length:Int)+1):=rfl
  have m:((c.nm==nm)&&((c.ar==ar)&&vM (yT c) k))=true->RPt Tryz.prog 164 0 (aIs<|d++selL nm ar k _ a.length) [] 1 ⟨evS nm ar _ _ _,[(0,obK k),(1, .arz 1<|List.take d.length _++ [[.int .i64 _]])],2⟩:=λq=>by
   have:=gD nm ar k b (a++ [c]) (d++ [(a.length:Int)]) (by simpa using j) (λu v=>o u<|rh _ v) (by simp;omega);rw [nx,ap a c b,show (d++ [(a.length:Int)]).length=d.length+1 by simp,<-lh d (a.length:Int)] at this;rw [A,ri q,show d++(a.length:Int)::selL nm ar k b ((a.length:Int)+1)=(d++ [(a.length:Int)])++selL nm ar k b ((a.length:Int)+1) by simp];exact this
  have g:((c.nm==nm)&&((c.ar==ar)&&vM (yT c) k))=false->RPt Tryz.prog 164 0 (aIs<|d++selL nm ar k _ a.length) [] 1 ⟨evS nm ar (.c _) _ _,[(0,obK k),(1, .arz 1<|IR d)],2⟩:=λq=>by
   have:=gD nm ar k b (a++ [c]) d (by simpa using j) (λu v=>o u<|rh _ v) (by simp;omega);rw [nx,ap a c b] at this;rw [A,r8<|by rw [q];simp];exact this
  first
   |(refine rpv (W2 nm ar d.length _ _ a.length k.any k.k k.nm k.n k.ar _ _ _) ?_
     rw [w64 (x:=(a.length:Int)+1) (by omega)<|by omega,z,FC0,FC1,FC2,FC3,FC4,FC5];refine bT e ⟨el_ c (a++c::b) a.length e,za (λh=>za (λr=>⟨_,_,_,_,_,C,_,y,za (λp=>⟨r9 _,⟨by simp [IR],by unfold zi;omega⟩,m ?_⟩) λp=>g ?_⟩) λr=>g ?_) λh=>g ?_⟩)
   |(refine rpv (W2 (FCs (a++c)) nm ar d.length a.length k.any k.k k.nm k.n k.ar _ _ _) ?_
     rw [w64 (x:=a.length+1) (by omega)<|by omega,z,FC0,FC1,FC2,FC3,FC4,FC5];refine ⟨rfl,bT e ⟨el_ c (a++c) a.length e,za (λh=>⟨el_ c _ a.length e,za (λr=>⟨el_ c _ a.length e,_,_,_,_,_,C,_,y,za (λp=>⟨r9 _,⟨by simp [IR],by unfold zi;omega⟩,m ?_⟩) λp=>g ?_⟩) λr=>g ?_⟩) λh=>g ?_⟩⟩)
  all_goals simp_all
def pf (nm ar k):∀(b a),(a++b).length<=60->(∀c∈b,c.sz<=B)->
  RPt Tryz.prog 164 0 (aIs<|selL nm ar k b a.length) [] 1 ⟨evS nm ar (.c<|qf .N) (a++b) a.length,[(0,obK k)],1⟩
 |[],a,j,i=>by
  have f:¬a.length<(((FCs<|a++ []).length):Int):=by rw [zq];simp
  have A:=(ir []<|by simp).args (args:=[.c _]) ⟨leIs0,trivial⟩
  first
   |(refine rpv (WP nm ar _ (((FCs _).length)) a.length k.any k.k k.nm k.n k.ar _ _) ?_
     exact bF f ⟨_,A, .refl _,rfl⟩)
   |(refine rpv _ ?_
     exact ⟨rfl,bF f ⟨leIs0,rfl⟩⟩)
 |c::b,a,j,i=>by
  have m:=j;simp [re,r6] at m;have d:a.length<(((FCs<|a++c::b).length):Int):=by rw [zq];simp;omega
  have w:=kR a c b;have z:=f8 c<|i c rn
  have v:=We (yT c) k;have y:selL nm ar k (c::b) a.length=if ((c.nm==nm)&&((c.ar==ar)&&vM _ k))=true then (a.length:Int)::selL nm ar k b (a.length+1) else selL nm ar k b (a.length+1):=rfl
  have g:((c.nm==nm)&&((c.ar==ar)&&vM _ k))=true->RPt Tryz.prog 164 0 (aIs<|selL nm ar k _ a.length) [] 1 ⟨evS nm ar _ _<|a.length+1,[(0,obK k),(1, .arz 1 [[.int .i64 a.length]])],2⟩:=λq=>by
   have:=gD nm ar k b (a++ [c]) [a.length] (by simpa using j) (λu r=>i u<|rh _ r) (by simp);rw [nx,ap a c b] at this;rw [y,ri q];exact this
  have e:((c.nm==nm)&&((c.ar==ar)&&vM _ k))=false->RPt Tryz.prog 164 0 (aIs<|selL nm ar k _ a.length) [] 1 ⟨evS nm ar _ _<|a.length+1,[(0,obK k)],1⟩:=λq=>by
   have:=pf nm ar k b (a++ [c]) (by simpa using j) λu r=>i u<|rh _ r
   rw [nx,ap a c b] at this;rw [y,r8<|by rw [q];simp];exact this
  first
   |(refine rpv (WP nm ar _ (((FCs _).length)) a.length k.any k.k k.nm k.n k.ar _ _) ?_
     rw [w64 (x:=a.length+1) (by omega)<|by omega,w,FC0,FC1,FC2,FC3,FC4,FC5];refine bT d ⟨el_ c _ a.length d,za (λh=>za (λp=>⟨_,_,_,_,_,z,_,v,za (λo=>⟨r9 _,by unfold zi;omega,g ?_⟩) λo=>e ?_⟩) λp=>e ?_) λh=>e ?_⟩)
   |(refine rpv (WP (FCs (a++c)) nm ar a.length k.any k.k k.nm k.n k.ar _ _) ?_
     rw [w64 (x:=a.length+1) (by omega)<|by omega,w,FC0,FC1,FC2,FC3,FC4,FC5];refine ⟨rfl,bT d ⟨el_ c (a++c) a.length d,za (λh=>⟨el_ c (a++c) a.length d,za (λp=>⟨el_ c (a++c) a.length d,_,_,_,_,_,z,_,v,za (λo=>⟨r9 _,by unfold zi;omega,g ?_⟩) λo=>e ?_⟩) λp=>e ?_⟩) λh=>e ?_⟩⟩)
  all_goals simp_all
def c_isel (l)(d:l.length<=60)(b:∀c∈l,c.sz<=B)(nm ar k):AC Tryz.prog 164 [aCs l,cs nm,ci ar,aK k] [] (aIs<|selL nm ar k l 0) []:=by
 have h:=pf nm ar k l [] d b;refine acv (v164 ..) ?_
 first|exact ⟨rfl,h⟩|exact h
def LeW (p q:Bool×List WV):Prop:=p.1=q.1/\All2 WV.Le p.2 q.2
def J9 {α β R}:∀ {a} {b},All2 R a b->a.length=b.length/\∀(i:Nat) (x:α) (y:β),a[i]? =some x->b[i]? =some y->R x y
 |[],[],_=>⟨rfl,λi x y f _=>by simp at f⟩
 |x::a,y::b,h=>by
  have:=J9 h.2;refine ⟨by simp [this.1],λi u v e d=> ?_⟩
  match i,e,d with
  |0,e,d=>simp at e d;subst e;subst d;exact h.1
  |i+1,e,d=>exact this.2 i u v (by simpa using e) (by simpa using d)
 |[],_::_,h=>h.elim
 |_::_,[],h=>h.elim
def iQ {a b}(h:All2 LeW a b):TV.Le (.tup a) (.tup b):=by
 have:=J9 h;refine .tup _ _ this.1 λi p q g f=> ?_;have e:=this.2 i p q g f;have d:=J9 e.2;exact ⟨e.1,d.1,d.2⟩
def lw1 {x y b}(h:WV.Le x y):LeW (b,[x]) (b,[y]):=⟨rfl,h,trivial⟩
def lwR (p):LeW p p:=by
 let ⟨b,l⟩:=p
 refine ⟨rfl, ?_⟩;show All2 WV.Le l l
 induction l with
 |nil=>trivial
 |cons x l ih=>exact ⟨.refl _,ih⟩
def dk (t:List<|List FV):List.take (Int.toNat<|t.length) t=t:=by rw [rt,rp<|r9 _]
def zE (t:Tm):=if t.k=6/\zj t=true then (hd t.l,t.l.drop 1) else (t,[])
abbrev aSp (z:Tm×List Tm):TV:= .tup [(true,cT z.1),(false,[qf<|.sl false 4<|FTs z.2])]
def Zb (t)(j:t.sz<=B):AC Tryz.prog 104 [aT t] [] (aSp<|zE t) []:=by
 have u:=kx t j;have d:=Tm.szs_length t.l;have f:=t.sz_eq
 let ⟨k,b,n,l⟩:=t
 have o:∀x,FV.Le x _->TV.Le (.tup [(true,[qi k,qf<|.str b,qi n,qf<|.sl false 4<|FTs l]),(false,[qf x])]) (aSp (.mk k b n l,[])):=
  λx v=>iQ ⟨lwR _,lw1<|.a _ _<|.fz _ _ v,trivial⟩
 refine acv (v104 k b n (FTs l) _ _) ?_;refine za (λh=> ?_) λh=>⟨_,u,za (λh'=> ?_) λh'=> ?_⟩
 .rw [zE,r8 λe=>by have i:=e.1;subst i;cases h];exact ⟨o _ xL,rfl⟩
 .rw [zE,r8 λe=>by rw [show zj (.mk k b n l)=false by simpa using h'] at e;cases e.2];exact ⟨o _ xL,rfl⟩
 .have p:k=6:=by simpa using h
  subst p;have m:zj (.mk 6 b n l)=true:=by simpa using h'
  obtain ⟨x,y,r,rfl,w,z⟩:=okB6 (wJ _ m) rfl;simp [Tm.l,r6,B] at d f j;have g:=c_clone.1 (FTs<|y::r) (by simp [FTs]) (by rw [zb];simp [r6,B];omega);have i:List.drop 1 (List.take (Int.toNat<|((FTs<|x::y::r).length))<|FTs<|x::y::r)=FTs (y::r):=by rw [dk];rfl
  rw [i,zE,ri ⟨rfl,m⟩];refine ⟨el0 x<|y::r,rfl,⟨by omega,by rw [zb];simp [r6];omega,rk _⟩, .inr ⟨_,g,⟨rfl,by omega⟩, ?_,rfl⟩⟩;rw [rR,rp<|r9 _,show cE (List.getD (FTs<|x::y::r) 0 [])=cT x from cE_FT x];exact .refl _
mutual
def unF (n:Int):Tm->Bool
 |.mk k _ m l=> !(k==1||k==4&&decide (m>=n))&&unL n l
def unL (n:Int):List Tm->Bool
 |[]=>true
 |t::l=>unF n t&&unL n l
end
def px (n):∀l,unL n l=l.all (unF n)
 |[]=>rfl
 |t::l=>by rw [unL,px n l];rfl
def unF_eq (n t):unF n t=(!(t.k==1||t.k==4&&decide (t.n>=n))&&t.l.all (unF n)):=by
 let ⟨k,s,m,l⟩:=t
 rw [unF,px];rfl
def vj (t:Tm):=t.k==0&&(t.s==[]&&(t.n==0&&t.l.isEmpty))
def plB (n:Int)(t:Tm):Bool:=zj t&&(decide (wb t 0 0<=0)&&unF n t)
def logs:List (List UInt8):=[[58,45],[44],[59],[61,62],[61],[105,115],[60],[61,60],[62],[62,61],[116,114,117,101],[102,97,105,108],[33],[112,105],[115,105,103,109,97]]
def nums:List (List UInt8):=[[105,115],[60],[61,60],[62],[62,61]]
def logB (s:List UInt8):=logs.contains s
def numB (s:List UInt8):=nums.contains s
def nmB (s:List UInt8):=(vJ s||qZ s) && !logB s
def cntB (ar fr vs sl:Int):=decide (0<=ar/\ar<=4096/\0<=fr/\fr<=4096/\0<=vs/\vs<=4096/\sl<=4096/\fr+vs<=sl)
def al (t:Tm):=(zE t).1.k==0 && !logB (zE t).1.s
def Wa (t:Tm):=(zE t).1.k==0&&(numB (zE t).1.s&&(zE t).2.length==2)
def useA (k:Int):=k==0||k==1||k==9||k==10||k==11||k==13
def useT (k:Int):=k==0||k==1||k==2||k==3||k==6
def insB (ar fv sl n at_:Int)(was:Option<|Int×Int)(k a:Int)(t:Tm):Bool:=
 if k=0\/k=1 then decide (0<=a/\a<ar)&&((k==0||t.k==0||t.k==2)&&match was with|none=>true|some w=>(w.1==0||w.1==1)&&decide (w.2<a))
 else if k=2\/k=3 then al t
 else if k=6 then Wa t
 else if k=9\/k=10 then decide (at_<a/\a<n)
 else if k=11\/k=13 then decide (fv<=a/\a<sl)
 else decide (0<=k/\k<=15)
def fldB (ar fv sl n at_:Int)(was:Option<|Int×Int)(k a:Int)(t:Tm)(l:List Tm)(c:Bool):Bool:=
 (vj t||zj t)&&(insB ar fv sl n at_ was k a t&&((useA k||a==0)&&((k==14||c)&&((if k=5 then l.length==2 else l.isEmpty)&&((if useT k=true then plB sl t else vj t)&&l.all (plB sl))))))
abbrev Pl:=Bool×Int×Int
def yY (l:List Pl)(at_:Int)(p:Int×Int):=
 if at_<l.length then (if (l.getD at_.toNat (false,0,0)).1=false then some (l.set at_.toNat (true,p)) else if l.getD at_.toNat (false,0,0)=(true,p) then some l else none) else none
def aftP (k:Int)(p:Int×Int):=if k=11 then (p.1+1,p.2) else if k=12 then (p.1-1,p.2) else if k=14 then (p.1,p.2+1) else if k=15 then (p.1,p.2-1) else p
def qo (l:List Pl)(i k a:Int):=
 if (l.getD i.toNat (false,0,0)).1=false then some l
 else if k=3\/k=4 then (if (l.getD i.toNat (false,0,0)).2=(0,0) then some l else none)
 else if k=8 then some l
 else if (aftP k (l.getD i.toNat (false,0,0)).2).1<0\/(aftP k (l.getD i.toNat (false,0,0)).2).2<0 then none
 else if k=9\/k=10 then
  match yY l a (aftP k (l.getD i.toNat (false,0,0)).2) with
  |none=>none
  |some l'=>if k=10 then some l' else yY l' (i+1)<|aftP k (l.getD i.toNat (false,0,0)).2
 else yY l (i+1)<|aftP k (l.getD i.toNat (false,0,0)).2
def y5:List Pl->Int->List In1->Bool
 |_,_,[]=>true
 |l,i,x::r=>match qo l i x.k x.a with|none=>false|some l'=>y5 l' (i+1) r
def YB (ins:List In1):=y5 ((List.replicate ins.length (false,0,0)).set 0 (true,0,0)) 0 ins
def XR (ins:List In1):=match ins.getLast? with|none=>false|some x=>x.k==3||x.k==4||x.k==8
mutual
def vC:Cd->Bool
 |.mk nm ar fr vs sl ins=>nmB nm&&(cntB ar fr vs sl&&(XR ins&&(vIs ar (fr+vs) sl ins.length 0 none ins&&YB ins)))
def vIs (ar fv sl n:Int):Int->Option (Int×Int)->List In1->Bool
 |_,_,[]=>true
 |at_,was, .mk k a t l c::r=>fldB ar fv sl n at_ was k a t l c.isEmpty&&(vCs sl c&&vIs ar fv sl n (at_+1) (some (k,a)) r)
def vCs (sl:Int):List Cd->Bool
 |[]=>true
 |c::r=>decide (c.fr<=sl)&&(vC c&&vCs sl r)
end
def gZ (sl):∀l,vCs sl l=l.all λc=>decide (c.fr<=sl)&&vC c
 |[]=>rfl
 |c::l=>by rw [vCs,gZ sl l];simp [tv]
def mz {ar g sl N}:∀(l) (e) (b),vIs ar g sl N e b l=true->∀x∈l,∀d∈x.c,d.fr<=sl/\vC d=true
 |[],_,_,_,x,hx,_,_=>by cases hx
 |.mk k a t l c::r,e,b,f,x,hx,d,hd=>by
  rw [vIs] at f;simp [rf] at f;rcases rG.1 hx with rfl|hx
  .have:=f.2.1;rw [gZ,rH] at this;have:=this d hd;simp [rf,rK] at this;exact this
  .exact mz r _ _ f.2.2 x hx d hd
def vC_in {c:Cd}(h:vC c=true):∀x∈c.ins,∀d∈x.c,vC d=true:=by
 obtain ⟨nm,ar,fr,vs,sl,ins⟩:=c;rw [vC] at h;simp only [rf] at h;exact λx b d hd=>(mz ins _ _ h.2.2.2.1 x b d hd).2
mutual
def nIns:Cd->Int
 |.mk _ _ _ _ _ ins=>(ins.length:Int)+nIs ins
def nIs:List In1->Int
 |[]=>0
 |.mk _ _ _ _ c::r=>nCs c+nIs r
def nCs:List Cd->Int
 |[]=>0
 |c::r=>nIns c+nCs r
end
mutual
def mSl:Cd->Int->Int
 |.mk _ _ _ _ sl ins,n=>mSlI ins<|max n sl
def mSlI:List In1->Int->Int
 |[],n=>n
 |.mk _ _ _ _ c::r,n=>mSlI r<|mSlC c n
def mSlC:List Cd->Int->Int
 |[],n=>n
 |c::r,n=>mSlC r<|mSl c n
end
def X9 (s):AC Tryz.prog 52 [cs s] [] (cb<|logB s) []:=by
 refine acv (v52 ..) ?_
 repeat' (refine za (λ_=> ?_) λ_=> ?_)
 all_goals exact zg (by simp_all [logB,logs])
def ixJ (p:Int->Bool):List Int->Nat->Int
 |[],_=> -1
 |t::l,i=>if p t=true then (i:Int) else ixJ p l<|i+1
def ou (p):∀(l) (i),decide (ixJ p l i>=0)=l.any p
 |[],_=>rfl
 |t::l,i=>by
  rw [ixJ,sK];split
  .rename_i h;rw [h];simp
  .rename_i h;rw [ou p l,show p t=false by simpa using h,sF]
def cntN (n:Int):=decide (n<0)||decide (n>4096)
def oz (n):AC Tryz.prog 92 [ci n] [] (cb<|cntN n) []:=by
 refine acv (v92 ..) ?_;exact za (λh=>zg<|by rw [cntN,h];rfl) (λh=>zg<|by rw [cntN,h];rfl)
def iv (b):∀a,(a++b).length<=B->RPt Tryz.prog 133 0 (ci<|ixJ cntN b a.length) [] 1 ⟨[(0, .c<|qf<|.sl false 1<|IR<|a++b),(1, .c<|.fn (.func 92) [] []),(7,ci (a++b).length),(8,ci a.length)],[],0⟩:=by
 induction b with
 |nil=>
  intro a d;refine rpv (Zs ..) ?_;exact bF (by simp)<|xG rfl
 |cons t b e=>
  intro a d;have f:=e (a++ [t]) (by simpa using d);rw [ap,nx,show (a++ [t]).length=a.length+1 by simp] at f;rw [ixJ];simp [re,r6,B] at d;have g:a.length<((a++t::b).length:Int):=by simp [re,r6];omega
  have i:List.getD (IR<|a++t::b) (Int.toNat a.length) []=[.int .i64 t]:=by simp [IR]
  refine rpv (Zs ..) ?_;rw [w64 (by omega)<|by omega,i];refine bT g ⟨⟨rfl,by omega,by simp only [IR,sc];exact g,rfl⟩,_,oz t,za (λh=> ?_) λh=> ?_⟩
  .rw [ri h];exact xG rfl
  .rw [r8<|by rw [h];simp];exact f
def c_ccount (l)(d:l.length<=B):AC Tryz.prog 53 [.c<|qf<|.sl false 1<|IR l] [] (cb (!l.any cntN)) []:=by
 have h:=iv l [] d
 have e:AC Tryz.prog 133 [.c<|qf<|.sl false 1<|IR l, .c<|.fn (.func 92) [] []] [] (ci<|ixJ cntN l 0) []:=by
  refine acv (v133_F92 ..) ?_;rw [show (IR l).length=l.length by simp [IR]];exact ⟨rfl,h⟩
 have b:AC Tryz.prog 91 [.c<|qf<|.sl false 1<|IR l, .c<|.fn (.func 92) [] []] [] (cb<|l.any cntN) []:=by
  refine acv (v91_F92 ..) ?_;exact ⟨_,e,zg<|ou cntN l 0⟩
 refine acv (v53 ..) ?_;exact ⟨_,b,zg rfl⟩
def ixF (p:Tm->Bool):List Tm->Nat->Int
 |[],_=> -1
 |t::l,i=>if p t=true then (i:Int) else ixF p l<|i+1
def fG (p):∀(l) (i),decide (ixF p l i>=0)=l.any p
 |[],_=>rfl
 |t::l,i=>by
  rw [ixF,sK];split
  .rename_i h;rw [h];simp
  .rename_i h;rw [fG p l,show p t=false by simpa using h,sF]
abbrev obN (n:Int):AObj:= .arr 1 [[qi n]]
abbrev obC (c:Cd):AObj:= .arr 6 [cCd c]
def gH (p n b):∀a,(a++b).length<=B->(∀u∈b,AC Tryz.prog 137 [aT u, .c<|.a<|.ep 0 1 0 0] [obN n] (cb<|p u) [obN n])->RPt Tryz.prog 139 1 (ci<|ixF p b a.length) [obN n] 1 ⟨[(0,aL<|a++b),(1, .c<|.fn (.func 137) [] [(false,[.ep 0 1 0 0])]),(7,ci (a++b).length),(8,ci a.length)],[(0,obN n)],1⟩:=by
 induction b with
 |nil=>
  intro a d _;refine rpv (qS ..) ?_;exact bF (by simp) rrl
 |cons t b e=>
  intro a d ih;have g:=ltI' a t b;have i:=ih t rn;have f:=e (a++ [t]) (by simpa using d) λu j=>ih u<|rh _ j
  rw [ap,nx,show (a++ [t]).length=a.length+1 by simp] at f;rw [ixF];simp [re,r6,B] at d;have m:a.length<((a++t::b).length:Int):=by simp [re,r6];omega
  refine rpv (qS ..) ?_;rw [w64 (by omega)<|by omega];refine bT m ⟨⟨rfl,by omega,g,u9 ..⟩,p t,by rw [kf];exact i,za (λh=> ?_) λh=> ?_⟩
  .rw [ri h];exact rrl
  .rw [r8<|by rw [h];simp];exact f
def Kh (p n l)(b:l.length<=B)(h:∀u∈l,AC Tryz.prog 137 [aT u, .c<|.a<|.ep 0 1 0 0] [obN n] (cb<|p u) [obN n]):AC Tryz.prog 98 [aL l, .c<|.fn (.func 137) [] [(false,[.ep 0 1 0 0])]] [obN n] (cb<|l.any p) [obN n]:=by
 have e:=gH p n l [] b h
 have d:AC Tryz.prog 139 [aL l, .c<|.fn (.func 137) [] [(false,[.ep 0 1 0 0])]] [obN n] (ci<|ixF p l 0) [obN n]:=by
  refine acv (nV ..) ?_;rw [zb];exact ⟨rfl,e⟩
 refine acv (v98_F137 ..) ?_;exact ⟨_,d,by rw [fG p l 0];exact rrl⟩
def l_ixcodd (p c b):∀a,(a++b).length<=B->(∀u∈b,AC Tryz.prog 93 [aT u, .c<|.a<|.ep 0 6 0 0] [obC c] (cb<|p u) [obC c])->RPt Tryz.prog 139 1 (ci<|ixF p b a.length) [obC c] 1 ⟨[(0,aL<|a++b),(1, .c<|.fn (.func 93) [] [(false,[.ep 0 6 0 0])]),(7,ci (a++b).length),(8,ci a.length)],[(0,obC c)],1⟩:=by
 induction b with
 |nil=>
  intro a d _;refine rpv (Yh ..) ?_;exact bF (by simp) rrl
 |cons t b e=>
  intro a d ih;have g:=ltI' a t b;have i:=ih t rn;have f:=e (a++ [t]) (by simpa using d) λu j=>ih u<|rh _ j
  rw [ap,nx,show (a++ [t]).length=a.length+1 by simp] at f;rw [ixF];simp [re,r6,B] at d;have m:a.length<((a++t::b).length:Int):=by simp [re,r6];omega
  refine rpv (Yh ..) ?_;rw [w64 (by omega)<|by omega];refine bT m ⟨⟨rfl,by omega,g,u9 ..⟩,p t,by rw [kf];exact i,za (λh=> ?_) λh=> ?_⟩
  .rw [ri h];exact rrl
  .rw [r8<|by rw [h];simp];exact f
def iB (p c l)(b:l.length<=B)(h:∀u∈l,AC Tryz.prog 93 [aT u, .c<|.a<|.ep 0 6 0 0] [obC c] (cb<|p u) [obC c]):AC Tryz.prog 98 [aL l, .c<|.fn (.func 93) [] [(false,[.ep 0 6 0 0])]] [obC c] (cb<|l.any p) [obC c]:=by
 have e:=l_ixcodd p c l [] b h
 have d:AC Tryz.prog 139 [aL l, .c<|.fn (.func 93) [] [(false,[.ep 0 6 0 0])]] [obC c] (ci<|ixF p l 0) [obC c]:=by
  refine acv (v139_F93 ..) ?_;rw [zb];exact ⟨rfl,e⟩
 refine acv (v98_F93 ..) ?_;exact ⟨_,d,by rw [fG p l 0];exact rrl⟩
def lz (f)(l:List Tm):(!l.any λt=> !f t)=l.all f:=by induction l with|nil=>rfl|cons t l ih=>rw [sK,sj,<-ih];cases f t<;>simp
def c_cunder (n):∀t,t.sz<=B->AC Tryz.prog 96 [aT t,ci n] [] (cb<|unF n t) []:=by
 refine Tm.ind λt ih j=> ?_;have i:=Tm.szs_length t.l;have m:=t.sz_eq
 have g:∀u∈t.l,AC Tryz.prog 137 [aT u, .c _] [obN n] _ [obN n]:=λu d=>by
  have f:=ih u d (by have:=Tm.szs_mem d;omega);refine acv (v137 ..) ?_;exact ⟨_,f, .refl _,rfl⟩
 have b:=Kh (λu=> !unF n u) n t.l (by omega) g;refine acv (v96 ..) ?_;have e:=lz (unF n) t.l;rw [unF_eq,<-e];refine za (λh=>zg<|by rw [h];rfl) (λh=>za (λh'=>za (λq=>zg<|by rw [h,h',q];rfl) λq=>⟨_,b,zg<|by rw [h,h',q];rfl⟩) λh'=>⟨_,b,zg<|by rw [h,h'];rfl⟩)
def oD (t):Jd t (.mk 0 [] 0 [])=vj t:=by
 let ⟨k,s,n,l⟩:=t
 cases l with
 |nil=>simp [Jd,YS,vj,Tm.k,Tm.s,Tm.n,Tm.l]
 |cons x l=>simp [Jd,YS,vj,Tm.k,Tm.s,Tm.n,Tm.l]
def c_cempty (t)(e:t.sz<=B):AC Tryz.prog 97 [aT t] [] (cb<|vj t) []:=by
 have h:=(c_same t e<|.mk 0 [] 0 []).args (args:=[aT t, .agg [qi 0,qf<|.str [],qi 0,qf .N]]) ⟨.refl _, .agg _ _ rfl (λi x y b d=>by
  match i with
  |0=>simp at b d;subst b;subst d;exact .refl _
  |1=>simp at b d;subst b;subst d;exact .refl _
  |2=>simp at b d;subst b;subst d;exact .refl _
  |3=>simp at b d;subst b;subst d;exact .a _ _ (.fz _ _ xL)
  |i+4=>simp at b),trivial⟩
 refine acv (v97 ..) ?_;exact ⟨_,h,zg<|oD t⟩
def c_codd (c t)(b:t.sz<=B)(g:bd 2305843009213693952 t):AC Tryz.prog 93 [aT t, .c<|.a<|.ep 0 6 0 0] [obC c] (cb (!plB c.sl t)) [obC c]:=by
 have f:=kx t b;have e:=c_loose t b g;have d:=c_cunder c.sl t b;refine acv (v93 ..) ?_;refine ⟨_,f,za (λh=>⟨?_,rfl⟩) λh=>⟨_,e,za (λq=>⟨?_,rfl⟩) λq=>⟨_,d, ?_,rfl⟩⟩⟩
 .rw [plB,show zj t=false by simpa using h];exact .refl _
 .have:decide (wb t 0 0<=0)=false:=by have:=ro q;exact sn (by omega)
  rw [plB,this,rQ,s7];exact .refl _
 .have:decide (wb t 0 0<=0)=true:=by have:=rg q;exact sH (by omega)
  rw [plB,this,show zj t=true by simpa using h];exact .refl _
def c_anyOdd (c l)(e:l.length<=B)(b:∀t∈l,t.sz<=B/\bd 2305843009213693952 t):AC Tryz.prog 98 [aL l, .c<|.fn (.func 93) [] [(false,[.ep 0 6 0 0])]] [obC c] (cb (!l.all (plB c.sl))) [obC c]:=by
 have h:=iB (λt=> !plB c.sl t) c l e λu d=>c_codd c u (b u d).1 (b u d).2;rw [<-lz,Bool.not_not];exact h
def c_chead (k):AC Tryz.prog 140 [ci k] [] (cb<|k==0||k==1) []:=by
 refine acv (v140 ..) ?_;exact za (λh=>zg<|by rw [h];rfl) (λh=>zg<|by rw [h];rfl)
def c_cpred (t)(d:t.sz<=B):AC Tryz.prog 141 [aT t] [] (cb<|al t) []:=by
 have e:=Zb t d;have b:=X9 (zE t).1.s;refine acv (v141 ..) ?_;exact ⟨_,e,za (λh=>⟨_,b,zg<|by rw [al,h];rfl⟩) λh=>zg<|by rw [al,h];rfl⟩
def lU (t)(d:t.sz<=B):AC Tryz.prog 142 [aT t] [] (cb<|Wa t) []:=by
 have f:=Zb t d;refine acv (v142 ..) ?_;refine ⟨_,f, ?_⟩;rw [zb];have e:((((zE t).2.length):Int)==2)=((zE t).2.length==2):=by rw [sZ,rT,rT];omega
 rw [e];unfold Wa numB nums;generalize (zE t).1.s=s;generalize (zE t).1.k=k;generalize ((zE t).2.length==2)=b
 repeat' (first|refine za (λ_=> ?_) (λ_=> ?_)|refine And.intro (show FV.L 4 _=true by rfl) ?_)
 all_goals exact zg (by simp_all)
def aftR (k:Int)(p:Int×Int):(Int×Int)×Bool×Bool:=
 if k=3\/k=4 then (p,false,p.1==0&&p.2==0) else if k=8 then (p,false,true) else (aftP k p,true,decide ((aftP k p).1>=0)&&decide ((aftP k p).2>=0))
def vS {a b}(h:a=b):TV.Le a b:=by rw [h];exact .refl _
def c_cafter (m p k)(d:0-M61<=p.1/\p.1<=M61)(b:0-M61<=p.2/\p.2<=M61):AC Tryz.prog 101 [.agg [qf<|.bool m,qi p.1,qi p.2],ci k] []
  (.tup [(true,[qf<|.bool m,qf<|.int .i64 (aftR k p).1.1,qf<|.int .i64 (aftR k p).1.2]),(false,[qf<|.bool (aftR k p).2.1]),(false,[qf<|.bool (aftR k p).2.2])]) []:=by
 let ⟨x,y⟩:=p
 simp [M61] at d b;refine acv (v101 ..) ?_;rw [w64 (x:=x+1) (by omega)<|by omega,w64 (x:=x-1) (by omega)<|by omega,w64 (x:=y+1) (by omega)<|by omega,w64 (x:=y-1) (by omega)<|by omega];unfold aftR aftP
 repeat' (refine za (λ_=> ?_) λ_=> ?_)
 all_goals refine Wz<|vS ?_
 all_goals simp_all
 all_goals omega
def pR (p:Pl):List FV:=[.bool p.1, .int .i64 p.2.1, .int .i64 p.2.2]
def PRw (l:List Pl):=l.map pR
def yB (l):(PRw l).length=l.length:=by simp [PRw]
def Jn {l i}(h:i<l.length):List.getD (PRw l) i []=pR (l.getD i (false,0,0)):=by
 simp [PRw,List.getD,rj h]
def cj (l i p):List.set (PRw l) i (pR p)=PRw (l.set i p):=by
 simp [PRw,tO]
abbrev obL (n:Nat):AObj:= .arr 1 [[.a<|.osl 1 3 0 n]]
def nQ (l)(i:Nat)(p):AC Tryz.prog 100 [ci i, .agg [qf<|.bool true,qi p.1,qi p.2], .c<|.a<|.ep 0 1 0 0] [obL l.length, .arz 3<|PRw l]
  (cb (yY l i p).isSome) [obL l.length, .arz 3<|PRw<|(yY l i p).getD l]:=by
 refine acv (v100 ..) ?_;rw [rt,rD];refine za (λh=> ?_) λh=> ?_
 .have h:=ro h;rw [yY,r8<|by omega];exact rrl
 .have h:=rg h;have d:i<l.length:=by omega
  have j:0<=(i:Int)/\i<(l.length:Int):=⟨by omega,by omega⟩;have e:=Jn d;rw [yY,ri<|by omega,rt];have u:List.set _ i [.bool true, .int .i64 p.1, .int .i64 p.2]=PRw _:=cj l i (true,p);have g:i<(l.set i (true,p)).length:=by simpa using d
  have o:=Jn g;rw [u,e,o];have r:(l.set i (true,p)).getD i (false,0,0)=(true,p):=by simp [List.getD,d]
  rw [r];generalize l.getD i (false,0,0)=q
  let ⟨m,x,y⟩:=q
  refine ⟨j,⟨by rw [yB];exact d,rfl,rfl⟩,za (λb=> ?_) λb=> ?_⟩
  .have b:m=false:=by simpa [pR,FV.asB] using b
   subst b;refine ⟨j,⟨by rw [yB];exact d,rfl⟩,j,⟨by rw [yB];exact g,rfl,rfl⟩,vS ?_,rfl⟩;simp [pR,FV.asB,FV.I]
  .have b:m=true:=by simpa [pR,FV.asB] using b
   subst b;refine ⟨j,⟨by rw [yB];exact d,rfl,rfl⟩, ?_⟩;by_cases f:((true,x,y))=(true,p)
   .rw [r8<|by simp,ri f];obtain ⟨_,rfl⟩:=Prod.mk.inj f;exact ⟨vS<|by simp [pR,FV.asB,FV.I],rfl⟩
   .rw [r8<|by simp,r8 f];refine ⟨vS ?_,rfl⟩
    let ⟨w,v⟩:=p
    simp [pR,FV.asB,FV.I] at f ⊢;exact f
def Zw {l l' i p}(h:yY l i p=some l'):l'.length=l.length/\∀q∈l',q∈l\/q=(true,p):=by
 unfold yY at h;split at h
 .split at h
  .injection h with h
   subst h;exact ⟨by simp,λq b=>by rcases sM b with h|h;exact .inl h;exact .inr h⟩
  .split at h
   .injection h with h
    subst h;exact ⟨rfl,λq b=> .inl b⟩
   .cases h
 .cases h
def cN {l i k a}(h:(l.getD i.toNat (false,0,0)).1=false):qo l i k a=some l:=by rw [qo,ri h]
def Jj {l i k a}(h:(l.getD i.toNat (false,0,0)).1=true):qo l i k a=
  if (aftR k (l.getD i.toNat (false,0,0)).2).2.2=false then none else if (aftR k (l.getD i.toNat (false,0,0)).2).2.1=false then some l
  else if k=9\/k=10 then (match yY l a (aftR k (l.getD i.toNat (false,0,0)).2).1 with
   |none=>none
   |some l'=>if k=10 then some l' else yY l' (i+1) (aftR k (l.getD i.toNat (false,0,0)).2).1)
  else yY l (i+1) (aftR k (l.getD i.toNat (false,0,0)).2).1:=by
 rw [qo,r8<|by rw [h];simp];generalize (l.getD i.toNat _).2=p
 let ⟨x,y⟩:=p
 unfold aftR;by_cases f:k=3\/k=4
 .rw [ri f,ri f];by_cases d:((x,y))=(0,0)
  .rw [ri d];injection d with a b;subst a;subst b;rfl
  .rw [r8 d]
   have:(x==0&&y==0)=false:=by
    rw [Bool.and_eq_false_iff];by_cases g:x=0
    .right;subst g;simpa using d
    .left;simpa using g
   rw [ri this]
 rw [r8 f,r8 f];by_cases d:k=8
 .rw [ri d,ri d];rfl
 rw [r8 d,r8 d];by_cases j:(aftP k (x,y)).1<0\/(aftP k (x,y)).2<0
 .have e:(decide ((aftP k (x,y)).1>=0)&&decide ((aftP k (x,y)).2>=0))=false:=by
   simp [Bool.and_eq_false_iff,decide_eq_false_iff_not];omega
  rw [ri j];dsimp only;rw [e,ri rfl]
 .have e:(decide ((aftP k (x,y)).1>=0)&&decide ((aftP k (x,y)).2>=0))=true:=by
   simp [rf,rK];omega
  rw [r8 j];dsimp only;rw [e];simp [Bool.true_eq_false,rI]
  try rfl
def aft_bd {k p n}(f:0<=p.1/\p.1<=n)(h:0<=p.2/\p.2<=n)(g:0<=n)(b:(aftR k p).2.2=true):(0<=(aftR k p).1.1/\(aftR k p).1.1<=n+1)/\0<=(aftR k p).1.2/\(aftR k p).1.2<=n+1:=by
 unfold aftR at b ⊢;split
 .simp;omega
 split
 .simp;omega
 rename_i e d;rw [r8 e,r8 d] at b;simp [rf,rK] at b ⊢;unfold aftP at b ⊢;split<;>(try split)<;>(try split)<;>(try split)<;>simp_all<;>omega
abbrev fnM:TV:= .c<|.fn (.func 100) [] [(false,[.ep 0 1 0 0])]
def lW (ins)(hB:ins.length<=B):∀(b a:List In1) (l:List Pl),ins=a++b->l.length=ins.length->(∀x∈b,x.k=9\/x.k=10->0<=x.a/\x.a<=B)->
  (∀q∈l,(0<=q.2.1/\q.2.1<=a.length)/\0<=q.2.2/\q.2.2<=a.length)->
  RPt Tryz.prog 55 0 (cb<|y5 l a.length b) [] 1 ⟨[(3, .c<|.a<|.ep 0 1 0 0),(4,fnM),(22, .c<|qf<|.sl false 8<|FIs ins),(23,ci ins.length),(24,ci a.length)],[(0,obL l.length),(1, .arz 3<|PRw l)],2⟩
 |[],a,l,K,U,_,_=>by
  refine rpv (v55_1a ..) ?_;refine za (λh=>absurd (ro h) ?_) λ_=>zg rfl;rw [K];simp
 |x::b,a,l,K,U,X,Y=>by
  have u:a.length<l.length:=by rw [U,K];simp
  have L:(a.length:Int)<(ins.length:Int):=by omega
  simp [B] at hB
  have next:∀l':List Pl,l'.length=l.length->(∀q∈l',(0<=q.2.1/\q.2.1<=(a.length:Int)+1)/\0<=q.2.2/\q.2.2<=(a.length:Int)+1)->qo l a.length x.k x.a=some l'->
    RPt Tryz.prog 55 0 (cb<|y5 l a.length<|x::b) [] 1 ⟨[(3, .c<|.a<|.ep 0 1 0 0),(4,fnM),(22, .c<|qf<|.sl false 8<|FIs ins),(23,ci ins.length),(24,ci<|(a.length:Int)+1)],[(0,obL l.length),(1, .arz 3<|PRw l')],2⟩:=λl' A w J=>by
   have:=lW ins (by simp [B];omega) b (a++ [x]) l' (by rw [K];simp) (by rw [A,U]) (λy hy=>X y<|rh _ hy) (λq f=>by
    have:=w q f;simp [re,rY];omega)
   rw [nx,A] at this;rw [y5,J];exact this
  have em:List.getD (FIs ins) (Int.toNat a.length) []=FI x:=by rw [K];exact ul a x b
  have V:=Jn u;refine rpv (v55_1a ..) ?_;unfold dW WW;rw [w64 (x:=a.length+1) (by omega)<|by omega,em,FI0,FI1,rt,rD,V];have G:l.getD a.length (false,0,0)∈l:=by simp [List.getD,rj u]
  have E:=Y _ G;have D:=cN (l:=l) (i:=a.length) (k:=x.k) (a:=x.a);have r:=Jj (l:=l) (i:=(a.length:Int)) (k:=x.k) (a:=x.a);rw [rt] at D r;generalize l.getD a.length (false,0,0)=q at*
  let ⟨m,p⟩:=q
  simp at E D r;have hn:(0:Int)<=(a.length:Int)/\(a.length:Int)<(l.length):=⟨by omega,by omega⟩;have e:∀q∈l,(0<=q.2.1/\q.2.1<=a.length+1)/\0<=q.2.2/\q.2.2<=(a.length:Int)+1:=λq f=>by have:=Y q f;omega
  refine bT L ⟨⟨rfl,by omega,by rw [zo];exact L,by rw [<-FI0 x,<-FI1 x];exact nD x⟩,hn,⟨by rw [yB];exact u,rfl,rfl⟩,za (λA=> ?_) λA=> ?_⟩
  .exact next l rfl e (D<|by simpa [pR,FV.asB] using A)
  have A:m=true:=by simpa [pR,FV.asB] using A
  subst A;have g:=r rfl;have hc:=c_cafter true p x.k (by simp [M61];omega) (by simp [M61];omega);refine ⟨hn,⟨by rw [yB];exact u,rfl,rfl⟩,true,(aftR x.k p).1.1,(aftR x.k p).1.2,(aftR x.k p).2.1,(aftR x.k p).2.2,hc, ?_⟩;have d:qo l a.length x.k x.a=none->TV.Le (cb false) (cb<|y5 l a.length<|x::b)/\([]:List AObj)=[]:=λh=>zg (by rw [y5,h]);refine za (λw=> ?_) λw=> ?_
  .exact d (by rw [g,ri<|by simpa using w])
  have w:(aftR x.k p).2.2=true:=by simpa using w
  rw [r8<|by rw [w];simp] at g;have S:=aft_bd E.1 E.2 (by omega) w
  have I:∀(l1 l2:List Pl) i,(∀q∈l1,(0<=q.2.1/\q.2.1<=a.length+1)/\0<=q.2.2/\q.2.2<=a.length+1)->yY l1 i (aftR x.k p).1=some l2->l2.length=l1.length/\∀q∈l2,(0<=q.2.1/\q.2.1<=(a.length:Int)+1)/\0<=q.2.2/\q.2.2<=(a.length:Int)+1:=λl1 l2 i J N=>by
   have:=Zw N;refine ⟨this.1,λq f=> ?_⟩;rcases this.2 q f with h|h
   .exact J q h
   .rw [h];exact S
  have hN:∀(l1:List Pl),(((a.length:Nat):Int)+1)=((a.length+1:Nat):Int):=λ_=>by omega
  have M:∀l1:List Pl,l1.length=l.length->(∀q∈l1,(0<=q.2.1/\q.2.1<=a.length+1)/\0<=q.2.2/\q.2.2<=a.length+1)->qo l a.length x.k x.a=yY l1 (a.length+1) (aftR x.k p).1->
    ∃z:Bool×List (List FV),AC Tryz.prog 100 [ci<|a.length+1, .agg [qf<|.bool true,qf<|.int .i64 (aftR x.k p).1.1,qf<|.int .i64 (aftR x.k p).1.2], .c<|.a<|.ep 0 1 0 0] [obL l.length, .arz 3<|PRw l1] (cb z.1) [obL l.length, .arz 3 z.2]/\
     br (!z.1) (TV.Le (cb false) (cb<|y5 l a.length<|x::b)/\([]:List AObj)=[])
      (RPt Tryz.prog 55 0 (cb<|y5 l a.length<|x::b) [] 1 ⟨[(3, .c<|.a<|.ep 0 1 0 0),(4,fnM),(22, .c<|qf<|.sl false 8<|FIs ins),(23,ci ins.length),(24,ci<|(a.length:Int)+1)],[(0,obL l.length),(1, .arz 3 z.2)],2⟩):=λl1 Z J N=>by
   have o:=nQ l1 (a.length+1) (aftR x.k p).1;rw [Z,<-hN l1] at o;refine ⟨(_,_),o,za (λh=>d ?_) λh=> ?_⟩
   .rw [N];cases f:yY l1 ((a.length:Int)+1) (aftR x.k p).1 with
    |none=>rfl
    |some l2=>rw [f] at h;cases h
   .cases f:yY l1 ((a.length:Int)+1) (aftR x.k p).1 with
    |none=>rw [f] at h;cases h
    |some l2=>
     have C:=I l1 l2 _ J f;exact next l2 (by rw [C.1,Z]) C.2 (by rw [N,f])
  cases ho:(aftR x.k p).2.1 with
  |false=>
   rw [ri ho] at g;have:=next l rfl e g;refine za (λ_=> ?_) λ_=> ?_
   .exact this
   .exact this
  |true=>
   rw [r8<|by rw [ho];simp] at g;by_cases F:x.k=9\/x.k=10
   .rw [ri F] at g;have hxa:=X x rn F;obtain ⟨j,hj⟩:∃j:Nat,x.a=j:=⟨x.a.toNat,by omega⟩;have o:=nQ l j (aftR x.k p).1;rw [<-hj] at o
    have key:∃z:Bool×List (List FV),AC Tryz.prog 100 [ci x.a, .agg [qf<|.bool true,qf<|.int .i64 (aftR x.k p).1.1,qf<|.int .i64 (aftR x.k p).1.2], .c<|.a<|.ep 0 1 0 0] [obL l.length, .arz 3<|PRw l] (cb z.1) [obL l.length, .arz 3 z.2]/\
     br (!z.1) (TV.Le (cb false) (cb<|y5 l a.length<|x::b)/\([]:List AObj)=[])
      (br (x.k !=10) (∃O:Bool×List (List FV),AC Tryz.prog 100 [ci<|(a.length:Int)+1, .agg [qf<|.bool true,qf<|.int .i64 (aftR x.k p).1.1,qf<|.int .i64 (aftR x.k p).1.2], .c<|.a<|.ep 0 1 0 0] [obL l.length, .arz 3 z.2] (cb O.1) [obL l.length, .arz 3 O.2]/\
       br (!O.1) (TV.Le (cb false) (cb<|y5 l a.length<|x::b)/\([]:List AObj)=[])
        (RPt Tryz.prog 55 0 (cb<|y5 l a.length<|x::b) [] 1 ⟨[(3, .c<|.a<|.ep 0 1 0 0),(4,fnM),(22, .c<|qf<|.sl false 8<|FIs ins),(23,ci ins.length),(24,ci<|(a.length:Int)+1)],[(0,obL l.length),(1, .arz 3 O.2)],2⟩))
       (RPt Tryz.prog 55 0 (cb<|y5 l a.length<|x::b) [] 1 ⟨[(3, .c<|.a<|.ep 0 1 0 0),(4,fnM),(22, .c<|qf<|.sl false 8<|FIs ins),(23,ci ins.length),(24,ci<|(a.length:Int)+1)],[(0,obL l.length),(1, .arz 3 z.2)],2⟩)):=by
     refine ⟨(_,_),o,za (λh=>d ?_) λh=> ?_⟩
     .cases f:yY l x.a (aftR x.k p).1 with
      |none=>rw [f] at g;exact g
      |some l2=>rw [f] at h;cases h
     .cases f:yY l x.a (aftR x.k p).1 with
      |none=>rw [f] at h;cases h
      |some l2=>
       rw [f] at g;simp at g;have C:=I l l2 _ e f;refine za (λW=> ?_) λW=> ?_
       .rw [r8<|by simpa using W] at g;exact M l2 C.1 C.2 g
       .rw [ri<|by simpa using W] at g;exact next l2 C.1 C.2 g
    refine za (λH=> ?_) λH=> ?_
    .exact key
    .have v:(x.k==10)=true:=by
      rcases F with h|h
      .rw [h] at H;cases H
      .rw [h];rfl
     rw [v];exact key
   .rw [r8 F] at g;have H:(x.k==9)=false:=by simp [beq_eq_false_iff_ne];exact λh=>F<|.inl h
    have v:(x.k==10)=false:=by simp [beq_eq_false_iff_ne];exact λh=>F<|.inr h
    have T:(x.k !=10)=true:=by rw [bne,v];rfl
    rw [H,v,T];exact M l rfl e g
def c_cways (c:Cd)(d:c.ins.length<=B)(b:0<c.ins.length)(f:∀x∈c.ins,x.k=9\/x.k=10->0<=x.a/\x.a<=B):AC Tryz.prog 55 [aC c] [] (cb<|YB c.ins) []:=by
 have h:=lW c.ins d c.ins [] ((List.replicate c.ins.length (false,0,0)).set 0 (true,0,0)) rfl (by simp) f (λq g=>by
  rcases sM g with h|h
  .rw [(List.mem_replicate.1 h).2];simp
  .rw [h];simp)
 have e:PRw ((List.replicate c.ins.length (false,0,0)).set 0 (true,0,0))=List.set (List.replicate (Int.toNat<|((FIs c.ins).length)) [.bool false, .int .i64 0, .int .i64 0]) 0 (wv (List.getD (List.replicate (Int.toNat<|((FIs c.ins).length)) [.bool false, .int .i64 0, .int .i64 0]) 0 []) 0 [.bool true]):=by
  rw [<-cj,rt,zo];have:List.getD (List.replicate c.ins.length [FV.bool false, .int .i64 0, .int .i64 0]) 0 []=[.bool false, .int .i64 0, .int .i64 0]:=by simp [List.getD,b]
  rw [this];simp [PRw,pR,wv]
 rw [e] at h;simp [B] at d;have j:((FIs c.ins).length)=(c.ins.length:Int):=by rw [zo]
 refine acv (v55 ..) ?_;refine ⟨rfl,⟨rfl,by omega,rfl,by omega,by omega, ?_⟩,⟨by omega, ?_⟩,⟨?_, ?_⟩,rfl, ?_⟩
 .unfold zi;rw [rt,zo];omega
 .rw [rt,zo];omega
 .rw [List.length_replicate,rt,zo];exact b
 .rw [rt,zo];simp [List.getD,b]
 .have i:((List.replicate c.ins.length ((false,0,0):Pl)).set 0 (true,0,0)).length=Int.toNat (((FIs c.ins).length)):=by simp [zo]
  rw [i,<-j] at h;exact h
def FI2 (x):FV.I (List.getD (FI x) 2 FV.N)=x.t.k:=by cases x;rw [FI];rfl
def FI4 (x):FV.I (List.getD (FI x) 4 FV.N)=x.t.n:=by cases x;rw [FI];rfl
def FI5 (x):List.getD (FI x) 5 FV.N= .sl false 4 (FTs x.t.l):=by cases x;rw [FI];rfl
def el8 (ins i)(d:0<=i)(b:i<ins.length)(x):FV.L 8 (.sl false 8<|FIs ins)=true/\0<=i/\i<(((FIs ins).length):Int)/\
  ([.int .i64 x.k, .int .i64 x.a, .int .i64 x.t.k, .str x.t.s, .int .i64 x.t.n, .sl false 4<|FTs x.t.l, .sl false 4<|FTs x.l, .sl false 6<|FCs x.c])=FI x:=
 ⟨rfl,d,by rw [zo];exact b,(xz x).symm⟩
def oddC (sl:Int)(d:Cd):=decide (d.fr>sl) || !vC d
def vCs_any (sl l):(!l.any (oddC sl))=vCs sl l:=by
 rw [gZ]
 induction l with
 |nil=>rfl
 |cons d l ih=>
  rw [sK,sj,<-ih,Bool.not_or];congr 1;unfold oddC;by_cases h:d.fr<=sl
  .rw [sn<|by omega,sH h];simp
  .rw [sH<|by omega,sn h];rfl
def c_cins1 (c d)(h:AC Tryz.prog 25 [aC d] [] (cb<|vC d) []):AC Tryz.prog 143 [aC d, .c<|.a<|.ep 0 6 0 0] [obC c] (cb<|oddC c.sl d) [obC c]:=by
 refine acv (v143 ..) ?_;exact za (λq=>⟨vS<|by rw [oddC,q];rfl,rfl⟩) (λq=>⟨_,h,vS<|by rw [oddC,q];rfl,rfl⟩)
def ixC (p:Cd->Bool):List Cd->Nat->Int
 |[],_=> -1
 |t::l,i=>if p t=true then (i:Int) else ixC p l<|i+1
def mD (p):∀(l) (i),decide (ixC p l i>=0)=l.any p
 |[],_=>rfl
 |t::l,i=>by
  rw [ixC,sK];split
  .rename_i h;rw [h];simp
  .rename_i h;rw [mD p l,show p t=false by simpa using h,sF]
def lQ (p c b):∀a,(a++b).length<=B->(∀u∈b,AC Tryz.prog 143 [aC u, .c<|.a<|.ep 0 6 0 0] [obC c] (cb<|p u) [obC c])->RPt Tryz.prog 56 1 (ci<|ixC p b a.length) [obC c] 1 ⟨[(0,aCs<|a++b),(1, .c<|.fn (.func 143) [] [(false,[.ep 0 6 0 0])]),(7,ci (a++b).length),(8,ci a.length)],[(0,obC c)],1⟩:=by
 induction b with
 |nil=>
  intro a f _;refine rpv (Yz ..) ?_;exact bF (by simp) rrl
 |cons t b d=>
  intro a f ih;have m:=ih t rn;have j:=d (a++ [t]) (by simpa using f) λu o=>ih u<|rh _ o
  rw [ap,nx,show (a++ [t]).length=a.length+1 by simp] at j;rw [ixC];simp [re,r6,B] at f;have i:a.length<((a++t::b).length:Int):=by simp [re,r6];omega
  refine rpv (Yz ..) ?_;rw [w64 (by omega)<|by omega,kR];have e:=jy t;refine bT i ⟨⟨rfl,by omega,by rw [zq];exact i,qV t⟩,p t,by have g:=m;rw [<-(jy t)] at g;exact g,za (λh=> ?_) λh=> ?_⟩
  .rw [ri h];exact rrl
  .rw [r8<|by rw [h];simp];exact j
def c_ccontc (c l)(e:l.length<=B)(h:∀u∈l,AC Tryz.prog 25 [aC u] [] (cb<|vC u) []):AC Tryz.prog 26 [aCs l, .c<|.fn (.func 143) [] [(false,[.ep 0 6 0 0])]] [obC c] (cb (!vCs c.sl l)) [obC c]:=by
 have d:=lQ _ c l [] e λu f=>c_cins1 c u<|h u f
 have b:AC Tryz.prog 56 [aCs l, .c<|.fn (.func 143) [] [(false,[.ep 0 6 0 0])]] [obC c] (ci<|ixC (oddC c.sl) l 0) [obC c]:=by
  refine acv (v56_F143 ..) ?_;rw [zq];exact ⟨rfl,d⟩
 rw [<-vCs_any,Bool.not_not];refine acv (v26_F143 ..) ?_;exact ⟨_,b,by rw [mD (oddC c.sl) l 0];exact rrl⟩
def vU (a:List In1):=a.getLast?.map λy=>(y.k,y.a)
def uN (a x):vU (a++ [x])=some (x.k,x.a):=by simp [vU]
def insR (c:Cd)(a:List In1)(x:In1):Bool:=
 if x.k=5 then x.l.length==2 else if x.k=14 then vCs c.sl x.c else insB c.ar (c.fr+c.vs) c.sl c.ins.length a.length (vU a) x.k x.a x.t
abbrev usesT (k:Int)(ok:Bool):TV:= .tup [(true,[qf<|.bool<|useT k,qf<|.bool<|k==5,qf<|.bool<|k==14,qf<|.bool<|useA k]),(false,[qf<|.bool ok])]
def c_cins (c:Cd)(a b x)(p:c.ins=a++x::b)(D:c.ins.length<=B)(F:0<=c.fr+c.vs/\c.fr+c.vs<=B)(C:x.t.sz<=B)(G:x.c.length<=B)(hd:∀d∈x.c,AC Tryz.prog 25 [aC d] [] (cb<|vC d) []):
  AC Tryz.prog 99 [aC c,ci a.length] [] (usesT x.k<|insR c a x) []:=by
 simp only [B] at D F;have h:a.length<c.ins.length:=by rw [p];simp
 have e:List.getD (FIs c.ins) (Int.toNat (a.length:Int)) []=FI x:=by rw [p];exact ul a x b
 have v:=c_cpred x.t C;have r:=lU x.t C;have c3:=c_ccontc c x.c G hd;have j:=el8 c.ins a.length (by omega) (by omega) x;have u:((((FTs x.l).length:Nat):Int)==2)=(x.l.length==2):=by rw [zb,sZ,rT,rT];omega
 have g:(((FIs c.ins).length:Nat):Int)=c.ins.length:=by rw [zo]
 refine acv (v99 ..) ?_;unfold w99_6 w99_5 w99_4 w99_0 w99_3 w99_1 w99_2;rw [e,w64 (x:=c.fr+c.vs) (by omega)<|by omega];simp only [FI0,FI1,FI2,FI3,FI4,FI5,FI6,FI7];refine ⟨j, ?_⟩;have i:∀ok,insR c a x=ok->True:=λ_ _=>trivial;rcases tg a with o|⟨m,y,o⟩
 .subst o;have E:(decide ((([]:List In1).length:Int)>0))=false:=rfl;rw [E];simp only [insR,insB,vU,List.getLast?_nil,Option.map_none];simp only [FV.ses,u,g];generalize x.k=k at*
  repeat' (first|refine za (λ_=> ?_) (λ_=> ?_)|refine ⟨_,v, ?_⟩|refine ⟨_,r, ?_⟩|refine ⟨_,c3, ?_⟩|refine And.intro (show FV.L _ _=true by rfl) ?_)
  all_goals first
   |contradiction
   |(refine ⟨vS ?_,by trivial⟩;simp_all [useT,useA]<;>omega)
 .have o:a=m++ [y]:=by simpa using o
  subst o;have z:(decide (((m++ [y]).length:Int)>0))=true:=by simp
  have w:List.getD (FIs c.ins) (Int.toNat<|wrap .i64<|((m++ [y]).length:Int)-1) []=FI y:=by
   have q:wrap .i64 (((m++ [y]).length:Int)-1)=(m.length:Int):=by
    simp only [re,rY] at h ⊢;rw [w64 (by omega)<|by omega];omega
   rw [q,p,sm];exact ul m y<|x::b
  have f:=el8 c.ins (wrap .i64<|((m++ [y]).length:Int)-1) (by
   simp [re,rY] at h ⊢;rw [w64 (by omega)<|by omega];omega) (by
   simp [re,rY] at h ⊢;rw [w64 (by omega)<|by omega];omega) y
  have A:=c_chead y.k;rw [z,w];simp only [FI0,FI1,FI2,FI3,FI4,FI5,FI6,FI7];simp only [insR,insB,uN];simp only [FV.ses,u,g];rw [g] at f;generalize x.k=k at*
  repeat' (first|refine za (λ_=> ?_) (λ_=> ?_)|refine ⟨_,v, ?_⟩|refine ⟨_,r, ?_⟩|refine ⟨_,c3, ?_⟩|refine ⟨_,A, ?_⟩|refine And.intro (by rfl) ?_|refine And.intro f ?_|refine And.intro (by rfl) ?_|refine And.intro (show FV.L 8 _=true by rfl) ?_)
  all_goals clear j f e w o p hd v r c3 A i u g z h
  all_goals first
   |contradiction
   |(refine ⟨vS ?_,by trivial⟩;simp_all [useT,useA]<;>omega)
def yU (c:Cd)(a:List In1)(x:In1):=fldB c.ar (c.fr+c.vs) c.sl c.ins.length a.length (vU a) x.k x.a x.t x.l x.c.isEmpty&&vCs c.sl x.c
def mQ (c a x):yU c a x=((x.k==14||(plB c.sl x.t||vj x.t)&&x.l.all (plB c.sl))&&(insR c a x&&((useA x.k||x.a==0)&&((x.k==14||x.c.isEmpty)&&((x.k==5||x.l.isEmpty)&&(if useT x.k=true then plB c.sl x.t else vj x.t)))))):=by
 have p:plB c.sl x.t=true->zj x.t=true:=λh=>by unfold plB at h;simp [rf] at h;exact h.1
 have o:x.c.isEmpty=true->vCs c.sl x.c=true:=λh=>by rw [List.isEmpty_iff.1 h,vCs]
 have u:x.l.isEmpty=true->x.l.all (plB c.sl)=true:=λh=>by rw [List.isEmpty_iff.1 h];rfl
 have g:x.k=5->insB c.ar (c.fr+c.vs) c.sl c.ins.length a.length (vU a) x.k x.a x.t=true:=λh=>by rw [h];rfl
 have d:x.k=14->insB c.ar (c.fr+c.vs) c.sl c.ins.length a.length (vU a) x.k x.a x.t=true:=λh=>by rw [h];rfl
 unfold yU fldB insR;generalize insB c.ar (c.fr+c.vs) c.sl c.ins.length a.length (vU a) x.k x.a x.t=I at*;generalize plB c.sl x.t=A at*;generalize vj x.t=E at*;generalize zj x.t=V at*;generalize x.l.all (plB c.sl)=Ls at*;generalize vCs c.sl x.c=W at*;generalize x.c.isEmpty=f at*;generalize x.l.isEmpty=m at*;generalize (x.l.length==2)=l2 at*;generalize (x.a==0)=e at*;generalize x.k=k at*;by_cases q:k=14
 .have:=d q;subst q;cases E<;>cases m<;>cases e<;>cases W<;>simp_all [useA,useT]
 by_cases b:k=5
 .have:=g b;subst b;cases E<;>cases f<;>cases l2<;>cases e<;>cases Ls<;>simp_all [useA,useT]
 .have j:(k==14)=false:=by simpa using q
  have r:(k==5)=false:=by simpa using b
  rw [j,r,r8 b,r8 b,r8 q];generalize useT k=i;generalize useA k=v;cases i<;>cases A<;>cases E<;>cases f<;>cases Ls<;>simp_all
def pj (c:Cd) (a b x) (j:c.ins=a++x::b) (r:c.ins.length<=B) (v:0<=c.fr+c.vs/\c.fr+c.vs<=B) (m:x.t.sz<=B) (g:bd 2305843009213693952 x.t) (C:x.l.length<=B) (z:∀t∈x.l,t.sz<=B/\bd 2305843009213693952 t)
  (w:x.c.length<=B) (hd:∀d∈x.c,AC Tryz.prog 25 [aC d] [] (cb<|vC d) []):AC Tryz.prog 54 [aC c,ci a.length] [] (cb<|yU c a x) []:=by
 have p:=c_cins c a b x j r v m w hd;have y:=c_codd c x.t m g;have u:=c_cempty x.t m;have c3:=c_anyOdd c x.l C z;have o:a.length<c.ins.length:=by rw [j];simp
 have e:List.getD (FIs c.ins) (Int.toNat a.length) []=FI x:=by rw [j];exact ul a x b
 have f:=el8 c.ins a.length (by omega) (by omega) x;have i:decide ((x.c.length:Int)>0)= !x.c.isEmpty:=by cases x.c<;>simp
 have h:decide (((x.l.length:Nat):Int)>0)= !x.l.isEmpty:=by cases x.l<;>simp
 refine acv (v54 ..) ?_;unfold w54_0 w54_1 w54_2 w54_3 w54_4;rw [e];simp only [FI0,FI1,FI2,FI3,FI4,FI5,FI6,FI7];refine ⟨f, ?_⟩;rw [mQ];simp only [FV.ses,zq,zb];rw [i,h,show (x.a !=0)= !(x.a==0) from rfl,show (x.k !=14)= !(x.k==14) from rfl];unfold usesT at p;generalize insR c a x=OK at*;generalize plB c.sl x.t=A at*;generalize vj x.t=E at*;generalize x.l.all _=Ls at*;generalize x.c.isEmpty=J at*;generalize x.l.isEmpty=I at*;generalize useA x.k=K at*;generalize useT x.k=H at*;generalize (x.a==0)=F at*;generalize (x.k==14)=D at*;generalize (x.k==5)=G at*
 repeat' (first|refine za (λ_=> ?_) (λ_=> ?_)|refine ⟨_,y, ?_⟩|refine ⟨_,u, ?_⟩|refine ⟨_,c3, ?_⟩|refine ⟨_,_,_,_,_,p, ?_⟩|refine And.intro (by rfl) ?_|refine And.intro (show FV.L 6 _=true by rfl) ?_)
 all_goals clear p y u c3 j r v m g C z w hd o e f i h
 all_goals refine ⟨vS ?_,by trivial⟩
 all_goals (simp_all;done)
mutual
def nbC:Cd->Prop
 |.mk _ _ _ _ _ ins=>nbIs ins
def nbIs:List In1->Prop
 |[]=>True
 |.mk _ _ t l c::r=>(bd 2305843009213693952 t/\(∀u∈l,bd 2305843009213693952 u)/\nbCs c)/\nbIs r
def nbCs:List Cd->Prop
 |[]=>True
 |c::r=>nbC c/\nbCs r
end
def je:∀ {l} {x},nbIs l->x∈l->bd 2305843009213693952 x.t/\(∀u∈x.l,bd 2305843009213693952 u)/\nbCs x.c
 |.mk k a t q c::r,x,h,hm=>by
  rw [nbIs] at h;rcases rG.1 hm with rfl|hm
  .exact h.1
  .exact je h.2 hm
def WK:∀ {l} {d},nbCs l->d∈l->nbC d
 |c::r,d,h,hm=>by
  rw [nbCs] at h;rcases rG.1 hm with rfl|hm
  .exact h.1
  .exact WK h.2 hm
def Wi {c}(h:nbC c):nbIs c.ins:=by cases c;rw [nbC] at h;exact h
def fV (c)(i:zC c)(z:nbC c)(v:0<=c.fr+c.vs/\c.fr+c.vs<=B)(ih:∀x∈c.ins,∀d∈x.c,AC Tryz.prog 25 [aC d] [] (cb<|vC d) [])(u:0<c.ins.length):∀(b a),c.ins=a++b->
  (∀x∈a,x.k=9\/x.k=10->0<=x.a/\x.a<=B)->
  RPt Tryz.prog 25 0 (cb<|vIs c.ar (c.fr+c.vs) c.sl c.ins.length a.length (vU a) b&&YB c.ins) [] 3 ⟨[(5, .c<|.a<|.ep 0 6 0 0),(68,ci c.ins.length),(69,ci a.length)],[(0,obC c)],1⟩
 |[],a,f,m=>by
  have j:=(qQ i).2.1;have o:=c_cways c j u (λx A=>m x<|by rw [f] at A;simpa using A);refine rpv (v25_3a ..) ?_;refine za (λh=>absurd (ro h) ?_) (λ_=>⟨_,o,zg<|by rw [vIs];rfl⟩);rw [f];simp
 |x::b,a,f,m=>by
  have g:x∈c.ins:=by rw [f];simp
  have C:=ZD (qQ i).2.2 g;have E:=Tm.sz_bk x.t;have z6:=Tm.szs_bks x.l;have G:=Tm.szs_length x.l;have F:=C.2.2.1;have w:=je (Wi z) g;have j:=(qQ i).2.1;have D:a.length<c.ins.length:=by rw [f];simp
  have o:=pj c a b x f j v (by omega) w.1 (by omega) (λt r=>⟨by have:=Tm.szs_mem r;omega,w.2.1 t r⟩) (by omega)<|ih x g
  have ev:vIs c.ar (c.fr+c.vs) c.sl c.ins.length a.length (vU a) (x::b)=(yU c a x&&vIs c.ar (c.fr+c.vs) c.sl c.ins.length (a.length+1) (some (x.k,x.a)) b):=by
   cases x;rw [vIs,yU,tv];rfl
  rw [ev];simp [B] at j;refine rpv (v25_3a ..) ?_;rw [w64 (x:=a.length+1) (by omega)<|by omega];refine za (λ_=>⟨_,o,za (λh=>zg ?_) λh=> ?_⟩) (λh=>absurd (rg h)<|by omega)
  .rw [show yU c a x=false by simpa using h];rfl
  .have e:yU c a x=true:=by simpa using h
   have:=fV c i z v ih u b (a++ [x]) (by rw [f];simp) (λy hy p=>by
    rcases rS.1 hy with hy|hy
    .exact m y hy p
    .have hy:y=x:=by simpa using hy
     subst hy
     have:insB c.ar (c.fr+c.vs) c.sl c.ins.length a.length (vU a) y.k y.a y.t=true:=by
      unfold yU fldB at e;simp [rf] at e;exact e.1.2.1
     unfold insB at this;rw [r8<|by omega,r8<|by omega,r8<|by omega,ri p] at this;have:=ro this;simp [B];omega)
   rw [nx,uN] at this;rw [e,rO];exact this
def dY {l}(h:l.length=0):XR l=false:=by rw [ru h];rfl
def m8:∀c,zC c->nbC c->AC Tryz.prog 25 [aC c] [] (cb<|vC c) []:=by
 refine Cd.ind λc ih L T=> ?_;have K:=qQ L;have U:c.ins.length<=B:=K.2.1;simp [B] at U;have G:∀x∈c.ins,∀d∈x.c,AC Tryz.prog 25 [aC d] [] (cb<|vC d) []:=λx z d hd=>ih x z d hd (fA (ZD K.2.2 z).2.2.2 hd)<|WK (je (Wi T) z).2.2 hd
 have S:=cf c.nm;have C:=lJ c.nm;have c3:=X9 c.nm;have r:=c_ccount [c.ar,c.fr,c.vs,c.sl] (by simp [B]);have eV:vC c=(nmB c.nm&&(cntB c.ar c.fr c.vs c.sl&&(XR c.ins&&(vIs c.ar (c.fr+c.vs) c.sl c.ins.length 0 none c.ins&&YB c.ins)))):=by cases c;rw [vC];rfl
 rw [eV];have o:(((FIs c.ins).length))=c.ins.length:=by rw [zo]
 have F:nmB c.nm=true->∀R:Prop,(∀b:Bool,R->False)\/True->True:=λ_ _ _=>trivial
 have j:(!([c.ar,c.fr,c.vs,c.sl].any cntN))=true->(0<=c.ar/\c.ar<=4096)/\(0<=c.fr/\c.fr<=4096)/\(0<=c.vs/\c.vs<=4096)/\(0<=c.sl/\c.sl<=4096):=λh=>by
  simp [sK,List.any_nil,cntN,Bool.not_or,tf,sU,rf,sB,decide_eq_false_iff_not] at h;omega
 have i:(!([c.ar,c.fr,c.vs,c.sl].any cntN))=false->cntB c.ar c.fr c.vs c.sl=false:=λh=>by
  unfold cntB;refine sn λq=> ?_
  have:(!([c.ar,c.fr,c.vs,c.sl].any cntN))=true:=by
   simp [sK,List.any_nil,cntN,Bool.not_or,tf,sU,rf,sB,decide_eq_false_iff_not];omega
  rw [this] at h;cases h
 have p:0<c.ins.length->0<=c.fr+c.vs/\c.fr+c.vs<=B->RPt Tryz.prog 25 0 (cb<|vIs c.ar (c.fr+c.vs) c.sl c.ins.length 0 none c.ins&&YB c.ins) [] 3 ⟨[(5, .c<|.a<|.ep 0 6 0 0),(68,ci c.ins.length),(69,ci 0)],[(0,obC c)],1⟩:=λu Y=>fV c L T Y G u c.ins [] rfl (λx z=>by cases z);have rest:nmB c.nm=true->(∃b3:Bool,AC Tryz.prog 53 [.c _] [] _ []/\(true=true)/\True):=λ_=>⟨_,r,rfl,trivial⟩
 have g:0<c.ins.length->∃y v,c.ins=v++ [y]/\XR c.ins=(y.k==3||y.k==4||y.k==8)/\List.getD (FIs c.ins) (Int.toNat<|wrap .i64<|c.ins.length-1) []=FI y/\0<=wrap .i64 (c.ins.length-1)/\wrap .i64 (c.ins.length-1)<c.ins.length:=λu=>by
  rcases tg c.ins with h|⟨v,y,h⟩
  .rw [h] at u;cases u
  .have h:c.ins=v++ [y]:=by simpa using h
   rw [w64 (by omega)<|by omega];refine ⟨y,v,h,by rw [h];simp [XR], ?_,by omega,by omega⟩;rw [show (c.ins.length:Int)-1=v.length by rw [h];simp,h];exact ul v y []
 refine acv (v25 ..) ?_;unfold w25_0;refine ⟨rfl,_,S, ?_⟩;rw [o];by_cases u:0<c.ins.length
 .let ⟨y,v,J,H,w,E,A⟩:=g u
  have f:=el8 c.ins _ E A y;have I:((c.ins.length:Int)==0)=false:=by rw [beq_eq_false_iff_ne];omega
  rw [w,I,H];simp only [FI0,FI1,FI2,FI3,FI4,FI5,FI6,FI7];rw [o] at f;have m:=p u;clear p g J H w E A F rest eV ih G K U T L;unfold nmB;cases e:(!([c.ar,c.fr,c.vs,c.sl].any cntN)) with
  |false=>
   have O:=i e;rw [e] at r;rw [O];clear j i
   repeat' (first|refine za (λ_=> ?_) (λ_=> ?_)|refine ⟨_,C, ?_⟩|refine ⟨_,c3, ?_⟩|refine ⟨_,r, ?_⟩|refine And.intro (And.intro True.intro (r9 4)) ?_|refine And.intro (And.intro (rfl:1=1) (r9 4)) ?_|refine And.intro True.intro ?_|refine And.intro (rfl:true=true) ?_|refine And.intro f ?_|fail)
   all_goals first
    |contradiction
    |exact ⟨vS (by rw [rQ,s7]),by trivial⟩
  |true=>
   have hb:=j e;rw [e] at r;rw [w64 (x:=c.fr+c.vs) (by omega)<|by omega];have m:=m (by simp only [B];omega)
   have D:cntB c.ar c.fr c.vs c.sl= !decide (c.fr+c.vs>c.sl):=by
    unfold cntB;by_cases q:c.fr+c.vs>c.sl
    .rw [sH q,sn<|by omega];rfl
    .rw [sn q,sH<|by omega];rfl
   rw [D];clear D j i e hb I u;generalize (vIs c.ar (c.fr+c.vs) c.sl c.ins.length 0 none c.ins&&YB c.ins)=V at*;generalize decide (c.fr+c.vs>c.sl)=d at*;generalize vJ c.nm=Z at*;generalize qZ c.nm=n2 at*;generalize logB c.nm=W at*;generalize (y.k==3)=X at*;generalize (y.k==4)=k4 at*;generalize (y.k==8)=k8 at*
   repeat' (first|refine za (λ_=> ?_) (λ_=> ?_)|refine ⟨_,C, ?_⟩|refine ⟨_,c3, ?_⟩|refine ⟨_,r, ?_⟩|refine And.intro (And.intro True.intro (r9 4)) ?_|refine And.intro (And.intro (rfl:1=1) (r9 4)) ?_|refine And.intro True.intro ?_|refine And.intro (rfl:true=true) ?_|refine And.intro f ?_|fail)
   all_goals first
    |contradiction
    |(refine ⟨vS ?_,by trivial⟩;clear m f S C c3 r;simp_all;done)
    |((have e9:((Z||n2) && !W&&(!d&&((X||k4||k8)&&V)))=V:=by (clear m f S C c3 r;simp_all));rw [e9];exact m)
 .have N:c.ins.length=0:=by omega
  have I:((c.ins.length:Int)==0)=true:=by rw [rT];omega
  have M:=dY N;rw [I,M,rQ,s7,s7];clear g
  repeat' (first|exact zg rfl|refine za (λ_=> ?_) (λ_=> ?_)|refine ⟨_,C, ?_⟩|refine ⟨_,c3, ?_⟩|refine ⟨_,r, ?_⟩|refine And.intro (And.intro True.intro (r9 4)) ?_|refine And.intro (And.intro (rfl:1=1) (r9 4)) ?_|refine And.intro True.intro ?_|refine And.intro (rfl:true=true) ?_|fail)
  all_goals contradiction
def c_cvalid (c)(h:c.sz<=B)(b:nbC c):AC Tryz.prog 25 [aC c] [] (cb<|vC c) []:=m8 c (zC_of c h) b
def pW:∀c,0<=nIns c/\nIns c<=c.sz:=by
 refine Cd.ind λc ih=> ?_
 let ⟨nm,ar,fr,vs,sl,ins⟩:=c
 simp [Cd.ins] at ih;rw [nIns,Cd.sz]
 have j:∀l,(∀d∈l,0<=nIns d/\nIns d<=d.sz)->0<=nCs l/\nCs l<=Cd.szs l:=by
  intro l
  induction l with
  |nil=>intro _;simp [nCs,Cd.szs]
  |cons d l b=>
   intro h;have f:=h d rn;have i:=b λu e=>h u<|rh _ e
   rw [nCs,Cd.szs];omega
 have g:∀l,(∀x∈l,∀d∈x.c,0<=nIns d/\nIns d<=d.sz)->0<=nIs l/\nIs l+l.length<=In1.szs l:=by
  intro l
  induction l with
  |nil=>intro _;simp [nIs,In1.szs]
  |cons x l b=>
   intro h;have f:=j x.c<|h x rn
   have i:=b λu e=>h u<|rh _ e
   let ⟨k,a,t,q,c⟩:=x
   simp [In1.c] at f;rw [nIs,In1.szs,In1.sz1,r6];omega
 have:=g ins ih;omega
def da:∀l,0<=nCs l/\nCs l<=Cd.szs l
 |[]=>by simp [nCs,Cd.szs]
 |d::l=>by have e:=pW d;have b:=da l;rw [nCs,Cd.szs];omega
def nH:∀l,0<=nIs l/\nIs l+l.length<=In1.szs l
 |[]=>by simp [nIs,In1.szs]
 |.mk k a t q c::l=>by have b:=da c;have d:=nH l;rw [nIs,In1.szs,In1.sz1,r6];omega
def mSl_eq (c n):mSl c n=mSlI c.ins (zp [n,c.sl]):=by cases c;rw [mSl];rfl
def pu (x l n):mSlI (x::l) n=mSlI l (mSlC x.c n):=by cases x;rw [mSlI];rfl
def mSlI_nil (n):mSlI [] n=n:=by rw [mSlI]
def oK (x l n):mSlC (x::l) n=mSlC l (mSl x n):=by rw [mSlC]
def mSlC_nil (n):mSlC [] n=n:=by rw [mSlC]
abbrev bZ (f:Nat):TV:= .c<|.fn (.func f) [] [(false,[.ep 0 1 0 0])]
def iC (c n)(b:c.sz<=B)(h:True):AC Tryz.prog 22 [aC c, .c<|.a<|.ep 0 1 0 0] [obN n] (.tup []) [obN<|zp [n,c.sl]]:=by
 refine acv (v22 ..) ?_;exact rrl
def ke (ins)(x:In1)(i:Int)(r)(y:0<=i)(o:i<=B):∀(b a) (n),x.c=a++b->x.c.length<=B->(∀d∈b,∀n,True->AC Tryz.prog 21 [aC d,bZ 22] [obN n] (.tup []) [obN<|mSl d n])->True->
  RPt Tryz.prog 21 1 (.tup []) [obN r] 1 ⟨[(1,bZ 22),(12, .c<|qf<|.sl false 8<|FIs ins),(13,ci ins.length),(14,ci<|i+1)],[(0,obN<|mSlC b n)],1⟩->
  RPt Tryz.prog 21 1 (.tup []) [obN r] 5 ⟨[(1,bZ 22),(12, .c<|qf<|.sl false 8<|FIs ins),(13,ci ins.length),(14,ci i),(19,aCs x.c),(20,ci x.c.length),(21,ci a.length)],[(0,obN n)],1⟩
 |[],a,n,g,m,ih,j,f=>by
  refine rpv (X6 ..) ?_;simp [B] at o;rw [mSlC_nil] at f;rw [w64 (x:=i+1) (by omega)<|by omega];refine za (λh=>absurd (ro h) ?_) λ_=>f;rw [g];simp
 |d::b,a,n,g,m,ih,j,f=>by
  simp [B] at m o;have C:=pW d;have A:=da b;have v:=ih d rn n (by first|trivial|(simp [nCs] at j;omega));rw [oK] at f;have next:=ke ins x i r y (by simp [B];omega) b (a++ [d]) (mSl d n) (by rw [g];simp) (by simp [B];omega) (λu w=>ih u<|rh _ w) (by first|trivial|(simp [nCs,szF] at*;omega)) f;rw [nx] at next;have z:a.length<x.c.length:=by rw [g];simp
  refine rpv (X6 ..) ?_;have e:List.getD (FV.ses<|.sl false 6<|FCs x.c) (Int.toNat a.length) []=FC d:=by rw [g];exact kR a d b
  rw [e,w64 (x:=a.length+1) (by omega)<|by omega];refine za (λ_=>⟨⟨rfl,by omega,by show a.length<(((FCs x.c).length):Int);rw [zq];omega,qV d⟩,_,by have p:=v;rw [<-(jy d)] at p;exact p,next⟩) (λh=>absurd (rg h)<|by omega)
def uZ (ins)(i:In1.szs ins<=B):∀(b a) (n),ins=a++b->(∀x∈b,∀d∈x.c,∀n,True->AC Tryz.prog 21 [aC d,bZ 22] [obN n] (.tup []) [obN<|mSl d n])->True->
  RPt Tryz.prog 21 1 (.tup []) [obN<|mSlI b n] 1 ⟨[(1,bZ 22),(12, .c<|qf<|.sl false 8<|FIs ins),(13,ci ins.length),(14,ci a.length)],[(0,obN n)],1⟩
 |[],a,n,f,ih,m=>by
  refine rpv (XE ..) ?_;rw [mSlI_nil];refine za (λh=>absurd (ro h) ?_) λ_=>rrl;rw [f];simp
 |x::b,a,n,f,ih,m=>by
  have p:In1.sz1 x<=In1.szs ins:=In1.szs_mem (by rw [f];simp);have v:=In1.szs_length ins;have u:=Cd.szs_length x.c;have w:Cd.szs x.c<=In1.sz1 x:=by cases x;simp only [In1.c,In1.sz1];omega
  simp [B] at i;have o:a.length<ins.length:=by rw [f];simp
  have z:=da x.c;have r:=nH b;have e0:nIs (x::b)=nCs x.c+nIs b:=by cases x;rw [nIs];rfl
  rw [pu];have next:=uZ ins (by simp [B];omega) b (a++ [x]) (mSlC x.c n) (by rw [f];simp) (λy g=>ih y<|rh _ g) (by first|trivial|(simp [szC] at*;omega));rw [nx] at next;have j:=ke ins x a.length (mSlI b<|mSlC x.c n) (by omega) (by simp [B];omega) x.c [] n (by simp) (by simp [B];omega) (ih x rn) (by first|trivial|omega) next;have e:List.getD (FIs ins) (Int.toNat a.length) []=FI x:=by rw [f];exact ul a x b
  refine rpv (XE ..) ?_;rw [e];simp only [FI0,FI1,FI2,FI3,FI4,FI5,FI6,FI7];refine za (λ_=>⟨el8 ins a.length (by omega) (by omega) x,rfl, ?_⟩) (λh=>absurd (rg h)<|by omega);rw [show (((FV.ses<|.sl false 6<|FCs x.c).length))=x.c.length by show (((FCs x.c).length))=_;rw [zq]];exact j
def XJ:∀c,c.sz<=B->∀n,True->AC Tryz.prog 21 [aC c,bZ 22] [obN n] (.tup []) [obN<|mSl c n]:=by
 refine Cd.ind λc ih g n j=> ?_;have m:=In1.szs_length c.ins;have i:In1.szs c.ins<=B:=by cases c;simp [Cd.sz,Cd.ins,B] at*;omega
 have e:=nH c.ins;have e0:nIns c=c.ins.length+nIs c.ins:=by cases c;rw [nIns];rfl
 have f:=iC c n g (by first|trivial|omega)
 have h:=uZ c.ins i c.ins [] (zp [n,c.sl]) rfl (λx b d hd n e=>ih x b d hd (by
  have o:=In1.szs_mem b;have p:=Cd.szs_mem hd;cases x;simp [In1.sz1,In1.c] at*;omega) n e) (by first|trivial|omega)
 rw [mSl_eq];refine acv (v21_F22 ..) ?_;rw [zo];exact ⟨_,f,rfl,h⟩
def c_cslots (c)(b:c.sz<=B):AC Tryz.prog 7 [aC c] [] (ci<|mSl c c.sl) []:=by
 have h:=XJ c b c.sl trivial;refine acv (v7 ..) ?_;exact ⟨_,h,xG rfl⟩
def bad_near {t l}(h:Z5 t l=false):bd 2305843009213693952 t/\∀u∈l,bd 2305843009213693952 u:=by
 unfold Z5 at h;simp [Bool.or_eq_false_iff,Bool.not_eq_false'] at h;refine ⟨bd_le (by omega) _<|gz t h.2.1,λu d=> ?_⟩;have b:=h.2.2.2.2;unfold badL at b;rw [List.any_eq_false] at b;have:=b u d;simp [Bool.or_eq_true,sB,not_or,Bool.not_eq_false] at this;exact bd_le (by omega) _<|gz u this.2
mutual
def ZB:∀(c:Cd) (m:Int),0<=m->0<=w7 c m->nbC c
 |.mk nm ar fr vs sl ins,m,h0,h=>by
  rw [w7] at h;rw [nbC];exact bn ins (m-1) (by omega) h
def bn:∀(l:List In1) (n:Int),0-1<=n->0<=xp l n->nbIs l
 |[],_,_,_=>by rw [nbIs];trivial
 |.mk k a t q c::r,n,hn,h=>by
  rw [xp] at h;by_cases h1:n<0
  .rw [ri h1] at h;omega
  rw [r8 h1] at h;by_cases h2:Z5 t q=true
  .rw [ri h2] at h;omega
  rw [r8 h2] at h;have hb:=jh c (n-1) (by omega)
  have h3:0<=yh c (n-1):=by
   by_cases h4:yh c (n-1)<0
   .rw [X5 h4] at h;omega
   .omega
  have h4:=bad_near (t:=t) (l:=q) (by simpa using h2);rw [nbIs];refine ⟨⟨h4.1,h4.2, ?_⟩,bn r _ hb.1 h⟩;exact K7 c (n-1) (by omega) h3
def K7:∀(l:List Cd) (n:Int),0-1<=n->0<=yh l n->nbCs l
 |[],_,_,_=>by rw [nbCs];trivial
 |c::r,n,hn,h=>by
  rw [yh] at h;by_cases h1:n<0
  .rw [ri h1] at h;omega
  rw [r8 h1] at h;have hb:=fe c n (by omega)
  have h3:0<=w7 c n:=by
   by_cases h4:w7 c n<0
   .cases r with
    |nil=>rw [yh] at h;exact h
    |cons d r=>rw [yh,ri h4] at h;omega
   .omega
  rw [nbCs];exact ⟨ZB c n (by omega) h3,K7 r _ hb.1 h⟩
end
def ly (s):∀(b a),a++b=logs->RPt Tryz.prog 41 0 (cb<|b.contains s) [] 1 ⟨[(0,cs s),(3, .c<|.a<|.osl 0 1 0 15),(4,ci a.length)],[(0, .arz 1<|logs.map λx=> [.str x])],1⟩
 |[],a,h=>by
  have d:a.length=15:=by rw [rF] at h;rw [h];rfl
  refine rpv (v41_1a ..) ?_;exact bF (by omega)<|zg rfl
 |x::b,a,h=>by
  have d:a.length<15:=by
   have:=si List.length h;simp [re,r6] at this;have e:logs.length=15:=rfl;omega
  have next:=ly s b (a++ [x]) (by rw [<-h];simp);rw [nx] at next
  have e:List.getD (logs.map λx=> [FV.str x]) (0+Int.toNat a.length) []=[.str x]:=by
   rw [<-h,rt,rD];simp [List.getD]
  refine rpv (v41_1a ..) ?_;rw [e,w64 (x:=a.length+1) (by omega)<|by omega];refine za (λ_=>⟨⟨by omega,by omega⟩,⟨by rw [sc,rt];show _<15;omega,rfl,rfl⟩,za (λq=>zg ?_) λq=> ?_⟩) (λq=>absurd (rg q)<|by omega)
  .have:x=s:=by simpa [FV.S] using q
   rw [this];simp
  .have:¬x=s:=by simpa [FV.S] using q
   rw [show ((x::b).contains s)=b.contains s by simp [List.contains_cons,Ne.symm this]];exact next
def lw (s):AC Tryz.prog 41 [cs s] [] (cb<|logB s) []:=by
 have h:=ly s logs [] rfl;refine acv (v41 ..) ?_;exact h
def d9 (t):AC Tryz.prog 42 [aT t] [] (cb<|vj t) []:=by
 refine acv (v42 ..) ?_;have e:((((FTs t.l).length):Int)==0)=t.l.isEmpty:=by rw [zb];cases t.l<;>simp<;>omega
 rw [e];unfold vj;exact za (λh=>za (λb=>za (λd=>⟨rfl,zg<|by rw [h,b,d];rfl⟩) λd=>zg<|by rw [h,b,d];rfl) λb=>zg<|by rw [h,b];rfl) (λh=>zg<|by rw [h];rfl)
def KX (n t)(f:t.l.length<=B):∀(b a),t.l=a++b->(∀u∈b,AC Tryz.prog 75 [aT u,ci n] [] (cb<|unF n u) [])->
  RPt Tryz.prog 75 0 (cb<|b.all<|unF n) [] 1 ⟨[(1,ci n),(2, .c<|.a<|.ep 0 4 0 0),(5,ci a.length)],[(0, .arr 4 [cT t])],1⟩
 |[],a,d,_=>by
  refine rpv (v75_1a ..) ?_;refine ⟨rfl,bF (by rw [zb,d];simp)<|zg rfl⟩
 |u::b,a,d,ih=>by
  simp [B] at f;have j:a.length<t.l.length:=by rw [d];simp
  have i:=ih u rn;have next:=KX n t (by simp [B];omega) b (a++ [u]) (by rw [d];simp) λw m=>ih w<|rh _ m
  rw [nx] at next;have g:rE (List.getD (FTs t.l) (Int.toNat a.length) [])=List.getD (FTs t.l) (Int.toNat a.length) []:=by rw [d];exact u9 a u b
  have e:aE (List.getD (FTs t.l) (Int.toNat a.length) [])=aT u:=by rw [d];exact kf a u b
  refine rpv (v75_1a ..) ?_;rw [e,w64 (x:=a.length+1) (by omega)<|by omega,sj];refine ⟨rfl,za (λ_=>⟨⟨rfl,by omega,by rw [zb];omega,g⟩,_,i,za (λh=>zg ?_) λh=> ?_⟩) λh=>absurd (rg h)<|by rw [zb];omega⟩
  .rw [show unF n u=false by simpa using h];rfl
  .rw [show unF n u=true by simpa using h,rO];exact next
def mG (n):∀t,t.sz<=B->AC Tryz.prog 75 [aT t,ci n] [] (cb<|unF n t) []:=by
 refine Tm.ind λt ih f=> ?_;have e:=Tm.szs_length t.l;have g:=t.sz_eq;have b:=KX n t (by omega) t.l [] rfl (λu d=>ih u d<|by have:=Tm.szs_mem d;omega);refine acv (v75 ..) ?_;rw [unF_eq];refine za (λh=>zg<|by rw [h];rfl) (λh=>za (λh'=>za (λq=>zg<|by rw [h,h',q];rfl) λq=> ?_) λh'=> ?_)
 .rw [h,h',q,s7,Bool.or_false,tf,rO];exact b
 .rw [h,h',rQ,Bool.or_false,tf,rO];exact b
def iY:∀(t) (k),0<=vh t k
 |.mk b s n l,k=>by
  rw [vh];split
  .exact gN _ _
  .split
   .exact qy _ _
   .exact rk _
def maxI_0 {a}(h:0<=a):maxI 0 a=a:=by unfold maxI;rw [ri h]
def loose_R (t):wb t 0 0=vh t 0/\0<=vh t 0:=by
 have h:=iY t 0;refine ⟨?_,h⟩;rw [KN t 0 0<|rk _];exact maxI_0 h
def KE (n t)(b:t.bk<=B)(e:bd 2305843009213693952 t):AC Tryz.prog 45 [aT t,ci n] [] (cb<|plB n t) []:=by
 have j:=Tm.sz_bk t;have f:=bG t b;have d:=c_rloose t (by omega) e 0 (by omega) (by simp [B] at b;omega);have g:=mG n t (by omega);have i:=loose_R t;rw [<-i.1] at d;refine acv (v45 ..) ?_;unfold plB;refine ⟨_,f,za (λh=>⟨_,d,za (λq=>⟨_,g,zg ?_⟩) λq=>zg ?_⟩) λh=>zg<|by rw [h];rfl⟩
 .have:wb t 0 0=0:=by simpa using q
  rw [h,this];rfl
 .have:¬wb t 0 0=0:=by simpa using q
  rw [h,sn<|by omega];rfl
def nu (s)(d:s.length<=B):AC Tryz.prog 17 [cs s] [] (cb<|nmB s) []:=by
 have e:=JF s;have f:=cv s d;have b:=lw s;refine acv (v17 ..) ?_;unfold nmB;exact ⟨_,e,_,f,za (λh=>⟨_,b,zg<|by rw [h];rfl⟩) λh=>za (λq=>⟨_,b,zg<|by rw [h,q];rfl⟩) λq=>zg<|by rw [h,q];rfl⟩
def c_rcnums (c):AC Tryz.prog 18 [aC c] [] (cb<|cntB c.ar c.fr c.vs c.sl) []:=by
 refine acv (v18 ..) ?_;unfold cntB;have b:∀ {p} [Decidable p],¬p->TV.Le _ _/\([])=[]:=λh=>zg (sn h).symm;refine za (λe=>za (λm=>za (λi=>za (λg=>za (λj=>za (λd=>za (λf=> ?_) λq=>b λz=> ?_) λq=>b λz=> ?_) λq=>b λz=> ?_) λq=>b λz=> ?_) λq=>b λz=> ?_) λq=>b λz=> ?_) λq=>b λz=> ?_
 .have e:=ro e;have m:=ro m;have i:=ro i;have g:=ro g;have j:=ro j;have d:=ro d;have f:=ro f;rw [w64 (x:=c.fr+c.vs) (by omega)<|by omega]
  exact zg (by by_cases w:c.fr+c.vs<=c.sl
               .rw [sH w,sH<|by omega]
               .rw [sn w,sn<|by omega])
 all_goals (have q:=rg q;omega)
def XU (l)(i:Nat)(p):AC Tryz.prog 46 [.c<|.a<|.osl 0 3 0 l.length,ci i, .agg [qf<|.bool true,qi p.1,qi p.2]] [.arz 3<|PRw l]
  (cb (yY l i p).isSome) [.arz 3<|PRw<|(yY l i p).getD l]:=by
 refine acv (v46 ..) ?_;rw [rt,rD];refine za (λh=> ?_) λh=> ?_
 .have h:=ro h;rw [yY,r8<|by omega];exact rrl
 .have h:=rg h;have f:i<l.length:=by omega
  have g:0<=(i:Int)/\i<(l.length:Int):=⟨by omega,by omega⟩;have e:=Jn f;rw [yY,ri<|by omega,rt];have j:List.set _ i [.bool true, .int .i64 p.1, .int .i64 p.2]=PRw _:=cj l i (true,p);rw [j,e];generalize l.getD i _=q
  let ⟨m,x,y⟩:=q
  refine ⟨g,⟨by rw [yB];exact f,rfl,rfl⟩,za (λb=> ?_) λb=> ?_⟩
  .have b:m=false:=by simpa [pR,FV.asB] using b
   subst b;exact ⟨g,⟨by rw [yB];exact f,rfl⟩, .refl _,rfl⟩
  .have b:m=true:=by simpa [pR,FV.asB] using b
   subst b;refine ⟨g,⟨by rw [yB];exact f,rfl,rfl⟩, ?_⟩;by_cases d:((true,x,y))=(true,p)
   .rw [r8<|by simp,ri d];obtain ⟨_,rfl⟩:=Prod.mk.inj d;exact ⟨vS<|by simp [pR,FV.asB,FV.I],rfl⟩
   .rw [r8<|by simp,r8 d];refine ⟨vS ?_,rfl⟩
    let ⟨r,o⟩:=p
    simp [pR,FV.asB,FV.I] at d ⊢;exact d
abbrev evW (n:Nat)(i:Int):Env:=[(1, .c<|.a<|.ep 0 6 0 0),(3, .c<|.a<|.osl 1 3 0 n),(4,ci i)]
def dg (c)(hB:c.ins.length<=B):∀(b a:List In1) (l:List Pl),c.ins=a++b->l.length=c.ins.length->(∀x∈b,x.k=9\/x.k=10->0<=x.a/\x.a<=B)->
  (∀q∈l,(0<=q.2.1/\q.2.1<=a.length)/\0<=q.2.2/\q.2.2<=a.length)->
  RPt Tryz.prog 20 0 (cb<|y5 l a.length b) [] 1 ⟨evW l.length a.length,[(0,obC c),(1, .arz 3<|PRw l)],2⟩
 |[],a,l,hx,hl,_,_=>by
  refine rpv (v20_1a ..) ?_;refine za (λh=>absurd (ro h) ?_) λ_=>zg rfl;rw [hl,hx];simp
 |x::b,a,l,hx,hl,ha,hq=>by
  have S:a.length<l.length:=by rw [hl,hx];simp
  simp [B] at hB
  have next:∀l':List Pl,l'.length=l.length->(∀q∈l',(0<=q.2.1/\q.2.1<=(a.length:Int)+1)/\0<=q.2.2/\q.2.2<=(a.length:Int)+1)->qo l a.length x.k x.a=some l'->
    RPt Tryz.prog 20 0 (cb<|y5 l a.length<|x::b) [] 1 ⟨evW l.length<|(a.length:Int)+1,[(0,obC c),(1, .arz 3<|PRw l')],2⟩:=λl' M h2 X=>by
   have:=dg c (by simp [B];omega) b (a++ [x]) l' (by rw [hx];simp) (by rw [M,hl]) (λy hy=>ha y<|rh _ hy) (λq E=>by
    have:=h2 q E;simp [re,rY];omega)
   rw [nx,M] at this;rw [y5,X];exact this
  have em:List.getD (FIs c.ins) (Int.toNat (a.length:Int)) []=FI x:=by rw [hx];exact ul a x b
  have eq0:=Jn S;refine rpv (v20_1a ..) ?_;unfold bi cw dl cd dv uQ xh cq;rw [w64 (x:=(a.length:Int)+1) (by omega)<|by omega,em,rt,rD,eq0];rw [FI0,FI1,FI2,FI3,FI4,FI5,FI6,FI7];have hmem:l.getD a.length (false,0,0)∈l:=by simp [List.getD,rj S]
  have L:=hq _ hmem;have U:=cN (l:=l) (i:=(a.length:Int)) (k:=x.k) (a:=x.a);have J:=Jj (l:=l) (i:=(a.length:Int)) (k:=x.k) (a:=x.a);rw [rt] at U J;generalize l.getD a.length (false,0,0)=q at*
  let ⟨m,p⟩:=q
  simp at L U J;have hn:(0:Int)<=(a.length:Int)/\(a.length:Int)<((l.length:Nat):Int):=⟨by omega,by omega⟩;have r:∀q∈l,(0<=q.2.1/\q.2.1<=(a.length:Int)+1)/\0<=q.2.2/\q.2.2<=(a.length:Int)+1:=λq E=>by have:=hq q E;omega
  have nd:=el8 c.ins a.length (by omega) (by omega) x;refine za (λ_=>⟨hn,⟨by rw [yB];exact S,rfl,rfl⟩,za (λM=> ?_) λM=>⟨nd, ?_⟩⟩) (λh=>absurd (rg h)<|by omega)
  .exact next l rfl r (U<|by simpa [pR,FV.asB] using M)
  have M:m=true:=by simpa [pR,FV.asB] using M
  subst M
  let ⟨w,A⟩:=p
  have f:=J rfl;simp at L f;have q0:FV.asB (List.getD (pR (true,w,A)) 0 FV.N)=true:=rfl;have q1:FV.I (List.getD (pR (true,w,A)) 1 FV.N)=w:=rfl;have q2:FV.I (List.getD (pR (true,w,A)) 2 FV.N)=A:=rfl;rw [q0,q1,q2];have d:qo l a.length x.k x.a=none->TV.Le (cb false) (cb<|y5 l a.length<|x::b)/\([]:List AObj)=[]:=λh=>zg (by rw [y5,h])
  have hm1:∀(l1 l2:List Pl) (i:Int) (p':Int×Int),(0<=p'.1/\p'.1<=(a.length:Int)+1)/\0<=p'.2/\p'.2<=(a.length:Int)+1->(∀q∈l1,(0<=q.2.1/\q.2.1<=(a.length:Int)+1)/\0<=q.2.2/\q.2.2<=(a.length:Int)+1)->yY l1 i p'=some l2->l2.length=l1.length/\∀q∈l2,(0<=q.2.1/\q.2.1<=(a.length:Int)+1)/\0<=q.2.2/\q.2.2<=(a.length:Int)+1:=λl1 l2 i p' I X h4=>by
   have:=Zw h4;refine ⟨this.1,λq E=> ?_⟩;rcases this.2 q E with h|h
   .exact X q h
   .rw [h];exact I
  have C:∀g e:Int,aftP x.k (w,A)=(g,e)->¬(x.k=3\/x.k=4)->¬x.k=8->
    br (decide (g<0)) (TV.Le (cb false) (cb<|y5 l a.length<|x::b)/\([]:List AObj)=[]) (br (decide (e<0)) (TV.Le (cb false) (cb<|y5 l a.length<|x::b)/\([]:List AObj)=[])
     (br (x.k==9)
      ((FV.L 8 (.sl false 8<|FIs c.ins)=true/\0<=(a.length:Int)/\(a.length:Int)<(((FIs c.ins).length:Nat):Int)/\([.int .i64 x.k, .int .i64 x.a, .int .i64 x.t.k, .str x.t.s, .int .i64 x.t.n, .sl false 4<|FTs x.t.l, .sl false 4<|FTs x.l, .sl false 6<|FCs x.c]:List FV)=FI x)/\
       ∃u:Bool×List (List FV),AC Tryz.prog 46 [.c<|.a<|.osl 0 3 0 l.length,ci x.a, .agg [qf<|.bool true,qi g,qi e]] [.arz 3<|PRw l] (cb u.1) [.arz 3 u.2]/\
        br (x.k !=10) (∃o:Bool×List (List FV),AC Tryz.prog 46 [.c<|.a<|.osl 0 3 0 l.length,ci<|(a.length:Int)+1, .agg [qf<|.bool true,qi g,qi e]] [.arz 3 u.2] (cb o.1) [.arz 3 o.2]/\
          br u.1 (br (!o.1) (TV.Le (cb false) (cb<|y5 l a.length<|x::b)/\([]:List AObj)=[])<|RPt Tryz.prog 20 0 (cb<|y5 l a.length<|x::b) [] 1 ⟨evW l.length<|(a.length:Int)+1,[(0,obC c),(1, .arz 3 o.2)],2⟩) (TV.Le (cb false) (cb<|y5 l a.length<|x::b)/\([]:List AObj)=[]))
         (br (!u.1) (TV.Le (cb false) (cb<|y5 l a.length<|x::b)/\([]:List AObj)=[])<|RPt Tryz.prog 20 0 (cb<|y5 l a.length<|x::b) [] 1 ⟨evW l.length<|(a.length:Int)+1,[(0,obC c),(1, .arz 3 u.2)],2⟩))
      (br (x.k==10)
       ((FV.L 8 (.sl false 8<|FIs c.ins)=true/\0<=(a.length:Int)/\(a.length:Int)<(((FIs c.ins).length:Nat):Int)/\([.int .i64 x.k, .int .i64 x.a, .int .i64 x.t.k, .str x.t.s, .int .i64 x.t.n, .sl false 4<|FTs x.t.l, .sl false 4<|FTs x.l, .sl false 6<|FCs x.c]:List FV)=FI x)/\
        ∃u:Bool×List (List FV),AC Tryz.prog 46 [.c<|.a<|.osl 0 3 0 l.length,ci x.a, .agg [qf<|.bool true,qi g,qi e]] [.arz 3<|PRw l] (cb u.1) [.arz 3 u.2]/\
         br (x.k !=10) (∃o:Bool×List (List FV),AC Tryz.prog 46 [.c<|.a<|.osl 0 3 0 l.length,ci<|(a.length:Int)+1, .agg [qf<|.bool true,qi g,qi e]] [.arz 3 u.2] (cb o.1) [.arz 3 o.2]/\
           br u.1 (br (!o.1) (TV.Le (cb false) (cb<|y5 l a.length<|x::b)/\([]:List AObj)=[])<|RPt Tryz.prog 20 0 (cb<|y5 l a.length<|x::b) [] 1 ⟨evW l.length<|(a.length:Int)+1,[(0,obC c),(1, .arz 3 o.2)],2⟩) (TV.Le (cb false) (cb<|y5 l a.length<|x::b)/\([]:List AObj)=[]))
          (br (!u.1) (TV.Le (cb false) (cb<|y5 l a.length<|x::b)/\([]:List AObj)=[])<|RPt Tryz.prog 20 0 (cb<|y5 l a.length<|x::b) [] 1 ⟨evW l.length<|(a.length:Int)+1,[(0,obC c),(1, .arz 3 u.2)],2⟩))
       (br (x.k !=10) (∃o:Bool×List (List FV),AC Tryz.prog 46 [.c<|.a<|.osl 0 3 0 l.length,ci<|(a.length:Int)+1, .agg [qf<|.bool true,qi g,qi e]] [.arz 3<|PRw l] (cb o.1) [.arz 3 o.2]/\
         br (!o.1) (TV.Le (cb false) (cb<|y5 l a.length<|x::b)/\([]:List AObj)=[]) (RPt Tryz.prog 20 0 (cb<|y5 l a.length<|x::b) [] 1 ⟨evW l.length<|(a.length:Int)+1,[(0,obC c),(1, .arz 3 o.2)],2⟩))
        (RPt Tryz.prog 20 0 (cb<|y5 l a.length<|x::b) [] 1 ⟨evW l.length<|(a.length:Int)+1,[(0,obC c),(1, .arz 3<|PRw l)],2⟩))))):=by
   intro g e hp G Y;have O:aftR x.k (w,A)=((g,e),true,decide (g>=0)&&decide (e>=0)):=by unfold aftR;rw [r8 G,r8 Y,hp]
   rw [O] at f;simp only at f;refine za (λh=>d ?_) λh=>za (λh'=>d ?_) λh'=> ?_
   .have:=ro h;rw [f,sn<|by omega,rQ,ri rfl]
   .have:=ro h';rw [f,sn (show¬e>=0 by omega),s7,ri rfl]
   have h:=rg h;have h':=rg h';rw [sH<|by omega,sH<|by omega] at f;simp [tc,Bool.true_eq_false,rI] at f;have I:=aft_bd (k:=x.k) (p:=(w,A)) L.1 L.2 (by omega) (by rw [O,sH<|by omega,sH<|by omega];rfl);rw [O] at I;simp at I
   have go2:∀l1:List Pl,l1.length=l.length->(∀q∈l1,(0<=q.2.1/\q.2.1<=(a.length:Int)+1)/\0<=q.2.2/\q.2.2<=(a.length:Int)+1)->qo l a.length x.k x.a=yY l1 ((a.length:Int)+1) (g,e)->
     ∃o:Bool×List (List FV),AC Tryz.prog 46 [.c<|.a<|.osl 0 3 0 l.length,ci<|(a.length:Int)+1, .agg [qf<|.bool true,qi g,qi e]] [.arz 3<|PRw l1] (cb o.1) [.arz 3 o.2]/\
      br (!o.1) (TV.Le (cb false) (cb _)/\([]:List AObj)=[]) (RPt Tryz.prog 20 0 (cb _) [] 1 ⟨evW l.length<|(a.length:Int)+1,[(0,obC c),(1, .arz 3 o.2)],2⟩):=λl1 e1 X h4=>by
    have D:=XU l1 (a.length+1) (g,e);rw [e1,show ((a.length+1:Nat):Int)=(a.length:Int)+1 by omega] at D;refine ⟨(_,_),D,za (λh=>d ?_) λh=> ?_⟩
    .rw [h4];cases E:yY l1 ((a.length:Int)+1) (g,e) with
     |none=>rfl
     |some l2=>rw [E] at h;cases h
    .cases E:yY l1 ((a.length:Int)+1) (g,e) with
     |none=>rw [E] at h;cases h
     |some l2=>
      have Z:=hm1 l1 l2 _ _ I X E;exact next l2 (by rw [Z.1,e1]) Z.2 (by rw [h4,E])
   by_cases hk:x.k=9\/x.k=10
   .rw [ri hk] at f;have hxa:=ha x rn hk;obtain ⟨j,hj⟩:∃j:Nat,x.a=j:=⟨x.a.toNat,by omega⟩;have hc1:=XU l j (g,e);rw [<-hj] at hc1;have D:=XU ((yY l x.a (g,e)).getD l) (a.length+1) (g,e);rw [show ((a.length+1:Nat):Int)=(a.length:Int)+1 by omega] at D
    have T:((yY l x.a (g,e)).getD l).length=l.length:=by
     cases E:yY l x.a (g,e) with
     |none=>rfl
     |some l2=>exact (Zw E).1
    rw [T] at D
    have key:∃u:Bool×List (List FV),AC Tryz.prog 46 [.c<|.a<|.osl 0 3 0 l.length,ci x.a, .agg [qf<|.bool true,qi g,qi e]] [.arz 3<|PRw l] (cb u.1) [.arz 3 u.2]/\
              br (x.k !=10) (∃o:Bool×List (List FV),AC Tryz.prog 46 [.c<|.a<|.osl 0 3 0 l.length,ci<|(a.length:Int)+1, .agg [qf<|.bool true,qi g,qi e]] [.arz 3 u.2] (cb o.1) [.arz 3 o.2]/\
                br u.1 (br (!o.1) (TV.Le (cb false) (cb<|y5 l a.length<|x::b)/\([]:List AObj)=[])<|RPt Tryz.prog 20 0 (cb<|y5 l a.length<|x::b) [] 1 ⟨evW l.length<|(a.length:Int)+1,[(0,obC c),(1, .arz 3 o.2)],2⟩) (TV.Le (cb false) (cb<|y5 l a.length<|x::b)/\([]:List AObj)=[]))
               (br (!u.1) (TV.Le (cb false) (cb<|y5 l a.length<|x::b)/\([]:List AObj)=[])<|RPt Tryz.prog 20 0 (cb<|y5 l a.length<|x::b) [] 1 ⟨evW l.length<|(a.length:Int)+1,[(0,obC c),(1, .arz 3 u.2)],2⟩):=by
     refine ⟨(_,_),hc1, ?_⟩;cases E:yY l x.a (g,e) with
     |none=>
      rw [E] at f D;refine za (λ_=>⟨(_,_),D, ?_⟩) λ_=> ?_
      .exact d f
      .exact d f
     |some l2=>
      rw [E] at f D;simp at f;have Z:=hm1 l l2 _ _ I r E;refine za (λh6=> ?_) λh6=> ?_
      .rw [r8<|by simpa using h6] at f
       let ⟨z,q1,q2⟩:=go2 l2 Z.1 Z.2 f
       exact ⟨z,q1,q2⟩
      .rw [ri<|by simpa using h6] at f;exact next l2 Z.1 Z.2 f
    refine za (λ_=>⟨nd,key⟩) λh9=> ?_
    have W:(x.k==10)=true:=by
     rcases hk with h|h
     .rw [h] at h9;cases h9
     .rw [h];rfl
    exact za (λ_=>⟨nd,key⟩) (λq=>by rw [W] at q;cases q)
   .rw [r8 hk] at f;refine za (λq=>absurd (Or.inl<|by simpa using q) hk) (λ_=>za (λq=>absurd (Or.inr<|by simpa using q) hk) λW=>za (λ_=>go2 l rfl r f) λq=> ?_);rw [bne,W] at q;cases q
  have H:(x.k=3\/x.k=4)->br (w !=0) (TV.Le (cb false) (cb<|y5 l a.length<|x::b)/\([]:List AObj)=[]) (br (A !=0) (TV.Le _ _/\([]:List AObj)=[])<|RPt Tryz.prog 20 0 _ [] 1 ⟨evW l.length _,[(0,obC c),(1, .arz 3 _)],2⟩):=λh34=>by
   have O:aftR x.k (w,A)=((w,A),false,w==0&&A==0):=by unfold aftR;rw [ri h34]
   rw [O] at f;simp only at f;refine za (λh=>d ?_) λh=>za (λh'=>d ?_) λh'=>next l rfl r ?_
   .rw [f,show (w==0)=false by simpa using h];rfl
   .rw [f,show (A==0)=false by simpa using h',s7];rfl
   .rw [f,show (w==0)=true by simpa using h,show (A==0)=true by simpa using h'];rfl
  have w1:wrap .i64 (w+1)=w+1:=w64 (by omega) (by omega);have w2:wrap .i64 (w-1)=w-1:=w64 (by omega) (by omega);have w3:wrap .i64 (A+1)=A+1:=w64 (by omega) (by omega);have w4:wrap .i64 (A-1)=A-1:=w64 (by omega) (by omega);rw [w1,w2,w3,w4];have N:∀ {v:Int},(x.k==v)=true->x.k=v:=λh=>by simpa using h
  have F:∀ {v:Int},(x.k==v)=false->¬x.k=v:=λh=>by simpa using h
  refine za (λh4=>H<|.inr<|N h4) λn4=>za (λX=>H<|.inl<|N X) λn3=>za (λh8=> ?_) λY=> ?_
  .refine next l rfl r ?_;have O:aftR x.k (w,A)=((w,A),false,true):=by unfold aftR;rw [r8<|by rw [N h8];omega,ri<|N h8]
   rw [f,O];rfl
  have G:¬(x.k=3\/x.k=4):=λh=>h.elim (F n3)<|F n4
  refine za (λh=>C _ _ ?_ G<|F Y) λK=>za (λh=>C _ _ ?_ G<|F Y) λV=>za (λh=>C _ _ ?_ G<|F Y) λn14=>za (λh=>C _ _ ?_ G<|F Y) λn15=>C _ _ ?_ G<|F Y
  .rw [aftP,ri<|N h]
  .rw [aftP,r8<|F K,ri<|N h]
  .rw [aftP,r8<|F K,r8<|F V,ri<|N h]
  .rw [aftP,r8<|F K,r8<|F V,r8<|F n14,ri<|N h]
  .rw [aftP,r8<|F K,r8<|F V,r8<|F n14,r8<|F n15]
def c_rcways (c:Cd)(d:c.ins.length<=B)(b:0<c.ins.length)(i:∀x∈c.ins,x.k=9\/x.k=10->0<=x.a/\x.a<=B):AC Tryz.prog 20 [aC c] [] (cb<|YB c.ins) []:=by
 have h:=dg c d c.ins [] ((List.replicate c.ins.length (false,0,0)).set 0 (true,0,0)) rfl (by simp) i (λq f=>by
  rcases sM f with h|h
  .rw [(List.mem_replicate.1 h).2];simp
  .rw [h];simp)
 have e:PRw ((List.replicate c.ins.length (false,0,0)).set 0 (true,0,0))=List.set (List.replicate (Int.toNat<|((FIs c.ins).length)) [.bool false, .int .i64 0, .int .i64 0]) 0 (wv (List.getD (List.replicate (Int.toNat<|((FIs c.ins).length)) [.bool false, .int .i64 0, .int .i64 0]) 0 []) 0 [.bool true]):=by
  rw [<-cj,rt,zo];have:List.getD (List.replicate c.ins.length [FV.bool false, .int .i64 0, .int .i64 0]) 0 []=[.bool false, .int .i64 0, .int .i64 0]:=by simp [List.getD,b]
  rw [this];simp [PRw,pR,wv]
 rw [e] at h;simp [B] at d;refine acv (v20 ..) ?_;refine ⟨rfl,⟨rfl,by omega,rfl,by omega,by omega, ?_⟩,⟨by omega, ?_⟩,⟨?_, ?_⟩, ?_⟩
 .unfold zi;rw [rt,zo];omega
 .rw [rt,zo];omega
 .rw [List.length_replicate,rt,zo];exact b
 .rw [rt,zo];simp [List.getD,b]
 .have g:((List.replicate c.ins.length ((false,0,0):Pl)).set 0 (true,0,0)).length=Int.toNat (((FIs c.ins).length)):=by simp [zo]
  rw [g] at h;exact h
def el6 (l i)(b:0<=i)(e:i<l.length)(d):FV.L 6 (.sl false 6<|FCs l)=true/\0<=i/\i<(((FCs l).length):Int)/\(fCr<|FC d)=FC d:=⟨rfl,b,by rw [zq];exact e,qV d⟩
abbrev evFl (ok:Bool)(r:Nat)(i:Int):Env:=[(2, .c<|.a<|.ep 0 6 0 0),(5, .c<|.a<|.ep 1 8 0 0),(10,cb ok),(r,ci i)]
abbrev hpF (c:Cd)(x:In1):AHeap:=[(0,obC c),(1, .arr 8 [cIn x])]
def YF (c x)(o:x.c.length<=B):∀(b a) (ok),x.c=a++b->(∀d∈b,AC Tryz.prog 6 [aC d] [] (cb<|vC d) [])->
  RPt Tryz.prog 19 0 (cb<|ok&&vCs c.sl b) [] 7 ⟨evFl ok 23 a.length,hpF c x,2⟩
 |[],a,ok,f,ih=>by
  refine rpv (v19_7a ..) ?_;rw [vCs,sU];refine ⟨rfl,za (λh=>absurd (ro h) ?_) λ_=>zg rfl⟩;show¬a.length<(((FCs x.c).length):Int);rw [zq,f];simp
 |d::b,a,ok,f,ih=>by
  simp [B] at o;have p:a.length<x.c.length:=by rw [f];simp
  have r:=ih d rn;have e:List.getD (FV.ses<|.sl false 6<|FCs x.c) (Int.toNat a.length) []=FC d:=by rw [f];exact kR a d b
  have m:FV.I (List.getD (FC d) 2 FV.N)=d.fr:=by cases d;rw [FC];rfl
  have nd:=el6 x.c a.length (by omega) (by omega) d;have next:=λi=>YF c x (by simp [B];omega) b (a++ [d]) i (by rw [f];simp) λu v=>ih u<|rh _ v
  rw [nx] at next;refine rpv (v19_7a ..) ?_;rw [e,w64 (x:=a.length+1) (by omega)<|by omega,vCs];refine ⟨rfl,za (λ_=>za (λh=> ?_) λh=>zg<|by rw [h];rfl) λh=>absurd (rg h) ?_⟩
  .have g:ok=true:=by simpa using h
   subst g;refine ⟨nd,za (λq=> ?_) λq=> ?_⟩
   .rw [m] at q;rw [q,rO,rO];exact ⟨nd,_,by have j:=r;rw [<-(jy d)] at j;exact j,next _⟩
   .rw [m] at q;have n:=next false;rw [rQ] at n;rw [q,rQ,s7];exact n
  .show¬¬a.length<(((FCs x.c).length):Int);rw [zq];omega
def ZC (c x)(i:x.c.length<=B)(p:x.l.length<=B)(ih:∀d∈x.c,AC Tryz.prog 6 [aC d] [] (cb<|vC d) []):∀(b a) (ok),x.l=a++b->(∀t∈b,t.bk<=B/\bd 2305843009213693952 t)->
  RPt Tryz.prog 19 0 (cb<|ok&&(b.all (plB c.sl)&&vCs c.sl x.c)) [] 3 ⟨evFl ok 21 a.length,hpF c x,2⟩
 |[],a,ok,e,f=>by
  have n:=YF c x i x.c [] ok rfl ih;refine rpv (v19_3a ..) ?_;refine ⟨rfl,za (λh=>absurd (ro h) ?_) λ_=>n⟩;show¬a.length<(((FTs x.l).length):Int);rw [zb,e];simp
 |t::b,a,ok,e,f=>by
  simp [B] at p;have m:a.length<x.l.length:=by rw [e];simp
  have j:=f t rn;have o:=KE c.sl t j.1 j.2;have w:rE (List.getD (FV.ses<|.sl false 4<|FTs x.l) (Int.toNat a.length) [])=List.getD (FV.ses<|.sl false 4<|FTs x.l) (Int.toNat a.length) []:=by rw [e];exact u9 a t b
  have r:aE (List.getD (FV.ses<|.sl false 4<|FTs x.l) (Int.toNat a.length) [])=aT t:=by rw [e];exact kf a t b
  have next:=λg=>ZC c x i (by simp [B];omega) ih b (a++ [t]) g (by rw [e];simp) λu v=>f u<|rh _ v
  rw [nx] at next;refine rpv (v19_3a ..) ?_;rw [r,w64 (x:=a.length+1) (by omega)<|by omega,sj];refine ⟨rfl,za (λ_=>⟨⟨rfl,by omega,by show a.length<(((FTs x.l).length):Int);rw [zb];omega,w⟩,_,o,za (λh=> ?_) λh=> ?_⟩) λh=>absurd (rg h) ?_⟩
  .have n:=next (plB c.sl t);rw [h,rO,tv];exact n
  .have n:=next false;rw [rQ] at n;rw [h,rQ];exact n
  .show¬¬a.length<(((FTs x.l).length):Int);rw [zb];omega
abbrev ev96 (uA uT uL uC ok:Bool):Env:=[(2, .c<|.a<|.ep 0 6 0 0),(5, .c<|.a<|.ep 1 8 0 0),(6,cb uA),(7,cb uT),(8,cb uL),(9,cb uC),(10,cb ok)]
def gF (c:Cd)(x:In1)(uA uT uL uC ok:Bool):=(uA||x.a==0)&&((uC||x.c.isEmpty)&&((if uL=true then x.l.length==2 else x.l.isEmpty)&&(ok&&((if uT=true then plB c.sl x.t else vj x.t)&&(x.l.all (plB c.sl)&&vCs c.sl x.c)))))
def KH (c x)(w:x.c.length<=B)(y:x.l.length<=B)(u:x.t.bk<=B/\bd 2305843009213693952 x.t)(ih:∀d∈x.c,AC Tryz.prog 6 [aC d] [] (cb<|vC d) [])(z:∀t∈x.l,t.bk<=B/\bd 2305843009213693952 t)(j h p o ok):
  RPt Tryz.prog 19 0 (cb<|gF c x j h p o ok) [] 96 ⟨ev96 j h p o ok,hpF c x,2⟩:=by
 have n:=λv=>ZC c x w y ih x.l [] v rfl z;have b:=KE c.sl x.t u.1 u.2;have e:=d9 x.t;have g:decide (((x.c.length:Nat):Int)>0)= !x.c.isEmpty:=by cases x.c<;>simp
 have m:decide (((x.l.length:Nat):Int)>0)= !x.l.isEmpty:=by cases x.l<;>simp
 have f:(((x.l.length:Nat):Int) !=2)= !(x.l.length==2):=by rw [sZ];simp;omega
 refine rpv (v19_96a ..) ?_;unfold JC YE Yo YH ZI;simp only [FV.ses,zq,zb];rw [g,m,f,show (x.a !=0)= !(x.a==0) from rfl];unfold gF;generalize (x.l.all _&&vCs c.sl x.c)=R at*;generalize plB c.sl x.t=A at*;generalize vj x.t=E at*;generalize x.c.isEmpty=ce at*;generalize x.l.isEmpty=r at*;generalize (x.l.length==2)=l2 at*;generalize (x.a==0)=a0 at*;clear w y u ih z g m f
 repeat' (first|refine za (λ_=> ?_) (λ_=> ?_)|refine ⟨_,b, ?_⟩|refine ⟨_,e, ?_⟩|refine And.intro (by rfl) ?_|refine And.intro (by rfl) ?_|fail)
 all_goals first
  |(refine ⟨vS ?_,by trivial⟩;clear n b e;simp_all;done)
  |(have i:((j||a0)&&((o||ce)&&((if p=true then l2 else r)&&(ok&&((if h=true then A else E)&&R)))))=(A&&R):=(by clear n b e;simp_all);rw [i];exact n A)
  |(have i:((j||a0)&&((o||ce)&&((if p=true then l2 else r)&&(ok&&((if h=true then A else E)&&R)))))=(E&&R):=(by clear n b e;simp_all);rw [i];exact n E)
  |(have i:((j||a0)&&((o||ce)&&((if p=true then l2 else r)&&(ok&&((if h=true then A else E)&&R)))))=(false&&R):=(by clear n b e;simp_all);rw [i];exact n false)
  |(exfalso;clear n b e;simp_all;done)
def lL (t)(d:t.k=6->zj t=true):AC Tryz.prog 44 [aT t] [] (aSp<|zE t) []:=by
 by_cases b:t.k=6
 .have d:=d b
  let ⟨k,f,n,l⟩:=t
  simp [Tm.k] at b;subst b;obtain ⟨x,y,r,rfl,g,j⟩:=okB6 (wJ _ d) rfl;refine acv (v44 6 f n (FTs<|x::y::r) _ _) ?_;have i:List.drop 1 (List.take (Int.toNat<|((FTs<|x::y::r).length))<|FTs<|x::y::r)=FTs (y::r):=by rw [dk];rfl
  rw [i,zE,ri ⟨rfl,d⟩];refine bP ⟨el0 x<|y::r,rfl,⟨by omega,by rw [zb];simp [r6];omega,rk _⟩, ?_,rfl⟩;rw [show cE (List.getD (FTs<|x::y::r) 0 [])=cT x from cE_FT x];exact .refl _
 .have e:zE t=(t,[]):=by rw [zE,r8 λh=>b h.1]
  rw [e];refine acv (v44 ..) ?_;refine za (λh=>absurd (by simpa using h) b) λ_=>⟨iQ ⟨lwR _,lw1<|.a _ _<|.fz _ _ xL,trivial⟩,rfl⟩
set_option maxHeartbeats 2000000 in
def qB (c:Cd)(a b x)(E:c.ins=a++x::b)(u:c.ins.length<=B)(G:0<=c.fr+c.vs/\c.fr+c.vs<=B)(F:x.c.length<=B)(J:x.l.length<=B)(r:x.t.bk<=B/\bd 2305843009213693952 x.t)(p:x.t.k=6->zj x.t=true)(ih:∀d∈x.c,AC Tryz.prog 6 [aC d] [] (cb<|vC d) [])(v:∀t∈x.l,t.bk<=B/\bd 2305843009213693952 t):
  RPt Tryz.prog 19 0 (cb<|gF c x (useA x.k) (useT x.k) (x.k==5) (x.k==14)<|insB c.ar (c.fr+c.vs) c.sl c.ins.length a.length (vU a) x.k x.a x.t) [] 22 ⟨(1,ci a.length)::ev96 false false false false true,hpF c x,2⟩:=by
 simp only [B] at u G;have g:a.length<c.ins.length:=by rw [E];simp
 have n:=KH c x F J r ih v;have h:∀I z w D C ok,useA x.k=z->useT x.k=w->(x.k==5)=D->(x.k==14)=C->I=ok->RPt Tryz.prog 19 0 (cb<|gF c x (useA x.k) (useT x.k) (x.k==5) (x.k==14) I) [] 96 ⟨ev96 z w D C ok,hpF c x,2⟩:=λI z w D C ok A S N K L=>by rw [A,S,N,K,L];exact n z w D C ok
 have j:=lL x.t p;have o:=lw (zE x.t).1.s;have f:(((FIs c.ins).length))=c.ins.length:=by rw [zo]
 have M:((((FTs (zE x.t).2).length:Nat):Int)==2)=((zE x.t).2.length==2):=by rw [zb,sZ,rT,rT];omega
 refine rpv (v19_22a ..) ?_;unfold Ky KO Kl JL Ym YG Y8;rw [w64 (x:=c.fr+c.vs) (by omega)<|by omega];simp only [FV.ses,f,M];rcases tg a with m|⟨i,y,m⟩
 .subst m;have O:(decide ((([]:List In1).length:Int)>0))=false:=rfl;rw [O];simp only [insB,vU,List.getLast?_nil,Option.map_none,al,Wa,numB,nums]
  repeat' (first|refine za (λ_=> ?_) (λ_=> ?_)|refine ⟨_,j, ?_⟩|refine ⟨_,o, ?_⟩|refine And.intro (by rfl) ?_|refine And.intro (by rfl) ?_|refine And.intro (by rfl) ?_|fail)
  all_goals first
   |contradiction
   |(refine And.intro (vS ?_) True.intro;clear n h j o v ih p r;simp_all [useT,useA,gF]<;>omega)
   |(refine And.intro (vS ?_) rfl;clear n h j o v ih p r;simp_all [useT,useA,gF]<;>omega)
   |(refine h _ _ _ _ _ _ ?_ ?_ ?_ ?_ ?_<;>clear n h j o v ih p r<;>simp_all [useT,useA]<;>first|omega|(intros;omega))
 .have m:a=i++ [y]:=by simpa using m
  subst m;have A:(decide (((i++ [y]).length:Int)>0))=true:=by simp
  have H:List.getD (FIs c.ins) (Int.toNat<|wrap .i64<|((i++ [y]).length:Int)-1) []=FI y:=by
   have q:wrap .i64 (((i++ [y]).length:Int)-1)=(i.length:Int):=by
    simp only [re,rY] at g ⊢;rw [w64 (by omega)<|by omega];omega
   rw [q,E,sm];exact ul i y<|x::b
  have e:=el8 c.ins (wrap .i64<|((i++ [y]).length:Int)-1) (by
   simp [re,rY] at g ⊢;rw [w64 (by omega)<|by omega];omega) (by
   simp [re,rY] at g ⊢;rw [w64 (by omega)<|by omega];omega) y
  rw [A,H];simp only [FI0,FI1,FI2,FI3,FI4,FI5,FI6,FI7];rw [f] at e;simp only [insB,uN,al,Wa,numB,nums]
  repeat' (first|refine za (λ_=> ?_) (λ_=> ?_)|refine ⟨_,j, ?_⟩|refine ⟨_,o, ?_⟩|refine And.intro (by rfl) ?_|refine And.intro e ?_|refine And.intro (by rfl) ?_|refine And.intro (by rfl) ?_|fail)
  all_goals clear e H m E j o v ih p r f A g u G F J
  all_goals first
   |contradiction
   |(refine And.intro (vS ?_) True.intro;clear n h;simp_all [useT,useA,gF]<;>omega)
   |(refine And.intro (vS ?_) rfl;clear n h;simp_all [useT,useA,gF]<;>omega)
   |(refine h _ _ _ _ _ _ ?_ ?_ ?_ ?_ ?_<;>clear n h<;>simp_all [useT,useA]<;>first|omega|(intros;omega))
def ax (c a x):yU c a x=((vj x.t||zj x.t)&&gF c x (useA x.k) (useT x.k) (x.k==5) (x.k==14) (insB c.ar (c.fr+c.vs) c.sl c.ins.length a.length (vU a) x.k x.a x.t)):=by
 unfold yU fldB gF;generalize insB c.ar _ c.sl c.ins.length a.length _ x.k x.a x.t=I
 have e:(if x.k=5 then x.l.length==2 else x.l.isEmpty)=(if (x.k==5)=true then x.l.length==2 else x.l.isEmpty):=by
  by_cases h:x.k=5
  .rw [ri h,ri<|by rw [h];rfl]
  .rw [r8 h,r8<|by simpa using h]
 rw [e];generalize (if (x.k==5)=true then x.l.length==2 else x.l.isEmpty)=f
 generalize (if useT x.k=true then plB c.sl x.t else vj x.t)=d
 generalize (vj x.t||zj x.t)=EV;generalize vCs c.sl x.c=W;generalize x.l.all _=Ls;generalize (useA x.k||x.a==0)=u;generalize (x.k==14||x.c.isEmpty)=b;cases EV<;>cases I<;>cases u<;>cases b<;>cases f<;>cases d<;>cases Ls<;>cases W<;>rfl
def aQ (c:Cd)(a b x)(h:c.ins=a++x::b)(f:c.ins.length<=B)(r:0<=c.fr+c.vs/\c.fr+c.vs<=B)(p:x.c.length<=B)(v:x.l.length<=B)(m:x.t.bk<=B/\bd 2305843009213693952 x.t)(ih:∀d∈x.c,AC Tryz.prog 6 [aC d] [] (cb<|vC d) [])(w:∀t∈x.l,t.bk<=B/\bd 2305843009213693952 t):
  AC Tryz.prog 19 [aC c,ci a.length] [] (cb<|yU c a x) []:=by
 have y:a.length<c.ins.length:=by rw [h];simp
 have e:List.getD (FIs c.ins) (Int.toNat a.length) []=FI x:=by rw [h];exact ul a x b
 have g:=el8 c.ins a.length (by omega) (by omega) x;have A:=d9 x.t;have C:=bG x.t m.1;rw [ax];refine acv (v19 ..) ?_;rw [e,FI0,FI1,FI2,FI3,FI4,FI5,FI6,FI7];refine ⟨g,_,A,_,C,za (λj=>za (λo=>zg ?_) λo=> ?_) λj=> ?_⟩
 .rw [show vj x.t=false by simpa using j,show zj x.t=false by simpa using o];rfl
 .have u:zj x.t=true:=by simpa using o
  rw [u,tj,rO];exact qB c a b x h f r p v m (λ_=>u) ih w
 .have i:vj x.t=true:=by simpa using j
  rw [i,sV,rO];refine qB c a b x h f r p v m (λz=> ?_) ih w;unfold vj at i;rw [z] at i;cases i
def JP (c)(j:zC c)(v:nbC c)(p:0<=c.fr+c.vs/\c.fr+c.vs<=B)(ih:∀x∈c.ins,∀d∈x.c,AC Tryz.prog 6 [aC d] [] (cb<|vC d) [])(A:0<c.ins.length):∀(b a),c.ins=a++b->
  (∀x∈a,x.k=9\/x.k=10->0<=x.a/\x.a<=B)->
  RPt Tryz.prog 6 0 (cb<|vIs c.ar (c.fr+c.vs) c.sl c.ins.length a.length (vU a) b&&YB c.ins) [] 1 ⟨[(1, .c<|.a<|.ep 0 6 0 0),(3,ci c.ins.length),(7,ci a.length)],[(0,obC c)],1⟩
 |[],a,g,m=>by
  have i:=(qQ j).2.1;have o:=c_rcways c i A (λx u=>m x<|by rw [g] at u;simpa using u);refine rpv (v6_1a ..) ?_;refine za (λh=>absurd (ro h) ?_) (λ_=>⟨_,o,zg<|by rw [vIs];rfl⟩);rw [g];simp
 |x::b,a,g,m=>by
  have f:x∈c.ins:=by rw [g];simp
  have z:=ZD (qQ j).2.2 f;have z6:=Tm.szs_bks x.l;have F:=Tm.szs_length x.l;have E:=z.2.2.1;have r:=je (Wi v) f;have i:=(qQ j).2.1;have D:a.length<c.ins.length:=by rw [g];simp
  have o:=aQ c a b x g i p (by omega) (by omega) ⟨z.1,r.1⟩ (ih x f) (λt w=>⟨by have:=Tm.bks_mem w;omega,r.2.1 t w⟩)
  have ev:vIs c.ar (c.fr+c.vs) c.sl c.ins.length a.length (vU a) (x::b)=(yU c a x&&vIs c.ar (c.fr+c.vs) c.sl c.ins.length (a.length+1) (some (x.k,x.a)) b):=by
   cases x;rw [vIs,yU,tv];rfl
  rw [ev];simp [B] at i;refine rpv (v6_1a ..) ?_;rw [w64 (x:=a.length+1) (by omega)<|by omega];refine za (λ_=>⟨_,o,za (λh=>zg ?_) λh=> ?_⟩) (λh=>absurd (rg h)<|by omega)
  .rw [show yU c a x=false by simpa using h];rfl
  .have e:yU c a x=true:=by simpa using h
   have:=JP c j v p ih A b (a++ [x]) (by rw [g];simp) (λy hy C=>by
    rcases rS.1 hy with hy|hy
    .exact m y hy C
    .have hy:y=x:=by simpa using hy
     subst hy
     have:insB c.ar (c.fr+c.vs) c.sl c.ins.length a.length (vU a) y.k y.a y.t=true:=by
      unfold yU fldB at e;simp [rf] at e;exact e.1.2.1
     unfold insB at this;rw [r8<|by omega,r8<|by omega,r8<|by omega,ri C] at this;have:=ro this;simp [B];omega)
   rw [nx,uN] at this;rw [e,rO];exact this
def aD:∀c,zC c->nbC c->AC Tryz.prog 6 [aC c] [] (cb<|vC c) []:=by
 refine Cd.ind λc ih F E=> ?_;have r:=qQ F;have I:=r.2.1;simp [B] at I;have ih':=λx i d hd=>ih x i d hd (fA (ZD r.2.2 i).2.2.2 hd)<|WK (je (Wi E) i).2.2 hd
 have H:=nu c.nm r.1;have K:=c_rcnums c;have eV:vC c=(nmB c.nm&&(cntB c.ar c.fr c.vs c.sl&&(XR c.ins&&(vIs c.ar (c.fr+c.vs) c.sl c.ins.length 0 none c.ins&&YB c.ins)))):=by cases c;rw [vC];rfl
 have e:(((FIs c.ins).length))=c.ins.length:=by rw [zo]
 rw [eV];refine acv (v6 ..) ?_;rw [e];refine ⟨rfl,_,H,_,K,za (λh=>zg<|by rw [show nmB c.nm=false by simpa using h];rfl) λJ=>za (λh=>zg<|by rw [show cntB c.ar c.fr c.vs c.sl=false by simpa using h,rQ,s7]) λL=>za (λh=>zg ?_) λh=> ?_⟩
 .have:c.ins.length=0:=by have:c.ins.length=0:=by simpa using h
                          omega
  rw [dY this,rQ,s7,s7]
 have h0:0<c.ins.length:=by have:¬c.ins.length=0:=by simpa using h
                            omega
 have b:cntB c.ar c.fr c.vs c.sl=true:=by simpa using L
 have M:=ro b;have u:=JP c F E (by simp [B];omega) ih' h0 c.ins [] rfl (λx i=>by cases i)
 obtain ⟨y,g,G,m,D,p,v⟩:∃y g,c.ins=g++ [y]/\XR c.ins=(y.k==3||y.k==4||y.k==8)/\List.getD (FIs c.ins) (Int.toNat<|wrap .i64<|c.ins.length-1) []=FI y/\0<=wrap .i64 (c.ins.length-1)/\wrap .i64 (c.ins.length-1)<c.ins.length:=by
  rcases tg c.ins with h|⟨g,y,h⟩
  .rw [h] at h0;cases h0
  .have h:c.ins=g++ [y]:=by simpa using h
   rw [w64 (by omega)<|by omega];refine ⟨y,g,h,by rw [h];simp [XR], ?_,by omega,by omega⟩;rw [show (c.ins.length:Int)-1=g.length by rw [h];simp,h];exact ul g y []
 have f:=el8 c.ins _ p v y;rw [e] at f;rw [D,FI0,FI1,FI2,FI3,FI4,FI5,FI6,FI7,show nmB c.nm=true by simpa using J,b,m,rO,rO]
 have j:(y.k==3||y.k==4||y.k==8)=true->RPt Tryz.prog 6 0 (cb<|(y.k==3||y.k==4||y.k==8)&&(vIs c.ar (c.fr+c.vs) c.sl c.ins.length 0 none c.ins&&YB c.ins)) [] 1 ⟨[(1, .c<|.a<|.ep 0 6 0 0),(3,ci c.ins.length),(7,ci 0)],[(0,obC c)],1⟩:=λq=>by
  rw [q,rO];exact u
 refine ⟨f,za (λz=>za (λo=>za (λw=>zg ?_) λw=>j ?_) λo=>j ?_) λz=>j ?_⟩
 .rw [show (y.k==3)=false by simpa using o,show (y.k==4)=false by simpa using z,show (y.k==8)=false by simpa using w];rfl
 .rw [show (y.k==8)=true by simpa using w];simp
 .rw [show (y.k==3)=true by simpa using o];simp
 .rw [show (y.k==4)=true by simpa using z];simp
def Kv (c)(h:c.sz<=B)(b:nbC c):AC Tryz.prog 6 [aC c] [] (cb<|vC c) []:=aD c (zC_of c h) b
def cndW (L:List Pl)(j:Nat)(x:In1)(p:Int×Int):=
 (x.k=3\/x.k=4->p=(0,0))/\(x.k≠3->x.k≠4->x.k≠8->0<=(aftP x.k p).2/\(x.k=9\/x.k=10->L[x.a.toNat]? =some (true,aftP x.k p))/\(x.k≠10->L[j+1]? =some (true,aftP x.k p)))
def Wy {l l' i p}(g:0<=i)(h:yY l i p=some l'):l'.length=l.length/\l'[i.toNat]? =some (true,p)/\(∀(j:Nat) q,l[j]? =some (true,q)->l'[j]? =some (true,q))/\∀j,j≠i.toNat->l'[j]? =l[j]? :=by
 unfold yY at h;split at h
 .rename_i f;have f:i.toNat<l.length:=by omega
  split at h
  .rename_i d;injection h with h
   subst h;refine ⟨by simp,by simp [f],λj q b=> ?_,λj b=>by rw [List.getElem?_set_ne<|Ne.symm b]⟩;by_cases e:i.toNat=j
   .subst e;rw [List.getD,b] at d;cases d
   .rw [List.getElem?_set_ne e];exact b
  .split at h
   .rename_i d;injection h with h
    subst h;refine ⟨rfl, ?_,λj q b=>b,λj b=>rfl⟩;rw [List.getD,rj f] at d;rw [rj f];exact si some d
   .cases h
 .cases h
def step_ext {l l'}{i:Nat}{x}(C:x.k=9\/x.k=10->(i:Int)<x.a)(h:qo l i x.k x.a=some l'):
  l'.length=l.length/\(∀(j:Nat) q,l[j]? =some (true,q)->l'[j]? =some (true,q))/\(∀j,j<=i->l'[j]? =l[j]?)/\∀p,l[i]? =some (true,p)->cndW l' i x p:=by
 unfold qo at h;rw [rt] at h;have i1:((i:Int)+1).toNat=i+1:=by omega
 split at h
 .rename_i y;injection h with h
  subst h;exact ⟨rfl,λ_ _ h=>h,λ_ _=>rfl,λp b=>by rw [List.getD,b] at y;cases y⟩
 .rename_i J;have o:∀p,l[i]? =some (true,p)->(l.getD i (false,0,0)).2=p:=λp b=>by rw [List.getD,b];rfl
  split at h
  .rename_i e;split at h
   .rename_i H;injection h with h
    subst h;exact ⟨rfl,λ_ _ h=>h,λ_ _=>rfl,λp b=>⟨λ_=>by rw [<-o p b];exact H,λE G _=>absurd e<|by simp [E,G]⟩⟩
   .cases h
  .rename_i e;split at h
   .rename_i I;injection h with h
    subst h;exact ⟨rfl,λ_ _ h=>h,λ_ _=>rfl,λp b=>⟨λh=>absurd h e,λ_ _ h=>absurd I h⟩⟩
   .split at h
    .cases h
    .rename_i w;split at h
     .rename_i f;split at h
      .cases h
      .rename_i l1 F;have C:=C f
       let ⟨D,r,z,A⟩:=Wy (by omega) F
       split at h
       .rename_i u;injection h with h
        subst h;exact ⟨D,z,λj f=>A j<|by omega,λp b=>⟨λh=>absurd h e,λ_ _ _=>by rw [o p b] at w r;exact ⟨by omega,λ_=>r,λh=>absurd u h⟩⟩⟩
       .let ⟨v,d,m,g⟩:=Wy (by omega) h
        rw [i1] at d g;exact ⟨v.trans D,λj q h=>m j q<|z j q h,λj f=>by rw [g j<|by omega,A j<|by omega],λp b=>⟨λh=>absurd h e,λ_ _ _=>by rw [o p b] at w r d;exact ⟨by omega,λ_=>m _ _ r,λ_=>d⟩⟩⟩
     .rename_i f
      let ⟨v,d,m,g⟩:=Wy (by omega) h
      rw [i1] at d g;exact ⟨v,m,λj f=>g j<|by omega,λp b=>⟨λh=>absurd h e,λ_ _ _=>by rw [o p b] at w d;exact ⟨by omega,λh=>absurd h f,λ_=>d⟩⟩⟩
def cL (ins:List In1)(A:∀(j:Nat) x,ins[j]? =some x->x.k=9\/x.k=10->j<x.a):∀(r) (i) (l),(∀n:Nat,r[n]? =ins[i+n]?)->l.length=ins.length->y5 l i r=true->
  ∃L:List Pl,L.length=ins.length/\(∀(j:Nat) q,l[j]? =some (true,q)->L[j]? =some (true,q))/\(∀j,j<i->L[j]? =l[j]?)/\∀(j) (x) (p),i<=j->ins[j]? =some x->L[j]? =some (true,p)->cndW L j x p
 |[],i,l,g,v,_=>⟨l,v,λ_ _ h=>h,λ_ _=>rfl,λj x p o f _=>by have:=g (j-i);rw [show i+(j-i)=j by omega,f] at this;simp at this⟩
 |x::r,i,l,g,v,d=>by
  rw [y5] at d;have f:ins[i]? =some x:=by have:=g 0;simpa using this.symm
  split at d
  .cases d
  .rename_i l' I
   let ⟨H,N,w,E⟩:=step_ext (A i x f) I
   let ⟨L,C,m,z,J⟩:=cL ins A r (i+1) l' (λn=>by have:=g (n+1);rw [sN] at this;rw [this];congr 1;omega) (H.trans v) d
   refine ⟨L,C,λj q h=>m j q<|N j q h,λj h=>by rw [z j<|by omega,w j<|by omega],λj y p o b u=> ?_⟩;by_cases e:j=i
   .subst e;rw [f] at b;injection b with b;subst b
    rw [z j<|by omega,w j<|r9 _] at u
    let ⟨F,K⟩:=E p u
    exact ⟨F,λD G M=>let ⟨d1,d2,d3⟩:=K D G M;⟨d1,λh=>m _ _<|d2 h,λh=>m _ _<|d3 h⟩⟩
   .exact J j y p (by omega) b u
def Wt (c:Cd)(L:List Pl):Prop:=L.length=c.ins.length/\∀(j:Nat) (x:In1) (p:Int×Int),c.ins[j]? =some x->L[j]? =some (true,p)->cndW L j x p
def vIs_at {ar i sl N:Int}:∀(l:List In1) (b:Int) (d:Option<|Int×Int),vIs ar i sl N b d l=true->∀(j:Nat) (x:In1),l[j]? =some x->
  ∃w,fldB ar i sl N (b+j) w x.k x.a x.t x.l x.c.isEmpty=true/\(j=0->w=d)/\(∀y,0<j->l[j-1]? =some y->w=some (y.k,y.a))
 |[],_,_,_,_,_,h=>by simp at h
 |.mk k a t l c::r,b,d,e,j,x,g=>by
  rw [vIs] at e;simp only [rf] at e;cases j with
  |zero=>
   simp at g;subst g;exact ⟨d,by rw [show b+((0:Nat):Int)=b by omega];exact e.1,λ_=>rfl,λy h=>absurd h<|by omega⟩
  |succ j=>
   obtain ⟨w,o,m,p⟩:=vIs_at r (b+1) (some (k,a)) e.2.2 j x (by simpa using g);refine ⟨w,by rw [show b+((j+1:Nat):Int)=b+1+(j:Int) by omega];exact o,λh=>absurd h<|by omega,λy _ f=> ?_⟩;cases j with
   |zero=>rw [m rfl];simp at f;subst f;rfl
   |succ j=>exact p y (by omega) (by simpa using f)
def vC_eq {c}(h:vC c=true):cntB c.ar c.fr c.vs c.sl=true/\XR c.ins=true/\vIs c.ar (c.fr+c.vs) c.sl c.ins.length 0 none c.ins=true/\YB c.ins=true:=by
 let ⟨nm,ar,fr,vs,sl,ins⟩:=c
 rw [vC] at h;simp [rf] at h;exact h.2
def vC_at {c:Cd}(h:vC c=true){j:Nat}{x:In1}(b:c.ins[j]? =some x):
  ∃w,fldB c.ar (c.fr+c.vs) c.sl c.ins.length j w x.k x.a x.t x.l x.c.isEmpty=true/\(j=0->w=none)/\(∀y,0<j->c.ins[j-1]? =some y->w=some (y.k,y.a)):=by
 obtain ⟨w,e,d⟩:=vIs_at c.ins 0 none (vC_eq h).2.2.1 j x b;exact ⟨w,by simpa using e,d⟩
def gk {ar e sl n b d k a t l c}(h:fldB ar e sl n b d k a t l c=true):insB ar e sl n b d k a t=true:=by
 unfold fldB at h;simp [rf] at h;exact h.2.1
def headK (k:Int):=k==0||k==1
def cO {c:Cd}(h:vC c=true):∀(j i:Nat) (x y:In1),i<=j->c.ins[j]? =some x->c.ins[i]? =some y->headK x.k=true->headK y.k=true
 |0,i,x,y,r,d,b,f=>by
  obtain rfl:i=0:=by omega
  rw [d] at b;injection b with b;rw [<-b];exact f
 |j+1,i,x,y,r,d,b,f=>by
  by_cases e:i=j+1
  .subst e;rw [d] at b;injection b with b;rw [<-b];exact f
  .obtain ⟨w,o,_,p⟩:=vC_at h d;have z:j<c.ins.length:=by have:=(rr.1 d).1;omega
   have u:c.ins[j]? =some c.ins[j]:=rj z;have m:=p c.ins[j] (by omega) (by simp);subst m;have g:=gk o;have v:x.k=0\/x.k=1:=by simpa [headK] using f
   rw [insB,ri v] at g;simp only [rf] at g;exact cO h j i c.ins[j] y (by omega) u b (by simpa [headK] using g.2.2.1)
def code_tab {c}(h:vC c=true):0<c.ins.length/\∃L,Wt c L/\L[0]? =some (true,0,0):=by
 let ⟨_,f,v,g⟩:=vC_eq h
 have d:0<c.ins.length:=by
  cases e:c.ins with
  |nil=>rw [e] at f;cases f
  |cons=>simp
 let ⟨L,o,r,u,m⟩:=cL c.ins (λj x i hk=>by
  let ⟨w,b,_⟩:=vC_at h i
  have b:=gk b;rcases hk with hk|hk<;>unfold insB at b<;>rw [hk] at b<;>simp at b<;>omega) c.ins 0 _ (λn=>by simp) (by simp) g
 exact ⟨d,L,⟨o,λj x p=>m j x p<|sQ _⟩,r 0 _<|by simp [d]⟩
abbrev aIv (v:Iv):TV:= .agg [.a<|.ep 0 3 0 0,qi v.x,qi v.lv,qf<|.sl false 4<|FTs v.l]
abbrev obIv (v:Iv):AObj:= .arr 4 [[.a<|.ep 0 3 0 0,qi v.x,qi v.lv,qf<|.sl false 4<|FTs v.l]]
abbrev zT4:AObj:= .arr 4 [[qi 0,qf<|.str [],qi 0,qf .N]]
abbrev tTB (x:Tm×Bool):TV:= .tup [(true,cT x.1),(false,[qf<|.bool x.2])]
abbrev wkI (w:Wp)(n:Nat)(R:List<|List FV):AHeap:=[(0,wk3 1 6 w.f n),(1,hp6 2 3 4 5 w.s),(2, .arz 5<|CR w.s.C),(3, .arz 7<|TR w.s.T),(4, .arz 1<|NR w.s.N),(5, .mapz<|NM w.s.N 0),(6, .arz 2 R)]
def bR (v:Iv)(t out:Tm)(k:Int)(b:List Tm):Tm×Bool:=
 match ixZ out b with
 |some r=>(bndT<|k+r,true)
 |none=>(t,t.k==1&&decide (t.n<=v.lv))
def dG (v t f k w n R)(i:0<=k)(j:k<=1000000000)(G:v.l.length<=1000000000):∀(b d),v.l=d++b->
  RPt Tryz.prog 251 7 (tTB<|bR v t f k b) (oWk w n R) 1 ⟨[(2,ci k),(3, .c<|.a<|.ep 7 4 0 0),(4, .c<|.a<|.ep 8 4 0 0),(6, .c<|.a<|.ep 9 4 0 0),(8, .c<|.a<|.ep 10 4 0 0),(31,aL v.l),(32,ci v.l.length),(33,ci d.length)],wkI w n R++ [(7,obIv v),(8, .arr 4 [cT t]),(9,zT4),(10, .arr 4 [cT f])],11⟩
 |[],d,g=>by
  rw [rF] at g;have e:bR v t f k []=(t,t.k==1&&decide _):=rfl;rw [e]
  let ⟨m,F,r,D⟩:=t
  let ⟨ok,E,on,y⟩:=f
  refine rpv (pI ..) ?_;refine bF (by rw [g];omega)<|za (λh=> ?_) λh=> ?_
  .have h:(m==1)=true:=h;simp [Tm.k,Tm.n];rw [h,rO];exact rrl
  .have h:(m==1)=false:=h;simp [Tm.k,Tm.n];rw [h,rQ];exact rrl
 |u::b,d,g=>by
  have ih:=dG v t f k w n R i j G b (d++ [u]) (by rw [g];simp);rw [show (((d++ [u]).length))=d.length+1 by simp] at ih;have o:v.l.length=d.length+(b.length+1):=by rw [g];simp
  have C:List.getD (FTs v.l) (Int.toNat d.length) []=FT u:=by rw [g];exact midI d u b
  have A:(d.length)<(((FTs v.l).length):Int):=by rw [zb];omega
  have z:=gS u f;have H:=jv<|k+b.length
  have e:bR v t f k (u::b)=if lfZ u f=true then (bndT<|k+b.length,true) else bR v t f k b:=by
   unfold bR;rw [ixZ];cases lfZ u f<;>rfl
  rw [e];generalize lfZ u f=c at*
  have p:wrap .i64 (wrap .i64 (wrap .i64 (k+(((FTs v.l).length)))-1)-d.length)=k+b.length:=by
   rw [zb,w64 (x:=k+v.l.length) (by omega)<|by omega,w64 (x:=k+v.l.length-1) (by omega)<|by omega,w64 (by omega)<|by omega];omega
  let ⟨m,F,r,D⟩:=t
  let ⟨ok,E,on,y⟩:=f
  refine rpv (pI ..) ?_;rw [C,p,w64 (x:=d.length+1) (by omega)<|by omega];refine za (λ_=>⟨⟨rfl,by omega,A,ju u⟩,c,by rw [jc];exact z,za (λh=> ?_) λh=> ?_⟩) (λh=>absurd (rg h)<|by omega)
  .rw [ri h];exact ⟨rfl,_,H, .refl _,rfl⟩
  .rw [r8<|by rw [h];simp];exact ih
def WN (v t k w n R)(o:0<=k)(r:k<=1000000000)(u:v.l.length<=1000000000):AC Tryz.prog 251 [aIv v,aT t,ci k] (oWk w n R) (tTB<|wG v t k) (oWk w n R):=by
 have b:=dG v t (outZ t k) k w n R o r u v.l [] rfl;have e:wG v t k=if t.k=3/\t.n<k then (t,true) else bR v t _ k v.l:=rfl
 rw [e]
 let ⟨m,j,g,i⟩:=t
 refine acv (v251 v.x v.lv _ m j g _ k ..) ?_;unfold w251_0;rw [zb];refine zl (λd=>za (λf=> ?_) λf=>zl (λ_=>⟨rfl, ?_⟩) λh=>absurd d h) λd=>zl (λh=>absurd h d) λ_=>⟨rfl, ?_⟩
 .have f:=ro f;rw [ri ⟨d,f⟩];exact rrl
 .have f:=rg f;rw [r8 λq=>f q.2];have p:outZ (.mk m j g i) k= .mk m j _ i:=ri d;rw [p] at b ⊢;exact b
 .rw [r8 λq=>d q.1];have p:outZ (.mk m j g i) k= .mk m j g i:=r8 d;rw [p] at b ⊢;exact b
def c_wrigid (v x k w n R)(b:0<=k)(d:k<=1000000000)(h:v.l.length<=1000000000):AC Tryz.prog 250 [aIv v,aSd x,ci k] (oWk w n R) (tTB<|vl v w.s.N x k) (oWk w n R):=by
 have o:=Wu w.s x.c.a;have i:=(WN v _ k w n R b d h).args (args:=[aIv v, .agg [qi 1,qf<|.str [],qi x.c.a,qf .N],ci k]) ⟨.refl _,leT xL, .refl _,trivial⟩;have m:=WN v (bndT x.c.a) k w n R b d h;have j:=jv x.c.a
 have e:vl v w.s.N x k=if x.c.t=0 then (.mk 0 _ 0 [],true) else if x.c.t=2 then (.mk 2 [] x.c.a [],true)
  else if x.c.t=1 then wG v _ k else wG v _ k:=rfl
 rw [e];refine acv (v250 v.x v.lv _ ..) ?_;refine zl (λe0=>⟨_,o, ?_⟩) λe0=>zl (λf=> ?_) λf=>zl (λg=>⟨_,i, ?_⟩) λg=>⟨_,j,_,m, ?_⟩
 .rw [ri e0];exact ⟨leTB (l:=[]) xL,rfl⟩
 .rw [r8 e0,ri f];exact ⟨leTB (l:=[]) xL,rfl⟩
 .rw [r8 e0,r8 f,ri g];exact rrl
 .rw [r8 e0,r8 f,r8 g];exact rrl
abbrev fxW (v:Iv)(y:Sd)(w:Wp)(n:Nat)(R:List<|List FV):=wkH w n R++ [(11,obIv v),(12, .arr 7 [[qi y.h,qf<|.sl false 1<|IR y.js,qi y.c.t,qi y.c.a,qi y.c.b,qi y.c.c,qi y.c.d]]),(13,zT4)]
abbrev fxT (v:Iv)(y:Sd)(w:Wp)(n:Nat)(R:List<|List FV)(k:Int)(ls on im l:List Tm)(a b c:Nat)(j:Int):St:=
 if on=[] then ⟨[(2,ci k),(3, .c<|.a<|.ep 11 4 0 0),(4, .c<|.a<|.ep 12 7 0 0),(6, .c<|.a<|.ep 13 4 0 0),(8,aL ls),(10,ci y.c.a),(11, .c<|qf .N),(12, .c<|qf .N),(a,aL l),(b,ci l.length),(c,ci j)],fxW v y w n R,14⟩
 else ⟨[(2,ci k),(3, .c<|.a<|.ep 11 4 0 0),(4, .c<|.a<|.ep 12 7 0 0),(6, .c<|.a<|.ep 13 4 0 0),(8,aL ls),(10,ci y.c.a),(11, .c<|.a<|.osl 14 4 0 on.length),(12, .c<|.a<|.osl 15 4 0 im.length),(a,aL l),(b,ci l.length),(c,ci j)],fxW v y w n R++ [(14, .arz 4<|FTs on),(15, .arz 4<|FTs im)],16⟩
def leNs:TV.Le (.c<|qf .N) (aL []):= .c _ _<|.a _ _<|.fz _ _ xL
abbrev hgZ (v:Iv)(y:Sd)(w:Wp)(m:Nat)(on im:List Tm):(Tm×Int)×Wp:=
 ((zt (w8 w y.h (zH [v.lv,y.c.a]) m on).1.1 im,(w8 w y.h (zH [v.lv,y.c.a]) m on).1.2),(w8 w y.h (zH [v.lv,y.c.a]) m on).2)
def fU (K)(Y:K<=100000000000)(v y w n R)(ok:OkW K w)(k)(E:0<=k)(M:k<=1000000000)(ls)(D:ls.length<=10000000)(hl:v.l.length<=10000000)(hv:ones v.l):
  ∀(b d on g),v.l=d++b->on.length=g.length->ones on->ones g->on.length+b.length<=100000000->
  RPt Tryz.prog 249 7 (tTE (hgZ v y w ls.length (on++(im2 y.c.a v.lv k b).1)<|g++(im2 y.c.a v.lv k b).2).1) (oWk' (hgZ v y w ls.length (on++(im2 y.c.a v.lv k b).1)<|g++(im2 y.c.a v.lv k b).2).2 n R) 5 (fxT v y w n R k ls on g v.l 86 87 88 d.length)
 |[],d,on,g,j,A,o1,G,C=>by
  rw [rF] at j;have e1:(im2 y.c.a v.lv k []).1=[]:=rfl;have e2:(im2 y.c.a v.lv k []).2=[]:=rfl;rw [e1,e2,rF,rF];simp [rv] at C;have F:=i6 K Y w n R ok y.h (zH [v.lv,y.c.a]) ls.length on (by omega) (by rw [jl o1];omega);have L:=hangW_sz w y.h (zH [v.lv,y.c.a]) ls.length on;unfold hgZ;generalize w8 w y.h (zH [v.lv,y.c.a]) ls.length on=z at*
  let ⟨⟨t,e⟩,u⟩:=z
  dsimp only at L F ⊢;have hll:t.l.length<=1:=by have:=t.sz_eq;have:=Tm.szs_length t.l;omega
  have U:=vI t g (by omega);unfold fxT;by_cases r:on=[]
  .subst r;have:g=[]:=ru A.symm;subst this;rw [ri rfl];refine rpv (o8 ..) ?_;refine bF (by rw [j];omega) ⟨rfl, ?_⟩;rw [zb];exact ⟨(t,e,⟨u.s,u.f,n,R⟩),F.args ⟨.refl _, .refl _, .refl _, .refl _,leNs,trivial⟩,_,U.args ⟨.refl _,leNs,trivial⟩, .refl _,rfl⟩
  .rw [r8 r];refine rpv (nX ..) ?_;refine bF (by rw [j];omega) ⟨rfl,⟨rfl,by rw [zb];omega⟩, ?_⟩;rw [zb,rR,rp (l:=FTs on)<|by rw [zb];exact r9 _,rR,rp (l:=FTs g)<|by rw [zb];exact r9 _];exact ⟨(t,e,⟨u.s,u.f,n,R⟩),F,⟨rfl,by rw [zb];omega⟩,_,U, .refl _,rfl⟩
 |t::b,d,on,g,j,A,o1,G,C=>by
  have X:v.l.length=d.length+(b.length+1):=by rw [j];simp
  have em:List.getD (FTs v.l) (Int.toNat d.length) []=FT t:=by rw [j];exact midI d t b
  have H:(d.length)<(((FTs v.l).length:Nat):Int):=by rw [zb];omega
  have T:FV.I (List.getD (FT t) 0 FV.N)=t.k:=by cases t;rfl
  have V:FV.I (List.getD (FT t) 2 FV.N)=t.n:=by cases t;rfl
  have t1:t.sz=1/\t.k≠2:=hv t (by rw [j];simp);simp [r6] at C;have hb:=jv<|k+(b.length:Int)
  have S:wrap .i64 (wrap .i64 (wrap .i64 (k+(((FTs v.l).length)))-1)-d.length)=k+b.length:=by
   rw [zb,w64 (x:=k+v.l.length) (by omega)<|by omega,w64 (x:=k+v.l.length-1) (by omega)<|by omega,w64 (by omega)<|by omega];omega
  have nx:=λ(J N) O I H h4=>fU K Y v y w n R ok k E M ls D hl hv b (d++ [t]) J N (by rw [j];simp) O I H h4;rw [show (((d++ [t]).length))=(d.length:Int)+1 by simp] at nx;have i1:y.c.a>v.lv/\t.k=1/\t.n<=y.c.a->(im2 y.c.a v.lv k<|t::b).1=t::(im2 y.c.a v.lv k b).1/\(im2 y.c.a v.lv k<|t::b).2=bndT (k+(b.length:Int))::(im2 y.c.a v.lv k b).2:=λh=>by rw [im2,ri h];exact ⟨rfl,rfl⟩
  have i2:¬(y.c.a>v.lv/\t.k=1/\t.n<=y.c.a)->im2 y.c.a v.lv k (t::b)=im2 y.c.a v.lv k b:=λh=>by rw [im2,r8 h]
  have m:∀(l:List Tm) (u:Tm),ones l->(u.sz=1/\u.k≠2)->ones (l++ [u]):=λl u O I=>kT O (λx hx=>by rw [rM.1 hx];exact I)
  have skip:¬(y.c.a>v.lv/\t.k=1/\t.n<=y.c.a)->RPt Tryz.prog 249 7 (tTE (hgZ v y w ls.length (on++(im2 y.c.a v.lv k _).1)<|g++(im2 y.c.a v.lv k _).2).1) (oWk' (hgZ v y w ls.length (on++(im2 y.c.a v.lv k _).1)<|g++(im2 y.c.a v.lv k _).2).2 n R) 5 _:=λh=>by
   rw [i2 h];exact nx on g A o1 G (by omega)
  have i:y.c.a>v.lv/\t.k=1/\t.n<=y.c.a->RPt Tryz.prog 249 7 _ _ 5 (fxT v y w n R k ls _ (g++ [bndT<|k+b.length]) v.l 86 87 88<|d.length+1):=λh=>by
   let ⟨a1,a2⟩:=i1 h
   have:=nx _ (g++ [bndT<|k+b.length]) (by simp [A]) (m _ _ o1 t1) (m _ _ G ⟨rfl,by show (3:Int)≠2;decide⟩) (by simp [re,r6,rv];omega);rw [sm,sm,List.singleton_append,List.singleton_append,<-a1,<-a2] at this;exact this
  generalize hgZ v y w ls.length (on++(im2 y.c.a v.lv k _).1) (g++(im2 y.c.a v.lv k _).2)=Z at*;have W:FV.L 4 (.sl false 4<|FTs v.l)=true/\((0:Int)<=(d.length:Int)/\(((d.length:Int)<(((FTs v.l).length)))/\((rE<|FT t)=FT t))):=⟨rfl,by omega,H,ju t⟩;clear nx i1 i2;unfold fxT at skip i ⊢;rw [r8<|Zc on t] at i;by_cases r:on=[]
  .subst r;have:g=[]:=ru A.symm;subst this;rw [ri rfl] at skip ⊢;refine rpv (o8 ..) ?_;rw [em,T,V,w64 (x:=(d.length:Int)+1) (by omega)<|by omega,S];refine za (λ_=>⟨W,za (λp=>zl (λo=>za (λc3=>⟨r9 _,vk<|by omega,rfl,_,hb,r9 _,vk<|by omega, ?_⟩) λc3=>skip λq=>rg c3 q.2.2) λo=>skip λq=>o q.2.1) λp=>skip λq=>rg p q.1⟩) (λh=>absurd (rg h)<|by omega);rw [ju];exact i ⟨ro p,o,ro c3⟩
  .rw [r8 r] at skip ⊢;refine rpv (nX ..) ?_;rw [em,T,V,w64 (x:=(d.length:Int)+1) (by omega)<|by omega,S];have r1:on.length<=(FTs on).length/\zi (on.length+1) 56:=⟨by rw [zb];exact r9 _,vk<|by omega⟩;have r2:g.length<=(FTs g).length/\zi (g.length+1) 56:=⟨by rw [zb];exact r9 _,vk<|by omega⟩;refine za (λ_=>⟨W,za (λp=>zl (λo=>za (λc3=>⟨r9 _,r1,rfl,_,hb,r9 _,r2, ?_⟩) λc3=>skip λq=>rg c3 q.2.2) λo=>skip λq=>o q.2.1) λp=>skip λq=>rg p q.1⟩) (λh=>absurd (rg h)<|by omega);rw [ju,rp (l:=FTs on)<|by rw [zb];exact r9 _,rp (l:=FTs g)<|by rw [zb];exact r9 _,wL];have:=i ⟨ro p,o,ro c3⟩;rw [yA,yA,re,re] at this;exact this
def dZ (K) (X:K<=100000000000) (v y w n R) (ok:OkW K w) (k) (r:0<=k) (u:k<=1000000000) (ls) (D:ls.length<=10000000) (hl:v.l.length<=10000000) (hv:ones v.l) (Y:ones ls) (Z)
  (e:(im1 v k ls).1.length=ls.length->y.c.a<=v.lv->Z=((zt (.mk 4 [] y.h []) (im1 v k ls).2,0),w))
  (i:¬((im1 v k ls).1.length=ls.length/\y.c.a<=v.lv)->Z=hgZ v y w ls.length ((im1 v k ls).1++(im2 y.c.a v.lv k v.l).1) ((im1 v k ls).2++(im2 y.c.a v.lv k v.l).2)):
  ∀(b d on f),ls=d++b->on.length=f.length->on.length<=d.length->(im1 v k ls).1=on++(im1 v k b).1->(im1 v k ls).2=f++(im1 v k b).2->
  RPt Tryz.prog 249 7 (tTE Z.1) (oWk' Z.2 n R) 1 (fxT v y w n R k ls on f ls 39 40 41 d.length)
 |[],d,on,f,C,m,N,o,p=>by
  rw [rF] at C;have hpl:ls.length=d.length:=by rw [C]
  have e1:(im1 v k []).1=[]:=rfl;have e2:(im1 v k []).2=[]:=rfl;rw [e1,rF] at o;rw [e2,rF] at p
  let ⟨S,a2,L,V⟩:=mV v k ls Y
  rw [o] at e i L V;rw [p] at e i S a2 L
  have l5:¬(on.length=ls.length/\y.c.a<=v.lv)->RPt Tryz.prog 249 7 _ _ 5 _:=λh=>by
   have:=fU K X v y w n R ok k r u ls D hl hv v.l [] on f rfl L V S (by omega);rw [<-i h] at this;exact this
  have T:=(vI (.mk 4 [] y.h []) f<|by simp [Tm.l,rv];omega).args (args:=[.agg [qi 4,qf _,qi y.h,qf .N],aL f]) ⟨leT xL, .refl _,trivial⟩;unfold fxT at l5 ⊢;by_cases E:on=[]
  .subst E;have:f=[]:=ru m.symm;subst this;rw [ri rfl] at l5 ⊢;refine rpv (lF ..) ?_;simp [zb];refine bF (by omega) ⟨rfl,rfl,za (λg=>za (λA=> ?_) λA=>⟨rfl,l5 λq=>rg A q.2⟩) λg=>⟨rfl,l5 λq=> ?_⟩⟩
   .have g:(0:Int)=(ls.length:Int):=by have g:=g;simpa using g
    rw [e (by simp [rv];omega)<|ro A];exact ⟨_,T.args ⟨.refl _,leNs,trivial⟩, .refl _,rfl⟩
   .have g:=g;have:=q.1;simp [rv] at this;rw [<-this] at g;simp at g
  .rw [r8 E] at l5 ⊢;refine rpv (o9 ..) ?_;simp only [zb];refine bF (by omega) ⟨rfl,za (λg=>za (λA=> ?_) λA=>⟨rfl,l5 λq=>rg A q.2⟩) λg=>⟨rfl,l5 λq=> ?_⟩⟩
   .have g:(on.length:Int)=(ls.length:Int):=by have g:=g;simpa using g
    rw [e (by omega)<|ro A];rw [rR,rp (l:=FTs f)<|by rw [zb];exact r9 _];exact ⟨⟨by trivial,by first|omega|(rw [zb];omega)⟩,_,T, .refl _,rfl⟩
   .have g:((on.length:Int)==ls.length)=false:=g;rw [q.1] at g;simp at g
 |t::b,d,on,f,C,m,N,o,p=>by
  have W:ls.length=d.length+(b.length+1):=by rw [C];simp
  have em:List.getD (FTs ls) (Int.toNat d.length) []=FT t:=by rw [C];exact midI d t b
  have H:((d.length:Nat))<(((FTs ls).length:Nat):Int):=by rw [zb];omega
  have I:=WN v t k w n R r u (by omega);have hb:=jv b.length
  have O:wrap .i64 (wrap .i64 ((((FTs ls).length))-1)-d.length)=b.length:=by
   rw [zb,w64 (x:=ls.length-1) (by omega)<|by omega,w64 (by omega)<|by omega];omega
  have nx:=λ(J M) h1 h2 H h4=>dZ K X v y w n R ok k r u ls D hl hv Y Z e i b (d++ [t]) J M (by rw [C];simp) h1 h2 H h4;rw [show (((d++ [t]).length))=(d.length:Int)+1 by simp] at nx;have e0:im1 v k (t::b)=if (wG v t k).2=true then (bndT b.length::(im1 v k b).1,(wG v t k).1::(im1 v k b).2) else im1 v k b:=rfl
  rw [e0] at o p;generalize wG v t k=z at*
  let ⟨F,G⟩:=z
  dsimp only at o p I
  have skip:G=false->RPt Tryz.prog 249 7 _ _ 1 (fxT v y w n R k ls on f ls 39 40 41<|d.length+1):=λh=>by
   rw [h,r8<|by simp] at o p;exact nx on f m (by simp;omega) o p
  have j:G=true->RPt Tryz.prog 249 7 _ _ 1 (fxT v y w n R k ls (on++ [bndT b.length]) (f++ [F]) ls 39 40 41<|d.length+1):=λh=>by
   rw [ri h] at o p;exact nx (on++ [bndT b.length]) (f++ [F]) (by simp [m]) (by simp;omega) (by rw [o];simp) (by rw [p];simp)
  clear nx e i;have U:FV.L 4 (.sl false 4<|FTs ls)=true/\(0<=(d.length:Int)/\(((d.length:Int)<(((FTs ls).length):Int))/\((rE<|FT t)=FT t))):=⟨rfl,by omega,H,ju t⟩;unfold fxT at skip j ⊢;rw [r8<|Zc on _] at j;by_cases E:on=[]
  .subst E;have:f=[]:=ru m.symm;subst this;rw [ri rfl] at skip ⊢;refine rpv (lF ..) ?_;rw [em,w64 (x:=d.length+1) (by omega)<|by omega,O,jc];exact za (λ_=>⟨U,(F,G),I,za (λc=>⟨rfl,_,hb,r9 _,vk<|by omega,r9 _,vk<|by omega,by rw [wL,wL];exact j c⟩) λc=>skip c⟩) (λh=>absurd (rg h)<|by omega)
  .rw [r8 E] at skip ⊢;refine rpv (o9 ..) ?_;rw [em,w64 (x:=(d.length:Int)+1) (by omega)<|by omega,O,jc];have r1:on.length<=(FTs on).length/\zi (on.length+1) 56:=⟨by rw [zb];exact r9 _,vk<|by omega⟩;have r2:f.length<=(FTs f).length/\zi (f.length+1) 56:=⟨by rw [zb];exact r9 _,vk<|by omega⟩;refine za (λ_=>⟨U,(F,G),I,za (λc=>⟨rfl,_,hb,r9 _,r1,r9 _,r2, ?_⟩) λc=>skip c⟩) (λh=>absurd (rg h)<|by omega);rw [rp (l:=FTs on)<|by rw [zb];exact r9 _,rp (l:=FTs f)<|by rw [zb];exact r9 _,wL,wL];have:=j c;rw [yA,yA,re,re] at this;exact this
def c_wflex (K)(A:K<=100000000000)(v y w n R)(ok:OkW K w)(k)(d:0<=k)(g:k<=1000000000)(F:y.js.length<=10000000)(C:v.l.length<=10000000)(E:ones v.l):
  AC Tryz.prog 249 [aIv v,aSd y,ci k] (oWk w n R) (tTE (YV v y k w).1) (oWk' (YV v y k w).2 n R):=by
 have j:=jB K y.c.a n R y.js (by omega) w ok
 let ⟨l1,_,l3,m⟩:=yM (K:=K) y.c.a y.js [] ok λt p=>nomatch p
 simp [rv] at l3;have e:YV v y k w=Z4 v y k _:=rfl;rw [e];generalize zh y.c.a y.js [] w=z at*
 let ⟨⟨ls,b⟩,u⟩:=z
 dsimp only at j l1 l3 m
 have o:Z4 v y k ((ls,b),u)=if b≠0 then ((noT,b),u)
  else if (im1 v k ls).1.length=ls.length/\y.c.a<=v.lv then ((zt _ (im1 v k ls).2,0),u)
  else hgZ v y u ls.length _ _:=rfl
 rw [o];refine acv (v249 v.x v.lv _ ..) ?_;refine ⟨(ls,b,⟨u.s,u.f,n,R⟩),j,zQ (λq=> ?_) λq=>⟨rfl, ?_⟩⟩
 .rw [ri q];exact ⟨noTE b,rfl⟩
 .rw [r8 λw=>w q];have q:=q;have i:=l1.ok ok q;have h:=dZ K A v y u n R i k d g ls (by omega) C E (jz m) (if (im1 v k ls).1.length=ls.length/\y.c.a<=v.lv then ((zt _ (im1 v k ls).2,0),u) else hgZ v y u ls.length _ _) (λD r=>ri ⟨D,r⟩) (λh=>r8 h) ls [] [] [] rfl rfl (r9 _) rfl rfl
  rw [zb];exact h
abbrev stTm (v:Iv)(l:List Int)(t:Tm)(k:Int)(w:Wp)(m:Nat)(R:List<|List FV)(i:Int):St:=
 ⟨[(2,ci k),(3, .c<|.a<|.ep 11 4 0 0),(6, .c<|.a<|.ep 12 4 0 0),(12, .c<|.a<|.ep 13 4 0 0),(81,aIs l),(82,ci l.length),(83,ci i)],wkH w m R++ [(11,obIv v),(12,zT4),(13, .arr 4 [cT t])],14⟩
def oG (K v) (D:ones v.l) (C:v.l.length<=100000) (m R n k)
  (E:∀(b) w,OkW K w->w.f.toNat<n->k+w.f<=1000000000->AC Tryz.prog 243 [aIv v,ci b,ci k] (oWk w m R) (tTE (yj v n b k w).1) (oWk' (yj v n b k w).2 m R)) (g) (y:g.length<=1000000000):
  ∀(b d) (t) (w),g=d++b->OkW K w->w.f.toNat<n->k+w.f<=1000000000->t.sz+2*b.length+100004*w.f.toNat<=1000000000000->
  RPt Tryz.prog 243 7 (tTE (uR (λb w=>yj v n b k w) b t w).1) (oWk' (uR (λb w=>yj v n b k w) b t w).2 m R) 3 (stTm v g t k w m R d.length)
 |[],d,t,w,i,ok,_,_,_=>by
  rw [rF] at i;rw [uR]
  let ⟨J,L,T,O⟩:=t
  refine rpv (ii ..) ?_;exact bF (by rw [i];omega) rrl
 |a::b,d,t,w,i,ok,A,S,G=>by
  have F:=E a w ok A S
  let ⟨o,U⟩:=jJ (K:=K) v D C n a k ok A
  have H:List.getD (IR g) (Int.toNat d.length) []=[.int .i64 a]:=by rw [i];exact Kz d a b
  have r:d.length<(((IR g).length):Int):=by rw [i];exact pF d a b
  have N:d.length<(g.length:Int):=by rw [zn] at r;exact r
  have M:uR (λb w=>yj v n b k w) (a::b) t w=if (yj v n a k w).1.2≠0 then ((noT,(yj v n a k w).1.2),(yj v n a k w).2)
   else uR (λb w=>yj v n b k w) b (zt t [(yj v n a k w).1.1]) (yj v n a k w).2:=rfl
  rw [M];simp [r6] at G;have j:=λh=>o.ok ok h;have V:=o.f1;have f0:=o.f0;generalize yj v n a k w=z at*
  let ⟨⟨u,e⟩,x⟩:=z
  dsimp only at*;have p:=vI t [u] (by have:=t.sz_eq;have:=Tm.szs_length t.l;simp [r6,rv];omega);have I:=u6 t u;have nx:=λh=>oG K v D C m R n k E g y b (d++ [a]) (zt t [u]) x (by rw [i];simp) (j h) (by omega) (by omega) (by omega);rw [show (((d++ [a]).length))=d.length+1 by simp] at nx
  let ⟨J,L,T,O⟩:=t
  refine rpv (ii ..) ?_;rw [H,w64 (x:=d.length+1) (by omega)<|by omega];refine bT N ⟨⟨rfl,by omega,r,rfl⟩,(u,e,⟨x.s,x.f,m,R⟩),F,zQ (λq=> ?_) λq=>⟨⟨rfl,r9 _⟩,_,by rw [wL];exact p, ?_⟩⟩
  .rw [ri q];exact ⟨noTE e,rfl⟩
  .rw [r8 λw=>w q];exact nx q
def gK (K)(E:K<=100000000000)(v)(C:ones v.l)(H:v.l.length<=100000)(m R):∀(n) (k),0<=k->∀(a) (w),OkW K w->w.f.toNat<n->k+w.f<=1000000000->
  AC Tryz.prog 243 [aIv v,ci a,ci k] (oWk w m R) (tTE (yj v n a k w).1) (oWk' (yj v n a k w).2 m R)
 |0,_,_,_,_,_,h,_=>absurd h (by omega)
 |n+1,k,r,a,w,ok,X,hk=>by
  have F:=gm K w m R ok a
  let ⟨G,_,L⟩:=xM ok a
  have Z:=G.f1;have f0:=G.f0;have Y:=ok.f0;have M:=ok.f1;have g:=λh=>G.ok ok h;rw [yj];generalize lookW w a=z at*
  let ⟨⟨x,e⟩,u⟩:=z
  dsimp only at*
  have T:termG v _ k ((x,e),u)=if e≠0 then ((noT,e),u)
   else if x.c.t=6 then ((xv 1 (yj v n x.c.a (k+1) u).1.1,(yj v n x.c.a _ u).1.2),(yj v n x.c.a _ u).2)
   else if x.c.t=4 then (if x.h=v.x then ((noT,170),u) else YV v x k u)
   else if (vl v u.s.N x k).2=false then ((noT,170),u)
   else uR (λb w=>yj v n b k w) x.js (vl v u.s.N x k).1 u:=rfl
  rw [T];have p:=fH x;have I:=c_wrigid v x k u m R r (by omega) (by omega);have D:=Ju v u.s.N x k;refine acv (v243 v.x v.lv (FTs v.l) ..) ?_;refine ⟨(x.h,x.js,x.c.t,x.c.a,x.c.b,x.c.c,x.c.d,e,⟨u.s,u.f,m,R⟩),F,zQ (λq=> ?_) λq=> ?_⟩
  .rw [ri q];exact ⟨noTE e,rfl⟩
  rw [r8 λw=>w q];have L:=L q;have g:=g q;refine zl (λj=> ?_) λj=> ?_
  .have j:=j;rw [ri j];have ih:=gK K E v C H m R n (k+1) (by omega) x.c.a u g (by omega) (by omega);rw [w64 (by omega)<|by omega];have O:=gg 1 (yj v n x.c.a (k+1) u).1.1 (by omega);exact ⟨((yj v n x.c.a (k+1) u).1.1,(yj v n x.c.a (k+1) u).1.2,⟨(yj v n x.c.a (k+1) u).2.s,(yj v n x.c.a (k+1) u).2.f,m,R⟩),ih,_,O, .refl _,rfl⟩
  have j:=j;rw [r8 j];refine ⟨_,p,zl (λA=> ?_) λA=>⟨_,p,zl (λh=>absurd h A) λ_=> ?_⟩⟩
  .rw [ri A];refine zl (λi=> ?_) λi=>⟨_,p,zl (λ_=> ?_) λh=>absurd A h⟩
   .have i:=i;rw [ri i];exact ⟨noTE 170,rfl⟩
   .have i:=i;rw [r8 i];have V:=c_wflex K E v x u m R g k r (by omega) (by omega) (by omega) C;exact ⟨((YV v x k u).1.1,(YV v x k u).1.2,⟨(YV v x k u).2.s,(YV v x k u).2.f,m,R⟩),V, .refl _,rfl⟩
  .rw [r8 A];have lp:=oG K v C H m R n k (λb w o S W=>gK K E v C H m R n k r b w o S W) x.js (by omega) x.js [] (vl v u.s.N x k).1 u rfl g (by omega) (by omega) (by rw [D];omega);generalize vl v u.s.N x k=y at*
   let ⟨U,J⟩:=y
   dsimp only at*;refine ⟨(U,J),I,za (λh=> ?_) λh=>⟨rfl, ?_⟩⟩
   .have h:=h;rw [ri<|by simpa using h];exact ⟨noTE 170,rfl⟩
   .have h:=h;rw [r8<|by simpa using h,zn];exact lp
def m4 (K)(A:K<=100000000000)(w m R)(ok:OkW K w)(x a)(I:x.js.length<=100000):AC Tryz.prog 236 [aWk,aSd x,ci a] (oWk w m R) (ci (vz w x a).1) (oWk' (vz w x a).2 m R):=by
 have C:=jB K x.c.a m R x.js (by omega) w ok
 let ⟨l1,_,l3,p⟩:=yM (K:=K) x.c.a x.js [] ok λt G=>nomatch G
 simp [rv] at l3;have e:vz w x a=Jq x a (zh x.c.a x.js [] w):=rfl;rw [e];have g:=λh=>l1.ok ok h;generalize zh x.c.a x.js [] w=z at*
 let ⟨⟨ls,o⟩,u⟩:=z
 dsimp only at C l1 l3 p g
 have H:Jq x a ((ls,o),u)=if o≠0 then (o,u)
  else if (yj ⟨x.h,x.c.a,ls⟩ (u.f.toNat+1) a 0 u).1.2≠0 then ((yj ⟨x.h,x.c.a,ls⟩ (u.f.toNat+1) a 0 u).1.2,(yj ⟨x.h,x.c.a,ls⟩ (u.f.toNat+1) a 0 u).2)
  else setW (yj ⟨x.h,x.c.a,ls⟩ (u.f.toNat+1) a 0 u).2 x.h (xv ls.length (yj ⟨x.h,x.c.a,ls⟩ (u.f.toNat+1) a 0 u).1.1):=rfl
 rw [H];refine acv (v236 ..) ?_;refine ⟨(ls,o,⟨u.s,u.f,m,R⟩),C,zQ (λq=> ?_) λq=> ?_⟩
 .rw [ri q];exact rrl
 rw [r8 λw=>w q];have b:=g q;have J:=b.f0;have L:=b.f1;have D:=gK K A ⟨x.h,x.c.a,ls⟩ (jz p) (by dsimp only;omega) m R (u.f.toNat+1) 0 (rk _) a u b (by omega) (by omega)
 let ⟨v,t2⟩:=jJ (K:=K) ⟨x.h,x.c.a,ls⟩ (jz p) (by dsimp only;omega) (u.f.toNat+1) a 0 b (by omega)
 have i:=λh=>v.ok b h;generalize yj ⟨x.h,x.c.a,ls⟩ (u.f.toNat+1) a 0 u=y at*
 let ⟨⟨t,F⟩,d⟩:=y
 dsimp only at D v t2 i ⊢;refine ⟨(t,F,⟨d.s,d.f,m,R⟩),D,zQ (λj=> ?_) λj=> ?_⟩
 .rw [ri j];exact rrl
 .rw [r8 λw=>w j];have t0:=v.f0;have E:=c_wset K A d m R (i j) x.h (xv ls.length t) (by rw [Y3];simp [B];omega);have r:=gg ls.length t (by omega);rw [zb];exact ⟨rfl,_,r,((setW d x.h<|xv ls.length t).1,⟨(setW d x.h<|xv ls.length t).2.s,(setW d x.h<|xv ls.length t).2.f,m,R⟩),E, .refl _,rfl⟩
def iF (K w m R)(ok:OkW K w)(x a):AC Tryz.prog 238 [aWk,aSd x,ci a] (oWk w m R) (t2 (wd w x a).1) (oWk' (wd w x a).2 m R):=by
 have p:=c_pLift w.s a 1 ok.h;have v:=bH w.s a 1
 have e:wd w x a=if x.c.t=6 then ((x.c.a,0),w)
  else if (xe w.s a 1).1.2≠0 then ((0,(xe w.s a 1).1.2),⟨(xe w.s a 1).2,w.f⟩)
  else if (putS (xe w.s a 1).2 ⟨3,0,0,0,0⟩).1.2≠0 then ((0,(putS (xe w.s a 1).2 ⟨3,0,0,0,0⟩).1.2),⟨(putS (xe w.s a 1).2 ⟨3,0,0,0,0⟩).2,w.f⟩)
  else ((putS (putS (xe w.s a 1).2 ⟨3,0,0,0,0⟩).2 ⟨7,(xe w.s a 1).1.1,(putS (xe w.s a 1).2 ⟨3,0,0,0,0⟩).1.1,0,0⟩).1,
   ⟨(putS (putS (xe w.s a 1).2 ⟨3,0,0,0,0⟩).2 ⟨7,(xe w.s a 1).1.1,(putS (xe w.s a 1).2 ⟨3,0,0,0,0⟩).1.1,0,0⟩).2,w.f⟩):=rfl
 rw [e];generalize xe w.s a 1=z at*;have d:=v.ok ok.h;have o:=xB z.2 ⟨3,0,0,0,0⟩ (by have:=d.C;omega);have g:=d.put ⟨3,0,0,0,0⟩;generalize putS z.2 ⟨3,0,0,0,0⟩=y at*;have r:=xB y.2 ⟨7,z.1.1,y.1.1,0,0⟩ (by have:=g.C;omega);generalize putS y.2 ⟨7,z.1.1,y.1.1,0,0⟩=u at*
 let ⟨⟨D,A⟩,j⟩:=z
 refine acv (v238 ..) ?_;refine zl (λb=> ?_) λb=>⟨(D,A,j),p,zQ (λq=> ?_) λq=>⟨y,o,zQ (λi=> ?_) λi=>⟨u,r, ?_⟩⟩⟩
 .have b:=b;rw [ri b];exact rrl
 .have b:=b;rw [r8 b,ri q];exact rrl
 .have b:=b;rw [r8 b,r8 λw=>w q,ri i];exact rrl
 .have b:=b;rw [r8 b,r8 λw=>w q,r8 λw=>w i];exact rrl
abbrev obSd (x:Sd):AObj:= .arr 7 [[qi x.h,qf<|.sl false 1<|IR x.js,qi x.c.t,qi x.c.a,qi x.c.b,qi x.c.c,qi x.c.d]]
abbrev stPr (x:Sd)(as_ bs on:List Tm)(w:Wp)(m:Nat)(R:List<|List FV)(i:Int):St:=
 if on=[] then ⟨[(0,aWk),(4, .c<|.a<|.ep 11 7 0 0),(7,aL as_),(9,aL bs),(10, .c<|qf .N),(48,ci as_.length),(49,ci i)],wkH w m R++ [(11,obSd x)],12⟩
 else ⟨[(0,aWk),(4, .c<|.a<|.ep 11 7 0 0),(7,aL as_),(9,aL bs),(10, .c<|.a<|.osl 12 4 0 on.length),(48,ci as_.length),(49,ci i)],wkH w m R++ [(11,obSd x),(12, .arz 4<|FTs on)],13⟩
def d6:∀(a b),ones (onZ a b)/\(onZ a b).length<=a.length
 |[],_=>⟨(λt d=>by simp [onZ] at d),by simp [onZ]⟩
 |_::_,[]=>⟨(λt d=>by simp [onZ] at d),by simp [onZ]⟩
 |a::l,b::r=>by
  let ⟨e,f⟩:=d6 l r
  rw [onZ];split
  .exact ⟨kT (λt d=>by rw [rM.1 d];exact ⟨rfl,by show 3≠2;decide⟩) e,by simp;omega⟩
  .exact ⟨e,by simp;omega⟩
def dT (K) (O:K<=100000000000) (x w m R) (ok:OkW K w) (i bs) (Y:i.length<=10000000) (Z)
  (p:(onZ i bs).length=i.length->Z=(0,w)) (o:(onZ i bs).length≠i.length->Z=((w8 w x.h x.c.a i.length<|onZ i bs).1.2,(w8 w x.h x.c.a i.length<|onZ i bs).2)):
  ∀(b j d c on),i=j++b->bs=d++c->j.length=d.length->b.length=c.length->on.length<=j.length->onZ i bs=on++onZ b c->
  RPt Tryz.prog 235 7 (ci Z.1) (oWk' Z.2 m R) 3 (stPr x i bs on w m R j.length)
 |[],j,d,c,on,y,hd,_,A,W,v=>by
  rw [rF] at y;have hpl:i.length=j.length:=by rw [y]
  have e1:onZ [] c=[]:=by simp [onZ]
  rw [e1,rF] at v;have N:=d6 i bs;rw [v] at p o N;have I:=i6 K O w m R ok x.h x.c.a i.length on (by omega) (by rw [jl N.1];omega);generalize w8 w x.h x.c.a i.length on=z at*
  let ⟨⟨t,e⟩,u⟩:=z
  dsimp only at o I;unfold stPr;by_cases E:on=[]
  .subst E;rw [ri rfl];refine rpv (oC ..) ?_;simp only [zb];refine bF (by omega) ⟨by trivial,by trivial,zl (λG=> ?_) λG=>⟨by trivial,(t,e,⟨u.s,u.f,m,R⟩),I.args ⟨.refl _, .refl _, .refl _, .refl _,leNs,trivial⟩, ?_⟩⟩
   .rw [p<|by simp [rv];omega];exact rrl
   .rw [o<|by simp [rv];omega];exact rrl
  .rw [r8 E];refine rpv (mE ..) ?_;simp only [zb];refine bF (by omega) ⟨by trivial,zl (λG=> ?_) λG=>⟨by trivial,⟨by trivial,by omega⟩, ?_⟩⟩
   .rw [p<|by omega];exact rrl
   .rw [rR,rp (l:=FTs on)<|by rw [zb];exact r9 _,o<|by omega];exact ⟨(t,e,⟨u.s,u.f,m,R⟩),I, .refl _,rfl⟩
 |a::b,j,d,[],on,_,_,_,A,_,_=>by simp at A
 |a::b,j,d,g::c,on,y,hd,F,A,W,v=>by
  have T:i.length=j.length+(b.length+1):=by rw [y];simp
  have H:bs.length=d.length+(c.length+1):=by rw [hd];simp
  have V:List.getD (FTs i) (Int.toNat j.length) []=FT a:=by rw [y];exact midI j a b
  have D:List.getD (FTs bs) (Int.toNat j.length) []=FT g:=by rw [F,hd];exact midI d g c
  have X:((j.length:Nat):Int)<(((FTs i).length):Int):=by rw [zb];omega
  have h4:((j.length:Nat))<(((FTs bs).length:Nat):Int):=by rw [zb];simp [r6] at A;omega
  have M:=gS a g;have L:=jv b.length
  have S:wrap .i64 (wrap .i64 ((((FTs i).length))-1)-j.length)=b.length:=by
   rw [zb,w64 (x:=i.length-1) (by omega)<|by omega,w64 (by omega)<|by omega];omega
  have nx:=λ(J) h1 h2=>dT K O x w m R ok i bs Y Z p o b (j++ [a]) (d++ [g]) c J (by rw [y];simp) (by rw [hd];simp) (by simp [F]) (by simpa using A) h1 h2;rw [show (((j++ [a]).length:Nat))=(j.length:Int)+1 by simp] at nx;have e0:onZ (a::b) (g::c)=(if lfZ a g=true then [bndT _] else [])++onZ b c:=rfl
  rw [e0] at v;generalize lfZ a g=q at*
  have skip:q=false->RPt Tryz.prog 235 7 _ _ 3 (stPr x i bs on w m R<|j.length+1):=λh=>by
   rw [h,r8<|by simp,s8] at v;exact nx on (by simp;omega) v
  have r:q=true->RPt Tryz.prog 235 7 _ (oWk' Z.2 m R) 3 (stPr x i bs (on++ [bndT b.length]) w m R<|j.length+1):=λh=>by
   rw [ri h] at v;exact nx (on++ [bndT b.length]) (by simp;omega) (by rw [v];simp)
  clear nx p o;have U:FV.L 4 (.sl false 4<|FTs i)=true/\(0<=(j.length:Int)/\(((j.length:Int)<(((FTs i).length):Int))/\((rE<|FT a)=FT a))):=⟨rfl,by omega,X,ju a⟩;have C:FV.L 4 (.sl false 4<|FTs bs)=true/\((0:Int)<=(j.length:Int)/\(((j.length:Int)<(((FTs bs).length:Nat):Int))/\((rE (FT g):List FV)=FT g))):=⟨rfl,by omega,h4,ju g⟩;unfold stPr at skip r ⊢;rw [r8<|Zc on _] at r;by_cases E:on=[]
  .subst E;rw [ri rfl] at skip ⊢;refine rpv (oC ..) ?_;rw [V,D,w64 (x:=(j.length:Int)+1) (by omega)<|by omega,S,jc,jc];exact za (λ_=>⟨U,C,q,M,za (λc=>⟨rfl,_,L,r9 _,vk<|by omega,by rw [wL];exact r c⟩) λc=>skip c⟩) (λh=>absurd (rg h)<|by omega)
  .rw [r8 E] at skip ⊢;refine rpv (mE ..) ?_;rw [V,D,w64 (x:=(j.length:Int)+1) (by omega)<|by omega,S,jc,jc];have r1:on.length<=(FTs on).length/\zi (on.length+1) 56:=⟨by rw [zb];exact r9 _,vk<|by omega⟩;refine za (λ_=>⟨U,C,q,M,za (λc=>⟨rfl,_,L,r9 _,r1, ?_⟩) λc=>skip c⟩) (λh=>absurd (rg h)<|by omega);rw [rp (l:=FTs on)<|by rw [zb];exact r9 _,wL];have:=r c;rw [yA,re] at this;exact this
def c_wprune (K)(r:K<=100000000000)(w m R)(ok:OkW K w)(x y)(H:x.js.length<=10000000)(G:y.js.length<=10000000):AC Tryz.prog 235 [aWk,aSd x,aSd y] (oWk w m R) (ci (ua w x y).1) (oWk' (ua w x y).2 m R):=by
 have v:=jB K x.c.a m R x.js (by omega) w ok
 let ⟨i,_,A,_⟩:=yM (K:=K) x.c.a x.js [] ok λt o=>nomatch o
 simp [rv] at A;have D:=λh=>jB K y.c.a m R y.js (by omega) (zh x.c.a x.js [] w).2<|i.ok ok h
 have F:=λh=>(yM (K:=K) y.c.a y.js [] (i.ok ok h) λt o=>nomatch o).1;have j:=λh=>i.ok ok h;unfold ua;generalize zh x.c.a x.js [] w=z at*;generalize zh y.c.a y.js [] z.2=u at*
 let ⟨⟨b,C⟩,w1⟩:=z
 let ⟨⟨bs,E⟩,e⟩:=u
 dsimp only at*;refine acv (v235 ..) ?_;refine ⟨(b,C,⟨w1.s,w1.f,m,R⟩),v,zQ (λq=> ?_) λq=>⟨(bs,E,⟨e.s,e.f,m,R⟩),D q,zQ (λg=> ?_) λg=>⟨rfl,rfl, ?_⟩⟩⟩
 .rw [ri q];exact rrl
 .rw [r8 λw=>w q,ri g];exact rrl
 .rw [r8 λw=>w q,r8 λw=>w g,zb,zb];have p:=(F q).ok (j q) g;refine zQ (λd=> ?_) λd=>⟨rfl, ?_⟩
  .have d:b.length≠(bs.length:Int):=d;rw [ri<|by omega];exact rrl
  .have d:b.length=(bs.length:Int):=d;have d:b.length=bs.length:=by omega
   rw [r8 λw=>w d];exact dT K r x e m R p b bs (by omega) (if (onZ b bs).length=b.length then (0,e) else ((w8 e x.h x.c.a b.length<|onZ b bs).1.2,(w8 e x.h x.c.a b.length<|onZ b bs).2)) (λh=>ri h) (λh=>r8 h) b [] [] bs [] rfl rfl rfl d (r9 _) rfl
def PR (l:List<|Int×Int):List (List FV):=l.map λp=> [.int .i64 p.1, .int .i64 p.2]
def bq (l):(PR l).length=l.length:=by simp [PR]
def co (a b):PR (a++b)=PR a++PR b:=by simp [PR]
def stkZ (R:List<|List FV)(n:Nat)(ps:List<|Int×Int):=if ps=[] then R else R.take n++PR ps
def Jf {R n}(d:n<=R.length)(b):n+b.length<=(stkZ R n b).length/\(stkZ R n b).take (n+b.length)=R.take n++PR b:=by
 unfold stkZ;split
 .rename_i h;subst h;simp [PR,d]
 .have e:(R.take n++PR b).length=n+b.length:=by simp [bq];omega
  exact ⟨by omega,rp<|by omega⟩
abbrev oOw (z:Ow)(m:Nat)(R:List<|List FV):=oWk' z.2 (m+z.1.2.length)<|stkZ R m z.1.2.reverse
abbrev aP2 (p:Int×Int):TV:= .agg [qi p.1,qi p.2]
def c_wunder (K w m R)(i:m<=R.length)(j:m<=1099511627776)(ok:OkW K w)(x y p):AC Tryz.prog 233 [aWk,aSd x,aSd y,aP2 p] (oWk w m R) (ci (qI w x y p).1.1) (oOw (qI w x y p) m R):=by
 have o:=iF K w m R ok x p.1;have g:=XS ok x p.1;have v:=λh=>iF K (wd w x p.1).2 m R (g.ok ok h) y p.2;unfold qI;generalize wd w x p.1=z at*;generalize wd z.2 y p.2=u at*
 let ⟨⟨C,r⟩,w1⟩:=z
 let ⟨⟨e,A⟩,d⟩:=u
 dsimp only at*;refine acv (v233 ..) ?_;refine ⟨(C,r,⟨w1.s,w1.f,m,R⟩),o,zQ (λq=> ?_) λq=>⟨(e,A,⟨d.s,d.f,m,R⟩),v q,zQ (λb=> ?_) λb=>⟨r9 _,⟨i,by unfold zi;dsimp only;omega⟩, ?_⟩⟩⟩
 .rw [ri q];exact rrl
 .rw [r8 λw=>w q,ri b];exact rrl
 .rw [r8 λw=>w q,r8 λw=>w b];exact rrl
def fE (P:Program)(S E:TypeId):Bool:=
 match tyOf P S,tyOf P E with
 |some dS,some dE=>(match dS.kind with|.slice e=>Nat.beq e E|_=>false) && !dS.agg && !dE.agg&&Nat.beq dE.size 1
 |_,_=>false
def RPt.backI {P sh lv f} {m m0 p oc:Nat} {r Hs' U live env s0} {α:Type} {H:α->AHeap} {nx:α->Nat} {Inv:α->Prop} {idx:α->Nat} {x0 X S E g es}
  (hP:P.follows .mixedOrders=true) (K:rngB P f p=some g) (T:IsBk P X S E) (o:fE P S E=true)
  (Y:prepV m0 U live (λs'=>s'=⟨env,H x0,nx x0⟩) s0) (hm:Nat.ble m m0=true) (A:env.all (λp=>p.2.lt m0)=true)
  (hg:ev env g= .c (.fn (.func X) [] [(false,[.ep oc 1 0 0])])) (D:Nat.blt oc m0=true) (L:∀x,Inv x->m0<=nx x)
  (z:∀x,Inv x->hook (H x) oc= .arr 1 [[qf<|.sl false 1<|IR es]]) (hN:es.length<9223372036854775808)
  (j:∀x,Inv x->idx x<=es.length)
  (i:∀x k F,Inv x->idx x=k+1->vcR P sh f m0 U p env k (.c<|qf<|.int .i64 es[k]) (H x) (nx x) λh n=> ∃C,(Inv C/\idx C=k)/\h=H C/\n=nx C)
  (O:Inv x0) (I:idx x0=es.length) (u:∀x,Inv x->idx x=0->vcA P sh lv f m (λr0 Hs0=>TV.Le r0 r/\Hs0=Hs') (RPt P f m r Hs') p ⟨env,H x,nx x⟩):
  RPt P f m r Hs' p s0:=by
 unfold fE at o;split at o
 .rename_i dS dE hS V;split at o
  .rename_i e F;simp only [rf,sB] at o
   let ⟨⟨⟨M,h2⟩,Z⟩,J⟩:=o
   have M:=rB M;have J:=rB J;subst M;refine RPt.back (y:=λx=> .c<|qf<|.pt<|(IR es).getD (idx x-1) []) (v:=λx=> .c<|qi<|es.getD (idx x-1) 0) (xs:= .c<|qf<|.sl false 1<|IR es) (N:=(IR es).length) (rdn:=[]) hP K T hS F V Y hm A hg D L (λx w=> ?_) rfl (by rw [zn];exact hN) (λx k w d=> ?_) (λx k w d=> ?_) O (by rw [zn];exact I) u
   .refine ⟨[oc], ?_⟩;unfold wh;simp [z x w];show (if 1=1 then _ else none)=_
    rw [ri rfl];show (match Zt dS [qf _] with|some v=>some _|none=>none)=_
    unfold Zt;rw [h2];rfl
   .have G:=j x w;have b:k<es.length:=by omega
    have W:k<(IR es).length:=by rw [zn];exact b
    refine ⟨[], ?_, ?_⟩
    .unfold yC iV;simp only [F,V,Xi];rw [ri ⟨J,by omega,by omega⟩,rt,d,tx]
    .unfold wh;simp only [d,tx];rw [w9 b,show es.getD k 0=es[k] by simp [List.getD,b]];unfold Zt;rw [Z];rfl
   .have G:=j x w;have b:k<es.length:=by omega
    have:=i x k b w d;simp only [d,tx,show es.getD k 0=es[k] by simp [List.getD,b]];exact this
  .cases o
 .cases o
abbrev fnI (bk oc:Nat):TV:= .c<|.fn (.func bk) [] [(false,[.ep oc 1 0 0])]
def iK (l):AC Tryz.prog 220 [.c<|qf<|.sl false 1 l] [] (fnI 229 0) [.arr 1 [[qf<|.sl false 1 l]]]:=by
 refine acv (v220 ..) ?_;exact rrl
def isBkI:IsBk Tryz.prog 229 77 3:=⟨by kernel_rfl,_,303,3,4,Tryz.func229,by kernel_rfl,by kernel_rfl,by kernel_rfl⟩
def bTyI:fE Tryz.prog 77 3=true:=by kernel_rfl
abbrev hpOn (w:Wp)(n:Nat)(R:List<|List FV)(x y:Sd):AHeap:=
 [(0,wk3 1 17 w.f n),(1,hp6 14 15 16 5 w.s),(2, .gone),(3, .gone),(4, .gone),(5, .mapz<|NM w.s.N 0),(6, .gone),(7, .gone),(8, .gone),(9, .gone),(10, .gone),(11, .arr 1 [[.a<|.ep 0 3 0 0]]),(12,obSd y),(13, .arr 1 [[qf<|.sl false 1<|IR x.js]]),(14, .arz 5<|CR w.s.C),(15, .arz 7<|TR w.s.T),(16, .arz 1<|NR w.s.N),(17, .arz 2 R)]
def l_wone (w n R)(x y:Sd)(f:x.js.length=y.js.length)(p:n<=R.length)(A:n+x.js.length<=1099511627776):
  RPt Tryz.prog 230 7 (ci 0) (oWk' w (n+x.js.length)<|stkZ R n (x.js.zip y.js).reverse) 3 ⟨[(2, .c<|.a<|.ep 11 1 0 0),(7, .c<|.a<|.ep 12 7 0 0),(90,fnI 229 13)],wkH w n R++ [(11, .arr 1 [[.a<|.ep 0 3 0 0]]),(12,obSd y),(13, .arr 1 [[qf<|.sl false 1<|IR x.js]])],14⟩:=by
 have D:(x.js.zip y.js).length=x.js.length:=by simp [f]
 refine RPt.backI (sh:=sh) (lv:=lv230) (α:=Nat) (Inv:=λi=>i<=x.js.length) (idx:=λi=>i) (nx:=λ_=>18) (m0:=14) (U:=[7,8,9,10]) (live:=[2,7,90]) (oc:=13) (es:=x.js) (x0:=x.js.length) (g:= .tmp 90) (env:=[(2, .c<|.a<|.ep 11 1 0 0),(7, .c<|.a<|.ep 12 7 0 0),(90,fnI 229 13)])
  (H:=λi=>hpOn w (n+(x.js.length-i)) (stkZ R n ((x.js.zip y.js).drop i).reverse) x y) hP (by kernel_rfl) isBkI bTyI ?_ (by kernel_rfl) (by kernel_rfl) (by kernel_rfl) (by kernel_rfl) (λ_ _=>by omega) (λ_ _=>rfl) (by omega) (λi e=>e) (λi k C e b=> ?_) (r9 _) rfl (λi e j=> ?_)
 .refine Eq.mpr (v230_3an ..) ?_;rw [Nat.sub_self,sT,tw<|by omega];rfl
 .have b:=b;have e:=e;subst b;have o:k<y.js.length:=by omega
  have hd:=Jf p ((x.js.zip y.js).drop<|k+1).reverse;have h:(((x.js.zip y.js).drop<|k+1).reverse).length=x.js.length-(k+1):=by simp [f]
  rw [h] at hd;have z:List.getD (IR y.js) (Int.toNat<|k) []=[.int .i64 y.js[k]]:=by rw [rt];exact w9 o
  have m:(x.js.zip y.js).drop k=(x.js[k],y.js[k])::(x.js.zip y.js).drop (k+1):=by
   rw [List.drop_eq_getElem_cons<|by omega];simp
  have d:stkZ R n ((x.js.zip y.js).drop k).reverse=List.take (n+(x.js.length-(k+1))) (stkZ R n ((x.js.zip y.js).drop<|k+1).reverse)++ [[.int .i64 x.js[k], .int .i64 y.js[k]]]:=by
   rw [hd.2,m,tG];unfold stkZ;rw [r8<|by simp,co,<-sm];rfl
  have r:n+(x.js.length-k)=n+(x.js.length-(k+1))+1:=by omega
  generalize x.js[k]=u at*;generalize y.js[k]=v at*;refine Eq.mpr (nM ..) ?_;rw [z,zn];refine ⟨⟨rfl,by omega,by omega,rfl⟩,r9 _,⟨hd.1,by unfold zi;omega⟩,k,⟨(by omega:k<=x.js.length),rfl⟩, ?_,rfl⟩;show _=hpOn w (n+(x.js.length-k)) (stkZ R n ((x.js.zip y.js).drop k).reverse) x y;rw [d,r];rfl
 .have j:=j;subst j;refine Eq.mpr (mj ..) ?_;rw [rR,tN];exact rrl
def c_wone (K)(H:K<=100000000000)(w m R)(S:m<=R.length)(hm2:m<=549755813888)(ok:OkW K w)(p)(j1:(lookW w p.1).1.1.js.length<=100000)(X:(lookW (lookW w p.1).2 p.2).1.1.js.length<=100000):
  AC Tryz.prog 230 [aWk,aP2 p] (oWk w m R) (ci (oneW w p).1.1) (oOw (oneW w p) m R):=by
 have U:=gm K w m R ok p.1
 let ⟨V,_,_⟩:=xM ok p.1
 have D:=λh=>V.ok ok h;have T:=λh=>gm K (lookW w p.1).2 m R (D h) p.2;have Z:=λh=>(xM (D h) p.2).1;unfold oneW;generalize lookW w p.1=z at*;generalize lookW z.2 p.2=u at*
 let ⟨⟨x,J⟩,w1⟩:=z
 let ⟨⟨y,N⟩,g⟩:=u
 dsimp only at*;have F:=fH x;have L:=fH y;have cl:=c_hclash x y;refine acv (v230 p.1 p.2 ..) ?_;refine ⟨(x.h,x.js,x.c.t,x.c.a,x.c.b,x.c.c,x.c.d,J,⟨w1.s,w1.f,m,R⟩),U,zQ (λq=> ?_) λq=>⟨(y.h,y.js,y.c.t,y.c.a,y.c.b,y.c.c,y.c.d,N,⟨g.s,g.f,m,R⟩),T q,zQ (λE=> ?_) λE=> ?_⟩⟩
 .rw [ri q];exact rrl
 .rw [r8 λw=>w q,ri E];exact rrl
 have q:=q;have E:=E;rw [r8 λw=>w q,r8 λw=>w E];have o:=(Z q).ok (D q) E;have G:=c_wunder K g m R S (by omega) o x y p;have pr:=c_wprune K H g m R o x y (by omega) (by omega);have O:=m4 K H g m R o x p.2 j1;have by_:=m4 K H g m R o y p.1 X;unfold oneG
 have I:∀z,AC Tryz.prog 233 [aWk,aSd x,aSd y,aP2 p] (oWk g m R) _ _->∃j:Int×Wk,AC Tryz.prog 233 [aWk,aSd x,aSd y,aP2 p] (oWk g m R) (ci j.1) (oWk' ⟨j.2.s,j.2.f⟩ j.2.n j.2.R)/\TV.Le (ci j.1) (ci z.1.1)/\oWk' ⟨j.2.s,j.2.f⟩ j.2.n j.2.R=oOw z m R:=λz Y=>
  ⟨(z.1.1,⟨z.2.s,z.2.f,m+z.1.2.length,stkZ R m z.1.2.reverse⟩),Y, .refl _,rfl⟩
 refine zl (λC=> ?_) λC=>zl (λv=> ?_) λv=> ?_
 .have C:=C;rw [ri<|.inl C];exact I _ G
 .have v:=v;rw [ri<|.inr v];exact I _ G
 have C:=C;have v:=v;rw [r8 λw=>w.elim C v];clear I G;refine ⟨_,F,zl (λi=>⟨_,L,zl (λr=>zl (λA=> ?_) λA=>⟨_,F,zl (λ_=> ?_) λh=>absurd i h⟩) λr=>⟨_,F,zl (λ_=> ?_) λh=>absurd i h⟩⟩) λi=>⟨_,F,zl (λh=>absurd h i) λ_=>⟨_,L,zl (λr=> ?_) λr=>⟨_,cl,za (λc=> ?_) λc=>⟨_,iK<|IR x.js, ?_⟩⟩⟩⟩⟩
 .have A:=A;rw [ri ⟨i,r,A⟩];exact ⟨((ua g x y).1,⟨(ua g x y).2.s,(ua g x y).2.f,m,R⟩),pr, .refl _,rfl⟩
 .have A:=A;rw [r8 λw=>A w.2.2,ri i];exact ⟨((vz g x p.2).1,⟨(vz g x p.2).2.s,(vz g x p.2).2.f,m,R⟩),O, .refl _,rfl⟩
 .rw [r8 λw=>r w.2.1,ri i];exact ⟨((vz g x p.2).1,⟨(vz g x p.2).2.s,(vz g x p.2).2.f,m,R⟩),O, .refl _,rfl⟩
 .rw [r8 λw=>i w.1,r8 i,ri r];exact ⟨((vz g y p.1).1,⟨(vz g y p.1).2.s,(vz g y p.1).2.f,m,R⟩),by_, .refl _,rfl⟩
 .rw [r8 λw=>i w.1,r8 i,r8 r,ri c];exact rrl
 .rw [r8 λw=>i w.1,r8 i,r8 r,r8<|by rw [c];simp]
  have M:x.js.length=y.js.length:=by
   have e:dX x y=(x.c.t !=y.c.t||x.c.a !=y.c.a||x.js.length !=y.js.length):=rfl;rw [e] at c;simp at c;exact c.2
  have W:=l_wone g m R x y M S (by omega);show RPt Tryz.prog 230 7 (ci 0) (oWk' g (m+(x.js.zip y.js).length)<|stkZ R m (x.js.zip y.js).reverse) 3 _;rw [show (x.js.zip y.js).length=x.js.length by simp [M]];exact W
def m7 {R A}{x:List FV}{m}(b:A.length=m)(h:R.take (m+1)=A++ [x]):List.getD R m []=x/\R.take m=A/\m<R.length:=by
 have e:(R.take<|m+1).length=m+1:=by rw [h];simp [b]
 have d:m<R.length:=by rw [ry] at e;omega
 refine ⟨?_, ?_,d⟩
 .have:(R.take<|m+1)[m]? =some x:=by rw [h,<-b];simp
  rw [tL<|by omega] at this;simp [List.getD,this]
 .have:(R.take<|m+1).take m=A:=by rw [h,<-b];simp
  rw [List.take_take,sD<|by omega] at this;exact this
structure RunI (K:Nat)(I:Wp->List (Int×Int)->Prop):Prop where
 ok:∀w st,I w st->OkW K w/\st.length<=500000000
 js:∀w p st,I w (p::st)->0<w.f->(lookW ⟨w.s,w.f-1⟩ p.1).1.1.js.length<=100000/\(lookW (lookW ⟨w.s,w.f-1⟩ p.1).2 p.2).1.1.js.length<=100000
 nx:∀w p st,I w (p::st)->0<w.f->(oneW ⟨w.s,w.f-1⟩ p).1.1=0->I (oneW ⟨w.s,w.f-1⟩ p).2 ((oneW ⟨w.s,w.f-1⟩ p).1.2++st)
def OkW.less {K w}(h:OkW K w)(b:0<w.f):OkW K ⟨w.s,w.f-1⟩:=⟨h.h,by dsimp only;omega,by have:=h.f1;dsimp only;omega,h.n,h.i⟩
def l_wrun (K)(H:K<=100000000000){I}(y:RunI K I):∀(F) (w) (b) (R),w.f.toNat<=F->I w b->R.take b.length=PR b.reverse->
  ∃i R',RPt Tryz.prog 221 7 (ci (runZ F w b).1) (oWk' (runZ F w b).2 i R') 1 ⟨[(0,aWk)],wkH w b.length R,11⟩
 |F,w,[],R,O,u,z=>by
  refine ⟨0,R, ?_⟩;have e:runZ F w []=(0,w):=by cases F<;>rfl
  rw [e];refine RPt.vc hP sh vA<|Eq.mpr (uP ..) ?_
  exact bF (by simp) rrl
 |F,w,p::b,R,O,u,z=>by
  let ⟨ok,N⟩:=y.ok w _ u
  simp [r6] at N;have f0:=ok.f0;have T:=ok.f1;rw [tG,co] at z
  let ⟨M,t2,t3⟩:=m7 (m:=b.length) (A:=PR b.reverse) (x:=[.int .i64 p.1, .int .i64 p.2]) (by simp [bq]) z
  have C:wrap .i64 ((((p::b).length))-1)=b.length:=by
   rw [r6,w64 (by omega)<|by omega];omega
  have D:List.getD R (0+(b.length:Int).toNat) []=[.int .i64 p.1, .int .i64 p.2]:=by rw [rt,rD];exact M
  by_cases L:w.f<=0
  .have e:runZ F w (p::b)=(80,w):=by
    cases F with
    |zero=>rfl
    |succ F=>rw [runZ,ri L]
   refine ⟨b.length,R, ?_⟩;rw [e];refine RPt.vc hP sh vA<|Eq.mpr (uP ..) ?_
   rw [C,D];refine za (λ_=>⟨⟨by omega,by simp [r6];omega⟩,⟨by rw [rt];omega,rfl,rfl⟩,⟨rk _,by omega,by simp [r6];omega⟩,za (λ_=>⟨.refl _,by rw [rt]⟩) λh=>absurd (rg h)<|by omega⟩) (λh=>absurd (rg h)<|by simp only [r6];omega)
  .cases F with
   |zero=>omega
   |succ F=>
    have o:=y.js w p b u (by omega);have j:=ok.less (by omega);have E:=c_wone K H ⟨w.s,w.f-1⟩ b.length R (by omega) (by omega) j p o.1 o.2;have J:=(m5 j p o.1 o.2).1.f1;have r:=y.nx w p b u (by omega);have e:runZ (F+1) w (p::b)=if (oneW ⟨w.s,w.f-1⟩ p).1.1≠0 then ((oneW ⟨w.s,w.f-1⟩ p).1.1,(oneW ⟨w.s,w.f-1⟩ p).2) else runZ F (oneW ⟨w.s,w.f-1⟩ p).2 ((oneW ⟨w.s,w.f-1⟩ p).1.2++b):=by rw [runZ,r8 L]
    have next:(oneW ⟨w.s,w.f-1⟩ p).1.1=0->∃i R',RPt Tryz.prog 221 7 (ci (runZ F (oneW ⟨w.s,w.f-1⟩ p).2<|(oneW ⟨w.s,w.f-1⟩ p).1.2++b).1) (oWk' (runZ F (oneW ⟨w.s,w.f-1⟩ p).2<|(oneW ⟨w.s,w.f-1⟩ p).1.2++b).2 i R') 1
      ⟨[(0,aWk)],wkH (oneW ⟨w.s,w.f-1⟩ p).2 (b.length+(oneW ⟨w.s,w.f-1⟩ p).1.2.length)<|stkZ R b.length (oneW ⟨w.s,w.f-1⟩ p).1.2.reverse,11⟩:=λd=>by
     have r:=r d;have hd:=Jf (n:=b.length) (R:=R) (by omega) (oneW ⟨w.s,w.f-1⟩ p).1.2.reverse;rw [tu,t2] at hd;have:=l_wrun K H y F (oneW ⟨w.s,w.f-1⟩ p).2 ((oneW ⟨w.s,w.f-1⟩ p).1.2++b) (stkZ R b.length (oneW ⟨w.s,w.f-1⟩ p).1.2.reverse) (by dsimp only at J;omega) r (by rw [re,tJ,hd.2,List.reverse_append,co]);rw [re,tJ] at this;exact this
    rw [e];clear e r J o;generalize oneW ⟨w.s,w.f-1⟩ p=q at*
    let ⟨⟨G,g⟩,v⟩:=q
    dsimp only at next E ⊢;by_cases d:G=0
    .rw [r8<|by simp [d]]
     let ⟨i,R',S⟩:=next d
     refine ⟨i,R', ?_⟩;refine RPt.vc hP sh vA<|Eq.mpr (uP ..) ?_
     rw [C,D,w64 (x:=w.f-1) (by omega)<|by omega,rt];exact za (λ_=>⟨⟨by omega,by simp [r6];omega⟩,⟨by omega,rfl,rfl⟩,⟨rk _,by omega,by simp [r6];omega⟩,bF (by omega) ⟨(G,⟨v.s,v.f,b.length+g.length,stkZ R b.length g.reverse⟩),E,zQ (λh=>absurd d h) λ_=>S⟩⟩) (λh=>absurd (rg h)<|by simp only [r6];omega)
    .rw [ri d];refine ⟨b.length+g.length,stkZ R b.length g.reverse, ?_⟩;refine RPt.vc hP sh vA<|Eq.mpr (uP ..) ?_
     rw [C,D,w64 (x:=w.f-1) (by omega)<|by omega,rt];exact za (λ_=>⟨⟨by omega,by simp [r6];omega⟩,⟨by omega,rfl,rfl⟩,⟨rk _,by omega,by simp [r6];omega⟩,bF (by omega) ⟨(G,⟨v.s,v.f,b.length+g.length,stkZ R b.length g.reverse⟩),E,zQ (λ_=>rrl) λh=>absurd h d⟩⟩) (λh=>absurd (rg h)<|by simp only [r6];omega)
def c_wrun (K)(e:K<=100000000000){I}(g:RunI K I)(w b)(i:I w b):∃d R',AC Tryz.prog 221 [aWk] (oWk w b.length<|PR b.reverse) (ci (runZ w.f.toNat w b).1) (oWk' (runZ w.f.toNat w b).2 d R'):=by
 let ⟨d,R',h⟩:=l_wrun K e g w.f.toNat w b _ (r9 _) i<|rp<|by rw [bq,tu];exact r9 _
 refine ⟨d,R',AC.vc hP sh vA (by simp) (by simp [isLive]) (by simp [isLive])<|Eq.mpr (v221_i1 ..) ?_⟩;exact h
def c_wrun0 (w:Wp):AC Tryz.prog 221 [aWk] [.arr 3 [[.a<|.ep 1 6 0 0,qf .N,qi w.f]],hp6 2 3 4 5 w.s, .arz 5<|CR w.s.C, .arz 7<|TR w.s.T, .arz 1<|NR w.s.N, .mapz<|NM w.s.N 0] (ci 0)
  [.arr 3 [[.a<|.ep 1 6 0 0,qf .N,qi w.f]],hp6 6 7 8 5 w.s, .gone, .gone, .gone, .mapz<|NM w.s.N 0, .arz 5<|CR w.s.C, .arz 7<|TR w.s.T, .arz 1<|NR w.s.N]:=by
 refine acv (v221 ..) ?_;refine rpv (v221_1a ..) ?_;exact ⟨rfl, .refl _,rfl⟩
def RunL (K:Nat)(w:Wp)(st:List<|Int×Int):Prop:=OkW K w/\w.f<=100000/\st.length+w.f<=400000000
def runI_L (K:Nat):RunI K (RunL K) where
 ok:=λw u h=>⟨h.1,by have:=h.2.2;have:=h.1.f0;omega⟩
 js:=λw p u h o=>by
  have b:=h.1.less o;have j:w.f-1<=100000:=by have:=h.2.1;omega
  refine ⟨j9 b p.1 j, ?_⟩;have d:=(xM b p.1).1;by_cases q:(lookW ⟨w.s,w.f-1⟩ p.1).1.2=0
  .exact j9 (d.ok b q) p.2 (by have:=d.f1;dsimp only at this;omega)
  .have g:OkW (K+1048577) (lookW ⟨w.s,w.f-1⟩ p.1).2:=⟨d.h,d.f0,by have:=d.f1;have:=b.f1;dsimp only at*;omega,d.m,d.mv.ih b.i⟩;exact j9 g p.2 (by have:=d.f1;dsimp only at this;omega)
 nx:=λw p u h o q=>by
  have b:=h.1.less o;have j:w.f-1<=100000:=by have:=h.2.1;omega
  obtain ⟨r,e⟩:=dN b p j;have e:=e q;have v:=r.f1;dsimp only at e v;refine ⟨r.ok b q,by omega, ?_⟩;have:=h.2.2;simp only [r6] at this;simp only [re];omega
def GoodZ (s:Hp):=∀e∈s.T,0<=e.o/\e.o<s.C.length/\e.top<s.C.length
def putZ_or (s c):(putS s c).2=s\/(putS s c).2={ s with C:=s.C++ [c] }:=by
 unfold putS;split
 .exact .inl rfl
 .split
  .exact .inl rfl
  .exact .inr rfl
def setZ_or (s x c):(setS s x c).2=s\/inC s.C x=true/\(setS s x c).2={ s with C:=s.C.set x.toNat c,T:=s.T++ [⟨x,zk s.C x,topS s.T x⟩] }:=by
 unfold setS;split
 .exact .inl rfl
 .rename_i h;split
  .exact .inl rfl
  .split
   .exact .inl rfl
   .split
    .exact .inl rfl
    .exact .inr ⟨by simpa using h,rfl⟩
def topZ_lt {T x n}(b:x<n)(d:∀e∈T,e.top<n):topS T x<n:=by
 unfold topS;split
 .rcases fmax2 (x:=x) rfl with h|h
  .rw [h];exact b
  .rw [h];exact d _<|List.getElem_mem _
 .exact b
def JB:∀(D) (C) (c),(∀e∈D,e.o.toNat<C.length)->vo D (C++ [c])=vo D C++ [c]
 |[],_,_,_=>rfl
 |e::D,C,c,h=>by
  have ih:=JB D C c λx b=>h x<|rh _ b
  have d:=yK D C;show (vo D _).set _ _=(vo D C).set _ _++ [c];rw [ih,List.set_append_left _ _<|by rw [d];exact h e rn]
def LaterZ (s0 s:Hp):=s0.C.length<=s.C.length/\∃D,s.T=s0.T++D/\(vo D s.C).take s0.C.length=s0.C
def Mv.later {b s0 s}(h:Mv b s0 s)(j:GoodZ s0):GoodZ s/\LaterZ s0 s:=by
 induction h with
 |refl=>exact ⟨j,r9 _,[],by simp,by simp [vo]⟩
 |@put' t c _ _ ih=>
  let ⟨f,i,D,hD,g⟩:=ih
  rcases putZ_or t c with e|e<;>rw [e]
  .exact ⟨f,i,D,hD,g⟩
  .refine ⟨λx hx=> ?_,by simp;omega,D,hD, ?_⟩
   .have:=f x hx;simp [re,rY];omega
   .show (vo D _).take _=_;rw [JB D t.C c λx hx=>by have:=f x (by rw [hD];exact tE _ hx);omega,List.take_append_of_le_length<|by rw [yK];exact i];exact g
 |@set' t a c _ _ ih=>
  let ⟨f,i,D,hD,g⟩:=ih
  rcases setZ_or t a c with e|⟨d,e⟩<;>rw [e]
  .exact ⟨f,i,D,hD,g⟩
  .simp [inC,rf,rK] at d
   let ⟨p,o⟩:=kZ d.1 d.2
   refine ⟨λx hx=> ?_,by simp [sY];exact i,D++ [⟨a,zk t.C a,topS t.T a⟩],by simp [hD,sm], ?_⟩
   .simp [sY];rcases rS.1 hx with hx|hx
    .exact f x hx
    .rw [rM.1 hx];exact ⟨d.1,d.2,topZ_lt d.2 λe m=>(f e m).2.2⟩
   .show (vo _ _).take _=_;rw [XC,List.set_set,o,List.set_getElem_self];exact g
 |names e _ _ ih=>exact ih
def LaterZ.back {s0 s}(h:LaterZ s0 s):(yS s s0.C.length s0.T.length).C=s0.C/\(yS s s0.C.length s0.T.length).T=s0.T:=by
 let ⟨d,D,hD,b⟩:=h
 refine ⟨?_, ?_⟩
 .show (vo _ s.C).take s0.C.length=s0.C;rw [hD,List.drop_left']
  .exact b
  .rfl
 .show s.T.take s0.T.length=s0.T;rw [hD,List.take_left'];rfl
def c_undoZ {b s0 s}(h:Mv b s0 s)(f:GoodZ s0)(ok:OkH s):AC Tryz.prog 76 [aH 0, .agg [qi s0.C.length,qi s0.T.length]] (oH s) (.tup []) (oH'<|yS s s0.C.length s0.T.length):=by
 let ⟨g,i,D,hD,_⟩:=h.later f
 refine pK s s0.C.length s0.T.length (by rw [hD];simp) (by have:=ok.T;omega) i (λe d=>⟨(g e d).1,(g e d).2.1⟩) λe d=> ?_;rw [hD,List.take_left'] at d
 .exact (f e d).2.2
 .rfl
abbrev oHb (s:Hp):=[.arr 1 [[.a<|.ep 1 6 0 0]],hp6 2 3 4 5 s, .arz 5<|CR s.C, .arz 7<|TR s.T, .arz 1<|NR s.N, .mapz<|NM s.N 0]
abbrev fnO (bk:Nat):TV:= .c<|.fn (.func bk) [] [(false,[.ep 0 1 0 0])]
def c_hall1 (s x):AC Tryz.prog 219 [ci x, .c<|.a<|.ep 0 1 0 0] (oHb s) (cb<|oddZ s.C x) (oHb s):=by
 have b:=xZ s x;have e:oddZ s.C x=(!inC s.C x||decide _):=rfl;rw [e];refine acv (v219 ..) ?_;refine ⟨_,_,_,_,_,_,b,za (λh=>yl ?_) λh=>yl ?_⟩
 .rw [h];rfl
 .rw [h];rfl
def ixI (p:Int->Bool):List Int->Nat->Int
 |[],_=> -1
 |t::l,i=>if p t=true then (i:Int) else ixI p l<|i+1
def pw (p):∀(l) (i),decide (ixI p l i>=0)=l.any p
 |[],_=>rfl
 |t::l,i=>by
  rw [ixI,sK];split
  .rename_i h;rw [h];simp
  .rename_i h;rw [pw p l,show p t=false by simpa using h,sF]
def l_idxi (s d)(i:d.length<=1000000000):∀(b a),d=a++b->
  RPt Tryz.prog 133 6 (ci<|ixI (oddZ s.C) b a.length) (oHb s) 1 ⟨[(0,aIs d),(1,fnO 219),(7,ci d.length),(8,ci a.length)],[(0, .arr 1 [[.a<|.ep 1 6 0 0]]),(1,hp6 2 3 4 5 s),(2, .arz 5<|CR s.C),(3, .arz 7<|TR s.T),(4, .arz 1<|NR s.N),(5, .mapz<|NM s.N 0)],6⟩
 |[],a,e=>by
  rw [rF] at e;refine rpv (qE ..) ?_;exact bF (by rw [e];omega) rrl
 |t::b,a,e=>by
  have ih:=l_idxi s d i b (a++ [t]) (by rw [e];simp);rw [show (((a++ [t]).length))=(a.length:Int)+1 by simp,show (a++ [t]).length=a.length+1 by simp] at ih;have m:List.getD (IR d) (Int.toNat a.length) []=[.int .i64 t]:=by rw [e];exact Kz a t b
  have f:a.length<(((IR d).length):Int):=by rw [e];exact pF a t b
  have j:a.length<(d.length:Int):=by rw [zn] at f;exact f
  have g:=c_hall1 s t;rw [ixI];refine rpv (qE ..) ?_;rw [m,w64 (x:=a.length+1) (by omega)<|by omega];refine bT j ⟨⟨rfl,by omega,f,rfl⟩,oddZ s.C t,g,za (λh=> ?_) λh=> ?_⟩
  .rw [ri h];exact rrl
  .rw [r8<|by rw [h];simp];exact ih
def c_anyi (s l)(b:l.length<=1000000000):AC Tryz.prog 91 [aIs l,fnO 219] (oHb s) (cb<|l.any<|oddZ s.C) (oHb s):=by
 have h:AC Tryz.prog 133 [aIs l,fnO 219] (oHb s) (ci<|ixI (oddZ s.C) l 0) (oHb s):=by
  have:=l_idxi s l b l [] rfl;refine acv (iD ..) ?_;rw [zn];exact ⟨rfl,this⟩
 have e:=pw (oddZ s.C) l 0;refine acv (v91_F219 ..) ?_;exact ⟨_,h,by rw [<-e];exact .refl _,rfl⟩
abbrev haH (s:Hp)(f:Int)(a b:List Int)(i:Nat):AHeap:=
 if i=a.length then [(0,hp6 15 16 17 4 s),(1, .gone),(2, .gone),(3, .gone),(4, .mapz<|NM s.N 0),(5, .gone),(6, .gone),(7, .gone),(8, .arr 1 [[.a<|.ep 0 6 0 0]]),(9, .arr 1 [[qf<|.sl false 1<|IR a]]),(10, .arr 1 [[qf<|.sl false 1<|IR b]]),(11, .arr 2 [[qi s.C.length,qi s.T.length]]),(12, .arr 1 [[.a<|.ep 13 3 0 0]]),(13, .arr 3 [[.a<|.ep 0 6 0 0,qf .N,qi f]]),(14, .arr 1 [[qf<|.sl false 1<|IR a]]),(15, .arz 5<|CR s.C),(16, .arz 7<|TR s.T),(17, .arz 1<|NR s.N)]
 else [(0,hp6 15 16 17 4 s),(1, .gone),(2, .gone),(3, .gone),(4, .mapz<|NM s.N 0),(5, .gone),(6, .gone),(7, .gone),(8, .arr 1 [[.a<|.ep 0 6 0 0]]),(9, .arr 1 [[qf<|.sl false 1<|IR a]]),(10, .arr 1 [[qf<|.sl false 1<|IR b]]),(11, .arr 2 [[qi s.C.length,qi s.T.length]]),(12, .arr 1 [[.a<|.ep 13 3 0 0]]),(13, .arr 3 [[.a<|.ep 0 6 0 0, .a<|.osl 18 2 0<|a.length-i,qi f]]),(14, .arr 1 [[qf<|.sl false 1<|IR a]]),(15, .arz 5<|CR s.C),(16, .arz 7<|TR s.T),(17, .arz 1<|NR s.N),(18, .arz 2<|PR ((a.zip b).drop i).reverse)]
def c_hAll (s) (Y:GoodZ s) (a b f) (Z:a.length<=1000000000) (hb:b.length<=1000000000)
  (d:a.length=b.length->a.any (oddZ s.C)=false->b.any (oddZ s.C)=false->a ≠ []->∃I R',AC Tryz.prog 221 [aWk] (oWk ⟨s,f⟩ (a.zip b).length<|PR (a.zip b).reverse) (ci (runZ f.toNat ⟨s,f⟩<|a.zip b).1)<|oWk' (runZ f.toNat ⟨s,f⟩<|a.zip b).2 I R')
  (e:a.length=b.length->Mv true s (runZ f.toNat ⟨s,f⟩<|a.zip b).2.s) (A:OkH s):
  AC Tryz.prog 193 [aH 0,aIs a,aIs b,ci f] (oH s) (t2 (allZ s a b f).1) (oH' (allZ s a b f).2):=by
 have V:=c_anyi s a Z;have N:=c_anyi s b hb;have M:=oa s
 have e0:allZ s a b f=if a.length≠b.length\/a.any _=true\/b.any _=true then ((0,1),s)
  else if (runZ f.toNat ⟨s,f⟩ _).1≠0 then ((0,(runZ f.toNat ⟨s,f⟩ _).1),yS (runZ f.toNat ⟨s,f⟩<|a.zip b).2.s s.C.length s.T.length)
  else (((runZ f.toNat ⟨s,f⟩<|a.zip b).2.f,0),(runZ f.toNat ⟨s,f⟩<|a.zip b).2.s):=rfl
 rw [e0];refine acv (v193 (IR a) (IR b) f ..) ?_;rw [zn,zn];refine ⟨rfl,rfl,zQ (λq=> ?_) λq=>⟨_,V,za (λz=> ?_) λz=>⟨_,N,za (λx=> ?_) λx=>⟨s.C.length,s.T.length,M,IR a,iK<|IR a, ?_⟩⟩⟩⟩
 .rw [ri<|.inl<|by omega];exact rrl
 .rw [ri<|.inr<|.inl z];exact rrl
 .rw [ri<|.inr<|.inr x];exact rrl
 have m:a.length=b.length:=by omega
 rw [r8<|by rintro (w|w|w);exact w m;rw [z] at w;cases w;rw [x] at w;cases w];have d:=d m z x;have e:=e m;clear e0 V N M;have D:(a.zip b).length=a.length:=by simp [m]
 refine RPt.backI (sh:=sh) (lv:=lv193) (α:=Nat) (Inv:=λi=>i<=a.length) (idx:=λi=>i) (nx:=λi=>if i=a.length then 18 else 19) (m0:=15) (U:=[5,6,7]) (live:=[4,5,6,11,12,38]) (oc:=14) (es:=a) (x0:=a.length) (g:= .tmp 38) (env:=[(4, .c<|.a<|.ep 8 1 0 0),(5, .c<|.a<|.ep 9 1 0 0),(6, .c<|.a<|.ep 10 1 0 0),(11, .c<|.a<|.ep 11 2 0 0),(12, .c<|.a<|.ep 12 1 0 0),(38,fnI 229 14)])
  (H:=λi=>haH s f a b i) hP (by kernel_rfl) isBkI bTyI ?_ (by kernel_rfl) (by kernel_rfl) (by kernel_rfl) (by kernel_rfl) (λ_ _=>by split<;>omega) (λi _=>by unfold haH;split<;>rfl) (by omega) (λi o=>o) (λi k hk o j=> ?_) (r9 _) rfl (λi o J=> ?_)
 .refine Eq.mpr (v193_1an ..) ?_;unfold haH;rw [ri rfl,ri rfl]
 .have j:i=k+1:=j;have o:i<=a.length:=o;subst j;have E:k<b.length:=by omega
  have K:List.getD (IR a) (Int.toNat<|k) []=[.int .i64 a[k]]:=by rw [rt];exact w9 hk
  have O:List.getD (IR b) (Int.toNat<|k) []=[.int .i64 b[k]]:=by rw [rt];exact w9 E
  have G:(a.zip b).drop k=(a[k],b[k])::(a.zip b).drop (k+1):=by
   rw [List.drop_eq_getElem_cons<|by omega];simp
  have h:PR ((a.zip b).drop k).reverse=PR ((a.zip b).drop<|k+1).reverse++ [[.int .i64 a[k], .int .i64 b[k]]]:=by rw [G,tG,co];rfl
  have S:(PR ((a.zip b).drop<|k+1).reverse).length=a.length-(k+1):=by simp [bq,m]
  generalize a[k]=u at*;generalize b[k]=v at*;by_cases y:k+1=a.length
  .unfold haH;rw [ri y,ri y];refine Eq.mpr (od ..) ?_;rw [K,O,zn,zn];refine ⟨⟨rfl,by omega,by omega,rfl⟩,⟨rfl,by omega,by omega,rfl⟩,r9 _,by unfold zi;omega,k,⟨(by omega:k<=a.length),rfl⟩, ?_,by rw [r8<|by omega]⟩;rw [r8<|by omega,h,show a.length-k=1 by omega,show (a.zip b).drop (k+1)=[] from tw<|by omega];rfl
  .unfold haH;rw [r8 y,r8 y];refine Eq.mpr (nT ..) ?_;rw [K,O,zn,zn];refine ⟨⟨rfl,by omega,by omega,rfl⟩,⟨rfl,by omega,by omega,rfl⟩,r9 _,⟨by omega,by unfold zi;omega⟩,k,⟨(by omega:k<=a.length),rfl⟩, ?_,by rw [r8<|by omega]⟩;rw [r8<|by omega,h,show a.length-k=a.length-(k+1)+1 by omega,rp<|by omega];rfl
 .have J:i=0:=J;subst J;by_cases F:a=[]
  .subst F;have e0:runZ f.toNat ⟨s,f⟩ (([]).zip b)=(0,⟨s,f⟩):=by cases f.toNat<;>rfl
   rw [e0];have r:=c_wrun0 ⟨s,f⟩;unfold haH;rw [ri (show 0=([]).length from rfl),ri (show 0=([]).length from rfl)];refine Eq.mpr (pZ ..) ?_;exact ⟨(0,⟨s,f,0,[]⟩),r,bN rrl⟩
  .let ⟨I,R',r⟩:=d F
   have p:¬0=a.length:=λq=>F<|ru q.symm
   unfold haH;rw [r8 p,r8 p,tN,rR];rw [D] at r;generalize runZ f.toNat ⟨s,f⟩ (a.zip b)=w at*
   let ⟨X,L⟩:=w
   dsimp only at r e ⊢;have W:=c_undoZ e Y<|e.ok A
   refine Eq.mpr (lP ..) ?_;refine ⟨(X,⟨L.s,L.f,I,R'⟩),r,zQ (λq=> ?_) λq=> ?_⟩
   .rw [ri q];exact ⟨_,W, .refl _,rfl⟩
   .rw [r8 λw=>w q];exact rrl
def c_hUnify (s a b f)(h:AC Tryz.prog 193 [aH 0,aIs [a],aIs [b],ci f] (oH s) (t2 (allZ s [a] [b] f).1)<|oH' (allZ s [a] [b] f).2):AC Tryz.prog 163 [aH 0,ci a,ci b,ci f] (oH s) (t2 (allZ s [a] [b] f).1) (oH' (allZ s [a] [b] f).2):=by
 refine acv (v163 ..) ?_;exact ⟨by decide,by decide,((allZ s [a] [b] f).1.1,(allZ s [a] [b] f).1.2,(allZ s [a] [b] f).2),h, .refl _,rfl⟩
def c_hAllL (K:Nat)(e:K<=100000000000)(s:Hp)(h:GoodZ s)(ok:OkH s)(nm:NmB K s)(g:IH s)(a b:List Int)(f:Int)(j:a.length<=1000000)(m:b.length<=1000000)(f0:0<=f)(i:f<=100000):
  AC Tryz.prog 193 [aH 0,aIs a,aIs b,ci f] (oH s) (t2 (allZ s a b f).1) (oH' (allZ s a b f).2):=by
 have d:OkW K ⟨s,f⟩:=⟨ok,f0,by dsimp only;omega,nm,g⟩;refine c_hAll s h a b f (by omega) (by omega) (λ_ _ _ _=> ?_) (λ_=>(fq _ _ d<|by dsimp only;omega).mv) ok;exact c_wrun K e (runI_L K) ⟨s,f⟩ (a.zip b) ⟨d,by dsimp only;omega,by rw [List.length_zip];dsimp only;omega⟩
def CdOk (c:Cd):=vC c=true/\c.sz<=B/\okCd c/\∃m,0<=m/\m<=41/\0<=w7 c m
inductive Pc:Option Nat->Fr->Int->Nat->Prop
 |nil (H:Option Nat) (a:Int):Pc H .nil a 0
 |mk {H:Option Nat} {c:Cd} {s:SlO} {b d:Int} {k:Fr} {a:Int} {at_:Nat} {L:List Pl} {p:Int×Int} {q:Nat}:CdOk c->(slL s).length=c.sl.toNat->0<=b->d=frD k+1->0<=frD k->d<=1000000->Wt c L->L[at_]? =some (true,p)->0<=p.2->
   (∀x,c.ins[at_]? =some x->headK x.k=true->∃n,H=some n/\c.ar<=(n:Int))->Pc none k a q->Pc H (.mk c s b d k a) at_ (p.2.toNat+q)
inductive Im where
 |nil
 |mk (cs:List Cd) (s:SlO) (k:Im)
def imF:Im->FV
 |.nil=>npF
 |.mk cs s k=> .pt [.sl false 6<|FCs cs,slF s,imF k]
def imD:Im->Nat
 |.nil=>0
 |.mk _ _ k=>imD k+1
def ImOk:Im->Prop
 |.nil=>True
 |.mk cs s k=>(∀c∈cs,CdOk c/\c.fr<=((slL s).length:Int))/\cs.length<=60/\(slL s).length<=4096/\ImOk k
structure Ca where
 c:Cd
 s:SlO
def caR (x:Ca):=[.pt<|FC x.c,slF x.s]
def CaOk (n:Nat)(x:Ca):=CdOk x.c/\x.c.fr<=((slL x.s).length)/\(slL x.s).length<=4096/\x.c.ar<=n
structure Ch where
 m1:Nat
 m2:Nat
 lv:Int
 im:Im
 t:Fr
 ta:Int
 A:FV
 b:Fr
 ba:Int
 lf:FV
def chR (c:Ch):=[.int .i64 c.m1, .int .i64 c.m2, .int .i64 c.lv,imF c.im,frF c.t, .int .i64 c.ta,c.A,frF c.b, .int .i64 c.ba,c.lf]
def ClOk (n:Nat)(A:FV)(b:Fr)(ba:Int)(l:List Ca):Prop:=∃ws:List Int,A= .sl false 1 (IR ws)/\(∀x∈l,CaOk ws.length x)/\∃q,Pc none b ba q/\q<=n
def LfOk (n:Nat)(t:Fr)(ta:Int)(A:FV)(b:Fr)(ba:Int)(lf:FV):=
 (lf= .N/\∃q,Pc none t ta q/\q<=n)\/∃l,l ≠ []/\lf= .sl false 2 (l.map caR)/\ClOk n A b ba l
def ChOk (f:Int)(c:Ch):=ImOk c.im/\(imD c.im)+f<=3000/\LfOk (imD c.im) c.t c.ta c.A c.b c.ba c.lf
def ChOk.less {f g c}(h:ChOk f c)(b:g<=f):ChOk g c:=⟨h.1,by have:=h.2.1;omega,h.2.2⟩
def MkOk (s:Hp)(a b:Nat):Prop:=a<=s.C.length/\b<=s.T.length/\∀e∈s.T.take b,e.o<(a:Int)/\e.top<(a:Int)
def LtZ (s t:Hp):=s.C.length<=t.C.length/\∃D,t.T=s.T++D
def MkOk.later {s t a b}(h:MkOk s a b)(g:LtZ s t):MkOk t a b:=by
 let ⟨i,D,f⟩:=g
 refine ⟨sI h.1 i,by rw [f,re];have:=h.2.1;omega,λe d=>h.2.2 e ?_⟩;rw [f,List.take_append_of_le_length h.2.1] at d;exact d
def MkOk.now {s}(g:GoodZ s):MkOk s s.C.length s.T.length:=⟨r9 _,r9 _,λe b=>(g e<|sA b).2⟩
def MkOk.undo {s a b n k}(h:MkOk s a b)(g:MkOk s n k)(j:a<=n)(i:b<=k):MkOk (yS s n k) a b:=by
 have f:(yS s n k).T=s.T.take k:=rfl;refine ⟨?_, ?_,λe d=>h.2.2 e ?_⟩
 .have:=g.1;simp [yS,ry,yK];omega
 .rw [f,ry];have:=h.2.1;omega
 .rw [f,List.take_take,sD i] at d;exact d
def iM {s n k}(g:MkOk s n k)(f:GoodZ s)(ok:OkH s):GoodZ (yS s n k)/\OkH (yS s n k):=by
 have b:(yS s n k).C.length=n:=by have:=g.1;simp [yS,ry,yK];omega
 refine ⟨λe d=> ?_,⟨by rw [b];have:=g.1;have:=ok.C;omega,ok.M, ?_,ok.L⟩⟩
 .rw [b];exact ⟨(f e<|sA d).1,g.2.2 e d⟩
 .show (s.T.take k).length<=_;have:=ok.T;rw [ry];omega
structure Gs where
 P:List Cd
 T:FV
 V:List Int
structure Bs (G:Gs)(K:Nat)(m:Ma)(ch:List Ch)(i:Im):Prop where
 h:OkH m.s
 g:GoodZ m.s
 n:NmB K m.s
 ih:IH m.s
 S:m.S<=300
 P:m.P= .sl false 6 (FCs G.P)
 T:m.T=G.T
 V:FV.L 1 m.V=true/\FV.ses m.V=IR G.V
 o:m.o=npF
 f0:0<=m.f
 f1:m.f<=3000
 I:m.I=imF i
 i1:ImOk i
 i2:(imD i:Int)+m.f<=3000
 a:∃ws,m.A= .sl false 1 (IR ws)\/m.A= .N/\ws=[]
 cn:m.n=ch.length
 c3:m.n<=300
 cr:m.C.take m.n=ch.map chR
 mks:∀c∈ch,MkOk m.s c.m1 c.m2
 so:ch.Pairwise λa b=>a.m1<=b.m1/\a.m2<=b.m2
 ok:∀c∈ch,ChOk m.f c
def Go (m:Ma)(i:Im):Prop:=∃(k:Fr) (ws:List Int) (q:Nat),m.nf=frF k/\(m.A= .sl false 1 (IR ws)\/m.A= .N/\ws=[])/\Pc (some ws.length) k m.na q/\q<=imD i
def Ov (m:Ma):=∃k e,k≠0/\m.o=evM k e
def Po (G:Gs)(K:Nat)(F o:Int)(m:Ma):Prop:=(o=0/\m.f<=F/\∃ch i,Bs G K m ch i/\Go m i)\/(o=1/\m.f<=F/\∃ch i,Bs G K m ch i)\/o=2/\Ov m
def Bs.len {G K m b i}(h:Bs G K m b i):m.n<=m.C.length:=by
 have:=si List.length h.cr;rw [ry,sc,<-h.cn] at this;omega
def Bs.mv {G:Gs}{K K':Nat}{m:Ma}{e:List Ch}{i:Im}(h:Bs G K m e i){s:Hp}{f:Int}(d:Mv true m.s s)(ok:OkH s)(nm:NmB K' s)(f0:0<=f)(u:f<=m.f):Bs G K' { m with s:=s,f:=f } e i:=by
 obtain ⟨r,j⟩:=d.later h.g;have p:LtZ m.s s:=⟨j.1,j.2.imp λ_ h=>h.1⟩;exact ⟨ok,r,nm,d.ih h.ih,h.S,h.P,h.T,h.V,h.o,f0,by have:=h.f1;dsimp only;omega,h.I,h.i1,by have:=h.i2;dsimp only;omega,h.a,h.cn,h.c3,h.cr,λc b=>(h.mks c b).later p,h.so,λc b=>(h.ok c b).less u⟩
def Bs.gr {G K m b i}(h:Bs G K m b i){s}(g:Gr m.s s):Bs G K { m with s:=s } b i:=
 h.mv g.1 (g.2.1 h.h) (g.2.2 K h.n) h.f0 (rk _)
def Bs.up {G K K' m b i}(h:Bs G K m b i)(d:K<=K'):Bs G K' m b i:=
 { h with n:=by have:=h.n;unfold NmB at*;omega }
def uq {m l e}(b:e≠0)(d:e≠170):(y3 m l e).1=2/\Ov (y3 m l e).2:=by
 unfold y3;rw [r8 b,r8 d];split
 .exact ⟨rfl,4,0,by decide,rfl⟩
 .split
  .exact ⟨rfl,5,e,by decide,rfl⟩
  .split
   .exact ⟨rfl,3,e,by decide,rfl⟩
   .exact ⟨rfl,2,0,by decide,rfl⟩
abbrev aCh (t:Fr)(ta:Int)(A:FV)(b:Fr)(ba:Int)(lf:FV):TV:= .agg [qi 0,qi 0,qi 0,qf npF,qf<|frF t,qi ta,qf A,qf<|frF b,qi ba,qf lf]
def jd (m:Ma)(t:Fr)(ta:Int)(A:FV)(b:Fr)(ba:Int)(lf:FV):Int×Ma:=
 if m.S<=m.n then (202,m) else (0,{ m with n:=m.n+1,C:=m.C.take m.n++ [[.int .i64 m.s.C.length, .int .i64 m.s.T.length, .int .i64 m.L,m.I,frF t, .int .i64 ta,A,frF b, .int .i64 ba,lf]] })
def c_push (m)(f:m.n<=m.C.length)(g:m.S<=300)(t d A b ba e):AC Tryz.prog 83 [aM,aCh t d A b ba e] (mOb m []) (ci (jd m t d A b ba e).1) (mSb (jd m t d A b ba e).2 []):=by
 refine acv (v83 ..) ?_;unfold jd;refine za (λh=> ?_) λh=> ?_
 .rw [ri<|ro h];exact rrl
 .have h:=rg h;rw [r8 h];exact ⟨_,_,oa m.s,r9 _,⟨f,by unfold zi;omega⟩, .refl _,rfl⟩
def Bs.push {G K m j i}(h:Bs G K m j i)(t d A b ba e)(r:LfOk (imD i) t d A b ba e):
  (jd m t d A b ba e).1=202\/(jd m t d A b ba e).1=0/\(jd m t d A b ba e).2.f<=m.f/\(jd m t d A b ba e).2.s=m.s/\(jd m t d A b ba e).2.nf=m.nf/\(jd m t d A b ba e).2.na=m.na/\(jd m t d A b ba e).2.A=m.A/\Bs G K (jd m t d A b ba e).2 (j++ [⟨m.s.C.length,m.s.T.length,m.L,i,t,d,A,b,ba,e⟩]) i:=by
 unfold jd;split
 .exact .inl rfl
 .rename_i w;have u:=h.S;refine .inr ⟨rfl,rk _,rfl,rfl,rfl,rfl,{ h with c3:=by dsimp only;omega,cn:= ?_,cr:= ?_,mks:= ?_,so:= ?_,ok:= ?_ }⟩
  .simp [h.cn]
  .have v:=h.len;show List.take _ _=_;rw [rp<|by simp;omega,h.cr,th,h.I];rfl
  .intro c hc;rcases rS.1 hc with hc|hc
   .exact h.mks c hc
   .rw [rM.1 hc];exact MkOk.now h.g
  .refine List.pairwise_append.2 ⟨h.so,List.pairwise_singleton ..,λx o y p=> ?_⟩;rw [rM.1 p];exact ⟨(h.mks x o).1,(h.mks x o).2.1⟩
  .intro c hc;rcases rS.1 hc with hc|hc
   .exact h.ok c hc
   .rw [rM.1 hc];exact ⟨h.i1,h.i2,r⟩
def Pc.dep {H k a q}(h:Pc H k a q):0<=frD k/\frD k<=1000000:=by
 cases h with
 |nil=>exact ⟨rk _,by decide⟩
 |mk _ _ _ b e d=>exact ⟨by rw [frD,b];omega,d⟩
def CdOk.cnt {c}(h:CdOk c):0<=c.ar/\0<=c.fr/\c.fr<=4096/\0<=c.vs/\c.vs<=4096/\c.sl<=4096/\c.fr+c.vs<=c.sl:=by
 have:=ro (vC_eq h.1).1;omega
def Pc.first {c:Cd}{o:SlO}{b d:Int}{k:Fr}{a:Int}{q n:Nat}(e:CdOk c)(p:(slL o).length=max (c.fr.toNat+c.vs.toNat) c.sl.toNat)(i:0<=b)(hd:d=frD k+1)(f:d<=1000000)(j:c.ar<=(n:Int))(g:Pc none k a q):Pc (some n) (.mk c o b d k a) 0 q:=by
 have r:=e.cnt;obtain ⟨_,L,h,m⟩:=code_tab e.1;have:=Pc.mk (H:=some n) e (show (slL o).length=c.sl.toNat by omega) i hd g.dep.1 f h m (rk 0) (λx _ _=>⟨n,rfl,j⟩) g;simpa using this
abbrev mFr (m:Ma)(n:Int)(c:Cd)(b d:Int)(k:Fr)(a:Int)(A:FV)(o:SlO):List AObj:= .arr 14 [[.a<|.ep 1 6 0 0,qf m.P,qf m.T,qi m.S,qf m.V, .a<|.ep 10 6 0 0,qi n,qf A,qi m.L,qf m.I, .a<|.osl (slN 11 o) 10 0 m.n,qi m.f,qf<|.bool m.w,qf m.o]]::
 hpO 7 8 9 5 m.s:: .gone:: .gone:: .gone:: .mapz (NM m.s.N 0):: .gone:: .arz 5 (CR m.s.C):: .arz 7 (TR m.s.T):: .arz 1 (NR m.s.N):: .arr 6 [[qf<|.pt<|FC c,slW 11 o,qi b,qi d,qf<|frF k,qi a]]::(slB o++ [.arz 10 m.C])
def ice_sl (n k:Nat)(x s):AV.ice n 1 (IR<|x::s) (.osl n 1 0 (x::s).length)= .fz (.sl true 1<|IR<|x::s):=by
 have e:(IR<|x::s).length=(x::s).length:=by simp [IR]
 rw [AV.ice,ri ⟨rfl,rfl,by rw [e];omega⟩,rR,rp<|by rw [e];exact r9 _];rfl
def fr_ice {f args Hs m n c b d k a A o}(e:Hs.length<=10)(h:AC Tryz.prog f args Hs (ci 0)<|mFr m n c b d k a A o):
  AC Tryz.prog f args Hs (ci 0) (mSb { m with nf:=frF (.mk c o b d k a),na:=n,A:=A } []):=by
 match o,h with
 |none,h=>exact (h.ice 10 6 [[.pt _, .N, .int .i64 b, .int .i64 d,frF k, .int .i64 a]] rfl).skip 10 1 _ _ rfl rfl rfl rfl e (by simp;omega)
 |some [],h=>exact (h.ice 10 6 [[.pt<|FC c, .z0 true, .int .i64 b, .int .i64 d,frF k, .int .i64 a]] rfl).skip 10 1 _ (ci 0) rfl rfl rfl rfl e (by simp;omega)
 |some (x::s),h=>
  have g:AC Tryz.prog f args Hs _ (.arr 14 [[.a _,qf m.P,qf m.T,qi m.S,qf m.V, .a _,qi n,qf A,qi m.L,qf m.I, .a _,qi m.f,qf _,qf m.o]]::
   hpO 7 8 9 5 m.s:: .gone:: .gone:: .gone:: .mapz _:: .gone:: .arz 5 _:: .arz 7 _:: .arz 1 _:: .arr 6 [[qf _, .a _,qi b,qi d,qf _,qi a]]:: .gone::[.arz 10 m.C]):=h.ice 11 1 _ rfl
  rw [ice_sl 11 0] at g;exact (g.ice 10 6 [[.pt _, .sl true 1 _, .int .i64 b, .int .i64 d,frF k, .int .i64 a]] rfl).skip 10 2 _ _ rfl rfl rfl rfl e (by simp;omega)
def cH {m:Ma}{o}:∀a,a∈slB o\/a= .arz 10 m.C->isLive a:=λa h=>h.elim (WB o a) λh=>by rw [h];trivial
def gi {G K m L i}(h:Bs G K m L i){A b ba l}(hc:ClOk (imD i) A b ba l):
  ∃o I,AC Tryz.prog 77 [aM, .agg [qf A,qf<|frF b,qi ba], .c<|qf<|.sl false 2<|l.map caR] (mOb m []) (ci o) (mSb I [])/\Po G K m.f o I/\(l ≠ []->o≠1):=by
 let ⟨X,V,Y,q,W,H⟩:=hc
 have hd:=W.dep;cases l with
 |nil=>
  refine ⟨1,m, ?_, .inr<|.inl ⟨rfl,rk _,L,i,h⟩,λw=>absurd rfl w⟩;refine acv (v77 ..) ?_;exact ⟨rfl, .refl _,rfl⟩
 |cons x l=>
  let ⟨Z,x2,x3,x4⟩:=Y x rn
  have xc:=Z.cnt
  have fr:∀d r,Bs G K d r i->∃j,Gr d.s j/\((∃e,(e=200\/e=202)/\AC Tryz.prog 35 [aM,aCn x.c x.s,aPl b ba] (mOb d []) (errT e) (mSb { d with s:=j } []))\/
    ∃o,(slL o).length=max (x.c.fr.toNat+x.c.vs.toNat) x.c.sl.toNat/\frD b+1<=d.S/\AC Tryz.prog 35 [aM,aCn x.c x.s,aPl b ba] _ _ _):=
   λd r M=>c_frameA d x.c x.s b ba M.h ⟨xc.2.1,x2⟩ (by omega) (by omega) (by omega) hd
  have fin:∀d r j o,Bs G K d r i->d.f<=m.f->Gr d.s j->(slL o).length=max _ x.c.sl.toNat->frD b+1<=d.S->
    AC Tryz.prog 77 [aM, .agg [qf A,qf _,qi ba], .c _] (mOb m []) (ci 0) (mFr { d with s:=j } 0 x.c m.n (frD b+1) b ba A o)->
    ∃o I,AC Tryz.prog 77 [aM, .agg [qf A,qf<|frF b,qi ba], .c<|qf<|.sl false 2<|(x::l).map caR] (mOb m []) (ci o) (mSb I [])/\Po G K m.f o I/\(x::l ≠ []->o≠1):=λd r j o M p g E J T=>by
   have C:=M.gr g;have hS2:=M.S;refine ⟨0,_,fr_ice (by simp) T, .inl ⟨rfl,p,r,i,{ C with a:=⟨X, .inl V⟩ }, .mk x.c o m.n (frD b+1) b ba,X,q,rfl, .inl V, ?_,H⟩,λ_=>by decide⟩
   exact Pc.first Z E (by omega) rfl (by omega) x4 W
  have N:∀(d:Ma) j e,(e=200\/e=202)->(y3 { d with s:=j } d.f e).1=2/\Ov (y3 { d with s:=j } d.f e).2:=λd j e v=>uq (by omega) (by omega)
  by_cases u:l=[]
  .subst u;obtain ⟨j,g,⟨e,v,p⟩|⟨o,E,J,p⟩⟩:=fr m L h
   .refine ⟨_,_, ?_, .inr<|.inr<|N m j e v,λ_=>by rw [(N m j e v).1];decide⟩;refine acv (v77 ..) ?_;refine ⟨rfl,bN ⟨rfl,bN ⟨⟨rfl,rk _,by simp,rfl⟩, .inl ⟨(e,_),p,za (λ_=>⟨y3 { m with s:=j } m.f e, ?_, .refl _, ?_⟩) λq=>by rcases v with rfl|rfl<;>cases q⟩⟩⟩⟩
    .rw [zF];exact dM _ _ _
    .rw [zF]
   .refine fin m L j o h (rk _) g E J ?_;refine AC.vc hP sh lv77 (by simp) (by simp [isLive,moO]) (by simpa [isLive] using cH)<|Eq.mpr (v77 ..) ?_
    refine ⟨rfl,bN ⟨rfl,bN ⟨⟨rfl,rk _,by simp,rfl⟩, .inr ?_⟩⟩⟩
    match o,p with
    |none,p=>exact .inr ⟨({ m with s:=j }, .pt<|FC x.c, .N,m.n,frD b+1,frF b,ba),p, .refl _,rfl⟩
    |some [],p=>exact .inr ⟨({ m with s:=j }, .pt<|FC x.c, .z0 true,m.n,frD b+1,frF b,ba),p, .refl _,rfl⟩
    |some (y::s),p=>exact .inl ⟨({ m with s:=j }, .pt<|FC x.c,y::s,m.n,frD b+1,frF b,ba),p, .refl _,rfl⟩
  .have D:1<(((x::l).map caR).length:Int):=by
    cases l with
    |nil=>exact absurd rfl u
    |cons=>simp;omega
   have e:List.drop 1 (List.take (Int.toNat<|(((x::l).map caR).length))<|(x::l).map caR)=l.map caR:=by rw [rt,rp<|r9 _];rfl
   have U:LfOk (imD i) .nil 0 A b ba (.sl false 2<|List.drop 1<|List.take (Int.toNat<|(((x::l).map caR).length:Nat))<|(x::l).map caR):= .inr ⟨l,u,by rw [e],X,V,λy hy=>Y y<|rh _ hy,q,W,H⟩;have F:=c_push m h.len h.S .nil 0 A b ba<|.sl false 2<|List.drop 1<|List.take (Int.toNat ((((x::l).map caR).length:Nat):Int))<|(x::l).map caR
   have C:=h.push .nil 0 A b ba _ U;generalize jd m .nil 0 A b ba (.sl false 2<|List.drop 1<|List.take (Int.toNat ((((x::l).map caR).length:Nat):Int))<|(x::l).map caR)=z at F C
   let ⟨z1,d⟩:=z
   dsimp only at F C;rcases C with rfl|⟨rfl,O,hs1,_,_,_,C⟩
   .refine ⟨_,_, ?_, .inr<|.inr<|uq (m:=d) (l:=d.f) (e:=202) (by decide)<|by decide,λ_=>by rw [(uq (by decide)<|by decide).1];decide⟩;refine acv (v77 ..) ?_;refine ⟨rfl,za (λq=>by simp at q;omega) λ_=>⟨rfl,bT D ⟨rfl,⟨by decide,by omega,rk _⟩,(202,d),F,bP ⟨y3 d d.f 202, ?_, .refl _, ?_⟩⟩⟩⟩
    .rw [zF];exact dM _ _ _
    .rw [zF]
   .obtain ⟨j,g,⟨e,v,p⟩|⟨o,E,J,p⟩⟩:=fr d _ C
    .refine ⟨_,_, ?_, .inr<|.inr<|N d j e v,λ_=>by rw [(N d j e v).1];decide⟩;refine acv (v77 ..) ?_;refine ⟨rfl,za (λq=>by simp at q;omega) λ_=>⟨rfl,bT D ⟨rfl,⟨by decide,by omega,rk _⟩,(0,d),F,bN ⟨⟨rfl,rk _,by omega,rfl⟩, .inl ⟨(e,_),p,za (λ_=>⟨y3 { d with s:=j } d.f e, ?_, .refl _, ?_⟩) λq=>by rcases v with rfl|rfl<;>cases q⟩⟩⟩⟩⟩
     .rw [zF];exact dM _ _ _
     .rw [zF]
    .refine fin d _ j o C O g E J ?_;refine AC.vc hP sh lv77 (by simp) (by simp [isLive,moO]) (by simpa [isLive] using cH)<|Eq.mpr (v77 ..) ?_
     refine ⟨rfl,za (λq=>by simp at q;omega) λ_=>⟨rfl,bT D ⟨rfl,⟨by decide,by omega,rk _⟩,(0,d),F,bN ⟨⟨rfl,rk _,by omega,rfl⟩, .inr ?_⟩⟩⟩⟩
     match o,p with
     |none,p=>exact .inr ⟨({ d with s:=j }, .pt<|FC x.c, .N,d.n,frD b+1,frF b,ba),p, .refl _,rfl⟩
     |some [],p=>exact .inr ⟨({ d with s:=j }, .pt<|FC x.c, .z0 true,d.n,frD b+1,frF b,ba),p, .refl _,rfl⟩
     |some (y::s),p=>exact .inl ⟨({ d with s:=j }, .pt<|FC x.c,y::s,d.n,frD b+1,frF b,ba),p, .refl _,rfl⟩
def dA:∀(D) (C),(∀c∈C,c.t=2->N64 c.a)->(∀e∈D,e.x.t=2->N64 e.x.a)->∀c∈vo D C,c.t=2->N64 c.a
 |[],_,h,_=>h
 |e::D,C,h,hD=>λc hc=>by
  have ih:=dA D C h λx b=>hD x<|rh _ b
  have hc:=hc;rcases sM hc with hc|hc
  .exact ih c hc
  .rw [hc];exact hD e rn
def undo_ih {s}(h:IH s)(n k):IH (yS s n k):=
 ⟨λc d=>dA _ _ h.1 (λe b=>h.2 e<|tI b) c<|sA d,λe b=>h.2 e<|sA b⟩
def Pc.arg {k a q}(h:Pc none k a q)(n):Pc (some n) k a q:=by
 cases h with
 |nil=>exact .nil _ _
 |mk u j r v p o f e i b d=>exact .mk u j r v p o f e i (λx m g=>by let ⟨_,h,_⟩:=b x m g;cases h) d
def c_back {G K m b i}(h:Bs G K m b i):
  ∃o w,AC Tryz.prog 47 [aM] (mOb m []) (ci o) (mSb w [])/\Po G (K+1048576) m.f o w/\o≠1:=by
 have r:=h.cn;have p:=h.cr;have O:=h.len;have hS:=h.S;rcases tg b with rfl|⟨b,c,rfl⟩
 .have J:m.n=0:=by simpa using r
  refine ⟨2,{ m with o:=evM 1 0 }, ?_, .inr<|.inr ⟨rfl,1,0,by decide,rfl⟩,by decide⟩
  refine acv (v47 ..) ?_;rw [J];exact za (λ_=>⟨(2,{ m with o:=evM 1 0 }),vL m 1 0, .refl _,by rw [<-J]⟩) λq=>absurd (rg q) (by decide)
 .rw [List.concat_eq_append] at*;have hn:m.n=b.length+1:=by simpa using r
  have U:wrap .i64 ((m.n)-1)=b.length:=by
   have:=h.c3;rw [w64 (by omega)<|by omega];omega
  have V:List.getD m.C (0+Int.toNat b.length) []=chR c:=by
   have q:(List.take m.n m.C)[b.length]? =(List.map chR<|b++ [c])[b.length]? :=by rw [p]
   rw [rU,ri<|by omega,rq,List.getElem?_append_right<|r9 _,Nat.sub_self] at q;rw [rD,rt,List.getD,q];rfl
  have E:=h.ok c (by simp);have j:=h.mks c (by simp);have y:=h.so;rw [List.pairwise_append] at y
  let ⟨Y,g2⟩:=iM j h.g h.h
  have hT:=h.h.T;have W:=pK m.s c.m1 c.m2 j.2.1 (by omega) j.1 (λe A=>⟨(h.g e A).1,(h.g e A).2.1⟩) λe A=>(j.2.2 e A).2
  have H:Bs G (K+1048576) { m with s:=yS m.s c.m1 c.m2,L:=c.lv,I:=imF c.im,n:=b.length } b c.im:={ h with
   h:=g2,g:=Y,ih:=undo_ih h.ih _ _,I:=rfl,i1:=E.1,i2:=E.2.1,cn:=rfl
   n:=by
    have:=h.n;have:=h.h.C;show m.s.N.length<=_;unfold NmB at*;omega
   c3:=by have:=h.c3;dsimp only;omega
   cr:=by
    have q:(List.take m.n m.C).take b.length=(List.map chR<|b++ [c]).take b.length:=by rw [p]
    rw [List.take_take,sD<|by omega,<-t9,List.take_left] at q;exact q
   mks:=λx u=>(h.mks x<|by simp [u]).undo j (y.2.2 x u c<|by simp).1 (y.2.2 x u c<|by simp).2
   so:=y.1
   ok:=λx u=>h.ok x (by simp [u]) }
  have z:0<=(b.length:Int)/\b.length<(m.n:Int):=by omega
  rcases E.2.2 with ⟨d,q,Z,F⟩|⟨l,v,d,D⟩
  .refine ⟨0,{ m with s:=yS m.s c.m1 c.m2,L:=c.lv,I:=imF c.im,n:=b.length,nf:=frF c.t,na:=c.ta }, ?_, .inl ⟨rfl,rk _,b,c.im,{ H with }, ?_⟩,by decide⟩
   .refine acv (v47 ..) ?_;rw [U,V]
    exact za (λq=>absurd (ro q)<|by omega) λ_=>⟨z,⟨by rw [rt];omega,rfl,rfl⟩,⟨by decide,z.1,by omega⟩,_,W,by show FV.L 2 c.lf=true;rw [d];rfl,za (λq=>by
     have q:(decide (((FV.ses c.lf).length:Int)>0))=true:=q;rw [d] at q;cases q) λ_=>rrl⟩
   .let ⟨X,hw⟩:=h.a
    exact ⟨c.t,X,q,rfl,hw,Z.arg _,F⟩
  .let ⟨o,w,M,hp,h1⟩:=gi H D
   rw [<-d] at M;refine ⟨o,w, ?_,hp,h1 v⟩;refine acv (v47 ..) ?_;rw [U,V]
   exact za (λq=>absurd (ro q)<|by omega) λ_=>⟨z,⟨by rw [rt];omega,rfl,rfl⟩,⟨by decide,z.1,by omega⟩,_,W,by show FV.L 2 c.lf=true;rw [d];rfl,za (λ_=>⟨(o,w),M, .refl _,rfl⟩) λq=>by
    have q:(decide (((FV.ses c.lf).length:Int)>0))=false:=q;rw [d] at q;cases l with
    |nil=>exact absurd rfl v
    |cons=>simp [FV.ses] at q⟩
def acW (k:Nat):List Ca->WV
 |[]=> .a<|.fz .N
 |x::l=> .a<|.osl k 2 0 (x::l).length
def acB:List Ca->List AObj
 |[]=> []
 |x::l=> [.arz 2<|(x::l).map caR]
def acN (k:Nat):List Ca->Nat
 |[]=>k
 |_::_=>k+1
def i7 (nm ar k):∀(l) (i z),z∈selL nm ar k l i->∃(n:Nat) (c:Cd),z=i+n/\l[n]? =some c/\c.ar=ar
 |[],i,z,h=>by cases h
 |c::l,i,z,h=>by
  have e:z∈selL nm ar k l _->∃(n:Nat) (b:Cd),z=i+n/\(c::l)[n]? =some b/\b.ar=ar:=λh=>by
   let ⟨n,b,g,f,d⟩:=i7 nm ar k l (i+1) z h
   exact ⟨n+1,b,by omega,by grind,d⟩
  rw [selL] at h;split at h
  .rename_i q;rcases rG.1 h with rfl|h
   .simp [rf,rT] at q;exact ⟨0,c,by omega,rfl,q.2.1⟩
   .grind
  .grind
def fc_get {cs z c}(h:cs[z]? =some c):List.getD (FCs cs) z []=FC c/\z<(FCs cs).length:=by
 let ⟨b,_⟩:=rr.1 h
 exact ⟨by rw [jU];simp [List.getD,h],by rw [zq];exact b⟩
abbrev fcR (c:Cd):List FV:=[.str c.nm, .int .i64 c.ar, .int .i64 c.fr, .int .i64 c.vs, .int .i64 c.sl, .sl false 8<|FIs c.ins]
def mU (x l y c)(h:y=caR c):List.take (x::l).length ((x::l).map caR)++ [y]=(x::(l++ [c])).map caR:=by
 rw [rp<|by simp,h];simp
abbrev st9 (m:Ma)(zs:List Int)(i:Int)(acc:List Ca):St:=⟨[(4, .c<|.a<|.ep 7 1 0 0),(9, .c<|acW 8 acc),(56,aIs zs),(57,ci<|((IR zs).length)),(58,ci i)],numO 0<|mOb m<|.arr 1 [[.a<|.ep 0 14 0 0]]::acB acc,acN 8 acc⟩
def iW (m)(G:Gs)(n)(v:m.P= .sl false 6 (FCs G.P))(i:List Int)(A:∀z∈i,∃(j:Nat) (c:Cd),z=j/\G.P[j]? =some c/\CaOk n ⟨c,none⟩):∀(b a) (acc),i=a++b->acc.length+b.length<=1000000->i.length<=1000000->(∀x∈acc,CaOk n x)->
  ∃l:List Ca,(∀x∈l,CaOk n x)/\RPt Tryz.prog 124 7 (.c<|qf<|.sl false 2<|l.map caR) (mOb m []) 9 (st9 m i a.length acc)
 |[],a,acc,d,o,h,u=>by
  have e:i=a:=by simpa using d
  have p:¬a.length<(((IR i).length):Int):=by rw [zn,e];omega
  refine ⟨acc,u, ?_⟩
  match acc with
  |[]=>exact rpv (iG ..)<|bF p ⟨.c _ _<|.a _ _<|.fz _ _<|.N 2,rfl⟩
  |x::l=>
   refine rpv (mW ..)<|bF p ⟨⟨rfl,by simp⟩, ?_⟩
   rw [rR,rp<|by simp];exact rrl
 |z::b,a,acc,d,o,h,u=>by
  obtain ⟨j,c,rfl,H,D⟩:=A z (by rw [d];simp)
  let ⟨J,K⟩:=fc_get H
  have r:=Kz a j b;rw [<-d] at r;have f:=pF a j b;rw [<-d] at f
  let ⟨l,F,g⟩:=iW m G n v i A b (a++ [(j:Int)]) (acc++ [⟨c,none⟩]) (by rw [d];simp) (by simp at o ⊢;omega) h (λx hx=>by
   rcases rS.1 hx with hx|hx
   .exact u x hx
   .rw [rM.1 hx];exact D)
  refine ⟨l,F, ?_⟩;have L:a.length<=1000000:=by rw [d] at h;simp at h;omega
  have I:((a++ [(j:Int)]).length)=wrap .i64 (a.length+1):=by rw [w64 (by omega)<|by omega];simp
  rw [I] at g;have w:List.getD (FV.ses m.P) (Int.toNat<|FV.I<|List.getD [FV.int .i64 j] 0 FV.N) []=FC c:=by rw [v];exact J
  have el1:FV.L 6 m.P=true/\(0<=FV.I (List.getD [FV.int .i64 j] 0 FV.N)/\(FV.I (List.getD [FV.int .i64 j] 0 FV.N)<(((FV.ses m.P).length))/\fcR c=FC c)):=by
   rw [v];exact ⟨rfl,Int.natCast_nonneg _,by show j<(((FCs G.P).length):Int);omega,(yZ c).symm⟩
  have y:[FV.pt<|fcR c,FV.N]=caR ⟨c,none⟩:=by rw [caR,yZ];rfl
  have C:0<=(a.length:Int):=by omega
  match acc,o,g with
  |[],_,g=>
   refine rpv (iG ..) ?_;rw [r,w,FC0,FC1,FC2,FC3,FC4,FC5];refine bT f ⟨⟨rfl,C,f,rfl⟩,el1,r9 _,by decide, ?_⟩;have g:RPt Tryz.prog 124 7 (.c<|qf<|.sl false 2<|l.map caR) (mOb m []) 9 ⟨[(4, .c<|.a<|.ep 7 1 0 0),(9, .c<|.a<|.osl 8 2 0 1),(56,aIs i),(57,ci (((IR i).length:Nat):Int)),(58,ci<|wrap .i64<|(a.length:Int)+1)],numO 0<|mOb m [.arr 1 [[.a<|.ep 0 14 0 0]], .arz 2 [caR ⟨c,none⟩]],9⟩:=g;rw [<-y] at g;exact g
  |x::t,o,g=>
   refine rpv (mW ..) ?_;rw [r,w,FC0,FC1,FC2,FC3,FC4,FC5];refine bT f ⟨⟨rfl,C,f,rfl⟩,el1,r9 _,⟨by simp,by simp at o ⊢;unfold zi;omega⟩, ?_⟩;rw [mU x t _ ⟨c,none⟩ y];have E:(x::t).length+1=(x::(t++ [⟨c,none⟩])).length:=by simp
   rw [E];exact g
abbrev hpC (m:Ma)(nm:List UInt8)(ar:Int)(k:Key)(acc:List Ca):=numO 0<|mOb m<|.arr 1 [[.a<|.ep 0 14 0 0]]:: .arr 1 [[qf<|.str nm]]:: .arr 1 [[qi ar]]:: .arr 5 [[qf<|.bool k.any,qi k.k,qf<|.str k.nm,qi k.n,qi k.ar]]::acB acc
abbrev st1 (m:Ma)(nm:List UInt8)(ar:Int)(k:Key)(i:Im)(acc:List Ca):St:=⟨[(4, .c<|.a<|.ep 7 1 0 0),(5, .c<|.a<|.ep 8 1 0 0),(6, .c<|.a<|.ep 9 1 0 0),(7, .c<|.a<|.ep 10 5 0 0),(9, .c<|acW 11 acc),(10, .c<|qf<|imF i)],hpC m nm ar k acc,acN 11 acc⟩
abbrev st5 (m:Ma)(nm:List UInt8)(ar:Int)(k:Key)(i:Im)(zs:List Int)(j:Int)(acc:List Ca):St:=⟨[(4, .c<|.a<|.ep 7 1 0 0),(5, .c<|.a<|.ep 8 1 0 0),(6, .c<|.a<|.ep 9 1 0 0),(7, .c<|.a<|.ep 10 5 0 0),(9, .c<|acW 11 acc),(10, .c<|qf<|imF i),(33,aIs zs),(34,ci<|((IR zs).length)),(35,ci j)],hpC m nm ar k acc,acN 11 acc⟩
def pkC (cs_:List Cd)(s:SlO)(z:Int):List Ca:=match cs_[z.toNat]? with
 |some c=> [⟨c,s⟩]
 |none=> []
def nj (m nm ar k d s i r H)
  (o:List Int) (E:∀z∈o,∃(j:Nat) (c:Cd),z=j/\d[j]? =some c):∀(b a) (acc),o=a++b->acc.length+b.length<=1000000->o.length<=1000000->
  RPt Tryz.prog 124 7 r H 1 (st1 m nm ar k i<|acc++b.flatMap (pkC d s))->RPt Tryz.prog 124 7 r H 5 (st5 m nm ar k (.mk d s i) o a.length acc)
 |[],a,acc,f,v,p,u=>by
  have e:o=a:=by simpa using f
  have w:¬(a.length:Int)<(((IR o).length):Int):=by rw [zn,e];omega
  rw [List.flatMap_nil,rF] at u
  match acc,u with
  |[],u=>exact rpv (iL ..)<|bF w <| zc rfl (zc rfl (zc (by cases i<;>rfl) u))
  |x::l,u=>exact rpv (mL ..)<|bF w <| zc rfl (zc rfl (zc (by cases i<;>rfl) u))
 |z::b,a,acc,f,v,p,u=>by
  obtain ⟨j,c,rfl,C⟩:=E z (by rw [f];simp)
  let ⟨J,M⟩:=fc_get C
  have y:=Kz a j b;rw [<-f] at y;have h:=pF a j b;rw [<-f] at h;have L:pkC d s j=[⟨c,s⟩]:=by rw [pkC,rt,C]
  rw [tP,L,<-sm] at u;have g:=nj m nm ar k d s i r H o E b (a++ [(j:Int)]) (acc++ [⟨c,s⟩]) (by rw [f];simp) (by simp at v ⊢;omega) p u;have N:a.length<=1000000:=by rw [f] at p;simp at p;omega
  have I:((a++ [(j:Int)]).length:Int)=wrap .i64 ((a.length:Int)+1):=by rw [w64 (by omega)<|by omega];simp
  rw [I] at g;have A:List.getD (FV.ses<|List.getD (FV.prow<|imF<|.mk d s i) 0 FV.N) (Int.toNat<|FV.I<|List.getD [FV.int .i64 j] 0 FV.N) []=FC c:=J
  have el1:FV.L 6 (List.getD (FV.prow<|imF<|.mk d s i) 0 FV.N)=true/\(0<=FV.I (List.getD [FV.int .i64 j] 0 FV.N)/\(FV.I (List.getD [FV.int .i64 j] 0 FV.N)<(((FV.ses<|List.getD (FV.prow<|imF<|.mk d s i) 0 FV.N).length))/\fcR c=FC c)):=
   ⟨rfl,Int.natCast_nonneg _,by show j<(((FCs d).length:Nat):Int);omega,(yZ c).symm⟩
  have D:[FV.pt<|fcR c,slF s]=caR ⟨c,s⟩:=by rw [caR,yZ]
  have F:(0:Int)<=(a.length:Int):=by omega
  match acc,v,g with
  |[],_,g=>
   refine rpv (iL ..) ?_;rw [y,A,FC0,FC1,FC2,FC3,FC4,FC5];refine bT h ⟨⟨rfl,F,h,rfl⟩,zc rfl (zc rfl (zc rfl ⟨el1,zc rfl (zc rfl (zc (by match s with|none=>rfl|some []=>rfl|some _=>rfl) ⟨r9 _,by decide, ?_⟩))⟩))⟩
   have g:RPt Tryz.prog 124 7 r H 5 ⟨[(4, .c _),(5, .c _),(6, .c _),(7, .c _),(9, .c<|.a<|.osl 11 2 0 1),(10, .c<|qf<|imF<|.mk d s i),(33,aIs o),(34,ci<|((IR o).length)),(35,ci<|wrap .i64<|a.length+1)],
    numO 0 (mOb m<|.arr 1 [[.a<|.ep 0 14 0 0]]:: .arr 1 [[qf<|.str nm]]:: .arr 1 [[qi ar]]:: .arr 5 [[qf<|.bool k.any,qi k.k,qf<|.str k.nm,qi k.n,qi k.ar]]::[.arz 2 [caR ⟨c,s⟩]]),12⟩:=g
   rw [<-D] at g;exact g
  |x::t,v,g=>
   refine rpv (mL ..) ?_;rw [y,A,FC0,FC1,FC2,FC3,FC4,FC5];refine bT h ⟨⟨rfl,F,h,rfl⟩,zc rfl (zc rfl (zc rfl ⟨el1,zc rfl (zc rfl (zc (by match s with|none=>rfl|some []=>rfl|some (_::_)=>rfl) ⟨r9 _,⟨by simp,by simp at v ⊢;unfold zi;omega⟩, ?_⟩))⟩))⟩
   have K:=mU x t _ ⟨c,s⟩ D;have G:(x::t).length+1=(x::(t++ [⟨c,s⟩])).length:=by simp
   have g:RPt Tryz.prog 124 7 r H 5 ⟨[(4, .c<|.a<|.ep 7 1 0 0),(5, .c<|.a<|.ep 8 1 0 0),(6, .c<|.a<|.ep 9 1 0 0),(7, .c<|.a<|.ep 10 5 0 0),(9, .c<|.a<|.osl 11 2 0 (x::(t++ [⟨c,s⟩])).length),(10, .c<|qf<|imF<|.mk d s i),(33,aIs o),(34,ci (((IR o).length:Nat):Int)),(35,ci<|wrap .i64<|(a.length:Int)+1)],
    numO 0 (mOb m<|.arr 1 [[.a<|.ep 0 14 0 0]]:: .arr 1 [[qf<|.str nm]]:: .arr 1 [[qi ar]]:: .arr 5 [[qf<|.bool k.any,qi k.k,qf<|.str k.nm,qi k.n,qi k.ar]]::[.arz 2<|(x::(t++ [⟨c,s⟩])).map caR]),12⟩:=g
   rw [<-K,<-G] at g;exact g
def Y2 (nm:List UInt8)(ar:Int)(E:List Ent):List (Int×Key):=match jx nm ar E with|some x=>x|none=> []
def JI (nm ar p x):∀E,Y2 nm ar (insT p x E)=if (nm==p.1&&(ar==p.2))=true then Y2 nm ar E++ [x] else Y2 nm ar E
 |[]=>by
  simp only [insT,Y2,jx,sU];by_cases q:((nm==p.1)&&(ar==p.2))=true
  .rw [ri q];simp [q]
  .simp only [Bool.not_eq_true] at q;simp [q]
 |e::E=>by
  have ih:=JI nm ar p x E;by_cases b:((p.1==e.1)&&((p.2==e.2.1)&&true))=true
  .have g:p.1=e.1:=by simp at b;exact b.1
   have f:p.2=e.2.1:=by simp at b;exact b.2
   rw [insT,ri b];simp only [Y2,jx,sU,<-g,<-f];by_cases q:((nm==p.1)&&(ar==p.2))=true
   .simp [q]
   .simp only [Bool.not_eq_true] at q;simp [q]
  .rw [insT,r8 b];by_cases d:((nm==e.1)&&((ar==e.2.1)&&true))=true
   .have g:nm=e.1:=by simp at d;exact d.1
    have f:ar=e.2.1:=by simp at d;exact d.2
    have h:¬((nm==p.1)&&(ar==p.2))=true:=by
     intro q;simp [rf,rT] at q;apply b;rw [<-q.1,<-q.2,g,f];simp
    rw [r8 h];simp only [Y2,jx,d,rC]
   .simp only [Y2,jx,d] at ih ⊢;exact ih
def newR (nm:List UInt8)(ar:Int):List Cd->Int->List (Int×Key)
 |[],_=> []
 |c::l,i=>if ((nm==c.nm)&&(ar==c.ar))=true then (i,yT c)::newR nm ar l (i+1) else newR nm ar l<|i+1
def JY (nm ar):∀(l) (i) (E),Y2 nm ar (tabT l i E)=Y2 nm ar E++newR nm ar l i
 |[],i,E=>by simp [tabT,newR]
 |c::l,i,E=>by
  rw [tabT,JY nm ar l _,JI,newR];split<;>simp
def nF (nm ar k):∀(l) (i),fitL k (newR nm ar l i)=selL nm ar k l i
 |[],i=>rfl
 |c::l,i=>by
  have ih:=nF nm ar k l<|i+1
  have d:(nm==c.nm)=(c.nm==nm):=by rw [sZ];simp [rT];exact eq_comm
  have b:(ar==c.ar)=(c.ar==ar):=by rw [sZ];simp [rT];exact eq_comm
  rw [newR,selL,d,b];cases c.nm==nm<;>cases c.ar==ar<;>simp [rO,rQ,rA,rC,rI,fitL,ih]
def selT_tab (nm ar k l):selT nm ar k (tabT l 0 [])=selL nm ar k l 0:=by
 have h:=JY nm ar l 0 [];rw [<-nF,show newR nm ar l 0=Y2 nm ar _ by rw [h];rfl];unfold selT Y2;cases jx nm ar _<;>rfl
def dn:∀(l) (i) (E) (n),(∀e∈E,e.2.2.length<=n)->∀e∈tabT l i E,e.2.2.length<=n+l.length
 |[],i,E,n,h,e,b=>h e b
 |c::l,i,E,n,h,e,b=>by
  have:=dn l _ _ _ (XN _ _ n E h) e b;simp [r6];omega
structure GOk (G:Gs):Prop where
 l:G.P.length<=8
 c:∀c∈G.P,CdOk c/\c.fr=0
 t:G.T=npF\/G.T= .pt [.mp<|tabZ<|tabT G.P 0 []]
abbrev oC1 (m:Ma)(nm:List UInt8)(ar:Int)(k:Key):=[.arr 1 [[.a<|.ep 1 14 0 0]],moO 2 7 m,hpO 3 4 5 6 m.s, .arz 5<|CR m.s.C, .arz 7<|TR m.s.T, .arz 1<|NR m.s.N, .mapz<|NM m.s.N 0, .arz 10 m.C, .arr 1 [[qf<|.str nm]], .arr 1 [[qi ar]],
 .arr 5 [[qf<|.bool k.any,qi k.k,qf<|.str k.nm,qi k.n,qi k.ar]]]
def c_cand1 {G}(d:GOk G)(m)(i:m.P= .sl false 6 (FCs G.P))(b:m.T=G.T)(nm ar k):AC Tryz.prog 165 [.c<|.a<|.ep 0 1 0 0, .c<|.a<|.ep 8 1 0 0, .c<|.a<|.ep 9 1 0 0, .c<|.a<|.ep 10 5 0 0] (oC1 m nm ar k) (aIs<|selL nm ar k G.P 0) (oC1 m nm ar k):=by
 have o:=d.l;have g:=c_isel G.P (by omega) (λc h=>(d.c c h).1.2.1) nm ar k;have f:=c_itsel _ (λe j=>by have:=dn G.P 0 [] 0 (by simp) e j;omega) nm ar k;rw [selT_tab] at f;rw [aCs,<-i] at g;refine acv (v165 ..) ?_;rw [b];rcases d.t with e|e<;>rw [e]
 .exact bP ⟨_,g, .refl _,by rw [<-e,<-b];rfl⟩
 .exact bN <| zc rfl ⟨_,f, .refl _,by rw [<-e,<-b];rfl⟩
def sel_ok {b s nm}{n:Nat}{k}(f:∀c∈b,CdOk c/\c.fr<=((slL s).length))(h:(slL s).length<=4096):
  ∀z∈selL nm n k b 0,∃(j:Nat) (c:Cd),z=j/\b[j]? =some c/\CaOk n ⟨c,s⟩:=λz g=>by
 let ⟨j,c,i,d,m⟩:=i7 nm n k b 0 z g
 have e:=rJ d;exact ⟨j,c,by omega,d,(f c e).1,(f c e).2,h,by dsimp only;omega⟩
def lM {G}(p:GOk G)(m)(v:m.P= .sl false 6 (FCs G.P))(D:m.T=G.T)(nm n k):∀(i) (acc),ImOk i->acc.length+60*imD i<=500000->(∀x∈acc,CaOk n x)->
  ∃l:List Ca,(∀x∈l,CaOk n x)/\RPt Tryz.prog 124 7 (.c<|qf<|.sl false 2<|l.map caR) (mOb m []) 1 (st1 m nm n k i acc)
 |.nil,acc,A,C,y=>by
  have e:=c_cand1 p m v D nm n k;have g:=Wd nm n k G.P 0;have K:=p.l
  let ⟨l,u,f⟩:=iW m G n v (selL nm n k G.P 0) (sel_ok (s:=none) (λc e=>⟨(p.c c e).1,by rw [(p.c c e).2];simp [slL]⟩)<|by simp [slL]) _ [] acc rfl (by omega) (by omega) y
  refine ⟨l,u, ?_⟩
  match acc,f with
  |[],f=>exact rpv (nR ..)<|bP ⟨_,e,rfl,f⟩
  |x::t,f=>exact rpv (lT ..)<|bP ⟨_,e,rfl,f⟩
 |.mk d s i,acc,A,C,y=>by
  let ⟨i1,i2,I,E⟩:=A
  have e:=c_isel d i2 (λc e=>(i1 c e).1.2.1) nm n k;have g:=Wd nm n k d 0;have ok:=sel_ok (nm:=nm) (n:=n) (k:=k) i1 I;simp [imD] at C
  have F:∀h:List Int,(h.flatMap<|pkC d s).length<=h.length:=λh=>by
   induction h with
   |nil=>exact r9 _
   |cons z h ih=>
    rw [tP,re,r6];have:(pkC d s z).length<=1:=by unfold pkC;split<;>simp
    omega
  have J:=F<|selL nm n k d 0
  let ⟨l,u,f⟩:=lM p m v D nm n k i (acc++(selL nm n k d 0).flatMap (pkC d s)) E (by rw [re];omega) λx hx=>by
   rcases rS.1 hx with hx|hx
   .exact y x hx
   .let ⟨z,r,hx⟩:=List.mem_flatMap.1 hx
    obtain ⟨j,c,rfl,H,w⟩:=ok z r;rw [pkC,rt,H] at hx;rw [rM.1 hx];exact w
  refine ⟨l,u, ?_⟩;have o:=nj m nm n k d s i _ _ (selL nm n k d 0) (λz r=>let ⟨j,c,a,b,_⟩:=ok z r;⟨j,c,a,b⟩) _ [] acc rfl (by omega) (by omega) f
  match acc,o with
  |[],o=>exact rpv (nR ..)<|bN <| zc rfl (zc rfl (zc rfl (zc rfl ⟨_,e,rfl,o⟩)))
  |x::t,o=>exact rpv (lT ..)<|bN <| zc rfl (zc rfl (zc rfl (zc rfl ⟨_,e,rfl,o⟩)))
def c_cand {G}(d:GOk G){K m f i}(h:Bs G K m f i)(nm n k):
  ∃l:List Ca,(∀x∈l,CaOk n x)/\AC Tryz.prog 124 [aM,cs nm,ci n,aK k] (mOb m []) (.c<|qf<|.sl false 2<|l.map caR) (mOb m []):=by
 have g:=h.i2;have j:=h.f0
 let ⟨l,e,b⟩:=lM d m h.P h.T nm n k i [] h.i1 (by simp;omega) (by simp)
 refine ⟨l,e,acv (v124 ..) ?_⟩;rw [h.I];exact b
def Hq (K:Nat)(s s':Hp):=OkH s'/\GoodZ s'/\LtZ s s'/\NmB K s'/\(IH s->IH s')
def LtZ.refl (s):LtZ s s:=⟨r9 _,[],by simp⟩
def Hq.up {K K' s b}(h:Hq K s b)(d:K<=K'):Hq K' s b:=⟨h.1,h.2.1,h.2.2.1,by have:=h.2.2.2.1;unfold NmB at*;omega,h.2.2.2.2⟩
def Mv.hq {s b K}(h:Mv true s b)(g:GoodZ s)(ok:OkH b)(n:NmB K b):Hq K s b:=⟨ok,(h.later g).1,⟨(h.later g).2.1,(h.later g).2.2.imp λ_ h=>h.1⟩,n,h.ih⟩
def Bs.hq {G K K' m e i}(h:Bs G K m e i){s f}(b:Hq K' m.s s)(f0:0<=f)(g:f<=m.f):Bs G K' { m with s:=s,f:=f } e i:=
 ⟨b.1,b.2.1,b.2.2.2.1,b.2.2.2.2 h.ih,h.S,h.P,h.T,h.V,h.o,f0,by have:=h.f1;dsimp only;omega,h.I,h.i1,by have:=h.i2;dsimp only;omega,h.a,h.cn,h.c3,h.cr,λc d=>(h.mks c d).later b.2.2.1,h.so,λc d=>(h.ok c d).less g⟩
def wq {G K m d i}(h:Bs G K m d i){l e F}(b:e≠0)(j:m.f<=F):Po G K F (y3 m l e).1 (y3 m l e).2:=by
 by_cases g:e=170
 .rw [y3,r8 b,ri g];exact .inr<|.inl ⟨rfl,j,d,i,h⟩
 .exact .inr<|.inr<|uq b g
def encS_ok (V s t)(ok:OkH s):OkH (encS V s t).2/\∃d e,(encS V s t).2=⟨s.C++d,s.T,s.M,s.L,s.N++e⟩/\((encS V s t).1.2=0->e.length<=d.length)/\e.length<=d.length+1048577:=by
 unfold encS;split
 .exact ⟨ok,[],[],by simp,by simp,by simp⟩
 .let ⟨g,d,e,b,f⟩:=wO V t s
  have o:=g ok;have hd:d.length<=1048576:=by have:=o.C;rw [b] at this;simp at this;omega
  split
  .refine ⟨⟨?_,o.M,o.T,o.L⟩,[],e,by rw [b];simp,λq=>by rename_i w;exact absurd q w, ?_⟩
   .simp [ry];have:=ok.C;omega
   .split at f<;>simp<;>omega
  .rename_i w;rw [ri<|by simpa using w] at f;exact ⟨o,d,e,b,λ_=>by simpa using f,by omega⟩
def encS_hq (V s t)(o:tmI t)(ok:OkH s)(g:GoodZ s){K}(n:NmB K s):Hq (K+1048577) s (encS V s t).2/\((encS V s t).1.2=0->Hq K s (encS V s t).2):=by
 let ⟨f,d,e,m,p,r⟩:=encS_ok V s t ok
 have b:=λq=>(nA V s t o).ih q;rw [m] at f b ⊢;have h:GoodZ ⟨s.C++d,s.T,s.M,s.L,s.N++e⟩:=λx j=>by have:=g x j;simp [re];omega
 have i:LtZ s ⟨s.C++d,s.T,s.M,s.L,s.N++e⟩:=⟨by simp,[],by simp⟩;unfold NmB at n;exact ⟨⟨f,h,i,by unfold NmB;simp [re];omega,b⟩,λq=>⟨f,h,i,by have:=p q;unfold NmB;simp [re];omega,b⟩⟩
def c_EncS (K)(b:K<=100000000000)(v t)(d:t.sz<=B)(s)(ok:OkH s)(nm:NmB K s):∃V,AC Tryz.prog 162 [aH 0,aT t, .c<|qf<|slF v] (oH s) (t2 (encS V s t).1) (oH' (encS V s t).2):=by
 match v with
 |none=>exact ⟨none,c_EncA K b t d s ok nm⟩
 |some []=>exact ⟨some [],(c_EncB K b [] t d s ok nm).args ⟨.refl _, .refl _, .c _ _<|.a _ _<|.fz _ _<|.z0 _ _,trivial⟩⟩
 |some (x::l)=>exact ⟨some _,c_EncB K b _ t d s ok nm⟩
def jsW (k:Nat):List Int->WV
 |[]=> .a<|.fz .N
 |x::l=> .a<|.osl k 1 0 (x::l).length
def jsB:List Int->List AObj
 |[]=> []
 |x::l=> [.arz 1<|IR<|x::l]
def jsN (k:Nat):List Int->Nat
 |[]=>k
 |_::_=>k+1
abbrev tJs (js:List Int)(e:Int):TV:= .tup [(false,[qf<|.sl false 1<|IR js]),(false,[qi e])]
def leJs (e):TV.Le (.tup [(false,[qf .N]),(false,[qi e])]) (tJs [] e):=iQ ⟨⟨rfl, .a _ _<|.fz _ _<|.N 1,trivial⟩,lwR _,trivial⟩
abbrev stJ (m:Ma)(ts:List Tm)(s:Hp)(n:Int)(js:List Int):St:=⟨[(0,aM),(6, .c<|jsW 11 js),(11, .c<|qf<|.sl false 4<|FTs ts),(12,ci<|((FTs ts).length)),(13,ci n)],numO 0<|mSb { m with s:=s }<|jsB js,jsN 11 js⟩
def js_snoc (x l y):List.take (x::l).length (IR<|x::l)++ [[.int .i64 y]]=IR (x::(l++ [y])):=ZL _ y
def Hq.trans {K K' a b c}(h:Hq K a b)(g:Hq K' b c):Hq K' a c:=by
 let ⟨_,_,⟨r,D,d⟩,_,i⟩:=h
 let ⟨o,e,⟨p,E,j⟩,f,m⟩:=g
 exact ⟨o,e,⟨by omega,D++E,by rw [j,d,sm]⟩,f,λq=>m<|i q⟩
def mX (K)(U:K<=100000000000)(m c v b d k a)(r:m.nf=frF (.mk c v b d k a))(y)(M:y.length<=1000000):∀(F f) (o) (s),y=f++F->(∀t∈F,t.sz<=B/\tmI t)->o.length=f.length->OkH s->GoodZ s->NmB K s->
  ∃(p:List Int) (e:Int) (G:Hp),Hq (K+1048577) s G/\(e=0->Hq K s G/\p.length=y.length)/\RPt Tryz.prog 122 7 (tJs p e) (mSb { m with s:=G } []) 1 (stJ m y s f.length o)
 |[],f,o,s,j,_,C,ok,O,nm=>by
  have e:y=f:=by simpa using j
  have H:¬f.length<(((FTs y).length):Int):=by rw [zb,e];omega
  have W:Hq K s s:=⟨ok,O, .refl s,nm,id⟩;refine ⟨o,0,s,W.up<|by omega,λ_=>⟨W,by rw [C,e]⟩, ?_⟩
  match o with
  |[]=>exact rpv (fC ..)<|bF H ⟨leJs 0,rfl⟩
  |x::l=>
   refine rpv (gL ..)<|bF H ⟨⟨rfl,by simp [IR]⟩, ?_⟩
   rw [rR,rp<|by simp [IR]];exact rrl
 |t::F,f,o,s,j,N,C,ok,O,nm=>by
  have A:FV.isPt m.nf=true:=by rw [r];rfl
  have J:shpB [.N] (List.drop 1<|FV.prow m.nf)=true:=by rw [r];match v with|none=>rfl|some []=>rfl|some _=>rfl
  have a3:List.getD (List.drop 1<|FV.prow m.nf) 0 FV.N=slF v:=by rw [r];rfl
  have S:f.length<=1000000:=by rw [j] at M;simp at M;omega
  have i:f.length<(((FTs y).length):Int):=by rw [zb,j];simp;omega
  have L:0<=(f.length:Int):=by omega
  have I:=u9 f t F
  let ⟨V,g⟩:=c_EncS K U v t (N t rn).1 s ok nm
  rw [<-a3,<-kf f t F] at g;rw [<-j] at I g
  let ⟨Y,D⟩:=encS_hq V s t (N t rn).2 ok O nm
  generalize encS V s t=z at*;by_cases q:z.1.2=0
  .have D:=D q
   let ⟨p,e,G,g1,T,E⟩:=mX K U m c v b d k a r y M F (f++ [t]) (o++ [z.1.1]) z.2 (by rw [j];simp) (λu hu=>N u<|rh _ hu) (by simp [C]) D.1 D.2.1 D.2.2.2.1
   refine ⟨p,e,G,D.trans g1,λh=>⟨D.trans (T h).1,(T h).2⟩, ?_⟩;have X:((f++ [t]).length)=wrap .i64 (f.length+1):=by rw [w64 (by omega)<|by omega];simp
   rw [X] at E
   match o,C,E with
   |[],C,E=>exact rpv (fC ..)<|bT i ⟨⟨rfl,L,i,I⟩,zc A<|zc A<|zc J ⟨z,g,za (λw=>by rw [q] at w;cases w) λ_=>⟨r9 _,by decide,E⟩⟩⟩
   |x::l,C,E=>
    refine rpv (gL ..)<|bT i ⟨⟨rfl,L,i,I⟩,zc A<|zc A<|zc J ⟨z,g,za (λw=>by rw [q] at w;cases w) λ_=>⟨r9 _,⟨by simp [IR],by simp at C ⊢;unfold zi;omega⟩, ?_⟩⟩⟩
    rw [js_snoc x l z.1.1];have Z:(x::l).length+1=(x::(l++ [z.1.1])).length:=by simp
    rw [Z];exact E
  .refine ⟨[],z.1.2,z.2,Y,λh=>absurd h q, ?_⟩
   match o with
   |[]=>exact rpv (fC ..)<|bT i ⟨⟨rfl,L,i,I⟩,zc A<|zc A<|zc J ⟨z,g,za (λ_=>⟨leJs _,rfl⟩) λw=>absurd (by simpa using w) q⟩⟩
   |x::l=>exact rpv (gL ..)<|bT i ⟨⟨rfl,L,i,I⟩,zc A<|zc A<|zc J ⟨z,g,za (λ_=>⟨leJs _,rfl⟩) λw=>absurd (by simpa using w) q⟩⟩
def Wx {G K}(y:K<=100000000000){m r i}(h:Bs G K m r i){c v b d k a}(p:m.nf=frF (.mk c v b d k a))(f)(u:f.length<=1000000)(z:∀t∈f,t.sz<=B/\tmI t):
  ∃(o:List Int) (e:Int) (j:Hp),Hq (K+1048577) m.s j/\(e=0->Hq K m.s j/\o.length=f.length)/\AC Tryz.prog 122 [aM, .c<|qf<|.sl false 4<|FTs f] (mOb m []) (tJs o e) (mSb { m with s:=j } []):=by
 let ⟨o,e,j,A,w,x⟩:=mX K y m c v b d k a p f u f [] [] m.s rfl z rfl h.h h.g h.n
 exact ⟨o,e,j,A,w,acv (v122 ..) ⟨rfl,x⟩⟩
def yI (m l e):AC Tryz.prog 36 [aM,ci l,ci e] (mOb m []) (ci (y3 m l e).1) (mOb { (y3 m l e).2 with s:=m.s,C:=m.C } []):=by
 rw [zF];exact dM m l e
def oy (m l):y3 m l 0=(0,{ m with f:=l }):=rfl
def kD {m l e}(d:e≠0):(y3 m l e).1≠0:=by
 by_cases b:e=170
 .simp [y3,b]
 .rw [(uq d b).1];decide
def mJ {s}(a){f K}(ok:OkH s)(g:GoodZ s)(n:NmB K s)(f0:0<=f)(h:f<=100000000):Hq K s (ym s a f).2/\0<=(ym s a f).1.2.1/\(ym s a f).1.2.1<=f:=by
 have b:=XX s a f f0
 let ⟨e,_,d⟩:=cI s a f ok f0 h
 refine ⟨Mv.hq b.up g e<|b.nm n, ?_,d⟩;unfold ym;split
 .exact rk _
 .exact (Mvr.head (s0:=s) _ (r:=⟨s,f,0⟩) a ⟨.refl s,f0,by show 0≠170;decide⟩).2.1
abbrev tKo (k:Key)(o:Int):TV:= .tup [(true,[qf<|.bool k.any,qi k.k,qf<|.str k.nm,qi k.n,qi k.ar]),(false,[qi o])]
def c_key {G K m w i}(h:Bs G K m w i)(a):∃(k:Key) (o:Int) (d:Ma),AC Tryz.prog 125 [aM,ci a] (mOb m []) (tKo k o) (mSb d [])/\(o≠0->Po G K m.f o d)/\(o=0->d.f<=m.f/\Bs G K d w i):=by
 have f0:=h.f0;have F:=h.f1;have j:=gt m.s a m.f h.h (by omega) (by omega)
 let ⟨x,E,v⟩:=mJ a h.h h.g h.n f0 (by omega)
 generalize ym m.s a m.f=z at*
 let ⟨⟨⟨hd,xs⟩,left,e⟩,b⟩:=z
 dsimp only at x E v j;have p:=yI { m with s:=b } left e
 by_cases A:e=0
 .subst A;have D:=h.hq x E v;have r:=xZ b hd;have u:=Wu b (zk b.C hd).a
  have fin:∀k,AC Tryz.prog 125 [aM,ci a] (mOb m []) (tKo k 0) (mSb { m with s:=b,f:=left } [])->∃(k:Key) (o:Int) (d:Ma),AC Tryz.prog 125 [aM,ci a] (mOb m []) (tKo k o) (mSb d [])/\(o≠0->Po G K m.f o d)/\(o=0->d.f<=m.f/\Bs G K d w i):=
   λk h=>⟨k,0,_,h,λq=>absurd rfl q,λ_=>⟨v,D⟩⟩
  by_cases t0:(zk b.C hd).t=0
  .refine fin ⟨false,0,uc b.N (zk b.C hd).a,0,xs.length⟩<|acv (v125 ..) ⟨(hd,xs,left,0,b),j,_,p,bN ⟨rfl,_,_,_,_,_,_,r,za (λ_=>⟨_,u, ?_,rfl⟩) λq=>by simp [t0] at q⟩⟩
   rw [zn];exact .refl _
  .by_cases y:(zk b.C hd).t=1
   .refine fin ⟨false,1,[],(zk b.C hd).a,xs.length⟩<|acv (v125 ..) ⟨(hd,xs,left,0,b),j,_,p,bN ⟨rfl,_,_,_,_,_,_,r,za (λq=>by simp [y] at q) λ_=>za (λ_=>⟨?_,rfl⟩) λq=>by simp [y] at q⟩⟩
    rw [zn];exact .refl _
   .by_cases t2:(zk b.C hd).t=2
    .refine fin ⟨false,2,[],(zk b.C hd).a,xs.length⟩<|acv (v125 ..) ⟨(hd,xs,left,0,b),j,_,p,bN ⟨rfl,_,_,_,_,_,_,r,za (λq=>by simp [t2] at q) λ_=>za (λq=>by simp [t2] at q) λ_=>za (λ_=>⟨?_,rfl⟩) λq=>by simp [t2] at q⟩⟩
     rw [zn];exact .refl _
    .exact fin ⟨true,0,[],0,0⟩<|acv (v125 ..) ⟨(hd,xs,left,0,b),j,_,p,bN ⟨rfl,_,_,_,_,_,_,r,za (λq=>by simp [t0] at q) λ_=>za (λq=>by simp [y] at q) λ_=>za (λq=>by simp [t2] at q) λ_=>rrl⟩⟩
 .have D:=h.hq x f0<|rk _
  have u:=kD (m:={ m with s:=b }) (l:=left) A
  refine ⟨⟨false,0,[],0,0⟩,(y3 { m with s:=b } left e).1,(y3 { m with s:=b } left e).2, ?_,λ_=>wq D A<|rk _,λq=>absurd q u⟩
  refine acv (v125 ..) ⟨(hd,xs,left,e,b),j,_,p,za (λ_=>⟨.refl _, ?_⟩) λq=>absurd (by simpa using q) u⟩;exact si (λz=>mSb z [])<|zF (m:={ m with s:=b })
def gd (t)(h:t.sz<=100000):(zE t).2.length<=1000000:=by
 have d:=Tm.szs_length t.l;have b:=t.sz_eq;unfold zE;split
 .simp [List.length_drop];omega
 .exact sQ _
def dU (t)(h:t.sz<=B)(d:tmI t):∀u∈(zE t).2,u.sz<=B/\tmI u:=by
 have e:=t.sz_eq;unfold zE;split
 .intro u b;have:=Tm.szs_mem<|tI b
  exact ⟨by omega,tmI_l d u<|tI b⟩
 .simp
def ow {G}(hG:GOk G){K}(hK:K<=100000000000){m I i}(h:Bs G K m I i){c v b d k a}(Z:m.nf=frF (.mk c v b d k a))(t)(hz:t.sz<=100000)(hi:tmI t)(W ba){q}(X:Pc none W ba q)(hq:q<=imD i):
  ∃o p,AC Tryz.prog 80 [aM,aT t,aPl W ba] (mOb m []) (ci o) (mSb p [])/\Po G (K+1048577) m.f o p:=by
 have f0:=h.f0;have J:=Zb t (by simp [B];omega)
 let ⟨j,e,u,g1,g2,L⟩:=Wx hK h Z (zE t).2 (gd t hz)<|dU t (by simp [B];omega) hi
 let ⟨E,D,F,C⟩:=t
 by_cases he:e=0
 .subst he
  let ⟨g2,_⟩:=g2 rfl
  have H:Bs G K { m with s:=u } I i:=h.hq g2 f0<|rk _
  let ⟨l,hl,r⟩:=c_cand hG H (zE<|.mk E D F C).1.s (IR j).length ⟨true,0,[],0,0⟩
  let ⟨o,p,V,hp,_⟩:=gi H (A:= .sl false 1<|IR j) (b:=W) (ba:=ba) (l:=l) ⟨j,rfl,by rw [zn] at hl;exact hl,q,X,hq⟩
  have up:∀ {o p},Po G K m.f o p->Po G (K+1048577) m.f o p:=λh=>h.imp (λ⟨a,b,I,i,h,g⟩=>⟨a,b,I,i,h.up<|by omega,g⟩) λh=>h.imp (λ⟨a,b,I,i,h⟩=>⟨a,b,I,i,h.up<|by omega⟩) id
  have hT:m.T=npF\/m.T.isPt=true:=by
   rw [h.T];rcases hG.t with e|e<;>rw [e]
   .exact .inl rfl
   .exact .inr rfl
  rcases hT with hT|hT
  .refine ⟨o,p,acv (v80 ..) ?_,up hp⟩
   exact ⟨zE (.mk E D F C),J,((j,0),{ m with s:=u }),L,za (λq=>by cases q) λ_=>⟨rfl,_,r,za (λ_=>⟨(o,p),V, .refl _,rfl⟩) λq=>by
    have q:FV.isNp m.T=false:=q;rw [hT] at q;cases q⟩⟩
  .have w:¬FV.isNp m.T=true:=by rw [ZK hT];simp [FV.isNp]
   by_cases hj:j=[]
   .subst hj;refine ⟨o,p,acv (v80 ..) ?_,up hp⟩;exact ⟨zE<|.mk E D F C,J,(([],0),{ m with s:=u }),L,bN ⟨rfl,_,r,za (λq=>absurd q w) λ_=>zc hT ⟨rfl,bP ⟨(o,p),V, .refl _,rfl⟩⟩⟩⟩
   .by_cases N:l=[]
    .subst N;refine ⟨o,p,acv (v80 ..) ?_,up hp⟩;exact ⟨zE<|.mk E D F C,J,((j,0),{ m with s:=u }),L,bN ⟨rfl,_,r,za (λq=>absurd q w) λ_=>zc hT ⟨rfl,za (λ_=>⟨(o,p),V, .refl _,rfl⟩) λ_=>⟨rfl,bP ⟨(o,p),V, .refl _,rfl⟩⟩⟩⟩⟩
    .obtain ⟨x,j,rfl⟩:=List.exists_cons_of_ne_nil hj;obtain ⟨y,l,rfl⟩:=List.exists_cons_of_ne_nil N
     let ⟨ky,o2,m2,O,p1,p2⟩:=c_key H<|FV.I<|List.getD (List.getD (IR<|x::j) 0 []) 0 FV.N
     have n1:∀ {q:Prop},(((((IR<|x::j).length:Nat)):Int)==0)=true->q:=λq=>by simp [IR] at q<;>omega
     have n2:∀ {q:Prop},((((((y::l).map caR).length)))==0)=true->q:=λq=>by simp at q<;>omega
     have q1:(0:Int)<(((IR<|x::j).length:Nat)):=by simp [IR]<;>omega
     by_cases Y:o2=0
     .subst Y
      let ⟨p3,S⟩:=p2 rfl
      let ⟨l2,M,U⟩:=c_cand hG S (zE<|.mk E D F C).1.s (IR<|x::j).length ky
      let ⟨o3,m3,ht3,hp3,_⟩:=gi S (A:= .sl false 1<|IR<|x::j) (b:=W) (ba:=ba) (l:=l2) ⟨x::j,rfl,by rw [zn] at M;exact M,q,X,hq⟩
      have hp4:Po G K m.f o3 m3:=hp3.imp (λ⟨a,b,h⟩=>⟨a,by dsimp only at p3;omega,h⟩) λh=>h.imp (λ⟨a,b,h⟩=>⟨a,by dsimp only at p3;omega,h⟩) id;refine ⟨o3,m3,acv (v80 ..) ?_,up hp4⟩;exact ⟨zE<|.mk E D F C,J,((x::j,0),{ m with s:=u }),L,bN ⟨rfl,_,r,za (λq=>absurd q w) λ_=>zc hT ⟨rfl,za n1 λ_=>⟨rfl,za n2 λ_=>⟨⟨rfl,rk _,q1,rfl⟩,((ky,0),m2),O,bN ⟨rfl,_,U,(o3,m3),ht3, .refl _,rfl⟩⟩⟩⟩⟩⟩
     .refine ⟨o2,m2,acv (v80 ..) ?_,up<|p1 Y⟩;exact ⟨zE<|.mk E D F C,J,((x::j,0),{ m with s:=u }),L,bN ⟨rfl,_,r,za (λq=>absurd q w) λ_=>zc hT ⟨rfl,za n1 λ_=>⟨rfl,za n2 λ_=>⟨⟨rfl,rk _,q1,rfl⟩,((ky,o2),m2),O,za (λ_=>rrl) λq=>absurd (by simpa using q) Y⟩⟩⟩⟩⟩
 .have X:Bs G (K+1048577) { m with s:=u } I i:=h.hq g1 f0<|rk _
  refine ⟨_,_,acv (v80 ..) ?_,wq (l:=m.f) X he<|rk _⟩;refine ⟨zE<|.mk E D F C,J,((j,e),{ m with s:=u }),L,za (λ_=>⟨y3 { m with s:=u } m.f e,yI _ _ _, .refl _, ?_⟩) λq=>absurd (by simpa using q) he⟩
  exact si (λz=>mSb z [])<|zF (m:={ m with s:=u })
def NmB.of {K D K2 s t}(h:NmB K s)(b:t.N.length=s.N.length)(e:s.C.length<=D+t.C.length)(d:K+D<=K2):NmB K2 t:=by
 unfold NmB at*;omega
def all_hq {K s}(i:GoodZ s)(ok:OkH s)(nm:NmB K s)(g:IH s)(a b){f}(f0:0<=f)(F:f<=100000):Hq (K+2097154) s (allZ s a b f).2/\0<=(allZ s a b f).1.1/\(allZ s a b f).1.1<=f:=by
 have j:OkW K ⟨s,f⟩:=⟨ok,f0,by grind,nm,g⟩;have r:=fq f.toNat (a.zip b) j (by omega);unfold allZ;generalize runZ f.toNat ⟨s,f⟩ _=z at*;split
 .exact ⟨⟨ok,i, .refl s,by unfold NmB at*;dsimp only;omega,id⟩,rk _,f0⟩
 .have d:=r.mv.later i;split
  .let ⟨x,w⟩:=d.2.back
   have v:=r.mv.len;have A:=r.h.C;have mN:=r.m;refine ⟨⟨⟨by grind, ?_,by rw [w];exact ok.T, ?_⟩, ?_,⟨by grind,[],by grind⟩, ?_, ?_⟩,rk _,f0⟩
   .show z.2.s.M<=_;rw [v.2.1];exact ok.M
   .show z.2.s.L<=_;rw [v.2.2];exact ok.L
   .intro e u;rw [w] at u;rw [x];exact i e u
   .exact mN.of (D:=1048576) rfl (by omega) (by omega)
   .refine λ_=>⟨λc E=>g.1 c ?_,λe u=>g.2 e ?_⟩
    .grind
    .grind
  .have y:=r.m;have o:=r.f0;have p:=r.f1;exact ⟨⟨r.h,d.1,⟨d.2.1,d.2.2.imp λ_ h=>h.1⟩,y.of (D:=0) rfl (by simp) (by omega),r.mv.ih⟩,o,p⟩
def Po.up {G K K' F F' o m}(h:Po G K F o m)(e:K<=K')(f:F<=F'):Po G K' F' o m:=
 h.imp (λ⟨a,b,d,i,h,g⟩=>⟨a,by omega,d,i,h.up e,g⟩) λh=>h.imp (λ⟨a,b,d,i,h⟩=>⟨a,by omega,d,i,h.up e⟩) id
def f9 {G K}(D:K<=100000000000){m y i}(h:Bs G K m y i)(v:Go { m with na:=wrap .i64 (m.na+1) } i)(a b):
  ∃o x,AC Tryz.prog 123 [aM,ci a,ci b] (mOb m []) (ci o) (mSb x [])/\Po G (K+2097154) m.f o x:=by
 have f0:=h.f0;have F:=h.f1;have u:=c_hUnify m.s a b m.f<|c_hAllL K D m.s h.g h.h h.n h.ih [a] [b] m.f (by simp) (by simp) f0<|by omega
 let ⟨r,C,p⟩:=all_hq h.g h.h h.n h.ih [a] [b] f0 (by omega)
 generalize allZ m.s [a] [b] m.f=z at*
 let ⟨⟨left,e⟩,d⟩:=z
 dsimp only at r C p u;have A:=yI { m with s:=d } left e
 by_cases w:e=0
 .subst w;have j:=h.hq r C p;refine ⟨0,{ m with s:=d,f:=left,na:=wrap .i64 _ },acv (v123 ..) ?_, .inl ⟨rfl,p,y,i,{ j with },v⟩⟩
  exact ⟨(left,0,d),u,_,A,bP rrl⟩
 .have j:=h.hq r f0<|rk _
  have E:=kD (m:={ m with s:=d }) (l:=left) w
  refine ⟨_,_,acv (v123 ..) ?_,wq (l:=left) j w<|rk _⟩;exact ⟨(left,e,d),u,_,A,za (λq=>absurd (by simpa using q) E) λ_=>⟨.refl _,si (λz=>mSb z [])<|zF (m:={ m with s:=d })⟩⟩
def c_equal {G:Gs}{K:Nat}(S:K+2097154<=100000000000){m:Ma}{u:List Ch}{i:Im}(h:Bs G K m u i){c:Cd}{v:SlO}{b d:Int}{k:Fr}{a:Int}(A:m.nf=frF (.mk c v b d k a))(w:Go { m with na:=wrap .i64 (m.na+1) } i)(p:List Tm)(O:p.length=2)(M:∀t∈p,t.sz<=B/\tmI t):
  ∃o j,AC Tryz.prog 81 [aM, .c<|qf<|.sl false 4<|FTs p] (mOb m []) (ci o) (mSb j [])/\Po G (K+2097154) m.f o j:=by
 have f0:=h.f0;obtain ⟨D,e,g,J,H,F⟩:=Wx (by omega) h A p (by omega) M;by_cases C:e=0
 .subst C;obtain ⟨I,E⟩:=H rfl;clear H;rw [O] at E
  match D,E with
  |[x,y],_=>
   have r:Bs G K { m with s:=g } u i:=h.hq I f0<|rk _
   obtain ⟨o,j,N,L⟩:=f9 (by omega) r w x y;refine ⟨o,j,acv (v81 ..) ?_,L⟩;exact ⟨(([x,y],0),{ m with s:=g }),F,bN ⟨⟨rfl,by decide,by show (0:Int)<2;decide,rfl⟩,⟨rfl,by decide,by show (1:Int)<2;decide,rfl⟩,(o,j),N, .refl _,rfl⟩⟩
 .have r:Bs G (K+1048577) { m with s:=g } u i:=h.hq J f0<|rk _
  refine ⟨_,_,acv (v81 ..) ?_,(wq (l:=m.f) r C<|rk _).up (by omega)<|rk _⟩;exact ⟨((D,e),{ m with s:=g }),F,za (λ_=>⟨y3 { m with s:=g } m.f e,yI _ _ _, .refl _,si (λz=>mSb z [])<|zF (m:={ m with s:=g })⟩) λq=>absurd (by simpa using q) C⟩
abbrev aIn (x:In1):TV:= .agg [qi x.k,qi x.a,qi x.t.k,qf<|.str x.t.s,qi x.t.n,qf<|.sl false 4<|FTs x.t.l,qf<|.sl false 4<|FTs x.l,qf<|.sl false 6<|FCs x.c]
def aW {G:Gs}{K:Nat}(hK:K+2097154<=100000000000){m:Ma}{F:List Ch}{i:Im}(h:Bs G K m F i){c:Cd}{v:SlO}{b d:Int}{k:Fr}{a:Int}(M:m.nf=frF (.mk c v b d k a))(J:Go { m with na:=wrap .i64 (m.na+1) } i){r:List Int}(L:m.A= .sl false 1 (IR r))(x:In1)(w:0<=x.a/\x.a<(r.length:Int))(hz:x.t.sz<=B/\tmI x.t):
  ∃o p,AC Tryz.prog 79 [aM,aIn x] (mOb m []) (ci o) (mSb p [])/\Po G (K+2097154) m.f o p:=by
 have f0:=h.f0;obtain ⟨xk,g,⟨tk,Z,X,tl⟩,xl,xc⟩:=x;obtain ⟨T,e,j,g1,V,U⟩:=Wx (by omega) h M [.mk tk Z X tl] (by simp) (by intro u S;rw [rM.1 S];exact hz);by_cases O:e=0
 .subst O;obtain ⟨Y,W⟩:=V rfl;clear V
  match T,W with
  |[y],_=>
   have D:Bs G K { m with s:=j } F i:=h.hq Y f0<|rk _
   have E:FV.L 1 m.A=true:=by rw [L];rfl
   have I:g.toNat<r.length:=by simp only [In1.a] at w;omega
   have N:List.getD (FV.ses m.A) (Int.toNat g) []=[.int .i64 r[g.toNat]]:=by rw [L];simp [FV.ses,IR,List.getD,I]
   have C:([.int .i64<|FV.I<|List.getD (List.getD (FV.ses m.A) (Int.toNat g) []) 0 FV.N]:List FV)=List.getD (FV.ses m.A) (Int.toNat g) []:=by rw [N];rfl
   have H:g<(((FV.ses m.A).length:Nat):Int):=by rw [L];simp only [FV.ses,zn];exact w.2
   obtain ⟨o,p,S,hp⟩:=f9 (by omega) D J (FV.I<|List.getD (List.getD (FV.ses m.A) (Int.toNat g) []) 0 FV.N) y;refine ⟨o,p,acv (v79 ..) ?_,hp⟩;exact ⟨⟨rfl,r9 _⟩,(([y],0),{ m with s:=j }),U,bN ⟨⟨E,w.1,H,C⟩,⟨rfl,by decide,by show (0:Int)<1;decide,rfl⟩,(o,p),S, .refl _,rfl⟩⟩
 .have D:Bs G (K+1048577) { m with s:=j } F i:=h.hq g1 f0<|rk _
  refine ⟨_,_,acv (v79 ..) ?_,(wq (l:=m.f) D O<|rk _).up (by omega)<|rk _⟩;exact ⟨⟨rfl,r9 _⟩,((T,e),{ m with s:=j }),U,za (λ_=>⟨y3 { m with s:=j } m.f e,yI _ _ _, .refl _,si (λz=>mSb z [])<|zF (m:={ m with s:=j })⟩) λq=>absurd (by simpa using q) O⟩
def IR_set (l n z):List.set (IR l) n [.int .i64 z]=IR (l.set n z):=by simp [IR,tO]
def c_slot {G:Gs} {K:Nat} {m:Ma} {N:List Ch} {i:Im} (h:Bs G K m N i) {c:Cd} {v:SlO} {b d:Int} {k:Fr} {a:Int} (p:m.nf=frF (.mk c v b d k a)) (x:Int) (g:0<=x/\x<((slL v).length:Int)) (I:(slL v).length<=1000000) (e:Cel) (E:e.t=2->N64 e.a)
  (j:∀M,(slL M).length=(slL v).length->Go { m with nf:=frF (.mk c M b d k a),na:=wrap .i64 (m.na+1) } i):
  ∃o L,AC Tryz.prog 84 [aM,ci x,aCe e] (mOb m []) (ci o) (mSb L [])/\Po G K m.f o L:=by
 have S:=xB m.s e (by have:=h.h.C;omega);have J:=h.gr<|Gr.put m.s e E
 generalize putS m.s e=z at*;by_cases H:z.1.2=0
 .match v,g,I,p,j with
  |none,g,_,_,_=>simp [slL] at g;omega
  |some [],g,_,_,_=>simp [slL] at g;omega
  |some (y::l),g,I,p,j=>
   simp only [slL,rP] at g I j
   have D:AC Tryz.prog 68 [.c<|qf<|.sl true 1<|IR<|y::l] [] (.c<|.a<|.osl 0 1 0 (IR<|y::l).length) [.arz 1<|IR<|y::l]:=
    acv (pC ..) ⟨rfl,za (λh=>by simp [IR] at h) λ_=>⟨by simp only [zi,IR,sc];omega, .refl _,rfl⟩⟩
   obtain ⟨u,l',O⟩:∃u l',(y::l).set x.toNat z.1.1=u::l':=by
    cases x.toNat with
    |zero=>exact ⟨_,_,rfl⟩
    |succ n=>exact ⟨_,_,rfl⟩
   have r:(u::l').length=(y::l).length:=by rw [<-O,sY]
   have T:FV.isPt m.nf=true:=by rw [p];rfl
   have w:FV.prow m.nf=[.pt<|FC c, .sl true 1<|IR<|y::l, .int .i64 b, .int .i64 d,frF k, .int .i64 a]:=by rw [p];rfl
   have V:(FV.isPt m.nf&&true)=true:=by rw [T];rfl
   have U:shpB [.cst<|.pointer none, .N, .int .i64 0, .int .i64 0, .cst<|.pointer none, .int .i64 0] (FV.prow m.nf)=true:=by rw [w];cases k<;>rfl
   refine ⟨0,{ m with s:=z.2,nf:=frF (.mk c (some<|u::l') b d k a),na:=wrap .i64 (m.na+1) },fr_ice (m:={ m with s:=z.2 }) (A:=m.A) (by simp) ?_, .inl ⟨rfl,rk _,N,i,{ J with },j _ r⟩⟩
   refine AC.vc hP sh lv84 (by simp) (by simp [isLive,moO]) (by simp [isLive,slB])<|Eq.mpr (v84 ..) ?_
   rw [w];refine ⟨z,S,za (λq=>absurd H<|by simpa using q) λ_=>zc T<|zc V<|zc (by rw [<-w];exact U)<|.inr<|.inr ⟨IR<|y::l,D,⟨g.1,by rw [zn];exact g.2⟩,⟨by rw [zn];omega, ?_⟩, .refl _, ?_⟩⟩
   .have F:0+x.toNat<(y::l).length:=by omega
    simp only [IR,List.getD,rq,rj F];rfl
   .rw [IR_set,rD,O,show (IR<|y::l).length=(u::l').length by rw [zn,r]];rfl
 .refine ⟨_,_,acv (v84 ..) ?_,wq (l:=m.f) J H<|rk _⟩;exact ⟨z,S,za (λ_=>⟨_,yI { m with s:=z.2 } m.f z.1.2, .refl _,si (λz=>mSb z [])<|zF (m:={ m with s:=z.2 })⟩) λq=>absurd (by simpa using q) H⟩
def Pc.inv {H c s b d k a n q}(h:Pc H (.mk c s b d k a) n q):
  ∃(e:Nat) (L:List Pl) (p:Int×Int) (i:Nat),n=e/\q=p.2.toNat+i/\CdOk c/\(slL s).length=c.sl.toNat/\0<=b/\d=frD k+1/\0<=frD k/\d<=1000000/\Wt c L/\L[e]? =some (true,p)/\0<=p.2/\
   (∀x,c.ins[e]? =some x->headK x.k=true->∃n,H=some n/\c.ar<=n)/\Pc none k a i:=by
 cases h with
 |mk o m r u y j z w v f g=>exact ⟨_,_,_,_,rfl,rfl,o,m,r,u,y,j,z,w,v,f,g⟩
def Pc.to {H:Option Nat} {c:Cd} {s:SlO} {b d:Int} {k:Fr} {a:Int} {q e j:Nat} {L:List Pl} {x:In1} {p:Int×Int} (g:CdOk c) (i:(slL s).length=c.sl.toNat) (m:0<=b) (o:d=frD k+1) (r:0<=frD k) (h:d<=1000000) (D:Wt c L)
  (u:c.ins[e]? =some x) (E:e<=j) (v:L[j]? =some (true,p)) (C:0<=p.2) (F:headK x.k=true->∃n,H=some n/\c.ar<=(n:Int)) (w:Pc none k a q):Pc H (.mk c s b d k a) j (p.2.toNat+q):=
 .mk g i m o r h D v C (λy z f=>F<|cO g.1 j e y x E z u f) w
def JZ:∀(l) (n),0<=yh l n->l.length<=n/\∀d∈l,∃m,0<=m/\m<=n/\0<=w7 d m
 |[],n,h=>by rw [yh] at h;exact ⟨h,λd hd=>by cases hd⟩
 |c::f,n,h=>by
  rw [yh] at h;split at h
  .omega
  .rename_i q
   let ⟨j,i⟩:=JZ f _ h
   have g:=(XK c.ins (n-1)<|by omega).2;rw [<-J3] at g;refine ⟨by simp [r6];omega,λd hd=> ?_⟩;rcases rG.1 hd with rfl|hd
   .exact ⟨n,by omega,rk _,by omega⟩
   .let ⟨m,a,b,e⟩:=i d hd
    exact ⟨m,a,by omega,e⟩
def Kx (x):∀(l) (n),0<=xp l n->n<=41->x∈l->Z5 x.t x.l=false/\∃d,d<=40/\0<=yh x.c d
 |[],_,_,_,h=>by cases h
 |y::l,n,b,g,hm=>by
  rw [kj] at b;split at b
  .omega
  .split at b
   .omega
   .rename_i j e;have i:=jh y.c (n-1) (by omega);rcases rG.1 hm with rfl|hm
    .refine ⟨by simpa using e,n-1,by omega, ?_⟩;by_cases f:yh x.c (n-1)<0
     .rw [X5 f] at b;omega
     .omega
    .exact Kx x l _ b (by omega) hm
def pM:∀t,okI t->tmI t:=by
 refine Tm.ind λt ih h=> ?_
 let ⟨k,s,n,l⟩:=t
 rw [okI] at h;rw [tmI];exact ⟨λ_=>h.1,gy λu b=>ih u b<|WE h.2 b⟩
def CdOk.sub {c}(h:CdOk c){x}(f:x∈c.ins):(x.t.sz<=40/\tmI x.t)/\(∀t∈x.l,t.sz<=40/\tmI t)/\x.c.length<=60/\∀d∈x.c,CdOk d:=by
 let ⟨r,D,j,m,m0,E,p⟩:=h
 have i:okI x.t/\okIs x.l/\Wj x.c:=by
  cases c;rw [okCd] at j;have:=KU j.2.2.2.2 f;cases x;rw [okIn] at this;exact this.2.2
 have y:=vC_in r x f
 have w:∀d∈x.c,d.sz<=B:=λd hd=>by
  have F:=In1.szs_mem f;have C:=Cd.szs_mem hd;cases c;cases x;simp [Cd.sz,Cd.ins,In1.sz1,In1.c,B] at*;omega
 rw [J3] at p
 let ⟨g,A,G,u⟩:=Kx x c.ins _ p (by omega) f
 let ⟨H,v⟩:=JZ x.c A u
 simp [Z5,badL,Bool.or_eq_false_iff,List.any_eq_false,Bool.not_eq_true] at g;refine ⟨⟨by have:=dQ g.1;omega,pM _ i.1⟩,λt o=>⟨?_,pM t<|WE i.2.1 o⟩,by omega,λd hd=>⟨y d hd,w d hd,Y9 i.2.2 hd, ?_⟩⟩
 .have:=g.2.2.2.2 t o;have:=dQ this.1;omega
 .let ⟨z,a,b,e⟩:=v d hd
  exact ⟨z,a,by omega,e⟩
def skb {k j:Int}{A B}(h:k≠j)(b:B):br (k==j) A B:=za (λq=>absurd (by simpa using q) h) λ_=>b
def ask6 {a b c d e f P Q}(h:a=true)(o:b=true)(i:c=true)(j:d=true)(m:e=true)(g:f=true)(p:P)(q:Q):ask a (ask b<|ask c<|ask d<|ask e<|ask f<|P/\Q):=zc h<|zc o<|zc i<|zc j<|zc m<|zc g ⟨p,q⟩
def Bs.cut {G K m d i}(h:Bs G K m d i)(j)(e:j<=m.n):Bs G K { m with n:=j } (d.take j) i:={ h with
 cn:=by have:=h.cn;rw [ry];dsimp only;omega
 c3:=by have:=h.c3;dsimp only;omega
 cr:=by
  have q:=si (List.take j) h.cr;rw [List.take_take,sD e,<-t9] at q;exact q
 mks:=λc b=>h.mks c (sA b)
 so:=h.so.sublist (List.take_sublist _ _)
 ok:=λc b=>h.ok c (sA b) }
def c_mstep {G} (hG:GOk G) {K} (hK:K+2097154<=100000000000) {m ch i} (h:Bs G K m ch i) (hi:(imD i)+m.f+1<=3000) {c v b d k a} (y:m.nf=frF (.mk c v b d k a)) {ws} (hA:m.A= .sl false 1 (IR ws)\/m.A= .N/\ws=[])
  {q} (hp:Pc (some ws.length) (.mk c v b d k a) m.na q) (hq:q<=imD i)
  (hbi:∀t,Wa t=true->t.sz<=40->tmI t->Go { m with na:=wrap .i64 (m.na+1) } i->∃o D,AC Tryz.prog 82 [aM,aT t] (mOb m []) (ci o) (mSb D [])/\Po G (K+2097154) m.f o D):
  ∃o D,AC Tryz.prog 49 [aM] (mOb m []) (ci o) (mSb D [])/\Po G (K+2097154) m.f o D:=by
 have f0:=h.f0;obtain ⟨at_,L,p,q',hna,rfl,p1,p2,p3,p4,p5,p6,p7,p8,p9,p10,p11⟩:=hp.inv;have hat:at_<c.ins.length:=by rw [<-p7.1];exact (rr.1 p8).1
 obtain ⟨x,hx⟩:∃x,c.ins[at_]? =some x:=⟨_,rj hat⟩;have hmem:=rJ hx
 let ⟨⟨z1,z5⟩,z2,z3,z4⟩:=p1.sub hmem
 have hB:c.ins.length<=B:=by
  have:=In1.szs_length c.ins;have:=p1.2.1;cases c;simp [Cd.sz,Cd.ins] at*;omega
 have hB2:(at_:Int)<=549755813888:=by simp [B] at hB;omega
 have wr1:wrap .i64 (m.na+1)=((at_+1:Nat):Int):=by rw [hna,w64 (by omega)<|by omega];omega
 let ⟨w,hfl,_⟩:=vC_at p1.1 hx
 have F:=gk hfl;have E:=p7.2 at_ x p hx p8;have hcnt:=p1.cnt;have e0:FV.prow m.nf=[.pt<|FC c,slF v, .int .i64 b, .int .i64 d,frF k, .int .i64 a]:=by rw [y];rfl
 have g:FV.isPt m.nf=true:=by rw [y];rfl
 have X:shpB [.cst<|.pointer none] (FV.prow m.nf)=true:=by rw [e0];rfl
 have u:FV.isPt (List.getD (FV.prow m.nf) 0 FV.N)=true:=by rw [e0];rfl
 have e5:List.getD (List.drop 5<|FV.prow<|List.getD (FV.prow m.nf) 0 FV.N) 0 FV.N= .sl false 8 (FIs c.ins):=by rw [e0];show List.getD (List.drop 5<|FC c) 0 FV.N=_;rw [yZ];rfl
 have W:shpB [.N] (List.drop 5<|FV.prow<|List.getD (FV.prow m.nf) 0 FV.N)=true:=by rw [e0];show shpB [.N] (List.drop 5<|FC c)=_;rw [yZ];rfl
 have J:FV.L 8 (List.getD (List.drop 5<|FV.prow<|List.getD (FV.prow m.nf) 0 FV.N) 0 FV.N)=true:=by rw [e5];rfl
 have Y:0<=m.na:=by omega
 have O:m.na<(((FV.ses<|List.getD (List.drop 5<|FV.prow<|List.getD (FV.prow m.nf) 0 FV.N) 0 FV.N).length:Nat):Int):=by rw [e5];show m.na<(((FIs c.ins).length:Nat):Int);rw [zo];omega
 have U:List.getD (FV.ses<|List.getD (List.drop 5<|FV.prow<|List.getD (FV.prow m.nf) 0 FV.N) 0 FV.N) (Int.toNat m.na) []=FI x:=by
  rw [e5,hna,rt];show List.getD (FIs c.ins) at_ []=_;rw [Yv];simp [List.getD,hx]
 have s4:shpB [.cst<|.pointer none, .int .i64 0] (List.drop 4<|FV.prow m.nf)=true:=by rw [e0];cases k<;>rfl
 have s5:shpB [.int .i64 0] (List.drop 2<|FV.prow m.nf)=true:=by rw [e0];rfl
 have s6:shpB [.N] (List.drop 1<|FV.prow m.nf)=true:=by rw [e0];match v with|none=>rfl|some []=>rfl|some (_::_)=>rfl
 have nx:x.k≠3->x.k≠4->x.k≠8->x.k≠10->∀(H:Option Nat) (v':SlO),(slL v').length=(slL v).length->(headK x.k=true->∃n,H=some n/\c.ar<=(n:Int))->Pc H (.mk c v' b d k a) (wrap .i64<|m.na+1) ((aftP x.k p).2.toNat+q'):=λh3 h4 h8 h10 H v' hv hh=>by
  rw [wr1];exact Pc.to p1 (hv.trans p2) p3 p4 p5 p6 p7 hx (by omega) ((E.2 h3 h4 h8).2.2 h10) (E.2 h3 h4 h8).1 hh p11
 have af:x.k≠14->x.k≠15->(aftP x.k p).2=p.2:=λh1 h2=>by unfold aftP;repeat' split
                                                        all_goals first|rfl|(exfalso;omega)
 have go:x.k≠3->x.k≠4->x.k≠8->x.k≠10->x.k≠14->x.k≠15->∀v',(slL v').length=(slL v).length->Go { m with nf:=frF (.mk c v' b d k a),na:=wrap .i64 (m.na+1) } i:=λh3 h4 h8 h10 h14 h15 v' hv=>
  ⟨.mk c v' b d k a,ws,(aftP x.k p).2.toNat+q',rfl,hA,nx h3 h4 h8 h10 _ v' hv<|p10 x hx,by rw [af h14 h15];exact hq⟩
 have Z:x.k≠3->x.k≠4->x.k≠8->x.k≠10->x.k≠14->x.k≠15->Go { m with na:=wrap .i64 (m.na+1) } i:=λh3 h4 h8 h10 h14 h15=>by
  have:=go h3 h4 h8 h10 h14 h15 v rfl;rw [<-y] at this;exact this
 have no:∀(j:Int),x.k≠j->∀ {q:Prop},((x.k:Int)==j)=true->q:=λj hj q h=>absurd (by simpa using h) hj;have ys:∀ {j:Int},x.k=j->∀ {q:Prop},((x.k:Int)==j)=false->q:=λhj q h=>absurd hj (by simpa using h);by_cases k0:x.k=0\/x.k=1
 .have hh:headK x.k=true:=by rcases k0 with e|e<;>rw [e]<;>rfl
  let ⟨n,hn,hn2⟩:=p10 x hx hh
  obtain rfl:ws.length=n:=by injection hn
  have hxa:0<=x.a/\x.a<c.ar:=by
   unfold insB at F;rw [ri k0] at F;simp [rf,rK] at F;exact F.1
  have hA':m.A= .sl false 1 (IR ws):=hA.resolve_right λ⟨_,e⟩=>by subst e;simp at hn2;omega
  let ⟨o,D,M,g2⟩:=aW hK h y (Z (by omega) (by omega) (by omega) (by omega) (by omega)<|by omega) hA' x ⟨hxa.1,by omega⟩ ⟨by simp [B];omega,z5⟩
  refine ⟨o,D,acv (v49 ..) ?_,g2⟩;unfold w49_0;rw [U,xz];refine ask6 g g X u u W ⟨J,Y,O,rfl⟩ ?_;rcases k0 with e|e
  .exact za (λ_=>⟨(o,D),M, .refl _,rfl⟩)<|ys e
  .exact za (no 0<|by omega) λ_=>za (λ_=>⟨(o,D),M, .refl _,rfl⟩)<|ys e
 have hh:headK x.k=true->False:=λw=>by simp [headK] at w;omega
 by_cases e:x.k=2
 .let ⟨o,D,M,g2⟩:=ow hG (by omega) h y x.t (by omega) z5 (.mk c v b d k a) (wrap .i64<|m.na+1) (nx (by omega) (by omega) (by omega) (by omega) none v rfl λw=>(hh w).elim) (by rw [af (by omega)<|by omega];exact hq)
  rw [aPl,<-y] at M;refine ⟨o,D,acv (v49 ..) ?_,g2.up (by omega)<|rk _⟩;rw [U,xz];refine ask6 g g X u u W ⟨J,Y,O,rfl⟩ ?_
  iterate 2 refine skb (k:=x.k) (by omega) ?_
  exact za (λ_=>⟨(o,D),M, .refl _,rfl⟩)<|ys e
 by_cases e:x.k=3
 .have pz:=E.1<|.inl e
  let ⟨o,D,M,g2⟩:=ow hG (by omega) h y x.t (by omega) z5 k a p11 (by omega)
  refine ⟨o,D,acv (v49 ..) ?_,g2.up (by omega)<|rk _⟩;rw [U,xz];refine ask6 g g X u u W ⟨J,Y,O,rfl⟩ ?_;rw [e0]
  iterate 3 refine skb (k:=x.k) (by omega) ?_
  exact za (λ_=>zc g<|zc g<|zc (by rw [<-e0];exact s4) ⟨(o,D),M, .refl _,rfl⟩)<|ys e
 by_cases e:x.k=4
 .refine ⟨0,{ m with nf:=frF k,na:=a },acv (v49 ..) ?_, .inl ⟨rfl,rk _,ch,i,{ h.up (show K<=K+2097154 by omega) with },k,ws,q',rfl,hA,p11.arg _,by omega⟩⟩
  rw [U,xz];refine ask6 g g X u u W ⟨J,Y,O,rfl⟩ ?_;rw [e0]
  iterate 4 refine skb (k:=x.k) (by omega) ?_
  exact za (λ_=>zc g<|zc g<|zc (by rw [<-e0];exact s4) rrl)<|ys e
 by_cases e:x.k=5
 .have hl2:x.l.length=2:=by
   unfold fldB at hfl;simp [rf] at hfl;have:=hfl.2.2.2.2.1;rw [ri e] at this;simpa using this
  let ⟨o,D,M,g2⟩:=c_equal hK h y (Z (by omega) (by omega) (by omega) (by omega) (by omega)<|by omega) x.l hl2 (λt ht=>⟨by have:=(z2 t ht).1;simp [B];omega,(z2 t ht).2⟩)
  refine ⟨o,D,acv (v49 ..) ?_,g2⟩;rw [U,xz];refine ask6 g g X u u W ⟨J,Y,O,rfl⟩ ?_
  iterate 5 refine skb (k:=x.k) (by omega) ?_
  exact za (λ_=>⟨(o,D),M, .refl _,rfl⟩)<|ys e
 by_cases e:x.k=6
 .have hnum:Wa x.t=true:=by
   unfold insB at F;rw [r8 k0,r8<|by omega,ri e] at F;exact F
  let ⟨o,D,M,g2⟩:=hbi x.t hnum z1 z5<|Z (by omega) (by omega) (by omega) (by omega) (by omega)<|by omega
  refine ⟨o,D,acv (v49 ..) ?_,g2⟩;rw [U,xz];refine ask6 g g X u u W ⟨J,Y,O,rfl⟩ ?_
  iterate 6 refine skb (k:=x.k) (by omega) ?_
  exact za (λ_=>⟨(o,D),M, .refl _,rfl⟩)<|ys e
 by_cases e:x.k=7
 .have fm:zH [b,(m.n:Int)]=min b m.n:=rfl;have hb:=(h.cut (Int.toNat<|zH [b,m.n])<|by rw [fm];omega).up (show K<=K+2097154 by omega);refine ⟨0,{ m with na:=wrap .i64 (m.na+1),n:=Int.toNat (zH [b,m.n]) },acv (v49 ..) ?_, .inl ⟨rfl,rk _,_,i,{ hb with },Z (by omega) (by omega) (by omega) (by omega) (by omega)<|by omega⟩⟩
  rw [U,xz];refine ask6 g g X u u W ⟨J,Y,O,rfl⟩ ?_;have M:0<=zH [b,m.n]/\zH [b,m.n]<=m.n:=by rw [fm];omega
  rw [e0]
  iterate 7 refine skb (k:=x.k) (by omega) ?_
  exact za (λ_=>zc g<|zc g<|zc (by rw [<-e0];exact s5) ⟨⟨rk _,M⟩, .refl _,rfl⟩)<|ys e
 by_cases e:x.k=8
 .refine ⟨1,m,acv (v49 ..) ?_, .inr<|.inl ⟨rfl,rk _,ch,i,h.up<|by omega⟩⟩;rw [U,xz];refine ask6 g g X u u W ⟨J,Y,O,rfl⟩ ?_
  iterate 8 refine skb (k:=x.k) (by omega) ?_
  exact za (λ_=>rrl)<|ys e
 have jp:x.k=9\/x.k=10->∀H:Option Nat,Pc H (.mk c v b d k a) x.a ((aftP x.k p).2.toNat+q'):=λhk H=>by
  have hr:=F;unfold insB at hr;rw [r8 k0,r8<|by omega,r8<|by omega,ri hk,rK] at hr;have:=Pc.to (j:=x.a.toNat) p1 p2 p3 p4 p5 p6 p7 hx (by omega) ((E.2 (by omega) (by omega)<|by omega).2.1 hk) (E.2 (by omega) (by omega)<|by omega).1 (λw=>(hh w).elim) p11 (H:=H)
  rwa [show x.a.toNat=x.a by omega] at this
 by_cases e:x.k=9
 .have hpu:=c_push m h.len h.S (.mk c v b d k a) x.a .N .nil 0 .N;have hb:=h.push (.mk c v b d k a) x.a .N .nil 0 .N<|.inl ⟨rfl,_,jp (.inl e) none,by rw [af (by omega)<|by omega];exact hq⟩
  rw [aCh,<-y] at hpu;generalize jd m (.mk c v b d k a) x.a .N .nil 0 .N=z at hpu hb
  let ⟨z1,m1⟩:=z
  dsimp only at hpu hb;rcases hb with rfl|⟨rfl,hf1,hs1,hn1,hn2,hA1,hb⟩
  .refine ⟨_,_,acv (v49 ..) ?_, .inr<|.inr<|uq (m:=m1) (l:=m1.f) (e:=202) (by decide)<|by decide⟩;rw [U,xz];refine ask6 g g X u u W ⟨J,Y,O,rfl⟩ ?_
   iterate 9 refine skb (k:=x.k) (by omega) ?_
   exact za (λ_=>⟨(202,m1),hpu,bP ⟨y3 m1 m1.f 202,yI _ _ _, .refl _,si (λz=>mSb z []) zF⟩⟩)<|ys e
  .refine ⟨0,{ m1 with nf:=m.nf,na:=wrap .i64 (m.na+1) },acv (v49 ..) ?_, .inl ⟨rfl,hf1,_,i,{ hb.up (by omega) with }, ?_⟩⟩
   .rw [U,xz];refine ask6 g g X u u W ⟨J,Y,O,rfl⟩ ?_
    iterate 9 refine skb (k:=x.k) (by omega) ?_
    exact za (λ_=>⟨(0,m1),hpu,bN rrl⟩)<|ys e
   .let ⟨k',ws',q2,r1,r2,r3,r4⟩:=Z (by omega) (by omega) (by omega) (by omega) (by omega) (by omega)
    exact ⟨k',ws',q2,r1,by rw [<-hA1] at r2;exact r2,r3,r4⟩
 by_cases e:x.k=10
 .refine ⟨0,{ m with na:=x.a },acv (v49 ..) ?_, .inl ⟨rfl,rk _,ch,i,{ h.up (by omega) with }, .mk c v b d k a,ws,_,y,hA,jp (.inr e) _,by rw [af (by omega)<|by omega];exact hq⟩⟩
  rw [U,xz];refine ask6 g g X u u W ⟨J,Y,O,rfl⟩ ?_
  iterate 10 refine skb (k:=x.k) (by omega) ?_
  exact za (λ_=>rrl)<|ys e
 have sl:x.k=11\/x.k=13->0<=x.a/\x.a<((slL v).length):=λhk=>by
  have hr:=F;unfold insB at hr;rw [r8 k0,r8<|by omega,r8<|by omega,r8<|by omega,ri hk,rK] at hr;rw [p2];omega
 by_cases e:x.k=11
 .let ⟨o,D,M,g2⟩:=c_slot (m:={ m with L:=wrap .i64 (m.L+1) }) { h with } y x.a (sl<|.inl e) (by omega) ⟨1,wrap .i64<|m.L+1,0,0,0⟩ (by simp)<|go (by omega) (by omega) (by omega) (by omega) (by omega)<|by omega
  refine ⟨o,D,acv (v49 ..) ?_,g2.up (by omega)<|rk _⟩;rw [U,xz];refine ask6 g g X u u W ⟨J,Y,O,rfl⟩ ?_
  iterate 11 refine skb (k:=x.k) (by omega) ?_
  exact za (λ_=>⟨(o,D),M, .refl _,rfl⟩)<|ys e
 by_cases e:x.k=12
 .refine ⟨0,{ m with na:=wrap .i64 (m.na+1),L:=wrap .i64 (m.L-1) },acv (v49 ..) ?_, .inl ⟨rfl,rk _,ch,i,{ h.up (by omega) with },Z (by omega) (by omega) (by omega) (by omega) (by omega)<|by omega⟩⟩
  rw [U,xz];refine ask6 g g X u u W ⟨J,Y,O,rfl⟩ ?_
  iterate 12 refine skb (k:=x.k) (by omega) ?_
  exact za (λ_=>rrl)<|ys e
 by_cases e:x.k=13
 .let ⟨o,D,M,g2⟩:=c_slot h y x.a (sl<|.inr e) (by omega) ⟨4,m.L,0,0,0⟩ (by simp)<|go (by omega) (by omega) (by omega) (by omega) (by omega)<|by omega
  refine ⟨o,D,acv (v49 ..) ?_,g2.up (by omega)<|rk _⟩;rw [U,xz];refine ask6 g g X u u W ⟨J,Y,O,rfl⟩ ?_
  iterate 13 refine skb (k:=x.k) (by omega) ?_
  exact za (λ_=>⟨(o,D),M, .refl _,rfl⟩)<|ys e
 by_cases e:x.k=14
 .have e1:(aftP x.k p).2=p.2+1:=by rw [e];rfl
  have fr:∀d∈x.c,d.fr<=c.sl:=λd hd=>(mz c.ins 0 none (vC_eq p1.1).2.2.1 x hmem d hd).1
  have hb:Bs G (K+2097154) { m with na:=wrap .i64 (m.na+1),I:=imF (.mk x.c v i) } ch (.mk x.c v i):={ h.up (by omega) with
   I:=rfl,i1:=⟨λd hd=>⟨z4 d hd,by have:=fr d hd;omega⟩,z3,by omega,h.i1⟩,i2:=by simp [imD];omega }
  refine ⟨0,{ m with na:=wrap .i64 (m.na+1),I:=imF (.mk x.c v i) }, ?_, .inl ⟨rfl,rk _,ch,_,hb, .mk c v b d k a,ws,_,y,hA,nx (by omega) (by omega) (by omega) (by omega) _ v rfl (λw=>(hh w).elim),by rw [e1];simp [imD];omega⟩⟩
  have hI2:=h.I
  have r:AC Tryz.prog 49 [aM] (mOb m []) (ci 0) (.arr 14 [[.a<|.ep 1 6 0 0,qf m.P,qf m.T,qi m.S,qf m.V,qf m.nf,qi<|wrap .i64<|m.na+1,qf m.A,qi m.L, .a<|.ep 10 3 0 0, .a<|.osl 11 10 0 m.n,qi m.f,qf<|.bool m.w,qf m.o]]::
    hpO 7 8 9 5 m.s:: .gone:: .gone:: .gone:: .mapz (NM m.s.N 0):: .gone:: .arz 5 (CR m.s.C):: .arz 7 (TR m.s.T):: .arz 1 (NR m.s.N):: .arr 3 [[qf<|.sl false 6<|FCs x.c,qf<|List.getD (List.drop 1<|FV.prow m.nf) 0 FV.N,qf m.I]]::[.arz 10 m.C]):=by
   refine acv (v49 ..) ?_;rw [U,xz];refine ask6 g g X u u W ⟨J,Y,O,rfl⟩ ?_
   iterate 14 refine skb (k:=x.k) (by omega) ?_
   exact za (λ_=>zc g<|zc g<|zc s6 rrl)<|ys e
  have e6:List.getD (List.drop 1<|FV.prow m.nf) 0 FV.N=slF v:=by rw [e0];rfl
  rw [e6,hI2] at r;exact (r.ice 10 3 [[.sl false 6<|FCs x.c,slF v,imF i]] rfl).skip 10 1 _ (ci 0) rfl rfl rfl rfl (by simp) (by simp)
 by_cases e:x.k=15
 .have e1:(aftP x.k p).2=p.2-1:=by rw [e];rfl
  have e2:=(E.2 (by omega) (by omega)<|by omega).1;cases i with
  |nil=>simp [imD] at hq;omega
  |mk cs_ s_ i=>
   have hI2:=h.I;have u0:FV.prow m.I=[.sl false 6<|FCs cs_,slF s_,imF i]:=by rw [hI2];rfl
   have u1:FV.isPt m.I=true:=by rw [hI2];rfl
   have u2:shpB [.cst<|.pointer none] (List.drop 2<|FV.prow m.I)=true:=by rw [u0];cases i<;>rfl
   have hb:Bs G (K+2097154) { m with na:=wrap .i64 (m.na+1),I:=imF i } ch i:={ h.up (by omega) with
    I:=rfl,i1:=h.i1.2.2.2,i2:=by have:=h.i2;simp [imD] at this;dsimp only;omega }
   refine ⟨0,{ m with na:=wrap .i64 (m.na+1),I:=imF i },acv (v49 ..) ?_, .inl ⟨rfl,rk _,ch,i,hb, .mk c v b d k a,ws,_,y,hA,nx (by omega) (by omega) (by omega) (by omega) _ v rfl (λw=>(hh w).elim),by rw [e1];simp [imD] at hq;omega⟩⟩
   rw [U,xz];refine ask6 g g X u u W ⟨J,Y,O,rfl⟩ ?_;rw [u0]
   iterate 15 refine skb (k:=x.k) (by omega) ?_
   exact za (λ_=>zc u1<|zc u1<|zc (by rw [<-u0];exact u2) rrl)<|ys e
 refine ⟨0,{ m with na:=wrap .i64 (m.na+1) },acv (v49 ..) ?_, .inl ⟨rfl,rk _,ch,i,{ h.up (by omega) with },Z (by omega) (by omega) (by omega) (by omega) (by omega)<|by omega⟩⟩
 rw [U,xz];refine ask6 g g X u u W ⟨J,Y,O,rfl⟩ ?_
 iterate 16 refine skb (k:=x.k) (by omega) ?_
 exact rrl
def I64 (x:Int):= -9223372036854775808<=x/\x<=9223372036854775807
def testV (op:List UInt8)(a b:Int):Bool×Int:=
 if op=[60] then (decide (a<b),0) else if op=[61,60] then (decide (a<=b),0) else if op=[62] then (decide (a>b),0) else if op=[62,61] then (decide (a>=b),0) else (false,180)
abbrev tII (z:Int×Int):TV:= .tup [(false,[qi z.1]),(false,[qi z.2])]
abbrev tBI (z:Bool×Int):TV:= .tup [(false,[qf<|.bool z.1]),(false,[qi z.2])]
def leBI {a b z}(h:z=(a,b)):TV.Le (.tup [(false,[qf<|.bool a]),(false,[qi b])]) (tBI z)/\([]:List AObj)=[]:=by rw [h];exact rrl
abbrev cu (n:Int):TV:= .c<|qf<|.int .u64 n
def ng (a)(b:I64 a):AC Tryz.prog 199 [ci a] [] (cu a.natAbs) []:=by
 refine acv (v199 ..) ?_;unfold I64 at b;refine za (λh=> ?_) λh=> ?_
 .have h:=ro h;rw [show wrap .u64 _=a.natAbs by rw [IntKind.wrap_u64,IntKind.wrap_u64];omega];exact rrl
 .have h:=rg h;rw [show wrap .u64 a=a.natAbs by rw [IntKind.wrap_u64];omega];exact rrl
def c_amul (x y:Nat)(e:x<18446744073709551616)(j:y<18446744073709551616):AC Tryz.prog 200 [cu x,cu y] [] (.tup [(false,[qf<|.int .u64<|(x*y/18446744073709551616:Nat)]),(false,[qf<|.int .u64<|(x*y % 18446744073709551616:Nat)])]) []:=by
 refine AC.of_calls (vals:=[.int .u64 x, .int .u64 y]) (v:= .tuple #[.int .u64<|(x*y/18446744073709551616), .int .u64<|(x*y % 18446744073709551616:Nat)]) (by kernel_rfl) (λw=>Tryz.bits_Mul64 x y e j w) (λw X β p o=> ?_) λw X β=> ?_
 .obtain ⟨u,h,rfl,d,m⟩:=o.cons_inv;obtain ⟨v,i,rfl,f,g⟩:=m.cons_inv;rw [TRep.int_inv d,TRep.int_inv f,g.nil_inv]
 .refine ⟨[.int .u64<|(x*y/18446744073709551616), .int .u64<|(x*y % 18446744073709551616)],rfl, ?_⟩;have b:∀n,PRep (WRep w X β) (false,[qf<|.int .u64 n]) _:=λn=>⟨[.int .u64 n],rfl, .cons (.a _ _<|.fz _ _<|.int _ _) .nil,λ_=>rfl⟩;exact .cons (b _)<|.cons (b _) .nil
def WQ (x):I64 (wrap .i64 x):=by rw [IntKind.wrap_i64];unfold I64;omega
def uV {x y:List UInt8}(h:(x==y)=false):¬x=y:=by simpa using h
def Yd {x y:List UInt8}(h:(x==y)=true):x=y:=by simpa using h
def c_atest (g a b):AC Tryz.prog 168 [cs g,ci a,ci b] [] (tBI<|testV g a b) []:=by
 refine acv (v168 ..) ?_;unfold testV
 repeat' (first|refine za (λh=> ?_) (λh=> ?_))
 .rw [ri<|Yd h];exact leBI rfl
 .rename_i d;rw [r8<|uV d,ri<|Yd h];exact leBI rfl
 .rename_i e d;rw [r8<|uV e,r8<|uV d,ri<|Yd h];exact leBI rfl
 .rename_i f e d;rw [r8<|uV f,r8<|uV e,r8<|uV d,ri<|Yd h];exact leBI rfl
 .rename_i f e d;rw [r8<|uV f,r8<|uV e,r8<|uV d,r8<|uV h];exact leBI rfl
def acE {lv f args}{X:Int×Int->Prop}(e:∀z,vcE Tryz.prog sh lv f args [] (λr0 Hs0=>TV.Le r0 (tII z)/\Hs0=[]) (RPt Tryz.prog f 0 (tII z) [])=X z)(h:∃z,I64 z.1/\X z):∃z,I64 z.1/\AC Tryz.prog f args [] (tII z) []:=by
 let ⟨z,d,b⟩:=h
 exact ⟨z,d,AC.vc hP sh lv (r9 _) (by simp) (by simp)<|Eq.mpr (e z) b⟩
def brE {b}{t f:Int×Int->Prop}(e:b=true->∃z,I64 z.1/\t z)(d:b=false->∃z,I64 z.1/\f z):∃z,I64 z.1/\br b (t z) (f z):=by
 cases b with
 |true=>exact e rfl
 |false=>exact d rfl
def zI:I64 0:=by unfold I64;omega
def cA (a b):∃z,I64 z.1/\AC Tryz.prog 197 [ci a,ci b] [] (tII z) []:=by
 refine acE (λz=>v197 a b _ [])<|brE (λ_=>brE (λ_=>⟨(0,182),zI, .refl _,rfl⟩) λ_=>⟨(wrap .i64 _,0),WQ _, .refl _,rfl⟩) λ_=>⟨(wrap .i64 _,0),WQ _, .refl _,rfl⟩
def Yf (m d b):∃z,I64 z.1/\AC Tryz.prog 198 [cb m,cu d,cu b] [] (tII z) []:=by
 refine acE (λz=>v198 m d b _ []) ?_;refine brE (λ_=>brE (λ_=> ?_) λ_=>brE (λ_=> ?_) λ_=>brE (λ_=> ?_) λ_=> ?_) λ_=>brE (λ_=> ?_) λ_=>brE (λ_=> ?_) λ_=>brE (λ_=> ?_) λ_=> ?_
 all_goals first|exact ⟨(0,182),zI, .refl _,rfl⟩|exact ⟨(_,0),WQ _, .refl _,rfl⟩
def x_ado (g a b)(i:I64 a)(m:I64 b):∃z,I64 z.1/\AC Tryz.prog 170 [cs g,ci a,ci b] [] (tII z) []:=by
 have f:=ng a i;have j:=ng b m;have na:a.natAbs<=9223372036854775808:=by unfold I64 at i;omega
 have x:b.natAbs<=9223372036854775808:=by unfold I64 at m;omega
 have v:b≠0->I64 (a.tmod b):=λh=>by
  have e:=Int.natAbs_tmod a b;have d:=Nat.mod_lt a.natAbs (show b.natAbs>0 by omega);unfold I64 at*;omega
 have u:b≠0->(b.natAbs:Int)≠0:=λh=>by omega
 refine acE (λz=>v170 g a b _ []) ?_;refine brE (λ_=> ?_) λ_=>brE (λ_=> ?_) λ_=>brE (λ_=>brE (λ_=> ?_) λ_=> ?_) λ_=>brE (λ_=> ?_) λ_=>brE (λh=>brE (λ_=>⟨(0,181),zI, .refl _,rfl⟩) λq=>brE (λw=> ?_) λ_=> ?_) λ_=>brE (λh=>brE (λ_=>⟨(0,181),zI, .refl _,rfl⟩) λq=>brE (λ_=> ?_) λw=> ?_) λ_=>⟨(0,180),zI, .refl _,rfl⟩
 .let ⟨z,e,d⟩:=cA a b;exact ⟨z,e,_,_,d, .refl _,rfl⟩
 .let ⟨z,e,d⟩:=Yf (decide (a>0)) 0 a.natAbs;exact ⟨z,e,_,f,_,_,d, .refl _,rfl⟩
 .let ⟨z,e,d⟩:=cA a (wrap .i64<|0-b);exact ⟨z,e,_,_,d, .refl _,rfl⟩
 .let ⟨y,e,d⟩:=cA a 9223372036854775807
  by_cases q:y.2=0
  .let ⟨z,o,p⟩:=cA y.1 1;exact ⟨z,o,_,_,d,za (λw=>by simp [q] at w) λ_=>⟨_,_,p, .refl _,rfl⟩⟩
  .exact ⟨(0,y.2),zI,_,_,d,za (λ_=>rrl) λw=>absurd (by simpa using w) q⟩
 .have r:=c_amul a.natAbs b.natAbs (by omega) (by omega);obtain ⟨z,e,d⟩:=Yf _ _ _;exact ⟨z,e,_,f,_,j,_,_,r,_,_,d, .refl _,rfl⟩
 .rw [Yd h] at w;cases w
 .obtain ⟨z,e,d⟩:=Yf _ 0 _;exact ⟨z,e,_,f,_,j,⟨rfl,u<|by simpa using q⟩,_,_,d, .refl _,rfl⟩
 .exact ⟨(_,0),v<|by simpa using q,⟨rfl,by simpa using q⟩, .refl _,rfl⟩
 .rw [h] at w;cases w
abbrev tNo (n o:Int):TV:= .tup [(false,[qi n]),(false,[qi o])]
def NuOk (G:Gs)(K:Nat)(i:Im)(ch:List Ch)(m:Ma):Prop:=∀a:Int,∃(n o:Int) (m':Ma),AC Tryz.prog 127 [aM,ci a] (mOb m []) (tNo n o) (mSb m' [])/\(o≠0->Po G K m.f o m')/\(o=0->m'.f<=m.f/\Bs G K m' ch i/\m'.nf=m.nf/\m'.na=m.na/\m'.A=m.A/\I64 n)
def Go.of {m e i}(h:Go m i)(f:e.nf=m.nf)(g:e.na=m.na)(j:e.A=m.A):Go e i:=by
 let ⟨k,o,q,a,b,c,d⟩:=h
 exact ⟨k,o,q,f.trans a,by rw [j];exact b,by rw [g];exact c,d⟩
def ni {G K j i}(g:∀m,Bs G K m j i->NuOk G K i j m){m}(h:Bs G K m j i)(C:Go { m with na:=wrap .i64 (m.na+1) } i)(A x y):
  ∃o J,AC Tryz.prog 126 [aM,cs A,ci x,ci y] (mOb m []) (ci o) (mSb J [])/\Po G K m.f o J:=by
 let ⟨e,o1,d,u,V,W⟩:=g m h x
 by_cases v:o1=0
 .subst v
  let ⟨M,F,O,S,T,i1⟩:=W rfl
  let ⟨p,D,b,E,N,X⟩:=g d F y
  by_cases z:D=0
  .subst z
   let ⟨Y,r,U,t2,t3,i2⟩:=X rfl
   have H:=c_atest A e p;have L:Go { b with na:=wrap .i64 _ } i:=C.of (U.trans O) (by show wrap .i64 (b.na+1)=_;rw [t2,S])<|t3.trans T
   cases I:(testV A e p).1 with
   |true=>
    refine ⟨0,{ b with na:=wrap .i64 (b.na+1) },acv (v126 ..) ?_, .inl ⟨rfl,by dsimp only;omega,j,i,{ r with },L⟩⟩
    exact ⟨((e,0),d),u,bN ⟨((p,0),b),E,bN ⟨_,_,H,za (λw=>by rw [I] at w;cases w) λ_=>rrl⟩⟩⟩
   |false=>
    refine ⟨1,b,acv (v126 ..) ?_, .inr<|.inl ⟨rfl,by omega,j,i,r⟩⟩;exact ⟨((e,0),d),u,bN ⟨((p,0),b),E,bN ⟨_,_,H,za (λ_=>rrl) λw=>by rw [I] at w;cases w⟩⟩⟩
  .refine ⟨D,b,acv (v126 ..) ?_,(N z).up (r9 _) M⟩;exact ⟨((e,0),d),u,bN ⟨((p,D),b),E,za (λ_=>rrl) λw=>absurd (by simpa using w) z⟩⟩
 .refine ⟨o1,d,acv (v126 ..) ?_,V v⟩;exact ⟨((e,o1),d),u,za (λ_=>rrl) λw=>absurd (by simpa using w) v⟩
def nL {G K}(hK:K+2097154<=100000000000){m M i}(J:∀m,Bs G K m M i->NuOk G K i M m)(h:Bs G K m M i){c v b d k a}(Y:m.nf=frF (.mk c v b d k a))(N:Go { m with na:=wrap .i64 (m.na+1) } i)(t)(hz:t.sz<=40)(hi:tmI t)(V:Wa t=true):
  ∃o r,AC Tryz.prog 82 [aM,aT t] (mOb m []) (ci o) (mSb r [])/\Po G (K+2097154) m.f o r:=by
 have f0:=h.f0;have I:=Zb t (by simp [B];omega)
 let ⟨js,e,j,g1,g2,L⟩:=Wx (by omega) h Y (zE t).2 (gd t<|by omega)<|dU t (by simp [B];omega) hi
 have hl:(zE t).2.length=2:=by
  unfold Wa at V;simp [rf,rT] at V;exact V.2.2
 let ⟨D,F,u,H⟩:=t
 by_cases X:e=0
 .subst X
  let ⟨g4,g3⟩:=g2 rfl
  clear g2;rw [hl] at g3
  match js,g3 with
  |[x,y],_=>
   have U:=h.hq g4 f0<|rk _
   have r0:FV.L 1 (.sl false 1<|IR [x,y])=true/\((0:Int)<=0/\(0<(((IR [x,y]).length):Int)/\([.int .i64<|FV.I<|List.getD (List.getD (IR [x,y]) 0 []) 0 FV.N])=List.getD (IR [x,y]) 0 [])):=⟨rfl,by decide,by show 0<2;decide,rfl⟩;have T:FV.L 1 (.sl false 1<|IR [x,y])=true/\((0:Int)<=1/\(1<(((IR [x,y]).length):Int)/\([.int .i64<|FV.I<|List.getD (List.getD (IR [x,y]) 1 []) 0 FV.N])=List.getD (IR [x,y]) 1 [])):=⟨rfl,by decide,by show 1<2;decide,rfl⟩;by_cases p:(zE<|.mk D F u H).1.s=[105,115]
   .let ⟨n,o,g,n1,n2,n3⟩:=J _ U y
    by_cases W:o=0
    .subst W
     let ⟨f1,O,t1,t2,t3,i1⟩:=n3 rfl
     have hp:=xB g.s ⟨2,n,0,0,0⟩ (by have:=O.h.C;omega);have S:=O.gr<|Gr.put g.s ⟨2,n,0,0,0⟩ λ_=>i1
     generalize putS g.s ⟨2,n,0,0,0⟩=z at*;by_cases A:z.1.2=0
     .let ⟨o',r,Z,E⟩:=f9 (by omega) S (N.of t1 (by show wrap .i64 (g.na+1)=_;rw [t2]) t3) x z.1.1
      refine ⟨o',r,acv (v82 ..) ?_,E.up (r9 _) f1⟩;exact ⟨zE<|.mk D F u H,I,(([x,y],0),{ m with s:=j }),L,bN <| za (λw=>by simp [p] at w) λ_=>⟨T,((n,0),g),n1,bN ⟨z,hp,za (λw=>absurd A<|by simpa using w) λ_=>⟨r0,(o',r),Z, .refl _,rfl⟩⟩⟩⟩
     .refine ⟨_,_,acv (v82 ..) ?_,(wq (l:=g.f) S A<|rk _).up (by omega) f1⟩;exact ⟨zE<|.mk D F u H,I,(([x,y],0),{ m with s:=j }),L,bN <| za (λw=>by simp [p] at w) λ_=>⟨T,((n,0),g),n1,bN ⟨z,hp,za (λ_=>⟨_,yI { g with s:=z.2 } g.f z.1.2, .refl _,si (λz=>mSb z [])<|zF (m:={ g with s:=z.2 })⟩) λw=>absurd (by simpa using w) A⟩⟩⟩
    .refine ⟨o,g,acv (v82 ..) ?_,(n2 W).up (by omega)<|rk _⟩;exact ⟨zE<|.mk D F u H,I,(([x,y],0),{ m with s:=j }),L,bN <| za (λw=>by simp [p] at w) λ_=>⟨T,((n,o),g),n1,za (λ_=>rrl) λw=>absurd (by simpa using w) W⟩⟩
   .let ⟨o',r,Z,E⟩:=ni J U N (zE<|.mk D F u H).1.s x y
    refine ⟨o',r,acv (v82 ..) ?_,E.up (by omega)<|rk _⟩;exact ⟨zE<|.mk D F u H,I,(([x,y],0),{ m with s:=j }),L,bN <| za (λ_=>⟨r0,T,(o',r),Z, .refl _,rfl⟩) λw=>absurd (by simpa using w) p⟩
 .have U:=h.hq g1 f0<|rk _
  refine ⟨_,_,acv (v82 ..) ?_,(wq (l:=m.f) U X<|rk _).up (by omega)<|rk _⟩;exact ⟨zE<|.mk D F u H,I,((js,e),{ m with s:=j }),L,za (λ_=>⟨y3 { m with s:=j } m.f e,yI _ _ _, .refl _,si (λz=>mSb z [])<|zF (m:={ m with s:=j })⟩) λw=>absurd (by simpa using w) X⟩
def YN (op:List UInt8):Int:=
 if op=[43] then 2 else if op=[45] then 2 else if op=[42] then 2 else if op=[100,105,118] then 2 else if op=[109,111,100] then 2 else if op=[126] then 1 else 0
def Z7 (b):YN b=0\/YN b=1\/YN b=2:=by
 unfold YN;repeat' split
 all_goals simp
def pE (b):AC Tryz.prog 169 [cs b] [] (ci<|YN b) []:=by
 refine acv (v169 ..) ?_;unfold YN;refine za (λh=> ?_) λh=> ?_
 .rw [ri<|Yd h];exact rrl
 rw [r8<|uV h];refine za (λh=> ?_) λh=> ?_
 .rw [ri<|Yd h];exact rrl
 rw [r8<|uV h];refine za (λh=> ?_) λh=> ?_
 .rw [ri<|Yd h];exact rrl
 rw [r8<|uV h];refine za (λh=> ?_) λh=> ?_
 .rw [ri<|Yd h];exact rrl
 rw [r8<|uV h];refine za (λh=> ?_) λh=> ?_
 .rw [ri<|Yd h];exact rrl
 rw [r8<|uV h];refine za (λh=> ?_) λh=> ?_
 .rw [ri<|Yd h];exact rrl
 rw [r8<|uV h];exact rrl
def headS_f (s a f)(h:(ym s a f).1.2.2=0):(ym s a f).1.2.1+(ym s a f).1.1.2.length+1<=f:=by
 have g:=(KJ _ ⟨s,f,0⟩ a<|r9 _).2;revert h;unfold ym;split
 .rename_i q;exact λh=>absurd h q
 .rename_i q;intro _;exact (g<|by simpa using q).1
def l_nudo1 (m s x a b){z}(d:AC Tryz.prog 170 [cs s,ci a,ci b] [] (tII z) []):RPt Tryz.prog 127 7 (tNo z.1 (y3 m m.f z.2).1) (mSb (y3 m m.f z.2).2 []) 1 ⟨[(0,aM),(12,cs s),(14, .c<|.a<|.ep 11 2 0 0),(90,aIs [x]),(91,ci<|((IR [x]).length)),(92,ci 1)],numO 0<|mSb m [.arr 2 [[qi a,qi b]]],12⟩:=
 rpv (fh ..) (bF (by simp [IR]) ⟨⟨rk _,by decide⟩,⟨by decide,by decide⟩,_,_,d,_,yI m m.f z.2, .refl _,si (λz=>mSb z []) zF⟩)
def l_nudo2 (m s x y a b){z}(d:AC Tryz.prog 170 [cs s,ci a,ci b] [] (tII z) []):RPt Tryz.prog 127 7 (tNo z.1 (y3 m m.f z.2).1) (mSb (y3 m m.f z.2).2 []) 1 ⟨[(0,aM),(12,cs s),(14, .c<|.a<|.ep 11 2 0 0),(90,aIs [x,y]),(91,ci<|((IR [x,y]).length)),(92,ci 2)],numO 0<|mSb m [.arr 2 [[qi a,qi b]]],12⟩:=
 rpv (v127_1c ..) (bF (by simp [IR]) ⟨⟨rk _,by decide⟩,⟨by decide,by decide⟩,_,_,d,_,yI m m.f z.2, .refl _,si (λz=>mSb z []) zF⟩)
abbrev NuT (s:List UInt8)(m:Ma)(xs:List Int)(r:TV)(Hs':List AObj):=∃n,AC Tryz.prog 169 [cs s] [] (ci n) []/\br (n==0) (∃z:Int×Ma,AC Tryz.prog 36 [aM,ci m.f,ci 180] (mOb m []) (ci z.1) (mOb { z.2 with s:=m.s,C:=m.C } [])/\TV.Le (tNo 0 z.1) r/\mSb { z.2 with s:=m.s,C:=m.C } []=Hs')
 (FV.L 1 (.sl false 1<|IR xs)=true/\br (n !=(((IR xs).length))) (∃z:Int×Ma,AC Tryz.prog 36 [aM,ci m.f,ci 180] (mOb m []) (ci z.1) (mOb { z.2 with s:=m.s,C:=m.C } [])/\TV.Le (tNo 0 z.1) r/\mSb { z.2 with s:=m.s,C:=m.C } []=Hs')
  (FV.L 1 (.sl false 1<|IR xs)=true/\RPt Tryz.prog 127 7 r Hs' 1 ⟨[(0,aM),(12,cs s),(14, .c<|.a<|.ep 11 2 0 0),(90,aIs xs),(91,ci<|((IR xs).length)),(92,ci 0)],numO 0<|mSb m [.arr 2 [[qi 0,qi 0]]],12⟩))
def c_number {G K T i}:∀(n:Nat) (m),Bs G K m T i->m.f<=n->NuOk G K i T m:=by
 intro n
 induction n using Nat.strongRecOn with
 |_ n ih=>
 intro m h hf a;have f0:=h.f0;have f1:=h.f1;have hh:=gt m.s a m.f h.h (by omega) (by omega)
 let ⟨g1,g2,O⟩:=mJ a h.h h.g h.n f0 (by omega)
 have D:=headS_f m.s a m.f;generalize ym m.s a m.f=z at*
 let ⟨⟨⟨hd,xs⟩,left,e⟩,b⟩:=z
 dsimp only at g1 g2 O D hh;have ht:=yI { m with s:=b } left e
 by_cases he:e=0
 .subst he;have D:=D rfl;have H:=h.hq g1 g2 O;have hc:=xZ b hd;have hn:=Wu b (zk b.C hd).a;have i0:I64 0:=by unfold I64;omega
  by_cases Z:(zk b.C hd).t=2/\xs=[]
  .obtain ⟨Z,rfl⟩:=Z;refine ⟨(zk b.C hd).a,0,{ m with s:=b,f:=left },acv (v127 ..) ?_,λq=>absurd rfl q,λ_=>⟨O,H,rfl,rfl,rfl,H.ih.cell Z⟩⟩
   exact ⟨(hd,[],left,0,b),hh,_,ht,bN ⟨_,_,_,_,_,_,hc,za (λ_=>⟨rfl,bP rrl⟩) λq=>by simp [Z] at q⟩⟩
  .
   have p:∀r Hs',7<=Hs'.length->(∀x∈Hs'.drop 7,isLive x)->NuT (if (zk b.C hd).t=0 then uc b.N (zk b.C hd).a else []) { m with s:=b,f:=left } xs r Hs'->AC Tryz.prog 127 [aM,ci a] (mOb m []) r Hs':=λr Hs' l1 l2 hT=>by
    refine AC.vc hP sh mB l1 (by simp [isLive,moO]) l2<|Eq.mpr (v127 ..) ?_
    refine ⟨(hd,xs,left,0,b),hh,_,ht,bN ⟨_,_,_,_,_,_,hc, ?_⟩⟩
    have tl:br ((zk b.C hd).t==0) (∃s,AC Tryz.prog 160 [aH 0,ci (zk b.C hd).a] (hOb b []) (cs s) (hOb b [])/\NuT s { m with s:=b,f:=left } xs r Hs') (NuT [] { m with s:=b,f:=left } xs r Hs'):=
     za (λq=>⟨_,hn,by rw [ri<|by simpa using q] at hT;exact hT⟩) λq=>by rw [r8<|by simpa using q] at hT;exact hT
    refine za (λq=>⟨rfl,za (λw=>absurd ⟨by simpa using q, ?_⟩ Z) λ_=>tl⟩) λ_=>tl;cases xs with
    |nil=>rfl
    |cons=>simp [IR] at w;omega
   generalize (if (zk b.C hd).t=0 then uc b.N (zk b.C hd).a else [])=s at p
   have v:∀m,7<=(mSb m []).length/\∀x∈(mSb m []).drop 7,isLive x:=λm=>⟨by simp,by simp [isLive,moO]⟩
   have j:YN s=0\/YN s≠xs.length->∃(n o:Int) (u:Ma),AC Tryz.prog 127 [aM,ci a] (mOb m []) (tNo n o) (mSb u [])/\(o≠0->Po G K m.f o u)/\(o=0->u.f<=m.f/\Bs G K u T i/\u.nf=m.nf/\u.na=m.na/\u.A=m.A/\I64 n):=λq=>by
    refine ⟨0,_,_,p _ (mSb (y3 { m with s:=b,f:=left } left 180).2 []) (v _).1 (v _).2 ⟨_,pE s,za (λ_=>⟨y3 { m with s:=b,f:=left } left 180,yI _ _ _, .refl _,si (λz=>mSb z []) zF⟩) λw=>⟨rfl,za (λ_=>⟨y3 { m with s:=b,f:=left } left 180,yI _ _ _, .refl _,si (λz=>mSb z []) zF⟩) λw2=> ?_⟩⟩,λ_=>wq H (by decide) O,λq=>absurd q<|kD<|by decide⟩
    rw [zn] at w2;simp at w w2;omega
   have fin:∀(d) (z:Int×Int),I64 z.1->Bs G K d T i->d.f<=m.f->d.nf=m.nf->d.na=m.na->d.A=m.A->AC Tryz.prog 127 [aM,ci a] (mOb m []) (tNo z.1 (y3 d d.f z.2).1) (mSb (y3 d d.f z.2).2 [])->
     ∃(n o:Int) (u:Ma),AC Tryz.prog 127 [aM,ci a] (mOb m []) (tNo n o) (mSb u [])/\(o≠0->Po G K m.f o u)/\(o=0->u.f<=m.f/\Bs G K u T i/\u.nf=m.nf/\u.na=m.na/\u.A=m.A/\I64 n):=λd z hz X S M J L hac=>by
    refine ⟨_,_,_,hac,λw=> ?_,λw=> ?_⟩
    .by_cases q:z.2=0
     .rw [q,oy] at w;exact absurd rfl w
     .exact wq X q S
    .by_cases q:z.2=0
     .rw [q,oy];exact ⟨S,X,M,J,L,hz⟩
     .exact absurd w<|kD q
   have nx:=λn k=>w64 (x:=n+k)
   match xs,p,j,D with
   |[],p,j,D=>exact j (by rcases Z7 s with e|e|e<;>rw [e]<;>simp)
   |_::_::_::l,p,j,D=>exact j<|.inr<|by rcases Z7 s with e|e|e<;>rw [e]<;>simp<;>omega
   |[x],p,j,D=>
    by_cases W:YN s=1
    .simp [r6,rv] at D
     let ⟨E,o1,d,r1,r2,r3⟩:=ih left.toNat (by omega) { m with s:=b,f:=left } H (by dsimp only;omega) x
     have Y:∀r Hs',7<=Hs'.length->(∀x∈Hs'.drop 7,isLive x)->RPt Tryz.prog 127 7 r Hs' 1 ⟨[(0,aM),(12,cs s),(14, .c<|.a<|.ep 11 2 0 0),(90,aIs [x]),(91,ci<|((IR [x]).length)),(92,ci 0)],numO 0<|mSb { m with s:=b,f:=left } [.arr 2 [[qi 0,qi 0]]],12⟩->AC Tryz.prog 127 [aM,ci a] (mOb m []) r Hs':=
      λr Hs' l1 l2 V=>p r Hs' l1 l2 ⟨_,pE s,za (λw=>by rw [W] at w;cases w) λ_=>⟨rfl,za (λw=>by rw [W] at w;cases w) λ_=>⟨rfl,V⟩⟩⟩
     by_cases F:o1=0
     .subst F
      let ⟨S,M,J,L,k5,k6⟩:=r3 rfl
      let ⟨z,z1,z2⟩:=x_ado s E 0 k6 i0
      refine fin d z z1 M (by dsimp only at S;omega) J L k5<|Y _ _ (v _).1 (v _).2<|rpv (J2 ..)<|bP ⟨⟨rfl,rk _,by show 0<1;decide,rfl⟩,((E,0),d),r1,bN ⟨⟨rk _,by decide⟩,l_nudo1 d s x E 0 z2⟩⟩
     .refine ⟨0,o1,d,Y _ _ (v _).1 (v _).2<|rpv (J2 ..)<|bP ⟨⟨rfl,rk _,by show 0<1;decide,rfl⟩,((E,o1),d),r1,za (λw=>rrl) λw=>absurd (by simpa using w) F⟩,λw=>(r2 w).up (r9 _) O,λw=>absurd w F⟩
    .exact j (by rcases Z7 s with e|e|e<;>rw [e]<;>simp;omega)
   |[x,y],p,j,D=>
    by_cases W:YN s=2
    .simp [r6,rv] at D
     let ⟨E,o1,d,r1,r2,r3⟩:=ih left.toNat (by omega) { m with s:=b,f:=left } H (by dsimp only;omega) x
     have Y:∀r Hs',7<=Hs'.length->(∀x∈Hs'.drop 7,isLive x)->RPt Tryz.prog 127 7 r Hs' 1 ⟨[(0,aM),(12,cs s),(14, .c<|.a<|.ep 11 2 0 0),(90,aIs [x,y]),(91,ci<|((IR [x,y]).length)),(92,ci 0)],numO 0<|mSb { m with s:=b,f:=left } [.arr 2 [[qi 0,qi 0]]],12⟩->AC Tryz.prog 127 [aM,ci a] (mOb m []) r Hs':=
      λr Hs' l1 l2 V=>p r Hs' l1 l2 ⟨_,pE s,za (λw=>by rw [W] at w;cases w) λ_=>⟨rfl,za (λw=>by rw [W] at w;cases w) λ_=>⟨rfl,V⟩⟩⟩
     by_cases F:o1=0
     .subst F
      let ⟨S,M,J,L,k5,k6⟩:=r3 rfl
      dsimp only at S J L k5;have k7:=M.f0
      let ⟨n2,o2,m3,s1,s2,s3⟩:=ih left.toNat (by omega) d M (by omega) y
      have U:∀r Hs',7<=Hs'.length->(∀x∈Hs'.drop 7,isLive x)->RPt Tryz.prog 127 7 r Hs' 1 ⟨[(0,aM),(12,cs s),(14, .c<|.a<|.ep 11 2 0 0),(90,aIs [x,y]),(91,ci<|((IR [x,y]).length)),(92,ci 1)],numO 0<|mSb d [.arr 2 [[qi E,qi 0]]],12⟩->AC Tryz.prog 127 [aM,ci a] (mOb m []) r Hs':=
       λr Hs' l1 l2 V=>Y r Hs' l1 l2<|rpv (J2 ..)<|bP ⟨⟨rfl,rk _,by show 0<2;decide,rfl⟩,((E,0),d),r1,bN ⟨⟨rk _,by decide⟩,V⟩⟩
      by_cases I:o2=0
      .subst I
       let ⟨t1,t2,t3,t4,t5,t6⟩:=s3 rfl
       let ⟨z,z1,z2⟩:=x_ado s E n2 k6 t6
       refine fin m3 z z1 t2 (by omega) (t3.trans J) (t4.trans L) (t5.trans k5)<|U _ _ (v _).1 (v _).2<|rpv (fh ..)<|bP ⟨⟨rfl,by decide,by show 1<2;decide,rfl⟩,((n2,0),m3),s1,bN ⟨⟨by decide,by decide⟩,l_nudo2 m3 s x y E n2 z2⟩⟩
      .refine ⟨0,o2,m3,U _ _ (v _).1 (v _).2<|rpv (fh ..)<|bP ⟨⟨rfl,by decide,by show 1<2;decide,rfl⟩,((n2,o2),m3),s1,za (λw=>rrl) λw=>absurd (by simpa using w) I⟩,λw=>(s2 w).up (r9 _)<|by omega,λw=>absurd w I⟩
     .refine ⟨0,o1,d,Y _ _ (v _).1 (v _).2<|rpv (J2 ..)<|bP ⟨⟨rfl,rk _,by show 0<2;decide,rfl⟩,((E,o1),d),r1,za (λw=>rrl) λw=>absurd (by simpa using w) F⟩,λw=>(r2 w).up (r9 _) O,λw=>absurd w F⟩
    .exact j (by rcases Z7 s with e|e|e<;>rw [e]<;>simp;omega)
 .have H:=h.hq g1 f0<|rk _
  have hn:=kD (m:={ m with s:=b }) (l:=left) he
  refine ⟨0,(y3 { m with s:=b } left e).1,(y3 { m with s:=b } left e).2, ?_,λ_=>wq H he<|rk _,λq=>absurd q hn⟩
  refine acv (v127 ..) ⟨(hd,xs,left,e,b),hh,_,ht,za (λ_=>⟨.refl _, ?_⟩) λq=>absurd (by simpa using q) hn⟩;exact si (λz=>mSb z [])<|zF (m:={ m with s:=b })
end Go.AM
