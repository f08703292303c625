/- Contracts of the code's functions over plain values, and plain laws: part 4. No conditions. -/
import Derived.Test.YtmhhfoejjigkhaaGreatPart3
import Derived.Test.YtmhhfoejjigkhaaGreatShelf
import Derived.Test.YtmhhfoejjigkhaaGreatPart2
set_option linter.all false
set_option maxRecDepth 100000
open Go Go.Proofs
namespace Go.AM
open Go.IntKind (wrap)
def fmax0 {x}(h:0<=x):zp [x,0]=x:=by
 simp only [zp,List.foldl,max,maxOfLe];split<;>omega
def fmax2 {x y z}(h:zp [x,y]=z):z=x\/z=y:=by
 subst h;simp only [zp,List.foldl,max,maxOfLe];split<;>simp
def lm {l i}(h:i<l.length):List.getD (TR l) i []=l[i].r:=by simp [TR,List.getD,h]
def lY (C i c):CR (C.set i c)=List.set (CR C) i c.r:=by simp [CR,tO]
def WR {n g gs}(p:gs.length<=g.length)(h:∀(i:Nat) (e d),g[i]? =some e->gs[i]? =some d->LeR e d):OLe (.arz n g) (.arz n gs):=
 .rows n g gs p (λi e d o b=>(h i e d o b).length) λi j e d f f' o b r m=>(h i e d o b).get j f f' r m
def oa (s):AC Tryz.prog 128 [aH 0] (oH s) (.agg [qi s.C.length,qi s.T.length]) (oH s):=by
 refine acv (v128 ..) ?_;exact rrl
def topS (T:List Trl)(x:Int):=if h:0<T.length then zp [x,T[T.length-1].top] else x
def setS (s:Hp)(x:Int)(c:Cel):Int×Hp:=
 if inC s.C x=false then (1,s) else if wa s c=false then (1,s) else if (rowB (zk s.C x)==rowB c)=false then (1,s) else if s.L<=s.T.length then (201,s)
 else (0,{ s with C:=s.C.set x.toNat c,T:=s.T++ [⟨x,zk s.C x,topS s.T x⟩] })
def c_hset (s x c)(D:s.T.length<=1073741824):AC Tryz.prog 215 [aH 0,ci x,aCe c] (oH s) (ci (setS s x c).1) (oH' (setS s x c).2):=by
 refine acv (v215 ..) ?_;refine ⟨_,_,_,_,_,_,xZ s x,za (λh=> ?_) λh=>⟨_,iA s c,za (λg=> ?_) λg=>⟨_,bC _,_,bC c,za (λj=> ?_) λj=>za (λf=> ?_) λf=> ?_⟩⟩⟩
 .rw [setS,ri<|by simpa using h];exact rrl
 .rw [setS,r8<|by simpa using h,ri<|by simpa using g];exact rrl
 .rw [setS,r8<|by simpa using h,r8<|by simpa using g,ri<|by simpa using j];exact rrl
 .rw [setS,r8<|by simpa using h,r8<|by simpa using g,r8<|by simpa using j,ri<|ro f];exact rrl
 .have f:¬s.L<=s.T.length:=rg f;rw [setS,r8<|by simpa using h,r8<|by simpa using g,r8<|by simpa using j,r8 f];have b:inC s.C x=true:=by simpa using h
  simp [inC,rf,rK] at b
  let ⟨w,_⟩:=kZ b.1 b.2
  have o:(s.C.set x.toNat c).length=s.C.length:=by simp
  have u:∀e,(s.T++ [e]).length=s.T.length+1:=by simp
  have m:∀e,TR (s.T++ [e])=List.take s.T.length (TR s.T)++ [e.r]:=λe=>by rw [rp<|by rw [vb];omega];simp [TR]
  have A:=yF s.C;have z:=vb s.T;have d:zi (s.T.length+1) 56:=by simp [zi];omega
  have p:(List.getD (CR s.C) (0+Int.toNat x) []).length=5:=by rw [rD,iO w];rfl
  refine za (λi=> ?_) λi=> ?_
  .have i:(s.T.length:Int)>0:=ro i;have v:wrap .i64 (s.T.length-1)=((s.T.length-1:Nat)):=by rw [w64 (by omega)<|by omega];omega
   have y:List.getD (TR s.T) (0+Int.toNat ((s.T.length-1:Nat))) []=(s.T[s.T.length-1]'(by omega)).r:=by rw [rD,rt,lm<|by omega]
   rw [v,y];refine ⟨⟨by omega,by omega⟩,⟨by omega,rfl,rfl⟩,r9 _,⟨by omega,d⟩,b,⟨by omega,p⟩, ?_⟩;simp [oH',hp6,o,u,m,topS,show 0<s.T.length by omega,dite_true,lY,rD];exact rrl
  .have i:¬(s.T.length:Int)>0:=rg i;refine ⟨r9 _,⟨by omega,d⟩,b,⟨by omega,p⟩, ?_⟩;simp [oH',hp6,o,u,m,topS,show¬0<s.T.length by omega,dite_false,lY,rD];exact ⟨.refl _,by first|exact trivial|rfl⟩
def vo (T:List Trl)(C:List Cel):List Cel:=T.foldr (λe C=>C.set e.o.toNat e.x) C
def yK:∀(T) (C),(vo T C).length=C.length
 |[],_=>rfl
 |e::T,C=>by rw [vo,List.foldr_cons,sY];exact yK T C
def XC (T e C):vo (T++ [e]) C=vo T (C.set e.o.toNat e.x):=by simp [vo]
abbrev stU (s:Hp)(C:List Cel)(j:Nat)(x n k:Int):St:=
 ⟨[(0,aH 0),(3, .c<|.a<|.ep 8 2 0 0),(4,ci x)],[(0, .arr 6 [[.a<|.osl 5 5 0 s.C.length, .a<|.osl 6 7 0 j,qi s.M,qi s.L, .a<|.osl 7 1 0 s.N.length, .a<|.mp 4]]),(1, .gone),(2, .gone),(3, .gone),(4, .mapz<|NM s.N 0),(5, .arz 5<|CR C),(6, .arz 7<|TR s.T),(7, .arz 1<|NR s.N),(8, .arr 2 [[qi n,qi k]])],9⟩
def pg (s)(n k:Nat)(J:k<=s.T.length)(D:s.T.length<=1073741824)(O:n<=s.C.length)(v:∀e∈s.T,0<=e.o/\e.o<s.C.length)(m:∀e∈s.T.take k,e.top<(n:Int)):
  ∀(d j) (C),j=k+d->j<=s.T.length->C.length=s.C.length->
  RPt Tryz.prog 76 5 (.tup []) [.arr 6 [[.a<|.osl 5 5 0 n, .a<|.osl 6 7 0 k,qi s.M,qi s.L, .a<|.osl 7 1 0 s.N.length, .a<|.mp 4]], .gone, .gone, .gone, .mapz<|NM s.N 0, .arz 5<|CR<|vo ((s.T.take j).drop k) C, .arz 7<|TR s.T, .arz 1<|NR s.N] 1
   (stU s C j (j-1) n k)
 |0,j,C,G,A,p=>by
  refine rpv (v76_1a ..) ?_;obtain rfl:j=k:=by omega
  rw [fmax0 (x:=j)<|by omega,fmax0 (x:=n)<|by omega,rt,show vo ((s.T.take j).drop j) C=C by rw [tw<|by rw [ry];omega];rfl];refine bF (by omega)<|za (λh=>⟨⟨by omega,by omega,by omega⟩,za (λu=> ?_) λ_=>rrl⟩) λh=> ?_
  .have u:(j:Int)>0:=ro u;have y:wrap .i64 (j-1)=((j-1:Nat)):=by rw [w64 (by omega)<|by omega];omega
   have b:j-1<s.T.length:=by omega
   have g:List.getD (TR s.T) (0+Int.toNat ((j-1:Nat))) []=s.T[j-1].r:=by rw [rD,rt,lm b]
   have F:s.T[j-1].top<n:=m _<|List.mem_take_iff_getElem.2 ⟨j-1,by omega,rfl⟩
   have w:=vb s.T;rw [y,g];refine ⟨⟨by omega,by omega⟩,⟨by omega,rfl,rfl⟩,bF (Int.not_le.2 F) rrl⟩
  .have h:=rg h;have e:s.C.length=n:=by omega
   rw [e];exact rrl
 |d+1,j,C,G,A,p=>by
  refine rpv (v76_1a ..) ?_;have b:j-1<s.T.length:=by omega
  have I:Int.toNat (j-1)=j-1:=by omega
  have g:List.getD (TR s.T) (0+(j-1)) []=s.T[j-1].r:=by rw [rD,lm b]
  have w:=vb s.T;have S:=yF C
  let ⟨o1,E⟩:=v s.T[j-1]<|List.getElem_mem b
  have f:(s.T[j-1].o).toNat<C.length:=by omega
  have K:(List.getD (CR C) (0+(s.T[j-1].o).toNat) []).length=5:=by rw [rD,iO f];rfl
  rw [fmax0 (x:=k)<|by omega,I,g,w64 (x:=j-1-1) (by omega)<|by omega];have nx:=pg s n k J D O v m d (j-1) (C.set (s.T[j-1].o).toNat s.T[j-1].x) (by omega) (by omega) (by rw [sY];exact p)
  have z:(s.T.take j).drop k=(s.T.take<|j-1).drop k++ [s.T[j-1]]:=by
   have H:s.T.take j=s.T.take (j-1)++ [s.T[j-1]]:=by
    have:=List.take_append_getElem (l:=s.T) (i:=j-1) b;rw [show j-1+1=j by omega] at this;exact this.symm
   rw [H,List.drop_append_of_le_length<|by rw [ry];omega]
  simp [stU] at nx;rw [<-XC,<-z,lY,show ((j-1:Nat))=(j:Int)-1 by omega] at nx;refine za (λ_=>⟨⟨by omega,by omega⟩,⟨by omega,rfl,rfl⟩,⟨o1,E⟩,⟨by show 0+(s.T[j-1].o).toNat<(CR C).length;omega,K⟩,⟨by omega,by omega,by omega⟩, ?_⟩) (λh=>absurd (rg h)<|by omega);rw [rD];exact nx
def yS (s:Hp)(n k:Nat):={ s with C:=(vo (s.T.drop k) s.C).take n,T:=s.T.take k }
def pK (s)(n k:Nat)(m:k<=s.T.length)(y:s.T.length<=1073741824)(r:n<=s.C.length)(A:∀e∈s.T,0<=e.o/\e.o<s.C.length)(w:∀e∈s.T.take k,e.top<(n:Int)):
  AC Tryz.prog 76 [aH 0, .agg [qi n,qi k]] (oH s) (.tup []) (oH'<|yS s n k):=by
 have j:(yS s n k).C.length=n:=by simp [yS,ry,yK];omega
 have p:(yS s n k).T.length=k:=by simp [yS,ry];omega
 have h:=pg s n k m y r A w (s.T.length-k) s.T.length s.C (by omega) (r9 _) rfl;rw [rp<|r9 _] at h;refine AC.obj (Hs':=[.arr 6 [[.a<|.osl 5 5 0 n, .a<|.osl 6 7 0 k,qi s.M,qi s.L, .a<|.osl 7 1 0 s.N.length, .a<|.mp 4]], .gone, .gone, .gone, .mapz<|NM s.N 0, .arz 5<|CR<|vo (s.T.drop k) s.C, .arz 7<|TR s.T, .arz 1<|NR s.N]) ?_ ⟨?_, .refl _, .refl _, .refl _, .refl _, ?_, ?_, .refl _,trivial⟩
 .refine acv (v76 ..) ?_;rw [w64 (x:=s.T.length-1) (by omega)<|by omega];exact h
 .rw [hp6,j,p];exact .refl _
 .refine WR (by rw [yF,yF,j,yK];exact r) λi e u g d=> ?_;rw [CR,rq] at g d;obtain ⟨v,b,rfl⟩:=r7.1 d;obtain ⟨z,f,rfl⟩:=r7.1 g;rw [yS,rU] at b;split at b
  .rw [f] at b;injection b with b;subst b;exact LeR.refl _
  .cases b
 .refine WR (by rw [vb,vb,p];exact m) λi e u g d=> ?_;rw [TR,rq] at g d;obtain ⟨v,b,rfl⟩:=r7.1 d;obtain ⟨z,f,rfl⟩:=r7.1 g;rw [yS,rU] at b;split at b
  .rw [f] at b;injection b with b;subst b;exact LeR.refl _
  .cases b
def kg (c:Int):=decide (97<=c)&&decide (c<=122)
def jK (c:Int):=decide (65<=c)&&decide (c<=90)||c==95
def ZV (c:Int):=decide (48<=c)&&decide (c<=57)
def yf (c:Int):=kg c||jK c||ZV c||c==39
def Wg:List UInt8:=[43,45,42,47,60,62,61,38,124,94,126,64,35,36,63,58]
def kv (c:Int):=decide (Lib.indexByte Wg c.toNat.toUInt8>=0)
def i9 (c):AC Tryz.prog 86 [c8 c] [] (cb<|kg c) []:=by
 refine acv (v86 ..) ?_;refine za (λh=>zg ?_) (λh=>zg ?_)<;>simp_all [kg]<;>omega
def c_great (c):AC Tryz.prog 129 [c8 c] [] (cb<|jK c) []:=by
 refine acv (v129 ..) ?_;refine za (λh=>za (λh=>zg ?_) λh=>zg ?_) (λh=>zg ?_)<;>simp_all [jK]<;>omega
def c_digit (c):AC Tryz.prog 130 [c8 c] [] (cb<|ZV c) []:=by
 refine acv (v130 ..) ?_;refine za (λh=>zg ?_) (λh=>zg ?_)<;>simp_all [ZV]<;>omega
def c_inside (c):AC Tryz.prog 88 [c8 c] [] (cb<|yf c) []:=by
 refine acv (v88 ..) ?_;refine ⟨_,i9 c,za (λh=>zg ?_) λh=>⟨_,c_great c,za (λh=>zg ?_) λh=>⟨_,c_digit c,za (λh=>zg ?_) λh=>zg ?_⟩⟩⟩<;>simp_all [yf]
def KM (s c):AC Tryz.prog 171 [cs s,c8 c] [] (ci<|Lib.indexByte s c.toNat.toUInt8) []:=
 AC.str_u8 (by kernel_rfl) λw=>Tryz.stringslite_IndexByte ⟨s.toArray⟩ c w
def fT (s c):AC Tryz.prog 131 [cs s,c8 c] [] (ci<|Lib.indexByte s c.toNat.toUInt8) []:=
 AC.str_u8 (by kernel_rfl) λw=>Tryz.strings_IndexByte ⟨s.toArray⟩ c w
def c_sign (c):AC Tryz.prog 89 [c8 c] [] (cb<|kv c) []:=by
 refine acv (v89 ..) ?_;exact ⟨_,fT _ c,zg rfl⟩
def runN (p:Int->Bool):List UInt8->Nat
 |[]=>0
 |c::s=>if p (c.toNat:Int) then runN p s+1 else 0
def pB (p):∀s,runN p s<=s.length
 |[]=>r9 _
 |c::s=>by have:=pB p s;simp [runN,r6];split<;>omega
def Yw (a c)(b:List UInt8):List.getD (a++c::b) (Int.toNat a.length) 0=c:=by simp [List.getD]
def qJ:∀(b a),(a++b).length<=B->RPt Tryz.prog 87 0 (ci<|a.length+runN yf b) [] 1 ⟨[(0,cs<|a++b),(1, .c<|.fn (.func 88) [] []),(7,ci<|((a++b).length)),(8,ci a.length)],[],0⟩
 |[],a,d=>by
  refine rpv (Xx ..) ?_;exact za (λh=>absurd h<|by simp) (λ_=>xG<|by simp [runN])
 |c::b,a,d=>by
  refine rpv (Xx ..) ?_;have e:=d;simp [re,r6,B] at e;refine za (λ_=>⟨⟨by omega,by simp;omega⟩,yf c.toNat, ?_,za (λh=>xG ?_) λh=> ?_⟩) (λh=>absurd h<|by simp;omega)
  .rw [Yw];exact c_inside _
  .simp_all [runN]
  .have:=qJ b (a++ [c]) (by simpa using d);rw [w64 (by omega)<|by omega];simp [sm,sL,s8,re,r6,rv,Int.natCast_add,Int.natCast_one,Int.natCast_zero,Int.zero_add] at this;simp [Bool.not_eq_false'] at h;simp [runN,h,rC,re,r6,Int.natCast_add,Int.natCast_one];rw [show a.length+((runN yf b)+1)=(a.length:Int)+1+(runN yf b) by omega];exact this
def JU (s)(h:s.length<=B):AC Tryz.prog 87 [cs s, .c<|.fn (.func 88) [] []] [] (ci<|runN yf s) []:=by
 refine acv (v87_F88 ..) ?_;have:=qJ s [] (by simpa using h);simpa using this
def Xq:∀(b a),(a++b).length<=B->RPt Tryz.prog 87 0 (ci<|a.length+runN kv b) [] 1 ⟨[(0,cs<|a++b),(1, .c<|.fn (.func 89) [] []),(7,ci<|((a++b).length)),(8,ci a.length)],[],0⟩
 |[],a,d=>by
  refine rpv (Xm ..) ?_;exact za (λh=>absurd h<|by simp) (λ_=>xG<|by simp [runN])
 |c::b,a,d=>by
  refine rpv (Xm ..) ?_;have e:=d;simp [re,r6,B] at e;refine za (λ_=>⟨⟨by omega,by simp;omega⟩,kv c.toNat, ?_,za (λh=>xG ?_) λh=> ?_⟩) (λh=>absurd h<|by simp;omega)
  .rw [Yw];exact c_sign _
  .simp_all [runN]
  .have:=Xq b (a++ [c]) (by simpa using d);rw [w64 (by omega)<|by omega];simp [sm,sL,s8,re,r6,rv,Int.natCast_add,Int.natCast_one,Int.natCast_zero,Int.zero_add] at this;simp [Bool.not_eq_false'] at h;simp [runN,h,rC,re,r6,Int.natCast_add,Int.natCast_one];rw [show a.length+((runN kv b)+1)=(a.length:Int)+1+(runN kv b) by omega];exact this
def ai (s)(h:s.length<=B):AC Tryz.prog 87 [cs s, .c<|.fn (.func 89) [] []] [] (ci<|runN kv s) []:=by
 refine acv (v87_F89 ..) ?_;have:=Xq s [] (by simpa using h);simpa using this
def j6 (p):∀s,(((runN p s))==(s.length:Int))=s.all λc=>p c.toNat
 |[]=>rfl
 |c::s=>by
  have ih:=j6 p s;have:=pB p s;simp [runN,sj,r6];cases h:p c.toNat with
  |true=>rw [<-ih];simp [rC,rO];rw [sZ];simp<;>omega
  |false=>simp;omega
def ZW (s:List UInt8):= !s==[]&&decide ((s.length:Int)<=32)
def c_fits (s):AC Tryz.prog 85 [cs s] [] (cb<|ZW s) []:=by
 refine acv (v85 ..) ?_;refine za (λh=>zg ?_) (λh=>zg ?_)<;>simp_all [ZW]
def vJ (s:List UInt8):Bool:=ZW s&&kg ((s.getD 0 0).toNat:Int)&&s.all λc=>yf (c.toNat:Int)
def fc {s}(h:ZW s=true):0<s.length/\s.length<=32:=by
 simp [ZW,rf,sB,rK] at h;refine ⟨?_,by omega⟩;cases s with
 |nil=>simp at h
 |cons c s=>simp
def cf (s):AC Tryz.prog 50 [cs s] [] (cb<|vJ s) []:=by
 refine acv (v50 ..) ?_;refine ⟨_,c_fits s,za (λh=>⟨⟨by omega,by have:=fc h;omega⟩,_,i9 _,za (λb=>⟨_,JU s<|by have:=fc h;simp [B];omega,zg ?_⟩) λb=>zg ?_⟩) λh=>zg ?_⟩
 .rw [j6];simp only [vJ,h,b,rO]
 .simp only [vJ,h,b,s7,rQ]
 .simp [vJ,h,rQ]
def gV:List UInt8:=[44,59,33]
def gE (s c)(f:s.length<=B):AC Tryz.prog 90 [cs s,cs [c]] [] (cb (decide (Lib.indexByte s c>=0))) []:=by
 have g:(c.toNat:Int).toNat.toUInt8=c:=by simp
 have d:AC Tryz.prog 172 [cs s,cs [c]] [] (ci (if [c]==s then 0 else Lib.indexByte s c)) []:=by
  refine acv (v172 ..) ?_;refine za (λh=>absurd h<|by simp) (λ_=>za (λh=>xG<|by simp [h]) λh=>za (λ_=>⟨⟨by omega,by simp⟩,_,KM s _,xG ?_⟩) λb=>absurd b<|by simp);rw [h];simp
 have b:AC Tryz.prog 132 [cs s,cs [c]] [] (ci (if [c]==s then 0 else Lib.indexByte s c)) []:=by
  refine acv (v132 ..) ?_;exact ⟨_,d,xG rfl⟩
 refine acv (v90 ..) ?_;refine ⟨_,b,zg ?_⟩;by_cases e:[c]=s
 .subst e;simp [Lib.indexByte]
 .have:([c]==s)=false:=by simpa using e
  rw [this];simp
def qZ (s:List UInt8):=ZW s&&((s.all λc=>kv c.toNat)||(s.length:Int)==1&&decide (Lib.indexByte gV (s.getD 0 0)>=0))
def lJ (s):AC Tryz.prog 51 [cs s] [] (cb<|qZ s) []:=by
 refine acv (v51 ..) ?_;refine ⟨_,c_fits s,za (λh=>⟨_,ai s<|by have:=fc h;simp [B];omega,za (λd=>zg ?_) λd=>za (λb=> ?_) λb=>zg ?_⟩) λh=>zg ?_⟩
 .rw [j6] at d;simp [qZ,h,d,rO,sV]
 .rw [j6] at d
  match s,b with
  |[c],b=>
   refine ⟨_,gE gV c<|by simp [gV,B],zg ?_⟩;simp [qZ,h,d,b,rO,sF,List.getD_cons_zero]
  |[],b=>simp at b
  |_::_::_,b=>simp at b;omega
 .rw [j6] at d;simp [qZ,h,d,b,rQ,sF,s7]
 .simp [qZ,h,rQ]
mutual
def near (most:Int):Tm->Bool
 |.mk k _ n l=> !(k !=2&&(decide (n>most)||decide (n<0-most)))&&fj most l
def fj (most:Int):List Tm->Bool
 |[]=>true
 |t::l=>near most t&&fj most l
end
def l_near (most k s n):∀(b a),(∀u∈b,AC Tryz.prog 38 [aT u,ci most] [] (cb<|near most u) [])->(a++b).length<=B->
  RPt Tryz.prog 38 0 (cb<|fj most b) [] 1 ⟨[(1,ci most),(2, .c<|.a<|.ep 0 4 0 0),(5,ci a.length)],[(0, .arr 4 [fzs<|FT<|.mk k s n<|a++b])],1⟩
 |[],a,_,e=>by
  refine rpv (v38_1a ..) ?_;exact ⟨rfl,bF (geI' a)<|zg rfl⟩
 |t::b,a,ih,e=>by
  refine rpv (v38_1a ..) ?_;have d:=e;simp [re,r6,B] at d;refine ⟨rfl,bT (ltI' a t b)<|?_⟩;have g:=ih t rn;have f:=l_near most k s n b (a++ [t]) (λu p=>ih u<|rh _ p) (by rw [ap];exact e);have o:=ltI' a t b;rw [ap,nx] at f;rw [midI,w64 (by omega)<|by omega]
  let ⟨m,j,i,l'⟩:=t
  refine ⟨⟨rfl,by omega,o,rfl⟩,_,g,za (λh=>zg ?_) λh=> ?_⟩
  .simp_all [fj]
  .simp [fj,show near most (.mk m j i l')=true by simpa using h,rO];exact f
def c_near (most)(j:0<=most)(i:most<=4611686018427387904):∀t,t.sz<=B->AC Tryz.prog 38 [aT t,ci most] [] (cb<|near most t) []:=by
 refine Tm.ind λt ih f=> ?_
 let ⟨k,s,n,l⟩:=t
 have g:=Tm.szs_length l;simp [Tm.sz,B] at f;refine acv (v38 k s n _ most _ _) ?_;have key:=l_near most k s n l [] (λu e=>ih u e<|by have:=Tm.szs_mem e;simp [B];omega) (by simp [s8,B];omega);rw [w64 (by omega)<|by omega];rw [near];refine za (λh=>za (λb=>zg ?_) λb=>za (λd=>zg ?_) λd=> ?_) λh=> ?_
 .simp [h,b,sV,sU,Bool.not_true,rQ]
 .simp only [h,d,tj,sU,Bool.not_true,rQ]
 .simp only [b,d,Bool.or_false,s7,tf,rO];exact key
 .simp [h,rQ,tf,rO];exact key
mutual
def jY:Tm->Int->Int
 |.mk _ _ _ l,most=>ql l<|most-1
def ql:List Tm->Int->Int
 |[],n=>n
 |t::l,n=>if n>=0 then ql l (jY t n) else n
end
mutual
def bD:∀(t:Tm) (n:Int),jY t n<=n-1/\(0<=n-> -1<=jY t n)
 |.mk _ _ _ l,n=>by
  have h:=WG l<|n-1
  simp only [jY];exact ⟨h.1,λhn=>h.2<|by omega⟩
def WG:∀(l:List Tm) (n:Int),ql l n<=n/\(-1<=n-> -1<=ql l n)
 |[],n=>by simp [ql]
 |t::l,n=>by
  have h1:=bD t n;have h2:=WG l<|jY t n
  simp only [ql];split
  .rename_i h;exact ⟨by omega,λ_=>h2.2<|h1.2 h⟩
  .exact ⟨rk _,λh=>h⟩
end
def l_left (k s n):∀(b a) (m),(∀u∈b,∀m,0<=m->m<=4611686018427387904->AC Tryz.prog 70 [aT u,ci m] [] (ci<|jY u m) [])->(a++b).length<=B->m<=4611686018427387904->
  RPt Tryz.prog 70 0 (ci<|ql b m) [] 1 ⟨[(2, .c<|.a<|.ep 0 4 0 0),(5,ci m),(6,ci a.length)],[(0, .arr 4 [fzs<|FT<|.mk k s n<|a++b])],1⟩
 |[],a,m,_,f,g=>by
  refine rpv (v70_1a ..) ?_;exact ⟨rfl,bF (geI' a)<|xG rfl⟩
 |t::b,a,m,ih,f,g=>by
  refine rpv (v70_1a ..) ?_;have e:=f;simp [re,r6,B] at e;refine ⟨rfl,bT (ltI' a t b)<|za (λd=> ?_) λd=>xG ?_⟩
  .have d:=ro d;have i:=ih t rn m d g;have j:=bD t m;have h:=l_left k s n b (a++ [t]) (jY t m) (λu p=>ih u<|rh _ p) (by rw [ap];exact f) (by omega);have o:=ltI' a t b;rw [ap,nx] at h;rw [midI,w64 (by omega)<|by omega];simp only [ql,d,rC]
   let ⟨w,v,r,l'⟩:=t
   exact ⟨⟨rfl,by omega,o,rfl⟩,_,i,h⟩
  .have d:=rg d;simp [ql,d,rI]
def c_left:∀t,t.sz<=B->∀m,0<=m->m<=4611686018427387904->AC Tryz.prog 70 [aT t,ci m] [] (ci<|jY t m) []:=by
 refine Tm.ind λt ih d m f g=> ?_
 let ⟨k,s,n,l⟩:=t
 have e:=Tm.szs_length l;simp [Tm.sz,B] at d;refine acv (v70 k s n _ m _ _) ?_;rw [w64 (by omega)<|by omega];exact l_left k s n l [] _ (λu b=>ih u b<|by have:=Tm.szs_mem b;simp [B];omega) (by simp [s8,B];omega) (by omega)
def large (t:Tm)(most:Int):=decide (jY t most<0)
def mn (t)(e:t.sz<=B)(m)(d:0<=m)(b:m<=4611686018427387904):AC Tryz.prog 37 [aT t,ci m] [] (cb<|large t m) []:=by
 have h:=c_left t e m d b
 let ⟨k,s,n,l⟩:=t
 refine acv (v37 k s n _ m _ _) ?_;exact ⟨_,h,zg rfl⟩
mutual
def Jd:Tm->Tm->Bool
 |.mk k s n l, .mk k' s' n' l'=>k==k'&&(s==s'&&(n==n'&&YS l l'))
def YS:List Tm->List Tm->Bool
 |[],[]=>true
 |t::l,u::m=>Jd t u&&YS l m
 |_,_=>false
end
def Jh:∀ {a b},a.length≠b.length->YS a b=false
 |[],[],h=>absurd rfl h
 |t::l,u::m,h=>by simp [YS,Jh (a:=l) (b:=m) λe=>h<|by simp [e],s7]
 |[],_::_,_=>rfl
 |_::_,[],_=>rfl
def Tm.inner (t:Tm):=t.k==5||t.k==6
def Tm.kids (t:Tm):=if t.inner=true then t.l else []
def Tm.by (t:Tm):Int:=if t.k==5 then 1 else 0
mutual
def zC:Cd->Prop
 |.mk nm _ _ _ _ ins=>nm.length<=B/\ins.length<=B/\zIs ins
def zIs:List In1->Prop
 |[]=>True
 |.mk _ _ t l c::r=>(t.bk<=B/\Tm.bks l<=B/\c.length<=B/\zCs c)/\zIs r
def zCs:List Cd->Prop
 |[]=>True
 |c::r=>zC c/\zCs r
end
def ZD:∀ {l} {x},zIs l->x∈l->x.t.bk<=B/\Tm.bks x.l<=B/\x.c.length<=B/\zCs x.c
 |.mk k a t q c::r,x,h,hm=>by
  rw [zIs] at h;rcases rG.1 hm with rfl|hm
  .exact h.1
  .exact ZD h.2 hm
def fA:∀ {l} {d},zCs l->d∈l->zC d
 |c::r,d,h,hm=>by
  rw [zCs] at h;rcases rG.1 hm with rfl|hm
  .exact h.1
  .exact fA h.2 hm
def qQ {c}(h:zC c):c.nm.length<=B/\c.ins.length<=B/\zIs c.ins:=by cases c;rw [zC] at h;exact h
def zIs_of:∀ {l},(∀x∈l,x.t.bk<=B/\Tm.bks x.l<=B/\x.c.length<=B/\zCs x.c)->zIs l
 |[],_=>by rw [zIs];trivial
 |.mk k a t q c::r,h=>by rw [zIs];exact ⟨h _<|rn ..,zIs_of λx b=>h x<|rh _ b⟩
def zCs_of:∀ {l},(∀d∈l,zC d)->zCs l
 |[],_=>by rw [zCs];trivial
 |c::r,h=>by rw [zCs];exact ⟨h _<|rn ..,zCs_of λx b=>h x<|rh _ b⟩
def zC_of:∀c,c.sz<=B->zC c:=by
 refine Cd.ind λc ih o=> ?_;have g:=In1.szs_length c.ins;have b:In1.szs c.ins<=B/\c.nm.length<=B:=by cases c;simp [Cd.sz,Cd.ins,Cd.nm,B] at*;omega
 have h:zIs c.ins:=zIs_of λx e=>by
  have j:=In1.szs_mem e;have m:=Cd.szs_length x.c;have f:x.t.bk<=B/\Tm.bks x.l<=B/\Cd.szs x.c<=B:=by cases x;simp [In1.sz1,In1.t,In1.l,In1.c,B] at*;omega
  exact ⟨f.1,f.2.1,by omega,zCs_of λd hd=>ih x e d hd<|by have i:=Cd.szs_mem hd;omega⟩
 cases c;rw [zC];exact ⟨b.2,by simp [Cd.ins] at g b;omega,h⟩
def kR (a c b):List.getD (FCs<|a++c::b) (Int.toNat a.length) []=FC c:=by
 rw [show Int.toNat a.length=a.length by omega,jU];simp [List.getD]
def ul (a c b):List.getD (FIs<|a++c::b) (Int.toNat a.length) []=FI c:=by
 rw [show Int.toNat a.length=a.length by omega,Yv];simp [List.getD]
abbrev aCr (r:List FV):TV:= .agg [qf<|.str<|FV.S<|List.getD r 0 FV.N,qi<|FV.I<|List.getD r 1 FV.N,qi<|FV.I<|List.getD r 2 FV.N,qi<|FV.I<|List.getD r 3 FV.N,qi<|FV.I<|List.getD r 4 FV.N,qf<|List.getD r 5 FV.N]
def jy (c):aCr (FC c)=aC c:=by cases c;rw [FC];rfl
abbrev fCr (r:List FV):=[.str<|FV.S<|List.getD r 0 FV.N, .int .i64<|FV.I<|List.getD r 1 FV.N, .int .i64<|FV.I<|List.getD r 2 FV.N, .int .i64<|FV.I<|List.getD r 3 FV.N, .int .i64<|FV.I<|List.getD r 4 FV.N,List.getD r 5 FV.N]
def qV (c):fCr (FC c)=FC c:=by cases c;rw [FC];rfl
abbrev fIr (r:List FV):=[.int .i64<|FV.I<|List.getD r 0 FV.N, .int .i64<|FV.I<|List.getD r 1 FV.N, .int .i64<|FV.I<|List.getD r 2 FV.N, .str<|FV.S<|List.getD r 3 FV.N, .int .i64<|FV.I<|List.getD r 4 FV.N,List.getD r 5 FV.N,List.getD r 6 FV.N,List.getD r 7 FV.N]
def nD (x):fIr (FI x)=FI x:=by cases x;rw [FI];rfl
abbrev aIt (r:List FV):TV:= .agg [qi<|FV.I<|List.getD r 2 FV.N,qf<|.str<|FV.S<|List.getD r 3 FV.N,qi<|FV.I<|List.getD r 4 FV.N,qf<|List.getD r 5 FV.N]
def iU (x):aIt (FI x)=aT x.t:=by cases x;rw [FI];rfl
def FI6 (x):List.getD (FI x) 6 FV.N= .sl false 4 (FTs x.l):=by cases x;rw [FI];rfl
def FI7 (x):List.getD (FI x) 7 FV.N= .sl false 6 (FCs x.c):=by cases x;rw [FI];rfl
def FI3 (x):FV.S (List.getD (FI x) 3 FV.N)=x.t.s:=by cases x;rw [FI];rfl
def FI0 (x):FV.I (List.getD (FI x) 0 FV.N)=x.k:=by cases x;rw [FI];rfl
def FI1 (x):FV.I (List.getD (FI x) 1 FV.N)=x.a:=by cases x;rw [FI];rfl
abbrev cCd (c:Cd):=[qf<|.str c.nm,qi c.ar,qi c.fr,qi c.vs,qi c.sl,qf<|.sl false 8<|FIs c.ins]
abbrev cIn (x:In1):=[qi x.k,qi x.a,qi x.t.k,qf<|.str x.t.s,qi x.t.n,qf<|.sl false 4<|FTs x.t.l,qf<|.sl false 4<|FTs x.l,qf<|.sl false 6<|FCs x.c]
abbrev cIr (r:List FV):=[qi<|FV.I<|List.getD r 0 FV.N,qi<|FV.I<|List.getD r 1 FV.N,qi<|FV.I<|List.getD r 2 FV.N,qf<|.str<|FV.S<|List.getD r 3 FV.N,qi<|FV.I<|List.getD r 4 FV.N,qf<|List.getD r 5 FV.N,qf<|List.getD r 6 FV.N,qf<|List.getD r 7 FV.N]
def cIr_FI (x):cIr (FI x)=cIn x:=by cases x;rw [FI];rfl
def badL (l:List Tm):=l.any λt=>large t 40 || !near 1048576 t
def Z5 (t:Tm)(l:List Tm):=large t 40||(!near 1048576 t||(decide ((l.length:Int)>4)||(decide ((t.s.length:Int)>60)||badL l)))
mutual
def w7:Cd->Int->Int
 |.mk _ _ _ _ _ ins,m=>xp ins<|m-1
def xp:List In1->Int->Int
 |[],n=>n
 |.mk _ _ t l c::is,n=>if n<0 then n else if Z5 t l=true then 0-1 else xp is<|yh c<|n-1
def yh:List Cd->Int->Int
 |[],n=>n
 |c::cs,n=>if n<0 then n else yh cs<|w7 c n
end
def J3 (c m):w7 c m=xp c.ins (m-1):=by cases c;rw [w7];rfl
def kj (x b n):xp (x::b) n=if n<0 then n else if Z5 x.t x.l=true then 0-1 else xp b (yh x.c<|n-1):=by cases x;rw [xp];rfl
mutual
def fe:∀(c:Cd) (m:Int),0<=m->0-1<=w7 c m/\w7 c m<=m
 |.mk _ _ _ _ _ ins,m,h=>by
  have:=XK ins (m-1) (by omega);rw [w7];omega
def XK:∀(l:List In1) (n:Int),0-1<=n->0-1<=xp l n/\xp l n<=n
 |[],n,h=>by rw [xp];omega
 |.mk _ _ t l c::is,n,h=>by
  rw [xp];split
  .omega
  .split
   .omega
   .have h1:=jh c (n-1) (by omega);have h2:=XK is (yh c<|n-1) h1.1;omega
def jh:∀(l:List Cd) (n:Int),0-1<=n->0-1<=yh l n/\yh l n<=n
 |[],n,h=>by rw [yh];omega
 |c::cs,n,h=>by
  rw [yh];split
  .omega
  .have h1:=fe c n (by omega);have h2:=jh cs (w7 c n) h1.1;omega
end
def X5 {n}(h:n<0):∀l,xp l n=n
 |[]=>by rw [xp]
 |x::l=>by rw [kj,ri h]
def dO (c x)(i:Int)(r):∀(b a) (n),x.c=a++b->x.c.length<=B->(∀d∈b,∀m,0<=m->m<=4611686018427387904->AC Tryz.prog 16 [aC d,ci m] [] (ci<|w7 d m) [])->0-1<=n->n<=4611686018427387904->0<=i->i<=B->
  RPt Tryz.prog 16 0 r [] 1 ⟨[(2, .c<|.a<|.ep 0 6 0 0),(5,ci<|yh b n),(6,ci<|i+1)],[(0, .arr 6 [cCd c])],1⟩->
  RPt Tryz.prog 16 0 r [] 9 ⟨[(2, .c<|.a<|.ep 0 6 0 0),(5,ci n),(6,ci i),(7, .c<|.a<|.ep 1 8 0 0),(11,ci a.length)],[(0, .arr 6 [cCd c]),(1, .arr 8 [cIn x])],2⟩
 |[],a,n,g,v,ih,C,z,y,j,f=>by
  refine rpv (v16_9a n i a.length ..) ?_;rw [yh] at f;simp [B] at j;rw [w64 (x:=i+1) (by omega)<|by omega];refine ⟨rfl,za (λh=>absurd (ro h) ?_) λ_=> ?_⟩
  .show¬a.length<(((FCs x.c).length):Int);rw [g,zq];simp
  .exact f
 |d::b,a,n,g,v,ih,C,z,y,j,f=>by
  refine rpv (v16_9a n i a.length ..) ?_;rw [yh] at f;simp [B] at j v;rw [g,re,r6] at v;have p:a.length<(((FV.ses<|.sl false 6<|FCs x.c).length):Int):=by show a.length<(((FCs x.c).length):Int);rw [g,zq,re,r6];omega
  rw [w64 (x:=i+1) (by omega)<|by omega,w64 (x:=a.length+1) (by omega)<|by omega];refine ⟨rfl,bT p<|za (λo=> ?_) λo=> ?_⟩
  .have o:=ro o;have e:List.getD (FV.ses<|.sl false 6<|FCs x.c) (Int.toNat a.length) []=FC d:=by rw [g];exact kR a d b
   rw [e];have D:=ih d rn n (by omega) z;have A:=fe d n (by omega);rw [r8<|by omega] at f;refine ⟨⟨rfl,by omega,p,qV d⟩,_,by have w:=D;rw [<-(jy d)] at w;exact w, ?_⟩;have:=dO c x i r b (a++ [d]) (w7 d n) (by rw [g];simp) (by rw [g];simp [re,r6,B];omega) (λu E=>ih u<|rh _ E) A.1 (by omega) y (by simp [B];omega) f;rw [nx] at this;exact this
  .have o:=rg o;rw [ri<|by omega] at f;exact f
def dP (c x i n r):∀(b a),x.l=a++b->(∀t∈x.l,t.sz<=B)->x.l.length<=B->
  (badL b=true->TV.Le (ci<|0-1) r)->(badL b=false->RPt Tryz.prog 16 0 r [] 9 ⟨[(2, .c<|.a<|.ep 0 6 0 0),(5,ci n),(6,ci i),(7, .c<|.a<|.ep 1 8 0 0),(11,ci 0)],[(0, .arr 6 [cCd c]),(1, .arr 8 [cIn x])],2⟩)->
  RPt Tryz.prog 16 0 r [] 5 ⟨[(2, .c<|.a<|.ep 0 6 0 0),(5,ci n),(6,ci i),(7, .c<|.a<|.ep 1 8 0 0),(10,ci a.length)],[(0, .arr 6 [cCd c]),(1, .arr 8 [cIn x])],2⟩
 |[],a,d,j,m,g,p=>by
  refine rpv (v16_5a n i a.length ..) ?_;refine ⟨rfl,za (λh=>absurd (ro h) ?_) λ_=>p rfl⟩;show¬a.length<(((FTs x.l).length):Int);rw [d];exact geI' a
 |t::b,a,d,j,m,g,p=>by
  refine rpv (v16_5a n i a.length ..) ?_;have C:t∈x.l:=by rw [d];simp
  have v:=j t C;have A:=mn t v 40 (by omega) (by omega);have z:=c_near 1048576 (by omega) (by omega) t v;have f:=m;rw [d,re,r6] at f;simp [B] at f;have e:a.length<(((FV.ses<|.sl false 4<|FTs x.l).length):Int):=by show a.length<(((FTs x.l).length):Int);rw [d];exact ltI' a t b
  have next:=dP c x i n r b (a++ [t]) (by rw [d];simp) j m;rw [nx] at next;rw [w64 (x:=a.length+1) (by omega)<|by omega];have w:rE (List.getD (FV.ses<|.sl false 4<|FTs x.l) (Int.toNat a.length) [])=List.getD (FV.ses<|.sl false 4<|FTs x.l) (Int.toNat a.length) []:=by rw [d];exact u9 a t b
  have y:aE (List.getD (FV.ses<|.sl false 4<|FTs x.l) (Int.toNat a.length) [])=aT t:=by rw [d];exact kf a t b
  rw [y];have o:badL (t::b)=((large t 40 || !near 1048576 t)||badL b):=rfl;refine ⟨rfl,bT e ⟨⟨rfl,by omega,e,w⟩,_,A,⟨rfl,by omega,e,w⟩,_,z,za (λh=>⟨g<|by rw [o,h];rfl,rfl⟩) λh=>za (λh'=>⟨g<|by rw [o,h,h'];rfl,rfl⟩) λh'=> ?_⟩⟩;have u:badL (t::b)=badL b:=by rw [o,h,h'];rfl
  exact next (λq=>g<|u.trans q) λq=>p<|u.trans q
def dH (c):∀(b a) (n),c.ins=a++b->c.sz<=B->(∀x∈b,∀d∈x.c,∀m,0<=m->m<=4611686018427387904->AC Tryz.prog 16 [aC d,ci m] [] (ci<|w7 d m) [])->0-1<=n->n<=4611686018427387904->
  RPt Tryz.prog 16 0 (ci<|xp b n) [] 1 ⟨[(2, .c<|.a<|.ep 0 6 0 0),(5,ci n),(6,ci a.length)],[(0, .arr 6 [cCd c])],1⟩
 |[],a,n,i,D,ih,K,N=>by
  refine rpv (nO n a.length ..) ?_;rw [xp];refine ⟨rfl,za (λh=>absurd (ro h) ?_) λ_=>xG rfl⟩;rw [i,zo];simp
 |x::b,a,n,i,D,ih,K,N=>by
  have z:x∈c.ins:=by rw [i];simp
  have V:=In1.szs_mem z;have X:=In1.szs_length c.ins;have T:In1.szs c.ins<=B:=by cases c;simp [Cd.sz,Cd.ins,B] at*;omega
  have Y:x.t.bk<=B/\Tm.bks x.l<=B/\Cd.szs x.c<=B:=by cases x;simp [In1.sz1,In1.t,In1.l,In1.c,B] at*;omega
  have Z:=Tm.sz_bk x.t;have O:=mn x.t (by omega) 40 (by omega) (by omega);have S:=c_near 1048576 (by omega) (by omega) x.t (by omega);have C:c.ins.length<=B:=by omega
  rw [i,re,r6] at C;simp [B] at C;have v:a.length<(((FIs c.ins).length):Int):=by rw [i,zo,re,r6];omega
  rw [kj];by_cases F:n<0
  .rw [ri F];refine rpv (nO n a.length ..) ?_;exact ⟨rfl,za (λ_=>bF (by omega)<|xG rfl) λ_=>xG rfl⟩
  rw [r8 F];have w:=jh x.c (n-1) (by omega)
  have next:Z5 x.t x.l=false->RPt Tryz.prog 16 0 (ci<|xp b<|yh x.c<|n-1) [] 1 ⟨[(2, .c<|.a<|.ep 0 6 0 0),(5,ci<|yh x.c<|n-1),(6,ci<|a.length+1)],[(0, .arr 6 [cCd c])],1⟩:=λ_=>by
   have:=dH c b (a++ [x]) (yh x.c<|n-1) (by rw [i];simp) D (λy I=>ih y<|rh _ I) w.1 (by omega);rw [nx] at this;exact this
  have J:∀r,(badL x.l=true->TV.Le (ci<|0-1) r)->(badL x.l=false->RPt Tryz.prog 16 0 r [] 1 ⟨[(2, .c _),(5,ci _),(6,ci<|a.length+1)],[(0, .arr 6 [cCd c])],1⟩)->
    RPt Tryz.prog 16 0 r [] 5 ⟨[(2, .c _),(5,ci _),(6,ci a.length),(7, .c<|.a<|.ep 1 8 0 0),(10,ci 0)],[(0, .arr 6 [cCd c]),(1, .arr 8 [cIn x])],2⟩:=λr L H=>by
   have z6:=Tm.szs_bks x.l;have U:=Tm.szs_length x.l;have W:=Cd.szs_length x.c;refine dP c x a.length (n-1) r x.l [] (by simp) (λt M=>by have:=Tm.szs_mem M;omega) (by omega) L λq=> ?_;exact dO c x a.length r x.c [] (n-1) (by simp) (by omega) (ih x rn) (by omega) (by omega) (by omega) (by simp [B];omega)<|H q
  refine rpv (nO n a.length ..) ?_;rw [w64 (x:=n-1) (by omega)<|by omega];have e:List.getD (FIs c.ins) (Int.toNat a.length) []=FI x:=by rw [i];exact ul a x b
  rw [e];have p:Z5 x.t x.l=(large x.t 40||(!near 1048576 x.t||(decide ((x.l.length:Int)>4)||(decide ((x.t.s.length:Int)>60)||badL x.l)))):=rfl;have f:Z5 x.t x.l=true->TV.Le (ci<|0-1) (ci (if Z5 x.t x.l=true then 0-1 else xp b<|yh x.c<|n-1)):=λq=>by rw [ri q];exact .refl _
  have A:((((FV.ses<|List.getD (FI x) 6 FV.N).length)))=(x.l.length:Int):=by rw [FI6];exact lenI x.l
  have E:=FI3 x
  refine ⟨rfl,za (λ_=>za (λ_=>⟨⟨rfl,by omega,v,nD x⟩,large x.t 40,by have o:=O;rw [<-(iU x)] at o;exact o,
   near 1048576 x.t,by have o:=S;rw [<-(iU x)] at o;exact o,
   za (λh=>⟨f<|by rw [p,h];rfl,rfl⟩) (λh=>za (λj=>⟨f<|by rw [p,h,j];rfl,rfl⟩) λj=>⟨by rw [FI6];rfl,za (λg=>⟨f ?_,rfl⟩) λg=>za (λu=>⟨f ?_,rfl⟩) λu=> ?_⟩)⟩)
   (λh=>absurd (rg h)<|by omega)) (λh=>absurd v<|rg h)⟩
  .rw [A] at g;rw [p,h,j,g];rfl
  .rw [A] at g;rw [E] at u;rw [p,h,j,g,u];rfl
  .rw [A] at g;rw [E] at u;have G:Z5 x.t x.l=badL x.l:=by rw [p,h,j,g,u];rfl
   rw [G];have:=J (ci (if badL x.l=true then 0-1 else xp b<|yh x.c<|n-1)) (λq=>by rw [ri q];exact .refl _) (λq=>by rw [r8<|by rw [q];simp];exact next (G.trans q))
   rw [<-cIr_FI x] at this;exact this
def c_cleft:∀c,c.sz<=B->∀m,0<=m->m<=4611686018427387904->AC Tryz.prog 16 [aC c,ci m] [] (ci<|w7 c m) []:=by
 refine Cd.ind λc ih g m b e=> ?_
 have h:=dH c c.ins [] (m-1) (by simp) g (λx f d hd m b e=>ih x f d hd (by
  have j:=In1.szs_mem f;have i:=Cd.szs_mem hd;cases c;cases x;simp [Cd.sz,Cd.ins,In1.sz1,In1.c] at*;omega) m b e) (by omega) (by omega)
 rw [<-J3] at h;refine acv (v16 ..) ?_;rw [w64 (x:=m-1) (by omega)<|by omega];exact h
def ip (c:Cd)(m:Int):=decide (w7 c m<0)
def di (c)(e:c.sz<=B)(m)(b:0<=m)(d:m<=4611686018427387904):AC Tryz.prog 5 [aC c,ci m] [] (cb<|ip c m) []:=by
 have h:=c_cleft c e m b d;refine acv (v5 ..) ?_;exact ⟨_,h,zg rfl⟩
abbrev wr (x:Int):Int:=wrap .i64 x
def zZ (r:Rd)(e:Int):Rd:=⟨r.s,r.f,if r.e=0 then e else r.e⟩
def putR (r:Rd)(c:Cel):=if r.e=0 then ((putS r.s c).1.1,⟨(putS r.s c).2,r.f,(putS r.s c).1.2⟩) else (0,r)
def yi (r:Rd)(a b:Int):=if r.e=0/\a≠b then ⟨(setS r.s a ⟨5,b,0,0,0⟩).2,r.f,(setS r.s a ⟨5,b,0,0,0⟩).1⟩ else r
def Xl (C:List Cel):Nat->Int->Int
 |0,a=>a
 |n+1,a=>if inC C a=false then a else if (zk C a).t≠5 then a else Xl C n (zk C a).a
def xA (C:List Cel)(a:Int):=Xl C C.length a
def zd (r:Rd)(a:Int):=
 if inC r.s.C (xA r.s.C a)=false then ((⟨2,0,0,0,0⟩,0),zZ r 1)
 else if 9<=(zk r.s.C<|xA r.s.C a).t then ((⟨2,0,0,0,0⟩,0),zZ r 1)
 else if (zk r.s.C<|xA r.s.C a).t=5 then ((⟨2,0,0,0,0⟩,0),zZ r 1)
 else if r.f<=0 then ((⟨2,0,0,0,0⟩,0),zZ r 80)
 else if r.e≠0 then ((⟨2,0,0,0,0⟩,0),r)
 else ((zk r.s.C<|xA r.s.C a,xA r.s.C a),⟨r.s,r.f-1,r.e⟩)
def wV (r:Rd)(a u:Int):=
 if u=0 then (a,r) else putR (putR r ⟨9,0,0,0,0⟩).2 ⟨8,a,(putR r ⟨9,0,0,0,0⟩).1,0,u⟩
def zU:Nat->Rd->Int->Int->(Cel×Bool)×Rd
 |0,r,_,_=>((noC,false),r)
 |n+1,r,row,j=>
  if inC r.s.C row=false then ((noC,false),zZ r 1)
  else if (zk r.s.C row).t<9 then ((noC,false),zZ r 1)
  else if (zk r.s.C row).t=9 then ((noC,false),r)
  else if j=0 then ((zk r.s.C row,true),r)
  else if r.f<=0 then ((noC,false),zZ r 80)
  else zU n ⟨r.s,r.f-1,r.e⟩ (zk r.s.C row).a<|wr<|j-1
def losR (n:Nat)(r:Rd)(s:Cel)(j:Int):=
 if j<s.c then
  if (zU n r s.b j).1.2=true then
   if (zU n r s.b j).1.1.t=10 then putR (zU n r s.b j).2 ⟨3,wr<|wr (s.d-1)-(zU n r s.b j).1.1.b,0,0,0⟩ else wV (zU n r s.b j).2 (zU n r s.b j).1.1.b<|wr<|s.d-(zU n r s.b j).1.1.c
  else putR (zU n r s.b j).2 ⟨3,wr<|wr (j-s.c)+s.d,0,0,0⟩
 else putR r ⟨3,wr<|wr (j-s.c)+s.d,0,0,0⟩
def yr (r:Rd)(s:Cel)(a row more:Int):Int×Rd:=putR r ⟨8,a,row,wr<|s.c+more,wr<|s.d+more⟩
def lamR (r:Rd)(s:Cel)(b:Int):=
 putR (yr (putR r ⟨10,s.b,s.d,0,0⟩).2 s b (putR r ⟨10,s.b,s.d,0,0⟩).1 1).2 ⟨6,(yr (putR r ⟨10,s.b,s.d,0,0⟩).2 s b (putR r ⟨10,s.b,s.d,0,0⟩).1 1).1,0,0,0⟩
def appR (r:Rd)(s:Cel)(f x:Int):=
 putR (yr (yr r s f s.b 0).2 s x s.b 0).2 ⟨7,(yr r s f s.b 0).1,(yr (yr r s f s.b 0).2 s x s.b 0).1,0,0⟩
def ub (n:Nat)(c:Cel)(t:Int)(r:Rd)(s:Cel):Int×Rd:=
 if c.t=3 then losR n r s c.a else if c.t=6 then lamR r s c.a else if c.t=7 then appR r s c.a c.b else (t,r)
def uU (n:Nat)(v:(Cel×Int)×Rd)(s:Cel):=
 if v.2.e≠0 then (v.1.2,v.2) else if s.c=0/\s.d=0 then (v.1.2,v.2) else ub n v.1.1 v.1.2 v.2 s
mutual
def zm:Nat->Rd->Cel->Int×Rd
 |0,r,_=>(0,r)
 |n+1,r,s=>uU (n+1) (wX n<|zd r s.a) s
def wX:Nat->(Cel×Int)×Rd->(Cel×Int)×Rd
 |0,v=>v
 |n+1,v=>if v.2.e=0/\v.1.1.t=8 then wX n (zd (yi (zm n v.2 v.1.1).2 v.1.2 (zm n v.2 v.1.1).1) (zm n v.2 v.1.1).1) else v
end
def ug (r:Rd)(b arg:Int):=
 putR (putR (putR r ⟨9,0,0,0,0⟩).2 ⟨11,(putR r ⟨9,0,0,0,0⟩).1,arg,0,0⟩).2 ⟨8,b,(putR (putR r ⟨9,0,0,0,0⟩).2 ⟨11,(putR r ⟨9,0,0,0,0⟩).1,arg,0,0⟩).1,1,0⟩
structure OkH (s:Hp):Prop where
 C:s.C.length<=1048576
 M:s.M<=1048576
 T:s.T.length<=1048576
 L:s.L<=1048576
def OkH.put {s}(h:OkH s)(c):OkH (putS s c).2:=by
 unfold putS;split
 .exact h
 .split
  .exact h
  .rename_i _ q;have:=h.M;exact ⟨by grind,h.M,h.T,h.L⟩
def OkH.set {s}(h:OkH s)(a c):OkH (setS s a c).2:=by
 unfold setS;split
 .exact h
 .split
  .exact h
  .split
   .exact h
   .split
    .exact h
    .rename_i _ _ _ q;have:=h.L;exact ⟨by simp [sY];exact h.C,h.M,by grind,h.L⟩
structure OkR (r:Rd):Prop where
 h:OkH r.s
 f0:0-4611686018427387904<=r.f
 f1:r.f<=4611686018427387904
def OkR.fail {r}(h:OkR r)(e):OkR (zZ r e):=⟨h.h,h.f0,h.f1⟩
def OkR.put {r}(h:OkR r)(c):OkR (putR r c).2:=by
 unfold putR;split
 .exact ⟨h.h.put c,h.f0,h.f1⟩
 .exact h
def OkR.keep {r}(h:OkR r)(a b):OkR (yi r a b):=by
 unfold yi;split
 .exact ⟨h.h.set a _,h.f0,h.f1⟩
 .exact h
def OkR.less {r}(h:OkR r)(b:¬r.f<=0):OkR ⟨r.s,r.f-1,r.e⟩:=⟨h.h,by grind,by have:=h.f1;dsimp only;omega⟩
def OkR.visit {r}(h:OkR r)(a):OkR (zd r a).2:=by
 unfold zd;split
 .exact h.fail 1
 .split
  .exact h.fail 1
  .split
   .exact h.fail 1
   .split
    .exact h.fail 80
    .split
     .exact h
     .rename_i q _;exact h.less q
def OkR.lift {r}(h:OkR r)(a u):OkR (wV r a u).2:=by
 unfold wV;split
 .exact h
 .exact (h.put _).put _
def OkR.entry:∀(n) {r} (b j),OkR r->OkR (zU n r b j).2
 |0,_,_,_,h=>h
 |n+1,r,b,j,h=>by
  rw [zU];split
  .exact h.fail 1
  .split
   .exact h.fail 1
   .split
    .exact h
    .split
     .exact h
     .split
      .exact h.fail 80
      .rename_i q;exact OkR.entry n _ _<|h.less q
def OkR.loose (n){r}(h:OkR r)(s j):OkR (losR n r s j).2:=by
 have e:=OkR.entry n s.b j h;unfold losR;split
 .split
  .split
   .exact e.put _
   .exact e.lift _ _
  .exact e.put _
 .exact h.put _
def OkR.lam {r}(h:OkR r)(s b):OkR (lamR r s b).2:=((h.put _).put _).put _
def OkR.app {r}(h:OkR r)(s f x):OkR (appR r s f x).2:=((h.put _).put _).put _
def OkR.level (n){r}(h:OkR r)(c t s):OkR (ub n c t r s).2:=by
 unfold ub;split
 .exact h.loose n s _
 .split
  .exact h.lam s _
  .split
   .exact h.app s _ _
   .exact h
def OkR.spun (n){v}(h:OkR v.2)(s):OkR (uU n v s).2:=by
 unfold uU;split
 .exact h
 .split
  .exact h
  .exact h.level n _ _ s
mutual
def OkR.open:∀(n:Nat) {r:Rd} (s:Cel),OkR r->OkR (zm n r s).2
 |0,_,_,h=>h
 |n+1,r,s,h=>by
  rw [zm];exact OkR.spun (n+1) (OkR.spin n<|h.visit s.a) s
def OkR.spin:∀(n:Nat) {v:(Cel×Int)×Rd},OkR v.2->OkR (wX n v).2
 |0,_,h=>h
 |n+1,v,h=>by
  rw [wX];split
  .exact OkR.spin n<|((OkR.open n v.1.1 h).keep _ _).visit _
  .exact h
end
def OkR.beta {r}(h:OkR r)(b arg):OkR (ug r b arg).2:=((h.put _).put _).put _
abbrev aRd:TV:= .c<|.a<|.ep 0 3 0 0
abbrev rd3 (o:Nat)(r:Rd):AObj:= .arr 3 [[.a<|.ep o 6 0 0,qi r.f,qi r.e]]
abbrev oRd (r:Rd):=[rd3 1 r,hp6 2 3 4 5 r.s, .arz 5<|CR r.s.C, .arz 7<|TR r.s.T, .arz 1<|NR r.s.N, .mapz<|NM r.s.N 0]
abbrev oRd' (r:Rd):=[rd3 1 r,hp6 6 7 8 5 r.s, .gone, .gone, .gone, .mapz<|NM r.s.N 0, .arz 5<|CR r.s.C, .arz 7<|TR r.s.T, .arz 1<|NR r.s.N]
abbrev tCI (x:Cel×Int):TV:= .tup [(true,[qi x.1.t,qi x.1.a,qi x.1.b,qi x.1.c,qi x.1.d]),(false,[qi x.2])]
def bne_of {x n:Int}(h:(x !=n)=true):x≠n:=by grind
def beq_of {x n:Int}(h:(x !=n)=false):x=n:=by grind
def zQ {x n:Int}{A B}(d:x≠n->A)(b:x=n->B):br (x !=n) A B:=za (λh=>d<|bne_of h) λh=>b<|beq_of h
def vy (r e):AC Tryz.prog 212 [aRd,ci e] (oRd r) (ci 0) (oRd<|zZ r e):=by
 refine acv (v212 ..) ?_;refine zl (λh=> ?_) λh=> ?_
 .rw [show zZ r e=⟨r.s,r.f,e⟩ by rw [zZ,ri h]];exact rrl
 .rw [show zZ r e=r by rw [zZ,r8 h]];exact rrl
def vg (r c)(h:OkR r):AC Tryz.prog 189 [aRd,aCe c] (oRd r) (ci (putR r c).1) (oRd' (putR r c).2):=by
 have d:=xB r.s c (by have:=h.h.C;omega);have b:=vy ⟨(putS r.s c).2,r.f,r.e⟩ (putS r.s c).1.2;unfold putR;refine AC.vc hP sh lv189 (by simp) (by simp [isLive]) (by split<;>simp [isLive])<|Eq.mpr (v189 ..) ?_
 refine zQ (λh=> ?_) λh=> ?_
 .rw [r8 h];exact rrl
 .rw [ri h];rw [show zZ ⟨(putS r.s c).2,r.f,r.e⟩ (putS r.s c).1.2=⟨(putS r.s c).2,r.f,(putS r.s c).1.2⟩ from by rw [zZ,ri h]] at b;exact ⟨putS r.s c,d,(0,r.f,(putS r.s c).1.2),b, .refl _,rfl⟩
def WU (r a b)(h:OkR r):AC Tryz.prog 186 [aRd,ci a,ci b] (oRd r) (.tup []) (oRd'<|yi r a b):=by
 have i:=c_hset r.s a ⟨5,b,0,0,0⟩ (by have:=h.h.T;omega);have g:=vy ⟨(setS r.s a ⟨5,b,0,0,0⟩).2,r.f,r.e⟩ (setS r.s a ⟨5,b,0,0,0⟩).1;unfold yi;refine AC.vc hP sh lv186 (by simp) (by simp [isLive]) (by split<;>simp [isLive])<|Eq.mpr (v186 ..) ?_
 refine zl (λh=>zQ (λd=> ?_) λd=> ?_) λh=> ?_
 .rw [ri ⟨h,d⟩];rw [show zZ ⟨(setS r.s a ⟨5,b,0,0,0⟩).2,r.f,r.e⟩ (setS r.s a ⟨5,b,0,0,0⟩).1=⟨(setS r.s a ⟨5,b,0,0,0⟩).2,r.f,(setS r.s a ⟨5,b,0,0,0⟩).1⟩ from by rw [zZ,ri h]] at g;exact ⟨setS r.s a ⟨5,b,0,0,0⟩,i,(0,r.f,(setS r.s a ⟨5,b,0,0,0⟩).1),g, .refl _,rfl⟩
 .rw [r8 λq=>q.2 d];exact rrl
 .rw [r8 λq=>h q.1];exact rrl
abbrev stD (s:Hp)(a x y:Int):St:=⟨[(0,aH 0),(1,ci a),(11,ci x),(12,ci y)],[(0,hp6 1 2 3 4 s),(1, .arz 5<|CR s.C),(2, .arz 7<|TR s.T),(3, .arz 1<|NR s.N),(4, .mapz<|NM s.N 0)],5⟩
def cQ (s)(e:s.C.length<=1073741824):∀(n) (a) (y:Nat),y+n=s.C.length->RPt Tryz.prog 190 5 (ci<|Xl s.C n a) (oH s) 1 (stD s a s.C.length y)
 |0,a,y,d=>by
  refine rpv (lu ..) ?_;exact bF (by omega) rrl
 |n+1,a,y,d=>by
  refine rpv (lu ..) ?_;have nx:=cQ s e n (zk s.C a).a (y+1) (by omega);rw [w64 (by omega)<|by omega];refine za (λ_=>⟨_,_,_,_,_,_,xZ s a,za (λh=> ?_) λh=>zQ (λb=> ?_) λb=> ?_⟩) (λh=>absurd (rg h)<|by omega)
  .rw [Xl,ri<|by simpa using h];exact rrl
  .rw [Xl,r8<|by simpa using h,ri b];exact rrl
  .rw [Xl,r8<|by simpa using h,r8 λq=>q b];exact nx
def XP (s)(b:s.C.length<=1073741824)(a):AC Tryz.prog 190 [aH 0,ci a] (oH s) (ci<|xA s.C a) (oH s):=by
 refine acv (v190 ..) ?_;exact cQ s b s.C.length a 0 (by omega)
def fX (r){e}(h:e≠0):(zZ r e).e≠0:=by
 show (if r.e=0 then e else r.e)≠0
 omega
def WF (r a)(h:OkR r):AC Tryz.prog 184 [aRd,ci a] (oRd r) (tCI (zd r a).1) (oRd (zd r a).2):=by
 have hd:=XP r.s (by have:=h.h.C;omega) a;have f0:=h.f0;have x:=h.f1
 have b:zd r a=if inC r.s.C _=false then ((⟨2,0,0,0,0⟩,0),zZ r 1)
  else if 9<=(zk r.s.C _).t then ((⟨2,0,0,0,0⟩,0),zZ r 1)
  else if (zk r.s.C _).t=5 then ((⟨2,0,0,0,0⟩,0),zZ r 1)
  else if r.f<=0 then ((⟨2,0,0,0,0⟩,0),zZ r 80)
  else if r.e≠0 then ((⟨2,0,0,0,0⟩,0),r)
  else ((zk r.s.C _,xA r.s.C a),⟨r.s,r.f-1,r.e⟩):=rfl
 generalize xA r.s.C a=d at*;have u:=xZ r.s d
 have g:∀(e) p {Q:Prop},zd r a=((⟨2,0,0,0,0⟩,0),zZ r e)->br ((zZ r e).e !=0) (TV.Le _ (tCI (zd r a).1)/\oRd _=oRd (zd r a).2) Q:=λe p Q v=>by
  rw [v];exact zQ (λ_=>rrl) λh=>absurd h<|fX r p
 refine acv (v184 ..) ?_;refine ⟨d,hd,_,_,_,_,_,_,u,za (λq=> ?_) λq=>za (λi=> ?_) λi=>zl (λm=> ?_) λm=>za (λj=> ?_) λj=>zQ (λo=> ?_) λo=> ?_⟩
 .rw [ri<|by simpa using q] at b;exact ⟨(0,(zZ r 1).f,(zZ r 1).e),vy r 1,g 1 (by decide) b⟩
 .rw [r8<|by simpa using q,ri<|ro i] at b;exact ⟨(0,(zZ r 1).f,(zZ r 1).e),vy r 1,g 1 (by decide) b⟩
 .rw [r8<|by simpa using q,r8<|rg i,ri m] at b;exact ⟨(0,(zZ r 1).f,(zZ r 1).e),vy r 1,g 1 (by decide) b⟩
 .rw [r8<|by simpa using q,r8<|rg i,r8 m,ri<|ro j] at b;exact ⟨(0,(zZ r 80).f,(zZ r 80).e),vy r 80,g 80 (by decide) b⟩
 .rw [r8<|by simpa using q,r8<|rg i,r8 m,r8<|rg j,ri o] at b;rw [b];exact rrl
 .have j:=rg j;rw [r8<|by simpa using q,r8<|rg i,r8 m,r8 j,r8 λw=>w o] at b;rw [b,w64 (by omega)<|by omega];exact rrl
def ib (r a u)(h:OkR r):AC Tryz.prog 227 [aRd,ci a,ci u] (oRd r) (ci (wV r a u).1) (oRd' (wV r a u).2):=by
 have b:=vg r ⟨9,0,0,0,0⟩ h;have d:=vg (putR r ⟨9,0,0,0,0⟩).2 ⟨8,a,(putR r ⟨9,0,0,0,0⟩).1,0,u⟩<|h.put _
 unfold wV;refine AC.vc hP sh lv227 (by simp) (by simp [isLive]) (by split<;>simp [isLive])<|Eq.mpr (v227 ..) ?_
 refine zl (λq=> ?_) λq=> ?_
 .rw [ri q];exact rrl
 .rw [r8 q];exact ⟨_,b,_,d, .refl _,rfl⟩
abbrev aCB (x:Cel×Bool):=tCe x.1 x.2
abbrev stEn (r:Rd)(row j:Int)(c:Cel):St:=⟨[(0,aRd),(1,ci row),(2,ci j),(6, .c<|.a<|.ep 6 5 0 0)],[(0,rd3 1 r),(1,hp6 2 3 4 5 r.s),(2, .arz 5<|CR r.s.C),(3, .arz 7<|TR r.s.T),(4, .arz 1<|NR r.s.N),(5, .mapz<|NM r.s.N 0),(6, .arr 5 [[qi c.t,qi c.a,qi c.b,qi c.c,qi c.d]])],7⟩
def cU (c):∀(n) (r) (b j),OkR r->r.f.toNat<n->RPt Tryz.prog 226 6 (aCB (zU n r b j).1) (oRd (zU n r b j).2) 1 (stEn r b j c)
 |0,_,_,_,_,h=>absurd h (by omega)
 |n+1,r,b,j,ok,v=>by
  have f0:=ok.f0;have u:=ok.f1
  have d:zU (n+1) r b j=if inC r.s.C b=false then ((noC,false),zZ r 1)
   else if (zk r.s.C b).t<9 then ((noC,false),zZ r 1)
   else if (zk r.s.C b).t=9 then ((noC,false),r)
   else if j=0 then ((zk r.s.C b,true),r)
   else if r.f<=0 then ((noC,false),zZ r 80)
   else zU n ⟨r.s,r.f-1,r.e⟩ (zk r.s.C b).a _:=rfl
  have p:=xZ r.s b;have nx:=λq=>cU c n ⟨r.s,r.f-1,r.e⟩ (zk r.s.C b).a (wr<|j-1) (ok.less q) (by dsimp only;omega);refine rpv (v226_1a ..) ?_;refine ⟨_,_,_,_,_,_,p,za (λq=> ?_) λq=>za (λi=> ?_) λi=>zl (λm=> ?_) λm=>zl (λo=> ?_) λo=>za (λg=> ?_) λg=> ?_⟩
  .rw [ri<|by simpa using q] at d;rw [d];exact ⟨(0,(zZ r 1).f,(zZ r 1).e),vy r 1, .refl _,rfl⟩
  .rw [r8<|by simpa using q,ri<|ro i] at d;rw [d];exact ⟨(0,(zZ r 1).f,(zZ r 1).e),vy r 1, .refl _,rfl⟩
  .rw [r8<|by simpa using q,r8<|rg i,ri m] at d;rw [d];exact rrl
  .rw [r8<|by simpa using q,r8<|rg i,r8 m,ri o] at d;rw [d];exact rrl
  .rw [r8<|by simpa using q,r8<|rg i,r8 m,r8 o,ri<|ro g] at d;rw [d];exact ⟨(0,(zZ r 80).f,(zZ r 80).e),vy r 80, .refl _,rfl⟩
  .have g:=rg g;rw [r8<|by simpa using q,r8<|rg i,r8 m,r8 o,r8 g] at d;rw [d,w64 (x:=r.f-1) (by omega)<|by omega];exact nx g
def c_rentry (n r b j)(h:OkR r)(d:r.f.toNat<n):AC Tryz.prog 226 [aRd,ci b,ci j] (oRd r) (aCB (zU n r b j).1) (oRd (zU n r b j).2):=by
 refine acv (v226 ..) ?_;exact cU noC n r b j h d
def c_slo (n r s j)(h:OkR r)(E:r.f.toNat<n):AC Tryz.prog 214 [aRd,aCe s,ci j] (oRd r) (ci (losR n r s j).1) (oRd' (losR n r s j).2):=by
 have C:=c_rentry n r s.b j h E
 have D:(zU n r s.b j).2.s=r.s:=by
  have key:∀(n) r (i j),(zU n r i j).2.s=r.s:=by
   intro n
   induction n with
   |zero=>intro r i j;rfl
   |succ n ih=>
    intro r i j;rw [zU];split
    .rfl
    .split
     .rfl
     .split
      .rfl
      .split
       .rfl
       .split
        .rfl
        .exact ih _ _ _
  exact key n r s.b j
 have y:=OkR.entry n s.b j h
 have e0:losR n r s j=if j<s.c then
  if (zU n r s.b j).1.2=true then
   if (zU n r s.b j).1.1.t=10 then putR (zU n r s.b j).2 ⟨3,wr _,0,0,0⟩ else wV (zU n r s.b j).2 (zU n r s.b j).1.1.b _
  else putR (zU n r s.b j).2 ⟨3,wr _,0,0,0⟩
 else putR r ⟨3,wr _,0,0,0⟩:=rfl
 generalize zU n r s.b j=z at*
 let ⟨⟨c,b⟩,⟨F,o,p⟩⟩:=z
 obtain rfl:F=r.s:=D;have bnd:=vg ⟨r.s,o,p⟩ ⟨3,wr<|wr (j-s.c)+s.d,0,0,0⟩ y;have v:=ib ⟨r.s,o,p⟩ c.b (wr<|s.d-c.c) y;have A:=vg ⟨r.s,o,p⟩ ⟨3,wr<|wr (s.d-1)-c.b,0,0,0⟩ y;have x:=vg r ⟨3,wr<|wr (j-s.c)+s.d,0,0,0⟩ h;refine acv (v214 ..) ?_;refine za (λq=>⟨(c.t,c.a,c.b,c.c,c.d,b,o,p),C, ?_⟩) λq=> ?_
 .rw [ri<|ro q] at e0;have u:b=true->c.t≠10->losR n r s j=wV ⟨r.s,o,p⟩ c.b _:=λe g=>by rw [e0,ri e,r8 g]
  have w:b=false->losR n r s j=putR ⟨r.s,o,p⟩ ⟨3,wr _,0,0,0⟩:=λe=>by rw [e0,r8<|by show¬b=true;rw [e];decide]
  refine za (λe=>zl (λg=> ?_) λg=>za (λ_=> ?_) λm=>absurd (show b=true from e)<|by rw [show b=false from m];decide) (λe=>za (λm=>absurd (show b=true from m)<|by rw [show b=false from e];decide) λ_=> ?_)
  .have e:=e;rw [ri e,ri g] at e0;rw [e0];exact ⟨_,A, .refl _,rfl⟩
  .rw [u e g];exact ⟨_,v, .refl _,rfl⟩
  .rw [w e];exact ⟨_,bnd, .refl _,rfl⟩
 .rw [r8<|rg q] at e0;rw [e0];exact ⟨_,x, .refl _,rfl⟩
abbrev oCl (r:Rd)(s:Cel):=[.arr 1 [[.a<|.ep 1 3 0 0]],rd3 2 r,hp6 3 4 5 6 r.s, .arz 5<|CR r.s.C, .arz 7<|TR r.s.T, .arz 1<|NR r.s.N, .mapz<|NM r.s.N 0, .arr 5 [[qi s.t,qi s.a,qi s.b,qi s.c,qi s.d]]]
abbrev oCl' (r:Rd)(s:Cel):=[.arr 1 [[.a<|.ep 1 3 0 0]],rd3 2 r,hp6 8 9 10 6 r.s, .gone, .gone, .gone, .mapz<|NM r.s.N 0, .arr 5 [[qi s.t,qi s.a,qi s.b,qi s.c,qi s.d]], .arz 5<|CR r.s.C, .arz 7<|TR r.s.T, .arz 1<|NR r.s.N]
def ZN (r s a e b)(h:OkR r):AC Tryz.prog 213 [ci a,ci e,ci b, .c<|.a<|.ep 0 1 0 0, .c<|.a<|.ep 7 5 0 0] (oCl r s) (ci (yr r s a e b).1) (oCl' (yr r s a e b).2 s):=by
 have f:=vg r ⟨8,a,e,wr<|s.c+b,wr<|s.d+b⟩ h;refine acv (v213 ..) ?_;exact ⟨_,f, .refl _,rfl⟩
def c_rbeta (r c arg)(h:OkR r):AC Tryz.prog 187 [aRd,aCe c,ci arg] (oRd r) (ci (ug r c.a arg).1) (oRd' (ug r c.a arg).2):=by
 have d:=vg r ⟨9,0,0,0,0⟩ h;have e:=vg (putR r ⟨9,0,0,0,0⟩).2 ⟨11,(putR r ⟨9,0,0,0,0⟩).1,arg,0,0⟩<|h.put _
 have b:=vg (putR (putR r ⟨9,0,0,0,0⟩).2 ⟨11,(putR r ⟨9,0,0,0,0⟩).1,arg,0,0⟩).2 ⟨8,c.a,(putR (putR r ⟨9,0,0,0,0⟩).2 ⟨11,(putR r ⟨9,0,0,0,0⟩).1,arg,0,0⟩).1,1,0⟩<|(h.put _).put _
 refine acv (v187 ..) ?_;exact ⟨_,d,_,e,_,b, .refl _,rfl⟩
abbrev stOp (r:Rd)(s c:Cel)(t:Int):St:=
 ⟨[(2, .c<|.a<|.ep 9 1 0 0),(3, .c<|.a<|.ep 10 5 0 0),(5, .c<|.a<|.ep 11 5 0 0),(6,ci t)],[(0,rd3 1 r),(1,hp6 6 7 8 5 r.s),(2, .gone),(3, .gone),(4, .gone),(5, .mapz<|NM r.s.N 0),(6, .arz 5<|CR r.s.C),(7, .arz 7<|TR r.s.T),(8, .arz 1<|NR r.s.N),(9, .arr 1 [[.a<|.ep 0 3 0 0]]),
  (10, .arr 5 [[qi s.t,qi s.a,qi s.b,qi s.c,qi s.d]]),(11, .arr 5 [[qi c.t,qi c.a,qi c.b,qi c.c,qi c.d]])],12⟩
def l_ropen8 (n r s c t)(h:OkR r)(u:r.f.toNat<n):RPt Tryz.prog 185 6 (ci (ub n c t r s).1) (oRd' (ub n c t r s).2) 16 (stOp r s c t):=by
 have p:=c_slo n r s c.a h u;have m:=vg r ⟨10,s.b,s.d,0,0⟩ h;have w1:=ZN (putR r ⟨10,s.b,s.d,0,0⟩).2 s c.a (putR r ⟨10,s.b,s.d,0,0⟩).1 1<|h.put _
 have o:=vg (yr (putR r ⟨10,s.b,s.d,0,0⟩).2 s c.a (putR r ⟨10,s.b,s.d,0,0⟩).1 1).2 ⟨6,(yr (putR r ⟨10,s.b,s.d,0,0⟩).2 s c.a (putR r ⟨10,s.b,s.d,0,0⟩).1 1).1,0,0,0⟩<|(h.put _).put _
 have j:=ZN r s c.a s.b 0 h;have v:=ZN (yr r s c.a s.b 0).2 s c.b s.b 0<|h.put _
 have i:=vg (yr (yr r s c.a s.b 0).2 s c.b s.b 0).2 ⟨7,(yr r s c.a s.b 0).1,(yr (yr r s c.a s.b 0).2 s c.b s.b 0).1,0,0⟩<|(h.put _).put _
 unfold ub;refine rpv (v185_16a ..) ?_;refine zl (λq=> ?_) λq=>zl (λe=> ?_) λe=>zl (λg=> ?_) λg=> ?_
 .rw [ri q];exact ⟨_,p, .refl _,rfl⟩
 .rw [r8 q,ri e];exact ⟨_,m,_,w1,_,o, .refl _,rfl⟩
 .rw [r8 q,r8 e,ri g];exact ⟨_,j,_,v,_,i, .refl _,rfl⟩
 .rw [r8 q,r8 e,r8 g];exact rrl
def J5 (n r s c t)(h:OkR r)(i:r.f.toNat<n):RPt Tryz.prog 185 6 (ci (uU n ((c,t),r) s).1) (oRd' (uU n ((c,t),r) s).2) 12 (stOp r s c t):=by
 have nx:=l_ropen8 n r s c t h i;have e0:uU n ((c,t),r) s=if r.e≠0 then (t,r) else if s.c=0/\s.d=0 then (t,r) else ub n c t r s:=rfl
 rw [e0];refine rpv (v185_12a ..) ?_;refine zQ (λq=> ?_) λq=>zl (λg=>zl (λb=> ?_) λb=> ?_) λg=> ?_
 .rw [ri q];exact rrl
 .rw [r8 λw=>w q,ri ⟨g,b⟩];exact rrl
 .rw [r8 λw=>w q,r8 λw=>b w.2];exact nx
 .rw [r8 λw=>w q,r8 λw=>g w.1];exact nx
def jO (r:Rd)(a:Int):(zd r a).2.f<=r.f/\((zd r a).2.e=0->0<r.f/\(zd r a).2.f=r.f-1):=by
 unfold zd;have b:∀e:Int,e≠0->(zZ r e).f<=r.f/\((zZ r e).e=0->0<r.f/\(zZ r e).f=r.f-1):=λe d=>⟨rk _,λq=>absurd q<|fX r d⟩;split
 .exact b 1 (by decide)
 .split
  .exact b 1 (by decide)
  .split
   .exact b 1 (by decide)
   .split
    .exact b 80 (by decide)
    .split
     .rename_i q;exact ⟨rk _,λw=>absurd w q⟩
     .rename_i q _;exact ⟨by dsimp only;omega,λ_=>⟨by omega,rfl⟩⟩
def Jb (r c):(putR r c).2.f=r.f:=by unfold putR;split<;>rfl
def KW (r a b):(yi r a b).f=r.f:=by unfold yi;split<;>rfl
def lift_f (r:Rd)(a u:Int):(wV r a u).2.f=r.f:=by unfold wV;split; · rfl
                                                  .rw [Jb,Jb]
def mw:∀(n) (r) (b j),(zU n r b j).2.f<=r.f
 |0,_,_,_=>rk _
 |n+1,r,b,j=>by
  rw [zU];split
  .exact rk _
  .split
   .exact rk _
   .split
    .exact rk _
    .split
     .exact rk _
     .split
      .exact rk _
      .have:=mw n ⟨r.s,r.f-1,r.e⟩ (zk r.s.C b).a<|wr<|j-1
       dsimp only at this;omega
def level_f (n c t r s):(ub n c t r s).2.f<=r.f:=by
 unfold ub;split
 .have:=mw n r s.b c.a;unfold losR;split
  .split
   .split
    .rw [Jb];exact this
    .rw [lift_f];exact this
   .rw [Jb];exact this
  .rw [Jb];exact rk _
 .split
  .simp only [lamR,yr,Jb];exact rk _
  .split
   .simp only [appR,yr,Jb];exact rk _
   .exact rk _
def spun_f (n v s):(uU n v s).2.f<=v.2.f:=by
 unfold uU;split
 .exact rk _
 .split
  .exact rk _
  .exact level_f _ _ _ _ _
mutual
def cK:∀(n:Nat) (r:Rd) (s:Cel),(zm n r s).2.f<=r.f
 |0,_,_=>rk _
 |n+1,r,s=>by
  rw [zm];have:=spun_f (n+1) (wX n<|zd r s.a) s;have:=spin_f n<|zd r s.a
  have:=(jO r s.a).1;omega
def spin_f:∀(n:Nat) (v:(Cel×Int)×Rd),(wX n v).2.f<=v.2.f
 |0,_=>rk _
 |n+1,v=>by
  rw [wX];split
  .have:=spin_f n<|zd (yi (zm n v.2 v.1.1).2 v.1.2 (zm n v.2 v.1.1).1) (zm n v.2 v.1.1).1
   have:=(jO (yi (zm n v.2 v.1.1).2 v.1.2 (zm n v.2 v.1.1).1) (zm n v.2 v.1.1).1).1;have:=KW (zm n v.2 v.1.1).2 v.1.2 (zm n v.2 v.1.1).1;have:=cK n v.2 v.1.1;omega
  .exact rk _
end
abbrev OpenG (n:Nat):=∀(r) s,OkR r->2*r.f.toNat+2<=n->AC Tryz.prog 185 [aRd,aCe s] (oRd r) (ci (zm n r s).1) (oRd' (zm n r s).2)
def pQ (N s):∀(n),(∀m,m<=n->OpenG m)->∀(c) (t) (r),OkR r->2*r.f.toNat+3<=n->n<N->RPt Tryz.prog 185 6 (ci (uU N (wX n ((c,t),r)) s).1) (oRd' (uU N (wX n ((c,t),r)) s).2) 1 (stOp r s c t)
 |n,p,c,t,r,h,J,I=>by
  cases n with
  |zero=>omega
  |succ n=>
  have g:=J5 N r s c t h (by omega);have y:=p n (by omega) r c h (by omega);have A:=WU (zm n r c).2 t (zm n r c).1<|OkR.open n c h
  have H:=WF (yi (zm n r c).2 t (zm n r c).1) (zm n r c).1<|(OkR.open n c h).keep _ _
  have x:=((OkR.open n c h).keep t (zm n r c).1).visit (zm n r c).1;have L:=cK n r c;have M:=KW (zm n r c).2 t (zm n r c).1;have G:=jO (yi (zm n r c).2 t (zm n r c).1) (zm n r c).1
  have u:(zd (yi (zm n r c).2 t (zm n r c).1) (zm n r c).1).2.s=(yi (zm n r c).2 t (zm n r c).1).s:=by
   unfold zd;split
   .rfl
   .split
    .rfl
    .split
     .rfl
     .split
      .rfl
      .split<;>rfl
  have e0:wX (n+1) ((c,t),r)=if r.e=0/\c.t=8 then wX n (zd (yi (zm n r c).2 t (zm n r c).1) (zm n r c).1) else ((c,t),r):=rfl
  rw [e0]
  have nx:r.e=0->c.t=8->RPt Tryz.prog 185 6 (ci (uU N (wX n<|zd (yi (zm n r c).2 t (zm n r c).1) (zm n r c).1) s).1) (oRd' (uU N (wX n<|zd (yi (zm n r c).2 t (zm n r c).1) (zm n r c).1) s).2) 1
    (stOp (zd (yi (zm n r c).2 t (zm n r c).1) (zm n r c).1).2 s (zd (yi (zm n r c).2 t (zm n r c).1) (zm n r c).1).1.1 (zd (yi (zm n r c).2 t (zm n r c).1) (zm n r c).1).1.2):=λ_ _=>by
   by_cases q:(zd (yi (zm n r c).2 t (zm n r c).1) (zm n r c).1).2.e=0
   .have K:=G.2 q;exact pQ N s n (λm O=>p m<|by omega) (zd (yi (zm n r c).2 t (zm n r c).1) (zm n r c).1).1.1 (zd (yi (zm n r c).2 t (zm n r c).1) (zm n r c).1).1.2 (zd (yi (zm n r c).2 t (zm n r c).1) (zm n r c).1).2 x (by omega) (by omega)
   .have z:wX n (zd (yi (zm n r c).2 t (zm n r c).1) (zm n r c).1)=zd (yi (zm n r c).2 t (zm n r c).1) (zm n r c).1:=by
     cases n with
     |zero=>rfl
     |succ n=>rw [wX,r8 λw=>q w.1]
    rw [z];have C:=J5 N (zd (yi (zm n r c).2 t (zm n r c).1) (zm n r c).1).2 s (zd (yi (zm n r c).2 t (zm n r c).1) (zm n r c).1).1.1 (zd (yi (zm n r c).2 t (zm n r c).1) (zm n r c).1).1.2 x (by omega);refine rpv (gO ..) ?_;exact zl (λw=>absurd w q) λ_=>C
  generalize zd (yi (zm n r c).2 t (zm n r c).1) (zm n r c).1=v at*;generalize yi (zm n r c).2 t (zm n r c).1=k at*;generalize zm n r c=o at*
  let ⟨⟨i,D⟩,⟨vs,E,F⟩⟩:=v
  dsimp only at u;subst u;refine rpv (gO ..) ?_;refine zl (λq=>zl (λj=> ?_) λj=> ?_) λq=> ?_
  .rw [ri ⟨q,j⟩];exact ⟨o,y,k,A,(i.t,i.a,i.b,i.c,i.d,D,E,F),H,nx q j⟩
  .rw [r8 λw=>j w.2];exact g
  .rw [r8 λw=>q w.1];exact g
def li (r a):(zd r a).2.s=r.s:=by
 unfold zd;split
 .rfl
 .split
  .rfl
  .split
   .rfl
   .split
    .rfl
    .split<;>rfl
def c_ropen:∀n,∀m,m<=n->OpenG m:=by
 intro n
 induction n with
 |zero=>intro m C r s _ h;omega
 |succ n ih=>
  intro m C r s h E;cases m with
  |zero=>omega
  |succ m=>
  have A:=WF r s.a h;have j:=h.visit s.a;have g:=jO r s.a;have i:=li r s.a;rw [zm]
  have z:RPt Tryz.prog 185 6 (ci (uU (m+1) (wX m<|zd r s.a) s).1) (oRd' (uU (m+1) (wX m<|zd r s.a) s).2) 1 (stOp (zd r s.a).2 s (zd r s.a).1.1 (zd r s.a).1.2):=by
   by_cases q:(zd r s.a).2.e=0
   .have F:=g.2 q;exact pQ (m+1) s m (λk D=>ih k<|by omega) (zd r s.a).1.1 (zd r s.a).1.2 (zd r s.a).2 j (by omega) (by omega)
   .have o:wX m (zd r s.a)=zd r s.a:=by
     cases m with
     |zero=>rfl
     |succ m=>rw [wX,r8 λw=>q w.1]
    rw [o];have p:=J5 (m+1) (zd r s.a).2 s (zd r s.a).1.1 (zd r s.a).1.2 j (by have:=g.1;omega);refine rpv (gO ..) ?_;exact zl (λw=>absurd w q) λ_=>p
  generalize zd r s.a=v at*
  let ⟨⟨f,u⟩,⟨vs,x,y⟩⟩:=v
  dsimp only at i;subst i;refine acv (v185 ..) ?_;exact ⟨(f.t,f.a,f.b,f.c,f.d,u,x,y),A,z⟩
def zn (l):(IR l).length=l.length:=by simp [IR]
def w9 {l i}(h:i<l.length):List.getD (IR l) i []=[.int .i64 l[i]]:=by simp [IR,List.getD,h]
def qIR_app (a b):IR (a++b)=IR a++IR b:=by simp [IR]
def W5 (n l):List.take n (IR l)=IR (l.take n):=by simp [IR,t9]
def lG (i l x):List.set (IR l) i [.int .i64 x]=IR (l.set i x):=by simp [IR,tO]
def dx (A x y)(B:List Int):(A++x::B).set A.length y=A++y::B:=by simp
def Wv (A x B):List.getD (IR<|A++x::B) A.length []=[.int .i64 x]:=by
 rw [w9<|by simp];simp
def l_revi (n)(L:n<=1073741824):∀(k) (m A Z),m.length<=k->A.length+m.length<=n->
  RPt Tryz.prog 188 1 (.tup []) [.arz 1<|IR<|A++m.reverse++Z] 1 ⟨[(0, .c<|.a<|.osl 0 1 0 n),(2,ci A.length),(3,ci<|A.length+m.length-1)],[(0, .arz 1<|IR<|A++m++Z)],1⟩:=by
 intro k
 induction k with
 |zero=>
  intro m A Z j _;have:m=[]:=ru (by omega);subst this;refine rpv (qv ..) ?_;exact bF (by simp [rv];omega) rrl
 |succ k ih=>
  intro m A Z j w;by_cases g:m.length<=1
  .have e:m.reverse=m:=by
    match m,g with
    |[],_=>rfl
    |[x],_=>rfl
   rw [e];refine rpv (qv ..) ?_;exact bF (by omega) rrl
  .obtain ⟨x,d,rfl⟩:∃x d,m=x::d:=by
    cases m with
    |nil=>simp at g
    |cons x d=>exact ⟨x,d,rfl⟩
   obtain ⟨b,y,rfl⟩:∃b y,d=b++ [y]:=by
    have:d ≠ []:=λe=>by rw [e] at g;simp at g
    exact ⟨d.dropLast,d.getLast this,(List.dropLast_concat_getLast this).symm⟩
   simp [r6,re,rv] at j w;have nx:=ih b (A++ [y]) (x::Z) (by omega) (by simp;omega);have i:A++(x::(b++ [y]))++Z=A++x::(b++y::Z):=by simp
   have J:A++(x::(b++ [y]))++Z=(A++x::b)++y::Z:=by simp
   have v:(A++y::b)++y::Z=A++y::(b++y::Z):=by simp
   have l1:(A++x::b).length=A.length+b.length+1:=by simp;omega
   have f:(A++y::b).length=A.length+b.length+1:=by simp;omega
   have t2:Int.toNat (A.length:Int)=A.length:=by omega
   have t3:Int.toNat ((A.length:Int)+(((x::(b++ [y])).length:Nat):Int)-1)=A.length+b.length+1:=by simp [r6,re,rv];omega
   have z:List.getD (IR<|A++(x::(b++ [y]))++Z) (0+A.length) []=[.int .i64 x]:=by rw [rD,i,Wv]
   have G:List.getD (IR<|A++(x::(b++ [y]))++Z) (0+(A.length+b.length+1)) []=[.int .i64 y]:=by rw [rD,J,<-l1,Wv]
   have r:List.set (IR<|A++(x::(b++ [y]))++Z) (0+A.length) [.int .i64 y]=IR ((A++y::b)++y::Z):=by rw [rD,i,lG,dx,v]
   have H:List.set (IR<|(A++y::b)++y::Z) (0+(A.length+b.length+1)) [.int .i64 x]=IR ((A++y::b)++x::Z):=by rw [rD,lG,<-f,dx]
   have p:(IR<|A++(x::(b++ [y]))++Z).length=A.length+b.length+2+Z.length:=by rw [zn];simp;omega
   have len1:(IR<|(A++y::b)++y::Z).length=A.length+b.length+2+Z.length:=by rw [zn];simp;omega
   have K:(List.getD (IR<|(A++y::b)++y::Z) (0+(A.length+b.length+1)) []).length=1:=by rw [rD,<-f,Wv];rfl
   refine rpv (qv ..) ?_;rw [t2,t3,z,G];have u:FV.I (List.getD [.int .i64 x] 0 FV.N)=x:=rfl;have D:FV.I (List.getD [.int .i64 y] 0 FV.N)=y:=rfl;rw [u,D,r,H,w64 (x:=(A.length:Int)+1) (by omega)<|by omega,w64 (x:=A.length+(((x::(b++ [y])).length))-1-1) (by simp [r6,re,rv];omega)<|by simp [r6,re,rv];omega];have C:A++(x::(b++ [y])).reverse++Z=A++ [y]++b.reverse++(x::Z):=by simp
   rw [C];have F:A++ [y]++b++(x::Z)=(A++y::b)++x::Z:=by simp
   rw [F] at nx;have E:(((A++ [y]).length:Nat):Int)=(A.length:Int)+1:=by simp
   have I:(((A++ [y]).length))+b.length-1=A.length+(((x::(b++ [y])).length:Nat):Int)-1-1:=by simp [r6,re,rv];omega
   rw [I,E] at nx;have o:(0:Int)<=(A.length:Int)+(((x::(b++ [y])).length:Nat):Int)-1/\(A.length:Int)+(((x::(b++ [y])).length:Nat):Int)-1<(n:Int):=by simp [r6,re,rv];omega
   exact za (λ_=>⟨o,⟨by omega,rfl,rfl⟩,⟨by omega,by omega⟩,⟨by omega,rfl,rfl⟩,⟨by omega,by omega⟩,⟨by omega,rfl⟩,o,⟨by omega,K⟩,nx⟩) (λh=>absurd (rg h)<|by simp [r6,re,rv];omega)
def c_revi (b n)(d:n<=b.length)(f:n<=1073741824):AC Tryz.prog 188 [.c<|.a<|.osl 0 1 0 n] [.arz 1<|IR b] (.tup []) [.arz 1<|IR<|(b.take n).reverse++b.drop n]:=by
 have l:=l_revi n f n (b.take n) [] (b.drop n) (by simp;omega) (by simp;omega);rw [s8,s8,List.take_append_drop,ry,sD d,rv] at l;refine acv (v188_i1 ..) ?_;rw [w64 (by omega)<|by omega];have e:(((0:Nat))+n-1)=(n:Int)-1:=by omega
 rw [e] at l;exact l
def c_revi0:AC Tryz.prog 188 [.c<|qf .N] [] (.tup []) []:=by
 have h:AC Tryz.prog 188 [.c<|qf<|.sl false 1 []] [] (.tup []) []:=by
  refine acv (v188 ..) ?_;refine ⟨rfl,rpv (v188_1a ..) ?_⟩;exact bF (by decide) rrl
 exact h.args ⟨le_c<|.N 1,trivial⟩
structure HdS where
 l:List Int
 b:Bool
 a:Int
 r:Rd
def headL:Nat->List Int->Bool->Int->Rd->HdS
 |0,l,b,a,r=>⟨l,b,a,r⟩
 |n+1,l,b,a,r=>
  if r.e≠0 then ⟨l,b,a,r⟩
  else if (zd r a).2.e≠0 then ⟨l,b,(zd r a).1.2,(zd r a).2⟩
  else if (zd r a).1.1.t=7 then headL n ((zd r a).1.1.b::l) b (zd r a).1.1.a (zd r a).2
  else if (zd r a).1.1.t=8 then headL n l b (zm n (zd r a).2 (zd r a).1.1).1<|yi (zm n (zd r a).2 (zd r a).1.1).2 (zd r a).1.2 (zm n (zd r a).2 (zd r a).1.1).1
  else if (zd r a).1.1.t=6 then
   if l=[] then ⟨l,b,(zd r a).1.2,(zd r a).2⟩
   else headL n l.tail true (ug (zd r a).2 (zd r a).1.1.a<|l.headD 0).1 (ug (zd r a).2 (zd r a).1.1.a<|l.headD 0).2
  else ⟨l,b,(zd r a).1.2,(zd r a).2⟩
def vT:List Int->Int->Rd->Int×Rd
 |[],f,r=>(f,r)
 |x::l,f,r=>vT l (putR r ⟨7,f,x,0,0⟩).1 (putR r ⟨7,f,x,0,0⟩).2
def uS (root:Int)(h:HdS):=
 ((h.a,h.l),if h.b=true then yi (vT h.l h.a h.r).2 (xA (vT h.l h.a h.r).2.s.C root) (vT h.l h.a h.r).1 else h.r)
def zR (n:Nat)(r:Rd)(root:Int):=uS root<|headL n [] false root r
def OkR.apps:∀(l) (f) {r},OkR r->OkR (vT l f r).2
 |[],_,_,h=>h
 |x::l,f,r,h=>by rw [vT];exact OkR.apps l _<|h.put _
def OkR.headL:∀(n) (l) (b) (a) {r},OkR r->OkR (Go.AM.headL n l b a r).r
 |0,_,_,_,_,h=>h
 |n+1,l,b,a,r,h=>by
  have v:=h.visit a;rw [Go.AM.headL];split
  .exact h
  .split
   .exact v
   .split
    .exact OkR.headL n _ _ _ v
    .split
     .exact OkR.headL n _ _ _<|(OkR.open _ _ v).keep _ _
     .split
      .split
       .exact v
       .exact OkR.headL n _ _ _<|v.beta _ _
      .exact v
def OkR.head (n){r}(b)(h:OkR r):OkR (zR n r b).2:=by
 have d:=OkR.headL n [] false b h;show OkR (if _ then _ else _)
 split
 .exact (OkR.apps _ _ d).keep _ _
 .exact d
abbrev aSpn (x:Int×List Int):TV:= .agg [qi x.1,qf<|.sl false 1<|IR x.2]
abbrev hpH (r:Rd)(z:Int)(more:List<|Nat×AObj):AHeap:=[(0,rd3 1 r),(1,hp6 6 7 8 5 r.s),(2, .gone),(3, .gone),(4, .gone),(5, .mapz<|NM r.s.N 0),(6, .arz 5<|CR r.s.C),(7, .arz 7<|TR r.s.T),(8, .arz 1<|NR r.s.N),(9, .arr 2 [[qi z,qf .N]])]++more
abbrev stA (r:Rd)(root a z:Int)(b:Bool):St:=⟨[(0,aRd),(1,ci root),(4, .c<|.a<|.ep 9 2 0 0),(5, .c<|qf .N),(6,cb b),(7,ci a)],hpH r z [],10⟩
abbrev stB (r:Rd)(root a z:Int)(b:Bool)(n:Nat)(js:List Int):St:=⟨[(0,aRd),(1,ci root),(4, .c<|.a<|.ep 9 2 0 0),(5, .c<|.a<|.osl 10 1 0 n),(6,cb b),(7,ci a)],hpH r z [(10, .arz 1<|IR js)],11⟩
def JE (d h z e i)(g:i.take e.length=e)(u:e.length<=1073741824):∀(l b) (f) (r),e=b++l->OkR r->
  RPt Tryz.prog 157 6 (aSpn (h,e)) (oRd'<|yi (vT l f r).2 (xA (vT l f r).2.s.C d) (vT l f r).1) 7
   ⟨[(0,aRd),(1,ci d),(4, .c<|.a<|.ep 9 2 0 0),(5, .c<|.a<|.osl 10 1 0 e.length),(7,ci h),(10,ci f),(81, .c<|.a<|.osl 10 1 0 e.length),(82,ci e.length),(83,ci b.length)],hpH r z [(10, .arz 1<|IR i)],11⟩
 |[],b,f,r,j,ok=>by
  have hd:=XP r.s (by have:=ok.h.C;omega) d;have w:=WU r (xA r.s.C d) f ok;rw [rF] at j
  have p:e.length<=i.length:=by
   have:=si List.length g;rw [ry] at this;omega
  refine rpv (pL ..) ?_;refine bF (by rw [j];omega) ⟨_,hd,_,w,⟨rfl,by rw [zn];omega⟩, ?_,rfl⟩;rw [rR,W5,g];exact .refl _
 |x::l,b,f,r,j,ok=>by
  have y:=vg r ⟨7,f,x,0,0⟩ ok;have nx:=JE d h z e i g u l (b++ [x]) (putR r ⟨7,f,x,0,0⟩).1 (putR r ⟨7,f,x,0,0⟩).2 (by rw [j];simp)<|ok.put _
  have v:e.length=b.length+(l.length+1):=by rw [j];simp
  have p:e.length<=i.length:=by
   have:=si List.length g;rw [ry] at this;omega
  have A:List.getD (IR i) (0+Int.toNat b.length) []=[.int .i64 x]:=by
   rw [rD,show Int.toNat b.length=b.length by omega];have o:(i.take e.length)[b.length]? =some x:=by rw [g,j];simp
   rw [tL<|by omega] at o;have m:b.length<i.length:=by omega
   rw [rj m] at o;injection o with o
   rw [w9 m,o]
  rw [show (((b++ [x]).length))=b.length+1 by simp] at nx;refine rpv (pL ..) ?_;rw [A,w64 (x:=b.length+1) (by omega)<|by omega];exact za (λ_=>⟨⟨by omega,by omega⟩,⟨by rw [zn];omega,rfl,rfl⟩,_,y,nx⟩) (λq=>absurd (rg q)<|by omega)
def aF (d z l e)(f:e.take l.length=l.reverse)(h:l.length<=1073741824)(b a r)(ok:OkR r):
  RPt Tryz.prog 157 6 (aSpn (uS d ⟨l,b,a,r⟩).1) (oRd' (uS d ⟨l,b,a,r⟩).2) 36 (stB r d a z b l.length e):=by
 have g:l.length<=e.length:=by
  have:=si List.length f;rw [ry,tu] at this;omega
 have i:=c_revi e l.length g h;rw [f,List.reverse_reverse] at i;have e0:uS d ⟨l,b,a,r⟩=((a,l),if b=true then yi (vT l a r).2 _ (vT l a r).1 else r):=rfl
 rw [e0];have nx:=JE d a z l (l++e.drop l.length) (List.take_left ..) h l [] a r rfl ok;refine rpv (v157_36b ..) ?_;refine ⟨_,i,za (λq=> ?_) λq=>⟨⟨rfl,by rw [zn,re];omega⟩, ?_, ?_⟩⟩
 .rw [ri<|q];exact nx
 .rw [rR,W5,List.take_left];exact .refl _
 .rw [r8<|by rw [show b=false from q];decide]
def aS (d z b a r)(ok:OkR r):
  RPt Tryz.prog 157 6 (aSpn (uS d ⟨[],b,a,r⟩).1) (oRd' (uS d ⟨[],b,a,r⟩).2) 36 (stA r d a z b):=by
 have hd:=XP r.s (by have:=ok.h.C;omega) d;have f:=WU r (xA r.s.C d) a ok;have e0:uS d ⟨[],b,a,r⟩=((a,[]),if b=true then yi r _ a else r):=rfl
 rw [e0];have e:=le_agg (a:=[.int .i64 a, .N]) (b:=[.int .i64 a, .sl false 1 _]) ⟨.refl _, .N 1,trivial⟩;refine rpv (v157_36a ..) ?_;refine ⟨[],c_revi0,za (λq=>⟨rfl, ?_⟩) λq=>⟨e, ?_⟩⟩
 .rw [ri<|q];refine rpv (v157_7a ..) ?_;exact bF (by decide) ⟨_,hd,_,f,e,rfl⟩
 .rw [r8<|by rw [show b=false from q];decide]
def beta_f (r b x):(ug r b x).2.f=r.f:=by simp [ug,Jb]
def XQ (j z):∀(n) (l) (b) (a) (r),OkR r->2*r.f.toNat+2<=n->l.length+r.f.toNat<=1000000000->
  (l=[]->RPt Tryz.prog 157 6 (aSpn (uS j<|headL n l b a r).1) (oRd' (uS j<|headL n l b a r).2) 1 (stA r j a z b))/\
  ∀p,p.take l.length=l.reverse->RPt Tryz.prog 157 6 (aSpn (uS j<|headL n l b a r).1) (oRd' (uS j<|headL n l b a r).2) 1 (stB r j a z b l.length p)
 |0,_,_,_,_,_,h,_=>absurd h (by omega)
 |n+1,l,b,a,r,ok,hn,T=>by
  have A:=WF r a ok;have E:=ok.visit a;have K:=jO r a;have vs:=li r a
  have e0:headL (n+1) l b a r=if r.e≠0 then ⟨l,b,a,r⟩
   else if (zd r a).2.e≠0 then ⟨l,b,(zd r a).1.2,(zd r a).2⟩
   else if (zd r a).1.1.t=7 then headL n ((zd r a).1.1.b::l) b (zd r a).1.1.a (zd r a).2
   else if (zd r a).1.1.t=8 then headL n l b (zm n (zd r a).2 (zd r a).1.1).1<|yi (zm n (zd r a).2 (zd r a).1.1).2 (zd r a).1.2 (zm n (zd r a).2 (zd r a).1.1).1
   else if (zd r a).1.1.t=6 then
    if l=[] then ⟨l,b,(zd r a).1.2,(zd r a).2⟩
    else headL n l.tail true (ug (zd r a).2 (zd r a).1.1.a _).1 (ug (zd r a).2 (zd r a).1.1.a _).2
   else ⟨l,b,(zd r a).1.2,(zd r a).2⟩:=rfl
  generalize Z:zd r a=v at*
  let ⟨⟨c,t⟩,⟨vs',i,g⟩⟩:=v
  dsimp only at vs K e0 E A;subst vs
  have fin:∀(l) b a r,OkR r->l.length<=1000000000->headL (n+1) l b a r=headL (n+1) l b a r->
   (l=[]->RPt Tryz.prog 157 6 (aSpn (uS j ⟨l,b,a,r⟩).1) (oRd' (uS j ⟨l,b,a,r⟩).2) 36 (stA r j a z b))/\(∀p,p.take l.length=l.reverse->RPt Tryz.prog 157 6 (aSpn (uS j ⟨l,b,a,r⟩).1) (oRd' (uS j ⟨l,b,a,r⟩).2) 36 (stB r j a z b l.length p)):=
   λl b a r ok T _=>⟨λe=>by subst e;exact aS j z b a r ok,λp m=>aF j z l p m (by omega) b a r ok⟩
  by_cases u:r.e=0
  .rw [r8 λw=>w u] at e0;have f1:=K.1;by_cases y:g=0
   .rw [r8 λw=>w y] at e0
    let ⟨f2,f3⟩:=K.2 y
    by_cases C:c.t=7
    .rw [ri C] at e0;have ih:=XQ j z n (c.b::l) b c.a ⟨r.s,i,g⟩ E (by dsimp only;omega) (by simp [r6];omega);rw [e0];refine ⟨λe=> ?_,λp m=> ?_⟩
     .subst e;have:=ih.2 [c.b] rfl;refine rpv (jR ..) ?_;exact zl (λ_=>⟨(c.t,c.a,c.b,c.c,c.d,t,i,g),A,zQ (λw=>absurd y w) λ_=>zl (λ_=>⟨r9 _,by simp only [zi];omega,this⟩) λw=>absurd C w⟩) λw=>absurd u w
     .have M:l.length<=p.length:=by
       have:=si List.length m;rw [ry,tu] at this;omega
      have:=ih.2 (p.take l.length++ [c.b]) (by rw [m,tG];exact rp<|by simp);have e9:IR (p.take l.length++ [c.b])=List.take l.length (IR p)++ [[.int .i64 c.b]]:=by rw [qIR_app,<-W5];rfl
      simp [stB,hpH] at this;rw [e9] at this;refine rpv (kG ..) ?_;exact zl (λ_=>⟨(c.t,c.a,c.b,c.c,c.d,t,i,g),A,zQ (λw=>absurd y w) λ_=>zl (λ_=>⟨r9 _,⟨by rw [zn];omega,by simp [zi];omega⟩,this⟩) λw=>absurd C w⟩) λw=>absurd u w
    .rw [r8 C] at e0;by_cases D:c.t=8
     .rw [ri D] at e0;have O:=c_ropen n n (r9 _) ⟨r.s,i,g⟩ c E (by dsimp only;omega);have V:=OkR.open n c E;have S:=WU (zm n ⟨r.s,i,g⟩ c).2 t (zm n ⟨r.s,i,g⟩ c).1 V;have Y:=cK n ⟨r.s,i,g⟩ c;have U:=KW (zm n ⟨r.s,i,g⟩ c).2 t (zm n ⟨r.s,i,g⟩ c).1;dsimp only at Y;have ih:=XQ j z n l b (zm n ⟨r.s,i,g⟩ c).1 (yi (zm n ⟨r.s,i,g⟩ c).2 t (zm n ⟨r.s,i,g⟩ c).1) (V.keep _ _) (by rw [U];omega) (by rw [U];omega);rw [e0];refine ⟨λe=> ?_,λp m=> ?_⟩
      .have:=ih.1 e;refine rpv (jR ..) ?_;exact zl (λ_=>⟨(c.t,c.a,c.b,c.c,c.d,t,i,g),A,zQ (λw=>absurd y w) λ_=>zl (λw=>absurd w C) λ_=>zl (λ_=>⟨_,O,_,S,this⟩) λw=>absurd D w⟩) λw=>absurd u w
      .have:=ih.2 p m;refine rpv (kG ..) ?_;exact zl (λ_=>⟨(c.t,c.a,c.b,c.c,c.d,t,i,g),A,zQ (λw=>absurd y w) λ_=>zl (λw=>absurd w C) λ_=>zl (λ_=>⟨_,O,_,S,this⟩) λw=>absurd D w⟩) λw=>absurd u w
     .rw [r8 D] at e0;have o:=fin l b t ⟨r.s,i,g⟩ E (by omega) rfl;by_cases G:c.t=6
      .rw [ri G] at e0;by_cases J:l=[]
       .rw [ri J] at e0;rw [e0];refine ⟨λe=> ?_,λp m=> ?_⟩
        .have:=o.1 e;refine rpv (jR ..) ?_;exact zl (λ_=>⟨(c.t,c.a,c.b,c.c,c.d,t,i,g),A,zQ (λw=>absurd y w) λ_=>zl (λw=>absurd w C) λ_=>zl (λw=>absurd w D) λ_=>zl (λ_=>⟨rfl,this⟩) λw=>absurd G w⟩) λw=>absurd u w
        .have:=o.2 p m;refine rpv (kG ..) ?_;exact zl (λ_=>⟨(c.t,c.a,c.b,c.c,c.d,t,i,g),A,zQ (λw=>absurd y w) λ_=>zl (λw=>absurd w C) λ_=>zl (λw=>absurd w D) λ_=>zl (λ_=>bF (by rw [J];simp) this) λw=>absurd G w⟩) λw=>absurd u w
       .rw [r8 J] at e0
        obtain ⟨x,l',rfl⟩:∃x l',l=x::l':=by
         cases l with
         |nil=>exact absurd rfl J
         |cons x l'=>exact ⟨x,l',rfl⟩
        simp [r6] at T;have hb:=c_rbeta ⟨r.s,i,g⟩ c x E;have L:=beta_f ⟨r.s,i,g⟩ c.a x;dsimp only at L;have ih:=XQ j z n l' true (ug ⟨r.s,i,g⟩ c.a x).1 (ug ⟨r.s,i,g⟩ c.a x).2 (E.beta _ _) (by rw [L];omega) (by rw [L];omega);refine ⟨λe=>(by cases e),λp m=> ?_⟩;have X:=e0;rw [X]
        have M:l'.length+1<=p.length:=by
         have:=si List.length m;rw [ry,tu,r6] at this;omega
        have F:p.take l'.length=l'.reverse/\p[l'.length]? =some x:=by
         have W:p.take (l'.length+1)=l'.reverse++ [x]:=by rw [r6] at m;rw [m,tG]
         refine ⟨?_, ?_⟩
         .have:=si (List.take l'.length) W;rw [List.take_take,sD<|by omega,List.take_left'<|by simp] at this;exact this
         .have:(p.take<|l'.length+1)[l'.length]? =some x:=by rw [W];simp
          rwa [tL<|by omega] at this
        have:=ih.2 p F.1
        have N:wr ((((x::l').length))-1)=l'.length:=by
         rw [wr,w64 (by simp only [r6];omega)<|by simp [r6];omega];simp only [r6];omega
        have H:l'.length<p.length:=by omega
        have hg:List.getD (IR p) (0+Int.toNat l'.length) []=[.int .i64 x]:=by
         rw [rD,rt,w9 H];have I:=F.2;rw [rj H] at I;injection I with I
         rw [I]
        refine rpv (kG ..) ?_;have N:wrap .i64 ((((x::l').length))-1)=l'.length:=N;rw [N,hg];refine zl (λ_=>⟨(c.t,c.a,c.b,c.c,c.d,t,i,g),A,zQ (λw=>absurd y w) λ_=>zl (λw=>absurd w C) λ_=>zl (λw=>absurd w D) λ_=>zl (λ_=>za (λ_=> ?_) λw=>absurd (rg w)<|by simp only [r6];omega) λw=>absurd G w⟩) λw=>absurd u w;refine ⟨⟨by omega,by simp [r6];omega⟩,⟨by rw [zn,rt];omega,rfl,rfl⟩,ug ⟨r.s,i,g⟩ c.a x,hb,⟨by omega,by omega,by simp [r6];omega⟩, ?_⟩;rw [rt];exact this
      .rw [r8 G] at e0;rw [e0];refine ⟨λe=> ?_,λp m=> ?_⟩
       .have:=o.1 e;refine rpv (jR ..) ?_;exact zl (λ_=>⟨(c.t,c.a,c.b,c.c,c.d,t,i,g),A,zQ (λw=>absurd y w) λ_=>zl (λw=>absurd w C) λ_=>zl (λw=>absurd w D) λ_=>zl (λw=>absurd w G) λ_=>this⟩) λw=>absurd u w
       .have:=o.2 p m;refine rpv (kG ..) ?_;exact zl (λ_=>⟨(c.t,c.a,c.b,c.c,c.d,t,i,g),A,zQ (λw=>absurd y w) λ_=>zl (λw=>absurd w C) λ_=>zl (λw=>absurd w D) λ_=>zl (λw=>absurd w G) λ_=>this⟩) λw=>absurd u w
   .rw [ri y] at e0;have o:=fin l b t ⟨r.s,i,g⟩ E (by omega) rfl;rw [e0];refine ⟨λe=> ?_,λp m=> ?_⟩
    .have:=o.1 e;refine rpv (jR ..) ?_;exact zl (λ_=>⟨(c.t,c.a,c.b,c.c,c.d,t,i,g),A,zQ (λ_=>this) λw=>absurd w y⟩) λw=>absurd u w
    .have:=o.2 p m;refine rpv (kG ..) ?_;exact zl (λ_=>⟨(c.t,c.a,c.b,c.c,c.d,t,i,g),A,zQ (λ_=>this) λw=>absurd w y⟩) λw=>absurd u w
  .rw [ri u] at e0;have o:=fin l b a r ok (by omega) rfl;rw [e0];refine ⟨λe=> ?_,λp m=> ?_⟩
   .have:=o.1 e;refine rpv (jR ..) ?_;exact zl (λw=>absurd w u) λ_=>this
   .have:=o.2 p m;refine rpv (kG ..) ?_;exact zl (λw=>absurd w u) λ_=>this
def lH (n r b)(ok:OkR r)(d:2*r.f.toNat+2<=n)(e:r.f<=1000000000):AC Tryz.prog 157 [aRd,ci b] (oRd r) (aSpn (zR n r b).1) (oRd' (zR n r b).2):=by
 have h:=(XQ b 0 n [] false b r ok d<|by simp [rv];omega).1 rfl;unfold zR;refine acv (v157 ..) ?_;exact h
def jZ (t:Tm):FV:=if t.inner=true then .sl false 4 (FTs t.l) else .N
def lI (t):(jZ t).ses=FTs t.kids/\(jZ t).L 4=true:=by
 unfold jZ Tm.kids;split<;>exact ⟨rfl,rfl⟩
def bh (t):AC Tryz.prog 173 [aT t] [] (.tup [(false,[qf<|jZ t]),(false,[qi t.by])]) []:=by
 let ⟨k,s,n,l⟩:=t
 refine acv (v173 k s n (FTs l) _ _) ?_;refine za (λh=>⟨?_,rfl⟩) λh=>za (λe=>⟨?_,rfl⟩) λe=>⟨?_,rfl⟩
 .have d:jZ (.mk k s n l)= .sl false 4 (FTs l):=by unfold jZ Tm.inner;simp [Tm.k,h,sV,rC,Tm.l]
  have b:Tm.by (.mk k s n l)=1:=by unfold Tm.by;simp [Tm.k,h,rC]
  rw [d,b];exact .refl _
 .have d:jZ (.mk k s n l)= .sl false 4 (FTs l):=by unfold jZ Tm.inner;simp [Tm.k,e,tj,rC,Tm.l]
  have b:Tm.by (.mk k s n l)=0:=by unfold Tm.by;simp [Tm.k,h,rA,rI]
  rw [d,b];exact .refl _
 .have d:jZ (.mk k s n l)= .N:=by unfold jZ Tm.inner;simp [Tm.k,h,e,Bool.or_self,rA,rI]
  have b:Tm.by (.mk k s n l)=0:=by unfold Tm.by;simp [Tm.k,h,rA,rI]
  rw [d,b];exact .refl _
mutual
def bd (M:Int):Tm->Prop
 |.mk k _ n l=>(k=3->0-M<=n/\n<=M)/\bds M l
def bds (M:Int):List Tm->Prop
 |[]=>True
 |t::l=>bd M t/\bds M l
end
def vW {M}:∀ {l} {t},bds M l->t∈l->bd M t
 |x::l,t,h,ht=>by
  rcases rG.1 ht with rfl|ht
  .exact h.1
  .exact vW h.2 ht
def bd_l {M t}(h:bd M t):bds M t.l:=by cases t;exact h.2
def maxI (a b:Int):=if a<=b then b else a
def Z6 (a b):zp [a,b]=maxI a b:=by
 simp [zp,List.foldl,maxI,max,maxOfLe]
mutual
def wb:Tm->Int->Int->Int
 |.mk kd _ n l,k,acc=>if (kd==5)=true then qP l (k+1) acc else if (kd==6)=true then qP l k acc else if (kd==3)=true then maxI acc (n-k+1) else acc
def qP:List Tm->Int->Int->Int
 |[],_,acc=>acc
 |t::l,k,acc=>qP l k<|wb t k acc
end
abbrev obj1 (n:Int):AObj:= .arr 1 [[qi n]]
def c_loose1 (u k acc)(b:u.k=3->0-2305843009213693952<=u.n/\u.n<=2305843009213693952)(f:0<=k)(g:k<=2305843009213693952):
  AC Tryz.prog 136 [aT u,ci k, .c<|.a<|.ep 0 1 0 0] [obj1 acc] (.tup []) [obj1 (if (u.k==3)=true then maxI acc (u.n-k+1) else acc)]:=by
 let ⟨d,s,n,l⟩:=u
 simp [Tm.k,Tm.n] at b;refine acv (v136 d s n _ k acc _ _) ?_;refine za (λh=>⟨.refl _, ?_⟩) λh=>⟨.refl _, ?_⟩
 .have e:d=3:=by simpa using h
  have:=b e;rw [w64 (x:=n-k) (by omega)<|by omega,w64 (x:=n-k+1) (by omega)<|by omega,Z6];simp [Tm.k,Tm.n,h,rC]
 .simp [Tm.k,h,rA,rI]
abbrev tellL:TV:= .c<|.fn (.func 136) [] [(false,[.ep 0 1 0 0])]
def l_each (k by_)(p:0<=k)(i:0<=by_)(d:by_<=1):∀(b a) (v) (acc),v.ses=FTs (a++b)->v.L 4=true->
  (∀u∈b,∀acc,AC Tryz.prog 135 [aT u,ci<|k+by_,tellL] [obj1 acc] (.tup []) [obj1<|wb u (k+by_) acc])->(a++b).length<=B->k<=2305843009213693952->
  RPt Tryz.prog 135 1 (.tup []) [obj1<|qP b (k+by_) acc] 1 ⟨[(1,ci k),(2,tellL),(7,ci by_),(27, .c<|qf v),(28,ci (a++b).length),(29,ci a.length)],[(0,obj1 acc)],1⟩
 |[],a,v,acc,f,g,_,e,j=>by
  refine rpv (qH ..) ?_;exact bF (by simp) rrl
 |t::b,a,v,acc,f,g,ih,e,j=>by
  refine rpv (qH ..) ?_;have h:=e;simp [re,r6,B] at h;have r:=ih t rn acc;have m:=l_each k by_ p i d b _ v (wb t (k+by_) acc) (by rw [ap];exact f) g (λu o=>ih u<|rh _ o) (by rw [ap];exact e) j;have w:=ltI' a t b;rw [ap,nx] at m;rw [f,midI,w64 (x:=a.length+1) (by omega)<|by omega,w64 (x:=k+by_) (by omega)<|by omega];refine bT (ltI a t b)<|?_
  let ⟨z,A,y,l'⟩:=t
  exact ⟨⟨g,by omega,w,rfl⟩, .inl ⟨_,r,m⟩⟩
def c_each:∀t,t.sz<=B->bd 2305843009213693952 t->∀k acc:Int,0<=k->k+t.sz<=2305843009213693952->AC Tryz.prog 135 [aT t,ci k,tellL] [obj1 acc] (.tup []) [obj1<|wb t k acc]:=by
 refine Tm.ind λt ih y w k acc v z=> ?_;have x:=bh t;have f:=lI t;have i:=Tm.szs_length t.l
 let ⟨b,s,n,l⟩:=t
 simp [Tm.sz,B,Tm.l] at y i;simp [Tm.sz] at z
 have key:∀by_,0<=by_->by_<=1->Tm.kids (.mk b s n l)=l->RPt Tryz.prog 135 1 (.tup []) [obj1<|qP l (k+by_) acc] 1 ⟨[(1,ci k),(2,tellL),(7,ci by_),(27, .c<|qf<|jZ<|.mk b s n l),(28,ci l.length),(29,ci 0)],[(0,obj1 acc)],1⟩:=by
  intro by_ o p e;have:=l_each k by_ v o p l [] (jZ<|.mk b s n l) acc (by rw [f.1,e];rfl) f.2 (λu j acc=>ih u j (by have:=Tm.szs_mem j;simp [B];omega) (vW w.2 j) (k+by_) acc (by omega)<|by have:=Tm.szs_mem j;omega) (by simp [s8,B];omega) (by omega);simpa using this
 refine acv (po b s n (FTs l) k acc _ _) ?_;refine za (λh=>za (λr=>⟨_,c_loose1 (.mk b s n l) k acc w.1 v<|by omega, .refl _, ?_⟩) λr=>⟨_,_,x,f.2, ?_⟩) λh=>⟨_,_,x,f.2, ?_⟩
 .have d:(b==5)=false:=by simpa using h
  have m:(b==6)=false:=by simpa using r
  simp only [wb,Tm.k,Tm.n,d,m,rA,rI];rfl
 .have d:(b==5)=false:=by simpa using h
  have m:(b==6)=true:=by simpa using r
  have g:Tm.kids (.mk b s n l)=l:=by unfold Tm.kids Tm.inner;simp [Tm.k,m,tj,rC,Tm.l]
  have:=key 0 (by omega) (by omega) g;rw [f.1,g,lenI,show Tm.by (.mk b s n l)=0 by unfold Tm.by;simp [Tm.k,d,rA,rI]];simp [wb,d,m,rA,rI,rC];simpa using this
 .have d:(b==5)=true:=by simpa using h
  have g:Tm.kids (.mk b s n l)=l:=by unfold Tm.kids Tm.inner;simp [Tm.k,d,sV,rC,Tm.l]
  have:=key 1 (by omega) (by omega) g;rw [f.1,g,lenI,show Tm.by (.mk b s n l)=1 by unfold Tm.by;simp [Tm.k,d,rC]];simp [wb,d,rC];exact this
def c_loose (t)(b:t.sz<=B)(d:bd 2305843009213693952 t):AC Tryz.prog 95 [aT t] [] (ci<|wb t 0 0) []:=by
 have h:=c_each t b d 0 0 (rk _) (by simp [B] at b;omega);refine acv (v95 ..) ?_;exact .inl ⟨_,h,xG rfl⟩
def c_grow (n)(d:0<=n)(e:n<=2199023255552):(n=0->AC Tryz.prog 58 [.c<|qf .N,ci n] [] (.c<|qf .N) [])/\
  (n≠0->AC Tryz.prog 58 [.c<|qf .N,ci n] [] (.c<|.a<|.osl 0 4 0 0) [.arz 4 []]):=by
 constructor
 .intro b;refine acv (v58 ..) ?_;refine bF (by omega) ⟨rfl,za (λh=> ?_) λ_=>Wz<|.refl _⟩;rw [w64 (by omega)<|by omega] at h;exact absurd (ro h) (by omega)
 .intro b;refine acv (v58 ..) ?_;rw [w64 (by omega)<|by omega];refine bF (by omega) ⟨rfl,za (λh=>⟨rfl,⟨by omega,by omega,by omega⟩,⟨by omega,by unfold zi;omega⟩,rfl,⟨by omega,by omega,by omega⟩, .refl _,rfl⟩) λh=>absurd (rg h)<|by omega⟩
def FLs (ls:List<|List Tm):List (List FV):=ls.map λl=> [.sl false 4<|FTs l]
def wn (ls:List<|List Tm):=(ls.map List.length).foldr (· + ·) 0
def jW (ls):(FLs ls).length=ls.length:=by simp [FLs]
def midL (a l b):List.getD (FLs<|a++l::b) (Int.toNat a.length) []=[.sl false 4<|FTs l]:=by
 rw [show Int.toNat a.length=a.length by omega];simp [List.getD,FLs]
def ltL (a t b):a.length<(((FLs<|a++t::b).length):Int):=by rw [jW];exact ltI a t b
def Jv (a l b):wn (a++l::b)=wn a+l.length+wn b:=by
 induction a with
 |nil=>simp [wn]
 |cons x a ih=>simp [wn,sL,rW,List.foldr_cons] at ih ⊢;omega
def ab (a l):wn (a++ [l])=wn a+l.length:=by rw [Jv];simp [wn]
abbrev aLs (ls:List<|List Tm):TV:= .c<|qf<|.sl false 1<|FLs ls
def vk {n}(h:n<=2199023255552):zi n 56:=by unfold zi;omega
def mc:∀(b a) (acc),acc.length+wn b<=2199023255552->(a++b).length<=B->
  RPt Tryz.prog 28 0 (aL<|acc++b.flatten) [] 5 ⟨[(6, .c<|.a<|.osl 0 4 0 acc.length),(25,aLs<|a++b),(26,ci (a++b).length),(27,ci a.length)],[(0, .arz 4<|FTs acc)],1⟩
 |[],a,acc,f,d=>by
  refine rpv (v28_5b ..) ?_;refine bF (by simp) ⟨⟨rfl,by rw [zb];omega⟩,Wz ?_⟩;rw [rR,rp<|by rw [zb];omega,List.flatten_nil,rF];exact le_c leSl
 |l::b,a,acc,f,d=>by
  refine rpv (v28_5b ..) ?_;have e:=d;have i:=ltL a l b;simp [re,r6,B] at e;have h:acc.length+(l.length+wn b)<=2199023255552:=by simpa [wn] using f
  have g:=mc b _ (acc++l) (by rw [re];omega) (by rw [ap];exact d);rw [ap,nx] at g;rw [midL,w64 (by omega)<|by omega];refine bT (ltI a l b) ⟨⟨rfl,by omega,i,rfl⟩,rfl,⟨by rw [zb];omega, ?_⟩, ?_⟩
  .show zi (acc.length+(FTs l).length) 56;rw [zb];exact vk (by omega)
  .show RPt _ _ _ _ _ _ ⟨[(6,(.c<|.a<|.osl 0 4 0<|acc.length+(FTs l).length)),_,_,_],[(0, .arz 4<|List.take acc.length (FTs acc)++FTs l)],1⟩;rw [rp<|by rw [zb];omega,<-yA,zb,<-re];rw [show acc++(l::b).flatten=acc++l++b.flatten by simp];exact g
def l_cat2:∀(b a),wn b<=2199023255552->(a++b).length<=B->
  RPt Tryz.prog 28 0 (aL b.flatten) [] 5 ⟨[(6, .c<|qf .N),(25,aLs<|a++b),(26,ci (a++b).length),(27,ci a.length)],[],0⟩
 |[],a,h,f=>by
  refine rpv (v28_5a ..) ?_;refine bF (by simp)<|Wz<|le_c xL
 |l::b,a,h,f=>by
  refine rpv (v28_5a ..) ?_;have g:=f;have m:=ltL a l b;simp [re,r6,B] at g;have j:l.length+wn b<=2199023255552:=by simpa [wn] using h
  rw [midL,w64 (by omega)<|by omega];refine bT (ltI a l b) ⟨⟨rfl,by omega,m,rfl⟩,rfl, ?_⟩;show br (List.isEmpty<|FTs l) _ _;refine za (λi=> ?_) λi=>⟨?_, ?_⟩
  .have e:=l_cat2 b (a++ [l]) (by omega) (by rw [ap];exact f);rw [ap,nx] at e
   have d:l=[]:=by cases l with
    |nil=>rfl
    |cons x l=>simp [FTs] at i
   rw [show (l::b).flatten=b.flatten by rw [d];simp];exact e
  .show zi (FTs l).length 56;rw [zb];exact vk (by omega)
  .have e:=mc b (a++ [l]) l (by omega) (by rw [ap];exact f);rw [ap,nx] at e;show RPt _ _ _ _ _ _ ⟨[(6,(.c<|.a<|.osl 0 4 0 (FTs l).length)),_,_,_],[(0, .arz 4<|FTs l)],1⟩;rw [zb,List.flatten_cons];exact e
def l_cat1:∀(b a),wn (a++b)<=2199023255552->(a++b).length<=B->
  RPt Tryz.prog 28 0 (aL (a++b).flatten) [] 1 ⟨[(0,aLs<|a++b),(3,ci<|wn a),(9,aLs<|a++b),(10,ci (a++b).length),(11,ci a.length)],[],0⟩
 |[],a,d,g=>by
  refine rpv (v28_1a ..) ?_;have j:=c_grow (wn a) (by omega) (by simp [rF] at d;omega);refine bF (by simp)<|?_
  have e:(((FLs<|a++ []).length))=(((a++ []).length)):=by rw [jW]
  rw [e];by_cases o:wn a=0
  .have f:=l_cat2 _ [] (by simpa using d) (by simpa using g);exact .inl ⟨(),j.1<|by omega,rfl,by simpa using f⟩
  .have f:=mc _ [] [] (by simpa using d) (by simpa using g);exact .inr ⟨(),j.2<|by omega,rfl,by simpa [FTs] using f⟩
 |l::b,a,d,g=>by
  refine rpv (v28_1a ..) ?_;have i:=g;have h:=d;have m:=ltL a l b;rw [Jv] at h;simp [re,r6,B] at i;have f:=l_cat1 b (a++ [l]) (by rw [ap];exact d) (by rw [ap];exact g);rw [ap,nx,ab] at f;rw [midL,w64 (x:=a.length+1) (by omega)<|by omega];refine bT (ltI a l b) ⟨⟨rfl,by omega,m,rfl⟩,rfl, ?_⟩;show br (decide (wrap .i64 ((wn a)+(((FTs l).length)))<0)) _<|RPt _ _ _ _ _ _ ⟨[_,(3,ci<|wrap .i64<|(wn a)+(((FTs l).length))),_,_,_],_,_⟩
  rw [zb,w64 (by omega)<|by omega];refine bF (by omega)<|?_
  simpa using f
def c_concat (ls)(b:wn ls<=2199023255552)(d:ls.length<=B):AC Tryz.prog 28 [aLs ls] [] (aL ls.flatten) []:=by
 refine acv (v28 ..) ?_;have:=l_cat1 ls [] (by simpa using b) (by simpa using d);have e:(((FLs ls).length))=(ls.length):=by rw [jW]
 rw [e];exact ⟨rfl,by simpa [wn] using this⟩
def Zu {x y:FV}{l m:List Tm}(u:FV.Le x<|.sl false 4<|FTs l)(v:FV.Le y<|.sl false 4<|FTs m)(r:l.length+m.length<=2199023255552):AC Tryz.prog 28 [.c<|qf<|.sl false 1 [[x],[y]]] [] (aL<|l++m) []:=by
 have h:=c_concat [l,m] (by simpa [wn] using r) (by simp [B]);rw [show [l,m].flatten=l++m by simp] at h;refine h.args ⟨le_c<|.trans _ _ _ (.rows false 1 _ (FLs [l,m]) rfl (λi e p g b=> ?_) λi j e p f f' g b o d=> ?_)<|.nn _ _ _,trivial⟩
 .match i,g,b with
  |0,g,b=>simp [FLs] at g b;subst g;subst b;rfl
  |1,g,b=>simp [FLs] at g b;subst g;subst b;rfl
  |i+2,g,b=>simp at g
 .match i,g,b with
  |0,g,b=>
   simp [FLs] at g b;subst g;subst b
   match j,o,d with
   |0,o,d=>simp at o d;subst o;subst d;exact u
   |j+1,o,d=>simp at o
  |1,g,b=>
   simp [FLs] at g b;subst g;subst b
   match j,o,d with
   |0,o,d=>simp at o d;subst o;subst d;exact v
   |j+1,o,d=>simp at o
  |i+2,g,b=>simp at g
def zt (f:Tm)(args:List Tm):Tm:=
 match args with
 |[]=>f
 |_=>if (f.k==6)=true/\f.l ≠ [] then .mk 6 [] 0 (f.l++args) else .mk 6 [] 0<|f::args
def vI (f args)(h:f.l.length+args.length<2199023255552):AC Tryz.prog 11 [aT f,aL args] [] (aT<|zt f args) []:=by
 let ⟨k,s,n,l⟩:=f
 simp [Tm.l] at h;refine acv (v11 k s n (FTs l) (FTs args) _ _) ?_;refine ⟨rfl,za (λd=> ?_) λd=> ?_⟩
 .have:args=[]:=by cases args with
   |nil=>rfl
   |cons x l=>simp [FTs] at d;omega
  subst this;exact Wz<|.refl _
 .match args,d,h with
  |[],d,_=>simp [FTs] at d
  |a::r,d,h=>
   have g:FV.Le (.sl false 4 [[.int .i64 k, .str s, .int .i64 n, .sl false 4<|FTs l]]) (.sl false 4<|FTs [.mk k s n l]):= .nn _ _ _;have b:∀l,FV.Le (.sl false 4<|FTs l) (.sl false 4<|FTs l):=λ_=> .refl _
   refine za (λj=>⟨rfl,za (λi=>⟨⟨rfl,by omega⟩,_,Zu (b l) (b<|a::r)<|by omega,Wz ?_⟩) λi=>⟨⟨rfl,by omega⟩,⟨rfl,by omega⟩,_,Zu g (b<|a::r)<|by simp [r6,rv] at h ⊢;omega,Wz ?_⟩⟩)
    (λj=>⟨⟨rfl,by omega⟩,⟨rfl,by omega⟩,_,Zu g (b<|a::r)<|by simp [r6,rv] at h ⊢;omega,Wz ?_⟩)
   .have m:l ≠ []:=by intro e;subst e;simp [FTs] at i
    rw [show zt (.mk k s n l) (a::r)= .mk 6 [] 0 (l++a::r) from ri ⟨j,m⟩];exact .refl _
   .have m:l=[]:=by cases l with
     |nil=>rfl
     |cons x l=>simp [FTs] at i
    rw [show zt (.mk k s n l) (a::r)= .mk 6 [] 0 (.mk k s n l::a::r) from r8 λe=>e.2 m];exact .refl _
   .rw [show zt (.mk k s n l) (a::r)= .mk 6 [] 0 (.mk k s n l::a::r) from r8 λe=>by have:=e.1;simp only [Tm.k,j] at this;cases this];exact .refl _
def vR (t:Tm)(out:List Tm):=
 if (t.k==6)=true/\1<out.length/\((out.headD default).k==6)=true/\((t.l.headD default).k !=6)=true then zt (out.headD default) out.tail else .mk t.k t.s t.n out
mutual
def yQ (lf:Tm->Int->Tm):Tm->Int->Tm
 |.mk k s n l,d=>if (k==5||k==6)=true then vR (.mk k s n l) (yy lf l<|d+if (k==5)=true then 1 else 0) else lf (.mk k s n l) d
def yy (lf:Tm->Int->Tm):List Tm->Int->List Tm
 |[],_=> []
 |t::l,d=>yQ lf t d::yy lf l d
end
abbrev cloSh:TV:= .agg [.fn (.func 179) [] [(false,[.ep 0 1 0 0]),(false,[.ep 1 1 0 0])]]
abbrev stSh (fr by1 k by_ kd:Int)(s:List UInt8)(n:Int)(l:List Tm)(w:AV)(i:Nat)(h:AHeap)(nx:Nat):St:=
 ⟨[(2,ci k),(3, .c<|.a<|.ep 2 1 0 0),(4, .c<|.a<|.ep 3 4 0 0),(6, .c<|.a<|.ep 4 4 0 0),(7,aL l),(8,ci by_),(9, .c<|.a w),(30,aL l),(31,ci l.length),(32,ci i)],
  [(0,obj1 fr),(1,obj1 by1),(2, .arr 1 [[.fn (.func 179) [] [(false,[.ep 0 1 0 0]),(false,[.ep 1 1 0 0])]]]),(3, .arr 4 [fzs<|FT<|.mk kd s n l]),(4, .arr 4 [[qi 0,qf<|.str [],qi 0,qf .N]])]++h,nx⟩
def l_w2Sh (fr m d k by_)(W:0<=k)(Z:k<=2305843009213693952)(N:0<=by_)(J:by_<=1)(kd s n)(O:(kd==5||kd==6)=true):
  ∀(b a acc),acc ≠ []->acc.length=a.length->(a++b).length<=B->(∀u∈acc++yy d b (k+by_),u.l.length<=2*B)->
  (∀u∈b,AC Tryz.prog 178 [cloSh,aT u,ci<|k+by_] [obj1 fr,obj1 m] (aT<|yQ d u<|k+by_) [obj1 fr,obj1 m])->
  RPt Tryz.prog 178 2 (aT<|vR (.mk kd s n<|a++b)<|acc++yy d b (k+by_)) [obj1 fr,obj1 m] 1 (stSh fr m k by_ kd s n (a++b) (.osl 5 4 0 acc.length) a.length [(5, .arz 4<|FTs acc)] 6)
 |[],a,acc,y,g,A,S,_=>by
  refine rpv (qK ..) ?_
  match acc,a,y,g with
  |o::r,u::v,_,g=>
  have e1:List.take (o::r).length (List.drop 0<|FTs<|o::r)=FTs (o::r):=by rw [rR,rp<|by rw [zb];omega]
  have D:(0:Nat)+(o::r).length<=(FTs<|o::r).length:=by rw [zb];omega
  have f:∀(h) j i,TV.Le (.agg [qi h,qf<|.str j,qi i,qf<|.sl false 4<|List.take (o::r).length<|List.drop 0<|FTs<|o::r]) (aT<|.mk h j i<|o::r):=λh j i=>by rw [e1];exact leT leSl
  refine bF (by simp)<|za (λI=>za (λw=>⟨⟨by omega,by simp⟩,⟨by rw [zb];simp,by cases o;rfl,rfl⟩,za (λL=>⟨⟨rfl,by omega,by rw [rF];show (0:Int)<(((FTs<|u::v).length:Nat):Int);rw [zb];simp,by cases u;rfl⟩,za (λz=> ?_) λz=>⟨⟨rfl,D⟩, ?_,rfl⟩⟩) λL=>⟨⟨rfl,D⟩, ?_,rfl⟩⟩) λw=>⟨⟨rfl,D⟩, ?_,rfl⟩) λI=>⟨⟨rfl,D⟩, ?_,rfl⟩
  .
   have G:=vI o r (by
    have:=S o (by simp);simp [r6,re,rv,B] at A g this ⊢;omega)
   have p:vR (.mk kd s n<|u::v++ []) (o::r++yy d [] (k+by_))=zt o r:=by
    have Y:1<(o::r++yy d [] (k+by_)).length:=by have:=ro w;simp only [yy,rF];omega
    have V:(o.k==6)=true:=by cases o;exact L
    have c3:(u.k !=6)=true:=by cases u;exact z
    unfold vR;rw [ri ⟨I,Y,V,c3⟩];simp [yy]
   have T:List.take (Int.toNat ((o::r).length:Int)-1) (List.drop 1<|FTs<|o::r)=FTs r:=by
    rw [show Int.toNat ((o::r).length:Int)-1=r.length by simp only [r6];omega];show List.take r.length (FTs r)=FTs r;rw [rp<|by rw [zb];omega]
   have E:(1:Nat)+(Int.toNat ((o::r).length:Int)-1)<=(FTs<|o::r).length:=by rw [zb];simp [r6];omega
   rw [p];refine ⟨⟨by omega,by simp⟩,⟨by rw [zb];simp,by cases o;rfl,rfl⟩,⟨by omega,by simp;omega,by omega⟩,⟨rfl,E⟩, ?_⟩;rw [T]
   let ⟨k1,s1,n1,l1⟩:=o
   exact ⟨_,G.args ⟨.refl _,le_c leSl,trivial⟩, .refl _,rfl⟩
  .have p:vR (.mk kd s n<|u::v++ []) (o::r++yy d [] (k+by_))= .mk kd s n (o::r):=by
    simp [yy,rF]
    exact r8 λe=>by
     have H:(u.k !=6)=false:=by cases u;exact z
     have:(u.k !=6)=true:=e.2.2.2;rw [H] at this;cases this
   rw [p];exact f _ _ _
  .have p:vR (.mk kd s n<|u::v++ []) (o::r++yy d [] (k+by_))= .mk kd s n (o::r):=by
    simp [yy,rF]
    exact r8 λe=>by
     have K:(o.k==6)=false:=by cases o;exact L
     have:(o.k==6)=true:=e.2.2.1;rw [K] at this;cases this
   rw [p];exact f _ _ _
  .have p:vR (.mk kd s n<|u::v++ []) (o::r++yy d [] (k+by_))= .mk kd s n (o::r):=by
    simp [yy,rF];exact r8 λe=>by have:=e.2.1;have:=rg w;omega
   rw [p];exact f _ _ _
  .have p:vR (.mk kd s n<|u::v++ []) (o::r++yy d [] (k+by_))= .mk kd s n (o::r):=by
    simp [yy,rF]
    exact r8 λe=>by
     have F:(kd==6)=false:=I;have:(kd==6)=true:=e.1;rw [F] at this;cases this
   rw [p];exact f _ _ _
 |t::b,a,acc,y,g,A,S,ih=>by
  refine rpv (qK ..) ?_;have M:=A;simp [re,r6,B] at M;have w:=ih t rn
  have C:=l_w2Sh fr m d k by_ W Z N J kd s n O b (a++ [t]) (acc++ [yQ d t<|k+by_]) (by simp) (by simp [g]) (by rw [ap];exact A)
   (by rw [sm];simpa [yy] using S) λu z=>ih u<|rh _ z
  have U:=ltI' a t b;unfold stSh at C;rw [ap,show (((a++ [t]).length:Nat):Int)=(a.length:Int)+1 from nx a t] at C;show br (decide ((a.length:Int)<(((a++t::b).length:Nat):Int))) ((FV.L 4 (.sl false 4<|FTs<|a++t::b)=true/\_/\_/\_)/\_) _;refine bT (ltI a t b)<|?_
  have hm:=midI a t b;rw [show FV.ses (.sl false 4<|FTs<|a++t::b)=FTs (a++t::b) from rfl,hm,w64 (x:=(a.length:Int)+1) (by omega)<|by omega,w64 (x:=k+by_) (by omega)<|by omega]
  let ⟨h,j,i,l'⟩:=t
  refine ⟨⟨rfl,by omega,U,rfl⟩,_,w,r9 _,⟨by rw [zb];omega,vk<|by omega⟩, ?_⟩;have E:List.take acc.length (FTs acc)++FTs [yQ d (.mk h j i l')<|k+by_]=FTs (acc++ [yQ d (.mk h j i l')<|k+by_]):=by rw [rp<|by rw [zb];omega,<-yA]
  have X:FTs [yQ d (.mk h j i l')<|k+by_]=[[.int .i64 (yQ d (.mk h j i l')<|k+by_).k, .str (yQ d (.mk h j i l')<|k+by_).s, .int .i64 (yQ d (.mk h j i l')<|k+by_).n, .sl false 4<|FTs (yQ d (.mk h j i l')<|k+by_).l]]:=by
   rw [FTs,FTs,JH]
  rw [X] at E;rw [E];rw [show acc++yy d (.mk h j i l'::b) (k+by_)=acc++yQ d (.mk h j i l') (k+by_)::yy d b (k+by_) by simp [yy]];rw [show (acc++ [yQ d (.mk h j i l')<|k+by_]).length=acc.length+1 by simp,sm] at C;exact C
def l_w1Sh (fr f d k by_)(C:0<=k)(E:k<=2305843009213693952)(v:0<=by_)(o:by_<=1)(kd s n)(w:(kd==5||kd==6)=true):
  ∀(b),b.length<=B->(∀u∈yy d b (k+by_),u.l.length<=2*B)->
  (∀u∈b,AC Tryz.prog 178 [cloSh,aT u,ci<|k+by_] [obj1 fr,obj1 f] (aT<|yQ d u<|k+by_) [obj1 fr,obj1 f])->
  RPt Tryz.prog 178 2 (aT<|vR (.mk kd s n b)<|yy d b<|k+by_) [obj1 fr,obj1 f] 1 (stSh fr f k by_ kd s n b (.fz .N) 0 [] 5)
 |[],m,y,_=>by
  refine rpv (qC ..) ?_;have e:vR (.mk kd s n []) (yy d []<|k+by_)= .mk kd s n []:=r8 λe=>by have:=e.2.1;simp [yy] at this
  rw [e];exact bF (by simp)<|za (λ_=>⟨rfl,leT xL,rfl⟩) λ_=>⟨leT xL,rfl⟩
 |t::b,m,y,ih=>by
  refine rpv (qC ..) ?_;have r:=m;simp [r6,B] at r;have z:=ih t rn;have p:=l_w2Sh fr f d k by_ C E v o kd s n w b [t] [yQ d t<|k+by_] (by simp) rfl (by simpa using m) (by simpa [yy] using y) λu F=>ih u<|rh _ F
  show br (decide (0<(((t::b).length):Int))) ((FV.L 4 (.sl false 4<|FTs<|t::b)=true/\_/\_/\_)/\_) _;refine za (λ_=> ?_) (λh=>absurd (rg h)<|by simp);rw [show FV.ses (.sl false 4<|FTs<|t::b)=FTs (t::b) from rfl,show List.getD (FTs<|t::b) (Int.toNat<|(0:Nat)) []=FT t from rfl,w64 (x:=k+by_) (by omega)<|by omega,w64 (x:=((0:Nat))+1) (by omega)<|by omega]
  let ⟨g,j,i,l'⟩:=t
  have A:(0:Int)<(((FTs<|.mk g j i l'::b).length:Nat):Int):=by rw [zb];simp
  refine ⟨⟨rfl,by omega,A,rfl⟩,_,z,r9 _,vk<|by omega, ?_⟩
  have D:FTs [yQ d (.mk g j i l')<|k+by_]=[[.int .i64 (yQ d (.mk g j i l')<|k+by_).k, .str (yQ d (.mk g j i l')<|k+by_).s, .int .i64 (yQ d (.mk g j i l')<|k+by_).n, .sl false 4<|FTs (yQ d (.mk g j i l')<|k+by_).l]]:=by
   rw [FTs,FTs,JH]
  unfold stSh at p;rw [D] at p;exact p
def c_wSh (fr f:Int) (i:Tm->Int->Tm) (Q:Tm->Int->Prop)
  (M:∀(kd:Int) (s:List UInt8) (n:Int) (l:List Tm) (d:Int),Q (.mk kd s n l) d->(kd==5||kd==6)=true->∀u∈l,Q u<|d+if (kd==5)=true then 1 else 0)
  (p:∀(u:Tm) (d:Int),(u.k==5||u.k==6)=false->Q u d->0<=d->d<=2305843009213693952->AC Tryz.prog 179 [aT u,ci d, .c<|.a<|.ep 0 1 0 0, .c<|.a<|.ep 1 1 0 0] [(obj1 fr),(obj1 f)] (aT<|i u d) [(obj1 fr),(obj1 f)])
  (r:∀(u:Tm) (d:Int),Q u d->(yQ i u d).l.length<=2*B):
  ∀t:Tm,t.sz<=B->∀k:Int,Q t k->0<=k->k+t.sz<=2305843009213693952->AC Tryz.prog 178 [cloSh,aT t,ci k] [(obj1 fr),(obj1 f)] (aT<|yQ i t k) [(obj1 fr),(obj1 f)]:=by
 refine Tm.ind λt ih N k I G J=> ?_;have w:=Tm.szs_length t.l;obtain ⟨kd,s,n,l⟩:=t;simp only [Tm.sz,B,Tm.l] at N w;simp only [Tm.sz] at J
 have key:∀by_:Int,0<=by_->by_<=1->(by_=if (kd==5)=true then 1 else 0)->(b:(kd==5||kd==6)=true)->RPt Tryz.prog 178 2 (aT<|yQ i (.mk kd s n l) k) [(obj1 fr),(obj1 f)] 1 (stSh fr f k by_ kd s n l (.fz .N) 0 [] 5):=by
  intro by_ D A y b;have o:=M kd s n l k I b;rw [<-y] at o
  have:=l_w1Sh fr f i k by_ G (by omega) D A kd s n b l (by simp only [B];omega) (λu hu=>by
   have:∀ {m:List Tm},(∀v∈m,Q v<|k+by_)->∀u∈yy i m (k+by_),u.l.length<=2*B:=by
    intro m
    induction m with
    |nil=>intro _ u hu;simp [yy] at hu
    |cons v m z=>
     intro H u hu;simp only [yy,rG] at hu;rcases hu with rfl|hu
     .exact r v _ (H v rn)
     .exact z (λx K=>H x<|rh _ K) u hu
   exact this o u hu) (λu hu=>ih u hu (by have:=Tm.szs_mem hu;simp only [B];omega) (k+by_) (o u hu) (by omega)<|by have:=Tm.szs_mem hu;omega)
  rw [yQ,ri b,<-y];exact this
 refine acv (oM kd s n (FTs l) k fr f _ _) ?_
 have wi:(kd==5||kd==6)=true->AC Tryz.prog 173 [aT<|.mk kd s n l] [] (.tup [(false,[qf<|.sl false 4<|FTs l]),(false,[qi (if (kd==5)=true then 1 else 0)])]) []:=λb=>by
  have j:=bh<|.mk kd s n l
  rw [show jZ (.mk kd s n l)= .sl false 4 (FTs l) from ri b] at j;exact j
 refine za (λh=>za (λC=> ?_) λC=> ?_) λh=> ?_
 .have g:(kd==5)=false:=by simpa using h
  have F:(kd==6)=false:=by simpa using C
  have e:(kd==5||kd==6)=false:=by rw [g,F];rfl
  have L:=p (.mk kd s n l) k e I G (by omega);rw [show yQ i (.mk kd s n l) k=i (.mk kd s n l) k by rw [yQ,r8<|by rw [e];simp]];exact ⟨_,L, .refl _,rfl⟩
 .have g:(kd==5)=false:=by simpa using h
  have F:(kd==6)=true:=by simpa using C
  have b:(kd==5||kd==6)=true:=by rw [g,F];rfl
  have E:=key 0 (by omega) (by omega) (by rw [g];rfl) b;have j:=wi b;rw [g] at j;refine ⟨_,_,j,rfl, ?_⟩;show RPt _ _ _ _ _ _ ⟨[_,_,_,_,_,_,_,_,(31,ci (((FTs l).length:Nat):Int)),_],_,_⟩;rw [zb];exact E
 .have g:(kd==5)=true:=by simpa using h
  have b:(kd==5||kd==6)=true:=by rw [g];rfl
  have E:=key 1 (by omega) (by omega) (by rw [g];rfl) b;have j:=wi b;rw [g] at j;refine ⟨_,_,j,rfl, ?_⟩;show RPt _ _ _ _ _ _ ⟨[_,_,_,_,_,_,_,_,(31,ci (((FTs l).length:Nat):Int)),_],_,_⟩;rw [zb];exact E
def wY (f l):(zt f l).sz<=1+f.sz+Tm.szs l:=by
 unfold zt;split
 .simp only [Tm.szs];omega
 .split
  .have:=f.sz_eq;simp [Tm.sz,Tm.szs_append,rv];omega
  .simp [Tm.sz,Tm.szs,rv];omega
def withF_sz (t o):(vR t o).sz<=1+Tm.szs o:=by
 unfold vR;split
 .rename_i h
  match o,h with
  |[],h=>simp at h
  |x::r,h=>
   simp only [List.headD_cons,List.tail_cons,Tm.szs] at h ⊢;have f:=h.2.2.1;have d:r ≠ []:=by intro e;rw [e] at h;simp at h
   unfold zt;split
   .exact absurd rfl d
   .have:=x.sz_eq;by_cases b:x.l=[]
    .rw [r8 λe=>e.2 b];simp only [Tm.sz,Tm.szs,rv];omega
    .rw [ri ⟨f,b⟩];simp [Tm.sz,Tm.szs_append,rv];omega
 .simp only [Tm.sz];omega
mutual
def nd:Tm->Nat
 |.mk _ _ _ l=>1+nds l
def nds:List Tm->Nat
 |[]=>0
 |t::l=>nd t+nds l
end
mutual
def cp (lf:Tm->Int->Tm)(S:Nat)(h:∀u d,(lf u d).sz<=u.sz+S):∀(t:Tm) (d:Int),(yQ lf t d).sz<=t.sz+nd t*S
 |.mk k s n l,d=>by
  rw [yQ];split
  .refine sI (withF_sz ..) ?_;have:=bg lf S h l<|d+if (k==5)=true then 1 else 0
   simp only [Tm.sz,Tm.s,nd,sC,Nat.one_mul];omega
  .refine sI (h _ _) ?_;simp only [nd,sC,Nat.one_mul];omega
def bg (lf:Tm->Int->Tm)(S:Nat)(h:∀u d,(lf u d).sz<=u.sz+S):∀(l:List Tm) (d:Int),Tm.szs (yy lf l d)<=Tm.szs l+nds l*S
 |[],_=>by simp [yy,Tm.szs]
 |t::l,d=>by
  have:=cp lf S h t d;have:=bg lf S h l d;simp only [yy,Tm.szs,nds,sC];omega
end
def X4 {M}:∀ {a b},bds M a->bds M b->bds M (a++b)
 |[],_,_,h=>h
 |_::_,_,h,h'=>⟨h.1,X4 h.2 h'⟩
def lD {M}:∀ {l},(∀t∈l,bd M t)->bds M l
 |[],_=>trivial
 |t::_,h=>⟨h t rn,lD λu b=>h u<|rh _ b⟩
def bd6 {M s n l}(h:bds M l):bd M (.mk 6 s n l):=⟨λe=>absurd e<|by omega,h⟩
def Zx {M f l}(b:bd M f)(d:bds M l):bd M (zt f l):=by
 unfold zt;split
 .exact b
 .split
  .exact bd6<|X4 (bd_l b) d
  .exact bd6 ⟨b,d⟩
def withF_bd {M t o}(d:t.k≠3)(b:bds M o):bd M (vR t o):=by
 unfold vR;split
 .rename_i h
  match o,h,b with
  |[],h,_=>simp at h
  |x::r,h,b=>exact Zx b.1 b.2
 .exact ⟨λe=>absurd e d,b⟩
mutual
def dp (lf:Tm->Int->Tm)(M M' D:Int)(h:∀u d,bd M u->0<=d->d<=D->bd M' (lf u d)):∀(t:Tm) (d:Int),bd M t->0<=d->d+t.sz<=D->bd M' (yQ lf t d)
 |.mk k s n l,d,hb,h0,h1=>by
  rw [yQ];simp only [Tm.sz] at h1;split
  .rename_i hk;refine withF_bd (λe=> ?_)<|dK lf M M' D h l _ hb.2 (by split<;>omega)<|by split<;>omega
   have e:k=3:=e;rw [e] at hk;exact absurd hk (by decide)
  .exact h _ _ hb h0 (by omega)
def dK (lf:Tm->Int->Tm)(M M' D:Int)(h:∀u d,bd M u->0<=d->d<=D->bd M' (lf u d)):∀(l:List Tm) (d:Int),bds M l->0<=d->d+Tm.szs l<=D->bds M' (yy lf l d)
 |[],_,_,_,_=>trivial
 |t::l,d,hb,h0,h1=>by
  simp only [Tm.szs] at h1;exact ⟨dp lf M M' D h t d hb.1 h0<|by omega,dK lf M M' D h l d hb.2 h0<|by omega⟩
end
def qD (b):∀(l) (d),(yy b l d).length=l.length
 |[],_=>rfl
 |_::l,d=>by simp [yy,r6,qD b l d]
abbrev M61:Int:=2305843009213693952
def vQ (fr by_:Int)(u:Tm)(d:Int):=if (u.k==3)=true/\d+fr<=u.n then .mk u.k u.s (u.n+by_) u.l else u
def shT (fr by_:Int)(t:Tm)(d:Int):=yQ (vQ fr by_) t d
def oR (fr by_ u d):(vQ fr by_ u d).sz=u.sz:=by
 unfold vQ;split
 .cases u;rfl
 .rfl
def shT_sz (fr by_ t d):(shT fr by_ t d).sz<=t.sz:=by
 have:=cp (vQ fr by_) 0 (λu d=>by rw [oR];omega) t d;rw [Nat.mul_zero] at this;exact this
def bd_le {M M'}(h:M<=M'):∀t,bd M t->bd M' t:=by
 refine Tm.ind λt ih d=> ?_
 let ⟨k,s,n,l⟩:=t
 exact ⟨λe=>by have:=d.1 e;omega,lD λu b=>ih u b<|vW d.2 b⟩
def c_moved (t by_)(b: -9223372036854775808<=t.n+by_)(d:t.n+by_<=9223372036854775807):AC Tryz.prog 177 [aT t,ci by_] [] (aT<|.mk t.k t.s (t.n+by_) t.l) []:=by
 let ⟨k,s,n,l⟩:=t
 refine acv (v177 k s n _ by_ _ _) ?_;rw [w64 (x:=n+by_) b d];exact rrl
def xv:Nat->Tm->Tm
 |0,t=>t
 |n+1,t=>xv n<|.mk 5 [] 0 [t]
def pH (N)(p:N<=4294967296):∀(m:Nat) (i k:Int) (s) (n) (rows) (l),0<=i->i+m=N->FV.Le (.sl false 4 rows) (.sl false 4<|FTs l)->
  RPt Tryz.prog 159 0 (aT<|xv m<|.mk k s n l) [] 1 ⟨[(3, .c<|.a<|.ep 0 4 0 0),(4, .c<|.a<|.ep 1 4 0 0),(6,ci N),(7,ci i)],[(0, .arr 4 [[qi k,qf<|.str s,qi n,qf<|.sl false 4 rows]]),(1, .arr 4 [[qi 0,qf<|.str [],qi 0,qf .N]])],2⟩
 |0,i,k,s,n,rows,l,g,f,b=>by
  refine rpv (gM ..) ?_;refine bF (by omega) ⟨leT b,rfl⟩
 |m+1,i,k,s,n,rows,l,g,f,b=>by
  refine rpv (gM ..) ?_
  have o:=pH N p m (i+1) 5 [] 0 [[.int .i64 k, .str s, .int .i64 n, .sl false 4 rows]] [.mk k s n l] (by omega) (by omega) (leRows rfl λj r t d e=>by
   match j,d,e with
   |0,d,e=>
    simp [sd,rc] at d e;subst d;subst e;exact leFT b
   |j+1,d,_=>simp at d)
  rw [w64 (x:=i+1) (by omega)<|by omega];refine za (λ_=>⟨⟨rfl,by omega⟩, ?_⟩) (λh=>absurd (rg h)<|by omega);exact o
def foldMax0 {n}(h:0<=n):zp [n,0]=n:=by
 rw [Z6];unfold maxI;split<;>omega
def gg (m:Nat)(t)(e:m<=4294967296):AC Tryz.prog 159 [ci m,aT t] [] (aT<|xv m t) []:=by
 let ⟨k,s,n,l⟩:=t
 refine acv (v159 m k s n (FTs l) _ _) ?_;rw [foldMax0<|by omega];refine rpv (gM ..) ?_
 match m,e with
 |0,_=>exact bF (by omega) rrl
 |m+1,e=>
  refine za (λ_=>⟨⟨rfl,by omega⟩, ?_⟩) (λh=>absurd (rg h)<|by omega)
  exact pH ((m+1)) (by omega) m 1 5 [] 0 [[.int .i64 k, .str s, .int .i64 n, .sl false 4<|FTs l]] [.mk k s n l] (by omega) (by omega) (leRows rfl λj r t b d=>by
   match j,b,d with
   |0,b,d=>
    simp [sd,rc] at b d;subst b;subst d;exact leFT (.refl _)
   |j+1,b,_=>simp at b)
mutual
def zj:Tm->Bool
 |.mk k s n l=>
  if (k==0)=true then (vJ s||qZ s)&&n==0&&(((FTs l).length:Nat):Int)==0
  else if (k==1)=true then decide (n>=1)&&s==[]&&(((FTs l).length:Nat):Int)==0&&yp l
  else if (k==2)=true then s==[]&&(((FTs l).length:Nat):Int)==0&&yp l
  else if (k==3)=true then decide (n>=0)&&decide (n<=4611686018427387904)&&s==[]&&(((FTs l).length:Nat):Int)==0&&yp l
  else if (k==4)=true then decide (n>=0)&&decide (n<=4611686018427387904)&&s==[]&&(((FTs l).length:Nat):Int)==0&&yp l
  else if (k==5)=true then n==0&&s==[]&&(((FTs l).length:Nat):Int)==1&&yp l
  else if (k==6)=true then n==0&&decide ((((FTs l).length:Nat):Int)>=2)&&((l.headD default).k !=6)&&s==[]&&yp l
  else false
def yp:List Tm->Bool
 |[]=>true
 |t::l=>zj t&&yp l
end
def gJ:List Tm->Int->Int
 |[],_=> -1
 |t::l,i=>if zj t=true then gJ l (i+1) else i
def dt:∀(l) (i),0<=i->decide (gJ l i>=0)= !yp l
 |[],_,_=>rfl
 |t::l,i,h=>by
  rw [gJ,yp];split
  .rename_i e;rw [dt l _<|by omega,e,rO]
  .rename_i e;rw [show zj t=false by simpa using e];simp;omega
def oJ:∀(b a),(∀u∈b,AC Tryz.prog 134 [aT u] [] (cb (!zj u)) [])->(a++b).length<=B->
  RPt Tryz.prog 139 0 (ci<|gJ b a.length) [] 1 ⟨[(0,aL<|a++b),(1, .c<|.fn (.func 134) [] []),(7,ci<|((FTs<|a++b).length)),(8,ci a.length)],[],0⟩
 |[],a,_,_=>by
  refine rpv (qO ..) ?_;exact bF (geI' a)<|xG rfl
 |t::b,a,ih,g=>by
  refine rpv (qO ..) ?_;have d:=g;simp [re,r6,B] at d;have j:=ih t rn;have e:=oJ b (a++ [t]) (λu i=>ih u<|rh _ i) (by rw [ap];exact g);have f:=ltI' a t b;rw [ap,nx] at e;rw [midI,w64 (x:=a.length+1) (by omega)<|by omega];refine bT f<|?_
  let ⟨p,m,o,l'⟩:=t
  refine ⟨⟨rfl,by omega,f,rfl⟩,_,j,za (λh=> ?_) λh=> ?_⟩
  .rw [gJ,r8<|by simpa using h];exact xG rfl
  .rw [gJ,ri<|by simpa using h];exact e
def c_contf (l)(f:l.length<=B)(ih:∀u∈l,AC Tryz.prog 94 [aT u] [] (cb<|zj u) []):AC Tryz.prog 98 [aL l, .c<|.fn (.func 134) [] []] [] (cb (!yp l)) []:=by
 have d:∀u∈l,AC Tryz.prog 134 [aT u] [] (cb (!zj u)) []:=λu b=>by
  have h:=ih u b
  let ⟨k,s,n,l⟩:=u
  refine acv (v134 k s n (FTs l) _ _) ?_;exact ⟨_,h,zg rfl⟩
 have e:AC Tryz.prog 139 [aL l, .c<|.fn (.func 134) [] []] [] (ci<|gJ l 0) []:=by
  refine acv (my ..) ?_;exact ⟨rfl,oJ l [] d f⟩
 refine acv (v98_F134 ..) ?_;exact ⟨_,e,zg<|dt l 0<|rk _⟩
def head0:∀ {l},2<=(((FTs l).length):Int)->List.getD (FTs l) 0 []=FT (l.headD default)
 |[],h=>by simp [FTs] at h
 |t::l,_=>rfl
def kx:∀t,t.sz<=B->AC Tryz.prog 94 [aT t] [] (cb<|zj t) []:=by
 refine Tm.ind λt ih D=> ?_;have i:=Tm.szs_length t.l
 let ⟨k,s,n,l⟩:=t
 simp [Tm.sz,Tm.l] at D i;have g:=c_contf l (by omega) λu y=>ih u y (by have:=Tm.szs_mem y;omega);refine acv (v94 k s n (FTs l) _ _) ?_
 refine za (λC=>⟨_,cf s,za (λo=>za (λe=>⟨rfl,zg ?_⟩) λe=>zg ?_) λo=>⟨_,lJ s,za (λv=>za (λe=>⟨rfl,zg ?_⟩) λe=>zg ?_) λv=>zg ?_⟩⟩)
  (λC=>za (λo=>za (λe=>za (λj=>⟨rfl,za (λf=>⟨_,g,zg ?_⟩) λf=>zg ?_⟩) λj=>zg ?_) λe=>zg ?_)
  (λo=>za (λe=>za (λj=>⟨rfl,za (λf=>⟨_,g,zg ?_⟩) λf=>zg ?_⟩) λj=>zg ?_)
  (λe=>za (λj=>za (λf=>za (λh=>za (λd=>⟨rfl,za (λb=>⟨_,g,zg ?_⟩) λb=>zg ?_⟩) λd=>zg ?_) λh=>zg ?_) λf=>zg ?_)
  (λj=>za (λp=>za (λf=>za (λh=>za (λd=>⟨rfl,za (λb=>⟨_,g,zg ?_⟩) λb=>zg ?_⟩) λd=>zg ?_) λh=>zg ?_) λf=>zg ?_)
  (λp=>za (λh=>za (λd=>za (λb=>⟨rfl,za (λm=>⟨_,g,zg ?_⟩) λm=>zg ?_⟩) λb=>zg ?_) λd=>zg ?_)
  (λh=>za (λd=>za (λb=>⟨rfl,za (λm=> ?app) λm=>⟨rfl,zg ?_⟩⟩) λb=>⟨rfl,zg ?_⟩) λd=>zg ?_))))))
 case app=>
  have r:=ro m;rw [head0 r,JH];refine ⟨⟨rfl,by omega,by omega,rfl⟩,rfl,za (λz=>za (λw=>⟨rfl,za (λx=>⟨_,g,zg ?_⟩) λx=>zg ?_⟩) λw=>zg ?_) λz=>zg ?_⟩
  all_goals (have A:((l.headD default).k !=6)=_:=z;simp_all [zj])
 all_goals first
  |(simp_all [zj];done)
  |(simp_all [zj];intros;omega)
mutual
def gz {M:Int}:∀t:Tm,near M t=true->bd M t
 |.mk k s n l,h=>by
  simp only [near,rf] at h;refine ⟨λe=> ?_,cm l h.2⟩;have:=h.1;rw [e] at this;simp at this;omega
def cm {M:Int}:∀l:List Tm,fj M l=true->bds M l
 |[],_=>trivial
 |t::l,h=>by
  simp only [fj,rf] at h;exact ⟨gz t h.1,cm l h.2⟩
end
def cB (c):AC Tryz.prog 71 [c8 c] [] (cb<|kg c) []:=by
 refine acv (v71 ..) ?_;refine za (λh=>zg ?_) (λh=>zg ?_)<;>simp_all [kg]<;>omega
def cS (c):AC Tryz.prog 115 [c8 c] [] (cb<|ZV c) []:=by
 refine acv (v115 ..) ?_;refine za (λh=>zg ?_) (λh=>zg ?_)<;>simp_all [ZV]<;>omega
def c_rin (c):AC Tryz.prog 72 [c8 c] [] (cb<|yf c) []:=by
 refine acv (v72 ..) ?_
 have key:(decide _&&decide _)=false->(c==95)=false->kg c=false->ZV c=false->(c==39)=yf c:=λg f d b=>by
  have e:jK c=false:=by unfold jK;rw [f,show (decide _&&decide _)=false from g];rfl
  simp [yf,d,b,e,sF]
 have o:kg c=true->true=yf c:=λh=>by simp [yf,h,sV]
 have i:jK c=true->true=yf c:=λh=>by simp [yf,h,sV,tj]
 have j:ZV c=true->true=yf c:=λh=>by simp [yf,h,sV,tj]
 have m:(c==95)=true->jK c=true:=λh=>by unfold jK;rw [h];simp
 refine ⟨_,cB c,za (λh=>zg<|o h) λh=>za (λg=>za (λf=>zg<|i ?_) λf=>⟨_,cS c,za (λd=>zg<|j d) λd=>za (λb=>zg<|i<|m b) λb=>zg<|key ?_ b h d⟩) λg=>⟨_,cS c,za (λd=>zg<|j d) λd=>za (λb=>zg<|i<|m b) λb=>zg<|key ?_ b h d⟩⟩
 .unfold jK;rw [show decide (65<=c)=true from g,f];rfl
 .rw [f];simp
 .rw [g];simp
def sign_any (c:UInt8):kv c.toNat=Wg.any λx=>x.toNat==(c.toNat:Int):=by
 have key:∀n:Fin 256,kv n.val=Wg.any λx=>(x.toNat==(n.val:Int)):=by decide+kernel
 exact key ⟨c.toNat,c.toNat_lt⟩
def nq (c):∀(b a),a++b=Wg->a.any λx=>(x.toNat:Int)==c=false->
  RPt Tryz.prog 73 0 (cb<|Wg.any λx=>x.toNat==c) [] 1 ⟨[(0,c8 c),(3,ci a.length)],[],0⟩
 |[],a,d,e=>by
  rw [rF] at d;subst d;refine rpv (v73_1a ..) ?_;exact bF (by decide)<|zg e.symm
 |x::b,a,d,e=>by
  have g:a.length<16:=by
   have:(a++x::b).length=16:=by rw [d];rfl
   simp at this;omega
  have f:List.getD Wg (Int.toNat a.length) 0=x:=by rw [<-d];exact Yw a x b
  refine rpv (v73_1a ..) ?_;rw [w64 (x:=a.length+1) (by omega)<|by omega];refine za (λ_=>⟨⟨by omega,by omega⟩,za (λh=>zg ?_) λh=> ?_⟩) (λh=>absurd (rg h)<|by omega)
  .have h:(((List.getD Wg (Int.toNat a.length) 0).toNat)==c)=true:=h;rw [f] at h;rw [<-d];simp [List.any_append,sK,h,sV,tj]
  .have h:(((List.getD Wg (Int.toNat a.length) 0).toNat)==c)=false:=h;rw [f] at h;have:=nq c b _ (by rw [ap];exact d) (by simp [List.any_append,sK,List.any_nil,e,h,Bool.or_self]);rw [nx] at this;exact this
def c_rsign (c:UInt8):AC Tryz.prog 73 [c8 c.toNat] [] (cb<|kv c.toNat) []:=by
 rw [sign_any];refine acv (v73 ..) ?_;exact nq _ Wg [] rfl rfl
def Jy:∀(b a),(a++b).length<=B->RPt Tryz.prog 39 0 (cb<|b.all λc=>yf c.toNat) [] 1 ⟨[(0,cs<|a++b),(3,ci a.length)],[],0⟩
 |[],a,_=>by
  refine rpv (v39_1a ..) ?_;exact bF (by simp)<|zg rfl
 |x::b,a,f=>by
  have d:=f;simp [re,r6,B] at d;have e:=Jy b _ (by rw [ap];exact f);rw [ap,nx] at e;refine rpv (v39_1a ..) ?_;rw [Yw,w64 (x:=a.length+1) (by omega)<|by omega];refine bT (ltI a x b) ⟨⟨by omega,ltI a x b⟩,_,c_rin _,za (λh=>zg ?_) λh=> ?_⟩
  .rw [sj,show yf x.toNat=false by simpa using h];rfl
  .rw [sj,show yf x.toNat=true by simpa using h];exact e
def JF (s):AC Tryz.prog 39 [cs s] [] (cb<|vJ s) []:=by
 refine acv (v39 ..) ?_;refine za (λh=>zg ?_) λh=>za (λb=>zg ?_) λb=> ?_
 .have h:=ro h;cases s with
  |nil=>rfl
  |cons c s=>simp at h;omega
 .have b:=ro b;have:ZW s=false:=by simp only [ZW];rw [show decide _=false by simp;omega];simp
  simp [vJ,this,rQ]
 .have h:=rg h;have b:=rg b
  have e:ZW s=true:=by
   simp [ZW];cases s with
   |nil=>simp at h
   |cons c s=>simp at b ⊢;omega
  refine ⟨⟨by omega,by omega⟩,_,cB _,za (λd=>zg ?_) λd=> ?_⟩
  .simp only [vJ,show kg ((s.getD 0 0).toNat)=false by simpa using d,s7,rQ]
  .have:=Jy s [] (by simp [s8,B];omega);rw [show vJ s=s.all λc=>yf c.toNat by simp only [vJ,e,show kg ((s.getD 0 0).toNat)=true by simpa using d,rO]];exact this
def bm (s):∀(b a),a++b=s->s.length<=B->
  RPt Tryz.prog 40 0 (cb<|(b.all λc=>kv c.toNat)&&decide ((s.length:Int)>=1)&&decide ((s.length:Int)<=32)) [] 1 ⟨[(0,cs s),(3,ci a.length)],[],0⟩
 |[],a,d,_=>by
  rw [rF] at d;subst d;refine rpv (v40_1a ..) ?_;refine bF (by omega)<|za (λh=>zg ?_) λh=>zg ?_
  .rw [h];simp
  .rw [h];simp
 |x::b,a,d,i=>by
  have e:=ltI a x b;have g:=Yw a x b;rw [d] at e g;have f:=bm s b _ (by rw [ap];exact d) i;rw [nx] at f;simp [B] at i;refine rpv (v40_1a ..) ?_;rw [g,w64 (x:=a.length+1) (by omega)<|by omega];refine bT e ⟨⟨by omega,e⟩,_,c_rsign x,za (λh=>zg ?_) λh=> ?_⟩
  .rw [sj,show kv x.toNat=false by simpa using h];rfl
  .rw [sj,show kv x.toNat=true by simpa using h];exact f
def sym_eq (s):qZ s=(s==[44]||s==[59]||s==[33]||(s.all λc=>kv c.toNat)&&decide ((s.length:Int)>=1)&&decide ((s.length:Int)<=32)):=by
 match s with
 |[]=>rfl
 |[c]=>
  have key:∀n:Fin 256,qZ [n.val.toUInt8]=([n.val.toUInt8]==[44] || [n.val.toUInt8]==[59] || [n.val.toUInt8]==[33]||(([n.val.toUInt8].all λc=>kv c.toNat)&&decide ((([n.val.toUInt8].length))>=1)&&decide ((([n.val.toUInt8].length))<=32))):=by decide+kernel
  have e:c.toNat.toUInt8=c:=by simp
  have:=key ⟨c.toNat,c.toNat_lt⟩;simp only [e] at this;exact this
 |c::d::s=>
  have b:∀x,((c::d::s:List UInt8)==[x])=false:=λx=>by simp
  simp only [qZ,ZW,b,sF];rw [show (((c::d::s).length:Int)==1)=false by simp;omega,show decide (((c::d::s).length:Int)>=1)=true by simp;omega];simp [Bool.and_comm]
def cv (s)(e:s.length<=B):AC Tryz.prog 40 [cs s] [] (cb<|qZ s) []:=by
 rw [sym_eq];refine acv (v40 ..) ?_;refine za (λh=>zg ?_) λh=>za (λb=>zg ?_) λb=>za (λd=>zg ?_) λd=> ?_
 .rw [h];rfl
 .rw [h,b];rfl
 .rw [h,b,d];rfl
 .rw [h,b,d,sF,sF,sF];exact bm s s [] rfl e
def c_rinner (t):AC Tryz.prog 116 [aT t] [] (cb t.inner) []:=by
 let ⟨k,s,n,l⟩:=t
 refine acv (v116 k s n _ _ _) ?_;refine za (λh=>zg ?_) λh=>zg ?_
 .unfold Tm.inner;simp [Tm.k,h,sV]
 .unfold Tm.inner;simp [Tm.k,h,sF]
def c_runder (t k)(d:0<=k)(e:k<=4611686018427387904):AC Tryz.prog 117 [aT t,ci k] [] (ci<|k+t.by) []:=by
 let ⟨b,s,n,l⟩:=t
 refine acv (v117 b s n _ k _ _) ?_;rw [w64 (x:=k+1) (by omega)<|by omega];refine za (λh=>xG ?_) λh=>xG ?_
 .unfold Tm.by;simp [Tm.k,h,rC]
 .unfold Tm.by;simp only [Tm.k,h,rA,rI];omega
def cF (i s n):∀(b a) (ok),(∀u∈b,AC Tryz.prog 43 [aT u] [] (cb<|zj u) [])->(a++b).length<=B->
  RPt Tryz.prog 43 0 (cb<|ok&&yp b) [] 3 ⟨[(1, .c<|.a<|.ep 0 4 0 0),(3,cb ok),(7,ci a.length)],[(0, .arr 4 [fzs<|FT<|.mk i s n<|a++b])],1⟩
 |[],a,ok,_,_=>by
  refine rpv (v43_3a ..) ?_;exact ⟨rfl,bF (geI' a)<|zg<|by simp [yp]⟩
 |t::b,a,ok,ih,f=>by
  refine rpv (v43_3a ..) ?_;have d:=f;simp [re,r6,B] at d;have m:=ih t rn;have h:=cF i s n b _ (zj t) (λu j=>ih u<|rh _ j) (by rw [ap];exact f);have g:=ltI' a t b;rw [ap,nx] at h;rw [midI,w64 (x:=a.length+1) (by omega)<|by omega];refine ⟨rfl,bT g<|za (λe=> ?_) λe=>zg<|by rw [e];rfl⟩;rw [e,yp,rO]
  let ⟨r,o,p,l'⟩:=t
  exact ⟨⟨rfl,by omega,g,rfl⟩,_,m,h⟩
def bG:∀t,t.bk<=B->AC Tryz.prog 43 [aT t] [] (cb<|zj t) []:=by
 refine Tm.ind λt ih j=> ?_;have d:=sI (Tm.szs_length t.l)<|Tm.szs_bks t.l
 let ⟨k,s,n,l⟩:=t
 simp [Tm.bk,Tm.l] at j d
 have b:∀ok,(ok&&yp l)=zj _->RPt Tryz.prog 43 0 (cb<|zj<|.mk k s n l) [] 3 ⟨[(1, .c _),(3,cb ok),(7,ci 0)],[(0, .arr 4 [fzs<|FT<|.mk k s n l])],1⟩:=λok h=>by
  have:=cF k s n l [] ok (λu z=>ih u z<|by have:=Tm.bks_mem z;omega) (by simp [s8];omega);rw [h] at this;exact this
 refine acv (v43 k s n (FTs l) _ _) ?_
 refine za (λC=>⟨_,JF s,_,cv s<|by omega,za (λy=>za (λf=>⟨rfl,zg ?_⟩) λf=>zg ?_) λy=>za (λv=>za (λf=>⟨rfl,zg ?_⟩) λf=>zg ?_) λv=>zg ?_⟩)
  (λC=>za (λy=>za (λf=>za (λi=>⟨rfl,b _ ?_⟩) λi=>b _ ?_) λf=>b _ ?_)
  (λy=>za (λf=>za (λi=>⟨rfl,b _ ?_⟩) λi=>b _ ?_)
  (λf=>za (λi=>za (λp=>za (λg=>za (λe=>⟨rfl,b _ ?_⟩) λe=>b _ ?_) λg=>b _ ?_) λp=>b _ ?_)
  (λi=>za (λw=>za (λp=>za (λg=>za (λe=>⟨rfl,b _ ?_⟩) λe=>b _ ?_) λg=>b _ ?_) λp=>b _ ?_)
  (λw=>za (λg=>za (λe=>za (λr=>⟨rfl,b _ ?_⟩) λr=>b _ ?_) λe=>b _ ?_)
  (λg=>za (λe=>za (λr=>⟨rfl,za (λA=> ?app) λA=>⟨rfl,b _ ?_⟩⟩) λr=>⟨rfl,b _ ?_⟩) λe=>b _ ?_))))))
 case app=>
  have m:=ro A;rw [head0 m,JH];refine ⟨⟨rfl,by omega,by omega,rfl⟩,rfl,za (λo=>za (λx=>⟨rfl,b _ ?_⟩) λx=>b _ ?_) λo=>b _ ?_⟩
  all_goals (have D:((l.headD default).k !=6)=_:=o;clear b ih j d o;simp_all [zj])
 all_goals clear b ih j d
 all_goals first
  |(simp_all [zj];done)
  |(simp_all [zj];intros;omega)
def cV:∀(b a e d),(∀u∈b,∀v,AC Tryz.prog 138 [aT u,aT v] [] (cb<|Jd u v) [])->(a++b).length<=B->a.length=d.length->b.length=e.length->
  RPt Tryz.prog 174 0 (cb<|YS b e) [] 1 ⟨[(1,aL<|d++e),(2, .c<|.fn (.func 138) [] []),(15,aL<|a++b),(16,ci<|((FTs<|a++b).length)),(17,ci a.length)],[],0⟩
 |[],a,[],d,_,_,_,_=>by
  refine rpv (qU ..) ?_;exact bF (geI' a)<|zg rfl
 |t::b,a,f::e,d,ih,j,i,E=>by
  refine rpv (qU ..) ?_;have g:=j;simp [re,r6,B] at g;simp [r6] at E;have F:=ih t rn f;have A:=cV b (a++ [t]) e (d++ [f]) (λu D=>ih u<|rh _ D) (by rw [ap];exact j) (by simp [i]) (by omega);have w:=ltI' a t b;have r:=ltI' d f e;rw [<-i] at r;rw [ap,ap,nx] at A;rw [midI,midI' a d i,w64 (x:=a.length+1) (by omega)<|by omega];refine bT w<|?_
  let ⟨y,m,z,l1⟩:=t
  let ⟨p,o,C,l2⟩:=f
  refine ⟨⟨rfl,by omega,w,rfl⟩,⟨rfl,by omega,r,rfl⟩,_,F,za (λh=>zg ?_) λh=> ?_⟩
  .rw [YS,show Jd (.mk y m z l1) (.mk p o C l2)=false by simpa using h];rfl
  .rw [YS,show Jd (.mk y m z l1) (.mk p o C l2)=true by simpa using h];exact A
def c_same:∀a,a.sz<=B->∀b,AC Tryz.prog 138 [aT a,aT b] [] (cb<|Jd a b) []:=by
 refine Tm.ind λa ih g b=> ?_;have d:=Tm.szs_length a.l
 let ⟨p,i,r,l1⟩:=a
 let ⟨m,j,y,l2⟩:=b
 simp [Tm.sz,Tm.l] at g d
 have o:AC Tryz.prog 174 [aL l1,aL l2, .c<|.fn (.func 138) [] []] [] (cb<|YS l1 l2) []:=by
  refine acv (nc ..) ?_;refine ⟨rfl,rfl,za (λh=>zg ?_) λh=>⟨rfl, ?_⟩⟩
  .rw [zb,zb] at h;exact (Jh λe=>by rw [e] at h;simp at h).symm
  .rw [zb,zb] at h
   exact cV l1 [] l2 [] (λu hu v=>ih u hu (by have:=Tm.szs_mem hu;omega) v) (by simp only [s8];omega) rfl (by have:(l1.length:Int)=l2.length:=by simpa using h
                                                                                                              omega)
 refine acv (v138 p i r _ m j y _ _ _) ?_;refine za (λh=>za (λx=>za (λw=>⟨_,o,zg ?_⟩) λw=>zg ?_) λx=>zg ?_) λh=>zg ?_
 all_goals simp [Jd]
 all_goals simp_all
mutual
def vh:Tm->Int->Int
 |.mk kd _ n l,k=>if (kd==3)=true then maxI 0 (n-k+1) else if (kd==5||kd==6)=true then wx l (k+if (kd==5)=true then 1 else 0) else 0
def wx:List Tm->Int->Int
 |[],_=>0
 |t::l,k=>maxI (vh t k)<|wx l k
end
def jL (a b c):maxI (maxI a b) c=maxI a (maxI b c):=by
 unfold maxI;(repeat' split)<;>omega
def lE {a}(h:0<=a):maxI a 0=a:=by unfold maxI;split<;>omega
def maxI_ge2 (a b):b<=maxI a b:=by unfold maxI;split<;>omega
def qy:∀(l) (k),0<=wx l k
 |[],_=>rk _
 |t::l,k=>by rw [wx];exact Int.le_trans (qy l k)<|maxI_ge2 _ _
def gN (a b):a<=maxI a b:=by unfold maxI;split<;>omega
mutual
def KN:∀(t:Tm) (k acc:Int),0<=acc->wb t k acc=maxI acc (vh t k)
 |.mk kd _ n l,k,acc,h=>by
  simp only [wb,vh];by_cases h5:(kd==5)=true
  .have e:kd=5:=by simpa using h5
   subst e;simp [qj l _ acc h]
  .by_cases h6:(kd==6)=true
   .have e:kd=6:=by simpa using h6
    subst e;simp [qj l _ acc h]
   .have e5:(kd==5)=false:=by simpa using h5
    have e6:(kd==6)=false:=by simpa using h6
    rw [r8 h5,r8 h6];by_cases h3:(kd==3)=true
    .rw [ri h3,ri h3,<-jL,lE h]
    .rw [r8 h3,r8 h3,r8<|by rw [e5,e6];simp,lE h]
def qj:∀(l:List Tm) (k acc:Int),0<=acc->qP l k acc=maxI acc (wx l k)
 |[],_,acc,h=>by rw [qP,wx,lE h]
 |t::l,k,acc,h=>by
  have h1:=KN t k acc h;rw [qP,wx,h1,qj l k _<|Int.le_trans h<|gN _ _,jL]
end
def d8 (d s n h k)(m:0<=k)(e:k<=2305843009213693952):∀(b a) (acc),(∀u∈b,AC Tryz.prog 74 [aT u,ci<|k+Tm.by (.mk d s n [])] [] (ci<|vh u<|k+Tm.by (.mk d s n [])) [])->(a++b).length<=B->0<=acc->
  RPt Tryz.prog 74 0 (ci<|maxI acc (if h=true then wx b (k+Tm.by (.mk d s n [])) else 0)) [] 1 ⟨[(1,ci k),(2, .c<|.a<|.ep 0 4 0 0),(5,ci acc),(6,cb h),(7,ci a.length)],[(0, .arr 4 [fzs<|FT<|.mk d s n<|a++b])],1⟩
 |[],a,acc,_,_,f=>by
  refine rpv (v74_1a ..) ?_;exact ⟨rfl,bF (geI' a)<|xG<|by cases h<;>simp [wx,lE f]⟩
 |t::b,a,acc,ih,p,f=>by
  have j:=p;simp [re,r6,B] at j;have r:=ih t rn;have i:=c_runder (.mk d s n<|a++t::b) k m (by omega);have g:=d8 d s n h k m e b _ (maxI acc<|vh t<|k+Tm.by (.mk d s n [])) (λu i=>ih u<|rh _ i) (by rw [ap];exact p)<|Int.le_trans f<|gN _ _
  have o:=ltI' a t b;rw [ap,nx] at g;refine rpv (v74_1a ..) ?_;rw [midI,w64 (x:=a.length+1) (by omega)<|by omega];refine ⟨rfl,bT o<|za (λe=> ?_) λe=>xG<|by rw [e];simp [lE f]⟩;rw [e] at g ⊢;rw [ri rfl] at g;rw [ri rfl,wx,<-jL]
  let ⟨w,v,y,l'⟩:=t
  refine ⟨⟨rfl,by omega,o,rfl⟩,_,i,_,r, ?_⟩;rw [Z6];exact g
def c_rloose:∀t,t.sz<=B->bd 2305843009213693952 t->∀k:Int,0<=k->k+t.sz<=2305843009213693952->AC Tryz.prog 74 [aT t,ci k] [] (ci<|vh t k) []:=by
 refine Tm.ind λt ih g f k j i=> ?_;have b:=Tm.szs_length t.l;have o:=c_rinner t
 let ⟨kd,s,n,l⟩:=t
 simp [Tm.sz,Tm.l] at g b i;refine acv (v74 kd s n (FTs l) k _ _) ?_;refine za (λh=>xG ?_) λh=>⟨_,o, ?_⟩
 .have:=f.1 (by simpa using h);rw [w64 (x:=n-k) (by omega)<|by omega,w64 (x:=n-k+1) (by omega)<|by omega,Z6,vh,ri h]
 .have m:0<=Tm.by (.mk kd s n [])/\Tm.by (.mk kd s n [])<=1:=by unfold Tm.by;split<;>omega
  have:=d8 kd s n (Tm.inner<|.mk kd s n l) k j (by omega) l [] 0 (λu d=>ih u d (by have:=Tm.szs_mem d;omega) (vW f.2 d) _ (by omega)<|by have:=Tm.szs_mem d;omega) (by simp [s8];omega)<|rk _
  rw [show vh (.mk kd s n l) k=maxI 0 (if Tm.inner (.mk kd s n l)=true then wx l (k+Tm.by (.mk kd s n [])) else 0) from ?_]
  .exact this
  .rw [vh,r8<|by rw [h];simp];have e:Tm.by (.mk kd s n [])=if (kd==5)=true then 1 else 0:=rfl
   rw [e];show (if (kd==5||kd==6)=true then _ else _)=maxI 0 (if (kd==5||kd==6)=true then _ else _)
   split
   .have:=qy l<|k+if (kd==5)=true then 1 else 0
    unfold maxI;rw [ri this]
   .unfold maxI;rfl
abbrev t0:Tm:= .mk 0 [] 0 []
def gU (s:Hp)(a:Int):Tm:=
 if (zk s.C a).t=0 then .mk 0 (uc s.N (zk s.C a).a) 0 []
 else if (zk s.C a).t=1 then .mk 1 [] (zk s.C a).a []
 else if (zk s.C a).t=2 then .mk 2 [] (zk s.C a).a []
 else if (zk s.C a).t=3 then .mk 3 [] (zk s.C a).a []
 else if (zk s.C a).t=4 then .mk 4 [] a []
 else t0
def xy (F:Rd->Int->Tm×Rd):List Int->Tm->Rd->Tm×Rd
 |[],t,r=>(t,r)
 |x::l,t,r=>xy F l (zt t [(F r x).1]) (F r x).2
def fullG (F:Rd->Int->Tm×Rd)(h:(Int×List Int)×Rd):=
 if h.2.e≠0 then (t0,h.2)
 else if (zk h.2.s.C h.1.1).t=6 then (xv 1 (F h.2 (zk h.2.s.C h.1.1).a).1,(F h.2 (zk h.2.s.C h.1.1).a).2)
 else xy F h.1.2 (gU h.2.s h.1.1) h.2
def fulR (N:Nat):Nat->Rd->Int->Tm×Rd
 |0,r,_=>(t0,r)
 |n+1,r,a=>fullG (fulR N n)<|zR N r a
def cP:∀(l) (f) (r),r.e≠0->(vT l f r).2=r
 |[],_,_,_=>rfl
 |x::l,f,r,h=>by
  have:(putR r ⟨7,f,x,0,0⟩).2=r:=by rw [putR,r8 h]
  rw [vT,this];exact cP l _ r h
def apps_f:∀(l) (f) (r),(vT l f r).2.f=r.f
 |[],_,_=>rfl
 |x::l,f,r=>by rw [vT,apps_f l,Jb]
def keep_err {r a b}(h:r.e≠0):yi r a b=r:=by rw [yi,r8 λq=>h q.1]
def W6:∀(n) (l) (b) (a) (r),2*r.f.toNat+2<=n->((headL n l b a r).r.f)+(headL n l b a r).l.length<=r.f+l.length/\(headL n l b a r).r.f<=r.f/\
  ((headL n l b a r).r.e=0->(headL n l b a r).r.f+(headL n l b a r).l.length+1<=r.f+l.length/\0<=(headL n l b a r).r.f)
 |0,_,_,_,_,h=>absurd h (by omega)
 |n+1,l,b,a,r,u=>by
  have d:=jO r a;rw [headL];split
  .rename_i q;exact ⟨rk _,rk _,λw=>absurd w q⟩
  .split
   .rename_i q;exact ⟨by have:=d.1;dsimp only;omega,d.1,λw=>absurd w q⟩
   .rename_i q
    let ⟨i,p⟩:=d.2 (by simpa using q)
    split
    .have ih:=W6 n ((zd r a).1.1.b::l) b (zd r a).1.1.a (zd r a).2 (by omega);simp [r6] at ih;exact ⟨by omega,by omega,λw=>by have:=ih.2.2 w;omega⟩
    .split
     .have j:=cK n (zd r a).2 (zd r a).1.1;have m:=KW (zm n (zd r a).2 (zd r a).1.1).2 (zd r a).1.2 (zm n (zd r a).2 (zd r a).1.1).1;have ih:=W6 n l b (zm n (zd r a).2 (zd r a).1.1).1 (yi (zm n (zd r a).2 (zd r a).1.1).2 (zd r a).1.2 (zm n (zd r a).2 (zd r a).1.1).1) (by omega);exact ⟨by omega,by omega,λw=>by have:=ih.2.2 w;omega⟩
     .split
      .split
       .exact ⟨by dsimp only;omega,d.1,λ_=>⟨by dsimp only;omega,by dsimp only;omega⟩⟩
       .rename_i o;have g:=beta_f (zd r a).2 (zd r a).1.1.a<|l.headD 0
        have ih:=W6 n l.tail true (ug (zd r a).2 (zd r a).1.1.a<|l.headD 0).1 (ug (zd r a).2 (zd r a).1.1.a<|l.headD 0).2 (by omega);have:l.tail.length<=l.length:=by simp
        exact ⟨by omega,by omega,λw=>by have:=ih.2.2 w;omega⟩
      .exact ⟨by dsimp only;omega,d.1,λ_=>⟨by dsimp only;omega,by dsimp only;omega⟩⟩
def KJ (n r a)(d:2*r.f.toNat+2<=n):(zR n r a).2.f<=r.f/\((zR n r a).2.e=0->(zR n r a).2.f+(zR n r a).1.2.length+1<=r.f/\0<=(zR n r a).2.f):=by
 have h:=W6 n [] false a r d;simp [rv] at h;unfold zR uS;generalize headL n [] false a r=z at*
 let ⟨l,b,g,r'⟩:=z
 dsimp only at h ⊢;split
 .by_cases q:r'.e=0
  .have:=h.2.2 q;rw [KW,apps_f];exact ⟨h.2.1,λ_=>⟨by omega,this.2⟩⟩
  .rw [cP _ _ _ q,keep_err q];exact ⟨h.2.1,λw=>absurd w q⟩
 .exact ⟨h.2.1,λw=>⟨by have:=(h.2.2 w).1;omega,(h.2.2 w).2⟩⟩
def u6 (t u):(zt t [u]).sz<=1+t.sz+u.sz:=by
 have:=wY t [u];simp [Tm.szs] at this;omega
def ak (F:Rd->Int->Tm×Rd)(m:Int):Prop:=∀(r:Rd) (a:Int),OkR r->r.f<=m->OkR (F r a).2/\(F r a).2.f<=r.f/\(F r a).1.sz+3*(F r a).2.f.toNat<=3*r.f.toNat+1
def cg {F m}(d:ak F m):∀(l) (t) (r),OkR r->r.f<=m->OkR (xy F l t r).2/\(xy F l t r).2.f<=r.f/\(xy F l t r).1.sz+3*(xy F l t r).2.f.toNat<=3*r.f.toNat+t.sz+2*l.length
 |[],t,r,b,_=>⟨b,rk _,by simp [xy,rv];omega⟩
 |x::l,t,r,b,e=>by
  let ⟨g,h,i⟩:=d r x b e
  have ih:=cg d l (zt t [(F r x).1]) (F r x).2 g (by omega);have:=u6 t (F r x).1;rw [xy];simp [r6];exact ⟨ih.1,by omega,by omega⟩
def leafR_sz (s a):(gU s a).sz=1/\(gU s a).l=[]:=by
 unfold gU;split
 .exact ⟨rfl,rfl⟩
 .split
  .exact ⟨rfl,rfl⟩
  .split
   .exact ⟨rfl,rfl⟩
   .split
    .exact ⟨rfl,rfl⟩
    .split<;>exact ⟨rfl,rfl⟩
def ZU (N):∀(n) (m),2*m.toNat+2<=N->m.toNat<n->ak (fulR N n) m
 |0,_,_,h=>absurd h (by omega)
 |n+1,m,u,v=>λr a f p=>by
  have d:=KJ N r a (by omega);have b:=OkR.head N a f;rw [fulR];unfold fullG;split
  .exact ⟨b,d.1,by show (t0.sz)+_<=_;have:t0.sz=1:=rfl;rw [this];have:=d.1;dsimp only;omega⟩
  .rename_i q
   let ⟨i,j⟩:=d.2 (by simpa using q)
   have ih:m-1<0\/ak (fulR N n) (m-1):=by
    by_cases h:m-1<0
    .exact .inl h
    .exact .inr<|ZU N n (m-1) (by omega)<|by omega
   rcases ih with ih|ih
   .omega
   split
   .let ⟨g,w,o⟩:=ih (zR N r a).2 (zk (zR N r a).2.s.C (zR N r a).1.1).a b (by omega)
    refine ⟨g,by dsimp only;omega, ?_⟩
    have e:(xv 1 (fulR N n (zR N r a).2 (zk (zR N r a).2.s.C (zR N r a).1.1).a).1).sz=1+(fulR N n (zR N r a).2 (zk (zR N r a).2.s.C (zR N r a).1.1).a).1.sz:=by
     simp only [xv,Tm.sz,Tm.szs];omega
    dsimp only;rw [e];omega
   .have:=cg ih (zR N r a).1.2 (gU (zR N r a).2.s (zR N r a).1.1) (zR N r a).2 b (by omega);have e:=(leafR_sz (zR N r a).2.s (zR N r a).1.1).1;exact ⟨this.1,by omega,by omega⟩
abbrev FullC (F:Rd->Int->Tm×Rd)(m:Int):=∀(r) a,OkR r->r.f<=m->AC Tryz.prog 120 [aRd,ci a] (oRd r) (aT (F r a).1) (oRd' (F r a).2)
abbrev stFu (r:Rd)(l:List Int)(z t:Tm)(x:FV)(i:Int):St:=
 ⟨[(0,aRd),(4, .c<|.a<|.ep 9 4 0 0),(8, .c<|.a<|.ep 10 4 0 0),(71, .c<|qf<|.sl false 1<|IR l),(72,ci l.length),(73,ci i)],
  [(0,rd3 1 r),(1,hp6 6 7 8 5 r.s),(2, .gone),(3, .gone),(4, .gone),(5, .mapz<|NM r.s.N 0),(6, .arz 5<|CR r.s.C),(7, .arz 7<|TR r.s.T),(8, .arz 1<|NR r.s.N),(9, .arr 4 [[qi z.k,qf<|.str z.s,qi z.n,qf .N]]),(10, .arr 4 [[qi t.k,qf<|.str t.s,qi t.n,qf x]])],11⟩
def dy {F m}(i:FullC F m)(u:ak F m)(z d)(h:d.length<=1000000000):∀(l b) (t) (r),d=b++l->OkR r->r.f<=m->t.sz+3*r.f.toNat+2*l.length<=1000000000->
  RPt Tryz.prog 120 6 (aT (xy F l t r).1) (oRd' (xy F l t r).2) 3 (stFu r d z t (.sl false 4<|FTs t.l) b.length)
 |[],b,t,r,e,ok,_,_=>by
  rw [rF] at e
  let ⟨C,y,v,p⟩:=t
  refine rpv (iS ..) ?_;exact bF (by rw [e];omega) rrl
 |x::l,b,t,r,e,ok,o,H=>by
  have D:=i r x ok o
  let ⟨I,L,J⟩:=u r x ok o
  have j:d.length=b.length+(l.length+1):=by rw [e];simp
  simp [r6] at H;have p:=t.sz_eq;have A:=Tm.szs_length t.l;have E:=vI t [(F r x).1] (by simp [rY];omega);have K:=u6 t (F r x).1;have g:b.length<d.length:=by omega
  have G:List.getD (IR d) (Int.toNat b.length) []=[.int .i64 x]:=by
   rw [rt,w9 g];simp [e]
  rw [xy];have nx:=dy i u z d h l (b++ [x]) (zt t [(F r x).1]) (F r x).2 (by rw [e];simp) I (by omega) (by omega);rw [show (((b++ [x]).length))=b.length+1 by simp] at nx;refine rpv (iS ..) ?_;rw [G,w64 (x:=b.length+1) (by omega)<|by omega];refine za (λ_=>⟨⟨rfl,by omega,by rw [zn];omega,rfl⟩,_,D,⟨rfl,r9 _⟩,zt t [(F r x).1], ?_,nx⟩) (λw=>absurd (rg w)<|by omega)
  let ⟨C,y,v,p⟩:=t
  rw [show [FT4 (F r x).1]=FTs [(F r x).1] by rw [wL];rfl];exact E
def l_rfulla {F m}(b:FullC F m)(e:ak F m)(z l)(g:l.length<=1000000000)(k n s r)(ok:OkR r)(d:r.f<=m)(o:1+3*r.f.toNat+2*l.length<=1000000000):
  RPt Tryz.prog 120 6 (aT (xy F l (.mk k s n []) r).1) (oRd' (xy F l (.mk k s n []) r).2) 3 (stFu r l z (.mk k s n []) .N 0):=by
 cases l with
 |nil=>
  refine rpv (nI ..) ?_;exact bF (by decide) ⟨leT (l:=[]) xL,rfl⟩
 |cons x l=>
  have h:=b r x ok d
  let ⟨p,A,u⟩:=e r x ok d
  simp [r6] at o g;have i:=(vI (.mk k s n []) [(F r x).1]<|by simp only [rY,Tm.l,rv];omega).args (args:=[.agg [qi k,qf<|.str s,qi n,qf .N],aL [(F r x).1]]) ⟨leT xL, .refl _,trivial⟩;have y:=u6 (.mk k s n []) (F r x).1;have v:(Tm.mk k s n []).sz=1:=rfl;have nx:=dy b e z (x::l) (by simp [r6];omega) l [x] (zt (.mk k s n []) [(F r x).1]) (F r x).2 rfl p (by omega) (by omega);rw [xy];refine rpv (nI ..) ?_;have j:List.getD (IR<|x::l) (Int.toNat 0) []=[.int .i64 x]:=rfl;rw [j,show wrap .i64 (0+1)=1 from w64 (by omega)<|by omega];refine za (λ_=>⟨⟨rfl,rk _,by rw [zn];simp only [r6];omega,rfl⟩,_,h,⟨rfl,r9 _⟩,zt (.mk k s n []) [(F r x).1], ?_,nx⟩) (λw=>absurd (rg w)<|by simp only [r6];omega);rw [show [FT4 (F r x).1]=FTs [(F r x).1] by rw [wL];rfl];exact i
def iN (N):∀(n) (m),2*m.toNat+2<=N->m.toNat<n->m<=100000000->FullC (fulR N n) m
 |0,_,_,h,_=>absurd h (by omega)
 |n+1,m,K,L,T=>λr a ok M=>by
  have I:=KJ N r a (by omega);have D:=OkR.head N a ok;have E:=lH N r a ok (by omega) (by omega);have J:=xZ (zR N r a).2.s (zR N r a).1.1;have nm:=Wu (zR N r a).2.s (zk (zR N r a).2.s.C (zR N r a).1.1).a
  have e0:fulR N (n+1) r a=if (zR N r a).2.e≠0 then (t0,(zR N r a).2)
   else if (zk (zR N r a).2.s.C (zR N r a).1.1).t=6 then (xv 1 (fulR N n (zR N r a).2 (zk (zR N r a).2.s.C (zR N r a).1.1).a).1,(fulR N n (zR N r a).2 (zk (zR N r a).2.s.C (zR N r a).1.1).a).2)
   else xy (fulR N n) (zR N r a).1.2 (gU (zR N r a).2.s (zR N r a).1.1) (zR N r a).2:=rfl
  have ih:m-1<0\/FullC (fulR N n) (m-1)/\ak (fulR N n) (m-1):=by
   by_cases h:m-1<0
   .exact .inl h
   .exact .inr ⟨iN N n (m-1) (by omega) (by omega)<|by omega,ZU N n (m-1) (by omega)<|by omega⟩
  unfold gU at e0;generalize zR N r a=h at*
  let ⟨⟨hd,xs⟩,⟨f,b,g⟩⟩:=h
  dsimp only at*;refine acv (v120 ..) ?_;refine ⟨(hd,xs,⟨f,b,g⟩),E,zQ (λq=> ?_) λq=>⟨_,_,_,_,_,_,J, ?_⟩⟩
  .rw [ri q] at e0;rw [e0];exact ⟨leT (l:=[]) xL,rfl⟩
  .rw [r8 λw=>w q] at e0
   let ⟨O,S⟩:=I.2 q
   rcases ih with ih|⟨u,y⟩
   .omega
   have o:∀(k v) d,RPt Tryz.prog 120 6 (aT (xy (fulR N n) xs (.mk k d v []) ⟨f,b,g⟩).1) (oRd' (xy (fulR N n) xs (.mk k d v []) ⟨f,b,g⟩).2) 3 (stFu ⟨f,b,g⟩ xs t0 (.mk k d v []) .N 0):=
    λk v d=>l_rfulla u y t0 xs (by omega) k v d ⟨f,b,g⟩ D (by dsimp only;omega) (by dsimp only;omega)
   have G:(((IR xs).length))=xs.length:=by rw [zn]
   refine zl (λz=> ?_) λz=> ?_
   .rw [ri z] at e0;have H:=u ⟨f,b,g⟩ (zk f.C hd).a D (by dsimp only;omega);have F:=gg 1 (fulR N n ⟨f,b,g⟩ (zk f.C hd).a).1 (by omega);rw [e0];exact ⟨_,H,_,F, .refl _,rfl⟩
   .rw [r8 z] at e0;rw [G];refine zl (λi=> ?_) λi=>zl (λj=> ?_) λj=>zl (λp=> ?_) λp=>zl (λx=> ?_) λx=>zl (λA=> ?_) λA=> ?_
    .rw [ri i] at e0;rw [e0];exact ⟨_,nm,rfl,o 0 0 _⟩
    .rw [r8 i,ri j] at e0;rw [e0];exact ⟨rfl,o 1 _ []⟩
    .rw [r8 i,r8 j,ri p] at e0;rw [e0];exact ⟨rfl,o 2 _ []⟩
    .rw [r8 i,r8 j,r8 p,ri x] at e0;rw [e0];exact ⟨rfl,o 3 _ []⟩
    .rw [r8 i,r8 j,r8 p,r8 x,ri A] at e0;rw [e0];exact ⟨rfl,o 4 _ []⟩
    .rw [r8 i,r8 j,r8 p,r8 x,r8 A] at e0;rw [e0];exact ⟨rfl,o 0 0 []⟩
mutual
def occF:Tm->Int->Nat
 |.mk k _ n l,i=>if (k==3)=true/\(n==i)=true then 1 else occL l<|i+if (k==5)=true then 1 else 0
def occL:List Tm->Int->Nat
 |[],_=>0
 |t::l,i=>occF t i+occL l i
end
mutual
def occF_le:∀(t:Tm) (i:Int),occF t i<=t.sz
 |.mk k s n l,i=>by
  rw [occF];have:=fR l<|i+if (k==5)=true then 1 else 0
  split<;>simp only [Tm.sz]<;>omega
def fR:∀(l:List Tm) (i:Int),occL l i<=Tm.szs l
 |[],_=>r9 _
 |t::l,i=>by have:=occF_le t i;have:=fR l i;simp only [occL,Tm.szs];omega
end
def c9 (i):∀(b a) (acc),(∀u∈b,AC Tryz.prog 231 [aT u,ci i] [] (ci<|occF u i) [])->(a++b).length<=B->acc+occL b i<=2*B->
  RPt Tryz.prog 231 0 (ci<|(acc+occL b i:Nat)) [] 3 ⟨[(1,ci i),(5,ci acc),(21,aL<|a++b),(22,ci<|((FTs<|a++b).length)),(23,ci a.length)],[],0⟩
 |[],a,acc,_,_,_=>by
  refine rpv (mT ..) ?_;exact bF (geI' a)<|xG<|by simp [occL]
 |t::b,a,acc,ih,j,r=>by
  have d:=j;simp [re,r6,B] at d;simp [occL,B] at r;have p:=ih t rn;have h:=c9 i b _ (acc+occF t i) (λu o=>ih u<|rh _ o) (by rw [ap];exact j) (by simp [B];omega);have f:=ltI' a t b;rw [ap,nx] at h;refine rpv (mT ..) ?_;rw [midI,w64 (x:=a.length+1) (by omega)<|by omega];refine bT f<|?_
  rw [occL,<-tm]
  let ⟨m,e,g,l'⟩:=t
  refine ⟨⟨rfl,by omega,f,rfl⟩,_,p, ?_⟩;rw [w64 (by omega)<|by omega,show acc+((occF (.mk m e g l') i))=((acc+occF (.mk m e g l') i)) by omega];exact h
def c_occurs:∀t,t.sz<=B->∀i:Int,0-2305843009213693952<=i->i+t.sz<=2305843009213693952->AC Tryz.prog 231 [aT t,ci i] [] (ci<|occF t i) []:=by
 refine Tm.ind λt ih r i x v=> ?_;have f:=Tm.szs_length t.l
 let ⟨k,s,n,l⟩:=t
 simp [Tm.sz,Tm.l,B] at r f v
 have b:∀j:Int,0-2305843009213693952<=j->j+Tm.szs l<=2305843009213693952->RPt Tryz.prog 231 0 _ [] 3 ⟨[(1,ci j),(5,ci 0),(21,aL l),(22,ci<|((FTs l).length)),(23,ci 0)],[],0⟩:=λj g p=>by
  have w:=fR l j;have:=c9 j l [] 0 (λu m=>ih u m (by have:=Tm.szs_mem m;simp [B];omega) j g<|by have:=Tm.szs_mem m;omega) (by simp [s8,B];omega) (by simp [B];omega);rw [rD] at this;exact this
 refine acv (v231 k s n _ i _ _) ?_;have o:∀c,occF (.mk k s n l) i=occL l _:=λc=>by rw [occF,r8 c]
 refine za (λh=>za (λd=>xG ?_) λd=>⟨rfl, ?_⟩) λh=>za (λd=>⟨rfl, ?_⟩) λd=>⟨rfl, ?_⟩
 .rw [occF,ri ⟨h,d⟩];rfl
 .have e:k=3:=by simpa using h
  rw [o λc=>by rw [c.2] at d;cases d];subst e;rw [show (i+if ((3:Int)==5)=true then 1 else 0)=i by simp]
  exact b i (by omega) (by omega)
 .rw [o (λc=>by rw [c.1] at h;cases h),ri d,w64 (by omega)<|by omega];exact b _ (by omega) (by omega)
 .rw [o (λc=>by rw [c.1] at h;cases h),r8<|by rw [d];simp,Int.add_zero];exact b i (by omega) (by omega)
def c_clone:(∀es,es ≠ []->es.length<=B->AC Tryz.prog 149 [.c<|qf<|.sl false 4 es] [] (.c<|.a<|.osl 0 4 0 es.length) [.arz 4 es])/\AC Tryz.prog 149 [.c<|qf<|.sl false 4 []] [] (.c<|qf<|.sl false 4 []) []:=by
 have b:AC Tryz.prog 149 [.c<|qf .N] [] (.c<|qf .N) []:=by
  refine acv (v149 ..) ?_;exact rrl
 have e:∀es,es.length<=B->AC Tryz.prog 149 [.c<|qf<|.sl true 4 es] [] (.c<|.a<|.osl 0 4 0 es.length) [.arz 4 es]:=λes d=>by
  refine acv (v149_i1 ..) ?_;refine ⟨rfl,⟨by omega,by rw [rD];exact vk<|by simp [B] at d;omega⟩, ?_⟩;rw [rD];exact rrl
 exact AC.clone_le b e
def lK (t)(b:t.sz<=B)(i:Int)(g:0-2305843009213693952<=i)(d:i+t.sz<=2305843009213693952):AC Tryz.prog 228 [aT t,ci i] [] (ci (if zj t=true then (occF t i) else 0)) []:=by
 have f:=kx t b;have e:=c_occurs t b i g d
 let ⟨k,s,n,l⟩:=t
 refine acv (v228 k s n _ i _ _) ?_;refine ⟨_,f,za (λh=>xG ?_) λh=>⟨_,e,xG ?_⟩⟩
 .rw [r8<|by simpa using h]
 .rw [ri<|by simpa using h]
abbrev aTE (t:Tm)(e:Int):TV:= .tup [(true,[qi t.k,qf<|.str t.s,qi t.n,qf<|.sl false 4<|FTs t.l]),(false,[qi e])]
abbrev noT:Tm:= .mk 0 [] 0 []
def leTE {k n e s x l}(h:FV.Le x<|.sl false 4<|FTs l):TV.Le (.tup [(true,[qi k,qf<|.str s,qi n,qf x]),(false,[qi e])]) (aTE (.mk k s n l) e):=by
 refine .tup _ _ rfl λi p q f g=> ?_
 match i,f,g with
 |0,f,g=>
  simp [sd,rc] at f g;subst f;subst g;refine ⟨rfl,rfl,λj x y b d=> ?_⟩
  match j,b,d with
  |0,b,d=>simp at b d;subst b;subst d;exact .refl _
  |1,b,d=>simp at b d;subst b;subst d;exact .refl _
  |2,b,d=>simp at b d;subst b;subst d;exact .refl _
  |3,b,d=>simp at b d;subst b;subst d;exact .a _ _<|.fz _ _ h
  |j+4,b,_=>simp at b
 |1,f,g=>
  simp [sd,sN,rc] at f g;subst f;subst g;refine ⟨rfl,rfl,λj x y b d=> ?_⟩
  match j,b,d with
  |0,b,d=>simp at b d;subst b;subst d;exact .refl _
  |j+1,b,_=>simp at b
 |i+2,f,_=>simp at f
def hd (l:List Tm):=l.headD default
mutual
def okB:Tm->Bool
 |.mk k s n l=>(if (k==6)=true then decide (2<=l.length)&&(hd l).k !=6&&(s==[]&&n==0) else if (k==5)=true then decide (l.length=1)&&(s==[]&&n==0) else decide (l.length=0))&&okL l
def okL:List Tm->Bool
 |[]=>true
 |t::l=>okB t&&okL l
end
def vZ:∀ {l} {t},okL l=true->t∈l->okB t=true
 |x::l,t,h,hm=>by
  simp [okL,rf] at h;rcases rG.1 hm with rfl|hm
  .exact h.1
  .exact vZ h.2 hm
def mR:∀ {l},(∀t∈l,okB t=true)->okL l=true
 |[],_=>rfl
 |t::l,h=>by simp [okL,h t rn,mR (l:=l) λu b=>h u<|rh _ b,tc]
def okB6 {k n s l}(h:okB (.mk k s n l)=true)(b:k=6):∃x y r,l=x::y::r/\x.k≠6/\okL l=true:=by
 subst b;simp [okB,rf] at h
 match l,h with
 |[],h=>simp at h
 |[x],h=>simp at h
 |x::y::r,h=>exact ⟨x,y,r,rfl,by have:=h.1;simp [hd] at this;exact this.1,h.2⟩
def okB5 {k n s l}(h:okB (.mk k s n l)=true)(b:k=5):∃x,l=[x]/\okB x=true:=by
 subst b;simp [okB,rf] at h
 match l,h with
 |[],h=>simp at h
 |[x],h=>exact ⟨x,rfl,by have:=h.2;simpa [okL] using this⟩
 |x::y::r,h=>simp at h
def okB0 {k n s l}(h:okB (.mk k s n l)=true)(b:k≠5)(d:k≠6):l=[]:=by
 simp [okB,rf] at h;have:=h.1;rw [r8<|by simpa using d,r8<|by simpa using b] at this;exact ru (by simpa using this)
def okB_sn {k n s l}(h:okB (.mk k s n l)=true)(b:k=5\/k=6):s=[]/\n=0:=by
 simp [okB,rf] at h;have h:=h.1;rcases b with rfl|rfl
 .simp at h;exact h.2
 .simp at h;exact h.2
def okB_l {t}(h:okB t=true):okL t.l=true:=by
 let ⟨k,s,n,l⟩:=t
 simp [okB,rf] at h;exact h.2
mutual
def wJ:∀t:Tm,zj t=true->okB t=true
 |.mk k s n l,h=>by
  rw [okB];have hl:=Kb l;rw [zj] at h;split at h
  .rename_i e;have e:k=0:=by simpa using e
   subst e;rw [lenI] at h;have:l=[]:=by simp at h;exact h.2
   subst this;rfl
  split at h
  .rename_i e;have e:k=1:=by simpa using e
   subst e;rw [lenI] at h;have:l=[]:=by simp at h;exact h.1.2
   subst this;rfl
  split at h
  .rename_i e;have e:k=2:=by simpa using e
   subst e;rw [lenI] at h;have:l=[]:=by simp at h;exact h.1.2
   subst this;rfl
  split at h
  .rename_i e;have e:k=3:=by simpa using e
   subst e;rw [lenI] at h;have:l=[]:=by simp at h;exact h.1.2
   subst this;rfl
  split at h
  .rename_i e;have e:k=4:=by simpa using e
   subst e;rw [lenI] at h;have:l=[]:=by simp at h;exact h.1.2
   subst this;rfl
  split at h
  .rename_i e;have e:k=5:=by simpa using e
   subst e;rw [lenI] at h;simp only [rf,rT] at h;have h1:l.length=1:=by have:=h.1.2;omega
   rw [hl h.2];simp [h1,h.1.1.1,h.1.1.2]
  split at h
  .rename_i e;have e:k=6:=by simpa using e
   subst e;rw [lenI] at h;simp only [rf,rK,rT] at h;have h1:2<=l.length:=by have:=h.1.1.1.2;omega
   have h2:((hd l).k !=6)=true:=h.1.1.2;rw [hl h.2,h2];simp [h1,h.1.1.1.1,h.1.2]
  .cases h
def Kb:∀l:List Tm,yp l=true->okL l=true
 |[],_=>rfl
 |t::l,h=>by
  simp only [yp,rf] at h;simp only [okL,wJ t h.1,Kb l h.2,tc]
end
def ok_ne {t}(h:okB t=true):t.k=6->t.l ≠ []:=by
 let ⟨k,s,n,l⟩:=t
 intro b
 let ⟨x,y,r,e,_⟩:=okB6 h b
 show l ≠ [];rw [e];simp
abbrev zT:List WV:=[qi 0,qf<|.str [],qi 0,qf .N]
def Xy (k s n l a r):zt (.mk k s n l) (a::r)=if (k==6)=true/\l ≠ [] then .mk 6 [] 0 (l++a::r) else .mk 6 [] 0 (.mk k s n l::a::r):=rfl
def SZ:Nat:=130000000
def el0 (x l):FV.L 4 (.sl false 4<|FTs<|x::l)=true/\(0:Int)<=0/\0<(((FTs<|x::l).length):Int)/\(rE<|List.getD (FTs<|x::l) 0 [])=List.getD (FTs<|x::l) 0 []:=⟨rfl,rk _,by rw [lenI];simp only [r6];omega,ju x⟩
def leTB {k n b s x l}(h:FV.Le x<|.sl false 4<|FTs l):TV.Le (.tup [(true,[qi k,qf<|.str s,qi n,qf x]),(false,[qf<|.bool b])]) (.tup [(true,cT<|.mk k s n l),(false,[qf<|.bool b])]):=by
 refine .tup _ _ rfl λi p q f g=> ?_
 match i,f,g with
 |0,f,g=>
  simp [sd,rc] at f g;subst f;subst g;refine ⟨rfl,rfl,λj x y e d=> ?_⟩
  match j,e,d with
  |0,e,d=>simp at e d;subst e;subst d;exact .refl _
  |1,e,d=>simp at e d;subst e;subst d;exact .refl _
  |2,e,d=>simp at e d;subst e;subst d;exact .refl _
  |3,e,d=>simp at e d;subst e;subst d;exact .a _ _<|.fz _ _ h
  |j+4,e,_=>simp at e
 |1,f,g=>
  simp [sd,sN,rc] at f g;subst f;subst g;exact ⟨rfl,rfl,λj x y e d=>by rw [e] at d;injection d with d;subst d;exact .refl _⟩
 |i+2,f,_=>simp at f
def not_t {b}(h:(!b)=true):b=false:=by cases b<;>simp_all
def aO {b}(h:(!b)=false):b=true:=by cases b<;>simp_all
def Zz {f args}(g:okB f=true)(d:okL args=true):okB (zt f args)=true:=by
 match args,d with
 |[],_=>exact g
 |a::r,d=>
  let ⟨k,s,n,l⟩:=f
  rw [Xy];split
  .rename_i h;have m:k=6:=by simpa using h.1
   obtain ⟨x,y,r',rfl,i,j⟩:=okB6 g m
   have b:=mR λt ht=>by
    rcases rS.1 ht with ht|ht
    .exact vZ j ht
    .exact vZ d ht
   have o:(x.k !=6)=true:=by simpa using i
   rw [okB,b];simp [hd,i]
  .rename_i h;have i:k≠6:=λe=>h ⟨by simpa using e,ok_ne g e⟩;have b:okL (.mk k s n l::a::r)=true:=by simp [okL,rf] at d ⊢;exact ⟨g,d⟩
   rw [okB,b];simp [hd,Tm.k,i]
def withF_ok {k n s l o}(h:okB (.mk k s n l)=true)(g:k=5\/k=6)(d:okL o=true)(b:o.length=l.length):okB (vR (.mk k s n l) o)=true:=by
 obtain ⟨rfl,rfl⟩:=okB_sn h g;unfold vR;split
 .rename_i f
  match o,d,f with
  |[],_,f=>simp at f
  |x::r,d,f=>
   simp [okL,rf] at d;exact Zz d.1 d.2
 .rename_i f;show okB (.mk k [] 0 o)=true;rcases g with rfl|rfl
  .obtain ⟨x,rfl,_⟩:=okB5 h rfl;rw [okB,d];simp [r6,rv] at b;simp [b]
  .obtain ⟨x,y,r,rfl,j,_⟩:=okB6 h rfl;have i:¬(hd o).k=6:=λe=>f ⟨rfl,by rw [b];simp,by simpa [hd] using e,show (x.k !=6)=true by simpa using j⟩;rw [okB,d];simp [r6] at b;simp [b,i]
mutual
def dw (lf:Tm->Int->Tm)(h:∀u d,okB u=true->u.k≠5->u.k≠6->okB (lf u d)=true):∀(t:Tm) (d:Int),okB t=true->okB (yQ lf t d)=true
 |.mk k s n l,d,ho=>by
  rw [yQ];split
  .rename_i hk;exact withF_ok ho (by simpa using hk) (cJ lf h l _<|okB_l ho)<|qD ..
  .rename_i hk;exact h _ _ ho (λe=>hk<|by simp [show k=5 from e]) (λe=>hk<|by simp [show k=6 from e])
def cJ (lf:Tm->Int->Tm)(h:∀u d,okB u=true->u.k≠5->u.k≠6->okB (lf u d)=true):∀(l:List Tm) (d:Int),okL l=true->okL (yy lf l d)=true
 |[],_,_=>rfl
 |t::l,d,ho=>by
  simp only [okL,rf] at ho;simp only [yy,okL,dw lf h t d ho.1,cJ lf h l d ho.2,tc]
end
def okB_leaf {k n m s l}(h:okB (.mk k s n l)=true)(b:k≠5)(d:k≠6):okB (.mk k s m l)=true:=by
 have:l=[]:=okB0 h b d;subst this;simp [okB,b,d,okL]
def shT_ok {fr by_ t}(d)(h:okB t=true):okB (shT fr by_ t d)=true:=by
 refine dw _ (λu d b e f=> ?_) t d h;unfold vQ;split
 .let ⟨k,s,n,l⟩:=u;exact okB_leaf b e f
 .exact b
end Go.AM

set_option maxRecDepth 100000
open Go Go.Proofs

set_option maxRecDepth 100000
open Go Go.Proofs
namespace Go.AM
open Go.IntKind (wrap)
mutual
def mS:∀(t:Tm) (m:Int),0<=jY t m->(t.sz:Int)<=m-jY t m
 |.mk _ s _ l,m,h=>by
  simp only [jY] at h ⊢;have:=bc l (m-1) h;simp only [Tm.sz];omega
def bc:∀(l:List Tm) (m:Int),0<=ql l m->(Tm.szs l:Int)<=m-ql l m
 |[],m,h=>by simp [ql,Tm.szs]
 |t::l,m,h=>by
  simp only [ql] at h ⊢;split at h
  .rename_i h0;rw [ri h0];have h1:=bc l _ h;have h3:=(WG l<|jY t m).1;have h2:=mS t m (by omega);simp only [Tm.szs];omega
  .rename_i h0;exact absurd h h0
end
def dQ {t m}(h:large t m=false):t.sz<=m:=by
 have h:=rg h;have:=mS t m (by omega);omega
mutual
def lvB:Tm->Bool
 |.mk k s n l=>if (k==5||k==6)=true then lvL l else zj<|.mk k s n l
def lvL:List Tm->Bool
 |[]=>true
 |t::l=>lvB t&&lvL l
end
def jX:∀ {l} {t},lvL l=true->t∈l->lvB t=true
 |x::l,t,h,hm=>by
  simp [lvL,rf] at h;rcases rG.1 hm with rfl|hm
  .exact h.1
  .exact jX h.2 hm
def nU:∀ {l},(∀t∈l,lvB t=true)->lvL l=true
 |[],_=>rfl
 |t::l,h=>by simp [lvL,h t rn,nU (l:=l) λu b=>h u<|rh _ b,tc]
def wI {k n s l}(b:k=5\/k=6):lvB (.mk k s n l)=lvL l:=by
 rw [lvB,ri<|by rcases b with rfl|rfl<;>rfl]
def fF {k n s l}(d:k≠5)(b:k≠6):lvB (.mk k s n l)=zj (.mk k s n l):=by
 rw [lvB,r8<|by simp [d,b]]
def valid5 {s n l}:zj (.mk 5 s n l)=(n==0&&s==[]&&decide (l.length=1)&&yp l):=by
 rw [zj,lenI];simp [show (5==0)=false from rfl,show (5==1)=false from rfl,show (5==2)=false from rfl,show (5==3)=false from rfl,show (5==4)=false from rfl,rA,rI,show ((5:Int)==5)=true from rfl,rC];congr 2;by_cases h:l.length=1
 .rw [h];rfl
 .rw [sn h];simp;omega
def valid6 {s n l}:zj (.mk 6 s n l)=(n==0&&decide (2<=l.length)&&((hd l).k !=6)&&s==[]&&yp l):=by
 rw [zj,lenI];simp only [show ((6:Int)==0)=false from rfl,show ((6:Int)==1)=false from rfl,show ((6:Int)==2)=false from rfl,show ((6:Int)==3)=false from rfl,show ((6:Int)==4)=false from rfl,show ((6:Int)==5)=false from rfl,rA,rI,show ((6:Int)==6)=true from rfl,rC];congr 4;by_cases h:2<=l.length
 .rw [sH h,sH<|by omega]
 .rw [sn h,sn<|by omega]
mutual
def jA:∀t:Tm,zj t=(okB t&&lvB t)
 |.mk k s n l=>by
  by_cases h5:k=5
  .subst h5;rw [valid5,wI<|.inl rfl,qn l,okB];cases okL l<;>cases lvL l<;>simp [Bool.and_comm,tv,Bool.and_left_comm]
  .by_cases h6:k=6
   .subst h6;rw [valid6,wI<|.inr rfl,qn l,okB];cases okL l<;>cases lvL l<;>simp [Bool.and_comm,tv,Bool.and_left_comm]
   .rw [fF h5 h6];cases hv:zj (.mk k s n l) with
    |false=>simp
    |true=>rw [wJ _ hv];rfl
def qn:∀l:List Tm,yp l=(okL l&&lvL l)
 |[]=>rfl
 |t::l=>by
  rw [yp,okL,lvL,jA t,qn l];cases okB t<;>cases lvB t<;>simp
end
def W1 {t}(h:zj t=true):lvB t=true:=by rw [jA] at h;simp at h;exact h.2
def Yx {f args}(d:lvB f=true)(b:lvL args=true):lvB (zt f args)=true:=by
 match args,b with
 |[],_=>exact d
 |a::r,b=>
  let ⟨k,s,n,l⟩:=f
  rw [Xy];split
  .rename_i h;have e:k=6:=by simpa using h.1
   rw [wI<|.inr e] at d;rw [wI<|.inr rfl]
   exact nU λt ht=>by
    rcases rS.1 ht with ht|ht
    .exact jX d ht
    .exact jX b ht
  .rw [wI<|.inr rfl];simp [lvL,rf] at b ⊢;exact ⟨d,b⟩
def withF_lv {t o}(e:t.k=5\/t.k=6)(b:lvL o=true):lvB (vR t o)=true:=by
 let ⟨k,s,n,l⟩:=t
 unfold vR;split
 .rename_i d
  match o,b,d with
  |[],_,d=>exact absurd d.2.1 (by simp)
  |x::r,b,d=>
   simp [lvL,rf] at b;exact Yx b.1 b.2
 .exact (wI e).trans b
mutual
def d5 (lf:Tm->Int->Tm)(Q:Tm->Int->Prop)(hq:∀k s n l d,Q (.mk k s n l) d->∀u∈l,Q u<|d+if (k==5)=true then 1 else 0)(h:∀u d,lvB u=true->Q u d->u.k≠5->u.k≠6->lvB (lf u d)=true):∀(t:Tm) (d:Int),lvB t=true->Q t d->lvB (yQ lf t d)=true
 |.mk k s n l,d,ho,hQ=>by
  rw [yQ];split
  .rename_i hk;have hk:k=5\/k=6:=by simpa using hk
   rw [wI hk] at ho;exact withF_lv hk<|bz lf Q hq h l _ ho<|hq k s n l d hQ
  .rename_i hk;exact h _ _ ho hQ (λe=>hk<|by simp [show k=5 from e]) (λe=>hk<|by simp [show k=6 from e])
def bz (lf:Tm->Int->Tm)(Q:Tm->Int->Prop)(hq:∀k s n l d,Q (.mk k s n l) d->∀u∈l,Q u<|d+if (k==5)=true then 1 else 0)(h:∀u d,lvB u=true->Q u d->u.k≠5->u.k≠6->lvB (lf u d)=true):∀(l:List Tm) (d:Int),lvL l=true->(∀u∈l,Q u d)->lvL (yy lf l d)=true
 |[],_,_,_=>rfl
 |t::l,d,ho,hQ=>by
  simp only [lvL,rf] at ho;simp only [yy,lvL,d5 lf Q hq h t d ho.1<|hQ t rn,bz lf Q hq h l d ho.2 λu hu=>hQ u<|rh _ hu,tc]
end
def valid3 {s n l}:zj (.mk 3 s n l)=true↔0<=n/\n<=4611686018427387904/\s=[]/\l=[]:=by
 rw [zj,lenI];simp only [show ((3:Int)==0)=false from rfl,show ((3:Int)==1)=false from rfl,show ((3:Int)==2)=false from rfl,rA,rI,show ((3:Int)==3)=true from rfl,rC];simp only [rf,rK,rT];constructor
 .rintro ⟨⟨⟨⟨d,b⟩,e⟩,f⟩,_⟩;exact ⟨d,b,e,ru<|by omega⟩
 .rintro ⟨d,b,rfl,rfl⟩;exact ⟨⟨⟨⟨d,b⟩,rfl⟩,rfl⟩,rfl⟩
def lastT (l:List Tm):=l.getLastD default
def Wm (b:Tm):=zt (hd b.l) b.l.tail.dropLast
def wt (b:Tm):=b.k==6&&(lastT b.l).k==3&&(lastT b.l).n==0&&occF (Wm b) 0==0
def jP (b:Tm):=if wt b=true then shT 0 (-1) (Wm b) 0 else noT
mutual
def zw:Tm->Tm
 |.mk k s n l=>if (k==5)=true then (if wt (hd<|yn l)=true then jP (hd<|yn l) else .mk 5 [] 0 [hd<|yn l]) else if (k==6)=true then zt (hd<|yn l) (yn l).tail else .mk k s n l
def yn:List Tm->List Tm
 |[]=> []
 |t::l=>zw t::yn l
end
def Jx {k n:Int}{s:List UInt8}{l:List Tm}(h:okB (.mk k s n l)=true)(f:k=6):∃x a z,l=x::a++ [z]/\x.k≠6/\okB x=true/\okL a=true/\okB z=true:=by
 obtain ⟨x,y,r,rfl,d,b⟩:=okB6 h f;refine ⟨x,(y::r).dropLast,(y::r).getLast<|by simp,by rw [sL,List.dropLast_concat_getLast],d,vZ b rn,mR λu e=>vZ b<|rh _<|List.dropLast_subset _ e,vZ b<|rh _<|List.getLast_mem _⟩
def last_app (x a z):lastT (x::a++ [z])=z:=by
 rw [lastT,List.getLastD_eq_getLast?,List.getLast?_append];rfl
def Zd (k n s x a z):Wm (.mk k s n<|x::a++ [z])=zt x a:=by
 rw [Wm];show zt x ((a++ [z]).dropLast)=_;rw [List.dropLast_concat]
def drop6 {b}(h:wt b=true):b.k=6:=by
 simp [wt,rf,rT] at h;exact h.1.1.1
def drop0 {b}(h:wt b=true):occF (Wm b) 0=0:=by
 simp [wt,rf,rT] at h;exact h.2
def ca {b}(h:okB b=true)(j:b.k=6):okB (Wm b)=true/\(lvB b=true->lvB (Wm b)=true)/\(Wm b).sz<=b.sz/\∀M,bd M b->bd M (Wm b):=by
 let ⟨k,s,n,l⟩:=b
 have d:k=6:=j;obtain ⟨x,a,z,rfl,o,m,i,p⟩:=Jx h d;rw [Zd];refine ⟨Zz m i,λf=> ?_, ?_,λM g=> ?_⟩
 .rw [wI<|.inr d] at f;exact Yx (jX f rn)<|nU λu e=>jX f<|rh _<|sW _ e
 .have:=wY x a;simp [Tm.sz,sL,Tm.szs,Tm.szs_append];omega
 .exact Zx (vW g.2 rn)<|lD λu e=>vW g.2<|rh _<|sW _ e
def dB:∀ {l} {i},occL l i=0->∀u∈l,occF u i=0
 |x::l,i,h,u,hu=>by
  simp [occL] at h;rcases rG.1 hu with rfl|hu
  .omega
  .exact dB (l:=l) (by omega) u hu
def occ_kids {k n s l d}(h:occF (.mk k s n l) d=0):∀u∈l,occF u (d+if (k==5)=true then 1 else 0)=0:=by
 rw [occF] at h;split at h
 .cases h
 .exact dB h
def pn {t}(h:lvB t=true)(d)(i:occF t d=0)(hd:0<=d):lvB (shT 0 (-1) t d)=true:=by
 refine d5 _ (λu d=>occF u d=0/\0<=d) (λk s n l d g u b=>⟨occ_kids g.1 u b,by have:=g.2;split<;>omega⟩) (λu d b g p o=> ?_) t d h ⟨i,hd⟩;unfold vQ;split
 .rename_i f
  let ⟨k,s,n,l⟩:=u
  have j:k=3:=by have f:=f.1;have f:(k==3)=true:=f;simpa using f
  subst j;rw [fF (by decide)<|by decide,valid3] at b
  have m:n≠d:=λe=>by
   have:=g.1;rw [occF,ri ⟨rfl,by simp [e]⟩] at this;cases this
  have r:d+0<=n:=f.2;have:=g.2;show lvB (.mk 3 s (n+ -1) l)=true;rw [fF (by decide)<|by decide,valid3];exact ⟨by omega,by omega,b.2.2.1,b.2.2.2⟩
 .exact b
def ph {M}(j:1<=M){t}(h:bd M t)(d)(hd:0<=d):bd M (shT 0 (-1) t d):=by
 refine dp _ M M _ (λu g b i _=> ?_) t d h hd<|rk _
 unfold vQ;split
 .rename_i f
  let ⟨k,s,n,l⟩:=u
  exact ⟨λe=>by have:=b.1 e;have m:g+0<=n:=f.2;simp [Tm.n];omega,b.2⟩
 .exact b
def dropF_ok {b}(h:okB b=true)(hd:wt b=true):okB (jP b)=true/\(lvB b=true->lvB (jP b)=true)/\(jP b).sz<=b.sz/\∀M,1<=M->bd M b->bd M (jP b):=by
 let ⟨e,m,j,f⟩:=ca h<|drop6 hd
 rw [jP,ri hd];exact ⟨shT_ok 0 e,λg=>pn (m g) 0 (drop0 hd)<|rk _,sI (shT_sz ..) j,λM i d=>ph i (f M d) 0<|rk _⟩
mutual
def uE:∀t:Tm,okB t=true->okB (zw t)=true/\(lvB t=true->lvB (zw t)=true)/\(zw t).sz<=t.sz/\∀M,1<=M->bd M t->bd M (zw t)
 |.mk k s n l,h=>by
  have hl:=Jm l<|okB_l h
  rw [zw];split
  .rename_i h5;have h5:k=5:=by simpa using h5
   obtain ⟨x,rfl,hx⟩:=okB5 h h5;obtain ⟨g1,g2,g3,g4⟩:=hl;simp only [yn,okL,lvL,sU,Tm.szs] at g1 g2 g3 g4;show okB (if wt (zw x)=true then jP (zw x) else .mk 5 [] 0 [zw x])=true/\_
   rw [show hd (yn [x])=zw x from rfl];split
   .rename_i hd;obtain ⟨f1,f2,f3,f4⟩:=dropF_ok g1 hd;refine ⟨f1,λhl=>f2<|g2 ?_,by simp only [Tm.sz,Tm.szs];omega,λM hM hb=>f4 M hM (g4 M hM hb.2).1⟩;rw [wI<|.inl h5] at hl;simpa [lvL] using hl
   .refine ⟨by simp [okB,okL,g1],λhl=> ?_,by simp only [Tm.sz,Tm.szs];omega,λM hM hb=>⟨λe=>by omega,g4 M hM hb.2⟩⟩;rw [wI<|.inl h5] at hl;rw [wI<|.inl rfl];simp only [lvL,sU] at hl ⊢;exact g2 hl
  .split
   .rename_i h6;have h6:k=6:=by simpa using h6
    obtain ⟨x,y,r,rfl,_,_⟩:=okB6 h h6;obtain ⟨g1,g2,g3,g4⟩:=hl;rw [show hd (yn<|x::y::r)=zw x from rfl,show (yn<|x::y::r).tail=yn (y::r) from rfl];rw [show yn (x::y::r)=zw x::yn (y::r) from rfl] at g1 g2 g3 g4;simp only [okL,rf] at g1;refine ⟨Zz g1.1 g1.2,λhl=> ?_, ?_,λM hM hb=> ?_⟩
    .rw [wI<|.inr h6] at hl;have:=g2 hl;simp only [lvL,rf] at this;exact Yx this.1 this.2
    .have:=wY (zw x)<|yn<|y::r
     simp only [Tm.szs] at g3;simp only [Tm.sz,Tm.szs];omega
    .have:=g4 M hM hb.2;exact Zx this.1 this.2
   .exact ⟨h,λhl=>hl,r9 _,λM _ hb=>hb⟩
def Jm:∀l:List Tm,okL l=true->okL (yn l)=true/\(lvL l=true->lvL (yn l)=true)/\Tm.szs (yn l)<=Tm.szs l/\∀M,1<=M->bds M l->bds M (yn l)
 |[],_=>⟨rfl,λ_=>rfl,r9 _,λ_ _ _=>trivial⟩
 |t::l,h=>by
  simp only [okL,rf] at h;obtain ⟨a1,a2,a3,a4⟩:=uE t h.1;obtain ⟨b1,b2,b3,b4⟩:=Jm l h.2;refine ⟨by simp only [yn,okL,a1,b1,tc],λhl=> ?_,by simp only [yn,Tm.szs];omega,λM hM hb=>⟨a4 M hM hb.1,b4 M hM hb.2⟩⟩;simp only [lvL,rf] at hl;simp only [yn,lvL,a2 hl.1,b2 hl.2,tc]
end
def c_efree (t)(i:Int)(d:t.sz<=B)(e:0-2305843009213693952<=i)(b:i+t.sz<=2305843009213693952):AC Tryz.prog 216 [aT t,ci i] [] (cb<|zj t&&decide (occF t i>0)) []:=by
 have h:=lK t d i e b
 let ⟨k,s,n,l⟩:=t
 refine acv (v216 k s n _ i _ _) ?_;refine ⟨_,h,zg ?_⟩;cases zj _ with
 |false=>rfl
 |true=>simp
def lastI (x:Tm)(a:List Tm)(z:Tm)(b:a.length<=SZ):wrap .i64 ((((FTs<|x::a++ [z]).length:Nat):Int)-1)=((x::a).length:Int):=by
 rw [zb];simp only [SZ] at b;rw [w64 (by simp;omega)<|by simp;omega];simp
def KV:∀(b a acc),acc ≠ []->acc.length=a.length->(∀u∈b,AC Tryz.prog 161 [aT u] [] (aT<|zw u) [])->(a++b).length<=SZ->(hd<|acc++yn b).l.length<=B->
  RPt Tryz.prog 161 0 (aT<|zt (hd<|acc++yn b) (acc++yn b).tail) [] 3 ⟨[(2, .c<|.a<|.ep 0 4 0 0),(6, .c<|.a<|.osl 1 4 0 acc.length),(30,aL<|a++b),(31,ci<|((FTs<|a++b).length)),(32,ci a.length)],[(0, .arr 4 [zT]),(1, .arz 4<|FTs acc)],2⟩
 |[],a,acc,g,d,_,f,e=>by
  simp [yn,rF] at e f ⊢;refine rpv (iz ..) ?_
  match acc,g,d,e with
  |x::r,_,d,e=>
   simp [SZ,B,r6] at f d e;have e:x.l.length<=549755813888:=e;have i:=vI x r (by omega)
   have v:List.take (Int.toNat ((x::r).length)-1) (List.drop 1<|FTs<|x::r)=FTs r:=by
    rw [Ys,dm,rp<|by rw [zb];simp];rfl
   have p:aE (List.getD (FTs<|x::r) 0 [])=aT x:=jc x;rw [v,p];refine bF (by rw [zb];omega) ⟨⟨by omega,by simp⟩,⟨by rw [zb];simp, ?_,rfl⟩,⟨by omega,by simp;omega,rk _⟩,⟨rfl,by rw [Ys,zb];simp;omega⟩,_,i.args ⟨.refl _,le_c leSl,trivial⟩,Wz<|.refl _⟩;rw [show List.getD (FTs<|x::r) 0 []=FT x from rfl,ju,rR,rp<|by rw [kS];exact r9 _]
 |t::b,a,acc,g,d,ih,f,e=>by
  have j:=f;simp [re,r6,SZ] at j;have w:=ih t rn;have h:=KV b (a++ [t]) (acc++ [zw t]) (by simp) (by simp [d]) (λu y=>ih u<|rh _ y) (by rw [ap];exact f) (by rw [ap];exact e);have m:=ltI' a t b;rw [ap,ap,nx] at h;rw [yn];refine rpv (iz ..) ?_;rw [kf,w64 (x:=a.length+1) (by omega)<|by omega];refine bT m ⟨⟨rfl,by omega,m,u9 ..⟩,zw t,w,r9 _,⟨by rw [zb];omega,vk<|by omega⟩, ?_⟩;have o:List.take acc.length (FTs acc)++ [FT4<|zw t]=FTs (acc++ [zw t]):=by rw [rp<|by rw [zb];omega,wL,yA];rfl
  rw [o];rw [re] at h;exact h
abbrev M62:Int:=4611686018427387904
def nw (fr by_ d u)(p:u.k=3->0-M62<=u.n/\u.n<=M62)(i:0<=d)(o:d<=M61)(m:0<=fr)(v:fr<=M61)(g:0-1<=by_)(r:by_<=M61):
  AC Tryz.prog 179 [aT u,ci d, .c<|.a<|.ep 0 1 0 0, .c<|.a<|.ep 1 1 0 0] [obj1 fr,obj1 by_] (aT<|vQ fr by_ u d) [obj1 fr,obj1 by_]:=by
 let ⟨k,s,n,l⟩:=u
 simp [M62,M61,Tm.k,Tm.n] at*;refine acv (v179 k s n (FTs l) d fr by_ _ _) ?_;rw [w64 (by omega)<|by omega];refine za (λh=>za (λb=> ?_) λb=> ?_) λh=> ?_
 .have j:k=3:=by simpa using h
  have f:=ro b;have:=p j;have e:vQ fr by_ (.mk k s n l) d= .mk k s _ l:=ri ⟨h,f⟩;rw [e];exact ⟨_,c_moved (.mk k s n l) by_ (by simp [Tm.n];omega)<|by simp [Tm.n];omega, .refl _,rfl⟩
 .have f:=rg b;have e:vQ fr by_ _ d= .mk k s n l:=r8 λe=>f e.2;rw [e];exact rrl
 .have e:vQ fr by_ _ d= .mk k s n l:=r8 λe=>by have:=e.1;rw [show Tm.k _=k from rfl,h] at this;cases this
  rw [e];exact rrl
def c_shiftW (t fr by_)(g:t.sz<=B)(v:bd M62 t)(f:0<=fr)(j:fr<=M61)(e:0-1<=by_)(i:by_<=M61):
  AC Tryz.prog 148 [aT t,ci fr,ci by_] [] (aT<|shT fr by_ t 0) []:=by
 have h:=c_wSh fr by_ _ (λu _=>bd M62 u/\u.sz<=B) (λw s n l d b p u m=>⟨vW b.1.2 m,by have:=Tm.szs_mem m;have:=b.2;simp [Tm.sz] at this;omega⟩)
  (λu d p b r o=>nw fr by_ d u (by let ⟨k,s,n,l⟩:=u;exact b.1.1) r o f j e i)
  (λu d b=>by have:=shT_sz fr by_ u d;have o:=(shT fr by_ u d).sz_eq;have:=Tm.szs_length (shT fr by_ u d).l;have:=b.2;show (shT fr by_ u d).l.length<=_;omega)
  t g 0 ⟨v,g⟩ (rk _) (by simp [B] at g;omega)
 let ⟨k,s,n,l⟩:=t
 refine acv (v148 k s n _ fr by_ _ _) ?_;exact ⟨_,h, .refl _,rfl⟩
def c_edropW (b)(C:okB b=true)(U:lvB b=true)(F:b.sz<=SZ)(N:bd M62 b):AC Tryz.prog 191 [aT b] [] (.tup [(true,cT<|jP b),(false,[qf<|.bool<|wt b])]) []:=by
 have m:wt b=false->jP b=noT:=λh=>r8 (by rw [h];simp)
 let ⟨k,s,n,l⟩:=b
 have j:=Tm.szs_length l;simp [Tm.sz,SZ] at F;refine acv (v191 k s n (FTs l) _ _) ?_;refine ⟨rfl,za (λh=> ?_) λh=> ?_⟩
 .have hd:wt (.mk k s n l)=false:=by
   have h:(k !=6)=true:=h;rw [wt,show (Tm.k (.mk k s n l)==6)=false by show (k==6)=false;simpa using h];rfl
  rw [m hd,hd];exact ⟨leTB (l:=[]) xL,rfl⟩
 .have L:k=6:=by simpa using h
  subst L;obtain ⟨x,a,z,rfl,K,Y,Z,X⟩:=Jx C rfl
  let ⟨H,I,E,J⟩:=ca C rfl
  have hd:wt (.mk 6 s n<|x::a++ [z])=(z.k==3&&z.n==0&&occF (zt x a) 0==0):=by
   rw [wt,Zd,show Tm.l (.mk 6 s n<|x::a++ [z])=x::a++ [z] from rfl,last_app];rfl
  have p:wt (.mk 6 s n<|x::a++ [z])=true->jP (.mk 6 s n<|x::a++ [z])=shT 0 (-1) (zt x a) 0:=λh=>by rw [jP,ri h,Zd]
  rw [Zd] at H I E J;have v:a.length<=130000000:=by rw [re,r6] at j;omega
  rw [lastI x a z v];have G:FV.L 4 (.sl false 4<|FTs<|x::a++ [z])=true/\((0:Int)<=((x::a).length:Int)/\(((x::a).length:Int)<(((FTs<|x::a++ [z]).length:Nat):Int)/\(rE (List.getD (FTs<|x::a++ [z]) (Int.toNat ((x::a).length:Int)) []):List FV)=List.getD (FTs<|x::a++ [z]) _ [])):=⟨rfl,by omega,ltI' _ z [],u9 _ z []⟩;have D:List.getD _ _ []=FT z:=midI (x::a) z [];have S:FV.I (List.getD (List.getD (FTs<|x::a++ [z]) (Int.toNat ((x::a).length:Int)) []) 0 FV.N)=z.k:=by rw [D];cases z;rfl
  have V:FV.I (List.getD (List.getD (FTs<|x::a++ [z]) (Int.toNat ((x::a).length:Int)) []) 2 FV.N)=z.n:=by rw [D];cases z;rfl
  rw [S,V];refine ⟨G,za (λf=> ?_) λf=>⟨G,za (λe=> ?_) λe=>⟨el0 x<|a++ [z],rfl,⟨by omega,by simp [r6];omega,by rw [lenI,re];omega⟩, ?_⟩⟩⟩
  .have d:wt (.mk 6 s n<|x::a++ [z])=false:=by
    have f:(z.k !=3)=true:=f;rw [hd,show (z.k==3)=false by simpa using f];rfl
   rw [m d,d];exact ⟨leTB (l:=[]) xL,rfl⟩
  .have d:wt (.mk 6 s n<|x::a++ [z])=false:=by
    have e:(z.n !=0)=true:=e;rw [hd,show (z.n==0)=false by simpa using e];simp
   rw [m d,d];exact ⟨leTB (l:=[]) xL,rfl⟩
  .have O:aE (List.getD (FTs<|x::a++ [z]) 0 [])=aT x:=jc x
   have W:List.drop 1 (List.take (Int.toNat ((x::a).length:Int))<|FTs<|x::a++ [z])=FTs a:=by
    rw [Ys,FTs_take,dm,List.take_left];rfl
   rw [O,W];have M:x.l.length<=x.sz:=by have:=x.sz_eq;have:=Tm.szs_length x.l;omega
   have T:x.sz<=130000000:=by simp [sL,Tm.szs] at F;omega
   have o:=vI x a (by omega);have y:(zt x a).sz<=SZ:=by simp only [Tm.sz] at E;simp [SZ];omega
   have g:=c_efree (zt x a) 0 (by simp [SZ,B] at*;omega) (by omega) (by simp [SZ] at y;omega);have r:zj (zt x a)=true:=by rw [jA,H,I U];rfl
   rw [r,rO] at g;have w:=c_shiftW (zt x a) 0 (-1) (by simp [SZ,B] at*;omega) (J _ N) (rk _) (by simp only [M61];omega) (by omega) (by simp only [M61];omega)
   have A:(z.k==3)=true:=by
    have f:(z.k !=3)=false:=f;simpa using f
   have u:(z.n==0)=true:=by
    have e:(z.n !=0)=false:=e;simpa using e
   refine ⟨_,o,_,g,za (λi=> ?_) λi=> ?_⟩
   .have d:wt (.mk 6 s n<|x::a++ [z])=false:=by
     have i:=ro i;rw [hd,show (occF (zt x a) 0==0)=false by simp;omega,s7]
    rw [m d,d];exact ⟨leTB (l:=[]) xL,rfl⟩
   .have d:wt (.mk 6 s n<|x::a++ [z])=true:=by
     have i:=rg i;rw [hd,A,u,show (occF (zt x a) 0==0)=true by simp;omega];rfl
    rw [p d,d];exact ⟨_,w, .refl _,rfl⟩
def Jo:∀t,okB t=true->lvB t=true->t.sz<=SZ->bd M62 t->AC Tryz.prog 161 [aT t] [] (aT<|zw t) []:=by
 refine Tm.ind λt ih v p z A=> ?_;have i:=Tm.szs_length t.l;have b:=okB_l v
 let ⟨k,s,n,l⟩:=t
 simp [Tm.sz,Tm.l,SZ] at z i b;refine acv (v161 k s n (FTs l) _ _) ?_;refine za (λh=> ?_) λh=>za (λh'=>⟨rfl, ?_⟩) λh'=> ?_
 .have J:k=5:=by simpa using h
  subst J;obtain ⟨x,rfl,C⟩:=okB5 v rfl;rw [wI<|.inl rfl] at p;have g:lvB x=true:=by simpa [lvL] using p
  simp [Tm.szs] at z
  let ⟨F,H,K,I⟩:=uE x C
  have m:=ih x (rM.2 rfl) C g (by simp [SZ];omega) A.2.1;have D:=c_edropW (zw x) F (H g) (by simp [SZ];omega)<|I _ (by simp only [M62];omega) A.2.1
  have o:=gg 1 (zw x) (by omega);have e:zw (.mk 5 s n [x])=if wt (zw x)=true then jP (zw x) else .mk 5 [] 0 [zw x]:=by rw [zw,ri (show ((5:Int)==5)=true from rfl)];rfl
  rw [show aE (List.getD (FTs [x]) 0 [])=aT x from jc x,e];refine ⟨el0 x [],_,m,(jP<|zw x,wt<|zw x),D,za (λhd=> ?_) λhd=>⟨_,o, ?_⟩⟩
  .have hd:=hd;rw [ri hd];exact rrl
  .rw [r8<|by rw [show wt (zw x)=false from hd];simp];exact rrl
 .have G:k=6:=by simpa using h'
  subst G;obtain ⟨x,y,r,rfl,E,_⟩:=okB6 v rfl;rw [wI<|.inr rfl] at p;have f:∀u∈x::y::r,AC Tryz.prog 161 [aT u] [] (aT<|zw u) []:=λu d=>ih u d (vZ b d) (jX p d) (by have:=Tm.szs_mem d;simp [SZ];omega)<|vW A.2 d
  have C:=(uE x<|vZ b rn).2.2.1
  have w:(zw x).l.length<=B:=by
   have m:=(zw x).sz_eq;have D:=Tm.szs_length (zw x).l;simp [Tm.szs] at z;simp [B];omega
  have j:=KV (y::r) [x] [zw x] (by simp) rfl (λu d=>f u<|rh _ d) (show (x::y::r).length<=SZ by simp only [SZ];omega) w;have m:=f x rn;have o:=ltI' [] x<|y::r
  refine rpv (v161_3a ..) ?_;rw [show aE (List.getD (FTs<|x::y::r) (Int.toNat 0) [])=aT x from jc x,w64 (by omega)<|by omega];refine bT o ⟨⟨rfl,by omega,o,ju x⟩,zw x,m,r9 _,vk<|by omega, ?_⟩;rw [wL];exact j
 .have h:=h;have h':=h';rw [zw,r8<|by rw [h];simp,r8<|by rw [h'];simp];exact rrl
def Xg:∀t,zj t=true->bd M62 t:=by
 refine Tm.ind λt ih=> ?_;intro b
 let ⟨k,s,n,l⟩:=t
 have d:=λh=>by
  have key:∀l',(∀u∈l',u∈l)->yp l'=true->bds M62 l':=by
   intro l'
   induction l' with
   |nil=>intro _ _;trivial
   |cons u l' g=>
    intro i h;rw [yp,rf] at h;exact ⟨ih u (i u rn) h.1,g (λw j=>i w<|rh _ j) h.2⟩
  exact key l (λu m=>m) h
 rw [zj] at b;have nil:(((FTs l).length):Int)=0->l=[]:=λh=>ru (by rw [zb] at h;omega);show (k=3->0-M62<=n/\n<=M62)/\bds M62 l;split at b
 .rename_i h;have h:k=0:=by simpa using h
  simp only [rf,rT] at b;rw [nil b.2];exact ⟨λe=>by omega,trivial⟩
 .split at b
  .rename_i h;have h:k=1:=by simpa using h
   simp [rf] at b;exact ⟨λe=>by omega,d b.2⟩
  .split at b
   .rename_i h;have h:k=2:=by simpa using h
    simp [rf] at b;exact ⟨λe=>by omega,d b.2⟩
   .split at b
    .simp [rf,rK] at b;exact ⟨λ_=>⟨by simp [M62];omega,b.1.1.1.2⟩,d b.2⟩
    .rename_i f;split at b
     .simp [rf] at b;exact ⟨λe=>by rw [e] at f;exact absurd rfl f,d b.2⟩
     .split at b
      .simp [rf] at b;exact ⟨λe=>by rw [e] at f;exact absurd rfl f,d b.2⟩
      .split at b
       .simp [rf] at b;exact ⟨λe=>by rw [e] at f;exact absurd rfl f,d b.2⟩
       .cases b
def nz (t)(e:t.sz<=SZ):AC Tryz.prog 121 [aT t] [] (aT (if zj t=true then zw t else t)) []:=by
 have d:=kx t (by simp [SZ,B] at*;omega);have b:=λh=>Jo t (wJ t h) (W1 h) e<|Xg t h
 let ⟨k,s,n,l⟩:=t
 refine acv (v121 k s n (FTs l) _ _) ?_;refine ⟨_,d,za (λh=> ?_) λh=> ?_⟩
 .rw [r8<|by rw [not_t h];simp];exact rrl
 .rw [ri<|aO h];exact ⟨_,b<|aO h, .refl _,rfl⟩
def YD:∀ {xs ys:List (Bool×List FV)},All2 (λp q=>p.1=q.1/\LeR p.2 q.2) xs ys->TV.Le (.tup<|xs.map λp=>(p.1,fzs p.2)) (.tup<|ys.map λp=>(p.1,fzs p.2)):=λ{xs ys} h=>by
 have key:∀xs ys,All2 (λp q=>p.1=q.1/\LeR p.2 q.2) xs ys->xs.length=ys.length/\∀(i:Nat) (p q:Bool×List FV),xs[i]? =some p->ys[i]? =some q->p.1=q.1/\LeR p.2 q.2:=by
  intro xs
  induction xs with
  |nil=>intro ys h;cases ys with
   |nil=>exact ⟨rfl,λi p q b=>by simp at b⟩
   |cons=>exact h.elim
  |cons x xs ih=>intro ys h;cases ys with
   |nil=>exact h.elim
   |cons y ys=>
    let ⟨o,f⟩:=ih ys h.2
    refine ⟨by simp [o],λi p q b d=> ?_⟩;cases i with
    |zero=>simp at b d;subst b;subst d;exact h.1
    |succ i=>exact f i p q (by simpa using b) (by simpa using d)
 let ⟨o,f⟩:=key xs ys h
 refine .tup _ _ (by simp [o]) λi p q b d=> ?_;rw [rq] at b d;obtain ⟨A,r,rfl⟩:=r7.1 b;obtain ⟨D,e,rfl⟩:=r7.1 d
 let ⟨C,w⟩:=f i A D r e
 refine ⟨C,by simp [fzs,w.length],λj x y g v=> ?_⟩;dsimp only at g v;rw [fzs,rq] at g v;obtain ⟨z,m,rfl⟩:=r7.1 g;obtain ⟨E,u,rfl⟩:=r7.1 v;exact .a _ _<|.fz _ _<|w.get j z E m u
def ym (s:Hp)(a f:Int):=
 (if (zR (2*f.toNat+2) ⟨s,f,0⟩ a).2.e≠0 then ((0,[]),0,(zR (2*f.toNat+2) ⟨s,f,0⟩ a).2.e) else ((zR (2*f.toNat+2) ⟨s,f,0⟩ a).1,(zR (2*f.toNat+2) ⟨s,f,0⟩ a).2.f,0),(zR (2*f.toNat+2) ⟨s,f,0⟩ a).2.s)
abbrev tHd (x:(Int×List Int)×Int×Int):TV:= .tup [(true,[qi x.1.1,qf<|.sl false 1<|IR x.1.2]),(false,[qi x.2.1]),(false,[qi x.2.2])]
def gt (s a f)(h:OkH s)(f0:0-4611686018427387904<=f)(i:f<=100000000):AC Tryz.prog 167 [aH 0,ci a,ci f] (oH s) (tHd (ym s a f).1) (oH' (ym s a f).2):=by
 have ok:OkR ⟨s,f,0⟩:=⟨h,f0,by dsimp only;omega⟩;have e:=lH _ ⟨s,f,0⟩ a ok (r9 _) (by dsimp only;omega);unfold ym;generalize zR _ ⟨s,f,0⟩ a=z at*
 let ⟨⟨hd,xs⟩,⟨g,d,b⟩⟩:=z
 refine acv (v167 ..) ?_;refine ⟨(hd,xs,⟨g,d,b⟩),e,zQ (λq=> ?_) λq=> ?_⟩
 .dsimp only at q ⊢;rw [ri q];exact ⟨YD (xs:=[(true,[.int .i64 0, .N]),(false,[.int .i64 0]),(false,[.int .i64 b])]) (ys:=[(true,[.int .i64 0, .sl false 1<|IR []]),(false,[.int .i64 0]),(false,[.int .i64 b])]) ⟨⟨rfl, .refl _, .N 1,trivial⟩,⟨rfl, .refl _⟩,⟨rfl, .refl _⟩,trivial⟩,rfl⟩
 .dsimp only at q ⊢;rw [r8 λw=>w q];exact rrl
def yP (s:Hp)(a f:Int):=
 (if (fulR (2*f.toNat+2) (f.toNat+1) ⟨s,f,0⟩ a).2.e≠0 then (t0,0,(fulR (2*f.toNat+2) (f.toNat+1) ⟨s,f,0⟩ a).2.e)
  else (if zj (fulR (2*f.toNat+2) (f.toNat+1) ⟨s,f,0⟩ a).1=true then zw (fulR (2*f.toNat+2) (f.toNat+1) ⟨s,f,0⟩ a).1 else (fulR (2*f.toNat+2) (f.toNat+1) ⟨s,f,0⟩ a).1,(fulR (2*f.toNat+2) (f.toNat+1) ⟨s,f,0⟩ a).2.f,0),(fulR (2*f.toNat+2) (f.toNat+1) ⟨s,f,0⟩ a).2.s)
abbrev tFu (x:Tm×Int×Int):TV:= .tup [(true,cT x.1),(false,[qi x.2.1]),(false,[qi x.2.2])]
def og (s a f)(h:OkH s)(f0:0-4611686018427387904<=f)(m:f<=40000000):AC Tryz.prog 78 [aH 0,ci a,ci f] (oH s) (tFu (yP s a f).1) (oH' (yP s a f).2):=by
 have ok:OkR ⟨s,f,0⟩:=⟨h,f0,by dsimp only;omega⟩;have e:=iN _ (f.toNat+1) f (r9 _) (by omega) (by omega) ⟨s,f,0⟩ a ok<|rk _
 have j:=ZU (2*f.toNat+2) (f.toNat+1) f (r9 _) (by omega) ⟨s,f,0⟩ a ok<|rk _
 unfold yP;generalize fulR (2*f.toNat+2) (f.toNat+1) ⟨s,f,0⟩ a=z at*
 let ⟨t,⟨g,d,b⟩⟩:=z
 have i:=nz t (by have:=j.2.2;simp [SZ];dsimp only at this;omega);refine acv (v78 ..) ?_;refine ⟨(t,⟨g,d,b⟩),e,zQ (λq=> ?_) λq=> ?_⟩
 .dsimp only at q ⊢;rw [ri q];exact ⟨YD (xs:=[(true,[.int .i64 0, .str [], .int .i64 0, .N]),(false,[.int .i64 0]),(false,[.int .i64 b])]) (ys:=[(true,[.int .i64 0, .str [], .int .i64 0, .sl false 4<|FTs []]),(false,[.int .i64 0]),(false,[.int .i64 b])]) ⟨⟨rfl, .refl _, .refl _, .refl _, .N 4,trivial⟩,⟨rfl, .refl _⟩,⟨rfl, .refl _⟩,trivial⟩,rfl⟩
 .dsimp only at q ⊢;rw [r8 λw=>w q];exact ⟨_,i, .refl _,rfl⟩
def xe (s:Hp)(a u:Int):=
 if inC s.C a=false\/9<=(zk s.C a).t\/u<0 then ((0,1),s)
 else (if (wV ⟨s,0,0⟩ a u).2.e≠0 then (0,(wV ⟨s,0,0⟩ a u).2.e) else ((wV ⟨s,0,0⟩ a u).1,0),(wV ⟨s,0,0⟩ a u).2.s)
def c_pLift (s a u)(h:OkH s):AC Tryz.prog 245 [aH 0,ci a,ci u] (oH s) (t2 (xe s a u).1) (oH' (xe s a u).2):=by
 have ok:OkR ⟨s,0,0⟩:=⟨h,by dsimp only;omega,by dsimp only;omega⟩;have j:=xZ s a;have g:=ib ⟨s,0,0⟩ a u ok
 have e0:xe s a u=if inC s.C a=false\/9<=(zk s.C a).t\/u<0 then ((0,1),s)
  else (if (wV ⟨s,0,0⟩ a u).2.e≠0 then (0,(wV ⟨s,0,0⟩ a u).2.e) else ((wV ⟨s,0,0⟩ a u).1,0),(wV ⟨s,0,0⟩ a u).2.s):=rfl
 generalize wV ⟨s,0,0⟩ a u=z at*
 let ⟨p,⟨m,o,i⟩⟩:=z
 dsimp only at e0 g;refine acv (v245 ..) ?_;refine ⟨_,_,_,_,_,_,j,za (λq=> ?_) λq=>za (λf=> ?_) λf=>za (λd=> ?_) λd=>⟨(p,⟨m,o,i⟩),g,zQ (λb=> ?_) λb=> ?_⟩⟩
 .rw [ri<|.inl<|by simpa using q] at e0;rw [e0];exact rrl
 .rw [ri<|.inr<|.inl<|ro f] at e0;rw [e0];exact rrl
 .rw [ri<|.inr<|.inr<|ro d] at e0;rw [e0];exact rrl
 all_goals
  have r:¬(inC s.C a=false\/9<=(zk s.C a).t\/u<0):=by
   rintro (w|w|w)
   .rw [w] at q;exact absurd q (by decide)
   .exact absurd w<|rg f
   .exact absurd w<|rg d
  rw [r8 r] at e0
 .rw [ri b] at e0;rw [e0];exact rrl
 .rw [r8 λw=>w b] at e0;rw [e0];exact rrl
def cI (s a f)(h:OkH s)(f0:0<=f)(d:f<=100000000):OkH (ym s a f).2/\((ym s a f).1.2.2=0\/(ym s a f).1.2.1=0)/\(ym s a f).1.2.1<=f:=by
 have b:OkR ⟨s,f,0⟩:=⟨h,by dsimp only;omega,by dsimp only;omega⟩;have o:=OkR.head (2*f.toNat+2) a b;have g:=KJ _ ⟨s,f,0⟩ a<|r9 _
 unfold ym;split
 .exact ⟨o.h, .inr rfl,f0⟩
 .exact ⟨o.h, .inl rfl,g.1⟩
def fullS_ok (s a f)(h:OkH s)(f0:0<=f)(d:f<=40000000):OkH (yP s a f).2/\((yP s a f).1.2.2=0\/(yP s a f).1.2.1=0)/\(yP s a f).1.2.1<=f:=by
 have b:OkR ⟨s,f,0⟩:=⟨h,by dsimp only;omega,by dsimp only;omega⟩;have g:=ZU _ (f.toNat+1) f (r9 _) (by omega) ⟨s,f,0⟩ a b<|rk _
 unfold yP;split
 .exact ⟨g.1.h, .inr rfl,f0⟩
 .exact ⟨g.1.h, .inl rfl,g.2.1⟩
def N64 (x:Int):= -9223372036854775808<=x/\x<=9223372036854775807
inductive Mv (b:Bool):Hp->Hp->Prop
 |refl (s:Hp):Mv b s s
 |put' {s t:Hp} (c:Cel):(c.t=2->N64 c.a)->Mv b s t->Mv b s (putS t c).2
 |set' {s t:Hp} (a:Int) (c:Cel):(c.t=2->N64 c.a)->Mv b s t->Mv b s (setS t a c).2
 |names {s t:Hp} (e:List (List UInt8)):b=true->Mv b s t->Mv b s { t with N:=t.N++e }
def Mv.put {b s t}(c)(h:Mv b s t)(d:c.t=2->N64 c.a:=by simp):Mv b s (putS t c).2:= .put' c d h
def Mv.set {b s t}(a c)(h:Mv b s t)(d:c.t=2->N64 c.a:=by simp):Mv b s (setS t a c).2:= .set' a c d h
def Mv.trans {b s t u}(h:Mv b s t)(g:Mv b t u):Mv b s u:=by
 induction g with
 |refl=>exact h
 |put' c d _ ih=>exact ih.put' c d
 |set' a c d _ ih=>exact ih.set' a c d
 |names e f _ ih=>exact ih.names e f
def Mv.up {b s t}(h:Mv false s t):Mv b s t:=by
 induction h with
 |refl=>exact .refl _
 |put' c d _ ih=>exact ih.put' c d
 |set' a c d _ ih=>exact ih.set' a c d
 |names e f _ ih=>cases f
def Mv.ok {b s t}(h:Mv b s t)(g:OkH s):OkH t:=by
 induction h with
 |refl=>exact g
 |put' c _ _ ih=>exact ih.put c
 |set' a c _ _ ih=>exact ih.set a c
 |names e _ _ ih=>exact ⟨ih.C,ih.M,ih.T,ih.L⟩
def cR (s c):(putS s c).2.N=s.N/\(putS s c).2.M=s.M/\(putS s c).2.L=s.L/\s.C.length<=(putS s c).2.C.length/\(putS s c).2.T=s.T:=by
 unfold putS;split
 .exact ⟨rfl,rfl,rfl,r9 _,rfl⟩
 .split
  .exact ⟨rfl,rfl,rfl,r9 _,rfl⟩
  .exact ⟨rfl,rfl,rfl,by simp,rfl⟩
def pD (s a c):(setS s a c).2.N=s.N/\(setS s a c).2.M=s.M/\(setS s a c).2.L=s.L/\s.C.length<=(setS s a c).2.C.length:=by
 unfold setS;split
 .exact ⟨rfl,rfl,rfl,r9 _⟩
 .split
  .exact ⟨rfl,rfl,rfl,r9 _⟩
  .split
   .exact ⟨rfl,rfl,rfl,r9 _⟩
   .split
    .exact ⟨rfl,rfl,rfl,r9 _⟩
    .exact ⟨rfl,rfl,rfl,by simp⟩
def Mv.len {b s t}(h:Mv b s t):s.C.length<=t.C.length/\t.M=s.M/\t.L=s.L:=by
 induction h with
 |refl=>exact ⟨r9 _,rfl,rfl⟩
 |put' c _ _ ih=>have:=cR ‹Hp› c;exact ⟨sI ih.1 this.2.2.2.1,by rw [this.2.1];exact ih.2.1,by rw [this.2.2.1];exact ih.2.2⟩
 |set' a c _ _ ih=>have:=pD ‹Hp› a c;exact ⟨sI ih.1 this.2.2.2,by rw [this.2.1];exact ih.2.1,by rw [this.2.2.1];exact ih.2.2⟩
 |names e _ _ ih=>exact ih
def Mv.N {s t}(h:Mv false s t):t.N=s.N:=by
 induction h with
 |refl=>rfl
 |put' c _ _ ih=>rw [(cR _ c).1];exact ih
 |set' a c _ _ ih=>rw [(pD _ a c).1];exact ih
 |names e b _ ih=>cases b
def Mvr (s0:Hp)(r:Rd):Prop:=Mv false s0 r.s/\0<=r.f/\r.e≠170
variable {s0:Hp}
def Mvr.fail {r}(h:Mvr s0 r)(e)(b:e≠170:=by decide):Mvr s0 (zZ r e):=⟨h.1,h.2.1,by unfold zZ;dsimp only;split;exact b;exact h.2.2⟩
def put_e7 (s c):(putS s c).1.2≠170:=by
 unfold putS;split
 .show 1≠170;decide
 .split
  .show 200≠170;decide
  .show 0≠170;decide
def set_e7 (s a c):(setS s a c).1≠170:=by
 unfold setS
 repeat' split
 all_goals first|(show 1≠170;decide)|(show 201≠170;decide)|(show 0≠170;decide)
def Mvr.put {r}(h:Mvr s0 r)(c)(b:c.t=2->N64 c.a:=by simp):Mvr s0 (putR r c).2:=by
 unfold putR;split
 .exact ⟨Mv.put c h.1 b,h.2.1,put_e7 _ _⟩
 .exact h
def Mvr.keep {r}(h:Mvr s0 r)(a b):Mvr s0 (yi r a b):=by
 unfold yi;split
 .exact ⟨Mv.set a _ h.1,h.2.1,set_e7 _ _ _⟩
 .exact h
def Mvr.less {r}(h:Mvr s0 r)(b:¬r.f<=0):Mvr s0 ⟨r.s,r.f-1,r.e⟩:=⟨h.1,by dsimp only;omega,h.2.2⟩
def Mvr.visit {r}(h:Mvr s0 r)(a):Mvr s0 (zd r a).2:=by
 unfold zd;split
 .exact h.fail 1
 .split
  .exact h.fail 1
  .split
   .exact h.fail 1
   .split
    .exact h.fail 80
    .split
     .exact h
     .rename_i q _;exact h.less q
def Mvr.lift {r}(h:Mvr s0 r)(a u):Mvr s0 (wV r a u).2:=by
 unfold wV;split
 .exact h
 .exact (h.put _).put _
def Mvr.entry:∀(n) {r} (b j),Mvr s0 r->Mvr s0 (zU n r b j).2
 |0,_,_,_,h=>h
 |n+1,r,b,j,h=>by
  rw [zU];split
  .exact h.fail 1
  .split
   .exact h.fail 1
   .split
    .exact h
    .split
     .exact h
     .split
      .exact h.fail 80
      .rename_i q;exact Mvr.entry n _ _<|h.less q
def Mvr.loose (n){r}(h:Mvr s0 r)(s j):Mvr s0 (losR n r s j).2:=by
 have e:=Mvr.entry n s.b j h;unfold losR;split
 .split
  .split
   .exact e.put _
   .exact e.lift _ _
  .exact e.put _
 .exact h.put _
def Mvr.lam {r}(h:Mvr s0 r)(s b):Mvr s0 (lamR r s b).2:=((h.put _).put _).put _
def Mvr.app {r}(h:Mvr s0 r)(s f x):Mvr s0 (appR r s f x).2:=((h.put _).put _).put _
def Mvr.level (n){r}(h:Mvr s0 r)(c t s):Mvr s0 (ub n c t r s).2:=by
 unfold ub;split
 .exact h.loose n s _
 .split
  .exact h.lam s _
  .split
   .exact h.app s _ _
   .exact h
def Mvr.spun (n){v}(h:Mvr s0 v.2)(s):Mvr s0 (uU n v s).2:=by
 unfold uU;split
 .exact h
 .split
  .exact h
  .exact h.level n _ _ s
mutual
def Mvr.open:∀(n:Nat) {r:Rd} (s:Cel),Mvr s0 r->Mvr s0 (zm n r s).2
 |0,_,_,h=>h
 |n+1,r,s,h=>by
  rw [zm];exact Mvr.spun (n+1) (Mvr.spin n<|h.visit s.a) s
def Mvr.spin:∀(n:Nat) {v:(Cel×Int)×Rd},Mvr s0 v.2->Mvr s0 (wX n v).2
 |0,_,h=>h
 |n+1,v,h=>by
  rw [wX];split
  .exact Mvr.spin n<|((Mvr.open n v.1.1 h).keep _ _).visit _
  .exact h
end
def Mvr.beta {r}(h:Mvr s0 r)(b arg):Mvr s0 (ug r b arg).2:=((h.put _).put _).put _
def Mvr.apps:∀(l) (f) {r},Mvr s0 r->Mvr s0 (vT l f r).2
 |[],_,_,h=>h
 |x::l,f,r,h=>by rw [vT];exact Mvr.apps l _<|h.put _
def Mvr.headL:∀(n) (l) (b) (a) {r},Mvr s0 r->Mvr s0 (Go.AM.headL n l b a r).r
 |0,_,_,_,_,h=>h
 |n+1,l,b,a,r,h=>by
  have v:=h.visit a;rw [Go.AM.headL];split
  .exact h
  .split
   .exact v
   .split
    .exact Mvr.headL n _ _ _ v
    .split
     .exact Mvr.headL n _ _ _<|(Mvr.open _ _ v).keep _ _
     .split
      .split
       .exact v
       .exact Mvr.headL n _ _ _<|v.beta _ _
      .exact v
def Mvr.head (n){r}(b)(h:Mvr s0 r):Mvr s0 (zR n r b).2:=by
 have d:=Mvr.headL n [] false b h;show Mvr s0 (if _ then _ else _)
 split
 .exact (Mvr.apps _ _ d).keep _ _
 .exact d
def Mvr.leaf {F}(b:∀(r) a,Mvr s0 r->Mvr s0 (F r a).2):∀(l) (t) (r),Mvr s0 r->Mvr s0 (xy F l t r).2
 |[],_,_,h=>h
 |x::l,t,r,h=>Mvr.leaf b l _ _<|b r x h
def Mvr.full (N):∀(n) (r) (a),Mvr s0 r->Mvr s0 (fulR N n r a).2
 |0,_,_,h=>h
 |n+1,r,a,h=>by
  have b:=Mvr.head N a h;rw [fulR];unfold fullG;split
  .exact b
  .split
   .exact Mvr.full N n _ _ b
   .exact Mvr.leaf (Mvr.full N n) _ _ _ b
def XX (s a f)(f0:0<=f):Mv false s (ym s a f).2:=(Mvr.head (s0:=s) _ (r:=⟨s,f,0⟩) a ⟨.refl s,f0,by show 0≠170;decide⟩).1
def cZ (s a f)(f0:0<=f):Mv false s (yP s a f).2/\0<=(yP s a f).1.2.1:=by
 have h:=Mvr.full (s0:=s) (2*f.toNat+2) (f.toNat+1) ⟨s,f,0⟩ a ⟨.refl s,f0,by show 0≠170;decide⟩;refine ⟨h.1, ?_⟩;unfold yP;split
 .exact rk _
 .exact h.2.1
def bH (s a u):Mv false s (xe s a u).2:=by
 unfold xe;split
 .exact .refl s
 .exact (Mvr.lift (s0:=s) (r:=⟨s,0,0⟩) ⟨.refl s,rk _,by show 0≠170;decide⟩ a u).1
def IH (s:Hp):Prop:=(∀c∈s.C,c.t=2->N64 c.a)/\∀e∈s.T,e.x.t=2->N64 e.x.a
def IH.cell {s}(h:IH s){x}:(zk s.C x).t=2->N64 (zk s.C x).a:=by
 by_cases b:0<=x/\x<s.C.length
 .let ⟨d,e⟩:=kZ b.1 b.2
  rw [e];exact h.1 _<|List.getElem_mem _
 .rw [jV<|by omega];intro q;simp at q
def IH.put {s}(h:IH s)(c)(b:c.t=2->N64 c.a):IH (putS s c).2:=by
 unfold putS;split
 .exact h
 .split
  .exact h
  .refine ⟨λx hx=> ?_,h.2⟩;rcases rS.1 hx with hx|hx
   .exact h.1 x hx
   .rw [rM.1 hx];exact b
def IH.set {s}(h:IH s)(a c)(b:c.t=2->N64 c.a):IH (setS s a c).2:=by
 unfold setS;repeat' split
 all_goals first|exact h|skip
 refine ⟨λx hx=> ?_,λe he=> ?_⟩
 .rcases sM hx with hx|hx
  .exact h.1 x hx
  .rw [hx];exact b
 .rcases rS.1 he with he|he
  .exact h.2 e he
  .rw [rM.1 he];exact h.cell
def Mv.ih {b s t}(h:Mv b s t)(g:IH s):IH t:=by
 induction h with
 |refl=>exact g
 |put' c d _ ih=>exact ih.put c d
 |set' a c d _ ih=>exact ih.set a c d
 |names e _ _ ih=>exact ih
def varE (V:Option<|List Int)(C:List Cel)(n:Int):Int×Int:=
 match V with
 |none=>if isT C n=true then (n,0) else (0,1)
 |some l=>if l.length<=n then (0,1) else if isT C (l.getD n.toNat 0)=true then (l.getD n.toNat 0,0) else (0,1)
mutual
def encE (V:Option<|List Int):Tm->Hp->(Int×Int)×Hp
 |.mk k s n l,h=>
  if k=0 then putS (symS h s).2 ⟨0,(symS h s).1,0,0,0⟩
  else if k=1 then putS h ⟨1,n,0,0,0⟩
  else if k=2 then putS h ⟨2,n,0,0,0⟩
  else if k=3 then putS h ⟨3,n,0,0,0⟩
  else if k=4 then (varE V h.C n,h)
  else encL V k l h
def encL (V:Option<|List Int)(k:Int):List Tm->Hp->(Int×Int)×Hp
 |[],h=>((0,0),h)
 |u::l,h=>
  if (encE V u h).1.2≠0 then ((0,(encE V u h).1.2),(encE V u h).2)
  else if k=5 then putS (encE V u h).2 ⟨6,(encE V u h).1.1,0,0,0⟩
  else encR V l (encE V u h).1.1 (encE V u h).2
def encR (V:Option<|List Int):List Tm->Int->Hp->(Int×Int)×Hp
 |[],f,h=>((f,0),h)
 |u::l,f,h=>
  if (encE V u h).1.2≠0 then ((0,(encE V u h).1.2),(encE V u h).2)
  else if (putS (encE V u h).2 ⟨7,f,(encE V u h).1.1,0,0⟩).1.2≠0 then ((0,(putS (encE V u h).2 ⟨7,f,(encE V u h).1.1,0,0⟩).1.2),(putS (encE V u h).2 ⟨7,f,(encE V u h).1.1,0,0⟩).2)
  else encR V l (putS (encE V u h).2 ⟨7,f,(encE V u h).1.1,0,0⟩).1.1 (putS (encE V u h).2 ⟨7,f,(encE V u h).1.1,0,0⟩).2
end
def encS (V:Option<|List Int)(s:Hp)(t:Tm):=
 if zj t=false then ((0,1),s)
 else if (encE V t s).1.2≠0 then ((0,(encE V t s).1.2),⟨(encE V t s).2.C.take s.C.length,(encE V t s).2.T,(encE V t s).2.M,(encE V t s).2.L,(encE V t s).2.N⟩)
 else encE V t s
def Gw (s:Hp)(z:(Int×Int)×Hp):Prop:=(OkH s->OkH z.2)/\∃d e,z.2=⟨s.C++d,s.T,s.M,s.L,s.N++e⟩/\e.length<=d.length+if z.1.2=0 then 0 else 1
def Gw.nil (s x):Gw s (x,s):=⟨λh=>h,[],[],by simp,by simp⟩
def Gw.put (s c):Gw s (putS s c):=by
 refine ⟨λh=>h.put c, ?_⟩;unfold putS;split
 .exact ⟨[],[],by simp,by simp⟩
 .split
  .exact ⟨[],[],by simp,by simp⟩
  .exact ⟨[c],[],by simp,by simp⟩
def Gw.seq {s z y}(h:Gw s z)(m:z.1.2=0)(g:Gw z.2 y):Gw s y:=by
 let ⟨a,d,e,r,i⟩:=h
 let ⟨b,p,f,j,u⟩:=g
 rw [ri m] at i;refine ⟨λo=>b<|a o,d++p,e++f, ?_,by simp [re];omega⟩;rw [j,r];simp
def Gw.err {s z}(h:Gw s z)(g:z.1.2≠0):Gw s ((0,z.1.2),z.2):=by
 let ⟨a,d,e,f,b⟩:=h
 exact ⟨a,d,e,f,b⟩
def putS_out (s c):(putS s c).1.2=0/\(putS s c).2.C=s.C++ [c]\/(putS s c).1.2≠0/\(putS s c).2=s:=by
 unfold putS;split
 .exact .inr ⟨by show 1≠0;decide,rfl⟩
 .split
  .exact .inr ⟨by show 200≠0;decide,rfl⟩
  .exact .inl ⟨rfl,rfl⟩
def Gw.con (s nm):Gw s (putS (symS s nm).2 ⟨0,(symS s nm).1,0,0,0⟩):=by
 have p:∃e,(symS s nm).2=⟨s.C,s.T,s.M,s.L,s.N++e⟩/\e.length<=1:=by
  unfold symS;split
  .exact ⟨[],by simp,by simp⟩
  .exact ⟨[nm],rfl,by simp⟩
 let ⟨e,b,j⟩:=p
 rcases putS_out (symS s nm).2 ⟨0,(symS s nm).1,0,0,0⟩ with ⟨f,d⟩|⟨f,d⟩
 .let ⟨g,m,i,_,h⟩:=cR (symS s nm).2 ⟨0,(symS s nm).1,0,0,0⟩
  refine ⟨λo=>OkH.put (by rw [b];exact ⟨o.C,o.M,o.T,o.L⟩) _,[⟨0,(symS s nm).1,0,0,0⟩],e, ?_,by rw [ri f];simpa using j⟩;generalize (putS (symS s nm).2 ⟨0,(symS s nm).1,0,0,0⟩)=z at*;generalize (symS s nm).1=x at*;rw [b] at d g m i h
  let ⟨u,⟨zC,zT,v,r,w⟩⟩:=z
  dsimp only at*;rw [d,g,m,i,h]
 .refine ⟨λo=>OkH.put (by rw [b];exact ⟨o.C,o.M,o.T,o.L⟩) _,[],e,by rw [d,b];simp,by rw [r8 f];simpa using j⟩
def nG (V):∀(l),(∀u∈l,∀s,Gw s<|encE V u s)->∀(f) (s),Gw s (encR V l f s)
 |[],_,f,s=>by rw [encR];exact Gw.nil s _
 |u::l,h,f,s=>by
  have d:=h u rn s;rw [encR];split
  .rename_i q;exact d.err q
  .rename_i q;have q:(encE V u s).1.2=0:=by simpa using q
   have e:=Gw.put (encE V u s).2 ⟨7,f,(encE V u s).1.1,0,0⟩;split
   .rename_i b;exact d.seq q<|e.err b
   .rename_i b;exact d.seq q<|e.seq (by simpa using b)<|nG V l (λv g=>h v<|rh _ g) _ _
def wO (V):∀(t) (s),Gw s (encE V t s):=by
 refine Tm.ind λt ih=> ?_
 let ⟨k,nm,n,l⟩:=t
 intro s;rw [encE];split
 .exact Gw.con s nm
 .split
  .exact Gw.put s _
  .split
   .exact Gw.put s _
   .split
    .exact Gw.put s _
    .split
     .exact Gw.nil s _
     .match l with
      |[]=>rw [encL];exact Gw.nil s _
      |u::l=>
       have b:=ih u rn s;rw [encL];split
       .rename_i q;exact b.err q
       .rename_i q;have q:(encE V u s).1.2=0:=by simpa using q
        split
        .exact b.seq q<|Gw.put _ _
        .exact b.seq q<|nG V l (λv d=>ih v<|rh _ d) _ _
def NmB (K:Nat)(s:Hp):Prop:=s.N.length<=s.C.length+K
def lN (V s t)(h:(encS V s t).1.2≠0):∃e,(encS V s t).2={ s with N:=s.N++e }:=by
 unfold encS at h ⊢;split
 .exact ⟨[],by simp⟩
 .rename_i q;rw [r8 q] at h
  let ⟨_,d,e,f,_⟩:=wO V t s
  split
  .exact ⟨e,by rw [f];simp⟩
  .rename_i b;rw [r8 b] at h;exact absurd h b
def Js:∀ {l} {u},yp l=true->u∈l->zj u=true
 |x::l,u,h,hu=>by
  rw [yp,rf] at h;rcases rG.1 hu with rfl|hu
  .exact h.1
  .exact Js h.2 hu
def vL_of {k n s l}(h:zj (.mk k s n l)=true)(b:k=5\/k=6):yp l=true:=by
 rw [zj] at h;rcases b with rfl|rfl<;>simp at h<;>simp [h]
def Gw.nm {s z K}(h:Gw s z)(i:z.1.2=0)(g:NmB K s):NmB K z.2:=by
 let ⟨_,d,e,f,b⟩:=h
 rw [ri i] at b;unfold NmB at*;rw [f];simp [re];omega
def NmB.put {K s}(g:NmB K s)(c):NmB K (putS s c).2:=by
 let ⟨b,_,_,d,_⟩:=cR s c
 unfold NmB at*;rw [b];omega
def NmB.set {K s}(g:NmB K s)(a c):NmB K (setS s a c).2:=by
 let ⟨b,_,_,d⟩:=pD s a c
 unfold NmB at*;rw [b];omega
def k56 {k n s l}(h:zj (.mk k s n l)=true)(g:k≠0)(i:k≠1)(e:k≠2)(f:k≠3)(j:k≠4):k=5\/k=6:=by
 rw [zj] at h;by_cases d:k=5
 .exact .inl d
 .by_cases b:k=6
  .exact .inr b
  .simp [g,i,e,f,j,d,b] at h
def c_hvarA  (s n) (i:0<=n):AC Tryz.prog 218 [aH 0,ci n, .c<|qf .N] (oH s) (t2<|varE none s.C n) (oH s):=by
 refine acv (v218_i1 ..) ?_
 first
 |(have f:=qM s n
   exact ⟨_,f,za (λh=>⟨by rw [varE,r8<|by simpa using h];exact .refl _,rfl⟩) λh=>⟨by rw [varE,ri<|by simpa using h];exact .refl _,rfl⟩⟩)
 |(have j:=zn vs
   refine ⟨rfl,za (λh=>⟨?_,rfl⟩) λh=> ?_⟩
   .have h:=ro h;rw [varE,ri<|by omega];exact .refl _
   .have h:=rg h;have b:n.toNat<vs.length:=by omega
    rw [w9 b];have f:=qM s _;have e:vs.getD n.toNat 0=vs[n.toNat]:=by simp [List.getD,b]
    refine ⟨⟨rfl,i,by omega,rfl⟩,_,f,za (λd=>⟨?_,rfl⟩) λd=>⟨?_,rfl⟩⟩
    .rw [varE,r8<|by omega,e,r8<|by simpa using d];exact .refl _
    .rw [varE,r8<|by omega,e,ri<|by simpa using d];exact .refl _)
 |(have j:=zn g
   refine za (λh=>⟨?_,rfl⟩) (λh=> ?_)
   .have h:=ro h;rw [varE,ri<|by simp [r6];omega];exact .refl _
   .have h:=rg h;have b:n.toNat<g.length:=by simp [r6];omega
    rw [rD,w9 b];have f:=qM s (g[n.toNat]);have e:g.getD n.toNat 0=g[n.toNat]:=by rw [List.getD,rj b];rfl
    refine ⟨⟨i,by omega⟩,⟨by omega,rfl,rfl⟩,_,f,za (λd=>⟨?_,rfl⟩) λd=>⟨?_,rfl⟩⟩
    .rw [varE,r8<|by simp [r6];omega,e,r8<|by simpa using d];exact .refl _
    .rw [varE,r8<|by simp [r6];omega,e,ri<|by simpa using d];exact .refl _)
abbrev stEnA  (f:Int) (x:List Tm) (n i:Int) (s:Hp):St:=
 ⟨[(0,aH 0),(2, .c<|qf .N),(8,ci f),(89,aL x),(90,ci n),(91,ci i)],[(0,hp6 5 6 7 4 s),(1, .gone),(2, .gone),(3, .gone),(4, .mapz<|NM s.N 0),(5, .arz 5<|CR s.C),(6, .arz 7<|TR s.T),(7, .arz 1<|NR s.N)],8⟩
def l_encA (K)(E:K<=100000000000)  :∀(b d) (f) (s),(∀u∈b,∀s,OkH s->NmB K s->AC Tryz.prog 192 [aH 0,aT u, .c<|qf .N] (oH s) (t2 (encE none u s).1) (oH' (encE none u s).2))->(d++b).length<=B->OkH s->NmB K s->
  RPt Tryz.prog 192 5 (t2 (encR none b f s).1) (oH' (encR none b f s).2) 5 (stEnA  f (d++b) ((d++b).length) d.length s)
 |[],d,f,s,_,_,_,_=>by
  refine rpv (X7 ..) ?_;exact bF (by simp only [rF];omega) ⟨by rw [encR];exact .refl _,by rw [encR]⟩
 |u::b,d,f,s,p,m,ok,nm=>by
  have e:=zb<|d++u::b
  have G:d.length<(d++u::b).length:=by simp
  have A:=p u rn s ok nm;have o:=wO none u s
  have F:encR none (u::b) f s=if (encE none u s).1.2≠0 then ((0,(encE none u s).1.2),(encE none u s).2)
   else if (putS (encE none u s).2 ⟨7,f,(encE none u s).1.1,0,0⟩).1.2≠0 then ((0,(putS (encE none u s).2 ⟨7,f,(encE none u s).1.1,0,0⟩).1.2),(putS (encE none u s).2 ⟨7,f,(encE none u s).1.1,0,0⟩).2)
   else encR none b (putS (encE none u s).2 ⟨7,f,(encE none u s).1.1,0,0⟩).1.1 (putS (encE none u s).2 ⟨7,f,(encE none u s).1.1,0,0⟩).2:=by rw [encR]
  have g:=o.1 ok;have j:=λh=>o.nm (K:=K) h nm;generalize encE none u s=z at*;have D:=xB z.2 ⟨7,f,z.1.1,0,0⟩ (by have:=g.C;omega);have nx:=λh=>l_encA K E  b (d++ [u]) (putS z.2 ⟨7,f,z.1.1,0,0⟩).1.1 (putS z.2 ⟨7,f,z.1.1,0,0⟩).2 (λv r=>p v<|rh _ r) (by simpa using m) (g.put _)<|(j h).put _
  rw [show (d++ [u])++b=d++u::b by simp,show (((d++ [u]).length))=d.length+1 by simp] at nx;generalize putS z.2 ⟨7,f,z.1.1,0,0⟩=y at*;simp [B] at m;refine rpv (X7 ..) ?_;rw [kf,w64 (x:=d.length+1) (by omega)<|by omega,F];refine za (λ_=>⟨⟨rfl,by omega,by rw [e];omega,u9 d u b⟩,z,A,zQ (λq=> ?_) λq=>⟨y,D,zQ (λi=> ?_) λi=> ?_⟩⟩) (λq=>absurd (rg q)<|by omega)
  .rw [ri q];exact rrl
  .rw [r8 λw=>w q,ri i];exact rrl
  .rw [r8 λw=>w q,r8 λw=>w i];exact nx q
def c_encA (K)(Y:K<=100000000000)  :∀t,zj t=true->t.sz<=B->∀s,OkH s->NmB K s->AC Tryz.prog 192 [aH 0,aT t, .c<|qf .N] (oH s) (t2 (encE none t s).1) (oH' (encE none t s).2):=by
 refine Tm.ind λt ih=> ?_
 let ⟨k,b,n,l⟩:=t
 intro d U s ok nm;have hsz:Tm.szs l+1<=B:=by simp [Tm.sz] at U;omega
 have E:=Tm.szs_length l;refine acv (v192_i1 k b n (FTs l)  ..) ?_;have S:=ok.C;have hnm:s.N.length<=s.C.length+K:=nm;refine zl (λe0=> ?_) λf=>zl (λM=> ?_) λi=>zl (λL=> ?_) λj=>zl (λH=> ?_) λy=>zl (λD=> ?_) λI=> ?_
 .have X:=c_hsym s b (by omega);have A:=xB (symS s b).2 ⟨0,(symS s b).1,0,0,0⟩ (by unfold symS;split<;>simp<;>omega);exact ⟨symS s b,X,_,A,by rw [encE,ri e0];exact .refl _,by rw [encE,ri e0]⟩
 .exact ⟨_,xB s ⟨1,n,0,0,0⟩<|by omega,by rw [encE,r8 f,ri M];exact .refl _,by rw [encE,r8 f,ri M]⟩
 .exact ⟨_,xB s ⟨2,n,0,0,0⟩<|by omega,by rw [encE,r8 f,r8 i,ri L];exact .refl _,by rw [encE,r8 f,r8 i,ri L]⟩
 .exact ⟨_,xB s ⟨3,n,0,0,0⟩<|by omega,by rw [encE,r8 f,r8 i,r8 j,ri H];exact .refl _,by rw [encE,r8 f,r8 i,r8 j,ri H]⟩
 .have h4:0<=n:=by
   subst D;rw [zj] at d;simp at d;exact d.1.1.1.1
  exact ⟨_,c_hvarA  s n h4,by rw [encE,r8 f,r8 i,r8 j,r8 y,ri D];exact .refl _,by rw [encE,r8 f,r8 i,r8 j,r8 y,ri D]⟩
 .have r:=k56 d f i j y I;have p:=vL_of d r;have hE:encE none (.mk k b n l) s=encL none k l s:=by rw [encE,r8 f,r8 i,r8 j,r8 y,r8 I]
  rw [hE]
  have G:l ≠ []:=by
   intro e;subst e;rcases r with rfl|rfl<;>simp [zj,zb] at d
  match l,G with
  |u::l,_=>
   have g:=zb<|u::l
   have O:=ih u rn (Js p rn) (by have:=Tm.szs_mem (t:=u) (l:=u::l) rn;omega) s ok nm;have J:=wO none u s
   have hL:encL none k (u::l) s=if (encE none u s).1.2≠0 then ((0,(encE none u s).1.2),(encE none u s).2)
    else if k=5 then putS (encE none u s).2 ⟨6,(encE none u s).1.1,0,0,0⟩ else encR none l (encE none u s).1.1 (encE none u s).2:=by rw [encL]
   rw [hL];have x:=J.1 ok;have F:=λh=>J.nm (K:=K) h nm;generalize encE none u s=z at*;have A:=xB z.2 ⟨6,z.1.1,0,0,0⟩ (by have:=x.C;omega);have lp:=λh=>l_encA K Y  l [] z.1.1 z.2 (λv d s o m=>ih v (rh _ d) (Js p<|rh _ d) (by have:=Tm.szs_mem (t:=v) (l:=u::l) (rh _ d);omega) s o m) (by simp [s8];simp [r6] at E;omega) x<|F h
   have V:List.drop 1 (List.take (Int.toNat<|((FTs<|u::l).length))<|FTs<|u::l)=FTs l:=by rw [rt,rp<|r9 _];rfl
   have Z:aE (List.getD (FTs<|u::l) 0 [])=aT u:=jc u;rw [Z,V];refine ⟨⟨rfl,rk _,by rw [g];simp only [r6];omega,ju u⟩,z,O,zQ (λq=> ?_) λq=>zl (λT=> ?_) λW=>⟨rfl,⟨by omega,by rw [g];simp [r6];omega,rk _⟩,rfl, ?_⟩⟩
   .rw [ri q];exact rrl
   .rw [r8 λw=>w q,ri T];exact ⟨_,A, .refl _,rfl⟩
   .rw [r8 λw=>w q,r8 W,zb];exact lp q
def c_EncA (K)(x:K<=100000000000)  (t)(r:t.sz<=B)(s)(ok:OkH s)(nm:NmB K s):AC Tryz.prog 162 [aH 0,aT t, .c<|qf .N] (oH s) (t2 (encS none s t).1) (oH' (encS none s t).2):=by
 have f:=kx t r;have j:=λh=>c_encA K x  t h r s ok nm
 let ⟨_,d,e,u,_⟩:=wO none t s
 have e0:encS none s t=if zj t=false then ((0,1),s)
  else if (encE none t s).1.2≠0 then ((0,(encE none t s).1.2),⟨(encE none t s).2.C.take s.C.length,(encE none t s).2.T,(encE none t s).2.M,(encE none t s).2.L,(encE none t s).2.N⟩)
  else encE none t s:=rfl
 rw [e0];have m:s.C.length<=(encE none t s).2.C.length:=by rw [u];simp
 generalize encE none t s=z at*;by_cases g:zj t=false
 .rw [ri g]
  let ⟨k,b,n,l⟩:=t
  refine acv (fD k b n _  ..) ?_;exact ⟨_,f,za (λ_=>rrl) λh=>by rw [g] at h;cases h⟩
 .rw [r8 g];have g:zj t=true:=by simpa using g
  have j:=j g;by_cases q:z.1.2=0
  .rw [r8 λw=>w q]
   let ⟨k,b,n,l⟩:=t
   refine acv (fD k b n _  ..) ?_;refine ⟨_,f,za (λh=>by rw [g] at h;cases h) λ_=>⟨z,j,zQ (λw=>absurd q w) λ_=> ?_⟩⟩
   let ⟨⟨D,y⟩,E⟩:=z
   dsimp only at q;subst q;exact rrl
  .rw [ri q];refine AC.obj (Hs':=[.arr 6 [[.a<|.osl 5 5 0 s.C.length, .a<|.osl 6 7 0 z.2.T.length,qi z.2.M,qi z.2.L, .a<|.osl 7 1 0 z.2.N.length, .a<|.mp 4]], .gone, .gone, .gone, .mapz _,  .arz 5<|CR z.2.C, .arz 7 _, .arz 1 _]) ?_ ⟨?_, .refl _, .refl _, .refl _, .refl _, ?_, .refl _, .refl _,trivial⟩
   .let ⟨k,b,n,l⟩:=t
    refine acv (fD k b n _  ..) ?_;refine ⟨_,f,za (λh=>by rw [g] at h;cases h) λ_=>⟨z,j,zQ (λw=>⟨⟨rk _,by omega,by omega⟩, .refl _, ?_⟩) λw=>absurd w q⟩⟩;rw [rt]
   .rw [hp6];simp [ry,sD m];exact .refl _
   .refine WR (by rw [yF,yF,ry];omega) λi e A j o=> ?_;rw [CR,rq] at j o;obtain ⟨v,f,rfl⟩:=r7.1 o;obtain ⟨F,p,rfl⟩:=r7.1 j;rw [rU] at f;split at f
    .rw [p] at f;injection f with f;subst f;exact LeR.refl _
    .cases f
def c_hvarB (vs s n)(i:0<=n):AC Tryz.prog 218 [aH 0,ci n, .c<|qf<|.sl true 1<|IR vs] (oH s) (t2<|varE (some vs) s.C n) (oH s):=by
 refine acv (v218 ..) ?_
 first
 |(have f:=qM s n
   exact ⟨_,f,za (λh=>⟨by rw [varE,r8<|by simpa using h];exact .refl _,rfl⟩) λh=>⟨by rw [varE,ri<|by simpa using h];exact .refl _,rfl⟩⟩)
 |(have j:=zn vs
   refine ⟨rfl,za (λh=>⟨?_,rfl⟩) λh=> ?_⟩
   .have h:=ro h;rw [varE,ri<|by omega];exact .refl _
   .have h:=rg h;have b:n.toNat<vs.length:=by omega
    rw [w9 b];have f:=qM s (vs[n.toNat]);have e:vs.getD n.toNat 0=vs[n.toNat]:=by simp [List.getD,b]
    refine ⟨⟨rfl,i,by omega,rfl⟩,_,f,za (λd=>⟨?_,rfl⟩) λd=>⟨?_,rfl⟩⟩
    .rw [varE,r8<|by omega,e,r8<|by simpa using d];exact .refl _
    .rw [varE,r8<|by omega,e,ri<|by simpa using d];exact .refl _)
 |(have j:=zn g
   refine za (λh=>⟨?_,rfl⟩) (λh=> ?_)
   .have h:=ro h;rw [varE,ri<|by simp [r6];omega];exact .refl _
   .have h:=rg h;have b:n.toNat<g.length:=by simp [r6];omega
    rw [rD,w9 b];have f:=qM s (g[n.toNat]);have e:g.getD n.toNat 0=g[n.toNat]:=by rw [List.getD,rj b];rfl
    refine ⟨⟨i,by omega⟩,⟨by omega,rfl,rfl⟩,_,f,za (λd=>⟨?_,rfl⟩) λd=>⟨?_,rfl⟩⟩
    .rw [varE,r8<|by simp [r6];omega,e,r8<|by simpa using d];exact .refl _
    .rw [varE,r8<|by simp [r6];omega,e,ri<|by simpa using d];exact .refl _)
abbrev stEnB (vs:List Int)(f:Int)(x:List Tm)(n i:Int)(s:Hp):St:=
 ⟨[(0,aH 0),(2, .c<|qf<|.sl true 1<|IR vs),(8,ci f),(89,aL x),(90,ci n),(91,ci i)],[(0,hp6 5 6 7 4 s),(1, .gone),(2, .gone),(3, .gone),(4, .mapz<|NM s.N 0),(5, .arz 5<|CR s.C),(6, .arz 7<|TR s.T),(7, .arz 1<|NR s.N)],8⟩
def l_encB (K)(E:K<=100000000000)(vs):∀(b d) (f) (s),(∀u∈b,∀s,OkH s->NmB K s->AC Tryz.prog 192 [aH 0,aT u, .c<|qf<|.sl true 1<|IR vs] (oH s) (t2 (encE (some vs) u s).1) (oH' (encE (some vs) u s).2))->(d++b).length<=B->OkH s->NmB K s->
  RPt Tryz.prog 192 5 (t2 (encR (some vs) b f s).1) (oH' (encR (some vs) b f s).2) 5 (stEnB vs f (d++b) ((d++b).length) d.length s)
 |[],d,f,s,_,_,_,_=>by
  refine rpv (l8 ..) ?_;exact bF (by simp only [rF];omega) ⟨by rw [encR];exact .refl _,by rw [encR]⟩
 |u::b,d,f,s,p,m,ok,nm=>by
  have e:=zb<|d++u::b
  have G:d.length<(d++u::b).length:=by simp
  have A:=p u rn s ok nm;have o:=wO (some vs) u s
  have F:encR (some vs) (u::b) f s=if (encE (some vs) u s).1.2≠0 then ((0,(encE (some vs) u s).1.2),(encE (some vs) u s).2)
   else if (putS (encE (some vs) u s).2 ⟨7,f,(encE (some vs) u s).1.1,0,0⟩).1.2≠0 then ((0,(putS (encE (some vs) u s).2 ⟨7,f,(encE (some vs) u s).1.1,0,0⟩).1.2),(putS (encE (some vs) u s).2 ⟨7,f,(encE (some vs) u s).1.1,0,0⟩).2)
   else encR (some vs) b (putS (encE (some vs) u s).2 ⟨7,f,(encE (some vs) u s).1.1,0,0⟩).1.1 (putS (encE (some vs) u s).2 ⟨7,f,(encE (some vs) u s).1.1,0,0⟩).2:=by rw [encR]
  have g:=o.1 ok;have j:=λh=>o.nm (K:=K) h nm;generalize encE _ u s=z at*;have D:=xB z.2 ⟨7,f,z.1.1,0,0⟩ (by have:=g.C;omega);have nx:=λh=>l_encB K E vs b (d++ [u]) (putS z.2 ⟨7,f,z.1.1,0,0⟩).1.1 (putS z.2 ⟨7,f,z.1.1,0,0⟩).2 (λv r=>p v<|rh _ r) (by simpa using m) (g.put _)<|(j h).put _
  rw [show (d++ [u])++b=d++u::b by simp,show (((d++ [u]).length))=d.length+1 by simp] at nx;generalize putS z.2 ⟨7,f,z.1.1,0,0⟩=y at*;simp [B] at m;refine rpv (l8 ..) ?_;rw [kf,w64 (x:=d.length+1) (by omega)<|by omega,F];refine za (λ_=>⟨⟨rfl,by omega,by rw [e];omega,u9 d u b⟩,z,A,zQ (λq=> ?_) λq=>⟨y,D,zQ (λi=> ?_) λi=> ?_⟩⟩) (λq=>absurd (rg q)<|by omega)
  .rw [ri q];exact rrl
  .rw [r8 λw=>w q,ri i];exact rrl
  .rw [r8 λw=>w q,r8 λw=>w i];exact nx q
def c_encB (K)(Y:K<=100000000000)(vs):∀t,zj t=true->t.sz<=B->∀s,OkH s->NmB K s->AC Tryz.prog 192 [aH 0,aT t, .c<|qf<|.sl true 1<|IR vs] (oH s) (t2 (encE (some vs) t s).1) (oH' (encE (some vs) t s).2):=by
 refine Tm.ind λt ih=> ?_
 let ⟨k,b,n,l⟩:=t
 intro d U s ok nm;have hsz:Tm.szs l+1<=B:=by simp [Tm.sz] at U;omega
 have E:=Tm.szs_length l;refine acv (v192 k b n (FTs l) _ ..) ?_;have S:=ok.C;have hnm:s.N.length<=s.C.length+K:=nm;refine zl (λe0=> ?_) λf=>zl (λM=> ?_) λi=>zl (λL=> ?_) λj=>zl (λH=> ?_) λy=>zl (λD=> ?_) λI=> ?_
 .have X:=c_hsym s b (by omega);have A:=xB (symS s b).2 ⟨0,(symS s b).1,0,0,0⟩ (by unfold symS;split<;>simp<;>omega);exact ⟨symS s b,X,_,A,by rw [encE,ri e0];exact .refl _,by rw [encE,ri e0]⟩
 .exact ⟨_,xB s ⟨1,n,0,0,0⟩<|by omega,by rw [encE,r8 f,ri M];exact .refl _,by rw [encE,r8 f,ri M]⟩
 .exact ⟨_,xB s ⟨2,n,0,0,0⟩<|by omega,by rw [encE,r8 f,r8 i,ri L];exact .refl _,by rw [encE,r8 f,r8 i,ri L]⟩
 .exact ⟨_,xB s ⟨3,n,0,0,0⟩<|by omega,by rw [encE,r8 f,r8 i,r8 j,ri H];exact .refl _,by rw [encE,r8 f,r8 i,r8 j,ri H]⟩
 .have h4:0<=n:=by
   subst D;rw [zj] at d;simp at d;exact d.1.1.1.1
  exact ⟨_,c_hvarB vs s n h4,by rw [encE,r8 f,r8 i,r8 j,r8 y,ri D];exact .refl _,by rw [encE,r8 f,r8 i,r8 j,r8 y,ri D]⟩
 .have r:=k56 d f i j y I;have p:=vL_of d r;have hE:encE (some vs) (.mk k b n l) s=encL (some vs) k l s:=by rw [encE,r8 f,r8 i,r8 j,r8 y,r8 I]
  rw [hE]
  have G:l ≠ []:=by
   intro e;subst e;rcases r with rfl|rfl<;>simp [zj,zb] at d
  match l,G with
  |u::l,_=>
   have g:=zb<|u::l
   have O:=ih u rn (Js p rn) (by have:=Tm.szs_mem (t:=u) (l:=u::l) rn;omega) s ok nm;have J:=wO (some vs) u s
   have hL:encL (some vs) k (u::l) s=if (encE (some vs) u s).1.2≠0 then ((0,(encE (some vs) u s).1.2),(encE (some vs) u s).2)
    else if k=5 then putS (encE (some vs) u s).2 ⟨6,(encE (some vs) u s).1.1,0,0,0⟩ else encR (some vs) l (encE (some vs) u s).1.1 (encE (some vs) u s).2:=by rw [encL]
   rw [hL];have x:=J.1 ok;have F:=λh=>J.nm (K:=K) h nm;generalize encE _ u s=z at*;have A:=xB z.2 ⟨6,z.1.1,0,0,0⟩ (by have:=x.C;omega);have lp:=λh=>l_encB K Y vs l [] z.1.1 z.2 (λv d s o m=>ih v (rh _ d) (Js p<|rh _ d) (by have:=Tm.szs_mem (t:=v) (l:=u::l) (rh _ d);omega) s o m) (by simp [s8];simp [r6] at E;omega) x<|F h
   have V:List.drop 1 (List.take (Int.toNat<|((FTs<|u::l).length))<|FTs<|u::l)=FTs l:=by rw [rt,rp<|r9 _];rfl
   have Z:aE (List.getD (FTs<|u::l) 0 [])=aT u:=jc u;rw [Z,V];refine ⟨⟨rfl,rk _,by rw [g];simp only [r6];omega,ju u⟩,z,O,zQ (λq=> ?_) λq=>zl (λT=> ?_) λW=>⟨rfl,⟨by omega,by rw [g];simp [r6];omega,rk _⟩,rfl, ?_⟩⟩
   .rw [ri q];exact rrl
   .rw [r8 λw=>w q,ri T];exact ⟨_,A, .refl _,rfl⟩
   .rw [r8 λw=>w q,r8 W,zb];exact lp q
def c_EncB (K)(x:K<=100000000000)(vs t)(r:t.sz<=B)(s)(ok:OkH s)(nm:NmB K s):AC Tryz.prog 162 [aH 0,aT t, .c<|qf<|.sl true 1<|IR vs] (oH s) (t2 (encS (some vs) s t).1) (oH' (encS (some vs) s t).2):=by
 have f:=kx t r;have j:=λh=>c_encB K x vs t h r s ok nm
 let ⟨_,d,e,u,_⟩:=wO (some vs) t s
 have e0:encS _ s t=if zj t=false then ((0,1),s)
  else if (encE _ t s).1.2≠0 then ((0,(encE _ t s).1.2),⟨(encE _ t s).2.C.take s.C.length,(encE _ t s).2.T,(encE _ t s).2.M,(encE _ t s).2.L,(encE _ t s).2.N⟩)
  else encE (some vs) t s:=rfl
 rw [e0];have m:s.C.length<=(encE (some vs) t s).2.C.length:=by rw [u];simp
 generalize encE _ t s=z at*;by_cases g:zj t=false
 .rw [ri g]
  let ⟨k,b,n,l⟩:=t
  refine acv (v162 k b n _ _ ..) ?_;exact ⟨_,f,za (λ_=>rrl) λh=>by rw [g] at h;cases h⟩
 .rw [r8 g];have g:zj t=true:=by simpa using g
  have j:=j g;by_cases q:z.1.2=0
  .rw [r8 λw=>w q]
   let ⟨k,b,n,l⟩:=t
   refine acv (v162 k b n _ _ ..) ?_;refine ⟨_,f,za (λh=>by rw [g] at h;cases h) λ_=>⟨z,j,zQ (λw=>absurd q w) λ_=> ?_⟩⟩
   let ⟨⟨D,y⟩,E⟩:=z
   dsimp only at q;subst q;exact rrl
  .rw [ri q];refine AC.obj (Hs':=[.arr 6 [[.a<|.osl 5 5 0 s.C.length, .a<|.osl 6 7 0 z.2.T.length,qi z.2.M,qi z.2.L, .a<|.osl 7 1 0 z.2.N.length, .a<|.mp 4]], .gone, .gone, .gone, .mapz _,  .arz 5<|CR z.2.C, .arz 7 _, .arz 1 _]) ?_ ⟨?_, .refl _, .refl _, .refl _, .refl _, ?_, .refl _, .refl _,trivial⟩
   .let ⟨k,b,n,l⟩:=t
    refine acv (v162 k b n _ _ ..) ?_;refine ⟨_,f,za (λh=>by rw [g] at h;cases h) λ_=>⟨z,j,zQ (λw=>⟨⟨rk _,by omega,by omega⟩, .refl _, ?_⟩) λw=>absurd w q⟩⟩;rw [rt]
   .rw [hp6];simp [ry,sD m];exact .refl _
   .refine WR (by rw [yF,yF,ry];omega) λi e A j o=> ?_;rw [CR,rq] at j o;obtain ⟨v,f,rfl⟩:=r7.1 o;obtain ⟨F,p,rfl⟩:=r7.1 j;rw [rU] at f;split at f
    .rw [p] at f;injection f with f;subst f;exact LeR.refl _
    .cases f
structure Wp where
 s:Hp
 f:Int
structure Sd where
 h:Int
 js:List Int
 c:Cel
abbrev noS:Sd:=⟨0,[],noC⟩
def lookW (w:Wp)(a:Int):(Sd×Int)×Wp:=
 if (ym w.s a w.f).1.2.2≠0 then ((noS,(ym w.s a w.f).1.2.2),⟨(ym w.s a w.f).2,w.f⟩)
 else ((⟨(ym w.s a w.f).1.1.1,(ym w.s a w.f).1.1.2,zk (ym w.s a w.f).2.C (ym w.s a w.f).1.1.1⟩,0),⟨(ym w.s a w.f).2,(ym w.s a w.f).1.2.1⟩)
def xx (w:Wp)(a:Int):(Tm×Int)×Wp:=
 (((yP w.s a w.f).1.1,(yP w.s a w.f).1.2.2),⟨(yP w.s a w.f).2,if (yP w.s a w.f).1.2.2=0 then (yP w.s a w.f).1.2.1 else w.f⟩)
def lfZ (a b:Tm):=a.k==b.k&&a.n==b.n
def vi (t:Tm):=if zj t=true then (if (zw t).k=3\/(zw t).k=1 then (zw t,true) else (noT,false)) else (noT,false)
def badZ (lv:Int)(out:List Tm)(u:Tm):= !(vi u).2||(vi u).1.k==1&&decide ((vi u).1.n<=lv)||out.any λv=>lfZ v (vi u).1
def zh (lv:Int):List Int->List Tm->Wp->(List Tm×Int)×Wp
 |[],out,w=>((out,0),w)
 |a::l,out,w=>
  if (xx w a).1.2≠0 then (([],(xx w a).1.2),(xx w a).2)
  else if badZ lv out (xx w a).1.1=true then (([],171),(xx w a).2)
  else zh lv l (out++ [(vi (xx w a).1.1).1]) (xx w a).2
abbrev bndT (n:Int):Tm:= .mk 3 [] n []
def setW (w:Wp)(x:Int)(t:Tm):Int×Wp:=
 if (encS none w.s t).1.2≠0 then ((encS none w.s t).1.2,⟨(encS none w.s t).2,w.f⟩)
 else ((setS (encS none w.s t).2 x ⟨5,(encS none w.s t).1.1,0,0,0⟩).1,⟨(setS (encS none w.s t).2 x ⟨5,(encS none w.s t).1.1,0,0,0⟩).2,w.f⟩)
def zW (s:Hp)(lv:Int):=putS s ⟨4,zp [lv,0],0,0,0⟩
def w8 (w:Wp)(x lv:Int)(lams:Nat)(on:List Tm):=
 if (zW w.s lv).1.2≠0 then ((noT,(zW w.s lv).1.2),⟨(zW w.s lv).2,w.f⟩)
 else ((.mk 4 [] (zW w.s lv).1.1 [],(setW ⟨(zW w.s lv).2,w.f⟩ x<|xv lams<|zt (.mk 4 [] (zW w.s lv).1.1 []) on).1),(setW ⟨(zW w.s lv).2,w.f⟩ x<|xv lams<|zt (.mk 4 [] (zW w.s lv).1.1 []) on).2)
def onZ:List Tm->List Tm->List Tm
 |a::l,b::m=>(if lfZ a b=true then [bndT (l.length:Int)] else [])++onZ l m
 |_,_=> []
def ua (w:Wp)(x y:Sd):=
 if (zh x.c.a x.js [] w).1.2≠0 then ((zh x.c.a x.js [] w).1.2,(zh x.c.a x.js [] w).2)
 else if (zh y.c.a y.js [] (zh x.c.a x.js [] w).2).1.2≠0 then ((zh y.c.a y.js [] (zh x.c.a x.js [] w).2).1.2,(zh y.c.a y.js [] (zh x.c.a x.js [] w).2).2)
 else if (zh x.c.a x.js [] w).1.1.length≠(zh y.c.a y.js [] (zh x.c.a x.js [] w).2).1.1.length then (171,(zh y.c.a y.js [] (zh x.c.a x.js [] w).2).2)
 else if (onZ (zh x.c.a x.js [] w).1.1 (zh y.c.a y.js [] (zh x.c.a x.js [] w).2).1.1).length=(zh x.c.a x.js [] w).1.1.length then (0,(zh y.c.a y.js [] (zh x.c.a x.js [] w).2).2)
 else ((w8 (zh y.c.a y.js [] (zh x.c.a x.js [] w).2).2 x.h x.c.a (zh x.c.a x.js [] w).1.1.length<|onZ (zh x.c.a x.js [] w).1.1 (zh y.c.a y.js [] (zh x.c.a x.js [] w).2).1.1).1.2,
  (w8 (zh y.c.a y.js [] (zh x.c.a x.js [] w).2).2 x.h x.c.a (zh x.c.a x.js [] w).1.1.length<|onZ (zh x.c.a x.js [] w).1.1 (zh y.c.a y.js [] (zh x.c.a x.js [] w).2).1.1).2)
structure Iv where
 x:Int
 lv:Int
 l:List Tm
def ixZ (o:Tm):List Tm->Option Nat
 |[]=>none
 |u::l=>if lfZ u o=true then some l.length else ixZ o l
def outZ (t:Tm)(k:Int):=if t.k=3 then .mk t.k t.s (wr<|t.n-k) t.l else t
def wG (v:Iv)(t:Tm)(k:Int):=
 if t.k=3/\t.n<k then (t,true)
 else match ixZ (outZ t k) v.l with
  |some r=>(bndT<|k+r,true)
  |none=>(t,t.k==1&&decide (t.n<=v.lv))
def im1 (v:Iv)(k:Int):List Tm->List Tm×List Tm
 |[]=>([],[])
 |t::l=>if (wG v t k).2=true then (bndT (l.length:Int)::(im1 v k l).1,(wG v t k).1::(im1 v k l).2) else im1 v k l
def im2 (lv vlv k:Int):List Tm->List Tm×List Tm
 |[]=>([],[])
 |t::l=>if lv>vlv/\t.k=1/\t.n<=lv then (t::(im2 lv vlv k l).1,bndT (k+(l.length:Int))::(im2 lv vlv k l).2) else im2 lv vlv k l
def Z4 (v:Iv)(y:Sd)(k:Int)(z:(List Tm×Int)×Wp):=
 if z.1.2≠0 then ((noT,z.1.2),z.2)
 else if (im1 v k z.1.1).1.length=z.1.1.length/\y.c.a<=v.lv then ((zt (.mk 4 [] y.h []) (im1 v k z.1.1).2,0),z.2)
 else ((zt (w8 z.2 y.h (zH [v.lv,y.c.a]) z.1.1.length<|(im1 v k z.1.1).1++(im2 y.c.a v.lv k v.l).1).1.1<|(im1 v k z.1.1).2++(im2 y.c.a v.lv k v.l).2,
  (w8 z.2 y.h (zH [v.lv,y.c.a]) z.1.1.length<|(im1 v k z.1.1).1++(im2 y.c.a v.lv k v.l).1).1.2),
  (w8 z.2 y.h (zH [v.lv,y.c.a]) z.1.1.length<|(im1 v k z.1.1).1++(im2 y.c.a v.lv k v.l).1).2)
def YV (v:Iv)(y:Sd)(k:Int)(w:Wp):=Z4 v y k<|zh y.c.a y.js [] w
def vl (v:Iv)(N:List<|List UInt8)(x:Sd)(k:Int):=
 if x.c.t=0 then (.mk 0 (uc N x.c.a) 0 [],true)
 else if x.c.t=2 then (.mk 2 [] x.c.a [],true)
 else if x.c.t=1 then wG v (.mk 1 [] x.c.a []) k
 else wG v (bndT x.c.a) k
def uR (F:Int->Wp->(Tm×Int)×Wp):List Int->Tm->Wp->(Tm×Int)×Wp
 |[],t,w=>((t,0),w)
 |b::l,t,w=>if (F b w).1.2≠0 then ((noT,(F b w).1.2),(F b w).2) else uR F l (zt t [(F b w).1.1]) (F b w).2
def termG (v:Iv)(F:Int->Int->Wp->(Tm×Int)×Wp)(k:Int)(z:(Sd×Int)×Wp):=
 if z.1.2≠0 then ((noT,z.1.2),z.2)
 else if z.1.1.c.t=6 then ((xv 1 (F z.1.1.c.a (k+1) z.2).1.1,(F z.1.1.c.a (k+1) z.2).1.2),(F z.1.1.c.a (k+1) z.2).2)
 else if z.1.1.c.t=4 then (if z.1.1.h=v.x then ((noT,170),z.2) else YV v z.1.1 k z.2)
 else if (vl v z.2.s.N z.1.1 k).2=false then ((noT,170),z.2)
 else uR (λb w=>F b k w) z.1.1.js (vl v z.2.s.N z.1.1 k).1 z.2
def yj (v:Iv):Nat->Int->Int->Wp->(Tm×Int)×Wp
 |0,_,_,w=>((noT,80),w)
 |n+1,a,k,w=>termG v (yj v n) k<|lookW w a
def Jq (x:Sd)(a:Int)(z:(List Tm×Int)×Wp):=
 if z.1.2≠0 then (z.1.2,z.2)
 else if (yj ⟨x.h,x.c.a,z.1.1⟩ (z.2.f.toNat+1) a 0 z.2).1.2≠0 then ((yj ⟨x.h,x.c.a,z.1.1⟩ (z.2.f.toNat+1) a 0 z.2).1.2,(yj ⟨x.h,x.c.a,z.1.1⟩ (z.2.f.toNat+1) a 0 z.2).2)
 else setW (yj ⟨x.h,x.c.a,z.1.1⟩ (z.2.f.toNat+1) a 0 z.2).2 x.h<|xv z.1.1.length (yj ⟨x.h,x.c.a,z.1.1⟩ (z.2.f.toNat+1) a 0 z.2).1.1
def vz (w:Wp)(x:Sd)(a:Int):=Jq x a<|zh x.c.a x.js [] w
def wd (w:Wp)(x:Sd)(a:Int):=
 if x.c.t=6 then ((x.c.a,0),w)
 else if (xe w.s a 1).1.2≠0 then ((0,(xe w.s a 1).1.2),⟨(xe w.s a 1).2,w.f⟩)
 else if (putS (xe w.s a 1).2 ⟨3,0,0,0,0⟩).1.2≠0 then ((0,(putS (xe w.s a 1).2 ⟨3,0,0,0,0⟩).1.2),⟨(putS (xe w.s a 1).2 ⟨3,0,0,0,0⟩).2,w.f⟩)
 else ((putS (putS (xe w.s a 1).2 ⟨3,0,0,0,0⟩).2 ⟨7,(xe w.s a 1).1.1,(putS (xe w.s a 1).2 ⟨3,0,0,0,0⟩).1.1,0,0⟩).1,
  ⟨(putS (putS (xe w.s a 1).2 ⟨3,0,0,0,0⟩).2 ⟨7,(xe w.s a 1).1.1,(putS (xe w.s a 1).2 ⟨3,0,0,0,0⟩).1.1,0,0⟩).2,w.f⟩)
abbrev Ow:=(Int×List (Int×Int))×Wp
def qI (w:Wp)(x y:Sd)(p:Int×Int):Ow:=
 if (wd w x p.1).1.2≠0 then (((wd w x p.1).1.2,[]),(wd w x p.1).2)
 else if (wd (wd w x p.1).2 y p.2).1.2≠0 then (((wd (wd w x p.1).2 y p.2).1.2,[]),(wd (wd w x p.1).2 y p.2).2)
 else ((0,[((wd w x p.1).1.1,(wd (wd w x p.1).2 y p.2).1.1)]),(wd (wd w x p.1).2 y p.2).2)
def dX (x y:Sd):=x.c.t !=y.c.t||x.c.a !=y.c.a||x.js.length !=y.js.length
def oneG (p:Int×Int)(x y:Sd)(w:Wp):=
 if x.c.t=6\/y.c.t=6 then qI w x y p
 else if x.c.t=4/\y.c.t=4/\x.h=y.h then (((ua w x y).1,[]),(ua w x y).2)
 else if x.c.t=4 then (((vz w x p.2).1,[]),(vz w x p.2).2)
 else if y.c.t=4 then (((vz w y p.1).1,[]),(vz w y p.1).2)
 else if dX x y=true then ((170,[]),w)
 else ((0,x.js.zip y.js),w)
def oneW (w:Wp)(p:Int×Int):Ow:=
 if (lookW w p.1).1.2≠0 then (((lookW w p.1).1.2,[]),(lookW w p.1).2)
 else if (lookW (lookW w p.1).2 p.2).1.2≠0 then (((lookW (lookW w p.1).2 p.2).1.2,[]),(lookW (lookW w p.1).2 p.2).2)
 else oneG p (lookW w p.1).1.1 (lookW (lookW w p.1).2 p.2).1.1 (lookW (lookW w p.1).2 p.2).2
def runZ:Nat->Wp->List (Int×Int)->Int×Wp
 |_,w,[]=>(0,w)
 |0,w,_::_=>(80,w)
 |n+1,w,p::st=>
  if w.f<=0 then (80,w)
  else if (oneW ⟨w.s,w.f-1⟩ p).1.1≠0 then ((oneW ⟨w.s,w.f-1⟩ p).1.1,(oneW ⟨w.s,w.f-1⟩ p).2)
  else runZ n (oneW ⟨w.s,w.f-1⟩ p).2<|(oneW ⟨w.s,w.f-1⟩ p).1.2++st
def oddZ (C:List Cel)(x:Int):= !inC C x||decide (9<=(zk C x).t)
def allZ (s:Hp)(a b:List Int)(f:Int):=
 if a.length≠b.length\/a.any (oddZ s.C)=true\/b.any (oddZ s.C)=true then ((0,1),s)
 else if (runZ f.toNat ⟨s,f⟩<|a.zip b).1≠0 then ((0,(runZ f.toNat ⟨s,f⟩<|a.zip b).1),yS (runZ f.toNat ⟨s,f⟩<|a.zip b).2.s s.C.length s.T.length)
 else (((runZ f.toNat ⟨s,f⟩<|a.zip b).2.f,0),(runZ f.toNat ⟨s,f⟩<|a.zip b).2.s)
abbrev aWk:TV:= .c<|.a<|.ep 0 3 0 0
abbrev wk3 (o r:Nat)(f:Int)(n:Nat):AObj:= .arr 3 [[.a<|.ep o 6 0 0, .a<|.osl r 2 0 n,qi f]]
abbrev oWk (w:Wp)(n:Nat)(R:List<|List FV):=[wk3 1 6 w.f n,hp6 2 3 4 5 w.s, .arz 5<|CR w.s.C, .arz 7<|TR w.s.T, .arz 1<|NR w.s.N, .mapz<|NM w.s.N 0, .arz 2 R]
abbrev oWk' (w:Wp)(n:Nat)(R:List<|List FV):=[wk3 1 10 w.f n,hp6 7 8 9 5 w.s, .gone, .gone, .gone, .mapz<|NM w.s.N 0, .gone, .arz 5<|CR w.s.C, .arz 7<|TR w.s.T, .arz 1<|NR w.s.N, .arz 2 R]
abbrev aSd (x:Sd):TV:= .agg [qi x.h,qf<|.sl false 1<|IR x.js,qi x.c.t,qi x.c.a,qi x.c.b,qi x.c.c,qi x.c.d]
abbrev tSd (x:Sd×Int):TV:= .tup [(true,[qi x.1.h,qf<|.sl false 1<|IR x.1.js,qi x.1.c.t,qi x.1.c.a,qi x.1.c.b,qi x.1.c.c,qi x.1.c.d]),(false,[qi x.2])]
abbrev tTE (x:Tm×Int):TV:= .tup [(true,cT x.1),(false,[qi x.2])]
structure OkW (K:Nat)(w:Wp):Prop where
 h:OkH w.s
 f0:0<=w.f
 f1:w.f<=3000000
 n:NmB K w.s
 i:IH w.s
def noTE (e):TV.Le (.tup [(true,[qi 0,qf<|.str [],qi 0,qf .N]),(false,[qi e])]) (tTE (noT,e)):=leTE (l:=[]) xL
def gS (a b):AC Tryz.prog 240 [aT a,aT b] [] (cb<|lfZ a b) []:=by
 let ⟨k,s,n,l⟩:=a
 let ⟨d,g,f,l'⟩:=b
 refine acv (v240 k s n _ d g f _ _ _) ?_;have e:lfZ (.mk k s n l) (.mk d g f l')=(k==d&&n==f):=rfl;refine za (λh=> ?_) λh=> ?_
 .have h:=h;rw [e,h,rO];exact rrl
 .have h:=h;rw [e,h,rQ];exact rrl
def jv (n):AC Tryz.prog 241 [ci n] [] (aT<|bndT n) []:=by
 refine acv (v241 ..) ?_;exact ⟨leT xL,rfl⟩
def fH (x):AC Tryz.prog 234 [aSd x] [] (cb<|x.c.t==4) []:=by
 refine acv (v234 ..) ?_;exact rrl
def c_hclash (x y):AC Tryz.prog 237 [aSd x,aSd y] [] (cb<|dX x y) []:=by
 have e:dX x y=(x.c.t !=y.c.t||x.c.a !=y.c.a||x.js.length !=y.js.length):=rfl;refine acv (v237 ..) ?_;rw [zn,zn];refine za (λh=> ?_) λh=>za (λb=> ?_) λb=>⟨rfl,rfl, ?_⟩
 .rw [e,show (x.c.t !=y.c.t)=true from h];exact zg rfl
 .rw [e,show (x.c.t !=y.c.t)=false from h,show (x.c.a !=y.c.a)=true from b];exact zg rfl
 .rw [e,show (x.c.t !=y.c.t)=false from h,show (x.c.a !=y.c.a)=false from b];refine zg ?_;by_cases q:x.js.length=y.js.length
  .simp [q]
  .have:x.js.length≠(y.js.length:Int):=by omega
   rw [show (x.js.length !=(y.js.length:Int))=true from bne_iff_ne.2 this,show (x.js.length !=y.js.length)=true from bne_iff_ne.2 q];rfl
def c_hLeaf (t)(g:t.sz<=SZ):AC Tryz.prog 247 [aT t] [] (.tup [(true,cT (vi t).1),(false,[qf<|.bool (vi t).2])]) []:=by
 have i:=kx t (by simp [SZ,B] at*;omega);have h:=λh=>Jo t (wJ t h) (W1 h) g<|Xg t h
 have e:vi t=if zj t=true then (if (zw t).k=3\/(zw t).k=1 then (zw t,true) else (noT,false)) else (noT,false):=rfl
 rw [e];generalize zw t=z at*
 let ⟨k,s,n,l⟩:=t
 refine acv (v247 k s n (FTs l) _ _) ?_;refine ⟨_,i,za (λf=> ?_) λf=>⟨_,h<|aO f,za (λd=> ?_) λd=>za (λb=> ?_) λb=> ?_⟩⟩
 .rw [r8<|by rw [not_t f];simp];exact ⟨leTB (l:=[]) xL,rfl⟩
 .have d:=d;rw [ri<|aO f,ri<|.inl<|by simpa using d];exact rrl
 .have b:=b;rw [ri<|aO f,ri<|.inr<|by simpa using b];exact rrl
 .have d:=d;have b:=b;rw [ri<|aO f,r8<|by simp at d b;rintro (q|q)<;>contradiction];exact ⟨leTB (l:=[]) xL,rfl⟩
def gm (K w n R)(ok:OkW K w)(a):AC Tryz.prog 232 [aWk,ci a] (oWk w n R) (tSd (lookW w a).1) (oWk' (lookW w a).2 n R):=by
 have j:=gt w.s a w.f ok.h (by have:=ok.f0;omega) (by have:=ok.f1;omega)
 have e:lookW w a=if (ym w.s a w.f).1.2.2≠0 then ((noS,(ym w.s a w.f).1.2.2),⟨(ym w.s a w.f).2,w.f⟩)
  else ((⟨(ym w.s a w.f).1.1.1,(ym w.s a w.f).1.1.2,zk (ym w.s a w.f).2.C (ym w.s a w.f).1.1.1⟩,0),⟨(ym w.s a w.f).2,(ym w.s a w.f).1.2.1⟩):=rfl
 rw [e];generalize ym w.s a w.f=z at*
 let ⟨⟨⟨hd,xs⟩,i,b⟩,d⟩:=z
 have g:=xZ d hd;dsimp only at*;refine acv (v232 ..) ?_;refine ⟨(hd,xs,i,b,d),j,zQ (λq=> ?_) λq=> ?_⟩
 .rw [ri q];exact ⟨YD (xs:=[(true,[.int .i64 0, .N, .int .i64 0, .int .i64 0, .int .i64 0, .int .i64 0, .int .i64 0]),(false,[.int .i64 b])]) (ys:=[(true,[.int .i64 0, .sl false 1<|IR [], .int .i64 0, .int .i64 0, .int .i64 0, .int .i64 0, .int .i64 0]),(false,[.int .i64 b])]) ⟨⟨rfl, .refl _, .N 1, .refl _, .refl _, .refl _, .refl _, .refl _,trivial⟩,⟨rfl, .refl _⟩,trivial⟩,rfl⟩
 .rw [r8 λw=>w q];exact ⟨_,_,_,_,_,_,g, .refl _,rfl⟩
def c_wfull (K w n R)(ok:OkW K w)(a):AC Tryz.prog 246 [aWk,ci a] (oWk w n R) (tTE (xx w a).1) (oWk' (xx w a).2 n R):=by
 have d:=og w.s a w.f ok.h (by have:=ok.f0;omega) (by have:=ok.f1;omega);have e:xx w a=(((yP w.s a w.f).1.1,(yP w.s a w.f).1.2.2),⟨(yP w.s a w.f).2,if (yP w.s a w.f).1.2.2=0 then (yP w.s a w.f).1.2.1 else w.f⟩):=rfl
 rw [e];generalize yP w.s a w.f=z at*
 let ⟨⟨t,b,i⟩,g⟩:=z
 dsimp only at*;refine acv (v246 ..) ?_;refine ⟨(t,b,i,g),d,zl (λq=> ?_) λq=> ?_⟩
 .rw [ri q];exact rrl
 .rw [r8 q];exact rrl
def Ja (s)(ok:OkH s)(lv):AC Tryz.prog 69 [aH 0,ci lv] (oH s) (t2 (zW s lv).1) (oH' (zW s lv).2):=by
 have b:=xB s ⟨4,zp [lv,0],0,0,0⟩ (by have:=ok.C;omega);refine acv (v69 ..) ?_;exact ⟨zW s lv,b, .refl _,rfl⟩
abbrev aM:TV:= .c<|.a<|.ep 0 14 0 0
abbrev npF:FV:= .cst<|.pointer none
def evM (k e:Int):FV:= .pt [.int .i64 k, .sl false 4 [], .int .i64 e]
def vL (m k e):AC Tryz.prog 33 [aM, .agg [qi k,qf .N,qi e]] (mOb m []) (ci 2) (mOb { m with o:=evM k e } []):=by
 have h:AC Tryz.prog 33 [aM, .agg [qi k,qf<|.sl false 4 [],qi e]] (mOb m []) (ci 2) (.arr 14 [[.a<|.ep 1 6 0 0,qf m.P,qf m.T,qi m.S,qf m.V,qf m.nf,qi m.na,qf m.A,qi m.L,qf m.I, .a<|.osl 6 10 0 m.n,qi m.f,qf<|.bool m.w, .a<|.ep 7 3 0 0]]::(mOb m []).tail++ [.arr 3 [[qi k,qf<|.sl false 4 [],qi e]]]):=by
  refine acv (v33 k [] e m _ _) ?_;exact rrl
 exact ((h.ice 7 3 [[.int .i64 k, .sl false 4 [], .int .i64 e]] rfl).skip 7 1 (mOb { m with o:=evM k e } []) (ci 2) rfl rfl rfl rfl (by simp) (by simp)).args ⟨.refl _, .agg _ _ rfl (λi x y d b=>by
  match i,d,b with
  |0,d,b=>injection d with d;injection b with b;subst d;subst b;exact .refl _
  |1,d,b=>injection d with d;injection b with b;subst d;subst b;exact .a _ _ (.fz _ _<|.N 4)
  |2,d,b=>injection d with d;injection b with b;subst d;subst b;exact .refl _),trivial⟩
def y3 (m:Ma)(l e:Int):Int×Ma:=
 if e=0 then (0,{ m with f:=l }) else if e=170 then (1,m) else if e=80 then (2,{ m with f:=0,o:=evM 4 0 })
 else if e=200\/e=201\/e=202 then (2,{ m with o:=evM 5 e }) else if e=180\/e=181\/e=182 then (2,{ m with o:=evM 3 e }) else (2,{ m with o:=evM 2 0 })
def told_eta (m l e):(y3 m l e).2.s=m.s/\(y3 m l e).2.C=m.C:=by
 unfold y3;repeat' (first|split|exact ⟨rfl,rfl⟩)
def zF {m l e}:({ (y3 m l e).2 with s:=m.s,C:=m.C })=(y3 m l e).2:=by
 let ⟨d,b⟩:=told_eta m l e
 rw [<-d,<-b]
def dM (m l e):AC Tryz.prog 36 [aM,ci l,ci e] (mOb m []) (ci (y3 m l e).1) (mOb (y3 m l e).2 []):=by
 refine acv (v36 l e m _ _) ?_;unfold y3;refine za (λh=> ?_) λo=>za (λh=> ?_) λu=>za (λh=> ?_) λb=>za (λh=> ?_) λj=>za (λh=> ?_) λp=>za (λh=> ?_) λi=>za (λh=> ?_) λr=>za (λh=> ?_) λg=>za (λh=> ?_) λd=> ?_
 all_goals simp only [rT,beq_eq_false_iff_ne,ne_eq] at*
 .subst h;exact rrl
 .subst h;exact rrl
 .subst h;exact ⟨(2,_),vL { m with f:=0 } 4 0, .refl _,rfl⟩
 .subst h;exact ⟨(2,_),vL m 5 200, .refl _,rfl⟩
 .subst h;exact ⟨(2,_),vL m 5 201, .refl _,rfl⟩
 .subst h;exact ⟨(2,_),vL m 5 202, .refl _,rfl⟩
 .subst h;exact ⟨(2,_),vL m 3 180, .refl _,rfl⟩
 .subst h;exact ⟨(2,_),vL m 3 181, .refl _,rfl⟩
 .subst h;exact ⟨(2,_),vL m 3 182, .refl _,rfl⟩
 .rw [r8 o,r8 u,r8 b,r8<|by simp [j,p,i],r8<|by simp [r,g,d]];exact ⟨(2,_),vL m 2 0, .refl _,rfl⟩
abbrev SlO:=Option<|List Int
def slF:SlO->FV
 |none=> .N
 |some []=> .z0 true
 |some (x::s)=> .sl true 1<|IR<|x::s
def slL (o:SlO):=o.getD []
def slW (k:Nat):SlO->WV
 |none=> .a<|.fz .N
 |some []=> .a<|.fz<|.z0 true
 |some (x::s)=> .a<|.osl k 1 0 (x::s).length
def slB:SlO->List AObj
 |some (x::s)=> [.arz 1<|IR<|x::s]
 |_=> []
def slN (k:Nat):SlO->Nat
 |some (_::_)=>k+1
 |_=>k
inductive Fr where
 |nil
 |mk (c:Cd) (s:SlO) (b d:Int) (k:Fr) (a:Int)
def frF:Fr->FV
 |.nil=>npF
 |.mk c s b d k a=> .pt [.pt<|FC c,slF s, .int .i64 b, .int .i64 d,frF k, .int .i64 a]
def frD:Fr->Int
 |.nil=>0
 |.mk _ _ _ d _ _=>d
def Gr (s s':Hp):Prop:=Mv true s s'/\(OkH s->OkH s')/\∀K,NmB K s->NmB K s'
def Gr.refl (s):Gr s s:=⟨.refl _,id,λ_ h=>h⟩
def Gr.trans {a b c}(h:Gr a b)(g:Gr b c):Gr a c:=⟨h.1.trans g.1,λo=>g.2.1<|h.2.1 o,λK o=>g.2.2 K<|h.2.2 K o⟩
def Gr.put (s c)(b:c.t=2->N64 c.a:=by simp):Gr s (putS s c).2:=⟨Mv.put c (.refl _) b,λo=>o.put c,λ_ g=>g.put c⟩
def ZL (s x):List.take s.length (IR s)++ [[.int .i64 x]]=IR (s++ [x]):=by
 rw [rp<|by simp [IR]];simp [IR]
def dI (v k)(b:k<=(slL v).length)(d:(slL v).length<=1000000):∃o,slL o=(slL v).take k/\
  (o=none/\AC Tryz.prog 68 [.c<|qf<|FV.cut (slF v) 0 k] [] (.c<|qf .N) []\/
   o=some []/\AC Tryz.prog 68 [.c<|qf<|FV.cut (slF v) 0 k] [] (.c<|qf<|.z0 true) []\/
   ∃x s,o=some (x::s)/\AC Tryz.prog 68 [.c<|qf<|FV.cut (slF v) 0 k] [] (.c<|.a<|.osl 0 1 0 (IR<|x::s).length) [.arz 1<|IR<|x::s]):=by
 have f:AC Tryz.prog 68 [.c<|qf<|.sl true 1 []] [] _ []:=
  acv (pC ..) ⟨rfl, .refl _,rfl⟩
 match v,b,d with
 |none,_,_=>exact ⟨none,by simp [slL], .inl ⟨rfl,acv (v68 ..) rrl⟩⟩
 |some [],_,_=>exact ⟨some [],by simp [slL], .inr<|.inl ⟨rfl,f.args ⟨.c _ _<|.a _ _<|.fz _ _<|.z0 _ _,trivial⟩⟩⟩
 |some (x::s),b,d=>
  cases k with
  |zero=>exact ⟨some [],by simp [slL], .inr<|.inl ⟨rfl,f⟩⟩
  |succ k=>
   refine ⟨some _,by simp [slL], .inr<|.inr ⟨x,s.take k,rfl, ?_⟩⟩;have e:FV.cut (slF<|some<|x::s) 0 (k+1)= .sl true 1 (IR<|x::s.take k):=by simp [slF,FV.cut,IR,t9]
   rw [e];refine acv (pC ..) ⟨rfl,za (λh=>by simp [IR] at h) λ_=>⟨?_, .refl _,rfl⟩⟩;simp [slL,rP,r6] at d b;simp [zi,IR,sc,r6,ry];omega
def dJ (s lv):(zW s lv).1.2=0\/(zW s lv).1.2=200:=by
 unfold zW putS;split
 .rename_i q
  have:wa s ⟨4,zp [lv,0],0,0,0⟩=true:=by
   unfold wa;simp [zp,List.foldl]
   grind
  grind
 .grind
abbrev cdO (c:Cd):AObj:= .arr 6 [[qf<|.str c.nm,qi c.ar,qi c.fr,qi c.vs,qi c.sl,qf<|.sl false 8<|FIs c.ins]]
abbrev errT (e:Int):TV:= .tup [(false,[qf npF]),(false,[qi e])]
abbrev okT (o:Nat):TV:= .tup [(false,[.a<|.ep o 6 0 0]),(false,[qi 0])]
abbrev bsA (m:Ma)(c:Cd)(l:List AObj):=mSb m l
abbrev frOA (c:Cd)(c1 k:FV)(k0:Nat)(b d a:Int)(s:SlO):= .arr 6 [[qf<|.pt<|FC c,slW k0 s,qi b,qi d,qf k,qi a]]::slB s
abbrev stFA (m:Ma)(c:Cd)(c1 k:FV)(b d a:Int)(s:SlO):=numO 0<|bsA m c<|.arr 2 [[qf<|.pt<|FC c,qf c1]]::frOA c c1 k 13 b d a s
def l_fr5A (m c p k b d a)(r:c.sl<=1000000):∀(n) (s),n=c.sl.toNat-(slL s).length->(slL s).length<=2000000->
  ∃o,(slL o).length=(slL s).length+n/\RPt Tryz.prog 35 7 (okT 11) (bsA m c<|frOA c p k 12 b d a o) 5 ⟨[(4, .c<|.a<|.ep 11 2 0 0),(8, .c<|.a<|.ep 12 6 0 0)],stFA m c p k b d a s,slN 13 s⟩:=by
 have j:List.getD (List.drop 4<|FC c) 0 FV.N= .int .i64 c.sl:=by rw [yZ];rfl
 intro n
 induction n with
 |zero=>
  intro s f i;refine ⟨s,rfl, ?_⟩
  have fin:∀ {x:Int},¬x<c.sl->¬x<FV.I (List.getD (List.drop 4<|FV.prow _) 0 FV.N):=λh=>by
   first|(rw [FV.prow,j,FV.I];exact h)|exact h
  match s,f with
  |none,f=>
   refine rpv (Jw ..) ⟨rfl,(zc rfl (zc rfl (zc (by rw [FV.prow,yZ];rfl) ?_)))⟩;exact bF (fin<|by simp [slL] at f;omega) rrl
  |some [],f=>
   refine rpv (JN ..) ⟨rfl,(zc rfl (zc rfl (zc (by rw [FV.prow,yZ];rfl) ?_)))⟩;exact bF (fin<|by simp [slL] at f;omega) rrl
  |some (x::s),f=>
   refine rpv (KQ ..)<|zc rfl (zc rfl (zc (by rw [FV.prow,yZ];rfl) ?_))
   exact bF (fin<|by simp [slL] at f ⊢;omega) rrl
 |succ n ih=>
  intro s f i
  let ⟨o,u,g⟩:=ih (some<|slL s++ [-1]) (by simp [slL] at*;omega) (by simp [slL] at*;omega)
  refine ⟨o,by simp [slL] at*;omega, ?_⟩
  have fin:∀ {x:Int},x<c.sl->x<FV.I (List.getD (List.drop 4<|FV.prow _) 0 FV.N):=λh=>by
   first|(rw [FV.prow,j,FV.I];exact h)|exact h
  match s,f,i,g with
  |none,f,_,g=>
   refine rpv (Jw ..) ⟨rfl,(zc rfl (zc rfl (zc (by rw [FV.prow,yZ];rfl) ?_)))⟩;exact bT (fin<|by simp [slL] at f;omega) ⟨r9 _,by simp [zi],g⟩
  |some [],f,_,g=>
   refine rpv (JN ..) ⟨rfl,(zc rfl (zc rfl (zc (by rw [FV.prow,yZ];rfl) ?_)))⟩;exact bT (fin<|by simp [slL] at f;omega) ⟨r9 _,by simp [zi],g⟩
  |some (x::s),f,i,g=>
   refine rpv (KQ ..)<|zc rfl (zc rfl (zc (by rw [FV.prow,yZ];rfl) ?_))
   refine bT (fin<|by simp [slL] at f ⊢;omega)<|?_
   simp [slL,rP,r6] at i;refine ⟨r9 _,⟨by simp [IR],by simp [zi,r6];omega⟩, ?_⟩;rw [ZL];have e:(x::s).length+1=(slL (some<|x::s)++ [-1]).length:=by simp [slL]
   rw [e];exact g
def l_fr1A (m:Ma)(c u k b d a)(E:c.sl<=1000000)(I:c.vs<=1000000):∀(n) (i) (s) (v),n=(c.vs-i).toNat->0<=i->(slL v).length+n<=2000000->OkH s->
  ∃w,Gr s w/\(RPt Tryz.prog 35 7 (errT 200) (bsA { m with s:=w } c []) 1 ⟨[(0,aM),(4, .c<|.a<|.ep 11 2 0 0),(8, .c<|.a<|.ep 12 6 0 0),(58,ci c.vs),(59,ci i)],stFA { m with s:=s } c u k b d a v,slN 13 v⟩\/
   ∃o,(slL o).length=max ((slL v).length+n) c.sl.toNat/\RPt Tryz.prog 35 7 (okT 11) (bsA { m with s:=w } c<|frOA c u k 12 b d a o) 1 ⟨[(0,aM),(4, .c<|.a<|.ep 11 2 0 0),(8, .c<|.a<|.ep 12 6 0 0),(58,ci c.vs),(59,ci i)],stFA { m with s:=s } c u k b d a v,slN 13 v⟩):=by
 intro n
 induction n with
 |zero=>
  intro i s v G F y ok
  let ⟨o,D,f⟩:=l_fr5A { m with s:=s } c u k b d a E _ v rfl (by omega)
  refine ⟨s, .refl _, .inr ⟨o,by omega, ?_⟩⟩
  match v,f with
  |none,f=>exact rpv (ZY ..)<|bF (by omega) f
  |some [],f=>exact rpv (Y7 ..)<|bF (by omega) f
  |some (x::t),f=>exact rpv (Yr ..)<|bF (by omega) f
 |succ n ih=>
  intro i s v G F y ok;have p:=Ja s ok m.L;have C:Gr s (zW s m.L).2:=Gr.put s _;have A:=C.2.1 ok;rcases dJ s m.L with q|q<;>generalize zW s m.L=z at*
  .let ⟨w,g,f⟩:=ih (i+1) z.2 (some<|slL v++ [z.1.1]) (by omega) (by omega) (by simp [slL] at*;omega) A
   have j:∀r H,RPt Tryz.prog 35 7 r H 1 ⟨[(0,aM),(4,(.c<|.a<|.ep 11 2 0 0)),(8,(.c<|.a<|.ep 12 6 0 0)),(58,ci c.vs),(59,ci<|i+1)],stFA { m with s:=z.2 } c u k b d a<|some<|slL v++ [z.1.1],slN 13<|some<|slL v++ [z.1.1]⟩->RPt Tryz.prog 35 7 r H 1 ⟨[(0,aM),(4,(.c<|.a<|.ep 11 2 0 0)),(8,(.c<|.a<|.ep 12 6 0 0)),(58,ci c.vs),(59,ci i)],stFA { m with s:=s } c u k b d a v,slN 13 v⟩:=λr H f=>by
    rw [<-w64 (x:=i+1) (by omega)<|by omega] at f
    match v,y,f with
    |none,_,f=>exact rpv (ZY ..)<|za (λ_=>⟨(z.1.1,z.1.2,z.2),p,za (λh=>by rw [q] at h;cases h) λ_=>⟨r9 _,by simp [zi],f⟩⟩) λh=>absurd (rg h)<|by omega
    |some [],_,f=>exact rpv (Y7 ..)<|za (λ_=>⟨(z.1.1,z.1.2,z.2),p,za (λh=>by rw [q] at h;cases h) λ_=>⟨r9 _,by simp [zi],f⟩⟩) λh=>absurd (rg h)<|by omega
    |some (x::t),y,f=>
     simp [slL,rP,r6] at y;refine rpv (Yr ..)<|za (λ_=>⟨(z.1.1,z.1.2,z.2),p,za (λh=>by rw [q] at h;cases h) λ_=>⟨r9 _,⟨by simp [IR],by simp [zi,r6];omega⟩, ?_⟩⟩) λh=>absurd (rg h)<|by omega
     rw [ZL];have e:(x::t).length+1=(slL (some<|x::t)++ [z.1.1]).length:=by simp [slL]
     rw [e];exact f
   refine ⟨w,C.trans g,f.imp (j _ _) λ⟨o,D,h⟩=>⟨o, ?_,j _ _ h⟩⟩;rw [D];simp [slL];omega
  .refine ⟨z.2,C, .inl ?_⟩
   match v with
   |none=>exact rpv (ZY ..)<|za (λ_=>⟨(z.1.1,z.1.2,z.2),p,za (λ_=>by rw [q];exact rrl) λh=>by rw [q] at h;cases h⟩) λh=>absurd (rg h)<|by omega
   |some []=>exact rpv (Y7 ..)<|za (λ_=>⟨(z.1.1,z.1.2,z.2),p,za (λ_=>by rw [q];exact rrl) λh=>by rw [q] at h;cases h⟩) λh=>absurd (rg h)<|by omega
   |some (x::t)=>exact rpv (Yr ..)<|za (λ_=>⟨(z.1.1,z.1.2,z.2),p,za (λ_=>by rw [q];exact rrl) λh=>by rw [q] at h;cases h⟩) λh=>absurd (rg h)<|by omega
abbrev bsB (m:Ma)(c:Cd)(l:List AObj):=mSc m (cdO c) l
abbrev frOB (c:Cd)  (k0:Nat)(b d a:Int)(s:SlO):= .arr 6 [[.a<|.ep 7 6 0 0,slW k0 s,qi b,qi d,qf npF,qi a]]::slB s
abbrev stFB (m:Ma)(c:Cd)  (b d a:Int)(s:SlO):=numO 0<|bsB m c<|.arr 2 [[.a<|.ep 7 6 0 0,qf .N]]::frOB c  14 b d a s
def l_fr5B (m c b d a)(p:c.sl<=1000000):∀(n) (s),n=c.sl.toNat-(slL s).length->(slL s).length<=2000000->
  ∃o,(slL o).length=(slL s).length+n/\RPt Tryz.prog 35 8 (okT 12) (bsB m c<|frOB c  13 b d a o) 5 ⟨[(4, .c<|.a<|.ep 12 2 0 0),(8, .c<|.a<|.ep 13 6 0 0)],stFB m c  b d a s,slN 14 s⟩:=by
 have j:List.getD (List.drop 4<|FC c) 0 FV.N= .int .i64 c.sl:=by rw [yZ];rfl
 intro n
 induction n with
 |zero=>
  intro s f i;refine ⟨s,rfl, ?_⟩
  have fin:∀ {x:Int},¬x<c.sl->¬x<c.sl:=λh=>by
   first|(rw [FV.prow,j,FV.I];exact h)|exact h
  match s,f with
  |none,f=>
   refine rpv (v35_5a ..) ⟨rfl, ?_⟩;exact bF (fin<|by simp [slL] at f;omega) rrl
  |some [],f=>
   refine rpv (v35_5b ..) ⟨rfl, ?_⟩;exact bF (fin<|by simp [slL] at f;omega) rrl
  |some (x::s),f=>
   refine rpv (v35_5c ..) ?_;exact bF (fin<|by simp [slL] at f ⊢;omega) rrl
 |succ n ih=>
  intro s f i
  let ⟨o,r,g⟩:=ih (some<|slL s++ [-1]) (by simp [slL] at*;omega) (by simp [slL] at*;omega)
  refine ⟨o,by simp [slL] at*;omega, ?_⟩
  have fin:∀ {x:Int},x<c.sl->x<c.sl:=λh=>by
   first|(rw [FV.prow,j,FV.I];exact h)|exact h
  match s,f,i,g with
  |none,f,_,g=>
   refine rpv (v35_5a ..) ⟨rfl, ?_⟩;exact bT (fin<|by simp [slL] at f;omega) ⟨r9 _,by simp [zi],g⟩
  |some [],f,_,g=>
   refine rpv (v35_5b ..) ⟨rfl, ?_⟩;exact bT (fin<|by simp [slL] at f;omega) ⟨r9 _,by simp [zi],g⟩
  |some (x::s),f,i,g=>
   refine rpv (v35_5c ..) ?_;refine bT (fin<|by simp [slL] at f ⊢;omega)<|?_
   simp [slL,rP,r6] at i;refine ⟨r9 _,⟨by simp [IR],by simp [zi,r6];omega⟩, ?_⟩;rw [ZL];have e:(x::s).length+1=(slL (some<|x::s)++ [-1]).length:=by simp [slL]
   rw [e];exact g
def l_fr1B (m:Ma)(c b d a)(D:c.sl<=1000000)(G:c.vs<=1000000):∀(n) (i) (s) (v),n=(c.vs-i).toNat->0<=i->(slL v).length+n<=2000000->OkH s->
  ∃u,Gr s u/\(RPt Tryz.prog 35 8 (errT 200) (bsB { m with s:=u } c []) 1 ⟨[(0,aM),(4, .c<|.a<|.ep 12 2 0 0),(8, .c<|.a<|.ep 13 6 0 0),(58,ci c.vs),(59,ci i)],stFB { m with s:=s } c  b d a v,slN 14 v⟩\/
   ∃o,(slL o).length=max ((slL v).length+n) c.sl.toNat/\RPt Tryz.prog 35 8 (okT 12) (bsB { m with s:=u } c<|frOB c  13 b d a o) 1 ⟨[(0,aM),(4, .c<|.a<|.ep 12 2 0 0),(8, .c<|.a<|.ep 13 6 0 0),(58,ci c.vs),(59,ci i)],stFB { m with s:=s } c  b d a v,slN 14 v⟩):=by
 intro n
 induction n with
 |zero=>
  intro i s v F E w ok
  let ⟨o,C,f⟩:=l_fr5B { m with s:=s } c  b d a D _ v rfl (by omega)
  refine ⟨s, .refl _, .inr ⟨o,by omega, ?_⟩⟩
  match v,f with
  |none,f=>exact rpv (nr ..)<|bF (by omega) f
  |some [],f=>exact rpv (ij ..)<|bF (by omega) f
  |some (x::t),f=>exact rpv (l7 ..)<|bF (by omega) f
 |succ n ih=>
  intro i s v F E w ok;have p:=Ja s ok m.L;have A:Gr s (zW s m.L).2:=Gr.put s _;have y:=A.2.1 ok;rcases dJ s m.L with q|q<;>generalize zW s m.L=z at*
  .let ⟨u,g,f⟩:=ih (i+1) z.2 (some<|slL v++ [z.1.1]) (by omega) (by omega) (by simp [slL] at*;omega) y
   have j:∀r H,RPt Tryz.prog 35 8 r H 1 ⟨[(0,aM),(4,(.c<|.a<|.ep 12 2 0 0)),(8,(.c<|.a<|.ep 13 6 0 0)),(58,ci c.vs),(59,ci<|i+1)],stFB { m with s:=z.2 } c  b d a<|some<|slL v++ [z.1.1],slN 14<|some<|slL v++ [z.1.1]⟩->RPt Tryz.prog 35 8 r H 1 ⟨[(0,aM),(4,(.c<|.a<|.ep 12 2 0 0)),(8,(.c<|.a<|.ep 13 6 0 0)),(58,ci c.vs),(59,ci i)],stFB { m with s:=s } c  b d a v,slN 14 v⟩:=λr H f=>by
    rw [<-w64 (x:=i+1) (by omega)<|by omega] at f
    match v,w,f with
    |none,_,f=>exact rpv (nr ..)<|za (λ_=>⟨(z.1.1,z.1.2,z.2),p,za (λh=>by rw [q] at h;cases h) λ_=>⟨r9 _,by simp [zi],f⟩⟩) λh=>absurd (rg h)<|by omega
    |some [],_,f=>exact rpv (ij ..)<|za (λ_=>⟨(z.1.1,z.1.2,z.2),p,za (λh=>by rw [q] at h;cases h) λ_=>⟨r9 _,by simp [zi],f⟩⟩) λh=>absurd (rg h)<|by omega
    |some (x::t),w,f=>
     simp [slL,rP,r6] at w;refine rpv (l7 ..)<|za (λ_=>⟨(z.1.1,z.1.2,z.2),p,za (λh=>by rw [q] at h;cases h) λ_=>⟨r9 _,⟨by simp [IR],by simp [zi,r6];omega⟩, ?_⟩⟩) λh=>absurd (rg h)<|by omega
     rw [ZL];have e:(x::t).length+1=(slL (some<|x::t)++ [z.1.1]).length:=by simp [slL]
     rw [e];exact f
   refine ⟨u,A.trans g,f.imp (j _ _) λ⟨o,C,h⟩=>⟨o, ?_,j _ _ h⟩⟩;rw [C];simp [slL];omega
  .refine ⟨z.2,A, .inl ?_⟩
   match v with
   |none=>exact rpv (nr ..)<|za (λ_=>⟨(z.1.1,z.1.2,z.2),p,za (λ_=>by rw [q];exact rrl) λh=>by rw [q] at h;cases h⟩) λh=>absurd (rg h)<|by omega
   |some []=>exact rpv (ij ..)<|za (λ_=>⟨(z.1.1,z.1.2,z.2),p,za (λ_=>by rw [q];exact rrl) λh=>by rw [q] at h;cases h⟩) λh=>absurd (rg h)<|by omega
   |some (x::t)=>exact rpv (l7 ..)<|za (λ_=>⟨(z.1.1,z.1.2,z.2),p,za (λ_=>by rw [q];exact rrl) λh=>by rw [q] at h;cases h⟩) λh=>absurd (rg h)<|by omega
def slF_len (v):(FV.ses<|slF v).length=(slL v).length/\FV.L 1 (slF v)=true:=by
 match v with
 |none=>exact ⟨rfl,rfl⟩
 |some []=>exact ⟨rfl,rfl⟩
 |some (x::s)=>exact ⟨by simp [slF,FV.ses,slL,IR],rfl⟩
def WB (o):∀x∈slB o,isLive x:=by
 match o with
 |none=>simp [slB]
 |some []=>simp [slB]
 |some (x::s)=>simp [slB,isLive]
abbrev aCn (c:Cd)(v:SlO):TV:= .agg [qf<|.pt<|FC c,qf<|slF v]
abbrev aPl (k:Fr)(a:Int):TV:= .agg [qf<|frF k,qi a]
def c_frameA (m c v k a)(ok:OkH m.s)(I:0<=c.fr/\c.fr<=((slL v).length:Int))(V:(slL v).length<=1000000)(Z:c.vs<=1000000)(O:c.sl<=1000000)(G:0<=frD k/\frD k<=1000000):
  ∃j,Gr m.s j/\((∃e,(e=200\/e=202)/\AC Tryz.prog 35 [aM,aCn c v,aPl k a] (mOb m []) (errT e) (mSb { m with s:=j } []))\/
   ∃o,(slL o).length=max (c.fr.toNat+c.vs.toNat) c.sl.toNat/\frD k+1<=m.S/\AC Tryz.prog 35 [aM,aCn c v,aPl k a] (mOb m []) (okT 11) (mSb { m with s:=j }<|frOA c (slF v) (frF k) 12 m.n (frD k+1) a o)):=by
 have D:FV.I (List.getD (List.drop 2<|FV.prow<|.pt<|FC c) 0 FV.N)=c.fr:=by rw [FV.prow,yZ];rfl
 have W:FV.I (List.getD (List.drop 3<|FV.prow<|.pt<|FC c) 0 FV.N)=c.vs:=by rw [FV.prow,yZ];rfl
 have F:shpB [.int .i64 0] (List.drop 2<|FV.prow<|.pt<|FC c)=true:=by rw [FV.prow,yZ];rfl
 have p:shpB [.int .i64 0] (List.drop 3<|FV.prow<|.pt<|FC c)=true:=by rw [FV.prow,yZ];rfl
 let ⟨E,z⟩:=slF_len v
 let ⟨C,T,b⟩:=dI v (Int.toNat<|FV.I<|List.getD (List.drop 2<|FV.prow<|.pt<|FC c) 0 FV.N) (by rw [D];omega) V
 have w:(slL C).length=c.fr.toNat:=by rw [T,D,ry];omega
 have A:0<=FV.I (List.getD (List.drop 2<|FV.prow<|.pt<|FC c) 0 FV.N):=by rw [D];exact I.1
 have y:FV.I (List.getD (List.drop 2<|FV.prow<|.pt<|FC c) 0 FV.N)<=((FV.ses<|slF v).length):=by rw [D,E];exact I.2
 by_cases u:m.S<frD k+1
 .refine ⟨m.s, .refl _, .inl ⟨202, .inr rfl, ?_⟩⟩;refine acv (v35_i1 ..) ?_;cases k with
  |nil=>exact bP<|za (λ_=>rrl) λh=>absurd (rg h)<|by simp [frD] at u;omega
  |mk X j L d Y M=>
   simp [frD] at u G;refine bN <| zc rfl (zc rfl (zc rfl (zc rfl ?_)))
   exact za (λ_=>rrl) λh=>absurd (rg h) (by
    show¬¬wrap .i64 (d+1)>m.S;rw [w64 (by omega)<|by omega];omega)
 .let ⟨j,g,f⟩:=l_fr1A m c (slF v) (frF k) m.n (frD k+1) a O Z _ 0 m.s C rfl (rk _) (by omega) ok
  have i:∀r H,RPt Tryz.prog 35 7 r H 1 ⟨[(0,aM),(4,(.c _)),(8,(.c _)),(58,ci c.vs),(59,ci 0)],stFA { m with s:=m.s } c (slF v) (frF k) m.n (frD k+1) a C,slN 13 C⟩->7<=H.length->(∀x∈H.drop 7,isLive x)->AC Tryz.prog 35 [aM,aCn c v,aPl k a] (mOb m []) r H:=λr H f K N=>by
   rw [<-W] at f;refine AC.vc hP sh lv35 K (by simp [isLive,moO]) N<|Eq.mpr (v35_i1 ..) ?_
   cases k with
   |nil=>
    refine bP<|bF (by simp [frD] at u;omega) <| zc rfl (zc rfl (zc F ⟨z,⟨rk _,A,y⟩, ?_⟩))
    rcases b with ⟨e,b⟩|⟨e,b⟩|⟨x,s,e,b⟩<;>subst e
    .exact .inl ⟨(),b,zc rfl (zc rfl (zc p f))⟩
    .exact .inr<|.inl ⟨(),b,zc rfl (zc rfl (zc p f))⟩
    .exact .inr<|.inr ⟨IR _,b,zc rfl (zc rfl (zc p<|by rw [show (IR _).length=(x::s).length by simp [IR]];exact f))⟩
   |mk X j L d Y M=>
    simp only [frD] at u G f;rw [<-w64 (x:=d+1) (by omega)<|by omega] at f u;refine bN <| zc rfl (zc rfl (zc rfl (zc rfl (bF u <| zc rfl (zc rfl (zc F ⟨z,⟨rk _,A,y⟩, ?_⟩))))))
    rcases b with ⟨e,b⟩|⟨e,b⟩|⟨x,s,e,b⟩<;>subst e
    .exact .inl ⟨(),b,zc rfl (zc rfl (zc p f))⟩
    .exact .inr<|.inl ⟨(),b,zc rfl (zc rfl (zc p f))⟩
    .exact .inr<|.inr ⟨IR _,b,zc rfl (zc rfl (zc p<|by rw [show (IR _).length=(x::s).length by simp [IR]];exact f))⟩
  refine ⟨j,g,f.imp (λh=>⟨200, .inl rfl,i _ _ h (by simp)<|by simp [isLive]⟩) λ⟨o,J,U⟩=>⟨o, ?_,by omega,i _ _ U (by simp)<|by simpa [isLive] using WB o⟩⟩;rw [J,w];congr 1;omega
def c_frameB (m c a)(ok:OkH m.s)(w:c.fr=0)(z:c.vs<=1000000)(u:c.sl<=1000000):
  ∃d,Gr m.s d/\((∃e,(e=200\/e=202)/\AC Tryz.prog 35 [aM, .agg [.a<|.ep 7 6 0 0,qf .N],aPl .nil a] (mOb m [cdO c]) (errT e) (mSc { m with s:=d } (cdO c) []))\/
   ∃o,(slL o).length=max c.vs.toNat c.sl.toNat/\1<=m.S/\AC Tryz.prog 35 [aM, .agg [.a<|.ep 7 6 0 0,qf .N],aPl .nil a] (mOb m [cdO c]) (okT 12) (mSc { m with s:=d } (cdO c)<|frOB c 13 m.n 1 a o)):=by
 let ⟨C,D,i⟩:=dI none 0 (r9 _) (by simp [slL])
 by_cases A:m.S<1
 .refine ⟨m.s, .refl _, .inl ⟨202, .inr rfl, ?_⟩⟩;refine acv (v35 ..) ?_;exact za (λ_=>rrl) λh=>absurd (rg h) (by omega)
 .let ⟨d,g,f⟩:=l_fr1B m c m.n 1 a u z _ 0 m.s none rfl (rk _) (by simp [slL];omega) ok
  have i:=acv (v68 ..) rrl
  have b:∀r H,RPt Tryz.prog 35 8 r H 1 ⟨[(0,aM),(4,(.c _)),(8,(.c _)),(58,ci c.vs),(59,ci 0)],stFB { m with s:=m.s } c m.n 1 a none,slN 14 none⟩->8<=H.length->(∀x∈H.drop 8,isLive x)->AC Tryz.prog 35 [aM, .agg [.a _,qf .N],aPl .nil a] (mOb m [cdO c]) r H:=λr H f p v=>
   AC.vc hP sh lv35 p (by simp [isLive,moO]) v (Eq.mpr (v35 ..)<|bF A ⟨rfl,⟨rk _,by omega,by rw [w];exact rk _⟩, .inl ⟨(),i,f⟩⟩)
  refine ⟨d,g,f.imp (λh=>⟨200, .inl rfl,b _ _ h (by simp)<|by simp [isLive]⟩) λ⟨o,j,y⟩=>⟨o, ?_,by omega,b _ _ y (by simp)<|by simpa [isLive] using WB o⟩⟩;rw [j];simp [slL]
abbrev anyK:Key:=⟨true,0,[],0,0⟩
def keyH (h:Tm)(n:Int):=if h.k=5 then anyK else if h.k=4 then anyK else if h.k=6 then anyK else ⟨false,h.k,h.s,h.n,n⟩
def Yb (t:Tm):=if t.k=6 then (match t.l with|[]=>anyK|h::l=>keyH h l.length) else keyH t 0
def yT (c:Cd):=match c.ins with
 |[]=>anyK
 |x::_=>if x.a≠0 then anyK else if x.k=0 then Yb x.t else if x.k=1 then Yb x.t else anyK
def vM (a b:Key):=if a.any=true then true else if b.any=true then true else (a.any==b.any&&(a.k==b.k&&(a.nm==b.nm&&(a.n==b.n&&(a.ar==b.ar&&true)))))
def tsz_l (t:Tm)(b:t.sz<=B):t.l.length<=B:=by have:=Tm.szs_length t.l;have:=t.sz_eq;omega
def c_kof (t)(v:t.sz<=B):AC Tryz.prog 113 [aT t] [] (aK<|Yb t) []:=by
 have j:=tsz_l t v
 let ⟨k,s,n,l⟩:=t
 simp [Tm.l,B] at j;refine acv (v113 k s n (FTs l) _ _) ?_
 have b:∀ {u} {m:Int},∀K:Key,K=keyH u m->br (u.k==5) (TV.Le (aK anyK) (aK K)/\([])=[]) (br (u.k==4) (TV.Le (aK anyK) (aK K)/\([])=[])<|br (u.k==6) (TV.Le (aK anyK) (aK K)/\([])=[])<|TV.Le (aK ⟨false,u.k,u.s,u.n,m⟩) (aK K)/\([])=[]):=λ{u m} K r=>by
  subst r;unfold keyH;refine za (λh=> ?_) λh=>za (λf=> ?_) λf=>za (λg=> ?_) λg=> ?_
  .rw [ri<|by simpa using h];exact rrl
  .rw [r8<|by simpa using h,ri<|by simpa using f];exact rrl
  .rw [r8<|by simpa using h,r8<|by simpa using f,ri<|by simpa using g];exact rrl
  .rw [r8<|by simpa using h,r8<|by simpa using f,r8<|by simpa using g];exact rrl
 refine za (λe=> ?_) λe=> ?_
 .have e:k=6:=by simpa using e
  subst e;cases l with
  |nil=>
   rw [show Yb (.mk 6 s n [])=anyK by unfold Yb;rw [ri (show Tm.k (.mk 6 s n [])=6 from rfl)];rfl]
   first|exact ⟨rfl,bF (by simp [FTs]) (b (u:= .mk 6 s n []) (m:=0) anyK rfl)⟩|exact ⟨rfl,za (λ_=>rrl) (λh=>by simp [FTs] at h)⟩
  |cons x l=>
   rw [show Yb (.mk 6 s n<|x::l)=keyH x l.length by unfold Yb;rw [ri (show Tm.k (.mk 6 s n<|x::l)=6 from rfl)];rfl];have e0:FV.I (List.getD (List.getD (FTs<|x::l) 0 []) 0 FV.N)=x.k:=by cases x;rfl
   have y:FV.S (List.getD (List.getD (FTs<|x::l) 0 []) 1 FV.N)=x.s:=by cases x;rfl
   have p:FV.I (List.getD (List.getD (FTs<|x::l) 0 []) 2 FV.N)=x.n:=by cases x;rfl
   have o:wrap .i64 ((((FTs<|x::l).length))-1)=l.length:=by
    rw [zb];simp only [r6] at j ⊢;rw [w64 (by omega)<|by omega];omega
   have d:FV.L 4 (.sl false 4<|FTs<|x::l)=true/\((0:Int)<=0/\((0:Int)<(((FTs<|x::l).length:Nat):Int)/\(rE (List.getD (FTs<|x::l) 0 []):List FV)=List.getD (FTs<|x::l) 0 [])):=⟨rfl,by omega,by rw [zb];simp only [r6];omega,ju x⟩;have i:=b (u:=x) (m:=l.length) (keyH x l.length) rfl;rw [<-o,<-e0,<-y,<-p] at i;rw [<-o]
   first
    |exact ⟨rfl,za (λ_=>⟨d,rfl,i⟩) (λh=>absurd (rg h) (by rw [zb];simp only [r6];omega))⟩
    |exact ⟨rfl,za (λh=>by rw [zb] at h;simp at h;omega) (λ_=>⟨d,rfl,i⟩)⟩
 .have w:Yb (.mk k s n l)=keyH (.mk k s n l) 0:=by unfold Yb;rw [r8 (show¬Tm.k (.mk k s n l)=6 from (by simpa using e:¬k=6))]
  exact b (u:= .mk k s n l) (m:=0) _ w
def insz (c:Cd)(e:c.sz<=B){x l}(h:c.ins=x::l):x.t.sz<=B:=by
 have b:=In1.szs_mem (show x∈c.ins by rw [h];simp);have d:=Tm.sz_bk x.t;cases c;cases x;simp [Cd.sz,Cd.ins,In1.sz1,In1.t] at*;omega
def fi_elem (x l):FV.L 8 (.sl false 8<|FIs<|x::l)=true/\(0:Int)<=0/\0<(((FIs<|x::l).length):Int)/\(fIr<|List.getD (FIs<|x::l) 0 [])=List.getD (FIs<|x::l) 0 []:=by
 refine ⟨rfl,by omega,by rw [zo];simp only [r6];omega, ?_⟩;rw [show List.getD _ 0 []=FI x by rw [FIs];rfl];exact nD x
def f8 (c)(m:c.sz<=B):AC Tryz.prog 67 [aC c] [] (aK<|yT c) []:=by
 cases g:c.ins with
 |nil=>
  have j:yT c=anyK:=by rw [yT,g]
  rw [j];refine acv (v67 ..) ?_;rw [g];exact ⟨rfl,za (λ_=>rrl) λh=>by simp [FIs] at h⟩
 |cons x l=>
  have i:=c_kof x.t<|insz c m g
  rw [<-(iU x)] at i;have j:yT c=if x.a≠0 then anyK else if x.k=0 then Yb x.t else if x.k=1 then Yb x.t else anyK:=by rw [yT,g]
  have f:=fi_elem x l;have e:List.getD (FIs<|x::l) 0 []=FI x:=by rw [FIs];rfl
  rw [e] at f;rw [j];refine acv (v67 ..) ?_;rw [g,e];refine ⟨rfl,za (λh=>by rw [zo] at h;simp at h;omega) λ_=>⟨f,za (λh=> ?_) λh=>⟨f,za (λb=>⟨f,_,_,_,_,_,i, ?_⟩) λb=>za (λd=>⟨f,_,_,_,_,_,i, ?_⟩) λd=> ?_⟩⟩⟩
  .rw [ri<|by rw [FI1 x] at h;simpa using h];exact rrl
  .rw [r8<|by rw [FI1 x] at h;simpa using h,ri<|by rw [FI0 x] at b;simpa using b];exact rrl
  .rw [r8<|by rw [FI1 x] at h;simpa using h,r8<|by rw [FI0 x] at b;simpa using b,ri<|by rw [FI0 x] at d;simpa using d];exact rrl
  .rw [r8<|by rw [FI1 x] at h;simpa using h,r8<|by rw [FI0 x] at b;simpa using b,r8<|by rw [FI0 x] at d;simpa using d];exact rrl
def We (a b):AC Tryz.prog 194 [aK a,aK b] [] (cb<|vM a b) []:=by
 refine acv (v194 ..) ?_;unfold vM;refine za (λh=> ?_) λh=>za (λd=> ?_) λd=> ?_
 .rw [ri h];exact zg rfl
 .rw [r8<|by rw [h];simp,ri d];exact zg rfl
 .rw [r8<|by rw [h];simp,r8<|by rw [d];simp];exact zg rfl
abbrev Ent:=List UInt8×Int×List (Int×Key)
def kRow (x:Int×Key):List FV:=[.int .i64 x.1, .bool x.2.any, .int .i64 x.2.k, .str x.2.nm, .int .i64 x.2.n, .int .i64 x.2.ar]
def ER (l:List<|Int×Key):=l.map kRow
def insT (p:List UInt8×Int)(x:Int×Key):List Ent->List Ent
 |[]=> [(p.1,p.2,[x])]
 |e::E=>if (((p.1:List UInt8)==e.1)&&(((p.2:Int)==e.2.1)&&true))=true then (p.1,p.2,e.2.2++ [x])::E else e::insT p x E
def YI:List Ent->Nat->List MapE
 |[],_=> []
 |e::E,o=>((true,[.str e.1, .int .i64 e.2.1]),(false,[.a<|.osl o 6 0 e.2.2.length]))::YI E (o+1)
def rowsO (E:List Ent):List AObj:=E.map λe=> .arz 6<|ER e.2.2
def tabZ (E:List Ent):List MapZ:=E.map λe=>((true,[.str e.1, .int .i64 e.2.1]),(false,[.sl false 6<|ER e.2.2]))
abbrev tab0:AObj:= .arr 1 [[.a<|.mp 1]]
def mapO (E:List Ent):AObj:=match E with|[]=> .mapz []|e::E=> .mapo<|YI (e::E) 2
def outN (E:List Ent):=tab0::mapO E::rowsO E
def ER_take (l x):List.take l.length (ER l)++ [kRow x]=ER (l++ [x]):=by
 rw [rp<|by simp [ER]];simp [ER]
def ER_len (l):l.length<=(ER l).length:=by simp [ER]
def len1 (l)(x:Int×Key):(l++ [x]).length=l.length+1:=by simp
abbrev EntR:=(List UInt8×Int)×Nat×List (List FV)
def toR (e:Ent):EntR:=((e.1,e.2.1),e.2.2.length,ER e.2.2)
def nW:List EntR->Nat->List MapE
 |[],_=> []
 |e::E,o=>((true,[.str e.1.1, .int .i64 e.1.2]),(false,[.a<|.osl o 6 0 e.2.1]))::nW E (o+1)
def numR:List EntR->Nat->AHeap
 |[],_=> []
 |e::E,o=>(o, .arz 6 e.2.2)::numR E (o+1)
def mapR (E:List EntR):AObj:=match E with|[]=> .mapz []|e::E=> .mapo<|nW (e::E) 2
def stR (L:List<|List FV)(n i:Int)(E:List EntR):St:=⟨[(3, .c<|.a<|.ep 0 1 0 0),(10, .c<|qf<|.sl false 6 L),(11,ci n),(12,ci i)],(0,tab0)::(1,mapR E)::numR E 2,2+E.length⟩
def chN (x:List FV)(nm:List UInt8)(ar:Int)(K:List EntR->Prop):List EntR->List EntR->Prop
 |pre,[]=>1<=1/\zi 1 56/\K (pre++ [((nm,ar),1,[x])])
 |pre,e::E=>br ((nm==e.1.1)&&((ar==e.1.2)&&true)) (1<=1/\(e.2.1<=e.2.2.length/\zi (e.2.1+1) 56)/\K (pre++((nm,ar),e.2.1+1,List.take e.2.1 e.2.2++ [x])::E))<|chN x nm ar K (pre++ [e]) E
def askN (L:List<|List FV)(n i:Int)(c:List FV)(r:TV)(Hs:List AObj)(E:List EntR):=
 br (decide (i<n)) ((FV.L 6 (.sl false 6 L)=true/\0<=i/\i<(L.length)/\fCr c=c)/\∃(b:Bool) (k:Int) (s:List UInt8) (m a:Int),AC Tryz.prog 67 [aCr c] [] (.agg [qf<|.bool b,qi k,qf<|.str s,qi m,qi a]) []/\
  chN [.int .i64 i, .bool b, .int .i64 k, .str s, .int .i64 m, .int .i64 a] (FV.S<|List.getD c 0 FV.N) (FV.I<|List.getD c 1 FV.N) (λE=>RPt Tryz.prog 34 0 r Hs 1<|stR L n (wrap .i64<|i+1) E) [] E) (TV.Le (.c<|.a<|.ep 0 1 0 0) r/\(tab0::mapR E::E.map λe=> .arz 6 e.2.2)=Hs)
def vN (L n i r Hs):∀E,E.length<=8->vcP Tryz.prog sh lv34 34 0 (λr0 Hs0=>TV.Le r0 r/\Hs0=Hs) (RPt Tryz.prog 34 0 r Hs) 1 (stR L n i E)=askN L n i (List.getD L (Int.toNat i) []) r Hs E
 |[],_=>by kernel_rfl
 |[_],_=>by kernel_rfl
 |[_,_],_=>by kernel_rfl
 |[_,_,_],_=>by kernel_rfl
 |[_,_,_,_],_=>by kernel_rfl
 |[_,_,_,_,_],_=>by kernel_rfl
 |[_,_,_,_,_,_],_=>by kernel_rfl
 |[_,_,_,_,_,_,_],_=>by kernel_rfl
 |[_,_,_,_,_,_,_,_],_=>by kernel_rfl
 |_::_::_::_::_::_::_::_::_::_,h=>absurd h (by simp only [r6];omega)
def chN_of {p x K}:∀(E b),(∀e∈E,e.2.2.length<=12)->K ((b++insT p x E).map toR)->chN (kRow x) p.1 p.2 K (b.map toR) (E.map toR)
 |[],b,_,h=>by
  rw [insT,th] at h;exact ⟨r9 _,by unfold zi;omega,h⟩
 |e::E,b,d,h=>by
  rw [insT] at h;refine za (λq=> ?_) λq=> ?_
  .have q:((p.1==e.1)&&((p.2==e.2.1)&&true))=true:=q;rw [ri q,th,rW] at h;have i:=d e rn;refine ⟨r9 _,⟨ER_len _,by unfold zi;simp [toR];omega⟩, ?_⟩;have f:toR (p.1,p.2,e.2.2++ [x])=((p.1,p.2),(toR e).2.1+1,List.take (toR e).2.1 (toR e).2.2++ [kRow x]):=by simp only [toR];rw [ER_take,len1]
   rw [f] at h;exact h
  .have q:((p.1==e.1)&&((p.2==e.2.1)&&true))=false:=q;rw [r8<|by rw [q];simp] at h;have:=chN_of E (b++ [e]) (λu g=>d u<|rh _ g) (by simpa using h);rw [th] at this;exact this
def dV:∀(E) (o),nW (E.map toR) o=YI E o
 |[],_=>rfl
 |e::E,o=>by rw [rW,nW,dV E,YI];rfl
def mapR_eq (E):mapR (E.map toR)=mapO E:=by
 cases E with
 |nil=>rfl
 |cons e E=>show AObj.mapo (nW ((e::E).map toR) 2)=_;rw [dV];rfl
def stN (l:List Cd)(E:List Ent)(i:Int):=stR (FCs l) (((FCs l).length)) i<|E.map toR
def exitN (l E)(h:E.length<=8):RPt Tryz.prog 34 0 (.c<|.a<|.ep 0 1 0 0) (outN E) 1 (stN l E<|((FCs l).length)):=by
 refine rpv (vN _ _ _ _ _ _<|by rw [sc];exact h)<|bF (Int.lt_irrefl _) ⟨.refl _, ?_⟩
 rw [mapR_eq,t8];rfl
def stepN (l a b c)(g:l=a++c::b)(u:l.length<=8)(j:c.sz<=B)(r Hs E)(y:E.length<=7)(m:∀e∈E,e.2.2.length<=12)(o:RPt Tryz.prog 34 0 r Hs 1<|stN l (insT (c.nm,c.ar) (a.length,yT c) E)<|a.length+1):RPt Tryz.prog 34 0 r Hs 1 (stN l E a.length):=by
 have v:=f8 c j;have d:a.length<(((FCs l).length):Int):=by rw [zq,g];simp;omega
 have f:=u;rw [g,re,r6] at f;have i:=kR a c b;rw [<-g] at i;have e0:FV.S (List.getD (FC c) 0 FV.N)=c.nm:=by cases c;rw [FC];rfl
 have w:FV.I (List.getD (FC c) 1 FV.N)=c.ar:=by cases c;rw [FC];rfl
 refine rpv (vN _ _ _ _ _ _<|by rw [sc];omega) ?_;rw [i];unfold askN;rw [w64 (x:=a.length+1) (by omega)<|by omega,e0,w];refine bT d ⟨⟨rfl,by omega,d,qV c⟩,_,_,_,_,_,by have h:=v;rw [<-(jy c)] at h;exact h, ?_⟩;exact chN_of (p:=(c.nm,c.ar)) (x:=(a.length,yT c)) E [] m o
end Go.AM

namespace Go.AM
open Go.IntKind (wrap)
def AC.freeze {P f args} {es:List MapE} {rows} {U:List MapZ} (h:AC P f args [] (.c<|.a<|.ep 0 1 0 0)<|.arr 1 [[.a<|.mp 1]]:: .mapo es::rows) (L:U.length=es.length)
  (hz:∀(i) (e:MapE) z,es[i]? =some e->U[i]? =some z->e.1=z.1/\∃(n C:Nat) (K:List<|List FV),e.2=(false,[.a<|.osl (2+i) n 0 C])/\rows[i]? =some (.arz n K)/\C<=K.length/\z.2=(false,[.sl false n<|K.take C])):
  AC P f args [] (.c<|.a<|.ep 0 1 0 0) [.arr 1 [[.a<|.mp 1]], .mapz U]:=by
 refine ⟨h.1,sQ _,λw vals β Y h1 h2 hgl h3 h4=> ?_⟩;refine (h.2.2 w vals β Y h1 h2 hgl h3 h4).mono λe w' ⟨v,r,k1,T,F,W,k5,k6,k7⟩=> ?_
 have D:∀o b,(if o<2 then r o else none)=some b->o<2/\r o=some b:=by
  intro o b d;split at d
  .rename_i q;exact ⟨q,d⟩
  .cases d
 have l0:=trivial;have l1:isLive ((AObj.arr 1 [[.a<|.mp 1]]:: .mapo es::rows).getD 1 .gone):=trivial
 have hX:∀b,(Y b\/Own (λo=> [AObj.arr 1 [[.a<|.mp 1]], .mapz U].getD o .gone) (λo=>if o<2 then r o else none) b)->Y b\/Own (λo=>(AObj.arr 1 [[.a<|.mp 1]]:: .mapo es::rows).getD o .gone) r b:=by
  intro b d;rcases d with d|⟨o,_,A⟩
  .exact .inl d
  .let ⟨q,A⟩:=D o b A
   match o,q,A with
   |0,_,A=>exact .inr ⟨0,l0,A⟩
   |1,_,A=>exact .inr ⟨1,l1,A⟩
 have M:∀ {x} {u:Value},FRep w' (λb=>Y b\/Own (λo=>(AObj.arr 1 [[.a<|.mp 1]]:: .mapo es::rows).getD o .gone) r b) x u->FRep w' (λb=>Y b\/Own (λo=> [AObj.arr 1 [[.a<|.mp 1]], .mapz U].getD o .gone) (λo=>if o<2 then r o else none) b) x u:=
  λp=>p.mono (r9 _) λb d _=>⟨rfl,λy=>d<|hX b y⟩
 refine ⟨v,λo=>if o<2 then r o else none,k1,⟨T.size,λb d hno=>T.blk b d hno,T.shp,T.os,T.tape,T.output⟩,⟨λo b hl d=> ?_,λo hl=> ?_,λo o' b hl hl' d y=> ?_,λo b d=>F.lt o b (D o b d).2⟩, ?_,λo b d=>(D o b d).1,λo A=>absurd A<|tC _,λo b _ d=> ?_⟩
 .let ⟨q,d⟩:=D o b d
  match o,q,d with
  |0,_,d=>
   have p:=F.rep 0 b l0 d
   let ⟨us,t,g1,g2,g3,g4⟩:=p
   refine ⟨us,t,g1,g2,g3,λi j e c g H=> ?_⟩
   let ⟨u,E,p⟩:=g4 i j e c g H
   refine ⟨u,E, ?_⟩
   have H:c= .a (.mp 1):=by
    cases i with
    |zero=>simp at g;subst g;cases j with
     |zero=>simp at H;exact H.symm
     |succ j=>simp at H
    |succ i=>simp at g
   subst H;cases p with
   |a _ _ p=>cases p with
    |mp _ b1 hb1=>exact .a _ _<|.mp _ _ hb1
  |1,_,d=>
   have p:=F.rep 1 b l1 d
   let ⟨ms,ck,g1,g2,g3,g4,g5⟩:=p
   refine ⟨ms,ck,g1,by rw [g2,sc,L],λi e m g hm=> ?_,g4,g5⟩;rw [rq] at g;obtain ⟨z,X,rfl⟩:=r7.1 g;have hi:i<es.length:=by rw [<-L];exact (rr.1 X).1
   have hei:=rj hi
   let ⟨e1,n,C,K,e2,e3,e4,e5⟩:=hz i _ z hei X
   let ⟨J,N⟩:=g3 i _ m hei hm
   refine ⟨?_, ?_⟩
   .show PRep _ z.1 m.key;rw [<-e1];exact J.imp λc u _ p=>M p
   .show PRep _ (z.2.1,fzs z.2.2) m.val;rw [e5];rw [e2] at N
    let ⟨us,hus,V,_⟩:=N
    have hul:=V.1
    match us,hul with
    |[u],_=>
    have E:=V.2 0 _ u rfl rfl;refine ⟨[u],hus,⟨rfl,λj c v H hv=> ?_⟩,λ_=>rfl⟩;cases j with
    |succ j=>simp [fzs] at H
    |zero=>
     simp [fzs] at H hv;subst H;subst hv;refine .a _ _<|.fz _ _ ?_
     cases E with
     |a _ _ E=>
      cases E with
      |oslN=>simpa using FRep.slnil n
      |osl _ _ _ _ S q2 cap sz t G hs hlc hcs hq=>
       by_cases Z:cap=0
       .have:C=0:=by omega
        subst Z;subst this;simpa using FRep.sl0 false n _
       .have hq:q2=0:=by
         rcases hq with hq|hq
         .simpa using hq
         .exact absurd hq Z
        subst hq
        have O:(AObj.arr 1 [[.a<|.mp 1]]:: .mapo es::rows).getD (2+i) .gone= .arz n K:=by
         rw [show 2+i=i+1+1 by omega,List.getD_cons_succ,List.getD_cons_succ,List.getD,e3];rfl
        have I:isLive ((AObj.arr 1 [[.a<|.mp 1]]:: .mapo es::rows).getD (2+i) .gone):=by rw [O];trivial
        have p:=F.rep (2+i) S I G;simp only [O] at p
        let ⟨us2,t2,r1,r2,r3,r4⟩:=p
        have hny:¬(Y S\/Own (λo=> [AObj.arr 1 [[.a<|.mp 1]], .mapz U].getD o .gone) (λo=>if o<2 then r o else none) S):=by
         intro y;rcases y with y|⟨o,_,A⟩
         .exact (F.here I G).2 y
         .let ⟨q,A⟩:=D o S A
          match o,q,A with
          |0,_,A=>have:=F.inj 0 (2+i) S l0 I A G;omega
          |1,_,A=>have:=F.inj 1 (2+i) S l1 I A G;omega
        have key:∀(a j) e f,(K.take C)[a]? =some e->e[j]? =some f->∃u,us2[a*n+j]? =some u/\FRep w' (λb=>Y b\/Own (λo=>(AObj.arr 1 [[.a<|.mp 1]]:: .mapo es::rows).getD o .gone) r b) f u:=by
         intro a j e f g hf
         have g:K[a]? =some e:=by
          rw [rU] at g;split at g
          .exact g
          .cases g
         let ⟨u,E,p⟩:=r4 a j (fzs e) (cell f) (by rw [rq,g];rfl) (by rw [fzs,rq,hf];rfl)
         refine ⟨u,E, ?_⟩;cases p with
         |a _ _ p=>cases p with
          |fz _ _ p=>exact p
        refine FRep.sl false n (K.take C) S 0 cap C (λa j=>us2.getD (a*n+j)<|.bool false) (by rw [ry];omega) (by rw [ry];omega) hny (F.lt _ _ G) (λa e g=> ?_) (λa j e f g hf=> ?_) λa j e f g hf=> ?_
        .have g:K[a]? =some e:=by
          rw [rU] at g;split at g
          .exact g
          .cases g
         have:=r3 (fzs e)<|ss.2 ⟨e,rJ g,rfl⟩
         simpa [fzs] using this
        .let ⟨u,E,_⟩:=key a j e f g hf
         simp [World.cell?,r1,rD];simp [List.getD,E]
        .let ⟨u,E,p⟩:=key a j e f g hf
         simp [List.getD,E,rP];exact M p
 .match o,hl with
  |0,_=>
   rcases F.has 0 l0 with ⟨b,J,N,V⟩|⟨J,N⟩
   .exact .inl ⟨b,by simpa using J,N,V⟩
   .exfalso;let ⟨n,hn⟩:=J;simp [flat] at hn
  |1,_=>
   rcases F.has 1 l1 with ⟨b,J,N,V⟩|⟨J,N⟩
   .exact .inl ⟨b,by simpa using J,N,V⟩
   .exfalso;let ⟨n,hn⟩:=J;simp [flat] at hn
  |o+2,hl=>simp [isLive] at hl
 .let ⟨q,d⟩:=D o b d
  let ⟨q',y⟩:=D o' b y
  have live:∀o,o<2->isLive ((AObj.arr 1 [[.a<|.mp 1]]:: .mapo es::rows).getD o .gone):=λo q=>by
   match o,q with
   |0,_=>exact l0
   |1,_=>exact l1
  exact F.inj o o' b (live o q) (live o' q') d y
 .have W:=W;cases W with
  |a _ _ W=>cases W with
   |ep _ _ _ _ b d=>exact .a _ _<|.ep _ _ _ _ _<|by simpa using d
 .let ⟨_,d⟩:=D o b d
  exact k7 o b (sQ _) d
structure Rs (K:Nat)(w:Wp)(e:Int)(v:Wp):Prop where
 h:OkH v.s
 f0:0<=v.f
 f1:v.f<=w.f
 mv:Mv true w.s v.s
 n:e=0->NmB K v.s
 m:NmB (K+1048577) v.s
def OkW.refl {K w}(h:OkW K w)(e):Rs K w e w:=⟨h.h,h.f0,rk _, .refl _,λ_=>h.n,by have:=h.n;unfold NmB at*;omega⟩
def Rs.ok {K w v e}(h:Rs K w e v)(ok:OkW K w)(b:e=0):OkW K v:=⟨h.h,h.f0,by have:=h.f1;have:=ok.f1;omega,h.n b,h.mv.ih ok.i⟩
def Rs.trans {K w v u e d}(h:Rs K w e v)(g:Rs K v d u):Rs K w d u:=⟨g.h,g.f0,by have:=h.f1;have:=g.f1;omega,h.mv.trans g.mv,g.n,g.m⟩
def Rs.same {K w v e d}(h:Rs K w e v)(b:d=0->e=0):Rs K w d v:=⟨h.h,h.f0,h.f1,h.mv,λq=>h.n<|b q,h.m⟩
def Mv.nm {s t:Hp}{K:Nat}(h:Mv false s t)(g:NmB K s):NmB K t:=by
 have b:=h.N;have d:=h.len.1;unfold NmB at*;rw [b];omega
def OkW.mv {K w v}(b:OkW K w)(h:Mv false w.s v.s)(f0:0<=v.f)(d:v.f<=w.f)(e):Rs K w e v:=
 ⟨h.ok b.h,f0,d,h.up,λ_=>h.nm b.n,by have:=h.nm b.n;unfold NmB at*;omega⟩
def xM {K w}(b:OkW K w)(a):Rs K w (lookW w a).1.2 (lookW w a).2/\Mv false w.s (lookW w a).2.s/\
  ((lookW w a).1.2=0->(lookW w a).2.f+(lookW w a).1.1.js.length+1<=w.f):=by
 have g:=KJ _ ⟨w.s,w.f,0⟩ a<|r9 _
 have u:=XX w.s a w.f b.f0;have o:=cI w.s a w.f b.h b.f0 (by have:=b.f1;omega);have r:=b.f0
 have key:(lookW w a).2.s=(ym w.s a w.f).2/\((lookW w a).1.2≠0/\(lookW w a).2.f=w.f\/(lookW w a).1.2=0/\0<=(lookW w a).2.f/\(lookW w a).2.f+(lookW w a).1.1.js.length+1<=w.f):=by
  unfold lookW;split
  .rename_i q;exact ⟨rfl, .inl ⟨q,rfl⟩⟩
  .rename_i q;refine ⟨rfl, .inr ⟨rfl, ?_⟩⟩;have q:(ym w.s a w.f).1.2.2=0:=by simpa using q
   revert q;unfold ym;split
   .rename_i h;exact λq=>absurd q h
   .rename_i h;intro _;have:=g.2 (by simpa using h);exact ⟨this.2,this.1⟩
 let ⟨i,j⟩:=key
 have d:Mv false w.s (lookW w a).2.s:=by rw [i];exact u
 rcases j with ⟨q,e⟩|⟨q,m,p⟩
 .exact ⟨b.mv d (by omega) (by omega) _,d,λh=>absurd h q⟩
 .exact ⟨b.mv d m (by omega) _,d,λ_=>p⟩
def oY (t):(if zj t=true then zw t else t).sz<=t.sz:=by
 split
 .rename_i h;exact (uE t<|wJ t h).2.2.1
 .exact r9 _
def bu {K w}(b:OkW K w)(a):Rs K w (xx w a).1.2 (xx w a).2/\Mv false w.s (xx w a).2.s/\(xx w a).1.1.sz<=10000000:=by
 let ⟨r,i⟩:=cZ w.s a w.f b.f0
 have e:=b.f0;have m:=b.f1;have d:OkR ⟨w.s,w.f,0⟩:=⟨b.h,by dsimp only;omega,by dsimp only;omega⟩;have g:=ZU _ (w.f.toNat+1) w.f (r9 _) (by omega) ⟨w.s,w.f,0⟩ a d<|rk _
 have sz:=oY (fulR (2*w.f.toNat+2) (w.f.toNat+1) ⟨w.s,w.f,0⟩ a).1
 have p:(yP w.s a w.f).1.2.2=0->(yP w.s a w.f).1.2.1<=w.f:=by
  unfold yP;split
  .rename_i h;exact λq=>absurd q h
  .rename_i h;intro _;exact g.2.1
 have u:(yP w.s a w.f).1.1.sz<=10000000:=by
  have o:=g.2.2;unfold yP;split
  .show t0.sz<=_;decide
  .show (if _ then _ else _:Tm).sz<=_
   dsimp only at o;omega
 have v:(xx w a).2.s=(yP w.s a w.f).2:=rfl;have j:=r;refine ⟨b.mv j ?_ ?_ _,j,u⟩
 .show 0<=(if _ then _ else _:Int)
  split
  .exact i
  .exact e
 .show (if _ then _ else _)<=_
  split
  .rename_i q;exact p q
  .exact rk _
def leaf_nil {k n s l}(h:zj (.mk k s n l)=true)(b:k=3\/k=1):l=[]:=by
 rw [zj] at h;rcases b with rfl|rfl
 .simp [zb] at h;exact h.1.2
 .simp [zb] at h;exact h.1.2
def LfZ (t:Tm):Prop:=(t.k=3\/t.k=1)/\t.l=[]/\zj t=true
def leafZ_ok (t)(h:(vi t).2=true):LfZ (vi t).1:=by
 unfold vi at h ⊢;split
 .rename_i d;rw [ri d] at h;split
  .rename_i q;have e:=uE t<|wJ t d
   have b:zj (zw t)=true:=by rw [jA,e.1,e.2.1<|W1 d];rfl
   refine ⟨q, ?_,b⟩;generalize zw t=z at*
   let ⟨k,s,n,l⟩:=z
   exact leaf_nil b q
  .rename_i q;rw [r8 q] at h;cases h
 .rename_i d;rw [r8 d] at h;cases h
def LfZ.sz {t}(h:LfZ t):t.sz=1:=by
 let ⟨k,s,n,l⟩:=t
 have e:l=[]:=h.2.1;rw [e];rfl
def yM {K}(lv):∀(l) (b) {w},OkW K w->(∀t∈b,LfZ t)->Rs K w (zh lv l b w).1.2 (zh lv l b w).2/\Mv false w.s (zh lv l b w).2.s/\
  (zh lv l b w).1.1.length<=b.length+l.length/\∀t∈(zh lv l b w).1.1,LfZ t
 |[],b,w,f,h=>⟨f.refl _, .refl _,by simp [zh],h⟩
 |a::l,b,w,f,h=>by
  let ⟨d,g,_⟩:=bu f a
  rw [zh];split
  .exact ⟨d,g,by simp,λt ht=>by cases ht⟩
  .rename_i q;have q:(xx w a).1.2=0:=by simpa using q
   split
   .exact ⟨d.same λ_=>q,g,by simp,λt ht=>by cases ht⟩
   .rename_i i
    have j:(vi (xx w a).1.1).2=true:=by
     cases e:(vi (xx w a).1.1).2 with
     |true=>rfl
     |false=>exact absurd (by unfold badZ;rw [e];rfl) i
    have ih:=yM lv l _ (d.ok f q) (λt ht=>by
     rcases rS.1 ht with ht|ht
     .exact h t ht
     .rw [rM.1 ht];exact leafZ_ok _ j)
    refine ⟨d.trans ih.1,g.trans ih.2.1, ?_,ih.2.2.2⟩;have:=ih.2.2.1;simp [re,r6,rv] at this ⊢;omega
mutual
def tmI:Tm->Prop
 |.mk k _ n l=>(k=2->N64 n)/\tmIs l
def tmIs:List Tm->Prop
 |[]=>True
 |t::l=>tmI t/\tmIs l
end
def WO:∀ {l} {t},tmIs l->t∈l->tmI t
 |x::l,t,h,hm=>by
  rw [tmIs] at h;rcases rG.1 hm with rfl|hm
  .exact h.1
  .exact WO h.2 hm
def gy:∀ {l},(∀t∈l,tmI t)->tmIs l
 |[],_=>by rw [tmIs];trivial
 |t::l,h=>by rw [tmIs];exact ⟨h t rn,gy λu b=>h u<|rh _ b⟩
def wD {k s n l}(h:k≠2)(b:∀t∈l,tmI t):tmI (.mk k s n l):=by rw [tmI];exact ⟨λe=>absurd e h,gy b⟩
def tmI_l {t}(h:tmI t):∀u∈t.l,tmI u:=by let ⟨k,s,n,l⟩:=t;rw [tmI] at h;exact λu b=>WO h.2 b
def Zf:∀(n) {t},tmI t->tmI (xv n t)
 |0,_,h=>h
 |n+1,t,h=>Zf n<|wD (by decide) λu b=>by rw [rM.1 b];exact h
def kK {t l}(h:tmI t)(b:∀u∈l,tmI u):tmI (zt t l):=by
 unfold zt;split
 .exact h
 .split
  .refine wD (by decide) λu hu=> ?_;rcases rS.1 hu with hu|hu
   .exact tmI_l h u hu
   .exact b u hu
  .refine wD (by decide) λu hu=> ?_;rcases rG.1 hu with rfl|hu
   .exact h
   .exact b u hu
def iZ (V):∀(l),(∀u∈l,∀s,Mv true s (encE V u s).2)->∀(f) (s),Mv true s (encR V l f s).2
 |[],_,f,s=>by rw [encR];exact .refl _
 |u::l,h,f,s=>by
  have b:=h u rn s;rw [encR];split
  .exact b
  .split
   .exact b.put _
   .exact (b.put _).trans<|iZ V l (λv d=>h v<|rh _ d) _ _
def sym_mv (s nm):Mv true s (symS s nm).2:=by
 unfold symS;split
 .exact .refl _
 .exact .names [nm] rfl (.refl s)
def encE_mv (V):∀(t),tmI t->∀s,Mv true s (encE V t s).2:=by
 refine Tm.ind λt ih=> ?_
 let ⟨k,nm,n,l⟩:=t
 intro b s;rw [tmI] at b;have ih:=λu e=>ih u e<|WO b.2 e
 rw [encE];split
 .exact (sym_mv s nm).put _
 .split
  .exact (Mv.refl s).put _
  .split
   .rename_i f;exact (Mv.refl s).put _ λ_=>b.1 f
   .split
    .exact (Mv.refl s).put _
    .split
     .exact .refl s
     .match l with
      |[]=>rw [encL];exact .refl s
      |u::l=>
       have d:=ih u rn s;rw [encL];split
       .exact d
       .split
        .exact d.put _
        .exact d.trans<|iZ V l (λv g=>ih v<|rh _ g) _ _
def nA (V s t)(g:tmI t):Mv true s (encS V s t).2:=by
 by_cases h:(encS V s t).1.2=0
 .unfold encS at h ⊢;split
  .exact .refl s
  .split
   .rename_i f b;rw [r8 f,ri b] at h;exact absurd h b
   .exact encE_mv V t g s
 .let ⟨e,d⟩:=lN V s t h
  rw [d];exact .names e rfl (.refl s)
def encS_nm (V){K s}(t)(i:OkH s)(g:NmB K s):((encS V s t).1.2=0->NmB K (encS V s t).2)/\NmB (K+1048577) (encS V s t).2:=by
 have b:=wO V t s;unfold encS;split
 .exact ⟨λ_=>g,by unfold NmB at*;dsimp only;omega⟩
 .split
  .rename_i q;refine ⟨λh=>absurd h q, ?_⟩;have o:=(b.1 i).C
   let ⟨_,d,e,f,j⟩:=b
   rw [r8 q] at j;rw [f] at o ⊢;unfold NmB at*;simp [re,ry] at*;omega
  .rename_i q;have:=b.nm (K:=K) (by simpa using q) g;exact ⟨λ_=>this,by unfold NmB at*;omega⟩
def encS_h (V s t)(ok:OkH s):OkH (encS V s t).2:=by
 have b:=(wO V t s).1 ok;unfold encS;split
 .exact ok
 .split
  .exact ⟨by simp [ry];have:=ok.C;omega,b.M,b.T,b.L⟩
  .exact b
def hangW_sz (w x lv b on):(w8 w x lv b on).1.1.sz=1:=by
 unfold w8;split<;>rfl
def py {K w}(ok:OkW K w)(x t)(e:tmI t):Rs K w (setW w x t).1 (setW w x t).2:=by
 have b:=nA none w.s t e;have nm:=encS_nm none t ok.h ok.n;unfold setW;split
 .rename_i q;exact ⟨b.ok ok.h,ok.f0,rk _,b,nm.1,nm.2⟩
 .rename_i q;have d:=(nm.1<|by simpa using q).set x ⟨5,(encS none w.s t).1.1,0,0,0⟩;exact ⟨(b.set x _).ok ok.h,ok.f0,rk _,b.set x _,λ_=>d,by unfold NmB at*;dsimp only;omega⟩
def OkW.fresh {K w}(b:OkW K w)(lv):Rs K w (zW w.s lv).1.2 ⟨(zW w.s lv).2,w.f⟩:=by
 have d:Mv false w.s (zW w.s lv).2:= .put _<|.refl _
 exact b.mv (v:=⟨(zW w.s lv).2,w.f⟩) d b.f0 (rk _) _
def cG {K w}(ok:OkW K w)(x lv b on)(f:∀u∈on,tmI u):Rs K w (w8 w x lv b on).1.2 (w8 w x lv b on).2/\(w8 w x lv b on).1.1.sz=1/\tmI (w8 w x lv b on).1.1:=by
 have d:=ok.fresh lv;unfold w8;split
 .exact ⟨d,rfl,wD (by decide)<|by simp⟩
 .rename_i q;have e:tmI (.mk 4 [] (zW w.s lv).1.1 []):=wD (by decide) (by simp);exact ⟨d.trans<|py (d.ok ok<|by simpa using q) x _<|Zf _<|kK e f,rfl,e⟩
def uk (v t k)(h:t.sz=1/\t.k≠2):(wG v t k).1.sz=1/\(wG v t k).1.k≠2:=by
 unfold wG;split
 .exact h
 .split
  .exact ⟨rfl,by show 3≠2;decide⟩
  .exact h
def ones (l:List Tm):=∀t,t∈l->t.sz=1/\t.k≠2
def lc {t}(h:t.sz=1/\t.k≠2):tmI t:=by
 have e:=t.sz_eq;have d:=Tm.szs_length t.l
 let ⟨k,s,n,l⟩:=t
 have b:l=[]:=List.length_eq_zero_iff.1 (by have f:=h.1;simp [Tm.l] at e d;omega);subst b;exact wD h.2 (by simp)
def ones.tmI {l}(h:ones l):∀t∈l,tmI t:=λt b=>lc<|h t b
def jl:∀ {l},ones l->Tm.szs l=l.length
 |[],_=>rfl
 |t::l,h=>by
  have ih:=jl (l:=l) λu b=>h u<|rh _ b
  have:=(h t rn).1;simp [Tm.szs,r6];omega
def mV (v k):∀(l),ones l->ones (im1 v k l).2/\(im1 v k l).2.length<=l.length/\(im1 v k l).1.length=(im1 v k l).2.length/\ones (im1 v k l).1
 |[],_=>⟨(λt b=>nomatch b),r9 _,rfl,(λt b=>nomatch b)⟩
 |t::l,h=>by
  let ⟨d,g,e,f⟩:=mV v k l λu hu=>h u<|rh _ hu
  rw [im1];split
  .refine ⟨λu hu=> ?_,by simp;omega,by simp [e],λu hu=> ?_⟩
   .rcases rG.1 hu with rfl|hu
    .exact uk v _ k<|h _ rn
    .exact d u hu
   .rcases rG.1 hu with rfl|hu
    .exact ⟨rfl,by show 3≠2;decide⟩
    .exact f u hu
  .exact ⟨d,by simp;omega,e,f⟩
def im2_ok (lv vlv k):∀(l),ones l->ones (im2 lv vlv k l).2/\(im2 lv vlv k l).2.length<=l.length/\(im2 lv vlv k l).1.length=(im2 lv vlv k l).2.length/\ones (im2 lv vlv k l).1
 |[],_=>⟨(λt b=>nomatch b),r9 _,rfl,(λt b=>nomatch b)⟩
 |t::l,h=>by
  let ⟨d,g,e,f⟩:=im2_ok lv vlv k l λu hu=>h u<|rh _ hu
  rw [im2];split
  .refine ⟨λu hu=> ?_,by simp;omega,by simp [e],λu hu=> ?_⟩
   .rcases rG.1 hu with rfl|hu
    .exact ⟨rfl,by show 3≠2;decide⟩
    .exact d u hu
   .rcases rG.1 hu with rfl|hu
    .exact h _ rn
    .exact f u hu
  .exact ⟨d,by simp;omega,e,f⟩
def kT {a b}(f:ones a)(e:ones b):ones (a++b):=λu d=>(rS.1 d).elim (λh=>f u h) λh=>e u h
def flexG_ok {K}(v y k){z}(ok:z.1.2=0->OkW K z.2)(m:ones v.l)(i:ones z.1.1):
  (z.1.2=0->Rs K z.2 (Z4 v y k z).1.2 (Z4 v y k z).2)/\(z.1.2≠0->(Z4 v y k z).1.2=z.1.2/\(Z4 v y k z).2=z.2)/\(Z4 v y k z).1.1.sz<=2+z.1.1.length+v.l.length/\tmI (Z4 v y k z).1.1:=by
 let ⟨b,r,o,j⟩:=mV v k z.1.1 i
 let ⟨f,p,u,g⟩:=im2_ok y.c.a v.lv k v.l m
 unfold Z4;split
 .rename_i q;exact ⟨λh=>absurd h q,λ_=>⟨rfl,rfl⟩,by show noT.sz<=_;have:noT.sz=1:=rfl;omega,wD (by decide)<|by simp⟩
 .rename_i q;have q:z.1.2=0:=by simpa using q
  split
  .refine ⟨λ_=>(ok q).refl _,λh=>absurd q h, ?_,kK (wD (by decide)<|by simp) b.tmI⟩;have:=wY (.mk 4 [] y.h []) (im1 v k z.1.1).2;rw [jl b] at this;have e:(Tm.mk 4 [] y.h []).sz=1:=rfl;dsimp only;omega
  .have d:=cG (ok q) y.h (zH [v.lv,y.c.a]) z.1.1.length ((im1 v k z.1.1).1++(im2 y.c.a v.lv k v.l).1) (kT j g).tmI;refine ⟨λ_=>d.1,λh=>absurd q h, ?_,kK d.2.2 (kT b f).tmI⟩;have:=wY (w8 z.2 y.h (zH [v.lv,y.c.a]) z.1.1.length<|(im1 v k z.1.1).1++(im2 y.c.a v.lv k v.l).1).1.1<|(im1 v k z.1.1).2++(im2 y.c.a v.lv k v.l).2
   rw [jl<|kT b f,re] at this;have:=d.2.1;dsimp only;omega
def TrG (K:Nat)(w:Wp)(z:(Tm×Int)×Wp):Prop:=Rs K w z.1.2 z.2/\z.1.1.sz<=1+100004*(w.f-z.2.f).toNat/\tmI z.1.1
def bj {K F m}(h:∀b w,OkW K w->w.f<=m->TrG K w (F b w)):∀(l) (t) {w},OkW K w->w.f<=m->tmI t->
  Rs K w (uR F l t w).1.2 (uR F l t w).2/\(uR F l t w).1.1.sz<=t.sz+2*l.length+100004*(w.f-(uR F l t w).2.f).toNat/\tmI (uR F l t w).1.1
 |[],t,w,ok,_,g=>⟨ok.refl _,by simp [uR],by rw [uR];exact g⟩
 |b::l,t,w,ok,o,g=>by
  let ⟨d,x,r⟩:=h b w ok o
  rw [uR];split
  .refine ⟨d, ?_,wD (by decide)<|by simp⟩;have:noT.sz=1:=rfl;have:=t.sz_eq;dsimp only;omega
  .rename_i q;have e:=d.ok ok (by simpa using q)
   let ⟨i,v,p⟩:=bj h l (zt t [(F b w).1.1]) e (by have:=d.f1;omega)<|kK g λu j=>by rw [rM.1 j];exact r
   refine ⟨d.trans i, ?_,p⟩;have:=u6 t (F b w).1.1;have:=d.f1;have:=i.f1;simp [r6];omega
def Ju (v N x k):(vl v N x k).1.sz=1:=by
 unfold vl;split
 .rfl
 .split
  .rfl
  .split
   .exact (uk _ _ _ ⟨rfl,by show 1≠2;decide⟩).1
   .exact (uk _ _ _ ⟨rfl,by show 3≠2;decide⟩).1
def nJ (v N x k)(h:x.c.t=2->N64 x.c.a):tmI (vl v N x k).1:=by
 unfold vl;split
 .exact wD (by decide) (by simp)
 .split
  .rename_i q;rw [tmI,tmIs];exact ⟨λ_=>h q,trivial⟩
  .split
   .exact lc<|uk _ _ _ ⟨rfl,by show 1≠2;decide⟩
   .exact lc<|uk _ _ _ ⟨rfl,by show 3≠2;decide⟩
def lookW_tI {K w}(ok:OkW K w)(a):(lookW w a).1.1.c.t=2->N64 (lookW w a).1.1.c.a:=by
 have h:=(XX w.s a w.f ok.f0).ih ok.i;unfold lookW;split
 .intro q;cases q
 .exact h.cell
def jz {l}(h:∀t∈l,LfZ t):ones l:=λt b=>⟨(h t b).sz,by have:=(h t b).1;omega⟩
def jJ {K}(v)(r:ones v.l)(A:v.l.length<=100000):∀(n) (a k) {w},OkW K w->w.f.toNat<n->TrG K w (yj v n a k w)
 |0,_,_,_,_,h=>absurd h (by omega)
 |n+1,a,k,w,ok,M=>by
  let ⟨d,_,C⟩:=xM ok a
  have D:=lookW_tI ok a;have O:=ok.f0;rw [yj];generalize lookW w a=z at*;unfold termG;have L:noT.sz=1:=rfl;have H:=d.f1;split
  .exact ⟨d,by dsimp only;omega,wD (by decide)<|by simp⟩
  .rename_i q;have q:z.1.2=0:=by simpa using q
   have i:=d.ok ok q;have C:=C q;have J:=d.f0;split
   .let ⟨j,x,p⟩:=jJ v r A n z.1.1.c.a (k+1) i (by omega)
    refine ⟨d.trans j, ?_,Zf 1 p⟩;have:=j.f1;have e:(xv 1 (yj v n z.1.1.c.a (k+1) z.2).1.1).sz=1+(yj v n z.1.1.c.a (k+1) z.2).1.1.sz:=by simp only [xv,Tm.sz,Tm.szs];omega
    dsimp only;rw [e];omega
   .split
    .split
     .exact ⟨d.same λ_=>q,by dsimp only;omega,wD (by decide)<|by simp⟩
     .let ⟨l1,_,l3,E⟩:=yM (K:=K) z.1.1.c.a z.1.1.js [] i (λt G=>by cases G)
      simp [rv] at l3;have g:=flexG_ok (K:=K) v z.1.1 k (z:=zh z.1.1.c.a z.1.1.js [] z.2) (λh=>l1.ok i h) r<|jz E
      unfold YV;generalize zh z.1.1.c.a z.1.1.js [] z.2=y at*
      have u:Rs K z.2 (Z4 v z.1.1 k y).1.2 (Z4 v z.1.1 k y).2:=by
       by_cases e:y.1.2=0
       .exact l1.trans<|g.1 e
       .rw [(g.2.1 e).1,(g.2.1 e).2];exact l1
      refine ⟨d.trans u, ?_,g.2.2.2⟩;have:=u.f1;have:=g.2.2.1;omega
    .split
     .exact ⟨d.same λ_=>q,by dsimp only;omega,wD (by decide)<|by simp⟩
     .let ⟨j,x,p⟩:=bj (K:=K) (F:=λb w=>yj v n b k w) (m:=z.2.f) (λb w o I=>jJ v r A n b k o<|by have:=o.f0;omega) z.1.1.js (vl v z.2.s.N z.1.1 k).1 i (rk _)<|nJ _ _ _ _ D
      refine ⟨d.trans j, ?_,p⟩;rw [Ju] at x;have:=j.f1;omega
def bindG_ok {K}(x a){z}(ok:z.1.2=0->OkW K z.2)(d:ones z.1.1)(b:z.1.1.length<=100000):
  (z.1.2=0->Rs K z.2 (Jq x a z).1 (Jq x a z).2)/\(z.1.2≠0->(Jq x a z).1=z.1.2/\(Jq x a z).2=z.2):=by
 unfold Jq;split
 .rename_i q;exact ⟨λh=>absurd h q,λ_=>⟨rfl,rfl⟩⟩
 .rename_i q;have q:z.1.2=0:=by simpa using q
  have t:=jJ ⟨x.h,x.c.a,z.1.1⟩ d b (z.2.f.toNat+1) a 0 (ok q) (by omega);split
  .exact ⟨λ_=>t.1,λh=>absurd q h⟩
  .rename_i e;exact ⟨λ_=>t.1.trans<|py (t.1.ok (ok q)<|by simpa using e) _ _<|Zf _ t.2.2,λh=>absurd q h⟩
def dR {K w}(b:OkW K w)(x a)(i:x.js.length<=100000):Rs K w (vz w x a).1 (vz w x a).2:=by
 let ⟨l1,_,l3,f⟩:=yM (K:=K) x.c.a x.js [] b (λt d=>by cases d)
 simp [rv] at l3;have g:=bindG_ok (K:=K) x a (z:=zh x.c.a x.js [] w) (λh=>l1.ok b h) (jz f) (by omega);unfold vz;by_cases e:(zh x.c.a x.js [] w).1.2=0
 .exact l1.trans<|g.1 e
 .rw [(g.2 e).1,(g.2 e).2];exact l1
def onZ_tI:∀a b,∀u∈onZ a b,tmI u
 |a::l,b::m,u,h=>by
  rw [onZ] at h;rcases rS.1 h with h|h
  .split at h
   .rw [rM.1 h];exact wD (by decide) (by simp)
   .cases h
  .exact onZ_tI l m u h
 |[],_,u,h=>by rw [onZ] at h;cases h;all_goals simp
 |_::_,[],u,h=>by rw [onZ] at h;cases h;all_goals simp
def np {K w}(ok:OkW K w)(x y):Rs K w (ua w x y).1 (ua w x y).2:=by
 let ⟨b,_,_,_⟩:=yM (K:=K) x.c.a x.js [] ok (λt g=>by cases g)
 unfold ua;generalize zh x.c.a x.js [] w=z at*;split
 .exact b
 .rename_i q;have q:z.1.2=0:=by simpa using q
  have f:=b.ok ok q
  let ⟨d,_,_,_⟩:=yM (K:=K) y.c.a y.js [] f (λt g=>by cases g)
  generalize zh y.c.a y.js [] z.2=u at*;split
  .exact b.trans d
  .rename_i e;have e:u.1.2=0:=by simpa using e
   split
   .exact b.trans<|d.same λ_=>e
   .split
    .exact b.trans<|d.same λ_=>e
    .exact b.trans<|d.trans (cG (d.ok f e) _ _ _ _<|onZ_tI _ _).1
def XS {K w}(b:OkW K w)(x a):Rs K w (wd w x a).1.2 (wd w x a).2:=by
 have d:=bH w.s a 1;unfold wd;split
 .exact b.refl _
 .split
  .exact b.mv (v:=⟨(xe w.s a 1).2,w.f⟩) d b.f0 (rk _) _
  .split
   .exact b.mv (v:=⟨(putS (xe w.s a 1).2 ⟨3,0,0,0,0⟩).2,w.f⟩) (d.put _) b.f0 (rk _) _
   .exact b.mv (v:=⟨_,w.f⟩) ((d.put _).put _) b.f0 (rk _) _
def mg {K w}(d:OkW K w)(x y p):Rs K w (qI w x y p).1.1 (qI w x y p).2/\(qI w x y p).1.2.length<=1:=by
 have b:=XS d x p.1;unfold qI;split
 .exact ⟨b,sQ _⟩
 .rename_i q;have q:(wd w x p.1).1.2=0:=by simpa using q
  have e:=XS (b.ok d q) y p.2;split
  .exact ⟨b.trans e,sQ _⟩
  .rename_i f;exact ⟨b.trans<|e.same λ_=>by simpa using f,r9 _⟩
def m5 {K w}(o:OkW K w)(p)(A:(lookW w p.1).1.1.js.length<=100000)(x:(lookW (lookW w p.1).2 p.2).1.1.js.length<=100000):Rs K w (oneW w p).1.1 (oneW w p).2/\((oneW w p).1.1=0->(oneW w p).1.2.length+(oneW w p).2.f<=w.f):=by
 let ⟨j,_,m⟩:=xM o p.1
 unfold oneW;split
 .rename_i q;exact ⟨j,λh=>absurd h q⟩
 .rename_i q;have q:(lookW w p.1).1.2=0:=by simpa using q
  have i:=j.ok o q;have m:=m q
  let ⟨g,_,v⟩:=xM i p.2
  generalize lookW w p.1=z at*;generalize lookW z.2 p.2=u at*;split
  .rename_i e;exact ⟨j.trans g,λh=>absurd h e⟩
  .rename_i e;have e:u.1.2=0:=by simpa using e
   have d:=g.ok i e;have v:=v e;have b:=(j.trans g);have y:=g.f1;have f0:=g.f0;unfold oneG;split
   .have r:=mg d z.1.1 u.1.1 p;exact ⟨b.trans r.1,λ_=>by have:=r.2;have:=r.1.f1;omega⟩
   .split
    .have r:=np d z.1.1 u.1.1;exact ⟨b.trans r,λ_=>by have:=r.f1;simp [rv];omega⟩
    .split
     .have r:=dR d z.1.1 p.2 (by omega);exact ⟨b.trans r,λ_=>by have:=r.f1;simp [rv];omega⟩
     .split
      .have r:=dR d u.1.1 p.1 (by omega);exact ⟨b.trans r,λ_=>by have:=r.f1;simp [rv];omega⟩
      .split
       .exact ⟨b.same λ_=>e,λh=>by cases h⟩
       .refine ⟨b.same λ_=>e,λ_=> ?_⟩;simp [List.length_zip];omega
def j9 {K:Nat}{w:Wp}(d:OkW K w)(a:Int)(h:w.f<=100000):(lookW w a).1.1.js.length<=100000:=by
 obtain ⟨g,_,b⟩:=xM d a;by_cases q:(lookW w a).1.2=0
 .have:=b q;have:=g.f0;omega
 .unfold lookW at q ⊢;split
  .exact sQ _
  .rename_i e;rw [r8 e] at q;exact absurd rfl q
def dN {K w}(b:OkW K w)(p)(h:w.f<=100000):Rs K w (oneW w p).1.1 (oneW w p).2/\((oneW w p).1.1=0->(oneW w p).1.2.length+(oneW w p).2.f<=w.f):=by
 by_cases q:(lookW w p.1).1.2=0
 .have d:=(xM b p.1).1;exact m5 b p (j9 b p.1 h)<|j9 (d.ok b q) p.2<|by have:=d.f1;omega
 .have e:oneW w p=(((lookW w p.1).1.2,[]),(lookW w p.1).2):=by unfold oneW;rw [ri q]
  rw [e];exact ⟨(xM b p.1).1,λh=>absurd h q⟩
def fq {K}:∀(n) {w} (g),OkW K w->w.f<=100000->Rs K w (runZ n w g).1 (runZ n w g).2
 |n,w,[],ok,_=>by
  have e:runZ n w []=(0,w):=by cases n<;>rfl
  rw [e];exact ok.refl _
 |0,w,p::g,ok,_=>ok.refl _
 |n+1,w,p::g,ok,o=>by
  rw [runZ];split
  .exact ok.refl _
  .rename_i q;have b:OkW K ⟨w.s,w.f-1⟩:=⟨ok.h,by have:=ok.f0;dsimp only;omega,by have:=ok.f1;dsimp only;omega,ok.n,ok.i⟩;have d:=(dN b p<|by dsimp only;omega).1;have up:∀ {e} {v:Wp},Rs K ⟨w.s,w.f-1⟩ e v->Rs K w e v:=λr=>⟨r.h,r.f0,by have:=r.f1;dsimp only at this;omega,r.mv,r.n,r.m⟩;split
   .exact up d
   .rename_i j;have:=d.f1;dsimp only at this;exact up<|d.trans<|fq n _ (d.ok b<|by simpa using j)<|by omega
end Go.AM
