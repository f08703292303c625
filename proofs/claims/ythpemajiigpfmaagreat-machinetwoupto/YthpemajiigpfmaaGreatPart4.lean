/- Laws, part 4. No conditions. -/
import Derived.Test.YthpemajiigpfmaaGreatPart3
import Derived.Test.YthpemajiigpfmaaGreatShelf
set_option linter.all false
set_option maxRecDepth 100000
open Go Go.Proofs
open Go.IntKind (wrap)
open List (getD take drop)
open Int (toNat)
namespace Go.AM
open List (getD length take drop)
open Int (toNat)
abbrev XK (a:Int)(b:RW)(c:Bool)(d:Int)(e:LU)(f:Int)(g:RW)(h:Nat)(i:RW)(r:TV)(Hs':LA):=∃z3,Q209 192 (Q185 [Q2 a,Q124 b,Q8 c]) (aT z3)/\∃z4,Q49 175 [.agg<|Q192 (Q2 a) (Q2 d) e (Q2 f) (Q124 g) (Q2 z3.k) (Q10 z3.s) (Q2 z3.n)<|Q124<|FTs z3.l,Q191 1] (Q108 (Q201 1 1 9 h) 9 i) [] (Q88 (Q201 1 2 9<|length z4) 9<|CLs z4)/\Q54 0 (Q88 (Q201 1 2 9<|length z4) 9<|CLs z4) r Hs'
abbrev Xp (a:Bool)(r:TV)(b:Nat)(c:RW)(Hs':LA)(d:Int)(e:RW)(f:Bool)(g:Int)(h:LU)(i:Int)(j:RW):=br a (Q54 132 (Q88 (Q201 1 2 9 b) 9 c) r Hs')<|XK d e f g h i j b c r Hs'
abbrev Yq (a:Int)(b:RW)(c:Bool)(d:Tm)(e:Nat)(f:RW)(r:TV)(Hs':LA):=∃z10:Int×List Tm×Bool,Q209 193 (Q185 [Q2 a,Q124 b,Q8 c]) (.agg [Q2 z10.1,Q124<|FTs z10.2.1,Q8 z10.2.2])/\∃z11:Int×List Cl,Q70 174 [aT d,.agg [Q2 z10.1,Q124<|FTs z10.2.1,Q8 z10.2.2],.c<|.fn (.func 175) [] [(false,[Q145])]] (Q108 (Q201 1 1 9 e) 9 f) z11.1 (Q88 (Q201 1 2 9<|length z11.2) 9<|CLs z11.2)/\Q54 z11.1 (Q88 (Q201 1 2 9<|length z11.2) 9<|CLs z11.2) r Hs'
abbrev dv (r:TV)(a:Nat)(b:RW)(Hs':LA)(c:Int)(d:RW)(e:Bool):=∃n13,Q70 53 (Q185<|Q62 0 [] 0) [] n13 []/\br (n13 !=0) (Q54 n13 (Q88 (Q201 1 2 9 a) 9 b) r Hs') ((FV.L 4 .N=true/\0<=(0:Int)/\0<((0:Nat):Int)/\([Q1 0,.str [],Q1 0,.N])=[])/\(FV.L 4 .N=true/\0<=(1:Int)/\1<((0:Nat):Int)/\([Q1 0,.str [],Q1 0,.N])=[])/\∃z14:Int×List Tm×Bool,Q209 195 [.agg [Q2 c,Q124 d,Q8 e],.agg<|Q62 0 [] 0] (.agg [Q2 z14.1,Q124<|FTs z14.2.1,Q8 z14.2.2])/\∃z15:Int×List Cl,Q70 174 [.agg<|Q62 0 [] 0,.agg [Q2 z14.1,Q124<|FTs z14.2.1,Q8 z14.2.2],.c<|.fn (.func 175) [] [(false,[Q145])]] (Q108 (Q201 1 1 9 a) 9 b) z15.1 (Q88 (Q201 1 2 9<|length z15.2) 9<|CLs z15.2)/\Q54 z15.1 (Q88 (Q201 1 2 9<|length z15.2) 9<|CLs z15.2) r Hs')
def nS (v o m u f e d b k r a):let A:=Q108 (Q201 1 1 9 b) 9 k;let B:=Q222 v o m u 131;let C:=Q88 (Q201 1 2 9 b) 9 k;let D:=XK f e d v o m u b k r a;let E:=FV.L 4 .N=true;let F:=((0:Nat):Int);let G:=([Q1 0,.str [],Q1 0,.N])=[];let H:=E/\0<=(0:Int)/\0<F/\G;let I:=Q62 0 [] 0;let J:=E/\0<=(1:Int)/\1<F/\G;let K:=J/\dv r b k a f e d;let L:=Q54 131 C r a;let M:=4=4;VE lv31 174 2 r a [Q121 v o m u,.agg [Q2 f,Q124 e,Q8 d],.c<|.fn (.func 175) [] [(false,[Q145])]] A=
  ((∃x:LU×Int,Q49 85 B [] [Q91<|Q10 x.1,Q91 Q21,Q31 x.2] []/\br (x.2 !=0) (Q54 x.2 C r a) (br (x.1==[]) (br (!d) (∃z2,Q128 103 (Q115 Q181<|.fn (.func 190) [] []) z2/\Xp z2 r b k a f e d v o m u) D)<|br (x.1==[44]) (H/\∃l:Int×List Cl,let N:=Q88 (Q201 1 2 9<|length l.2) 9 (CLs l.2);Q70 174 [.agg I,.agg [Q2 f,Q124 e,Q8 d],.c<|.fn (.func 175) [] [(false,[Q145])]] A l.1 N/\br (l.1 !=0) (Q54 l.1 N r a) (J/\∃z8:Int×List Cl,let O:=Q88 (Q201 1 2 9<|length z8.2) 9 (CLs z8.2);Q70 174 [.agg I,.agg [Q2 f,Q124 e,Q8 d],.c<|.fn (.func 175) [] [(false,[Q145])]] (Q108 (Q201 1 1 9<|length l.2) 9<|CLs l.2) z8.1 O/\Q54 z8.1 O r a))<|br (x.1==[112,105]) (H/\∃z9,Q209 87 (Q185 I) (aT z9)/\Yq f e d z9 b k r a)<|br (x.1==[61,62]) (∃_:List Tm,Q49 194 [Q181] [] [] []/\K)<|br (x.1==[58,45]) K L))\/∃g:LU×List Tm×Int,let P:=length g.2.1;let Q:=FTs g.2.1;let S:=Q188 4 Q;let T:=(P:Int);let U:=0<=(0:Int)/\0<T;let V:=getD Q 0 [];let W:=0<length Q/\(rE V)=take 4 (drop 0 V)/\M;let X:=0<=(1:Int)/\1<T;let Y:=getD Q 1 [];let Z:=1<length Q/\(rE Y)=take 4 (drop 0 Y)/\M;Q49 85 B [] [Q91<|Q10 g.1,Q91<|Q199 0 4 P,Q31 g.2.2] S/\br (g.2.2 !=0) (Q54 g.2.2 C r a) (br (g.1==[]) (br (!d) (∃t,Q72 103 (Q115 (Q220 0 4 P)<|.fn (.func 190) [] []) S t S/\Xp t r b k a f e d v o m u) D)<|br (g.1==[44]) (U/\W/\∃h:Int×List Cl,let Aa:=Q88 (Q201 1 2 9<|length h.2) 9 (CLs h.2);Q70 174 [aE V,.agg [Q2 f,Q124 e,Q8 d],.c<|.fn (.func 175) [] [(false,[Q145])]] A h.1 Aa/\br (h.1 !=0) (Q54 h.1 Aa r a) (X/\Z/\∃w:Int×List Cl,let Ab:=Q88 (Q201 1 2 9<|length w.2) 9 (CLs w.2);Q70 174 [aE Y,.agg [Q2 f,Q124 e,Q8 d],.c<|.fn (.func 175) [] [(false,[Q145])]] (Q108 (Q201 1 1 9<|length h.2) 9<|CLs h.2) w.1 Ab/\Q54 w.1 Ab r a))<|br (g.1==[112,105]) (U/\W/\∃s:Tm,Q209 87 [aE V] (aT s)/\Yq f e d s b k r a)<|br (g.1==[61,62]) (∃p:List Tm,let Ac:=getD (FTs p) 1 [];let Ad:=1<length (FTs p)/\(rE Ac)=take 4 (drop 0 Ac)/\M;let Ae:=getD (FTs p) 0 [];Q49 194 [Q220 0 4 P] S [] (Q188 4<|FTs p)/\X/\Ad/\∃n:Int,Q70 53 [aE Ac] [] n []/\br (n !=0) (Q54 n C r a) (U/\(0<length (FTs p)/\(rE Ae)=take 4 (drop 0 Ae)/\M)/\X/\Ad/\∃i:Int×List Tm×Bool,Q209 195 [.agg [Q2 f,Q124 e,Q8 d],aE Ac] (.agg [Q2 i.1,Q124<|FTs i.2.1,Q8 i.2.2])/\∃y:Int×List Cl,let Af:=Q88 (Q201 1 2 9<|length y.2) 9 (CLs y.2);Q70 174 [aE Ae,.agg [Q2 i.1,Q124<|FTs i.2.1,Q8 i.2.2],.c<|.fn (.func 175) [] [(false,[Q145])]] A y.1 Af/\Q54 y.1 Af r a))<|br (g.1==[58,45]) (X/\Z/\∃q:Int,Q70 53 [aE Y] [] q []/\br (q !=0) (Q54 q C r a) (U/\W/\X/\Z/\∃j:Int×List Tm×Bool,Q209 195 [.agg [Q2 f,Q124 e,Q8 d],aE Y] (.agg [Q2 j.1,Q124<|FTs j.2.1,Q8 j.2.2])/\∃z:Int×List Cl,let Ag:=Q88 (Q201 1 2 9<|length z.2) 9 (CLs z.2);Q70 174 [aE V,.agg [Q2 j.1,Q124<|FTs j.2.1,Q8 j.2.2],.c<|.fn (.func 175) [] [(false,[Q145])]] A z.1 Ag/\Q54 z.1 Ag r a)) L)):=zh
def lP:LV:=[(1,[2,3,4,6,7,8,9,30,31,32])]
def oy (b e d f k g h r a):let A:=Q173 g (Q130 h);let B:=∃i,∃m,Q79 173 (Q159 b e d f) [] (Q91<|Q0 i) m []/\FV.L 4 i=true/\Q142 171 2 r a [Q14 2 k,Q42 3 2 1,Q125 3 4,Q178 6 4,Q210 7 i,Q14 8 m,Q96 9,Q210 30 i,Q14 31<|length<|FV.ses i,Q14 32 0] [Q183 0 g,Q183 1 h,Q184 2<|.fn (.func 172) [] [(false,[Q145]),(false,[Q135 1])],Q116 3 4 b e d 4 f,Q122 4 4 0 [] 0] 5;VE lP 171 2 r a (Q154 (.agg [.fn (.func 172) [] [(false,[Q145]),(false,[Q135 1])]]) (Q121 b e d f) k) A=
  br (b !=5) (br (b !=6) (∃j,Q7 172 [Q121 b e d f,Q15 k,Q191 1,Q190 1 1] A (aT j) A/\RT (aT j) A r a) B) B:=zh
def ZC (v y w i u d g f b e h j m o p r)(a:LA):let A:=getD (FV.ses i) (toNat d) [];let B:=Q173 g (Q130 f);let C:=RT (.agg<|Q62 b e h) B r a;VQ lP 171 2 r a 1 ⟨[Q14 2 v,Q42 3 2 1,Q125 3 4,Q178 6 4,Q210 7 y,Q14 8 w,Q96 9,Q210 30 i,Q14 31 u,Q14 32 d],[Q183 0 g,Q183 1 f,Q184 2<|.fn (.func 172) [] [(false,[Q145]),(false,[Q135 1])],Q116 3 4 b e h 4 j,Q122 4 4 m o p],5⟩=
  br (decide (d<u)) ((FV.L 4 i=true/\0<=d/\d<(length<|FV.ses i)/\(rE A)=A)/\∃x,Q7 171 (Q154 (.agg [.fn (.func 172) [] [(false,[Q145]),(false,[Q135 1])]]) (aE A)<|wrap .i64<|v+w) B (aT x) B/\1<=1/\zw 1 56/\Q142 171 2 r a [Q14 2 v,Q42 3 2 1,Q125 3 4,Q178 6 4,Q210 7 y,Q14 8 w,Q157 9 5 4 1,Q210 30 i,Q14 31 u,Q14 32<|wrap .i64<|d+1] [Q183 0 g,Q183 1 f,Q184 2<|.fn (.func 172) [] [(false,[Q145]),(false,[Q135 1])],Q116 3 4 b e h 4 j,Q122 4 4 m o p,Q22 5 4 [FT4 x]] 6) (br (b==6) (FV.L 4 .N=true/\C) C):=zh
def ZK (z x y)(b:Nat)(h v e j f d i g m p o u)(w:RW)(r)(a:LA):let A:=getD (FV.ses h) (toNat e) [];let B:=Q173 j (Q130 f);let C:=length w;let D:=0<=(0:Int)/\0<(b:Int);let E:=getD w 0 [];let F:=FV.I (getD E 0 FV.N);let G:=getD (FV.ses x) 0 [];let H:=toNat b-1;let I:=(4=4/\0+b<=C)/\RT (Q121 d i g<|take b<|drop 0 w) B r a;VQ lP 171 2 r a 1 ⟨[Q14 2 z,Q42 3 2 1,Q125 3 4,Q178 6 4,Q210 7 x,Q14 8 y,Q157 9 5 4 b,Q210 30 h,Q14 31 v,Q14 32 e],[Q183 0 j,Q183 1 f,Q184 2<|.fn (.func 172) [] [(false,[Q145]),(false,[Q135 1])],Q116 3 4 d i g 4 m,Q122 4 4 p o u,Q22 5 4 w],6⟩=
  br (decide (e<v)) ((FV.L 4 h=true/\0<=e/\e<(length<|FV.ses h)/\(rE A)=A)/\∃K,Q7 171 (Q154 (.agg [.fn (.func 172) [] [(false,[Q145]),(false,[Q135 1])]]) (aE A)<|wrap .i64<|z+y) B (aT K) B/\1<=1/\(b<=C/\zw (b+1) 56)/\Q142 171 2 r a [Q14 2 z,Q42 3 2 1,Q125 3 4,Q178 6 4,Q210 7 x,Q14 8 y,Q157 9 5 4<|b+1,Q210 30 h,Q14 31 v,Q14 32<|wrap .i64<|e+1] [Q183 0 j,Q183 1 f,Q184 2<|.fn (.func 172) [] [(false,[Q145]),(false,[Q135 1])],Q116 3 4 d i g 4 m,Q122 4 4 p o u,Q22 5 4<|take b w++[FT4 K]] 6) (br (d==6) (br (decide ((b)>(1:Int))) (D/\(0<C/\([Q1 F])=take 1 (drop 0 E)/\1=1)/\br (F==6) ((FV.L 4 x=true/\0<=(0:Int)/\0<(length (FV.ses x):Int)/\(rE G)=G)/\br (FV.I (getD G 0 FV.N) !=6) (D/\(0<C/\(rE E)=take 4 (drop 0 E)/\4=4)/\(0<=(1:Int)/\1<=(b:Int)/\b<=(b:Int))/\(4=4/\1+H<=C)/\∃J,Q209 12 [aE E,Q60 4<|take H<|drop 1 w] (aT J)/\RT (aT J) B r a) I) I) I) I):=zh
def v56 (g e d f r a):let A:=Q159 g e d f;VE lv6 56 0 r a A []=
  ∃b:Tm×List Tm,Q49 74 A [] (Q93 (cT b.1)<|Q124<|FTs b.2) []/\br (b.1.k==0) (∃h,Q128 61 [Q137 b.1.s] h/\Q35 [Q91<|Q10 b.1.s,Q91<|Q8 (!h)] [] r a) (Q35 [Q91<|Q10 b.1.s,Q91 Q89] [] r a):=zh
def oE (b:Int)(e:LU)(d:Int)(f:RW)(k h i:Int)(g:LU)(j:Int)(m:RW)(r:TV)(a:LA):let A:=Q173 h (Q9 4<|Q33 i g j 4 m);let B:=(∃o:FV,∃u:Int,Q79 173 (Q159 b e d f) [] (Q91<|Q0 o) u []/\(FV.L 4 o=true)/\Q142 171 2 r a [Q14 2 k,Q42 3 2 1,Q125 3 4,Q178 6 4,Q210 7 o,Q14 8 u,Q96 9,Q210 30 o,Q14 31 (length (FV.ses o):Int),Q14 32 0] [Q183 0 h,Q116 1 4 i g j 4 m,Q184 2<|.fn (.func 169) [] [(false,[Q145]),(false,[(Q134 1 4)])],Q116 3 4 b e d 4 f,Q122 4 4 0 [] 0] 5);VE lP 171 2 r a (Q154 (.agg [(.fn (.func 169) [] [(false,[Q145]),(false,[(Q134 1 4)])])]) (Q121 b e d f) k) A=
  (br (b !=5) (br (b !=6) (∃p:Tm,Q7 169 [Q121 b e d f,Q15 k,Q191 1,Q190 1 4] A (aT p) A/\RT (aT p) A r a) B) B):=zh
def Zz (z E y i x d o g m e f b j h p v u w r)(a:LA):let A:=Q134 1 4;let B:=getD (FV.ses i) (toNat d) [];let C:=Q173 o (Q9 4<|Q33 g m e 4 f);let D:=RT (.agg<|Q62 b j h) C r a;VQ lP 171 2 r a 1 ⟨[Q14 2 z,Q42 3 2 1,Q125 3 4,Q178 6 4,Q210 7 E,Q14 8 y,Q96 9,Q210 30 i,Q14 31 x,Q14 32 d],[Q183 0 o,Q116 1 4 g m e 4 f,Q184 2<|.fn (.func 169) [] [(false,[Q145]),(false,[A])],Q116 3 4 b j h 4 p,Q122 4 4 v u w],5⟩=
  br (decide (d<x)) ((FV.L 4 i=true/\0<=d/\d<(length<|FV.ses i)/\(rE B)=B)/\∃F,Q7 171 (Q154 (.agg [.fn (.func 169) [] [(false,[Q145]),(false,[A])]]) (aE B)<|wrap .i64<|z+y) C (aT F) C/\1<=1/\zw 1 56/\Q142 171 2 r a [Q14 2 z,Q42 3 2 1,Q125 3 4,Q178 6 4,Q210 7 E,Q14 8 y,Q157 9 5 4 1,Q210 30 i,Q14 31 x,Q14 32<|wrap .i64<|d+1] [Q183 0 o,Q116 1 4 g m e 4 f,Q184 2<|.fn (.func 169) [] [(false,[Q145]),(false,[A])],Q116 3 4 b j h 4 p,Q122 4 4 v u w,Q22 5 4 [FT4 F]] 6) (br (b==6) (FV.L 4 .N=true/\D) D):=zh
def Zq (M K L)(b:Nat)(j y e p h o f g d m i u w v x)(z:RW)(r)(a:LA):let A:=Q134 1 4;let B:=getD (FV.ses j) (toNat e) [];let C:=Q173 p (Q9 4<|Q33 h o f 4 g);let D:=length z;let E:=0<=(0:Int)/\0<(b:Int);let F:=getD z 0 [];let G:=FV.I (getD F 0 FV.N);let H:=getD (FV.ses K) 0 [];let I:=toNat b-1;let J:=(4=4/\0+b<=D)/\RT (Q121 d m i<|take b<|drop 0 z) C r a;VQ lP 171 2 r a 1 ⟨[Q14 2 M,Q42 3 2 1,Q125 3 4,Q178 6 4,Q210 7 K,Q14 8 L,Q157 9 5 4 b,Q210 30 j,Q14 31 y,Q14 32 e],[Q183 0 p,Q116 1 4 h o f 4 g,Q184 2<|.fn (.func 169) [] [(false,[Q145]),(false,[A])],Q116 3 4 d m i 4 u,Q122 4 4 w v x,Q22 5 4 z],6⟩=
  br (decide (e<y)) ((FV.L 4 j=true/\0<=e/\e<(length<|FV.ses j)/\(rE B)=B)/\∃O,Q7 171 (Q154 (.agg [.fn (.func 169) [] [(false,[Q145]),(false,[A])]]) (aE B)<|wrap .i64<|M+L) C (aT O) C/\1<=1/\(b<=D/\zw (b+1) 56)/\Q142 171 2 r a [Q14 2 M,Q42 3 2 1,Q125 3 4,Q178 6 4,Q210 7 K,Q14 8 L,Q157 9 5 4<|b+1,Q210 30 j,Q14 31 y,Q14 32<|wrap .i64<|e+1] [Q183 0 p,Q116 1 4 h o f 4 g,Q184 2<|.fn (.func 169) [] [(false,[Q145]),(false,[A])],Q116 3 4 d m i 4 u,Q122 4 4 w v x,Q22 5 4<|take b z++[FT4 O]] 6) (br (d==6) (br (decide ((b)>(1:Int))) (E/\(0<D/\([Q1 G])=take 1 (drop 0 F)/\1=1)/\br (G==6) ((FV.L 4 K=true/\0<=(0:Int)/\0<(length (FV.ses K):Int)/\(rE H)=H)/\br (FV.I (getD H 0 FV.N) !=6) (E/\(0<D/\(rE F)=take 4 (drop 0 F)/\4=4)/\(0<=(1:Int)/\1<=(b:Int)/\b<=(b:Int))/\(4=4/\1+I<=D)/\∃N,Q209 12 [aE F,Q60 4<|take I<|drop 1 z] (aT N)/\RT (aT N) C r a) J) J) J) J):=zh
def v95 (c r a):let A:=Q152 r a;VE lv6 95 0 r a [Q179 .u8 c] []=
  ∃b,Q128 93 [Q179 .u8 c] b/\br b A (∃e,Q128 137 [Q179 .u8 c] e/\br e A (∃d,Q128 138 [Q179 .u8 c] d/\br d A (Q132 (c==39) r a))):=zh
def v141_F99 (s r a):VE lv65 141 0 r a (Q120 1 s<|.fn (.func 99) [] []) []=
  (FV.L 1 (Q5 1 s)=true/\Q217 141 r a (Q149 (Q40 0 1 s) 1 (.fn (.func 99) [] []) 7 (length s) 8 0) [] 0):=zg
def Xn (c:RW)(e b r a):let A:=getD c (toNat b) [];let B:=FV.I (getD A 0 FV.N);VQ lv65 141 0 r a 1 ⟨Q149 (Q40 0 1 c) 1 (.fn (.func 99) [] []) 7 e 8 b,[],0⟩=
  br (decide (b<e)) ((FV.L 1 (Q5 1 c)=true/\0<=b/\b<(length c)/\([Q1 B])=A)/\∃f,Q128 99 [Q15 B] f/\br f (Q54 b [] r a) (Q217 141 r a (Q149 (Q40 0 1 c) 1 (.fn (.func 99) [] []) 7 e 8<|wrap .i64<|b+1) [] 0)) (Q54 (-1) [] r a):=zh
def v96 (c r a):VE lv6 96 0 r a [Q179 .u8 c] []=
  ∃b,Q70 139 (Q115 (Q137 [43,45,42,47,60,62,61,38,124,94,126,64,35,36,63,58])<|Q0<|.int .u8 c) [] b []/\Q132 (decide (b>=0)) r a:=zg
def v140 (s b r a):let A:=Q115 (Q137 s) (Q10 b);VE lv6 140 0 r a A []=
  ∃d,Q70 177 A [] d []/\Q54 d [] r a:=zh
def v101 (b f d e n r a):let A:=∃g,Q72 103 (Q120 4 e<|.fn (.func 142) [] [(false,[Q145])]) (Q131 n) g (Q131 n)/\Q132 (!g) r a;VE lv6 101 0 r a (Q222 b f d e n) []=
  br (b==1) (Q144 r a) (br (b==4) (br (decide (d>=n)) (Q144 r a) A) A):=zh
def v143 (e b d j f h i g r a):let A:=Q144 r a;VE lv6 143 0 r a [Q121 e b d j,Q121 f h i g] []=
  br (e==f) (br (b==h) (br (d==i) (∃m,Q128 178 [Q60 4 j,Q60 4 g,.c<|.fn (.func 143) [] []] m/\Q132 m r a) A) A) A:=zh
def tS (s:RW)(d:LU)(h g e b:Int)(f:RW)(r:TV)(a:LA):VE lv65 144 1 r a (Q120 4 s<|.fn (.func 100) [] [(false,[(Q134 0 6)])]) [Q112 6 d h g e b 8 f]=
  ((FV.L 4 (Q225 s)=true)/\Q142 144 1 r a (Q149 (Q153 0 s) 1 (.fn (.func 100) [] [(false,[(Q134 0 6)])]) 7 (length s:Int) 8 0) [(0,Q112 6 d h g e b 8 f)] 1):=zg
def ZQ (c:RW)(m i h d e b f g r a):let A:=getD c (toNat i) [];VQ lv65 144 1 r a 1 ⟨Q149 (Q153 0 c) 1 (.fn (.func 100) [] [(false,[Q134 0 6])]) 7 m 8 i,[(0,Q112 6 h d e b f 8 g)],1⟩=
  br (decide (i<m)) ((FV.L 4 (Q225 c)=true/\0<=i/\i<(length c)/\(rE A)=A)/\∃o,Q72 100 [aE A,Q191 6] [Q112 6 h d e b f 8 g] o [Q112 6 h d e b f 8 g]/\br o (Q54 i [Q112 6 h d e b f 8 g] r a) (Q142 144 1 r a (Q149 (Q153 0 c) 1 (.fn (.func 100) [] [(false,[Q134 0 6])]) 7 m 8<|wrap .i64<|i+1) [(0,Q112 6 h d e b f 8 g)] 1)) (Q54 (-1) [Q112 6 h d e b f 8 g] r a):=zh
def v145 (k r a):VE lv6 145 0 r a [Q15 k] []=
  br (k==0) (Q152 r a) (Q132 (k==1) r a):=zg
def v146 (g e d f r a):let A:=Q159 g e d f;VE lv6 146 0 r a A []=
  ∃b:Tm×List Tm,Q49 74 A [] (Q93 (cT b.1)<|Q124<|FTs b.2) []/\br (b.1.k==0) (∃h,Q128 61 [Q137 b.1.s] h/\Q132 (!h) r a) (Q144 r a):=zh
def v147 (h f e g r a):let A:=Q159 h f e g;let B:=Q144 r a;VE lv6 147 0 r a A []=
  ∃b:Tm×List Tm,let C:=FTs b.2;let D:=br (b.1.k==0) (FV.L 4 (Q225 C)=true/\Q132 (((length C))==(2:Int)) r a) B;Q49 74 A [] (Q93 (cT b.1)<|Q124 C) []/\br (b.1.s==[105,115]) D (br (b.1.s==[60]) D<|br (b.1.s==[61,60]) D<|br (b.1.s==[62]) D<|br (b.1.s==[62,61]) D B):=zh
def v35_F148 (s:RW)(d:LU)(h g e b:Int)(f:RW)(r:TV)(a:LA):let A:=Q120 6 s (.fn (.func 148) [] [(false,[(Q134 0 6)])]);VE lv6 35 1 r a A [Q112 6 d h g e b 8 f]=
  (∃i:Int,Q70 65 A [Q112 6 d h g e b 8 f] i [Q112 6 d h g e b 8 f]/\Q47 (decide (i>=0)) [Q112 6 d h g e b 8 f] r a):=zh
def v179 (b f e d g r a):VE lv6 179 0 r a [Q176 b f e d g] []=
  br (decide (9<=b)) (Q132 (decide (b<=11)) r a) (Q144 r a):=zg
def v180 (e i h d f g j b p u m o r a):let A:=Q136 3 1 6 0 0 i h 2 d 3 f g j 4 b p u m o;VE lv6 180 6 r a (Q95 0 3 0 0 e) A=
  br (h==0) (Q54 0 (Q136 3 1 6 0 0 i e 2 d 3 f g j 4 b p u m o) r a) (Q54 0 A r a):=zh
def v182 (z E u m g j p o f e h i d G I H F r a):let A:=Q136 3 1 6 0 0 p o 2 f 3 e h i 4 d G I H F;let B:=Q196 0 3 0 0 3 (wrap .i64<|wrap .i64 (j-m)+g) 0 0 0;VE lv153 182 6 r a (Q75 0 3 0 0 (Q176 z E u m g)<|Q15 j) A=
  br (decide (j<m)) (∃b:Int×Int×Int×Int×Int×Bool×Int×Int,let C:=Q136 3 1 6 0 0 b.2.2.2.2.2.2.1 b.2.2.2.2.2.2.2 2 f 3 e h i 4 d G I H F;let D:=br b.2.2.2.2.2.1 (∃x:Int×Rd,Q70 201 (Q147 0 3 0 0 b.2.2.1<|wrap .i64<|g-b.2.2.2.1) C x.1 (rSb x.2 [])/\Q54 x.1 (rSb x.2 []) r a) (∃v:Int×Rd,Q70 156 B C v.1 (rSb v.2 [])/\Q54 v.1 (rSb v.2 []) r a);Q49 200 (Q147 0 3 0 0 u j) A (Q93 (Q161 b.1 b.2.1 b.2.2.1 b.2.2.2.1 b.2.2.2.2.1)<|Q8 b.2.2.2.2.2.1) C/\br b.2.2.2.2.2.1 (br (b.1==10) (∃w:Int×Rd,Q70 156 (Q196 0 3 0 0 3 (wrap .i64<|wrap .i64 (g-1)-b.2.2.1) 0 0 0) C w.1 (rSb w.2 [])/\Q54 w.1 (rSb w.2 []) r a) D) D) (∃y:Int×Rd,Q70 156 B A y.1 (rSb y.2 [])/\Q54 y.1 (rSb y.2 []) r a):=zh
def lv181:LV:=[(1000001,[3,4,5])]
def v181 (a w g u j d i p v h G F D)(E:List MapZ)(z y x m o r c):let A:=Q161 z y x m o;VE lv181 181 8 r c [Q15 a,Q15 w,Q15 g,Q191 1,Q190 7 5] [Q216 1 1 3,Q107 3 2 6 0 0 u j,Q69 3 d 4 i p v 5 h 6,Q51 G,Q50 F,Q45 D,.mapz E,Q9 5 A]=
  ∃b:Int×Rd,Q70 156 (Q196 0 3 0 0 8 a w (wrap .i64<|m+g)<|wrap .i64<|o+g) (Q136 3 1 6 0 0 u j 2 d 3 i p v 4 h G F D E) b.1 (rSb b.2 [])/\Q54 b.1 (Q118 (Q216 1 1 3) (Q107 3 2 6 0 0 b.2.f b.2.e) (Q69 8 (length b.2.s.C) 9 (length b.2.s.T) b.2.s.M b.2.s.L 10 (length b.2.s.N) 6) .gone .gone (.mapz<|NM b.2.s.N 0) (Q9 5 A) (Q51<|CR b.2.s.C) (Q50<|TR b.2.s.T)<|Q45<|NR b.2.s.N) r c:=zh
def v183 (a h m i j o d b g f e k p N z r c):let A:=Q84 1 d 2 b g f 3 e 4 k p N z;let B:=Q233 (Q69 5 d 6 b g f 7 e 4) z k p (Q45 N);let C:=Q54 1 B r c;let D:=((b:Int));let E:=wrap .i64 (b-1);let F:=getD p (0+toNat E) [];let G:=FV.I (getD F 6 FV.N);let H:=b<=length p/\zw (b+1) 56;let I:=0<=a/\a<(d:Int);let J:=0+toNat a;let K:=J<length k/\length (getD k J [])=5;let L:=Q69 5 d 6 (b+1) g f 7 e 4;let M:=List.set k J [Q1 h,Q1 m,Q1 i,Q1 j,Q1 o];VE lv39 183 5 r c (Q119 0 6 0 0 a<|Q176 h m i j o) A=
  ∃x v,∃w u y,∃U,Q49 110 (Q95 0 6 0 0 a) A (Q93 (Q161 x v w u y)<|Q8 U) A/\br (!U) C (∃T,Q72 107 (Q196 0 6 0 0 h m i j o) A T A/\br (!T) C (∃O,Q128 179 [Q176 x v w u y] O/\∃S,Q128 179 [Q176 h m i j o] S/\br (!O==S) C (br (decide (D>=f)) (Q54 201 B r c)<|br (decide (D>0)) ((0<=E/\E<b)/\(0+toNat E<length p/\([Q1 G])=take 1 (drop 6 F)/\1=1)/\1<=1/\H/\I/\K/\Q54 0 (Q233 L z M (take b p++[[Q1 a,Q1 x,Q1 v,Q1 w,Q1 u,Q1 y,Q1<|zS [a,G]]])<|Q45 N) r c)<|1<=1/\H/\I/\K/\Q54 0 (Q233 L z M (take b p++[[Q1 a,Q1 x,Q1 v,Q1 w,Q1 u,Q1 y,Q1 a]])<|Q45 N) r c))):=zh
def v50 (n r a):let A:=FV.L 4 .N=true;let B:=wrap .i64 (n-0);let C:=0<=(0:Int);let D:=0<=(0:Int);VE lv6 50 0 r a (Q141 Q181 n) []=
  br (decide (n<0)) False (A/\br (decide (B>0)) (A/\(C/\D/\0<=((0:Nat):Int))/\(0<B/\zw (toNat B) 56)/\A/\(C/\D/\0<=((toNat B):Int))/\RT (Q220 0 4 0) (Q188 4 []) r a) (RT Q181 [] r a)):=zh
def v184 (f d b e i r a):let A:=Q222 f d b e i;VE lv6 184 0 r a A []=
  ∃g,Q70 202 A [] g []/\Q132 (decide (g>0)) r a:=zh
def v185 (d e f h g b c m j i r a):VE lv39 185 5 r a (Q58 0 6 0 0<|Q137 d) (Q84 1 e 2 f h g 3 b 4 c m j i)=
  ((∃o,ua ((false,[EK.str]),(false,[Q2 0])) [.str d] i=some (some [Q1 o])/\Q54 o (Q233 (Q69 5 e 6 f h g 7 b 4) i c m<|Q45 j) r a)\/ua ((false,[EK.str]),(false,[Q2 0])) [.str d] i=some none/\∃p,updZ ((false,[EK.str]),(false,[Q2 0])) [.str d] (false,[Q1 b]) i=some p/\1<=1/\(b<=length j/\zw (b+1) 16)/\Q54 b (Q233 (Q69 5 e 6 f h g 7 (b+1) 4) p c m<|Q45<|take b j++[[.str d]]) r a):=zg
def v186 (n)(b:RW)(e f h g d c p o m r a):let A:=Q84 1 e 2 f h g 3 d 4 c p o m;let B:=FV.L 1 (.sl true 1 b)=true;let C:=(length b:Int);let D:=Q102 0 1 A r a;let E:=getD b (toNat n) [];let F:=FV.I (getD E 0 FV.N);VE lv6 186 5 r a (Q119 0 6 0 0 n<|Q129<|.sl true 1 b) A=
  (B/\br (decide (n>=C)) D ((B/\0<=n/\n<C/\([Q1 F])=E)/\∃j,Q72 149 (Q95 0 6 0 0 F) A j A/\br (!j) D (Q102 F 0 A r a))):=zh
def v98_F187 (s:RW)(d e:Nat)(f g:Int)(b:Nat)(m o i:RW)(j:List MapZ)(r:TV)(a:LA):let A:=Q120 1 s (.fn (.func 187) [] [(false,[Q145])]);let B:=Q106 (Q9 1 [Q205 1]) 2 d 3 e f g 4 b m o i j;VE lv6 98 6 r a A B=
  (∃h:Int,Q70 141 A B h B/\Q47 (decide (h>=0)) B r a):=zh
def v188 (s r a):VE lv6 188 0 r a [Q60 1 s] []=
  RT (.c<|.fn (.func 203) [] [(false,[Q145])]) [Q9 1 [Q12 1 s]] r a:=zg
def lv189:LV:=[(1,[0]),(1000001,[2,3,4])]
def v189 (g d e f h b m o i j r a):VE lv189 189 6 r a [Q191 3] (Q106 (Q61 3 1 6 0 0 Q21 g) 2 d 3 e f h 4 b m o i j)=
  Q142 189 6 r a [Q101 0 3] [Q114 0 3 1 6 0 0 Q21 g,Q143 1 6 d 7 e f h 8 b,Q38 2,Q38 3,Q38 4,Q80 5 j,Q22 6 5 m,Q226 7 o,Q193 8 i] 9:=zg
def v189_1a (h b d f g e j m o i r a):VQ lv189 189 6 r a 1 ⟨[Q101 0 3],[Q114 0 3 1 6 0 0 Q21 h,Q143 1 6 b 7 d f g 8 e,Q38 2,Q38 3,Q38 4,Q80 5 j,Q22 6 5 m,Q226 7 o,Q193 8 i],9⟩=
  (FV.L 2 .N=true/\Q54 0 (Q211 (Q61 3 1 6 0 0 Q21 h) (Q98 6 b 7 d f g 8 e) .gone .gone .gone j (Q51 m) (Q50 o)<|Q45 i) r a):=zg
def uz:LV:=[(1,[0]),(1000001,[2,3,4,6])]
def v189_i1 (e h d f g i b o p j m u r a):VE uz 189 7 r a [Q191 3] (Q194 (Q139 3 1 6 0 0 6 2 0 e h) (Q98 2 d 3 f g i 4 b) o p j m u)=
  Q142 189 7 r a [Q101 0 3] [Q202 0 3 1 6 0 0 10 2 e h,Q143 1 7 d 8 f g i 9 b,Q38 2,Q38 3,Q38 4,Q80 5 m,Q38 6,Q22 7 5 o,Q226 8 p,Q193 9 j,Q22 10 2 u] 11:=zg
def kV (b:Nat)(d e f i j g p)(v o u h:RW)(r a):let A:=wrap .i64 (b-1);let B:=toNat A;let C:=getD h (0+B) [];let D:=FV.I (getD C 0 FV.N);let E:=FV.I (getD C 1 FV.N);let F:=Q98 7 e 8 f i j 9 g;VQ uz 189 7 r a 1 ⟨[Q101 0 3],[Q202 0 3 1 6 0 0 10 2 b d,Q143 1 7 e 8 f i j 9 g,Q38 2,Q38 3,Q38 4,Q80 5 p,Q38 6,Q22 7 5 v,Q226 8 o,Q193 9 u,Q22 10 2 h],11⟩=
  br (decide ((b)>(0:Int))) ((0<=A/\A<b)/\(0+B<length h/\([Q1 D,Q1 E])=take 2 (drop 0 C)/\2=2)/\(0<=(0:Int)/\0<=A/\A<=b)/\br (decide (d<=0)) (Q54 80 (Q118 (Q139 3 1 6 0 0 10 2 0 B d) F .gone .gone (.mapz p) .gone (Q51 v) (Q50 o) (Q45 u)<|Q170 h) r a) (∃m:Int×Wk,let G:=wSb m.2 [];Q70 204 (Q158 0 3 0 0<|Q77 D<|Q2 E) (Q194 (Q139 3 1 6 0 0 6 2 0 B<|wrap .i64<|d-1) (Q98 2 e 3 f i j 4 g) v o u p h) m.1 G/\br (m.1 !=0) (Q54 m.1 G r a) (Q142 189 7 r a [Q101 0 3] (numO 0 G) 11))) (Q54 0 (Q118 (Q139 3 1 6 0 0 10 2 0 b d) F .gone .gone (.mapz p) .gone (Q51 v) (Q50 o) (Q45 u)<|Q170 h) r a):=zh
def lv163:LV:=[(1,[3,5,8,9,10])]
def v163 (l g b e d f r a):VE lv163 163 0 r a [Q60 6 l,Q186 (Q8 g) b e d f] []=
  (FV.L 6 (Q5 6 l)=true/\Q217 163 r a (Q123 3 5 (Q96 5) (Q40 8 6 l) 9 (length l) 10 0) [Q32 0 5<|Q221 g b e d f] 1):=zg
def rW (j m b h e f d g r a):let A:=Q40 8 6 j;let B:=Q221 h e f d g;let C:=getD j (toNat b) [];let D:=Q1 (FV.I<|getD C 0 FV.N);let E:=FV.asB (getD C 1 FV.N);let F:=FV.I (getD C 2 FV.N);let G:=FV.S (getD C 3 FV.N);let H:=FV.I (getD C 4 FV.N);let I:=FV.I (getD C 5 FV.N);let J:=wrap .i64 (b+1);VQ lv163 163 0 r a 1 ⟨Q123 3 5 (Q96 5) A 9 m 10 b,[Q32 0 5 B],1⟩=
  br (decide (b<m)) ((FV.L 6 (Q5 6 j)=true/\0<=b/\b<(length j)/\([D,.bool E,Q1 F,.str G,Q1 H,Q1 I])=C)/\∃o,Q128 161 [Q186 (Q8 E) F G H I,Q186 (Q8 h) e f d g] o/\br o (1<=1/\zw 1 8/\Q217 163 r a (Q123 3 5 (Q157 5 1 1 1) A 9 m 10 J) [Q32 0 5 B,Q193 1 [[D]]] 2) (Q217 163 r a (Q123 3 5 (Q96 5) A 9 m 10 J) [Q32 0 5 B] 1)) (RT Q181 [] r a):=zh
def nN (b o p e i g h f j m r a):let A:=Q157 5 1 1 b;let B:=Q40 8 6 o;let C:=Q221 i g h f j;let D:=getD o (toNat e) [];let E:=Q1 (FV.I<|getD D 0 FV.N);let F:=FV.asB (getD D 1 FV.N);let G:=FV.I (getD D 2 FV.N);let H:=FV.S (getD D 3 FV.N);let I:=FV.I (getD D 4 FV.N);let J:=FV.I (getD D 5 FV.N);let K:=wrap .i64 (e+1);VQ lv163 163 0 r a 1 ⟨Q123 3 5 A B 9 p 10 e,[Q32 0 5 C,Q193 1 m],2⟩=
  br (decide (e<p)) ((FV.L 6 (Q5 6 o)=true/\0<=e/\e<(length o)/\([E,.bool F,Q1 G,.str H,Q1 I,Q1 J])=D)/\∃u,Q128 161 [Q186 (Q8 F) G H I J,Q186 (Q8 i) g h f j] u/\br u (1<=1/\(b<=length m/\zw (b+1) 8)/\Q217 163 r a (Q123 3 5 (Q157 5 1 1<|b+1) B 9 p 10 K) [Q32 0 5 C,Q193 1<|take b m++[[E]]] 2) (Q217 163 r a (Q123 3 5 A B 9 p 10 K) [Q32 0 5 C,Q193 1 m] 2)) ((1=1/\0+b<=length m)/\RT (Q60 1<|take b<|drop 0 m) [] r a):=zh
def v129 (b f e d r a):let A:=Q159 b f e d;VE lv6 129 0 r a A []=
  ∃g,Q128 82 A g/\Q132 (!g) r a:=zh
def v130 (d g f e b r a):VE lv6 130 1 r a [Q121 d g f e,Q191 1] (Q131 b)=
  ∃h,Q128 83 (Q222 d g f e b) h/\Q47 (!h) (Q131 b) r a:=zg
def sS (s:RW)(r:TV)(a:LA):let A:=Q120 4 s (.fn (.func 190) [] []);VE lv6 103 0 r a A []=
  (∃b:Int,Q70 144 A [] b []/\Q132 (decide (b>=0)) r a):=zh
def lv192:LV:=[(1,[2,3,17,18,19])]
def v192 (f b e r a):let A:=FV.L 4 (Q225 b)=true;let B:=(length b:Int);let C:=getD b 0 [];let D:=drop 1 (take (toNat B) b);VE lv192 192 0 r a (Q185 [Q2 f,Q124 b,Q8 e]) []=
  (A/\br (B==0) (RT (.agg<|Q62 0 [116,114,117,101] 0) [] r a) ((A/\0<=(0:Int)/\0<B/\(rE C)=C)/\A/\(0<=(1:Int)/\1<=B/\B<=B)/\FV.L 4 (Q225 D)=true/\Q217 192 r a (Q123 2 4 (Q178 3 1) (Q153 17 D) 18 ((length D)) 19 0) [Q122 0 4 0 [] 0,Q32 1 4<|cE C] 2)):=zh
def Ez (h:RW)(o b m i j d f e g r a):let A:=getD h (toNat b) [];VQ lv192 192 0 r a 1 ⟨Q123 2 4 (Q178 3 1) (Q153 17 h) 18 o 19 b,[Q122 0 4 m i j,Q116 1 4 d f e 4 g],2⟩=
  br (decide (b<o)) ((FV.L 4 (Q225 h)=true/\0<=b/\b<(length h)/\(rE A)=A)/\(4=4/\2<=2)/\∃u,Q209 12 [.agg<|Q62 0 [44] 0,Q60 4 [[Q1 d,.str f,Q1 e,Q225 g],rE A]] (aT u)/\Q217 192 r a (Q123 2 4 (Q178 3 1) (Q153 17 h) 18 o 19<|wrap .i64<|b+1) [Q122 0 4 m i j,Q32 1 4<|cT u] 2) (RT (Q121 d f e g) [] r a):=zh
def v175 (d m f e o h g i j b c r a):VE lv31 175 2 r a [.agg<|Q192 (Q2 d) (Q2 m) f (Q2 e) (Q124 o) (Q2 h) (Q10 g) (Q2 i)<|Q124 j,Q191 1] (Q108 (Q201 1 1 9 b) 9 c)=
  (1<=1/\(b<=length c/\zw (b+1) 120)/\Q35 [] (Q88 (Q201 1 2 9<|b+1) 9<|take b c++[[Q1 d,Q1 m,.str f,Q1 e,Q225 o,Q1 h,.str g,Q1 i,Q225 j]]) r a):=zg
def lv193:LV:=[(1,[2,3,13,14,15])]
def v193 (e b d r a):VE lv193 193 0 r a (Q185 [Q2 e,Q124 b,Q8 d]) []=
  (FV.L 4 (Q225 b)=true/\Q217 193 r a (Q123 2 3 (Q42 3 1 3) (Q153 13 b) 14 (length b) 15 0) [Q32 0 3 [Q2 0,Q21,Q89],Q32 1 3 [Q2<|wrap .i64<|e+1,Q21,Q8 d]] 2):=zg
def v193_1a (f:RW)(i b h g d e r a):let A:=getD f (toNat b) [];VQ lv193 193 0 r a 1 ⟨Q123 2 3 (Q42 3 1 3) (Q153 13 f) 14 i 15 b,[Q32 0 3 [Q2 h,Q21,Q8 g],Q32 1 3 [Q2 d,Q21,Q8 e]],2⟩=
  br (decide (b<i)) ((FV.L 4 (Q225 f)=true/\0<=b/\b<(length f)/\(rE A)=A)/\∃m,Q209 128 (Q154 (aE A) (Q15 0) 1) (aT m)/\1<=1/\zw 1 56/\Q217 193 r a (Q123 2 3 (Q42 3 1 3) (Q153 13 f) 14 i 15<|wrap .i64<|b+1) [Q32 0 3 [Q2 h,Q21,Q8 g],Q32 1 3 [Q2 d,Q199 2 4 1,Q8 e],Q22 2 4 [FT4 m]] 3) (RT (.agg [Q2 d,Q21,Q8 e]) [] r a):=zh
def E1 (h:RW)(m e j i f b g o r a):let A:=getD h (toNat e) [];VQ lv193 193 0 r a 1 ⟨Q123 2 3 (Q42 3 1 3) (Q153 13 h) 14 m 15 e,[Q32 0 3 [Q2 j,Q21,Q8 i],Q32 1 3 [Q2 f,Q199 2 4 b,Q8 g],Q22 2 4 o],3⟩=
  br (decide (e<m)) ((FV.L 4 (Q225 h)=true/\0<=e/\e<(length h)/\(rE A)=A)/\∃p,Q209 128 (Q154 (aE A) (Q15 0) 1) (aT p)/\1<=1/\(b<=length o/\zw (b+1) 56)/\Q217 193 r a (Q123 2 3 (Q42 3 1 3) (Q153 13 h) 14 m 15<|wrap .i64<|e+1) [Q32 0 3 [Q2 j,Q21,Q8 i],Q32 1 3 [Q2 f,Q199 2 4<|b+1,Q8 g],Q22 2 4<|take b o++[FT4 p]] 3) (((4=4/\0+b<=length o)/\True)/\RT (.agg [Q2 f,Q124<|take b<|drop 0 o,Q8 g]) [] r a):=zh
def Kx (c:Nat)(d:RW)(r:TV)(a:LA):let A:=Q115 (Q220 0 4 c) (.fn (.func 190) [] []);let B:=Q188 4 d;VE lv6 103 1 r a A B=
  (∃b:Int,Q70 144 A B b B/\Q47 (decide (b>=0)) B r a):=zh
def v194_i1 (c:Nat)(b:RW)(r:TV)(a:LA):VE lv155 194 1 r a [Q220 0 4 c] (Q188 4 b)=
  (Q142 194 1 r a (Q218 (Q157 0 0 4 c) (Q14 2 0) 3<|wrap .i64<|(c:Int)-(1:Int)) [Q22 0 4 b] 1):=zg
def Wn (b e f)(d:RW)(r a):let A:=Q157 0 0 4 b;let B:=0<=f/\f<(b:Int);let C:=0+toNat f;let D:=length d;let E:=rE (getD d C []);let F:=0<=e/\e<(b:Int);let G:=0+toNat e;let H:=getD d G [];let I:=List.set d G E;VQ lv155 194 1 r a 1 ⟨Q218 A (Q14 2 e) 3 f,[Q22 0 4 d],1⟩=
  br (decide (e<f)) (B/\(C<D/\E=take 4 (drop 0<|getD d C [])/\4=4)/\F/\(G<D/\(rE H)=take 4 (drop 0 H)/\4=4)/\F/\(G<D/\length H=4)/\B/\(C<length I/\length (getD I C [])=4)/\Q142 194 1 r a (Q218 A (Q14 2<|wrap .i64<|e+1) 3<|wrap .i64<|f-1) [Q22 0 4<|List.set I C<|rE H] 1) (Q35 [] (Q188 4 d) r a):=zh
def v172 (b h d g k e f r)(a:LA):let A:=Q173 e (Q130 f);let B:=RT (Q121 b h d g) A r a;VE lv6 172 2 r a [Q121 b h d g,Q15 k,Q191 1,Q190 1 1] A=
  br (b==3) (br (decide (d>=wrap .i64 (k+e))) (∃i,Q209 170 (Q222 b h d g f) (aT i)/\RT (aT i) A r a) B) B:=zh
def v169 (d m b j k f g e h i r)(a:LA):let A:=Q173 f (Q9 4<|Q33 g e h 4 i);let B:=RT (Q121 d m b j) A r a;let C:=wrap .i64 (k+f);VE lv6 169 2 r a [Q121 d m b j,Q15 k,Q191 1,Q190 1 4] A=
  br (d !=3) B (br (decide (b<C)) B<|br (b==C) (∃o,Q209 128 (Q154 (Q121 g e h i) (Q15 0) k) (aT o)/\RT (aT o) A r a) (∃p,Q209 170 (Q222 d m b j (-1)) (aT p)/\RT (aT p) A r a)):=zh
def v137 (c r a):let A:=Q132 (c==95) r a;VE lv6 137 0 r a [Q179 .u8 c] []=
  br (decide (65<=c)) (br (decide (c<=90)) (Q152 r a) A) A:=zh
def v138 (c r a):VE lv6 138 0 r a [Q179 .u8 c] []=
  br (decide (48<=c)) (Q132 (decide (c<=57)) r a) (Q144 r a):=zg
def v99 (n r a):VE lv6 99 0 r a [Q15 n] []=
  br (decide (n<0)) (Q152 r a) (Q132 (decide (n>4096)) r a):=zg
def lv177:LV:=[(3,[0,1,5,6,7,8,9,10])]
def v177 (s b:LU)(r a):let A:=(length b:Int);let B:=A;let C:=Q54 0 [] r a;VE lv177 177 0 r a (Q115 (Q137 s)<|Q10 b) []=
  br (B==0) C (br (b==s) C<|br (B==1) ((0<=(0:Int)/\0<A)/\∃e,Q70 176 (Q115 (Q137 s)<|Q0<|.int .u8<|(UInt8.toNat<|getD b 0 0)) [] e []/\Q54 e [] r a)<|br (decide (B>=(length s))) (Q54 (-1) [] r a) False):=zh
def mn (s:RW)(b:Int)(r:TV)(a:LA):let A:=Q120 4 s (.fn (.func 142) [] [(false,[Q145])]);let B:=Q131 b;VE lv6 103 1 r a A B=
  (∃d:Int,Q70 144 A B d B/\Q47 (decide (d>=0)) B r a):=zh
def lv178:LV:=[(1,[1,2,15,16,17])]
def ru (e d r a):let A:=FV.L 4 (Q225 e)=true;let B:=(length e:Int);VE lv178 178 0 r a [Q60 4 e,Q60 4 d,.c<|.fn (.func 143) [] []] []=
  (A/\FV.L 4 (Q225 d)=true/\br (B !=(length d)) (Q144 r a) (A/\Q217 178 r a (Q113 (Q153 1 d) (Q4 2<|.fn (.func 143) [] []) (Q153 15 e) 16 B 17 0) [] 0)):=zh
def ZE (g d:RW)(f b r a):let A:=Q4 2 (.fn (.func 143) [] []);let B:=getD d (toNat b) [];let C:=getD g (toNat b) [];VQ lv178 178 0 r a 1 ⟨Q113 (Q153 1 g) A (Q153 15 d) 16 f 17 b,[],0⟩=
  br (decide (b<f)) ((FV.L 4 (Q225 d)=true/\0<=b/\b<(length d)/\(rE B)=B)/\(FV.L 4 (Q225 g)=true/\0<=b/\b<(length g)/\(rE C)=C)/\∃h,Q128 143 [aE B,aE C] h/\br (!h) (Q144 r a) (Q217 178 r a (Q113 (Q153 1 g) A (Q153 15 d) 16 f 17<|wrap .i64<|b+1) [] 0)) (Q152 r a):=zh
def v65_F148 (s:RW)(d:LU)(h g e b:Int)(f:RW)(r:TV)(a:LA):VE lv65 65 1 r a (Q120 6 s<|.fn (.func 148) [] [(false,[(Q134 0 6)])]) [Q112 6 d h g e b 8 f]=
  ((FV.L 6 (Q5 6 s)=true)/\Q142 65 1 r a (Q149 (Q40 0 6 s) 1 (.fn (.func 148) [] [(false,[(Q134 0 6)])]) 7 (length s:Int) 8 0) [(0,Q112 6 d h g e b 8 f)] 1):=zg
def Yx (c:RW)(m i h d e b f g r a):let A:=getD c (toNat i) [];let B:=FV.S (getD A 0 FV.N);let C:=FV.I (getD A 1 FV.N);let D:=FV.I (getD A 2 FV.N);let E:=FV.I (getD A 3 FV.N);let F:=FV.I (getD A 4 FV.N);let G:=getD A 5 FV.N;VQ lv65 65 1 r a 1 ⟨Q149 (Q40 0 6 c) 1 (.fn (.func 148) [] [(false,[Q134 0 6])]) 7 m 8 i,[(0,Q112 6 h d e b f 8 g)],1⟩=
  br (decide (i<m)) ((FV.L 6 (Q5 6 c)=true/\0<=i/\i<(length c)/\([.str B,Q1 C,Q1 D,Q1 E,Q1 F,G])=A)/\∃o,Q72 148 [.agg<|Q174 B C D E F<|Q0 G,Q191 6] [Q112 6 h d e b f 8 g] o [Q112 6 h d e b f 8 g]/\br o (Q54 i [Q112 6 h d e b f 8 g] r a) (Q142 65 1 r a (Q149 (Q40 0 6 c) 1 (.fn (.func 148) [] [(false,[Q134 0 6])]) 7 m 8<|wrap .i64<|i+1) [(0,Q112 6 h d e b f 8 g)] 1)) (Q54 (-1) [Q112 6 h d e b f 8 g] r a):=zh
def lv200:LV:=[(1,[0,1,2,6])]
def v200 (m j h g d e f i b u v o p r a):VE lv200 200 6 r a (Q147 0 3 0 0 m j) (Q136 3 1 6 0 0 h g 2 d 3 e f i 4 b u v o p)=
  Q142 200 6 r a [Q101 0 3,Q14 1 m,Q14 2 j,Q42 6 6 5] [Q114 0 3 1 6 0 0 (Q2 h) g,Q143 1 2 d 3 e f i 4 b,Q22 2 5 u,Q226 3 v,Q193 4 o,Q80 5 p,Q32 6 5<|Q161 0 0 0 0 0] 7:=zg
def v200_1a (M J h i d e f g b o p j m w x v y u r a):let A:=Q161 w x v y u;let B:=Q84 1 d 2 e f g 3 b 4 o p j m;let C:=Q136 3 1 6 0 0 h i 2 d 3 e f g 4 b o p j m;let D:=Q161 0 0 0 0 0;let F:=∃K:Int×Int×Int,let E:=Q136 3 1 6 0 0 K.2.1 K.2.2 2 d 3 e f g 4 b o p j m;Q70 180 (Q95 0 3 0 0 1) C K.1 E/\Q140 D Q89 E r a;VQ lv200 200 6 r a 1 ⟨[Q101 0 3,Q14 1 M,Q14 2 J,Q42 6 6 5],[Q114 0 3 1 6 0 0 (Q2 h) i,Q143 1 2 d 3 e f g 4 b,Q22 2 5 o,Q226 3 p,Q193 4 j,Q80 5 m,Q32 6 5 A],7⟩=
  ∃z L,∃S O T,let G:=Q161 z L S O T;∃N,Q49 110 (Q95 0 6 0 0 M) B (Q93 G<|Q8 N) B/\br (!N) F (br (decide (z<9)) F<|br (z==9) (Q140 D Q89 C r a)<|br (J==0) (Q140 G Q151 C r a)<|br (decide (h<=0)) (∃I:Int×Int×Int,let H:=Q136 3 1 6 0 0 I.2.1 I.2.2 2 d 3 e f g 4 b o p j m;Q70 180 (Q95 0 3 0 0 80) C I.1 H/\Q140 D Q89 H r a)<|Q142 200 6 r a [Q101 0 3,Q14 1 L,Q14 2<|wrap .i64<|J-1,Q42 6 6 5] [Q114 0 3 1 6 0 0 (Q2<|wrap .i64<|h-1) i,Q143 1 2 d 3 e f g 4 b,Q22 2 5 o,Q226 3 p,Q193 4 j,Q80 5 m,Q32 6 5 A] 7):=zh
def v201 (a o h f d e g i b v w p u r c):let A:=Q136 3 1 6 0 0 h f 2 d 3 e g i 4 b v w p u;VE lv153 201 6 r c (Q147 0 3 0 0 a o) A=
  br (o==0) (Q54 a (Q211 (Q107 3 1 6 0 0 h f) (Q98 6 d 7 e g i 8 b) .gone .gone .gone u (Q51 v) (Q50 w)<|Q45 p) r c) (∃j:Int×Rd,Q70 156 (Q196 0 3 0 0 9 0 0 0 0) A j.1 (rSb j.2 [])/\∃m:Int×Rd,Q70 156 (Q196 0 3 0 0 8 a j.1 0 o) (rOb j.2 []) m.1 (rSb m.2 [])/\Q54 m.1 (rSb m.2 []) r c):=zh
def v202 (f d b e i r a):let A:=Q222 f d b e i;VE lv6 202 0 r a A []=
  ∃g,Q128 82 (Q159 f d b e) g/\br (!g) (Q54 0 [] r a) (∃h,Q70 209 A [] h []/\Q54 h [] r a):=zh
def AW (s:RW)(d e:Nat)(f g:Int)(b:Nat)(m o i:RW)(j:List MapZ)(r:TV)(a:LA):VE lv65 141 6 r a (Q120 1 s<|.fn (.func 187) [] [(false,[Q145])]) (Q106 (Q9 1 [Q205 1]) 2 d 3 e f g 4 b m o i j)=
  ((FV.L 1 (Q5 1 s)=true)/\Q142 141 6 r a (Q149 (Q40 0 1 s) 1 (.fn (.func 187) [] [(false,[Q145])]) 7 (length s:Int) 8 0) [Q184 0<|Q205 1,Q143 1 2 d 3 e f g 4 b,Q22 2 5 m,Q226 3 o,Q193 4 i,Q80 5 j] 6):=zg
def Zu (c:RW)(u h b d f g e p j m o r a):let A:=getD c (toNat h) [];let B:=FV.I (getD A 0 FV.N);let C:=Q106 (Q9 1 [Q205 1]) 2 b 3 d f g 4 e p j m o;VQ lv65 141 6 r a 1 ⟨Q149 (Q40 0 1 c) 1 (.fn (.func 187) [] [(false,[Q145])]) 7 u 8 h,[Q184 0<|Q205 1,Q143 1 2 b 3 d f g 4 e,Q22 2 5 p,Q226 3 j,Q193 4 m,Q80 5 o],6⟩=
  br (decide (h<u)) ((FV.L 1 (Q5 1 c)=true/\0<=h/\h<(length c)/\([Q1 B])=A)/\∃v,Q72 187 [Q15 B,Q191 1] C v C/\br v (Q54 h C r a) (Q142 141 6 r a (Q149 (Q40 0 1 c) 1 (.fn (.func 187) [] [(false,[Q145])]) 7 u 8<|wrap .i64<|h+1) [Q184 0<|Q205 1,Q143 1 2 b 3 d f g 4 e,Q22 2 5 p,Q226 3 j,Q193 4 m,Q80 5 o] 6)) (Q54 (-1) C r a):=zh
def lv204:LV:=[(3,[2,7,90]),(1000001,[2,3,4,6])]
abbrev w204_0 (a b:Int×List Int×Int×Int×Int×Int×Int×Int×Wk)(c d:Int)(r:TV)(Hs':LA):=∃z3:Int×Wk,Q70 211 [Q191 3,.agg<|Q167 a.1 1 (IR a.2.1) a.2.2.1 a.2.2.2.1 a.2.2.2.2.1 a.2.2.2.2.2.1 a.2.2.2.2.2.2.1,.agg<|Q167 b.1 1 (IR b.2.1) b.2.2.1 b.2.2.2.1 b.2.2.2.2.1 b.2.2.2.2.2.1 b.2.2.2.2.2.2.1,.agg<|Q77 c<|Q2 d] (wOb b.2.2.2.2.2.2.2.2 []) z3.1 (wSb z3.2 [])/\Q54 z3.1 (wSb z3.2 []) r Hs'
abbrev w204_1 (a:Int×List Int×Int×Int×Int×Int×Int×Int×Wk)(b:Int)(c:Int×List Int×Int×Int×Int×Int×Int×Int×Wk)(r:TV)(Hs':LA)(d:Int):=∃b8,Q128 212 (Q185<|Q167 a.1 1 (IR a.2.1) a.2.2.1 a.2.2.2.1 a.2.2.2.2.1 a.2.2.2.2.2.1 a.2.2.2.2.2.2.1) b8/\br b8 (∃z9:Int×Wk,Q70 214 (Q75 0 3 0 0 (.agg<|Q167 a.1 1 (IR a.2.1) a.2.2.1 a.2.2.2.1 a.2.2.2.2.1 a.2.2.2.2.2.1 a.2.2.2.2.2.2.1)<|Q15 b) (wOb c.2.2.2.2.2.2.2.2 []) z9.1 (wSb z9.2 [])/\Q54 z9.1 (wSb z9.2 []) r Hs') (∃b10,Q128 212 (Q185<|Q167 c.1 1 (IR c.2.1) c.2.2.1 c.2.2.2.1 c.2.2.2.2.1 c.2.2.2.2.2.1 c.2.2.2.2.2.2.1) b10/\br b10 (∃z11:Int×Wk,Q70 214 (Q75 0 3 0 0 (.agg<|Q167 c.1 1 (IR c.2.1) c.2.2.1 c.2.2.2.1 c.2.2.2.2.1 c.2.2.2.2.2.1 c.2.2.2.2.2.2.1)<|Q15 d) (wOb c.2.2.2.2.2.2.2.2 []) z11.1 (wSb z11.2 [])/\Q54 z11.1 (wSb z11.2 []) r Hs') (∃b12,Q128 215 [.agg<|Q167 a.1 1 (IR a.2.1) a.2.2.1 a.2.2.2.1 a.2.2.2.2.1 a.2.2.2.2.2.1 a.2.2.2.2.2.2.1,.agg<|Q167 c.1 1 (IR c.2.1) c.2.2.1 c.2.2.2.1 c.2.2.2.2.1 c.2.2.2.2.2.1 c.2.2.2.2.2.2.1] b12/\br b12 (Q54 170 (wSb c.2.2.2.2.2.2.2.2 []) r Hs') (∃z13,Q208 188 [Q60 1<|IR a.2.1] (.c<|.fn (.func 203) [] [(false,[Q145])]) [Q9 1 [Q12 1 z13]]/\Q53 204 7 r Hs' 3 [Q42 2 11 1,Q42 7 12 7,Q4 90<|.fn (.func 203) [] [(false,[Q135 13])]] (numO 0<|wSb c.2.2.2.2.2.2.2.2 [Q216 1 0 3,Q9 7<|Q167 c.1 1 (IR c.2.1) c.2.2.1 c.2.2.2.1 c.2.2.2.2.1 c.2.2.2.2.2.1 c.2.2.2.2.2.2.1,Q9 1 [Q12 1 z13]]) 14)))
def v204 (e f g m j i o p h y H z x I r a):let A:=Q194 (Q139 3 1 6 0 0 6 2 0 g m) (Q98 2 j 3 i o p 4 h) y H z x I;VE lv204 204 7 r a (Q158 0 3 0 0<|Q77 e<|Q2 f) A=
  ∃d,let B:=Q167 d.1 1 (IR d.2.1) d.2.2.1 d.2.2.2.1 d.2.2.2.2.1 d.2.2.2.2.2.1 d.2.2.2.2.2.2.1;let C:=wSb d.2.2.2.2.2.2.2.2 [];Q79 210 (Q95 0 3 0 0 e) A (Q52 B) d.2.2.2.2.2.2.2.1 C/\br (d.2.2.2.2.2.2.2.1 !=0) (Q54 d.2.2.2.2.2.2.2.1 C r a) (∃b,let D:=Q167 b.1 1 (IR b.2.1) b.2.2.1 b.2.2.2.1 b.2.2.2.2.1 b.2.2.2.2.2.1 b.2.2.2.2.2.2.1;let E:=wSb b.2.2.2.2.2.2.2.2 [];let F:=w204_0 d b e f r a;let G:=w204_1 d f b r a e;Q79 210 (Q95 0 3 0 0 f) (wOb d.2.2.2.2.2.2.2.2 []) (Q52 D) b.2.2.2.2.2.2.2.1 E/\br (b.2.2.2.2.2.2.2.1 !=0) (Q54 b.2.2.2.2.2.2.2.1 E r a) (br (d.2.2.1==6) F<|br (b.2.2.1==6) F (∃v,Q128 212 (Q185 B) v/\br v (∃w,Q128 212 (Q185 D) w/\br w (br (d.1==b.1) (∃u:Int×Wk,Q70 213 (Q75 0 3 0 0 (.agg B)<|.agg D) (wOb b.2.2.2.2.2.2.2.2 []) u.1 (wSb u.2 [])/\Q54 u.1 (wSb u.2 []) r a) G) G) G))):=zh
def v204_3an (i w o p u v j A y z C x b g d f r e h m K):m5 14 [7,8,9,10] [2,7,90] K ⟨[Q42 2 11 1,Q42 7 12 7,Q4 90<|.fn (.func 203) [] [(false,[Q135 13])]],[Q202 0 3 1 6 0 0 10 2 i w,Q143 1 7 o 8 p u v 9 j,Q38 2,Q38 3,Q38 4,Q80 5 A,Q38 6,Q22 7 5 y,Q226 8 z,Q193 9 C,Q22 10 2 x,Q184 11<|Q204 0 3,Q32 12 7<|Q167 b 1 g d f r e h,Q184 13<|Q12 1 m],14⟩=
  K ⟨[Q42 2 11 1,Q42 7 12 7,Q4 90<|.fn (.func 203) [] [(false,[Q135 13])]],[Q202 0 3 1 6 0 0 17 2 i w,Q143 1 14 o 15 p u v 16 j,Q38 2,Q38 3,Q38 4,Q80 5 A,Q38 6,Q38 7,Q38 8,Q38 9,Q38 10,Q184 11<|Q204 0 3,Q32 12 7<|Q167 b 1 g d f r e h,Q184 13<|Q12 1 m,Q22 14 5 y,Q226 15 z,Q193 16 C,Q22 17 2 x],18⟩:=zg
def As (d y o p w x j)(E:List MapZ)(e b f h r g i m C D A z k v R):vcR EF sh 204 14 [7,8,9,10] 3 [(2,Q190 11 1),(7,Q190 12 7),(90,.c<|.fn (.func 203) [] [(false,[Q135 13])])] k (Q15 v) [(0,Q139 3 1 6 0 0 17 2 0 d y),(1,Q98 14 o 15 p w x 16 j),(2,.gone),(3,.gone),(4,.gone),(5,.mapz E),(6,.gone),(7,.gone),(8,.gone),(9,.gone),(10,.gone),(11,Q216 1 0 3),(12,Q9 7<|Q167 e 1 b f h r g i),(13,Q9 1 [Q12 1 m]),(14,Q51 C),(15,Q50 D),(16,Q45 A),(17,Q170 z)] 18 R=
  ((FV.L 1 (Q5 1 b)=true/\0<=k/\k<(length b)/\([Q1<|FV.I<|getD (getD b (toNat k) []) 0 FV.N])=getD b (toNat k) [])/\1<=1/\(d<=length z/\zw (d+1) 16)/\R [(0,Q139 3 1 6 0 0 17 2 0 (d+1) y),(1,Q98 14 o 15 p w x 16 j),(2,.gone),(3,.gone),(4,.gone),(5,.mapz E),(6,.gone),(7,.gone),(8,.gone),(9,.gone),(10,.gone),(11,Q216 1 0 3),(12,Q9 7<|Q167 e 1 b f h r g i),(13,Q9 1 [Q12 1 m]),(14,Q51 C),(15,Q50 D),(16,Q45 A),(17,Q170<|take d z++[[Q1 v,Q1<|FV.I<|getD (getD b (toNat k) []) 0 FV.N]])] 18):=zg
def ro (b i e f g h d D j u m p x o v w A C y z r)(a:LA):vcA EF sh lv204 204 7 (λr0 Hs0=>TV.Le r0 r/\Hs0=a) (RPt EF 204 7 r a) 3 ⟨[Q42 2 11 1,Q42 7 12 7,Q4 90<|.fn (.func 203) [] [(false,[Q135 13])]],[Q202 0 3 1 6 0 0 17 2 b i,Q143 1 14 e 15 f g h 16 d,Q38 2,Q38 3,Q38 4,Q80 5 D,Q38 6,Q38 7,Q38 8,Q38 9,Q38 10,Q184 11<|Q204 0 3,Q32 12 7<|Q167 j 1 u m p x o v,Q184 13<|Q12 1 w,Q22 14 5 A,Q226 15 C,Q193 16 y,Q22 17 2 z],18⟩=
  Q54 0 (Q118 (Q139 3 1 6 0 0 10 2 0 b i) (Q98 7 e 8 f g h 9 d) .gone .gone (.mapz D) .gone (Q51 A) (Q50 C) (Q45 y)<|Q170 z) r a:=zg
def mi (s:RW)(r:TV)(a:LA):VE lv65 144 0 r a (Q120 4 s<|.fn (.func 190) [] []) []=
  ((FV.L 4 (Q225 s)=true)/\Q217 144 r a (Q149 (Q153 0 s) 1 (.fn (.func 190) [] []) 7 (length s:Int) 8 0) [] 0):=zg
def gp (c:RW)(e b r a):let A:=getD c (toNat b) [];VQ lv65 144 0 r a 1 ⟨Q149 (Q153 0 c) 1 (.fn (.func 190) [] []) 7 e 8 b,[],0⟩=
  br (decide (b<e)) ((FV.L 4 (Q225 c)=true/\0<=b/\b<(length c)/\(rE A)=A)/\∃f,Q128 190 [aE A] f/\br f (Q54 b [] r a) (Q217 144 r a (Q149 (Q153 0 c) 1 (.fn (.func 190) [] []) 7 e 8<|wrap .i64<|b+1) [] 0)) (Q54 (-1) [] r a):=zh
def gk (c:Nat)(b:RW)(r:TV)(a:LA):VE lv65 144 1 r a (Q115 (Q220 0 4 c)<|.fn (.func 190) [] []) (Q188 4 b)=
  (Q142 144 1 r a (Q149 (Q157 0 0 4 c) 1 (.fn (.func 190) [] []) 7 (c:Int) 8 0) [Q22 0 4 b] 1):=zg
def kD (e f b)(d:RW)(r a):let A:=Q157 0 0 4 e;let B:=0+toNat b;let C:=getD d B [];VQ lv65 144 1 r a 1 ⟨Q149 A 1 (.fn (.func 190) [] []) 7 f 8 b,[Q22 0 4 d],1⟩=
  br (decide (b<f)) ((0<=b/\b<e)/\(B<length d/\(rE C)=take 4 (drop 0 C)/\4=4)/\∃g,Q128 190 [aE C] g/\br g (Q54 b (Q188 4 d) r a) (Q142 144 1 r a (Q149 A 1 (.fn (.func 190) [] []) 7 f 8<|wrap .i64<|b+1) [Q22 0 4 d] 1)) (Q54 (-1) (Q188 4 d) r a):=zh
def v170 (f d b e g r a):VE lv6 170 0 r a (Q222 f d b e g) []=
  RT (Q121 f d (wrap .i64<|b+g) e) [] r a:=zg
def AJ (s:RW)(b:Int)(r:TV)(a:LA):VE lv65 144 1 r a (Q120 4 s<|.fn (.func 142) [] [(false,[Q145])]) (Q131 b)=
  ((FV.L 4 (Q225 s)=true)/\Q142 144 1 r a (Q149 (Q153 0 s) 1 (.fn (.func 142) [] [(false,[Q145])]) 7 (length s:Int) 8 0) [Q183 0 b] 1):=zg
def Zt (c:RW)(f d b r a):let A:=getD c (toNat d) [];let B:=Q131 b;VQ lv65 144 1 r a 1 ⟨Q149 (Q153 0 c) 1 (.fn (.func 142) [] [(false,[Q145])]) 7 f 8 d,[Q183 0 b],1⟩=
  br (decide (d<f)) ((FV.L 4 (Q225 c)=true/\0<=d/\d<(length c)/\(rE A)=A)/\∃g,Q72 142 [aE A,Q191 1] B g B/\br g (Q54 d B r a) (Q142 144 1 r a (Q149 (Q153 0 c) 1 (.fn (.func 142) [] [(false,[Q145])]) 7 f 8<|wrap .i64<|d+1) [Q183 0 b] 1)) (Q54 (-1) B r a):=zh
def v148 (p m i u o j d h g e b f r a):let A:=Q174 p m i u o (Q12 8 j);VE lv6 148 1 r a [.agg A,Q191 6] [Q112 6 d h g e b 8 f]=
  br (decide (i>b)) (Q47 true [Q112 6 d h g e b 8 f] r a) (∃v,Q128 34 (Q185 A) v/\Q47 (!v) [Q112 6 d h g e b 8 f] r a):=zh
def lv209:LV:=[(3,[1,5,21,22,23])]
def v209 (d g e b i r a):let A:=FV.L 4 (Q225 b)=true;let B:=(length b:Int);let C:=A/\Q53 209 0 r a 3 (Q113 (Q14 1 i) (Q14 5 0) (Q153 21 b) 22 B 23 0) [] 0;VE lv209 209 0 r a (Q222 d g e b i) []=
  br (d==3) (br (e==i) (Q54 1 [] r a) C) (br (d==5) (A/\Q53 209 0 r a 3 (Q113 (Q14 1<|wrap .i64<|i+1) (Q14 5 0) (Q153 21 b) 22 B 23 0) [] 0) C):=zh
def r9 (g h)(d:RW)(e b r a):let A:=getD d (toNat b) [];VQ lv209 209 0 r a 3 ⟨Q113 (Q14 1 g) (Q14 5 h) (Q153 21 d) 22 e 23 b,[],0⟩=
  br (decide (b<e)) ((FV.L 4 (Q225 d)=true/\0<=b/\b<(length d)/\(rE A)=A)/\∃i,Q70 209 (Q141 (aE A) g) [] i []/\Q53 209 0 r a 3 (Q113 (Q14 1 g) (Q14 5<|wrap .i64<|h+i) (Q153 21 d) 22 e 23<|wrap .i64<|b+1) [] 0) (Q54 h [] r a):=zh
def v187 (x d e g f b m o h i r a):let A:=Q106 (Q9 1 [Q205 1]) 2 d 3 e g f 4 b m o h i;let B:=Q84 1 d 2 e g f 3 b 4 m o h i;VE lv6 187 6 r a [Q15 x,Q191 1] A=
  ∃j w,∃y v u,∃p,Q49 110 (Q95 0 6 0 0 x) B (Q93 (Q161 j w y v u)<|Q8 p) B/\br (!p) (Q47 true A r a) (Q47 (decide (j>=9)) A r a):=zh
def v210 (a d e h g i j f v H y u m r c):VE lv24 210 7 r c (Q95 0 3 0 0 a) (Q194 (Q139 3 1 6 0 0 6 2 0 d e) (Q98 2 h 3 g i j 4 f) v H y u m)=
  ∃b:Int×List Int×Int×Int×Hp,let A:=Q98 7 (length b.2.2.2.2.C) 8 (length b.2.2.2.2.T) b.2.2.2.2.M b.2.2.2.2.L 9 (length b.2.2.2.2.N);let B:=NM b.2.2.2.2.N 0;let D:=Q51 (CR b.2.2.2.2.C);let E:=Q50 (TR b.2.2.2.2.T);let F:=Q45 (NR b.2.2.2.2.N);let G:=hOb b.2.2.2.2 [];Q49 120 (Q147 0 6 0 0 a e) (Q84 1 h 2 g i j 3 f 4 v H y u) [Q52<|Q77 b.1<|Q12 1<|IR b.2.1,Q31 b.2.2.1,Q31 b.2.2.2.1] (hSb b.2.2.2.2 [])/\br (b.2.2.2.1 !=0) (Q213 [Q2 0,Q21,Q2 0,Q2 0,Q2 0,Q2 0,Q2 0] b.2.2.2.1 (Q118 (Q139 3 1 6 0 0 10 2 0 d e) A .gone .gone (.mapz B) .gone D E F<|Q170 m) r c) (∃p w,∃o x z,∃I,Q49 110 (Q95 0 6 0 0 b.1) G (Q93 (Q161 p w o x z)<|Q8 I) G/\Q213 (Q167 b.1 1 (IR b.2.1) p w o x z) 0 (Q118 (Q139 3 1 6 0 0 10 2 0 d b.2.2.1) A .gone .gone (.mapz B) .gone D E F<|Q170 m) r c):=zg
def v211 (v w x y G H K I z O S E J F o u e j i h m p g V X W U Y r a):let A:=Q167 v 1 w x y G H K;let B:=Q167 I 1 z O S E J F;let D:=Q194 (Q139 3 1 6 0 0 6 2 0 e j) (Q98 2 i 3 h m p 4 g) V X W U Y;VE lv24 211 7 r a [Q191 3,.agg A,.agg B,.agg<|Q77 o<|Q2 u] D=
  ∃d:Int×Int×Wk,Q150 216 (Q75 0 3 0 0 (.agg A)<|Q15 o) D d.1 d.2.1 (wSb d.2.2 [])/\br (d.2.1 !=0) (Q54 d.2.1 (wSb d.2.2 []) r a) (∃b:Int×Int×Wk,Q150 216 (Q75 0 3 0 0 (.agg B)<|Q15 u) (wOb d.2.2 []) b.1 b.2.1 (wSb b.2.2 [])/\br (b.2.1 !=0) (Q54 b.2.1 (wSb b.2.2 []) r a) (1<=1/\(b.2.2.n<=length b.2.2.R/\zw (b.2.2.n+1) 16)/\Q54 0 (Q118 (Q139 3 1 6 0 0 10 2 0 (b.2.2.n+1) b.2.2.f) (Q98 7 (length b.2.2.s.C) 8 (length b.2.2.s.T) b.2.2.s.M b.2.2.s.L 9<|length b.2.2.s.N) .gone .gone (.mapz<|NM b.2.2.s.N 0) .gone (Q51<|CR b.2.2.s.C) (Q50<|TR b.2.2.s.T) (Q45<|NR b.2.2.s.N)<|Q170<|take b.2.2.n b.2.2.R++[[Q1 d.1,Q1 b.1]]) r a)):=zh
def v212 (d e b i g h f r a):VE lv6 212 0 r a (Q185<|Q167 d 1 e b i g h f) []=
  Q132 (b==4) r a:=zg
def lv213:LV:=[(3,[0,4,7,9,10,48,49]),(1000001,[2,3,4,6])]
def v213 (x j y o I J M K p N w z L H d m h f u v e S U T O V r a):let A:=Q167 x 1 j y o I J M;let B:=Q194 (Q139 3 1 6 0 0 6 2 0 d m) (Q98 2 h 3 f u v 4 e) S U T O V;VE lv213 213 7 r a (Q75 0 3 0 0 (.agg A)<|.agg<|Q167 K 1 p N w z L H) B=
  ∃g:List Tm×Int×Wk,let C:=FTs g.1;let D:=FV.L 4 (Q225 C)=true;let E:=(length C:Int);Q79 217 (Q119 0 3 0 0 o<|Q60 1 j) B (Q91<|Q124 C) g.2.1 (wSb g.2.2 [])/\br (g.2.1 !=0) (Q54 g.2.1 (wSb g.2.2 []) r a) (∃i:List Tm×Int×Wk,let F:=FTs i.1;let G:=wSb i.2.2 [];Q79 217 (Q119 0 3 0 0 w<|Q60 1 p) (wOb g.2.2 []) (Q91<|Q124 F) i.2.1 G/\br (i.2.1 !=0) (Q54 i.2.1 G r a) (D/\FV.L 4 (Q225 F)=true/\br (E !=(length F)) (Q54 171 G r a) (D/\Q53 213 7 r a 3 [Q101 0 3,Q125 11 7,Q153 7 C,Q153 9 F,Q96 10,Q14 48 E,Q14 49 0] (numO 0<|wSb i.2.2 [Q9 7 A]) 12))):=zh
def nZ (I H:RW)(c g b j e f h i d M J K N o p y x m z w G r a):let A:=Q167 p 1 y x m z w G;let B:=FV.L 4 (Q225 I)=true;let C:=(length I:Int);let D:=getD I (toNat g) [];let E:=getD H (toNat g) [];let F:=wrap .i64 (g+1);VQ lv213 213 7 r a 3 ⟨[Q101 0 3,Q125 11 7,Q153 7 I,Q153 9 H,Q96 10,Q14 48 c,Q14 49 g],[Q202 0 3 1 6 0 0 10 2 b j,Q143 1 7 e 8 f h i 9 d,Q38 2,Q38 3,Q38 4,Q80 5 M,Q38 6,Q22 7 5 J,Q226 8 K,Q193 9 N,Q22 10 2 o,Q32 11 7 A],12⟩=
  br (decide (g<c)) ((B/\0<=g/\g<C/\(rE D)=D)/\(FV.L 4 (Q225 H)=true/\0<=g/\g<(length H)/\(rE E)=E)/\∃S,Q128 218 [aE D,aE E] S/\br S (B/\∃O,Q209 219 [Q15<|wrap .i64<|wrap .i64 (C-1)-g] (aT O)/\1<=1/\zw 1 56/\Q53 213 7 r a 3 [Q101 0 3,Q125 11 7,Q153 7 I,Q153 9 H,Q157 10 12 4 1,Q14 48 c,Q14 49 F] [Q202 0 3 1 6 0 0 10 2 b j,Q143 1 7 e 8 f h i 9 d,Q38 2,Q38 3,Q38 4,Q80 5 M,Q38 6,Q22 7 5 J,Q226 8 K,Q193 9 N,Q22 10 2 o,Q32 11 7 A,Q22 12 4 [FT4 O]] 13) (Q53 213 7 r a 3 [Q101 0 3,Q125 11 7,Q153 7 I,Q153 9 H,Q96 10,Q14 48 c,Q14 49 F] [Q202 0 3 1 6 0 0 10 2 b j,Q143 1 7 e 8 f h i 9 d,Q38 2,Q38 3,Q38 4,Q80 5 M,Q38 6,Q22 7 5 J,Q226 8 K,Q193 9 N,Q22 10 2 o,Q32 11 7 A] 12)) (FV.L 4 .N=true/\B/\br ((0)==C) (Q54 0 (Q118 (Q139 3 1 6 0 0 10 2 0 b j) (Q98 7 e 8 f h i 9 d) .gone .gone (.mapz M) .gone (Q51 J) (Q50 K) (Q45 N)<|Q170 o) r a) (B/\∃L:Tm×Int×Wk,Q79 220 [Q191 3,Q15 p,Q15 m,Q15 C,Q181] (Q194 (Q139 3 1 6 0 0 6 2 0 b j) (Q98 2 e 3 f h i 4 d) J K N M o) (Q52<|cT L.1) L.2.1 (wSb L.2.2 [])/\Q54 L.2.1 (wSb L.2.2 []) r a)):=zh
def nY (K J:RW)(b x a d o f g j m e O L M S v w G z u H y I p r c):let A:=Q167 w 1 G z u H y I;let B:=FV.L 4 (Q225 K)=true;let C:=(length K:Int);let D:=getD K (toNat a) [];let E:=getD J (toNat a) [];let F:=wrap .i64 (a+1);VQ lv213 213 7 r c 3 ⟨[Q101 0 3,Q125 11 7,Q153 7 K,Q153 9 J,Q157 10 12 4 b,Q14 48 x,Q14 49 a],[Q202 0 3 1 6 0 0 10 2 d o,Q143 1 7 f 8 g j m 9 e,Q38 2,Q38 3,Q38 4,Q80 5 O,Q38 6,Q22 7 5 L,Q226 8 M,Q193 9 S,Q22 10 2 v,Q32 11 7 A,Q22 12 4 p],13⟩=
  br (decide (a<x)) ((B/\0<=a/\a<C/\(rE D)=D)/\(FV.L 4 (Q225 J)=true/\0<=a/\a<(length J)/\(rE E)=E)/\∃U,Q128 218 [aE D,aE E] U/\br U (B/\∃T,Q209 219 [Q15<|wrap .i64<|wrap .i64 (C-1)-a] (aT T)/\1<=1/\(b<=length p/\zw (b+1) 56)/\Q53 213 7 r c 3 [Q101 0 3,Q125 11 7,Q153 7 K,Q153 9 J,Q157 10 12 4<|b+1,Q14 48 x,Q14 49 F] [Q202 0 3 1 6 0 0 10 2 d o,Q143 1 7 f 8 g j m 9 e,Q38 2,Q38 3,Q38 4,Q80 5 O,Q38 6,Q22 7 5 L,Q226 8 M,Q193 9 S,Q22 10 2 v,Q32 11 7 A,Q22 12 4<|take b p++[FT4 T]] 13) (Q53 213 7 r c 3 [Q101 0 3,Q125 11 7,Q153 7 K,Q153 9 J,Q157 10 12 4 b,Q14 48 x,Q14 49 F] [Q202 0 3 1 6 0 0 10 2 d o,Q143 1 7 f 8 g j m 9 e,Q38 2,Q38 3,Q38 4,Q80 5 O,Q38 6,Q22 7 5 L,Q226 8 M,Q193 9 S,Q22 10 2 v,Q32 11 7 A,Q22 12 4 p] 13)) (B/\br ((b)==C) (Q54 0 (Q118 (Q139 3 1 6 0 0 10 2 0 d o) (Q98 7 f 8 g j m 9 e) .gone .gone (.mapz O) .gone (Q51 L) (Q50 M) (Q45 S)<|Q170 v) r c) (B/\(4=4/\0+b<=length p)/\∃N:Tm×Int×Wk,Q79 220 [Q191 3,Q15 w,Q15 u,Q15 C,Q60 4<|take b<|drop 0 p] (Q194 (Q139 3 1 6 0 0 6 2 0 d o) (Q98 2 f 3 g j m 4 e) L M S O v) (Q52<|cT N.1) N.2.1 (wSb N.2.2 [])/\Q54 N.2.1 (wSb N.2.2 []) r c)):=zh
def v214 (d m k f y z C a e o j h p u g F H G E I r c):let A:=Q194 (Q139 3 1 6 0 0 6 2 0 e o) (Q98 2 j 3 h p u 4 g) F H G E I;VE lv24 214 7 r c (Q75 0 3 0 0 (.agg<|Q167 d 1 m k f y z C)<|Q15 a) A=
  ∃i:List Tm×Int×Wk,let B:=FTs i.1;Q79 217 (Q119 0 3 0 0 f<|Q60 1 m) A (Q91<|Q124 B) i.2.1 (wSb i.2.2 [])/\br (i.2.1 !=0) (Q54 i.2.1 (wSb i.2.2 []) r c) (∃b:Tm×Int×Wk,Q79 221 (Q154 (.agg<|Q206 0 3 d f B) (Q15 a) 0) (wOb i.2.2 []) (Q52<|cT b.1) b.2.1 (wSb b.2.2 [])/\br (b.2.1 !=0) (Q54 b.2.1 (wSb b.2.2 []) r c) (FV.L 4 (Q225 B)=true/\∃D,Q209 111 [Q15<|length B,aT b.1] (aT D)/\∃v:Int×Wk,Q70 222 (Q119 0 3 0 0 d<|aT D) (wOb b.2.2 []) v.1 (wSb v.2 [])/\Q54 v.1 (wSb v.2 []) r c)):=zh
def v215 (j e h i v w u x d f g m p o r a):VE lv6 215 0 r a [.agg<|Q167 j 1 e h i v w u,.agg<|Q167 x 1 d f g m p o] []=
  br (h !=f) (Q152 r a) (br (i !=g) (Q152 r a)<|FV.L 1 (Q5 1 e)=true/\FV.L 1 (Q5 1 d)=true/\Q132 (((length e)) !=(length d:Int)) r a):=zg
def v190 (b f e d r a):VE lv6 190 0 r a (Q159 b f e d) []=
  ∃g,Q128 191 (Q222 b f e d 0) g/\Q132 (!g) r a:=zg
def v142 (d g f e b r a):VE lv6 142 1 r a [Q121 d g f e,Q191 1] (Q131 b)=
  ∃h,Q128 101 (Q222 d g f e b) h/\Q47 (!h) (Q131 b) r a:=zg
def v216 (w x p u z D G a i o g f j m e E H F y v r c):let A:=Q139 3 1 6 0 0 10 2 0 i o;VE lv24 216 7 r c (Q75 0 3 0 0 (.agg<|Q167 w 1 x p u z D G)<|Q15 a) (Q194 (Q139 3 1 6 0 0 6 2 0 i o) (Q98 2 g 3 f j m 4 e) E H F y v)=
  br (p==6) (Q102 u 0 (Q118 A (Q98 7 g 8 f j m 9 e) .gone .gone (.mapz y) .gone (Q51 E) (Q50 H) (Q45 F)<|Q170 v) r c) (∃d:Int×Int×Hp,Q150 223 (Q147 0 6 0 0 a 1) (Q84 1 g 2 f j m 3 e 4 E H F y) d.1 d.2.1 (hSb d.2.2 [])/\br (d.2.1 !=0) (Q102 0 d.2.1 (Q118 A (Q98 7 (length d.2.2.C) 8 (length d.2.2.T) d.2.2.M d.2.2.L 9<|length d.2.2.N) .gone .gone (.mapz<|NM d.2.2.N 0) .gone (Q51<|CR d.2.2.C) (Q50<|TR d.2.2.T) (Q45<|NR d.2.2.N)<|Q170 v) r c) (∃b:(Int×Int)×Hp,Q150 67 (Q196 0 6 0 0 3 0 0 0 0) (hOb d.2.2 []) b.1.1 b.1.2 (hSb b.2 [])/\br (b.1.2 !=0) (Q102 0 b.1.2 (Q118 A (Q98 7 (length b.2.C) 8 (length b.2.T) b.2.M b.2.L 9<|length b.2.N) .gone .gone (.mapz<|NM b.2.N 0) .gone (Q51<|CR b.2.C) (Q50<|TR b.2.T) (Q45<|NR b.2.N)<|Q170 v) r c) (∃h:(Int×Int)×Hp,Q150 67 (Q196 0 6 0 0 7 d.1 b.1.1 0 0) (hOb b.2 []) h.1.1 h.1.2 (hSb h.2 [])/\Q102 h.1.1 h.1.2 (Q118 A (Q98 7 (length h.2.C) 8 (length h.2.T) h.2.M h.2.L 9<|length h.2.N) .gone .gone (.mapz<|NM h.2.N 0) .gone (Q51<|CR h.2.C) (Q50<|TR h.2.T) (Q45<|NR h.2.N)<|Q170 v) r c))):=zh
def lv217:LV:=[(1,[0,1,8,16,17,18]),(1000001,[2,3,4,6])]
def v217 (b a d i f g h j e u v o p w r c):VE lv217 217 7 r c (Q119 0 3 0 0 b<|Q60 1 a) (Q194 (Q139 3 1 6 0 0 6 2 0 d i) (Q98 2 f 3 g h j 4 e) u v o p w)=
  (FV.L 1 (Q5 1 a)=true/\Q142 217 7 r c (Q223 0 3 (Q14 1 b) (Q96 8) (Q40 16 1 a) 17 (length a) 18 0) [Q202 0 3 1 6 0 0 10 2 d i,Q143 1 7 f 8 g h j 9 e,Q38 2,Q38 3,Q38 4,Q80 5 p,Q38 6,Q22 7 5 u,Q226 8 v,Q193 9 o,Q22 10 2 w] 11):=zg
def AI (H)(m:RW)(p g b j e f h i d z c y I u r a):let A:=getD m (toNat g) [];let B:=FV.I (getD A 0 FV.N);let C:=Q115 Q181 (.fn (.func 226) [] [(false,[Q134 0 4])]);let D:=Q223 0 3 (Q14 1 H) (Q157 8 11 4 1) (Q40 16 1 m) 17 p 18 (wrap .i64<|g+1);VQ lv217 217 7 r a 1 ⟨Q223 0 3 (Q14 1 H) (Q96 8) (Q40 16 1 m) 17 p 18 g,[Q202 0 3 1 6 0 0 10 2 b j,Q143 1 7 e 8 f h i 9 d,Q38 2,Q38 3,Q38 4,Q80 5 z,Q38 6,Q22 7 5 c,Q226 8 y,Q193 9 I,Q22 10 2 u],11⟩=
  br (decide (g<p)) ((FV.L 1 (Q5 1 m)=true/\0<=g/\g<(length m)/\([Q1 B])=A)/\∃v:Tm×Int×Wk,let E:=wSb v.2.2 [];let F:=Q169 Q21 171 E r a;Q79 224 (Q95 0 3 0 0 B) (Q194 (Q139 3 1 6 0 0 6 2 0 b j) (Q98 2 e 3 f h i 4 d) c y I z u) (Q52<|cT v.1) v.2.1 E/\br (v.2.1 !=0) (Q169 Q21 v.2.1 E r a) (∃o:Tm×Bool,let G:=∃J,Q72 103 C [Q9 4<|cT o.1] J [Q9 4<|cT o.1]/\br J F (1<=1/\zw 1 56/\Q142 217 7 r a D (numO 0<|wSb v.2.2<|Q188 4 [FT4 o.1]) 12);Q49 225 [aT v.1] [] (Q93 (cT o.1)<|Q8 o.2) []/\br (o.1.k==1) (br (!o.2) F<|br (decide (o.1.n<=H)) F G) (br (!o.2) F G))) (Q169 Q21 0 (Q118 (Q139 3 1 6 0 0 10 2 0 b j) (Q98 7 e 8 f h i 9 d) .gone .gone (.mapz z) .gone (Q51 c) (Q50 y) (Q45 I)<|Q170 u) r a):=zh
def rC (K b)(u:RW)(w a e p g h m o f J)(z I L x d:RW)(r c):let A:=getD u (toNat a) [];let B:=FV.I (getD A 0 FV.N);let C:=Q115 (Q220 0 4 b) (.fn (.func 226) [] [(false,[Q134 1 4])]);let D:=b<=length d/\zw (b+1) 56;let E:=Q223 0 3 (Q14 1 K) (Q157 8 11 4<|b+1) (Q40 16 1 u) 17 w 18 (wrap .i64<|a+1);VQ lv217 217 7 r c 1 ⟨Q223 0 3 (Q14 1 K) (Q157 8 11 4 b) (Q40 16 1 u) 17 w 18 a,[Q202 0 3 1 6 0 0 10 2 e p,Q143 1 7 g 8 h m o 9 f,Q38 2,Q38 3,Q38 4,Q80 5 J,Q38 6,Q22 7 5 z,Q226 8 I,Q193 9 L,Q22 10 2 x,Q22 11 4 d],12⟩=
  br (decide (a<w)) ((FV.L 1 (Q5 1 u)=true/\0<=a/\a<(length u)/\([Q1 B])=A)/\∃y:Tm×Int×Wk,let F:=wSb y.2.2 [];let G:=Q169 Q21 171 F r c;Q79 224 (Q95 0 3 0 0 B) (Q194 (Q139 3 1 6 0 0 6 2 0 e p) (Q98 2 g 3 h m o 4 f) z I L J x) (Q52<|cT y.1) y.2.1 F/\br (y.2.1 !=0) (Q169 Q21 y.2.1 F r c) (∃v:Tm×Bool,let H:=∃M,Q72 103 C [.arz 4 d,Q9 4<|cT v.1] M [.arz 4 d,Q9 4<|cT v.1]/\br M G (1<=1/\D/\Q142 217 7 r c E (numO 0<|wSb y.2.2<|Q188 4<|take b d++[FT4 v.1]) 12);Q49 225 [aT y.1] [] (Q93 (cT v.1)<|Q8 v.2) []/\br (v.1.k==1) (br (!v.2) G<|br (decide (v.1.n<=K)) G H) (br (!v.2) G H))) ((4=4/\0+b<=length d)/\Q169 (Q124<|take b<|drop 0 d) 0 (Q118 (Q139 3 1 6 0 0 10 2 0 e p) (Q98 7 g 8 h m o 9 f) .gone .gone (.mapz J) .gone (Q51 z) (Q50 I) (Q45 L)<|Q170 x) r c):=zh
def v218 (d g b j e i f h r a):VE lv6 218 0 r a [Q121 d g b j,Q121 e i f h] []=
  br (d==e) (Q132 (b==f) r a) (Q144 r a):=zg
def v219 (n r a):VE lv6 219 0 r a [Q15 n] []=
  RT (.agg<|Q62 3 [] n) [] r a:=zg
def v220 (x h j c d i g f m o e y G F w u r a):let A:=Q139 3 1 6 0 0 6 2 0 d i;VE lv24 220 7 r a [Q191 3,Q15 x,Q15 h,Q15 j,Q60 4 c] (Q194 A (Q98 2 g 3 f m o 4 e) y G F w u)=
  ∃b:Int×Int×Hp,let B:=length b.2.2.C;let D:=length b.2.2.T;let E:=length b.2.2.N;Q150 39 (Q95 0 6 0 0 h) (Q84 1 g 2 f m o 3 e 4 y G F w) b.1 b.2.1 (hSb b.2.2 [])/\br (b.2.1 !=0) (Q213 (Q62 0 [] 0) b.2.1 (Q118 (Q139 3 1 6 0 0 10 2 0 d i) (Q98 7 B 8 D b.2.2.M b.2.2.L 9 E) .gone .gone (.mapz<|NM b.2.2.N 0) .gone (Q51<|CR b.2.2.C) (Q50<|TR b.2.2.T) (Q45<|NR b.2.2.N)<|Q170 u) r a) (∃v,Q209 12 [.agg<|Q62 4 [] b.1,Q60 4 c] (aT v)/\∃z,Q209 111 [Q15 j,aT v] (aT z)/\∃p:Int×Wk,Q70 222 (Q119 0 3 0 0 x<|aT z) (Q194 A (Q98 2 B 3 D b.2.2.M b.2.2.L 4 E) (CR b.2.2.C) (TR b.2.2.T) (NR b.2.2.N) (NM b.2.2.N 0) u) p.1 (wSb p.2 [])/\Q213 (Q62 4 [] b.1) p.1 (wSb p.2 []) r a):=zh
def lv221:LV:=[(3,[2,3,6,12,81,82,83]),(1000001,[2,3,4,6])]
abbrev w221_0 (a:Int×List Int×Int×Int×Int×Int×Int×Int×Wk)(b c:Int)(d:RW)(e:Int)(r:TV)(Hs':LA):=∃b5,Q128 212 (Q185<|Q167 a.1 1 (IR a.2.1) a.2.2.1 a.2.2.2.1 a.2.2.2.2.1 a.2.2.2.2.2.1 a.2.2.2.2.2.2.1) b5/\br b5 (∃z6:Tm×Int×Wk,Q79 227 (Q154 (.agg<|Q206 0 3 b c d) (.agg<|Q167 a.1 1 (IR a.2.1) a.2.2.1 a.2.2.2.1 a.2.2.2.2.1 a.2.2.2.2.2.1 a.2.2.2.2.2.2.1) e) (wOb a.2.2.2.2.2.2.2.2 []) (Q52<|cT z6.1) z6.2.1 (wSb z6.2.2 [])/\Q213 (cT z6.1) z6.2.1 (wSb z6.2.2 []) r Hs') (∃z7:Tm×Bool,Q49 228 (Q154 (.agg<|Q206 0 3 b c d) (.agg<|Q167 a.1 1 (IR a.2.1) a.2.2.1 a.2.2.2.1 a.2.2.2.2.1 a.2.2.2.2.2.1 a.2.2.2.2.2.2.1) e) (wOb a.2.2.2.2.2.2.2.2 []) (Q93 (cT z7.1)<|Q8 z7.2) (wOb a.2.2.2.2.2.2.2.2 [])/\br (!z7.2) (Q213 (Q62 0 [] 0) 170 (wSb a.2.2.2.2.2.2.2.2 []) r Hs') (FV.L 1 (Q5 1<|IR a.2.1)=true/\Q53 221 7 r Hs' 3 [Q14 2 e,Q178 3 11,Q178 6 12,Q178 12 13,Q40 81 1<|IR a.2.1,Q14 82<|length<|IR a.2.1,Q14 83 0] (numO 0<|wSb a.2.2.2.2.2.2.2.2 [Q9 4<|Q206 0 3 b c d,Q9 4<|Q62 0 [] 0,Q9 4<|cT z7.1]) 14))
def v221 (h p m a k d j g f o u e y F z x G r c):let A:=Q206 0 3 h p m;let B:=Q194 (Q139 3 1 6 0 0 6 2 0 d j) (Q98 2 g 3 f o u 4 e) y F z x G;VE lv221 221 7 r c (Q154 (.agg A) (Q15 a) k) B=
  ∃b,let C:=Q167 b.1 1 (IR b.2.1) b.2.2.1 b.2.2.2.1 b.2.2.2.2.1 b.2.2.2.2.2.1 b.2.2.2.2.2.2.1;let D:=wSb b.2.2.2.2.2.2.2.2 [];let E:=w221_0 b h p m k r c;Q79 210 (Q95 0 3 0 0 a) B (Q52 C) b.2.2.2.2.2.2.2.1 D/\br (b.2.2.2.2.2.2.2.1 !=0) (Q213 (Q62 0 [] 0) b.2.2.2.2.2.2.2.1 D r c) (br (b.2.2.1==6) (∃i:Tm×Int×Wk,Q79 221 (Q154 (.agg A) (Q15 b.2.2.2.1)<|wrap .i64<|k+1) (wOb b.2.2.2.2.2.2.2.2 []) (Q52<|cT i.1) i.2.1 (wSb i.2.2 [])/\∃v,Q209 111 [Q15 1,aT i.1] (aT v)/\Q213 (cT v) i.2.1 (wSb i.2.2 []) r c) (∃w,Q128 212 (Q185 C) w/\br w (br (b.1==h) (Q213 (Q62 0 [] 0) 170 D r c) E) E)):=zh
def o8 (N)(y:RW)(F m e v i j o u f L J K M E c G D p x w g d b h r a):let A:=Q206 0 3 c G D;let B:=getD y (toNat m) [];let C:=FV.I (getD B 0 FV.N);VQ lv221 221 7 r a 3 ⟨[Q14 2 N,Q178 3 11,Q178 6 12,Q178 12 13,Q40 81 1 y,Q14 82 F,Q14 83 m],[Q202 0 3 1 6 0 0 10 2 e v,Q143 1 7 i 8 j o u 9 f,Q38 2,Q38 3,Q38 4,Q80 5 L,Q38 6,Q22 7 5 J,Q226 8 K,Q193 9 M,Q22 10 2 E,Q32 11 4 A,Q122 12 4 p x w,Q116 13 4 g d b 4 h],14⟩=
  br (decide (m<F)) ((FV.L 1 (Q5 1 y)=true/\0<=m/\m<(length y)/\([Q1 C])=B)/\∃z:Tm×Int×Wk,Q79 221 (Q154 (.agg A) (Q15 C) N) (Q194 (Q139 3 1 6 0 0 6 2 0 e v) (Q98 2 i 3 j o u 4 f) J K M L E) (Q52<|cT z.1) z.2.1 (wSb z.2.2 [])/\br (z.2.1 !=0) (Q213 (Q62 0 [] 0) z.2.1 (wSb z.2.2 []) r a) ((4=4/\1<=1)/\∃O,Q209 12 [Q121 g d b h,Q60 4 [FT4 z.1]] (aT O)/\Q53 221 7 r a 3 [Q14 2 N,Q178 3 11,Q178 6 12,Q178 12 13,Q40 81 1 y,Q14 82 F,Q14 83<|wrap .i64<|m+1] (numO 0<|wSb z.2.2 [Q9 4 A,Q9 4<|Q62 p x w,Q9 4<|cT O]) 14)) (Q213 (Q33 g d b 4 h) 0 (Q118 (Q139 3 1 6 0 0 10 2 0 e v) (Q98 7 i 8 j o u 9 f) .gone .gone (.mapz L) .gone (Q51 J) (Q50 K) (Q45 M)<|Q170 E) r a):=zh
def v222 (x v p o u e i h g j m f z E D y w r a):let A:=Q121 v p o u;let B:=Q139 3 1 6 0 0 10 2 0 e i;VE lv24 222 7 r a (Q119 0 3 0 0 x A) (Q194 (Q139 3 1 6 0 0 6 2 0 e i) (Q98 2 h 3 g j m 4 f) z E D y w)=
  ∃b:(Int×Int)×Hp,Q150 114 (Q75 0 6 0 0 A Q181) (Q84 1 h 2 g j m 3 f 4 z E D y) b.1.1 b.1.2 (hSb b.2 [])/\br (b.1.2 !=0) (Q54 b.1.2 (Q118 B (Q98 7 (length b.2.C) 8 (length b.2.T) b.2.M b.2.L 9<|length b.2.N) .gone .gone (.mapz<|NM b.2.N 0) .gone (Q51<|CR b.2.C) (Q50<|TR b.2.T) (Q45<|NR b.2.N)<|Q170 w) r a) (∃d:Int×Hp,Q70 183 (Q119 0 6 0 0 x<|Q176 5 b.1.1 0 0 0) (hOb b.2 []) d.1 (hSb d.2 [])/\Q54 d.1 (Q118 B (Q98 7 (length d.2.C) 8 (length d.2.T) d.2.M d.2.L 9<|length d.2.N) .gone .gone (.mapz<|NM d.2.N 0) .gone (Q51<|CR d.2.C) (Q50<|TR d.2.T) (Q45<|NR d.2.N)<|Q170 w) r a):=zh
def v191 (d g f)(b:RW)(k r a):let A:=getD b 0 [];VE lv6 191 0 r a (Q222 d g f b k) []=
  br (d==5) ((FV.L 4 (Q225 b)=true/\0<=(0:Int)/\0<(length b:Int)/\(rE A)=A)/\∃j,Q128 191 (Q141 (aE A)<|wrap .i64<|k+1) j/\Q132 j r a) (∃e:Tm×List Tm,let B:=FTs e.2;let C:=∃m,Q128 205 (Q141 (Q60 4 B) k) m/\Q132 m r a;let D:=∃i,Q72 103 (Q120 4 B<|.fn (.func 206) [] [(false,[Q145])]) (Q131 k) i (Q131 k)/\Q132 (!i) r a;Q49 74 (Q159 d g f b) [] (Q93 (cT e.1)<|Q124 B) []/\br (e.1.k==5) (Q144 r a) (br (e.1.k==4) C<|br (e.1.k==3) (br (decide (e.1.n>=k)) C D) D)):=zh
def v223 (a j f b g h d k m p o r c):let A:=Q84 1 f 2 b g h 3 d 4 k m p o;let B:=Q102 0 1 (Q233 (Q69 5 f 6 b g h 7 d 4) o k m<|Q45 p) r c;VE lv39 223 5 r c (Q147 0 6 0 0 a j) A=
  ∃u x,∃y w z,∃v,Q49 110 (Q95 0 6 0 0 a) A (Q93 (Q161 u x y w z)<|Q8 v) A/\br (!v) B (br (decide (u>=9)) B<|br (decide (j<0)) B (∃i:Int×Rd,Q70 201 (Q147 0 3 0 0 a j) (Q136 3 1 6 0 0 0 0 2 f 3 b g h 4 d k m p o) i.1 (rSb i.2 [])/\br (i.2.e !=0) (Q102 0 i.2.e (hSb i.2.s []) r c) (Q102 i.1 0 (hSb i.2.s []) r c))):=zh
def v224 (a d g f h i j e u v o p m r c):VE lv24 224 7 r c (Q95 0 3 0 0 a) (Q194 (Q139 3 1 6 0 0 6 2 0 d g) (Q98 2 f 3 h i j 4 e) u v o p m)=
  ∃b:Tm×Int×Int×Hp,let A:=Q98 7 (length b.2.2.2.C) 8 (length b.2.2.2.T) b.2.2.2.M b.2.2.2.L 9 (length b.2.2.2.N);let B:=NM b.2.2.2.N 0;let D:=Q51 (CR b.2.2.2.C);let E:=Q50 (TR b.2.2.2.T);let F:=Q45 (NR b.2.2.2.N);Q49 42 (Q147 0 6 0 0 a g) (Q84 1 f 2 h i j 3 e 4 u v o p) [Q52<|cT b.1,Q31 b.2.1,Q31 b.2.2.1] (hSb b.2.2.2 [])/\br (b.2.2.1==0) (Q213 (cT b.1) b.2.2.1 (Q118 (Q139 3 1 6 0 0 10 2 0 d b.2.1) A .gone .gone (.mapz B) .gone D E F<|Q170 m) r c) (Q213 (cT b.1) b.2.2.1 (Q118 (Q139 3 1 6 0 0 10 2 0 d g) A .gone .gone (.mapz B) .gone D E F<|Q170 m) r c):=zg
def v225 (g e d f r a):let A:=Q159 g e d f;let B:=Q140 (Q62 0 [] 0) Q89 [] r a;VE lv6 225 0 r a A []=
  ∃h,Q128 82 A h/\br (!h) B (∃b,let C:=Q140 (cT b) Q151 [] r a;Q209 113 A (aT b)/\br (b.k==3) C (br (b.k==1) C B)):=zh
def Eb (s:RW)(b:Int)(f:LU)(e:Int)(d:RW)(r:TV)(a:LA):let A:=Q120 4 s (.fn (.func 226) [] [(false,[(Q134 0 4)])]);let B:=Q33 b f e 4 d;VE lv6 103 1 r a A [Q9 4 B]=
  (∃g:Int,Q70 144 A [Q9 4 B] g [Q9 4 B]/\Q47 (decide (g>=0)) [Q9 4 B] r a):=zh
def gL (c:Nat)(g:RW)(d:Int)(b:LU)(e:Int)(f:RW)(r:TV)(a:LA):let A:=Q115 (Q220 0 4 c) (.fn (.func 226) [] [(false,[(Q134 1 4)])]);let B:=Q33 d b e 4 f;VE lv6 103 2 r a A [.arz 4 g,Q9 4 B]=
  (∃h:Int,Q70 144 A [.arz 4 g,Q9 4 B] h [.arz 4 g,Q9 4 B]/\Q47 (decide (h>=0)) [.arz 4 g,Q9 4 B] r a):=zh
def A7:LV:=[(1,[2,3,4,6,8,10,11,12,39,40,41]),(5,[2,3,4,6,8,10,11,12,86,87,88]),(1000001,[2,3,4,6])]
def v227 (F z c x j E h v y w k b i g e m o d H J I G K r a):let A:=Q206 0 3 F z c;let B:=Q167 x 1 j E h v y w;let C:=Q194 (Q139 3 1 6 0 0 6 2 0 b i) (Q98 2 g 3 e m o 4 d) H J I G K;VE A7 227 7 r a (Q154 (.agg A) (.agg B) k) C=
  ∃f:List Tm×Int×Wk,let D:=FTs f.1;Q79 217 (Q119 0 3 0 0 h<|Q60 1 j) C (Q91<|Q124 D) f.2.1 (wSb f.2.2 [])/\br (f.2.1 !=0) (Q213 (Q62 0 [] 0) f.2.1 (wSb f.2.2 []) r a) (FV.L 4 (Q225 D)=true/\Q142 227 7 r a [Q14 2 k,Q178 3 11,Q125 12 7,Q178 6 13,Q153 8 D,Q14 10 h,Q96 11,Q96 12,Q153 39 D,Q14 40<|length D,Q14 41 0] (numO 0<|wSb f.2.2 [Q9 4 A,Q9 7 B,Q9 4<|Q62 0 [] 0]) 14):=zh
def nU (Z W I)(a:RW)(J u b i e f g h d X U V Y x O z j y N K M T L S p o m r c):let A:=Q206 0 3 O z j;let B:=Q167 y 1 N K M T L S;let C:=getD a (toNat u) [];let D:=Q194 (Q139 3 1 6 0 0 6 2 0 b i) (Q98 2 e 3 f g h 4 d) U V Y X x;let E:=FV.L 4 (Q225 W)=true;let F:=(length W:Int);let G:=wrap .i64 (u+1);let H:=FV.L 4 (Q225 j)=true/\Q53 227 7 r c 5 [Q14 2 Z,Q178 3 11,Q125 12 7,Q178 6 13,Q153 8 W,Q14 10 I,Q96 11,Q96 12,Q153 86 j,Q14 87<|length j,Q14 88 0] [Q202 0 3 1 6 0 0 10 2 b i,Q143 1 7 e 8 f g h 9 d,Q38 2,Q38 3,Q38 4,Q80 5 X,Q38 6,Q22 7 5 U,Q226 8 V,Q193 9 Y,Q22 10 2 x,Q32 11 4 A,Q32 12 7 B,Q122 13 4 p o m] 14;VQ A7 227 7 r c 1 ⟨[Q14 2 Z,Q178 3 11,Q125 12 7,Q178 6 13,Q153 8 W,Q14 10 I,Q96 11,Q96 12,Q153 39 a,Q14 40 J,Q14 41 u],[Q202 0 3 1 6 0 0 10 2 b i,Q143 1 7 e 8 f g h 9 d,Q38 2,Q38 3,Q38 4,Q80 5 X,Q38 6,Q22 7 5 U,Q226 8 V,Q193 9 Y,Q22 10 2 x,Q32 11 4 A,Q32 12 7 B,Q122 13 4 p o m],14⟩=
  br (decide (u<J)) ((FV.L 4 (Q225 a)=true/\0<=u/\u<(length a)/\(rE C)=C)/\∃k:Tm×Bool,Q49 229 (Q154 (.agg A) (aE C) Z) D (Q93 (cT k.1)<|Q8 k.2) D/\br k.2 (E/\∃l,Q209 219 [Q15<|wrap .i64<|wrap .i64 (F-1)-u] (aT l)/\1<=1/\zw 1 56/\1<=1/\zw 1 56/\Q142 227 7 r c [Q14 2 Z,Q178 3 11,Q125 12 7,Q178 6 13,Q153 8 W,Q14 10 I,Q157 11 14 4 1,Q157 12 15 4 1,Q153 39 a,Q14 40 J,Q14 41 G] [Q202 0 3 1 6 0 0 10 2 b i,Q143 1 7 e 8 f g h 9 d,Q38 2,Q38 3,Q38 4,Q80 5 X,Q38 6,Q22 7 5 U,Q226 8 V,Q193 9 Y,Q22 10 2 x,Q32 11 4 A,Q32 12 7 B,Q122 13 4 p o m,Q22 14 4 [FT4 l],Q22 15 4 [FT4 k.1]] 16) (Q142 227 7 r c [Q14 2 Z,Q178 3 11,Q125 12 7,Q178 6 13,Q153 8 W,Q14 10 I,Q96 11,Q96 12,Q153 39 a,Q14 40 J,Q14 41 G] [Q202 0 3 1 6 0 0 10 2 b i,Q143 1 7 e 8 f g h 9 d,Q38 2,Q38 3,Q38 4,Q80 5 X,Q38 6,Q22 7 5 U,Q226 8 V,Q193 9 Y,Q22 10 2 x,Q32 11 4 A,Q32 12 7 B,Q122 13 4 p o m] 14)) (FV.L 4 .N=true/\E/\br ((0)==F) (br (decide (I<=z)) (∃n,Q209 12 (Q115 (.agg<|Q62 4 [] y) Q21) (aT n)/\Q213 (cT n) 0 (Q118 (Q139 3 1 6 0 0 10 2 0 b i) (Q98 7 e 8 f g h 9 d) .gone .gone (.mapz X) .gone (Q51 U) (Q50 V) (Q45 Y)<|Q170 x) r c) H) H):=zh
def EE (l c M i a)(z:RW)(N x e o g h j m f d Y Z k I V K p J U O T X S W w v u L y r b):let A:=Q206 0 3 V K p;let B:=Q167 J 1 U O T X S W;let C:=getD z (toNat x) [];let D:=Q194 (Q139 3 1 6 0 0 6 2 0 e o) (Q98 2 g 3 h j m 4 f) Y Z k d I;let E:=FV.L 4 (Q225 c)=true;let F:=(length c:Int);let G:=wrap .i64 (x+1);let H:=FV.L 4 (Q225 p)=true/\Q53 227 7 r b 5 [Q14 2 l,Q178 3 11,Q125 12 7,Q178 6 13,Q153 8 c,Q14 10 M,Q157 11 14 4 i,Q157 12 15 4 a,Q153 86 p,Q14 87<|length p,Q14 88 0] [Q202 0 3 1 6 0 0 10 2 e o,Q143 1 7 g 8 h j m 9 f,Q38 2,Q38 3,Q38 4,Q80 5 d,Q38 6,Q22 7 5 Y,Q226 8 Z,Q193 9 k,Q22 10 2 I,Q32 11 4 A,Q32 12 7 B,Q122 13 4 w v u,Q22 14 4 L,Q22 15 4 y] 16;VQ A7 227 7 r b 1 ⟨[Q14 2 l,Q178 3 11,Q125 12 7,Q178 6 13,Q153 8 c,Q14 10 M,Q157 11 14 4 i,Q157 12 15 4 a,Q153 39 z,Q14 40 N,Q14 41 x],[Q202 0 3 1 6 0 0 10 2 e o,Q143 1 7 g 8 h j m 9 f,Q38 2,Q38 3,Q38 4,Q80 5 d,Q38 6,Q22 7 5 Y,Q226 8 Z,Q193 9 k,Q22 10 2 I,Q32 11 4 A,Q32 12 7 B,Q122 13 4 w v u,Q22 14 4 L,Q22 15 4 y],16⟩=
  br (decide (x<N)) ((FV.L 4 (Q225 z)=true/\0<=x/\x<(length z)/\(rE C)=C)/\∃n:Tm×Bool,Q49 229 (Q154 (.agg A) (aE C) l) D (Q93 (cT n.1)<|Q8 n.2) D/\br n.2 (E/\∃q,Q209 219 [Q15<|wrap .i64<|wrap .i64 (F-1)-x] (aT q)/\1<=1/\(i<=length L/\zw (i+1) 56)/\1<=1/\(a<=length y/\zw (a+1) 56)/\Q142 227 7 r b [Q14 2 l,Q178 3 11,Q125 12 7,Q178 6 13,Q153 8 c,Q14 10 M,Q157 11 14 4<|i+1,Q157 12 15 4<|a+1,Q153 39 z,Q14 40 N,Q14 41 G] [Q202 0 3 1 6 0 0 10 2 e o,Q143 1 7 g 8 h j m 9 f,Q38 2,Q38 3,Q38 4,Q80 5 d,Q38 6,Q22 7 5 Y,Q226 8 Z,Q193 9 k,Q22 10 2 I,Q32 11 4 A,Q32 12 7 B,Q122 13 4 w v u,Q22 14 4<|take i L++[FT4 q],Q22 15 4<|take a y++[FT4 n.1]] 16) (Q142 227 7 r b [Q14 2 l,Q178 3 11,Q125 12 7,Q178 6 13,Q153 8 c,Q14 10 M,Q157 11 14 4 i,Q157 12 15 4 a,Q153 39 z,Q14 40 N,Q14 41 G] [Q202 0 3 1 6 0 0 10 2 e o,Q143 1 7 g 8 h j m 9 f,Q38 2,Q38 3,Q38 4,Q80 5 d,Q38 6,Q22 7 5 Y,Q226 8 Z,Q193 9 k,Q22 10 2 I,Q32 11 4 A,Q32 12 7 B,Q122 13 4 w v u,Q22 14 4 L,Q22 15 4 y] 16)) (E/\br ((i)==F) (br (decide (M<=K)) ((4=4/\0+a<=length y)/\∃s,Q209 12 [.agg<|Q62 4 [] J,Q60 4<|take a<|drop 0 y] (aT s)/\Q213 (cT s) 0 (Q118 (Q139 3 1 6 0 0 10 2 0 e o) (Q98 7 g 8 h j m 9 f) .gone .gone (.mapz d) .gone (Q51 Y) (Q50 Z) (Q45 k)<|Q170 I) r b) H) H):=zh
def E4 (X S y)(x:RW)(F g b a e f p u d V T U W G L j h z K H J N I M o m i r c):let A:=Q206 0 3 L j h;let B:=Q167 z 1 K H J N I M;let C:=getD x (toNat g) [];let D:=wrap .i64 (g+1);let E:=Q53 227 7 r c 5 [Q14 2 X,Q178 3 11,Q125 12 7,Q178 6 13,Q153 8 S,Q14 10 y,Q96 11,Q96 12,Q153 86 x,Q14 87 F,Q14 88 D] [Q202 0 3 1 6 0 0 10 2 b a,Q143 1 7 e 8 f p u 9 d,Q38 2,Q38 3,Q38 4,Q80 5 V,Q38 6,Q22 7 5 T,Q226 8 U,Q193 9 W,Q22 10 2 G,Q32 11 4 A,Q32 12 7 B,Q122 13 4 o m i] 14;VQ A7 227 7 r c 5 ⟨[Q14 2 X,Q178 3 11,Q125 12 7,Q178 6 13,Q153 8 S,Q14 10 y,Q96 11,Q96 12,Q153 86 x,Q14 87 F,Q14 88 g],[Q202 0 3 1 6 0 0 10 2 b a,Q143 1 7 e 8 f p u 9 d,Q38 2,Q38 3,Q38 4,Q80 5 V,Q38 6,Q22 7 5 T,Q226 8 U,Q193 9 W,Q22 10 2 G,Q32 11 4 A,Q32 12 7 B,Q122 13 4 o m i],14⟩=
  br (decide (g<F)) ((FV.L 4 (Q225 x)=true/\0<=g/\g<(length x)/\(rE C)=C)/\br (decide (y>j)) (br (FV.I (getD C 0 FV.N)==1) (br (decide ((FV.I<|getD C 2 FV.N)<=y)) (1<=1/\zw 1 56/\FV.L 4 (Q225 h)=true/\∃Y,Q209 219 [Q15<|wrap .i64<|wrap .i64 (wrap .i64 (X+(length h))-1)-g] (aT Y)/\1<=1/\zw 1 56/\Q53 227 7 r c 5 [Q14 2 X,Q178 3 11,Q125 12 7,Q178 6 13,Q153 8 S,Q14 10 y,Q157 11 14 4 1,Q157 12 15 4 1,Q153 86 x,Q14 87 F,Q14 88 D] [Q202 0 3 1 6 0 0 10 2 b a,Q143 1 7 e 8 f p u 9 d,Q38 2,Q38 3,Q38 4,Q80 5 V,Q38 6,Q22 7 5 T,Q226 8 U,Q193 9 W,Q22 10 2 G,Q32 11 4 A,Q32 12 7 B,Q122 13 4 o m i,Q22 14 4 [rE C],Q22 15 4 [FT4 Y]] 16) E) E) E) (FV.L 4 (Q225 S)=true/\∃O:Tm×Int×Wk,Q79 220 [Q191 3,Q15 z,Q15<|yb [j,y],Q15<|length S,Q181] (Q194 (Q139 3 1 6 0 0 6 2 0 b a) (Q98 2 e 3 f p u 4 d) T U W V G) (Q52<|cT O.1) O.2.1 (wSb O.2.2 [])/\∃Z,Q209 12 (Q115 (aT O.1) Q21) (aT Z)/\Q213 (cT Z) O.2.1 (wSb O.2.2 []) r c):=zh
def nV (c W G a e)(z:RW)(J j f y h i w x g Z X Y d K S p m I O L N U M T v u o F H r b):let A:=Q206 0 3 S p m;let B:=Q167 I 1 O L N U M T;let C:=getD z (toNat j) [];let D:=wrap .i64 (j+1);let E:=Q53 227 7 r b 5 [Q14 2 c,Q178 3 11,Q125 12 7,Q178 6 13,Q153 8 W,Q14 10 G,Q157 11 14 4 a,Q157 12 15 4 e,Q153 86 z,Q14 87 J,Q14 88 D] [Q202 0 3 1 6 0 0 10 2 f y,Q143 1 7 h 8 i w x 9 g,Q38 2,Q38 3,Q38 4,Q80 5 Z,Q38 6,Q22 7 5 X,Q226 8 Y,Q193 9 d,Q22 10 2 K,Q32 11 4 A,Q32 12 7 B,Q122 13 4 v u o,Q22 14 4 F,Q22 15 4 H] 16;VQ A7 227 7 r b 5 ⟨[Q14 2 c,Q178 3 11,Q125 12 7,Q178 6 13,Q153 8 W,Q14 10 G,Q157 11 14 4 a,Q157 12 15 4 e,Q153 86 z,Q14 87 J,Q14 88 j],[Q202 0 3 1 6 0 0 10 2 f y,Q143 1 7 h 8 i w x 9 g,Q38 2,Q38 3,Q38 4,Q80 5 Z,Q38 6,Q22 7 5 X,Q226 8 Y,Q193 9 d,Q22 10 2 K,Q32 11 4 A,Q32 12 7 B,Q122 13 4 v u o,Q22 14 4 F,Q22 15 4 H],16⟩=
  br (decide (j<J)) ((FV.L 4 (Q225 z)=true/\0<=j/\j<(length z)/\(rE C)=C)/\br (decide (G>p)) (br (FV.I (getD C 0 FV.N)==1) (br (decide ((FV.I<|getD C 2 FV.N)<=G)) (1<=1/\(a<=length F/\zw (a+1) 56)/\FV.L 4 (Q225 m)=true/\∃k,Q209 219 [Q15<|wrap .i64<|wrap .i64 (wrap .i64 (c+(length m))-1)-j] (aT k)/\1<=1/\(e<=length H/\zw (e+1) 56)/\Q53 227 7 r b 5 [Q14 2 c,Q178 3 11,Q125 12 7,Q178 6 13,Q153 8 W,Q14 10 G,Q157 11 14 4<|a+1,Q157 12 15 4<|e+1,Q153 86 z,Q14 87 J,Q14 88 D] [Q202 0 3 1 6 0 0 10 2 f y,Q143 1 7 h 8 i w x 9 g,Q38 2,Q38 3,Q38 4,Q80 5 Z,Q38 6,Q22 7 5 X,Q226 8 Y,Q193 9 d,Q22 10 2 K,Q32 11 4 A,Q32 12 7 B,Q122 13 4 v u o,Q22 14 4<|take a F++[rE C],Q22 15 4<|take e H++[FT4 k]] 16) E) E) E) (FV.L 4 (Q225 W)=true/\(4=4/\0+a<=length F)/\∃V:Tm×Int×Wk,Q79 220 [Q191 3,Q15 I,Q15<|yb [p,G],Q15<|length W,Q60 4<|take a<|drop 0 F] (Q194 (Q139 3 1 6 0 0 6 2 0 f y) (Q98 2 h 3 i w x 4 g) X Y d Z K) (Q52<|cT V.1) V.2.1 (wSb V.2.2 [])/\(4=4/\0+e<=length H)/\∃l,Q209 12 [aT V.1,Q60 4<|take e<|drop 0 H] (aT l)/\Q213 (cT l) V.2.1 (wSb V.2.2 []) r b):=zh
def v228 (E z w u v g b x y D k j m f e h i d G K J F L r a):let A:=Q206 0 3 E z w;let B:=Q194 (Q139 3 1 6 0 0 6 2 0 j m) (Q98 2 f 3 e h i 4 d) G K J F L;let C:=Q84 1 f 2 e h i 3 d 4 G K J F;VE lv6 228 7 r a (Q154 (.agg A) (.agg<|Q167 u 1 v g b x y D) k) B=
  br (g==0) (∃I,Q7 112 (Q95 0 6 0 0 b) C (Q137 I) C/\Q140 (Q62 0 I 0) Q151 B r a) (br (g==2) (Q140 (Q62 2 [] b) Q151 B r a)<|br (g==1) (∃p:Tm×Bool,Q49 229 (Q154 (.agg A) (.agg<|Q62 1 [] b) k) B (Q93 (cT p.1)<|Q8 p.2) B/\Q140 (cT p.1) (Q8 p.2) B r a) (∃H,Q209 219 [Q15 b] (aT H)/\∃o:Tm×Bool,Q49 229 (Q154 (.agg A) (aT H) k) B (Q93 (cT o.1)<|Q8 o.2) B/\Q140 (cT o.1) (Q8 o.2) B r a)):=zh
def cG (o:Int)(j:LU)(i:Int)(m:RW)(b f:Nat)(h g:Int)(e:Nat)(c w v:RW)(u:List MapZ)(r:TV)(a:LA):let A:=Q75 0 6 0 0 (Q121 o j i m) Q181;let B:=Q84 1 b 2 f h g 3 e 4 c w v u;VE lv39 114 5 r a A B=
  (∃p:Bool,Q128 82 (Q159 o j i m) p/\br (!p) (Q102 0 1 (Q233 (Q69 5 b 6 f h g 7 e 4) u c w<|Q45 v) r a) (∃d:(Int×Int)×Hp,Q150 159 A B d.1.1 d.1.2 (hSb d.2 [])/\br (d.1.2 !=0) (((0<=(0:Int))/\((0:Int)<=(b:Int))/\((b:Int)<=(((length d.2.C):Nat):Int)))/\Q102 0 d.1.2 (Q233 (Q69 5 (toNat (b:Int)) 6 (length d.2.T) d.2.M d.2.L 7 (length d.2.N) 4) (NM d.2.N 0) (CR d.2.C) (TR d.2.T)<|Q45<|NR d.2.N) r a) (Q102 d.1.1 0 (hSb d.2 []) r a))):=zh
def lv205:LV:=[(1,[1,5,9,10,11])]
def v205 (l k r a):VE lv205 205 0 r a (Q141 (Q60 4 l) k) []=
  (FV.L 4 (Q225 l)=true/\Q217 205 r a (Q113 (Q14 1 k) (Q4 5<|Q23 0) (Q153 9 l) 10 (length l) 11 0) [Q80 0 []] 1):=zg
def mR (h)(e:RW)(d b g r a):let A:=getD e (toNat b) [];let B:=Q144 r a;let C:=FV.I (getD A 2 FV.N);let D:=∃j,updZ ((false,[EK.int]),(false,[Q89])) [Q1 C] (false,[.bool true]) g=some j/\Q217 205 r a (Q113 (Q14 1 h) (Q4 5<|Q23 0) (Q153 9 e) 10 d 11<|wrap .i64<|b+1) [Q80 0 j] 1;VQ lv205 205 0 r a 1 ⟨Q113 (Q14 1 h) (Q4 5<|Q23 0) (Q153 9 e) 10 d 11 b,[Q80 0 g],1⟩=
  br (decide (b<d)) ((FV.L 4 (Q225 e)=true/\0<=b/\b<(length e)/\(rE A)=A)/\br (FV.I (getD A 0 FV.N) !=3) B (br (decide (C>=h)) B<|(∃i,ua ((false,[EK.int]),(false,[Q89])) [Q1 C] g=some (some [.bool i])/\br i B D)\/ua ((false,[EK.int]),(false,[Q89])) [Q1 C] g=some none/\D)) (Q152 r a):=zh
def A0 (s:RW)(b:Int)(r:TV)(a:LA):let A:=Q120 4 s (.fn (.func 206) [] [(false,[Q145])]);let B:=Q131 b;VE lv6 103 1 r a A B=
  (∃d:Int,Q70 144 A B d B/\Q47 (decide (d>=0)) B r a):=zh
def sc (s:RW)(b:Int)(f:LU)(e:Int)(d:RW)(r:TV)(a:LA):VE lv65 144 1 r a (Q120 4 s<|.fn (.func 226) [] [(false,[(Q134 0 4)])]) [Q9 4<|Q33 b f e 4 d]=
  ((FV.L 4 (Q225 s)=true)/\Q142 144 1 r a (Q149 (Q153 0 s) 1 (.fn (.func 226) [] [(false,[(Q134 0 4)])]) 7 (length s:Int) 8 0) [Q116 0 4 b f e 4 d] 1):=zg
def fF (c:RW)(i g f d e b r a):let A:=getD c (toNat g) [];let B:=Q33 f d e 4 b;VQ lv65 144 1 r a 1 ⟨Q149 (Q153 0 c) 1 (.fn (.func 226) [] [(false,[Q134 0 4])]) 7 i 8 g,[Q116 0 4 f d e 4 b],1⟩=
  br (decide (g<i)) ((FV.L 4 (Q225 c)=true/\0<=g/\g<(length c)/\(rE A)=A)/\∃j,Q72 226 [aE A,Q191 4] [Q9 4 B] j [Q9 4 B]/\br j (Q54 g [Q9 4 B] r a) (Q142 144 1 r a (Q149 (Q153 0 c) 1 (.fn (.func 226) [] [(false,[Q134 0 4])]) 7 i 8<|wrap .i64<|g+1) [Q116 0 4 f d e 4 b] 1)) (Q54 (-1) [Q9 4 B] r a):=zh
def KY (c:Nat)(g:RW)(d:Int)(b:LU)(e:Int)(f:RW)(r:TV)(a:LA):VE lv65 144 2 r a (Q115 (Q220 0 4 c)<|.fn (.func 226) [] [(false,[(Q134 1 4)])]) [.arz 4 g,Q9 4<|Q33 d b e 4 f]=
  (Q142 144 2 r a (Q149 (Q157 0 0 4 c) 1 (.fn (.func 226) [] [(false,[(Q134 1 4)])]) 7 (c:Int) 8 0) [Q22 0 4 g,Q116 1 4 d b e 4 f] 2):=zg
def uQ (i j g)(h:RW)(b e d f r a):let A:=Q157 0 0 4 i;let B:=0+toNat g;let C:=getD h B [];let D:=Q33 b e d 4 f;VQ lv65 144 2 r a 1 ⟨Q149 A 1 (.fn (.func 226) [] [(false,[Q134 1 4])]) 7 j 8 g,[Q22 0 4 h,Q116 1 4 b e d 4 f],2⟩=
  br (decide (g<j)) ((0<=g/\g<i)/\(B<length h/\(rE C)=take 4 (drop 0 C)/\4=4)/\∃m,Q72 226 [aE C,Q191 4] [Q9 4 D] m [Q9 4 D]/\br m (Q54 g [.arz 4 h,Q9 4 D] r a) (Q142 144 2 r a (Q149 A 1 (.fn (.func 226) [] [(false,[Q134 1 4])]) 7 j 8<|wrap .i64<|g+1) [Q22 0 4 h,Q116 1 4 b e d 4 f] 2)) (Q54 (-1) [.arz 4 h,Q9 4 D] r a):=zh
def lv229:LV:=[(1,[2,3,4,6,8,31,32,33])]
abbrev w229_0 (a:Int)(b:RW)(r:TV)(Hs':LA)(c:Int)(d:Nat)(e:Int)(f g:Nat)(h i:Int)(j:Nat)(k l m:RW)(n:List MapZ)(o:RW)(p q:Int)(s:LU)(t:Int)(u:RW):=br (a==3) (FV.L 4 (Q225 b)=true/\Q142 229 7 r Hs' [Q14 2 c,Q178 3 7,Q125 8 4,Q178 6 9,Q178 8 10,Q153 31 b,Q14 32<|length b,Q14 33 0] [Q202 0 3 1 6 0 0 6 2 d e,Q143 1 2 f 3 g h i 4 j,Q22 2 5 k,Q226 3 l,Q193 4 m,Q80 5 n,Q22 6 2 o,Q32 7 4<|Q206 0 3 p q b,Q116 8 4 a s t 4 u,Q122 9 4 0 [] 0,Q116 10 4 a s (wrap .i64<|t-c) 4 u] 11)<|FV.L 4 (Q225 b)=true/\Q142 229 7 r Hs' [Q14 2 c,Q178 3 7,Q125 8 4,Q178 6 9,Q178 8 10,Q153 31 b,Q14 32<|length b,Q14 33 0] [Q202 0 3 1 6 0 0 6 2 d e,Q143 1 2 f 3 g h i 4 j,Q22 2 5 k,Q226 3 l,Q193 4 m,Q80 5 n,Q22 6 2 o,Q32 7 4<|Q206 0 3 p q b,Q116 8 4 a s t 4 u,Q122 9 4 0 [] 0,Q116 10 4 a s t 4 u] 11
def v229 (w v u h o g p k b i f e j m d y C z x D r a):let A:=Q194 (Q139 3 1 6 0 0 6 2 0 b i) (Q98 2 f 3 e j m 4 d) y C z x D;let B:=w229_0 h u r a k b i f e j m d y C z x D w v o g p;VE lv229 229 7 r a (Q154 (.agg<|Q206 0 3 w v u) (Q121 h o g p) k) A=
  br (h==3) (br (decide (g<k)) (Q140 (Q33 h o g 4 p) Q151 A r a) B) B:=zh
def Ew (S)(y:RW)(K g h x m d u w i T U N O M L H z p v o E I c J j f e b r a):let A:=Q206 0 3 L H z;let B:=getD y (toNat g) [];let C:=Q194 (Q139 3 1 6 0 0 6 2 0 h x) (Q98 2 m 3 d u w 4 i) T U N O M;let D:=Q33 p v o 4 E;VQ lv229 229 7 r a 1 ⟨[Q14 2 S,Q178 3 7,Q125 8 4,Q178 6 9,Q178 8 10,Q153 31 y,Q14 32 K,Q14 33 g],[Q202 0 3 1 6 0 0 6 2 h x,Q143 1 2 m 3 d u w 4 i,Q22 2 5 T,Q226 3 U,Q193 4 N,Q80 5 O,Q22 6 2 M,Q32 7 4 A,Q116 8 4 p v o 4 E,Q122 9 4 I c J,Q116 10 4 j f e 4 b],11⟩=
  br (decide (g<K)) ((FV.L 4 (Q225 y)=true/\0<=g/\g<(length y)/\(rE B)=B)/\∃W,Q128 218 [aE B,Q121 j f e b] W/\br W (FV.L 4 (Q225 z)=true/\∃V,Q209 219 [Q15<|wrap .i64<|wrap .i64 (wrap .i64 (S+(length z))-1)-g] (aT V)/\Q140 (cT V) Q151 C r a) (Q142 229 7 r a [Q14 2 S,Q178 3 7,Q125 8 4,Q178 6 9,Q178 8 10,Q153 31 y,Q14 32 K,Q14 33<|wrap .i64<|g+1] [Q202 0 3 1 6 0 0 6 2 h x,Q143 1 2 m 3 d u w 4 i,Q22 2 5 T,Q226 3 U,Q193 4 N,Q80 5 O,Q22 6 2 M,Q32 7 4 A,Q116 8 4 p v o 4 E,Q122 9 4 I c J,Q116 10 4 j f e 4 b] 11)) (br (p==1) (Q140 D (Q8 (decide (o<=H))) C r a)<|Q140 D Q89 C r a):=zh
def v159_i1 (b:Int)(y:LU)(d:Int)(g:RW)(h e:Nat)(j m:Int)(f:Nat)(i H J:RW)(I:List MapZ)(r:TV)(a:LA):let A:=Q84 1 h 2 e j m 3 f 4 i H J I;let B:=Int×Int;let C:=FV.L 4 (Q225 g)=true;let D:=(length g:Int);let E:=getD g 0 [];let F:=drop 1 (take (toNat D) g);VE lv159 159 5 r a (Q75 0 6 0 0 (Q121 b y d g) Q181) A=
  (br (b==0) (∃z:Int×Hp,Q70 185 (Q58 0 6 0 0<|Q137 y) A z.1 (hSb z.2 [])/\∃v:(Int×Int)×Hp,Q150 67 (Q196 0 6 0 0 0 z.1 0 0 0) (hOb z.2 []) v.1.1 v.1.2 (hSb v.2 [])/\Q102 v.1.1 v.1.2 (hSb v.2 []) r a)<|br (b==1) (∃x:(Int×Int)×Hp,Q150 67 (Q196 0 6 0 0 1 d 0 0 0) A x.1.1 x.1.2 (hSb x.2 [])/\Q102 x.1.1 x.1.2 (hSb x.2 []) r a)<|br (b==2) (∃u:(Int×Int)×Hp,Q150 67 (Q196 0 6 0 0 2 d 0 0 0) A u.1.1 u.1.2 (hSb u.2 [])/\Q102 u.1.1 u.1.2 (hSb u.2 []) r a)<|br (b==3) (∃w:(Int×Int)×Hp,Q150 67 (Q196 0 6 0 0 3 d 0 0 0) A w.1.1 w.1.2 (hSb w.2 [])/\Q102 w.1.1 w.1.2 (hSb w.2 []) r a)<|br (b==4) (∃c:Int×Int,Q150 186 (Q119 0 6 0 0 d Q181) A c.1 c.2 A/\Q102 c.1 c.2 (Q233 (Q69 5 h 6 e j m 7 f 4) I i H<|Q45 J) r a) ((C/\(0<=(0:Int))/\((0:Int)<D)/\(((rE E):List FV)=E))/\∃o:(Int×Int)×Hp,let G:=hSb o.2 [];Q150 159 (Q75 0 6 0 0 (aE E) Q181) A o.1.1 o.1.2 G/\br (o.1.2 !=0) (Q102 0 o.1.2 G r a) (br (b==5) (∃p:(Int×Int)×Hp,Q150 67 (Q196 0 6 0 0 6 o.1.1 0 0 0) (hOb o.2 []) p.1.1 p.1.2 (hSb p.2 [])/\Q102 p.1.1 p.1.2 (hSb p.2 []) r a)<|C/\((0<=(1:Int))/\((1:Int)<=D)/\(D<=D))/\(FV.L 4 (Q225 F)=true)/\Q53 159 5 r a 5 (Q223 0 6 (Q96 2) (Q14 8 o.1.1) (Q153 89 F) 90 (((length F):Nat):Int) 91 0) (numO 0 G) 8))):=zh
def WH (v)(h:RW)(m f b e i g d u w x y r a):let A:=getD h (toNat f) [];VQ lv159 159 5 r a 5 ⟨Q223 0 6 (Q96 2) (Q14 8 v) (Q153 89 h) 90 m 91 f,[(0,Q69 5 b 6 e i g 7 d 4),Q38 1,Q38 2,Q38 3,Q80 4 u,Q22 5 5 w,Q226 6 x,Q193 7 y],8⟩=
  br (decide (f<m)) ((FV.L 4 (Q225 h)=true/\0<=f/\f<(length h)/\(rE A)=A)/\∃j:(Int×Int)×Hp,Q150 159 (Q75 0 6 0 0 (aE A) Q181) (Q84 1 b 2 e i g 3 d 4 w x y u) j.1.1 j.1.2 (hSb j.2 [])/\br (j.1.2 !=0) (Q102 0 j.1.2 (hSb j.2 []) r a) (∃o:(Int×Int)×Hp,let B:=hSb o.2 [];Q150 67 (Q196 0 6 0 0 7 v j.1.1 0 0) (hOb j.2 []) o.1.1 o.1.2 B/\br (o.1.2 !=0) (Q102 0 o.1.2 B r a) (Q53 159 5 r a 5 (Q223 0 6 (Q96 2) (Q14 8 o.1.1) (Q153 89 h) 90 m 91<|wrap .i64<|f+1) (numO 0 B) 8))) (Q102 v 0 (Q233 (Q69 5 b 6 e i g 7 d 4) u w x<|Q45 y) r a):=zh
def Eu (s:RW)(b:Int)(r:TV)(a:LA):VE lv65 144 1 r a (Q120 4 s<|.fn (.func 206) [] [(false,[Q145])]) (Q131 b)=
  ((FV.L 4 (Q225 s)=true)/\Q142 144 1 r a (Q149 (Q153 0 s) 1 (.fn (.func 206) [] [(false,[Q145])]) 7 (length s:Int) 8 0) [Q183 0 b] 1):=zg
def ZM (c:RW)(f d b r a):let A:=getD c (toNat d) [];let B:=Q131 b;VQ lv65 144 1 r a 1 ⟨Q149 (Q153 0 c) 1 (.fn (.func 206) [] [(false,[Q145])]) 7 f 8 d,[Q183 0 b],1⟩=
  br (decide (d<f)) ((FV.L 4 (Q225 c)=true/\0<=d/\d<(length c)/\(rE A)=A)/\∃g,Q72 206 [aE A,Q191 1] B g B/\br g (Q54 d B r a) (Q142 144 1 r a (Q149 (Q153 0 c) 1 (.fn (.func 206) [] [(false,[Q145])]) 7 f 8<|wrap .i64<|d+1) [Q183 0 b] 1)) (Q54 (-1) B r a):=zh
def v226 (g j i h b f e d r a):let A:=Q33 b f e 4 d;VE lv6 226 1 r a [Q121 g j i h,Q191 4] [Q9 4 A]=
  ∃m,Q128 218 [Q121 g j i h,Q121 b f e d] m/\Q47 m [Q9 4 A] r a:=zh
def v186_i1 (n:Int)(d e:Nat)(g f:Int)(b:Nat)(c m j:RW)(i:List MapZ)(r:TV)(a:LA):let A:=Q84 1 d 2 e g f 3 b 4 c m j i;VE lv6 186 5 r a (Q119 0 6 0 0 n Q181) A=
  (∃h:Bool,Q72 149 (Q95 0 6 0 0 n) A h A/\br (!h) (Q102 0 1 A r a) (Q102 n 0 A r a)):=zh
def v206 (d g f e b r a):VE lv6 206 1 r a [Q121 d g f e,Q191 1] (Q131 b)=
  ∃h,Q128 191 (Q222 d g f e b) h/\Q47 (!h) (Q131 b) r a:=zg
end Go.AM
namespace Go.AM
abbrev qi (x:Int):WV:=.a<|.fz<|.int .i64 x
abbrev qf (x:FV):WV:=.a<|.fz x
def rrl {a}{H:List AObj}:TV.Le a a/\H=H:=⟨.refl _,rfl⟩
def bF {p}[Decidable p]{t f}(h:¬p)(y:f):br (decide p) t f:=zm (λw=>absurd (S0 w) h) λ_=>y
def bT {p}[Decidable p]{t f}(h:p)(y:t):br (decide p) t f:=zm (λ_=>y) λw=>absurd h<|ES w
def bN {t f}(y:f):br false t f:=y
def bP {t f}(y:t):br true t f:=y
def xr (l):(CR l).length=l.length:=by simp[CR]
def u7 (l):(TR l).length=l.length:=by simp[TR]
def YX (l):(NR l).length=l.length:=by simp[NR]
def rQ {l i}(h:i<l.length):getD (CR l) i []=l[i].r:=by simp[CR,getD,h]
def NR_get {l i}(h:i<l.length):getD (NR l) i []=[.str l[i]]:=by simp[NR,getD,h]
abbrev aH (o:Nat):TV:=.c<|.a<|.ep o 6 0 0
abbrev hp6 (a b d m:Nat)(s:Hp):AObj:=.arr 6 [[.a<|.osl a 5 0 s.C.length,.a<|.osl b 7 0 s.T.length,qi s.M,qi s.L,.a<|.osl d 1 0 s.N.length,.a<|.mp m]]
abbrev oH (s:Hp):=[hp6 1 2 3 4 s,.arz 5<|CR s.C,.arz 7<|TR s.T,.arz 1<|NR s.N,.mapz<|NM s.N 0]
abbrev oH' (s:Hp):=[hp6 5 6 7 4 s,.gone,.gone,.gone,.mapz<|NM s.N 0,.arz 5<|CR s.C,.arz 7<|TR s.T,.arz 1<|NR s.N]
abbrev aCe (c:Cel):TV:=.agg [qi c.t,qi c.a,qi c.b,qi c.c,qi c.d]
abbrev tCe (c:Cel)(b:Bool):TV:=.tup [(true,[qi c.t,qi c.a,qi c.b,qi c.c,qi c.d]),(false,[qf<|.bool b])]
abbrev t2 (x:Int×Int):TV:=.tup [(false,[qi x.1]),(false,[qi x.2])]
abbrev noC:Cel:=⟨0,0,0,0,0⟩
def rowB (c:Cel):=decide (9<=c.t)&&decide (c.t<=11)
def zB (C:List Cel)(x:Int):=if 0<=x/\x<C.length then(C[x.toNat]?).getD noC else noC
def inC (C:List Cel)(x:Int):=decide (0<=x)&&decide (x<C.length)
def qd {C x}(b:0<=x)(d:x<C.length):∃h:x.toNat<C.length,zB C x=C[x.toNat]:=by have h:x.toNat<C.length:=za;exact⟨h,by rw[zB,EL ⟨b,d⟩,EU h];rfl⟩
def Zd {C x}(h:¬(0<=x/\x<C.length)):zB C x=noC:=EG h
def yI {x y}{Hs:List AObj}(h:x=y):TV.Le (cb x) (cb y)/\Hs=Hs:=⟨h ▸ .refl _,rfl⟩
def c_hnew (c t):AC EF 19 [ci c,ci t] [] (aH 0) (oH ⟨[],[],yb [zS [c,0],1048576],yb [zS [t,0],1048576],[]⟩):=by refine acv (v19 ..) ?_;exact rrl
def pL (c):AC EF 179 [aCe c] [] (cb<|rowB c) []:=by refine acv (v179 ..) ?_;refine zm (λh=>zy ?_) (λh=>zy ?_)<;>simp_all[rowB]<;>omega
def wY (s x):AC EF 110 [aH 0,ci x] (oH s) (tCe (zB s.C x)<|inC s.C x) (oH s):=by
 refine acv (v110 ..) ?_;refine zm (λh=>?_) λh=>zm (λh'=>?_) λh'=>?_
 .have h:=S0 h;rw[Zd za,show inC s.C x=false by simp[inC];omega];exact rrl
 .have h':=S0 h';rw[Zd za,show inC s.C x=false by simp[inC];omega];exact rrl
 .have h:=ES h;have h':=ES h';let ⟨b,e⟩:=qd (C:=s.C) (x:=x) za za;rw[e,show getD _ _ []=s.C[x.toNat].r by rw[Sa,rQ b],show inC s.C x=true by simp[inC];omega];refine⟨⟨za,za⟩,⟨by rw[xr];omega,rfl,rfl⟩,.refl _,rfl⟩
def isT (C:List Cel)(x:Int):=inC C x && !rowB (zB C x)
def isR (C:List Cel)(x:Int):=inC C x&&rowB (zB C x)
def ZP (s x):AC EF 149 [aH 0,ci x] (oH s) (cb<|isT s.C x) (oH s):=by refine acv (v149 ..) ?_;refine⟨_,_,_,_,_,_,wY s x,zm (λh=>⟨_,pL _,yI ?_⟩) λh=>yI ?_⟩<;>simp[isT,h]
def c_hisr (s x):AC EF 150 [aH 0,ci x] (oH s) (cb<|isR s.C x) (oH s):=by refine acv (v150 ..) ?_;refine⟨_,_,_,_,_,_,wY s x,zm (λh=>⟨_,pL _,yI ?_⟩) λh=>yI ?_⟩<;>simp[isR,h]
def va (s:Hp)(c:Cel):Bool:=
 if c.t=0 then decide (0<=c.a)&&decide (c.a<(s.N.length:Int)) else if c.t=1 then decide (c.a>=1) else if c.t=2 then true else if c.t=9 then true else if c.t=3 then decide (c.a>=0) else if c.t=4 then decide (c.a>=0) else if c.t=5 then isT s.C c.a else if c.t=6 then isT s.C c.a else if c.t=7 then isT s.C c.a&&isT s.C c.b else if c.t=8 then isT s.C c.a&&isR s.C c.b&&decide (c.c>=0)&&decide (c.d>=0) else if c.t=10 then isR s.C c.a&&decide (c.b>=0) else if c.t=11 then isR s.C c.a&&isT s.C c.b&&decide (c.c>=0) else false
def zF {x n:Int}{A B}(b:x=n->A)(d:x≠n->B):br (x==n) A B:=zm (λh=>b<|eq_of_beq h) λh=>d<|ne_of_beq_false h
def rP (s c):AC EF 107 [aH 0,aCe c] (oH s) (cb<|va s c) (oH s):=by
 have f:=ZP s c.a;have o:=ZP s c.b;have r:=c_hisr s c.a;refine acv (v107 ..) ?_;refine zF (λe0=>?_) λA=>zF (λL=>?_) λF=>zF (λz=>?_) λE=>zF (λK=>?_) λH=>zF (λu=>?_) λw=>zF (λM=>?_) λC=>zF (λy=>?_) λG=>zF (λD=>?_) λI=>zF (λp=>?_) λJ=>zF (λi=>?_) λv=>zF (λe=>?_) λj=>zF (λd=>?_) λm=>?_
 .refine zm (λh=>yI ?_) (λh=>yI ?_)<;>simp[va,e0]<;>simp at h<;>omega
 .exact yI (by simp[va,L])
 .exact yI (by simp[va,z])
 .exact yI (by simp[va,K])
 .exact yI (by simp[va,u])
 .exact yI (by simp[va,M])
 .exact⟨_,f,yI<|by simp[va,y]⟩
 .exact⟨_,f,yI<|by simp[va,D]⟩
 .exact⟨_,f,zm (λh=>⟨_,o,yI<|by simp[va,p,h]⟩) λh=>yI<|by simp[va,p,h]⟩
 .exact⟨_,f,zm (λh=>⟨_,(c_hisr s c.b),zm (λg=>zm (λq=>yI<|by simp[va,i,h,g];simp at q;omega) λq=>yI<|by simp[va,i,h,g];simp at q;omega) λg=>yI<|by simp[va,i,h,g]⟩) λh=>yI<|by simp[va,i,h]⟩
 .exact⟨_,r,zm (λh=>yI<|by simp[va,e,h]) λh=>yI<|by simp[va,e,h]⟩
 .exact⟨_,r,zm (λh=>⟨_,o,zm (λg=>yI<|by simp[va,d,h,g]) λg=>yI<|by simp[va,d,h,g]⟩) λh=>yI<|by simp[va,d,h]⟩
 .exact yI (by simp[va,A,F,E,H,w,C,G,I,J,v,j,m])
def putS (s:Hp)(c:Cel):(Int×Int)×Hp:=
 if va s c=false then((0,1),s) else if s.M<=(s.C.length:Int) then((0,200),s) else(((s.C.length:Int),0),{s with C:=s.C++[c]})
def wd (s c)(g:s.C.length<=1073741824):AC EF 67 [aH 0,aCe c] (oH s) (t2 (putS s c).1) (oH' (putS s c).2):=by
 refine acv (v67 ..) ?_;refine⟨_,rP s c,zm (λh=>?_) λh=>zm (λb=>?_) λb=>⟨EI _,⟨by rw[xr];omega,?_⟩,?_⟩⟩
 .rw[putS,EL zd];exact rrl
 .rw[putS,EG<|zl h,EL<|S0 b];exact rrl
 .simp[zw];omega
 .have b:¬s.M<=s.C.length:=ES b;rw[putS,EG<|zl h,EG b];have f:(s.C++[c]).length=s.C.length+1:=zb;have e:CR (s.C++[c])=take s.C.length (CR s.C)++[c.r]:=by rw[EV<|by rw[xr];omega];simp[CR]
  have d:wrap .i64 (((s.C.length+1:Nat))-1)=s.C.length:=by rw[w64 za za];omega
  simp only[oH',hp6,f,e,d];exact⟨.refl _,zb⟩
def i5 (nm:List UInt8):List (List UInt8)->Nat->Option Nat
 |[],_=>none
 |s::l,i=>if (((nm:List UInt8)==s)&&true)=true then some i else i5 nm l<|i+1
abbrev mN:=((false,[EK.str]),(false,[qi 0]))
def findN (nm):∀(l) (i j),(i5 nm l i=none->xW mN.1 [.str nm] ((NM l i).map thaw) j=some none)/\
  ∀x,i5 nm l i=some x->∃q,x=i+q/\l[q]?=some nm/\xW mN.1 [.str nm] ((NM l i).map thaw) j=some (some<|j+q)/\(NM l i)[q]?=some ((false,[.str nm]),(false,[.int .i64 x]))
 |[],i,j=>⟨λ_=>rfl,λx h=>by cases h⟩
 |s::l,i,j=>by
  have ih:=findN nm l (i+1)<|j+1;have g:xW mN.1 [.str nm] ((NM (s::l) i).map thaw) j=if ((nm==s)&&true)=true then some _ else xW mN.1 [.str nm] _ _:=rfl
  rw[g,i5];by_cases q:((nm==s)&&true)=true
  .rw[EL q,EL q];have e:nm=s:=zd;exact⟨λh=>(by cases h),λx h=>⟨0,by injection h with h;omega,by rw[e];rfl,rfl,by injection h with h;rw[e,<-h];rfl⟩⟩
  .rw[EG q,EG q];refine⟨ih.1,λx h=>?_⟩;let ⟨k,m,b,d,f⟩:=ih.2 x h;exact⟨k+1,za,zl b,by rw[d,(za:j+1+k=j+(k+1))],by simpa[NM] using f⟩
def KZ (nm):∀(l) (i),NM (l++[nm]) i=NM l i++[((false,[.str nm]),(false,[.int .i64<|(i+l.length:Nat)]))]
 |[],i=>by simp[NM]
 |s::l,i=>by rw[SE,NM,NM,KZ nm l _,EH,(za:i+1+l.length=i+(l.length+1))];rfl
def symS (s:Hp)(nm:List UInt8):Int×Hp:=match i5 nm s.N 0 with|some i=>((i:Int),s)|none=>((s.N.length:Int),{s with N:=s.N++[nm]})
def c_hsym (s nm)(o:s.N.length<=200000000000):AC EF 185 [aH 0,cs nm] (oH s) (ci (symS s nm).1) (oH' (symS s nm).2):=by
 refine acv (v185 ..) ?_;have f:=findN nm s.N 0 0
 match b:i5 nm s.N 0 with
 |some i=>
  let ⟨q,d,_,g,h⟩:=f.2 i b;refine .inl ⟨i,?_,?_⟩
  .unfold ua;grind
  .simp[symS,b];exact⟨.refl _,zb⟩
 |none=>
  have d:=f.1 b;refine .inr ⟨by unfold ua;rw[d],_,(by unfold updZ;rw[d]),EI _,⟨by rw[YX];omega,by simp[zw];omega⟩,?_⟩;simp[symS,b];have m:(s.N++[nm]).length=s.N.length+1:=zb;have j:NR (s.N++[nm])=take s.N.length (NR s.N)++[[.str nm]]:=by rw[EV<|by rw[YX];omega];simp[NR]
  have e:=KZ nm s.N 0;rw[Sa] at e;simp[oH',hp6,m,j,e];exact⟨.refl _,zb⟩
def uP (N:List<|List UInt8)(i:Int):=if 0<=i/\i<N.length then(N[i.toNat]?).getD [] else []
def my {N x}(b:0<=x)(d:x<N.length):∃h:x.toNat<N.length,uP N x=N[x.toNat]:=by have h:x.toNat<N.length:=za;exact⟨h,by rw[uP,EL ⟨b,d⟩,EU h];rfl⟩
def ret_sH {x y}{Hs:List AObj}(h:x=y):TV.Le (cs x) (cs y)/\Hs=Hs:=⟨h ▸ .refl _,rfl⟩
def Kp (s i):AC EF 112 [aH 0,ci i] (oH s) (cs<|uP s.N i) (oH s):=by
 refine acv (v112 ..) ?_;refine zm (λh=>?_) λh=>zm (λh'=>?_) λh'=>?_
 .exact ret_sH (by simp at h;rw[uP,EG za])
 .exact ret_sH (by simp at h';rw[uP,EG za])
 .have h:=ES h;have h':=ES h';let ⟨b,e⟩:=my (N:=s.N) (x:=i) za za;rw[e,show getD _ _ []=[.str s.N[i.toNat]] by rw[Sa,NR_get b]];exact⟨⟨za,za⟩,⟨by rw[YX];omega,rfl,rfl⟩,.refl _,rfl⟩
def fmax0 {x}(h:0<=x):zS [x,0]=x:=by simp only[zS,List.foldl,max,maxOfLe];split<;>omega
def fmax2 {x y z}(h:zS [x,y]=z):z=x\/z=y:=by subst h;simp only[zS,List.foldl,max,maxOfLe];split<;>simp
def nl {l i}(h:i<l.length):getD (TR l) i []=l[i].r:=by simp[TR,getD,h]
def tv (C i c):CR (C.set i c)=List.set (CR C) i c.r:=by simp[CR,GZ]
def Jq {n g gs}(p:gs.length<=g.length)(h:∀(i:Nat) (e d),g[i]?=some e->gs[i]?=some d->LeR e d):OLe (.arz n g) (.arz n gs):=
 .rows n g gs p (λi e d o b=>(h i e d o b).length) λi j e d f f' o b r m=>(h i e d o b).get j f f' r m
def mA (s):AC EF 79 [aH 0] (oH s) (.agg [qi s.C.length,qi s.T.length]) (oH s):=by refine acv (v79 ..) ?_;exact rrl
def topS (T:List Trl)(x:Int):=if h:0<T.length then zS [x,T[T.length-1].top] else x
def setS (s:Hp)(x:Int)(c:Cel):Int×Hp:=
 if inC s.C x=false then(1,s) else if va s c=false then(1,s) else if (rowB (zB s.C x)==rowB c)=false then(1,s) else if s.L<=s.T.length then(201,s) else(0,{s with C:=s.C.set x.toNat c,T:=s.T++[⟨x,zB s.C x,topS s.T x⟩]})
def c_hset (s x c)(D:s.T.length<=1073741824):AC EF 183 [aH 0,ci x,aCe c] (oH s) (ci (setS s x c).1) (oH' (setS s x c).2):=by
 refine acv (v183 ..) ?_;refine⟨_,_,_,_,_,_,wY s x,zm (λh=>?_) λh=>⟨_,rP s c,zm (λg=>?_) λg=>⟨_,pL _,_,pL c,zm (λj=>?_) λj=>zm (λf=>?_) λf=>?_⟩⟩⟩
 .rw[setS,EL<|zl h];exact rrl
 .rw[setS,EG<|zl h,EL<|zl g];exact rrl
 .rw[setS,EG<|zl h,EG<|zl g,EL<|zl j];exact rrl
 .rw[setS,EG<|zl h,EG<|zl g,EG<|zl j,EL<|S0 f];exact rrl
 .have f:¬s.L<=s.T.length:=ES f;rw[setS,EG<|zl h,EG<|zl g,EG<|zl j,EG f];have b:inC s.C x=true:=zl h;simp[inC,EN,Sf] at b;let ⟨w,_⟩:=qd b.1 b.2;have o:(s.C.set x.toNat c).length=s.C.length:=zb;have u:∀e,(s.T++[e]).length=s.T.length+1:=zb;have m:∀e,TR (s.T++[e])=take s.T.length (TR s.T)++[e.r]:=λe=>by rw[EV<|by rw[u7];omega];simp[TR]
  have A:=xr s.C;have z:=u7 s.T;have d:zw (s.T.length+1) 56:=by simp[zw];omega
  have p:(getD (CR s.C) (0+toNat x) []).length=5:=by rw[Sa,rQ w];rfl
  refine zm (λi=>?_) λi=>?_
  .have i:(s.T.length:Int)>0:=S0 i;have v:wrap .i64 (s.T.length-1)=((s.T.length-1:Nat)):=by rw[w64 za za];omega
   have y:getD (TR s.T) (0+toNat ((s.T.length-1:Nat))) []=(s.T[s.T.length-1]' za).r:=by rw[Sa,S3,nl za]
   rw[v,y];refine⟨⟨za,za⟩,⟨za,rfl,rfl⟩,EI _,⟨za,d⟩,b,⟨za,p⟩,?_⟩;simp[oH',hp6,o,u,m,topS,(za:0<s.T.length),dite_true,tv,Sa];exact rrl
  .have i:¬(s.T.length:Int)>0:=ES i;refine⟨EI _,⟨za,d⟩,b,⟨za,p⟩,?_⟩;simp[oH',hp6,o,u,m,topS,show¬0<s.T.length by omega,dite_false,tv,Sa];exact⟨.refl _,by first|exact trivial|rfl⟩
def ug (T:List Trl)(C:List Cel):List Cel:=T.foldr (λe C=>C.set e.o.toNat e.x) C
def xq:∀(T) (C),(ug T C).length=C.length
 |[],_=>rfl
 |e::T,C=>by rw[ug,List.foldr_cons,Gn];exact xq T C
def WG (T e C):ug (T++[e]) C=ug T (C.set e.o.toNat e.x):=by simp[ug]
abbrev stU (s:Hp)(C:List Cel)(j:Nat)(x n k:Int):St:=
 ⟨[(0,aH 0),(3,.c<|.a<|.ep 8 2 0 0),(4,ci x)],[(0,.arr 6 [[.a<|.osl 5 5 0 s.C.length,.a<|.osl 6 7 0 j,qi s.M,qi s.L,.a<|.osl 7 1 0 s.N.length,.a<|.mp 4]]),(1,.gone),(2,.gone),(3,.gone),(4,.mapz<|NM s.N 0),(5,.arz 5<|CR C),(6,.arz 7<|TR s.T),(7,.arz 1<|NR s.N),(8,.arr 2 [[qi n,qi k]])],9⟩
def t7 (s)(n k:Nat)(J:k<=s.T.length)(D:s.T.length<=1073741824)(O:n<=s.C.length)(v:∀e∈s.T,0<=e.o/\e.o<s.C.length)(m:∀e∈s.T.take k,e.top<(n:Int)):
  ∀(d j) (C),j=k+d->j<=s.T.length->C.length=s.C.length->
  RPt EF 40 5 (.tup []) [.arr 6 [[.a<|.osl 5 5 0 n,.a<|.osl 6 7 0 k,qi s.M,qi s.L,.a<|.osl 7 1 0 s.N.length,.a<|.mp 4]],.gone,.gone,.gone,.mapz<|NM s.N 0,.arz 5<|CR<|ug ((s.T.take j).drop k) C,.arz 7<|TR s.T,.arz 1<|NR s.N] 1
   (stU s C j (j-1) n k)
 |0,j,C,G,A,p=>by
  refine rpv (v40_1a ..) ?_;obtain rfl:j=k:=za;rw[fmax0 (x:=j) za,fmax0 (x:=n) za,S3,show ug ((s.T.take j).drop j) C=C by rw[GJ<|by rw[S8];omega];rfl];refine bF za<|zm (λh=>⟨⟨za,za,za⟩,zm (λu=>?_) λ_=>rrl⟩) λh=>?_
  .have u:(j:Int)>0:=S0 u;have y:wrap .i64 (j-1)=((j-1:Nat)):=by rw[w64 za za];omega
   have b:j-1<s.T.length:=za;have g:getD (TR s.T) (0+toNat ((j-1:Nat))) []=s.T[j-1].r:=by rw[Sa,S3,nl b]
   have F:s.T[j-1].top<n:=m _<|List.mem_take_iff_getElem.2 ⟨j-1,za,rfl⟩;have w:=u7 s.T;rw[y,g];refine⟨⟨za,za⟩,⟨za,rfl,rfl⟩,bF (Int.not_le.2 F) rrl⟩
  .have h:=ES h;have e:s.C.length=n:=za;rw[e];exact rrl
 |d+1,j,C,G,A,p=>by
  refine rpv (v40_1a ..) ?_;have b:j-1<s.T.length:=za;have I:toNat (j-1)=j-1:=za;have g:getD (TR s.T) (0+(j-1)) []=s.T[j-1].r:=by rw[Sa,nl b]
  have w:=u7 s.T;have S:=xr C;let ⟨o1,E⟩:=v s.T[j-1]<|F4 b;have f:(s.T[j-1].o).toNat<C.length:=za;have K:(getD (CR C) (0+(s.T[j-1].o).toNat) []).length=5:=by rw[Sa,rQ f];rfl
  rw[fmax0 (x:=k) za,I,g,w64 (x:=j-1-1) za za];have nx:=t7 s n k J D O v m d (j-1) (C.set (s.T[j-1].o).toNat s.T[j-1].x) za za (by rw[Gn];exact p);have z:(s.T.take j).drop k=(s.T.take<|j-1).drop k++[s.T[j-1]]:=by
   have H:s.T.take j=s.T.take (j-1)++[s.T[j-1]]:=by have:=List.take_append_getElem (l:=s.T) (i:=j-1) b;rw[(za:j-1+1=j)] at this;exact this.symm
   rw[H,List.drop_append_of_le_length<|by rw[S8];omega]
  simp[stU] at nx;rw[<-WG,<-z,tv,show((j-1:Nat))=(j:Int)-1 by omega] at nx;refine zm (λ_=>⟨⟨za,za⟩,⟨za,rfl,rfl⟩,⟨o1,E⟩,⟨by show 0+(s.T[j-1].o).toNat<(CR C).length;omega,K⟩,⟨za,za,za⟩,?_⟩) (λh=>absurd (ES h) za);rw[Sa];exact nx
def xF (s:Hp)(n k:Nat):={s with C:=(ug (s.T.drop k) s.C).take n,T:=s.T.take k}
def sO (s)(n k:Nat)(m:k<=s.T.length)(y:s.T.length<=1073741824)(r:n<=s.C.length)(A:∀e∈s.T,0<=e.o/\e.o<s.C.length)(w:∀e∈s.T.take k,e.top<(n:Int)):
  AC EF 40 [aH 0,.agg [qi n,qi k]] (oH s) (.tup []) (oH'<|xF s n k):=by
 have j:(xF s n k).C.length=n:=by simp[xF,S8,xq];omega
 have p:(xF s n k).T.length=k:=by simp[xF,S8];omega
 have h:=t7 s n k m y r A w (s.T.length-k) s.T.length s.C za (EI _) rfl;rw[EV<|EI _] at h;refine AC.obj (Hs':=[.arr 6 [[.a<|.osl 5 5 0 n,.a<|.osl 6 7 0 k,qi s.M,qi s.L,.a<|.osl 7 1 0 s.N.length,.a<|.mp 4]],.gone,.gone,.gone,.mapz<|NM s.N 0,.arz 5<|CR<|ug (s.T.drop k) s.C,.arz 7<|TR s.T,.arz 1<|NR s.N]) ?_ ⟨?_,.refl _,.refl _,.refl _,.refl _,?_,?_,.refl _,trivial⟩
 .refine acv (v40 ..) ?_;rw[w64 (x:=s.T.length-1) za za];exact h
 .rw[hp6,j,p];exact .refl _
 .refine Jq (by rw[xr,xr,j,xq];exact r) λi e u g d=>?_;rw[CR,EX] at g d;obtain⟨v,b,rfl⟩:=EM.1 d;obtain⟨z,f,rfl⟩:=EM.1 g;rw[xF,Sy] at b;split at b
  .rw[f] at b;injection b with b;subst b;exact LeR.refl _
  .cases b
 .refine Jq (by rw[u7,u7,p];exact m) λi e u g d=>?_;rw[TR,EX] at g d;obtain⟨v,b,rfl⟩:=EM.1 d;obtain⟨z,f,rfl⟩:=EM.1 g;rw[xF,Sy] at b;split at b
  .rw[f] at b;injection b with b;subst b;exact LeR.refl _
  .cases b
def pW (c:Int):=decide (97<=c)&&decide (c<=122)
def sU (c:Int):=decide (65<=c)&&decide (c<=90)||c==95
def Av (c:Int):=decide (48<=c)&&decide (c<=57)
def kO (c:Int):=pW c||sU c||Av c||c==39
def signs:List UInt8:=[43,45,42,47,60,62,61,38,124,94,126,64,35,36,63,58]
def cv (c:Int):=decide (Lib.indexByte signs c.toNat.toUInt8>=0)
def oz (c):AC EF 93 [c8 c] [] (cb<|pW c) []:=by refine acv (v93 ..) ?_;refine zm (λh=>zy ?_) (λh=>zy ?_)<;>simp_all[pW]<;>omega
def c_great (c):AC EF 137 [c8 c] [] (cb<|sU c) []:=by refine acv (v137 ..) ?_;refine zm (λh=>zm (λh=>zy ?_) λh=>zy ?_) (λh=>zy ?_)<;>simp_all[sU]<;>omega
def c_digit (c):AC EF 138 [c8 c] [] (cb<|Av c) []:=by refine acv (v138 ..) ?_;refine zm (λh=>zy ?_) (λh=>zy ?_)<;>simp_all[Av]<;>omega
def c_inside (c):AC EF 95 [c8 c] [] (cb<|kO c) []:=by refine acv (v95 ..) ?_;refine⟨_,oz c,zm (λh=>zy ?_) λh=>⟨_,c_great c,zm (λh=>zy ?_) λh=>⟨_,c_digit c,zm (λh=>zy ?_) λh=>zy ?_⟩⟩⟩<;>simp_all[kO]
def db (s c):AC EF 176 [cs s,c8 c] [] (ci<|Lib.indexByte s c.toNat.toUInt8) []:=
 AC.str_u8 zg λw=>Tryz.stringslite_IndexByte ⟨s.toArray⟩ c w
def dZ (s c):AC EF 139 [cs s,c8 c] [] (ci<|Lib.indexByte s c.toNat.toUInt8) []:=
 AC.str_u8 zg λw=>Tryz.strings_IndexByte ⟨s.toArray⟩ c w
def c_sign (c):AC EF 96 [c8 c] [] (cb<|cv c) []:=by refine acv (v96 ..) ?_;exact⟨_,dZ _ c,zy rfl⟩
def runN (p:Int->Bool):List UInt8->Nat
 |[]=>0
 |c::s=>if p (c.toNat:Int) then runN p s+1 else 0
def nK (p):∀s,runN p s<=s.length
 |[]=>EI _
 |c::s=>by have:=nK p s;simp[runN,EH];split<;>omega
def tA (a c)(b:List UInt8):getD (a++c::b) (toNat a.length) 0=c:=by simp[getD]
def Zs:∀(b a),(a++b).length<=B->RPt EF 94 0 (ci<|a.length+runN kO b) [] 1 ⟨[(0,cs<|a++b),(1,.c<|.fn (.func 95) [] []),(7,ci<|((a++b).length)),(8,ci a.length)],[],0⟩
 |[],a,d=>by refine rpv (WE ..) ?_;exact zm (λh=>absurd h zb) (λ_=>xB<|by simp[runN])
 |c::b,a,d=>by
  refine rpv (WE ..) ?_;have e:=d;simp[EJ,EH,B] at e;refine zm (λ_=>⟨⟨za,zj⟩,kO c.toNat,?_,zm (λh=>xB ?_) λh=>?_⟩) (λh=>absurd h zj)
  .rw[tA];exact c_inside _
  .simp_all[runN]
  .have:=Zs b (a++[c]) (zl d);rw[w64 za za];simp[SH,SE,SD,EJ,EH,EY,F8,F9,Int.natCast_zero,Int.zero_add] at this;simp[Bool.not_eq_false'] at h;simp[runN,h,S9,EJ,EH,F8,F9];rw[show a.length+((runN kO b)+1)=(a.length:Int)+1+(runN kO b) by omega];exact this
def gD (s)(h:s.length<=B):AC EF 94 [cs s,.c<|.fn (.func 95) [] []] [] (ci<|runN kO s) []:=by refine acv (v94_F95 ..) ?_;have:=Zs s [] (zl h);exact zl this
def Wx:∀(b a),(a++b).length<=B->RPt EF 94 0 (ci<|a.length+runN cv b) [] 1 ⟨[(0,cs<|a++b),(1,.c<|.fn (.func 96) [] []),(7,ci<|((a++b).length)),(8,ci a.length)],[],0⟩
 |[],a,d=>by refine rpv (Ww ..) ?_;exact zm (λh=>absurd h zb) (λ_=>xB<|by simp[runN])
 |c::b,a,d=>by
  refine rpv (Ww ..) ?_;have e:=d;simp[EJ,EH,B] at e;refine zm (λ_=>⟨⟨za,zj⟩,cv c.toNat,?_,zm (λh=>xB ?_) λh=>?_⟩) (λh=>absurd h zj)
  .rw[tA];exact c_sign _
  .simp_all[runN]
  .have:=Wx b (a++[c]) (zl d);rw[w64 za za];simp[SH,SE,SD,EJ,EH,EY,F8,F9,Int.natCast_zero,Int.zero_add] at this;simp[Bool.not_eq_false'] at h;simp[runN,h,S9,EJ,EH,F8,F9];rw[show a.length+((runN cv b)+1)=(a.length:Int)+1+(runN cv b) by omega];exact this
def iv (s)(h:s.length<=B):AC EF 94 [cs s,.c<|.fn (.func 96) [] []] [] (ci<|runN cv s) []:=by refine acv (v94_F96 ..) ?_;have:=Wx s [] (zl h);exact zl this
def qc (p):∀s,(((runN p s))==(s.length:Int))=s.all λc=>p c.toNat
 |[]=>rfl
 |c::s=>by
  have ih:=qc p s;have:=nK p s;simp[runN,G0,EH];cases h:p c.toNat with
  |true=>rw[<-ih];simp[S9,SL];rw[Gp];simp<;>omega
  |false=>simp;omega
def ik (s:List UInt8):= !s==[]&&decide ((s.length:Int)<=32)
def c_fits (s):AC EF 92 [cs s] [] (cb<|ik s) []:=by refine acv (v92 ..) ?_;refine zm (λh=>zy ?_) (λh=>zy ?_)<;>simp_all[ik]
def YC (s:List UInt8):Bool:=ik s&&pW ((s.getD 0 0).toNat:Int)&&s.all λc=>kO (c.toNat:Int)
def dk {s}(h:ik s=true):0<s.length/\s.length<=32:=by
 simp[ik,EN,SK,Sf] at h;refine⟨?_,za⟩;cases s with
 |nil=>simp at h
 |cons c s=>simp
def au (s):AC EF 59 [cs s] [] (cb<|YC s) []:=by
 refine acv (v59 ..) ?_;refine⟨_,c_fits s,zm (λh=>⟨⟨za,by have:=dk h;omega⟩,_,oz _,zm (λb=>⟨_,gD s<|by have:=dk h;simp[B];omega,zy ?_⟩) λb=>zy ?_⟩) λh=>zy ?_⟩
 .rw[qc];simp only[YC,h,b,SL]
 .simp only[YC,h,b,Sz,Sx]
 .simp[YC,h,Sx]
def cF:List UInt8:=[44,59,33]
def co (s c)(f:s.length<=B):AC EF 97 [cs s,cs [c]] [] (cb (decide (Lib.indexByte s c>=0))) []:=by
 have g:(c.toNat:Int).toNat.toUInt8=c:=zb;have d:AC EF 177 [cs s,cs [c]] [] (ci (if [c]==s then 0 else Lib.indexByte s c)) []:=by refine acv (v177 ..) ?_;refine zm (λh=>absurd h zb) (λ_=>zm (λh=>xB<|by simp[h]) λh=>zm (λ_=>⟨⟨za,zb⟩,_,db s _,xB ?_⟩) λb=>absurd b zb);rw[h];simp
 have b:AC EF 140 [cs s,cs [c]] [] (ci (if [c]==s then 0 else Lib.indexByte s c)) []:=by refine acv (v140 ..) ?_;exact⟨_,d,xB rfl⟩
 refine acv (v97 ..) ?_;refine⟨_,b,zy ?_⟩;by_cases e:[c]=s
 .subst e;simp[Lib.indexByte]
 .have:([c]==s)=false:=zl e;rw[this];simp
def gT (s:List UInt8):=ik s&&((s.all λc=>cv c.toNat)||(s.length:Int)==1&&decide (Lib.indexByte cF (s.getD 0 0)>=0))
def A5 (s):AC EF 60 [cs s] [] (cb<|gT s) []:=by
 refine acv (v60 ..) ?_;refine⟨_,c_fits s,zm (λh=>⟨_,iv s<|by have:=dk h;simp[B];omega,zm (λd=>zy ?_) λd=>zm (λb=>?_) λb=>zy ?_⟩) λh=>zy ?_⟩
 .rw[qc] at d;simp[gT,h,d,SL,GU]
 .rw[qc] at d
  match s,b with
  |[c],b=>refine⟨_,co cF c<|by simp[cF,B],zy ?_⟩;simp[gT,h,d,b,SL,Gh,List.getD_cons_zero]
  |[],b=>simp at b
  |_::_::_,b=>simp at b;omega
 .rw[qc] at d;simp[gT,h,d,b,Sx,Gh,Sz]
 .simp[gT,h,Sx]
mutual
def near (most:Int):Tm->Bool
 |.mk k _ n l=> !(k !=2&&(decide (n>most)||decide (n<0-most)))&&cj most l
def cj (most:Int):List Tm->Bool
 |[]=>true
 |t::l=>near most t&&cj most l
end
def l_near (most k s n):∀(b a),(∀u∈b,AC EF 18 [aT u,ci most] [] (cb<|near most u) [])->(a++b).length<=B->
  RPt EF 18 0 (cb<|cj most b) [] 1 ⟨[(1,ci most),(2,.c<|.a<|.ep 0 4 0 0),(5,ci a.length)],[(0,.arr 4 [fzs<|FT<|.mk k s n<|a++b])],1⟩
 |[],a,_,e=>by refine rpv (v18_1a ..) ?_;exact⟨rfl,bF (geI' a)<|zy rfl⟩
 |t::b,a,ih,e=>by
  refine rpv (v18_1a ..) ?_;have d:=e;simp[EJ,EH,B] at d;refine⟨rfl,bT (ltI' a t b)<|?_⟩;have g:=ih t ET;have f:=l_near most k s n b (a++[t]) (λu p=>ih u<|EP _ p) (by rw[ap];exact e);have o:=ltI' a t b;rw[ap,nx] at f;rw[midI,w64 za za];let ⟨m,j,i,l'⟩:=t;refine⟨⟨rfl,za,o,rfl⟩,_,g,zm (λh=>zy ?_) λh=>?_⟩
  .simp_all[cj]
  .simp[cj,show near most (.mk m j i l')=true by simpa using h,SL];exact f
def mL (most)(j:0<=most)(i:most<=4611686018427387904):∀t,t.sz<=B->AC EF 18 [aT t,ci most] [] (cb<|near most t) []:=by
 refine Tm.ind λt ih f=>?_;let ⟨k,s,n,l⟩:=t;have g:=Tm.szs_length l;simp[Tm.sz,B] at f;refine acv (v18 k s n _ most _ _) ?_;have key:=l_near most k s n l [] (λu e=>ih u e<|by have:=Tm.szs_mem e;simp[B];omega) (by simp[SD,B];omega);rw[w64 za za];rw[near];refine zm (λh=>zm (λb=>zy ?_) λb=>zm (λd=>zy ?_) λd=>?_) λh=>?_
 .simp[h,b,GU,Gi,Bool.not_true,Sx]
 .simp only[h,d,GV,Gi,Bool.not_true,Sx]
 .simp only[b,d,Bool.or_false,Sz,GR,SL];exact key
 .simp[h,Sx,GR,SL];exact key
mutual
def Z5:Tm->Int->Int
 |.mk _ _ _ l,most=>qS l<|most-1
def qS:List Tm->Int->Int
 |[],n=>n
 |t::l,n=>if n>=0 then qS l (Z5 t n) else n
end
mutual
def bW:∀(t:Tm) (n:Int),Z5 t n<=n-1/\(0<=n-> -1<=Z5 t n)
 |.mk _ _ _ l,n=>by have h:=JD l<|n-1;simp only[Z5];exact⟨h.1,λhn=>h.2 za⟩
def JD:∀(l:List Tm) (n:Int),qS l n<=n/\(-1<=n-> -1<=qS l n)
 |[],n=>by simp[qS]
 |t::l,n=>by
  have h1:=bW t n;have h2:=JD l<|Z5 t n;simp only[qS];split;next h=>exact⟨za,λ_=>h2.2<|h1.2 h⟩
  .exact⟨EQ _,λh=>h⟩
end
def l_left (k s n):∀(b a) (m),(∀u∈b,∀m,0<=m->m<=4611686018427387904->AC EF 36 [aT u,ci m] [] (ci<|Z5 u m) [])->(a++b).length<=B->m<=4611686018427387904->
  RPt EF 36 0 (ci<|qS b m) [] 1 ⟨[(2,.c<|.a<|.ep 0 4 0 0),(5,ci m),(6,ci a.length)],[(0,.arr 4 [fzs<|FT<|.mk k s n<|a++b])],1⟩
 |[],a,m,_,f,g=>by refine rpv (v36_1a ..) ?_;exact⟨rfl,bF (geI' a)<|xB rfl⟩
 |t::b,a,m,ih,f,g=>by
  refine rpv (v36_1a ..) ?_;have e:=f;simp[EJ,EH,B] at e;refine⟨rfl,bT (ltI' a t b)<|zm (λd=>?_) λd=>xB ?_⟩
  .have d:=S0 d;have i:=ih t ET m d g;have j:=bW t m;have h:=l_left k s n b (a++[t]) (Z5 t m) (λu p=>ih u<|EP _ p) (by rw[ap];exact f) za;have o:=ltI' a t b;rw[ap,nx] at h;rw[midI,w64 za za];simp only[qS,d,S9];let ⟨w,v,r,l'⟩:=t;exact⟨⟨rfl,za,o,rfl⟩,_,i,h⟩
  .have d:=ES d;simp[qS,d,Sj]
def c_left:∀t,t.sz<=B->∀m,0<=m->m<=4611686018427387904->AC EF 36 [aT t,ci m] [] (ci<|Z5 t m) []:=by refine Tm.ind λt ih d m f g=>?_;let ⟨k,s,n,l⟩:=t;have e:=Tm.szs_length l;simp[Tm.sz,B] at d;refine acv (v36 k s n _ m _ _) ?_;rw[w64 za za];exact l_left k s n l [] _ (λu b=>ih u b<|by have:=Tm.szs_mem b;simp[B];omega) (by simp[SD,B];omega) za
def large (t:Tm)(most:Int):=decide (Z5 t most<0)
def dx (t)(e:t.sz<=B)(m)(d:0<=m)(b:m<=4611686018427387904):AC EF 17 [aT t,ci m] [] (cb<|large t m) []:=by have h:=c_left t e m d b;let ⟨k,s,n,l⟩:=t;refine acv (v17 k s n _ m _ _) ?_;exact⟨_,h,zy rfl⟩
mutual
def u4:Tm->Tm->Bool
 |.mk k s n l,.mk k' s' n' l'=>k==k'&&(s==s'&&(n==n'&&uN l l'))
def uN:List Tm->List Tm->Bool
 |[],[]=>true
 |t::l,u::m=>u4 t u&&uN l m
 |_,_=>false
end
mutual
def f8:∀a b:Tm,u4 a b=true↔a=b
 |.mk k s n l,.mk k' s' n' l'=>by simp only[u4,EN,Sw,Tm.mk.injEq,gY l l']
def gY:∀a b:List Tm,uN a b=true↔a=b
 |[],[]=>by simp[uN]
 |t::l,u::m=>by simp only[uN,EN,List.cons.injEq,f8 t u,gY l m]
 |[],_::_=>by simp[uN]
 |_::_,[]=>by simp[uN]
end
def YS:∀ {a b},a.length≠b.length->uN a b=false
 |[],[],h=>absurd rfl h
 |t::l,u::m,h=>by simp[uN,YS (a:=l) (b:=m) λe=>h<|by simp[e],Sz]
 |[],_::_,_=>rfl
 |_::_,[],_=>rfl
def l_same (k:Int)(s:List UInt8)(n r:Int)(w:List UInt8)(D:Int):∀(b a d e:List Tm),(∀u∈b,∀v∈d,AC EF 15 [aT u,aT v] [] (cb<|u4 u v) [])->(a++b).length<=B->a.length=e.length->b.length=d.length->
  RPt EF 15 0 (cb<|uN b d) [] 1 ⟨[(2,(.c<|.a<|.ep 0 4 0 0)),(3,(.c<|.a<|.ep 1 4 0 0)),(5,ci a.length)],[(0,(.arr 4 [fzs<|FT<|.mk k s n<|a++b])),(1,(.arr 4 [fzs<|FT<|.mk r w D<|e++d]))],2⟩
 |[],a,[],e,_,f,_,_=>by refine rpv (v15_1a ..) ?_;exact⟨rfl,bF (geI' a)<|zy rfl⟩
 |t::b,a,u::d,e,ih,f,i,H=>by
  refine rpv (v15_1a ..) ?_;have g:=f;simp only[EJ,EH,B] at g;refine⟨rfl,bT (ltI' a t b)<|?_⟩;have F:=ih t ET u ET;have C:=l_same k s n r w D b (a++[t]) d (e++[u]) (λx J y G=>ih x (EP _ J) y<|EP _ G) (by rw[ap];exact f) (by simp[i]) (zl H);have I:=ltI' a t b;have m:=ltI' e u d;rw[<-i] at m;rw[ap,ap,nx] at C;rw[midI,midI' a e i,w64 za za];obtain⟨A,z,p,l1⟩:=t;obtain⟨j,E,o,l2⟩:=u;refine⟨⟨rfl,za,I,rfl⟩,⟨rfl,za,m,rfl⟩,_,F,zm (λh=>zy ?_) λh=>?_⟩
  .rw[uN,show u4 (.mk A z p l1) (.mk j E o l2)=false by simpa using h,Sx]
  .rw[uN,show u4 (.mk A z p l1) (.mk j E o l2)=true by simpa using h,SL];exact C
def c_rsame:∀a:Tm,a.sz<=B->∀b:Tm,AC EF 15 [aT a,aT b] [] (cb<|u4 a b) []:=by
 refine Tm.ind λa ih p b=>?_;obtain⟨k,s,n,l⟩:=a;obtain⟨f,d,g,l'⟩:=b;have w:=Tm.szs_length l;simp only[Tm.sz,B] at p;refine acv (v15 k s n (FTs l) f d g (FTs l') _ _) ?_;have key:=λr=>l_same k s n f d g l [] l' [] (λu o v _=>ih u o (by have:=Tm.szs_mem o;simp only[B];omega) v) (by simp only[SD,B];omega) rfl r;rw[lenI,lenI];refine zm (λh=>zy ?_) λh=>zm (λj=>zy ?_) λj=>zm (λm=>zy ?_) λm=>⟨rfl,rfl,zm (λi=>zy ?_) λi=>?_⟩
 .simp only[u4,show(k==f)=false by simpa using h,Sx]
 .simp only[u4,show(s==d)=false by simpa using j,Sx,Sz]
 .simp only[u4,show(n==g)=false by simpa using m,Sx,Sz]
 .rw[u4,YS<|by intro e;simp[e] at i];simp
 .simp only[u4,show(k==f)=true by simpa using h,show(s==d)=true by simpa using j,show(n==g)=true by simpa using m,SL]
  exact key (by have:(l.length:Int)=l'.length:=zl i
                omega)
def Tm.inner (t:Tm):=t.k==5||t.k==6
def Tm.kids (t:Tm):=if t.inner=true then t.l else []
def Tm.by (t:Tm):Int:=if t.k==5 then 1 else 0
mutual
def zC:Cd->Prop
 |.mk nm _ _ _ _ ins=>nm.length<=B/\ins.length<=B/\zIs ins
def zIs:List In1->Prop
 |[]=>True
 |.mk _ _ t l c::r=>(t.bk<=B/\Tm.bks l<=B/\c.length<=B/\zCs c)/\zIs r
def zCs:List Cd->Prop
 |[]=>True
 |c::r=>zC c/\zCs r
end
def Xt:∀ {l} {x},zIs l->x∈l->x.t.bk<=B/\Tm.bks x.l<=B/\x.c.length<=B/\zCs x.c
 |.mk k a t q c::r,x,h,hm=>by
  rw[zIs] at h;rcases S4.1 hm with rfl|hm
  .exact h.1
  .exact Xt h.2 hm
def ct:∀ {l} {d},zCs l->d∈l->zC d
 |c::r,d,h,hm=>by
  rw[zCs] at h;rcases S4.1 hm with rfl|hm
  .exact h.1
  .exact ct h.2 hm
def YM {c}(h:zC c):c.nm.length<=B/\c.ins.length<=B/\zIs c.ins:=by cases c;rw[zC] at h;exact h
def zIs_of:∀ {l},(∀x∈l,x.t.bk<=B/\Tm.bks x.l<=B/\x.c.length<=B/\zCs x.c)->zIs l
 |[],_=>by rw[zIs];trivial
 |.mk k a t q c::r,h=>by rw[zIs];exact⟨h _<|ET ..,zIs_of λx b=>h x<|EP _ b⟩
def zCs_of:∀ {l},(∀d∈l,zC d)->zCs l
 |[],_=>by rw[zCs];trivial
 |c::r,h=>by rw[zCs];exact⟨h _<|ET ..,zCs_of λx b=>h x<|EP _ b⟩
def gX (a c b):getD (FCs<|a++c::b) (toNat a.length) []=FC c:=by rw[(za:toNat a.length=a.length),kv];simp[getD]
def da (a c b):getD (FIs<|a++c::b) (toNat a.length) []=FI c:=by rw[(za:toNat a.length=a.length),uj];simp[getD]
abbrev aCr (r:List FV):TV:=.agg [qf<|.str<|FV.S<|getD r 0 FV.N,qi<|FV.I<|getD r 1 FV.N,qi<|FV.I<|getD r 2 FV.N,qi<|FV.I<|getD r 3 FV.N,qi<|FV.I<|getD r 4 FV.N,qf<|getD r 5 FV.N]
def pZ (c):aCr (FC c)=aC c:=by cases c;rw[FC];rfl
abbrev fCr (r:List FV):=[.str<|FV.S<|getD r 0 FV.N,.int .i64<|FV.I<|getD r 1 FV.N,.int .i64<|FV.I<|getD r 2 FV.N,.int .i64<|FV.I<|getD r 3 FV.N,.int .i64<|FV.I<|getD r 4 FV.N,getD r 5 FV.N]
def bI (c):fCr (FC c)=FC c:=by cases c;rw[FC];rfl
abbrev fIr (r:List FV):=[.int .i64<|FV.I<|getD r 0 FV.N,.int .i64<|FV.I<|getD r 1 FV.N,.int .i64<|FV.I<|getD r 2 FV.N,.str<|FV.S<|getD r 3 FV.N,.int .i64<|FV.I<|getD r 4 FV.N,getD r 5 FV.N,getD r 6 FV.N,getD r 7 FV.N]
def fIr_FI (x):fIr (FI x)=FI x:=by cases x;rw[FI];rfl
abbrev aIt (r:List FV):TV:=.agg [qi<|FV.I<|getD r 2 FV.N,qf<|.str<|FV.S<|getD r 3 FV.N,qi<|FV.I<|getD r 4 FV.N,qf<|getD r 5 FV.N]
def aIt_FI (x):aIt (FI x)=aT x.t:=by cases x;rw[FI];rfl
def FI6 (x):getD (FI x) 6 FV.N=.sl false 4 (FTs x.l):=by cases x;rw[FI];rfl
def FI7 (x):getD (FI x) 7 FV.N=.sl false 6 (FCs x.c):=by cases x;rw[FI];rfl
def FI3 (x):FV.S (getD (FI x) 3 FV.N)=x.t.s:=by cases x;rw[FI];rfl
def FI0 (x):FV.I (getD (FI x) 0 FV.N)=x.k:=by cases x;rw[FI];rfl
def FI1 (x):FV.I (getD (FI x) 1 FV.N)=x.a:=by cases x;rw[FI];rfl
abbrev cCd (c:Cd):=[qf<|.str c.nm,qi c.ar,qi c.fr,qi c.vs,qi c.sl,qf<|.sl false 8<|FIs c.ins]
abbrev wr (x:Int):Int:=wrap .i64 x
def yq (r:Rd)(e:Int):Rd:=⟨r.s,r.f,if r.e=0 then e else r.e⟩
def putR (r:Rd)(c:Cel):=if r.e=0 then((putS r.s c).1.1,⟨(putS r.s c).2,r.f,(putS r.s c).1.2⟩) else(0,r)
def yG (r:Rd)(a b:Int):=if r.e=0/\a≠b then⟨(setS r.s a ⟨5,b,0,0,0⟩).2,r.f,(setS r.s a ⟨5,b,0,0,0⟩).1⟩ else r
def Wf (C:List Cel):Nat->Int->Int
 |0,a=>a
 |n+1,a=>if inC C a=false then a else if (zB C a).t≠5 then a else Wf C n (zB C a).a
def wh (C:List Cel)(a:Int):=Wf C C.length a
def zu (r:Rd)(a:Int):=
 if inC r.s.C (wh r.s.C a)=false then((⟨2,0,0,0,0⟩,0),yq r 1) else if 9<=(zB r.s.C<|wh r.s.C a).t then((⟨2,0,0,0,0⟩,0),yq r 1) else if (zB r.s.C<|wh r.s.C a).t=5 then((⟨2,0,0,0,0⟩,0),yq r 1) else if r.f<=0 then((⟨2,0,0,0,0⟩,0),yq r 80) else if r.e≠0 then((⟨2,0,0,0,0⟩,0),r) else((zB r.s.C<|wh r.s.C a,wh r.s.C a),⟨r.s,r.f-1,r.e⟩)
def vO (r:Rd)(a u:Int):=
 if u=0 then(a,r) else putR (putR r ⟨9,0,0,0,0⟩).2 ⟨8,a,(putR r ⟨9,0,0,0,0⟩).1,0,u⟩
def yk:Nat->Rd->Int->Int->(Cel×Bool)×Rd
 |0,r,_,_=>((noC,false),r)
 |n+1,r,row,j=>
  if inC r.s.C row=false then((noC,false),yq r 1) else if (zB r.s.C row).t<9 then((noC,false),yq r 1) else if (zB r.s.C row).t=9 then((noC,false),r) else if j=0 then((zB r.s.C row,true),r) else if r.f<=0 then((noC,false),yq r 80) else yk n ⟨r.s,r.f-1,r.e⟩ (zB r.s.C row).a<|wr<|j-1
def losR (n:Nat)(r:Rd)(s:Cel)(j:Int):=
 if j<s.c then
  if (yk n r s.b j).1.2=true then
   if (yk n r s.b j).1.1.t=10 then putR (yk n r s.b j).2 ⟨3,wr<|wr (s.d-1)-(yk n r s.b j).1.1.b,0,0,0⟩ else vO (yk n r s.b j).2 (yk n r s.b j).1.1.b<|wr<|s.d-(yk n r s.b j).1.1.c else putR (yk n r s.b j).2 ⟨3,wr<|wr (j-s.c)+s.d,0,0,0⟩ else putR r ⟨3,wr<|wr (j-s.c)+s.d,0,0,0⟩
def yR (r:Rd)(s:Cel)(a row more:Int):Int×Rd:=putR r ⟨8,a,row,wr<|s.c+more,wr<|s.d+more⟩
def lamR (r:Rd)(s:Cel)(b:Int):=
 putR (yR (putR r ⟨10,s.b,s.d,0,0⟩).2 s b (putR r ⟨10,s.b,s.d,0,0⟩).1 1).2 ⟨6,(yR (putR r ⟨10,s.b,s.d,0,0⟩).2 s b (putR r ⟨10,s.b,s.d,0,0⟩).1 1).1,0,0,0⟩
def appR (r:Rd)(s:Cel)(f x:Int):=
 putR (yR (yR r s f s.b 0).2 s x s.b 0).2 ⟨7,(yR r s f s.b 0).1,(yR (yR r s f s.b 0).2 s x s.b 0).1,0,0⟩
def kb (n:Nat)(c:Cel)(t:Int)(r:Rd)(s:Cel):Int×Rd:=
 if c.t=3 then losR n r s c.a else if c.t=6 then lamR r s c.a else if c.t=7 then appR r s c.a c.b else(t,r)
def j9 (n:Nat)(v:(Cel×Int)×Rd)(s:Cel):=
 if v.2.e≠0 then(v.1.2,v.2) else if s.c=0/\s.d=0 then(v.1.2,v.2) else kb n v.1.1 v.1.2 v.2 s
mutual
def zG:Nat->Rd->Cel->Int×Rd
 |0,r,_=>(0,r)
 |n+1,r,s=>j9 (n+1) (vT n<|zu r s.a) s
def vT:Nat->(Cel×Int)×Rd->(Cel×Int)×Rd
 |0,v=>v
 |n+1,v=>if v.2.e=0/\v.1.1.t=8 then vT n (zu (yG (zG n v.2 v.1.1).2 v.1.2 (zG n v.2 v.1.1).1) (zG n v.2 v.1.1).1) else v
end
def kx (r:Rd)(b arg:Int):=
 putR (putR (putR r ⟨9,0,0,0,0⟩).2 ⟨11,(putR r ⟨9,0,0,0,0⟩).1,arg,0,0⟩).2 ⟨8,b,(putR (putR r ⟨9,0,0,0,0⟩).2 ⟨11,(putR r ⟨9,0,0,0,0⟩).1,arg,0,0⟩).1,1,0⟩
structure OkH (s:Hp):Prop where
 C:s.C.length<=1048576
 M:s.M<=1048576
 T:s.T.length<=1048576
 L:s.L<=1048576
def OkH.put {s}(h:OkH s)(c):OkH (putS s c).2:=by
 unfold putS;split
 .exact h
 .split
  .exact h
  next _ q=>have:=h.M;exact⟨zd,h.M,h.T,h.L⟩
def OkH.set {s}(h:OkH s)(a c):OkH (setS s a c).2:=by
 unfold setS;split
 .exact h
 .split
  .exact h
  .split
   .exact h
   .split
    .exact h
    next _ _ _ q=>have:=h.L;exact⟨by simp[Gn];exact h.C,h.M,zd,h.L⟩
structure OkR (r:Rd):Prop where
 h:OkH r.s
 f0:0-4611686018427387904<=r.f
 f1:r.f<=4611686018427387904
def OkR.fail {r}(h:OkR r)(e):OkR (yq r e):=⟨h.h,h.f0,h.f1⟩
def OkR.put {r}(h:OkR r)(c):OkR (putR r c).2:=by
 unfold putR;split
 .exact⟨h.h.put c,h.f0,h.f1⟩
 .exact h
def OkR.keep {r}(h:OkR r)(a b):OkR (yG r a b):=by
 unfold yG;split
 .exact⟨h.h.set a _,h.f0,h.f1⟩
 .exact h
def OkR.less {r}(h:OkR r)(b:¬r.f<=0):OkR ⟨r.s,r.f-1,r.e⟩:=⟨h.h,zd,by have:=h.f1;dsimp only;omega⟩
def OkR.visit {r}(h:OkR r)(a):OkR (zu r a).2:=by
 unfold zu;split
 .exact h.fail 1
 .split
  .exact h.fail 1
  .split
   .exact h.fail 1
   .split
    .exact h.fail 80
    .split
     .exact h
     next q _=>exact h.less q
def OkR.lift {r}(h:OkR r)(a u):OkR (vO r a u).2:=by
 unfold vO;split
 .exact h
 .exact(h.put _).put _
def OkR.entry:∀(n) {r} (b j),OkR r->OkR (yk n r b j).2
 |0,_,_,_,h=>h
 |n+1,r,b,j,h=>by
  rw[yk];split
  .exact h.fail 1
  .split
   .exact h.fail 1
   .split
    .exact h
    .split
     .exact h
     .split
      .exact h.fail 80
      next q=>exact OkR.entry n _ _<|h.less q
def OkR.loose (n){r}(h:OkR r)(s j):OkR (losR n r s j).2:=by
 have e:=OkR.entry n s.b j h;unfold losR;split
 .split
  .split
   .exact e.put _
   .exact e.lift _ _
  .exact e.put _
 .exact h.put _
def OkR.lam {r}(h:OkR r)(s b):OkR (lamR r s b).2:=((h.put _).put _).put _
def OkR.app {r}(h:OkR r)(s f x):OkR (appR r s f x).2:=((h.put _).put _).put _
def OkR.level (n){r}(h:OkR r)(c t s):OkR (kb n c t r s).2:=by
 unfold kb;split
 .exact h.loose n s _
 .split
  .exact h.lam s _
  .split
   .exact h.app s _ _
   .exact h
def OkR.spun (n){v}(h:OkR v.2)(s):OkR (j9 n v s).2:=by
 unfold j9;split
 .exact h
 .split
  .exact h
  .exact h.level n _ _ s
mutual
def OkR.open:∀(n:Nat) {r:Rd} (s:Cel),OkR r->OkR (zG n r s).2
 |0,_,_,h=>h
 |n+1,r,s,h=>by rw[zG];exact OkR.spun (n+1) (OkR.spin n<|h.visit s.a) s
def OkR.spin:∀(n:Nat) {v:(Cel×Int)×Rd},OkR v.2->OkR (vT n v).2
 |0,_,h=>h
 |n+1,v,h=>by
  rw[vT];split
  .exact OkR.spin n<|((OkR.open n v.1.1 h).keep _ _).visit _
  .exact h
end
def OkR.beta {r}(h:OkR r)(b arg):OkR (kx r b arg).2:=((h.put _).put _).put _
abbrev aRd:TV:=.c<|.a<|.ep 0 3 0 0
abbrev rd3 (o:Nat)(r:Rd):AObj:=.arr 3 [[.a<|.ep o 6 0 0,qi r.f,qi r.e]]
abbrev oRd (r:Rd):=[rd3 1 r,hp6 2 3 4 5 r.s,.arz 5<|CR r.s.C,.arz 7<|TR r.s.T,.arz 1<|NR r.s.N,.mapz<|NM r.s.N 0]
abbrev oRd' (r:Rd):=[rd3 1 r,hp6 6 7 8 5 r.s,.gone,.gone,.gone,.mapz<|NM r.s.N 0,.arz 5<|CR r.s.C,.arz 7<|TR r.s.T,.arz 1<|NR r.s.N]
abbrev tCI (x:Cel×Int):TV:=.tup [(true,[qi x.1.t,qi x.1.a,qi x.1.b,qi x.1.c,qi x.1.d]),(false,[qi x.2])]
def bne_of {x n:Int}(h:(x !=n)=true):x≠n:=zd
def beq_of {x n:Int}(h:(x !=n)=false):x=n:=zd
def yg {x n:Int}{A B}(d:x≠n->A)(b:x=n->B):br (x !=n) A B:=zm (λh=>d<|bne_of h) λh=>b<|beq_of h
def uB (r e):AC EF 180 [aRd,ci e] (oRd r) (ci 0) (oRd<|yq r e):=by
 refine acv (v180 ..) ?_;refine zF (λh=>?_) λh=>?_
 .rw[show yq r e=⟨r.s,r.f,e⟩ by rw[yq,EL h]];exact rrl
 .rw[show yq r e=r by rw[yq,EG h]];exact rrl
def u5 (r c)(h:OkR r):AC EF 156 [aRd,aCe c] (oRd r) (ci (putR r c).1) (oRd' (putR r c).2):=by
 have d:=wd r.s c (by have:=h.h.C;omega);have b:=uB ⟨(putS r.s c).2,r.f,r.e⟩ (putS r.s c).1.2;unfold putR;refine AC.vc hP sh lv153 zb (by simp[isLive]) (by split<;>simp[isLive])<|Eq.mpr (v156 ..) ?_;refine yg (λh=>?_) λh=>?_
 .rw[EG h];exact rrl
 .rw[EL h];rw[show yq ⟨(putS r.s c).2,r.f,r.e⟩ (putS r.s c).1.2=⟨(putS r.s c).2,r.f,(putS r.s c).1.2⟩ from by rw[yq,EL h]] at b;exact⟨putS r.s c,d,(0,r.f,(putS r.s c).1.2),b,.refl _,rfl⟩
def J9 (r a b)(h:OkR r):AC EF 153 [aRd,ci a,ci b] (oRd r) (.tup []) (oRd'<|yG r a b):=by
 have i:=c_hset r.s a ⟨5,b,0,0,0⟩ (by have:=h.h.T;omega);have g:=uB ⟨(setS r.s a ⟨5,b,0,0,0⟩).2,r.f,r.e⟩ (setS r.s a ⟨5,b,0,0,0⟩).1;unfold yG;refine AC.vc hP sh lv153 zb (by simp[isLive]) (by split<;>simp[isLive])<|Eq.mpr (v153 ..) ?_;refine zF (λh=>yg (λd=>?_) λd=>?_) λh=>?_
 .rw[EL ⟨h,d⟩];rw[show yq ⟨(setS r.s a ⟨5,b,0,0,0⟩).2,r.f,r.e⟩ (setS r.s a ⟨5,b,0,0,0⟩).1=⟨(setS r.s a ⟨5,b,0,0,0⟩).2,r.f,(setS r.s a ⟨5,b,0,0,0⟩).1⟩ from by rw[yq,EL h]] at g;exact⟨setS r.s a ⟨5,b,0,0,0⟩,i,(0,r.f,(setS r.s a ⟨5,b,0,0,0⟩).1),g,.refl _,rfl⟩
 .rw[EG λq=>q.2 d];exact rrl
 .rw[EG λq=>h q.1];exact rrl
abbrev stD (s:Hp)(a x y:Int):St:=⟨[(0,aH 0),(1,ci a),(11,ci x),(12,ci y)],[(0,hp6 1 2 3 4 s),(1,.arz 5<|CR s.C),(2,.arz 7<|TR s.T),(3,.arz 1<|NR s.N),(4,.mapz<|NM s.N 0)],5⟩
def aA (s)(e:s.C.length<=1073741824):∀(n) (a) (y:Nat),y+n=s.C.length->RPt EF 157 5 (ci<|Wf s.C n a) (oH s) 1 (stD s a s.C.length y)
 |0,a,y,d=>by refine rpv (AE ..) ?_;exact bF za rrl
 |n+1,a,y,d=>by
  refine rpv (AE ..) ?_;have nx:=aA s e n (zB s.C a).a (y+1) za;rw[w64 za za];refine zm (λ_=>⟨_,_,_,_,_,_,wY s a,zm (λh=>?_) λh=>yg (λb=>?_) λb=>?_⟩) (λh=>absurd (ES h) za)
  .rw[Wf,EL<|zl h];exact rrl
  .rw[Wf,EG<|zl h,EL b];exact rrl
  .rw[Wf,EG<|zl h,EG λq=>q b];exact nx
def Jp (s)(b:s.C.length<=1073741824)(a):AC EF 157 [aH 0,ci a] (oH s) (ci<|wh s.C a) (oH s):=by refine acv (v157 ..) ?_;exact aA s b s.C.length a 0 za
def pq (r){e}(h:e≠0):(yq r e).e≠0:=by show(if r.e=0 then e else r.e)≠0;omega
def Jh (r a)(h:OkR r):AC EF 151 [aRd,ci a] (oRd r) (tCI (zu r a).1) (oRd (zu r a).2):=by
 have hd:=Jp r.s (by have:=h.h.C;omega) a;have f0:=h.f0;have x:=h.f1;have b:zu r a=if inC r.s.C _=false then((⟨2,0,0,0,0⟩,0),yq r 1) else if 9<=(zB r.s.C _).t then((⟨2,0,0,0,0⟩,0),yq r 1) else if (zB r.s.C _).t=5 then((⟨2,0,0,0,0⟩,0),yq r 1) else if r.f<=0 then((⟨2,0,0,0,0⟩,0),yq r 80) else if r.e≠0 then((⟨2,0,0,0,0⟩,0),r) else((zB r.s.C _,wh r.s.C a),⟨r.s,r.f-1,r.e⟩):=rfl
 generalize wh r.s.C a=d at*;have g:∀(e) p {Q:Prop},zu r a=((⟨2,0,0,0,0⟩,0),yq r e)->br ((yq r e).e !=0) (TV.Le _ (tCI (zu r a).1)/\oRd _=oRd (zu r a).2) Q:=λe p Q v=>by rw[v];exact yg (λ_=>rrl) λh=>absurd h<|pq r p
 refine acv (v151 ..) ?_;refine⟨d,hd,_,_,_,_,_,_,(wY r.s d),zm (λq=>?_) λq=>zm (λi=>?_) λi=>zF (λm=>?_) λm=>zm (λj=>?_) λj=>yg (λo=>?_) λo=>?_⟩
 .rw[EL zd] at b;exact⟨(0,(yq r 1).f,(yq r 1).e),uB r 1,g 1 zc b⟩
 .rw[EG<|zl q,EL<|S0 i] at b;exact⟨(0,(yq r 1).f,(yq r 1).e),uB r 1,g 1 zc b⟩
 .rw[EG<|zl q,EG<|ES i,EL m] at b;exact⟨(0,(yq r 1).f,(yq r 1).e),uB r 1,g 1 zc b⟩
 .rw[EG<|zl q,EG<|ES i,EG m,EL<|S0 j] at b;exact⟨(0,(yq r 80).f,(yq r 80).e),uB r 80,g 80 zc b⟩
 .rw[EG<|zl q,EG<|ES i,EG m,EG<|ES j,EL o] at b;rw[b];exact rrl
 .have j:=ES j;rw[EG<|zl q,EG<|ES i,EG m,EG j,EG λw=>w o] at b;rw[b,w64 za za];exact rrl
def mP (r a u)(h:OkR r):AC EF 201 [aRd,ci a,ci u] (oRd r) (ci (vO r a u).1) (oRd' (vO r a u).2):=by
 unfold vO;refine AC.vc hP sh lv153 zb (by simp[isLive]) (by split<;>simp[isLive])<|Eq.mpr (v201 ..) ?_;refine zF (λq=>?_) λq=>?_
 .rw[EL q];exact rrl
 .rw[EG q];exact⟨_,(u5 r ⟨9,0,0,0,0⟩ h),_,(u5 (putR r ⟨9,0,0,0,0⟩).2 ⟨8,a,(putR r ⟨9,0,0,0,0⟩).1,0,u⟩<|h.put _),.refl _,rfl⟩
abbrev aCB (x:Cel×Bool):=tCe x.1 x.2
abbrev stEn (r:Rd)(row j:Int)(c:Cel):St:=⟨[(0,aRd),(1,ci row),(2,ci j),(6,.c<|.a<|.ep 6 5 0 0)],[(0,rd3 1 r),(1,hp6 2 3 4 5 r.s),(2,.arz 5<|CR r.s.C),(3,.arz 7<|TR r.s.T),(4,.arz 1<|NR r.s.N),(5,.mapz<|NM r.s.N 0),(6,.arr 5 [[qi c.t,qi c.a,qi c.b,qi c.c,qi c.d]])],7⟩
def aN (c):∀(n) (r) (b j),OkR r->r.f.toNat<n->RPt EF 200 6 (aCB (yk n r b j).1) (oRd (yk n r b j).2) 1 (stEn r b j c)
 |0,_,_,_,_,h=>absurd h za
 |n+1,r,b,j,ok,v=>by
  have f0:=ok.f0;have u:=ok.f1;have d:yk (n+1) r b j=if inC r.s.C b=false then((noC,false),yq r 1) else if (zB r.s.C b).t<9 then((noC,false),yq r 1) else if (zB r.s.C b).t=9 then((noC,false),r) else if j=0 then((zB r.s.C b,true),r) else if r.f<=0 then((noC,false),yq r 80) else yk n ⟨r.s,r.f-1,r.e⟩ (zB r.s.C b).a _:=rfl
  refine rpv (v200_1a ..) ?_;refine⟨_,_,_,_,_,_,(wY r.s b),zm (λq=>?_) λq=>zm (λi=>?_) λi=>zF (λm=>?_) λm=>zF (λo=>?_) λo=>zm (λg=>?_) λg=>?_⟩
  .rw[EL zd] at d;rw[d];exact⟨(0,(yq r 1).f,(yq r 1).e),uB r 1,.refl _,rfl⟩
  .rw[EG<|zl q,EL<|S0 i] at d;rw[d];exact⟨(0,(yq r 1).f,(yq r 1).e),uB r 1,.refl _,rfl⟩
  .rw[EG<|zl q,EG<|ES i,EL m] at d;rw[d];exact rrl
  .rw[EG<|zl q,EG<|ES i,EG m,EL o] at d;rw[d];exact rrl
  .rw[EG<|zl q,EG<|ES i,EG m,EG o,EL<|S0 g] at d;rw[d];exact⟨(0,(yq r 80).f,(yq r 80).e),uB r 80,.refl _,rfl⟩
  .have g:=ES g;rw[EG<|zl q,EG<|ES i,EG m,EG o,EG g] at d;rw[d,w64 (x:=r.f-1) za za];exact(λq=>aN c n ⟨r.s,r.f-1,r.e⟩ (zB r.s.C b).a (wr<|j-1) (ok.less q) zk) g
def c_rentry (n r b j)(h:OkR r)(d:r.f.toNat<n):AC EF 200 [aRd,ci b,ci j] (oRd r) (aCB (yk n r b j).1) (oRd (yk n r b j).2):=by refine acv (v200 ..) ?_;exact aN noC n r b j h d
def c_slo (n r s j)(h:OkR r)(E:r.f.toNat<n):AC EF 182 [aRd,aCe s,ci j] (oRd r) (ci (losR n r s j).1) (oRd' (losR n r s j).2):=by
 have C:=c_rentry n r s.b j h E;have D:(yk n r s.b j).2.s=r.s:=by
  have key:∀(n) r (i j),(yk n r i j).2.s=r.s:=by
   intro n
   induction n with
   |zero=>intro r i j;rfl
   |succ n ih=>
    intro r i j;rw[yk];split
    .rfl
    .split
     .rfl
     .split
      .rfl
      .split
       .rfl
       .split
        .rfl
        .exact ih _ _ _
  grind
 have y:=OkR.entry n s.b j h
 have e0:losR n r s j=if j<s.c then
  if (yk n r s.b j).1.2=true then
   if (yk n r s.b j).1.1.t=10 then putR (yk n r s.b j).2 ⟨3,wr _,0,0,0⟩ else vO (yk n r s.b j).2 (yk n r s.b j).1.1.b _ else putR (yk n r s.b j).2 ⟨3,wr _,0,0,0⟩ else putR r ⟨3,wr _,0,0,0⟩:=rfl
 generalize yk n r s.b j=z at*;let ⟨⟨c,b⟩,⟨F,o,p⟩⟩:=z;obtain rfl:F=r.s:=D;refine acv (v182 ..) ?_;refine zm (λq=>⟨(c.t,c.a,c.b,c.c,c.d,b,o,p),C,?_⟩) λq=>?_
 .rw[EL<|S0 q] at e0;have u:b=true->c.t≠10->losR n r s j=vO ⟨r.s,o,p⟩ c.b _:=λe g=>by rw[e0,EL e,EG g]
  have w:b=false->losR n r s j=putR ⟨r.s,o,p⟩ ⟨3,wr _,0,0,0⟩:=λe=>by rw[e0,EG<|by show¬b=true;rw[e];decide]
  refine zm (λe=>zF (λg=>?_) λg=>zm (λ_=>?_) λm=>absurd (show b=true from e)<|by rw[show b=false from m];decide) (λe=>zm (λm=>absurd (show b=true from m)<|by rw[show b=false from e];decide) λ_=>?_)
  .have e:=e;rw[EL e,EL g] at e0;rw[e0];exact⟨_,(u5 ⟨r.s,o,p⟩ ⟨3,wr<|wr (s.d-1)-c.b,0,0,0⟩ y),.refl _,rfl⟩
  .rw[u e g];exact⟨_,(mP ⟨r.s,o,p⟩ c.b (wr<|s.d-c.c) y),.refl _,rfl⟩
  .rw[w e];exact⟨_,(u5 ⟨r.s,o,p⟩ ⟨3,wr<|wr (j-s.c)+s.d,0,0,0⟩ y),.refl _,rfl⟩
 .rw[EG<|ES q] at e0;rw[e0];exact⟨_,(u5 r ⟨3,wr<|wr (j-s.c)+s.d,0,0,0⟩ h),.refl _,rfl⟩
abbrev oCl (r:Rd)(s:Cel):=[.arr 1 [[.a<|.ep 1 3 0 0]],rd3 2 r,hp6 3 4 5 6 r.s,.arz 5<|CR r.s.C,.arz 7<|TR r.s.T,.arz 1<|NR r.s.N,.mapz<|NM r.s.N 0,.arr 5 [[qi s.t,qi s.a,qi s.b,qi s.c,qi s.d]]]
abbrev oCl' (r:Rd)(s:Cel):=[.arr 1 [[.a<|.ep 1 3 0 0]],rd3 2 r,hp6 8 9 10 6 r.s,.gone,.gone,.gone,.mapz<|NM r.s.N 0,.arr 5 [[qi s.t,qi s.a,qi s.b,qi s.c,qi s.d]],.arz 5<|CR r.s.C,.arz 7<|TR r.s.T,.arz 1<|NR r.s.N]
def YQ (r s a e b)(h:OkR r):AC EF 181 [ci a,ci e,ci b,.c<|.a<|.ep 0 1 0 0,.c<|.a<|.ep 7 5 0 0] (oCl r s) (ci (yR r s a e b).1) (oCl' (yR r s a e b).2 s):=by have f:=u5 r ⟨8,a,e,wr<|s.c+b,wr<|s.d+b⟩ h;refine acv (v181 ..) ?_;exact⟨_,f,.refl _,rfl⟩
def c_rbeta (r c arg)(h:OkR r):AC EF 154 [aRd,aCe c,ci arg] (oRd r) (ci (kx r c.a arg).1) (oRd' (kx r c.a arg).2):=by have d:=u5 r ⟨9,0,0,0,0⟩ h;have e:=u5 (putR r ⟨9,0,0,0,0⟩).2 ⟨11,(putR r ⟨9,0,0,0,0⟩).1,arg,0,0⟩<|h.put _;have b:=u5 (putR (putR r ⟨9,0,0,0,0⟩).2 ⟨11,(putR r ⟨9,0,0,0,0⟩).1,arg,0,0⟩).2 ⟨8,c.a,(putR (putR r ⟨9,0,0,0,0⟩).2 ⟨11,(putR r ⟨9,0,0,0,0⟩).1,arg,0,0⟩).1,1,0⟩<|(h.put _).put _;refine acv (v154 ..) ?_;exact⟨_,d,_,e,_,b,.refl _,rfl⟩
abbrev stOp (r:Rd)(s c:Cel)(t:Int):St:=
 ⟨[(2,.c<|.a<|.ep 9 1 0 0),(3,.c<|.a<|.ep 10 5 0 0),(5,.c<|.a<|.ep 11 5 0 0),(6,ci t)],[(0,rd3 1 r),(1,hp6 6 7 8 5 r.s),(2,.gone),(3,.gone),(4,.gone),(5,.mapz<|NM r.s.N 0),(6,.arz 5<|CR r.s.C),(7,.arz 7<|TR r.s.T),(8,.arz 1<|NR r.s.N),(9,.arr 1 [[.a<|.ep 0 3 0 0]]),
  (10,.arr 5 [[qi s.t,qi s.a,qi s.b,qi s.c,qi s.d]]),(11,.arr 5 [[qi c.t,qi c.a,qi c.b,qi c.c,qi c.d]])],12⟩
def l_ropen8 (n r s c t)(h:OkR r)(u:r.f.toNat<n):RPt EF 152 6 (ci (kb n c t r s).1) (oRd' (kb n c t r s).2) 16 (stOp r s c t):=by
 have p:=c_slo n r s c.a h u;have m:=u5 r ⟨10,s.b,s.d,0,0⟩ h;have w1:=YQ (putR r ⟨10,s.b,s.d,0,0⟩).2 s c.a (putR r ⟨10,s.b,s.d,0,0⟩).1 1<|h.put _;have o:=u5 (yR (putR r ⟨10,s.b,s.d,0,0⟩).2 s c.a (putR r ⟨10,s.b,s.d,0,0⟩).1 1).2 ⟨6,(yR (putR r ⟨10,s.b,s.d,0,0⟩).2 s c.a (putR r ⟨10,s.b,s.d,0,0⟩).1 1).1,0,0,0⟩<|(h.put _).put _;have j:=YQ r s c.a s.b 0 h;have v:=YQ (yR r s c.a s.b 0).2 s c.b s.b 0<|h.put _;have i:=u5 (yR (yR r s c.a s.b 0).2 s c.b s.b 0).2 ⟨7,(yR r s c.a s.b 0).1,(yR (yR r s c.a s.b 0).2 s c.b s.b 0).1,0,0⟩<|(h.put _).put _;unfold kb;refine rpv (v152_16a ..) ?_;refine zF (λq=>?_) λq=>zF (λe=>?_) λe=>zF (λg=>?_) λg=>?_
 .rw[EL q];exact⟨_,p,.refl _,rfl⟩
 .rw[EG q,EL e];exact⟨_,m,_,w1,_,o,.refl _,rfl⟩
 .rw[EG q,EG e,EL g];exact⟨_,j,_,v,_,i,.refl _,rfl⟩
 .rw[EG q,EG e,EG g];exact rrl
def K4 (n r s c t)(h:OkR r)(i:r.f.toNat<n):RPt EF 152 6 (ci (j9 n ((c,t),r) s).1) (oRd' (j9 n ((c,t),r) s).2) 12 (stOp r s c t):=by
 have nx:=l_ropen8 n r s c t h i;have e0:j9 n ((c,t),r) s=if r.e≠0 then(t,r) else if s.c=0/\s.d=0 then(t,r) else kb n c t r s:=rfl
 rw[e0];refine rpv (v152_12a ..) ?_;refine yg (λq=>?_) λq=>zF (λg=>zF (λb=>?_) λb=>?_) λg=>?_
 .rw[EL q];exact rrl
 .rw[EG λw=>w q,EL ⟨g,b⟩];exact rrl
 .rw[EG λw=>w q,EG λw=>b w.2];exact nx
 .rw[EG λw=>w q,EG λw=>g w.1];exact nx
def qV (r:Rd)(a:Int):(zu r a).2.f<=r.f/\((zu r a).2.e=0->0<r.f/\(zu r a).2.f=r.f-1):=by
 unfold zu;have b:∀e:Int,e≠0->(yq r e).f<=r.f/\((yq r e).e=0->0<r.f/\(yq r e).f=r.f-1):=λe d=>⟨EQ _,λq=>absurd q<|pq r d⟩;split
 .exact b 1 zc
 .split
  .exact b 1 zc
  .split
   .exact b 1 zc
   .split
    .exact b 80 zc
    .split;next q=>exact⟨EQ _,λw=>absurd w q⟩
     next q _=>exact⟨zk,λ_=>⟨za,rfl⟩⟩
def Jo (r c):(putR r c).2.f=r.f:=by unfold putR;split<;>rfl
def gE (r a b):(yG r a b).f=r.f:=by unfold yG;split<;>rfl
def lift_f (r:Rd)(a u:Int):(vO r a u).2.f=r.f:=by unfold vO;split; · rfl
                                                  .rw[Jo,Jo]
def t9:∀(n) (r) (b j),(yk n r b j).2.f<=r.f
 |0,_,_,_=>EQ _
 |n+1,r,b,j=>by
  rw[yk];split
  .exact EQ _
  .split
   .exact EQ _
   .split
    .exact EQ _
    .split
     .exact EQ _
     .split
      .exact EQ _
      .have:=t9 n ⟨r.s,r.f-1,r.e⟩ (zB r.s.C b).a<|wr<|j-1;dsimp only at this;omega
def level_f (n c t r s):(kb n c t r s).2.f<=r.f:=by
 unfold kb;split
 .have:=t9 n r s.b c.a;unfold losR;split
  .split
   .split
    .rw[Jo];exact this
    .rw[lift_f];exact this
   .rw[Jo];exact this
  .rw[Jo];exact EQ _
 .split
  .simp only[lamR,yR,Jo];exact EQ _
  .split
   .simp only[appR,yR,Jo];exact EQ _
   .exact EQ _
def spun_f (n v s):(j9 n v s).2.f<=v.2.f:=by
 unfold j9;split
 .exact EQ _
 .split
  .exact EQ _
  .exact level_f _ _ _ _ _
mutual
def a8:∀(n:Nat) (r:Rd) (s:Cel),(zG n r s).2.f<=r.f
 |0,_,_=>EQ _
 |n+1,r,s=>by rw[zG];have:=spun_f (n+1) (vT n<|zu r s.a) s;have:=spin_f n<|zu r s.a;have:=(qV r s.a).1;omega
def spin_f:∀(n:Nat) (v:(Cel×Int)×Rd),(vT n v).2.f<=v.2.f
 |0,_=>EQ _
 |n+1,v=>by
  rw[vT];split
  .have:=spin_f n<|zu (yG (zG n v.2 v.1.1).2 v.1.2 (zG n v.2 v.1.1).1) (zG n v.2 v.1.1).1;have:=(qV (yG (zG n v.2 v.1.1).2 v.1.2 (zG n v.2 v.1.1).1) (zG n v.2 v.1.1).1).1;have:=gE (zG n v.2 v.1.1).2 v.1.2 (zG n v.2 v.1.1).1;have:=a8 n v.2 v.1.1;omega
  .exact EQ _
end
abbrev OpenG (n:Nat):=∀(r) s,OkR r->2*r.f.toNat+2<=n->AC EF 152 [aRd,aCe s] (oRd r) (ci (zG n r s).1) (oRd' (zG n r s).2)
def sY (N s):∀(n),(∀m,m<=n->OpenG m)->∀(c) (t) (r),OkR r->2*r.f.toNat+3<=n->n<N->RPt EF 152 6 (ci (j9 N (vT n ((c,t),r)) s).1) (oRd' (j9 N (vT n ((c,t),r)) s).2) 1 (stOp r s c t)
 |n,p,c,t,r,h,J,I=>by
  cases n with
  |zero=>omega
  |succ n=>
  have g:=K4 N r s c t h za;have y:=p n za r c h za;have A:=J9 (zG n r c).2 t (zG n r c).1<|OkR.open n c h;have H:=Jh (yG (zG n r c).2 t (zG n r c).1) (zG n r c).1<|(OkR.open n c h).keep _ _;have x:=((OkR.open n c h).keep t (zG n r c).1).visit (zG n r c).1;have L:=a8 n r c;have M:=gE (zG n r c).2 t (zG n r c).1;have G:=qV (yG (zG n r c).2 t (zG n r c).1) (zG n r c).1;have u:(zu (yG (zG n r c).2 t (zG n r c).1) (zG n r c).1).2.s=(yG (zG n r c).2 t (zG n r c).1).s:=by
   unfold zu;split
   .rfl
   .split
    .rfl
    .split
     .rfl
     .split
      .rfl
      .split<;>rfl
  have e0:vT (n+1) ((c,t),r)=if r.e=0/\c.t=8 then vT n (zu (yG (zG n r c).2 t (zG n r c).1) (zG n r c).1) else((c,t),r):=rfl
  rw[e0]
  have nx:r.e=0->c.t=8->RPt EF 152 6 (ci (j9 N (vT n<|zu (yG (zG n r c).2 t (zG n r c).1) (zG n r c).1) s).1) (oRd' (j9 N (vT n<|zu (yG (zG n r c).2 t (zG n r c).1) (zG n r c).1) s).2) 1
    (stOp (zu (yG (zG n r c).2 t (zG n r c).1) (zG n r c).1).2 s (zu (yG (zG n r c).2 t (zG n r c).1) (zG n r c).1).1.1 (zu (yG (zG n r c).2 t (zG n r c).1) (zG n r c).1).1.2):=λ_ _=>by
   by_cases q:(zu (yG (zG n r c).2 t (zG n r c).1) (zG n r c).1).2.e=0
   .have K:=G.2 q;exact sY N s n (λm O=>p m za) (zu (yG (zG n r c).2 t (zG n r c).1) (zG n r c).1).1.1 (zu (yG (zG n r c).2 t (zG n r c).1) (zG n r c).1).1.2 (zu (yG (zG n r c).2 t (zG n r c).1) (zG n r c).1).2 x za za
   .have z:vT n (zu (yG (zG n r c).2 t (zG n r c).1) (zG n r c).1)=zu (yG (zG n r c).2 t (zG n r c).1) (zG n r c).1:=by
     cases n with
     |zero=>rfl
     |succ n=>rw[vT,EG λw=>q w.1]
    rw[z];have C:=K4 N (zu (yG (zG n r c).2 t (zG n r c).1) (zG n r c).1).2 s (zu (yG (zG n r c).2 t (zG n r c).1) (zG n r c).1).1.1 (zu (yG (zG n r c).2 t (zG n r c).1) (zG n r c).1).1.2 x za;refine rpv (dA ..) ?_;exact zF (λw=>absurd w q) λ_=>C
  generalize zu (yG (zG n r c).2 t (zG n r c).1) (zG n r c).1=v at*;generalize yG (zG n r c).2 t (zG n r c).1=k at*;generalize zG n r c=o at*;let ⟨⟨i,D⟩,⟨vs,E,F⟩⟩:=v;dsimp only at u;subst u;refine rpv (dA ..) ?_;refine zF (λq=>zF (λj=>?_) λj=>?_) λq=>?_
  .rw[EL ⟨q,j⟩];exact⟨o,y,k,A,(i.t,i.a,i.b,i.c,i.d,D,E,F),H,nx q j⟩
  .rw[EG λw=>j w.2];exact g
  .rw[EG λw=>q w.1];exact g
def sj (r a):(zu r a).2.s=r.s:=by
 unfold zu;split
 .rfl
 .split
  .rfl
  .split
   .rfl
   .split
    .rfl
    .split<;>rfl
def c_ropen:∀n,∀m,m<=n->OpenG m:=by
 intro n
 induction n with
 |zero=>intro m C r s _ h;omega
 |succ n ih=>
  intro m C r s h E;cases m with
  |zero=>omega
  |succ m=>
  have A:=Jh r s.a h;have j:=h.visit s.a;have g:=qV r s.a;have i:=sj r s.a;rw[zG];have z:RPt EF 152 6 (ci (j9 (m+1) (vT m<|zu r s.a) s).1) (oRd' (j9 (m+1) (vT m<|zu r s.a) s).2) 1 (stOp (zu r s.a).2 s (zu r s.a).1.1 (zu r s.a).1.2):=by
   by_cases q:(zu r s.a).2.e=0
   .have F:=g.2 q;exact sY (m+1) s m (λk D=>ih k za) (zu r s.a).1.1 (zu r s.a).1.2 (zu r s.a).2 j za za
   .have o:vT m (zu r s.a)=zu r s.a:=by
     cases m with
     |zero=>rfl
     |succ m=>rw[vT,EG λw=>q w.1]
    rw[o];have p:=K4 (m+1) (zu r s.a).2 s (zu r s.a).1.1 (zu r s.a).1.2 j (by have:=g.1;omega);refine rpv (dA ..) ?_;exact zF (λw=>absurd w q) λ_=>p
  generalize zu r s.a=v at*;let ⟨⟨f,u⟩,⟨vs,x,y⟩⟩:=v;dsimp only at i;subst i;refine acv (v152 ..) ?_;exact⟨(f.t,f.a,f.b,f.c,f.d,u,x,y),A,z⟩
def zD (l):(IR l).length=l.length:=by simp[IR]
def wW {l i}(h:i<l.length):getD (IR l) i []=[.int .i64 l[i]]:=by simp[IR,getD,h]
def qIR_app (a b):IR (a++b)=IR a++IR b:=by simp[IR]
def WX (n l):take n (IR l)=IR (l.take n):=by simp[IR,Gu]
def Et (i l x):List.set (IR l) i [.int .i64 x]=IR (l.set i x):=by simp[IR,GZ]
def bO (A x y)(B:List Int):(A++x::B).set A.length y=A++y::B:=zb
def Kk (A x B):getD (IR<|A++x::B) A.length []=[.int .i64 x]:=by rw[wW zb];simp
def l_revi (n)(L:n<=1073741824):∀(k) (m A Z),m.length<=k->A.length+m.length<=n->
  RPt EF 155 1 (.tup []) [.arz 1<|IR<|A++m.reverse++Z] 1 ⟨[(0,.c<|.a<|.osl 0 1 0 n),(2,ci A.length),(3,ci<|A.length+m.length-1)],[(0,.arz 1<|IR<|A++m++Z)],1⟩:=by
 intro k
 induction k with
 |zero=>intro m A Z j _;have:m=[]:=S1 za;subst this;refine rpv (qW ..) ?_;exact bF (by simp[EY];omega) rrl
 |succ k ih=>
  intro m A Z j w;by_cases g:m.length<=1
  .have e:m.reverse=m:=by
    match m,g with
    |[],_=>rfl
    |[x],_=>rfl
   rw[e];refine rpv (qW ..) ?_;exact bF za rrl
  .obtain⟨x,d,rfl⟩:∃x d,m=x::d:=by
    cases m with
    |nil=>simp at g
    |cons x d=>exact⟨x,d,rfl⟩
   obtain⟨b,y,rfl⟩:∃b y,d=b++[y]:=by
    have:d≠[]:=λe=>by rw[e] at g;simp at g
    exact⟨d.dropLast,d.getLast this,(List.dropLast_concat_getLast this).symm⟩
   simp[EH,EJ,EY] at j w;have nx:=ih b (A++[y]) (x::Z) za zj;have i:A++(x::(b++[y]))++Z=A++x::(b++y::Z):=zb;have J:A++(x::(b++[y]))++Z=(A++x::b)++y::Z:=zb;have v:(A++y::b)++y::Z=A++y::(b++y::Z):=zb;have l1:(A++x::b).length=A.length+b.length+1:=zj;have f:(A++y::b).length=A.length+b.length+1:=zj;have t2:toNat (A.length:Int)=A.length:=za;have t3:toNat ((A.length:Int)+(((x::(b++[y])).length:Nat):Int)-1)=A.length+b.length+1:=by simp[EH,EJ,EY];omega
   have z:getD (IR<|A++(x::(b++[y]))++Z) (0+A.length) []=[.int .i64 x]:=by rw[Sa,i,Kk]
   have G:getD (IR<|A++(x::(b++[y]))++Z) (0+(A.length+b.length+1)) []=[.int .i64 y]:=by rw[Sa,J,<-l1,Kk]
   have r:List.set (IR<|A++(x::(b++[y]))++Z) (0+A.length) [.int .i64 y]=IR ((A++y::b)++y::Z):=by rw[Sa,i,Et,bO,v]
   have H:List.set (IR<|(A++y::b)++y::Z) (0+(A.length+b.length+1)) [.int .i64 x]=IR ((A++y::b)++x::Z):=by rw[Sa,Et,<-f,bO]
   have p:(IR<|A++(x::(b++[y]))++Z).length=A.length+b.length+2+Z.length:=by rw[zD];simp;omega
   have len1:(IR<|(A++y::b)++y::Z).length=A.length+b.length+2+Z.length:=by rw[zD];simp;omega
   have K:(getD (IR<|(A++y::b)++y::Z) (0+(A.length+b.length+1)) []).length=1:=by rw[Sa,<-f,Kk];rfl
   refine rpv (qW ..) ?_;rw[t2,t3,z,G];have u:FV.I (getD [.int .i64 x] 0 FV.N)=x:=rfl;have D:FV.I (getD [.int .i64 y] 0 FV.N)=y:=rfl;rw[u,D,r,H,w64 (x:=(A.length:Int)+1) za za,w64 (x:=A.length+(((x::(b++[y])).length))-1-1) (by simp[EH,EJ,EY];omega)<|by simp[EH,EJ,EY];omega];have C:A++(x::(b++[y])).reverse++Z=A++[y]++b.reverse++(x::Z):=zb;rw[C];have F:A++[y]++b++(x::Z)=(A++y::b)++x::Z:=zb;rw[F] at nx;have E:(((A++[y]).length:Nat):Int)=(A.length:Int)+1:=zb;have I:(((A++[y]).length))+b.length-1=A.length+(((x::(b++[y])).length:Nat):Int)-1-1:=by simp[EH,EJ,EY];omega
   rw[I,E] at nx;have o:(0:Int)<=(A.length:Int)+(((x::(b++[y])).length:Nat):Int)-1/\(A.length:Int)+(((x::(b++[y])).length:Nat):Int)-1<(n:Int):=by simp[EH,EJ,EY];omega
   exact zm (λ_=>⟨o,⟨za,rfl,rfl⟩,⟨za,za⟩,⟨za,rfl,rfl⟩,⟨za,za⟩,⟨za,rfl⟩,o,⟨za,K⟩,nx⟩) (λh=>absurd (ES h)<|by simp[EH,EJ,EY];omega)
def c_revi (b n)(d:n<=b.length)(f:n<=1073741824):AC EF 155 [.c<|.a<|.osl 0 1 0 n] [.arz 1<|IR b] (.tup []) [.arz 1<|IR<|(b.take n).reverse++b.drop n]:=by have l:=l_revi n f n (b.take n) [] (b.drop n) zj zj;rw[SD,SD,List.take_append_drop,S8,G2 d,EY] at l;refine acv (v155_i1 ..) ?_;rw[w64 za za];grind
def c_revi0:AC EF 155 [.c<|qf .N] [] (.tup []) []:=by
 have h:AC EF 155 [.c<|qf<|.sl false 1 []] [] (.tup []) []:=by refine acv (v155 ..) ?_;refine⟨rfl,rpv (v155_1a ..) ?_⟩;exact bF zc rrl
 exact h.args ⟨le_c<|.N 1,trivial⟩
structure HdS where
 l:List Int
 b:Bool
 a:Int
 r:Rd
def headL:Nat->List Int->Bool->Int->Rd->HdS
 |0,l,b,a,r=>⟨l,b,a,r⟩
 |n+1,l,b,a,r=>
  if r.e≠0 then⟨l,b,a,r⟩ else if (zu r a).2.e≠0 then⟨l,b,(zu r a).1.2,(zu r a).2⟩ else if (zu r a).1.1.t=7 then headL n ((zu r a).1.1.b::l) b (zu r a).1.1.a (zu r a).2 else if (zu r a).1.1.t=8 then headL n l b (zG n (zu r a).2 (zu r a).1.1).1<|yG (zG n (zu r a).2 (zu r a).1.1).2 (zu r a).1.2 (zG n (zu r a).2 (zu r a).1.1).1
  else if (zu r a).1.1.t=6 then
   if l=[] then⟨l,b,(zu r a).1.2,(zu r a).2⟩ else headL n l.tail true (kx (zu r a).2 (zu r a).1.1.a<|l.headD 0).1 (kx (zu r a).2 (zu r a).1.1.a<|l.headD 0).2
  else⟨l,b,(zu r a).1.2,(zu r a).2⟩
def uO:List Int->Int->Rd->Int×Rd
 |[],f,r=>(f,r)
 |x::l,f,r=>uO l (putR r ⟨7,f,x,0,0⟩).1 (putR r ⟨7,f,x,0,0⟩).2
def jb (root:Int)(h:HdS):=
 ((h.a,h.l),if h.b=true then yG (uO h.l h.a h.r).2 (wh (uO h.l h.a h.r).2.s.C root) (uO h.l h.a h.r).1 else h.r)
def yi (n:Nat)(r:Rd)(root:Int):=jb root<|headL n [] false root r
def OkR.apps:∀(l) (f) {r},OkR r->OkR (uO l f r).2
 |[],_,_,h=>h
 |x::l,f,r,h=>by rw[uO];exact OkR.apps l _<|h.put _
def OkR.headL:∀(n) (l) (b) (a) {r},OkR r->OkR (Go.AM.headL n l b a r).r
 |0,_,_,_,_,h=>h
 |n+1,l,b,a,r,h=>by
  have v:=h.visit a;rw[Go.AM.headL];split
  .exact h
  .split
   .exact v
   .split
    .exact OkR.headL n _ _ _ v
    .split
     .exact OkR.headL n _ _ _<|(OkR.open _ _ v).keep _ _
     .split
      .split
       .exact v
       .exact OkR.headL n _ _ _<|v.beta _ _
      .exact v
def OkR.head (n){r}(b)(h:OkR r):OkR (yi n r b).2:=by
 have d:=OkR.headL n [] false b h;show OkR (if _ then _ else _);split
 .exact(OkR.apps _ _ d).keep _ _
 .exact d
abbrev aSpn (x:Int×List Int):TV:=.agg [qi x.1,qf<|.sl false 1<|IR x.2]
abbrev hpH (r:Rd)(z:Int)(more:List<|Nat×AObj):AHeap:=[(0,rd3 1 r),(1,hp6 6 7 8 5 r.s),(2,.gone),(3,.gone),(4,.gone),(5,.mapz<|NM r.s.N 0),(6,.arz 5<|CR r.s.C),(7,.arz 7<|TR r.s.T),(8,.arz 1<|NR r.s.N),(9,.arr 2 [[qi z,qf .N]])]++more
abbrev stA (r:Rd)(root a z:Int)(b:Bool):St:=⟨[(0,aRd),(1,ci root),(4,.c<|.a<|.ep 9 2 0 0),(5,.c<|qf .N),(6,cb b),(7,ci a)],hpH r z [],10⟩
abbrev stB (r:Rd)(root a z:Int)(b:Bool)(n:Nat)(js:List Int):St:=⟨[(0,aRd),(1,ci root),(4,.c<|.a<|.ep 9 2 0 0),(5,.c<|.a<|.osl 10 1 0 n),(6,cb b),(7,ci a)],hpH r z [(10,.arz 1<|IR js)],11⟩
def gz (d h z e i)(g:i.take e.length=e)(u:e.length<=1073741824):∀(l b) (f) (r),e=b++l->OkR r->
  RPt EF 109 6 (aSpn (h,e)) (oRd'<|yG (uO l f r).2 (wh (uO l f r).2.s.C d) (uO l f r).1) 7
   ⟨[(0,aRd),(1,ci d),(4,.c<|.a<|.ep 9 2 0 0),(5,.c<|.a<|.osl 10 1 0 e.length),(7,ci h),(10,ci f),(81,.c<|.a<|.osl 10 1 0 e.length),(82,ci e.length),(83,ci b.length)],hpH r z [(10,.arz 1<|IR i)],11⟩
 |[],b,f,r,j,ok=>by
  rw[S6] at j;have p:e.length<=i.length:=by grind
  refine rpv (A6 ..) ?_;refine bF (by rw[j];omega) ⟨_,(Jp r.s (by have:=ok.h.C;omega) d),_,(J9 r (wh r.s.C d) f ok),⟨rfl,by rw[zD];omega⟩,?_,rfl⟩;rw[Sg,WX,g];exact .refl _
 |x::l,b,f,r,j,ok=>by
  have nx:=gz d h z e i g u l (b++[x]) (putR r ⟨7,f,x,0,0⟩).1 (putR r ⟨7,f,x,0,0⟩).2 (by rw[j];simp)<|ok.put _;have v:e.length=b.length+(l.length+1):=zd;have p:e.length<=i.length:=by grind
  have A:getD (IR i) (0+toNat b.length) []=[.int .i64 x]:=by
   rw[Sa,(za:toNat b.length=b.length)];have o:(i.take e.length)[b.length]?=some x:=zd;rw[GX za] at o;have m:b.length<i.length:=za;rw[EU m] at o;injection o with o
   rw[wW m,o]
  rw[show(((b++[x]).length))=b.length+1 by simp] at nx;refine rpv (A6 ..) ?_;rw[A,w64 (x:=b.length+1) za za];exact zm (λ_=>⟨⟨za,za⟩,⟨by rw[zD];omega,rfl,rfl⟩,_,(u5 r ⟨7,f,x,0,0⟩ ok),nx⟩) (λq=>absurd (ES q) za)
def iG (d z l e)(f:e.take l.length=l.reverse)(h:l.length<=1073741824)(b a r)(ok:OkR r):
  RPt EF 109 6 (aSpn (jb d ⟨l,b,a,r⟩).1) (oRd' (jb d ⟨l,b,a,r⟩).2) 36 (stB r d a z b l.length e):=by
 have g:l.length<=e.length:=by have:=SJ List.length f;grind
 have i:=c_revi e l.length g h;rw[f,List.reverse_reverse] at i;have e0:jb d ⟨l,b,a,r⟩=((a,l),if b=true then yG (uO l a r).2 _ (uO l a r).1 else r):=rfl;rw[e0];refine rpv (v109_36b ..) ?_;refine⟨_,i,zm (λq=>?_) λq=>⟨⟨rfl,by rw[zD,EJ];omega⟩,?_,?_⟩⟩
 .rw[EL<|q];exact(gz d a z l (l++e.drop l.length) (List.take_left ..) h l [] a r rfl ok)
 .rw[Sg,WX,List.take_left];exact .refl _
 .grind
def m6 (d z b a r)(ok:OkR r):
  RPt EF 109 6 (aSpn (jb d ⟨[],b,a,r⟩).1) (oRd' (jb d ⟨[],b,a,r⟩).2) 36 (stA r d a z b):=by
 have hd:=Jp r.s (by have:=ok.h.C;omega) d;have f:=J9 r (wh r.s.C d) a ok;have e0:jb d ⟨[],b,a,r⟩=((a,[]),if b=true then yG r _ a else r):=rfl;rw[e0];have e:=WA (a:=[.int .i64 a,.N]) (b:=[.int .i64 a,.sl false 1<|IR []]) ⟨.refl _,.N 1,trivial⟩;refine rpv (v109_36a ..) ?_;refine⟨[],c_revi0,zm (λq=>⟨rfl,?_⟩) λq=>⟨e,?_⟩⟩
 .rw[EL<|q];refine rpv (v109_7a ..) ?_;exact bF zc ⟨_,hd,_,f,e,rfl⟩
 .rw[EG<|by rw[show b=false from q];decide]
def beta_f (r b x):(kx r b x).2.f=r.f:=by simp[kx,Jo]
def Js (j z):∀(n) (l) (b) (a) (r),OkR r->2*r.f.toNat+2<=n->l.length+r.f.toNat<=1000000000->(l=[]->RPt EF 109 6 (aSpn (jb j<|headL n l b a r).1) (oRd' (jb j<|headL n l b a r).2) 1 (stA r j a z b))/\
  ∀p,p.take l.length=l.reverse->RPt EF 109 6 (aSpn (jb j<|headL n l b a r).1) (oRd' (jb j<|headL n l b a r).2) 1 (stB r j a z b l.length p)
 |0,_,_,_,_,_,h,_=>absurd h za
 |n+1,l,b,a,r,ok,hn,T=>by
  have A:=Jh r a ok;have E:=ok.visit a;have K:=qV r a;have vs:=sj r a
  have e0:headL (n+1) l b a r=if r.e≠0 then⟨l,b,a,r⟩ else if (zu r a).2.e≠0 then⟨l,b,(zu r a).1.2,(zu r a).2⟩ else if (zu r a).1.1.t=7 then headL n ((zu r a).1.1.b::l) b (zu r a).1.1.a (zu r a).2 else if (zu r a).1.1.t=8 then headL n l b (zG n (zu r a).2 (zu r a).1.1).1<|yG (zG n (zu r a).2 (zu r a).1.1).2 (zu r a).1.2 (zG n (zu r a).2 (zu r a).1.1).1
   else if (zu r a).1.1.t=6 then
    if l=[] then⟨l,b,(zu r a).1.2,(zu r a).2⟩ else headL n l.tail true (kx (zu r a).2 (zu r a).1.1.a<|l.headD 0).1 (kx (zu r a).2 (zu r a).1.1.a<|l.headD 0).2
   else⟨l,b,(zu r a).1.2,(zu r a).2⟩:=rfl
  generalize Z:zu r a=v at*;let ⟨⟨c,t⟩,⟨vs',i,g⟩⟩:=v;dsimp only at vs K e0 E A;subst vs
  have fin:∀(l) b a r,OkR r->l.length<=1000000000->headL (n+1) l b a r=headL (n+1) l b a r->(l=[]->RPt EF 109 6 (aSpn (jb j ⟨l,b,a,r⟩).1) (oRd' (jb j ⟨l,b,a,r⟩).2) 36 (stA r j a z b))/\(∀p,p.take l.length=l.reverse->RPt EF 109 6 (aSpn (jb j ⟨l,b,a,r⟩).1) (oRd' (jb j ⟨l,b,a,r⟩).2) 36 (stB r j a z b l.length p)):=
   λl b a r ok T _=>⟨λe=>by subst e;exact m6 j z b a r ok,λp m=>iG j z l p m za b a r ok⟩
  by_cases u:r.e=0
  .rw[EG λw=>w u] at e0;have f1:=K.1;by_cases y:g=0
   .rw[EG λw=>w y] at e0;let ⟨f2,f3⟩:=K.2 y;by_cases C:c.t=7
    .rw[EL C] at e0;have ih:=Js j z n (c.b::l) b c.a ⟨r.s,i,g⟩ E zk (by simp[EH];omega);rw[e0];refine⟨λe=>?_,λp m=>?_⟩
     .subst e;have:=ih.2 [c.b] rfl;refine rpv (Ze ..) ?_;exact zF (λ_=>⟨(c.t,c.a,c.b,c.c,c.d,t,i,g),A,yg (λw=>absurd y w) λ_=>zF (λ_=>⟨EI _,by simp only[zw];omega,this⟩) λw=>absurd C w⟩) λw=>absurd u w
     .have M:l.length<=p.length:=by have:=SJ List.length m;rw[S8,GI] at this;omega
      have:=ih.2 (p.take l.length++[c.b]) (by rw[m,GE];exact EV zb);have e9:IR (p.take l.length++[c.b])=take l.length (IR p)++[[.int .i64 c.b]]:=by rw[qIR_app,<-WX];rfl
      simp[stB,hpH] at this;rw[e9] at this;refine rpv (jm ..) ?_;exact zF (λ_=>⟨(c.t,c.a,c.b,c.c,c.d,t,i,g),A,yg (λw=>absurd y w) λ_=>zF (λ_=>⟨EI _,⟨by rw[zD];omega,by simp[zw];omega⟩,this⟩) λw=>absurd C w⟩) λw=>absurd u w
    .rw[EG C] at e0;by_cases D:c.t=8
     .rw[EL D] at e0;have O:=c_ropen n n (EI _) ⟨r.s,i,g⟩ c E zk;have V:=OkR.open n c E;have S:=J9 (zG n ⟨r.s,i,g⟩ c).2 t (zG n ⟨r.s,i,g⟩ c).1 V;have Y:=a8 n ⟨r.s,i,g⟩ c;have U:=gE (zG n ⟨r.s,i,g⟩ c).2 t (zG n ⟨r.s,i,g⟩ c).1;dsimp only at Y;have ih:=Js j z n l b (zG n ⟨r.s,i,g⟩ c).1 (yG (zG n ⟨r.s,i,g⟩ c).2 t (zG n ⟨r.s,i,g⟩ c).1) (V.keep _ _) (by rw[U];omega) (by rw[U];omega);rw[e0];refine⟨λe=>?_,λp m=>?_⟩
      .have:=ih.1 e;refine rpv (Ze ..) ?_;exact zF (λ_=>⟨(c.t,c.a,c.b,c.c,c.d,t,i,g),A,yg (λw=>absurd y w) λ_=>zF (λw=>absurd w C) λ_=>zF (λ_=>⟨_,O,_,S,this⟩) λw=>absurd D w⟩) λw=>absurd u w
      .have:=ih.2 p m;refine rpv (jm ..) ?_;exact zF (λ_=>⟨(c.t,c.a,c.b,c.c,c.d,t,i,g),A,yg (λw=>absurd y w) λ_=>zF (λw=>absurd w C) λ_=>zF (λ_=>⟨_,O,_,S,this⟩) λw=>absurd D w⟩) λw=>absurd u w
     .rw[EG D] at e0;have o:=fin l b t ⟨r.s,i,g⟩ E za rfl;by_cases G:c.t=6
      .rw[EL G] at e0;by_cases J:l=[]
       .rw[EL J] at e0;rw[e0];refine⟨λe=>?_,λp m=>?_⟩
        .have:=o.1 e;refine rpv (Ze ..) ?_;exact zF (λ_=>⟨(c.t,c.a,c.b,c.c,c.d,t,i,g),A,yg (λw=>absurd y w) λ_=>zF (λw=>absurd w C) λ_=>zF (λw=>absurd w D) λ_=>zF (λ_=>⟨rfl,this⟩) λw=>absurd G w⟩) λw=>absurd u w
        .have:=o.2 p m;refine rpv (jm ..) ?_;exact zF (λ_=>⟨(c.t,c.a,c.b,c.c,c.d,t,i,g),A,yg (λw=>absurd y w) λ_=>zF (λw=>absurd w C) λ_=>zF (λw=>absurd w D) λ_=>zF (λ_=>bF (by rw[J];simp) this) λw=>absurd G w⟩) λw=>absurd u w
       .rw[EG J] at e0;obtain⟨x,l',rfl⟩:∃x l',l=x::l':=by
         cases l with
         |nil=>exact absurd rfl J
         |cons x l'=>exact⟨x,l',rfl⟩
        simp[EH] at T;have hb:=c_rbeta ⟨r.s,i,g⟩ c x E;have L:=beta_f ⟨r.s,i,g⟩ c.a x;dsimp only at L;have ih:=Js j z n l' true (kx ⟨r.s,i,g⟩ c.a x).1 (kx ⟨r.s,i,g⟩ c.a x).2 (E.beta _ _) (by rw[L];omega) (by rw[L];omega);refine⟨λe=>(by cases e),λp m=>?_⟩;have X:headL (n+1) (x::l') b a r=headL n l' true (kx ⟨r.s,i,g⟩ c.a x).1 (kx ⟨r.s,i,g⟩ c.a x).2:=e0;rw[X];have M:l'.length+1<=p.length:=by have:=SJ List.length m;rw[S8,GI,EH] at this;omega
        have F:p.take l'.length=l'.reverse/\p[l'.length]?=some x:=by
         have W:p.take (l'.length+1)=l'.reverse++[x]:=by rw[EH] at m;rw[m,GE]
         refine⟨?_,?_⟩
         .have:=SJ (take l'.length) W;rw[F2,G2 za,List.take_left' zb] at this;exact this
         .have:(p.take<|l'.length+1)[l'.length]?=some x:=by rw[W];simp
          rwa [GX za] at this
        have:=ih.2 p F.1;have N:wr ((((x::l').length))-1)=l'.length:=by rw[wr,w64 (by simp only[EH];omega)<|by simp[EH];omega];simp only[EH];omega
        have H:l'.length<p.length:=za;have hg:getD (IR p) (0+toNat l'.length) []=[.int .i64 x]:=by
         rw[Sa,S3,wW H];have I:=F.2;rw[EU H] at I;injection I with I
         rw[I]
        refine rpv (jm ..) ?_;have N:wrap .i64 ((((x::l').length))-1)=l'.length:=N;rw[N,hg];refine zF (λ_=>⟨(c.t,c.a,c.b,c.c,c.d,t,i,g),A,yg (λw=>absurd y w) λ_=>zF (λw=>absurd w C) λ_=>zF (λw=>absurd w D) λ_=>zF (λ_=>zm (λ_=>?_) λw=>absurd (ES w)<|by simp only[EH];omega) λw=>absurd G w⟩) λw=>absurd u w;refine⟨⟨za,by simp[EH];omega⟩,⟨by rw[zD,S3];omega,rfl,rfl⟩,kx ⟨r.s,i,g⟩ c.a x,hb,⟨za,za,by simp[EH];omega⟩,?_⟩;rw[S3];exact this
      .rw[EG G] at e0;rw[e0];refine⟨λe=>?_,λp m=>?_⟩
       .have:=o.1 e;refine rpv (Ze ..) ?_;exact zF (λ_=>⟨(c.t,c.a,c.b,c.c,c.d,t,i,g),A,yg (λw=>absurd y w) λ_=>zF (λw=>absurd w C) λ_=>zF (λw=>absurd w D) λ_=>zF (λw=>absurd w G) λ_=>this⟩) λw=>absurd u w
       .have:=o.2 p m;refine rpv (jm ..) ?_;exact zF (λ_=>⟨(c.t,c.a,c.b,c.c,c.d,t,i,g),A,yg (λw=>absurd y w) λ_=>zF (λw=>absurd w C) λ_=>zF (λw=>absurd w D) λ_=>zF (λw=>absurd w G) λ_=>this⟩) λw=>absurd u w
   .rw[EL y] at e0;have o:=fin l b t ⟨r.s,i,g⟩ E za rfl;rw[e0];refine⟨λe=>?_,λp m=>?_⟩
    .have:=o.1 e;refine rpv (Ze ..) ?_;exact zF (λ_=>⟨(c.t,c.a,c.b,c.c,c.d,t,i,g),A,yg (λ_=>this) λw=>absurd w y⟩) λw=>absurd u w
    .have:=o.2 p m;refine rpv (jm ..) ?_;exact zF (λ_=>⟨(c.t,c.a,c.b,c.c,c.d,t,i,g),A,yg (λ_=>this) λw=>absurd w y⟩) λw=>absurd u w
  .rw[EL u] at e0;have o:=fin l b a r ok za rfl;rw[e0];refine⟨λe=>?_,λp m=>?_⟩
   .have:=o.1 e;refine rpv (Ze ..) ?_;exact zF (λw=>absurd w u) λ_=>this
   .have:=o.2 p m;refine rpv (jm ..) ?_;exact zF (λw=>absurd w u) λ_=>this
def ou (n r b)(ok:OkR r)(d:2*r.f.toNat+2<=n)(e:r.f<=1000000000):AC EF 109 [aRd,ci b] (oRd r) (aSpn (yi n r b).1) (oRd' (yi n r b).2):=by have h:=(Js b 0 n [] false b r ok d<|by simp[EY];omega).1 rfl;unfold yi;refine acv (v109 ..) ?_;exact h
def qo (t:Tm):FV:=if t.inner=true then .sl false 4 (FTs t.l) else .N
def oC (t):(qo t).ses=FTs t.kids/\(qo t).L 4=true:=by unfold qo Tm.kids;split<;>exact⟨rfl,rfl⟩
def J8 (t):AC EF 173 [aT t] [] (.tup [(false,[qf<|qo t]),(false,[qi t.by])]) []:=by
 let ⟨k,s,n,l⟩:=t;refine acv (v173 k s n (FTs l) _ _) ?_;refine zm (λh=>⟨?_,rfl⟩) λh=>zm (λe=>⟨?_,rfl⟩) λe=>⟨?_,rfl⟩
 .have d:qo (.mk k s n l)=.sl false 4 (FTs l):=by unfold qo Tm.inner;simp[Tm.k,h,GU,S9,Tm.l]
  have b:Tm.by (.mk k s n l)=1:=by unfold Tm.by;simp[Tm.k,h,S9]
  rw[d,b];exact .refl _
 .have d:qo (.mk k s n l)=.sl false 4 (FTs l):=by unfold qo Tm.inner;simp[Tm.k,e,GV,S9,Tm.l]
  have b:Tm.by (.mk k s n l)=0:=by unfold Tm.by;simp[Tm.k,h,S5,Sj]
  rw[d,b];exact .refl _
 .have d:qo (.mk k s n l)=.N:=by unfold qo Tm.inner;simp[Tm.k,h,e,Bool.or_self,S5,Sj]
  have b:Tm.by (.mk k s n l)=0:=by unfold Tm.by;simp[Tm.k,h,S5,Sj]
  rw[d,b];exact .refl _
mutual
def bd (M:Int):Tm->Prop
 |.mk k _ n l=>(k=3->0-M<=n/\n<=M)/\bds M l
def bds (M:Int):List Tm->Prop
 |[]=>True
 |t::l=>bd M t/\bds M l
end
def xU {M}:∀ {l} {t},bds M l->t∈l->bd M t
 |x::l,t,h,ht=>by
  rcases S4.1 ht with rfl|ht
  .exact h.1
  .exact xU h.2 ht
def bd_l {M t}(h:bd M t):bds M t.l:=by cases t;exact h.2
def maxI (a b:Int):=if a<=b then b else a
def pG (a b):zS [a,b]=maxI a b:=by simp[zS,List.foldl,maxI,max,maxOfLe]
mutual
def vr:Tm->Int->Int->Int
 |.mk kd _ n l,k,acc=>if (kd==5)=true then ZL l (k+1) acc else if (kd==6)=true then ZL l k acc else if (kd==3)=true then maxI acc (n-k+1) else acc
def ZL:List Tm->Int->Int->Int
 |[],_,acc=>acc
 |t::l,k,acc=>ZL l k<|vr t k acc
end
abbrev obj1 (n:Int):AObj:=.arr 1 [[qi n]]
def c_loose1 (u k acc)(b:u.k=3->0-2305843009213693952<=u.n/\u.n<=2305843009213693952)(f:0<=k)(g:k<=2305843009213693952):
  AC EF 132 [aT u,ci k,.c<|.a<|.ep 0 1 0 0] [obj1 acc] (.tup []) [obj1 (if (u.k==3)=true then maxI acc (u.n-k+1) else acc)]:=by
 let ⟨d,s,n,l⟩:=u;simp[Tm.k,Tm.n] at b;refine acv (v132 d s n _ k acc _ _) ?_;refine zm (λh=>⟨.refl _,?_⟩) λh=>⟨.refl _,?_⟩
 .have e:d=3:=zl h;have:=b e;rw[w64 (x:=n-k) za za,w64 (x:=n-k+1) za za,pG];simp[Tm.k,Tm.n,h,S9]
 .simp[Tm.k,h,S5,Sj]
abbrev tellL:TV:=.c<|.fn (.func 132) [] [(false,[.ep 0 1 0 0])]
def l_each (k by_)(p:0<=k)(i:0<=by_)(d:by_<=1):∀(b a) (v) (acc),v.ses=FTs (a++b)->v.L 4=true->(∀u∈b,∀acc,AC EF 131 [aT u,ci<|k+by_,tellL] [obj1 acc] (.tup []) [obj1<|vr u (k+by_) acc])->(a++b).length<=B->k<=2305843009213693952->
  RPt EF 131 1 (.tup []) [obj1<|ZL b (k+by_) acc] 1 ⟨[(1,ci k),(2,tellL),(7,ci by_),(27,.c<|qf v),(28,ci (a++b).length),(29,ci a.length)],[(0,obj1 acc)],1⟩
 |[],a,v,acc,f,g,_,e,j=>by refine rpv (ZG ..) ?_;exact bF zb rrl
 |t::b,a,v,acc,f,g,ih,e,j=>by refine rpv (ZG ..) ?_;have h:=e;simp[EJ,EH,B] at h;have r:=ih t ET acc;have m:=l_each k by_ p i d b _ v (vr t (k+by_) acc) (by rw[ap];exact f) g (λu o=>ih u<|EP _ o) (by rw[ap];exact e) j;have w:=ltI' a t b;rw[ap,nx] at m;rw[f,midI,w64 (x:=a.length+1) za za,w64 (x:=k+by_) za za];refine bT (ltI a t b)<|?_;let ⟨z,A,y,l'⟩:=t;exact⟨⟨g,za,w,rfl⟩,.inl ⟨_,r,m⟩⟩
def c_each:∀t,t.sz<=B->bd 2305843009213693952 t->∀k acc:Int,0<=k->k+t.sz<=2305843009213693952->AC EF 131 [aT t,ci k,tellL] [obj1 acc] (.tup []) [obj1<|vr t k acc]:=by
 refine Tm.ind λt ih y w k acc v z=>?_;have x:=J8 t;have f:=oC t;have i:=Tm.szs_length t.l;let ⟨b,s,n,l⟩:=t;simp[Tm.sz,B,Tm.l] at y i;simp[Tm.sz] at z;have key:∀by_,0<=by_->by_<=1->Tm.kids (.mk b s n l)=l->RPt EF 131 1 (.tup []) [obj1<|ZL l (k+by_) acc] 1 ⟨[(1,ci k),(2,tellL),(7,ci by_),(27,.c<|qf<|qo<|.mk b s n l),(28,ci l.length),(29,ci 0)],[(0,obj1 acc)],1⟩:=by intro by_ o p e;have:=l_each k by_ v o p l [] (qo<|.mk b s n l) acc (by rw[f.1,e];rfl) f.2 (λu j acc=>ih u j (by have:=Tm.szs_mem j;simp[B];omega) (xU w.2 j) (k+by_) acc za<|by have:=Tm.szs_mem j;omega) (by simp[SD,B];omega) za;exact zl this
 refine acv (AK b s n (FTs l) k acc _ _) ?_;refine zm (λh=>zm (λr=>⟨_,c_loose1 (.mk b s n l) k acc w.1 v za,.refl _,?_⟩) λr=>⟨_,_,x,f.2,?_⟩) λh=>⟨_,_,x,f.2,?_⟩
 .have d:(b==5)=false:=zl h;have m:(b==6)=false:=zl r;simp only[vr,Tm.k,Tm.n,d,m,S5,Sj];rfl
 .have d:(b==5)=false:=zl h;have m:(b==6)=true:=zl r;have g:Tm.kids (.mk b s n l)=l:=by unfold Tm.kids Tm.inner;simp[Tm.k,m,GV,S9,Tm.l]
  have:=key 0 za za g;rw[f.1,g,lenI,show Tm.by (.mk b s n l)=0 by unfold Tm.by;simp[Tm.k,d,S5,Sj]];simp[vr,d,m,S5,Sj,S9];exact zl this
 .have d:(b==5)=true:=zl h;have g:Tm.kids (.mk b s n l)=l:=by unfold Tm.kids Tm.inner;simp[Tm.k,d,GU,S9,Tm.l]
  have:=key 1 za za g;rw[f.1,g,lenI,show Tm.by (.mk b s n l)=1 by unfold Tm.by;simp[Tm.k,d,S9]];simp[vr,d,S9];exact this
def A8 (t)(b:t.sz<=B)(d:bd 2305843009213693952 t):AC EF 84 [aT t] [] (ci<|vr t 0 0) []:=by have h:=c_each t b d 0 0 (EQ _) (by simp[B] at b;omega);refine acv (v84 ..) ?_;exact .inl ⟨_,h,xB rfl⟩
def c_grow (n)(d:0<=n)(e:n<=2199023255552):(n=0->AC EF 50 [.c<|qf .N,ci n] [] (.c<|qf .N) [])/\
  (n≠0->AC EF 50 [.c<|qf .N,ci n] [] (.c<|.a<|.osl 0 4 0 0) [.arz 4 []]):=by
 constructor
 .intro b;refine acv (v50 ..) ?_;refine bF za ⟨rfl,zm (λh=>?_) λ_=>X0<|.refl _⟩;rw[w64 za za] at h;grind
 .intro b;refine acv (v50 ..) ?_;rw[w64 za za];refine bF za ⟨rfl,zm (λh=>⟨rfl,⟨za,za,za⟩,⟨za,by unfold zw;omega⟩,rfl,⟨za,za,za⟩,.refl _,rfl⟩) λh=>absurd (ES h) za⟩
def FLs (ls:List<|List Tm):List (List FV):=ls.map λl=> [.sl false 4<|FTs l]
def vn (ls:List<|List Tm):=(ls.map List.length).foldr (· + ·) 0
def Z4 (ls):(FLs ls).length=ls.length:=by simp[FLs]
def midL (a l b):getD (FLs<|a++l::b) (toNat a.length) []=[.sl false 4<|FTs l]:=by rw[(za:toNat a.length=a.length)];simp[getD,FLs]
def ltL (a t b):a.length<(((FLs<|a++t::b).length):Int):=by rw[Z4];exact ltI a t b
def gt (a l b):vn (a++l::b)=vn a+l.length+vn b:=by
 induction a with
 |nil=>simp[vn]
 |cons x a ih=>simp[vn,SE,SA,List.foldr_cons] at ih ⊢;omega
def iB (a l):vn (a++[l])=vn a+l.length:=by rw[gt];simp[vn]
abbrev aLs (ls:List<|List Tm):TV:=.c<|qf<|.sl false 1<|FLs ls
def vB {n}(h:n<=2199023255552):zw n 56:=by unfold zw;omega
def A1:∀(b a) (acc),acc.length+vn b<=2199023255552->(a++b).length<=B->
  RPt EF 29 0 (aL<|acc++b.flatten) [] 5 ⟨[(6,.c<|.a<|.osl 0 4 0 acc.length),(25,aLs<|a++b),(26,ci (a++b).length),(27,ci a.length)],[(0,.arz 4<|FTs acc)],1⟩
 |[],a,acc,f,d=>by refine rpv (v29_5b ..) ?_;refine bF zb ⟨⟨rfl,by rw[zn];omega⟩,X0 ?_⟩;rw[Sg,EV<|by rw[zn];omega,List.flatten_nil,S6];exact le_c leSl
 |l::b,a,acc,f,d=>by
  refine rpv (v29_5b ..) ?_;have e:=d;simp[EJ,EH,B] at e;have h:acc.length+(l.length+vn b)<=2199023255552:=by simpa[vn] using f
  have g:=A1 b _ (acc++l) (by rw[EJ];omega) (by rw[ap];exact d);rw[ap,nx] at g;rw[midL,w64 za za];refine bT (ltI a l b) ⟨⟨rfl,za,(ltL a l b),rfl⟩,rfl,⟨by rw[zn];omega,?_⟩,?_⟩
  .show zw (acc.length+(FTs l).length) 56;rw[zn];exact vB za
  .show RPt _ _ _ _ _ _ ⟨[(6,(.c<|.a<|.osl 0 4 0<|acc.length+(FTs l).length)),_,_,_],[(0,.arz 4<|take acc.length (FTs acc)++FTs l)],1⟩;rw[EV<|by rw[zn];omega,<-yj,zn,<-EJ];grind
def l_cat2:∀(b a),vn b<=2199023255552->(a++b).length<=B->
  RPt EF 29 0 (aL b.flatten) [] 5 ⟨[(6,.c<|qf .N),(25,aLs<|a++b),(26,ci (a++b).length),(27,ci a.length)],[],0⟩
 |[],a,h,f=>by refine rpv (v29_5a ..) ?_;refine bF zb<|X0<|le_c yY
 |l::b,a,h,f=>by
  refine rpv (v29_5a ..) ?_;have g:=f;simp[EJ,EH,B] at g;have j:l.length+vn b<=2199023255552:=by simpa[vn] using h
  rw[midL,w64 za za];refine bT (ltI a l b) ⟨⟨rfl,za,(ltL a l b),rfl⟩,rfl,?_⟩;show br (List.isEmpty<|FTs l) _ _;refine zm (λi=>?_) λi=>⟨?_,?_⟩
  .have e:=l_cat2 b (a++[l]) za (by rw[ap];exact f);rw[ap,nx] at e
   have d:l=[]:=by cases l with
    |nil=>rfl
    |cons x l=>simp[FTs] at i
   grind
  .show zw (FTs l).length 56;rw[zn];exact vB za
  .have e:=A1 b (a++[l]) l za (by rw[ap];exact f);rw[ap,nx] at e;show RPt _ _ _ _ _ _ ⟨[(6,(.c<|.a<|.osl 0 4 0 (FTs l).length)),_,_,_],[(0,.arz 4<|FTs l)],1⟩;rw[zn,List.flatten_cons];exact e
def l_cat1:∀(b a),vn (a++b)<=2199023255552->(a++b).length<=B->
  RPt EF 29 0 (aL (a++b).flatten) [] 1 ⟨[(0,aLs<|a++b),(3,ci<|vn a),(9,aLs<|a++b),(10,ci (a++b).length),(11,ci a.length)],[],0⟩
 |[],a,d,g=>by
  refine rpv (v29_1a ..) ?_;have j:=c_grow (vn a) za zd;refine bF zb<|?_;have e:(((FLs<|a++[]).length))=(((a++[]).length)):=by rw[Z4]
  rw[e];by_cases o:vn a=0
  .have f:=l_cat2 _ [] za (zl g);exact .inl ⟨(),j.1 za,rfl,zl f⟩
  .have f:=A1 _ [] [] (zl d) (zl g);exact .inr ⟨(),j.2 za,rfl,by simpa[FTs] using f⟩
 |l::b,a,d,g=>by refine rpv (v29_1a ..) ?_;have i:=g;have h:=d;rw[gt] at h;simp[EJ,EH,B] at i;have f:=l_cat1 b (a++[l]) (by rw[ap];exact d) (by rw[ap];exact g);rw[ap,nx,iB] at f;rw[midL,w64 (x:=a.length+1) za za];refine bT (ltI a l b) ⟨⟨rfl,za,(ltL a l b),rfl⟩,rfl,?_⟩;show br (decide (wrap .i64 ((vn a)+(((FTs l).length)))<0)) _<|RPt _ _ _ _ _ _ ⟨[_,(3,ci<|wrap .i64<|(vn a)+(((FTs l).length))),_,_,_],_,_⟩;rw[zn,w64 za za];refine bF za<|?_;exact zl f
def c_concat (ls)(b:vn ls<=2199023255552)(d:ls.length<=B):AC EF 29 [aLs ls] [] (aL ls.flatten) []:=by
 refine acv (v29 ..) ?_;have:=l_cat1 ls [] (zl b) (zl d);have e:(((FLs ls).length))=(ls.length):=by rw[Z4]
 rw[e];exact⟨rfl,by simpa[vn] using this⟩
def Yj {x y:FV}{l m:List Tm}(u:FV.Le x<|.sl false 4<|FTs l)(v:FV.Le y<|.sl false 4<|FTs m)(r:l.length+m.length<=2199023255552):AC EF 29 [.c<|qf<|.sl false 1 [[x],[y]]] [] (aL<|l++m) []:=by
 have h:=c_concat [l,m] (by simpa[vn] using r) (by simp[B]);rw[show [l,m].flatten=l++m by simp] at h;refine h.args ⟨le_c<|.trans _ _ _ (.rows false 1 _ (FLs [l,m]) rfl (λi e p g b=>?_) λi j e p f f' g b o d=>?_)<|.nn _ _ _,trivial⟩
 .match i,g,b with
  |0,g,b=>simp[FLs] at g b;subst g;subst b;rfl
  |1,g,b=>simp[FLs] at g b;subst g;subst b;rfl
  |i+2,g,b=>simp at g
 .match i,g,b with
  |0,g,b=>
   simp[FLs] at g b;subst g;subst b
   match j,o,d with
   |0,o,d=>simp at o d;subst o;subst d;exact u
   |j+1,o,d=>simp at o
  |1,g,b=>
   simp[FLs] at g b;subst g;subst b
   match j,o,d with
   |0,o,d=>simp at o d;subst o;subst d;exact v
   |j+1,o,d=>simp at o
  |i+2,g,b=>simp at g
def zH (f:Tm)(args:List Tm):Tm:=
 match args with
 |[]=>f
 |_=>if (f.k==6)=true/\f.l≠[] then .mk 6 [] 0 (f.l++args) else .mk 6 [] 0<|f::args
def wX (f args)(h:f.l.length+args.length<2199023255552):AC EF 12 [aT f,aL args] [] (aT<|zH f args) []:=by
 let ⟨k,s,n,l⟩:=f;simp[Tm.l] at h;refine acv (v12 k s n (FTs l) (FTs args) _ _) ?_;refine⟨rfl,zm (λd=>?_) λd=>?_⟩
 .have:args=[]:=by cases args with
   |nil=>rfl
   |cons x l=>simp[FTs] at d;omega
  subst this;exact X0<|.refl _
 .match args,d,h with
  |[],d,_=>simp[FTs] at d
  |a::r,d,h=>
   have g:FV.Le (.sl false 4 [[.int .i64 k,.str s,.int .i64 n,.sl false 4<|FTs l]]) (.sl false 4<|FTs [.mk k s n l]):=.nn _ _ _;have b:∀l,FV.Le (.sl false 4<|FTs l) (.sl false 4<|FTs l):=λ_=>.refl _
   refine zm (λj=>⟨rfl,zm (λi=>⟨⟨rfl,za⟩,_,Yj (b l) (b<|a::r) za,X0 ?_⟩) λi=>⟨⟨rfl,za⟩,⟨rfl,za⟩,_,Yj g (b<|a::r)<|by simp[EH,EY] at h ⊢;omega,X0 ?_⟩⟩)
    (λj=>⟨⟨rfl,za⟩,⟨rfl,za⟩,_,Yj g (b<|a::r)<|by simp[EH,EY] at h ⊢;omega,X0 ?_⟩)
   .have m:l≠[]:=by intro e;subst e;simp[FTs] at i
    rw[show zH (.mk k s n l) (a::r)=.mk 6 [] 0 (l++a::r) from EL ⟨j,m⟩];exact .refl _
   .have m:l=[]:=by cases l with
     |nil=>rfl
     |cons x l=>simp[FTs] at i
    rw[show zH (.mk k s n l) (a::r)=.mk 6 [] 0 (.mk k s n l::a::r) from EG λe=>e.2 m];exact .refl _
   .rw[show zH (.mk k s n l) (a::r)=.mk 6 [] 0 (.mk k s n l::a::r) from EG λe=>by have:=e.1;simp only[Tm.k,j] at this;cases this];exact .refl _
def xK (t:Tm)(out:List Tm):=
 if (t.k==6)=true/\1<out.length/\((out.headD default).k==6)=true/\((t.l.headD default).k !=6)=true then zH (out.headD default) out.tail else .mk t.k t.s t.n out
mutual
def zQ (lf:Tm->Int->Tm):Tm->Int->Tm
 |.mk k s n l,d=>if (k==5||k==6)=true then xK (.mk k s n l) (zK lf l<|d+if (k==5)=true then 1 else 0) else lf (.mk k s n l) d
def zK (lf:Tm->Int->Tm):List Tm->Int->List Tm
 |[],_=> []
 |t::l,d=>zQ lf t d::zK lf l d
end
abbrev cloSh:TV:=.agg [.fn (.func 172) [] [(false,[.ep 0 1 0 0]),(false,[.ep 1 1 0 0])]]
abbrev stSh (fr by1 k by_ kd:Int)(s:List UInt8)(n:Int)(l:List Tm)(w:AV)(i:Nat)(h:AHeap)(nx:Nat):St:=
 ⟨[(2,ci k),(3,.c<|.a<|.ep 2 1 0 0),(4,.c<|.a<|.ep 3 4 0 0),(6,.c<|.a<|.ep 4 4 0 0),(7,aL l),(8,ci by_),(9,.c<|.a w),(30,aL l),(31,ci l.length),(32,ci i)],
  [(0,obj1 fr),(1,obj1 by1),(2,.arr 1 [[.fn (.func 172) [] [(false,[.ep 0 1 0 0]),(false,[.ep 1 1 0 0])]]]),(3,.arr 4 [fzs<|FT<|.mk kd s n l]),(4,.arr 4 [[qi 0,qf<|.str [],qi 0,qf .N]])]++h,nx⟩
def l_w2Sh (fr m d k by_)(W:0<=k)(Z:k<=2305843009213693952)(N:0<=by_)(J:by_<=1)(kd s n)(O:(kd==5||kd==6)=true):
  ∀(b a acc),acc≠[]->acc.length=a.length->(a++b).length<=B->(∀u∈acc++zK d b (k+by_),u.l.length<=2*B)->(∀u∈b,AC EF 171 [cloSh,aT u,ci<|k+by_] [obj1 fr,obj1 m] (aT<|zQ d u<|k+by_) [obj1 fr,obj1 m])->
  RPt EF 171 2 (aT<|xK (.mk kd s n<|a++b)<|acc++zK d b (k+by_)) [obj1 fr,obj1 m] 1 (stSh fr m k by_ kd s n (a++b) (.osl 5 4 0 acc.length) a.length [(5,.arz 4<|FTs acc)] 6)
 |[],a,acc,y,g,A,S,_=>by
  refine rpv (ZK ..) ?_
  match acc,a,y,g with
  |o::r,u::v,_,g=>
  have e1:take (o::r).length (drop 0<|FTs<|o::r)=FTs (o::r):=by rw[Sg,EV<|by rw[zn];omega]
  have D:(0:Nat)+(o::r).length<=(FTs<|o::r).length:=by rw[zn];omega
  have f:∀(h) j i,TV.Le (.agg [qi h,qf<|.str j,qi i,qf<|.sl false 4<|take (o::r).length<|drop 0<|FTs<|o::r]) (aT<|.mk h j i<|o::r):=λh j i=>by rw[e1];exact leT leSl
  refine bF zb<|zm (λI=>zm (λw=>⟨⟨za,zb⟩,⟨zd,by cases o;rfl,rfl⟩,zm (λL=>⟨⟨rfl,za,by rw[S6];show(0:Int)<(((FTs<|u::v).length:Nat):Int);rw[zn];simp,by cases u;rfl⟩,zm (λz=>?_) λz=>⟨⟨rfl,D⟩,?_,rfl⟩⟩) λL=>⟨⟨rfl,D⟩,?_,rfl⟩⟩) λw=>⟨⟨rfl,D⟩,?_,rfl⟩) λI=>⟨⟨rfl,D⟩,?_,rfl⟩
  .
   have G:=wX o r (by have:=S o zb;simp[EH,EJ,EY,B] at A g this ⊢;omega);have p:xK (.mk kd s n<|u::v++[]) (o::r++zK d [] (k+by_))=zH o r:=by
    have Y:1<(o::r++zK d [] (k+by_)).length:=by have:=S0 w;simp only[zK,S6];omega
    have V:(o.k==6)=true:=by cases o;exact L
    have c3:(u.k !=6)=true:=by cases u;exact z
    unfold xK;rw[EL ⟨I,Y,V,c3⟩];simp[zK]
   have T:take (toNat ((o::r).length:Int)-1) (drop 1<|FTs<|o::r)=FTs r:=by rw[show toNat ((o::r).length:Int)-1=r.length by simp];show take r.length (FTs r)=FTs r;rw[EV<|by rw[zn];omega]
   have E:(1:Nat)+(toNat ((o::r).length:Int)-1)<=(FTs<|o::r).length:=by rw[zn];simp[EH];omega
   rw[p];refine⟨⟨za,zb⟩,⟨za,by cases o;rfl,rfl⟩,⟨za,zj,za⟩,⟨rfl,E⟩,?_⟩;rw[T];let ⟨k1,s1,n1,l1⟩:=o;exact⟨_,G.args ⟨.refl _,le_c leSl,trivial⟩,.refl _,rfl⟩
  .have p:xK (.mk kd s n<|u::v++[]) (o::r++zK d [] (k+by_))=.mk kd s n (o::r):=by
    simp[zK,S6]
    exact EG λe=>by
     have H:(u.k !=6)=false:=by cases u;exact z
     have:(u.k !=6)=true:=e.2.2.2;grind
   grind
  .have p:xK (.mk kd s n<|u::v++[]) (o::r++zK d [] (k+by_))=.mk kd s n (o::r):=by
    simp[zK,S6]
    exact EG λe=>by
     have K:(o.k==6)=false:=by cases o;exact L
     grind
   grind
  .have p:xK (.mk kd s n<|u::v++[]) (o::r++zK d [] (k+by_))=.mk kd s n (o::r):=by simp[zK,S6];exact EG λe=>zd
   grind
  .have p:xK (.mk kd s n<|u::v++[]) (o::r++zK d [] (k+by_))=.mk kd s n (o::r):=by simp[zK,S6];exact EG λe=>by have F:(kd==6)=false:=I;have:(kd==6)=true:=e.1;grind
   grind
 |t::b,a,acc,y,g,A,S,ih=>by
  refine rpv (ZK ..) ?_;have M:=A;simp[EJ,EH,B] at M;have w:=ih t ET
  have C:=l_w2Sh fr m d k by_ W Z N J kd s n O b (a++[t]) (acc++[zQ d t<|k+by_]) zb (by simp[g]) (by rw[ap];exact A)
   (by rw[SH];simpa[zK] using S) λu z=>ih u<|EP _ z
  have U:=ltI' a t b;unfold stSh at C;rw[ap,show(((a++[t]).length:Nat):Int)=(a.length:Int)+1 from nx a t] at C;show br (decide ((a.length:Int)<(((a++t::b).length:Nat):Int))) ((FV.L 4 (.sl false 4<|FTs<|a++t::b)=true/\_/\_/\_)/\_) _;refine bT (ltI a t b)<|?_;rw[show FV.ses (.sl false 4<|FTs<|a++t::b)=FTs (a++t::b) from rfl,(midI a t b),w64 (x:=(a.length:Int)+1) za za,w64 (x:=k+by_) za za];let ⟨h,j,i,l'⟩:=t;refine⟨⟨rfl,za,U,rfl⟩,_,w,EI _,⟨by rw[zn];omega,vB za⟩,?_⟩;have E:take acc.length (FTs acc)++FTs [zQ d (.mk h j i l')<|k+by_]=FTs (acc++[zQ d (.mk h j i l')<|k+by_]):=by rw[EV<|by rw[zn];omega,<-yj]
  have X:FTs [zQ d (.mk h j i l')<|k+by_]=[[.int .i64 (zQ d (.mk h j i l')<|k+by_).k,.str (zQ d (.mk h j i l')<|k+by_).s,.int .i64 (zQ d (.mk h j i l')<|k+by_).n,.sl false 4<|FTs (zQ d (.mk h j i l')<|k+by_).l]]:=by rw[FTs,FTs,Zo]
  rw[X] at E;rw[E];rw[show acc++zK d (.mk h j i l'::b) (k+by_)=acc++zQ d (.mk h j i l') (k+by_)::zK d b (k+by_) by simp[zK]];rw[show(acc++[zQ d (.mk h j i l')<|k+by_]).length=acc.length+1 by simp,SH] at C;exact C
def l_w1Sh (fr f d k by_)(C:0<=k)(E:k<=2305843009213693952)(v:0<=by_)(o:by_<=1)(kd s n)(w:(kd==5||kd==6)=true):
  ∀(b),b.length<=B->(∀u∈zK d b (k+by_),u.l.length<=2*B)->(∀u∈b,AC EF 171 [cloSh,aT u,ci<|k+by_] [obj1 fr,obj1 f] (aT<|zQ d u<|k+by_) [obj1 fr,obj1 f])->
  RPt EF 171 2 (aT<|xK (.mk kd s n b)<|zK d b<|k+by_) [obj1 fr,obj1 f] 1 (stSh fr f k by_ kd s n b (.fz .N) 0 [] 5)
 |[],m,y,_=>by
  refine rpv (ZC ..) ?_;have e:xK (.mk kd s n []) (zK d []<|k+by_)=.mk kd s n []:=EG λe=>by have:=e.2.1;simp[zK] at this
  rw[e];exact bF zb<|zm (λ_=>⟨rfl,leT yY,rfl⟩) λ_=>⟨leT yY,rfl⟩
 |t::b,m,y,ih=>by
  refine rpv (ZC ..) ?_;have r:=m;simp[EH,B] at r;have z:=ih t ET;have p:=l_w2Sh fr f d k by_ C E v o kd s n w b [t] [zQ d t<|k+by_] zb rfl (zl m) (by simpa[zK] using y) λu F=>ih u<|EP _ F;show br (decide (0<(((t::b).length):Int))) ((FV.L 4 (.sl false 4<|FTs<|t::b)=true/\_/\_/\_)/\_) _;refine zm (λ_=>?_) (λh=>absurd (ES h) zb);rw[show FV.ses (.sl false 4<|FTs<|t::b)=FTs (t::b) from rfl,show getD (FTs<|t::b) (toNat<|(0:Nat)) []=FT t from rfl,w64 (x:=k+by_) za za,w64 (x:=((0:Nat))+1) za za];let ⟨g,j,i,l'⟩:=t;have A:(0:Int)<(((FTs<|.mk g j i l'::b).length:Nat):Int):=by rw[zn];simp
  refine⟨⟨rfl,za,A,rfl⟩,_,z,EI _,vB za,?_⟩;have D:FTs [zQ d (.mk g j i l')<|k+by_]=[[.int .i64 (zQ d (.mk g j i l')<|k+by_).k,.str (zQ d (.mk g j i l')<|k+by_).s,.int .i64 (zQ d (.mk g j i l')<|k+by_).n,.sl false 4<|FTs (zQ d (.mk g j i l')<|k+by_).l]]:=by rw[FTs,FTs,Zo]
  unfold stSh at p;rw[D] at p;exact p
def c_wSh (fr f:Int) (i:Tm->Int->Tm) (Q:Tm->Int->Prop)
  (M:∀(kd:Int) (s:List UInt8) (n:Int) (l:List Tm) (d:Int),Q (.mk kd s n l) d->(kd==5||kd==6)=true->∀u∈l,Q u<|d+if (kd==5)=true then 1 else 0)
  (p:∀(u:Tm) (d:Int),(u.k==5||u.k==6)=false->Q u d->0<=d->d<=2305843009213693952->AC EF 172 [aT u,ci d,.c<|.a<|.ep 0 1 0 0,.c<|.a<|.ep 1 1 0 0] [(obj1 fr),(obj1 f)] (aT<|i u d) [(obj1 fr),(obj1 f)])
  (r:∀(u:Tm) (d:Int),Q u d->(zQ i u d).l.length<=2*B):
  ∀t:Tm,t.sz<=B->∀k:Int,Q t k->0<=k->k+t.sz<=2305843009213693952->AC EF 171 [cloSh,aT t,ci k] [(obj1 fr),(obj1 f)] (aT<|zQ i t k) [(obj1 fr),(obj1 f)]:=by
 refine Tm.ind λt ih N k I G J=>?_;have w:=Tm.szs_length t.l;obtain⟨kd,s,n,l⟩:=t;simp only[Tm.sz,B,Tm.l] at N w;simp only[Tm.sz] at J;have key:∀by_:Int,0<=by_->by_<=1->(by_=if (kd==5)=true then 1 else 0)->(b:(kd==5||kd==6)=true)->RPt EF 171 2 (aT<|zQ i (.mk kd s n l) k) [(obj1 fr),(obj1 f)] 1 (stSh fr f k by_ kd s n l (.fz .N) 0 [] 5):=by
  intro by_ D A y b;have o:=M kd s n l k I b;rw[<-y] at o
  have:=l_w1Sh fr f i k by_ G za D A kd s n b l (by simp only[B];omega) (λu hu=>by
   have:∀ {m:List Tm},(∀v∈m,Q v<|k+by_)->∀u∈zK i m (k+by_),u.l.length<=2*B:=by
    intro m
    induction m with
    |nil=>intro _ u hu;simp[zK] at hu
    |cons v m z=>
     intro H u hu;simp only[zK,S4] at hu;rcases hu with rfl|hu
     .exact r v _ (H v ET)
     .exact z (λx K=>H x<|EP _ K) u hu
   exact this o u hu) (λu hu=>ih u hu (by have:=Tm.szs_mem hu;simp only[B];omega) (k+by_) (o u hu) za<|by have:=Tm.szs_mem hu;omega)
  rw[zQ,EL b,<-y];exact this
 refine acv (oy kd s n (FTs l) k fr f _ _) ?_;have wi:(kd==5||kd==6)=true->AC EF 173 [aT<|.mk kd s n l] [] (.tup [(false,[qf<|.sl false 4<|FTs l]),(false,[qi (if (kd==5)=true then 1 else 0)])]) []:=λb=>by have j:=J8<|.mk kd s n l;rw[show qo (.mk kd s n l)=.sl false 4 (FTs l) from EL b] at j;exact j
 refine zm (λh=>zm (λC=>?_) λC=>?_) λh=>?_
 .have g:(kd==5)=false:=zl h;have F:(kd==6)=false:=zl C;have e:(kd==5||kd==6)=false:=by rw[g,F];rfl
  have L:=p (.mk kd s n l) k e I G za;rw[show zQ i (.mk kd s n l) k=i (.mk kd s n l) k by rw[zQ,EG<|by rw[e];simp]];exact⟨_,L,.refl _,rfl⟩
 .have g:(kd==5)=false:=zl h;have F:(kd==6)=true:=zl C;have b:(kd==5||kd==6)=true:=by rw[g,F];rfl
  have E:=key 0 za za (by rw[g];rfl) b;have j:=wi b;rw[g] at j;refine⟨_,_,j,rfl,?_⟩;show RPt _ _ _ _ _ _ ⟨[_,_,_,_,_,_,_,_,(31,ci (((FTs l).length:Nat):Int)),_],_,_⟩;rw[zn];exact E
 .have g:(kd==5)=true:=zl h;have b:(kd==5||kd==6)=true:=by rw[g];rfl
  have E:=key 1 za za (by rw[g];rfl) b;have j:=wi b;rw[g] at j;refine⟨_,_,j,rfl,?_⟩;show RPt _ _ _ _ _ _ ⟨[_,_,_,_,_,_,_,_,(31,ci (((FTs l).length:Nat):Int)),_],_,_⟩;rw[zn];exact E
abbrev cloSu:TV:=.agg [.fn (.func 169) [] [(false,[.ep 0 1 0 0]),(false,[.ep 1 4 0 0])]]
abbrev stSu (ix sk:Int)(ss:List UInt8)(sn:Int)(sl:List Tm)(k by_ kd:Int)(s:List UInt8)(n:Int)(l:List Tm)(w:AV)(i:Nat)(h:AHeap)(nx:Nat):St:=
 ⟨[(2,ci k),(3,.c<|.a<|.ep 2 1 0 0),(4,.c<|.a<|.ep 3 4 0 0),(6,.c<|.a<|.ep 4 4 0 0),(7,aL l),(8,ci by_),(9,.c<|.a w),(30,aL l),(31,ci l.length),(32,ci i)],
  [(0,obj1 ix),(1,.arr 4 [fzs<|FT<|.mk sk ss sn sl]),(2,.arr 1 [[.fn (.func 169) [] [(false,[.ep 0 1 0 0]),(false,[.ep 1 4 0 0])]]]),(3,.arr 4 [fzs<|FT<|.mk kd s n l]),(4,.arr 4 [[qi 0,qf<|.str [],qi 0,qf .N]])]++h,nx⟩
def l_w2Su (y sk z C sl d k by_)(V:0<=k)(X:k<=2305843009213693952)(T:0<=by_)(H:by_<=1)(kd s n)(O:(kd==5||kd==6)=true):
  ∀(b a acc),acc≠[]->acc.length=a.length->(a++b).length<=B->(∀u∈acc++zK d b (k+by_),u.l.length<=2*B)->(∀u∈b,AC EF 171 [cloSu,aT u,ci<|k+by_] [obj1 y,.arr 4 [fzs<|FT<|.mk sk z C sl]] (aT<|zQ d u<|k+by_) [obj1 y,.arr 4 [fzs<|FT<|.mk sk z C sl]])->
  RPt EF 171 2 (aT<|xK (.mk kd s n<|a++b)<|acc++zK d b (k+by_)) [obj1 y,.arr 4 [fzs<|FT<|.mk sk z C sl]] 1 (stSu y sk z C sl k by_ kd s n (a++b) (.osl 5 4 0 acc.length) a.length [(5,.arz 4<|FTs acc)] 6)
 |[],a,acc,A,g,E,S,_=>by
  refine rpv (Zq ..) ?_
  match acc,a,A,g with
  |o::r,u::p,_,g=>
  have e1:take (o::r).length (drop 0<|FTs<|o::r)=FTs (o::r):=by rw[Sg,EV<|by rw[zn];omega]
  have F:(0:Nat)+(o::r).length<=(FTs<|o::r).length:=by rw[zn];omega
  have f:∀(j) h i,TV.Le (.agg [qi j,qf<|.str h,qi i,qf<|.sl false 4<|take (o::r).length<|drop 0<|FTs<|o::r]) (aT<|.mk j h i<|o::r):=λj h i=>by rw[e1];exact leT leSl
  refine bF zb<|zm (λJ=>zm (λv=>⟨⟨za,zb⟩,⟨by rw[zn];simp,by cases o;rfl,rfl⟩,zm (λM=>⟨⟨rfl,za,by rw[S6];show(0:Int)<(((FTs<|u::p).length:Nat):Int);rw[zn];simp,by cases u;rfl⟩,zm (λw=>?_) λw=>⟨⟨rfl,F⟩,?_,rfl⟩⟩) λM=>⟨⟨rfl,F⟩,?_,rfl⟩⟩) λv=>⟨⟨rfl,F⟩,?_,rfl⟩) λJ=>⟨⟨rfl,F⟩,?_,rfl⟩
  .
   have K:=wX o r (by have:=S o zb;simp[EH,EJ,EY,B] at E g this ⊢;omega);have m:xK (.mk kd s n<|u::p++[]) (o::r++zK d [] (k+by_))=zH o r:=by
    have W:1<(o::r++zK d [] (k+by_)).length:=by have:=S0 v;simp only[zK,S6];omega
    have c2:(o.k==6)=true:=by cases o;exact M
    have c3:(u.k !=6)=true:=by cases u;exact w
    unfold xK;rw[EL ⟨J,W,c2,c3⟩];simp[zK]
   have Y:take (toNat ((o::r).length:Int)-1) (drop 1<|FTs<|o::r)=FTs r:=by rw[show toNat ((o::r).length:Int)-1=r.length by simp only[EH];omega];show take r.length (FTs r)=FTs r;rw[EV<|by rw[zn];omega]
   have D:(1:Nat)+(toNat ((o::r).length:Int)-1)<=(FTs<|o::r).length:=by rw[zn];simp[EH];omega
   rw[m];refine⟨⟨za,zb⟩,⟨by rw[zn];simp,by cases o;rfl,rfl⟩,⟨za,zj,za⟩,⟨rfl,D⟩,?_⟩;rw[Y];let ⟨k1,s1,n1,l1⟩:=o;exact⟨_,K.args ⟨.refl _,le_c leSl,trivial⟩,.refl _,rfl⟩
  .have m:xK (.mk kd s n<|u::p++[]) (o::r++zK d [] (k+by_))=.mk kd s n (o::r):=by
    simp[zK,S6]
    exact EG λe=>by
     have L:(u.k !=6)=false:=by cases u;exact w
     have:(u.k !=6)=true:=e.2.2.2;rw[L] at this;cases this
   rw[m];exact f _ _ _
  .have m:xK (.mk kd s n<|u::p++[]) (o::r++zK d [] (k+by_))=.mk kd s n (o::r):=by
    simp[zK,S6]
    exact EG λe=>by
     have U:(o.k==6)=false:=by cases o;exact M
     have:(o.k==6)=true:=e.2.2.1;rw[U] at this;cases this
   rw[m];exact f _ _ _
  .have m:xK (.mk kd s n<|u::p++[]) (o::r++zK d [] (k+by_))=.mk kd s n (o::r):=by simp[zK,S6];exact EG λe=>by have:=e.2.1;have:=ES v;omega
   rw[m];exact f _ _ _
  .have m:xK (.mk kd s n<|u::p++[]) (o::r++zK d [] (k+by_))=.mk kd s n (o::r):=by simp[zK,S6];exact EG λe=>by have I:(kd==6)=false:=J;have:(kd==6)=true:=e.1;rw[I] at this;cases this
   rw[m];exact f _ _ _
 |t::b,a,acc,A,g,E,S,ih=>by
  refine rpv (Zq ..) ?_;have N:=E;simp[EJ,EH,B] at N;have v:=ih t ET
  have G:=l_w2Su y sk z C sl d k by_ V X T H kd s n O b (a++[t]) (acc++[zQ d t<|k+by_]) zb (by simp[g]) (by rw[ap];exact E)
   (by rw[SH];simpa[zK] using S) λu w=>ih u<|EP _ w
  have h3:=ltI' a t b;unfold stSu at G;rw[ap,show(((a++[t]).length:Nat):Int)=(a.length:Int)+1 from nx a t] at G;show br (decide ((a.length:Int)<(((a++t::b).length:Nat):Int))) ((FV.L 4 (.sl false 4<|FTs<|a++t::b)=true/\_/\_/\_)/\_) _;refine bT (ltI a t b)<|?_;have hm:=midI a t b;rw[show FV.ses (.sl false 4<|FTs<|a++t::b)=FTs (a++t::b) from rfl,hm,w64 (x:=(a.length:Int)+1) za za,w64 (x:=k+by_) za za];let ⟨j,h,i,l'⟩:=t;refine⟨⟨rfl,za,h3,rfl⟩,_,v,EI _,⟨by rw[zn];omega,vB za⟩,?_⟩;have D:take acc.length (FTs acc)++FTs [zQ d (.mk j h i l')<|k+by_]=FTs (acc++[zQ d (.mk j h i l')<|k+by_]):=by rw[EV<|by rw[zn];omega,<-yj]
  have Z:FTs [zQ d (.mk j h i l')<|k+by_]=[[.int .i64 (zQ d (.mk j h i l')<|k+by_).k,.str (zQ d (.mk j h i l')<|k+by_).s,.int .i64 (zQ d (.mk j h i l')<|k+by_).n,.sl false 4<|FTs (zQ d (.mk j h i l')<|k+by_).l]]:=by rw[FTs,FTs,Zo]
  rw[Z] at D;rw[D];rw[show acc++zK d (.mk j h i l'::b) (k+by_)=acc++zQ d (.mk j h i l') (k+by_)::zK d b (k+by_) by simp[zK]];rw[show(acc++[zQ d (.mk j h i l')<|k+by_]).length=acc.length+1 by simp,SH] at G;exact G
def l_w1Su (j sk m o sl d k by_)(D:0<=k)(F:k<=2305843009213693952)(y:0<=by_)(p:by_<=1)(kd s n)(w:(kd==5||kd==6)=true):
  ∀(b),b.length<=B->(∀u∈zK d b (k+by_),u.l.length<=2*B)->(∀u∈b,AC EF 171 [cloSu,aT u,ci<|k+by_] [obj1 j,.arr 4 [fzs<|FT<|.mk sk m o sl]] (aT<|zQ d u<|k+by_) [obj1 j,.arr 4 [fzs<|FT<|.mk sk m o sl]])->
  RPt EF 171 2 (aT<|xK (.mk kd s n b)<|zK d b<|k+by_) [obj1 j,.arr 4 [fzs<|FT<|.mk sk m o sl]] 1 (stSu j sk m o sl k by_ kd s n b (.fz .N) 0 [] 5)
 |[],r,A,_=>by
  refine rpv (Zz ..) ?_;have e:xK (.mk kd s n []) (zK d []<|k+by_)=.mk kd s n []:=EG λe=>by have:=e.2.1;simp[zK] at this
  rw[e];exact bF zb<|zm (λ_=>⟨rfl,leT yY,rfl⟩) λ_=>⟨leT yY,rfl⟩
 |t::b,r,A,ih=>by
  refine rpv (Zz ..) ?_;have v:=r;simp[EH,B] at v;have C:=ih t ET;have z:=l_w2Su j sk m o sl d k by_ D F y p kd s n w b [t] [zQ d t<|k+by_] zb rfl (zl r) (by simpa[zK] using A) λu E=>ih u<|EP _ E;show br (decide (0<(((t::b).length):Int))) ((FV.L 4 (.sl false 4<|FTs<|t::b)=true/\_/\_/\_)/\_) _;refine zm (λ_=>?_) (λh=>absurd (ES h) zb);rw[show FV.ses (.sl false 4<|FTs<|t::b)=FTs (t::b) from rfl,show getD (FTs<|t::b) (toNat<|(0:Nat)) []=FT t from rfl,w64 (x:=k+by_) za za,w64 (x:=((0:Nat))+1) za za];let ⟨i,f,g,l'⟩:=t;have H:(0:Int)<(((FTs<|.mk i f g l'::b).length:Nat):Int):=by rw[zn];simp
  refine⟨⟨rfl,za,H,rfl⟩,_,C,EI _,vB za,?_⟩;have G:FTs [zQ d (.mk i f g l')<|k+by_]=[[.int .i64 (zQ d (.mk i f g l')<|k+by_).k,.str (zQ d (.mk i f g l')<|k+by_).s,.int .i64 (zQ d (.mk i f g l')<|k+by_).n,.sl false 4<|FTs (zQ d (.mk i f g l')<|k+by_).l]]:=by rw[FTs,FTs,Zo]
  unfold stSu at z;rw[G] at z;exact z
def c_wSu (g sk:Int) (i:List UInt8) (p:Int) (sl:List Tm) (j:Tm->Int->Tm) (Q:Tm->Int->Prop)
  (N:∀(kd:Int) (s:List UInt8) (n:Int) (l:List Tm) (d:Int),Q (.mk kd s n l) d->(kd==5||kd==6)=true->∀u∈l,Q u<|d+if (kd==5)=true then 1 else 0)
  (w:∀(u:Tm) (d:Int),(u.k==5||u.k==6)=false->Q u d->0<=d->d<=2305843009213693952->AC EF 169 [aT u,ci d,.c<|.a<|.ep 0 1 0 0,.c<|.a<|.ep 1 4 0 0] [(obj1 g),(.arr 4 [fzs<|FT<|.mk sk i p sl])] (aT<|j u d) [(obj1 g),(.arr 4 [fzs<|FT<|.mk sk i p sl])])
  (y:∀(u:Tm) (d:Int),Q u d->(zQ j u d).l.length<=2*B):
  ∀t:Tm,t.sz<=B->∀k:Int,Q t k->0<=k->k+t.sz<=2305843009213693952->AC EF 171 [cloSu,aT t,ci k] [(obj1 g),(.arr 4 [fzs<|FT<|.mk sk i p sl])] (aT<|zQ j t k) [(obj1 g),(.arr 4 [fzs<|FT<|.mk sk i p sl])]:=by
 refine Tm.ind λt ih O k K I L=>?_;have z:=Tm.szs_length t.l;obtain⟨kd,s,n,l⟩:=t;simp only[Tm.sz,B,Tm.l] at O z;simp only[Tm.sz] at L;have key:∀by_:Int,0<=by_->by_<=1->(by_=if (kd==5)=true then 1 else 0)->(b:(kd==5||kd==6)=true)->RPt EF 171 2 (aT<|zQ j (.mk kd s n l) k) [(obj1 g),(.arr 4 [fzs<|FT<|.mk sk i p sl])] 1 (stSu g sk i p sl k by_ kd s n l (.fz .N) 0 [] 5):=by
  intro by_ F D A b;have r:=N kd s n l k K b;rw[<-A] at r
  have:=l_w1Su g sk i p sl j k by_ I za F D kd s n b l (by simp only[B];omega) (λu hu=>by
   have:∀ {m:List Tm},(∀v∈m,Q v<|k+by_)->∀u∈zK j m (k+by_),u.l.length<=2*B:=by
    intro m
    induction m with
    |nil=>intro _ u hu;simp[zK] at hu
    |cons v m C=>
     intro J u hu;simp only[zK,S4] at hu;rcases hu with rfl|hu
     .exact y v _ (J v ET)
     .exact C (λx S=>J x<|EP _ S) u hu
   exact this r u hu) (λu hu=>ih u hu (by have:=Tm.szs_mem hu;simp only[B];omega) (k+by_) (r u hu) za<|by have:=Tm.szs_mem hu;omega)
  rw[zQ,EL b,<-A];exact this
 refine acv (oE kd s n (FTs l) k g sk i p (FTs sl) _ _) ?_;have wi:(kd==5||kd==6)=true->AC EF 173 [aT<|.mk kd s n l] [] (.tup [(false,[qf<|.sl false 4<|FTs l]),(false,[qi (if (kd==5)=true then 1 else 0)])]) []:=λb=>by have o:=J8<|.mk kd s n l;rw[show qo (.mk kd s n l)=.sl false 4 (FTs l) from EL b] at o;exact o
 refine zm (λh=>zm (λH=>?_) λH=>?_) λh=>?_
 .have f:(kd==5)=false:=zl h;have G:(kd==6)=false:=zl H;have e:(kd==5||kd==6)=false:=by rw[f,G];rfl
  have M:=w (.mk kd s n l) k e K I za;rw[show zQ j (.mk kd s n l) k=j (.mk kd s n l) k by rw[zQ,EG<|by rw[e];simp]];exact⟨_,M,.refl _,rfl⟩
 .have f:(kd==5)=false:=zl h;have G:(kd==6)=true:=zl H;have b:(kd==5||kd==6)=true:=by rw[f,G];rfl
  have E:=key 0 za za (by rw[f];rfl) b;have o:=wi b;rw[f] at o;refine⟨_,_,o,rfl,?_⟩;show RPt _ _ _ _ _ _ ⟨[_,_,_,_,_,_,_,_,(31,ci (((FTs l).length:Nat):Int)),_],_,_⟩;rw[zn];exact E
 .have f:(kd==5)=true:=zl h;have b:(kd==5||kd==6)=true:=by rw[f];rfl
  have E:=key 1 za za (by rw[f];rfl) b;have o:=wi b;rw[f] at o;refine⟨_,_,o,rfl,?_⟩;show RPt _ _ _ _ _ _ ⟨[_,_,_,_,_,_,_,_,(31,ci (((FTs l).length:Nat):Int)),_],_,_⟩;rw[zn];exact E
def u6 (f l):(zH f l).sz<=1+f.sz+Tm.szs l:=by
 unfold zH;split
 .omega
 .split
  .have:=f.sz_eq;simp[Tm.sz,Tm.szs_append,EY];omega
  .simp[Tm.sz,Tm.szs,EY];omega
def withF_sz (t o):(xK t o).sz<=1+Tm.szs o:=by
 unfold xK;split
 .rename_i h
  match o,h with
  |[],h=>simp at h
  |x::r,h=>
   simp only[List.headD_cons,List.tail_cons,Tm.szs] at h ⊢;have d:r≠[]:=by intro e;rw[e] at h;simp at h
   unfold zH;split
   .omega
   .have:=x.sz_eq;by_cases b:x.l=[]
    .rw[EG λe=>e.2 b];simp only[Tm.sz,Tm.szs,EY];omega
    .rw[EL ⟨h.2.2.1,b⟩];simp[Tm.sz,Tm.szs_append,EY];omega
 .simp only[Tm.sz];omega
mutual
def nd:Tm->Nat
 |.mk _ _ _ l=>1+nds l
def nds:List Tm->Nat
 |[]=>0
 |t::l=>nd t+nds l
end
def nd_eq (t):nd t=1+nds t.l:=by cases t;rfl
def tV:∀ {l} {t},t∈l->nd t<=nds l
 |x::l,t,h=>by
  rcases S4.1 h with rfl|h
  .simp only[nds];omega
  .have:=tV h;simp[nds];omega
mutual
def JG (lf:Tm->Int->Tm)(S:Nat)(h:∀u d,(lf u d).sz<=u.sz+S):∀(t:Tm) (d:Int),(zQ lf t d).sz<=t.sz+nd t*S
 |.mk k s n l,d=>by
  rw[zQ];split
  .refine SW (withF_sz ..) ?_;have:=aR lf S h l<|d+if (k==5)=true then 1 else 0
   simp only[Tm.sz,Tm.s,nd,SO,Nat.one_mul];omega
  .refine SW (h _ _) ?_;simp only[nd,SO,Nat.one_mul];omega
def aR (lf:Tm->Int->Tm)(S:Nat)(h:∀u d,(lf u d).sz<=u.sz+S):∀(l:List Tm) (d:Int),Tm.szs (zK lf l d)<=Tm.szs l+nds l*S
 |[],_=>by simp[zK,Tm.szs]
 |t::l,d=>by have:=JG lf S h t d;have:=aR lf S h l d;simp only[zK,Tm.szs,nds,SO];omega
end
def WQ {M}:∀ {a b},bds M a->bds M b->bds M (a++b)
 |[],_,_,h=>h
 |_::_,_,h,h'=>⟨h.1,WQ h.2 h'⟩
def lm {M}:∀ {l},(∀t∈l,bd M t)->bds M l
 |[],_=>trivial
 |t::_,h=>⟨h t ET,lm λu b=>h u<|EP _ b⟩
def bd6 {M s n l}(h:bds M l):bd M (.mk 6 s n l):=⟨λe=>absurd e za,h⟩
def jH {M f l}(b:bd M f)(d:bds M l):bd M (zH f l):=by
 unfold zH;split
 .exact b
 .split
  .exact bd6<|WQ (bd_l b) d
  .exact bd6 ⟨b,d⟩
def withF_bd {M t o}(d:t.k≠3)(b:bds M o):bd M (xK t o):=by
 unfold xK;split
 .rename_i h
  match o,h,b with
  |[],h,_=>simp at h
  |x::r,h,b=>exact jH b.1 b.2
 .exact⟨λe=>absurd e d,b⟩
mutual
def Y7 (lf:Tm->Int->Tm)(M M' D:Int)(h:∀u d,bd M u->0<=d->d<=D->bd M' (lf u d)):∀(t:Tm) (d:Int),bd M t->0<=d->d+t.sz<=D->bd M' (zQ lf t d)
 |.mk k s n l,d,hb,h0,h1=>by
  rw[zQ];simp only[Tm.sz] at h1;split
  .rename_i hk;refine withF_bd (λe=>?_)<|aX lf M M' D h l _ hb.2 (by split<;>omega)<|by split<;>omega
   have e:k=3:=e;rw[e] at hk;exact absurd hk zc
  .exact h _ _ hb h0 za
def aX (lf:Tm->Int->Tm)(M M' D:Int)(h:∀u d,bd M u->0<=d->d<=D->bd M' (lf u d)):∀(l:List Tm) (d:Int),bds M l->0<=d->d+Tm.szs l<=D->bds M' (zK lf l d)
 |[],_,_,_,_=>trivial
 |t::l,d,hb,h0,h1=>by simp only[Tm.szs] at h1;exact⟨Y7 lf M M' D h t d hb.1 h0 za,aX lf M M' D h l d hb.2 h0 za⟩
end
def applyF_k {f}(l)(h:(f.k==6)=true):(zH f l).k=6:=by
 unfold zH;split
 .exact zl h
 .split<;>rfl
def withF_k (t o):(xK t o).k=t.k:=by
 unfold xK;split;next b=>have e:t.k=6:=eq_of_beq b.1;rw[applyF_k _ b.2.2.1];exact e.symm
 .rfl
def vh (b k s n l d)(e:(k==5||k==6)=false):
  zQ b (.mk k s n l) d=b (.mk k s n l) d:=by rw[zQ,EG<|by rw[e];simp]
def Zv (b):∀(l) (d),(zK b l d).length=l.length
 |[],_=>rfl
 |_::l,d=>by simp[zK,EH,Zv b l d]
abbrev M61:Int:=2305843009213693952
def yM (fr by_:Int)(u:Tm)(d:Int):=if (u.k==3)=true/\d+fr<=u.n then .mk u.k u.s (u.n+by_) u.l else u
def shT (fr by_:Int)(t:Tm)(d:Int):=zQ (yM fr by_) t d
def pn (fr by_ u d):(yM fr by_ u d).k=u.k:=by unfold yM;split<;>rfl
def E3 (fr by_ u d):(yM fr by_ u d).sz=u.sz:=by
 unfold yM;split
 .cases u;rfl
 .rfl
def Wy (fr by_ t d):(shT fr by_ t d).sz<=t.sz:=by have:=JG (yM fr by_) 0 (λu d=>by rw[E3];omega) t d;rw[Nat.mul_zero] at this;exact this
def vD {M M'}(h:M<=M'):∀t,bd M t->bd M' t:=by refine Tm.ind λt ih d=>?_;let ⟨k,s,n,l⟩:=t;exact⟨λe=>by have:=d.1 e;omega,lm λu b=>ih u b<|xU d.2 b⟩
def mG {fr by_ M}(g:0<=by_)(u d)(b:bd M u):bd (M+by_) (yM fr by_ u d):=by
 unfold yM;split
 .let ⟨k,s,n,l⟩:=u;exact⟨λe=>by have:=b.1 e;simp[Tm.n];omega,lm λu f=>vD za u<|xU b.2 f⟩
 .exact vD za u b
def np {fr by_ M}(f:0<=by_)(t d)(g:bd M t)(hd:0<=d):bd (M+by_) (shT fr by_ t d):=
 Y7 _ M _ _ (λu e b _ _=>mG f u e b) t d g hd (EQ _)
def dF (t by_)(b: -9223372036854775808<=t.n+by_)(d:t.n+by_<=9223372036854775807):AC EF 170 [aT t,ci by_] [] (aT<|.mk t.k t.s (t.n+by_) t.l) []:=by let ⟨k,s,n,l⟩:=t;refine acv (v170 k s n _ by_ _ _) ?_;rw[w64 (x:=n+by_) b d];exact rrl
def c_shift1 (fr by_ d u)(j:u.k=3->0-M61<=u.n/\u.n<=M61)(g:0<=d)(m:d<=M61)(r:0<=fr)(o:fr<=M61)(p:0-1<=by_)(i:by_<=M61):
  AC EF 172 [aT u,ci d,.c<|.a<|.ep 0 1 0 0,.c<|.a<|.ep 1 1 0 0] [obj1 fr,obj1 by_] (aT<|yM fr by_ u d) [obj1 fr,obj1 by_]:=by
 let ⟨k,s,n,l⟩:=u;simp[M61,Tm.k,Tm.n] at*;refine acv (v172 k s n (FTs l) d fr by_ _ _) ?_;rw[w64 za za];refine zm (λh=>zm (λf=>?_) λf=>?_) λh=>?_
 .have v:k=3:=zl h;have:=j v;have e:yM fr by_ (.mk k s n l) d=.mk k s _ l:=EL ⟨h,(S0 f)⟩;rw[e];exact⟨_,dF (.mk k s n l) by_ (by simp[Tm.n];omega)<|by simp[Tm.n];omega,.refl _,rfl⟩
 .have b:=ES f;have e:yM fr by_ _ d=.mk k s n l:=EG λe=>b e.2;rw[e];exact rrl
 .have e:yM fr by_ _ d=.mk k s n l:=EG λe=>by have:=e.1;rw[show Tm.k _=k from rfl,h] at this;cases this
  rw[e];exact rrl
def Yk (t fr by_)(f:t.sz<=B)(p:bd M61 t)(j:0<=fr)(g:fr<=M61)(i:0-1<=by_)(e:by_<=M61):
  AC EF 128 [aT t,ci fr,ci by_] [] (aT<|shT fr by_ t 0) []:=by
 have h:=c_wSh fr by_ _ (λu _=>bd M61 u/\u.sz<=B) (λw s n l d b r u o=>⟨xU b.1.2 o,by have:=Tm.szs_mem o;have:=b.2;simp[Tm.sz] at this;omega⟩)
  (λu d r b v m=>c_shift1 fr by_ d u (by let ⟨k,s,n,l⟩:=u;exact b.1.1) v m j g i e)
  (λu d b=>by have:=Wy fr by_ u d;have m:=(shT fr by_ u d).sz_eq;have:=Tm.szs_length (shT fr by_ u d).l;have:=b.2;show(shT fr by_ u d).l.length<=_;omega)
  t f 0 ⟨p,f⟩ (EQ _) (by simp[B] at f;omega)
 let ⟨k,s,n,l⟩:=t;refine acv (v128 k s n _ fr by_ _ _) ?_;exact⟨_,h,.refl _,rfl⟩
def xD (i:Int)(s u:Tm)(d:Int):=
 if (u.k==3)=true then(if u.n<d+i then u else if (u.n==d+i)=true then shT 0 d s 0 else .mk u.k u.s (u.n-1) u.l) else u
def suT (i:Int)(s t:Tm)(d:Int):=zQ (xD i s) t d
def tK (i s u d):(xD i s u d).sz<=u.sz+s.sz:=by
 have b:=Wy 0 d s 0;unfold xD;split
 .split
  .omega
  .split
   .omega
   .cases u;simp only[Tm.sz,Tm.s,Tm.l];omega
 .omega
def suT_sz (i s t d):(suT i s t d).sz<=t.sz+nd t*s.sz:=JG _ _ (tK i s) t d
def suT_bd {i M M' D}(s t d)(o:bd M t)(r:bd M' s)(y:M'+D<=M)(hd:0<=d)(hD:d+t.sz<=D)(z:0<=i)(g:0<=M):bd M (suT i s t d):=by
 refine Y7 _ M M D (λu f b j x=>?_) t d o hd hD;unfold xD;split
 .split
  .exact b
  .split
   .exact vD za _<|np j s 0 r<|EQ _
   .rename_i h m;let ⟨k,w,n,l⟩:=u;have p:n≠f+i:=λe=>m (by rw[show Tm.n _=n from rfl,e];simp);have v:¬n<f+i:=h;exact⟨λe=>by have:=b.1 e;simp[Tm.n];omega,b.2⟩
 .exact b
def c_subst1 (i d s u)(r:s.sz<=B)(o:bd M61 s)(p:u.k=3->0-M61<=u.n/\u.n<=M61)(v:0<=d)(m:d<=M61)(w:0<=i)(x:i<=M61):
  AC EF 169 [aT u,ci d,.c<|.a<|.ep 0 1 0 0,.c<|.a<|.ep 1 4 0 0] [obj1 i,.arr 4 [fzs<|FT s]] (aT<|xD i s u d) [obj1 i,.arr 4 [fzs<|FT s]]:=by
 let ⟨k,t,n,l⟩:=u;rw[Zo];simp[M61,Tm.k,Tm.n] at*;refine acv (v169 k t n (FTs l) d i s.k s.s s.n (FTs s.l) _ _) ?_;rw[w64 za za];refine zm (λh=>?_) λh=>zm (λf=>?_) λf=>zm (λj=>?_) λj=>?_
 .have e:xD i s _ d=.mk k t n l:=EG λe=>by rw[show Tm.k _=k from rfl] at e;rw[bne,e] at h;cases h
  rw[e];exact rrl
 .have b:(k==3)=true:=by simpa[bne] using h
  have e:xD i s (.mk k t n l) d=.mk k t n l:=by rw[xD,EL (show(Tm.k (.mk k t n l)==3)=true from b),EL (show Tm.n (.mk k t n l)<d+i from S0 f)]
  rw[e];exact rrl
 .have b:(k==3)=true:=by simpa[bne] using h
  have e:xD i s (.mk k t n l) d=shT 0 d s 0:=by rw[xD,EL (show(Tm.k (.mk k t n l)==3)=true from b),EG (show¬Tm.n (.mk k t n l)<d+i from ES f),EL (show(Tm.n (.mk k t n l)==d+i)=true from j)]
  rw[e];exact⟨_,(Yk s 0 d r o (EQ _) zb za m),.refl _,rfl⟩
 .have b:(k==3)=true:=by simpa[bne] using h
  have e:xD i s (.mk k t n l) d=.mk k t (n-1) l:=by rw[xD,EL (show(Tm.k (.mk k t n l)==3)=true from b),EG (show¬Tm.n (.mk k t n l)<d+i from ES f),EG<|by rw[show Tm.n (.mk k t n l)=n from rfl,j];simp];rfl
  have:=p<|eq_of_beq b;rw[e];exact⟨_,dF (.mk k t n l) (-1) (by simp[Tm.n];omega)<|by simp[Tm.n];omega,.refl _,rfl⟩
def Ei (t s i)(y:s.sz<=B)(C:t.sz+nd t*s.sz<=B)(x:bd M61 t)(o:bd M61 s)(m:0<=i)(p:i<=M61):
  AC EF 127 [aT t,ci i,aT s] [] (aT<|suT i s t 0) []:=by
 have g:t.sz<=B:=za;have A:=Zo s;let ⟨sk,b,e,sl⟩:=s
 have h:=c_wSu i sk b e sl _ (λu _=>bd M61 u/\u.sz+nd u*(Tm.mk sk b e sl).sz<=B) (λr s n l d f z u j=>⟨xU f.1.2 j,by have v:=f.2;have:=Ss (Tm.mk sk b e sl).sz (tV j);have:=Tm.szs_mem j;rw[Tm.sz_eq _,nd_eq _,SO] at v;simp[Tm.l,Tm.s] at v;omega⟩)
  (λu d z f D w=>c_subst1 i d _ u y o (by let ⟨k,s,n,l⟩:=u;exact f.1.1) D w m p)
  (λu d f=>by have:=suT_sz i (.mk sk b e sl) u d;have w:=(suT i (.mk sk b e sl) u d).sz_eq;have:=Tm.szs_length (suT i (.mk sk b e sl) u d).l;have:=f.2;show(suT i (.mk sk b e sl) u d).l.length<=_;omega)
  t g 0 ⟨x,C⟩ (EQ _) (by simp[B] at g;omega)
 let ⟨k,s,n,l⟩:=t;refine acv (v127 k s n (FTs l) i sk b e (FTs sl) _ _) ?_;exact⟨_,h,.refl _,rfl⟩
def w5:Nat->Tm->Tm
 |0,t=>t
 |n+1,t=>w5 n<|.mk 5 [] 0 [t]
def mg (N)(p:N<=4294967296):∀(m:Nat) (i k:Int) (s) (n) (rows) (l),0<=i->i+m=N->FV.Le (.sl false 4 rows) (.sl false 4<|FTs l)->
  RPt EF 111 0 (aT<|w5 m<|.mk k s n l) [] 1 ⟨[(3,.c<|.a<|.ep 0 4 0 0),(4,.c<|.a<|.ep 1 4 0 0),(6,ci N),(7,ci i)],[(0,.arr 4 [[qi k,qf<|.str s,qi n,qf<|.sl false 4 rows]]),(1,.arr 4 [[qi 0,qf<|.str [],qi 0,qf .N]])],2⟩
 |0,i,k,s,n,rows,l,g,f,b=>by refine rpv (cR ..) ?_;refine bF za ⟨leT b,rfl⟩
 |m+1,i,k,s,n,rows,l,g,f,b=>by
  refine rpv (cR ..) ?_
  have o:=mg N p m (i+1) 5 [] 0 [[.int .i64 k,.str s,.int .i64 n,.sl false 4 rows]] [.mk k s n l] za za (nA rfl λj r t d e=>by
   match j,d,e with
   |0,d,e=>simp[SI,EO] at d e;subst d;subst e;exact leFT b
   |j+1,d,_=>simp at d)
  rw[w64 (x:=i+1) za za];refine zm (λ_=>⟨⟨rfl,za⟩,?_⟩) (λh=>absurd (ES h) za);exact o
def foldMax0 {n}(h:0<=n):zS [n,0]=n:=by rw[pG];unfold maxI;split<;>omega
def fg (m:Nat)(t)(e:m<=4294967296):AC EF 111 [ci m,aT t] [] (aT<|w5 m t) []:=by
 let ⟨k,s,n,l⟩:=t;refine acv (v111 m k s n (FTs l) _ _) ?_;rw[foldMax0 za];refine rpv (cR ..) ?_
 match m,e with
 |0,_=>exact bF za rrl
 |m+1,e=>
  refine zm (λ_=>⟨⟨rfl,za⟩,?_⟩) (λh=>absurd (ES h) za)
  exact mg ((m+1)) za m 1 5 [] 0 [[.int .i64 k,.str s,.int .i64 n,.sl false 4<|FTs l]] [.mk k s n l] za za (nA rfl λj r t b d=>by
   match j,b,d with
   |0,b,d=>simp[SI,EO] at b d;subst b;subst d;exact leFT (.refl _)
   |j+1,b,_=>simp at b)
mutual
def zt:Tm->Bool
 |.mk k s n l=>
  if (k==0)=true then(YC s||gT s)&&n==0&&(((FTs l).length:Nat):Int)==0 else if (k==1)=true then decide (n>=1)&&s==[]&&(((FTs l).length:Nat):Int)==0&&yL l else if (k==2)=true then s==[]&&(((FTs l).length:Nat):Int)==0&&yL l else if (k==3)=true then decide (n>=0)&&decide (n<=4611686018427387904)&&s==[]&&(((FTs l).length:Nat):Int)==0&&yL l else if (k==4)=true then decide (n>=0)&&decide (n<=4611686018427387904)&&s==[]&&(((FTs l).length:Nat):Int)==0&&yL l else if (k==5)=true then n==0&&s==[]&&(((FTs l).length:Nat):Int)==1&&yL l else if (k==6)=true then n==0&&decide ((((FTs l).length:Nat):Int)>=2)&&((l.headD default).k !=6)&&s==[]&&yL l else false
def yL:List Tm->Bool
 |[]=>true
 |t::l=>zt t&&yL l
end
def bC:List Tm->Int->Int
 |[],_=> -1
 |t::l,i=>if zt t=true then bC l (i+1) else i
def pV:∀(l) (i),0<=i->decide (bC l i>=0)= !yL l
 |[],_,_=>rfl
 |t::l,i,h=>by
  rw[bC,yL];split;next e=>rw[pV l _ za,e,SL]
  next e=>rw[show zt t=false by simpa using e];simp;omega
def tz:∀(b a),(∀u∈b,AC EF 129 [aT u] [] (cb (!zt u)) [])->(a++b).length<=B->
  RPt EF 144 0 (ci<|bC b a.length) [] 1 ⟨[(0,aL<|a++b),(1,.c<|.fn (.func 129) [] []),(7,ci<|((FTs<|a++b).length)),(8,ci a.length)],[],0⟩
 |[],a,_,_=>by refine rpv (ZJ ..) ?_;exact bF (geI' a)<|xB rfl
 |t::b,a,ih,g=>by
  refine rpv (ZJ ..) ?_;have d:=g;simp[EJ,EH,B] at d;have j:=ih t ET;have e:=tz b (a++[t]) (λu i=>ih u<|EP _ i) (by rw[ap];exact g);have f:=ltI' a t b;rw[ap,nx] at e;rw[midI,w64 (x:=a.length+1) za za];refine bT f<|?_;let ⟨p,m,o,l'⟩:=t;refine⟨⟨rfl,za,f,rfl⟩,_,j,zm (λh=>?_) λh=>?_⟩
  .rw[bC,EG<|zl h];exact xB rfl
  .rw[bC,EL<|zl h];exact e
def c_contf (l)(f:l.length<=B)(ih:∀u∈l,AC EF 82 [aT u] [] (cb<|zt u) []):AC EF 103 [aL l,.c<|.fn (.func 129) [] []] [] (cb (!yL l)) []:=by
 have d:∀u∈l,AC EF 129 [aT u] [] (cb (!zt u)) []:=λu b=>by have h:=ih u b;let ⟨k,s,n,l⟩:=u;refine acv (v129 k s n (FTs l) _ _) ?_;exact⟨_,h,zy rfl⟩
 have e:AC EF 144 [aL l,.c<|.fn (.func 129) [] []] [] (ci<|bC l 0) []:=by refine acv (sg ..) ?_;exact⟨rfl,tz l [] d f⟩
 refine acv (rK ..) ?_;exact⟨_,e,zy<|pV l 0<|EQ _⟩
def head0:∀ {l},2<=(((FTs l).length):Int)->getD (FTs l) 0 []=FT (l.headD default)
 |[],h=>by simp[FTs] at h
 |t::l,_=>rfl
def xR:∀t,t.sz<=B->AC EF 82 [aT t] [] (cb<|zt t) []:=by
 refine Tm.ind λt ih D=>?_;have i:=Tm.szs_length t.l;let ⟨k,s,n,l⟩:=t;simp[Tm.sz,Tm.l] at D i;have g:=c_contf l za λu y=>ih u y (by have:=Tm.szs_mem y;omega);refine acv (v82 k s n (FTs l) _ _) ?_
 refine zm (λC=>⟨_,au s,zm (λo=>zm (λe=>⟨rfl,zy ?_⟩) λe=>zy ?_) λo=>⟨_,A5 s,zm (λv=>zm (λe=>⟨rfl,zy ?_⟩) λe=>zy ?_) λv=>zy ?_⟩⟩)
  (λC=>zm (λo=>zm (λe=>zm (λj=>⟨rfl,zm (λf=>⟨_,g,zy ?_⟩) λf=>zy ?_⟩) λj=>zy ?_) λe=>zy ?_)
  (λo=>zm (λe=>zm (λj=>⟨rfl,zm (λf=>⟨_,g,zy ?_⟩) λf=>zy ?_⟩) λj=>zy ?_)
  (λe=>zm (λj=>zm (λf=>zm (λh=>zm (λd=>⟨rfl,zm (λb=>⟨_,g,zy ?_⟩) λb=>zy ?_⟩) λd=>zy ?_) λh=>zy ?_) λf=>zy ?_)
  (λj=>zm (λp=>zm (λf=>zm (λh=>zm (λd=>⟨rfl,zm (λb=>⟨_,g,zy ?_⟩) λb=>zy ?_⟩) λd=>zy ?_) λh=>zy ?_) λf=>zy ?_)
  (λp=>zm (λh=>zm (λd=>zm (λb=>⟨rfl,zm (λm=>⟨_,g,zy ?_⟩) λm=>zy ?_⟩) λb=>zy ?_) λd=>zy ?_)
  (λh=>zm (λd=>zm (λb=>⟨rfl,zm (λm=> ?app) λm=>⟨rfl,zy ?_⟩⟩) λb=>⟨rfl,zy ?_⟩) λd=>zy ?_))))))
 case app=>have r:=S0 m;rw[head0 r,Zo];refine⟨⟨rfl,za,za,rfl⟩,rfl,zm (λz=>zm (λw=>⟨rfl,zm (λx=>⟨_,g,zy ?_⟩) λx=>zy ?_⟩) λw=>zy ?_) λz=>zy ?_⟩;all_goals (have A:((l.headD default).k !=6)=_:=z;simp_all[zt])
 all_goals first
  |(simp_all[zt];done)
  |(simp_all[zt];intros;omega)
mutual
def oZ {M:Int}:∀t:Tm,near M t=true->bd M t
 |.mk k s n l,h=>by simp only[near,EN] at h;refine⟨λe=>?_,ad l h.2⟩;have:=h.1;rw[e] at this;simp at this;omega
def ad {M:Int}:∀l:List Tm,cj M l=true->bds M l
 |[],_=>trivial
 |t::l,h=>by simp only[cj,EN] at h;exact⟨oZ t h.1,ad l h.2⟩
end
def ax:∀(b a e d),(∀u∈b,∀v,AC EF 143 [aT u,aT v] [] (cb<|u4 u v) [])->(a++b).length<=B->a.length=d.length->b.length=e.length->
  RPt EF 178 0 (cb<|uN b e) [] 1 ⟨[(1,aL<|d++e),(2,.c<|.fn (.func 143) [] []),(15,aL<|a++b),(16,ci<|((FTs<|a++b).length)),(17,ci a.length)],[],0⟩
 |[],a,[],d,_,_,_,_=>by refine rpv (ZE ..) ?_;exact bF (geI' a)<|zy rfl
 |t::b,a,f::e,d,ih,j,i,E=>by
  refine rpv (ZE ..) ?_;have g:=j;simp[EJ,EH,B] at g;simp[EH] at E;have F:=ih t ET f;have A:=ax b (a++[t]) e (d++[f]) (λu D=>ih u<|EP _ D) (by rw[ap];exact j) (by simp[i]) za;have w:=ltI' a t b;have r:=ltI' d f e;rw[<-i] at r;rw[ap,ap,nx] at A;rw[midI,midI' a d i,w64 (x:=a.length+1) za za];refine bT w<|?_;let ⟨y,m,z,l1⟩:=t;let ⟨p,o,C,l2⟩:=f;refine⟨⟨rfl,za,w,rfl⟩,⟨rfl,za,r,rfl⟩,_,F,zm (λh=>zy ?_) λh=>?_⟩
  .rw[uN,show u4 (.mk y m z l1) (.mk p o C l2)=false by simpa using h];rfl
  .rw[uN,show u4 (.mk y m z l1) (.mk p o C l2)=true by simpa using h];exact A
def c_same:∀a,a.sz<=B->∀b,AC EF 143 [aT a,aT b] [] (cb<|u4 a b) []:=by
 refine Tm.ind λa ih g b=>?_;have d:=Tm.szs_length a.l;let ⟨p,i,r,l1⟩:=a;let ⟨m,j,y,l2⟩:=b;simp[Tm.sz,Tm.l] at g d;have o:AC EF 178 [aL l1,aL l2,.c<|.fn (.func 143) [] []] [] (cb<|uN l1 l2) []:=by
  refine acv (ru ..) ?_;refine⟨rfl,rfl,zm (λh=>zy ?_) λh=>⟨rfl,?_⟩⟩
  .rw[zn,zn] at h;exact(YS λe=>by rw[e] at h;simp at h).symm
  .rw[zn,zn] at h
   exact ax l1 [] l2 [] (λu hu v=>ih u hu (by have:=Tm.szs_mem hu;omega) v) (by simp only[SD];omega) rfl (by have:(l1.length:Int)=l2.length:=zl h
                                                                                                             omega)
 refine acv (v143 p i r _ m j y _ _ _) ?_;refine zm (λh=>zm (λx=>zm (λw=>⟨_,o,zy ?_⟩) λw=>zy ?_) λx=>zy ?_) λh=>zy ?_;all_goals simp[u4]
 all_goals simp_all
mutual
def ji:Tm->Int->Int
 |.mk kd _ n l,k=>if (kd==3)=true then maxI 0 (n-k+1) else if (kd==5||kd==6)=true then jn l (k+if (kd==5)=true then 1 else 0) else 0
def jn:List Tm->Int->Int
 |[],_=>0
 |t::l,k=>maxI (ji t k)<|jn l k
end
def Wq (a b c):maxI (maxI a b) c=maxI a (maxI b c):=by unfold maxI;(repeat' split)<;>omega
def maxI0 {a}(h:0<=a):maxI a 0=a:=by unfold maxI;split<;>omega
def maxI_ge2 (a b):b<=maxI a b:=by unfold maxI;split<;>omega
def We:∀(l) (k),0<=jn l k
 |[],_=>EQ _
 |t::l,k=>by rw[jn];exact Int.le_trans (We l k)<|maxI_ge2 _ _
def nE (a b):a<=maxI a b:=by unfold maxI;split<;>omega
mutual
def fB:∀(t:Tm) (k acc:Int),0<=acc->vr t k acc=maxI acc (ji t k)
 |.mk kd _ n l,k,acc,h=>by
  simp only[vr,ji];by_cases h5:(kd==5)=true
  .have e:kd=5:=zl h5;subst e;simp[qM l _ acc h]
  .by_cases h6:(kd==6)=true
   .have e:kd=6:=zl h6;subst e;simp[qM l _ acc h]
   .have e5:(kd==5)=false:=zl h5;have e6:(kd==6)=false:=zl h6;rw[EG h5,EG h6];by_cases h3:(kd==3)=true
    .rw[EL h3,EL h3,<-Wq,maxI0 h]
    .rw[EG h3,EG h3,EG<|by rw[e5,e6];simp,maxI0 h]
def qM:∀(l:List Tm) (k acc:Int),0<=acc->ZL l k acc=maxI acc (jn l k)
 |[],_,acc,h=>by rw[ZL,jn,maxI0 h]
 |t::l,k,acc,h=>by have h1:=fB t k acc h;rw[ZL,jn,h1,qM l k _<|Int.le_trans h<|nE _ _,Wq]
end
abbrev t0:Tm:=.mk 0 [] 0 []
def cg (s:Hp)(a:Int):Tm:=
 if (zB s.C a).t=0 then .mk 0 (uP s.N (zB s.C a).a) 0 [] else if (zB s.C a).t=1 then .mk 1 [] (zB s.C a).a [] else if (zB s.C a).t=2 then .mk 2 [] (zB s.C a).a [] else if (zB s.C a).t=3 then .mk 3 [] (zB s.C a).a [] else if (zB s.C a).t=4 then .mk 4 [] a [] else t0
def wg (F:Rd->Int->Tm×Rd):List Int->Tm->Rd->Tm×Rd
 |[],t,r=>(t,r)
 |x::l,t,r=>wg F l (zH t [(F r x).1]) (F r x).2
def fullG (F:Rd->Int->Tm×Rd)(h:(Int×List Int)×Rd):=
 if h.2.e≠0 then(t0,h.2) else if (zB h.2.s.C h.1.1).t=6 then(w5 1 (F h.2 (zB h.2.s.C h.1.1).a).1,(F h.2 (zB h.2.s.C h.1.1).a).2) else wg F h.1.2 (cg h.2.s h.1.1) h.2
def fulR (N:Nat):Nat->Rd->Int->Tm×Rd
 |0,r,_=>(t0,r)
 |n+1,r,a=>fullG (fulR N n)<|yi N r a
def pT:∀(l) (f) (r),r.e≠0->(uO l f r).2=r
 |[],_,_,_=>rfl
 |x::l,f,r,h=>by
  have:(putR r ⟨7,f,x,0,0⟩).2=r:=by rw[putR,EG h]
  rw[uO,this];exact pT l _ r h
def apps_f:∀(l) (f) (r),(uO l f r).2.f=r.f
 |[],_,_=>rfl
 |x::l,f,r=>by rw[uO,apps_f l,Jo]
def keep_err {r a b}(h:r.e≠0):yG r a b=r:=by rw[yG,EG λq=>h q.1]
def Kq:∀(n) (l) (b) (a) (r),2*r.f.toNat+2<=n->((headL n l b a r).r.f)+(headL n l b a r).l.length<=r.f+l.length/\(headL n l b a r).r.f<=r.f/\
  ((headL n l b a r).r.e=0->(headL n l b a r).r.f+(headL n l b a r).l.length+1<=r.f+l.length/\0<=(headL n l b a r).r.f)
 |0,_,_,_,_,h=>absurd h za
 |n+1,l,b,a,r,u=>by
  have d:=qV r a;rw[headL];split
  .grind
  .split
   .grind
   .rename_i q;let ⟨i,p⟩:=d.2 za;split
    .have ih:=Kq n ((zu r a).1.1.b::l) b (zu r a).1.1.a (zu r a).2 za;grind
    .split
     .have j:=a8 n (zu r a).2 (zu r a).1.1;have m:=gE (zG n (zu r a).2 (zu r a).1.1).2 (zu r a).1.2 (zG n (zu r a).2 (zu r a).1.1).1;have ih:=Kq n l b (zG n (zu r a).2 (zu r a).1.1).1 (yG (zG n (zu r a).2 (zu r a).1.1).2 (zu r a).1.2 (zG n (zu r a).2 (zu r a).1.1).1) za;omega
     .split
      .split
       .grind
       .rename_i o;have g:=beta_f (zu r a).2 (zu r a).1.1.a<|l.headD 0;have ih:=Kq n l.tail true (kx (zu r a).2 (zu r a).1.1.a<|l.headD 0).1 (kx (zu r a).2 (zu r a).1.1.a<|l.headD 0).2 za;grind
      .grind
def fH (n r a)(d:2*r.f.toNat+2<=n):(yi n r a).2.f<=r.f/\((yi n r a).2.e=0->(yi n r a).2.f+(yi n r a).1.2.length+1<=r.f/\0<=(yi n r a).2.f):=by
 have h:=Kq n [] false a r d;simp[EY] at h;unfold yi jb;generalize headL n [] false a r=z at*;let ⟨l,b,g,r'⟩:=z;dsimp only at h ⊢;split
 .by_cases q:r'.e=0
  .have:=h.2.2 q;rw[gE,apps_f];omega
  .rw[pT _ _ _ q,keep_err q];omega
 .omega
def uY (t u):(zH t [u]).sz<=1+t.sz+u.sz:=by have:=u6 t [u];simp[Tm.szs] at this;omega
def iR (F:Rd->Int->Tm×Rd)(m:Int):Prop:=∀(r:Rd) (a:Int),OkR r->r.f<=m->OkR (F r a).2/\(F r a).2.f<=r.f/\(F r a).1.sz+3*(F r a).2.f.toNat<=3*r.f.toNat+1
def lc {F m}(d:iR F m):∀(l) (t) (r),OkR r->r.f<=m->OkR (wg F l t r).2/\(wg F l t r).2.f<=r.f/\(wg F l t r).1.sz+3*(wg F l t r).2.f.toNat<=3*r.f.toNat+t.sz+2*l.length
 |[],t,r,b,_=>⟨b,EQ _,by simp[wg,EY];omega⟩
 |x::l,t,r,b,e=>by let ⟨g,h,i⟩:=d r x b e;have ih:=lc d l (zH t [(F r x).1]) (F r x).2 g za;have:=uY t (F r x).1;rw[wg];grind
def leafR_sz (s a):(cg s a).sz=1/\(cg s a).l=[]:=by
 unfold cg;split
 .exact⟨rfl,rfl⟩
 .split
  .exact⟨rfl,rfl⟩
  .split
   .exact⟨rfl,rfl⟩
   .split
    .exact⟨rfl,rfl⟩
    .split<;>exact⟨rfl,rfl⟩
def Zi (N):∀(n) (m),2*m.toNat+2<=N->m.toNat<n->iR (fulR N n) m
 |0,_,_,h=>absurd h za
 |n+1,m,u,v=>λr a f p=>by
  have d:=fH N r a za;have b:=OkR.head N a f;rw[fulR];unfold fullG;split
  .exact⟨b,d.1,by show(t0.sz)+_<=_;have:t0.sz=1:=rfl;rw[this];have:=d.1;dsimp only;omega⟩
  .rename_i q;let ⟨i,j⟩:=d.2 za;have ih:m-1<0\/iR (fulR N n) (m-1):=by
    by_cases h:m-1<0
    .exact .inl h
    .exact .inr<|Zi N n (m-1) za za
   rcases ih with ih|ih
   .omega
   split
   .let ⟨g,w,o⟩:=ih (yi N r a).2 (zB (yi N r a).2.s.C (yi N r a).1.1).a b za;refine⟨g,zk,?_⟩;have e:(w5 1 (fulR N n (yi N r a).2 (zB (yi N r a).2.s.C (yi N r a).1.1).a).1).sz=1+(fulR N n (yi N r a).2 (zB (yi N r a).2.s.C (yi N r a).1.1).a).1.sz:=by rfl
    grind
   .have:=lc ih (yi N r a).1.2 (cg (yi N r a).2.s (yi N r a).1.1) (yi N r a).2 b za;have e:=(leafR_sz (yi N r a).2.s (yi N r a).1.1).1;grind
abbrev FullC (F:Rd->Int->Tm×Rd)(m:Int):=∀(r) a,OkR r->r.f<=m->AC EF 70 [aRd,ci a] (oRd r) (aT (F r a).1) (oRd' (F r a).2)
abbrev stFu (r:Rd)(l:List Int)(z t:Tm)(x:FV)(i:Int):St:=
 ⟨[(0,aRd),(4,.c<|.a<|.ep 9 4 0 0),(8,.c<|.a<|.ep 10 4 0 0),(71,.c<|qf<|.sl false 1<|IR l),(72,ci l.length),(73,ci i)],
  [(0,rd3 1 r),(1,hp6 6 7 8 5 r.s),(2,.gone),(3,.gone),(4,.gone),(5,.mapz<|NM r.s.N 0),(6,.arz 5<|CR r.s.C),(7,.arz 7<|TR r.s.T),(8,.arz 1<|NR r.s.N),(9,.arr 4 [[qi z.k,qf<|.str z.s,qi z.n,qf .N]]),(10,.arr 4 [[qi t.k,qf<|.str t.s,qi t.n,qf x]])],11⟩
def aO {F m}(i:FullC F m)(u:iR F m)(z d)(h:d.length<=1000000000):∀(l b) (t) (r),d=b++l->OkR r->r.f<=m->t.sz+3*r.f.toNat+2*l.length<=1000000000->
  RPt EF 70 6 (aT (wg F l t r).1) (oRd' (wg F l t r).2) 3 (stFu r d z t (.sl false 4<|FTs t.l) b.length)
 |[],b,t,r,e,ok,_,_=>by rw[S6] at e;let ⟨C,y,v,p⟩:=t;refine rpv (v70_3b ..) ?_;exact bF (by rw[e];omega) rrl
 |x::l,b,t,r,e,ok,o,H=>by
  have D:=i r x ok o;let ⟨I,L,J⟩:=u r x ok o;have j:d.length=b.length+(l.length+1):=by rw[e];simp
  simp[EH] at H;have p:=t.sz_eq;have A:=Tm.szs_length t.l;have E:=wX t [(F r x).1] (by simp[G1];omega);have K:=uY t (F r x).1;have g:b.length<d.length:=za;have G:getD (IR d) (toNat b.length) []=[.int .i64 x]:=by rw[S3,wW g];simp[e]
  rw[wg];have nx:=aO i u z d h l (b++[x]) (zH t [(F r x).1]) (F r x).2 (by rw[e];simp) I za za;rw[show(((b++[x]).length))=b.length+1 by simp] at nx;refine rpv (v70_3b ..) ?_;rw[G,w64 (x:=b.length+1) za za];refine zm (λ_=>⟨⟨rfl,za,by rw[zD];omega,rfl⟩,_,D,⟨rfl,EI _⟩,zH t [(F r x).1],?_,nx⟩) (λw=>absurd (ES w) za);let ⟨C,y,v,p⟩:=t;rw[show [FT4 (F r x).1]=FTs [(F r x).1] by rw[wG];rfl];exact E
def l_rfulla {F m}(b:FullC F m)(e:iR F m)(z l)(g:l.length<=1000000000)(k n s r)(ok:OkR r)(d:r.f<=m)(o:1+3*r.f.toNat+2*l.length<=1000000000):
  RPt EF 70 6 (aT (wg F l (.mk k s n []) r).1) (oRd' (wg F l (.mk k s n []) r).2) 3 (stFu r l z (.mk k s n []) .N 0):=by
 cases l with
 |nil=>refine rpv (v70_3a ..) ?_;exact bF zc ⟨leT (l:=[]) yY,rfl⟩
 |cons x l=>
  have h:=b r x ok d;let ⟨p,A,u⟩:=e r x ok d;simp[EH] at o g;have i:=(wX (.mk k s n []) [(F r x).1]<|by simp only[G1,Tm.l,EY];omega).args (args:=[.agg [qi k,qf<|.str s,qi n,qf .N],aL [(F r x).1]]) ⟨leT yY,.refl _,trivial⟩;have y:=uY (.mk k s n []) (F r x).1;have v:(Tm.mk k s n []).sz=1:=rfl;have nx:=aO b e z (x::l) (by simp[EH];omega) l [x] (zH (.mk k s n []) [(F r x).1]) (F r x).2 rfl p za za;rw[wg];refine rpv (v70_3a ..) ?_;have j:getD (IR<|x::l) (toNat 0) []=[.int .i64 x]:=rfl;rw[j,show wrap .i64 (0+1)=1 from w64 za za];refine zm (λ_=>⟨⟨rfl,EQ _,by rw[zD];simp only[EH];omega,rfl⟩,_,h,⟨rfl,EI _⟩,zH (.mk k s n []) [(F r x).1],?_,nx⟩) (λw=>absurd (ES w)<|by simp only[EH];omega);rw[show [FT4 (F r x).1]=FTs [(F r x).1] by rw[wG];rfl];exact i
def nt (N):∀(n) (m),2*m.toNat+2<=N->m.toNat<n->m<=100000000->FullC (fulR N n) m
 |0,_,_,h,_=>absurd h za
 |n+1,m,K,L,T=>λr a ok M=>by
  have I:=fH N r a za;have D:=OkR.head N a ok;have E:=ou N r a ok za za;have J:=wY (yi N r a).2.s (yi N r a).1.1;have nm:=Kp (yi N r a).2.s (zB (yi N r a).2.s.C (yi N r a).1.1).a;have e0:fulR N (n+1) r a=if (yi N r a).2.e≠0 then(t0,(yi N r a).2) else if (zB (yi N r a).2.s.C (yi N r a).1.1).t=6 then(w5 1 (fulR N n (yi N r a).2 (zB (yi N r a).2.s.C (yi N r a).1.1).a).1,(fulR N n (yi N r a).2 (zB (yi N r a).2.s.C (yi N r a).1.1).a).2) else wg (fulR N n) (yi N r a).1.2 (cg (yi N r a).2.s (yi N r a).1.1) (yi N r a).2:=rfl
  have ih:m-1<0\/FullC (fulR N n) (m-1)/\iR (fulR N n) (m-1):=by
   by_cases h:m-1<0
   .exact .inl h
   .exact .inr ⟨nt N n (m-1) za za za,Zi N n (m-1) za za⟩
  unfold cg at e0;generalize yi N r a=h at*;let ⟨⟨hd,xs⟩,⟨f,b,g⟩⟩:=h;dsimp only at*;refine acv (v70 ..) ?_;refine⟨(hd,xs,⟨f,b,g⟩),E,yg (λq=>?_) λq=>⟨_,_,_,_,_,_,J,?_⟩⟩
  .rw[EL q] at e0;rw[e0];exact⟨leT (l:=[]) yY,rfl⟩
  .rw[EG λw=>w q] at e0;let ⟨O,S⟩:=I.2 q;rcases ih with ih|⟨u,y⟩
   .omega
   have o:∀(k v) d,RPt EF 70 6 (aT (wg (fulR N n) xs (.mk k d v []) ⟨f,b,g⟩).1) (oRd' (wg (fulR N n) xs (.mk k d v []) ⟨f,b,g⟩).2) 3 (stFu ⟨f,b,g⟩ xs t0 (.mk k d v []) .N 0):=
    λk v d=>l_rfulla u y t0 xs za k v d ⟨f,b,g⟩ D zk zk
   have G:(((IR xs).length))=xs.length:=by rw[zD]
   refine zF (λz=>?_) λz=>?_
   .rw[EL z] at e0;rw[e0];exact⟨_,(u ⟨f,b,g⟩ (zB f.C hd).a D zk),_,(fg 1 (fulR N n ⟨f,b,g⟩ (zB f.C hd).a).1 za),.refl _,rfl⟩
   .rw[EG z] at e0;rw[G];refine zF (λi=>?_) λi=>zF (λj=>?_) λj=>zF (λp=>?_) λp=>zF (λx=>?_) λx=>zF (λA=>?_) λA=>?_
    .rw[EL i] at e0;rw[e0];exact⟨_,nm,rfl,o 0 0 _⟩
    .rw[EG i,EL j] at e0;rw[e0];exact⟨rfl,o 1 _ []⟩
    .rw[EG i,EG j,EL p] at e0;rw[e0];exact⟨rfl,o 2 _ []⟩
    .rw[EG i,EG j,EG p,EL x] at e0;rw[e0];exact⟨rfl,o 3 _ []⟩
    .rw[EG i,EG j,EG p,EG x,EL A] at e0;rw[e0];exact⟨rfl,o 4 _ []⟩
    .rw[EG i,EG j,EG p,EG x,EG A] at e0;rw[e0];exact⟨rfl,o 0 0 []⟩
mutual
def occF:Tm->Int->Nat
 |.mk k _ n l,i=>if (k==3)=true/\(n==i)=true then 1 else occL l<|i+if (k==5)=true then 1 else 0
def occL:List Tm->Int->Nat
 |[],_=>0
 |t::l,i=>occF t i+occL l i
end
mutual
def occF_le:∀(t:Tm) (i:Int),occF t i<=t.sz
 |.mk k s n l,i=>by
  rw[occF];have:=bi l<|i+if (k==5)=true then 1 else 0
  split<;>simp only[Tm.sz]<;>omega
def bi:∀(l:List Tm) (i:Int),occL l i<=Tm.szs l
 |[],_=>EI _
 |t::l,i=>by have:=occF_le t i;have:=bi l i;simp only[occL,Tm.szs];omega
end
def ll (i):∀(b a) (acc),(∀u∈b,AC EF 209 [aT u,ci i] [] (ci<|occF u i) [])->(a++b).length<=B->acc+occL b i<=2*B->
  RPt EF 209 0 (ci<|(acc+occL b i:Nat)) [] 3 ⟨[(1,ci i),(5,ci acc),(21,aL<|a++b),(22,ci<|((FTs<|a++b).length)),(23,ci a.length)],[],0⟩
 |[],a,acc,_,_,_=>by refine rpv (r9 ..) ?_;exact bF (geI' a)<|xB<|by simp[occL]
 |t::b,a,acc,ih,j,r=>by have d:=j;simp[EJ,EH,B] at d;simp[occL,B] at r;have p:=ih t ET;have h:=ll i b _ (acc+occF t i) (λu o=>ih u<|EP _ o) (by rw[ap];exact j) (by simp[B];omega);have f:=ltI' a t b;rw[ap,nx] at h;refine rpv (r9 ..) ?_;rw[midI,w64 (x:=a.length+1) za za];refine bT f<|?_;rw[occL,<-GF];let ⟨m,e,g,l'⟩:=t;refine⟨⟨rfl,za,f,rfl⟩,_,p,?_⟩;rw[w64 za za,show acc+((occF (.mk m e g l') i))=((acc+occF (.mk m e g l') i)) by omega];exact h
def c_occurs:∀t,t.sz<=B->∀i:Int,0-2305843009213693952<=i->i+t.sz<=2305843009213693952->AC EF 209 [aT t,ci i] [] (ci<|occF t i) []:=by
 refine Tm.ind λt ih r i x v=>?_;have f:=Tm.szs_length t.l;let ⟨k,s,n,l⟩:=t;simp[Tm.sz,Tm.l,B] at r f v;have b:∀j:Int,0-2305843009213693952<=j->j+Tm.szs l<=2305843009213693952->RPt EF 209 0 _ [] 3 ⟨[(1,ci j),(5,ci 0),(21,aL l),(22,ci<|((FTs l).length)),(23,ci 0)],[],0⟩:=λj g p=>by have w:=bi l j;have:=ll j l [] 0 (λu m=>ih u m (by have:=Tm.szs_mem m;simp[B];omega) j g<|by have:=Tm.szs_mem m;omega) (by simp[SD,B];omega) (by simp[B];omega);rw[Sa] at this;exact this
 refine acv (v209 k s n _ i _ _) ?_;have o:∀c,occF (.mk k s n l) i=occL l _:=λc=>by rw[occF,EG c]
 refine zm (λh=>zm (λd=>xB ?_) λd=>⟨rfl,?_⟩) λh=>zm (λd=>⟨rfl,?_⟩) λd=>⟨rfl,?_⟩
 .rw[occF,EL ⟨h,d⟩];rfl
 .have e:k=3:=zl h;rw[o λc=>by rw[c.2] at d;cases d];subst e;rw[show(i+if ((3:Int)==5)=true then 1 else 0)=i by simp];exact b i za za
 .rw[o (λc=>by rw[c.1] at h;cases h),EL d,w64 za za];exact b _ za za
 .rw[o (λc=>by rw[c.1] at h;cases h),EG<|by rw[d];simp,Int.add_zero];exact b i za za
def sT:(∀es,es≠[]->es.length<=B->AC EF 116 [.c<|qf<|.sl false 4 es] [] (.c<|.a<|.osl 0 4 0 es.length) [.arz 4 es])/\AC EF 116 [.c<|qf<|.sl false 4 []] [] (.c<|qf<|.sl false 4 []) []:=by
 have b:AC EF 116 [.c<|qf .N] [] (.c<|qf .N) []:=by refine acv (v116 ..) ?_;exact rrl
 have e:∀es,es.length<=B->AC EF 116 [.c<|qf<|.sl true 4 es] [] (.c<|.a<|.osl 0 4 0 es.length) [.arz 4 es]:=λes d=>by refine acv (v116_i1 ..) ?_;refine⟨rfl,⟨za,by rw[Sa];exact vB<|by simp[B] at d;omega⟩,?_⟩;rw[Sa];exact rrl
 exact AC.clone_le b e
def oG (t)(b:t.sz<=B)(i:Int)(g:0-2305843009213693952<=i)(d:i+t.sz<=2305843009213693952):AC EF 202 [aT t,ci i] [] (ci (if zt t=true then(occF t i) else 0)) []:=by
 have f:=xR t b;have e:=c_occurs t b i g d;let ⟨k,s,n,l⟩:=t;refine acv (v202 k s n _ i _ _) ?_;refine⟨_,f,zm (λh=>xB ?_) λh=>⟨_,e,xB ?_⟩⟩
 .rw[EG<|zl h]
 .rw[EL<|zl h]
abbrev aTE (t:Tm)(e:Int):TV:=.tup [(true,[qi t.k,qf<|.str t.s,qi t.n,qf<|.sl false 4<|FTs t.l]),(false,[qi e])]
abbrev noT:Tm:=.mk 0 [] 0 []
def leTE {k n e s x l}(h:FV.Le x<|.sl false 4<|FTs l):TV.Le (.tup [(true,[qi k,qf<|.str s,qi n,qf x]),(false,[qi e])]) (aTE (.mk k s n l) e):=by
 refine .tup _ _ rfl λi p q f g=>?_
 match i,f,g with
 |0,f,g=>
  simp[SI,EO] at f g;subst f;subst g;refine⟨rfl,rfl,λj x y b d=>?_⟩
  match j,b,d with
  |0,b,d=>simp at b d;subst b;subst d;exact .refl _
  |1,b,d=>simp at b d;subst b;subst d;exact .refl _
  |2,b,d=>simp at b d;subst b;subst d;exact .refl _
  |3,b,d=>simp at b d;subst b;subst d;exact .a _ _<|.fz _ _ h
  |j+4,b,_=>simp at b
 |1,f,g=>
  simp[SI,G9,EO] at f g;subst f;subst g;refine⟨rfl,rfl,λj x y b d=>?_⟩
  match j,b,d with
  |0,b,d=>simp at b d;subst b;subst d;exact .refl _
  |j+1,b,_=>simp at b
 |i+2,f,_=>simp at f
def hd (l:List Tm):=l.headD default
mutual
def okB:Tm->Bool
 |.mk k s n l=>(if (k==6)=true then decide (2<=l.length)&&(hd l).k !=6&&(s==[]&&n==0) else if (k==5)=true then decide (l.length=1)&&(s==[]&&n==0) else decide (l.length=0))&&okL l
def okL:List Tm->Bool
 |[]=>true
 |t::l=>okB t&&okL l
end
def ur:∀ {l} {t},okL l=true->t∈l->okB t=true
 |x::l,t,h,hm=>by
  simp[okL,EN] at h;rcases S4.1 hm with rfl|hm
  .exact h.1
  .exact ur h.2 hm
def Ak:∀ {l},(∀t∈l,okB t=true)->okL l=true
 |[],_=>rfl
 |t::l,h=>by simp[okL,h t ET,Ak (l:=l) λu b=>h u<|EP _ b,GH]
def okB6 {k n s l}(h:okB (.mk k s n l)=true)(b:k=6):∃x y r,l=x::y::r/\x.k≠6/\okL l=true:=by
 subst b;simp[okB,EN] at h
 match l,h with
 |[],h=>simp at h
 |[x],h=>simp at h
 |x::y::r,h=>exact⟨x,y,r,rfl,by have:=h.1;simp[hd] at this;exact this.1,h.2⟩
def okB5 {k n s l}(h:okB (.mk k s n l)=true)(b:k=5):∃x,l=[x]/\okB x=true:=by
 subst b;simp[okB,EN] at h
 match l,h with
 |[],h=>simp at h
 |[x],h=>exact⟨x,rfl,by have:=h.2;simpa[okL] using this⟩
 |x::y::r,h=>simp at h
def okB0 {k n s l}(h:okB (.mk k s n l)=true)(b:k≠5)(d:k≠6):l=[]:=by simp[okB,EN] at h;have:=h.1;rw[EG<|zl d,EG<|zl b] at this;exact S1 (zl this)
def okB_sn {k n s l}(h:okB (.mk k s n l)=true)(b:k=5\/k=6):s=[]/\n=0:=by
 simp[okB,EN] at h;have h:=h.1;rcases b with rfl|rfl
 .simp at h;exact h.2
 .simp at h;exact h.2
def okB_l {t}(h:okB t=true):okL t.l=true:=by let ⟨k,s,n,l⟩:=t;simp[okB,EN] at h;exact h.2
mutual
def zW:∀t:Tm,zt t=true->okB t=true
 |.mk k s n l,h=>by
  rw[okB];have hl:=gP l;rw[zt] at h;split at h
  .rename_i e;have e:k=0:=zl e;subst e;rw[lenI] at h;have:l=[]:=by simp at h;exact h.2
   subst this;rfl
  split at h
  .rename_i e;have e:k=1:=zl e;subst e;rw[lenI] at h;have:l=[]:=by simp at h;exact h.1.2
   subst this;rfl
  split at h
  .rename_i e;have e:k=2:=zl e;subst e;rw[lenI] at h;have:l=[]:=by simp at h;exact h.1.2
   subst this;rfl
  split at h
  .rename_i e;have e:k=3:=zl e;subst e;rw[lenI] at h;have:l=[]:=by simp at h;exact h.1.2
   subst this;rfl
  split at h
  .rename_i e;have e:k=4:=zl e;subst e;rw[lenI] at h;have:l=[]:=by simp at h;exact h.1.2
   subst this;rfl
  split at h
  .rename_i e;have e:k=5:=zl e;subst e;rw[lenI] at h;simp only[EN,Sw] at h;have h1:l.length=1:=by have:=h.1.2;omega
   rw[hl h.2];simp[h1,h.1.1.1,h.1.1.2]
  split at h
  .rename_i e;have e:k=6:=zl e;subst e;rw[lenI] at h;simp only[EN,Sf,Sw] at h;have h1:2<=l.length:=by have:=h.1.1.1.2;omega
   have h2:((hd l).k !=6)=true:=h.1.1.2;rw[hl h.2,h2];simp[h1,h.1.1.1.1,h.1.2]
  .cases h
def gP:∀l:List Tm,yL l=true->okL l=true
 |[],_=>rfl
 |t::l,h=>by simp only[yL,EN] at h;simp only[okL,zW t h.1,gP l h.2,GH]
end
def ok_ne {t}(h:okB t=true):t.k=6->t.l≠[]:=by let ⟨k,s,n,l⟩:=t;intro b;let ⟨x,y,r,e,_⟩:=okB6 h b;show l≠[];rw[e];simp
abbrev zT:List WV:=[qi 0,qf<|.str [],qi 0,qf .N]
def WL (k s n l a r):zH (.mk k s n l) (a::r)=if (k==6)=true/\l≠[] then .mk 6 [] 0 (l++a::r) else .mk 6 [] 0 (.mk k s n l::a::r):=rfl
mutual
def nd_sz:∀t:Tm,nd t=t.sz
 |.mk _ _ _ l=>by simp only[nd,Tm.sz,sd l]
def sd:∀l:List Tm,nds l=Tm.szs l
 |[]=>rfl
 |t::l=>by simp only[nds,Tm.szs,nd_sz t,sd l]
end
def SZ:Nat:=130000000
def el0 (x l):FV.L 4 (.sl false 4<|FTs<|x::l)=true/\(0:Int)<=0/\0<(((FTs<|x::l).length):Int)/\(rE<|getD (FTs<|x::l) 0 [])=getD (FTs<|x::l) 0 []:=⟨rfl,EQ _,by rw[lenI];simp only[EH];omega,yO x⟩
def leTB {k n b s x l}(h:FV.Le x<|.sl false 4<|FTs l):TV.Le (.tup [(true,[qi k,qf<|.str s,qi n,qf x]),(false,[qf<|.bool b])]) (.tup [(true,cT<|.mk k s n l),(false,[qf<|.bool b])]):=by
 refine .tup _ _ rfl λi p q f g=>?_
 match i,f,g with
 |0,f,g=>
  simp[SI,EO] at f g;subst f;subst g;refine⟨rfl,rfl,λj x y e d=>?_⟩
  match j,e,d with
  |0,e,d=>simp at e d;subst e;subst d;exact .refl _
  |1,e,d=>simp at e d;subst e;subst d;exact .refl _
  |2,e,d=>simp at e d;subst e;subst d;exact .refl _
  |3,e,d=>simp at e d;subst e;subst d;exact .a _ _<|.fz _ _ h
  |j+4,e,_=>simp at e
 |1,f,g=>simp[SI,G9,EO] at f g;subst f;subst g;exact⟨rfl,rfl,λj x y e d=>by rw[e] at d;injection d with d;subst d;exact .refl _⟩
 |i+2,f,_=>simp at f
def not_t {b}(h:(!b)=true):b=false:=by cases b<;>simp_all
def iw {b}(h:(!b)=false):b=true:=by cases b<;>simp_all
def qE {f args}(g:okB f=true)(d:okL args=true):okB (zH f args)=true:=by
 match args,d with
 |[],_=>exact g
 |a::r,d=>
  let ⟨k,s,n,l⟩:=f;rw[WL];split
  .rename_i h;have m:k=6:=zl h.1;obtain⟨x,y,r',rfl,i,j⟩:=okB6 g m
   have b:=Ak λt ht=>by
    rcases Sb.1 ht with ht|ht
    .exact ur j ht
    .exact ur d ht
   have o:(x.k !=6)=true:=zl i;rw[okB,b];simp[hd,i]
  .rename_i h;have i:k≠6:=λe=>h ⟨zl e,ok_ne g e⟩;have b:okL (.mk k s n l::a::r)=true:=by simp[okL,EN] at d ⊢;exact⟨g,d⟩
   rw[okB,b];simp[hd,Tm.k,i]
def withF_ok {k n s l o}(h:okB (.mk k s n l)=true)(g:k=5\/k=6)(d:okL o=true)(b:o.length=l.length):okB (xK (.mk k s n l) o)=true:=by
 obtain⟨rfl,rfl⟩:=okB_sn h g;unfold xK;split
 .rename_i f
  match o,d,f with
  |[],_,f=>simp at f
  |x::r,d,f=>simp[okL,EN] at d;exact qE d.1 d.2
 .rename_i f;show okB (.mk k [] 0 o)=true;rcases g with rfl|rfl
  .obtain⟨x,rfl,_⟩:=okB5 h rfl;rw[okB,d];simp[EH,EY] at b;simp[b]
  .obtain⟨x,y,r,rfl,j,_⟩:=okB6 h rfl;have i:¬(hd o).k=6:=λe=>f ⟨rfl,by rw[b];simp,by simpa[hd] using e,show(x.k !=6)=true by simpa using j⟩;rw[okB,d];simp[EH] at b;simp[b,i]
mutual
def WZ (lf:Tm->Int->Tm)(h:∀u d,okB u=true->u.k≠5->u.k≠6->okB (lf u d)=true):∀(t:Tm) (d:Int),okB t=true->okB (zQ lf t d)=true
 |.mk k s n l,d,ho=>by
  rw[zQ];split;next hk=>exact withF_ok ho (zl hk) (aG lf h l _<|okB_l ho)<|Zv ..
  next hk=>exact h _ _ ho (λe=>hk<|by simp[show k=5 from e]) (λe=>hk<|by simp[show k=6 from e])
def aG (lf:Tm->Int->Tm)(h:∀u d,okB u=true->u.k≠5->u.k≠6->okB (lf u d)=true):∀(l:List Tm) (d:Int),okL l=true->okL (zK lf l d)=true
 |[],_,_=>rfl
 |t::l,d,ho=>by simp only[okL,EN] at ho;simp only[zK,okL,WZ lf h t d ho.1,aG lf h l d ho.2,GH]
end
def aF {k n m s l}(h:okB (.mk k s n l)=true)(b:k≠5)(d:k≠6):okB (.mk k s m l)=true:=by have:l=[]:=okB0 h b d;subst this;simp[okB,b,d,okL]
def re {fr by_ t}(d)(h:okB t=true):okB (shT fr by_ t d)=true:=by
 refine WZ _ (λu d b e f=>?_) t d h;unfold yM;split
 .let ⟨k,s,n,l⟩:=u;exact aF b e f
 .exact b
def suT_ok {i s t}(d)(e:okB s=true)(h:okB t=true):okB (suT i s t d)=true:=by
 refine WZ _ (λu d b f g=>?_) t d h;unfold xD;split
 .split
  .exact b
  .split
   .exact re _ e
   .let ⟨k,s,n,l⟩:=u;exact aF b f g
 .exact b
mutual
def nz:∀(t:Tm) (m:Int),0<=Z5 t m->(t.sz:Int)<=m-Z5 t m
 |.mk _ s _ l,m,h=>by simp only[Z5] at h ⊢;have:=pl l (m-1) h;simp only[Tm.sz];omega
def pl:∀(l:List Tm) (m:Int),0<=qS l m->(Tm.szs l:Int)<=m-qS l m
 |[],m,h=>by simp[qS,Tm.szs]
 |t::l,m,h=>by
  simp only[qS] at h ⊢;split at h;next h0=>rw[EL h0];have h1:=pl l _ h;have h3:=(JD l<|Z5 t m).1;have h2:=nz t m za;simp only[Tm.szs];omega
  next h0=>exact absurd h h0
end
def large_sz {t m}(h:large t m=false):t.sz<=m:=by have h:=ES h;have:=nz t m za;omega
mutual
def lvB:Tm->Bool
 |.mk k s n l=>if (k==5||k==6)=true then lvL l else zt<|.mk k s n l
def lvL:List Tm->Bool
 |[]=>true
 |t::l=>lvB t&&lvL l
end
def jC:∀ {l} {t},lvL l=true->t∈l->lvB t=true
 |x::l,t,h,hm=>by
  simp[lvL,EN] at h;rcases S4.1 hm with rfl|hm
  .exact h.1
  .exact jC h.2 hm
def rZ:∀ {l},(∀t∈l,lvB t=true)->lvL l=true
 |[],_=>rfl
 |t::l,h=>by simp[lvL,h t ET,rZ (l:=l) λu b=>h u<|EP _ b,GH]
def vw {k n s l}(b:k=5\/k=6):lvB (.mk k s n l)=lvL l:=by rw[lvB,EL<|by rcases b with rfl|rfl<;>rfl]
def jE {k n s l}(d:k≠5)(b:k≠6):lvB (.mk k s n l)=zt (.mk k s n l):=by rw[lvB,EG<|by simp[d,b]]
def valid5 {s n l}:zt (.mk 5 s n l)=(n==0&&s==[]&&decide (l.length=1)&&yL l):=by
 rw[zt,lenI];simp[show(5==0)=false from rfl,show(5==1)=false from rfl,show(5==2)=false from rfl,show(5==3)=false from rfl,show(5==4)=false from rfl,S5,Sj,show((5:Int)==5)=true from rfl,S9];congr 2;by_cases h:l.length=1
 .rw[h];rfl
 .rw[Gd h];simp;omega
def valid6 {s n l}:zt (.mk 6 s n l)=(n==0&&decide (2<=l.length)&&((hd l).k !=6)&&s==[]&&yL l):=by
 rw[zt,lenI];simp only[show((6:Int)==0)=false from rfl,show((6:Int)==1)=false from rfl,show((6:Int)==2)=false from rfl,show((6:Int)==3)=false from rfl,show((6:Int)==4)=false from rfl,show((6:Int)==5)=false from rfl,S5,Sj,show((6:Int)==6)=true from rfl,S9];congr 4;by_cases h:2<=l.length
 .rw[Gk h,Gk za]
 .rw[Gd h,Gd za]
mutual
def wz:∀t:Tm,zt t=(okB t&&lvB t)
 |.mk k s n l=>by
  by_cases h5:k=5
  .subst h5;rw[valid5,vw<|.inl rfl,Z1 l,okB];cases okL l<;>cases lvL l<;>simp[Bool.and_comm,Bool.and_assoc,Bool.and_left_comm]
  .by_cases h6:k=6
   .subst h6;rw[valid6,vw<|.inr rfl,Z1 l,okB];cases okL l<;>cases lvL l<;>simp[Bool.and_comm,Bool.and_assoc,Bool.and_left_comm]
   .rw[jE h5 h6];cases hv:zt (.mk k s n l) with
    |false=>simp
    |true=>rw[zW _ hv];rfl
def Z1:∀l:List Tm,yL l=(okL l&&lvL l)
 |[]=>rfl
 |t::l=>by rw[yL,okL,lvL,wz t,Z1 l];cases okB t<;>cases lvB t<;>simp
end
def ul {t}(h:zt t=true):lvB t=true:=by rw[wz] at h;simp at h;exact h.2
def jS {f args}(d:lvB f=true)(b:lvL args=true):lvB (zH f args)=true:=by
 match args,b with
 |[],_=>exact d
 |a::r,b=>
  let ⟨k,s,n,l⟩:=f;rw[WL];split
  .rename_i h;have e:k=6:=zl h.1;rw[vw<|.inr e] at d;rw[vw<|.inr rfl]
   exact rZ λt ht=>by
    rcases Sb.1 ht with ht|ht
    .exact jC d ht
    .exact jC b ht
  .rw[vw<|.inr rfl];simp[lvL,EN] at b ⊢;exact⟨d,b⟩
def withF_lv {t o}(e:t.k=5\/t.k=6)(b:lvL o=true):lvB (xK t o)=true:=by
 let ⟨k,s,n,l⟩:=t;unfold xK;split
 .rename_i d
  match o,b,d with
  |[],_,d=>exact absurd d.2.1 zb
  |x::r,b,d=>simp[lvL,EN] at b;exact jS b.1 b.2
 .exact(vw e).trans b
mutual
def Y4 (lf:Tm->Int->Tm)(Q:Tm->Int->Prop)(hq:∀k s n l d,Q (.mk k s n l) d->∀u∈l,Q u<|d+if (k==5)=true then 1 else 0)(h:∀u d,lvB u=true->Q u d->u.k≠5->u.k≠6->lvB (lf u d)=true):∀(t:Tm) (d:Int),lvB t=true->Q t d->lvB (zQ lf t d)=true
 |.mk k s n l,d,ho,hQ=>by
  rw[zQ];split
  .rename_i hk;have hk:k=5\/k=6:=zl hk;rw[vw hk] at ho;exact withF_lv hk<|ln lf Q hq h l _ ho<|hq k s n l d hQ
  next hk=>exact h _ _ ho hQ (λe=>hk<|by simp[show k=5 from e]) (λe=>hk<|by simp[show k=6 from e])
def ln (lf:Tm->Int->Tm)(Q:Tm->Int->Prop)(hq:∀k s n l d,Q (.mk k s n l) d->∀u∈l,Q u<|d+if (k==5)=true then 1 else 0)(h:∀u d,lvB u=true->Q u d->u.k≠5->u.k≠6->lvB (lf u d)=true):∀(l:List Tm) (d:Int),lvL l=true->(∀u∈l,Q u d)->lvL (zK lf l d)=true
 |[],_,_,_=>rfl
 |t::l,d,ho,hQ=>by simp only[lvL,EN] at ho;simp only[zK,lvL,Y4 lf Q hq h t d ho.1<|hQ t ET,ln lf Q hq h l d ho.2 λu hu=>hQ u<|EP _ hu,GH]
end
def Zp {s n l}:zt (.mk 3 s n l)=true↔0<=n/\n<=4611686018427387904/\s=[]/\l=[]:=by
 rw[zt,lenI];simp only[show((3:Int)==0)=false from rfl,show((3:Int)==1)=false from rfl,show((3:Int)==2)=false from rfl,S5,Sj,show((3:Int)==3)=true from rfl,S9];simp only[EN,Sf,Sw];constructor
 .rintro ⟨⟨⟨⟨d,b⟩,e⟩,f⟩,_⟩;exact⟨d,b,e,S1 za⟩
 .rintro ⟨d,b,rfl,rfl⟩;exact⟨⟨⟨⟨d,b⟩,rfl⟩,rfl⟩,rfl⟩
def shT_lv {by_ M D:Int}(j:0<=by_)(m:M+by_<=4611686018427387904)(t:Tm)(d fr:Int)(g:bd M t)(h:lvB t=true)(_:d<=D):lvB (shT fr by_ t d)=true:=by
 refine Y4 _ (λu _=>bd M u) (λk s n l d f u b=>xU f.2 b) (λu d b f p o=>?_) t d h g;unfold yM;split
 .rename_i e;obtain⟨k,s,n,l⟩:=u;have i:k=3:=by have e:=e.1;have e:(k==3)=true:=e;exact zl e
  subst i;rw[jE zc zc,Zp] at b;have g:=f.1 rfl;show lvB (.mk 3 s (n+by_) l)=true;rw[jE zc zc,Zp];exact⟨za,za,b.2.2.1,b.2.2.2⟩
 .exact b
def suT_lv {i M s t D}(E:0<=i)(x:M+D<=4611686018427387904)(h:bd M s)(w:lvB s=true)(p:lvB t=true)(d:Int)(r:0<=d)(hD:d+t.sz<=D):lvB (suT i s t d)=true:=by
 refine Y4 _ (λu d=>0<=d/\d+u.sz<=D) (λk s n l d f u b=>?_) (λu d b f z y=>?_) t d p ⟨r,hD⟩
 .have:=Tm.szs_mem b;simp[Tm.sz] at f;constructor
  .have:=f.1;split<;>omega
  .have:=f.2;split<;>omega
 .unfold xD;split
  .rename_i g;split
   .exact b
   .rename_i j;split
    .have:=f.2;exact shT_lv f.1 (D:=0) za s 0 0 h w<|EQ _
    .rename_i m;let ⟨k,o,n,l⟩:=u;have v:k=3:=by have g:(k==3)=true:=g;exact zl g
     subst v;rw[jE zc zc,Zp] at b;have A:¬n<d+i:=j;have C:n≠d+i:=λe=>m (by rw[show Tm.n _=n from rfl,e];simp);show lvB (.mk 3 o (n-1) l)=true;rw[jE zc zc,Zp];have:=f.1;exact⟨za,za,b.2.2.1,b.2.2.2⟩
  .exact b
def lastT (l:List Tm):=l.getLastD default
def K5 (b:Tm):=zH (hd b.l) b.l.tail.dropLast
def vx (b:Tm):=b.k==6&&(lastT b.l).k==3&&(lastT b.l).n==0&&occF (K5 b) 0==0
def Z8 (b:Tm):=if vx b=true then shT 0 (-1) (K5 b) 0 else noT
mutual
def zU:Tm->Tm
 |.mk k s n l=>if (k==5)=true then(if vx (hd<|yP l)=true then Z8 (hd<|yP l) else .mk 5 [] 0 [hd<|yP l]) else if (k==6)=true then zH (hd<|yP l) (yP l).tail else .mk k s n l
def yP:List Tm->List Tm
 |[]=> []
 |t::l=>zU t::yP l
end
def Ku {k n:Int}{s:List UInt8}{l:List Tm}(h:okB (.mk k s n l)=true)(f:k=6):∃x a z,l=x::a++[z]/\x.k≠6/\okB x=true/\okL a=true/\okB z=true:=by obtain⟨x,y,r,rfl,d,b⟩:=okB6 h f;refine⟨x,(y::r).dropLast,(y::r).getLast zb,by rw[SE,List.dropLast_concat_getLast],d,ur b ET,Ak λu e=>ur b<|EP _<|List.dropLast_subset _ e,ur b<|EP _<|List.getLast_mem _⟩
def last_app (x a z):lastT (x::a++[z])=z:=by rw[lastT,List.getLastD_eq_getLast?,List.getLast?_append];rfl
def Y6 (k n s x a z):K5 (.mk k s n<|x::a++[z])=zH x a:=by rw[K5];show zH x ((a++[z]).dropLast)=_;rw[List.dropLast_concat]
def drop6 {b}(h:vx b=true):b.k=6:=by simp[vx,EN,Sw] at h;exact h.1.1.1
def drop0 {b}(h:vx b=true):occF (K5 b) 0=0:=by simp[vx,EN,Sw] at h;exact h.2
def aV {b}(h:okB b=true)(j:b.k=6):okB (K5 b)=true/\(lvB b=true->lvB (K5 b)=true)/\(K5 b).sz<=b.sz/\∀M,bd M b->bd M (K5 b):=by
 let ⟨k,s,n,l⟩:=b;have d:k=6:=j;obtain⟨x,a,z,rfl,o,m,i,p⟩:=Ku h d;rw[Y6];refine⟨qE m i,λf=>?_,?_,λM g=>?_⟩
 .rw[vw<|.inr d] at f;exact jS (jC f ET)<|rZ λu e=>jC f<|EP _<|Gj _ e
 .have:=u6 x a;simp[Tm.sz,SE,Tm.szs,Tm.szs_append];omega
 .exact jH (xU g.2 ET)<|lm λu e=>xU g.2<|EP _<|Gj _ e
def pu:∀ {l} {i},occL l i=0->∀u∈l,occF u i=0
 |x::l,i,h,u,hu=>by
  simp[occL] at h;rcases S4.1 hu with rfl|hu
  .omega
  .exact pu (l:=l) za u hu
def occ_kids {k n s l d}(h:occF (.mk k s n l) d=0):∀u∈l,occF u (d+if (k==5)=true then 1 else 0)=0:=by
 rw[occF] at h;split at h
 .cases h
 .exact pu h
def rI {t}(h:lvB t=true)(d)(i:occF t d=0)(hd:0<=d):lvB (shT 0 (-1) t d)=true:=by
 refine Y4 _ (λu d=>occF u d=0/\0<=d) (λk s n l d g u b=>⟨occ_kids g.1 u b,by have:=g.2;split<;>omega⟩) (λu d b g p o=>?_) t d h ⟨i,hd⟩;unfold yM;split
 .rename_i f;let ⟨k,s,n,l⟩:=u;have j:k=3:=by have f:=f.1;have f:(k==3)=true:=f;exact zl f
  subst j;rw[jE zc zc,Zp] at b;have m:n≠d:=λe=>by have:=g.1;rw[occF,EL ⟨rfl,by simp[e]⟩] at this;cases this
  have r:d+0<=n:=f.2;have:=g.2;show lvB (.mk 3 s (n+ -1) l)=true;rw[jE zc zc,Zp];exact⟨za,za,b.2.2.1,b.2.2.2⟩
 .exact b
def mY {M}(j:1<=M){t}(h:bd M t)(d)(hd:0<=d):bd M (shT 0 (-1) t d):=by
 refine Y7 _ M M _ (λu g b i _=>?_) t d h hd<|EQ _;unfold yM;split
 .rename_i f;let ⟨k,s,n,l⟩:=u;exact⟨λe=>by have:=b.1 e;have m:g+0<=n:=f.2;simp[Tm.n];omega,b.2⟩
 .exact b
def dropF_ok {b}(h:okB b=true)(hd:vx b=true):okB (Z8 b)=true/\(lvB b=true->lvB (Z8 b)=true)/\(Z8 b).sz<=b.sz/\∀M,1<=M->bd M b->bd M (Z8 b):=by let ⟨e,m,j,f⟩:=aV h<|drop6 hd;rw[Z8,EL hd];exact⟨re 0 e,λg=>rI (m g) 0 (drop0 hd)<|EQ _,SW (Wy ..) j,λM i d=>mY i (f M d) 0<|EQ _⟩
mutual
def k9:∀t:Tm,okB t=true->okB (zU t)=true/\(lvB t=true->lvB (zU t)=true)/\(zU t).sz<=t.sz/\∀M,1<=M->bd M t->bd M (zU t)
 |.mk k s n l,h=>by
  have hl:=gf l<|okB_l h;rw[zU];split
  .rename_i h5;have h5:k=5:=zl h5;obtain⟨x,rfl,hx⟩:=okB5 h h5;obtain⟨g1,g2,g3,g4⟩:=hl;simp only[yP,okL,lvL,Gi,Tm.szs] at g1 g2 g3 g4;show okB (if vx (zU x)=true then Z8 (zU x) else .mk 5 [] 0 [zU x])=true/\_;rw[show hd (yP [x])=zU x from rfl];split;next hd=>obtain⟨f1,f2,f3,f4⟩:=dropF_ok g1 hd;refine⟨f1,λhl=>f2<|g2 ?_,by simp only[Tm.sz,Tm.szs];omega,λM hM hb=>f4 M hM (g4 M hM hb.2).1⟩;rw[vw<|.inl h5] at hl;simpa[lvL] using hl
   .refine⟨by simp[okB,okL,g1],λhl=>?_,by simp only[Tm.sz,Tm.szs];omega,λM hM hb=>⟨λe=>za,g4 M hM hb.2⟩⟩;rw[vw<|.inl h5] at hl;rw[vw<|.inl rfl];simp only[lvL,Gi] at hl ⊢;exact g2 hl
  .split
   .rename_i h6;have h6:k=6:=zl h6;obtain⟨x,y,r,rfl,_,_⟩:=okB6 h h6;obtain⟨g1,g2,g3,g4⟩:=hl;rw[show hd (yP<|x::y::r)=zU x from rfl,show(yP<|x::y::r).tail=yP (y::r) from rfl];rw[show yP (x::y::r)=zU x::yP (y::r) from rfl] at g1 g2 g3 g4;simp only[okL,EN] at g1;refine⟨qE g1.1 g1.2,λhl=>?_,?_,λM hM hb=>?_⟩
    .rw[vw<|.inr h6] at hl;have:=g2 hl;simp only[lvL,EN] at this;exact jS this.1 this.2
    .have:=u6 (zU x)<|yP<|y::r;simp only[Tm.szs] at g3;simp only[Tm.sz,Tm.szs];omega
    .have:=g4 M hM hb.2;exact jH this.1 this.2
   .exact⟨h,λhl=>hl,EI _,λM _ hb=>hb⟩
def gf:∀l:List Tm,okL l=true->okL (yP l)=true/\(lvL l=true->lvL (yP l)=true)/\Tm.szs (yP l)<=Tm.szs l/\∀M,1<=M->bds M l->bds M (yP l)
 |[],_=>⟨rfl,λ_=>rfl,EI _,λ_ _ _=>trivial⟩
 |t::l,h=>by simp only[okL,EN] at h;obtain⟨a1,a2,a3,a4⟩:=k9 t h.1;obtain⟨b1,b2,b3,b4⟩:=gf l h.2;refine⟨by simp only[yP,okL,a1,b1,GH],λhl=>?_,by simp only[yP,Tm.szs];omega,λM hM hb=>⟨a4 M hM hb.1,b4 M hM hb.2⟩⟩;simp only[lvL,EN] at hl;simp only[yP,lvL,a2 hl.1,b2 hl.2,GH]
end
def c_efree (t)(i:Int)(d:t.sz<=B)(e:0-2305843009213693952<=i)(b:i+t.sz<=2305843009213693952):AC EF 184 [aT t,ci i] [] (cb<|zt t&&decide (occF t i>0)) []:=by
 have h:=oG t d i e b;let ⟨k,s,n,l⟩:=t;refine acv (v184 k s n _ i _ _) ?_;refine⟨_,h,zy ?_⟩;cases zt _ with
 |false=>rfl
 |true=>simp
def lastI (x:Tm)(a:List Tm)(z:Tm)(b:a.length<=SZ):wrap .i64 ((((FTs<|x::a++[z]).length:Nat):Int)-1)=((x::a).length:Int):=by rw[zn];simp only[SZ] at b;rw[w64 zj zj];simp
def gx:∀(b a acc),acc≠[]->acc.length=a.length->(∀u∈b,AC EF 113 [aT u] [] (aT<|zU u) [])->(a++b).length<=SZ->(hd<|acc++yP b).l.length<=B->
  RPt EF 113 0 (aT<|zH (hd<|acc++yP b) (acc++yP b).tail) [] 3 ⟨[(2,.c<|.a<|.ep 0 4 0 0),(6,.c<|.a<|.osl 1 4 0 acc.length),(30,aL<|a++b),(31,ci<|((FTs<|a++b).length)),(32,ci a.length)],[(0,.arr 4 [zT]),(1,.arz 4<|FTs acc)],2⟩
 |[],a,acc,g,d,_,f,e=>by
  simp[yP,S6] at e f ⊢;refine rpv (E9 ..) ?_
  match acc,g,d,e with
  |x::r,_,d,e=>
   simp[SZ,B,EH] at f d e;have e:x.l.length<=549755813888:=e;have i:=wX x r za;have v:take (toNat ((x::r).length)-1) (drop 1<|FTs<|x::r)=FTs r:=by rw[Xk,pc,EV<|by rw[zn];simp];rfl
   have p:aE (getD (FTs<|x::r) 0 [])=aT x:=xb x;rw[v,p];refine bF (by rw[zn];omega) ⟨⟨za,zb⟩,⟨by rw[zn];simp,?_,rfl⟩,⟨za,zj,EQ _⟩,⟨rfl,by rw[Xk,zn];simp;omega⟩,_,i.args ⟨.refl _,le_c leSl,trivial⟩,X0<|.refl _⟩;rw[show getD (FTs<|x::r) 0 []=FT x from rfl,yO,Sg,EV<|by rw[xO];exact EI _]
 |t::b,a,acc,g,d,ih,f,e=>by
  have j:=f;simp[EJ,EH,SZ] at j;have w:=ih t ET;have h:=gx b (a++[t]) (acc++[zU t]) zb (by simp[d]) (λu y=>ih u<|EP _ y) (by rw[ap];exact f) (by rw[ap];exact e);have m:=ltI' a t b;rw[ap,ap,nx] at h;rw[yP];refine rpv (E9 ..) ?_;rw[vW,w64 (x:=a.length+1) za za];refine bT m ⟨⟨rfl,za,m,wy ..⟩,zU t,w,EI _,⟨by rw[zn];omega,vB za⟩,?_⟩;have o:take acc.length (FTs acc)++[FT4<|zU t]=FTs (acc++[zU t]):=by rw[EV<|by rw[zn];omega,wG,yj];rfl
  rw[o];rw[EJ] at h;exact h
abbrev M62:Int:=4611686018427387904
def AU (fr by_ d u)(p:u.k=3->0-M62<=u.n/\u.n<=M62)(i:0<=d)(o:d<=M61)(m:0<=fr)(v:fr<=M61)(g:0-1<=by_)(r:by_<=M61):
  AC EF 172 [aT u,ci d,.c<|.a<|.ep 0 1 0 0,.c<|.a<|.ep 1 1 0 0] [obj1 fr,obj1 by_] (aT<|yM fr by_ u d) [obj1 fr,obj1 by_]:=by
 let ⟨k,s,n,l⟩:=u;simp[M62,M61,Tm.k,Tm.n] at*;refine acv (v172 k s n (FTs l) d fr by_ _ _) ?_;rw[w64 za za];refine zm (λh=>zm (λb=>?_) λb=>?_) λh=>?_
 .have j:k=3:=zl h;have f:=S0 b;have:=p j;have e:yM fr by_ (.mk k s n l) d=.mk k s _ l:=EL ⟨h,f⟩;rw[e];exact⟨_,dF (.mk k s n l) by_ (by simp[Tm.n];omega)<|by simp[Tm.n];omega,.refl _,rfl⟩
 .have f:=ES b;have e:yM fr by_ _ d=.mk k s n l:=EG λe=>f e.2;rw[e];exact rrl
 .have e:yM fr by_ _ d=.mk k s n l:=EG λe=>by have:=e.1;rw[show Tm.k _=k from rfl,h] at this;cases this
  rw[e];exact rrl
def c_shiftW (t fr by_)(g:t.sz<=B)(v:bd M62 t)(f:0<=fr)(j:fr<=M61)(e:0-1<=by_)(i:by_<=M61):
  AC EF 128 [aT t,ci fr,ci by_] [] (aT<|shT fr by_ t 0) []:=by
 have h:=c_wSh fr by_ _ (λu _=>bd M62 u/\u.sz<=B) (λw s n l d b p u m=>⟨xU b.1.2 m,by have:=Tm.szs_mem m;have:=b.2;simp[Tm.sz] at this;omega⟩)
  (λu d p b r o=>AU fr by_ d u (by let ⟨k,s,n,l⟩:=u;exact b.1.1) r o f j e i)
  (λu d b=>by have:=Wy fr by_ u d;have o:=(shT fr by_ u d).sz_eq;have:=Tm.szs_length (shT fr by_ u d).l;have:=b.2;show(shT fr by_ u d).l.length<=_;omega)
  t g 0 ⟨v,g⟩ (EQ _) (by simp[B] at g;omega)
 let ⟨k,s,n,l⟩:=t;refine acv (v128 k s n _ fr by_ _ _) ?_;exact⟨_,h,.refl _,rfl⟩
def c_edropW (b)(C:okB b=true)(U:lvB b=true)(F:b.sz<=SZ)(N:bd M62 b):AC EF 158 [aT b] [] (.tup [(true,cT<|Z8 b),(false,[qf<|.bool<|vx b])]) []:=by
 have m:vx b=false->Z8 b=noT:=λh=>EG (by rw[h];simp);let ⟨k,s,n,l⟩:=b;have j:=Tm.szs_length l;simp[Tm.sz,SZ] at F;refine acv (v158 k s n (FTs l) _ _) ?_;refine⟨rfl,zm (λh=>?_) λh=>?_⟩
 .have hd:vx (.mk k s n l)=false:=by have h:(k !=6)=true:=h;rw[vx,show(Tm.k (.mk k s n l)==6)=false by show(k==6)=false;exact zl h];rfl
  rw[m hd,hd];exact⟨leTB (l:=[]) yY,rfl⟩
 .have L:k=6:=zl h;subst L;obtain⟨x,a,z,rfl,K,Y,Z,X⟩:=Ku C rfl;let ⟨H,I,E,J⟩:=aV C rfl;have hd:vx (.mk 6 s n<|x::a++[z])=(z.k==3&&z.n==0&&occF (zH x a) 0==0):=by rw[vx,Y6,show Tm.l (.mk 6 s n<|x::a++[z])=x::a++[z] from rfl,last_app];rfl
  have p:vx (.mk 6 s n<|x::a++[z])=true->Z8 (.mk 6 s n<|x::a++[z])=shT 0 (-1) (zH x a) 0:=λh=>by rw[Z8,EL h,Y6]
  rw[Y6] at H I E J;have v:a.length<=130000000:=by rw[EJ,EH] at j;omega
  rw[lastI x a z v];have G:FV.L 4 (.sl false 4<|FTs<|x::a++[z])=true/\((0:Int)<=((x::a).length:Int)/\(((x::a).length:Int)<(((FTs<|x::a++[z]).length:Nat):Int)/\(rE (getD (FTs<|x::a++[z]) (toNat ((x::a).length:Int)) []):List FV)=getD (FTs<|x::a++[z]) _ [])):=⟨rfl,za,ltI' _ z [],wy _ z []⟩;have D:getD _ _ []=FT z:=midI (x::a) z [];have S:FV.I (getD (getD (FTs<|x::a++[z]) (toNat ((x::a).length:Int)) []) 0 FV.N)=z.k:=by rw[D];cases z;rfl
  have V:FV.I (getD (getD (FTs<|x::a++[z]) (toNat ((x::a).length:Int)) []) 2 FV.N)=z.n:=by rw[D];cases z;rfl
  rw[S,V];refine⟨G,zm (λf=>?_) λf=>⟨G,zm (λe=>?_) λe=>⟨el0 x<|a++[z],rfl,⟨za,by simp[EH];omega,by rw[lenI,EJ];omega⟩,?_⟩⟩⟩
  .have d:vx (.mk 6 s n<|x::a++[z])=false:=by have f:(z.k !=3)=true:=f;rw[hd,show(z.k==3)=false by simpa using f];rfl
   rw[m d,d];exact⟨leTB (l:=[]) yY,rfl⟩
  .have d:vx (.mk 6 s n<|x::a++[z])=false:=by have e:(z.n !=0)=true:=e;rw[hd,show(z.n==0)=false by simpa using e];simp
   rw[m d,d];exact⟨leTB (l:=[]) yY,rfl⟩
  .have O:aE (getD (FTs<|x::a++[z]) 0 [])=aT x:=xb x;have W:drop 1 (take (toNat ((x::a).length:Int))<|FTs<|x::a++[z])=FTs a:=by rw[Xk,FTs_take,pc,List.take_left];rfl
   rw[O,W];have M:x.l.length<=x.sz:=by have:=x.sz_eq;have:=Tm.szs_length x.l;omega
   have T:x.sz<=130000000:=by simp[SE,Tm.szs] at F;omega
   have o:=wX x a za;have y:(zH x a).sz<=SZ:=by simp only[Tm.sz] at E;simp[SZ];omega
   have g:=c_efree (zH x a) 0 (by simp[SZ,B] at*;omega) za (by simp[SZ] at y;omega);have r:zt (zH x a)=true:=by rw[wz,H,I U];rfl
   rw[r,SL] at g;have w:=c_shiftW (zH x a) 0 (-1) (by simp[SZ,B] at*;omega) (J _ N) (EQ _) (by simp only[M61];omega) za (by simp only[M61];omega);have A:(z.k==3)=true:=by have f:(z.k !=3)=false:=f;exact zl f
   have u:(z.n==0)=true:=by have e:(z.n !=0)=false:=e;exact zl e
   refine⟨_,o,_,g,zm (λi=>?_) λi=>?_⟩
   .have d:vx (.mk 6 s n<|x::a++[z])=false:=by have i:=S0 i;rw[hd,show(occF (zH x a) 0==0)=false by simp;omega,Sz]
    rw[m d,d];exact⟨leTB (l:=[]) yY,rfl⟩
   .have d:vx (.mk 6 s n<|x::a++[z])=true:=by have i:=ES i;rw[hd,A,u,show(occF (zH x a) 0==0)=true by simp;omega];rfl
    rw[p d,d];exact⟨_,w,.refl _,rfl⟩
def KN:∀t,okB t=true->lvB t=true->t.sz<=SZ->bd M62 t->AC EF 113 [aT t] [] (aT<|zU t) []:=by
 refine Tm.ind λt ih v p z A=>?_;have i:=Tm.szs_length t.l;have b:=okB_l v;let ⟨k,s,n,l⟩:=t;simp[Tm.sz,Tm.l,SZ] at z i b;refine acv (v113 k s n (FTs l) _ _) ?_;refine zm (λh=>?_) λh=>zm (λh'=>⟨rfl,?_⟩) λh'=>?_
 .have J:k=5:=zl h;subst J;obtain⟨x,rfl,C⟩:=okB5 v rfl;rw[vw<|.inl rfl] at p;have g:lvB x=true:=by simpa[lvL] using p
  simp[Tm.szs] at z;let ⟨F,H,K,I⟩:=k9 x C;have m:=ih x (Si.2 rfl) C g (by simp[SZ];omega) A.2.1;have D:=c_edropW (zU x) F (H g) (by simp[SZ];omega)<|I _ (by simp only[M62];omega) A.2.1;have o:=fg 1 (zU x) za;have e:zU (.mk 5 s n [x])=if vx (zU x)=true then Z8 (zU x) else .mk 5 [] 0 [zU x]:=by rw[zU,EL (show((5:Int)==5)=true from rfl)];rfl
  rw[show aE (getD (FTs [x]) 0 [])=aT x from xb x,e];refine⟨el0 x [],_,m,(Z8<|zU x,vx<|zU x),D,zm (λhd=>?_) λhd=>⟨_,o,?_⟩⟩
  .have hd:=hd;rw[EL hd];exact rrl
  .rw[EG<|by rw[show vx (zU x)=false from hd];simp];exact rrl
 .have G:k=6:=zl h';subst G;obtain⟨x,y,r,rfl,E,_⟩:=okB6 v rfl;rw[vw<|.inr rfl] at p;have f:∀u∈x::y::r,AC EF 113 [aT u] [] (aT<|zU u) []:=λu d=>ih u d (ur b d) (jC p d) (by have:=Tm.szs_mem d;simp[SZ];omega)<|xU A.2 d;have C:=(k9 x<|ur b ET).2.2.1;have w:(zU x).l.length<=B:=by have m:=(zU x).sz_eq;have D:=Tm.szs_length (zU x).l;simp[Tm.szs] at z;simp[B];omega
  have j:=gx (y::r) [x] [zU x] zb rfl (λu d=>f u<|EP _ d) (show(x::y::r).length<=SZ by simp only[SZ];omega) w;have m:=f x ET;have o:=ltI' [] x<|y::r;refine rpv (v113_3a ..) ?_;rw[show aE (getD (FTs<|x::y::r) (toNat 0) [])=aT x from xb x,w64 za za];refine bT o ⟨⟨rfl,za,o,yO x⟩,zU x,m,EI _,vB za,?_⟩;rw[wG];exact j
 .have h:=h;have h':=h';rw[zU,EG<|by rw[h];simp,EG<|by rw[h'];simp];exact rrl
def WO:∀t,zt t=true->bd M62 t:=by
 refine Tm.ind λt ih=>?_;intro b;let ⟨k,s,n,l⟩:=t
 have d:=λh=>by
  have key:∀l',(∀u∈l',u∈l)->yL l'=true->bds M62 l':=by
   intro l'
   induction l' with
   |nil=>intro _ _;trivial
   |cons u l' g=>intro i h;rw[yL,EN] at h;exact⟨ih u (i u ET) h.1,g (λw j=>i w<|EP _ j) h.2⟩
  exact key l (λu m=>m) h
 rw[zt] at b;have nil:(((FTs l).length):Int)=0->l=[]:=λh=>S1 (by rw[zn] at h;omega);show(k=3->0-M62<=n/\n<=M62)/\bds M62 l;split at b
 .rename_i h;have h:k=0:=zl h;simp only[EN,Sw] at b;rw[nil b.2];exact⟨λe=>za,trivial⟩
 .split at b
  .rename_i h;have h:k=1:=zl h;simp[EN] at b;exact⟨λe=>za,d b.2⟩
  .split at b
   .rename_i h;have h:k=2:=zl h;simp[EN] at b;exact⟨λe=>za,d b.2⟩
   .split at b
    .simp[EN,Sf] at b;exact⟨λ_=>⟨by simp[M62];omega,b.1.1.1.2⟩,d b.2⟩
    .rename_i f;split at b
     .simp[EN] at b;exact⟨λe=>by rw[e] at f;exact absurd rfl f,d b.2⟩
     .split at b
      .simp[EN] at b;exact⟨λe=>by rw[e] at f;exact absurd rfl f,d b.2⟩
      .split at b
       .simp[EN] at b;exact⟨λe=>by rw[e] at f;exact absurd rfl f,d b.2⟩
       .cases b
def nj (t)(e:t.sz<=SZ):AC EF 71 [aT t] [] (aT (if zt t=true then zU t else t)) []:=by
 have d:=xR t (by simp[SZ,B] at*;omega);have b:=λh=>KN t (zW t h) (ul h) e<|WO t h;let ⟨k,s,n,l⟩:=t;refine acv (v71 k s n (FTs l) _ _) ?_;refine⟨_,d,zm (λh=>?_) λh=>?_⟩
 .rw[EG<|by rw[not_t h];simp];exact rrl
 .rw[EL<|iw h];exact⟨_,b<|iw h,.refl _,rfl⟩
def XE:∀ {xs ys:List (Bool×List FV)},All2 (λp q=>p.1=q.1/\LeR p.2 q.2) xs ys->TV.Le (.tup<|xs.map λp=>(p.1,fzs p.2)) (.tup<|ys.map λp=>(p.1,fzs p.2)):=λ{xs ys} h=>by
 have key:∀xs ys,All2 (λp q=>p.1=q.1/\LeR p.2 q.2) xs ys->xs.length=ys.length/\∀(i:Nat) (p q:Bool×List FV),xs[i]?=some p->ys[i]?=some q->p.1=q.1/\LeR p.2 q.2:=by
  intro xs
  induction xs with
  |nil=>intro ys h;cases ys with
   |nil=>exact⟨rfl,λi p q b=>by simp at b⟩
   |cons=>exact h.elim
  |cons x xs ih=>intro ys h;cases ys with
   |nil=>exact h.elim
   |cons y ys=>
    let ⟨o,f⟩:=ih ys h.2;refine⟨by simp[o],λi p q b d=>?_⟩;cases i with
    |zero=>simp at b d;subst b;subst d;exact h.1
    |succ i=>exact f i p q (zl b) (zl d)
 let ⟨o,f⟩:=key xs ys h;refine .tup _ _ (by simp[o]) λi p q b d=>?_;rw[EX] at b d;obtain⟨A,r,rfl⟩:=EM.1 b;obtain⟨D,e,rfl⟩:=EM.1 d;let ⟨C,w⟩:=f i A D r e;refine⟨C,by simp[fzs,w.length],λj x y g v=>?_⟩;dsimp only at g v;rw[fzs,EX] at g v;obtain⟨z,m,rfl⟩:=EM.1 g;obtain⟨E,u,rfl⟩:=EM.1 v;exact .a _ _<|.fz _ _<|w.get j z E m u
def yK (s:Hp)(a f:Int):=
 (if (yi (2*f.toNat+2) ⟨s,f,0⟩ a).2.e≠0 then((0,[]),0,(yi (2*f.toNat+2) ⟨s,f,0⟩ a).2.e) else((yi (2*f.toNat+2) ⟨s,f,0⟩ a).1,(yi (2*f.toNat+2) ⟨s,f,0⟩ a).2.f,0),(yi (2*f.toNat+2) ⟨s,f,0⟩ a).2.s)
abbrev tHd (x:(Int×List Int)×Int×Int):TV:=.tup [(true,[qi x.1.1,qf<|.sl false 1<|IR x.1.2]),(false,[qi x.2.1]),(false,[qi x.2.2])]
def cQ (s a f)(h:OkH s)(f0:0-4611686018427387904<=f)(i:f<=100000000):AC EF 120 [aH 0,ci a,ci f] (oH s) (tHd (yK s a f).1) (oH' (yK s a f).2):=by
 have ok:OkR ⟨s,f,0⟩:=⟨h,f0,zk⟩;have e:=ou _ ⟨s,f,0⟩ a ok (EI _) zk;unfold yK;generalize yi _ ⟨s,f,0⟩ a=z at*;let ⟨⟨hd,xs⟩,⟨g,d,b⟩⟩:=z;refine acv (v120 ..) ?_;refine⟨(hd,xs,⟨g,d,b⟩),e,yg (λq=>?_) λq=>?_⟩
 .dsimp only at q ⊢;rw[EL q];exact⟨XE (xs:=[(true,[.int .i64 0,.N]),(false,[.int .i64 0]),(false,[.int .i64 b])]) (ys:=[(true,[.int .i64 0,.sl false 1<|IR []]),(false,[.int .i64 0]),(false,[.int .i64 b])]) ⟨⟨rfl,.refl _,.N 1,trivial⟩,⟨rfl,.refl _⟩,⟨rfl,.refl _⟩,trivial⟩,rfl⟩
 .dsimp only at q ⊢;rw[EG λw=>w q];exact rrl
def xe (s:Hp)(a f:Int):=
 (if (fulR (2*f.toNat+2) (f.toNat+1) ⟨s,f,0⟩ a).2.e≠0 then(t0,0,(fulR (2*f.toNat+2) (f.toNat+1) ⟨s,f,0⟩ a).2.e) else(if zt (fulR (2*f.toNat+2) (f.toNat+1) ⟨s,f,0⟩ a).1=true then zU (fulR (2*f.toNat+2) (f.toNat+1) ⟨s,f,0⟩ a).1 else(fulR (2*f.toNat+2) (f.toNat+1) ⟨s,f,0⟩ a).1,(fulR (2*f.toNat+2) (f.toNat+1) ⟨s,f,0⟩ a).2.f,0),(fulR (2*f.toNat+2) (f.toNat+1) ⟨s,f,0⟩ a).2.s)
abbrev tFu (x:Tm×Int×Int):TV:=.tup [(true,cT x.1),(false,[qi x.2.1]),(false,[qi x.2.2])]
def tF (s a f)(h:OkH s)(f0:0-4611686018427387904<=f)(m:f<=40000000):AC EF 42 [aH 0,ci a,ci f] (oH s) (tFu (xe s a f).1) (oH' (xe s a f).2):=by
 have ok:OkR ⟨s,f,0⟩:=⟨h,f0,zk⟩;have e:=nt _ (f.toNat+1) f (EI _) za za ⟨s,f,0⟩ a ok<|EQ _;have j:=Zi (2*f.toNat+2) (f.toNat+1) f (EI _) za ⟨s,f,0⟩ a ok<|EQ _;unfold xe;generalize fulR (2*f.toNat+2) (f.toNat+1) ⟨s,f,0⟩ a=z at*;let ⟨t,⟨g,d,b⟩⟩:=z;have i:=nj t (by have:=j.2.2;simp[SZ];dsimp only at this;omega);refine acv (v42 ..) ?_;refine⟨(t,⟨g,d,b⟩),e,yg (λq=>?_) λq=>?_⟩
 .dsimp only at q ⊢;rw[EL q];exact⟨XE (xs:=[(true,[.int .i64 0,.str [],.int .i64 0,.N]),(false,[.int .i64 0]),(false,[.int .i64 b])]) (ys:=[(true,[.int .i64 0,.str [],.int .i64 0,.sl false 4<|FTs []]),(false,[.int .i64 0]),(false,[.int .i64 b])]) ⟨⟨rfl,.refl _,.refl _,.refl _,.N 4,trivial⟩,⟨rfl,.refl _⟩,⟨rfl,.refl _⟩,trivial⟩,rfl⟩
 .dsimp only at q ⊢;rw[EG λw=>w q];exact⟨_,i,.refl _,rfl⟩
def xL (s:Hp)(a u:Int):=
 if inC s.C a=false\/9<=(zB s.C a).t\/u<0 then((0,1),s) else(if (vO ⟨s,0,0⟩ a u).2.e≠0 then(0,(vO ⟨s,0,0⟩ a u).2.e) else((vO ⟨s,0,0⟩ a u).1,0),(vO ⟨s,0,0⟩ a u).2.s)
def c_pLift (s a u)(h:OkH s):AC EF 223 [aH 0,ci a,ci u] (oH s) (t2 (xL s a u).1) (oH' (xL s a u).2):=by
 have ok:OkR ⟨s,0,0⟩:=⟨h,zk,zk⟩;have j:=wY s a;have g:=mP ⟨s,0,0⟩ a u ok;have e0:xL s a u=if inC s.C a=false\/9<=(zB s.C a).t\/u<0 then((0,1),s) else(if (vO ⟨s,0,0⟩ a u).2.e≠0 then(0,(vO ⟨s,0,0⟩ a u).2.e) else((vO ⟨s,0,0⟩ a u).1,0),(vO ⟨s,0,0⟩ a u).2.s):=rfl
 generalize vO ⟨s,0,0⟩ a u=z at*;let ⟨p,⟨m,o,i⟩⟩:=z;dsimp only at e0 g;refine acv (v223 ..) ?_;refine⟨_,_,_,_,_,_,j,zm (λq=>?_) λq=>zm (λf=>?_) λf=>zm (λd=>?_) λd=>⟨(p,⟨m,o,i⟩),g,yg (λb=>?_) λb=>?_⟩⟩
 .rw[EL<|.inl<|zl q] at e0;rw[e0];exact rrl
 .rw[EL<|.inr<|.inl<|S0 f] at e0;rw[e0];exact rrl
 .rw[EL<|.inr<|.inr<|S0 d] at e0;rw[e0];exact rrl
 all_goals
  have r:¬(inC s.C a=false\/9<=(zB s.C a).t\/u<0):=by
   rintro (w|w|w)
   .rw[w] at q;exact absurd q zc
   .exact absurd w<|ES f
   .exact absurd w<|ES d
  rw[EG r] at e0
 .rw[EL b] at e0;rw[e0];exact rrl
 .rw[EG λw=>w b] at e0;rw[e0];exact rrl
def pB (s a f)(h:OkH s)(f0:0<=f)(d:f<=100000000):OkH (yK s a f).2/\((yK s a f).1.2.2=0\/(yK s a f).1.2.1=0)/\(yK s a f).1.2.1<=f:=by
 have b:OkR ⟨s,f,0⟩:=⟨h,zk,zk⟩;have o:=OkR.head (2*f.toNat+2) a b;have g:=fH _ ⟨s,f,0⟩ a<|EI _;unfold yK;split
 .exact⟨o.h,.inr rfl,f0⟩
 .exact⟨o.h,.inl rfl,g.1⟩
def fullS_ok (s a f)(h:OkH s)(f0:0<=f)(d:f<=40000000):OkH (xe s a f).2/\((xe s a f).1.2.2=0\/(xe s a f).1.2.1=0)/\(xe s a f).1.2.1<=f:=by
 have b:OkR ⟨s,f,0⟩:=⟨h,zk,zk⟩;have g:=Zi _ (f.toNat+1) f (EI _) za ⟨s,f,0⟩ a b<|EQ _;unfold xe;split
 .exact⟨g.1.h,.inr rfl,f0⟩
 .exact⟨g.1.h,.inl rfl,g.2.1⟩
def N64 (x:Int):= -9223372036854775808<=x/\x<=9223372036854775807
inductive Mv (b:Bool):Hp->Hp->Prop
 |refl (s:Hp):Mv b s s
 |put' {s t:Hp} (c:Cel):(c.t=2->N64 c.a)->Mv b s t->Mv b s (putS t c).2
 |set' {s t:Hp} (a:Int) (c:Cel):(c.t=2->N64 c.a)->Mv b s t->Mv b s (setS t a c).2
 |names {s t:Hp} (e:List (List UInt8)):b=true->Mv b s t->Mv b s {t with N:=t.N++e}
def Mv.put {b s t}(c)(h:Mv b s t)(d:c.t=2->N64 c.a:=by simp):Mv b s (putS t c).2:=.put' c d h
def Mv.set {b s t}(a c)(h:Mv b s t)(d:c.t=2->N64 c.a:=by simp):Mv b s (setS t a c).2:=.set' a c d h
def Mv.trans {b s t u}(h:Mv b s t)(g:Mv b t u):Mv b s u:=by
 induction g with
 |refl=>exact h
 |put' c d _ ih=>exact ih.put' c d
 |set' a c d _ ih=>exact ih.set' a c d
 |names e f _ ih=>exact ih.names e f
def Mv.up {b s t}(h:Mv false s t):Mv b s t:=by
 induction h with
 |refl=>exact .refl _
 |put' c d _ ih=>exact ih.put' c d
 |set' a c d _ ih=>exact ih.set' a c d
 |names e f _ ih=>cases f
def Mv.ok {b s t}(h:Mv b s t)(g:OkH s):OkH t:=by
 induction h with
 |refl=>exact g
 |put' c _ _ ih=>exact ih.put c
 |set' a c _ _ ih=>exact ih.set a c
 |names e _ _ ih=>exact⟨ih.C,ih.M,ih.T,ih.L⟩
def pg (s c):(putS s c).2.N=s.N/\(putS s c).2.M=s.M/\(putS s c).2.L=s.L/\s.C.length<=(putS s c).2.C.length/\(putS s c).2.T=s.T:=by
 unfold putS;split
 .exact⟨rfl,rfl,rfl,EI _,rfl⟩
 .split
  .exact⟨rfl,rfl,rfl,EI _,rfl⟩
  .exact⟨rfl,rfl,rfl,zb,rfl⟩
def nJ (s a c):(setS s a c).2.N=s.N/\(setS s a c).2.M=s.M/\(setS s a c).2.L=s.L/\s.C.length<=(setS s a c).2.C.length:=by
 unfold setS;split
 .exact⟨rfl,rfl,rfl,EI _⟩
 .split
  .exact⟨rfl,rfl,rfl,EI _⟩
  .split
   .exact⟨rfl,rfl,rfl,EI _⟩
   .split
    .exact⟨rfl,rfl,rfl,EI _⟩
    .exact⟨rfl,rfl,rfl,zb⟩
def Mv.len {b s t}(h:Mv b s t):s.C.length<=t.C.length/\t.M=s.M/\t.L=s.L:=by
 induction h with
 |refl=>exact⟨EI _,rfl,rfl⟩
 |put' c _ _ ih=>have:=pg ‹Hp› c;exact⟨SW ih.1 this.2.2.2.1,by rw[this.2.1];exact ih.2.1,by rw[this.2.2.1];exact ih.2.2⟩
 |set' a c _ _ ih=>have:=nJ ‹Hp› a c;exact⟨SW ih.1 this.2.2.2,by rw[this.2.1];exact ih.2.1,by rw[this.2.2.1];exact ih.2.2⟩
 |names e _ _ ih=>exact ih
def Mv.N {s t}(h:Mv false s t):t.N=s.N:=by
 induction h with
 |refl=>rfl
 |put' c _ _ ih=>rw[(pg _ c).1];exact ih
 |set' a c _ _ ih=>rw[(nJ _ a c).1];exact ih
 |names e b _ ih=>cases b
def Mvr (s0:Hp)(r:Rd):Prop:=Mv false s0 r.s/\0<=r.f/\r.e≠170
variable {s0:Hp}
def Mvr.fail {r}(h:Mvr s0 r)(e)(b:e≠170:=by decide):Mvr s0 (yq r e):=⟨h.1,h.2.1,by unfold yq;dsimp only;split;exact b;exact h.2.2⟩
def put_e7 (s c):(putS s c).1.2≠170:=by
 unfold putS;split
 .show 1≠170;decide
 .split
  .show 200≠170;decide
  .show 0≠170;decide
def set_e7 (s a c):(setS s a c).1≠170:=by
 unfold setS
 repeat' split
 all_goals first|(show 1≠170;decide)|(show 201≠170;decide)|(show 0≠170;decide)
def Mvr.put {r}(h:Mvr s0 r)(c)(b:c.t=2->N64 c.a:=by simp):Mvr s0 (putR r c).2:=by
 unfold putR;split
 .exact⟨Mv.put c h.1 b,h.2.1,put_e7 _ _⟩
 .exact h
def Mvr.keep {r}(h:Mvr s0 r)(a b):Mvr s0 (yG r a b):=by
 unfold yG;split
 .exact⟨Mv.set a _ h.1,h.2.1,set_e7 _ _ _⟩
 .exact h
def Mvr.less {r}(h:Mvr s0 r)(b:¬r.f<=0):Mvr s0 ⟨r.s,r.f-1,r.e⟩:=⟨h.1,zk,h.2.2⟩
def Mvr.visit {r}(h:Mvr s0 r)(a):Mvr s0 (zu r a).2:=by
 unfold zu;split
 .exact h.fail 1
 .split
  .exact h.fail 1
  .split
   .exact h.fail 1
   .split
    .exact h.fail 80
    .split
     .exact h
     next q _=>exact h.less q
def Mvr.lift {r}(h:Mvr s0 r)(a u):Mvr s0 (vO r a u).2:=by
 unfold vO;split
 .exact h
 .exact(h.put _).put _
def Mvr.entry:∀(n) {r} (b j),Mvr s0 r->Mvr s0 (yk n r b j).2
 |0,_,_,_,h=>h
 |n+1,r,b,j,h=>by
  rw[yk];split
  .exact h.fail 1
  .split
   .exact h.fail 1
   .split
    .exact h
    .split
     .exact h
     .split
      .exact h.fail 80
      next q=>exact Mvr.entry n _ _<|h.less q
def Mvr.loose (n){r}(h:Mvr s0 r)(s j):Mvr s0 (losR n r s j).2:=by
 have e:=Mvr.entry n s.b j h;unfold losR;split
 .split
  .split
   .exact e.put _
   .exact e.lift _ _
  .exact e.put _
 .exact h.put _
def Mvr.lam {r}(h:Mvr s0 r)(s b):Mvr s0 (lamR r s b).2:=((h.put _).put _).put _
def Mvr.app {r}(h:Mvr s0 r)(s f x):Mvr s0 (appR r s f x).2:=((h.put _).put _).put _
def Mvr.level (n){r}(h:Mvr s0 r)(c t s):Mvr s0 (kb n c t r s).2:=by
 unfold kb;split
 .exact h.loose n s _
 .split
  .exact h.lam s _
  .split
   .exact h.app s _ _
   .exact h
def Mvr.spun (n){v}(h:Mvr s0 v.2)(s):Mvr s0 (j9 n v s).2:=by
 unfold j9;split
 .exact h
 .split
  .exact h
  .exact h.level n _ _ s
mutual
def Mvr.open:∀(n:Nat) {r:Rd} (s:Cel),Mvr s0 r->Mvr s0 (zG n r s).2
 |0,_,_,h=>h
 |n+1,r,s,h=>by rw[zG];exact Mvr.spun (n+1) (Mvr.spin n<|h.visit s.a) s
def Mvr.spin:∀(n:Nat) {v:(Cel×Int)×Rd},Mvr s0 v.2->Mvr s0 (vT n v).2
 |0,_,h=>h
 |n+1,v,h=>by
  rw[vT];split
  .exact Mvr.spin n<|((Mvr.open n v.1.1 h).keep _ _).visit _
  .exact h
end
def Mvr.beta {r}(h:Mvr s0 r)(b arg):Mvr s0 (kx r b arg).2:=((h.put _).put _).put _
def Mvr.apps:∀(l) (f) {r},Mvr s0 r->Mvr s0 (uO l f r).2
 |[],_,_,h=>h
 |x::l,f,r,h=>by rw[uO];exact Mvr.apps l _<|h.put _
def Mvr.headL:∀(n) (l) (b) (a) {r},Mvr s0 r->Mvr s0 (Go.AM.headL n l b a r).r
 |0,_,_,_,_,h=>h
 |n+1,l,b,a,r,h=>by
  have v:=h.visit a;rw[Go.AM.headL];split
  .exact h
  .split
   .exact v
   .split
    .exact Mvr.headL n _ _ _ v
    .split
     .exact Mvr.headL n _ _ _<|(Mvr.open _ _ v).keep _ _
     .split
      .split
       .exact v
       .exact Mvr.headL n _ _ _<|v.beta _ _
      .exact v
def Mvr.head (n){r}(b)(h:Mvr s0 r):Mvr s0 (yi n r b).2:=by
 have d:=Mvr.headL n [] false b h;show Mvr s0 (if _ then _ else _);split
 .exact(Mvr.apps _ _ d).keep _ _
 .exact d
def Mvr.leaf {F}(b:∀(r) a,Mvr s0 r->Mvr s0 (F r a).2):∀(l) (t) (r),Mvr s0 r->Mvr s0 (wg F l t r).2
 |[],_,_,h=>h
 |x::l,t,r,h=>Mvr.leaf b l _ _<|b r x h
def Mvr.full (N):∀(n) (r) (a),Mvr s0 r->Mvr s0 (fulR N n r a).2
 |0,_,_,h=>h
 |n+1,r,a,h=>by
  have b:=Mvr.head N a h;rw[fulR];unfold fullG;split
  .exact b
  .split
   .exact Mvr.full N n _ _ b
   .exact Mvr.leaf (Mvr.full N n) _ _ _ b
def Ke (s a f)(f0:0<=f):Mv false s (yK s a f).2:=(Mvr.head (s0:=s) _ (r:=⟨s,f,0⟩) a ⟨.refl s,f0,by show 0≠170;decide⟩).1
def aq (s a f)(f0:0<=f):Mv false s (xe s a f).2/\0<=(xe s a f).1.2.1:=by
 have h:=Mvr.full (s0:=s) (2*f.toNat+2) (f.toNat+1) ⟨s,f,0⟩ a ⟨.refl s,f0,by show 0≠170;decide⟩;refine⟨h.1,?_⟩;unfold xe;split
 .exact EQ _
 .exact h.2.1
def pI (s a u):Mv false s (xL s a u).2:=by
 unfold xL;split
 .exact .refl s
 .exact(Mvr.lift (s0:=s) (r:=⟨s,0,0⟩) ⟨.refl s,EQ _,by show 0≠170;decide⟩ a u).1
def IH (s:Hp):Prop:=(∀c∈s.C,c.t=2->N64 c.a)/\∀e∈s.T,e.x.t=2->N64 e.x.a
def IH.cell {s}(h:IH s){x}:(zB s.C x).t=2->N64 (zB s.C x).a:=by
 by_cases b:0<=x/\x<s.C.length
 .let ⟨d,e⟩:=qd b.1 b.2;rw[e];exact h.1 _<|F4 _
 .rw[Zd za];intro q;simp at q
def IH.put {s}(h:IH s)(c)(b:c.t=2->N64 c.a):IH (putS s c).2:=by
 unfold putS;split
 .exact h
 .split
  .exact h
  .refine⟨λx hx=>?_,h.2⟩;rcases Sb.1 hx with hx|hx
   .exact h.1 x hx
   .rw[Si.1 hx];exact b
def IH.set {s}(h:IH s)(a c)(b:c.t=2->N64 c.a):IH (setS s a c).2:=by
 unfold setS;repeat' split
 all_goals first|exact h|skip
 refine⟨λx hx=>?_,λe he=>?_⟩
 .rcases Ge hx with hx|hx
  .exact h.1 x hx
  .rw[hx];exact b
 .rcases Sb.1 he with he|he
  .exact h.2 e he
  .rw[Si.1 he];exact h.cell
def Mv.ih {b s t}(h:Mv b s t)(g:IH s):IH t:=by
 induction h with
 |refl=>exact g
 |put' c d _ ih=>exact ih.put c d
 |set' a c d _ ih=>exact ih.set a c d
 |names e _ _ ih=>exact ih
def varE (V:Option<|List Int)(C:List Cel)(n:Int):Int×Int:=
 match V with
 |none=>if isT C n=true then(n,0) else(0,1)
 |some l=>if l.length<=n then(0,1) else if isT C (l.getD n.toNat 0)=true then(l.getD n.toNat 0,0) else(0,1)
mutual
def encE (V:Option<|List Int):Tm->Hp->(Int×Int)×Hp
 |.mk k s n l,h=>
  if k=0 then putS (symS h s).2 ⟨0,(symS h s).1,0,0,0⟩ else if k=1 then putS h ⟨1,n,0,0,0⟩ else if k=2 then putS h ⟨2,n,0,0,0⟩ else if k=3 then putS h ⟨3,n,0,0,0⟩ else if k=4 then(varE V h.C n,h) else encL V k l h
def encL (V:Option<|List Int)(k:Int):List Tm->Hp->(Int×Int)×Hp
 |[],h=>((0,0),h)
 |u::l,h=>
  if (encE V u h).1.2≠0 then((0,(encE V u h).1.2),(encE V u h).2) else if k=5 then putS (encE V u h).2 ⟨6,(encE V u h).1.1,0,0,0⟩ else encR V l (encE V u h).1.1 (encE V u h).2
def encR (V:Option<|List Int):List Tm->Int->Hp->(Int×Int)×Hp
 |[],f,h=>((f,0),h)
 |u::l,f,h=>
  if (encE V u h).1.2≠0 then((0,(encE V u h).1.2),(encE V u h).2) else if (putS (encE V u h).2 ⟨7,f,(encE V u h).1.1,0,0⟩).1.2≠0 then((0,(putS (encE V u h).2 ⟨7,f,(encE V u h).1.1,0,0⟩).1.2),(putS (encE V u h).2 ⟨7,f,(encE V u h).1.1,0,0⟩).2) else encR V l (putS (encE V u h).2 ⟨7,f,(encE V u h).1.1,0,0⟩).1.1 (putS (encE V u h).2 ⟨7,f,(encE V u h).1.1,0,0⟩).2
end
def encS (V:Option<|List Int)(s:Hp)(t:Tm):=
 if zt t=false then((0,1),s) else if (encE V t s).1.2≠0 then((0,(encE V t s).1.2),⟨(encE V t s).2.C.take s.C.length,(encE V t s).2.T,(encE V t s).2.M,(encE V t s).2.L,(encE V t s).2.N⟩) else encE V t s
def Gw (s:Hp)(z:(Int×Int)×Hp):Prop:=(OkH s->OkH z.2)/\∃d e,z.2=⟨s.C++d,s.T,s.M,s.L,s.N++e⟩/\e.length<=d.length+if z.1.2=0 then 0 else 1
def Gw.nil (s x):Gw s (x,s):=⟨λh=>h,[],[],zb,zb⟩
def Gw.put (s c):Gw s (putS s c):=by
 refine⟨λh=>h.put c,?_⟩;unfold putS;split
 .exact⟨[],[],zb,zb⟩
 .split
  .exact⟨[],[],zb,zb⟩
  .exact⟨[c],[],zb,zb⟩
def Gw.seq {s z y}(h:Gw s z)(m:z.1.2=0)(g:Gw z.2 y):Gw s y:=by let ⟨a,d,e,r,i⟩:=h;let ⟨b,p,f,j,u⟩:=g;rw[EL m] at i;refine⟨λo=>b<|a o,d++p,e++f,?_,by simp[EJ];omega⟩;rw[j,r];simp
def Gw.err {s z}(h:Gw s z)(g:z.1.2≠0):Gw s ((0,z.1.2),z.2):=by let ⟨a,d,e,f,b⟩:=h;exact⟨a,d,e,f,b⟩
def putS_out (s c):(putS s c).1.2=0/\(putS s c).2.C=s.C++[c]\/(putS s c).1.2≠0/\(putS s c).2=s:=by
 unfold putS;split
 .exact .inr ⟨by show 1≠0;decide,rfl⟩
 .split
  .exact .inr ⟨by show 200≠0;decide,rfl⟩
  .exact .inl ⟨rfl,rfl⟩
def Gw.con (s nm):Gw s (putS (symS s nm).2 ⟨0,(symS s nm).1,0,0,0⟩):=by
 have p:∃e,(symS s nm).2=⟨s.C,s.T,s.M,s.L,s.N++e⟩/\e.length<=1:=by
  unfold symS;split
  .exact⟨[],zb,zb⟩
  .exact⟨[nm],rfl,zb⟩
 let ⟨e,b,j⟩:=p;rcases putS_out (symS s nm).2 ⟨0,(symS s nm).1,0,0,0⟩ with⟨f,d⟩|⟨f,d⟩
 .let ⟨g,m,i,_,h⟩:=pg (symS s nm).2 ⟨0,(symS s nm).1,0,0,0⟩;refine⟨λo=>OkH.put (by rw[b];exact⟨o.C,o.M,o.T,o.L⟩) _,[⟨0,(symS s nm).1,0,0,0⟩],e,?_,by rw[EL f];exact zl j⟩;generalize (putS (symS s nm).2 ⟨0,(symS s nm).1,0,0,0⟩)=z at*;generalize (symS s nm).1=x at*;rw[b] at d g m i h;let ⟨u,⟨zC,zT,v,r,w⟩⟩:=z;dsimp only at*;rw[d,g,m,i,h]
 .refine⟨λo=>OkH.put (by rw[b];exact⟨o.C,o.M,o.T,o.L⟩) _,[],e,by rw[d,b];simp,by rw[EG f];exact zl j⟩
def sD (V):∀(l),(∀u∈l,∀s,Gw s<|encE V u s)->∀(f) (s),Gw s (encR V l f s)
 |[],_,f,s=>by rw[encR];exact Gw.nil s _
 |u::l,h,f,s=>by
  have d:=h u ET s;rw[encR];split;next q=>exact d.err q
  .rename_i q;have q:(encE V u s).1.2=0:=zl q;have e:=Gw.put (encE V u s).2 ⟨7,f,(encE V u s).1.1,0,0⟩;split;next b=>exact d.seq q<|e.err b
   next b=>exact d.seq q<|e.seq (zl b)<|sD V l (λv g=>h v<|EP _ g) _ _
def vP (V):∀(t) (s),Gw s (encE V t s):=by
 refine Tm.ind λt ih=>?_;let ⟨k,nm,n,l⟩:=t;intro s;rw[encE];split
 .exact Gw.con s nm
 .split
  .exact Gw.put s _
  .split
   .exact Gw.put s _
   .split
    .exact Gw.put s _
    .split
     .exact Gw.nil s _
     .match l with
      |[]=>rw[encL];exact Gw.nil s _
      |u::l=>
       have b:=ih u ET s;rw[encL];split;next q=>exact b.err q
       .rename_i q;have q:(encE V u s).1.2=0:=zl q;split
        .exact b.seq q<|Gw.put _ _
        .exact b.seq q<|sD V l (λv d=>ih v<|EP _ d) _ _
def NmB (K:Nat)(s:Hp):Prop:=s.N.length<=s.C.length+K
def tH (V s t)(h:(encS V s t).1.2≠0):∃e,(encS V s t).2={s with N:=s.N++e}:=by
 unfold encS at h ⊢;split
 .exact⟨[],zb⟩
 .rename_i q;rw[EG q] at h;let ⟨_,d,e,f,_⟩:=vP V t s;split
  .exact⟨e,by rw[f];simp⟩
  next b=>rw[EG b] at h;exact absurd h b
end Go.AM
