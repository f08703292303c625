/- Contracts of the code's functions over plain values, and plain laws: part 6. No conditions. -/
import Derived.Test.YtmgbnkbcjkdfjaaGreatPart5
import Derived.Test.YtmgbnkbcjkdfjaaGreatPart3
import Derived.Test.YtmgbnkbcjkdfjaaGreatPart2
import Derived.Test.YtmgbnkbcjkdfjaaGreatRows
set_option maxRecDepth 100000
open Go Go.Proofs
namespace Go.AM
structure Wp where
 s:Hp
 f:Int
structure Sd where
 h:Int
 js:List Int
 c:Cel
abbrev noS:Sd:=⟨0,[],noC⟩
def lookW (w:Wp)(a:Int):(Sd×Int)×Wp:=
 if (z2g w.s a w.f).1.2.2≠0 then ((noS,(z2g w.s a w.f).1.2.2),⟨(z2g w.s a w.f).2,w.f⟩)
 else ((⟨(z2g w.s a w.f).1.1.1,(z2g w.s a w.f).1.1.2,z07 (z2g w.s a w.f).2.C (z2g w.s a w.f).1.1.1⟩,0),⟨(z2g w.s a w.f).2,(z2g w.s a w.f).1.2.1⟩)
def z2m (w:Wp)(a:Int):(Tm×Int)×Wp:=
 (((z3g w.s a w.f).1.1,(z3g w.s a w.f).1.2.2),⟨(z3g w.s a w.f).2,if (z3g w.s a w.f).1.2.2=0 then (z3g w.s a w.f).1.2.1 else w.f⟩)
def lfZ (a b:Tm):Bool:=a.k==b.k&&a.n==b.n
def z4g (t:Tm):Tm×Bool:=if z08 t=true then (if (z0d t).k=3∨(z0d t).k=1 then (z0d t,true) else (noT,false)) else (noT,false)
def badZ (lv:Int)(out:List Tm)(u:Tm):Bool:= !(z4g u).2||((z4g u).1.k==1&&decide ((z4g u).1.n≤lv))||out.any fun v=>lfZ v (z4g u).1
def z03 (lv:Int):List Int→List Tm→Wp→(List Tm×Int)×Wp
 | [],out,w=>((out,0),w)
 | a::l,out,w=>
  if (z2m w a).1.2≠0 then (([],(z2m w a).1.2),(z2m w a).2)
  else if badZ lv out (z2m w a).1.1=true then (([],171),(z2m w a).2)
  else z03 lv l (out++ [(z4g (z2m w a).1.1).1]) (z2m w a).2
abbrev bndT (n:Int):Tm:= .mk 3 [] n []
def setW (w:Wp)(x:Int)(t:Tm):Int×Wp:=
 if (encS none w.s t).1.2≠0 then ((encS none w.s t).1.2,⟨(encS none w.s t).2,w.f⟩)
 else ((setS (encS none w.s t).2 x ⟨5,(encS none w.s t).1.1,0,0,0⟩).1,⟨(setS (encS none w.s t).2 x ⟨5,(encS none w.s t).1.1,0,0,0⟩).2,w.f⟩)
def z0u (s:Hp)(lv:Int):(Int×Int)×Hp:=putS s ⟨4,z0f [lv,0],0,0,0⟩
def z3x (w:Wp)(x lv:Int)(lams:Nat)(on:List Tm):(Tm×Int)×Wp:=
 if (z0u w.s lv).1.2≠0 then ((noT,(z0u w.s lv).1.2),⟨(z0u w.s lv).2,w.f⟩)
 else ((.mk 4 [] (z0u w.s lv).1.1 [],(setW ⟨(z0u w.s lv).2,w.f⟩ x (z2n lams (z0c (.mk 4 [] (z0u w.s lv).1.1 []) on))).1),(setW ⟨(z0u w.s lv).2,w.f⟩ x (z2n lams (z0c (.mk 4 [] (z0u w.s lv).1.1 []) on))).2)
def onZ:List Tm→List Tm→List Tm
 | a::l,b::m=>(if lfZ a b=true then [bndT (l.length:Int)] else [])++onZ l m
 | _,_=> []
def z5l (w:Wp)(x y:Sd):Int×Wp:=
 if (z03 x.c.a x.js [] w).1.2≠0 then ((z03 x.c.a x.js [] w).1.2,(z03 x.c.a x.js [] w).2)
 else if (z03 y.c.a y.js [] (z03 x.c.a x.js [] w).2).1.2≠0 then ((z03 y.c.a y.js [] (z03 x.c.a x.js [] w).2).1.2,(z03 y.c.a y.js [] (z03 x.c.a x.js [] w).2).2)
 else if (z03 x.c.a x.js [] w).1.1.length≠(z03 y.c.a y.js [] (z03 x.c.a x.js [] w).2).1.1.length then (171,(z03 y.c.a y.js [] (z03 x.c.a x.js [] w).2).2)
 else if (onZ (z03 x.c.a x.js [] w).1.1 (z03 y.c.a y.js [] (z03 x.c.a x.js [] w).2).1.1).length=(z03 x.c.a x.js [] w).1.1.length then (0,(z03 y.c.a y.js [] (z03 x.c.a x.js [] w).2).2)
 else ((z3x (z03 y.c.a y.js [] (z03 x.c.a x.js [] w).2).2 x.h x.c.a (z03 x.c.a x.js [] w).1.1.length (onZ (z03 x.c.a x.js [] w).1.1 (z03 y.c.a y.js [] (z03 x.c.a x.js [] w).2).1.1)).1.2,
  (z3x (z03 y.c.a y.js [] (z03 x.c.a x.js [] w).2).2 x.h x.c.a (z03 x.c.a x.js [] w).1.1.length (onZ (z03 x.c.a x.js [] w).1.1 (z03 y.c.a y.js [] (z03 x.c.a x.js [] w).2).1.1)).2)
structure Iv where
 x:Int
 lv:Int
 l:List Tm
def ixZ (o:Tm):List Tm→Option Nat
 | []=>none
 | u::l=>if lfZ u o=true then some l.length else ixZ o l
def outZ (t:Tm)(k:Int):Tm:=if t.k=3 then .mk t.k t.s (wr (t.n-k)) t.l else t
def z4b (v:Iv)(t:Tm)(k:Int):Tm×Bool:=
 if t.k=3∧t.n<k then (t,true)
 else match ixZ (outZ t k) v.l with
  | some r=>(bndT (k+r),true)
  | none=>(t,t.k==1&&decide (t.n≤v.lv))
def im1 (v:Iv)(k:Int):List Tm→List Tm×List Tm
 | []=>([],[])
 | t::l=>if (z4b v t k).2=true then (bndT (l.length:Int)::(im1 v k l).1,(z4b v t k).1::(im1 v k l).2) else im1 v k l
def im2 (lv vlv k:Int):List Tm→List Tm×List Tm
 | []=>([],[])
 | t::l=>if lv>vlv∧t.k=1∧t.n≤lv then (t::(im2 lv vlv k l).1,bndT (k+(l.length:Int))::(im2 lv vlv k l).2) else im2 lv vlv k l
def zag (v:Iv)(y:Sd)(k:Int)(z:(List Tm×Int)×Wp):(Tm×Int)×Wp:=
 if z.1.2≠0 then ((noT,z.1.2),z.2)
 else if (im1 v k z.1.1).1.length=z.1.1.length∧y.c.a≤v.lv then ((z0c (.mk 4 [] y.h []) (im1 v k z.1.1).2,0),z.2)
 else ((z0c (z3x z.2 y.h (z0q [v.lv,y.c.a]) z.1.1.length ((im1 v k z.1.1).1++(im2 y.c.a v.lv k v.l).1)).1.1 ((im1 v k z.1.1).2++(im2 y.c.a v.lv k v.l).2),
  (z3x z.2 y.h (z0q [v.lv,y.c.a]) z.1.1.length ((im1 v k z.1.1).1++(im2 y.c.a v.lv k v.l).1)).1.2),
  (z3x z.2 y.h (z0q [v.lv,y.c.a]) z.1.1.length ((im1 v k z.1.1).1++(im2 y.c.a v.lv k v.l).1)).2)
def zbj (v:Iv)(y:Sd)(k:Int)(w:Wp):(Tm×Int)×Wp:=zag v y k (z03 y.c.a y.js [] w)
def z5g (v:Iv)(N:List (List UInt8))(x:Sd)(k:Int):Tm×Bool:=
 if x.c.t=0 then (.mk 0 (z93 N x.c.a) 0 [],true)
 else if x.c.t=2 then (.mk 2 [] x.c.a [],true)
 else if x.c.t=1 then z4b v (.mk 1 [] x.c.a []) k
 else z4b v (bndT x.c.a) k
def z7q (F:Int→Wp→(Tm×Int)×Wp):List Int→Tm→Wp→(Tm×Int)×Wp
 | [],t,w=>((t,0),w)
 | b::l,t,w=>if (F b w).1.2≠0 then ((noT,(F b w).1.2),(F b w).2) else z7q F l (z0c t [(F b w).1.1]) (F b w).2
def termG (v:Iv)(F:Int→Int→Wp→(Tm×Int)×Wp)(k:Int)(z:(Sd×Int)×Wp):(Tm×Int)×Wp:=
 if z.1.2≠0 then ((noT,z.1.2),z.2)
 else if z.1.1.c.t=6 then ((z2n 1 (F z.1.1.c.a (k+1) z.2).1.1,(F z.1.1.c.a (k+1) z.2).1.2),(F z.1.1.c.a (k+1) z.2).2)
 else if z.1.1.c.t=4 then (if z.1.1.h=v.x then ((noT,170),z.2) else zbj v z.1.1 k z.2)
 else if (z5g v z.2.s.N z.1.1 k).2=false then ((noT,170),z.2)
 else z7q (fun b w=>F b k w) z.1.1.js (z5g v z.2.s.N z.1.1 k).1 z.2
def z1h (v:Iv):Nat→Int→Int→Wp→(Tm×Int)×Wp
 | 0,_,_,w=>((noT,80),w)
 | n+1,a,k,w=>termG v (z1h v n) k (lookW w a)
def zfz (x:Sd)(a:Int)(z:(List Tm×Int)×Wp):Int×Wp:=
 if z.1.2≠0 then (z.1.2,z.2)
 else if (z1h ⟨x.h,x.c.a,z.1.1⟩ (z.2.f.toNat+1) a 0 z.2).1.2≠0 then ((z1h ⟨x.h,x.c.a,z.1.1⟩ (z.2.f.toNat+1) a 0 z.2).1.2,(z1h ⟨x.h,x.c.a,z.1.1⟩ (z.2.f.toNat+1) a 0 z.2).2)
 else setW (z1h ⟨x.h,x.c.a,z.1.1⟩ (z.2.f.toNat+1) a 0 z.2).2 x.h (z2n z.1.1.length (z1h ⟨x.h,x.c.a,z.1.1⟩ (z.2.f.toNat+1) a 0 z.2).1.1)
def z4s (w:Wp)(x:Sd)(a:Int):Int×Wp:=zfz x a (z03 x.c.a x.js [] w)
def z3j (w:Wp)(x:Sd)(a:Int):(Int×Int)×Wp:=
 if x.c.t=6 then ((x.c.a,0),w)
 else if (z2a w.s a 1).1.2≠0 then ((0,(z2a w.s a 1).1.2),⟨(z2a w.s a 1).2,w.f⟩)
 else if (putS (z2a w.s a 1).2 ⟨3,0,0,0,0⟩).1.2≠0 then ((0,(putS (z2a w.s a 1).2 ⟨3,0,0,0,0⟩).1.2),⟨(putS (z2a w.s a 1).2 ⟨3,0,0,0,0⟩).2,w.f⟩)
 else ((putS (putS (z2a w.s a 1).2 ⟨3,0,0,0,0⟩).2 ⟨7,(z2a w.s a 1).1.1,(putS (z2a w.s a 1).2 ⟨3,0,0,0,0⟩).1.1,0,0⟩).1,
  ⟨(putS (putS (z2a w.s a 1).2 ⟨3,0,0,0,0⟩).2 ⟨7,(z2a w.s a 1).1.1,(putS (z2a w.s a 1).2 ⟨3,0,0,0,0⟩).1.1,0,0⟩).2,w.f⟩)
abbrev Ow:=(Int×List (Int×Int))×Wp
def z9b (w:Wp)(x y:Sd)(p:Int×Int):Ow:=
 if (z3j w x p.1).1.2≠0 then (((z3j w x p.1).1.2,[]),(z3j w x p.1).2)
 else if (z3j (z3j w x p.1).2 y p.2).1.2≠0 then (((z3j (z3j w x p.1).2 y p.2).1.2,[]),(z3j (z3j w x p.1).2 y p.2).2)
 else ((0,[((z3j w x p.1).1.1,(z3j (z3j w x p.1).2 y p.2).1.1)]),(z3j (z3j w x p.1).2 y p.2).2)
def ziz (x y:Sd):Bool:=x.c.t !=y.c.t||x.c.a !=y.c.a||x.js.length !=y.js.length
def oneG (p:Int×Int)(x y:Sd)(w:Wp):Ow:=
 if x.c.t=6∨y.c.t=6 then z9b w x y p
 else if x.c.t=4∧y.c.t=4∧x.h=y.h then (((z5l w x y).1,[]),(z5l w x y).2)
 else if x.c.t=4 then (((z4s w x p.2).1,[]),(z4s w x p.2).2)
 else if y.c.t=4 then (((z4s w y p.1).1,[]),(z4s w y p.1).2)
 else if ziz x y=true then ((170,[]),w)
 else ((0,x.js.zip y.js),w)
def oneW (w:Wp)(p:Int×Int):Ow:=
 if (lookW w p.1).1.2≠0 then (((lookW w p.1).1.2,[]),(lookW w p.1).2)
 else if (lookW (lookW w p.1).2 p.2).1.2≠0 then (((lookW (lookW w p.1).2 p.2).1.2,[]),(lookW (lookW w p.1).2 p.2).2)
 else oneG p (lookW w p.1).1.1 (lookW (lookW w p.1).2 p.2).1.1 (lookW (lookW w p.1).2 p.2).2
def runZ:Nat→Wp→List (Int×Int)→Int×Wp
 | _,w,[]=>(0,w)
 | 0,w,_::_=>(80,w)
 | n+1,w,p::st=>
  if w.f≤0 then (80,w)
  else if (oneW ⟨w.s,w.f-1⟩ p).1.1≠0 then ((oneW ⟨w.s,w.f-1⟩ p).1.1,(oneW ⟨w.s,w.f-1⟩ p).2)
  else runZ n (oneW ⟨w.s,w.f-1⟩ p).2 ((oneW ⟨w.s,w.f-1⟩ p).1.2++st)
def oddZ (C:List Cel)(x:Int):Bool:= !inC C x||decide (9≤(z07 C x).t)
def allZ (s:Hp)(a b:List Int)(f:Int):(Int×Int)×Hp:=
 if a.length≠b.length∨a.any (oddZ s.C)=true∨b.any (oddZ s.C)=true then ((0,1),s)
 else if (runZ f.toNat ⟨s,f⟩ (a.zip b)).1≠0 then ((0,(runZ f.toNat ⟨s,f⟩ (a.zip b)).1),z54 (runZ f.toNat ⟨s,f⟩ (a.zip b)).2.s s.C.length s.T.length)
 else (((runZ f.toNat ⟨s,f⟩ (a.zip b)).2.f,0),(runZ f.toNat ⟨s,f⟩ (a.zip b)).2.s)
abbrev aWk:TV:= .c (.a (.ep 0 3 0 0))
abbrev wk3 (o r:Nat)(f:Int)(n:Nat):AObj:= .arr 3 [[.a (.ep o 6 0 0), .a (.osl r 2 0 n), .a (.fz (.int .i64 f))]]
abbrev oWk (w:Wp)(n:Nat)(R:List (List FV)):List AObj:=[wk3 1 6 w.f n,hp6 2 3 4 5 w.s, .arz 5 (CR w.s.C), .arz 7 (TR w.s.T), .arz 1 (NR w.s.N), .mapz (NM w.s.N 0), .arz 2 R]
abbrev oWk' (w:Wp)(n:Nat)(R:List (List FV)):List AObj:=[wk3 1 10 w.f n,hp6 7 8 9 5 w.s, .gone, .gone, .gone, .mapz (NM w.s.N 0), .gone, .arz 5 (CR w.s.C), .arz 7 (TR w.s.T), .arz 1 (NR w.s.N), .arz 2 R]
abbrev aSd (x:Sd):TV:= .agg [.a (.fz (.int .i64 x.h)), .a (.fz (.sl false 1 (IR x.js))), .a (.fz (.int .i64 x.c.t)), .a (.fz (.int .i64 x.c.a)), .a (.fz (.int .i64 x.c.b)), .a (.fz (.int .i64 x.c.c)), .a (.fz (.int .i64 x.c.d))]
abbrev tSd (x:Sd×Int):TV:= .tup [(true,[.a (.fz (.int .i64 x.1.h)), .a (.fz (.sl false 1 (IR x.1.js))), .a (.fz (.int .i64 x.1.c.t)), .a (.fz (.int .i64 x.1.c.a)), .a (.fz (.int .i64 x.1.c.b)), .a (.fz (.int .i64 x.1.c.c)), .a (.fz (.int .i64 x.1.c.d))]),(false,[.a (.fz (.int .i64 x.2))])]
abbrev tTE (x:Tm×Int):TV:= .tup [(true,cT x.1),(false,[.a (.fz (.int .i64 x.2))])]
structure OkW (K:Nat)(w:Wp):Prop where
 h:OkH w.s
 f0:0≤w.f
 f1:w.f≤3000000
 n:NmB K w.s
theorem noTE (e:Int):TV.Le (.tup [(true,[.a (.fz (.int .i64 0)), .a (.fz (.str [])), .a (.fz (.int .i64 0)), .a (.fz .N)]),(false,[.a (.fz (.int .i64 e))])]) (tTE (noT,e)):=leTE (l:=[]) z2k
theorem zhp (a b:Tm):AC Tryz.prog 246 [aT a,aT b] [] (cb (lfZ a b)) []:=by
 obtain ⟨k,s,n,l⟩:=a;obtain ⟨k',s',n',l'⟩:=b;refine AC.vc hP sh lv246 (Nat.le_refl _) (by simp) (by simp) (Eq.mpr (v246 k s n (FTs l) k' s' n' (FTs l') _ _) ?_);have e:lfZ (.mk k s n l) (.mk k' s' n' l')=(k==k'&&n==n'):=rfl;refine z01 (fun h=> ?_) (fun h=> ?_)
 · have h:(k==k')=true:=h;rw [e,h,Bool.true_and];exact ⟨.refl _,rfl⟩
 · have h:(k==k')=false:=h;rw [e,h,Bool.false_and];exact ⟨.refl _,rfl⟩
theorem z7m (n:Int):AC Tryz.prog 247 [ci n] [] (aT (bndT n)) []:=by
 refine AC.vc hP sh lv247 (Nat.le_refl _) (by simp) (by simp) (Eq.mpr (v247 ..) ?_);exact ⟨leT z2k,rfl⟩
theorem zhs (x:Sd):AC Tryz.prog 184 [aSd x] [] (cb (x.c.t==4)) []:=by
 refine AC.vc hP sh lv184 (Nat.le_refl _) (by simp) (by simp) (Eq.mpr (v184 ..) ?_);exact ⟨.refl _,rfl⟩
theorem c_hclash (x y:Sd):AC Tryz.prog 187 [aSd x,aSd y] [] (cb (ziz x y)) []:=by
 have e:ziz x y=(x.c.t !=y.c.t||x.c.a !=y.c.a||x.js.length !=y.js.length):=rfl;refine AC.vc hP sh lv187 (Nat.le_refl _) (by simp) (by simp) (Eq.mpr (v187 ..) ?_);rw [z05,z05];refine z01 (fun h=> ?_) (fun h=>z01 (fun h2=> ?_) (fun h2=>⟨rfl,rfl, ?_⟩))
 · rw [e,show (x.c.t !=y.c.t)=true from h];exact z09 rfl
 · rw [e,show (x.c.t !=y.c.t)=false from h,show (x.c.a !=y.c.a)=true from h2];exact z09 rfl
 · rw [e,show (x.c.t !=y.c.t)=false from h,show (x.c.a !=y.c.a)=false from h2];refine z09 ?_;by_cases q:x.js.length=y.js.length
   · simp [q]
   · have:(x.js.length:Int)≠(y.js.length:Int):=by omega
     rw [show ((x.js.length:Int) !=(y.js.length:Int))=true from bne_iff_ne.2 this,show (x.js.length !=y.js.length)=true from bne_iff_ne.2 q];rfl
theorem c_hLeaf (t:Tm)(hs:t.sz≤SZ):AC Tryz.prog 295 [aT t] [] (.tup [(true,cT (z4g t).1),(false,[.a (.fz (.bool (z4g t).2))])]) []:=by
 have h0:=z8m t (by simp only [SZ,B] at*;omega);have h:=fun h=>zg5 t (z6b t h) (zd1 h) hs (zco t h);have e:z4g t=if z08 t=true then (if (z0d t).k=3∨(z0d t).k=1 then (z0d t,true) else (noT,false)) else (noT,false):=rfl
 rw [e];generalize z0d t=z at*;obtain ⟨k,s,n,l⟩:=t;refine AC.vc hP sh lv295 (Nat.le_refl _) (by simp) (by simp) (Eq.mpr (v295 k s n (FTs l) _ _) ?_);refine ⟨_,h0,z01 (fun hv=> ?_) (fun hv=>⟨_,h (zku hv),z01 (fun h3=> ?_) (fun h3=>z01 (fun h1=> ?_) (fun h1=> ?_))⟩)⟩
 · rw [if_neg (by rw [not_t hv];simp)];exact ⟨leTB (l:=[]) z2k,rfl⟩
 · have h3:(z.k==3)=true:=h3;rw [if_pos (zku hv),if_pos (.inl (by simpa using h3))];exact ⟨.refl _,rfl⟩
 · have h1:(z.k==1)=true:=h1;rw [if_pos (zku hv),if_pos (.inr (by simpa using h1))];exact ⟨.refl _,rfl⟩
 · have h3:(z.k==3)=false:=h3;have h1:(z.k==1)=false:=h1;rw [if_pos (zku hv),if_neg (by simp at h3 h1;rintro (q | q)<;>contradiction)];exact ⟨leTB (l:=[]) z2k,rfl⟩
theorem zhv (K:Nat)(w:Wp)(n:Nat)(R:List (List FV))(ok:OkW K w)(a:Int):AC Tryz.prog 182 [aWk,ci a] (oWk w n R) (tSd (lookW w a).1) (oWk' (lookW w a).2 n R):=by
 have hh:=c_pHead w.s a w.f ok.h (by have:=ok.f0;omega) (by have:=ok.f1;omega)
 have e:lookW w a=if (z2g w.s a w.f).1.2.2≠0 then ((noS,(z2g w.s a w.f).1.2.2),⟨(z2g w.s a w.f).2,w.f⟩)
  else ((⟨(z2g w.s a w.f).1.1.1,(z2g w.s a w.f).1.1.2,z07 (z2g w.s a w.f).2.C (z2g w.s a w.f).1.1.1⟩,0),⟨(z2g w.s a w.f).2,(z2g w.s a w.f).1.2.1⟩):=rfl
 rw [e];generalize z2g w.s a w.f=z at*;obtain ⟨⟨⟨hd,xs⟩,zf,ze⟩,zs⟩:=z;have hc:=z3f zs hd;dsimp only at*;refine AC.vc hP sh lv182 (by simp) (by simp [isLive]) (by simp [isLive]) (Eq.mpr (v182 ..) ?_);refine ⟨(hd,xs,zf,ze,zs),hh,z0e (fun q=> ?_) (fun q=> ?_)⟩
 · rw [if_pos q];exact ⟨zbf (xs:=[(true,[.int .i64 0, .N, .int .i64 0, .int .i64 0, .int .i64 0, .int .i64 0, .int .i64 0]),(false,[.int .i64 ze])]) (ys:=[(true,[.int .i64 0, .sl false 1 (IR []), .int .i64 0, .int .i64 0, .int .i64 0, .int .i64 0, .int .i64 0]),(false,[.int .i64 ze])]) ⟨⟨rfl, .refl _, .N 1, .refl _, .refl _, .refl _, .refl _, .refl _,trivial⟩,⟨rfl, .refl _⟩,trivial⟩,rfl⟩
 · rw [if_neg (fun w=>w q)];exact ⟨_,_,_,_,_,_,hc, .refl _,rfl⟩
theorem c_wfull (K:Nat)(w:Wp)(n:Nat)(R:List (List FV))(ok:OkW K w)(a:Int):AC Tryz.prog 294 [aWk,ci a] (oWk w n R) (tTE (z2m w a).1) (oWk' (z2m w a).2 n R):=by
 have hh:=zov w.s a w.f ok.h (by have:=ok.f0;omega) (by have:=ok.f1;omega);have e:z2m w a=(((z3g w.s a w.f).1.1,(z3g w.s a w.f).1.2.2),⟨(z3g w.s a w.f).2,if (z3g w.s a w.f).1.2.2=0 then (z3g w.s a w.f).1.2.1 else w.f⟩):=rfl
 rw [e];generalize z3g w.s a w.f=z at*;obtain ⟨⟨t,zf,ze⟩,zs⟩:=z;dsimp only at*;refine AC.vc hP sh lv294 (by simp) (by simp [isLive]) (by simp [isLive]) (Eq.mpr (v294 ..) ?_);refine ⟨(t,zf,ze,zs),hh,z04 (fun q=> ?_) (fun q=> ?_)⟩
 · rw [if_pos q];exact ⟨.refl _,rfl⟩
 · rw [if_neg q];exact ⟨.refl _,rfl⟩
theorem zdx (s:Hp)(ok:OkH s)(lv:Int):AC Tryz.prog 27 [aH 0,ci lv] (oH s) (t2 (z0u s lv).1) (oH' (z0u s lv).2):=by
 have hp:=z27 s ⟨4,z0f [lv,0],0,0,0⟩ (by have:=ok.C;omega);refine AC.vc hP sh lv27 (by simp) (by simp [isLive]) (by simp [isLive]) (Eq.mpr (v27 ..) ?_);exact ⟨z0u s lv,hp, .refl _,rfl⟩
end Go.AM

set_option maxRecDepth 100000
open Go Go.Proofs
namespace Go.AM
structure Rs (K:Nat)(w:Wp)(e:Int)(v:Wp):Prop where
 h:OkH v.s
 f0:0≤v.f
 f1:v.f≤w.f
 mv:Mv true w.s v.s
 n:e=0→NmB K v.s
 m:NmB (K+1048577) v.s
theorem OkW.refl {K:Nat}{w:Wp}(h:OkW K w)(e:Int):Rs K w e w:=⟨h.h,h.f0,Int.le_refl _, .refl _,fun _=>h.n,by have:=h.n;unfold NmB at*;omega⟩
theorem Rs.ok {K:Nat}{w v:Wp}{e:Int}(h:Rs K w e v)(ok:OkW K w)(h0:e=0):OkW K v:=⟨h.h,h.f0,by have:=h.f1;have:=ok.f1;omega,h.n h0⟩
theorem Rs.trans {K:Nat}{w v u:Wp}{e d:Int}(h:Rs K w e v)(g:Rs K v d u):Rs K w d u:=⟨g.h,g.f0,by have:=h.f1;have:=g.f1;omega,h.mv.trans g.mv,g.n,g.m⟩
theorem Rs.same {K:Nat}{w v:Wp}{e d:Int}(h:Rs K w e v)(h0:d=0→e=0):Rs K w d v:=⟨h.h,h.f0,h.f1,h.mv,fun q=>h.n (h0 q),h.m⟩
theorem Mv.nm {s t:Hp}{K:Nat}(h:Mv false s t)(g:NmB K s):NmB K t:=by
 have h1:=h.N;have h2:=h.len.1;unfold NmB at*;rw [h1];omega
theorem OkW.mv {K:Nat}{w v:Wp}(ok:OkW K w)(h:Mv false w.s v.s)(f0:0≤v.f)(f1:v.f≤w.f)(e:Int):Rs K w e v:=
 ⟨h.ok ok.h,f0,f1,h.up,fun _=>h.nm ok.n,by have:=h.nm ok.n;unfold NmB at*;omega⟩
theorem z2y {K:Nat}{w:Wp}(ok:OkW K w)(a:Int):Rs K w (lookW w a).1.2 (lookW w a).2∧Mv false w.s (lookW w a).2.s∧
  ((lookW w a).1.2=0→(lookW w a).2.f+(lookW w a).1.1.js.length+1≤w.f):=by
 have g:=zit (2*w.f.toNat+2) ⟨w.s,w.f,0⟩ a (Nat.le_refl _);have hm:=headS_mv w.s a w.f ok.f0;have o:=headS_ok w.s a w.f ok.h ok.f0 (by have:=ok.f1;omega);have hf0:=ok.f0
 have key:(lookW w a).2.s=(z2g w.s a w.f).2∧((lookW w a).1.2≠0∧(lookW w a).2.f=w.f∨(lookW w a).1.2=0∧0≤(lookW w a).2.f∧(lookW w a).2.f+(lookW w a).1.1.js.length+1≤w.f):=by
  unfold lookW;split
  · rename_i q;exact ⟨rfl, .inl ⟨q,rfl⟩⟩
  · rename_i q;refine ⟨rfl, .inr ⟨rfl, ?_⟩⟩;have q:(z2g w.s a w.f).1.2.2=0:=by simpa using q
    revert q;unfold z2g;split
    · rename_i h;exact fun q=>absurd q h
    · rename_i h;intro _;have:=g.2 (by simpa using h);exact ⟨this.2,this.1⟩
 obtain ⟨k1,k2⟩:=key;have mv:Mv false w.s (lookW w a).2.s:=by rw [k1];exact hm
 rcases k2 with ⟨q,e⟩ | ⟨q,e1,e2⟩
 · exact ⟨ok.mv mv (by omega) (by omega) _,mv,fun h=>absurd h q⟩
 · exact ⟨ok.mv mv e1 (by omega) _,mv,fun _=>e2⟩
theorem zm8 (t:Tm):(if z08 t=true then z0d t else t).sz≤t.sz:=by
 split
 · rename_i h;exact (z5o t (z6b t h)).2.2.1
 · exact Nat.le_refl _
theorem ziw {K:Nat}{w:Wp}(ok:OkW K w)(a:Int):Rs K w (z2m w a).1.2 (z2m w a).2∧Mv false w.s (z2m w a).2.s∧(z2m w a).1.1.sz≤10000000:=by
 obtain ⟨hm,hnn⟩:=zka w.s a w.f ok.f0;have hf0:=ok.f0;have hf1:=ok.f1;have okr:OkR ⟨w.s,w.f,0⟩:=⟨ok.h,by dsimp only;omega,by dsimp only;omega⟩;have g:=ze2 (2*w.f.toNat+2) (w.f.toNat+1) w.f (Nat.le_refl _) (by omega) ⟨w.s,w.f,0⟩ a okr (Int.le_refl _);have sz:=zm8 (fulR (2*w.f.toNat+2) (w.f.toNat+1) ⟨w.s,w.f,0⟩ a).1
 have nn:(z3g w.s a w.f).1.2.2=0→(z3g w.s a w.f).1.2.1≤w.f:=by
  unfold z3g;split
  · rename_i h;exact fun q=>absurd q h
  · rename_i h;intro _;exact g.2.1
 have zz:(z3g w.s a w.f).1.1.sz≤10000000:=by
  have g3:=g.2.2;unfold z3g;split
  · show t0.sz≤_;decide
  · show (if _ then _ else _:Tm).sz≤_
    dsimp only at g3;omega
 have e2:(z2m w a).2.s=(z3g w.s a w.f).2:=rfl;have mv:Mv false w.s (z2m w a).2.s:=hm;refine ⟨ok.mv mv ?_ ?_ _,mv,zz⟩
 · show 0≤(if _ then _ else _:Int)
   split
   · exact hnn
   · exact hf0
 · show (if _ then _ else _:Int)≤_
   split
   · rename_i q;exact nn q
   · exact Int.le_refl _
theorem leaf_nil {k n:Int}{s:List UInt8}{l:List Tm}(h:z08 (.mk k s n l)=true)(h5:k=3∨k=1):l=[]:=by
 rw [z08] at h;rcases h5 with rfl | rfl
 · simp [z00] at h;exact h.1.2
 · simp [z00] at h;exact h.1.2
def LfZ (t:Tm):Prop:=(t.k=3∨t.k=1)∧t.l=[]∧z08 t=true
theorem leafZ_ok (t:Tm)(h:(z4g t).2=true):LfZ (z4g t).1:=by
 unfold z4g at h ⊢;split
 · rename_i hv;rw [if_pos hv] at h;split
   · rename_i q;have so:=z5o t (z6b t hv);have hvs:z08 (z0d t)=true:=by rw [z7h,so.1,so.2.1 (zd1 hv)];rfl
     refine ⟨q, ?_,hvs⟩;generalize z0d t=z at*;obtain ⟨k,s,n,l⟩:=z;exact leaf_nil hvs q
   · rename_i q;rw [if_neg q] at h;cases h
 · rename_i hv;rw [if_neg hv] at h;cases h
theorem LfZ.sz {t:Tm}(h:LfZ t):t.sz=1:=by
 obtain ⟨k,s,n,l⟩:=t;have e:l=[]:=h.2.1;rw [e];rfl
theorem z1x {K:Nat}(lv:Int):∀ (l:List Int) (out:List Tm) {w:Wp},OkW K w→(∀ t∈out,LfZ t)→Rs K w (z03 lv l out w).1.2 (z03 lv l out w).2∧Mv false w.s (z03 lv l out w).2.s∧
  (z03 lv l out w).1.1.length≤out.length+l.length∧(∀ t∈(z03 lv l out w).1.1,LfZ t)
 | [],out,w,ok,ho=>⟨ok.refl _, .refl _,by simp [z03],ho⟩
 | a::l,out,w,ok,ho=>by
  obtain ⟨h1,h2,_⟩:=ziw ok a;rw [z03];split
  · exact ⟨h1,h2,by simp,fun t ht=>by cases ht⟩
  · rename_i q;have q:(z2m w a).1.2=0:=by simpa using q
    split
    · exact ⟨h1.same (fun _=>q),h2,by simp,fun t ht=>by cases ht⟩
    · rename_i q2
      have hl:(z4g (z2m w a).1.1).2=true:=by
       cases e:(z4g (z2m w a).1.1).2 with
       | true=>rfl
       | false=>exact absurd (by unfold badZ;rw [e];rfl) q2
      have ih:=z1x lv l (out++ [(z4g (z2m w a).1.1).1]) (h1.ok ok q) (fun t ht=>by
       rcases List.mem_append.1 ht with ht | ht
       · exact ho t ht
       · rw [List.mem_singleton.1 ht];exact leafZ_ok _ hl)
      refine ⟨h1.trans ih.1,h2.trans ih.2.1, ?_,ih.2.2.2⟩;have:=ih.2.2.1;simp only [List.length_append,List.length_cons,List.length_nil] at this ⊢;omega
theorem zpk (V:Option (List Int)):∀ (l:List Tm),(∀ u∈l,∀ s,Mv true s (encE V u s).2)→∀ (f:Int) (s:Hp),Mv true s (encR V l f s).2
 | [],_,f,s=>by rw [encR];exact .refl _
 | u::l,h,f,s=>by
  have h1:=h u List.mem_cons_self s;rw [encR];split
  · exact h1
  · split
    · exact h1.put _
    · exact (h1.put _).trans (zpk V l (fun v hv=>h v (List.mem_cons_of_mem _ hv)) _ _)
theorem sym_mv (s:Hp)(nm:List UInt8):Mv true s (symS s nm).2:=by
 unfold symS;split
 · exact .refl _
 · exact .names [nm] rfl (.refl s)
theorem encE_mv (V:Option (List Int)):∀ (t:Tm) (s:Hp),Mv true s (encE V t s).2:=by
 refine Tm.ind fun t ih=> ?_;obtain ⟨k,nm,n,l⟩:=t;intro s;rw [encE];split
 · exact (sym_mv s nm).put _
 · split
   · exact (Mv.refl s).put _
   · split
     · exact (Mv.refl s).put _
     · split
       · exact (Mv.refl s).put _
       · split
         · exact .refl s
         · match l with
           | []=>rw [encL];exact .refl s
           | u::l=>
            have h1:=ih u List.mem_cons_self s;rw [encL];split
            · exact h1
            · split
              · exact h1.put _
              · exact h1.trans (zpk V l (fun v hv=>ih v (List.mem_cons_of_mem _ hv)) _ _)
theorem z8t (V:Option (List Int))(s:Hp)(t:Tm):Mv true s (encS V s t).2:=by
 by_cases h:(encS V s t).1.2=0
 · unfold encS at h ⊢;split
   · exact .refl s
   · split
     · rename_i q1 q2;rw [if_neg q1,if_pos q2] at h;exact absurd h q2
     · exact encE_mv V t s
 · obtain ⟨e,he⟩:=zp3 V s t h;rw [he];exact .names e rfl (.refl s)
theorem zb6 (V:Option (List Int)){K:Nat}{s:Hp}(t:Tm)(ok:OkH s)(g:NmB K s):((encS V s t).1.2=0→NmB K (encS V s t).2)∧NmB (K+1048577) (encS V s t).2:=by
 have gw:=z3n V t s;unfold encS;split
 · exact ⟨fun _=>g,by unfold NmB at*;dsimp only;omega⟩
 · split
   · rename_i q;refine ⟨fun h=>absurd h q, ?_⟩;have o:=(gw.1 ok).C;obtain ⟨_,d,e,h1,h2⟩:=gw;rw [if_neg q] at h2;rw [h1] at o ⊢;unfold NmB at*;simp only [List.length_append,List.length_take] at*;omega
   · rename_i q;have:=gw.nm (K:=K) (by simpa using q) g;exact ⟨fun _=>this,by unfold NmB at*;omega⟩
theorem zot {K:Nat}{w:Wp}(ok:OkW K w)(x:Int)(t:Tm):Rs K w (setW w x t).1 (setW w x t).2:=by
 have mv:=z8t none w.s t;have nm:=zb6 none t ok.h ok.n;unfold setW;split
 · rename_i q;exact ⟨mv.ok ok.h,ok.f0,Int.le_refl _,mv,nm.1,nm.2⟩
 · rename_i q;have n1:=(nm.1 (by simpa using q)).set x ⟨5,(encS none w.s t).1.1,0,0,0⟩;exact ⟨(mv.set x _).ok ok.h,ok.f0,Int.le_refl _,mv.set x _,fun _=>n1,by unfold NmB at*;dsimp only;omega⟩
theorem OkW.fresh {K:Nat}{w:Wp}(ok:OkW K w)(lv:Int):Rs K w (z0u w.s lv).1.2 ⟨(z0u w.s lv).2,w.f⟩:=by
 have mv:Mv false w.s (z0u w.s lv).2:= .put _ (.refl _);exact ok.mv (v:=⟨(z0u w.s lv).2,w.f⟩) mv ok.f0 (Int.le_refl _) _
theorem zei {K:Nat}{w:Wp}(ok:OkW K w)(x lv:Int)(lams:Nat)(on:List Tm):Rs K w (z3x w x lv lams on).1.2 (z3x w x lv lams on).2∧(z3x w x lv lams on).1.1.sz=1:=by
 have h1:=ok.fresh lv;unfold z3x;split
 · exact ⟨h1,rfl⟩
 · rename_i q;exact ⟨h1.trans (zot (h1.ok ok (by simpa using q)) x _),rfl⟩
end Go.AM

set_option maxRecDepth 100000
open Go Go.Proofs
namespace Go.AM
theorem zas (v:Iv)(t:Tm)(k:Int)(h:t.sz=1):(z4b v t k).1.sz=1:=by
 unfold z4b;split
 · exact h
 · split
   · rfl
   · exact h
def ones (l:List Tm):Prop:=∀ t:Tm,t∈l→t.sz=1
theorem z7l:∀ {l:List Tm},ones l→Tm.szs l=l.length
 | [],_=>rfl
 | t::l,h=>by
  have ih:=z7l (l:=l) fun u hu=>h u (List.mem_cons_of_mem _ hu);have:=h t List.mem_cons_self;simp only [Tm.szs,List.length_cons];omega
theorem znx (v:Iv)(k:Int):∀ (l:List Tm),ones l→ones (im1 v k l).2∧(im1 v k l).2.length≤l.length∧(im1 v k l).1.length=(im1 v k l).2.length∧ones (im1 v k l).1
 | [],_=>⟨(fun t ht=>nomatch ht),Nat.le_refl _,rfl,(fun t ht=>nomatch ht)⟩
 | t::l,h=>by
  obtain ⟨h1,h2,h3,h4⟩:=znx v k l fun u hu=>h u (List.mem_cons_of_mem _ hu);rw [im1];split
  · refine ⟨fun u hu=> ?_,by simp;omega,by simp [h3],fun u hu=> ?_⟩
    · rcases List.mem_cons.1 hu with rfl | hu
      · exact zas v _ k (h _ List.mem_cons_self)
      · exact h1 u hu
    · rcases List.mem_cons.1 hu with rfl | hu
      · rfl
      · exact h4 u hu
  · exact ⟨h1,by simp;omega,h3,h4⟩
theorem im2_ok (lv vlv k:Int):∀ (l:List Tm),ones l→ones (im2 lv vlv k l).2∧(im2 lv vlv k l).2.length≤l.length∧(im2 lv vlv k l).1.length=(im2 lv vlv k l).2.length∧ones (im2 lv vlv k l).1
 | [],_=>⟨(fun t ht=>nomatch ht),Nat.le_refl _,rfl,(fun t ht=>nomatch ht)⟩
 | t::l,h=>by
  obtain ⟨h1,h2,h3,h4⟩:=im2_ok lv vlv k l fun u hu=>h u (List.mem_cons_of_mem _ hu);rw [im2];split
  · refine ⟨fun u hu=> ?_,by simp;omega,by simp [h3],fun u hu=> ?_⟩
    · rcases List.mem_cons.1 hu with rfl | hu
      · rfl
      · exact h1 u hu
    · rcases List.mem_cons.1 hu with rfl | hu
      · exact h _ List.mem_cons_self
      · exact h4 u hu
  · exact ⟨h1,by simp;omega,h3,h4⟩
theorem zdf {a b:List Tm}(ha:ones a)(hb:ones b):ones (a++b):=fun u hu=>(List.mem_append.1 hu).elim (fun h=>ha u h) (fun h=>hb u h)
theorem flexG_ok {K:Nat}(v:Iv)(y:Sd)(k:Int){z:(List Tm×Int)×Wp}(ok:z.1.2=0→OkW K z.2)(hv:ones v.l)(hz:ones z.1.1):
  (z.1.2=0→Rs K z.2 (zag v y k z).1.2 (zag v y k z).2)∧(z.1.2≠0→(zag v y k z).1.2=z.1.2∧(zag v y k z).2=z.2)∧(zag v y k z).1.1.sz≤2+z.1.1.length+v.l.length:=by
 obtain ⟨a1,a2,a3,_⟩:=znx v k z.1.1 hz;obtain ⟨b1,b2,b3,_⟩:=im2_ok y.c.a v.lv k v.l hv;unfold zag;split
 · rename_i q;exact ⟨fun h=>absurd h q,fun _=>⟨rfl,rfl⟩,by show (noT:Tm).sz≤_;have:(noT:Tm).sz=1:=rfl;omega⟩
 · rename_i q;have q:z.1.2=0:=by simpa using q
   split
   · refine ⟨fun _=>(ok q).refl _,fun h=>absurd q h, ?_⟩;have:=z4a (.mk 4 [] y.h []) (im1 v k z.1.1).2;rw [z7l a1] at this;have e:(Tm.mk 4 [] y.h []).sz=1:=rfl;dsimp only;omega
   · have hh:=zei (ok q) y.h (z0q [v.lv,y.c.a]) z.1.1.length ((im1 v k z.1.1).1++(im2 y.c.a v.lv k v.l).1);refine ⟨fun _=>hh.1,fun h=>absurd q h, ?_⟩;have:=z4a (z3x z.2 y.h (z0q [v.lv,y.c.a]) z.1.1.length ((im1 v k z.1.1).1++(im2 y.c.a v.lv k v.l).1)).1.1 ((im1 v k z.1.1).2++(im2 y.c.a v.lv k v.l).2);rw [z7l (zdf a1 b1),List.length_append] at this;have:=hh.2;dsimp only;omega
def TrG (K:Nat)(w:Wp)(z:(Tm×Int)×Wp):Prop:=Rs K w z.1.2 z.2∧z.1.1.sz≤1+100004*(w.f-z.2.f).toNat
theorem zke {K:Nat}{F:Int→Wp→(Tm×Int)×Wp}{m:Int}(hF:∀ b w,OkW K w→w.f≤m→TrG K w (F b w)):∀ (l:List Int) (t:Tm) {w:Wp},OkW K w→w.f≤m→
  Rs K w (z7q F l t w).1.2 (z7q F l t w).2∧(z7q F l t w).1.1.sz≤t.sz+2*l.length+100004*(w.f-(z7q F l t w).2.f).toNat
 | [],t,w,ok,_=>⟨ok.refl _,by simp [z7q]⟩
 | b::l,t,w,ok,hm=>by
  obtain ⟨h1,h2⟩:=hF b w ok hm;rw [z7q];split
  · refine ⟨h1, ?_⟩;have:(noT:Tm).sz=1:=rfl;have:=t.sz_eq;dsimp only;omega
  · rename_i q;have ok1:=h1.ok ok (by simpa using q);obtain ⟨g1,g2⟩:=zke hF l (z0c t [(F b w).1.1]) ok1 (by have:=h1.f1;omega);refine ⟨h1.trans g1, ?_⟩;have:=z5q t (F b w).1.1;have:=h1.f1;have:=g1.f1;simp only [List.length_cons];omega
theorem zg6 (v:Iv)(N:List (List UInt8))(x:Sd)(k:Int):(z5g v N x k).1.sz=1:=by
 unfold z5g;split
 · rfl
 · split
   · rfl
   · split
     · exact zas _ _ _ rfl
     · exact zas _ _ _ rfl
theorem z80 {l:List Tm}(h:∀ t∈l,LfZ t):ones l:=fun t ht=>(h t ht).sz
theorem z7y {K:Nat}(v:Iv)(hv:ones v.l)(hl:v.l.length≤100000):∀ (n:Nat) (a k:Int) {w:Wp},OkW K w→w.f.toNat<n→TrG K w (z1h v n a k w)
 | 0,_,_,_,_,h=>absurd h (by omega)
 | n+1,a,k,w,ok,hn=>by
  obtain ⟨h1,_,h3⟩:=z2y ok a;have hf:=ok.f0;rw [z1h];generalize lookW w a=z at*;unfold termG;have n1:(noT:Tm).sz=1:=rfl;have f1:=h1.f1;split
  · exact ⟨h1,by dsimp only;omega⟩
  · rename_i q;have q:z.1.2=0:=by simpa using q
    have ok1:=h1.ok ok q;have h3:=h3 q;have f2:=h1.f0;split
    · obtain ⟨g1,g2⟩:=z7y v hv hl n z.1.1.c.a (k+1) ok1 (by omega);refine ⟨h1.trans g1, ?_⟩;have:=g1.f1;have e:(z2n 1 (z1h v n z.1.1.c.a (k+1) z.2).1.1).sz=1+(z1h v n z.1.1.c.a (k+1) z.2).1.1.sz:=by simp only [z2n,Tm.sz,Tm.szs];omega
      dsimp only;rw [e];omega
    · split
      · split
        · exact ⟨h1.same fun _=>q,by dsimp only;omega⟩
        · obtain ⟨l1,_,l3,l4⟩:=z1x (K:=K) z.1.1.c.a z.1.1.js [] ok1 (fun t ht=>by cases ht);simp only [List.length_nil] at l3;have g:=flexG_ok (K:=K) v z.1.1 k (z:=z03 z.1.1.c.a z.1.1.js [] z.2) (fun h=>l1.ok ok1 h) hv (z80 l4);unfold zbj;generalize z03 z.1.1.c.a z.1.1.js [] z.2=y at*
          have rs:Rs K z.2 (zag v z.1.1 k y).1.2 (zag v z.1.1 k y).2:=by
           by_cases e:y.1.2=0
           · exact l1.trans (g.1 e)
           · rw [(g.2.1 e).1,(g.2.1 e).2];exact l1
          refine ⟨h1.trans rs, ?_⟩;have:=rs.f1;have:=g.2.2;omega
      · split
        · exact ⟨h1.same fun _=>q,by dsimp only;omega⟩
        · obtain ⟨g1,g2⟩:=zke (K:=K) (F:=fun b w=>z1h v n b k w) (m:=z.2.f) (fun b w o hm=>z7y v hv hl n b k o (by have:=o.f0;omega)) z.1.1.js (z5g v z.2.s.N z.1.1 k).1 ok1 (Int.le_refl _);refine ⟨h1.trans g1, ?_⟩;rw [zg6] at g2;have:=g1.f1;omega
theorem bindG_ok {K:Nat}(x:Sd)(a:Int){z:(List Tm×Int)×Wp}(ok:z.1.2=0→OkW K z.2)(hz:ones z.1.1)(hl:z.1.1.length≤100000):
  (z.1.2=0→Rs K z.2 (zfz x a z).1 (zfz x a z).2)∧(z.1.2≠0→(zfz x a z).1=z.1.2∧(zfz x a z).2=z.2):=by
 unfold zfz;split
 · rename_i q;exact ⟨fun h=>absurd h q,fun _=>⟨rfl,rfl⟩⟩
 · rename_i q;have q:z.1.2=0:=by simpa using q
   have t:=z7y ⟨x.h,x.c.a,z.1.1⟩ hz hl (z.2.f.toNat+1) a 0 (ok q) (by omega);split
   · exact ⟨fun _=>t.1,fun h=>absurd q h⟩
   · rename_i q2;exact ⟨fun _=>t.1.trans (zot (t.1.ok (ok q) (by simpa using q2)) _ _),fun h=>absurd q h⟩
theorem ziy {K:Nat}{w:Wp}(ok:OkW K w)(x:Sd)(a:Int)(hl:x.js.length≤100000):Rs K w (z4s w x a).1 (z4s w x a).2:=by
 obtain ⟨l1,_,l3,l4⟩:=z1x (K:=K) x.c.a x.js [] ok (fun t ht=>by cases ht);simp only [List.length_nil] at l3;have g:=bindG_ok (K:=K) x a (z:=z03 x.c.a x.js [] w) (fun h=>l1.ok ok h) (z80 l4) (by omega);unfold z4s;by_cases e:(z03 x.c.a x.js [] w).1.2=0
 · exact l1.trans (g.1 e)
 · rw [(g.2 e).1,(g.2 e).2];exact l1
theorem zob {K:Nat}{w:Wp}(ok:OkW K w)(x y:Sd):Rs K w (z5l w x y).1 (z5l w x y).2:=by
 obtain ⟨a1,_,_,_⟩:=z1x (K:=K) x.c.a x.js [] ok (fun t ht=>by cases ht);unfold z5l;generalize z03 x.c.a x.js [] w=z at*;split
 · exact a1
 · rename_i q;have q:z.1.2=0:=by simpa using q
   have ok1:=a1.ok ok q;obtain ⟨b1,_,_,_⟩:=z1x (K:=K) y.c.a y.js [] ok1 (fun t ht=>by cases ht);generalize z03 y.c.a y.js [] z.2=u at*;split
   · exact a1.trans b1
   · rename_i q2;have q2:u.1.2=0:=by simpa using q2
     split
     · exact a1.trans (b1.same fun _=>q2)
     · split
       · exact a1.trans (b1.same fun _=>q2)
       · exact a1.trans (b1.trans (zei (b1.ok ok1 q2) _ _ _ _).1)
theorem zdd {K:Nat}{w:Wp}(ok:OkW K w)(x:Sd)(a:Int):Rs K w (z3j w x a).1.2 (z3j w x a).2:=by
 have hm:=zjn w.s a 1;unfold z3j;split
 · exact ok.refl _
 · split
   · exact ok.mv (v:=⟨(z2a w.s a 1).2,w.f⟩) hm ok.f0 (Int.le_refl _) _
   · split
     · exact ok.mv (v:=⟨(putS (z2a w.s a 1).2 ⟨3,0,0,0,0⟩).2,w.f⟩) (hm.put _) ok.f0 (Int.le_refl _) _
     · exact ok.mv (v:=⟨_,w.f⟩) ((hm.put _).put _) ok.f0 (Int.le_refl _) _
theorem zpd {K:Nat}{w:Wp}(ok:OkW K w)(x y:Sd)(p:Int×Int):Rs K w (z9b w x y p).1.1 (z9b w x y p).2∧(z9b w x y p).1.2.length≤1:=by
 have h1:=zdd ok x p.1;unfold z9b;split
 · exact ⟨h1,Nat.zero_le _⟩
 · rename_i q;have q:(z3j w x p.1).1.2=0:=by simpa using q
   have h2:=zdd (h1.ok ok q) y p.2;split
   · exact ⟨h1.trans h2,Nat.zero_le _⟩
   · rename_i q2;exact ⟨h1.trans (h2.same fun _=>by simpa using q2),Nat.le_refl _⟩
theorem zmy {K:Nat}{w:Wp}(ok:OkW K w)(p:Int×Int)(j1:(lookW w p.1).1.1.js.length≤100000)(j2:(lookW (lookW w p.1).2 p.2).1.1.js.length≤100000):Rs K w (oneW w p).1.1 (oneW w p).2∧((oneW w p).1.1=0→(oneW w p).1.2.length+(oneW w p).2.f≤w.f):=by
 obtain ⟨h1,_,h3⟩:=z2y ok p.1;unfold oneW;split
 · rename_i q;exact ⟨h1,fun h=>absurd h q⟩
 · rename_i q;have q:(lookW w p.1).1.2=0:=by simpa using q
   have ok1:=h1.ok ok q;have h3:=h3 q;obtain ⟨g1,_,g3⟩:=z2y ok1 p.2;generalize lookW w p.1=z at*;generalize lookW z.2 p.2=u at*;split
   · rename_i q2;exact ⟨h1.trans g1,fun h=>absurd h q2⟩
   · rename_i q2;have q2:u.1.2=0:=by simpa using q2
     have ok2:=g1.ok ok1 q2;have g3:=g3 q2;have b:=(h1.trans g1);have f1:=g1.f1;have f0:=g1.f0;unfold oneG;split
     · have r:=zpd ok2 z.1.1 u.1.1 p;exact ⟨b.trans r.1,fun _=>by have:=r.2;have:=r.1.f1;omega⟩
     · split
       · have r:=zob ok2 z.1.1 u.1.1;exact ⟨b.trans r,fun _=>by have:=r.f1;simp only [List.length_nil];omega⟩
       · split
         · have r:=ziy ok2 z.1.1 p.2 (by omega);exact ⟨b.trans r,fun _=>by have:=r.f1;simp only [List.length_nil];omega⟩
         · split
           · have r:=ziy ok2 u.1.1 p.1 (by omega);exact ⟨b.trans r,fun _=>by have:=r.f1;simp only [List.length_nil];omega⟩
           · split
             · exact ⟨b.same fun _=>q2,fun h=>by cases h⟩
             · refine ⟨b.same fun _=>q2,fun _=> ?_⟩;simp only [List.length_zip];omega
theorem z7f {K:Nat}{w:Wp}(ok:OkW K w)(a:Int)(h:w.f≤100000):(lookW w a).1.1.js.length≤100000:=by
 obtain ⟨h1,_,h3⟩:=z2y ok a;by_cases q:(lookW w a).1.2=0
 · have:=h3 q;have:=h1.f0;omega
 · unfold lookW at q ⊢;split
   · exact Nat.zero_le _
   · rename_i q2;rw [if_neg q2] at q;exact absurd rfl q
theorem zj4 {K:Nat}{w:Wp}(ok:OkW K w)(p:Int×Int)(h:w.f≤100000):Rs K w (oneW w p).1.1 (oneW w p).2∧((oneW w p).1.1=0→(oneW w p).1.2.length+(oneW w p).2.f≤w.f):=by
 by_cases q:(lookW w p.1).1.2=0
 · have h1:=(z2y ok p.1).1;exact zmy ok p (z7f ok p.1 h) (z7f (h1.ok ok q) p.2 (by have:=h1.f1;omega))
 · have e:oneW w p=(((lookW w p.1).1.2,[]),(lookW w p.1).2):=by unfold oneW;rw [if_pos q]
   rw [e];exact ⟨(z2y ok p.1).1,fun h=>absurd h q⟩
theorem zi1 {K:Nat}:∀ (n:Nat) {w:Wp} (st:List (Int×Int)),OkW K w→w.f≤100000→Rs K w (runZ n w st).1 (runZ n w st).2
 | n,w,[],ok,_=>by
  have e:runZ n w []=(0,w):=by cases n<;>rfl
  rw [e];exact ok.refl _
 | 0,w,p::st,ok,_=>ok.refl _
 | n+1,w,p::st,ok,hf=>by
  rw [runZ];split
  · exact ok.refl _
  · rename_i q;have ok1:OkW K ⟨w.s,w.f-1⟩:=⟨ok.h,by have:=ok.f0;dsimp only;omega,by have:=ok.f1;dsimp only;omega,ok.n⟩;have h1:=(zj4 ok1 p (by dsimp only;omega)).1;have up:∀ {e:Int} {v:Wp},Rs K ⟨w.s,w.f-1⟩ e v→Rs K w e v:=fun r=>⟨r.h,r.f0,by have:=r.f1;dsimp only at this;omega,r.mv,r.n,r.m⟩;split
    · exact up h1
    · rename_i q2;have:=h1.f1;dsimp only at this;exact up (h1.trans (zi1 n _ (h1.ok ok1 (by simpa using q2)) (by omega)))
end Go.AM

set_option maxRecDepth 100000
open Go Go.Proofs
namespace Go.AM
def ixQ (p:Tm→Bool):List Tm→Nat→Int
 | [],_=> -1
 | t::l,i=>if p t=true then (i:Int) else ixQ p l (i+1)
theorem zms (p:Tm→Bool):∀ (l:List Tm) (i:Nat),decide (ixQ p l i≥0)=l.any p
 | [],_=>rfl
 | t::l,i=>by
  rw [ixQ,List.any_cons];split
  · rename_i h;rw [h];simp
  · rename_i h;rw [zms p l,show p t=false by simpa using h,Bool.false_or]
abbrev obQ (t:Tm):AObj:= .arr 4 [cT t]
theorem zlj (a o:Tm):AC Tryz.prog 296 [aT a, .c (.a (.ep 0 4 0 0))] [obQ o] (cb (lfZ a o)) [obQ o]:=by
 have h:=zhp a o;obtain ⟨k,s,n,l⟩:=a;obtain ⟨k',s',n',l'⟩:=o;refine AC.vc hP sh lv296 (Nat.le_refl _) (by simp [isLive]) (by simp) (Eq.mpr (v296 k s n (FTs l) k' s' n' (FTs l') _ _) ?_);exact ⟨_,h, .refl _,rfl⟩
theorem l_ixQ (o:Tm)(b:List Tm):∀ a:List Tm,(a++b).length≤B→
  RPt Tryz.prog 141 2 (ci (ixQ (fun u=>lfZ u o) b a.length)) [.arz 4 (FTs (a++b)),obQ o] 1 ⟨[(0, .c (.a (.osl 0 4 0 (a++b).length))),(1, .c (.fn (.func 296) [] [(false,[.ep 1 4 0 0])])),(7,ci ((a++b).length:Int)),(8,ci (a.length:Int))],[(0, .arz 4 (FTs (a++b))),(1,obQ o)],2⟩:=by
 induction b with
 | nil=>
  intro a hs;obtain ⟨ok,os,on,ol⟩:=o;refine RPt.vc hP sh z83 (Eq.mpr (z5f ..) ?_);exact z01 (fun h=>absurd (of_decide_eq_true h) (by simp)) (fun _=>⟨.refl _,rfl⟩)
 | cons t b ihb=>
  intro a hs;have h3:=ltI' a t b;have h1:=zlj t o;have h2:=ihb (a++ [t]) (by simpa using hs);rw [List.append_assoc,List.singleton_append,show (((a++ [t]).length:Nat):Int)=(a.length:Int)+1 by simp,show (a++ [t]).length=a.length+1 by simp] at h2;rw [ixQ];simp only [List.length_append,List.length_cons,B] at hs;have h4:(a.length:Int)<((a++t::b).length:Int):=by simp only [List.length_append,List.length_cons];omega
  have em:=zc5 a t b;obtain ⟨ok,os,on,ol⟩:=o;refine RPt.vc hP sh z83 (Eq.mpr (z5f ..) ?_);rw [w64 (by omega) (by omega)];refine z01 (fun _=>⟨by simp only [List.length_append,List.length_cons];omega,⟨by rw [Nat.zero_add];omega,by rw [Nat.zero_add,em,midI,List.drop_zero,List.take_of_length_le (by rw [z7o];exact Nat.le_refl _)],rfl⟩,lfZ t (.mk ok os on ol),by rw [Nat.zero_add,zg];exact h1,z01 (fun h=> ?_) (fun h=> ?_)⟩) (fun h=>absurd h4 (of_decide_eq_false h))
  · rw [if_pos h];exact ⟨.refl _,rfl⟩
  · rw [if_neg (by rw [h];simp)];exact h2
theorem c_anyQ (o:Tm)(l:List Tm)(hl:l.length≤B):AC Tryz.prog 85 [.c (.a (.osl 0 4 0 l.length)), .c (.fn (.func 296) [] [(false,[.ep 1 4 0 0])])] [.arz 4 (FTs l),obQ o] (cb (l.any fun u=>lfZ u o)) [.arz 4 (FTs l),obQ o]:=by
 have h:AC Tryz.prog 141 [.c (.a (.osl 0 4 0 l.length)), .c (.fn (.func 296) [] [(false,[.ep 1 4 0 0])])] [.arz 4 (FTs l),obQ o] (ci (ixQ (fun u=>lfZ u o) l 0)) [.arz 4 (FTs l),obQ o]:=by
  have:=l_ixQ o l [] hl;obtain ⟨ok,os,on,ol⟩:=o;refine AC.vc hP sh z83 (Nat.le_refl _) (by simp [isLive]) (by simp) (Eq.mpr (zft ..) ?_);exact this
 have e:=zms (fun u=>lfZ u o) l 0;obtain ⟨ok,os,on,ol⟩:=o;refine AC.vc hP sh lv85 (Nat.le_refl _) (by simp [isLive]) (by simp) (Eq.mpr (zii ..) ?_);exact ⟨_,h,by rw [←e];exact .refl _,rfl⟩
theorem c_anyQN (o:Tm):AC Tryz.prog 85 [.c (.a (.fz .N)), .c (.fn (.func 296) [] [(false,[.ep 0 4 0 0])])] [obQ o] (cb false) [obQ o]:=by
 have hh:AC Tryz.prog 85 [aL [], .c (.fn (.func 296) [] [(false,[.ep 0 4 0 0])])] [obQ o] (cb false) [obQ o]:=by
  have h:AC Tryz.prog 141 [aL [], .c (.fn (.func 296) [] [(false,[.ep 0 4 0 0])])] [obQ o] (ci (-1)) [obQ o]:=by
   obtain ⟨ok,os,on,ol⟩:=o;refine AC.vc hP sh z83 (Nat.le_refl _) (by simp [isLive]) (by simp) (Eq.mpr (znp ..) ?_);refine ⟨rfl,RPt.vc hP sh z83 (Eq.mpr (zg1 ..) ?_)⟩;exact z01 (fun h=>absurd (of_decide_eq_true h) (by simp [FTs])) (fun _=>⟨.refl _,rfl⟩)
  obtain ⟨ok,os,on,ol⟩:=o;refine AC.vc hP sh lv85 (Nat.le_refl _) (by simp [isLive]) (by simp) (Eq.mpr (v85_F296 ..) ?_);exact ⟨_,h, .refl _,rfl⟩
 exact hh.args ⟨.c _ _ (.a _ _ (.fz _ _ z2k)), .refl _,trivial⟩
abbrev tLs (x:List Tm×Int):TV:= .tup [(false,[.a (.fz (.sl false 4 (FTs x.1)))]),(false,[.a (.fz (.int .i64 x.2))])]
theorem leLs (e:Int):TV.Le (.tup [(false,[.a (.fz .N)]),(false,[.a (.fz (.int .i64 e))])]) (tLs ([],e)):=
 zbf (xs:=[(false,[.N]),(false,[.int .i64 e])]) (ys:=[(false,[.sl false 4 (FTs [])]),(false,[.int .i64 e])]) ⟨⟨rfl,z2k,trivial⟩,⟨rfl, .refl _⟩,trivial⟩
abbrev wkH (w:Wp)(n:Nat)(R:List (List FV)):AHeap:=[(0,wk3 1 10 w.f n),(1,hp6 7 8 9 5 w.s),(2, .gone),(3, .gone),(4, .gone),(5, .mapz (NM w.s.N 0)),(6, .gone),(7, .arz 5 (CR w.s.C)),(8, .arz 7 (TR w.s.T)),(9, .arz 1 (NR w.s.N)),(10, .arz 2 R)]
abbrev aIs (l:List Int):TV:= .c (.a (.fz (.sl false 1 (IR l))))
abbrev stLv (lv:Int)(l:List Int)(out:List Tm)(w:Wp)(n:Nat)(R:List (List FV))(i:Int):St:=
 if out=[] then ⟨[(0,aWk),(1,ci lv),(8, .c (.a (.fz .N))),(16,aIs l),(17,ci (l.length:Int)),(18,ci i)],wkH w n R,11⟩
 else ⟨[(0,aWk),(1,ci lv),(8, .c (.a (.osl 11 4 0 out.length))),(16,aIs l),(17,ci (l.length:Int)),(18,ci i)],wkH w n R++ [(11, .arz 4 (FTs out))],12⟩
theorem zj7 (a:List Int)(x:Int)(b:List Int):List.getD (IR (a++x::b)) (Int.toNat (a.length:Int)) []=[.int .i64 x]:=by rw [Int.toNat_natCast];exact zee a x b
theorem IR_lt (a:List Int)(x:Int)(b:List Int):(a.length:Int)<(((IR (a++x::b)).length:Nat):Int):=by rw [z05];simp;omega
theorem z41 {α:Type}(l:List α)(a:α):l++ [a] ≠ []:=by simp
theorem zf2 (K:Nat)(lv:Int)(n:Nat)(R:List (List FV))(l0:List Int)(hl0:l0.length≤1000000000):∀ (b pre:List Int) (out:List Tm) (w:Wp),l0=pre++b→out.length≤pre.length→OkW K w→
  RPt Tryz.prog 245 7 (tLs (z03 lv b out w).1) (oWk' (z03 lv b out w).2 n R) 1 (stLv lv l0 out w n R (pre.length:Int))
 | [],pre,out,w,hl,_,ok=>by
  rw [List.append_nil] at hl;subst hl;unfold stLv;by_cases hn:out=[]
  · subst hn;rw [if_pos rfl];refine RPt.vc hP sh zfe (Eq.mpr (zpj ..) ?_);exact z01 (fun h=>absurd (of_decide_eq_true h) (by omega)) (fun _=>⟨leLs 0,rfl⟩)
  · rw [if_neg hn];refine RPt.vc hP sh zfe (Eq.mpr (zn9 ..) ?_);refine z01 (fun h=>absurd (of_decide_eq_true h) (by omega)) (fun _=>⟨⟨rfl,by rw [z00];omega⟩, ?_,rfl⟩);rw [List.drop_zero,List.take_of_length_le (by rw [z00];exact Nat.le_refl _)];exact .refl _
 | a::b,pre,out,w,hl,ho,ok=>by
  have hF:=c_wfull K w n R ok a;obtain ⟨g1,_,g3⟩:=ziw ok a
  have eA:z03 lv (a::b) out w=if (z2m w a).1.2≠0 then (([],(z2m w a).1.2),(z2m w a).2)
   else if badZ lv out (z2m w a).1.1=true then (([],171),(z2m w a).2) else z03 lv b (out++ [(z4g (z2m w a).1.1).1]) (z2m w a).2:=rfl
  have hm:List.getD (IR l0) (Int.toNat (pre.length:Int)) []=[.int .i64 a]:=by rw [hl];exact zj7 pre a b
  have h3:(pre.length:Int)<(((IR l0).length:Nat):Int):=by rw [hl];exact IR_lt pre a b
  have h4:(pre.length:Int)<((l0.length:Nat):Int):=by rw [z05] at h3;exact h3
  have next:=fun (o:List Tm) (v:Wp) (h1:o.length≤pre.length+1) (h2:OkW K v)=>zf2 K lv n R l0 hl0 b (pre++ [a]) o v (by rw [hl];simp) (by simpa using h1) h2;rw [show (((pre++ [a]).length:Nat):Int)=(pre.length:Int)+1 by simp] at next;rw [eA];have okn:=fun h=>g1.ok ok h;generalize z2m w a=z at*;obtain ⟨⟨t,e⟩,v⟩:=z;dsimp only at hF g3 okn ⊢;have hleaf:=c_hLeaf t (by simp only [SZ];omega);have eb:badZ lv out t=(!(z4g t).2||((z4g t).1.k==1&&decide ((z4g t).1.n≤lv))||out.any fun x=>lfZ x (z4g t).1):=rfl;generalize z4g t=y at*;obtain ⟨y1,y2⟩:=y;dsimp only at hleaf eb ⊢;have hany:=c_anyQ y1 out (by simp only [B];omega);have hnil:=c_anyQN y1;unfold stLv at next ⊢;have i1:e≠0→(if e≠0 then (([],e),v) else if badZ lv out t=true then (([],171),v) else z03 lv b (out++ [y1]) v)=(([],e),v):=fun h=>if_pos h
  have i2:e=0→badZ lv out t=true→(if e≠0 then (([],e),v) else if badZ lv out t=true then (([],171),v) else z03 lv b (out++ [y1]) v)=(([],171),v):=fun h g=>by rw [if_neg (fun w=>w h),if_pos g]
  have i3:e=0→badZ lv out t=false→(if e≠0 then (([],e),v) else if badZ lv out t=true then (([],171),v) else z03 lv b (out++ [y1]) v)=z03 lv b (out++ [y1]) v:=fun h g=>by rw [if_neg (fun w=>w h),if_neg (by rw [g];simp)]
  generalize (if e≠0 then (([],e),v) else if badZ lv out t=true then (([],171),v) else z03 lv b (out++ [y1]) v)=Z at*
  have take:e=0→badZ lv out t=false→RPt Tryz.prog 245 7 (tLs Z.1) (oWk' Z.2 n R) 1
    ⟨[(0,aWk),(1,ci lv),(8, .c (.a (.osl 11 4 0 (out.length+1)))),(16,aIs l0),(17,ci (l0.length:Int)),(18,ci ((pre.length:Int)+1))],wkH v n R++ [(11, .arz 4 (FTs out++ [FT4 y1]))],12⟩:=fun h0 h=>by
   have:=next (out++ [y1]) v (by simp;omega) (okn h0);rw [if_neg (z41 _ _),z1y,List.length_append] at this;rw [i3 h0 h,z4f];exact this
  have bad:e=0→badZ lv out t=true→TV.Le (.tup [(false,[.a (.fz .N)]),(false,[.a (.fz (.int .i64 171))])]) (tLs Z.1)∧oWk' v n R=oWk' Z.2 n R:=fun h0 h=>by
   rw [i2 h0 h];exact ⟨leLs 171,rfl⟩
  by_cases hn:out=[]
  · subst hn;rw [if_pos rfl];refine RPt.vc hP sh zfe (Eq.mpr (zpj ..) ?_);rw [hm,w64 (x:=(pre.length:Int)+1) (by omega) (by omega)];have hnb:(([]:List Tm).any fun x=>lfZ x y1)=false:=rfl;refine z01 (fun _=>⟨⟨rfl,by omega,h3,rfl⟩,(t,e,⟨v.s,v.f,n,R⟩),hF,z0e (fun q=> ?_) (fun q=>⟨(y1,y2),hleaf,z04 (fun k1=>z01 (fun b2=>bad q ?_) (fun b2=>z01 (fun b3=>bad q ?_) (fun b3=>⟨false,hnil,z01 (fun h=>by cases h) (fun _=>⟨Nat.le_refl _,z4p (by omega),take q ?_⟩)⟩))) (fun k1=>z01 (fun b2=>bad q ?_) (fun b2=>⟨false,hnil,z01 (fun h=>by cases h) (fun _=>⟨Nat.le_refl _,z4p (by omega),take q ?_⟩)⟩))⟩)⟩) (fun h=>absurd h4 (of_decide_eq_false h))
    · rw [i1 q];exact ⟨leLs e,rfl⟩
    · have b2:(!y2)=true:=b2;rw [eb,b2];rfl
    · have b3:decide (y1.n≤lv)=true:=b3;have k1:y1.k=1:=k1;rw [eb,b3,k1];simp
    · have b2:(!y2)=false:=b2;have b3:decide (y1.n≤lv)=false:=b3;rw [eb,b2,b3,hnb,Bool.and_false];rfl
    · have b2:(!y2)=true:=b2;rw [eb,b2];rfl
    · have b2:(!y2)=false:=b2;have k1:¬y1.k=1:=k1;rw [eb,b2,hnb,show (y1.k==1)=false by simpa using k1];rfl
  · rw [if_neg hn];refine RPt.vc hP sh zfe (Eq.mpr (zn9 ..) ?_);rw [hm,w64 (x:=(pre.length:Int)+1) (by omega) (by omega),List.take_of_length_le (l:=FTs out) (by rw [z00];exact Nat.le_refl _)];have room:out.length≤(FTs out).length∧z0b (out.length+1) 56:=⟨by rw [z00];exact Nat.le_refl _,z4p (by omega)⟩;refine z01 (fun _=>⟨⟨rfl,by omega,h3,rfl⟩,(t,e,⟨v.s,v.f,n,R⟩),hF,z0e (fun q=> ?_) (fun q=>⟨(y1,y2),hleaf,z04 (fun k1=>z01 (fun b2=>bad q ?_) (fun b2=>z01 (fun b3=>bad q ?_) (fun b3=>⟨_,hany,z01 (fun h=>bad q ?_) (fun h=>⟨Nat.le_refl _,room,take q ?_⟩)⟩))) (fun k1=>z01 (fun b2=>bad q ?_) (fun b2=>⟨_,hany,z01 (fun h=>bad q ?_) (fun h=>⟨Nat.le_refl _,room,take q ?_⟩)⟩))⟩)⟩) (fun h=>absurd h4 (of_decide_eq_false h))
    · rw [i1 q];exact ⟨leLs e,rfl⟩
    · have b2:(!y2)=true:=b2;rw [eb,b2];rfl
    · have b3:decide (y1.n≤lv)=true:=b3;have k1:y1.k=1:=k1;rw [eb,b3,k1];simp
    · rw [eb,h,Bool.or_true]
    · have b2:(!y2)=false:=b2;have b3:decide (y1.n≤lv)=false:=b3;rw [eb,b2,b3,h,Bool.and_false];rfl
    · have b2:(!y2)=true:=b2;rw [eb,b2];rfl
    · rw [eb,h,Bool.or_true]
    · have b2:(!y2)=false:=b2;have k1:¬y1.k=1:=k1;rw [eb,b2,h,show (y1.k==1)=false by simpa using k1];rfl
theorem z7s (K:Nat)(lv:Int)(n:Nat)(R:List (List FV))(l:List Int)(hl:l.length≤1000000000)(w:Wp)(ok:OkW K w):AC Tryz.prog 245 [aWk,ci lv,aIs l] (oWk w n R) (tLs (z03 lv l [] w).1) (oWk' (z03 lv l [] w).2 n R):=by
 have h:=zf2 K lv n R l hl l [] [] w rfl (Nat.le_refl _) ok;refine AC.vc hP sh zfe (by simp) (by simp [isLive]) (by simp [isLive]) (Eq.mpr (v245 ..) ?_);rw [z05];exact ⟨rfl,h⟩
theorem c_wset (K:Nat)(hK:K≤1000000000)(w:Wp)(n:Nat)(R:List (List FV))(ok:OkW K w)(x:Int)(t:Tm)(hz:t.sz≤B):AC Tryz.prog 250 [aWk,ci x,aT t] (oWk w n R) (ci (setW w x t).1) (oWk' (setW w x t).2 n R):=by
 have hE:=zom K hK t hz w.s ok.h ok.n;have mv:=z8t none w.s t
 have e0:setW w x t=if (encS none w.s t).1.2≠0 then ((encS none w.s t).1.2,⟨(encS none w.s t).2,w.f⟩)
  else ((setS (encS none w.s t).2 x ⟨5,(encS none w.s t).1.1,0,0,0⟩).1,⟨(setS (encS none w.s t).2 x ⟨5,(encS none w.s t).1.1,0,0,0⟩).2,w.f⟩):=rfl
 rw [e0];generalize encS none w.s t=z at*;have hs:=c_hset z.2 x ⟨5,z.1.1,0,0,0⟩ (by have:=(mv.ok ok.h).T;omega);obtain ⟨k,s,m,l⟩:=t;refine AC.vc hP sh lv250 (by simp) (by simp [isLive]) (by simp [isLive]) (Eq.mpr (v250 x k s m (FTs l) ..) ?_);refine ⟨z,hE,z0e (fun q=> ?_) (fun q=> ?_)⟩
 · rw [if_pos q];exact ⟨.refl _,rfl⟩
 · rw [if_neg (fun w=>w q)];exact ⟨_,hs, .refl _,rfl⟩
theorem zae:∀ (n:Nat) (f:Tm),(z2n n f).sz=n+f.sz
 | 0,f=>by rw [z2n];omega
 | n+1,f=>by
  rw [z2n,zae n];simp only [Tm.sz,Tm.szs];omega
theorem znt (K:Nat)(hK:K≤1000000000)(w:Wp)(n:Nat)(R:List (List FV))(ok:OkW K w)(x lv:Int)(lams:Nat)(on:List Tm)(hl:lams≤1000000000)(hz:Tm.szs on≤1000000000):AC Tryz.prog 248 [aWk,ci x,ci lv,ci (lams:Int),aL on] (oWk w n R) (tTE (z3x w x lv lams on).1) (oWk' (z3x w x lv lams on).2 n R):=by
 have hf:=zdx w.s ok.h lv;have f1:=ok.fresh lv
 have e0:z3x w x lv lams on=if (z0u w.s lv).1.2≠0 then ((noT,(z0u w.s lv).1.2),⟨(z0u w.s lv).2,w.f⟩)
  else ((.mk 4 [] (z0u w.s lv).1.1 [],(setW ⟨(z0u w.s lv).2,w.f⟩ x (z2n lams (z0c (.mk 4 [] (z0u w.s lv).1.1 []) on))).1),(setW ⟨(z0u w.s lv).2,w.f⟩ x (z2n lams (z0c (.mk 4 [] (z0u w.s lv).1.1 []) on))).2):=rfl
 rw [e0];have okn:=fun h=>f1.ok ok h;generalize z0u w.s lv=z at*;obtain ⟨⟨a,e⟩,zs⟩:=z;dsimp only at*;have hon:=Tm.szs_length on;have ha:=(z3p (.mk 4 [] a []) on (by simp only [Tm.l,List.length_nil];omega)).args (args:=[.agg [.a (.fz (.int .i64 4)), .a (.fz (.str [])), .a (.fz (.int .i64 a)), .a (.fz .N)],aL on]) ⟨leT z2k, .refl _,trivial⟩;have hl2:=zap lams (z0c (.mk 4 [] a []) on) (by omega);have hsz:=z4a (.mk 4 [] a []) on;have e1:(Tm.mk 4 [] a []).sz=1:=rfl;have hset:=fun h=>c_wset K hK ⟨zs,w.f⟩ n R (okn h) x (z2n lams (z0c (.mk 4 [] a []) on)) (by rw [zae];simp only [B];omega);refine AC.vc hP sh lv248 (by simp) (by simp [isLive]) (by simp [isLive]) (Eq.mpr (v248 x lv (lams:Int) (FTs on) ..) ?_);refine ⟨(a,e,zs),hf,z0e (fun q=> ?_) (fun q=> ?_)⟩
 · rw [if_pos q];exact ⟨noTE e,rfl⟩
 · rw [if_neg (fun w=>w q)];exact ⟨_,ha,_,hl2,((setW ⟨zs,w.f⟩ x (z2n lams (z0c (.mk 4 [] a []) on))).1,⟨(setW ⟨zs,w.f⟩ x (z2n lams (z0c (.mk 4 [] a []) on))).2.s,(setW ⟨zs,w.f⟩ x (z2n lams (z0c (.mk 4 [] a []) on))).2.f,n,R⟩),hset q,leTE (l:=[]) z2k,rfl⟩
end Go.AM

set_option maxRecDepth 100000
open Go Go.Proofs
namespace Go.AM
abbrev aIv (v:Iv):TV:= .agg [.a (.ep 0 3 0 0), .a (.fz (.int .i64 v.x)), .a (.fz (.int .i64 v.lv)), .a (.fz (.sl false 4 (FTs v.l)))]
abbrev obIv (v:Iv):AObj:= .arr 4 [[.a (.ep 0 3 0 0), .a (.fz (.int .i64 v.x)), .a (.fz (.int .i64 v.lv)), .a (.fz (.sl false 4 (FTs v.l)))]]
abbrev zT4:AObj:= .arr 4 [[.a (.fz (.int .i64 0)), .a (.fz (.str [])), .a (.fz (.int .i64 0)), .a (.fz .N)]]
abbrev tTB (x:Tm×Bool):TV:= .tup [(true,cT x.1),(false,[.a (.fz (.bool x.2))])]
abbrev wkI (w:Wp)(n:Nat)(R:List (List FV)):AHeap:=[(0,wk3 1 6 w.f n),(1,hp6 2 3 4 5 w.s),(2, .arz 5 (CR w.s.C)),(3, .arz 7 (TR w.s.T)),(4, .arz 1 (NR w.s.N)),(5, .mapz (NM w.s.N 0)),(6, .arz 2 R)]
def zlb (v:Iv)(t out:Tm)(k:Int)(b:List Tm):Tm×Bool:=
 match ixZ out b with
 | some r=>(bndT (k+r),true)
 | none=>(t,t.k==1&&decide (t.n≤v.lv))
theorem zjx (v:Iv)(t out:Tm)(k:Int)(w:Wp)(n:Nat)(R:List (List FV))(hk0:0≤k)(hk1:k≤1000000000)(hl:v.l.length≤1000000000):∀ (b pre:List Tm),v.l=pre++b→
  RPt Tryz.prog 330 7 (tTB (zlb v t out k b)) (oWk w n R) 1 ⟨[(2,ci k),(3, .c (.a (.ep 7 4 0 0))),(4, .c (.a (.ep 8 4 0 0))),(6, .c (.a (.ep 9 4 0 0))),(8, .c (.a (.ep 10 4 0 0))),(31,aL v.l),(32,ci (v.l.length:Int)),(33,ci (pre.length:Int))],wkI w n R++ [(7,obIv v),(8, .arr 4 [cT t]),(9,zT4),(10, .arr 4 [cT out])],11⟩
 | [],pre,hp=>by
  rw [List.append_nil] at hp;have e:zlb v t out k []=(t,t.k==1&&decide (t.n≤v.lv)):=rfl;rw [e];obtain ⟨tk,ts,tn,tl⟩:=t;obtain ⟨ok,os,on,ol⟩:=out;refine RPt.vc hP sh zmj (Eq.mpr (zpt ..) ?_);refine z01 (fun h=>absurd (of_decide_eq_true h) (by rw [hp];omega)) (fun _=>z01 (fun h=> ?_) (fun h=> ?_))
  · have h:(tk==1)=true:=h;simp only [Tm.k,Tm.n];rw [h,Bool.true_and];exact ⟨.refl _,rfl⟩
  · have h:(tk==1)=false:=h;simp only [Tm.k,Tm.n];rw [h,Bool.false_and];exact ⟨.refl _,rfl⟩
 | u::b,pre,hp=>by
  have ih:=zjx v t out k w n R hk0 hk1 hl b (pre++ [u]) (by rw [hp];simp);rw [show (((pre++ [u]).length:Nat):Int)=(pre.length:Int)+1 by simp] at ih;have hlen:v.l.length=pre.length+(b.length+1):=by rw [hp];simp
  have em:List.getD (FTs v.l) (Int.toNat (pre.length:Int)) []=FT u:=by rw [hp];exact midI pre u b
  have h3:((pre.length:Nat):Int)<(((FTs v.l).length:Nat):Int):=by rw [z00];omega
  have hs:=zhp u out;have hb:=z7m (k+(b.length:Int))
  have e:zlb v t out k (u::b)=if lfZ u out=true then (bndT (k+(b.length:Int)),true) else zlb v t out k b:=by
   unfold zlb;rw [ixZ];cases lfZ u out<;>rfl
  rw [e];generalize lfZ u out=c at*
  have ww:IntKind.wrap .i64 (IntKind.wrap .i64 (IntKind.wrap .i64 (k+(((FTs v.l).length:Nat):Int))-1)-(pre.length:Int))=k+(b.length:Int):=by
   rw [z00,w64 (x:=k+(v.l.length:Int)) (by omega) (by omega),w64 (x:=k+(v.l.length:Int)-1) (by omega) (by omega),w64 (by omega) (by omega)];omega
  obtain ⟨tk,ts,tn,tl⟩:=t;obtain ⟨ok,os,on,ol⟩:=out;refine RPt.vc hP sh zmj (Eq.mpr (zpt ..) ?_);rw [em,ww,w64 (x:=(pre.length:Int)+1) (by omega) (by omega)];refine z01 (fun _=>⟨⟨rfl,by omega,h3,z4c u⟩,c,by rw [z4d];exact hs,z01 (fun h=> ?_) (fun h=> ?_)⟩) (fun h=>absurd (of_decide_eq_false h) (by omega))
  · rw [if_pos h];exact ⟨rfl,_,hb, .refl _,rfl⟩
  · rw [if_neg (by rw [h];simp)];exact ih
theorem zdy (v:Iv)(t:Tm)(k:Int)(w:Wp)(n:Nat)(R:List (List FV))(hk0:0≤k)(hk1:k≤1000000000)(hl:v.l.length≤1000000000):AC Tryz.prog 330 [aIv v,aT t,ci k] (oWk w n R) (tTB (z4b v t k)) (oWk w n R):=by
 have hl2:=zjx v t (outZ t k) k w n R hk0 hk1 hl v.l [] rfl;have e:z4b v t k=if t.k=3∧t.n<k then (t,true) else zlb v t (outZ t k) k v.l:=rfl
 rw [e];obtain ⟨tk,ts,tn,tl⟩:=t;refine AC.vc hP sh zmj (by simp) (by simp [isLive]) (by simp) (Eq.mpr (v330 v.x v.lv (FTs v.l) tk ts tn (FTs tl) k ..) ?_);rw [z00];refine z04 (fun h3=>z01 (fun h4=> ?_) (fun h4=>z04 (fun _=>⟨rfl, ?_⟩) (fun h=>absurd h3 h))) (fun h3=>z04 (fun h=>absurd h h3) (fun _=>⟨rfl, ?_⟩))
 · have h4:=of_decide_eq_true h4;rw [if_pos ⟨h3,h4⟩];exact ⟨.refl _,rfl⟩
 · have h4:=of_decide_eq_false h4;rw [if_neg (fun q=>h4 q.2)];have eo:outZ (.mk tk ts tn tl) k= .mk tk ts (wr (tn-k)) tl:=if_pos h3;rw [eo] at hl2 ⊢;exact hl2
 · rw [if_neg (fun q=>h3 q.1)];have eo:outZ (.mk tk ts tn tl) k= .mk tk ts tn tl:=if_neg h3;rw [eo] at hl2 ⊢;exact hl2
theorem c_wrigid (v:Iv)(x:Sd)(k:Int)(w:Wp)(n:Nat)(R:List (List FV))(hk0:0≤k)(hk1:k≤1000000000)(hl:v.l.length≤1000000000):AC Tryz.prog 298 [aIv v,aSd x,ci k] (oWk w n R) (tTB (z5g v w.s.N x k)) (oWk w n R):=by
 have hn:=zmi w.s x.c.a;have h1:=(zdy v (.mk 1 [] x.c.a []) k w n R hk0 hk1 hl).args (args:=[aIv v, .agg [.a (.fz (.int .i64 1)), .a (.fz (.str [])), .a (.fz (.int .i64 x.c.a)), .a (.fz .N)],ci k]) ⟨.refl _,leT z2k, .refl _,trivial⟩;have h2:=zdy v (bndT x.c.a) k w n R hk0 hk1 hl;have hb:=z7m x.c.a
 have e:z5g v w.s.N x k=if x.c.t=0 then (.mk 0 (z93 w.s.N x.c.a) 0 [],true) else if x.c.t=2 then (.mk 2 [] x.c.a [],true)
  else if x.c.t=1 then z4b v (.mk 1 [] x.c.a []) k else z4b v (bndT x.c.a) k:=rfl
 rw [e];refine AC.vc hP sh lv298 (by simp) (by simp [isLive]) (by simp) (Eq.mpr (v298 v.x v.lv (FTs v.l) ..) ?_);refine z04 (fun e0=>⟨_,hn, ?_⟩) (fun e0=>z04 (fun e2=> ?_) (fun e2=>z04 (fun e1=>⟨_,h1, ?_⟩) (fun e1=>⟨_,hb,_,h2, ?_⟩)))
 · rw [if_pos e0];exact ⟨leTB (l:=[]) z2k,rfl⟩
 · rw [if_neg e0,if_pos e2];exact ⟨leTB (l:=[]) z2k,rfl⟩
 · rw [if_neg e0,if_neg e2,if_pos e1];exact ⟨.refl _,rfl⟩
 · rw [if_neg e0,if_neg e2,if_neg e1];exact ⟨.refl _,rfl⟩
abbrev fxW (v:Iv)(y:Sd)(w:Wp)(n:Nat)(R:List (List FV)):AHeap:=wkH w n R++ [(11,obIv v),(12, .arr 7 [[.a (.fz (.int .i64 y.h)), .a (.fz (.sl false 1 (IR y.js))), .a (.fz (.int .i64 y.c.t)), .a (.fz (.int .i64 y.c.a)), .a (.fz (.int .i64 y.c.b)), .a (.fz (.int .i64 y.c.c)), .a (.fz (.int .i64 y.c.d))]]),(13,zT4)]
abbrev fxT (v:Iv)(y:Sd)(w:Wp)(n:Nat)(R:List (List FV))(k:Int)(ls on im l:List Tm)(a b c:Nat)(j:Int):St:=
 if on=[] then ⟨[(2,ci k),(3, .c (.a (.ep 11 4 0 0))),(4, .c (.a (.ep 12 7 0 0))),(6, .c (.a (.ep 13 4 0 0))),(8,aL ls),(10,ci y.c.a),(11, .c (.a (.fz .N))),(12, .c (.a (.fz .N))),(a,aL l),(b,ci (l.length:Int)),(c,ci j)],fxW v y w n R,14⟩
 else ⟨[(2,ci k),(3, .c (.a (.ep 11 4 0 0))),(4, .c (.a (.ep 12 7 0 0))),(6, .c (.a (.ep 13 4 0 0))),(8,aL ls),(10,ci y.c.a),(11, .c (.a (.osl 14 4 0 on.length))),(12, .c (.a (.osl 15 4 0 im.length))),(a,aL l),(b,ci (l.length:Int)),(c,ci j)],fxW v y w n R++ [(14, .arz 4 (FTs on)),(15, .arz 4 (FTs im))],16⟩
theorem leNs:TV.Le (.c (.a (.fz .N))) (aL []):= .c _ _ (.a _ _ (.fz _ _ z2k))
abbrev hgZ (v:Iv)(y:Sd)(w:Wp)(m:Nat)(on im:List Tm):(Tm×Int)×Wp:=
 ((z0c (z3x w y.h (z0q [v.lv,y.c.a]) m on).1.1 im,(z3x w y.h (z0q [v.lv,y.c.a]) m on).1.2),(z3x w y.h (z0q [v.lv,y.c.a]) m on).2)
theorem zj0 (K:Nat)(hK:K≤1000000000)(v:Iv)(y:Sd)(w:Wp)(n:Nat)(R:List (List FV))(ok:OkW K w)(k:Int)(hk0:0≤k)(hk1:k≤1000000000)(ls:List Tm)(hls:ls.length≤10000000)(hl:v.l.length≤10000000)(hv:ones v.l):
  ∀ (b pre on im:List Tm),v.l=pre++b→on.length=im.length→ones on→ones im→on.length+b.length≤100000000→
  RPt Tryz.prog 297 7 (tTE (hgZ v y w ls.length (on++(im2 y.c.a v.lv k b).1) (im++(im2 y.c.a v.lv k b).2)).1) (oWk' (hgZ v y w ls.length (on++(im2 y.c.a v.lv k b).1) (im++(im2 y.c.a v.lv k b).2)).2 n R) 5 (fxT v y w n R k ls on im v.l 86 87 88 (pre.length:Int))
 | [],pre,on,im,hp,ho,o1,o2,hz=>by
  rw [List.append_nil] at hp;have e1:(im2 y.c.a v.lv k []).1=[]:=rfl;have e2:(im2 y.c.a v.lv k []).2=[]:=rfl;rw [e1,e2,List.append_nil,List.append_nil];simp only [List.length_nil] at hz;have hh:=znt K hK w n R ok y.h (z0q [v.lv,y.c.a]) ls.length on (by omega) (by rw [z7l o1];omega);have hsz:=(zei ok y.h (z0q [v.lv,y.c.a]) ls.length on).2;unfold hgZ;generalize z3x w y.h (z0q [v.lv,y.c.a]) ls.length on=z at*;obtain ⟨⟨t,e⟩,u⟩:=z;dsimp only at hsz hh ⊢;have hll:t.l.length≤1:=by have:=t.sz_eq;have:=Tm.szs_length t.l;omega
  have ha:=z3p t im (by omega);unfold fxT;by_cases hn:on=[]
  · subst hn;have:im=[]:=List.eq_nil_of_length_eq_zero ho.symm;subst this;rw [if_pos rfl];refine RPt.vc hP sh z81 (Eq.mpr (zp5 ..) ?_);refine z01 (fun h=>absurd (of_decide_eq_true h) (by rw [hp];omega)) (fun _=>⟨rfl, ?_⟩);rw [z00];exact ⟨(t,e,⟨u.s,u.f,n,R⟩),hh.args ⟨.refl _, .refl _, .refl _, .refl _,leNs,trivial⟩,_,ha.args ⟨.refl _,leNs,trivial⟩, .refl _,rfl⟩
  · rw [if_neg hn];refine RPt.vc hP sh z81 (Eq.mpr (znj ..) ?_);refine z01 (fun h=>absurd (of_decide_eq_true h) (by rw [hp];omega)) (fun _=>⟨rfl,⟨rfl,by rw [z00];omega⟩, ?_⟩);rw [z00,List.drop_zero,List.take_of_length_le (l:=FTs on) (by rw [z00];exact Nat.le_refl _),List.drop_zero,List.take_of_length_le (l:=FTs im) (by rw [z00];exact Nat.le_refl _)];exact ⟨(t,e,⟨u.s,u.f,n,R⟩),hh,⟨rfl,by rw [z00];omega⟩,_,ha, .refl _,rfl⟩
 | t::b,pre,on,im,hp,ho,o1,o2,hz=>by
  have hlen:v.l.length=pre.length+(b.length+1):=by rw [hp];simp
  have em:List.getD (FTs v.l) (Int.toNat (pre.length:Int)) []=FT t:=by rw [hp];exact midI pre t b
  have h3:((pre.length:Nat):Int)<(((FTs v.l).length:Nat):Int):=by rw [z00];omega
  have ek:FV.I (List.getD (FT t) 0 FV.N)=t.k:=by cases t;rfl
  have en:FV.I (List.getD (FT t) 2 FV.N)=t.n:=by cases t;rfl
  have t1:t.sz=1:=hv t (by rw [hp];simp);simp only [List.length_cons] at hz;have hb:=z7m (k+(b.length:Int))
  have ww:IntKind.wrap .i64 (IntKind.wrap .i64 (IntKind.wrap .i64 (k+(((FTs v.l).length:Nat):Int))-1)-(pre.length:Int))=k+(b.length:Int):=by
   rw [z00,w64 (x:=k+(v.l.length:Int)) (by omega) (by omega),w64 (x:=k+(v.l.length:Int)-1) (by omega) (by omega),w64 (by omega) (by omega)];omega
  have nx:=fun (on' im':List Tm) h1 h2 h3 h4=>zj0 K hK v y w n R ok k hk0 hk1 ls hls hl hv b (pre++ [t]) on' im' (by rw [hp];simp) h1 h2 h3 h4;rw [show (((pre++ [t]).length:Nat):Int)=(pre.length:Int)+1 by simp] at nx;have i1:y.c.a>v.lv∧t.k=1∧t.n≤y.c.a→(im2 y.c.a v.lv k (t::b)).1=t::(im2 y.c.a v.lv k b).1∧(im2 y.c.a v.lv k (t::b)).2=bndT (k+(b.length:Int))::(im2 y.c.a v.lv k b).2:=fun h=>by rw [im2,if_pos h];exact ⟨rfl,rfl⟩
  have i2:¬(y.c.a>v.lv∧t.k=1∧t.n≤y.c.a)→im2 y.c.a v.lv k (t::b)=im2 y.c.a v.lv k b:=fun h=>by rw [im2,if_neg h]
  have one1:∀ (l:List Tm) (u:Tm),ones l→u.sz=1→ones (l++ [u]):=fun l u h1 h2=>zdf h1 (fun x hx=>by rw [List.mem_singleton.1 hx];exact h2)
  have skip:¬(y.c.a>v.lv∧t.k=1∧t.n≤y.c.a)→RPt Tryz.prog 297 7 (tTE (hgZ v y w ls.length (on++(im2 y.c.a v.lv k (t::b)).1) (im++(im2 y.c.a v.lv k (t::b)).2)).1) (oWk' (hgZ v y w ls.length (on++(im2 y.c.a v.lv k (t::b)).1) (im++(im2 y.c.a v.lv k (t::b)).2)).2 n R) 5 (fxT v y w n R k ls on im v.l 86 87 88 ((pre.length:Int)+1)):=fun h=>by
   rw [i2 h];exact nx on im ho o1 o2 (by omega)
  have take:y.c.a>v.lv∧t.k=1∧t.n≤y.c.a→RPt Tryz.prog 297 7 (tTE (hgZ v y w ls.length (on++(im2 y.c.a v.lv k (t::b)).1) (im++(im2 y.c.a v.lv k (t::b)).2)).1) (oWk' (hgZ v y w ls.length (on++(im2 y.c.a v.lv k (t::b)).1) (im++(im2 y.c.a v.lv k (t::b)).2)).2 n R) 5 (fxT v y w n R k ls (on++ [t]) (im++ [bndT (k+(b.length:Int))]) v.l 86 87 88 ((pre.length:Int)+1)):=fun h=>by
   obtain ⟨a1,a2⟩:=i1 h;have:=nx (on++ [t]) (im++ [bndT (k+(b.length:Int))]) (by simp [ho]) (one1 _ _ o1 t1) (one1 _ _ o2 rfl) (by simp only [List.length_append,List.length_cons,List.length_nil];omega);rw [List.append_assoc,List.append_assoc,List.singleton_append,List.singleton_append,←a1,←a2] at this;exact this
  generalize hgZ v y w ls.length (on++(im2 y.c.a v.lv k (t::b)).1) (im++(im2 y.c.a v.lv k (t::b)).2)=Z at*;have op:FV.L 4 (.sl false 4 (FTs v.l))=true∧((0:Int)≤(pre.length:Int)∧(((pre.length:Int)<(((FTs v.l).length:Nat):Int))∧((rE (FT t):List FV)=FT t))):=⟨rfl,by omega,h3,z4c t⟩;clear nx i1 i2;unfold fxT at skip take ⊢;rw [if_neg (z41 on t)] at take;by_cases hn:on=[]
  · subst hn;have:im=[]:=List.eq_nil_of_length_eq_zero ho.symm;subst this;rw [if_pos rfl] at skip ⊢;refine RPt.vc hP sh z81 (Eq.mpr (zp5 ..) ?_);rw [em,ek,en,w64 (x:=(pre.length:Int)+1) (by omega) (by omega),ww];refine z01 (fun _=>⟨op,z01 (fun c1=>z04 (fun c2=>z01 (fun c3=>⟨Nat.le_refl _,z4p (by omega),rfl,_,hb,Nat.le_refl _,z4p (by omega), ?_⟩) (fun c3=>skip fun q=>of_decide_eq_false c3 q.2.2)) (fun c2=>skip fun q=>c2 q.2.1)) (fun c1=>skip fun q=>of_decide_eq_false c1 q.1)⟩) (fun h=>absurd (of_decide_eq_false h) (by omega));rw [z4c];exact take ⟨of_decide_eq_true c1,c2,of_decide_eq_true c3⟩
  · rw [if_neg hn] at skip ⊢;refine RPt.vc hP sh z81 (Eq.mpr (znj ..) ?_);rw [em,ek,en,w64 (x:=(pre.length:Int)+1) (by omega) (by omega),ww];have r1:on.length≤(FTs on).length∧z0b (on.length+1) 56:=⟨by rw [z00];exact Nat.le_refl _,z4p (by omega)⟩;have r2:im.length≤(FTs im).length∧z0b (im.length+1) 56:=⟨by rw [z00];exact Nat.le_refl _,z4p (by omega)⟩;refine z01 (fun _=>⟨op,z01 (fun c1=>z04 (fun c2=>z01 (fun c3=>⟨Nat.le_refl _,r1,rfl,_,hb,Nat.le_refl _,r2, ?_⟩) (fun c3=>skip fun q=>of_decide_eq_false c3 q.2.2)) (fun c2=>skip fun q=>c2 q.2.1)) (fun c1=>skip fun q=>of_decide_eq_false c1 q.1)⟩) (fun h=>absurd (of_decide_eq_false h) (by omega));rw [z4c,List.take_of_length_le (l:=FTs on) (by rw [z00];exact Nat.le_refl _),List.take_of_length_le (l:=FTs im) (by rw [z00];exact Nat.le_refl _),z4f];have:=take ⟨of_decide_eq_true c1,c2,of_decide_eq_true c3⟩;rw [z1y,z1y,List.length_append,List.length_append] at this;exact this
theorem zjk (K:Nat) (hK:K≤1000000000) (v:Iv) (y:Sd) (w:Wp) (n:Nat) (R:List (List FV)) (ok:OkW K w) (k:Int) (hk0:0≤k) (hk1:k≤1000000000) (ls:List Tm) (hls:ls.length≤10000000) (hl:v.l.length≤10000000) (hv:ones v.l) (ho:ones ls) (Z:(Tm×Int)×Wp)
  (full:(im1 v k ls).1.length=ls.length→y.c.a≤v.lv→Z=((z0c (.mk 4 [] y.h []) (im1 v k ls).2,0),w))
  (part:¬((im1 v k ls).1.length=ls.length∧y.c.a≤v.lv)→Z=hgZ v y w ls.length ((im1 v k ls).1++(im2 y.c.a v.lv k v.l).1) ((im1 v k ls).2++(im2 y.c.a v.lv k v.l).2)):
  ∀ (b pre on im:List Tm),ls=pre++b→on.length=im.length→on.length≤pre.length→(im1 v k ls).1=on++(im1 v k b).1→(im1 v k ls).2=im++(im1 v k b).2→
  RPt Tryz.prog 297 7 (tTE Z.1) (oWk' Z.2 n R) 1 (fxT v y w n R k ls on im ls 39 40 41 (pre.length:Int))
 | [],pre,on,im,hp,hoi,hop,q1,q2=>by
  rw [List.append_nil] at hp;have hpl:ls.length=pre.length:=by rw [hp]
  have e1:(im1 v k []).1=[]:=rfl;have e2:(im1 v k []).2=[]:=rfl;rw [e1,List.append_nil] at q1;rw [e2,List.append_nil] at q2;obtain ⟨a1,a2,a3,a4⟩:=znx v k ls ho;rw [q1] at full part a3 a4;rw [q2] at full part a1 a2 a3
  have l5:¬(on.length=ls.length∧y.c.a≤v.lv)→RPt Tryz.prog 297 7 (tTE Z.1) (oWk' Z.2 n R) 5 (fxT v y w n R k ls on im v.l 86 87 88 0):=fun h=>by
   have:=zj0 K hK v y w n R ok k hk0 hk1 ls hls hl hv v.l [] on im rfl a3 a4 a1 (by omega);rw [←part h] at this;exact this
  have ha:=(z3p (.mk 4 [] y.h []) im (by simp only [Tm.l,List.length_nil];omega)).args (args:=[.agg [.a (.fz (.int .i64 4)), .a (.fz (.str [])), .a (.fz (.int .i64 y.h)), .a (.fz .N)],aL im]) ⟨leT z2k, .refl _,trivial⟩;unfold fxT at l5 ⊢;by_cases hn:on=[]
  · subst hn;have:im=[]:=List.eq_nil_of_length_eq_zero hoi.symm;subst this;rw [if_pos rfl] at l5 ⊢;refine RPt.vc hP sh z81 (Eq.mpr (zoy ..) ?_);simp only [z00];refine z01 (fun h=>absurd (of_decide_eq_true h) (by omega)) (fun _=>⟨rfl,rfl,z01 (fun c1=>z01 (fun c2=> ?_) (fun c2=>⟨rfl,l5 fun q=>of_decide_eq_false c2 q.2⟩)) (fun c1=>⟨rfl,l5 fun q=> ?_⟩)⟩)
    · have c1:(0:Int)=(ls.length:Int):=by have c1:((0:Int)==(ls.length:Int))=true:=c1;simpa using c1
      rw [full (by simp only [List.length_nil];omega) (of_decide_eq_true c2)];exact ⟨_,ha.args ⟨.refl _,leNs,trivial⟩, .refl _,rfl⟩
    · have c1:((0:Int)==(ls.length:Int))=false:=c1;have:=q.1;simp only [List.length_nil] at this;rw [←this] at c1;simp at c1
  · rw [if_neg hn] at l5 ⊢;refine RPt.vc hP sh z81 (Eq.mpr (znm ..) ?_);simp only [z00];refine z01 (fun h=>absurd (of_decide_eq_true h) (by omega)) (fun _=>⟨rfl,z01 (fun c1=>z01 (fun c2=> ?_) (fun c2=>⟨rfl,l5 fun q=>of_decide_eq_false c2 q.2⟩)) (fun c1=>⟨rfl,l5 fun q=> ?_⟩)⟩)
    · have c1:(on.length:Int)=(ls.length:Int):=by have c1:((on.length:Int)==(ls.length:Int))=true:=c1;simpa using c1
      rw [full (by omega) (of_decide_eq_true c2)];rw [List.drop_zero,List.take_of_length_le (l:=FTs im) (by rw [z00];exact Nat.le_refl _)];exact ⟨⟨by trivial,by first | omega | (rw [z00];omega)⟩,_,ha, .refl _,rfl⟩
    · have c1:((on.length:Int)==(ls.length:Int))=false:=c1;rw [q.1] at c1;simp at c1
 | t::b,pre,on,im,hp,hoi,hop,q1,q2=>by
  have hlen:ls.length=pre.length+(b.length+1):=by rw [hp];simp
  have em:List.getD (FTs ls) (Int.toNat (pre.length:Int)) []=FT t:=by rw [hp];exact midI pre t b
  have h3:((pre.length:Nat):Int)<(((FTs ls).length:Nat):Int):=by rw [z00];omega
  have hi:=zdy v t k w n R hk0 hk1 (by omega);have hb:=z7m (b.length:Int)
  have ww:IntKind.wrap .i64 (IntKind.wrap .i64 ((((FTs ls).length:Nat):Int)-1)-(pre.length:Int))=(b.length:Int):=by
   rw [z00,w64 (x:=(ls.length:Int)-1) (by omega) (by omega),w64 (by omega) (by omega)];omega
  have nx:=fun (on' im':List Tm) h1 h2 h3 h4=>zjk K hK v y w n R ok k hk0 hk1 ls hls hl hv ho Z full part b (pre++ [t]) on' im' (by rw [hp];simp) h1 h2 h3 h4;rw [show (((pre++ [t]).length:Nat):Int)=(pre.length:Int)+1 by simp] at nx;have e0:im1 v k (t::b)=if (z4b v t k).2=true then (bndT (b.length:Int)::(im1 v k b).1,(z4b v t k).1::(im1 v k b).2) else im1 v k b:=rfl
  rw [e0] at q1 q2;generalize z4b v t k=z at*;obtain ⟨z1,z2⟩:=z;dsimp only at q1 q2 hi
  have skip:z2=false→RPt Tryz.prog 297 7 (tTE Z.1) (oWk' Z.2 n R) 1 (fxT v y w n R k ls on im ls 39 40 41 ((pre.length:Int)+1)):=fun h=>by
   rw [h,if_neg (by simp)] at q1 q2;exact nx on im hoi (by simp;omega) q1 q2
  have take:z2=true→RPt Tryz.prog 297 7 (tTE Z.1) (oWk' Z.2 n R) 1 (fxT v y w n R k ls (on++ [bndT (b.length:Int)]) (im++ [z1]) ls 39 40 41 ((pre.length:Int)+1)):=fun h=>by
   rw [if_pos h] at q1 q2;exact nx (on++ [bndT (b.length:Int)]) (im++ [z1]) (by simp [hoi]) (by simp;omega) (by rw [q1];simp) (by rw [q2];simp)
  clear nx full part;have op:FV.L 4 (.sl false 4 (FTs ls))=true∧((0:Int)≤(pre.length:Int)∧(((pre.length:Int)<(((FTs ls).length:Nat):Int))∧((rE (FT t):List FV)=FT t))):=⟨rfl,by omega,h3,z4c t⟩;unfold fxT at skip take ⊢;rw [if_neg (z41 on _)] at take;by_cases hn:on=[]
  · subst hn;have:im=[]:=List.eq_nil_of_length_eq_zero hoi.symm;subst this;rw [if_pos rfl] at skip ⊢;refine RPt.vc hP sh z81 (Eq.mpr (zoy ..) ?_);rw [em,w64 (x:=(pre.length:Int)+1) (by omega) (by omega),ww,z4d];exact z01 (fun _=>⟨op,(z1,z2),hi,z01 (fun c=>⟨rfl,_,hb,Nat.le_refl _,z4p (by omega),Nat.le_refl _,z4p (by omega),by rw [z4f,z4f];exact take c⟩) (fun c=>skip c)⟩) (fun h=>absurd (of_decide_eq_false h) (by omega))
  · rw [if_neg hn] at skip ⊢;refine RPt.vc hP sh z81 (Eq.mpr (znm ..) ?_);rw [em,w64 (x:=(pre.length:Int)+1) (by omega) (by omega),ww,z4d];have r1:on.length≤(FTs on).length∧z0b (on.length+1) 56:=⟨by rw [z00];exact Nat.le_refl _,z4p (by omega)⟩;have r2:im.length≤(FTs im).length∧z0b (im.length+1) 56:=⟨by rw [z00];exact Nat.le_refl _,z4p (by omega)⟩;refine z01 (fun _=>⟨op,(z1,z2),hi,z01 (fun c=>⟨rfl,_,hb,Nat.le_refl _,r1,Nat.le_refl _,r2, ?_⟩) (fun c=>skip c)⟩) (fun h=>absurd (of_decide_eq_false h) (by omega));rw [List.take_of_length_le (l:=FTs on) (by rw [z00];exact Nat.le_refl _),List.take_of_length_le (l:=FTs im) (by rw [z00];exact Nat.le_refl _),z4f,z4f];have:=take c;rw [z1y,z1y,List.length_append,List.length_append] at this;exact this
theorem c_wflex (K:Nat)(hK:K≤1000000000)(v:Iv)(y:Sd)(w:Wp)(n:Nat)(R:List (List FV))(ok:OkW K w)(k:Int)(hk0:0≤k)(hk1:k≤1000000000)(hy:y.js.length≤10000000)(hl:v.l.length≤10000000)(hv:ones v.l):
  AC Tryz.prog 297 [aIv v,aSd y,ci k] (oWk w n R) (tTE (zbj v y k w).1) (oWk' (zbj v y k w).2 n R):=by
 have hL:=z7s K y.c.a n R y.js (by omega) w ok;obtain ⟨l1,_,l3,l4⟩:=z1x (K:=K) y.c.a y.js [] ok (fun t ht=>nomatch ht);simp only [List.length_nil] at l3;have e:zbj v y k w=zag v y k (z03 y.c.a y.js [] w):=rfl;rw [e];generalize z03 y.c.a y.js [] w=z at*;obtain ⟨⟨ls,er⟩,u⟩:=z;dsimp only at hL l1 l3 l4
 have eG:zag v y k ((ls,er),u)=if er≠0 then ((noT,er),u)
  else if (im1 v k ls).1.length=ls.length∧y.c.a≤v.lv then ((z0c (.mk 4 [] y.h []) (im1 v k ls).2,0),u)
  else hgZ v y u ls.length ((im1 v k ls).1++(im2 y.c.a v.lv k v.l).1) ((im1 v k ls).2++(im2 y.c.a v.lv k v.l).2):=rfl
 rw [eG];refine AC.vc hP sh z81 (by simp) (by simp [isLive]) (by simp [isLive]) (Eq.mpr (v297 v.x v.lv (FTs v.l) ..) ?_);refine ⟨(ls,er,⟨u.s,u.f,n,R⟩),hL,z0e (fun q=> ?_) (fun q=>⟨rfl, ?_⟩)⟩
 · rw [if_pos q];exact ⟨noTE er,rfl⟩
 · rw [if_neg (fun w=>w q)];have q:er=0:=q;have oku:=l1.ok ok q;have h:=zjk K hK v y u n R oku k hk0 hk1 ls (by omega) hl hv (z80 l4) (if (im1 v k ls).1.length=ls.length∧y.c.a≤v.lv then ((z0c (.mk 4 [] y.h []) (im1 v k ls).2,0),u) else hgZ v y u ls.length ((im1 v k ls).1++(im2 y.c.a v.lv k v.l).1) ((im1 v k ls).2++(im2 y.c.a v.lv k v.l).2)) (fun h1 h2=>if_pos ⟨h1,h2⟩) (fun h=>if_neg h) ls [] [] [] rfl rfl (Nat.le_refl _) rfl rfl
   rw [z00];exact h
end Go.AM

set_option maxRecDepth 100000
open Go Go.Proofs
namespace Go.AM
abbrev stTm (v:Iv)(l:List Int)(t:Tm)(k:Int)(w:Wp)(m:Nat)(R:List (List FV))(i:Int):St:=
 ⟨[(2,ci k),(3, .c (.a (.ep 11 4 0 0))),(6, .c (.a (.ep 12 4 0 0))),(12, .c (.a (.ep 13 4 0 0))),(81,aIs l),(82,ci (l.length:Int)),(83,ci i)],wkH w m R++ [(11,obIv v),(12,zT4),(13, .arr 4 [cT t])],14⟩
theorem zq6 (K:Nat) (v:Iv) (hv:ones v.l) (hl:v.l.length≤100000) (m:Nat) (R:List (List FV)) (n:Nat) (k:Int)
  (hC:∀ (b:Int) (w:Wp),OkW K w→w.f.toNat<n→k+w.f≤1000000000→AC Tryz.prog 249 [aIv v,ci b,ci k] (oWk w m R) (tTE (z1h v n b k w).1) (oWk' (z1h v n b k w).2 m R)) (l0:List Int) (hl0:l0.length≤1000000000):
  ∀ (b pre:List Int) (t:Tm) (w:Wp),l0=pre++b→OkW K w→w.f.toNat<n→k+w.f≤1000000000→t.sz+2*b.length+100004*w.f.toNat≤1000000000000→
  RPt Tryz.prog 249 7 (tTE (z7q (fun b w=>z1h v n b k w) b t w).1) (oWk' (z7q (fun b w=>z1h v n b k w) b t w).2 m R) 3 (stTm v l0 t k w m R (pre.length:Int))
 | [],pre,t,w,hp,ok,_,_,_=>by
  rw [List.append_nil] at hp;rw [z7q];obtain ⟨tk,ts,tn,tl⟩:=t;refine RPt.vc hP sh zlx (Eq.mpr (zpq ..) ?_);exact z01 (fun h=>absurd (of_decide_eq_true h) (by rw [hp];omega)) (fun _=>⟨.refl _,rfl⟩)
 | a::b,pre,t,w,hp,ok,hn,hk,hz=>by
  have hc:=hC a w ok hn hk;obtain ⟨g1,g2⟩:=z7y (K:=K) v hv hl n a k ok hn;have hm:List.getD (IR l0) (Int.toNat (pre.length:Int)) []=[.int .i64 a]:=by rw [hp];exact zj7 pre a b
  have h3:(pre.length:Int)<(((IR l0).length:Nat):Int):=by rw [hp];exact IR_lt pre a b
  have h4:(pre.length:Int)<((l0.length:Nat):Int):=by rw [z05] at h3;exact h3
  have eA:z7q (fun b w=>z1h v n b k w) (a::b) t w=if (z1h v n a k w).1.2≠0 then ((noT,(z1h v n a k w).1.2),(z1h v n a k w).2)
   else z7q (fun b w=>z1h v n b k w) b (z0c t [(z1h v n a k w).1.1]) (z1h v n a k w).2:=rfl
  rw [eA];simp only [List.length_cons] at hz;have okn:=fun h=>g1.ok ok h;have f1:=g1.f1;have f0:=g1.f0;generalize z1h v n a k w=z at*;obtain ⟨⟨u,e⟩,x⟩:=z;dsimp only at*;have hap:=z3p t [u] (by have:=t.sz_eq;have:=Tm.szs_length t.l;simp only [List.length_cons,List.length_nil];omega);have hsz:=z5q t u;have nx:=fun h=>zq6 K v hv hl m R n k hC l0 hl0 b (pre++ [a]) (z0c t [u]) x (by rw [hp];simp) (okn h) (by omega) (by omega) (by omega);rw [show (((pre++ [a]).length:Nat):Int)=(pre.length:Int)+1 by simp] at nx;obtain ⟨tk,ts,tn,tl⟩:=t;refine RPt.vc hP sh zlx (Eq.mpr (zpq ..) ?_);rw [hm,w64 (x:=(pre.length:Int)+1) (by omega) (by omega)];refine z01 (fun _=>⟨⟨rfl,by omega,h3,rfl⟩,(u,e,⟨x.s,x.f,m,R⟩),hc,z0e (fun q=> ?_) (fun q=>⟨⟨rfl,Nat.le_refl _⟩,_,by rw [z4f];exact hap, ?_⟩)⟩) (fun h=>absurd h4 (of_decide_eq_false h))
  · rw [if_pos q];exact ⟨noTE e,rfl⟩
  · rw [if_neg (fun w=>w q)];exact nx q
theorem zhi (K:Nat)(hK:K≤1000000000)(v:Iv)(hv:ones v.l)(hl:v.l.length≤100000)(m:Nat)(R:List (List FV)):∀ (n:Nat) (k:Int),0≤k→∀ (a:Int) (w:Wp),OkW K w→w.f.toNat<n→k+w.f≤1000000000→
  AC Tryz.prog 249 [aIv v,ci a,ci k] (oWk w m R) (tTE (z1h v n a k w).1) (oWk' (z1h v n a k w).2 m R)
 | 0,_,_,_,_,_,h,_=>absurd h (by omega)
 | n+1,k,hk0,a,w,ok,hn,hk=>by
  have hlk:=zhv K w m R ok a;obtain ⟨g1,_,g3⟩:=z2y ok a;have f1:=g1.f1;have f0:=g1.f0;have hf:=ok.f0;have hf2:=ok.f1;have okn:=fun h=>g1.ok ok h;rw [z1h];generalize lookW w a=z at*;obtain ⟨⟨x,e⟩,u⟩:=z;dsimp only at*
  have eG:termG v (z1h v n) k ((x,e),u)=if e≠0 then ((noT,e),u)
   else if x.c.t=6 then ((z2n 1 (z1h v n x.c.a (k+1) u).1.1,(z1h v n x.c.a (k+1) u).1.2),(z1h v n x.c.a (k+1) u).2)
   else if x.c.t=4 then (if x.h=v.x then ((noT,170),u) else zbj v x k u)
   else if (z5g v u.s.N x k).2=false then ((noT,170),u)
   else z7q (fun b w=>z1h v n b k w) x.js (z5g v u.s.N x k).1 u:=rfl
  rw [eG];have hfl:=zhs x;have hrg:=c_wrigid v x k u m R hk0 (by omega) (by omega);have rsz:=zg6 v u.s.N x k;refine AC.vc hP sh zlx (by simp) (by simp [isLive]) (by simp [isLive]) (Eq.mpr (v249 v.x v.lv (FTs v.l) ..) ?_);refine ⟨(x.h,x.js,x.c.t,x.c.a,x.c.b,x.c.c,x.c.d,e,⟨u.s,u.f,m,R⟩),hlk,z0e (fun q=> ?_) (fun q=> ?_)⟩
  · rw [if_pos q];exact ⟨noTE e,rfl⟩
  rw [if_neg (fun w=>w q)];have g3:=g3 q;have okn:=okn q;refine z04 (fun t6=> ?_) (fun t6=> ?_)
  · have t6:x.c.t=6:=t6;rw [if_pos t6];have ih:=zhi K hK v hv hl m R n (k+1) (by omega) x.c.a u okn (by omega) (by omega);rw [w64 (by omega) (by omega)];have hL:=zap 1 (z1h v n x.c.a (k+1) u).1.1 (by omega);exact ⟨((z1h v n x.c.a (k+1) u).1.1,(z1h v n x.c.a (k+1) u).1.2,⟨(z1h v n x.c.a (k+1) u).2.s,(z1h v n x.c.a (k+1) u).2.f,m,R⟩),ih,_,hL, .refl _,rfl⟩
  have t6:¬x.c.t=6:=t6;rw [if_neg t6];refine ⟨_,hfl,z04 (fun t4=> ?_) (fun t4=>⟨_,hfl,z04 (fun h=>absurd h t4) (fun _=> ?_)⟩)⟩
  · rw [if_pos t4];refine z04 (fun hx=> ?_) (fun hx=>⟨_,hfl,z04 (fun _=> ?_) (fun h=>absurd t4 h)⟩)
    · have hx:x.h=v.x:=hx;rw [if_pos hx];exact ⟨noTE 170,rfl⟩
    · have hx:¬x.h=v.x:=hx;rw [if_neg hx];have hF:=c_wflex K hK v x u m R okn k hk0 (by omega) (by omega) (by omega) hv;exact ⟨((zbj v x k u).1.1,(zbj v x k u).1.2,⟨(zbj v x k u).2.s,(zbj v x k u).2.f,m,R⟩),hF, .refl _,rfl⟩
  · rw [if_neg t4];have lp:=zq6 K v hv hl m R n k (fun b w o h1 h2=>zhi K hK v hv hl m R n k hk0 b w o h1 h2) x.js (by omega) x.js [] (z5g v u.s.N x k).1 u rfl okn (by omega) (by omega) (by rw [rsz];omega);generalize z5g v u.s.N x k=y at*;obtain ⟨y1,y2⟩:=y;dsimp only at*;refine ⟨(y1,y2),hrg,z01 (fun h=> ?_) (fun h=>⟨rfl, ?_⟩)⟩
    · have h:(!y2)=true:=h;rw [if_pos (by simpa using h)];exact ⟨noTE 170,rfl⟩
    · have h:(!y2)=false:=h;rw [if_neg (by simpa using h),z05];exact lp
theorem zmb (K:Nat)(hK:K≤1000000000)(w:Wp)(m:Nat)(R:List (List FV))(ok:OkW K w)(x:Sd)(a:Int)(hx:x.js.length≤100000):AC Tryz.prog 186 [aWk,aSd x,ci a] (oWk w m R) (ci (z4s w x a).1) (oWk' (z4s w x a).2 m R):=by
 have hL:=z7s K x.c.a m R x.js (by omega) w ok;obtain ⟨l1,_,l3,l4⟩:=z1x (K:=K) x.c.a x.js [] ok (fun t ht=>nomatch ht);simp only [List.length_nil] at l3;have e:z4s w x a=zfz x a (z03 x.c.a x.js [] w):=rfl;rw [e];have okl:=fun h=>l1.ok ok h;generalize z03 x.c.a x.js [] w=z at*;obtain ⟨⟨ls,er⟩,u⟩:=z;dsimp only at hL l1 l3 l4 okl
 have eG:zfz x a ((ls,er),u)=if er≠0 then (er,u)
  else if (z1h ⟨x.h,x.c.a,ls⟩ (u.f.toNat+1) a 0 u).1.2≠0 then ((z1h ⟨x.h,x.c.a,ls⟩ (u.f.toNat+1) a 0 u).1.2,(z1h ⟨x.h,x.c.a,ls⟩ (u.f.toNat+1) a 0 u).2)
  else setW (z1h ⟨x.h,x.c.a,ls⟩ (u.f.toNat+1) a 0 u).2 x.h (z2n ls.length (z1h ⟨x.h,x.c.a,ls⟩ (u.f.toNat+1) a 0 u).1.1):=rfl
 rw [eG];refine AC.vc hP sh lv186 (by simp) (by simp [isLive]) (by simp [isLive]) (Eq.mpr (v186 ..) ?_);refine ⟨(ls,er,⟨u.s,u.f,m,R⟩),hL,z0e (fun q=> ?_) (fun q=> ?_)⟩
 · rw [if_pos q];exact ⟨.refl _,rfl⟩
 rw [if_neg (fun w=>w q)];have oku:=okl q;have h0:=oku.f0;have h1:=oku.f1;have hT:=zhi K hK ⟨x.h,x.c.a,ls⟩ (z80 l4) (by dsimp only;omega) m R (u.f.toNat+1) 0 (Int.le_refl _) a u oku (by omega) (by omega);obtain ⟨t1,t2⟩:=z7y (K:=K) ⟨x.h,x.c.a,ls⟩ (z80 l4) (by dsimp only;omega) (u.f.toNat+1) a 0 oku (by omega);have okt:=fun h=>t1.ok oku h;generalize z1h ⟨x.h,x.c.a,ls⟩ (u.f.toNat+1) a 0 u=y at*;obtain ⟨⟨t,et⟩,y2⟩:=y;dsimp only at hT t1 t2 okt ⊢;refine ⟨(t,et,⟨y2.s,y2.f,m,R⟩),hT,z0e (fun q2=> ?_) (fun q2=> ?_)⟩
 · rw [if_pos q2];exact ⟨.refl _,rfl⟩
 · rw [if_neg (fun w=>w q2)];have t0:=t1.f0;have hS:=c_wset K hK y2 m R (okt q2) x.h (z2n ls.length t) (by rw [zae];simp only [B];omega);have hlm:=zap ls.length t (by omega);rw [z00];exact ⟨rfl,_,hlm,((setW y2 x.h (z2n ls.length t)).1,⟨(setW y2 x.h (z2n ls.length t)).2.s,(setW y2 x.h (z2n ls.length t)).2.f,m,R⟩),hS, .refl _,rfl⟩
theorem zou (K:Nat)(w:Wp)(m:Nat)(R:List (List FV))(ok:OkW K w)(x:Sd)(a:Int):AC Tryz.prog 244 [aWk,aSd x,ci a] (oWk w m R) (t2 (z3j w x a).1) (oWk' (z3j w x a).2 m R):=by
 have hL:=c_pLift w.s a 1 ok.h;have mv:=zjn w.s a 1
 have e:z3j w x a=if x.c.t=6 then ((x.c.a,0),w)
  else if (z2a w.s a 1).1.2≠0 then ((0,(z2a w.s a 1).1.2),⟨(z2a w.s a 1).2,w.f⟩)
  else if (putS (z2a w.s a 1).2 ⟨3,0,0,0,0⟩).1.2≠0 then ((0,(putS (z2a w.s a 1).2 ⟨3,0,0,0,0⟩).1.2),⟨(putS (z2a w.s a 1).2 ⟨3,0,0,0,0⟩).2,w.f⟩)
  else ((putS (putS (z2a w.s a 1).2 ⟨3,0,0,0,0⟩).2 ⟨7,(z2a w.s a 1).1.1,(putS (z2a w.s a 1).2 ⟨3,0,0,0,0⟩).1.1,0,0⟩).1,
   ⟨(putS (putS (z2a w.s a 1).2 ⟨3,0,0,0,0⟩).2 ⟨7,(z2a w.s a 1).1.1,(putS (z2a w.s a 1).2 ⟨3,0,0,0,0⟩).1.1,0,0⟩).2,w.f⟩):=rfl
 rw [e];generalize z2a w.s a 1=z at*;have ok1:=mv.ok ok.h;have hp:=z27 z.2 ⟨3,0,0,0,0⟩ (by have:=ok1.C;omega);have ok2:=ok1.put ⟨3,0,0,0,0⟩;generalize putS z.2 ⟨3,0,0,0,0⟩=y at*;have hq:=z27 y.2 ⟨7,z.1.1,y.1.1,0,0⟩ (by have:=ok2.C;omega);generalize putS y.2 ⟨7,z.1.1,y.1.1,0,0⟩=u at*;obtain ⟨⟨z1,z2⟩,zs⟩:=z;refine AC.vc hP sh lv244 (by simp) (by simp [isLive]) (by simp [isLive]) (Eq.mpr (v244 ..) ?_);refine z04 (fun t6=> ?_) (fun t6=>⟨(z1,z2,zs),hL,z0e (fun q=> ?_) (fun q=>⟨y,hp,z0e (fun q2=> ?_) (fun q2=>⟨u,hq, ?_⟩)⟩)⟩)
 · have t6:x.c.t=6:=t6;rw [if_pos t6];exact ⟨.refl _,rfl⟩
 · have t6:¬x.c.t=6:=t6;rw [if_neg t6,if_pos q];exact ⟨.refl _,rfl⟩
 · have t6:¬x.c.t=6:=t6;rw [if_neg t6,if_neg (fun w=>w q),if_pos q2];exact ⟨.refl _,rfl⟩
 · have t6:¬x.c.t=6:=t6;rw [if_neg t6,if_neg (fun w=>w q),if_neg (fun w=>w q2)];exact ⟨.refl _,rfl⟩
end Go.AM

set_option maxRecDepth 100000
open Go Go.Proofs
namespace Go.AM
abbrev obSd (x:Sd):AObj:= .arr 7 [[.a (.fz (.int .i64 x.h)), .a (.fz (.sl false 1 (IR x.js))), .a (.fz (.int .i64 x.c.t)), .a (.fz (.int .i64 x.c.a)), .a (.fz (.int .i64 x.c.b)), .a (.fz (.int .i64 x.c.c)), .a (.fz (.int .i64 x.c.d))]]
abbrev stPr (x:Sd)(as_ bs on:List Tm)(w:Wp)(m:Nat)(R:List (List FV))(i:Int):St:=
 if on=[] then ⟨[(0,aWk),(4, .c (.a (.ep 11 7 0 0))),(7,aL as_),(9,aL bs),(10, .c (.a (.fz .N))),(48,ci (as_.length:Int)),(49,ci i)],wkH w m R++ [(11,obSd x)],12⟩
 else ⟨[(0,aWk),(4, .c (.a (.ep 11 7 0 0))),(7,aL as_),(9,aL bs),(10, .c (.a (.osl 12 4 0 on.length))),(48,ci (as_.length:Int)),(49,ci i)],wkH w m R++ [(11,obSd x),(12, .arz 4 (FTs on))],13⟩
theorem zje:∀ (a b:List Tm),ones (onZ a b)∧(onZ a b).length≤a.length
 | [],_=>⟨(fun t ht=>by simp [onZ] at ht),by simp [onZ]⟩
 | _::_,[]=>⟨(fun t ht=>by simp [onZ] at ht),by simp [onZ]⟩
 | a::l,b::r=>by
  obtain ⟨h1,h2⟩:=zje l r;rw [onZ];split
  · exact ⟨zdf (fun t ht=>by rw [List.mem_singleton.1 ht];rfl) h1,by simp;omega⟩
  · exact ⟨h1,by simp;omega⟩
theorem zj9 (K:Nat) (hK:K≤1000000000) (x:Sd) (w:Wp) (m:Nat) (R:List (List FV)) (ok:OkW K w) (as_ bs:List Tm) (hl:as_.length≤10000000) (Z:Int×Wp)
  (full:(onZ as_ bs).length=as_.length→Z=(0,w)) (part:(onZ as_ bs).length≠as_.length→Z=((z3x w x.h x.c.a as_.length (onZ as_ bs)).1.2,(z3x w x.h x.c.a as_.length (onZ as_ bs)).2)):
  ∀ (b pre d c on:List Tm),as_=pre++b→bs=d++c→pre.length=d.length→b.length=c.length→on.length≤pre.length→onZ as_ bs=on++onZ b c→
  RPt Tryz.prog 185 7 (ci Z.1) (oWk' Z.2 m R) 3 (stPr x as_ bs on w m R (pre.length:Int))
 | [],pre,d,c,on,hp,hd,_,hc,ho,hq=>by
  rw [List.append_nil] at hp;have hpl:as_.length=pre.length:=by rw [hp]
  have e1:onZ [] c=[]:=by simp [onZ]
  rw [e1,List.append_nil] at hq;have oo:=zje as_ bs;rw [hq] at full part oo;have hh:=znt K hK w m R ok x.h x.c.a as_.length on (by omega) (by rw [z7l oo.1];omega);generalize z3x w x.h x.c.a as_.length on=z at*;obtain ⟨⟨t,e⟩,u⟩:=z;dsimp only at part hh;unfold stPr;by_cases hn:on=[]
  · subst hn;rw [if_pos rfl];refine RPt.vc hP sh zh1 (Eq.mpr (zlz ..) ?_);simp only [z00];refine z01 (fun h=>absurd (of_decide_eq_true h) (by omega)) (fun _=>⟨by trivial,by trivial,z04 (fun c1=> ?_) (fun c1=>⟨by trivial,(t,e,⟨u.s,u.f,m,R⟩),hh.args ⟨.refl _, .refl _, .refl _, .refl _,leNs,trivial⟩, ?_⟩)⟩)
    · rw [full (by simp only [List.length_nil];omega)];exact ⟨.refl _,rfl⟩
    · rw [part (by simp only [List.length_nil];omega)];exact ⟨.refl _,rfl⟩
  · rw [if_neg hn];refine RPt.vc hP sh zh1 (Eq.mpr (zn3 ..) ?_);simp only [z00];refine z01 (fun h=>absurd (of_decide_eq_true h) (by omega)) (fun _=>⟨by trivial,z04 (fun c1=> ?_) (fun c1=>⟨by trivial,⟨by trivial,by omega⟩, ?_⟩)⟩)
    · rw [full (by omega)];exact ⟨.refl _,rfl⟩
    · rw [List.drop_zero,List.take_of_length_le (l:=FTs on) (by rw [z00];exact Nat.le_refl _),part (by omega)];exact ⟨(t,e,⟨u.s,u.f,m,R⟩),hh, .refl _,rfl⟩
 | a::b,pre,d,[],on,_,_,_,hc,_,_=>by simp at hc
 | a::b,pre,d,g::c,on,hp,hd,hpd,hc,ho,hq=>by
  have hlen:as_.length=pre.length+(b.length+1):=by rw [hp];simp
  have hlen2:bs.length=d.length+(c.length+1):=by rw [hd];simp
  have em:List.getD (FTs as_) (Int.toNat (pre.length:Int)) []=FT a:=by rw [hp];exact midI pre a b
  have em2:List.getD (FTs bs) (Int.toNat (pre.length:Int)) []=FT g:=by rw [hpd,hd];exact midI d g c
  have h3:((pre.length:Nat):Int)<(((FTs as_).length:Nat):Int):=by rw [z00];omega
  have h4:((pre.length:Nat):Int)<(((FTs bs).length:Nat):Int):=by rw [z00];simp only [List.length_cons] at hc;omega
  have hs:=zhp a g;have hb:=z7m (b.length:Int)
  have ww:IntKind.wrap .i64 (IntKind.wrap .i64 ((((FTs as_).length:Nat):Int)-1)-(pre.length:Int))=(b.length:Int):=by
   rw [z00,w64 (x:=(as_.length:Int)-1) (by omega) (by omega),w64 (by omega) (by omega)];omega
  have nx:=fun (on':List Tm) h1 h2=>zj9 K hK x w m R ok as_ bs hl Z full part b (pre++ [a]) (d++ [g]) c on' (by rw [hp];simp) (by rw [hd];simp) (by simp [hpd]) (by simpa using hc) h1 h2;rw [show (((pre++ [a]).length:Nat):Int)=(pre.length:Int)+1 by simp] at nx;have e0:onZ (a::b) (g::c)=(if lfZ a g=true then [bndT (b.length:Int)] else [])++onZ b c:=rfl
  rw [e0] at hq;generalize lfZ a g=q at*
  have skip:q=false→RPt Tryz.prog 185 7 (ci Z.1) (oWk' Z.2 m R) 3 (stPr x as_ bs on w m R ((pre.length:Int)+1)):=fun h=>by
   rw [h,if_neg (by simp),List.nil_append] at hq;exact nx on (by simp;omega) hq
  have take:q=true→RPt Tryz.prog 185 7 (ci Z.1) (oWk' Z.2 m R) 3 (stPr x as_ bs (on++ [bndT (b.length:Int)]) w m R ((pre.length:Int)+1)):=fun h=>by
   rw [if_pos h] at hq;exact nx (on++ [bndT (b.length:Int)]) (by simp;omega) (by rw [hq];simp)
  clear nx full part;have op:FV.L 4 (.sl false 4 (FTs as_))=true∧((0:Int)≤(pre.length:Int)∧(((pre.length:Int)<(((FTs as_).length:Nat):Int))∧((rE (FT a):List FV)=FT a))):=⟨rfl,by omega,h3,z4c a⟩;have op2:FV.L 4 (.sl false 4 (FTs bs))=true∧((0:Int)≤(pre.length:Int)∧(((pre.length:Int)<(((FTs bs).length:Nat):Int))∧((rE (FT g):List FV)=FT g))):=⟨rfl,by omega,h4,z4c g⟩;unfold stPr at skip take ⊢;rw [if_neg (z41 on _)] at take;by_cases hn:on=[]
  · subst hn;rw [if_pos rfl] at skip ⊢;refine RPt.vc hP sh zh1 (Eq.mpr (zlz ..) ?_);rw [em,em2,w64 (x:=(pre.length:Int)+1) (by omega) (by omega),ww,z4d,z4d];exact z01 (fun _=>⟨op,op2,q,hs,z01 (fun c=>⟨rfl,_,hb,Nat.le_refl _,z4p (by omega),by rw [z4f];exact take c⟩) (fun c=>skip c)⟩) (fun h=>absurd (of_decide_eq_false h) (by omega))
  · rw [if_neg hn] at skip ⊢;refine RPt.vc hP sh zh1 (Eq.mpr (zn3 ..) ?_);rw [em,em2,w64 (x:=(pre.length:Int)+1) (by omega) (by omega),ww,z4d,z4d];have r1:on.length≤(FTs on).length∧z0b (on.length+1) 56:=⟨by rw [z00];exact Nat.le_refl _,z4p (by omega)⟩;refine z01 (fun _=>⟨op,op2,q,hs,z01 (fun c=>⟨rfl,_,hb,Nat.le_refl _,r1, ?_⟩) (fun c=>skip c)⟩) (fun h=>absurd (of_decide_eq_false h) (by omega));rw [List.take_of_length_le (l:=FTs on) (by rw [z00];exact Nat.le_refl _),z4f];have:=take c;rw [z1y,List.length_append] at this;exact this
theorem c_wprune (K:Nat)(hK:K≤1000000000)(w:Wp)(m:Nat)(R:List (List FV))(ok:OkW K w)(x y:Sd)(hx:x.js.length≤10000000)(hy:y.js.length≤10000000):AC Tryz.prog 185 [aWk,aSd x,aSd y] (oWk w m R) (ci (z5l w x y).1) (oWk' (z5l w x y).2 m R):=by
 have h1:=z7s K x.c.a m R x.js (by omega) w ok;obtain ⟨a1,_,a3,_⟩:=z1x (K:=K) x.c.a x.js [] ok (fun t ht=>nomatch ht);simp only [List.length_nil] at a3;have h2:=fun h=>z7s K y.c.a m R y.js (by omega) (z03 x.c.a x.js [] w).2 (a1.ok ok h);have b1:=fun h=>(z1x (K:=K) y.c.a y.js [] (a1.ok ok h) (fun t ht=>nomatch ht)).1;have okn:=fun h=>a1.ok ok h;unfold z5l;generalize z03 x.c.a x.js [] w=z at*;generalize z03 y.c.a y.js [] z.2=u at*;obtain ⟨⟨as_,e1⟩,w1⟩:=z;obtain ⟨⟨bs,e2⟩,w2⟩:=u;dsimp only at*;refine AC.vc hP sh zh1 (by simp) (by simp [isLive]) (by simp [isLive]) (Eq.mpr (v185 ..) ?_);refine ⟨(as_,e1,⟨w1.s,w1.f,m,R⟩),h1,z0e (fun q=> ?_) (fun q=>⟨(bs,e2,⟨w2.s,w2.f,m,R⟩),h2 q,z0e (fun q2=> ?_) (fun q2=>⟨rfl,rfl, ?_⟩)⟩)⟩
 · rw [if_pos q];exact ⟨.refl _,rfl⟩
 · rw [if_neg (fun w=>w q),if_pos q2];exact ⟨.refl _,rfl⟩
 · rw [if_neg (fun w=>w q),if_neg (fun w=>w q2),z00,z00];have ok2:=(b1 q).ok (okn q) q2;refine z0e (fun q3=> ?_) (fun q3=>⟨rfl, ?_⟩)
   · have q3:(as_.length:Int)≠(bs.length:Int):=q3;rw [if_pos (by omega)];exact ⟨.refl _,rfl⟩
   · have q3:(as_.length:Int)=(bs.length:Int):=q3;have q3:as_.length=bs.length:=by omega
     rw [if_neg (fun w=>w q3)];exact zj9 K hK x w2 m R ok2 as_ bs (by omega) (if (onZ as_ bs).length=as_.length then (0,w2) else ((z3x w2 x.h x.c.a as_.length (onZ as_ bs)).1.2,(z3x w2 x.h x.c.a as_.length (onZ as_ bs)).2)) (fun h=>if_pos h) (fun h=>if_neg h) as_ [] [] bs [] rfl rfl rfl q3 (Nat.le_refl _) rfl
def PR (l:List (Int×Int)):List (List FV):=l.map fun p=> [.int .i64 p.1, .int .i64 p.2]
theorem zcb (l:List (Int×Int)):(PR l).length=l.length:=by simp [PR]
theorem zfr (a b:List (Int×Int)):PR (a++b)=PR a++PR b:=by simp [PR]
def stkZ (R:List (List FV))(n:Nat)(ps:List (Int×Int)):List (List FV):=if ps=[] then R else R.take n++PR ps
theorem zfb {R:List (List FV)}{n:Nat}(hn:n≤R.length)(ps:List (Int×Int)):n+ps.length≤(stkZ R n ps).length∧(stkZ R n ps).take (n+ps.length)=R.take n++PR ps:=by
 unfold stkZ;split
 · rename_i h;subst h;simp [PR,hn]
 · have h1:(R.take n++PR ps).length=n+ps.length:=by simp [zcb];omega
   exact ⟨by omega,List.take_of_length_le (by omega)⟩
abbrev oOw (z:Ow)(m:Nat)(R:List (List FV)):List AObj:=oWk' z.2 (m+z.1.2.length) (stkZ R m z.1.2.reverse)
abbrev aP2 (p:Int×Int):TV:= .agg [.a (.fz (.int .i64 p.1)), .a (.fz (.int .i64 p.2))]
theorem c_wunder (K:Nat)(w:Wp)(m:Nat)(R:List (List FV))(hm:m≤R.length)(hm2:m≤1099511627776)(ok:OkW K w)(x y:Sd)(p:Int×Int):AC Tryz.prog 183 [aWk,aSd x,aSd y,aP2 p] (oWk w m R) (ci (z9b w x y p).1.1) (oOw (z9b w x y p) m R):=by
 have h1:=zou K w m R ok x p.1;have a1:=zdd ok x p.1;have h2:=fun h=>zou K (z3j w x p.1).2 m R (a1.ok ok h) y p.2;unfold z9b;generalize z3j w x p.1=z at*;generalize z3j z.2 y p.2=u at*;obtain ⟨⟨r1,e1⟩,w1⟩:=z;obtain ⟨⟨r2,e2⟩,w2⟩:=u;dsimp only at*;refine AC.vc hP sh lv183 (by simp) (by simp [isLive]) (by simp [isLive]) (Eq.mpr (v183 ..) ?_);refine ⟨(r1,e1,⟨w1.s,w1.f,m,R⟩),h1,z0e (fun q=> ?_) (fun q=>⟨(r2,e2,⟨w2.s,w2.f,m,R⟩),h2 q,z0e (fun q2=> ?_) (fun q2=>⟨Nat.le_refl _,⟨hm,by unfold z0b;dsimp only;omega⟩, ?_⟩)⟩)⟩
 · rw [if_pos q];exact ⟨.refl _,rfl⟩
 · rw [if_neg (fun w=>w q),if_pos q2];exact ⟨.refl _,rfl⟩
 · rw [if_neg (fun w=>w q),if_neg (fun w=>w q2)];exact ⟨.refl _,rfl⟩
def zhg (P:Program)(S E:TypeId):Bool:=
 match tyOf P S,tyOf P E with
 | some dS,some dE=>(match dS.kind with | .slice e=>Nat.beq e E | _=>false) && !dS.agg && !dE.agg&&Nat.beq dE.size 1
 | _,_=>false
theorem RPt.backI {P:Program} {sh:FuncId→List Sh} {lv:List (Nat×List Nat)} {f:FuncId} {m m0 p oc:Nat} {r:TV} {Hs':List AObj} {U live:List Nat} {env:Env} {s0:St} {α:Type} {H:α→AHeap} {nx:α→Nat} {Inv:α→Prop} {idx:α→Nat} {x0:α} {bk:FuncId} {S E:TypeId} {g:Operand} {es:List Int}
  (hP:P.follows .mixedOrders=true) (hrg:rngB P f p=some g) (hbk:IsBk P bk S E) (hT:zhg P S E=true)
  (hs:prepV m0 U live (fun s'=>s'=⟨env,H x0,nx x0⟩) s0) (hm:Nat.ble m m0=true) (henv:env.all (fun p=>p.2.lt m0)=true)
  (hg:ev env g= .c (.fn (.func bk) [] [(false,[.ep oc 1 0 0])])) (hoc:Nat.blt oc m0=true) (hnx:∀ x,Inv x→m0≤nx x)
  (hbox:∀ x,Inv x→hook (H x) oc= .arr 1 [[.a (.fz (.sl false 1 (IR es)))]]) (hN:es.length<9223372036854775808)
  (hidx:∀ x,Inv x→idx x≤es.length)
  (hround:∀ x k (hk:k<es.length),Inv x→idx x=k+1→vcR P sh f m0 U p env k (.c (.a (.fz (.int .i64 es[k])))) (H x) (nx x) fun h n=> ∃ x',(Inv x'∧idx x'=k)∧h=H x'∧n=nx x')
  (hx0:Inv x0) (hi0:idx x0=es.length) (hdone:∀ x,Inv x→idx x=0→vcA P sh lv f m (fun r0 Hs0=>TV.Le r0 r∧Hs0=Hs') (RPt P f m r Hs') p ⟨env,H x,nx x⟩):
  RPt P f m r Hs' p s0:=by
 unfold zhg at hT;split at hT
 · rename_i dS dE hS hE;split at hT
   · rename_i e hk;simp only [Bool.and_eq_true,Bool.not_eq_true'] at hT;obtain ⟨⟨⟨h1,h2⟩,h3⟩,h4⟩:=hT;have h1:=Nat.eq_of_beq_eq_true h1;have h4:=Nat.eq_of_beq_eq_true h4;subst h1;refine RPt.back (y:=fun x=> .c (.a (.fz (.pt ((IR es).getD (idx x-1) []))))) (v:=fun x=> .c (.a (.fz (.int .i64 (es.getD (idx x-1) 0))))) (xs:= .c (.a (.fz (.sl false 1 (IR es))))) (N:=(IR es).length) (rdn:=[]) hP hrg hbk hS hk hE hs hm henv hg hoc hnx (fun x hx=> ?_) rfl (by rw [z05];exact hN) (fun x k hx hix=> ?_) (fun x k hx hix=> ?_) hx0 (by rw [z05];exact hi0) hdone
     · refine ⟨[oc], ?_⟩;unfold z4q;simp only [hbox x hx];show (if 1=1 then _ else none)=_
       rw [if_pos rfl];show (match zd8 dS [.a (.fz (.sl false 1 (IR es)))] with | some v=>some (v,[oc]) | none=>none)=_
       unfold zd8;rw [h2];rfl
     · have hle:=hidx x hx;have hlt:k<es.length:=by omega
       have hlt2:k<(IR es).length:=by rw [z05];exact hlt
       refine ⟨[], ?_, ?_⟩
       · unfold z24 iV;simp only [hk,hE,zcg];rw [if_pos ⟨h4,by omega,by omega⟩,Int.toNat_natCast,hix,Nat.add_sub_cancel]
       · unfold z4q;simp only [hix,Nat.add_sub_cancel];rw [z2i hlt,show es.getD k 0=es[k] by simp [List.getD,hlt]];unfold zd8;rw [h3];rfl
     · have hle:=hidx x hx;have hlt:k<es.length:=by omega
       have:=hround x k hlt hx hix;simp only [hix,Nat.add_sub_cancel,show es.getD k 0=es[k] by simp [List.getD,hlt]];exact this
   · cases hT
 · cases hT
abbrev fnI (bk oc:Nat):TV:= .c (.fn (.func bk) [] [(false,[.ep oc 1 0 0])])
theorem znh (l:List (List FV)):AC Tryz.prog 67 [.c (.a (.fz (.sl false 1 l)))] [] (fnI 122 0) [.arr 1 [[.a (.fz (.sl false 1 l))]]]:=by
 refine AC.vc hP sh lv67 (by simp) (by simp) (by simp [isLive]) (Eq.mpr (v67 ..) ?_);exact ⟨.refl _,rfl⟩
theorem isBkI:IsBk Tryz.prog 122 22 3:=⟨by kernel_rfl,_,214,3,4,Tryz.func122,by kernel_rfl,by kernel_rfl,by kernel_rfl⟩
theorem bTyI:zhg Tryz.prog 22 3=true:=by kernel_rfl
abbrev hpOn (w:Wp)(n:Nat)(R:List (List FV))(x y:Sd):AHeap:=
 [(0,wk3 1 17 w.f n),(1,hp6 14 15 16 5 w.s),(2, .gone),(3, .gone),(4, .gone),(5, .mapz (NM w.s.N 0)),(6, .gone),(7, .gone),(8, .gone),(9, .gone),(10, .gone),(11, .arr 1 [[.a (.ep 0 3 0 0)]]),(12,obSd y),(13, .arr 1 [[.a (.fz (.sl false 1 (IR x.js)))]]),(14, .arz 5 (CR w.s.C)),(15, .arz 7 (TR w.s.T)),(16, .arz 1 (NR w.s.N)),(17, .arz 2 R)]
theorem l_wone (w:Wp)(n:Nat)(R:List (List FV))(x y:Sd)(hab:x.js.length=y.js.length)(hn:n≤R.length)(hs:n+x.js.length≤1099511627776):
  RPt Tryz.prog 123 7 (ci 0) (oWk' w (n+x.js.length) (stkZ R n (x.js.zip y.js).reverse)) 3 ⟨[(2, .c (.a (.ep 11 1 0 0))),(7, .c (.a (.ep 12 7 0 0))),(90,fnI 122 13)],wkH w n R++ [(11, .arr 1 [[.a (.ep 0 3 0 0)]]),(12,obSd y),(13, .arr 1 [[.a (.fz (.sl false 1 (IR x.js)))]])],14⟩:=by
 have hz:(x.js.zip y.js).length=x.js.length:=by simp [hab]
 refine RPt.backI (sh:=sh) (lv:=lv123) (α:=Nat) (Inv:=fun i=>i≤x.js.length) (idx:=fun i=>i) (nx:=fun _=>18) (m0:=14) (U:=[7,8,9,10]) (live:=[2,7,90]) (oc:=13) (es:=x.js) (x0:=x.js.length) (g:= .tmp 90) (env:=[(2, .c (.a (.ep 11 1 0 0))),(7, .c (.a (.ep 12 7 0 0))),(90,fnI 122 13)])
  (H:=fun i=>hpOn w (n+(x.js.length-i)) (stkZ R n ((x.js.zip y.js).drop i).reverse) x y) hP (by kernel_rfl) isBkI bTyI ?_ (by kernel_rfl) (by kernel_rfl) (by kernel_rfl) (by kernel_rfl) (fun _ _=>by omega) (fun _ _=>rfl) (by omega) (fun i hi=>hi) (fun i k ha hi hik=> ?_) (Nat.le_refl _) rfl (fun i hi h0=> ?_)
 · refine Eq.mpr (v123_3an ..) ?_;rw [Nat.sub_self,Nat.add_zero,List.drop_eq_nil_of_le (by omega)];rfl
 · have hik:i=k+1:=hik;have hi:i≤x.js.length:=hi;subst hik;have hb:k<y.js.length:=by omega
   have hd:=zfb hn ((x.js.zip y.js).drop (k+1)).reverse;have hrl:(((x.js.zip y.js).drop (k+1)).reverse).length=x.js.length-(k+1):=by simp [hab]
   rw [hrl] at hd;have eb:List.getD (IR y.js) (Int.toNat ((k:Nat):Int)) []=[.int .i64 y.js[k]]:=by rw [Int.toNat_natCast];exact z2i hb
   have edz:(x.js.zip y.js).drop k=(x.js[k],y.js[k])::(x.js.zip y.js).drop (k+1):=by
    rw [List.drop_eq_getElem_cons (by omega)];simp
   have estk:stkZ R n ((x.js.zip y.js).drop k).reverse=List.take (n+(x.js.length-(k+1))) (stkZ R n ((x.js.zip y.js).drop (k+1)).reverse)++ [[.int .i64 x.js[k], .int .i64 y.js[k]]]:=by
    rw [hd.2,edz,List.reverse_cons];unfold stkZ;rw [if_neg (by simp),zfr,←List.append_assoc];rfl
   have en:n+(x.js.length-k)=n+(x.js.length-(k+1))+1:=by omega
   generalize x.js[k]=u at*;generalize y.js[k]=v at*;refine Eq.mpr (zq ..) ?_;rw [eb,z05];refine ⟨⟨rfl,by omega,by omega,rfl⟩,Nat.le_refl _,⟨hd.1,by unfold z0b;omega⟩,k,⟨(by omega:k≤x.js.length),rfl⟩, ?_,rfl⟩;show _=hpOn w (n+(x.js.length-k)) (stkZ R n ((x.js.zip y.js).drop k).reverse) x y;rw [estk,en];rfl
 · have h0:i=0:=h0;subst h0;refine Eq.mpr (zmo ..) ?_;rw [List.drop_zero,Nat.sub_zero];exact ⟨.refl _,rfl⟩
end Go.AM

set_option maxRecDepth 100000
open Go Go.Proofs
namespace Go.AM
theorem c_wone (K:Nat)(hK:K≤1000000000)(w:Wp)(m:Nat)(R:List (List FV))(hm:m≤R.length)(hm2:m≤549755813888)(ok:OkW K w)(p:Int×Int)(j1:(lookW w p.1).1.1.js.length≤100000)(j2:(lookW (lookW w p.1).2 p.2).1.1.js.length≤100000):
  AC Tryz.prog 123 [aWk,aP2 p] (oWk w m R) (ci (oneW w p).1.1) (oOw (oneW w p) m R):=by
 have h1:=zhv K w m R ok p.1;obtain ⟨a1,_,_⟩:=z2y ok p.1;have ok1:=fun h=>a1.ok ok h;have h2:=fun h=>zhv K (lookW w p.1).2 m R (ok1 h) p.2;have b1:=fun h=>(z2y (ok1 h) p.2).1;unfold oneW;generalize lookW w p.1=z at*;generalize lookW z.2 p.2=u at*;obtain ⟨⟨x,e1⟩,w1⟩:=z;obtain ⟨⟨y,e2⟩,w2⟩:=u;dsimp only at*;have fx:=zhs x;have fy:=zhs y;have cl:=c_hclash x y;refine AC.vc hP sh lv123 (by simp) (by simp [isLive]) (by simp [isLive]) (Eq.mpr (v123 p.1 p.2 ..) ?_);refine ⟨(x.h,x.js,x.c.t,x.c.a,x.c.b,x.c.c,x.c.d,e1,⟨w1.s,w1.f,m,R⟩),h1,z0e (fun q=> ?_) (fun q=>⟨(y.h,y.js,y.c.t,y.c.a,y.c.b,y.c.c,y.c.d,e2,⟨w2.s,w2.f,m,R⟩),h2 q,z0e (fun q2=> ?_) (fun q2=> ?_)⟩)⟩
 · rw [if_pos q];exact ⟨.refl _,rfl⟩
 · rw [if_neg (fun w=>w q),if_pos q2];exact ⟨.refl _,rfl⟩
 have q:e1=0:=q;have q2:e2=0:=q2;rw [if_neg (fun w=>w q),if_neg (fun w=>w q2)];have ok2:=(b1 q).ok (ok1 q) q2;have un:=c_wunder K w2 m R hm (by omega) ok2 x y p;have pr:=c_wprune K hK w2 m R ok2 x y (by omega) (by omega);have bx:=zmb K hK w2 m R ok2 x p.2 j1;have by_:=zmb K hK w2 m R ok2 y p.1 j2;unfold oneG
 have uw:∀ z:Ow,AC Tryz.prog 183 [aWk,aSd x,aSd y,aP2 p] (oWk w2 m R) (ci z.1.1) (oOw z m R)→∃ z3:Int×Wk,AC Tryz.prog 183 [aWk,aSd x,aSd y,aP2 p] (oWk w2 m R) (ci z3.1) (oWk' ⟨z3.2.s,z3.2.f⟩ z3.2.n z3.2.R)∧TV.Le (ci z3.1) (ci z.1.1)∧oWk' ⟨z3.2.s,z3.2.f⟩ z3.2.n z3.2.R=oOw z m R:=fun z hz=>
  ⟨(z.1.1,⟨z.2.s,z.2.f,m+z.1.2.length,stkZ R m z.1.2.reverse⟩),hz, .refl _,rfl⟩
 refine z04 (fun x6=> ?_) (fun x6=>z04 (fun y6=> ?_) (fun y6=> ?_))
 · have x6:x.c.t=6:=x6;rw [if_pos (.inl x6)];exact uw _ un
 · have y6:y.c.t=6:=y6;rw [if_pos (.inr y6)];exact uw _ un
 have x6:¬x.c.t=6:=x6;have y6:¬y.c.t=6:=y6;rw [if_neg (fun w=>w.elim x6 y6)];clear uw un;refine ⟨_,fx,z04 (fun x4=>⟨_,fy,z04 (fun y4=>z04 (fun hh=> ?_) (fun hh=>⟨_,fx,z04 (fun _=> ?_) (fun h=>absurd x4 h)⟩)) (fun y4=>⟨_,fx,z04 (fun _=> ?_) (fun h=>absurd x4 h)⟩)⟩) (fun x4=>⟨_,fx,z04 (fun h=>absurd h x4) (fun _=>⟨_,fy,z04 (fun y4=> ?_) (fun y4=>⟨_,cl,z01 (fun c=> ?_) (fun c=>⟨_,znh (IR x.js), ?_⟩)⟩)⟩)⟩)⟩
 · have hh:x.h=y.h:=hh;rw [if_pos ⟨x4,y4,hh⟩];exact ⟨((z5l w2 x y).1,⟨(z5l w2 x y).2.s,(z5l w2 x y).2.f,m,R⟩),pr, .refl _,rfl⟩
 · have hh:¬x.h=y.h:=hh;rw [if_neg (fun w=>hh w.2.2),if_pos x4];exact ⟨((z4s w2 x p.2).1,⟨(z4s w2 x p.2).2.s,(z4s w2 x p.2).2.f,m,R⟩),bx, .refl _,rfl⟩
 · rw [if_neg (fun w=>y4 w.2.1),if_pos x4];exact ⟨((z4s w2 x p.2).1,⟨(z4s w2 x p.2).2.s,(z4s w2 x p.2).2.f,m,R⟩),bx, .refl _,rfl⟩
 · rw [if_neg (fun w=>x4 w.1),if_neg x4,if_pos y4];exact ⟨((z4s w2 y p.1).1,⟨(z4s w2 y p.1).2.s,(z4s w2 y p.1).2.f,m,R⟩),by_, .refl _,rfl⟩
 · rw [if_neg (fun w=>x4 w.1),if_neg x4,if_neg y4,if_pos c];exact ⟨.refl _,rfl⟩
 · rw [if_neg (fun w=>x4 w.1),if_neg x4,if_neg y4,if_neg (by rw [c];simp)]
   have hl:x.js.length=y.js.length:=by
    have e:ziz x y=(x.c.t !=y.c.t||x.c.a !=y.c.a||x.js.length !=y.js.length):=rfl;rw [e] at c;simp at c;exact c.2
   have lo:=l_wone w2 m R x y hl hm (by omega);show RPt Tryz.prog 123 7 (ci 0) (oWk' w2 (m+(x.js.zip y.js).length) (stkZ R m (x.js.zip y.js).reverse)) 3 _;rw [show (x.js.zip y.js).length=x.js.length by simp [hl]];exact lo
theorem zet {R A:List (List FV)}{x:List FV}{m:Nat}(hA:A.length=m)(h:R.take (m+1)=A++ [x]):List.getD R m []=x∧R.take m=A∧m<R.length:=by
 have hl:(R.take (m+1)).length=m+1:=by rw [h];simp [hA]
 have hm:m<R.length:=by rw [List.length_take] at hl;omega
 refine ⟨?_, ?_,hm⟩
 · have:(R.take (m+1))[m]? =some x:=by rw [h,←hA];simp
   rw [List.getElem?_take_of_lt (by omega)] at this;simp [List.getD,this]
 · have:(R.take (m+1)).take m=A:=by rw [h,←hA];simp
   rw [List.take_take,Nat.min_eq_left (by omega)] at this;exact this
structure RunI (K:Nat)(I:Wp→List (Int×Int)→Prop):Prop where
 ok:∀ w st,I w st→OkW K w∧st.length≤500000000
 js:∀ w p st,I w (p::st)→0<w.f→(lookW ⟨w.s,w.f-1⟩ p.1).1.1.js.length≤100000∧(lookW (lookW ⟨w.s,w.f-1⟩ p.1).2 p.2).1.1.js.length≤100000
 nx:∀ w p st,I w (p::st)→0<w.f→(oneW ⟨w.s,w.f-1⟩ p).1.1=0→I (oneW ⟨w.s,w.f-1⟩ p).2 ((oneW ⟨w.s,w.f-1⟩ p).1.2++st)
theorem OkW.less {K:Nat}{w:Wp}(h:OkW K w)(h0:0<w.f):OkW K ⟨w.s,w.f-1⟩:=⟨h.h,by dsimp only;omega,by have:=h.f1;dsimp only;omega,h.n⟩
theorem l_wrun (K:Nat)(hK:K≤1000000000){I:Wp→List (Int×Int)→Prop}(hI:RunI K I):∀ (F:Nat) (w:Wp) (st:List (Int×Int)) (R:List (List FV)),w.f.toNat≤F→I w st→R.take st.length=PR st.reverse→
  ∃ n' R',RPt Tryz.prog 68 7 (ci (runZ F w st).1) (oWk' (runZ F w st).2 n' R') 1 ⟨[(0,aWk)],wkH w st.length R,11⟩
 | F,w,[],R,hF,hi,hR=>by
  refine ⟨0,R, ?_⟩;have e:runZ F w []=(0,w):=by cases F<;>rfl
  rw [e];refine RPt.vc hP sh z4x (Eq.mpr (z5j ..) ?_);exact z01 (fun h=>absurd (of_decide_eq_true h) (by simp)) (fun _=>⟨.refl _,rfl⟩)
 | F,w,p::st,R,hF,hi,hR=>by
  obtain ⟨ok,hs⟩:=hI.ok w _ hi;simp only [List.length_cons] at hs;have f0:=ok.f0;have f1:=ok.f1;rw [List.reverse_cons,zfr] at hR;obtain ⟨t1,t2,t3⟩:=zet (m:=st.length) (A:=PR st.reverse) (x:=[.int .i64 p.1, .int .i64 p.2]) (by simp [zcb]) hR
  have ew:IntKind.wrap .i64 ((((p::st).length:Nat):Int)-1)=(st.length:Int):=by
   rw [List.length_cons,w64 (by omega) (by omega)];omega
  have ep:List.getD R (0+(st.length:Int).toNat) []=[.int .i64 p.1, .int .i64 p.2]:=by rw [Int.toNat_natCast,Nat.zero_add];exact t1
  by_cases hf:w.f≤0
  · have e:runZ F w (p::st)=(80,w):=by
     cases F with
     | zero=>rfl
     | succ F=>rw [runZ,if_pos hf]
    refine ⟨st.length,R, ?_⟩;rw [e];refine RPt.vc hP sh z4x (Eq.mpr (z5j ..) ?_);rw [ew,ep];refine z01 (fun _=>⟨⟨by omega,by simp only [List.length_cons];omega⟩,⟨by rw [Int.toNat_natCast];omega,rfl,rfl⟩,⟨Int.le_refl _,by omega,by simp only [List.length_cons];omega⟩,z01 (fun _=>⟨.refl _,by rw [Int.toNat_natCast]⟩) (fun h=>absurd (of_decide_eq_false h) (by omega))⟩) (fun h=>absurd (of_decide_eq_false h) (by simp only [List.length_cons];omega))
  · cases F with
    | zero=>omega
    | succ F=>
     have hj:=hI.js w p st hi (by omega);have ok1:=ok.less (by omega);have hp:=c_wone K hK ⟨w.s,w.f-1⟩ st.length R (by omega) (by omega) ok1 p hj.1 hj.2;have hq:=(zmy ok1 p hj.1 hj.2).1.f1;have hn:=hI.nx w p st hi (by omega);have e:runZ (F+1) w (p::st)=if (oneW ⟨w.s,w.f-1⟩ p).1.1≠0 then ((oneW ⟨w.s,w.f-1⟩ p).1.1,(oneW ⟨w.s,w.f-1⟩ p).2) else runZ F (oneW ⟨w.s,w.f-1⟩ p).2 ((oneW ⟨w.s,w.f-1⟩ p).1.2++st):=by rw [runZ,if_neg hf]
     have next:(oneW ⟨w.s,w.f-1⟩ p).1.1=0→∃ n' R',RPt Tryz.prog 68 7 (ci (runZ F (oneW ⟨w.s,w.f-1⟩ p).2 ((oneW ⟨w.s,w.f-1⟩ p).1.2++st)).1) (oWk' (runZ F (oneW ⟨w.s,w.f-1⟩ p).2 ((oneW ⟨w.s,w.f-1⟩ p).1.2++st)).2 n' R') 1
       ⟨[(0,aWk)],wkH (oneW ⟨w.s,w.f-1⟩ p).2 (st.length+(oneW ⟨w.s,w.f-1⟩ p).1.2.length) (stkZ R st.length (oneW ⟨w.s,w.f-1⟩ p).1.2.reverse),11⟩:=fun h0=>by
      have hn:=hn h0;have hd:=zfb (n:=st.length) (R:=R) (by omega) (oneW ⟨w.s,w.f-1⟩ p).1.2.reverse;rw [List.length_reverse,t2] at hd;have:=l_wrun K hK hI F (oneW ⟨w.s,w.f-1⟩ p).2 ((oneW ⟨w.s,w.f-1⟩ p).1.2++st) (stkZ R st.length (oneW ⟨w.s,w.f-1⟩ p).1.2.reverse) (by dsimp only at hq;omega) hn (by rw [List.length_append,Nat.add_comm,hd.2,List.reverse_append,zfr]);rw [List.length_append,Nat.add_comm] at this;exact this
     rw [e];clear e hn hq hj;generalize oneW ⟨w.s,w.f-1⟩ p=q at*;obtain ⟨⟨qe,qp⟩,qw⟩:=q;dsimp only at next hp ⊢;by_cases h0:qe=0
     · rw [if_neg (by simp [h0])];obtain ⟨n',R',hr⟩:=next h0;refine ⟨n',R', ?_⟩;refine RPt.vc hP sh z4x (Eq.mpr (z5j ..) ?_);rw [ew,ep,w64 (x:=w.f-1) (by omega) (by omega),Int.toNat_natCast];exact z01 (fun _=>⟨⟨by omega,by simp only [List.length_cons];omega⟩,⟨by omega,rfl,rfl⟩,⟨Int.le_refl _,by omega,by simp only [List.length_cons];omega⟩,z01 (fun h=>absurd (of_decide_eq_true h) (by omega)) (fun _=>⟨(qe,⟨qw.s,qw.f,st.length+qp.length,stkZ R st.length qp.reverse⟩),hp,z0e (fun h=>absurd h0 h) (fun _=>hr)⟩)⟩) (fun h=>absurd (of_decide_eq_false h) (by simp only [List.length_cons];omega))
     · rw [if_pos h0];refine ⟨st.length+qp.length,stkZ R st.length qp.reverse, ?_⟩;refine RPt.vc hP sh z4x (Eq.mpr (z5j ..) ?_);rw [ew,ep,w64 (x:=w.f-1) (by omega) (by omega),Int.toNat_natCast];exact z01 (fun _=>⟨⟨by omega,by simp only [List.length_cons];omega⟩,⟨by omega,rfl,rfl⟩,⟨Int.le_refl _,by omega,by simp only [List.length_cons];omega⟩,z01 (fun h=>absurd (of_decide_eq_true h) (by omega)) (fun _=>⟨(qe,⟨qw.s,qw.f,st.length+qp.length,stkZ R st.length qp.reverse⟩),hp,z0e (fun _=>⟨.refl _,rfl⟩) (fun h=>absurd h h0)⟩)⟩) (fun h=>absurd (of_decide_eq_false h) (by simp only [List.length_cons];omega))
theorem c_wrun (K:Nat)(hK:K≤1000000000){I:Wp→List (Int×Int)→Prop}(hI:RunI K I)(w:Wp)(st:List (Int×Int))(hi:I w st):∃ n' R',AC Tryz.prog 68 [aWk] (oWk w st.length (PR st.reverse)) (ci (runZ w.f.toNat w st).1) (oWk' (runZ w.f.toNat w st).2 n' R'):=by
 obtain ⟨n',R',h⟩:=l_wrun K hK hI w.f.toNat w st (PR st.reverse) (Nat.le_refl _) hi (List.take_of_length_le (by rw [zcb,List.length_reverse];exact Nat.le_refl _));refine ⟨n',R',AC.vc hP sh z4x (by simp) (by simp [isLive]) (by simp [isLive]) (Eq.mpr (v68_i1 ..) ?_)⟩;exact h
theorem c_wrun0 (w:Wp):AC Tryz.prog 68 [aWk] [.arr 3 [[.a (.ep 1 6 0 0), .a (.fz .N), .a (.fz (.int .i64 w.f))]],hp6 2 3 4 5 w.s, .arz 5 (CR w.s.C), .arz 7 (TR w.s.T), .arz 1 (NR w.s.N), .mapz (NM w.s.N 0)] (ci 0)
  [.arr 3 [[.a (.ep 1 6 0 0), .a (.fz .N), .a (.fz (.int .i64 w.f))]],hp6 6 7 8 5 w.s, .gone, .gone, .gone, .mapz (NM w.s.N 0), .arz 5 (CR w.s.C), .arz 7 (TR w.s.T), .arz 1 (NR w.s.N)]:=by
 refine AC.vc hP sh lv68 (by simp) (by simp [isLive]) (by simp [isLive]) (Eq.mpr (v68 ..) ?_);refine RPt.vc hP sh lv68 (Eq.mpr (v68_1a ..) ?_);exact ⟨rfl, .refl _,rfl⟩
def RunL (K:Nat)(w:Wp)(st:List (Int×Int)):Prop:=OkW K w∧w.f≤100000∧st.length+w.f≤400000000
theorem runI_L (K:Nat):RunI K (RunL K) where
 ok:=fun w st h=>⟨h.1,by have:=h.2.2;have:=h.1.f0;omega⟩
 js:=fun w p st h h0=>by
  have ok1:=h.1.less h0;have hf:w.f-1≤100000:=by have:=h.2.1;omega
  refine ⟨z7f ok1 p.1 hf, ?_⟩;have h1:=(z2y ok1 p.1).1;by_cases q:(lookW ⟨w.s,w.f-1⟩ p.1).1.2=0
  · exact z7f (h1.ok ok1 q) p.2 (by have:=h1.f1;dsimp only at this;omega)
  · have ok2:OkW (K+1048577) (lookW ⟨w.s,w.f-1⟩ p.1).2:=⟨h1.h,h1.f0,by have:=h1.f1;have:=ok1.f1;dsimp only at*;omega,h1.m⟩;exact z7f ok2 p.2 (by have:=h1.f1;dsimp only at this;omega)
 nx:=fun w p st h h0 q=>by
  have ok1:=h.1.less h0;have hf:w.f-1≤100000:=by have:=h.2.1;omega
  obtain ⟨g1,g2⟩:=zj4 ok1 p hf;have g2:=g2 q;have f1:=g1.f1;dsimp only at g2 f1;refine ⟨g1.ok ok1 q,by omega, ?_⟩;have:=h.2.2;simp only [List.length_cons] at this;simp only [List.length_append];omega
end Go.AM

set_option maxRecDepth 100000
open Go Go.Proofs
namespace Go.AM
def GoodZ (s:Hp):Prop:=∀ e∈s.T,0≤e.o∧e.o<(s.C.length:Int)∧e.top<(s.C.length:Int)
theorem putZ_or (s:Hp)(c:Cel):(putS s c).2=s∨(putS s c).2={ s with C:=s.C++ [c] }:=by
 unfold putS;split
 · exact .inl rfl
 · split
   · exact .inl rfl
   · exact .inr rfl
theorem setZ_or (s:Hp)(x:Int)(c:Cel):(setS s x c).2=s∨inC s.C x=true∧(setS s x c).2={ s with C:=s.C.set x.toNat c,T:=s.T++ [⟨x,z07 s.C x,topS s.T x⟩] }:=by
 unfold setS;split
 · exact .inl rfl
 · rename_i h;split
   · exact .inl rfl
   · split
     · exact .inl rfl
     · split
       · exact .inl rfl
       · exact .inr ⟨by simpa using h,rfl⟩
theorem topZ_lt {T:List Trl}{x n:Int}(hx:x<n)(hT:∀ e∈T,e.top<n):topS T x<n:=by
 unfold topS;split
 · rcases fmax2 (x:=x) rfl with h | h
   · rw [h];exact hx
   · rw [h];exact hT _ (List.getElem_mem _)
 · exact hx
theorem zfg:∀ (D:List Trl) (C:List Cel) (c:Cel),(∀ e∈D,e.o.toNat<C.length)→z56 D (C++ [c])=z56 D C++ [c]
 | [],_,_,_=>rfl
 | e::D,C,c,h=>by
  have ih:=zfg D C c fun x hx=>h x (List.mem_cons_of_mem _ hx);have hl:=z30 D C;show (z56 D (C++ [c])).set _ _=(z56 D C).set _ _++ [c];rw [ih,List.set_append_left _ _ (by rw [hl];exact h e List.mem_cons_self)]
def LaterZ (s0 s:Hp):Prop:=s0.C.length≤s.C.length∧∃ D,s.T=s0.T++D∧(z56 D s.C).take s0.C.length=s0.C
theorem Mv.later {b:Bool}{s0 s:Hp}(h:Mv b s0 s)(hg:GoodZ s0):GoodZ s∧LaterZ s0 s:=by
 induction h with
 | refl=>exact ⟨hg,Nat.le_refl _,[],by simp,by simp [z56]⟩
 | @put t c _ ih=>
  obtain ⟨ig,hn,D,hD,hC⟩:=ih;rcases putZ_or t c with e | e<;>rw [e]
  · exact ⟨ig,hn,D,hD,hC⟩
  · refine ⟨fun x hx=> ?_,by simp;omega,D,hD, ?_⟩
    · have:=ig x hx;simp only [List.length_append,List.length_singleton];omega
    · show (z56 D (t.C++ [c])).take _=_;rw [zfg D t.C c fun x hx=>by have:=ig x (by rw [hD];exact List.mem_append_right _ hx);omega,List.take_append_of_le_length (by rw [z30];exact hn)];exact hC
 | @set t a c _ ih=>
  obtain ⟨ig,hn,D,hD,hC⟩:=ih;rcases setZ_or t a c with e | ⟨hin,e⟩<;>rw [e]
  · exact ⟨ig,hn,D,hD,hC⟩
  · simp only [inC,Bool.and_eq_true,decide_eq_true_eq] at hin;obtain ⟨hl,ec⟩:=zb1 hin.1 hin.2;refine ⟨fun x hx=> ?_,by simp only [List.length_set];exact hn,D++ [⟨a,z07 t.C a,topS t.T a⟩],by simp only [hD,List.append_assoc], ?_⟩
    · simp only [List.length_set];rcases List.mem_append.1 hx with hx | hx
      · exact ig x hx
      · rw [List.mem_singleton.1 hx];exact ⟨hin.1,hin.2,topZ_lt hin.2 fun e he=>(ig e he).2.2⟩
    · show (z56 (D++ [_]) (t.C.set a.toNat c)).take _=_;rw [zcl,List.set_set,ec,List.set_getElem_self];exact hC
 | names e _ _ ih=>exact ih
theorem LaterZ.back {s0 s:Hp}(h:LaterZ s0 s):(z54 s s0.C.length s0.T.length).C=s0.C∧(z54 s s0.C.length s0.T.length).T=s0.T:=by
 obtain ⟨hn,D,hD,hC⟩:=h;refine ⟨?_, ?_⟩
 · show (z56 (s.T.drop s0.T.length) s.C).take s0.C.length=s0.C;rw [hD,List.drop_left']
   · exact hC
   · rfl
 · show s.T.take s0.T.length=s0.T;rw [hD,List.take_left'];rfl
theorem c_undoZ {b:Bool}{s0 s:Hp}(h:Mv b s0 s)(hg:GoodZ s0)(ok:OkH s):AC Tryz.prog 69 [aH 0, .agg [.a (.fz (.int .i64 (s0.C.length:Int))), .a (.fz (.int .i64 (s0.T.length:Int)))]] (oH s) (.tup []) (oH' (z54 s s0.C.length s0.T.length)):=by
 obtain ⟨g,hn,D,hD,_⟩:=h.later hg;refine c_hundo s s0.C.length s0.T.length (by rw [hD];simp) (by have:=ok.T;omega) hn (fun e he=>⟨(g e he).1,(g e he).2.1⟩) (fun e he=> ?_);rw [hD,List.take_left'] at he
 · exact (hg e he).2.2
 · rfl
abbrev oHb (s:Hp):List AObj:=[.arr 1 [[.a (.ep 1 6 0 0)]],hp6 2 3 4 5 s, .arz 5 (CR s.C), .arz 7 (TR s.T), .arz 1 (NR s.N), .mapz (NM s.N 0)]
abbrev fnO (bk:Nat):TV:= .c (.fn (.func bk) [] [(false,[.ep 0 1 0 0])])
theorem c_hall1 (s:Hp)(x:Int):AC Tryz.prog 65 [ci x, .c (.a (.ep 0 1 0 0))] (oHb s) (cb (oddZ s.C x)) (oHb s):=by
 have hc:=z3f s x;have e:oddZ s.C x=(!inC s.C x||decide (9≤(z07 s.C x).t)):=rfl;rw [e];refine AC.vc hP sh lv65 (by simp) (by simp [isLive]) (by simp) (Eq.mpr (v65 ..) ?_);refine ⟨_,_,_,_,_,_,hc,z01 (fun h=>z1j ?_) (fun h=>z1j ?_)⟩
 · rw [h];rfl
 · rw [h];rfl
def ixI (p:Int→Bool):List Int→Nat→Int
 | [],_=> -1
 | t::l,i=>if p t=true then (i:Int) else ixI p l (i+1)
theorem zmz (p:Int→Bool):∀ (l:List Int) (i:Nat),decide (ixI p l i≥0)=l.any p
 | [],_=>rfl
 | t::l,i=>by
  rw [ixI,List.any_cons];split
  · rename_i h;rw [h];simp
  · rename_i h;rw [zmz p l,show p t=false by simpa using h,Bool.false_or]
theorem l_idxi (s:Hp)(l0:List Int)(hl:l0.length≤1000000000):∀ (b a:List Int),l0=a++b→
  RPt Tryz.prog 121 6 (ci (ixI (oddZ s.C) b a.length)) (oHb s) 1 ⟨[(0,aIs l0),(1,fnO 65),(7,ci (l0.length:Int)),(8,ci (a.length:Int))],[(0, .arr 1 [[.a (.ep 1 6 0 0)]]),(1,hp6 2 3 4 5 s),(2, .arz 5 (CR s.C)),(3, .arz 7 (TR s.T)),(4, .arz 1 (NR s.N)),(5, .mapz (NM s.N 0))],6⟩
 | [],a,hp=>by
  rw [List.append_nil] at hp;refine RPt.vc hP sh zow (Eq.mpr (zbh ..) ?_);exact z01 (fun h=>absurd (of_decide_eq_true h) (by rw [hp];omega)) (fun _=>⟨.refl _,rfl⟩)
 | t::b,a,hp=>by
  have ih:=l_idxi s l0 hl b (a++ [t]) (by rw [hp];simp);rw [show (((a++ [t]).length:Nat):Int)=(a.length:Int)+1 by simp,show (a++ [t]).length=a.length+1 by simp] at ih;have hm:List.getD (IR l0) (Int.toNat (a.length:Int)) []=[.int .i64 t]:=by rw [hp];exact zj7 a t b
  have h3:(a.length:Int)<(((IR l0).length:Nat):Int):=by rw [hp];exact IR_lt a t b
  have h4:(a.length:Int)<((l0.length:Nat):Int):=by rw [z05] at h3;exact h3
  have h1:=c_hall1 s t;rw [ixI];refine RPt.vc hP sh zow (Eq.mpr (zbh ..) ?_);rw [hm,w64 (x:=(a.length:Int)+1) (by omega) (by omega)];refine z01 (fun _=>⟨⟨rfl,by omega,h3,rfl⟩,oddZ s.C t,h1,z01 (fun h=> ?_) (fun h=> ?_)⟩) (fun h=>absurd h4 (of_decide_eq_false h))
  · rw [if_pos h];exact ⟨.refl _,rfl⟩
  · rw [if_neg (by rw [h];simp)];exact ih
theorem c_anyi (s:Hp)(l:List Int)(hl:l.length≤1000000000):AC Tryz.prog 66 [aIs l,fnO 65] (oHb s) (cb (l.any (oddZ s.C))) (oHb s):=by
 have h:AC Tryz.prog 121 [aIs l,fnO 65] (oHb s) (ci (ixI (oddZ s.C) l 0)) (oHb s):=by
  have:=l_idxi s l hl l [] rfl;refine AC.vc hP sh zow (Nat.le_refl _) (by simp [isLive]) (by simp) (Eq.mpr (v121_F65 ..) ?_);rw [z05];exact ⟨rfl,this⟩
 have e:=zmz (oddZ s.C) l 0;refine AC.vc hP sh lv66 (Nat.le_refl _) (by simp [isLive]) (by simp) (Eq.mpr (v66_F65 ..) ?_);exact ⟨_,h,by rw [←e];exact .refl _,rfl⟩
abbrev haH (s:Hp)(f:Int)(a b:List Int)(i:Nat):AHeap:=
 if i=a.length then [(0,hp6 15 16 17 4 s),(1, .gone),(2, .gone),(3, .gone),(4, .mapz (NM s.N 0)),(5, .gone),(6, .gone),(7, .gone),(8, .arr 1 [[.a (.ep 0 6 0 0)]]),(9, .arr 1 [[.a (.fz (.sl false 1 (IR a)))]]),(10, .arr 1 [[.a (.fz (.sl false 1 (IR b)))]]),(11, .arr 2 [[.a (.fz (.int .i64 (s.C.length:Int))), .a (.fz (.int .i64 (s.T.length:Int)))]]),(12, .arr 1 [[.a (.ep 13 3 0 0)]]),(13, .arr 3 [[.a (.ep 0 6 0 0), .a (.fz .N), .a (.fz (.int .i64 f))]]),(14, .arr 1 [[.a (.fz (.sl false 1 (IR a)))]]),(15, .arz 5 (CR s.C)),(16, .arz 7 (TR s.T)),(17, .arz 1 (NR s.N))]
 else [(0,hp6 15 16 17 4 s),(1, .gone),(2, .gone),(3, .gone),(4, .mapz (NM s.N 0)),(5, .gone),(6, .gone),(7, .gone),(8, .arr 1 [[.a (.ep 0 6 0 0)]]),(9, .arr 1 [[.a (.fz (.sl false 1 (IR a)))]]),(10, .arr 1 [[.a (.fz (.sl false 1 (IR b)))]]),(11, .arr 2 [[.a (.fz (.int .i64 (s.C.length:Int))), .a (.fz (.int .i64 (s.T.length:Int)))]]),(12, .arr 1 [[.a (.ep 13 3 0 0)]]),(13, .arr 3 [[.a (.ep 0 6 0 0), .a (.osl 18 2 0 (a.length-i)), .a (.fz (.int .i64 f))]]),(14, .arr 1 [[.a (.fz (.sl false 1 (IR a)))]]),(15, .arz 5 (CR s.C)),(16, .arz 7 (TR s.T)),(17, .arz 1 (NR s.N)),(18, .arz 2 (PR ((a.zip b).drop i).reverse))]
theorem c_hAll (s:Hp) (hg:GoodZ s) (a b:List Int) (f:Int) (ha:a.length≤1000000000) (hb:b.length≤1000000000)
  (hrun:a.length=b.length→a.any (oddZ s.C)=false→b.any (oddZ s.C)=false→a ≠ []→∃ n' R',AC Tryz.prog 68 [aWk] (oWk ⟨s,f⟩ (a.zip b).length (PR (a.zip b).reverse)) (ci (runZ f.toNat ⟨s,f⟩ (a.zip b)).1) (oWk' (runZ f.toNat ⟨s,f⟩ (a.zip b)).2 n' R'))
  (hmv:a.length=b.length→Mv true s (runZ f.toNat ⟨s,f⟩ (a.zip b)).2.s) (hok:OkH s):
  AC Tryz.prog 16 [aH 0,aIs a,aIs b,ci f] (oH s) (t2 (allZ s a b f).1) (oH' (allZ s a b f).2):=by
 have n1:=c_anyi s a ha;have n2:=c_anyi s b hb;have hm:=zeg s
 have e0:allZ s a b f=if a.length≠b.length∨a.any (oddZ s.C)=true∨b.any (oddZ s.C)=true then ((0,1),s)
  else if (runZ f.toNat ⟨s,f⟩ (a.zip b)).1≠0 then ((0,(runZ f.toNat ⟨s,f⟩ (a.zip b)).1),z54 (runZ f.toNat ⟨s,f⟩ (a.zip b)).2.s s.C.length s.T.length)
  else (((runZ f.toNat ⟨s,f⟩ (a.zip b)).2.f,0),(runZ f.toNat ⟨s,f⟩ (a.zip b)).2.s):=rfl
 rw [e0];refine AC.vc hP sh lv16 (by simp) (by simp [isLive]) (by simp [isLive]) (Eq.mpr (v16 (IR a) (IR b) f ..) ?_);rw [z05,z05];refine ⟨rfl,rfl,z0e (fun q=> ?_) (fun q=>⟨_,n1,z01 (fun q1=> ?_) (fun q1=>⟨_,n2,z01 (fun q2=> ?_) (fun q2=>⟨(s.C.length:Int),(s.T.length:Int),hm,IR a,znh (IR a), ?_⟩)⟩)⟩)⟩
 · rw [if_pos (.inl (by omega))];exact ⟨.refl _,rfl⟩
 · rw [if_pos (.inr (.inl q1))];exact ⟨.refl _,rfl⟩
 · rw [if_pos (.inr (.inr q2))];exact ⟨.refl _,rfl⟩
 have hl:a.length=b.length:=by omega
 rw [if_neg (by rintro (w | w | w);exact w hl;rw [q1] at w;cases w;rw [q2] at w;cases w)];have hrun:=hrun hl q1 q2;have hmv:=hmv hl;clear e0 n1 n2 hm;have hzl:(a.zip b).length=a.length:=by simp [hl]
 refine RPt.backI (sh:=sh) (lv:=lv16) (α:=Nat) (Inv:=fun i=>i≤a.length) (idx:=fun i=>i) (nx:=fun i=>if i=a.length then 18 else 19) (m0:=15) (U:=[5,6,7]) (live:=[4,5,6,11,12,38]) (oc:=14) (es:=a) (x0:=a.length) (g:= .tmp 38) (env:=[(4, .c (.a (.ep 8 1 0 0))),(5, .c (.a (.ep 9 1 0 0))),(6, .c (.a (.ep 10 1 0 0))),(11, .c (.a (.ep 11 2 0 0))),(12, .c (.a (.ep 12 1 0 0))),(38,fnI 122 14)])
  (H:=fun i=>haH s f a b i) hP (by kernel_rfl) isBkI bTyI ?_ (by kernel_rfl) (by kernel_rfl) (by kernel_rfl) (by kernel_rfl) (fun _ _=>by split<;>omega) (fun i _=>by unfold haH;split<;>rfl) (by omega) (fun i hi=>hi) (fun i k hk hi hik=> ?_) (Nat.le_refl _) rfl (fun i hi h0=> ?_)
 · refine Eq.mpr (v16_1an ..) ?_;unfold haH;rw [if_pos rfl,if_pos rfl]
 · have hik:i=k+1:=hik;have hi:i≤a.length:=hi;subst hik;have hkb:k<b.length:=by omega
   have ea:List.getD (IR a) (Int.toNat ((k:Nat):Int)) []=[.int .i64 a[k]]:=by rw [Int.toNat_natCast];exact z2i hk
   have eb:List.getD (IR b) (Int.toNat ((k:Nat):Int)) []=[.int .i64 b[k]]:=by rw [Int.toNat_natCast];exact z2i hkb
   have edz:(a.zip b).drop k=(a[k],b[k])::(a.zip b).drop (k+1):=by
    rw [List.drop_eq_getElem_cons (by omega)];simp
   have estk:PR ((a.zip b).drop k).reverse=PR ((a.zip b).drop (k+1)).reverse++ [[.int .i64 a[k], .int .i64 b[k]]]:=by rw [edz,List.reverse_cons,zfr];rfl
   have hlen:(PR ((a.zip b).drop (k+1)).reverse).length=a.length-(k+1):=by simp [zcb,hl]
   generalize a[k]=u at*;generalize b[k]=v at*;by_cases hc:k+1=a.length
   · unfold haH;rw [if_pos hc,if_pos hc];refine Eq.mpr (v16_1ara ..) ?_;rw [ea,eb,z05,z05];refine ⟨⟨rfl,by omega,by omega,rfl⟩,⟨rfl,by omega,by omega,rfl⟩,Nat.le_refl _,by unfold z0b;omega,k,⟨(by omega:k≤a.length),rfl⟩, ?_,by rw [if_neg (by omega)]⟩;rw [if_neg (by omega),estk,show a.length-k=1 by omega,show (a.zip b).drop (k+1)=[] from List.drop_eq_nil_of_le (by omega)];rfl
   · unfold haH;rw [if_neg hc,if_neg hc];refine Eq.mpr (v16_1arb ..) ?_;rw [ea,eb,z05,z05];refine ⟨⟨rfl,by omega,by omega,rfl⟩,⟨rfl,by omega,by omega,rfl⟩,Nat.le_refl _,⟨by omega,by unfold z0b;omega⟩,k,⟨(by omega:k≤a.length),rfl⟩, ?_,by rw [if_neg (by omega)]⟩;rw [if_neg (by omega),estk,show a.length-k=a.length-(k+1)+1 by omega,List.take_of_length_le (by omega)];rfl
 · have h0:i=0:=h0;subst h0;by_cases hn:a=[]
   · subst hn;have e0:runZ f.toNat ⟨s,f⟩ (([]:List Int).zip b)=(0,⟨s,f⟩):=by cases f.toNat<;>rfl
     rw [e0];have hr:=c_wrun0 ⟨s,f⟩;unfold haH;rw [if_pos (show 0=([]:List Int).length from rfl),if_pos (show 0=([]:List Int).length from rfl)];refine Eq.mpr (v16_1aza ..) ?_;exact ⟨(0,⟨s,f,0,[]⟩),hr,z01 (fun q=>by cases q) (fun _=>⟨.refl _,rfl⟩)⟩
   · obtain ⟨n',R',hr⟩:=hrun hn;have hne:¬0=a.length:=fun q=>hn (List.eq_nil_of_length_eq_zero q.symm);unfold haH;rw [if_neg hne,if_neg hne,Nat.sub_zero,List.drop_zero];rw [hzl] at hr;generalize runZ f.toNat ⟨s,f⟩ (a.zip b)=w at*;obtain ⟨we,ws⟩:=w;dsimp only at hr hmv ⊢;have hu:=c_undoZ hmv hg (hmv.ok hok);refine Eq.mpr (v16_1azb ..) ?_;refine ⟨(we,⟨ws.s,ws.f,n',R'⟩),hr,z0e (fun q=> ?_) (fun q=> ?_)⟩
     · rw [if_pos q];exact ⟨_,hu, .refl _,rfl⟩
     · rw [if_neg (fun w=>w q)];exact ⟨.refl _,rfl⟩
theorem zjo (s:Hp)(a b f:Int)(h:AC Tryz.prog 16 [aH 0,aIs [a],aIs [b],ci f] (oH s) (t2 (allZ s [a] [b] f).1) (oH' (allZ s [a] [b] f).2)):AC Tryz.prog 20 [aH 0,ci a,ci b,ci f] (oH s) (t2 (allZ s [a] [b] f).1) (oH' (allZ s [a] [b] f).2):=by
 refine AC.vc hP sh lv20 (by simp) (by simp [isLive]) (by simp [isLive]) (Eq.mpr (v20 ..) ?_);exact ⟨by decide,by decide,((allZ s [a] [b] f).1.1,(allZ s [a] [b] f).1.2,(allZ s [a] [b] f).2),h, .refl _,rfl⟩
theorem zhw (K:Nat)(hK:K≤1000000000)(s:Hp)(hg:GoodZ s)(ok:OkH s)(nm:NmB K s)(a b:List Int)(f:Int)(ha:a.length≤1000000)(hb:b.length≤1000000)(f0:0≤f)(f1:f≤100000):
  AC Tryz.prog 16 [aH 0,aIs a,aIs b,ci f] (oH s) (t2 (allZ s a b f).1) (oH' (allZ s a b f).2):=by
 have okw:OkW K ⟨s,f⟩:=⟨ok,f0,by dsimp only;omega,nm⟩;refine c_hAll s hg a b f (by omega) (by omega) (fun _ _ _ _=> ?_) (fun _=>(zi1 _ _ okw (by dsimp only;omega)).mv) ok;exact c_wrun K hK (runI_L K) ⟨s,f⟩ (a.zip b) ⟨okw,by dsimp only;omega,by rw [List.length_zip];dsimp only;omega⟩
end Go.AM

set_option maxRecDepth 100000
open Go Go.Proofs
namespace Go.AM
theorem GoodZ.mv {b:Bool}{s t:Hp}(g:GoodZ s)(h:Mv b s t):GoodZ t:=(h.later g).1
theorem NmB.of {K D K2:Nat}{s t:Hp}(h:NmB K s)(hN:t.N.length=s.N.length)(hC:s.C.length≤D+t.C.length)(hK:K+D≤K2):NmB K2 t:=by
 unfold NmB at*;omega
theorem zmk {K:Nat}{s:Hp}(hg:GoodZ s)(ok:OkH s)(nm:NmB K s)(a b:List Int)(f:Int)(f0:0≤f)(f1:f≤100000):
  OkH (allZ s a b f).2∧GoodZ (allZ s a b f).2∧NmB (K+2097154) (allZ s a b f).2∧((allZ s a b f).1.2=0∨(allZ s a b f).1.1=0)∧(allZ s a b f).1.1≤f∧
  ((allZ s a b f).1.2≠0→(allZ s a b f).2.C=s.C∧(allZ s a b f).2.T=s.T∧(allZ s a b f).1.1=0)∧(a.length≠b.length→(allZ s a b f).1.2=1):=by
 have okw:OkW K ⟨s,f⟩:=⟨ok,f0,by dsimp only;omega,nm⟩;have r:=zi1 f.toNat (a.zip b) okw (by dsimp only;omega);unfold allZ;generalize runZ f.toNat ⟨s,f⟩ (a.zip b)=z at*;split
 · exact ⟨ok,hg,by unfold NmB at*;dsimp only;omega, .inr rfl,f0,fun _=>⟨rfl,rfl,rfl⟩,fun _=>rfl⟩
 · rename_i q;have la:=r.mv.later hg;split
   · obtain ⟨b1,b2⟩:=la.2.back;have ml:=r.mv.len;have mC:=r.h.C;have mN:=r.m;refine ⟨⟨by rw [b1];exact ok.C, ?_,by rw [b2];exact ok.T, ?_⟩, ?_, ?_, .inr rfl,f0,fun _=>⟨b1,b2,rfl⟩,fun h=>absurd (.inl h) q⟩
     · show z.2.s.M≤_;rw [ml.2.1];exact ok.M
     · show z.2.s.L≤_;rw [ml.2.2];exact ok.L
     · intro e he;rw [b2] at he;rw [b1];exact hg e he
     · exact mN.of (D:=1048576) rfl (by omega) (by omega)
   · rename_i q2;exact ⟨r.h,la.1,r.m.of (D:=0) rfl (by dsimp only;omega) (by omega), .inl rfl,by have:=r.f1;exact this,fun h=>absurd rfl h,fun h=>absurd (.inl h) q⟩
abbrev hn0:Hp:=⟨[],[],100,100,[]⟩
abbrev hn1:Hp:=⟨[⟨4,0,0,0,0⟩],[],100,100,[]⟩
abbrev tmA:Tm:= .mk 5 [] 0 [.mk 6 [] 0 [.mk 4 [] 0 [],bndT 0]]
abbrev tmB:Tm:= .mk 5 [] 0 [.mk 6 [] 0 [.mk 0 [102] 0 [],bndT 0,bndT 0]]
abbrev hn2:Hp:=⟨[⟨4,0,0,0,0⟩,⟨3,0,0,0,0⟩,⟨7,0,1,0,0⟩,⟨6,2,0,0,0⟩],[],100,100,[]⟩
abbrev hn3:Hp:=⟨[⟨4,0,0,0,0⟩,⟨3,0,0,0,0⟩,⟨7,0,1,0,0⟩,⟨6,2,0,0,0⟩,⟨0,0,0,0,0⟩,⟨3,0,0,0,0⟩,⟨7,4,5,0,0⟩,⟨3,0,0,0,0⟩,⟨7,6,7,0,0⟩,⟨6,8,0,0,0⟩],[],100,100,[[102]]⟩
abbrev tmK:Tm:= .mk 0 [107] 0 []
abbrev hw9:(Int×Int)×Hp:=allZ hn3 [3] [9] 100
abbrev hw10:(Tm×Int×Int)×Hp:=z3g hw9.2 0 100
abbrev hw11:(Int×Int)×Hp:=encS none hw10.2 tmK
abbrev hw12:(Int×Int)×Hp:=allZ hw11.2 [0] [hw11.1.1] 100
theorem zos:(hw9.1.2==0&&hw10.1.2.2==0&&hw11.1.2==0&&hw12.1.2==170)=true∧hw10.1.1=tmB:=⟨by kernel_rfl,by kernel_rfl⟩
theorem w22_encA:encS (some [0]) hn1 tmA=((3,0),hn2):=by kernel_rfl
theorem w22_same:AC Tryz.prog 22 [aT tmB,aT tmB] [] (cb true) []:=runX_AC hP (fun f=>bif List.contains [172] f then 0 else 1) 200 60 (by kernel_rfl)
theorem w22_encS:encS none hn2 tmB=((9,0),hn3):=by kernel_rfl
theorem zn6:AC Tryz.prog 11 [] [] (cb true) []:=by
 have h0:=c_hnew 100 100;rw [show (⟨[],[],z0q [z0f [100,0],1048576],z0q [z0f [100,0],1048576],[]⟩:Hp)=hn0 from rfl] at h0;have o0:OkH hn0:=⟨by decide,by decide,by decide,by decide⟩;have h1:=zdx hn0 o0 0;rw [show z0u hn0 0=((0,0),hn1) from rfl] at h1;have o3:OkH hn3:=⟨by decide,by decide,by decide,by decide⟩;have g3:GoodZ hn3:=fun e he=>by cases he
 have m3:NmB 1 hn3:=by unfold NmB;decide
 have o2:OkH hn2:=⟨by decide,by decide,by decide,by decide⟩;have m2:NmB 1 hn2:=by unfold NmB;decide
 have o1:OkH hn1:=⟨by decide,by decide,by decide,by decide⟩;have m1:NmB 1 hn1:=by unfold NmB;decide
 have h2:=c_EncC 1 (by omega) 0 [] tmA (by decide) hn1 o1 m1;rw [w22_encA] at h2;have h3:=zom 1 (by omega) tmB (by decide) hn2 o2 m2;rw [w22_encS] at h3;have h9:=zjo hn3 3 9 100 (zhw 1 (by omega) hn3 g3 o3 m3 [3] [9] 100 (by decide) (by decide) (by omega) (by omega));obtain ⟨o9,g9,m9,_⟩:=zmk g3 o3 m3 [3] [9] 100 (by omega) (by omega);have h10:=zov hw9.2 0 100 o9 (by omega) (by omega);have qv10:=(zka hw9.2 0 100 (by omega)).1;have o10:=qv10.ok o9;have g10:=g9.mv qv10;have m10:=qv10.nm m9;have h11:=zom _ (by omega) tmK (by decide) hw10.2 o10 m10;have qv11:=z8t none hw10.2 tmK;have m11:=(zb6 none tmK o10 m10).2;have h12:=zjo hw11.2 0 hw11.1.1 100 (zhw _ (by omega) hw11.2 (g10.mv qv11) (qv11.ok o10) m11 [0] [hw11.1.1] 100 (by simp) (by simp) (by omega) (by omega));obtain ⟨wr1,wr2⟩:=zos;simp only [Bool.and_eq_true,beq_iff_eq] at wr1;obtain ⟨⟨⟨q9,q10⟩,q11⟩,q12⟩:=wr1;have sm:=w22_same;have ap1:=z3p (.mk 4 [] 0 []) [bndT 0] (by decide);have ap2:=z3p (.mk 0 [102] 0 []) [bndT 0,bndT 0] (by decide);have la1:=zap 1 (.mk 6 [] 0 [.mk 4 [] 0 [],bndT 0]) (by omega);have la2:=zap 1 (.mk 6 [] 0 [.mk 0 [102] 0 [],bndT 0,bndT 0]) (by omega);have e4:=leT (k:=4) (s:=[]) (n:=0) (l:=[]) z2k;have e0:=leT (k:=0) (s:=[102]) (n:=0) (l:=[]) z2k;have lb1:=args1 (x:=bndT 0) (leFT (l:=[]) z2k);have lb2:=args2 (x:=bndT 0) (y:=bndT 0) (leFT (l:=[]) z2k) (leFT (l:=[]) z2k);refine AC.vc hP sh lv11 (Nat.le_refl _) (by simp) (by simp) (Eq.mpr (v11 ..) ?_)
 refine ⟨hn0,h0,(0,0,hn1),h1,⟨rfl,Nat.le_refl _⟩,_,ap1.args ⟨e4,lb1,trivial⟩,_,la1,((3,0),hn2),h2,⟨rfl,Nat.le_refl _⟩,_,ap2.args ⟨e0,lb2,trivial⟩,_,la2,((9,0),hn3),h3,
  (hw9.1.1,hw9.1.2,hw9.2),h9,(hw10.1.1,hw10.1.2.1,hw10.1.2.2,hw10.2),h10,hw11,h11.args ⟨.refl _,leT z2k, .refl _,trivial⟩,(hw12.1.1,hw12.1.2,hw12.2),h12,⟨rfl,Nat.le_refl _⟩,_,ap2.args ⟨e0,lb2,trivial⟩,_,la2,true,by rw [wr2];exact sm, ?_⟩
 exact z04 (fun _=>z04 (fun _=>z04 (fun _=>z04 (fun _=>z04 (fun _=>z04 (fun _=>z01 (fun _=>z09 (by simpa using q12)) (fun h=>by cases h)) (fun h=>absurd q11 h)) (fun h=>absurd q10 h)) (fun h=>absurd q9 h)) (fun h=>absurd rfl h)) (fun h=>absurd rfl h)) (fun h=>absurd rfl h)
abbrev hpZ (s:Hp):AHeap:=[(0,hp6 1 2 3 4 s),(1, .arz 5 (CR s.C)),(2, .arz 7 (TR s.T)),(3, .arz 1 (NR s.N)),(4, .mapz (NM s.N 0))]
theorem CR_midZ (a:List Cel)(c:Cel)(b:List Cel):List.getD (CR (a++c::b)) (Int.toNat (a.length:Int)) []=c.r:=by
 rw [Int.toNat_natCast,zjr (by simp)];simp
end Go.AM

set_option maxRecDepth 100000
open Go Go.Proofs
namespace Go.AM
def zn7 (t:Tm):Bool:=large t 24 || !near 1000 t
def zk9 (l:List Tm):Bool:=decide ((l.length:Int)>6)||l.any zn7
theorem zjh (l:List Tm)(hl:l.length≤1000)(hz:∀ t∈l,t.sz≤B):∀ (b pre:List Tm),l=pre++b→RPt Tryz.prog 12 0 (cb (b.any zn7)) [] 1 ⟨[(0,aL l),(3,ci (pre.length:Int))],[],0⟩
 | [],pre,hp=>by
  rw [List.append_nil] at hp;refine RPt.vc hP sh lv12 (Eq.mpr (v12_1a ..) ?_);rw [z00];exact ⟨rfl,z01 (fun h=>absurd (of_decide_eq_true h) (by rw [hp];omega)) (fun _=>z09 rfl)⟩
 | t::b,pre,hp=>by
  have ih:=zjh l hl hz b (pre++ [t]) (by rw [hp];simp);rw [show (((pre++ [t]).length:Nat):Int)=(pre.length:Int)+1 by simp] at ih;have hlen:l.length=pre.length+(b.length+1):=by rw [hp];simp
  have em:List.getD (FTs l) (Int.toNat (pre.length:Int)) []=FT t:=by rw [hp];exact midI pre t b
  have hm:t∈l:=by rw [hp];simp
  have h1:=c_large t (hz t hm) 24 (by omega) (by omega);have h2:=c_near 1000 (by omega) (by omega) t (hz t hm);have e:(t::b).any zn7=((large t 24 || !near 1000 t)||b.any zn7):=rfl;rw [e];refine RPt.vc hP sh lv12 (Eq.mpr (v12_1a ..) ?_);rw [em,z00,w64 (x:=(pre.length:Int)+1) (by omega) (by omega),z4d];refine ⟨rfl,z01 (fun _=>⟨⟨rfl,by omega,by omega,z4c t⟩,_,h1,⟨rfl,by omega,by omega,z4c t⟩,_,h2,z01 (fun q=>z09 ?_) (fun q=>z01 (fun q2=>z09 ?_) (fun q2=> ?_))⟩) (fun h=>absurd (of_decide_eq_false h) (by omega))⟩
  · rw [q];rfl
  · rw [q2,Bool.or_true,Bool.true_or]
  · rw [q,q2];exact ih
theorem zjc (l:List Tm)(hz:∀ t∈l,t.sz≤B):AC Tryz.prog 12 [aL l] [] (cb (zk9 l)) []:=by
 have e:zk9 l=(decide ((l.length:Int)>6)||l.any zn7):=rfl;rw [e];refine AC.vc hP sh lv12 (Nat.le_refl _) (by simp) (by simp) (Eq.mpr (v12 ..) ?_);rw [z00];refine ⟨rfl,z01 (fun q=>z09 ?_) (fun q=> ?_)⟩
 · rw [q];rfl
 · rw [q,Bool.false_or];have q:=of_decide_eq_false q;exact zjh l (by omega) hz l [] rfl
def z0m (V:Option (List Int)):List Tm→List Int→Hp→(List Int×Bool)×Hp
 | [],out,s=>((out,true),s)
 | t::l,out,s=>if (encS V s t).1.2≠0 then (([],false),(encS V s t).2) else z0m V l (out++ [(encS V s t).1.1]) (encS V s t).2
abbrev tCl (x:List Int×Bool):TV:= .tup [(false,[.a (.fz (.sl false 1 (IR x.1)))]),(false,[.a (.fz (.bool x.2))])]
theorem leCl (e:Bool):TV.Le (.tup [(false,[.a (.fz .N)]),(false,[.a (.fz (.bool e))])]) (tCl ([],e)):=
 zbf (xs:=[(false,[.N]),(false,[.bool e])]) (ys:=[(false,[.sl false 1 (IR [])]),(false,[.bool e])]) ⟨⟨rfl, .N 1,trivial⟩,⟨rfl, .refl _⟩,trivial⟩
theorem z61 (V:Option (List Int)){K:Nat}:∀ (l:List Tm) (out:List Int) {s:Hp},OkH s→NmB K s→Mv true s (z0m V l out s).2∧((z0m V l out s).1.2=true→NmB K (z0m V l out s).2)∧NmB (K+1048577) (z0m V l out s).2∧(z0m V l out s).1.1.length≤out.length+l.length
 | [],out,s,_,nm=>⟨.refl s,fun _=>nm,nm.of (D:=0) rfl (Nat.le_of_eq (Nat.zero_add _).symm) (by omega),by simp [z0m]⟩
 | t::l,out,s,ok,nm=>by
  have mv:=z8t V s t;have n:=zb6 V t ok nm;rw [z0m];split
  · exact ⟨mv,(fun h=>by cases h),n.2,by simp⟩
  · rename_i q;obtain ⟨a1,a2,a3,a4⟩:=z61 V l (out++ [(encS V s t).1.1]) (mv.ok ok) (n.1 (by simpa using q));exact ⟨mv.trans a1,a2,a3,by simp only [List.length_append,List.length_cons,List.length_nil] at a4 ⊢;omega⟩
abbrev stClB  (l:List Tm) (out:List Int) (s:Hp) (i:Int):St:=
 if out=[] then ⟨[(0,aH 0),(1,aL l),(2, .c (.a (.fz (.z0 true)))),(8, .c (.a (.fz .N))),(9,ci i)],[(0,hp6 5 6 7 4 s),(1, .gone),(2, .gone),(3, .gone),(4, .mapz (NM s.N 0)),(5, .arz 5 (CR s.C)),(6, .arz 7 (TR s.T)),(7, .arz 1 (NR s.N))],8⟩
 else ⟨[(0,aH 0),(1,aL l),(2, .c (.a (.fz (.z0 true)))),(8, .c (.a (.osl 8 1 0 out.length))),(9,ci i)],[(0,hp6 5 6 7 4 s),(1, .gone),(2, .gone),(3, .gone),(4, .mapz (NM s.N 0)),(5, .arz 5 (CR s.C)),(6, .arz 7 (TR s.T)),(7, .arz 1 (NR s.N))]++ [(8, .arz 1 (IR out))],9⟩
theorem zkc (K:Nat)(hK:K≤1000000000)  (l0:List Tm)(hl:l0.length≤1000)(hz:∀ t∈l0,t.sz≤B):∀ (b pre:List Tm) (out:List Int) (s:Hp),l0=pre++b→out.length≤pre.length→OkH s→NmB K s→
  RPt Tryz.prog 14 5 (tCl (z0m (some []) b out s).1) (oH' (z0m (some []) b out s).2) 1 (stClB  l0 out s (pre.length:Int))
 | [],pre,out,s,hp,_,ok,nm=>by
  rw [List.append_nil] at hp;have e:z0m (some []) [] out s=((out,true),s):=rfl;rw [e];unfold stClB;by_cases hn:out=[]
  · subst hn;rw [if_pos rfl];refine RPt.vc hP sh lv14 (Eq.mpr (v14_1a ..) ?_);rw [z00];exact ⟨rfl,z01 (fun h=>absurd (of_decide_eq_true h) (by rw [hp];omega)) (fun _=>⟨leCl true,rfl⟩)⟩
  · rw [if_neg hn];refine RPt.vc hP sh lv14 (Eq.mpr (v14_1b ..) ?_);rw [z00];refine ⟨rfl,z01 (fun h=>absurd (of_decide_eq_true h) (by rw [hp];omega)) (fun _=>⟨⟨rfl,by rw [z05];omega⟩, ?_,rfl⟩)⟩;rw [List.drop_zero,List.take_of_length_le (by rw [z05];exact Nat.le_refl _)];exact .refl _
 | t::b,pre,out,s,hp,ho,ok,nm=>by
  have hlen:l0.length=pre.length+(b.length+1):=by rw [hp];simp
  have em:List.getD (FTs l0) (Int.toNat (pre.length:Int)) []=FT t:=by rw [hp];exact midI pre t b
  have hE:=c_EncB K hK  t (hz t (by rw [hp];simp)) s ok nm;have mv:=z8t (some []) s t;have n:=zb6 (some []) t ok nm;have eA:z0m (some []) (t::b) out s=if (encS (some []) s t).1.2≠0 then (([],false),(encS (some []) s t).2) else z0m (some []) b (out++ [(encS (some []) s t).1.1]) (encS (some []) s t).2:=rfl
  rw [eA];have nx:=fun h=>zkc K hK  l0 hl hz b (pre++ [t]) (out++ [(encS (some []) s t).1.1]) (encS (some []) s t).2 (by rw [hp];simp) (by simpa using ho) (mv.ok ok) (n.1 h);rw [show (((pre++ [t]).length:Nat):Int)=(pre.length:Int)+1 by simp] at nx;generalize encS (some []) s t=z at*;unfold stClB at nx ⊢;rw [if_neg (z41 _ _),zel,List.length_append] at nx;by_cases hn:out=[]
  · subst hn;rw [if_pos rfl];refine RPt.vc hP sh lv14 (Eq.mpr (v14_1a ..) ?_);rw [em,z00,w64 (x:=(pre.length:Int)+1) (by omega) (by omega),z4d];refine ⟨rfl,z01 (fun _=>⟨⟨rfl,by omega,by omega,z4c t⟩,z,hE,z0e (fun q=> ?_) (fun q=>⟨Nat.le_refl _,by unfold z0b;omega, ?_⟩)⟩) (fun h=>absurd (of_decide_eq_false h) (by omega))⟩
    · rw [if_pos q];exact ⟨leCl false,rfl⟩
    · rw [if_neg (fun w=>w q)];exact nx q
  · rw [if_neg hn];refine RPt.vc hP sh lv14 (Eq.mpr (v14_1b ..) ?_);rw [em,z00,w64 (x:=(pre.length:Int)+1) (by omega) (by omega),z4d];refine ⟨rfl,z01 (fun _=>⟨⟨rfl,by omega,by omega,z4c t⟩,z,hE,z0e (fun q=> ?_) (fun q=>⟨Nat.le_refl _,⟨by rw [z05];exact Nat.le_refl _,by unfold z0b;omega⟩, ?_⟩)⟩) (fun h=>absurd (of_decide_eq_false h) (by omega))⟩
    · rw [if_pos q];exact ⟨leCl false,rfl⟩
    · rw [if_neg (fun w=>w q),List.take_of_length_le (by rw [z05];exact Nat.le_refl _)];exact nx q
theorem zja (K:Nat)(hK:K≤1000000000)  (l:List Tm)(hl:l.length≤1000)(hz:∀ t∈l,t.sz≤B)(s:Hp)(ok:OkH s)(nm:NmB K s):AC Tryz.prog 14 [aH 0,aL l, .c (.a (.fz (.z0 true)))] (oH s) (tCl (z0m (some []) l [] s).1) (oH' (z0m (some []) l [] s).2):=by
 have h:=zkc K hK  l hl hz l [] [] s rfl (Nat.le_refl _) ok nm;refine AC.vc hP sh lv14 (by simp) (by simp [isLive]) (by simp [isLive]) (Eq.mpr (v14 ..) ?_);exact h
abbrev stClC (v0:Int)(vs:List Int)(l:List Tm)(out:List Int)(s:Hp)(i:Int):St:=
 if out=[] then ⟨[(0,aH 0),(1,aL l),(2, .c (.a (.osl 5 1 0 (vs.length+1)))),(8, .c (.a (.fz .N))),(9,ci i)],[(0,hp6 6 7 8 4 s),(1, .gone),(2, .gone),(3, .gone),(4, .mapz (NM s.N 0)),(5, .arz 1 (IR (v0::vs))),(6, .arz 5 (CR s.C)),(7, .arz 7 (TR s.T)),(8, .arz 1 (NR s.N))],9⟩
 else ⟨[(0,aH 0),(1,aL l),(2, .c (.a (.osl 5 1 0 (vs.length+1)))),(8, .c (.a (.osl 9 1 0 out.length))),(9,ci i)],[(0,hp6 6 7 8 4 s),(1, .gone),(2, .gone),(3, .gone),(4, .mapz (NM s.N 0)),(5, .arz 1 (IR (v0::vs))),(6, .arz 5 (CR s.C)),(7, .arz 7 (TR s.T)),(8, .arz 1 (NR s.N))]++ [(9, .arz 1 (IR out))],10⟩
theorem zin (K:Nat)(hK:K≤1000000000)(v0:Int)(vs:List Int)(l0:List Tm)(hl:l0.length≤1000)(hz:∀ t∈l0,t.sz≤B):∀ (b pre:List Tm) (out:List Int) (s:Hp),l0=pre++b→out.length≤pre.length→OkH s→NmB K s→
  RPt Tryz.prog 14 6 (tCl (z0m (some (v0::vs)) b out s).1) (oHv' (v0::vs) (z0m (some (v0::vs)) b out s).2) 1 (stClC v0 vs l0 out s (pre.length:Int))
 | [],pre,out,s,hp,_,ok,nm=>by
  rw [List.append_nil] at hp;have e:z0m (some (v0::vs)) [] out s=((out,true),s):=rfl;rw [e];unfold stClC;by_cases hn:out=[]
  · subst hn;rw [if_pos rfl];refine RPt.vc hP sh lv14 (Eq.mpr (zh0 ..) ?_);rw [z00];exact ⟨rfl,z01 (fun h=>absurd (of_decide_eq_true h) (by rw [hp];omega)) (fun _=>⟨leCl true,rfl⟩)⟩
  · rw [if_neg hn];refine RPt.vc hP sh lv14 (Eq.mpr (zg9 ..) ?_);rw [z00];refine ⟨rfl,z01 (fun h=>absurd (of_decide_eq_true h) (by rw [hp];omega)) (fun _=>⟨⟨rfl,by rw [z05];omega⟩, ?_,rfl⟩)⟩;rw [List.drop_zero,List.take_of_length_le (by rw [z05];exact Nat.le_refl _)];exact .refl _
 | t::b,pre,out,s,hp,ho,ok,nm=>by
  have hlen:l0.length=pre.length+(b.length+1):=by rw [hp];simp
  have em:List.getD (FTs l0) (Int.toNat (pre.length:Int)) []=FT t:=by rw [hp];exact midI pre t b
  have hE:=c_EncC K hK v0 vs t (hz t (by rw [hp];simp)) s ok nm;have mv:=z8t (some (v0::vs)) s t;have n:=zb6 (some (v0::vs)) t ok nm;have eA:z0m (some (v0::vs)) (t::b) out s=if (encS (some (v0::vs)) s t).1.2≠0 then (([],false),(encS (some (v0::vs)) s t).2) else z0m (some (v0::vs)) b (out++ [(encS (some (v0::vs)) s t).1.1]) (encS (some (v0::vs)) s t).2:=rfl
  rw [eA];have nx:=fun h=>zin K hK v0 vs l0 hl hz b (pre++ [t]) (out++ [(encS (some (v0::vs)) s t).1.1]) (encS (some (v0::vs)) s t).2 (by rw [hp];simp) (by simpa using ho) (mv.ok ok) (n.1 h);rw [show (((pre++ [t]).length:Nat):Int)=(pre.length:Int)+1 by simp] at nx;generalize encS (some (v0::vs)) s t=z at*;unfold stClC at nx ⊢;rw [if_neg (z41 _ _),zel,List.length_append] at nx;by_cases hn:out=[]
  · subst hn;rw [if_pos rfl];refine RPt.vc hP sh lv14 (Eq.mpr (zh0 ..) ?_);rw [em,z00,w64 (x:=(pre.length:Int)+1) (by omega) (by omega),z4d];refine ⟨rfl,z01 (fun _=>⟨⟨rfl,by omega,by omega,z4c t⟩,z,hE,z0e (fun q=> ?_) (fun q=>⟨Nat.le_refl _,by unfold z0b;omega, ?_⟩)⟩) (fun h=>absurd (of_decide_eq_false h) (by omega))⟩
    · rw [if_pos q];exact ⟨leCl false,rfl⟩
    · rw [if_neg (fun w=>w q)];exact nx q
  · rw [if_neg hn];refine RPt.vc hP sh lv14 (Eq.mpr (zg9 ..) ?_);rw [em,z00,w64 (x:=(pre.length:Int)+1) (by omega) (by omega),z4d];refine ⟨rfl,z01 (fun _=>⟨⟨rfl,by omega,by omega,z4c t⟩,z,hE,z0e (fun q=> ?_) (fun q=>⟨Nat.le_refl _,⟨by rw [z05];exact Nat.le_refl _,by unfold z0b;omega⟩, ?_⟩)⟩) (fun h=>absurd (of_decide_eq_false h) (by omega))⟩
    · rw [if_pos q];exact ⟨leCl false,rfl⟩
    · rw [if_neg (fun w=>w q),List.take_of_length_le (by rw [z05];exact Nat.le_refl _)];exact nx q
theorem zj5 (K:Nat)(hK:K≤1000000000)(v0:Int)(vs:List Int)(l:List Tm)(hl:l.length≤1000)(hz:∀ t∈l,t.sz≤B)(s:Hp)(ok:OkH s)(nm:NmB K s):AC Tryz.prog 14 [aH 0,aL l, .c (.a (.osl 5 1 0 (vs.length+1)))] (oHv (v0::vs) s) (tCl (z0m (some (v0::vs)) l [] s).1) (oHv' (v0::vs) (z0m (some (v0::vs)) l [] s).2):=by
 have h:=zin K hK v0 vs l hl hz l [] [] s rfl (Nat.le_refl _) ok nm;refine AC.vc hP sh lv14 (by simp) (by simp [isLive]) (by simp [isLive]) (Eq.mpr (v14_i1 ..) ?_);exact h
end Go.AM

set_option maxRecDepth 100000
open Go Go.Proofs
namespace Go.AM
theorem c_wrunN (w:Wp)(p:Int×Int)(st:List (Int×Int))(hf:w.f≤0)(hl:st.length≤1000000000):∃ n' R',AC Tryz.prog 68 [aWk] (oWk w (p::st).length (PR (p::st).reverse)) (ci 80) (oWk' w n' R'):=by
 have hR:(PR (p::st).reverse).take (st.length+1)=PR st.reverse++ [[.int .i64 p.1, .int .i64 p.2]]:=by
  rw [List.take_of_length_le (by rw [zcb];simp),List.reverse_cons,zfr];rfl
 obtain ⟨t1,t2,t3⟩:=zet (m:=st.length) (A:=PR st.reverse) (x:=[.int .i64 p.1, .int .i64 p.2]) (by simp [zcb]) hR
 have ew:IntKind.wrap .i64 ((((p::st).length:Nat):Int)-1)=(st.length:Int):=by
  rw [List.length_cons,w64 (by omega) (by omega)];omega
 have ep:List.getD (PR (p::st).reverse) (0+(st.length:Int).toNat) []=[.int .i64 p.1, .int .i64 p.2]:=by rw [Int.toNat_natCast,Nat.zero_add];exact t1
 refine ⟨st.length,PR (p::st).reverse,AC.vc hP sh z4x (by simp) (by simp [isLive]) (by simp [isLive]) (Eq.mpr (v68_i1 ..) ?_)⟩;refine RPt.vc hP sh z4x (Eq.mpr (z5j ..) ?_);rw [ew,ep];exact z01 (fun _=>⟨⟨by omega,by simp only [List.length_cons];omega⟩,⟨by rw [Int.toNat_natCast];omega,rfl,rfl⟩,⟨Int.le_refl _,by omega,by simp only [List.length_cons];omega⟩,z01 (fun _=>⟨.refl _,by rw [Int.toNat_natCast]⟩) (fun h=>absurd (of_decide_eq_false h) (by omega))⟩) (fun h=>absurd (of_decide_eq_false h) (by simp only [List.length_cons];omega))
theorem c_hAllU (K:Nat)(hK:K≤1000000000)(s:Hp)(hg:GoodZ s)(ok:OkH s)(nm:NmB K s)(a b:List Int)(f:Int)(ha:a.length≤1000000)(hb:b.length≤1000000)(f1:f≤3000):
  AC Tryz.prog 16 [aH 0,aIs a,aIs b,ci f] (oH s) (t2 (allZ s a b f).1) (oH' (allZ s a b f).2)∧((allZ s a b f).1.2≠0→(allZ s a b f).2.C=s.C∧(allZ s a b f).2.T=s.T∧(allZ s a b f).1.1=0)∧((allZ s a b f).1.1≤f∨(allZ s a b f).1.2≠0)∧(a.length≠b.length→(allZ s a b f).1.2=1):=by
 by_cases f0:0≤f
 · obtain ⟨_,_,_,_,b5,b6,b7⟩:=zmk hg ok nm a b f f0 (by omega);exact ⟨zhw K hK s hg ok nm a b f ha hb f0 (by omega),b6, .inl b5,b7⟩
 · have er:∀ st,runZ f.toNat ⟨s,f⟩ st=(if st=[] then 0 else 80,⟨s,f⟩):=fun st=>by
    rw [show f.toNat=0 by omega];cases st<;>rfl
   refine ⟨c_hAll s hg a b f (by omega) (by omega) (fun hl _ _ hn=> ?_) (fun _=>by rw [er];exact .refl _) ok, ?_⟩
   · obtain ⟨p,st,e⟩:∃ p st,a.zip b=p::st:=by
      cases a with
      | nil=>exact absurd rfl hn
      | cons x a=>cases b with
       | nil=>cases hl
       | cons y b=>exact ⟨_,_,rfl⟩
     have hz:(a.zip b).length≤1000000:=by simp;omega
     rw [er,e,if_neg (by simp)];rw [e] at hz;exact c_wrunN ⟨s,f⟩ p st (by dsimp only;omega) (by simp only [List.length_cons] at hz;omega)
   · obtain ⟨z1,z2⟩:=((Mv.refl s:Mv true s s).later hg).2.back;unfold allZ;rw [er];split
     · exact ⟨fun _=>⟨rfl,rfl,rfl⟩, .inr (by show (1:Int)≠0;decide),fun _=>rfl⟩
     · rename_i q;by_cases e:a.zip b=[]
       · rw [if_pos e,if_neg (by show¬(0:Int)≠0;decide)];exact ⟨fun h=>absurd rfl h, .inl (Int.le_refl _),fun h=>absurd (.inl h) q⟩
       · rw [if_neg e,if_pos (by show (80:Int)≠0;decide)];exact ⟨fun _=>⟨z1,z2,rfl⟩, .inr (by show (80:Int)≠0;decide),fun h=>absurd (.inl h) q⟩
theorem CR_midU (a:List Cel)(c:Cel)(b:List Cel):List.getD (CR (a++c::b)) (0+Int.toNat (a.length:Int)) []=c.r:=by rw [Nat.zero_add];exact CR_midZ a c b
theorem l_hu9 (C:List Cel)(hC:C.length≤1048576)(s:Hp)(hs:s.C=C):∀ (b pre:List Cel),C=pre++b→
  RPt Tryz.prog 6 0 (cb true) [] 9 ⟨[(13,cb true),(16,aH 0),(26, .c (.a (.osl 5 5 0 C.length))),(32,ci (pre.length:Int))],hpZ s++ [(5, .arz 5 (CR C))],6⟩
 | [],pre,hp=>by
  rw [List.append_nil] at hp;refine RPt.vc hP sh lv6 (Eq.mpr (v6_9b ..) ?_);exact z01 (fun q=>absurd (of_decide_eq_true q) (by rw [hp];omega)) (fun _=>z09 rfl)
 | c::b,pre,hp=>by
  have ih:=l_hu9 C hC s hs b (pre++ [c]) (by rw [hp];simp);rw [show (((pre++ [c]).length:Nat):Int)=(pre.length:Int)+1 by simp] at ih;have hlen:C.length=pre.length+(b.length+1):=by rw [hp];simp
  have hc:=z3f s (pre.length:Int)
  have ec:z07 s.C (pre.length:Int)=c:=by
   rw [hs,hp];unfold z07;rw [if_pos ⟨by omega,by simp only [List.length_append,List.length_cons];omega⟩];simp
  rw [ec] at hc;have em:List.getD (CR C) (0+Int.toNat (pre.length:Int)) []=c.r:=by rw [hp];exact CR_midU pre c b
  refine RPt.vc hP sh lv6 (Eq.mpr (v6_9b ..) ?_);rw [em,w64 (x:=(pre.length:Int)+1) (by omega) (by omega)];refine z01 (fun _=>⟨_,_,_,_,_,_,hc,⟨by omega,by omega⟩,⟨by rw [z0v,Int.toNat_natCast];omega,rfl,rfl⟩,z01 (fun q=> ?_) (fun _=>ih)⟩) (fun q=>absurd (of_decide_eq_false q) (by omega));exact absurd (show (!((c.t==c.t)&&((c.a==c.a)&&((c.b==c.b)&&((c.c==c.c)&&((c.d==c.d)&&true))))))=true from q) (by simp)
abbrev stH5 (s:Hp)(x y:List Int)(f:Int)(pre:List Cel):St:=
 if pre=[] then ⟨[(5,ci f),(13,cb true),(16,aH 0),(21,aIs x),(23,aIs y),(25, .c (.a (.ep 5 2 0 0))),(26, .c (.a (.fz .N))),(27,ci (pre.length:Int))],hpZ s++ [(5, .arr 2 [[.a (.fz (.int .i64 (s.C.length:Int))), .a (.fz (.int .i64 (s.T.length:Int)))]])],6⟩
 else ⟨[(5,ci f),(13,cb true),(16,aH 0),(21,aIs x),(23,aIs y),(25, .c (.a (.ep 5 2 0 0))),(26, .c (.a (.osl 6 5 0 pre.length))),(27,ci (pre.length:Int))],hpZ s++ [(5, .arr 2 [[.a (.fz (.int .i64 (s.C.length:Int))), .a (.fz (.int .i64 (s.T.length:Int)))]]),(6, .arz 5 (CR pre))],7⟩
theorem l_hu5 (K:Nat)(hK:K≤1000000000)(s:Hp)(ok:OkH s)(hg:GoodZ s)(nm:NmB K s)(x y:List Int)(hx:x.length≤1000)(hy:y.length≤1000)(f:Int)(hf:f≤3000):∀ (b pre:List Cel),s.C=pre++b→RPt Tryz.prog 6 0 (cb true) [] 5 (stH5 s x y f pre)
 | [],pre,hp=>by
  rw [List.append_nil] at hp;obtain ⟨hA,p1,p2,p3⟩:=c_hAllU K hK s hg ok nm x y f (by omega) (by omega) hf;have hL:=c_hlen s;have hC:=ok.C;generalize allZ s x y f=z at*;obtain ⟨⟨n,e⟩,s1⟩:=z;dsimp only at*;have hM:=zeg s1
  have ce:∀ (n1 n2:Int),e≠0→n1=(s1.C.length:Int)→n2=(s1.T.length:Int)→(!((n1==(s.C.length:Int))&&((n2==(s.T.length:Int))&&true)))=false:=fun n1 n2 h0 h1 h2=>by
   obtain ⟨c1,c2,_⟩:=p1 h0;rw [h1,h2,c1,c2];simp
  have le:e=0→decide (n≤f)=true:=fun h=>decide_eq_true (p2.resolve_right (fun w=>w h));unfold stH5;by_cases hn:pre=[]
  · subst hn;rw [if_pos rfl]
    have fin:e≠0→RPt Tryz.prog 6 0 (cb true) [] 9 ⟨[(13,cb true),(16,aH 0),(26, .c (.a (.fz .N))),(32,ci 0)],hpZ s1,5⟩:=fun h0=>by
     refine RPt.vc hP sh lv6 (Eq.mpr (v6_9a ..) ?_);exact ⟨rfl,z01 (fun q=>absurd (of_decide_eq_true q) (by decide)) (fun _=>z09 rfl)⟩
    refine RPt.vc hP sh lv6 (Eq.mpr (v6_5a ..) ?_);rw [z05,z05];refine ⟨_,hL,z01 (fun q=>absurd (of_decide_eq_true q) (by rw [hp];simp)) (fun _=>⟨(n,e,s1),hA,rfl,rfl,z0e (fun q=>z0e (fun q1=>absurd (p3 (by omega)) q1) (fun q1=>z04 (fun q0=> ?_) (fun q0=>⟨_,_,hM,z01 (fun w=> ?_) (fun _=>z0e (fun w=>absurd (p1 q0).2.2 w) (fun _=>fin q0))⟩))) (fun q=>z04 (fun q0=> ?_) (fun q0=>⟨_,_,hM,z01 (fun w=> ?_) (fun _=>z0e (fun w=>absurd (p1 q0).2.2 w) (fun _=>fin q0))⟩))⟩)⟩
    · exact z01 (fun _=>z09 (le q0)) (fun w=>by cases w)
    · rw [ce _ _ q0 rfl rfl] at w;cases w
    · exact z01 (fun _=>z09 (le q0)) (fun w=>by cases w)
    · rw [ce _ _ q0 rfl rfl] at w;cases w
  · rw [if_neg hn];have fin:e≠0→RPt Tryz.prog 6 0 (cb true) [] 9 ⟨[(13,cb true),(16,aH 0),(26, .c (.a (.osl 5 5 0 pre.length))),(32,ci 0)],hpZ s1++ [(5, .arz 5 (CR pre))],6⟩:=fun h0=>l_hu9 pre (by rw [←hp];exact hC) s1 (by rw [(p1 h0).1,hp]) pre [] rfl;refine RPt.vc hP sh lv6 (Eq.mpr (v6_5b ..) ?_);rw [z05,z05];refine ⟨_,hL,z01 (fun q=>absurd (of_decide_eq_true q) (by rw [hp];omega)) (fun _=>⟨(n,e,s1),hA,rfl,rfl,z0e (fun q=>z0e (fun q1=>absurd (p3 (by omega)) q1) (fun q1=>z04 (fun q0=> ?_) (fun q0=>⟨_,_,hM,z01 (fun w=> ?_) (fun _=>z0e (fun w=>absurd (p1 q0).2.2 w) (fun _=>fin q0))⟩))) (fun q=>z04 (fun q0=> ?_) (fun q0=>⟨_,_,hM,z01 (fun w=> ?_) (fun _=>z0e (fun w=>absurd (p1 q0).2.2 w) (fun _=>fin q0))⟩))⟩)⟩
    · exact z01 (fun _=>z09 (le q0)) (fun w=>by cases w)
    · rw [ce _ _ q0 rfl rfl] at w;cases w
    · exact z01 (fun _=>z09 (le q0)) (fun w=>by cases w)
    · rw [ce _ _ q0 rfl rfl] at w;cases w
 | c::b,pre,hp=>by
  have ih:=l_hu5 K hK s ok hg nm x y hx hy f hf b (pre++ [c]) (by rw [hp];simp);have hC:=ok.C;have hlen:s.C.length=pre.length+(b.length+1):=by rw [hp];simp
  have hL:=c_hlen s;have hc:=z3f s (pre.length:Int)
  have ec:z07 s.C (pre.length:Int)=c:=by
   rw [hp];unfold z07;rw [if_pos ⟨by omega,by simp only [List.length_append,List.length_cons];omega⟩];simp
  rw [ec] at hc;have eC:CR (pre++ [c])=CR pre++ [c.r]:=by simp [CR]
  unfold stH5 at ih ⊢;rw [if_neg (z41 _ _),show (((pre++ [c]).length:Nat):Int)=(pre.length:Int)+1 by simp,List.length_append,eC] at ih;by_cases hn:pre=[]
  · subst hn;rw [if_pos rfl];refine RPt.vc hP sh lv6 (Eq.mpr (v6_5a ..) ?_);rw [w64 (x:=((([]:List Cel).length:Nat):Int)+1) (by simp) (by simp)];exact ⟨_,hL,z01 (fun _=>⟨_,_,_,_,_,_,hc,Nat.le_refl _,by unfold z0b;omega,ih⟩) (fun q=>absurd (of_decide_eq_false q) (by omega))⟩
  · rw [if_neg hn];refine RPt.vc hP sh lv6 (Eq.mpr (v6_5b ..) ?_);rw [w64 (x:=(pre.length:Int)+1) (by omega) (by omega),List.take_of_length_le (l:=CR pre) (by rw [z0v];exact Nat.le_refl _)];exact ⟨_,hL,z01 (fun _=>⟨_,_,_,_,_,_,hc,Nat.le_refl _,⟨by rw [z0v];exact Nat.le_refl _,by unfold z0b;omega⟩,ih⟩) (fun q=>absurd (of_decide_eq_false q) (by omega))⟩
abbrev stH1 (ls:List Int)(a b:List Tm)(f:Int)(vs:List Int)(s:Hp)(i:Int):St:=
 if vs=[] then ⟨[(0,aIs ls),(1,aL a),(2,aL b),(5,ci f),(13,cb true),(16,aH 0),(17, .c (.a (.fz (.z0 true)))),(18,ci i)],hpZ s,5⟩
 else ⟨[(0,aIs ls),(1,aL a),(2,aL b),(5,ci f),(13,cb true),(16,aH 0),(17, .c (.a (.osl 5 1 0 vs.length))),(18,ci i)],hpZ s++ [(5, .arz 1 (IR vs))],6⟩
theorem zmv (s:Hp)(lv:Int):(z0u s lv).1.2=0∨(z0u s lv).1.2=200:=by
 unfold z0u putS;split
 · rename_i q;exfalso
   have:z3d s ⟨4,z0f [lv,0],0,0,0⟩=true:=by
    unfold z3d;simp only [z0f,List.foldl];simp;omega
   rw [this] at q;cases q
 · split
   · exact .inr rfl
   · exact .inl rfl
theorem l_hu1 (ls:List Int)(hls:ls.length≤1000)(a b:List Tm)(ha:a.length≤1000)(hb:b.length≤1000)(hza:∀ t∈a,t.sz≤B)(hzb:∀ t∈b,t.sz≤B)(f:Int)(hf:f≤3000):∀ (l pre vs:List Int) (s:Hp),ls=pre++l→vs.length=pre.length→OkH s→GoodZ s→NmB 0 s→
  RPt Tryz.prog 6 0 (cb true) [] 1 (stH1 ls a b f vs s (pre.length:Int))
 | [],pre,vs,s,hp,hv,ok,hg,nm=>by
  rw [List.append_nil] at hp
  have key:∀ V:Option (List Int),(z0m V b [] (z0m V a [] s).2).1.2=true→(z0m V a [] s).1.2=true→RPt Tryz.prog 6 0 (cb true) [] 5 (stH5 (z0m V b [] (z0m V a [] s).2).2 (z0m V a [] s).1.1 (z0m V b [] (z0m V a [] s).2).1.1 f []):=fun V h2 h1=>by
   obtain ⟨a1,a2,_,a4⟩:=z61 V a [] ok nm;obtain ⟨b1,b2,_,b4⟩:=z61 V b [] (a1.ok ok) (a2 h1);simp only [List.length_nil] at a4 b4;exact l_hu5 0 (by omega) _ (b1.ok (a1.ok ok)) ((hg.mv a1).mv b1) (b2 h2) _ _ (by omega) (by omega) f hf _ [] rfl
  unfold stH1;by_cases hn:vs=[]
  · subst hn;rw [if_pos rfl];have c1:=zja 0 (by omega) a ha hza s ok nm;obtain ⟨a1,_,a3,_⟩:=z61 (some []) a [] ok nm;have c2:=zja _ (by omega) b hb hzb (z0m (some []) a [] s).2 (a1.ok ok) a3;have key:=key (some []);generalize z0m (some []) a [] s=z at*;generalize z0m (some []) b [] z.2=y at*;obtain ⟨⟨z1,z2⟩,zs⟩:=z;obtain ⟨⟨y1,y2⟩,ys⟩:=y;dsimp only at*;have hm:=zeg ys;refine RPt.vc hP sh lv6 (Eq.mpr (v6_1a ..) ?_);rw [z05];refine ⟨rfl,z01 (fun q=>absurd (of_decide_eq_true q) (by rw [hp];omega)) (fun _=>⟨(z1,z2,zs),c1,(y1,y2,ys),c2,z01 (fun _=>z09 rfl) (fun q1=>z01 (fun _=>z09 rfl) (fun q2=>⟨_,_,hm, ?_⟩))⟩)⟩;exact key (by simpa using q2) (by simpa using q1)
  · rw [if_neg hn]
    match vs,hn with
    | v0::vs,_=>
     have c1:=zj5 0 (by omega) v0 vs a ha hza s ok nm;obtain ⟨a1,_,a3,_⟩:=z61 (some (v0::vs)) a [] ok nm;have c2:=zj5 _ (by omega) v0 vs b hb hzb (z0m (some (v0::vs)) a [] s).2 (a1.ok ok) a3;have key:=key (some (v0::vs));generalize z0m (some (v0::vs)) a [] s=z at*;generalize z0m (some (v0::vs)) b [] z.2=y at*;obtain ⟨⟨z1,z2⟩,zs⟩:=z;obtain ⟨⟨y1,y2⟩,ys⟩:=y;dsimp only at*;have hm:=zeg ys;refine RPt.vc hP sh lv6 (Eq.mpr (v6_1b ..) ?_);rw [z05];refine ⟨rfl,z01 (fun q=>absurd (of_decide_eq_true q) (by rw [hp];omega)) (fun _=>⟨(z1,z2,zs),c1,(y1,y2,ys),c2,z01 (fun _=>z09 rfl) (fun q1=>z01 (fun _=>z09 rfl) (fun q2=>⟨_,_,hm, ?_⟩))⟩)⟩;exact key (by simpa using q2) (by simpa using q1)
 | x::l,pre,vs,s,hp,hv,ok,hg,nm=>by
  have hF:=zdx s ok x;have fo:=zmv s x;have mv:Mv false s (z0u s x).2:= .put _ (.refl _);have ih:=fun (_:(z0u s x).1.2=0)=>l_hu1 ls hls a b ha hb hza hzb f hf l (pre++ [x]) (vs++ [(z0u s x).1.1]) (z0u s x).2 (by rw [hp];simp) (by simp [hv]) (mv.ok ok) (hg.mv mv) (mv.nm nm);rw [show (((pre++ [x]).length:Nat):Int)=(pre.length:Int)+1 by simp] at ih;have hlen:ls.length=pre.length+(l.length+1):=by rw [hp];simp
  have em:List.getD (IR ls) (Int.toNat (pre.length:Int)) []=[.int .i64 x]:=by rw [hp];exact zj7 pre x l
  have hlt:(pre.length:Int)<(((IR ls).length:Nat):Int):=by rw [z05];omega
  generalize z0u s x=z at*;obtain ⟨⟨z1,z2⟩,zs⟩:=z;dsimp only at*;unfold stH1 at ih ⊢;rw [if_neg (z41 _ _),zel,List.length_append] at ih;by_cases hn:vs=[]
  · subst hn;rw [if_pos rfl];refine RPt.vc hP sh lv6 (Eq.mpr (v6_1a ..) ?_);rw [em,w64 (x:=(pre.length:Int)+1) (by omega) (by omega)];refine ⟨rfl,z01 (fun _=>⟨⟨rfl,by omega,hlt,rfl⟩,(z1,z2,zs),hF,z0e (fun q=>z01 (fun _=>z09 ?_) (fun w=>by cases w)) (fun q=>⟨Nat.le_refl _,by unfold z0b;omega,ih q⟩)⟩) (fun q=>absurd hlt (of_decide_eq_false q))⟩;rw [fo.resolve_left q];rfl
  · rw [if_neg hn];refine RPt.vc hP sh lv6 (Eq.mpr (v6_1b ..) ?_);rw [em,w64 (x:=(pre.length:Int)+1) (by omega) (by omega),List.take_of_length_le (l:=IR vs) (by rw [z05];exact Nat.le_refl _)];refine ⟨rfl,z01 (fun _=>⟨⟨rfl,by omega,hlt,rfl⟩,(z1,z2,zs),hF,z0e (fun q=>z01 (fun _=>z09 ?_) (fun w=>by cases w)) (fun q=>⟨Nat.le_refl _,⟨by rw [z05];exact Nat.le_refl _,by unfold z0b;omega⟩,ih q⟩)⟩) (fun q=>absurd hlt (of_decide_eq_false q))⟩;rw [fo.resolve_left q];rfl
theorem zkh {l:List Tm}(h:zk9 l=false):l.length≤6:=by
 unfold zk9 at h;rw [Bool.or_eq_false_iff] at h;have:=of_decide_eq_false h.1;omega
theorem zna (ls:List Int)(a b:List Tm)(room trail fuel:Int)(ha:∀ t∈a,t.bk≤B)(hb:∀ t∈b,t.bk≤B):AC Tryz.prog 6 [aIs ls,aL a,aL b,ci room,ci trail,ci fuel] [] (cb true) []:=by
 have hza:=fun t ht=>Nat.le_trans (Tm.sz_bk t) (ha t ht);have hzb:=fun t ht=>Nat.le_trans (Tm.sz_bk t) (hb t ht);have hw:=zn6;have o1:=zjc a hza;have o2:=zjc b hzb;have hn:=c_hnew room trail;refine AC.vc hP sh lv6 (Nat.le_refl _) (by simp) (by simp) (Eq.mpr (v6 ..) ?_);rw [z05];refine ⟨true,hw,z01 (fun q=>by cases q) (fun _=>⟨_,o1,_,o2,z01 (fun _=>z09 rfl) (fun q1=>z01 (fun _=>z09 rfl) (fun q2=>⟨rfl,z01 (fun _=>z09 rfl) (fun q3=>z01 (fun _=>z09 rfl) (fun _=>z01 (fun _=>z09 rfl) (fun _=>z01 (fun _=>z09 rfl) (fun q6=>⟨_,hn, ?_⟩))))⟩))⟩)⟩;have q3:=of_decide_eq_false q3;have q6:=of_decide_eq_false q6;have l1:=zkh q1;have l2:=zkh q2;have mn:∀ x:Int,z0q [x,1048576]≤1048576:=fun x=>by simp only [z0q,List.foldl];omega
 have ok:OkH ⟨[],[],z0q [z0f [room,0],1048576],z0q [z0f [trail,0],1048576],[]⟩:=⟨by simp,mn _,by simp,mn _⟩;exact l_hu1 ls (by omega) a b (by omega) (by omega) hza hzb fuel (by omega) ls [] [] _ rfl rfl ok (fun e he=>by cases he) (Nat.zero_le _)
end Go.AM

namespace Go.AM
open Go.ChangeShapes Go.WideShapes Go.ChangeAt Go.RowKit
end Go.AM

set_option maxRecDepth 100000
open Go Go.Proofs
namespace Go.Proofs.YtmgbnkbcjkdfjaaGreat.base
open Go.ChangeShapes Go.WideShapes Go.ChangeAt Go.RowKit Go.AM
theorem one_le {H:Type}(d:DataW H):1≤Rows.uptoBulk d:=by
 cases d with
 | lit l=>cases l<;>simp [Rows.uptoBulk]
 | _=>simp [Rows.uptoBulk]
theorem bulk {H:Type}:Bulk (H:=H) Rows.uptoBulk Rows.uptoBulkAll:=
 ⟨rfl,fun _ _=>rfl,one_le,fun es sp=>by simp only [Rows.uptoBulk];omega,fun l=>by simp [Rows.uptoBulk],fun l=>by simp [Rows.uptoBulk]⟩
theorem own:ownKnob Tryz.prog.godebug=none:=by kernel_rfl
theorem laidOut:laidOutB Tryz.prog=true:=by kernel_rfl
theorem tmTy:∃ f0 f1 f2 f3:Field,TmTy Tryz.prog 35 f0 f1 f2 f3:=
 ⟨_,_,_,_,Tryz.underlying35,Tryz.underlying33,Tryz.underlying9,Tryz.underlying3,Tryz.underlying23,rfl,rfl,rfl,rfl,by kernel_rfl,by kernel_rfl,by kernel_rfl,by kernel_rfl,by kernel_rfl⟩
theorem rec3:Tryz.prog.readableRec 3=true:=by kernel_rfl
theorem lt3:3<Tryz.prog.types.size:=of_decide_eq_true (by kernel_rfl)
theorem rec22:Tryz.prog.readableRec 22=true:=by kernel_rfl
theorem lt22:22<Tryz.prog.types.size:=of_decide_eq_true (by kernel_rfl)
theorem rec23:Tryz.prog.readableRec 23=true:=by kernel_rfl
theorem lt23:23<Tryz.prog.types.size:=of_decide_eq_true (by kernel_rfl)
theorem noGl (g:Nat)(h:Tryz.prog.globalNamed "internal/strconv.uint64pow10" =some g):False:=by
 rw [show Tryz.prog.globalNamed "internal/strconv.uint64pow10" =none by kernel_rfl] at h;cases h
theorem zb2 {n:Int}(h:(Lit.int .i64 n).wf=true): -9223372036854775808≤n∧n≤9223372036854775807:=by
 simp only [Lit.wf,IntKind.min,IntKind.max,IntKind.signed,IntKind.bits,Bool.and_eq_true,decide_eq_true_eq,if_true] at h;omega
theorem upto {H:Type}{l:List (DataW H)}(hk:Rows.uptoSmall H l=true):Rows.uptoBulkAll l≤1048576:=of_decide_eq_true hk
end Go.Proofs.YtmgbnkbcjkdfjaaGreat.base
