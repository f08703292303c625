/- Contracts of the code's functions over plain values, and plain laws: part 6. No conditions. -/
import Derived.Test.YtmgbnkbcjkdfjaaGreatPart5
import Derived.Test.YtmgbnkbcjkdfjaaGreatPart3
import Derived.Test.YtmgbnkbcjkdfjaaGreatPart2
import Derived.Test.YtmgbnkbcjkdfjaaGreatRows
set_option maxRecDepth 100000
open Go Go.Proofs
namespace Go.AM
abbrev aIv (v:Iv):TV:= .agg [.a (.ep 0 3 0 0), .a (.fz (.int .i64 v.x)), .a (.fz (.int .i64 v.lv)), .a (.fz (.sl false 4 (FTs v.l)))]
abbrev obIv (v:Iv):AObj:= .arr 4 [[.a (.ep 0 3 0 0), .a (.fz (.int .i64 v.x)), .a (.fz (.int .i64 v.lv)), .a (.fz (.sl false 4 (FTs v.l)))]]
abbrev zT4:AObj:= .arr 4 [[.a (.fz (.int .i64 0)), .a (.fz (.str [])), .a (.fz (.int .i64 0)), .a (.fz .N)]]
abbrev tTB (x:Tm×Bool):TV:= .tup [(true,cT x.1),(false,[.a (.fz (.bool x.2))])]
abbrev wkI (w:Wp)(n:Nat)(R:List (List FV)):AHeap:=[(0,wk3 1 6 w.f n),(1,hp6 2 3 4 5 w.s),(2, .arz 5 (CR w.s.C)),(3, .arz 7 (TR w.s.T)),(4, .arz 1 (NR w.s.N)),(5, .mapz (NM w.s.N 0)),(6, .arz 2 R)]
def zkf (v:Iv)(t out:Tm)(k:Int)(b:List Tm):Tm×Bool:=
 match ixZ out b with
 | some r=>(bndT (k+r),true)
 | none=>(t,t.k==1&&decide (t.n≤v.lv))
theorem zim (v:Iv)(t out:Tm)(k:Int)(w:Wp)(n:Nat)(R:List (List FV))(hk0:0≤k)(hk1:k≤1000000000)(hl:v.l.length≤1000000000):∀ (b pre:List Tm),v.l=pre++b→
  RPt Tryz.prog 330 7 (tTB (zkf v t out k b)) (oWk w n R) 1 ⟨[(2,ci k),(3, .c (.a (.ep 7 4 0 0))),(4, .c (.a (.ep 8 4 0 0))),(6, .c (.a (.ep 9 4 0 0))),(8, .c (.a (.ep 10 4 0 0))),(31,aL v.l),(32,ci (v.l.length:Int)),(33,ci (pre.length:Int))],wkI w n R++ [(7,obIv v),(8, .arr 4 [cT t]),(9,zT4),(10, .arr 4 [cT out])],11⟩
 | [],pre,hp=>by
  rw [List.append_nil] at hp;have e:zkf v t out k []=(t,t.k==1&&decide (t.n≤v.lv)):=rfl;rw [e];obtain ⟨tk,ts,tn,tl⟩:=t;obtain ⟨ok,os,on,ol⟩:=out;refine RPt.vc hP sh zmb (Eq.mpr (znl ..) ?_);refine z01 (fun h=>absurd (of_decide_eq_true h) (by rw [hp];omega)) (fun _=>z01 (fun h=> ?_) (fun h=> ?_))
  · have h:(tk==1)=true:=h;simp only [Tm.k,Tm.n];rw [h,Bool.true_and];exact ⟨.refl _,rfl⟩
  · have h:(tk==1)=false:=h;simp only [Tm.k,Tm.n];rw [h,Bool.false_and];exact ⟨.refl _,rfl⟩
 | u::b,pre,hp=>by
  have ih:=zim v t out k w n R hk0 hk1 hl b (pre++ [u]) (by rw [hp];simp);rw [show (((pre++ [u]).length:Nat):Int)=(pre.length:Int)+1 by simp] at ih;have hlen:v.l.length=pre.length+(b.length+1):=by rw [hp];simp
  have em:List.getD (FTs v.l) (Int.toNat (pre.length:Int)) []=FT u:=by rw [hp];exact midI pre u b
  have h3:((pre.length:Nat):Int)<(((FTs v.l).length:Nat):Int):=by rw [z00];omega
  have hs:=zhg u out;have hb:=z6q (k+(b.length:Int))
  have e:zkf v t out k (u::b)=if lfZ u out=true then (bndT (k+(b.length:Int)),true) else zkf v t out k b:=by
   unfold zkf;rw [ixZ];cases lfZ u out<;>rfl
  rw [e];generalize lfZ u out=c at*
  have ww:IntKind.wrap .i64 (IntKind.wrap .i64 (IntKind.wrap .i64 (k+(((FTs v.l).length:Nat):Int))-1)-(pre.length:Int))=k+(b.length:Int):=by
   rw [z00,w64 (x:=k+(v.l.length:Int)) (by omega) (by omega),w64 (x:=k+(v.l.length:Int)-1) (by omega) (by omega),w64 (by omega) (by omega)];omega
  obtain ⟨tk,ts,tn,tl⟩:=t;obtain ⟨ok,os,on,ol⟩:=out;refine RPt.vc hP sh zmb (Eq.mpr (znl ..) ?_);rw [em,ww,w64 (x:=(pre.length:Int)+1) (by omega) (by omega)];refine z01 (fun _=>⟨⟨rfl,by omega,h3,z7y u⟩,c,by rw [z7g];exact hs,z01 (fun h=> ?_) (fun h=> ?_)⟩) (fun h=>absurd (of_decide_eq_false h) (by omega))
  · rw [if_pos h];exact ⟨rfl,_,hb, .refl _,rfl⟩
  · rw [if_neg (by rw [h];simp)];exact ih
theorem zdr (v:Iv)(t:Tm)(k:Int)(w:Wp)(n:Nat)(R:List (List FV))(hk0:0≤k)(hk1:k≤1000000000)(hl:v.l.length≤1000000000):AC Tryz.prog 330 [aIv v,aT t,ci k] (oWk w n R) (tTB (z47 v t k)) (oWk w n R):=by
 have hl2:=zim v t (outZ t k) k w n R hk0 hk1 hl v.l [] rfl;have e:z47 v t k=if t.k=3∧t.n<k then (t,true) else zkf v t (outZ t k) k v.l:=rfl
 rw [e];obtain ⟨tk,ts,tn,tl⟩:=t;refine AC.vc hP sh zmb (by simp) (by simp [isLive]) (by simp) (Eq.mpr (v330 v.x v.lv (FTs v.l) tk ts tn (FTs tl) k ..) ?_);rw [z00];refine z04 (fun h3=>z01 (fun h4=> ?_) (fun h4=>z04 (fun _=>⟨rfl, ?_⟩) (fun h=>absurd h3 h))) (fun h3=>z04 (fun h=>absurd h h3) (fun _=>⟨rfl, ?_⟩))
 · have h4:=of_decide_eq_true h4;rw [if_pos ⟨h3,h4⟩];exact ⟨.refl _,rfl⟩
 · have h4:=of_decide_eq_false h4;rw [if_neg (fun q=>h4 q.2)];have eo:outZ (.mk tk ts tn tl) k= .mk tk ts (wr (tn-k)) tl:=if_pos h3;rw [eo] at hl2 ⊢;exact hl2
 · rw [if_neg (fun q=>h3 q.1)];have eo:outZ (.mk tk ts tn tl) k= .mk tk ts tn tl:=if_neg h3;rw [eo] at hl2 ⊢;exact hl2
theorem c_wrigid (v:Iv)(x:Sd)(k:Int)(w:Wp)(n:Nat)(R:List (List FV))(hk0:0≤k)(hk1:k≤1000000000)(hl:v.l.length≤1000000000):AC Tryz.prog 298 [aIv v,aSd x,ci k] (oWk w n R) (tTB (z5r v w.s.N x k)) (oWk w n R):=by
 have hn:=zos w.s x.c.a;have h1:=(zdr v (.mk 1 [] x.c.a []) k w n R hk0 hk1 hl).args (args:=[aIv v, .agg [.a (.fz (.int .i64 1)), .a (.fz (.str [])), .a (.fz (.int .i64 x.c.a)), .a (.fz .N)],ci k]) ⟨.refl _,leT z2h, .refl _,trivial⟩;have h2:=zdr v (bndT x.c.a) k w n R hk0 hk1 hl;have hb:=z6q x.c.a
 have e:z5r v w.s.N x k=if x.c.t=0 then (.mk 0 (z8v w.s.N x.c.a) 0 [],true) else if x.c.t=2 then (.mk 2 [] x.c.a [],true)
  else if x.c.t=1 then z47 v (.mk 1 [] x.c.a []) k else z47 v (bndT x.c.a) k:=rfl
 rw [e];refine AC.vc hP sh lv298 (by simp) (by simp [isLive]) (by simp) (Eq.mpr (v298 v.x v.lv (FTs v.l) ..) ?_);refine z04 (fun e0=>⟨_,hn, ?_⟩) (fun e0=>z04 (fun e2=> ?_) (fun e2=>z04 (fun e1=>⟨_,h1, ?_⟩) (fun e1=>⟨_,hb,_,h2, ?_⟩)))
 · rw [if_pos e0];exact ⟨leTB (l:=[]) z2h,rfl⟩
 · rw [if_neg e0,if_pos e2];exact ⟨leTB (l:=[]) z2h,rfl⟩
 · rw [if_neg e0,if_neg e2,if_pos e1];exact ⟨.refl _,rfl⟩
 · rw [if_neg e0,if_neg e2,if_neg e1];exact ⟨.refl _,rfl⟩
abbrev fxW (v:Iv)(y:Sd)(w:Wp)(n:Nat)(R:List (List FV)):AHeap:=wkH w n R++ [(11,obIv v),(12, .arr 7 [[.a (.fz (.int .i64 y.h)), .a (.fz (.sl false 1 (IR y.js))), .a (.fz (.int .i64 y.c.t)), .a (.fz (.int .i64 y.c.a)), .a (.fz (.int .i64 y.c.b)), .a (.fz (.int .i64 y.c.c)), .a (.fz (.int .i64 y.c.d))]]),(13,zT4)]
abbrev fxT (v:Iv)(y:Sd)(w:Wp)(n:Nat)(R:List (List FV))(k:Int)(ls on im l:List Tm)(a b c:Nat)(j:Int):St:=
 if on=[] then ⟨[(2,ci k),(3, .c (.a (.ep 11 4 0 0))),(4, .c (.a (.ep 12 7 0 0))),(6, .c (.a (.ep 13 4 0 0))),(8,aL ls),(10,ci y.c.a),(11, .c (.a (.fz .N))),(12, .c (.a (.fz .N))),(a,aL l),(b,ci (l.length:Int)),(c,ci j)],fxW v y w n R,14⟩
 else ⟨[(2,ci k),(3, .c (.a (.ep 11 4 0 0))),(4, .c (.a (.ep 12 7 0 0))),(6, .c (.a (.ep 13 4 0 0))),(8,aL ls),(10,ci y.c.a),(11, .c (.a (.osl 14 4 0 on.length))),(12, .c (.a (.osl 15 4 0 im.length))),(a,aL l),(b,ci (l.length:Int)),(c,ci j)],fxW v y w n R++ [(14, .arz 4 (FTs on)),(15, .arz 4 (FTs im))],16⟩
theorem leNs:TV.Le (.c (.a (.fz .N))) (aL []):= .c _ _ (.a _ _ (.fz _ _ z2h))
abbrev hgZ (v:Iv)(y:Sd)(w:Wp)(m:Nat)(on im:List Tm):(Tm×Int)×Wp:=
 ((z09 (z3t w y.h (z0p [v.lv,y.c.a]) m on).1.1 im,(z3t w y.h (z0p [v.lv,y.c.a]) m on).1.2),(z3t w y.h (z0p [v.lv,y.c.a]) m on).2)
theorem zjh (K:Nat)(hK:K≤1000000000)(v:Iv)(y:Sd)(w:Wp)(n:Nat)(R:List (List FV))(ok:OkW K w)(k:Int)(hk0:0≤k)(hk1:k≤1000000000)(ls:List Tm)(hls:ls.length≤10000000)(hl:v.l.length≤10000000)(hv:ones v.l):
  ∀ (b pre on im:List Tm),v.l=pre++b→on.length=im.length→ones on→ones im→on.length+b.length≤100000000→
  RPt Tryz.prog 297 7 (tTE (hgZ v y w ls.length (on++(im2 y.c.a v.lv k b).1) (im++(im2 y.c.a v.lv k b).2)).1) (oWk' (hgZ v y w ls.length (on++(im2 y.c.a v.lv k b).1) (im++(im2 y.c.a v.lv k b).2)).2 n R) 5 (fxT v y w n R k ls on im v.l 86 87 88 (pre.length:Int))
 | [],pre,on,im,hp,ho,o1,o2,hz=>by
  rw [List.append_nil] at hp;have e1:(im2 y.c.a v.lv k []).1=[]:=rfl;have e2:(im2 y.c.a v.lv k []).2=[]:=rfl;rw [e1,e2,List.append_nil,List.append_nil];simp only [List.length_nil] at hz;have hh:=znr K hK w n R ok y.h (z0p [v.lv,y.c.a]) ls.length on (by omega) (by rw [z7d o1];omega);have hsz:=(zd2 ok y.h (z0p [v.lv,y.c.a]) ls.length on).2;unfold hgZ;generalize z3t w y.h (z0p [v.lv,y.c.a]) ls.length on=z at*;obtain ⟨⟨t,e⟩,u⟩:=z;dsimp only at hsz hh ⊢;have hll:t.l.length≤1:=by have:=t.sz_eq;have:=Tm.szs_length t.l;omega
  have ha:=z3k t im (by omega);unfold fxT;by_cases hn:on=[]
  · subst hn;have:im=[]:=List.eq_nil_of_length_eq_zero ho.symm;subst this;rw [if_pos rfl];refine RPt.vc hP sh z7j (Eq.mpr (zox ..) ?_);refine z01 (fun h=>absurd (of_decide_eq_true h) (by rw [hp];omega)) (fun _=>⟨rfl, ?_⟩);rw [z00];exact ⟨(t,e,⟨u.s,u.f,n,R⟩),hh.args ⟨.refl _, .refl _, .refl _, .refl _,leNs,trivial⟩,_,ha.args ⟨.refl _,leNs,trivial⟩, .refl _,rfl⟩
  · rw [if_neg hn];refine RPt.vc hP sh z7j (Eq.mpr (zlf ..) ?_);refine z01 (fun h=>absurd (of_decide_eq_true h) (by rw [hp];omega)) (fun _=>⟨rfl,⟨rfl,by rw [z00];omega⟩, ?_⟩);rw [z00,List.drop_zero,List.take_of_length_le (l:=FTs on) (by rw [z00];exact Nat.le_refl _),List.drop_zero,List.take_of_length_le (l:=FTs im) (by rw [z00];exact Nat.le_refl _)];exact ⟨(t,e,⟨u.s,u.f,n,R⟩),hh,⟨rfl,by rw [z00];omega⟩,_,ha, .refl _,rfl⟩
 | t::b,pre,on,im,hp,ho,o1,o2,hz=>by
  have hlen:v.l.length=pre.length+(b.length+1):=by rw [hp];simp
  have em:List.getD (FTs v.l) (Int.toNat (pre.length:Int)) []=FT t:=by rw [hp];exact midI pre t b
  have h3:((pre.length:Nat):Int)<(((FTs v.l).length:Nat):Int):=by rw [z00];omega
  have ek:FV.I (List.getD (FT t) 0 FV.N)=t.k:=by cases t;rfl
  have en:FV.I (List.getD (FT t) 2 FV.N)=t.n:=by cases t;rfl
  have t1:t.sz=1:=hv t (by rw [hp];simp);simp only [List.length_cons] at hz;have hb:=z6q (k+(b.length:Int))
  have ww:IntKind.wrap .i64 (IntKind.wrap .i64 (IntKind.wrap .i64 (k+(((FTs v.l).length:Nat):Int))-1)-(pre.length:Int))=k+(b.length:Int):=by
   rw [z00,w64 (x:=k+(v.l.length:Int)) (by omega) (by omega),w64 (x:=k+(v.l.length:Int)-1) (by omega) (by omega),w64 (by omega) (by omega)];omega
  have nx:=fun (on' im':List Tm) h1 h2 h3 h4=>zjh K hK v y w n R ok k hk0 hk1 ls hls hl hv b (pre++ [t]) on' im' (by rw [hp];simp) h1 h2 h3 h4;rw [show (((pre++ [t]).length:Nat):Int)=(pre.length:Int)+1 by simp] at nx;have i1:y.c.a>v.lv∧t.k=1∧t.n≤y.c.a→(im2 y.c.a v.lv k (t::b)).1=t::(im2 y.c.a v.lv k b).1∧(im2 y.c.a v.lv k (t::b)).2=bndT (k+(b.length:Int))::(im2 y.c.a v.lv k b).2:=fun h=>by rw [im2,if_pos h];exact ⟨rfl,rfl⟩
  have i2:¬(y.c.a>v.lv∧t.k=1∧t.n≤y.c.a)→im2 y.c.a v.lv k (t::b)=im2 y.c.a v.lv k b:=fun h=>by rw [im2,if_neg h]
  have one1:∀ (l:List Tm) (u:Tm),ones l→u.sz=1→ones (l++ [u]):=fun l u h1 h2=>ze1 h1 (fun x hx=>by rw [List.mem_singleton.1 hx];exact h2)
  have skip:¬(y.c.a>v.lv∧t.k=1∧t.n≤y.c.a)→RPt Tryz.prog 297 7 (tTE (hgZ v y w ls.length (on++(im2 y.c.a v.lv k (t::b)).1) (im++(im2 y.c.a v.lv k (t::b)).2)).1) (oWk' (hgZ v y w ls.length (on++(im2 y.c.a v.lv k (t::b)).1) (im++(im2 y.c.a v.lv k (t::b)).2)).2 n R) 5 (fxT v y w n R k ls on im v.l 86 87 88 ((pre.length:Int)+1)):=fun h=>by
   rw [i2 h];exact nx on im ho o1 o2 (by omega)
  have take:y.c.a>v.lv∧t.k=1∧t.n≤y.c.a→RPt Tryz.prog 297 7 (tTE (hgZ v y w ls.length (on++(im2 y.c.a v.lv k (t::b)).1) (im++(im2 y.c.a v.lv k (t::b)).2)).1) (oWk' (hgZ v y w ls.length (on++(im2 y.c.a v.lv k (t::b)).1) (im++(im2 y.c.a v.lv k (t::b)).2)).2 n R) 5 (fxT v y w n R k ls (on++ [t]) (im++ [bndT (k+(b.length:Int))]) v.l 86 87 88 ((pre.length:Int)+1)):=fun h=>by
   obtain ⟨a1,a2⟩:=i1 h;have:=nx (on++ [t]) (im++ [bndT (k+(b.length:Int))]) (by simp [ho]) (one1 _ _ o1 t1) (one1 _ _ o2 rfl) (by simp only [List.length_append,List.length_cons,List.length_nil];omega);rw [List.append_assoc,List.append_assoc,List.singleton_append,List.singleton_append,←a1,←a2] at this;exact this
  generalize hgZ v y w ls.length (on++(im2 y.c.a v.lv k (t::b)).1) (im++(im2 y.c.a v.lv k (t::b)).2)=Z at*;have op:FV.L 4 (.sl false 4 (FTs v.l))=true∧((0:Int)≤(pre.length:Int)∧(((pre.length:Int)<(((FTs v.l).length:Nat):Int))∧((rE (FT t):List FV)=FT t))):=⟨rfl,by omega,h3,z7y t⟩;clear nx i1 i2;unfold fxT at skip take ⊢;rw [if_neg (z9f on t)] at take;by_cases hn:on=[]
  · subst hn;have:im=[]:=List.eq_nil_of_length_eq_zero ho.symm;subst this;rw [if_pos rfl] at skip ⊢;refine RPt.vc hP sh z7j (Eq.mpr (zox ..) ?_);rw [em,ek,en,w64 (x:=(pre.length:Int)+1) (by omega) (by omega),ww];refine z01 (fun _=>⟨op,z01 (fun c1=>z04 (fun c2=>z01 (fun c3=>⟨Nat.le_refl _,z4n (by omega),rfl,_,hb,Nat.le_refl _,z4n (by omega), ?_⟩) (fun c3=>skip fun q=>of_decide_eq_false c3 q.2.2)) (fun c2=>skip fun q=>c2 q.2.1)) (fun c1=>skip fun q=>of_decide_eq_false c1 q.1)⟩) (fun h=>absurd (of_decide_eq_false h) (by omega));rw [z7y];exact take ⟨of_decide_eq_true c1,c2,of_decide_eq_true c3⟩
  · rw [if_neg hn] at skip ⊢;refine RPt.vc hP sh z7j (Eq.mpr (zlf ..) ?_);rw [em,ek,en,w64 (x:=(pre.length:Int)+1) (by omega) (by omega),ww];have r1:on.length≤(FTs on).length∧z0h (on.length+1) 56:=⟨by rw [z00];exact Nat.le_refl _,z4n (by omega)⟩;have r2:im.length≤(FTs im).length∧z0h (im.length+1) 56:=⟨by rw [z00];exact Nat.le_refl _,z4n (by omega)⟩;refine z01 (fun _=>⟨op,z01 (fun c1=>z04 (fun c2=>z01 (fun c3=>⟨Nat.le_refl _,r1,rfl,_,hb,Nat.le_refl _,r2, ?_⟩) (fun c3=>skip fun q=>of_decide_eq_false c3 q.2.2)) (fun c2=>skip fun q=>c2 q.2.1)) (fun c1=>skip fun q=>of_decide_eq_false c1 q.1)⟩) (fun h=>absurd (of_decide_eq_false h) (by omega));rw [z7y,List.take_of_length_le (l:=FTs on) (by rw [z00];exact Nat.le_refl _),List.take_of_length_le (l:=FTs im) (by rw [z00];exact Nat.le_refl _),z48];have:=take ⟨of_decide_eq_true c1,c2,of_decide_eq_true c3⟩;rw [z1x,z1x,List.length_append,List.length_append] at this;exact this
theorem zjk (K:Nat) (hK:K≤1000000000) (v:Iv) (y:Sd) (w:Wp) (n:Nat) (R:List (List FV)) (ok:OkW K w) (k:Int) (hk0:0≤k) (hk1:k≤1000000000) (ls:List Tm) (hls:ls.length≤10000000) (hl:v.l.length≤10000000) (hv:ones v.l) (ho:ones ls) (Z:(Tm×Int)×Wp)
  (full:(im1 v k ls).1.length=ls.length→y.c.a≤v.lv→Z=((z09 (.mk 4 [] y.h []) (im1 v k ls).2,0),w))
  (part:¬((im1 v k ls).1.length=ls.length∧y.c.a≤v.lv)→Z=hgZ v y w ls.length ((im1 v k ls).1++(im2 y.c.a v.lv k v.l).1) ((im1 v k ls).2++(im2 y.c.a v.lv k v.l).2)):
  ∀ (b pre on im:List Tm),ls=pre++b→on.length=im.length→on.length≤pre.length→(im1 v k ls).1=on++(im1 v k b).1→(im1 v k ls).2=im++(im1 v k b).2→
  RPt Tryz.prog 297 7 (tTE Z.1) (oWk' Z.2 n R) 1 (fxT v y w n R k ls on im ls 39 40 41 (pre.length:Int))
 | [],pre,on,im,hp,hoi,hop,q1,q2=>by
  rw [List.append_nil] at hp;have hpl:ls.length=pre.length:=by rw [hp]
  have e1:(im1 v k []).1=[]:=rfl;have e2:(im1 v k []).2=[]:=rfl;rw [e1,List.append_nil] at q1;rw [e2,List.append_nil] at q2;obtain ⟨a1,a2,a3,a4⟩:=znt v k ls ho;rw [q1] at full part a3 a4;rw [q2] at full part a1 a2 a3
  have l5:¬(on.length=ls.length∧y.c.a≤v.lv)→RPt Tryz.prog 297 7 (tTE Z.1) (oWk' Z.2 n R) 5 (fxT v y w n R k ls on im v.l 86 87 88 0):=fun h=>by
   have:=zjh K hK v y w n R ok k hk0 hk1 ls hls hl hv v.l [] on im rfl a3 a4 a1 (by omega);rw [←part h] at this;exact this
  have ha:=(z3k (.mk 4 [] y.h []) im (by simp only [Tm.l,List.length_nil];omega)).args (args:=[.agg [.a (.fz (.int .i64 4)), .a (.fz (.str [])), .a (.fz (.int .i64 y.h)), .a (.fz .N)],aL im]) ⟨leT z2h, .refl _,trivial⟩;unfold fxT at l5 ⊢;by_cases hn:on=[]
  · subst hn;have:im=[]:=List.eq_nil_of_length_eq_zero hoi.symm;subst this;rw [if_pos rfl] at l5 ⊢;refine RPt.vc hP sh z7j (Eq.mpr (zmk ..) ?_);simp only [z00];refine z01 (fun h=>absurd (of_decide_eq_true h) (by omega)) (fun _=>⟨rfl,rfl,z01 (fun c1=>z01 (fun c2=> ?_) (fun c2=>⟨rfl,l5 fun q=>of_decide_eq_false c2 q.2⟩)) (fun c1=>⟨rfl,l5 fun q=> ?_⟩)⟩)
    · have c1:(0:Int)=(ls.length:Int):=by have c1:((0:Int)==(ls.length:Int))=true:=c1;simpa using c1
      rw [full (by simp only [List.length_nil];omega) (of_decide_eq_true c2)];exact ⟨_,ha.args ⟨.refl _,leNs,trivial⟩, .refl _,rfl⟩
    · have c1:((0:Int)==(ls.length:Int))=false:=c1;have:=q.1;simp only [List.length_nil] at this;rw [←this] at c1;simp at c1
  · rw [if_neg hn] at l5 ⊢;refine RPt.vc hP sh z7j (Eq.mpr (zo4 ..) ?_);simp only [z00];refine z01 (fun h=>absurd (of_decide_eq_true h) (by omega)) (fun _=>⟨rfl,z01 (fun c1=>z01 (fun c2=> ?_) (fun c2=>⟨rfl,l5 fun q=>of_decide_eq_false c2 q.2⟩)) (fun c1=>⟨rfl,l5 fun q=> ?_⟩)⟩)
    · have c1:(on.length:Int)=(ls.length:Int):=by have c1:((on.length:Int)==(ls.length:Int))=true:=c1;simpa using c1
      rw [full (by omega) (of_decide_eq_true c2)];rw [List.drop_zero,List.take_of_length_le (l:=FTs im) (by rw [z00];exact Nat.le_refl _)];exact ⟨⟨by trivial,by first | omega | (rw [z00];omega)⟩,_,ha, .refl _,rfl⟩
    · have c1:((on.length:Int)==(ls.length:Int))=false:=c1;rw [q.1] at c1;simp at c1
 | t::b,pre,on,im,hp,hoi,hop,q1,q2=>by
  have hlen:ls.length=pre.length+(b.length+1):=by rw [hp];simp
  have em:List.getD (FTs ls) (Int.toNat (pre.length:Int)) []=FT t:=by rw [hp];exact midI pre t b
  have h3:((pre.length:Nat):Int)<(((FTs ls).length:Nat):Int):=by rw [z00];omega
  have hi:=zdr v t k w n R hk0 hk1 (by omega);have hb:=z6q (b.length:Int)
  have ww:IntKind.wrap .i64 (IntKind.wrap .i64 ((((FTs ls).length:Nat):Int)-1)-(pre.length:Int))=(b.length:Int):=by
   rw [z00,w64 (x:=(ls.length:Int)-1) (by omega) (by omega),w64 (by omega) (by omega)];omega
  have nx:=fun (on' im':List Tm) h1 h2 h3 h4=>zjk K hK v y w n R ok k hk0 hk1 ls hls hl hv ho Z full part b (pre++ [t]) on' im' (by rw [hp];simp) h1 h2 h3 h4;rw [show (((pre++ [t]).length:Nat):Int)=(pre.length:Int)+1 by simp] at nx;have e0:im1 v k (t::b)=if (z47 v t k).2=true then (bndT (b.length:Int)::(im1 v k b).1,(z47 v t k).1::(im1 v k b).2) else im1 v k b:=rfl
  rw [e0] at q1 q2;generalize z47 v t k=z at*;obtain ⟨z1,z2⟩:=z;dsimp only at q1 q2 hi
  have skip:z2=false→RPt Tryz.prog 297 7 (tTE Z.1) (oWk' Z.2 n R) 1 (fxT v y w n R k ls on im ls 39 40 41 ((pre.length:Int)+1)):=fun h=>by
   rw [h,if_neg (by simp)] at q1 q2;exact nx on im hoi (by simp;omega) q1 q2
  have take:z2=true→RPt Tryz.prog 297 7 (tTE Z.1) (oWk' Z.2 n R) 1 (fxT v y w n R k ls (on++ [bndT (b.length:Int)]) (im++ [z1]) ls 39 40 41 ((pre.length:Int)+1)):=fun h=>by
   rw [if_pos h] at q1 q2;exact nx (on++ [bndT (b.length:Int)]) (im++ [z1]) (by simp [hoi]) (by simp;omega) (by rw [q1];simp) (by rw [q2];simp)
  clear nx full part;have op:FV.L 4 (.sl false 4 (FTs ls))=true∧((0:Int)≤(pre.length:Int)∧(((pre.length:Int)<(((FTs ls).length:Nat):Int))∧((rE (FT t):List FV)=FT t))):=⟨rfl,by omega,h3,z7y t⟩;unfold fxT at skip take ⊢;rw [if_neg (z9f on _)] at take;by_cases hn:on=[]
  · subst hn;have:im=[]:=List.eq_nil_of_length_eq_zero hoi.symm;subst this;rw [if_pos rfl] at skip ⊢;refine RPt.vc hP sh z7j (Eq.mpr (zmk ..) ?_);rw [em,w64 (x:=(pre.length:Int)+1) (by omega) (by omega),ww,z7g];exact z01 (fun _=>⟨op,(z1,z2),hi,z01 (fun c=>⟨rfl,_,hb,Nat.le_refl _,z4n (by omega),Nat.le_refl _,z4n (by omega),by rw [z48,z48];exact take c⟩) (fun c=>skip c)⟩) (fun h=>absurd (of_decide_eq_false h) (by omega))
  · rw [if_neg hn] at skip ⊢;refine RPt.vc hP sh z7j (Eq.mpr (zo4 ..) ?_);rw [em,w64 (x:=(pre.length:Int)+1) (by omega) (by omega),ww,z7g];have r1:on.length≤(FTs on).length∧z0h (on.length+1) 56:=⟨by rw [z00];exact Nat.le_refl _,z4n (by omega)⟩;have r2:im.length≤(FTs im).length∧z0h (im.length+1) 56:=⟨by rw [z00];exact Nat.le_refl _,z4n (by omega)⟩;refine z01 (fun _=>⟨op,(z1,z2),hi,z01 (fun c=>⟨rfl,_,hb,Nat.le_refl _,r1,Nat.le_refl _,r2, ?_⟩) (fun c=>skip c)⟩) (fun h=>absurd (of_decide_eq_false h) (by omega));rw [List.take_of_length_le (l:=FTs on) (by rw [z00];exact Nat.le_refl _),List.take_of_length_le (l:=FTs im) (by rw [z00];exact Nat.le_refl _),z48,z48];have:=take c;rw [z1x,z1x,List.length_append,List.length_append] at this;exact this
theorem c_wflex (K:Nat)(hK:K≤1000000000)(v:Iv)(y:Sd)(w:Wp)(n:Nat)(R:List (List FV))(ok:OkW K w)(k:Int)(hk0:0≤k)(hk1:k≤1000000000)(hy:y.js.length≤10000000)(hl:v.l.length≤10000000)(hv:ones v.l):
  AC Tryz.prog 297 [aIv v,aSd y,ci k] (oWk w n R) (tTE (zbm v y k w).1) (oWk' (zbm v y k w).2 n R):=by
 have hL:=z7t K y.c.a n R y.js (by omega) w ok;obtain ⟨l1,_,l3,l4⟩:=z1w (K:=K) y.c.a y.js [] ok (fun t ht=>nomatch ht);simp only [List.length_nil] at l3;have e:zbm v y k w=zb3 v y k (z03 y.c.a y.js [] w):=rfl;rw [e];generalize z03 y.c.a y.js [] w=z at*;obtain ⟨⟨ls,er⟩,u⟩:=z;dsimp only at hL l1 l3 l4
 have eG:zb3 v y k ((ls,er),u)=if er≠0 then ((noT,er),u)
  else if (im1 v k ls).1.length=ls.length∧y.c.a≤v.lv then ((z09 (.mk 4 [] y.h []) (im1 v k ls).2,0),u)
  else hgZ v y u ls.length ((im1 v k ls).1++(im2 y.c.a v.lv k v.l).1) ((im1 v k ls).2++(im2 y.c.a v.lv k v.l).2):=rfl
 rw [eG];refine AC.vc hP sh z7j (by simp) (by simp [isLive]) (by simp [isLive]) (Eq.mpr (v297 v.x v.lv (FTs v.l) ..) ?_);refine ⟨(ls,er,⟨u.s,u.f,n,R⟩),hL,z0m (fun q=> ?_) (fun q=>⟨rfl, ?_⟩)⟩
 · rw [if_pos q];exact ⟨noTE er,rfl⟩
 · rw [if_neg (fun w=>w q)];have q:er=0:=q;have oku:=l1.ok ok q;have h:=zjk K hK v y u n R oku k hk0 hk1 ls (by omega) hl hv (z7n l4) (if (im1 v k ls).1.length=ls.length∧y.c.a≤v.lv then ((z09 (.mk 4 [] y.h []) (im1 v k ls).2,0),u) else hgZ v y u ls.length ((im1 v k ls).1++(im2 y.c.a v.lv k v.l).1) ((im1 v k ls).2++(im2 y.c.a v.lv k v.l).2)) (fun h1 h2=>if_pos ⟨h1,h2⟩) (fun h=>if_neg h) ls [] [] [] rfl rfl (Nat.le_refl _) rfl rfl
   rw [z00];exact h
end Go.AM

set_option maxRecDepth 100000
open Go Go.Proofs
namespace Go.AM
abbrev stTm (v:Iv)(l:List Int)(t:Tm)(k:Int)(w:Wp)(m:Nat)(R:List (List FV))(i:Int):St:=
 ⟨[(2,ci k),(3, .c (.a (.ep 11 4 0 0))),(6, .c (.a (.ep 12 4 0 0))),(12, .c (.a (.ep 13 4 0 0))),(81,aIs l),(82,ci (l.length:Int)),(83,ci i)],wkH w m R++ [(11,obIv v),(12,zT4),(13, .arr 4 [cT t])],14⟩
theorem zmg (K:Nat) (v:Iv) (hv:ones v.l) (hl:v.l.length≤100000) (m:Nat) (R:List (List FV)) (n:Nat) (k:Int)
  (hC:∀ (b:Int) (w:Wp),OkW K w→w.f.toNat<n→k+w.f≤1000000000→AC Tryz.prog 249 [aIv v,ci b,ci k] (oWk w m R) (tTE (z1e v n b k w).1) (oWk' (z1e v n b k w).2 m R)) (l0:List Int) (hl0:l0.length≤1000000000):
  ∀ (b pre:List Int) (t:Tm) (w:Wp),l0=pre++b→OkW K w→w.f.toNat<n→k+w.f≤1000000000→t.sz+2*b.length+100004*w.f.toNat≤1000000000000→
  RPt Tryz.prog 249 7 (tTE (z6r (fun b w=>z1e v n b k w) b t w).1) (oWk' (z6r (fun b w=>z1e v n b k w) b t w).2 m R) 3 (stTm v l0 t k w m R (pre.length:Int))
 | [],pre,t,w,hp,ok,_,_,_=>by
  rw [List.append_nil] at hp;rw [z6r];obtain ⟨tk,ts,tn,tl⟩:=t;refine RPt.vc hP sh zmj (Eq.mpr (znj ..) ?_);exact z01 (fun h=>absurd (of_decide_eq_true h) (by rw [hp];omega)) (fun _=>⟨.refl _,rfl⟩)
 | a::b,pre,t,w,hp,ok,hn,hk,hz=>by
  have hc:=hC a w ok hn hk;obtain ⟨g1,g2⟩:=z73 (K:=K) v hv hl n a k ok hn;have hm:List.getD (IR l0) (Int.toNat (pre.length:Int)) []=[.int .i64 a]:=by rw [hp];exact znw pre a b
  have h3:(pre.length:Int)<(((IR l0).length:Nat):Int):=by rw [hp];exact IR_lt pre a b
  have h4:(pre.length:Int)<((l0.length:Nat):Int):=by rw [z0d] at h3;exact h3
  have eA:z6r (fun b w=>z1e v n b k w) (a::b) t w=if (z1e v n a k w).1.2≠0 then ((noT,(z1e v n a k w).1.2),(z1e v n a k w).2)
   else z6r (fun b w=>z1e v n b k w) b (z09 t [(z1e v n a k w).1.1]) (z1e v n a k w).2:=rfl
  rw [eA];simp only [List.length_cons] at hz;have okn:=fun h=>g1.ok ok h;have f1:=g1.f1;have f0:=g1.f0;generalize z1e v n a k w=z at*;obtain ⟨⟨u,e⟩,x⟩:=z;dsimp only at*;have hap:=z3k t [u] (by have:=t.sz_eq;have:=Tm.szs_length t.l;simp only [List.length_cons,List.length_nil];omega);have hsz:=z5t t u;have nx:=fun h=>zmg K v hv hl m R n k hC l0 hl0 b (pre++ [a]) (z09 t [u]) x (by rw [hp];simp) (okn h) (by omega) (by omega) (by omega);rw [show (((pre++ [a]).length:Nat):Int)=(pre.length:Int)+1 by simp] at nx;obtain ⟨tk,ts,tn,tl⟩:=t;refine RPt.vc hP sh zmj (Eq.mpr (znj ..) ?_);rw [hm,w64 (x:=(pre.length:Int)+1) (by omega) (by omega)];refine z01 (fun _=>⟨⟨rfl,by omega,h3,rfl⟩,(u,e,⟨x.s,x.f,m,R⟩),hc,z0m (fun q=> ?_) (fun q=>⟨⟨rfl,Nat.le_refl _⟩,_,by rw [z48];exact hap, ?_⟩)⟩) (fun h=>absurd h4 (of_decide_eq_false h))
  · rw [if_pos q];exact ⟨noTE e,rfl⟩
  · rw [if_neg (fun w=>w q)];exact nx q
theorem zha (K:Nat)(hK:K≤1000000000)(v:Iv)(hv:ones v.l)(hl:v.l.length≤100000)(m:Nat)(R:List (List FV)):∀ (n:Nat) (k:Int),0≤k→∀ (a:Int) (w:Wp),OkW K w→w.f.toNat<n→k+w.f≤1000000000→
  AC Tryz.prog 249 [aIv v,ci a,ci k] (oWk w m R) (tTE (z1e v n a k w).1) (oWk' (z1e v n a k w).2 m R)
 | 0,_,_,_,_,_,h,_=>absurd h (by omega)
 | n+1,k,hk0,a,w,ok,hn,hk=>by
  have hlk:=zhf K w m R ok a;obtain ⟨g1,_,g3⟩:=z2v ok a;have f1:=g1.f1;have f0:=g1.f0;have hf:=ok.f0;have hf2:=ok.f1;have okn:=fun h=>g1.ok ok h;rw [z1e];generalize lookW w a=z at*;obtain ⟨⟨x,e⟩,u⟩:=z;dsimp only at*
  have eG:termG v (z1e v n) k ((x,e),u)=if e≠0 then ((noT,e),u)
   else if x.c.t=6 then ((z2k 1 (z1e v n x.c.a (k+1) u).1.1,(z1e v n x.c.a (k+1) u).1.2),(z1e v n x.c.a (k+1) u).2)
   else if x.c.t=4 then (if x.h=v.x then ((noT,170),u) else zbm v x k u)
   else if (z5r v u.s.N x k).2=false then ((noT,170),u)
   else z6r (fun b w=>z1e v n b k w) x.js (z5r v u.s.N x k).1 u:=rfl
  rw [eG];have hfl:=zgz x;have hrg:=c_wrigid v x k u m R hk0 (by omega) (by omega);have rsz:=zed v u.s.N x k;refine AC.vc hP sh zmj (by simp) (by simp [isLive]) (by simp [isLive]) (Eq.mpr (v249 v.x v.lv (FTs v.l) ..) ?_);refine ⟨(x.h,x.js,x.c.t,x.c.a,x.c.b,x.c.c,x.c.d,e,⟨u.s,u.f,m,R⟩),hlk,z0m (fun q=> ?_) (fun q=> ?_)⟩
  · rw [if_pos q];exact ⟨noTE e,rfl⟩
  rw [if_neg (fun w=>w q)];have g3:=g3 q;have okn:=okn q;refine z04 (fun t6=> ?_) (fun t6=> ?_)
  · have t6:x.c.t=6:=t6;rw [if_pos t6];have ih:=zha K hK v hv hl m R n (k+1) (by omega) x.c.a u okn (by omega) (by omega);rw [w64 (by omega) (by omega)];have hL:=za3 1 (z1e v n x.c.a (k+1) u).1.1 (by omega);exact ⟨((z1e v n x.c.a (k+1) u).1.1,(z1e v n x.c.a (k+1) u).1.2,⟨(z1e v n x.c.a (k+1) u).2.s,(z1e v n x.c.a (k+1) u).2.f,m,R⟩),ih,_,hL, .refl _,rfl⟩
  have t6:¬x.c.t=6:=t6;rw [if_neg t6];refine ⟨_,hfl,z04 (fun t4=> ?_) (fun t4=>⟨_,hfl,z04 (fun h=>absurd h t4) (fun _=> ?_)⟩)⟩
  · rw [if_pos t4];refine z04 (fun hx=> ?_) (fun hx=>⟨_,hfl,z04 (fun _=> ?_) (fun h=>absurd t4 h)⟩)
    · have hx:x.h=v.x:=hx;rw [if_pos hx];exact ⟨noTE 170,rfl⟩
    · have hx:¬x.h=v.x:=hx;rw [if_neg hx];have hF:=c_wflex K hK v x u m R okn k hk0 (by omega) (by omega) (by omega) hv;exact ⟨((zbm v x k u).1.1,(zbm v x k u).1.2,⟨(zbm v x k u).2.s,(zbm v x k u).2.f,m,R⟩),hF, .refl _,rfl⟩
  · rw [if_neg t4];have lp:=zmg K v hv hl m R n k (fun b w o h1 h2=>zha K hK v hv hl m R n k hk0 b w o h1 h2) x.js (by omega) x.js [] (z5r v u.s.N x k).1 u rfl okn (by omega) (by omega) (by rw [rsz];omega);generalize z5r v u.s.N x k=y at*;obtain ⟨y1,y2⟩:=y;dsimp only at*;refine ⟨(y1,y2),hrg,z01 (fun h=> ?_) (fun h=>⟨rfl, ?_⟩)⟩
    · have h:(!y2)=true:=h;rw [if_pos (by simpa using h)];exact ⟨noTE 170,rfl⟩
    · have h:(!y2)=false:=h;rw [if_neg (by simpa using h),z0d];exact lp
theorem zn0 (K:Nat)(hK:K≤1000000000)(w:Wp)(m:Nat)(R:List (List FV))(ok:OkW K w)(x:Sd)(a:Int)(hx:x.js.length≤100000):AC Tryz.prog 186 [aWk,aSd x,ci a] (oWk w m R) (ci (z4i w x a).1) (oWk' (z4i w x a).2 m R):=by
 have hL:=z7t K x.c.a m R x.js (by omega) w ok;obtain ⟨l1,_,l3,l4⟩:=z1w (K:=K) x.c.a x.js [] ok (fun t ht=>nomatch ht);simp only [List.length_nil] at l3;have e:z4i w x a=zfu x a (z03 x.c.a x.js [] w):=rfl;rw [e];have okl:=fun h=>l1.ok ok h;generalize z03 x.c.a x.js [] w=z at*;obtain ⟨⟨ls,er⟩,u⟩:=z;dsimp only at hL l1 l3 l4 okl
 have eG:zfu x a ((ls,er),u)=if er≠0 then (er,u)
  else if (z1e ⟨x.h,x.c.a,ls⟩ (u.f.toNat+1) a 0 u).1.2≠0 then ((z1e ⟨x.h,x.c.a,ls⟩ (u.f.toNat+1) a 0 u).1.2,(z1e ⟨x.h,x.c.a,ls⟩ (u.f.toNat+1) a 0 u).2)
  else setW (z1e ⟨x.h,x.c.a,ls⟩ (u.f.toNat+1) a 0 u).2 x.h (z2k ls.length (z1e ⟨x.h,x.c.a,ls⟩ (u.f.toNat+1) a 0 u).1.1):=rfl
 rw [eG];refine AC.vc hP sh lv186 (by simp) (by simp [isLive]) (by simp [isLive]) (Eq.mpr (v186 ..) ?_);refine ⟨(ls,er,⟨u.s,u.f,m,R⟩),hL,z0m (fun q=> ?_) (fun q=> ?_)⟩
 · rw [if_pos q];exact ⟨.refl _,rfl⟩
 rw [if_neg (fun w=>w q)];have oku:=okl q;have h0:=oku.f0;have h1:=oku.f1;have hT:=zha K hK ⟨x.h,x.c.a,ls⟩ (z7n l4) (by dsimp only;omega) m R (u.f.toNat+1) 0 (Int.le_refl _) a u oku (by omega) (by omega);obtain ⟨t1,t2⟩:=z73 (K:=K) ⟨x.h,x.c.a,ls⟩ (z7n l4) (by dsimp only;omega) (u.f.toNat+1) a 0 oku (by omega);have okt:=fun h=>t1.ok oku h;generalize z1e ⟨x.h,x.c.a,ls⟩ (u.f.toNat+1) a 0 u=y at*;obtain ⟨⟨t,et⟩,y2⟩:=y;dsimp only at hT t1 t2 okt ⊢;refine ⟨(t,et,⟨y2.s,y2.f,m,R⟩),hT,z0m (fun q2=> ?_) (fun q2=> ?_)⟩
 · rw [if_pos q2];exact ⟨.refl _,rfl⟩
 · rw [if_neg (fun w=>w q2)];have t0:=t1.f0;have hS:=c_wset K hK y2 m R (okt q2) x.h (z2k ls.length t) (by rw [z9o];simp only [B];omega);have hlm:=za3 ls.length t (by omega);rw [z00];exact ⟨rfl,_,hlm,((setW y2 x.h (z2k ls.length t)).1,⟨(setW y2 x.h (z2k ls.length t)).2.s,(setW y2 x.h (z2k ls.length t)).2.f,m,R⟩),hS, .refl _,rfl⟩
theorem zn2 (K:Nat)(w:Wp)(m:Nat)(R:List (List FV))(ok:OkW K w)(x:Sd)(a:Int):AC Tryz.prog 244 [aWk,aSd x,ci a] (oWk w m R) (t2 (z3e w x a).1) (oWk' (z3e w x a).2 m R):=by
 have hL:=c_pLift w.s a 1 ok.h;have mv:=zic w.s a 1
 have e:z3e w x a=if x.c.t=6 then ((x.c.a,0),w)
  else if (z27 w.s a 1).1.2≠0 then ((0,(z27 w.s a 1).1.2),⟨(z27 w.s a 1).2,w.f⟩)
  else if (putS (z27 w.s a 1).2 ⟨3,0,0,0,0⟩).1.2≠0 then ((0,(putS (z27 w.s a 1).2 ⟨3,0,0,0,0⟩).1.2),⟨(putS (z27 w.s a 1).2 ⟨3,0,0,0,0⟩).2,w.f⟩)
  else ((putS (putS (z27 w.s a 1).2 ⟨3,0,0,0,0⟩).2 ⟨7,(z27 w.s a 1).1.1,(putS (z27 w.s a 1).2 ⟨3,0,0,0,0⟩).1.1,0,0⟩).1,
   ⟨(putS (putS (z27 w.s a 1).2 ⟨3,0,0,0,0⟩).2 ⟨7,(z27 w.s a 1).1.1,(putS (z27 w.s a 1).2 ⟨3,0,0,0,0⟩).1.1,0,0⟩).2,w.f⟩):=rfl
 rw [e];generalize z27 w.s a 1=z at*;have ok1:=mv.ok ok.h;have hp:=z34 z.2 ⟨3,0,0,0,0⟩ (by have:=ok1.C;omega);have ok2:=ok1.put ⟨3,0,0,0,0⟩;generalize putS z.2 ⟨3,0,0,0,0⟩=y at*;have hq:=z34 y.2 ⟨7,z.1.1,y.1.1,0,0⟩ (by have:=ok2.C;omega);generalize putS y.2 ⟨7,z.1.1,y.1.1,0,0⟩=u at*;obtain ⟨⟨z1,z2⟩,zs⟩:=z;refine AC.vc hP sh lv244 (by simp) (by simp [isLive]) (by simp [isLive]) (Eq.mpr (v244 ..) ?_);refine z04 (fun t6=> ?_) (fun t6=>⟨(z1,z2,zs),hL,z0m (fun q=> ?_) (fun q=>⟨y,hp,z0m (fun q2=> ?_) (fun q2=>⟨u,hq, ?_⟩)⟩)⟩)
 · have t6:x.c.t=6:=t6;rw [if_pos t6];exact ⟨.refl _,rfl⟩
 · have t6:¬x.c.t=6:=t6;rw [if_neg t6,if_pos q];exact ⟨.refl _,rfl⟩
 · have t6:¬x.c.t=6:=t6;rw [if_neg t6,if_neg (fun w=>w q),if_pos q2];exact ⟨.refl _,rfl⟩
 · have t6:¬x.c.t=6:=t6;rw [if_neg t6,if_neg (fun w=>w q),if_neg (fun w=>w q2)];exact ⟨.refl _,rfl⟩
end Go.AM

set_option maxRecDepth 100000
open Go Go.Proofs
namespace Go.AM
abbrev obSd (x:Sd):AObj:= .arr 7 [[.a (.fz (.int .i64 x.h)), .a (.fz (.sl false 1 (IR x.js))), .a (.fz (.int .i64 x.c.t)), .a (.fz (.int .i64 x.c.a)), .a (.fz (.int .i64 x.c.b)), .a (.fz (.int .i64 x.c.c)), .a (.fz (.int .i64 x.c.d))]]
abbrev stPr (x:Sd)(as_ bs on:List Tm)(w:Wp)(m:Nat)(R:List (List FV))(i:Int):St:=
 if on=[] then ⟨[(0,aWk),(4, .c (.a (.ep 11 7 0 0))),(7,aL as_),(9,aL bs),(10, .c (.a (.fz .N))),(48,ci (as_.length:Int)),(49,ci i)],wkH w m R++ [(11,obSd x)],12⟩
 else ⟨[(0,aWk),(4, .c (.a (.ep 11 7 0 0))),(7,aL as_),(9,aL bs),(10, .c (.a (.osl 12 4 0 on.length))),(48,ci (as_.length:Int)),(49,ci i)],wkH w m R++ [(11,obSd x),(12, .arz 4 (FTs on))],13⟩
theorem zj1:∀ (a b:List Tm),ones (onZ a b)∧(onZ a b).length≤a.length
 | [],_=>⟨(fun t ht=>by simp [onZ] at ht),by simp [onZ]⟩
 | _::_,[]=>⟨(fun t ht=>by simp [onZ] at ht),by simp [onZ]⟩
 | a::l,b::r=>by
  obtain ⟨h1,h2⟩:=zj1 l r;rw [onZ];split
  · exact ⟨ze1 (fun t ht=>by rw [List.mem_singleton.1 ht];rfl) h1,by simp;omega⟩
  · exact ⟨h1,by simp;omega⟩
theorem zjj (K:Nat) (hK:K≤1000000000) (x:Sd) (w:Wp) (m:Nat) (R:List (List FV)) (ok:OkW K w) (as_ bs:List Tm) (hl:as_.length≤10000000) (Z:Int×Wp)
  (full:(onZ as_ bs).length=as_.length→Z=(0,w)) (part:(onZ as_ bs).length≠as_.length→Z=((z3t w x.h x.c.a as_.length (onZ as_ bs)).1.2,(z3t w x.h x.c.a as_.length (onZ as_ bs)).2)):
  ∀ (b pre d c on:List Tm),as_=pre++b→bs=d++c→pre.length=d.length→b.length=c.length→on.length≤pre.length→onZ as_ bs=on++onZ b c→
  RPt Tryz.prog 185 7 (ci Z.1) (oWk' Z.2 m R) 3 (stPr x as_ bs on w m R (pre.length:Int))
 | [],pre,d,c,on,hp,hd,_,hc,ho,hq=>by
  rw [List.append_nil] at hp;have hpl:as_.length=pre.length:=by rw [hp]
  have e1:onZ [] c=[]:=by simp [onZ]
  rw [e1,List.append_nil] at hq;have oo:=zj1 as_ bs;rw [hq] at full part oo;have hh:=znr K hK w m R ok x.h x.c.a as_.length on (by omega) (by rw [z7d oo.1];omega);generalize z3t w x.h x.c.a as_.length on=z at*;obtain ⟨⟨t,e⟩,u⟩:=z;dsimp only at part hh;unfold stPr;by_cases hn:on=[]
  · subst hn;rw [if_pos rfl];refine RPt.vc hP sh zfi (Eq.mpr (zmh ..) ?_);simp only [z00];refine z01 (fun h=>absurd (of_decide_eq_true h) (by omega)) (fun _=>⟨by trivial,by trivial,z04 (fun c1=> ?_) (fun c1=>⟨by trivial,(t,e,⟨u.s,u.f,m,R⟩),hh.args ⟨.refl _, .refl _, .refl _, .refl _,leNs,trivial⟩, ?_⟩)⟩)
    · rw [full (by simp only [List.length_nil];omega)];exact ⟨.refl _,rfl⟩
    · rw [part (by simp only [List.length_nil];omega)];exact ⟨.refl _,rfl⟩
  · rw [if_neg hn];refine RPt.vc hP sh zfi (Eq.mpr (zoz ..) ?_);simp only [z00];refine z01 (fun h=>absurd (of_decide_eq_true h) (by omega)) (fun _=>⟨by trivial,z04 (fun c1=> ?_) (fun c1=>⟨by trivial,⟨by trivial,by omega⟩, ?_⟩)⟩)
    · rw [full (by omega)];exact ⟨.refl _,rfl⟩
    · rw [List.drop_zero,List.take_of_length_le (l:=FTs on) (by rw [z00];exact Nat.le_refl _),part (by omega)];exact ⟨(t,e,⟨u.s,u.f,m,R⟩),hh, .refl _,rfl⟩
 | a::b,pre,d,[],on,_,_,_,hc,_,_=>by simp at hc
 | a::b,pre,d,g::c,on,hp,hd,hpd,hc,ho,hq=>by
  have hlen:as_.length=pre.length+(b.length+1):=by rw [hp];simp
  have hlen2:bs.length=d.length+(c.length+1):=by rw [hd];simp
  have em:List.getD (FTs as_) (Int.toNat (pre.length:Int)) []=FT a:=by rw [hp];exact midI pre a b
  have em2:List.getD (FTs bs) (Int.toNat (pre.length:Int)) []=FT g:=by rw [hpd,hd];exact midI d g c
  have h3:((pre.length:Nat):Int)<(((FTs as_).length:Nat):Int):=by rw [z00];omega
  have h4:((pre.length:Nat):Int)<(((FTs bs).length:Nat):Int):=by rw [z00];simp only [List.length_cons] at hc;omega
  have hs:=zhg a g;have hb:=z6q (b.length:Int)
  have ww:IntKind.wrap .i64 (IntKind.wrap .i64 ((((FTs as_).length:Nat):Int)-1)-(pre.length:Int))=(b.length:Int):=by
   rw [z00,w64 (x:=(as_.length:Int)-1) (by omega) (by omega),w64 (by omega) (by omega)];omega
  have nx:=fun (on':List Tm) h1 h2=>zjj K hK x w m R ok as_ bs hl Z full part b (pre++ [a]) (d++ [g]) c on' (by rw [hp];simp) (by rw [hd];simp) (by simp [hpd]) (by simpa using hc) h1 h2;rw [show (((pre++ [a]).length:Nat):Int)=(pre.length:Int)+1 by simp] at nx;have e0:onZ (a::b) (g::c)=(if lfZ a g=true then [bndT (b.length:Int)] else [])++onZ b c:=rfl
  rw [e0] at hq;generalize lfZ a g=q at*
  have skip:q=false→RPt Tryz.prog 185 7 (ci Z.1) (oWk' Z.2 m R) 3 (stPr x as_ bs on w m R ((pre.length:Int)+1)):=fun h=>by
   rw [h,if_neg (by simp),List.nil_append] at hq;exact nx on (by simp;omega) hq
  have take:q=true→RPt Tryz.prog 185 7 (ci Z.1) (oWk' Z.2 m R) 3 (stPr x as_ bs (on++ [bndT (b.length:Int)]) w m R ((pre.length:Int)+1)):=fun h=>by
   rw [if_pos h] at hq;exact nx (on++ [bndT (b.length:Int)]) (by simp;omega) (by rw [hq];simp)
  clear nx full part;have op:FV.L 4 (.sl false 4 (FTs as_))=true∧((0:Int)≤(pre.length:Int)∧(((pre.length:Int)<(((FTs as_).length:Nat):Int))∧((rE (FT a):List FV)=FT a))):=⟨rfl,by omega,h3,z7y a⟩;have op2:FV.L 4 (.sl false 4 (FTs bs))=true∧((0:Int)≤(pre.length:Int)∧(((pre.length:Int)<(((FTs bs).length:Nat):Int))∧((rE (FT g):List FV)=FT g))):=⟨rfl,by omega,h4,z7y g⟩;unfold stPr at skip take ⊢;rw [if_neg (z9f on _)] at take;by_cases hn:on=[]
  · subst hn;rw [if_pos rfl] at skip ⊢;refine RPt.vc hP sh zfi (Eq.mpr (zmh ..) ?_);rw [em,em2,w64 (x:=(pre.length:Int)+1) (by omega) (by omega),ww,z7g,z7g];exact z01 (fun _=>⟨op,op2,q,hs,z01 (fun c=>⟨rfl,_,hb,Nat.le_refl _,z4n (by omega),by rw [z48];exact take c⟩) (fun c=>skip c)⟩) (fun h=>absurd (of_decide_eq_false h) (by omega))
  · rw [if_neg hn] at skip ⊢;refine RPt.vc hP sh zfi (Eq.mpr (zoz ..) ?_);rw [em,em2,w64 (x:=(pre.length:Int)+1) (by omega) (by omega),ww,z7g,z7g];have r1:on.length≤(FTs on).length∧z0h (on.length+1) 56:=⟨by rw [z00];exact Nat.le_refl _,z4n (by omega)⟩;refine z01 (fun _=>⟨op,op2,q,hs,z01 (fun c=>⟨rfl,_,hb,Nat.le_refl _,r1, ?_⟩) (fun c=>skip c)⟩) (fun h=>absurd (of_decide_eq_false h) (by omega));rw [List.take_of_length_le (l:=FTs on) (by rw [z00];exact Nat.le_refl _),z48];have:=take c;rw [z1x,List.length_append] at this;exact this
theorem c_wprune (K:Nat)(hK:K≤1000000000)(w:Wp)(m:Nat)(R:List (List FV))(ok:OkW K w)(x y:Sd)(hx:x.js.length≤10000000)(hy:y.js.length≤10000000):AC Tryz.prog 185 [aWk,aSd x,aSd y] (oWk w m R) (ci (z5b w x y).1) (oWk' (z5b w x y).2 m R):=by
 have h1:=z7t K x.c.a m R x.js (by omega) w ok;obtain ⟨a1,_,a3,_⟩:=z1w (K:=K) x.c.a x.js [] ok (fun t ht=>nomatch ht);simp only [List.length_nil] at a3;have h2:=fun h=>z7t K y.c.a m R y.js (by omega) (z03 x.c.a x.js [] w).2 (a1.ok ok h);have b1:=fun h=>(z1w (K:=K) y.c.a y.js [] (a1.ok ok h) (fun t ht=>nomatch ht)).1;have okn:=fun h=>a1.ok ok h;unfold z5b;generalize z03 x.c.a x.js [] w=z at*;generalize z03 y.c.a y.js [] z.2=u at*;obtain ⟨⟨as_,e1⟩,w1⟩:=z;obtain ⟨⟨bs,e2⟩,w2⟩:=u;dsimp only at*;refine AC.vc hP sh zfi (by simp) (by simp [isLive]) (by simp [isLive]) (Eq.mpr (v185 ..) ?_);refine ⟨(as_,e1,⟨w1.s,w1.f,m,R⟩),h1,z0m (fun q=> ?_) (fun q=>⟨(bs,e2,⟨w2.s,w2.f,m,R⟩),h2 q,z0m (fun q2=> ?_) (fun q2=>⟨rfl,rfl, ?_⟩)⟩)⟩
 · rw [if_pos q];exact ⟨.refl _,rfl⟩
 · rw [if_neg (fun w=>w q),if_pos q2];exact ⟨.refl _,rfl⟩
 · rw [if_neg (fun w=>w q),if_neg (fun w=>w q2),z00,z00];have ok2:=(b1 q).ok (okn q) q2;refine z0m (fun q3=> ?_) (fun q3=>⟨rfl, ?_⟩)
   · have q3:(as_.length:Int)≠(bs.length:Int):=q3;rw [if_pos (by omega)];exact ⟨.refl _,rfl⟩
   · have q3:(as_.length:Int)=(bs.length:Int):=q3;have q3:as_.length=bs.length:=by omega
     rw [if_neg (fun w=>w q3)];exact zjj K hK x w2 m R ok2 as_ bs (by omega) (if (onZ as_ bs).length=as_.length then (0,w2) else ((z3t w2 x.h x.c.a as_.length (onZ as_ bs)).1.2,(z3t w2 x.h x.c.a as_.length (onZ as_ bs)).2)) (fun h=>if_pos h) (fun h=>if_neg h) as_ [] [] bs [] rfl rfl rfl q3 (Nat.le_refl _) rfl
def PR (l:List (Int×Int)):List (List FV):=l.map fun p=> [.int .i64 p.1, .int .i64 p.2]
theorem zjp (l:List (Int×Int)):(PR l).length=l.length:=by simp [PR]
theorem zid (a b:List (Int×Int)):PR (a++b)=PR a++PR b:=by simp [PR]
def stkZ (R:List (List FV))(n:Nat)(ps:List (Int×Int)):List (List FV):=if ps=[] then R else R.take n++PR ps
theorem zew {R:List (List FV)}{n:Nat}(hn:n≤R.length)(ps:List (Int×Int)):n+ps.length≤(stkZ R n ps).length∧(stkZ R n ps).take (n+ps.length)=R.take n++PR ps:=by
 unfold stkZ;split
 · rename_i h;subst h;simp [PR,hn]
 · have h1:(R.take n++PR ps).length=n+ps.length:=by simp [zjp];omega
   exact ⟨by omega,List.take_of_length_le (by omega)⟩
abbrev oOw (z:Ow)(m:Nat)(R:List (List FV)):List AObj:=oWk' z.2 (m+z.1.2.length) (stkZ R m z.1.2.reverse)
abbrev aP2 (p:Int×Int):TV:= .agg [.a (.fz (.int .i64 p.1)), .a (.fz (.int .i64 p.2))]
theorem c_wunder (K:Nat)(w:Wp)(m:Nat)(R:List (List FV))(hm:m≤R.length)(hm2:m≤1099511627776)(ok:OkW K w)(x y:Sd)(p:Int×Int):AC Tryz.prog 183 [aWk,aSd x,aSd y,aP2 p] (oWk w m R) (ci (z93 w x y p).1.1) (oOw (z93 w x y p) m R):=by
 have h1:=zn2 K w m R ok x p.1;have a1:=zdx ok x p.1;have h2:=fun h=>zn2 K (z3e w x p.1).2 m R (a1.ok ok h) y p.2;unfold z93;generalize z3e w x p.1=z at*;generalize z3e z.2 y p.2=u at*;obtain ⟨⟨r1,e1⟩,w1⟩:=z;obtain ⟨⟨r2,e2⟩,w2⟩:=u;dsimp only at*;refine AC.vc hP sh lv183 (by simp) (by simp [isLive]) (by simp [isLive]) (Eq.mpr (v183 ..) ?_);refine ⟨(r1,e1,⟨w1.s,w1.f,m,R⟩),h1,z0m (fun q=> ?_) (fun q=>⟨(r2,e2,⟨w2.s,w2.f,m,R⟩),h2 q,z0m (fun q2=> ?_) (fun q2=>⟨Nat.le_refl _,⟨hm,by unfold z0h;dsimp only;omega⟩, ?_⟩)⟩)⟩
 · rw [if_pos q];exact ⟨.refl _,rfl⟩
 · rw [if_neg (fun w=>w q),if_pos q2];exact ⟨.refl _,rfl⟩
 · rw [if_neg (fun w=>w q),if_neg (fun w=>w q2)];exact ⟨.refl _,rfl⟩
def zhu (P:Program)(S E:TypeId):Bool:=
 match tyOf P S,tyOf P E with
 | some dS,some dE=>(match dS.kind with | .slice e=>Nat.beq e E | _=>false) && !dS.agg && !dE.agg&&Nat.beq dE.size 1
 | _,_=>false
theorem RPt.backI {P:Program} {sh:FuncId→List Sh} {lv:List (Nat×List Nat)} {f:FuncId} {m m0 p oc:Nat} {r:TV} {Hs':List AObj} {U live:List Nat} {env:Env} {s0:St} {α:Type} {H:α→AHeap} {nx:α→Nat} {Inv:α→Prop} {idx:α→Nat} {x0:α} {bk:FuncId} {S E:TypeId} {g:Operand} {es:List Int}
  (hP:P.follows .mixedOrders=true) (hrg:rngB P f p=some g) (hbk:IsBk P bk S E) (hT:zhu P S E=true)
  (hs:prepV m0 U live (fun s'=>s'=⟨env,H x0,nx x0⟩) s0) (hm:Nat.ble m m0=true) (henv:env.all (fun p=>p.2.lt m0)=true)
  (hg:ev env g= .c (.fn (.func bk) [] [(false,[.ep oc 1 0 0])])) (hoc:Nat.blt oc m0=true) (hnx:∀ x,Inv x→m0≤nx x)
  (hbox:∀ x,Inv x→hook (H x) oc= .arr 1 [[.a (.fz (.sl false 1 (IR es)))]]) (hN:es.length<9223372036854775808)
  (hidx:∀ x,Inv x→idx x≤es.length)
  (hround:∀ x k (hk:k<es.length),Inv x→idx x=k+1→vcR P sh f m0 U p env k (.c (.a (.fz (.int .i64 es[k])))) (H x) (nx x) fun h n=> ∃ x',(Inv x'∧idx x'=k)∧h=H x'∧n=nx x')
  (hx0:Inv x0) (hi0:idx x0=es.length) (hdone:∀ x,Inv x→idx x=0→vcA P sh lv f m (fun r0 Hs0=>TV.Le r0 r∧Hs0=Hs') (RPt P f m r Hs') p ⟨env,H x,nx x⟩):
  RPt P f m r Hs' p s0:=by
 unfold zhu at hT;split at hT
 · rename_i dS dE hS hE;split at hT
   · rename_i e hk;simp only [Bool.and_eq_true,Bool.not_eq_true'] at hT;obtain ⟨⟨⟨h1,h2⟩,h3⟩,h4⟩:=hT;have h1:=Nat.eq_of_beq_eq_true h1;have h4:=Nat.eq_of_beq_eq_true h4;subst h1;refine RPt.back (y:=fun x=> .c (.a (.fz (.pt ((IR es).getD (idx x-1) []))))) (v:=fun x=> .c (.a (.fz (.int .i64 (es.getD (idx x-1) 0))))) (xs:= .c (.a (.fz (.sl false 1 (IR es))))) (N:=(IR es).length) (rdn:=[]) hP hrg hbk hS hk hE hs hm henv hg hoc hnx (fun x hx=> ?_) rfl (by rw [z0d];exact hN) (fun x k hx hix=> ?_) (fun x k hx hix=> ?_) hx0 (by rw [z0d];exact hi0) hdone
     · refine ⟨[oc], ?_⟩;unfold z4s;simp only [hbox x hx];show (if 1=1 then _ else none)=_
       rw [if_pos rfl];show (match zdi dS [.a (.fz (.sl false 1 (IR es)))] with | some v=>some (v,[oc]) | none=>none)=_
       unfold zdi;rw [h2];rfl
     · have hle:=hidx x hx;have hlt:k<es.length:=by omega
       have hlt2:k<(IR es).length:=by rw [z0d];exact hlt
       refine ⟨[], ?_, ?_⟩
       · unfold z1v iV;simp only [hk,hE,zby];rw [if_pos ⟨h4,by omega,by omega⟩,Int.toNat_natCast,hix,Nat.add_sub_cancel]
       · unfold z4s;simp only [hix,Nat.add_sub_cancel];rw [z3a hlt,show es.getD k 0=es[k] by simp [List.getD,hlt]];unfold zdi;rw [h3];rfl
     · have hle:=hidx x hx;have hlt:k<es.length:=by omega
       have:=hround x k hlt hx hix;simp only [hix,Nat.add_sub_cancel,show es.getD k 0=es[k] by simp [List.getD,hlt]];exact this
   · cases hT
 · cases hT
abbrev fnI (bk oc:Nat):TV:= .c (.fn (.func bk) [] [(false,[.ep oc 1 0 0])])
theorem zm0 (l:List (List FV)):AC Tryz.prog 67 [.c (.a (.fz (.sl false 1 l)))] [] (fnI 122 0) [.arr 1 [[.a (.fz (.sl false 1 l))]]]:=by
 refine AC.vc hP sh lv67 (by simp) (by simp) (by simp [isLive]) (Eq.mpr (v67 ..) ?_);exact ⟨.refl _,rfl⟩
theorem isBkI:IsBk Tryz.prog 122 22 3:=⟨by kernel_rfl,_,214,3,4,Tryz.func122,by kernel_rfl,by kernel_rfl,by kernel_rfl⟩
theorem bTyI:zhu Tryz.prog 22 3=true:=by kernel_rfl
abbrev hpOn (w:Wp)(n:Nat)(R:List (List FV))(x y:Sd):AHeap:=
 [(0,wk3 1 17 w.f n),(1,hp6 14 15 16 5 w.s),(2, .gone),(3, .gone),(4, .gone),(5, .mapz (NM w.s.N 0)),(6, .gone),(7, .gone),(8, .gone),(9, .gone),(10, .gone),(11, .arr 1 [[.a (.ep 0 3 0 0)]]),(12,obSd y),(13, .arr 1 [[.a (.fz (.sl false 1 (IR x.js)))]]),(14, .arz 5 (CR w.s.C)),(15, .arz 7 (TR w.s.T)),(16, .arz 1 (NR w.s.N)),(17, .arz 2 R)]
theorem l_wone (w:Wp)(n:Nat)(R:List (List FV))(x y:Sd)(hab:x.js.length=y.js.length)(hn:n≤R.length)(hs:n+x.js.length≤1099511627776):
  RPt Tryz.prog 123 7 (ci 0) (oWk' w (n+x.js.length) (stkZ R n (x.js.zip y.js).reverse)) 3 ⟨[(2, .c (.a (.ep 11 1 0 0))),(7, .c (.a (.ep 12 7 0 0))),(90,fnI 122 13)],wkH w n R++ [(11, .arr 1 [[.a (.ep 0 3 0 0)]]),(12,obSd y),(13, .arr 1 [[.a (.fz (.sl false 1 (IR x.js)))]])],14⟩:=by
 have hz:(x.js.zip y.js).length=x.js.length:=by simp [hab]
 refine RPt.backI (sh:=sh) (lv:=lv123) (α:=Nat) (Inv:=fun i=>i≤x.js.length) (idx:=fun i=>i) (nx:=fun _=>18) (m0:=14) (U:=[7,8,9,10]) (live:=[2,7,90]) (oc:=13) (es:=x.js) (x0:=x.js.length) (g:= .tmp 90) (env:=[(2, .c (.a (.ep 11 1 0 0))),(7, .c (.a (.ep 12 7 0 0))),(90,fnI 122 13)])
  (H:=fun i=>hpOn w (n+(x.js.length-i)) (stkZ R n ((x.js.zip y.js).drop i).reverse) x y) hP (by kernel_rfl) isBkI bTyI ?_ (by kernel_rfl) (by kernel_rfl) (by kernel_rfl) (by kernel_rfl) (fun _ _=>by omega) (fun _ _=>rfl) (by omega) (fun i hi=>hi) (fun i k ha hi hik=> ?_) (Nat.le_refl _) rfl (fun i hi h0=> ?_)
 · refine Eq.mpr (v123_3an ..) ?_;rw [Nat.sub_self,Nat.add_zero,List.drop_eq_nil_of_le (by omega)];rfl
 · have hik:i=k+1:=hik;have hi:i≤x.js.length:=hi;subst hik;have hb:k<y.js.length:=by omega
   have hd:=zew hn ((x.js.zip y.js).drop (k+1)).reverse;have hrl:(((x.js.zip y.js).drop (k+1)).reverse).length=x.js.length-(k+1):=by simp [hab]
   rw [hrl] at hd;have eb:List.getD (IR y.js) (Int.toNat ((k:Nat):Int)) []=[.int .i64 y.js[k]]:=by rw [Int.toNat_natCast];exact z3a hb
   have edz:(x.js.zip y.js).drop k=(x.js[k],y.js[k])::(x.js.zip y.js).drop (k+1):=by
    rw [List.drop_eq_getElem_cons (by omega)];simp
   have estk:stkZ R n ((x.js.zip y.js).drop k).reverse=List.take (n+(x.js.length-(k+1))) (stkZ R n ((x.js.zip y.js).drop (k+1)).reverse)++ [[.int .i64 x.js[k], .int .i64 y.js[k]]]:=by
    rw [hd.2,edz,List.reverse_cons];unfold stkZ;rw [if_neg (by simp),zid,←List.append_assoc];rfl
   have en:n+(x.js.length-k)=n+(x.js.length-(k+1))+1:=by omega
   generalize x.js[k]=u at*;generalize y.js[k]=v at*;refine Eq.mpr (zp1 ..) ?_;rw [eb,z0d];refine ⟨⟨rfl,by omega,by omega,rfl⟩,Nat.le_refl _,⟨hd.1,by unfold z0h;omega⟩,k,⟨(by omega:k≤x.js.length),rfl⟩, ?_,rfl⟩;show _=hpOn w (n+(x.js.length-k)) (stkZ R n ((x.js.zip y.js).drop k).reverse) x y;rw [estk,en];rfl
 · have h0:i=0:=h0;subst h0;refine Eq.mpr (zmz ..) ?_;rw [List.drop_zero,Nat.sub_zero];exact ⟨.refl _,rfl⟩
end Go.AM

set_option maxRecDepth 100000
open Go Go.Proofs
namespace Go.AM
theorem c_wone (K:Nat)(hK:K≤1000000000)(w:Wp)(m:Nat)(R:List (List FV))(hm:m≤R.length)(hm2:m≤549755813888)(ok:OkW K w)(p:Int×Int)(j1:(lookW w p.1).1.1.js.length≤100000)(j2:(lookW (lookW w p.1).2 p.2).1.1.js.length≤100000):
  AC Tryz.prog 123 [aWk,aP2 p] (oWk w m R) (ci (oneW w p).1.1) (oOw (oneW w p) m R):=by
 have h1:=zhf K w m R ok p.1;obtain ⟨a1,_,_⟩:=z2v ok p.1;have ok1:=fun h=>a1.ok ok h;have h2:=fun h=>zhf K (lookW w p.1).2 m R (ok1 h) p.2;have b1:=fun h=>(z2v (ok1 h) p.2).1;unfold oneW;generalize lookW w p.1=z at*;generalize lookW z.2 p.2=u at*;obtain ⟨⟨x,e1⟩,w1⟩:=z;obtain ⟨⟨y,e2⟩,w2⟩:=u;dsimp only at*;have fx:=zgz x;have fy:=zgz y;have cl:=c_hclash x y;refine AC.vc hP sh lv123 (by simp) (by simp [isLive]) (by simp [isLive]) (Eq.mpr (v123 p.1 p.2 ..) ?_);refine ⟨(x.h,x.js,x.c.t,x.c.a,x.c.b,x.c.c,x.c.d,e1,⟨w1.s,w1.f,m,R⟩),h1,z0m (fun q=> ?_) (fun q=>⟨(y.h,y.js,y.c.t,y.c.a,y.c.b,y.c.c,y.c.d,e2,⟨w2.s,w2.f,m,R⟩),h2 q,z0m (fun q2=> ?_) (fun q2=> ?_)⟩)⟩
 · rw [if_pos q];exact ⟨.refl _,rfl⟩
 · rw [if_neg (fun w=>w q),if_pos q2];exact ⟨.refl _,rfl⟩
 have q:e1=0:=q;have q2:e2=0:=q2;rw [if_neg (fun w=>w q),if_neg (fun w=>w q2)];have ok2:=(b1 q).ok (ok1 q) q2;have un:=c_wunder K w2 m R hm (by omega) ok2 x y p;have pr:=c_wprune K hK w2 m R ok2 x y (by omega) (by omega);have bx:=zn0 K hK w2 m R ok2 x p.2 j1;have by_:=zn0 K hK w2 m R ok2 y p.1 j2;unfold oneG
 have uw:∀ z:Ow,AC Tryz.prog 183 [aWk,aSd x,aSd y,aP2 p] (oWk w2 m R) (ci z.1.1) (oOw z m R)→∃ z3:Int×Wk,AC Tryz.prog 183 [aWk,aSd x,aSd y,aP2 p] (oWk w2 m R) (ci z3.1) (oWk' ⟨z3.2.s,z3.2.f⟩ z3.2.n z3.2.R)∧TV.Le (ci z3.1) (ci z.1.1)∧oWk' ⟨z3.2.s,z3.2.f⟩ z3.2.n z3.2.R=oOw z m R:=fun z hz=>
  ⟨(z.1.1,⟨z.2.s,z.2.f,m+z.1.2.length,stkZ R m z.1.2.reverse⟩),hz, .refl _,rfl⟩
 refine z04 (fun x6=> ?_) (fun x6=>z04 (fun y6=> ?_) (fun y6=> ?_))
 · have x6:x.c.t=6:=x6;rw [if_pos (.inl x6)];exact uw _ un
 · have y6:y.c.t=6:=y6;rw [if_pos (.inr y6)];exact uw _ un
 have x6:¬x.c.t=6:=x6;have y6:¬y.c.t=6:=y6;rw [if_neg (fun w=>w.elim x6 y6)];clear uw un;refine ⟨_,fx,z04 (fun x4=>⟨_,fy,z04 (fun y4=>z04 (fun hh=> ?_) (fun hh=>⟨_,fx,z04 (fun _=> ?_) (fun h=>absurd x4 h)⟩)) (fun y4=>⟨_,fx,z04 (fun _=> ?_) (fun h=>absurd x4 h)⟩)⟩) (fun x4=>⟨_,fx,z04 (fun h=>absurd h x4) (fun _=>⟨_,fy,z04 (fun y4=> ?_) (fun y4=>⟨_,cl,z01 (fun c=> ?_) (fun c=>⟨_,zm0 (IR x.js), ?_⟩)⟩)⟩)⟩)⟩
 · have hh:x.h=y.h:=hh;rw [if_pos ⟨x4,y4,hh⟩];exact ⟨((z5b w2 x y).1,⟨(z5b w2 x y).2.s,(z5b w2 x y).2.f,m,R⟩),pr, .refl _,rfl⟩
 · have hh:¬x.h=y.h:=hh;rw [if_neg (fun w=>hh w.2.2),if_pos x4];exact ⟨((z4i w2 x p.2).1,⟨(z4i w2 x p.2).2.s,(z4i w2 x p.2).2.f,m,R⟩),bx, .refl _,rfl⟩
 · rw [if_neg (fun w=>y4 w.2.1),if_pos x4];exact ⟨((z4i w2 x p.2).1,⟨(z4i w2 x p.2).2.s,(z4i w2 x p.2).2.f,m,R⟩),bx, .refl _,rfl⟩
 · rw [if_neg (fun w=>x4 w.1),if_neg x4,if_pos y4];exact ⟨((z4i w2 y p.1).1,⟨(z4i w2 y p.1).2.s,(z4i w2 y p.1).2.f,m,R⟩),by_, .refl _,rfl⟩
 · rw [if_neg (fun w=>x4 w.1),if_neg x4,if_neg y4,if_pos c];exact ⟨.refl _,rfl⟩
 · rw [if_neg (fun w=>x4 w.1),if_neg x4,if_neg y4,if_neg (by rw [c];simp)]
   have hl:x.js.length=y.js.length:=by
    have e:zjl x y=(x.c.t !=y.c.t||x.c.a !=y.c.a||x.js.length !=y.js.length):=rfl;rw [e] at c;simp at c;exact c.2
   have lo:=l_wone w2 m R x y hl hm (by omega);show RPt Tryz.prog 123 7 (ci 0) (oWk' w2 (m+(x.js.zip y.js).length) (stkZ R m (x.js.zip y.js).reverse)) 3 _;rw [show (x.js.zip y.js).length=x.js.length by simp [hl]];exact lo
theorem znz {R A:List (List FV)}{x:List FV}{m:Nat}(hA:A.length=m)(h:R.take (m+1)=A++ [x]):List.getD R m []=x∧R.take m=A∧m<R.length:=by
 have hl:(R.take (m+1)).length=m+1:=by rw [h];simp [hA]
 have hm:m<R.length:=by rw [List.length_take] at hl;omega
 refine ⟨?_, ?_,hm⟩
 · have:(R.take (m+1))[m]? =some x:=by rw [h,←hA];simp
   rw [List.getElem?_take_of_lt (by omega)] at this;simp [List.getD,this]
 · have:(R.take (m+1)).take m=A:=by rw [h,←hA];simp
   rw [List.take_take,Nat.min_eq_left (by omega)] at this;exact this
structure RunI (K:Nat)(I:Wp→List (Int×Int)→Prop):Prop where
 ok:∀ w st,I w st→OkW K w∧st.length≤500000000
 js:∀ w p st,I w (p::st)→0<w.f→(lookW ⟨w.s,w.f-1⟩ p.1).1.1.js.length≤100000∧(lookW (lookW ⟨w.s,w.f-1⟩ p.1).2 p.2).1.1.js.length≤100000
 nx:∀ w p st,I w (p::st)→0<w.f→(oneW ⟨w.s,w.f-1⟩ p).1.1=0→I (oneW ⟨w.s,w.f-1⟩ p).2 ((oneW ⟨w.s,w.f-1⟩ p).1.2++st)
theorem OkW.less {K:Nat}{w:Wp}(h:OkW K w)(h0:0<w.f):OkW K ⟨w.s,w.f-1⟩:=⟨h.h,by dsimp only;omega,by have:=h.f1;dsimp only;omega,h.n⟩
theorem l_wrun (K:Nat)(hK:K≤1000000000){I:Wp→List (Int×Int)→Prop}(hI:RunI K I):∀ (F:Nat) (w:Wp) (st:List (Int×Int)) (R:List (List FV)),w.f.toNat≤F→I w st→R.take st.length=PR st.reverse→
  ∃ n' R',RPt Tryz.prog 68 7 (ci (runZ F w st).1) (oWk' (runZ F w st).2 n' R') 1 ⟨[(0,aWk)],wkH w st.length R,11⟩
 | F,w,[],R,hF,hi,hR=>by
  refine ⟨0,R, ?_⟩;have e:runZ F w []=(0,w):=by cases F<;>rfl
  rw [e];refine RPt.vc hP sh z6h (Eq.mpr (z6z ..) ?_);exact z01 (fun h=>absurd (of_decide_eq_true h) (by simp)) (fun _=>⟨.refl _,rfl⟩)
 | F,w,p::st,R,hF,hi,hR=>by
  obtain ⟨ok,hs⟩:=hI.ok w _ hi;simp only [List.length_cons] at hs;have f0:=ok.f0;have f1:=ok.f1;rw [List.reverse_cons,zid] at hR;obtain ⟨t1,t2,t3⟩:=znz (m:=st.length) (A:=PR st.reverse) (x:=[.int .i64 p.1, .int .i64 p.2]) (by simp [zjp]) hR
  have ew:IntKind.wrap .i64 ((((p::st).length:Nat):Int)-1)=(st.length:Int):=by
   rw [List.length_cons,w64 (by omega) (by omega)];omega
  have ep:List.getD R (0+(st.length:Int).toNat) []=[.int .i64 p.1, .int .i64 p.2]:=by rw [Int.toNat_natCast,Nat.zero_add];exact t1
  by_cases hf:w.f≤0
  · have e:runZ F w (p::st)=(80,w):=by
     cases F with
     | zero=>rfl
     | succ F=>rw [runZ,if_pos hf]
    refine ⟨st.length,R, ?_⟩;rw [e];refine RPt.vc hP sh z6h (Eq.mpr (z6z ..) ?_);rw [ew,ep];refine z01 (fun _=>⟨⟨by omega,by simp only [List.length_cons];omega⟩,⟨by rw [Int.toNat_natCast];omega,rfl,rfl⟩,⟨Int.le_refl _,by omega,by simp only [List.length_cons];omega⟩,z01 (fun _=>⟨.refl _,by rw [Int.toNat_natCast]⟩) (fun h=>absurd (of_decide_eq_false h) (by omega))⟩) (fun h=>absurd (of_decide_eq_false h) (by simp only [List.length_cons];omega))
  · cases F with
    | zero=>omega
    | succ F=>
     have hj:=hI.js w p st hi (by omega);have ok1:=ok.less (by omega);have hp:=c_wone K hK ⟨w.s,w.f-1⟩ st.length R (by omega) (by omega) ok1 p hj.1 hj.2;have hq:=(zo ok1 p hj.1 hj.2).1.f1;have hn:=hI.nx w p st hi (by omega);have e:runZ (F+1) w (p::st)=if (oneW ⟨w.s,w.f-1⟩ p).1.1≠0 then ((oneW ⟨w.s,w.f-1⟩ p).1.1,(oneW ⟨w.s,w.f-1⟩ p).2) else runZ F (oneW ⟨w.s,w.f-1⟩ p).2 ((oneW ⟨w.s,w.f-1⟩ p).1.2++st):=by rw [runZ,if_neg hf]
     have next:(oneW ⟨w.s,w.f-1⟩ p).1.1=0→∃ n' R',RPt Tryz.prog 68 7 (ci (runZ F (oneW ⟨w.s,w.f-1⟩ p).2 ((oneW ⟨w.s,w.f-1⟩ p).1.2++st)).1) (oWk' (runZ F (oneW ⟨w.s,w.f-1⟩ p).2 ((oneW ⟨w.s,w.f-1⟩ p).1.2++st)).2 n' R') 1
       ⟨[(0,aWk)],wkH (oneW ⟨w.s,w.f-1⟩ p).2 (st.length+(oneW ⟨w.s,w.f-1⟩ p).1.2.length) (stkZ R st.length (oneW ⟨w.s,w.f-1⟩ p).1.2.reverse),11⟩:=fun h0=>by
      have hn:=hn h0;have hd:=zew (n:=st.length) (R:=R) (by omega) (oneW ⟨w.s,w.f-1⟩ p).1.2.reverse;rw [List.length_reverse,t2] at hd;have:=l_wrun K hK hI F (oneW ⟨w.s,w.f-1⟩ p).2 ((oneW ⟨w.s,w.f-1⟩ p).1.2++st) (stkZ R st.length (oneW ⟨w.s,w.f-1⟩ p).1.2.reverse) (by dsimp only at hq;omega) hn (by rw [List.length_append,Nat.add_comm,hd.2,List.reverse_append,zid]);rw [List.length_append,Nat.add_comm] at this;exact this
     rw [e];clear e hn hq hj;generalize oneW ⟨w.s,w.f-1⟩ p=q at*;obtain ⟨⟨qe,qp⟩,qw⟩:=q;dsimp only at next hp ⊢;by_cases h0:qe=0
     · rw [if_neg (by simp [h0])];obtain ⟨n',R',hr⟩:=next h0;refine ⟨n',R', ?_⟩;refine RPt.vc hP sh z6h (Eq.mpr (z6z ..) ?_);rw [ew,ep,w64 (x:=w.f-1) (by omega) (by omega),Int.toNat_natCast];exact z01 (fun _=>⟨⟨by omega,by simp only [List.length_cons];omega⟩,⟨by omega,rfl,rfl⟩,⟨Int.le_refl _,by omega,by simp only [List.length_cons];omega⟩,z01 (fun h=>absurd (of_decide_eq_true h) (by omega)) (fun _=>⟨(qe,⟨qw.s,qw.f,st.length+qp.length,stkZ R st.length qp.reverse⟩),hp,z0m (fun h=>absurd h0 h) (fun _=>hr)⟩)⟩) (fun h=>absurd (of_decide_eq_false h) (by simp only [List.length_cons];omega))
     · rw [if_pos h0];refine ⟨st.length+qp.length,stkZ R st.length qp.reverse, ?_⟩;refine RPt.vc hP sh z6h (Eq.mpr (z6z ..) ?_);rw [ew,ep,w64 (x:=w.f-1) (by omega) (by omega),Int.toNat_natCast];exact z01 (fun _=>⟨⟨by omega,by simp only [List.length_cons];omega⟩,⟨by omega,rfl,rfl⟩,⟨Int.le_refl _,by omega,by simp only [List.length_cons];omega⟩,z01 (fun h=>absurd (of_decide_eq_true h) (by omega)) (fun _=>⟨(qe,⟨qw.s,qw.f,st.length+qp.length,stkZ R st.length qp.reverse⟩),hp,z0m (fun _=>⟨.refl _,rfl⟩) (fun h=>absurd h h0)⟩)⟩) (fun h=>absurd (of_decide_eq_false h) (by simp only [List.length_cons];omega))
theorem c_wrun (K:Nat)(hK:K≤1000000000){I:Wp→List (Int×Int)→Prop}(hI:RunI K I)(w:Wp)(st:List (Int×Int))(hi:I w st):∃ n' R',AC Tryz.prog 68 [aWk] (oWk w st.length (PR st.reverse)) (ci (runZ w.f.toNat w st).1) (oWk' (runZ w.f.toNat w st).2 n' R'):=by
 obtain ⟨n',R',h⟩:=l_wrun K hK hI w.f.toNat w st (PR st.reverse) (Nat.le_refl _) hi (List.take_of_length_le (by rw [zjp,List.length_reverse];exact Nat.le_refl _));refine ⟨n',R',AC.vc hP sh z6h (by simp) (by simp [isLive]) (by simp [isLive]) (Eq.mpr (v68_i1 ..) ?_)⟩;exact h
theorem c_wrun0 (w:Wp):AC Tryz.prog 68 [aWk] [.arr 3 [[.a (.ep 1 6 0 0), .a (.fz .N), .a (.fz (.int .i64 w.f))]],hp6 2 3 4 5 w.s, .arz 5 (CR w.s.C), .arz 7 (TR w.s.T), .arz 1 (NR w.s.N), .mapz (NM w.s.N 0)] (ci 0)
  [.arr 3 [[.a (.ep 1 6 0 0), .a (.fz .N), .a (.fz (.int .i64 w.f))]],hp6 6 7 8 5 w.s, .gone, .gone, .gone, .mapz (NM w.s.N 0), .arz 5 (CR w.s.C), .arz 7 (TR w.s.T), .arz 1 (NR w.s.N)]:=by
 refine AC.vc hP sh lv68 (by simp) (by simp [isLive]) (by simp [isLive]) (Eq.mpr (v68 ..) ?_);refine RPt.vc hP sh lv68 (Eq.mpr (v68_1a ..) ?_);exact ⟨rfl, .refl _,rfl⟩
def RunL (K:Nat)(w:Wp)(st:List (Int×Int)):Prop:=OkW K w∧w.f≤100000∧st.length+w.f≤400000000
theorem runI_L (K:Nat):RunI K (RunL K) where
 ok:=fun w st h=>⟨h.1,by have:=h.2.2;have:=h.1.f0;omega⟩
 js:=fun w p st h h0=>by
  have ok1:=h.1.less h0;have hf:w.f-1≤100000:=by have:=h.2.1;omega
  refine ⟨z70 ok1 p.1 hf, ?_⟩;have h1:=(z2v ok1 p.1).1;by_cases q:(lookW ⟨w.s,w.f-1⟩ p.1).1.2=0
  · exact z70 (h1.ok ok1 q) p.2 (by have:=h1.f1;dsimp only at this;omega)
  · have ok2:OkW (K+1048577) (lookW ⟨w.s,w.f-1⟩ p.1).2:=⟨h1.h,h1.f0,by have:=h1.f1;have:=ok1.f1;dsimp only at*;omega,h1.m⟩;exact z70 ok2 p.2 (by have:=h1.f1;dsimp only at this;omega)
 nx:=fun w p st h h0 q=>by
  have ok1:=h.1.less h0;have hf:w.f-1≤100000:=by have:=h.2.1;omega
  obtain ⟨g1,g2⟩:=zif ok1 p hf;have g2:=g2 q;have f1:=g1.f1;dsimp only at g2 f1;refine ⟨g1.ok ok1 q,by omega, ?_⟩;have:=h.2.2;simp only [List.length_cons] at this;simp only [List.length_append];omega
end Go.AM

set_option maxRecDepth 100000
open Go Go.Proofs
namespace Go.AM
def GoodZ (s:Hp):Prop:=∀ e∈s.T,0≤e.o∧e.o<(s.C.length:Int)∧e.top<(s.C.length:Int)
theorem putZ_or (s:Hp)(c:Cel):(putS s c).2=s∨(putS s c).2={ s with C:=s.C++ [c] }:=by
 unfold putS;split
 · exact .inl rfl
 · split
   · exact .inl rfl
   · exact .inr rfl
theorem setZ_or (s:Hp)(x:Int)(c:Cel):(setS s x c).2=s∨inC s.C x=true∧(setS s x c).2={ s with C:=s.C.set x.toNat c,T:=s.T++ [⟨x,z06 s.C x,topS s.T x⟩] }:=by
 unfold setS;split
 · exact .inl rfl
 · rename_i h;split
   · exact .inl rfl
   · split
     · exact .inl rfl
     · split
       · exact .inl rfl
       · exact .inr ⟨by simpa using h,rfl⟩
theorem topZ_lt {T:List Trl}{x n:Int}(hx:x<n)(hT:∀ e∈T,e.top<n):topS T x<n:=by
 unfold topS;split
 · rcases fmax2 (x:=x) rfl with h | h
   · rw [h];exact hx
   · rw [h];exact hT _ (List.getElem_mem _)
 · exact hx
theorem zg8:∀ (D:List Trl) (C:List Cel) (c:Cel),(∀ e∈D,e.o.toNat<C.length)→z51 D (C++ [c])=z51 D C++ [c]
 | [],_,_,_=>rfl
 | e::D,C,c,h=>by
  have ih:=zg8 D C c fun x hx=>h x (List.mem_cons_of_mem _ hx);have hl:=z35 D C;show (z51 D (C++ [c])).set _ _=(z51 D C).set _ _++ [c];rw [ih,List.set_append_left _ _ (by rw [hl];exact h e List.mem_cons_self)]
def LaterZ (s0 s:Hp):Prop:=s0.C.length≤s.C.length∧∃ D,s.T=s0.T++D∧(z51 D s.C).take s0.C.length=s0.C
theorem Mv.later {b:Bool}{s0 s:Hp}(h:Mv b s0 s)(hg:GoodZ s0):GoodZ s∧LaterZ s0 s:=by
 induction h with
 | refl=>exact ⟨hg,Nat.le_refl _,[],by simp,by simp [z51]⟩
 | @put t c _ ih=>
  obtain ⟨ig,hn,D,hD,hC⟩:=ih;rcases putZ_or t c with e | e<;>rw [e]
  · exact ⟨ig,hn,D,hD,hC⟩
  · refine ⟨fun x hx=> ?_,by simp;omega,D,hD, ?_⟩
    · have:=ig x hx;simp only [List.length_append,List.length_singleton];omega
    · show (z51 D (t.C++ [c])).take _=_;rw [zg8 D t.C c fun x hx=>by have:=ig x (by rw [hD];exact List.mem_append_right _ hx);omega,List.take_append_of_le_length (by rw [z35];exact hn)];exact hC
 | @set t a c _ ih=>
  obtain ⟨ig,hn,D,hD,hC⟩:=ih;rcases setZ_or t a c with e | ⟨hin,e⟩<;>rw [e]
  · exact ⟨ig,hn,D,hD,hC⟩
  · simp only [inC,Bool.and_eq_true,decide_eq_true_eq] at hin;obtain ⟨hl,ec⟩:=z9p hin.1 hin.2;refine ⟨fun x hx=> ?_,by simp only [List.length_set];exact hn,D++ [⟨a,z06 t.C a,topS t.T a⟩],by simp only [hD,List.append_assoc], ?_⟩
    · simp only [List.length_set];rcases List.mem_append.1 hx with hx | hx
      · exact ig x hx
      · rw [List.mem_singleton.1 hx];exact ⟨hin.1,hin.2,topZ_lt hin.2 fun e he=>(ig e he).2.2⟩
    · show (z51 (D++ [_]) (t.C.set a.toNat c)).take _=_;rw [zca,List.set_set,ec,List.set_getElem_self];exact hC
 | names e _ _ ih=>exact ih
theorem LaterZ.back {s0 s:Hp}(h:LaterZ s0 s):(z4u s s0.C.length s0.T.length).C=s0.C∧(z4u s s0.C.length s0.T.length).T=s0.T:=by
 obtain ⟨hn,D,hD,hC⟩:=h;refine ⟨?_, ?_⟩
 · show (z51 (s.T.drop s0.T.length) s.C).take s0.C.length=s0.C;rw [hD,List.drop_left']
   · exact hC
   · rfl
 · show s.T.take s0.T.length=s0.T;rw [hD,List.take_left'];rfl
theorem c_undoZ {b:Bool}{s0 s:Hp}(h:Mv b s0 s)(hg:GoodZ s0)(ok:OkH s):AC Tryz.prog 69 [aH 0, .agg [.a (.fz (.int .i64 (s0.C.length:Int))), .a (.fz (.int .i64 (s0.T.length:Int)))]] (oH s) (.tup []) (oH' (z4u s s0.C.length s0.T.length)):=by
 obtain ⟨g,hn,D,hD,_⟩:=h.later hg;refine c_hundo s s0.C.length s0.T.length (by rw [hD];simp) (by have:=ok.T;omega) hn (fun e he=>⟨(g e he).1,(g e he).2.1⟩) (fun e he=> ?_);rw [hD,List.take_left'] at he
 · exact (hg e he).2.2
 · rfl
abbrev oHb (s:Hp):List AObj:=[.arr 1 [[.a (.ep 1 6 0 0)]],hp6 2 3 4 5 s, .arz 5 (CR s.C), .arz 7 (TR s.T), .arz 1 (NR s.N), .mapz (NM s.N 0)]
abbrev fnO (bk:Nat):TV:= .c (.fn (.func bk) [] [(false,[.ep 0 1 0 0])])
theorem c_hall1 (s:Hp)(x:Int):AC Tryz.prog 65 [ci x, .c (.a (.ep 0 1 0 0))] (oHb s) (cb (oddZ s.C x)) (oHb s):=by
 have hc:=z40 s x;have e:oddZ s.C x=(!inC s.C x||decide (9≤(z06 s.C x).t)):=rfl;rw [e];refine AC.vc hP sh lv65 (by simp) (by simp [isLive]) (by simp) (Eq.mpr (v65 ..) ?_);refine ⟨_,_,_,_,_,_,hc,z01 (fun h=>z1h ?_) (fun h=>z1h ?_)⟩
 · rw [h];rfl
 · rw [h];rfl
def ixI (p:Int→Bool):List Int→Nat→Int
 | [],_=> -1
 | t::l,i=>if p t=true then (i:Int) else ixI p l (i+1)
theorem zmv (p:Int→Bool):∀ (l:List Int) (i:Nat),decide (ixI p l i≥0)=l.any p
 | [],_=>rfl
 | t::l,i=>by
  rw [ixI,List.any_cons];split
  · rename_i h;rw [h];simp
  · rename_i h;rw [zmv p l,show p t=false by simpa using h,Bool.false_or]
theorem l_idxi (s:Hp)(l0:List Int)(hl:l0.length≤1000000000):∀ (b a:List Int),l0=a++b→
  RPt Tryz.prog 121 6 (ci (ixI (oddZ s.C) b a.length)) (oHb s) 1 ⟨[(0,aIs l0),(1,fnO 65),(7,ci (l0.length:Int)),(8,ci (a.length:Int))],[(0, .arr 1 [[.a (.ep 1 6 0 0)]]),(1,hp6 2 3 4 5 s),(2, .arz 5 (CR s.C)),(3, .arz 7 (TR s.T)),(4, .arz 1 (NR s.N)),(5, .mapz (NM s.N 0))],6⟩
 | [],a,hp=>by
  rw [List.append_nil] at hp;refine RPt.vc hP sh zm1 (Eq.mpr (zaw ..) ?_);exact z01 (fun h=>absurd (of_decide_eq_true h) (by rw [hp];omega)) (fun _=>⟨.refl _,rfl⟩)
 | t::b,a,hp=>by
  have ih:=l_idxi s l0 hl b (a++ [t]) (by rw [hp];simp);rw [show (((a++ [t]).length:Nat):Int)=(a.length:Int)+1 by simp,show (a++ [t]).length=a.length+1 by simp] at ih;have hm:List.getD (IR l0) (Int.toNat (a.length:Int)) []=[.int .i64 t]:=by rw [hp];exact znw a t b
  have h3:(a.length:Int)<(((IR l0).length:Nat):Int):=by rw [hp];exact IR_lt a t b
  have h4:(a.length:Int)<((l0.length:Nat):Int):=by rw [z0d] at h3;exact h3
  have h1:=c_hall1 s t;rw [ixI];refine RPt.vc hP sh zm1 (Eq.mpr (zaw ..) ?_);rw [hm,w64 (x:=(a.length:Int)+1) (by omega) (by omega)];refine z01 (fun _=>⟨⟨rfl,by omega,h3,rfl⟩,oddZ s.C t,h1,z01 (fun h=> ?_) (fun h=> ?_)⟩) (fun h=>absurd h4 (of_decide_eq_false h))
  · rw [if_pos h];exact ⟨.refl _,rfl⟩
  · rw [if_neg (by rw [h];simp)];exact ih
theorem c_anyi (s:Hp)(l:List Int)(hl:l.length≤1000000000):AC Tryz.prog 66 [aIs l,fnO 65] (oHb s) (cb (l.any (oddZ s.C))) (oHb s):=by
 have h:AC Tryz.prog 121 [aIs l,fnO 65] (oHb s) (ci (ixI (oddZ s.C) l 0)) (oHb s):=by
  have:=l_idxi s l hl l [] rfl;refine AC.vc hP sh zm1 (Nat.le_refl _) (by simp [isLive]) (by simp) (Eq.mpr (v121_F65 ..) ?_);rw [z0d];exact ⟨rfl,this⟩
 have e:=zmv (oddZ s.C) l 0;refine AC.vc hP sh lv66 (Nat.le_refl _) (by simp [isLive]) (by simp) (Eq.mpr (v66_F65 ..) ?_);exact ⟨_,h,by rw [←e];exact .refl _,rfl⟩
abbrev haH (s:Hp)(f:Int)(a b:List Int)(i:Nat):AHeap:=
 if i=a.length then [(0,hp6 15 16 17 4 s),(1, .gone),(2, .gone),(3, .gone),(4, .mapz (NM s.N 0)),(5, .gone),(6, .gone),(7, .gone),(8, .arr 1 [[.a (.ep 0 6 0 0)]]),(9, .arr 1 [[.a (.fz (.sl false 1 (IR a)))]]),(10, .arr 1 [[.a (.fz (.sl false 1 (IR b)))]]),(11, .arr 2 [[.a (.fz (.int .i64 (s.C.length:Int))), .a (.fz (.int .i64 (s.T.length:Int)))]]),(12, .arr 1 [[.a (.ep 13 3 0 0)]]),(13, .arr 3 [[.a (.ep 0 6 0 0), .a (.fz .N), .a (.fz (.int .i64 f))]]),(14, .arr 1 [[.a (.fz (.sl false 1 (IR a)))]]),(15, .arz 5 (CR s.C)),(16, .arz 7 (TR s.T)),(17, .arz 1 (NR s.N))]
 else [(0,hp6 15 16 17 4 s),(1, .gone),(2, .gone),(3, .gone),(4, .mapz (NM s.N 0)),(5, .gone),(6, .gone),(7, .gone),(8, .arr 1 [[.a (.ep 0 6 0 0)]]),(9, .arr 1 [[.a (.fz (.sl false 1 (IR a)))]]),(10, .arr 1 [[.a (.fz (.sl false 1 (IR b)))]]),(11, .arr 2 [[.a (.fz (.int .i64 (s.C.length:Int))), .a (.fz (.int .i64 (s.T.length:Int)))]]),(12, .arr 1 [[.a (.ep 13 3 0 0)]]),(13, .arr 3 [[.a (.ep 0 6 0 0), .a (.osl 18 2 0 (a.length-i)), .a (.fz (.int .i64 f))]]),(14, .arr 1 [[.a (.fz (.sl false 1 (IR a)))]]),(15, .arz 5 (CR s.C)),(16, .arz 7 (TR s.T)),(17, .arz 1 (NR s.N)),(18, .arz 2 (PR ((a.zip b).drop i).reverse))]
theorem c_hAll (s:Hp) (hg:GoodZ s) (a b:List Int) (f:Int) (ha:a.length≤1000000000) (hb:b.length≤1000000000)
  (hrun:a.length=b.length→a.any (oddZ s.C)=false→b.any (oddZ s.C)=false→a ≠ []→∃ n' R',AC Tryz.prog 68 [aWk] (oWk ⟨s,f⟩ (a.zip b).length (PR (a.zip b).reverse)) (ci (runZ f.toNat ⟨s,f⟩ (a.zip b)).1) (oWk' (runZ f.toNat ⟨s,f⟩ (a.zip b)).2 n' R'))
  (hmv:a.length=b.length→Mv true s (runZ f.toNat ⟨s,f⟩ (a.zip b)).2.s) (hok:OkH s):
  AC Tryz.prog 16 [aH 0,aIs a,aIs b,ci f] (oH s) (t2 (allZ s a b f).1) (oH' (allZ s a b f).2):=by
 have n1:=c_anyi s a ha;have n2:=c_anyi s b hb;have hm:=c_hmark s
 have e0:allZ s a b f=if a.length≠b.length∨a.any (oddZ s.C)=true∨b.any (oddZ s.C)=true then ((0,1),s)
  else if (runZ f.toNat ⟨s,f⟩ (a.zip b)).1≠0 then ((0,(runZ f.toNat ⟨s,f⟩ (a.zip b)).1),z4u (runZ f.toNat ⟨s,f⟩ (a.zip b)).2.s s.C.length s.T.length)
  else (((runZ f.toNat ⟨s,f⟩ (a.zip b)).2.f,0),(runZ f.toNat ⟨s,f⟩ (a.zip b)).2.s):=rfl
 rw [e0];refine AC.vc hP sh lv16 (by simp) (by simp [isLive]) (by simp [isLive]) (Eq.mpr (v16 (IR a) (IR b) f ..) ?_);rw [z0d,z0d];refine ⟨rfl,rfl,z0m (fun q=> ?_) (fun q=>⟨_,n1,z01 (fun q1=> ?_) (fun q1=>⟨_,n2,z01 (fun q2=> ?_) (fun q2=>⟨(s.C.length:Int),(s.T.length:Int),hm,IR a,zm0 (IR a), ?_⟩)⟩)⟩)⟩
 · rw [if_pos (.inl (by omega))];exact ⟨.refl _,rfl⟩
 · rw [if_pos (.inr (.inl q1))];exact ⟨.refl _,rfl⟩
 · rw [if_pos (.inr (.inr q2))];exact ⟨.refl _,rfl⟩
 have hl:a.length=b.length:=by omega
 rw [if_neg (by rintro (w | w | w);exact w hl;rw [q1] at w;cases w;rw [q2] at w;cases w)];have hrun:=hrun hl q1 q2;have hmv:=hmv hl;clear e0 n1 n2 hm;have hzl:(a.zip b).length=a.length:=by simp [hl]
 refine RPt.backI (sh:=sh) (lv:=lv16) (α:=Nat) (Inv:=fun i=>i≤a.length) (idx:=fun i=>i) (nx:=fun i=>if i=a.length then 18 else 19) (m0:=15) (U:=[5,6,7]) (live:=[4,5,6,11,12,38]) (oc:=14) (es:=a) (x0:=a.length) (g:= .tmp 38) (env:=[(4, .c (.a (.ep 8 1 0 0))),(5, .c (.a (.ep 9 1 0 0))),(6, .c (.a (.ep 10 1 0 0))),(11, .c (.a (.ep 11 2 0 0))),(12, .c (.a (.ep 12 1 0 0))),(38,fnI 122 14)])
  (H:=fun i=>haH s f a b i) hP (by kernel_rfl) isBkI bTyI ?_ (by kernel_rfl) (by kernel_rfl) (by kernel_rfl) (by kernel_rfl) (fun _ _=>by split<;>omega) (fun i _=>by unfold haH;split<;>rfl) (by omega) (fun i hi=>hi) (fun i k hk hi hik=> ?_) (Nat.le_refl _) rfl (fun i hi h0=> ?_)
 · refine Eq.mpr (v16_1an ..) ?_;unfold haH;rw [if_pos rfl,if_pos rfl]
 · have hik:i=k+1:=hik;have hi:i≤a.length:=hi;subst hik;have hkb:k<b.length:=by omega
   have ea:List.getD (IR a) (Int.toNat ((k:Nat):Int)) []=[.int .i64 a[k]]:=by rw [Int.toNat_natCast];exact z3a hk
   have eb:List.getD (IR b) (Int.toNat ((k:Nat):Int)) []=[.int .i64 b[k]]:=by rw [Int.toNat_natCast];exact z3a hkb
   have edz:(a.zip b).drop k=(a[k],b[k])::(a.zip b).drop (k+1):=by
    rw [List.drop_eq_getElem_cons (by omega)];simp
   have estk:PR ((a.zip b).drop k).reverse=PR ((a.zip b).drop (k+1)).reverse++ [[.int .i64 a[k], .int .i64 b[k]]]:=by rw [edz,List.reverse_cons,zid];rfl
   have hlen:(PR ((a.zip b).drop (k+1)).reverse).length=a.length-(k+1):=by simp [zjp,hl]
   generalize a[k]=u at*;generalize b[k]=v at*;by_cases hc:k+1=a.length
   · unfold haH;rw [if_pos hc,if_pos hc];refine Eq.mpr (v16_1ara ..) ?_;rw [ea,eb,z0d,z0d];refine ⟨⟨rfl,by omega,by omega,rfl⟩,⟨rfl,by omega,by omega,rfl⟩,Nat.le_refl _,by unfold z0h;omega,k,⟨(by omega:k≤a.length),rfl⟩, ?_,by rw [if_neg (by omega)]⟩;rw [if_neg (by omega),estk,show a.length-k=1 by omega,show (a.zip b).drop (k+1)=[] from List.drop_eq_nil_of_le (by omega)];rfl
   · unfold haH;rw [if_neg hc,if_neg hc];refine Eq.mpr (v16_1arb ..) ?_;rw [ea,eb,z0d,z0d];refine ⟨⟨rfl,by omega,by omega,rfl⟩,⟨rfl,by omega,by omega,rfl⟩,Nat.le_refl _,⟨by omega,by unfold z0h;omega⟩,k,⟨(by omega:k≤a.length),rfl⟩, ?_,by rw [if_neg (by omega)]⟩;rw [if_neg (by omega),estk,show a.length-k=a.length-(k+1)+1 by omega,List.take_of_length_le (by omega)];rfl
 · have h0:i=0:=h0;subst h0;by_cases hn:a=[]
   · subst hn;have e0:runZ f.toNat ⟨s,f⟩ (([]:List Int).zip b)=(0,⟨s,f⟩):=by cases f.toNat<;>rfl
     rw [e0];have hr:=c_wrun0 ⟨s,f⟩;unfold haH;rw [if_pos (show 0=([]:List Int).length from rfl),if_pos (show 0=([]:List Int).length from rfl)];refine Eq.mpr (v16_1aza ..) ?_;exact ⟨(0,⟨s,f,0,[]⟩),hr,z01 (fun q=>by cases q) (fun _=>⟨.refl _,rfl⟩)⟩
   · obtain ⟨n',R',hr⟩:=hrun hn;have hne:¬0=a.length:=fun q=>hn (List.eq_nil_of_length_eq_zero q.symm);unfold haH;rw [if_neg hne,if_neg hne,Nat.sub_zero,List.drop_zero];rw [hzl] at hr;generalize runZ f.toNat ⟨s,f⟩ (a.zip b)=w at*;obtain ⟨we,ws⟩:=w;dsimp only at hr hmv ⊢;have hu:=c_undoZ hmv hg (hmv.ok hok);refine Eq.mpr (v16_1azb ..) ?_;refine ⟨(we,⟨ws.s,ws.f,n',R'⟩),hr,z0m (fun q=> ?_) (fun q=> ?_)⟩
     · rw [if_pos q];exact ⟨_,hu, .refl _,rfl⟩
     · rw [if_neg (fun w=>w q)];exact ⟨.refl _,rfl⟩
theorem zd9 (s:Hp)(a b f:Int)(h:AC Tryz.prog 16 [aH 0,aIs [a],aIs [b],ci f] (oH s) (t2 (allZ s [a] [b] f).1) (oH' (allZ s [a] [b] f).2)):AC Tryz.prog 20 [aH 0,ci a,ci b,ci f] (oH s) (t2 (allZ s [a] [b] f).1) (oH' (allZ s [a] [b] f).2):=by
 refine AC.vc hP sh lv20 (by simp) (by simp [isLive]) (by simp [isLive]) (Eq.mpr (v20 ..) ?_);exact ⟨by decide,by decide,((allZ s [a] [b] f).1.1,(allZ s [a] [b] f).1.2,(allZ s [a] [b] f).2),h, .refl _,rfl⟩
theorem zdn (K:Nat)(hK:K≤1000000000)(s:Hp)(hg:GoodZ s)(ok:OkH s)(nm:NmB K s)(a b:List Int)(f:Int)(ha:a.length≤1000000)(hb:b.length≤1000000)(f0:0≤f)(f1:f≤100000):
  AC Tryz.prog 16 [aH 0,aIs a,aIs b,ci f] (oH s) (t2 (allZ s a b f).1) (oH' (allZ s a b f).2):=by
 have okw:OkW K ⟨s,f⟩:=⟨ok,f0,by dsimp only;omega,nm⟩;refine c_hAll s hg a b f (by omega) (by omega) (fun _ _ _ _=> ?_) (fun _=>(zhv _ _ okw (by dsimp only;omega)).mv) ok;exact c_wrun K hK (runI_L K) ⟨s,f⟩ (a.zip b) ⟨okw,by dsimp only;omega,by rw [List.length_zip];dsimp only;omega⟩
end Go.AM

set_option maxRecDepth 100000
open Go Go.Proofs
namespace Go.AM
theorem GoodZ.mv {b:Bool}{s t:Hp}(g:GoodZ s)(h:Mv b s t):GoodZ t:=(h.later g).1
theorem NmB.of {K D K2:Nat}{s t:Hp}(h:NmB K s)(hN:t.N.length=s.N.length)(hC:s.C.length≤D+t.C.length)(hK:K+D≤K2):NmB K2 t:=by
 unfold NmB at*;omega
theorem zma {K:Nat}{s:Hp}(hg:GoodZ s)(ok:OkH s)(nm:NmB K s)(a b:List Int)(f:Int)(f0:0≤f)(f1:f≤100000):
  OkH (allZ s a b f).2∧GoodZ (allZ s a b f).2∧NmB (K+2097154) (allZ s a b f).2∧((allZ s a b f).1.2=0∨(allZ s a b f).1.1=0)∧(allZ s a b f).1.1≤f∧
  ((allZ s a b f).1.2≠0→(allZ s a b f).2.C=s.C∧(allZ s a b f).2.T=s.T∧(allZ s a b f).1.1=0)∧(a.length≠b.length→(allZ s a b f).1.2=1):=by
 have okw:OkW K ⟨s,f⟩:=⟨ok,f0,by dsimp only;omega,nm⟩;have r:=zhv f.toNat (a.zip b) okw (by dsimp only;omega);unfold allZ;generalize runZ f.toNat ⟨s,f⟩ (a.zip b)=z at*;split
 · exact ⟨ok,hg,by unfold NmB at*;dsimp only;omega, .inr rfl,f0,fun _=>⟨rfl,rfl,rfl⟩,fun _=>rfl⟩
 · rename_i q;have la:=r.mv.later hg;split
   · obtain ⟨b1,b2⟩:=la.2.back;have ml:=r.mv.len;have mC:=r.h.C;have mN:=r.m;refine ⟨⟨by rw [b1];exact ok.C, ?_,by rw [b2];exact ok.T, ?_⟩, ?_, ?_, .inr rfl,f0,fun _=>⟨b1,b2,rfl⟩,fun h=>absurd (.inl h) q⟩
     · show z.2.s.M≤_;rw [ml.2.1];exact ok.M
     · show z.2.s.L≤_;rw [ml.2.2];exact ok.L
     · intro e he;rw [b2] at he;rw [b1];exact hg e he
     · exact mN.of (D:=1048576) rfl (by omega) (by omega)
   · rename_i q2;exact ⟨r.h,la.1,r.m.of (D:=0) rfl (by dsimp only;omega) (by omega), .inl rfl,by have:=r.f1;exact this,fun h=>absurd rfl h,fun h=>absurd (.inl h) q⟩
abbrev hn0:Hp:=⟨[],[],100,100,[]⟩
abbrev hn1:Hp:=⟨[⟨4,0,0,0,0⟩],[],100,100,[]⟩
abbrev tmA:Tm:= .mk 5 [] 0 [.mk 6 [] 0 [.mk 4 [] 0 [],bndT 0]]
abbrev tmB:Tm:= .mk 5 [] 0 [.mk 6 [] 0 [.mk 0 [102] 0 [],bndT 0,bndT 0]]
abbrev hn2:Hp:=⟨[⟨4,0,0,0,0⟩,⟨3,0,0,0,0⟩,⟨7,0,1,0,0⟩,⟨6,2,0,0,0⟩],[],100,100,[]⟩
abbrev hn3:Hp:=⟨[⟨4,0,0,0,0⟩,⟨3,0,0,0,0⟩,⟨7,0,1,0,0⟩,⟨6,2,0,0,0⟩,⟨0,0,0,0,0⟩,⟨3,0,0,0,0⟩,⟨7,4,5,0,0⟩,⟨3,0,0,0,0⟩,⟨7,6,7,0,0⟩,⟨6,8,0,0,0⟩],[],100,100,[[102]]⟩
abbrev tmK:Tm:= .mk 0 [107] 0 []
abbrev hw9:(Int×Int)×Hp:=allZ hn3 [3] [9] 100
abbrev hw10:(Tm×Int×Int)×Hp:=z3f hw9.2 0 100
abbrev hw11:(Int×Int)×Hp:=encS none hw10.2 tmK
abbrev hw12:(Int×Int)×Hp:=allZ hw11.2 [0] [hw11.1.1] 100
theorem zmx:(hw9.1.2==0&&hw10.1.2.2==0&&hw11.1.2==0&&hw12.1.2==170)=true∧hw10.1.1=tmB:=⟨by kernel_rfl,by kernel_rfl⟩
theorem w22_encA:encS (some [0]) hn1 tmA=((3,0),hn2):=by kernel_rfl
theorem w22_same:AC Tryz.prog 22 [aT tmB,aT tmB] [] (cb true) []:=runX_AC hP (fun f=>bif List.contains [172] f then 0 else 1) 200 60 (by kernel_rfl)
theorem w22_encS:encS none hn2 tmB=((9,0),hn3):=by kernel_rfl
theorem zp9:AC Tryz.prog 11 [] [] (cb true) []:=by
 have h0:=c_hnew 100 100;rw [show (⟨[],[],z0p [z0b [100,0],1048576],z0p [z0b [100,0],1048576],[]⟩:Hp)=hn0 from rfl] at h0;have o0:OkH hn0:=⟨by decide,by decide,by decide,by decide⟩;have h1:=zja hn0 o0 0;rw [show z1n hn0 0=((0,0),hn1) from rfl] at h1;have o3:OkH hn3:=⟨by decide,by decide,by decide,by decide⟩;have g3:GoodZ hn3:=fun e he=>by cases he
 have m3:NmB 1 hn3:=by unfold NmB;decide
 have o2:OkH hn2:=⟨by decide,by decide,by decide,by decide⟩;have m2:NmB 1 hn2:=by unfold NmB;decide
 have o1:OkH hn1:=⟨by decide,by decide,by decide,by decide⟩;have m1:NmB 1 hn1:=by unfold NmB;decide
 have h2:=c_EncC 1 (by omega) 0 [] tmA (by decide) hn1 o1 m1;rw [w22_encA] at h2;have h3:=zno 1 (by omega) tmB (by decide) hn2 o2 m2;rw [w22_encS] at h3;have h9:=zd9 hn3 3 9 100 (zdn 1 (by omega) hn3 g3 o3 m3 [3] [9] 100 (by decide) (by decide) (by omega) (by omega));obtain ⟨o9,g9,m9,_⟩:=zma g3 o3 m3 [3] [9] 100 (by omega) (by omega);have h10:=zmi hw9.2 0 100 o9 (by omega) (by omega);have qv10:=(zi9 hw9.2 0 100 (by omega)).1;have o10:=qv10.ok o9;have g10:=g9.mv qv10;have m10:=qv10.nm m9;have h11:=zno _ (by omega) tmK (by decide) hw10.2 o10 m10;have qv11:=zgq none hw10.2 tmK;have m11:=(zoh none tmK o10 m10).2;have h12:=zd9 hw11.2 0 hw11.1.1 100 (zdn _ (by omega) hw11.2 (g10.mv qv11) (qv11.ok o10) m11 [0] [hw11.1.1] 100 (by simp) (by simp) (by omega) (by omega));obtain ⟨wr1,wr2⟩:=zmx;simp only [Bool.and_eq_true,beq_iff_eq] at wr1;obtain ⟨⟨⟨q9,q10⟩,q11⟩,q12⟩:=wr1;have sm:=w22_same;have ap1:=z3k (.mk 4 [] 0 []) [bndT 0] (by decide);have ap2:=z3k (.mk 0 [102] 0 []) [bndT 0,bndT 0] (by decide);have la1:=za3 1 (.mk 6 [] 0 [.mk 4 [] 0 [],bndT 0]) (by omega);have la2:=za3 1 (.mk 6 [] 0 [.mk 0 [102] 0 [],bndT 0,bndT 0]) (by omega);have e4:=leT (k:=4) (s:=[]) (n:=0) (l:=[]) z2h;have e0:=leT (k:=0) (s:=[102]) (n:=0) (l:=[]) z2h;have lb1:=args1 (x:=bndT 0) (leFT (l:=[]) z2h);have lb2:=args2 (x:=bndT 0) (y:=bndT 0) (leFT (l:=[]) z2h) (leFT (l:=[]) z2h);refine AC.vc hP sh lv11 (Nat.le_refl _) (by simp) (by simp) (Eq.mpr (v11 ..) ?_)
 refine ⟨hn0,h0,(0,0,hn1),h1,⟨rfl,Nat.le_refl _⟩,_,ap1.args ⟨e4,lb1,trivial⟩,_,la1,((3,0),hn2),h2,⟨rfl,Nat.le_refl _⟩,_,ap2.args ⟨e0,lb2,trivial⟩,_,la2,((9,0),hn3),h3,
  (hw9.1.1,hw9.1.2,hw9.2),h9,(hw10.1.1,hw10.1.2.1,hw10.1.2.2,hw10.2),h10,hw11,h11.args ⟨.refl _,leT z2h, .refl _,trivial⟩,(hw12.1.1,hw12.1.2,hw12.2),h12,⟨rfl,Nat.le_refl _⟩,_,ap2.args ⟨e0,lb2,trivial⟩,_,la2,true,by rw [wr2];exact sm, ?_⟩
 exact z04 (fun _=>z04 (fun _=>z04 (fun _=>z04 (fun _=>z04 (fun _=>z04 (fun _=>z01 (fun _=>z0i (by simpa using q12)) (fun h=>by cases h)) (fun h=>absurd q11 h)) (fun h=>absurd q10 h)) (fun h=>absurd q9 h)) (fun h=>absurd rfl h)) (fun h=>absurd rfl h)) (fun h=>absurd rfl h)
theorem OkH.symZ {s:Hp}(h:OkH s)(nm:List UInt8):OkH (symS s nm).2:=by
 unfold symS;split
 · exact h
 · exact ⟨h.C,h.M,h.T,h.L⟩
abbrev hpZ (s:Hp):AHeap:=[(0,hp6 1 2 3 4 s),(1, .arz 5 (CR s.C)),(2, .arz 7 (TR s.T)),(3, .arz 1 (NR s.N)),(4, .mapz (NM s.N 0))]
abbrev aCz (l:List Cel):TV:= .c (.a (.fz (.sl false 5 (CR l))))
theorem zmt (a:List Cel)(c:Cel)(b:List Cel):List.getD (CR (a++c::b)) (Int.toNat (a.length:Int)) []=c.r:=by
 rw [Int.toNat_natCast,zih (by simp)];simp
theorem zi5 (a:List Cel)(c:Cel)(b:List Cel):(a.length:Int)<(((CR (a++c::b)).length:Nat):Int):=by rw [z0t];simp;omega
theorem l_hr5 (set:List Cel)(hs:set.length≤1000000)(x y:List Int)(hx:x.length≤1000)(hy:y.length≤1000):∀ (b pre:List Cel) (s:Hp),set=pre++b→OkH s→GoodZ s→NmB 1 s→
  RPt Tryz.prog 5 0 (cb true) [] 5 ⟨[(1,aCz set),(2,aIs x),(3,aIs y),(9,cb true),(10,aH 0),(12,ci (pre.length:Int))],hpZ s,5⟩
 | [],pre,s,hl,ok,hg,nm=>by
  rw [List.append_nil] at hl;have h1:=zdn 1 (by omega) s hg ok nm x y 300 (by omega) (by omega) (by omega) (by omega);obtain ⟨o1,g1,m1,p1,p2,_,_⟩:=zma hg ok nm x y 300 (by omega) (by omega);have h2:=zd9 (allZ s x y 300).2 (-1) 0 300 (zdn _ (by omega) (allZ s x y 300).2 g1 o1 m1 [-1] [0] 300 (by simp) (by simp) (by omega) (by omega))
  have e2:allZ (allZ s x y 300).2 [-1] [0] 300=((0,1),(allZ s x y 300).2):=by
   unfold allZ;rw [if_pos (.inr (.inl (by simp [oddZ,inC])))]
  rw [e2] at h2;generalize allZ s x y 300=z at*;obtain ⟨⟨n,e⟩,s1⟩:=z;dsimp only at*;refine RPt.vc hP sh lv5 (Eq.mpr (v5_5a ..) ?_);refine ⟨rfl,z01 (fun q=>absurd (of_decide_eq_true q) (by rw [z0t,hl];omega)) (fun _=>⟨(n,e,s1),h1,(0,1,s1),h2,z01 (fun _=>z04 (fun _=>z01 (fun _=>z04 (fun _=>z0i rfl) (fun q=>absurd rfl q)) (fun q=>absurd p2 (of_decide_eq_false q))) (fun q=>z04 (fun _=>z01 (fun _=>z04 (fun _=>z0i rfl) (fun q=>absurd rfl q)) (fun q=>absurd p2 (of_decide_eq_false q))) (fun q2=>absurd (p1.resolve_left q) q2))) (fun q=>by cases q)⟩)⟩
 | c::b,pre,s,hl,ok,hg,nm=>by
  have hp:=zm2 s (pre.length:Int) c (by have:=ok.T;omega);have nx:=l_hr5 set hs x y hx hy b (pre++ [c]) (setS s (pre.length:Int) c).2 (by rw [hl];simp) (ok.set _ _) (hg.mv (.set (b:=false) _ c (.refl s))) (nm.set _ _);rw [show (((pre++ [c]).length:Nat):Int)=(pre.length:Int)+1 by simp] at nx;have hlen:set.length=pre.length+(b.length+1):=by rw [hl];simp
  subst hl;refine RPt.vc hP sh lv5 (Eq.mpr (v5_5a ..) ?_);rw [zmt,w64 (by omega) (by omega)];exact ⟨rfl,z01 (fun _=>⟨⟨rfl,by omega,zi5 pre c b,rfl⟩,setS s (pre.length:Int) c,hp,nx⟩) (fun q=>absurd (zi5 pre c b) (of_decide_eq_false q))⟩
theorem l_hr1 (l set:List Cel)(hs:set.length≤1000000)(hll:l.length≤1000000)(x y:List Int)(hx:x.length≤1000)(hy:y.length≤1000):∀ (b pre:List Cel) (s:Hp),l=pre++b→OkH s→GoodZ s→NmB 1 s→
  RPt Tryz.prog 5 0 (cb true) [] 1 ⟨[(0,aCz l),(1,aCz set),(2,aIs x),(3,aIs y),(9,cb true),(10,aH 0),(11,ci (pre.length:Int))],hpZ s,5⟩
 | [],pre,s,hl,ok,hg,nm=>by
  rw [List.append_nil] at hl;have nx:=l_hr5 set hs x y hx hy set [] s rfl ok hg nm;refine RPt.vc hP sh lv5 (Eq.mpr (v5_1a ..) ?_);exact ⟨rfl,z01 (fun q=>absurd (of_decide_eq_true q) (by rw [z0t,hl];omega)) (fun _=>nx)⟩
 | c::b,pre,s,hl,ok,hg,nm=>by
  have hp:=z34 s c (by have:=ok.C;omega);have nx:=l_hr1 l set hs hll x y hx hy b (pre++ [c]) (putS s c).2 (by rw [hl];simp) (ok.put _) (hg.mv (.put (b:=false) c (.refl s))) (nm.put _);rw [show (((pre++ [c]).length:Nat):Int)=(pre.length:Int)+1 by simp] at nx;have hlen:l.length=pre.length+(b.length+1):=by rw [hl];simp
  subst hl;refine RPt.vc hP sh lv5 (Eq.mpr (v5_1a ..) ?_);rw [zmt,w64 (by omega) (by omega)];exact ⟨rfl,z01 (fun _=>⟨⟨rfl,by omega,zi5 pre c b,rfl⟩,putS s c,hp,nx⟩) (fun q=>absurd (zi5 pre c b) (of_decide_eq_false q))⟩
theorem zhz (l set:List Cel)(x y:List Int):AC Tryz.prog 5 [aCz l,aCz set,aIs x,aIs y] [] (cb true) []:=by
 have hw:=zp9;have hn:=c_hnew 2000 2000;refine AC.vc hP sh lv5 (Nat.le_refl _) (by simp) (by simp) (Eq.mpr (v5 ..) ?_);rw [z0t,z0t,z0d,z0d];refine ⟨true,hw,z01 (fun q=>by cases q) (fun _=>⟨rfl,z01 (fun _=>⟨.refl _,rfl⟩) (fun q=>⟨rfl,z01 (fun _=>⟨.refl _,rfl⟩) (fun q2=>⟨rfl,z01 (fun _=>⟨.refl _,rfl⟩) (fun q3=>⟨rfl,z01 (fun _=>⟨.refl _,rfl⟩) (fun q4=>⟨_,hn, ?_⟩)⟩)⟩)⟩)⟩)⟩;have q:=of_decide_eq_false q;have q2:=of_decide_eq_false q2;have q3:=of_decide_eq_false q3;have q4:=of_decide_eq_false q4;have ok:OkH ⟨[],[],z0p [z0b [2000,0],1048576],z0p [z0b [2000,0],1048576],[]⟩:=⟨by simp,by decide,by simp,by decide⟩;have hs:=zlv ⟨[],[],z0p [z0b [2000,0],1048576],z0p [z0b [2000,0],1048576],[]⟩ [97] (by simp);exact ⟨_,hs,l_hr1 l set (by omega) (by omega) x y (by omega) (by omega) l [] _ rfl (ok.symZ _) (fun e he=>by cases he) (by unfold NmB;decide)⟩
end Go.AM

namespace Go.AM
open Go.ChangeShapes Go.WideShapes Go.ChangeAt Go.RowKit
section
variable {H:Type} {enc:TypeId×Value→H} {P:Program} {w:World}
structure CelTy (P:Program)(T:TypeId)(f0 f1 f2 f3 f4:Field):Prop where
 str:P.underlying T=some (.struct #[f0,f1,f2,f3,f4])
 u0:P.underlying f0.type=some (.int .i64)
 u1:P.underlying f1.type=some (.int .i64)
 u2:P.underlying f2.type=some (.int .i64)
 u3:P.underlying f3.type=some (.int .i64)
 u4:P.underlying f4.type=some (.int .i64)
 o:f0.offset=0∧f1.offset=1∧f2.offset=2∧f3.offset=3∧f4.offset=4
 c:P.cellsOf f0.type=1∧P.cellsOf f1.type=1∧P.cellsOf f2.type=1∧P.cellsOf f3.type=1∧P.cellsOf f4.type=1
 cT:P.cellsOf T=5
theorem rd_cel {b:DataW H→Nat}{bs:List (DataW H)→Nat}(hb:Bulk b bs){T:TypeId}{f0 f1 f2 f3 f4:Field}(hT:CelTy P T f0 f1 f2 f3 f4)(fuel:Nat):RdN enc P w b fuel T (fun c:Cel=>c.r) (fun _=>1):=by
 intro cs x h;obtain ⟨xs,n,rfl,rfl,hl,hxl,hf⟩:=DataW.trod_struct hT.str h;rw [hT.cT] at hl
 match cs,hl with
 | [v0,v1,v2,v3,v4],_=>
 match xs,hxl with
 | [x0,x1,x2,x3,x4],_=>
 have q0:=hf 0 f0 rfl;have q1:=hf 1 f1 rfl;have q2:=hf 2 f2 rfl;have q3:=hf 3 f3 rfl;have q4:=hf 4 f4 rfl;rw [hT.o.1,hT.c.1] at q0;rw [hT.o.2.1,hT.c.2.1] at q1;rw [hT.o.2.2.1,hT.c.2.2.1] at q2;rw [hT.o.2.2.2.1,hT.c.2.2.2.1] at q3;rw [hT.o.2.2.2.2,hT.c.2.2.2.2] at q4;obtain ⟨p,r0,_⟩:=zae (b:=b) hT.u0 hb.one n _ _ q0;obtain ⟨k,r1,_⟩:=zae (b:=b) hT.u1 hb.one n _ _ q1;obtain ⟨s,r2,_⟩:=zae (b:=b) hT.u2 hb.one n _ _ q2;obtain ⟨m,r3,_⟩:=zae (b:=b) hT.u3 hb.one n _ _ q3;obtain ⟨a,r4,_⟩:=zae (b:=b) hT.u4 hb.one n _ _ q4;exact ⟨⟨p,k,s,m,a⟩, .cons (LRep.one r0) (.cons (LRep.one r1) (.cons (LRep.one r2) (.cons (LRep.one r3) (.cons (LRep.one r4) .nil)))),hb.one _⟩
end
end Go.AM

set_option maxRecDepth 100000
open Go Go.Proofs
namespace Go.Proofs.YtmgbnkbcjkdfjaaGreat.base
open Go.ChangeShapes Go.WideShapes Go.ChangeAt Go.RowKit Go.AM
theorem one_le {H:Type}(d:DataW H):1≤Rows.uptoBulk d:=by
 cases d with
 | lit l=>cases l<;>simp [Rows.uptoBulk]
 | _=>simp [Rows.uptoBulk]
theorem bulk {H:Type}:Bulk (H:=H) Rows.uptoBulk Rows.uptoBulkAll:=
 ⟨rfl,fun _ _=>rfl,one_le,fun es sp=>by simp only [Rows.uptoBulk];omega,fun l=>by simp [Rows.uptoBulk],fun l=>by simp [Rows.uptoBulk]⟩
theorem own:ownKnob Tryz.prog.godebug=none:=by kernel_rfl
theorem laidOut:laidOutB Tryz.prog=true:=by kernel_rfl
theorem tmTy:∃ f0 f1 f2 f3:Field,TmTy Tryz.prog 35 f0 f1 f2 f3:=
 ⟨_,_,_,_,Tryz.underlying35,Tryz.underlying33,Tryz.underlying9,Tryz.underlying3,Tryz.underlying23,rfl,rfl,rfl,rfl,by kernel_rfl,by kernel_rfl,by kernel_rfl,by kernel_rfl,by kernel_rfl⟩
theorem rec22:Tryz.prog.readableRec 22=true:=by kernel_rfl
theorem lt22:22<Tryz.prog.types.size:=of_decide_eq_true (by kernel_rfl)
theorem rec52:Tryz.prog.readableRec 52=true:=by kernel_rfl
theorem lt52:52<Tryz.prog.types.size:=of_decide_eq_true (by kernel_rfl)
theorem noGl (g:Nat)(h:Tryz.prog.globalNamed "internal/strconv.uint64pow10" =some g):False:=by
 rw [show Tryz.prog.globalNamed "internal/strconv.uint64pow10" =none by kernel_rfl] at h;cases h
theorem upto {H:Type}{l:List (DataW H)}(hk:Rows.uptoSmall H l=true):Rows.uptoBulkAll l≤1048576:=of_decide_eq_true hk
end Go.Proofs.YtmgbnkbcjkdfjaaGreat.base
