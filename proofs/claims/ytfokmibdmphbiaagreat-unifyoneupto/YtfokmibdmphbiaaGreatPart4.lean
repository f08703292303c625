/- Contracts of the code's functions over plain values, and plain laws: part 4. No conditions. -/
import Derived.Test.YtfokmibdmphbiaaGreatPart3
import Derived.Test.YtfokmibdmphbiaaGreatPart2
import Derived.ProofKit
import Derived.OpenShut
import Derived.JoinedCond
import Derived.WalkKit
set_option maxRecDepth 100000
open Go Go.Proofs
namespace Go.AM
mutual
def near (most:Int):Tm→Bool
 | .mk k _ n l=> !(k !=2&&(decide (n>most)||decide (n<0-most)))&&znm most l
def znm (most:Int):List Tm→Bool
 | []=>true
 | t::l=>near most t&&znm most l
end
theorem l_near (most:Int)(k:Int)(s:List UInt8)(n:Int):∀ (b a:List Tm),(∀ u∈b,AC Tryz.prog 19 [aT u,ci most] [] (cb (near most u)) [])→(a++b).length≤B→
  RPt Tryz.prog 19 0 (cb (znm most b)) [] 1 ⟨[(1,ci most),(2,(.c (.a (.ep 0 4 0 0)))),(5,ci a.length)],[(0,(.arr 4 [fzs (FT (.mk k s n (a++b)))]))],1⟩
 | [],a,_,hl=>by
  refine RPt.vc hP sh lv19 (Eq.mpr (v19_1a ..) ?_);exact ⟨rfl,z00 (fun h=>absurd (of_decide_eq_true h) (geI' a)) (fun _=>z07 rfl)⟩
 | t::b,a,ih,hl=>by
  refine RPt.vc hP sh lv19 (Eq.mpr (v19_1a ..) ?_);have hl':=hl;simp only [List.length_append,List.length_cons,B] at hl';refine ⟨rfl,z00 (fun _=> ?_) (fun h=>absurd (ltI' a t b) (of_decide_eq_false h))⟩;have h1:=ih t List.mem_cons_self;have h2:=l_near most k s n b (a++ [t]) (fun u hu=>ih u (List.mem_cons_of_mem _ hu)) (by rw [ap];exact hl);have h3:=ltI' a t b;rw [ap,nx] at h2;rw [midI,w64 (by omega) (by omega)];obtain ⟨k',s',n',l'⟩:=t;refine ⟨⟨rfl,by omega,h3,rfl⟩,_,h1,z00 (fun h=>z07 ?_) (fun h=> ?_)⟩
  · simp_all [znm]
  · simp only [znm,show near most (.mk k' s' n' l')=true by simpa using h,Bool.true_and];exact h2
theorem c_near (most:Int)(h0:0≤most)(h1:most≤4611686018427387904):∀ t:Tm,t.sz≤B→AC Tryz.prog 19 [aT t,ci most] [] (cb (near most t)) []:=by
 refine Tm.ind fun t ih hs=> ?_;obtain ⟨k,s,n,l⟩:=t;have hl:=Tm.szs_length l;simp only [Tm.sz,B] at hs;refine AC.vc hP sh lv19 (Nat.le_refl _) (by simp) (by simp) (Eq.mpr (v19 k s n (FTs l) most _ _) ?_);have key:=l_near most k s n l [] (fun u hu=>ih u hu (by have:=Tm.szs_mem hu;simp only [B];omega)) (by simp only [List.nil_append,B];omega);rw [w64 (by omega) (by omega)];rw [near];refine z00 (fun h=>z00 (fun h2=>z07 ?_) (fun h2=>z00 (fun h3=>z07 ?_) (fun h3=> ?_))) (fun h=> ?_)
 · simp only [h,h2,Bool.true_or,Bool.and_true,Bool.not_true,Bool.false_and]
 · simp only [h,h3,Bool.or_true,Bool.and_true,Bool.not_true,Bool.false_and]
 · simp only [h2,h3,Bool.or_false,Bool.and_false,Bool.not_false,Bool.true_and];exact key
 · simp only [h,Bool.false_and,Bool.not_false,Bool.true_and];exact key
mutual
def zam:Tm→Int→Int
 | .mk _ _ _ l,most=>zb6 l (most-1)
def zb6:List Tm→Int→Int
 | [],n=>n
 | t::l,n=>if n≥0 then zb6 l (zam t n) else n
end
mutual
theorem zpc:∀ (t:Tm) (n:Int),zam t n≤n-1∧(0≤n→ -1≤zam t n)
 | .mk _ _ _ l,n=>by
  have h:=zhi l (n-1);simp only [zam];exact ⟨h.1,fun hn=>h.2 (by omega)⟩
theorem zhi:∀ (l:List Tm) (n:Int),zb6 l n≤n∧(-1≤n→ -1≤zb6 l n)
 | [],n=>by simp [zb6]
 | t::l,n=>by
  have h1:=zpc t n;have h2:=zhi l (zam t n);simp only [zb6];split
  · rename_i h;exact ⟨by omega,fun _=>h2.2 (h1.2 h)⟩
  · exact ⟨Int.le_refl _,fun h=>h⟩
end
theorem l_left (k:Int)(s:List UInt8)(n:Int):∀ (b a:List Tm) (m:Int),(∀ u∈b,∀ m:Int,0≤m→m≤4611686018427387904→AC Tryz.prog 33 [aT u,ci m] [] (ci (zam u m)) [])→(a++b).length≤B→m≤4611686018427387904→
  RPt Tryz.prog 33 0 (ci (zb6 b m)) [] 1 ⟨[(2,(.c (.a (.ep 0 4 0 0)))),(5,ci m),(6,ci a.length)],[(0,(.arr 4 [fzs (FT (.mk k s n (a++b)))]))],1⟩
 | [],a,m,_,hl,hm=>by
  refine RPt.vc hP sh lv33 (Eq.mpr (v33_1a ..) ?_);exact ⟨rfl,z00 (fun h=>absurd (of_decide_eq_true h) (geI' a)) (fun _=>z3n rfl)⟩
 | t::b,a,m,ih,hl,hm=>by
  refine RPt.vc hP sh lv33 (Eq.mpr (v33_1a ..) ?_);have hl':=hl;simp only [List.length_append,List.length_cons,B] at hl';refine ⟨rfl,z00 (fun _=>z00 (fun hm0=> ?_) (fun hm0=>z3n ?_)) (fun h=>absurd (ltI' a t b) (of_decide_eq_false h))⟩
  · have hm0:=of_decide_eq_true hm0;have h1:=ih t List.mem_cons_self m hm0 hm;have hle:=zpc t m;have h2:=l_left k s n b (a++ [t]) (zam t m) (fun u hu=>ih u (List.mem_cons_of_mem _ hu)) (by rw [ap];exact hl) (by omega);have h3:=ltI' a t b;rw [ap,nx] at h2;rw [midI,w64 (by omega) (by omega)];simp only [zb6,hm0,if_true];obtain ⟨k',s',n',l'⟩:=t;exact ⟨⟨rfl,by omega,h3,rfl⟩,_,h1,h2⟩
  · have hm0:=of_decide_eq_false hm0;simp only [zb6,hm0,if_false]
theorem c_left:∀ t:Tm,t.sz≤B→∀ m:Int,0≤m→m≤4611686018427387904→AC Tryz.prog 33 [aT t,ci m] [] (ci (zam t m)) []:=by
 refine Tm.ind fun t ih hs m h0 h1=> ?_;obtain ⟨k,s,n,l⟩:=t;have hl:=Tm.szs_length l;simp only [Tm.sz,B] at hs;refine AC.vc hP sh lv33 (Nat.le_refl _) (by simp) (by simp) (Eq.mpr (v33 k s n (FTs l) m _ _) ?_);rw [w64 (by omega) (by omega)];exact l_left k s n l [] (m-1) (fun u hu=>ih u hu (by have:=Tm.szs_mem hu;simp only [B];omega)) (by simp only [List.nil_append,B];omega) (by omega)
def zbh (t:Tm)(most:Int):Bool:=decide (zam t most<0)
theorem ztn (t:Tm)(hs:t.sz≤B)(m:Int)(h0:0≤m)(h1:m≤4611686018427387904):AC Tryz.prog 18 [aT t,ci m] [] (cb (zbh t m)) []:=by
 have h:=c_left t hs m h0 h1;obtain ⟨k,s,n,l⟩:=t;refine AC.vc hP sh lv18 (Nat.le_refl _) (by simp) (by simp) (Eq.mpr (v18 k s n (FTs l) m _ _) ?_);exact ⟨_,h,z07 rfl⟩
mutual
def z1b:Tm→Tm→Bool
 | .mk k s n l, .mk k' s' n' l'=>k==k'&&(s==s'&&(n==n'&&z8e l l'))
def z8e:List Tm→List Tm→Bool
 | [],[]=>true
 | t::l,u::m=>z1b t u&&z8e l m
 | _,_=>false
end
mutual
theorem z3q:∀ a b:Tm,z1b a b=true↔a=b
 | .mk k s n l, .mk k' s' n' l'=>by simp only [z1b,Bool.and_eq_true,beq_iff_eq,Tm.mk.injEq,zka l l']
theorem zka:∀ a b:List Tm,z8e a b=true↔a=b
 | [],[]=>by simp [z8e]
 | t::l,u::m=>by simp only [z8e,Bool.and_eq_true,List.cons.injEq,z3q t u,zka l m]
 | [],_::_=>by simp [z8e]
 | _::_,[]=>by simp [z8e]
end
theorem zd8:∀ {a b:List Tm},a.length≠b.length→z8e a b=false
 | [],[],h=>absurd rfl h
 | t::l,u::m,h=>by simp only [z8e,zd8 (a:=l) (b:=m) (fun e=>h (by simp [e])),Bool.and_false]
 | [],_::_,_=>rfl
 | _::_,[],_=>rfl
theorem l_same (k:Int)(s:List UInt8)(n:Int)(k':Int)(s':List UInt8)(n':Int):∀ (b a b' a':List Tm),(∀ u∈b,∀ v∈b',AC Tryz.prog 12 [aT u,aT v] [] (cb (z1b u v)) [])→(a++b).length≤B→a.length=a'.length→b.length=b'.length→
  RPt Tryz.prog 12 0 (cb (z8e b b')) [] 1 ⟨[(2,(.c (.a (.ep 0 4 0 0)))),(3,(.c (.a (.ep 1 4 0 0)))),(5,ci a.length)],[(0,(.arr 4 [fzs (FT (.mk k s n (a++b)))])),(1,(.arr 4 [fzs (FT (.mk k' s' n' (a'++b')))]))],2⟩
 | [],a,[],a',_,hl,_,_=>by
  refine RPt.vc hP sh lv12 (Eq.mpr (v12_1a ..) ?_);exact ⟨rfl,z00 (fun h=>absurd (of_decide_eq_true h) (geI' a)) (fun _=>z07 rfl)⟩
 | t::b,a,u::b',a',ih,hl,ha,hb=>by
  refine RPt.vc hP sh lv12 (Eq.mpr (v12_1a ..) ?_);have hl':=hl;simp only [List.length_append,List.length_cons,B] at hl';refine ⟨rfl,z00 (fun _=> ?_) (fun h=>absurd (ltI' a t b) (of_decide_eq_false h))⟩;have h1:=ih t List.mem_cons_self u List.mem_cons_self;have h2:=l_same k s n k' s' n' b (a++ [t]) b' (a'++ [u]) (fun x hx y hy=>ih x (List.mem_cons_of_mem _ hx) y (List.mem_cons_of_mem _ hy)) (by rw [ap];exact hl) (by simp [ha]) (by simpa using hb);have h3:=ltI' a t b;have h4:=ltI' a' u b';rw [←ha] at h4;rw [ap,ap,nx] at h2;rw [midI,midI' a a' ha,w64 (by omega) (by omega)];obtain ⟨k1,s1,n1,l1⟩:=t;obtain ⟨k2,s2,n2,l2⟩:=u;refine ⟨⟨rfl,by omega,h3,rfl⟩,⟨rfl,by omega,h4,rfl⟩,_,h1,z00 (fun h=>z07 ?_) (fun h=> ?_)⟩
  · rw [z8e,show z1b (.mk k1 s1 n1 l1) (.mk k2 s2 n2 l2)=false by simpa using h,Bool.false_and]
  · rw [z8e,show z1b (.mk k1 s1 n1 l1) (.mk k2 s2 n2 l2)=true by simpa using h,Bool.true_and];exact h2
theorem zng:∀ a:Tm,a.sz≤B→∀ b:Tm,AC Tryz.prog 12 [aT a,aT b] [] (cb (z1b a b)) []:=by
 refine Tm.ind fun a ih hs b=> ?_;obtain ⟨k,s,n,l⟩:=a;obtain ⟨k',s',n',l'⟩:=b;have hl:=Tm.szs_length l;simp only [Tm.sz,B] at hs;refine AC.vc hP sh lv12 (Nat.le_refl _) (by simp) (by simp) (Eq.mpr (v12 k s n (FTs l) k' s' n' (FTs l') _ _) ?_);have key:=fun he=>l_same k s n k' s' n' l [] l' [] (fun u hu v _=>ih u hu (by have:=Tm.szs_mem hu;simp only [B];omega) v) (by simp only [List.nil_append,B];omega) rfl he;rw [lenI,lenI];refine z00 (fun h=>z07 ?_) (fun h=>z00 (fun h2=>z07 ?_) (fun h2=>z00 (fun h3=>z07 ?_) (fun h3=>⟨rfl,rfl,z00 (fun h4=>z07 ?_) (fun h4=> ?_)⟩)))
 · simp only [z1b,show (k==k')=false by simpa using h,Bool.false_and]
 · simp only [z1b,show (s==s')=false by simpa using h2,Bool.false_and,Bool.and_false]
 · simp only [z1b,show (n==n')=false by simpa using h3,Bool.false_and,Bool.and_false]
 · rw [z1b,zd8 (by intro e;simp [e] at h4)];simp
 · simp only [z1b,show (k==k')=true by simpa using h,show (s==s')=true by simpa using h2,show (n==n')=true by simpa using h3,Bool.true_and]
   exact key (by have:(l.length:Int)=l'.length:=by simpa using h4
                 omega)
def Tm.inner (t:Tm):Bool:=t.k==5||t.k==6
def Tm.kids (t:Tm):List Tm:=if t.inner=true then t.l else []
def Tm.by (t:Tm):Int:=if t.k==5 then 1 else 0
end Go.AM

set_option maxRecDepth 100000
open Go Go.Proofs
namespace Go.AM
inductive La where
 | con (k n:Int) (s:List UInt8)
 | var (x:Int)
 | bv (n:Nat)
 | lam (b:La)
 | app (f a:La)
namespace La
def size:La→Nat
 | con _ _ _=>1
 | var _=>1
 | bv _=>1
 | lam b=>b.size+1
 | app f a=>f.size+a.size+1
def lift:La→Nat→La
 | con k n s,_=>con k n s
 | var x,_=>var x
 | bv n,k=>if n<k then bv n else bv (n+1)
 | lam b,k=>lam (b.lift (k+1))
 | app f a,k=>app (f.lift k) (a.lift k)
def sub:La→La→Nat→La
 | con k n s,_,_=>con k n s
 | var x,_,_=>var x
 | bv n,u,k=>if n<k then bv n else if n=k then u else bv (n-1)
 | lam b,u,k=>lam (b.sub (u.lift 0) (k+1))
 | app f a,u,k=>app (f.sub u k) (a.sub u k)
theorem z48:∀ (t:La) (k:Nat),(t.lift k).size=t.size
 | con _ _ _,_=>rfl
 | var _,_=>rfl
 | bv n,k=>by rw [lift];split<;>rfl
 | lam b,k=>by rw [lift,size,size,z48 b]
 | app f a,k=>by rw [lift,size,size,z48 f,z48 a]
theorem lift_lift:∀ (t:La) (i k:Nat),i≤k→(t.lift i).lift (k+1)=(t.lift k).lift i
 | con _ _ _,_,_,_=>rfl
 | var _,_,_,_=>rfl
 | bv n,i,k,h=>by
  by_cases h1:n<i
  · rw [lift,if_pos h1,lift,if_pos (by omega),lift,if_pos (by omega),lift,if_pos h1]
  · by_cases h2:n<k
    · rw [lift,if_neg h1,lift,if_pos (by omega),lift,if_pos h2,lift,if_neg h1]
    · rw [lift,if_neg h1,lift,if_neg (by omega),lift,if_neg h2,lift,if_neg (by omega)]
 | lam b,i,k,h=>by rw [lift,lift,lift,lift,lift_lift b (i+1) (k+1) (by omega)]
 | app f a,i,k,h=>by rw [lift,lift,lift,lift,lift_lift f i k h,lift_lift a i k h]
theorem za5:∀ (t u:La) (i j:Nat),j≤i→(t.sub u j).lift i=(t.lift (i+1)).sub (u.lift i) j
 | con _ _ _,_,_,_,_=>rfl
 | var _,_,_,_,_=>rfl
 | bv n,u,i,j,h=>by
  by_cases h1:n<j
  · rw [sub,if_pos h1,lift,if_pos (by omega),lift,if_pos (by omega),sub,if_pos h1]
  · by_cases h2:n=j
    · rw [sub,if_neg h1,if_pos h2,lift,if_pos (by omega),sub,if_neg h1,if_pos h2]
    · rw [sub,if_neg h1,if_neg h2];by_cases h3:n<i+1
      · rw [lift,if_pos (by omega),lift,if_pos h3,sub,if_neg h1,if_neg h2]
      · rw [lift,if_neg (by omega),lift,if_neg h3,sub,if_neg (by omega),if_neg (by omega)];congr 1;omega
 | lam b,u,i,j,h=>by rw [sub,lift,lift,sub,za5 b _ (i+1) (j+1) (by omega),←lift_lift u 0 i (by omega)]
 | app f a,u,i,j,h=>by rw [sub,lift,lift,sub,za5 f u i j h,za5 a u i j h]
theorem z59:∀ (t u:La) (i j:Nat),i≤j→(t.sub u j).lift i=(t.lift i).sub (u.lift i) (j+1)
 | con _ _ _,_,_,_,_=>rfl
 | var _,_,_,_,_=>rfl
 | bv n,u,i,j,h=>by
  by_cases h1:n<i
  · rw [sub,if_pos (by omega),lift,if_pos h1,sub,if_pos (by omega)]
  · rw [show (bv n).lift i=bv (n+1) by rw [lift,if_neg h1]];by_cases h2:n<j
    · rw [sub,if_pos h2,lift,if_neg h1,sub,if_pos (by omega)]
    · by_cases h3:n=j
      · rw [sub,if_neg h2,if_pos h3,sub,if_neg (by omega),if_pos (by omega)]
      · rw [sub,if_neg h2,if_neg h3,sub,if_neg (by omega),if_neg (by omega),lift,if_neg (by omega)];congr 1;omega
 | lam b,u,i,j,h=>by rw [sub,lift,lift,sub,z59 b _ (i+1) (j+1) (by omega),←lift_lift u 0 i (by omega)]
 | app f a,u,i,j,h=>by rw [sub,lift,lift,sub,z59 f u i j h,z59 a u i j h]
theorem sub_lift:∀ (t u:La) (k:Nat),(t.lift k).sub u k=t
 | con _ _ _,_,_=>rfl
 | var _,_,_=>rfl
 | bv n,u,k=>by
  by_cases h:n<k
  · rw [lift,if_pos h,sub,if_pos h]
  · rw [lift,if_neg h,sub,if_neg (by omega),if_neg (by omega)];rfl
 | lam b,u,k=>by rw [lift,sub,sub_lift b]
 | app f a,u,k=>by rw [lift,sub,sub_lift f,sub_lift a]
theorem sub_lift_bv:∀ (t:La) (k:Nat),(t.lift (k+1)).sub (bv k) k=t
 | con _ _ _,_=>rfl
 | var _,_=>rfl
 | bv n,k=>by
  by_cases h:n<k+1
  · rw [lift,if_pos h,sub];by_cases h2:n<k
    · rw [if_pos h2]
    · rw [if_neg h2,if_pos (by omega),show n=k by omega]
  · rw [lift,if_neg h,sub,if_neg (by omega),if_neg (by omega)];rfl
 | lam b,k=>by rw [lift,sub,lift,if_neg (by omega),sub_lift_bv b]
 | app f a,k=>by rw [lift,sub,sub_lift_bv f,sub_lift_bv a]
theorem zin:∀ (t u v:La) (i j:Nat),i≤j→(t.sub (v.lift i) (j+1)).sub (u.sub v j) i=(t.sub u i).sub v j
 | con _ _ _,_,_,_,_,_=>rfl
 | var _,_,_,_,_,_=>rfl
 | bv n,u,v,i,j,h=>by
  by_cases h1:n<i
  · rw [sub,if_pos (by omega),sub,if_pos h1,sub,if_pos h1,sub,if_pos (by omega)]
  · by_cases h2:n=i
    · rw [sub,if_pos (by omega),sub,if_neg h1,if_pos h2,sub,if_neg h1,if_pos h2]
    · rw [show (bv n).sub u i=bv (n-1) by rw [sub,if_neg h1,if_neg h2]];by_cases h3:n<j+1
      · rw [sub,if_pos h3,sub,if_neg h1,if_neg h2,sub,if_pos (by omega)]
      · by_cases h4:n=j+1
        · rw [sub,if_neg h3,if_pos h4,sub_lift,sub,if_neg (by omega),if_pos (by omega)]
        · rw [sub,if_neg h3,if_neg h4,sub,if_neg (by omega),if_neg (by omega),sub,if_neg (by omega),if_neg (by omega)]
 | lam b,u,v,i,j,h=>by
  rw [sub,sub,sub,sub,←lift_lift v 0 i (by omega),z59 u v 0 j (by omega),zin b (u.lift 0) (v.lift 0) (i+1) (j+1) (by omega)]
 | app f a,u,v,i,j,h=>by rw [sub,sub,sub,sub,zin f u v i j h,zin a u v i j h]
theorem lift_inj:∀ {t u:La} {k:Nat},t.lift k=u.lift k→t=u:=fun {t u k} h=>by
 have:=congrArg (fun x=>La.sub x (bv 0) k) h;simpa only [sub_lift] using this
theorem zac:∀ (f w:La) (i k:Nat),i≤k→f.lift (k+1)=w.lift i→∃ g:La,f=g.lift i∧w=g.lift k
 | con a b c,w,i,k,h,e=>⟨con a b c,rfl,by
  cases w with
  | con _ _ _=>exact e.symm
  | var _=>cases e
  | bv n=>rw [lift,lift] at e;split at e<;>cases e
  | lam _=>cases e
  | app _ _=>cases e⟩
 | var x,w,i,k,h,e=>⟨var x,rfl,by
  cases w with
  | con _ _ _=>cases e
  | var _=>exact e.symm
  | bv n=>rw [lift,lift] at e;split at e<;>cases e
  | lam _=>cases e
  | app _ _=>cases e⟩
 | bv n,w,i,k,h,e=>by
  cases w with
  | con _ _ _=>rw [lift,lift] at e;split at e<;>cases e
  | var _=>rw [lift,lift] at e;split at e<;>cases e
  | lam _=>rw [lift,lift] at e;split at e<;>cases e
  | app _ _=>rw [lift,lift] at e;split at e<;>cases e
  | bv m=>
   rw [lift,lift] at e;by_cases h1:n<k+1
   · rw [if_pos h1] at e;by_cases h2:m<i
     · rw [if_pos h2] at e;injection e with e
       subst e;exact ⟨bv n,by rw [lift,if_pos h2],by rw [lift,if_pos (by omega)]⟩
     · rw [if_neg h2] at e;injection e with e
       subst e;exact ⟨bv m,by rw [lift,if_neg h2],by rw [lift,if_pos (by omega)]⟩
   · rw [if_neg h1] at e;by_cases h2:m<i
     · rw [if_pos h2] at e;injection e with e
       omega
     · rw [if_neg h2] at e;injection e with e
       have e:n=m:=by omega
       subst e;refine ⟨bv (n-1), ?_, ?_⟩
       · rw [lift,if_neg (by omega)];congr 1;omega
       · rw [lift,if_neg (by omega)];congr 1;omega
 | lam b,w,i,k,h,e=>by
  cases w with
  | con _ _ _=>cases e
  | var _=>cases e
  | bv n=>rw [lift,lift] at e;split at e<;>cases e
  | app _ _=>cases e
  | lam c=>
   rw [lift,lift] at e;injection e with e
   obtain ⟨g,h1,h2⟩:=zac b c (i+1) (k+1) (by omega) e;exact ⟨lam g,by rw [lift,h1],by rw [lift,h2]⟩
 | app f a,w,i,k,h,e=>by
  cases w with
  | con _ _ _=>cases e
  | var _=>cases e
  | bv n=>rw [lift,lift] at e;split at e<;>cases e
  | lam _=>cases e
  | app f2 a2=>
   rw [lift,lift] at e;injection e with e1 e2
   obtain ⟨g,h1,h2⟩:=zac f f2 i k h e1;obtain ⟨g2,h3,h4⟩:=zac a a2 i k h e2;exact ⟨app g g2,by rw [lift,h1,h3],by rw [lift,h2,h4]⟩
theorem lift_bv0 {a:La}{k:Nat}(h:a.lift (k+1)=bv 0):a=bv 0:=by
 cases a with
 | con _ _ _=>cases h
 | var _=>cases h
 | lam _=>cases h
 | app _ _=>cases h
 | bv n=>
  rw [lift] at h;split at h
  · exact h
  · cases h
end La
open La
section
variable (V:Int→Option La)
inductive Be:La→La→Prop
 | con (k n:Int) (s:List UInt8):Be (.con k n s) (.con k n s)
 | var (x:Int):Be (.var x) (.var x)
 | bv (n:Nat):Be (.bv n) (.bv n)
 | del {x:Int} {v:La}:V x=some v→Be (.var x) v
 | lam {b b':La}:Be b b'→Be (.lam b) (.lam b')
 | app {f f' a a':La}:Be f f'→Be a a'→Be (.app f a) (.app f' a')
 | beta {b b' a a':La}:Be b b'→Be a a'→Be (.app (.lam b) a) (b'.sub a' 0)
end
inductive Et:La→La→Prop
 | con (k n:Int) (s:List UInt8):Et (.con k n s) (.con k n s)
 | var (x:Int):Et (.var x) (.var x)
 | bv (n:Nat):Et (.bv n) (.bv n)
 | lam {b b':La}:Et b b'→Et (.lam b) (.lam b')
 | app {f f' a a':La}:Et f f'→Et a a'→Et (.app f a) (.app f' a')
 | eta {u u':La}:Et u u'→Et (.lam (.app (u.lift 0) (.bv 0))) u'
def ClV (V:Int→Option La):Prop:=∀ x v,V x=some v→∀ k,v.lift k=v
section
variable {V:Int→Option La} (hV:ClV V)
theorem Be.refl:∀ t:La,Be V t t
 | .con k n s=> .con k n s
 | .var x=> .var x
 | .bv n=> .bv n
 | .lam b=> .lam (Be.refl b)
 | .app f a=> .app (Be.refl f) (Be.refl a)
theorem Et.refl:∀ t:La,Et t t
 | .con k n s=> .con k n s
 | .var x=> .var x
 | .bv n=> .bv n
 | .lam b=> .lam (Et.refl b)
 | .app f a=> .app (Et.refl f) (Et.refl a)
theorem zbz {f a n:La}(h:Be V (.app f a) n):(∃ f' a',n= .app f' a'∧Be V f f'∧Be V a a')∨∃ b b' a',f= .lam b∧n=b'.sub a' 0∧Be V b b'∧Be V a a':=by
 cases h with
 | app h1 h2=>exact .inl ⟨_,_,rfl,h1,h2⟩
 | beta h1 h2=>exact .inr ⟨_,_,_,rfl,rfl,h1,h2⟩
theorem zby {b n:La}(h:Be V (.lam b) n):∃ b',n= .lam b'∧Be V b b':=by
 cases h with
 | lam h=>exact ⟨_,rfl,h⟩
theorem zhm {m:Nat}{n:La}(h:Be V (.bv m) n):n= .bv m:=by cases h;rfl
theorem zgw {k m:Int}{s:List UInt8}{n:La}(h:Be V (.con k m s) n):n= .con k m s:=by cases h;rfl
theorem zkg {x:Int}{n:La}(h:Be V (.var x) n):n= .var x∨V x=some n:=by
 cases h with
 | var=>exact .inl rfl
 | del h=>exact .inr h
theorem zds {f a n:La}(h:Et (.app f a) n):∃ f' a',n= .app f' a'∧Et f f'∧Et a a':=by
 cases h with
 | app h1 h2=>exact ⟨_,_,rfl,h1,h2⟩
theorem zea {b n:La}(h:Et (.lam b) n):(∃ b',n= .lam b'∧Et b b')∨∃ u,b= .app (u.lift 0) (.bv 0)∧Et u n:=by
 cases h with
 | lam h=>exact .inl ⟨_,rfl,h⟩
 | eta h=>exact .inr ⟨_,rfl,h⟩
theorem zme {m:Nat}{n:La}(h:Et (.bv m) n):n= .bv m:=by cases h;rfl
theorem zg2 {k m:Int}{s:List UInt8}{n:La}(h:Et (.con k m s) n):n= .con k m s:=by cases h;rfl
theorem zh3 {x:Int}{n:La}(h:Et (.var x) n):n= .var x:=by cases h;rfl
theorem ztj {t t':La}(h:Et t t'):∀ k:Nat,Et (t.lift k) (t'.lift k):=by
 induction h with
 | con k n s=>intro _;exact .con _ _ _
 | var x=>intro _;exact .var _
 | bv n=>intro _;exact .refl _
 | lam _ ih=>intro k;exact .lam (ih (k+1))
 | app _ _ h1 h2=>intro k;exact .app (h1 k) (h2 k)
 | @eta u u' _ ih=>
  intro k
  have:La.lift (.lam (.app (u.lift 0) (.bv 0))) k= .lam (.app ((u.lift k).lift 0) (.bv 0)):=by
   rw [La.lift,La.lift,lift_lift u 0 k (by omega),La.lift,if_pos (by omega)]
  rw [this];exact .eta (ih k)
theorem et_sub {t t':La}(h:Et t t'):∀ {u u':La} (k:Nat),Et u u'→Et (t.sub u k) (t'.sub u' k):=by
 induction h with
 | con k n s=>intro _ _ _ _;exact .con _ _ _
 | var x=>intro _ _ _ _;exact .var _
 | bv n=>
  intro u u' k hu;rw [La.sub,La.sub];split
  · exact .bv _
  · split
    · exact hu
    · exact .bv _
 | lam _ ih=>intro u u' k hu;exact .lam (ih (k+1) (ztj hu 0))
 | app _ _ h1 h2=>intro u u' k hu;exact .app (h1 k hu) (h2 k hu)
 | @eta w w' _ ih=>
  intro u u' k hu
  have:La.sub (.lam (.app (w.lift 0) (.bv 0))) u k= .lam (.app ((w.sub u k).lift 0) (.bv 0)):=by
   rw [La.sub,La.sub,z59 w u 0 k (by omega),La.sub,if_pos (by omega)]
  rw [this];exact .eta (ih k hu)
theorem zbe:∀ (m:Nat) (u:La) (k:Nat) (n:La),u.size≤m→Et (u.lift k) n→∃ n',n=n'.lift k∧Et u n'
 | 0,u,_,_,hm,_=>by cases u<;>simp only [La.size] at hm<;>omega
 | m+1,u,k,n,hm,h=>by
  cases u with
  | con a b c=>exact ⟨.con a b c,zg2 h, .refl _⟩
  | var x=>exact ⟨.var x,zh3 h, .refl _⟩
  | bv i=>
   refine ⟨.bv i, ?_, .refl _⟩;rw [La.lift] at h ⊢;split at h
   · rename_i q;rw [if_pos q];exact zme h
   · rename_i q;rw [if_neg q];exact zme h
  | app f a=>
   simp only [La.size] at hm;obtain ⟨f',a',rfl,h1,h2⟩:=zds h;obtain ⟨f2,rfl,h3⟩:=zbe m f k f' (by omega) h1;obtain ⟨a2,rfl,h4⟩:=zbe m a k a' (by omega) h2;exact ⟨.app f2 a2,rfl, .app h3 h4⟩
  | lam b=>
   simp only [La.size] at hm;rcases zea h with ⟨b',rfl,h1⟩ | ⟨w,e,h1⟩
   · obtain ⟨b2,rfl,h2⟩:=zbe m b (k+1) b' (by omega) h1;exact ⟨.lam b2,rfl, .lam h2⟩
   · cases b with
     | con _ _ _=>cases e
     | var _=>cases e
     | lam _=>cases e
     | bv i=>rw [La.lift] at e;split at e<;>cases e
     | app f a=>
      rw [La.lift] at e;injection e with e1 e2
      have ea:=lift_bv0 e2;obtain ⟨g,rfl,rfl⟩:=zac f w 0 k (by omega) e1;subst ea;simp only [La.size,z48] at hm;obtain ⟨n',rfl,h2⟩:=zbe m g k n (by omega) h1;exact ⟨n',rfl, .eta h2⟩
include hV
theorem zo4 {t t':La}(h:Be V t t'):∀ k:Nat,Be V (t.lift k) (t'.lift k):=by
 induction h with
 | con k n s=>intro _;exact .con _ _ _
 | var x=>intro _;exact .var _
 | bv n=>intro _;exact .refl _
 | @del x v h=>intro k;rw [hV x v h k];exact .del h
 | lam _ ih=>intro k;exact .lam (ih (k+1))
 | app _ _ h1 h2=>intro k;exact .app (h1 k) (h2 k)
 | @beta b b' a a' _ _ h1 h2=>
  intro k;rw [za5 b' a' k 0 (by omega)];exact .beta (h1 (k+1)) (h2 k)
theorem zpk {t t':La}(h:Be V t t'):∀ {u u':La} (k:Nat),Be V u u'→Be V (t.sub u k) (t'.sub u' k):=by
 induction h with
 | con k n s=>intro _ _ _ _;exact .con _ _ _
 | var x=>intro _ _ _ _;exact .var _
 | bv n=>
  intro u u' k hu;rw [La.sub,La.sub];split
  · exact .bv _
  · split
    · exact hu
    · exact .bv _
 | @del x v h=>
  intro u u' k hu;have e:=hV x v h k
  have:v.sub u' k=v:=by
   have:=sub_lift v u' k
   rwa [e] at this
  rw [this];exact .del h
 | lam _ ih=>intro u u' k hu;exact .lam (ih (k+1) (zo4 hV hu 0))
 | app _ _ h1 h2=>intro u u' k hu;exact .app (h1 k hu) (h2 k hu)
 | @beta b b' a a' _ _ h1 h2=>
  intro u u' k hu;rw [←zin b' a' u' 0 k (by omega)];exact .beta (h1 (k+1) (zo4 hV hu 0)) (h2 k hu)
theorem z7l:∀ (u:La) (k:Nat) (n:La),Be V (u.lift k) n→∃ n',n=n'.lift k∧Be V u n'
 | .con a b c,k,n,h=>⟨.con a b c,zgw h, .refl _⟩
 | .var x,k,n,h=>by
  rcases zkg h with rfl | h
  · exact ⟨.var x,rfl, .var x⟩
  · exact ⟨n,(hV x n h k).symm, .del h⟩
 | .bv i,k,n,h=>by
  refine ⟨.bv i, ?_, .refl _⟩;rw [La.lift] at h ⊢;split at h
  · rename_i q;rw [if_pos q];exact zhm h
  · rename_i q;rw [if_neg q];exact zhm h
 | .lam b,k,n,h=>by
  obtain ⟨b',rfl,h1⟩:=zby h;obtain ⟨b2,rfl,h2⟩:=z7l b (k+1) b' h1;exact ⟨.lam b2,rfl, .lam h2⟩
 | .app f a,k,n,h=>by
  rcases zbz h with ⟨f',a',rfl,h1,h2⟩ | ⟨s,s',a',e,rfl,h1,h2⟩
  · obtain ⟨f2,rfl,h3⟩:=z7l f k f' h1;obtain ⟨a2,rfl,h4⟩:=z7l a k a' h2;exact ⟨.app f2 a2,rfl, .app h3 h4⟩
  · obtain ⟨a2,rfl,h4⟩:=z7l a k a' h2;obtain ⟨g,hg,h3⟩:=z7l f k (.lam s') (by rw [e];exact .lam h1);cases f with
    | con _ _ _=>cases e
    | var _=>cases e
    | app _ _=>cases e
    | bv i=>rw [La.lift] at e;split at e<;>cases e
    | lam w=>
     obtain ⟨w',rfl,h5⟩:=zby h3;rw [La.lift] at hg;injection hg with hg
     subst hg;exact ⟨w'.sub a2 0,(za5 w' a2 k 0 (by omega)).symm, .beta h5 h4⟩
theorem zwg {u n:La}(h:Be V (.app (u.lift 0) (.bv 0)) n):(∃ u',n= .app (u'.lift 0) (.bv 0)∧Be V u u')∨∃ w,u= .lam w∧Be V w n:=by
 rcases zbz h with ⟨f',a',rfl,h1,h2⟩ | ⟨s,s',a',e,rfl,h1,h2⟩
 · obtain ⟨u',rfl,h3⟩:=z7l hV u 0 f' h1;rw [zhm h2];exact .inl ⟨u',rfl,h3⟩
 · rw [zhm h2];cases u with
   | con _ _ _=>cases e
   | var _=>cases e
   | app _ _=>cases e
   | bv i=>rw [La.lift] at e;split at e<;>cases e
   | lam w=>
    rw [La.lift] at e;injection e with e
    subst e;obtain ⟨w',rfl,h3⟩:=z7l hV w 1 s' h1;rw [sub_lift_bv w' 0];exact .inr ⟨w,rfl,h3⟩
theorem zfk:∀ (m:Nat) (M N P:La),M.size≤m→Be V M N→Et M P→∃ Q,Et N Q∧Be V P Q
 | 0,M,_,_,hm,_,_=>by cases M<;>simp only [La.size] at hm<;>omega
 | m+1,M,N,P,hm,hb,he=>by
  cases M with
  | con a b c=>rw [zgw hb,zg2 he];exact ⟨_, .refl _, .refl _⟩
  | bv i=>rw [zhm hb,zme he];exact ⟨_, .refl _, .refl _⟩
  | var x=>rw [zh3 he];exact ⟨N, .refl _,hb⟩
  | lam b=>
   simp only [La.size] at hm;obtain ⟨b1,rfl,h1⟩:=zby hb;rcases zea he with ⟨b2,rfl,h2⟩ | ⟨u,rfl,h2⟩
   · obtain ⟨q,q1,q2⟩:=zfk m b b1 b2 (by omega) h1 h2;exact ⟨.lam q, .lam q1, .lam q2⟩
   · simp only [La.size,z48] at hm;rcases zwg hV h1 with ⟨u',rfl,h3⟩ | ⟨w,rfl,h3⟩
     · obtain ⟨q,q1,q2⟩:=zfk m u u' P (by omega) h3 h2;exact ⟨q, .eta q1,q2⟩
     · exact zfk m (.lam w) (.lam b1) P (by omega) (.lam h3) h2
  | app f a=>
   simp only [La.size] at hm;obtain ⟨f2,a2,rfl,e1,e2⟩:=zds he;rcases zbz hb with ⟨f1,a1,rfl,h1,h2⟩ | ⟨s,s1,a1,rfl,rfl,h1,h2⟩
   · obtain ⟨q,q1,q2⟩:=zfk m f f1 f2 (by omega) h1 e1;obtain ⟨r,r1,r2⟩:=zfk m a a1 a2 (by omega) h2 e2;exact ⟨.app q r, .app q1 r1, .app q2 r2⟩
   · simp only [La.size] at hm;rcases zea e1 with ⟨s2,rfl,e3⟩ | ⟨u,rfl,e3⟩
     · obtain ⟨q,q1,q2⟩:=zfk m s s1 s2 (by omega) h1 e3;obtain ⟨r,r1,r2⟩:=zfk m a a1 a2 (by omega) h2 e2;exact ⟨q.sub r 0,et_sub q1 0 r1, .beta q2 r2⟩
     · simp only [La.size,z48] at hm
       have hM:Be V (.app u a) (s1.sub a1 0):=by
        rcases zwg hV h1 with ⟨u',rfl,h3⟩ | ⟨w,rfl,h3⟩
        · rw [La.sub,sub_lift,La.sub,if_neg (by omega),if_pos rfl];exact .app h3 h2
        · exact .beta h3 h2
       exact zfk m (.app u a) _ _ (by simp only [La.size];omega) hM (.app e3 e2)
theorem zfi:∀ (m:Nat) (M N P:La),M.size≤m→Be V M N→Be V M P→∃ Q,Be V N Q∧Be V P Q
 | 0,M,_,_,hm,_,_=>by cases M<;>simp only [La.size] at hm<;>omega
 | m+1,M,N,P,hm,hb,he=>by
  cases M with
  | con a b c=>rw [zgw hb,zgw he];exact ⟨_, .refl _, .refl _⟩
  | bv i=>rw [zhm hb,zhm he];exact ⟨_, .refl _, .refl _⟩
  | var x=>
   rcases zkg hb with rfl | h1
   · exact ⟨P,he, .refl _⟩
   · rcases zkg he with rfl | h2
     · exact ⟨N, .refl _,hb⟩
     · rw [h1] at h2;injection h2 with h2;subst h2;exact ⟨N, .refl _, .refl _⟩
  | lam b=>
   simp only [La.size] at hm;obtain ⟨b1,rfl,h1⟩:=zby hb;obtain ⟨b2,rfl,h2⟩:=zby he;obtain ⟨q,q1,q2⟩:=zfi m b b1 b2 (by omega) h1 h2;exact ⟨.lam q, .lam q1, .lam q2⟩
  | app f a=>
   simp only [La.size] at hm;rcases zbz hb with ⟨f1,a1,rfl,h1,h2⟩ | ⟨s,s1,a1,rfl,rfl,h1,h2⟩
   · rcases zbz he with ⟨f2,a2,rfl,e1,e2⟩ | ⟨s,s2,a2,rfl,rfl,e1,e2⟩
     · obtain ⟨q,q1,q2⟩:=zfi m f f1 f2 (by omega) h1 e1;obtain ⟨r,r1,r2⟩:=zfi m a a1 a2 (by omega) h2 e2;exact ⟨.app q r, .app q1 r1, .app q2 r2⟩
     · obtain ⟨r,r1,r2⟩:=zfi m a a1 a2 (by omega) h2 e2;obtain ⟨s1,rfl,h3⟩:=zby h1;simp only [La.size] at hm;obtain ⟨q,q1,q2⟩:=zfi m s s1 s2 (by omega) h3 e1;exact ⟨q.sub r 0, .beta q1 r1,zpk hV q2 0 r2⟩
   · simp only [La.size] at hm;rcases zbz he with ⟨f2,a2,rfl,e1,e2⟩ | ⟨s',s2,a2,e,rfl,e1,e2⟩
     · obtain ⟨r,r1,r2⟩:=zfi m a a1 a2 (by omega) h2 e2;obtain ⟨s2,rfl,e3⟩:=zby e1;obtain ⟨q,q1,q2⟩:=zfi m s s1 s2 (by omega) h1 e3;exact ⟨q.sub r 0,zpk hV q1 0 r1, .beta q2 r2⟩
     · injection e with e
       subst e;obtain ⟨r,r1,r2⟩:=zfi m a a1 a2 (by omega) h2 e2;obtain ⟨q,q1,q2⟩:=zfi m s s1 s2 (by omega) h1 e1;exact ⟨q.sub r 0,zpk hV q1 0 r1,zpk hV q2 0 r2⟩
omit hV in
theorem zu7 {u n:La}(h:Et (.app (u.lift 0) (.bv 0)) n):∃ u',n= .app (u'.lift 0) (.bv 0)∧Et u u':=by
 obtain ⟨f',a',rfl,h1,h2⟩:=zds h;obtain ⟨u',rfl,h3⟩:=zbe u.size u 0 f' (Nat.le_refl _) h1;rw [zme h2];exact ⟨u',rfl,h3⟩
omit hV in
theorem zo3:∀ (m:Nat) (M N P:La),M.size≤m→Et M N→Et M P→∃ Q,Et N Q∧Et P Q
 | 0,M,_,_,hm,_,_=>by cases M<;>simp only [La.size] at hm<;>omega
 | m+1,M,N,P,hm,hb,he=>by
  cases M with
  | con a b c=>rw [zg2 hb,zg2 he];exact ⟨_, .refl _, .refl _⟩
  | bv i=>rw [zme hb,zme he];exact ⟨_, .refl _, .refl _⟩
  | var x=>rw [zh3 hb,zh3 he];exact ⟨_, .refl _, .refl _⟩
  | lam b=>
   simp only [La.size] at hm;rcases zea hb with ⟨b1,rfl,h1⟩ | ⟨u,rfl,h1⟩
   · rcases zea he with ⟨b2,rfl,h2⟩ | ⟨u,rfl,h2⟩
     · obtain ⟨q,q1,q2⟩:=zo3 m b b1 b2 (by omega) h1 h2;exact ⟨.lam q, .lam q1, .lam q2⟩
     · simp only [La.size,z48] at hm;obtain ⟨u',rfl,h3⟩:=zu7 h1;obtain ⟨q,q1,q2⟩:=zo3 m u u' P (by omega) h3 h2;exact ⟨q, .eta q1,q2⟩
   · simp only [La.size,z48] at hm;rcases zea he with ⟨b2,rfl,h2⟩ | ⟨u2,e,h2⟩
     · obtain ⟨u',rfl,h3⟩:=zu7 h2;obtain ⟨q,q1,q2⟩:=zo3 m u N u' (by omega) h1 h3;exact ⟨q,q1, .eta q2⟩
     · injection e with e _
       have e:=lift_inj e;subst e;exact zo3 m u N P (by omega) h1 h2
  | app f a=>
   simp only [La.size] at hm;obtain ⟨f1,a1,rfl,h1,h2⟩:=zds hb;obtain ⟨f2,a2,rfl,e1,e2⟩:=zds he;obtain ⟨q,q1,q2⟩:=zo3 m f f1 f2 (by omega) h1 e1;obtain ⟨r,r1,r2⟩:=zo3 m a a1 a2 (by omega) h2 e2;exact ⟨.app q r, .app q1 r1, .app q2 r2⟩
end
def St1 (V:Int→Option La)(a b:La):Prop:=Be V a b∨Et a b
inductive Sts (V:Int→Option La):La→La→Prop
 | refl (a:La):Sts V a a
 | step {a b c:La}:St1 V a b→Sts V b c→Sts V a c
section
variable {V:Int→Option La}
theorem Sts.trans {a b c:La}(h1:Sts V a b)(h2:Sts V b c):Sts V a c:=by
 induction h1 with
 | refl=>exact h2
 | step h _ ih=>exact .step h (ih h2)
theorem Sts.one {a b:La}(h:St1 V a b):Sts V a b:= .step h (.refl _)
variable (hV:ClV V)
include hV
theorem st_dia {M N P:La}(h1:St1 V M N)(h2:St1 V M P):∃ Q,St1 V N Q∧St1 V P Q:=by
 rcases h1 with h1 | h1<;>rcases h2 with h2 | h2
 · obtain ⟨q,q1,q2⟩:=zfi hV _ M N P (Nat.le_refl _) h1 h2;exact ⟨q, .inl q1, .inl q2⟩
 · obtain ⟨q,q1,q2⟩:=zfk hV _ M N P (Nat.le_refl _) h1 h2;exact ⟨q, .inr q1, .inl q2⟩
 · obtain ⟨q,q1,q2⟩:=zfk hV _ M P N (Nat.le_refl _) h2 h1;exact ⟨q, .inl q2, .inr q1⟩
 · obtain ⟨q,q1,q2⟩:=zo3 _ M N P (Nat.le_refl _) h1 h2;exact ⟨q, .inr q1, .inr q2⟩
theorem st_strip {M N:La}(h1:Sts V M N):∀ {P:La},St1 V M P→∃ Q,St1 V N Q∧Sts V P Q:=by
 induction h1 with
 | refl a=>intro P h;exact ⟨P,h, .refl _⟩
 | step h _ ih=>
  intro P hp;obtain ⟨q,q1,q2⟩:=st_dia hV h hp;obtain ⟨r,r1,r2⟩:=ih q1;exact ⟨r,r1, .step q2 r2⟩
theorem st_cr {M N:La}(h1:Sts V M N):∀ {P:La},Sts V M P→∃ Q,Sts V N Q∧Sts V P Q:=by
 intro P h2
 induction h2 generalizing N with
 | refl a=>exact ⟨N, .refl _,h1⟩
 | step h _ ih=>
  obtain ⟨q,q1,q2⟩:=st_strip hV h1 h;obtain ⟨r,r1,r2⟩:=ih q2;exact ⟨r, .step q1 r1,r2⟩
end
def Eqv (V:Int→Option La)(a b:La):Prop:=∃ c,Sts V a c∧Sts V b c
theorem Eqv.refl {V:Int→Option La}(a:La):Eqv V a a:=⟨a, .refl _, .refl _⟩
theorem Eqv.symm {V:Int→Option La}{a b:La}(h:Eqv V a b):Eqv V b a:=let ⟨c,h1,h2⟩:=h;⟨c,h2,h1⟩
theorem Eqv.trans {V:Int→Option La}(hV:ClV V){a b c:La}(h1:Eqv V a b)(h2:Eqv V b c):Eqv V a c:=by
 obtain ⟨x,x1,x2⟩:=h1;obtain ⟨y,y1,y2⟩:=h2;obtain ⟨z,z1,z2⟩:=st_cr hV x2 y1;exact ⟨z,x1.trans z1,y2.trans z2⟩
theorem Eqv.of {V:Int→Option La}{a b:La}(h:Sts V a b):Eqv V a b:=⟨b,h, .refl _⟩
def NfL (V:Int→Option La)(a:La):Prop:=∀ b,St1 V a b→b=a
theorem NfL.sts {V:Int→Option La}{a b:La}(h:NfL V a)(hs:Sts V a b):b=a:=by
 induction hs with
 | refl=>rfl
 | step h1 _ ih=>have:=h _ h1;subst this;exact ih h
theorem Eqv.nf {V:Int→Option La}{a b:La}(h:Eqv V a b)(ha:NfL V a)(hb:NfL V b):a=b:=by
 obtain ⟨c,h1,h2⟩:=h;rw [←ha.sts h1,←hb.sts h2]
theorem Sts.lam {V:Int→Option La}{a b:La}(h:Sts V a b):Sts V (.lam a) (.lam b):=by
 induction h with
 | refl=>exact .refl _
 | step h _ ih=>exact .step (h.imp .lam .lam) ih
theorem Sts.appL {V:Int→Option La}{a b:La}(h:Sts V a b)(c:La):Sts V (.app a c) (.app b c):=by
 induction h with
 | refl=>exact .refl _
 | step h _ ih=>exact .step (h.imp (fun h=> .app h (.refl _)) (fun h=> .app h (.refl _))) ih
theorem Sts.appR {V:Int→Option La}(c:La){a b:La}(h:Sts V a b):Sts V (.app c a) (.app c b):=by
 induction h with
 | refl=>exact .refl _
 | step h _ ih=>exact .step (h.imp (fun h=> .app (.refl _) h) (fun h=> .app (.refl _) h)) ih
theorem Sts.app {V:Int→Option La}{f f' a a':La}(h1:Sts V f f')(h2:Sts V a a'):Sts V (.app f a) (.app f' a'):=(h1.appL a).trans (h2.appR f')
theorem Eqv.lam {V:Int→Option La}{a b:La}(h:Eqv V a b):Eqv V (.lam a) (.lam b):=let ⟨c,h1,h2⟩:=h;⟨.lam c,h1.lam,h2.lam⟩
theorem Eqv.app {V:Int→Option La}{f f' a a':La}(h1:Eqv V f f')(h2:Eqv V a a'):Eqv V (.app f a) (.app f' a'):=by
 obtain ⟨c,c1,c2⟩:=h1;obtain ⟨d,d1,d2⟩:=h2;exact ⟨.app c d,c1.app d1,c2.app d2⟩
theorem Sts.beta {V:Int→Option La}(b a:La):Sts V (.app (.lam b) a) (b.sub a 0):= .one (.inl (.beta (.refl _) (.refl _)))
theorem Sts.eta {V:Int→Option La}(u:La):Sts V (.lam (.app (u.lift 0) (.bv 0))) u:= .one (.inr (.eta (.refl _)))
theorem Sts.del {V:Int→Option La}{x:Int}{v:La}(h:V x=some v):Sts V (.var x) v:= .one (.inl (.del h))
end Go.AM

set_option maxRecDepth 100000
open Go Go.Proofs
namespace Go.AM
def z8s (t:Tm):FV:=if t.inner=true then .sl false 4 (FTs t.l) else .N
theorem zjj (t:Tm):(z8s t).ses=FTs t.kids∧(z8s t).L 4=true:=by
 unfold z8s Tm.kids;split<;>exact ⟨rfl,rfl⟩
theorem zcq (t:Tm):AC Tryz.prog 69 [aT t] [] (.tup [(false,[.a (.fz (z8s t))]),(false,[.a (.fz (.int .i64 t.by))])]) []:=by
 obtain ⟨k,s,n,l⟩:=t;refine AC.vc hP sh lv69 (Nat.le_refl _) (by simp) (by simp) (Eq.mpr (v69 k s n (FTs l) _ _) ?_);refine z00 (fun h=>⟨?_,rfl⟩) (fun h=>z00 (fun h2=>⟨?_,rfl⟩) (fun h2=>⟨?_,rfl⟩))
 · have e1:z8s (.mk k s n l)= .sl false 4 (FTs l):=by unfold z8s Tm.inner;simp only [Tm.k,h,Bool.true_or,if_true,Tm.l]
   have e2:Tm.by (.mk k s n l)=1:=by unfold Tm.by;simp only [Tm.k,h,if_true]
   rw [e1,e2];exact .refl _
 · have e1:z8s (.mk k s n l)= .sl false 4 (FTs l):=by unfold z8s Tm.inner;simp only [Tm.k,h2,Bool.or_true,if_true,Tm.l]
   have e2:Tm.by (.mk k s n l)=0:=by unfold Tm.by;simp only [Tm.k,h,Bool.false_eq_true,if_false]
   rw [e1,e2];exact .refl _
 · have e1:z8s (.mk k s n l)= .N:=by unfold z8s Tm.inner;simp only [Tm.k,h,h2,Bool.or_self,Bool.false_eq_true,if_false]
   have e2:Tm.by (.mk k s n l)=0:=by unfold Tm.by;simp only [Tm.k,h,Bool.false_eq_true,if_false]
   rw [e1,e2];exact .refl _
mutual
def z44:Tm→Nat
 | .mk k _ _ l=>1+if (k==5||k==6)=true then z96 l else 0
def z96:List Tm→Nat
 | []=>0
 | t::l=>z44 t+z96 l
end
theorem sizeF_eq (t:Tm):z44 t=1+z96 t.kids:=by
 obtain ⟨k,s,n,l⟩:=t;by_cases h:(k==5||k==6)=true
 · rw [show Tm.kids (.mk k s n l)=l from if_pos h,z44,if_pos h]
 · rw [show Tm.kids (.mk k s n l)=[] from if_neg h,z44,if_neg h];rfl
mutual
theorem zco:∀ t:Tm,z44 t≤t.sz
 | .mk k s n l=>by have:=zpw l;simp only [z44,Tm.sz];split<;>omega
theorem zpw:∀ l:List Tm,z96 l≤Tm.szs l
 | []=>Nat.le_refl _
 | t::l=>by have:=zco t;have:=zpw l;simp only [z96,Tm.szs];omega
end
theorem l_size:∀ (b a:List Tm) (v:FV) (acc:Nat),v.ses=FTs (a++b)→v.L 4=true→(∀ u∈b,AC Tryz.prog 110 [aT u] [] (ci (z44 u)) [])→(a++b).length≤B→acc+z96 b≤2*B→
  RPt Tryz.prog 110 0 (ci ((acc+z96 b:Nat):Int)) [] 1 ⟨[(3,ci acc),(13, .c (.a (.fz v))),(14,ci (a++b).length),(15,ci a.length)],[],0⟩
 | [],a,v,acc,hv,hs,_,hl,ha=>by
  refine RPt.vc hP sh zxr (Eq.mpr (zw ..) ?_);exact z00 (fun h=>absurd (of_decide_eq_true h) (by simp)) (fun _=>z3n (by simp [z96]))
 | t::b,a,v,acc,hv,hs,ih,hl,ha=>by
  refine RPt.vc hP sh zxr (Eq.mpr (zw ..) ?_);have hl':=hl;simp only [List.length_append,List.length_cons,B] at hl';simp only [z96,B] at ha;have h1:=ih t List.mem_cons_self;have h2:=l_size b (a++ [t]) v (acc+z44 t) (by rw [ap];exact hv) hs (fun u hu=>ih u (List.mem_cons_of_mem _ hu)) (by rw [ap];exact hl) (by simp only [B];omega);have h3:=ltI' a t b;rw [ap,nx] at h2;rw [hv,midI,w64 (x:=(a.length:Int)+1) (by omega) (by omega)];refine z00 (fun _=> ?_) (fun h=>absurd (ltI a t b) (of_decide_eq_false h));rw [show acc+z96 (t::b)=acc+z44 t+z96 b by simp only [z96];omega];obtain ⟨k',s',n',l'⟩:=t;refine ⟨⟨hs,by omega,h3,rfl⟩,_,h1, ?_⟩;rw [w64 (by omega) (by omega),show (acc:Int)+((z44 (.mk k' s' n' l'):Nat):Int)=((acc+z44 (.mk k' s' n' l'):Nat):Int) by omega];exact h2
theorem c_size:∀ t:Tm,t.sz≤B→AC Tryz.prog 110 [aT t] [] (ci (z44 t)) []:=by
 refine Tm.ind fun t ih hs=> ?_;have hw:=zcq t;have hk:=zjj t;have hsz:=sizeF_eq t;have hle:=zco t
 have hkl:t.kids.length≤B∧(∀ u∈t.kids,u∈t.l):=by
  have:=Tm.szs_length t.l;rw [Tm.sz_eq] at hs;unfold Tm.kids;split
  · exact ⟨by simp only [B] at*;omega,fun u hu=>hu⟩
  · exact ⟨by simp [B],fun u hu=>by simp at hu⟩
 have key:=l_size t.kids [] (z8s t) 1 (by simpa using hk.1) hk.2 (fun u hu=>ih u (hkl.2 u hu) (by have:=Tm.szs_mem (hkl.2 u hu);rw [Tm.sz_eq] at hs;simp only [B] at*;omega)) (by simpa using hkl.1) (by simp only [B] at*;omega);refine AC.vc hP sh zxr (Nat.le_refl _) (by simp) (by simp) (Eq.mpr (v110 ..) ?_);refine ⟨_,_,hw,hk.2, ?_⟩;rw [hk.1,hsz,lenI];simpa using key
mutual
def bd (M:Int):Tm→Prop
 | .mk k _ n l=>(k=3→0-M≤n∧n≤M)∧bds M l
def bds (M:Int):List Tm→Prop
 | []=>True
 | t::l=>bd M t∧bds M l
end
theorem z3e {M:Int}:∀ {l:List Tm} {t:Tm},bds M l→t∈l→bd M t
 | x::l,t,h,ht=>by
  rcases List.mem_cons.1 ht with rfl | ht
  · exact h.1
  · exact z3e h.2 ht
theorem bd_l {M:Int}{t:Tm}(h:bd M t):bds M t.l:=by cases t;exact h.2
def maxI (a b:Int):Int:=if a≤b then b else a
theorem zci (a b:Int):z0g [a,b]=maxI a b:=by
 simp only [z0g,List.foldl,maxI,max]
mutual
def z1v:Tm→Int→Int→Int
 | .mk kd _ n l,k,acc=>if (kd==5)=true then z4r l (k+1) acc else if (kd==6)=true then z4r l k acc else if (kd==3)=true then maxI acc (n-k+1) else acc
def z4r:List Tm→Int→Int→Int
 | [],_,acc=>acc
 | t::l,k,acc=>z4r l k (z1v t k acc)
end
abbrev obj1 (n:Int):AObj:= .arr 1 [[.a (.fz (.int .i64 n))]]
theorem c_loose1 (u:Tm)(k acc:Int)(hb:u.k=3→0-2305843009213693952≤u.n∧u.n≤2305843009213693952)(h0:0≤k)(h1:k≤2305843009213693952):
  AC Tryz.prog 52 [aT u,ci k, .c (.a (.ep 0 1 0 0))] [obj1 acc] (.tup []) [obj1 (if (u.k==3)=true then maxI acc (u.n-k+1) else acc)]:=by
 obtain ⟨kd,s,n,l⟩:=u;simp only [Tm.k,Tm.n] at hb;refine AC.vc hP sh lv52 (Nat.le_refl _) (by simp [isLive]) (by simp) (Eq.mpr (v52 kd s n (FTs l) k acc _ _) ?_);refine z00 (fun h=>⟨.refl _, ?_⟩) (fun h=>⟨.refl _, ?_⟩)
 · have hk:kd=3:=by simpa using h
   have:=hb hk;rw [w64 (x:=n-k) (by omega) (by omega),w64 (x:=n-k+1) (by omega) (by omega),zci];simp only [Tm.k,Tm.n,h,if_true]
 · simp only [Tm.k,h,Bool.false_eq_true,if_false]
abbrev tellL:TV:= .c (.fn (.func 52) [] [(false,[.ep 0 1 0 0])])
theorem l_each (k by_:Int)(h0:0≤k)(hby:0≤by_)(hby1:by_≤1):∀ (b a:List Tm) (v:FV) (acc:Int),v.ses=FTs (a++b)→v.L 4=true→
  (∀ u∈b,∀ acc,AC Tryz.prog 51 [aT u,ci (k+by_),tellL] [obj1 acc] (.tup []) [obj1 (z1v u (k+by_) acc)])→(a++b).length≤B→k≤2305843009213693952→
  RPt Tryz.prog 51 1 (.tup []) [obj1 (z4r b (k+by_) acc)] 1 ⟨[(1,ci k),(2,tellL),(7,ci by_),(27, .c (.a (.fz v))),(28,ci (a++b).length),(29,ci a.length)],[(0,obj1 acc)],1⟩
 | [],a,v,acc,hv,hs,_,hl,hk=>by
  refine RPt.vc hP sh lv51 (Eq.mpr (zgd ..) ?_);exact z00 (fun h=>absurd (of_decide_eq_true h) (by simp)) (fun _=>⟨.refl _,rfl⟩)
 | t::b,a,v,acc,hv,hs,ih,hl,hk=>by
  refine RPt.vc hP sh lv51 (Eq.mpr (zgd ..) ?_);have hl':=hl;simp only [List.length_append,List.length_cons,B] at hl';have h1:=ih t List.mem_cons_self acc;have h2:=l_each k by_ h0 hby hby1 b (a++ [t]) v (z1v t (k+by_) acc) (by rw [ap];exact hv) hs (fun u hu=>ih u (List.mem_cons_of_mem _ hu)) (by rw [ap];exact hl) hk;have h3:=ltI' a t b;rw [ap,nx] at h2;rw [hv,midI,w64 (x:=(a.length:Int)+1) (by omega) (by omega),w64 (x:=k+by_) (by omega) (by omega)];refine z00 (fun _=> ?_) (fun h=>absurd (ltI a t b) (of_decide_eq_false h));obtain ⟨k',s',n',l'⟩:=t;exact ⟨⟨hs,by omega,h3,rfl⟩, .inl ⟨_,h1,h2⟩⟩
theorem c_each:∀ t:Tm,t.sz≤B→bd 2305843009213693952 t→∀ k acc:Int,0≤k→k+t.sz≤2305843009213693952→AC Tryz.prog 51 [aT t,ci k,tellL] [obj1 acc] (.tup []) [obj1 (z1v t k acc)]:=by
 refine Tm.ind fun t ih hs hb k acc h0 h1=> ?_;have hw:=zcq t;have hk:=zjj t;have hlen:=Tm.szs_length t.l;obtain ⟨kd,s,n,l⟩:=t;simp only [Tm.sz,B,Tm.l] at hs hlen;simp only [Tm.sz] at h1
 have key:∀ by_:Int,0≤by_→by_≤1→Tm.kids (.mk kd s n l)=l→RPt Tryz.prog 51 1 (.tup []) [obj1 (z4r l (k+by_) acc)] 1 ⟨[(1,ci k),(2,tellL),(7,ci by_),(27, .c (.a (.fz (z8s (.mk kd s n l))))),(28,ci l.length),(29,ci 0)],[(0,obj1 acc)],1⟩:=by
  intro by_ hb0 hb1 hkids;have:=l_each k by_ h0 hb0 hb1 l [] (z8s (.mk kd s n l)) acc (by rw [hk.1,hkids];rfl) hk.2 (fun u hu acc=>ih u hu (by have:=Tm.szs_mem hu;simp only [B];omega) (z3e hb.2 hu) (k+by_) acc (by omega) (by have:=Tm.szs_mem hu;omega)) (by simp only [List.nil_append,B];omega) (by omega);simpa using this
 refine AC.vc hP sh lv51 (Nat.le_refl _) (by simp [isLive]) (by simp) (Eq.mpr (v51_F52 kd s n (FTs l) k acc _ _) ?_);refine z00 (fun h=>z00 (fun h2=>⟨_,c_loose1 (.mk kd s n l) k acc hb.1 h0 (by omega), .refl _, ?_⟩) (fun h2=>⟨_,_,hw,hk.2, ?_⟩)) (fun h=>⟨_,_,hw,hk.2, ?_⟩)
 · have e1:(kd==5)=false:=by simpa using h
   have e2:(kd==6)=false:=by simpa using h2
   simp only [z1v,Tm.k,Tm.n,e1,e2,Bool.false_eq_true,if_false];rfl
 · have e1:(kd==5)=false:=by simpa using h
   have e2:(kd==6)=true:=by simpa using h2
   have ek:Tm.kids (.mk kd s n l)=l:=by unfold Tm.kids Tm.inner;simp only [Tm.k,e2,Bool.or_true,if_true,Tm.l]
   have:=key 0 (by omega) (by omega) ek;rw [hk.1,ek,lenI,show Tm.by (.mk kd s n l)=0 by unfold Tm.by;simp only [Tm.k,e1,Bool.false_eq_true,if_false]];simp only [z1v,e1,e2,Bool.false_eq_true,if_false,if_true];simpa using this
 · have e1:(kd==5)=true:=by simpa using h
   have ek:Tm.kids (.mk kd s n l)=l:=by unfold Tm.kids Tm.inner;simp only [Tm.k,e1,Bool.true_or,if_true,Tm.l]
   have:=key 1 (by omega) (by omega) ek;rw [hk.1,ek,lenI,show Tm.by (.mk kd s n l)=1 by unfold Tm.by;simp only [Tm.k,e1,if_true]];simp only [z1v,e1,if_true];exact this
theorem c_loose (t:Tm)(hs:t.sz≤B)(hb:bd 2305843009213693952 t):AC Tryz.prog 35 [aT t] [] (ci (z1v t 0 0)) []:=by
 have h:=c_each t hs hb 0 0 (Int.le_refl _) (by simp only [B] at hs;omega);refine AC.vc hP sh lv35 (Nat.le_refl _) (by simp) (by simp) (Eq.mpr (v35 ..) ?_);exact .inl ⟨_,h,z3n rfl⟩
end Go.AM

set_option maxRecDepth 100000
open Go Go.Proofs
namespace Go.AM
theorem c_grow (n:Int)(h0:0≤n)(h1:n≤2199023255552):(n=0→AC Tryz.prog 45 [.c (.a (.fz .N)),ci n] [] (.c (.a (.fz .N))) [])∧
  (n≠0→AC Tryz.prog 45 [.c (.a (.fz .N)),ci n] [] (.c (.a (.osl 0 4 0 0))) [.arz 4 []]):=by
 constructor
 · intro hn;refine AC.vc hP sh lv45 (Nat.le_refl _) (by simp) (by simp) (Eq.mpr (v45 ..) ?_);refine z00 (fun h=>absurd (of_decide_eq_true h) (by omega)) (fun _=>⟨rfl,z00 (fun h=> ?_) (fun _=>zll (.refl _))⟩);rw [w64 (by omega) (by omega)] at h;exact absurd (of_decide_eq_true h) (by omega)
 · intro hn;refine AC.vc hP sh lv45 (by simp) (by simp) (by simp [isLive]) (Eq.mpr (v45 ..) ?_);rw [w64 (by omega) (by omega)];refine z00 (fun h=>absurd (of_decide_eq_true h) (by omega)) (fun _=>⟨rfl,z00 (fun h=>⟨rfl,⟨by omega,by omega,by omega⟩,⟨by omega,by unfold z0u;omega⟩,rfl,⟨by omega,by omega,by omega⟩, .refl _,rfl⟩) (fun h=>absurd (of_decide_eq_false h) (by omega))⟩)
def FLs (ls:List (List Tm)):List (List FV):=ls.map fun l=> [.sl false 4 (FTs l)]
def z56 (ls:List (List Tm)):Nat:=(ls.map List.length).foldr (· + ·) 0
theorem zay (ls:List (List Tm)):(FLs ls).length=ls.length:=by simp [FLs]
theorem midL (a:List (List Tm))(l:List Tm)(b:List (List Tm)):List.getD (FLs (a++l::b)) (Int.toNat (a.length:Int)) []=[.sl false 4 (FTs l)]:=by
 rw [show Int.toNat (a.length:Int)=a.length by omega];simp [List.getD,FLs]
theorem ltL (a:List (List Tm))(t:List Tm)(b:List (List Tm)):(a.length:Int)<(((FLs (a++t::b)).length:Nat):Int):=by rw [zay];exact ltI a t b
theorem zk6 (a:List (List Tm))(l:List Tm)(b:List (List Tm)):z56 (a++l::b)=z56 a+l.length+z56 b:=by
 induction a with
 | nil=>simp [z56]
 | cons x a ih=>simp only [z56,List.cons_append,List.map_cons,List.foldr_cons] at ih ⊢;omega
theorem zsf (a:List (List Tm))(l:List Tm):z56 (a++ [l])=z56 a+l.length:=by rw [zk6];simp [z56]
abbrev aLs (ls:List (List Tm)):TV:= .c (.a (.fz (.sl false 1 (FLs ls))))
theorem z6g {n:Nat}(h:n≤2199023255552):z0u n 56:=by unfold z0u;omega
theorem zv2:∀ (b a:List (List Tm)) (acc:List Tm),acc.length+z56 b≤2199023255552→(a++b).length≤B→
  RPt Tryz.prog 30 0 (aL (acc++b.flatten)) [] 5 ⟨[(6,(.c (.a (.osl 0 4 0 acc.length)))),(25,aLs (a++b)),(26,ci (a++b).length),(27,ci a.length)],[(0,(.arz 4 (FTs acc)))],1⟩
 | [],a,acc,ht,hl=>by
  refine RPt.vc hP sh lv30 (Eq.mpr (v30_5b ..) ?_);refine z00 (fun h=>absurd (of_decide_eq_true h) (by simp)) (fun _=>⟨⟨rfl,by rw [z01];omega⟩,zll ?_⟩);rw [List.drop_zero,List.take_of_length_le (by rw [z01];omega),List.flatten_nil,List.append_nil];exact le_c leSl
 | l::b,a,acc,ht,hl=>by
  refine RPt.vc hP sh lv30 (Eq.mpr (v30_5b ..) ?_);have hl':=hl;have h3:=ltL a l b;simp only [List.length_append,List.length_cons,B] at hl';have ht':acc.length+(l.length+z56 b)≤2199023255552:=by simpa [z56] using ht
  have h2:=zv2 b (a++ [l]) (acc++l) (by rw [List.length_append];omega) (by rw [ap];exact hl);rw [ap,nx] at h2;rw [midL,w64 (by omega) (by omega)];refine z00 (fun _=>⟨⟨rfl,by omega,h3,rfl⟩,rfl,⟨by rw [z01];omega, ?_⟩, ?_⟩) (fun h=>absurd (ltI a l b) (of_decide_eq_false h))
  · show z0u (acc.length+(FTs l).length) 56;rw [z01];exact z6g (by omega)
  · show RPt _ _ _ _ _ _ ⟨[(6,(.c (.a (.osl 0 4 0 (acc.length+(FTs l).length))))),_,_,_],[(0, .arz 4 (List.take acc.length (FTs acc)++FTs l))],1⟩;rw [List.take_of_length_le (by rw [z01];omega),←z2d,z01,←List.length_append];rw [show acc++(l::b).flatten=acc++l++b.flatten by simp];exact h2
theorem l_cat2:∀ (b a:List (List Tm)),z56 b≤2199023255552→(a++b).length≤B→
  RPt Tryz.prog 30 0 (aL b.flatten) [] 5 ⟨[(6,(.c (.a (.fz .N)))),(25,aLs (a++b)),(26,ci (a++b).length),(27,ci a.length)],[],0⟩
 | [],a,ht,hl=>by
  refine RPt.vc hP sh lv30 (Eq.mpr (v30_5a ..) ?_);refine z00 (fun h=>absurd (of_decide_eq_true h) (by simp)) (fun _=>zll (le_c z0m))
 | l::b,a,ht,hl=>by
  refine RPt.vc hP sh lv30 (Eq.mpr (v30_5a ..) ?_);have hl':=hl;have h3:=ltL a l b;simp only [List.length_append,List.length_cons,B] at hl';have ht':l.length+z56 b≤2199023255552:=by simpa [z56] using ht
  rw [midL,w64 (by omega) (by omega)];refine z00 (fun _=>⟨⟨rfl,by omega,h3,rfl⟩,rfl, ?_⟩) (fun h=>absurd (ltI a l b) (of_decide_eq_false h));show br (List.isEmpty (FTs l)) _ _;refine z00 (fun he=> ?_) (fun he=>⟨?_, ?_⟩)
  · have h2:=l_cat2 b (a++ [l]) (by omega) (by rw [ap];exact hl);rw [ap,nx] at h2
    have hnil:l=[]:=by cases l with
     | nil=>rfl
     | cons x l=>simp [FTs] at he
    rw [show (l::b).flatten=b.flatten by rw [hnil];simp];exact h2
  · show z0u (FTs l).length 56;rw [z01];exact z6g (by omega)
  · have h2:=zv2 b (a++ [l]) l (by omega) (by rw [ap];exact hl);rw [ap,nx] at h2;show RPt _ _ _ _ _ _ ⟨[(6,(.c (.a (.osl 0 4 0 (FTs l).length)))),_,_,_],[(0, .arz 4 (FTs l))],1⟩;rw [z01,List.flatten_cons];exact h2
theorem l_cat1:∀ (b a:List (List Tm)),z56 (a++b)≤2199023255552→(a++b).length≤B→
  RPt Tryz.prog 30 0 (aL (a++b).flatten) [] 1 ⟨[(0,aLs (a++b)),(3,ci (z56 a)),(9,aLs (a++b)),(10,ci (a++b).length),(11,ci a.length)],[],0⟩
 | [],a,ht,hl=>by
  refine RPt.vc hP sh lv30 (Eq.mpr (v30_1a ..) ?_);have hg:=c_grow (z56 a:Int) (by omega) (by simp only [List.append_nil] at ht;omega);refine z00 (fun h=>absurd (of_decide_eq_true h) (by simp)) (fun _=> ?_);have e:(((FLs (a++ [])).length:Nat):Int)=(((a++ []).length:Nat):Int):=by rw [zay]
  rw [e];by_cases hz:z56 a=0
  · have h2:=l_cat2 (a++ []) [] (by simpa using ht) (by simpa using hl);exact .inl ⟨(),hg.1 (by omega),rfl,by simpa using h2⟩
  · have h2:=zv2 (a++ []) [] [] (by simpa using ht) (by simpa using hl);exact .inr ⟨(),hg.2 (by omega),rfl,by simpa [FTs] using h2⟩
 | l::b,a,ht,hl=>by
  refine RPt.vc hP sh lv30 (Eq.mpr (v30_1a ..) ?_);have hl':=hl;have ht':=ht;have h3:=ltL a l b;rw [zk6] at ht';simp only [List.length_append,List.length_cons,B] at hl';have h2:=l_cat1 b (a++ [l]) (by rw [ap];exact ht) (by rw [ap];exact hl);rw [ap,nx,zsf] at h2;rw [midL,w64 (x:=(a.length:Int)+1) (by omega) (by omega)];refine z00 (fun _=>⟨⟨rfl,by omega,h3,rfl⟩,rfl, ?_⟩) (fun h=>absurd (ltI a l b) (of_decide_eq_false h));show br (decide (IntKind.wrap .i64 ((z56 a:Int)+(((FTs l).length:Nat):Int))<0)) _ (RPt _ _ _ _ _ _ ⟨[_,(3,ci (IntKind.wrap .i64 ((z56 a:Int)+(((FTs l).length:Nat):Int)))),_,_,_],_,_⟩);rw [z01,w64 (by omega) (by omega)];refine z00 (fun h=>absurd (of_decide_eq_true h) (by omega)) (fun _=> ?_);simpa using h2
theorem c_concat (ls:List (List Tm))(ht:z56 ls≤2199023255552)(hl:ls.length≤B):AC Tryz.prog 30 [aLs ls] [] (aL ls.flatten) []:=by
 refine AC.vc hP sh lv30 (Nat.le_refl _) (by simp) (by simp) (Eq.mpr (v30 ..) ?_);have:=l_cat1 ls [] (by simpa using ht) (by simpa using hl);have e:(((FLs ls).length:Nat):Int)=((ls.length:Nat):Int):=by rw [zay]
 rw [e];exact ⟨rfl,by simpa [z56] using this⟩
theorem zdg {x y:FV}{l m:List Tm}(hx:FV.Le x (.sl false 4 (FTs l)))(hy:FV.Le y (.sl false 4 (FTs m)))(ht:l.length+m.length≤2199023255552):AC Tryz.prog 30 [.c (.a (.fz (.sl false 1 [[x],[y]])))] [] (aL (l++m)) []:=by
 have h:=c_concat [l,m] (by simpa [z56] using ht) (by simp [B]);rw [show [l,m].flatten=l++m by simp] at h;refine h.args ⟨le_c (.trans _ _ _ (.rows false 1 _ (FLs [l,m]) rfl (fun i e e' he he'=> ?_) (fun i j e e' f f' he he' hf hf'=> ?_)) (.nn _ _ _)),trivial⟩
 · match i,he,he' with
   | 0,he,he'=>simp [FLs] at he he';subst he;subst he';rfl
   | 1,he,he'=>simp [FLs] at he he';subst he;subst he';rfl
   | i+2,he,he'=>simp at he
 · match i,he,he' with
   | 0,he,he'=>
    simp [FLs] at he he';subst he;subst he'
    match j,hf,hf' with
    | 0,hf,hf'=>simp at hf hf';subst hf;subst hf';exact hx
    | j+1,hf,hf'=>simp at hf
   | 1,he,he'=>
    simp [FLs] at he he';subst he;subst he'
    match j,hf,hf' with
    | 0,hf,hf'=>simp at hf hf';subst hf;subst hf';exact hy
    | j+1,hf,hf'=>simp at hf
   | i+2,he,he'=>simp at he
def z09 (f:Tm)(args:List Tm):Tm:=
 match args with
 | []=>f
 | _=>if (f.k==6)=true∧f.l ≠ [] then .mk 6 [] 0 (f.l++args) else .mk 6 [] 0 (f::args)
theorem z46 (f:Tm)(args:List Tm)(h:f.l.length+args.length<2199023255552):AC Tryz.prog 15 [aT f,aL args] [] (aT (z09 f args)) []:=by
 obtain ⟨k,s,n,l⟩:=f;simp only [Tm.l] at h;refine AC.vc hP sh lv15 (Nat.le_refl _) (by simp) (by simp) (Eq.mpr (v15 k s n (FTs l) (FTs args) _ _) ?_);refine ⟨rfl,z00 (fun h1=> ?_) (fun h1=> ?_)⟩
 · have:args=[]:=by cases args with
    | nil=>rfl
    | cons x l=>simp [FTs] at h1;omega
   subst this;exact zll (.refl _)
 · match args,h1,h with
   | [],h1,_=>simp [FTs] at h1
   | a::r,h1,h=>
    have one:FV.Le (.sl false 4 [[.int .i64 k, .str s, .int .i64 n, .sl false 4 (FTs l)]]) (.sl false 4 (FTs [.mk k s n l])):= .nn _ _ _;have same:∀ l:List Tm,FV.Le (.sl false 4 (FTs l)) (.sl false 4 (FTs l)):=fun _=> .refl _
    refine z00 (fun h2=>⟨rfl,z00 (fun h3=>⟨⟨rfl,by omega⟩,_,zdg (same l) (same (a::r)) (by omega),zll ?_⟩) (fun h3=>⟨⟨rfl,by omega⟩,⟨rfl,by omega⟩,_,zdg one (same (a::r)) (by simp only [List.length_cons,List.length_nil] at h ⊢;omega),zll ?_⟩)⟩)
     (fun h2=>⟨⟨rfl,by omega⟩,⟨rfl,by omega⟩,_,zdg one (same (a::r)) (by simp only [List.length_cons,List.length_nil] at h ⊢;omega),zll ?_⟩)
    · have hl:l ≠ []:=by intro e;subst e;simp [FTs] at h3
      rw [show z09 (.mk k s n l) (a::r)= .mk 6 [] 0 (l++a::r) from if_pos ⟨h2,hl⟩];exact .refl _
    · have hl:l=[]:=by cases l with
       | nil=>rfl
       | cons x l=>simp [FTs] at h3
      rw [show z09 (.mk k s n l) (a::r)= .mk 6 [] 0 (.mk k s n l::a::r) from if_neg (fun e=>e.2 hl)];exact .refl _
    · rw [show z09 (.mk k s n l) (a::r)= .mk 6 [] 0 (.mk k s n l::a::r) from if_neg (fun e=>by have:=e.1;simp only [Tm.k,h2] at this;cases this)];exact .refl _
end Go.AM

set_option maxRecDepth 100000
open Go Go.Proofs
namespace Go.AM
def z33 (t:Tm)(out:List Tm):Tm:=
 if (t.k==6)=true∧1<out.length∧((out.headD default).k==6)=true∧((t.l.headD default).k !=6)=true then z09 (out.headD default) out.tail else .mk t.k t.s t.n out
mutual
def z0l (lf:Tm→Int→Tm):Tm→Int→Tm
 | .mk k s n l,d=>if (k==5||k==6)=true then z33 (.mk k s n l) (z0b lf l (d+if (k==5)=true then 1 else 0)) else lf (.mk k s n l) d
def z0b (lf:Tm→Int→Tm):List Tm→Int→List Tm
 | [],_=> []
 | t::l,d=>z0l lf t d::z0b lf l d
end
abbrev cloSh:TV:= .agg [.fn (.func 99) [] [(false,[.ep 0 1 0 0]),(false,[.ep 1 1 0 0])]]
abbrev stSh (fr by1:Int)(k by_:Int)(kd:Int)(s:List UInt8)(n:Int)(l:List Tm)(w:AV)(i:Nat)(h:AHeap)(nx:Nat):St:=
 ⟨[(2,ci k),(3, .c (.a (.ep 2 1 0 0))),(4, .c (.a (.ep 3 4 0 0))),(6, .c (.a (.ep 4 4 0 0))),(7,aL l),(8,ci by_),(9, .c (.a w)),(30,aL l),(31,ci l.length),(32,ci i)],
  [(0,(obj1 fr)),(1,(obj1 by1)),(2, .arr 1 [[.fn (.func 99) [] [(false,[.ep 0 1 0 0]),(false,[.ep 1 1 0 0])]]]),(3, .arr 4 [fzs (FT (.mk kd s n l))]),(4, .arr 4 [[.a (.fz (.int .i64 0)), .a (.fz (.str [])), .a (.fz (.int .i64 0)), .a (.fz .N)]])]++h,nx⟩
theorem l_w2Sh (fr by1:Int)(lf:Tm→Int→Tm)(k by_:Int)(h0:0≤k)(hk:k≤2305843009213693952)(hb0:0≤by_)(hb1:by_≤1)(kd:Int)(s:List UInt8)(n:Int)(hin:(kd==5||kd==6)=true):
  ∀ (b a acc:List Tm),acc ≠ []→acc.length=a.length→(a++b).length≤B→(∀ u∈acc++z0b lf b (k+by_),u.l.length≤2*B)→
  (∀ u∈b,AC Tryz.prog 101 [cloSh,aT u,ci (k+by_)] [(obj1 fr),(obj1 by1)] (aT (z0l lf u (k+by_))) [(obj1 fr),(obj1 by1)])→
  RPt Tryz.prog 101 2 (aT (z33 (.mk kd s n (a++b)) (acc++z0b lf b (k+by_)))) [(obj1 fr),(obj1 by1)] 1 (stSh fr by1 k by_ kd s n (a++b) (.osl 5 4 0 acc.length) a.length [(5, .arz 4 (FTs acc))] 6)
 | [],a,acc,hne,hlen,hl,hw,_=>by
  refine RPt.vc hP sh z8c (Eq.mpr (zf7 ..) ?_)
  match acc,a,hne,hlen with
  | o::r,u::a',_,hlen=>
  have e1:List.take (o::r).length (List.drop 0 (FTs (o::r)))=FTs (o::r):=by rw [List.drop_zero,List.take_of_length_le (by rw [z01];omega)]
  have e2:(0:Nat)+(o::r).length≤(FTs (o::r)).length:=by rw [z01];omega
  have hrest:∀ (k':Int) (s':List UInt8) (n':Int),TV.Le (.agg [.a (.fz (.int .i64 k')), .a (.fz (.str s')), .a (.fz (.int .i64 n')), .a (.fz (.sl false 4 (List.take (o::r).length (List.drop 0 (FTs (o::r))))))]) (aT (.mk k' s' n' (o::r))):=fun k' s' n'=>by rw [e1];exact leT leSl
  refine z00 (fun h=>absurd (of_decide_eq_true h) (by simp)) (fun _=>z00 (fun h6=>z00 (fun h1=>⟨⟨by omega,by simp⟩,⟨by rw [z01];simp,by cases o;rfl,rfl⟩,z00 (fun ho=>⟨⟨rfl,by omega,by rw [List.append_nil];show (0:Int)<(((FTs (u::a')).length:Nat):Int);rw [z01];simp,by cases u;rfl⟩,z00 (fun hu=> ?_) (fun hu=>⟨⟨rfl,e2⟩, ?_,rfl⟩)⟩) (fun ho=>⟨⟨rfl,e2⟩, ?_,rfl⟩)⟩) (fun h1=>⟨⟨rfl,e2⟩, ?_,rfl⟩)) (fun h6=>⟨⟨rfl,e2⟩, ?_,rfl⟩))
  ·
   have hap:=z46 o r (by
    have:=hw o (by simp);simp only [List.length_cons,List.length_append,List.length_nil,B] at hl hlen this ⊢;omega)
   have e3:z33 (.mk kd s n (u::a'++ [])) (o::r++z0b lf [] (k+by_))=z09 o r:=by
    have c1:1<(o::r++z0b lf [] (k+by_)).length:=by have:=of_decide_eq_true h1;simp only [z0b,List.append_nil];omega
    have c2:(o.k==6)=true:=by cases o;exact ho
    have c3:(u.k !=6)=true:=by cases u;exact hu
    unfold z33;rw [if_pos ⟨h6,c1,c2,c3⟩];simp [z0b]
   have e4:List.take (Int.toNat ((o::r).length:Int)-1) (List.drop 1 (FTs (o::r)))=FTs r:=by
    rw [show Int.toNat ((o::r).length:Int)-1=r.length by simp only [List.length_cons];omega];show List.take r.length (FTs r)=FTs r;rw [List.take_of_length_le (by rw [z01];omega)]
   have e5:(1:Nat)+(Int.toNat ((o::r).length:Int)-1)≤(FTs (o::r)).length:=by rw [z01];simp only [List.length_cons];omega
   rw [e3];refine ⟨⟨by omega,by simp⟩,⟨by rw [z01];simp,by cases o;rfl,rfl⟩,⟨by omega,by simp;omega,by omega⟩,⟨rfl,e5⟩, ?_⟩;rw [e4];obtain ⟨k1,s1,n1,l1⟩:=o;exact ⟨_,hap.args ⟨.refl _,le_c leSl,trivial⟩, .refl _,rfl⟩
  · have e3:z33 (.mk kd s n (u::a'++ [])) (o::r++z0b lf [] (k+by_))= .mk kd s n (o::r):=by
     simp only [z0b,List.append_nil]
     exact if_neg fun e=>by
      have hu':(u.k !=6)=false:=by cases u;exact hu
      have:(u.k !=6)=true:=e.2.2.2;rw [hu'] at this;cases this
    rw [e3];exact hrest _ _ _
  · have e3:z33 (.mk kd s n (u::a'++ [])) (o::r++z0b lf [] (k+by_))= .mk kd s n (o::r):=by
     simp only [z0b,List.append_nil]
     exact if_neg fun e=>by
      have ho':(o.k==6)=false:=by cases o;exact ho
      have:(o.k==6)=true:=e.2.2.1;rw [ho'] at this;cases this
    rw [e3];exact hrest _ _ _
  · have e3:z33 (.mk kd s n (u::a'++ [])) (o::r++z0b lf [] (k+by_))= .mk kd s n (o::r):=by
     simp only [z0b,List.append_nil];exact if_neg fun e=>by have:=e.2.1;have:=of_decide_eq_false h1;omega
    rw [e3];exact hrest _ _ _
  · have e3:z33 (.mk kd s n (u::a'++ [])) (o::r++z0b lf [] (k+by_))= .mk kd s n (o::r):=by
     simp only [z0b,List.append_nil]
     exact if_neg fun e=>by
      have h6':(kd==6)=false:=h6;have:(kd==6)=true:=e.1;rw [h6'] at this;cases this
    rw [e3];exact hrest _ _ _
 | t::b,a,acc,hne,hlen,hl,hw,ih=>by
  refine RPt.vc hP sh z8c (Eq.mpr (zf7 ..) ?_);have hl':=hl;simp only [List.length_append,List.length_cons,B] at hl';have h1:=ih t List.mem_cons_self
  have h2:=l_w2Sh fr by1 lf k by_ h0 hk hb0 hb1 kd s n hin b (a++ [t]) (acc++ [z0l lf t (k+by_)]) (by simp) (by simp [hlen]) (by rw [ap];exact hl)
   (by rw [List.append_assoc];simpa [z0b] using hw) (fun u hu=>ih u (List.mem_cons_of_mem _ hu))
  have h3:=ltI' a t b;unfold stSh at h2;rw [ap,show (((a++ [t]).length:Nat):Int)=(a.length:Int)+1 from nx a t] at h2;show br (decide ((a.length:Int)<(((a++t::b).length:Nat):Int))) ((FV.L 4 (.sl false 4 (FTs (a++t::b)))=true∧_∧_∧_)∧_) _;refine z00 (fun _=> ?_) (fun h=>absurd (ltI a t b) (of_decide_eq_false h));have hm:=midI a t b;rw [show FV.ses (.sl false 4 (FTs (a++t::b)))=FTs (a++t::b) from rfl,hm,w64 (x:=(a.length:Int)+1) (by omega) (by omega),w64 (x:=k+by_) (by omega) (by omega)];obtain ⟨k',s',n',l'⟩:=t;refine ⟨⟨rfl,by omega,h3,rfl⟩,_,h1,Nat.le_refl _,⟨by rw [z01];omega,z6g (by omega)⟩, ?_⟩;have e5:List.take acc.length (FTs acc)++FTs [z0l lf (.mk k' s' n' l') (k+by_)]=FTs (acc++ [z0l lf (.mk k' s' n' l') (k+by_)]):=by rw [List.take_of_length_le (by rw [z01];omega),←z2d]
  have e6:FTs [z0l lf (.mk k' s' n' l') (k+by_)]=[[.int .i64 (z0l lf (.mk k' s' n' l') (k+by_)).k, .str (z0l lf (.mk k' s' n' l') (k+by_)).s, .int .i64 (z0l lf (.mk k' s' n' l') (k+by_)).n, .sl false 4 (FTs (z0l lf (.mk k' s' n' l') (k+by_)).l)]]:=by
   rw [FTs,FTs,zai]
  rw [e6] at e5;rw [e5];rw [show acc++z0b lf (.mk k' s' n' l'::b) (k+by_)=acc++z0l lf (.mk k' s' n' l') (k+by_)::z0b lf b (k+by_) by simp [z0b]];rw [show (acc++ [z0l lf (.mk k' s' n' l') (k+by_)]).length=acc.length+1 by simp,List.append_assoc] at h2;exact h2
theorem l_w1Sh (fr by1:Int)(lf:Tm→Int→Tm)(k by_:Int)(h0:0≤k)(hk:k≤2305843009213693952)(hb0:0≤by_)(hb1:by_≤1)(kd:Int)(s:List UInt8)(n:Int)(hin:(kd==5||kd==6)=true):
  ∀ (b:List Tm),b.length≤B→(∀ u∈z0b lf b (k+by_),u.l.length≤2*B)→
  (∀ u∈b,AC Tryz.prog 101 [cloSh,aT u,ci (k+by_)] [(obj1 fr),(obj1 by1)] (aT (z0l lf u (k+by_))) [(obj1 fr),(obj1 by1)])→
  RPt Tryz.prog 101 2 (aT (z33 (.mk kd s n b) (z0b lf b (k+by_)))) [(obj1 fr),(obj1 by1)] 1 (stSh fr by1 k by_ kd s n b (.fz .N) 0 [] 5)
 | [],hl,hw,_=>by
  refine RPt.vc hP sh z8c (Eq.mpr (zdo ..) ?_);have e:z33 (.mk kd s n []) (z0b lf [] (k+by_))= .mk kd s n []:=if_neg fun e=>by have:=e.2.1;simp [z0b] at this
  rw [e];exact z00 (fun h=>absurd (of_decide_eq_true h) (by simp)) (fun _=>z00 (fun _=>⟨rfl,leT z0m,rfl⟩) (fun _=>⟨leT z0m,rfl⟩))
 | t::b,hl,hw,ih=>by
  refine RPt.vc hP sh z8c (Eq.mpr (zdo ..) ?_);have hl':=hl;simp only [List.length_cons,B] at hl';have h1:=ih t List.mem_cons_self;have h2:=l_w2Sh fr by1 lf k by_ h0 hk hb0 hb1 kd s n hin b [t] [z0l lf t (k+by_)] (by simp) rfl (by simpa using hl) (by simpa [z0b] using hw) (fun u hu=>ih u (List.mem_cons_of_mem _ hu));show br (decide ((0:Int)<(((t::b).length:Nat):Int))) ((FV.L 4 (.sl false 4 (FTs (t::b)))=true∧_∧_∧_)∧_) _;refine z00 (fun _=> ?_) (fun h=>absurd (of_decide_eq_false h) (by simp));rw [show FV.ses (.sl false 4 (FTs (t::b)))=FTs (t::b) from rfl,show List.getD (FTs (t::b)) (Int.toNat ((0:Nat):Int)) []=FT t from rfl,w64 (x:=k+by_) (by omega) (by omega),w64 (x:=((0:Nat):Int)+1) (by omega) (by omega)];obtain ⟨k',s',n',l'⟩:=t;have h3:(0:Int)<(((FTs (.mk k' s' n' l'::b)).length:Nat):Int):=by rw [z01];simp
  refine ⟨⟨rfl,by omega,h3,rfl⟩,_,h1,Nat.le_refl _,z6g (by omega), ?_⟩
  have e6:FTs [z0l lf (.mk k' s' n' l') (k+by_)]=[[.int .i64 (z0l lf (.mk k' s' n' l') (k+by_)).k, .str (z0l lf (.mk k' s' n' l') (k+by_)).s, .int .i64 (z0l lf (.mk k' s' n' l') (k+by_)).n, .sl false 4 (FTs (z0l lf (.mk k' s' n' l') (k+by_)).l)]]:=by
   rw [FTs,FTs,zai]
  unfold stSh at h2;rw [e6] at h2;exact h2
theorem c_wSh (fr by1:Int) (lf:Tm→Int→Tm) (Q:Tm→Int→Prop)
  (hq:∀ (kd:Int) (s:List UInt8) (n:Int) (l:List Tm) (d:Int),Q (.mk kd s n l) d→(kd==5||kd==6)=true→∀ u∈l,Q u (d+if (kd==5)=true then 1 else 0))
  (hleaf:∀ (u:Tm) (d:Int),(u.k==5||u.k==6)=false→Q u d→0≤d→d≤2305843009213693952→AC Tryz.prog 99 [aT u,ci d, .c (.a (.ep 0 1 0 0)), .c (.a (.ep 1 1 0 0))] [(obj1 fr),(obj1 by1)] (aT (lf u d)) [(obj1 fr),(obj1 by1)])
  (hwid:∀ (u:Tm) (d:Int),Q u d→(z0l lf u d).l.length≤2*B):
  ∀ t:Tm,t.sz≤B→∀ k:Int,Q t k→0≤k→k+t.sz≤2305843009213693952→AC Tryz.prog 101 [cloSh,aT t,ci k] [(obj1 fr),(obj1 by1)] (aT (z0l lf t k)) [(obj1 fr),(obj1 by1)]:=by
 refine Tm.ind fun t ih hs k hQ h0 h1=> ?_;have hlen:=Tm.szs_length t.l;obtain ⟨kd,s,n,l⟩:=t;simp only [Tm.sz,B,Tm.l] at hs hlen;simp only [Tm.sz] at h1
 have key:∀ by_:Int,0≤by_→by_≤1→(by_=if (kd==5)=true then 1 else 0)→(hin:(kd==5||kd==6)=true)→RPt Tryz.prog 101 2 (aT (z0l lf (.mk kd s n l) k)) [(obj1 fr),(obj1 by1)] 1 (stSh fr by1 k by_ kd s n l (.fz .N) 0 [] 5):=by
  intro by_ hb0 hb1 hby hin;have hQ':=hq kd s n l k hQ hin;rw [←hby] at hQ'
  have:=l_w1Sh fr by1 lf k by_ h0 (by omega) hb0 hb1 kd s n hin l (by simp only [B];omega) (fun u hu=>by
   have:∀ {m:List Tm},(∀ v∈m,Q v (k+by_))→∀ u∈z0b lf m (k+by_),u.l.length≤2*B:=by
    intro m
    induction m with
    | nil=>intro _ u hu;simp [z0b] at hu
    | cons v m ihm=>
     intro hm u hu;simp only [z0b,List.mem_cons] at hu;rcases hu with rfl | hu
     · exact hwid v _ (hm v List.mem_cons_self)
     · exact ihm (fun x hx=>hm x (List.mem_cons_of_mem _ hx)) u hu
   exact this hQ' u hu) (fun u hu=>ih u hu (by have:=Tm.szs_mem hu;simp only [B];omega) (k+by_) (hQ' u hu) (by omega) (by have:=Tm.szs_mem hu;omega))
  rw [z0l,if_pos hin,←hby];exact this
 refine AC.vc hP sh z8c (Nat.le_refl _) (by simp [isLive]) (by simp) (Eq.mpr (v101_F99 kd s n (FTs l) k fr by1 _ _) ?_)
 have wi:(kd==5||kd==6)=true→AC Tryz.prog 69 [aT (.mk kd s n l)] [] (.tup [(false,[.a (.fz (.sl false 4 (FTs l)))]),(false,[.a (.fz (.int .i64 (if (kd==5)=true then 1 else 0)))])]) []:=fun hin=>by
  have hw:=zcq (.mk kd s n l);rw [show z8s (.mk kd s n l)= .sl false 4 (FTs l) from if_pos hin] at hw;exact hw
 refine z00 (fun h=>z00 (fun h2=> ?_) (fun h2=> ?_)) (fun h=> ?_)
 · have e1:(kd==5)=false:=by simpa using h
   have e2:(kd==6)=false:=by simpa using h2
   have e:(kd==5||kd==6)=false:=by rw [e1,e2];rfl
   have hl:=hleaf (.mk kd s n l) k e hQ h0 (by omega);rw [show z0l lf (.mk kd s n l) k=lf (.mk kd s n l) k by rw [z0l,if_neg (by rw [e];simp)]];exact ⟨_,hl, .refl _,rfl⟩
 · have e1:(kd==5)=false:=by simpa using h
   have e2:(kd==6)=true:=by simpa using h2
   have hin:(kd==5||kd==6)=true:=by rw [e1,e2];rfl
   have hk:=key 0 (by omega) (by omega) (by rw [e1];rfl) hin;have hw:=wi hin;rw [e1] at hw;refine ⟨_,_,hw,rfl, ?_⟩;show RPt _ _ _ _ _ _ ⟨[_,_,_,_,_,_,_,_,(31,ci (((FTs l).length:Nat):Int)),_],_,_⟩;rw [z01];exact hk
 · have e1:(kd==5)=true:=by simpa using h
   have hin:(kd==5||kd==6)=true:=by rw [e1];rfl
   have hk:=key 1 (by omega) (by omega) (by rw [e1];rfl) hin;have hw:=wi hin;rw [e1] at hw;refine ⟨_,_,hw,rfl, ?_⟩;show RPt _ _ _ _ _ _ ⟨[_,_,_,_,_,_,_,_,(31,ci (((FTs l).length:Nat):Int)),_],_,_⟩;rw [z01];exact hk
abbrev cloSu:TV:= .agg [.fn (.func 125) [] [(false,[.ep 0 1 0 0]),(false,[.ep 1 4 0 0])]]
abbrev stSu (ix:Int)(sk:Int)(ss:List UInt8)(sn:Int)(sl:List Tm)(k by_:Int)(kd:Int)(s:List UInt8)(n:Int)(l:List Tm)(w:AV)(i:Nat)(h:AHeap)(nx:Nat):St:=
 ⟨[(2,ci k),(3, .c (.a (.ep 2 1 0 0))),(4, .c (.a (.ep 3 4 0 0))),(6, .c (.a (.ep 4 4 0 0))),(7,aL l),(8,ci by_),(9, .c (.a w)),(30,aL l),(31,ci l.length),(32,ci i)],
  [(0,(obj1 ix)),(1,(.arr 4 [fzs (FT (.mk sk ss sn sl))])),(2, .arr 1 [[.fn (.func 125) [] [(false,[.ep 0 1 0 0]),(false,[.ep 1 4 0 0])]]]),(3, .arr 4 [fzs (FT (.mk kd s n l))]),(4, .arr 4 [[.a (.fz (.int .i64 0)), .a (.fz (.str [])), .a (.fz (.int .i64 0)), .a (.fz .N)]])]++h,nx⟩
theorem l_w2Su (ix:Int)(sk:Int)(ss:List UInt8)(sn:Int)(sl:List Tm)(lf:Tm→Int→Tm)(k by_:Int)(h0:0≤k)(hk:k≤2305843009213693952)(hb0:0≤by_)(hb1:by_≤1)(kd:Int)(s:List UInt8)(n:Int)(hin:(kd==5||kd==6)=true):
  ∀ (b a acc:List Tm),acc ≠ []→acc.length=a.length→(a++b).length≤B→(∀ u∈acc++z0b lf b (k+by_),u.l.length≤2*B)→
  (∀ u∈b,AC Tryz.prog 101 [cloSu,aT u,ci (k+by_)] [(obj1 ix),(.arr 4 [fzs (FT (.mk sk ss sn sl))])] (aT (z0l lf u (k+by_))) [(obj1 ix),(.arr 4 [fzs (FT (.mk sk ss sn sl))])])→
  RPt Tryz.prog 101 2 (aT (z33 (.mk kd s n (a++b)) (acc++z0b lf b (k+by_)))) [(obj1 ix),(.arr 4 [fzs (FT (.mk sk ss sn sl))])] 1 (stSu ix sk ss sn sl k by_ kd s n (a++b) (.osl 5 4 0 acc.length) a.length [(5, .arz 4 (FTs acc))] 6)
 | [],a,acc,hne,hlen,hl,hw,_=>by
  refine RPt.vc hP sh z8c (Eq.mpr (zbs ..) ?_)
  match acc,a,hne,hlen with
  | o::r,u::a',_,hlen=>
  have e1:List.take (o::r).length (List.drop 0 (FTs (o::r)))=FTs (o::r):=by rw [List.drop_zero,List.take_of_length_le (by rw [z01];omega)]
  have e2:(0:Nat)+(o::r).length≤(FTs (o::r)).length:=by rw [z01];omega
  have hrest:∀ (k':Int) (s':List UInt8) (n':Int),TV.Le (.agg [.a (.fz (.int .i64 k')), .a (.fz (.str s')), .a (.fz (.int .i64 n')), .a (.fz (.sl false 4 (List.take (o::r).length (List.drop 0 (FTs (o::r))))))]) (aT (.mk k' s' n' (o::r))):=fun k' s' n'=>by rw [e1];exact leT leSl
  refine z00 (fun h=>absurd (of_decide_eq_true h) (by simp)) (fun _=>z00 (fun h6=>z00 (fun h1=>⟨⟨by omega,by simp⟩,⟨by rw [z01];simp,by cases o;rfl,rfl⟩,z00 (fun ho=>⟨⟨rfl,by omega,by rw [List.append_nil];show (0:Int)<(((FTs (u::a')).length:Nat):Int);rw [z01];simp,by cases u;rfl⟩,z00 (fun hu=> ?_) (fun hu=>⟨⟨rfl,e2⟩, ?_,rfl⟩)⟩) (fun ho=>⟨⟨rfl,e2⟩, ?_,rfl⟩)⟩) (fun h1=>⟨⟨rfl,e2⟩, ?_,rfl⟩)) (fun h6=>⟨⟨rfl,e2⟩, ?_,rfl⟩))
  ·
   have hap:=z46 o r (by
    have:=hw o (by simp);simp only [List.length_cons,List.length_append,List.length_nil,B] at hl hlen this ⊢;omega)
   have e3:z33 (.mk kd s n (u::a'++ [])) (o::r++z0b lf [] (k+by_))=z09 o r:=by
    have c1:1<(o::r++z0b lf [] (k+by_)).length:=by have:=of_decide_eq_true h1;simp only [z0b,List.append_nil];omega
    have c2:(o.k==6)=true:=by cases o;exact ho
    have c3:(u.k !=6)=true:=by cases u;exact hu
    unfold z33;rw [if_pos ⟨h6,c1,c2,c3⟩];simp [z0b]
   have e4:List.take (Int.toNat ((o::r).length:Int)-1) (List.drop 1 (FTs (o::r)))=FTs r:=by
    rw [show Int.toNat ((o::r).length:Int)-1=r.length by simp only [List.length_cons];omega];show List.take r.length (FTs r)=FTs r;rw [List.take_of_length_le (by rw [z01];omega)]
   have e5:(1:Nat)+(Int.toNat ((o::r).length:Int)-1)≤(FTs (o::r)).length:=by rw [z01];simp only [List.length_cons];omega
   rw [e3];refine ⟨⟨by omega,by simp⟩,⟨by rw [z01];simp,by cases o;rfl,rfl⟩,⟨by omega,by simp;omega,by omega⟩,⟨rfl,e5⟩, ?_⟩;rw [e4];obtain ⟨k1,s1,n1,l1⟩:=o;exact ⟨_,hap.args ⟨.refl _,le_c leSl,trivial⟩, .refl _,rfl⟩
  · have e3:z33 (.mk kd s n (u::a'++ [])) (o::r++z0b lf [] (k+by_))= .mk kd s n (o::r):=by
     simp only [z0b,List.append_nil]
     exact if_neg fun e=>by
      have hu':(u.k !=6)=false:=by cases u;exact hu
      have:(u.k !=6)=true:=e.2.2.2;rw [hu'] at this;cases this
    rw [e3];exact hrest _ _ _
  · have e3:z33 (.mk kd s n (u::a'++ [])) (o::r++z0b lf [] (k+by_))= .mk kd s n (o::r):=by
     simp only [z0b,List.append_nil]
     exact if_neg fun e=>by
      have ho':(o.k==6)=false:=by cases o;exact ho
      have:(o.k==6)=true:=e.2.2.1;rw [ho'] at this;cases this
    rw [e3];exact hrest _ _ _
  · have e3:z33 (.mk kd s n (u::a'++ [])) (o::r++z0b lf [] (k+by_))= .mk kd s n (o::r):=by
     simp only [z0b,List.append_nil];exact if_neg fun e=>by have:=e.2.1;have:=of_decide_eq_false h1;omega
    rw [e3];exact hrest _ _ _
  · have e3:z33 (.mk kd s n (u::a'++ [])) (o::r++z0b lf [] (k+by_))= .mk kd s n (o::r):=by
     simp only [z0b,List.append_nil]
     exact if_neg fun e=>by
      have h6':(kd==6)=false:=h6;have:(kd==6)=true:=e.1;rw [h6'] at this;cases this
    rw [e3];exact hrest _ _ _
 | t::b,a,acc,hne,hlen,hl,hw,ih=>by
  refine RPt.vc hP sh z8c (Eq.mpr (zbs ..) ?_);have hl':=hl;simp only [List.length_append,List.length_cons,B] at hl';have h1:=ih t List.mem_cons_self
  have h2:=l_w2Su ix sk ss sn sl lf k by_ h0 hk hb0 hb1 kd s n hin b (a++ [t]) (acc++ [z0l lf t (k+by_)]) (by simp) (by simp [hlen]) (by rw [ap];exact hl)
   (by rw [List.append_assoc];simpa [z0b] using hw) (fun u hu=>ih u (List.mem_cons_of_mem _ hu))
  have h3:=ltI' a t b;unfold stSu at h2;rw [ap,show (((a++ [t]).length:Nat):Int)=(a.length:Int)+1 from nx a t] at h2;show br (decide ((a.length:Int)<(((a++t::b).length:Nat):Int))) ((FV.L 4 (.sl false 4 (FTs (a++t::b)))=true∧_∧_∧_)∧_) _;refine z00 (fun _=> ?_) (fun h=>absurd (ltI a t b) (of_decide_eq_false h));have hm:=midI a t b;rw [show FV.ses (.sl false 4 (FTs (a++t::b)))=FTs (a++t::b) from rfl,hm,w64 (x:=(a.length:Int)+1) (by omega) (by omega),w64 (x:=k+by_) (by omega) (by omega)];obtain ⟨k',s',n',l'⟩:=t;refine ⟨⟨rfl,by omega,h3,rfl⟩,_,h1,Nat.le_refl _,⟨by rw [z01];omega,z6g (by omega)⟩, ?_⟩;have e5:List.take acc.length (FTs acc)++FTs [z0l lf (.mk k' s' n' l') (k+by_)]=FTs (acc++ [z0l lf (.mk k' s' n' l') (k+by_)]):=by rw [List.take_of_length_le (by rw [z01];omega),←z2d]
  have e6:FTs [z0l lf (.mk k' s' n' l') (k+by_)]=[[.int .i64 (z0l lf (.mk k' s' n' l') (k+by_)).k, .str (z0l lf (.mk k' s' n' l') (k+by_)).s, .int .i64 (z0l lf (.mk k' s' n' l') (k+by_)).n, .sl false 4 (FTs (z0l lf (.mk k' s' n' l') (k+by_)).l)]]:=by
   rw [FTs,FTs,zai]
  rw [e6] at e5;rw [e5];rw [show acc++z0b lf (.mk k' s' n' l'::b) (k+by_)=acc++z0l lf (.mk k' s' n' l') (k+by_)::z0b lf b (k+by_) by simp [z0b]];rw [show (acc++ [z0l lf (.mk k' s' n' l') (k+by_)]).length=acc.length+1 by simp,List.append_assoc] at h2;exact h2
theorem l_w1Su (ix:Int)(sk:Int)(ss:List UInt8)(sn:Int)(sl:List Tm)(lf:Tm→Int→Tm)(k by_:Int)(h0:0≤k)(hk:k≤2305843009213693952)(hb0:0≤by_)(hb1:by_≤1)(kd:Int)(s:List UInt8)(n:Int)(hin:(kd==5||kd==6)=true):
  ∀ (b:List Tm),b.length≤B→(∀ u∈z0b lf b (k+by_),u.l.length≤2*B)→
  (∀ u∈b,AC Tryz.prog 101 [cloSu,aT u,ci (k+by_)] [(obj1 ix),(.arr 4 [fzs (FT (.mk sk ss sn sl))])] (aT (z0l lf u (k+by_))) [(obj1 ix),(.arr 4 [fzs (FT (.mk sk ss sn sl))])])→
  RPt Tryz.prog 101 2 (aT (z33 (.mk kd s n b) (z0b lf b (k+by_)))) [(obj1 ix),(.arr 4 [fzs (FT (.mk sk ss sn sl))])] 1 (stSu ix sk ss sn sl k by_ kd s n b (.fz .N) 0 [] 5)
 | [],hl,hw,_=>by
  refine RPt.vc hP sh z8c (Eq.mpr (zbv ..) ?_);have e:z33 (.mk kd s n []) (z0b lf [] (k+by_))= .mk kd s n []:=if_neg fun e=>by have:=e.2.1;simp [z0b] at this
  rw [e];exact z00 (fun h=>absurd (of_decide_eq_true h) (by simp)) (fun _=>z00 (fun _=>⟨rfl,leT z0m,rfl⟩) (fun _=>⟨leT z0m,rfl⟩))
 | t::b,hl,hw,ih=>by
  refine RPt.vc hP sh z8c (Eq.mpr (zbv ..) ?_);have hl':=hl;simp only [List.length_cons,B] at hl';have h1:=ih t List.mem_cons_self;have h2:=l_w2Su ix sk ss sn sl lf k by_ h0 hk hb0 hb1 kd s n hin b [t] [z0l lf t (k+by_)] (by simp) rfl (by simpa using hl) (by simpa [z0b] using hw) (fun u hu=>ih u (List.mem_cons_of_mem _ hu));show br (decide ((0:Int)<(((t::b).length:Nat):Int))) ((FV.L 4 (.sl false 4 (FTs (t::b)))=true∧_∧_∧_)∧_) _;refine z00 (fun _=> ?_) (fun h=>absurd (of_decide_eq_false h) (by simp));rw [show FV.ses (.sl false 4 (FTs (t::b)))=FTs (t::b) from rfl,show List.getD (FTs (t::b)) (Int.toNat ((0:Nat):Int)) []=FT t from rfl,w64 (x:=k+by_) (by omega) (by omega),w64 (x:=((0:Nat):Int)+1) (by omega) (by omega)];obtain ⟨k',s',n',l'⟩:=t;have h3:(0:Int)<(((FTs (.mk k' s' n' l'::b)).length:Nat):Int):=by rw [z01];simp
  refine ⟨⟨rfl,by omega,h3,rfl⟩,_,h1,Nat.le_refl _,z6g (by omega), ?_⟩
  have e6:FTs [z0l lf (.mk k' s' n' l') (k+by_)]=[[.int .i64 (z0l lf (.mk k' s' n' l') (k+by_)).k, .str (z0l lf (.mk k' s' n' l') (k+by_)).s, .int .i64 (z0l lf (.mk k' s' n' l') (k+by_)).n, .sl false 4 (FTs (z0l lf (.mk k' s' n' l') (k+by_)).l)]]:=by
   rw [FTs,FTs,zai]
  unfold stSu at h2;rw [e6] at h2;exact h2
theorem c_wSu (ix:Int) (sk:Int) (ss:List UInt8) (sn:Int) (sl:List Tm) (lf:Tm→Int→Tm) (Q:Tm→Int→Prop)
  (hq:∀ (kd:Int) (s:List UInt8) (n:Int) (l:List Tm) (d:Int),Q (.mk kd s n l) d→(kd==5||kd==6)=true→∀ u∈l,Q u (d+if (kd==5)=true then 1 else 0))
  (hleaf:∀ (u:Tm) (d:Int),(u.k==5||u.k==6)=false→Q u d→0≤d→d≤2305843009213693952→AC Tryz.prog 125 [aT u,ci d, .c (.a (.ep 0 1 0 0)), .c (.a (.ep 1 4 0 0))] [(obj1 ix),(.arr 4 [fzs (FT (.mk sk ss sn sl))])] (aT (lf u d)) [(obj1 ix),(.arr 4 [fzs (FT (.mk sk ss sn sl))])])
  (hwid:∀ (u:Tm) (d:Int),Q u d→(z0l lf u d).l.length≤2*B):
  ∀ t:Tm,t.sz≤B→∀ k:Int,Q t k→0≤k→k+t.sz≤2305843009213693952→AC Tryz.prog 101 [cloSu,aT t,ci k] [(obj1 ix),(.arr 4 [fzs (FT (.mk sk ss sn sl))])] (aT (z0l lf t k)) [(obj1 ix),(.arr 4 [fzs (FT (.mk sk ss sn sl))])]:=by
 refine Tm.ind fun t ih hs k hQ h0 h1=> ?_;have hlen:=Tm.szs_length t.l;obtain ⟨kd,s,n,l⟩:=t;simp only [Tm.sz,B,Tm.l] at hs hlen;simp only [Tm.sz] at h1
 have key:∀ by_:Int,0≤by_→by_≤1→(by_=if (kd==5)=true then 1 else 0)→(hin:(kd==5||kd==6)=true)→RPt Tryz.prog 101 2 (aT (z0l lf (.mk kd s n l) k)) [(obj1 ix),(.arr 4 [fzs (FT (.mk sk ss sn sl))])] 1 (stSu ix sk ss sn sl k by_ kd s n l (.fz .N) 0 [] 5):=by
  intro by_ hb0 hb1 hby hin;have hQ':=hq kd s n l k hQ hin;rw [←hby] at hQ'
  have:=l_w1Su ix sk ss sn sl lf k by_ h0 (by omega) hb0 hb1 kd s n hin l (by simp only [B];omega) (fun u hu=>by
   have:∀ {m:List Tm},(∀ v∈m,Q v (k+by_))→∀ u∈z0b lf m (k+by_),u.l.length≤2*B:=by
    intro m
    induction m with
    | nil=>intro _ u hu;simp [z0b] at hu
    | cons v m ihm=>
     intro hm u hu;simp only [z0b,List.mem_cons] at hu;rcases hu with rfl | hu
     · exact hwid v _ (hm v List.mem_cons_self)
     · exact ihm (fun x hx=>hm x (List.mem_cons_of_mem _ hx)) u hu
   exact this hQ' u hu) (fun u hu=>ih u hu (by have:=Tm.szs_mem hu;simp only [B];omega) (k+by_) (hQ' u hu) (by omega) (by have:=Tm.szs_mem hu;omega))
  rw [z0l,if_pos hin,←hby];exact this
 refine AC.vc hP sh z8c (Nat.le_refl _) (by simp [isLive]) (by simp) (Eq.mpr (ztt kd s n (FTs l) k ix sk ss sn (FTs sl) _ _) ?_)
 have wi:(kd==5||kd==6)=true→AC Tryz.prog 69 [aT (.mk kd s n l)] [] (.tup [(false,[.a (.fz (.sl false 4 (FTs l)))]),(false,[.a (.fz (.int .i64 (if (kd==5)=true then 1 else 0)))])]) []:=fun hin=>by
  have hw:=zcq (.mk kd s n l);rw [show z8s (.mk kd s n l)= .sl false 4 (FTs l) from if_pos hin] at hw;exact hw
 refine z00 (fun h=>z00 (fun h2=> ?_) (fun h2=> ?_)) (fun h=> ?_)
 · have e1:(kd==5)=false:=by simpa using h
   have e2:(kd==6)=false:=by simpa using h2
   have e:(kd==5||kd==6)=false:=by rw [e1,e2];rfl
   have hl:=hleaf (.mk kd s n l) k e hQ h0 (by omega);rw [show z0l lf (.mk kd s n l) k=lf (.mk kd s n l) k by rw [z0l,if_neg (by rw [e];simp)]];exact ⟨_,hl, .refl _,rfl⟩
 · have e1:(kd==5)=false:=by simpa using h
   have e2:(kd==6)=true:=by simpa using h2
   have hin:(kd==5||kd==6)=true:=by rw [e1,e2];rfl
   have hk:=key 0 (by omega) (by omega) (by rw [e1];rfl) hin;have hw:=wi hin;rw [e1] at hw;refine ⟨_,_,hw,rfl, ?_⟩;show RPt _ _ _ _ _ _ ⟨[_,_,_,_,_,_,_,_,(31,ci (((FTs l).length:Nat):Int)),_],_,_⟩;rw [z01];exact hk
 · have e1:(kd==5)=true:=by simpa using h
   have hin:(kd==5||kd==6)=true:=by rw [e1];rfl
   have hk:=key 1 (by omega) (by omega) (by rw [e1];rfl) hin;have hw:=wi hin;rw [e1] at hw;refine ⟨_,_,hw,rfl, ?_⟩;show RPt _ _ _ _ _ _ ⟨[_,_,_,_,_,_,_,_,(31,ci (((FTs l).length:Nat):Int)),_],_,_⟩;rw [z01];exact hk
end Go.AM

set_option maxRecDepth 100000
open Go Go.Proofs
namespace Go.AM
theorem z32 (f:Tm)(l:List Tm):(z09 f l).sz≤1+f.sz+Tm.szs l:=by
 unfold z09;split
 · simp only [Tm.szs];omega
 · split
   · have:=f.sz_eq;simp only [Tm.sz,Tm.szs_append,List.length_nil];omega
   · simp only [Tm.sz,Tm.szs,List.length_nil];omega
theorem zow (t:Tm)(o:List Tm):(z33 t o).sz≤1+Tm.szs o:=by
 unfold z33;split
 · rename_i h
   match o,h with
   | [],h=>simp at h
   | x::r,h=>
    simp only [List.headD_cons,List.tail_cons,Tm.szs] at h ⊢;have hx:(x.k==6)=true:=h.2.2.1;have hr:r ≠ []:=by intro e;rw [e] at h;simp at h
    unfold z09;split
    · exact absurd rfl hr
    · have:=x.sz_eq;by_cases hl:x.l=[]
      · rw [if_neg (fun e=>e.2 hl)];simp only [Tm.sz,Tm.szs];omega
      · rw [if_pos ⟨hx,hl⟩];simp only [Tm.sz,Tm.szs_append];omega
 · simp only [Tm.sz];omega
mutual
def nd:Tm→Nat
 | .mk _ _ _ l=>1+nds l
def nds:List Tm→Nat
 | []=>0
 | t::l=>nd t+nds l
end
theorem nd_eq (t:Tm):nd t=1+nds t.l:=by cases t;rfl
theorem zxt:∀ {l:List Tm} {t:Tm},t∈l→nd t≤nds l
 | x::l,t,h=>by
  rcases List.mem_cons.1 h with rfl | h
  · simp only [nds];omega
  · have:=zxt h;simp only [nds];omega
mutual
theorem zir (lf:Tm→Int→Tm)(S:Nat)(h:∀ u d,(lf u d).sz≤u.sz+S):∀ (t:Tm) (d:Int),(z0l lf t d).sz≤t.sz+nd t*S
 | .mk k s n l,d=>by
  rw [z0l];split
  · refine Nat.le_trans (zow ..) ?_;have:=zoy lf S h l (d+if (k==5)=true then 1 else 0)
    simp only [Tm.sz,nd,Nat.add_mul,Nat.one_mul];omega
  · refine Nat.le_trans (h _ _) ?_;simp only [nd,Nat.add_mul,Nat.one_mul];omega
theorem zoy (lf:Tm→Int→Tm)(S:Nat)(h:∀ u d,(lf u d).sz≤u.sz+S):∀ (l:List Tm) (d:Int),Tm.szs (z0b lf l d)≤Tm.szs l+nds l*S
 | [],_=>by simp [z0b,Tm.szs]
 | t::l,d=>by
  have:=zir lf S h t d;have:=zoy lf S h l d;simp only [z0b,Tm.szs,nds,Nat.add_mul];omega
end
theorem zg3 {M:Int}:∀ {a b:List Tm},bds M a→bds M b→bds M (a++b)
 | [],_,_,h=>h
 | _::_,_,h,h'=>⟨h.1,zg3 h.2 h'⟩
theorem z8p {M:Int}:∀ {l:List Tm},(∀ t∈l,bd M t)→bds M l
 | [],_=>trivial
 | t::_,h=>⟨h t List.mem_cons_self,z8p fun u hu=>h u (List.mem_cons_of_mem _ hu)⟩
theorem bd6 {M:Int}{s:List UInt8}{n:Int}{l:List Tm}(h:bds M l):bd M (.mk 6 s n l):=⟨fun e=>absurd e (by omega),h⟩
theorem z2z {M:Int}{f:Tm}{l:List Tm}(hf:bd M f)(hl:bds M l):bd M (z09 f l):=by
 unfold z09;split
 · exact hf
 · split
   · exact bd6 (zg3 (bd_l hf) hl)
   · exact bd6 ⟨hf,hl⟩
theorem withF_bd {M:Int}{t:Tm}{o:List Tm}(hk:t.k≠3)(ho:bds M o):bd M (z33 t o):=by
 unfold z33;split
 · rename_i h
   match o,h,ho with
   | [],h,_=>simp at h
   | x::r,h,ho=>exact z2z ho.1 ho.2
 · exact ⟨fun e=>absurd e hk,ho⟩
mutual
theorem zcb (lf:Tm→Int→Tm)(M M' D:Int)(h:∀ u d,bd M u→0≤d→d≤D→bd M' (lf u d)):∀ (t:Tm) (d:Int),bd M t→0≤d→d+t.sz≤D→bd M' (z0l lf t d)
 | .mk k s n l,d,hb,h0,h1=>by
  rw [z0l];simp only [Tm.sz] at h1;split
  · rename_i hk;refine withF_bd (fun e=> ?_) (zqj lf M M' D h l _ hb.2 (by split<;>omega) (by split<;>omega));have e:k=3:=e;rw [e] at hk;exact absurd hk (by decide)
  · exact h _ _ hb h0 (by omega)
theorem zqj (lf:Tm→Int→Tm)(M M' D:Int)(h:∀ u d,bd M u→0≤d→d≤D→bd M' (lf u d)):∀ (l:List Tm) (d:Int),bds M l→0≤d→d+Tm.szs l≤D→bds M' (z0b lf l d)
 | [],_,_,_,_=>trivial
 | t::l,d,hb,h0,h1=>by
  simp only [Tm.szs] at h1;exact ⟨zcb lf M M' D h t d hb.1 h0 (by omega),zqj lf M M' D h l d hb.2 h0 (by omega)⟩
end
theorem applyF_k {f:Tm}(l:List Tm)(h:(f.k==6)=true):(z09 f l).k=6:=by
 unfold z09;split
 · simpa using h
 · split<;>rfl
theorem withF_k (t:Tm)(o:List Tm):(z33 t o).k=t.k:=by
 unfold z33;split
 · rename_i h6;have e:t.k=6:=by simpa using h6.1
   rw [applyF_k _ h6.2.2.1];exact e.symm
 · rfl
theorem zuj (lf:Tm→Int→Tm)(h:∀ u d,(lf u d).k=u.k)(t:Tm)(d:Int):(z0l lf t d).k=t.k:=by
 obtain ⟨k,s,n,l⟩:=t;rw [z0l];split
 · exact withF_k _ _
 · exact h _ _
theorem zsj (lf:Tm→Int→Tm)(h:∀ u d,(lf u d).k=u.k)(k:Int)(s:List UInt8)(n:Int)(l:List Tm)(d:Int)(hk:(k==5||k==6)=true):
  z0l lf (.mk k s n l) d= .mk k s n (z0b lf l (d+if (k==5)=true then 1 else 0)):=by
 rw [z0l,if_pos hk,z33,if_neg fun e=> ?_];rfl
 match l,e with
 | [],e=>have:=e.2.1;simp [z0b] at this
 | t::l,e=>
  have e1:=e.2.2.1;have e2:=e.2.2.2;rw [z0b,List.headD_cons,zuj lf h] at e1;have e2:(t.k !=6)=true:=e2;rw [bne,e1] at e2;cases e2
theorem zsn (lf:Tm→Int→Tm)(k:Int)(s:List UInt8)(n:Int)(l:List Tm)(d:Int)(hk:(k==5||k==6)=false):
  z0l lf (.mk k s n l) d=lf (.mk k s n l) d:=by rw [z0l,if_neg (by rw [hk];simp)]
theorem zc1 (lf:Tm→Int→Tm):∀ (l:List Tm) (d:Int),(z0b lf l d).length=l.length
 | [],_=>rfl
 | _::l,d=>by simp only [z0b,List.length_cons,zc1 lf l d]
abbrev M61:Int:=2305843009213693952
def z0s (fr by_:Int)(u:Tm)(d:Int):Tm:=if (u.k==3)=true∧d+fr≤u.n then .mk u.k u.s (u.n+by_) u.l else u
def shT (fr by_:Int)(t:Tm)(d:Int):Tm:=z0l (z0s fr by_) t d
theorem zqm (fr by_:Int)(u:Tm)(d:Int):(z0s fr by_ u d).k=u.k:=by unfold z0s;split<;>rfl
theorem zte (fr by_:Int)(u:Tm)(d:Int):(z0s fr by_ u d).sz=u.sz:=by
 unfold z0s;split
 · cases u;rfl
 · rfl
theorem zgb (fr by_:Int)(t:Tm)(d:Int):(shT fr by_ t d).sz≤t.sz:=by
 have:=zir (z0s fr by_) 0 (fun u d=>by rw [zte];omega) t d;rw [Nat.mul_zero] at this;exact this
theorem z5r {M M':Int}(h:M≤M'):∀ t:Tm,bd M t→bd M' t:=by
 refine Tm.ind fun t ih hb=> ?_;obtain ⟨k,s,n,l⟩:=t;exact ⟨fun e=>by have:=hb.1 e;omega,z8p fun u hu=>ih u hu (z3e hb.2 hu)⟩
theorem zxx {fr by_ M:Int}(h0:0≤by_)(u:Tm)(d:Int)(hb:bd M u):bd (M+by_) (z0s fr by_ u d):=by
 unfold z0s;split
 · obtain ⟨k,s,n,l⟩:=u;exact ⟨fun e=>by have:=hb.1 e;simp only [Tm.n];omega,z8p fun u hu=>z5r (by omega) u (z3e hb.2 hu)⟩
 · exact z5r (by omega) u hb
theorem shT_bd {fr by_ M:Int}(h0:0≤by_)(t:Tm)(d:Int)(hb:bd M t)(hd:0≤d):bd (M+by_) (shT fr by_ t d):=
 zcb (z0s fr by_) M (M+by_) (d+t.sz) (fun u d' hu _ _=>zxx h0 u d' hu) t d hb hd (Int.le_refl _)
theorem zvl (t:Tm)(by_:Int)(h1: -9223372036854775808≤t.n+by_)(h2:t.n+by_≤9223372036854775807):AC Tryz.prog 100 [aT t,ci by_] [] (aT (.mk t.k t.s (t.n+by_) t.l)) []:=by
 obtain ⟨k,s,n,l⟩:=t;refine AC.vc hP sh lv100 (Nat.le_refl _) (by simp) (by simp) (Eq.mpr (v100 k s n (FTs l) by_ _ _) ?_);rw [w64 (x:=n+by_) h1 h2];exact ⟨.refl _,rfl⟩
theorem c_shift1 (fr by_ d:Int)(u:Tm)(hb:u.k=3→0-M61≤u.n∧u.n≤M61)(hd0:0≤d)(hd1:d≤M61)(hf0:0≤fr)(hf1:fr≤M61)(hb0:0-1≤by_)(hb1:by_≤M61):
  AC Tryz.prog 99 [aT u,ci d, .c (.a (.ep 0 1 0 0)), .c (.a (.ep 1 1 0 0))] [obj1 fr,obj1 by_] (aT (z0s fr by_ u d)) [obj1 fr,obj1 by_]:=by
 obtain ⟨k,s,n,l⟩:=u;simp only [M61,Tm.k,Tm.n] at*;refine AC.vc hP sh lv99 (Nat.le_refl _) (by simp [isLive]) (by simp) (Eq.mpr (v99 k s n (FTs l) d fr by_ _ _) ?_);rw [w64 (by omega) (by omega)];refine z00 (fun h=>z00 (fun h2=> ?_) (fun h2=> ?_)) (fun h=> ?_)
 · have hk:k=3:=by simpa using h
   have h3:d+fr≤n:=of_decide_eq_true h2;have:=hb hk;have e:z0s fr by_ (.mk k s n l) d= .mk k s (n+by_) l:=if_pos ⟨h,h3⟩;rw [e];exact ⟨_,zvl (.mk k s n l) by_ (by simp only [Tm.n];omega) (by simp only [Tm.n];omega), .refl _,rfl⟩
 · have h3:¬d+fr≤n:=of_decide_eq_false h2;have e:z0s fr by_ (.mk k s n l) d= .mk k s n l:=if_neg fun e=>h3 e.2;rw [e];exact ⟨.refl _,rfl⟩
 · have e:z0s fr by_ (.mk k s n l) d= .mk k s n l:=if_neg fun e=>by have:=e.1;rw [show Tm.k (.mk k s n l)=k from rfl,h] at this;cases this
   rw [e];exact ⟨.refl _,rfl⟩
theorem zmt (t:Tm)(fr by_:Int)(hs:t.sz≤B)(hb:bd M61 t)(hf0:0≤fr)(hf1:fr≤M61)(hb0:0-1≤by_)(hb1:by_≤M61):
  AC Tryz.prog 83 [aT t,ci fr,ci by_] [] (aT (shT fr by_ t 0)) []:=by
 have h:=c_wSh fr by_ (z0s fr by_) (fun u _=>bd M61 u∧u.sz≤B) (fun kd s n l d hq hk u hu=>⟨z3e hq.1.2 hu,by have:=Tm.szs_mem hu;have:=hq.2;simp only [Tm.sz] at this;omega⟩)
  (fun u d hk hq h0 h1=>c_shift1 fr by_ d u (by obtain ⟨k,s,n,l⟩:=u;exact hq.1.1) h0 h1 hf0 hf1 hb0 hb1)
  (fun u d hq=>by have:=zgb fr by_ u d;have h1:=(shT fr by_ u d).sz_eq;have:=Tm.szs_length (shT fr by_ u d).l;have:=hq.2;show (shT fr by_ u d).l.length≤_;omega)
  t hs 0 ⟨hb,hs⟩ (Int.le_refl _) (by simp only [B] at hs;omega)
 obtain ⟨k,s,n,l⟩:=t;refine AC.vc hP sh lv83 (Nat.le_refl _) (by simp) (by simp) (Eq.mpr (v83 k s n (FTs l) fr by_ _ _) ?_);exact ⟨_,h, .refl _,rfl⟩
def z2x (i:Int)(s:Tm)(u:Tm)(d:Int):Tm:=
 if (u.k==3)=true then (if u.n<d+i then u else if (u.n==d+i)=true then shT 0 d s 0 else .mk u.k u.s (u.n-1) u.l) else u
def suT (i:Int)(s t:Tm)(d:Int):Tm:=z0l (z2x i s) t d
theorem zwz (i:Int)(s u:Tm)(d:Int):(z2x i s u d).sz≤u.sz+s.sz:=by
 have h3:=zgb 0 d s 0;unfold z2x;split
 · split
   · omega
   · split
     · omega
     · cases u;simp only [Tm.sz,Tm.l];omega
 · omega
theorem suT_sz (i:Int)(s t:Tm)(d:Int):(suT i s t d).sz≤t.sz+nd t*s.sz:=zir _ _ (zwz i s) t d
theorem suT_bd {i M M' D:Int}(s t:Tm)(d:Int)(hb:bd M t)(hs:bd M' s)(hM:M'+D≤M)(hd:0≤d)(hD:d+t.sz≤D)(hi:0≤i)(hM':0≤M):bd M (suT i s t d):=by
 refine zcb (z2x i s) M M D (fun u d' hu h0 h1=> ?_) t d hb hd hD;unfold z2x;split
 · split
   · exact hu
   · split
     · exact z5r (by omega) _ (shT_bd h0 s 0 hs (Int.le_refl _))
     · rename_i h2 h3;obtain ⟨k,s',n,l⟩:=u;have h3':n≠d'+i:=fun e=>h3 (by rw [show Tm.n (.mk k s' n l)=n from rfl,e];simp);have h2':¬n<d'+i:=h2;exact ⟨fun e=>by have:=hu.1 e;simp only [Tm.n];omega,hu.2⟩
 · exact hu
theorem c_subst1 (i d:Int)(s u:Tm)(hs:s.sz≤B)(hbs:bd M61 s)(hb:u.k=3→0-M61≤u.n∧u.n≤M61)(hd0:0≤d)(hd1:d≤M61)(hi0:0≤i)(hi1:i≤M61):
  AC Tryz.prog 125 [aT u,ci d, .c (.a (.ep 0 1 0 0)), .c (.a (.ep 1 4 0 0))] [obj1 i, .arr 4 [fzs (FT s)]] (aT (z2x i s u d)) [obj1 i, .arr 4 [fzs (FT s)]]:=by
 obtain ⟨k,t,n,l⟩:=u;have hsh:=zmt s 0 d hs hbs (Int.le_refl _) (by simp only [M61];omega) (by omega) hd1;rw [zai];simp only [M61,Tm.k,Tm.n] at*;refine AC.vc hP sh lv125 (Nat.le_refl _) (by simp [isLive]) (by simp) (Eq.mpr (v125 k t n (FTs l) d i s.k s.s s.n (FTs s.l) _ _) ?_);rw [w64 (by omega) (by omega)];refine z00 (fun h=> ?_) (fun h=>z00 (fun h2=> ?_) (fun h2=>z00 (fun h3=> ?_) (fun h3=> ?_)))
 · have e:z2x i s (.mk k t n l) d= .mk k t n l:=if_neg fun e=>by rw [show Tm.k (.mk k t n l)=k from rfl] at e;rw [bne,e] at h;cases h
   rw [e];exact ⟨.refl _,rfl⟩
 · have hk:(k==3)=true:=by simpa [bne] using h
   have e:z2x i s (.mk k t n l) d= .mk k t n l:=by rw [z2x,if_pos (show (Tm.k (.mk k t n l)==3)=true from hk),if_pos (show Tm.n (.mk k t n l)<d+i from of_decide_eq_true h2)]
   rw [e];exact ⟨.refl _,rfl⟩
 · have hk:(k==3)=true:=by simpa [bne] using h
   have e:z2x i s (.mk k t n l) d=shT 0 d s 0:=by rw [z2x,if_pos (show (Tm.k (.mk k t n l)==3)=true from hk),if_neg (show¬Tm.n (.mk k t n l)<d+i from of_decide_eq_false h2),if_pos (show (Tm.n (.mk k t n l)==d+i)=true from h3)]
   rw [e];exact ⟨_,hsh, .refl _,rfl⟩
 · have hk:(k==3)=true:=by simpa [bne] using h
   have e:z2x i s (.mk k t n l) d= .mk k t (n-1) l:=by rw [z2x,if_pos (show (Tm.k (.mk k t n l)==3)=true from hk),if_neg (show¬Tm.n (.mk k t n l)<d+i from of_decide_eq_false h2),if_neg (by rw [show Tm.n (.mk k t n l)=n from rfl,h3];simp)];rfl
   have:=hb (by simpa using hk);rw [e];exact ⟨_,zvl (.mk k t n l) (-1) (by simp only [Tm.n];omega) (by simp only [Tm.n];omega), .refl _,rfl⟩
theorem c_subst (t s:Tm)(i:Int)(hs:s.sz≤B)(ht:t.sz+nd t*s.sz≤B)(hb:bd M61 t)(hbs:bd M61 s)(hi0:0≤i)(hi1:i≤M61):
  AC Tryz.prog 112 [aT t,ci i,aT s] [] (aT (suT i s t 0)) []:=by
 have ht':t.sz≤B:=by omega
 have hFT:=zai s;obtain ⟨sk,ss,sn,sl⟩:=s
 have h:=c_wSu i sk ss sn sl (z2x i (.mk sk ss sn sl)) (fun u _=>bd M61 u∧u.sz+nd u*(Tm.mk sk ss sn sl).sz≤B) (fun kd s n l d hq hk u hu=>⟨z3e hq.1.2 hu,by have h2:=hq.2;have:=Nat.mul_le_mul_right (Tm.mk sk ss sn sl).sz (zxt hu);have:=Tm.szs_mem hu;rw [Tm.sz_eq (.mk kd s n l),nd_eq (.mk kd s n l),Nat.add_mul] at h2;simp only [Tm.l] at h2;omega⟩)
  (fun u d hk hq h0 h1=>c_subst1 i d (.mk sk ss sn sl) u hs hbs (by obtain ⟨k,s,n,l⟩:=u;exact hq.1.1) h0 h1 hi0 hi1)
  (fun u d hq=>by have:=suT_sz i (.mk sk ss sn sl) u d;have h1:=(suT i (.mk sk ss sn sl) u d).sz_eq;have:=Tm.szs_length (suT i (.mk sk ss sn sl) u d).l;have:=hq.2;show (suT i (.mk sk ss sn sl) u d).l.length≤_;omega)
  t ht' 0 ⟨hb,ht⟩ (Int.le_refl _) (by simp only [B] at ht';omega)
 obtain ⟨k,s,n,l⟩:=t;refine AC.vc hP sh lv112 (Nat.le_refl _) (by simp) (by simp) (Eq.mpr (v112 k s n (FTs l) i sk ss sn (FTs sl) _ _) ?_);exact ⟨_,h, .refl _,rfl⟩
end Go.AM

set_option maxRecDepth 100000
open Go Go.Proofs
namespace Go.AM
def z4m:Nat→Tm→Tm
 | 0,t=>t
 | n+1,t=>z4m n (.mk 5 [] 0 [t])
theorem zuz (N:Int)(hN:N≤4294967296):∀ (m:Nat) (i k:Int) (s:List UInt8) (n:Int) (rows:List (List FV)) (l:List Tm),0≤i→i+m=N→FV.Le (.sl false 4 rows) (.sl false 4 (FTs l))→
  RPt Tryz.prog 17 0 (aT (z4m m (.mk k s n l))) [] 1 ⟨[(3, .c (.a (.ep 0 4 0 0))),(4, .c (.a (.ep 1 4 0 0))),(6,ci N),(7,ci i)],[(0, .arr 4 [[.a (.fz (.int .i64 k)), .a (.fz (.str s)), .a (.fz (.int .i64 n)), .a (.fz (.sl false 4 rows))]]),(1, .arr 4 [[.a (.fz (.int .i64 0)), .a (.fz (.str [])), .a (.fz (.int .i64 0)), .a (.fz .N)]])],2⟩
 | 0,i,k,s,n,rows,l,h0,hi,hle=>by
  refine RPt.vc hP sh lv17 (Eq.mpr (zv4 ..) ?_);refine z00 (fun h=>absurd (of_decide_eq_true h) (by omega)) (fun _=>⟨leT hle,rfl⟩)
 | m+1,i,k,s,n,rows,l,h0,hi,hle=>by
  refine RPt.vc hP sh lv17 (Eq.mpr (zv4 ..) ?_)
  have h2:=zuz N hN m (i+1) 5 [] 0 [[.int .i64 k, .str s, .int .i64 n, .sl false 4 rows]] [.mk k s n l] (by omega) (by omega) (zvu rfl fun j r t hr ht=>by
   match j,hr,ht with
   | 0,hr,ht=>
    simp only [List.getElem?_cons_zero,Option.some.injEq] at hr ht;subst hr;subst ht;exact leFT hle
   | j+1,hr,_=>simp at hr)
  rw [w64 (x:=i+1) (by omega) (by omega)];refine z00 (fun _=>⟨⟨rfl,by omega⟩, ?_⟩) (fun h=>absurd (of_decide_eq_false h) (by omega));exact h2
theorem zid {n:Int}(h:0≤n):z0g [n,0]=n:=by
 rw [zci];unfold maxI;split<;>omega
theorem zgh (m:Nat)(t:Tm)(hm:m≤4294967296):AC Tryz.prog 17 [ci m,aT t] [] (aT (z4m m t)) []:=by
 obtain ⟨k,s,n,l⟩:=t;refine AC.vc hP sh lv17 (Nat.le_refl _) (by simp) (by simp) (Eq.mpr (v17 m k s n (FTs l) _ _) ?_);rw [zid (by omega)];refine RPt.vc hP sh lv17 (Eq.mpr (zv4 ..) ?_)
 match m,hm with
 | 0,_=>exact z00 (fun h=>absurd (of_decide_eq_true h) (by omega)) (fun _=>⟨.refl _,rfl⟩)
 | m+1,hm=>
  refine z00 (fun _=>⟨⟨rfl,by omega⟩, ?_⟩) (fun h=>absurd (of_decide_eq_false h) (by omega))
  exact zuz ((m+1:Nat):Int) (by omega) m 1 5 [] 0 [[.int .i64 k, .str s, .int .i64 n, .sl false 4 (FTs l)]] [.mk k s n l] (by omega) (by omega) (zvu rfl fun j r t hr ht=>by
   match j,hr,ht with
   | 0,hr,ht=>
    simp only [List.getElem?_cons_zero,Option.some.injEq] at hr ht;subst hr;subst ht;exact leFT (.refl _)
   | j+1,hr,_=>simp at hr)
mutual
def validB:Tm→Bool
 | .mk k s n l=>
  if (k==0)=true then (z8n s||zfg s)&&n==0&&(((FTs l).length:Nat):Int)==0
  else if (k==1)=true then decide (n≥1)&&s==[]&&(((FTs l).length:Nat):Int)==0&&z2w l
  else if (k==2)=true then s==[]&&(((FTs l).length:Nat):Int)==0&&z2w l
  else if (k==3)=true then decide (n≥0)&&decide (n≤4611686018427387904)&&s==[]&&(((FTs l).length:Nat):Int)==0&&z2w l
  else if (k==4)=true then decide (n≥0)&&decide (n≤4611686018427387904)&&s==[]&&(((FTs l).length:Nat):Int)==0&&z2w l
  else if (k==5)=true then n==0&&s==[]&&(((FTs l).length:Nat):Int)==1&&z2w l
  else if (k==6)=true then n==0&&decide ((((FTs l).length:Nat):Int)≥2)&&((l.headD default).k !=6)&&s==[]&&z2w l
  else false
def z2w:List Tm→Bool
 | []=>true
 | t::l=>validB t&&z2w l
end
def zmm:List Tm→Int→Int
 | [],_=> -1
 | t::l,i=>if validB t=true then zmm l (i+1) else i
theorem zpe:∀ (l:List Tm) (i:Int),0≤i→decide (zmm l i≥0)= !z2w l
 | [],_,_=>rfl
 | t::l,i,h=>by
  rw [zmm,z2w];split
  · rename_i e;rw [zpe l (i+1) (by omega),e,Bool.true_and]
  · rename_i e;rw [show validB t=false by simpa using e];simp;omega
theorem zt5:∀ (b a:List Tm),(∀ u∈b,AC Tryz.prog 50 [aT u] [] (cb (!validB u)) [])→(a++b).length≤B→
  RPt Tryz.prog 68 0 (ci (zmm b a.length)) [] 1 ⟨[(0,aL (a++b)),(1, .c (.fn (.func 50) [] [])),(7,ci (((FTs (a++b)).length:Nat):Int)),(8,ci a.length)],[],0⟩
 | [],a,_,_=>by
  refine RPt.vc hP sh lv68 (Eq.mpr (zgn ..) ?_);exact z00 (fun h=>absurd (of_decide_eq_true h) (geI' a)) (fun _=>z3n rfl)
 | t::b,a,ih,hl=>by
  refine RPt.vc hP sh lv68 (Eq.mpr (zgn ..) ?_);have hl':=hl;simp only [List.length_append,List.length_cons,B] at hl';have h1:=ih t List.mem_cons_self;have h2:=zt5 b (a++ [t]) (fun u hu=>ih u (List.mem_cons_of_mem _ hu)) (by rw [ap];exact hl);have h3:=ltI' a t b;rw [ap,nx] at h2;rw [midI,w64 (x:=(a.length:Int)+1) (by omega) (by omega)];refine z00 (fun _=> ?_) (fun h=>absurd h3 (of_decide_eq_false h));obtain ⟨k',s',n',l'⟩:=t;refine ⟨⟨rfl,by omega,h3,rfl⟩,_,h1,z00 (fun h=> ?_) (fun h=> ?_)⟩
  · rw [zmm,if_neg (by simpa using h)];exact z3n rfl
  · rw [zmm,if_pos (by simpa using h)];exact h2
theorem c_contf (l:List Tm)(hl:l.length≤B)(ih:∀ u∈l,AC Tryz.prog 34 [aT u] [] (cb (validB u)) []):AC Tryz.prog 49 [aL l, .c (.fn (.func 50) [] [])] [] (cb (!z2w l)) []:=by
 have h1:∀ u∈l,AC Tryz.prog 50 [aT u] [] (cb (!validB u)) []:=fun u hu=>by
  have h:=ih u hu;obtain ⟨k,s,n,l⟩:=u;refine AC.vc hP sh lv50 (Nat.le_refl _) (by simp) (by simp) (Eq.mpr (v50 k s n (FTs l) _ _) ?_);exact ⟨_,h,z07 rfl⟩
 have h2:AC Tryz.prog 68 [aL l, .c (.fn (.func 50) [] [])] [] (ci (zmm l 0)) []:=by
  refine AC.vc hP sh lv68 (Nat.le_refl _) (by simp) (by simp) (Eq.mpr (v68_F50 ..) ?_);exact ⟨rfl,zt5 l [] h1 hl⟩
 refine AC.vc hP sh lv49 (Nat.le_refl _) (by simp) (by simp) (Eq.mpr (v49_F50 ..) ?_);exact ⟨_,h2,z07 (zpe l 0 (Int.le_refl _))⟩
theorem head0:∀ {l:List Tm},2≤(((FTs l).length:Nat):Int)→List.getD (FTs l) 0 []=FT (l.headD default)
 | [],h=>by simp [FTs] at h
 | t::l,_=>rfl
theorem z3f:∀ t:Tm,t.sz≤B→AC Tryz.prog 34 [aT t] [] (cb (validB t)) []:=by
 refine Tm.ind fun t ih hs=> ?_;have hlen:=Tm.szs_length t.l;obtain ⟨k,s,n,l⟩:=t;simp only [Tm.sz,Tm.l] at hs hlen;have hc:=c_contf l (by omega) fun u hu=>ih u hu (by have:=Tm.szs_mem hu;omega);refine AC.vc hP sh lv34 (Nat.le_refl _) (by simp) (by simp) (Eq.mpr (v34 k s n (FTs l) _ _) ?_)
 refine z00 (fun h0=>⟨_,c_isname s,z00 (fun h1=>z00 (fun h2=>⟨rfl,z07 ?_⟩) (fun h2=>z07 ?_)) (fun h1=>⟨_,c_issym s,z00 (fun h1'=>z00 (fun h2=>⟨rfl,z07 ?_⟩) (fun h2=>z07 ?_)) (fun h1'=>z07 ?_)⟩)⟩)
  (fun h0=>z00 (fun h1=>z00 (fun h2=>z00 (fun h3=>⟨rfl,z00 (fun h4=>⟨_,hc,z07 ?_⟩) (fun h4=>z07 ?_)⟩) (fun h3=>z07 ?_)) (fun h2=>z07 ?_))
  (fun h1=>z00 (fun h2=>z00 (fun h3=>⟨rfl,z00 (fun h4=>⟨_,hc,z07 ?_⟩) (fun h4=>z07 ?_)⟩) (fun h3=>z07 ?_))
  (fun h2=>z00 (fun h3=>z00 (fun h4=>z00 (fun h5=>z00 (fun h6=>⟨rfl,z00 (fun h7=>⟨_,hc,z07 ?_⟩) (fun h7=>z07 ?_)⟩) (fun h6=>z07 ?_)) (fun h5=>z07 ?_)) (fun h4=>z07 ?_))
  (fun h3=>z00 (fun h3'=>z00 (fun h4=>z00 (fun h5=>z00 (fun h6=>⟨rfl,z00 (fun h7=>⟨_,hc,z07 ?_⟩) (fun h7=>z07 ?_)⟩) (fun h6=>z07 ?_)) (fun h5=>z07 ?_)) (fun h4=>z07 ?_))
  (fun h3'=>z00 (fun h5=>z00 (fun h6=>z00 (fun h7=>⟨rfl,z00 (fun h8=>⟨_,hc,z07 ?_⟩) (fun h8=>z07 ?_)⟩) (fun h7=>z07 ?_)) (fun h6=>z07 ?_))
  (fun h5=>z00 (fun h6=>z00 (fun h7=>⟨rfl,z00 (fun h8=> ?app) (fun h8=>⟨rfl,z07 ?_⟩)⟩) (fun h7=>⟨rfl,z07 ?_⟩)) (fun h6=>z07 ?_)))))))
 case app=>
  have h8':=of_decide_eq_true h8;rw [head0 h8',zai];refine ⟨⟨rfl,by omega,by omega,rfl⟩,rfl,z00 (fun h9=>z00 (fun h10=>⟨rfl,z00 (fun h11=>⟨_,hc,z07 ?_⟩) (fun h11=>z07 ?_)⟩) (fun h10=>z07 ?_)) (fun h9=>z07 ?_)⟩
  all_goals (have h9':((l.headD default).k !=6)=_:=h9;simp_all [validB])
 all_goals first
  | (simp_all [validB];done)
  | (simp_all [validB];intros;omega)
end Go.AM

set_option maxRecDepth 100000
open Go Go.Proofs
namespace Go.AM
mutual
theorem zdq {M:Int}:∀ t:Tm,near M t=true→bd M t
 | .mk k s n l,h=>by
  simp only [near,Bool.and_eq_true] at h;refine ⟨fun e=> ?_,zqe l h.2⟩;have:=h.1;rw [e] at this;simp at this;omega
theorem zqe {M:Int}:∀ l:List Tm,znm M l=true→bds M l
 | [],_=>trivial
 | t::l,h=>by
  simp only [znm,Bool.and_eq_true] at h;exact ⟨zdq t h.1,zqe l h.2⟩
end
end Go.AM

set_option maxRecDepth 100000
open Go Go.Proofs

set_option maxRecDepth 100000
open Go Go.Proofs

set_option maxRecDepth 100000
open Go Go.Proofs
namespace Go.AM
theorem zpl (c:Int):AC Tryz.prog 70 [c8 c] [] (cb (z8i c)) []:=by
 refine AC.vc hP sh lv70 (Nat.le_refl _) (by simp) (by simp) (Eq.mpr (v70 ..) ?_);refine z00 (fun h=>z07 ?_) (fun h=>z07 ?_)<;>simp_all [z8i]<;>omega
theorem zr9 (c:Int):AC Tryz.prog 88 [c8 c] [] (cb (zcz c)) []:=by
 refine AC.vc hP sh lv88 (Nat.le_refl _) (by simp) (by simp) (Eq.mpr (v88 ..) ?_);refine z00 (fun h=>z07 ?_) (fun h=>z07 ?_)<;>simp_all [zcz]<;>omega
theorem c_rin (c:Int):AC Tryz.prog 71 [c8 c] [] (cb (z1s c)) []:=by
 refine AC.vc hP sh lv71 (Nat.le_refl _) (by simp) (by simp) (Eq.mpr (v71 ..) ?_)
 have key:(decide (c≥65)&&decide (c≤90))=false→(c==95)=false→z8i c=false→zcz c=false→(c==39)=z1s c:=fun h1 h2 h3 h4=>by
  have e:z9y c=false:=by unfold z9y;rw [h2,show (decide (65≤c)&&decide (c≤90))=false from h1];rfl
  simp only [z1s,h3,h4,e,Bool.false_or]
 have k1:z8i c=true→true=z1s c:=fun h=>by simp only [z1s,h,Bool.true_or]
 have k2:z9y c=true→true=z1s c:=fun h=>by simp only [z1s,h,Bool.true_or,Bool.or_true]
 have k3:zcz c=true→true=z1s c:=fun h=>by simp only [z1s,h,Bool.true_or,Bool.or_true]
 have k4:(c==95)=true→z9y c=true:=fun h=>by unfold z9y;rw [h];simp
 refine ⟨_,zpl c,z00 (fun h=>z07 (k1 h)) (fun h=>z00 (fun h1=>z00 (fun h2=>z07 (k2 ?_)) (fun h2=>⟨_,zr9 c,z00 (fun h3=>z07 (k3 h3)) (fun h3=>z00 (fun h4=>z07 (k2 (k4 h4))) (fun h4=>z07 (key ?_ h4 h h3)))⟩)) (fun h1=>⟨_,zr9 c,z00 (fun h3=>z07 (k3 h3)) (fun h3=>z00 (fun h4=>z07 (k2 (k4 h4))) (fun h4=>z07 (key ?_ h4 h h3)))⟩))⟩
 · unfold z9y;rw [show decide (65≤c)=true from h1,h2];rfl
 · rw [h2];simp
 · rw [h1];simp
theorem sign_any (c:UInt8):z9b (c.toNat:Int)=zio.any fun x=>((x.toNat:Int)==(c.toNat:Int)):=by
 have key:∀ n:Fin 256,z9b (n.val:Int)=zio.any fun x=>((x.toNat:Int)==(n.val:Int)):=by decide+kernel
 exact key ⟨c.toNat,c.toNat_lt⟩
theorem zw8 (c:Int):∀ (b a:List UInt8),a++b=zio→(a.any fun x=>((x.toNat:Int)==c))=false→
  RPt Tryz.prog 72 0 (cb (zio.any fun x=>((x.toNat:Int)==c))) [] 1 ⟨[(0,c8 c),(3,ci a.length)],[],0⟩
 | [],a,hab,ha=>by
  rw [List.append_nil] at hab;subst hab;refine RPt.vc hP sh lv72 (Eq.mpr (v72_1a ..) ?_);exact z00 (fun h=>absurd (of_decide_eq_true h) (by decide)) (fun _=>z07 ha.symm)
 | x::b,a,hab,ha=>by
  have hl:a.length<16:=by
   have:(a++x::b).length=16:=by rw [hab];rfl
   simp at this;omega
  have hg:List.getD zio (Int.toNat (a.length:Int)) 0=x:=by rw [←hab];exact zeq a x b
  refine RPt.vc hP sh lv72 (Eq.mpr (v72_1a ..) ?_);rw [w64 (x:=(a.length:Int)+1) (by omega) (by omega)];refine z00 (fun _=>⟨⟨by omega,by omega⟩,z00 (fun h=>z07 ?_) (fun h=> ?_)⟩) (fun h=>absurd (of_decide_eq_false h) (by omega))
  · have h:(((List.getD zio (Int.toNat (a.length:Int)) 0).toNat:Int)==c)=true:=h;rw [hg] at h;rw [←hab];simp only [List.any_append,List.any_cons,h,Bool.true_or,Bool.or_true]
  · have h:(((List.getD zio (Int.toNat (a.length:Int)) 0).toNat:Int)==c)=false:=h;rw [hg] at h;have:=zw8 c b (a++ [x]) (by rw [ap];exact hab) (by simp only [List.any_append,List.any_cons,List.any_nil,ha,h,Bool.or_self]);rw [nx] at this;exact this
theorem c_rsign (c:UInt8):AC Tryz.prog 72 [c8 (c.toNat:Int)] [] (cb (z9b (c.toNat:Int))) []:=by
 rw [sign_any];refine AC.vc hP sh lv72 (Nat.le_refl _) (by simp) (by simp) (Eq.mpr (v72 ..) ?_);exact zw8 _ zio [] rfl rfl
theorem zk7:∀ (b a:List UInt8),(a++b).length≤B→RPt Tryz.prog 53 0 (cb (b.all fun c=>z1s (c.toNat:Int))) [] 1 ⟨[(0,cs (a++b)),(3,ci a.length)],[],0⟩
 | [],a,_=>by
  refine RPt.vc hP sh lv53 (Eq.mpr (v53_1a ..) ?_);exact z00 (fun h=>absurd (of_decide_eq_true h) (by simp)) (fun _=>z07 rfl)
 | x::b,a,hl=>by
  have hl':=hl;simp only [List.length_append,List.length_cons,B] at hl';have h2:=zk7 b (a++ [x]) (by rw [ap];exact hl);rw [ap,nx] at h2;refine RPt.vc hP sh lv53 (Eq.mpr (v53_1a ..) ?_);rw [zeq,w64 (x:=(a.length:Int)+1) (by omega) (by omega)];refine z00 (fun _=>⟨⟨by omega,ltI a x b⟩,_,c_rin _,z00 (fun h=>z07 ?_) (fun h=> ?_)⟩) (fun h=>absurd (ltI a x b) (of_decide_eq_false h))
  · rw [List.all_cons,show z1s (x.toNat:Int)=false by simpa using h];rfl
  · rw [List.all_cons,show z1s (x.toNat:Int)=true by simpa using h];exact h2
theorem ztv (s:List UInt8):AC Tryz.prog 53 [cs s] [] (cb (z8n s)) []:=by
 refine AC.vc hP sh lv53 (Nat.le_refl _) (by simp) (by simp) (Eq.mpr (v53 ..) ?_);refine z00 (fun h=>z07 ?_) (fun h=>z00 (fun h1=>z07 ?_) (fun h1=> ?_))
 · have h:=of_decide_eq_true h;cases s with
   | nil=>rfl
   | cons c s=>simp at h;omega
 · have h1:=of_decide_eq_true h1;have:zcx s=false:=by simp only [zcx];rw [show decide ((s.length:Int)≤32)=false by simp;omega];simp
   simp only [z8n,this,Bool.false_and]
 · have h:=of_decide_eq_false h;have h1:=of_decide_eq_false h1
   have hf:zcx s=true:=by
    simp only [zcx];cases s with
    | nil=>simp at h
    | cons c s=>simp at h1 ⊢;omega
   refine ⟨⟨by omega,by omega⟩,_,zpl _,z00 (fun h2=>z07 ?_) (fun h2=> ?_)⟩
   · simp only [z8n,show z8i ((s.getD 0 0).toNat:Int)=false by simpa using h2,Bool.and_false,Bool.false_and]
   · have:=zk7 s [] (by simp only [List.nil_append,B];omega);rw [show z8n s=s.all fun c=>z1s (c.toNat:Int) by simp only [z8n,hf,show z8i ((s.getD 0 0).toNat:Int)=true by simpa using h2,Bool.true_and]];exact this
theorem zqk (s:List UInt8):∀ (b a:List UInt8),a++b=s→(s.length≤B)→
  RPt Tryz.prog 54 0 (cb ((b.all fun c=>z9b (c.toNat:Int))&&decide ((s.length:Int)≥1)&&decide ((s.length:Int)≤32))) [] 1 ⟨[(0,cs s),(3,ci a.length)],[],0⟩
 | [],a,hab,_=>by
  rw [List.append_nil] at hab;subst hab;refine RPt.vc hP sh lv54 (Eq.mpr (v54_1a ..) ?_);refine z00 (fun h=>absurd (of_decide_eq_true h) (by omega)) (fun _=>z00 (fun h=>z07 ?_) (fun h=>z07 ?_))
  · rw [h];simp
  · rw [h];simp
 | x::b,a,hab,hl=>by
  have h3:=ltI a x b;have hg:=zeq a x b;rw [hab] at h3 hg;have h2:=zqk s b (a++ [x]) (by rw [ap];exact hab) hl;rw [nx] at h2;simp only [B] at hl;refine RPt.vc hP sh lv54 (Eq.mpr (v54_1a ..) ?_);rw [hg,w64 (x:=(a.length:Int)+1) (by omega) (by omega)];refine z00 (fun _=>⟨⟨by omega,h3⟩,_,c_rsign x,z00 (fun h=>z07 ?_) (fun h=> ?_)⟩) (fun h=>absurd h3 (of_decide_eq_false h))
  · rw [List.all_cons,show z9b (x.toNat:Int)=false by simpa using h];rfl
  · rw [List.all_cons,show z9b (x.toNat:Int)=true by simpa using h];exact h2
theorem sym_eq (s:List UInt8):zfg s=(s==[44]||s==[59]||s==[33]||((s.all fun c=>z9b (c.toNat:Int))&&decide ((s.length:Int)≥1)&&decide ((s.length:Int)≤32))):=by
 match s with
 | []=>rfl
 | [c]=>
  have key:∀ n:Fin 256,zfg [n.val.toUInt8]=([n.val.toUInt8]==[44] || [n.val.toUInt8]==[59] || [n.val.toUInt8]==[33]||(([n.val.toUInt8].all fun c=>z9b (c.toNat:Int))&&decide ((([n.val.toUInt8].length:Nat):Int)≥1)&&decide ((([n.val.toUInt8].length:Nat):Int)≤32))):=by decide+kernel
  have e:c.toNat.toUInt8=c:=by simp
  have:=key ⟨c.toNat,c.toNat_lt⟩;simp only [e] at this;exact this
 | c::d::s=>
  have h2:∀ x:UInt8,((c::d::s:List UInt8)==[x])=false:=fun x=>by simp
  simp only [zfg,zcx,h2,Bool.false_or];rw [show (((c::d::s).length:Int)==1)=false by simp;omega,show decide (((c::d::s).length:Int)≥1)=true by simp;omega];simp [Bool.and_comm]
theorem c_rissym (s:List UInt8)(hl:s.length≤B):AC Tryz.prog 54 [cs s] [] (cb (zfg s)) []:=by
 rw [sym_eq];refine AC.vc hP sh lv54 (Nat.le_refl _) (by simp) (by simp) (Eq.mpr (v54 ..) ?_);refine z00 (fun h=>z07 ?_) (fun h=>z00 (fun h1=>z07 ?_) (fun h1=>z00 (fun h2=>z07 ?_) (fun h2=> ?_)))
 · rw [h];rfl
 · rw [h,h1];rfl
 · rw [h,h1,h2];rfl
 · rw [h,h1,h2,Bool.false_or,Bool.false_or,Bool.false_or];exact zqk s s [] rfl hl
end Go.AM

set_option maxRecDepth 100000
open Go Go.Proofs
namespace Go.AM
theorem c_rinner (t:Tm):AC Tryz.prog 55 [aT t] [] (cb t.inner) []:=by
 obtain ⟨k,s,n,l⟩:=t;refine AC.vc hP sh lv55 (Nat.le_refl _) (by simp) (by simp) (Eq.mpr (v55 k s n (FTs l) _ _) ?_);refine z00 (fun h=>z07 ?_) (fun h=>z07 ?_)
 · unfold Tm.inner;simp only [Tm.k,h,Bool.true_or]
 · unfold Tm.inner;simp only [Tm.k,h,Bool.false_or]
theorem c_runder (t:Tm)(k:Int)(h0:0≤k)(h1:k≤4611686018427387904):AC Tryz.prog 56 [aT t,ci k] [] (ci (k+t.by)) []:=by
 obtain ⟨kd,s,n,l⟩:=t;refine AC.vc hP sh lv56 (Nat.le_refl _) (by simp) (by simp) (Eq.mpr (v56 kd s n (FTs l) k _ _) ?_);rw [w64 (x:=k+1) (by omega) (by omega)];refine z00 (fun h=>z3n ?_) (fun h=>z3n ?_)
 · unfold Tm.by;simp only [Tm.k,h,if_true]
 · unfold Tm.by;simp only [Tm.k,h,Bool.false_eq_true,if_false];omega
theorem zr2 (kd:Int)(s:List UInt8)(n:Int):∀ (b a:List Tm) (ok:Bool),(∀ u∈b,AC Tryz.prog 36 [aT u] [] (cb (validB u)) [])→(a++b).length≤B→
  RPt Tryz.prog 36 0 (cb (ok&&z2w b)) [] 3 ⟨[(1, .c (.a (.ep 0 4 0 0))),(3,cb ok),(7,ci a.length)],[(0, .arr 4 [fzs (FT (.mk kd s n (a++b)))])],1⟩
 | [],a,ok,_,_=>by
  refine RPt.vc hP sh lv36 (Eq.mpr (v36_3a ..) ?_);exact ⟨rfl,z00 (fun h=>absurd (of_decide_eq_true h) (geI' a)) (fun _=>z07 (by simp [z2w]))⟩
 | t::b,a,ok,ih,hl=>by
  refine RPt.vc hP sh lv36 (Eq.mpr (v36_3a ..) ?_);have hl':=hl;simp only [List.length_append,List.length_cons,B] at hl';have h1:=ih t List.mem_cons_self;have h2:=zr2 kd s n b (a++ [t]) (validB t) (fun u hu=>ih u (List.mem_cons_of_mem _ hu)) (by rw [ap];exact hl);have h3:=ltI' a t b;rw [ap,nx] at h2;rw [midI,w64 (x:=(a.length:Int)+1) (by omega) (by omega)];refine ⟨rfl,z00 (fun _=>z00 (fun hk=> ?_) (fun hk=>z07 (by rw [hk];rfl))) (fun h=>absurd h3 (of_decide_eq_false h))⟩;rw [hk,z2w,Bool.true_and];obtain ⟨k',s',n',l'⟩:=t;exact ⟨⟨rfl,by omega,h3,rfl⟩,_,h1,h2⟩
theorem c_rvalid:∀ t:Tm,t.bk≤B→AC Tryz.prog 36 [aT t] [] (cb (validB t)) []:=by
 refine Tm.ind fun t ih hs=> ?_;have hlen:=Nat.le_trans (Tm.szs_length t.l) (Tm.szs_bks t.l);obtain ⟨k,s,n,l⟩:=t;simp only [Tm.bk,Tm.l] at hs hlen
 have loop:∀ ok:Bool,(ok&&z2w l)=validB (.mk k s n l)→RPt Tryz.prog 36 0 (cb (validB (.mk k s n l))) [] 3 ⟨[(1, .c (.a (.ep 0 4 0 0))),(3,cb ok),(7,ci 0)],[(0, .arr 4 [fzs (FT (.mk k s n l))])],1⟩:=fun ok h=>by
  have:=zr2 k s n l [] ok (fun u hu=>ih u hu (by have:=Tm.bks_mem hu;omega)) (by simp only [List.nil_append];omega);rw [h] at this;exact this
 refine AC.vc hP sh lv36 (Nat.le_refl _) (by simp) (by simp) (Eq.mpr (v36 k s n (FTs l) _ _) ?_)
 refine z00 (fun h0=>⟨_,ztv s,_,c_rissym s (by omega),z00 (fun h1=>z00 (fun h2=>⟨rfl,z07 ?_⟩) (fun h2=>z07 ?_)) (fun h1=>z00 (fun h1'=>z00 (fun h2=>⟨rfl,z07 ?_⟩) (fun h2=>z07 ?_)) (fun h1'=>z07 ?_))⟩)
  (fun h0=>z00 (fun h1=>z00 (fun h2=>z00 (fun h3=>⟨rfl,loop _ ?_⟩) (fun h3=>loop _ ?_)) (fun h2=>loop _ ?_))
  (fun h1=>z00 (fun h2=>z00 (fun h3=>⟨rfl,loop _ ?_⟩) (fun h3=>loop _ ?_))
  (fun h2=>z00 (fun h3=>z00 (fun h4=>z00 (fun h5=>z00 (fun h6=>⟨rfl,loop _ ?_⟩) (fun h6=>loop _ ?_)) (fun h5=>loop _ ?_)) (fun h4=>loop _ ?_))
  (fun h3=>z00 (fun h3'=>z00 (fun h4=>z00 (fun h5=>z00 (fun h6=>⟨rfl,loop _ ?_⟩) (fun h6=>loop _ ?_)) (fun h5=>loop _ ?_)) (fun h4=>loop _ ?_))
  (fun h3'=>z00 (fun h5=>z00 (fun h6=>z00 (fun h7=>⟨rfl,loop _ ?_⟩) (fun h7=>loop _ ?_)) (fun h6=>loop _ ?_))
  (fun h5=>z00 (fun h6=>z00 (fun h7=>⟨rfl,z00 (fun h8=> ?app) (fun h8=>⟨rfl,loop _ ?_⟩)⟩) (fun h7=>⟨rfl,loop _ ?_⟩)) (fun h6=>loop _ ?_)))))))
 case app=>
  have h8':=of_decide_eq_true h8;rw [head0 h8',zai];refine ⟨⟨rfl,by omega,by omega,rfl⟩,rfl,z00 (fun h9=>z00 (fun h10=>⟨rfl,loop _ ?_⟩) (fun h10=>loop _ ?_)) (fun h9=>loop _ ?_)⟩
  all_goals (have h9':((l.headD default).k !=6)=_:=h9;clear loop ih hs hlen h9;simp_all [validB])
 all_goals clear loop ih hs hlen
 all_goals first
  | (simp_all [validB];done)
  | (simp_all [validB];intros;omega)
theorem zpq:∀ (b a b' a':List Tm),(∀ u∈b,∀ v:Tm,AC Tryz.prog 79 [aT u,aT v] [] (cb (z1b u v)) [])→(a++b).length≤B→a.length=a'.length→b.length=b'.length→
  RPt Tryz.prog 96 0 (cb (z8e b b')) [] 1 ⟨[(1,aL (a'++b')),(2, .c (.fn (.func 79) [] [])),(15,aL (a++b)),(16,ci (((FTs (a++b)).length:Nat):Int)),(17,ci a.length)],[],0⟩
 | [],a,[],a',_,_,_,_=>by
  refine RPt.vc hP sh lv96 (Eq.mpr (zgi ..) ?_);exact z00 (fun h=>absurd (of_decide_eq_true h) (geI' a)) (fun _=>z07 rfl)
 | t::b,a,t'::b',a',ih,hl,ha,hb=>by
  refine RPt.vc hP sh lv96 (Eq.mpr (zgi ..) ?_);have hl':=hl;simp only [List.length_append,List.length_cons,B] at hl';simp only [List.length_cons] at hb;have h1:=ih t List.mem_cons_self t';have h2:=zpq b (a++ [t]) b' (a'++ [t']) (fun u hu=>ih u (List.mem_cons_of_mem _ hu)) (by rw [ap];exact hl) (by simp [ha]) (by omega);have h3:=ltI' a t b;have h4:=ltI' a' t' b';rw [←ha] at h4;rw [ap,ap,nx] at h2;rw [midI,midI' a a' ha,w64 (x:=(a.length:Int)+1) (by omega) (by omega)];refine z00 (fun _=> ?_) (fun h=>absurd h3 (of_decide_eq_false h));obtain ⟨k1,s1,n1,l1⟩:=t;obtain ⟨k2,s2,n2,l2⟩:=t';refine ⟨⟨rfl,by omega,h3,rfl⟩,⟨rfl,by omega,h4,rfl⟩,_,h1,z00 (fun h=>z07 ?_) (fun h=> ?_)⟩
  · rw [z8e,show z1b (.mk k1 s1 n1 l1) (.mk k2 s2 n2 l2)=false by simpa using h];rfl
  · rw [z8e,show z1b (.mk k1 s1 n1 l1) (.mk k2 s2 n2 l2)=true by simpa using h];exact h2
theorem c_same:∀ a:Tm,a.sz≤B→∀ b:Tm,AC Tryz.prog 79 [aT a,aT b] [] (cb (z1b a b)) []:=by
 refine Tm.ind fun a ih hs b=> ?_;have hlen:=Tm.szs_length a.l;obtain ⟨k1,s1,n1,l1⟩:=a;obtain ⟨k2,s2,n2,l2⟩:=b;simp only [Tm.sz,Tm.l] at hs hlen
 have he:AC Tryz.prog 96 [aL l1,aL l2, .c (.fn (.func 79) [] [])] [] (cb (z8e l1 l2)) []:=by
  refine AC.vc hP sh lv96 (Nat.le_refl _) (by simp) (by simp) (Eq.mpr (v96_F79 ..) ?_);refine ⟨rfl,rfl,z00 (fun h=>z07 ?_) (fun h=>⟨rfl, ?_⟩)⟩
  · rw [z01,z01] at h;exact (zd8 (fun e=>by rw [e] at h;simp at h)).symm
  · rw [z01,z01] at h
    exact zpq l1 [] l2 [] (fun u hu v=>ih u hu (by have:=Tm.szs_mem hu;omega) v) (by simp only [List.nil_append];omega) rfl (by have:(l1.length:Int)=l2.length:=by simpa using h
                                                                                                                                omega)
 refine AC.vc hP sh lv79 (Nat.le_refl _) (by simp) (by simp) (Eq.mpr (v79 k1 s1 n1 (FTs l1) k2 s2 n2 (FTs l2) _ _) ?_);refine z00 (fun h=>z00 (fun h1=>z00 (fun h2=>⟨_,he,z07 ?_⟩) (fun h2=>z07 ?_)) (fun h1=>z07 ?_)) (fun h=>z07 ?_)
 all_goals simp only [z1b]
 all_goals simp_all
end Go.AM

set_option maxRecDepth 100000
open Go Go.Proofs
namespace Go.AM
mutual
def z70:Tm→Int→Int
 | .mk kd _ n l,k=>if (kd==3)=true then maxI 0 (n-k+1) else if (kd==5||kd==6)=true then z5d l (k+if (kd==5)=true then 1 else 0) else 0
def z5d:List Tm→Int→Int
 | [],_=>0
 | t::l,k=>maxI (z70 t k) (z5d l k)
end
theorem zb7 (a b c:Int):maxI (maxI a b) c=maxI a (maxI b c):=by
 unfold maxI;(repeat' split)<;>omega
theorem zvq {a:Int}(h:0≤a):maxI a 0=a:=by unfold maxI;split<;>omega
theorem maxI_ge2 (a b:Int):b≤maxI a b:=by unfold maxI;split<;>omega
theorem zb0:∀ (l:List Tm) (k:Int),0≤z5d l k
 | [],_=>Int.le_refl _
 | t::l,k=>by rw [z5d];exact Int.le_trans (zb0 l k) (maxI_ge2 _ _)
theorem zu8 (a b:Int):a≤maxI a b:=by unfold maxI;split<;>omega
mutual
theorem zkh:∀ (t:Tm) (k acc:Int),0≤acc→z1v t k acc=maxI acc (z70 t k)
 | .mk kd _ n l,k,acc,h=>by
  simp only [z1v,z70];by_cases h5:(kd==5)=true
  · have e:kd=5:=by simpa using h5
    subst e;simp [zb8 l _ acc h]
  · by_cases h6:(kd==6)=true
    · have e:kd=6:=by simpa using h6
      subst e;simp [zb8 l _ acc h]
    · have e5:(kd==5)=false:=by simpa using h5
      have e6:(kd==6)=false:=by simpa using h6
      rw [if_neg h5,if_neg h6];by_cases h3:(kd==3)=true
      · rw [if_pos h3,if_pos h3,←zb7,zvq h]
      · rw [if_neg h3,if_neg h3,if_neg (by rw [e5,e6];simp),zvq h]
theorem zb8:∀ (l:List Tm) (k acc:Int),0≤acc→z4r l k acc=maxI acc (z5d l k)
 | [],_,acc,h=>by rw [z4r,z5d,zvq h]
 | t::l,k,acc,h=>by
  have h1:=zkh t k acc h;rw [z4r,z5d,h1,zb8 l k _ (Int.le_trans h (zu8 _ _)),zb7]
end
theorem zoo (kd:Int)(s:List UInt8)(n:Int)(is:Bool)(k:Int)(h0:0≤k)(hk:k≤2305843009213693952):∀ (b a:List Tm) (acc:Int),(∀ u∈b,AC Tryz.prog 37 [aT u,ci (k+Tm.by (.mk kd s n []))] [] (ci (z70 u (k+Tm.by (.mk kd s n [])))) [])→(a++b).length≤B→0≤acc→
  RPt Tryz.prog 37 0 (ci (maxI acc (if is=true then z5d b (k+Tm.by (.mk kd s n [])) else 0))) [] 1 ⟨[(1,ci k),(2, .c (.a (.ep 0 4 0 0))),(5,ci acc),(6,cb is),(7,ci a.length)],[(0, .arr 4 [fzs (FT (.mk kd s n (a++b)))])],1⟩
 | [],a,acc,_,_,ha=>by
  refine RPt.vc hP sh lv37 (Eq.mpr (v37_1a ..) ?_);exact ⟨rfl,z00 (fun h=>absurd (of_decide_eq_true h) (geI' a)) (fun _=>z3n (by cases is<;>simp [z5d,zvq ha]))⟩
 | t::b,a,acc,ih,hl,ha=>by
  have hl':=hl;simp only [List.length_append,List.length_cons,B] at hl';have h1:=ih t List.mem_cons_self;have hu:=c_runder (.mk kd s n (a++t::b)) k h0 (by omega);have h2:=zoo kd s n is k h0 hk b (a++ [t]) (maxI acc (z70 t (k+Tm.by (.mk kd s n [])))) (fun u hu=>ih u (List.mem_cons_of_mem _ hu)) (by rw [ap];exact hl) (Int.le_trans ha (zu8 _ _));have h3:=ltI' a t b;rw [ap,nx] at h2;refine RPt.vc hP sh lv37 (Eq.mpr (v37_1a ..) ?_);rw [midI,w64 (x:=(a.length:Int)+1) (by omega) (by omega)];refine ⟨rfl,z00 (fun _=>z00 (fun hk=> ?_) (fun hk=>z3n (by rw [hk];simp [zvq ha]))) (fun h=>absurd h3 (of_decide_eq_false h))⟩;rw [hk] at h2 ⊢;rw [if_pos rfl] at h2;rw [if_pos rfl,z5d,←zb7];obtain ⟨k',s',n',l'⟩:=t;refine ⟨⟨rfl,by omega,h3,rfl⟩,_,hu,_,h1, ?_⟩;rw [zci];exact h2
theorem c_rloose:∀ t:Tm,t.sz≤B→bd 2305843009213693952 t→∀ k:Int,0≤k→k+t.sz≤2305843009213693952→AC Tryz.prog 37 [aT t,ci k] [] (ci (z70 t k)) []:=by
 refine Tm.ind fun t ih hs hb k h0 h1=> ?_;have hlen:=Tm.szs_length t.l;have hi:=c_rinner t;obtain ⟨kd,s,n,l⟩:=t;simp only [Tm.sz,Tm.l] at hs hlen h1;refine AC.vc hP sh lv37 (Nat.le_refl _) (by simp) (by simp) (Eq.mpr (v37 kd s n (FTs l) k _ _) ?_);refine z00 (fun h=>z3n ?_) (fun h=>⟨_,hi, ?_⟩)
 · have:=hb.1 (by simpa using h);rw [w64 (x:=n-k) (by omega) (by omega),w64 (x:=n-k+1) (by omega) (by omega),zci,z70,if_pos h]
 · have hby:0≤Tm.by (.mk kd s n [])∧Tm.by (.mk kd s n [])≤1:=by unfold Tm.by;split<;>omega
   have:=zoo kd s n (Tm.inner (.mk kd s n l)) k h0 (by omega) l [] 0 (fun u hu=>ih u hu (by have:=Tm.szs_mem hu;omega) (z3e hb.2 hu) _ (by omega) (by have:=Tm.szs_mem hu;omega)) (by simp only [List.nil_append];omega) (Int.le_refl _);rw [show z70 (.mk kd s n l) k=maxI 0 (if Tm.inner (.mk kd s n l)=true then z5d l (k+Tm.by (.mk kd s n [])) else 0) from ?_]
   · exact this
   · rw [z70,if_neg (by rw [h];simp)];have e:Tm.by (.mk kd s n [])=if (kd==5)=true then 1 else 0:=rfl
     rw [e];show (if (kd==5||kd==6)=true then _ else _)=maxI 0 (if (kd==5||kd==6)=true then _ else _)
     split
     · have:=zb0 l (k+if (kd==5)=true then 1 else 0)
       unfold maxI;rw [if_pos this]
     · unfold maxI;rfl
end Go.AM

set_option maxRecDepth 100000
open Go Go.Proofs
namespace Go.AM
mutual
def occF:Tm→Int→Nat
 | .mk k _ n l,i=>if (k==3)=true∧(n==i)=true then 1 else occL l (i+if (k==5)=true then 1 else 0)
def occL:List Tm→Int→Nat
 | [],_=>0
 | t::l,i=>occF t i+occL l i
end
mutual
theorem zv5:∀ (t:Tm) (i:Int),occF t i≤t.sz
 | .mk k s n l,i=>by
  rw [occF];have:=zo1 l (i+if (k==5)=true then 1 else 0)
  split<;>simp only [Tm.sz]<;>omega
theorem zo1:∀ (l:List Tm) (i:Int),occL l i≤Tm.szs l
 | [],_=>Nat.le_refl _
 | t::l,i=>by have:=zv5 t i;have:=zo1 l i;simp only [occL,Tm.szs];omega
end
theorem zp8 (i:Int):∀ (b a:List Tm) (acc:Nat),(∀ u∈b,AC Tryz.prog 111 [aT u,ci i] [] (ci (occF u i)) [])→(a++b).length≤B→acc+occL b i≤2*B→
  RPt Tryz.prog 111 0 (ci ((acc+occL b i:Nat):Int)) [] 3 ⟨[(1,ci i),(5,ci acc),(21,aL (a++b)),(22,ci (((FTs (a++b)).length:Nat):Int)),(23,ci a.length)],[],0⟩
 | [],a,acc,_,_,_=>by
  refine RPt.vc hP sh zy8 (Eq.mpr (zxk ..) ?_);exact z00 (fun h=>absurd (of_decide_eq_true h) (geI' a)) (fun _=>z3n (by simp [occL]))
 | t::b,a,acc,ih,hl,ha=>by
  have hl':=hl;simp only [List.length_append,List.length_cons,B] at hl';simp only [occL,B] at ha;have h1:=ih t List.mem_cons_self;have h2:=zp8 i b (a++ [t]) (acc+occF t i) (fun u hu=>ih u (List.mem_cons_of_mem _ hu)) (by rw [ap];exact hl) (by simp only [B];omega);have h3:=ltI' a t b;rw [ap,nx] at h2;refine RPt.vc hP sh zy8 (Eq.mpr (zxk ..) ?_);rw [midI,w64 (x:=(a.length:Int)+1) (by omega) (by omega)];refine z00 (fun _=> ?_) (fun h=>absurd h3 (of_decide_eq_false h));rw [occL,←Nat.add_assoc];obtain ⟨k',s',n',l'⟩:=t;refine ⟨⟨rfl,by omega,h3,rfl⟩,_,h1, ?_⟩;rw [w64 (by omega) (by omega),show (acc:Int)+((occF (.mk k' s' n' l') i:Nat):Int)=((acc+occF (.mk k' s' n' l') i:Nat):Int) by omega];exact h2
theorem zr1:∀ t:Tm,t.sz≤B→∀ i:Int,0-2305843009213693952≤i→i+t.sz≤2305843009213693952→AC Tryz.prog 111 [aT t,ci i] [] (ci (occF t i)) []:=by
 refine Tm.ind fun t ih hs i h0 h1=> ?_;have hlen:=Tm.szs_length t.l;obtain ⟨k,s,n,l⟩:=t;simp only [Tm.sz,Tm.l,B] at hs hlen h1
 have loop:∀ j:Int,0-2305843009213693952≤j→j+Tm.szs l≤2305843009213693952→RPt Tryz.prog 111 0 (ci (occL l j)) [] 3 ⟨[(1,ci j),(5,ci 0),(21,aL l),(22,ci (((FTs l).length:Nat):Int)),(23,ci 0)],[],0⟩:=fun j hj0 hj1=>by
  have hle:=zo1 l j;have:=zp8 j l [] 0 (fun u hu=>ih u hu (by have:=Tm.szs_mem hu;simp only [B];omega) j hj0 (by have:=Tm.szs_mem hu;omega)) (by simp only [List.nil_append,B];omega) (by simp only [B];omega);rw [Nat.zero_add] at this;exact this
 refine AC.vc hP sh zy8 (Nat.le_refl _) (by simp) (by simp) (Eq.mpr (v111 k s n (FTs l) i _ _) ?_);have no:∀ (c:¬((k==3)=true∧(n==i)=true)),occF (.mk k s n l) i=occL l (i+if (k==5)=true then 1 else 0):=fun c=>by rw [occF,if_neg c]
 refine z00 (fun h=>z00 (fun h2=>z3n ?_) (fun h2=>⟨rfl, ?_⟩)) (fun h=>z00 (fun h2=>⟨rfl, ?_⟩) (fun h2=>⟨rfl, ?_⟩))
 · rw [occF,if_pos ⟨h,h2⟩];rfl
 · have e:k=3:=by simpa using h
   rw [no (fun c=>by rw [c.2] at h2;cases h2)];subst e;rw [show (i+if ((3:Int)==5)=true then 1 else 0)=i by simp]
   exact loop i (by omega) (by omega)
 · rw [no (fun c=>by rw [c.1] at h;cases h),if_pos h2,w64 (by omega) (by omega)];exact loop (i+1) (by omega) (by omega)
 · rw [no (fun c=>by rw [c.1] at h;cases h),if_neg (by rw [h2];simp),Int.add_zero];exact loop i (by omega) (by omega)
theorem znr:(∀ es:List (List FV),es ≠ []→es.length≤B→AC Tryz.prog 43 [.c (.a (.fz (.sl false 4 es)))] [] (.c (.a (.osl 0 4 0 es.length))) [.arz 4 es])∧AC Tryz.prog 43 [.c (.a (.fz (.sl false 4 [])))] [] (.c (.a (.fz (.sl false 4 [])))) []:=by
 have h0:AC Tryz.prog 43 [.c (.a (.fz .N))] [] (.c (.a (.fz .N))) []:=by
  refine AC.vc hP sh lv43 (Nat.le_refl _) (by simp) (by simp) (Eq.mpr (v43 ..) ?_);exact ⟨.refl _,rfl⟩
 have h1:∀ es:List (List FV),es.length≤B→AC Tryz.prog 43 [.c (.a (.fz (.sl true 4 es)))] [] (.c (.a (.osl 0 4 0 es.length))) [.arz 4 es]:=fun es hl=>by
  refine AC.vc hP sh lv43 (by simp) (by simp) (by simp [isLive]) (Eq.mpr (v43_i1 ..) ?_);refine ⟨rfl,⟨by omega,by rw [Nat.zero_add];exact z6g (by simp only [B] at hl;omega)⟩, ?_⟩;rw [Nat.zero_add];exact ⟨.refl _,rfl⟩
 exact AC.clone_le h0 h1
theorem zwp (t:Tm)(hs:t.sz≤B)(i:Int)(h0:0-2305843009213693952≤i)(h1:i+t.sz≤2305843009213693952):AC Tryz.prog 98 [aT t,ci i] [] (ci (if validB t=true then (occF t i:Int) else 0)) []:=by
 have hv:=z3f t hs;have ho:=zr1 t hs i h0 h1;obtain ⟨k,s,n,l⟩:=t;refine AC.vc hP sh lv98 (Nat.le_refl _) (by simp) (by simp) (Eq.mpr (v98 k s n (FTs l) i _ _) ?_);refine ⟨_,hv,z00 (fun h=>z3n ?_) (fun h=>⟨_,ho,z3n ?_⟩)⟩
 · rw [if_neg (by simpa using h)]
 · rw [if_pos (by simpa using h)]
end Go.AM

set_option maxRecDepth 100000
open Go Go.Proofs
namespace Go.AM
abbrev aTE (t:Tm)(e:Int):TV:= .tup [(true,[.a (.fz (.int .i64 t.k)), .a (.fz (.str t.s)), .a (.fz (.int .i64 t.n)), .a (.fz (.sl false 4 (FTs t.l)))]),(false,[.a (.fz (.int .i64 e))])]
abbrev noT:Tm:= .mk 0 [] 0 []
theorem leTE {k n e:Int}{s:List UInt8}{x:FV}{l:List Tm}(h:FV.Le x (.sl false 4 (FTs l))):TV.Le (.tup [(true,[.a (.fz (.int .i64 k)), .a (.fz (.str s)), .a (.fz (.int .i64 n)), .a (.fz x)]),(false,[.a (.fz (.int .i64 e))])]) (aTE (.mk k s n l) e):=by
 refine .tup _ _ rfl fun i p q hp hq=> ?_
 match i,hp,hq with
 | 0,hp,hq=>
  simp only [List.getElem?_cons_zero,Option.some.injEq] at hp hq;subst hp;subst hq;refine ⟨rfl,rfl,fun j x y hx hy=> ?_⟩
  match j,hx,hy with
  | 0,hx,hy=>simp at hx hy;subst hx;subst hy;exact .refl _
  | 1,hx,hy=>simp at hx hy;subst hx;subst hy;exact .refl _
  | 2,hx,hy=>simp at hx hy;subst hx;subst hy;exact .refl _
  | 3,hx,hy=>simp at hx hy;subst hx;subst hy;exact .a _ _ (.fz _ _ h)
  | j+4,hx,_=>simp at hx
 | 1,hp,hq=>
  simp only [List.getElem?_cons_zero,List.getElem?_cons_succ,Option.some.injEq] at hp hq;subst hp;subst hq;refine ⟨rfl,rfl,fun j x y hx hy=> ?_⟩
  match j,hx,hy with
  | 0,hx,hy=>simp at hx hy;subst hx;subst hy;exact .refl _
  | j+1,hx,_=>simp at hx
 | i+2,hp,_=>simp at hp
def z4z (body arg:Tm):Bool:= !decide ((z44 body:Int)+(occF body 0:Int)*(z44 arg:Int)>4096)
def conF (body arg:Tm):Tm:=if z4z body arg=true then suT 0 arg body 0 else noT
def conE (body arg:Tm):Int:=if z4z body arg=true then 0 else 80
end Go.AM

set_option maxRecDepth 100000
open Go Go.Proofs
namespace Go.AM
def hd (l:List Tm):Tm:=l.headD default
def z3v (t:Tm):Bool:=t.k==6&&(hd t.l).k==5
mutual
def okB:Tm→Bool
 | .mk k s n l=>(if (k==6)=true then decide (2≤l.length)&&(hd l).k !=6&&(s==[]&&n==0) else if (k==5)=true then decide (l.length=1)&&(s==[]&&n==0) else decide (l.length=0))&&okL l
def okL:List Tm→Bool
 | []=>true
 | t::l=>okB t&&okL l
end
theorem z5a:∀ {l:List Tm} {t:Tm},okL l=true→t∈l→okB t=true
 | x::l,t,h,hm=>by
  simp only [okL,Bool.and_eq_true] at h;rcases List.mem_cons.1 hm with rfl | hm
  · exact h.1
  · exact z5a h.2 hm
theorem zk1:∀ {l:List Tm},(∀ t∈l,okB t=true)→okL l=true
 | [],_=>rfl
 | t::l,h=>by simp only [okL,h t List.mem_cons_self,zk1 (l:=l) fun u hu=>h u (List.mem_cons_of_mem _ hu),Bool.and_self]
theorem okB6 {k n:Int}{s:List UInt8}{l:List Tm}(h:okB (.mk k s n l)=true)(hk:k=6):∃ x y r,l=x::y::r∧x.k≠6∧okL l=true:=by
 subst hk;simp only [okB,Bool.and_eq_true] at h
 match l,h with
 | [],h=>simp at h
 | [x],h=>simp at h
 | x::y::r,h=>exact ⟨x,y,r,rfl,by have:=h.1;simp [hd] at this;exact this.1,h.2⟩
theorem okB5 {k n:Int}{s:List UInt8}{l:List Tm}(h:okB (.mk k s n l)=true)(hk:k=5):∃ x,l=[x]∧okB x=true:=by
 subst hk;simp only [okB,Bool.and_eq_true] at h
 match l,h with
 | [],h=>simp at h
 | [x],h=>exact ⟨x,rfl,by have:=h.2;simpa [okL] using this⟩
 | x::y::r,h=>simp at h
theorem okB0 {k n:Int}{s:List UInt8}{l:List Tm}(h:okB (.mk k s n l)=true)(h5:k≠5)(h6:k≠6):l=[]:=by
 simp only [okB,Bool.and_eq_true] at h;have:=h.1;rw [if_neg (by simpa using h6),if_neg (by simpa using h5)] at this;exact List.eq_nil_of_length_eq_zero (by simpa using this)
theorem okB_sn {k n:Int}{s:List UInt8}{l:List Tm}(h:okB (.mk k s n l)=true)(hk:k=5∨k=6):s=[]∧n=0:=by
 simp only [okB,Bool.and_eq_true] at h;have h:=h.1;rcases hk with rfl | rfl
 · simp at h;exact h.2
 · simp at h;exact h.2
theorem zc5 {t:Tm}(h:okB t=true):okL t.l=true:=by
 obtain ⟨k,s,n,l⟩:=t;simp only [okB,Bool.and_eq_true] at h;exact h.2
mutual
theorem z04:∀ t:Tm,validB t=true→okB t=true
 | .mk k s n l,h=>by
  rw [okB];have hl:=zjb l;rw [validB] at h;split at h
  · rename_i e;have e:k=0:=by simpa using e
    subst e;rw [lenI] at h;have:l=[]:=by simp at h;exact h.2
    subst this;rfl
  split at h
  · rename_i e;have e:k=1:=by simpa using e
    subst e;rw [lenI] at h;have:l=[]:=by simp at h;exact h.1.2
    subst this;rfl
  split at h
  · rename_i e;have e:k=2:=by simpa using e
    subst e;rw [lenI] at h;have:l=[]:=by simp at h;exact h.1.2
    subst this;rfl
  split at h
  · rename_i e;have e:k=3:=by simpa using e
    subst e;rw [lenI] at h;have:l=[]:=by simp at h;exact h.1.2
    subst this;rfl
  split at h
  · rename_i e;have e:k=4:=by simpa using e
    subst e;rw [lenI] at h;have:l=[]:=by simp at h;exact h.1.2
    subst this;rfl
  split at h
  · rename_i e;have e:k=5:=by simpa using e
    subst e;rw [lenI] at h;simp only [Bool.and_eq_true,beq_iff_eq] at h;have h1:l.length=1:=by have:=h.1.2;omega
    rw [hl h.2];simp [h1,h.1.1.1,h.1.1.2]
  split at h
  · rename_i e;have e:k=6:=by simpa using e
    subst e;rw [lenI] at h;simp only [Bool.and_eq_true,decide_eq_true_eq,beq_iff_eq] at h;have h1:2≤l.length:=by have:=h.1.1.1.2;omega
    have h2:((hd l).k !=6)=true:=h.1.1.2;rw [hl h.2,h2];simp [h1,h.1.1.1.1,h.1.2]
  · cases h
theorem zjb:∀ l:List Tm,z2w l=true→okL l=true
 | [],_=>rfl
 | t::l,h=>by
  simp only [z2w,Bool.and_eq_true] at h;simp only [okL,z04 t h.1,zjb l h.2,Bool.and_self]
end
theorem ok_ne {t:Tm}(h:okB t=true):t.k=6→t.l ≠ []:=by
 obtain ⟨k,s,n,l⟩:=t;intro hk;obtain ⟨x,y,r,e,_⟩:=okB6 h hk;show l ≠ [];rw [e];simp
mutual
def z3b:Tm→Bool
 | .mk k s n l=> !z3v (.mk k s n l)&&z3p l
def z3p:List Tm→Bool
 | []=>true
 | t::l=>z3b t&&z3p l
end
end Go.AM

set_option maxRecDepth 100000
open Go Go.Proofs
namespace Go.AM
abbrev zT:List WV:=[.a (.fz (.int .i64 0)), .a (.fz (.str [])), .a (.fz (.int .i64 0)), .a (.fz .N)]
theorem z8b (k:Int)(s:List UInt8)(n:Int)(l:List Tm)(a:Tm)(r:List Tm):z09 (.mk k s n l) (a::r)=if (k==6)=true∧l ≠ [] then .mk 6 [] 0 (l++a::r) else .mk 6 [] 0 (.mk k s n l::a::r):=rfl
end Go.AM

set_option maxRecDepth 100000
open Go Go.Proofs
namespace Go.AM
mutual
theorem nd_sz:∀ t:Tm,nd t=t.sz
 | .mk _ _ _ l=>by simp only [nd,Tm.sz,zxs l]
theorem zxs:∀ l:List Tm,nds l=Tm.szs l
 | []=>rfl
 | t::l=>by simp only [nds,Tm.szs,nd_sz t,zxs l]
end
mutual
theorem znp:∀ t:Tm,okB t=true→z44 t=t.sz
 | .mk k s n l,h=>by
  have hl:=zpb l (zc5 h);by_cases h6:k=6
  · subst h6;simp [z44,Tm.sz,hl]
  · by_cases h5:k=5
    · subst h5;simp [z44,Tm.sz,hl]
    · have:l=[]:=okB0 h h5 h6;subst this;simp [z44,Tm.sz,z96,Tm.szs]
theorem zpb:∀ l:List Tm,okL l=true→z96 l=Tm.szs l
 | [],_=>rfl
 | t::l,h=>by
  simp only [okL,Bool.and_eq_true] at h;simp only [z96,Tm.szs,znp t h.1,zpb l h.2]
end
def SZ:Nat:=130000000
theorem znd {body arg:Tm}(ob:okB body=true)(oa:okB arg=true)(hr:z4z body arg=true)(ha:arg.sz≤SZ):body.sz+nd body*arg.sz≤B∧body.sz+occF body 0*arg.sz≤4096:=by
 have h1:((z44 body:Int)+(occF body 0:Int)*(z44 arg:Int)≤4096):=by
  have:(!decide ((z44 body:Int)+(occF body 0:Int)*(z44 arg:Int)>4096))=true:=hr;simp only [Bool.not_eq_true',decide_eq_false_iff_not] at this;omega
 rw [znp body ob,znp arg oa,nd_sz] at*
 have h0:body.sz+occF body 0*arg.sz≤4096:=by
  have:((body.sz+occF body 0*arg.sz:Nat):Int)≤4096:=by rw [Int.natCast_add,Int.natCast_mul];exact h1
  omega
 have h2:body.sz≤4096:=by omega
 have h3:=Nat.mul_le_mul h2 ha;simp only [SZ] at h3;exact ⟨by simp only [B];omega,h0⟩
theorem zm_le {body arg:Tm}(hb:body.sz≤1073741824)(ha:arg.sz≤1073741824):0≤(occF body 0:Int)*(z44 arg:Int)∧(occF body 0:Int)*(z44 arg:Int)≤1152921504606846976:=by
 have:=Nat.mul_le_mul (Nat.le_trans (zv5 body 0) hb) (Nat.le_trans (zco arg) ha);exact ⟨Int.mul_nonneg (by omega) (by omega),by omega⟩
theorem c_bcontr (body arg:Tm)(ob:okB body=true)(oa:okB arg=true)(hb:body.sz≤SZ)(ha:arg.sz≤SZ)(db:bd M61 body)(da:bd M61 arg):AC Tryz.prog 97 [aT body,aT arg] [] (aTE (conF body arg) (conE body arg)) []:=by
 simp only [SZ] at hb ha;have h1:=c_size body (by simp only [B];omega);have h2:=zr1 body (by simp only [B];omega) 0 (by omega) (by omega);have h3:=c_size arg (by simp only [B];omega);have h4:=fun hr=>c_subst body arg 0 (by simp only [B];omega) (znd ob oa hr (by simp only [SZ];omega)).1 db da (by omega) (by simp only [M61];omega);have z1:=zco body;have z2:=zm_le (body:=body) (arg:=arg) (by omega) (by omega);have cF:∀ b,z4z body arg=b→conF body arg=(if b=true then suT 0 arg body 0 else noT)∧conE body arg=(if b=true then 0 else 80):=fun b h=>by unfold conF conE;rw [h];exact ⟨rfl,rfl⟩
 have hf:z4z body arg= !decide ((z44 body:Int)+(occF body 0:Int)*(z44 arg:Int)>4096):=rfl;obtain ⟨k,s,n,l⟩:=body;obtain ⟨k',s',n',l'⟩:=arg;refine AC.vc hP sh lv97 (Nat.le_refl _) (by simp) (by simp) (Eq.mpr (v97 k s n (FTs l) k' s' n' (FTs l') _ _) ?_);refine ⟨_,h1,_,h2,_,h3, ?_⟩;rw [w64 (x:=(occF (.mk k s n l) 0:Int)*(z44 (.mk k' s' n' l'):Int)) (by omega) (by omega),w64 (by omega) (by omega)];refine z00 (fun h=> ?_) (fun h=> ?_)
 · obtain ⟨e1,e2⟩:=cF false (by rw [hf,h];rfl);rw [e1,e2];exact ⟨leTE z0m,rfl⟩
 · obtain ⟨e1,e2⟩:=cF true (by rw [hf,h];rfl);rw [e1,e2];exact ⟨_,h4 (by rw [hf,h];rfl), .refl _,rfl⟩
theorem zmx (body arg:Tm)(hb:body.sz≤SZ)(ha:arg.sz≤SZ)(db:bd M61 body)(da:bd M61 arg):AC Tryz.prog 81 [aT body,aT arg] [] (if (validB body&&validB arg)=true then aTE (conF body arg) (conE body arg) else aTE noT 1) []:=by
 have h1:=z3f body (by simp only [SZ,B] at*;omega);have h2:=z3f arg (by simp only [SZ,B] at*;omega);have h3:=fun ob oa=>c_bcontr body arg (z04 body ob) (z04 arg oa) hb ha db da;obtain ⟨k,s,n,l⟩:=body;obtain ⟨k',s',n',l'⟩:=arg;refine AC.vc hP sh lv81 (Nat.le_refl _) (by simp) (by simp) (Eq.mpr (v81 k s n (FTs l) k' s' n' (FTs l') _ _) ?_);refine ⟨_,h1,z00 (fun h=> ?_) (fun h=>⟨_,h2,z00 (fun h'=> ?_) (fun h'=> ?_)⟩)⟩
 · rw [if_neg (by rw [show validB (.mk k s n l)=false by simpa using h];simp)];exact ⟨leTE z0m,rfl⟩
 · rw [if_neg (by rw [show validB (.mk k' s' n' l')=false by simpa using h'];simp)];exact ⟨leTE z0m,rfl⟩
 · have e1:validB (.mk k s n l)=true:=by simpa using h
   have e2:validB (.mk k' s' n' l')=true:=by simpa using h'
   rw [if_pos (by rw [e1,e2];rfl)];exact ⟨(_,_),h3 e1 e2, .refl _,rfl⟩
theorem zeh {t:Tm}(ho:okB t=true)(hr:z3v t=true):∃ s n s1 n1 body arg rest,t= .mk 6 s n (.mk 5 s1 n1 [body]::arg::rest)∧okB body=true∧okB arg=true∧okL rest=true:=by
 obtain ⟨k,s,n,l⟩:=t;simp only [z3v,Tm.k,Tm.l,Bool.and_eq_true,beq_iff_eq] at hr;obtain ⟨rfl,h5⟩:=hr;obtain ⟨x,y,r,rfl,_,hl⟩:=okB6 ho rfl;simp only [okL,Bool.and_eq_true] at hl;obtain ⟨k',s',n',l'⟩:=x;have h5:k'=5:=h5;subst h5;obtain ⟨b,rfl,hb⟩:=okB5 hl.1 rfl;exact ⟨s,n,s',n',b,y,r,rfl,hb,hl.2.1,hl.2.2⟩
mutual
def z4t:Tm→Tm×Int
 | .mk k s n l=>if z3v (.mk k s n l)=true then (if z4z (hd (hd l).l) (hd l.tail)=true then (z09 (suT 0 (hd l.tail) (hd (hd l).l) 0) (l.drop 2),1) else (noT,2))
  else if (z5x l).2=0 then (.mk k s n l,0) else if (z5x l).2=1 then (.mk k [] 0 (z5x l).1,1) else (noT,2)
def z5x:List Tm→List Tm×Int
 | []=>([],0)
 | t::l=>if (z4t t).2=0 then (t::(z5x l).1,(z5x l).2) else ((z4t t).1::l,(z4t t).2)
end
theorem zsi {t:Tm}(ho:okB t=true)(h5:t.k≠5)(h6:t.k≠6):z4t t=(t,0):=by
 obtain ⟨k,s,n,l⟩:=t;have:l=[]:=okB0 ho h5 h6;subst this;rw [z4t,if_neg (by simp only [z3v,Tm.k,Bool.and_eq_true,beq_iff_eq];exact fun e=>h6 e.1)];rfl
theorem stepF_hd {k n:Int}{s:List UInt8}{x:Tm}{l:List Tm}(ho:okB (.mk k s n (x::l))=true)(hr:z3v (.mk k s n (x::l))=false)(hk:k=6):z4t x=(x,0):=by
 obtain ⟨y,z,r,e,h6,hl⟩:=okB6 ho hk;injection e with e1 e2
 subst e1;subst hk;simp only [okL,Bool.and_eq_true] at hl;refine zsi hl.1 (fun e=> ?_) h6;have:z3v (.mk 6 s n (x::l))=true:=by simp only [z3v,Tm.k,Tm.l,hd,List.headD_cons,Bool.and_eq_true,beq_iff_eq];exact ⟨trivial,e⟩
 rw [hr] at this;cases this
abbrev aSt (u:Tm)(n:Int):TV:= .tup [(true,cT u),(false,[.a (.fz (.bool (n !=0)))]),(false,[.a (.fz (.int .i64 (if n=2 then 80 else 0)))])]
theorem el0 (x:Tm)(l:List Tm):FV.L 4 (.sl false 4 (FTs (x::l)))=true∧((0:Int)≤0∧((0:Int)<(((FTs (x::l)).length:Nat):Int)∧(rE (List.getD (FTs (x::l)) 0 []):List FV)=List.getD (FTs (x::l)) 0 [])):=⟨rfl,Int.le_refl _,by rw [lenI];simp only [List.length_cons];omega,zf3 x⟩
theorem el1 (x y:Tm)(l:List Tm):FV.L 4 (.sl false 4 (FTs (x::y::l)))=true∧((0:Int)≤1∧((1:Int)<(((FTs (x::y::l)).length:Nat):Int)∧(rE (List.getD (FTs (x::y::l)) 1 []):List FV)=List.getD (FTs (x::y::l)) 1 [])):=⟨rfl,by omega,by rw [lenI];simp only [List.length_cons];omega,zf3 y⟩
theorem zxl (a:List Tm)(t:Tm)(b:List Tm)(u:Tm):List.set (FTs (a++t::b)) (0+Int.toNat (a.length:Int)) (FT4 u)=FTs (a++u::b):=by
 rw [Nat.zero_add,z9o,z71,FTs_set];congr 1;simp
theorem leTB {k n:Int}{b:Bool}{s:List UInt8}{x:FV}{l:List Tm}(h:FV.Le x (.sl false 4 (FTs l))):TV.Le (.tup [(true,[.a (.fz (.int .i64 k)), .a (.fz (.str s)), .a (.fz (.int .i64 n)), .a (.fz x)]),(false,[.a (.fz (.bool b))])]) (.tup [(true,cT (.mk k s n l)),(false,[.a (.fz (.bool b))])]):=by
 refine .tup _ _ rfl fun i p q hp hq=> ?_
 match i,hp,hq with
 | 0,hp,hq=>
  simp only [List.getElem?_cons_zero,Option.some.injEq] at hp hq;subst hp;subst hq;refine ⟨rfl,rfl,fun j x y hx hy=> ?_⟩
  match j,hx,hy with
  | 0,hx,hy=>simp at hx hy;subst hx;subst hy;exact .refl _
  | 1,hx,hy=>simp at hx hy;subst hx;subst hy;exact .refl _
  | 2,hx,hy=>simp at hx hy;subst hx;subst hy;exact .refl _
  | 3,hx,hy=>simp at hx hy;subst hx;subst hy;exact .a _ _ (.fz _ _ h)
  | j+4,hx,_=>simp at hx
 | 1,hp,hq=>
  simp only [List.getElem?_cons_zero,List.getElem?_cons_succ,Option.some.injEq] at hp hq;subst hp;subst hq;exact ⟨rfl,rfl,fun j x y hx hy=>by rw [hx] at hy;injection hy with hy;subst hy;exact .refl _⟩
 | i+2,hp,_=>simp at hp
theorem not_t {b:Bool}(h:(!b)=true):b=false:=by cases b<;>simp_all
theorem zry {b:Bool}(h:(!b)=false):b=true:=by cases b<;>simp_all
end Go.AM

set_option maxRecDepth 100000
open Go Go.Proofs
namespace Go.AM
theorem z4a {f:Tm}{args:List Tm}(hf:okB f=true)(ha:okL args=true):okB (z09 f args)=true:=by
 match args,ha with
 | [],_=>exact hf
 | a::r,ha=>
  obtain ⟨k,s,n,l⟩:=f;rw [z8b];split
  · rename_i h;have hk:k=6:=by simpa using h.1
    obtain ⟨x,y,r',rfl,h6,hl⟩:=okB6 hf hk
    have hall:okL ((x::y::r')++a::r)=true:=zk1 fun t ht=>by
     rcases List.mem_append.1 ht with ht | ht
     · exact z5a hl ht
     · exact z5a ha ht
    have h6':(x.k !=6)=true:=by simpa using h6
    rw [okB,hall];simp [hd,h6]
  · rename_i h;have h6:k≠6:=fun e=>h ⟨by simpa using e,ok_ne hf e⟩;have hall:okL (.mk k s n l::a::r)=true:=by simp only [okL,Bool.and_eq_true] at ha ⊢;exact ⟨hf,ha⟩
    rw [okB,hall];simp [hd,Tm.k,h6]
theorem withF_ok {k n:Int}{s:List UInt8}{l o:List Tm}(h:okB (.mk k s n l)=true)(hk:k=5∨k=6)(ho:okL o=true)(hlen:o.length=l.length):okB (z33 (.mk k s n l) o)=true:=by
 obtain ⟨rfl,rfl⟩:=okB_sn h hk;unfold z33;split
 · rename_i hc
   match o,ho,hc with
   | [],_,hc=>simp at hc
   | x::r,ho,hc=>
    simp only [okL,Bool.and_eq_true] at ho;exact z4a ho.1 ho.2
 · rename_i hc;show okB (.mk k [] 0 o)=true;rcases hk with rfl | rfl
   · obtain ⟨x,rfl,_⟩:=okB5 h rfl;rw [okB,ho];simp only [List.length_cons,List.length_nil] at hlen;simp [hlen]
   · obtain ⟨x,y,r,rfl,h6,_⟩:=okB6 h rfl;have h1:¬(hd o).k=6:=fun e=>hc ⟨rfl,by rw [hlen];simp,by simpa [hd] using e,show (x.k !=6)=true by simpa using h6⟩;rw [okB,ho];simp only [List.length_cons] at hlen;simp [hlen,h1]
mutual
theorem zh5 (lf:Tm→Int→Tm)(h:∀ u d,okB u=true→u.k≠5→u.k≠6→okB (lf u d)=true):∀ (t:Tm) (d:Int),okB t=true→okB (z0l lf t d)=true
 | .mk k s n l,d,ho=>by
  rw [z0l];split
  · rename_i hk;exact withF_ok ho (by simpa using hk) (zrc lf h l _ (zc5 ho)) (zc1 ..)
  · rename_i hk;exact h _ _ ho (fun e=>hk (by simp [show k=5 from e])) (fun e=>hk (by simp [show k=6 from e]))
theorem zrc (lf:Tm→Int→Tm)(h:∀ u d,okB u=true→u.k≠5→u.k≠6→okB (lf u d)=true):∀ (l:List Tm) (d:Int),okL l=true→okL (z0b lf l d)=true
 | [],_,_=>rfl
 | t::l,d,ho=>by
  simp only [okL,Bool.and_eq_true] at ho;simp only [z0b,okL,zh5 lf h t d ho.1,zrc lf h l d ho.2,Bool.and_self]
end
theorem zqb {k n m:Int}{s:List UInt8}{l:List Tm}(h:okB (.mk k s n l)=true)(h5:k≠5)(h6:k≠6):okB (.mk k s m l)=true:=by
 have:l=[]:=okB0 h h5 h6;subst this;simp [okB,h5,h6,okL]
theorem zy7 {fr by_:Int}{t:Tm}(d:Int)(h:okB t=true):okB (shT fr by_ t d)=true:=by
 refine zh5 _ (fun u d hu h5 h6=> ?_) t d h;unfold z0s;split
 · obtain ⟨k,s,n,l⟩:=u;exact zqb hu h5 h6
 · exact hu
theorem suT_ok {i:Int}{s t:Tm}(d:Int)(hs:okB s=true)(h:okB t=true):okB (suT i s t d)=true:=by
 refine zh5 _ (fun u d hu h5 h6=> ?_) t d h;unfold z2x;split
 · split
   · exact hu
   · split
     · exact zy7 _ hs
     · obtain ⟨k,s,n,l⟩:=u;exact zqb hu h5 h6
 · exact hu
mutual
theorem zwu (i:Int)(s:Tm):∀ (t:Tm) (d:Int),(suT i s t d).sz≤t.sz+occF t (d+i)*s.sz
 | .mk k s' n l,d=>by
  rw [suT,z0l];split
  · rename_i hk;have h1:=zq9 i s l (d+if (k==5)=true then 1 else 0)
    have h2:=zow (.mk k s' n l) (z0b (z2x i s) l (d+if (k==5)=true then 1 else 0))
    have h3:occF (.mk k s' n l) (d+i)=occL l (d+(if (k==5)=true then 1 else 0)+i):=by
     rw [occF,if_neg (by rintro ⟨e,_⟩;have:k=3:=by simpa using e
                         subst this;simp at hk)]
     congr 1;omega
    rw [h3];simp only [Tm.sz];omega
  · unfold z2x;rw [occF];split
    · rename_i h3;split
      · omega
      · split
        · rename_i h4;have h5:=zgb 0 d s 0;rw [if_pos ⟨h3,h4⟩];omega
        · simp only [Tm.sz,Tm.l];omega
    · omega
theorem zq9 (i:Int)(s:Tm):∀ (l:List Tm) (d:Int),Tm.szs (z0b (z2x i s) l d)≤Tm.szs l+occL l (d+i)*s.sz
 | [],_=>by simp [z0b,Tm.szs]
 | t::l,d=>by
  have h1:=zwu i s t d;have h2:=zq9 i s l d;have h1:(z0l (z2x i s) t d).sz≤t.sz+occF t (d+i)*s.sz:=h1;simp only [z0b,Tm.szs,occL,Nat.add_mul];omega
end
theorem zkj {k n:Int}{s:List UInt8}{l:List Tm}(h:z3v (.mk k s n l)=false):z4t (.mk k s n l)=(if (z5x l).2=0 then (.mk k s n l,0) else if (z5x l).2=1 then (.mk k [] 0 (z5x l).1,1) else (noT,2)):=by rw [z4t,if_neg (by rw [h];simp)]
mutual
theorem zdv (M:Int)(hM:0≤M):∀ t:Tm,okB t=true→t.sz≤SZ→bd M t→(z4t t).2=1→okB (z4t t).1=true∧(z4t t).1.sz≤t.sz+42000∧bd (M+SZ) (z4t t).1
 | .mk k s n l,ho,hs,hb,h1=>by
  by_cases q:z3v (.mk k s n l)=true
  · obtain ⟨s',n',s1,n1,body,arg,rest,e,ob,oa,orr⟩:=zeh ho q;injection e with e1 e2 e3 e4
    subst e1;subst e2;subst e3;subst e4;have hF:z4t (.mk 6 s n (.mk 5 s1 n1 [body]::arg::rest))=if z4z body arg=true then (z09 (suT 0 arg body 0) rest,1) else (noT,2):=by rw [z4t,if_pos q];rfl
    rw [hF] at h1 ⊢;by_cases hr:z4z body arg=true
    · simp only [Tm.sz,Tm.szs] at hs;have h2:=(znd ob oa hr (by omega)).2;have h3:=zwu 0 arg body 0;have h4:=z32 (suT 0 arg body 0) rest;rw [Int.zero_add] at h3;rw [if_pos hr];refine ⟨z4a (suT_ok 0 oa ob) orr,by simp only [Tm.sz,Tm.szs];omega,z2z ?_ ?_⟩
      · exact suT_bd (M:=M+SZ) (M':=M) (D:=SZ) arg body 0 (z5r (by omega) _ hb.2.1.2.1) hb.2.2.1 (Int.le_refl _) (Int.le_refl _) (by omega) (Int.le_refl _) (by omega)
      · exact z8p fun u hu=>z5r (by omega) _ (z3e hb.2.2.2 hu)
    · rw [if_neg hr] at h1;cases h1
  · have q:z3v (.mk k s n l)=false:=by simpa using q
    have hl:=zc5 ho;rw [zkj q] at h1 ⊢;split at h1
    · cases h1
    split at h1
    · rename_i h0 h2;rw [if_neg h0,if_pos h2];simp only [Tm.sz] at hs;obtain ⟨g1,g2,g3,g4,g5⟩:=zku M hM l hl (by omega) hb.2 h2
      have hk:k=5∨k=6:=by
       by_cases k5:k=5
       · exact .inl k5
       · by_cases k6:k=6
         · exact .inr k6
         · have:l=[]:=okB0 ho k5 k6;subst this;exact absurd rfl h0
      refine ⟨?_,by simp only [Tm.sz];omega,⟨fun e=>by omega,g4⟩⟩;rcases hk with rfl | rfl
      · obtain ⟨x,rfl,_⟩:=okB5 ho rfl;rw [okB,g1];simp only [List.length_cons,List.length_nil] at g2;simp [g2]
      · obtain ⟨x,y,r,rfl,h6,_⟩:=okB6 ho rfl;have hx:=stepF_hd ho q rfl;rw [okB,g1];simp only [List.length_cons] at g2;have:(hd (z5x (x::y::r)).1).k≠6:=by rw [z5x,if_pos (by rw [hx])];exact h6
        simp [g2,this]
    · cases h1
theorem zku (M:Int)(hM:0≤M):∀ l:List Tm,okL l=true→Tm.szs l≤SZ→bds M l→(z5x l).2=1→okL (z5x l).1=true∧(z5x l).1.length=l.length∧Tm.szs (z5x l).1≤Tm.szs l+42000∧bds (M+SZ) (z5x l).1∧True
 | [],_,_,_,h=>by cases h
 | t::l,ho,hs,hb,h=>by
  simp only [okL,Bool.and_eq_true] at ho;simp only [Tm.szs] at hs;rw [z5x] at h ⊢;split at h
  · rename_i h0;rw [if_pos h0];obtain ⟨g1,g2,g3,g4,_⟩:=zku M hM l ho.2 (by omega) hb.2 h;exact ⟨by simp only [okL,ho.1,g1,Bool.and_self],by simp [g2],by simp only [Tm.szs];omega,⟨z5r (by omega) _ hb.1,g4⟩,trivial⟩
  · rename_i h0;rw [if_neg h0];obtain ⟨g1,g2,g3⟩:=zdv M hM t ho.1 (by omega) hb.1 h;exact ⟨by simp only [okL,ho.2,g1,Bool.and_self],rfl,by simp only [Tm.szs];omega,⟨g3,z8p fun u hu=>z5r (by omega) _ (z3e hb.2 hu)⟩,trivial⟩
end
def Fit (F:Nat)(t:Tm):Prop:=okB t=true∧t.sz+42000*F≤SZ∧bd (M61-SZ-SZ*F) t∧F≤5000
theorem Fit.next {F:Nat}{t:Tm}(h:Fit (F+1) t)(h1:(z4t t).2=1):Fit F (z4t t).1:=by
 obtain ⟨g1,g2,g3,g4⟩:=h;have:=zdv (M61-SZ-SZ*((F+1:Nat):Int)) (by simp only [M61,SZ];omega) t g1 (by omega) g3 h1;refine ⟨this.1,by have:=this.2.1;omega,z5r ?_ _ this.2.2,by omega⟩;simp only [SZ];omega
theorem Fit.mono {F G:Nat}{t:Tm}(h:Fit F t)(hg:G≤F):Fit G t:=⟨h.1,by have:=h.2.1;have:=Nat.mul_le_mul_left 42000 hg;omega,z5r (by simp only [SZ];omega) _ h.2.2.1,by have:=h.2.2.2;omega⟩
theorem Fit.kid {F:Nat}{t u:Tm}(h:Fit F t)(hu:u∈t.l):Fit F u:=by
 have h1:=Tm.szs_mem hu;have h2:=t.sz_eq;refine ⟨z5a (zc5 h.1) hu,by have:=h.2.1;omega, ?_,h.2.2.2⟩;obtain ⟨k,s,n,l⟩:=t;exact z3e h.2.2.1.2 hu
theorem Fit.sz {F:Nat}{t:Tm}(h:Fit F t):t.sz≤SZ:=by have:=h.2.1;omega
theorem Fit.bd {F:Nat}{t:Tm}(h:Fit F t):bd M61 t:=z5r (by simp only [SZ];omega) _ h.2.2.1
theorem Fit.ok {F:Nat}{t:Tm}(h:Fit F t):okB t=true:=h.1
theorem zqo (s s1:List UInt8)(n n1:Int)(body arg:Tm)(rest:List Tm):z3v (.mk 6 s n (.mk 5 s1 n1 [body]::arg::rest))=true:=rfl
end Go.AM

set_option maxRecDepth 100000
open Go Go.Proofs

set_option maxRecDepth 100000
open Go Go.Proofs
namespace Go.AM
mutual
theorem zw9:∀ (t:Tm) (m:Int),0≤zam t m→(t.sz:Int)≤m-zam t m
 | .mk _ s _ l,m,h=>by
  simp only [zam] at h ⊢;have:=zq5 l (m-1) h;simp only [Tm.sz];omega
theorem zq5:∀ (l:List Tm) (m:Int),0≤zb6 l m→(Tm.szs l:Int)≤m-zb6 l m
 | [],m,h=>by simp [zb6,Tm.szs]
 | t::l,m,h=>by
  simp only [zb6] at h ⊢;split at h
  · rename_i h0;rw [if_pos h0];have h1:=zq5 l _ h;have h3:=(zhi l (zam t m)).1;have h2:=zw9 t m (by omega);simp only [Tm.szs];omega
  · rename_i h0;exact absurd h h0
end
theorem zqu {t:Tm}{m:Int}(h:zbh t m=false):(t.sz:Int)≤m:=by
 have h:=of_decide_eq_false h;have:=zw9 t m (by omega);omega
theorem zj7 {a:List FV}{x:Tm}(ha:LeR a (FT x)):TV.Le (.c (.a (.fz (.sl false 4 [a])))) (aL [x]):=le_c (zvu rfl fun i r t hr ht=>by
 match i,hr,ht with
 | 0,hr,ht=>simp only [List.getElem?_cons_zero,Option.some.injEq] at hr ht;subst hr;subst ht;exact ha
 | i+1,hr,_=>simp at hr)
def fitD (F:Nat)(t:Tm):Bool:=okB t&&decide (t.sz≤60)&&near 1099511627776 t&&decide (F≤3000)
theorem fit_of {F:Nat}{t:Tm}(h:fitD F t=true):Fit F t:=by
 simp only [fitD,Bool.and_eq_true,decide_eq_true_eq] at h;exact ⟨h.1.1.1,by simp only [SZ];omega,z5r (by simp only [M61,SZ];omega) _ (zdq t h.1.2),by omega⟩
end Go.AM

set_option maxRecDepth 100000
open Go Go.Proofs
namespace Go.AM
mutual
def lvB:Tm→Bool
 | .mk k s n l=>if (k==5||k==6)=true then lvL l else validB (.mk k s n l)
def lvL:List Tm→Bool
 | []=>true
 | t::l=>lvB t&&lvL l
end
theorem z8u:∀ {l:List Tm} {t:Tm},lvL l=true→t∈l→lvB t=true
 | x::l,t,h,hm=>by
  simp only [lvL,Bool.and_eq_true] at h;rcases List.mem_cons.1 hm with rfl | hm
  · exact h.1
  · exact z8u h.2 hm
theorem zem:∀ {l:List Tm},(∀ t∈l,lvB t=true)→lvL l=true
 | [],_=>rfl
 | t::l,h=>by simp only [lvL,h t List.mem_cons_self,zem (l:=l) fun u hu=>h u (List.mem_cons_of_mem _ hu),Bool.and_self]
theorem z3l {k n:Int}{s:List UInt8}{l:List Tm}(hk:k=5∨k=6):lvB (.mk k s n l)=lvL l:=by
 rw [lvB,if_pos (by rcases hk with rfl | rfl<;>rfl)]
theorem z95 {k n:Int}{s:List UInt8}{l:List Tm}(h5:k≠5)(h6:k≠6):lvB (.mk k s n l)=validB (.mk k s n l):=by
 rw [lvB,if_neg (by simp [h5,h6])]
theorem valid5 {s:List UInt8}{n:Int}{l:List Tm}:validB (.mk 5 s n l)=(n==0&&s==[]&&decide (l.length=1)&&z2w l):=by
 rw [validB,lenI];simp only [show ((5:Int)==0)=false from rfl,show ((5:Int)==1)=false from rfl,show ((5:Int)==2)=false from rfl,show ((5:Int)==3)=false from rfl,show ((5:Int)==4)=false from rfl,Bool.false_eq_true,if_false,show ((5:Int)==5)=true from rfl,if_true];congr 2;by_cases h:l.length=1
 · rw [h];rfl
 · rw [decide_eq_false h];simp;omega
theorem valid6 {s:List UInt8}{n:Int}{l:List Tm}:validB (.mk 6 s n l)=(n==0&&decide (2≤l.length)&&((hd l).k !=6)&&s==[]&&z2w l):=by
 rw [validB,lenI];simp only [show ((6:Int)==0)=false from rfl,show ((6:Int)==1)=false from rfl,show ((6:Int)==2)=false from rfl,show ((6:Int)==3)=false from rfl,show ((6:Int)==4)=false from rfl,show ((6:Int)==5)=false from rfl,Bool.false_eq_true,if_false,show ((6:Int)==6)=true from rfl,if_true];congr 4;by_cases h:2≤l.length
 · rw [decide_eq_true h,decide_eq_true (by omega)]
 · rw [decide_eq_false h,decide_eq_false (by omega)]
mutual
theorem z24:∀ t:Tm,validB t=(okB t&&lvB t)
 | .mk k s n l=>by
  by_cases h5:k=5
  · subst h5;rw [valid5,z3l (.inl rfl),zbn l,okB];cases okL l<;>cases lvL l<;>simp [Bool.and_comm,Bool.and_assoc]
  · by_cases h6:k=6
    · subst h6;rw [valid6,z3l (.inr rfl),zbn l,okB];cases okL l<;>cases lvL l<;>simp [Bool.and_comm,Bool.and_assoc]
    · rw [z95 h5 h6];cases hv:validB (.mk k s n l) with
      | false=>simp
      | true=>rw [z04 _ hv];rfl
theorem zbn:∀ l:List Tm,z2w l=(okL l&&lvL l)
 | []=>rfl
 | t::l=>by
  rw [z2w,okL,lvL,z24 t,zbn l];cases okB t<;>cases lvB t<;>simp
end
theorem z2i {t:Tm}(h:validB t=true):lvB t=true:=by rw [z24] at h;simp at h;exact h.2
theorem z4c {f:Tm}{args:List Tm}(hf:lvB f=true)(ha:lvL args=true):lvB (z09 f args)=true:=by
 match args,ha with
 | [],_=>exact hf
 | a::r,ha=>
  obtain ⟨k,s,n,l⟩:=f;rw [z8b];split
  · rename_i h;have hk:k=6:=by simpa using h.1
    rw [z3l (.inr hk)] at hf;rw [z3l (.inr rfl)]
    exact zem fun t ht=>by
     rcases List.mem_append.1 ht with ht | ht
     · exact z8u hf ht
     · exact z8u ha ht
  · rw [z3l (.inr rfl)];simp only [lvL,Bool.and_eq_true] at ha ⊢;exact ⟨hf,ha⟩
theorem withF_lv {t:Tm}{o:List Tm}(hk:t.k=5∨t.k=6)(ho:lvL o=true):lvB (z33 t o)=true:=by
 obtain ⟨k,s,n,l⟩:=t;unfold z33;split
 · rename_i hc
   match o,ho,hc with
   | [],_,hc=>exact absurd hc.2.1 (by simp)
   | x::r,ho,hc=>
    simp only [lvL,Bool.and_eq_true] at ho;exact z4c ho.1 ho.2
 · exact (z3l hk).trans ho
mutual
theorem zcs (lf:Tm→Int→Tm)(Q:Tm→Int→Prop)(hq:∀ k s n l d,Q (.mk k s n l) d→∀ u∈l,Q u (d+if (k==5)=true then 1 else 0))(h:∀ u d,lvB u=true→Q u d→u.k≠5→u.k≠6→lvB (lf u d)=true):∀ (t:Tm) (d:Int),lvB t=true→Q t d→lvB (z0l lf t d)=true
 | .mk k s n l,d,ho,hQ=>by
  rw [z0l];split
  · rename_i hk;have hk:k=5∨k=6:=by simpa using hk
    rw [z3l hk] at ho;exact withF_lv hk (zqa lf Q hq h l _ ho (hq k s n l d hQ))
  · rename_i hk;exact h _ _ ho hQ (fun e=>hk (by simp [show k=5 from e])) (fun e=>hk (by simp [show k=6 from e]))
theorem zqa (lf:Tm→Int→Tm)(Q:Tm→Int→Prop)(hq:∀ k s n l d,Q (.mk k s n l) d→∀ u∈l,Q u (d+if (k==5)=true then 1 else 0))(h:∀ u d,lvB u=true→Q u d→u.k≠5→u.k≠6→lvB (lf u d)=true):∀ (l:List Tm) (d:Int),lvL l=true→(∀ u∈l,Q u d)→lvL (z0b lf l d)=true
 | [],_,_,_=>rfl
 | t::l,d,ho,hQ=>by
  simp only [lvL,Bool.and_eq_true] at ho;simp only [z0b,lvL,zcs lf Q hq h t d ho.1 (hQ t List.mem_cons_self),zqa lf Q hq h l d ho.2 (fun u hu=>hQ u (List.mem_cons_of_mem _ hu)),Bool.and_self]
end
theorem zg1 {s:List UInt8}{n:Int}{l:List Tm}:validB (.mk 3 s n l)=true↔0≤n∧n≤4611686018427387904∧s=[]∧l=[]:=by
 rw [validB,lenI];simp only [show ((3:Int)==0)=false from rfl,show ((3:Int)==1)=false from rfl,show ((3:Int)==2)=false from rfl,Bool.false_eq_true,if_false,show ((3:Int)==3)=true from rfl,if_true];simp only [Bool.and_eq_true,decide_eq_true_eq,beq_iff_eq];constructor
 · rintro ⟨⟨⟨⟨h1,h2⟩,h3⟩,h4⟩,_⟩;exact ⟨h1,h2,h3,List.eq_nil_of_length_eq_zero (by omega)⟩
 · rintro ⟨h1,h2,rfl,rfl⟩;exact ⟨⟨⟨⟨h1,h2⟩,rfl⟩,rfl⟩,rfl⟩
theorem shT_lv {by_ M D:Int}(h0:0≤by_)(hM:M+by_≤4611686018427387904)(t:Tm)(d:Int)(fr:Int)(hb:bd M t)(h:lvB t=true)(_:d≤D):lvB (shT fr by_ t d)=true:=by
 refine zcs _ (fun u _=>bd M u) (fun k s n l d hQ u hu=>z3e hQ.2 hu) (fun u d hu hQ h5 h6=> ?_) t d h hb;unfold z0s;split
 · rename_i hc;obtain ⟨k,s,n,l⟩:=u;have hk:k=3:=by have hc:=hc.1;have hc:(k==3)=true:=hc;simpa using hc
   subst hk;rw [z95 (by decide) (by decide),zg1] at hu;have hb:=hQ.1 rfl;show lvB (.mk 3 s (n+by_) l)=true;rw [z95 (by decide) (by decide),zg1];exact ⟨by omega,by omega,hu.2.2.1,hu.2.2.2⟩
 · exact hu
theorem suT_lv {i M:Int}{s t:Tm}{D:Int}(hi:0≤i)(hM:M+D≤4611686018427387904)(hbs:bd M s)(hs:lvB s=true)(hl:lvB t=true)(d:Int)(h0:0≤d)(hD:d+t.sz≤D):lvB (suT i s t d)=true:=by
 refine zcs _ (fun u d=>0≤d∧d+u.sz≤D) (fun k s n l d hQ u hu=> ?_) (fun u d hu hQ h5 h6=> ?_) t d hl ⟨h0,hD⟩
 · have:=Tm.szs_mem hu;simp only [Tm.sz] at hQ;constructor
   · have:=hQ.1;split<;>omega
   · have:=hQ.2;split<;>omega
 · unfold z2x;split
   · rename_i hc;split
     · exact hu
     · rename_i hlt;split
       · have:=hQ.2;exact shT_lv hQ.1 (D:=0) (by omega) s 0 0 hbs hs (Int.le_refl _)
       · rename_i hne;obtain ⟨k,s',n,l⟩:=u;have hk:k=3:=by have hc:(k==3)=true:=hc;simpa using hc
         subst hk;rw [z95 (by decide) (by decide),zg1] at hu;have h1:¬n<d+i:=hlt;have h2:n≠d+i:=fun e=>hne (by rw [show Tm.n (.mk 3 s' n l)=n from rfl,e];simp);show lvB (.mk 3 s' (n-1) l)=true;rw [z95 (by decide) (by decide),zg1];have:=hQ.1;exact ⟨by omega,by omega,hu.2.2.1,hu.2.2.2⟩
   · exact hu
mutual
theorem zps (M:Int)(hM:M+SZ≤4611686018427387904):∀ t:Tm,okB t=true→t.sz≤SZ→bd M t→lvB t=true→(z4t t).2=1→lvB (z4t t).1=true
 | .mk k s n l,ho,hs,hb,hl,h1=>by
  by_cases q:z3v (.mk k s n l)=true
  · obtain ⟨s',n',s1,n1,body,arg,rest,e,ob,oa,orr⟩:=zeh ho q;injection e with e1 e2 e3 e4
    subst e1;subst e2;subst e3;subst e4;have hF:z4t (.mk 6 s n (.mk 5 s1 n1 [body]::arg::rest))=if z4z body arg=true then (z09 (suT 0 arg body 0) rest,1) else (noT,2):=by rw [z4t,if_pos q];rfl
    rw [hF] at h1 ⊢;by_cases hr:z4z body arg=true
    · rw [if_pos hr];rw [z3l (.inr rfl)] at hl;simp only [lvL,Bool.and_eq_true] at hl;have hb0:lvB body=true:=by have:=hl.1;rw [z3l (.inl rfl)] at this;simpa [lvL] using this
      simp only [Tm.sz,Tm.szs] at hs;exact z4c (suT_lv (M:=M) (D:=SZ) (Int.le_refl _) hM hb.2.2.1 hl.2.1 hb0 0 (Int.le_refl _) (by omega)) hl.2.2
    · rw [if_neg hr] at h1;cases h1
  · have q:z3v (.mk k s n l)=false:=by simpa using q
    rw [zkj q] at h1 ⊢;split at h1
    · cases h1
    split at h1
    · rename_i h0 h2;rw [if_neg h0,if_pos h2];simp only [Tm.sz] at hs
      have hk:k=5∨k=6:=by
       by_cases k5:k=5
       · exact .inl k5
       · by_cases k6:k=6
         · exact .inr k6
         · have:l=[]:=okB0 ho k5 k6;subst this;exact absurd rfl h0
      rw [z3l hk] at hl;show lvB (.mk k [] 0 (z5x l).1)=true;rw [z3l hk];exact zpz M hM l (zc5 ho) (by omega) hb.2 hl h2
    · cases h1
theorem zpz (M:Int)(hM:M+SZ≤4611686018427387904):∀ l:List Tm,okL l=true→Tm.szs l≤SZ→bds M l→lvL l=true→(z5x l).2=1→lvL (z5x l).1=true
 | [],_,_,_,_,h=>by cases h
 | t::l,ho,hs,hb,hl,h=>by
  simp only [okL,Bool.and_eq_true] at ho;simp only [Tm.szs] at hs;simp only [lvL,Bool.and_eq_true] at hl;rw [z5x] at h ⊢;split at h
  · rename_i h0;rw [if_pos h0];simp only [lvL,hl.1,zpz M hM l ho.2 (by omega) hb.2 hl.2 h,Bool.and_self]
  · rename_i h0;rw [if_neg h0];simp only [lvL,hl.2,zps M hM t ho.1 (by omega) hb.1 hl.1 h,Bool.and_self]
end
end Go.AM

set_option maxRecDepth 100000
open Go Go.Proofs
namespace Go.AM
theorem z08 {k n:Int}{s:List UInt8}{l:List Tm}(h:validB (.mk k s n l)=true)(hk:k=5∨k=6):∀ u∈l,validB u=true:=fun u hu=>by
 rw [z24,Bool.and_eq_true] at h ⊢;have h1:=zc5 h.1;have h2:=h.2;rw [z3l hk] at h2;exact ⟨z5a h1 hu,z8u h2 hu⟩
def LeW (p q:Bool×List WV):Prop:=p.1=q.1∧All2 WV.Le p.2 q.2
theorem zh9 {α β:Type}{R:α→β→Prop}:∀ {a:List α} {b:List β},All2 R a b→a.length=b.length∧∀ (i:Nat) (x:α) (y:β),a[i]? =some x→b[i]? =some y→R x y
 | [],[],_=>⟨rfl,fun i x y hx _=>by simp at hx⟩
 | x::a,y::b,h=>by
  have:=zh9 h.2;refine ⟨by simp [this.1],fun i u v hu hv=> ?_⟩
  match i,hu,hv with
  | 0,hu,hv=>simp at hu hv;subst hu;subst hv;exact h.1
  | i+1,hu,hv=>exact this.2 i u v (by simpa using hu) (by simpa using hv)
 | [],_::_,h=>h.elim
 | _::_,[],h=>h.elim
theorem zq8 {a b:List (Bool×List WV)}(h:All2 LeW a b):TV.Le (.tup a) (.tup b):=by
 have:=zh9 h;refine .tup _ _ this.1 fun i p q hp hq=> ?_;have h1:=this.2 i p q hp hq;have h2:=zh9 h1.2;exact ⟨h1.1,h2.1,h2.2⟩
theorem leWn:WV.Le (.a (.fz .N)) (.a (.fz (.sl false 4 (FTs [])))):= .a _ _ (.fz _ _ z0m)
theorem lwT {k n:Int}{s:List UInt8}{x:FV}{l:List Tm}{b:Bool}(h:FV.Le x (.sl false 4 (FTs l))):LeW (b,[.a (.fz (.int .i64 k)), .a (.fz (.str s)), .a (.fz (.int .i64 n)), .a (.fz x)]) (b,cT (.mk k s n l)):=⟨rfl, .refl _, .refl _, .refl _, .a _ _ (.fz _ _ h),trivial⟩
theorem lwR (p:Bool×List WV):LeW p p:=by
 obtain ⟨b,l⟩:=p;refine ⟨rfl, ?_⟩;show All2 WV.Le l l
 induction l with
 | nil=>trivial
 | cons x l ih=>exact ⟨.refl _,ih⟩
theorem z2l (l:List Inf):(SR l).length=l.length:=by simp [SR]
theorem zm7 {l:List Inf}{i:Nat}(h:i<l.length):List.getD (SR l) i []=Inf.c l[i]:=by simp [SR,List.getD,h]
theorem zj8 (a b:List Inf):SR (a++b)=SR a++SR b:=by simp [SR]
abbrev noI:Inf:=⟨0,false,noT⟩
abbrev aS (o:Nat):TV:= .c (.a (.ep o 2 0 0))
abbrev sto2 (a b:Nat)(s:Sto):AObj:= .arr 2 [[.a (.osl a 6 0 s.V.length), .a (.osl b 1 0 s.T.length)]]
abbrev oS (s:Sto):List AObj:=[sto2 1 2 s, .arz 6 (SR s.V), .arz 1 (IR s.T)]
abbrev oSf (s:Sto)(f:Int):List AObj:=[sto2 1 2 s, .arz 6 (SR s.V), .arz 1 (IR s.T),obj1 f]
def infOf (V:List Inf)(x:Int):Inf:=if 0≤x∧x<(V.length:Int) then (V[x.toNat]?).getD noI else noI
def inB (V:List Inf)(x:Int):Bool:=decide (0≤x)&&decide (x<(V.length:Int))
theorem z1w {V:List Inf}{x:Int}(h0:0≤x)(h1:x<(V.length:Int)):∃ h:x.toNat<V.length,infOf V x=V[x.toNat]:=by
 have h:x.toNat<V.length:=by omega
 exact ⟨h,by rw [infOf,if_pos ⟨h0,h1⟩,List.getElem?_eq_getElem h];rfl⟩
theorem z4j {V:List Inf}{x:Int}(h:¬(0≤x∧x<(V.length:Int))):infOf V x=noI:=if_neg h
abbrev tI (i:Inf)(b:Bool):TV:= .tup [(true,[.a (.fz (.int .i64 i.lv)), .a (.fz (.bool i.bd)), .a (.fz (.int .i64 i.v.k)), .a (.fz (.str i.v.s)), .a (.fz (.int .i64 i.v.n)), .a (.fz (.sl false 4 (FTs i.v.l)))]),(false,[.a (.fz (.bool b))])]
theorem inf_no {c d:Bool}(h:c=d){n:Nat}:TV.Le (.tup [(true,[.a (.fz (.int .i64 0)), .a (.fz (.bool false)), .a (.fz (.int .i64 0)), .a (.fz (.str [])), .a (.fz (.int .i64 0)), .a (.fz .N)]),(false,[.a (.fz (.bool c))])]) (tI noI d)∧n=n:=by
 subst h;exact ⟨zq8 ⟨⟨rfl, .refl _, .refl _, .refl _, .refl _, .refl _,leWn,trivial⟩,lwR _,trivial⟩,rfl⟩
theorem c_snew:AC Tryz.prog 13 [] [] (aS 0) (oS ⟨[],[]⟩):=by
 refine AC.vc hP sh lv13 (by simp) (by simp) (by simp [isLive]) (Eq.mpr (v13 ..) ?_);exact ⟨.refl _,rfl⟩
theorem z91 (s:Sto)(x:Int):AC Tryz.prog 25 [aS 0,ci x] (oS s) (tI (infOf s.V x) (inB s.V x)) (oS s):=by
 refine AC.vc hP sh lv25 (Nat.le_refl _) (by simp [isLive]) (by simp) (Eq.mpr (v25 ..) ?_);refine z00 (fun h=> ?_) (fun h=>z00 (fun h'=> ?_) (fun h'=> ?_))
 · have h:=of_decide_eq_true h;rw [z4j (by omega)];exact ⟨(inf_no (by simp [inB];omega) (n:=0)).1,rfl⟩
 · have h':=of_decide_eq_true h';rw [z4j (by omega)];exact ⟨(inf_no (by simp [inB];omega) (n:=0)).1,rfl⟩
 · have h:=of_decide_eq_false h;have h':=of_decide_eq_false h';obtain ⟨hl,e⟩:=z1w (V:=s.V) (x:=x) (by omega) (by omega);rw [e,show List.getD (SR s.V) (0+Int.toNat x) []=Inf.c s.V[x.toNat] by rw [Nat.zero_add,zm7 hl],show inB s.V x=true by simp [inB];omega];refine ⟨⟨by omega,by omega⟩,⟨by rw [z2l];omega,rfl,rfl⟩, .refl _,rfl⟩
def valS (s:Sto)(t:Tm):Tm:=(infOf s.V t.n).v
def valB (s:Sto)(t:Tm):Bool:=t.k==4&&(infOf s.V t.n).bd
theorem zp3 (s:Sto)(t:Tm):AC Tryz.prog 80 [aS 0,aT t] (oS s) (.tup [(true,cT (valS s t)),(false,[.a (.fz (.bool (valB s t)))])]) (oS s):=by
 have hi:=z91 s t.n;obtain ⟨k,str,n,l⟩:=t;refine AC.vc hP sh lv80 (Nat.le_refl _) (by simp [isLive]) (by simp) (Eq.mpr (v80 k str n (FTs l) ..) ?_)
 have out:inB s.V n=false→(infOf s.V n).bd=false:=fun h=>by
  rw [z4j (by simp [inB] at h;omega)]
 refine ⟨(_,_,_,_),hi,z00 (fun h=>z00 (fun h'=> ?_) (fun h'=> ?_)) (fun h=> ?_)⟩
 · refine ⟨?_,rfl⟩;show TV.Le _ (.tup [(true,cT (infOf s.V n).v),(false,[.a (.fz (.bool (k==4&&(infOf s.V n).bd)))])]);rw [show (k==4)=true from h];exact .refl _
 · refine ⟨?_,rfl⟩;show TV.Le _ (.tup [(true,cT (infOf s.V n).v),(false,[.a (.fz (.bool (k==4&&(infOf s.V n).bd)))])]);rw [out h',Bool.and_false];exact .refl _
 · refine ⟨?_,rfl⟩;show TV.Le _ (.tup [(true,cT (infOf s.V n).v),(false,[.a (.fz (.bool (k==4&&(infOf s.V n).bd)))])]);rw [show (k==4)=false from h];exact .refl _
def OKV (v:Tm):Prop:=validB v=true∧v.sz≤40000∧bd 2199023255552 v
def OKS (s:Sto):Prop:=∀ i∈s.V,i.bd=true→OKV i.v
theorem OKS.val {s:Sto}(h:OKS s){t:Tm}(hb:valB s t=true):OKV (valS s t):=by
 simp only [valB,Bool.and_eq_true] at hb;by_cases q:0≤t.n∧t.n<(s.V.length:Int)
 · obtain ⟨hl,e⟩:=z1w q.1 q.2;rw [valS,e];rw [e] at hb;exact h _ (List.getElem_mem hl) hb.2
 · rw [z4j q] at hb;simp [noI] at hb
def z0i (s:Sto)(t:Tm):Tm×Int:=
 if valB s t=true then (valS s t,1) else if t.k≠6 then (t,0)
 else if valB s (hd t.l)=true then (z09 (valS s (hd t.l)) (t.l.drop 1),1) else if (hd t.l).k≠5 then (t,0)
 else (z09 (conF (hd (hd t.l).l) (hd (t.l.drop 1))) (t.l.drop 2),if z4z (hd (hd t.l).l) (hd (t.l.drop 1))=true then 1 else 2)
theorem zdy (s:Sto)(t:Tm):(z0i s t).2=0∨(z0i s t).2=1∨(z0i s t).2=2:=by
 unfold z0i;split
 · exact .inr (.inl rfl)
 · split
   · exact .inl rfl
   · split
     · exact .inr (.inl rfl)
     · split
       · exact .inl rfl
       · simp only;split
         · exact .inr (.inl rfl)
         · exact .inr (.inr rfl)
theorem zil (t:List (List FV)):List.take (Int.toNat ((t.length:Nat):Int)) t=t:=by rw [Int.toNat_natCast,List.take_of_length_le (Nat.le_refl _)]
theorem aE0 (x:Tm)(l:List Tm):aE (List.getD (FTs (x::l)) 0 [])=aT x:=zfs x
theorem aE1 (x y:Tm)(l:List Tm):aE (List.getD (FTs (x::y::l)) 1 [])=aT y:=zfs y
theorem asI0 (x:Tm)(l:List Tm):FV.I (List.getD (List.getD (FTs (x::l)) 0 []) 0 FV.N)=x.k:=by cases x;rfl
theorem zxh (s:Sto)(hs:OKS s)(t:Tm)(hv:validB t=true)(hz:t.sz≤SZ)(hb:bd M61 t):AC Tryz.prog 60 [aS 0,aT t] (oS s) (aSt (z0i s t).1 (z0i s t).2) (oS s):=by
 have h1:=zp3 s t;have ok:=z04 t hv;obtain ⟨k,str,n,l⟩:=t;refine AC.vc hP sh lv60 (Nat.le_refl _) (by simp [isLive]) (by simp) (Eq.mpr (v60 k str n (FTs l) ..) ?_);refine ⟨(_,_),h1,z00 (fun h=> ?_) (fun h=>z00 (fun h6=> ?_) (fun h6=> ?_))⟩
 · have h:valB s (.mk k str n l)=true:=h;rw [z0i,if_pos h];exact ⟨.refl _,rfl⟩
 · have h:valB s (.mk k str n l)=false:=h;have h6:k≠6:=by simpa using h6
   rw [z0i,if_neg (by rw [h];simp),if_pos (show Tm.k (.mk k str n l)≠6 from h6)];exact ⟨.refl _,rfl⟩
 have h:valB s (.mk k str n l)=false:=h;have h6:k=6:=by simpa using h6
 obtain ⟨x,y,r,rfl,hx6,hl⟩:=okB6 ok h6;simp only [okL,Bool.and_eq_true] at hl;subst h6;simp only [Tm.sz,Tm.szs,SZ] at hz;have szr:=Tm.szs_length r;have bx:=hb.2.1;have by_:=hb.2.2.1;have h2:=zp3 s x;have e1:List.drop 1 (List.take (Int.toNat (((FTs (x::y::r)).length:Nat):Int)) (FTs (x::y::r)))=FTs (y::r):=by rw [zil];rfl
 have e2:List.drop 2 (List.take (Int.toNat (((FTs (x::y::r)).length:Nat):Int)) (FTs (x::y::r)))=FTs r:=by rw [zil];rfl
 rw [e1,e2,aE0,aE1,asI0];have len:∀ n:Nat,n≤2→((n:Nat):Int)≤(((FTs (x::y::r)).length:Nat):Int):=fun n hn=>by rw [z01];simp only [List.length_cons];omega
 have hS:z0i s (.mk 6 str n (x::y::r))=if valB s x=true then (z09 (valS s x) (y::r),1) else if x.k≠5 then (.mk 6 str n (x::y::r),0) else (z09 (conF (hd x.l) y) r,if z4z (hd x.l) y=true then 1 else 2):=by
  rw [z0i,if_neg (by rw [h];simp),if_neg (show¬Tm.k (.mk 6 str n (x::y::r))≠6 from fun e=>e rfl)];rfl
 refine ⟨el0 x (y::r),(_,_),h2,z00 (fun h3=>⟨rfl,⟨by omega,len 1 (by omega),Int.le_refl _⟩,_,z46 (valS s x) (y::r) ?_, ?_⟩) (fun h3=>⟨el0 x (y::r),z00 (fun h5=> ?_) (fun h5=> ?_)⟩)⟩
 · have h3:valB s x=true:=h3;have hv:=(hs.val h3).2.1;have:=Tm.szs_length (valS s x).l;have:=(valS s x).sz_eq;simp only [List.length_cons];omega
 · have h3:valB s x=true:=h3;rw [hS,if_pos h3];exact ⟨.refl _,rfl⟩
 · have h3:valB s x=false:=h3;have h5:x.k≠5:=by simpa using h5
   rw [hS,if_neg (by rw [h3];simp),if_pos h5];exact ⟨.refl _,rfl⟩
 · have h3:valB s x=false:=h3;have h5:x.k=5:=by simpa using h5
   rw [hS,if_neg (by rw [h3];simp),if_neg (by rw [h5];simp)];have hvl:=z08 hv (.inr rfl);have vx:=hvl x List.mem_cons_self;have vy:=hvl y (List.mem_cons_of_mem _ List.mem_cons_self);obtain ⟨xk,xs,xn,xl⟩:=x;have h5:xk=5:=h5;subst h5;obtain ⟨b,rfl,ob⟩:=okB5 hl.1 rfl;have vb:=z08 vx (.inl rfl) b List.mem_cons_self;simp only [Tm.sz,Tm.szs] at hz;have hc:=zmx b y (by simp only [SZ];omega) (by simp only [SZ];omega) bx.2.1 by_;rw [if_pos (by rw [vb,vy];rfl)] at hc;rw [show aE (List.getD (FV.ses (List.getD (List.getD (FTs (.mk 5 xs xn [b]::y::r)) 0 []) 3 FV.N)) 0 [])=aT b from zfs b];refine ⟨el0 _ _,el0 b [],el1 _ _ _,(_,_),hc,rfl,⟨by omega,len 2 (by omega),Int.le_refl _⟩,_,z46 (conF b y) r ?_, ?_⟩
   · unfold conF;split
     · rename_i hr;have h5:=(znd ob hl.2.1 hr (by simp only [SZ];omega)).1;have hz:=suT_sz 0 y b 0;have h6:=Tm.szs_length (suT 0 y b 0).l;have h7:=(suT 0 y b 0).sz_eq;simp only [B] at h5;omega
     · simp only [Tm.l,List.length_nil];omega
   · refine ⟨?_,rfl⟩;show TV.Le (.tup [(true,cT (z09 (conF b y) r)),(false,[.a (.fz (.bool true))]),(false,[.a (.fz (.int .i64 (conE b y)))])]) (aSt (z09 (conF b y) r) (if z4z b y=true then 1 else 2))
     unfold conE;by_cases q:z4z b y=true
     · rw [if_pos q,if_pos q];exact .refl _
     · rw [if_neg q,if_neg q];exact .refl _
end Go.AM

set_option maxRecDepth 100000
open Go Go.Proofs
namespace Go.AM
theorem z7t {F:Nat}{s:Sto}{t:Tm}(hs:OKS s)(hv:validB t=true)(hf:Fit (F+1) t)(h:(z0i s t).2=1):validB (z0i s t).1=true∧Fit F (z0i s t).1:=by
 have hM:(2199023255552:Int)≤M61-SZ-SZ*F:=by have:=hf.2.2.2;simp only [M61,SZ];omega
 have hval:∀ u,valB s u=true→validB (valS s u)=true∧okB (valS s u)=true∧lvB (valS s u)=true∧(valS s u).sz≤40000∧bd (M61-SZ-SZ*F) (valS s u):=fun u hu=>by
  have:=hs.val hu;exact ⟨this.1,z04 _ this.1,z2i this.1,this.2.1,z5r hM _ this.2.2⟩
 have hF:=hf.2.1;have hF4:=hf.2.2.2;unfold z0i at h ⊢;split
 · rename_i q;obtain ⟨v1,v2,v3,v4,v5⟩:=hval _ q;exact ⟨v1,v2,by simp only;omega,v5,by omega⟩
 rename_i q;rw [if_neg q] at h;split
 · rename_i q2;rw [if_pos q2] at h;simp at h
 rename_i q2;rw [if_neg q2] at h;have ok:=z04 t hv;obtain ⟨k,str,n,l⟩:=t
 have h6:k=6:=by
  by_cases e:k=6
  · exact e
  · exact absurd e q2
 obtain ⟨x,y,r,rfl,hx6,hl⟩:=okB6 ok h6;subst h6;simp only [okL,Bool.and_eq_true] at hl;have kv:=z08 hv (.inr rfl);have hb:=z5r (M':=M61-SZ-SZ*F) (by simp only [SZ];omega) _ hf.2.2.1;simp only [Tm.sz,Tm.szs] at hF;have lvr:lvL r=true:=zem fun u hu=>z2i (kv u (List.mem_cons_of_mem _ (List.mem_cons_of_mem _ hu)));have ey:Tm.l (.mk 6 str n (x::y::r))=x::y::r:=rfl;have eh:hd (x::y::r)=x:=rfl;have e1:List.drop 1 (x::y::r)=y::r:=rfl;have e2:List.drop 2 (x::y::r)=r:=rfl;have ehy:hd (y::r)=y:=rfl;simp only [ey,eh,e1,e2,ehy] at h ⊢;split
 · rename_i q3;obtain ⟨v1,v2,v3,v4,v5⟩:=hval _ q3;have ok2:okB (z09 (valS s x) (y::r))=true:=z4a v2 (by simp only [okL,hl.2.1,hl.2.2,Bool.and_self]);have lv2:lvB (z09 (valS s x) (y::r))=true:=z4c v3 (by simp only [lvL,lvr,z2i (kv y (List.mem_cons_of_mem _ List.mem_cons_self)),Bool.and_self]);have z:=z32 (valS s x) (y::r);simp only [Tm.szs] at z;refine ⟨by rw [z24,ok2,lv2];rfl,ok2,by simp only;omega,z2z v5 (show bds _ (y::r) from ⟨hb.2.2.1,hb.2.2.2⟩),by omega⟩
 rename_i q3;rw [if_neg q3] at h;split
 · rename_i q4;rw [if_pos q4] at h;simp at h
 rename_i q4;rw [if_neg q4] at h;obtain ⟨xk,xs,xn,xl⟩:=x
 have h5:xk=5:=by
  by_cases e:xk=5
  · exact e
  · exact absurd e q4
 subst h5;obtain ⟨b,rfl,ob⟩:=okB5 hl.1 rfl
 have room:z4z b y=true:=by
  by_cases e:z4z b y=true
  · exact e
  · exfalso;have h:(if z4z b y=true then (1:Int) else 2)=1:=h
    rw [if_neg e] at h;cases h
 have hst:z4t (.mk 6 str n (.mk 5 xs xn [b]::y::r))=(z09 (suT 0 y b 0) r,1):=by
  rw [z4t,if_pos (zqo str xs n xn b y r)];exact if_pos room
 have e3:conF (hd (Tm.l (.mk 5 xs xn [b]))) y=suT 0 y b 0:=by show conF b y=_;rw [conF,if_pos room]
 rw [e3];have hn:=hf.next (by rw [hst]);have hlv:=zps (M61-SZ-SZ*((F+1:Nat):Int)) (by simp only [M61,SZ];omega) _ ok hf.sz hf.2.2.1 (z2i hv) (by rw [hst]);rw [hst] at hn hlv;exact ⟨by rw [z24,hn.1,hlv];rfl,hn⟩
def runH (s:Sto):Nat→Tm→Tm×Int×Nat
 | 0,t=>if (z0i s t).2=0 then (t,0,0) else (noT,80,0)
 | F+1,t=>if (z0i s t).2=0 then (t,0,0) else if (z0i s t).2=2 then (noT,80,0) else ((runH s F (z0i s t).1).1,(runH s F (z0i s t).1).2.1,(runH s F (z0i s t).1).2.2+1)
theorem z6p {s:Sto}(hs:OKS s):∀ {F:Nat} {t:Tm},validB t=true→Fit F t→(runH s F t).2.2≤F∧((runH s F t).2.1=0∧validB (runH s F t).1=true∧Fit (F-(runH s F t).2.2) (runH s F t).1∧(z0i s (runH s F t).1).2=0∨(runH s F t).2.1=80∧(runH s F t).1=noT)
 | 0,t,hv,hf=>by
  rw [runH];split
  · rename_i h;exact ⟨Nat.le_refl _, .inl ⟨rfl,hv,hf,h⟩⟩
  · exact ⟨Nat.le_refl _, .inr ⟨rfl,rfl⟩⟩
 | F+1,t,hv,hf=>by
  rw [runH];split
  · rename_i h;exact ⟨Nat.zero_le _, .inl ⟨rfl,hv,hf,h⟩⟩
  · rename_i h0;split
    · exact ⟨Nat.zero_le _, .inr ⟨rfl,rfl⟩⟩
    · rename_i h2
      have h1:(z0i s t).2=1:=by rcases zdy s t with q | q | q; · exact absurd q h0
                                · exact q
                                · exact absurd q h2
      obtain ⟨v,f⟩:=z7t hs hv hf h1;have:=z6p hs v f;refine ⟨by simp only;omega, ?_⟩;rcases this.2 with ⟨a,b,c,d⟩ | ⟨a,b⟩
      · exact .inl ⟨a,b,by simp only;rw [show F+1-((runH s F (z0i s t).1).2.2+1)=F-(runH s F (z0i s t).1).2.2 by omega];exact c,d⟩
      · exact .inr ⟨a,b⟩
theorem l_shead (s:Sto)(hs:OKS s):∀ (F:Nat) (f:Int) (t:Tm),f.toNat=F→0-9223372036854775808≤f→validB t=true→Fit F t→
  RPt Tryz.prog 42 4 (aTE (runH s F t).1 (runH s F t).2.1) (oSf s (f-((runH s F t).2.2:Int))) 1
   ⟨[(0,aS 0),(2, .c (.a (.ep 3 1 0 0))),(4, .c (.a (.ep 4 4 0 0))),(6, .c (.a (.ep 5 4 0 0)))],[(0,sto2 1 2 s),(1, .arz 6 (SR s.V)),(2, .arz 1 (IR s.T)),(3,obj1 f),(4, .arr 4 [cT t]),(5, .arr 4 [zT])],6⟩:=by
 intro F
 induction F with
 | zero=>
  intro f t hf hf0 hv hfit;have hc:=zxh s hs t hv hfit.sz hfit.bd;have hr:runH s 0 t=if (z0i s t).2=0 then (t,0,0) else (noT,80,0):=rfl
  rw [hr];obtain ⟨k,str,n,l⟩:=t;refine RPt.vc hP sh lv42 (Eq.mpr (v42_1a s.V.length s.T.length (SR s.V) (IR s.T) f k str n (FTs l) 0 [] 0 _ _) ?_);refine ⟨(_,_,_),hc,z00 (fun h=> ?_) (fun h=>z00 (fun h2=> ?_) (fun h2=>z00 (fun h3=> ?_) (fun h3=>absurd (of_decide_eq_false h3) (by omega))))⟩
  · have h:(z0i s (.mk k str n l)).2=0:=by have h:(!((z0i s (.mk k str n l)).2 !=0))=true:=h;simpa using h
    rw [if_pos h];exact ⟨.refl _,by simp⟩
  · have h:¬(z0i s (.mk k str n l)).2=0:=by have h:(!((z0i s (.mk k str n l)).2 !=0))=false:=h;simpa using h
    rw [if_neg h];exact ⟨leTE (l:=[]) z0m,by simp⟩
  · have h:¬(z0i s (.mk k str n l)).2=0:=by have h:(!((z0i s (.mk k str n l)).2 !=0))=false:=h;simpa using h
    rw [if_neg h];exact ⟨leTE (l:=[]) z0m,by simp⟩
 | succ F ih=>
  intro f t hf hf0 hv hfit;have hc:=zxh s hs t hv hfit.sz hfit.bd;have hr:runH s (F+1) t=if (z0i s t).2=0 then (t,0,0) else if (z0i s t).2=2 then (noT,80,0) else ((runH s F (z0i s t).1).1,(runH s F (z0i s t).1).2.1,(runH s F (z0i s t).1).2.2+1):=rfl
  rw [hr];have hF4:=hfit.2.2.2
  have next:¬(z0i s t).2=0→¬(z0i s t).2=2→_:=fun h0 h2=>by
   have h1:(z0i s t).2=1:=by rcases zdy s t with q | q | q; · exact absurd q h0
                             · exact q
                             · exact absurd q h2
   obtain ⟨v,ff⟩:=z7t hs hv hfit h1;exact ih (f-1) (z0i s t).1 (by omega) (by omega) v ff
  obtain ⟨k,str,n,l⟩:=t;refine RPt.vc hP sh lv42 (Eq.mpr (v42_1a s.V.length s.T.length (SR s.V) (IR s.T) f k str n (FTs l) 0 [] 0 _ _) ?_);rw [w64 (x:=f-1) (by omega) (by omega)];refine ⟨(_,_,_),hc,z00 (fun h=> ?_) (fun h=>z00 (fun h2=> ?_) (fun h2=>z00 (fun h3=>absurd (of_decide_eq_true h3) (by omega)) (fun h3=> ?_)))⟩
  · have h:(z0i s (.mk k str n l)).2=0:=by have h:(!((z0i s (.mk k str n l)).2 !=0))=true:=h;simpa using h
    rw [if_pos h];exact ⟨.refl _,by simp⟩
  · have h:¬(z0i s (.mk k str n l)).2=0:=by have h:(!((z0i s (.mk k str n l)).2 !=0))=false:=h;simpa using h
    have h2:(z0i s (.mk k str n l)).2=2:=by
     by_cases q:(z0i s (.mk k str n l)).2=2
     · exact q
     · have h2:((if (z0i s (.mk k str n l)).2=2 then (80:Int) else 0) !=0)=true:=h2
       rw [if_neg q] at h2;cases h2
    rw [if_neg h,if_pos h2];exact ⟨leTE (l:=[]) z0m,by simp⟩
  · have h:¬(z0i s (.mk k str n l)).2=0:=by have h:(!((z0i s (.mk k str n l)).2 !=0))=false:=h;simpa using h
    have h2:¬(z0i s (.mk k str n l)).2=2:=fun q=>by
     have h2:((if (z0i s (.mk k str n l)).2=2 then (80:Int) else 0) !=0)=false:=h2
     rw [if_pos q] at h2;cases h2
    rw [if_neg h,if_neg h2];have:=next h h2;rw [show f-1-(((runH s F (z0i s (.mk k str n l)).1).2.2:Nat):Int)=f-(((runH s F (z0i s (.mk k str n l)).1).2.2+1:Nat):Int) by omega] at this;exact this
theorem zxo (s:Sto)(hs:OKS s)(F:Nat)(f:Int)(t:Tm)(hF:f.toNat=F)(h0:0-9223372036854775808≤f)(hv:validB t=true)(hf:Fit F t):
  AC Tryz.prog 42 [aS 0,aT t, .c (.a (.ep 3 1 0 0))] (oSf s f) (aTE (runH s F t).1 (runH s F t).2.1) (oSf s (f-((runH s F t).2.2:Int))):=by
 have h:=l_shead s hs F f t hF h0 hv hf;obtain ⟨k,str,n,l⟩:=t;exact AC.vc hP sh lv42 (Nat.le_refl _) (by simp [isLive]) (by simp) (Eq.mpr (v42 k str n (FTs l) ..) h)
def z0t (s:Sto)(f:Int)(t:Tm):Tm×Int×Int:=
 if validB t=true then (if (runH s f.toNat t).2.1=0 then ((runH s f.toNat t).1,f-((runH s f.toNat t).2.2:Int),0) else (noT,0,(runH s f.toNat t).2.1)) else (noT,0,1)
abbrev aHd (z:Tm×Int×Int):TV:= .tup [(true,cT z.1),(false,[.a (.fz (.int .i64 z.2.1))]),(false,[.a (.fz (.int .i64 z.2.2))])]
theorem leHd {k n a e:Int}{s:List UInt8}{x:FV}{l:List Tm}(h:FV.Le x (.sl false 4 (FTs l))):TV.Le (.tup [(true,[.a (.fz (.int .i64 k)), .a (.fz (.str s)), .a (.fz (.int .i64 n)), .a (.fz x)]),(false,[.a (.fz (.int .i64 a))]),(false,[.a (.fz (.int .i64 e))])]) (aHd (.mk k s n l,a,e)):=
 zq8 ⟨lwT h,lwR _,lwR _,trivial⟩
theorem zms (s:Sto)(hs:OKS s)(f:Int)(t:Tm)(h0:0-9223372036854775808≤f)(hz:t.sz≤B)(hf:validB t=true→Fit f.toNat t):
  AC Tryz.prog 27 [aT t,ci f, .c (.fn (.func 42) [(false,[.ep 0 2 0 0])] [])] (oS s) (aHd (z0t s f t)) (oS s):=by
 have h1:=z3f t hz;have h2:=fun hv=>zxo s hs f.toNat f t rfl h0 hv (hf hv);have h3:=fun hv=>z6p hs hv (hf hv);have hV:z0t s f t=if validB t=true then (if (runH s f.toNat t).2.1=0 then ((runH s f.toNat t).1,f-((runH s f.toNat t).2.2:Int),0) else (noT,0,(runH s f.toNat t).2.1)) else (noT,0,1):=rfl
 rw [hV];obtain ⟨k,str,n,l⟩:=t;refine AC.vc hP sh lv27 (Nat.le_refl _) (by simp [isLive]) (by simp) (Eq.mpr (v27_F42 k str n (FTs l) ..) ?_);refine ⟨_,h1,z00 (fun h=> ?_) (fun h=>⟨(_,_,_),h2 (by simpa using h),z00 (fun h'=> ?_) (fun h'=> ?_)⟩)⟩
 · rw [if_neg (by simpa using h)];exact ⟨leHd (l:=[]) z0m,rfl⟩
 · have h:validB (.mk k str n l)=true:=by simpa using h
   have h':((runH s f.toNat (.mk k str n l)).2.1 !=0)=true:=h';rw [if_pos h,if_neg (by simpa using h')];exact ⟨leHd (l:=[]) z0m,rfl⟩
 · have h:validB (.mk k str n l)=true:=by simpa using h
   have h':((runH s f.toNat (.mk k str n l)).2.1 !=0)=false:=h';rw [if_pos h,if_pos (by simpa using h')];exact ⟨.refl _,rfl⟩
theorem zxp (s:Sto)(hs:OKS s)(f:Int)(t:Tm)(h0:0-9223372036854775808≤f)(hz:t.sz≤B)(hf:validB t=true→Fit f.toNat t):AC Tryz.prog 89 [aS 0,aT t,ci f] (oS s) (aHd (z0t s f t)) (oS s):=by
 have h:=zms s hs f t h0 hz hf;obtain ⟨k,str,n,l⟩:=t;refine AC.vc hP sh lv89 (Nat.le_refl _) (by simp [isLive]) (by simp) (Eq.mpr (v89 k str n (FTs l) ..) ?_);exact ⟨(_,_,_),h, .refl _,rfl⟩
theorem stepS_sz {F:Nat}{s:Sto}{t:Tm}(hs:OKS s)(hv:validB t=true)(hf:Fit (F+1) t)(h:(z0i s t).2=1):(z0i s t).1.sz≤t.sz+42000:=by
 unfold z0i at h ⊢;split
 · rename_i q;have:=(hs.val q).2.1;simp only;omega
 rename_i q;rw [if_neg q] at h;split
 · rename_i q2;rw [if_pos q2] at h;simp at h
 rename_i q2;rw [if_neg q2] at h;have ok:=z04 t hv;obtain ⟨k,str,n,l⟩:=t
 have h6:k=6:=by
  by_cases e:k=6
  · exact e
  · exact absurd e q2
 obtain ⟨x,y,r,rfl,hx6,hl⟩:=okB6 ok h6;subst h6;simp only [okL,Bool.and_eq_true] at hl;have ey:Tm.l (.mk 6 str n (x::y::r))=x::y::r:=rfl;have eh:hd (x::y::r)=x:=rfl;have e1:List.drop 1 (x::y::r)=y::r:=rfl;have e2:List.drop 2 (x::y::r)=r:=rfl;have ehy:hd (y::r)=y:=rfl;simp only [ey,eh,e1,e2,ehy] at h ⊢;split
 · rename_i q3;have v4:=(hs.val q3).2.1;have z:=z32 (valS s x) (y::r);have zx:=x.sz_pos;simp only [Tm.szs,Tm.sz] at z ⊢;omega
 rename_i q3;rw [if_neg q3] at h;split
 · rename_i q4;rw [if_pos q4] at h;simp at h
 rename_i q4;rw [if_neg q4] at h;obtain ⟨xk,xs,xn,xl⟩:=x
 have h5:xk=5:=by
  by_cases e:xk=5
  · exact e
  · exact absurd e q4
 subst h5;obtain ⟨b,rfl,ob⟩:=okB5 hl.1 rfl
 have room:z4z b y=true:=by
  by_cases e:z4z b y=true
  · exact e
  · exfalso;have h:(if z4z b y=true then (1:Int) else 2)=1:=h
    rw [if_neg e] at h;cases h
 have hst:z4t (.mk 6 str n (.mk 5 xs xn [b]::y::r))=(z09 (suT 0 y b 0) r,1):=by
  rw [z4t,if_pos (zqo str xs n xn b y r)];exact if_pos room
 have e3:conF (hd (Tm.l (.mk 5 xs xn [b]))) y=suT 0 y b 0:=by show conF b y=_;rw [conF,if_pos room]
 rw [e3];have:=(zdv M61 (by simp only [M61];omega) _ hf.ok hf.sz hf.bd (by rw [hst])).2.1;rw [hst] at this;exact this
def z03 (t:Tm):Tm×List Tm:=if t.k=6∧validB t=true then (hd t.l,t.l.drop 1) else (t,[])
theorem zlp (t:Tm)(hz:t.sz≤B)(h:¬(t.k=6∧validB t=true)):AC Tryz.prog 90 [aT t] [] (.tup [(true,cT t),(false,[.a (.fz .N)])]) []:=by
 have h1:=z3f t hz;obtain ⟨k,str,n,l⟩:=t;refine AC.vc hP sh lv90 (Nat.le_refl _) (by simp) (by simp) (Eq.mpr (v90 k str n (FTs l) _ _) ?_);refine z00 (fun _=>⟨.refl _,rfl⟩) (fun h6=>⟨_,h1,z00 (fun _=>⟨.refl _,rfl⟩) (fun h'=>absurd ⟨?_, ?_⟩ h)⟩)
 · have h6:(k !=6)=false:=h6;show k=6;simpa using h6
 · simpa using h'
theorem zjz (t:Tm)(hz:t.sz≤B)(h6:t.k=6)(hv:validB t=true):AC Tryz.prog 90 [aT t] [] (.tup [(true,cT (hd t.l)),(false,[.a (.osl 0 4 0 (t.l.drop 1).length)])]) [.arz 4 (FTs (t.l.drop 1))]:=by
 have h1:=z3f t hz;have hlen:=Tm.szs_length t.l;have hsz:=t.sz_eq;obtain ⟨k,str,n,l⟩:=t;have h6:k=6:=h6;subst h6;obtain ⟨x,y,r,rfl,hx6,hl⟩:=okB6 (z04 _ hv) rfl;simp only [Tm.l,List.length_cons,B] at hlen hsz hz;have hcl:=znr.1 (FTs (y::r)) (by simp [FTs]) (by rw [z01];simp only [List.length_cons,B];omega);have e1:List.drop 1 (List.take (Int.toNat (((FTs (x::y::r)).length:Nat):Int)) (FTs (x::y::r)))=FTs (y::r):=by rw [zil];rfl
 refine AC.vc hP sh lv90 (by simp) (by simp) (by simp [isLive]) (Eq.mpr (v90 6 str n (FTs (x::y::r)) _ _) ?_);rw [e1];refine z00 (fun h=>by cases h) (fun _=>⟨_,h1,z00 (fun h'=>absurd hv (by simpa using h')) (fun _=> ?_)⟩);refine ⟨el0 x (y::r),rfl,⟨by omega,by rw [z01];simp only [List.length_cons];omega,Int.le_refl _⟩, .inr ⟨_,hcl, ?_,rfl⟩⟩;rw [show cE (List.getD (FTs (x::y::r)) 0 [])=cT x from cE_FT x,z01];exact .refl _
end Go.AM

set_option maxRecDepth 100000
open Go Go.Proofs
namespace Go.AM
abbrev oS' (s:Sto):List AObj:=[sto2 3 4 s, .gone, .gone, .arz 6 (SR s.V), .arz 1 (IR s.T)]
def freshS (s:Sto)(lv:Int):Sto:=⟨s.V++ [⟨z0g [lv,0],false,noT⟩],s.T⟩
theorem z3i (l:List Int):(IR l).length=l.length:=by simp [IR]
theorem zrk (a b:List Int):IR (a++b)=IR a++IR b:=by simp [IR]
theorem zr6 {n:Nat}{fs gs:List (List FV)}(hl:gs.length=fs.length)(h:∀ (i:Nat) (e e':List FV),fs[i]? =some e→gs[i]? =some e'→LeR e e'):OLe (.arz n fs) (.arz n gs):=
 .rows n fs gs (by omega) (fun i e e' he he'=>(h i e e' he he').length) (fun i j e e' f f' he he' hf hf'=>(h i e e' he he').get j f f' hf hf')
theorem ztf {n:Nat}{a:List (List FV)}{x y:List FV}(h:LeR x y):OLe (.arz n (a++ [x])) (.arz n (a++ [y])):=by
 refine zr6 (by simp) fun i e e' he he'=> ?_;by_cases q:i<a.length
 · rw [List.getElem?_append_left q] at he he';rw [he] at he';injection he' with he';subst he';exact LeR.refl _
 · rw [List.getElem?_append_right (by omega)] at he he';cases hi:i-a.length with
   | zero=>rw [hi] at he he';simp at he he';subst he;subst he';exact h
   | succ k=>rw [hi] at he;simp at he
theorem ole_set {n i:Nat}{a:List (List FV)}{x y:List FV}(h:LeR x y):OLe (.arz n (a.set i x)) (.arz n (a.set i y)):=by
 refine zr6 (by simp) fun j e e' he he'=> ?_;rw [List.getElem?_set] at he he';split at he
 · rename_i q;rw [if_pos q] at he';split at he
   · rename_i q2;rw [if_pos q2] at he';injection he with he;injection he' with he';subst he;subst he';exact h
   · cases he
 · rename_i q;rw [if_neg q] at he';rw [he] at he';injection he' with he';subst he';exact LeR.refl _
theorem ziy (s:Sto)(lv:Int)(h:s.V.length≤1073741824):AC Tryz.prog 14 [aS 0,ci lv] (oS s) (ci (s.V.length:Int)) (oS' (freshS s lv)):=by
 have hrow:LeR [.int .i64 (z0g [lv,0]), .bool false, .int .i64 0, .str [], .int .i64 0, .N] (Inf.c ⟨z0g [lv,0],false,noT⟩):=⟨.refl _, .refl _, .refl _, .refl _, .refl _,z0m,trivial⟩;have hV:(freshS s lv).V.length=s.V.length+1:=by simp [freshS]
 refine AC.obj (Hs':=[.arr 2 [[.a (.osl 3 6 0 (s.V.length+1)), .a (.osl 4 1 0 s.T.length)]], .gone, .gone, .arz 6 (SR s.V++ [[.int .i64 (z0g [lv,0]), .bool false, .int .i64 0, .str [], .int .i64 0, .N]]), .arz 1 (IR s.T)]) ?_ ⟨by rw [sto2,hV];exact .refl _, .refl _, .refl _, ?_, .refl _,trivial⟩
 · refine AC.vc hP sh lv14 (by simp) (by simp [isLive]) (by simp [isLive]) (Eq.mpr (v14 ..) ?_);rw [w64 (x:=(((s.V.length+1:Nat):Int)-1)) (by omega) (by omega),List.take_of_length_le (by rw [z2l];omega)];exact ⟨by omega,⟨by rw [z2l];omega,by unfold z0u;omega⟩,by rw [show (((s.V.length+1:Nat):Int)-1)=(s.V.length:Int) by omega];exact .refl _,rfl⟩
 · show OLe _ (.arz 6 (SR (s.V++ [⟨z0g [lv,0],false,noT⟩])));rw [zj8];exact ztf hrow
theorem c_rfresh (s:Sto)(lv:Int)(h:s.V.length≤1073741824):AC Tryz.prog 20 [aS 0,ci lv] (oS s) (ci (s.V.length:Int)) (oS' (freshS s lv)):=by
 have hrow:LeR [.int .i64 (z0g [lv,0]), .bool false, .int .i64 0, .str [], .int .i64 0, .N] (Inf.c ⟨z0g [lv,0],false,noT⟩):=⟨.refl _, .refl _, .refl _, .refl _, .refl _,z0m,trivial⟩;have hV:(freshS s lv).V.length=s.V.length+1:=by simp [freshS]
 refine AC.obj (Hs':=[.arr 2 [[.a (.osl 3 6 0 (s.V.length+1)), .a (.osl 4 1 0 s.T.length)]], .gone, .gone, .arz 6 (SR s.V++ [[.int .i64 (z0g [lv,0]), .bool false, .int .i64 0, .str [], .int .i64 0, .N]]), .arz 1 (IR s.T)]) ?_ ⟨by rw [sto2,hV];exact .refl _, .refl _, .refl _, ?_, .refl _,trivial⟩
 · refine AC.vc hP sh lv20 (by simp) (by simp [isLive]) (by simp [isLive]) (Eq.mpr (v20 ..) ?_);rw [w64 (x:=(((s.V.length+1:Nat):Int)-1)) (by omega) (by omega),List.take_of_length_le (by rw [z2l];omega)];exact ⟨by omega,⟨by rw [z2l];omega,by unfold z0u;omega⟩,by rw [show (((s.V.length+1:Nat):Int)-1)=(s.V.length:Int) by omega];exact .refl _,rfl⟩
 · show OLe _ (.arz 6 (SR (s.V++ [⟨z0g [lv,0],false,noT⟩])));rw [zj8];exact ztf hrow
def z2t (s:Sto)(x:Int)(t:Tm):Bool:=inB s.V x&&(!(infOf s.V x).bd&&(validB t&&decide (z1v t 0 0≤0)))
def bindS (s:Sto)(x:Int)(t:Tm):Sto:=if z2t s x t=true then ⟨s.V.set x.toNat ⟨(infOf s.V x).lv,true,t⟩,s.T++ [x]⟩ else s
def zdt (s:Sto)(x:Int)(t:Tm):Int:=if z2t s x t=true then 0 else 1
theorem z3c {s:Sto}{x:Int}{t:Tm}(h:z2t s x t=false):bindS s x t=s∧zdt s x t=1:=by
 unfold bindS zdt;rw [h];exact ⟨rfl,rfl⟩
theorem z1x {s:Sto}{x:Int}{t:Tm}(h:z2t s x t=true):bindS s x t=⟨s.V.set x.toNat ⟨(infOf s.V x).lv,true,t⟩,s.T++ [x]⟩∧zdt s x t=0:=by
 unfold bindS zdt;rw [h];exact ⟨rfl,rfl⟩
theorem inB_of {V:List Inf}{x:Int}(h0:0≤x)(h1:x<(V.length:Int)):inB V x=true:=by simp [inB];omega
theorem zp5 {s:Sto}{x:Int}{t:Tm}(hb:z2t s x t=true)(h0:0≤x)(h1:x<(s.V.length:Int)){e:List FV}(he:LeR e (Inf.c ⟨(infOf s.V x).lv,true,t⟩)):
  All2 OLe [.arr 2 [[.a (.osl 3 6 0 s.V.length), .a (.osl 4 1 0 (s.T.length+1))]], .gone, .gone, .arz 6 (List.set (SR s.V) (0+x.toNat) e), .arz 1 (IR s.T++ [[.int .i64 x]])] (oS' (bindS s x t)):=by
 rw [(z1x hb).1];refine ⟨by rw [sto2,List.length_set,List.length_append];exact .refl _, .refl _, .refl _, ?_, ?_,trivial⟩
 · show OLe _ (.arz 6 (SR (s.V.set x.toNat _)));rw [show SR (s.V.set x.toNat ⟨(infOf s.V x).lv,true,t⟩)=List.set (SR s.V) (0+x.toNat) (Inf.c ⟨(infOf s.V x).lv,true,t⟩) by rw [Nat.zero_add,SR,SR,List.map_set]];exact ole_set he
 · show OLe _ (.arz 1 (IR (s.T++ [x])));rw [zrk];exact .refl _
theorem zn5 (s:Sto)(x:Int)(t:Tm)(hT:s.T.length≤1073741824)(hz:t.sz≤B)(hb:bd M61 t):AC Tryz.prog 21 [aS 0,ci x,aT t] (oS s) (ci (zdt s x t)) (oS' (bindS s x t)):=by
 have h1:=z91 s x;have h2:=z3f t hz;have h3:=c_loose t hz hb;have hB:z2t s x t=(inB s.V x&&(!(infOf s.V x).bd&&(validB t&&decide (z1v t 0 0≤0)))):=rfl;cases hq:z2t s x t with
 | false=>
  rw [(z3c hq).1,(z3c hq).2];rw [hq] at hB;obtain ⟨k,str,n,l⟩:=t;refine AC.vc hP sh lv21 (by simp) (by simp [isLive]) (by simp [isLive]) (Eq.mpr (v21 x k str n (FTs l) ..) ?_);refine ⟨(_,_,_,_),h1,z00 (fun _=>⟨.refl _,rfl⟩) (fun e1=>z00 (fun _=>⟨.refl _,rfl⟩) (fun e2=>⟨_,h2,z00 (fun _=>⟨.refl _,rfl⟩) (fun e3=>⟨_,h3,z00 (fun _=>⟨.refl _,rfl⟩) (fun e4=> ?_)⟩)⟩))⟩;exfalso;have e1:(!(inB s.V x))=false:=e1
  have e1:inB s.V x=true:=by cases h:inB s.V x; · rw [h] at e1;cases e1
                             · rfl
  have e2:(infOf s.V x).bd=false:=e2;have e3:validB (.mk k str n l)=true:=by simpa using e3
  rw [e1,e2,e3,decide_eq_true (by have:=of_decide_eq_false e4;omega)] at hB;cases hB
 | true=>
  rw [(z1x hq).2];have hq':=hq;rw [hB] at hq';simp only [Bool.and_eq_true,Bool.not_eq_true',decide_eq_true_eq] at hq';obtain ⟨g1,g2,g3,g4⟩:=hq';have g1':0≤x∧x<(s.V.length:Int):=by simp [inB] at g1;omega
  refine AC.obj (Hs':=[.arr 2 [[.a (.osl 3 6 0 s.V.length), .a (.osl 4 1 0 (s.T.length+1))]], .gone, .gone, .arz 6 (List.set (SR s.V) (0+x.toNat) [.int .i64 (infOf s.V x).lv, .bool true, .int .i64 t.k, .str t.s, .int .i64 t.n, .sl false 4 (FTs t.l)]), .arz 1 (IR s.T++ [[.int .i64 x]])]) ?_ (zp5 hq g1'.1 g1'.2 (show LeR [.int .i64 (infOf s.V x).lv, .bool true, .int .i64 t.k, .str t.s, .int .i64 t.n, .sl false 4 (FTs t.l)] (Inf.c ⟨(infOf s.V x).lv,true,t⟩) from LeR.refl _));obtain ⟨hl,ei⟩:=z1w g1'.1 g1'.2;obtain ⟨k,str,n,l⟩:=t;refine AC.vc hP sh lv21 (by simp) (by simp [isLive]) (by simp [isLive]) (Eq.mpr (v21 x k str n (FTs l) ..) ?_);refine ⟨(_,_,_,_),h1,z00 (fun e=>by have e:(!(inB s.V x))=true:=e;rw [g1] at e;cases e) (fun _=>z00 (fun e=>by have e:(infOf s.V x).bd=true:=e;rw [g2] at e;cases e) (fun _=>⟨_,h2,z00 (fun e=>by rw [g3] at e;cases e) (fun _=>⟨_,h3,z00 (fun e=>absurd (of_decide_eq_true e) (by omega)) (fun _=>⟨g1',⟨by rw [z2l];omega, ?_⟩,by omega,⟨by rw [z3i];omega,by unfold z0u;omega⟩, .refl _, ?_⟩)⟩)⟩))⟩
  · rw [Nat.zero_add,zm7 hl];rfl
  · rw [List.take_of_length_le (by rw [z3i];omega)];rfl
theorem zsq (t:Tm)(k:Int):0≤z70 t k:=by
 obtain ⟨kd,s,n,l⟩:=t;rw [z70];split
 · unfold maxI;split<;>omega
 · split
   · exact zb0 _ _
   · exact Int.le_refl _
theorem c_rbind (s:Sto)(x:Int)(t:Tm)(hT:s.T.length≤1073741824)(hz:t.bk≤B)(hb:bd M61 t):AC Tryz.prog 22 [aS 0,ci x,aT t] (oS s) (ci (zdt s x t)) (oS' (bindS s x t)):=by
 have h2:=c_rvalid t hz;have hz':t.sz≤B:=Nat.le_trans (Tm.sz_bk t) hz;have h3:=c_rloose t hz' hb 0 (Int.le_refl _) (by simp only [B] at hz';omega);have hB:z2t s x t=(inB s.V x&&(!(infOf s.V x).bd&&(validB t&&decide (z1v t 0 0≤0)))):=rfl
 have hloose:z1v t 0 0=z70 t 0:=by
  rw [zkh t 0 0 (Int.le_refl _)];have:=zsq t 0;unfold maxI;split<;>omega
 rw [hloose] at hB;cases hq:z2t s x t with
 | false=>
  rw [(z3c hq).1,(z3c hq).2];rw [hq] at hB;obtain ⟨k,str,n,l⟩:=t;refine AC.vc hP sh lv22 (by simp) (by simp [isLive]) (by simp [isLive]) (Eq.mpr (v22 x k str n (FTs l) ..) ?_);refine ⟨_,h2,z00 (fun _=>⟨.refl _,rfl⟩) (fun e1=>z00 (fun _=>⟨.refl _,rfl⟩) (fun e2=>z00 (fun _=>⟨.refl _,rfl⟩) (fun e3=> ?_)))⟩;have e1:=of_decide_eq_false e1;have e2:=of_decide_eq_false e2;have g1':0≤x∧x<(s.V.length:Int):=by omega
  obtain ⟨hl,ei⟩:=z1w g1'.1 g1'.2;rw [show List.getD (SR s.V) (0+Int.toNat x) []=Inf.c s.V[x.toNat] by rw [Nat.zero_add,zm7 hl],←ei];refine ⟨g1',⟨by rw [z2l];omega,rfl,rfl⟩,z00 (fun _=>⟨.refl _,rfl⟩) (fun e4=>⟨_,h3,z00 (fun _=>⟨.refl _,rfl⟩) (fun e5=> ?_)⟩)⟩;exfalso;have e3:validB (.mk k str n l)=true:=by simpa using e3
  have e4:(infOf s.V x).bd=false:=e4;rw [inB_of g1'.1 g1'.2,e4,e3,decide_eq_true (by have:=of_decide_eq_false e5;omega)] at hB;cases hB
 | true=>
  rw [(z1x hq).2];have hq':=hq;rw [hB] at hq';simp only [Bool.and_eq_true,Bool.not_eq_true',decide_eq_true_eq] at hq';obtain ⟨g1,g2,g3,g4⟩:=hq';have g1':0≤x∧x<(s.V.length:Int):=by simp [inB] at g1;omega
  refine AC.obj (Hs':=[.arr 2 [[.a (.osl 3 6 0 s.V.length), .a (.osl 4 1 0 (s.T.length+1))]], .gone, .gone, .arz 6 (List.set (SR s.V) (0+x.toNat) [.int .i64 (infOf s.V x).lv, .bool true, .int .i64 t.k, .str t.s, .int .i64 t.n, .sl false 4 (FTs t.l)]), .arz 1 (IR s.T++ [[.int .i64 x]])]) ?_ (zp5 hq g1'.1 g1'.2 (show LeR [.int .i64 (infOf s.V x).lv, .bool true, .int .i64 t.k, .str t.s, .int .i64 t.n, .sl false 4 (FTs t.l)] (Inf.c ⟨(infOf s.V x).lv,true,t⟩) from LeR.refl _));obtain ⟨hl,ei⟩:=z1w g1'.1 g1'.2;obtain ⟨k,str,n,l⟩:=t;refine AC.vc hP sh lv22 (by simp) (by simp [isLive]) (by simp [isLive]) (Eq.mpr (v22 x k str n (FTs l) ..) ?_);rw [show List.getD (SR s.V) (0+Int.toNat x) []=Inf.c s.V[x.toNat] by rw [Nat.zero_add,zm7 hl],←ei];have hm:(0+x.toNat)<(SR s.V).length:=by rw [z2l];omega
  refine ⟨_,h2,z00 (fun e=>absurd (of_decide_eq_true e) (by omega)) (fun _=>z00 (fun e=>absurd (of_decide_eq_true e) (by omega)) (fun _=>z00 (fun e=>by rw [g3] at e;cases e) (fun _=>⟨g1',⟨hm,rfl,rfl⟩,z00 (fun e=>by rw [show (infOf s.V x).bd=true from e] at g2;cases g2) (fun _=>⟨_,h3,z00 (fun e=>absurd (of_decide_eq_true e) (by omega)) (fun _=>⟨g1',⟨hm,rfl,rfl⟩,g1',⟨hm,rfl⟩,by omega,⟨by rw [z3i];omega,by unfold z0u;omega⟩, .refl _, ?_⟩)⟩)⟩)))⟩;rw [List.take_of_length_le (by rw [z3i];omega)];rfl
end Go.AM

set_option maxRecDepth 100000
open Go Go.Proofs
namespace Go.AM
theorem z7b (s:Sto):AC Tryz.prog 8 [aS 0] (oS s) (.agg [.a (.fz (.int .i64 (s.T.length:Int))), .a (.fz (.int .i64 (s.V.length:Int)))]) (oS s):=by
 refine AC.vc hP sh lv8 (Nat.le_refl _) (by simp [isLive]) (by simp) (Eq.mpr (v8 ..) ?_);exact ⟨.refl _,rfl⟩
theorem c_slen (s:Sto):AC Tryz.prog 24 [aS 0] (oS s) (ci (s.V.length:Int)) (oS s):=by
 refine AC.vc hP sh lv24 (Nat.le_refl _) (by simp [isLive]) (by simp) (Eq.mpr (v24 ..) ?_);exact ⟨.refl _,rfl⟩
theorem same_is {x y:Tm}(hx:x.sz≤B)(e:x=y):AC Tryz.prog 12 [aT x,aT y] [] (cb true) []:=by
 have:=zng x hx y;rw [(z3q x y).2 e] at this;exact this
abbrev aInf (i:Inf):TV:= .agg [.a (.fz (.int .i64 i.lv)), .a (.fz (.bool i.bd)), .a (.fz (.int .i64 i.v.k)), .a (.fz (.str i.v.s)), .a (.fz (.int .i64 i.v.n)), .a (.fz (.sl false 4 (FTs i.v.l)))]
theorem zya (i j:Inf)(h:i.v.sz≤B)(e:i=j):AC Tryz.prog 26 [aInf i,aInf j] [] (cb true) []:=by
 subst e;obtain ⟨lv,bd,⟨k,s,n,l⟩⟩:=i;refine AC.vc hP sh lv26 (Nat.le_refl _) (by simp) (by simp) (Eq.mpr (v26 lv bd k s n (FTs l) lv bd k s n (FTs l) _ _) ?_);exact ⟨_,same_is h rfl,z00 (fun _=>z00 (fun _=>z07 rfl) (fun h=>by cases bd<;>cases h)) (fun h=>by simp at h)⟩
theorem zqv (a b:Int)(h:a≤b):z0d [a,b]=a:=by
 simp only [z0d,List.foldl,min,minOfLe];rw [if_pos h]
theorem drop_get {l:List Int}{j:Nat}{x:Int}{xs:List Int}(h:l.drop j=x::xs):j<l.length∧List.getD (IR l) j []=[.int .i64 x]∧l.drop (j+1)=xs:=by
 have hj:j<l.length:=by
  rcases Nat.lt_or_ge j l.length with q | q
  · exact q
  · rw [List.drop_eq_nil_of_le q] at h;cases h
 rw [List.drop_eq_getElem_cons hj] at h;injection h with h1 h2
 exact ⟨hj,by simp [IR,List.getD,hj,h1],h2⟩
def clrI (i:Inf):Inf:=⟨i.lv,false,noT⟩
def clrV (V:List Inf)(x:Int):List Inf:=V.modify x.toNat clrI
def clrR (h:List (List FV))(x:Int):List (List FV):=List.set h (0+x.toNat) [.int .i64 (FV.I (List.getD (List.getD h (0+x.toNat) []) 0 FV.N)), .bool false, .int .i64 0, .str [], .int .i64 0, .N]
def RowOf (i:Inf)(r:List FV):Prop:=r=Inf.c i∨(i.bd=false∧i.v=noT∧r=[.int .i64 i.lv, .bool false, .int .i64 0, .str [], .int .i64 0, .N])
def RowsOf (V:List Inf)(h:List (List FV)):Prop:=h.length=V.length∧∀ (i:Nat) (v:Inf) (r:List FV),V[i]? =some v→h[i]? =some r→RowOf v r
theorem RowOf.le {i:Inf}{r:List FV}(h:RowOf i r):LeR r (Inf.c i):=by
 rcases h with rfl | ⟨h1,h2,rfl⟩
 · exact LeR.refl _
 · obtain ⟨lv,bd,v⟩:=i;simp only at h1 h2;subst h1;subst h2;exact ⟨.refl _, .refl _, .refl _, .refl _, .refl _,z0m,trivial⟩
theorem RowOf.sz {i:Inf}{r:List FV}(h:RowOf i r):r.length=6∧FV.I (List.getD r 0 FV.N)=i.lv∧List.take 1 r=[.int .i64 i.lv]:=by
 rcases h with rfl | ⟨_,_,rfl⟩<;>exact ⟨rfl,rfl,rfl⟩
theorem SR_of (V:List Inf):RowsOf V (SR V):=⟨z2l V,fun i v r h1 h2=>by
 rw [SR,List.getElem?_map,h1] at h2;injection h2 with h2;exact .inl h2.symm⟩
theorem RowsOf.get {V:List Inf}{h:List (List FV)}(hr:RowsOf V h){i:Nat}(hi:i<V.length):RowOf V[i] (List.getD h i []):=by
 have h2:i<h.length:=by rw [hr.1];exact hi
 have:=hr.2 i _ _ (List.getElem?_eq_getElem hi) (List.getElem?_eq_getElem h2);simpa [List.getD,h2] using this
theorem z6b (V:List Inf)(x:Int):(clrV V x).length=V.length:=by simp [clrV]
theorem zr5 (V:List Inf)(x:Int)(i:Nat):(clrV V x)[i]? =V[i]?.map fun v=>if x.toNat=i then clrI v else v:=by
 rw [clrV,List.getElem?_modify];cases V[i]? with
 | none=>rfl
 | some v=>rfl
theorem RowsOf.clr {V:List Inf}{h:List (List FV)}(hr:RowsOf V h){x:Int}(h1:x.toNat<V.length):RowsOf (clrV V x) (clrR h x):=by
 refine ⟨by rw [z6b,clrR,List.length_set,hr.1],fun i v r hv hh=> ?_⟩;rw [zr5] at hv;rw [clrR,Nat.zero_add,List.getElem?_set] at hh;obtain ⟨v0,hv0,rfl⟩:=Option.map_eq_some_iff.1 hv;by_cases e:x.toNat=i
 · subst e;rw [if_pos rfl,if_pos (by rw [hr.1];exact h1)] at hh;injection hh with hh
   have hg:=(hr.get h1).sz;rw [hg.2.1] at hh;rw [if_pos rfl];have:V[x.toNat]=v0:=by rw [List.getElem?_eq_getElem h1] at hv0;injection hv0
   exact .inr ⟨rfl,rfl,by rw [←hh,this];rfl⟩
 · rw [if_neg e] at hh ⊢;exact hr.2 i _ _ hv0 hh
theorem z8t:∀ (xs:List Int) (V:List Inf),(xs.foldl clrV V).length=V.length
 | [],_=>rfl
 | x::xs,V=>by rw [List.foldl_cons,z8t xs,z6b]
theorem zm6:∀ (xs:List Int) (V:List Inf) (h:List (List FV)),RowsOf V h→(∀ x∈xs,0≤x∧x<(V.length:Int))→RowsOf (xs.foldl clrV V) (xs.foldl clrR h)
 | [],_,_,hr,_=>hr
 | x::xs,V,h,hr,hx=>by
  have h1:=hx x List.mem_cons_self;exact zm6 xs _ _ (hr.clr (by omega)) fun y hy=>by rw [z6b];exact hx y (List.mem_cons_of_mem _ hy)
theorem z9j:∀ (xs:List Int) (V:List Inf) (i:Nat),(xs.foldl clrV V)[i]? =V[i]?.map fun v=>if xs.any (fun x=>x.toNat==i)=true then clrI v else v
 | [],V,i=>by simp
 | x::xs,V,i=>by
  rw [List.foldl_cons,z9j xs,zr5,Option.map_map];congr 1
  funext v
  simp only [Function.comp,List.any_cons,Bool.or_eq_true,beq_iff_eq];by_cases e1:x.toNat=i<;>by_cases e2:xs.any (fun x=>x.toNat==i)=true<;>simp [e1,e2,clrI]
theorem zwb {n:Nat}{fs gs:List (List FV)}(hl:gs.length≤fs.length)(h:∀ (i:Nat) (e e':List FV),fs[i]? =some e→gs[i]? =some e'→LeR e e'):OLe (.arz n fs) (.arz n gs):=
 .rows n fs gs hl (fun i e e' he he'=>(h i e e' he he').length) fun i j e e' f f' he he' hf hf'=>(h i e e' he he').get j f f' hf hf'
theorem c_sundo1 (x v:Int):AC Tryz.prog 32 [ci x, .c (.a (.ep 0 1 0 0))] [obj1 v] (cb (decide (x≥v))) [obj1 v]:=by
 refine AC.vc hP sh lv32 (Nat.le_refl _) (by simp [isLive]) (by simp) (Eq.mpr (v32 ..) ?_);exact ⟨.refl _,rfl⟩
abbrev fnU:TV:= .c (.fn (.func 32) [] [(false,[.ep 1 1 0 0])])
theorem l_sidx (T:List Int)(m:Nat)(v:Int)(hm:m≤T.length)(hB:T.length≤1073741824)(h:∀ x∈T.take m,x<v):∀ (j i:Nat),i+j=m→
  RPt Tryz.prog 46 2 (ci (-1)) [.arz 1 (IR T),obj1 v] 1 ⟨[(0, .c (.a (.osl 0 1 0 m))),(1,fnU),(7,ci (m:Int)),(8,ci (i:Int))],[(0, .arz 1 (IR T)),(1,obj1 v)],2⟩
 | 0,i,hi=>by
  refine RPt.vc hP sh lv46 (Eq.mpr (zh ..) ?_);exact z00 (fun h=>absurd (of_decide_eq_true h) (by omega)) (fun _=>⟨.refl _,rfl⟩)
 | j+1,i,hi=>by
  refine RPt.vc hP sh lv46 (Eq.mpr (zh ..) ?_);have hi2:i<T.length:=by omega
  have eg:List.getD (IR T) (0+Int.toNat (i:Int)) []=[.int .i64 T[i]]:=by rw [Nat.zero_add,Int.toNat_natCast];simp [IR,List.getD,hi2]
  have hx:T[i]<v:=h _ (by rw [List.mem_take_iff_getElem];exact ⟨i,by omega,rfl⟩);have hc:=c_sundo1 T[i] v;rw [eg,w64 (x:=(i:Int)+1) (by omega) (by omega)];refine z00 (fun _=>⟨⟨by omega,by omega⟩,⟨by rw [z3i];omega,rfl,rfl⟩,_,hc,z00 (fun e=>absurd (of_decide_eq_true e) (by omega)) (fun _=> ?_)⟩) (fun h=>absurd (of_decide_eq_false h) (by omega));exact l_sidx T m v hm hB h j (i+1) (by omega)
theorem c_sdel (T:List Int)(m:Nat)(v:Int)(hm:m≤T.length)(hB:T.length≤1073741824)(h:∀ x∈T.take m,x<v):
  AC Tryz.prog 31 [.c (.a (.osl 0 1 0 m)),fnU] [.arz 1 (IR T),obj1 v] (.c (.a (.osl 0 1 0 m))) [.arz 1 (IR T),obj1 v]:=by
 have h1:AC Tryz.prog 46 [.c (.a (.osl 0 1 0 m)),fnU] [.arz 1 (IR T),obj1 v] (ci (-1)) [.arz 1 (IR T),obj1 v]:=by
  refine AC.vc hP sh lv46 (Nat.le_refl _) (by simp [isLive]) (by simp) (Eq.mpr (v46_F32 ..) ?_);exact l_sidx T m v hm hB h m 0 (by omega)
 refine AC.vc hP sh lv31 (Nat.le_refl _) (by simp [isLive]) (by simp) (Eq.mpr (v31_F32 ..) ?_);exact ⟨_,h1,z00 (fun _=>⟨.refl _,rfl⟩) (fun h=>by cases h)⟩
abbrev stU (T:List Int)(L m n:Nat)(h:List (List FV))(i:Nat):St:=
 ⟨[(0,aS 0),(3, .c (.a (.ep 5 2 0 0))),(4,ci (m:Int)),(22, .c (.a (.osl 4 1 m (T.length-m)))),(23,ci ((T.length-m:Nat):Int)),(24,ci (i:Int))],
  [(0, .arr 2 [[.a (.osl 3 6 0 L), .a (.osl 4 1 0 T.length)]]),(1, .gone),(2, .gone),(3, .arz 6 h),(4, .arz 1 (IR T)),(5, .arr 2 [[.a (.fz (.int .i64 (m:Int))), .a (.fz (.int .i64 (n:Int)))]])],6⟩
theorem zvf (T:List Int)(L m n:Nat)(hm:m≤T.length)(hB:T.length≤1073741824)(hn:n≤L)(hT:∀ x∈T,0≤x∧x<(L:Int))(hk:∀ x∈T.take m,x<(n:Int)):
  ∀ (xs:List Int) (i:Nat) (V:List Inf) (h:List (List FV)),T.drop (m+i)=xs→i+xs.length=T.length-m→RowsOf V h→V.length=L→
  RPt Tryz.prog 16 3 (.tup []) [.arr 2 [[.a (.osl 3 6 0 n), .a (.osl 4 1 0 m)]], .gone, .gone, .arz 6 (xs.foldl clrR h), .arz 1 (IR T)] 1 (stU T L m n h i)
 | [],i,V,h,hd,hi,hr,hV=>by
  refine RPt.vc hP sh lv16 (Eq.mpr (v16_1a ..) ?_);have hc:=c_sdel T m (n:Int) hm hB hk;simp only [List.length_nil,Nat.add_zero] at hi;rw [zid (by omega),zqv _ _ (by omega),Int.toNat_natCast,Int.toNat_natCast];exact z00 (fun h=>absurd (of_decide_eq_true h) (by omega)) (fun _=>⟨by omega,by omega,_,hc, .refl _,rfl⟩)
 | x::xs,i,V,h,hd,hi,hr,hV=>by
  refine RPt.vc hP sh lv16 (Eq.mpr (v16_1a ..) ?_);obtain ⟨g1,g2,g3⟩:=drop_get hd;have hx:=hT x (List.mem_of_mem_drop (by rw [hd];exact List.mem_cons_self));have hxl:x.toNat<V.length:=by omega
  have hrow:=(hr.get hxl).sz;have hlen:=hr.1;simp only [List.length_cons] at hi;have nx:=zvf T L m n hm hB hn hT hk xs (i+1) (clrV V x) (clrR h x) (by rw [←Nat.add_assoc];exact g3) (by omega) (hr.clr hxl) (by rw [z6b];exact hV);rw [show (Int.toNat (i:Int))=i from Int.toNat_natCast i,g2,w64 (x:=(i:Int)+1) (by omega) (by omega)];refine z00 (fun _=>⟨⟨by omega,by omega⟩,⟨by rw [z3i];omega,rfl,rfl⟩,hx,⟨by show 0+x.toNat<_;omega, ?_,rfl⟩,hx,⟨by show 0+x.toNat<_;omega,by show (List.getD h (0+x.toNat) []).length=6;rw [Nat.zero_add];exact hrow.1⟩,nx⟩) (fun h=>absurd (of_decide_eq_false h) (by omega));show [FV.int .i64 (FV.I (List.getD (List.getD h (0+x.toNat) []) 0 FV.N))]=List.take 1 (List.drop 0 (List.getD h (0+x.toNat) []));rw [Nat.zero_add,List.drop_zero,hrow.2.1,hrow.2.2]
def zaq (s:Sto)(m n:Nat):Sto:=⟨((s.T.drop m).foldl clrV s.V).take n,s.T.take m⟩
def OKT (s:Sto):Prop:=∀ x∈s.T,0≤x∧x<(s.V.length:Int)
theorem zmr (s:Sto)(m n:Nat)(hm:m≤s.T.length)(hB:s.T.length≤1073741824)(hn:n≤s.V.length)(hT:OKT s)(hk:∀ x∈s.T.take m,x<(n:Int)):
  AC Tryz.prog 16 [aS 0, .agg [.a (.fz (.int .i64 (m:Int))), .a (.fz (.int .i64 (n:Int)))]] (oS s) (.tup []) (oS' (zaq s m n)):=by
 have hr:=zm6 (s.T.drop m) s.V (SR s.V) (SR_of _) fun x hx=>hT x (List.mem_of_mem_drop hx);refine AC.obj (Hs':=[.arr 2 [[.a (.osl 3 6 0 n), .a (.osl 4 1 0 m)]], .gone, .gone, .arz 6 ((s.T.drop m).foldl clrR (SR s.V)), .arz 1 (IR s.T)]) ?_ ⟨?_, .refl _, .refl _, ?_, ?_,trivial⟩
 · refine AC.vc hP sh lv16 (by simp) (by simp [isLive]) (by simp [isLive]) (Eq.mpr (v16 ..) ?_);rw [zid (by omega),zqv _ _ (by omega),Int.toNat_natCast,Int.toNat_natCast,Nat.zero_add];exact ⟨by omega,zvf s.T s.V.length m n hm hB hn hT hk (s.T.drop m) 0 s.V (SR s.V) rfl (by simp) (SR_of _) rfl⟩
 · have e1:(zaq s m n).V.length=n:=by simp only [zaq,List.length_take,z8t];omega
   have e2:(zaq s m n).T.length=m:=by simp only [zaq,List.length_take];omega
   rw [sto2,e1,e2];exact .refl _
 · have e0:=z8t (s.T.drop m) s.V;refine zwb (by rw [z2l,hr.1,zaq,List.length_take];omega) fun i e e' he he'=> ?_;rw [SR,List.getElem?_map] at he';obtain ⟨v,hv,rfl⟩:=Option.map_eq_some_iff.1 he';rw [zaq,List.getElem?_take] at hv;split at hv
   · exact (hr.2 i v e hv he).le
   · cases hv
 · refine zwb (by rw [z3i,z3i,zaq,List.length_take];omega) fun i e e' he he'=> ?_;rw [IR,List.getElem?_map] at he he';obtain ⟨v,hv,rfl⟩:=Option.map_eq_some_iff.1 he';obtain ⟨v2,hv2,rfl⟩:=Option.map_eq_some_iff.1 he;rw [zaq,List.getElem?_take] at hv;split at hv
   · rw [hv2] at hv;injection hv with hv;subst hv;exact LeR.refl _
   · cases hv
end Go.AM

set_option maxRecDepth 100000
open Go Go.Proofs
namespace Go.AM
def z0w (fu:Int→Tm→Tm×Int×Int):Bool→List Tm→Int→List Tm×Int×Int
 | _,[],g=>([],0,g)
 | true,t::l,g=>(t::(z0w fu false l g).1,(z0w fu false l g).2)
 | false,t::l,g=>if (fu g t).2.1≠0 then ([],(fu g t).2) else ((fu g t).1::(z0w fu false l (fu g t).2.2).1,(z0w fu false l (fu g t).2.2).2)
def z93 (h:Tm)(r:List Tm×Int×Int):Tm×Int×Int:=if r.2.1≠0 then (noT,r.2) else (.mk h.k h.s h.n r.1,r.2)
def zfe (fu:Int→Tm→Tm×Int×Int)(q:Tm×Int×Int):Tm×Int×Int:=if q.2.1≠0 then (noT,q.2) else z93 q.1 (z0w fu (q.1.k==6) q.1.l q.2.2)
def z8f (s:Sto)(f:Int)(t:Tm):Tm×Int×Int:=((runH s f.toNat t).1,(runH s f.toNat t).2.1,f-((runH s f.toNat t).2.2:Int))
def z0c (s:Sto):Nat→Int→Tm→Tm×Int×Int
 | 0,f,_=>(noT,80,f)
 | D+1,f,t=>if f≤0 then (noT,80,f) else zfe (z0c s D) (z8f s (f-1) t)
theorem zmp (s:Sto):∀ (F:Nat) (t:Tm),(runH s F t).2.2≤F
 | 0,t=>by
  have hr:runH s 0 t=if (z0i s t).2=0 then (t,0,0) else (noT,80,0):=rfl
  rw [hr];split<;>exact Nat.le_refl _
 | F+1,t=>by
  have hr:runH s (F+1) t=if (z0i s t).2=0 then (t,0,0) else if (z0i s t).2=2 then (noT,80,0) else ((runH s F (z0i s t).1).1,(runH s F (z0i s t).1).2.1,(runH s F (z0i s t).1).2.2+1):=rfl
  rw [hr];split
  · exact Nat.zero_le _
  · split
    · exact Nat.zero_le _
    · have:=zmp s F (z0i s t).1;simp only;omega
theorem z84 {fu:Int→Tm→Tm×Int×Int}(h:∀ g t,0≤g→0≤(fu g t).2.2∧(fu g t).2.2≤g):∀ (l:List Tm) (sk:Bool) (g:Int),0≤g→0≤(z0w fu sk l g).2.2∧(z0w fu sk l g).2.2≤g
 | [],_,g,hg=>⟨hg,Int.le_refl _⟩
 | t::l,true,g,hg=>z84 h l false g hg
 | t::l,false,g,hg=>by
  have h1:=h g t hg;rw [z0w];split
  · exact h1
  · have:=z84 h l false _ h1.1;exact ⟨this.1,by simp only;omega⟩
theorem z3h (s:Sto):∀ (D:Nat) (f:Int) (t:Tm),0≤f→0≤(z0c s D f t).2.2∧(z0c s D f t).2.2≤f
 | 0,f,t,h=>⟨h,Int.le_refl _⟩
 | D+1,f,t,h=>by
  rw [z0c];split
  · exact ⟨h,Int.le_refl _⟩
  · have h1:=zmp s (f-1).toNat t;have h2:0≤(z8f s (f-1) t).2.2∧(z8f s (f-1) t).2.2≤f-1:=by simp only [z8f];omega
    unfold zfe;split
    · exact ⟨h2.1,by simp only;omega⟩
    · have h3:=z84 (z3h s D) (z8f s (f-1) t).1.l ((z8f s (f-1) t).1.k==6) _ h2.1;unfold z93;split<;>exact ⟨h3.1,by simp only;omega⟩
abbrev aFT (z:Tm×Int×Int):TV:=aTE z.1 z.2.1
abbrev aEP3:TV:= .c (.a (.ep 3 1 0 0))
abbrev stF (s:Sto)(k:Int)(str:List UInt8)(n:Int)(l0:List Tm)(g:Int)(l:List Tm)(i:Int):St:=
 ⟨[(0,aS 0),(2,aEP3),(4, .c (.a (.ep 4 4 0 0))),(6, .c (.a (.ep 5 4 0 0))),(9, .c (.a (.osl 6 4 0 l0.length))),(36,ci l0.length),(37,ci i)],
  [(0,sto2 1 2 s),(1, .arz 6 (SR s.V)),(2, .arz 1 (IR s.T)),(3,obj1 g),(4, .arr 4 [cT (.mk k str n l0)]),(5, .arr 4 [zT]),(6, .arz 4 (FTs l))],7⟩
theorem zml (s:Sto)(k:Int)(str:List UInt8)(n:Int)(l0:List Tm)(hl0:l0.length≤SZ)(fu:Int→Tm→Tm×Int×Int)(hfu:∀ g t,0≤g→0≤(fu g t).2.2∧(fu g t).2.2≤g):
  ∀ (b a:List Tm) (sk:Bool) (g:Int),sk=((k==6)&&(a.length==0))→a.length+b.length=l0.length→0≤g→
  (∀ u∈b,∀ g':Int,0≤g'→g'≤g→AC Tryz.prog 28 [aS 0,aT u,aEP3] (oSf s g') (aFT (fu g' u)) (oSf s (fu g' u).2.2))→
  RPt Tryz.prog 28 4 (aFT (z93 (.mk k str n l0) (a++(z0w fu sk b g).1,(z0w fu sk b g).2))) (oSf s (z0w fu sk b g).2.2) 1 (stF s k str n l0 g (a++b) a.length)
 | [],a,sk,g,hsk,hlen,hg,_=>by
  refine RPt.vc hP sh lv28 (Eq.mpr (v28_1b l0.length l0.length a.length s.V.length s.T.length (SR s.V) (IR s.T) g k str n (FTs l0) 0 [] 0 (FTs (a++ [])) _ _) ?_);simp only [List.length_nil,Nat.add_zero] at hlen;refine z00 (fun h=>absurd (of_decide_eq_true h) (by omega)) (fun _=>⟨⟨⟨rfl,by rw [z01];simp;omega⟩,trivial⟩, ?_,rfl⟩);rw [List.drop_zero,List.take_of_length_le (by rw [z01];simp;omega)];exact leTE leSl
 | t::b,a,sk,g,hsk,hlen,hg,ih=>by
  simp only [List.length_cons,SZ] at hlen hl0;have em:=z60 a t b;have h3:=ltI' a t b
  have el:(0+Int.toNat (a.length:Int))<(FTs (a++t::b)).length∧((rE (List.getD (FTs (a++t::b)) (0+Int.toNat (a.length:Int)) []):List FV)=List.take 4 (List.drop 0 (List.getD (FTs (a++t::b)) (0+Int.toNat (a.length:Int)) []))∧(4:Nat)=4):=by
   rw [Nat.zero_add,em];refine ⟨by omega, ?_,rfl⟩;rw [midI,List.drop_zero,List.take_of_length_le (by rw [z2j];exact Nat.le_refl _)]
  have el2:(0+Int.toNat (a.length:Int))<(FTs (a++t::b)).length∧(List.getD (FTs (a++t::b)) (0+Int.toNat (a.length:Int)) []).length=4:=⟨el.1,by rw [Nat.zero_add,midI];exact z2j t⟩;have ea:aE (List.getD (FTs (a++t::b)) (0+Int.toNat (a.length:Int)) [])=aT t:=by rw [Nat.zero_add,z5h]
  refine RPt.vc hP sh lv28 (Eq.mpr (v28_1b l0.length l0.length a.length s.V.length s.T.length (SR s.V) (IR s.T) g k str n (FTs l0) 0 [] 0 (FTs (a++t::b)) _ _) ?_);rw [ea,w64 (x:=(a.length:Int)+1) (by omega) (by omega)];refine z00 (fun _=> ?_) (fun h=>absurd (of_decide_eq_false h) (by omega));cases sk with
  | true=>
   have hsk:(k==6)=true∧(a.length==0)=true:=by rw [←Bool.and_eq_true];exact hsk.symm
   have ha:a=[]:=List.eq_nil_of_length_eq_zero (by simpa using hsk.2);subst ha;have h2:=zml s k str n l0 (by simp only [SZ];omega) fu hfu b [t] false g (by simp) (by simp at hlen ⊢;omega) hg (fun u hu=>ih u (List.mem_cons_of_mem _ hu));exact z00 (fun _=>z00 (fun _=>h2) (fun h=>by cases h)) (fun h=>absurd hsk.1 (by rw [h];simp))
  | false=>
   have hc:=ih t List.mem_cons_self g hg (Int.le_refl _);have hq:=hfu g t hg;have go:((0:Int)≤(a.length:Int)∧(a.length:Int)<((l0.length:Nat):Int)):=by omega
   have eK:z0w fu false (t::b) g=if (fu g t).2.1≠0 then ([],(fu g t).2) else ((fu g t).1::(z0w fu false b (fu g t).2.2).1,(z0w fu false b (fu g t).2.2).2):=rfl
   have next:=zml s k str n l0 (by simp only [SZ];omega) fu hfu b (a++ [(fu g t).1]) false (fu g t).2.2 (by simp) (by simp;omega) hq.1 (fun u hu g' h0 h1=>ih u (List.mem_cons_of_mem _ hu) g' h0 (by omega));generalize fu g t=z at*;obtain ⟨z1,z2,z3⟩:=z;simp only at hc hq eK next
   have step:br (z2 !=0) (TV.Le (.tup [(true,[.a (.fz (.int .i64 0)), .a (.fz (.str [])), .a (.fz (.int .i64 0)), .a (.fz .N)]),(false,[.a (.fz (.int .i64 z2))])]) (aFT (z93 (.mk k str n l0) (a++(z0w fu false (t::b) g).1,(z0w fu false (t::b) g).2)))∧oSf s z3=oSf s (z0w fu false (t::b) g).2.2)
     (RPt Tryz.prog 28 4 (aFT (z93 (.mk k str n l0) (a++(z0w fu false (t::b) g).1,(z0w fu false (t::b) g).2))) (oSf s (z0w fu false (t::b) g).2.2) 1 (stF s k str n l0 z3 (a++z1::b) ((a.length:Int)+1))):=by
    refine z00 (fun h=> ?_) (fun h=> ?_)
    · have h:z2≠0:=by simpa using h
      rw [if_pos h] at eK;rw [eK,z93,if_pos h];exact ⟨leTE (l:=[]) z0m,rfl⟩
    · have h:¬z2≠0:=by simpa using h
      rw [if_neg h] at eK;rw [eK];rw [List.append_assoc,ap a z1 b,nx] at next;exact next
   have tail:=step;rw [show stF s k str n l0 z3 (a++z1::b) ((a.length:Int)+1)=⟨[(0,aS 0),(2,aEP3),(4, .c (.a (.ep 4 4 0 0))),(6, .c (.a (.ep 5 4 0 0))),(9, .c (.a (.osl 6 4 0 l0.length))),(36,ci l0.length),(37,ci ((a.length:Int)+1))],
  [(0,sto2 1 2 s),(1, .arz 6 (SR s.V)),(2, .arz 1 (IR s.T)),(3,obj1 z3),(4, .arr 4 [cT (.mk k str n l0)]),(5, .arr 4 [zT]),(6, .arz 4 (List.set (FTs (a++t::b)) (0+Int.toNat (a.length:Int)) (FT4 z1)))],7⟩ by rw [zxl]] at tail
   have hsk:((k==6)&&(a.length==0))=false:=hsk.symm;refine z00 (fun h6=>z00 (fun h0=> ?_) (fun _=>⟨go,el,(z1,z2,z3),hc,go,el2,tail⟩)) (fun _=>⟨go,el,(z1,z2,z3),hc,go,el2,tail⟩);exfalso;have h6:(k==6)=true:=h6;have h0:((a.length:Int)==0)=true:=h0;rw [h6,Bool.true_and] at hsk;simp at hsk h0;exact hsk h0
theorem c_sfull (s:Sto)(hs:OKS s):∀ (D:Nat) (f:Int) (t:Tm),f.toNat≤D→0-9223372036854775808≤f→validB t=true→Fit f.toNat t→AC Tryz.prog 28 [aS 0,aT t,aEP3] (oSf s f) (aFT (z0c s D f t)) (oSf s (z0c s D f t).2.2):=by
 intro D
 induction D with
 | zero=>
  intro f t hD h0 hv hf;obtain ⟨k,str,n,l⟩:=t;refine AC.vc hP sh lv28 (Nat.le_refl _) (by simp [isLive]) (by simp) (Eq.mpr (v28 k str n (FTs l) ..) ?_);exact z00 (fun _=>⟨leTE (l:=[]) z0m,rfl⟩) (fun h=>absurd (of_decide_eq_false h) (by omega))
 | succ D ihD=>
  intro f t hD h0 hv hf;by_cases hf0:f≤0
  · have e:z0c s (D+1) f t=(noT,80,f):=by rw [z0c,if_pos hf0]
    rw [e];obtain ⟨k,str,n,l⟩:=t;refine AC.vc hP sh lv28 (Nat.le_refl _) (by simp [isLive]) (by simp) (Eq.mpr (v28 k str n (FTs l) ..) ?_);exact z00 (fun _=>⟨leTE (l:=[]) z0m,rfl⟩) (fun h=>absurd (of_decide_eq_false h) (by omega))
  · have hfit:=hf.mono (show (f-1).toNat≤f.toNat by omega);have hf5:=hf.2.2.2;have hh:=zxo s hs (f-1).toNat (f-1) t rfl (by omega) hv hfit;have hq:=z6p hs hv hfit;have e:z0c s (D+1) f t=zfe (z0c s D) (z8f s (f-1) t):=by rw [z0c,if_neg hf0]
    rw [e];have eh:z8f s (f-1) t=((runH s (f-1).toNat t).1,(runH s (f-1).toNat t).2.1,f-1-((runH s (f-1).toNat t).2.2:Int)):=rfl;rw [eh];generalize runH s (f-1).toNat t=q at*;obtain ⟨h,er,u⟩:=q;simp only at hh hq ⊢;obtain ⟨hu,hq⟩:=hq
    have start:∀ (r:TV) (o:Int),br (er !=0) (TV.Le (.tup [(true,[.a (.fz (.int .i64 0)), .a (.fz (.str [])), .a (.fz (.int .i64 0)), .a (.fz .N)]),(false,[.a (.fz (.int .i64 er))])]) r∧oSf s (f-1-(u:Int))=oSf s o)
      ((∃ b:Bool,AC Tryz.prog 43 [.c (.a (.fz (.sl false 4 (FTs h.l))))] [] (.c (.a (.fz (.sl b 4 [])))) []∧FV.L 4 (.sl b 4 [])=true∧RPt Tryz.prog 28 4 r (oSf s o) 1 ⟨[(0,aS 0),(2,aEP3),(4, .c (.a (.ep 4 4 0 0))),(6, .c (.a (.ep 5 4 0 0))),(9, .c (.a (.fz (.sl b 4 [])))),(36,ci 0),(37,ci 0)],
        [(0,sto2 1 2 s),(1, .arz 6 (SR s.V)),(2, .arz 1 (IR s.T)),(3,obj1 (f-1-(u:Int))),(4, .arr 4 [cT h]),(5, .arr 4 [zT])],6⟩)∨
       (∃ z:List (List FV),AC Tryz.prog 43 [.c (.a (.fz (.sl false 4 (FTs h.l))))] [] (.c (.a (.osl 0 4 0 z.length))) [.arz 4 z]∧RPt Tryz.prog 28 4 r (oSf s o) 1 ⟨[(0,aS 0),(2,aEP3),(4, .c (.a (.ep 4 4 0 0))),(6, .c (.a (.ep 5 4 0 0))),(9, .c (.a (.osl 6 4 0 z.length))),(36,ci z.length),(37,ci 0)],
          [(0,sto2 1 2 s),(1, .arz 6 (SR s.V)),(2, .arz 1 (IR s.T)),(3,obj1 (f-1-(u:Int))),(4, .arr 4 [cT h]),(5, .arr 4 [zT]),(6, .arz 4 z)],7⟩))→
      AC Tryz.prog 28 [aS 0,aT t,aEP3] (oSf s f) r (oSf s o):=fun r o hb=>by
     obtain ⟨tk,ts,tn,tl⟩:=t;refine AC.vc hP sh lv28 (Nat.le_refl _) (by simp [isLive]) (by simp) (Eq.mpr (v28 tk ts tn (FTs tl) ..) ?_);rw [w64 (x:=f-1) (by omega) (by omega)];exact z00 (fun h=>absurd (of_decide_eq_true h) (by omega)) (fun _=>⟨(h,er,f-1-(u:Int)),hh,hb⟩)
    refine start _ _ (z00 (fun he=> ?_) (fun he=> ?_))
    · have he:er≠0:=by simpa using he
      rw [zfe,if_pos he];exact ⟨leTE (l:=[]) z0m,rfl⟩
    · have he:er=0:=by simpa using he
      subst he;rcases hq with ⟨_,hvh,hfh,_⟩ | ⟨h80,_⟩
      · have hls:h.l.length≤SZ:=by have:=hfh.sz;have:=h.sz_eq;have:=Tm.szs_length h.l;omega
        rw [zfe,if_neg (by simp)];have hg0:0≤f-1-(u:Int):=by omega
        have kid:∀ x∈h.l,∀ g':Int,0≤g'→g'≤f-1-(u:Int)→AC Tryz.prog 28 [aS 0,aT x,aEP3] (oSf s g') (aFT (z0c s D g' x)) (oSf s (z0c s D g' x).2.2):=fun x hx g' h0 h1=>by
         have hvx:validB x=true:=by
          obtain ⟨hk,hst,hn,hl⟩:=h;by_cases h5:hk=5∨hk=6
          · exact z08 hvh h5 x hx
          · rw [not_or] at h5;have:=okB0 (z04 _ hvh) h5.1 h5.2;have hx:x∈hl:=hx;rw [this] at hx;cases hx
         exact ihD g' x (by omega) (by omega) hvx ((hfh.kid hx).mono (by omega))
        have loop:=zml s h.k h.s h.n h.l hls (z0c s D) (z3h s D) h.l [] (h.k==6) (f-1-(u:Int)) (by simp) (by simp) hg0 kid;obtain ⟨hk,hst,hn,hl⟩:=h;simp only [Tm.l,Tm.k,Tm.s,Tm.n,List.nil_append] at loop hls ⊢;have e9:z93 (.mk hk hst hn hl) ((z0w (z0c s D) (hk==6) hl (f-1-(u:Int))).1,(z0w (z0c s D) (hk==6) hl (f-1-(u:Int))).2)=z93 (.mk hk hst hn hl) (z0w (z0c s D) (hk==6) hl (f-1-(u:Int))):=rfl;have e8:(z93 (.mk hk hst hn hl) (z0w (z0c s D) (hk==6) hl (f-1-(u:Int)))).2.2=(z0w (z0c s D) (hk==6) hl (f-1-(u:Int))).2.2:=by unfold z93;split<;>rfl
        rw [e8];by_cases hnil:hl=[]
        · subst hnil;refine .inl ⟨false,znr.2,rfl, ?_⟩;refine RPt.vc hP sh lv28 (Eq.mpr (v28_1a false [] 0 0 s.V.length s.T.length (SR s.V) (IR s.T) (f-1-(u:Int)) hk hst hn (FTs []) 0 [] 0 _ _) ?_);exact z00 (fun h=>by cases h) (fun _=>⟨.refl _,rfl⟩)
        · refine .inr ⟨FTs hl,znr.1 (FTs hl) (by rw [z2f];simp [hnil]) (by rw [z01];simp only [SZ,B] at*;omega), ?_⟩;rw [z01];exact loop
      · cases h80
end Go.AM

set_option maxRecDepth 100000
open Go Go.Proofs
namespace Go.AM
def z6j (l:List Tm):Tm:=l.getLastD default
def z6i (b:Tm):Tm:=z09 (hd b.l) b.l.tail.dropLast
def z28 (b:Tm):Bool:=b.k==6&&(z6j b.l).k==3&&(z6j b.l).n==0&&occF (z6i b) 0==0
def z73 (b:Tm):Tm:=if z28 b=true then shT 0 (-1) (z6i b) 0 else noT
mutual
def z06:Tm→Tm
 | .mk k s n l=>if (k==5)=true then (if z28 (hd (z0h l))=true then z73 (hd (z0h l)) else .mk 5 [] 0 [hd (z0h l)]) else if (k==6)=true then z09 (hd (z0h l)) (z0h l).tail else .mk k s n l
def z0h:List Tm→List Tm
 | []=> []
 | t::l=>z06 t::z0h l
end
theorem z5z {k n:Int}{s:List UInt8}{l:List Tm}(h:okB (.mk k s n l)=true)(hk:k=6):∃ x a z,l=x::a++ [z]∧x.k≠6∧okB x=true∧okL a=true∧okB z=true:=by
 obtain ⟨x,y,r,rfl,h6,hl⟩:=okB6 h hk;refine ⟨x,(y::r).dropLast,(y::r).getLast (by simp),by rw [List.cons_append,List.dropLast_concat_getLast],h6,z5a hl List.mem_cons_self,zk1 fun u hu=>z5a hl (List.mem_cons_of_mem _ (List.dropLast_subset _ hu)),z5a hl (List.mem_cons_of_mem _ (List.getLast_mem _))⟩
theorem zp2 (x:Tm)(a:List Tm)(z:Tm):z6j (x::a++ [z])=z:=by
 rw [z6j,List.getLastD_eq_getLast?,List.getLast?_append];rfl
theorem z5l (k n:Int)(s:List UInt8)(x:Tm)(a:List Tm)(z:Tm):z6i (.mk k s n (x::a++ [z]))=z09 x a:=by
 rw [z6i];show z09 x ((a++ [z]).dropLast)=_;rw [List.dropLast_concat]
theorem zt2 {b:Tm}(h:z28 b=true):b.k=6:=by
 simp only [z28,Bool.and_eq_true,beq_iff_eq] at h;exact h.1.1.1
theorem drop0 {b:Tm}(h:z28 b=true):occF (z6i b) 0=0:=by
 simp only [z28,Bool.and_eq_true,beq_iff_eq] at h;exact h.2
theorem zi {b:Tm}(h:okB b=true)(hk:b.k=6):okB (z6i b)=true∧(lvB b=true→lvB (z6i b)=true)∧(z6i b).sz≤b.sz∧∀ M,bd M b→bd M (z6i b):=by
 obtain ⟨k,s,n,l⟩:=b;have hk':k=6:=hk;obtain ⟨x,a,z,rfl,h6,hx,ha,hz⟩:=z5z h hk';rw [z5l];refine ⟨z4a hx ha,fun hl=> ?_, ?_,fun M hb=> ?_⟩
 · rw [z3l (.inr hk')] at hl;exact z4c (z8u hl List.mem_cons_self) (zem fun u hu=>z8u hl (List.mem_cons_of_mem _ (List.mem_append_left _ hu)))
 · have:=z32 x a;simp only [Tm.sz,List.cons_append,Tm.szs,Tm.szs_append];omega
 · exact z2z (z3e hb.2 List.mem_cons_self) (z8p fun u hu=>z3e hb.2 (List.mem_cons_of_mem _ (List.mem_append_left _ hu)))
theorem z9l:∀ {l:List Tm} {i:Int},occL l i=0→∀ u∈l,occF u i=0
 | x::l,i,h,u,hu=>by
  simp only [occL] at h;rcases List.mem_cons.1 hu with rfl | hu
  · omega
  · exact z9l (l:=l) (by omega) u hu
theorem occ_kids {k n:Int}{s:List UInt8}{l:List Tm}{d:Int}(h:occF (.mk k s n l) d=0):∀ u∈l,occF u (d+if (k==5)=true then 1 else 0)=0:=by
 rw [occF] at h;split at h
 · cases h
 · exact z9l h
theorem zti {t:Tm}(h:lvB t=true)(d:Int)(h0:occF t d=0)(hd:0≤d):lvB (shT 0 (-1) t d)=true:=by
 refine zcs _ (fun u d=>occF u d=0∧0≤d) (fun k s n l d hQ u hu=>⟨occ_kids hQ.1 u hu,by have:=hQ.2;split<;>omega⟩) (fun u d hu hQ h5 h6=> ?_) t d h ⟨h0,hd⟩;unfold z0s;split
 · rename_i hc;obtain ⟨k,s,n,l⟩:=u;have hk:k=3:=by have hc:=hc.1;have hc:(k==3)=true:=hc;simpa using hc
   subst hk;rw [z95 (by decide) (by decide),zg1] at hu
   have h1:n≠d:=fun e=>by
    have:=hQ.1;rw [occF,if_pos ⟨rfl,by simp [e]⟩] at this;cases this
   have h2:d+0≤n:=hc.2;have:=hQ.2;show lvB (.mk 3 s (n+ -1) l)=true;rw [z95 (by decide) (by decide),zg1];exact ⟨by omega,by omega,hu.2.2.1,hu.2.2.2⟩
 · exact hu
theorem zy1 {M:Int}(hM:1≤M){t:Tm}(h:bd M t)(d:Int)(hd:0≤d):bd M (shT 0 (-1) t d):=by
 refine zcb _ M M (d+t.sz) (fun u d' hu h0 _=> ?_) t d h hd (Int.le_refl _);unfold z0s;split
 · rename_i hc;obtain ⟨k,s,n,l⟩:=u;exact ⟨fun e=>by have:=hu.1 e;have h2:d'+0≤n:=hc.2;simp only [Tm.n];omega,hu.2⟩
 · exact hu
theorem dropF_ok {b:Tm}(h:okB b=true)(hd:z28 b=true):okB (z73 b)=true∧(lvB b=true→lvB (z73 b)=true)∧(z73 b).sz≤b.sz∧∀ M,1≤M→bd M b→bd M (z73 b):=by
 obtain ⟨h1,h2,h3,h4⟩:=zi h (zt2 hd);rw [z73,if_pos hd];exact ⟨zy7 0 h1,fun hl=>zti (h2 hl) 0 (drop0 hd) (Int.le_refl _),Nat.le_trans (zgb ..) h3,fun M hM hb=>zy1 hM (h4 M hb) 0 (Int.le_refl _)⟩
mutual
theorem z3t:∀ t:Tm,okB t=true→okB (z06 t)=true∧(lvB t=true→lvB (z06 t)=true)∧(z06 t).sz≤t.sz∧∀ M,1≤M→bd M t→bd M (z06 t)
 | .mk k s n l,h=>by
  have hl:=zlw l (zc5 h);rw [z06];split
  · rename_i h5;have h5:k=5:=by simpa using h5
    obtain ⟨x,rfl,hx⟩:=okB5 h h5;obtain ⟨g1,g2,g3,g4⟩:=hl;simp only [z0h,okL,lvL,Bool.and_true,Tm.szs] at g1 g2 g3 g4;show okB (if z28 (z06 x)=true then z73 (z06 x) else .mk 5 [] 0 [z06 x])=true∧_
    rw [show hd (z0h [x])=z06 x from rfl];split
    · rename_i hd;obtain ⟨f1,f2,f3,f4⟩:=dropF_ok g1 hd;refine ⟨f1,fun hl=>f2 (g2 ?_),by simp only [Tm.sz,Tm.szs];omega,fun M hM hb=>f4 M hM (g4 M hM hb.2).1⟩;rw [z3l (.inl h5)] at hl;simpa [lvL] using hl
    · refine ⟨by simp [okB,okL,g1],fun hl=> ?_,by simp only [Tm.sz,Tm.szs];omega,fun M hM hb=>⟨fun e=>by omega,g4 M hM hb.2⟩⟩;rw [z3l (.inl h5)] at hl;rw [z3l (.inl rfl)];simp only [lvL,Bool.and_true] at hl ⊢;exact g2 hl
  · split
    · rename_i h6;have h6:k=6:=by simpa using h6
      obtain ⟨x,y,r,rfl,_,_⟩:=okB6 h h6;obtain ⟨g1,g2,g3,g4⟩:=hl;rw [show hd (z0h (x::y::r))=z06 x from rfl,show (z0h (x::y::r)).tail=z0h (y::r) from rfl];rw [show z0h (x::y::r)=z06 x::z0h (y::r) from rfl] at g1 g2 g3 g4;simp only [okL,Bool.and_eq_true] at g1;refine ⟨z4a g1.1 g1.2,fun hl=> ?_, ?_,fun M hM hb=> ?_⟩
      · rw [z3l (.inr h6)] at hl;have:=g2 hl;simp only [lvL,Bool.and_eq_true] at this;exact z4c this.1 this.2
      · have:=z32 (z06 x) (z0h (y::r));simp only [Tm.szs] at g3;simp only [Tm.sz,Tm.szs];omega
      · have:=g4 M hM hb.2;exact z2z this.1 this.2
    · exact ⟨h,fun hl=>hl,Nat.le_refl _,fun M _ hb=>hb⟩
theorem zlw:∀ l:List Tm,okL l=true→okL (z0h l)=true∧(lvL l=true→lvL (z0h l)=true)∧Tm.szs (z0h l)≤Tm.szs l∧∀ M,1≤M→bds M l→bds M (z0h l)
 | [],_=>⟨rfl,fun _=>rfl,Nat.le_refl _,fun _ _ _=>trivial⟩
 | t::l,h=>by
  simp only [okL,Bool.and_eq_true] at h;obtain ⟨a1,a2,a3,a4⟩:=z3t t h.1;obtain ⟨b1,b2,b3,b4⟩:=zlw l h.2;refine ⟨by simp only [z0h,okL,a1,b1,Bool.and_self],fun hl=> ?_,by simp only [z0h,Tm.szs];omega,fun M hM hb=>⟨a4 M hM hb.1,b4 M hM hb.2⟩⟩;simp only [lvL,Bool.and_eq_true] at hl;simp only [z0h,lvL,a2 hl.1,b2 hl.2,Bool.and_self]
end
theorem c_efree (t:Tm)(i:Int)(hs:t.sz≤B)(h0:0-2305843009213693952≤i)(h1:i+t.sz≤2305843009213693952):AC Tryz.prog 82 [aT t,ci i] [] (cb (validB t&&decide (occF t i>0))) []:=by
 have h:=zwp t hs i h0 h1;obtain ⟨k,s,n,l⟩:=t;refine AC.vc hP sh lv82 (Nat.le_refl _) (by simp) (by simp) (Eq.mpr (v82 k s n (FTs l) i _ _) ?_);refine ⟨_,h,z07 ?_⟩;cases validB (.mk k s n l) with
 | false=>rfl
 | true=>simp
theorem lastI (x:Tm)(a:List Tm)(z:Tm)(hl:a.length≤SZ):IntKind.wrap .i64 ((((FTs (x::a++ [z])).length:Nat):Int)-1)=((x::a).length:Int):=by
 rw [z01];simp only [SZ] at hl;rw [w64 (by simp;omega) (by simp;omega)];simp
theorem c_edrop (b:Tm)(ho:okB b=true)(hl:lvB b=true)(hs:b.sz≤SZ)(hb:bd M61 b):AC Tryz.prog 61 [aT b] [] (.tup [(true,cT (z73 b)),(false,[.a (.fz (.bool (z28 b)))])]) []:=by
 have no:z28 b=false→z73 b=noT:=fun h=>if_neg (by rw [h];simp);obtain ⟨k,s,n,l⟩:=b;have hlen:=Tm.szs_length l;simp only [Tm.sz,SZ] at hs;refine AC.vc hP sh lv61 (Nat.le_refl _) (by simp) (by simp) (Eq.mpr (v61 k s n (FTs l) _ _) ?_);refine ⟨rfl,z00 (fun h=> ?_) (fun h=> ?_)⟩
 · have hd:z28 (.mk k s n l)=false:=by
    have h:(k !=6)=true:=h;rw [z28,show (Tm.k (.mk k s n l)==6)=false by show (k==6)=false;simpa using h];rfl
   rw [no hd,hd];exact ⟨leTB (l:=[]) z0m,rfl⟩
 · have h6:k=6:=by simpa using h
   subst h6;obtain ⟨x,a,z,rfl,hx6,hx,ha,hz⟩:=z5z ho rfl;obtain ⟨r1,r2,r3,r4⟩:=zi ho rfl
   have hd:z28 (.mk 6 s n (x::a++ [z]))=(z.k==3&&z.n==0&&occF (z09 x a) 0==0):=by
    rw [z28,z5l,show Tm.l (.mk 6 s n (x::a++ [z]))=x::a++ [z] from rfl,zp2];rfl
   have hdF:z28 (.mk 6 s n (x::a++ [z]))=true→z73 (.mk 6 s n (x::a++ [z]))=shT 0 (-1) (z09 x a) 0:=fun h=>by rw [z73,if_pos h,z5l]
   rw [z5l] at r1 r2 r3 r4;have hal:a.length≤130000000:=by rw [List.length_append,List.length_cons] at hlen;omega
   rw [lastI x a z hal];have el:FV.L 4 (.sl false 4 (FTs (x::a++ [z])))=true∧((0:Int)≤((x::a).length:Int)∧(((x::a).length:Int)<(((FTs (x::a++ [z])).length:Nat):Int)∧(rE (List.getD (FTs (x::a++ [z])) (Int.toNat ((x::a).length:Int)) []):List FV)=List.getD (FTs (x::a++ [z])) (Int.toNat ((x::a).length:Int)) [])):=⟨rfl,by omega,ltI' (x::a) z [],z60 (x::a) z []⟩;have ez:List.getD (FTs (x::a++ [z])) (Int.toNat ((x::a).length:Int)) []=FT z:=midI (x::a) z [];have ek:FV.I (List.getD (List.getD (FTs (x::a++ [z])) (Int.toNat ((x::a).length:Int)) []) 0 FV.N)=z.k:=by rw [ez];cases z;rfl
   have en:FV.I (List.getD (List.getD (FTs (x::a++ [z])) (Int.toNat ((x::a).length:Int)) []) 2 FV.N)=z.n:=by rw [ez];cases z;rfl
   rw [ek,en];refine ⟨el,z00 (fun h1=> ?_) (fun h1=>⟨el,z00 (fun h2=> ?_) (fun h2=>⟨el0 x (a++ [z]),rfl,⟨by omega,by simp only [List.length_cons];omega,by rw [lenI,List.length_append];omega⟩, ?_⟩)⟩)⟩
   · have hd':z28 (.mk 6 s n (x::a++ [z]))=false:=by
      have h1:(z.k !=3)=true:=h1;rw [hd,show (z.k==3)=false by simpa using h1];rfl
     rw [no hd',hd'];exact ⟨leTB (l:=[]) z0m,rfl⟩
   · have hd':z28 (.mk 6 s n (x::a++ [z]))=false:=by
      have h2:(z.n !=0)=true:=h2;rw [hd,show (z.n==0)=false by simpa using h2];simp
     rw [no hd',hd'];exact ⟨leTB (l:=[]) z0m,rfl⟩
   · have e1:aE (List.getD (FTs (x::a++ [z])) 0 [])=aT x:=zfs x
     have e2:List.drop 1 (List.take (Int.toNat ((x::a).length:Int)) (FTs (x::a++ [z])))=FTs a:=by
      rw [z9o,FTs_take,zp6,List.take_left];rfl
     rw [e1,e2];have hxs:x.l.length≤x.sz:=by have:=x.sz_eq;have:=Tm.szs_length x.l;omega
     have hxz:x.sz≤130000000:=by simp only [List.cons_append,Tm.szs] at hs;omega
     have hap:=z46 x a (by omega);have hrz:(z09 x a).sz≤SZ:=by simp only [Tm.sz] at r3;simp only [SZ];omega
     have hfr:=c_efree (z09 x a) 0 (by simp only [SZ,B] at*;omega) (by omega) (by simp only [SZ] at hrz;omega);have hva:validB (z09 x a)=true:=by rw [z24,r1,r2 hl];rfl
     rw [hva,Bool.true_and] at hfr;have hsh:=zmt (z09 x a) 0 (-1) (by simp only [SZ,B] at*;omega) (r4 _ hb) (Int.le_refl _) (by simp only [M61];omega) (by omega) (by simp only [M61];omega)
     have hz3:(z.k==3)=true:=by
      have h1:(z.k !=3)=false:=h1;simpa using h1
     have hz0:(z.n==0)=true:=by
      have h2:(z.n !=0)=false:=h2;simpa using h2
     refine ⟨_,hap,_,hfr,z00 (fun h3=> ?_) (fun h3=> ?_)⟩
     · have hd':z28 (.mk 6 s n (x::a++ [z]))=false:=by
        have h3:=of_decide_eq_true h3;rw [hd,show (occF (z09 x a) 0==0)=false by simp;omega,Bool.and_false]
       rw [no hd',hd'];exact ⟨leTB (l:=[]) z0m,rfl⟩
     · have hd':z28 (.mk 6 s n (x::a++ [z]))=true:=by
        have h3:=of_decide_eq_false h3;rw [hd,hz3,hz0,show (occF (z09 x a) 0==0)=true by simp;omega];rfl
       rw [hdF hd',hd'];exact ⟨_,hsh, .refl _,rfl⟩
theorem zlk:∀ (b a acc:List Tm),acc ≠ []→acc.length=a.length→(∀ u∈b,AC Tryz.prog 44 [aT u] [] (aT (z06 u)) [])→(a++b).length≤SZ→(hd (acc++z0h b)).l.length≤B→
  RPt Tryz.prog 44 0 (aT (z09 (hd (acc++z0h b)) (acc++z0h b).tail)) [] 3 ⟨[(2, .c (.a (.ep 0 4 0 0))),(6, .c (.a (.osl 1 4 0 acc.length))),(30,aL (a++b)),(31,ci (((FTs (a++b)).length:Nat):Int)),(32,ci a.length)],[(0, .arr 4 [zT]),(1, .arz 4 (FTs acc))],2⟩
 | [],a,acc,hne,hlen,_,hl,hh=>by
  simp only [z0h,List.append_nil] at hh hl ⊢;refine RPt.vc hP sh lv44 (Eq.mpr (v44_3b ..) ?_)
  match acc,hne,hlen,hh with
  | x::r,_,hlen,hh=>
   simp only [SZ,B,List.length_cons] at hl hlen hh;have hh:x.l.length≤549755813888:=hh;have hap:=z46 x r (by omega)
   have e2:List.take (Int.toNat ((x::r).length:Int)-1) (List.drop 1 (FTs (x::r)))=FTs r:=by
    rw [z9o,zp6,List.take_of_length_le (by rw [z01];simp)];rfl
   have e1:aE (List.getD (FTs (x::r)) 0 [])=aT x:=zfs x;rw [e2,e1];refine z00 (fun h=>absurd (of_decide_eq_true h) (by rw [z01];omega)) (fun _=>⟨⟨by omega,by simp⟩,⟨by rw [z01];simp, ?_,rfl⟩,⟨by omega,by simp;omega,Int.le_refl _⟩,⟨rfl,by rw [z9o,z01];simp;omega⟩,_,hap.args ⟨.refl _,le_c leSl,trivial⟩,zll (.refl _)⟩);rw [show List.getD (FTs (x::r)) 0 []=FT x from rfl,zf3,List.drop_zero,List.take_of_length_le (by rw [z2j];exact Nat.le_refl _)]
 | t::b,a,acc,hne,hlen,ih,hl,hh=>by
  have hl':=hl;simp only [List.length_append,List.length_cons,SZ] at hl';have h1:=ih t List.mem_cons_self;have h2:=zlk b (a++ [t]) (acc++ [z06 t]) (by simp) (by simp [hlen]) (fun u hu=>ih u (List.mem_cons_of_mem _ hu)) (by rw [ap];exact hl) (by rw [ap];exact hh);have h3:=ltI' a t b;rw [ap,ap,nx] at h2;rw [z0h];refine RPt.vc hP sh lv44 (Eq.mpr (v44_3b ..) ?_);rw [z5h,w64 (x:=(a.length:Int)+1) (by omega) (by omega)];refine z00 (fun _=>⟨⟨rfl,by omega,h3,z60 ..⟩,z06 t,h1,Nat.le_refl _,⟨by rw [z01];omega,z6g (by omega)⟩, ?_⟩) (fun h=>absurd h3 (of_decide_eq_false h));have e5:List.take acc.length (FTs acc)++ [FT4 (z06 t)]=FTs (acc++ [z06 t]):=by rw [List.take_of_length_le (by rw [z01];omega),z71,z2d];rfl
  rw [e5];rw [List.length_append] at h2;exact h2
theorem zpo:∀ t:Tm,okB t=true→lvB t=true→t.sz≤SZ→bd M61 t→AC Tryz.prog 44 [aT t] [] (aT (z06 t)) []:=by
 refine Tm.ind fun t ih ho hl hs hb=> ?_;have hlen:=Tm.szs_length t.l;have hol:=zc5 ho;obtain ⟨k,s,n,l⟩:=t;simp only [Tm.sz,Tm.l,SZ] at hs hlen hol;refine AC.vc hP sh lv44 (Nat.le_refl _) (by simp) (by simp) (Eq.mpr (v44 k s n (FTs l) _ _) ?_);refine z00 (fun h=> ?_) (fun h=>z00 (fun h'=>⟨rfl, ?_⟩) (fun h'=> ?_))
 · have h5:k=5:=by simpa using h
   subst h5;obtain ⟨x,rfl,hx⟩:=okB5 ho rfl;rw [z3l (.inl rfl)] at hl;have hlx:lvB x=true:=by simpa [lvL] using hl
   simp only [Tm.szs] at hs;obtain ⟨g1,g2,g3,g4⟩:=z3t x hx;have h1:=ih x (List.mem_singleton.2 rfl) hx hlx (by simp only [SZ];omega) hb.2.1;have h2:=c_edrop (z06 x) g1 (g2 hlx) (by simp only [SZ];omega) (g4 _ (by simp only [M61];omega) hb.2.1);have h3:=zgh 1 (z06 x) (by omega);have e:z06 (.mk 5 s n [x])=if z28 (z06 x)=true then z73 (z06 x) else .mk 5 [] 0 [z06 x]:=by rw [z06,if_pos (show ((5:Int)==5)=true from rfl)];rfl
   rw [show aE (List.getD (FTs [x]) 0 [])=aT x from zfs x,e];refine ⟨el0 x [],_,h1,(z73 (z06 x),z28 (z06 x)),h2,z00 (fun hd=> ?_) (fun hd=>⟨_,h3, ?_⟩)⟩
   · have hd:z28 (z06 x)=true:=hd;rw [if_pos hd];exact ⟨.refl _,rfl⟩
   · rw [if_neg (by rw [show z28 (z06 x)=false from hd];simp)];exact ⟨.refl _,rfl⟩
 · have h6:k=6:=by simpa using h'
   subst h6;obtain ⟨x,y,r,rfl,hx6,_⟩:=okB6 ho rfl;rw [z3l (.inr rfl)] at hl;have ihl:∀ u∈x::y::r,AC Tryz.prog 44 [aT u] [] (aT (z06 u)) []:=fun u hu=>ih u hu (z5a hol hu) (z8u hl hu) (by have:=Tm.szs_mem hu;simp only [SZ];omega) (z3e hb.2 hu);have hx:=(z3t x (z5a hol List.mem_cons_self)).2.2.1
   have hxl:(z06 x).l.length≤B:=by
    have h1:=(z06 x).sz_eq;have h2:=Tm.szs_length (z06 x).l;simp only [Tm.szs] at hs;simp only [B];omega
   have loop:=zlk (y::r) [x] [z06 x] (by simp) rfl (fun u hu=>ihl u (List.mem_cons_of_mem _ hu)) (show (x::y::r).length≤SZ by simp only [SZ];omega) hxl;have h1:=ihl x List.mem_cons_self;have h3:=ltI' [] x (y::r);refine RPt.vc hP sh lv44 (Eq.mpr (v44_3a ..) ?_);rw [show aE (List.getD (FTs (x::y::r)) (Int.toNat 0) [])=aT x from zfs x,w64 (by omega) (by omega)];refine z00 (fun _=>⟨⟨rfl,by omega,h3,zf3 x⟩,z06 x,h1,Nat.le_refl _,z6g (by omega), ?_⟩) (fun h=>absurd h3 (of_decide_eq_false h));rw [z71];exact loop
 · have h:(k==5)=false:=h;have h':(k==6)=false:=h';rw [z06,if_neg (by rw [h];simp),if_neg (by rw [h'];simp)];exact ⟨.refl _,rfl⟩
theorem c_eShort (t:Tm)(hs:t.sz≤SZ)(hb:bd M61 t):AC Tryz.prog 29 [aT t] [] (aT (if validB t=true then z06 t else t)) []:=by
 have h1:=z3f t (by simp only [SZ,B] at*;omega);have h2:=fun h=>zpo t (z04 t h) (z2i h) hs hb;obtain ⟨k,s,n,l⟩:=t;refine AC.vc hP sh lv29 (Nat.le_refl _) (by simp) (by simp) (Eq.mpr (v29 k s n (FTs l) _ _) ?_);refine ⟨_,h1,z00 (fun h=> ?_) (fun h=> ?_)⟩
 · rw [if_neg (by rw [not_t h];simp)];exact ⟨.refl _,rfl⟩
 · rw [if_pos (zry h)];exact ⟨_,h2 (zry h), .refl _,rfl⟩
end Go.AM

namespace Go.AM
open Go.ChangeShapes Go.WideShapes Go.ChangeAt Go.RowKit
section
variable {H:Type} {enc:TypeId×Value→H} {P:Program} {w:World}
abbrev z8v:Nat→Prop:=fun _=>False
def RdN (enc:TypeId×Value→H)(P:Program)(w:World)(b:DataW H→Nat)(fuel:Nat)(t:TypeId){α:Type}(F:α→List FV)(sz:α→Nat):Prop:=
 ∀ cs x,DataW.trod enc P w 0 (fun _=>true) true fuel t cs=some x→∃ a,LRep (FRep w z8v) (F a) cs∧sz a≤b x.1
theorem zyb {b:DataW H→Nat}{t:TypeId}{k:IntKind}(ht:P.underlying t=some (.int k))(hb:∀ d,1≤b d)(fuel:Nat):RdN enc P w b fuel t (fun n:Int=> [.int k n]) (fun _=>1):=by
 intro cs x h;obtain ⟨n,rfl,rfl,_⟩:=DataW.trod_int ht h;exact ⟨n, .cons (.int k n) .nil,hb _⟩
def Num (k:IntKind):={ n:Int // (Lit.int k n).wf=true }
theorem rd_num {b:DataW H→Nat}{t:TypeId}{k:IntKind}(ht:P.underlying t=some (.int k))(hb:∀ d,1≤b d)(fuel:Nat):RdN enc P w b fuel t (fun n:Num k=> [.int k n.1]) (fun _=>1):=by
 intro cs x h;obtain ⟨n,rfl,rfl,hw⟩:=DataW.trod_int ht h;exact ⟨⟨n,hw⟩, .cons (.int k n) .nil,hb _⟩
theorem rd_bool {b:DataW H→Nat}{t:TypeId}(ht:P.underlying t=some .bool)(hb:∀ d,1≤b d)(fuel:Nat):RdN enc P w b fuel t (fun n:Bool=> [.bool n]) (fun _=>1):=by
 intro cs x h;obtain ⟨n,rfl,rfl⟩:=DataW.trod_bool ht h;exact ⟨n, .cons (.bool n) .nil,hb _⟩
theorem rd_str {b:DataW H→Nat}{t:TypeId}(ht:P.underlying t=some .string)(hb:∀ l:List UInt8,l.length+1≤b (.lit (.string l)))(fuel:Nat):RdN enc P w b fuel t (fun l:List UInt8=> [.str l]) (fun l=>l.length+1):=by
 intro cs x h;obtain ⟨s,rfl,rfl,_⟩:=DataW.trod_string ht h;refine ⟨s.data.toList, .cons ?_ .nil,hb _⟩;have:(⟨s.data.toList.toArray⟩:ByteArray)=s:=by simp
 have h2:=FRep.str (w:=w) (X:=z8v) s.data.toList;rw [this] at h2;exact h2
def z7q {α:Type}(sz:α→Nat):List α→Nat
 | []=>0
 | a::l=>sz a+z7q sz l
theorem zl8 {α:Type}{sz:α→Nat}:∀ {l:List α} {a:α},a∈l→sz a≤z7q sz l
 | x::l,a,h=>by
  rcases List.mem_cons.1 h with rfl | h
  · simp [z7q]
  · have:=zl8 (sz:=sz) h;simp only [z7q];omega
theorem sum_le {α:Type}{sz:α→Nat}{b:DataW H→Nat}{bs:List (DataW H)→Nat}(hbs:∀ d l,bs (d::l)=b d+bs l):∀ {xs:List α} {es:List (DataW H×List MemPlace)},xs.length=es.length→(∀ (i:Nat) (x:α) (y:DataW H×List MemPlace),xs[i]? =some x→es[i]? =some y→sz x≤b y.1)→z7q sz xs≤bs (es.map (·.1))
 | [],_,_,_=>by simp [z7q]
 | x::xs,[],h,_=>by simp at h
 | x::xs,e::es,h,hr=>by
  have h1:=hr 0 x e rfl rfl;have h2:=sum_le (sz:=sz) hbs (xs:=xs) (es:=es) (by simpa using h) fun i x y hx hy=>hr (i+1) x y (by simpa using hx) (by simpa using hy);simp only [z7q,List.map_cons,hbs];omega
theorem zlf {a:Addr}{n:Nat}{cs:List Value}(h:w.cells? 0 a n=some cs):cs.length=n∧∀ j u,cs[j]? =some u→w.cell? (a.add j)=some u:=by
 unfold World.cells? at h;rw [if_pos (Nat.zero_le _)] at h;refine ⟨by have:=mapM_some_length h;simpa using this,fun j u hu=> ?_⟩
 have hj:j<n:=by
  have h1:=(List.getElem?_eq_some_iff.1 hu).1;have:=mapM_some_length h;simp at this;omega
 have:=mapM_some_get h j j (by simp [hj]);rw [this,hu]
theorem ztq {a:Addr}{u:Value}(h:w.cell? a=some u):a.spot=none:=by
 unfold World.cell? at h;split at h
 · split at h
   · cases h
   · rename_i hs;simpa using hs
 · cases h
theorem cell_blk {a:Addr}{u:Value}(h:w.cell? a=some u):a.block<w.heap.size:=by
 apply Decidable.byContradiction;intro hn;have:w.heap[a.block]? =none:=by simp;omega
 simp [World.cell?,this] at h
theorem add_zero (a:Addr):a.add 0=a:=rfl
theorem zqq (b o k:Nat):(Addr.mk b o none).add k=⟨b,o+k,none⟩:=by
 unfold Addr.add;split
 · rename_i h;rw [h];rfl
 · rfl
theorem zi1 {b:DataW H→Nat} {bs:List (DataW H)→Nat} (hbs:∀ d l,bs (d::l)=b d+bs l) (hb0:∀ d,1≤b d) (hb:∀ es sp,bs es+1≤b (.slice es sp)) {t e:TypeId} (ht:P.underlying t=some (.slice e)) {n:Nat} (hn:P.cellsOf e=n) (hn0:0<n)
  {α:Type} {F:α→List FV} {sz:α→Nat} (hF:∀ a,(F a).length=n) {fuel:Nat} (ih:∀ k,k<fuel→RdN enc P w b k e F sz):RdN enc P w b fuel t (fun l:List α=> [.sl false n (l.map F)]) (fun l=>z7q sz l+1):=by
 intro cs x h;rcases DataW.trod_slice ht h with ⟨rfl,rfl⟩ | ⟨a,len,cap,elems,rest,k,rfl,rfl,rfl,_,hlc,_,hlen,hel,hrest,_⟩
 · exact ⟨[], .cons (.slnil n) .nil,by simpa [z7q] using hb0 _⟩
 · rw [hn] at hel
   have key:∀ (i:Nat) (y:DataW H×List MemPlace),elems[i]? =some y→∃ x:α,(∃ cs,w.cells? 0 (a.add (i*n)) n=some cs∧LRep (FRep w z8v) (F x) cs)∧sz x≤b y.1:=by
    intro i y hy;have hi:i<len:=by rw [←hlen];exact (List.getElem?_eq_some_iff.1 hy).1
    have h1:=hel i hi;rw [hy] at h1;obtain ⟨cs,h2,h3⟩:=Option.bind_eq_some_iff.1 h1;obtain ⟨x,h4,h5⟩:=ih k (Nat.lt_succ_self _) cs y h3;exact ⟨x,⟨cs,h2,h4⟩,h5⟩
   have key2:∃ xs:List α,xs.length=elems.length∧∀ (i:Nat) (x:α),xs[i]? =some x→(∃ cs,w.cells? 0 (a.add (i*n)) n=some cs∧LRep (FRep w z8v) (F x) cs)∧∀ y,elems[i]? =some y→sz x≤b y.1:=by
    have:∀ (l:List (DataW H×List MemPlace)) (o:Nat),(∀ i,l[i]? =elems[o+i]?)→∃ xs:List α,xs.length=l.length∧∀ (i:Nat) (x:α),xs[i]? =some x→(∃ cs,w.cells? 0 (a.add ((o+i)*n)) n=some cs∧LRep (FRep w z8v) (F x) cs)∧∀ y,l[i]? =some y→sz x≤b y.1:=by
     intro l
     induction l with
     | nil=>exact fun o _=>⟨[],rfl,fun i x h=>by simp at h⟩
     | cons y l ih=>
      intro o ho;obtain ⟨x,hx1,hx2⟩:=key o y (by have:=ho 0;simpa using this.symm);obtain ⟨xs,h1,h2⟩:=ih (o+1) (fun i=>by have:=ho (i+1);rw [show o+1+i=o+(i+1) by omega];simpa using this);refine ⟨x::xs,by simp [h1],fun i x' hx'=> ?_⟩;cases i with
      | zero=>simp at hx';subst hx';exact ⟨by simpa using hx1,fun y' hy'=>by simp at hy';subst hy';exact hx2⟩
      | succ i=>
       have:=h2 i x' (by simpa using hx');rw [show o+1+i=o+(i+1) by omega] at this;exact ⟨this.1,fun y' hy'=>this.2 y' (by simpa using hy')⟩
    obtain ⟨xs,h1,h2⟩:=this elems 0 (fun i=>by simp);exact ⟨xs,h1,fun i x hx=>by simpa using h2 i x hx⟩
   obtain ⟨xs,hxl,hx⟩:=key2;have hsum:=sum_le (sz:=sz) (b:=b) hbs hxl (fun i x y h1 h2=>(hx i x h1).2 y h2);have hb':=hb (elems.map (·.1)) (rest.map (·.1));refine ⟨xs, ?_,show z7q sz xs+1≤b (.slice (elems.map (·.1)) (rest.map (·.1))) by omega⟩;by_cases hc0:cap=0
   · have h0:len=0:=by omega
     subst hc0;subst h0;have:xs=[]:=List.length_eq_zero_iff.1 (by omega);subst this;exact .cons (.sl0 false n a) .nil
   · have hone:∃ cs,w.cells? 0 a n=some cs:=by
      by_cases h0:len=0
      · have hr:=(hrest rfl).2 0 (by omega)
        have hr':rest[0]? ≠ none:=by
         rw [List.getElem?_eq_getElem (by rw [(hrest rfl).1];omega)];simp
        rw [hn] at hr;rw [h0,show (0+0)*n=0 by simp,add_zero] at hr;cases hcl:w.cells? 0 a n with
        | none=>rw [hcl] at hr;exact absurd hr.symm hr'
        | some cs=>exact ⟨cs,rfl⟩
      · have:0<xs.length:=by omega
        obtain ⟨⟨cs,h1,_⟩,_⟩:=hx 0 xs[0] (by simp [this]);rw [show 0*n=0 by simp,add_zero] at h1;exact ⟨cs,h1⟩
     obtain ⟨cs0,hq⟩:=hone;obtain ⟨hl0,hq'⟩:=zlf hq;have hq0:=hq' 0 (cs0[0]'(by omega)) (by simp);rw [add_zero] at hq0;have hsp:a.spot=none:=ztq hq0;have hbl:a.block<w.heap.size:=cell_blk hq0;obtain ⟨blk,off,sp⟩:=a;have hsp:sp=none:=hsp;subst hsp;refine .cons (.sl false n (xs.map F) blk off cap len (fun i j=>(w.cell? ⟨blk,off+i*n+j,none⟩).getD (.bool false)) (by rw [List.length_map];omega) (by rw [List.length_map];omega) (fun h=>h) hbl (fun i e he=> ?_) (fun i j e f he hf=> ?_) (fun i j e f he hf=> ?_)) .nil
     · rw [List.getElem?_map] at he;obtain ⟨x,_,rfl⟩:=Option.map_eq_some_iff.1 he;exact hF x
     all_goals
      rw [List.getElem?_map] at he;obtain ⟨x,hxi,rfl⟩:=Option.map_eq_some_iff.1 he;obtain ⟨⟨cs,h1,h2⟩,_⟩:=hx i x hxi;obtain ⟨h3,h4⟩:=zlf h1;have hj:j<cs.length:=by rw [←h2.1];exact (List.getElem?_eq_some_iff.1 hf).1
      have h5:=h4 j cs[j] (by simp);rw [zqq,zqq] at h5
     · rw [h5];rfl
     · rw [h5];exact h2.2 j f cs[j] hf (by simp)
theorem FT_sum:∀ l:List Tm,Tm.bks l=z7q Tm.bk l
 | []=>rfl
 | t::l=>by rw [Tm.bks,z7q,FT_sum l]
structure TmTy (P:Program)(T:TypeId)(f0 f1 f2 f3:Field):Prop where
 str:P.underlying T=some (.struct #[f0,f1,f2,f3])
 u0:P.underlying f0.type=some (.int .i64)
 u1:P.underlying f1.type=some .string
 u2:P.underlying f2.type=some (.int .i64)
 u3:P.underlying f3.type=some (.slice T)
 o0:f0.offset=0
 o1:f1.offset=1
 o2:f2.offset=2
 o3:f3.offset=3
 c0:P.cellsOf f0.type=1
 c1:P.cellsOf f1.type=1
 c2:P.cellsOf f2.type=1
 c3:P.cellsOf f3.type=1
 cT:P.cellsOf T=4
structure Bulk (b:DataW H→Nat)(bs:List (DataW H)→Nat):Prop where
 nil:bs []=0
 cons:∀ d l,bs (d::l)=b d+bs l
 one:∀ d,1≤b d
 slice:∀ es sp,bs es+1≤b (.slice es sp)
 str:∀ l:List UInt8,l.length+1≤b (.lit (.string l))
 agg:∀ l,bs l+1≤b (.agg l)
theorem LRep.one {α:Type}{R:α→Value→Prop}{c:α}{u:Value}(h:LRep R [c] [u]):R c u:=h.2 0 c u rfl rfl
theorem rd_term {b:DataW H→Nat}{bs:List (DataW H)→Nat}(hb:Bulk b bs){T:TypeId}{f0 f1 f2 f3:Field}(hT:TmTy P T f0 f1 f2 f3):∀ fuel,RdN enc P w b fuel T FT Tm.bk:=by
 intro fuel
 induction fuel using Nat.strongRecOn with
 | _ fuel ih=>
  intro cs x h;obtain ⟨xs,n,rfl,rfl,hl,hxl,hf⟩:=DataW.trod_struct hT.str h;rw [hT.cT] at hl
  match cs,hl with
  | [v0,v1,v2,v3],_=>
  match xs,hxl with
  | [x0,x1,x2,x3],_=>
  have g0:=hf 0 f0 rfl;have g1:=hf 1 f1 rfl;have g2:=hf 2 f2 rfl;have g3:=hf 3 f3 rfl;rw [hT.o0,hT.c0] at g0;rw [hT.o1,hT.c1] at g1;rw [hT.o2,hT.c2] at g2;rw [hT.o3,hT.c3] at g3;obtain ⟨k,r0,_⟩:=zyb (b:=b) hT.u0 hb.one n _ _ g0;obtain ⟨s,r1,z1⟩:=rd_str (b:=b) hT.u1 hb.str n _ _ g1;have z1:s.length+1≤b x1.1:=z1;obtain ⟨m,r2,_⟩:=zyb (b:=b) hT.u2 hb.one n _ _ g2;obtain ⟨l,r3,z3⟩:=zi1 (F:=FT) (sz:=Tm.bk) hb.cons hb.one hb.slice hT.u3 hT.cT (by omega) z2j (fun k hk=>ih k (by omega)) _ _ g3;have z3:z7q Tm.bk l+1≤b x3.1:=z3;refine ⟨.mk k s m l, ?_, ?_⟩
  · rw [FT,z2f];exact .cons (LRep.one r0) (.cons (LRep.one r1) (.cons (LRep.one r2) (.cons (LRep.one r3) .nil)))
  · have:=hb.one x0.1;simp only [Tm.bk,FT_sum];show _≤b (.agg [x0.1,x1.1,x2.1,x3.1]);have h9:=hb.agg [x0.1,x1.1,x2.1,x3.1];simp only [hb.cons,hb.nil] at h9;omega
theorem none_own {Y:Nat→Prop}(hY:∀ b,¬Y b){Hs:List AObj}:(fun b=>Y b∨Own (fun o=>Hs.getD o .gone) (fun _=>none) b)=z8v:=by
 funext b
 refine propext ⟨fun h=> ?_,fun h=>h.elim⟩;rcases h with h | ⟨o,_,h⟩
 · exact (hY b h).elim
 · cases h
abbrev β0:Nat→Option Nat:=fun _=>none
theorem zkx {b:DataW H→Nat} {bs:List (DataW H)→Nat} (hb:Bulk b bs) {T:TypeId} {f0 f1 f2 f3:Field} (hT:TmTy P T f0 f1 f2 f3) {r:Reach} {base:Nat} {v:Value} {d:DataW H} {ps:List MemPlace}
  (hv:Value.okWide P w r base T v) (hd:DataW.Trod enc P w 0 (fun _=>true) true T v d ps):∃ t:Tm,TRep w z8v β0 (aT t) v∧t.bk≤b d:=by
 obtain ⟨cs,rfl,_⟩:=okWide_struct hT.str hv;obtain ⟨fuel,hf⟩:=hd;obtain ⟨t,h1,h2⟩:=rd_term hb hT fuel _ _ hf;refine ⟨t,⟨cs.toList,by simp, ?_⟩,h2⟩;rw [zai] at h1;have h1:LRep (FRep w z8v) [.int .i64 t.k, .str t.s, .int .i64 t.n, .sl false 4 (FTs t.l)] cs.toList:=h1;exact h1.map (g:=fun x=>WV.a (.fz x)) fun c u _ h=> .a _ _ (.fz _ _ h)
theorem open_num {t:TypeId} {k:IntKind} (ht:P.underlying t=some (.int k)) {r:Reach} {base:Nat} {v:Value} {d:DataW H} {ps:List MemPlace}
  (hv:Value.okWide P w r base t v) (hd:DataW.Trod enc P w 0 (fun _=>true) true t v d ps):∃ n:Int,TRep w z8v β0 (.c (.a (.fz (.int k n)))) v∧(Lit.int k n).wf=true:=by
 obtain ⟨n,rfl,_,_,hw⟩:=open_int ht hv hd;exact ⟨n, .a _ _ (.fz _ _ (.int k n)),hw⟩
theorem zwo {w':World}{foot:Nat→Prop}(g:Good w foot w')(hf:∀ b,¬foot b)(may:MemPlace→Prop):w.keptBut w' may:=by
 refine ⟨g.os,g.output,fun i hi=> ?_⟩;rw [g.blk i hi (hf i)];exact (World.keptBut_refl w may).2.2 i hi
theorem zwq {w':World}{foot:Nat→Prop}(g:Good w foot w')(hf:∀ b,¬foot b){p:MemPlace}(hp:p.block<w.heap.size):w.sameAt w' p:=by
 cases p with
 | cell b o=>exact World.cell?_of_block (a:=⟨b,o,none⟩) (g.blk b hp (hf b))
 | map b=>exact g.blk b hp (hf b)
theorem za8 (hl:laidOutB P=true){w':World}{sp:Nat→Bool}:∀ {ts:List TypeId} {vs:List Value} {ds:List (DataW H)} {p:List MemPlace},DataW.TrodAll enc P w 0 (fun _=>true) true ts vs ds p→
  (∀ t∈ts,P.readableRec t=true∧t<P.types.size)→(∀ x∈p,w.sameAt w' x)→(∀ x∈p,sp x.block=true)→DataW.TrodAll enc P w' 0 sp true ts vs ds p
 | [],_,_,_,h,_,_,_=>by
  obtain ⟨rfl,rfl,rfl⟩:=trodAll_nil h;exact trodAll_mk0
 | t::ts,_,_,_,h,ht,hs,hsp=>by
  obtain ⟨v,vs',d,ds',p,q,rfl,rfl,rfl,⟨n,h1⟩,h2⟩:=trodAll_cons h;have hr:=(ht t List.mem_cons_self).1
  exact ⟨p,q,⟨n,DataW.trod_stays (kids_book hl hr) (book_sized hr) (fun h=>by cases h) ⟨(ht t List.mem_cons_self).2,book_self t⟩ h1 (fun x hx=>hs x (List.mem_append_left _ hx)) (fun x hx=>hsp x (List.mem_append_left _ hx))⟩,
   za8 hl h2 (fun u hu=>ht u (List.mem_cons_of_mem _ hu)) (fun x hx=>hs x (List.mem_append_right _ hx)) (fun x hx=>hsp x (List.mem_append_right _ hx)),rfl⟩
theorem zth (hl:laidOutB P=true) {f:Func} {s:ChangeSpec} {apart fresh handsOn again:Bool} {w':World} {args:Array Value} {ds gs:List (DataW H)} {before:List MemPlace} {foot:Nat→Prop} {tb:TypeId}
  (hW:DataW.Whole enc P f.params.toList s.vars apart w args.toList ds gs before) (hv:s.vars=[]) (hs:∀ ds':List (DataW H),ds'.length=ds.length→s.fn H ds'={ results:=[.lit (.bool true)],args:=ds' })
  (ht:∀ t∈f.params.toList,P.readableRec t=true∧t<P.types.size) (hr:f.resultTypes= #[tb]) (hb:P.underlying tb=some .bool) (g:Good w foot w') (hf:∀ b,¬foot b):
  s.post enc P f apart fresh handsOn again w args (.bool true) w':=by
 have hlt:=hW.lt;obtain ⟨p,q,h1,h2,he,hz,hn⟩:=hW;rw [hv] at h2;obtain ⟨rfl,rfl⟩:=trodVars_none h2;rw [List.append_nil] at he;subst he;have hold:∀ x∈before,(fun b=>decide (b<w.heap.size)) x.block=true:=fun x hx=>by simpa using hlt x hx
 have hfn:=hs (ds++ []) (by simp)
 have hargs:∀ sp:Nat→Bool,(∀ x∈before,sp x.block=true)→DataW.TrodAll enc P w' 0 sp true f.params.toList args.toList (s.fn H (ds++ [])).args before:=fun sp hsp=>by
  rw [hfn,List.append_nil];exact za8 hl h1 ht (fun x hx=>zwq g hf (hlt x hx)) hsp
 have hres:∀ (b:Nat) (sp:Nat→Bool) (hd:Bool),DataW.TrodAll enc P w' b sp hd f.resultTypes.toList ((Value.bool true).resultList f.resultTypes.size) (s.fn H (ds++ [])).results []:=fun b sp hd=>by
  rw [hfn,hr];exact trodAll_mk1 ⟨1,by simp [DataW.trod,Value.cells,hb]⟩
 have hvars:∀ sp:Nat→Bool,DataW.TrodVars enc P w' sp s.vars (s.fn H (ds++ [])).vars []:=fun sp=>by
  rw [hfn,hv];rfl
 refine ⟨ds,[],before,[],before,[],⟨before,[],h1,by rw [hv];rfl,by simp,hz,hn⟩,hres _ _ _,hargs _ hold,hvars _,World.keptBut_mono (fun x hx=>⟨hx, ?_⟩) (zwo g hf (· ∈before)),fun _=> ?_⟩
 · simpa using hx
 · refine ⟨ok_one hr rfl (okWide_bool_mk hb _),_,_,([]++before)++ [],⟨[]++before,[],trodAll_append (hargs _ (fun _ _=>rfl)) (hres _ _ _),hvars _,rfl, ?_, ?_⟩, ?_⟩
   · intro b off hp;have hp:MemPlace.cell b off∈before:=by simpa using hp
     have hb:=hlt _ hp
     have:w'.frozen? ⟨b,off,none⟩=w.frozen? ⟨b,off,none⟩:=by
      unfold World.frozen?;rw [g.blk b hb (hf b)]
     rw [this];exact hz b off hp
   · intro ha;simpa using hn ha
   · intro x hx _;simpa using hx
theorem law_true {f:FuncId}{args:List TV}(hgl:Gl P w z8v)(h:AC P f args [] (cb true) []){vals:List Value}(hv:LRep (TRep w z8v β0) args vals):
  Calls P f vals.toArray w fun e w'=>e= .returned (.bool true)∧∃ foot,(∀ b,¬foot b)∧Good w foot w':=by
 have hX:(fun b=>(fun _:Nat=>False) b∨Own (fun o=>([]:List AObj).getD o .gone) β0 b)=z8v:=none_own (fun _ h=>h);refine (h.2.2 w vals β0 (fun _=>False) (fun o b h=>by cases h) (fun b h=>h.elim) (hgl.sub fun b ⟨o,h5,_⟩=>by simp [isLive] at h5) ⟨fun o b h _=>by simp [isLive] at h,fun o h=>by simp [isLive] at h,fun o o' b h=>by simp [isLive] at h,fun o b h=>by cases h⟩ (by rw [hX];exact hv)).mono fun e w' ⟨v,β',h1,h2,h3,h4,_⟩=> ?_;subst h1;cases h4 with
 | a _ _ h4=>
  cases h4 with
  | fz _ _ h4=>
   cases h4;exact ⟨rfl,_,fun b ⟨o,h5,_⟩=>by simp [isLive] at h5,h2⟩
end
end Go.AM

namespace Go.AM
open Go.ChangeShapes Go.WideShapes Go.ChangeAt Go.RowKit
section
variable {H:Type} {enc:TypeId×Value→H} {P:Program} {w:World}
theorem zqn {n:Int}(h:(Lit.int .i64 n).wf=true): -9223372036854775808≤n∧n≤9223372036854775807:=by
 simp only [Lit.wf,IntKind.min,IntKind.max,IntKind.signed,IntKind.bits,Bool.and_eq_true,decide_eq_true_eq,if_true] at h;omega
abbrev TmI:={ t:Tm // okI t }
theorem zl0:∀ l:List TmI,Tm.bks (l.map (·.1))=z7q (fun t:TmI=>t.1.bk) l
 | []=>rfl
 | t::l=>by rw [List.map_cons,Tm.bks,z7q,zl0 l]
theorem okIs_val (l:List TmI):okIs (l.map (·.1)):=zxd fun t ht=>by
 obtain ⟨u,_,rfl⟩:=List.mem_map.1 ht;exact u.2
theorem rd_termI {b:DataW H→Nat}{bs:List (DataW H)→Nat}(hb:Bulk b bs){T:TypeId}{f0 f1 f2 f3:Field}(hT:TmTy P T f0 f1 f2 f3):∀ fuel,RdN enc P w b fuel T (fun t:TmI=>FT t.1) (fun t=>t.1.bk):=by
 intro fuel
 induction fuel using Nat.strongRecOn with
 | _ fuel ih=>
  intro cs x h;obtain ⟨xs,n,rfl,rfl,hl,hxl,hf⟩:=DataW.trod_struct hT.str h;rw [hT.cT] at hl
  match cs,hl with
  | [v0,v1,v2,v3],_=>
  match xs,hxl with
  | [x0,x1,x2,x3],_=>
  have g0:=hf 0 f0 rfl;have g1:=hf 1 f1 rfl;have g2:=hf 2 f2 rfl;have g3:=hf 3 f3 rfl;rw [hT.o0,hT.c0] at g0;rw [hT.o1,hT.c1] at g1;rw [hT.o2,hT.c2] at g2;rw [hT.o3,hT.c3] at g3;obtain ⟨k,r0,_⟩:=zyb (b:=b) hT.u0 hb.one n _ _ g0;obtain ⟨s,r1,z1⟩:=rd_str (b:=b) hT.u1 hb.str n _ _ g1;have z1:s.length+1≤b x1.1:=z1;obtain ⟨m,r2,_⟩:=rd_num (b:=b) hT.u2 hb.one n _ _ g2;obtain ⟨l,r3,z3⟩:=zi1 (F:=fun t:TmI=>FT t.1) (sz:=fun t:TmI=>t.1.bk) hb.cons hb.one hb.slice hT.u3 hT.cT (by omega) (fun t=>z2j t.1) (fun k hk=>ih k (by omega)) _ _ g3;have z3:z7q (fun t:TmI=>t.1.bk) l+1≤b x3.1:=z3;refine ⟨⟨.mk k s m.1 (l.map (·.1)),zqn m.2,okIs_val l⟩, ?_, ?_⟩
  · have e:FTs (l.map (·.1))=l.map fun t:TmI=>FT t.1:=by rw [z2f,List.map_map];rfl
    show LRep (FRep w z8v) (FT (.mk k s m.1 (l.map (·.1)))) _;rw [FT,e];exact .cons (LRep.one r0) (.cons (LRep.one r1) (.cons (LRep.one r2) (.cons (LRep.one r3) .nil)))
  · have:=hb.one x0.1;show Tm.bk (.mk k s m.1 (l.map (·.1)))≤b (.agg [x0.1,x1.1,x2.1,x3.1]);simp only [Tm.bk,zl0];have h9:=hb.agg [x0.1,x1.1,x2.1,x3.1];simp only [hb.cons,hb.nil] at h9;omega
end
end Go.AM

namespace Go.AM
open Go.ChangeShapes Go.WideShapes Go.ChangeAt Go.RowKit
section
variable {H:Type} {enc:TypeId×Value→H} {P:Program} {w:World}
theorem zwv {b:DataW H→Nat} {bs:List (DataW H)→Nat} (hb:Bulk b bs) {T S:TypeId} {n:Nat} {α:Type} {F:α→List FV} {sz:α→Nat} (hF:∀ a,(F a).length=n) (hn:P.cellsOf T=n) (hn0:0<n) (hz:∀ a,1≤sz a)
  (h1:∀ k,RdN enc P w b k T F sz) (hS:P.underlying S=some (.slice T)) {r:Reach} {base:Nat} {v:Value} {d:DataW H} {ps:List MemPlace}
  (hv:Value.okWide P w r base S v) (hd:DataW.Trod enc P w 0 (fun _=>true) true S v d ps):∃ l:List α,TRep w z8v β0 (.c (.a (.fz (.sl false n (l.map F))))) v∧z7q sz l+1≤b d:=by
 obtain ⟨a,len,cap,rfl⟩:=okWide_slice hS hv;obtain ⟨fuel,hf⟩:=hd;obtain ⟨l,h1,h2⟩:=zi1 hb.cons hb.one hb.slice hS hn hn0 hF (fun k _=>h1 k) _ _ hf;have h1:LRep (FRep w z8v) [.sl false n (l.map F)] [_]:=h1;exact ⟨l, .a _ _ (.fz _ _ h1.one),h2⟩
abbrev IBT:={ n:Int // -9223372036854775808≤n∧n≤9223372036854775807 }×Bool×TmI
abbrev FIBT (v:IBT):List FV:= .int .i64 v.1.1:: .bool v.2.1::FT v.2.2.1
structure IBTTy (P:Program)(T Tt:TypeId)(f0 f1 f2:Field):Prop where
 str:P.underlying T=some (.struct #[f0,f1,f2])
 u0:P.underlying f0.type=some (.int .i64)
 u1:P.underlying f1.type=some .bool
 t2:f2.type=Tt
 o0:f0.offset=0
 o1:f1.offset=1
 o2:f2.offset=2
 c0:P.cellsOf f0.type=1
 c1:P.cellsOf f1.type=1
 cT:P.cellsOf T=6
theorem rd_ibt {b:DataW H→Nat}{bs:List (DataW H)→Nat}(hb:Bulk b bs){T Tt:TypeId}{g0 g1 g2 g3 f0 f1 f2:Field}(hT:TmTy P Tt g0 g1 g2 g3)(hV:IBTTy P T Tt f0 f1 f2)(fuel:Nat):
  RdN enc P w b fuel T FIBT (fun v=>v.2.2.1.bk+2):=by
 intro cs x h;obtain ⟨xs,n,rfl,rfl,hl,hxl,hf⟩:=DataW.trod_struct hV.str h;rw [hV.cT] at hl
 match cs,hl with
 | [v0,v1,v2,v3,v4,v5],_=>
 match xs,hxl with
 | [x0,x1,x2],_=>
 have q0:=hf 0 f0 rfl;have q1:=hf 1 f1 rfl;have q2:=hf 2 f2 rfl;rw [hV.o0,hV.c0] at q0;rw [hV.o1,hV.c1] at q1;rw [hV.o2,hV.t2,hT.cT] at q2;obtain ⟨i,r0,z0⟩:=rd_num (b:=b) hV.u0 hb.one n _ _ q0;obtain ⟨p,r1,z1⟩:=rd_bool (b:=b) hV.u1 hb.one n _ _ q1;obtain ⟨t,r2,z2⟩:=rd_termI hb hT n _ _ q2;have z2:t.1.bk≤b x2.1:=z2;have z0:1≤b x0.1:=z0;refine ⟨(⟨i.1,zqn i.2⟩,p,t), .cons (LRep.one r0) (.cons (LRep.one r1) r2), ?_⟩;show t.1.bk+2≤b (.agg [x0.1,x1.1,x2.1]);have h9:=hb.agg [x0.1,x1.1,x2.1];simp only [hb.cons,hb.nil] at h9;omega
end
end Go.AM

set_option maxRecDepth 100000
open Go Go.Proofs
namespace Go.AM
theorem runH_sz {s:Sto}(hs:OKS s):∀ (F:Nat) (t:Tm),validB t=true→Fit F t→(runH s F t).2.1=0→(runH s F t).1.sz+42000*(F-(runH s F t).2.2)≤t.sz+42000*F:=by
 intro F
 induction F with
 | zero=>intro t hv hf h;rw [runH] at h ⊢;split<;>rename_i q
         · exact Nat.le_refl _
         · rw [if_neg q] at h;cases h
 | succ F ih=>
  intro t hv hf h;rw [runH] at h ⊢;split
  · exact Nat.le_refl _
  · rename_i q;rw [if_neg q] at h;split
    · rename_i q2;rw [if_pos q2] at h;cases h
    · rename_i q2;rw [if_neg q2] at h
      have q1:(z0i s t).2=1:=by rcases zdy s t with q' | q' | q'; · exact absurd q' q
                                · exact q'
                                · exact absurd q' q2
      obtain ⟨v,ff⟩:=z7t hs hv hf q1;have h1:=ih _ v ff h;have h2:=stepS_sz hs hv hf q1;simp only;omega
theorem z9n {fu:Int→Tm→Tm×Int×Int}(hfu:∀ g t,0≤g→0≤(fu g t).2.2∧(fu g t).2.2≤g){A:Tm→Tm→Prop}:
  ∀ (l:List Tm) (sk:Bool) (g:Int),0≤g→(∀ u∈(if sk=true then l.drop 1 else l),∀ g':Int,0≤g'→g'≤g→(fu g' u).2.1=0→A u (fu g' u).1∧(fu g' u).1.sz+42000*(fu g' u).2.2.toNat≤u.sz+42000*g'.toNat)→
  (z0w fu sk l g).2.1=0→Tm.szs (z0w fu sk l g).1+42000*(z0w fu sk l g).2.2.toNat≤Tm.szs l+42000*g.toNat∧(z0w fu sk l g).1.length=l.length∧(sk=true→hd (z0w fu sk l g).1=hd l)∧All2 A (if sk=true then l.drop 1 else l) (if sk=true then (z0w fu sk l g).1.drop 1 else (z0w fu sk l g).1)
 | [],sk,g,_,_,_=>by
  refine ⟨Nat.le_refl _,rfl,fun _=>rfl, ?_⟩;cases sk<;>trivial
 | t::l,true,g,hg,h,h0=>by
  have:=z9n hfu l false g hg h h0;refine ⟨?_,by rw [z0w,List.length_cons,this.2.1];rfl,fun _=>rfl,this.2.2.2⟩;have h1:=this.1;show t.sz+Tm.szs _+_≤t.sz+Tm.szs l+_;have e:(z0w fu true (t::l) g).2.2=(z0w fu false l g).2.2:=rfl;rw [e];omega
 | t::l,false,g,hg,h,h0=>by
  have eK:z0w fu false (t::l) g=if (fu g t).2.1≠0 then ([],(fu g t).2) else ((fu g t).1::(z0w fu false l (fu g t).2.2).1,(z0w fu false l (fu g t).2.2).2):=rfl
  rw [eK] at h0 ⊢;by_cases q:(fu g t).2.1≠0
  · rw [if_pos q] at h0;exact absurd h0 q
  · rw [if_neg q] at h0 ⊢;have q:(fu g t).2.1=0:=by simpa using q
    have h1:=hfu g t hg;have h2:=h t List.mem_cons_self g hg (Int.le_refl _) q;have h3:=z9n hfu l false (fu g t).2.2 h1.1 (fun u hu g' a b c=>h u (List.mem_cons_of_mem _ hu) g' a (by omega) c) h0;refine ⟨?_,by simp only [List.length_cons,h3.2.1],fun e=>(by cases e),⟨h2.1,h3.2.2.2⟩⟩;have h4:=h3.1;have h5:=h2.2;simp only [Tm.szs];omega
theorem ziu {α β:Type}{R:α→β→Prop}{Q:β→Prop}(h:∀ x y,R x y→Q y):∀ {a:List α} {b:List β},All2 R a b→∀ y∈b,Q y
 | [],[],_,y,hy=>by cases hy
 | x::a,z::b,hr,y,hy=>by
  rcases List.mem_cons.1 hy with rfl | hy
  · exact h _ _ hr.1
  · exact ziu h hr.2 y hy
 | [],_::_,h,_,_=>h.elim
 | _::_,[],h,_,_=>h.elim
theorem mem_hd {l:List Tm}{y:Tm}(h:y∈l):y=hd l∨y∈l.drop 1:=by
 cases l with
 | nil=>cases h
 | cons x l=>exact (List.mem_cons.1 h).imp id id
theorem zgl {l:List Tm}:z2w l=true↔∀ u∈l,validB u=true:=by
 induction l with
 | nil=>exact ⟨(fun _ u hu=>nomatch hu),fun _=>rfl⟩
 | cons x l ih=>
  rw [z2w,Bool.and_eq_true,ih];exact ⟨fun h u hu=>(List.mem_cons.1 hu).elim (fun e=>e▸h.1) (h.2 u),fun h=>⟨h x List.mem_cons_self,fun u hu=>h u (List.mem_cons_of_mem _ hu)⟩⟩
theorem zrj {k n:Int}{s:List UInt8}{l us:List Tm}(hv:validB (.mk k s n l)=true)(hl:us.length=l.length)(hk:k=6→hd us=hd l)(hu:k=5∨k=6→∀ u∈us,validB u=true):validB (.mk k s n us)=true:=by
 by_cases h5:k=5
 · subst h5;rw [valid5] at hv ⊢;simp only [Bool.and_eq_true] at hv ⊢;exact ⟨⟨hv.1.1,by rw [hl];exact hv.1.2⟩,zgl.2 (hu (.inl rfl))⟩
 · by_cases h6:k=6
   · subst h6;rw [valid6] at hv ⊢;simp only [Bool.and_eq_true] at hv ⊢;rw [hk rfl,hl];exact ⟨hv.1,zgl.2 (hu (.inr rfl))⟩
   · have:=okB0 (z04 _ hv) h5 h6;subst this;have:us=[]:=List.eq_nil_of_length_eq_zero hl;subst this;exact hv
theorem z67 {s:Sto}(hs:OKS s):∀ (D:Nat) (f:Int) (t:Tm),f.toNat≤D→0≤f→validB t=true→Fit f.toNat t→(z0c s D f t).2.1=0→
  (validB (z0c s D f t).1=true∧bd M61 (z0c s D f t).1)∧(z0c s D f t).1.sz+42000*(z0c s D f t).2.2.toNat≤t.sz+42000*f.toNat
 | 0,f,t,_,_,_,_,h=>by rw [z0c] at h;cases h
 | D+1,f,t,hD,h0,hv,hf,h=>by
  rw [z0c] at h ⊢;split
  · rename_i q;rw [if_pos q] at h;cases h
  rename_i q;rw [if_neg q] at h;have hfit:=hf.mono (show (f-1).toNat≤f.toNat by omega);have hq:=z6p hs hv hfit;have hz:=runH_sz hs (f-1).toNat t hv hfit;have eh:z8f s (f-1) t=((runH s (f-1).toNat t).1,(runH s (f-1).toNat t).2.1,f-1-((runH s (f-1).toNat t).2.2:Int)):=rfl;rw [eh] at h ⊢;generalize runH s (f-1).toNat t=q at*;obtain ⟨x,er,u⟩:=q;simp only at hq hz h ⊢;obtain ⟨hu,hq⟩:=hq;rw [zfe] at h ⊢;split
  · rename_i q2;rw [if_pos q2] at h;exact absurd h q2
  rename_i q2;rw [if_neg q2] at h;have he:er=0:=by simpa using q2
  subst he;rcases hq with ⟨_,hvx,hfx,_⟩ | ⟨h80,_⟩
  · have hz:=hz rfl;obtain ⟨k,str,n,l⟩:=x;simp only [Tm.l,Tm.k,Tm.s,Tm.n] at h ⊢;have hg0:0≤f-1-(u:Int):=by omega
    have hkid:∀ x∈l,k=5∨k=6:=fun x hx=>by
     by_cases h5:k=5∨k=6
     · exact h5
     · rw [not_or] at h5;have:=okB0 (z04 _ hvx) h5.1 h5.2;rw [this] at hx;cases hx
    have kid:∀ x∈l,∀ g':Int,0≤g'→g'≤f-1-(u:Int)→(z0c s D g' x).2.1=0→(validB (z0c s D g' x).1=true∧bd M61 (z0c s D g' x).1)∧(z0c s D g' x).1.sz+42000*(z0c s D g' x).2.2.toNat≤x.sz+42000*g'.toNat:=fun x hx g' a b c=>
     z67 hs D g' x (by omega) a (z08 hvx (hkid x hx) x hx) ((hfx.kid (show x∈Tm.l (.mk k str n l) from hx)).mono (by omega)) c
    unfold z93 at h ⊢;split
    · rename_i q3;rw [if_pos q3] at h;exact absurd h q3
    rename_i q3;have h9:(z0w (z0c s D) (k==6) l (f-1-(u:Int))).2.1=0:=by simpa using q3
    have sub:∀ x∈(if (k==6)=true then l.drop 1 else l),x∈l:=fun x hx=>by
     split at hx
     · exact List.mem_of_mem_drop hx
     · exact hx
    have hk:=z9n (A:=fun _ y=>validB y=true∧bd M61 y) (z3h s D) l (k==6) (f-1-(u:Int)) hg0 (fun x hx g' a b c=>kid x (sub x hx) g' a b c) h9;generalize z0w (z0c s D) (k==6) l (f-1-(u:Int))=r at*;obtain ⟨us,er2,g2⟩:=r;simp only at hk ⊢;obtain ⟨k1,k2,k3,k4⟩:=hk;have k5:=ziu (Q:=fun y=>validB y=true∧bd M61 y) (fun _ _ h=>h) k4
    have all:∀ y∈us,validB y=true∧bd M61 y:=fun y hy=>by
     by_cases h6:(k==6)=true
     · rcases mem_hd hy with e | e
       · rw [k3 h6] at e;have hl:l ≠ []:=fun e2=>by rw [e2] at k2;rw [List.eq_nil_of_length_eq_zero k2] at hy;cases hy
         have hm:y∈l:=by cases l with
          | nil=>exact absurd rfl hl
          | cons z l=>rw [e];exact List.mem_cons_self
         exact ⟨z08 hvx (hkid y hm) y hm,z3e hfx.bd.2 hm⟩
       · exact k5 y (by rw [if_pos h6];exact e)
     · exact k5 y (by rw [if_neg h6];exact hy)
    refine ⟨⟨zrj hvx k2 (fun e=>k3 (by have e:k=6:=e;rw [e];rfl)) (fun _ y hy=>(all y hy).1),⟨hfx.bd.1,z8p fun y hy=>(all y hy).2⟩⟩, ?_⟩;simp only [Tm.sz] at hz ⊢;omega
  · cases h80
def z0k (s:Sto)(f:Int)(t:Tm):Tm×Int×Int:=
 if validB t=true then (if (z0c s f.toNat f t).2.1=0 then (z06 (z0c s f.toNat f t).1,(z0c s f.toNat f t).2.2,0) else (noT,0,(z0c s f.toNat f t).2.1)) else (noT,0,1)
theorem zl9 (s:Sto)(D:Nat){f:Int}(t:Tm)(h:f≤0):z0c s D f t=(noT,80,f):=by
 cases D with
 | zero=>rfl
 | succ D=>rw [z0c,if_pos h]
def fullR (s:Sto)(f:Int)(t:Tm):Tm×Int×Int:=
 if validB t=true then (if (z0c s f.toNat f t).2.1=0 then ((z0c s f.toNat f t).1,(z0c s f.toNat f t).2.2,0) else (noT,0,(z0c s f.toNat f t).2.1)) else (noT,0,1)
theorem zn8 (s:Sto)(hs:OKS s)(f:Int)(t:Tm)(h0:0-9223372036854775808≤f)(hz:t.sz≤B)(hf:validB t=true→Fit f.toNat t):
  AC Tryz.prog 27 [aT t,ci f, .c (.fn (.func 28) [(false,[.ep 0 2 0 0])] [])] (oS s) (aHd (fullR s f t)) (oS s):=by
 have h1:=z3f t hz;have h2:=fun hv=>c_sfull s hs f.toNat f t (Nat.le_refl _) h0 hv (hf hv);have hV:fullR s f t=if validB t=true then (if (z0c s f.toNat f t).2.1=0 then ((z0c s f.toNat f t).1,(z0c s f.toNat f t).2.2,0) else (noT,0,(z0c s f.toNat f t).2.1)) else (noT,0,1):=rfl
 rw [hV];generalize z0c s f.toNat f t=z at*;obtain ⟨z1,z2,z3⟩:=z;obtain ⟨k,str,n,l⟩:=t;refine AC.vc hP sh lv27 (Nat.le_refl _) (by simp [isLive]) (by simp) (Eq.mpr (v27_F28 k str n (FTs l) ..) ?_);refine ⟨_,h1,z00 (fun h=> ?_) (fun h=>⟨(z1,z2,z3),h2 (by simpa using h),z00 (fun h'=> ?_) (fun h'=> ?_)⟩)⟩
 · rw [if_neg (by simpa using h)];exact ⟨leHd (l:=[]) z0m,rfl⟩
 · have h:validB (.mk k str n l)=true:=by simpa using h
   rw [if_pos h,if_neg (by simpa using h')];exact ⟨leHd (l:=[]) z0m,rfl⟩
 · have h:validB (.mk k str n l)=true:=by simpa using h
   rw [if_pos h,if_pos (by simpa using h')];exact ⟨.refl _,rfl⟩
theorem zeu (s:Sto)(hs:OKS s)(f:Int)(t:Tm)(h0:0-9223372036854775808≤f)(hz:t.sz≤B)(hf:validB t=true→Fit f.toNat t):AC Tryz.prog 11 [aS 0,aT t,ci f] (oS s) (aHd (z0k s f t)) (oS s):=by
 have h:=zn8 s hs f t h0 hz hf
 have hsh:validB t=true→(z0c s f.toNat f t).2.1=0→AC Tryz.prog 29 [aT (z0c s f.toNat f t).1] [] (aT (z06 (z0c s f.toNat f t).1)) []:=fun hv he=>by
  have h0:0≤f:=by
   rcases Int.le_total 0 f with q | q
   · exact q
   · rw [zl9 s _ t q] at he;cases he
  obtain ⟨⟨a,b⟩,c⟩:=z67 hs f.toNat f t (Nat.le_refl _) h0 hv (hf hv) he;have:=(hf hv).2.1;have h3:=c_eShort (z0c s f.toNat f t).1 (by omega) b;rw [if_pos a] at h3;exact h3
 have e1:z0k s f t=if validB t=true then (if (z0c s f.toNat f t).2.1=0 then (z06 (z0c s f.toNat f t).1,(z0c s f.toNat f t).2.2,0) else (noT,0,(z0c s f.toNat f t).2.1)) else (noT,0,1):=rfl
 have e2:fullR s f t=if validB t=true then (if (z0c s f.toNat f t).2.1=0 then ((z0c s f.toNat f t).1,(z0c s f.toNat f t).2.2,0) else (noT,0,(z0c s f.toNat f t).2.1)) else (noT,0,1):=rfl
 have go:∀ z:Tm×Int×Int,AC Tryz.prog 27 [aT t,ci f, .c (.fn (.func 28) [(false,[.ep 0 2 0 0])] [])] (oS s) (aHd z) (oS s)→∀ r:TV,br (z.2.2 !=0) (TV.Le (.tup [(true,[.a (.fz (.int .i64 0)), .a (.fz (.str [])), .a (.fz (.int .i64 0)), .a (.fz .N)]),(false,[.a (.fz (.int .i64 0))]),(false,[.a (.fz (.int .i64 z.2.2))])]) r∧oS s=oS s)
   (∃ u:Tm,AC Tryz.prog 29 [aT z.1] [] (aT u) []∧TV.Le (.tup [(true,cT u),(false,[.a (.fz (.int .i64 z.2.1))]),(false,[.a (.fz (.int .i64 0))])]) r∧oS s=oS s)→AC Tryz.prog 11 [aS 0,aT t,ci f] (oS s) r (oS s):=fun z hz r hb=>by
  obtain ⟨k,str,n,l⟩:=t;refine AC.vc hP sh lv11 (Nat.le_refl _) (by simp [isLive]) (by simp) (Eq.mpr (v11 k str n (FTs l) ..) ?_);exact ⟨z,hz,hb⟩
 refine go _ h _ ?_;rw [e1,e2];by_cases hv:validB t=true
 · rw [if_pos hv,if_pos hv];by_cases he:(z0c s f.toNat f t).2.1=0
   · rw [if_pos he,if_pos he];exact z00 (fun h=>by cases h) (fun _=>⟨_,hsh hv he, .refl _,rfl⟩)
   · rw [if_neg he,if_neg he];exact z00 (fun _=>⟨leHd (l:=[]) z0m,rfl⟩) (fun h=>absurd (by simpa using h) he)
 · rw [if_neg hv,if_neg hv];exact z00 (fun _=>⟨leHd (l:=[]) z0m,rfl⟩) (fun h=>by cases h)
structure OKA (s:Sto)(n:Nat):Prop where
 ok:OKS s
 V:s.V.length≤n
 T:s.T.length≤n
 tr:OKT s
 wf:∀ i∈s.V,i.bd=false→i.v=noT
 nn:∀ i∈s.V,i.bd=true→i.v.bk≤B
theorem z1f (s:Sto)(x:Int)(t:Tm):(bindS s x t).V.length=s.V.length:=by unfold bindS;split<;>simp
theorem OKS.bindA {s:Sto}{x:Int}{t:Tm}(h:OKS s)(hz:t.sz≤40000)(hb:bd 2199023255552 t):OKS (bindS s x t):=by
 by_cases q:z2t s x t=true
 · rw [(z1x q).1];intro i hi hbd;rcases List.mem_or_eq_of_mem_set hi with hi | rfl
   · exact h i hi hbd
   · refine ⟨?_,hz,hb⟩;simp only [z2t,Bool.and_eq_true] at q;exact q.2.2.1
 · rw [(z3c (by simpa using q)).1];exact h
theorem z6u {s:Sto}{x:Int}{t:Tm}(q:z2t s x t=true):0≤x∧x<(s.V.length:Int):=by
 simp only [z2t,Bool.and_eq_true,inB,decide_eq_true_eq] at q;exact q.1
theorem OKA.bind {s:Sto}{n:Nat}{x:Int}{t:Tm}(h:OKA s n)(hz:t.sz≤40000)(hb:bd 2199023255552 t)(hk:t.bk≤B):OKA (bindS s x t) (n+1):=by
 have h1:=h.V;have h2:=h.T;by_cases q:z2t s x t=true
 · have hx:=z6u q;refine ⟨h.ok.bindA hz hb,by rw [z1f];omega,by rw [(z1x q).1];simp;omega,fun y hy=> ?_,fun i hi hbd=> ?_,fun i hi hbd=> ?_⟩
   · rw [z1f];rw [(z1x q).1] at hy;rcases List.mem_append.1 hy with hy | hy
     · exact h.tr y hy
     · simp at hy;subst hy;exact hx
   · rw [(z1x q).1] at hi;rcases List.mem_or_eq_of_mem_set hi with hi | rfl
     · exact h.wf i hi hbd
     · cases hbd
   · rw [(z1x q).1] at hi;rcases List.mem_or_eq_of_mem_set hi with hi | rfl
     · exact h.nn i hi hbd
     · exact hk
 · rw [(z3c (by simpa using q)).1];exact ⟨h.ok,by omega,by omega,h.tr,h.wf,h.nn⟩
theorem OKA.fresh {s:Sto}{n:Nat}(h:OKA s n)(lv:Int):OKA (freshS s lv) (n+1):=by
 have h1:=h.V;have h2:=h.T;have hl:(freshS s lv).V.length=s.V.length+1:=by simp [freshS]
 refine ⟨fun i hi hb=> ?_,by omega,by simp only [freshS];omega,fun y hy=> ?_,fun i hi hbd=> ?_,fun i hi hbd=> ?_⟩
 · rcases List.mem_append.1 hi with hi | hi
   · exact h.ok i hi hb
   · simp at hi;subst hi;cases hb
 · rw [hl];have:=h.tr y hy;omega
 · rcases List.mem_append.1 hi with hi | hi
   · exact h.wf i hi hbd
   · simp at hi;subst hi;rfl
 · rcases List.mem_append.1 hi with hi | hi
   · exact h.nn i hi hbd
   · simp at hi;subst hi;cases hbd
theorem OKA.nil:OKA ⟨[],[]⟩ 0:=⟨(fun i hi=>nomatch hi),Nat.le_refl _,Nat.le_refl _,(fun i hi=>nomatch hi),(fun i hi=>nomatch hi),(fun i hi=>nomatch hi)⟩
theorem OKA.more {s:Sto}{n m:Nat}(h:OKA s n)(hm:n≤m):OKA s m:=⟨h.ok,Nat.le_trans h.V hm,Nat.le_trans h.T hm,h.tr,h.wf,h.nn⟩
end Go.AM

set_option maxRecDepth 100000
open Go Go.Proofs
namespace Go.AM
abbrev sNil:Sto:=⟨[],[]⟩
def Ext (s0 s:Sto):Prop:=∃ xs,s.T=s0.T++xs∧s0.V.length≤s.V.length∧∀ j,j<s0.V.length→(xs.foldl clrV s.V)[j]? =s0.V[j]?
theorem Ext.refl (s:Sto):Ext s s:=⟨[],by simp,Nat.le_refl _,fun _ _=>rfl⟩
theorem Ext.fresh {s0 s:Sto}(h:Ext s0 s)(lv:Int):Ext s0 (freshS s lv):=by
 obtain ⟨xs,h1,h2,h3⟩:=h;refine ⟨xs,h1,by simp only [freshS,List.length_append];omega,fun j hj=> ?_⟩;rw [←h3 j hj,z9j,z9j];show (s.V++_)[j]?.map _=_;rw [List.getElem?_append_left (by omega)]
theorem Ext.bind {s0 s:Sto}(h:Ext s0 s)(wf:∀ i∈s.V,i.bd=false→i.v=noT)(x:Int)(t:Tm):Ext s0 (bindS s x t):=by
 by_cases q:z2t s x t=true
 · obtain ⟨xs,h1,h2,h3⟩:=h;have hx:=z6u q;obtain ⟨hl,ei⟩:=z1w hx.1 hx.2
   have hub:(infOf s.V x).bd=false:=by
    simp only [z2t,Bool.and_eq_true,Bool.not_eq_true'] at q;exact q.2.1
   rw [ei] at hub;have hw:=wf _ (List.getElem_mem hl) hub;rw [(z1x q).1,ei];refine ⟨xs++ [x],by rw [h1,List.append_assoc],by rw [List.length_set];exact h2,fun j hj=> ?_⟩;rw [←h3 j hj,z9j,z9j,List.getElem?_set];by_cases e:x.toNat=j
   · subst e;rw [if_pos rfl,if_pos hl,List.getElem?_eq_getElem hl];simp only [Option.map_some,List.any_append,List.any_cons,beq_self_eq_true,Bool.true_or,Bool.or_true,if_true];congr 1;generalize s.V[x.toNat]=v at*;obtain ⟨lv,bd,v⟩:=v;simp only at hub hw;subst hub;subst hw;unfold clrI;split<;>rfl
   · rw [if_neg e];congr 1
     funext v
     simp [List.any_append,e]
 · rw [(z3c (by simpa using q)).1];exact h
theorem Ext.undo {s0 s:Sto}(h:Ext s0 s):zaq s s0.T.length s0.V.length=s0:=by
 obtain ⟨xs,h1,h2,h3⟩:=h;obtain ⟨V0,T0⟩:=s0;have e1:s.T.drop T0.length=xs:=by rw [h1,List.drop_left]
 have e2:s.T.take T0.length=T0:=by rw [h1,List.take_left]
 show (⟨((s.T.drop T0.length).foldl clrV s.V).take V0.length,s.T.take T0.length⟩:Sto)=_;rw [e1,e2];congr 1;apply List.ext_getElem?;intro j;rw [List.getElem?_take];split
 · rename_i hj;exact h3 j hj
 · rename_i hj;rw [List.getElem?_eq_none (by omega)]
theorem Ext.cut {s0 s:Sto}(h:Ext s0 s)(h0:OKT s0):s0.T.length≤s.T.length∧s0.V.length≤s.V.length∧∀ x∈s.T.take s0.T.length,x<(s0.V.length:Int):=by
 obtain ⟨xs,h1,h2,h3⟩:=h;refine ⟨by rw [h1,List.length_append];omega,h2,fun x hx=> ?_⟩;rw [h1,List.take_left] at hx;exact (h0 x hx).2
end Go.AM

set_option maxRecDepth 100000
open Go Go.Proofs
namespace Go.AM
abbrev vx1 (n:Int):Tm:= .mk 4 [] n []
end Go.AM

set_option maxRecDepth 100000
open Go Go.Proofs
