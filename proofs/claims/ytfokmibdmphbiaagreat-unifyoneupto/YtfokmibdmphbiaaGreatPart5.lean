/- Contracts of the code's functions over plain values, and plain laws: part 5. No conditions. -/
import Derived.Test.YtfokmibdmphbiaaGreatPart4
set_option maxRecDepth 100000
open Go Go.Proofs
namespace Go.AM
theorem zev {fr by_:Int}{k n:Int}{s:List UInt8}{l:List Tm}(d:Int)(hk:k=5∨k=6):shT fr by_ (.mk k s n l) d= .mk k s n (z0b (z0s fr by_) l (d+if (k==5)=true then 1 else 0)):=zsj _ (zqm fr by_) k s n l d (by rcases hk with rfl | rfl<;>rfl)
theorem zd3 {fr by_:Int}{k n:Int}{s:List UInt8}{l:List Tm}(d:Int)(h5:k≠5)(h6:k≠6):shT fr by_ (.mk k s n l) d=z0s fr by_ (.mk k s n l) d:=zsn _ k s n l d (by simp [h5,h6])
theorem shT_k (fr by_:Int)(t:Tm)(d:Int):(shT fr by_ t d).k=t.k:=zuj _ (zqm fr by_) t d
theorem walkL_hd (fr by_:Int)(l:List Tm)(d:Int):(hd (z0b (z0s fr by_) l d)).k=(hd l).k:=by
 cases l with
 | nil=>rfl
 | cons x l=>exact shT_k fr by_ x d
theorem zjy (lf:Tm→Int→Tm)(d:Int):∀ a b:List Tm,z0b lf (a++b) d=z0b lf a d++z0b lf b d
 | [],_=>rfl
 | x::a,b=>by simp only [List.cons_append,z0b,zjy lf d a b]
mutual
theorem zgp (fr by_:Int):∀ (t:Tm) (d:Int),z3b (shT fr by_ t d)=z3b t
 | .mk k s n l,d=>by
  by_cases hk:k=5∨k=6
  · rw [zev d hk,z3b,z3b,zes fr by_ l];congr 2;show (k==6&&(hd (z0b (z0s fr by_) l (d+if (k==5)=true then 1 else 0))).k==5)=(k==6&&(hd l).k==5)
    rw [walkL_hd]
  · have h5:k≠5:=fun e=>hk (.inl e);have h6:k≠6:=fun e=>hk (.inr e);rw [zd3 d h5 h6];unfold z0s;split<;>rfl
theorem zes (fr by_:Int):∀ (l:List Tm) (d:Int),z3p (z0b (z0s fr by_) l d)=z3p l
 | [],_=>rfl
 | t::l,d=>by
  have:=zgp fr by_ t d;rw [z0b,z3p,z3p,zes fr by_ l d];exact congrArg (· && _) this
end
mutual
theorem zjf:∀ (t:Tm) (e j:Int),occF t e=0→j<e→occF (shT 0 (-1) t e) j=occF t j
 | .mk k s n l,e,j,ho,hj=>by
  by_cases hk:k=5∨k=6
  · have h3:¬(k==3)=true:=by rcases hk with rfl | rfl<;>decide
    have a1:∀ i,¬((k==3)=true∧(n==i)=true):=fun i q=>h3 q.1;rw [occF,if_neg (a1 e)] at ho;rw [zev e hk,occF,occF,if_neg (a1 j),if_neg (a1 j)];exact zb2 l _ _ ho (by omega)
  · have h5:k≠5:=fun e=>hk (.inl e);have h6:k≠6:=fun e=>hk (.inr e);rw [zd3 e h5 h6];by_cases h3:k=3
    · subst h3;have hne:n≠e:=fun q=>by rw [occF,if_pos ⟨rfl,by simp [q]⟩] at ho;cases ho
      unfold z0s;by_cases hc:e+0≤n
      · rw [if_pos ⟨rfl,hc⟩];show occF (.mk 3 s (n+ -1) l) j=_;have a1:¬(((3:Int)==3)=true∧(n+ -1==j)=true):=fun q=>by have:=q.2;simp at this;omega
        have a2:¬(((3:Int)==3)=true∧(n==j)=true):=fun q=>by have:=q.2;simp at this;omega
        rw [occF,occF,if_neg a1,if_neg a2]
      · rw [if_neg (fun q=>hc q.2)]
    · have h3':¬(k==3)=true:=by simpa using h3
      unfold z0s;rw [if_neg (fun q=>h3' q.1)]
theorem zb2:∀ (l:List Tm) (e j:Int),occL l e=0→j<e→occL (z0b (z0s 0 (-1)) l e) j=occL l j
 | [],_,_,_,_=>rfl
 | t::l,e,j,ho,hj=>by
  simp only [occL] at ho;have h1:=zjf t e j (by omega) hj;have h2:=zb2 l e j (by omega) hj;rw [z0b,occL,occL,h2];exact congrArg (· +_) h1
end
theorem z5w {x:Tm}(hx:x.k≠6)(a:List Tm):z09 x a=if a=[] then x else .mk 6 [] 0 (x::a):=by
 cases a with
 | nil=>rfl
 | cons y r=>
  obtain ⟨k,s,n,l⟩:=x;rw [z8b,if_neg (fun e=>hx (show k=6 by simpa using e.1))];rfl
theorem zk2 {x:Tm}(hx:x.k≠6)(a:List Tm)(i:Int):occF (z09 x a) i=occF x i+occL a i:=by
 rw [z5w hx];split
 · rename_i h;subst h;simp [occL]
 · rw [occF,if_neg (by rintro ⟨h,_⟩;cases h)];show occL (x::a) (i+0)=_;rw [Int.add_zero];rfl
theorem zp4 (k n:Int)(s:List UInt8)(x:Tm)(a:List Tm)(z:Tm):z28 (.mk k s n (x::a++ [z]))=(k==6&&z.k==3&&z.n==0&&occF (z09 x a) 0==0):=by
 rw [z28,z5l,show Tm.l (.mk k s n (x::a++ [z]))=x::a++ [z] from rfl,zp2];rfl
theorem zok {b:Tm}(h:b.k≠6):z28 b=false:=by
 rw [z28,show (b.k==6)=false by simpa using h];rfl
theorem zsp {b:Tm}{e:Int}(hb:okB b=true)(ho:occF b e=0)(he:1≤e):z28 (shT 0 (-1) b e)=z28 b:=by
 by_cases h6:b.k=6
 · obtain ⟨k,s,n,l⟩:=b;have h6:k=6:=h6;subst h6;obtain ⟨x,a,z,rfl,hx6,hx,ha,hz⟩:=z5z hb rfl;rw [occF,if_neg (by rintro ⟨h,_⟩;cases h)] at ho;have ho:occL (x::a++ [z]) (e+0)=0:=ho;rw [Int.add_zero] at ho;have hox:=z9l ho x List.mem_cons_self;have hoz:=z9l ho z (by simp)
   have hoa:occL a e=0:=by
    have:∀ (p q:List Tm),occL (p++q) e=occL p e+occL q e:=fun p q=>by
     induction p with
     | nil=>simp [occL]
     | cons y p ih=>simp only [List.cons_append,occL,ih];omega
    rw [this] at ho;simp only [occL] at ho;omega
   rw [zev e (.inr rfl)];show z28 (.mk 6 s n (z0b (z0s 0 (-1)) (x::a++ [z]) (e+0)))=_;rw [Int.add_zero,zjy,z0b,z0b,z0b,zp4,zp4]
   have e1:occF (z09 (z0l (z0s 0 (-1)) x e) (z0b (z0s 0 (-1)) a e)) 0=occF (z09 x a) 0:=by
    rw [zk2 hx6,zk2 (by show (shT 0 (-1) x e).k≠6;rw [shT_k];exact hx6),zb2 a e 0 hoa (by omega)];exact congrArg (· +_) (zjf x e 0 hox (by omega))
   rw [e1];congr 1;have e2:(z0l (z0s 0 (-1)) z e).k=z.k:=shT_k 0 (-1) z e;rw [e2];by_cases hz3:z.k=3
   · obtain ⟨zk,zs,zn,zl⟩:=z;have hz3:zk=3:=hz3;subst hz3;have hne:zn≠e:=fun q=>by rw [occF,if_pos ⟨rfl,by simp [q]⟩] at hoz;cases hoz
     congr 1;show ((shT 0 (-1) (.mk 3 zs zn zl) e).n==0)=(zn==0);rw [zd3 e (by decide) (by decide)];unfold z0s;split
     · rename_i hc;have hc:e+0≤zn:=hc.2;show (zn+ -1==0)=(zn==0);rw [show (zn+ -1==0)=false by simp;omega,show (zn==0)=false by simp;omega]
     · rfl
   · rw [show (z.k==3)=false by simpa using hz3];simp
 · rw [zok h6,zok (by rw [shT_k];exact h6)]
mutual
def shB:Tm→Bool
 | .mk k _ _ l=>(if (k==5)=true then !z28 (hd l) else true)&&shL l
def shL:List Tm→Bool
 | []=>true
 | t::l=>shB t&&shL l
end
theorem zb4:∀ {l:List Tm} {t:Tm},shL l=true→t∈l→shB t=true
 | x::l,t,h,hm=>by
  simp only [shL,Bool.and_eq_true] at h;rcases List.mem_cons.1 hm with rfl | hm
  · exact h.1
  · exact zb4 h.2 hm
theorem zvk:∀ {l:List Tm},(∀ t∈l,shB t=true)→shL l=true
 | [],_=>rfl
 | t::l,h=>by simp only [shL,h t List.mem_cons_self,zvk (l:=l) fun u hu=>h u (List.mem_cons_of_mem _ hu),Bool.and_self]
theorem shB_l {t:Tm}(h:shB t=true):shL t.l=true:=by
 obtain ⟨k,s,n,l⟩:=t;rw [shB,Bool.and_eq_true] at h;exact h.2
theorem shB6 {s:List UInt8}{n:Int}{l:List Tm}:shB (.mk 6 s n l)=shL l:=by rw [shB];rfl
mutual
theorem zq1:∀ (t:Tm) (e:Int),okB t=true→shB t=true→occF t e=0→0≤e→shB (shT 0 (-1) t e)=true
 | .mk k s n l,e,hk,hs,ho,he=>by
  by_cases hin:k=5∨k=6
  · rw [zev e hin];have h3:¬(k==3)=true:=by rcases hin with rfl | rfl<;>decide
    rw [occF,if_neg (fun q=>h3 q.1)] at ho;have hb:(0:Int)≤if (k==5)=true then 1 else 0:=by split<;>omega
    have hl:=zkc l (e+if (k==5)=true then 1 else 0) (zc5 hk) (shB_l hs) ho (by omega)
    rw [shB,hl,Bool.and_true];split
    · rename_i h5;have h5:k=5:=by simpa using h5
      subst h5;obtain ⟨x,rfl,hx⟩:=okB5 hk rfl;rw [shB,Bool.and_eq_true] at hs;have hd:z28 x=false:=not_t hs.1;have hox:occF x (e+1)=0:=z9l ho x (List.mem_singleton.2 rfl);show (!z28 (shT 0 (-1) x (e+1)))=true;rw [zsp hx hox (by omega),hd];rfl
    · rfl
  · have h5:k≠5:=fun e=>hin (.inl e);have h6:k≠6:=fun e=>hin (.inr e);rw [zd3 e h5 h6];unfold z0s;split
    · show shB (.mk k s (n+ -1) l)=true;rw [shB] at hs ⊢;exact hs
    · exact hs
theorem zkc:∀ (l:List Tm) (e:Int),okL l=true→shL l=true→occL l e=0→0≤e→shL (z0b (z0s 0 (-1)) l e)=true
 | [],_,_,_,_,_=>rfl
 | t::l,e,hk,hs,ho,he=>by
  simp only [okL,shL,occL,Bool.and_eq_true] at hk hs ho;have h1:=zq1 t e hk.1 hs.1 (by omega) he;have h2:=zkc l e hk.2 hs.2 (by omega) he;rw [z0b,shL,h2,Bool.and_true];exact h1
end
theorem zlx {f:Tm}{a:List Tm}(hf:shB f=true)(ha:shL a=true):shB (z09 f a)=true:=by
 match a,ha with
 | [],_=>exact hf
 | y::r,ha=>
  obtain ⟨k,s,n,l⟩:=f;rw [z8b];split
  · rw [shB6]
    exact zvk fun t ht=>by
     rcases List.mem_append.1 ht with ht | ht
     · exact zb4 (shB_l hf) ht
     · exact zb4 ha ht
  · rw [shB6];simp only [shL,Bool.and_eq_true] at ha ⊢;exact ⟨hf,ha⟩
theorem rest_sh {b:Tm}(hb:okB b=true)(hk:b.k=6)(h:shB b=true):shB (z6i b)=true:=by
 obtain ⟨k,s,n,l⟩:=b;obtain ⟨x,a,z,rfl,_⟩:=z5z hb hk;rw [z5l];have hl:shL (x::a++ [z])=true:=shB_l h;exact zlx (zb4 hl List.mem_cons_self) (zvk fun u hu=>zb4 hl (List.mem_cons_of_mem _ (List.mem_append_left _ hu)))
mutual
theorem zox:∀ t:Tm,okB t=true→shB (z06 t)=true
 | .mk k s n l,ho=>by
  have hl:=zlc l (zc5 ho);by_cases h5:k=5
  · subst h5;obtain ⟨x,rfl,hx⟩:=okB5 ho rfl;have hsx:shB (z06 x)=true:=by simpa [z0h,shL] using hl
    have hox:=(z3t x hx).1;rw [z06,if_pos (show ((5:Int)==5)=true from rfl),show hd (z0h [x])=z06 x from rfl];split
    · rename_i hd;rw [z73,if_pos hd];exact zq1 _ 0 (zi hox (zt2 hd)).1 (rest_sh hox (zt2 hd) hsx) (drop0 hd) (Int.le_refl _)
    · rename_i hd;rw [shB];show ((!z28 (z06 x))&&shL [z06 x])=true;rw [show z28 (z06 x)=false by simpa using hd];simp [shL,hsx]
  · by_cases h6:k=6
    · subst h6;obtain ⟨x,y,r,rfl,hx6,_⟩:=okB6 ho rfl;rw [z06,if_neg (by decide),if_pos (show ((6:Int)==6)=true from rfl)];simp only [z0h,shL,Bool.and_eq_true] at hl;exact zlx hl.1 (by simp only [z0h,List.tail_cons,shL,Bool.and_eq_true];exact hl.2)
    · have:l=[]:=okB0 ho h5 h6;subst this;rw [z06,if_neg (by simpa using h5),if_neg (by simpa using h6),shB,if_neg (by simpa using h5)];rfl
theorem zlc:∀ l:List Tm,okL l=true→shL (z0h l)=true
 | [],_=>rfl
 | t::l,ho=>by
  simp only [okL,Bool.and_eq_true] at ho;rw [z0h,shL,zox t ho.1,zlc l ho.2];rfl
end
theorem norm6 {s:List UInt8}{n:Int}{x:Tm}{l:List Tm}(hx:x.k≠5)(h:z3p (x::l)=true):z3b (.mk 6 s n (x::l))=true:=by
 rw [z3b,h,Bool.and_true];show (!(6==6&&x.k==5))=true;rw [show (x.k==5)=false by simpa using hx];rfl
theorem zah {s:List UInt8}{n:Int}{x:Tm}{l:List Tm}(h:z3b (.mk 6 s n (x::l))=true):x.k≠5∧z3p (x::l)=true:=by
 rw [z3b,Bool.and_eq_true] at h;refine ⟨fun e=> ?_,h.2⟩;have h1:(!(6==6&&x.k==5))=true:=h.1;rw [e] at h1;cases h1
theorem zlg:∀ a b:List Tm,z3p (a++b)=(z3p a&&z3p b)
 | [],_=>rfl
 | x::a,b=>by rw [List.cons_append,z3p,z3p,zlg a b,Bool.and_assoc]
theorem zv1 {b:Tm}(hb:okB b=true)(hk:b.k=6)(h:z3b b=true):z3b (z6i b)=true:=by
 obtain ⟨k,s,n,l⟩:=b;have hk:k=6:=hk;subst hk;obtain ⟨x,a,z,rfl,hx6,_⟩:=z5z hb rfl;rw [z5l,z5w hx6];obtain ⟨h5,hl⟩:=zah (x:=x) (l:=a++ [z]) h;rw [z3p,zlg] at hl;simp only [Bool.and_eq_true] at hl;split
 · exact hl.1
 · exact norm6 h5 (by rw [z3p,hl.1,hl.2.1];rfl)
mutual
theorem zau:∀ t:Tm,okB t=true→z3b t=true→z3b (z06 t)=true
 | .mk k s n l,ho,hn=>by
  have hnl:z3p l=true:=by rw [z3b,Bool.and_eq_true] at hn;exact hn.2
  have hl:=ze2 l (zc5 ho) hnl;by_cases h5:k=5
  · subst h5;obtain ⟨x,rfl,hx⟩:=okB5 ho rfl;have hsx:z3b (z06 x)=true:=by simpa [z0h,z3p] using hl
    have hox:=(z3t x hx).1;rw [z06,if_pos (show ((5:Int)==5)=true from rfl),show hd (z0h [x])=z06 x from rfl];split
    · rename_i hd;rw [z73,if_pos hd,zgp];exact zv1 hox (zt2 hd) hsx
    · rw [z3b];simp [z3p,hsx,z3v,Tm.k]
  · by_cases h6:k=6
    · subst h6;obtain ⟨x,y,r,rfl,hx6,hxl⟩:=okB6 ho rfl;obtain ⟨hx5,_⟩:=zah hn
      have hx:z06 x=x:=by
       obtain ⟨xk,xs,xn,xl⟩:=x;have h5:xk≠5:=hx5;have h6:xk≠6:=hx6;rw [z06,if_neg (by simpa using h5),if_neg (by simpa using h6)]
      rw [z06,if_neg (by decide),if_pos (show ((6:Int)==6)=true from rfl)];rw [z0h,hx] at hl ⊢;show z3b (z09 x (z0h (y::r)))=true;rw [z5w hx6,if_neg (by simp [z0h])];exact norm6 hx5 hl
    · rw [z06,if_neg (by simpa using h5),if_neg (by simpa using h6)];exact hn
theorem ze2:∀ l:List Tm,okL l=true→z3p l=true→z3p (z0h l)=true
 | [],_,_=>rfl
 | t::l,ho,hn=>by
  simp only [okL,z3p,Bool.and_eq_true] at ho hn;rw [z0h,z3p,zau t ho.1 hn.1,ze2 l ho.2 hn.2];rfl
end
end Go.AM

set_option maxRecDepth 100000
open Go Go.Proofs
namespace Go.AM
mutual
def ubB (s:Sto):Tm→Bool
 | .mk k _ n l=> !(k==4&&(infOf s.V n).bd)&&ubL s l
def ubL (s:Sto):List Tm→Bool
 | []=>true
 | t::l=>ubB s t&&ubL s l
end
mutual
def vis:Tm→Nat
 | .mk k _ _ l=>1+visT (k==5) l
def visT:Bool→List Tm→Nat
 | _,[]=>0
 | b,t::l=>(if b=true then vis t else 0)+visT true l
end
theorem vis_pos (t:Tm):1≤vis t:=by cases t;rw [vis];omega
theorem visT_app (a b:List Tm):visT true (a++b)=visT true a+visT true b:=by
 induction a with
 | nil=>simp [visT]
 | cons x a ih=>rw [List.cons_append,visT,visT,ih];omega
theorem zmd (l:List Tm):visT false l=visT true (l.drop 1):=by
 cases l with
 | nil=>rfl
 | cons x l=>rw [visT];simp
theorem zy5 (s:Sto):∀ a b:List Tm,ubL s (a++b)=(ubL s a&&ubL s b)
 | [],_=>rfl
 | x::a,b=>by rw [List.cons_append,ubL,ubL,zy5 s a b,Bool.and_assoc]
mutual
theorem zoj (s:Sto)(fr by_:Int):∀ (t:Tm) (d:Int),ubB s (shT fr by_ t d)=ubB s t∧vis (shT fr by_ t d)=vis t
 | .mk k str n l,d=>by
  by_cases hk:k=5∨k=6
  · have:=zjp s fr by_ l (d+if (k==5)=true then 1 else 0)
    rw [zev d hk,ubB,ubB,vis,vis,this.1,this.2];exact ⟨rfl,rfl⟩
  · have h5:k≠5:=fun e=>hk (.inl e);have h6:k≠6:=fun e=>hk (.inr e);rw [zd3 d h5 h6];unfold z0s;split
    · rename_i q;have h3:(k==3)=true:=q.1;have h3:k=3:=by simpa using h3
      subst h3;exact ⟨rfl,rfl⟩
    · exact ⟨rfl,rfl⟩
theorem zjp (s:Sto)(fr by_:Int):∀ (l:List Tm) (d:Int),ubL s (z0b (z0s fr by_) l d)=ubL s l∧∀ b,visT b (z0b (z0s fr by_) l d)=visT b l
 | [],_=>⟨rfl,fun _=>rfl⟩
 | t::l,d=>by
  have h1:=zoj s fr by_ t d;have h2:=zjp s fr by_ l d;have e1:ubB s (z0l (z0s fr by_) t d)=ubB s t:=h1.1;have e2:vis (z0l (z0s fr by_) t d)=vis t:=h1.2;refine ⟨by rw [z0b,ubL,ubL,e1,h2.1],fun b=>by rw [z0b,visT,visT,e2,h2.2]⟩
end
theorem ub_rest (s:Sto){b:Tm}(hb:okB b=true)(hk:b.k=6)(hn:z3b b=true)(h:ubB s b=true):ubB s (z6i b)=true∧vis (z6i b)≤vis b:=by
 obtain ⟨k,str,n,l⟩:=b;have hk:k=6:=hk;subst hk;obtain ⟨x,a,z,rfl,hx6,hx,_⟩:=z5z hb rfl;obtain ⟨h5,_⟩:=zah (x:=x) (l:=a++ [z]) hn;rw [z5l,z5w hx6];rw [ubB,Bool.and_eq_true] at h;have hl:ubL s ((x::a)++ [z])=true:=h.2;rw [zy5,Bool.and_eq_true] at hl
 have e:vis (.mk 6 str n (x::a++ [z]))=1+(visT true a+vis z):=by
  rw [vis,show ((6:Int)==5)=false from rfl,zmd];show 1+visT true (a++ [z])=_;rw [visT_app];simp [visT]
 rw [e];have hz:=vis_pos z;split
 · have:=hl.1;rw [ubL,Bool.and_eq_true] at this;refine ⟨this.1, ?_⟩;obtain ⟨xk,xs,xn,xl⟩:=x;have h0:=okB0 hx h5 hx6;subst h0;rw [vis];simp only [visT];omega
 · refine ⟨by rw [ubB,hl.1];rfl, ?_⟩;rw [vis,show ((6:Int)==5)=false from rfl,zmd];show 1+visT true a≤_;omega
mutual
theorem zpg (s:Sto):∀ t:Tm,okB t=true→z3b t=true→ubB s t=true→ubB s (z06 t)=true∧vis (z06 t)≤vis t
 | .mk k str n l,ho,hn,hu=>by
  have hnl:z3p l=true:=by rw [z3b,Bool.and_eq_true] at hn;exact hn.2
  have hul:ubL s l=true:=by rw [ubB,Bool.and_eq_true] at hu;exact hu.2
  have hl:=zje s l (zc5 ho) hnl hul;by_cases h5:k=5
  · subst h5;obtain ⟨x,rfl,hx⟩:=okB5 ho rfl;have hsx:ubB s (z06 x)=true:=by simpa [z0h,ubL] using hl.1
    have hvx:vis (z06 x)≤vis x:=by have:=hl.2;simpa [z0h,visT] using this
    have hox:=(z3t x hx).1;have hnx:z3b (z06 x)=true:=zau x hx (by simpa [z3p] using hnl);have e:vis (.mk 5 str n [x])=1+vis x:=by rw [vis];simp [visT]
    rw [z06,if_pos (show ((5:Int)==5)=true from rfl),show hd (z0h [x])=z06 x from rfl,e];split
    · rename_i hd;have hr:=ub_rest s hox (zt2 hd) hnx hsx;have hs:=zoj s 0 (-1) (z6i (z06 x)) 0;rw [z73,if_pos hd,hs.1,hs.2];exact ⟨hr.1,by omega⟩
    · refine ⟨by rw [ubB,ubL,ubL,hsx];rfl, ?_⟩;rw [vis];simp only [visT,beq_self_eq_true,if_true];omega
  · by_cases h6:k=6
    · subst h6;obtain ⟨x,y,r,rfl,hx6,hxl⟩:=okB6 ho rfl;obtain ⟨hx5,_⟩:=zah hn
      have hx:z06 x=x:=by
       obtain ⟨xk,xs,xn,xl⟩:=x;have h5:xk≠5:=hx5;have h6:xk≠6:=hx6;rw [z06,if_neg (by simpa using h5),if_neg (by simpa using h6)]
      rw [z06,if_neg (by decide),if_pos (show ((6:Int)==6)=true from rfl)];rw [z0h,hx] at hl ⊢;show ubB s (z09 x (z0h (y::r)))=true∧vis (z09 x (z0h (y::r)))≤_;rw [z5w hx6,if_neg (by simp [z0h])];refine ⟨by rw [ubB,hl.1];rfl, ?_⟩;have h2:=hl.2;rw [visT,visT] at h2;rw [vis,vis,visT,visT];simp only [show ((6:Int)==5)=false from rfl,if_true,Bool.false_eq_true,if_false] at h2 ⊢;omega
    · rw [z06,if_neg (by simpa using h5),if_neg (by simpa using h6)];exact ⟨hu,Nat.le_refl _⟩
theorem zje (s:Sto):∀ l:List Tm,okL l=true→z3p l=true→ubL s l=true→ubL s (z0h l)=true∧visT true (z0h l)≤visT true l
 | [],_,_,_=>⟨rfl,Nat.le_refl _⟩
 | t::l,ho,hn,hu=>by
  simp only [okL,z3p,ubL,Bool.and_eq_true] at ho hn hu;have h1:=zpg s t ho.1 hn.1 hu.1;have h2:=zje s l ho.2 hn.2 hu.2;refine ⟨by rw [z0h,ubL,h1.1,h2.1];rfl, ?_⟩;rw [z0h,visT,visT];simp only [if_true];omega
end
theorem step0 {s:Sto}{k n:Int}{str:List UInt8}{l:List Tm}(h:(z0i s (.mk k str n l)).2=0):valB s (.mk k str n l)=false∧(k=6→valB s (hd l)=false∧(hd l).k≠5):=by
 rw [z0i] at h
 have h1:valB s (.mk k str n l)=false:=by
  cases q:valB s (.mk k str n l) with
  | false=>rfl
  | true=>rw [if_pos q] at h;cases h
 refine ⟨h1,fun h6=> ?_⟩;subst h6;rw [if_neg (by rw [h1];simp),if_neg (show¬Tm.k (.mk 6 str n l)≠6 from fun e=>e rfl)] at h;show valB s (hd (Tm.l (.mk 6 str n l)))=false∧(hd (Tm.l (.mk 6 str n l))).k≠5
 have h2:valB s (hd (Tm.l (.mk 6 str n l)))=false:=by
  cases q:valB s (hd (Tm.l (.mk 6 str n l))) with
  | false=>rfl
  | true=>rw [if_pos q] at h;cases h
 refine ⟨h2,fun h5=> ?_⟩;rw [if_neg (by rw [h2];simp),if_neg (fun e=>e h5)] at h;simp only at h;split at h<;>cases h
theorem zdx {fu:Int→Tm→Tm×Int×Int}(hfu:∀ g t,0≤g→0≤(fu g t).2.2∧(fu g t).2.2≤g):∀ (l:List Tm) (sk:Bool) (g:Int),0≤g→
  (∀ u∈(if sk=true then l.drop 1 else l),∀ g':Int,0≤g'→g'≤g→(fu g' u).2.1=0→(vis (fu g' u).1:Int)+(fu g' u).2.2≤g')→(z0w fu sk l g).2.1=0→(visT (!sk) (z0w fu sk l g).1:Int)+(z0w fu sk l g).2.2≤g
 | [],sk,g,_,_,_=>by simp [z0w,visT]
 | t::l,true,g,hg,h,h0=>by
  have:=zdx hfu l false g hg h h0;have e:visT (!true) (z0w fu true (t::l) g).1=visT true (z0w fu false l g).1:=by rw [z0w,visT];simp
  rw [e];exact this
 | t::l,false,g,hg,h,h0=>by
  have eK:z0w fu false (t::l) g=if (fu g t).2.1≠0 then ([],(fu g t).2) else ((fu g t).1::(z0w fu false l (fu g t).2.2).1,(z0w fu false l (fu g t).2.2).2):=rfl
  rw [eK] at h0 ⊢;by_cases q:(fu g t).2.1≠0
  · rw [if_pos q] at h0;exact absurd h0 q
  · rw [if_neg q] at h0 ⊢;have q:(fu g t).2.1=0:=by simpa using q
    have h1:=hfu g t hg;have h2:=h t List.mem_cons_self g hg (Int.le_refl _) q;have h3:=zdx hfu l false (fu g t).2.2 h1.1 (fun u hu g' a b c=>h u (List.mem_cons_of_mem _ hu) g' a (by omega) c) h0;have h3:(visT true (z0w fu false l (fu g t).2.2).1:Int)+(z0w fu false l (fu g t).2.2).2.2≤(fu g t).2.2:=h3;show (visT true ((fu g t).1::(z0w fu false l (fu g t).2.2).1):Int)+_≤g;rw [visT];simp only [if_true];omega
theorem zm {l:List Tm}:z3p l=true↔∀ u∈l,z3b u=true:=by
 induction l with
 | nil=>exact ⟨(fun _ u hu=>nomatch hu),fun _=>rfl⟩
 | cons x l ih=>
  rw [z3p,Bool.and_eq_true,ih];exact ⟨fun h u hu=>(List.mem_cons.1 hu).elim (fun e=>e▸h.1) (h.2 u),fun h=>⟨h x List.mem_cons_self,fun u hu=>h u (List.mem_cons_of_mem _ hu)⟩⟩
theorem zws {s:Sto}{l:List Tm}:ubL s l=true↔∀ u∈l,ubB s u=true:=by
 induction l with
 | nil=>exact ⟨(fun _ u hu=>nomatch hu),fun _=>rfl⟩
 | cons x l ih=>
  rw [ubL,Bool.and_eq_true,ih];exact ⟨fun h u hu=>(List.mem_cons.1 hu).elim (fun e=>e▸h.1) (h.2 u),fun h=>⟨h x List.mem_cons_self,fun u hu=>h u (List.mem_cons_of_mem _ hu)⟩⟩
theorem zop {s:Sto}(hs:OKS s):∀ (D:Nat) (f:Int) (t:Tm),f.toNat≤D→0≤f→validB t=true→Fit f.toNat t→(z0c s D f t).2.1=0→
  z3b (z0c s D f t).1=true∧ubB s (z0c s D f t).1=true∧(vis (z0c s D f t).1:Int)+(z0c s D f t).2.2≤f
 | 0,f,t,_,_,_,_,h=>by rw [z0c] at h;cases h
 | D+1,f,t,hD,h0,hv,hf,h=>by
  rw [z0c] at h ⊢;split
  · rename_i q;rw [if_pos q] at h;cases h
  rename_i q;rw [if_neg q] at h;have hfit:=hf.mono (show (f-1).toNat≤f.toNat by omega);have hq:=z6p hs hv hfit;have eh:z8f s (f-1) t=((runH s (f-1).toNat t).1,(runH s (f-1).toNat t).2.1,f-1-((runH s (f-1).toNat t).2.2:Int)):=rfl;rw [eh] at h ⊢;generalize runH s (f-1).toNat t=q at*;obtain ⟨x,er,u⟩:=q;simp only at hq h ⊢;obtain ⟨hu,hq⟩:=hq;rw [zfe] at h ⊢;split
  · rename_i q2;rw [if_pos q2] at h;exact absurd h q2
  rename_i q2;rw [if_neg q2] at h;have he:er=0:=by simpa using q2
  subst he;rcases hq with ⟨_,hvx,hfx,hst⟩ | ⟨h80,_⟩
  · obtain ⟨k,str,n,l⟩:=x;simp only [Tm.l,Tm.k,Tm.s,Tm.n] at h ⊢;obtain ⟨hs1,hs2⟩:=step0 hst;have hg0:0≤f-1-(u:Int):=by omega
    have hkid:∀ x∈l,k=5∨k=6:=fun x hx=>by
     by_cases h5:k=5∨k=6
     · exact h5
     · rw [not_or] at h5;have:=okB0 (z04 _ hvx) h5.1 h5.2;rw [this] at hx;cases hx
    have kid:∀ x∈l,∀ g':Int,0≤g'→g'≤f-1-(u:Int)→(z0c s D g' x).2.1=0→(z3b (z0c s D g' x).1=true∧ubB s (z0c s D g' x).1=true∧(vis (z0c s D g' x).1:Int)+(z0c s D g' x).2.2≤g')∧(z0c s D g' x).1.sz+42000*(z0c s D g' x).2.2.toNat≤x.sz+42000*g'.toNat:=fun x hx g' a b c=>
     ⟨zop hs D g' x (by omega) a (z08 hvx (hkid x hx) x hx) ((hfx.kid (show x∈Tm.l (.mk k str n l) from hx)).mono (by omega)) c,
      (z67 hs D g' x (by omega) a (z08 hvx (hkid x hx) x hx) ((hfx.kid (show x∈Tm.l (.mk k str n l) from hx)).mono (by omega)) c).2⟩
    unfold z93 at h ⊢;split
    · rename_i q3;rw [if_pos q3] at h;exact absurd h q3
    rename_i q3;have h9:(z0w (z0c s D) (k==6) l (f-1-(u:Int))).2.1=0:=by simpa using q3
    have sub:∀ x∈(if (k==6)=true then l.drop 1 else l),x∈l:=fun x hx=>by
     split at hx
     · exact List.mem_of_mem_drop hx
     · exact hx
    have hk:=z9n (A:=fun _ y=>z3b y=true∧ubB s y=true) (z3h s D) l (k==6) (f-1-(u:Int)) hg0 (fun x hx g' a b c=>⟨⟨(kid x (sub x hx) g' a b c).1.1,(kid x (sub x hx) g' a b c).1.2.1⟩,(kid x (sub x hx) g' a b c).2⟩) h9;have hvs:=zdx (z3h s D) l (k==6) (f-1-(u:Int)) hg0 (fun x hx g' a b c=>(kid x (sub x hx) g' a b c).1.2.2) h9;generalize z0w (z0c s D) (k==6) l (f-1-(u:Int))=r at*;obtain ⟨us,er2,g2⟩:=r;simp only at hk hvs ⊢;obtain ⟨k1,k2,k3,k4⟩:=hk;have k5:=ziu (Q:=fun y=>z3b y=true∧ubB s y=true) (fun _ _ h=>h) k4
    have evis:vis (.mk k str n us)=1+visT (!(k==6)) us:=by
     rw [vis];congr 1;by_cases h5:k=5
     · subst h5;rfl
     · by_cases h6:k=6
       · subst h6;rfl
       · have:=okB0 (z04 _ hvx) h5 h6;subst this;have:us=[]:=List.eq_nil_of_length_eq_zero k2;subst this;rfl
    have all:∀ y∈us,z3b y=true∧ubB s y=true:=fun y hy=>by
     by_cases h6:(k==6)=true
     · rcases mem_hd hy with e | e
       · rw [k3 h6] at e;have h6':k=6:=by simpa using h6
         obtain ⟨x,y',r,rfl,hx6,hxl⟩:=okB6 (z04 _ hvx) h6';obtain ⟨v1,v2⟩:=hs2 h6';have e:y=x:=e;subst e;have v1:valB s y=false:=v1;have v2:y.k≠5:=v2;have hoy:=z5a hxl (List.mem_cons_self (a:=y));obtain ⟨yk,ys,yn,yl⟩:=y;have h0:=okB0 hoy v2 hx6;subst h0;refine ⟨?_, ?_⟩
         · rw [z3b,z3v];have hx6:yk≠6:=hx6;simp [Tm.k,hx6,z3p]
         · rw [ubB];have v1:(yk==4&&(infOf s.V yn).bd)=false:=v1;rw [v1];rfl
       · exact k5 y (by rw [if_pos h6];exact e)
     · exact k5 y (by rw [if_neg h6];exact hy)
    refine ⟨?_, ?_,by show (vis (.mk k str n us):Int)+g2≤f;rw [evis];omega⟩
    · rw [z3b,zm.2 fun y hy=>(all y hy).1,Bool.and_true,Bool.not_eq_true',z3v];by_cases h6:k=6
      · subst h6;have:=(hs2 rfl).2;rw [←k3 rfl] at this;show ((6:Int)==6&&(hd us).k==5)=false;simpa using this
      · show (k==6&&(hd us).k==5)=false;simp [h6]
    · rw [ubB,zws.2 fun y hy=>(all y hy).2,Bool.and_true];have hs1:(k==4&&(infOf s.V n).bd)=false:=hs1;show (!(k==4&&(infOf s.V n).bd))=true;rw [hs1];rfl
  · cases h80
end Go.AM

set_option maxRecDepth 100000
open Go Go.Proofs
namespace Go.AM
def laD:La:= .con 0 0 []
def apps (f:La)(l:List La):La:=l.foldl .app f
def mkL (k n:Int)(s:List UInt8)(l:List La):La:=
 if k=5 then .lam (l.headD laD) else if k=6 then apps (l.headD laD) l.tail else if k=3 then .bv n.toNat else if k=4 then .var n else .con k n s
mutual
def toL:Tm→La
 | .mk k s n l=>mkL k n s (toLs l)
def toLs:List Tm→List La
 | []=> []
 | t::l=>toL t::toLs l
end
theorem z0z:∀ l:List Tm,toLs l=l.map toL
 | []=>rfl
 | t::l=>by rw [toLs,z0z l];rfl
theorem z38 (f:La)(a b:List La):apps f (a++b)=apps (apps f a) b:=by simp [apps]
theorem z3u (f a:La)(l:List La):apps f (a::l)=apps (.app f a) l:=rfl
theorem ztr (l:List Tm):(toLs l).headD laD=toL (hd l):=by
 cases l with
 | nil=>rfl
 | cons t l=>rfl
theorem zjs (l:List Tm):(toLs l).tail=toLs l.tail:=by cases l<;>rfl
theorem z2y {s:List UInt8}{n:Int}{l:List Tm}:toL (.mk 6 s n l)=apps (toL (hd l)) (toLs l.tail):=by
 rw [toL,mkL,if_neg (by decide),if_pos rfl,ztr,zjs]
theorem z1j {s:List UInt8}{n:Int}{l:List Tm}:toL (.mk 5 s n l)= .lam (toL (hd l)):=by
 rw [toL,mkL,if_pos rfl,ztr]
theorem z1h {s:List UInt8}{n:Int}{l:List Tm}:toL (.mk 3 s n l)= .bv n.toNat:=by
 rw [toL,mkL,if_neg (by decide),if_neg (by decide),if_pos rfl]
theorem z4q {s:List UInt8}{n:Int}{l:List Tm}:toL (.mk 4 s n l)= .var n:=by
 rw [toL,mkL,if_neg (by decide),if_neg (by decide),if_neg (by decide),if_pos rfl]
theorem z69 {k n:Int}{s:List UInt8}{l:List Tm}(h5:k≠5)(h6:k≠6)(h3:k≠3):toL (.mk k s n l)= .var n∨toL (.mk k s n l)= .con k n s:=by
 rw [toL,mkL,if_neg h5,if_neg h6,if_neg h3];split
 · exact .inl rfl
 · exact .inr rfl
theorem z4u (a b:List Tm):toLs (a++b)=toLs a++toLs b:=by simp [z0z]
theorem z1m (f:Tm)(l:List Tm):toL (z09 f l)=apps (toL f) (toLs l):=by
 cases l with
 | nil=>rfl
 | cons x a=>
  by_cases h:(f.k==6)=true∧f.l ≠ []
  · rw [show z09 f (x::a)= .mk 6 [] 0 (f.l++(x::a)) from if_pos h,z2y];obtain ⟨k,s,n,l⟩:=f;have h6:k=6:=beq_iff_eq.1 h.1;subst h6
    obtain ⟨y,b,rfl⟩:∃ y b,l=y::b:=by
     cases l with
     | nil=>exact absurd rfl h.2
     | cons y b=>exact ⟨y,b,rfl⟩
    rw [z2y,←z38,←z4u];rfl
  · rw [show z09 f (x::a)= .mk 6 [] 0 (f::(x::a)) from if_neg h,z2y];rfl
theorem zie {t:Tm}{out:List Tm}(hk:t.k=5∨t.k=6):toL (z33 t out)=mkL t.k t.n t.s (toLs out):=by
 unfold z33;split
 · rename_i q;have h6:t.k=6:=by simpa using q.1
   rw [z1m,mkL,h6,if_neg (by decide),if_pos rfl,ztr,zjs];rfl
 · rw [toL]
def La.sh:La→Nat→Nat→La
 | .con k n s,_,_=> .con k n s
 | .var x,_,_=> .var x
 | .bv n,j,k=>if n<k then .bv n else .bv (n+j)
 | .lam b,j,k=> .lam (b.sh j (k+1))
 | .app f a,j,k=> .app (f.sh j k) (a.sh j k)
theorem La.sh_zero:∀ (t:La) (k:Nat),t.sh 0 k=t
 | .con _ _ _,_=>rfl
 | .var _,_=>rfl
 | .bv n,k=>by rw [La.sh];split<;>rfl
 | .lam b,k=>by rw [La.sh,La.sh_zero b]
 | .app f a,k=>by rw [La.sh,La.sh_zero f,La.sh_zero a]
theorem La.sh_succ:∀ (t:La) (j k e:Nat),k≤e→e≤k+j→(t.sh j k).lift e=t.sh (j+1) k
 | .con _ _ _,_,_,_,_,_=>rfl
 | .var _,_,_,_,_,_=>rfl
 | .bv n,j,k,e,h1,h2=>by
  rw [La.sh,La.sh];split
  · rw [La.lift,if_pos (by omega)]
  · rw [La.lift,if_neg (by omega)];rfl
 | .lam b,j,k,e,h1,h2=>by rw [La.sh,La.lift,La.sh,La.sh_succ b j (k+1) (e+1) (by omega) (by omega)]
 | .app f a,j,k,e,h1,h2=>by rw [La.sh,La.lift,La.sh,La.sh_succ f j k e h1 h2,La.sh_succ a j k e h1 h2]
theorem La.sh_one (t:La)(k:Nat):t.sh 1 k=t.lift k:=by
 have:=La.sh_succ t 0 k k (Nat.le_refl _) (by omega);rw [La.sh_zero] at this;exact this.symm
theorem ztm (j k:Nat):∀ (l:List La) (f:La),(apps f l).sh j k=apps (f.sh j k) (l.map fun a=>a.sh j k)
 | [],f=>rfl
 | a::l,f=>by rw [z3u,ztm j k l,List.map_cons,z3u];rfl
theorem zqz (u:La)(k:Nat):∀ (l:List La) (f:La),(apps f l).sub u k=apps (f.sub u k) (l.map fun a=>a.sub u k)
 | [],f=>rfl
 | a::l,f=>by rw [z3u,zqz u k l,List.map_cons,z3u];rfl
theorem z35 (k:Nat):∀ (l:List La) (f:La),(apps f l).lift k=apps (f.lift k) (l.map fun a=>a.lift k)
 | [],f=>rfl
 | a::l,f=>by rw [z3u,z35 k l,List.map_cons,z3u];rfl
theorem zmj (g:La→La)(g1:La→La)(hlam:∀ b,g (.lam b)= .lam (g1 b))(happ:∀ f l,g (apps f l)=apps (g f) (l.map g))(hd0:g laD=laD)(hd1:g1 laD=laD){k n:Int}{s:List UInt8}(hk:k=5∨k=6)(l:List La):
  g (mkL k n s l)=mkL k n s (l.map (if k=5 then g1 else g)):=by
 rcases hk with rfl | rfl
 · rw [mkL,if_pos rfl,hlam,mkL,if_pos rfl,if_pos rfl];cases l with
   | nil=>show La.lam (g1 laD)= .lam laD;rw [hd1]
   | cons a l=>rfl
 · rw [mkL,if_neg (by decide),if_pos rfl,happ,mkL,if_neg (by decide),if_pos rfl,if_neg (by decide)];cases l with
   | nil=>show apps (g laD) []=apps laD [];rw [hd0]
   | cons a l=>rfl
theorem zan {k n:Int}{s:List UInt8}{l:List Tm}(hv:validB (.mk k s n l)=true)(h3:k=3):0≤n:=by
 subst h3;rw [validB,if_neg (by decide),if_neg (by decide),if_neg (by decide),if_pos (by decide)] at hv;simp only [Bool.and_eq_true,decide_eq_true_eq] at hv;exact hv.1.1.1.1
mutual
theorem zuw (j:Nat):∀ (t:Tm) (d:Nat),validB t=true→toL (shT 0 (j:Int) t (d:Int))=(toL t).sh j d
 | .mk k s n l,d,hv=>by
  unfold shT;rw [z0l];split
  · rename_i hk;have hk:k=5∨k=6:=by simpa using hk
    rw [zie (t:= .mk k s n l) hk];show mkL k n s _=_;have e:=zmj (fun t=>t.sh j d) (fun t=>t.sh j (d+1)) (fun _=>rfl) (fun f l=>ztm j d l f) rfl rfl (n:=n) (s:=s) hk (toLs l);rw [toL,e];congr 1;by_cases h5:k=5
    · rw [if_pos h5,if_pos (by simpa using h5)];exact znz j l (d+1) (z08 hv hk)
    · rw [if_neg h5,if_neg (by simpa using h5),Int.add_zero];exact znz j l d (z08 hv hk)
  · rename_i hk;have hk:¬(k=5∨k=6):=by simpa using hk
    rw [not_or] at hk;have hl:l=[]:=okB0 (z04 _ hv) hk.1 hk.2;subst hl;unfold z0s;by_cases h3:k=3
    · have hn:=zan hv h3;subst h3;rw [z1h,La.sh];by_cases q:(d:Int)+0≤n
      · rw [if_pos (show ((Tm.mk 3 s n []).k==3)=true∧(d:Int)+0≤(Tm.mk 3 s n []).n from ⟨rfl,q⟩),if_neg (show¬n.toNat<d by omega)];show toL (.mk 3 s (n+(j:Int)) [])=_;rw [z1h];congr 1;omega
      · rw [if_neg (show¬(((Tm.mk 3 s n []).k==3)=true∧(d:Int)+0≤(Tm.mk 3 s n []).n) from fun e=>q e.2),if_pos (show n.toNat<d by omega),z1h]
    · rw [if_neg (show¬(((Tm.mk k s n []).k==3)=true∧(d:Int)+0≤(Tm.mk k s n []).n) from fun e=>h3 (beq_iff_eq.1 e.1))];rcases z69 (k:=k) (n:=n) (s:=s) (l:=[]) hk.1 hk.2 h3 with e | e<;>rw [e]<;>rfl
theorem znz (j:Nat):∀ (l:List Tm) (d:Nat),(∀ u∈l,validB u=true)→toLs (z0b (z0s 0 (j:Int)) l (d:Int))=(toLs l).map fun t=>t.sh j d
 | [],_,_=>rfl
 | t::l,d,h=>by
  rw [z0b,toLs,toLs,List.map_cons,znz j l d fun u hu=>h u (List.mem_cons_of_mem _ hu)];congr 1;exact zuw j t d (h t List.mem_cons_self)
end
mutual
theorem toL_su {c:Tm}(hc:validB c=true):∀ (t:Tm) (d:Nat),validB t=true→toL (suT 0 c t (d:Int))=(toL t).sub ((toL c).sh d 0) d
 | .mk k s n l,d,hv=>by
  unfold suT;rw [z0l];split
  · rename_i hk;have hk:k=5∨k=6:=by simpa using hk
    rw [zie (t:= .mk k s n l) hk];show mkL k n s _=_
    have e:=zmj (fun t=>t.sub ((toL c).sh d 0) d) (fun t=>t.sub ((toL c).sh (d+1) 0) (d+1)) (fun b=>by
     show La.lam (b.sub (((toL c).sh d 0).lift 0) (d+1))=_;rw [La.sh_succ _ d 0 0 (Nat.le_refl _) (by omega)]) (fun f l=>zqz _ d l f) rfl rfl (n:=n) (s:=s) hk (toLs l)
    rw [toL,e];congr 1;by_cases h5:k=5
    · rw [if_pos h5,if_pos (by simpa using h5)];exact znw hc l (d+1) (z08 hv hk)
    · rw [if_neg h5,if_neg (by simpa using h5),Int.add_zero];exact znw hc l d (z08 hv hk)
  · rename_i hk;have hk:¬(k=5∨k=6):=by simpa using hk
    rw [not_or] at hk;have hl:l=[]:=okB0 (z04 _ hv) hk.1 hk.2;subst hl;unfold z2x;by_cases h3:k=3
    · have hn:=zan hv h3;subst h3;rw [z1h,La.sub,if_pos (show ((Tm.mk 3 s n []).k==3)=true from rfl)];by_cases q:n<(d:Int)+0
      · rw [if_pos (show (Tm.mk 3 s n []).n<(d:Int)+0 from q),if_pos (show n.toNat<d by omega),z1h]
      · rw [if_neg (show¬(Tm.mk 3 s n []).n<(d:Int)+0 from q),if_neg (show¬n.toNat<d by omega)];by_cases q2:n=(d:Int)+0
        · rw [if_pos (show ((Tm.mk 3 s n []).n==(d:Int)+0)=true from beq_iff_eq.2 q2),if_pos (show n.toNat=d by omega)];exact zuw d c 0 hc
        · rw [if_neg (show¬((Tm.mk 3 s n []).n==(d:Int)+0)=true from fun e=>q2 (beq_iff_eq.1 e)),if_neg (show¬n.toNat=d by omega)];show toL (.mk 3 s (n-1) [])=_;rw [z1h];congr 1;omega
    · rw [if_neg (show¬((Tm.mk k s n []).k==3)=true from fun e=>h3 (beq_iff_eq.1 e))];rcases z69 (k:=k) (n:=n) (s:=s) (l:=[]) hk.1 hk.2 h3 with e | e<;>rw [e]<;>rfl
theorem znw {c:Tm}(hc:validB c=true):∀ (l:List Tm) (d:Nat),(∀ u∈l,validB u=true)→toLs (z0b (z2x 0 c) l (d:Int))=(toLs l).map fun t=>t.sub ((toL c).sh d 0) d
 | [],_,_=>rfl
 | t::l,d,h=>by
  rw [z0b,toLs,toLs,List.map_cons,znw hc l d fun u hu=>h u (List.mem_cons_of_mem _ hu)];congr 1;exact toL_su hc t d (h t List.mem_cons_self)
end
def VS (s:Sto)(x:Int):Option La:=if (infOf s.V x).bd=true then some (toL (infOf s.V x).v) else none
theorem Sts.apps {V:Int→Option La}:∀ (l:List La) {f g:La},Sts V f g→Sts V (apps f l) (apps g l)
 | [],_,_,h=>h
 | a::l,_,_,h=>Sts.apps l (h.appL a)
theorem zvw {s:Sto}{t:Tm}(h:valB s t=true):Sts (VS s) (toL t) (toL (valS s t)):=by
 simp only [valB,Bool.and_eq_true,beq_iff_eq] at h;obtain ⟨k,str,n,l⟩:=t;have h4:k=4:=h.1;subst h4;rw [z4q];refine .del ?_;have h2:(infOf s.V n).bd=true:=h.2;unfold VS;rw [if_pos h2];rfl
theorem step_sts {s:Sto}{t:Tm}(hv:validB t=true)(h:(z0i s t).2=1):Sts (VS s) (toL t) (toL (z0i s t).1):=by
 have ok:=z04 _ hv;unfold z0i at h ⊢;split
 · rename_i q;exact zvw q
 rename_i q;rw [if_neg q] at h;split
 · exact .refl _
 rename_i q6;rw [if_neg q6] at h;have q6:t.k=6:=by simpa using q6
 obtain ⟨k,str,n,l⟩:=t;have q6:k=6:=q6;obtain ⟨x,y,r,rfl,_,_⟩:=okB6 ok q6;subst q6;have vl:=z08 hv (.inr rfl);rw [z2y];show Sts _ (apps (toL x) (toLs (y::r))) _;have eh:hd (Tm.l (.mk 6 str n (x::y::r)))=x:=rfl;have e1:(Tm.l (.mk 6 str n (x::y::r))).drop 1=y::r:=rfl;have e2:(Tm.l (.mk 6 str n (x::y::r))).drop 2=r:=rfl;rw [eh,e1,e2] at h ⊢;split
 · rename_i q2;rw [z1m];exact Sts.apps _ (zvw q2)
 rename_i q2;rw [if_neg q2] at h;split
 · rename_i q3;rw [if_pos q3] at h;cases h
 rename_i q3;rw [if_neg q3] at h
 have room:z4z (hd x.l) y=true:=by
  by_cases e:z4z (hd x.l) y=true
  · exact e
  · exfalso;have h:(if z4z (hd x.l) y=true then (1:Int) else 2)=1:=h
    rw [if_neg e] at h;cases h
 have vx:=vl x List.mem_cons_self;have vy:=vl y (List.mem_cons_of_mem _ List.mem_cons_self);obtain ⟨xk,xs,xn,xl⟩:=x;have q3:xk=5:=by have q3:¬xk≠5:=q3;omega
 subst q3;obtain ⟨b,rfl,_⟩:=okB5 (z04 _ vx) rfl;have vb:=z08 vx (.inl rfl) b List.mem_cons_self;have eb:hd (Tm.l (.mk 5 xs xn [b]))=b:=rfl;have ey:hd (y::r)=y:=rfl;rw [eb,ey] at*;have room:z4z b y=true:=room;show Sts _ _ (toL (z09 (conF b y) r));rw [z1j,z1m,conF,if_pos room];show Sts _ (apps (.app (.lam (toL b)) (toL y)) (toLs r)) _;have:=toL_su vy b 0 vb;rw [La.sh_zero] at this;rw [show ((0:Nat):Int)=0 from rfl] at this;rw [this];exact Sts.apps _ (Sts.beta _ _)
theorem zik {s:Sto}(hs:OKS s):∀ {F:Nat} {t:Tm},validB t=true→Fit F t→(runH s F t).2.1=0→Sts (VS s) (toL t) (toL (runH s F t).1)
 | 0,t,hv,hf,h=>by
  rw [runH] at h ⊢;split
  · exact .refl _
  · rename_i q;rw [if_neg q] at h;cases h
 | F+1,t,hv,hf,h=>by
  rw [runH] at h ⊢;split
  · exact .refl _
  · rename_i q;rw [if_neg q] at h;split
    · rename_i q2;rw [if_pos q2] at h;cases h
    · rename_i q2;rw [if_neg q2] at h
      have h1:(z0i s t).2=1:=by rcases zdy s t with r | r | r; · exact absurd r q
                                · exact r
                                · exact absurd r q2
      obtain ⟨v,f⟩:=z7t hs hv hf h1;exact (step_sts hv h1).trans (zik hs v f h)
theorem zjh {s:Sto}(hs:OKS s){f:Int}{t:Tm}(hf:validB t=true→Fit f.toNat t)(he:(z0t s f t).2.2=0):Sts (VS s) (toL t) (toL (z0t s f t).1):=by
 unfold z0t at he ⊢;split at he
 · rename_i hv;rw [if_pos hv];split at he
   · rename_i h1;rw [if_pos h1];exact zik hs hv (hf hv) h1
   · rename_i h1;exact absurd he h1
 · cases he
theorem zcc {V:Int→Option La}:∀ (a b:List La) (f g:La),Sts V f g→All2 (Sts V) a b→Sts V (apps f a) (apps g b)
 | [],[],_,_,h,_=>h
 | x::a,y::b,f,g,h,h2=>zcc a b (.app f x) (.app g y) (h.app h2.1) h2.2
 | [],_::_,_,_,_,h2=>h2.elim
 | _::_,[],_,_,_,h2=>h2.elim
theorem za1 {V:Int→Option La}:∀ {a b:List Tm},All2 (fun x y=>Sts V (toL x) (toL y)) a b→All2 (Sts V) (toLs a) (toLs b)
 | [],[],_=>trivial
 | x::a,y::b,h=>⟨h.1,za1 h.2⟩
 | [],_::_,h=>h.elim
 | _::_,[],h=>h.elim
theorem zja {s:Sto}(hs:OKS s):∀ (D:Nat) (f:Int) (t:Tm),f.toNat≤D→0≤f→validB t=true→Fit f.toNat t→(z0c s D f t).2.1=0→Sts (VS s) (toL t) (toL (z0c s D f t).1)
 | 0,f,t,_,_,_,_,h=>by rw [z0c] at h;cases h
 | D+1,f,t,hD,h0,hv,hf,h=>by
  rw [z0c] at h ⊢;split
  · rename_i q;rw [if_pos q] at h;cases h
  rename_i q;rw [if_neg q] at h;have hfit:=hf.mono (show (f-1).toNat≤f.toNat by omega);have hq:=z6p hs hv hfit;have hst:=zik hs hv hfit;have eh:z8f s (f-1) t=((runH s (f-1).toNat t).1,(runH s (f-1).toNat t).2.1,f-1-((runH s (f-1).toNat t).2.2:Int)):=rfl;rw [eh] at h ⊢;generalize runH s (f-1).toNat t=q at*;obtain ⟨x,er,u⟩:=q;simp only at hq hst h ⊢;obtain ⟨hu,hq⟩:=hq;rw [zfe] at h ⊢;split
  · rename_i q2;rw [if_pos q2] at h;exact absurd h q2
  rename_i q2;rw [if_neg q2] at h;have he:er=0:=by simpa using q2
  subst he;rcases hq with ⟨_,hvx,hfx,_⟩ | ⟨h80,_⟩
  · refine (hst rfl).trans ?_;obtain ⟨k,str,n,l⟩:=x;simp only [Tm.l,Tm.k,Tm.s,Tm.n] at h ⊢;have hg0:0≤f-1-(u:Int):=by omega
    have hkid:∀ x∈l,k=5∨k=6:=fun x hx=>by
     by_cases h5:k=5∨k=6
     · exact h5
     · rw [not_or] at h5;have:=okB0 (z04 _ hvx) h5.1 h5.2;rw [this] at hx;cases hx
    have kid:∀ x∈l,∀ g':Int,0≤g'→g'≤f-1-(u:Int)→(z0c s D g' x).2.1=0→Sts (VS s) (toL x) (toL (z0c s D g' x).1)∧(z0c s D g' x).1.sz+42000*(z0c s D g' x).2.2.toNat≤x.sz+42000*g'.toNat:=fun x hx g' a b c=>by
     have hvk:=z08 hvx (hkid x hx) x hx;have hfk:=(hfx.kid (show x∈Tm.l (.mk k str n l) from hx)).mono (show g'.toNat≤_ by omega);exact ⟨zja hs D g' x (by omega) a hvk hfk c,(z67 hs D g' x (by omega) a hvk hfk c).2⟩
    unfold z93 at h ⊢;split
    · rename_i q3;rw [if_pos q3] at h;exact absurd h q3
    rename_i q3;have h9:(z0w (z0c s D) (k==6) l (f-1-(u:Int))).2.1=0:=by simpa using q3
    have sub:∀ x∈(if (k==6)=true then l.drop 1 else l),x∈l:=fun x hx=>by
     split at hx
     · exact List.mem_of_mem_drop hx
     · exact hx
    have hk:=z9n (A:=fun x y=>Sts (VS s) (toL x) (toL y)) (z3h s D) l (k==6) (f-1-(u:Int)) hg0 (fun x hx g' a b c=>kid x (sub x hx) g' a b c) h9;generalize z0w (z0c s D) (k==6) l (f-1-(u:Int))=r at*;obtain ⟨us,er2,g2⟩:=r;simp only at hk ⊢;obtain ⟨_,k2,k3,k4⟩:=hk;by_cases h6:k=6
    · subst h6;rw [if_pos (by decide),if_pos (by decide)] at k4;show Sts _ _ (toL (.mk 6 str n us));rw [z2y,z2y,k3 (by decide),←List.drop_one,←List.drop_one];exact zcc _ _ _ _ (.refl _) (za1 k4)
    · have h6':(k==6)=false:=by simpa using h6
      rw [h6'] at k4;simp only [Bool.false_eq_true,if_false] at k4;by_cases h5:k=5
      · subst h5;obtain ⟨b,rfl,_⟩:=okB5 (z04 _ hvx) rfl
        match us,k4 with
        | [c],k4=>
         show Sts _ _ (toL (.mk 5 str n [c]));rw [z1j,z1j];exact k4.1.lam
      · have:l=[]:=okB0 (z04 _ hvx) h5 h6;subst this
        match us,k4 with
        | [],_=>exact .refl _
  · cases h80
end Go.AM

set_option maxRecDepth 100000
open Go Go.Proofs
namespace Go.AM
theorem c_iodd (t:Tm)(hs:t.sz≤B):AC Tryz.prog 117 [aT t] [] (cb (!validB t)) []:=by
 have hv:=z3f t hs;obtain ⟨k,s,n,l⟩:=t;refine AC.vc hP sh lv117 (Nat.le_refl _) (by simp) (by simp) (Eq.mpr (v117 k s n (FTs l) ..) ?_);exact ⟨_,hv,z07 rfl⟩
theorem zek (x:Int):AC Tryz.prog 121 [ci x] [] (aT (.mk 4 [] x [])) []:=by
 refine AC.vc hP sh lv121 (Nat.le_refl _) (by simp) (by simp) (Eq.mpr (v121 ..) ?_);exact ⟨leT (l:=[]) z0m,rfl⟩
theorem zag (n:Int):AC Tryz.prog 107 [ci n] [] (aT (.mk 3 [] n [])) []:=by
 refine AC.vc hP sh lv107 (Nat.le_refl _) (by simp) (by simp) (Eq.mpr (v107 ..) ?_);exact ⟨leT (l:=[]) z0m,rfl⟩
def z5m (s:Sto)(lams:Nat)(on:List Tm):Tm:=z4m lams (z09 (.mk 4 [] (s.V.length:Int) []) on)
def z3y (s:Sto)(x lv:Int)(lams:Nat)(on:List Tm):Sto:=bindS (freshS s lv) x (z5m s lams on)
theorem c_hang (s:Sto)(x lv:Int)(lams:Nat)(on:List Tm)(hl:lams≤1000000)(ho:on.length≤1000000)(hV:s.V.length≤1073741824)(hT:s.T.length≤1073741824)(hz:(z5m s lams on).sz≤B)(hb:bd M61 (z5m s lams on)):
  AC Tryz.prog 108 [aS 0,ci x,ci lv,ci (lams:Int),aL on] (oS s) (aT (.mk 4 [] (s.V.length:Int) [])) (oS' (z3y s x lv lams on)):=by
 have h1:=ziy s lv (by omega);have h2:=zek (s.V.length:Int);have h3:=z46 (.mk 4 [] (s.V.length:Int) []) on (by simp only [Tm.l,List.length_nil];omega);have h4:=zgh lams (z09 (.mk 4 [] (s.V.length:Int) []) on) (by omega);have h5:=zn5 (freshS s lv) x (z5m s lams on) hT hz hb;refine AC.vc hP sh lv108 (by simp) (by simp [isLive]) (by simp [isLive]) (Eq.mpr (v108 ..) ?_);exact ⟨(_,freshS s lv),h1,_,h2,_,h3,_,h4,(_,z3y s x lv lams on),h5, .refl _,rfl⟩
end Go.AM

set_option maxRecDepth 100000
open Go Go.Proofs
namespace Go.AM
def onK (n:Int):List Bool→Int→List Tm
 | [],_=> []
 | b::r,i=>if b=true then .mk 3 [] (n-1-i) []::onK n r (i+1) else onK n r (i+1)
def BR (l:List Bool):List (List FV):=l.map fun b=> [.bool b]
theorem z2b (l:List Bool):(BR l).length=l.length:=by simp [BR]
abbrev hsP16 (s:Sto)(e:Inf)(rest:List (Nat×AObj)):List (Nat×AObj):=(0,sto2 3 4 s)::(1, .gone)::(2, .gone)::(3, .arz 6 (SR s.V))::(4, .arz 1 (IR s.T))::(5, .arr 6 [[.a (.fz (.int .i64 e.lv)), .a (.fz (.bool e.bd)), .a (.fz (.int .i64 e.v.k)), .a (.fz (.str e.v.s)), .a (.fz (.int .i64 e.v.n)), .a (.fz (.sl false 4 (FTs e.v.l)))]])::rest
abbrev stPb (s:Sto)(x:Int)(e:Inf)(keep:List Bool)(i:Nat)(o:List Tm):St:=
 ⟨[(0,aS 0),(1,ci x),(2, .c (.a (.fz (.sl false 1 (BR keep))))),(7, .c (.a (.ep 5 6 0 0))),(9, .c (.a (.osl 6 4 0 o.length))),(24, .c (.a (.fz (.sl false 1 (BR keep))))),(25,ci (keep.length:Int)),(26,ci (i:Int))],hsP16 s e [(6, .arz 4 (FTs o))],7⟩
theorem zhc (s:Sto)(x:Int)(e:Inf)(keep:List Bool)(hk:keep.length≤1000)(res:List Tm)(hh:AC Tryz.prog 108 [aS 0,ci x,ci e.lv,ci (keep.length:Int),aL res] (oS s) (aT (.mk 4 [] (s.V.length:Int) [])) (oS' (z3y s x e.lv keep.length res))):
  ∀ (j i:Nat) (o:List Tm),i+j=keep.length→o.length≤i→o++onK (keep.length:Int) (keep.drop i) (i:Int)=res→RPt Tryz.prog 94 3 (ci 0) (oS' (z3y s x e.lv keep.length res)) 1 (stPb s x e keep i o)
 | 0,i,o,hi,ho,hr=>by
  have hlen:=z2b keep;refine RPt.vc hP sh lv94 (Eq.mpr (v94_1b ..) ?_);rw [List.drop_eq_nil_of_le (by omega),onK,List.append_nil] at hr;subst hr;refine z00 (fun h=>absurd (of_decide_eq_true h) (by omega)) (fun _=>⟨rfl,⟨rfl,by rw [z01];omega⟩,((.mk 4 [] (s.V.length:Int) []:Tm),z3y s x e.lv keep.length o), ?_, .refl _,rfl⟩);rw [List.drop_zero,List.take_of_length_le (by rw [z01];exact Nat.le_refl _),hlen];exact hh
 | j+1,i,o,hi,ho,hr=>by
  have hlen:=z2b keep;have hi2:i<keep.length:=by omega
  have eg:List.getD (BR keep) (Int.toNat (i:Int)) []=[.bool keep[i]]:=by rw [Int.toNat_natCast];simp [BR,List.getD,hi2]
  have ed:keep.drop i=keep[i]::keep.drop (i+1):=List.drop_eq_getElem_cons hi2;rw [ed,onK] at hr;refine RPt.vc hP sh lv94 (Eq.mpr (v94_1b ..) ?_);rw [eg,w64 (x:=(i:Int)+1) (by omega) (by omega),hlen,w64 (x:=(keep.length:Int)-1) (by omega) (by omega),w64 (x:=(keep.length:Int)-1-(i:Int)) (by omega) (by omega)];refine z00 (fun _=>⟨⟨rfl,by omega,by omega,rfl⟩,z00 (fun hb=> ?_) (fun hb=> ?_)⟩) (fun h=>absurd (of_decide_eq_false h) (by omega))
  · have hb:keep[i]=true:=hb;rw [if_pos hb] at hr;refine ⟨rfl,_,zag _,Nat.le_refl _,⟨by rw [z01];omega,by simp only [z0u];omega⟩, ?_⟩;have nx:=zhc s x e keep hk res hh j (i+1) (o++ [.mk 3 [] ((keep.length:Int)-1-(i:Int)) []]) (by omega) (by simp;omega) (by rw [List.append_assoc];exact hr);rw [z71,show List.take o.length (FTs o)++ [FT (.mk 3 [] ((keep.length:Int)-1-(i:Int)) [])]=FTs (o++ [.mk 3 [] ((keep.length:Int)-1-(i:Int)) []]) by rw [List.take_of_length_le (by rw [z01];exact Nat.le_refl _),z2d];rfl];simp only [stPb,List.length_append,List.length_singleton] at nx;exact nx
  · have hb:keep[i]=false:=hb;rw [if_neg (by rw [hb];simp)] at hr;exact zhc s x e keep hk res hh j (i+1) o (by omega) (by omega) hr
end Go.AM

set_option maxRecDepth 100000
open Go Go.Proofs
namespace Go.AM
abbrev stPa (s:Sto)(x:Int)(e:Inf)(keep:List Bool)(i:Nat):St:=
 ⟨[(0,aS 0),(1,ci x),(2, .c (.a (.fz (.sl false 1 (BR keep))))),(7, .c (.a (.ep 5 6 0 0))),(9, .c (.a (.fz .N))),(24, .c (.a (.fz (.sl false 1 (BR keep))))),(25,ci (keep.length:Int)),(26,ci (i:Int))],hsP16 s e [],6⟩
theorem zpr (s:Sto)(x:Int)(e:Inf)(keep:List Bool)(hk:keep.length≤1000)(res:List Tm)(hh:AC Tryz.prog 108 [aS 0,ci x,ci e.lv,ci (keep.length:Int),aL res] (oS s) (aT (.mk 4 [] (s.V.length:Int) [])) (oS' (z3y s x e.lv keep.length res))):
  ∀ (j i:Nat),i+j=keep.length→onK (keep.length:Int) (keep.drop i) (i:Int)=res→RPt Tryz.prog 94 3 (ci 0) (oS' (z3y s x e.lv keep.length res)) 1 (stPa s x e keep i)
 | 0,i,hi,hr=>by
  have hlen:=z2b keep;refine RPt.vc hP sh lv94 (Eq.mpr (v94_1a ..) ?_);rw [List.drop_eq_nil_of_le (by omega),onK] at hr;subst hr;refine z00 (fun h=>absurd (of_decide_eq_true h) (by omega)) (fun _=>⟨rfl,((.mk 4 [] (s.V.length:Int) []:Tm),z3y s x e.lv keep.length []), ?_, .refl _,rfl⟩);rw [hlen];exact hh.args ⟨.refl _, .refl _, .refl _, .refl _, .c _ _ (.a _ _ (.fz _ _ z0m)),trivial⟩
 | j+1,i,hi,hr=>by
  have hlen:=z2b keep;have hi2:i<keep.length:=by omega
  have eg:List.getD (BR keep) (Int.toNat (i:Int)) []=[.bool keep[i]]:=by rw [Int.toNat_natCast];simp [BR,List.getD,hi2]
  have ed:keep.drop i=keep[i]::keep.drop (i+1):=List.drop_eq_getElem_cons hi2;rw [ed,onK] at hr;refine RPt.vc hP sh lv94 (Eq.mpr (v94_1a ..) ?_);rw [eg,w64 (x:=(i:Int)+1) (by omega) (by omega),hlen,w64 (x:=(keep.length:Int)-1) (by omega) (by omega),w64 (x:=(keep.length:Int)-1-(i:Int)) (by omega) (by omega)];refine z00 (fun _=>⟨⟨rfl,by omega,by omega,rfl⟩,z00 (fun hb=> ?_) (fun hb=> ?_)⟩) (fun h=>absurd (of_decide_eq_false h) (by omega))
  · have hb:keep[i]=true:=hb;rw [if_pos hb] at hr;refine ⟨rfl,_,zag _,Nat.le_refl _,by simp only [z0u];omega, ?_⟩;exact zhc s x e keep hk res hh j (i+1) [.mk 3 [] ((keep.length:Int)-1-(i:Int)) []] (by omega) (by simp) hr
  · have hb:keep[i]=false:=hb;rw [if_neg (by rw [hb];simp)] at hr;exact zpr s x e keep hk res hh j (i+1) (by omega) hr
end Go.AM

set_option maxRecDepth 100000
open Go Go.Proofs
namespace Go.AM
def z3k (s:Sto)(x:Int)(keep:List Bool):Sto:=if inB s.V x=true∧(infOf s.V x).bd=false then z3y s x (infOf s.V x).lv keep.length (onK (keep.length:Int) keep 0) else s
def z8h (s:Sto)(x:Int):Int:=if inB s.V x=true∧(infOf s.V x).bd=false then 0 else 1
theorem c_iprune (s:Sto)(x:Int)(keep:List Bool)(hk:keep.length≤1000)(hh:AC Tryz.prog 108 [aS 0,ci x,ci (infOf s.V x).lv,ci (keep.length:Int),aL (onK (keep.length:Int) keep 0)] (oS s) (aT (.mk 4 [] (s.V.length:Int) [])) (oS' (z3y s x (infOf s.V x).lv keep.length (onK (keep.length:Int) keep 0)))):
  AC Tryz.prog 94 [aS 0,ci x, .c (.a (.fz (.sl false 1 (BR keep))))] (oS s) (ci (z8h s x)) (oS' (z3k s x keep)):=by
 have hi:=z91 s x;have hlen:=z2b keep;refine AC.vc hP sh lv94 (by simp) (by simp [isLive]) (by simp [isLive]) (Eq.mpr (v94 ..) ?_);refine ⟨((infOf s.V x).lv,(infOf s.V x).bd,(infOf s.V x).v,inB s.V x),hi,z00 (fun h=> ?_) (fun h=>z00 (fun h2=> ?_) (fun h2=>⟨rfl, ?_⟩))⟩
 · have h:inB s.V x=false:=by simpa using h
   rw [z8h,z3k,if_neg (by rw [h];simp),if_neg (by rw [h];simp)];exact ⟨.refl _,rfl⟩
 · have h2:(infOf s.V x).bd=true:=h2;rw [z8h,z3k,if_neg (by rw [h2];simp),if_neg (by rw [h2];simp)];exact ⟨.refl _,rfl⟩
 · have h:inB s.V x=true:=by simpa using h
   have h2:(infOf s.V x).bd=false:=h2;rw [z8h,z3k,if_pos ⟨h,h2⟩,if_pos ⟨h,h2⟩,hlen];exact zpr s x (infOf s.V x) keep hk _ hh keep.length 0 (by omega) (by rw [List.drop_zero];rfl)
end Go.AM

set_option maxRecDepth 100000
open Go Go.Proofs
namespace Go.AM
abbrev aV6 (l:List IBT):TV:= .c (.a (.fz (.sl false 6 (l.map FIBT))))
theorem zih {l:List IBT}{i:Nat}(h:i<l.length):List.getD (l.map FIBT) i []=FIBT l[i]:=by simp [List.getD,h]
def badV (t:Tm):Bool:=zbh t 12 || !near 1000 t
def badW (t:Tm):Bool:=zbh t 24 || !near 1000 t
def zru (l:List IBT):Bool:=decide ((l.length:Int)>8)||l.any fun a=>badV a.2.2.1
def rowW (m:Int)(l:List Tm):Bool:=decide ((l.length:Int)>m)||l.any badW
abbrev rIB (l:List IBT)(i:Nat)(e:IBT):Prop:=(FV.L 6 (.sl false 6 (l.map FIBT))=true)∧((0:Int)≤(i:Int))∧((i:Int)<(l.length:Int))∧(FIBT e=FIBT e)
theorem overI_no {l:List IBT}(h:zru l=false):l.length≤8∧∀ v∈l,v.2.2.1.sz≤12∧bd 1000 v.2.2.1:=by
 rw [zru,Bool.or_eq_false_iff] at h;refine ⟨by have:=of_decide_eq_false h.1;omega,fun v hv=> ?_⟩;have:=List.any_eq_false.1 h.2 v hv;simp only [badV,Bool.or_eq_true,Bool.not_eq_true',not_or,Bool.not_eq_true,Bool.not_eq_false] at this;exact ⟨by have:=zqu this.1;omega,zdq _ this.2⟩
theorem badW_no {t:Tm}(h:badW t=false):t.sz≤24∧bd 1000 t:=by
 simp only [badW,Bool.or_eq_false_iff,Bool.not_eq_false'] at h;exact ⟨by have:=zqu h.1;omega,zdq _ h.2⟩
theorem rowW_no {m:Int}{l:List Tm}(h:rowW m l=false):(l.length:Int)≤m∧∀ t∈l,t.sz≤24∧bd 1000 t:=by
 rw [rowW,Bool.or_eq_false_iff] at h;refine ⟨by have:=of_decide_eq_false h.1;omega,fun t ht=>badW_no (by simpa using List.any_eq_false.1 h.2 t ht)⟩
def frS (l:List IBT)(u:Sto):Sto:=l.foldl (fun u v=>freshS u v.1.1) u
def bnS:List IBT→Int→Sto→Sto
 | [],_,u=>u
 | v::l,i,u=>bnS l (i+1) (if v.2.1=true then bindS u i v.2.2.1 else u)
def layS (l:List IBT):Sto:=bnS l 0 (frS l ⟨[],[]⟩)
theorem zqp (l:List IBT)(hl:l.length≤8)(hb:∀ v∈l,v.2.2.1.bk≤B):∀ (n i:Nat),i+n=l.length→RPt Tryz.prog 5 0 (cb ((l.drop i).any fun a=>badV a.2.2.1)) [] 1 ⟨[(0,aV6 l),(3,ci (i:Int))],[],0⟩
 | 0,i,hi=>by
  refine RPt.vc hP sh lv5 (Eq.mpr (v5_1a ..) ?_);refine ⟨rfl,z00 (fun h=> ?_) (fun _=> ?_)⟩
  · have h:=of_decide_eq_true h;rw [List.length_map] at h;omega
  · rw [List.drop_eq_nil_of_le (by omega)];exact z07 rfl
 | n+1,i,hi=>by
  have hlt:i<l.length:=by omega
  have hmem:=hb _ (List.getElem_mem hlt);have hg:=zih hlt;have next:=zqp l hl hb n (i+1) (by omega);rw [List.drop_eq_getElem_cons hlt,List.any_cons];refine RPt.vc hP sh lv5 (Eq.mpr (v5_1a ..) ?_);refine ⟨rfl,z00 (fun _=> ?_) (fun h=> ?_)⟩
  · rw [Int.toNat_natCast,List.length_map,hg,w64 (x:=(i:Int)+1) (by omega) (by omega)];generalize l[i]=e at*;obtain ⟨⟨a1,aI⟩,a2,⟨⟨ek,es,en,el⟩,eI⟩⟩:=e;have hmem:Tm.bk (.mk ek es en el)≤B:=hmem;have zb:=Tm.sz_bk (.mk ek es en el);have c1:=ztn (.mk ek es en el) (by omega) 12 (by omega) (by omega);have c2:=c_near 1000 (by omega) (by omega) (.mk ek es en el) (by omega);have op:rIB l i (⟨a1,aI⟩,a2,⟨.mk ek es en el,eI⟩):=⟨rfl,by omega,by omega,rfl⟩;have eb:badV (.mk ek es en el)=(zbh (.mk ek es en el) 12 || !near 1000 (.mk ek es en el)):=rfl;show _∧_;refine ⟨op,_,c1,op,_,c2,z00 (fun e1=> ?_) (fun e1=>z00 (fun e2=> ?_) (fun e2=> ?_))⟩
    · rw [eb,e1];exact z07 rfl
    · rw [eb,e1,e2];exact z07 rfl
    · rw [eb,e1,e2,Bool.false_or,Bool.false_or];exact next
  · have h:=of_decide_eq_false h;rw [List.length_map] at h;omega
theorem c_over17 (l:List IBT)(hb:∀ v∈l,v.2.2.1.bk≤B):AC Tryz.prog 5 [aV6 l] [] (cb (zru l)) []:=by
 refine AC.vc hP sh lv5 (Nat.le_refl _) (by simp) (by simp) (Eq.mpr (v5 ..) ?_);rw [List.length_map];refine ⟨rfl,z00 (fun h=> ?_) (fun h=> ?_)⟩
 · rw [zru,h];exact z07 rfl
 · rw [zru,h,Bool.false_or];have h:=of_decide_eq_false h;exact zqp l (by omega) hb l.length 0 (by omega)
theorem zt3 (l:List Tm)(hl:l.length≤8)(hb:∀ t∈l,t.bk≤B):∀ (b a:List Tm),a++b=l→RPt Tryz.prog 6 0 (cb (b.any badW)) [] 1 ⟨[(0,aL l),(3,ci (a.length:Int))],[],0⟩
 | [],a,hi=>by
  refine RPt.vc hP sh lv6 (Eq.mpr (v6_1a ..) ?_);refine ⟨rfl,z00 (fun h=> ?_) (fun _=> ?_)⟩
  · have h:=of_decide_eq_true h;rw [z01] at h;rw [List.append_nil] at hi;subst hi;omega
  · exact z07 rfl
 | t::b,a,hi=>by
  have next:=zt3 l hl hb b (a++ [t]) (by rw [←hi];simp);have hmem:=hb t (by rw [←hi];simp);have zb:=Tm.sz_bk t;have hal:a.length<8:=by have:=congrArg List.length hi;simp at this;omega
  have c1:=ztn t (by omega) 24 (by omega) (by omega);have c2:=c_near 1000 (by omega) (by omega) t (by omega);have eb:badW t=(zbh t 24 || !near 1000 t):=rfl;rw [List.any_cons];refine RPt.vc hP sh lv6 (Eq.mpr (v6_1a ..) ?_);rw [show FTs l=FTs (a++t::b) by rw [hi],z5h,w64 (x:=(a.length:Int)+1) (by omega) (by omega)];have op:(FV.L 4 (.sl false 4 (FTs (a++t::b)))=true)∧((0:Int)≤(a.length:Int))∧((a.length:Int)<(((FTs (a++t::b)).length:Nat):Int))∧((rE (List.getD (FTs (a++t::b)) (Int.toNat (a.length:Int)) []):List FV)=List.getD (FTs (a++t::b)) (Int.toNat (a.length:Int)) []):=⟨rfl,by omega,ltI' a t b,z60 a t b⟩;refine ⟨rfl,z00 (fun _=>⟨op,_,c1,op,_,c2,z00 (fun e1=> ?_) (fun e1=>z00 (fun e2=> ?_) (fun e2=> ?_))⟩) (fun h=>absurd (ltI' a t b) (of_decide_eq_false h))⟩
  · rw [eb,e1];exact z07 rfl
  · rw [eb,e1,e2];exact z07 rfl
  · rw [eb,e1,e2,Bool.false_or,Bool.false_or];rw [hi];simpa using next
theorem c_row17 (l:List Tm)(hb:∀ t∈l,t.bk≤B):AC Tryz.prog 6 [aL l] [] (cb (rowW 8 l)) []:=by
 refine AC.vc hP sh lv6 (Nat.le_refl _) (by simp) (by simp) (Eq.mpr (v6 ..) ?_);rw [z01];refine ⟨rfl,z00 (fun h=> ?_) (fun h=> ?_)⟩
 · rw [rowW,h];exact z07 rfl
 · rw [rowW,h,Bool.false_or];have h:=of_decide_eq_false h;exact zt3 l (by omega) hb l [] rfl
end Go.AM

set_option maxRecDepth 100000
open Go Go.Proofs
namespace Go.AM
theorem OKA.fr:∀ {l:List IBT} {s:Sto} {n:Nat},OKA s n→OKA (frS l s) (n+l.length)
 | [],s,n,h=>h
 | v::l,s,n,h=>(OKA.fr (l:=l) (h.fresh v.1.1)).more (by simp only [List.length_cons];omega)
theorem OKA.bn:∀ {l:List IBT} {i:Int} {s:Sto} {n:Nat},OKA s n→(∀ v∈l,v.2.2.1.sz≤12∧bd 1000 v.2.2.1)→(∀ v∈l,v.2.2.1.bk≤B)→OKA (bnS l i s) (n+l.length)
 | [],_,s,n,h,_,_=>h
 | v::l,i,s,n,h,h1,h2=>by
  have hv:=h1 v List.mem_cons_self;have hb:=h2 v List.mem_cons_self
  have step:OKA (if v.2.1=true then bindS s i v.2.2.1 else s) (n+1):=by
   split
   · exact h.bind (by omega) (z5r (by omega) _ hv.2) hb
   · exact h.more (by omega)
  exact (OKA.bn (l:=l) (i:=i+1) step (fun v hv=>h1 v (List.mem_cons_of_mem _ hv)) (fun v hv=>h2 v (List.mem_cons_of_mem _ hv))).more (by simp only [List.length_cons];omega)
theorem OKA.lay {l:List IBT}(h1:∀ v∈l,v.2.2.1.sz≤12∧bd 1000 v.2.2.1)(h2:∀ v∈l,v.2.2.1.bk≤B):OKA (layS l) (l.length+l.length):=by
 have:=OKA.bn (l:=l) (i:=0) (OKA.fr (l:=l) OKA.nil) h1 h2
 rwa [Nat.zero_add] at this
def LV0 (s:Sto):Prop:=∀ i∈s.V,0≤i.lv
theorem zri (a:Int):0≤z0g [a,0]:=by simp only [z0g,List.foldl];omega
theorem zh2 {a:Int}(h:0≤a):z0g [a,0]=a:=by simp only [z0g,List.foldl];omega
theorem LV0.fresh {s:Sto}(h:LV0 s)(lv:Int):LV0 (freshS s lv):=fun i hi=>by
 rcases List.mem_append.1 hi with hi | hi
 · exact h i hi
 · simp at hi;subst hi;exact zri lv
theorem LV0.bind {s:Sto}(h:LV0 s)(x:Int)(t:Tm):LV0 (bindS s x t):=fun i hi=>by
 by_cases q:z2t s x t=true
 · rw [(z1x q).1] at hi;rcases List.mem_or_eq_of_mem_set hi with hi | rfl
   · exact h i hi
   · obtain ⟨hl,e⟩:=z1w (z6u q).1 (z6u q).2;show 0≤(infOf s.V x).lv;rw [e];exact h _ (List.getElem_mem hl)
 · rw [(z3c (by simpa using q)).1] at hi;exact h i hi
theorem LV0.fr:∀ {l:List IBT} {s:Sto},LV0 s→LV0 (frS l s)
 | [],_,h=>h
 | v::l,_,h=>LV0.fr (l:=l) (h.fresh v.1.1)
theorem LV0.bn:∀ {l:List IBT} {i:Int} {s:Sto},LV0 s→LV0 (bnS l i s)
 | [],_,_,h=>h
 | v::l,i,s,h=>LV0.bn (l:=l) (i:=i+1) (s:=if v.2.1=true then bindS s i v.2.2.1 else s) (if q:v.2.1=true then by rw [if_pos q];exact h.bind _ _ else by rw [if_neg q];exact h)
theorem LV0.lay (l:List IBT):LV0 (layS l):=LV0.bn (LV0.fr (fun i hi=>nomatch hi))
abbrev oS2 (a b:Sto):List AObj:=[sto2 1 2 a, .arz 6 (SR a.V), .arz 1 (IR a.T),sto2 4 5 b, .arz 6 (SR b.V), .arz 1 (IR b.T)]
abbrev hpS2 (a b:Sto):AHeap:=[(0,sto2 1 2 a),(1, .arz 6 (SR a.V)),(2, .arz 1 (IR a.T)),(3,sto2 4 5 b),(4, .arz 6 (SR b.V)),(5, .arz 1 (IR b.T))]
abbrev tS2:TV:= .tup [(false,[.a (.ep 0 2 0 0)]),(false,[.a (.ep 3 2 0 0)])]
theorem zkd (l:List IBT)(h1:∀ v∈l,v.2.2.1.sz≤12∧bd 1000 v.2.2.1)(h2:∀ v∈l,v.2.2.1.bk≤B)(h8:l.length≤8):
  ∀ (n i:Nat) (u:Sto),i+n=l.length→OKA u (l.length+i)→RPt Tryz.prog 7 0 tS2 (oS2 (bnS (l.drop i) (i:Int) u) (bnS (l.drop i) (i:Int) u)) 5 ⟨[(0,aV6 l),(4,aS 0),(5,aS 3),(7,ci (i:Int))],hpS2 u u,6⟩
 | 0,i,u,hi,ha=>by
  refine RPt.vc hP sh lv7 (Eq.mpr (v7_5a ..) ?_);refine ⟨rfl,z00 (fun h=> ?_) (fun _=> ?_)⟩
  · have h:=of_decide_eq_true h;rw [List.length_map] at h;omega
  · rw [List.drop_eq_nil_of_le (by omega)];exact ⟨.refl _,rfl⟩
 | n+1,i,u,hi,ha=>by
  have hlt:i<l.length:=by omega
  have hm:=List.getElem_mem hlt;have hz:=h1 _ hm;have hmk:=h2 _ hm;have hg:=zih hlt;have next:=zkd l h1 h2 h8 n (i+1);rw [List.drop_eq_getElem_cons hlt,bnS];refine RPt.vc hP sh lv7 (Eq.mpr (v7_5a ..) ?_);refine ⟨rfl,z00 (fun _=> ?_) (fun h=> ?_)⟩
  · rw [Int.toNat_natCast,List.length_map,hg,w64 (x:=(i:Int)+1) (by omega) (by omega)];generalize l[i]=e at*;have hT:=ha.T;have zb:=Tm.sz_bk e.2.2.1;have hb1:=zn5 u (i:Int) e.2.2.1 (by omega) (by omega) (z5r (by simp only [M61];omega) _ hz.2);have hb2:=c_rbind u (i:Int) e.2.2.1 (by omega) (by omega) (z5r (by simp only [M61];omega) _ hz.2);have hbn:=ha.bind (x:=(i:Int)) (t:=e.2.2.1) (by omega) (z5r (by omega) _ hz.2) hmk;obtain ⟨⟨a1,aI⟩,a2,⟨⟨ek,es,en,el⟩,eI⟩⟩:=e;have op:rIB l i (⟨a1,aI⟩,a2,⟨.mk ek es en el,eI⟩):=⟨rfl,by omega,by omega,rfl⟩;refine ⟨op,z00 (fun h=> ?_) (fun h=> ?_)⟩
    · have h:a2=true:=h;rw [if_pos h];exact ⟨op,(_,bindS u (i:Int) (.mk ek es en el)),hb1,op,(_,bindS u (i:Int) (.mk ek es en el)),hb2,next _ (by omega) hbn⟩
    · have h:a2=false:=h;rw [if_neg (by rw [h];simp)];exact next u (by omega) (ha.more (by omega))
  · have h:=of_decide_eq_false h;rw [List.length_map] at h;omega
theorem zjx (l:List IBT)(h1:∀ v∈l,v.2.2.1.sz≤12∧bd 1000 v.2.2.1)(h2:∀ v∈l,v.2.2.1.bk≤B)(h8:l.length≤8):
  ∀ (n i:Nat) (u:Sto),i+n=l.length→OKA u i→RPt Tryz.prog 7 0 tS2 (oS2 (bnS l 0 (frS (l.drop i) u)) (bnS l 0 (frS (l.drop i) u))) 1 ⟨[(0,aV6 l),(4,aS 0),(5,aS 3),(6,ci (i:Int))],hpS2 u u,6⟩
 | 0,i,u,hi,ha=>by
  refine RPt.vc hP sh lv7 (Eq.mpr (v7_1a ..) ?_);refine ⟨rfl,z00 (fun h=> ?_) (fun _=> ?_)⟩
  · have h:=of_decide_eq_true h;rw [List.length_map] at h;omega
  · rw [List.drop_eq_nil_of_le (by omega)];have:=zkd l h1 h2 h8 l.length 0 u (by omega) (ha.more (by omega));rw [List.drop_zero] at this;exact this
 | n+1,i,u,hi,ha=>by
  have hlt:i<l.length:=by omega
  have hg:=zih hlt;have next:=zjx l h1 h2 h8 n (i+1);rw [List.drop_eq_getElem_cons hlt,frS,List.foldl_cons];refine RPt.vc hP sh lv7 (Eq.mpr (v7_1a ..) ?_);refine ⟨rfl,z00 (fun _=> ?_) (fun h=> ?_)⟩
  · rw [Int.toNat_natCast,List.length_map,hg,w64 (x:=(i:Int)+1) (by omega) (by omega)];generalize l[i]=e at*;have hV:=ha.V;have hf1:=ziy u e.1.1 (by omega);have hf2:=c_rfresh u e.1.1 (by omega);have hfr:=ha.fresh e.1.1;obtain ⟨⟨a1,aI⟩,a2,⟨⟨ek,es,en,el⟩,eI⟩⟩:=e;have op:rIB l i (⟨a1,aI⟩,a2,⟨.mk ek es en el,eI⟩):=⟨rfl,by omega,by omega,rfl⟩;exact ⟨op,(_,freshS u a1),hf1,op,(_,freshS u a1),hf2,next _ (by omega) hfr⟩
  · have h:=of_decide_eq_false h;rw [List.length_map] at h;omega
theorem c_laid17 (l:List IBT)(h1:∀ v∈l,v.2.2.1.sz≤12∧bd 1000 v.2.2.1)(h2:∀ v∈l,v.2.2.1.bk≤B)(h8:l.length≤8):AC Tryz.prog 7 [aV6 l] [] tS2 (oS2 (layS l) (layS l)):=by
 refine AC.vc hP sh lv7 (by simp) (by simp) (by simp [isLive]) (Eq.mpr (v7 ..) ?_);have:=zjx l h1 h2 h8 l.length 0 ⟨[],[]⟩ (by omega) OKA.nil;rw [List.drop_zero] at this;exact ⟨(),c_snew,this⟩
end Go.AM

set_option maxRecDepth 100000
open Go Go.Proofs
namespace Go.AM
def z40 (t:Tm):Bool:=(z06 t).k==3||(z06 t).k==1
def z1d (t:Tm):Tm:=if z40 t=true then z06 t else noT
abbrev zhk (t:Tm)(b:Bool):TV:= .tup [(true,cT t),(false,[.a (.fz (.bool b))])]
theorem zta (t:Tm)(hs:t.sz≤SZ)(hb:bd M61 t):AC Tryz.prog 118 [aT t] [] (if validB t=true then zhk (z1d t) (z40 t) else zhk noT false) []:=by
 have h0:=z3f t (by simp only [SZ,B] at*;omega);have h:=fun h=>zpo t (z04 t h) (z2i h) hs hb;have e1:∀ b,z40 t=b→z1d t=if b=true then z06 t else noT:=fun b h=>by rw [z1d,h]
 have e2:z40 t=((z06 t).k==3||(z06 t).k==1):=rfl;obtain ⟨k,s,n,l⟩:=t;refine AC.vc hP sh lv118 (Nat.le_refl _) (by simp) (by simp) (Eq.mpr (v118 k s n (FTs l) _ _) ?_);refine ⟨_,h0,z00 (fun hv=> ?_) (fun hv=>⟨_,h (zry hv),z00 (fun h3=> ?_) (fun h3=>z00 (fun h1=> ?_) (fun h1=> ?_))⟩)⟩
 · rw [if_neg (by rw [not_t hv];simp)];exact ⟨leTB (l:=[]) z0m,rfl⟩
 · have h3:((z06 (.mk k s n l)).k==3)=true:=h3;have e:z40 (.mk k s n l)=true:=by rw [e2,h3];rfl
   rw [if_pos (zry hv),e1 true e,e,if_pos rfl];exact ⟨.refl _,rfl⟩
 · have h1:((z06 (.mk k s n l)).k==1)=true:=h1;have e:z40 (.mk k s n l)=true:=by rw [e2,h1,Bool.or_true]
   rw [if_pos (zry hv),e1 true e,e,if_pos rfl];exact ⟨.refl _,rfl⟩
 · have h3:((z06 (.mk k s n l)).k==3)=false:=h3;have h1:((z06 (.mk k s n l)).k==1)=false:=h1;have e:z40 (.mk k s n l)=false:=by rw [e2,h1,h3];rfl
   rw [if_pos (zry hv),e1 false e,e];exact ⟨leTB (l:=[]) z0m,rfl⟩
end Go.AM

set_option maxRecDepth 100000
open Go Go.Proofs
namespace Go.AM
def ixF (p:Tm→Bool):List Tm→Nat→Int
 | [],_=> -1
 | t::l,i=>if p t=true then (i:Int) else ixF p l (i+1)
theorem zis (p:Tm→Bool):∀ (l:List Tm) (i:Nat),decide (ixF p l i≥0)=l.any p
 | [],_=>rfl
 | t::l,i=>by
  rw [ixF,List.any_cons];split
  · rename_i h;rw [h];simp
  · rename_i h;rw [zis p l,show p t=false by simpa using h,Bool.false_or]
theorem zqh (p:Tm→Bool):∀ (l:List Tm) (i:Nat), -1≤ixF p l i∧ixF p l i<(i:Int)+(l.length:Int)+1
 | [],i=>by simp only [ixF];omega
 | t::l,i=>by
  have:=zqh p l (i+1);rw [ixF];split
  · simp only [List.length_cons];omega
  · simp only [List.length_cons];omega
theorem l_ixiodd (p:Tm→Bool)(b:List Tm):∀ a:List Tm,(a++b).length≤B→(∀ u∈b,AC Tryz.prog 117 [aT u] [] (cb (p u)) [])→RPt Tryz.prog 68 0 (ci (ixF p b a.length)) [] 1 ⟨[(0,aL (a++b)),(1, .c (.fn (.func 117) [] [])),(7,ci ((a++b).length:Int)),(8,ci (a.length:Int))],[],0⟩:=by
 induction b with
 | nil=>
  intro a hs _;refine RPt.vc hP sh lv68 (Eq.mpr (zdn ..) ?_);exact z00 (fun h=>absurd (of_decide_eq_true h) (by simp)) (fun _=>z3n rfl)
 | cons t b ihb=>
  intro a hs ih;have h3:=ltI' a t b;have h1:=ih t List.mem_cons_self;have h2:=ihb (a++ [t]) (by simpa using hs) (fun u hu=>ih u (List.mem_cons_of_mem _ hu));rw [ap,nx,show (a++ [t]).length=a.length+1 by simp] at h2;rw [ixF];simp only [List.length_append,List.length_cons,B] at hs;have h4:(a.length:Int)<((a++t::b).length:Int):=by simp only [List.length_append,List.length_cons];omega
  refine RPt.vc hP sh lv68 (Eq.mpr (zdn ..) ?_);rw [w64 (by omega) (by omega)];refine z00 (fun _=>⟨⟨rfl,by omega,h3,z60 ..⟩,p t,by rw [z5h];exact h1,z00 (fun h=> ?_) (fun h=> ?_)⟩) (fun h=>absurd h4 (of_decide_eq_false h))
  · rw [if_pos h];exact z3n rfl
  · rw [if_neg (by rw [h];simp)];exact h2
theorem c_ixiodd (p:Tm→Bool)(l:List Tm)(hl:l.length≤B)(h:∀ u∈l,AC Tryz.prog 117 [aT u] [] (cb (p u)) []):AC Tryz.prog 68 [aL l, .c (.fn (.func 117) [] [])] [] (ci (ixF p l 0)) []:=by
 have:=l_ixiodd p l [] hl h;refine AC.vc hP sh lv68 (Nat.le_refl _) (by simp) (by simp) (Eq.mpr (v68_F117 ..) ?_);rw [z01];exact ⟨rfl,this⟩
theorem zwx (p:Tm→Bool)(l:List Tm)(hl:l.length≤B)(h:∀ u∈l,AC Tryz.prog 117 [aT u] [] (cb (p u)) []):AC Tryz.prog 49 [aL l, .c (.fn (.func 117) [] [])] [] (cb (l.any p)) []:=by
 refine AC.vc hP sh lv49 (Nat.le_refl _) (by simp) (by simp) (Eq.mpr (v49_F117 ..) ?_);exact ⟨_,c_ixiodd p l hl h,z07 (zis p l 0)⟩
theorem zo2 (p:Tm→Bool)(b:List Tm):∀ a:List Tm,(a++b).length≤B→(∀ u∈b,AC Tryz.prog 122 [aT u] [] (cb (p u)) [])→RPt Tryz.prog 68 0 (ci (ixF p b a.length)) [] 1 ⟨[(0,aL (a++b)),(1, .c (.fn (.func 122) [] [])),(7,ci ((a++b).length:Int)),(8,ci (a.length:Int))],[],0⟩:=by
 induction b with
 | nil=>
  intro a hs _;refine RPt.vc hP sh lv68 (Eq.mpr (zej ..) ?_);exact z00 (fun h=>absurd (of_decide_eq_true h) (by simp)) (fun _=>z3n rfl)
 | cons t b ihb=>
  intro a hs ih;have h3:=ltI' a t b;have h1:=ih t List.mem_cons_self;have h2:=ihb (a++ [t]) (by simpa using hs) (fun u hu=>ih u (List.mem_cons_of_mem _ hu));rw [ap,nx,show (a++ [t]).length=a.length+1 by simp] at h2;rw [ixF];simp only [List.length_append,List.length_cons,B] at hs;have h4:(a.length:Int)<((a++t::b).length:Int):=by simp only [List.length_append,List.length_cons];omega
  refine RPt.vc hP sh lv68 (Eq.mpr (zej ..) ?_);rw [w64 (by omega) (by omega)];refine z00 (fun _=>⟨⟨rfl,by omega,h3,z60 ..⟩,p t,by rw [z5h];exact h1,z00 (fun h=> ?_) (fun h=> ?_)⟩) (fun h=>absurd h4 (of_decide_eq_false h))
  · rw [if_pos h];exact z3n rfl
  · rw [if_neg (by rw [h];simp)];exact h2
theorem znk (p:Tm→Bool)(l:List Tm)(hl:l.length≤B)(h:∀ u∈l,AC Tryz.prog 122 [aT u] [] (cb (p u)) []):AC Tryz.prog 68 [aL l, .c (.fn (.func 122) [] [])] [] (ci (ixF p l 0)) []:=by
 have:=zo2 p l [] hl h;refine AC.vc hP sh lv68 (Nat.le_refl _) (by simp) (by simp) (Eq.mpr (v68_F122 ..) ?_);rw [z01];exact ⟨rfl,this⟩
theorem zlh (p:Tm→Bool)(l:List Tm)(hl:l.length≤B)(h:∀ u∈l,AC Tryz.prog 122 [aT u] [] (cb (p u)) []):AC Tryz.prog 49 [aL l, .c (.fn (.func 122) [] [])] [] (cb (l.any p)) []:=by
 refine AC.vc hP sh lv49 (Nat.le_refl _) (by simp) (by simp) (Eq.mpr (v49_F122 ..) ?_);exact ⟨_,znk p l hl h,z07 (zis p l 0)⟩
abbrev obT (t:Tm):AObj:= .arr 4 [cT t]
theorem zt0 (p:Tm→Bool)(o:Tm)(b:List Tm):∀ a:List Tm,(a++b).length≤B→(∀ u∈b,AC Tryz.prog 119 [aT u, .c (.a (.ep 0 4 0 0))] [obT o] (cb (p u)) [obT o])→
  RPt Tryz.prog 68 1 (ci (ixF p b a.length)) [obT o] 1 ⟨[(0,aL (a++b)),(1, .c (.fn (.func 119) [] [(false,[.ep 0 4 0 0])])),(7,ci ((a++b).length:Int)),(8,ci (a.length:Int))],[(0,obT o)],1⟩:=by
 induction b with
 | nil=>
  intro a hs _;obtain ⟨ok,os,on,ol⟩:=o;refine RPt.vc hP sh lv68 (Eq.mpr (zdd ..) ?_);exact z00 (fun h=>absurd (of_decide_eq_true h) (by simp)) (fun _=>⟨.refl _,rfl⟩)
 | cons t b ihb=>
  intro a hs ih;have h3:=ltI' a t b;have h1:=ih t List.mem_cons_self;have h2:=ihb (a++ [t]) (by simpa using hs) (fun u hu=>ih u (List.mem_cons_of_mem _ hu));rw [ap,nx,show (a++ [t]).length=a.length+1 by simp] at h2;rw [ixF];simp only [List.length_append,List.length_cons,B] at hs;have h4:(a.length:Int)<((a++t::b).length:Int):=by simp only [List.length_append,List.length_cons];omega
  obtain ⟨ok,os,on,ol⟩:=o;refine RPt.vc hP sh lv68 (Eq.mpr (zdd ..) ?_);rw [w64 (by omega) (by omega)];refine z00 (fun _=>⟨⟨rfl,by omega,h3,z60 ..⟩,p t,by rw [z5h];exact h1,z00 (fun h=> ?_) (fun h=> ?_)⟩) (fun h=>absurd h4 (of_decide_eq_false h))
  · rw [if_pos h];exact ⟨.refl _,rfl⟩
  · rw [if_neg (by rw [h];simp)];exact h2
theorem zy3 (p:Tm→Bool)(o:Tm)(l:List Tm)(hl:l.length≤B)(h:∀ u∈l,AC Tryz.prog 119 [aT u, .c (.a (.ep 0 4 0 0))] [obT o] (cb (p u)) [obT o]):AC Tryz.prog 68 [aL l, .c (.fn (.func 119) [] [(false,[.ep 0 4 0 0])])] [obT o] (ci (ixF p l 0)) [obT o]:=by
 have:=zt0 p o l [] hl h;obtain ⟨ok,os,on,ol⟩:=o;refine AC.vc hP sh lv68 (Nat.le_refl _) (by simp [isLive]) (by simp) (Eq.mpr (v68_F119 ..) ?_);rw [z01];exact ⟨rfl,this⟩
theorem zrw (p:Tm→Bool)(o:Tm)(b:List Tm):∀ a:List Tm,(a++b).length≤B→(∀ u∈b,AC Tryz.prog 130 [aT u, .c (.a (.ep 0 4 0 0))] [obT o] (cb (p u)) [obT o])→
  RPt Tryz.prog 68 1 (ci (ixF p b a.length)) [obT o] 1 ⟨[(0,aL (a++b)),(1, .c (.fn (.func 130) [] [(false,[.ep 0 4 0 0])])),(7,ci ((a++b).length:Int)),(8,ci (a.length:Int))],[(0,obT o)],1⟩:=by
 induction b with
 | nil=>
  intro a hs _;obtain ⟨ok,os,on,ol⟩:=o;refine RPt.vc hP sh lv68 (Eq.mpr (zec ..) ?_);exact z00 (fun h=>absurd (of_decide_eq_true h) (by simp)) (fun _=>⟨.refl _,rfl⟩)
 | cons t b ihb=>
  intro a hs ih;have h3:=ltI' a t b;have h1:=ih t List.mem_cons_self;have h2:=ihb (a++ [t]) (by simpa using hs) (fun u hu=>ih u (List.mem_cons_of_mem _ hu));rw [ap,nx,show (a++ [t]).length=a.length+1 by simp] at h2;rw [ixF];simp only [List.length_append,List.length_cons,B] at hs;have h4:(a.length:Int)<((a++t::b).length:Int):=by simp only [List.length_append,List.length_cons];omega
  obtain ⟨ok,os,on,ol⟩:=o;refine RPt.vc hP sh lv68 (Eq.mpr (zec ..) ?_);rw [w64 (by omega) (by omega)];refine z00 (fun _=>⟨⟨rfl,by omega,h3,z60 ..⟩,p t,by rw [z5h];exact h1,z00 (fun h=> ?_) (fun h=> ?_)⟩) (fun h=>absurd h4 (of_decide_eq_false h))
  · rw [if_pos h];exact ⟨.refl _,rfl⟩
  · rw [if_neg (by rw [h];simp)];exact h2
theorem zs2 (p:Tm→Bool)(o:Tm)(l:List Tm)(hl:l.length≤B)(h:∀ u∈l,AC Tryz.prog 130 [aT u, .c (.a (.ep 0 4 0 0))] [obT o] (cb (p u)) [obT o]):AC Tryz.prog 68 [aL l, .c (.fn (.func 130) [] [(false,[.ep 0 4 0 0])])] [obT o] (ci (ixF p l 0)) [obT o]:=by
 have:=zrw p o l [] hl h;obtain ⟨ok,os,on,ol⟩:=o;refine AC.vc hP sh lv68 (Nat.le_refl _) (by simp [isLive]) (by simp) (Eq.mpr (v68_F130 ..) ?_);rw [z01];exact ⟨rfl,this⟩
def lfB (a b:Tm):Bool:=a.k==b.k&&a.n==b.n
theorem zxe (a b:Tm):AC Tryz.prog 120 [aT a,aT b] [] (cb (lfB a b)) []:=by
 obtain ⟨k,s,n,l⟩:=a;obtain ⟨k',s',n',l'⟩:=b;refine AC.vc hP sh lv120 (Nat.le_refl _) (by simp) (by simp) (Eq.mpr (v120 k s n (FTs l) k' s' n' (FTs l') _ _) ?_);have e:lfB (.mk k s n l) (.mk k' s' n' l')=(k==k'&&n==n'):=rfl;refine z00 (fun h=> ?_) (fun h=> ?_)
 · have h:(k==k')=true:=h;rw [e,h,Bool.true_and];exact ⟨.refl _,rfl⟩
 · have h:(k==k')=false:=h;rw [e,h,Bool.false_and];exact ⟨.refl _,rfl⟩
theorem c_args1 (a o:Tm):AC Tryz.prog 119 [aT a, .c (.a (.ep 0 4 0 0))] [obT o] (cb (lfB a o)) [obT o]:=by
 have h:=zxe a o;obtain ⟨k,s,n,l⟩:=a;obtain ⟨k',s',n',l'⟩:=o;refine AC.vc hP sh lv119 (Nat.le_refl _) (by simp [isLive]) (by simp) (Eq.mpr (v119 k s n (FTs l) k' s' n' (FTs l') _ _) ?_);exact ⟨_,h, .refl _,rfl⟩
theorem c_image1 (a o:Tm):AC Tryz.prog 130 [aT a, .c (.a (.ep 0 4 0 0))] [obT o] (cb (lfB a o)) [obT o]:=by
 have h:=zxe a o;obtain ⟨k,s,n,l⟩:=a;obtain ⟨k',s',n',l'⟩:=o;refine AC.vc hP sh lv130 (Nat.le_refl _) (by simp [isLive]) (by simp) (Eq.mpr (v130 k s n (FTs l) k' s' n' (FTs l') _ _) ?_);exact ⟨_,h, .refl _,rfl⟩
theorem l_ixO (o:Tm)(b:List Tm):∀ a:List Tm,(a++b).length≤B→
  RPt Tryz.prog 68 2 (ci (ixF (fun u=>lfB u o) b a.length)) [.arz 4 (FTs (a++b)),obT o] 1 ⟨[(0, .c (.a (.osl 0 4 0 (a++b).length))),(1, .c (.fn (.func 119) [] [(false,[.ep 1 4 0 0])])),(7,ci ((a++b).length:Int)),(8,ci (a.length:Int))],[(0, .arz 4 (FTs (a++b))),(1,obT o)],2⟩:=by
 induction b with
 | nil=>
  intro a hs;obtain ⟨ok,os,on,ol⟩:=o;refine RPt.vc hP sh lv68 (Eq.mpr (z8o ..) ?_);exact z00 (fun h=>absurd (of_decide_eq_true h) (by simp)) (fun _=>⟨.refl _,rfl⟩)
 | cons t b ihb=>
  intro a hs;have h3:=ltI' a t b;have h1:=c_args1 t o;have h2:=ihb (a++ [t]) (by simpa using hs);rw [ap,nx,show (a++ [t]).length=a.length+1 by simp] at h2;rw [ixF];simp only [List.length_append,List.length_cons,B] at hs;have h4:(a.length:Int)<((a++t::b).length:Int):=by simp only [List.length_append,List.length_cons];omega
  have em:=z60 a t b;obtain ⟨ok,os,on,ol⟩:=o;refine RPt.vc hP sh lv68 (Eq.mpr (z8o ..) ?_);rw [w64 (by omega) (by omega)];refine z00 (fun _=>⟨by simp only [List.length_append,List.length_cons];omega,⟨by rw [Nat.zero_add];omega,by rw [Nat.zero_add,em,midI,List.drop_zero,List.take_of_length_le (by rw [z2j];exact Nat.le_refl _)],rfl⟩,lfB t (.mk ok os on ol),by rw [Nat.zero_add,z5h];exact h1,z00 (fun h=> ?_) (fun h=> ?_)⟩) (fun h=>absurd h4 (of_decide_eq_false h))
  · rw [if_pos h];exact ⟨.refl _,rfl⟩
  · rw [if_neg (by rw [h];simp)];exact h2
theorem c_ixO (o:Tm)(l:List Tm)(hl:l.length≤B):AC Tryz.prog 68 [.c (.a (.osl 0 4 0 l.length)), .c (.fn (.func 119) [] [(false,[.ep 1 4 0 0])])] [.arz 4 (FTs l),obT o] (ci (ixF (fun u=>lfB u o) l 0)) [.arz 4 (FTs l),obT o]:=by
 have:=l_ixO o l [] hl;obtain ⟨ok,os,on,ol⟩:=o;refine AC.vc hP sh lv68 (Nat.le_refl _) (by simp [isLive]) (by simp) (Eq.mpr (zof ..) ?_);exact this
theorem c_anyO (o:Tm)(l:List Tm)(hl:l.length≤B):AC Tryz.prog 49 [.c (.a (.osl 0 4 0 l.length)), .c (.fn (.func 119) [] [(false,[.ep 1 4 0 0])])] [.arz 4 (FTs l),obT o] (cb (l.any fun u=>lfB u o)) [.arz 4 (FTs l),obT o]:=by
 have h:=c_ixO o l hl;have e:=zis (fun u=>lfB u o) l 0;obtain ⟨ok,os,on,ol⟩:=o;refine AC.vc hP sh lv49 (Nat.le_refl _) (by simp [isLive]) (by simp) (Eq.mpr (zn2 ..) ?_);exact ⟨_,h,by rw [←e];exact .refl _,rfl⟩
theorem c_anyN (o:Tm):AC Tryz.prog 49 [.c (.a (.fz .N)), .c (.fn (.func 119) [] [(false,[.ep 0 4 0 0])])] [obT o] (cb false) [obT o]:=by
 have h:=zy3 (fun u=>lfB u o) o [] (by simp only [List.length_nil,B];omega) (fun u hu=>by cases hu)
 have hh:AC Tryz.prog 49 [aL [], .c (.fn (.func 119) [] [(false,[.ep 0 4 0 0])])] [obT o] (cb false) [obT o]:=by
  obtain ⟨ok,os,on,ol⟩:=o;refine AC.vc hP sh lv49 (Nat.le_refl _) (by simp [isLive]) (by simp) (Eq.mpr (v49_F119 ..) ?_);exact ⟨_,h, .refl _,rfl⟩
 exact hh.args ⟨.c _ _ (.a _ _ (.fz _ _ z0m)), .refl _,trivial⟩
end Go.AM

set_option maxRecDepth 100000
open Go Go.Proofs
namespace Go.AM
def z63 (lv:Int)(out:List Tm)(u:Tm):Bool:= !z40 u||((z1d u).k==1&&decide ((z1d u).n≤lv))||out.any fun v=>lfB v (z1d u)
def z2a (s:Sto)(lv:Int):List Tm→List Tm→Int→List Tm×Int×Int
 | out,[],f=>(out,f,0)
 | out,t::l,f=>if (z0k s f t).2.2≠0 then ([],0,(z0k s f t).2.2) else if z63 lv out (z0k s f t).1=true then ([],0,171) else z2a s lv (out++ [z1d (z0k s f t).1]) l (z0k s f t).2.1
def z0x (s:Sto)(x:Int)(l:List Tm)(f:Int):List Tm×Int×Int:=if (!inB s.V x||l.any fun t=> !validB t)=true then ([],0,1) else z2a s (infOf s.V x).lv [] l f
abbrev aAr (z:List Tm×Int×Int):TV:= .tup [(false,[.a (.fz (.sl false 4 (FTs z.1)))]),(false,[.a (.fz (.int .i64 z.2.1))]),(false,[.a (.fz (.int .i64 z.2.2))])]
theorem leAr {x:FV}{a b:Int}{l:List Tm}(h:FV.Le x (.sl false 4 (FTs l))):TV.Le (.tup [(false,[.a (.fz x)]),(false,[.a (.fz (.int .i64 a))]),(false,[.a (.fz (.int .i64 b))])]) (aAr (l,a,b)):=zq8 ⟨⟨rfl, .a _ _ (.fz _ _ h),trivial⟩,lwR _,lwR _,trivial⟩
theorem z47 {s:Sto}(hs:OKS s){f:Int}{t:Tm}(hf:validB t=true→Fit f.toNat t)(he:(z0k s f t).2.2=0):validB t=true∧validB (z0k s f t).1=true∧bd M61 (z0k s f t).1∧(z0k s f t).1.sz≤SZ∧(z0k s f t).1.sz+42000*(z0k s f t).2.1.toNat≤t.sz+42000*f.toNat∧0≤(z0k s f t).2.1∧(z0k s f t).2.1≤f:=by
 unfold z0k at he ⊢;split at he
 · rename_i hv;rw [if_pos hv]
   have h0:0≤f∨(z0c s f.toNat f t).2.1≠0:=by
    rcases Int.le_total 0 f with q | q
    · exact .inl q
    · right;rw [zl9 s _ t q];simp
   split at he
   · rename_i h1;rw [if_pos h1];have h0:0≤f:=h0.resolve_right (fun h=>h h1);obtain ⟨⟨a,b⟩,c⟩:=z67 hs f.toNat f t (Nat.le_refl _) h0 hv (hf hv) h1;have hl:=z3h s f.toNat f t h0;have so:=z3t _ (z04 _ a);have hsz:=(hf hv).2.1;exact ⟨hv,by rw [z24,so.1,so.2.1 (z2i a)];rfl,so.2.2.2 _ (by simp only [M61];omega) b,by have:=so.2.2.1;simp only;omega,by have:=so.2.2.1;simp only;omega,hl⟩
   · rename_i h1;exact absurd he h1
 · cases he
abbrev oInf (i:Inf):AObj:= .arr 6 [[.a (.fz (.int .i64 i.lv)), .a (.fz (.bool i.bd)), .a (.fz (.int .i64 i.v.k)), .a (.fz (.str i.v.s)), .a (.fz (.int .i64 i.v.n)), .a (.fz (.sl false 4 (FTs i.v.l)))]]
theorem zxz (s:Sto)(hs:OKS s)(i:Inf)(l0:List Tm)(hl0:l0.length≤1000000000):∀ (b pre out:List Tm) (f:Int),out.length=pre.length→out ≠ []→l0=pre++b→0-9223372036854775808≤f→(∀ t∈b,t.sz≤B∧(validB t=true→Fit f.toNat t))→
  RPt Tryz.prog 105 3 (aAr (z2a s i.lv out b f)) (oS s) 1
   ⟨[(0,aS 0),(3,ci f),(11, .c (.a (.ep 3 6 0 0))),(13, .c (.a (.osl 4 4 0 out.length))),(35,aL l0),(36,ci (l0.length:Int)),(37,ci (pre.length:Int))],
    [(0,sto2 1 2 s),(1, .arz 6 (SR s.V)),(2, .arz 1 (IR s.T)),(3,oInf i),(4, .arz 4 (FTs out))],5⟩
 | [],pre,out,f,ho,hne,hl,h0,_=>by
  subst hl;obtain ⟨ilv,ibd,⟨ik,is,iN,il⟩⟩:=i;refine RPt.vc hP sh zm0 (Eq.mpr (zxv f out.length (FTs (pre++ [])) ((pre++ []).length:Nat) (pre.length:Nat) ..) ?_);refine z00 (fun h=>absurd (of_decide_eq_true h) (by rw [List.append_nil];omega)) (fun _=>⟨⟨rfl,by rw [z01];omega⟩, ?_,rfl⟩);rw [List.drop_zero,List.take_of_length_le (by rw [z01];omega)];exact leAr leSl
 | t::b,pre,out,f,ho,hne,hl,h0,hb=>by
  subst hl;obtain ⟨hz,hfit⟩:=hb t List.mem_cons_self;have h3:=ltI' pre t b;have em:=z60 pre t b;have hF:=zeu s hs f t h0 hz hfit;have okF:=z47 hs hfit;have eA:z2a s i.lv out (t::b) f=if (z0k s f t).2.2≠0 then ([],0,(z0k s f t).2.2) else if z63 i.lv out (z0k s f t).1=true then ([],0,171) else z2a s i.lv (out++ [z1d (z0k s f t).1]) b (z0k s f t).2.1:=rfl
  have next:=fun g w h1 h2=>zxz s hs i (pre++t::b) hl0 b (pre++ [t]) (out++ [w]) g (by simp;omega) (by simp) (by simp) h1 h2;simp only [List.length_append,List.length_cons] at hl0;rw [eA];generalize z0k s f t=z at*;obtain ⟨u,g,e⟩:=z;simp only at okF hF ⊢;have h4:((pre.length:Nat):Int)<(((pre++t::b).length:Nat):Int):=by simp only [List.length_append,List.length_cons];omega
  obtain ⟨ilv,ibd,⟨ik,is,iN,il⟩⟩:=i;refine RPt.vc hP sh zm0 (Eq.mpr (zxv f out.length (FTs (pre++t::b)) ((pre++t::b).length:Nat) (pre.length:Nat) ..) ?_);rw [z5h,w64 (x:=((pre.length:Nat):Int)+1) (by omega) (by omega)];refine z00 (fun _=>⟨⟨rfl,by omega,h3,em⟩,(u,g,e),hF,z00 (fun he=> ?_) (fun he=> ?_)⟩) (fun h=>absurd h4 (of_decide_eq_false h))
  · have he:e≠0:=by have he:(e !=0)=true:=he;simpa using he
    rw [if_pos he];exact ⟨leAr (l:=[]) z0m,rfl⟩
  · have he:e=0:=by have he:(e !=0)=false:=he;simpa using he
    subst he;obtain ⟨hv,hvu,hbu,hsz,_,hg0,hg1⟩:=okF rfl;rw [if_neg (by simp)];have hleaf:=zta u hsz hbu;rw [if_pos hvu] at hleaf;have hany:=c_anyO (z1d u) out (by simp only [B];omega);have eb:z63 ilv out u=(!z40 u||((z1d u).k==1&&decide ((z1d u).n≤ilv))||out.any fun v=>lfB v (z1d u)):=rfl
    have go:z63 ilv out u=false→1≤1∧(out.length≤(FTs out).length∧z0u (out.length+1) 56)∧RPt Tryz.prog 105 3 (aAr (z2a s ilv (out++ [z1d u]) b g)) (oS s) 1
      ⟨[(0,aS 0),(3,ci g),(11, .c (.a (.ep 3 6 0 0))),(13, .c (.a (.osl 4 4 0 (out.length+1)))),(35,aL (pre++t::b)),(36,ci ((pre++t::b).length:Int)),(37,ci ((pre.length:Int)+1))],
       [(0,sto2 1 2 s),(1, .arz 6 (SR s.V)),(2, .arz 1 (IR s.T)),(3,oInf ⟨ilv,ibd,⟨ik,is,iN,il⟩⟩),(4, .arz 4 (List.take out.length (FTs out)++ [FT4 (z1d u)]))],5⟩:=fun _=>by
     have hn:=next g (z1d u) (by omega) (fun x hx=>⟨(hb x (List.mem_cons_of_mem _ hx)).1,fun hv=>((hb x (List.mem_cons_of_mem _ hx)).2 hv).mono (by omega)⟩);have e5:List.take out.length (FTs out)++ [FT4 (z1d u)]=FTs (out++ [z1d u]):=by rw [List.take_of_length_le (by rw [z01];omega),z71,z2d];rfl
     have e7:(out++ [z1d u]).length=out.length+1:=by simp
     have e8:(((pre++ [t]).length:Nat):Int)=(pre.length:Int)+1:=by simp
     rw [e7,e8] at hn;rw [e5];exact ⟨Nat.le_refl _,⟨by rw [z01];exact Nat.le_refl _,z6g (by omega)⟩,hn⟩
    have bad:z63 ilv out u=true→(TV.Le (.tup [(false,[.a (.fz .N)]),(false,[.a (.fz (.int .i64 0))]),(false,[.a (.fz (.int .i64 171))])]) (aAr (if z63 ilv out u=true then ([],0,171) else z2a s ilv (out++ [z1d u]) b g))∧oS s=oS s):=fun h=>by
     rw [if_pos h];exact ⟨leAr (l:=[]) z0m,rfl⟩
    have good:∀ h:z63 ilv out u=false,1≤1∧(out.length≤(FTs out).length∧z0u (out.length+1) 56)∧RPt Tryz.prog 105 3 (aAr (if z63 ilv out u=true then ([],0,171) else z2a s ilv (out++ [z1d u]) b g)) (oS s) 1
      ⟨[(0,aS 0),(3,ci g),(11, .c (.a (.ep 3 6 0 0))),(13, .c (.a (.osl 4 4 0 (out.length+1)))),(35,aL (pre++t::b)),(36,ci ((pre++t::b).length:Int)),(37,ci ((pre.length:Int)+1))],
       [(0,sto2 1 2 s),(1, .arz 6 (SR s.V)),(2, .arz 1 (IR s.T)),(3,oInf ⟨ilv,ibd,⟨ik,is,iN,il⟩⟩),(4, .arz 4 (List.take out.length (FTs out)++ [FT4 (z1d u)]))],5⟩:=fun h=>by
     have:=go h;rw [if_neg (by rw [h];simp)];exact this
    refine ⟨(z1d u,z40 u),hleaf,z00 (fun h1=> ?_) (fun h1=> ?_)⟩
    · have h1:((z1d u).k==1)=true:=h1;rw [h1,Bool.true_and] at eb;refine ⟨_,hany,z00 (fun h2=>bad ?_) (fun h2=>z00 (fun h3=>bad ?_) (fun h3=>z00 (fun h4=>bad ?_) (fun h4=>good ?_)))⟩
      · have h2:(!z40 u)=true:=h2;rw [eb,h2];rfl
      · have h3:decide ((z1d u).n≤ilv)=true:=h3;rw [eb,h3,Bool.or_true];rfl
      · have h4:(out.any fun v=>lfB v (z1d u))=true:=h4;rw [eb,h4,Bool.or_true]
      · have h2:(!z40 u)=false:=h2;have h3:decide ((z1d u).n≤ilv)=false:=h3;have h4:(out.any fun v=>lfB v (z1d u))=false:=h4;rw [eb,h2,h3,h4];rfl
    · have h1:((z1d u).k==1)=false:=h1;rw [h1,Bool.false_and,Bool.or_false] at eb;refine ⟨_,hany,z00 (fun h2=>bad ?_) (fun h2=>z00 (fun h4=>bad ?_) (fun h4=>good ?_))⟩
      · have h2:(!z40 u)=true:=h2;rw [eb,h2];rfl
      · have h4:(out.any fun v=>lfB v (z1d u))=true:=h4;rw [eb,h4,Bool.or_true]
      · have h2:(!z40 u)=false:=h2;have h4:(out.any fun v=>lfB v (z1d u))=false:=h4;rw [eb,h2,h4];rfl
theorem zuy (s:Sto)(hs:OKS s)(x f:Int)(l:List Tm)(hl0:l.length≤1000000000)(h0:0-9223372036854775808≤f)(hb:∀ t∈l,t.sz≤B∧(validB t=true→Fit f.toNat t)):AC Tryz.prog 105 [aS 0,ci x,aL l,ci f] (oS s) (aAr (z0x s x l f)) (oS s):=by
 have hI:=z91 s x;have hO:=zwx (fun t=> !validB t) l (by simp only [B];omega) (fun u hu=>c_iodd u (hb u hu).1);have eA:z0x s x l f=if (!inB s.V x||l.any fun t=> !validB t)=true then ([],0,1) else z2a s (infOf s.V x).lv [] l f:=rfl
 rw [eA];generalize infOf s.V x=i at*;generalize inB s.V x=ib at*;generalize (l.any fun t=> !validB t)=od at*;obtain ⟨ilv,ibd,iv⟩:=i;refine AC.vc hP sh zm0 (Nat.le_refl _) (by simp [isLive]) (by simp) (Eq.mpr (v105 x (FTs l) f ..) ?_);refine ⟨(ilv,ibd,iv,ib),hI,z00 (fun h=> ?_) (fun h=>⟨_,hO,z00 (fun h2=> ?_) (fun h2=>⟨rfl, ?_⟩)⟩)⟩
 · have h:(!ib)=true:=h;rw [h,Bool.true_or,if_pos rfl];exact ⟨leAr (l:=[]) z0m,rfl⟩
 · rw [h2,Bool.or_true,if_pos rfl];exact ⟨leAr (l:=[]) z0m,rfl⟩
 have h:(!ib)=false:=h;rw [h,h2,if_neg (by simp),z01];show RPt Tryz.prog 105 3 (aAr (z2a s ilv [] l f)) (oS s) 1 ⟨[(0,aS 0),(3,ci f),(11, .c (.a (.ep 3 6 0 0))),(13, .c (.a (.fz .N))),(35,aL l),(36,ci (l.length:Int)),(37,ci 0)],[(0,sto2 1 2 s),(1, .arz 6 (SR s.V)),(2, .arz 1 (IR s.T)),(3,oInf ⟨ilv,ibd,iv⟩)],4⟩;cases l with
 | nil=>
  obtain ⟨ik,is,iN,il⟩:=iv;refine RPt.vc hP sh zm0 (Eq.mpr (zts f (FTs []) 0 0 ..) ?_);exact z00 (fun h=>by cases h) (fun _=>⟨leAr (l:=[]) z0m,rfl⟩)
 | cons t b=>
  obtain ⟨hz,hfit⟩:=hb t List.mem_cons_self;have h3:=ltI' [] t b;have em:=z60 [] t b;have hF:=zeu s hs f t h0 hz hfit;have okF:=z47 hs hfit;have eA:z2a s ilv [] (t::b) f=if (z0k s f t).2.2≠0 then ([],0,(z0k s f t).2.2) else if z63 ilv [] (z0k s f t).1=true then ([],0,171) else z2a s ilv [z1d (z0k s f t).1] b (z0k s f t).2.1:=rfl
  have next:=fun g w h1 h2=>zxz s hs ⟨ilv,ibd,iv⟩ (t::b) hl0 b [t] [w] g rfl (by simp) rfl h1 h2;simp only [List.length_cons] at hl0;rw [eA];generalize z0k s f t=z at*;obtain ⟨u,g,e⟩:=z;simp only at okF hF ⊢;obtain ⟨ik,is,iN,il⟩:=iv;refine RPt.vc hP sh zm0 (Eq.mpr (zts f (FTs (t::b)) ((t::b).length:Nat) 0 ..) ?_);rw [show aE (List.getD (FTs (t::b)) (Int.toNat 0) [])=aT t from zfs t,w64 (x:=(0:Int)+1) (by omega) (by omega)];refine z00 (fun _=>⟨⟨rfl,Int.le_refl _,h3,em⟩,(u,g,e),hF,z00 (fun he=> ?_) (fun he=> ?_)⟩) (fun h=>absurd (of_decide_eq_false h) (by simp only [List.length_cons];omega))
  · have he:e≠0:=by have he:(e !=0)=true:=he;simpa using he
    rw [if_pos he];exact ⟨leAr (l:=[]) z0m,rfl⟩
  · have he:e=0:=by have he:(e !=0)=false:=he;simpa using he
    subst he;obtain ⟨hv,hvu,hbu,hsz,_,hg0,hg1⟩:=okF rfl;rw [if_neg (by simp)];have hleaf:=zta u hsz hbu;rw [if_pos hvu] at hleaf;have hany:=c_anyN (z1d u);have eb:z63 ilv [] u=(!z40 u||((z1d u).k==1&&decide ((z1d u).n≤ilv))):=by rw [z63,List.any_nil,Bool.or_false]
    have bad:z63 ilv [] u=true→(TV.Le (.tup [(false,[.a (.fz .N)]),(false,[.a (.fz (.int .i64 0))]),(false,[.a (.fz (.int .i64 171))])]) (aAr (if z63 ilv [] u=true then ([],0,171) else z2a s ilv [z1d u] b g))∧oS s=oS s):=fun h=>by
     rw [if_pos h];exact ⟨leAr (l:=[]) z0m,rfl⟩
    have good:∀ h:z63 ilv [] u=false,1≤1∧z0u 1 56∧RPt Tryz.prog 105 3 (aAr (if z63 ilv [] u=true then ([],0,171) else z2a s ilv [z1d u] b g)) (oS s) 1
      ⟨[(0,aS 0),(3,ci g),(11, .c (.a (.ep 3 6 0 0))),(13, .c (.a (.osl 4 4 0 1))),(35,aL (t::b)),(36,ci ((t::b).length:Int)),(37,ci (0+1))],
       [(0,sto2 1 2 s),(1, .arz 6 (SR s.V)),(2, .arz 1 (IR s.T)),(3,oInf ⟨ilv,ibd,⟨ik,is,iN,il⟩⟩),(4, .arz 4 [FT4 (z1d u)])],5⟩:=fun h=>by
     have hn:=next g (z1d u) (by omega) (fun x hx=>⟨(hb x (List.mem_cons_of_mem _ hx)).1,fun hv=>((hb x (List.mem_cons_of_mem _ hx)).2 hv).mono (by omega)⟩);rw [if_neg (by rw [h];simp),z71];exact ⟨Nat.le_refl _,z6g (by omega),hn⟩
    refine ⟨(z1d u,z40 u),hleaf,z00 (fun h1=> ?_) (fun h1=> ?_)⟩
    · have h1:((z1d u).k==1)=true:=h1;rw [h1,Bool.true_and] at eb;refine ⟨_,hany,z00 (fun h2=>bad ?_) (fun h2=>z00 (fun h3=>bad ?_) (fun h3=>z00 (fun h4=>by cases h4) (fun _=>good ?_)))⟩
      · have h2:(!z40 u)=true:=h2;rw [eb,h2];rfl
      · have h3:decide ((z1d u).n≤ilv)=true:=h3;rw [eb,h3,Bool.or_true]
      · have h2:(!z40 u)=false:=h2;have h3:decide ((z1d u).n≤ilv)=false:=h3;rw [eb,h2,h3];rfl
    · have h1:((z1d u).k==1)=false:=h1;rw [h1,Bool.false_and,Bool.or_false] at eb;refine ⟨_,hany,z00 (fun h2=>bad ?_) (fun h2=>z00 (fun h4=>by cases h4) (fun _=>good ?_))⟩
      · have h2:(!z40 u)=true:=h2;rw [eb,h2]
      · have h2:(!z40 u)=false:=h2;rw [eb,h2]
end Go.AM

set_option maxRecDepth 100000
open Go Go.Proofs
namespace Go.AM
def FPr (p:Tm×Tm):List FV:=FT p.1++FT p.2
def PTs (l:List (Tm×Tm)):List (List FV):=l.map FPr
theorem z5n (l:List (Tm×Tm)):(PTs l).length=l.length:=by simp [PTs]
theorem z83 (a b:List (Tm×Tm)):PTs (a++b)=PTs a++PTs b:=by simp [PTs]
theorem FPr_len (p:Tm×Tm):(FPr p).length=8:=by simp [FPr,z2j]
abbrev fnB (bk oc:Nat):TV:= .c (.fn (.func bk) [] [(false,[.ep oc 1 0 0])])
theorem c_backT (l:List Tm):AC Tryz.prog 91 [aL l] [] (fnB 104 0) [.arr 1 [[.a (.fz (.sl false 4 (FTs l)))]]]:=by
 refine AC.vc hP sh lv91 (by simp) (by simp) (by simp [isLive]) (Eq.mpr (v91 ..) ?_);exact ⟨.refl _,rfl⟩
theorem c_backP (l:List (List FV)):AC Tryz.prog 40 [.c (.a (.fz (.sl false 8 l)))] [] (fnB 58 0) [.arr 1 [[.a (.fz (.sl false 8 l))]]]:=by
 refine AC.vc hP sh lv40 (by simp) (by simp) (by simp [isLive]) (Eq.mpr (v40 ..) ?_);exact ⟨.refl _,rfl⟩
theorem isBkT:IsBk Tryz.prog 104 24 26:=⟨by kernel_rfl,_,136,3,4,Tryz.func104,by kernel_rfl,by kernel_rfl,by kernel_rfl⟩
theorem bTyT:zr7 Tryz.prog 24 26 4=true:=by kernel_rfl
theorem isBkP:IsBk Tryz.prog 58 63 62:=⟨by kernel_rfl,_,99,3,4,Tryz.func58,by kernel_rfl,by kernel_rfl,by kernel_rfl⟩
theorem bTyP:zr7 Tryz.prog 63 62 8=true:=by kernel_rfl
def stk (R:List (List FV))(n:Nat)(ps:List (Tm×Tm)):List (List FV):=if ps=[] then R else R.take n++PTs ps
theorem zrf {R:List (List FV)}{n:Nat}(hn:n≤R.length)(ps:List (Tm×Tm)):n+ps.length≤(stk R n ps).length∧(stk R n ps).take (n+ps.length)=R.take n++PTs ps:=by
 unfold stk;split
 · rename_i h;subst h;simp [PTs,hn]
 · have h1:(R.take n++PTs ps).length=n+ps.length:=by simp [z5n];omega
   exact ⟨by omega,List.take_of_length_le (by omega)⟩
abbrev oWk (s:Sto)(n:Nat)(R:List (List FV))(f:Int):List AObj:=[.arr 3 [[.a (.ep 1 2 0 0), .a (.osl 4 8 0 n), .a (.fz (.int .i64 f))]],sto2 2 3 s, .arz 6 (SR s.V), .arz 1 (IR s.T), .arz 8 R]
abbrev oWk' (s:Sto)(n:Nat)(R:List (List FV))(f:Int):List AObj:=[.arr 3 [[.a (.ep 1 2 0 0), .a (.osl 7 8 0 n), .a (.fz (.int .i64 f))]],sto2 5 6 s, .gone, .gone, .gone, .arz 6 (SR s.V), .arz 1 (IR s.T), .arz 8 R]
abbrev hpPu (s:Sto)(n:Nat)(R:List (List FV))(f:Int)(a b:List Tm):AHeap:=
 [(0, .arr 3 [[.a (.ep 1 2 0 0), .a (.osl 14 8 0 n), .a (.fz (.int .i64 f))]]),(1,sto2 12 13 s),(2, .gone),(3, .gone),(4, .gone),(5, .gone),(6, .gone),(7, .gone),(8, .arr 1 [[.a (.ep 0 3 0 0)]]),(9, .arr 1 [[.a (.fz (.sl false 4 (FTs a)))]]),(10, .arr 1 [[.a (.fz (.sl false 4 (FTs b)))]]),(11, .arr 1 [[.a (.fz (.sl false 4 (FTs a)))]]),(12, .arz 6 (SR s.V)),(13, .arz 1 (IR s.T)),(14, .arz 8 R)]
theorem zy0 (s:Sto)(n:Nat)(R:List (List FV))(f:Int)(a b:List Tm)(hab:a.length=b.length)(hn:n≤R.length)(hs:n+a.length≤1099511627776):
  AC Tryz.prog 74 [.c (.a (.ep 0 3 0 0)),aL a,aL b] (oWk s n R f) (.tup []) (oWk' s (n+a.length) (stk R n (a.zip b).reverse) f):=by
 refine AC.vc hP sh lv74 (by simp) (by simp [isLive]) (by simp [isLive]) (Eq.mpr (v74 (FTs a) (FTs b) ..) ?_);refine ⟨a,c_backT a, ?_⟩;have hz:(a.zip b).length=a.length:=by simp [hab]
 refine RPt.backF (sh:=sh) (lv:=lv74) (α:=Nat) (Inv:=fun i=>i≤a.length) (idx:=fun i=>i) (nx:=fun _=>15) (m0:=12) (U:=[5,6,7]) (live:=[3,4,5,8]) (oc:=11) (n:=4) (es:=FTs a) (x0:=a.length) (g:= .tmp 8) (env:=[(3, .c (.a (.ep 8 1 0 0))),(4, .c (.a (.ep 9 1 0 0))),(5, .c (.a (.ep 10 1 0 0))),(8,fnB 104 11)])
  (H:=fun i=>hpPu s (n+(a.length-i)) (stk R n ((a.zip b).drop i).reverse) f a b) hP (by kernel_rfl) isBkT bTyT ?_ (by kernel_rfl) (by kernel_rfl) (by kernel_rfl) (by kernel_rfl) (fun _ _=>by omega) (fun _ _=>rfl) (fun e he=> ?_) (by rw [z01];omega) (fun i hi=>by rw [z01];exact hi) (fun i k hi hik hk=> ?_) (Nat.le_refl _) (by rw [z01]) (fun i hi h0=> ?_)
 · refine Eq.mpr (v74_1an ..) ?_;rw [Nat.sub_self,Nat.add_zero,List.drop_eq_nil_of_le (by omega)];rfl
 · rw [z2f] at he;obtain ⟨t,_,rfl⟩:=List.mem_map.1 he;exact z2j t
 · have hik:i=k+1:=hik;have hi:i≤a.length:=hi;subst hik;have ha:k<a.length:=by omega
   have hb:k<b.length:=by omega
   have hd:=zrf hn ((a.zip b).drop (k+1)).reverse;have hrl:(((a.zip b).drop (k+1)).reverse).length=a.length-(k+1):=by simp [hab]
   rw [hrl] at hd;have ea:List.getD (FTs a) (Int.toNat ((k:Nat):Int)) []=FT a[k]:=by rw [z2f];simp [List.getD,ha]
   have eb:List.getD (FTs b) (Int.toNat ((k:Nat):Int)) []=FT b[k]:=by rw [z2f];simp [List.getD,hb]
   have edz:(a.zip b).drop k=(a[k],b[k])::(a.zip b).drop (k+1):=by
    rw [List.drop_eq_getElem_cons (by omega)];simp
   have estk:stk R n ((a.zip b).drop k).reverse=List.take (n+(a.length-(k+1))) (stk R n ((a.zip b).drop (k+1)).reverse)++ [FPr (a[k],b[k])]:=by
    rw [hd.2,edz,List.reverse_cons];unfold stk;rw [if_neg (by simp),z83,←List.append_assoc];rfl
   have en:n+(a.length-k)=n+(a.length-(k+1))+1:=by omega
   have ef:List.getD (FTs a) k []=FT a[k]:=by rw [←ea,Int.toNat_natCast]
   rw [ef];generalize a[k]=u at*;generalize b[k]=w at*;obtain ⟨uk,us,un,ul⟩:=u;obtain ⟨wk,ws,wn,wl⟩:=w;refine Eq.mpr (v74_1ara ..) ?_;rw [ea,eb,z01,z01];refine ⟨⟨rfl,by omega,by omega,rfl⟩,⟨rfl,by omega,by omega,rfl⟩,Nat.le_refl _,⟨hd.1,by unfold z0u;omega⟩,k,⟨(by omega:k≤a.length),rfl⟩, ?_,rfl⟩;show _=hpPu s (n+(a.length-k)) (stk R n ((a.zip b).drop k).reverse) f a b;rw [estk,en];rfl
 · have h0:i=0:=h0;subst h0;refine Eq.mpr (v74_1aza ..) ?_;rw [List.drop_zero,Nat.sub_zero];exact ⟨.refl _,rfl⟩
end Go.AM

set_option maxRecDepth 100000
open Go Go.Proofs
namespace Go.AM
structure IS where
 s:Sto
 f:Int
 e:Int
abbrev aIV:TV:= .c (.a (.ep 0 6 0 0))
abbrev oIV (x lv:Int)(L:List Tm)(f e:Int):AObj:= .arr 6 [[.a (.ep 1 2 0 0), .a (.fz (.int .i64 x)), .a (.fz (.int .i64 lv)), .a (.fz (.sl false 4 (FTs L))), .a (.fz (.int .i64 f)), .a (.fz (.int .i64 e))]]
abbrev oIs (x lv:Int)(L:List Tm)(f e:Int)(s:Sto):List AObj:=[oIV x lv L f e,sto2 2 3 s, .arz 6 (SR s.V), .arz 1 (IR s.T)]
abbrev oIt (x lv:Int)(L:List Tm)(f e:Int)(s:Sto):List AObj:=[oIV x lv L f e,sto2 4 5 s, .gone, .gone, .arz 6 (SR s.V), .arz 1 (IR s.T)]
abbrev bV3 (n:Int):Tm:= .mk 3 [] n []
def z3o (q:IS)(e:Int):IS:=if q.e=0 then ⟨q.s,q.f,e⟩ else q
theorem ztx (x lv:Int)(L:List Tm)(f e er:Int)(s:Sto):AC Tryz.prog 127 [aIV,ci er] (oIs x lv L f e s) (aT noT) (oIs x lv L f (if e=0 then er else e) s):=by
 refine AC.vc hP sh lv127 (by simp) (by simp [isLive]) (by simp) (Eq.mpr (v127 ..) ?_);refine z00 (fun h=> ?_) (fun h=> ?_)
 · have h:(e==0)=true:=h;rw [if_pos (by simpa using h)];exact ⟨leT (l:=[]) z0m,rfl⟩
 · have h:(e==0)=false:=h;rw [if_neg (by simpa using h)];exact ⟨leT (l:=[]) z0m,rfl⟩
def outT (t:Tm)(k:Int):Tm:=if t.k=3 then .mk t.k t.s (t.n-k) t.l else t
def imgT (lv:Int)(L:List Tm)(t:Tm)(k:Int):Tm×Bool:=
 if t.k=3∧t.n<k then (t,true) else if ixF (fun u=>lfB u (outT t k)) L 0≥0 then (bV3 (k+(L.length:Int)-1-ixF (fun u=>lfB u (outT t k)) L 0),true) else (t,t.k==1&&decide (t.n≤lv))
theorem zp1 (x lv:Int)(L:List Tm)(f e:Int)(s:Sto)(t:Tm)(k:Int)(hL:L.length≤100000)(hn:t.k=3→ -4611686018427387904≤t.n∧t.n≤4611686018427387904)(hk0:0≤k)(hk1:k≤1099511627776):
  AC Tryz.prog 129 [aIV,aT t,ci k] (oIs x lv L f e s) (zhk (imgT lv L t k).1 (imgT lv L t k).2) (oIs x lv L f e s):=by
 have hx:=zs2 (fun u=>lfB u (outT t k)) (outT t k) L (by simp only [B];omega) (fun u _=>c_image1 u (outT t k));have hlt:=zqh (fun u=>lfB u (outT t k)) L 0;have i1:t.k=3∧t.n<k→imgT lv L t k=(t,true):=fun h=>if_pos h;have i2:¬(t.k=3∧t.n<k)→ixF (fun u=>lfB u (outT t k)) L 0≥0→imgT lv L t k=(bV3 (k+(L.length:Int)-1-ixF (fun u=>lfB u (outT t k)) L 0),true):=fun h h2=>(if_neg h).trans (if_pos h2);have i3:¬(t.k=3∧t.n<k)→¬ixF (fun u=>lfB u (outT t k)) L 0≥0→imgT lv L t k=(t,t.k==1&&decide (t.n≤lv)):=fun h h2=>(if_neg h).trans (if_neg h2);generalize imgT lv L t k=Z at*;generalize ixF (fun u=>lfB u (outT t k)) L 0=p at*;have hb:=zag (k+(L.length:Int)-1-p);obtain ⟨tk,ts,tn,tl⟩:=t;simp only [Tm.n,Tm.k] at hn i1 i2 i3
 have tail:¬(tk=3∧tn<k)→br (decide (p≥0)) (FV.L 4 (.sl false 4 (FTs L))=true∧∃ z2:Tm,AC Tryz.prog 107 [ci (IntKind.wrap .i64 (IntKind.wrap .i64 (IntKind.wrap .i64 (k+(((FTs L).length:Nat):Int))-1)-p))] [] (aT z2) []∧
   TV.Le (.tup [(true,cT z2),(false,[.a (.fz (.bool true))])]) (zhk Z.1 Z.2)∧oIs x lv L f e s=oIs x lv L f e s)
   (br (tk==1) (TV.Le (.tup [(true,[.a (.fz (.int .i64 tk)), .a (.fz (.str ts)), .a (.fz (.int .i64 tn)), .a (.fz (.sl false 4 (FTs tl)))]),(false,[.a (.fz (.bool (decide (tn≤lv))))])]) (zhk Z.1 Z.2)∧oIs x lv L f e s=oIs x lv L f e s)
    (TV.Le (.tup [(true,[.a (.fz (.int .i64 tk)), .a (.fz (.str ts)), .a (.fz (.int .i64 tn)), .a (.fz (.sl false 4 (FTs tl)))]),(false,[.a (.fz (.bool false))])]) (zhk Z.1 Z.2)∧oIs x lv L f e s=oIs x lv L f e s)):=by
  intro h0;rw [z01];refine z00 (fun h=> ?_) (fun h=> ?_)
  · have h:=of_decide_eq_true h;rw [i2 h0 h,w64 (x:=k+(L.length:Int)) (by omega) (by omega),w64 (x:=k+(L.length:Int)-1) (by omega) (by omega),w64 (x:=k+(L.length:Int)-1-p) (by omega) (by omega)];exact ⟨rfl,_,hb, .refl _,rfl⟩
  · have h:=of_decide_eq_false h;rw [i3 h0 h];refine z00 (fun h1=> ?_) (fun h1=> ?_)
    · rw [h1,Bool.true_and];exact ⟨.refl _,rfl⟩
    · rw [h1,Bool.false_and];exact ⟨.refl _,rfl⟩
 refine AC.vc hP sh lv129 (by simp) (by simp [isLive]) (by simp) (Eq.mpr (v129 tk ts tn (FTs tl) k ..) ?_);refine z00 (fun h3=> ?_) (fun h3=> ?_)
 · have h3:tk=3:=by have h3:(tk==3)=true:=h3;simpa using h3
   subst h3;have hn:=hn rfl;have eo:outT (.mk 3 ts tn tl) k= .mk 3 ts (tn-k) tl:=rfl;rw [eo] at hx;refine z00 (fun h4=> ?_) (fun h4=> ?_)
   · have h4:=of_decide_eq_true h4;rw [i1 ⟨rfl,h4⟩];exact ⟨.refl _,rfl⟩
   · have h4:=of_decide_eq_false h4;rw [w64 (x:=tn-k) (by omega) (by omega)];refine z00 (fun _=>⟨p,hx,tail (fun q=>h4 q.2)⟩) (fun h=>by cases h)
 · have h3:tk≠3:=by have h3:(tk==3)=false:=h3;simpa using h3
   have eo:outT (.mk tk ts tn tl) k= .mk tk ts tn tl:=if_neg h3;rw [eo] at hx;refine z00 (fun h=>absurd (by have h:(tk==3)=true:=h;simpa using h) h3) (fun _=>⟨p,hx,tail (fun q=>h3 q.1)⟩)
end Go.AM

set_option maxRecDepth 100000
open Go Go.Proofs
namespace Go.AM
def imgs (lv:Int)(L:List Tm)(k:Int)(m:Nat):List Tm→Nat→List Tm×List Tm→List Tm×List Tm
 | [],_,a=>a
 | t::l,i,a=>imgs lv L k m l (i+1) (if (imgT lv L t k).2=true then (a.1++ [bV3 ((m:Int)-1-(i:Int))],a.2++ [(imgT lv L t k).1]) else a)
def z6v (c:Bool)(lvy k:Int)(n:Nat):List Tm→Nat→List Tm×List Tm→List Tm×List Tm
 | [],_,a=>a
 | t::l,i,a=>z6v c lvy k n l (i+1) (if (c&&(t.k==1&&decide (t.n≤lvy)))=true then (a.1++ [t],a.2++ [bV3 (k+(n:Int)-1-(i:Int))]) else a)
def onF (lv lvy:Int)(L:List Tm)(k:Int)(ls:List Tm):List Tm×List Tm:=z6v (decide (lvy>lv)) lvy k L.length L 0 (imgs lv L k ls.length ls 0 ([],[]))
def z65 (lv:Int)(L:List Tm)(q:IS)(y k:Int)(ls:List Tm)(f:Int):Tm×IS:=
 if (imgs lv L k ls.length ls 0 ([],[])).1.length=ls.length∧(infOf q.s.V y).lv≤lv then (z09 (.mk 4 [] y []) (imgs lv L k ls.length ls 0 ([],[])).2,⟨q.s,f,q.e⟩)
 else (z09 (.mk 4 [] (q.s.V.length:Int) []) (onF lv (infOf q.s.V y).lv L k ls).2,⟨z3y q.s y (z0d [lv,(infOf q.s.V y).lv]) ls.length (onF lv (infOf q.s.V y).lv L k ls).1,f,q.e⟩)
def z3m (lv:Int)(L:List Tm)(q:IS)(y:Int)(l:List Tm)(k:Int):Tm×IS:=
 if (z0x q.s y l q.f).2.2≠0 then (noT,z3o q (z0x q.s y l q.f).2.2) else z65 lv L q y k (z0x q.s y l q.f).1 (z0x q.s y l q.f).2.1
abbrev fxH (x lv:Int)(L:List Tm)(f e:Int)(s:Sto)(i:Inf):AHeap:=[(0,oIV x lv L f e),(1,sto2 4 5 s),(2, .gone),(3, .gone),(4, .arz 6 (SR s.V)),(5, .arz 1 (IR s.T)),(6, .arr 4 [zT]),(7,oInf i)]
abbrev fxS (x lv:Int)(L:List Tm)(f e:Int)(s:Sto)(i:Inf)(y k:Int)(ls on im l:List Tm)(a b c:Nat)(j:Int):St:=
 if on=[] then ⟨[(0,aIV),(1,ci y),(3,ci k),(8, .c (.a (.ep 6 4 0 0))),(9,aL ls),(12, .c (.a (.ep 7 6 0 0))),(14, .c (.a (.fz .N))),(15, .c (.a (.fz .N))),(a,aL l),(b,ci (l.length:Int)),(c,ci j)],fxH x lv L f e s i,8⟩
 else ⟨[(0,aIV),(1,ci y),(3,ci k),(8, .c (.a (.ep 6 4 0 0))),(9,aL ls),(12, .c (.a (.ep 7 6 0 0))),(14, .c (.a (.osl 8 4 0 on.length))),(15, .c (.a (.osl 9 4 0 im.length))),(a,aL l),(b,ci (l.length:Int)),(c,ci j)],fxH x lv L f e s i++ [(8, .arz 4 (FTs on)),(9, .arz 4 (FTs im))],10⟩
theorem zwn {α:Type}(l:List α)(a:α):l++ [a] ≠ []:=by simp
theorem znu (x lv:Int) (L:List Tm) (f e:Int) (s:Sto) (ilv:Int) (ibd:Bool) (iv:Tm) (y k:Int) (ls:List Tm) (hL:L.length≤100000) (hk0:0≤k) (hk1:k≤1099511627776) (r:Tm) (S:Sto) (fin:List Tm×List Tm)
  (hfin:fin.1.length≤200000∧fin.2.length≤200000) (hh:AC Tryz.prog 108 [aS 0,ci y,ci (z0d [lv,ilv]),ci (ls.length:Int),aL fin.1] (oS s) (aT (.mk 4 [] (s.V.length:Int) [])) (oS' S)) (hr:z09 (.mk 4 [] (s.V.length:Int) []) fin.2=r):
  ∀ (b pre on im:List Tm),L=pre++b→on.length=im.length→on.length+b.length≤200000→z6v (decide (ilv>lv)) ilv k L.length b pre.length (on,im)=fin→
  RPt Tryz.prog 128 4 (aT r) (oIt x lv L f e S) 5 (fxS x lv L f e s ⟨ilv,ibd,iv⟩ y k ls on im L 105 106 107 (pre.length:Int))
 | [],pre,on,im,hl,ho,h2,hm=>by
  rw [List.append_nil] at hl;have hm:(on,im)=fin:=hm;subst hm;have ha:=z46 (.mk 4 [] (s.V.length:Int) []) im (by simp only [Tm.l,List.length_nil];omega);simp only at hh hr hfin;rw [hr] at ha;obtain ⟨ik,is,iN,il⟩:=iv;unfold fxS;by_cases hn:on=[]
  · subst hn;have:im=[]:=List.eq_nil_of_length_eq_zero ho.symm;subst this;rw [if_pos rfl];refine RPt.vc hP sh z9h (Eq.mpr (zun ..) ?_);refine z00 (fun h=>absurd (of_decide_eq_true h) (by rw [hl];omega)) (fun _=>⟨rfl, ?_⟩);rw [z01];exact ⟨(_,S),hh.args ⟨.refl _, .refl _, .refl _, .refl _, .c _ _ (.a _ _ (.fz _ _ z0m)),trivial⟩,_,ha.args ⟨.refl _, .c _ _ (.a _ _ (.fz _ _ z0m)),trivial⟩, .refl _,rfl⟩
  · rw [if_neg hn];refine RPt.vc hP sh z9h (Eq.mpr (zui ..) ?_);refine z00 (fun h=>absurd (of_decide_eq_true h) (by rw [hl];omega)) (fun _=>⟨rfl,⟨rfl,by rw [z01];omega⟩, ?_⟩);rw [z01,List.drop_zero,List.take_of_length_le (l:=FTs on) (by rw [z01];exact Nat.le_refl _),List.drop_zero,List.take_of_length_le (l:=FTs im) (by rw [z01];exact Nat.le_refl _)];refine ⟨(_,S),hh, ?_⟩;exact ⟨⟨rfl,by rw [z01];omega⟩,_,ha, .refl _,rfl⟩
 | t::b,pre,on,im,hl,ho,h2,hm=>by
  have hlen:L.length=pre.length+(b.length+1):=by rw [hl];simp
  have em:List.getD (FTs L) (Int.toNat (pre.length:Int)) []=FT t:=by rw [hl];exact midI pre t b
  have h3:((pre.length:Nat):Int)<(((FTs L).length:Nat):Int):=by rw [z01];omega
  have ek:FV.I (List.getD (FT t) 0 FV.N)=t.k:=by cases t;rfl
  have en:FV.I (List.getD (FT t) 2 FV.N)=t.n:=by cases t;rfl
  have hmm:z6v (decide (ilv>lv)) ilv k L.length (t::b) pre.length (on,im)=z6v (decide (ilv>lv)) ilv k L.length b (pre.length+1) (if (decide (ilv>lv)&&(t.k==1&&decide (t.n≤ilv)))=true then (on++ [t],im++ [bV3 (k+(L.length:Int)-1-(pre.length:Int))]) else (on,im)):=rfl
  rw [hmm] at hm;have ej:(((pre++ [t]).length:Nat):Int)=(pre.length:Int)+1:=by simp
  have en1:(pre++ [t]).length=pre.length+1:=by simp
  have skip:(decide (ilv>lv)&&(t.k==1&&decide (t.n≤ilv)))=false→RPt Tryz.prog 128 4 (aT r) (oIt x lv L f e S) 5 (fxS x lv L f e s ⟨ilv,ibd,iv⟩ y k ls on im L 105 106 107 ((pre.length:Int)+1)):=fun h=>by
   rw [h,if_neg (by simp)] at hm;have:=znu x lv L f e s ilv ibd iv y k ls hL hk0 hk1 r S fin hfin hh hr b (pre++ [t]) on im (by rw [hl];simp) ho (by simp only [List.length_cons] at h2;omega) (by rw [en1];exact hm);rw [ej] at this;exact this
  have take:(decide (ilv>lv)&&(t.k==1&&decide (t.n≤ilv)))=true→on.length+1+b.length≤200000→RPt Tryz.prog 128 4 (aT r) (oIt x lv L f e S) 5 (fxS x lv L f e s ⟨ilv,ibd,iv⟩ y k ls (on++ [t]) (im++ [bV3 (k+(L.length:Int)-1-(pre.length:Int))]) L 105 106 107 ((pre.length:Int)+1)):=fun h h9=>by
   rw [if_pos h] at hm;have:=znu x lv L f e s ilv ibd iv y k ls hL hk0 hk1 r S fin hfin hh hr b (pre++ [t]) (on++ [t]) (im++ [bV3 (k+(L.length:Int)-1-(pre.length:Int))]) (by rw [hl];simp) (by simp [ho]) (by simp only [List.length_append,List.length_cons,List.length_nil];omega) (by rw [en1];exact hm);rw [ej] at this;exact this
  have hb:=zag (k+(L.length:Int)-1-(pre.length:Int));have room:on.length+1+b.length≤200000:=by simp only [List.length_cons] at h2;omega
  have op:FV.L 4 (.sl false 4 (FTs L))=true∧((0:Int)≤(pre.length:Int)∧(((pre.length:Int)<(((FTs L).length:Nat):Int))∧((rE (FT t):List FV)=FT t))):=⟨rfl,by omega,h3,zf3 t⟩;obtain ⟨ik,is,iN,il⟩:=iv
  have w:IntKind.wrap .i64 (IntKind.wrap .i64 (IntKind.wrap .i64 (k+(((FTs L).length:Nat):Int))-1)-(pre.length:Int))=k+(L.length:Int)-1-(pre.length:Int):=by
   rw [z01,w64 (x:=k+(L.length:Int)) (by omega) (by omega),w64 (x:=k+(L.length:Int)-1) (by omega) (by omega),w64 (by omega) (by omega)]
  unfold fxS at skip take ⊢;rw [if_neg (zwn on t)] at take;by_cases hn:on=[]
  · subst hn;have:im=[]:=List.eq_nil_of_length_eq_zero ho.symm;subst this;rw [if_pos rfl] at skip ⊢;refine RPt.vc hP sh z9h (Eq.mpr (zun ..) ?_);rw [em,ek,en,w64 (x:=(pre.length:Int)+1) (by omega) (by omega),w];refine z00 (fun _=>⟨op,z00 (fun c1=>z00 (fun c2=>z00 (fun c3=> ?_) (fun c3=>skip ?_)) (fun c2=>skip ?_)) (fun c1=>skip ?_)⟩) (fun h=>absurd (of_decide_eq_false h) (by omega))
    · have c1:decide (ilv>lv)=true:=c1;have c2:(t.k==1)=true:=c2;have c3:decide (t.n≤ilv)=true:=c3;refine ⟨Nat.le_refl _,z6g (by omega),rfl,_,hb,Nat.le_refl _,z6g (by omega), ?_⟩;rw [zf3];exact take (by rw [c1,c2,c3];rfl) room
    · have c3:decide (t.n≤ilv)=false:=c3;rw [c3,Bool.and_false,Bool.and_false]
    · have c2:(t.k==1)=false:=c2;rw [c2,Bool.false_and,Bool.and_false]
    · have c1:decide (ilv>lv)=false:=c1;rw [c1,Bool.false_and]
  · rw [if_neg hn] at skip ⊢;refine RPt.vc hP sh z9h (Eq.mpr (zui ..) ?_);rw [em,ek,en,w64 (x:=(pre.length:Int)+1) (by omega) (by omega),w];refine z00 (fun _=>⟨op,z00 (fun c1=>z00 (fun c2=>z00 (fun c3=> ?_) (fun c3=>skip ?_)) (fun c2=>skip ?_)) (fun c1=>skip ?_)⟩) (fun h=>absurd (of_decide_eq_false h) (by omega))
    · have c1:decide (ilv>lv)=true:=c1;have c2:(t.k==1)=true:=c2;have c3:decide (t.n≤ilv)=true:=c3;refine ⟨Nat.le_refl _,⟨by rw [z01];exact Nat.le_refl _,z6g (by omega)⟩,rfl,_,hb,Nat.le_refl _,⟨by rw [z01];exact Nat.le_refl _,z6g (by omega)⟩, ?_⟩;rw [zf3,List.take_of_length_le (l:=FTs on) (by rw [z01];exact Nat.le_refl _),List.take_of_length_le (l:=FTs im) (by rw [z01];exact Nat.le_refl _),z71];have:=take (by rw [c1,c2,c3];rfl) room;rw [z2d,z2d,List.length_append,List.length_append] at this;exact this
    · have c3:decide (t.n≤ilv)=false:=c3;rw [c3,Bool.and_false,Bool.and_false]
    · have c2:(t.k==1)=false:=c2;rw [c2,Bool.false_and,Bool.and_false]
    · have c1:decide (ilv>lv)=false:=c1;rw [c1,Bool.false_and]
theorem z7r (c:Bool)(lvy k:Int)(n:Nat):∀ (l:List Tm) (i:Nat) (a:List Tm×List Tm),a.1.length=a.2.length→(z6v c lvy k n l i a).1.length=(z6v c lvy k n l i a).2.length∧(z6v c lvy k n l i a).1.length≤a.1.length+l.length
 | [],_,a,h=>⟨h,Nat.le_refl _⟩
 | t::l,i,a,h=>by
  rw [z6v];split
  · have:=z7r c lvy k n l (i+1) (a.1++ [t],a.2++ [bV3 (k+(n:Int)-1-(i:Int))]) (by simp [h]);exact ⟨this.1,by have:=this.2;simp only [List.length_append,List.length_cons,List.length_nil] at this ⊢;omega⟩
  · have:=z7r c lvy k n l (i+1) a h;exact ⟨this.1,by have:=this.2;simp only [List.length_cons];omega⟩
theorem z9t (lv:Int)(L:List Tm)(k:Int)(m:Nat):∀ (l:List Tm) (i:Nat) (a:List Tm×List Tm),a.1.length=a.2.length→(imgs lv L k m l i a).1.length=(imgs lv L k m l i a).2.length∧(imgs lv L k m l i a).1.length≤a.1.length+l.length
 | [],_,a,h=>⟨h,Nat.le_refl _⟩
 | t::l,i,a,h=>by
  rw [imgs];split
  · have:=z9t lv L k m l (i+1) (a.1++ [bV3 ((m:Int)-1-(i:Int))],a.2++ [(imgT lv L t k).1]) (by simp [h]);exact ⟨this.1,by have:=this.2;simp only [List.length_append,List.length_cons,List.length_nil] at this ⊢;omega⟩
  · have:=z9t lv L k m l (i+1) a h;exact ⟨this.1,by have:=this.2;simp only [List.length_cons];omega⟩
theorem zo9 (x lv:Int) (L:List Tm) (f e:Int) (s:Sto) (ilv:Int) (ibd:Bool) (iv:Tm) (y k:Int) (ls:List Tm) (hls:ls.length≤100000) (r:Tm) (S:Sto) (fin:List Tm×List Tm)
  (hI:∀ t∈ls,AC Tryz.prog 129 [aIV,aT t,ci k] (oIs x lv L f e s) (zhk (imgT lv L t k).1 (imgT lv L t k).2) (oIs x lv L f e s))
  (full:fin.1.length=ls.length→ilv≤lv→z09 (.mk 4 [] y []) fin.2=r∧s=S)
  (part:¬(fin.1.length=ls.length∧ilv≤lv)→RPt Tryz.prog 128 4 (aT r) (oIt x lv L f e S) 5 (fxS x lv L f e s ⟨ilv,ibd,iv⟩ y k ls fin.1 fin.2 L 105 106 107 0)):
  ∀ (b pre on im:List Tm),ls=pre++b→on.length=im.length→on.length≤pre.length→imgs lv L k ls.length b pre.length (on,im)=fin→
  RPt Tryz.prog 128 4 (aT r) (oIt x lv L f e S) 1 (fxS x lv L f e s ⟨ilv,ibd,iv⟩ y k ls on im ls 55 56 57 (pre.length:Int))
 | [],pre,on,im,hl,ho,h2,hm=>by
  rw [List.append_nil] at hl;have hm:(on,im)=fin:=hm;subst hm;have hlp:ls.length=pre.length:=by rw [hl]
  have ha:=z46 (.mk 4 [] y []) im (by simp only [Tm.l,List.length_nil];omega);simp only at full part;have hv:=zek y;obtain ⟨ik,is,iN,il⟩:=iv;unfold fxS at part ⊢;by_cases hn:on=[]
  · subst hn;have:im=[]:=List.eq_nil_of_length_eq_zero ho.symm;subst this;rw [if_pos rfl] at part ⊢;refine RPt.vc hP sh z9h (Eq.mpr (zxa ..) ?_);rw [z01];refine z00 (fun h=>absurd (of_decide_eq_true h) (by rw [hl];omega)) (fun _=>⟨rfl,rfl,z00 (fun c1=>z00 (fun c2=> ?_) (fun c2=>⟨rfl, ?_⟩)) (fun c1=>⟨rfl, ?_⟩)⟩)
    · have c1:(0:Int)=(ls.length:Int):=eq_of_beq c1;have c2:=of_decide_eq_true c2;obtain ⟨e1,rfl⟩:=full (by simp only [List.length_nil];omega) c2;rw [e1] at ha;exact ⟨_,hv,_,ha.args ⟨.refl _, .c _ _ (.a _ _ (.fz _ _ z0m)),trivial⟩, .refl _,rfl⟩
    · have c2:=of_decide_eq_false c2;rw [z01];exact part (fun h=>c2 h.2)
    · have c1:((0:Int)==(ls.length:Int))=false:=c1;rw [z01];exact part (fun h=>by have:=h.1;simp only [List.length_nil] at this;rw [←this] at c1;cases c1)
  · rw [if_neg hn] at part ⊢;refine RPt.vc hP sh z9h (Eq.mpr (zu ..) ?_);rw [z01];refine z00 (fun h=>absurd (of_decide_eq_true h) (by rw [hl];omega)) (fun _=>⟨rfl,z00 (fun c1=>z00 (fun c2=> ?_) (fun c2=>⟨rfl, ?_⟩)) (fun c1=>⟨rfl, ?_⟩)⟩)
    · have c1:(on.length:Int)=(ls.length:Int):=eq_of_beq c1;have c2:=of_decide_eq_true c2;obtain ⟨e1,rfl⟩:=full (by omega) c2;rw [e1] at ha;rw [List.drop_zero,List.take_of_length_le (by rw [z01];exact Nat.le_refl _)];exact ⟨_,hv,⟨rfl,by rw [z01];omega⟩,_,ha, .refl _,rfl⟩
    · have c2:=of_decide_eq_false c2;rw [z01];exact part (fun h=>c2 h.2)
    · have c1:((on.length:Int)==(ls.length:Int))=false:=c1;rw [z01];exact part (fun h=>by rw [h.1] at c1;simp at c1)
 | t::b,pre,on,im,hl,ho,h2,hm=>by
  have hlen:ls.length=pre.length+(b.length+1):=by rw [hl];simp
  have em:List.getD (FTs ls) (Int.toNat (pre.length:Int)) []=FT t:=by rw [hl];exact midI pre t b
  have ea:aE (List.getD (FTs ls) (Int.toNat (pre.length:Int)) [])=aT t:=by rw [hl];exact z5h pre t b
  have h3:((pre.length:Nat):Int)<(((FTs ls).length:Nat):Int):=by rw [z01];omega
  have hmm:imgs lv L k ls.length (t::b) pre.length (on,im)=imgs lv L k ls.length b (pre.length+1) (if (imgT lv L t k).2=true then (on++ [bV3 ((ls.length:Int)-1-(pre.length:Int))],im++ [(imgT lv L t k).1]) else (on,im)):=rfl
  rw [hmm] at hm;have hi:=hI t (by rw [hl];simp);have ej:(((pre++ [t]).length:Nat):Int)=(pre.length:Int)+1:=by simp
  have en1:(pre++ [t]).length=pre.length+1:=by simp
  generalize imgT lv L t k=z at*;obtain ⟨z1,z2⟩:=z;simp only at hm hi
  have skip:z2=false→RPt Tryz.prog 128 4 (aT r) (oIt x lv L f e S) 1 (fxS x lv L f e s ⟨ilv,ibd,iv⟩ y k ls on im ls 55 56 57 ((pre.length:Int)+1)):=fun h=>by
   rw [h,if_neg (by simp)] at hm;have:=zo9 x lv L f e s ilv ibd iv y k ls hls r S fin hI full part b (pre++ [t]) on im (by rw [hl];simp) ho (by rw [en1];omega) (by rw [en1];exact hm);rw [ej] at this;exact this
  have take:z2=true→RPt Tryz.prog 128 4 (aT r) (oIt x lv L f e S) 1 (fxS x lv L f e s ⟨ilv,ibd,iv⟩ y k ls (on++ [bV3 ((ls.length:Int)-1-(pre.length:Int))]) (im++ [z1]) ls 55 56 57 ((pre.length:Int)+1)):=fun h=>by
   rw [if_pos h] at hm;have:=zo9 x lv L f e s ilv ibd iv y k ls hls r S fin hI full part b (pre++ [t]) (on++ [bV3 ((ls.length:Int)-1-(pre.length:Int))]) (im++ [z1]) (by rw [hl];simp) (by simp [ho]) (by rw [en1];simp;omega) (by rw [en1];exact hm);rw [ej] at this;exact this
  have hb:=zag ((ls.length:Int)-1-(pre.length:Int));have op:FV.L 4 (.sl false 4 (FTs ls))=true∧((0:Int)≤(pre.length:Int)∧(((pre.length:Int)<(((FTs ls).length:Nat):Int))∧((rE (List.getD (FTs ls) (Int.toNat (pre.length:Int)) []):List FV)=List.getD (FTs ls) (Int.toNat (pre.length:Int)) []))):=⟨rfl,by omega,h3,by rw [em];exact zf3 t⟩
  have w:IntKind.wrap .i64 (IntKind.wrap .i64 ((((FTs ls).length:Nat):Int)-1)-(pre.length:Int))=(ls.length:Int)-1-(pre.length:Int):=by
   rw [z01,w64 (x:=(ls.length:Int)-1) (by omega) (by omega),w64 (by omega) (by omega)]
  obtain ⟨ik,is,iN,il⟩:=iv;unfold fxS at skip take ⊢;rw [if_neg (zwn on _)] at take;by_cases hn:on=[]
  · subst hn;have:im=[]:=List.eq_nil_of_length_eq_zero ho.symm;subst this;rw [if_pos rfl] at skip ⊢;refine RPt.vc hP sh z9h (Eq.mpr (zxa ..) ?_);rw [ea,w64 (x:=(pre.length:Int)+1) (by omega) (by omega),w];refine z00 (fun _=>⟨op,(z1,z2),hi,z00 (fun c=>⟨rfl,_,hb,Nat.le_refl _,z6g (by omega),Nat.le_refl _,z6g (by omega),by rw [z71,z71];exact take c⟩) (fun c=>skip c)⟩) (fun h=>absurd (of_decide_eq_false h) (by omega))
  · rw [if_neg hn] at skip ⊢;refine RPt.vc hP sh z9h (Eq.mpr (zu ..) ?_);rw [ea,w64 (x:=(pre.length:Int)+1) (by omega) (by omega),w];refine z00 (fun _=>⟨op,(z1,z2),hi,z00 (fun c=>⟨rfl,_,hb,Nat.le_refl _,⟨by rw [z01];exact Nat.le_refl _,z6g (by omega)⟩,Nat.le_refl _,⟨by rw [z01];exact Nat.le_refl _,z6g (by omega)⟩, ?_⟩) (fun c=>skip c)⟩) (fun h=>absurd (of_decide_eq_false h) (by omega));rw [List.take_of_length_le (l:=FTs on) (by rw [z01];exact Nat.le_refl _),List.take_of_length_le (l:=FTs im) (by rw [z01];exact Nat.le_refl _),z71,z71];have:=take c;rw [z2d,z2d,List.length_append,List.length_append] at this;exact this
theorem c_iflex (x lv:Int) (L:List Tm) (q:IS) (y:Int) (l:List Tm) (k:Int) (hL:L.length≤100000) (hk0:0≤k) (hk1:k≤1099511627776)
  (hA:AC Tryz.prog 105 [aS 0,ci y,aL l,ci q.f] (oS q.s) (aAr (z0x q.s y l q.f)) (oS q.s)) (hls:(z0x q.s y l q.f).1.length≤100000)
  (hI:∀ t∈(z0x q.s y l q.f).1,AC Tryz.prog 129 [aIV,aT t,ci k] (oIs x lv L (z0x q.s y l q.f).2.1 q.e q.s) (zhk (imgT lv L t k).1 (imgT lv L t k).2) (oIs x lv L (z0x q.s y l q.f).2.1 q.e q.s))
  (hh:(z0x q.s y l q.f).2.2=0→AC Tryz.prog 108 [aS 0,ci y,ci (z0d [lv,(infOf q.s.V y).lv]),ci ((z0x q.s y l q.f).1.length:Int),aL (onF lv (infOf q.s.V y).lv L k (z0x q.s y l q.f).1).1] (oS q.s) (aT (.mk 4 [] (q.s.V.length:Int) [])) (oS' (z3y q.s y (z0d [lv,(infOf q.s.V y).lv]) (z0x q.s y l q.f).1.length (onF lv (infOf q.s.V y).lv L k (z0x q.s y l q.f).1).1))):
  AC Tryz.prog 128 [aIV,ci y,aL l,ci k] (oIs x lv L q.f q.e q.s) (aT (z3m lv L q y l k).1) (oIt x lv L (z3m lv L q y l k).2.f (z3m lv L q y l k).2.e (z3m lv L q y l k).2.s):=by
 have hinf:=z91 q.s y;have eF:z3m lv L q y l k=if (z0x q.s y l q.f).2.2≠0 then (noT,z3o q (z0x q.s y l q.f).2.2) else z65 lv L q y k (z0x q.s y l q.f).1 (z0x q.s y l q.f).2.1:=rfl
 rw [eF];generalize z0x q.s y l q.f=z at*;obtain ⟨ls,g,er⟩:=z;simp only at hA hls hI hh ⊢;refine AC.vc hP sh z9h (by simp) (by simp [isLive]) (by simp [isLive]) (Eq.mpr (v128 ..) ?_);refine ⟨(ls,g,er),hA,z00 (fun h=> ?_) (fun h=> ?_)⟩
 · have h:er≠0:=by have h:(er !=0)=true:=h;simpa using h
   rw [if_pos h];have hf:=ztx x lv L q.f q.e er q.s;refine ⟨(x,lv,L,q.f,if q.e=0 then er else q.e),hf, ?_, ?_⟩
   · exact leT (l:=[]) (.refl _)
   · unfold z3o;split<;>rfl
 · have h:er=0:=by have h:(er !=0)=false:=h;simpa using h
   subst h;rw [if_neg (by simp)]
   have eG:z65 lv L q y k ls g=if (imgs lv L k ls.length ls 0 ([],[])).1.length=ls.length∧(infOf q.s.V y).lv≤lv then (z09 (.mk 4 [] y []) (imgs lv L k ls.length ls 0 ([],[])).2,⟨q.s,g,q.e⟩)
    else (z09 (.mk 4 [] (q.s.V.length:Int) []) (onF lv (infOf q.s.V y).lv L k ls).2,⟨z3y q.s y (z0d [lv,(infOf q.s.V y).lv]) ls.length (onF lv (infOf q.s.V y).lv L k ls).1,g,q.e⟩):=rfl
   have hh:=hh rfl;have eo:∀ w,onF lv w L k ls=z6v (decide (w>lv)) w k L.length L 0 (imgs lv L k ls.length ls 0 ([],[])):=fun w=>rfl;have il:=z9t lv L k ls.length ls 0 ([],[]) rfl;rw [eG];generalize infOf q.s.V y=i at*;obtain ⟨ilv,ibd,iv⟩:=i;have ml:=z7r (decide (ilv>lv)) ilv k L.length L 0 (imgs lv L k ls.length ls 0 ([],[])) il.1;rw [←eo ilv] at ml;simp only [List.length_nil,Nat.zero_add] at il ml;refine ⟨(ilv,ibd,iv,inB q.s.V y),hinf,rfl, ?_⟩;rw [z01]
   have main:∀ (r:Tm) (S:Sto),((imgs lv L k ls.length ls 0 ([],[])).1.length=ls.length→ilv≤lv→z09 (.mk 4 [] y []) (imgs lv L k ls.length ls 0 ([],[])).2=r∧q.s=S)→
     (¬((imgs lv L k ls.length ls 0 ([],[])).1.length=ls.length∧ilv≤lv)→z09 (.mk 4 [] (q.s.V.length:Int) []) (onF lv ilv L k ls).2=r∧z3y q.s y (z0d [lv,ilv]) ls.length (onF lv ilv L k ls).1=S)→
     RPt Tryz.prog 128 4 (aT r) (oIt x lv L g q.e S) 1 (fxS x lv L g q.e q.s ⟨ilv,ibd,iv⟩ y k ls [] [] ls 55 56 57 0):=fun r S h1 h2=>by
    refine zo9 x lv L g q.e q.s ilv ibd iv y k ls hls r S _ hI h1 (fun hn=> ?_) ls [] [] [] rfl rfl (Nat.le_refl _) rfl;obtain ⟨e1,e2⟩:=h2 hn;have hfin:(onF lv ilv L k ls).1.length≤200000∧(onF lv ilv L k ls).2.length≤200000:=by rw [←ml.1];omega
    rw [e2] at hh;exact znu x lv L g q.e q.s ilv ibd iv y k ls hL hk0 hk1 r S (onF lv ilv L k ls) hfin hh e1 L [] _ _ rfl il.1 (by omega) rfl
   split
   · rename_i hc;exact main _ _ (fun _ _=>⟨rfl,rfl⟩) (fun hn=>absurd hc hn)
   · rename_i hc;exact main _ _ (fun a b=>absurd ⟨a,b⟩ hc) (fun _=>⟨rfl,rfl⟩)
end Go.AM

set_option maxRecDepth 100000
open Go Go.Proofs
namespace Go.AM
theorem zud {s:Sto}{D:Nat}{f:Int}{t:Tm}(h:(z0c s D f t).2.1=0):1≤f∧0≤(z0c s D f t).2.2∧(z0c s D f t).2.2≤f-1:=by
 cases D with
 | zero=>cases h
 | succ D=>
  rw [z0c] at h ⊢;split at h
  · cases h
  · rename_i hf;rw [if_neg hf];have h1:=zmp s (f-1).toNat t;have h2:0≤(z8f s (f-1) t).2.2∧(z8f s (f-1) t).2.2≤f-1:=by simp only [z8f];omega
    have h3:=z84 (z3h s D) (z8f s (f-1) t).1.l ((z8f s (f-1) t).1.k==6) _ h2.1;refine ⟨by omega, ?_⟩;unfold zfe;split
    · exact ⟨h2.1,by simp only;omega⟩
    · unfold z93;split<;>exact ⟨h3.1,by simp only;omega⟩
theorem zwf {s:Sto}{f:Int}{t:Tm}(h:(z0k s f t).2.2=0):1≤f∧0≤(z0k s f t).2.1∧(z0k s f t).2.1≤f-1:=by
 unfold z0k at h ⊢;split at h
 · rename_i hv;rw [if_pos hv];split at h
   · rename_i h1;rw [if_pos h1];exact zud h1
   · rename_i h1;exact absurd h h1
 · cases h
theorem zk4 {s:Sto}(lv:Int):∀ (l out:List Tm) (f:Int),0≤f→(z2a s lv out l f).2.2=0→0≤(z2a s lv out l f).2.1∧((z2a s lv out l f).1.length:Int)+(z2a s lv out l f).2.1≤(out.length:Int)+f
 | [],out,f,h0,_=>⟨h0,Int.le_refl _⟩
 | t::l,out,f,h0,h=>by
  rw [z2a] at h ⊢;split at h
  · rename_i h1;exact absurd h h1
  · rename_i h1;rw [if_neg h1];split at h
    · cases h
    · rename_i h2;rw [if_neg h2];have hd:=zwf (by simpa using h1:(z0k s f t).2.2=0);have:=zk4 lv l (out++ [z1d (z0k s f t).1]) (z0k s f t).2.1 hd.2.1 h;simp only [List.length_append,List.length_cons,List.length_nil] at this;omega
def lfP (t:Tm):Prop:=t.sz=1∧(t.k=3∨t.k=1)∧t.l=[]∧bd M61 t∧validB t=true
theorem leafF_P {u:Tm}(hv:validB u=true)(hb:bd M61 u)(h:z40 u=true):lfP (z1d u):=by
 have so:=z3t _ (z04 _ hv);have vs:validB (z06 u)=true:=by rw [z24,so.1,so.2.1 (z2i hv)];rfl
 have bs:=so.2.2.2 _ (by simp only [M61];omega) hb;have e:z1d u=z06 u:=by rw [z1d,if_pos h]
 rw [e]
 have hk:(z06 u).k=3∨(z06 u).k=1:=by
  unfold z40 at h;simpa using h
 generalize z06 u=w at*;obtain ⟨k,s,n,l⟩:=w;have hk:k=3∨k=1:=hk;have hl:l=[]:=okB0 (z04 _ vs) (by omega) (by omega);subst hl;exact ⟨rfl,hk,rfl,bs,vs⟩
theorem ztw {s:Sto}(hs:OKS s)(lv:Int):∀ (l out:List Tm) (f:Int),(∀ t∈l,validB t=true→Fit f.toNat t)→(∀ t∈out,lfP t)→∀ t∈(z2a s lv out l f).1,lfP t
 | [],out,f,_,ho=>ho
 | t::l,out,f,hl,ho=>by
  rw [z2a];split
  · exact fun t h=>nomatch h
  · rename_i he;have ok:=z47 hs (hl t List.mem_cons_self) (by simpa using he);split
    · exact fun t h=>nomatch h
    · rename_i hb
      have hlb:z40 (z0k s f t).1=true:=by
       rw [z63] at hb;simp only [Bool.or_eq_true,not_or,Bool.not_eq_true',Bool.not_eq_false] at hb;exact hb.1.1
      exact ztw hs lv l _ _ (fun u hu hv=>(hl u (List.mem_cons_of_mem _ hu) hv).mono (by have:=ok.2.2.2.2.2;omega)) (fun u hu=>by
       rcases List.mem_append.1 hu with hu | hu
       · exact ho u hu
       · simp at hu;subst hu;exact leafF_P ok.2.1 ok.2.2.1 hlb)
theorem z4v {s:Sto}(hs:OKS s)(x:Int)(l:List Tm)(f:Int)(hl:∀ t∈l,validB t=true→Fit f.toNat t):(∀ t∈(z0x s x l f).1,lfP t)∧(0≤f→(z0x s x l f).2.2=0→0≤(z0x s x l f).2.1∧((z0x s x l f).1.length:Int)+(z0x s x l f).2.1≤f∧inB s.V x=true)∧((z0x s x l f).2.2≠0→(z0x s x l f).1=[]):=by
 unfold z0x;split
 · exact ⟨(fun t h=>by cases h),(fun _ h=>by cases h),fun _=>rfl⟩
 · rename_i hc;refine ⟨ztw hs _ l [] f hl (fun t h=>nomatch h),fun h0 he=> ?_,fun he=> ?_⟩
   · have:=zk4 (s:=s) (infOf s.V x).lv l [] f h0 he;simp only [List.length_nil] at this;refine ⟨this.1,by omega, ?_⟩;simp only [Bool.or_eq_true,not_or,Bool.not_eq_true',Bool.not_eq_false] at hc;exact hc.1
   · have key:∀ (l out:List Tm) (f:Int),(z2a s (infOf s.V x).lv out l f).2.2≠0→(z2a s (infOf s.V x).lv out l f).1=[]:=by
      intro l
      induction l with
      | nil=>exact fun out f h=>absurd rfl h
      | cons t l ih=>
       intro out f h;rw [z2a] at h ⊢;split
       · rfl
       · rename_i h1;rw [if_neg h1] at h;split
         · rfl
         · rename_i h2;rw [if_neg h2] at h;exact ih _ _ h
     exact key l [] f he
theorem z6m {s:Sto}(hs:OKS s){f:Int}{t:Tm}(h0:0≤f)(hf:validB t=true→Fit f.toNat t)(he:(z0t s f t).2.2=0):validB (z0t s f t).1=true∧Fit (z0t s f t).2.1.toNat (z0t s f t).1∧0≤(z0t s f t).2.1∧(z0t s f t).2.1≤f:=by
 unfold z0t at he ⊢;split at he
 · rename_i hv;rw [if_pos hv];have hq:=z6p hs hv (hf hv);split at he
   · rename_i h1;rw [if_pos h1];obtain ⟨hu,hq⟩:=hq;rcases hq with ⟨_,a,b,_⟩ | ⟨h80,_⟩
     · refine ⟨a, ?_,by simp only;omega,by simp only;omega⟩;have:(f-((runH s f.toNat t).2.2:Int)).toNat=f.toNat-(runH s f.toNat t).2.2:=by omega
       simp only [this];exact b
     · rw [h80] at h1;cases h1
   · rename_i h1;exact absurd he h1
 · cases he
theorem zcd:∀ (n:Nat) (f:Tm),(z4m n f).sz=n+f.sz
 | 0,f=>by rw [z4m];omega
 | n+1,f=>by
  rw [z4m,zcd n];simp only [Tm.sz,Tm.szs,List.length_nil];omega
theorem zi2 {M:Int}:∀ (n:Nat) {t:Tm},bd M t→bd M (z4m n t)
 | 0,_,h=>h
 | n+1,t,h=>by
  rw [z4m];exact zi2 n ⟨fun e=>absurd e (by decide),h,trivial⟩
def LP (L:List Tm):Prop:=L.length≤900∧∀ t∈L,t.sz=1
theorem ziv:∀ {l:List Tm},(∀ t∈l,t.sz=1)→Tm.szs l=l.length
 | [],_=>rfl
 | t::l,h=>by rw [Tm.szs,h t List.mem_cons_self,ziv fun u hu=>h u (List.mem_cons_of_mem _ hu),List.length_cons];omega
theorem bnd_P {n:Int}(h0:0≤n)(h1:n≤2199023255552):(bV3 n).sz=1∧bd 2199023255552 (bV3 n):=by
 refine ⟨rfl,fun _=>⟨?_, ?_⟩,trivial⟩
 · show -2199023255552≤n;omega
 · show n≤2199023255552;omega
theorem imgs_P (lv:Int)(L:List Tm)(k:Int)(m:Nat)(hm:m≤100000):∀ (l:List Tm) (i:Nat) (a:List Tm×List Tm),i+l.length≤m→(∀ t∈a.1,t.sz=1∧bd 2199023255552 t)→∀ t∈(imgs lv L k m l i a).1,t.sz=1∧bd 2199023255552 t
 | [],_,_,_,h=>h
 | t::l,i,a,hi,h=>by
  rw [imgs];simp only [List.length_cons] at hi;refine imgs_P lv L k m hm l (i+1) _ (by omega) ?_;split
  · intro u hu;rcases List.mem_append.1 hu with hu | hu
    · exact h u hu
    · simp at hu;subst hu;exact bnd_P (by omega) (by omega)
  · exact h
theorem one_bd {t:Tm}{M:Int}(h:t.sz=1)(hk:t.k=1):t.sz=1∧bd M t:=by
 refine ⟨h, ?_⟩;obtain ⟨k,s,n,l⟩:=t;have hk:k=1:=hk
 have hl:l=[]:=by
  cases l with
  | nil=>rfl
  | cons a b=>
   have:=a.sz_pos;simp only [Tm.sz,Tm.szs] at h;omega
 subst hl;exact ⟨fun q=>by omega,trivial⟩
theorem zvi (c:Bool)(lvy k:Int)(n:Nat):∀ (l:List Tm) (i:Nat) (a:List Tm×List Tm),(∀ t∈l,t.sz=1)→(∀ t∈a.1,t.sz=1∧bd 2199023255552 t)→∀ t∈(z6v c lvy k n l i a).1,t.sz=1∧bd 2199023255552 t
 | [],_,_,_,h=>h
 | t::l,i,a,hl,h=>by
  rw [z6v];refine zvi c lvy k n l (i+1) _ (fun u hu=>hl u (List.mem_cons_of_mem _ hu)) ?_;split
  · rename_i hq;simp only [Bool.and_eq_true,beq_iff_eq] at hq;intro u hu;rcases List.mem_append.1 hu with hu | hu
    · exact h u hu
    · simp at hu;subst hu;exact one_bd (hl _ List.mem_cons_self) hq.2.1
  · exact h
theorem onF_P {L:List Tm}(hL:LP L)(lv lvy k:Int)(ls:List Tm)(hls:ls.length≤900):(onF lv lvy L k ls).1.length≤1800∧(onF lv lvy L k ls).1.length=(onF lv lvy L k ls).2.length∧∀ t∈(onF lv lvy L k ls).1,t.sz=1∧bd 2199023255552 t:=by
 have il:=z9t lv L k ls.length ls 0 ([],[]) rfl;have ml:=z7r (decide (lvy>lv)) lvy k L.length L 0 _ il.1;have h1:=hL.1;simp only [List.length_nil,Nat.zero_add] at il ml;refine ⟨?_,ml.1,zvi _ _ _ _ L 0 _ hL.2 (imgs_P lv L k ls.length (by omega) ls 0 ([],[]) (by omega) (fun t h=>nomatch h))⟩;have:=ml.2;unfold onF;omega
theorem zn0 {s:Sto}{m:Nat}{on:List Tm}(hV:s.V.length≤1073741824)(hm:m≤900)(ho:on.length≤1800)(h:∀ t∈on,t.sz=1∧bd 2199023255552 t):(z5m s m on).sz≤40000∧bd 2199023255552 (z5m s m on):=by
 have h1:=z32 (.mk 4 [] (s.V.length:Int) []) on;have h2:=ziv fun t ht=>(h t ht).1;have h3:(Tm.mk 4 [] (s.V.length:Int) []).sz=1:=rfl;refine ⟨by rw [z5m,zcd];omega,zi2 _ (z2z ⟨fun _=>⟨?_, ?_⟩,trivial⟩ (z8p fun t ht=>(h t ht).2))⟩
 · show -2199023255552≤((s.V.length:Nat):Int);omega
 · show ((s.V.length:Nat):Int)≤2199023255552;omega
structure GI (C:Nat)(q:IS):Prop where
 ok:OKS q.s
 V:q.s.V.length+q.f.toNat≤C
 T:q.s.T.length+q.f.toNat≤C
 f0: -9223372036854775808≤q.f
 f1:q.f≤900
theorem GI.fail {C:Nat}{q:IS}(h:GI C q)(e:Int):GI C (z3o q e):=by
 unfold z3o;split
 · exact ⟨h.ok,h.V,h.T,h.f0,h.f1⟩
 · exact h
theorem z7v (q:IS)(e:Int):(z3o q e).f=q.f:=by unfold z3o;split<;>rfl
theorem GI.less {C:Nat}{q:IS}(h:GI C q){f:Int}(h0:0≤f)(h1:f≤q.f):GI C ⟨q.s,f,q.e⟩:=⟨h.ok,by have:=h.V;simp only;omega,by have:=h.T;simp only;omega,by simp only;omega,by have:=h.f1;simp only;omega⟩
theorem zdz (s:Sto)(lv:Int):(freshS s lv).V.length=s.V.length+1∧(freshS s lv).T=s.T:=by
 constructor
 · simp [freshS]
 · rfl
theorem z7u (s:Sto)(x:Int)(t:Tm):(bindS s x t).T.length≤s.T.length+1:=by
 by_cases q:z2t s x t=true
 · rw [(z1x q).1];simp
 · rw [(z3c (by simpa using q)).1];omega
theorem OKS.hang {s:Sto}(h:OKS s)(y lv:Int){m:Nat}{on:List Tm}(hp:(z5m s m on).sz≤40000∧bd 2199023255552 (z5m s m on)):OKS (z3y s y lv m on):=by
 refine OKS.bindA (fun i hi hb=> ?_) hp.1 hp.2;rcases List.mem_append.1 hi with hi | hi
 · exact h i hi hb
 · simp at hi;subst hi;cases hb
theorem zmn (lv:Int)(L:List Tm)(q:IS)(y k:Int)(ls:List Tm)(f:Int):(z65 lv L q y k ls f).2.f=f:=by unfold z65;split<;>rfl
theorem gi_flexG {C:Nat}(hC:C≤1073741824){L:List Tm}(hL:LP L){lv:Int}{q:IS}(h:GI C q)(y k:Int)(ls:List Tm){f:Int}(h0:0≤f)(h1:f≤q.f)(hV:q.s.V.length+f.toNat+1≤C)(hT:q.s.T.length+f.toNat+1≤C)(hls:ls.length≤900):GI C (z65 lv L q y k ls f).2:=by
 have hf1:=h.f1;unfold z65;split
 · exact h.less h0 h1
 · have o:=onF_P hL lv (infOf q.s.V y).lv k ls hls;have hp:=zn0 (s:=q.s) (m:=ls.length) (by omega) hls o.1 o.2.2;have e1:=zdz q.s (z0d [lv,(infOf q.s.V y).lv]);refine ⟨h.ok.hang y _ hp, ?_, ?_,by simp only;omega,by simp only;omega⟩
   · show (z3y _ _ _ _ _).V.length+f.toNat≤C;rw [z3y,z1f,e1.1];omega
   · show (z3y _ _ _ _ _).T.length+f.toNat≤C;have:=z7u (freshS q.s (z0d [lv,(infOf q.s.V y).lv])) y (z5m q.s ls.length (onF lv (infOf q.s.V y).lv L k ls).1);rw [e1.2] at this;rw [z3y];omega
theorem gi_flexF {C:Nat}(hC:C≤1073741824){L:List Tm}(hL:LP L){lv:Int}{q:IS}(h:GI C q)(h0:0≤q.f)(hV:q.s.V.length+q.f.toNat+1≤C)(hT:q.s.T.length+q.f.toNat+1≤C)(y:Int)(l:List Tm)(k:Int)(hl:∀ t∈l,validB t=true→Fit q.f.toNat t):
  GI C (z3m lv L q y l k).2∧(z3m lv L q y l k).2.f≤q.f∧0≤(z3m lv L q y l k).2.f:=by
 have ha:=z4v h.ok y l q.f hl;unfold z3m;split
 · exact ⟨h.fail _,by rw [z7v];exact Int.le_refl _,by rw [z7v];exact h0⟩
 · rename_i he;have ha2:=ha.2.1 h0 (by simpa using he);have hf1:=h.f1;exact ⟨gi_flexG hC hL h y k _ ha2.1 (by omega) (by omega) (by omega) (by omega),by rw [zmn];omega,by rw [zmn];exact ha2.1⟩
theorem lfP_n {t:Tm}(hb:bd M61 t)(hk:t.k=3): -4611686018427387904≤t.n∧t.n≤4611686018427387904:=by
 obtain ⟨k,s,n,l⟩:=t;have hk:k=3:=hk;have:=hb.1 hk;simp only [M61] at this;exact ⟨by show -4611686018427387904≤n;omega,by show n≤4611686018427387904;omega⟩
theorem zr8 {C:Nat}(hC:C≤1073741824){L:List Tm}(hL:LP L)(x:Int){lv:Int}{q:IS}(h:GI C q)(h0:0≤q.f)(hV:q.s.V.length+q.f.toNat+1≤C)(hT:q.s.T.length+q.f.toNat+1≤C)(y:Int)(l:List Tm)(k:Int)(hlen:l.length≤1000000000)(hl:∀ t∈l,t.sz≤B∧(validB t=true→Fit q.f.toNat t))(hk0:0≤k)(hk1:k≤1099511627776):
  AC Tryz.prog 128 [aIV,ci y,aL l,ci k] (oIs x lv L q.f q.e q.s) (aT (z3m lv L q y l k).1) (oIt x lv L (z3m lv L q y l k).2.f (z3m lv L q y l k).2.e (z3m lv L q y l k).2.s):=by
 have ha:=z4v h.ok y l q.f (fun t ht=>(hl t ht).2);have hf1:=h.f1;have hL1:=hL.1
 have hls:(z0x q.s y l q.f).1.length≤900:=by
  by_cases he:(z0x q.s y l q.f).2.2=0
  · have:=ha.2.1 h0 he;omega
  · rw [ha.2.2 he];simp
 refine c_iflex x lv L q y l k (by omega) hk0 hk1 (zuy q.s h.ok y q.f l (by omega) (by omega) hl) (by omega) (fun t ht=> ?_) (fun _=> ?_)
 · exact zp1 x lv L _ _ _ t k (by omega) (lfP_n (ha.1 t ht).2.2.2.1) hk0 hk1
 · have o:=onF_P hL lv (infOf q.s.V y).lv k (z0x q.s y l q.f).1 hls;have hp:=zn0 (s:=q.s) (m:=(z0x q.s y l q.f).1.length) (by omega) hls o.1 o.2.2;exact c_hang q.s y _ _ _ (by omega) (by omega) (by omega) (by omega) (by have:=hp.1;simp only [B];omega) (z5r (by simp only [M61];omega) _ hp.2)
end Go.AM

set_option maxRecDepth 100000
open Go Go.Proofs
namespace Go.AM
def z1u (tm:IS→Tm→Tm×IS):List Tm→IS→List Tm×IS
 | [],q=>([],q)
 | t::l,q=>((tm q t).1::(z1u tm l (tm q t).2).1,(z1u tm l (tm q t).2).2)
def zfp (lv:Int)(L:List Tm)(tm:IS→Tm→Tm×IS)(q:IS)(h:Tm)(l:List Tm)(k:Int):Tm×IS:=
 if (h.k=3∨h.k=1)∧(imgT lv L h k).2=false then (noT,z3o q 170)
 else (z09 (if h.k=3∨h.k=1 then (imgT lv L h k).1 else h) (z1u tm l q).1,(z1u tm l q).2)
def z5t (x lv:Int)(L:List Tm)(tm:IS→Tm→Int→Tm×IS)(q:IS)(h:Tm×List Tm)(k:Int):Tm×IS:=
 if h.1.k=5 then (z4m 1 (tm q (hd h.1.l) (k+1)).1,(tm q (hd h.1.l) (k+1)).2)
 else if h.1.k=4 then (if h.1.n=x then (noT,z3o q 170) else z3m lv L q h.1.n h.2 k)
 else zfp lv L (fun q t=>tm q t k) q h.1 h.2 k
def zj5 (x lv:Int)(L:List Tm)(tm:IS→Tm→Int→Tm×IS)(q:IS)(z:Tm×Int×Int)(k:Int):Tm×IS:=
 if z.2.2≠0 then (noT,z3o q z.2.2) else z5t x lv L tm ⟨q.s,z.2.1,q.e⟩ (z03 z.1) k
def z0j (x lv:Int)(L:List Tm):Nat→IS→Tm→Int→Tm×IS
 | 0,q,_,_=>if q.e≠0 then (noT,q) else (noT,z3o q 80)
 | D+1,q,t,k=>if q.e≠0 then (noT,q) else if q.f≤0 then (noT,z3o q 80) else zj5 x lv L (z0j x lv L D) q (z0t q.s (q.f-1) t) k
theorem zlm (x lv:Int)(L:List Tm)(D:Nat){q:IS}(t:Tm)(k:Int)(h:q.e≠0):z0j x lv L D q t k=(noT,q):=by
 cases D with
 | zero=>rw [z0j,if_pos h]
 | succ D=>rw [z0j,if_pos h]
theorem zcn {z:Tm}{F:Nat}(hv:validB z=true)(hf:Fit F z):(validB (z03 z).1=true∧Fit F (z03 z).1)∧(∀ t∈(z03 z).2,t.sz≤SZ∧(validB t=true→Fit F t))∧(z03 z).2.length≤SZ∧∀ u∈(z03 z).1.l,u.sz≤SZ∧(validB u=true→Fit F u):=by
 have hsz:=hf.sz;have hlen:=Tm.szs_length z.l;have hse:=z.sz_eq;have kids:∀ w:Tm,Fit F w→∀ u∈w.l,u.sz≤SZ∧(validB u=true→Fit F u):=fun w hw u hu=>⟨(hw.kid hu).sz,fun _=>hw.kid hu⟩;unfold z03;split
 · rename_i h6;obtain ⟨k,s,n,l⟩:=z;have h6k:k=6:=h6.1;obtain ⟨x,y,r,rfl,hx6,_⟩:=okB6 (z04 _ hv) h6k;have hx:=z08 hv (.inr h6k) x List.mem_cons_self;have hfx:Fit F x:=hf.kid (show x∈Tm.l (.mk k s n (x::y::r)) from List.mem_cons_self);refine ⟨⟨hx,hfx⟩,fun t ht=>kids _ hf t (List.mem_of_mem_drop ht), ?_,fun u hu=>kids x hfx u hu⟩;simp only [Tm.l,List.length_cons,List.length_drop] at hlen hse ⊢;omega
 · exact ⟨⟨hv,hf⟩,(fun t h=>nomatch h),Nat.zero_le _,fun u hu=>kids z hf u hu⟩
section
variable {C:Nat} (hC:C≤1073741824) {L:List Tm} (hL:LP L) (x lv:Int)
include hC hL
omit hC hL in
theorem zwk {tm:IS→Tm→Tm×IS}{f0:Int}(htm:∀ q t,GI C q→0≤q.f→q.f≤f0→(q.e=0→validB t=true→Fit q.f.toNat t)→GI C (tm q t).2∧(tm q t).2.f≤q.f∧0≤(tm q t).2.f):
  ∀ (l:List Tm) (q:IS),GI C q→0≤q.f→q.f≤f0→(∀ t∈l,validB t=true→Fit q.f.toNat t)→GI C (z1u tm l q).2∧(z1u tm l q).2.f≤q.f∧0≤(z1u tm l q).2.f
 | [],q,h,h0,_,_=>⟨h,Int.le_refl _,h0⟩
 | t::l,q,h,h0,h1,hl=>by
  have a:=htm q t h h0 h1 (fun _=>hl t List.mem_cons_self);have b:=zwk htm l (tm q t).2 a.1 a.2.2 (by omega) (fun u hu hv=>(hl u (List.mem_cons_of_mem _ hu) hv).mono (by omega));exact ⟨b.1,by show (z1u tm l (tm q t).2).2.f≤q.f;omega,b.2.2⟩
theorem z9c:∀ (D:Nat) (q:IS) (t:Tm) (k:Int),GI C q→0≤q.f→(q.e=0→validB t=true→Fit q.f.toNat t)→GI C (z0j x lv L D q t k).2∧(z0j x lv L D q t k).2.f≤q.f∧0≤(z0j x lv L D q t k).2.f
 | 0,q,t,k,h,h0,_=>by
  rw [z0j];split
  · exact ⟨h,Int.le_refl _,h0⟩
  · exact ⟨h.fail _,by rw [z7v];exact Int.le_refl _,by rw [z7v];exact h0⟩
 | D+1,q,t,k,h,h0,hf=>by
  rw [z0j];have hfl:∀ e,GI C (z3o q e)∧(z3o q e).f≤q.f∧0≤(z3o q e).f:=fun e=>⟨h.fail _,by rw [z7v];exact Int.le_refl _,by rw [z7v];exact h0⟩;split
  · exact ⟨h,Int.le_refl _,h0⟩
  · rename_i he;have he:q.e=0:=by simpa using he
    split
    · exact hfl _
    · rename_i hf0;have hV:=h.V;have hT:=h.T;have hfit:validB t=true→Fit (q.f-1).toNat t:=fun hv=>(hf he hv).mono (by omega);unfold zj5;split
      · exact hfl _
      · rename_i hz;have ok:=z6m h.ok (by omega) hfit (by simpa using hz);generalize z0t q.s (q.f-1) t=z at*;obtain ⟨z1,z2,z3⟩:=z;simp only at ok ⊢;obtain ⟨hv,hfz,hz0,hz1⟩:=ok;have sp:=zcn hv hfz;have g:GI C ⟨q.s,z2,q.e⟩:=h.less hz0 (by omega);have hfl:∀ e,GI C (z3o ⟨q.s,z2,q.e⟩ e)∧(z3o ⟨q.s,z2,q.e⟩ e).f≤q.f∧0≤(z3o ⟨q.s,z2,q.e⟩ e).f:=fun e=>⟨g.fail _,by rw [z7v];simp only;omega,by rw [z7v];exact hz0⟩;have ih:=fun q' t' k'=>z9c D q' t' k';unfold z5t;split
        · rename_i h5
          have hne:(z03 z1).1.l ≠ []:=fun e=>by
           have o:=z04 _ sp.1.1;generalize (z03 z1).1=w at*;obtain ⟨wk,ws,wn,wl⟩:=w;obtain ⟨u,hu,_⟩:=okB5 o h5;rw [hu] at e;cases e
          have hm:hd (z03 z1).1.l∈(z03 z1).1.l:=by
           cases hl:(z03 z1).1.l with
           | nil=>exact absurd hl hne
           | cons a b=>exact List.mem_cons_self
          have:=ih ⟨q.s,z2,q.e⟩ (hd (z03 z1).1.l) (k+1) g hz0 (fun _ hv=>(sp.2.2.2 _ hm).2 hv);simp only at this;exact ⟨this.1,by simp only;omega,this.2.2⟩
        · split
          · split
            · exact hfl _
            · have:=gi_flexF hC hL (lv:=lv) g hz0 (by simp only;omega) (by simp only;omega) (z03 z1).1.n (z03 z1).2 k (fun t ht=>(sp.2.1 t ht).2);simp only at this;exact ⟨this.1,by omega,this.2.2⟩
          · unfold zfp;split
            · exact hfl _
            · have:=zwk (tm:=fun q t=>z0j x lv L D q t k) (f0:=z2) (fun q' t' a b _ d=>ih q' t' k a b d) (z03 z1).2 ⟨q.s,z2,q.e⟩ g hz0 (Int.le_refl _) (fun t ht=>(sp.2.1 t ht).2);simp only at this;exact ⟨this.1,by simp only;omega,this.2.2⟩
end
end Go.AM

set_option maxRecDepth 100000
open Go Go.Proofs
namespace Go.AM
abbrev tmH (x lv:Int)(L:List Tm)(q:IS)(h:Tm):AHeap:=[(0,oIV x lv L q.f q.e),(1,sto2 4 5 q.s),(2, .gone),(3, .gone),(4, .arz 6 (SR q.s.V)),(5, .arz 1 (IR q.s.T)),(6, .arr 4 [zT]),(7, .arr 4 [cT h])]
section
variable {C:Nat} (hC:C≤1073741824) {L:List Tm} (hL:LP L) (x lv:Int)
theorem zor {tm:IS→Tm→Tm×IS} {f0 k:Int} (h:Tm) (n:Nat) (hn:n≤1000000000) (hhl:h.l.length≤1000000000)
  (htm:∀ q t,GI C q→0≤q.f→q.f≤f0→(q.e=0→validB t=true→Fit q.f.toNat t)→GI C (tm q t).2∧(tm q t).2.f≤q.f∧0≤(tm q t).2.f)
  (hk:∀ q t,GI C q→0≤q.f→q.f≤f0→t.sz≤B→(q.e=0→validB t=true→Fit q.f.toNat t)→AC Tryz.prog 124 [aIV,aT t,ci k] (oIs x lv L q.f q.e q.s) (aT (tm q t).1) (oIt x lv L (tm q t).2.f (tm q t).2.e (tm q t).2.s)):
  ∀ (b a:List Tm) (q:IS),a.length+b.length=n→GI C q→0≤q.f→q.f≤f0→(∀ t∈b,t.sz≤B∧(validB t=true→Fit q.f.toNat t))→
  RPt Tryz.prog 124 4 (aT (z09 h (a++(z1u tm b q).1))) (oIt x lv L (z1u tm b q).2.f (z1u tm b q).2.e (z1u tm b q).2.s) 3
   ⟨[(0,aIV),(2,ci k),(6, .c (.a (.ep 6 4 0 0))),(9, .c (.a (.ep 7 4 0 0))),(10, .c (.a (.osl 8 4 0 n))),(102, .c (.a (.osl 8 4 0 n))),(103,ci (n:Int)),(104,ci (a.length:Int))],tmH x lv L q h++ [(8, .arz 4 (FTs (a++b)))],9⟩
 | [],a,q,hl,_,_,_,_=>by
  rw [List.length_nil,Nat.add_zero] at hl;rw [List.append_nil,show (z1u tm [] q).1=[] from rfl,List.append_nil,show (z1u tm [] q).2=q from rfl];have ha:=z46 h a (by omega);obtain ⟨hk',hs,hn',hl'⟩:=h;refine RPt.vc hP sh zfr (Eq.mpr (zt1 ..) ?_);refine z00 (fun h=>absurd (of_decide_eq_true h) (by omega)) (fun _=>⟨⟨rfl,by rw [z01];omega⟩,_, ?_, .refl _,rfl⟩);rw [List.drop_zero,List.take_of_length_le (by rw [z01];omega)];exact ha
 | t::b,a,q,hl,hg,h0,h1,hb=>by
  have hlen:(a++t::b).length=n:=by simp only [List.length_append,List.length_cons] at hl ⊢;omega
  have h3:=ltI' a t b;have hbt:=hb t List.mem_cons_self;have ht:=htm q t hg h0 h1 (fun _=>hbt.2);have hc:=hk q t hg h0 h1 hbt.1 (fun _=>hbt.2);have next:=zor h n hn hhl htm hk b (a++ [(tm q t).1]) (tm q t).2 (by simp only [List.length_append,List.length_cons,List.length_nil] at hl ⊢;omega) ht.1 ht.2.2 (by omega) (fun u hu=>⟨(hb u (List.mem_cons_of_mem _ hu)).1,fun hv=>((hb u (List.mem_cons_of_mem _ hu)).2 hv).mono (by omega)⟩);have eK:z1u tm (t::b) q=((tm q t).1::(z1u tm b (tm q t).2).1,(z1u tm b (tm q t).2).2):=rfl;rw [eK];simp only;rw [List.append_assoc,show [(tm q t).1]++(z1u tm b (tm q t).2).1=(tm q t).1::(z1u tm b (tm q t).2).1 from rfl,ap,nx] at next;simp only [List.length_cons] at hl;have em:=z60 a t b;have hsz:(0+Int.toNat (a.length:Int))<(FTs (a++t::b)).length:=by omega
  obtain ⟨hk',hs,hn',hl'⟩:=h;refine RPt.vc hP sh zfr (Eq.mpr (zt1 ..) ?_);rw [w64 (x:=(a.length:Int)+1) (by omega) (by omega)];refine z00 (fun _=>⟨by omega,⟨hsz,by rw [Nat.zero_add,em,midI,List.drop_zero,List.take_of_length_le (by rw [z2j];exact Nat.le_refl _)],rfl⟩,((tm q t).1,(tm q t).2.s,x,lv,L,(tm q t).2.f,(tm q t).2.e), ?_,by omega,⟨hsz,by rw [Nat.zero_add,midI];exact z2j t⟩, ?_⟩) (fun h=>absurd (of_decide_eq_false h) (by omega))
  · rw [Nat.zero_add,z5h];exact hc
  · rw [zxl];exact next
omit hC hL
abbrev FAILP (x lv:Int)(L:List Tm)(q:IS)(er:Int)(r:TV)(Hs':List AObj):Prop:=
 ∃ z:Int×Int×List Tm×Int×Int,AC Tryz.prog 127 [aIV,ci er] (oIs x lv L q.f q.e q.s) (.agg [.a (.fz (.int .i64 0)), .a (.fz (.str [])), .a (.fz (.int .i64 0)), .a (.fz (.sl false 4 []))]) (oIs z.1 z.2.1 z.2.2.1 z.2.2.2.1 z.2.2.2.2 q.s)∧
  TV.Le (.agg [.a (.fz (.int .i64 0)), .a (.fz (.str [])), .a (.fz (.int .i64 0)), .a (.fz (.sl false 4 []))]) r∧oIt z.1 z.2.1 z.2.2.1 z.2.2.2.1 z.2.2.2.2 q.s=Hs'
theorem zjc (q:IS)(er:Int):FAILP x lv L q er (aT noT) (oIt x lv L (z3o q er).f (z3o q er).e (z3o q er).s):=by
 have hf:=ztx x lv L q.f q.e er q.s;refine ⟨(x,lv,L,q.f,if q.e=0 then er else q.e),hf, .refl _, ?_⟩
 unfold z3o;split<;>rfl
abbrev IMGP (x lv:Int)(L:List Tm)(q:IS)(h:Tm)(k:Int)(r:TV)(Hs':List AObj)(R:Tm→Prop):Prop:=
 ∃ z:Tm×Bool,AC Tryz.prog 129 [aIV,aT h,ci k] (oIs x lv L q.f q.e q.s) (zhk z.1 z.2) (oIs x lv L q.f q.e q.s)∧br (!z.2) (FAILP x lv L q 170 r Hs') (R z.1)
abbrev TREE (x lv:Int)(L:List Tm)(q:IS)(h:Tm)(k:Int)(r:TV)(Hs':List AObj)(F:Prop)(R:Tm→Prop):Prop:=
 br (h.k==5) ((FV.L 4 (.sl false 4 (FTs h.l))=true∧((0:Int)≤0∧((0:Int)<(((FTs h.l).length:Nat):Int)∧(rE (List.getD (FTs h.l) 0 []):List FV)=List.getD (FTs h.l) 0 [])))∧
  ∃ z:Tm×Sto×Int×Int×List Tm×Int×Int,AC Tryz.prog 124 [aIV,aE (List.getD (FTs h.l) 0 []),ci (IntKind.wrap .i64 (k+1))] (oIs x lv L q.f q.e q.s) (aT z.1) (oIt z.2.2.1 z.2.2.2.1 z.2.2.2.2.1 z.2.2.2.2.2.1 z.2.2.2.2.2.2 z.2.1)∧
   ∃ z6:Tm,AC Tryz.prog 17 [ci 1,aT z.1] [] (aT z6) []∧TV.Le (aT z6) r∧oIt z.2.2.1 z.2.2.2.1 z.2.2.2.2.1 z.2.2.2.2.2.1 z.2.2.2.2.2.2 z.2.1=Hs')
 (br (h.k==4) (br (h.n==x) (FAILP x lv L q 170 r Hs') F) (br (h.k==3) (IMGP x lv L q h k r Hs' R) (br (h.k==1) (IMGP x lv L q h k r Hs' R) (R h))))
theorem imgT_l (lv:Int)(L:List Tm)(t:Tm)(k:Int):(imgT lv L t k).1.l.length≤t.l.length:=by
 unfold imgT;split
 · exact Nat.le_refl _
 · split
   · exact Nat.zero_le _
   · exact Nat.le_refl _
theorem tree_p {C:Nat} {tm:IS→Tm→Int→Tm×IS} (hLl:L.length≤100000) (q:IS) (h:Tm×List Tm) (k:Int) (hk0:0≤k) (hk1:k+1≤1099511627776) (hv:validB h.1=true) (hb:bd M61 h.1)
  (ht:h.1.k=5→AC Tryz.prog 124 [aIV,aT (hd h.1.l),ci (k+1)] (oIs x lv L q.f q.e q.s) (aT (tm q (hd h.1.l) (k+1)).1) (oIt x lv L (tm q (hd h.1.l) (k+1)).2.f (tm q (hd h.1.l) (k+1)).2.e (tm q (hd h.1.l) (k+1)).2.s))
  (F:Prop) (R:Tm→Prop) (hF:h.1.k=4→h.1.n≠x→z5t x lv L tm q h k=z3m lv L q h.1.n h.2 k→F)
  (hR:∀ h',h'.l.length≤h.1.l.length→z5t x lv L tm q h k=(z09 h' (z1u (fun q t=>tm q t k) h.2 q).1,(z1u (fun q t=>tm q t k) h.2 q).2)→R h'):
  TREE x lv L q h.1 k (aT (z5t x lv L tm q h k).1) (oIt x lv L (z5t x lv L tm q h k).2.f (z5t x lv L tm q h k).2.e (z5t x lv L tm q h k).2.s) F R:=by
 have hT:z5t x lv L tm q h k=if h.1.k=5 then (z4m 1 (tm q (hd h.1.l) (k+1)).1,(tm q (hd h.1.l) (k+1)).2)
  else if h.1.k=4 then (if h.1.n=x then (noT,z3o q 170) else z3m lv L q h.1.n h.2 k) else zfp lv L (fun q t=>tm q t k) q h.1 h.2 k:=rfl
 have hA:zfp lv L (fun q t=>tm q t k) q h.1 h.2 k=if (h.1.k=3∨h.1.k=1)∧(imgT lv L h.1 k).2=false then (noT,z3o q 170)
  else (z09 (if h.1.k=3∨h.1.k=1 then (imgT lv L h.1 k).1 else h.1) (z1u (fun q t=>tm q t k) h.2 q).1,(z1u (fun q t=>tm q t k) h.2 q).2):=rfl
 have img:h.1.k≠5→h.1.k≠4→(h.1.k=3∨h.1.k=1)→IMGP x lv L q h.1 k (aT (z5t x lv L tm q h k).1) (oIt x lv L (z5t x lv L tm q h k).2.f (z5t x lv L tm q h k).2.e (z5t x lv L tm q h k).2.s) R:=fun h5 h4 h31=>by
  rw [if_neg h5,if_neg h4,hA] at hT;have hi:=zp1 x lv L q.f q.e q.s h.1 k hLl (lfP_n hb) hk0 (by omega);refine ⟨imgT lv L h.1 k,hi,z00 (fun c=> ?_) (fun c=> ?_)⟩
  · have c:(imgT lv L h.1 k).2=false:=by simpa using c
    rw [if_pos ⟨h31,c⟩] at hT;rw [hT];exact zjc x lv q 170
  · have c:(imgT lv L h.1 k).2=true:=by simpa using c
    rw [if_neg (fun e=>by rw [c] at e;cases e.2),if_pos h31] at hT;exact hR _ (imgT_l lv L h.1 k) hT
 refine z00 (fun h5=> ?_) (fun h5=>z00 (fun h4=>z00 (fun hx=> ?_) (fun hx=> ?_)) (fun h4=>z00 (fun h3=> ?_) (fun h3=>z00 (fun h1=> ?_) (fun h1=> ?_))))
 · have h5:h.1.k=5:=by simpa using h5
   rw [if_pos h5] at hT;have ht:=ht h5;rw [hT]
   have hne:∃ u l',h.1.l=u::l':=by
    have o:=z04 _ hv;generalize h.1=w at*;obtain ⟨wk,ws,wn,wl⟩:=w;obtain ⟨u,hu,_⟩:=okB5 o h5;exact ⟨u,[],hu⟩
   obtain ⟨u,l',hul⟩:=hne;rw [hul] at ht ⊢;have hl:=zgh 1 (tm q u (k+1)).1 (by omega);refine ⟨⟨rfl,Int.le_refl _,ltI' [] u l',z60 [] u l'⟩,((tm q u (k+1)).1,(tm q u (k+1)).2.s,x,lv,L,(tm q u (k+1)).2.f,(tm q u (k+1)).2.e), ?_,_,hl, .refl _,rfl⟩;rw [show aE (List.getD (FTs (u::l')) 0 [])=aT u from zfs u,w64 (x:=k+1) (by omega) (by omega)];exact ht
 · have h5:h.1.k≠5:=by simpa using h5
   have h4:h.1.k=4:=by simpa using h4
   have hx:h.1.n=x:=by simpa using hx
   rw [if_neg h5,if_pos h4,if_pos hx] at hT;rw [hT];exact zjc x lv q 170
 · have h5:h.1.k≠5:=by simpa using h5
   have h4:h.1.k=4:=by simpa using h4
   have hx:h.1.n≠x:=by simpa using hx
   rw [if_neg h5,if_pos h4,if_neg hx] at hT;exact hF h4 hx hT
 · exact img (by simpa using h5) (by simpa using h4) (.inl (by simpa using h3))
 · exact img (by simpa using h5) (by simpa using h4) (.inr (by simpa using h1))
 · have h5:h.1.k≠5:=by simpa using h5
   have h4:h.1.k≠4:=by simpa using h4
   have h3:h.1.k≠3:=by simpa using h3
   have h1:h.1.k≠1:=by simpa using h1
   have hno:¬(h.1.k=3∨h.1.k=1):=fun e=>e.elim h3 h1;rw [if_neg h5,if_neg h4,hA,if_neg (fun e=>hno e.1),if_neg hno] at hT;exact hR _ (Nat.le_refl _) hT
end
theorem zup {C:Nat}(hC:C≤1073741824){L:List Tm}(hL:LP L)(x lv:Int):∀ (D:Nat) (q:IS) (t:Tm) (k:Int),q.f.toNat≤D→GI C q→0≤q.f→t.sz≤B→(q.e=0→validB t=true→Fit q.f.toNat t)→0≤k→k+q.f≤549755813888→
  AC Tryz.prog 124 [aIV,aT t,ci k] (oIs x lv L q.f q.e q.s) (aT (z0j x lv L D q t k).1) (oIt x lv L (z0j x lv L D q t k).2.f (z0j x lv L D q t k).2.e (z0j x lv L D q t k).2.s)
 | 0,q,t,k,hD,hg,h0,hz,hf,hk0,hk1=>by
  obtain ⟨tk,ts,tn,tl⟩:=t;refine AC.vc hP sh zfr (by simp) (by simp [isLive]) (by simp [isLive]) (Eq.mpr (v124 tk ts tn (FTs tl) k ..) ?_);rw [z0j];refine z00 (fun he=> ?_) (fun he=>z00 (fun hf0=> ?_) (fun hf0=>absurd (of_decide_eq_false hf0) (by omega)))
  · have he:q.e≠0:=by have he:(q.e !=0)=true:=he;simpa using he
    rw [if_pos he];exact ⟨leT (l:=[]) z0m,rfl⟩
  · have he:q.e=0:=by have he:(q.e !=0)=false:=he;simpa using he
    rw [if_neg (by simp [he])];exact zjc x lv q 80
 | D+1,q,t,k,hD,hg,h0,hz,hf,hk0,hk1=>by
  have ih:=fun q' t' k'=>zup hC hL x lv D q' t' k';have hL1:=hL.1;have hf1:=hg.f1;have hV:=hg.V;have hT:=hg.T;rw [z0j];by_cases he:q.e≠0
  · rw [if_pos he];obtain ⟨tk,ts,tn,tl⟩:=t;refine AC.vc hP sh zfr (by simp) (by simp [isLive]) (by simp [isLive]) (Eq.mpr (v124 tk ts tn (FTs tl) k ..) ?_);exact z00 (fun _=>⟨leT (l:=[]) z0m,rfl⟩) (fun h=>absurd (by have h:(q.e !=0)=false:=h;simpa using h) he)
  rw [if_neg he];have he:q.e=0:=by simpa using he
  by_cases hf0:q.f≤0
  · rw [if_pos hf0];obtain ⟨tk,ts,tn,tl⟩:=t;refine AC.vc hP sh zfr (by simp) (by simp [isLive]) (by simp [isLive]) (Eq.mpr (v124 tk ts tn (FTs tl) k ..) ?_);exact z00 (fun h=>absurd he (by have h:(q.e !=0)=true:=h;simpa using h)) (fun _=>z00 (fun _=>zjc x lv q 80) (fun h=>absurd hf0 (of_decide_eq_false h)))
  rw [if_neg hf0];have hfit:validB t=true→Fit (q.f-1).toNat t:=fun hv=>(hf he hv).mono (by omega);have hh:=zxp q.s hg.ok (q.f-1) t (by omega) hz hfit;have ok:=z6m hg.ok (t:=t) (f:=q.f-1) (by omega) hfit
  have enter:∀ (r:TV) (Hs':List AObj),br ((z0t q.s (q.f-1) t).2.2 !=0) (FAILP x lv L q (z0t q.s (q.f-1) t).2.2 r Hs')
    ((∃ z4:Tm,AC Tryz.prog 90 [aT (z0t q.s (q.f-1) t).1] [] (.tup [(true,cT z4),(false,[.a (.fz .N)])]) []∧TREE x lv L ⟨q.s,(z0t q.s (q.f-1) t).2.1,q.e⟩ z4 k r Hs'
      (∃ z8:Tm×Sto×Int×Int×List Tm×Int×Int,AC Tryz.prog 128 [aIV,ci z4.n, .c (.a (.fz .N)),ci k] (oIs x lv L (z0t q.s (q.f-1) t).2.1 q.e q.s) (aT z8.1) (oIt z8.2.2.1 z8.2.2.2.1 z8.2.2.2.2.1 z8.2.2.2.2.2.1 z8.2.2.2.2.2.2 z8.2.1)∧TV.Le (aT z8.1) r∧oIt z8.2.2.1 z8.2.2.2.1 z8.2.2.2.2.1 z8.2.2.2.2.2.1 z8.2.2.2.2.2.2 z8.2.1=Hs')
      (fun h'=>FV.L 4 .N=true∧RPt Tryz.prog 124 4 r Hs' 3 ⟨[(0,aIV),(2,ci k),(6, .c (.a (.ep 6 4 0 0))),(9, .c (.a (.ep 7 4 0 0))),(10, .c (.a (.fz .N))),(102, .c (.a (.fz .N))),(103,ci 0),(104,ci 0)],tmH x lv L ⟨q.s,(z0t q.s (q.f-1) t).2.1,q.e⟩ h',8⟩))∨
     (∃ z13:Tm×List Tm,AC Tryz.prog 90 [aT (z0t q.s (q.f-1) t).1] [] (.tup [(true,cT z13.1),(false,[.a (.osl 0 4 0 z13.2.length)])]) [.arz 4 (FTs z13.2)]∧TREE x lv L ⟨q.s,(z0t q.s (q.f-1) t).2.1,q.e⟩ z13.1 k r Hs'
        (((4:Nat)=4∧(0+z13.2.length)≤(FTs z13.2).length)∧∃ z8:Tm×Sto×Int×Int×List Tm×Int×Int,AC Tryz.prog 128 [aIV,ci z13.1.n, .c (.a (.fz (.sl false 4 (List.take z13.2.length (List.drop 0 (FTs z13.2)))))),ci k] (oIs x lv L (z0t q.s (q.f-1) t).2.1 q.e q.s) (aT z8.1) (oIt z8.2.2.1 z8.2.2.2.1 z8.2.2.2.2.1 z8.2.2.2.2.2.1 z8.2.2.2.2.2.2 z8.2.1)∧TV.Le (aT z8.1) r∧oIt z8.2.2.1 z8.2.2.2.1 z8.2.2.2.2.1 z8.2.2.2.2.2.1 z8.2.2.2.2.2.2 z8.2.1=Hs')
        (fun h'=>RPt Tryz.prog 124 4 r Hs' 3 ⟨[(0,aIV),(2,ci k),(6, .c (.a (.ep 6 4 0 0))),(9, .c (.a (.ep 7 4 0 0))),(10, .c (.a (.osl 8 4 0 z13.2.length))),(102, .c (.a (.osl 8 4 0 z13.2.length))),(103,ci (z13.2.length:Int)),(104,ci 0)],tmH x lv L ⟨q.s,(z0t q.s (q.f-1) t).2.1,q.e⟩ h'++ [(8, .arz 4 (FTs z13.2))],9⟩)))→
    Hs'.length=6→(∀ o∈Hs'.drop 4,isLive o)→AC Tryz.prog 124 [aIV,aT t,ci k] (oIs x lv L q.f q.e q.s) r Hs':=fun r Hs' hb hl hlv=>by
   obtain ⟨tk,ts,tn,tl⟩:=t;refine AC.vc hP sh zfr (by simp [hl]) (by simp [isLive]) hlv (Eq.mpr (v124 tk ts tn (FTs tl) k ..) ?_);rw [w64 (x:=q.f-1) (by omega) (by omega)];exact z00 (fun h=>absurd he (by have h:(q.e !=0)=true:=h;simpa using h)) (fun _=>z00 (fun h=>absurd (of_decide_eq_true h) hf0) (fun _=>⟨_,hh,hb⟩))
  refine enter _ _ ?_ rfl (by simp [isLive]);have eH:∀ z:Tm×Int×Int,zj5 x lv L (z0j x lv L D) q z k=if z.2.2≠0 then (noT,z3o q z.2.2) else z5t x lv L (z0j x lv L D) ⟨q.s,z.2.1,q.e⟩ (z03 z.1) k:=fun z=>rfl
  rw [eH];clear enter hh;generalize z0t q.s (q.f-1) t=z at*;obtain ⟨z1,z2,z3⟩:=z;simp only at ok ⊢;refine z00 (fun h3=> ?_) (fun h3=> ?_)
  · have h3:z3≠0:=by have h3:(z3 !=0)=true:=h3;simpa using h3
    rw [if_pos h3];exact zjc x lv q z3
  have h3:z3=0:=by have h3:(z3 !=0)=false:=h3;simpa using h3
  subst h3;rw [if_neg (by simp)];obtain ⟨hv,hfz,hz0,hz1⟩:=ok rfl;have sp:=zcn hv hfz;have g:GI C ⟨q.s,z2,q.e⟩:=hg.less hz0 (by omega);have hzs:=hfz.sz;have hkids:=fun q' t' (a:GI C q') (b:0≤q'.f) (c:q'.f≤z2) (d:t'.sz≤B) e=>ih q' t' k (by omega) a b d e hk0 (by omega);have htm:=fun q' t' (a:GI C q') (b:0≤q'.f) (_:q'.f≤z2) e=>z9c hC hL x lv D q' t' k a b e
  have hlam:(z03 z1).1.k=5→AC Tryz.prog 124 [aIV,aT (hd (z03 z1).1.l),ci (k+1)] (oIs x lv L z2 q.e q.s) (aT (z0j x lv L D ⟨q.s,z2,q.e⟩ (hd (z03 z1).1.l) (k+1)).1) (oIt x lv L (z0j x lv L D ⟨q.s,z2,q.e⟩ (hd (z03 z1).1.l) (k+1)).2.f (z0j x lv L D ⟨q.s,z2,q.e⟩ (hd (z03 z1).1.l) (k+1)).2.e (z0j x lv L D ⟨q.s,z2,q.e⟩ (hd (z03 z1).1.l) (k+1)).2.s):=fun h5=>by
   have hm:hd (z03 z1).1.l∈(z03 z1).1.l:=by
    have o:=z04 _ sp.1.1;generalize (z03 z1).1=w at*;obtain ⟨wk,ws,wn,wl⟩:=w;obtain ⟨u,hu,_⟩:=okB5 o h5;have hu:wl=[u]:=hu;subst hu;exact List.mem_cons_self
   have:=sp.2.2.2 _ hm;exact ih ⟨q.s,z2,q.e⟩ _ (k+1) (by simp only;omega) g hz0 (by have:=this.1;simp only [SZ,B] at*;omega) (fun _=>this.2) (by omega) (by simp only;omega)
  by_cases h6:z1.k=6∧validB z1=true
  · have esp:z03 z1=(hd z1.l,z1.l.drop 1):=if_pos h6;have hcs:=zjz z1 (by simp only [SZ,B] at*;omega) h6.1 h6.2;rw [esp] at sp hlam ⊢;simp only at sp hlam;refine .inr ⟨(hd z1.l,z1.l.drop 1),hcs,tree_p (C:=C) x lv (by omega) ⟨q.s,z2,q.e⟩ (hd z1.l,z1.l.drop 1) k hk0 (by omega) sp.1.1 sp.1.2.bd hlam _ _ (fun h4 hx hs=> ?_) (fun h' hle hs=> ?_)⟩
    · rw [hs];have hc:=zr8 hC hL x (lv:=lv) g hz0 (by simp only;omega) (by simp only;omega) (hd z1.l).n (z1.l.drop 1) k (by have:=sp.2.2.1;simp only [SZ] at this;omega) (fun t ht=>⟨by have:=(sp.2.1 t ht).1;simp only [SZ,B] at*;omega,(sp.2.1 t ht).2⟩) hk0 (by omega);refine ⟨⟨by trivial,by rw [z01];omega⟩,((z3m lv L ⟨q.s,z2,q.e⟩ (hd z1.l).n (z1.l.drop 1) k).1,(z3m lv L ⟨q.s,z2,q.e⟩ (hd z1.l).n (z1.l.drop 1) k).2.s,x,lv,L,(z3m lv L ⟨q.s,z2,q.e⟩ (hd z1.l).n (z1.l.drop 1) k).2.f,(z3m lv L ⟨q.s,z2,q.e⟩ (hd z1.l).n (z1.l.drop 1) k).2.e), ?_, .refl _,rfl⟩;rw [List.drop_zero,List.take_of_length_le (by rw [z01];exact Nat.le_refl _)];exact hc
    · rw [hs]
      have hh':h'.l.length≤1000000000:=by
       have h1:=sp.1.2.sz;have h2:=(hd z1.l).sz_eq;have h3:=Tm.szs_length (hd z1.l).l;have hle:h'.l.length≤(hd z1.l).l.length:=hle;simp only [SZ] at h1;omega
      exact zor (C:=C) x lv h' (z1.l.drop 1).length (by have:=sp.2.2.1;simp only [SZ] at this;omega) hh' htm hkids (z1.l.drop 1) [] ⟨q.s,z2,q.e⟩ (by simp) g hz0 (Int.le_refl _) (fun t ht=>⟨by have:=(sp.2.1 t ht).1;simp only [SZ,B] at*;omega,(sp.2.1 t ht).2⟩)
  · have esp:z03 z1=(z1,[]):=if_neg h6;have hcs:=zlp z1 (by simp only [SZ,B] at*;omega) h6;rw [esp] at sp hlam ⊢;simp only at sp hlam;refine .inl ⟨z1,hcs,tree_p (C:=C) x lv (by omega) ⟨q.s,z2,q.e⟩ (z1,[]) k hk0 (by omega) sp.1.1 sp.1.2.bd hlam _ _ (fun h4 hx hs=> ?_) (fun h' hle hs=> ?_)⟩
    · rw [hs];have hc:=zr8 hC hL x (lv:=lv) g hz0 (by simp only;omega) (by simp only;omega) z1.n [] k (by simp) (fun t ht=>nomatch ht) hk0 (by omega);exact ⟨((z3m lv L ⟨q.s,z2,q.e⟩ z1.n [] k).1,(z3m lv L ⟨q.s,z2,q.e⟩ z1.n [] k).2.s,x,lv,L,(z3m lv L ⟨q.s,z2,q.e⟩ z1.n [] k).2.f,(z3m lv L ⟨q.s,z2,q.e⟩ z1.n [] k).2.e),hc.args ⟨.refl _, .refl _, .c _ _ (.a _ _ (.fz _ _ z0m)), .refl _,trivial⟩, .refl _,rfl⟩
    · rw [hs];have hle:h'.l.length≤z1.l.length:=hle;have ha:=z46 h' [] (by have h1:=sp.1.2.sz;have h2:=z1.sz_eq;have h3:=Tm.szs_length z1.l;simp only [SZ,List.length_nil] at*;omega);refine ⟨rfl, ?_⟩;obtain ⟨hk',hs',hn',hl'⟩:=h';refine RPt.vc hP sh zfr (Eq.mpr (v124_3a ..) ?_);exact z00 (fun h=>by cases h) (fun _=>⟨_,ha.args ⟨.refl _, .c _ _ (.a _ _ (.fz _ _ z0m)),trivial⟩, .refl _,rfl⟩)
end Go.AM

set_option maxRecDepth 100000
open Go Go.Proofs
namespace Go.AM
def z4d (t:Tm):Bool:=validB t&&(t.k==3||t.k==1)
theorem c_ileaf (t:Tm)(hz:t.sz≤B):AC Tryz.prog 123 [aT t] [] (cb (z4d t)) []:=by
 have hv:=z3f t hz;have e:z4d t=(validB t&&(t.k==3||t.k==1)):=rfl;rw [e];generalize validB t=v at*;obtain ⟨k,s,n,l⟩:=t;refine AC.vc hP sh lv123 (Nat.le_refl _) (by simp) (by simp) (Eq.mpr (v123 k s n (FTs l) ..) ?_);refine ⟨_,hv,z00 (fun h=>z00 (fun h3=> ?_) (fun h3=> ?_)) (fun h=> ?_)⟩
 · have h3:(k==3)=true:=h3;rw [h,show ((Tm.mk k s n l).k==3)=true from h3];exact z07 rfl
 · have h3:(k==3)=false:=h3;rw [h,show ((Tm.mk k s n l).k==3)=false from h3];exact z07 rfl
 · rw [h];exact z07 rfl
theorem zwj (t:Tm)(hz:t.sz≤B):AC Tryz.prog 122 [aT t] [] (cb (!z4d t)) []:=by
 have h:=c_ileaf t hz;obtain ⟨k,s,n,l⟩:=t;refine AC.vc hP sh lv122 (Nat.le_refl _) (by simp) (by simp) (Eq.mpr (v122 k s n (FTs l) ..) ?_);exact ⟨_,h,z07 rfl⟩
def z05 (s:Sto)(x:Int)(l:List Tm)(t:Tm)(f:Int):(Tm×Int×Int)×Sto:=
 if (!inB s.V x||(infOf s.V x).bd || !validB t||l.any fun u=> !z4d u)=true then ((noT,0,1),s)
 else if (z0j x (infOf s.V x).lv l f.toNat ⟨s,f,0⟩ t 0).2.e≠0 then ((noT,0,(z0j x (infOf s.V x).lv l f.toNat ⟨s,f,0⟩ t 0).2.e),(z0j x (infOf s.V x).lv l f.toNat ⟨s,f,0⟩ t 0).2.s)
 else ((z4m l.length (z0j x (infOf s.V x).lv l f.toNat ⟨s,f,0⟩ t 0).1,(z0j x (infOf s.V x).lv l f.toNat ⟨s,f,0⟩ t 0).2.f,0),(z0j x (infOf s.V x).lv l f.toNat ⟨s,f,0⟩ t 0).2.s)
theorem z53 {t:Tm}(h:z4d t=true):t.sz=1∧(t.k=3∨t.k=1)∧t.l=[]:=by
 simp only [z4d,Bool.and_eq_true,Bool.or_eq_true,beq_iff_eq] at h;obtain ⟨k,s,n,l⟩:=t;have hk:k=3∨k=1:=h.2;have:l=[]:=okB0 (z04 _ h.1) (by omega) (by omega);subst this;exact ⟨rfl,hk,rfl⟩
theorem zw7 {C:Nat} (hC:C≤1073741824) (s:Sto) (x:Int) (l:List Tm) (t:Tm) (f:Int) (h0:0≤f) (hf:f≤900) (hs:OKS s) (hV:s.V.length+f.toNat≤C) (hT:s.T.length+f.toNat≤C)
  (hl:l.length≤900) (hlz:∀ u∈l,u.sz≤B) (hz:t.sz≤B) (hfit:validB t=true→Fit f.toNat t):
  AC Tryz.prog 109 [aS 0,ci x,aL l,aT t,ci f] (oS s) (aHd (z05 s x l t f).1) (oS' (z05 s x l t f).2):=by
 have hI:=z91 s x;have ho:=c_iodd t hz;have ha:=zlh (fun u=> !z4d u) l (by simp only [B];omega) (fun u hu=>zwj u (hlz u hu))
 have eF:z05 s x l t f=if (!inB s.V x||(infOf s.V x).bd || !validB t||l.any fun u=> !z4d u)=true then ((noT,0,1),s)
  else if (z0j x (infOf s.V x).lv l f.toNat ⟨s,f,0⟩ t 0).2.e≠0 then ((noT,0,(z0j x (infOf s.V x).lv l f.toNat ⟨s,f,0⟩ t 0).2.e),(z0j x (infOf s.V x).lv l f.toNat ⟨s,f,0⟩ t 0).2.s)
  else ((z4m l.length (z0j x (infOf s.V x).lv l f.toNat ⟨s,f,0⟩ t 0).1,(z0j x (infOf s.V x).lv l f.toNat ⟨s,f,0⟩ t 0).2.f,0),(z0j x (infOf s.V x).lv l f.toNat ⟨s,f,0⟩ t 0).2.s):=rfl
 have hterm:(l.any fun u=> !z4d u)=false→AC Tryz.prog 124 [aIV,aT t,ci 0] (oIs x (infOf s.V x).lv l f 0 s) (aT (z0j x (infOf s.V x).lv l f.toNat ⟨s,f,0⟩ t 0).1) (oIt x (infOf s.V x).lv l (z0j x (infOf s.V x).lv l f.toNat ⟨s,f,0⟩ t 0).2.f (z0j x (infOf s.V x).lv l f.toNat ⟨s,f,0⟩ t 0).2.e (z0j x (infOf s.V x).lv l f.toNat ⟨s,f,0⟩ t 0).2.s):=fun h=>by
  have hL:LP l:=⟨hl,fun u hu=>(z53 (by have:=List.any_eq_false.1 h u hu;simpa using this)).1⟩;exact zup hC hL x (infOf s.V x).lv f.toNat ⟨s,f,0⟩ t 0 (Nat.le_refl _) ⟨hs,hV,hT,by simp only;omega,hf⟩ h0 hz (fun _=>hfit) (Int.le_refl _) (by simp only;omega)
 rw [eF];generalize infOf s.V x=i at*;generalize inB s.V x=ib at*;generalize (l.any fun u=> !z4d u)=an at*;obtain ⟨ilv,ibd,iv⟩:=i;simp only at hterm ⊢;generalize z0j x ilv l f.toNat ⟨s,f,0⟩ t 0=w at*;obtain ⟨w1,ws,wf,we⟩:=w;simp only at hterm ⊢;generalize validB t=vt at*
 have bad:(!ib||ibd || !vt||an)=true→(TV.Le (.tup [(true,[.a (.fz (.int .i64 0)), .a (.fz (.str [])), .a (.fz (.int .i64 0)), .a (.fz .N)]),(false,[.a (.fz (.int .i64 0))]),(false,[.a (.fz (.int .i64 1))])]) (aHd (if (!ib||ibd || !vt||an)=true then ((noT,0,1),s) else if we≠0 then ((noT,0,we),ws) else ((z4m l.length w1,wf,0),ws)).1)∧oS' s=oS' (if (!ib||ibd || !vt||an)=true then ((noT,0,1),s) else if we≠0 then ((noT,0,we),ws) else ((z4m l.length w1,wf,0),ws)).2):=fun h=>by
  rw [if_pos h];exact ⟨leHd (l:=[]) z0m,rfl⟩
 obtain ⟨tk,ts,tn,tl⟩:=t;refine AC.vc hP sh lv109 (by simp) (by simp [isLive]) (by simp [isLive]) (Eq.mpr (v109 x (FTs l) tk ts tn (FTs tl) f ..) ?_);refine ⟨(ilv,ibd,iv,ib),hI,z00 (fun h=>bad ?_) (fun h=>z00 (fun h2=>bad ?_) (fun h2=>⟨_,ho,z00 (fun h3=>bad ?_) (fun h3=>⟨_,ha,z00 (fun h4=>bad ?_) (fun h4=> ?_)⟩)⟩))⟩
 · have h:(!ib)=true:=h;rw [h];rfl
 · have h2:ibd=true:=h2;rw [h2,Bool.or_true];rfl
 · rw [h3,Bool.or_true];rfl
 · have h4:an=true:=h4;rw [h4,Bool.or_true]
 · have h:(!ib)=false:=h;have h2:ibd=false:=h2;have h4:an=false:=h4;rw [h,h2,h3,h4,if_neg (by simp)];refine ⟨(w1,ws,x,ilv,l,wf,we),hterm h4,z00 (fun he=> ?_) (fun he=>⟨rfl, ?_⟩)⟩
   · have he:we≠0:=by have he:(we !=0)=true:=he;simpa using he
     rw [if_pos he];exact ⟨leHd (l:=[]) z0m,rfl⟩
   · have he:we=0:=by have he:(we !=0)=false:=he;simpa using he
     rw [if_neg (by simp [he]),z01];exact ⟨_,zgh l.length w1 (by omega), .refl _,rfl⟩
end Go.AM

set_option maxRecDepth 100000
open Go Go.Proofs
namespace Go.AM
structure SD where
 t:Tm
 h:Tm
 a:List Tm
abbrev cSD (x:SD):List WV:=[.a (.fz (.int .i64 x.t.k)), .a (.fz (.str x.t.s)), .a (.fz (.int .i64 x.t.n)), .a (.fz (.sl false 4 (FTs x.t.l))), .a (.fz (.int .i64 x.h.k)), .a (.fz (.str x.h.s)), .a (.fz (.int .i64 x.h.n)), .a (.fz (.sl false 4 (FTs x.h.l))), .a (.fz (.sl false 4 (FTs x.a)))]
abbrev aSD (x:SD):TV:= .agg (cSD x)
abbrev aSE (z:SD×Int):TV:= .tup [(true,cSD z.1),(false,[.a (.fz (.int .i64 z.2))])]
abbrev aLvE (z:List Tm×Int):TV:= .tup [(false,[.a (.fz (.sl false 4 (FTs z.1)))]),(false,[.a (.fz (.int .i64 z.2))])]
abbrev noSD:SD:=⟨noT,noT,[]⟩
theorem leSE {k n k2 n2 e:Int}{s s2:List UInt8}{x x2 x3:FV}{l l2 l3:List Tm}(h:FV.Le x (.sl false 4 (FTs l)))(h2:FV.Le x2 (.sl false 4 (FTs l2)))(h3:FV.Le x3 (.sl false 4 (FTs l3))):
  TV.Le (.tup [(true,[.a (.fz (.int .i64 k)), .a (.fz (.str s)), .a (.fz (.int .i64 n)), .a (.fz x), .a (.fz (.int .i64 k2)), .a (.fz (.str s2)), .a (.fz (.int .i64 n2)), .a (.fz x2), .a (.fz x3)]),(false,[.a (.fz (.int .i64 e))])]) (aSE (⟨.mk k s n l, .mk k2 s2 n2 l2,l3⟩,e)):=
 zq8 ⟨⟨rfl, .refl _, .refl _, .refl _, .a _ _ (.fz _ _ h), .refl _, .refl _, .refl _, .a _ _ (.fz _ _ h2), .a _ _ (.fz _ _ h3),trivial⟩,lwR _,trivial⟩
def zez (t:Tm):SD:=⟨t,(z03 t).1,(z03 t).2⟩
def z0a (s:Sto)(f:Int)(t:Tm):(SD×Int)×Int:=
 if (z0t s f t).2.2≠0 then ((noSD,(z0t s f t).2.2),f) else ((zez (z0t s f t).1,0),(z0t s f t).2.1)
def z02 (s:Sto)(f:Int)(x:SD):(List Tm×Int)×Int:=
 (((z0x s x.h.n x.a f).1,(z0x s x.h.n x.a f).2.2),if (z0x s x.h.n x.a f).2.2=0 then (z0x s x.h.n x.a f).2.1 else f)
abbrev aWk:TV:= .c (.a (.ep 0 3 0 0))
theorem zy6 (s:Sto)(hs:OKS s)(n:Nat)(R:List (List FV))(f:Int)(x:SD)(hl0:x.a.length≤1000000000)(h0:0-9223372036854775808≤f)(hb:∀ t∈x.a,t.sz≤B∧(validB t=true→Fit f.toNat t)):
  AC Tryz.prog 92 [aWk,aSD x] (oWk s n R f) (aLvE (z02 s f x).1) (oWk s n R (z02 s f x).2):=by
 have hA:=zuy s hs x.h.n f x.a hl0 h0 hb;have e:z02 s f x=(((z0x s x.h.n x.a f).1,(z0x s x.h.n x.a f).2.2),if (z0x s x.h.n x.a f).2.2=0 then (z0x s x.h.n x.a f).2.1 else f):=rfl
 rw [e];generalize z0x s x.h.n x.a f=z at*;obtain ⟨ls,g,er⟩:=z;obtain ⟨⟨tk,ts,tn,tl⟩,⟨hk,hs',hn,hl⟩,a⟩:=x;refine AC.vc hP sh lv92 (Nat.le_refl _) (by simp [isLive]) (by simp) (Eq.mpr (v92 tk ts tn (FTs tl) hk hs' hn (FTs hl) (FTs a) ..) ?_);refine ⟨(ls,g,er),hA,z00 (fun h=> ?_) (fun h=> ?_)⟩
 · have h:er=0:=by have h:(er==0)=true:=h;simpa using h
   subst h;exact ⟨.refl _,rfl⟩
 · have h:er≠0:=by have h:(er==0)=false:=h;simpa using h
   exact ⟨.refl _,by show _=oWk s n R (if er=0 then g else f);rw [if_neg h]⟩
theorem c_ulook (s:Sto)(hs:OKS s)(n:Nat)(R:List (List FV))(f:Int)(t:Tm)(h0:0-9223372036854775808≤f)(hz:t.sz≤B)(hf:validB t=true→Fit f.toNat t)(hu:(z0t s f t).1.sz≤B):
  AC Tryz.prog 73 [aWk,aT t] (oWk s n R f) (aSE (z0a s f t).1) (oWk s n R (z0a s f t).2):=by
 have hH:=zxp s hs f t h0 hz hf;have e:z0a s f t=if (z0t s f t).2.2≠0 then ((noSD,(z0t s f t).2.2),f) else ((zez (z0t s f t).1,0),(z0t s f t).2.1):=rfl
 rw [e];generalize z0t s f t=z at*;obtain ⟨u,g,er⟩:=z;obtain ⟨tk,ts,tn,tl⟩:=t;refine AC.vc hP sh lv73 (Nat.le_refl _) (by simp [isLive]) (by simp) (Eq.mpr (v73 tk ts tn (FTs tl) ..) ?_);refine ⟨(u,g,er),hH,z00 (fun h=> ?_) (fun h=> ?_)⟩
 · have h:er≠0:=by have h:(er !=0)=true:=h;simpa using h
   rw [if_pos h];exact ⟨leSE (l:=[]) (l2:=[]) (l3:=[]) z0m z0m z0m,rfl⟩
 · have h:er=0:=by have h:(er !=0)=false:=h;simpa using h
   subst h;rw [if_neg (by simp)];by_cases hc:u.k=6∧validB u=true
   · refine .inr ⟨(hd u.l,u.l.drop 1),zjz u hu hc.1 hc.2,⟨rfl,by rw [z01];omega⟩, ?_⟩;have es:zez u=⟨u,hd u.l,u.l.drop 1⟩:=by unfold zez z03;rw [if_pos hc]
     rw [es,List.drop_zero,List.take_of_length_le (by rw [z01];exact Nat.le_refl _)];exact ⟨.refl _,rfl⟩
   · refine .inl ⟨u,zlp u hu hc, ?_⟩;have es:zez u=⟨u,u,[]⟩:=by unfold zez z03;rw [if_neg hc]
     rw [es];obtain ⟨uk,us,un,ul⟩:=u;exact ⟨leSE (.refl _) (.refl _) (l3:=[]) z0m,rfl⟩
def z50 (s:Sto)(f:Int)(x:Int)(l:List Tm)(t:Tm):Int×Sto×Int:=
 if (z05 s x l t f).1.2.2≠0 then ((z05 s x l t f).1.2.2,(z05 s x l t f).2,f)
 else (zdt (z05 s x l t f).2 x (z05 s x l t f).1.1,bindS (z05 s x l t f).2 x (z05 s x l t f).1.1,(z05 s x l t f).1.2.1)
theorem c_ubind (s:Sto) (n:Nat) (R:List (List FV)) (f:Int) (x:SD) (l:List Tm) (t:Tm)
  (hI:AC Tryz.prog 109 [aS 0,ci x.h.n,aL l,aT t,ci f] (oS s) (aHd (z05 s x.h.n l t f).1) (oS' (z05 s x.h.n l t f).2))
  (hB:(z05 s x.h.n l t f).1.2.2=0→AC Tryz.prog 21 [aS 0,ci x.h.n,aT (z05 s x.h.n l t f).1.1] (oS (z05 s x.h.n l t f).2) (ci (zdt (z05 s x.h.n l t f).2 x.h.n (z05 s x.h.n l t f).1.1)) (oS' (bindS (z05 s x.h.n l t f).2 x.h.n (z05 s x.h.n l t f).1.1))):
  AC Tryz.prog 95 [aWk,aSD x,aL l,aT t] (oWk s n R f) (ci (z50 s f x.h.n l t).1) (oWk' (z50 s f x.h.n l t).2.1 n R (z50 s f x.h.n l t).2.2):=by
 have e:z50 s f x.h.n l t=if (z05 s x.h.n l t f).1.2.2≠0 then ((z05 s x.h.n l t f).1.2.2,(z05 s x.h.n l t f).2,f)
  else (zdt (z05 s x.h.n l t f).2 x.h.n (z05 s x.h.n l t f).1.1,bindS (z05 s x.h.n l t f).2 x.h.n (z05 s x.h.n l t f).1.1,(z05 s x.h.n l t f).1.2.1):=rfl
 rw [e];clear e;generalize z05 s x.h.n l t f=z at*;obtain ⟨⟨u,g,er⟩,S⟩:=z;obtain ⟨⟨xk,xs,xn,xl⟩,⟨hk,hs',hn,hl⟩,a⟩:=x;simp only [Tm.n] at hI hB ⊢;obtain ⟨tk,ts,tn,tl⟩:=t;refine AC.vc hP sh lv95 (by simp) (by simp [isLive]) (by simp [isLive]) (Eq.mpr (v95 xk xs xn (FTs xl) hk hs' hn (FTs hl) (FTs a) (FTs l) tk ts tn (FTs tl) ..) ?_);refine ⟨((u,g,er),S),hI,z00 (fun h=> ?_) (fun h=> ?_)⟩
 · have h:er≠0:=by have h:(er !=0)=true:=h;simpa using h
   rw [if_pos h];exact ⟨.refl _,rfl⟩
 · have h:er=0:=by have h:(er !=0)=false:=h;simpa using h
   rw [if_neg (by simp [h])];exact ⟨(zdt S hn u,bindS S hn u),hB h, .refl _,rfl⟩
def z1a (s:Sto)(f:Int)(x:SD)(t:Tm):Int×Sto×Int:=
 if (z02 s f x).1.2≠0 then ((z02 s f x).1.2,s,(z02 s f x).2) else z50 s (z02 s f x).2 x.h.n (z02 s f x).1.1 t
theorem c_uflex (s:Sto) (n:Nat) (R:List (List FV)) (f:Int) (x y:SD)
  (hL:AC Tryz.prog 92 [aWk,aSD x] (oWk s n R f) (aLvE (z02 s f x).1) (oWk s n R (z02 s f x).2))
  (hB:(z02 s f x).1.2=0→AC Tryz.prog 95 [aWk,aSD x,aL (z02 s f x).1.1,aT y.t] (oWk s n R (z02 s f x).2) (ci (z50 s (z02 s f x).2 x.h.n (z02 s f x).1.1 y.t).1) (oWk' (z50 s (z02 s f x).2 x.h.n (z02 s f x).1.1 y.t).2.1 n R (z50 s (z02 s f x).2 x.h.n (z02 s f x).1.1 y.t).2.2)):
  AC Tryz.prog 78 [aWk,aSD x,aSD y] (oWk s n R f) (ci (z1a s f x y.t).1) (oWk' (z1a s f x y.t).2.1 n R (z1a s f x y.t).2.2):=by
 have e:z1a s f x y.t=if (z02 s f x).1.2≠0 then ((z02 s f x).1.2,s,(z02 s f x).2) else z50 s (z02 s f x).2 x.h.n (z02 s f x).1.1 y.t:=rfl
 rw [e];clear e;generalize z02 s f x=z at*;obtain ⟨⟨l,er⟩,g⟩:=z
 replace hB:er=0→AC Tryz.prog 95 [aWk,aSD x,aL l,aT y.t] (oWk s n R g) (ci (z50 s g x.h.n l y.t).1) (oWk' (z50 s g x.h.n l y.t).2.1 n R (z50 s g x.h.n l y.t).2.2):=hB
 show AC Tryz.prog 78 [aWk,aSD x,aSD y] (oWk s n R f) (ci (if er≠0 then (er,s,g) else z50 s g x.h.n l y.t).1) (oWk' (if er≠0 then (er,s,g) else z50 s g x.h.n l y.t).2.1 n R (if er≠0 then (er,s,g) else z50 s g x.h.n l y.t).2.2)
 generalize z50 s g x.h.n l y.t=w at*;obtain ⟨we,ws,wf⟩:=w;obtain ⟨⟨xk,xs,xn,xl⟩,⟨hk,hs',hn,hl⟩,a⟩:=x;obtain ⟨⟨yk,ys,yn,yl⟩,⟨gk,gs',gn,gl⟩,b⟩:=y;refine AC.vc hP sh lv78 (by simp) (by simp [isLive]) (by simp [isLive]) (Eq.mpr (v78 xk xs xn (FTs xl) hk hs' hn (FTs hl) (FTs a) yk ys yn (FTs yl) gk gs' gn (FTs gl) (FTs b) ..) ?_);refine ⟨(l,er,n,g),hL,z00 (fun h=> ?_) (fun h=> ?_)⟩
 · have h:er≠0:=by have h:(er !=0)=true:=h;simpa using h
   rw [if_pos h];exact ⟨.refl _,rfl⟩
 · have h:er=0:=by have h:(er !=0)=false:=h;simpa using h
   rw [if_neg (by simp [h])];exact ⟨(we,ws,n,R,wf),hB h, .refl _,rfl⟩
end Go.AM

set_option maxRecDepth 100000
open Go Go.Proofs
namespace Go.AM
def ixB (v:Bool):List Bool→Nat→Int
 | [],_=> -1
 | t::l,i=>if (v==t)=true then (i:Int) else ixB v l (i+1)
theorem zvx (v:Bool):∀ (l:List Bool) (i:Nat),decide (ixB v l i≥0)=l.any fun t=>v==t
 | [],_=>rfl
 | t::l,i=>by
  rw [ixB,List.any_cons];split
  · rename_i h;rw [h];simp
  · rename_i h;rw [zvx v l,show (v==t)=false by simpa using h,Bool.false_or]
theorem BR_mid (a:List Bool)(t:Bool)(b:List Bool):List.getD (BR (a++t::b)) (Int.toNat (a.length:Int)) []=[.bool t]:=by
 rw [Int.toNat_natCast];simp [BR,List.getD]
theorem l_indexb (v:Bool)(b:List Bool):∀ a:List Bool,(a++b).length≤B→RPt Tryz.prog 106 0 (ci (ixB v b a.length)) [] 1 ⟨[(0, .c (.a (.fz (.sl false 1 (BR (a++b)))))),(1,cb v),(7,ci ((a++b).length:Int)),(8,ci (a.length:Int))],[],0⟩:=by
 induction b with
 | nil=>
  intro a hs;refine RPt.vc hP sh zu3 (Eq.mpr (zvt ..) ?_);exact z00 (fun h=>absurd (of_decide_eq_true h) (by simp)) (fun _=>z3n rfl)
 | cons t b ihb=>
  intro a hs;have h2:=ihb (a++ [t]) (by simpa using hs);have hl:(a++t::b).length=a.length+(b.length+1):=by simp
  rw [List.append_assoc,List.singleton_append,show (a++ [t]).length=a.length+1 by simp] at h2;simp only [B] at hs;refine RPt.vc hP sh zu3 (Eq.mpr (zvt ..) ?_);rw [BR_mid,z2b];refine z00 (fun _=>⟨⟨rfl,by omega,by omega,rfl⟩,z00 (fun h=>z3n ?_) (fun h=> ?_)⟩) (fun h=>absurd (of_decide_eq_false h) (by omega))
  · have h:(v==t)=true:=h;rw [ixB,if_pos h]
  · have h:¬(v==t)=true:=by have h:(v==t)=false:=h;simp [h]
    rw [ixB,if_neg h,w64 (x:=(a.length:Int)+1) (by omega) (by omega)];exact h2
theorem zoa (v:Bool)(l:List Bool)(hl:l.length≤B):AC Tryz.prog 93 [.c (.a (.fz (.sl false 1 (BR l)))),cb v] [] (cb (l.any fun t=>v==t)) []:=by
 have hi:AC Tryz.prog 106 [.c (.a (.fz (.sl false 1 (BR l)))),cb v] [] (ci (ixB v l 0)) []:=by
  refine AC.vc hP sh zu3 (Nat.le_refl _) (by simp) (by simp) (Eq.mpr (v106 ..) ?_);rw [z2b];exact ⟨rfl,l_indexb v l [] hl⟩
 refine AC.vc hP sh lv93 (Nat.le_refl _) (by simp) (by simp) (Eq.mpr (v93 ..) ?_);exact ⟨_,hi,z07 (zvx v l 0)⟩
abbrev fsR (m:Nat):List (List FV):=List.replicate m [.bool false]
abbrev prS (s:Sto)(n:Nat)(R:List (List FV))(f:Int)(x:SD)(a b:List Tm)(ks:List Bool)(m:Nat):St:=
 ⟨[(0,aWk),(4, .c (.a (.ep 8 9 0 0))),(7,aL a),(9,aL b),(10, .c (.a (.osl 9 1 0 a.length))),(41,ci (a.length:Int)),(42,ci (ks.length:Int))],
  [(0, .arr 3 [[.a (.ep 1 2 0 0), .a (.osl 7 8 0 n), .a (.fz (.int .i64 f))]]),(1,sto2 5 6 s),(2, .gone),(3, .gone),(4, .gone),(5, .arz 6 (SR s.V)),(6, .arz 1 (IR s.T)),(7, .arz 8 R),(8, .arr 9 [cSD x]),(9, .arz 1 (BR ks++fsR m))],10⟩
theorem BR_snoc (ks:List Bool)(t:Bool)(m:Nat):List.set (BR ks++fsR (m+1)) (0+Int.toNat (ks.length:Int)) [.bool t]=BR (ks++ [t])++fsR m:=by
 rw [Int.toNat_natCast,Nat.zero_add,List.set_append_right (h:=by rw [z2b];exact Nat.le_refl _),z2b,Nat.sub_self];simp [BR,List.replicate_succ]
theorem zq (s:Sto) (n:Nat) (R:List (List FV)) (f:Int) (x:SD) (a b:List Tm) (ha:a.length≤1000000000) (hz:∀ t∈a,t.sz≤B) (z:Int×Sto) (K:List Bool)
  (h0:(K.any fun t=>false==t)=false→z=(0,s))
  (h1:(K.any fun t=>false==t)=true→AC Tryz.prog 94 [aS 0,ci x.h.n, .c (.a (.fz (.sl false 1 (BR K))))] (oS s) (ci z.1) (oS' z.2)):
  ∀ (ra rb pa pb:List Tm),a=pa++ra→b=pb++rb→pa.length=pb.length→ra.length=rb.length→List.zipWith z1b a b=K→
  RPt Tryz.prog 77 5 (ci z.1) (oWk' z.2 n R f) 3 (prS s n R f x a b (List.zipWith z1b pa pb) ra.length)
 | [],rb,pa,pb,ea,eb,hp,hr,hK=>by
  have:rb=[]:=List.eq_nil_of_length_eq_zero hr.symm;subst this;rw [List.append_nil] at ea eb;subst ea;subst eb;have hk:K.length=a.length:=by rw [←hK];simp [hp]
  have hc:=zoa false K (by simp only [B];omega);rw [hK]
  have ed:List.take a.length (List.drop 0 (BR K++fsR 0))=BR K:=by
   rw [List.drop_zero,show fsR 0=[] from rfl,List.append_nil,List.take_of_length_le (by rw [z2b];omega)]
  have hl9:0+a.length≤(BR K++fsR 0).length:=by rw [show fsR 0=[] from rfl,List.append_nil,z2b];omega
  obtain ⟨ze,zs⟩:=z;obtain ⟨⟨xk,xs,xn,xl⟩,⟨hk',hs',hn,hl⟩,xa⟩:=x;show RPt Tryz.prog 77 5 (ci ze) (oWk' zs n R f) 3 (prS s n R f ⟨.mk xk xs xn xl, .mk hk' hs' hn hl,xa⟩ a b K 0);refine RPt.vc hP sh lv77 (Eq.mpr (v77_3a ..) ?_);refine z00 (fun h=>absurd (of_decide_eq_true h) (by omega)) (fun _=>⟨⟨rfl,hl9⟩,_,by rw [ed];exact hc,rfl,z00 (fun h=> ?_) (fun h=>⟨⟨rfl,hl9⟩,(ze,zs), ?_, .refl _,rfl⟩)⟩)
  · have h:(K.any fun t=>false==t)=false:=by have h:(!(K.any fun t=>false==t))=true:=h;simpa using h
    have e:=h0 h;cases e;exact ⟨.refl _,rfl⟩
  · have h:(K.any fun t=>false==t)=true:=by have h:(!(K.any fun t=>false==t))=false:=h;simpa using h
    rw [ed];exact h1 h
 | t::ra,[],pa,pb,ea,eb,hp,hr,hK=>by cases hr
 | t::ra,u::rb,pa,pb,ea,eb,hp,hr,hK=>by
  have next:=zq s n R f x a b ha hz z K h0 h1 ra rb (pa++ [t]) (pb++ [u]) (by rw [ea];simp) (by rw [eb];simp) (by simp [hp]) (by simpa using hr) hK;have hs:=c_same t (hz t (by rw [ea];simp)) u;have ezip:List.zipWith z1b (pa++ [t]) (pb++ [u])=List.zipWith z1b pa pb++ [z1b t u]:=by rw [List.zipWith_append hp];rfl
  have hkl:(List.zipWith z1b pa pb).length=pa.length:=by simp [hp]
  have hal:a.length=pa.length+(ra.length+1):=by rw [ea];simp
  have hbl:b.length=pb.length+(rb.length+1):=by rw [eb];simp
  have hra:ra.length=rb.length:=by simpa using hr
  have ema:List.getD (FTs a) (Int.toNat (pa.length:Int)) []=FT t:=by rw [ea];exact midI pa t ra
  have emb:List.getD (FTs b) (Int.toNat (pa.length:Int)) []=FT u:=by rw [eb,hp];exact midI pb u rb
  have eaa:aE (List.getD (FTs a) (Int.toNat (pa.length:Int)) [])=aT t:=by rw [ea];exact z5h pa t ra
  have eab:aE (List.getD (FTs b) (Int.toNat (pa.length:Int)) [])=aT u:=by rw [eb,hp];exact z5h pb u rb
  rw [ezip] at next;unfold prS at next ⊢;rw [show (List.zipWith z1b pa pb++ [z1b t u]).length=pa.length+1 by simp [hp]] at next;rw [hkl];have eset:=BR_snoc (List.zipWith z1b pa pb) (z1b t u) ra.length;rw [hkl] at eset;obtain ⟨⟨xk,xs,xn,xl⟩,⟨hk',hs',hn,hl⟩,xa⟩:=x;refine RPt.vc hP sh lv77 (Eq.mpr (v77_3a ..) ?_);rw [eaa,eab,ema,emb,z01,z01];refine z00 (fun _=>⟨⟨rfl,by omega,by omega,zf3 t⟩,⟨rfl,by omega,by omega,zf3 u⟩,_,hs,⟨by omega,by omega⟩,⟨?_, ?_⟩, ?_⟩) (fun h=>absurd (of_decide_eq_false h) (by omega))
  · rw [List.length_append,z2b,hkl];simp
  · rw [Int.toNat_natCast,Nat.zero_add];simp [List.getD,BR,hp,List.replicate_succ]
  · rw [w64 (x:=(pa.length:Int)+1) (by omega) (by omega)];rw [show (t::ra).length=ra.length+1 from rfl,eset];exact next
def z0v (s:Sto)(f:Int)(x y:SD):Int×Sto×Int:=
 if (z02 s f x).1.2≠0 then ((z02 s f x).1.2,s,(z02 s f x).2)
 else if (z02 s (z02 s f x).2 y).1.2≠0 then ((z02 s (z02 s f x).2 y).1.2,s,(z02 s (z02 s f x).2 y).2)
 else if (z02 s f x).1.1.length≠(z02 s (z02 s f x).2 y).1.1.length then (171,s,(z02 s (z02 s f x).2 y).2)
 else if ((List.zipWith z1b (z02 s f x).1.1 (z02 s (z02 s f x).2 y).1.1).any fun t=>false==t)=false then (0,s,(z02 s (z02 s f x).2 y).2)
 else (z8h s x.h.n,z3k s x.h.n (List.zipWith z1b (z02 s f x).1.1 (z02 s (z02 s f x).2 y).1.1),(z02 s (z02 s f x).2 y).2)
theorem zqw (s:Sto) (n:Nat) (R:List (List FV)) (f:Int) (x y:SD)
  (hA:AC Tryz.prog 92 [aWk,aSD x] (oWk s n R f) (aLvE (z02 s f x).1) (oWk s n R (z02 s f x).2))
  (hB:(z02 s f x).1.2=0→AC Tryz.prog 92 [aWk,aSD y] (oWk s n R (z02 s f x).2) (aLvE (z02 s (z02 s f x).2 y).1) (oWk s n R (z02 s (z02 s f x).2 y).2))
  (ha:(z02 s f x).1.1.length≤1000000000) (hz:∀ t∈(z02 s f x).1.1,t.sz≤B)
  (h1:((List.zipWith z1b (z02 s f x).1.1 (z02 s (z02 s f x).2 y).1.1).any fun t=>false==t)=true→∀ K:List Bool,K.length=(z02 s f x).1.1.length→AC Tryz.prog 94 [aS 0,ci x.h.n, .c (.a (.fz (.sl false 1 (BR K))))] (oS s) (ci (z8h s x.h.n)) (oS' (z3k s x.h.n K))):
  AC Tryz.prog 77 [aWk,aSD x,aSD y] (oWk s n R f) (ci (z0v s f x y).1) (oWk' (z0v s f x y).2.1 n R (z0v s f x y).2.2):=by
 unfold z0v;generalize z02 s f x=z at*;obtain ⟨⟨a,er⟩,g⟩:=z
 replace hB:er=0→AC Tryz.prog 92 [aWk,aSD y] (oWk s n R g) (aLvE (z02 s g y).1) (oWk s n R (z02 s g y).2):=hB
 replace ha:a.length≤1000000000:=ha
 replace hz:∀ t∈a,t.sz≤B:=hz
 replace h1:((List.zipWith z1b a (z02 s g y).1.1).any fun t=>false==t)=true→∀ K:List Bool,K.length=a.length→AC Tryz.prog 94 [aS 0,ci x.h.n, .c (.a (.fz (.sl false 1 (BR K))))] (oS s) (ci (z8h s x.h.n)) (oS' (z3k s x.h.n K)):=h1
 dsimp only;generalize z02 s g y=w at*;obtain ⟨⟨b,er2⟩,g2⟩:=w
 replace hB:er=0→AC Tryz.prog 92 [aWk,aSD y] (oWk s n R g) (aLvE (b,er2)) (oWk s n R g2):=hB
 dsimp only
 have main:a.length=b.length→∀ z:Int×Sto,(((List.zipWith z1b a b).any fun t=>false==t)=false→z=(0,s))→(((List.zipWith z1b a b).any fun t=>false==t)=true→z=(z8h s x.h.n,z3k s x.h.n (List.zipWith z1b a b)))→
   RPt Tryz.prog 77 5 (ci z.1) (oWk' z.2 n R g2) 3 (prS s n R g2 x a b [] a.length):=fun hab z z0 z1=>by
  refine zq s n R g2 x a b ha hz z _ z0 (fun h=> ?_) a b [] [] rfl rfl rfl hab rfl;rw [z1 h];exact h1 h _ (by simp [hab])
 obtain ⟨⟨xk,xs,xn,xl⟩,⟨hk,hs',hn,hl⟩,xa⟩:=x;obtain ⟨⟨yk,ys,yn,yl⟩,⟨gk,gs',gn,gl⟩,ya⟩:=y;refine AC.vc hP sh lv77 (by simp) (by simp [isLive]) (by simp [isLive]) (Eq.mpr (v77 xk xs xn (FTs xl) hk hs' hn (FTs hl) (FTs xa) yk ys yn (FTs yl) gk gs' gn (FTs gl) (FTs ya) ..) ?_);refine ⟨(a,er,n,g),hA,z00 (fun h=> ?_) (fun h=> ?_)⟩
 · have h:er≠0:=by have h:(er !=0)=true:=h;simpa using h
   rw [if_pos h];exact ⟨.refl _,rfl⟩
 have h:er=0:=by have h:(er !=0)=false:=h;simpa using h
 rw [if_neg (by simp [h])];refine ⟨(b,er2,n,g2),hB h,z00 (fun h2=> ?_) (fun h2=>⟨rfl,rfl, ?_⟩)⟩
 · have h2:er2≠0:=by have h2:(er2 !=0)=true:=h2;simpa using h2
   rw [if_pos h2];exact ⟨.refl _,rfl⟩
 have h2:er2=0:=by have h2:(er2 !=0)=false:=h2;simpa using h2
 rw [if_neg (by simp [h2]),z01,z01];refine z00 (fun h3=> ?_) (fun h3=>⟨rfl,⟨rfl,by omega,rfl,by omega,by omega, ?_⟩,rfl, ?_⟩)
 · have h3:a.length≠b.length:=by have h3:((a.length:Int) !=(b.length:Int))=true:=h3;intro q;rw [q] at h3;simp at h3
   rw [if_pos h3];exact ⟨.refl _,rfl⟩
 · unfold z0u;rw [Int.toNat_natCast];dsimp only;omega
 · have h3:a.length=b.length:=by
    have h3:((a.length:Int) !=(b.length:Int))=false:=h3;have:(a.length:Int)=(b.length:Int):=by simpa using h3
    omega
   rw [if_neg (by simp [h3]),Int.toNat_natCast];split
   · rename_i h4;exact main h3 (0,s) (fun _=>rfl) (fun q=>by rw [q] at h4;cases h4)
   · rename_i h4;exact main h3 (z8h s hn,z3k s hn (List.zipWith z1b a b)) (fun q=>absurd q h4) (fun _=>rfl)
end Go.AM

set_option maxRecDepth 100000
open Go Go.Proofs
namespace Go.AM
def z5g (t:Tm):Tm:=if validB t=true then (if t.k=5 then hd t.l else z09 (shT 0 1 t 0) [.mk 3 [] 0 []]) else t
theorem c_ubody (t:Tm)(hz:t.sz≤B)(hb:bd M61 t)(hl:(shT 0 1 t 0).l.length+1<2199023255552):AC Tryz.prog 75 [aT t] [] (aT (z5g t)) []:=by
 have hv:=z3f t hz;have hs:=zmt t 0 1 hz hb (Int.le_refl _) (by simp only [M61];omega) (by omega) (by simp only [M61];omega);have ha:=z46 (shT 0 1 t 0) [.mk 3 [] 0 []] hl
 have ok5:validB t=true→t.k=5→∃ u,t.l=[u]:=fun h h5=>by
  obtain ⟨k,s,n,l⟩:=t;obtain ⟨u,hu,_⟩:=okB5 (z04 _ h) h5;exact ⟨u,hu⟩
 unfold z5g;generalize validB t=v at*;generalize z09 (shT 0 1 t 0) [.mk 3 [] 0 []]=r at*;generalize shT 0 1 t 0=w at*;obtain ⟨k,s,n,l⟩:=t;refine AC.vc hP sh lv75 (Nat.le_refl _) (by simp) (by simp) (Eq.mpr (v75 k s n (FTs l) ..) ?_);refine ⟨_,hv,z00 (fun h=> ?_) (fun h=>z00 (fun h5=> ?_) (fun h5=> ?_))⟩
 · have h:v=false:=by simpa using h
   rw [h,if_neg (by simp)];exact ⟨.refl _,rfl⟩
 · have h:v=true:=by simpa using h
   have h5:k=5:=eq_of_beq h5;obtain ⟨u,hu⟩:=ok5 h h5;have hu:l=[u]:=hu;subst hu;rw [if_pos h,if_pos (show (Tm.mk k s n [u]).k=5 from h5)];refine ⟨el0 u [], ?_,rfl⟩;rw [show aE (List.getD (FTs [u]) 0 [])=aT u from z5h [] u []];exact .refl _
 · have h:v=true:=by simpa using h
   have h5:¬k=5:=by have h5:(k==5)=false:=h5;simpa using h5
   rw [if_pos h,if_neg (show¬(Tm.mk k s n l).k=5 from h5)];exact ⟨w,hs,⟨rfl,by omega⟩,r,ha.args ⟨.refl _,zj7 (leFT z0m),trivial⟩, .refl _,rfl⟩
theorem zq6 (x:SD):AC Tryz.prog 76 [aSD x] [] (cb (x.h.k==4)) []:=by
 obtain ⟨⟨xk,xs,xn,xl⟩,⟨hk,hs',hn,hl⟩,a⟩:=x;refine AC.vc hP sh lv76 (Nat.le_refl _) (by simp) (by simp) (Eq.mpr (v76 xk xs xn (FTs xl) hk hs' hn (FTs hl) (FTs a) ..) ?_);exact ⟨.refl _,rfl⟩
end Go.AM

set_option maxRecDepth 100000
open Go Go.Proofs
namespace Go.AM
def z5e (s:Sto)(g:Int)(x y:SD):(Int×Sto×Int)×List (Tm×Tm):=
 if x.t.k=5∨y.t.k=5 then ((0,s,g),[(z5g x.t,z5g y.t)])
 else if x.h.k=4∧y.h.k=4∧x.h.n=y.h.n then (z0v s g x y,[])
 else if x.h.k=4 then (z1a s g x y.t,[])
 else if y.h.k=4 then (z1a s g y x.t,[])
 else if z1b x.h y.h=false∨x.a.length≠y.a.length then ((170,s,g),[])
 else ((0,s,g),x.a.zip y.a)
def z0f (s:Sto)(f:Int)(p:Tm×Tm):(Int×Sto×Int)×List (Tm×Tm):=
 if (z0a s f p.1).1.2≠0 then (((z0a s f p.1).1.2,s,(z0a s f p.1).2),[])
 else if (z0a s (z0a s f p.1).2 p.2).1.2≠0 then (((z0a s (z0a s f p.1).2 p.2).1.2,s,(z0a s (z0a s f p.1).2 p.2).2),[])
 else z5e s (z0a s (z0a s f p.1).2 p.2).2 (z0a s f p.1).1.1 (z0a s (z0a s f p.1).2 p.2).1.1
abbrev oPa (n:Nat)(R:List (List FV))(z:(Int×Sto×Int)×List (Tm×Tm)):List AObj:=oWk' z.1.2.1 (n+z.2.length) (stk R n z.2.reverse) z.1.2.2
theorem zum (s:Sto) (n:Nat) (R:List (List FV)) (f:Int) (p:Tm×Tm) (hn:n≤R.length) (hn2:n≤500000000000)
  (hX:AC Tryz.prog 73 [aWk,aT p.1] (oWk s n R f) (aSE (z0a s f p.1).1) (oWk s n R (z0a s f p.1).2))
  (hY:(z0a s f p.1).1.2=0→AC Tryz.prog 73 [aWk,aT p.2] (oWk s n R (z0a s f p.1).2) (aSE (z0a s (z0a s f p.1).2 p.2).1) (oWk s n R (z0a s (z0a s f p.1).2 p.2).2))
  (hG:∀ x y g,(z0a s f p.1).1=(x,0)→z0a s (z0a s f p.1).2 p.2=((y,0),g)→
   AC Tryz.prog 75 [aT x.t] [] (aT (z5g x.t)) []∧AC Tryz.prog 75 [aT y.t] [] (aT (z5g y.t)) []∧x.h.sz≤B∧x.a.length≤1000000000∧
   (x.h.k=4∧y.h.k=4∧x.h.n=y.h.n→AC Tryz.prog 77 [aWk,aSD x,aSD y] (oWk s n R g) (ci (z0v s g x y).1) (oWk' (z0v s g x y).2.1 n R (z0v s g x y).2.2))∧
   (¬(x.t.k=5∨y.t.k=5)→¬(x.h.k=4∧y.h.k=4∧x.h.n=y.h.n)→x.h.k=4→AC Tryz.prog 78 [aWk,aSD x,aSD y] (oWk s n R g) (ci (z1a s g x y.t).1) (oWk' (z1a s g x y.t).2.1 n R (z1a s g x y.t).2.2))∧
   (¬(x.t.k=5∨y.t.k=5)→¬(x.h.k=4∧y.h.k=4∧x.h.n=y.h.n)→y.h.k=4→AC Tryz.prog 78 [aWk,aSD y,aSD x] (oWk s n R g) (ci (z1a s g y x.t).1) (oWk' (z1a s g y x.t).2.1 n R (z1a s g y x.t).2.2))):
  AC Tryz.prog 59 [aWk, .agg [.a (.fz (.int .i64 p.1.k)), .a (.fz (.str p.1.s)), .a (.fz (.int .i64 p.1.n)), .a (.fz (.sl false 4 (FTs p.1.l))), .a (.fz (.int .i64 p.2.k)), .a (.fz (.str p.2.s)), .a (.fz (.int .i64 p.2.n)), .a (.fz (.sl false 4 (FTs p.2.l)))]] (oWk s n R f) (ci (z0f s f p).1.1) (oPa n R (z0f s f p)):=by
 unfold z0f;generalize z0a s f p.1=zx at*;obtain ⟨⟨x,e1⟩,g1⟩:=zx;dsimp only at hX hY hG ⊢;generalize z0a s g1 p.2=zy at*;obtain ⟨⟨y,e2⟩,g⟩:=zy;dsimp only at hX hY hG ⊢;obtain ⟨⟨ak,a2,an,al⟩,⟨bk,bs,bn,bl⟩⟩:=p;refine AC.vc hP sh lv59 (by simp) (by simp [isLive]) (by simp [isLive]) (Eq.mpr (v59 ak a2 an (FTs al) bk bs bn (FTs bl) ..) ?_);refine ⟨(x.t,x.h,x.a,e1,n,g1),hX,z00 (fun h=> ?_) (fun h=> ?_)⟩
 · have h:e1≠0:=by have h:(e1 !=0)=true:=h;simpa using h
   rw [if_pos h];exact ⟨.refl _,rfl⟩
 have h:e1=0:=by have h:(e1 !=0)=false:=h;simpa using h
 subst h;rw [if_neg (by simp)];refine ⟨(y.t,y.h,y.a,e2,n,g),hY rfl,z00 (fun h=> ?_) (fun h=> ?_)⟩
 · have h:e2≠0:=by have h:(e2 !=0)=true:=h;simpa using h
   rw [if_pos h];exact ⟨.refl _,rfl⟩
 have h:e2=0:=by have h:(e2 !=0)=false:=h;simpa using h
 subst h;rw [if_neg (by simp)];obtain ⟨bx,by_,hxz,hxl,pr,fx,fy⟩:=hG x y g rfl rfl;clear hX hY hG;have hs:=c_same x.h hxz y.h;have ux:=zq6 x;have uy:=zq6 y;have push1:=zy0 s n R g [z5g x.t] [z5g y.t] rfl hn (by simp only [List.length_cons,List.length_nil];omega);have q4:∀ t:Tm,aL [t]= .c (.a (.fz (.sl false 4 [FT4 t]))):=fun t=>by rw [z71];rfl
 rw [q4,q4] at push1
 have body:z5e s g x y=((0,s,g),[(z5g x.t,z5g y.t)])→TV.Le (.c (.a (.fz (.int .i64 0)))) (ci (z5e s g x y).1.1)∧oWk' s (n+ [z5g x.t].length) (stk R n ([z5g x.t].zip [z5g y.t]).reverse) g=oPa n R (z5e s g x y):=fun e=>by
  rw [e];exact ⟨.refl _,rfl⟩
 refine z00 (fun h5=> ?_) (fun h5=>z00 (fun h6=> ?_) (fun h6=> ?_))
 · have h5:x.t.k=5:=eq_of_beq h5;exact ⟨_,bx,_,by_,⟨rfl,Nat.le_refl _⟩,⟨rfl,Nat.le_refl _⟩,(s,n+1,stk R n [(z5g x.t,z5g y.t)],g),push1,body (by unfold z5e;rw [if_pos (.inl h5)])⟩
 · have h6:y.t.k=5:=eq_of_beq h6;exact ⟨_,bx,_,by_,⟨rfl,Nat.le_refl _⟩,⟨rfl,Nat.le_refl _⟩,(s,n+1,stk R n [(z5g x.t,z5g y.t)],g),push1,body (by unfold z5e;rw [if_pos (.inr h6)])⟩
 have h5:¬x.t.k=5:=by have h5:(x.t.k==5)=false:=h5;simpa using h5
 have h6:¬y.t.k=5:=by have h6:(y.t.k==5)=false:=h6;simpa using h6
 have e0:z5e s g x y=if x.h.k=4∧y.h.k=4∧x.h.n=y.h.n then (z0v s g x y,[])
   else if x.h.k=4 then (z1a s g x y.t,[])
   else if y.h.k=4 then (z1a s g y x.t,[])
   else if z1b x.h y.h=false∨x.a.length≠y.a.length then ((170,s,g),[])
   else ((0,s,g),x.a.zip y.a):=by unfold z5e;rw [if_neg (by simp [h5,h6])]
 clear body push1
 have one:∀ z:Int×Sto×Int,z5e s g x y=(z,[])→TV.Le (ci z.1) (ci (z5e s g x y).1.1)∧oWk' z.2.1 n R z.2.2=oPa n R (z5e s g x y):=fun z e=>by
  rw [e];exact ⟨.refl _,rfl⟩
 refine ⟨_,ux,z00 (fun hx=> ?_) (fun hx=> ?_)⟩
 · have hx4:x.h.k=4:=eq_of_beq hx
   have flex:¬(y.h.k=4∧x.h.n=y.h.n)→z5e s g x y=(z1a s g x y.t,[]):=fun q=>by
    rw [e0,if_neg (fun r=>q r.2),if_pos hx4]
   refine ⟨_,uy,z00 (fun hy=>z00 (fun hN=> ?_) (fun hN=> ?_)) (fun hy=> ?_)⟩
   · have hy4:y.h.k=4:=eq_of_beq hy;have hN:x.h.n=y.h.n:=eq_of_beq hN;exact ⟨((z0v s g x y).1,(z0v s g x y).2.1,n,R,(z0v s g x y).2.2),pr ⟨hx4,hy4,hN⟩,one (z0v s g x y) (by rw [e0,if_pos ⟨hx4,hy4,hN⟩])⟩
   · have hN:¬x.h.n=y.h.n:=by have hN:(x.h.n==y.h.n)=false:=hN;simpa using hN
     exact ⟨_,ux,z00 (fun _=>⟨((z1a s g x y.t).1,(z1a s g x y.t).2.1,n,R,(z1a s g x y.t).2.2),fx (fun q=>q.elim h5 h6) (fun q=>hN q.2.2) hx4,one (z1a s g x y.t) (flex (fun q=>hN q.2))⟩) (fun q=>absurd (hx.symm.trans q) (by simp))⟩
   · have hy4:¬y.h.k=4:=by have hy:(y.h.k==4)=false:=hy;simpa using hy
     exact ⟨_,ux,z00 (fun _=>⟨((z1a s g x y.t).1,(z1a s g x y.t).2.1,n,R,(z1a s g x y.t).2.2),fx (fun q=>q.elim h5 h6) (fun q=>hy4 q.2.1) hx4,one (z1a s g x y.t) (flex (fun q=>hy4 q.1))⟩) (fun q=>absurd (hx.symm.trans q) (by simp))⟩
 · have hx4:¬x.h.k=4:=by have hx:(x.h.k==4)=false:=hx;simpa using hx
   refine ⟨_,ux,z00 (fun q=>absurd (hx.symm.trans q) (by simp)) (fun _=>⟨_,uy,z00 (fun hy=> ?_) (fun hy=>⟨_,hs,z00 (fun hq=> ?_) (fun hq=>⟨rfl,rfl, ?_⟩)⟩)⟩)⟩
   · have hy4:y.h.k=4:=eq_of_beq hy;exact ⟨((z1a s g y x.t).1,(z1a s g y x.t).2.1,n,R,(z1a s g y x.t).2.2),fy (fun q=>q.elim h5 h6) (fun q=>hx4 q.1) hy4,one (z1a s g y x.t) (by rw [e0,if_neg (fun q=>hx4 q.1),if_neg hx4,if_pos hy4])⟩
   · have hy4:¬y.h.k=4:=by have hy:(y.h.k==4)=false:=hy;simpa using hy
     have hq:z1b x.h y.h=false:=by have hq:(!z1b x.h y.h)=true:=hq;simpa using hq
     exact one (170,s,g) (by rw [e0,if_neg (fun q=>hx4 q.1),if_neg hx4,if_neg hy4,if_pos (.inl hq)])
   · have hy4:¬y.h.k=4:=by have hy:(y.h.k==4)=false:=hy;simpa using hy
     have hq:z1b x.h y.h=true:=by have hq:(!z1b x.h y.h)=false:=hq;simpa using hq
     rw [z01,z01];refine z00 (fun hl=> ?_) (fun hl=> ?_)
     · have hl:x.a.length≠y.a.length:=by have hl:((x.a.length:Int) !=(y.a.length:Int))=true:=hl;intro q;rw [q] at hl;simp at hl
       exact one (170,s,g) (by rw [e0,if_neg (fun q=>hx4 q.1),if_neg hx4,if_neg hy4,if_pos (.inr hl)])
     · have hl:x.a.length=y.a.length:=by
        have hl:((x.a.length:Int) !=(y.a.length:Int))=false:=hl;have:(x.a.length:Int)=(y.a.length:Int):=by simpa using hl
        omega
       have e1:z5e s g x y=((0,s,g),x.a.zip y.a):=by rw [e0,if_neg (fun q=>hx4 q.1),if_neg hx4,if_neg hy4,if_neg (by simp [hq,hl])]
       refine ⟨(s,n+x.a.length,stk R n (x.a.zip y.a).reverse,g),zy0 s n R g x.a y.a hl hn (by omega), ?_⟩;rw [e1];refine ⟨.refl _, ?_⟩;show _=oWk' s (n+(x.a.zip y.a).length) (stk R n (x.a.zip y.a).reverse) g;rw [show (x.a.zip y.a).length=x.a.length by simp [hl]]
end Go.AM

set_option maxRecDepth 100000
open Go Go.Proofs
namespace Go.AM
def runW:Nat→Sto→Int→List (Tm×Tm)→Int×Sto×Int
 | _,s,f,[]=>(0,s,f)
 | 0,s,f,_::_=>(80,s,f)
 | F+1,s,f,p::st=>
  if f≤0 then (80,s,f)
  else if (z0f s (f-1) p).1.1≠0 then (z0f s (f-1) p).1
  else runW F (z0f s (f-1) p).1.2.1 (z0f s (f-1) p).1.2.2 ((z0f s (f-1) p).2++st)
abbrev ruS (s:Sto)(n:Nat)(R:List (List FV))(f:Int):St:=
 ⟨[(0,aWk)],[(0, .arr 3 [[.a (.ep 1 2 0 0), .a (.osl 7 8 0 n), .a (.fz (.int .i64 f))]]),(1,sto2 5 6 s),(2, .gone),(3, .gone),(4, .gone),(5, .arz 6 (SR s.V)),(6, .arz 1 (IR s.T)),(7, .arz 8 R)],8⟩
theorem take_top {R A:List (List FV)}{x:List FV}{m:Nat}(hA:A.length=m)(h:R.take (m+1)=A++ [x]):List.getD R m []=x∧R.take m=A∧m<R.length:=by
 have hl:(R.take (m+1)).length=m+1:=by rw [h];simp [hA]
 have hm:m<R.length:=by rw [List.length_take] at hl;omega
 refine ⟨?_, ?_,hm⟩
 · have:(R.take (m+1))[m]? =some x:=by rw [h,←hA];simp
   rw [List.getElem?_take_of_lt (by omega)] at this;simp [List.getD,this]
 · have:(R.take (m+1)).take m=A:=by rw [h,←hA];simp
   rw [List.take_take,Nat.min_eq_left (by omega)] at this;exact this
abbrev aPr (p:Tm×Tm):TV:= .agg [.a (.fz (.int .i64 p.1.k)), .a (.fz (.str p.1.s)), .a (.fz (.int .i64 p.1.n)), .a (.fz (.sl false 4 (FTs p.1.l))), .a (.fz (.int .i64 p.2.k)), .a (.fz (.str p.2.s)), .a (.fz (.int .i64 p.2.n)), .a (.fz (.sl false 4 (FTs p.2.l)))]
theorem zvd {I:Sto→Int→List (Tm×Tm)→Prop} (hsm:∀ s f st,I s f st→st.length≤500000000000∧f≤1000000000)
  (hpair:∀ s f p st n R,I s f (p::st)→0<f→n≤R.length→n=st.length→AC Tryz.prog 59 [aWk,aPr p] (oWk s n R (f-1)) (ci (z0f s (f-1) p).1.1) (oPa n R (z0f s (f-1) p)))
  (hnext:∀ s f p st,I s f (p::st)→0<f→(z0f s (f-1) p).1.1=0→I (z0f s (f-1) p).1.2.1 (z0f s (f-1) p).1.2.2 ((z0f s (f-1) p).2++st)∧(z0f s (f-1) p).1.2.2≤f-1):
  ∀ (F:Nat) (s:Sto) (f:Int) (st:List (Tm×Tm)) (R:List (List FV)),f.toNat≤F→I s f st→R.take st.length=PTs st.reverse→
  ∃ n' R',RPt Tryz.prog 41 5 (ci (runW F s f st).1) (oWk' (runW F s f st).2.1 n' R' (runW F s f st).2.2) 1 (ruS s st.length R f)
 | F,s,f,[],R,hF,hI,hR=>by
  refine ⟨0,R, ?_⟩;have e:runW F s f []=(0,s,f):=by cases F<;>rfl
  rw [e];refine RPt.vc hP sh lv41 (Eq.mpr (zra ..) ?_);exact z00 (fun h=>absurd (of_decide_eq_true h) (by simp)) (fun _=>⟨.refl _,rfl⟩)
 | F,s,f,p::st,R,hF,hI,hR=>by
  have hs:=hsm s f _ hI;simp only [List.length_cons] at hs;rw [List.reverse_cons,z83] at hR;obtain ⟨t1,t2,t3⟩:=take_top (m:=st.length) (A:=PTs st.reverse) (x:=FPr p) (by simp [z5n]) hR
  have ew:IntKind.wrap .i64 ((((p::st).length:Nat):Int)-1)=(st.length:Int):=by
   rw [List.length_cons,w64 (by omega) (by omega)];omega
  have ep:List.getD R (0+(st.length:Int).toNat) []=FPr p:=by rw [Int.toNat_natCast,Nat.zero_add];exact t1
  by_cases hf:f≤0
  · have e:runW F s f (p::st)=(80,s,f):=by
     cases F with
     | zero=>rfl
     | succ F=>rw [runW,if_pos hf]
    refine ⟨st.length,R, ?_⟩;rw [e];obtain ⟨⟨ak,a2,an,al⟩,⟨bk,bs,bn,bl⟩⟩:=p;refine RPt.vc hP sh lv41 (Eq.mpr (zra ..) ?_);rw [ew,ep];refine z00 (fun _=>⟨⟨by omega,by simp only [List.length_cons];omega⟩,⟨by rw [Int.toNat_natCast];omega,rfl,rfl⟩,⟨Int.le_refl _,by omega,by simp only [List.length_cons];omega⟩,z00 (fun _=>⟨.refl _,by rw [Int.toNat_natCast]⟩) (fun h=>absurd (of_decide_eq_false h) (by omega))⟩) (fun h=>absurd (of_decide_eq_false h) (by simp only [List.length_cons];omega))
  · cases F with
    | zero=>omega
    | succ F=>
     have hp:=hpair s f p st st.length R hI (by omega) (by omega) rfl;have hn:=hnext s f p st hI (by omega);have e:runW (F+1) s f (p::st)=if (z0f s (f-1) p).1.1≠0 then (z0f s (f-1) p).1 else runW F (z0f s (f-1) p).1.2.1 (z0f s (f-1) p).1.2.2 ((z0f s (f-1) p).2++st):=by rw [runW,if_neg hf]
     have next:(z0f s (f-1) p).1.1=0→∃ n' R',RPt Tryz.prog 41 5 (ci (runW F (z0f s (f-1) p).1.2.1 (z0f s (f-1) p).1.2.2 ((z0f s (f-1) p).2++st)).1) (oWk' (runW F (z0f s (f-1) p).1.2.1 (z0f s (f-1) p).1.2.2 ((z0f s (f-1) p).2++st)).2.1 n' R' (runW F (z0f s (f-1) p).1.2.1 (z0f s (f-1) p).1.2.2 ((z0f s (f-1) p).2++st)).2.2) 1
       (ruS (z0f s (f-1) p).1.2.1 (st.length+(z0f s (f-1) p).2.length) (stk R st.length (z0f s (f-1) p).2.reverse) (z0f s (f-1) p).1.2.2):=fun h0=>by
      have hn:=hn h0;have hd:=zrf (n:=st.length) (R:=R) (by omega) (z0f s (f-1) p).2.reverse;rw [List.length_reverse,t2] at hd;have:=zvd hsm hpair hnext F (z0f s (f-1) p).1.2.1 (z0f s (f-1) p).1.2.2 ((z0f s (f-1) p).2++st) (stk R st.length (z0f s (f-1) p).2.reverse) (by omega) hn.1 (by rw [List.length_append,Nat.add_comm,hd.2,List.reverse_append,z83]);rw [List.length_append,Nat.add_comm] at this;exact this
     rw [e];clear e hn;generalize z0f s (f-1) p=q at*;obtain ⟨⟨qe,qs,qf⟩,qp⟩:=q;dsimp only at next ⊢;by_cases h0:qe=0
     · rw [if_neg (by simp [h0])];obtain ⟨n',R',hr⟩:=next h0;refine ⟨n',R', ?_⟩;obtain ⟨⟨ak,a2,an,al⟩,⟨bk,bs,bn,bl⟩⟩:=p;refine RPt.vc hP sh lv41 (Eq.mpr (zra ..) ?_);rw [ew,ep,w64 (x:=f-1) (by omega) (by omega),Int.toNat_natCast];refine z00 (fun _=>⟨⟨by omega,by simp only [List.length_cons];omega⟩,⟨by omega,rfl,rfl⟩,⟨Int.le_refl _,by omega,by simp only [List.length_cons];omega⟩,z00 (fun h=>absurd (of_decide_eq_true h) (by omega)) (fun _=>⟨(qe,qs,st.length+qp.length,stk R st.length qp.reverse,qf),hp,z00 (fun h=>absurd h0 (by have h:(qe !=0)=true:=h;simpa using h)) (fun _=>hr)⟩)⟩) (fun h=>absurd (of_decide_eq_false h) (by simp only [List.length_cons];omega))
     · rw [if_pos h0];refine ⟨st.length+qp.length,stk R st.length qp.reverse, ?_⟩;obtain ⟨⟨ak,a2,an,al⟩,⟨bk,bs,bn,bl⟩⟩:=p;refine RPt.vc hP sh lv41 (Eq.mpr (zra ..) ?_);rw [ew,ep,w64 (x:=f-1) (by omega) (by omega),Int.toNat_natCast];refine z00 (fun _=>⟨⟨by omega,by simp only [List.length_cons];omega⟩,⟨by omega,rfl,rfl⟩,⟨Int.le_refl _,by omega,by simp only [List.length_cons];omega⟩,z00 (fun h=>absurd (of_decide_eq_true h) (by omega)) (fun _=>⟨(qe,qs,st.length+qp.length,stk R st.length qp.reverse,qf),hp,z00 (fun _=>⟨.refl _,rfl⟩) (fun h=>absurd (by have h:(qe !=0)=false:=h;simpa using h) h0)⟩)⟩) (fun h=>absurd (of_decide_eq_false h) (by simp only [List.length_cons];omega))
end Go.AM

set_option maxRecDepth 100000
open Go Go.Proofs
namespace Go.AM
def badP (p:Tm×Tm):Bool:= !validB p.1 || !validB p.2
theorem c_uall1 (p:Tm×Tm)(h1:p.1.sz≤B)(h2:p.2.sz≤B):AC Tryz.prog 39 [aPr p] [] (cb (badP p)) []:=by
 have v1:=z3f p.1 h1;have v2:=z3f p.2 h2;unfold badP;obtain ⟨a,b⟩:=p;dsimp only at v1 v2 ⊢;generalize validB a=x at*;generalize validB b=y at*;obtain ⟨ak,a2,an,al⟩:=a;obtain ⟨bk,bs,bn,bl⟩:=b;refine AC.vc hP sh lv39 (Nat.le_refl _) (by simp) (by simp) (Eq.mpr (v39 ak a2 an (FTs al) bk bs bn (FTs bl) ..) ?_);refine ⟨_,v1,z00 (fun h=> ?_) (fun h=>⟨_,v2, ?_⟩)⟩
 · have h:(!x)=true:=h;rw [h];exact z07 rfl
 · have h:(!x)=false:=h;rw [h,Bool.false_or];exact z07 rfl
def ixP (q:Tm×Tm→Bool):List (Tm×Tm)→Nat→Int
 | [],_=> -1
 | t::l,i=>if q t=true then (i:Int) else ixP q l (i+1)
theorem ztk (q:Tm×Tm→Bool):∀ (l:List (Tm×Tm)) (i:Nat),decide (ixP q l i≥0)=l.any q
 | [],_=>rfl
 | t::l,i=>by
  rw [ixP,List.any_cons];split
  · rename_i h;rw [h];simp
  · rename_i h;rw [ztk q l,show q t=false by simpa using h,Bool.false_or]
theorem PTs_mid (a:List (Tm×Tm))(t:Tm×Tm)(b:List (Tm×Tm)):List.getD (PTs (a++t::b)) (Int.toNat (a.length:Int)) []=FPr t:=by
 rw [Int.toNat_natCast];simp [PTs,List.getD]
theorem l_idxp (b:List (Tm×Tm)):∀ a:List (Tm×Tm),(a++b).length≤B→(∀ p∈b,p.1.sz≤B∧p.2.sz≤B)→RPt Tryz.prog 57 0 (ci (ixP badP b a.length)) [] 1 ⟨[(0, .c (.a (.fz (.sl false 8 (PTs (a++b)))))),(1, .c (.fn (.func 39) [] [])),(7,ci ((a++b).length:Int)),(8,ci (a.length:Int))],[],0⟩:=by
 induction b with
 | nil=>
  intro a hs _;refine RPt.vc hP sh lv57 (Eq.mpr (zgz ..) ?_);exact z00 (fun h=>absurd (of_decide_eq_true h) (by simp)) (fun _=>z3n rfl)
 | cons t b ihb=>
  intro a hs hz;have h2:=ihb (a++ [t]) (by simpa using hs) (fun p hp=>hz p (List.mem_cons_of_mem _ hp));have hl:(a++t::b).length=a.length+(b.length+1):=by simp
  rw [List.append_assoc,List.singleton_append,show (a++ [t]).length=a.length+1 by simp] at h2;simp only [B] at hs;have h1:=c_uall1 t (hz t List.mem_cons_self).1 (hz t List.mem_cons_self).2;have hm:=PTs_mid a t b;have ei:ixP badP (t::b) a.length=if badP t=true then (a.length:Int) else ixP badP b (a.length+1):=rfl
  rw [ei];generalize badP t=bp at*;obtain ⟨⟨ak,a2,an,al⟩,⟨bk,bs,bn,bl⟩⟩:=t;refine RPt.vc hP sh lv57 (Eq.mpr (zgz ..) ?_);rw [hm,z5n,w64 (x:=(a.length:Int)+1) (by omega) (by omega)];refine z00 (fun _=>⟨⟨rfl,by omega,by omega,rfl⟩,bp,h1,z00 (fun h=> ?_) (fun h=> ?_)⟩) (fun h=>absurd (of_decide_eq_false h) (by omega))
  · rw [if_pos h];exact z3n rfl
  · rw [if_neg (by rw [h];simp)];exact h2
theorem c_anyp (l:List (Tm×Tm))(hl:l.length≤B)(hz:∀ p∈l,p.1.sz≤B∧p.2.sz≤B):AC Tryz.prog 38 [.c (.a (.fz (.sl false 8 (PTs l)))), .c (.fn (.func 39) [] [])] [] (cb (l.any badP)) []:=by
 have hi:AC Tryz.prog 57 [.c (.a (.fz (.sl false 8 (PTs l)))), .c (.fn (.func 39) [] [])] [] (ci (ixP badP l 0)) []:=by
  have:=l_idxp l [] hl hz;refine AC.vc hP sh lv57 (Nat.le_refl _) (by simp) (by simp) (Eq.mpr (v57_F39 ..) ?_);rw [z5n];exact ⟨rfl,this⟩
 refine AC.vc hP sh lv38 (Nat.le_refl _) (by simp) (by simp) (Eq.mpr (v38_F39 ..) ?_);exact ⟨_,hi,z07 (ztk badP l 0)⟩
end Go.AM

set_option maxRecDepth 100000
open Go Go.Proofs
namespace Go.AM
abbrev aE2 (z:Int×Int):TV:= .tup [(false,[.a (.fz (.int .i64 z.1))]),(false,[.a (.fz (.int .i64 z.2))])]
def allF (s:Sto)(l:List (Tm×Tm))(f:Int):(Int×Int)×Sto:=
 if l.any badP=true then ((0,1),s)
 else if (runW f.toNat s f l).1≠0 then ((0,(runW f.toNat s f l).1),zaq (runW f.toNat s f l).2.1 s.T.length s.V.length)
 else (((runW f.toNat s f l).2.2,0),(runW f.toNat s f l).2.1)
abbrev alH (s:Sto)(f:Int)(l:List (Tm×Tm))(i:Nat):AHeap:=
 [(0,sto2 10 11 s),(1, .gone),(2, .gone),(3, .gone),(4, .gone),(5, .arr 2 [[.a (.fz (.int .i64 (s.T.length:Int))), .a (.fz (.int .i64 (s.V.length:Int)))]]),(6, .arr 1 [[.a (.ep 7 3 0 0)]]),(7, .arr 3 [[.a (.ep 0 2 0 0), .a (.osl 12 8 0 (l.length-i)), .a (.fz (.int .i64 f))]]),(8, .gone),(9, .arr 1 [[.a (.fz (.sl false 8 (PTs l)))]]),(10, .arz 6 (SR s.V)),(11, .arz 1 (IR s.T)),(12, .arz 8 (PTs (l.drop i).reverse))]
theorem c_uall (s:Sto) (l:List (Tm×Tm)) (f:Int) (hl:l.length≤1000000000) (hz:∀ p∈l,p.1.sz≤B∧p.2.sz≤B)
  (hrun:l.any badP=false→∃ n' R',AC Tryz.prog 41 [aWk] (oWk s l.length (PTs l.reverse) f) (ci (runW f.toNat s f l).1) (oWk' (runW f.toNat s f l).2.1 n' R' (runW f.toNat s f l).2.2))
  (hundo:l.any badP=false→(runW f.toNat s f l).1≠0→AC Tryz.prog 16 [aS 0, .agg [.a (.fz (.int .i64 (s.T.length:Int))), .a (.fz (.int .i64 (s.V.length:Int)))]] (oS (runW f.toNat s f l).2.1) (.tup []) (oS' (zaq (runW f.toNat s f l).2.1 s.T.length s.V.length))):
  AC Tryz.prog 23 [aS 0, .c (.a (.fz (.sl false 8 (PTs l)))),ci f] (oS s) (aE2 (allF s l f).1) (oS' (allF s l f).2):=by
 have hany:=c_anyp l (by simp only [B];omega) hz;have hm:=z7b s;refine AC.vc hP sh lv23 (by simp) (by simp [isLive]) (by simp [isLive]) (Eq.mpr (v23 (PTs l) f ..) ?_);refine ⟨_,hany,z00 (fun h=> ?_) (fun h=> ?_)⟩
 · have e:allF s l f=((0,1),s):=by unfold allF;rw [if_pos h]
   rw [e];exact ⟨.refl _,rfl⟩
 have ea:allF s l f=if (runW f.toNat s f l).1≠0 then ((0,(runW f.toNat s f l).1),zaq (runW f.toNat s f l).2.1 s.T.length s.V.length)
   else (((runW f.toNat s f l).2.2,0),(runW f.toNat s f l).2.1):=by unfold allF;rw [if_neg (by rw [h];simp)]
 obtain ⟨n',R',hr⟩:=hrun h;have hundo:=hundo h;refine ⟨(s.T.length:Int),(s.V.length:Int),hm,PTs l,c_backP (PTs l), ?_⟩
 refine RPt.backF (sh:=sh) (lv:=lv23) (α:=Nat) (Inv:=fun i=>i≤l.length) (idx:=fun i=>i) (nx:=fun _=>13) (m0:=10) (U:=[3,4,8]) (live:=[0,8,9,22]) (oc:=9) (n:=8) (es:=PTs l) (x0:=l.length) (g:= .tmp 22) (env:=[(0,aS 0),(8, .c (.a (.ep 5 2 0 0))),(9, .c (.a (.ep 6 1 0 0))),(22,fnB 58 9)])
  (H:=fun i=>alH s f l i) hP (by kernel_rfl) isBkP bTyP ?_ (by kernel_rfl) (by kernel_rfl) (by kernel_rfl) (by kernel_rfl) (fun _ _=>by omega) (fun i _=>rfl) (fun e he=> ?_) (by rw [z5n];omega) (fun i hi=>by rw [z5n];exact hi) (fun i k hi hik hk=> ?_) (Nat.le_refl _) (by rw [z5n]) (fun i hi h0=> ?_)
 · refine Eq.mpr (v23_1an ..) ?_;unfold alH;rw [Nat.sub_self,List.drop_length];rfl
 · obtain ⟨t,_,rfl⟩:=List.mem_map.1 he;exact FPr_len t
 · have hik:i=k+1:=hik;have hi:i≤l.length:=hi;subst hik;have hkl:k<l.length:=by omega
   have ef:List.getD (PTs l) k []=FPr l[k]:=by simp [PTs,List.getD,hkl]
   have edz:l.drop k=l[k]::l.drop (k+1):=List.drop_eq_getElem_cons hkl;have estk:PTs (l.drop k).reverse=PTs (l.drop (k+1)).reverse++ [FPr l[k]]:=by rw [edz,List.reverse_cons,z83];rfl
   have hlen:(PTs (l.drop (k+1)).reverse).length=l.length-(k+1):=by simp [z5n]
   rw [ef];generalize l[k]=p at*;obtain ⟨⟨ak,a2,an,al⟩,⟨bk,bs,bn,bl⟩⟩:=p;refine Eq.mpr (v23_1ara ..) ?_;refine ⟨Nat.le_refl _,⟨by omega,by unfold z0u;omega⟩,k,⟨(by omega:k≤l.length),rfl⟩, ?_,rfl⟩;unfold alH;rw [estk,show l.length-k=l.length-(k+1)+1 by omega,List.take_of_length_le (by omega)];rfl
 · have h0:i=0:=h0;subst h0;rw [ea];clear ea hany hm;unfold alH;rw [Nat.sub_zero,List.drop_zero];generalize runW f.toNat s f l=w at*;obtain ⟨we,ws,wf⟩:=w;dsimp only at hundo hr ⊢;refine Eq.mpr (v23_1aza ..) ?_;refine ⟨(we,ws,n',R',wf),hr,z00 (fun q=> ?_) (fun q=> ?_)⟩
   · have q:we≠0:=by have q:(we !=0)=true:=q;simpa using q
     rw [if_pos q];exact ⟨_,hundo q, .refl _,rfl⟩
   · have q:we=0:=by have q:(we !=0)=false:=q;simpa using q
     rw [if_neg (by simp [q])];exact ⟨.refl _,rfl⟩
end Go.AM

set_option maxRecDepth 100000
open Go Go.Proofs
namespace Go.AM
mutual
theorem loose_ge:∀ (t:Tm) (k acc:Int),acc≤z1v t k acc
 | .mk kd _ n l,k,acc=>by
  rw [z1v];split
  · exact z75 l (k+1) acc
  · split
    · exact z75 l k acc
    · split
      · unfold maxI;split<;>omega
      · exact Int.le_refl _
theorem z75:∀ (l:List Tm) (k acc:Int),acc≤z4r l k acc
 | [],_,_=>Int.le_refl _
 | t::l,k,acc=>by
  rw [z4r];have h1:=loose_ge t k acc;have h2:=z75 l k (z1v t k acc);omega
end
mutual
theorem zp9 (M:Int):∀ (t:Tm) (k acc:Int),validB t=true→0≤k→k+(t.sz:Int)≤M→z1v t k acc≤0→bd M t
 | .mk kd s n l,k,acc,hv,hk,hM,h=>by
  have hok:=z04 _ hv;simp only [Tm.sz] at hM;by_cases h5:kd=5
  · have hkid:=z08 hv (.inl h5);subst h5;rw [z1v,if_pos (by decide)] at h;exact ⟨fun q=>by omega,zb9 M l (k+1) acc hkid (by omega) (by omega) h⟩
  · by_cases h6:kd=6
    · have hkid:=z08 hv (.inr h6);subst h6;rw [z1v,if_neg (by decide),if_pos (by decide)] at h;exact ⟨fun q=>by omega,zb9 M l k acc hkid hk (by omega) h⟩
    · have hl:=okB0 hok h5 h6;subst hl;refine ⟨fun q=> ?_,trivial⟩;subst q;rw [z1v,if_neg (by decide),if_neg (by decide),if_pos (by decide)] at h
      have hn:0≤n:=by
       rw [validB,if_neg (by decide),if_neg (by decide),if_neg (by decide),if_pos (by decide)] at hv;simp only [Bool.and_eq_true,decide_eq_true_eq] at hv;exact hv.1.1.1.1
      have:n-k+1≤0:=by unfold maxI at h;split at h<;>omega
      omega
theorem zb9 (M:Int):∀ (l:List Tm) (k acc:Int),(∀ u∈l,validB u=true)→0≤k→k+(Tm.szs l:Int)≤M→z4r l k acc≤0→bds M l
 | [],_,_,_,_,_,_=>trivial
 | t::l,k,acc,hv,hk,hM,h=>by
  rw [z4r] at h;have h1:=z75 l k (z1v t k acc);simp only [Tm.szs] at hM;exact ⟨zp9 M t k acc (hv t List.mem_cons_self) hk (by omega) (by omega),zb9 M l k _ (fun u hu=>hv u (List.mem_cons_of_mem _ hu)) hk (by omega) h⟩
end
theorem OKS.bindL {s:Sto}{x:Int}{t:Tm}(h:OKS s)(hz:t.sz≤40000):OKS (bindS s x t):=by
 by_cases q:z2t s x t=true
 · have q':=q;simp only [z2t,Bool.and_eq_true,decide_eq_true_eq] at q';have hb:bd 2199023255552 t:=zp9 _ t 0 0 q'.2.2.1 (Int.le_refl _) (by omega) q'.2.2.2;exact OKS.bindA h hz hb
 · rw [(z3c (by simpa using q)).1];exact h
end Go.AM

set_option maxRecDepth 100000
open Go Go.Proofs
namespace Go.AM
theorem z1n (q:IS){e:Int}(h:e≠0):(z3o q e).e≠0:=by
 unfold z3o;split
 · exact h
 · rename_i h;exact h
theorem zpp {lv:Int}{L:List Tm}{t:Tm}{k:Int}(h:t.sz=1):(imgT lv L t k).1.sz=1:=by
 unfold imgT;split
 · exact h
 · split
   · rfl
   · exact h
theorem zr3 (lv:Int)(L:List Tm)(k:Int)(m:Nat):∀ (l:List Tm) (i:Nat) (a:List Tm×List Tm),(∀ t∈l,t.sz=1)→(∀ t∈a.2,t.sz=1)→∀ t∈(imgs lv L k m l i a).2,t.sz=1
 | [],_,_,_,h=>h
 | t::l,i,a,hl,h=>by
  rw [imgs];refine zr3 lv L k m l (i+1) _ (fun u hu=>hl u (List.mem_cons_of_mem _ hu)) ?_;split
  · intro u hu;rcases List.mem_append.1 hu with hu | hu
    · exact h u hu
    · rw [List.mem_singleton.1 hu];exact zpp (hl t List.mem_cons_self)
  · exact h
theorem zkm (c:Bool)(lvy k:Int)(n:Nat):∀ (l:List Tm) (i:Nat) (a:List Tm×List Tm),(∀ t∈a.2,t.sz=1)→∀ t∈(z6v c lvy k n l i a).2,t.sz=1
 | [],_,_,h=>h
 | t::l,i,a,h=>by
  rw [z6v];refine zkm c lvy k n l (i+1) _ ?_;split
  · intro u hu;rcases List.mem_append.1 hu with hu | hu
    · exact h u hu
    · rw [List.mem_singleton.1 hu];rfl
  · exact h
theorem flexG_sz {lv:Int}{L:List Tm}{q:IS}{y k:Int}{ls:List Tm}{f:Int}(h:∀ t∈ls,t.sz=1):(z65 lv L q y k ls f).1.sz≤2+ls.length+L.length:=by
 have i1:=zr3 lv L k ls.length ls 0 ([],[]) h (fun t h=>nomatch h);have i2:=z9t lv L k ls.length ls 0 ([],[]) rfl;have m1:=zkm (decide ((infOf q.s.V y).lv>lv)) (infOf q.s.V y).lv k L.length L 0 _ i1;have m2:=z7r (decide ((infOf q.s.V y).lv>lv)) (infOf q.s.V y).lv k L.length L 0 (imgs lv L k ls.length ls 0 ([],[])) i2.1;simp only [List.length_nil,Nat.zero_add] at i2;unfold z65;split
 · have a:=z32 (.mk 4 [] y []) (imgs lv L k ls.length ls 0 ([],[])).2;have b:=ziv i1;have c:(Tm.mk 4 [] y []).sz=1:=rfl;simp only;omega
 · have a:=z32 (.mk 4 [] (q.s.V.length:Int) []) (onF lv (infOf q.s.V y).lv L k ls).2;have b:=ziv m1;have c:(Tm.mk 4 [] (q.s.V.length:Int) []).sz=1:=rfl;simp only;unfold onF at a ⊢;omega
section
variable {C:Nat} (hC:C≤1073741824) {L:List Tm} (hL:LP L) (hL1:L.length≤157) (x lv:Int)
include hC hL hL1
omit hC hL hL1 in
theorem zty {tm:IS→Tm→Tm×IS} {f0:Int} (hgi:∀ q t,GI C q→0≤q.f→q.f≤f0→(q.e=0→validB t=true→Fit q.f.toNat t)→GI C (tm q t).2∧(tm q t).2.f≤q.f∧0≤(tm q t).2.f)
  (htm:∀ q t,GI C q→0≤q.f→q.f≤f0→(q.e=0→validB t=true→Fit q.f.toNat t)→(tm q t).2.e=0→q.e=0∧((tm q t).1.sz:Int)+160*(tm q t).2.f≤160*q.f):
  ∀ (l:List Tm) (q:IS),GI C q→0≤q.f→q.f≤f0→(∀ t∈l,validB t=true→Fit q.f.toNat t)→(z1u tm l q).2.e=0→q.e=0∧(Tm.szs (z1u tm l q).1:Int)+160*(z1u tm l q).2.f≤160*q.f
 | [],q,h,h0,_,_,he=>⟨he,by simp only [z1u,Tm.szs];omega⟩
 | t::l,q,h,h0,h1,hl,he=>by
  have a:=hgi q t h h0 h1 (fun _=>hl t List.mem_cons_self);have b:=zty hgi htm l (tm q t).2 a.1 a.2.2 (by omega) (fun u hu hv=>(hl u (List.mem_cons_of_mem _ hu) hv).mono (by omega)) he;have c:=htm q t h h0 h1 (fun _=>hl t List.mem_cons_self) b.1;refine ⟨c.1, ?_⟩;simp only [z1u,Tm.szs];have:=b.2;have:=c.2;omega
theorem zu1:∀ (D:Nat) (q:IS) (t:Tm) (k:Int),GI C q→0≤q.f→(q.e=0→validB t=true→Fit q.f.toNat t)→(z0j x lv L D q t k).2.e=0→q.e=0∧((z0j x lv L D q t k).1.sz:Int)+160*(z0j x lv L D q t k).2.f≤160*q.f
 | 0,q,t,k,h,h0,_,he=>by
  rw [z0j] at he;split at he
  · rename_i q1;exact absurd he q1
  · exact absurd he (z1n _ (by decide))
 | D+1,q,t,k,h,h0,hf,he=>by
  rw [z0j] at he ⊢;split at he
  · rename_i q1;exact absurd he q1
  rename_i q1;rw [if_neg q1];have e0:q.e=0:=by simpa using q1
  refine ⟨e0, ?_⟩;split at he
  · exact absurd he (z1n _ (by decide))
  rename_i hf0;rw [if_neg hf0];have hV:=h.V;have hT:=h.T;have hfit:validB t=true→Fit (q.f-1).toNat t:=fun hv=>(hf e0 hv).mono (by omega);unfold zj5 at he ⊢;split at he
  · rename_i hz;exact absurd he (z1n _ hz)
  rename_i hz;rw [if_neg hz];have ok:=z6m h.ok (by omega) hfit (by simpa using hz);generalize z0t q.s (q.f-1) t=z at*;obtain ⟨z1,z2,z3⟩:=z;simp only at ok he ⊢;obtain ⟨hv,hfz,hz0,hz1⟩:=ok;have sp:=zcn hv hfz;have g:GI C ⟨q.s,z2,q.e⟩:=h.less hz0 (by omega);have ih:=fun q' t' k'=>zu1 D q' t' k';have gi:=fun q' t' k'=>z9c hC hL x lv D q' t' k';unfold z5t at he ⊢;split at he
  · rename_i h5;rw [if_pos h5]
    have hne:(z03 z1).1.l ≠ []:=fun e=>by
     have o:=z04 _ sp.1.1;generalize (z03 z1).1=w at*;obtain ⟨wk,ws,wn,wl⟩:=w;obtain ⟨u,hu,_⟩:=okB5 o h5;rw [hu] at e;cases e
    have hm:hd (z03 z1).1.l∈(z03 z1).1.l:=by
     cases hl:(z03 z1).1.l with
     | nil=>exact absurd hl hne
     | cons a b=>exact List.mem_cons_self
    have:=ih ⟨q.s,z2,q.e⟩ (hd (z03 z1).1.l) (k+1) g hz0 (fun _ hv=>(sp.2.2.2 _ hm).2 hv) he;simp only at this ⊢;rw [zcd];have:=this.2;omega
  rename_i h5;rw [if_neg h5];split at he
  · rename_i h4;rw [if_pos h4];split at he
    · exact absurd he (z1n _ (by decide))
    rename_i hx;rw [if_neg hx];have ha:=z4v g.ok (z03 z1).1.n (z03 z1).2 z2 (fun t ht=>(sp.2.1 t ht).2);unfold z3m at he ⊢;split at he
    · rename_i hr;exact absurd he (z1n _ hr)
    rename_i hr;rw [if_neg hr];have ha2:=ha.2.1 hz0 (by simpa using hr);have:=flexG_sz (lv:=lv) (L:=L) (q:=⟨q.s,z2,q.e⟩) (y:=(z03 z1).1.n) (k:=k) (f:=(z0x q.s (z03 z1).1.n (z03 z1).2 z2).2.1) (fun t ht=>(ha.1 t ht).1);rw [zmn];simp only at this ha2 ⊢;omega
  rename_i h4;rw [if_neg h4];unfold zfp at he ⊢;split at he
  · exact absurd he (z1n _ (by decide))
  rename_i hi;rw [if_neg hi]
  have h6:(z03 z1).1.k≠6:=by
   unfold z03;split
   · rename_i h6;obtain ⟨zk,zs,zn,zl⟩:=z1;obtain ⟨a,b,r,rfl,ha6,_⟩:=okB6 (z04 _ hv) h6.1;exact ha6
   · rename_i h6;exact fun q=>h6 ⟨q,hv⟩
  have hone:(z03 z1).1.sz=1:=by
   have o:=z04 _ sp.1.1;generalize (z03 z1).1=w at*;obtain ⟨wk,ws,wn,wl⟩:=w;have:=okB0 o h5 h6;subst this;rfl
  have kk:=zty (tm:=fun q t=>z0j x lv L D q t k) (f0:=z2) (fun q' t' a b _ d=>gi q' t' k a b d) (fun q' t' a b _ d e=>ih q' t' k a b d e) (z03 z1).2 ⟨q.s,z2,q.e⟩ g hz0 (Int.le_refl _) (fun t ht=>(sp.2.1 t ht).2) he
  have hh:(if (z03 z1).1.k=3∨(z03 z1).1.k=1 then (imgT lv L (z03 z1).1 k).1 else (z03 z1).1).sz=1:=by
   split
   · exact zpp hone
   · exact hone
  have ap:=z32 (if (z03 z1).1.k=3∨(z03 z1).1.k=1 then (imgT lv L (z03 z1).1 k).1 else (z03 z1).1) (z1u (fun q t=>z0j x lv L D q t k) (z03 z1).2 ⟨q.s,z2,q.e⟩).1
  have k2:=kk.2;simp only at k2 ap ⊢;omega
end
end Go.AM

set_option maxRecDepth 100000
open Go Go.Proofs
namespace Go.AM
section
variable {p:Int→Bool}
theorem zwr {l:List Tm}(h:l ≠ []):hd l∈l:=by
 cases l with
 | nil=>exact absurd rfl h
 | cons a b=>exact List.mem_cons_self
end
end Go.AM

set_option maxRecDepth 100000
open Go Go.Proofs
namespace Go.AM
theorem z54 {s:Sto}{lv i:Int}(h0:0≤i)(h1:i<(s.V.length:Int)):infOf (freshS s lv).V i=infOf s.V i:=by
 obtain ⟨hl,e⟩:=z1w h0 h1;obtain ⟨hl',e'⟩:=z1w (V:=(freshS s lv).V) h0 (by simp [freshS];omega);rw [e,e'];exact List.getElem_append_left hl
theorem z87 {s:Sto}{y i:Int}{t:Tm}(h0:0≤i)(h1:i<(s.V.length:Int)):infOf (bindS s y t).V i=infOf s.V i∨(i=y∧infOf (bindS s y t).V i=⟨(infOf s.V y).lv,true,t⟩):=by
 by_cases q:z2t s y t=true
 · have hy:=z6u q;obtain ⟨hl,e⟩:=z1w h0 h1;obtain ⟨hl',e'⟩:=z1w (V:=(bindS s y t).V) h0 (by rw [z1f];exact h1);by_cases hiy:i=y
   · right;refine ⟨hiy, ?_⟩;subst hiy;rw [e'];simp only [(z1x q).1,List.getElem_set_self]
   · left;rw [e,e'];simp only [(z1x q).1];rw [List.getElem_set_ne (by omega)]
 · left;rw [(z3c (by simpa using q)).1]
end Go.AM

set_option maxRecDepth 100000
open Go Go.Proofs
namespace Go.AM
inductive Chg (s0:Sto):Sto→Prop
 | refl:Chg s0 s0
 | fresh {s:Sto} (lv:Int):Chg s0 s→Chg s0 (freshS s lv)
 | bind {s:Sto} (x:Int) (t:Tm):Chg s0 s→Chg s0 (bindS s x t)
theorem Chg.hang {s0 s:Sto}(h:Chg s0 s)(y lv:Int)(m:Nat)(on:List Tm):Chg s0 (z3y s y lv m on):=(h.fresh lv).bind _ _
theorem Chg.fail {s0:Sto}{q:IS}(h:Chg s0 q.s)(e:Int):Chg s0 (z3o q e).s:=by unfold z3o;split<;>exact h
theorem zm3 {s0:Sto}(lv:Int)(L:List Tm){q:IS}(h:Chg s0 q.s)(y:Int)(l:List Tm)(k:Int):Chg s0 (z3m lv L q y l k).2.s:=by
 unfold z3m;split
 · exact h.fail _
 · unfold z65;split
   · exact h
   · exact h.hang _ _ _ _
theorem zcr {s0:Sto}{tm:IS→Tm→Tm×IS}(htm:∀ q t,Chg s0 q.s→Chg s0 (tm q t).2.s):∀ (l:List Tm) (q:IS),Chg s0 q.s→Chg s0 (z1u tm l q).2.s
 | [],_,h=>h
 | t::l,q,h=>zcr htm l (tm q t).2 (htm q t h)
theorem z4y {s0:Sto}(x lv:Int)(L:List Tm):∀ (D:Nat) (q:IS) (t:Tm) (k:Int),Chg s0 q.s→Chg s0 (z0j x lv L D q t k).2.s
 | 0,q,t,k,h=>by
  rw [z0j];split
  · exact h
  · exact h.fail _
 | D+1,q,t,k,h=>by
  rw [z0j];split
  · exact h
  · split
    · exact h.fail _
    · unfold zj5;split
      · exact h.fail _
      · generalize z0t q.s (q.f-1) t=z;obtain ⟨z1,z2,z3⟩:=z;dsimp only;unfold z5t;split
        · exact z4y x lv L D ⟨q.s,z2,q.e⟩ _ _ h
        · split
          · split
            · exact Chg.fail (q:=⟨q.s,z2,q.e⟩) h _
            · exact zm3 lv L (q:=⟨q.s,z2,q.e⟩) h _ _ _
          · unfold zfp;split
            · exact Chg.fail (q:=⟨q.s,z2,q.e⟩) h _
            · exact zcr (fun q' t' a=>z4y x lv L D q' t' k a) _ ⟨q.s,z2,q.e⟩ h
theorem zba {s0 s:Sto}(h:Chg s0 s)(x:Int)(l:List Tm)(t:Tm)(f:Int):Chg s0 (z05 s x l t f).2:=by
 unfold z05;split
 · exact h
 · split<;>exact z4y _ _ _ _ _ _ _ h
theorem zu6 {s0 s:Sto}(h:Chg s0 s)(x:Int)(K:List Bool):Chg s0 (z3k s x K):=by
 unfold z3k;split
 · exact h.hang _ _ _ _
 · exact h
theorem zvb {s0 s:Sto}(h:Chg s0 s)(f x:Int)(l:List Tm)(t:Tm):Chg s0 (z50 s f x l t).2.1:=by
 unfold z50;split
 · exact zba h _ _ _ _
 · exact (zba h _ _ _ _).bind _ _
theorem zef {s0 s:Sto}(h:Chg s0 s)(f:Int)(x:SD)(t:Tm):Chg s0 (z1a s f x t).2.1:=by
 unfold z1a;split
 · exact h
 · exact zvb h _ _ _ _
theorem zgr {s0 s:Sto}(h:Chg s0 s)(f:Int)(x y:SD):Chg s0 (z0v s f x y).2.1:=by
 unfold z0v;split
 · exact h
 · split
   · exact h
   · split
     · exact h
     · split
       · exact h
       · exact zu6 h _ _
theorem zi8 {s0 s:Sto}(h:Chg s0 s)(f:Int)(p:Tm×Tm):Chg s0 (z0f s f p).1.2.1:=by
 unfold z0f;split
 · exact h
 · split
   · exact h
   · unfold z5e;split
     · exact h
     · split
       · exact zgr h _ _ _
       · split
         · exact zef h _ _ _
         · split
           · exact zef h _ _ _
           · split<;>exact h
theorem z99 {s0:Sto}:∀ (F:Nat) (s:Sto) (f:Int) (st:List (Tm×Tm)),Chg s0 s→Chg s0 (runW F s f st).2.1
 | _,s,f,[],h=>by rw [runW];exact h
 | 0,s,f,_::_,h=>by rw [runW];exact h
 | F+1,s,f,p::st,h=>by
  rw [runW];split
  · exact h
  · split
    · exact zi8 h _ _
    · exact z99 F _ _ _ (zi8 h _ _)
def WF (s:Sto):Prop:=∀ i∈s.V,i.bd=false→i.v=noT
theorem WF.fresh {s:Sto}(h:WF s)(lv:Int):WF (freshS s lv):=fun i hi hb=>by
 rcases List.mem_append.1 hi with hi | hi
 · exact h i hi hb
 · simp at hi;subst hi;rfl
theorem WF.bind {s:Sto}(h:WF s)(x:Int)(t:Tm):WF (bindS s x t):=fun i hi hb=>by
 by_cases q:z2t s x t=true
 · rw [(z1x q).1] at hi;rcases List.mem_or_eq_of_mem_set hi with hi | rfl
   · exact h i hi hb
   · cases hb
 · rw [(z3c (by simpa using q)).1] at hi;exact h i hi hb
theorem OKT.fresh {s:Sto}(h:OKT s)(lv:Int):OKT (freshS s lv):=fun x hx=>by
 have:=h x hx;rw [(zdz s lv).1];omega
theorem OKT.bind {s:Sto}(h:OKT s)(x:Int)(t:Tm):OKT (bindS s x t):=fun y hy=>by
 rw [z1f];by_cases q:z2t s x t=true
 · rw [(z1x q).1] at hy;rcases List.mem_append.1 hy with hy | hy
   · exact h y hy
   · simp at hy;subst hy;exact z6u q
 · rw [(z3c (by simpa using q)).1] at hy;exact h y hy
theorem Chg.all {s0 s:Sto}(h:Chg s0 s)(w:WF s0)(t:OKT s0):WF s∧OKT s∧Ext s0 s:=by
 induction h with
 | refl=>exact ⟨w,t, .refl _⟩
 | fresh lv _ ih=>exact ⟨ih.1.fresh lv,ih.2.1.fresh lv,ih.2.2.fresh lv⟩
 | bind x u _ ih=>exact ⟨ih.1.bind x u,ih.2.1.bind x u,ih.2.2.bind ih.1 x u⟩
theorem zlq {s:Sto}(hs:OKS s)(E:Nat):∀ {F:Nat} {t:Tm},validB t=true→Fit (F+E) t→(runH s F t).2.1=0→validB (runH s F t).1=true∧Fit (F-(runH s F t).2.2+E) (runH s F t).1∧(runH s F t).2.2≤F
 | 0,t,hv,hf,h0=>by
  rw [runH] at h0 ⊢;split
  · exact ⟨hv,by simpa using hf,Nat.le_refl _⟩
  · rename_i q;rw [if_neg q] at h0;cases h0
 | F+1,t,hv,hf,h0=>by
  rw [runH] at h0 ⊢;split
  · exact ⟨hv,hf,Nat.zero_le _⟩
  · rename_i q;rw [if_neg q] at h0;split
    · rename_i q2;rw [if_pos q2] at h0;cases h0
    · rename_i q2;rw [if_neg q2] at h0
      have h1:(z0i s t).2=1:=by rcases zdy s t with r | r | r; · exact absurd r q
                                · exact r
                                · exact absurd r q2
      obtain ⟨v,f⟩:=z7t (F:=F+E) hs hv (by rw [show F+E+1=F+1+E by omega];exact hf) h1;have:=zlq hs E v f h0;refine ⟨this.1, ?_,by have:=this.2.2;simp only;omega⟩;have h2:=this.2.1;simp only;rw [show F+1-((runH s F (z0i s t).1).2.2+1)+E=F-(runH s F (z0i s t).1).2.2+E by omega];exact h2
theorem zuu {s:Sto}(hs:OKS s)(E:Nat){f:Int}{t:Tm}(h0:0≤f)(hf:validB t=true→Fit (f.toNat+E) t)(he:(z0t s f t).2.2=0):validB (z0t s f t).1=true∧Fit ((z0t s f t).2.1.toNat+E) (z0t s f t).1∧0≤(z0t s f t).2.1∧(z0t s f t).2.1≤f:=by
 unfold z0t at he ⊢;split at he
 · rename_i hv;rw [if_pos hv];split at he
   · rename_i h1;rw [if_pos h1];have hq:=zlq hs E hv (hf hv) h1;refine ⟨hq.1, ?_,by simp only;omega,by simp only;omega⟩;have:(f-((runH s f.toNat t).2.2:Int)).toNat=f.toNat-(runH s f.toNat t).2.2:=by omega
     simp only [this];exact hq.2.1
   · rename_i h1;exact absurd he h1
 · cases he
def okP (F:Nat)(t:Tm):Prop:=validB t=true∧Fit F t
theorem okP.mono {F G:Nat}{t:Tm}(h:okP F t)(hg:G≤F):okP G t:=⟨h.1,h.2.mono hg⟩
theorem z22 {F:Nat}{z:Tm}(h:okP F z):okP F (z03 z).1∧(∀ t∈(z03 z).2,okP F t)∧(z03 z).2.length≤SZ:=by
 have sp:=zcn h.1 h.2;refine ⟨sp.1,fun t ht=> ?_,sp.2.2.1⟩;unfold z03 at ht;split at ht
 · rename_i h6;obtain ⟨k,s,n,l⟩:=z;have hm:t∈l:=List.mem_of_mem_drop ht;have hv:=z08 h.1 (.inr h6.1) t hm;exact ⟨hv,h.2.kid hm⟩
 · cases ht
theorem zct {F:Nat}{t:Tm}(h:okP (F+1) t):okP F (z5g t):=by
 have hv:=h.1;unfold z5g;rw [if_pos hv];split
 · rename_i h5;obtain ⟨k,s,n,l⟩:=t;have h5:k=5:=h5;obtain ⟨u,hu,_⟩:=okB5 (z04 _ hv) h5;subst hu;have hk:=z08 hv (.inl h5) u List.mem_cons_self;exact ⟨hk,(h.2.kid (show u∈Tm.l (.mk k s n [u]) from List.mem_cons_self)).mono (by omega)⟩
 · have ok:=zy7 (fr:=0) (by_:=1) 0 (z04 _ hv);have hb:=h.2.2.2.1;have hF:=h.2.2.2.2;have lv:=shT_lv (by_:=1) (M:=M61-SZ-SZ*((F+1:Nat):Int)) (D:=0) (by omega) (by simp only [M61,SZ];omega) t 0 0 hb (z2i hv) (Int.le_refl _);have bb:=shT_bd (fr:=0) (by_:=1) (by omega) t 0 hb (Int.le_refl _);have sz:=zgb 0 1 t 0;have az:=z32 (shT 0 1 t 0) [.mk 3 [] 0 []];have oa:=z4a (args:=[.mk 3 [] 0 []]) ok (by decide);have la:=z4c (args:=[.mk 3 [] 0 []]) lv (by decide);have h2:=h.2.2.1;have e1:Tm.szs [.mk 3 [] 0 []]=1:=rfl;refine ⟨by rw [z24,oa,la];rfl,oa,by omega,z2z (z5r (by simp only [SZ];omega) _ bb) ⟨⟨fun _=>⟨?_, ?_⟩,trivial⟩,trivial⟩,by omega⟩
   · simp only [M61,SZ];omega
   · simp only [M61,SZ];omega
theorem z3z {s:Sto}(hs:OKS s){f:Int}(h0:0≤f){t:Tm}(h:okP (f.toNat+1) t){x:SD}{g:Int}(e:z0a s f t=((x,0),g)):0≤g∧g≤f∧okP (g.toNat+1) x.t∧x=zez x.t∧z0t s f t=(x.t,g,0):=by
 unfold z0a at e;split at e
 · rename_i q;injection e with e1 e2;injection e1 with e1 e3;exact absurd e3 q
 · rename_i q;have q:(z0t s f t).2.2=0:=by simpa using q
   have hh:=zuu hs 1 h0 (fun _=>h.2) q;injection e with e1 e2;injection e1 with e1 e3
   subst e1;refine ⟨by rw [←e2];exact hh.2.2.1,by rw [←e2];exact hh.2.2.2, ?_,rfl, ?_⟩
   · rw [←e2];exact ⟨hh.1,hh.2.1⟩
   · rw [←e2,←q];rfl
end Go.AM

set_option maxRecDepth 100000
open Go Go.Proofs
namespace Go.AM
theorem bV3_bd {n:Int}(h0: -1000000≤n)(h1:n≤1000000):bd M61 (bV3 n):=⟨fun _=>⟨by simp only [M61];omega,by simp only [M61];omega⟩,trivial⟩
theorem zd0:bd M61 noT:=⟨fun q=>(by cases q),trivial⟩
theorem zul {lv:Int}{L:List Tm}{t:Tm}{k:Int}(h:bd M61 t)(hL:L.length≤900)(hk0:0≤k)(hk1:k≤6000):bd M61 (imgT lv L t k).1:=by
 have hlt:=zqh (fun u=>lfB u (outT t k)) L 0;unfold imgT;split
 · exact h
 · split
   · exact bV3_bd (by omega) (by omega)
   · exact h
theorem zua (lv:Int)(L:List Tm)(k:Int)(m:Nat)(hL:L.length≤900)(hk0:0≤k)(hk1:k≤6000):∀ (l:List Tm) (i:Nat) (a:List Tm×List Tm),(∀ t∈l,bd M61 t)→(∀ t∈a.2,bd M61 t)→∀ t∈(imgs lv L k m l i a).2,bd M61 t
 | [],_,_,_,h=>h
 | t::l,i,a,hl,h=>by
  rw [imgs];refine zua lv L k m hL hk0 hk1 l (i+1) _ (fun u hu=>hl u (List.mem_cons_of_mem _ hu)) ?_;split
  · intro u hu;rcases List.mem_append.1 hu with hu | hu
    · exact h u hu
    · rw [List.mem_singleton.1 hu];exact zul (hl t List.mem_cons_self) hL hk0 hk1
  · exact h
theorem zq0 (c:Bool)(lvy k:Int)(n:Nat)(hn:n≤900)(hk0:0≤k)(hk1:k≤6000):∀ (l:List Tm) (i:Nat) (a:List Tm×List Tm),i+l.length≤n→(∀ t∈a.2,bd M61 t)→∀ t∈(z6v c lvy k n l i a).2,bd M61 t
 | [],_,_,_,h=>h
 | t::l,i,a,hi,h=>by
  rw [z6v];simp only [List.length_cons] at hi;refine zq0 c lvy k n hn hk0 hk1 l (i+1) _ (by omega) ?_;split
  · intro u hu;rcases List.mem_append.1 hu with hu | hu
    · exact h u hu
    · rw [List.mem_singleton.1 hu];exact bV3_bd (by omega) (by omega)
  · exact h
theorem zpf {M:Int}(n:Nat){t:Tm}(h:bd M t):bd M (z4m n t):=zi2 n h
section
variable {C:Nat} (hC:C≤1073741824) {L:List Tm} (hL:LP L) (x lv:Int)
include hL
theorem flexG_bd {q:IS}{y k:Int}{ls:List Tm}{f:Int}(h:∀ t∈ls,bd M61 t)(hk0:0≤k)(hk1:k≤6000):bd M61 (z65 lv L q y k ls f).1:=by
 have i2:=zua lv L k ls.length hL.1 hk0 hk1 ls 0 ([],[]) h (fun t h=>nomatch h);have m2:=zq0 (decide ((infOf q.s.V y).lv>lv)) (infOf q.s.V y).lv k L.length hL.1 hk0 hk1 L 0 _ (by omega) i2;unfold z65;split
 · exact z2z ⟨fun q=>(by cases q),trivial⟩ (z8p i2)
 · exact z2z ⟨fun q=>(by cases q),trivial⟩ (z8p m2)
include hC
omit hC hL in
theorem ztd {tm:IS→Tm→Tm×IS} {f0:Int} (hgi:∀ q t,GI C q→0≤q.f→q.f≤f0→(q.e=0→validB t=true→Fit q.f.toNat t)→GI C (tm q t).2∧(tm q t).2.f≤q.f∧0≤(tm q t).2.f)
  (htm:∀ q t,GI C q→0≤q.f→q.f≤f0→(q.e=0→validB t=true→Fit q.f.toNat t)→bd M61 (tm q t).1):
  ∀ (l:List Tm) (q:IS),GI C q→0≤q.f→q.f≤f0→(∀ t∈l,validB t=true→Fit q.f.toNat t)→bds M61 (z1u tm l q).1
 | [],q,h,h0,_,_=>trivial
 | t::l,q,h,h0,h1,hl=>by
  have a:=hgi q t h h0 h1 (fun _=>hl t List.mem_cons_self);exact ⟨htm q t h h0 h1 (fun _=>hl t List.mem_cons_self),ztd hgi htm l (tm q t).2 a.1 a.2.2 (by omega) (fun u hu hv=>(hl u (List.mem_cons_of_mem _ hu) hv).mono (by omega))⟩
theorem zxy:∀ (D:Nat) (q:IS) (t:Tm) (k:Int),GI C q→0≤q.f→(q.e=0→validB t=true→Fit q.f.toNat t)→0≤k→k+(D:Int)≤6000→bd M61 (z0j x lv L D q t k).1
 | 0,q,t,k,h,h0,_,_,_=>by
  rw [z0j];split<;>exact zd0
 | D+1,q,t,k,h,h0,hf,hk0,hk1=>by
  rw [z0j];split
  · exact zd0
  rename_i q1;have e0:q.e=0:=by simpa using q1
  split
  · exact zd0
  rename_i hf0;have hfit:validB t=true→Fit (q.f-1).toNat t:=fun hv=>(hf e0 hv).mono (by omega);unfold zj5;split
  · exact zd0
  rename_i hz;have ok:=z6m h.ok (by omega) hfit (by simpa using hz);generalize z0t q.s (q.f-1) t=z at*;obtain ⟨z1,z2,z3⟩:=z;dsimp only at ok ⊢;obtain ⟨hv,hfz,hz0,hz1⟩:=ok;have sp:=z22 ⟨hv,hfz⟩;have g:GI C ⟨q.s,z2,q.e⟩:=h.less hz0 (by omega);have ih:=fun q' t' k'=>zxy D q' t' k';have gi:=fun q' t' k'=>z9c hC hL x lv D q' t' k';unfold z5t;split
  · rename_i h5
    have hne:(z03 z1).1.l ≠ []:=fun e=>by
     have o:=z04 _ sp.1.1;generalize (z03 z1).1=w at*;obtain ⟨wk,ws,wn,wl⟩:=w;obtain ⟨u,hu,_⟩:=okB5 o h5;rw [hu] at e;cases e
    have hm:hd (z03 z1).1.l∈(z03 z1).1.l:=zwr hne;exact zpf 1 (ih ⟨q.s,z2,q.e⟩ _ (k+1) g hz0 (fun _ _=>sp.1.2.kid hm) (by omega) (by omega))
  split
  · split
    · exact zd0
    have ha:=z4v g.ok (z03 z1).1.n (z03 z1).2 z2 (fun t ht _=>(sp.2.1 t ht).2);unfold z3m;split
    · exact zd0
    exact flexG_bd hL lv (fun t ht=>(ha.1 t ht).2.2.2.1) hk0 (by omega)
  · unfold zfp;split
    · exact zd0
    have kk:=ztd (C:=C) (tm:=fun q t=>z0j x lv L D q t k) (f0:=z2) (fun q' t' a b _ d=>gi q' t' k a b d) (fun q' t' a b _ d=>ih q' t' k a b d hk0 (by omega)) (z03 z1).2 ⟨q.s,z2,q.e⟩ g hz0 (Int.le_refl _) (fun t ht _=>(sp.2.1 t ht).2);refine z2z ?_ kk;split
    · exact zul sp.1.2.bd hL.1 hk0 (by omega)
    · exact sp.1.2.bd
end
theorem zm8 {C:Nat}(hC:C≤1073741824){s:Sto}(hs:OKS s)(x:Int){l:List Tm}{t:Tm}{f:Int}(h0:0≤f)(hf:f≤157)(hV:s.V.length+f.toNat≤C)(hT:s.T.length+f.toNat≤C)(hl:l.length≤157)(hfit:validB t=true→Fit f.toNat t):
  OKS (z05 s x l t f).2∧(z05 s x l t f).2.V.length≤C∧(z05 s x l t f).2.T.length≤C∧((z05 s x l t f).1.2.2=0→0≤(z05 s x l t f).1.2.1∧(z05 s x l t f).1.2.1≤f∧
   (z05 s x l t f).2.V.length+(z05 s x l t f).1.2.1.toNat≤C∧(z05 s x l t f).2.T.length+(z05 s x l t f).1.2.1.toNat≤C∧(z05 s x l t f).1.1.sz≤40000∧bd M61 (z05 s x l t f).1.1):=by
 unfold z05;split
 · exact ⟨hs,by simp only;omega,by simp only;omega,fun h=>by cases h⟩
 · rename_i hc;simp only [Bool.or_eq_true,not_or] at hc;have hL:LP l:=⟨by omega,fun u hu=>(z53 (t:=u) (by have:=List.any_eq_false.1 (by simpa using hc.2:(l.any fun u=> !z4d u)=false) u hu;simpa using this)).1⟩;have gg:GI C ⟨s,f,0⟩:=⟨hs,hV,hT,by simp only;omega,by simp only;omega⟩;have g:=z9c hC hL x (infOf s.V x).lv f.toNat ⟨s,f,0⟩ t 0 gg h0 (fun _=>hfit);have z:=zu1 hC hL hl x (infOf s.V x).lv f.toNat ⟨s,f,0⟩ t 0 gg h0 (fun _=>hfit);have b:=zxy hC hL x (infOf s.V x).lv f.toNat ⟨s,f,0⟩ t 0 gg h0 (fun _=>hfit) (Int.le_refl _) (by omega);generalize z0j x (infOf s.V x).lv l f.toNat ⟨s,f,0⟩ t 0=w at*;obtain ⟨w1,ws,wf,we⟩:=w;have gV:=g.1.V;have gT:=g.1.T;dsimp only at*;split
   · rename_i he;exact ⟨g.1.ok,by dsimp only;omega,by dsimp only;omega,fun h=>absurd h he⟩
   · rename_i he;have he:we=0:=by simpa using he
     have z:=(z he).2;refine ⟨g.1.ok,by dsimp only;omega,by dsimp only;omega,fun _=>⟨g.2.2,g.2.1,gV,gT, ?_,zpf _ b⟩⟩;dsimp only;rw [zcd];omega
end Go.AM

set_option maxRecDepth 100000
open Go Go.Proofs
namespace Go.AM
theorem onK_P (m:Int)(hm:m≤1000):∀ (bs:List Bool) (i:Int),0≤i→i+(bs.length:Int)≤m→(onK m bs i).length≤bs.length∧∀ t∈onK m bs i,t.sz=1∧bd 2199023255552 t
 | [],i,_,_=>⟨Nat.le_refl _,fun t h=>by rw [onK] at h;cases h⟩
 | b::bs,i,h0,h1=>by
  simp only [List.length_cons] at h1;have ih:=onK_P m hm bs (i+1) (by omega) (by omega);rw [onK];split
  · refine ⟨by simp only [List.length_cons];omega,fun t ht=> ?_⟩;rcases List.mem_cons.1 ht with rfl | ht
    · exact bnd_P (n:=m-1-i) (by omega) (by omega)
    · exact ih.2 t ht
  · exact ⟨by simp only [List.length_cons];omega,ih.2⟩
theorem zpn {s:Sto}(hV:s.V.length≤1073741824){K:List Bool}(hK:K.length≤900):(z5m s K.length (onK (K.length:Int) K 0)).sz≤40000∧bd 2199023255552 (z5m s K.length (onK (K.length:Int) K 0)):=by
 have o:=onK_P (K.length:Int) (by omega) K 0 (Int.le_refl _) (by omega);exact zn0 hV hK (by omega) o.2
theorem c_kprune {s:Sto}(hV:s.V.length≤1073741824)(hT:s.T.length≤1073741824)(x:Int){K:List Bool}(hK:K.length≤900):AC Tryz.prog 94 [aS 0,ci x, .c (.a (.fz (.sl false 1 (BR K))))] (oS s) (ci (z8h s x)) (oS' (z3k s x K)):=by
 have o:=onK_P (K.length:Int) (by omega) K 0 (Int.le_refl _) (by omega);have hp:=zpn hV hK;exact c_iprune s x K (by omega) (c_hang s x _ _ _ (by omega) (by omega) (by omega) (by omega) (by have:=hp.1;simp only [B];omega) (z5r (by simp only [M61];omega) _ hp.2))
theorem zyc {s:Sto}(hs:OKS s)(hV:s.V.length≤1073741824)(x:Int){K:List Bool}(hK:K.length≤900):OKS (z3k s x K)∧(z3k s x K).V.length≤s.V.length+1∧(z3k s x K).T.length≤s.T.length+1:=by
 have hp:=zpn hV hK;unfold z3k;split
 · have e1:=zdz s (infOf s.V x).lv;have e2:=z7u (freshS s (infOf s.V x).lv) x (z5m s K.length (onK (K.length:Int) K 0));rw [e1.2] at e2;exact ⟨hs.hang x _ hp,by rw [z3y,z1f,e1.1];omega,by rw [z3y];omega⟩
 · exact ⟨hs,by omega,by omega⟩
def zoe (C:Nat)(g:Int)(z:Int×Sto×Int):Prop:=
 OKS z.2.1∧z.2.1.V.length≤C∧z.2.1.T.length≤C∧(z.1=0→0≤z.2.2∧z.2.2≤g∧z.2.1.V.length+z.2.2.toNat≤C∧z.2.1.T.length+z.2.2.toNat≤C)
theorem z2o {s:Sto}(hs:OKS s){g:Int}(h0:0≤g){x:SD}(hx:∀ t∈x.a,okP (g.toNat+1) t):
  (∀ t∈(z02 s g x).1.1,lfP t)∧((z02 s g x).1.1.length:Int)≤g∧0≤(z02 s g x).2∧(z02 s g x).2≤g:=by
 have ha:=z4v hs x.h.n x.a g (fun t ht _=>(hx t ht).2.mono (by omega));unfold z02;by_cases q:(z0x s x.h.n x.a g).2.2=0
 · have a2:=ha.2.1 h0 q;rw [if_pos q];exact ⟨ha.1,by dsimp only;omega,by dsimp only;omega,by dsimp only;omega⟩
 · rw [if_neg q];have e:=ha.2.2 q;exact ⟨ha.1,by dsimp only;rw [e];simpa using h0,h0,Int.le_refl _⟩
theorem z9f {s:Sto}(hs:OKS s)(n:Nat)(R:List (List FV)){g:Int}(h0:0≤g){x:SD}(hx:∀ t∈x.a,okP (g.toNat+1) t)(hl:x.a.length≤SZ):
  AC Tryz.prog 92 [aWk,aSD x] (oWk s n R g) (aLvE (z02 s g x).1) (oWk s n R (z02 s g x).2):=by
 refine zy6 s hs n R g x (by simp only [SZ] at hl;omega) (by omega) fun t ht=>⟨?_,fun _=>(hx t ht).2.mono (by omega)⟩;have:=(hx t ht).2.sz;simp only [SZ,B] at*;omega
theorem okP.B {F:Nat}{t:Tm}(h:okP F t):t.sz≤B:=by have:=h.2.sz;simp only [SZ,Go.AM.B] at*;omega
section
variable {C:Nat} (hC:C≤1073741824) {s:Sto} (hs:OKS s) {g:Int} (h0:0≤g) (h1:g≤156) (hV:s.V.length+g.toNat+1≤C) (hT:s.T.length+g.toNat+1≤C)
include hC hs h0 h1 hV hT
theorem zuh (x:SD)(hx:∀ t∈x.a,okP (g.toNat+1) t){t:Tm}(ht:okP (g.toNat+1) t):zoe C g (z1a s g x t):=by
 have ll:=z2o hs h0 hx;unfold z1a;split
 · rename_i q;exact ⟨hs,by dsimp only;omega,by dsimp only;omega,fun e=>absurd e q⟩
 · have iv:=zm8 (C:=C-1) (by omega) hs x.h.n (l:=(z02 s g x).1.1) (t:=t) (f:=(z02 s g x).2) ll.2.2.1 (by omega) (by omega) (by omega) (by omega) (fun _=>ht.2.mono (by omega));unfold z50;split
   · rename_i q;exact ⟨iv.1,by dsimp only;omega,by dsimp only;omega,fun e=>absurd e q⟩
   · rename_i q;have q:(z05 s x.h.n (z02 s g x).1.1 t (z02 s g x).2).1.2.2=0:=by simpa using q
     have i4:=iv.2.2.2 q;have bT:=z7u (z05 s x.h.n (z02 s g x).1.1 t (z02 s g x).2).2 x.h.n (z05 s x.h.n (z02 s g x).1.1 t (z02 s g x).2).1.1;have bV:=z1f (z05 s x.h.n (z02 s g x).1.1 t (z02 s g x).2).2 x.h.n (z05 s x.h.n (z02 s g x).1.1 t (z02 s g x).2).1.1;exact ⟨iv.1.bindL i4.2.2.2.2.1,by dsimp only;omega,by dsimp only;omega,fun _=>⟨i4.1,by dsimp only;omega,by dsimp only;omega,by dsimp only;omega⟩⟩
theorem c_flex (n:Nat)(R:List (List FV))(x y:SD)(hx:∀ t∈x.a,okP (g.toNat+1) t)(hl:x.a.length≤SZ)(hy:okP (g.toNat+1) y.t):
  AC Tryz.prog 78 [aWk,aSD x,aSD y] (oWk s n R g) (ci (z1a s g x y.t).1) (oWk' (z1a s g x y.t).2.1 n R (z1a s g x y.t).2.2):=by
 have ll:=z2o hs h0 hx;have iv:=zm8 (C:=C-1) (by omega) hs x.h.n (l:=(z02 s g x).1.1) (t:=y.t) (f:=(z02 s g x).2) ll.2.2.1 (by omega) (by omega) (by omega) (by omega) (fun _=>hy.2.mono (by omega));refine c_uflex s n R g x y (z9f hs n R h0 hx hl) (fun _=> ?_);refine c_ubind s n R (z02 s g x).2 x (z02 s g x).1.1 y.t ?_ (fun q=> ?_)
 · exact zw7 (C:=C-1) (by omega) s x.h.n _ y.t _ ll.2.2.1 (by omega) hs (by omega) (by omega) (by omega) (fun u hu=>by have:=(ll.1 u hu).1;simp only [B];omega) hy.B (fun _=>hy.2.mono (by omega))
 · have i4:=iv.2.2.2 q;exact zn5 _ _ _ (by omega) (by have:=i4.2.2.2.2.1;simp only [B];omega) i4.2.2.2.2.2
theorem prune_ok (x y:SD)(hx:∀ t∈x.a,okP (g.toNat+1) t)(hy:∀ t∈y.a,okP (g.toNat+1) t):zoe C g (z0v s g x y):=by
 have ll:=z2o hs h0 hx;have lm:=z2o hs ll.2.2.1 (x:=y) (fun t ht=>(hy t ht).mono (by omega));unfold z0v;split
 · rename_i q;exact ⟨hs,by dsimp only;omega,by dsimp only;omega,fun e=>absurd e q⟩
 · split
   · rename_i q;exact ⟨hs,by dsimp only;omega,by dsimp only;omega,fun e=>absurd e q⟩
   · split
     · exact ⟨hs,by dsimp only;omega,by dsimp only;omega,fun e=>by cases e⟩
     · split
       · exact ⟨hs,by dsimp only;omega,by dsimp only;omega,fun _=>⟨lm.2.2.1,by dsimp only;omega,by dsimp only;omega,by dsimp only;omega⟩⟩
       · rename_i hlen _;have kk:=zyc hs (by omega) x.h.n (K:=List.zipWith z1b (z02 s g x).1.1 (z02 s (z02 s g x).2 y).1.1) (by simp only [List.length_zipWith];omega);exact ⟨kk.1,by dsimp only;omega,by dsimp only;omega,fun _=>⟨lm.2.2.1,by dsimp only;omega,by dsimp only;omega,by dsimp only;omega⟩⟩
theorem c_prune' (n:Nat)(R:List (List FV))(x y:SD)(hx:∀ t∈x.a,okP (g.toNat+1) t)(hxl:x.a.length≤SZ)(hy:∀ t∈y.a,okP (g.toNat+1) t)(hyl:y.a.length≤SZ):
  AC Tryz.prog 77 [aWk,aSD x,aSD y] (oWk s n R g) (ci (z0v s g x y).1) (oWk' (z0v s g x y).2.1 n R (z0v s g x y).2.2):=by
 have ll:=z2o hs h0 hx;exact zqw s n R g x y (z9f hs n R h0 hx hxl) (fun _=>z9f hs n R ll.2.2.1 (fun t ht=>(hy t ht).mono (by omega)) hyl) (by omega) (fun t ht=>by have:=(ll.1 t ht).1;simp only [B];omega) (fun _ K hK=>c_kprune (by omega) (by omega) x.h.n (by omega))
end
structure UI (C:Nat)(s:Sto)(f:Int)(st:List (Tm×Tm)):Prop where
 ok:OKS s
 V:s.V.length+f.toNat≤C
 T:s.T.length+f.toNat≤C
 f1:f≤157
 fit:∀ p∈st,okP f.toNat p.1∧okP f.toNat p.2
 len:st.length+200000000*f.toNat≤400000000000
theorem headV_B {s:Sto}(hs:OKS s){f:Int}{t:Tm}(h0:0≤f)(hf:validB t=true→Fit f.toNat t):(z0t s f t).1.sz≤B:=by
 by_cases q:(z0t s f t).2.2=0
 · have:=(z6m hs h0 hf q).2.1.sz;simp only [SZ,B] at*;omega
 · have e:(z0t s f t).1=noT:=by
    unfold z0t at q ⊢;split
    · rename_i hv;rw [if_pos hv] at q;split
      · rename_i h1;rw [if_pos h1] at q;exact absurd rfl q
      · rfl
    · rfl
   rw [e];simp only [B];decide
theorem zpu {s:Sto}(hs:OKS s)(n:Nat)(R:List (List FV)){f:Int}(h0:0≤f){t:Tm}(h:okP f.toNat t):AC Tryz.prog 73 [aWk,aT t] (oWk s n R f) (aSE (z0a s f t).1) (oWk s n R (z0a s f t).2):=
 c_ulook s hs n R f t (by omega) h.B (fun _=>h.2) (headV_B hs h0 (fun _=>h.2))
theorem zpd {F:Nat}{t:Tm}(h:okP F t):AC Tryz.prog 75 [aT t] [] (aT (z5g t)) []:=by
 refine c_ubody t h.B h.2.bd ?_;have h1:=zgb 0 1 t 0;have h2:=(shT 0 1 t 0).sz_eq;have h3:=Tm.szs_length (shT 0 1 t 0).l;have h4:=h.2.sz;simp only [SZ] at h4;omega
section
variable {C:Nat} (hC:C≤1073741824) {s:Sto} {f:Int} {p:Tm×Tm} {st:List (Tm×Tm)} (h:UI C s f (p::st)) (hf:0<f)
include hC h hf
theorem zxc:zoe C (f-1) (z0f s (f-1) p).1∧((z0f s (f-1) p).1.1=0→(∀ q∈(z0f s (f-1) p).2,okP (z0f s (f-1) p).1.2.2.toNat q.1∧okP (z0f s (f-1) p).1.2.2.toNat q.2)∧(z0f s (f-1) p).2.length≤200000000):=by
 have hV:=h.V;have hT:=h.T;have hf1:=h.f1;have hp:=h.fit p List.mem_cons_self;rw [show f.toNat=(f-1).toNat+1 by omega] at hp;have bad:∀ (e g:Int),e≠0→zoe C (f-1) (e,s,g):=fun e g he=>⟨h.ok,by dsimp only;omega,by dsimp only;omega,fun q=>absurd q he⟩;unfold z0f;split
 · rename_i q;exact ⟨bad _ _ q,fun e=>absurd e q⟩
 rename_i q1;have q1:(z0a s (f-1) p.1).1.2=0:=by simpa using q1
 have k1:=z3z h.ok (f:=f-1) (by omega) (t:=p.1) hp.1 (x:=(z0a s (f-1) p.1).1.1) (g:=(z0a s (f-1) p.1).2) (by rw [←q1]);generalize z0a s (f-1) p.1=z1 at*;obtain ⟨⟨x,e1⟩,g1⟩:=z1;dsimp only at*;split
 · rename_i q;exact ⟨bad _ _ q,fun e=>absurd e q⟩
 rename_i q2;have q2:(z0a s g1 p.2).1.2=0:=by simpa using q2
 have k2:=z3z h.ok (f:=g1) k1.1 (t:=p.2) (hp.2.mono (by omega)) (x:=(z0a s g1 p.2).1.1) (g:=(z0a s g1 p.2).2) (by rw [←q2]);generalize z0a s g1 p.2=z2 at*;obtain ⟨⟨y,e2⟩,g⟩:=z2;dsimp only at*;have ox:okP (g.toNat+1) x.t:=k1.2.2.1.mono (by omega);have oy:okP (g.toNat+1) y.t:=k2.2.2.1;have sx:=z22 ox;have sy:=z22 oy;have ex:x.a=(z03 x.t).2:=by rw [k1.2.2.2.1];rfl
 have ey:y.a=(z03 y.t).2:=by rw [k2.2.2.2.1];rfl
 rw [←ex] at sx;rw [←ey] at sy;have L1:∀ z,zoe C g z→zoe C (f-1) z:=fun z hz=>⟨hz.1,hz.2.1,hz.2.2.1,fun e=>by have:=hz.2.2.2 e;exact ⟨this.1,by omega,this.2.2.1,this.2.2.2⟩⟩;have good:zoe C (f-1) (0,s,g):=⟨h.ok,by dsimp only;omega,by dsimp only;omega,fun _=>⟨k2.1,by dsimp only;omega,by dsimp only;omega,by dsimp only;omega⟩⟩;unfold z5e;split
 · refine ⟨good,fun _=>⟨fun q hq=> ?_,by simp⟩⟩;rw [List.mem_singleton.1 hq];exact ⟨zct ox,zct oy⟩
 split
 · exact ⟨L1 _ (prune_ok hC h.ok k2.1 (by omega) (by omega) (by omega) x y sx.2.1 sy.2.1),fun _=>⟨fun q hq=>(nomatch hq),by simp⟩⟩
 split
 · exact ⟨L1 _ (zuh hC h.ok k2.1 (by omega) (by omega) (by omega) x sx.2.1 oy),fun _=>⟨fun q hq=>(nomatch hq),by simp⟩⟩
 split
 · exact ⟨L1 _ (zuh hC h.ok k2.1 (by omega) (by omega) (by omega) y sy.2.1 ox),fun _=>⟨fun q hq=>(nomatch hq),by simp⟩⟩
 split
 · exact ⟨bad _ _ (by decide),fun e=>absurd (show (170:Int)=0 from e) (by decide)⟩
 · refine ⟨good,fun _=>⟨fun q hq=> ?_, ?_⟩⟩
   · have hm:=List.of_mem_zip (a:=q.1) (b:=q.2) hq;exact ⟨(sx.2.1 _ hm.1).mono (by dsimp only;omega),(sy.2.1 _ hm.2).mono (by dsimp only;omega)⟩
   · have:=sx.2.2;simp only [List.length_zip,SZ] at*;omega
theorem zeo (e:(z0f s (f-1) p).1.1=0):UI C (z0f s (f-1) p).1.2.1 (z0f s (f-1) p).1.2.2 ((z0f s (f-1) p).2++st)∧(z0f s (f-1) p).1.2.2≤f-1:=by
 have k:=zxc hC h hf;have k1:=k.1.2.2.2 e;have k2:=k.2 e;have hf1:=h.f1;have hl:=h.len;simp only [List.length_cons] at hl;refine ⟨⟨k.1.1,k1.2.2.1,k1.2.2.2,by omega,fun q hq=> ?_, ?_⟩,k1.2.1⟩
 · rcases List.mem_append.1 hq with hq | hq
   · exact k2.1 q hq
   · have:=h.fit q (List.mem_cons_of_mem _ hq);exact ⟨this.1.mono (by omega),this.2.mono (by omega)⟩
 · rw [List.length_append];omega
theorem c_pair {n:Nat}{R:List (List FV)}(hn:n≤R.length)(hn2:n≤500000000000):AC Tryz.prog 59 [aWk,aPr p] (oWk s n R (f-1)) (ci (z0f s (f-1) p).1.1) (oPa n R (z0f s (f-1) p)):=by
 have hV:=h.V;have hT:=h.T;have hf1:=h.f1;have hp:=h.fit p List.mem_cons_self;rw [show f.toNat=(f-1).toNat+1 by omega] at hp
 have g0:(z0a s (f-1) p.1).1.2=0→0≤(z0a s (f-1) p.1).2∧(z0a s (f-1) p.1).2≤f-1:=fun q1=>by
  have k1:=z3z h.ok (f:=f-1) (by omega) (t:=p.1) hp.1 (x:=(z0a s (f-1) p.1).1.1) (g:=(z0a s (f-1) p.1).2) (by rw [←q1]);exact ⟨k1.1,k1.2.1⟩
 refine zum s n R (f-1) p hn hn2 (zpu h.ok n R (by omega) (hp.1.mono (by omega))) (fun q=>zpu h.ok n R (g0 q).1 (hp.2.mono (by have:=g0 q;omega))) (fun x y g e1 e2=> ?_);have g0:=g0 (by rw [e1]);have k1:=z3z h.ok (f:=f-1) (by omega) (t:=p.1) hp.1 (x:=x) (g:=(z0a s (f-1) p.1).2) (by rw [←e1]);have k2:=z3z h.ok (f:=(z0a s (f-1) p.1).2) g0.1 (t:=p.2) (hp.2.mono (by omega)) (x:=y) (g:=g) e2;have ox:okP (g.toNat+1) x.t:=k1.2.2.1.mono (by omega);have oy:okP (g.toNat+1) y.t:=k2.2.2.1;have sx:=z22 ox;have sy:=z22 oy;have ex:x.a=(z03 x.t).2:=by rw [k1.2.2.2.1];rfl
 have ey:y.a=(z03 y.t).2:=by rw [k2.2.2.2.1];rfl
 have eh:x.h=(z03 x.t).1:=by rw [k1.2.2.2.1];rfl
 rw [←ex,←eh] at sx;rw [←ey] at sy
 exact ⟨zpd ox,zpd oy,sx.1.B,by have:=sx.2.2;simp only [SZ] at this;omega,fun _=>c_prune' hC h.ok k2.1 (by omega) (by omega) (by omega) n R x y sx.2.1 sx.2.2 sy.2.1 sy.2.2,
  fun _ _ _=>c_flex hC h.ok k2.1 (by omega) (by omega) (by omega) n R x y sx.2.1 sx.2.2 oy,fun _ _ _=>c_flex hC h.ok k2.1 (by omega) (by omega) (by omega) n R y x sy.2.1 sy.2.2 ox⟩
end
theorem zqr {C:Nat}(hC:C≤1073741824):∀ (F:Nat) (s:Sto) (f:Int) (st:List (Tm×Tm)),UI C s f st→OKS (runW F s f st).2.1∧(runW F s f st).2.1.V.length≤C∧(runW F s f st).2.1.T.length≤C∧(0≤f→(runW F s f st).1=0→0≤(runW F s f st).2.2∧(runW F s f st).2.2≤f∧(runW F s f st).2.1.V.length+(runW F s f st).2.2.toNat≤C∧(runW F s f st).2.1.T.length+(runW F s f st).2.2.toNat≤C)
 | F,s,f,[],h=>by
  have e:runW F s f []=(0,s,f):=by cases F<;>rfl
  have hV:=h.V;have hT:=h.T;rw [e];exact ⟨h.ok,by dsimp only;omega,by dsimp only;omega,fun q _=>⟨q,Int.le_refl _,hV,hT⟩⟩
 | 0,s,f,p::st,h=>by
  have hV:=h.V;have hT:=h.T;rw [runW];exact ⟨h.ok,by dsimp only;omega,by dsimp only;omega,fun _ q=>by cases q⟩
 | F+1,s,f,p::st,h=>by
  have hV:=h.V;have hT:=h.T;rw [runW];split
  · exact ⟨h.ok,by dsimp only;omega,by dsimp only;omega,fun _ q=>by cases q⟩
  rename_i hf;have k:=zxc hC h (by omega);split
  · rename_i q;exact ⟨k.1.1,k.1.2.1,k.1.2.2.1,fun _ e=>absurd e q⟩
  rename_i q;have q:(z0f s (f-1) p).1.1=0:=by simpa using q
  have nx:=zeo hC h (by omega) q;have r:=zqr hC F _ _ _ nx.1;have k1:=k.1.2.2.2 q;exact ⟨r.1,r.2.1,r.2.2.1,fun _ e=>by have:=r.2.2.2 k1.1 e;exact ⟨this.1,by omega,this.2.2⟩⟩
theorem c_urunU {C:Nat}(hC:C≤1073741824){s:Sto}{f:Int}{l:List (Tm×Tm)}(h0: -9223372036854775808≤f)(h:UI C s f l):
  ∃ n' R',AC Tryz.prog 41 [aWk] (oWk s l.length (PTs l.reverse) f) (ci (runW f.toNat s f l).1) (oWk' (runW f.toNat s f l).2.1 n' R' (runW f.toNat s f l).2.2):=by
 have a1:∀ s f st,UI C s f st→st.length≤500000000000∧f≤1000000000:=fun s f st h=>⟨by have:=h.len;omega,by have:=h.f1;omega⟩
 have a2:∀ s f p st n R,UI C s f (p::st)→0<f→n≤R.length→n=st.length→AC Tryz.prog 59 [aWk,aPr p] (oWk s n R (f-1)) (ci (z0f s (f-1) p).1.1) (oPa n R (z0f s (f-1) p)):=fun s f p st n R hI hf hn hl=>by
  have:=hI.len;simp only [List.length_cons] at this;exact c_pair hC hI hf hn (by omega)
 have a4:List.take l.length (PTs l.reverse)=PTs l.reverse:=List.take_of_length_le (by rw [z5n,List.length_reverse];exact Nat.le_refl _);obtain ⟨n',R',hr⟩:=zvd (I:=UI C) a1 a2 (fun s f p st hI hf e=>zeo hC hI hf e) f.toNat s f l (PTs l.reverse) (Nat.le_refl _) h a4;refine ⟨n',R',AC.vc hP sh lv41 (by simp) (by simp [isLive]) (by simp [isLive]) (Eq.mpr (v41 ..) ?_)⟩;exact hr
theorem c_uallU {C:Nat}(hC:C≤1073741824){s:Sto}{f:Int}{l:List (Tm×Tm)}(h0: -9223372036854775808≤f)(hl:l.length≤1000000)(hw:WF s)(ht:OKT s)(hz:∀ p∈l,p.1.sz≤B∧p.2.sz≤B)(h:l.any badP=false→UI C s f l):
  AC Tryz.prog 23 [aS 0, .c (.a (.fz (.sl false 8 (PTs l)))),ci f] (oS s) (aE2 (allF s l f).1) (oS' (allF s l f).2):=by
 refine c_uall s l f (by omega) hz (fun q=>c_urunU hC h0 (h q)) (fun q _=> ?_);have r:=zqr hC f.toNat s f l (h q);have c:=(z99 f.toNat s f l .refl).all hw ht;have cut:=c.2.2.cut ht;exact zmr _ _ _ cut.1 (by omega) cut.2.1 c.2.1 cut.2.2
theorem z5y {s:Sto}{f:Int}{l:List (Tm×Tm)}(hw:WF s)(ht:OKT s)(h:(allF s l f).1.2≠0):(allF s l f).2=s∧(allF s l f).1.1=0:=by
 unfold allF at h ⊢;split
 · exact ⟨rfl,rfl⟩
 · rename_i q;rw [if_neg q] at h;split
   · exact ⟨((z99 f.toNat s f l .refl).all hw ht).2.2.undo,rfl⟩
   · rename_i q2;rw [if_neg q2] at h;exact absurd rfl h
end Go.AM

set_option maxRecDepth 100000
open Go Go.Proofs

set_option maxRecDepth 100000
open Go Go.Proofs
namespace Go.AM
theorem SR_in {s:Sto}{x:Int}(h0:0≤x)(h1:x<(s.V.length:Int)):List.getD (SR s.V) (0+Int.toNat x) []=Inf.c (infOf s.V x)∧(0+Int.toNat x)<(SR s.V).length:=by
 obtain ⟨hl,ei⟩:=z1w h0 h1;exact ⟨by rw [Nat.zero_add,zm7 hl,ei],by rw [z2l];omega⟩
end Go.AM

set_option maxRecDepth 100000
open Go Go.Proofs
namespace Go.AM
theorem zv8 (s:Sto)(a b:Tm)(f:Int)(h:AC Tryz.prog 23 [aS 0, .c (.a (.fz (.sl false 8 (PTs [(a,b)])))),ci f] (oS s) (aE2 (allF s [(a,b)] f).1) (oS' (allF s [(a,b)] f).2)):
  AC Tryz.prog 9 [aS 0,aT a,aT b,ci f] (oS s) (aE2 (allF s [(a,b)] f).1) (oS' (allF s [(a,b)] f).2):=by
 generalize allF s [(a,b)] f=z at*;obtain ⟨ak,a2,an,al⟩:=a;obtain ⟨bk,bs,bn,bl⟩:=b;refine AC.vc hP sh lv9 (by simp) (by simp [isLive]) (by simp [isLive]) (Eq.mpr (v9 ak a2 an (FTs al) bk bs bn (FTs bl) ..) ?_);exact ⟨⟨rfl,Nat.le_refl _⟩,z,h, .refl _,rfl⟩
theorem za9 {t:Tm}{F:Nat}(hv:validB t=true)(hz:t.sz≤24)(hb:bd 1000 t)(hF:F≤2000):okP F t:=
 ⟨hv,z04 _ hv,by simp only [SZ];omega,z5r (by simp only [M61,SZ];omega) _ hb,by omega⟩
theorem zh8 {s:Sto}(hs:OKS s){C:Nat}{f:Int}(hV:s.V.length+f.toNat≤C)(hT:s.T.length+f.toNat≤C)(hf:f≤157){l:List (Tm×Tm)}(hl:l.length≤1000)(hz:∀ p∈l,(p.1.sz≤24∧bd 1000 p.1)∧p.2.sz≤24∧bd 1000 p.2)(h:l.any badP=false):UI C s f l:=
 ⟨hs,hV,hT,hf,fun p hp=>by
  have:=List.any_eq_false.1 h p hp;simp only [badP,Bool.or_eq_true,Bool.not_eq_true',not_or,Bool.not_eq_false] at this;have hz:=hz p hp;exact ⟨za9 this.1 hz.1.1 hz.1.2 (by omega),za9 this.2 hz.2.1 hz.2.2 (by omega)⟩,by omega⟩
theorem zcj {C:Nat}(hC:C≤1073741824){s:Sto}(hs:OKS s)(hw:WF s)(ht:OKT s){f:Int}(h0: -9223372036854775808≤f)(hV:s.V.length+f.toNat≤C)(hT:s.T.length+f.toNat≤C)(hf:f≤157){a b:Tm}(ha:a.sz≤24∧bd 1000 a)(hb:b.sz≤24∧bd 1000 b):
  AC Tryz.prog 9 [aS 0,aT a,aT b,ci f] (oS s) (aE2 (allF s [(a,b)] f).1) (oS' (allF s [(a,b)] f).2):=by
 have hz:∀ p∈ [(a,b)],(p.1.sz≤24∧bd 1000 p.1)∧p.2.sz≤24∧bd 1000 p.2:=fun p hp=>by rw [List.mem_singleton.1 hp];exact ⟨ha,hb⟩
 exact zv8 s a b f (c_uallU hC h0 (by simp) hw ht (fun p hp=>by have:=hz p hp;simp only [B];omega) (fun h=>zh8 hs hV hT hf (by simp) hz h))
theorem ztz {C:Nat}(hC:C≤1073741824){s:Sto}{f:Int}{l:List (Tm×Tm)}(hs:OKS s)(hw:WF s)(ht:OKT s)(h:l.any badP=false→UI C s f l)(hV:s.V.length≤C)(hT:s.T.length≤C):
  OKS (allF s l f).2∧WF (allF s l f).2∧OKT (allF s l f).2∧Ext s (allF s l f).2∧(allF s l f).2.V.length≤C∧(allF s l f).2.T.length≤C:=by
 by_cases e:(allF s l f).1.2=0
 · unfold allF at e ⊢;split
   · exact ⟨hs,hw,ht, .refl _,hV,hT⟩
   · rename_i q;rw [if_neg q] at e;split
     · rename_i q2;rw [if_pos q2] at e;exact absurd e q2
     · have r:=zqr hC f.toNat s f l (h (by simpa using q));have c:=(z99 f.toNat s f l .refl).all hw ht;exact ⟨r.1,c.1,c.2.1,c.2.2,r.2.1,r.2.2.1⟩
 · rw [(z5y hw ht e).1];exact ⟨hs,hw,ht, .refl _,hV,hT⟩
abbrev w17S:Sto:=freshS sNil 0
abbrev w17f (t:Tm):Tm:= .mk 6 [] 0 [.mk 0 [102] 0 [],t]
abbrev w17a:Tm:= .mk 0 [97] 0 []
def w17Z:(Int×Int)×Sto:=allF w17S [(w17f (vx1 0),w17f (w17f w17a))] 20
theorem same_of {x y:Tm}(hx:x.sz≤B)(e:z1b x y=true):AC Tryz.prog 12 [aT x,aT y] [] (cb true) []:=by
 have:=zng x hx y;rw [e] at this;exact this
theorem zww:AC Tryz.prog 4 [] [] (cb true) []:=by
 have ok:OKS w17S:=fun i hi hb=>by simp [freshS,sNil] at hi;subst hi;cases hb
 have wf:WF w17S:=fun i hi hb=>by simp [freshS,sNil] at hi;subst hi;rfl
 have ot:OKT w17S:=fun i hi=>by simp [freshS,sNil] at hi
 have sm:∀ t:Tm,t.sz≤24→near 1000 t=true→t.sz≤24∧bd 1000 t:=fun t h1 h2=>⟨h1,zdq _ h2⟩;have u1:AC Tryz.prog 9 [aS 0,aT (w17f (vx1 0)),aT (w17f (w17f w17a)),ci 20] (oS w17S) (aE2 w17Z.1) (oS' w17Z.2):=zcj (C:=100) (by omega) ok wf ot (f:=20) (by omega) (by decide) (by decide) (by omega) (sm (w17f (vx1 0)) (by decide) (by decide)) (sm (w17f (w17f w17a)) (by decide) (by decide));have u2:=zcj (C:=100) (by omega) ok wf ot (f:=20) (by omega) (by decide) (by decide) (by omega) (sm (.mk 5 [] 0 [vx1 0]) (by decide) (by decide)) (sm (.mk 5 [] 0 [w17f (.mk 3 [] 0 [])]) (by decide) (by decide));have u3:=zcj (C:=100) (by omega) ok wf ot (f:=20) (by omega) (by decide) (by decide) (by omega) (sm (.mk 6 [] 0 [vx1 0,w17a]) (by decide) (by decide)) (sm (w17f w17a) (by decide) (by decide));have k:OKS w17Z.2∧WF w17Z.2∧OKT w17Z.2∧Ext w17S w17Z.2∧w17Z.2.V.length≤100∧w17Z.2.T.length≤100:=ztz (C:=100) (by omega) (s:=w17S) (f:=20) (l:=[(w17f (vx1 0),w17f (w17f w17a))]) ok wf ot (fun h=>zh8 ok (by decide) (by decide) (by omega) (by decide) (fun p hp=>by rw [List.mem_singleton.1 hp];exact ⟨sm (w17f (vx1 0)) (by decide) (by decide),sm (w17f (w17f w17a)) (by decide) (by decide)⟩) h) (by decide) (by decide);have hF:=zeu w17Z.2 k.1 9 (vx1 0) (by omega) (by decide) (fun _=>fit_of (by decide+kernel));obtain ⟨c1,c2,c3⟩:=k.2.2.2.1.cut ot;have hU:=zmr w17Z.2 w17S.T.length w17S.V.length c1 (by have:=k.2.2.2.2.2;omega) c2 k.2.2.1 c3;rw [k.2.2.2.1.undo] at hU;have e1:w17Z.1.2=0:=by decide+kernel
 have e2:(allF w17S [(.mk 5 [] 0 [vx1 0], .mk 5 [] 0 [w17f (.mk 3 [] 0 [])])] 20).1.2=170:=by decide+kernel
 have e3:(allF w17S [(.mk 6 [] 0 [vx1 0,w17a],w17f w17a)] 20).1.2=171:=by decide+kernel
 have s2:(allF w17S [(.mk 5 [] 0 [vx1 0], .mk 5 [] 0 [w17f (.mk 3 [] 0 [])])] 20).2=w17S:=(z5y wf ot (by rw [e2];decide)).1;have s3:(allF w17S [(.mk 6 [] 0 [vx1 0,w17a],w17f w17a)] 20).2=w17S:=(z5y wf ot (by rw [e3];decide)).1;have eS:z1b (z0k w17Z.2 9 (vx1 0)).1 (w17f w17a)=true:=by decide+kernel
 have zS:(z0k w17Z.2 9 (vx1 0)).1.sz≤B:=by
  rw [(z3q _ _).1 eS];simp only [B];decide
 have hS:=same_of zS eS;rw [s2] at u2;rw [s3] at u3;generalize z0k w17Z.2 9 (vx1 0)=zF at*;generalize w17Z=Z1 at*;generalize (allF w17S [(.mk 5 [] 0 [vx1 0], .mk 5 [] 0 [w17f (.mk 3 [] 0 [])])] 20).1=Z2 at*;generalize (allF w17S [(.mk 6 [] 0 [vx1 0,w17a],w17f w17a)] 20).1=Z3 at*;obtain ⟨Z21,Z22⟩:=Z2;obtain ⟨Z31,Z32⟩:=Z3;obtain ⟨⟨Z11,Z12⟩,Z13⟩:=Z1;dsimp only at e1 e2 e3;subst e1;subst e2;subst e3;have ap:=fun (f a:Tm) (h:f.l.length+ [a].length<2199023255552)=>z46 f [a] h;refine AC.vc hP sh lv4 (Nat.le_refl _) (by simp) (by simp) (Eq.mpr (v4 ..) ?_)
 refine ⟨(),c_snew,(0,w17S),ziy sNil 0 (by decide),_,_,z7b w17S,⟨rfl,Nat.le_refl _⟩,
  w17f (vx1 0),(ap (.mk 0 [102] 0 []) (vx1 0) (by decide)).args ⟨leT (l:=[]) z0m,zj7 (leFT (l:=[]) z0m),trivial⟩,⟨rfl,Nat.le_refl _⟩,
  w17f w17a,(ap (.mk 0 [102] 0 []) w17a (by decide)).args ⟨leT (l:=[]) z0m,zj7 (leFT (l:=[]) z0m),trivial⟩,⟨rfl,Nat.le_refl _⟩,
  w17f (w17f w17a),(ap (.mk 0 [102] 0 []) (w17f w17a) (by decide)).args ⟨leT (l:=[]) z0m,zj7 (LeR.refl _),trivial⟩,
  ((Z11,0),Z13),u1,zF,hF.args ⟨.refl _,leT (l:=[]) z0m, .refl _,trivial⟩,⟨rfl,Nat.le_refl _⟩,
  w17f w17a,(ap (.mk 0 [102] 0 []) w17a (by decide)).args ⟨leT (l:=[]) z0m,zj7 (leFT (l:=[]) z0m),trivial⟩,true,hS,w17S,hU,
  .mk 5 [] 0 [vx1 0],(zgh 1 (vx1 0) (by omega)).args ⟨.refl _,leT (l:=[]) z0m,trivial⟩,⟨rfl,Nat.le_refl _⟩,
  w17f (.mk 3 [] 0 []),(ap (.mk 0 [102] 0 []) (.mk 3 [] 0 []) (by decide)).args ⟨leT (l:=[]) z0m,zj7 (leFT (l:=[]) z0m),trivial⟩,
  .mk 5 [] 0 [w17f (.mk 3 [] 0 [])],zgh 1 (w17f (.mk 3 [] 0 [])) (by omega),((Z21,170),w17S),u2,⟨rfl,Nat.le_refl _⟩,
  .mk 6 [] 0 [vx1 0,w17a],(ap (vx1 0) w17a (by decide)).args ⟨leT (l:=[]) z0m,zj7 (leFT (l:=[]) z0m),trivial⟩,⟨rfl,Nat.le_refl _⟩,
  w17f w17a,(ap (.mk 0 [102] 0 []) w17a (by decide)).args ⟨leT (l:=[]) z0m,zj7 (leFT (l:=[]) z0m),trivial⟩,((Z31,171),w17S),u3, ?_⟩
 exact z00 (fun _=>z00 (fun _=>z00 (fun _=>z00 (fun _=>⟨_,_,z7b w17S,z07 (by decide)⟩) (fun h=>by simp at h)) (fun h=>by simp at h)) (fun h=>by simp at h)) (fun h=>by simp at h)
end Go.AM

set_option maxRecDepth 100000
open Go Go.Proofs

set_option maxRecDepth 100000
open Go Go.Proofs

set_option maxRecDepth 100000
open Go Go.Proofs
namespace Go.AM
def gB (p:Int→Int→Bool)(k n d:Int):Bool:=if k=3 then decide (n<d) else (decide (k≠4)&&decide (k≠1))||p k n
mutual
def wG (p:Int→Int→Bool):Tm→Int→Bool
 | .mk k _ n l,d=>gB p k n d&&(if (k==5||k==6)=true then wGL p l (d+if (k==5)=true then 1 else 0) else true)
def wGL (p:Int→Int→Bool):List Tm→Int→Bool
 | [],_=>true
 | t::l,d=>wG p t d&&wGL p l d
end
section
variable {p:Int→Int→Bool}
theorem zxb:∀ {l:List Tm} {d:Int},wGL p l d=true↔∀ t∈l,wG p t d=true
 | [],_=>⟨fun _ t h=>(by cases h),fun _=>rfl⟩
 | t::l,d=>by
  rw [wGL,Bool.and_eq_true,zxb (l:=l)];exact ⟨fun h u hu=>(List.mem_cons.1 hu).elim (fun e=>e▸h.1) (h.2 u),fun h=>⟨h t List.mem_cons_self,fun u hu=>h u (List.mem_cons_of_mem _ hu)⟩⟩
theorem zfn {k n d:Int}{s:List UInt8}{l:List Tm}:wG p (.mk k s n l) d=true↔gB p k n d=true∧(k=5∨k=6→∀ t∈l,wG p t (d+if (k==5)=true then 1 else 0)=true):=by
 rw [wG,Bool.and_eq_true];by_cases h:k=5∨k=6
 · rw [if_pos (by simpa using h),zxb];exact ⟨fun x=>⟨x.1,fun _=>x.2⟩,fun x=>⟨x.1,x.2 h⟩⟩
 · rw [if_neg (by simpa using h)];exact ⟨fun x=>⟨x.1,fun q=>absurd q h⟩,fun x=>⟨x.1,rfl⟩⟩
theorem zq3 {k n d:Int}(h3:k≠3)(h4:k≠4)(h1:k≠1):gB p k n d=true:=by simp [gB,h3,h4,h1]
theorem wG_kid5 {t u:Tm}{d:Int}(h:wG p t d=true)(h5:t.k=5)(hu:u∈t.l):wG p u (d+1)=true:=by
 obtain ⟨k,s,n,l⟩:=t;have h5:k=5:=h5;subst h5;exact (zfn.1 h).2 (.inl rfl) u hu
theorem zt6 {t u:Tm}{d:Int}(h:wG p t d=true)(h6:t.k=6)(hu:u∈t.l):wG p u d=true:=by
 obtain ⟨k,s,n,l⟩:=t;have h6:k=6:=h6;subst h6;have:=(zfn.1 h).2 (.inr rfl) u hu
 rwa [if_neg (by decide),Int.add_zero] at this
theorem wG_six {s:List UInt8}{n d:Int}{l:List Tm}(h:∀ t∈l,wG p t d=true):wG p (.mk 6 s n l) d=true:=by
 rw [zfn];exact ⟨zq3 (by decide) (by decide) (by decide),fun _ t ht=>by rw [if_neg (by decide),Int.add_zero];exact h t ht⟩
theorem wG_five {s:List UInt8}{n d:Int}{t:Tm}(h:wG p t (d+1)=true):wG p (.mk 5 s n [t]) d=true:=by
 rw [zfn];exact ⟨zq3 (by decide) (by decide) (by decide),fun _ u hu=>by rw [List.mem_singleton.1 hu];exact h⟩
theorem wG_bV {n d:Int}(h:n<d):wG p (bV3 n) d=true:=by
 show wG p (.mk 3 [] n []) d=true;rw [zfn];exact ⟨by unfold gB;rw [if_pos rfl];exact decide_eq_true h,fun _ t ht=>nomatch ht⟩
theorem wG_var {n d:Int}(h:p 4 n=true):wG p (.mk 4 [] n []) d=true:=by
 rw [zfn];exact ⟨by unfold gB;rw [if_neg (by decide),h,Bool.or_true],fun _ t ht=>nomatch ht⟩
theorem ztp {f:Tm}{l:List Tm}{d:Int}(hf:wG p f d=true)(hl:∀ t∈l,wG p t d=true):wG p (z09 f l) d=true:=by
 cases l with
 | nil=>exact hf
 | cons x a=>
  by_cases h:(f.k==6)=true∧f.l ≠ []
  · rw [show z09 f (x::a)= .mk 6 [] 0 (f.l++(x::a)) from if_pos h];have h6:f.k=6:=by simpa using h.1
    exact wG_six fun t ht=>(List.mem_append.1 ht).elim (zt6 hf h6) (hl t)
  · rw [show z09 f (x::a)= .mk 6 [] 0 (f::(x::a)) from if_neg h];exact wG_six fun t ht=>(List.mem_cons.1 ht).elim (fun e=>e▸hf) (hl t)
theorem zi9:∀ {l:List Tm},l ≠ []→z6j l∈l
 | [],h=>absurd rfl h
 | [a],_=>List.mem_cons_self
 | a::b::l,_=>by
  have:=zi9 (l:=b::l) (by simp);show z6j (a::b::l)∈a::b::l;exact List.mem_cons_of_mem _ this
mutual
theorem zqy:∀ (t:Tm) (d acc:Int),wG p t d=true→0≤acc→z1v t d acc=acc
 | .mk k s n l,d,acc,h,ha=>by
  rw [zfn] at h;rw [z1v];split
  · rename_i h5;have h5:k=5:=by simpa using h5
    subst h5;exact zed l (d+1) acc (h.2 (.inl rfl)) ha
  · split
    · rename_i h6;have h6:k=6:=by simpa using h6
      subst h6
      exact zed l d acc (fun u hu=>by
       have:=h.2 (.inr rfl) u hu
       rwa [if_neg (by decide),Int.add_zero] at this) ha
    · split
      · rename_i h3;have h3:k=3:=by simpa using h3
        have:=h.1;unfold gB at this;rw [if_pos h3] at this;have:=of_decide_eq_true this;unfold maxI;split<;>omega
      · rfl
theorem zed:∀ (l:List Tm) (d acc:Int),(∀ t∈l,wG p t d=true)→0≤acc→z4r l d acc=acc
 | [],_,_,_,_=>rfl
 | t::l,d,acc,h,ha=>by
  rw [z4r,zqy t d acc (h _ List.mem_cons_self) ha];exact zed l d acc (fun u hu=>h u (List.mem_cons_of_mem _ hu)) ha
end
end
end Go.AM
