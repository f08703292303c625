/- Contracts of the code's functions over plain values, and plain laws: part 5. No conditions. -/
import Derived.Test.YtmeolnpbbhinjaaGreatPart4
import Derived.Test.YtmeolnpbbhinjaaGreatPart3
import Derived.Test.YtmeolnpbbhinjaaGreatRows
set_option maxRecDepth 100000
open Go Go.Proofs
namespace Go.AM
def z2o (u:Tm)(d:Int):Tm:=if u.k=4∨(u.k=3∧d≤u.n) then .mk 4 [] 0 [] else u
def erT (t:Tm)(d:Int):Tm:=z0a z2o t d
def erL (l:List Tm)(d:Int):List Tm:=z08 z2o l d
abbrev frB (t:Tm)(d:Int):Prop:=t.k=4∨(t.k=3∧d≤t.n)
theorem zqs (u:Tm)(d:Int)(h6:u.k≠6):(z2o u d).k≠6:=by
 unfold z2o;split
 · intro h;cases h
 · exact h6
theorem z6u {t:Tm}(d:Int)(hk:t.k=5∨t.k=6):erT t d= .mk t.k t.s t.n (erL t.l (d+if (t.k==5)=true then 1 else 0)):=by
 obtain ⟨k,s,n,l⟩:=t;exact z1o _ (fun u d _ h6=>zqs u d h6) k s n l d (by rcases hk with e | e<;>rw [show k=_ from e]<;>rfl)
theorem z71 {k:Int}(s:List UInt8)(n:Int)(l:List Tm)(d:Int)(hk:k=5∨k=6):erT (.mk k s n l) d= .mk k s n (erL l (d+if (k==5)=true then 1 else 0)):=z6u (t:= .mk k s n l) d hk
theorem z4e {t:Tm}(d:Int)(hk:¬(t.k=5∨t.k=6)):erT t d=z2o t d:=by
 obtain ⟨k,s,n,l⟩:=t
 exact z3q _ k s n l d (by
  have h5:¬k=5:=fun e=>hk (.inl e);have h6:¬k=6:=fun e=>hk (.inr e);simp [h5,h6])
theorem z49 (t:Tm)(l:List Tm)(d:Int):erL (t::l) d=erT t d::erL l d:=rfl
theorem za3 {u:Tm}{d:Int}(h:frB u d):z2o u d= .mk 4 [] 0 []:=if_pos h
theorem z7r {u:Tm}{d:Int}(h:¬frB u d):z2o u d=u:=if_neg h
theorem zjw (u:Tm)(d:Int)(hk:¬(u.k=5∨u.k=6)):¬((z2o u d).k=5∨(z2o u d).k=6):=by
 by_cases hf:frB u d
 · rw [za3 hf];rintro (e | e)<;>cases e
 · rw [z7r hf];exact hk
theorem zad {t t':Tm}{d:Int}(h:erT t d=erT t' d):
  ((t.k=5∨t.k=6)∧t'.k=t.k∧t'.s=t.s∧t'.n=t.n∧erL t.l (d+if (t.k==5)=true then 1 else 0)=erL t'.l (d+if (t.k==5)=true then 1 else 0))∨(¬(t.k=5∨t.k=6)∧frB t d∧frB t' d)∨(¬(t.k=5∨t.k=6)∧¬frB t d∧¬frB t' d∧t'=t):=by
 by_cases hk:t.k=5∨t.k=6
 · rw [z6u d hk] at h;by_cases hk':t'.k=5∨t'.k=6
   · rw [z6u d hk'] at h;injection h with h1 h2 h3 h4
     refine .inl ⟨hk,h1.symm,h2.symm,h3.symm, ?_⟩;rw [h4,h1]
   · rw [z4e d hk'] at h;exact absurd (by rw [←h];exact hk) (zjw t' d hk')
 · rw [z4e d hk] at h;by_cases hk':t'.k=5∨t'.k=6
   · rw [z6u d hk'] at h;exact absurd (by rw [h];exact hk') (zjw t d hk)
   · rw [z4e d hk'] at h;by_cases hf:frB t d
     · rw [za3 hf] at h;refine .inr (.inl ⟨hk,hf, ?_⟩);by_cases hf':frB t' d
       · exact hf'
       · rw [z7r hf'] at h;exact absurd (.inl (by rw [←h];rfl)) hf'
     · rw [z7r hf] at h;by_cases hf':frB t' d
       · rw [za3 hf'] at h;exact absurd (.inl (by rw [h];rfl)) hf
       · rw [z7r hf'] at h;exact .inr (.inr ⟨hk,hf,hf',h.symm⟩)
theorem z6w {a:Tm}{l l':List Tm}{d:Int}(h:erL (a::l) d=erL l' d):∃ a' r,l'=a'::r∧erT a d=erT a' d∧erL l d=erL r d:=by
 match l',h with
 | [],h=>cases h
 | a'::r,h=>injection h with h1 h2;exact ⟨a',r,rfl,h1,h2⟩
theorem zbj {l':List Tm}{d:Int}(h:erL [] d=erL l' d):l'=[]:=by
 match l',h with
 | [],h=>rfl
 | a'::r,h=>cases h
theorem zlj {l l':List Tm}{d:Int}(h:erL l d=erL l' d):l.length=l'.length:=by
 induction l generalizing l' with
 | nil=>rw [zbj h]
 | cons a l ih=>obtain ⟨a',r,rfl,_,h2⟩:=z6w h;rw [List.length_cons,List.length_cons,ih h2]
theorem zk3 {t t':Tm}{d:Int}(h:erT t d=erT t' d)(hv:validB t=true)(hv':validB t'=true):erT (z00 t).1 d=erT (z00 t').1 d∧erL (z00 t).2 d=erL (z00 t').2 d:=by
 unfold z00;rcases zad h with ⟨hk,ek,_,_,el⟩ | ⟨hk,_,hf⟩ | ⟨hk,_,_,rfl⟩
 · by_cases h6:t.k=6
   · rw [if_pos ⟨h6,hv⟩,if_pos ⟨ek.trans h6,hv'⟩];obtain ⟨k,s,n,l⟩:=t;obtain ⟨k',s',n',l'⟩:=t';have h6:k=6:=h6;subst h6;have ek:k'=6:=ek;subst ek;obtain ⟨x,y,r,rfl,_,_⟩:=okB6 (z0f _ hv) rfl;have el:erL (x::y::r) (d+0)=erL l' (d+0):=el;rw [Int.add_zero] at el;obtain ⟨a',r',rfl,e1,e2⟩:=z6w el;exact ⟨e1,e2⟩
   · rw [if_neg fun q=>h6 q.1,if_neg fun q=>h6 (ek▸q.1)];exact ⟨h,rfl⟩
 · rw [if_neg fun q=>hk (.inr q.1),if_neg fun q=>by rcases hf with e | e<;>omega]
   exact ⟨h,rfl⟩
 · exact ⟨rfl,rfl⟩
theorem zqq:∀ (l l':List Tm) (m:List Int) (k:Int),erL l k=erL l' k→z9f m l k=z9f m l' k
 | [],l',m,k,h=>by rw [zbj h]
 | t::l,l',m,k,h=>by
  obtain ⟨t',r,rfl,h1,h2⟩:=z6w h;rw [z9f,z9f];rcases zad h1 with ⟨hk,ek,_⟩ | ⟨hk,hf,hf'⟩ | ⟨hk,hf,hf',rfl⟩
  · have:¬t.k=3:=by omega
    rw [if_pos this,if_pos (by rw [ek];exact this)]
  · have a:∀ u:Tm,frB u k→(if u.k≠3 then false else if k≤u.n then false else if m.contains u.n=true then false else z9f (m++ [u.n]) l k)=false:=fun u q=>by
     rcases q with q | q
     · rw [if_pos (by omega)]
     · rw [if_neg (fun w=>w q.1),if_pos q.2]
    have b:∀ u:Tm,frB u k→(if u.k≠3 then false else if k≤u.n then false else if m.contains u.n=true then false else z9f (m++ [u.n]) r k)=false:=fun u q=>by
     rcases q with q | q
     · rw [if_pos (by omega)]
     · rw [if_neg (fun w=>w q.1),if_pos q.2]
    rw [a t hf,b t' hf']
  · rw [zqq l r (m++ [t'.n]) k h2]
theorem all_er (p:Tm→Bool):∀ (l l':List Tm) (k:Int),erL l k=erL l' k→(∀ u∈l,∀ u'∈l',erT u k=erT u' k→p u=p u')→l.all p=l'.all p
 | [],l',k,h,_=>by rw [zbj h]
 | t::l,l',k,h,q=>by
  obtain ⟨t',r,rfl,h1,h2⟩:=z6w h;rw [List.all_cons,List.all_cons,q t (by simp) t' (by simp) h1,all_er p l r k h2 fun u hu u' hu'=>q u (List.mem_cons_of_mem _ hu) u' (List.mem_cons_of_mem _ hu')]
theorem zn6 {n:Nat}{t:Tm}{k:Int}(h5:¬t.k=5):patG (n+1) t k=if (z00 t).1.k=5 then false else if frB (z00 t).1 k then z9f [] (z00 t).2 k else (z00 t).2.all fun u=>patG n u k:=by
 rw [patG,if_neg h5]
theorem zro:∀ (n:Nat) (t t':Tm) (k:Int),erT t k=erT t' k→validB t=true→validB t'=true→patG n t k=patG n t' k
 | 0,_,_,_,_,_,_=>rfl
 | n+1,t,t',k,h,hv,hv'=>by
  have hs:=zk3 h hv hv'
  have p5:¬t.k=5→¬t'.k=5→patG (n+1) t k=patG (n+1) t' k:=fun h5 h5'=>by
   rw [zn6 h5,zn6 h5'];have ha:=all_er (fun u=>patG n u k) _ _ k hs.2 fun u hu u' hu' e=>zro n u u' k e (z0b hu) (z0b hu');have hd:=zqq _ _ [] k hs.2;rcases zad hs.1 with ⟨hk,ek,_⟩ | ⟨hk,hf,hf'⟩ | ⟨hk,hf,hf',e⟩
   · have n1:¬frB (z00 t).1 k:=fun q=>by rcases q with q | q<;>omega
     have n2:¬frB (z00 t').1 k:=fun q=>by rcases q with q | q<;>omega
     rw [if_neg n1,if_neg n2,ha];by_cases e5:(z00 t).1.k=5
     · rw [if_pos e5,if_pos (ek.trans e5)]
     · rw [if_neg e5,if_neg (fun q=>e5 (ek.symm.trans q))]
   · have n1:¬(z00 t).1.k=5:=fun q=>hk (.inl q);have n2:¬(z00 t').1.k=5:=fun q=>by rcases hf' with w | w<;>omega
     rw [if_neg n1,if_neg n2,if_pos hf,if_pos hf',hd]
   · rw [e,ha,if_neg hf,if_neg hf]
  rcases zad h with ⟨hk,ek,_,_,el⟩ | ⟨hk,hf,hf'⟩ | ⟨hk,hf,hf',rfl⟩
  · by_cases e5:t.k=5
    · rw [patG,patG,if_pos e5,if_pos (ek.trans e5)];obtain ⟨kk,s,m,l⟩:=t;obtain ⟨k',s',m',l'⟩:=t';have e5:kk=5:=e5;subst e5;have ek:k'=5:=ek;subst ek;obtain ⟨x,rfl,_⟩:=okB5 (z0f _ hv) rfl;obtain ⟨x',rfl,_⟩:=okB5 (z0f _ hv') rfl;obtain ⟨a',r',e,e1,e2⟩:=z6w el;injection e with e3 e4
      subst e3;exact zro n x x' (k+1) e1 (z3e hv (.inl rfl) x (by simp)) (z3e hv' (.inl rfl) x' (by simp))
    · exact p5 e5 fun q=>e5 (ek▸q)
  · exact p5 (fun e=>hk (.inl e)) fun e=>by rcases hf' with q | q<;>omega
  · rfl
mutual
theorem er_er:∀ (t:Tm) (d e:Int),d≤e→erT (erT t e) d=erT t d
 | .mk k s n l,d,e,h=>by
  by_cases hk:k=5∨k=6
  · rw [z71 s n l e hk,z71 s n l d hk,z71 s n _ d hk,er_ers l _ _ (by omega)]
  · rw [z4e (t:= .mk k s n l) e hk,z4e (t:= .mk k s n l) d hk];unfold z2o;by_cases hf:frB (.mk k s n l) e
    · rw [if_pos hf,z4e _ (by rintro (e | e)<;>cases e)];have:frB (.mk k s n l) d:=hf.imp id (fun q=>⟨q.1,by have:=q.2;omega⟩);rw [if_pos this];rfl
    · rw [if_neg hf,z4e (t:= .mk k s n l) _ hk];rfl
theorem er_ers:∀ (l:List Tm) (d e:Int),d≤e→erL (erL l e) d=erL l d
 | [],_,_,_=>rfl
 | t::l,d,e,h=>by
  rw [z49,z49,z49,er_er t d e h,er_ers l d e h]
end
mutual
theorem zef (lf:Tm→Int→Tm)(h6:∀ u d,u.k≠5→u.k≠6→(lf u d).k≠6)(hl:∀ u d,¬(u.k=5∨u.k=6)→¬((lf u d).k=5∨(lf u d).k=6)∧z2o (lf u d) d=z2o u d):∀ (t:Tm) (d:Int),erT (z0a lf t d) d=erT t d
 | .mk k s n l,d=>by
  by_cases hk:k=5∨k=6
  · have hk2:(k==5||k==6)=true:=by rcases hk with e | e<;>rw [e]<;>rfl
    rw [z1o lf h6 k s n l d hk2,z71 s n _ d hk,z71 s n l d hk,zl5 lf h6 hl l _]
  · have hk2:(k==5||k==6)=false:=by
     have h5:¬k=5:=fun e=>hk (.inl e);have h6:¬k=6:=fun e=>hk (.inr e);simp [h5,h6]
    have:=hl (.mk k s n l) d hk;rw [z3q lf k s n l d hk2,z4e _ this.1,z4e (t:= .mk k s n l) _ hk,this.2]
theorem zl5 (lf:Tm→Int→Tm)(h6:∀ u d,u.k≠5→u.k≠6→(lf u d).k≠6)(hl:∀ u d,¬(u.k=5∨u.k=6)→¬((lf u d).k=5∨(lf u d).k=6)∧z2o (lf u d) d=z2o u d):∀ (l:List Tm) (d:Int),erL (z08 lf l d) d=erL l d
 | [],_=>rfl
 | t::l,d=>by rw [z08,z49,z49,zef lf h6 hl t d,zl5 lf h6 hl l d]
end
theorem er_sh (t:Tm)(d:Int):erT (shT 0 1 t d) d=erT t d:=by
 refine zef _ (fun u d _ h6=>zpo 0 1 u d h6) (fun u d hk=>⟨by rw [zkz];exact hk, ?_⟩) t d;unfold z2n;split
 · rename_i h;have h3:u.k=3:=by simpa using h.1
   unfold z2o;rw [if_pos (.inr ⟨h3,by show d≤u.n+1;omega⟩),if_pos (.inr ⟨h3,by omega⟩)]
 · rfl
theorem er_suV (v:Int)(t:Tm)(d:Int):erT (suT 0 (.mk 4 [] v []) t d) d=erT t d:=by
 refine zef _ (fun u d _ h6=>zik 0 v u d h6) (fun u d hk=> ?_) t d;rw [z65];by_cases h3:(u.k==3)=true
 · have h3':u.k=3:=by simpa using h3
   rw [if_pos h3];by_cases h1:u.n<d+0
   · rw [if_pos h1];exact ⟨hk,rfl⟩
   · rw [if_neg h1];split
     · refine ⟨(by rintro (e | e)<;>cases e), ?_⟩;unfold z2o;rw [if_pos (.inl rfl),if_pos (.inr ⟨h3',by omega⟩)]
     · rename_i h2;have h2:¬u.n=d+0:=by simpa using h2
       refine ⟨hk, ?_⟩;unfold z2o;rw [if_pos (.inr ⟨h3',by show d≤u.n-1;omega⟩),if_pos (.inr ⟨h3',by omega⟩)]
 · rw [if_neg h3];exact ⟨hk,rfl⟩
theorem er_open (vs:List Int)(t:Tm):erT (openG vs t) 0=erT t 0:=by
 refine zef _ (fun u d _ h6=>z8o vs u d h6) (fun u d hk=> ?_) t 0;unfold z1g;split
 · rename_i h;have h3:u.k=3:=by simpa using h.1
   split
   · refine ⟨(by rintro (e | e)<;>cases e), ?_⟩;unfold z2o;rw [if_pos (.inl rfl),if_pos (.inr ⟨h3,h.2⟩)]
   · rename_i h1;refine ⟨(by rintro (e | e)<;>cases e), ?_⟩;unfold z2o;rw [if_pos (.inr ⟨rfl,by show d≤u.n-vs.length;omega⟩),if_pos (.inr ⟨h3,h.2⟩)]
 · exact ⟨hk,rfl⟩
theorem zck:∀ (l m:List Tm) (d:Int),erL (l++m) d=erL l d++erL m d
 | [],_,_=>rfl
 | t::l,m,d=>by rw [List.cons_append,z49,z49,zck l m d];rfl
theorem zjs (f x:Tm)(d:Int):erT (z2e f [x]) d=z2e (erT f d) [erT x d]:=by
 show erT (if (f.k==6)=true∧f.l ≠ [] then .mk 6 [] 0 (f.l++ [x]) else .mk 6 [] 0 [f,x]) d=if ((erT f d).k==6)=true∧(erT f d).l ≠ [] then .mk 6 [] 0 ((erT f d).l++ [erT x d]) else .mk 6 [] 0 [erT f d,erT x d]
 have e0:∀ l:List Tm,erT (.mk 6 [] 0 l) d= .mk 6 [] 0 (erL l d):=fun l=>by
  rw [z6u d (.inr rfl)];show Tm.mk 6 [] 0 (erL l (d+0))=_;rw [Int.add_zero]
 by_cases h6:f.k=6
 · have e1:=z6u d (.inr h6);rw [show (d+if (f.k==5)=true then 1 else 0)=d by rw [h6];exact Int.add_zero d] at e1
   rw [e1,h6];by_cases hl:f.l=[]
   · rw [hl,if_neg (by simp),if_neg (by simp [erL,z08,Tm.l]),e0,z49,e1,hl,h6];rfl
   · have hl2:erL f.l d ≠ []:=fun e=>hl (zbj (l':=f.l) (d:=d) (by rw [e];rfl));rw [if_pos ⟨rfl,hl⟩,if_pos ⟨rfl,hl2⟩,e0,zck];rfl
 · have h6':¬(erT f d).k=6:=by
    by_cases h5:f.k=5
    · rw [z6u d (.inl h5)];show¬f.k=6;omega
    · rw [z4e d (by omega)];exact zqs f d h6
   rw [if_neg (by simp [h6]),if_neg (by simp [h6']),e0];rfl
theorem zmt {t t':Tm}(h:erT t 0=erT t' 0)(hv:validB t=true)(hv':validB t'=true):erT (z0g t) 0=erT (z0g t') 0:=by
 have h5':t'.k=5↔t.k=5:=by
  rcases zad h with ⟨_,ek,_⟩ | ⟨hk,_,hf'⟩ | ⟨_,_,_,rfl⟩
  · rw [ek]
  · exact ⟨fun e=>by rcases hf' with q | q<;>omega,fun e=>absurd (.inl e) hk⟩
  · exact Iff.rfl
 unfold z0g;by_cases h5:t.k=5
 · rw [if_pos h5,if_pos (h5'.2 h5)];rcases zad h with ⟨_,ek,_,_,el⟩ | ⟨hk,_⟩ | ⟨hk,_⟩
   · obtain ⟨k,s,n,l⟩:=t;obtain ⟨k',s',n',l'⟩:=t';have h5:k=5:=h5;subst h5;have ek:k'=5:=ek;subst ek;obtain ⟨x,rfl,_⟩:=okB5 (z0f _ hv) rfl;obtain ⟨x',rfl,_⟩:=okB5 (z0f _ hv') rfl;obtain ⟨a',r',e,e1,_⟩:=z6w el;injection e with e3 e4
     subst e3;have e1:erT x 1=erT x' 1:=e1;show erT x 0=erT x' 0;rw [←er_er x 0 1 (by omega),e1,er_er x' 0 1 (by omega)]
   · exact absurd (.inl h5) hk
   · exact absurd (.inl h5) hk
 · rw [if_neg h5,if_neg fun q=>h5 (h5'.1 q),zjs,zjs,er_sh,er_sh,h]
theorem zkm {t t':Tm}(flex:Int)(h:erT t 0=erT t' 0)(hv:validB t=true)(hv':validB t'=true):(z01 t flex).1=(z01 t' flex).1∧(z01 t flex).2.2=(z01 t' flex).2.2∧erL (z01 t flex).2.1 0=erL (z01 t' flex).2.1 0:=by
 have hs:=zk3 h hv hv';rcases zad hs.1 with ⟨hk,ek,_⟩ | ⟨hk,hf,hf'⟩ | ⟨hk,hf,hf',e⟩
 · rw [sh_0 (t:=t) flex (by omega) (by omega) (by omega),sh_0 (t:=t') flex (by omega) (by omega) (by omega)];exact ⟨rfl,rfl,rfl⟩
 · rw [sh_43 (t:=t) flex (by rcases hf with q | q<;>omega),sh_43 (t:=t') flex (by rcases hf' with q | q<;>omega)]
   exact ⟨rfl,rfl,rfl⟩
 · unfold z01;rw [e,zlj hs.2];split
   · exact ⟨rfl,rfl,rfl⟩
   · split
     · exact ⟨rfl,rfl,rfl⟩
     · split
       · exact ⟨rfl,rfl,hs.2⟩
       · split
         · exact ⟨rfl,rfl,rfl⟩
         · exact ⟨rfl,rfl,hs.2⟩
end Go.AM

set_option maxRecDepth 100000
open Go Go.Proofs
namespace Go.AM
theorem er_two {a c a' c':Tm}{d:Int}(h:erL [a,c] d=erL [a',c'] d):erT a d=erT a' d∧erT c d=erT c' d:=by
 injection h with h1 h2
 injection h2 with h3 _
 exact ⟨h1,h3⟩
theorem er_one {a a':Tm}{d:Int}(h:erL [a] d=erL [a'] d):erT a d=erT a' d:=by
 injection h with h1 _
theorem any_er (p q:Tm→Bool):∀ (l l':List Tm) (k:Int),erL l k=erL l' k→(∀ u∈l,∀ u'∈l',erT u k=erT u' k→p u=q u')→l.any p=l'.any q
 | [],l',k,h,_=>by rw [zbj h];rfl
 | t::l,l',k,h,w=>by
  obtain ⟨t',r,rfl,h1,h2⟩:=z6w h;rw [List.any_cons,List.any_cons,w t (by simp) t' (by simp) h1,any_er p q l r k h2 fun u hu u' hu'=>w u (List.mem_cons_of_mem _ hu) u' (List.mem_cons_of_mem _ hu')]
theorem zhy {t:Tm}{flex:Int}(hf:flex≠0)(h:(z01 t flex).2.2=0):(z01 t flex).2.1=(z00 t).2∧(z00 t).1.k=0:=by
 obtain ⟨h0,⟨_,_,q⟩ | ⟨_,_,q,_⟩⟩:=z66 hf h
 · exact ⟨q,h0⟩
 · exact ⟨q,h0⟩
theorem z9t (w:Bool):∀ n:Nat,n≤1000000000→(∀ t t':Tm,TG n t→TG n t'→erT t 0=erT t' 0→z05 w n t=z05 w n t')∧
  (∀ (any:Bool) (vs vs':Int) (L L':List Tm) (t t':Tm),TG n t→TG n t'→erT t 0=erT t' 0→(clsF w n any vs L t).1=(clsF w n any vs' L' t').1)
 | 0,_=>⟨fun _ _ _ _ _=>rfl,fun _ _ _ _ _ _ _ _ _ _=>rfl⟩
 | n+1,hn=>by
  obtain ⟨ihG,ihC⟩:=z9t w n (by omega);refine ⟨fun t t' ht ht' h=> ?_,fun any vs vs' L L' t t' ht ht' h=> ?_⟩
  · obtain ⟨e1,e2,e3⟩:=zkm 133 h ht.1 ht'.1;rw [z05,z05,←e1,←e2];by_cases he:(z01 t 133).2.2≠0
    · rw [if_pos he,if_pos he]
    rw [if_neg he,if_neg he];have he:(z01 t 133).2.2=0:=Classical.byContradiction he;by_cases hif:(z01 t 133).1=nIf
    · rw [if_pos hif,if_pos hif]
    rw [if_neg hif,if_neg hif]
    have two:∀ (hh:(z01 t 133).1=nAnd∨(z01 t 133).1=nOr∨(z01 t 133).1=nImp∨(z01 t 133).1=nIf),∃ a c a' c',(z01 t 133).2.1=[a,c]∧(z01 t' 133).2.1=[a',c']∧TG n a∧TG n a'∧TG n c∧TG n c'∧erT a 0=erT a' 0∧erT c 0=erT c' 0:=fun hh=>by
     obtain ⟨a,c,q,q2,_⟩:=z0h (by omega) he hh;obtain ⟨a',c',q',q2',_⟩:=z0h (t:=t') (by omega) (e2.symm.trans he) (by rw [←e1];exact hh);rw [q,q'] at e3;exact ⟨a,c,a',c',q,q',ht.arg (by rw [q2];simp),ht'.arg (by rw [q2'];simp),ht.arg (by rw [q2];simp),ht'.arg (by rw [q2'];simp),er_two e3⟩
    by_cases hand:(z01 t 133).1=nAnd∨(z01 t 133).1=nOr
    · rw [if_pos hand,if_pos hand];obtain ⟨a,c,a',c',q,q',ta,ta',tc,tc',ea,ec⟩:=two (hand.imp_right .inl);rw [q,q'];show (if z05 w n a≠0 then z05 w n a else z05 w n c)=if z05 w n a'≠0 then z05 w n a' else z05 w n c'
      rw [ihG a a' ta ta' ea,ihG c c' tc tc' ec]
    rw [if_neg hand,if_neg hand];by_cases himp:(z01 t 133).1=nImp
    · rw [if_pos himp,if_pos himp];obtain ⟨a,c,a',c',q,q',ta,ta',tc,tc',ea,ec⟩:=two (.inr (.inr (.inl himp)));rw [q,q'];show (if (clsF w n false 0 [] a).1≠0 then (clsF w n false 0 [] a).1 else z05 w n c)=if (clsF w n false 0 [] a').1≠0 then (clsF w n false 0 [] a').1 else z05 w n c'
      rw [ihC false 0 0 [] [] a a' ta ta' ea,ihG c c' tc tc' ec]
    rw [if_neg himp,if_neg himp];by_cases hpi:(z01 t 133).1=nPi∨(z01 t 133).1=nSig
    · rw [if_pos hpi,if_pos hpi];obtain ⟨a,q,q2,_⟩:=z1c (by omega) he hpi;obtain ⟨a',q',q2',_⟩:=z1c (t:=t') (by omega) (e2.symm.trans he) (by rw [←e1];exact hpi);rw [q,q'] at e3;rw [q,q'];exact ihG (z0g a) (z0g a') (ht.body (by omega) (by rw [q2];simp)) (ht'.body (by omega) (by rw [q2'];simp)) (zmt (er_one e3) (z0b (t:=t) (by rw [q2];simp)) (z0b (t:=t') (by rw [q2'];simp)))
    rw [if_neg hpi,if_neg hpi]
  · obtain ⟨e1,e2,e3⟩:=zkm 131 h ht.1 ht'.1;rw [clsF,clsF,←e1,←e2];by_cases he:(z01 t 131).2.2≠0
    · rw [if_pos he,if_pos he]
    rw [if_neg he,if_neg he];have he:(z01 t 131).2.2=0:=Classical.byContradiction he;have he':(z01 t' 131).2.2=0:=e2.symm.trans he;by_cases hnm:(z01 t 131).1=[]
    · rw [if_pos hnm,if_pos hnm]
      have:(z01 t 131).2.1.any (fun u=> !patG n u 0)=(z01 t' 131).2.1.any (fun u=> !patG n u 0):=any_er _ _ _ _ 0 e3 fun u hu u' hu' e=>by
       rw [(zhy (by omega) he).1] at hu;rw [(zhy (by omega) he').1] at hu';rw [zro n u u' 0 e (z0b hu) (z0b hu')]
      rw [this];split<;>rfl
    rw [if_neg hnm,if_neg hnm]
    have two:∀ (hh:(z01 t 131).1=nAnd∨(z01 t 131).1=nOr∨(z01 t 131).1=nImp∨(z01 t 131).1=nIf),∃ a c a' c',(z01 t 131).2.1=[a,c]∧(z01 t' 131).2.1=[a',c']∧TG n a∧TG n a'∧TG n c∧TG n c'∧erT a 0=erT a' 0∧erT c 0=erT c' 0:=fun hh=>by
     obtain ⟨a,c,q,q2,_⟩:=z0h (by omega) he hh;obtain ⟨a',c',q',q2',_⟩:=z0h (t:=t') (by omega) he' (by rw [←e1];exact hh);rw [q,q'] at e3;exact ⟨a,c,a',c',q,q',ht.arg (by rw [q2];simp),ht'.arg (by rw [q2'];simp),ht.arg (by rw [q2];simp),ht'.arg (by rw [q2'];simp),er_two e3⟩
    by_cases hand:(z01 t 131).1=nAnd
    · rw [if_pos hand,if_pos hand];obtain ⟨a,c,a',c',q,q',ta,ta',tc,tc',ea,ec⟩:=two (.inl hand);rw [q,q'];have f1:=ihC any vs vs' L L' a a' ta ta' ea;have f2:=ihC any vs vs' L L' c c' tc tc' ec;by_cases z:(clsF w n any vs L a).1=0
      · rw [if_neg (show¬(clsF w n any vs L (at0 [a,c])).1≠0 from fun p=>p z),if_neg (show¬(clsF w n any vs' L' (at0 [a',c'])).1≠0 from fun p=>p (f1.symm.trans z))];exact f2
      · rw [if_pos (show (clsF w n any vs L (at0 [a,c])).1≠0 from z),if_pos (show (clsF w n any vs' L' (at0 [a',c'])).1≠0 from fun p=>z (f1.trans p))];exact f1
    rw [if_neg hand,if_neg hand];by_cases hpi:(z01 t 131).1=nPi
    · rw [if_pos hpi,if_pos hpi];obtain ⟨a,q,q2,_⟩:=z1c (by omega) he (.inl hpi);obtain ⟨a',q',q2',_⟩:=z1c (t:=t') (by omega) he' (by rw [←e1];exact .inl hpi);rw [q,q'] at e3;rw [q,q'];exact ihC any _ _ _ _ (z0g a) (z0g a') (ht.body (by omega) (by rw [q2];simp)) (ht'.body (by omega) (by rw [q2'];simp)) (zmt (er_one e3) (z0b (t:=t) (by rw [q2];simp)) (z0b (t:=t') (by rw [q2'];simp)))
    rw [if_neg hpi,if_neg hpi];by_cases himp:(z01 t 131).1=nImp
    · rw [if_pos himp,if_pos himp];obtain ⟨a,c,a',c',q,q',ta,ta',tc,tc',ea,ec⟩:=two (.inr (.inr (.inl himp)));rw [q,q'];have f1:=ihG a a' ta ta' ea;have f2:=ihC any vs vs' (L++ [a]) (L'++ [a']) c c' tc tc' ec;by_cases z:z05 w n a=0
      · rw [if_neg (show¬z05 w n (at0 [a,c])≠0 from fun p=>p z),if_neg (show¬z05 w n (at0 [a',c'])≠0 from fun p=>p (f1.symm.trans z))];exact f2
      · rw [if_pos (show z05 w n (at0 [a,c])≠0 from z),if_pos (show z05 w n (at0 [a',c'])≠0 from fun p=>z (f1.trans p))];exact f1
    rw [if_neg himp,if_neg himp];by_cases hif:(z01 t 131).1=nIf
    · rw [if_pos hif,if_pos hif];obtain ⟨a,c,a',c',q,q',ta,ta',tc,tc',ea,ec⟩:=two (.inr (.inr (.inr hif)));rw [q,q'];have f1:=ihG c c' tc tc' ec;have f2:=ihC any vs vs' (L++ [c]) (L'++ [c']) a a' ta ta' ea;by_cases z:z05 w n c=0
      · rw [if_neg (show¬z05 w n (at1 [a,c])≠0 from fun p=>p z),if_neg (show¬z05 w n (at1 [a',c'])≠0 from fun p=>p (f1.symm.trans z))];exact f2
      · rw [if_pos (show z05 w n (at1 [a,c])≠0 from z),if_pos (show z05 w n (at1 [a',c'])≠0 from fun p=>z (f1.trans p))];exact f1
    rw [if_neg hif,if_neg hif]
theorem z0u (t:Tm):1≤wt t:=by have:=zgl t;have:=t.sz_pos;omega
theorem z9w:∀ (n:Nat) (t:Tm) (k:Int),t.sz≤n→validB t=true→patG (n+1) t k=patG n t k
 | 0,t,k,h,_=>by have:=t.sz_pos;omega
 | n+1,t,k,h,hv=>by
  conv=>lhs;rw [patG]
  conv=>rhs;rw [patG]
  by_cases e5:t.k=5
  · rw [if_pos e5,if_pos e5];obtain ⟨kk,s,m,l⟩:=t;have e5:kk=5:=e5;subst e5;obtain ⟨x,rfl,_⟩:=okB5 (z0f _ hv) rfl;exact z9w n x (k+1) (by simp only [Tm.sz,Tm.szs] at h;omega) (z3e hv (.inl rfl) x (by simp))
  · rw [if_neg e5,if_neg e5]
    have:(z00 t).2.all (fun u=>patG (n+1) u k)=(z00 t).2.all fun u=>patG n u k:=by
     rw [Bool.eq_iff_iff,List.all_eq_true,List.all_eq_true];exact ⟨fun q u hu=>by rw [←z9w n u k (by have:=z8t hu;omega) (z0b hu)];exact q u hu,fun q u hu=>by rw [z9w n u k (by have:=z8t hu;omega) (z0b hu)];exact q u hu⟩
    rw [this]
theorem z73 (w:Bool):∀ n:Nat,n≤1000000000→(∀ t:Tm,wt t≤n→TG n t→z05 w (n+1) t=z05 w n t)∧(∀ (any:Bool) (vs:Int) (L:List Tm) (t:Tm),wt t≤n→TG n t→clsF w (n+1) any vs L t=clsF w n any vs L t)
 | 0,_=>⟨fun t h=>by have:=z0u t;omega,fun _ _ _ t h=>by have:=z0u t;omega⟩
 | n+1,hn=>by
  obtain ⟨ihG,ihC⟩:=z73 w n (by omega);refine ⟨fun t hw ht=> ?_,fun any vs L t hw ht=> ?_⟩
  · conv=>lhs;rw [z05]
    conv=>rhs;rw [z05]
    by_cases he:(z01 t 133).2.2≠0
    · rw [if_pos he,if_pos he]
    rw [if_neg he,if_neg he];have he:(z01 t 133).2.2=0:=Classical.byContradiction he
    have two:∀ (hh:(z01 t 133).1=nAnd∨(z01 t 133).1=nOr∨(z01 t 133).1=nImp∨(z01 t 133).1=nIf),∃ a c,(z01 t 133).2.1=[a,c]∧TG n a∧TG n c∧wt a≤n∧wt c≤n:=fun hh=>by
     obtain ⟨a,c,q,q2,q0⟩:=z0h (by omega) he hh;have ma:a∈(z00 t).2:=by rw [q2];simp
     have mc:c∈(z00 t).2:=by rw [q2];simp
     exact ⟨a,c,q,ht.arg ma,ht.arg mc,by have:=z40 ma q0;omega,by have:=z40 mc q0;omega⟩
    by_cases hif:(z01 t 133).1=nIf
    · rw [if_pos hif,if_pos hif]
    rw [if_neg hif,if_neg hif];by_cases hand:(z01 t 133).1=nAnd∨(z01 t 133).1=nOr
    · rw [if_pos hand,if_pos hand];obtain ⟨a,c,q,ta,tc,wa,wc⟩:=two (hand.imp_right .inl);rw [q];show (if z05 w (n+1) a≠0 then z05 w (n+1) a else z05 w (n+1) c)=if z05 w n a≠0 then z05 w n a else z05 w n c
      rw [ihG a wa ta,ihG c wc tc]
    rw [if_neg hand,if_neg hand];by_cases himp:(z01 t 133).1=nImp
    · rw [if_pos himp,if_pos himp];obtain ⟨a,c,q,ta,tc,wa,wc⟩:=two (.inr (.inr (.inl himp)));rw [q];show (if (clsF w (n+1) false 0 [] a).1≠0 then (clsF w (n+1) false 0 [] a).1 else z05 w (n+1) c)=if (clsF w n false 0 [] a).1≠0 then (clsF w n false 0 [] a).1 else z05 w n c
      rw [ihC false 0 [] a wa ta,ihG c wc tc]
    rw [if_neg himp,if_neg himp];by_cases hpi:(z01 t 133).1=nPi∨(z01 t 133).1=nSig
    · rw [if_pos hpi,if_pos hpi];obtain ⟨a,q,q2,q0⟩:=z1c (by omega) he hpi;have ma:a∈(z00 t).2:=by rw [q2];simp
      rw [q];exact ihG (z0g a) (by have:=z40 ma q0;have:=z8m (z0b ma);omega) (ht.body (by omega) ma)
    rw [if_neg hpi,if_neg hpi]
  · conv=>lhs;rw [clsF]
    conv=>rhs;rw [clsF]
    by_cases he:(z01 t 131).2.2≠0
    · rw [if_pos he,if_pos he]
    rw [if_neg he,if_neg he];have he:(z01 t 131).2.2=0:=Classical.byContradiction he
    have two:∀ (hh:(z01 t 131).1=nAnd∨(z01 t 131).1=nOr∨(z01 t 131).1=nImp∨(z01 t 131).1=nIf),∃ a c,(z01 t 131).2.1=[a,c]∧TG n a∧TG n c∧wt a≤n∧wt c≤n:=fun hh=>by
     obtain ⟨a,c,q,q2,q0⟩:=z0h (by omega) he hh;have ma:a∈(z00 t).2:=by rw [q2];simp
     have mc:c∈(z00 t).2:=by rw [q2];simp
     exact ⟨a,c,q,ht.arg ma,ht.arg mc,by have:=z40 ma q0;omega,by have:=z40 mc q0;omega⟩
    by_cases hnm:(z01 t 131).1=[]
    · rw [if_pos hnm,if_pos hnm]
      have:(z01 t 131).2.1.any (fun u=> !patG (n+1) u 0)=(z01 t 131).2.1.any (fun u=> !patG n u 0):=by
       obtain ⟨q,q0⟩:=zhy (by omega) he;rw [q,Bool.eq_iff_iff,List.any_eq_true,List.any_eq_true];have k:∀ u∈(z00 t).2,patG (n+1) u 0=patG n u 0:=fun u hu=>z9w n u 0 (by have:=z40 hu q0;have:=zgl u;omega) (z0b hu);exact ⟨fun ⟨u,hu,e⟩=>⟨u,hu,by rw [←k u hu];exact e⟩,fun ⟨u,hu,e⟩=>⟨u,hu,by rw [k u hu];exact e⟩⟩
      rw [this]
    rw [if_neg hnm,if_neg hnm];by_cases hand:(z01 t 131).1=nAnd
    · rw [if_pos hand,if_pos hand];obtain ⟨a,c,q,ta,tc,wa,wc⟩:=two (.inl hand);rw [q];show (if (clsF w (n+1) any vs L a).1≠0 then clsF w (n+1) any vs L a else ((clsF w (n+1) any vs L c).1,(clsF w (n+1) any vs L a).2++(clsF w (n+1) any vs L c).2))=if (clsF w n any vs L a).1≠0 then clsF w n any vs L a else ((clsF w n any vs L c).1,(clsF w n any vs L a).2++(clsF w n any vs L c).2)
      rw [ihC any vs L a wa ta,ihC any vs L c wc tc]
    rw [if_neg hand,if_neg hand];by_cases hpi:(z01 t 131).1=nPi
    · rw [if_pos hpi,if_pos hpi];obtain ⟨a,q,q2,q0⟩:=z1c (by omega) he (.inl hpi);have ma:a∈(z00 t).2:=by rw [q2];simp
      rw [q];exact ihC any _ _ (z0g a) (by have:=z40 ma q0;have:=z8m (z0b ma);omega) (ht.body (by omega) ma)
    rw [if_neg hpi,if_neg hpi];by_cases himp:(z01 t 131).1=nImp
    · rw [if_pos himp,if_pos himp];obtain ⟨a,c,q,ta,tc,wa,wc⟩:=two (.inr (.inr (.inl himp)));rw [q];show (if z05 w (n+1) a≠0 then (z05 w (n+1) a,[]) else clsF w (n+1) any vs (L++ [a]) c)=if z05 w n a≠0 then (z05 w n a,[]) else clsF w n any vs (L++ [a]) c
      rw [ihG a wa ta,ihC any vs (L++ [a]) c wc tc]
    rw [if_neg himp,if_neg himp];by_cases hif:(z01 t 131).1=nIf
    · rw [if_pos hif,if_pos hif];obtain ⟨a,c,q,ta,tc,wa,wc⟩:=two (.inr (.inr (.inr hif)));rw [q];show (if z05 w (n+1) c≠0 then (z05 w (n+1) c,[]) else clsF w (n+1) any vs (L++ [c]) a)=if z05 w n c≠0 then (z05 w n c,[]) else clsF w n any vs (L++ [c]) a
      rw [ihG c wc tc,ihC any vs (L++ [c]) a wa ta]
    rw [if_neg hif,if_neg hif]
end Go.AM

set_option maxRecDepth 100000
open Go Go.Proofs
namespace Go.AM
theorem zb9 (w:Bool){t:Tm}{m:Nat}(hm:wt t≤m):∀ n:Nat,m≤n→n≤1000000000→TG n t→z05 w n t=z05 w m t:=by
 intro n
 induction n with
 | zero=>intro h _ _;have:=z0u t;omega
 | succ n ih=>
  intro h hn ht;by_cases e:m=n+1
  · rw [e]
  · rw [(z73 w n (by omega)).1 t (by omega) (ht.mono (by omega)),ih (by omega) (by omega) (ht.mono (by omega))]
theorem cls_le (w:Bool){any:Bool}{vs:Int}{L:List Tm}{t:Tm}{m:Nat}(hm:wt t≤m):∀ n:Nat,m≤n→n≤1000000000→TG n t→clsF w n any vs L t=clsF w m any vs L t:=by
 intro n
 induction n with
 | zero=>intro h _ _;have:=z0u t;omega
 | succ n ih=>
  intro h hn ht;by_cases e:m=n+1
  · rw [e]
  · rw [(z73 w n (by omega)).2 any vs L t (by omega) (ht.mono (by omega)),ih (by omega) (by omega) (ht.mono (by omega))]
theorem z8j (w:Bool):∀ (n:Nat) (vs:Int) (L:List Tm) (t:Tm),(clsF w n false vs L t).1=0→clsF w n true vs L t=clsF w n false vs L t
 | 0,_,_,_,_=>rfl
 | n+1,vs,L,t,h=>by
  rw [clsF] at h
  conv=>lhs;rw [clsF]
  conv=>rhs;rw [clsF]
  by_cases he:(z01 t 131).2.2≠0
  · rw [if_pos he,if_pos he]
  rw [if_neg he] at h;rw [if_neg he,if_neg he];by_cases hnm:(z01 t 131).1=[]
  · rw [if_pos hnm] at h;rw [if_pos hnm,if_pos hnm];by_cases hp:(!(false||w)&&(z01 t 131).2.1.any fun u=> !patG n u 0)=true
    · rw [if_pos hp] at h;cases h
    · rw [if_neg hp,if_neg (by simp)]
  rw [if_neg hnm] at h;rw [if_neg hnm,if_neg hnm];by_cases hand:(z01 t 131).1=nAnd
  · rw [if_pos hand] at h;rw [if_pos hand,if_pos hand];by_cases z:(clsF w n false vs L (at0 (z01 t 131).2.1)).1≠0
    · rw [if_pos z] at h;exact absurd h z
    · rw [if_neg z] at h;rw [z8j w n vs L _ (Classical.byContradiction z),z8j w n vs L _ h]
  rw [if_neg hand] at h;rw [if_neg hand,if_neg hand];by_cases hpi:(z01 t 131).1=nPi
  · rw [if_pos hpi] at h;rw [if_pos hpi,if_pos hpi];exact z8j w n _ _ _ h
  rw [if_neg hpi] at h;rw [if_neg hpi,if_neg hpi];by_cases himp:(z01 t 131).1=nImp
  · rw [if_pos himp] at h;rw [if_pos himp,if_pos himp];by_cases z:z05 w n (at0 (z01 t 131).2.1)≠0
    · rw [if_pos z,if_pos z]
    · rw [if_neg z] at h;rw [if_neg z,if_neg z];exact z8j w n _ _ _ h
  rw [if_neg himp] at h;rw [if_neg himp,if_neg himp];by_cases hif:(z01 t 131).1=nIf
  · rw [if_pos hif] at h;rw [if_pos hif,if_pos hif];by_cases z:z05 w n (at1 (z01 t 131).2.1)≠0
    · rw [if_pos z,if_pos z]
    · rw [if_neg z] at h;rw [if_neg z,if_neg z];exact z8j w n _ _ _ h
  rw [if_neg hif,if_neg hif]
theorem zo6 {t a c:Tm}(h:(z00 t).2=[a,c])(h0:(z00 t).1.k=0):5+wt a+wt c≤wt t:=by
 obtain ⟨s,n,x,y,r,rfl,e,_⟩:=z54 (t:=t) (by rw [h];simp);rw [e] at h h0;injection h with h1 h2
 subst h1;subst h2;have hx:4≤ms wb x:=by rw [zho,show x.k=0 from h0];show 4≤4+_;omega
 unfold wt;simp only [ms,mss];have:wb 6 s=1:=rfl;omega
def GG (M:Nat)(g:Tm):Prop:=TG M g∧wt g≤M∧z05 false M g=0
theorem GG.le {M m:Nat}{g:Tm}(h:GG M g)(h1:m≤M)(h2:wt g≤m)(h3:M≤1000000000):GG m g:=⟨h.1.mono h1,h2,by rw [←zb9 false h2 M h1 h3 h.1];exact h.2.2⟩
def TD (M W:Nat)(c:Cl):Prop:=TG M c.2.1∧wt c.2.1≤W∧((z00 c.2.1).1.k=0∧logB (z00 c.2.1).1.s=false)∧∃ L,c.2.2=z3k L∧gms wb L≤W∧∀ g∈L,GG M g
theorem TD.mono {M W W':Nat}{c:Cl}(h:TD M W c)(hw:W≤W'):TD M W' c:=by
 obtain ⟨h1,h2,h3,L,h4,h5,h6⟩:=h;exact ⟨h1,by omega,h3,L,h4,by omega,h6⟩
theorem zaj (any:Bool):∀ (n M:Nat),n≤M→n+M≤1000000000→∀ (vs:Int) (L:List Tm) (t:Tm),wt t≤n→TG (n+M) t→(∀ g∈L,TG (n+M) g∧wt g≤M∧z05 false M g=0)→(clsF false n any vs L t).1=0→
  ∀ c∈(clsF false n any vs L t).2,(vs≤c.1∧c.1≤vs+wt t)∧TD M (gms wb L+wt t) c
 | 0,_,_,_,_,_,t,h,_,_,_=>by have:=z0u t;omega
 | n+1,M,hnM,hM,vs,L,t,hw,ht,hL,h=>by
  rw [clsF] at h ⊢;have hL':∀ g∈L,TG (n+M) g∧wt g≤M∧z05 false M g=0:=fun g hg=>⟨(hL g hg).1.mono (by omega),(hL g hg).2⟩;have htn:TG (n+M+1) t:=by rw [show n+M+1=n+1+M by omega];exact ht
  by_cases he:(z01 t 131).2.2≠0
  · rw [if_pos he] at h;exact absurd h he
  rw [if_neg he] at h ⊢;have he:(z01 t 131).2.2=0:=Classical.byContradiction he;by_cases hnm:(z01 t 131).1=[]
  · rw [if_pos hnm] at h ⊢;split at h
    · cases h
    · rename_i hp;rw [if_neg hp];intro c hc;have hc:c=(vs,t,z3k L):=by simpa using hc
      subst hc;refine ⟨⟨Int.le_refl _,by show vs≤vs+wt t;omega⟩,ht.mono (by omega),by show wt t≤_;omega, ?_,L,rfl,by omega,fun g hg=>⟨(hL g hg).1.mono (by omega),(hL g hg).2⟩⟩;obtain ⟨h0,⟨_,q,_⟩ | ⟨q,q2,_⟩⟩:=z66 (by omega) he
      · exact ⟨h0,q⟩
      · exact absurd (q.symm.trans hnm) (log_ne q2)
  rw [if_neg hnm] at h ⊢
  have two:∀ (hh:(z01 t 131).1=nAnd∨(z01 t 131).1=nOr∨(z01 t 131).1=nImp∨(z01 t 131).1=nIf),∃ a c,(z01 t 131).2.1=[a,c]∧TG (n+M) a∧TG (n+M) c∧5+wt a+wt c≤wt t:=fun hh=>by
   obtain ⟨a,c,q,q2,q0⟩:=z0h (by omega) he hh;exact ⟨a,c,q,htn.arg (by rw [q2];simp),htn.arg (by rw [q2];simp),zo6 q2 q0⟩
  by_cases hand:(z01 t 131).1=nAnd
  · rw [if_pos hand] at h ⊢;obtain ⟨a,c,q,ta,tc,hs⟩:=two (.inl hand);rw [q] at h ⊢;by_cases z:(clsF false n any vs L (at0 [a,c])).1≠0
    · rw [if_pos z] at h;exact absurd h z
    · rw [if_neg z] at h ⊢;intro x hx;rcases List.mem_append.1 hx with hx | hx
      · have:=zaj any n M (by omega) (by omega) vs L a (by omega) ta hL' (Classical.byContradiction z) x hx;exact ⟨⟨this.1.1,by omega⟩,this.2.mono (by omega)⟩
      · have:=zaj any n M (by omega) (by omega) vs L c (by omega) tc hL' h x hx;exact ⟨⟨this.1.1,by omega⟩,this.2.mono (by omega)⟩
  rw [if_neg hand] at h ⊢;by_cases hpi:(z01 t 131).1=nPi
  · rw [if_pos hpi] at h ⊢;obtain ⟨a,q,q2,q0⟩:=z1c (by omega) he (.inl hpi);have ma:a∈(z00 t).2:=by rw [q2];simp
    have hs:=z40 ma q0;have hb:=z8m (z0b ma);rw [q] at h ⊢;intro x hx;have hg:=zj3 wb L
    have:=zaj any n M (by omega) (by omega) (vs+1) (L.map fun g=>shT 0 1 g 0) (z0g a) (by omega) (htn.body (by omega) ma) (fun g hg=>by
     obtain ⟨g',hg',rfl⟩:=List.mem_map.1 hg;have q:=hL g' hg';have q1:TG (n+M+1) g':=by rw [show n+M+1=n+1+M by omega];exact q.1
     have q3:=q1.sh (by omega);refine ⟨q3,by have:=zng (b:=wb) 0 1 g' 0;have:=q.2.1;unfold wt at*;omega, ?_⟩;exact ((z9t false M (by omega)).1 _ _ (q3.mono (by omega)) (q.1.mono (by omega)) (er_sh g' 0)).trans q.2.2) h x hx
    exact ⟨⟨by omega,by omega⟩,this.2.mono (by omega)⟩
  rw [if_neg hpi] at h ⊢
  have more:∀ g d:Tm,TG (n+M) g→TG (n+M) d→5+wt g+wt d≤wt t→z05 false n g=0→(clsF false n any vs (L++ [g]) d).1=0→∀ x∈(clsF false n any vs (L++ [g]) d).2,(vs≤x.1∧x.1≤vs+wt t)∧TD M (gms wb L+wt t) x:=fun g d tg td hs hg hd x hx=>by
   have:=zaj any n M (by omega) (by omega) vs (L++ [g]) d (by omega) td (fun u hu=>by
    rcases List.mem_append.1 hu with hu | hu
    · exact hL' u hu
    · have:u=g:=by simpa using hu
      subst this;exact ⟨tg,by omega,by rw [zb9 false (m:=n) (by omega) M (by omega) (by omega) (tg.mono (by omega))];exact hg⟩) hd x hx
   rw [z84,gms,gms] at this;have e:wb 6 []+wb 0 nAnd=5:=rfl;exact ⟨⟨this.1.1,by omega⟩,this.2.mono (by unfold wt at*;omega)⟩
  by_cases himp:(z01 t 131).1=nImp
  · rw [if_pos himp] at h ⊢;obtain ⟨a,c,q,ta,tc,hs⟩:=two (.inr (.inr (.inl himp)));rw [q] at h ⊢;by_cases z:z05 false n (at0 [a,c])≠0
    · rw [if_pos z] at h;exact absurd h z
    · rw [if_neg z] at h ⊢;exact more a c ta tc hs (Classical.byContradiction z) h
  rw [if_neg himp] at h ⊢;by_cases hif:(z01 t 131).1=nIf
  · rw [if_pos hif] at h ⊢;obtain ⟨a,c,q,ta,tc,hs⟩:=two (.inr (.inr (.inr hif)));rw [q] at h ⊢;by_cases z:z05 false n (at1 [a,c])≠0
    · rw [if_pos z] at h;exact absurd h z
    · rw [if_neg z] at h ⊢;exact more c a tc ta (by omega) (Classical.byContradiction z) h
  rw [if_neg hif] at h;cases h
theorem z2j {b g:Tm}(hb:validB b=true)(hg:validB g=true):validB (andG b g)=true:=by
 rw [valid6];have h:z1x [andT,b,g]=true:=by rw [z1x,z1x,z1x,z1x,hb,hg];rfl
 rw [h];rfl
theorem zhf {b g:Tm}(hb:validB b=true)(hg:validB g=true):z00 (andG b g)=(andT,[b,g]):=by
 unfold z00;rw [if_pos ⟨rfl,z2j hb hg⟩];rfl
theorem zr1 {b g:Tm}(hb:validB b=true)(hg:validB g=true)(flex:Int):z01 (andG b g) flex=(nAnd,[b,g],0):=by
 unfold z01;rw [zhf hb hg];rfl
theorem zl4 (w:Bool)(n:Nat){b g:Tm}(hb:validB b=true)(hg:validB g=true):z05 w (n+1) (andG b g)=if z05 w n b≠0 then z05 w n b else z05 w n g:=by
 rw [z05,zr1 hb hg];rfl
theorem z8y (b g:Tm):wt (andG b g)=5+wt b+wt g:=by unfold wt;rw [zrs];rfl
theorem GG.and {M:Nat}{b g:Tm}(hb:GG M b)(hg:GG M g)(h:wt (andG b g)≤M)(hM:M≤1000000000)(hz:wt (andG b g)≤1000000):GG M (andG b g):=by
 have hw:=z8y b g;refine ⟨⟨z2j hb.1.1 hg.1.1,by have:=zgl (andG b g);omega,zr7 hb.1.2.2 hg.1.2.2⟩,h, ?_⟩;obtain ⟨m,rfl⟩:∃ m,M=m+1:=⟨M-1,by omega⟩;have b':=hb.le (m:=m) (by omega) (by omega) hM;have g':=hg.le (m:=m) (by omega) (by omega) hM;rw [zl4 false m hb.1.1 hg.1.1,if_neg (fun q=>q b'.2.2)];exact g'.2.2
theorem GG.foldl {M:Nat}(hM:M≤1000000000):∀ (l:List Tm) (x:Tm),GG M x→(∀ g∈l,GG M g)→ms wb x+gms wb l≤M→ms wb x+gms wb l≤1000000→GG M (l.foldl andG x)
 | [],x,hx,_,_,_=>hx
 | g::l,x,hx,hl,h1,h2=>by
  have e:wb 6 []+wb 0 nAnd=5:=rfl;rw [gms] at h1 h2;have hw:=z8y x g;unfold wt at hw;exact GG.foldl hM l (andG x g) (hx.and (hl g (by simp)) (by unfold wt;omega) hM (by unfold wt;omega)) (fun u hu=>hl u (List.mem_cons_of_mem _ hu)) (by omega) (by omega)
theorem z69:validB z1h=true:=by decide
theorem GG.true {M:Nat}(h:4≤M)(hM:M≤1000000000):GG M z1h:=by
 refine ⟨⟨z69,by show 1≤1000000;omega,⟨fun e=>absurd e (by omega),trivial⟩⟩,h, ?_⟩;obtain ⟨m,rfl⟩:∃ m,M=m+1:=⟨M-1,by omega⟩;rw [z05];rfl
theorem GG.fold {M:Nat}(h4:4≤M)(hM:M≤1000000000)(L:List Tm)(hl:∀ g∈L,GG M g)(h1:gms wb L≤M)(h2:gms wb L≤1000000):GG M (z3k L):=by
 cases L with
 | nil=>exact GG.true h4 hM
 | cons x L=>
  rw [gms] at h1 h2;exact GG.foldl hM L x (hl x (by simp)) (fun u hu=>hl u (List.mem_cons_of_mem _ hu)) (by omega) (by omega)
end Go.AM

set_option maxRecDepth 100000
open Go Go.Proofs
namespace Go.AM
abbrev mkI (k a:Int):In1:= .mk k a noT0 [] []
def z06:Nat→Int→List Int
 | 0,_=> []
 | n+1,f=>f::z06 n (f+1)
def argI:Nat→List Tm→List In1
 | _,[]=> []
 | i,t::l=> .mk (if t.k=0∨t.k=2 then 1 else 0) i t [] []::argI (i+1) l
def lastK (l:List In1):Int:=match l.getLast? with | some x=>x.k | none=>0
def finI (l:List In1):List In1:=if lastK l=3 then l else l++ [mkI 4 0]
abbrev Bf:=Bool→Tm→Int→Nat→Int×List In1
def z2p (bf:Bf)(c:Cl)(fr:Int):Cd:=
 .mk (z00 (openG (z06 c.1.toNat fr) c.2.1)).1.s (z00 (openG (z06 c.1.toNat fr) c.2.1)).2.length fr c.1
  (bf true (openG (z06 c.1.toNat fr) c.2.2) (fr+c.1) (z00 (openG (z06 c.1.toNat fr) c.2.1)).2.length).1
  (finI (argI 0 (z00 (openG (z06 c.1.toNat fr) c.2.1)).2++(bf true (openG (z06 c.1.toNat fr) c.2.2) (fr+c.1) (z00 (openG (z06 c.1.toNat fr) c.2.1)).2.length).2))
abbrev Rs:=Int×List In1
def bodA (r:Rs)(f:Int→Nat→Rs)(p:Nat):Rs:=((f r.1 (p+r.2.length)).1,r.2++(f r.1 (p+r.2.length)).2)
def bodO (r:Rs)(f:Int→Nat→Rs)(p:Nat):Rs:=
 ((f r.1 (p+1+r.2.length+1)).1,mkI 9 ((p+1+r.2.length+1:Nat):Int)::(r.2++mkI 10 ((p+1+r.2.length+1+(f r.1 (p+1+r.2.length+1)).2.length:Nat):Int)::(f r.1 (p+1+r.2.length+1)).2))
def bodP (s:Int)(r:Rs):Rs:=(r.1,mkI 11 s::(r.2++ [mkI 12 0]))
def bodS (s:Int)(r:Rs):Rs:=(r.1,mkI 13 s::r.2)
def bodI (c:List Cd)(r:Rs):Rs:=(r.1, .mk 14 0 noT0 [] c::(r.2++ [mkI 15 0]))
def bodC:Nat→Bf
 | 0,_,_,s,_=>(s,[])
 | n+1,last,t,s,p=>
  if (z00 t).1.s=zfg then (s,[]) else if (z00 t).1.s=zo8 then (s,[mkI 8 0]) else if (z00 t).1.s=nCut then (s,[mkI 7 0])
  else if (z00 t).1.s=nAnd then bodA (bodC n false (at0 (z00 t).2) s p) (bodC n last (at1 (z00 t).2)) p
  else if (z00 t).1.s=nOr then bodO (bodC n false (at0 (z00 t).2) s (p+1)) (bodC n false (at1 (z00 t).2)) p
  else if (z00 t).1.s=nPi then bodP s (bodC n false (suT 0 (vN4 s) (z0g (at0 (z00 t).2)) 0) (s+1) (p+1))
  else if (z00 t).1.s=nSig then bodS s (bodC n last (suT 0 (vN4 s) (z0g (at0 (z00 t).2)) 0) (s+1) (p+1))
  else if (z00 t).1.s=nImp then bodI ((z0w n true (at0 (z00 t).2)).map fun c=>z2p (bodC n) c s) (bodC n false (at1 (z00 t).2) s (p+1))
  else if (z00 t).1.s=nEq then (s,[.mk 5 0 noT0 (z00 t).2 []])
  else if numB (z00 t).1.s=true then (s,[.mk 6 0 t [] []])
  else (s,[.mk (if last=true then 3 else 2) 0 t [] []])
def zec (n:Nat)(c:Cl):Cd:=z2p (bodC n) c 0
end Go.AM

set_option maxRecDepth 100000
open Go Go.Proofs
namespace Go.AM
theorem z55 (v:Int)(t:Tm):wt (suT 0 (vN4 v) t 0)≤wt t:=zpl (b:=wb) (fun _=>Nat.le_refl _) 0 v t 0
theorem TG.suV {M:Nat}{t:Tm}{v:Int}(h:TG M t)(hM:M≤1000000000)(h0:0≤v)(h1:v≤4611686018427387904):TG M (suT 0 (vN4 v) t 0):=
 ⟨zfh (M:=0) h.1 h0 h1 h.2.1,by have:=suV_sz v t;have:=h.2.1;omega,suV_bd (by have:=h.2.1;omega) h.2.2⟩
theorem GG.suV {M:Nat}{t:Tm}{v:Int}(h:GG M t)(hM:M≤1000000000)(h0:0≤v)(h1:v≤4611686018427387904):GG M (suT 0 (vN4 v) t 0):=by
 have ht:=h.1.suV hM h0 h1;exact ⟨ht,by have:=z55 v t;have:=h.2.1;omega,((z9t false M hM).1 _ _ ht h.1 (er_suV v t 0)).trans h.2.2⟩
theorem TG.open {M:Nat}(hM:M≤1000000000):∀ (vs:List Int),(∀ v∈vs,0≤v∧v≤4611686018427387904)→∀ t:Tm,TG M t→TG M (openG vs t)∧wt (openG vs t)≤wt t:=by
 have key:∀ (ws:List Int),(∀ v∈ws,0≤v∧v≤4611686018427387904)→∀ t:Tm,TG M t→TG M (openG ws.reverse t)∧wt (openG ws.reverse t)≤wt t:=by
  intro ws
  induction ws with
  | nil=>intro _ t h;rw [List.reverse_nil,zkx t h.1];exact ⟨h,Nat.le_refl _⟩
  | cons v ws ih=>
   intro hv t h;rw [List.reverse_cons,←zh7 _ _ _ h.1];have:=hv v (by simp);have h2:=ih (fun u hu=>hv u (List.mem_cons_of_mem _ hu)) (suT 0 (vN4 v) t 0) (h.suV hM this.1 this.2);exact ⟨h2.1,Nat.le_trans h2.2 (z55 v t)⟩
 intro vs hv t h;have:=key vs.reverse (fun v q=>hv v (List.mem_reverse.1 q)) t h
 rwa [List.reverse_reverse] at this
theorem GG.open {M:Nat}(hM:M≤1000000000){vs:List Int}(hv:∀ v∈vs,0≤v∧v≤4611686018427387904){t:Tm}(h:GG M t):GG M (openG vs t)∧wt (openG vs t)≤wt t:=by
 have h1:=TG.open hM vs hv t h.1;exact ⟨⟨h1.1,by have:=h.2.1;omega,((z9t false M hM).1 _ _ h1.1 h.1 (er_open vs t)).trans h.2.2⟩,h1.2⟩
theorem ziy {t:Tm}{flex:Int}(hf:flex≠0)(h:(z01 t flex).2.2=0)(hl:logB (z00 t).1.s=true):(z01 t flex).1=(z00 t).1.s:=by
 obtain ⟨_,⟨_,q,_⟩ | ⟨q,_⟩⟩:=z66 hf h
 · rw [q] at hl;cases hl
 · exact q
theorem GG.head {M:Nat}{t:Tm}(h:GG (M+1) t):(z01 t 133).2.2=0:=by
 have:=h.2.2;rw [z05] at this;by_cases he:(z01 t 133).2.2≠0
 · rw [if_pos he] at this;exact absurd this he
 · exact Classical.byContradiction he
theorem GG.two {M:Nat}{t:Tm}(h:GG (M+1) t)(hs:(z00 t).1.s=nAnd∨(z00 t).1.s=nOr):∃ a c,(z00 t).2=[a,c]∧GG M a∧GG M c∧5+wt a+wt c≤wt t:=by
 have he:=h.head;have hn:=ziy (by omega) he (by rcases hs with e | e<;>rw [e]<;>decide)
 have hs':(z01 t 133).1=nAnd∨(z01 t 133).1=nOr:=by rw [hn];exact hs
 obtain ⟨a,c,q,q2,q0⟩:=z0h (t:=t) (flex:=133) (by omega) he (hs'.imp_right .inl);have hw:=zo6 q2 q0;have hw2:=h.2.1;have hg:=h.2.2;rw [z05,if_neg (fun p=>p he),if_neg (by rcases hs' with e | e<;>rw [e]<;>decide),if_pos hs',q] at hg
 have hg:(if z05 false M a≠0 then z05 false M a else z05 false M c)=0:=hg
 by_cases z:z05 false M a≠0
 · rw [if_pos z] at hg;exact absurd hg z
 · rw [if_neg z] at hg;exact ⟨a,c,q2,⟨h.1.arg (by rw [q2];simp),by omega,Classical.byContradiction z⟩,⟨h.1.arg (by rw [q2];simp),by omega,hg⟩,hw⟩
theorem GG.one {M:Nat}(hM:M≤1000000000){t:Tm}(h:GG (M+1) t)(hs:(z00 t).1.s=nPi∨(z00 t).1.s=nSig):∃ a,(z00 t).2=[a]∧TG M a∧GG M (z0g a)∧3+wt (z0g a)≤wt t:=by
 have he:=h.head;have hn:=ziy (by omega) he (by rcases hs with e | e<;>rw [e]<;>decide)
 have hs':(z01 t 133).1=nPi∨(z01 t 133).1=nSig:=by rw [hn];exact hs
 obtain ⟨a,q,q2,q0⟩:=z1c (t:=t) (flex:=133) (by omega) he hs';have ma:a∈(z00 t).2:=by rw [q2];simp
 have hw:=z40 ma q0;have hb:=z8m (z0b ma);have hw2:=h.2.1;have hg:=h.2.2;rw [z05,if_neg (fun p=>p he),if_neg (by rcases hs' with e | e<;>rw [e]<;>decide),if_neg (by rcases hs' with e | e<;>rw [e]<;>decide),if_neg (by rcases hs' with e | e<;>rw [e]<;>decide),if_pos hs',q] at hg
 exact ⟨a,q2,h.1.arg ma,⟨h.1.body hM ma,by omega,hg⟩,by omega⟩
theorem GG.imp {M:Nat}{t:Tm}(h:GG (M+1) t)(hs:(z00 t).1.s=nImp):∃ a c,(z00 t).2=[a,c]∧TG M a∧(clsF false M false 0 [] a).1=0∧GG M c∧5+wt a+wt c≤wt t:=by
 have he:=h.head;have hn:=ziy (by omega) he (by rw [hs];decide);have hs':(z01 t 133).1=nImp:=by rw [hn];exact hs
 obtain ⟨a,c,q,q2,q0⟩:=z0h (t:=t) (flex:=133) (by omega) he (.inr (.inr (.inl hs')));have hw:=zo6 q2 q0;have hw2:=h.2.1;have hg:=h.2.2;rw [z05,if_neg (fun p=>p he),if_neg (by rw [hs'];decide),if_neg (by rw [hs'];decide),if_pos hs',q] at hg;have hg:(if (clsF false M false 0 [] a).1≠0 then (clsF false M false 0 [] a).1 else z05 false M c)=0:=hg
 by_cases z:(clsF false M false 0 [] a).1≠0
 · rw [if_pos z] at hg;exact absurd hg z
 · rw [if_neg z] at hg;exact ⟨a,c,q2,h.1.arg (by rw [q2];simp),Classical.byContradiction z,⟨h.1.arg (by rw [q2];simp),by omega,hg⟩,hw⟩
def OKc (n:Nat)(c:Cl)(fr:Int):Prop:=(0≤c.1∧c.1≤100000)∧(0≤fr∧fr+c.1+n+(n*n:Nat)≤1000000000)∧TG (n*n+n) c.2.1∧GG (n*n+n) c.2.2∧wt c.2.2≤n
theorem sq_s (n:Nat):(n+1)*(n+1)+(n+1)=(n*n+3*n+1)+1:=by
 rw [Nat.mul_add,Nat.add_mul];omega
theorem sq_b {n:Nat}(h:n≤10000):n*n≤100000000:=Nat.le_trans (Nat.mul_le_mul h h) (by omega)
theorem fold_wt2 (L:List Tm){W:Nat}(h4:4≤W)(h:gms wb L≤W):wt (z3k L)≤W:=by
 cases L with
 | nil=>exact h4
 | cons x L=>have:=zpf wb (x::L) (by simp);unfold wt;omega
theorem zdw {n:Nat}(hn:n+1≤10000){t:Tm}(hw:wt t≤n+1)(h:GG ((n+1)*(n+1)+(n+1)) t)(hs:(z00 t).1.s=nImp)(s:Int)(h0:0≤s)(h1:s+n+n+(n*n:Nat)≤1000000000):
  ∃ a c,(z00 t).2=[a,c]∧TG n a∧wt a≤n∧(clsF false n true 0 [] a).1=0∧GG (n*n+n) c∧5+wt a+wt c≤wt t∧(∀ x∈(clsF false n true 0 [] a).2,OKc n x s∧TD (n*n+n) (wt a) x∧x.1≤wt a):=by
 have hsq:=sq_b (n:=n) (by omega);rw [sq_s] at h;obtain ⟨a,c,e,ta,hc,gc,hw2⟩:=h.imp hs;have w1:wt a≤n:=by omega
 have hc2:(clsF false n false 0 [] a).1=0:=by rw [←cls_le false (m:=n) w1 _ (by omega) (by omega) ta];exact hc
 have hany:=z8j false n 0 [] a hc2;have hc3:(clsF false n true 0 [] a).1=0:=by rw [hany];exact hc2
 refine ⟨a,c,e,ta.mono (by omega),w1,hc3,gc.le (by omega) (by omega) (by omega),hw2,fun x hx=> ?_⟩;obtain ⟨⟨r1,r2⟩,hT⟩:=zaj true n (n*n+n) (by omega) (by omega) 0 [] a w1 (ta.mono (by omega)) (fun g hg=>by cases hg) hc3 x hx;have hT:TD (n*n+n) (wt a) x:=hT.mono (by simp only [gms];omega);obtain ⟨q1,q2,q3,L,q4,q5,q6⟩:=hT;have hf:GG (n*n+n) x.2.2:=by rw [q4];exact GG.fold (by omega) (by omega) L q6 (by omega) (by omega)
 exact ⟨⟨⟨r1,by omega⟩,⟨h0,by omega⟩,q1,hf,by rw [q4];exact fold_wt2 L (by omega) (by omega)⟩,⟨q1,q2,q3,L,q4,q5,q6⟩,by omega⟩
theorem z4i:∀ (n:Nat),n≤10000→∀ (last:Bool) (t:Tm) (s:Int) (p:Nat),wt t≤n→GG (n*n+n) t→0≤s→s+wt t≤1000000000→(bodC n last t s p).2.length≤wt t∧s≤(bodC n last t s p).1∧(bodC n last t s p).1≤s+wt t
 | 0,_,_,t,_,_,h,_,_,_=>by have:=z0u t;omega
 | n+1,hn,last,t,s,p,hw,h,h0,h1=>by
  have hsq:=sq_b (n:=n) (by omega);have hp:=z0u t;rw [sq_s] at h;rw [bodC];by_cases c1:(z00 t).1.s=zfg
  · rw [if_pos c1];exact ⟨Nat.zero_le _,Int.le_refl _,by show s≤_;omega⟩
  rw [if_neg c1];by_cases c2:(z00 t).1.s=zo8
  · rw [if_pos c2];exact ⟨hp,Int.le_refl _,by show s≤_;omega⟩
  rw [if_neg c2];by_cases c3:(z00 t).1.s=nCut
  · rw [if_pos c3];exact ⟨hp,Int.le_refl _,by show s≤_;omega⟩
  rw [if_neg c3];by_cases c4:(z00 t).1.s=nAnd
  · rw [if_pos c4];obtain ⟨a,c,e,ga,gc,hs⟩:=h.two (.inl c4);rw [e];have b1:=z4i n (by omega) false a s p (by omega) (ga.le (by omega) (by omega) (by omega)) h0 (by omega);have b2:=z4i n (by omega) last c (bodC n false a s p).1 (p+(bodC n false a s p).2.length) (by omega) (gc.le (by omega) (by omega) (by omega)) (by omega) (by omega);refine ⟨?_, ?_, ?_⟩
    · show ((bodC n false a s p).2++(bodC n last c (bodC n false a s p).1 (p+(bodC n false a s p).2.length)).2).length≤_;rw [List.length_append];omega
    · show s≤(bodC n last c (bodC n false a s p).1 (p+(bodC n false a s p).2.length)).1;omega
    · show (bodC n last c (bodC n false a s p).1 (p+(bodC n false a s p).2.length)).1≤_;omega
  rw [if_neg c4];by_cases c5:(z00 t).1.s=nOr
  · rw [if_pos c5];obtain ⟨a,c,e,ga,gc,hs⟩:=h.two (.inr c5);rw [e];show (bodO (bodC n false a s (p+1)) (bodC n false c) p).2.length≤_∧s≤(bodO (bodC n false a s (p+1)) (bodC n false c) p).1∧(bodO (bodC n false a s (p+1)) (bodC n false c) p).1≤_;have b1:=z4i n (by omega) false a s (p+1) (by omega) (ga.le (by omega) (by omega) (by omega)) h0 (by omega);generalize hr:bodC n false a s (p+1)=r at b1 ⊢;have b2:=z4i n (by omega) false c r.1 (p+1+r.2.length+1) (by omega) (gc.le (by omega) (by omega) (by omega)) (by omega) (by omega);unfold bodO;simp only [List.length_cons,List.length_append];exact ⟨by omega,by omega,by omega⟩
  rw [if_neg c5];by_cases c6:(z00 t).1.s=nPi
  · rw [if_pos c6];obtain ⟨a,e,ta,ga,hs⟩:=h.one (by omega) (.inl c6);rw [e];have g2:=(ga.suV (v:=s) (by omega) h0 (by omega)).le (m:=n*n+n) (by omega) (by have:=z55 s (z0g a);omega) (by omega);have w2:=z55 s (z0g a);have b1:=z4i n (by omega) false (suT 0 (vN4 s) (z0g a) 0) (s+1) (p+1) (by omega) g2 (by omega) (by omega);rw [show at0 [a]=a from rfl];unfold bodP;simp only [List.length_cons,List.length_append,List.length_nil];exact ⟨by omega,by omega,by omega⟩
  rw [if_neg c6];by_cases c7:(z00 t).1.s=nSig
  · rw [if_pos c7];obtain ⟨a,e,ta,ga,hs⟩:=h.one (by omega) (.inr c7);rw [e];have g2:=(ga.suV (v:=s) (by omega) h0 (by omega)).le (m:=n*n+n) (by omega) (by have:=z55 s (z0g a);omega) (by omega);have w2:=z55 s (z0g a);have b1:=z4i n (by omega) last (suT 0 (vN4 s) (z0g a) 0) (s+1) (p+1) (by omega) g2 (by omega) (by omega);rw [show at0 [a]=a from rfl];unfold bodS;simp only [List.length_cons];exact ⟨by omega,by omega,by omega⟩
  rw [if_neg c7];by_cases c8:(z00 t).1.s=nImp
  · rw [if_pos c8];obtain ⟨a,c,e,ta,hc,gc,hs⟩:=h.imp c8;rw [e];have b1:=z4i n (by omega) false c s (p+1) (by omega) (gc.le (by omega) (by omega) (by omega)) h0 (by omega);rw [show at1 [a,c]=c from rfl];unfold bodI;simp only [List.length_cons,List.length_append,List.length_nil];exact ⟨by omega,by omega,by omega⟩
  rw [if_neg c8];by_cases c9:(z00 t).1.s=nEq
  · rw [if_pos c9];exact ⟨hp,Int.le_refl _,by show s≤_;omega⟩
  rw [if_neg c9];by_cases c10:numB (z00 t).1.s=true
  · rw [if_pos c10];exact ⟨hp,Int.le_refl _,by show s≤_;omega⟩
  rw [if_neg c10];exact ⟨hp,Int.le_refl _,by show s≤_;omega⟩
theorem z5o:∀ (n:Nat) (f:Int),(z06 n f).length=n
 | 0,_=>rfl
 | n+1,f=>by rw [z06,List.length_cons,z5o n]
theorem zfw:∀ (n:Nat) (f:Int) (v:Int),v∈z06 n f→f≤v∧v<f+n
 | 0,_,v,h=>by cases h
 | n+1,f,v,h=>by
  rcases List.mem_cons.1 h with rfl | h
  · exact ⟨Int.le_refl _,by omega⟩
  · have:=zfw n (f+1) v h;omega
theorem zcn:∀ (n:Nat) (f:Int),z06 (n+1) f=z06 n f++ [f+n]
 | 0,f=>by rw [z06,z06,z06];simp
 | n+1,f=>by rw [z06,zcn n (f+1),z06,List.cons_append,show f+1+(n:Int)=f+((n+1:Nat):Int) by omega]
end Go.AM

set_option maxRecDepth 100000
open Go Go.Proofs
namespace Go.AM
theorem l_ixOp (p:Tm→Bool)(b:List Tm):∀ a:List Tm,(a++b).length≤B→(∀ u∈b,AC Tryz.prog 95 [aT u] [] (cb (p u)) [])→RPt Tryz.prog 84 0 (ci (ixF p b a.length)) [] 1 ⟨[(0,aL (a++b)),(1, .c (.fn (.func 95) [] [])),(7,ci (a++b).length),(8,ci a.length)],[],0⟩:=by
 induction b with
 | nil=>
  intro a hs _;refine RPt.vc hP sh lv84 (Eq.mpr (zcm ..) ?_);exact z03 (fun h=>absurd (of_decide_eq_true h) (by simp)) (fun _=>z2g rfl)
 | cons t b ihb=>
  intro a hs ih;have h3:=ltI' a t b;have h1:=ih t List.mem_cons_self;have h2:=ihb (a++ [t]) (by simpa using hs) (fun u hu=>ih u (List.mem_cons_of_mem _ hu));rw [ap,nx,show (a++ [t]).length=a.length+1 by simp] at h2;rw [ixF];simp only [List.length_append,List.length_cons,B] at hs;have h4:(a.length:Int)<((a++t::b).length:Int):=by simp only [List.length_append,List.length_cons];omega
  refine RPt.vc hP sh lv84 (Eq.mpr (zcm ..) ?_);rw [w64 (by omega) (by omega)];refine z03 (fun _=>⟨⟨rfl,by omega,h3,z5e ..⟩,p t,by rw [z8s];exact h1,z03 (fun h=> ?_) (fun h=> ?_)⟩) (fun h=>absurd h4 (of_decide_eq_false h))
  · rw [if_pos h];exact z2g rfl
  · rw [if_neg (by rw [h];simp)];exact h2
theorem c_anyOp (p:Tm→Bool)(l:List Tm)(hl:l.length≤B)(h:∀ u∈l,AC Tryz.prog 95 [aT u] [] (cb (p u)) []):AC Tryz.prog 39 [aL l, .c (.fn (.func 95) [] [])] [] (cb (l.any p)) []:=by
 have h0:=l_ixOp p l [] hl h
 have h1:AC Tryz.prog 84 [aL l, .c (.fn (.func 95) [] [])] [] (ci (ixF p l 0)) []:=by
  refine AC.vc hP sh lv84 (Nat.le_refl _) (by simp) (by simp) (Eq.mpr (v84_F95 ..) ?_);rw [z02];exact ⟨rfl,h0⟩
 refine AC.vc hP sh lv39 (Nat.le_refl _) (by simp) (by simp) (Eq.mpr (v39_F95 ..) ?_);exact ⟨_,h1,z04 (by rw [z6y p l 0])⟩
theorem zf2 (t:Tm)(hz:t.sz≤B):AC Tryz.prog 95 [aT t] [] (cb (!validB t)) []:=by
 have h:=z2r t hz;obtain ⟨a,b,c,d⟩:=t;refine AC.vc hP sh lv95 (Nat.le_refl _) (by simp) (by simp) (Eq.mpr (v95 ..) ?_);exact ⟨_,h,z04 rfl⟩
theorem c_kopen (c:Cl)(vs:List Int)(hR:VR vs)(hl:c.1=vs.length)(h1:validB c.2.1=true)(h2:validB c.2.2=true)(z1:c.2.1.sz≤1000000)(z2:c.2.2.sz≤1000000)(b1:bd 1000000000000 c.2.1)(b2:bd 1000000000000 c.2.2):
  AC Tryz.prog 53 [aCl c,aL (byV vs)] [] (.tup [(true,cT (openG vs c.2.1)),(true,cT (openG vs c.2.2))]) []:=by
 have hlen:(byV vs).length=vs.length:=by simp [byV]
 have ca:=c_anyOp (fun u=> !validB u) (byV vs) (by rw [hlen];have:=hR.1;simp only [B];omega) (fun u hu=>by
  obtain ⟨v,_,rfl⟩:=List.mem_map.1 hu;exact zf2 (vN4 v) (by show 1≤B;simp only [B];omega))
 have hany:((byV vs).any fun u=> !validB u)=false:=by
  rw [List.any_eq_false];intro u hu;obtain ⟨v,hv,rfl⟩:=List.mem_map.1 hu;have:=hR.2 v hv;rw [zg9 this.1 this.2];simp
 rw [hany] at ca;have k1:=zf2 c.2.1 (by simp only [B];omega);have k2:=zf2 c.2.2 (by simp only [B];omega);rw [h1] at k1;rw [h2] at k2;have o1:=zk7 vs hR c.2.1 h1 z1 b1;have o2:=zk7 vs hR c.2.2 h2 z2 b2;obtain ⟨n,hd',bo⟩:=c;refine AC.vc hP sh lv53 (Nat.le_refl _) (by simp) (by simp) (Eq.mpr (v53 ..) ?_);exact ⟨rfl,br_f (by rw [z02,hlen,hl];simp) ⟨_,ca,br_f rfl ⟨_,k1,br_f rfl ⟨_,k2,br_f rfl ⟨_,o1,_,o2, .refl _,rfl⟩⟩⟩⟩⟩
abbrev stI (s:Int)(l:List In1):List AObj:=[.arr 2 [[.a (.fz (.int .i64 s)), .a (.osl 1 8 0 l.length)]], .arz 8 (FIs l)]
abbrev stO (s:Int)(l:List In1):List AObj:=[.arr 2 [[.a (.fz (.int .i64 s)), .a (.osl 2 8 0 l.length)]], .gone, .arz 8 (FIs l)]
abbrev ep2:TV:= .c (.a (.ep 0 2 0 0))
abbrev aIw (x:In1):TV:= .agg [.a (.fz (.int .i64 x.k)), .a (.fz (.int .i64 x.a)), .a (.fz (.int .i64 x.t.k)), .a (.fz (.str x.t.s)), .a (.fz (.int .i64 x.t.n)), .a (.fz (.sl false 4 (FTs x.t.l))), .a (.fz (.sl false 4 (FTs x.l))), .a (.fz (.sl false 6 (FCs x.c)))]
theorem FIs_snoc (l:List In1)(x:In1):FIs l++ [FI x]=FIs (l++ [x]):=by rw [z5z,z5z,List.map_append];rfl
theorem take_FIs (l:List In1):List.take l.length (FIs l)=FIs l:=List.take_of_length_le (by rw [z09];exact Nat.le_refl _)
theorem zjy (x:In1)(s:Int)(l:List In1)(hl:l.length≤1000000000):AC Tryz.prog 55 [ep2,aIw x] (stI s l) (ci l.length) (stO s (l++ [x])):=by
 refine AC.vc hP sh lv55 (by simp) (by simp [isLive]) (by simp [isLive]) (Eq.mpr (v55 x.k x.a x.t.k x.t.s x.t.n (FTs x.t.l) (FTs x.l) (FCs x.c) s l.length (FIs l) ..) ?_);rw [w64 (x:=((l.length+1:Nat):Int)-1) (by omega) (by omega),take_FIs,←FI_eta x,FIs_snoc];refine ⟨Nat.le_refl _,⟨by rw [z09];exact Nat.le_refl _,by unfold z0x;omega⟩, ?_, ?_⟩
 · rw [show ((l.length+1:Nat):Int)-1=(l.length:Int) by omega];exact .refl _
 · show _=[AObj.arr 2 [[.a (.fz (.int .i64 s)), .a (.osl 2 8 0 (l++ [x]).length)]], .gone, .arz 8 (FIs (l++ [x]))];rw [List.length_append];rfl
theorem z4q (k a:Int)(s:Int)(l:List In1)(hl:l.length≤1000000000):AC Tryz.prog 55 [ep2, .agg [.a (.fz (.int .i64 k)), .a (.fz (.int .i64 a)), .a (.fz (.int .i64 0)), .a (.fz (.str [])), .a (.fz (.int .i64 0)), .a (.fz .N), .a (.fz .N), .a (.fz .N)]] (stI s l) (ci l.length) (stO s (l++ [mkI k a])):=
 (zjy (mkI k a) s l hl).args ⟨.refl _,zg3 (a:=[.int .i64 k, .int .i64 a, .int .i64 0, .str [], .int .i64 0, .N, .N, .N]) (b:=[.int .i64 k, .int .i64 a, .int .i64 0, .str [], .int .i64 0, .sl false 4 [], .sl false 4 [], .sl false 6 []]) ⟨.refl _, .refl _, .refl _, .refl _, .refl _, .N 4, .N 4, .N 6,trivial⟩,trivial⟩
theorem zdt (k a:Int)(t:Tm)(s:Int)(l:List In1)(hl:l.length≤1000000000):AC Tryz.prog 55 [ep2, .agg [.a (.fz (.int .i64 k)), .a (.fz (.int .i64 a)), .a (.fz (.int .i64 t.k)), .a (.fz (.str t.s)), .a (.fz (.int .i64 t.n)), .a (.fz (.sl false 4 (FTs t.l))), .a (.fz .N), .a (.fz .N)]] (stI s l) (ci l.length) (stO s (l++ [.mk k a t [] []])):=
 (zjy (.mk k a t [] []) s l hl).args ⟨.refl _,zg3 (a:=[.int .i64 k, .int .i64 a, .int .i64 t.k, .str t.s, .int .i64 t.n, .sl false 4 (FTs t.l), .N, .N]) (b:=[.int .i64 k, .int .i64 a, .int .i64 t.k, .str t.s, .int .i64 t.n, .sl false 4 (FTs t.l), .sl false 4 [], .sl false 6 []]) ⟨.refl _, .refl _, .refl _, .refl _, .refl _, .refl _, .N 4, .N 6,trivial⟩,trivial⟩
theorem c_pputL (k a:Int)(m:List Tm)(s:Int)(l:List In1)(hl:l.length≤1000000000):AC Tryz.prog 55 [ep2, .agg [.a (.fz (.int .i64 k)), .a (.fz (.int .i64 a)), .a (.fz (.int .i64 0)), .a (.fz (.str [])), .a (.fz (.int .i64 0)), .a (.fz .N), .a (.fz (.sl false 4 (FTs m))), .a (.fz .N)]] (stI s l) (ci l.length) (stO s (l++ [.mk k a noT0 m []])):=
 (zjy (.mk k a noT0 m []) s l hl).args ⟨.refl _,zg3 (a:=[.int .i64 k, .int .i64 a, .int .i64 0, .str [], .int .i64 0, .N, .sl false 4 (FTs m), .N]) (b:=[.int .i64 k, .int .i64 a, .int .i64 0, .str [], .int .i64 0, .sl false 4 [], .sl false 4 (FTs m), .sl false 6 []]) ⟨.refl _, .refl _, .refl _, .refl _, .refl _, .N 4, .refl _, .N 6,trivial⟩,trivial⟩
theorem c_pputC (k a:Int)(m:List Cd)(s:Int)(l:List In1)(hl:l.length≤1000000000):AC Tryz.prog 55 [ep2, .agg [.a (.fz (.int .i64 k)), .a (.fz (.int .i64 a)), .a (.fz (.int .i64 0)), .a (.fz (.str [])), .a (.fz (.int .i64 0)), .a (.fz .N), .a (.fz .N), .a (.fz (.sl false 6 (FCs m)))]] (stI s l) (ci l.length) (stO s (l++ [.mk k a noT0 [] m])):=
 (zjy (.mk k a noT0 [] m) s l hl).args ⟨.refl _,zg3 (a:=[.int .i64 k, .int .i64 a, .int .i64 0, .str [], .int .i64 0, .N, .N, .sl false 6 (FCs m)]) (b:=[.int .i64 k, .int .i64 a, .int .i64 0, .str [], .int .i64 0, .sl false 4 [], .sl false 4 [], .sl false 6 (FCs m)]) ⟨.refl _, .refl _, .refl _, .refl _, .refl _, .N 4, .N 4, .refl _,trivial⟩,trivial⟩
theorem zjl (a b:List In1):FIs (a++b)=FIs a++FIs b:=by rw [z5z,z5z,z5z,List.map_append]
theorem zl7 {α:Type}(x y:α):∀ (a b:List α),(a++x::b).set a.length y=a++y::b
 | [],_=>rfl
 | z::a,b=>by rw [List.cons_append,List.length_cons,List.set_cons_succ,zl7 x y a b];rfl
theorem c_phere (a b:List In1)(k v:Int)(s:Int)(hl:a.length≤1000000000):AC Tryz.prog 146 [ep2,ci a.length] (stI s (a++mkI k v::b)) (.tup []) (stO s (a++mkI k ((a++mkI k v::b).length:Nat)::b)):=by
 refine AC.vc hP sh lv146 (by simp) (by simp [isLive]) (by simp [isLive]) (Eq.mpr (v146 a.length s (a++mkI k v::b).length (FIs (a++mkI k v::b)) ..) ?_);have e:FIs (a++mkI k v::b)=FIs a++FI (mkI k v)::FIs b:=by rw [zjl];rfl
 have e1:0+Int.toNat (a.length:Int)=(FIs a).length:=by rw [z09];omega
 have e2:List.getD (FIs a++FI (mkI k v)::FIs b) (FIs a).length []=FI (mkI k v):=by simp [List.getD]
 rw [e,e1,e2,zl7];refine ⟨⟨by omega,by rw [List.length_append,List.length_cons];omega⟩,⟨by rw [List.length_append,List.length_cons];omega,zrg _⟩, .refl _, ?_⟩;generalize hn:(a++mkI k v::b).length=n;have hn2:(a++mkI k (n:Nat)::b).length=n:=by rw [←hn,List.length_append,List.length_append];rfl
 show _=[AObj.arr 2 [[.a (.fz (.int .i64 s)), .a (.osl 2 8 0 (a++mkI k (n:Nat)::b).length)]], .gone, .arz 8 (FIs (a++mkI k (n:Nat)::b))];rw [hn2,zjl];rfl
theorem zs3 (n:Int):AC Tryz.prog 52 [ci n] [] (aT (vN4 n)) []:=by
 refine AC.vc hP sh lv52 (Nat.le_refl _) (by simp) (by simp) (Eq.mpr (v52 ..) ?_);exact zc8 (leT z3i)
theorem znm (k:Int)(t:Tm)(s:Int)(l:List In1)(hl:l.length≤1000000000)(h0:0≤s)(h1:s≤1000000000)(hv:validB t=true)(hz:t.sz≤1000000)(hb:bd 1000000000000 t):
  AC Tryz.prog 125 [ep2,ci k,aT t] (stI s l) (aT (suT 0 (vN4 s) (z0g t) 0)) (stO (s+1) (l++ [mkI k s])):=by
 have hbz:=zei hv;have hbb:=zrf (by omega) hv hb;have c1:=zij t hv (by simp only [B];omega) (z46 (by simp only [M61];omega) _ hb);have c2:=zqw (z0g t) (vN4 s) 0 (by show 1≤B;simp only [B];omega) (by show (z0g t).sz+nd (z0g t)*1≤B;have:=nd_sz (z0g t);simp only [B];omega) (z46 (by simp only [M61];omega) _ hbb) (zgy _ _) (by omega) (by simp only [M61];omega);have c3:=z4q k s (s+1) l hl;obtain ⟨a,b,c,d⟩:=t;refine AC.vc hP sh lv125 (by simp) (by simp [isLive]) (by simp [isLive]) (Eq.mpr (v125 k a b c (FTs d) s l.length (FIs l) ..) ?_);rw [w64 (x:=s+1) (by omega) (by omega)];exact ⟨vN4 s,zs3 s,(l.length,s+1,l++ [mkI k s]),c3,_,c1,_,c2, .refl _,rfl⟩
end Go.AM

set_option maxRecDepth 100000
open Go Go.Proofs
namespace Go.AM
def BdC (n:Nat):Prop:=∀ (last:Bool) (t:Tm) (s:Int) (l:List In1) (p:Nat),p=l.length→wt t≤n→GG (n*n+n) t→0≤s→s+wt t+(n*n:Nat)≤1000000000→l.length+wt t≤1000000000→
 AC Tryz.prog 86 [ep2,aT t,cb last] (stI s l) (.tup []) (stO (bodC n last t s p).1 (l++(bodC n last t s p).2))
theorem zkr (L a b:List In1)(k v i:Int)(N:Nat)(s:Int)(hL:L=a++mkI k v::b)(hN:L.length=N)(hi:i=(a.length:Int))(hl:a.length≤1000000000):AC Tryz.prog 146 [ep2,ci i] (stI s L) (.tup []) (stO s (a++mkI k (N:Nat)::b)):=by
 subst hN;subst hL;subst hi;exact c_phere a b k v s hl
theorem z57 {s s':Int}{l l':List In1}(hs:s=s')(hl:l=l'):TV.Le (.tup []) (.tup [])∧stO s l=stO s' l':=by subst hs;subst hl;exact ⟨.refl _,rfl⟩
theorem c_por {n:Nat}(hn:n≤10000)(h:BdC n)(a b:Tm)(s:Int)(l:List In1)(ga:GG (n*n+n) a)(gb:GG (n*n+n) b)(hw:5+wt a+wt b≤n+1)(h0:0≤s)(h1:s+wt a+wt b+5+(n*n:Nat)≤1000000000)(hl:l.length+wt a+wt b+5≤1000000000):
  AC Tryz.prog 124 [ep2,aT a,aT b] (stI s l) (.tup []) (stO (bodO (bodC n false a s (l.length+1)) (bodC n false b) l.length).1 (l++(bodO (bodC n false a s (l.length+1)) (bodC n false b) l.length).2)):=by
 have k1:=z4q 9 0 s l (by omega);have b1:=z4i n hn false a s (l.length+1) (by omega) ga h0 (by omega);unfold BdC at h;have k2:=h false a s (l++ [mkI 9 0]) (l.length+1) (by simp) (by omega) ga h0 (by omega) (by simp only [List.length_append,List.length_cons,List.length_nil];omega);generalize hr:bodC n false a s (l.length+1)=r at*;have k3:=z4q 10 0 r.1 (l++ [mkI 9 0]++r.2) (by simp only [List.length_append,List.length_cons,List.length_nil];omega);have e3:(l++ [mkI 9 0]++r.2++ [mkI 10 0]).length=l.length+1+r.2.length+1:=by simp only [List.length_append,List.length_cons,List.length_nil]
 have k4:=zkr (l++ [mkI 9 0]++r.2++ [mkI 10 0]) l (r.2++ [mkI 10 0]) 9 0 l.length (l.length+1+r.2.length+1) r.1 (by simp) e3 rfl (by omega);have b2:=z4i n hn false b r.1 (l.length+1+r.2.length+1) (by omega) gb (by omega) (by omega);have k5:=h false b r.1 (l++mkI 9 ((l.length+1+r.2.length+1:Nat):Int)::(r.2++ [mkI 10 0])) (l.length+1+r.2.length+1) (by simp only [List.length_append,List.length_cons,List.length_nil];omega) (by omega) gb (by omega) (by omega) (by simp only [List.length_append,List.length_cons,List.length_nil];omega);unfold bodO;generalize hr2:bodC n false b r.1 (l.length+1+r.2.length+1)=r2 at*;have e5:(l++mkI 9 ((l.length+1+r.2.length+1:Nat):Int)::(r.2++ [mkI 10 0])++r2.2).length=l.length+1+r.2.length+1+r2.2.length:=by simp only [List.length_append,List.length_cons,List.length_nil];omega
 have k6:=zkr (l++mkI 9 ((l.length+1+r.2.length+1:Nat):Int)::(r.2++ [mkI 10 0])++r2.2) (l++mkI 9 ((l.length+1+r.2.length+1:Nat):Int)::r.2) r2.2 10 0 ((l++ [mkI 9 0]++r.2).length:Nat) (l.length+1+r.2.length+1+r2.2.length) r2.1 (by simp) e5 (by simp only [List.length_append,List.length_cons,List.length_nil];omega) (by simp only [List.length_append,List.length_cons];omega);refine AC.vc hP sh lv124 (by simp) (by simp [isLive]) (by simp [isLive]) (Eq.mpr (v124 a.k a.s a.n (FTs a.l) b.k b.s b.n (FTs b.l) s l.length (FIs l) ..) ?_);refine ⟨(_,_,_),k1,(_,_),k2,(_,_,_),k3,(_,_),k4,(_,_),k5,(_,_),k6,z57 rfl ?_⟩;simp
end Go.AM

set_option maxRecDepth 100000
open Go Go.Proofs
namespace Go.AM
theorem zmb (a:List In1)(x:In1):lastK (a++ [x])=x.k:=by unfold lastK;rw [List.getLast?_append];rfl
theorem c_pfin {n:Nat}(hn:n≤10000)(h:BdC n)(t:Tm)(s:Int)(l:List In1)(p:Nat)(hp:p=l.length)(hw:wt t≤n)(hg:GG (n*n+n) t)(h0:0≤s)(h1:s+wt t+(n*n:Nat)≤1000000000)(hl:l.length+wt t≤1000000000):
  AC Tryz.prog 43 [ep2,aT t] (stI s l) (.tup []) (stO (bodC n true t s p).1 (finI (l++(bodC n true t s p).2))):=by
 have k1:=h true t s l p hp hw hg h0 h1 hl;have bb:=z4i n hn true t s p hw hg h0 (by omega);generalize bodC n true t s p=r at*;have k2:=z4q 4 0 r.1 (l++r.2) (by rw [List.length_append];omega);have hlen:(l++r.2).length≤1000000000:=by rw [List.length_append];omega
 refine AC.vc hP sh lv43 (by simp) (by simp [isLive]) (by simp [isLive]) (Eq.mpr (v43 t.k t.s t.n (FTs t.l) s l.length (FIs l) ..) ?_);refine ⟨(r.1,l++r.2),k1, ?_⟩;dsimp only;clear k1;generalize l++r.2=m at*;rw [w64 (x:=((m.length:Nat):Int)-1) (by omega) (by omega)];unfold finI;rcases List.eq_nil_or_concat m with rfl | ⟨a,x,rfl⟩
 · exact br_t rfl ⟨(_,_,_),k2, .refl _,by rw [if_neg (by decide)]⟩
 · rw [List.concat_eq_append] at*;have e1:0+Int.toNat (((a++ [x]).length:Nat)-1:Int)=a.length:=by rw [List.length_append];simp only [List.length_cons,List.length_nil];omega
   have e2:List.getD (FIs (a++ [x])) a.length []=FI x:=by rw [zjl];simp [List.getD,z09,FIs,List.getElem?_append]
   rw [zmb];refine br_f (by simp only [List.length_append,List.length_cons,List.length_nil];simp;omega) ?_;rw [e1,e2];refine ⟨⟨by rw [List.length_append];simp only [List.length_cons,List.length_nil];omega,by omega⟩,⟨by rw [z09,List.length_append];simp only [List.length_cons,List.length_nil];omega,by cases x;rfl,rfl⟩, ?_⟩;rw [FI0];refine z03 (fun q=>⟨(_,_,_),k2, .refl _, ?_⟩) (fun q=>⟨.refl _, ?_⟩)
   · rw [if_neg (by simpa using q)]
   · rw [if_pos (by simpa using q)]
theorem zgu:∀ (a:List Tm) (i:Nat) (t:Tm),argI i (a++ [t])=argI i a++ [.mk (if t.k=0∨t.k=2 then 1 else 0) (i+a.length:Nat) t [] []]
 | [],i,t=>by rw [List.nil_append,argI,argI,argI];simp
 | x::a,i,t=>by
  rw [List.cons_append,argI,argI,zgu a (i+1) t,List.cons_append,List.length_cons,show i+1+a.length=i+(a.length+1) by omega]
theorem z9n:∀ (a:List Tm) (i:Nat),(argI i a).length=a.length
 | [],_=>rfl
 | x::a,i=>by rw [argI,List.length_cons,List.length_cons,z9n a]
abbrev z6:List WV:=[.a (.fz (.str [])), .a (.fz (.int .i64 0)), .a (.fz (.int .i64 0)), .a (.fz (.int .i64 0)), .a (.fz (.int .i64 0)), .a (.fz .N)]
abbrev cCl9 (c:Cl):List WV:=[.a (.fz (.int .i64 c.1)), .a (.fz (.int .i64 c.2.1.k)), .a (.fz (.str c.2.1.s)), .a (.fz (.int .i64 c.2.1.n)), .a (.fz (.sl false 4 (FTs c.2.1.l))), .a (.fz (.int .i64 c.2.2.k)), .a (.fz (.str c.2.2.s)), .a (.fz (.int .i64 c.2.2.n)), .a (.fz (.sl false 4 (FTs c.2.2.l)))]
abbrev hp5 (c:Cl)(bo hh:Tm)(s:Int)(m:List In1):AHeap:=[(0, .arr 9 [cCl9 c]),(1, .arr 6 [z6]),(2, .arr 4 [cT bo]),(3, .arr 4 [cT hh]),(4, .arr 2 [[.a (.fz (.int .i64 s)), .a (.osl 5 8 0 m.length)]]),(5, .arz 8 (FIs m))]
abbrev ev5 (fr:Int)(xs:List Tm)(i:Int):Env:=[(1,ci fr),(2, .c (.a (.ep 0 9 0 0))),(4, .c (.a (.ep 1 6 0 0))),(8, .c (.a (.ep 2 4 0 0))),(9, .c (.a (.ep 3 4 0 0))),(10,aL xs),(11, .c (.a (.ep 4 2 0 0))),(45,aL xs),(46,ci xs.length),(47,ci i)]
theorem zkv {n:Nat}(hn:n≤10000)(h:BdC n)(c:Cl)(bo hh:Tm)(fr s:Int)(xs:List Tm)(hw:wt bo≤n)(hg:GG (n*n+n) bo)(h0:0≤s)(h1:s+wt bo+(n*n:Nat)≤1000000000)(hxs:xs.length≤1000000):
  ∀ (b a:List Tm),xs=a++b→RPt Tryz.prog 23 0 (aC (.mk hh.s xs.length fr c.1 (bodC n true bo s xs.length).1 (finI (argI 0 xs++(bodC n true bo s xs.length).2)))) [] 5 ⟨ev5 fr xs a.length,hp5 c bo hh s (argI 0 a),6⟩
 | [],a,hx=>by
  have ha:a=xs:=by rw [hx,List.append_nil]
  subst ha;have hl:=z9n a 0;have k:=c_pfin hn h bo s (argI 0 a) a.length hl.symm hw hg h0 h1 (by rw [hl];omega);refine RPt.vc hP sh lv23 (Eq.mpr (v23_5a ..) ?_);refine br_f (by simp) ⟨((bodC n true bo s a.length).1,finI (argI 0 a++(bodC n true bo s a.length).2)),k,rfl,⟨rfl,by rw [z09];simp⟩, ?_,rfl⟩
  · rw [List.drop_zero,List.take_of_length_le (by rw [z09];exact Nat.le_refl _),z02];exact .refl _
 | t::b,a,hx=>by
  have ih:=zkv hn h c bo hh fr s xs hw hg h0 h1 hxs b (a++ [t]) (by rw [hx];simp);rw [zgu,nx,Nat.zero_add] at ih;have hlt:a.length<xs.length:=by rw [hx];simp
  have e:List.getD (FTs xs) (Int.toNat (a.length:Int)) []=FT t:=by rw [hx];exact midI ..
  have put:∀ kk:Int,(if t.k=0∨t.k=2 then 1 else 0)=kk→∃ z:Int×Int×List In1,AC Tryz.prog 55 [ep2, .agg [.a (.fz (.int .i64 kk)), .a (.fz (.int .i64 a.length)), .a (.fz (.int .i64 t.k)), .a (.fz (.str t.s)), .a (.fz (.int .i64 t.n)), .a (.fz (.sl false 4 (FTs t.l))), .a (.fz .N), .a (.fz .N)]]
    [.arr 2 [[.a (.fz (.int .i64 s)), .a (.osl 1 8 0 (argI 0 a).length)]], .arz 8 (FIs (argI 0 a))] (ci z.1) [.arr 2 [[.a (.fz (.int .i64 z.2.1)), .a (.osl 2 8 0 z.2.2.length)]], .gone, .arz 8 (FIs z.2.2)]∧
    RPt Tryz.prog 23 0 (aC (.mk hh.s xs.length fr c.1 (bodC n true bo s xs.length).1 (finI (argI 0 xs++(bodC n true bo s xs.length).2)))) [] 5 ⟨ev5 fr xs ((a.length:Int)+1),hp5 c bo hh z.2.1 z.2.2,6⟩:=fun kk hk=>by
   have k:=zdt kk a.length t s (argI 0 a) (by rw [z9n];omega);rw [hk] at ih;exact ⟨(_,_,_),k,ih⟩
  refine RPt.vc hP sh lv23 (Eq.mpr (v23_5a ..) ?_);rw [w64 (x:=(a.length:Int)+1) (by omega) (by omega),e];obtain ⟨k,str,m,tl⟩:=t;refine br_t (by simpa using hlt) ⟨⟨rfl,by omega,by rw [z02];omega,z2l (.mk k str m tl)⟩,z03 (fun q=> ?_) (fun q=>z03 (fun q2=> ?_) (fun q2=> ?_))⟩
  · have q:(k==0)=true:=q;have q:k=0:=by simpa using q
    exact put 1 (by rw [if_pos (.inl q)])
  · have q2:(k==2)=true:=q2;have q2:k=2:=by simpa using q2
    exact put 1 (by rw [if_pos (.inr q2)])
  · have q:(k==0)=false:=q;have q2:(k==2)=false:=q2;have q:¬k=0:=by simpa using q
    have q2:¬k=2:=by simpa using q2
    exact put 0 (by rw [if_neg (fun w=>w.elim q q2)])
end Go.AM

set_option maxRecDepth 100000
open Go Go.Proofs
namespace Go.AM
abbrev ev1 (fr:Int)(xs:WV)(v i:Int):Env:=[(1,ci fr),(2, .c (.a (.ep 0 9 0 0))),(4, .c (.a (.ep 1 6 0 0))),(5, .c xs),(16,ci v),(17,ci i)]
def CpG (n:Nat)(c:Cl)(fr:Int):Prop:=∀ by_:List Tm,by_=byV (z06 c.1.toNat fr)→∃ z:Tm×Tm,AC Tryz.prog 53 [aCl c,aL by_] [] (.tup [(true,cT z.1),(true,cT z.2)]) []∧∃ y:Tm×List Tm,AC Tryz.prog 54 [aT z.1] [] (.tup [(true,cT y.1),(false,[.a (.fz (.sl false 4 (FTs y.2)))])]) []∧
 RPt Tryz.prog 23 0 (aC (z2p (bodC n) c fr)) [] 5 ⟨ev5 fr y.2 0,hp5 c z.2 y.1 (fr+c.1) [],6⟩
theorem byV_snoc (n:Nat)(fr:Int):FTs (byV (z06 n fr))++ [FT4 (vN4 (fr+n))]=FTs (byV (z06 (n+1) fr)):=by
 rw [zcn];show FTs ((z06 n fr).map vN4)++_=FTs ((z06 n fr++ [fr+n]).map vN4);rw [List.map_append,z2h,z2h,List.map_append];rfl
theorem z4x {n:Nat}{fr:Int}(h0:0≤fr)(h1:fr+n≤1000000000)(h2:n≤1000000):VR (z06 n fr):=⟨by rw [z5o];exact h2,fun v hv=>by have:=zfw n fr v hv;omega⟩
theorem cpG {n:Nat}(hn:n≤10000)(h:BdC n)(c:Cl)(fr:Int)(hk:OKc n c fr):CpG n c fr:=by
 obtain ⟨⟨v0,v1⟩,⟨f0,f1⟩,hT,hG,hw⟩:=hk;have hsq:=sq_b hn;have hR:VR (z06 c.1.toNat fr):=z4x f0 (by omega) (by omega);intro by_ hby;subst hby;have o:=c_kopen c (z06 c.1.toNat fr) hR (by rw [z5o];omega) hT.1 hG.1.1 hT.2.1 hG.1.2.1 (z46 (by omega) _ hT.2.2) (z46 (by omega) _ hG.1.2.2);obtain ⟨t1,_⟩:=TG.open (by omega) _ hR.2 _ hT;obtain ⟨g1,w1⟩:=GG.open (by omega) hR.2 hG;have hz:(openG (z06 c.1.toNat fr) c.2.1).sz≤B:=by have:=t1.2.1;simp only [B];omega
 have k:=z67 (openG (z06 c.1.toNat fr) c.2.1) hz;have hs:=(z9r (openG (z06 c.1.toNat fr) c.2.1)).2.2;have l5:=zkv hn h c (openG (z06 c.1.toNat fr) c.2.2) (z00 (openG (z06 c.1.toNat fr) c.2.1)).1 fr (fr+c.1) (z00 (openG (z06 c.1.toNat fr) c.2.1)).2 (by omega) g1 (by omega) (by omega) (by have:=t1.2.1;omega) (z00 (openG (z06 c.1.toNat fr) c.2.1)).2 [] rfl;exact ⟨(_,_),o,z00 (openG (z06 c.1.toNat fr) c.2.1),k,l5⟩
theorem zju {n:Nat}(c:Cl)(fr:Int)(hk:CpG n c fr)(v1:c.1≤100000)(f0:0≤fr)(f1:fr+c.1≤1000000000):∀ (k j:Nat),0<j→(j+k:Int)=c.1→
  RPt Tryz.prog 23 0 (aC (z2p (bodC n) c fr)) [] 1 ⟨ev1 fr (.a (.osl 2 4 0 j)) c.1 j,[(0, .arr 9 [cCl9 c]),(1, .arr 6 [z6]),(2, .arz 4 (FTs (byV (z06 j fr))))],3⟩
 | 0,j,hj,hjk=>by
  have hj2:c.1.toNat=j:=by omega
  obtain ⟨z,o,y,k,l5⟩:=hk (byV (z06 j fr)) (by rw [hj2]);have hlen:(FTs (byV (z06 j fr))).length=j:=by rw [z02,byV,List.length_map,z5o]
  refine RPt.vc hP sh lv23 (Eq.mpr (v23_1b ..) ?_);rw [w64 (x:=fr+c.1) (by omega) (by omega)];refine br_f (by simp;omega) ⟨⟨rfl,by rw [hlen];omega⟩,z, ?_,y,k,rfl, ?_⟩
  · rw [List.drop_zero,List.take_of_length_le (by rw [hlen];exact Nat.le_refl _)];exact o
  · rw [z02];exact l5
 | k+1,j,hj,hjk=>by
  have ih:=zju c fr hk v1 f0 f1 k (j+1) (by omega) (by omega);have hlen:(FTs (byV (z06 j fr))).length=j:=by rw [z02,byV,List.length_map,z5o]
  refine RPt.vc hP sh lv23 (Eq.mpr (v23_1b ..) ?_);rw [w64 (x:=fr+j) (by omega) (by omega),w64 (x:=(j:Int)+1) (by omega) (by omega)];refine br_t (decide_eq_true (by omega)) ⟨vN4 (fr+j),zs3 _,Nat.le_refl _,⟨by rw [hlen];exact Nat.le_refl _,by unfold z0x;omega⟩, ?_⟩;rw [List.take_of_length_le (by rw [hlen];exact Nat.le_refl _),byV_snoc];exact ih
theorem zj4 {n:Nat}(hn:n≤10000)(h:BdC n)(c:Cl)(fr:Int)(hk:OKc n c fr):AC Tryz.prog 23 [aCl c,ci fr] [] (aC (z2p (bodC n) c fr)) []:=by
 have hc:=cpG hn h c fr hk;obtain ⟨⟨v0,v1⟩,⟨f0,f1⟩,_⟩:=hk;refine AC.vc hP sh lv23 (Nat.le_refl _) (by simp) (by simp) (Eq.mpr (v23 ..) ?_);refine RPt.vc hP sh lv23 (Eq.mpr (v23_1a fr c.1 0 c.1 c.2.1.k c.2.1.s c.2.1.n (FTs c.2.1.l) c.2.2.k c.2.2.s c.2.2.n (FTs c.2.2.l) ..) ?_);rw [w64 (x:=fr+c.1) (by omega) (by omega),w64 (x:=fr+0) (by omega) (by omega)];refine z03 (fun q=>⟨vN4 (fr+0),zs3 _,Nat.le_refl _,by decide, ?_⟩) (fun q=> ?_)
 · have q:=of_decide_eq_true q;obtain ⟨m,hm⟩:∃ m:Nat,c.1=m+1:=⟨(c.1-1).toNat,by omega⟩;have l:=zju c fr hc v1 f0 (by omega) m 1 (by omega) (by omega);have e:byV (z06 1 fr)=[vN4 (fr+0)]:=by rw [Int.add_zero];rfl
   rw [e] at l;exact l
 · have q:=of_decide_eq_false q;have hc0:c.1=0:=by omega
   obtain ⟨z,o,y,k,l5⟩:=hc [] (by rw [hc0];rfl);refine ⟨z,o.args ⟨.refl _, .c _ _ (.a _ _ (.fz _ _ z3i)),trivial⟩,y,k,rfl, ?_⟩;rw [z02];exact l5
end Go.AM

set_option maxRecDepth 100000
open Go Go.Proofs
namespace Go.AM
theorem zl3 (l:List Cd)(x:Cd):FCs l++ [[.str x.nm, .int .i64 x.ar, .int .i64 x.fr, .int .i64 x.vs, .int .i64 x.sl, .sl false 8 (FIs x.ins)]]=FCs (l++ [x]):=by
 rw [zay,zay,List.map_append];show _=List.map FC l++ [FC x];rw [FC_eta x]
abbrev evI (w:WV)(xs:List Cl)(i:Int):Env:=[(0,ep2),(5, .c (.a (.ep 3 4 0 0))),(8, .c w),(16,aCls xs),(17,ci xs.length),(18,ci i)]
abbrev hpI (s:Int)(l:List In1)(g:Tm):AHeap:=[(0, .arr 2 [[.a (.fz (.int .i64 s)), .a (.osl 2 8 0 l.length)]]),(1, .gone),(2, .arz 8 (FIs l)),(3, .arr 4 [cT g])]
theorem zli {n:Nat}(hn:n≤10000)(h:BdC n)(g:Tm)(s:Int)(l:List In1)(codes:List Cd)(hw:wt g≤n)(hg:GG (n*n+n) g)(h0:0≤s)(h1:s+wt g+(n*n:Nat)≤1000000000)(hl:l.length+wt g+1≤1000000000):
  ∃ z3:Int×List In1,AC Tryz.prog 86 [ep2,aT g,cb false] (stI s (l++ [.mk 14 0 noT0 [] codes])) (.tup []) (stO z3.1 z3.2)∧∃ z4:Int×Int×List In1,AC Tryz.prog 55 [ep2, .agg [.a (.fz (.int .i64 15)), .a (.fz (.int .i64 0)), .a (.fz (.int .i64 0)), .a (.fz (.str [])), .a (.fz (.int .i64 0)), .a (.fz .N), .a (.fz .N), .a (.fz .N)]] (stI z3.1 z3.2) (ci z4.1) (stO z4.2.1 z4.2.2)∧
   (TV.Le (.tup []) (.tup [])∧stO z4.2.1 z4.2.2=stO (bodI codes (bodC n false g s (l.length+1))).1 (l++(bodI codes (bodC n false g s (l.length+1))).2)):=by
 have k:=h false g s (l++ [.mk 14 0 noT0 [] codes]) (l.length+1) (by simp) hw hg h0 h1 (by rw [List.length_append];simp only [List.length_cons,List.length_nil];omega);have bb:=z4i n hn false g s (l.length+1) hw hg h0 (by omega);generalize bodC n false g s (l.length+1)=r at*;have k2:=z4q 15 0 r.1 (l++ [.mk 14 0 noT0 [] codes]++r.2) (by simp only [List.length_append,List.length_cons,List.length_nil];omega);refine ⟨(_,_),k,(_,_,_),k2,z57 rfl ?_⟩;unfold bodI;simp
theorem l_pimp {n:Nat}(hn:n≤10000)(h:BdC n)(g:Tm)(s:Int)(l:List In1)(xs:List Cl)(hxs:xs.length≤1000000)(hk:∀ x∈xs,OKc n x s)(hw:wt g≤n)(hg:GG (n*n+n) g)(h0:0≤s)(h1:s+wt g+(n*n:Nat)≤1000000000)(hl:l.length+wt g+1≤1000000000):
  ∀ (b a:List Cl),xs=a++b→a ≠ []→RPt Tryz.prog 126 2 (.tup []) (stO (bodI (xs.map fun c=>z2p (bodC n) c s) (bodC n false g s (l.length+1))).1 (l++(bodI (xs.map fun c=>z2p (bodC n) c s) (bodC n false g s (l.length+1))).2)) 1
   ⟨evI (.a (.osl 4 6 0 a.length)) xs a.length,hpI s l g++ [(4, .arz 6 (FCs (a.map fun c=>z2p (bodC n) c s)))],5⟩
 | [],a,hx,_=>by
  have ha:a=xs:=by rw [hx,List.append_nil]
  subst ha;have hlen:(FCs (a.map fun c=>z2p (bodC n) c s)).length=a.length:=by rw [z0r,List.length_map]
  obtain ⟨z3,k3,z4,k4,e⟩:=zli hn h g s l (a.map fun c=>z2p (bodC n) c s) hw hg h0 h1 hl;refine RPt.vc hP sh zj5 (Eq.mpr (zrx ..) ?_);refine br_f (by simp) ⟨⟨rfl,by rw [hlen];omega⟩,((l.length:Int),s,l++ [.mk 14 0 noT0 [] (a.map fun c=>z2p (bodC n) c s)]), ?_,z3,k3,z4,k4,e⟩;rw [List.drop_zero,List.take_of_length_le (by rw [hlen];exact Nat.le_refl _)];exact c_pputC 14 0 (a.map fun c=>z2p (bodC n) c s) s l (by omega)
 | c::b,a,hx,hne=>by
  have ih:=l_pimp hn h g s l xs hxs hk hw hg h0 h1 hl b (a++ [c]) (by rw [hx];simp) (by simp);rw [nx,List.map_append,List.length_append] at ih;have hlen:(FCs (a.map fun c=>z2p (bodC n) c s)).length=a.length:=by rw [z0r,List.length_map]
  have hlt:a.length<xs.length:=by rw [hx];simp
  have e:List.getD (CLs xs) (Int.toNat (a.length:Int)) []=FL c:=by rw [hx];exact cl_mid ..
  have k:=zj4 hn h c s (hk c (by rw [hx];simp));refine RPt.vc hP sh zj5 (Eq.mpr (zrx ..) ?_);rw [w64 (x:=(a.length:Int)+1) (by omega) (by omega),e];refine br_t (by simpa using hlt) ⟨⟨rfl,by omega,by rw [z1s];omega,rfl⟩,_,k,Nat.le_refl _,⟨by rw [hlen];exact Nat.le_refl _,by unfold z0x;omega⟩, ?_⟩;rw [List.take_of_length_le (by rw [hlen];exact Nat.le_refl _),zl3];exact ih
theorem c_pimp {n:Nat}(hn:n≤10000)(h:BdC n)(d g:Tm)(s:Int)(l:List In1)(xs:List Cl)(e:Int)(cP:AC Tryz.prog 147 [aT d] [] (.tup [(false,[.a (.fz (.sl false 9 (CLs xs)))]),(false,[.a (.fz (.int .i64 e))])]) [])(hxs:xs.length≤1000000)(hk:∀ x∈xs,OKc n x s)(hw:wt g≤n)(hg:GG (n*n+n) g)(h0:0≤s)(h1:s+wt g+(n*n:Nat)≤1000000000)(hl:l.length+wt g+1≤1000000000):
  AC Tryz.prog 126 [ep2,aT d,aT g] (stI s l) (.tup []) (stO (bodI (xs.map fun c=>z2p (bodC n) c s) (bodC n false g s (l.length+1))).1 (l++(bodI (xs.map fun c=>z2p (bodC n) c s) (bodC n false g s (l.length+1))).2)):=by
 refine AC.vc hP sh zj5 (by simp) (by simp [isLive]) (by simp [isLive]) (Eq.mpr (v126 d.k d.s d.n (FTs d.l) g.k g.s g.n (FTs g.l) s l.length (FIs l) ..) ?_);refine ⟨(xs,e),cP,rfl, ?_⟩;rw [z1s];refine RPt.vc hP sh zj5 (Eq.mpr (v126_1a (CLs xs) xs.length 0 s l.length (FIs l) g.k g.s g.n (FTs g.l) ..) ?_)
 match xs,hxs,hk with
 | [],_,_=>
  obtain ⟨z3,k3,z4,k4,e⟩:=zli hn h g s l [] hw hg h0 h1 hl;exact br_f rfl ⟨(_,_,_),z4q 14 0 s l (by omega),z3,k3,z4,k4,e⟩
 | c::xs,hxs,hk=>
  have k:=zj4 hn h c s (hk c (by simp));have l1:=l_pimp hn h g s l (c::xs) hxs hk hw hg h0 h1 hl xs [c] rfl (by simp);rw [w64 (x:=(0:Int)+1) (by omega) (by omega)];refine br_t (decide_eq_true (by simp only [List.length_cons];omega)) ⟨⟨rfl,by omega,by rw [z1s];simp only [List.length_cons];omega,rfl⟩,_,k,Nat.le_refl _,by decide, ?_⟩;have e1:[[FV.str (z2p (bodC n) c s).nm, .int .i64 (z2p (bodC n) c s).ar, .int .i64 (z2p (bodC n) c s).fr, .int .i64 (z2p (bodC n) c s).vs, .int .i64 (z2p (bodC n) c s).sl, .sl false 8 (FIs (z2p (bodC n) c s).ins)]]=FCs ([c].map fun c=>z2p (bodC n) c s):=zl3 [] _;rw [e1];exact l1
theorem z4l (s:List UInt8):numB s=(s==[105,115]||(s==[60]||(s==[61,60]||(s==[62]||s==[62,61])))):=by
 unfold numB nums;simp only [List.contains_cons,List.contains_nil,Bool.or_false]
theorem zs0 {n:Nat}(hn:n+1≤10000)(h:BdC n):BdC (n+1):=by
 intro last t s l p hp hw hg h0 h1 hl;subst hp;have hsq:=sq_b (n:=n) (by omega);have hmul:(n+1)*(n+1)=n*n+2*n+1:=by rw [Nat.mul_add,Nat.add_mul];omega
 have hg0:=hg;rw [sq_s] at hg;have c1:=z67 t (by have:=hg.1.2.1;simp only [B];omega);have hpos:=z0u t;rw [bodC];refine AC.vc hP sh lv86 (by simp) (by simp [isLive]) (by simp [isLive]) (Eq.mpr (v86 t.k t.s t.n (FTs t.l) last s l.length (FIs l) ..) ?_);refine ⟨z00 t,c1,z03 (fun q=> ?_) (fun q1=>z03 (fun q=> ?_) (fun q2=>z03 (fun q=> ?_) (fun q3=>z03 (fun q=> ?_) (fun q4=>z03 (fun q=> ?_) (fun q5=>z03 (fun q=> ?_) (fun q6=>z03 (fun q=> ?_) (fun q7=>z03 (fun q=> ?_) (fun q8=>z03 (fun q=> ?_) (fun q9=> ?_)))))))))⟩
 · rw [if_pos (by simpa using q)];exact z57 rfl (by simp)
 · rw [if_neg (by simpa using q1),if_pos (by simpa using q)];exact ⟨(_,_,_),z4q 8 0 s l (by omega),z57 rfl rfl⟩
 · rw [if_neg (by simpa using q1),if_neg (by simpa using q2),if_pos (by simpa using q)];exact ⟨(_,_,_),z4q 7 0 s l (by omega),z57 rfl rfl⟩
 · have e:(z00 t).1.s=nAnd:=by simpa using q
   rw [if_neg (by simpa using q1),if_neg (by simpa using q2),if_neg (by simpa using q3),if_pos e];obtain ⟨a,c,el,ga,gc,hs⟩:=hg.two (.inl e);obtain ⟨k1,k2,k3,k4⟩:=zi7 el;rw [k3,k4];have ga:=ga.le (m:=n*n+n) (by omega) (by omega) (by omega);have gc:=gc.le (m:=n*n+n) (by omega) (by omega) (by omega);have ca:=h false a s l l.length rfl (by omega) ga h0 (by omega) (by omega);have bb:=z4i n (by omega) false a s l.length (by omega) ga h0 (by omega);have cc:=h last c (bodC n false a s l.length).1 (l++(bodC n false a s l.length).2) (l.length+(bodC n false a s l.length).2.length) (by rw [List.length_append]) (by omega) gc (by omega) (by omega) (by rw [List.length_append];omega);rw [el];exact ⟨by rw [←el];exact k1,(_,_),ca,by rw [←el];exact k2,(_,_),cc,z57 rfl (by rw [List.append_assoc];rfl)⟩
 · have e:(z00 t).1.s=nOr:=by simpa using q
   rw [if_neg (by simpa using q1),if_neg (by simpa using q2),if_neg (by simpa using q3),if_neg (by simpa using q4),if_pos e];obtain ⟨a,c,el,ga,gc,hs⟩:=hg.two (.inr e);obtain ⟨k1,k2,k3,k4⟩:=zi7 el;rw [k3,k4];have ga:=ga.le (m:=n*n+n) (by omega) (by omega) (by omega);have gc:=gc.le (m:=n*n+n) (by omega) (by omega) (by omega);have ca:=c_por (by omega) h a c s l ga gc (by omega) h0 (by omega) (by omega);rw [el];exact ⟨by rw [←el];exact k1,by rw [←el];exact k2,(_,_),ca, .refl _,rfl⟩
 · have e:(z00 t).1.s=nPi:=by simpa using q
   rw [if_neg (by simpa using q1),if_neg (by simpa using q2),if_neg (by simpa using q3),if_neg (by simpa using q4),if_neg (by simpa using q5),if_pos e];obtain ⟨a,el,ta,ga,hs⟩:=hg.one (by omega) (.inl e);obtain ⟨k1,k2⟩:=zpw el;rw [k2];have w2:=z55 s (z0g a);have g2:=(ga.suV (v:=s) (by omega) h0 (by omega)).le (m:=n*n+n) (by omega) (by omega) (by omega);have cb1:=znm 11 a s l (by omega) h0 (by omega) ta.1 ta.2.1 (z46 (by omega) _ ta.2.2);have cc:=h false (suT 0 (vN4 s) (z0g a) 0) (s+1) (l++ [mkI 11 s]) (l.length+1) (by simp) (by omega) g2 (by omega) (by omega) (by rw [List.length_append];simp only [List.length_cons,List.length_nil];omega);have bb:=z4i n (by omega) false (suT 0 (vN4 s) (z0g a) 0) (s+1) (l.length+1) (by omega) g2 (by omega) (by omega);rw [el];refine ⟨by rw [←el];exact k1,(_,_,_),cb1,(_,_),cc,(_,_,_),z4q 12 0 _ _ (by simp only [List.length_append,List.length_cons,List.length_nil];omega),z57 rfl ?_⟩;show _=l++(mkI 11 s::((bodC n false (suT 0 (vN4 s) (z0g a) 0) (s+1) (l.length+1)).2++ [mkI 12 0]));simp
 · have e:(z00 t).1.s=nSig:=by simpa using q
   rw [if_neg (by simpa using q1),if_neg (by simpa using q2),if_neg (by simpa using q3),if_neg (by simpa using q4),if_neg (by simpa using q5),if_neg (by simpa using q6),if_pos e];obtain ⟨a,el,ta,ga,hs⟩:=hg.one (by omega) (.inr e);obtain ⟨k1,k2⟩:=zpw el;rw [k2];have w2:=z55 s (z0g a);have g2:=(ga.suV (v:=s) (by omega) h0 (by omega)).le (m:=n*n+n) (by omega) (by omega) (by omega);have cb1:=znm 13 a s l (by omega) h0 (by omega) ta.1 ta.2.1 (z46 (by omega) _ ta.2.2);have cc:=h last (suT 0 (vN4 s) (z0g a) 0) (s+1) (l++ [mkI 13 s]) (l.length+1) (by simp) (by omega) g2 (by omega) (by omega) (by rw [List.length_append];simp only [List.length_cons,List.length_nil];omega);rw [el];refine ⟨by rw [←el];exact k1,(_,_,_),cb1,(_,_),cc,z57 rfl ?_⟩;show _=l++(mkI 13 s::(bodC n last (suT 0 (vN4 s) (z0g a) 0) (s+1) (l.length+1)).2);simp
 · have e:(z00 t).1.s=nImp:=by simpa using q
   rw [if_neg (by simpa using q1),if_neg (by simpa using q2),if_neg (by simpa using q3),if_neg (by simpa using q4),if_neg (by simpa using q5),if_neg (by simpa using q6),if_neg (by simpa using q7),if_pos e];obtain ⟨a,c,el,ta,wa,hc,gc,hs,hk⟩:=zdw hn hw hg0 e s h0 (by omega);obtain ⟨k1,k2,k3,k4⟩:=zi7 el;rw [k3,k4];have cP:=c_kparts n (by omega) a wa ta;have hV:z0w n true a=(clsF false n true 0 [] a).2:=by unfold z0w;rw [if_pos hc]
   have hxs:=z47 false n true 0 [] a;have hk':∀ x∈z0w n true a,OKc n x s:=fun x hx=>(hk x (by rw [←hV];exact hx)).1;have ci:=c_pimp (by omega) h a c s l (z0w n true a) _ cP (by rw [hV];have:=ta.2.1;omega) hk' (by omega) gc h0 (by omega) (by omega);rw [el];exact ⟨by rw [←el];exact k1,by rw [←el];exact k2,(_,_),ci, .refl _,rfl⟩
 · rw [if_neg (by simpa using q1),if_neg (by simpa using q2),if_neg (by simpa using q3),if_neg (by simpa using q4),if_neg (by simpa using q5),if_neg (by simpa using q6),if_neg (by simpa using q7),if_neg (by simpa using q8),if_pos (by simpa using q)];exact ⟨(_,_,_),c_pputL 5 0 (z00 t).2 s l (by omega),z57 rfl rfl⟩
 · rw [if_neg (by simpa using q1),if_neg (by simpa using q2),if_neg (by simpa using q3),if_neg (by simpa using q4),if_neg (by simpa using q5),if_neg (by simpa using q6),if_neg (by simpa using q7),if_neg (by simpa using q8),if_neg (by simpa using q9)]
   have num:numB (z00 t).1.s=true→∃ z:Int×Int×List In1,AC Tryz.prog 55 [ep2, .agg [.a (.fz (.int .i64 6)), .a (.fz (.int .i64 0)), .a (.fz (.int .i64 t.k)), .a (.fz (.str t.s)), .a (.fz (.int .i64 t.n)), .a (.fz (.sl false 4 (FTs t.l))), .a (.fz .N), .a (.fz .N)]] (stI s l) (ci z.1) (stO z.2.1 z.2.2)∧(TV.Le (.tup []) (.tup [])∧stO z.2.1 z.2.2=stO (if numB (z00 t).1.s=true then (s,[In1.mk 6 0 t [] []]) else (s,[.mk (if last=true then 3 else 2) 0 t [] []])).1 (l++(if numB (z00 t).1.s=true then (s,[In1.mk 6 0 t [] []]) else (s,[.mk (if last=true then 3 else 2) 0 t [] []])).2)):=fun q=>by
    rw [if_pos q];exact ⟨(_,_,_),zdt 6 0 t s l (by omega),z57 rfl rfl⟩
   refine z03 (fun q=>num (by rw [z4l,q];rfl)) (fun r1=>z03 (fun q=>num (by rw [z4l,q];simp)) (fun r2=>z03 (fun q=>num (by rw [z4l,q];simp)) (fun r3=>z03 (fun q=>num (by rw [z4l,q];simp)) (fun r4=>z03 (fun q=>num (by rw [z4l,q];simp)) (fun r5=> ?_)))));have hno:numB (z00 t).1.s=false:=by rw [z4l,r1,r2,r3,r4,r5];rfl
   rw [if_neg (by rw [hno];simp)];refine z03 (fun q=> ?_) (fun q=> ?_)
   · rw [if_pos q];exact ⟨(_,_,_),zdt 3 0 t s l (by omega),z57 rfl rfl⟩
   · rw [if_neg (by rw [q];simp)];exact ⟨(_,_,_),zdt 2 0 t s l (by omega),z57 rfl rfl⟩
theorem bd_all:∀ n:Nat,n≤10000→BdC n
 | 0,_=>fun last t s l p _ hw _ _ _ _=>by have:=z0u t;omega
 | n+1,hn=>zs0 hn (bd_all n (by omega))
end Go.AM

set_option maxRecDepth 100000
open Go Go.Proofs

set_option maxRecDepth 100000
open Go Go.Proofs

set_option maxRecDepth 100000
open Go Go.Proofs

set_option maxRecDepth 100000
open Go Go.Proofs
namespace Go.AM
def sI1 (x y:In1):Bool:=x.k==y.k&&(x.a==y.a&&(z3a x.t y.t&&(z3b x.l y.l&&sCds x.c y.c)))
theorem zp8 (x y:In1)(r r':List In1):sIns (x::r) (y::r')=(sI1 x y&&sIns r r'):=by
 cases x;cases y;rw [sIns,sI1];simp only [In1.k,In1.a,In1.t,In1.l,In1.c,Bool.and_assoc]
theorem sIns_len {a b:List In1}(h:a.length≠b.length):sIns a b=false:=by
 cases q:sIns a b with
 | false=>rfl
 | true=>exact absurd (congrArg List.length ((ze9 a b).1 q)) h
theorem sCds_len {a b:List Cd}(h:a.length≠b.length):sCds a b=false:=by
 cases q:sCds a b with
 | false=>rfl
 | true=>exact absurd (congrArg List.length ((zen a b).1 q)) h
theorem sCd_eq (a b:Cd):sCd a b=(a.nm==b.nm&&(a.ar==b.ar&&(a.fr==b.fr&&(a.vs==b.vs&&(a.sl==b.sl&&sIns a.ins b.ins))))):=by cases a;cases b;rw [sCd];rfl
theorem zb5 (l m:List Tm)(hl0:l.length≤B):∀ (b a b' a':List Tm),l=a++b→m=a'++b'→a.length=a'.length→b.length=b'.length→(∀ t∈b,t.sz≤B)→RPt Tryz.prog 27 0 (cb (z3b b b')) [] 1 ⟨[(0,aL l),(1,aL m),(5,ci (a.length:Int))],[],0⟩
 | [],a,[],a',hl,hm,_,_,_=>by
  rw [List.append_nil] at hl;subst hl;refine RPt.vc hP sh lv27 (Eq.mpr (v27_1a ..) ?_);exact ⟨rfl,z03 (fun h=>absurd (of_decide_eq_true h) (by rw [z02];omega)) (fun _=>z04 rfl)⟩
 | t::b,a,t'::b',a',hl,hm,ha,hlen,hb=>by
  simp only [List.length_cons] at hlen;have next:=zb5 l m hl0 b (a++ [t]) b' (a'++ [t']) (by rw [hl];simp) (by rw [hm];simp) (by simp [ha]) (by omega) (fun u hu=>hb u (List.mem_cons_of_mem _ hu));have h1:=znb t (hb t List.mem_cons_self) t';have h3:=ltI' a t b;have h4:=ltI' a' t' b';have em:=z5e a t b;have em':=z5e a' t' b';have ea:=z8s a t b;have ea':=z8s a' t' b';rw [←ha] at h4 em' ea';subst hl;subst hm;simp only [List.length_append,List.length_cons,B] at hl0;rw [show (((a++ [t]).length:Nat):Int)=(a.length:Int)+1 by simp] at next;refine RPt.vc hP sh lv27 (Eq.mpr (v27_1a ..) ?_);rw [ea,ea',w64 (x:=(a.length:Int)+1) (by omega) (by omega)];refine ⟨rfl,z03 (fun _=>⟨⟨rfl,by omega,h3,em⟩,⟨rfl,by omega,h4,em'⟩,_,h1,z03 (fun h=>z04 ?_) (fun h=> ?_)⟩) (fun h=>absurd h3 (of_decide_eq_false h))⟩
  · rw [z3b,show z3a t t'=false by simpa using h];rfl
  · rw [z3b,show z3a t t'=true by simpa using h];exact next
theorem ziz (l m:List Tm)(hl0:l.length≤B)(hb:∀ t∈l,t.sz≤B):AC Tryz.prog 27 [aL l,aL m] [] (cb (z3b l m)) []:=by
 refine AC.vc hP sh lv27 (Nat.le_refl _) (by simp) (by simp) (Eq.mpr (v27 ..) ?_);rw [z02,z02];refine ⟨rfl,rfl,z03 (fun h=>z04 (z74 (fun e=>by rw [e] at h;simp at h)).symm) (fun h=> ?_)⟩;have h':(l.length:Int)=m.length:=by simpa using h
 exact zb5 l m hl0 l [] m [] rfl rfl rfl (by omega) hb
theorem zfl (a b:Cd)(x y:In1)(i:Int)(r:Bool)(h0:0≤i)(h1:i≤B):∀ (q p q' p':List Cd),x.c=p++q→y.c=p'++q'→p.length=p'.length→q.length=q'.length→x.c.length≤B→(∀ u∈q,∀ v:Cd,AC Tryz.prog 11 [aC u,aC v] [] (cb (sCd u v)) [])→
  (sCds q q'=false→r=false)→(sCds q q'=true→RPt Tryz.prog 11 0 (cb r) [] 1 ⟨[(2, .c (.a (.ep 0 6 0 0))),(3, .c (.a (.ep 1 6 0 0))),(5,ci (i+1))],[(0,obC a),(1,obC b)],2⟩)→
  RPt Tryz.prog 11 0 (cb r) [] 5 ⟨[(2, .c (.a (.ep 0 6 0 0))),(3, .c (.a (.ep 1 6 0 0))),(5,ci i),(6, .c (.a (.ep 2 8 0 0))),(7, .c (.a (.ep 3 8 0 0))),(10,ci p.length)],[(0,obC a),(1,obC b),(2, .arr 8 [cIn x]),(3, .arr 8 [cIn y])],4⟩
 | [],p,[],p',hx,hy,hp,hq,hB,ih,hF,hT=>by
  have hk:=hT (by rw [sCds]);simp only [B] at h1;refine RPt.vc hP sh lv11 (Eq.mpr (v11_5a ..) ?_);rw [w64 (x:=i+1) (by omega) (by omega)];refine ⟨rfl,z03 (fun h=>absurd (of_decide_eq_true h) ?_) (fun _=>hk)⟩;show¬(p.length:Int)<(((FCs x.c).length:Nat):Int);rw [z0r,hx];simp
 | u::q,p,v::q',p',hx,hy,hp,hq,hB,ih,hF,hT=>by
  simp only [List.length_cons] at hq;simp only [B] at hB;have hlp:p.length<x.c.length:=by rw [hx];simp
  have hlp':p.length<y.c.length:=by rw [hy,hp];simp
  have hc:=ih u List.mem_cons_self v;have e1:List.getD (FV.ses (.sl false 6 (FCs x.c))) (Int.toNat (p.length:Int)) []=FC u:=by rw [hx];exact zrn p u q
  have e2:List.getD (FV.ses (.sl false 6 (FCs y.c))) (Int.toNat (p.length:Int)) []=FC v:=by rw [hy,hp];exact zrn p' v q'
  have es:sCds (u::q) (v::q')=(sCd u v&&sCds q q'):=by rw [sCds]
  rw [es] at hF hT;refine RPt.vc hP sh lv11 (Eq.mpr (v11_5a ..) ?_);rw [e1,e2,w64 (x:=(p.length:Int)+1) (by omega) (by omega)]
  refine ⟨rfl,z03 (fun _=>⟨el6 x.c p.length (by omega) (by omega) u,el6 y.c p.length (by omega) (by omega) v,_,by
   show AC Tryz.prog 11 [aCr (FC u),aCr (FC v)] [] _ [];rw [zjz u,zjz v];exact hc,z03 (fun h=>z04 (hF (by rw [show sCd u v=false by simpa using h];rfl)).symm) (fun h=> ?_)⟩) (fun h=>absurd (of_decide_eq_false h) ?_)⟩
  · have hs:sCd u v=true:=by simpa using h
    rw [hs,Bool.true_and] at hF hT;have next:=zfl a b x y i r h0 h1 q (p++ [u]) q' (p'++ [v]) (by rw [hx];simp) (by rw [hy];simp) (by simp [hp]) (by omega) (by simp only [B];omega) (fun w hw=>ih w (List.mem_cons_of_mem _ hw)) hF hT;rw [nx] at next;exact next
  · show¬¬(p.length:Int)<(((FCs x.c).length:Nat):Int);rw [z0r];omega
theorem zfi (a b:Cd)(hB:zC a):∀ (q p q' p':List In1),a.ins=p++q→b.ins=p'++q'→p.length=p'.length→q.length=q'.length→(∀ x∈q,∀ u∈x.c,∀ v:Cd,AC Tryz.prog 11 [aC u,aC v] [] (cb (sCd u v)) [])→
  RPt Tryz.prog 11 0 (cb (sIns q q')) [] 1 ⟨[(2, .c (.a (.ep 0 6 0 0))),(3, .c (.a (.ep 1 6 0 0))),(5,ci p.length)],[(0,obC a),(1,obC b)],2⟩
 | [],p,[],p',hx,hy,hp,hq,ih=>by
  refine RPt.vc hP sh lv11 (Eq.mpr (v11_1a ..) ?_);refine ⟨rfl,z03 (fun h=>absurd (of_decide_eq_true h) ?_) (fun _=>z04 (by rw [sIns]))⟩;rw [z09,hx];simp
 | x::q,p,y::q',p',hx,hy,hp,hq,ih=>by
  simp only [List.length_cons] at hq;have hxm:x∈a.ins:=by rw [hx];simp
  have z2:=(zb2 hB).2.1;have z4:=zao (zb2 hB).2.2 hxm;have z5:=Tm.sz_bk x.t;have z6:=Tm.szs_bks x.l;have z7:=Tm.szs_length x.l;have z8:=z4.2.2.1;have hla:p.length<a.ins.length:=by rw [hx];simp
  have hlb:p.length<b.ins.length:=by rw [hy,hp];simp
  have e1:List.getD (FIs a.ins) (Int.toNat (p.length:Int)) []=FI x:=by rw [hx];exact zb1 p x q
  have e2:List.getD (FIs b.ins) (Int.toNat (p.length:Int)) []=FI y:=by rw [hy,hp];exact zb1 p' y q'
  have h1:=znb x.t (by omega) y.t;have h2:=ziz x.l y.l (by omega) (fun u hu=>by have:=Tm.szs_mem hu;omega);have next:=zfi a b hB q (p++ [x]) q' (p'++ [y]) (by rw [hx];simp) (by rw [hy];simp) (by simp [hp]) (by omega) (fun z hz=>ih z (List.mem_cons_of_mem _ hz));rw [nx] at next;refine RPt.vc hP sh lv11 (Eq.mpr (v11_1a ..) ?_);rw [e1,e2];simp only [FI0,FI1,FI2,FI3,FI4,FI5,FI6,FI7];rw [zp8];refine ⟨rfl,z03 (fun _=>⟨el8 a.ins p.length (by omega) (by omega) x,el8 b.ins p.length (by omega) (by omega) y,_,h1,_,h2,z03 (fun q1=>⟨z6c ?_,by trivial⟩) (fun q1=>z03 (fun q2=>⟨z6c ?_,by trivial⟩) (fun q2=>z03 (fun q3=>⟨z6c ?_,by trivial⟩) (fun q3=>z03 (fun q4=>⟨z6c ?_,by trivial⟩) (fun q4=>⟨rfl,rfl,z03 (fun q5=>⟨z6c ?_,by trivial⟩) (fun q5=> ?_)⟩))))⟩) (fun h=>absurd (of_decide_eq_false h) (by rw [z09];omega))⟩
  · have:(x.k==y.k)=false:=by simpa using q1
    rw [sI1,this];rfl
  · have:(x.a==y.a)=false:=by simpa using q2
    rw [sI1,this,Bool.false_and,Bool.and_false,Bool.false_and]
  · have:z3a x.t y.t=false:=by simpa using q3
    rw [sI1,this,Bool.false_and,Bool.and_false,Bool.and_false,Bool.false_and]
  · have:z3b x.l y.l=false:=by simpa using q4
    rw [sI1,this,Bool.false_and,Bool.and_false,Bool.and_false,Bool.and_false,Bool.false_and]
  · have:¬x.c.length=y.c.length:=fun e=>by
     have q5:((((FCs x.c).length:Nat):Int) !=(((FCs y.c).length:Nat):Int))=true:=q5;rw [z0r,z0r,e] at q5;simp at q5
    rw [sI1,sCds_len this,Bool.and_false,Bool.and_false,Bool.and_false,Bool.and_false,Bool.false_and]
  · have hlen:x.c.length=y.c.length:=by
     have q5:((((FCs x.c).length:Nat):Int) !=(((FCs y.c).length:Nat):Int))=false:=q5;rw [z0r,z0r] at q5;have:(x.c.length:Int)=y.c.length:=by simpa using q5
     omega
    have k1:(x.k==y.k)=true:=by simpa using q1
    have k2:(x.a==y.a)=true:=by simpa using q2
    have k3:z3a x.t y.t=true:=by simpa using q3
    have k4:z3b x.l y.l=true:=by simpa using q4
    have e5:sI1 x y=sCds x.c y.c:=by rw [sI1,k1,k2,k3,k4];rfl
    rw [e5];exact zfl a b x y p.length _ (by omega) (by omega) x.c [] y.c [] (by simp) (by simp) rfl hlen (by omega) (ih x List.mem_cons_self) (fun h=>by rw [h];rfl) (fun h=>by rw [h,Bool.true_and];exact next)
theorem zp3:∀ a:Cd,zC a→∀ b:Cd,AC Tryz.prog 11 [aC a,aC b] [] (cb (sCd a b)) []:=by
 refine Cd.ind fun a ih hz b=> ?_;have z3:=zb2 hz;have h:a.ins.length=b.ins.length→_:=fun hl=>zfi a b hz a.ins [] b.ins [] rfl rfl rfl hl (fun x hx d hd e=>ih x hx d hd (zht (zao z3.2.2 hx).2.2.2 hd) e);rw [sCd_eq];refine AC.vc hP sh lv11 (Nat.le_refl _) (by simp) (by simp) (Eq.mpr (v11 ..) ?_);rw [z09,z09];have bn:∀ {x y:Int},(x !=y)=true→(x==y)=false:=fun h=>by simpa using h
 have by_:∀ {x y:Int},(x !=y)=false→(x==y)=true:=fun h=>by simpa using h
 refine z03 (fun q1=>z04 (by rw [show (a.nm==b.nm)=false by simpa using q1];rfl)) (fun q1=> ?_);rw [show (a.nm==b.nm)=true by simpa using q1,Bool.true_and];refine z03 (fun q=>z04 (by rw [bn q];rfl)) (fun q=> ?_);rw [by_ q,Bool.true_and];refine z03 (fun q=>z04 (by rw [bn q];rfl)) (fun q=> ?_);rw [by_ q,Bool.true_and];refine z03 (fun q=>z04 (by rw [bn q];rfl)) (fun q=> ?_);rw [by_ q,Bool.true_and];refine z03 (fun q=>z04 (by rw [bn q];rfl)) (fun q=> ?_);rw [by_ q,Bool.true_and];refine ⟨rfl,rfl,z03 (fun q=>z04 ?_) (fun q=> ?_)⟩
 · have:¬a.ins.length=b.ins.length:=fun e=>by rw [e] at q;simp at q
   exact (sIns_len this).symm
 · have:(a.ins.length:Int)=b.ins.length:=by simpa using q
   exact h (by omega)
end Go.AM

set_option maxRecDepth 100000
open Go Go.Proofs
namespace Go.AM
abbrev bb:Int→List UInt8→Nat:=fun _ s=>1+s.length
theorem zl8 {t a c:Tm}(h:(z00 t).2=[a,c]):∃ s,1+s+(z00 t).1.bk+a.bk+c.bk≤t.bk:=by
 obtain ⟨s,n,x,y,r,rfl,e,_⟩:=z54 (t:=t) (by rw [h];simp);rw [e] at h ⊢;injection h with h1 h2
 subst h1;subst h2;exact ⟨s.length,by simp only [Tm.bk,Tm.bks];omega⟩
theorem zo7 {t a:Tm}(h:(z00 t).2=[a]):1+(z00 t).1.bk+a.bk≤t.bk:=by
 obtain ⟨s,n,x,y,r,rfl,e,_⟩:=z54 (t:=t) (by rw [h];simp);rw [e] at h ⊢;injection h with h1 h2
 subst h1;subst h2;simp only [Tm.bk,Tm.bks];omega
theorem z6v (t:Tm):1+t.s.length≤t.bk:=by cases t;simp only [Tm.bk,Tm.s];omega
theorem zi4 {t:Tm}(hv:validB t=true):(z0g t).bk≤t.bk+2:=by
 have:=zif (b:=bb) (fun _=>by show 1+0≤1+_;omega) t hv;rw [ze,ze] at this;exact Nat.le_trans this (by show 1+0+t.bk+(1+0)≤_;omega)
theorem suV_bk (v:Int)(t:Tm):(suT 0 (vN4 v) t 0).bk≤t.bk:=by
 have:=zpl (b:=bb) (fun _=>by show 1+0≤1+_;omega) 0 v t 0;rw [ze,ze] at this;exact this
theorem op_bk (vs:List Int)(t:Tm):(openG vs t).bk≤t.bk:=by
 have:=zep (b:=bb) (z1g vs) (fun u d _ h6=>z8o vs u d h6) (fun u d h5 h6=>by
  unfold z1g;split
  · split
    · rw [zho u];show 1+0+0≤1+_+_;omega
    · rw [zho u];show 1+0+0≤1+_+_;omega
  · exact Nat.le_refl _) t 0
 rw [ze,ze] at this;exact this
theorem zkn (t:Tm):(z00 t).1.bk≤t.bk∧Tm.bks (z00 t).2≤t.bk:=by
 unfold z00;split
 · rename_i h;obtain ⟨k,s,n,l⟩:=t;have h6:k=6:=h.1;subst h6;obtain ⟨x,y,r,rfl,_,_⟩:=okB6 (z0f _ h.2) rfl;simp only [hd,Tm.l,List.headD_cons,List.drop_succ_cons,List.drop_zero,Tm.bk,Tm.bks];omega
 · exact ⟨Nat.le_refl _,Nat.zero_le _⟩
theorem gmb_map:∀ L:List Tm,gms bb (L.map fun g=>shT 0 1 g 0)≤gms bb L:=zj3 bb
theorem zai (any:Bool):∀ (n:Nat),n≤1000000000→∀ (vs:Int) (L:List Tm) (t:Tm),TG n t→(clsF false n any vs L t).1=0→
  ∀ c∈(clsF false n any vs L t).2,c.2.1.bk≤t.bk∧∃ L',c.2.2=z3k L'∧gms bb L'≤gms bb L+t.bk
 | 0,_,_,_,_,_,_,c,hc=>by cases hc
 | n+1,hn,vs,L,t,ht,h,c,hc=>by
  rw [clsF] at h hc;by_cases he:(z01 t 131).2.2≠0
  · rw [if_pos he] at h;exact absurd h he
  rw [if_neg he] at h hc;have he:(z01 t 131).2.2=0:=Classical.byContradiction he;by_cases hnm:(z01 t 131).1=[]
  · rw [if_pos hnm] at h hc;split at h
    · cases h
    · rename_i hp;rw [if_neg hp] at hc;have hc:c=(vs,t,z3k L):=by simpa using hc
      subst hc;exact ⟨Nat.le_refl _,L,rfl,by omega⟩
  rw [if_neg hnm] at h hc
  have hnl:1+(z01 t 131).1.length≤(z00 t).1.bk:=by
   obtain ⟨_,⟨q,_⟩ | ⟨q,_⟩⟩:=z66 (by omega) he
   · exact absurd q hnm
   · rw [q];exact z6v _
  have two:∀ (hh:(z01 t 131).1=nAnd∨(z01 t 131).1=nOr∨(z01 t 131).1=nImp∨(z01 t 131).1=nIf),∃ a c,(z01 t 131).2.1=[a,c]∧TG n a∧TG n c∧2+(z01 t 131).1.length+a.bk+c.bk≤t.bk:=fun hh=>by
   obtain ⟨a,c,q,q2,q0⟩:=z0h (by omega) he hh;obtain ⟨s,hs⟩:=zl8 q2;exact ⟨a,c,q,ht.arg (by rw [q2];simp),ht.arg (by rw [q2];simp),by omega⟩
  by_cases hand:(z01 t 131).1=nAnd
  · rw [if_pos hand] at h hc;obtain ⟨a,d,q,ta,td,hs⟩:=two (.inl hand);rw [q] at h hc;by_cases z:(clsF false n any vs L (at0 [a,d])).1≠0
    · rw [if_pos z] at h;exact absurd h z
    · rw [if_neg z] at h hc;rcases List.mem_append.1 hc with hc | hc
      · obtain ⟨r1,L',r2,r3⟩:=zai any n (by omega) vs L a ta (Classical.byContradiction z) c hc;exact ⟨by omega,L',r2,by omega⟩
      · obtain ⟨r1,L',r2,r3⟩:=zai any n (by omega) vs L d td h c hc;exact ⟨by omega,L',r2,by omega⟩
  rw [if_neg hand] at h hc;by_cases hpi:(z01 t 131).1=nPi
  · rw [if_pos hpi] at h hc;obtain ⟨a,q,q2,q0⟩:=z1c (by omega) he (.inl hpi);have ma:a∈(z00 t).2:=by rw [q2];simp
    have hs:=zo7 q2;have hb:=zi4 (z0b ma);have hlen:(z01 t 131).1.length=2:=by rw [hpi];rfl
    rw [q] at h hc;obtain ⟨r1,L',r2,r3⟩:=zai any n (by omega) (vs+1) (L.map fun g=>shT 0 1 g 0) (z0g a) (ht.body (by omega) ma) h c hc;have:=gmb_map L;exact ⟨by omega,L',r2,by omega⟩
  rw [if_neg hpi] at h hc
  have more:∀ g d:Tm,TG n d→4+g.bk+d.bk≤t.bk→(clsF false n any vs (L++ [g]) d).1=0→c∈(clsF false n any vs (L++ [g]) d).2→c.2.1.bk≤t.bk∧∃ L',c.2.2=z3k L'∧gms bb L'≤gms bb L+t.bk:=fun g d td hs hd hx=>by
   obtain ⟨r1,L',r2,r3⟩:=zai any n (by omega) vs (L++ [g]) d td hd c hx;rw [z84,gms,gms,ze] at r3;have e:bb 6 []+bb 0 nAnd=3:=rfl;exact ⟨by omega,L',r2,by omega⟩
  by_cases himp:(z01 t 131).1=nImp
  · rw [if_pos himp] at h hc;obtain ⟨a,d,q,ta,td,hs⟩:=two (.inr (.inr (.inl himp)));have hlen:(z01 t 131).1.length=2:=by rw [himp];rfl
    rw [q] at h hc;by_cases z:z05 false n (at0 [a,d])≠0
    · rw [if_pos z] at h;exact absurd h z
    · rw [if_neg z] at h hc;exact more a d td (by omega) h hc
  rw [if_neg himp] at h hc;by_cases hif:(z01 t 131).1=nIf
  · rw [if_pos hif] at h hc;obtain ⟨a,d,q,ta,td,hs⟩:=two (.inr (.inr (.inr hif)));have hlen:(z01 t 131).1.length=2:=by rw [hif];rfl
    rw [q] at h hc;by_cases z:z05 false n (at1 [a,d])≠0
    · rw [if_pos z] at h;exact absurd h z
    · rw [if_neg z] at h hc;exact more d a ta (by omega) h hc
  rw [if_neg hif] at h;cases h
theorem fold_bk (L:List Tm){W:Nat}(h5:5≤W)(h:gms bb L≤W):(z3k L).bk≤W:=by
 cases L with
 | nil=>exact h5
 | cons x L=>have:=zpf bb (x::L) (by simp);rw [ze] at this;omega
def PI (x:In1):Prop:=(x.t.bk≤B∧Tm.bks x.l≤B∧x.c.length≤B∧zCs x.c)∧bd 2305843009213693952 x.t∧(∀ u∈x.l,bd 2305843009213693952 u)∧nbCs x.c
theorem bd_no (M:Int):bd M noT0:=⟨fun e=>absurd e (by show¬(0:Int)=3;omega),trivial⟩
theorem PI.plain (k a:Int):PI (mkI k a):=⟨⟨by show 1≤B;simp only [B];omega,by show 0≤B;omega,by show 0≤B;omega,by show zCs [];rw [zCs];trivial⟩,bd_no _,(fun u hu=>nomatch hu),by show nbCs [];rw [nbCs];trivial⟩
theorem PI.term (k a:Int){t:Tm}(h:t.bk≤B)(hb:bd 2305843009213693952 t):PI (.mk k a t [] []):=⟨⟨h,by show 0≤B;omega,by show 0≤B;omega,by show zCs [];rw [zCs];trivial⟩,hb,(fun u hu=>nomatch hu),by show nbCs [];rw [nbCs];trivial⟩
theorem PI.row (k a:Int){l:List Tm}(h:Tm.bks l≤B)(hb:∀ u∈l,bd 2305843009213693952 u):PI (.mk k a noT0 l []):=⟨⟨by show 1≤B;simp only [B];omega,h,by show 0≤B;omega,by show zCs [];rw [zCs];trivial⟩,bd_no _,hb,by show nbCs [];rw [nbCs];trivial⟩
theorem zj7:∀ {l:List In1},(∀ x∈l,PI x)→nbIs l
 | [],_=>by rw [nbIs];trivial
 | .mk k a t q c::r,h=>by rw [nbIs];exact ⟨(h _ (List.mem_cons_self ..)).2,zj7 fun x hx=>h x (List.mem_cons_of_mem _ hx)⟩
theorem zqg:∀ {l:List Cd},(∀ d∈l,nbC d)→nbCs l
 | [],_=>by rw [nbCs];trivial
 | c::r,h=>by rw [nbCs];exact ⟨h _ (List.mem_cons_self ..),zqg fun x hx=>h x (List.mem_cons_of_mem _ hx)⟩
theorem zke {M:Int}{t:Tm}(h:bd M t):∀ u∈(z00 t).2,bd M u:=fun u hu=>by
 obtain ⟨s,n,x,y,r,rfl,e,_⟩:=z54 (t:=t) (fun e=>by rw [e] at hu;cases hu);rw [e] at hu;exact z3z (bd_l h) (List.mem_cons_of_mem _ hu)
theorem zkq:∀ (l:List Tm) (i:Nat) (x:In1),x∈argI i l→∃ k a t,x= .mk k a t [] []∧t∈l
 | [],_,x,h=>by cases h
 | t::l,i,x,h=>by
  rw [argI] at h;rcases List.mem_cons.1 h with rfl | h
  · exact ⟨_,_,t,rfl,by simp⟩
  · obtain ⟨k,a,u,e,hu⟩:=zkq l (i+1) x h;exact ⟨k,a,u,e,List.mem_cons_of_mem _ hu⟩
theorem finI_mem {l:List In1}{x:In1}(h:x∈finI l):x∈l∨x=mkI 4 0:=by
 unfold finI at h;split at h
 · exact .inl h
 · rcases List.mem_append.1 h with h | h
   · exact .inl h
   · exact .inr (by simpa using h)
theorem finI_len (l:List In1):(finI l).length≤l.length+1:=by
 unfold finI;split
 · omega
 · rw [List.length_append];simp
theorem code_z {nm:List UInt8}{ar fr vs sl:Int}{l:List In1}(hn:nm.length≤B)(hl:l.length≤B)(h:∀ x∈l,PI x):zC (.mk nm ar fr vs sl l)∧nbC (.mk nm ar fr vs sl l):=by
 rw [zC,nbC];exact ⟨⟨hn,hl,zrc fun x hx=>(h x hx).1⟩,zj7 h⟩
theorem comp_z {n:Nat}(hn:n≤10000){c:Cl}{fr:Int}(hk:OKc n c fr)(h1:c.2.1.bk≤1000000000)(hb:∀ x∈(bodC n true (openG (z06 c.1.toNat fr) c.2.2) (fr+c.1) (z00 (openG (z06 c.1.toNat fr) c.2.1)).2.length).2,PI x):
  zC (z2p (bodC n) c fr)∧nbC (z2p (bodC n) c fr):=by
 obtain ⟨⟨v0,v1⟩,⟨f0,f1⟩,hT,hG,hw⟩:=hk;have hsq:=sq_b hn;have hR:VR (z06 c.1.toNat fr):=z4x f0 (by omega) (by omega);obtain ⟨t1,_⟩:=TG.open (by omega) _ hR.2 _ hT;obtain ⟨g1,w1⟩:=GG.open (by omega) hR.2 hG;have hs:=zkn (openG (z06 c.1.toNat fr) c.2.1);have ho:=op_bk (z06 c.1.toNat fr) c.2.1;have hnm:=z6v (z00 (openG (z06 c.1.toNat fr) c.2.1)).1;have hsl:=(z9r (openG (z06 c.1.toNat fr) c.2.1)).2.2;have hz:=t1.2.1;have bb:=z4i n hn true (openG (z06 c.1.toNat fr) c.2.2) (fr+c.1) (z00 (openG (z06 c.1.toNat fr) c.2.1)).2.length (by omega) g1 (by omega) (by omega);have hfl:=finI_len (argI 0 (z00 (openG (z06 c.1.toNat fr) c.2.1)).2++(bodC n true (openG (z06 c.1.toNat fr) c.2.2) (fr+c.1) (z00 (openG (z06 c.1.toNat fr) c.2.1)).2.length).2);rw [List.length_append,z9n] at hfl;refine code_z (by simp only [B];omega) (by simp only [B];omega) (fun x hx=> ?_);rcases finI_mem hx with hx | rfl
 · rcases List.mem_append.1 hx with hx | hx
   · obtain ⟨k,a,t,rfl,ht⟩:=zkq _ _ _ hx;have:=Tm.bks_mem ht;exact PI.term _ _ (by simp only [B];omega) (zke (z46 (by omega) _ t1.2.2) t ht)
   · exact hb x hx
 · exact PI.plain _ _
theorem zf3:∀ (n:Nat),n≤10000→∀ (last:Bool) (t:Tm) (s:Int) (p:Nat),wt t≤n→GG (n*n+n) t→t.bk≤1000000000→0≤s→s+wt t+(n*n:Nat)≤1000000000→∀ x∈(bodC n last t s p).2,PI x
 | 0,_,_,t,_,_,h,_,_,_,_=>by have:=z0u t;omega
 | n+1,hn,last,t,s,p,hw,h,hk,h0,h1=>by
  have hsq:=sq_b (n:=n) (by omega);have hmul:(n+1)*(n+1)=n*n+2*n+1:=by rw [Nat.mul_add,Nat.add_mul];omega
  have hp:=z0u t;have hg0:=h;rw [sq_s] at h;have hbt:bd 2305843009213693952 t:=z46 (by omega) _ h.1.2.2;rw [bodC];by_cases c1:(z00 t).1.s=zfg
  · rw [if_pos c1];intro x hx;cases hx
  rw [if_neg c1];by_cases c2:(z00 t).1.s=zo8
  · rw [if_pos c2];intro x hx;rw [show x=mkI 8 0 by simpa using hx];exact PI.plain _ _
  rw [if_neg c2];by_cases c3:(z00 t).1.s=nCut
  · rw [if_pos c3];intro x hx;rw [show x=mkI 7 0 by simpa using hx];exact PI.plain _ _
  rw [if_neg c3];by_cases c4:(z00 t).1.s=nAnd
  · rw [if_pos c4];obtain ⟨a,c,e,ga,gc,hs⟩:=h.two (.inl c4);obtain ⟨_,hb2⟩:=zl8 e;have ga:=ga.le (m:=n*n+n) (by omega) (by omega) (by omega);have gc:=gc.le (m:=n*n+n) (by omega) (by omega) (by omega);rw [e];have b1:=z4i n (by omega) false a s p (by omega) ga h0 (by omega);intro x hx;rcases List.mem_append.1 (show x∈(bodC n false a s p).2++(bodC n last c (bodC n false a s p).1 (p+(bodC n false a s p).2.length)).2 from hx) with hx | hx
    · exact zf3 n (by omega) false a s p (by omega) ga (by omega) h0 (by omega) x hx
    · exact zf3 n (by omega) last c _ _ (by omega) gc (by omega) (by omega) (by omega) x hx
  rw [if_neg c4];by_cases c5:(z00 t).1.s=nOr
  · rw [if_pos c5];obtain ⟨a,c,e,ga,gc,hs⟩:=h.two (.inr c5);obtain ⟨_,hb2⟩:=zl8 e;have ga:=ga.le (m:=n*n+n) (by omega) (by omega) (by omega);have gc:=gc.le (m:=n*n+n) (by omega) (by omega) (by omega);rw [e,show at0 [a,c]=a from rfl,show at1 [a,c]=c from rfl];have b1:=z4i n (by omega) false a s (p+1) (by omega) ga h0 (by omega);have i1:=zf3 n (by omega) false a s (p+1) (by omega) ga (by omega) h0 (by omega);generalize bodC n false a s (p+1)=r at*;have i2:=zf3 n (by omega) false c r.1 (p+1+r.2.length+1) (by omega) gc (by omega) (by omega) (by omega);intro x hx;unfold bodO at hx;rcases List.mem_cons.1 hx with rfl | hx
    · exact PI.plain _ _
    rcases List.mem_append.1 hx with hx | hx
    · exact i1 x hx
    rcases List.mem_cons.1 hx with rfl | hx
    · exact PI.plain _ _
    · exact i2 x hx
  rw [if_neg c5];by_cases c6:(z00 t).1.s=nPi
  · rw [if_pos c6];obtain ⟨a,e,ta,ga,hs⟩:=h.one (by omega) (.inl c6);rw [e,show at0 [a]=a from rfl];have hb2:=zo7 e;have hb3:=zi4 ta.1;have hb4:=suV_bk s (z0g a);have hb5:=z6v (z00 t).1;rw [c6] at hb5;have hb5:3≤(z00 t).1.bk:=hb5;have w2:=z55 s (z0g a);have g2:=(ga.suV (v:=s) (by omega) h0 (by omega)).le (m:=n*n+n) (by omega) (by omega) (by omega);have i1:=zf3 n (by omega) false (suT 0 (vN4 s) (z0g a) 0) (s+1) (p+1) (by omega) g2 (by omega) (by omega) (by omega);intro x hx;unfold bodP at hx;rcases List.mem_cons.1 hx with rfl | hx
    · exact PI.plain _ _
    rcases List.mem_append.1 hx with hx | hx
    · exact i1 x hx
    · rw [show x=mkI 12 0 by simpa using hx];exact PI.plain _ _
  rw [if_neg c6];by_cases c7:(z00 t).1.s=nSig
  · rw [if_pos c7];obtain ⟨a,e,ta,ga,hs⟩:=h.one (by omega) (.inr c7);rw [e,show at0 [a]=a from rfl];have hb2:=zo7 e;have hb3:=zi4 ta.1;have hb4:=suV_bk s (z0g a);have hb5:=z6v (z00 t).1;rw [c7] at hb5;have hb5:6≤(z00 t).1.bk:=hb5;have w2:=z55 s (z0g a);have g2:=(ga.suV (v:=s) (by omega) h0 (by omega)).le (m:=n*n+n) (by omega) (by omega) (by omega);have i1:=zf3 n (by omega) last (suT 0 (vN4 s) (z0g a) 0) (s+1) (p+1) (by omega) g2 (by omega) (by omega) (by omega);intro x hx;unfold bodS at hx;rcases List.mem_cons.1 hx with rfl | hx
    · exact PI.plain _ _
    · exact i1 x hx
  rw [if_neg c7];by_cases c8:(z00 t).1.s=nImp
  · rw [if_pos c8];obtain ⟨a,c,e,ta,wa,hc,gc,hs,hkk⟩:=zdw hn hw hg0 c8 s h0 (by omega);rw [e,show at0 [a,c]=a from rfl,show at1 [a,c]=c from rfl];obtain ⟨_,hb2⟩:=zl8 e;have hb5:=z6v (z00 t).1;rw [c8] at hb5;have hb5:3≤(z00 t).1.bk:=hb5;have hb6:=z6v a;have hb7:=z6v c;have i1:=zf3 n (by omega) false c s (p+1) (by omega) gc (by omega) h0 (by omega);have hV:z0w n true a=(clsF false n true 0 [] a).2:=by unfold z0w;rw [if_pos hc]
    have hcs:∀ d∈(z0w n true a).map (fun c=>z2p (bodC n) c s),zC d∧nbC d:=fun d hd=>by
     obtain ⟨x,hx,rfl⟩:=List.mem_map.1 hd;rw [hV] at hx;obtain ⟨o1,o2,o3⟩:=hkk x hx;obtain ⟨r1,L',r2,r3⟩:=zai true n (by omega) 0 [] a ta hc x hx;rw [gms] at r3;obtain ⟨⟨v0,v1⟩,⟨f0,f1⟩,hT,hG,hw2⟩:=o1;have hR:VR (z06 x.1.toNat s):=z4x f0 (by omega) (by omega);obtain ⟨g1,w1⟩:=GG.open (by omega) hR.2 hG;have ob:=op_bk (z06 x.1.toNat s) x.2.2;have hf:x.2.2.bk≤1000000000:=by rw [r2];exact fold_bk L' (by omega) (by omega)
     exact comp_z (by omega) ⟨⟨v0,v1⟩,⟨f0,f1⟩,hT,hG,hw2⟩ (by omega) (zf3 n (by omega) true _ _ _ (by omega) g1 (by omega) (by omega) (by omega))
    have hlen:=z47 false n true 0 [] a;have hz:=ta.2.1;intro x hx;unfold bodI at hx;rcases List.mem_cons.1 hx with rfl | hx
    · exact ⟨⟨by show 1≤B;simp only [B];omega,by show 0≤B;omega,by show ((z0w n true a).map (fun c=>z2p (bodC n) c s)).length≤B;rw [List.length_map,hV];simp only [B];omega,zpg fun d hd=>(hcs d hd).1⟩,bd_no _,(fun u hu=>nomatch hu),zqg fun d hd=>(hcs d hd).2⟩
    rcases List.mem_append.1 hx with hx | hx
    · exact i1 x hx
    · rw [show x=mkI 15 0 by simpa using hx];exact PI.plain _ _
  rw [if_neg c8];have hs:=zkn t;by_cases c9:(z00 t).1.s=nEq
  · rw [if_pos c9];intro x hx;rw [show x= .mk 5 0 noT0 (z00 t).2 [] by simpa using hx];exact PI.row _ _ (by simp only [B];omega) (zke hbt)
  rw [if_neg c9];by_cases c10:numB (z00 t).1.s=true
  · rw [if_pos c10];intro x hx;rw [show x= .mk 6 0 t [] [] by simpa using hx];exact PI.term _ _ (by simp only [B];omega) hbt
  rw [if_neg c10];intro x hx;rw [show x= .mk (if last=true then 3 else 2) 0 t [] [] by simpa using hx];exact PI.term _ _ (by simp only [B];omega) hbt
end Go.AM

set_option maxRecDepth 100000
open Go Go.Proofs
namespace Go.AM
abbrev N0:Nat:=2000
abbrev cd0:Cd:= .mk [] 0 0 0 0 []
abbrev aCE (x:Cd×Int):TV:= .tup [(true,cCd x.1),(false,[.a (.fz (.int .i64 x.2))])]
def z6f (ok:Bool)(c:Cd):Cd×Int:=bif ok&&vC c then (c,0) else (cd0,240)
def z2u (c:Cl):Cd×Int:=z6f (z3l N0 [c] z1h 0) (zec N0 c)
def TS (t:Tm):Prop:=t.bk≤100000000∧wt t≤N0∧bd 1000000 t
theorem TS.tb {t:Tm}(h:TS t):TB N0 t:=⟨by have:=h.1;simp only [B];omega,by have:=h.2.1;have:=zgl t;simp only [N0] at*;omega,z46 (by simp only [N0];omega) _ h.2.2,h.2.1⟩
theorem TS.tg {t:Tm}(h:TS t)(hv:validB t=true)(M:Nat)(hM:M≤1000000000):TG M t:=⟨hv,h.tb.2.1,z46 (by omega) _ h.2.2⟩
theorem TS.gg {t:Tm}(h:TS t)(hv:validB t=true)(hg:z05 false N0 t=0):GG (N0*N0+N0) t:=
 ⟨h.tg hv _ (by decide),by have:=h.2.1;simp only [N0] at*;omega,by rw [zb9 false (m:=N0) h.2.1 _ (by decide) (by decide) (h.tg hv _ (by decide))];exact hg⟩
theorem zje:TS z1h:=⟨by show 5≤_;omega,by show 4≤2000;omega,⟨fun e=>absurd e (by show¬(0:Int)=3;omega),trivial⟩⟩
theorem zjx {c:Cl}(h1:TS c.2.1)(h2:TS c.2.2)(h:z3l N0 [c] z1h 0=true):OKc N0 c 0∧clB N0 c=true:=by
 unfold z3l at h;rw [Bool.and_eq_true,Bool.and_eq_true,Bool.and_eq_true,List.all_cons,List.all_nil,Bool.and_true,Bool.and_eq_true] at h;have hc:=(zqc _ _).1 h.2.2.2;obtain ⟨⟨v0,v1⟩,⟨w1,_⟩,⟨w2,_⟩,_,hg⟩:=hc;exact ⟨⟨⟨v0,by omega⟩,⟨Int.le_refl 0,by simp only [N0];omega⟩,h1.tg w1 _ (by decide),h2.gg w2 hg,h2.2.1⟩,h.2.2.2⟩
theorem zp0 {c:Cl}(h1:TS c.2.1)(h2:TS c.2.2)(h:OKc N0 c 0):zC (zec N0 c)∧nbC (zec N0 c):=by
 have hk:=h;obtain ⟨⟨v0,v1⟩,⟨f0,f1⟩,hT,hG,hw⟩:=h;have hR:VR (z06 c.1.toNat 0):=z4x f0 (by omega) (by omega);obtain ⟨g1,w1⟩:=GG.open (by decide) hR.2 hG;have ob:=op_bk (z06 c.1.toNat 0) c.2.2;have:=h1.1;have:=h2.1;exact comp_z (by decide) hk (by omega) (zf3 N0 (by decide) true _ _ _ (by omega) g1 (by omega) (by omega) (by have:(N0*N0:Nat)=4000000:=rfl;simp only [N0] at*;omega))
theorem leCd0:TV.Le (.tup [(true,[.a (.fz (.str [])), .a (.fz (.int .i64 0)), .a (.fz (.int .i64 0)), .a (.fz (.int .i64 0)), .a (.fz (.int .i64 0)), .a (.fz .N)]),(false,[.a (.fz (.int .i64 240))])]) (aCE (cd0,240)):=
 zph ⟨⟨rfl, .refl _, .refl _, .refl _, .refl _, .refl _, .a _ _ (.fz _ _ (.N 8)),trivial⟩,lwR _,trivial⟩
theorem chk_no {ok:Bool}{c:Cd}(h:(ok&&vC c)=false):z6f ok c=(cd0,240):=by unfold z6f;rw [h];rfl
theorem chk_yes {c:Cd}(h:vC c=true):z6f true c=(c,0):=by unfold z6f;rw [h];rfl
theorem c_pchk (c:Cd)(hz:zC c)(hn:nbC c):AC Tryz.prog 22 [aC c] [] (aCE (z6f true c)) []:=by
 have h:=zft c hz hn;refine AC.vc hP sh lv22 (Nat.le_refl _) (by simp) (by simp) (Eq.mpr (v22 c.nm c.ar c.fr c.vs c.sl (FIs c.ins) ..) ?_);refine ⟨_,h,z03 (fun q=> ?_) (fun q=> ?_)⟩
 · rw [chk_no (by rw [Bool.true_and];simpa using q)];exact ⟨leCd0,rfl⟩
 · rw [chk_yes (by simpa using q)];exact ⟨.refl _,rfl⟩
theorem z5p (c:Cl)(h1:TS c.2.1)(h2:TS c.2.2):AC Tryz.prog 9 [aCl c] [] (aCE (z2u c)) []:=by
 have cr:=(c_sright N0 (by decide) [c] z1h 0 zje.tb (by show 1≤B;simp only [B];omega) (fun d hd=>by rw [show d=c by simpa using hd];exact ⟨h1.tb,h2.tb⟩)).args (args:=[aCls [c], .agg [.a (.fz (.int .i64 0)), .a (.fz (.str zfg)), .a (.fz (.int .i64 0)), .a (.fz .N)],ci 0]) ⟨.refl _,leT z3i, .refl _,trivial⟩;refine AC.vc hP sh lv9 (Nat.le_refl _) (by simp) (by simp) (Eq.mpr (v9 ..) ?_);refine ⟨⟨rfl,Nat.le_refl _⟩,_,cr,rfl,z03 (fun q=> ?_) (fun q=> ?_)⟩
 · unfold z2u;rw [chk_no (by rw [show z3l N0 [c] z1h 0=false by simpa using q];rfl)];exact ⟨leCd0,rfl⟩
 · have hr:z3l N0 [c] z1h 0=true:=by simpa using q
   obtain ⟨hk,_⟩:=zjx h1 h2 hr;obtain ⟨hz,hn⟩:=zp0 h1 h2 hk;unfold z2u;rw [hr];exact ⟨zec N0 c,zj4 (by decide) (bd_all N0 (by decide)) c 0 hk,_,c_pchk _ hz hn, .refl _,rfl⟩
end Go.AM

set_option maxRecDepth 100000
open Go Go.Proofs
namespace Go.AM
mutual
theorem wt_sz:∀ t:Tm,wt t≤4*t.sz
 | .mk k s n l=>by
  have:=zs1 l;unfold wt;rw [Tm.sz,ms];have h:wb k s≤4:=by unfold wb;split<;>omega
  omega
theorem zs1:∀ l:List Tm,mss wb l≤4*Tm.szs l
 | []=>Nat.le_refl _
 | t::l=>by have:=wt_sz t;have:=zs1 l;rw [Tm.szs,mss];unfold wt at*;omega
end
def zib (c:Cl):Bool:=zc2 c.2.1 80||(zc2 c.2.2 80||(!near 1000 c.2.1||(!near 1000 c.2.2||decide (c.1>5000))))
theorem zk1 (c:Cl)(h1:c.2.1.sz≤B)(h2:c.2.2.sz≤B):AC Tryz.prog 8 [aCl c] [] (cb (zib c)) []:=by
 have k1:=zns c.2.1 h1 80 (by omega) (by omega);have k2:=zns c.2.2 h2 80 (by omega) (by omega);have k3:=c_near 1000 (by omega) (by omega) c.2.1 h1;have k4:=c_near 1000 (by omega) (by omega) c.2.2 h2;unfold zib;refine AC.vc hP sh lv8 (Nat.le_refl _) (by simp) (by simp) (Eq.mpr (v8 ..) ?_);refine ⟨_,k1,_,k2,_,k3,_,k4,z03 (fun q=>z04 (by rw [q];rfl)) (fun q1=>z03 (fun q=>z04 (by rw [q1,q];rfl)) (fun q2=>z03 (fun q=>z04 (by rw [q1,q2,q];rfl)) (fun q3=>z03 (fun q=>z04 (by rw [q1,q2,q3,q];rfl)) (fun q4=>z04 (by rw [q1,q2,q3,q4];rfl)))))⟩
abbrev exHd:Tm:= .mk 6 [] 0 [.mk 0 [112] 0 [],bd0]
abbrev exQx:Tm:= .mk 6 [] 0 [.mk 0 [113] 0 [],bd0]
abbrev exBo:Tm:= .mk 6 [] 0 [andT,exQx, .mk 0 [114] 0 []]
abbrev exCl:Cl:=(1,exHd,exBo)
abbrev exCo:Cd:= .mk [112] 1 0 1 1 [.mk 0 0 (vN4 0) [] [], .mk 2 0 (.mk 6 [] 0 [.mk 0 [113] 0 [],vN4 0]) [] [], .mk 3 0 (.mk 0 [114] 0 []) [] []]
theorem ex_run:z2u exCl=(exCo,0):=by kernel_rfl
theorem zq {M:Int}{t:Tm}(h:near M t=true):bd M t:=zix t h
theorem exS:TS exHd∧TS exBo:=⟨⟨by decide,by decide,zq (by decide)⟩,⟨by decide,by decide,zq (by decide)⟩⟩
theorem zpe:AC Tryz.prog 7 [] [] (cb true) []:=by
 have k1:=(z4z (.mk 0 [112] 0 []) [bd0] (by decide)).args (args:=[.agg [.a (.fz (.int .i64 0)), .a (.fz (.str [112])), .a (.fz (.int .i64 0)), .a (.fz .N)], .c (.a (.fz (.sl false 4 [[.int .i64 3, .str [], .int .i64 0, .N]])))]) ⟨leT z3i, .c _ _ (.a _ _ (.fz _ _ (zgs (l:=[bd0]) rfl (fun i r u hr hu=>by
  match i with
  | 0=>simp at hr hu;subst hr;subst hu;exact leFT z3i
  | i+1=>simp at hr)))),trivial⟩
 have k2:=(z4z (.mk 0 [113] 0 []) [bd0] (by decide)).args (args:=[.agg [.a (.fz (.int .i64 0)), .a (.fz (.str [113])), .a (.fz (.int .i64 0)), .a (.fz .N)], .c (.a (.fz (.sl false 4 [[.int .i64 3, .str [], .int .i64 0, .N]])))]) ⟨leT z3i, .c _ _ (.a _ _ (.fz _ _ (zgs (l:=[bd0]) rfl (fun i r u hr hu=>by
  match i with
  | 0=>simp at hr hu;subst hr;subst hu;exact leFT z3i
  | i+1=>simp at hr)))),trivial⟩
 have k3:=(z4z andT [exQx, .mk 0 [114] 0 []] (by decide)).args (args:=[.agg [.a (.fz (.int .i64 0)), .a (.fz (.str nAnd)), .a (.fz (.int .i64 0)), .a (.fz .N)], .c (.a (.fz (.sl false 4 [FT4 exQx,[.int .i64 0, .str [114], .int .i64 0, .N]])))]) ⟨leT z3i, .c _ _ (.a _ _ (.fz _ _ (zgs (l:=[exQx, .mk 0 [114] 0 []]) rfl (fun i r u hr hu=>by
  match i with
  | 0=>simp at hr hu;subst hr;subst hu;exact LeR.refl _
  | 1=>simp at hr hu;subst hr;subst hu;exact leFT z3i
  | i+2=>simp at hr)))),trivial⟩
 have k4:=z5p exCl exS.1 exS.2;rw [ex_run] at k4
 have k5:=zft exCo (zC_of _ (by decide)) (by
  rw [nbC]
  exact zj7 fun x hx=>by
   have e:=List.mem_cons.1 hx;rcases e with rfl | hx
   · exact PI.term _ _ (by decide) (zq (by decide))
   rcases List.mem_cons.1 hx with rfl | hx
   · exact PI.term _ _ (by decide) (zq (by decide))
   rw [show x=_ by simpa using hx];exact PI.term _ _ (by decide) (zq (by decide)))
 rw [show vC exCo=true by kernel_rfl] at k5;refine AC.vc hP sh lv7 (Nat.le_refl _) (by simp) (by simp) (Eq.mpr (v7 ..) ?_);refine ⟨⟨rfl,by decide⟩,exHd,k1,⟨rfl,by decide⟩,exQx,k2,⟨rfl,by decide⟩,exBo,k3,(exCo,0),k4,rfl,br_f (by decide) ⟨true,k5,br_t rfl (br_t rfl (br_t rfl (br_t rfl (br_t rfl (br_t rfl ?_)))))⟩⟩;have hl:(((FIs exCo.ins).length:Nat):Int)=3:=rfl;refine ⟨⟨rfl,by omega,by rw [hl];omega,rfl⟩,br_t (by decide) ⟨⟨rfl,by omega,by rw [hl];omega,rfl⟩,br_t (by decide) ⟨⟨rfl,by omega,by rw [hl];omega,rfl⟩,br_t (by decide) ⟨⟨rfl,by omega,by rw [hl];omega,rfl⟩,z04 (by decide)⟩⟩⟩⟩
theorem z_cd0:zC cd0∧nbC cd0:=code_z (by show 0≤B;omega) (by show 0≤B;omega) (fun x hx=>by cases hx)
theorem chk_z {ok:Bool}{c:Cd}(h:ok=true→zC c∧nbC c):zC (z6f ok c).1∧nbC (z6f ok c).1:=by
 unfold z6f;cases hv:ok&&vC c with
 | false=>exact z_cd0
 | true=>exact h (Bool.and_eq_true_iff.1 hv).1
theorem zk5 {c:Cl}(h1:TS c.2.1)(h2:TS c.2.2):zC (z2u c).1∧nbC (z2u c).1:=chk_z fun h=>zp0 h1 h2 (zjx h1 h2 h).1
end Go.AM

set_option maxRecDepth 100000
open Go Go.Proofs
namespace Go.AM
mutual
def cl (v n:Int):Tm→Int→Prop
 | .mk k _ m l,d=>((k=3→m<d+v)∧k≠1∧(k=4→m<n))∧cls v n l (d+if (k==5)=true then 1 else 0)
def cls (v n:Int):List Tm→Int→Prop
 | [],_=>True
 | t::l,d=>cl v n t d∧cls v n l d
end
theorem zp2 {a b v:Int}:maxI a b≤v↔a≤v∧b≤v:=by unfold maxI;split<;>omega
mutual
theorem zn4 {v n:Int}(hv:0≤v):∀ (t:Tm) (d:Int),okB t=true→(cl v n t d↔unF n t=true∧z4j t d≤v)
 | .mk k s m l,d,ho=>by
  rw [cl,unF,z4j];by_cases hk:k=5∨k=6
  · have hl:okL l=true:=by
     rcases hk with rfl | rfl
     · obtain ⟨x,rfl,hx⟩:=okB5 ho rfl;rw [okL,okL,hx];rfl
     · exact (okB6 ho rfl).choose_spec.choose_spec.choose_spec.2.2
    rw [zon hv l _ hl,if_neg (show¬(k==3)=true by rcases hk with rfl | rfl<;>decide),if_pos (show (k==5||k==6)=true by rcases hk with rfl | rfl<;>rfl)]
    have e1:(k==1||k==4&&decide (m≥n))=false:=by rcases hk with rfl | rfl<;>rfl
    rw [e1,Bool.not_false,Bool.true_and];exact ⟨fun h=>h.2,fun h=>⟨⟨fun e=>by omega,by omega,fun e=>by omega⟩,h⟩⟩
  · have hl:=okB0 ho (fun e=>hk (.inl e)) (fun e=>hk (.inr e));subst hl
    have h56:(k==5||k==6)=false:=by
     have h5:¬k=5:=fun e=>hk (.inl e);have h6:¬k=6:=fun e=>hk (.inr e);simp [h5,h6]
    rw [cls,unL,h56,Bool.and_true];by_cases h3:k=3
    · subst h3;rw [if_pos (show ((3:Int)==3)=true from rfl),zp2];exact ⟨fun h=>⟨rfl,by have:=h.1.1 rfl;omega⟩,fun h=>⟨⟨fun _=>by omega,by omega,fun e=>by omega⟩,trivial⟩⟩
    · rw [if_neg (show¬(k==3)=true by simpa using h3),if_neg (show¬false=true by simp)];by_cases h1:k=1
      · subst h1;exact ⟨fun h=>absurd rfl h.1.2.1,fun h=>by cases h.1⟩
      · by_cases h4:k=4
        · subst h4;refine ⟨fun h=>⟨?_,hv⟩,fun h=>⟨⟨fun e=>by omega,by omega,fun _=> ?_⟩,trivial⟩⟩
          · have:=h.1.2.2 rfl;have e:decide (m≥n)=false:=decide_eq_false (by omega);rw [e];rfl
          · have h:=h.1
            have e:decide (m≥n)=false:=by cases q:decide (m≥n) with
             | false=>rfl
             | true=>rw [q] at h;cases h
            have:=of_decide_eq_false e;omega
        · have e1:(k==1||k==4&&decide (m≥n))=false:=by
           rw [show (k==1)=false by simpa using h1,show (k==4)=false by simpa using h4];rfl
          rw [e1];exact ⟨fun _=>⟨rfl,hv⟩,fun _=>⟨⟨fun e=>absurd e h3,h1,fun e=>absurd e h4⟩,trivial⟩⟩
theorem zon {v n:Int}(hv:0≤v):∀ (l:List Tm) (d:Int),okL l=true→(cls v n l d↔unL n l=true∧z4g l d≤v)
 | [],_,_=>by rw [cls,unL,z4g];exact ⟨fun _=>⟨rfl,hv⟩,fun _=>trivial⟩
 | t::l,d,h=>by
  rw [okL,Bool.and_eq_true] at h;rw [cls,unL,z4g,zp2,zn4 hv t d h.1,zon hv l d h.2,Bool.and_eq_true];exact ⟨fun h=>⟨⟨h.1.1,h.2.1⟩,h.1.2,h.2.2⟩,fun h=>⟨⟨h.1.1,h.2.1⟩,h.1.2,h.2.2⟩⟩
end
theorem cl_and (v n:Int)(x y:Tm)(d:Int):cl v n (andG x y) d↔cl v n x d∧cl v n y d:=by
 rw [cl,cls,cls,cls,cls,cl,cls];rw [show d+(if ((6:Int)==5)=true then 1 else 0)=d from Int.add_zero d]
 exact ⟨fun h=>⟨h.2.2.1,h.2.2.2.1⟩,fun h=>⟨⟨fun e=>by omega,by omega,fun e=>by omega⟩,⟨⟨fun e=>by omega,by omega,fun e=>by omega⟩,trivial⟩,h.1,h.2,trivial⟩⟩
theorem z3m:∀ (n:Nat),n+1≤10000→∀ (last:Bool) (t:Tm) (s:Int) (p:Nat),wt t≤n→GG (n*n+n) t→0≤s→s+wt t+(n*n:Nat)≤1000000000→bodC (n+1) last t s p=bodC n last t s p
 | 0,_,_,t,_,_,h,_,_,_=>by have:=z0u t;omega
 | n+1,hn,last,t,s,p,hw,h,h0,h1=>by
  have hsq:=sq_b (n:=n) (by omega);have hmul:(n+1)*(n+1)=n*n+2*n+1:=by rw [Nat.mul_add,Nat.add_mul];omega
  have hp:=z0u t;have hg0:=h;rw [sq_s] at h
  conv=>lhs;rw [bodC]
  conv=>rhs;rw [bodC]
  by_cases c1:(z00 t).1.s=zfg
  · rw [if_pos c1,if_pos c1]
  rw [if_neg c1,if_neg c1];by_cases c2:(z00 t).1.s=zo8
  · rw [if_pos c2,if_pos c2]
  rw [if_neg c2,if_neg c2];by_cases c3:(z00 t).1.s=nCut
  · rw [if_pos c3,if_pos c3]
  rw [if_neg c3,if_neg c3];by_cases c4:(z00 t).1.s=nAnd
  · rw [if_pos c4,if_pos c4];obtain ⟨a,c,e,ga,gc,hs⟩:=h.two (.inl c4);have ga:=ga.le (m:=n*n+n) (by omega) (by omega) (by omega);have gc:=gc.le (m:=n*n+n) (by omega) (by omega) (by omega);rw [e,show at0 [a,c]=a from rfl,show at1 [a,c]=c from rfl];have b1:=z4i n (by omega) false a s p (by omega) ga h0 (by omega);have i1:=z3m n (by omega) false a s p (by omega) ga h0 (by omega);rw [i1];unfold bodA;rw [z3m n (by omega) last c _ _ (by omega) gc (by omega) (by omega)]
  rw [if_neg c4,if_neg c4];by_cases c5:(z00 t).1.s=nOr
  · rw [if_pos c5,if_pos c5];obtain ⟨a,c,e,ga,gc,hs⟩:=h.two (.inr c5);have ga:=ga.le (m:=n*n+n) (by omega) (by omega) (by omega);have gc:=gc.le (m:=n*n+n) (by omega) (by omega) (by omega);rw [e,show at0 [a,c]=a from rfl,show at1 [a,c]=c from rfl];have b1:=z4i n (by omega) false a s (p+1) (by omega) ga h0 (by omega);have i1:=z3m n (by omega) false a s (p+1) (by omega) ga h0 (by omega);rw [i1];unfold bodO;rw [z3m n (by omega) false c _ _ (by omega) gc (by omega) (by omega)]
  rw [if_neg c5,if_neg c5];by_cases c6:(z00 t).1.s=nPi
  · rw [if_pos c6,if_pos c6];obtain ⟨a,e,ta,ga,hs⟩:=h.one (by omega) (.inl c6);rw [e,show at0 [a]=a from rfl];have w2:=z55 s (z0g a);have g2:=(ga.suV (v:=s) (by omega) h0 (by omega)).le (m:=n*n+n) (by omega) (by omega) (by omega);rw [z3m n (by omega) false _ (s+1) (p+1) (by omega) g2 (by omega) (by omega)]
  rw [if_neg c6,if_neg c6];by_cases c7:(z00 t).1.s=nSig
  · rw [if_pos c7,if_pos c7];obtain ⟨a,e,ta,ga,hs⟩:=h.one (by omega) (.inr c7);rw [e,show at0 [a]=a from rfl];have w2:=z55 s (z0g a);have g2:=(ga.suV (v:=s) (by omega) h0 (by omega)).le (m:=n*n+n) (by omega) (by omega) (by omega);rw [z3m n (by omega) last _ (s+1) (p+1) (by omega) g2 (by omega) (by omega)]
  rw [if_neg c7,if_neg c7];by_cases c8:(z00 t).1.s=nImp
  · rw [if_pos c8,if_pos c8];obtain ⟨a,c,e,ta,wa,hc,gc,hs,hkk⟩:=zdw (by omega) hw hg0 c8 s h0 (by omega);rw [e,show at0 [a,c]=a from rfl,show at1 [a,c]=c from rfl]
    have hV:z0w (n+1) true a=z0w n true a:=by
     unfold z0w;rw [(z73 false n (by omega)).2 true 0 [] a wa ta]
    have hV2:z0w n true a=(clsF false n true 0 [] a).2:=by unfold z0w;rw [if_pos hc]
    rw [hV,z3m n (by omega) false c s (p+1) (by omega) gc h0 (by omega)];congr 1;refine List.map_congr_left fun x hx=> ?_;rw [hV2] at hx;obtain ⟨o1,o2,o3⟩:=hkk x hx;obtain ⟨⟨v0,v1⟩,⟨f0,f1⟩,hT,hG,hw2⟩:=o1;have hR:VR (z06 x.1.toNat s):=z4x f0 (by omega) (by omega);obtain ⟨g1,w1⟩:=GG.open (by omega) hR.2 hG;unfold z2p;rw [z3m n (by omega) true _ _ _ (by omega) g1 (by omega) (by omega)]
  rw [if_neg c8,if_neg c8]
theorem zom {m:Nat}:∀ (n:Nat),m≤n→n≤10000→∀ (last:Bool) (t:Tm) (s:Int) (p:Nat),wt t≤m→GG (n*n+n) t→0≤s→s+wt t+(n*n:Nat)≤1000000000→bodC n last t s p=bodC m last t s p:=by
 intro n
 induction n with
 | zero=>intro h _ last t s p hw;have:=z0u t;omega
 | succ n ih=>
  intro h hn last t s p hw hg h0 h1;by_cases e:m=n+1
  · rw [e]
  · have hsq:=sq_b (n:=n) (by omega);have hmul:(n+1)*(n+1)=n*n+2*n+1:=by rw [Nat.mul_add,Nat.add_mul];omega
    have g2:=hg.le (m:=n*n+n) (by omega) (by omega) (by omega);rw [z3m n (by omega) last t s p (by omega) g2 h0 (by omega)];exact ih (by omega) (by omega) last t s p hw g2 h0 (by omega)
end Go.AM

set_option maxRecDepth 100000
open Go Go.Proofs
namespace Go.AM
def RW3 (v:Int)(x:Tm):Prop:=cl v 0 x 0∧z05 false N0 x=0
def HW3 (c:Cl):Prop:=(0≤c.1∧c.1≤4096)∧(validB c.2.1=true∧unF 0 c.2.1=true∧z4j c.2.1 0≤c.1)∧((z00 c.2.1).1.k=0∧logB (z00 c.2.1).1.s=false)
theorem znn {c:Cl}(hv:validB c.2.2=true):clB N0 c=true↔HW3 c∧RW3 c.1 c.2.2:=by
 rw [zqc];unfold HW3 RW3;constructor
 · rintro ⟨h1,h2,⟨_,h3,h4⟩,h5,h6⟩;exact ⟨⟨h1,h2,h5⟩,(zn4 h1.1 _ _ (z0f _ hv)).2 ⟨h3,h4⟩,h6⟩
 · rintro ⟨⟨h1,h2,h5⟩,h3,h6⟩;exact ⟨h1,h2,⟨hv,(zn4 h1.1 _ _ (z0f _ hv)).1 h3⟩,h5,h6⟩
theorem zbq {v:Int}{x y:Tm}(hx:validB x=true)(hy:validB y=true)(tx:TS x)(ty:TS y)(hw:5+wt x+wt y≤N0):RW3 v (andG x y)↔RW3 v x∧RW3 v y:=by
 unfold RW3;rw [cl_and];have ex:z05 false N0 x=z05 false 1999 x:=zb9 false (by simp only [N0] at hw;omega) N0 (by decide) (by decide) (tx.tg hx _ (by decide));have ey:z05 false N0 y=z05 false 1999 y:=zb9 false (by simp only [N0] at hw;omega) N0 (by decide) (by decide) (ty.tg hy _ (by decide));have ea:z05 false N0 (andG x y)=if z05 false 1999 x≠0 then z05 false 1999 x else z05 false 1999 y:=zl4 false 1999 hx hy
 rw [ex,ey,ea];constructor
 · rintro ⟨⟨h1,h2⟩,h3⟩;by_cases z:z05 false 1999 x≠0
   · rw [if_pos z] at h3;exact absurd h3 z
   · rw [if_neg z] at h3;exact ⟨⟨h1,Classical.byContradiction z⟩,h2,h3⟩
 · rintro ⟨⟨h1,h2⟩,h3,h4⟩;exact ⟨⟨h1,h3⟩,by rw [if_neg (fun p=>p h2)];exact h4⟩
theorem zak (c:Cl):z3l N0 [c] z1h 0=clB N0 c:=by
 unfold z3l;rw [List.all_cons,List.all_nil,Bool.and_true];have e:wiB z1h 0 0=true:=by kernel_rfl
 have e2:(z05 false N0 z1h==0)=true:=by kernel_rfl
 rw [e,e2];rfl
theorem zau (vs:List Int)(x y:Tm):openG vs (andG x y)=andG (openG vs x) (openG vs y):=by
 unfold openG;rw [z1o _ (fun u d _ h6=>z8o vs u d h6) 6 [] 0 [andT,x,y] 0 rfl];rfl
theorem op_true (vs:List Int):openG vs z1h=z1h:=rfl
def TL (t:Tm):Prop:=t.bk≤2097152∧wt t≤320∧bd 1000 t
theorem TL.ts {t:Tm}(h:TL t):TS t:=⟨by have:=h.1;omega,by have:=h.2.1;simp only [N0];omega,z46 (by omega) _ h.2.2⟩
theorem TL.of {t:Tm}(hb:t.bk≤2097152)(h1:zc2 t 80=false)(h2:near 1000 t=true):TL t:=by
 have hz:=large_sz h1;have:=wt_sz t;exact ⟨hb,by omega,zix t h2⟩
theorem zqd (x y:Tm):(andG x y).bk=3+x.bk+y.bk:=by simp only [andG,Tm.bk,Tm.bks,List.length_cons,List.length_nil];omega
theorem TS.and {x y:Tm}(hx:TS x)(hy:TS y)(h1:x.bk+y.bk≤90000000)(h2:5+wt x+wt y≤N0):TS (andG x y):=
 ⟨by rw [zqd];omega,by rw [z8y];exact h2,zr7 hx.2.2 hy.2.2⟩
theorem and_name (x y:Tm)(hx:validB x=true)(hy:validB y=true):(z00 (andG x y)).1.s=nAnd∧(z00 (andG x y)).2=[x,y]:=by rw [zhf hx hy];exact ⟨rfl,rfl⟩
theorem zah {n:Nat}(last:Bool){x y:Tm}(hx:validB x=true)(hy:validB y=true)(s:Int)(p:Nat):bodC (n+1) last (andG x y) s p=bodA (bodC n false x s p) (bodC n last y) p:=by
 obtain ⟨e1,e2⟩:=and_name x y hx hy;rw [bodC,e1,e2,if_neg (by decide),if_neg (by decide),if_neg (by decide),if_pos rfl];rfl
theorem bod_true {n:Nat}(last:Bool)(s:Int)(p:Nat):bodC (n+1) last z1h s p=(s,[]):=by
 rw [bodC];rfl
theorem zfy {c d:Cl}(hr:z3l N0 [c] z1h 0=z3l N0 [d] z1h 0)(h:z3l N0 [c] z1h 0=true→zec N0 c=zec N0 d):z2u c=z2u d:=by
 unfold z2u;rw [←hr];cases q:z3l N0 [c] z1h 0 with
 | false=>unfold z6f;rfl
 | true=>rw [h q]
theorem znk {N:Nat}{v:Int}{hh x y:Tm}(h:∀ p,bodC N true (openG (z06 v.toNat 0) x) v p=bodC N true (openG (z06 v.toNat 0) y) v p):zec N (v,hh,x)=zec N (v,hh,y):=by
 unfold zec z2p;show Cd.mk _ _ _ _ (bodC N true (openG (z06 v.toNat 0) x) (0+v) _).1 (finI (_++(bodC N true (openG (z06 v.toNat 0) x) (0+v) _).2))=Cd.mk _ _ _ _ (bodC N true (openG (z06 v.toNat 0) y) (0+v) _).1 (finI (_++(bodC N true (openG (z06 v.toNat 0) y) (0+v) _).2));rw [Int.zero_add,h]
structure OG (N:Nat)(vs:List Int)(x:Tm):Prop where
 v:validB (openG vs x)=true
 w:wt (openG vs x)≤wt x
 g:GG (N*N+N) (openG vs x)
theorem og_of {vs:List Int}(hR:VR vs){x:Tm}(tx:TS x)(hx:validB x=true)(hg:z05 false N0 x=0):OG N0 vs x:=by
 obtain ⟨g1,w1⟩:=GG.open (by decide) hR.2 (tx.gg hx hg);exact ⟨g1.1.1,w1,g1⟩
theorem zev {N:Nat}(hN:N≤3000){vs:List Int}{x:Tm}(h:OG N vs x){m:Nat}(hm:wt x≤m)(hm2:m≤N)(last:Bool)(s:Int)(p:Nat)(h0:0≤s)(h1:s≤1000000):bodC m last (openG vs x) s p=bodC N last (openG vs x) s p:=by
 have e:N*N≤9000000:=Nat.le_trans (Nat.mul_le_mul hN hN) (by omega);have:=h.w;exact (zom N hm2 (by omega) last _ s p (by omega) h.g h0 (by omega)).symm
theorem zq9 {N n:Nat}(hn:N=n+2)(h300:400≤n)(hN:N≤3000){v:Int}{a b c:Tm}(h0:0≤v)(h1:v≤4096)(ta:TL a)(tb:TL b)(tc:TL c){vs:List Int}(ha:OG N vs a)(hb:OG N vs b)(hc:OG N vs c)(p:Nat):
  bodC N true (openG vs (andG a (andG b c))) v p=bodC N true (openG vs (andG (andG a b) c)) v p:=by
 rw [zau,zau,zau,zau];have wa:=ta.2.1;have wb:=tb.2.1;have wc:=tc.2.1;have la:=ha.w;have lb:=hb.w;have b1:=z4i N (by omega) false (openG vs a) v p (by omega) ha.g (by omega) (by omega);have b2:=z4i N (by omega) false (openG vs b) (bodC N false (openG vs a) v p).1 (p+(bodC N false (openG vs a) v p).2.length) (by omega) hb.g (by omega) (by omega);have fa:=fun (m:Nat) (h:wt a≤m) (h2:m≤N) (last:Bool) (s:Int) (p:Nat)=>zev hN ha h h2 last s p;have fb:=fun (m:Nat) (h:wt b≤m) (h2:m≤N) (last:Bool) (s:Int) (p:Nat)=>zev hN hb h h2 last s p;have fc:=fun (m:Nat) (h:wt c≤m) (h2:m≤N) (last:Bool) (s:Int) (p:Nat)=>zev hN hc h h2 last s p;have eL:bodC N true (andG (openG vs a) (andG (openG vs b) (openG vs c))) v p=bodA (bodC (n+1) false (openG vs a) v p) (bodC (n+1) true (andG (openG vs b) (openG vs c))) p:=by rw [hn];exact zah true ha.v (z2j hb.v hc.v) v p
 have eR:bodC N true (andG (andG (openG vs a) (openG vs b)) (openG vs c)) v p=bodA (bodC (n+1) false (andG (openG vs a) (openG vs b)) v p) (bodC (n+1) true (openG vs c)) p:=by rw [hn];exact zah true (z2j ha.v hb.v) hc.v v p
 rw [eL,eR,zah false ha.v hb.v,fa (n+1) (by omega) (by omega) false v p (by omega) (by omega),fa n (by omega) (by omega) false v p (by omega) (by omega)];unfold bodA;rw [zah true hb.v hc.v];unfold bodA;rw [fb n (by omega) (by omega) false _ _ (by omega) (by omega)];rw [fc n (by omega) (by omega) true _ _ (by omega) (by omega),fc (n+1) (by omega) (by omega) true _ _ (by omega) (by omega)];rw [List.length_append,Nat.add_assoc,List.append_assoc]
theorem zrd {N n:Nat}(hn:N=n+2)(h300:400≤n)(hN:N≤3000){v:Int}{a:Tm}(h0:0≤v)(h1:v≤4096)(ta:TL a){vs:List Int}(ha:OG N vs a)(p:Nat):
  bodC N true (openG vs (andG z1h a)) v p=bodC N true (openG vs a) v p:=by
 have wa:=ta.2.1;have e:bodC N true (andG z1h (openG vs a)) v p=bodA (bodC (n+1) false z1h v p) (bodC (n+1) true (openG vs a)) p:=by rw [hn];exact zah true z69 ha.v v p
 rw [zau,op_true,e,bod_true];unfold bodA;show ((bodC (n+1) true (openG vs a) v (p+0)).1,[]++(bodC (n+1) true (openG vs a) v (p+0)).2)=_;rw [List.nil_append];exact zev hN ha (m:=n+1) (by omega) (by omega) true v p (by omega) (by omega)
theorem c_lct (hh:Tm)(v:Int)(a b c:Tm)(k1:hh.bk≤2097152)(k2:a.bk≤2097152)(k3:b.bk≤2097152)(k4:c.bk≤2097152):AC Tryz.prog 5 [aT hh,ci v,aT a,aT b,aT c] [] (cb true) []:=by
 have z1:=Tm.sz_bk hh;have z2:=Tm.sz_bk a;have z3:=Tm.sz_bk b;have z4:=Tm.sz_bk c;have o1:=zk1 (v,hh,a) (by show hh.sz≤B;simp only [B];omega) (by show a.sz≤B;simp only [B];omega);have o2:=zk1 (v,b,c) (by show b.sz≤B;simp only [B];omega) (by show c.sz≤B;simp only [B];omega);have v1:=z2r a (by simp only [B];omega);have v2:=z2r b (by simp only [B];omega);have v3:=z2r c (by simp only [B];omega);refine AC.vc hP sh lv5 (Nat.le_refl _) (by simp) (by simp) (Eq.mpr (v5 hh.k hh.s hh.n (FTs hh.l) v a.k a.s a.n (FTs a.l) b.k b.s b.n (FTs b.l) c.k c.s c.n (FTs c.l) ..) ?_);refine ⟨true,zpe,br_f rfl ⟨_,o1,_,o2,_,v1,_,v2,_,v3,z03 (fun _=>z04 rfl) (fun q1=>z03 (fun _=>z04 rfl) (fun q2=>z03 (fun _=>z04 rfl) (fun q3=>z03 (fun _=>z04 rfl) (fun q4=>z03 (fun _=>z04 rfl) (fun q5=> ?_)))))⟩⟩;have hva:validB a=true:=by simpa using q3
 have hvb:validB b=true:=by simpa using q4
 have hvc:validB c=true:=by simpa using q5
 unfold zib at q1 q2;simp only [Bool.or_eq_false_iff,Bool.not_eq_false',decide_eq_false_iff_not] at q1 q2;have th:TL hh:= .of k1 q1.1 q1.2.2.1;have ta:TL a:= .of k2 q1.2.1 q1.2.2.2.1;have tb:TL b:= .of k3 q2.1 q2.2.2.1;have tc:TL c:= .of k4 q2.2.1 q2.2.2.2.1;have wa:=ta.2.1;have wb:=tb.2.1;have wc:=tc.2.1;have wn:wt z1h=4:=rfl;have s1:TS (andG b c):=tb.ts.and tc.ts (by omega) (by simp only [N0];omega);have s2:TS (andG a (andG b c)):=ta.ts.and s1 (by rw [zqd];omega) (by rw [z8y];simp only [N0];omega);have s3:TS (andG a b):=ta.ts.and tb.ts (by omega) (by simp only [N0];omega);have s4:TS (andG (andG a b) c):=s3.and tc.ts (by rw [zqd];omega) (by rw [z8y];simp only [N0];omega);have s5:TS (andG z1h a):=zje.and ta.ts (by have:z1h.bk=5:=rfl;omega) (by rw [wn];simp only [N0];omega);have x1:=z2j hvb hvc;have x2:=z2j hva x1;have x3:=z2j hva hvb;have x4:=z2j x3 hvc;have x5:=z2j z69 hva;have rT:RW3 v z1h:=⟨by rw [cl,cls];exact ⟨⟨fun e=>by omega,by omega,fun e=>by omega⟩,trivial⟩,by kernel_rfl⟩
 have r1:RW3 v (andG a (andG b c))↔RW3 v (andG (andG a b) c):=by
  rw [zbq hva x1 ta.ts s1 (by rw [z8y];simp only [N0];omega),zbq hvb hvc tb.ts tc.ts (by simp only [N0];omega),zbq x3 hvc s3 tc.ts (by rw [z8y];simp only [N0];omega),zbq hva hvb ta.ts tb.ts (by simp only [N0];omega)];exact ⟨fun h=>⟨⟨h.1,h.2.1⟩,h.2.2⟩,fun h=>⟨h.1.1,h.1.2,h.2⟩⟩
 have r2:RW3 v (andG z1h a)↔RW3 v a:=by
  rw [zbq z69 hva zje ta.ts (by rw [wn];simp only [N0];omega)];exact ⟨fun h=>h.2,fun h=>⟨rT,h⟩⟩
 have parts:∀ y:Tm,validB y=true→z3l N0 [(v,hh,y)] z1h 0=true→(0≤v∧v≤4096)∧RW3 v y:=fun y hy q=>by
  rw [zak] at q;have:=(znn (c:=(v,hh,y)) hy).1 q;exact ⟨this.1.1,this.2⟩
 have eq:∀ y y':Tm,validB y=true→validB y'=true→(RW3 v y↔RW3 v y')→z3l N0 [(v,hh,y)] z1h 0=z3l N0 [(v,hh,y')] z1h 0:=fun y y' hy hy' q=>by
  rw [zak,zak,Bool.eq_iff_iff,znn (c:=(v,hh,y)) hy,znn (c:=(v,hh,y')) hy'];exact and_congr Iff.rfl q
 have e1:z2u (v,hh,andG a (andG b c))=z2u (v,hh,andG (andG a b) c):=zfy (eq _ _ x2 x4 r1) fun q=>by
  obtain ⟨⟨p0,p1⟩,hr⟩:=parts _ x2 q;rw [zbq hva x1 ta.ts s1 (by rw [z8y];simp only [N0];omega),zbq hvb hvc tb.ts tc.ts (by simp only [N0];omega)] at hr;have hR:VR (z06 v.toNat 0):=z4x (Int.le_refl 0) (by omega) (by omega);exact znk fun p=>zq9 (n:=1998) rfl (by omega) (by decide) p0 p1 ta tb tc (og_of hR ta.ts hva hr.1.2) (og_of hR tb.ts hvb hr.2.1.2) (og_of hR tc.ts hvc hr.2.2.2) p
 have e2:z2u (v,hh,andG z1h a)=z2u (v,hh,a):=zfy (eq _ _ x5 hva r2) fun q=>by
  obtain ⟨⟨p0,p1⟩,hr⟩:=parts _ x5 q;rw [r2] at hr;have hR:VR (z06 v.toNat 0):=z4x (Int.le_refl 0) (by omega) (by omega);exact znk fun p=>zrd (n:=1998) rfl (by omega) (by decide) p0 p1 ta (og_of hR ta.ts hva hr.2) p
 have lA:∀ x y:Tm,FV.Le (.sl false 4 [FT4 x,FT4 y]) (.sl false 4 (FTs [x,y])):=fun x y=>by cases x;cases y;exact .refl _
 have apy:∀ x y:Tm,AC Tryz.prog 16 [.agg [.a (.fz (.int .i64 0)), .a (.fz (.str nAnd)), .a (.fz (.int .i64 0)), .a (.fz .N)], .c (.a (.fz (.sl false 4 [FT4 x,FT4 y])))] [] (aT (andG x y)) []:=fun x y=>
  (z4z andT [x,y] (by simp [andT,Tm.l])).args ⟨leT z3i, .c _ _ (.a _ _ (.fz _ _ (lA x y))),trivial⟩
 have apt:AC Tryz.prog 16 [.agg [.a (.fz (.int .i64 0)), .a (.fz (.str nAnd)), .a (.fz (.int .i64 0)), .a (.fz .N)], .c (.a (.fz (.sl false 4 [[.int .i64 0, .str zfg, .int .i64 0, .N],FT4 a])))] [] (aT (andG z1h a)) []:=
  (z4z andT [z1h,a] (by simp [andT,Tm.l])).args ⟨leT z3i, .c _ _ (.a _ _ (.fz _ _ (zgs (l:=[z1h,a]) rfl (fun i r u hr hu=>by
   match i with
   | 0=>simp at hr hu;subst hr;subst hu;exact leFT z3i
   | 1=>simp at hr hu;subst hr;subst hu;cases a;exact LeR.refl _
   | i+2=>simp at hr)))),trivial⟩
 have same:∀ x:Cd×Int,zC x.1→AC Tryz.prog 11 [aC x.1,aC x.1] [] (cb true) []:=fun x hz=>by have:=zp3 x.1 hz x.1;rw [sCd_self] at this;exact this
 have kx:=z5p (v,hh,andG a (andG b c)) th.ts s2;have ky:=z5p (v,hh,andG (andG a b) c) th.ts s4;have kz:=z5p (v,hh,andG z1h a) th.ts s5;have kw:=z5p (v,hh,a) th.ts ta.ts;have sx:=same _ (zk5 (c:=(v,hh,andG a (andG b c))) th.ts s2).1;have sz:=same _ (zk5 (c:=(v,hh,andG z1h a)) th.ts s5).1;rw [←e1] at ky;rw [←e2] at kw;exact ⟨⟨rfl,by omega⟩,_,apy b c,⟨rfl,by omega⟩,_,apy a (andG b c),_,kx,⟨rfl,by omega⟩,_,apy a b,⟨rfl,by omega⟩,_,apy (andG a b) c,_,ky,⟨rfl,by omega⟩,_,apt,_,kz,_,kw,_,sx,_,sz,br_t rfl (br_t rfl (br_t (by simp) (br_t rfl (z04 (by simp)))))⟩
end Go.AM

namespace Go.AM
open Go.ChangeShapes Go.WideShapes Go.ChangeAt Go.RowKit
end Go.AM

set_option maxRecDepth 100000
open Go Go.Proofs
namespace Go.Proofs.YtmeolnpbbhinjaaGreat.base
open Go.ChangeShapes Go.WideShapes Go.ChangeAt Go.RowKit Go.AM
theorem one_le {H:Type}(d:DataW H):1≤Rows.uptoBulk d:=by
 cases d with
 | lit l=>cases l<;>simp [Rows.uptoBulk]
 | _=>simp [Rows.uptoBulk]
theorem bulk {H:Type}:Bulk (H:=H) Rows.uptoBulk Rows.uptoBulkAll:=
 ⟨rfl,fun _ _=>rfl,one_le,fun es sp=>by simp only [Rows.uptoBulk];omega,fun l=>by simp [Rows.uptoBulk],fun l=>by simp [Rows.uptoBulk]⟩
theorem own:ownKnob Tryz.prog.godebug=none:=by kernel_rfl
theorem laidOut:laidOutB Tryz.prog=true:=by kernel_rfl
theorem tmTy:∃ f0 f1 f2 f3:Field,TmTy Tryz.prog 25 f0 f1 f2 f3:=
 ⟨_,_,_,_,Tryz.underlying25,Tryz.underlying22,Tryz.underlying9,Tryz.underlying3,Tryz.underlying23,rfl,rfl,rfl,rfl,by kernel_rfl,by kernel_rfl,by kernel_rfl,by kernel_rfl,by kernel_rfl⟩
theorem rec3:Tryz.prog.readableRec 3=true:=by kernel_rfl
theorem lt3:3<Tryz.prog.types.size:=of_decide_eq_true (by kernel_rfl)
theorem rec25:Tryz.prog.readableRec 25=true:=by kernel_rfl
theorem lt25:25<Tryz.prog.types.size:=of_decide_eq_true (by kernel_rfl)
theorem noGl (g:Nat)(h:Tryz.prog.globalNamed "internal/strconv.uint64pow10" =some g):False:=by
 rw [show Tryz.prog.globalNamed "internal/strconv.uint64pow10" =none by kernel_rfl] at h;cases h
theorem znj {n:Int}(h:(Lit.int .i64 n).wf=true): -9223372036854775808≤n∧n≤9223372036854775807:=by
 simp only [Lit.wf,IntKind.min,IntKind.max,IntKind.signed,IntKind.bits,Bool.and_eq_true,decide_eq_true_eq,if_true] at h;omega
theorem upto {H:Type}{l:List (DataW H)}(hk:Rows.uptoSmall H l=true):Rows.uptoBulkAll l≤1048576:=of_decide_eq_true hk
end Go.Proofs.YtmeolnpbbhinjaaGreat.base
