/- Contracts of the code's functions over plain values, and plain laws: part 6. No conditions. -/
import Derived.Test.YtfokmibdmphbiaaGreatPart5
import Derived.Test.YtfokmibdmphbiaaGreatPart4
import Derived.Test.YtfokmibdmphbiaaGreatRows
set_option maxRecDepth 100000
open Go Go.Proofs
namespace Go.AM
theorem zgx:∀ {l:List Tm},l ≠ []→l=l.dropLast++ [z6j l]
 | [],h=>absurd rfl h
 | [a],_=>rfl
 | a::b::l,_=>by
  have:=zgx (l:=b::l) (by simp);show a::b::l=a::((b::l).dropLast++ [z6j (b::l)]);rw [←this]
theorem zgq {b:Tm}(hv:validB b=true)(h6:b.k=6):validB (z6i b)=true∧toL b= .app (toL (z6i b)) (toL (z6j b.l)):=by
 obtain ⟨k,s,n,l⟩:=b;have h6:k=6:=h6;subst h6;obtain ⟨x,y,r,rfl,hx,_⟩:=okB6 (z04 _ hv) rfl;have vl:=z08 hv (.inr rfl);constructor
 · have ok:=z4a (f:=x) (args:=(y::r).dropLast) (z04 _ (vl x List.mem_cons_self)) (zk1 fun u hu=>z04 _ (vl u (List.mem_cons_of_mem _ ((List.dropLast_sublist _).subset hu))));have lv:=z4c (f:=x) (args:=(y::r).dropLast) (z2i (vl x List.mem_cons_self)) (zem fun u hu=>z2i (vl u (List.mem_cons_of_mem _ ((List.dropLast_sublist _).subset hu))));show validB (z09 x (y::r).dropLast)=true;rw [z24,ok,lv];rfl
 · show _=La.app (toL (z09 x (y::r).dropLast)) (toL (z6j (x::y::r)));rw [z2y,z1m];show apps (toL x) (toLs (y::r))=_;have e:y::r=(y::r).dropLast++ [z6j (y::r)]:=zgx (by simp);have e2:z6j (x::y::r)=z6j (y::r):=rfl;rw [e2]
   rw [show toLs (y::r)=toLs (y::r).dropLast++ [toL (z6j (y::r))] by
    have:=congrArg toLs e;rw [z4u] at this;exact this]
   rw [z38];rfl
mutual
theorem zln:∀ (t:Tm) (e:Nat),validB t=true→occF t (e:Int)=0→(toL (shT 0 (-1) t (e:Int))).lift e=toL t
 | .mk k s n l,e,hv,ho=>by
  unfold shT;rw [z0l];split
  · rename_i hk;have hk:k=5∨k=6:=by simpa using hk
    rw [occF,if_neg (by rcases hk with rfl | rfl<;>simp)] at ho
    rw [zie (t:= .mk k s n l) hk];show (mkL k n s _).lift e=_;rw [zmj (fun t=>t.lift e) (fun t=>t.lift (e+1)) (fun _=>rfl) (fun f l=>z35 e l f) rfl rfl hk,toL];congr 1;by_cases h5:k=5
    · rw [if_pos h5,if_pos (by simpa using h5)];rw [if_pos (by simpa using h5)] at ho;exact zao l (e+1) (z08 hv hk) ho
    · rw [if_neg h5,if_neg (by simpa using h5),Int.add_zero];rw [if_neg (by simpa using h5),Int.add_zero] at ho;exact zao l e (z08 hv hk) ho
  · rename_i hk;have hk:¬(k=5∨k=6):=by simpa using hk
    rw [not_or] at hk;have hl:l=[]:=okB0 (z04 _ hv) hk.1 hk.2;subst hl;unfold z0s;by_cases h3:k=3
    · have hn:=zan hv h3;subst h3;rw [occF] at ho;have hne:n≠(e:Int):=fun q=>by rw [if_pos ⟨rfl,by simpa using q⟩] at ho;cases ho
      by_cases q:(e:Int)+0≤n
      · rw [if_pos (show ((Tm.mk 3 s n []).k==3)=true∧(e:Int)+0≤(Tm.mk 3 s n []).n from ⟨rfl,q⟩)];show (toL (.mk 3 s (n+ -1) [])).lift e=_;rw [z1h,z1h,La.lift,if_neg (by omega)];congr 1;omega
      · rw [if_neg (show¬(((Tm.mk 3 s n []).k==3)=true∧(e:Int)+0≤(Tm.mk 3 s n []).n) from fun e=>q e.2),z1h,La.lift,if_pos (by omega)]
    · rw [if_neg (show¬(((Tm.mk k s n []).k==3)=true∧(e:Int)+0≤(Tm.mk k s n []).n) from fun e=>h3 (beq_iff_eq.1 e.1))];rcases z69 (k:=k) (n:=n) (s:=s) (l:=[]) hk.1 hk.2 h3 with e | e<;>rw [e]<;>rfl
theorem zao:∀ (l:List Tm) (e:Nat),(∀ u∈l,validB u=true)→occL l (e:Int)=0→(toLs (z0b (z0s 0 (-1)) l (e:Int))).map (fun t=>t.lift e)=toLs l
 | [],_,_,_=>rfl
 | t::l,e,h,ho=>by
  rw [occL] at ho;rw [z0b,toLs,toLs,List.map_cons,zao l e (fun u hu=>h u (List.mem_cons_of_mem _ hu)) (by omega)];congr 1;exact zln t e (h t List.mem_cons_self) (by omega)
end
theorem z8z {t:Tm}(hv:validB t=true):validB (z06 t)=true:=by
 have so:=z3t t (z04 _ hv);rw [z24,so.1,so.2.1 (z2i hv)];rfl
theorem lastv {t:Tm}(hv:validB t=true)(h3:t.k=3)(hn:t.n=0):toL t= .bv 0:=by
 obtain ⟨k,s,n,l⟩:=t;have h3:k=3:=h3;have hn:n=0:=hn;subst h3;subst hn;rw [z1h];rfl
mutual
theorem z64 {V:Int→Option La}:∀ t:Tm,validB t=true→Sts V (toL t) (toL (z06 t))
 | .mk k s n l,hv=>by
  rw [z06];split
  · rename_i h5;have h5:k=5:=by simpa using h5
    subst h5;obtain ⟨b,rfl,_⟩:=okB5 (z04 _ hv) rfl;have vb:=z08 hv (.inl rfl) b List.mem_cons_self;have ih:=z64 (V:=V) b vb;have vs:=z8z vb;show Sts V _ (toL (if z28 (z06 b)=true then z73 (z06 b) else .mk 5 [] 0 [z06 b]))
    rw [z1j];refine ih.lam.trans ?_;split
    · rename_i q;unfold z73;rw [if_pos q];simp only [z28,Bool.and_eq_true,beq_iff_eq] at q;obtain ⟨⟨⟨q1,q2⟩,q3⟩,q4⟩:=q;have rv:=zgq vs q1
      have vlast:validB (z6j (z06 b).l)=true:=by
       generalize z06 b=w at*;obtain ⟨wk,ws,wn,wl⟩:=w;obtain ⟨x,y,r,rfl,_,_⟩:=okB6 (z04 _ vs) q1;exact z08 vs (.inr q1) _ (zi9 (by simp))
      have dl:=zln (z6i (z06 b)) 0 rv.1 q4;rw [rv.2,lastv vlast q2 q3,←dl];exact Sts.eta _
    · rw [z1j];exact .refl _
  · split
    · rename_i h6;have h6:k=6:=by simpa using h6
      subst h6;rw [z2y,z1m];obtain ⟨x,y,r,rfl,_,_⟩:=okB6 (z04 _ hv) rfl;have vl:=z08 hv (.inr rfl);have h1:=z64 (V:=V) x (vl x List.mem_cons_self);have h2:=zh1 (V:=V) (y::r) fun u hu=>vl u (List.mem_cons_of_mem _ hu);exact zcc _ _ _ _ h1 (za1 h2)
    · exact .refl _
theorem zh1 {V:Int→Option La}:∀ l:List Tm,(∀ u∈l,validB u=true)→All2 (fun x y=>Sts V (toL x) (toL y)) l (z0h l)
 | [],_=>trivial
 | t::l,h=>⟨z64 t (h t List.mem_cons_self),zh1 l fun u hu=>h u (List.mem_cons_of_mem _ hu)⟩
end
theorem z9w {s:Sto}(hs:OKS s){f:Int}{t:Tm}(h0:0≤f)(hf:validB t=true→Fit f.toNat t)(he:(z0k s f t).2.2=0):Sts (VS s) (toL t) (toL (z0k s f t).1):=by
 unfold z0k at he ⊢;split at he
 · rename_i hv;rw [if_pos hv];split at he
   · rename_i h1;rw [if_pos h1];exact (zja hs f.toNat f t (Nat.le_refl _) h0 hv (hf hv) h1).trans (z64 _ (z67 hs f.toNat f t (Nat.le_refl _) h0 hv (hf hv) h1).1.1)
   · rename_i h1;exact absurd he h1
 · cases he
def Neu (V:Int→Option La)(f:La):Prop:=(∀ b,f ≠ .lam b)∧NfL V f
theorem Neu.app {V:Int→Option La}{f a:La}(h:Neu V f)(ha:NfL V a):Neu V (.app f a):=by
 refine ⟨fun b e=>(by cases e),fun b hb=> ?_⟩;rcases hb with hb | hb
 · rcases zbz hb with ⟨f',a',rfl,h1,h2⟩ | ⟨s,s',a',rfl,_,_,_⟩
   · rw [h.2 f' (.inl h1),ha a' (.inl h2)]
   · exact absurd rfl (h.1 s)
 · obtain ⟨f',a',rfl,h1,h2⟩:=zds hb;rw [h.2 f' (.inr h1),ha a' (.inr h2)]
theorem Neu.apps {V:Int→Option La}:∀ {l:List La} {f:La},Neu V f→(∀ a∈l,NfL V a)→Neu V (apps f l)
 | [],_,h,_=>h
 | a::l,_,h,hl=>Neu.apps (l:=l) (h.app (hl a List.mem_cons_self)) fun b hb=>hl b (List.mem_cons_of_mem _ hb)
theorem zu5 {V:Int→Option La}(k n:Int)(s:List UInt8):Neu V (.con k n s):=⟨fun b e=>(by cases e),fun b h=>h.elim zgw zg2⟩
theorem neu_bv {V:Int→Option La}(n:Nat):Neu V (.bv n):=⟨fun b e=>(by cases e),fun b h=>h.elim zhm zme⟩
theorem neu_var {V:Int→Option La}{x:Int}(h:V x=none):Neu V (.var x):=⟨fun b e=>(by cases e),fun b hb=>by
 rcases hb with hb | hb
 · rcases zkg hb with e | e
   · exact e
   · rw [h] at e;cases e
 · exact zh3 hb⟩
theorem z78 (f:La):∀ l:List La,l ≠ []→∃ l' a,l=l'++ [a]∧apps f l= .app (apps f l') a:=fun l h=>by
 obtain ⟨l',a,rfl⟩:∃ l' a,l=l'++ [a]:=⟨l.dropLast,l.getLast h,(List.dropLast_concat_getLast h).symm⟩;exact ⟨l',a,rfl,by rw [z38];rfl⟩
theorem zrb (i:Int):∀ a b:List Tm,occL (a++b) i=occL a i+occL b i
 | [],b=>by rw [List.nil_append,occL];omega
 | t::a,b=>by rw [List.cons_append,occL,occL,zrb i a b];omega
theorem zlu (e:Nat)(x:Tm):∀ (N:Nat) (m:List Tm) (w:La),m.length=N→(∀ v∈x::m,∀ u:La,toL v=u.lift e→occF v (e:Int)=0)→apps (toL x) (toLs m)=w.lift e→occF x (e:Int)+occL m (e:Int)=0
 | 0,m,w,hlen,h,hw=>by
  have:m=[]:=List.eq_nil_of_length_eq_zero hlen;subst this;rw [h x List.mem_cons_self w hw];rfl
 | N+1,m,w,hlen,h,hw=>by
  have hne:m ≠ []:=fun q=>by subst q;cases hlen
  obtain ⟨m',a,rfl⟩:∃ m' a,m=m'++ [a]:=⟨m.dropLast,m.getLast hne,(List.dropLast_concat_getLast hne).symm⟩;rw [z4u,z38] at hw;have hw:La.app (apps (toL x) (toLs m')) (toL a)=w.lift e:=hw;cases w with
  | con _ _ _=>cases hw
  | var _=>cases hw
  | bv m=>rw [La.lift] at hw;split at hw<;>cases hw
  | lam _=>cases hw
  | app f b=>
   rw [La.lift] at hw;injection hw with h1 h2
   have i1:=zlu e x N m' f (by simpa using hlen) (fun v hv=>h v (by
    rcases List.mem_cons.1 hv with rfl | hv
    · exact List.mem_cons_self
    · exact List.mem_cons_of_mem _ (List.mem_append_left _ hv))) h1
   have i2:=h a (List.mem_cons_of_mem _ (by simp)) b h2;rw [zrb,occL,occL,i2];omega
theorem occ_lift:∀ (t:Tm) (e:Nat) (u:La),validB t=true→toL t=u.lift e→occF t (e:Int)=0:=by
 refine Tm.ind fun t ih=> ?_;intro e u hv h;obtain ⟨k,s,n,l⟩:=t;rw [occF];by_cases h3:k=3
 · have hn:=zan hv h3;subst h3;have hl:l=[]:=okB0 (z04 _ hv) (by decide) (by decide);subst hl;rw [z1h] at h
   have hne:n≠(e:Int):=fun q=>by
    cases u with
    | con _ _ _=>cases h
    | var _=>cases h
    | lam _=>cases h
    | app _ _=>cases h
    | bv m=>
     rw [La.lift] at h;split at h<;>(injection h with h;omega)
   rw [if_neg (fun q=>hne (by simpa using q.2))];rfl
 · rw [if_neg (fun q=>h3 (by simpa using q.1))];by_cases h5:k=5
   · subst h5;obtain ⟨b,rfl,_⟩:=okB5 (z04 _ hv) rfl;rw [z1j] at h;cases u with
     | con _ _ _=>cases h
     | var _=>cases h
     | bv m=>rw [La.lift] at h;split at h<;>cases h
     | app _ _=>cases h
     | lam w=>
      rw [La.lift] at h;injection h with h
      have:=ih b List.mem_cons_self (e+1) w (z08 hv (.inl rfl) b List.mem_cons_self) h;rw [if_pos (by decide),occL,occL];rw [show ((e:Int)+1)=((e+1:Nat):Int) by omega,this]
   · rw [if_neg (by simpa using h5),Int.add_zero];by_cases h6:k=6
     · subst h6;obtain ⟨x,y,r,rfl,_,_⟩:=okB6 (z04 _ hv) rfl;have vl:=z08 hv (.inr rfl);rw [z2y] at h;rw [occL];exact zlu e x _ (y::r) u rfl (fun v hv w hw=>ih v hv e w (vl v hv) hw) h
     · have hl:l=[]:=okB0 (z04 _ hv) h5 h6;subst hl;rfl
theorem nf_of {s:Sto}:∀ t:Tm,validB t=true→z3b t=true→ubB s t=true→shB t=true→NfL (VS s) (toL t)∧(t.k≠5→Neu (VS s) (toL t)):=by
 refine Tm.ind fun t ih=> ?_;intro hv hn hu hs;obtain ⟨k,str,n,l⟩:=t;rw [z3b,Bool.and_eq_true] at hn;rw [ubB,Bool.and_eq_true] at hu;rw [shB,Bool.and_eq_true] at hs;have nl:=zm.1 hn.2;have ul:=zws.1 hu.2;have kids:(k=5∨k=6)→∀ u∈l,NfL (VS s) (toL u)∧(u.k≠5→Neu (VS s) (toL u)):=fun hk u hm=>ih u hm (z08 hv hk u hm) (nl u hm) (ul u hm) (zb4 hs.2 hm);by_cases h5:k=5
 · subst h5;obtain ⟨b,rfl,_⟩:=okB5 (z04 _ hv) rfl;have vb:=z08 hv (.inl rfl) b List.mem_cons_self;have kb:=(kids (.inl rfl) b List.mem_cons_self).1;rw [z1j];show NfL _ (.lam (toL b))∧_;refine ⟨fun c hc=> ?_,fun q=>absurd rfl q⟩;rcases hc with hc | hc
   · obtain ⟨b',rfl,h1⟩:=zby hc;rw [kb b' (.inl h1)]
   · rcases zea hc with ⟨b',rfl,h1⟩ | ⟨u,e,h1⟩
     · rw [kb b' (.inr h1)]
     · exfalso;have hd0:z28 b=false:=by have h1:=hs.1;rw [if_pos (by decide)] at h1;have h1:(!z28 b)=true:=h1;simpa using h1
       have vb0:=vb
       have h6:b.k=6:=by
        obtain ⟨bk,bs,bn,bl⟩:=b;by_cases g6:bk=6
        · exact g6
        · exfalso;by_cases g5:bk=5
          · subst g5;rw [z1j] at e;cases e
          · by_cases g3:bk=3
            · subst g3;rw [z1h] at e;cases e
            · rcases z69 (k:=bk) (n:=bn) (s:=bs) (l:=bl) g5 g6 g3 with q | q<;>(rw [q] at e;cases e)
       have rv:=zgq vb h6;rw [rv.2] at e;injection e with e1 e2
       have vlast:validB (z6j b.l)=true:=by
        obtain ⟨wk,ws,wn,wl⟩:=b;obtain ⟨x,y,r,rfl,_,_⟩:=okB6 (z04 _ vb) h6;exact z08 vb (.inr h6) _ (zi9 (by simp))
       have l3:(z6j b.l).k=3∧(z6j b.l).n=0:=by
        generalize z6j b.l=w at*;obtain ⟨wk,ws,wn,wl⟩:=w;by_cases g3:wk=3
        · subst g3;have:=zan vlast rfl;rw [z1h] at e2;injection e2 with e2
          exact ⟨rfl,by show wn=0;omega⟩
        · exfalso;by_cases g5:wk=5
          · subst g5;rw [z1j] at e2;cases e2
          · by_cases g6:wk=6
            · subst g6;rw [z2y] at e2;obtain ⟨x,y,r,rfl,_,_⟩:=okB6 (z04 _ vlast) rfl;obtain ⟨l',a,_,h2⟩:=z78 (toL x) (toLs (y::r)) (by simp [toLs]);rw [show (hd (x::y::r))=x from rfl,show (x::y::r).tail=y::r from rfl,h2] at e2;cases e2
            · rcases z69 (k:=wk) (n:=wn) (s:=ws) (l:=wl) g5 g6 g3 with q | q<;>(rw [q] at e2;cases e2)
       have ho:=occ_lift (z6i b) 0 u rv.1 e1
       have:z28 b=true:=by
        unfold z28;have ho:occF (z6i b) 0=0:=ho;rw [h6,l3.1,l3.2,ho];rfl
       rw [this] at hd0;cases hd0
 · by_cases h6:k=6
   · subst h6;obtain ⟨x,y,r,rfl,hx6,_⟩:=okB6 (z04 _ hv) rfl;have kk:=kids (.inr rfl)
     have hx5:x.k≠5:=fun q=>by
      have:=hn.1;unfold z3v at this;rw [show (hd (Tm.l (.mk 6 str n (x::y::r))))=x from rfl,q] at this;simp [Tm.k] at this
     have N:=Neu.apps (l:=toLs (y::r)) ((kk x List.mem_cons_self).2 hx5) fun a ha=>by
      rw [z0z] at ha;obtain ⟨u,hu,rfl⟩:=List.mem_map.1 ha;exact (kk u (List.mem_cons_of_mem _ hu)).1
     rw [z2y];exact ⟨N.2,fun _=>N⟩
   · have N:Neu (VS s) (toL (.mk k str n l)):=by
      by_cases h3:k=3
      · subst h3;rw [z1h];exact neu_bv _
      · by_cases h4:k=4
        · subst h4;rw [z4q];refine neu_var ?_;unfold VS;rw [if_neg];have:=hu.1;simpa using this
        · have:toL (.mk k str n l)= .con k n str:=by rw [toL,mkL,if_neg h5,if_neg h6,if_neg h3,if_neg h4]
          rw [this];exact zu5 _ _ _
     exact ⟨N.2,fun _=>N⟩
def spA:La→List La→La×List La
 | .app f a,acc=>spA f (a::acc)
 | t,acc=>(t,acc)
theorem spA_apps:∀ (l:List La) (f:La) (acc:List La),spA (apps f l) acc=spA f (l++acc):=fun l=>by
 induction l with
 | nil=>intro f acc;rfl
 | cons a l ih=>intro f acc;rw [z3u,ih,spA];rfl
theorem zpa {f g:La}{a b:List La}(hf:∀ x y,f ≠ .app x y)(hg:∀ x y,g ≠ .app x y)(h:apps f a=apps g b):f=g∧a=b:=by
 have:=congrArg (fun t=>spA t []) h;simp only [spA_apps,List.append_nil] at this
 have uf:∀ {f:La},(∀ x y,f ≠ .app x y)→∀ l,spA f l=(f,l):=fun {f} hf l=>by
  cases f with
  | app x y=>exact absurd rfl (hf x y)
  | _=>rfl
 rw [uf hf,uf hg] at this;injection this with h1 h2
 exact ⟨h1,h2⟩
theorem z6d {k n:Int}{s:List UInt8}{l:List Tm}(hv:validB (.mk k s n l)=true)(h:k=3∨k=4∨k=5∨k=6):s=[]∧(k=3∨k=4→0≤n)∧(k=5∨k=6→n=0):=by
 rcases h with rfl | rfl | rfl | rfl
 · rw [validB,if_neg (by decide),if_neg (by decide),if_neg (by decide),if_pos (by decide)] at hv;simp only [Bool.and_eq_true,decide_eq_true_eq,beq_iff_eq] at hv;exact ⟨hv.1.1.2,fun _=>hv.1.1.1.1,fun q=>by omega⟩
 · rw [validB,if_neg (by decide),if_neg (by decide),if_neg (by decide),if_neg (by decide),if_pos (by decide)] at hv;simp only [Bool.and_eq_true,decide_eq_true_eq,beq_iff_eq] at hv;exact ⟨hv.1.1.2,fun _=>hv.1.1.1.1,fun q=>by omega⟩
 · rw [validB,if_neg (by decide),if_neg (by decide),if_neg (by decide),if_neg (by decide),if_neg (by decide),if_pos (by decide)] at hv;simp only [Bool.and_eq_true,decide_eq_true_eq,beq_iff_eq] at hv;exact ⟨hv.1.1.2,fun q=>by omega,fun _=>hv.1.1.1⟩
 · rw [validB,if_neg (by decide),if_neg (by decide),if_neg (by decide),if_neg (by decide),if_neg (by decide),if_neg (by decide),if_pos (by decide)] at hv;simp only [Bool.and_eq_true,decide_eq_true_eq,beq_iff_eq] at hv;exact ⟨hv.1.2,fun q=>by omega,fun _=>hv.1.1.1.1⟩
theorem z8w {s:List UInt8}{n:Int}{l:List Tm}(hv:validB (.mk 6 s n l)=true):∃ f a,toL (.mk 6 s n l)= .app f a:=by
 obtain ⟨x,y,r,rfl,_,_⟩:=okB6 (z04 _ hv) rfl;rw [z2y];obtain ⟨l',a,_,h2⟩:=z78 (toL x) (toLs (y::r)) (by simp [toLs]);exact ⟨_,_,h2⟩
theorem zcw {t:Tm}(h6:t.k≠6):∀ x y,toL t ≠ .app x y:=fun x y e=>by
 obtain ⟨k,s,n,l⟩:=t;have h6:k≠6:=h6;by_cases h5:k=5
 · subst h5;rw [z1j] at e;cases e
 · by_cases h3:k=3
   · subst h3;rw [z1h] at e;cases e
   · rcases z69 (k:=k) (n:=n) (s:=s) (l:=l) h5 h6 h3 with q | q<;>(rw [q] at e;cases e)
theorem zvz:∀ t u:Tm,validB t=true→validB u=true→toL t=toL u→t=u:=by
 refine Tm.ind fun t ih=> ?_;intro u hv hw h;obtain ⟨k,s,n,l⟩:=t;obtain ⟨j,q,m,r⟩:=u
 have lists:(k=5∨k=6)→(j=5∨j=6)→∀ (a b:List Tm),(∀ x∈a,x∈l)→(∀ x∈b,x∈r)→toLs a=toLs b→a=b:=by
  intro hk hj a
  induction a with
  | nil=>intro b _ _ e;cases b with
   | nil=>rfl
   | cons _ _=>cases e
  | cons x a iha=>
   intro b ha hb e;cases b with
   | nil=>cases e
   | cons y b=>
    rw [toLs,toLs] at e;injection e with e1 e2
    rw [ih x (ha x List.mem_cons_self) y (z08 hv hk x (ha x List.mem_cons_self)) (z08 hw hj y (hb y List.mem_cons_self)) e1,iha b (fun z hz=>ha z (List.mem_cons_of_mem _ hz)) (fun z hz=>hb z (List.mem_cons_of_mem _ hz)) e2]
 by_cases k6:k=6
 · subst k6;by_cases j6:j=6
   · subst j6;have s1:=z6d hv (by omega);have s2:=z6d hw (by omega);obtain ⟨x,y,a,rfl,hx,_⟩:=okB6 (z04 _ hv) rfl;obtain ⟨x2,y2,a2,rfl,hx2,_⟩:=okB6 (z04 _ hw) rfl;rw [z2y,z2y] at h;obtain ⟨h1,h2⟩:=zpa (zcw hx) (zcw hx2) h;have e1:=ih x List.mem_cons_self x2 (z08 hv (.inr rfl) x List.mem_cons_self) (z08 hw (.inr rfl) x2 List.mem_cons_self) h1;have e2:=lists (.inr rfl) (.inr rfl) (y::a) (y2::a2) (fun z hz=>List.mem_cons_of_mem _ hz) (fun z hz=>List.mem_cons_of_mem _ hz) h2;rw [e1,e2,s1.1,s2.1,s1.2.2 (by omega),s2.2.2 (by omega)]
   · obtain ⟨f,a,e⟩:=z8w hv;rw [e] at h;exact absurd h.symm (zcw (t:= .mk j q m r) j6 f a)
 · by_cases j6:j=6
   · subst j6;obtain ⟨f,a,e⟩:=z8w hw;rw [e] at h;exact absurd h (zcw (t:= .mk k s n l) k6 f a)
   · by_cases k5:k=5
     · subst k5;by_cases j5:j=5
       · subst j5;have s1:=z6d hv (by omega);have s2:=z6d hw (by omega);obtain ⟨b,rfl,_⟩:=okB5 (z04 _ hv) rfl;obtain ⟨c,rfl,_⟩:=okB5 (z04 _ hw) rfl;rw [z1j,z1j] at h;injection h with h
         have e1:=ih b List.mem_cons_self c (z08 hv (.inl rfl) b List.mem_cons_self) (z08 hw (.inl rfl) c List.mem_cons_self) h;rw [e1,s1.1,s2.1,s1.2.2 (by omega),s2.2.2 (by omega)]
       · rw [z1j] at h;exfalso;by_cases j3:j=3
         · subst j3;rw [z1h] at h;cases h
         · rcases z69 (k:=j) (n:=m) (s:=q) (l:=r) j5 j6 j3 with e | e<;>(rw [e] at h;cases h)
     · by_cases j5:j=5
       · subst j5;rw [z1j] at h;exfalso;by_cases k3:k=3
         · subst k3;rw [z1h] at h;cases h
         · rcases z69 (k:=k) (n:=n) (s:=s) (l:=l) k5 k6 k3 with e | e<;>(rw [e] at h;cases h)
       · have l0:l=[]:=okB0 (z04 _ hv) k5 k6;have r0:r=[]:=okB0 (z04 _ hw) j5 j6;subst l0;subst r0;rw [toL,mkL,if_neg k5,if_neg k6,toL,mkL,if_neg j5,if_neg j6] at h;by_cases k3:k=3
         · subst k3;rw [if_pos rfl] at h;by_cases j3:j=3
           · subst j3;rw [if_pos rfl] at h;injection h with h
             have s1:=z6d hv (by omega);have s2:=z6d hw (by omega);have:=s1.2.1 (by omega);have:=s2.2.1 (by omega);rw [s1.1,s2.1,show n=m by omega]
           · rw [if_neg j3] at h;split at h<;>cases h
         · rw [if_neg k3] at h;by_cases j3:j=3
           · rw [if_pos j3] at h;split at h<;>cases h
           · rw [if_neg j3] at h;by_cases k4:k=4
             · rw [if_pos k4] at h;by_cases j4:j=4
               · rw [if_pos j4] at h;injection h with h
                 have s1:=z6d hv (by omega);have s2:=z6d hw (by omega);rw [s1.1,s2.1,h,k4,j4]
               · rw [if_neg j4] at h;cases h
             · rw [if_neg k4] at h;by_cases j4:j=4
               · rw [if_pos j4] at h;cases h
               · rw [if_neg j4] at h;injection h with h1 h2 h3
                 rw [h1,h2,h3]
theorem zj0 {s:Sto}(hs:OKS s){t:Tm}{f:Int}(f0:0≤f)(ft:validB t=true→Fit f.toNat t)(he:(z0k s f t).2.2=0):NfL (VS s) (toL (z0k s f t).1):=by
 have ok:=z47 hs ft he;unfold z0k at he ⊢;split at he
 · rename_i hv;rw [if_pos hv];split at he
   · rename_i q;rw [if_pos q];have nf:=zop hs f.toNat f t (Nat.le_refl _) f0 hv (ft hv) q;have fo:=z67 hs f.toNat f t (Nat.le_refl _) f0 hv (ft hv) q;have ok2:=z04 _ fo.1.1;exact (nf_of _ (z8z fo.1.1) (zau _ ok2 nf.1) (zpg s _ ok2 nf.1 nf.2.1).1 (zox _ ok2)).1
   · rename_i q;exact absurd he q
 · cases he
theorem zxi {s:Sto}(hs:OKS s)(hc:ClV (VS s)){t u:Tm}{f g:Int}(f0:0≤f)(g0:0≤g)(ft:validB t=true→Fit f.toNat t)(fu:validB u=true→Fit g.toNat u)(h1:(z0k s f t).2.2=0)(h2:(z0k s g u).2.2=0)(h:Eqv (VS s) (toL t) (toL u)):
  (z0k s f t).1=(z0k s g u).1:=by
 refine zvz _ _ (z47 hs ft h1).2.1 (z47 hs fu h2).2.1 ?_;have e1:=Eqv.of (z9w hs f0 ft h1);have e2:=Eqv.of (z9w hs g0 fu h2);exact ((e1.symm.trans hc h).trans hc e2).nf (zj0 hs f0 ft h1) (zj0 hs g0 fu h2)
end Go.AM

set_option maxRecDepth 100000
open Go Go.Proofs
namespace Go.AM
theorem z5o {V:List Inf}{x:Int}:inB V x=true↔0≤x∧x<(V.length:Int):=by simp [inB]
def Keeps (s s':Sto):Prop:=∀ x:Int,inB s.V x=true→inB s'.V x=true∧(infOf s'.V x).lv=(infOf s.V x).lv
theorem Keeps.refl (s:Sto):Keeps s s:=fun _ h=>⟨h,rfl⟩
theorem Keeps.trans {a b c:Sto}(h1:Keeps a b)(h2:Keeps b c):Keeps a c:=fun x h=>by
 have a1:=h1 x h;have a2:=h2 x a1.1;exact ⟨a2.1,a2.2.trans a1.2⟩
theorem Keeps.fresh (s:Sto)(lv:Int):Keeps s (freshS s lv):=fun x h=>by
 have h0:=z5o.1 h;exact ⟨z5o.2 ⟨h0.1,by rw [(zdz s lv).1];omega⟩,by rw [z54 h0.1 h0.2]⟩
theorem Keeps.bind (s:Sto)(x:Int)(t:Tm):Keeps s (bindS s x t):=fun y h=>by
 have h0:=z5o.1 h;refine ⟨z5o.2 ⟨h0.1,by rw [z1f];exact h0.2⟩, ?_⟩;rcases z87 (s:=s) (y:=x) (t:=t) h0.1 h0.2 with h2 | ⟨h2,h3⟩
 · rw [h2]
 · rw [h3,h2]
theorem Chg.keeps {s s':Sto}(h:Chg s s'):Keeps s s':=by
 induction h with
 | refl=>exact .refl _
 | fresh lv _ ih=>exact ih.trans (.fresh _ _)
 | bind x t _ ih=>exact ih.trans (.bind _ _ _)
theorem zwc {p:Int→Int→Bool}:∀ (n:Nat) {t:Tm} {d:Int},wG p t (d+(n:Int))=true→wG p (z4m n t) d=true
 | 0,t,d,h=>by rw [z4m];rw [show d+((0:Nat):Int)=d by omega] at h;exact h
 | n+1,t,d,h=>by
  rw [z4m];refine zwc n (wG_five ?_);rw [show d+(n:Int)+1=d+((n+1:Nat):Int) by omega];exact h
theorem zf2 (s:Sto)(lv:Int):infOf (freshS s lv).V (s.V.length:Int)=⟨z0g [lv,0],false,noT⟩∧inB (freshS s lv).V (s.V.length:Int)=true:=by
 have h1:=(zdz s lv).1;obtain ⟨hl,e⟩:=z1w (V:=(freshS s lv).V) (x:=(s.V.length:Int)) (by omega) (by omega);refine ⟨?_,z5o.2 ⟨by omega,by omega⟩⟩;rw [e];simp [freshS]
theorem zwd {p:Int→Int→Bool}{t:Tm}{d:Int}(hl:t.k=3∨t.k=1)(h3:t.k=3→t.n<d)(h1:t.k=1→p 1 t.n=true):wG p t d=true:=by
 obtain ⟨k,s,n,l⟩:=t;have hl:k=3∨k=1:=hl;rw [zfn];refine ⟨?_,fun q=>by omega⟩;unfold gB;split
 · rename_i q;exact decide_eq_true (h3 q)
 · rename_i q;have:k=1:=by omega
   subst this;rw [show p 1 n=true from h1 rfl,Bool.or_true]
end Go.AM

set_option maxRecDepth 100000
open Go Go.Proofs

set_option maxRecDepth 100000
open Go Go.Proofs
namespace Go.AM
def La.wk (g:Nat→Nat→La):La→Nat→La
 | .con k n s,_=> .con k n s
 | .var x,_=> .var x
 | .bv n,d=>g n d
 | .lam b,d=> .lam (La.wk g b (d+1))
 | .app f a,d=> .app (La.wk g f d) (La.wk g a d)
def gs (ys:List La)(n d:Nat):La:=if n<d then .bv n else if n<d+ys.length then (ys.getD (ys.length-1-(n-d)) laD).sh d 0 else .bv (n-ys.length)
theorem z7z (g:Nat→Nat→La)(d:Nat):∀ (l:List La) (f:La),(apps f l).wk g d=apps (f.wk g d) (l.map fun a=>a.wk g d)
 | [],f=>rfl
 | a::l,f=>by rw [z3u,z7z g d l,List.map_cons,z3u];rfl
theorem wk_sh (r:List La):∀ (a:La) (d e:Nat),(a.sh (d+r.length) e).wk (gs r) (d+e)=a.sh d e
 | .con _ _ _,_,_=>rfl
 | .var _,_,_=>rfl
 | .bv n,d,e=>by
  by_cases h:n<e
  · rw [La.sh,if_pos h,La.wk,La.sh,if_pos h,gs,if_pos (by omega)]
  · rw [La.sh,if_neg h,La.wk,La.sh,if_neg h,gs,if_neg (by omega),if_neg (by omega)];congr 1;omega
 | .lam b,d,e=>by rw [La.sh,La.wk,La.sh,show d+e+1=d+(e+1) by omega,wk_sh r b d (e+1)]
 | .app f a,d,e=>by rw [La.sh,La.wk,La.sh,wk_sh r f d e,wk_sh r a d e]
theorem zp7 (a:La)(r:List La):∀ (b:La) (d:Nat),(b.sub (a.sh (d+r.length) 0) (d+r.length)).wk (gs r) d=b.wk (gs (a::r)) d
 | .con _ _ _,_=>rfl
 | .var _,_=>rfl
 | .bv n,d=>by
  rw [La.sub,La.wk];by_cases h1:n<d+r.length
  · rw [if_pos h1,La.wk,gs,gs];by_cases h2:n<d
    · rw [if_pos h2,if_pos h2]
    · rw [if_neg h2,if_neg h2,if_pos h1,if_pos (by rw [List.length_cons];omega)];congr 1;rw [List.length_cons,show r.length+1-1-(n-d)=(r.length-1-(n-d))+1 by omega,List.getD_cons_succ]
  · rw [if_neg h1];by_cases h2:n=d+r.length
    · rw [if_pos h2,gs,if_neg (by omega),if_pos (by rw [List.length_cons];omega)];have:=wk_sh r a d 0;rw [Nat.add_zero] at this;rw [this,List.length_cons,show r.length+1-1-(n-d)=0 by omega,List.getD_cons_zero]
    · rw [if_neg h2,La.wk,gs,gs,if_neg (by omega),if_neg (by omega),if_neg (by omega),if_neg (by rw [List.length_cons];omega)];congr 1;rw [List.length_cons];omega
 | .lam b,d=>by
  rw [La.sub,La.wk,La.wk,La.sh_succ a (d+r.length) 0 0 (Nat.le_refl _) (by omega)];have:=zp7 a r b (d+1);rw [show d+1+r.length=d+r.length+1 by omega] at this;rw [this]
 | .app f x,d=>by rw [La.sub,La.wk,La.wk,zp7 a r f d,zp7 a r x d]
theorem zqx:∀ (b:La) (d:Nat),b.wk (gs []) d=b
 | .con _ _ _,_=>rfl
 | .var _,_=>rfl
 | .bv n,d=>by
  rw [La.wk,gs];split
  · rfl
  · rw [if_neg (by simp;omega)];rfl
 | .lam b,d=>by rw [La.wk,zqx b]
 | .app f a,d=>by rw [La.wk,zqx f,zqx a]
def z2v:Nat→La→La
 | 0,b=>b
 | n+1,b=> .lam (z2v n b)
theorem zj1:∀ (n:Nat) (b:La),z2v n (.lam b)= .lam (z2v n b)
 | 0,_=>rfl
 | n+1,b=>by rw [z2v,zj1 n];rfl
theorem z5j:∀ (n:Nat) (t:Tm),toL (z4m n t)=z2v n (toL t)
 | 0,_=>rfl
 | n+1,t=>by
  rw [z4m,z5j n,z1j,zj1];rfl
theorem zov (u:La):∀ (m:Nat) (b:La) (k:Nat),(z2v m b).sub (u.sh k 0) k=z2v m (b.sub (u.sh (k+m) 0) (k+m))
 | 0,_,_=>rfl
 | m+1,b,k=>by
  rw [z2v,La.sub,La.sh_succ u k 0 0 (Nat.le_refl _) (by omega),zov u m b (k+1),z2v];rw [show k+1+m=k+(m+1) by omega]
theorem z77 {V:Int→Option La}:∀ (ys:List La) (b:La),Sts V (apps (z2v ys.length b) ys) (b.wk (gs ys) 0)
 | [],b=>by rw [zqx];exact .refl _
 | a::r,b=>by
  have h1:Sts V (.app (.lam (z2v r.length b)) a) (z2v r.length (b.sub (a.sh r.length 0) r.length)):=by
   have:=Sts.beta (V:=V) (z2v r.length b) a;have e:=zov a r.length b 0;rw [La.sh_zero,Nat.zero_add] at e;rw [e] at this;exact this
  have h2:=z77 (V:=V) r (b.sub (a.sh r.length 0) r.length);have e:=zp7 a r b 0;rw [Nat.zero_add] at e;rw [e] at h2;exact (Sts.apps r h1).trans h2
def SubV (V W:Int→Option La):Prop:=∀ x v,V x=some v→W x=some v
theorem SubV.refl (V:Int→Option La):SubV V V:=fun _ _ h=>h
theorem SubV.trans {U V W:Int→Option La}(h1:SubV U V)(h2:SubV V W):SubV U W:=fun x v h=>h2 x v (h1 x v h)
theorem Be.more {V W:Int→Option La}(h:SubV V W){a b:La}(hb:Be V a b):Be W a b:=by
 induction hb with
 | con=>exact .con _ _ _
 | var=>exact .var _
 | bv=>exact .bv _
 | del hx=>exact .del (h _ _ hx)
 | lam _ ih=>exact .lam ih
 | app _ _ h1 h2=>exact .app h1 h2
 | beta _ _ h1 h2=>exact .beta h1 h2
theorem Sts.more {V W:Int→Option La}(h:SubV V W){a b:La}(hs:Sts V a b):Sts W a b:=by
 induction hs with
 | refl=>exact .refl _
 | step h1 _ ih=>exact .step (h1.imp (fun x=>x.more h) id) ih
theorem zld (s:Sto)(lv:Int):SubV (VS s) (VS (freshS s lv)):=fun x v h=>by
 unfold VS at h ⊢;by_cases hb:(infOf s.V x).bd=true
 · rw [if_pos hb] at h
   have hx:0≤x∧x<(s.V.length:Int):=by
    by_cases q:0≤x∧x<(s.V.length:Int)
    · exact q
    · rw [z4j q] at hb;cases hb
   rw [z54 hx.1 hx.2,if_pos hb];exact h
 · rw [if_neg hb] at h;cases h
theorem zic (s:Sto)(x:Int)(t:Tm):SubV (VS s) (VS (bindS s x t)):=fun y v h=>by
 unfold VS at h ⊢;by_cases hb:(infOf s.V y).bd=true
 · rw [if_pos hb] at h
   have hy:0≤y∧y<(s.V.length:Int):=by
    by_cases q:0≤y∧y<(s.V.length:Int)
    · exact q
    · rw [z4j q] at hb;cases hb
   by_cases q:z2t s x t=true
   · rcases z87 (s:=s) (y:=x) (t:=t) hy.1 hy.2 with h2 | ⟨h2,_⟩
     · rw [h2,if_pos hb];exact h
     · exfalso;have q':=q;simp only [z2t,Bool.and_eq_true] at q';rw [h2] at hb;have:=q'.2.1;rw [hb] at this;cases this
   · rw [(z3c (by simpa using q)).1,if_pos hb];exact h
 · rw [if_neg hb] at h;cases h
theorem Chg.sub {s s':Sto}(h:Chg s s'):SubV (VS s) (VS s'):=by
 induction h with
 | refl=>exact .refl _
 | fresh lv _ ih=>exact ih.trans (zld _ _)
 | bind x t _ ih=>exact ih.trans (zic _ _ _)
theorem znx {s:Sto}{x:Int}{t:Tm}(h:z2t s x t=true):VS (bindS s x t) x=some (toL t):=by
 have hx:=z6u h;obtain ⟨hl,e⟩:=z1w (V:=(bindS s x t).V) hx.1 (by rw [z1f];exact hx.2);unfold VS
 have:infOf (bindS s x t).V x=⟨(infOf s.V x).lv,true,t⟩:=by
  rw [e];simp only [(z1x h).1,List.getElem_set_self]
 rw [this];rfl
theorem zmk (p:Tm→Bool):∀ (l:List Tm) (i:Nat),ixF p l i≥0→∃ j:Nat,∃ h:j<l.length,ixF p l i=(i:Int)+(j:Int)∧p l[j]=true
 | [],i,h=>by simp only [ixF] at h;omega
 | t::l,i,h=>by
  rw [ixF] at h ⊢;split at h
  · rename_i q;rw [if_pos q];exact ⟨0,by simp,by omega,q⟩
  · rename_i q;rw [if_neg q];obtain ⟨j,hj,e,hp⟩:=zmk p l (i+1) h;exact ⟨j+1,by simp only [List.length_cons];omega,by rw [e];omega,hp⟩
def IsLf (t:Tm):Prop:=∃ n:Int,t= .mk 3 [] n []∧0≤n∨t= .mk 1 [] n []
theorem z98 {t:Tm}(hv:validB t=true)(hk:t.k=3∨t.k=1):IsLf t:=by
 obtain ⟨k,s,n,l⟩:=t;have hk:k=3∨k=1:=hk;have hl:l=[]:=okB0 (z04 _ hv) (by omega) (by omega);subst hl;rcases hk with rfl | rfl
 · have:=z6d hv (by omega);exact ⟨n, .inl ⟨by rw [this.1],this.2.1 (by omega)⟩⟩
 · rw [validB,if_neg (by decide),if_pos (by decide)] at hv;simp only [Bool.and_eq_true,beq_iff_eq] at hv;exact ⟨n, .inr (by rw [hv.1.1.2])⟩
theorem z5u {n:Int}:toL (.mk 1 [] n [])= .con 1 n []:=by
 rw [toL,mkL,if_neg (by decide),if_neg (by decide),if_neg (by decide),if_neg (by decide)]
theorem gs_at {L:List Tm}{j k:Nat}(hj:j<L.length):gs (toLs L) (k+L.length-1-j) k=(toL L[j]).sh k 0:=by
 have hl:(toLs L).length=L.length:=by rw [z0z,List.length_map]
 rw [gs,hl,if_neg (by omega),if_pos (by omega),show L.length-1-(k+L.length-1-j-k)=j by omega,z0z];congr 1;simp [List.getD,hj]
theorem wk_img {lv:Int}{L:List Tm}(hL:∀ u∈L,IsLf u){t:Tm}(ht:IsLf t)(k:Nat)(h:(imgT lv L t (k:Int)).2=true):(toL (imgT lv L t (k:Int)).1).wk (gs (toLs L)) k=toL t:=by
 unfold imgT at h ⊢;split
 · rename_i q;obtain ⟨n,⟨rfl,h0⟩ | rfl⟩:=ht
   · have q2:n<(k:Int):=q.2;show (toL (.mk 3 [] n [])).wk _ _=toL (.mk 3 [] n []);rw [z1h,La.wk,gs,if_pos (by omega)]
   · exact absurd q.1 (by show¬(1:Int)=3;decide)
 · rename_i q;rw [if_neg q] at h;split
   · rename_i q2;obtain ⟨j,hj,e,hp⟩:=zmk _ L 0 q2;rw [e];show (toL (.mk 3 [] ((k:Int)+(L.length:Int)-1-(((0:Nat):Int)+(j:Int))) [])).wk _ _=_;rw [z1h,La.wk,show ((k:Int)+(L.length:Int)-1-(((0:Nat):Int)+(j:Int))).toNat=k+L.length-1-j by omega,gs_at hj];simp only [lfB,Bool.and_eq_true,beq_iff_eq] at hp;obtain ⟨m,hm⟩:=hL L[j] (List.getElem_mem hj);obtain ⟨n,hn⟩:=ht;rcases hn with ⟨rfl,h0⟩ | rfl
     · have eo:outT (.mk 3 [] n []) (k:Int)= .mk 3 [] (n-k) []:=if_pos rfl;rw [eo] at hp;rcases hm with ⟨hm,_⟩ | hm
       · rw [hm] at hp ⊢;have e2:m=n-(k:Int):=hp.2;have q3:¬n<(k:Int):=fun w=>q ⟨rfl,w⟩;rw [z1h,z1h,La.sh,if_neg (by omega)];congr 1;omega
       · rw [hm] at hp;exact absurd hp.1 (by show¬(1:Int)=3;decide)
     · have eo:outT (.mk 1 [] n []) (k:Int)= .mk 1 [] n []:=if_neg (by show¬(1:Int)=3;decide);rw [eo] at hp;rcases hm with ⟨hm,_⟩ | hm
       · rw [hm] at hp;exact absurd hp.1 (by show¬(3:Int)=1;decide)
       · rw [hm] at hp ⊢;have e2:m=n:=hp.2;subst e2;rw [z5u];rfl
   · rename_i q2;rw [if_neg q2] at h;simp only [Bool.and_eq_true,beq_iff_eq] at h;obtain ⟨n,⟨rfl,_⟩ | rfl⟩:=ht
     · exact absurd h.1 (by show¬(3:Int)=1;decide)
     · rw [z5u];rfl
def im1 (lv:Int)(L:List Tm)(k:Int)(m:Nat):List Tm→Nat→List Tm
 | [],_=> []
 | t::l,i=>if (imgT lv L t k).2=true then bV3 ((m:Int)-1-(i:Int))::im1 lv L k m l (i+1) else im1 lv L k m l (i+1)
def im2 (lv:Int)(L:List Tm)(k:Int):List Tm→List Tm
 | []=> []
 | t::l=>if (imgT lv L t k).2=true then (imgT lv L t k).1::im2 lv L k l else im2 lv L k l
def kpt (lv:Int)(L:List Tm)(k:Int)(l:List Tm):List Tm:=l.filter fun t=>(imgT lv L t k).2
theorem zda (lv:Int)(L:List Tm)(k:Int)(m:Nat):∀ (l:List Tm) (i:Nat) (a:List Tm×List Tm),imgs lv L k m l i a=(a.1++im1 lv L k m l i,a.2++im2 lv L k l)
 | [],i,a=>by rw [imgs,im1,im2,List.append_nil,List.append_nil]
 | t::l,i,a=>by
  rw [imgs,zda lv L k m l,im1,im2];split
  · simp
  · rfl
theorem zne (lv:Int)(L:List Tm)(k:Int)(m:Nat):∀ (l:List Tm) (i:Nat),(im1 lv L k m l i).length=(kpt lv L k l).length
 | [],_=>rfl
 | t::l,i=>by
  rw [im1,kpt,List.filter_cons];split
  · rw [List.length_cons,List.length_cons,zne lv L k m l (i+1)];rfl
  · exact zne lv L k m l (i+1)
theorem zke {lv:Int}{L:List Tm}(hL:∀ u∈L,IsLf u)(k:Nat):∀ l:List Tm,(∀ t∈l,IsLf t)→(toLs (im2 lv L (k:Int) l)).map (fun a=>a.wk (gs (toLs L)) k)=toLs (kpt lv L (k:Int) l)
 | [],_=>rfl
 | t::l,h=>by
  have ih:=zke (lv:=lv) hL k l fun u hu=>h u (List.mem_cons_of_mem _ hu);rw [im2,kpt,List.filter_cons];split
  · rename_i q;rw [toLs,List.map_cons,ih,wk_img hL (h t List.mem_cons_self) k q,toLs];rfl
  · exact ih
theorem wk_im1 (lv:Int)(L:List Tm)(k:Int)(ls:List Tm):∀ (l pre:List Tm),ls=pre++l→(toLs (im1 lv L k ls.length l pre.length)).map (fun a=>a.wk (gs (toLs ls)) 0)=toLs (kpt lv L k l)
 | [],_,_=>rfl
 | t::l,pre,hl=>by
  have ih:=wk_im1 lv L k ls l (pre++ [t]) (by rw [hl];simp);rw [show (pre++ [t]).length=pre.length+1 by simp] at ih;rw [im1,kpt,List.filter_cons];split
  · have hj:pre.length<ls.length:=by rw [hl];simp
    have e:=gs_at (L:=ls) (k:=0) hj;rw [La.sh_zero,Nat.zero_add] at e;rw [toLs,List.map_cons,ih,toLs];congr 1;show (toL (.mk 3 [] ((ls.length:Int)-1-(pre.length:Int)) [])).wk _ _=_;rw [z1h,La.wk,show ((ls.length:Int)-1-(pre.length:Int)).toNat=ls.length-1-pre.length by omega,e];congr 1;simp [hl]
  · exact ih
def mo1 (c:Bool)(lvy:Int)(l:List Tm):List Tm:=l.filter fun t=>c&&(t.k==1&&decide (t.n≤lvy))
def mo2 (c:Bool)(lvy k:Int)(n:Nat):List Tm→Nat→List Tm
 | [],_=> []
 | t::l,i=>if (c&&(t.k==1&&decide (t.n≤lvy)))=true then bV3 (k+(n:Int)-1-(i:Int))::mo2 c lvy k n l (i+1) else mo2 c lvy k n l (i+1)
theorem zhd (c:Bool)(lvy k:Int)(n:Nat):∀ (l:List Tm) (i:Nat) (a:List Tm×List Tm),z6v c lvy k n l i a=(a.1++mo1 c lvy l,a.2++mo2 c lvy k n l i)
 | [],i,a=>by rw [z6v,mo1,mo2,List.filter_nil,List.append_nil,List.append_nil]
 | t::l,i,a=>by
  rw [z6v,zhd c lvy k n l,mo1,mo1,List.filter_cons,mo2];split
  · simp
  · rfl
theorem zuq {L:List Tm}(hL:∀ u∈L,IsLf u)(c:Bool)(lvy:Int)(k:Nat):∀ (l pre:List Tm),L=pre++l→(toLs (mo2 c lvy (k:Int) L.length l pre.length)).map (fun a=>a.wk (gs (toLs L)) k)=toLs (mo1 c lvy l)
 | [],_,_=>rfl
 | t::l,pre,hl=>by
  have ih:=zuq hL c lvy k l (pre++ [t]) (by rw [hl];simp);rw [show (pre++ [t]).length=pre.length+1 by simp] at ih;rw [mo2,mo1,List.filter_cons];split
  · rename_i q;simp only [Bool.and_eq_true,beq_iff_eq] at q;have hj:pre.length<L.length:=by rw [hl];simp
    have e:=gs_at (L:=L) (k:=k) hj;rw [toLs,List.map_cons,ih,toLs];congr 1;show (toL (.mk 3 [] ((k:Int)+(L.length:Int)-1-(pre.length:Int)) [])).wk _ _=_;rw [z1h,La.wk,show ((k:Int)+(L.length:Int)-1-(pre.length:Int)).toNat=k+L.length-1-pre.length by omega,e];have et:L[pre.length]=t:=by simp [hl]
    rw [et];obtain ⟨n,⟨rfl,_⟩ | rfl⟩:=hL t (by rw [hl];simp)
    · exact absurd q.2.1 (by show¬(3:Int)=1;decide)
    · rw [z5u];rfl
  · exact ih
theorem wk_mo1 (c:Bool)(lvy:Int)(g:Nat→Nat→La)(d:Nat):∀ l:List Tm,(∀ u∈l,IsLf u)→(toLs (mo1 c lvy l)).map (fun a=>a.wk g d)=toLs (mo1 c lvy l)
 | [],_=>rfl
 | t::l,h=>by
  have ih:=wk_mo1 c lvy g d l fun u hu=>h u (List.mem_cons_of_mem _ hu);unfold mo1 at ih ⊢;rw [List.filter_cons];split
  · rename_i q;simp only [Bool.and_eq_true,beq_iff_eq] at q;rw [toLs,List.map_cons,ih];obtain ⟨n,⟨rfl,_⟩ | rfl⟩:=h t List.mem_cons_self
    · exact absurd q.2.1 (by show¬(3:Int)=1;decide)
    · rw [z5u];rfl
  · exact ih
end Go.AM

set_option maxRecDepth 100000
open Go Go.Proofs
namespace Go.AM
theorem zpv {s:Sto}:∀ (F:Nat) (t:Tm),(runH s F t).2.1=0→(z0i s (runH s F t).1).2=0
 | 0,t,h=>by
  rw [runH] at h ⊢;split
  · rename_i q;exact q
  · rename_i q;rw [if_neg q] at h;cases h
 | F+1,t,h=>by
  rw [runH] at h ⊢;split
  · rename_i q;exact q
  · rename_i q;rw [if_neg q] at h;split
    · rename_i q2;rw [if_pos q2] at h;cases h
    · rename_i q2;rw [if_neg q2] at h;exact zpv F _ h
theorem zdw {s:Sto}{f:Int}{t:Tm}(h:(z0t s f t).2.2=0):(z0i s (z0t s f t).1).2=0:=by
 unfold z0t at h ⊢;split at h
 · rename_i hv;rw [if_pos hv];split at h
   · rename_i h1;rw [if_pos h1];exact zpv _ _ h1
   · rename_i h1;exact absurd h h1
 · cases h
theorem zko {z:Tm}(hv:validB z=true):toL z=apps (toL (z03 z).1) (toLs (z03 z).2):=by
 unfold z03;split
 · rename_i h;obtain ⟨k,s,n,l⟩:=z;have h6:k=6:=h.1;subst h6;rw [z2y,←List.drop_one];rfl
 · rfl
theorem zd7 {s:Sto}{z:Tm}(hv:validB z=true)(h:(z0i s z).2=0):((z03 z).1.k=5→(z03 z).2=[]∧(z03 z).1=z)∧((z03 z).1.k=4→(infOf s.V (z03 z).1.n).bd=false)∧(z03 z).1.k≠6:=by
 obtain ⟨k,str,n,l⟩:=z;have h0:=step0 h;unfold z03;split
 · rename_i q;have q6:k=6:=q.1;have h6:=h0.2 q6;obtain ⟨x,y,r,rfl,hx6,_⟩:=okB6 (z04 _ hv) q6;refine ⟨fun e=>absurd e h6.2,fun e=> ?_,hx6⟩;have:=h6.1;unfold valB at this;rw [show (hd (x::y::r)).k=4 from e] at this;have this:(((4:Int)==4)&&(infOf s.V x.n).bd)=false:=this;have this:(infOf s.V x.n).bd=false:=by simpa using this
   exact this
 · rename_i q;refine ⟨fun e=>⟨rfl,rfl⟩,fun e=> ?_,fun e=>q ⟨e,hv⟩⟩;have:=h0.1;unfold valB at this;rw [show (Tm.mk k str n l).k=4 from e] at this;simpa using this
theorem zjn {s:Sto}(hs:OKS s)(lv:Int):∀ (l out:List Tm) (f:Int),0≤f→(∀ t∈l,validB t=true→Fit f.toNat t)→(z2a s lv out l f).2.2=0→∃ ws,(z2a s lv out l f).1=out++ws∧All2 (fun t w=>Sts (VS s) (toL t) (toL w)) l ws
 | [],out,f,_,_,_=>⟨[],by rw [z2a,List.append_nil],trivial⟩
 | t::l,out,f,h0,hf,h=>by
  rw [z2a] at h ⊢;split at h
  · rename_i h1;exact absurd h h1
  · rename_i h1;rw [if_neg h1];split at h
    · cases h
    · rename_i h2;rw [if_neg h2];have h1:(z0k s f t).2.2=0:=by simpa using h1
      have ft:=hf t List.mem_cons_self;have ok:=z47 hs ft h1;obtain ⟨ws,e,ha⟩:=zjn hs lv l (out++ [z1d (z0k s f t).1]) (z0k s f t).2.1 ok.2.2.2.2.2.1 (fun u hu hv=>(hf u (List.mem_cons_of_mem _ hu) hv).mono (by have:=ok.2.2.2.2.2.2;omega)) h;refine ⟨z1d (z0k s f t).1::ws,by rw [e];simp, ?_,ha⟩
      have hb:z40 (z0k s f t).1=true:=by
       unfold z63 at h2;simp only [Bool.or_eq_true,Bool.not_eq_true',not_or] at h2;simpa using h2.1.1
      rw [z1d,if_pos hb];exact (z9w hs h0 ft h1).trans (z64 _ ok.2.1)
theorem zkl {s:Sto}(hs:OKS s){x:Int}{l:List Tm}{f:Int}(h0:0≤f)(hf:∀ t∈l,validB t=true→Fit f.toNat t)(h:(z0x s x l f).2.2=0):All2 (fun t w=>Sts (VS s) (toL t) (toL w)) l (z0x s x l f).1:=by
 unfold z0x at h ⊢;split
 · rename_i q;rw [if_pos q] at h;cases h
 · rename_i q;rw [if_neg q] at h;obtain ⟨ws,e,ha⟩:=zjn hs _ l [] f h0 hf h;rw [e];exact ha
theorem zga:∀ (n:Nat) {t:Tm},validB t=true→validB (z4m n t)=true
 | 0,_,h=>h
 | n+1,t,h=>by
  rw [z4m];refine zga n ?_;rw [z24] at h ⊢;rw [Bool.and_eq_true] at h ⊢;refine ⟨?_,by rw [z3l (.inl rfl)];exact zem fun u hu=>by rw [List.mem_singleton.1 hu];exact h.2⟩;rw [okB,if_neg (by decide),if_pos (by decide)];simp [okL,h.1]
theorem znf {f:Tm}{l:List Tm}(hf:validB f=true)(hl:∀ t∈l,validB t=true):validB (z09 f l)=true:=by
 have a:=z4a (args:=l) (z04 _ hf) (zk1 fun u hu=>z04 _ (hl u hu));have b:=z4c (args:=l) (z2i hf) (zem fun u hu=>z2i (hl u hu));rw [z24,a,b];rfl
theorem zol {n:Int}(h0:0≤n)(h1:n≤1000000):validB (bV3 n)=true:=by
 show validB (.mk 3 [] n [])=true;rw [validB,if_neg (by decide),if_neg (by decide),if_neg (by decide),if_pos (by decide)];simp only [Bool.and_eq_true,decide_eq_true_eq,beq_iff_eq];exact ⟨⟨⟨⟨h0,by omega⟩,trivial⟩,by simp [FTs]⟩,rfl⟩
theorem zuo {n:Int}(h0:0≤n)(h1:n≤1073741824):validB (.mk 4 [] n [])=true:=by
 rw [validB,if_neg (by decide),if_neg (by decide),if_neg (by decide),if_neg (by decide),if_pos (by decide)];simp only [Bool.and_eq_true,decide_eq_true_eq,beq_iff_eq];exact ⟨⟨⟨⟨h0,by omega⟩,trivial⟩,by simp [FTs]⟩,rfl⟩
theorem im1_P (lv:Int)(L:List Tm)(k:Int)(m:Nat)(hm:m≤900):∀ (l:List Tm) (i:Nat),i+l.length≤m→∀ t∈im1 lv L k m l i,validB t=true∧∀ p,wG p t (m:Int)=true
 | [],_,_,t,h=>by rw [im1] at h;cases h
 | u::l,i,hi,t,h=>by
  simp only [List.length_cons] at hi;rw [im1] at h;split at h
  · rcases List.mem_cons.1 h with rfl | h
    · exact ⟨zol (by omega) (by omega),fun p=>wG_bV (by omega)⟩
    · exact im1_P lv L k m hm l (i+1) (by omega) t h
  · exact im1_P lv L k m hm l (i+1) (by omega) t h
theorem mo1_P (c:Bool)(lvy:Int){l:List Tm}(hl:∀ u∈l,validB u=true):∀ t∈mo1 c lvy l,validB t=true∧∀ d,wG (fun _ _=>true) t d=true:=fun t h=>by
 unfold mo1 at h;rw [List.mem_filter] at h;simp only [Bool.and_eq_true,beq_iff_eq] at h;exact ⟨hl t h.1,fun d=>zwd (.inr h.2.2.1) (fun e=>absurd (e.symm.trans h.2.2.1) (by decide)) (fun _=>rfl)⟩
theorem zbm {s:Sto}{y lv:Int}{m:Nat}{on:List Tm}(hy:inB s.V y=true)(hf:(infOf s.V y).bd=false)(hV:s.V.length≤1073741824)(ho:∀ t∈on,validB t=true∧wG (fun _ _=>true) t (m:Int)=true):z2t (freshS s lv) y (z5m s m on)=true:=by
 have h0:=z5o.1 hy;have hv:validB (z5m s m on)=true:=zga m (znf (zuo (by omega) (by omega)) fun t ht=>(ho t ht).1);have hw:wG (fun _ _=>true) (z5m s m on) 0=true:=zwc m (by rw [Int.zero_add];exact ztp (wG_var rfl) fun t ht=>(ho t ht).2);have hl:=zqy _ 0 0 hw (Int.le_refl _);unfold z2t;rw [hv,hl,z54 h0.1 h0.2,hf,z5o.2 ⟨h0.1,by rw [(zdz s lv).1];omega⟩];rfl
section
variable {C:Nat} (hC:C≤1073741824) {L:List Tm} (hL:LP L) (hLf:∀ u∈L,IsLf u) (hLv:∀ u∈L,validB u=true) (x lv:Int)
include hC hL hLf hLv
omit hC hL in
theorem zv0 {q:IS}{y:Int}{k:Nat}{ls:List Tm}{f:Int}(hV:q.s.V.length≤1073741824)(hy:inB q.s.V y=true)(hf:(infOf q.s.V y).bd=false)(hls:∀ t∈ls,IsLf t)(hll:ls.length≤900){S:Int→Option La}(hS:SubV (VS (z65 lv L q y (k:Int) ls f).2.s) S):
  Eqv S (.wk (gs (toLs L)) (toL (z65 lv L q y (k:Int) ls f).1) k) (apps (.var y) (toLs ls)):=by
 unfold z65 at hS ⊢;rw [zda,List.nil_append,List.nil_append] at*;dsimp only at*;split
 · rename_i h1;rw [zne] at h1
   have ek:kpt lv L (k:Int) ls=ls:=by
    refine List.filter_eq_self.2 fun t ht=> ?_;have:=List.length_filter_eq_length_iff.1 h1.1;exact this t ht
   rw [z1m,z4q,z7z,zke hLf k ls hls,ek];exact .refl _
 · rename_i h1;rw [if_neg h1] at hS;unfold onF at hS ⊢;rw [zda,List.nil_append,List.nil_append,zhd] at*;dsimp only at*
   have ho:∀ t∈im1 lv L (k:Int) ls.length ls 0++mo1 (decide ((infOf q.s.V y).lv>lv)) (infOf q.s.V y).lv L,validB t=true∧wG (fun _ _=>true) t (ls.length:Int)=true:=fun t ht=>by
    rcases List.mem_append.1 ht with ht | ht
    · have:=im1_P lv L (k:Int) ls.length hll ls 0 (by omega) t ht;exact ⟨this.1,this.2 _⟩
    · have:=mo1_P _ _ hLv t ht;exact ⟨this.1,this.2 _⟩
   have hb:=znx (zbm (lv:=z0d [lv,(infOf q.s.V y).lv]) hy hf hV ho);have hy':S y=some (toL (z5m q.s ls.length (im1 lv L (k:Int) ls.length ls 0++mo1 (decide ((infOf q.s.V y).lv>lv)) (infOf q.s.V y).lv L))):=hS _ _ hb
   have e1:Sts S (apps (.var y) (toLs ls)) (apps (.var (q.s.V.length:Int)) (toLs (kpt lv L (k:Int) ls)++toLs (mo1 (decide ((infOf q.s.V y).lv>lv)) (infOf q.s.V y).lv L))):=by
    refine (Sts.apps _ (Sts.del hy')).trans ?_;have hl:(toLs ls).length=ls.length:=by rw [z0z,List.length_map]
    have:=z77 (V:=S) (toLs ls) (apps (.var (q.s.V.length:Int)) (toLs (im1 lv L (k:Int) ls.length ls 0++mo1 (decide ((infOf q.s.V y).lv>lv)) (infOf q.s.V y).lv L)));have w1:=wk_im1 lv L (k:Int) ls ls [] rfl;rw [List.length_nil] at w1;rw [hl,z7z,z4u,List.map_append,w1,wk_mo1 _ _ _ _ L hLf] at this;rw [z5m,z5j,z1m,z4q,z4u];exact this
   have w2:=zuq hLf (decide ((infOf q.s.V y).lv>lv)) (infOf q.s.V y).lv k L [] rfl;rw [List.length_nil] at w2;rw [z1m,z4q,z7z,z4u,List.map_append,zke hLf k ls hls,w2];exact (Eqv.of e1).symm
omit hC hL hLf hLv in
theorem zvv {tm:IS→Tm→Tm×IS}(he:∀ q t,q.e≠0→(tm q t).2.e≠0):∀ (l:List Tm) (q:IS),(z1u tm l q).2.e=0→q.e=0
 | [],_,h=>h
 | t::l,q,h=>by
  have:=zvv he l (tm q t).2 h;by_cases q0:q.e=0
  · exact q0
  · exact absurd this (he q t q0)
omit hC hL hLf hLv in
theorem zq7 {tm:IS→Tm→Tm×IS} {f0:Int} {k:Nat} {S:Int→Option La} (he:∀ q t,q.e≠0→(tm q t).2.e≠0) (hch:∀ q t,SubV (VS q.s) (VS (tm q t).2.s))
  (hgi:∀ q t,GI C q→0≤q.f→q.f≤f0→(q.e=0→validB t=true→Fit q.f.toNat t)→GI C (tm q t).2∧(tm q t).2.f≤q.f∧0≤(tm q t).2.f)
  (htm:∀ q t,GI C q→0≤q.f→q.f≤f0→(q.e=0→validB t=true→Fit q.f.toNat t)→(tm q t).2.e=0→SubV (VS (tm q t).2.s) S→Eqv S (.wk (gs (toLs L)) (toL (tm q t).1) k) (toL t)):
  ∀ (l:List Tm) (q:IS),GI C q→0≤q.f→q.f≤f0→(∀ t∈l,validB t=true→Fit q.f.toNat t)→(z1u tm l q).2.e=0→SubV (VS (z1u tm l q).2.s) S→
   SubV (VS q.s) (VS (z1u tm l q).2.s)∧All2 (Eqv S) ((toLs (z1u tm l q).1).map fun a=>a.wk (gs (toLs L)) k) (toLs l)
 | [],q,_,_,_,_,_,_=>⟨.refl _,trivial⟩
 | t::l,q,h,h0,h1,hl,hz,hS=>by
  have a:=hgi q t h h0 h1 (fun _=>hl t List.mem_cons_self);have r:=zq7 he hch hgi htm l (tm q t).2 a.1 a.2.2 (by omega) (fun u hu hv=>(hl u (List.mem_cons_of_mem _ hu) hv).mono (by omega)) hz hS;have ez:=zvv he l (tm q t).2 hz;have b:=htm q t h h0 h1 (fun _=>hl t List.mem_cons_self) ez (r.1.trans hS);exact ⟨(hch q t).trans r.1,b,r.2⟩
omit hC hL hLf hLv in
theorem z6s {S:Int→Option La}:∀ (a b:List La) (f g:La),Eqv S f g→All2 (Eqv S) a b→Eqv S (apps f a) (apps g b)
 | [],[],_,_,h,_=>h
 | x::a,y::b,f,g,h,h2=>z6s a b (.app f x) (.app g y) (h.app h2.1) h2.2
 | [],_::_,_,_,_,h2=>h2.elim
 | _::_,[],_,_,_,h2=>h2.elim
theorem zon {S:Int→Option La}(hcl:ClV S):∀ (D:Nat) (q:IS) (t:Tm) (k:Nat),GI C q→0≤q.f→(q.e=0→validB t=true→Fit q.f.toNat t)→(z0j x lv L D q t (k:Int)).2.e=0→SubV (VS (z0j x lv L D q t (k:Int)).2.s) S→
  Eqv S (.wk (gs (toLs L)) (toL (z0j x lv L D q t (k:Int)).1) k) (toL t)
 | 0,q,t,k,h,h0,_,he,_=>by
  rw [z0j] at he;split at he
  · rename_i q1;exact absurd he q1
  · exact absurd he (z1n _ (by decide))
 | D+1,q,t,k,h,h0,hf,he,hS=>by
  rw [z0j] at he hS ⊢;split at he
  · rename_i q1;exact absurd he q1
  rename_i q1;rw [if_neg q1] at hS ⊢;have e0:q.e=0:=by simpa using q1
  split at he
  · exact absurd he (z1n _ (by decide))
  rename_i hf0;rw [if_neg hf0] at hS ⊢;have hfit:validB t=true→Fit (q.f-1).toNat t:=fun hv=>(hf e0 hv).mono (by omega);unfold zj5 at he hS ⊢;split at he
  · rename_i hz;exact absurd he (z1n _ hz)
  rename_i hz;rw [if_neg hz] at hS ⊢;have hz0:(z0t q.s (q.f-1) t).2.2=0:=by simpa using hz
  have ok:=z6m h.ok (by omega) hfit hz0;have st:=zjh h.ok hfit hz0;have en:=zdw hz0;have hV:=h.V;generalize z0t q.s (q.f-1) t=z at*;obtain ⟨z1,z2,z3⟩:=z;dsimp only at ok st en he hS ⊢;obtain ⟨hval,hfz,hz0',hz1⟩:=ok;have sp:=z22 ⟨hval,hfz⟩;have se:=zd7 hval en;have g:GI C ⟨q.s,z2,q.e⟩:=h.less hz0' (by omega);have ih:=fun q' t' k'=>zon hcl D q' t' k';have gi:=fun q' t' k'=>z9c hC hL x lv D q' t' k'
  have tot:SubV (VS q.s) S:=by
   have c:=(z4y (s0:=q.s) x lv L (D+1) q t (k:Int) .refl).sub;rw [z0j,if_neg q1,if_neg hf0] at c;unfold zj5 at c;refine SubV.trans ?_ hS
   have c2:Chg q.s (z5t x lv L (z0j x lv L D) ⟨q.s,z2,q.e⟩ (z03 z1) (k:Int)).2.s:=by
    unfold z5t;split
    · exact z4y x lv L D ⟨q.s,z2,q.e⟩ _ _ .refl
    · split
      · split
        · exact Chg.fail (q:=⟨q.s,z2,q.e⟩) .refl _
        · exact zm3 lv L (q:=⟨q.s,z2,q.e⟩) .refl _ _ _
      · unfold zfp;split
        · exact Chg.fail (q:=⟨q.s,z2,q.e⟩) .refl _
        · exact zcr (fun q' t' a=>z4y x lv L D q' t' (k:Int) a) _ ⟨q.s,z2,q.e⟩ .refl
   exact c2.sub
  have e1:Eqv S (toL t) (toL z1):=Eqv.of (st.more tot);refine Eqv.trans hcl ?_ e1.symm;rw [zko hval];unfold z5t at he hS ⊢;split at he
  · rename_i h5;rw [if_pos h5] at hS ⊢;obtain ⟨s1,s2⟩:=se.1 h5;have h5:z1.k=5:=by have:=h5;rw [s2] at this;exact this
    rw [s2,show (k:Int)+1=((k+1:Nat):Int) by omega] at he hS ⊢;rw [s1]
    have hne:z1.l ≠ []:=fun e=>by
     obtain ⟨wk,ws,wn,wl⟩:=z1;obtain ⟨u,hu,_⟩:=okB5 (z04 _ hval) h5;rw [hu] at e;cases e
    have hm:hd z1.l∈z1.l:=zwr hne;have r:=ih ⟨q.s,z2,q.e⟩ (hd z1.l) (k+1) g hz0' (fun _ _=>hfz.kid hm) he hS;show Eqv S (.wk _ (toL (z4m 1 _)) k) (toL z1);rw [z5j];clear se sp st en e1;obtain ⟨wk,ws,wn,wl⟩:=z1;have h5:wk=5:=h5;subst h5;rw [z1j];exact r.lam
  rename_i h5;rw [if_neg h5] at hS ⊢;split at he
  · rename_i h4;rw [if_pos h4] at hS ⊢;split at he
    · exact absurd he (z1n _ (by decide))
    rename_i hx;rw [if_neg hx] at hS ⊢;have hfa:∀ t∈(z03 z1).2,validB t=true→Fit z2.toNat t:=fun t ht _=>(sp.2.1 t ht).2;have ha:=z4v g.ok (z03 z1).1.n (z03 z1).2 z2 hfa;unfold z3m at he hS ⊢;split at he
    · rename_i hr;exact absurd he (z1n _ hr)
    rename_i hr;rw [if_neg hr] at hS ⊢;have hr0:(z0x q.s (z03 z1).1.n (z03 z1).2 z2).2.2=0:=by simpa using hr
    have a2:=ha.2.1 hz0' hr0;have as_:=zkl g.ok hz0' hfa hr0;have f1:=g.f1;have r:=zv0 (lv:=lv) hLf hLv (q:=⟨q.s,z2,q.e⟩) (y:=(z03 z1).1.n) (k:=k) (ls:=(z0x q.s (z03 z1).1.n (z03 z1).2 z2).1) (f:=(z0x q.s (z03 z1).1.n (z03 z1).2 z2).2.1) (by dsimp only;omega) a2.2.2 (se.2.1 h4) (fun t ht=>z98 (ha.1 t ht).2.2.2.2 (ha.1 t ht).2.1) (by dsimp only at*;omega) hS;refine r.trans hcl ?_
    have ev:toL (z03 z1).1= .var (z03 z1).1.n:=by
     have hv1:=sp.1.1;generalize (z03 z1).1=w at*;obtain ⟨wk,ws,wn,wl⟩:=w;have h4:wk=4:=h4;subst h4;rw [z4q];rfl
    rw [ev];exact (Eqv.of ((zcc _ _ _ _ (.refl _) (za1 as_)).more tot)).symm
  rename_i h4;rw [if_neg h4] at hS ⊢;unfold zfp at he hS ⊢;split at he
  · exact absurd he (z1n _ (by decide))
  rename_i hi;rw [if_neg hi] at hS ⊢;have hch:∀ (q':IS) (t':Tm),SubV (VS q'.s) (VS (z0j x lv L D q' t' (k:Int)).2.s):=fun q' t'=>(z4y (s0:=q'.s) x lv L D q' t' (k:Int) .refl).sub;have kk:=zq7 (C:=C) (L:=L) (k:=k) (S:=S) (tm:=fun q t=>z0j x lv L D q t (k:Int)) (f0:=z2) (fun q' t' a=>by rw [zlm x lv L D t' (k:Int) a];exact a) hch (fun q' t' a b _ d=>gi q' t' (k:Int) a b d) (fun q' t' a b _ d e f=>ih q' t' k a b d e f) (z03 z1).2 ⟨q.s,z2,q.e⟩ g hz0' (Int.le_refl _) (fun t ht _=>(sp.2.1 t ht).2) he hS;rw [z1m,z7z];refine z6s _ _ _ _ ?_ kk.2;split
  · rename_i h31
    have c:(imgT lv L (z03 z1).1 (k:Int)).2=true:=by
     by_cases c:(imgT lv L (z03 z1).1 (k:Int)).2=true
     · exact c
     · exact absurd ⟨h31,by simpa using c⟩ hi
    rw [wk_img hLf (z98 sp.1.1 h31) k c];exact .refl _
  · rename_i h31;have h6:=se.2.2;generalize (z03 z1).1=w at*;obtain ⟨wk,ws,wn,wl⟩:=w;have h5:¬wk=5:=h5;have h4:¬wk=4:=h4;have h6:¬wk=6:=h6;have h31:¬(wk=3∨wk=1):=h31;have:toL (.mk wk ws wn wl)= .con wk wn ws:=by rw [toL,mkL,if_neg h5,if_neg h6,if_neg (by omega),if_neg h4]
    rw [this];exact .refl _
end
theorem zsu {C:Nat} (hC:C≤1073741824) {s:Sto} (hs:OKS s) {x:Int} {l:List Tm} {t:Tm} {f:Int} (h0:0≤f) (hf:f≤157) (hV:s.V.length+f.toNat≤C) (hT:s.T.length+f.toNat≤C) (hl:l.length≤157) (hfit:validB t=true→Fit f.toNat t) (he:(z05 s x l t f).1.2.2=0)
  {S:Int→Option La} (hcl:ClV S) (hS:SubV (VS (z05 s x l t f).2) S):Eqv S (apps (toL (z05 s x l t f).1.1) (toLs l)) (toL t):=by
 unfold z05 at he hS ⊢;split
 · rename_i q;rw [if_pos q] at he;cases he
 · rename_i hc;rw [if_neg hc] at he hS;simp only [Bool.or_eq_true,not_or] at hc;have hlf:∀ u∈l,z4d u=true:=fun u hu=>by have:=List.any_eq_false.1 (by simpa using hc.2:(l.any fun u=> !z4d u)=false) u hu;simpa using this
   have hL:LP l:=⟨by omega,fun u hu=>(z53 (hlf u hu)).1⟩;have hLv:∀ u∈l,validB u=true:=fun u hu=>by have:=hlf u hu;unfold z4d at this;rw [Bool.and_eq_true] at this;exact this.1
   have hLf:∀ u∈l,IsLf u:=fun u hu=>z98 (hLv u hu) (z53 (hlf u hu)).2.1;split
   · rename_i q;rw [if_pos q] at he;exact absurd he q
   · rename_i q;rw [if_neg q] at he hS;have q:(z0j x (infOf s.V x).lv l f.toNat ⟨s,f,0⟩ t 0).2.e=0:=by simpa using q
     have r:=zon hC hL hLf hLv x (infOf s.V x).lv hcl f.toNat ⟨s,f,0⟩ t 0 ⟨hs,hV,hT,by simp only;omega,by simp only;omega⟩ h0 (fun _=>hfit) q hS;rw [z5j];have hl2:(toLs l).length=l.length:=by rw [z0z,List.length_map]
     have b:=z77 (V:=S) (toLs l) (toL (z0j x (infOf s.V x).lv l f.toNat ⟨s,f,0⟩ t 0).1);rw [hl2] at b;exact (Eqv.of b).trans hcl r
end Go.AM

set_option maxRecDepth 100000
open Go Go.Proofs

set_option maxRecDepth 100000
open Go Go.Proofs
namespace Go.AM
theorem wG_lift {p:Int→Int→Bool}:∀ (t:Tm) (d:Nat),validB t=true→wG p t (d:Int)=true→∀ k:Nat,d≤k→(toL t).lift k=toL t:=by
 refine Tm.ind fun t ih=> ?_;intro d hv hw k hk;have h5k:=fun h u hu=>wG_kid5 (u:=u) hw h hu;have h6k:=fun h u hu=>zt6 (u:=u) hw h hu;obtain ⟨j,s,n,l⟩:=t;by_cases h5:j=5
 · subst h5;obtain ⟨b,rfl,_⟩:=okB5 (z04 _ hv) rfl;rw [z1j,La.lift];congr 1;exact ih b List.mem_cons_self (d+1) (z08 hv (.inl rfl) b List.mem_cons_self) (h5k rfl b List.mem_cons_self) (k+1) (by omega)
 · by_cases h6:j=6
   · subst h6;obtain ⟨x,y,r,rfl,_,_⟩:=okB6 (z04 _ hv) rfl;have vl:=z08 hv (.inr rfl);rw [z2y,z35];have all:∀ u∈x::y::r,(toL u).lift k=toL u:=fun u hu=>ih u hu d (vl u hu) (h6k rfl u hu) k hk;congr 1
     · exact all x List.mem_cons_self
     · rw [z0z,List.map_map];exact List.map_congr_left fun u hu=>all u (List.mem_cons_of_mem _ hu)
   · by_cases h3:j=3
     · subst h3;have:=(zfn.1 hw).1;unfold gB at this;rw [if_pos rfl] at this;have:=of_decide_eq_true this;have:=zan hv rfl;rw [z1h,La.lift,if_pos (by omega)]
     · rcases z69 (k:=j) (n:=n) (s:=s) (l:=l) h5 h6 h3 with e | e<;>rw [e]<;>rfl
end Go.AM

set_option maxRecDepth 100000
open Go Go.Proofs
namespace Go.AM
section
variable {V:Int→Option La}
theorem Sts.lift (hV:ClV V){a b:La}(h:Sts V a b)(k:Nat):Sts V (a.lift k) (b.lift k):=by
 induction h with
 | refl=>exact .refl _
 | step h _ ih=>exact .step (h.imp (fun h=>zo4 hV h k) (fun h=>ztj h k)) ih
theorem Eqv.lift (hV:ClV V){a b:La}(h:Eqv V a b)(k:Nat):Eqv V (a.lift k) (b.lift k):=let ⟨c,h1,h2⟩:=h;⟨c.lift k,h1.lift hV k,h2.lift hV k⟩
theorem Sts.pull (hV:ClV V){a n:La}(h:Sts V a n):∀ {u:La} {k:Nat},a=u.lift k→∃ n',n=n'.lift k∧Sts V u n':=by
 induction h with
 | refl a=>intro u k e;exact ⟨u,e, .refl _⟩
 | @step a b c h _ ih=>
  intro u k e;subst e
  obtain ⟨n',e1,h1⟩:∃ n',b=La.lift n' k∧St1 V u n':=by
   rcases h with h | h
   · obtain ⟨n',e,h⟩:=z7l hV u k _ h;exact ⟨n',e, .inl h⟩
   · obtain ⟨n',e,h⟩:=zbe _ u k _ (Nat.le_refl _) h;exact ⟨n',e, .inr h⟩
  obtain ⟨n2,e2,h2⟩:=ih e1;exact ⟨n2,e2, .step h1 h2⟩
theorem Eqv.more {V W:Int→Option La}(h:SubV V W){a b:La}(he:Eqv V a b):Eqv W a b:=let ⟨c,h1,h2⟩:=he;⟨c,h1.more h,h2.more h⟩
theorem zq4 {α β:Type}{R:α→β→Prop}:∀ {a:List α} {b:List β},All2 R a b→a.length=b.length
 | [],[],_=>rfl
 | _::_,_::_,h=>by simp [zq4 h.2]
 | [],_::_,h=>h.elim
 | _::_,[],h=>h.elim
theorem zmz {α β γ:Type}{R:α→β→Prop}{S:γ→γ→Prop}(f:α→γ)(g:β→γ)(hRS:∀ x y,R x y→S (f x) (g y)):∀ {a:List α} {b:List β},All2 R a b→All2 S (a.map f) (b.map g)
 | [],[],_=>trivial
 | _::_,_::_,h=>⟨hRS _ _ h.1,zmz f g hRS h.2⟩
 | [],_::_,h=>h.elim
 | _::_,[],h=>h.elim
theorem zcg {α β:Type}{R S:α→β→Prop}(hRS:∀ x y,R x y→S x y):∀ {a:List α} {b:List β},All2 R a b→All2 S a b
 | [],[],_=>trivial
 | _::_,_::_,h=>⟨hRS _ _ h.1,zcg hRS h.2⟩
 | [],_::_,h=>h.elim
 | _::_,[],h=>h.elim
theorem z7a {α β γ:Type}{R:α→β→Prop}{S:β→γ→Prop}{T:α→γ→Prop}(h:∀ x y z,R x y→S y z→T x z):∀ {a:List α} {b:List β} {c:List γ},All2 R a b→All2 S b c→All2 T a c
 | [],[],[],_,_=>trivial
 | _::_,_::_,_::_,h1,h2=>⟨h _ _ _ h1.1 h2.1,z7a h h1.2 h2.2⟩
 | [],_::_,_,h1,_=>h1.elim
 | _::_,[],_,h1,_=>h1.elim
 | [],[],_::_,_,h2=>h2.elim
 | _::_,_::_,[],_,h2=>h2.elim
theorem z62 {α β:Type}{R:α→β→Prop}{S:β→α→Prop}(hRS:∀ x y,R x y→S y x):∀ {a:List α} {b:List β},All2 R a b→All2 S b a
 | [],[],_=>trivial
 | _::_,_::_,h=>⟨hRS _ _ h.1,z62 hRS h.2⟩
 | [],_::_,h=>h.elim
 | _::_,[],h=>h.elim
theorem z4w {α:Type}{R:α→α→Prop}(h:∀ x,R x x):∀ a:List α,All2 R a a
 | []=>trivial
 | x::a=>⟨h x,z4w h a⟩
theorem z9r {α β:Type}{R:α→β→Prop}{x:α}{y:β}(hx:R x y):∀ {a:List α} {b:List β},All2 R a b→All2 R (a++ [x]) (b++ [y])
 | [],[],_=>⟨hx,trivial⟩
 | _::_,_::_,h=>⟨h.1,z9r hx h.2⟩
 | [],_::_,h=>h.elim
 | _::_,[],h=>h.elim
theorem zo8 {α β:Type}{R:α→β→Prop}:∀ {a:List α} {b:List β},All2 R a b→∀ x∈a,∃ y∈b,R x y
 | [],[],_,x,hx=>by cases hx
 | u::a,v::b,h,x,hx=>by
  rcases List.mem_cons.1 hx with rfl | hx
  · exact ⟨v,List.mem_cons_self,h.1⟩
  · obtain ⟨y,hy,hr⟩:=zo8 h.2 x hx;exact ⟨y,List.mem_cons_of_mem _ hy,hr⟩
 | [],_::_,h,_,_=>h.elim
 | _::_,[],h,_,_=>h.elim
def HdL (V:Int→Option La):La→Prop
 | .con _ _ _=>True
 | .bv _=>True
 | .var x=>V x=none
 | _=>False
theorem zxw {h:La}(hh:∀ b,h ≠ .lam b)(az:List La):∀ b,apps h az ≠ .lam b:=fun b e=>by
 by_cases ha:az=[]
 · subst ha;exact hh b e
 · obtain ⟨l',a,_,h2⟩:=z78 h az ha;rw [h2] at e;cases e
theorem HdL.nlam {h:La}(hh:HdL V h):∀ b,h ≠ .lam b:=fun b e=>by subst e;exact hh
theorem HdL.napp {h:La}(hh:HdL V h):∀ x y,h ≠ .app x y:=fun x y e=>by subst e;exact hh
theorem znl {h:La}(hh:HdL V h):∀ (n:Nat) (az:List La) {c:La},az.length=n→St1 V (apps h az) c→∃ cs,c=apps h cs∧All2 (Sts V) az cs
 | 0,az,c,hn,hs=>by
  have:az=[]:=List.eq_nil_of_length_eq_zero hn;subst this;refine ⟨[], ?_,trivial⟩;cases h with
  | con=>exact hs.elim zgw zg2
  | bv=>exact hs.elim zhm zme
  | var x=>
   rcases hs with hs | hs
   · rcases zkg hs with e | e
     · exact e
     · rw [show V x=none from hh] at e;cases e
   · exact zh3 hs
  | lam=>exact hh.elim
  | app=>exact hh.elim
 | n+1,az,c,hn,hs=>by
  obtain ⟨l,a,e1,e2⟩:=z78 h az (fun e=>by rw [e] at hn;cases hn);subst e1;rw [e2] at hs;have hl:l.length=n:=by simpa using hn
  rcases hs with hs | hs
  · rcases zbz hs with ⟨f',a',rfl,h1,h2⟩ | ⟨b,b',a',e,_,_,_⟩
    · obtain ⟨cs,rfl,h3⟩:=znl hh n l hl (.inl h1);exact ⟨cs++ [a'],by rw [z38];rfl,z9r (.one (.inl h2)) h3⟩
    · exact absurd e (zxw hh.nlam l b)
  · obtain ⟨f',a',rfl,h1,h2⟩:=zds hs;obtain ⟨cs,rfl,h3⟩:=znl hh n l hl (.inr h1);exact ⟨cs++ [a'],by rw [z38];rfl,z9r (.one (.inr h2)) h3⟩
theorem zp0 {h:La}(hh:HdL V h){t c:La}(hs:Sts V t c):∀ {az:List La},t=apps h az→∃ cs,c=apps h cs∧All2 (Sts V) az cs:=by
 induction hs with
 | refl a=>intro az e;exact ⟨az,e,z4w .refl az⟩
 | step h1 _ ih=>
  intro az e;subst e;obtain ⟨ds,rfl,h2⟩:=znl hh _ az rfl h1;obtain ⟨cs,e,h3⟩:=ih rfl;exact ⟨cs,e,z7a (fun _ _ _ a b=>a.trans b) h2 h3⟩
theorem zfz {h g:La}(hh:HdL V h)(hg:HdL V g){az bs:List La}(he:Eqv V (apps h az) (apps g bs)):h=g∧All2 (Eqv V) az bs:=by
 obtain ⟨c,h1,h2⟩:=he;obtain ⟨xs,e1,a1⟩:=zp0 hh h1 rfl;obtain ⟨ys,e2,a2⟩:=zp0 hg h2 rfl;rw [e1] at e2;obtain ⟨e3,e4⟩:=zpa hh.napp hg.napp e2;subst e4;exact ⟨e3,z7a (fun x y z a b=>⟨y,a,b⟩) a1 (z62 (fun _ _ a=>a) a2)⟩
theorem HdL.lift {h:La}(hh:HdL V h)(k:Nat):HdL V (h.lift k):=by
 cases h with
 | con=>exact hh
 | bv=>rw [La.lift];split<;>trivial
 | var=>exact hh
 | lam=>exact hh.elim
 | app=>exact hh.elim
theorem HdL.unlift {h:La}{k:Nat}(hh:HdL V (h.lift k)):HdL V h:=by
 cases h with
 | con=>exact hh
 | bv=>trivial
 | var=>exact hh
 | lam=>exact hh.elim
 | app=>exact hh.elim
theorem z6k {h:La}(hn:∀ x y,h ≠ .app x y)(k:Nat):∀ (n:Nat) (az:List La) (u:La),az.length=n→u.lift k=apps h az→∃ h0 as0,u=apps h0 as0∧h=h0.lift k∧az=as0.map fun a=>a.lift k
 | 0,az,u,hl,e=>by
  have:az=[]:=List.eq_nil_of_length_eq_zero hl;subst this;exact ⟨u,[],rfl,e.symm,rfl⟩
 | n+1,az,u,hl,e=>by
  obtain ⟨l,a,e1,e2⟩:=z78 h az (fun e=>by rw [e] at hl;cases hl);subst e1;rw [e2] at e;cases u with
  | con=>cases e
  | var=>cases e
  | lam=>cases e
  | bv m=>rw [La.lift] at e;split at e<;>cases e
  | app f x=>
   rw [La.lift] at e;injection e with e3 e4
   obtain ⟨h0,as0,rfl,e5,e6⟩:=z6k hn k n l f (by simpa using hl) e3;exact ⟨h0,as0++ [x],by rw [z38];rfl,e5,by rw [e6,List.map_append,e4.symm];rfl⟩
def lfQ (lv:Int)(q:Int→Prop):La→Prop
 | .bv _=>True
 | .con k n s=>k=1∧s=[]∧lv<n∧q n
 | _=>False
structure PatL (V:Int→Option La)(lv:Int)(q:Int→Prop)(az ls:List La):Prop where
 eq:All2 (Eqv V) az ls
 lf:∀ l∈ls,lfQ lv q l
 nd:ls.Nodup
 c0:0≤lv
inductive Gd (V:Int→Option La)(lv:Int→Int)(p q:Int→Prop):La→Prop
 | lam {t b:La}:Eqv V t (.lam b)→Gd V lv p q b→Gd V lv p q t
 | rig {t h:La} {az:List La}:(∀ x,h ≠ .var x)→HdL V h→Eqv V t (apps h az)→(∀ a∈az,Gd V lv p q a)→Gd V lv p q t
 | flx {t:La} {x:Int} {az ls:List La}:V x=none→p x→Eqv V t (apps (.var x) az)→PatL V (lv x) q az ls→Gd V lv p q t
theorem lfQ.lift {c:Int}{q:Int→Prop}{l:La}(h:lfQ c q l)(k:Nat):lfQ c q (l.lift k):=by
 cases l with
 | con=>exact h
 | bv=>rw [La.lift];split<;>trivial
 | var=>exact h.elim
 | lam=>exact h.elim
 | app=>exact h.elim
theorem lfQ.unlift {c:Int}{q:Int→Prop}{l:La}{k:Nat}(h:lfQ c q (l.lift k)):lfQ c q l:=by
 cases l with
 | con=>exact h
 | bv=>trivial
 | var=>exact h.elim
 | lam=>exact h.elim
 | app=>exact h.elim
theorem lfQ.nf {c:Int}{q:Int→Prop}{l:La}(h:lfQ c q l){n:La}(hs:Sts V l n):n=l:=by
 refine NfL.sts ?_ hs;cases l with
 | con=>exact (zu5 _ _ _).2
 | bv=>exact (neu_bv _).2
 | var=>exact h.elim
 | lam=>exact h.elim
 | app=>exact h.elim
theorem lfQ.hd {c:Int}{q:Int→Prop}{l:La}(h:lfQ c q l):HdL V l∧∀ x,l ≠ .var x:=by
 cases l with
 | con=>exact ⟨trivial,fun x e=>by cases e⟩
 | bv=>exact ⟨trivial,fun x e=>by cases e⟩
 | var=>exact h.elim
 | lam=>exact h.elim
 | app=>exact h.elim
theorem lfQ.eq {c c':Int}{q q':Int→Prop}{l m:La}(h:lfQ c q l)(h':lfQ c' q' m)(he:Eqv V l m):l=m:=by
 obtain ⟨n,h1,h2⟩:=he;rw [←h.nf h1,←h'.nf h2]
theorem zjv {f:La→La}(hf:∀ x y,f x=f y→x=y):∀ {l:List La},l.Nodup→(l.map f).Nodup
 | [],_=>by simp
 | a::l,h=>by
  have h:=List.nodup_cons.1 h;rw [List.map_cons,List.nodup_cons];refine ⟨fun hm=> ?_,zjv hf h.2⟩;obtain ⟨b,hb,e⟩:=List.mem_map.1 hm;rw [hf _ _ e] at hb;exact h.1 hb
theorem bv0_lift (a:La)(k:Nat)(h:a.lift k= .bv k):False:=by
 cases a with
 | con=>cases h
 | var=>cases h
 | lam=>cases h
 | app=>cases h
 | bv n=>
  rw [La.lift] at h;split at h<;>injection h with h<;>omega
theorem PatL.lift (hV:ClV V){c:Int}{q:Int→Prop}{az ls:List La}(h:PatL V c q az ls)(k:Nat):PatL V c q (az.map fun a=>a.lift k) (ls.map fun a=>a.lift k):=
 ⟨zmz _ _ (fun _ _ e=>e.lift hV k) h.eq,fun l hl=>by obtain ⟨m,hm,rfl⟩:=List.mem_map.1 hl;exact (h.lf m hm).lift k,zjv (fun _ _ e=>La.lift_inj e) h.nd,h.c0⟩
theorem PatL.more0 (hV:ClV V){c:Int}{q:Int→Prop}{az ls:List La}(h:PatL V c q az ls):PatL V c q ((az.map fun a=>a.lift 0)++ [.bv 0]) ((ls.map fun a=>a.lift 0)++ [.bv 0]):=by
 have h1:=h.lift hV 0;refine ⟨z9r (.refl _) h1.eq,fun l hl=> ?_, ?_,h.c0⟩
 · rcases List.mem_append.1 hl with hl | hl
   · exact h1.lf l hl
   · rw [List.mem_singleton.1 hl];trivial
 · rw [List.nodup_append];refine ⟨h1.nd,by simp,fun a ha b hb e=> ?_⟩;rw [List.mem_singleton.1 hb] at e;obtain ⟨m,_,e2⟩:=List.mem_map.1 ha;exact bv0_lift m 0 (by rw [e2,e])
theorem PatL.unlift (hV:ClV V){c:Int}{q:Int→Prop}{k:Nat}:∀ {az ls:List La},PatL V c q (az.map fun a=>a.lift k) ls→∃ ls0,ls=ls0.map (fun a=>a.lift k)∧PatL V c q az ls0
 | [],[],h=>⟨[],rfl,⟨trivial,fun l hl=>(by cases hl),by simp,h.c0⟩⟩
 | a::az,l::ls,h=>by
  obtain ⟨ls0,e1,h1⟩:=PatL.unlift hV (az:=az) (ls:=ls) ⟨h.eq.2,fun m hm=>h.lf m (List.mem_cons_of_mem _ hm),(List.nodup_cons.1 h.nd).2,h.c0⟩;obtain ⟨n,h2,h3⟩:=h.eq.1;have hl:=h.lf l List.mem_cons_self;have e:=hl.nf h3;subst e;obtain ⟨n',e4,h4⟩:=h2.pull hV rfl;refine ⟨n'::ls0,by rw [List.map_cons,←e4,e1],⟨⟨⟨n',h4, .refl _⟩,h1.eq⟩,fun m hm=> ?_, ?_,h.c0⟩⟩
  · rcases List.mem_cons.1 hm with rfl | hm
    · rw [e4] at hl;exact hl.unlift
    · exact h1.lf m hm
  · have:=h.nd;rw [e4,e1] at this;have h5:=List.nodup_cons.1 this;exact List.nodup_cons.2 ⟨fun hm=>h5.1 (List.mem_map.2 ⟨n',hm,rfl⟩),h1.nd⟩
 | [],_::_,h=>h.eq.elim
 | _::_,[],h=>h.eq.elim
theorem PatL.init {c:Int}{q:Int→Prop}{az:List La}{a:La}{ls:List La}(h:PatL V c q (az++ [a]) ls):∃ ms,PatL V c q az ms:=by
 have key:∀ (az:List La) (a:La) (ls:List La),All2 (Eqv V) (az++ [a]) ls→∃ ms l,ls=ms++ [l]∧All2 (Eqv V) az ms:=by
  intro az
  induction az with
  | nil=>intro a ls h;cases ls with
   | nil=>exact h.elim
   | cons l r=>cases r with
    | nil=>exact ⟨[],l,rfl,trivial⟩
    | cons=>exact h.2.elim
  | cons b az ih=>intro a ls h;cases ls with
   | nil=>exact h.elim
   | cons l r=>
    obtain ⟨ms,m,e,h2⟩:=ih a r h.2;exact ⟨l::ms,m,by rw [e];rfl,h.1,h2⟩
 obtain ⟨ms,l,rfl,h2⟩:=key az a ls h.eq;exact ⟨ms,h2,fun m hm=>h.lf m (List.mem_append_left _ hm),(List.nodup_append.1 h.nd).1,h.c0⟩
variable {lv:Int→Int} {p q:Int→Prop}
theorem Gd.eqv (hV:ClV V){t u:La}(h:Gd V lv p q t)(he:Eqv V t u):Gd V lv p q u:=by
 cases h with
 | lam h1 h2=>exact .lam (he.symm.trans hV h1) h2
 | rig hx hh h1 h2=>exact .rig hx hh (he.symm.trans hV h1) h2
 | flx hx hp h1 h2=>exact .flx hx hp (he.symm.trans hV h1) h2
theorem Gd.weak {p' q':Int→Prop}(hp:∀ x,p x→p' x)(hq:∀ n,q n→q' n){t:La}(h:Gd V lv p q t):Gd V lv p' q' t:=by
 induction h with
 | lam h1 _ ih=>exact .lam h1 ih
 | rig hx hh h1 _ ih=>exact .rig hx hh h1 ih
 | flx hx hpx h1 h2=>
  refine .flx hx (hp _ hpx) h1 ⟨h2.eq,fun l hl=> ?_,h2.nd,h2.c0⟩;have:=h2.lf l hl;cases l with
  | con=>exact ⟨this.1,this.2.1,this.2.2.1,hq _ this.2.2.2⟩
  | bv=>trivial
  | var=>exact this.elim
  | lam=>exact this.elim
  | app=>exact this.elim
theorem Gd.lift (hV:ClV V){t:La}(h:Gd V lv p q t):∀ k:Nat,Gd V lv p q (t.lift k):=by
 induction h with
 | lam h1 _ ih=>intro k;exact .lam (h1.lift hV k) (ih (k+1))
 | @rig t h az hx hh h1 _ ih=>
  intro k;have:=h1.lift hV k;rw [z35] at this;refine .rig (h:=h.lift k) (fun x e=> ?_) (hh.lift k) this fun a ha=> ?_
  · cases h with
    | bv n=>rw [La.lift] at e;split at e<;>cases e
    | var y=>exact hx y rfl
    | con=>cases e
    | lam=>exact hh.elim
    | app=>exact hh.elim
  · obtain ⟨b,hb,rfl⟩:=List.mem_map.1 ha;exact ih b hb k
 | @flx t x az ls hx hp h1 h2=>
  intro k;have:=h1.lift hV k;rw [z35] at this;exact .flx hx hp this (h2.lift hV k)
theorem gd_bv (n:Nat):Gd V lv p q (.bv n):= .rig (h:= .bv n) (az:=[]) (fun x e=>by cases e) trivial (.refl _) fun a ha=>by cases ha
theorem Gd.body (hV:ClV V){t:La}(h:Gd V lv p q t):Gd V lv p q (.app (t.lift 0) (.bv 0)):=by
 cases h with
 | @lam t b h1 h2=>
  refine h2.eqv hV ?_;have h3:=(h1.lift hV 0).app (Eqv.refl (V:=V) (.bv 0))
  have h4:Sts V (.app (La.lift (.lam b) 0) (.bv 0)) b:=by
   have:=Sts.beta (V:=V) (b.lift 1) (.bv 0)
   rwa [La.sub_lift_bv b 0] at this
  exact ((h3.trans hV (Eqv.of h4))).symm
 | @rig t h az hx hh h1 h2=>
  have h3:=(h1.lift hV 0).app (Eqv.refl (V:=V) (.bv 0));rw [z35] at h3;have e:La.app (apps (h.lift 0) (az.map fun a=>a.lift 0)) (.bv 0)=apps (h.lift 0) ((az.map fun a=>a.lift 0)++ [.bv 0]):=by rw [z38];rfl
  rw [e] at h3;refine .rig (h:=h.lift 0) (fun x e=> ?_) (hh.lift 0) h3 fun a ha=> ?_
  · cases h with
    | bv n=>rw [La.lift] at e;split at e<;>cases e
    | var y=>exact hx y rfl
    | con=>cases e
    | lam=>exact hh.elim
    | app=>exact hh.elim
  · rcases List.mem_append.1 ha with ha | ha
    · obtain ⟨b,hb,rfl⟩:=List.mem_map.1 ha;exact (h2 b hb).lift hV 0
    · rw [List.mem_singleton.1 ha];exact gd_bv 0
 | @flx t x az ls hx hp h1 h2=>
  have h3:=(h1.lift hV 0).app (Eqv.refl (V:=V) (.bv 0));rw [z35] at h3;have e:La.app (apps (La.lift (.var x) 0) (az.map fun a=>a.lift 0)) (.bv 0)=apps (.var x) ((az.map fun a=>a.lift 0)++ [.bv 0]):=by rw [z38];rfl
  rw [e] at h3;exact .flx hx hp h3 (h2.more0 hV)
theorem Gd.unbody {t:La}(h:Gd V lv p q (.app (t.lift 0) (.bv 0))):Gd V lv p q t:= .lam ⟨t, .refl _, .eta t⟩ h
theorem Gd.unlift (hV:ClV V){u:La}(h:Gd V lv p q u):∀ {t:La} {k:Nat},Eqv V u (t.lift k)→Gd V lv p q t:=by
 induction h with
 | @lam u b h1 _ ih=>
  intro t k he;refine Gd.unbody (ih (k:=k+1) ?_);have h3:Eqv V (.lam b) (t.lift k):=h1.symm.trans hV he;have h4:=(h3.lift hV 0).app (Eqv.refl (V:=V) (.bv 0))
  have h5:Sts V (.app (La.lift (.lam b) 0) (.bv 0)) b:=by
   have:=Sts.beta (V:=V) (b.lift 1) (.bv 0)
   rwa [La.sub_lift_bv b 0] at this
  have e:La.lift (.app (t.lift 0) (.bv 0)) (k+1)= .app ((t.lift k).lift 0) (.bv 0):=by
   rw [La.lift,La.lift,if_pos (by omega),La.lift_lift t 0 k (by omega)]
  rw [e];exact (Eqv.of h5).symm.trans hV h4
 | @rig u h az hx hh h1 _ ih=>
  intro t k he;obtain ⟨c,c1,c2⟩:=h1.symm.trans hV he;obtain ⟨cs,rfl,a1⟩:=zp0 hh c1 rfl;obtain ⟨t',e,s1⟩:=c2.pull hV rfl;obtain ⟨h0,as0,rfl,e1,e2⟩:=z6k hh.napp k _ cs t' rfl e.symm;subst e1;subst e2;refine Gd.eqv hV (.rig (h:=h0) (az:=as0) (fun x e=>hx x (by rw [e];rfl)) hh.unlift (.refl _) fun a ha=> ?_) (Eqv.of s1).symm;obtain ⟨y,hy,r⟩:=zo8 (z62 (S:=fun y x=>Sts V x y) (fun _ _ a=>a) a1) (a.lift k) (List.mem_map.2 ⟨a,ha,rfl⟩);exact ih y hy (Eqv.of r)
 | @flx u x az ls hx hp h1 h2=>
  intro t k he;obtain ⟨c,c1,c2⟩:=h1.symm.trans hV he;have hh:HdL V (.var x):=hx;obtain ⟨cs,rfl,a1⟩:=zp0 hh c1 rfl;obtain ⟨t',e,s1⟩:=c2.pull hV rfl;obtain ⟨h0,as0,rfl,e1,e2⟩:=z6k hh.napp k _ cs t' rfl e.symm;subst e2
  have e3:h0= .var x:=by
   cases h0 with
   | var y=>injection e1 with e1;rw [e1]
   | bv n=>rw [La.lift] at e1;split at e1<;>cases e1
   | con=>cases e1
   | lam=>cases e1
   | app=>cases e1
  subst e3;have hp2:PatL V (lv x) q (as0.map fun a=>a.lift k) ls:=⟨z7a (R:=fun y x=>Sts V x y) (S:=Eqv V) (T:=Eqv V) (fun a b c r1 r2=>(Eqv.of r1).symm.trans hV r2) (z62 (S:=fun y x=>Sts V x y) (fun _ _ a=>a) a1) h2.eq,h2.lf,h2.nd,h2.c0⟩;obtain ⟨ls0,_,h3⟩:=hp2.unlift hV;exact .flx hx hp (Eqv.of s1) h3
theorem Gd.args (hV:ClV V){t:La}(h:Gd V lv p q t):∀ {g:La} {bs:List La},HdL V g→(∀ x,g ≠ .var x)→Eqv V t (apps g bs)→∀ b∈bs,Gd V lv p q b:=by
 induction h with
 | @lam t b h1 _ ih=>
  intro g bs hg hx he;have h3:Eqv V (.lam b) (apps g bs):=h1.symm.trans hV he;have h4:=(h3.lift hV 0).app (Eqv.refl (V:=V) (.bv 0))
  have h5:Sts V (.app (La.lift (.lam b) 0) (.bv 0)) b:=by
   have:=Sts.beta (V:=V) (b.lift 1) (.bv 0)
   rwa [La.sub_lift_bv b 0] at this
  rw [z35] at h4;have e:La.app (apps (g.lift 0) (bs.map fun a=>a.lift 0)) (.bv 0)=apps (g.lift 0) ((bs.map fun a=>a.lift 0)++ [.bv 0]):=by rw [z38];rfl
  rw [e] at h4;intro c hc;have:=ih (hg.lift 0) (fun x e=> ?_) ((Eqv.of h5).symm.trans hV h4) (c.lift 0) (List.mem_append_left _ (List.mem_map.2 ⟨c,hc,rfl⟩))
  · exact this.unlift hV (.refl _)
  · cases g with
    | bv n=>rw [La.lift] at e;split at e<;>cases e
    | var y=>exact hx y rfl
    | con=>cases e
    | lam=>exact hg.elim
    | app=>exact hg.elim
 | @rig t h az hx hh h1 h2 _=>
  intro g bs hg _ he b hb;obtain ⟨_,a⟩:=zfz hh hg (h1.symm.trans hV he);obtain ⟨y,hy,r⟩:=zo8 (z62 (S:=fun y x=>Eqv V x y) (fun _ _ a=>a) a) b hb;exact (h2 y hy).eqv hV r
 | @flx t x az ls hx hp h1 h2=>
  intro g bs hg hgx he;obtain ⟨e,_⟩:=zfz (h:= .var x) hx hg (h1.symm.trans hV he);exact absurd e.symm (hgx x)
theorem Gd.pat (hV:ClV V){t:La}(h:Gd V lv p q t):∀ {y:Int} {bs:List La},V y=none→Eqv V t (apps (.var y) bs)→∃ ls,PatL V (lv y) q bs ls:=by
 induction h with
 | @lam t b h1 _ ih=>
  intro y bs hy he;have h3:Eqv V (.lam b) (apps (.var y) bs):=h1.symm.trans hV he;have h4:=(h3.lift hV 0).app (Eqv.refl (V:=V) (.bv 0))
  have h5:Sts V (.app (La.lift (.lam b) 0) (.bv 0)) b:=by
   have:=Sts.beta (V:=V) (b.lift 1) (.bv 0)
   rwa [La.sub_lift_bv b 0] at this
  rw [z35] at h4;have e:La.app (apps (La.lift (.var y) 0) (bs.map fun a=>a.lift 0)) (.bv 0)=apps (.var y) ((bs.map fun a=>a.lift 0)++ [.bv 0]):=by rw [z38];rfl
  rw [e] at h4;obtain ⟨ls,h6⟩:=ih hy ((Eqv.of h5).symm.trans hV h4);obtain ⟨ms,h7⟩:=h6.init;obtain ⟨ns,_,h8⟩:=h7.unlift hV;exact ⟨ns,h8⟩
 | @rig t h az hx hh h1 h2 _=>
  intro y bs hy he;obtain ⟨e,_⟩:=zfz hh (g:= .var y) hy (h1.symm.trans hV he);exact absurd e (hx y)
 | @flx t x az ls hx hp h1 h2=>
  intro y bs hy he;obtain ⟨e,a⟩:=zfz (h:= .var x) hx (g:= .var y) hy (h1.symm.trans hV he);injection e with e
  subst e;exact ⟨ls,z7a (fun _ _ _ r1 r2=>r1.trans hV r2) (z62 (S:=fun y x=>Eqv V y x) (fun _ _ a=>a.symm) a) h2.eq,h2.lf,h2.nd,h2.c0⟩
def gz (σ:Nat→La)(n d:Nat):La:=if n<d then .bv n else (σ (n-d)).sh d 0
theorem zdb (σ:Nat→La):∀ (t:La) (e d:Nat),e≤d→(t.lift e).wk (gz σ) (d+1)=(t.wk (gz σ) d).lift e
 | .con _ _ _,_,_,_=>rfl
 | .var _,_,_,_=>rfl
 | .bv n,e,d,h=>by
  rw [La.lift];by_cases h1:n<e
  · rw [if_pos h1,La.wk,La.wk,gz,gz,if_pos (by omega),if_pos (by omega),La.lift,if_pos h1]
  · rw [if_neg h1,La.wk,La.wk,gz,gz];by_cases h2:n<d
    · rw [if_pos (by omega),if_pos h2,La.lift,if_neg h1]
    · rw [if_neg (by omega),if_neg h2,La.sh_succ _ d 0 e (by omega) (by omega),show n+1-(d+1)=n-d by omega]
 | .lam b,e,d,h=>by rw [La.lift,La.wk,La.wk,La.lift,zdb σ b (e+1) (d+1) (by omega)]
 | .app f a,e,d,h=>by rw [La.lift,La.wk,La.wk,La.lift,zdb σ f e d h,zdb σ a e d h]
theorem zib (σ:Nat→La):∀ (t u:La) (e d:Nat),e≤d→(t.sub u e).wk (gz σ) d=(t.wk (gz σ) (d+1)).sub (u.wk (gz σ) d) e
 | .con _ _ _,_,_,_,_=>rfl
 | .var _,_,_,_,_=>rfl
 | .bv n,u,e,d,h=>by
  rw [La.sub,La.wk];by_cases h1:n<e
  · rw [if_pos h1,La.wk,gz,gz,if_pos (by omega),if_pos (by omega),La.sub,if_pos h1]
  · by_cases h2:n=e
    · rw [if_neg h1,if_pos h2,gz,if_pos (by omega),La.sub,if_neg h1,if_pos h2]
    · rw [if_neg h1,if_neg h2,La.wk,gz,gz];by_cases h3:n-1<d
      · rw [if_pos h3,if_pos (by omega),La.sub,if_neg h1,if_neg h2]
      · rw [if_neg h3,if_neg (by omega),←La.sh_succ _ d 0 e (by omega) (by omega),La.sub_lift,show n-(d+1)=n-1-d by omega]
 | .lam b,u,e,d,h=>by rw [La.sub,La.wk,La.wk,La.sub,zib σ b (u.lift 0) (e+1) (d+1) (by omega),zdb σ u 0 d (by omega)]
 | .app f a,u,e,d,h=>by rw [La.sub,La.wk,La.wk,La.sub,zib σ f u e d h,zib σ a u e d h]
theorem za3 (σ:Nat→La):∀ (t:La) (d:Nat),t.lift d=t→t.wk (gz σ) d=t
 | .con _ _ _,_,_=>rfl
 | .var _,_,_=>rfl
 | .bv n,d,h=>by
  rw [La.lift] at h;rw [La.wk,gz];split at h
  · rename_i q;rw [if_pos q]
  · injection h with h;omega
 | .lam b,d,h=>by
  rw [La.lift] at h;injection h with h
  rw [La.wk,za3 σ b (d+1) h]
 | .app f a,d,h=>by
  rw [La.lift] at h;injection h with h1 h2
  rw [La.wk,za3 σ f d h1,za3 σ a d h2]
theorem zcv (g h:Nat→Nat→La)(e:Nat)(hg:∀ n d,n<d+e→g n d=h n d):∀ (t:La) (d:Nat),t.lift (d+e)=t→t.wk g d=t.wk h d
 | .con _ _ _,_,_=>rfl
 | .var _,_,_=>rfl
 | .bv n,d,q=>by
  rw [La.lift] at q;split at q
  · rename_i q1;exact hg n d q1
  · injection q with q;omega
 | .lam b,d,q=>by
  rw [La.lift] at q;injection q with q
  rw [La.wk,La.wk,zcv g h e hg b (d+1) (by rw [show d+1+e=d+e+1 by omega];exact q)]
 | .app f a,d,q=>by
  rw [La.lift] at q;injection q with q1 q2
  rw [La.wk,La.wk,zcv g h e hg f d q1,zcv g h e hg a d q2]
theorem be_wk (hV:ClV V)(σ:Nat→La){a b:La}(h:Be V a b):∀ d:Nat,Be V (a.wk (gz σ) d) (b.wk (gz σ) d):=by
 induction h with
 | con=>intro d;exact .con _ _ _
 | var=>intro d;exact .var _
 | bv n=>intro d;exact .refl _
 | @del x v h=>intro d;rw [za3 σ v d (hV x v h d)];exact .del h
 | lam _ ih=>intro d;exact .lam (ih (d+1))
 | app _ _ h1 h2=>intro d;exact .app (h1 d) (h2 d)
 | @beta b b' a a' _ _ h1 h2=>
  intro d;rw [zib σ b' a' 0 d (by omega)];exact .beta (h1 (d+1)) (h2 d)
theorem et_wk (σ:Nat→La){a b:La}(h:Et a b):∀ d:Nat,Et (a.wk (gz σ) d) (b.wk (gz σ) d):=by
 induction h with
 | con=>intro d;exact .con _ _ _
 | var=>intro d;exact .var _
 | bv n=>intro d;exact .refl _
 | lam _ ih=>intro d;exact .lam (ih (d+1))
 | app _ _ h1 h2=>intro d;exact .app (h1 d) (h2 d)
 | @eta u u' _ ih=>
  intro d
  have:La.wk (gz σ) (.lam (.app (u.lift 0) (.bv 0))) d= .lam (.app ((u.wk (gz σ) d).lift 0) (.bv 0)):=by
   rw [La.wk,La.wk,zdb σ u 0 d (by omega),La.wk,gz,if_pos (by omega)]
  rw [this];exact .eta (ih d)
theorem Eqv.wk (hV:ClV V)(σ:Nat→La){a b:La}(h:Eqv V a b)(d:Nat):Eqv V (a.wk (gz σ) d) (b.wk (gz σ) d):=by
 have key:∀ {a b:La},Sts V a b→Sts V (a.wk (gz σ) d) (b.wk (gz σ) d):=fun h=>by
  induction h with
  | refl=>exact .refl _
  | step h _ ih=>exact .step (h.imp (fun h=>be_wk hV σ h d) (fun h=>et_wk σ h d)) ih
 obtain ⟨c,h1,h2⟩:=h;exact ⟨_,key h1,key h2⟩
structure Inj (c:Int)(q:Int→Prop)(σ:Nat→La):Prop where
 lf:∀ n,lfQ c q (σ n)
 inj:∀ n m,σ n=σ m→n=m
theorem lf_sh {c:Int}{q:Int→Prop}{l:La}(h:lfQ c q l)(d:Nat):lfQ c q (l.sh d 0):=by
 cases l with
 | con=>exact h
 | bv=>rw [La.sh,if_neg (by omega)];trivial
 | var=>exact h.elim
 | lam=>exact h.elim
 | app=>exact h.elim
theorem zub {c:Int}{q:Int→Prop}{l m:La}(h:lfQ c q l)(h':lfQ c q m){d:Nat}(e:l.sh d 0=m.sh d 0):l=m:=by
 cases l with
 | con=>cases m with
  | con=>exact e
  | bv=>rw [La.sh,La.sh,if_neg (by omega)] at e;cases e
  | var=>exact h'.elim
  | lam=>exact h'.elim
  | app=>exact h'.elim
 | bv=>cases m with
  | con=>rw [La.sh,La.sh,if_neg (by omega)] at e;cases e
  | bv=>
   rw [La.sh,La.sh,if_neg (by omega),if_neg (by omega)] at e;injection e with e
   congr 1;omega
  | var=>exact h'.elim
  | lam=>exact h'.elim
  | app=>exact h'.elim
 | var=>exact h.elim
 | lam=>exact h.elim
 | app=>exact h.elim
theorem Inj.gz {c:Int}{q:Int→Prop}{σ:Nat→La}(h:Inj c q σ)(d:Nat):(∀ n,lfQ c q (Go.AM.gz σ n d))∧∀ n m,Go.AM.gz σ n d=Go.AM.gz σ m d→n=m:=by
 refine ⟨fun n=> ?_,fun n m e=> ?_⟩
 · rw [Go.AM.gz];split
   · trivial
   · exact lf_sh (h.lf _) d
 · have off:∀ i:Nat,∀ j,(σ i).sh d 0= .bv j→d≤j:=fun i j e=>by
    have hl:=h.lf i;cases hs:σ i with
    | con=>rw [hs] at e;cases e
    | bv k=>rw [hs,La.sh,if_neg (by omega)] at e;injection e with e;omega
    | var=>rw [hs] at hl;exact hl.elim
    | lam=>rw [hs] at hl;exact hl.elim
    | app=>rw [hs] at hl;exact hl.elim
   rw [Go.AM.gz,Go.AM.gz] at e;by_cases h1:n<d
   · rw [if_pos h1] at e;by_cases h2:m<d
     · rw [if_pos h2] at e;injection e
     · rw [if_neg h2] at e;have:=off _ _ e.symm;omega
   · rw [if_neg h1] at e;by_cases h2:m<d
     · rw [if_pos h2] at e;have:=off _ _ e;omega
     · rw [if_neg h2] at e;have:=h.inj _ _ (zub (h.lf _) (h.lf _) e);omega
theorem Gd.wk (hV:ClV V){c:Int}{p q Q:Int→Prop}(hp:∀ x,p x→lv x≤c)(hq:∀ n,q n→n≤c∧Q n){σ:Nat→La}(hσ:Inj c Q σ){t:La}(h:Gd V lv p q t):∀ d:Nat,Gd V lv p Q (t.wk (gz σ) d):=by
 induction h with
 | lam h1 _ ih=>intro d;exact .lam (h1.wk hV σ d) (ih (d+1))
 | @rig t h az hx hh h1 _ ih=>
  intro d;have e:=h1.wk hV σ d;rw [z7z] at e
  have hd:HdL V (h.wk (Go.AM.gz σ) d)∧∀ x,h.wk (Go.AM.gz σ) d ≠ .var x:=by
   cases h with
   | con=>exact ⟨trivial,fun x e=>by cases e⟩
   | bv n=>exact ((hσ.gz d).1 n).hd
   | var x=>exact absurd rfl (hx x)
   | lam=>exact hh.elim
   | app=>exact hh.elim
  refine .rig hd.2 hd.1 e fun a ha=> ?_;obtain ⟨b,hb,rfl⟩:=List.mem_map.1 ha;exact ih b hb d
 | @flx t x az ls hx hpx h1 h2=>
  intro d;have e:=h1.wk hV σ d;rw [z7z] at e;have g:=hσ.gz d;have hc:=hp x hpx;refine .flx hx hpx e ⟨zmz _ _ (fun _ _ r=>r.wk hV σ d) h2.eq,fun l hl=> ?_, ?_,h2.c0⟩
  · obtain ⟨m,hm,rfl⟩:=List.mem_map.1 hl;have hl:=h2.lf m hm;cases m with
    | con=>exact ⟨hl.1,hl.2.1,hl.2.2.1,(hq _ hl.2.2.2).2⟩
    | bv n=>
     have:=g.1 n;show lfQ (lv x) Q (Go.AM.gz σ n d);cases hs:Go.AM.gz σ n d with
     | con=>rw [hs] at this;exact ⟨this.1,this.2.1,by have:=this.2.2.1;omega,this.2.2.2⟩
     | bv=>trivial
     | var=>rw [hs] at this;exact this.elim
     | lam=>rw [hs] at this;exact this.elim
     | app=>rw [hs] at this;exact this.elim
    | var=>exact hl.elim
    | lam=>exact hl.elim
    | app=>exact hl.elim
  · have key:∀ (l:List La),(∀ m∈l,lfQ (lv x) q m)→l.Nodup→(l.map fun a=>a.wk (Go.AM.gz σ) d).Nodup:=by
     intro l
     induction l with
     | nil=>intro _ _;simp
     | cons m l ih=>
      intro hl hn;have hn:=List.nodup_cons.1 hn;rw [List.map_cons,List.nodup_cons];refine ⟨fun hm=> ?_,ih (fun z hz=>hl z (List.mem_cons_of_mem _ hz)) hn.2⟩;obtain ⟨z,hz,ez⟩:=List.mem_map.1 hm;have l1:=hl m List.mem_cons_self;have l2:=hl z (List.mem_cons_of_mem _ hz);refine hn.1 ?_
      have:m=z:=by
       cases m with
       | con k n s=>cases z with
        | con=>exact ez.symm
        | bv j=>
         have:=g.1 j;have ez:Go.AM.gz σ j d= .con k n s:=ez;rw [ez] at this;have h3:=this.2.2.1;have h4:=(hq _ l1.2.2.2).1;omega
        | var=>exact l2.elim
        | lam=>exact l2.elim
        | app=>exact l2.elim
       | bv i=>cases z with
        | con k n s=>
         have:=g.1 i;have ez:La.con k n s=Go.AM.gz σ i d:=ez;rw [←ez] at this;have h3:=this.2.2.1;have h4:=(hq _ l2.2.2.2).1;omega
        | bv j=>
         have ez:Go.AM.gz σ j d=Go.AM.gz σ i d:=ez;rw [g.2 _ _ ez]
        | var=>exact l2.elim
        | lam=>exact l2.elim
        | app=>exact l2.elim
       | var=>exact l1.elim
       | lam=>exact l1.elim
       | app=>exact l1.elim
      rw [this];exact hz
    exact key ls h2.lf h2.nd
def GV (V:Int→Option La)(lv:Int→Int)(p:Int→Prop)(y:Int)(v:La):Prop:=∃ (n:Nat) (b:La),v=z2v n b∧Gd V lv (fun z=>p z∧lv z≤lv y) (fun m=>m≤lv y) b
theorem zep:∀ (n:Nat) (b:La) (k:Nat),(z2v n b).lift k=z2v n (b.lift (k+n))
 | 0,_,_=>rfl
 | n+1,b,k=>by rw [z2v,La.lift,zep n b (k+1),z2v,show k+1+n=k+(n+1) by omega]
theorem zhx:∀ {n:Nat} {a b:La},z2v n a=z2v n b→a=b
 | 0,_,_,h=>h
 | n+1,_,_,h=>by
  rw [z2v,z2v] at h;injection h with h
  exact zhx h
theorem Sts.lams:∀ (n:Nat) {a b:La},Sts V a b→Sts V (z2v n a) (z2v n b)
 | 0,_,_,h=>h
 | n+1,_,_,h=>(Sts.lams n h).lam
theorem bv_top:∀ ls:List La,∃ N:Nat,∀ n,La.bv n∈ls→n<N
 | []=>⟨0,fun n h=>by cases h⟩
 | l::ls=>by
  obtain ⟨N,h⟩:=bv_top ls;cases l with
  | bv m=>
   refine ⟨N+m+1,fun n hn=> ?_⟩;rcases List.mem_cons.1 hn with e | hn
   · injection e with e;omega
   · have:=h n hn;omega
  | _=>exact ⟨N,fun n hn=>by rcases List.mem_cons.1 hn with e | hn; · cases e
                             · exact h n hn⟩
theorem gv_full (hV:ClV V){c:Int}{p q Q:Int→Prop}(hp:∀ x,p x→lv x≤c)(hq:∀ n,q n→n≤c∧Q n){b:La}(h:Gd V lv p q b){ls:List La}(hc:b.lift ls.length=b)(hl:∀ l∈ls,lfQ c Q l)(hn:ls.Nodup):
  Gd V lv p Q (apps (z2v ls.length b) ls):=by
 obtain ⟨N,hN⟩:=bv_top ls;refine Gd.eqv hV (Gd.wk hV hp hq (σ:=fun i=>if i<ls.length then ls.getD (ls.length-1-i) laD else .bv (i+N)) ⟨fun i=> ?_,fun i j e=> ?_⟩ h 0) ?_
 · split
   · rename_i q;have:ls.length-1-i<ls.length:=by omega
     rw [List.getD_eq_getElem?_getD,List.getElem?_eq_getElem this];exact hl _ (List.getElem_mem this)
   · trivial
 · have get:∀ i,i<ls.length→ls.getD (ls.length-1-i) laD∈ls:=fun i q=>by
    have:ls.length-1-i<ls.length:=by omega
    rw [List.getD_eq_getElem?_getD,List.getElem?_eq_getElem this];exact List.getElem_mem this
   by_cases hi:i<ls.length
   · rw [if_pos hi] at e;by_cases hj:j<ls.length
     · rw [if_pos hj] at e;have q1:ls.length-1-i<ls.length:=by omega
       have q2:ls.length-1-j<ls.length:=by omega
       rw [List.getD_eq_getElem?_getD,List.getElem?_eq_getElem q1,List.getD_eq_getElem?_getD,List.getElem?_eq_getElem q2] at e;have:=(List.getElem_inj hn).1 e;omega
     · rw [if_neg hj] at e;have:=hN (j+N) (by rw [←e];exact get i hi);omega
   · rw [if_neg hi] at e;by_cases hj:j<ls.length
     · rw [if_pos hj] at e;have:=hN (i+N) (by rw [e];exact get j hj);omega
     · rw [if_neg hj] at e;injection e with e
       omega
 · have e:=z77 (V:=V) ls b
   have e2:b.wk (gs ls) 0=b.wk (gz fun i=>if i<ls.length then ls.getD (ls.length-1-i) laD else .bv (i+N)) 0:=by
    refine zcv _ _ ls.length (fun n d hnd=> ?_) b 0 (by rw [Nat.zero_add];exact hc);rw [gs,gz];split
    · rfl
    · rw [if_pos (by omega)]
   rw [←e2];exact (Eqv.of e).symm
theorem gv_apply (hV:ClV V){y:Int}{v:La}(hy:V y=some v)(hv:GV V lv p y v)(c0:0≤lv y){Q:Int→Prop}(hQ:∀ n,n≤lv y→Q n){ls:List La}(hl:∀ l∈ls,lfQ (lv y) Q l)(hn:ls.Nodup):
  Gd V lv (fun z=>p z∧lv z≤lv y) Q (apps v ls):=by
 obtain ⟨n,b,e,hb⟩:=hv;have hc:=hV y v hy
 have up:∀ (m n:Nat) (b:La),(z2v n b).lift 0=z2v n b→Gd V lv (fun z=>p z∧lv z≤lv y) (fun m=>m≤lv y) b→∃ b',Sts V (z2v (n+m) b') (z2v n b)∧(z2v (n+m) b').lift 0=z2v (n+m) b'∧Gd V lv (fun z=>p z∧lv z≤lv y) (fun m=>m≤lv y) b':=by
  intro m
  induction m with
  | zero=>intro n b h1 h2;exact ⟨b, .refl _,h1,h2⟩
  | succ m ih=>
   intro n b h1 h2;obtain ⟨b',s1,s2,s3⟩:=ih n b h1 h2;refine ⟨.app (b'.lift 0) (.bv 0), ?_, ?_,s3.body hV⟩
   · refine Sts.trans ?_ s1;have:=Sts.lams (V:=V) (n+m) (Sts.eta b');rw [zj1] at this;exact this
   · rw [zep,Nat.zero_add] at s2 ⊢;have s2:=zhx s2;rw [La.lift,La.lift,if_pos (by omega),show n+(m+1)=n+m+1 by omega,La.lift_lift b' 0 (n+m) (by omega),s2]
 have main:∀ (k:Nat) (ls:List La) (n:Nat) (b:La),n-ls.length=k→(z2v n b).lift 0=z2v n b→Gd V lv (fun z=>p z∧lv z≤lv y) (fun m=>m≤lv y) b→(∀ l∈ls,lfQ (lv y) Q l)→ls.Nodup→Gd V lv (fun z=>p z∧lv z≤lv y) Q (apps (z2v n b) ls):=by
  intro k
  induction k with
  | zero=>
   intro ls n b hk h1 h2 h3 h4;obtain ⟨b',s1,s2,s3⟩:=up (ls.length-n) n b h1 h2;rw [show n+(ls.length-n)=ls.length by omega] at s1 s2;rw [zep,Nat.zero_add] at s2;exact (gv_full hV (fun x h=>h.2) (fun m h=>⟨h,hQ m h⟩) s3 (zhx s2) h3 h4).eqv hV (Eqv.of (Sts.apps ls s1))
  | succ k ih=>
   intro ls n b hk h1 h2 h3 h4;refine Gd.unbody ?_;have h5:PatL V (lv y) Q ls ls:=⟨z4w .refl ls,h3,h4,c0⟩;have h6:=h5.more0 hV;have:=ih ((ls.map fun a=>a.lift 0)++ [.bv 0]) n b (by simp;omega) h1 h2 h6.lf h6.nd;rw [z38] at this;rw [z35,h1];exact this
 subst e;exact main _ ls n b rfl (hc 0) hb hl hn
end
section
variable {V W:Int→Option La} {lv:Int→Int} {p q:Int→Prop}
theorem Gd.more (hW:ClV W)(hs:SubV V W)(hg:∀ y v,V y=none→W y=some v→p y→GV W lv p y v)(hq:∀ y,p y→∀ n,n≤lv y→q n){t:La}(h:Gd V lv p q t):Gd W lv p q t:=by
 induction h with
 | lam h1 _ ih=>exact .lam (h1.more hs) ih
 | @rig t h az hx hh h1 _ ih=>
  refine .rig hx ?_ (h1.more hs) ih;cases h with
  | var x=>exact absurd rfl (hx x)
  | con=>trivial
  | bv=>trivial
  | lam=>exact hh.elim
  | app=>exact hh.elim
 | @flx t x az ls hx hp h1 h2=>
  cases hw:W x with
  | none=>exact .flx hw hp (h1.more hs) ⟨zcg (fun _ _ r=>r.more hs) h2.eq,h2.lf,h2.nd,h2.c0⟩
  | some v=>
   have:=gv_apply hW hw (hg x v hx hw hp) h2.c0 (Q:=q) (hq x hp) h2.lf h2.nd;refine Gd.eqv hW (this.weak (fun _ h=>h.1) fun _ h=>h) ?_;have e1:=h1.more hs;have e2:Eqv W (apps (.var x) az) (apps v ls):=z6s _ _ _ _ (Eqv.of (Sts.del hw)) (zcg (fun _ _ r=>r.more hs) h2.eq);exact (e1.trans hW e2).symm
structure GX (lv:Int→Int)(p:Int→Prop)(V W:Int→Option La):Prop where
 sub:SubV V W
 new:∀ y v,V y=none→W y=some v→GV W lv p y v
theorem GX.refl (V:Int→Option La):GX lv p V V:=⟨.refl _,fun y v h1 h2=>by rw [h1] at h2;cases h2⟩
theorem GX.gd (hW:ClV W)(h:GX lv p V W)(hq:∀ y,p y→∀ n,n≤lv y→q n){t:La}(hg:Gd V lv p q t):Gd W lv p q t:=hg.more hW h.sub (fun y v h1 h2 _=>h.new y v h1 h2) hq
theorem GV.more (hW:ClV W)(h:GX lv p V W){y:Int}{v:La}(hg:GV V lv p y v):GV W lv p y v:=by
 obtain ⟨n,b,e,hb⟩:=hg;refine ⟨n,b,e,hb.more hW h.sub (fun z u h1 h2 hz=> ?_) (fun z hz m hm=>by have:=hz.2;omega)⟩;obtain ⟨n',b',e',hb'⟩:=h.new z u h1 h2;exact ⟨n',b',e',hb'.weak (fun x hx=>⟨⟨hx.1,by have:=hx.2;have:=hz.2;omega⟩,hx.2⟩) fun _ h=>h⟩
theorem GX.trans {U:Int→Option La}(hW:ClV W)(h1:GX lv p U V)(h2:GX lv p V W):GX lv p U W:=by
 refine ⟨h1.sub.trans h2.sub,fun y w q1 q2=> ?_⟩;cases hv:V y with
 | none=>exact h2.new y w hv q2
 | some v=>
  have:=h2.sub y v hv;rw [q2] at this;injection this with this
  subst this;exact (h1.new y w q1 hv).more hW h2
end
end Go.AM

set_option maxRecDepth 100000
open Go Go.Proofs
namespace Go.AM
mutual
theorem zdc:∀ (t:Tm) (d acc:Int),z1v t d acc≤0→wG (fun _ _=>true) t d=true
 | .mk k s n l,d,acc,h=>by
  rw [zfn];rw [z1v] at h;by_cases h5:k=5
  · rw [if_pos (by simpa using h5)] at h;refine ⟨zq3 (by omega) (by omega) (by omega),fun _=> ?_⟩;rw [if_pos (by simpa using h5)];exact z7p l (d+1) acc h
  · rw [if_neg (by simpa using h5)] at h;by_cases h6:k=6
    · rw [if_pos (by simpa using h6)] at h;refine ⟨zq3 (by omega) (by omega) (by omega),fun _=> ?_⟩;rw [if_neg (by simpa using h5),Int.add_zero];exact z7p l d acc h
    · rw [if_neg (by simpa using h6)] at h;refine ⟨?_,fun w=>by omega⟩;unfold gB;split
      · rename_i q;rw [if_pos (by simpa using q)] at h;have:n-d+1≤0:=by unfold maxI at h;split at h<;>omega
        exact decide_eq_true (by omega)
      · rw [Bool.or_true]
theorem z7p:∀ (l:List Tm) (d acc:Int),z4r l d acc≤0→∀ t∈l,wG (fun _ _=>true) t d=true
 | [],_,_,_=>fun t ht=>nomatch ht
 | t::l,d,acc,h=>by
  rw [z4r] at h;have h1:=z75 l d (z1v t d acc);intro u hu;rcases List.mem_cons.1 hu with e | hu
  · rw [e];exact zdc t d acc (by omega)
  · exact z7p l d _ h u hu
end
def CS (s:Sto):Prop:=∀ x:Int,(infOf s.V x).bd=true→validB (infOf s.V x).v=true∧z1v (infOf s.V x).v 0 0≤0
theorem zsa {s:Sto}{x:Int}(h:(infOf s.V x).bd=true):0≤x∧x<(s.V.length:Int):=by
 by_cases q:0≤x∧x<(s.V.length:Int)
 · exact q
 · rw [z4j q] at h;cases h
theorem CS.cl {s:Sto}(h:CS s):ClV (VS s):=fun x v hv k=>by
 unfold VS at hv;split at hv
 · rename_i hb;injection hv with hv
   subst hv;obtain ⟨h1,h2⟩:=h x hb;exact wG_lift _ 0 h1 (zdc _ 0 0 h2) k (Nat.zero_le _)
 · cases hv
theorem zom {s:Sto}{lv x:Int}(h:(infOf (freshS s lv).V x).bd=true):0≤x∧x<(s.V.length:Int):=by
 have h1:=zsa h;rw [(zdz s lv).1] at h1;by_cases q:x=(s.V.length:Int)
 · subst q;rw [(zf2 s lv).1] at h;cases h
 · omega
theorem CS.fresh {s:Sto}(h:CS s)(lv:Int):CS (freshS s lv):=fun x hb=>by
 have h0:=zom hb;rw [z54 h0.1 h0.2] at hb ⊢;exact h x hb
theorem CS.bind {s:Sto}(h:CS s)(y:Int)(t:Tm):CS (bindS s y t):=by
 by_cases q:z2t s y t=true
 · intro x hb;have h0:=zsa hb;rw [z1f] at h0;rcases z87 (s:=s) (y:=y) (t:=t) h0.1 h0.2 with e | ⟨_,e⟩
   · rw [e] at hb ⊢;exact h x hb
   · rw [e];simp only [z2t,Bool.and_eq_true,decide_eq_true_eq] at q;exact q.2.2
 · rw [(z3c (by simpa using q)).1];exact h
theorem Chg.cs {s s':Sto}(h:Chg s s')(c:CS s):CS s':=by
 induction h with
 | refl=>exact c
 | fresh lv _ ih=>exact ih.fresh lv
 | bind x t _ ih=>exact ih.bind x t
theorem Chg.l0 {s s':Sto}(h:Chg s s')(c:LV0 s):LV0 s':=by
 induction h with
 | refl=>exact c
 | fresh lv _ ih=>exact ih.fresh lv
 | bind x t _ ih=>exact ih.bind x t
theorem zrx {s:Sto}(h:LV0 s)(x:Int):0≤(infOf s.V x).lv:=by
 by_cases q:0≤x∧x<(s.V.length:Int)
 · obtain ⟨hl,e⟩:=z1w q.1 q.2;rw [e];exact h _ (List.getElem_mem hl)
 · rw [z4j q];exact Int.le_refl _
theorem zbi {s:Sto}{x:Int}(h:(infOf s.V x).bd=false):VS s x=none:=by unfold VS;rw [h];rfl
theorem zhl {s:Sto}{x:Int}{v:La}(h:VS s x=some v):(infOf s.V x).bd=true∧v=toL (infOf s.V x).v:=by
 unfold VS at h;split at h
 · rename_i q;injection h with h;exact ⟨q,h.symm⟩
 · cases h
theorem z9u {s:Sto}{y:Int}{t:Tm}{z:Int}{v:La}(h:VS (bindS s y t) z=some v):VS s z=some v∨z=y∧v=toL t:=by
 obtain ⟨h1,h2⟩:=zhl h;have h0:=zsa h1;rw [z1f] at h0;rcases z87 (s:=s) (y:=y) (t:=t) h0.1 h0.2 with e | ⟨e1,e2⟩
 · left;rw [e] at h1 h2;unfold VS;rw [if_pos h1,h2]
 · right;rw [e2] at h2;exact ⟨e1,h2⟩
theorem ze3 {s:Sto}{lv z:Int}{v:La}(h:VS (freshS s lv) z=some v):VS s z=some v:=by
 obtain ⟨h1,h2⟩:=zhl h;have h0:=zom h1;rw [z54 h0.1 h0.2] at h1 h2;unfold VS;rw [if_pos h1,h2]
def lfT (c:Int)(q:Int→Prop)(t:Tm):Prop:=IsLf t∧(t.k=1→c<t.n∧q t.n)
theorem lfT.q {c:Int}{q:Int→Prop}{t:Tm}(h:lfT c q t):lfQ c q (toL t):=by
 obtain ⟨⟨n,⟨e,h0⟩ | e⟩,h2⟩:=h
 · subst e;rw [z1h];trivial
 · subst e;rw [z5u];exact ⟨rfl,rfl,(h2 rfl).1,(h2 rfl).2⟩
theorem zpx {a b:Tm}(ha:IsLf a)(hb:IsLf b)(h:toL a=toL b):a=b:=by
 obtain ⟨n,⟨e,h0⟩ | e⟩:=ha
 · subst e;obtain ⟨m,⟨e,h1⟩ | e⟩:=hb
   · subst e;rw [z1h,z1h] at h;injection h with h
     rw [show n=m by omega]
   · subst e;rw [z1h,z5u] at h;cases h
 · subst e;obtain ⟨m,⟨e,h1⟩ | e⟩:=hb
   · subst e;rw [z1h,z5u] at h;cases h
   · subst e;rw [z5u,z5u] at h;injection h with _ h _
     rw [h]
structure LPt (c:Int)(ls:List Tm):Prop where
 lf:∀ t∈ls,lfT c (fun _=>True) t
 nd:(toLs ls).Nodup
theorem zoq (s:Sto)(lv:Int):∀ (l out:List Tm) (f:Int),(z2a s lv out l f).2.2=0→out.Pairwise (fun a b=>lfB a b=false)→(∀ t∈out,t.k=1→lv<t.n)→
  (z2a s lv out l f).1.Pairwise (fun a b=>lfB a b=false)∧∀ t∈(z2a s lv out l f).1,t.k=1→lv<t.n
 | [],out,f,_,h1,h2=>by rw [z2a];exact ⟨h1,h2⟩
 | t::l,out,f,h,h1,h2=>by
  rw [z2a] at h ⊢;split at h
  · rename_i q;exact absurd h q
  · rename_i q;rw [if_neg q];split at h
    · cases h
    · rename_i q2;rw [if_neg q2];unfold z63 at q2;simp only [Bool.or_eq_true,not_or,Bool.not_eq_true,Bool.and_eq_false_iff] at q2;refine zoq s lv l _ _ h (List.pairwise_append.2 ⟨h1,List.pairwise_singleton _ _,fun a ha b hb=> ?_⟩) fun u hu hk=> ?_
      · rw [List.mem_singleton.1 hb];have:=List.any_eq_false.1 q2.2 a ha;simpa using this
      · rcases List.mem_append.1 hu with hu | hu
        · exact h2 u hu hk
        · rw [List.mem_singleton.1 hu] at hk ⊢;rcases q2.1.2 with w | w
          · rw [hk] at w;cases w
          · have:=of_decide_eq_false w;omega
theorem zql {s:Sto}{x:Int}{l:List Tm}{f:Int}(h:(z0x s x l f).2.2=0)(hl:∀ t∈(z0x s x l f).1,lfP t):LPt (infOf s.V x).lv (z0x s x l f).1:=by
 unfold z0x at h hl ⊢;split at h
 · cases h
 · rename_i q;rw [if_neg q] at hl ⊢;obtain ⟨p1,p2⟩:=zoq s _ l [] f h .nil (fun t ht=>nomatch ht);have lf:∀ t∈(z2a s (infOf s.V x).lv [] l f).1,IsLf t:=fun t ht=>z98 (hl t ht).2.2.2.2 (hl t ht).2.1;refine ⟨fun t ht=>⟨lf t ht,fun hk=>⟨p2 t ht hk,trivial⟩⟩, ?_⟩;rw [z0z];refine List.pairwise_map.2 (p1.imp_of_mem fun {a b} ha hb hab e=> ?_);have:=zpx (lf a ha) (lf b hb) e;subst this;unfold lfB at hab;simp at hab
theorem img_lf {c lv:Int}{L:List Tm}{t:Tm}{k:Int}(hk:0≤k)(ht:lfT c (fun _=>True) t)(h:(imgT lv L t k).2=true):lfT c (fun n=>n≤lv) (imgT lv L t k).1:=by
 have ix:=zqh (fun u=>lfB u (outT t k)) L 0;unfold imgT at h ⊢;split
 · rename_i q;exact ⟨ht.1,fun e=>by have e:t.k=1:=e;have:=q.1;omega⟩
 · rename_i q;rw [if_neg q] at h;split
   · rename_i q2;refine ⟨⟨_, .inl ⟨rfl, ?_⟩⟩,fun e=>absurd e (by show¬(3:Int)=1;decide)⟩
     have:ixF (fun u=>lfB u (outT t k)) L 0<(L.length:Int):=by
      obtain ⟨j,hj,e,_⟩:=zmk (fun u=>lfB u (outT t k)) L 0 q2;omega
     omega
   · rename_i q2;rw [if_neg q2] at h;simp only [Bool.and_eq_true,beq_iff_eq,decide_eq_true_eq] at h;exact ⟨ht.1,fun e=>⟨(ht.2 e).1,h.2⟩⟩
theorem im2_lf {c lv:Int}{L:List Tm}{k:Int}(hk:0≤k):∀ l:List Tm,(∀ t∈l,lfT c (fun _=>True) t)→∀ t∈im2 lv L k l,lfT c (fun n=>n≤lv) t
 | [],_=>fun t ht=>by rw [im2] at ht;cases ht
 | t::l,h=>by
  intro u hu;rw [im2] at hu;have ih:=im2_lf (c:=c) (lv:=lv) (L:=L) hk l (fun u hu=>h u (List.mem_cons_of_mem _ hu));split at hu
  · rename_i q;rcases List.mem_cons.1 hu with rfl | hu
    · exact img_lf hk (h t List.mem_cons_self) q
    · exact ih u hu
  · exact ih u hu
theorem zbx {f:La→La}:∀ {l:List La},(l.map f).Nodup→l.Nodup:=fun {l} h=>(List.pairwise_map.1 h).imp fun hab e=>hab (by rw [e])
theorem z68 (l:List Tm)(p:Tm→Bool)(h:(toLs l).Nodup):(toLs (l.filter p)).Nodup:=by
 rw [z0z] at h ⊢;exact List.Nodup.sublist (List.Sublist.map toL List.filter_sublist) h
theorem zr0 (c lv:Int)(q:Int→Prop)(L:List Tm)(k:Int)(m:Nat):∀ (l:List Tm) (i:Nat),i+l.length≤m→∀ t∈im1 lv L k m l i,lfT c q t∧∃ j:Nat,i≤j∧j<m∧t=bV3 ((m:Int)-1-(j:Int))
 | [],_,_=>fun t ht=>by rw [im1] at ht;cases ht
 | t::l,i,h=>by
  intro u hu;simp only [List.length_cons] at h;rw [im1] at hu;have ih:=zr0 c lv q L k m l (i+1) (by omega);split at hu
  · rcases List.mem_cons.1 hu with rfl | hu
    · exact ⟨⟨⟨_, .inl ⟨rfl,by omega⟩⟩,fun e=>absurd e (by show¬(3:Int)=1;decide)⟩,i,Nat.le_refl _,by omega,rfl⟩
    · obtain ⟨a,j,b1,b2,b3⟩:=ih u hu;exact ⟨a,j,by omega,b2,b3⟩
  · obtain ⟨a,j,b1,b2,b3⟩:=ih u hu;exact ⟨a,j,by omega,b2,b3⟩
theorem bv_ne {m:Nat}{i j:Nat}(hi:i<m)(hj:j<m)(h:toL (bV3 ((m:Int)-1-(i:Int)))=toL (bV3 ((m:Int)-1-(j:Int)))):i=j:=by
 rw [z1h,z1h] at h;injection h with h
 omega
theorem im1_nd (lv:Int)(L:List Tm)(k:Int)(m:Nat):∀ (l:List Tm) (i:Nat),i+l.length≤m→(toLs (im1 lv L k m l i)).Nodup
 | [],_,_=>by rw [im1];exact List.Pairwise.nil
 | t::l,i,h=>by
  simp only [List.length_cons] at h;have ih:=im1_nd lv L k m l (i+1) (by omega);rw [im1];split
  · rw [z0z,List.map_cons,List.nodup_cons,←z0z];refine ⟨fun hm=> ?_,ih⟩;rw [z0z] at hm;obtain ⟨u,hu,e⟩:=List.mem_map.1 hm;obtain ⟨_,j,b1,b2,b3⟩:=zr0 0 lv (fun _=>True) L k m l (i+1) (by omega) u hu;rw [b3] at e;have:=bv_ne b2 (by omega) e;omega
  · exact ih
theorem zxg (c:Int)(q:Int→Prop)(m:Nat):∀ (bs:List Bool) (i:Nat),i+bs.length≤m→∀ t∈onK (m:Int) bs (i:Int),lfT c q t∧∃ j:Nat,i≤j∧j<m∧t=bV3 ((m:Int)-1-(j:Int))
 | [],_,_=>fun t ht=>by rw [onK] at ht;cases ht
 | b::bs,i,h=>by
  intro u hu;simp only [List.length_cons] at h;have ih:=zxg c q m bs (i+1) (by omega);rw [show ((i+1:Nat):Int)=(i:Int)+1 by omega] at ih;rw [onK] at hu;split at hu
  · rcases List.mem_cons.1 hu with rfl | hu
    · exact ⟨⟨⟨_, .inl ⟨rfl,by omega⟩⟩,fun e=>absurd e (by show¬(3:Int)=1;decide)⟩,i,Nat.le_refl _,by omega,rfl⟩
    · obtain ⟨a,j,b1,b2,b3⟩:=ih u hu;exact ⟨a,j,by omega,b2,b3⟩
  · obtain ⟨a,j,b1,b2,b3⟩:=ih u hu;exact ⟨a,j,by omega,b2,b3⟩
theorem onK_nd (m:Nat):∀ (bs:List Bool) (i:Nat),i+bs.length≤m→(toLs (onK (m:Int) bs (i:Int))).Nodup
 | [],_,_=>by rw [onK];exact List.Pairwise.nil
 | b::bs,i,h=>by
  simp only [List.length_cons] at h;have ih:=onK_nd m bs (i+1) (by omega);have lf:=zxg 0 (fun _=>True) m bs (i+1) (by omega);rw [show ((i+1:Nat):Int)=(i:Int)+1 by omega] at ih lf;rw [onK];split
  · rw [z0z,List.map_cons,List.nodup_cons,←z0z];refine ⟨fun hm=> ?_,ih⟩;rw [z0z] at hm;obtain ⟨u,hu,e⟩:=List.mem_map.1 hm;obtain ⟨_,j,b1,b2,b3⟩:=lf u hu;rw [b3] at e;have:=bv_ne b2 (by omega:i<m) e;omega
  · exact ih
theorem zvm {M:Int→Int} {p:Int→Prop} {s:Sto} {y lvn:Int} {m:Nat} {on:List Tm} (hy:inB s.V y=true) (hb:z2t (freshS s lvn) y (z5m s m on)=true)
  (hM:M (s.V.length:Int)≤M y) (c0:0≤M (s.V.length:Int)) (hp:p (s.V.length:Int)) (nd:(toLs on).Nodup) (lf:∀ t∈on,lfT (M (s.V.length:Int)) (fun k=>k≤M y) t):GX M p (VS s) (VS (z3y s y lvn m on)):=by
 have h0:=z5o.1 hy;refine ⟨(zld s lvn).trans (zic _ _ _),fun z v h1 h2=> ?_⟩;rcases z9u h2 with h2 | ⟨rfl,rfl⟩
 · rw [ze3 h2] at h1;cases h1
 · refine ⟨m,toL (z09 (.mk 4 [] (s.V.length:Int) []) on),by rw [z5m,z5j], ?_⟩;rw [z1m,z4q];refine .flx (x:=(s.V.length:Int)) (az:=toLs on) (ls:=toLs on) ?_ ⟨hp,hM⟩ (.refl _) ⟨z4w .refl _,fun l hl=> ?_,nd,c0⟩
   · cases hv:VS (z3y s z lvn m on) (s.V.length:Int) with
     | none=>rfl
     | some v=>
      exfalso;rcases z9u hv with h3 | ⟨h3,_⟩
      · have:=zsa (zhl (ze3 h3)).1;omega
      · omega
   · rw [z0z] at hl;obtain ⟨t,ht,rfl⟩:=List.mem_map.1 hl;exact (lf t ht).q
end Go.AM

set_option maxRecDepth 100000
open Go Go.Proofs
namespace Go.AM
def MS (M:Int→Int)(s:Sto):Prop:=∀ z:Int,inB s.V z=true→(infOf s.V z).lv=M z
theorem MS.back {M:Int→Int}{s s':Sto}(h:MS M s')(c:Chg s s'):MS M s:=fun z hz=>by
 have k:=c.keeps z hz;rw [←k.2];exact h z k.1
abbrev ppx (M:Int→Int)(x lv:Int):Int→Prop:=fun z=>z≠x∧M z≤lv
def GU (M:Int→Int)(x lv:Int)(s:Sto)(t:Tm):Prop:=∀ S,ClV S→GX M (fun z=>z≠x) (VS s) S→Gd S M (ppx M x lv) (fun n=>n≤lv) (toL t)
theorem GU.of {M:Int→Int}{x lv:Int}{s s':Sto}{t:Tm}(h:GU M x lv s t)(g:GX M (fun z=>z≠x) (VS s) (VS s')):GU M x lv s' t:=fun S hS gS=>h S hS (g.trans hS gS)
section
variable {M:Int→Int} {L:List Tm} (hLf:∀ u∈L,IsLf u) (hLv:∀ u∈L,validB u=true) {x lv:Int} (hLp:LPt lv L) (hMx:M x=lv) (lv0:0≤lv)
include hLf hLv hLp lv0
theorem flexG_gd {q:IS}{y:Int}{k:Nat}{ls:List Tm}{f:Int}(hV:q.s.V.length≤1073741824)(hy:inB q.s.V y=true)(hx:inB q.s.V x=true)(hf:(infOf q.s.V y).bd=false)(hyx:y≠x)(l0:LV0 q.s)(hls:LPt (infOf q.s.V y).lv ls)(hll:ls.length≤900)(hM:MS M (z65 lv L q y (k:Int) ls f).2.s):
  GX M (fun z=>z≠x) (VS q.s) (VS (z65 lv L q y (k:Int) ls f).2.s)∧GU M x lv (z65 lv L q y (k:Int) ls f).2.s (z65 lv L q y (k:Int) ls f).1:=by
 have ls_lf:∀ t∈ls,IsLf t:=fun t ht=>(hls.lf t ht).1;have y0:=zrx l0 y
 have nd2:(toLs (im2 lv L (k:Int) ls)).Nodup:=by
  have h:=z68 ls (fun t=>(imgT lv L t (k:Int)).2) hls.nd;have e:=zke (lv:=lv) hLf k ls ls_lf;unfold kpt at e;rw [←e] at h;exact zbx h
 have lf2:=im2_lf (lv:=lv) (L:=L) (k:=(k:Int)) (by omega) ls hls.lf;unfold z65 at hM ⊢;rw [zda,List.nil_append,List.nil_append] at*;dsimp only at*;split
 · rename_i h1;rw [if_pos h1] at hM;have hMy:=hM y hy;refine ⟨.refl _,fun S hS g=> ?_⟩;rw [z1m,z4q]
   have pat:∀ c,c=(infOf q.s.V y).lv→PatL S c (fun n=>n≤lv) (toLs (im2 lv L (k:Int) ls)) (toLs (im2 lv L (k:Int) ls)):=fun c hc=>⟨z4w .refl _,fun l hl=>by
    rw [z0z] at hl;obtain ⟨t,ht,rfl⟩:=List.mem_map.1 hl;rw [hc];exact (lf2 t ht).q,nd2,by rw [hc];exact zrx l0 y⟩
   have base:Gd (VS q.s) M (ppx M x lv) (fun n=>n≤lv) (apps (.var y) (toLs (im2 lv L (k:Int) ls))):= .flx (zbi hf) ⟨hyx,by rw [←hMy];exact h1.2⟩ (.refl _) ⟨z4w .refl _,(pat (M y) hMy.symm).lf,nd2,(pat (M y) hMy.symm).c0⟩;refine base.more hS g.sub (fun z u z1 z2 zp=> ?_) (fun z zp n hn=>by have:=zp.2;omega);obtain ⟨n,b,e,hb⟩:=g.new z u z1 z2;exact ⟨n,b,e,hb.weak (fun w hw=>⟨⟨hw.1,by have:=hw.2;have:=zp.2;omega⟩,hw.2⟩) fun _ h=>h⟩
 · rename_i h1;rw [if_neg h1] at hM;unfold onF at hM ⊢;rw [zda,List.nil_append,List.nil_append,zhd] at*;dsimp only at*;have mn:z0d [lv,(infOf q.s.V y).lv]≤lv∧z0d [lv,(infOf q.s.V y).lv]≤(infOf q.s.V y).lv∧0≤z0d [lv,(infOf q.s.V y).lv]:=by simp only [z0d,List.foldl];omega
   have mx:z0g [z0d [lv,(infOf q.s.V y).lv],0]=z0d [lv,(infOf q.s.V y).lv]:=zh2 mn.2.2
   have ho:∀ t∈im1 lv L (k:Int) ls.length ls 0++mo1 (decide ((infOf q.s.V y).lv>lv)) (infOf q.s.V y).lv L,validB t=true∧wG (fun _ _=>true) t (ls.length:Int)=true:=fun t ht=>by
    rcases List.mem_append.1 ht with ht | ht
    · have:=im1_P lv L (k:Int) ls.length hll ls 0 (by omega) t ht;exact ⟨this.1,this.2 _⟩
    · have:=mo1_P _ _ hLv t ht;exact ⟨this.1,this.2 _⟩
   have hb:=zbm (lv:=z0d [lv,(infOf q.s.V y).lv]) hy hf hV ho;have y0':=z5o.1 hy;have x0':=z5o.1 hx;have hMy:(infOf q.s.V y).lv=M y:=hM.back (Chg.hang .refl _ _ _ _) y hy
   have hMn:M (q.s.V.length:Int)=z0d [lv,(infOf q.s.V y).lv]:=by
    have h2:=zf2 q.s (z0d [lv,(infOf q.s.V y).lv]);have h3:=hM.back (s:=freshS q.s (z0d [lv,(infOf q.s.V y).lv])) ((Chg.refl).bind _ _) (q.s.V.length:Int) h2.2;rw [h2.1] at h3;rw [←h3];exact mx
   have mo1_in:∀ t∈mo1 (decide ((infOf q.s.V y).lv>lv)) (infOf q.s.V y).lv L,t∈L∧(infOf q.s.V y).lv>lv∧t.k=1∧t.n≤(infOf q.s.V y).lv:=fun t ht=>by
    unfold mo1 at ht;have:=List.mem_filter.1 ht;simp only [Bool.and_eq_true,decide_eq_true_eq,beq_iff_eq] at this;exact ⟨this.1,this.2.1,this.2.2.1,this.2.2.2⟩
   have lfon:∀ t∈im1 lv L (k:Int) ls.length ls 0++mo1 (decide ((infOf q.s.V y).lv>lv)) (infOf q.s.V y).lv L,lfT (M (q.s.V.length:Int)) (fun n=>n≤M y) t:=fun t ht=>by
    rcases List.mem_append.1 ht with ht | ht
    · exact (zr0 _ lv _ L (k:Int) ls.length ls 0 (by omega) t ht).1
    · obtain ⟨m1,m2,m3,m4⟩:=mo1_in t ht;have:=hLp.lf t m1;exact ⟨this.1,fun e=>⟨by have:=(this.2 e).1;rw [hMn];omega,by rw [←hMy];exact m4⟩⟩
   have ndon:(toLs (im1 lv L (k:Int) ls.length ls 0++mo1 (decide ((infOf q.s.V y).lv>lv)) (infOf q.s.V y).lv L)).Nodup:=by
    rw [z4u,List.nodup_append];refine ⟨im1_nd lv L (k:Int) ls.length ls 0 (by omega),z68 L _ hLp.nd,fun a ha b hb e=> ?_⟩;rw [z0z] at ha hb;obtain ⟨t,ht,rfl⟩:=List.mem_map.1 ha;obtain ⟨u,hu,rfl⟩:=List.mem_map.1 hb;obtain ⟨_,j,_,_,rfl⟩:=zr0 0 lv (fun _=>True) L (k:Int) ls.length ls 0 (by omega) t ht;obtain ⟨m1,_,m3,_⟩:=mo1_in u hu;have:bV3 ((ls.length:Int)-1-(j:Int))=u:=zpx ⟨_, .inl ⟨rfl,by omega⟩⟩ (hLf u m1) e;rw [←this] at m3;exact absurd m3 (by show¬(3:Int)=1;decide)
   have gx:=zvm (M:=M) (p:=fun z=>z≠x) (lvn:=z0d [lv,(infOf q.s.V y).lv]) (m:=ls.length) hy hb (by rw [hMn,←hMy];exact mn.2.1) (by rw [hMn];exact mn.2.2) (fun e=>by omega) ndon lfon;refine ⟨gx,fun S hS g=> ?_⟩
   have hn:VS (z3y q.s y (z0d [lv,(infOf q.s.V y).lv]) ls.length (im1 lv L (k:Int) ls.length ls 0++mo1 (decide ((infOf q.s.V y).lv>lv)) (infOf q.s.V y).lv L)) (q.s.V.length:Int)=none:=by
    cases hv:VS (z3y q.s y (z0d [lv,(infOf q.s.V y).lv]) ls.length (im1 lv L (k:Int) ls.length ls 0++mo1 (decide ((infOf q.s.V y).lv>lv)) (infOf q.s.V y).lv L)) (q.s.V.length:Int) with
    | none=>rfl
    | some v=>
     exfalso;rcases z9u hv with h3 | ⟨h3,_⟩
     · have:=zsa (zhl (ze3 h3)).1;omega
     · omega
   have w1:=zke (lv:=lv) hLf k ls ls_lf;have w2:=zuq hLf (decide ((infOf q.s.V y).lv>lv)) (infOf q.s.V y).lv k L [] rfl;rw [List.length_nil] at w2
   have nd:(toLs (im2 lv L (k:Int) ls++mo2 (decide ((infOf q.s.V y).lv>lv)) (infOf q.s.V y).lv (k:Int) L.length L 0)).Nodup:=by
    refine zbx (f:=fun a=>a.wk (gs (toLs L)) k) ?_;rw [z4u,List.map_append,w1,w2,List.nodup_append];refine ⟨z68 ls _ hls.nd,z68 L _ hLp.nd,fun a ha b hb e=> ?_⟩;rw [z0z] at ha hb;obtain ⟨t,ht,rfl⟩:=List.mem_map.1 ha;obtain ⟨u,hu,rfl⟩:=List.mem_map.1 hb;have ht:=(List.mem_filter.1 ht).1;obtain ⟨m1,_,m3,m4⟩:=mo1_in u hu;have:=zpx (ls_lf t ht) (hLf u m1) e;subst this;have:=((hls.lf t ht).2 m3).1;omega
   have lfm:∀ t∈mo2 (decide ((infOf q.s.V y).lv>lv)) (infOf q.s.V y).lv (k:Int) L.length L 0,lfT (M (q.s.V.length:Int)) (fun n=>n≤lv) t:=by
    have key:∀ (l:List Tm) (i:Nat),i+l.length≤L.length→∀ t∈mo2 (decide ((infOf q.s.V y).lv>lv)) (infOf q.s.V y).lv (k:Int) L.length l i,lfT (M (q.s.V.length:Int)) (fun n=>n≤lv) t:=by
     intro l
     induction l with
     | nil=>intro i _ t ht;rw [mo2] at ht;cases ht
     | cons u l ih=>
      intro i hi t ht;simp only [List.length_cons] at hi;rw [mo2] at ht;split at ht
      · rcases List.mem_cons.1 ht with rfl | ht
        · exact ⟨⟨_, .inl ⟨rfl,by omega⟩⟩,fun e=>absurd e (by show¬(3:Int)=1;decide)⟩
        · exact ih (i+1) (by omega) t ht
      · exact ih (i+1) (by omega) t ht
    exact key L 0 (by omega)
   rw [z1m,z4q]
   have base:Gd (VS (z3y q.s y (z0d [lv,(infOf q.s.V y).lv]) ls.length (im1 lv L (k:Int) ls.length ls 0++mo1 (decide ((infOf q.s.V y).lv>lv)) (infOf q.s.V y).lv L))) M (ppx M x lv) (fun n=>n≤lv) (apps (.var (q.s.V.length:Int)) (toLs (im2 lv L (k:Int) ls++mo2 (decide ((infOf q.s.V y).lv>lv)) (infOf q.s.V y).lv (k:Int) L.length L 0))):=by
    refine .flx hn ⟨fun e=>by omega,by rw [hMn];exact mn.1⟩ (.refl _) ⟨z4w .refl _,fun l hl=> ?_,nd,by rw [hMn];exact mn.2.2⟩;rw [z0z] at hl;obtain ⟨t,ht,rfl⟩:=List.mem_map.1 hl;rcases List.mem_append.1 ht with ht | ht
    · have:=lf2 t ht;exact (show lfT (M (q.s.V.length:Int)) (fun n=>n≤lv) t from ⟨this.1,fun e=>⟨by have:=(this.2 e).1;rw [hMn];omega,(this.2 e).2⟩⟩).q
    · exact (lfm t ht).q
   refine base.more hS g.sub (fun z u z1 z2 zp=> ?_) (fun z zp n hn=>by have:=zp.2;omega);obtain ⟨n,b,e,hb⟩:=g.new z u z1 z2;exact ⟨n,b,e,hb.weak (fun w hw=>⟨⟨hw.1,by have:=hw.2;have:=zp.2;omega⟩,hw.2⟩) fun _ h=>h⟩
omit hLf hLv hLp lv0 in
theorem zut {C:Nat} {tm:IS→Tm→Tm×IS} {f0:Int} (he:∀ q t,q.e≠0→(tm q t).2.e≠0) (hch:∀ q t,Chg q.s (tm q t).2.s)
  (hgi:∀ q t,GI C q→0≤q.f→q.f≤f0→(q.e=0→validB t=true→Fit q.f.toNat t)→GI C (tm q t).2∧(tm q t).2.f≤q.f∧0≤(tm q t).2.f)
  (htm:∀ q t,GI C q→0≤q.f→q.f≤f0→(q.e=0→validB t=true→Fit q.f.toNat t)→LV0 q.s→CS q.s→inB q.s.V x=true→(tm q t).2.e=0→MS M (tm q t).2.s→GX M (fun z=>z≠x) (VS q.s) (VS (tm q t).2.s)∧GU M x lv (tm q t).2.s (tm q t).1):
  ∀ (l:List Tm) (q:IS),GI C q→0≤q.f→q.f≤f0→(∀ t∈l,validB t=true→Fit q.f.toNat t)→LV0 q.s→CS q.s→inB q.s.V x=true→(z1u tm l q).2.e=0→MS M (z1u tm l q).2.s→
   GX M (fun z=>z≠x) (VS q.s) (VS (z1u tm l q).2.s)∧(∀ u∈(z1u tm l q).1,GU M x lv (z1u tm l q).2.s u)∧Chg q.s (z1u tm l q).2.s
 | [],q,_,_,_,_,_,_,_,_,_=>⟨.refl _,(fun u hu=>nomatch hu), .refl⟩
 | t::l,q,h,h0,h1,hl,l0,cs,hx,hz,hM=>by
  have a:=hgi q t h h0 h1 (fun _=>hl t List.mem_cons_self);have c:=hch q t;have hx2:=(c.keeps x hx).1;have r:=zut he hch hgi htm l (tm q t).2 a.1 a.2.2 (by omega) (fun u hu hv=>(hl u (List.mem_cons_of_mem _ hu) hv).mono (by omega)) (c.l0 l0) (c.cs cs) hx2 hz hM;have ez:=zvv he l (tm q t).2 hz;have b:=htm q t h h0 h1 (fun _=>hl t List.mem_cons_self) l0 cs hx ez (hM.back r.2.2);have cl:=(r.2.2.cs (c.cs cs)).cl
  refine ⟨b.1.trans cl r.1,fun u hu=> ?_,zcr (s0:=q.s) (fun q' t' hc=>by
   have key:∀ {a b d:Sto},Chg a b→Chg b d→Chg a d:=fun h1 h2=>by
    induction h2 with
    | refl=>exact h1
    | fresh lv _ ih=>exact ih.fresh lv
    | bind x t _ ih=>exact ih.bind x t
   exact key hc (hch q' t')) (t::l) q .refl⟩
  rcases List.mem_cons.1 hu with rfl | hu
  · exact b.2.of r.1
  · exact r.2.1 u hu
variable {C:Nat} (hC:C≤1073741824) (hL:LP L)
include hC hL
theorem zy9:∀ (D:Nat) (q:IS) (t:Tm) (k:Nat),GI C q→0≤q.f→(q.e=0→validB t=true→Fit q.f.toNat t)→LV0 q.s→CS q.s→inB q.s.V x=true→(z0j x lv L D q t (k:Int)).2.e=0→MS M (z0j x lv L D q t (k:Int)).2.s→
  GX M (fun z=>z≠x) (VS q.s) (VS (z0j x lv L D q t (k:Int)).2.s)∧GU M x lv (z0j x lv L D q t (k:Int)).2.s (z0j x lv L D q t (k:Int)).1
 | 0,q,t,k,h,h0,_,_,_,_,he,_=>by
  rw [z0j] at he;split at he
  · rename_i q1;exact absurd he q1
  · exact absurd he (z1n _ (by decide))
 | D+1,q,t,k,h,h0,hf,l0,cs,hx,he,hM=>by
  rw [z0j] at he hM ⊢;split at he
  · rename_i q1;exact absurd he q1
  rename_i q1;rw [if_neg q1] at hM ⊢;have e0:q.e=0:=by simpa using q1
  split at he
  · exact absurd he (z1n _ (by decide))
  rename_i hf0;rw [if_neg hf0] at hM ⊢;have hfit:validB t=true→Fit (q.f-1).toNat t:=fun hv=>(hf e0 hv).mono (by omega);unfold zj5 at he hM ⊢;split at he
  · rename_i hz;exact absurd he (z1n _ hz)
  rename_i hz;rw [if_neg hz] at hM ⊢;have hz0:(z0t q.s (q.f-1) t).2.2=0:=by simpa using hz
  have ok:=z6m h.ok (by omega) hfit hz0;have en:=zdw hz0;have hV:=h.V;generalize z0t q.s (q.f-1) t=z at*;obtain ⟨z1,z2,z3⟩:=z;dsimp only at ok en he hM ⊢;obtain ⟨hval,hfz,hz0',hz1⟩:=ok;have sp:=z22 ⟨hval,hfz⟩;have se:=zd7 hval en;have g:GI C ⟨q.s,z2,q.e⟩:=h.less hz0' (by omega);have ih:=fun q' t' k'=>zy9 D q' t' k';have gi:=fun q' t' k'=>z9c hC hL x lv D q' t' k';unfold z5t at he hM ⊢;split at he
  · rename_i h5;rw [if_pos h5] at hM ⊢;obtain ⟨s1,s2⟩:=se.1 h5;have h5:z1.k=5:=by have:=h5;rw [s2] at this;exact this
    rw [s2,show (k:Int)+1=((k+1:Nat):Int) by omega] at he hM ⊢
    have hne:z1.l ≠ []:=fun e=>by
     obtain ⟨wk,ws,wn,wl⟩:=z1;obtain ⟨u,hu,_⟩:=okB5 (z04 _ hval) h5;rw [hu] at e;cases e
    have hm:hd z1.l∈z1.l:=zwr hne;have r:=ih ⟨q.s,z2,q.e⟩ (hd z1.l) (k+1) g hz0' (fun _ _=>hfz.kid hm) l0 cs hx he hM;refine ⟨r.1,fun S hS gS=> ?_⟩;show Gd S M _ _ (toL (z4m 1 _));rw [z5j];exact .lam (.refl _) (r.2 S hS gS)
  rename_i h5;rw [if_neg h5] at hM ⊢;split at he
  · rename_i h4;rw [if_pos h4] at hM ⊢;split at he
    · exact absurd he (z1n _ (by decide))
    rename_i hxx;rw [if_neg hxx] at hM ⊢;have hfa:∀ t∈(z03 z1).2,validB t=true→Fit z2.toNat t:=fun t ht _=>(sp.2.1 t ht).2;have ha:=z4v g.ok (z03 z1).1.n (z03 z1).2 z2 hfa;unfold z3m at he hM ⊢;split at he
    · rename_i hr;exact absurd he (z1n _ hr)
    rename_i hr;rw [if_neg hr] at hM ⊢;have hr0:(z0x q.s (z03 z1).1.n (z03 z1).2 z2).2.2=0:=by simpa using hr
    have a2:=ha.2.1 hz0' hr0;have pt:=zql hr0 ha.1;have f1:=g.f1;exact flexG_gd hLf hLv hLp lv0 (q:=⟨q.s,z2,q.e⟩) (by dsimp only;omega) a2.2.2 hx (se.2.1 h4) hxx l0 pt (by dsimp only at*;omega) hM
  rename_i h4;rw [if_neg h4] at hM ⊢;unfold zfp at he hM ⊢;split at he
  · exact absurd he (z1n _ (by decide))
  rename_i hi;rw [if_neg hi] at hM ⊢;have kk:=zut (C:=C) (x:=x) (lv:=lv) (tm:=fun q t=>z0j x lv L D q t (k:Int)) (f0:=z2) (fun q' t' a=>by rw [zlm x lv L D t' (k:Int) a];exact a) (fun q' t'=>z4y (s0:=q'.s) x lv L D q' t' (k:Int) .refl) (fun q' t' a b _ d=>gi q' t' (k:Int) a b d) (fun q' t' a b _ d e1 e2 e3 e4 e5=>ih q' t' k a b d e1 e2 e3 e4 e5) (z03 z1).2 ⟨q.s,z2,q.e⟩ g hz0' (Int.le_refl _) (fun t ht _=>(sp.2.1 t ht).2) l0 cs hx he hM;refine ⟨kk.1,fun S hS gS=> ?_⟩;rw [z1m]
  have args:∀ a∈toLs (z1u (fun q t=>z0j x lv L D q t (k:Int)) (z03 z1).2 ⟨q.s,z2,q.e⟩).1,Gd S M (ppx M x lv) (fun n=>n≤lv) a:=fun a ha=>by
   rw [z0z] at ha;obtain ⟨u,hu,rfl⟩:=List.mem_map.1 ha;exact kk.2.1 u hu S hS gS
  have hd:HdL S (toL (if (z03 z1).1.k=3∨(z03 z1).1.k=1 then (imgT lv L (z03 z1).1 (k:Int)).1 else (z03 z1).1))∧∀ z,toL (if (z03 z1).1.k=3∨(z03 z1).1.k=1 then (imgT lv L (z03 z1).1 (k:Int)).1 else (z03 z1).1) ≠ .var z:=by
   split
   · rename_i h31
     have c:(imgT lv L (z03 z1).1 (k:Int)).2=true:=by
      by_cases c:(imgT lv L (z03 z1).1 (k:Int)).2=true
      · exact c
      · exact absurd ⟨h31,by simpa using c⟩ hi
     have hl:∃ c,lfT c (fun _=>True) (z03 z1).1:=⟨(z03 z1).1.n-1,z98 sp.1.1 h31,fun _=>⟨by omega,trivial⟩⟩;obtain ⟨c0,hl⟩:=hl;exact (img_lf (lv:=lv) (L:=L) (k:=(k:Int)) (by omega) hl c).q.hd
   · rename_i h31;have h6:=se.2.2;generalize (z03 z1).1=w at*;obtain ⟨wk,ws,wn,wl⟩:=w;have h5:¬wk=5:=h5;have h4:¬wk=4:=h4;have h6:¬wk=6:=h6;have h31:¬(wk=3∨wk=1):=h31;have:toL (.mk wk ws wn wl)= .con wk wn ws:=by rw [toL,mkL,if_neg h5,if_neg h6,if_neg (by omega),if_neg h4]
     rw [this];exact ⟨trivial,fun z e=>by cases e⟩
  exact .rig hd.2 hd.1 (.refl _) args
end
end Go.AM

set_option maxRecDepth 100000
open Go Go.Proofs
namespace Go.AM
abbrev pT:Int→Prop:=fun _=>True
theorem zw4 {C:Nat} (hC:C≤1073741824) {M:Int→Int} {s:Sto} (hs:OKS s) {x:Int} {l:List Tm} {t:Tm} {f:Int} (h0:0≤f) (hf:f≤157) (hV:s.V.length+f.toNat≤C) (hT:s.T.length+f.toNat≤C) (hl:l.length≤157) (hfit:validB t=true→Fit f.toNat t) (l0:LV0 s) (cs:CS s) (hLp:LPt (infOf s.V x).lv l)
  (he:(z05 s x l t f).1.2.2=0) (hM:MS M (z05 s x l t f).2):
  GX M (fun z=>z≠x) (VS s) (VS (z05 s x l t f).2)∧∃ b,(z05 s x l t f).1.1=z4m l.length b∧GU M x (M x) (z05 s x l t f).2 b:=by
 unfold z05 at he hM ⊢;split
 · rename_i q;rw [if_pos q] at he;cases he
 · rename_i hc;rw [if_neg hc] at he hM;simp only [Bool.or_eq_true,not_or] at hc;have hx:inB s.V x=true:=by simpa using hc.1.1.1
   have hlf:∀ u∈l,z4d u=true:=fun u hu=>by have:=List.any_eq_false.1 (by simpa using hc.2:(l.any fun u=> !z4d u)=false) u hu;simpa using this
   have hL:LP l:=⟨by omega,fun u hu=>(z53 (hlf u hu)).1⟩;have hLv:∀ u∈l,validB u=true:=fun u hu=>by have:=hlf u hu;unfold z4d at this;rw [Bool.and_eq_true] at this;exact this.1
   have hLf:∀ u∈l,IsLf u:=fun u hu=>z98 (hLv u hu) (z53 (hlf u hu)).2.1;split
   · rename_i q;rw [if_pos q] at he;exact absurd he q
   · rename_i q;rw [if_neg q] at he hM;have q:(z0j x (infOf s.V x).lv l f.toNat ⟨s,f,0⟩ t 0).2.e=0:=by simpa using q
     have hMx:(infOf s.V x).lv=M x:=hM.back (z4y (s0:=s) x (infOf s.V x).lv l f.toNat ⟨s,f,0⟩ t 0 .refl) x hx;have r:=zy9 hLf hLv hLp (zrx l0 x) hC hL f.toNat ⟨s,f,0⟩ t 0 ⟨hs,hV,hT,by simp only;omega,by simp only;omega⟩ h0 (fun _=>hfit) l0 cs hx q hM;refine ⟨r.1,_,rfl, ?_⟩;rw [←hMx];exact r.2
theorem bind_gd {C:Nat} (hC:C≤1073741824) {M:Int→Int} {s:Sto} (hs:OKS s) {x:Int} {l:List Tm} {t:Tm} {f:Int} (h0:0≤f) (hf:f≤157) (hV:s.V.length+f.toNat≤C) (hT:s.T.length+f.toNat≤C) (hl:l.length≤157) (hfit:validB t=true→Fit f.toNat t) (l0:LV0 s) (cs:CS s) (hLp:LPt (infOf s.V x).lv l)
  (he:(z50 s f x l t).1=0) (hM:MS M (z50 s f x l t).2.1):
  GX M pT (VS s) (VS (z50 s f x l t).2.1)∧∀ S,ClV S→SubV (VS (z50 s f x l t).2.1) S→Eqv S (apps (.var x) (toLs l)) (toL t):=by
 unfold z50 at he hM ⊢;split
 · rename_i q;rw [if_pos q] at he;exact absurd he q
 rename_i q;rw [if_neg q] at he hM;have q:(z05 s x l t f).1.2.2=0:=by simpa using q
 have hb:z2t (z05 s x l t f).2 x (z05 s x l t f).1.1=true:=by
  by_cases c:z2t (z05 s x l t f).2 x (z05 s x l t f).1.1=true
  · exact c
  · dsimp only at he;unfold zdt at he;rw [if_neg c] at he;cases he
 have ch:=zba (s0:=s) .refl x l t f;have hM1:MS M (z05 s x l t f).2:=hM.back ((Chg.refl).bind _ _);obtain ⟨g,b,eb,gu⟩:=zw4 hC hs h0 hf hV hT hl hfit l0 cs hLp q hM1
 have vx:VS (z05 s x l t f).2 x=none:=zbi (by
  simp only [z2t,Bool.and_eq_true] at hb;simpa using hb.2.1)
 have W:=znx hb;have cs1:=ch.cs cs;have cl1:=cs1.cl;have cl2:=(cs1.bind x (z05 s x l t f).1.1).cl;have sub:=zic (z05 s x l t f).2 x (z05 s x l t f).1.1
 have mo:∀ {p q:Int→Prop} {t':La},(∀ y,p y→y≠x)→(∀ y,p y→∀ n,n≤M y→q n)→Gd (VS (z05 s x l t f).2) M p q t'→Gd (VS (bindS (z05 s x l t f).2 x (z05 s x l t f).1.1)) M p q t':=fun hp hq h=>h.more cl2 sub (fun y v h1 h2 h3=>by
  rcases z9u h2 with h4 | ⟨h4,_⟩
  · rw [h4] at h1;cases h1
  · exact absurd h4 (hp y h3)) hq
 refine ⟨⟨g.sub.trans sub,fun y v h1 h2=> ?_⟩,fun S hS hSub=> ?_⟩
 · rcases z9u h2 with h3 | ⟨rfl,rfl⟩
   · obtain ⟨n,b',e,hb'⟩:=g.new y v h1 h3;exact ⟨n,b',e,(mo (fun z h=>h.1) (fun z h n hn=>by have:=h.2;omega) hb').weak (fun z h=>⟨trivial,h.2⟩) fun _ h=>h⟩
   · refine ⟨l.length,toL b,by rw [eb,z5j], ?_⟩;exact (mo (fun z h=>h.1) (fun z h n hn=>by have:=h.2;omega) (gu _ cl1 (.refl _))).weak (fun z h=>⟨trivial,h.2⟩) fun _ h=>h
 · have i:=zsu hC hs h0 hf hV hT hl hfit q hS (sub.trans hSub);have d:Eqv S (.var x) (toL (z05 s x l t f).1.1):=Eqv.of (Sts.del (hSub x _ W));exact (z6s (toLs l) (toLs l) _ _ d (z4w .refl _)).trans hS i
structure SX (s:Sto)(t:Tm)(x:SD):Prop where
 st:Sts (VS s) (toL t) (toL x.t)
 eq:toL x.t=apps (toL x.h) (toLs x.a)
 v:validB x.t=true
 h5:x.h.k=5→x.h=x.t
 h4:x.h.k=4→(infOf s.V x.h.n).bd=false
 h6:x.h.k≠6
theorem zax {s:Sto}(hs:OKS s){f:Int}(h0:0≤f){t:Tm}(h:okP (f.toNat+1) t){x:SD}{g:Int}(e:z0a s f t=((x,0),g)):SX s t x:=by
 have k:=z3z hs h0 h e;obtain ⟨k1,k2,k3,k4,k5⟩:=k;have hz:(z0t s f t).2.2=0:=by rw [k5]
 have st:=zjh hs (fun _=>h.2.mono (by omega)) hz;have en:=zdw hz;rw [k5] at st en;have se:=zd7 k3.1 en;have sp:=zko k3.1;rw [k4];exact ⟨st,sp,k3.1,fun e=>(se.1 e).2,se.2.1,se.2.2⟩
theorem zi4 {h:Tm}(e:h.k=4):toL h= .var h.n:=by
 obtain ⟨k,s,n,l⟩:=h;have e:k=4:=e;subst e;exact z4q
theorem ztu {S:Int→Option La}{h:Tm}(h4:h.k≠4)(h5:h.k≠5)(h6:h.k≠6):HdL S (toL h)∧∀ z,toL h ≠ .var z:=by
 obtain ⟨k,s,n,l⟩:=h;have h4:¬k=4:=h4;have h5:¬k=5:=h5;have h6:¬k=6:=h6;by_cases h3:k=3
 · subst h3;rw [z1h];exact ⟨trivial,fun z e=>by cases e⟩
 · have:toL (.mk k s n l)= .con k n s:=by rw [toL,mkL,if_neg h5,if_neg h6,if_neg h3,if_neg h4]
   rw [this];exact ⟨trivial,fun z e=>by cases e⟩
theorem zcf {S:Int→Option La}{t:Tm}(hv:validB t=true):Eqv S (.app ((toL t).lift 0) (.bv 0)) (toL (z5g t)):=by
 unfold z5g;rw [if_pos hv];split
 · rename_i h;obtain ⟨k,s,n,l⟩:=t;have h:k=5:=h;subst h;rw [z1j];have:=Sts.beta (V:=S) ((toL (hd l)).lift 1) (.bv 0);rw [La.sub_lift_bv (toL (hd l)) 0] at this;exact Eqv.of this
 · rw [z1m];have:=zuw 1 t 0 hv;rw [show ((1:Nat):Int)=1 from rfl,show ((0:Nat):Int)=0 from rfl,La.sh_one] at this;rw [this];exact .refl _
theorem zs5 {S:Int→Option La}(hS:ClV S){a b:La}(h:Eqv S (.app (a.lift 0) (.bv 0)) (.app (b.lift 0) (.bv 0))):Eqv S a b:=((Eqv.of (Sts.eta a)).symm.trans hS h.lam).trans hS (Eqv.of (Sts.eta b))
theorem z81 {M:Int→Int}{s:Sto}(hs:OKS s)(l0:LV0 s)(cs:CS s)(hM:MS M s){g:Int}(h0:0≤g){t:Tm}{x:SD}(sx:SX s t x)(h4:x.h.k=4)(hx:∀ t∈x.a,okP (g.toNat+1) t)(he:(z02 s g x).1.2=0):
  LPt (infOf s.V x.h.n).lv (z02 s g x).1.1∧inB s.V x.h.n=true∧Eqv (VS s) (toL t) (apps (.var x.h.n) (toLs (z02 s g x).1.1))∧Gd (VS s) M pT pT (toL t)∧∀ u∈(z02 s g x).1.1,IsLf u:=by
 have ll:=z2o hs h0 hx;have he:(z0x s x.h.n x.a g).2.2=0:=he;have hf:∀ t∈x.a,validB t=true→Fit g.toNat t:=fun t ht _=>(hx t ht).2.mono (by omega);have ha:=z4v hs x.h.n x.a g hf;have a2:=ha.2.1 h0 he;have pt:=zql he ll.1;have st:=zkl hs h0 hf he;have cl:=cs.cl;have hh:=sx.h4 h4
 have e1:Eqv (VS s) (toL t) (apps (.var x.h.n) (toLs x.a)):=by
  have:=Eqv.of sx.st;rw [sx.eq,zi4 h4] at this;exact this
 have e2:All2 (Eqv (VS s)) (toLs x.a) (toLs (z0x s x.h.n x.a g).1):=zcg (fun _ _ r=>Eqv.of r) (za1 st);have hMx:=hM x.h.n a2.2.2;refine ⟨pt,a2.2.2,e1.trans cl (z6s _ _ _ _ (.refl _) e2), .flx (zbi hh) trivial e1 ⟨e2,fun l hl=> ?_,pt.nd,by rw [←hMx];exact zrx l0 _⟩,fun u hu=>(pt.lf u hu).1⟩;rw [z0z] at hl;obtain ⟨u,hu,rfl⟩:=List.mem_map.1 hl;rw [←hMx];exact (pt.lf u hu).q
def zi5:List Bool→List Tm→List Tm
 | b::bs,t::l=>if b=true then t::zi5 bs l else zi5 bs l
 | _,_=> []
theorem wk_onK (ls:List Tm):∀ (bs:List Bool) (l pre:List Tm),ls=pre++l→bs.length=l.length→(toLs (onK (ls.length:Int) bs (pre.length:Int))).map (fun a=>a.wk (gs (toLs ls)) 0)=toLs (zi5 bs l)
 | [],l,pre,_,_=>by cases l<;>rfl
 | b::bs,[],pre,_,h=>by cases h
 | b::bs,t::l,pre,hl,h=>by
  have ih:=wk_onK ls bs l (pre++ [t]) (by rw [hl];simp) (by simpa using h);rw [show ((pre++ [t]).length:Int)=(pre.length:Int)+1 by simp] at ih;rw [onK,zi5];split
  · have hj:pre.length<ls.length:=by rw [hl];simp
    have e:=gs_at (L:=ls) (k:=0) hj;rw [La.sh_zero,Nat.zero_add] at e;rw [toLs,List.map_cons,ih,toLs];congr 1;show (toL (.mk 3 [] ((ls.length:Int)-1-(pre.length:Int)) [])).wk _ _=_;rw [z1h,La.wk,show ((ls.length:Int)-1-(pre.length:Int)).toNat=ls.length-1-pre.length by omega,e];congr 1;simp [hl]
  · exact ih
theorem zjl:∀ a b:List Tm,zi5 (List.zipWith z1b a b) a=zi5 (List.zipWith z1b a b) b
 | [],b=>by cases b<;>rfl
 | x::a,[]=>rfl
 | x::a,y::b=>by
  rw [List.zipWith_cons_cons,zi5,zi5,zjl a b];split
  · rename_i q;rw [(z3q x y).1 q]
  · rfl
theorem zoz:∀ a b:List Tm,a.length=b.length→((List.zipWith z1b a b).any fun t=>false==t)=false→a=b
 | [],[],_,_=>rfl
 | [],_::_,h,_=>by cases h
 | _::_,[],h,_=>by cases h
 | x::a,y::b,h,h2=>by
  rw [List.zipWith_cons_cons,List.any_cons,Bool.or_eq_false_iff] at h2
  have q:z1b x y=true:=by
   cases c:z1b x y with
   | true=>rfl
   | false=>rw [c] at h2;exact absurd h2.1 (by decide)
  rw [(z3q x y).1 q,zoz a b (by simpa using h) h2.2]
theorem prune_gd {M:Int→Int}{s:Sto}(cs:CS s)(l0:LV0 s)(hV:s.V.length≤1073741824){x:Int}{a b:List Tm}(hx:inB s.V x=true)(hf:(infOf s.V x).bd=false)(hab:a.length=b.length)(ha:a.length≤900)(hM:MS M (z3k s x (List.zipWith z1b a b))):
  GX M pT (VS s) (VS (z3k s x (List.zipWith z1b a b)))∧∀ S,ClV S→SubV (VS (z3k s x (List.zipWith z1b a b))) S→Eqv S (apps (.var x) (toLs a)) (apps (.var x) (toLs b)):=by
 unfold z3k at hM ⊢;rw [if_pos ⟨hx,hf⟩] at hM ⊢;have hk:(List.zipWith z1b a b).length=a.length:=by rw [List.length_zipWith];omega
 generalize hK:List.zipWith z1b a b=K at*;have on:=zxg (M (s.V.length:Int)) (fun k=>k≤M x) K.length K 0 (by omega);have nd:=onK_nd K.length K 0 (by omega)
 have hb:=zbm (lv:=(infOf s.V x).lv) (m:=K.length) (on:=onK (K.length:Int) K 0) hx hf hV (fun t ht=>by
  obtain ⟨_,j,_,h2,rfl⟩:=on t ht;exact ⟨zol (by omega) (by omega),zwd (.inl rfl) (fun _=>by show (K.length:Int)-1-(j:Int)<_;omega) (fun e=>absurd e (by show¬(3:Int)=1;decide))⟩)
 have hMx:(infOf s.V x).lv=M x:=hM.back (Chg.hang .refl _ _ _ _) x hx
 have hMn:M (s.V.length:Int)=M x:=by
  have h2:=zf2 s (infOf s.V x).lv;have h3:=hM.back (s:=freshS s (infOf s.V x).lv) ((Chg.refl).bind _ _) (s.V.length:Int) h2.2;rw [h2.1] at h3;rw [←h3,←hMx];exact zh2 (zrx l0 x)
 refine ⟨zvm hx hb (by rw [hMn];exact Int.le_refl _) (by rw [hMn,←hMx];exact zrx l0 x) trivial nd (fun t ht=>(on t ht).1),fun S hS hSub=> ?_⟩;have hd:=hSub x _ (znx hb);rw [z5m,z5j,z1m,z4q] at hd
 have key:∀ c:List Tm,c.length=K.length→Eqv S (apps (.var x) (toLs c)) (apps (.var (s.V.length:Int)) (toLs (zi5 K c))):=fun c hc=>by
  have b1:=z77 (V:=S) (toLs c) (apps (.var (s.V.length:Int)) (toLs (onK (K.length:Int) K 0)));have hc2:(toLs c).length=K.length:=by rw [z0z,List.length_map,hc]
  rw [hc2,z7z] at b1;have w:=wk_onK c K c [] rfl hc.symm;rw [List.length_nil,hc] at w;rw [show ((0:Nat):Int)=0 from rfl] at w;rw [w] at b1;exact (z6s _ _ _ _ (Eqv.of (Sts.del hd)) (z4w .refl _)).trans hS (Eqv.of b1)
 have k1:=key a hk.symm;have k2:=key b (by omega);rw [←hK,zjl a b,hK] at k1;exact k1.trans hS k2.symm
end Go.AM

set_option maxRecDepth 100000
open Go Go.Proofs
namespace Go.AM
def PG (S:Int→Option La)(M:Int→Int)(p:Tm×Tm):Prop:=Eqv S (toL p.1) (toL p.2)∧Gd S M pT pT (toL p.1)∧Gd S M pT pT (toL p.2)
theorem GX.gdT {V W:Int→Option La}{M:Int→Int}(hW:ClV W)(h:GX M pT V W){t:La}(hg:Gd V M pT pT t):Gd W M pT pT t:=h.gd hW (fun _ _ _ _=>trivial) hg
theorem zwy {P:Tm→Tm→Prop}:∀ {a b:List Tm},a.length=b.length→(∀ q∈a.zip b,P q.1 q.2)→All2 P a b
 | [],[],_,_=>trivial
 | [],_::_,h,_=>by cases h
 | _::_,[],h,_=>by cases h
 | x::a,y::b,h,hq=>⟨hq (x,y) List.mem_cons_self,zwy (by simpa using h) fun q hm=>hq q (List.mem_cons_of_mem _ hm)⟩
theorem zqt {C:Nat} (hC:C≤1073741824) {M:Int→Int} {s:Sto} (hs:OKS s) (l0:LV0 s) (cs:CS s) {g:Int} (h0:0≤g) (h1:g≤156) (hV:s.V.length+g.toNat+1≤C) (hT:s.T.length+g.toNat+1≤C) {t:Tm} {x:SD} (sx:SX s t x) (h4:x.h.k=4) (hxa:∀ t∈x.a,okP (g.toNat+1) t) {v:Tm} (hv:okP (g.toNat+1) v)
  (e:(z1a s g x v).1=0) (hM:MS M (z1a s g x v).2.1):GX M pT (VS s) (VS (z1a s g x v).2.1)∧∀ S,ClV S→GX M pT (VS (z1a s g x v).2.1) S→Eqv S (toL t) (toL v)∧Gd S M pT pT (toL t):=by
 have hMs:=hM.back (zef (s0:=s) .refl g x v);unfold z1a at e hM ⊢;by_cases q:(z02 s g x).1.2≠0
 · rw [if_pos q] at e;exact absurd e q
 rw [if_neg q] at e hM ⊢;have q:(z02 s g x).1.2=0:=by simpa using q
 have ll:=z2o hs h0 hxa;have gx:=z81 hs l0 cs hMs h0 sx h4 hxa q;have b:=bind_gd (C:=C) hC hs (x:=x.h.n) (l:=(z02 s g x).1.1) (t:=v) (f:=(z02 s g x).2) ll.2.2.1 (by omega) (by omega) (by omega) (by omega) (fun _=>hv.2.mono (by omega)) l0 cs gx.1 e hM;refine ⟨b.1,fun S hS gS=> ?_⟩;have g2:=b.1.trans hS gS;exact ⟨(gx.2.2.1.more g2.sub).trans hS (b.2 S hS gS.sub),g2.gdT hS gx.2.2.2.1⟩
theorem zx7 {M:Int→Int} {s:Sto} (hs:OKS s) (l0:LV0 s) (cs:CS s) {g:Int} (h0:0≤g) (h1:g≤156) (hV:s.V.length≤1073741824) {t u:Tm} {x y:SD} (sx:SX s t x) (sy:SX s u y) (hxa:∀ t∈x.a,okP (g.toNat+1) t) (hya:∀ t∈y.a,okP (g.toNat+1) t)
  (c:x.h.k=4∧y.h.k=4∧x.h.n=y.h.n) (e:(z0v s g x y).1=0) (hM:MS M (z0v s g x y).2.1):GX M pT (VS s) (VS (z0v s g x y).2.1)∧∀ S,ClV S→GX M pT (VS (z0v s g x y).2.1) S→PG S M (t,u):=by
 have hMs:=hM.back (zgr (s0:=s) .refl g x y);have ll:=z2o hs h0 hxa;unfold z0v at e hM ⊢;by_cases q:(z02 s g x).1.2≠0
 · rw [if_pos q] at e;exact absurd e q
 rw [if_neg q] at e hM ⊢;by_cases q2:(z02 s (z02 s g x).2 y).1.2≠0
 · rw [if_pos q2] at e;exact absurd e q2
 rw [if_neg q2] at e hM ⊢;by_cases q3:(z02 s g x).1.1.length≠(z02 s (z02 s g x).2 y).1.1.length
 · rw [if_pos q3] at e;cases e
 rw [if_neg q3] at e hM ⊢;have q:(z02 s g x).1.2=0:=by simpa using q
 have q2:(z02 s (z02 s g x).2 y).1.2=0:=by simpa using q2
 have q3:(z02 s g x).1.1.length=(z02 s (z02 s g x).2 y).1.1.length:=by simpa using q3
 have gx:=z81 hs l0 cs hMs h0 sx c.1 hxa q;have gy:=z81 hs l0 cs hMs ll.2.2.1 sy c.2.1 (fun t ht=>(hya t ht).mono (by omega)) q2;have ey:=gy.2.2.1;rw [←c.2.2] at ey;by_cases q4:((List.zipWith z1b (z02 s g x).1.1 (z02 s (z02 s g x).2 y).1.1).any fun t=>false==t)=false
 · rw [if_pos q4] at e hM ⊢;refine ⟨.refl _,fun S hS gS=> ?_⟩;rw [←zoz _ _ q3 q4] at ey;exact ⟨(gx.2.2.1.trans cs.cl ey.symm).more gS.sub,gS.gdT hS gx.2.2.2.1,gS.gdT hS gy.2.2.2.1⟩
 · rw [if_neg q4] at e hM ⊢;have p:=prune_gd (M:=M) cs l0 hV gx.2.1 (sx.h4 c.1) q3 (by omega) hM;refine ⟨p.1,fun S hS gS=> ?_⟩;have g2:=p.1.trans hS gS;exact ⟨((gx.2.2.1.more g2.sub).trans hS (p.2 S hS gS.sub)).trans hS (ey.more g2.sub).symm,g2.gdT hS gx.2.2.2.1,g2.gdT hS gy.2.2.2.1⟩
theorem pairG_gd {C:Nat} (hC:C≤1073741824) {M:Int→Int} {s:Sto} (hs:OKS s) (l0:LV0 s) (cs:CS s) {g:Int} (h0:0≤g) (h1:g≤156) (hV:s.V.length+g.toNat+1≤C) (hT:s.T.length+g.toNat+1≤C) {t u:Tm} {x y:SD} (sx:SX s t x) (sy:SX s u y)
  (ox:okP (g.toNat+1) x.t) (oy:okP (g.toNat+1) y.t) (hxa:∀ t∈x.a,okP (g.toNat+1) t) (hya:∀ t∈y.a,okP (g.toNat+1) t) (e:(z5e s g x y).1.1=0) (hM:MS M (z5e s g x y).1.2.1):
  GX M pT (VS s) (VS (z5e s g x y).1.2.1)∧∀ S,ClV S→GX M pT (VS (z5e s g x y).1.2.1) S→(∀ q∈(z5e s g x y).2,PG S M q)→PG S M (t,u):=by
 unfold z5e at e hM ⊢;by_cases c1:x.t.k=5∨y.t.k=5
 · rw [if_pos c1] at e hM ⊢;refine ⟨.refl _,fun S hS gS hq=> ?_⟩;obtain ⟨q1,q2,q3⟩:=hq _ (List.mem_singleton.2 rfl);have tx:Eqv S (toL t) (toL x.t):=Eqv.of (sx.st.more gS.sub);have ty:Eqv S (toL u) (toL y.t):=Eqv.of (sy.st.more gS.sub);have bx:=zcf (S:=S) sx.v;have bY:=zcf (S:=S) sy.v;have exy:Eqv S (toL x.t) (toL y.t):=zs5 hS ((bx.trans hS q1).trans hS bY.symm);exact ⟨(tx.trans hS exy).trans hS ty.symm,(Gd.unbody (q2.eqv hS bx.symm)).eqv hS tx.symm,(Gd.unbody (q3.eqv hS bY.symm)).eqv hS ty.symm⟩
 rw [if_neg c1] at e hM ⊢;by_cases c2:x.h.k=4∧y.h.k=4∧x.h.n=y.h.n
 · rw [if_pos c2] at e hM ⊢;have p:=zx7 hs l0 cs h0 h1 (by omega) sx sy hxa hya c2 e hM;exact ⟨p.1,fun S hS gS _=>p.2 S hS gS⟩
 rw [if_neg c2] at e hM ⊢;by_cases c3:x.h.k=4
 · rw [if_pos c3] at e hM ⊢;have p:=zqt hC hs l0 cs h0 h1 hV hT sx c3 hxa oy e hM;refine ⟨p.1,fun S hS gS _=> ?_⟩;have ty:Eqv S (toL u) (toL y.t):=Eqv.of (sy.st.more (p.1.sub.trans gS.sub));obtain ⟨r1,r2⟩:=p.2 S hS gS;have r3:=r1.trans hS ty.symm;exact ⟨r3,r2,r2.eqv hS r3⟩
 rw [if_neg c3] at e hM ⊢;by_cases c4:y.h.k=4
 · rw [if_pos c4] at e hM ⊢;have p:=zqt hC hs l0 cs h0 h1 hV hT sy c4 hya ox e hM;refine ⟨p.1,fun S hS gS _=> ?_⟩;have tx:Eqv S (toL t) (toL x.t):=Eqv.of (sx.st.more (p.1.sub.trans gS.sub));obtain ⟨r1,r2⟩:=p.2 S hS gS;have r3:=r1.trans hS tx.symm;exact ⟨r3.symm,r2.eqv hS r3,r2⟩
 rw [if_neg c4] at e hM ⊢;by_cases c5:z1b x.h y.h=false∨x.a.length≠y.a.length
 · rw [if_pos c5] at e;cases e
 rw [if_neg c5] at e hM ⊢;refine ⟨.refl _,fun S hS gS hq=> ?_⟩
 have hlen:x.a.length=y.a.length:=by
  by_cases c:x.a.length=y.a.length
  · exact c
  · exact absurd (.inr c) c5
 have hh:x.h=y.h:=by
  cases c:z1b x.h y.h with
  | false=>exact absurd (.inl c) c5
  | true=>exact (z3q _ _).1 c
 have tx:Eqv S (toL t) (apps (toL x.h) (toLs x.a)):=by
  have:=Eqv.of (sx.st.more gS.sub);rw [sx.eq] at this;exact this
 have ty:Eqv S (toL u) (apps (toL x.h) (toLs y.a)):=by
  have:=Eqv.of (sy.st.more gS.sub);rw [sy.eq,←hh] at this;exact this
 have hR:=ztu (S:=S) c3 (fun c=>c1 (.inl (by rw [←sx.h5 c];exact c))) sx.h6;have za:=zwy hlen (P:=fun a b=>PG S M (a,b)) fun q hm=>hq q hm
 have A:∀ {a b:List Tm},All2 (fun a b=>PG S M (a,b)) a b→All2 (Eqv S) (toLs a) (toLs b)∧(∀ w∈toLs a,Gd S M pT pT w)∧∀ w∈toLs b,Gd S M pT pT w:=by
  intro a
  induction a with
  | nil=>intro b h;cases b with
   | nil=>exact ⟨trivial,(fun w hw=>nomatch hw),fun w hw=>nomatch hw⟩
   | cons=>exact h.elim
  | cons v a ih=>intro b h;cases b with
   | nil=>exact h.elim
   | cons w b=>
    obtain ⟨r1,r2,r3⟩:=ih h.2;refine ⟨⟨h.1.1,r1⟩,fun z hz=> ?_,fun z hz=> ?_⟩
    · rcases List.mem_cons.1 hz with rfl | hz
      · exact h.1.2.1
      · exact r2 z hz
    · rcases List.mem_cons.1 hz with rfl | hz
      · exact h.1.2.2
      · exact r3 z hz
 obtain ⟨A1,A2,A3⟩:=A za;exact ⟨(tx.trans hS (z6s _ _ _ _ (.refl _) A1)).trans hS ty.symm, .rig hR.2 hR.1 tx A2, .rig hR.2 hR.1 ty A3⟩
theorem pair_gd {C:Nat}(hC:C≤1073741824){M:Int→Int}{s:Sto}{f:Int}{p:Tm×Tm}{st:List (Tm×Tm)}(h:UI C s f (p::st))(hf:0<f)(l0:LV0 s)(cs:CS s)(e:(z0f s (f-1) p).1.1=0)(hM:MS M (z0f s (f-1) p).1.2.1):
  GX M pT (VS s) (VS (z0f s (f-1) p).1.2.1)∧∀ S,ClV S→GX M pT (VS (z0f s (f-1) p).1.2.1) S→(∀ q∈(z0f s (f-1) p).2,PG S M q)→PG S M p:=by
 have hV:=h.V;have hT:=h.T;have hf1:=h.f1;have hp:=h.fit p List.mem_cons_self;rw [show f.toNat=(f-1).toNat+1 by omega] at hp;unfold z0f at e hM ⊢;by_cases q1:(z0a s (f-1) p.1).1.2≠0
 · rw [if_pos q1] at e;exact absurd e q1
 rw [if_neg q1] at e hM ⊢;by_cases q2:(z0a s (z0a s (f-1) p.1).2 p.2).1.2≠0
 · rw [if_pos q2] at e;exact absurd e q2
 rw [if_neg q2] at e hM ⊢;have q1:(z0a s (f-1) p.1).1.2=0:=by simpa using q1
 have q2:(z0a s (z0a s (f-1) p.1).2 p.2).1.2=0:=by simpa using q2
 have y1:z0a s (f-1) p.1=(((z0a s (f-1) p.1).1.1,0),(z0a s (f-1) p.1).2):=by rw [←q1]
 have k1:=z3z h.ok (by omega) hp.1 y1;have s1:=zax h.ok (by omega) hp.1 y1;have y2:z0a s (z0a s (f-1) p.1).2 p.2=(((z0a s (z0a s (f-1) p.1).2 p.2).1.1,0),(z0a s (z0a s (f-1) p.1).2 p.2).2):=by rw [←q2]
 have k2:=z3z h.ok k1.1 (hp.2.mono (by omega)) y2;have s2:=zax h.ok k1.1 (hp.2.mono (by omega)) y2;have ox:=k1.2.2.1.mono (G:=(z0a s (z0a s (f-1) p.1).2 p.2).2.toNat+1) (by omega);have oy:=k2.2.2.1;have sx:=(z22 ox).2.1;have sy:=(z22 oy).2.1;have ex:(z0a s (f-1) p.1).1.1.a=(z03 (z0a s (f-1) p.1).1.1.t).2:=by rw [k1.2.2.2.1];rfl
 have ey:(z0a s (z0a s (f-1) p.1).2 p.2).1.1.a=(z03 (z0a s (z0a s (f-1) p.1).2 p.2).1.1.t).2:=by rw [k2.2.2.2.1];rfl
 rw [←ex] at sx;rw [←ey] at sy;exact pairG_gd (C:=C) hC h.ok l0 cs k2.1 (by omega) (by omega) (by omega) s1 s2 ox oy sx sy e hM
theorem run_gd {C:Nat}(hC:C≤1073741824){M:Int→Int}:∀ (F:Nat) (s:Sto) (f:Int) (st:List (Tm×Tm)),UI C s f st→LV0 s→CS s→(runW F s f st).1=0→MS M (runW F s f st).2.1→
  GX M pT (VS s) (VS (runW F s f st).2.1)∧∀ p∈st,PG (VS (runW F s f st).2.1) M p
 | F,s,f,[],h,l0,cs,e,hM=>by
  have e:runW F s f []=(0,s,f):=by cases F<;>rfl
  rw [e];exact ⟨.refl _,fun p hp=>nomatch hp⟩
 | 0,s,f,p::st,h,l0,cs,e,hM=>by rw [runW] at e;cases e
 | F+1,s,f,p::st,h,l0,cs,e,hM=>by
  rw [runW] at e hM ⊢;by_cases hf:f≤0
  · rw [if_pos hf] at e;cases e
  rw [if_neg hf] at e hM ⊢;by_cases q:(z0f s (f-1) p).1.1≠0
  · rw [if_pos q] at e;exact absurd e q
  rw [if_neg q] at e hM ⊢;have q:(z0f s (f-1) p).1.1=0:=by simpa using q
  have c1:=zi8 (s0:=s) .refl (f-1) p;have nx:=zeo hC h (by omega) q;have c2:=z99 (s0:=(z0f s (f-1) p).1.2.1) F _ (z0f s (f-1) p).1.2.2 ((z0f s (f-1) p).2++st) .refl;have a:=pair_gd hC h (by omega) l0 cs q (hM.back c2);have b:=run_gd hC F _ _ _ nx.1 (c1.l0 l0) (c1.cs cs) e hM;have cl:=(c2.cs (c1.cs cs)).cl;refine ⟨a.1.trans cl b.1,fun r hr=> ?_⟩;rcases List.mem_cons.1 hr with rfl | hr
  · exact a.2 _ cl b.1 fun w hw=>b.2 w (List.mem_append_left _ hw)
  · exact b.2 r (List.mem_append_right _ hr)
end Go.AM

set_option maxRecDepth 100000
open Go Go.Proofs
namespace Go.AM
theorem zn4 (s:Sto):∀ (F:Nat) (t:Tm),(runH s F t).2.1=0∨(runH s F t).2.1=80
 | 0,t=>by
  rw [runH];split
  · exact .inl rfl
  · exact .inr rfl
 | F+1,t=>by
  rw [runH];split
  · exact .inl rfl
  · split
    · exact .inr rfl
    · exact zn4 s F _
theorem zpm (s:Sto):∀ (D:Nat) (f:Int) (t:Tm),(z0c s D f t).2.1=0∨(z0c s D f t).2.1=80
 | 0,f,t=> .inr rfl
 | D+1,f,t=>by
  rw [z0c];split
  · exact .inr rfl
  · unfold zfe;split
    · exact zn4 s _ t
    · have key:∀ (l:List Tm) (b:Bool) (g:Int),(z0w (z0c s D) b l g).2.1=0∨(z0w (z0c s D) b l g).2.1=80:=by
       intro l
       induction l with
       | nil=>intro b g;cases b<;>exact .inl rfl
       | cons u l ih=>
        intro b g;cases b with
        | true=>rw [z0w];exact ih _ _
        | false=>
         rw [z0w];split
         · exact zpm s D g u
         · exact ih _ _
      unfold z93;split<;>exact key _ _ _
theorem headV_01 {s:Sto}{f:Int}{t:Tm}(hv:validB t=true):(z0t s f t).2.2=0∨(z0t s f t).2.2=80:=by
 unfold z0t;rw [if_pos hv];split
 · exact .inl rfl
 · exact zn4 s _ t
theorem FullV_01 {s:Sto}{f:Int}{t:Tm}(hv:validB t=true):(z0k s f t).2.2=0∨(z0k s f t).2.2=80:=by
 unfold z0k;rw [if_pos hv];split
 · exact .inl rfl
 · exact zpm s _ f t
theorem leaf_k {c:Int}{q:Int→Prop}{t:Tm}(hv:validB t=true)(h:lfQ c q (toL t)):t.k=3∨t.k=1:=by
 obtain ⟨k,s,n,l⟩:=t;show k=3∨k=1;by_cases h6:k=6
 · subst h6;obtain ⟨f,a,e⟩:=z8w hv;rw [e] at h;exact h.elim
 by_cases h5:k=5
 · subst h5;rw [z1j] at h;exact h.elim
 by_cases h4:k=4
 · subst h4;rw [z4q] at h;exact h.elim
 by_cases h3:k=3
 · exact .inl h3
 · rw [toL,mkL,if_neg h5,if_neg h6,if_neg h3,if_neg h4] at h;exact .inr h.1
theorem zu9 {s:Sto}(hs:OKS s)(cl:ClV (VS s)){c:Int}{q:Int→Prop}{t:Tm}{f:Int}(f0:0≤f)(ft:validB t=true→Fit f.toNat t)(he:(z0k s f t).2.2=0){l:La}(hl:lfQ c q l)(e:Eqv (VS s) (toL t) l):z40 (z0k s f t).1=true∧toL (z1d (z0k s f t).1)=l∧IsLf (z1d (z0k s f t).1):=by
 have ok:=z47 hs ft he;have nf:=zj0 hs f0 ft he;have e1:toL (z06 (z0k s f t).1)=toL (z0k s f t).1:=NfL.sts nf (z64 _ ok.2.1)
 have e2:toL (z0k s f t).1=l:=by
  obtain ⟨n,h1,h2⟩:=(Eqv.of (z9w hs f0 ft he)).symm.trans cl e;rw [←NfL.sts nf h1,hl.nf h2]
 have e3:=e1.trans e2;have vs:=z8z ok.2.1;have k:=leaf_k vs (by rw [e3];exact hl);have hb:z40 (z0k s f t).1=true:=by unfold z40;rcases k with k | k<;>rw [k]<;>rfl
 have hF:z1d (z0k s f t).1=z06 (z0k s f t).1:=by unfold z1d;rw [if_pos hb]
 rw [hF];exact ⟨hb,e3,z98 vs k⟩
theorem lfB_eq {a b:Tm}(ha:IsLf a)(hb:IsLf b)(h:lfB a b=true):a=b:=by
 unfold lfB at h;simp only [Bool.and_eq_true,beq_iff_eq] at h;obtain ⟨n,⟨e,_⟩ | e⟩:=ha<;>obtain ⟨m,⟨e2,_⟩ | e2⟩:=hb<;>subst e<;>subst e2
 · rw [show n=m from h.2]
 · exact absurd h.1 (by show¬(3:Int)=1;decide)
 · exact absurd h.1 (by show¬(1:Int)=3;decide)
 · rw [show n=m from h.2]
theorem zex {s:Sto}(hs:OKS s)(cl:ClV (VS s))(lv:Int):∀ (l out:List Tm) (ls:List La) (f:Int),0≤f→(∀ t∈l,validB t=true∧Fit f.toNat t)→All2 (Eqv (VS s)) (toLs l) ls→(∀ u∈ls,lfQ lv pT u)→(toLs out++ls).Nodup→(∀ t∈out,IsLf t)→(z2a s lv out l f).2.2=0∨(z2a s lv out l f).2.2=80
 | [],out,ls,f,_,_,_,_,_,_=>by rw [z2a];exact .inl rfl
 | t::l,out,[],f,_,_,h,_,_,_=>h.elim
 | t::l,out,w::ls,f,h0,hf,h,hl,hn,ho=>by
  rw [z2a];have ft:=hf t List.mem_cons_self;have e01:=FullV_01 (s:=s) (f:=f) ft.1;split
  · exact e01
  · rename_i q;have q:(z0k s f t).2.2=0:=by simpa using q
    have hw:=hl w List.mem_cons_self;obtain ⟨k1,k2,k3⟩:=zu9 hs cl h0 (fun _=>ft.2) q hw h.1;have ok:=z47 hs (fun _=>ft.2) q
    have bad:z63 lv out (z0k s f t).1=false:=by
     unfold z63;simp only [Bool.or_eq_false_iff,Bool.and_eq_false_iff];refine ⟨⟨by rw [k1];rfl, ?_⟩,List.any_eq_false.2 fun v hv hB=> ?_⟩
     · by_cases c:(z1d (z0k s f t).1).k=1
       · right;obtain ⟨n,⟨e,_⟩ | e⟩:=k3
         · rw [e] at c;exact absurd c (by show¬(3:Int)=1;decide)
         · rw [e,z5u] at k2;rw [←k2] at hw;have:=hw.2.2.1;rw [e];exact decide_eq_false (by show¬n≤lv;omega)
       · left;simpa using c
     · have:=lfB_eq (ho v hv) k3 hB;have hm:w∈toLs out:=by rw [z0z,←k2,←this];exact List.mem_map.2 ⟨v,hv,rfl⟩
       exact (List.nodup_append.1 hn).2.2 w hm w List.mem_cons_self rfl
    rw [if_neg (by rw [bad];simp)];refine zex hs cl lv l _ ls _ ok.2.2.2.2.2.1 (fun u hu=>⟨(hf u (List.mem_cons_of_mem _ hu)).1,(hf u (List.mem_cons_of_mem _ hu)).2.mono (by have:=ok.2.2.2.2.2.2;omega)⟩) h.2 (fun u hu=>hl u (List.mem_cons_of_mem _ hu)) ?_ (fun u hu=> ?_)
    · rw [z4u,List.append_assoc];show (toLs out++(toL (z1d (z0k s f t).1)::ls)).Nodup;rw [k2];exact hn
    · rcases List.mem_append.1 hu with hu | hu
      · exact ho u hu
      · rw [List.mem_singleton.1 hu];exact k3
end Go.AM

set_option maxRecDepth 100000
open Go Go.Proofs
namespace Go.AM
def mE (s:Sto)(z:Int):Int:=if inB s.V z=true then (infOf s.V z).lv else -1
theorem mE_ms (s:Sto):MS (mE s) s:=fun z h=>by rw [mE,if_pos h]
theorem mE_in {s:Sto}{z:Int}(h:0≤mE s z):inB s.V z=true:=by
 unfold mE at h;split at h
 · rename_i q;exact q
 · omega
theorem zc3 {s:Sto}(hs:OKS s)(cs:CS s){g:Int}(h0:0≤g){t:Tm}{x:SD}(sx:SX s t x)(h4:x.h.k=4)(hx:∀ t∈x.a,okP (g.toNat+1) t)(gd:Gd (VS s) (mE s) pT pT (toL t)):(z02 s g x).1.2=0∨(z02 s g x).1.2=80:=by
 have e1:Eqv (VS s) (toL t) (apps (.var x.h.n) (toLs x.a)):=by
  have:=Eqv.of sx.st;rw [sx.eq,zi4 h4] at this;exact this
 obtain ⟨ls,P⟩:=gd.pat cs.cl (zbi (sx.h4 h4)) e1;have hi:=mE_in P.c0;have hl:=mE_ms s _ hi;show (z0x s x.h.n x.a g).2.2=0∨(z0x s x.h.n x.a g).2.2=80;unfold z0x
 rw [if_neg (by
  rw [hi,Bool.not_true,Bool.false_or];intro c;obtain ⟨u,hu,hv⟩:=List.any_eq_true.1 c;rw [(hx u hu).1] at hv;cases hv)]
 rw [hl];exact zex hs cs.cl _ x.a [] ls g h0 (fun t ht=>⟨(hx t ht).1,(hx t ht).2.mono (by omega)⟩) P.eq P.lf P.nd (fun t ht=>nomatch ht)
theorem lf_lfQ {u:Tm}(h:IsLf u):lfQ (u.n-1) pT (toL u):=lfT.q ⟨h,fun _=>⟨by omega,trivial⟩⟩
theorem lf_all {V:Int→Option La}:∀ {a b:List Tm},All2 (Eqv V) (toLs a) (toLs b)→(∀ u∈a,IsLf u)→(∀ u∈b,IsLf u)→a=b
 | [],[],_,_,_=>rfl
 | [],_::_,h,_,_=>h.elim
 | _::_,[],h,_,_=>h.elim
 | x::a,y::b,h,ha,hb=>by
  have hx:=ha x List.mem_cons_self;have hy:=hb y List.mem_cons_self;rw [zpx hx hy ((lf_lfQ hx).eq (lf_lfQ hy) h.1),lf_all h.2 (fun u hu=>ha u (List.mem_cons_of_mem _ hu)) fun u hu=>hb u (List.mem_cons_of_mem _ hu)]
theorem zf5:∀ a:List Tm,((List.zipWith z1b a a).any fun t=>false==t)=false
 | []=>rfl
 | t::a=>by rw [List.zipWith_cons_cons,List.any_cons,zf5 a,(z3q t t).2 rfl];rfl
theorem zel {s:Sto}(hs:OKS s)(l0:LV0 s)(cs:CS s){g:Int}(h0:0≤g){t u:Tm}{x y:SD}(sx:SX s t x)(sy:SX s u y)(hxa:∀ t∈x.a,okP (g.toNat+1) t)(hya:∀ t∈y.a,okP (g.toNat+1) t)(pg:PG (VS s) (mE s) (t,u))(c:x.h.k=4∧y.h.k=4∧x.h.n=y.h.n):
  (z0v s g x y).2.1=s∧((z0v s g x y).1=80∨(z0v s g x y).1=0∧0≤(z0v s g x y).2.2∧(z0v s g x y).2.2≤g)∧((z02 s g x).1.2=0→(z02 s (z02 s g x).2 y).1.2=0→(z02 s g x).1.1=(z02 s (z02 s g x).2 y).1.1):=by
 have ll:=z2o hs h0 hxa;have hya2:∀ t∈y.a,okP ((z02 s g x).2.toNat+1) t:=fun t ht=>(hya t ht).mono (by omega);have lm:=z2o hs ll.2.2.1 hya2;have a1:=zc3 hs cs h0 sx c.1 hxa pg.2.1;have a2:=zc3 hs cs ll.2.2.1 sy c.2.1 hya2 pg.2.2
 have same:(z02 s g x).1.2=0→(z02 s (z02 s g x).2 y).1.2=0→(z02 s g x).1.1=(z02 s (z02 s g x).2 y).1.1:=fun q1 q2=>by
  have gx:=z81 hs l0 cs (mE_ms s) h0 sx c.1 hxa q1;have gy:=z81 hs l0 cs (mE_ms s) ll.2.2.1 sy c.2.1 hya2 q2;have ey:=gy.2.2.1;rw [←c.2.2] at ey;have hn:HdL (VS s) (.var x.h.n):=zbi (sx.h4 c.1);exact lf_all (zfz hn hn ((gx.2.2.1.symm.trans cs.cl pg.1).trans cs.cl ey)).2 gx.2.2.2.2 gy.2.2.2.2
 unfold z0v;by_cases q:(z02 s g x).1.2≠0
 · rw [if_pos q];exact ⟨rfl, .inl (a1.resolve_left q),same⟩
 rw [if_neg q];have q:(z02 s g x).1.2=0:=by simpa using q
 by_cases q2:(z02 s (z02 s g x).2 y).1.2≠0
 · rw [if_pos q2];exact ⟨rfl, .inl (a2.resolve_left q2),same⟩
 rw [if_neg q2];have q2:(z02 s (z02 s g x).2 y).1.2=0:=by simpa using q2
 have e:=same q q2;rw [if_neg (by rw [e];simp),if_pos (by rw [e];exact zf5 _)];exact ⟨rfl, .inr ⟨rfl,lm.2.2.1,by dsimp only;omega⟩,same⟩
def Again (s:Sto)(g:Int)(z:(Int×Sto×Int)×List (Tm×Tm)):Prop:=
 z.1.2.1=s∧(z.1.1=80∨z.1.1=0∧0≤z.1.2.2∧z.1.2.2≤g∧z.2.length≤200000000∧∀ q∈z.2,PG (VS s) (mE s) q∧okP z.1.2.2.toNat q.1∧okP z.1.2.2.toNat q.2)
theorem heads {s:Sto}(cs:CS s){t u:Tm}{x y:SD}(sx:SX s t x)(sy:SX s u y)(e:Eqv (VS s) (toL t) (toL u))(hx:x.h.k≠5)(hy:y.h.k≠5):HdL (VS s) (toL x.h)∧HdL (VS s) (toL y.h)∧toL x.h=toL y.h∧All2 (Eqv (VS s)) (toLs x.a) (toLs y.a):=by
 have hd:∀ {t:Tm} {x:SD},SX s t x→x.h.k≠5→HdL (VS s) (toL x.h):=fun {t x} sx h5=>by
  by_cases h4:x.h.k=4
  · rw [zi4 h4];exact zbi (sx.h4 h4)
  · exact (ztu h4 h5 sx.h6).1
 have tx:=Eqv.of sx.st;have ty:=Eqv.of sy.st;rw [sx.eq] at tx;rw [sy.eq] at ty;have:=zfz (hd sx hx) (hd sy hy) ((tx.symm.trans cs.cl e).trans cs.cl ty);exact ⟨hd sx hx,hd sy hy,this⟩
theorem zd1 {s:Sto} (hs:OKS s) (l0:LV0 s) (cs:CS s) {g:Int} (h0:0≤g) {t u:Tm} {x y:SD} (sx:SX s t x) (sy:SX s u y) (ox:okP (g.toNat+1) x.t) (oy:okP (g.toNat+1) y.t) (hx:okP (g.toNat+1) x.h) (hy:okP (g.toNat+1) y.h)
  (hxa:∀ t∈x.a,okP (g.toNat+1) t) (hya:∀ t∈y.a,okP (g.toNat+1) t) (hl:x.a.length≤SZ) (pg:PG (VS s) (mE s) (t,u)):
  Again s g (z5e s g x y)∧(¬(x.t.k=5∨y.t.k=5)→¬(x.h.k=4∧y.h.k=4∧x.h.n=y.h.n)→x.h.k≠4∧y.h.k≠4):=by
 have cl:=cs.cl;have hh5:¬(x.t.k=5∨y.t.k=5)→x.h.k≠5∧y.h.k≠5:=fun c=>⟨fun e=>c (.inl (by rw [←sx.h5 e];exact e)),fun e=>c (.inr (by rw [←sy.h5 e];exact e))⟩
 have no4:¬(x.t.k=5∨y.t.k=5)→¬(x.h.k=4∧y.h.k=4∧x.h.n=y.h.n)→x.h.k≠4∧y.h.k≠4:=fun c1 c2=>by
  have h5:=hh5 c1;obtain ⟨_,_,e,_⟩:=heads cs sx sy pg.1 h5.1 h5.2;refine ⟨fun q=> ?_,fun q=> ?_⟩
  · by_cases q2:y.h.k=4
    · rw [zi4 q,zi4 q2] at e;injection e with e
      exact c2 ⟨q,q2,e⟩
    · rw [zi4 q] at e;exact (ztu (S:=VS s) q2 h5.2 sy.h6).2 _ e.symm
  · by_cases q2:x.h.k=4
    · rw [zi4 q,zi4 q2] at e;injection e with e
      exact c2 ⟨q2,q,e⟩
    · rw [zi4 q] at e;exact (ztu (S:=VS s) q2 h5.1 sx.h6).2 _ e
 refine ⟨?_,no4⟩;have tx:Eqv (VS s) (toL t) (toL x.t):=Eqv.of sx.st;have ty:Eqv (VS s) (toL u) (toL y.t):=Eqv.of sy.st;unfold z5e;by_cases c1:x.t.k=5∨y.t.k=5
 · rw [if_pos c1];refine ⟨rfl, .inr ⟨rfl,h0,Int.le_refl _,by simp,fun q hq=> ?_⟩⟩;rw [List.mem_singleton.1 hq];have bx:=zcf (S:=VS s) sx.v;have bY:=zcf (S:=VS s) sy.v;have exy:=(tx.symm.trans cl pg.1).trans cl ty;exact ⟨⟨(bx.symm.trans cl ((exy.lift cl 0).app (.refl _))).trans cl bY,((pg.2.1.eqv cl tx).body cl).eqv cl bx,((pg.2.2.eqv cl ty).body cl).eqv cl bY⟩,zct ox,zct oy⟩
 rw [if_neg c1];by_cases c2:x.h.k=4∧y.h.k=4∧x.h.n=y.h.n
 · rw [if_pos c2];have p:=zel hs l0 cs h0 sx sy hxa hya pg c2;exact ⟨p.1,p.2.1.imp id fun r=>⟨r.1,r.2.1,r.2.2,by simp,fun q hq=>nomatch hq⟩⟩
 rw [if_neg c2];have n4:=no4 c1 c2;have h5:=hh5 c1;rw [if_neg n4.1,if_neg n4.2];obtain ⟨hx1,hy1,e,A⟩:=heads cs sx sy pg.1 h5.1 h5.2;have eh:=zvz _ _ hx.1 hy.1 e
 have len:x.a.length=y.a.length:=by
  have:=zq4 A;rw [z0z,z0z,List.length_map,List.length_map] at this;exact this
 rw [if_neg (by rw [eh,(z3q y.h y.h).2 rfl,len];simp)];have hR:=ztu (S:=VS s) n4.1 h5.1 sx.h6;have gx:=pg.2.1.args cl hR.1 hR.2 (show Eqv (VS s) (toL t) (apps (toL x.h) (toLs x.a)) by rw [←sx.eq];exact tx);have gy:=pg.2.2.args cl hR.1 hR.2 (show Eqv (VS s) (toL u) (apps (toL x.h) (toLs y.a)) by rw [e,←sy.eq];exact ty)
 have Z:∀ (a b:List Tm),All2 (Eqv (VS s)) (toLs a) (toLs b)→∀ q∈a.zip b,Eqv (VS s) (toL q.1) (toL q.2):=by
  intro a
  induction a with
  | nil=>intro b _ q hq;simp at hq
  | cons v a ih=>intro b h q hq;cases b with
   | nil=>simp at hq
   | cons w b=>
    rcases List.mem_cons.1 hq with rfl | hq
    · exact h.1
    · exact ih b h.2 q hq
 refine ⟨rfl, .inr ⟨rfl,h0,Int.le_refl _,by rw [List.length_zip];simp only [SZ] at hl;omega,fun q hq=> ?_⟩⟩;have hm:=List.of_mem_zip (a:=q.1) (b:=q.2) hq;exact ⟨⟨Z _ _ A q hq,gx _ (by rw [z0z];exact List.mem_map.2 ⟨_,hm.1,rfl⟩),gy _ (by rw [z0z];exact List.mem_map.2 ⟨_,hm.2,rfl⟩)⟩,(hxa _ hm.1).mono (by dsimp only;omega),(hya _ hm.2).mono (by dsimp only;omega)⟩
theorem zw1 {s:Sto}{f:Int}{t:Tm}(hv:validB t=true):(z0a s f t).1.2=0∨(z0a s f t).1.2=80:=by
 unfold z0a;split
 · exact headV_01 hv
 · exact .inl rfl
theorem zgs {s:Sto}(hs:OKS s)(l0:LV0 s)(cs:CS s){f:Int}(hf:0<f){p:Tm×Tm}(hp:okP f.toNat p.1∧okP f.toNat p.2)(pg:PG (VS s) (mE s) p):Again s (f-1) (z0f s (f-1) p):=by
 rw [show f.toNat=(f-1).toNat+1 by omega] at hp;have z1:=zw1 (s:=s) (f:=f-1) hp.1.1;have z2:=zw1 (s:=s) (f:=(z0a s (f-1) p.1).2) hp.2.1;unfold z0f;by_cases q1:(z0a s (f-1) p.1).1.2≠0
 · rw [if_pos q1];exact ⟨rfl, .inl (z1.resolve_left q1)⟩
 rw [if_neg q1];by_cases q2:(z0a s (z0a s (f-1) p.1).2 p.2).1.2≠0
 · rw [if_pos q2];exact ⟨rfl, .inl (z2.resolve_left q2)⟩
 rw [if_neg q2];have q1:(z0a s (f-1) p.1).1.2=0:=by simpa using q1
 have q2:(z0a s (z0a s (f-1) p.1).2 p.2).1.2=0:=by simpa using q2
 have y1:z0a s (f-1) p.1=(((z0a s (f-1) p.1).1.1,0),(z0a s (f-1) p.1).2):=by rw [←q1]
 have k1:=z3z hs (by omega) hp.1 y1;have s1:=zax hs (by omega) hp.1 y1;have y2:z0a s (z0a s (f-1) p.1).2 p.2=(((z0a s (z0a s (f-1) p.1).2 p.2).1.1,0),(z0a s (z0a s (f-1) p.1).2 p.2).2):=by rw [←q2]
 have k2:=z3z hs k1.1 (hp.2.mono (by omega)) y2;have s2:=zax hs k1.1 (hp.2.mono (by omega)) y2;have ox:=k1.2.2.1.mono (G:=(z0a s (z0a s (f-1) p.1).2 p.2).2.toNat+1) (by omega);have oy:=k2.2.2.1;have sx:=z22 ox;have sy:=z22 oy;have ex:(z0a s (f-1) p.1).1.1=zez (z0a s (f-1) p.1).1.1.t:=k1.2.2.2.1;have ey:(z0a s (z0a s (f-1) p.1).2 p.2).1.1=zez (z0a s (z0a s (f-1) p.1).2 p.2).1.1.t:=k2.2.2.2.1;have r:=(zd1 hs l0 cs k2.1 s1 s2 ox oy (by rw [ex];exact sx.1) (by rw [ey];exact sy.1) (by rw [ex];exact sx.2.1) (by rw [ey];exact sy.2.1) (by rw [ex];exact sx.2.2) pg).1;exact ⟨r.1,r.2.imp id fun w=>⟨w.1,w.2.1,by omega,w.2.2.2⟩⟩
theorem zkr {s:Sto}(hs:OKS s)(l0:LV0 s)(cs:CS s):∀ (F:Nat) (f:Int) (st:List (Tm×Tm)),(∀ q∈st,PG (VS s) (mE s) q∧okP f.toNat q.1∧okP f.toNat q.2)→(runW F s f st).2.1=s∧((runW F s f st).1=0∨(runW F s f st).1=80)
 | F,f,[],h=>by
  have e:runW F s f []=(0,s,f):=by cases F<;>rfl
  rw [e];exact ⟨rfl, .inl rfl⟩
 | 0,f,p::st,h=>by rw [runW];exact ⟨rfl, .inr rfl⟩
 | F+1,f,p::st,h=>by
  rw [runW];split
  · exact ⟨rfl, .inr rfl⟩
  rename_i hf;have hp:=h p List.mem_cons_self;obtain ⟨a1,a2⟩:=zgs hs l0 cs (by omega) hp.2 hp.1;split
  · rename_i q;exact ⟨a1, .inr (a2.resolve_right fun w=>q w.1)⟩
  · rename_i q;have q:(z0f s (f-1) p).1.1=0:=by simpa using q
    have a3:=a2.resolve_left (by rw [q];decide);rw [a1];refine zkr hs l0 cs F _ _ fun r hr=> ?_;rcases List.mem_append.1 hr with hr | hr
    · exact a3.2.2.2.2 r hr
    · have:=h r (List.mem_cons_of_mem _ hr);have:=a3.2.1;have:=a3.2.2.1;exact ⟨(h r (List.mem_cons_of_mem _ hr)).1,(h r (List.mem_cons_of_mem _ hr)).2.1.mono (by omega),(h r (List.mem_cons_of_mem _ hr)).2.2.mono (by omega)⟩
end Go.AM

set_option maxRecDepth 100000
open Go Go.Proofs
namespace Go.AM
theorem zmb (s:Sto)(hV:s.V.length≤1073741824)(hz:∀ i∈s.V,i.v.sz≤B):∀ (n i:Nat),i+n=s.V.length→RPt Tryz.prog 10 6 (cb true) (oS2 s s) 1 ⟨[(0,aS 0),(1,aS 3),(5,ci (i:Int))],hpS2 s s,6⟩
 | 0,i,hi=>by
  refine RPt.vc hP sh lv10 (Eq.mpr (v10_1a ..) ?_);exact z00 (fun h=>absurd (of_decide_eq_true h) (by omega)) (fun _=>⟨.refl _,rfl⟩)
 | n+1,i,hi=>by
  have next:=zmb s hV hz n (i+1) (by omega);have hlt:(i:Int)<(s.V.length:Int):=by omega
  obtain ⟨g1,g2⟩:=SR_in (s:=s) (x:=(i:Int)) (by omega) hlt;have hI:=z91 s (i:Int);have hin:inB s.V (i:Int)=true:=by rw [inB,decide_eq_true (by omega),decide_eq_true hlt];rfl
  obtain ⟨hl,ei⟩:=z1w (V:=s.V) (x:=(i:Int)) (by omega) hlt;have hz:=hz _ (List.getElem_mem hl);rw [←ei] at hz;rw [show (((i+1:Nat):Int))=(i:Int)+1 by omega] at next;rw [hin] at hI;refine RPt.vc hP sh lv10 (Eq.mpr (v10_1a ..) ?_);rw [g1,w64 (x:=(i:Int)+1) (by omega) (by omega)];generalize infOf s.V (i:Int)=e at*;have hS:=zya e e hz rfl;obtain ⟨elv,ebd,⟨ek,es,en,el⟩⟩:=e;refine z00 (fun _=>⟨(elv,ebd, .mk ek es en el,true),hI,⟨by omega,hlt⟩,⟨g2,rfl,rfl⟩,_,hS,z00 (fun h=>by cases h) (fun _=>z00 (fun h=>by cases h) (fun _=>next))⟩) (fun h=>absurd hlt (of_decide_eq_false h))
theorem zvh (s:Sto)(hV:s.V.length≤1073741824)(hz:∀ i∈s.V,i.v.sz≤B):AC Tryz.prog 10 [aS 0,aS 3] (oS2 s s) (cb true) (oS2 s s):=by
 refine AC.vc hP sh lv10 (Nat.le_refl _) (by simp [isLive]) (by simp) (Eq.mpr (v10 ..) ?_);refine ⟨_,c_slen s,z00 (fun h=>absurd h (by simp)) (fun _=>⟨_,_,z7b s,z00 (fun h=>absurd h (by simp)) (fun _=> ?_)⟩)⟩;exact zmb s hV hz s.V.length 0 (by omega)
end Go.AM

set_option maxRecDepth 100000
open Go Go.Proofs
namespace Go.AM
section
variable {s:Sto} (hs:OKS s) (l0:LV0 s) (cs:CS s)
include hs l0 cs
theorem c_pairA {f:Int}(hf:0<f)(hf1:f≤2000){p:Tm×Tm}(hp:okP f.toNat p.1∧okP f.toNat p.2)(pg:PG (VS s) (mE s) p){n:Nat}{R:List (List FV)}(hn:n≤R.length)(hn2:n≤500000000000):AC Tryz.prog 59 [aWk,aPr p] (oWk s n R (f-1)) (ci (z0f s (f-1) p).1.1) (oPa n R (z0f s (f-1) p)):=by
 rw [show f.toNat=(f-1).toNat+1 by omega] at hp
 have g0:(z0a s (f-1) p.1).1.2=0→0≤(z0a s (f-1) p.1).2∧(z0a s (f-1) p.1).2≤f-1:=fun q1=>by
  have k1:=z3z hs (f:=f-1) (by omega) (t:=p.1) hp.1 (x:=(z0a s (f-1) p.1).1.1) (g:=(z0a s (f-1) p.1).2) (by rw [←q1]);exact ⟨k1.1,k1.2.1⟩
 refine zum s n R (f-1) p hn hn2 (zpu hs n R (by omega) (hp.1.mono (by omega))) (fun q=>zpu hs n R (g0 q).1 (hp.2.mono (by have:=g0 q;omega))) (fun x y g e1 e2=> ?_);have g0:=g0 (by rw [e1]);have y1:z0a s (f-1) p.1=((x,0),(z0a s (f-1) p.1).2):=by rw [←e1]
 have k1:=z3z hs (by omega) hp.1 y1;have s1:=zax hs (by omega) hp.1 y1;have k2:=z3z hs g0.1 (hp.2.mono (by omega)) e2;have s2:=zax hs g0.1 (hp.2.mono (by omega)) e2;have ox:okP (g.toNat+1) x.t:=k1.2.2.1.mono (by omega);have oy:okP (g.toNat+1) y.t:=k2.2.2.1;have sx:=z22 ox;have sy:=z22 oy;have ex:x=zez x.t:=k1.2.2.2.1;have ey:y=zez y.t:=k2.2.2.2.1;have hxa:∀ t∈x.a,okP (g.toNat+1) t:=by rw [ex];exact sx.2.1
 have hya:∀ t∈y.a,okP (g.toNat+1) t:=by rw [ey];exact sy.2.1
 have hx:okP (g.toNat+1) x.h:=by rw [ex];exact sx.1
 have hy:okP (g.toNat+1) y.h:=by rw [ey];exact sy.1
 have hxl:x.a.length≤SZ:=by rw [ex];exact sx.2.2
 have hyl:y.a.length≤SZ:=by rw [ey];exact sy.2.2
 have r:=(zd1 hs l0 cs k2.1 s1 s2 ox oy hx hy hxa hya hxl pg).2;refine ⟨zpd ox,zpd oy,hx.B,by simp only [SZ] at hxl;omega,fun c=> ?_,fun c1 c2 h4=>absurd h4 (r c1 c2).1,fun c1 c2 h4=>absurd h4 (r c1 c2).2⟩;have ll:=z2o hs k2.1 hxa;have pa:=(zel hs l0 cs k2.1 s1 s2 hxa hya pg c).2.2;refine zqw s n R g x y (z9f hs n R k2.1 hxa hxl) (fun _=>z9f hs n R ll.2.2.1 (fun t ht=>(hya t ht).mono (by omega)) hyl) (by omega) (fun t ht=>by have:=(ll.1 t ht).1;simp only [B];omega) (fun q=> ?_);exfalso;have nl:∀ (g:Int) (x:SD),(∀ t∈x.a,okP (g.toNat+1) t)→(z02 s g x).1.2≠0→(z02 s g x).1.1=[]:=fun g x hx e=>(z4v hs x.h.n x.a g (fun t ht _=>(hx t ht).2.mono (by omega))).2.2 e;by_cases e1:(z02 s g x).1.2=0
 · by_cases e2:(z02 s (z02 s g x).2 y).1.2=0
   · rw [pa e1 e2,zf5] at q;cases q
   · rw [nl _ y (fun t ht=>(hya t ht).mono (by omega)) e2,List.zipWith_nil_right] at q;cases q
 · rw [nl _ x hxa e1,List.zipWith_nil_left] at q;cases q
def UA (s:Sto)(s':Sto)(f:Int)(st:List (Tm×Tm)):Prop:=s'=s∧f≤2000∧(∀ q∈st,PG (VS s) (mE s) q∧okP f.toNat q.1∧okP f.toNat q.2)∧st.length+200000000*f.toNat≤450000000000
theorem ua_next {s':Sto}{f:Int}{p:Tm×Tm}{st:List (Tm×Tm)}(h:UA s s' f (p::st))(hf:0<f)(e:(z0f s' (f-1) p).1.1=0):UA s (z0f s' (f-1) p).1.2.1 (z0f s' (f-1) p).1.2.2 ((z0f s' (f-1) p).2++st)∧(z0f s' (f-1) p).1.2.2≤f-1:=by
 obtain ⟨rfl,h1,h2,h3⟩:=h;have hp:=h2 p List.mem_cons_self;obtain ⟨a1,a2⟩:=zgs hs l0 cs hf hp.2 hp.1;have a3:=a2.resolve_left (by rw [e];decide);obtain ⟨_,b1,b2,b3,b4⟩:=a3;simp only [List.length_cons] at h3;refine ⟨⟨a1,by omega,fun r hr=> ?_,by rw [List.length_append];omega⟩,b2⟩;rcases List.mem_append.1 hr with hr | hr
 · exact b4 r hr
 · have:=h2 r (List.mem_cons_of_mem _ hr);exact ⟨this.1,this.2.1.mono (by omega),this.2.2.mono (by omega)⟩
theorem c_unifyA (hw:WF s)(ht:OKT s){C:Nat}(hC:C≤1073741824)(hV:s.V.length≤C)(hT:s.T.length≤C){a b:Tm}(ha:okP 2000 a)(hb:okP 2000 b)(pg:PG (VS s) (mE s) (a,b)):
  AC Tryz.prog 9 [aS 0,aT a,aT b,ci 2000] (oS s) (aE2 (allF s [(a,b)] 2000).1) (oS' (allF s [(a,b)] 2000).2)∧(allF s [(a,b)] 2000).2=s∧((allF s [(a,b)] 2000).1.2=0∨(allF s [(a,b)] 2000).1.2=80):=by
 have hm:∀ q∈ [(a,b)],PG (VS s) (mE s) q∧okP (2000:Int).toNat q.1∧okP (2000:Int).toNat q.2:=fun q hq=>by rw [List.mem_singleton.1 hq];exact ⟨pg,ha,hb⟩
 have ra:=zkr hs l0 cs (2000:Int).toNat 2000 [(a,b)] hm;have nb:[(a,b)].any badP=false:=by simp [badP,ha.1,hb.1]
 refine ⟨?_, ?_⟩
 · refine zv8 s a b 2000 (c_uall s [(a,b)] 2000 (by simp) (fun p hp=>by rw [List.mem_singleton.1 hp];exact ⟨ha.B,hb.B⟩) (fun _=> ?_) (fun _ _=> ?_))
   · have a1:∀ s' f st,UA s s' f st→st.length≤500000000000∧f≤1000000000:=fun s' f st h=>⟨by have:=h.2.2.2;omega,by have:=h.2.1;omega⟩
     have a2:∀ s' f p st n R,UA s s' f (p::st)→0<f→n≤R.length→n=st.length→AC Tryz.prog 59 [aWk,aPr p] (oWk s' n R (f-1)) (ci (z0f s' (f-1) p).1.1) (oPa n R (z0f s' (f-1) p)):=fun s' f p st n R hI hf hn hl=>by
      obtain ⟨rfl,h1,h2,h3⟩:=hI;have hp:=h2 p List.mem_cons_self;simp only [List.length_cons] at h3;exact c_pairA hs l0 cs hf h1 hp.2 hp.1 hn (by omega)
     have a4:List.take [(a,b)].length (PTs [(a,b)].reverse)=PTs [(a,b)].reverse:=List.take_of_length_le (by rw [z5n,List.length_reverse];exact Nat.le_refl _);obtain ⟨n',R',hr⟩:=zvd (I:=UA s) a1 a2 (fun s' f p st hI hf e=>ua_next hs l0 cs hI hf e) (2000:Int).toNat s 2000 [(a,b)] (PTs [(a,b)].reverse) (Nat.le_refl _) ⟨rfl,Int.le_refl _,hm,show (1:Nat)+200000000*2000≤450000000000 by omega⟩ a4;refine ⟨n',R',AC.vc hP sh lv41 (by simp) (by simp [isLive]) (by simp [isLive]) (Eq.mpr (v41 ..) ?_)⟩;exact hr
   · have c:=(z99 (2000:Int).toNat s 2000 [(a,b)] .refl).all hw ht;have cut:=c.2.2.cut ht;exact zmr _ _ _ cut.1 (by rw [ra.1];omega) cut.2.1 c.2.1 cut.2.2
 · by_cases e:(allF s [(a,b)] 2000).1.2=0
   · refine ⟨?_, .inl e⟩;unfold allF at e ⊢;rw [if_neg (by rw [nb];simp)] at e ⊢;by_cases q:(runW (2000:Int).toNat s 2000 [(a,b)]).1≠0
     · rw [if_pos q] at e;exact absurd e q
     · rw [if_neg q];exact ra.1
   · refine ⟨(z5y hw ht e).1, .inr ?_⟩;unfold allF at e ⊢;rw [if_neg (by rw [nb];simp)] at e ⊢;by_cases q:(runW (2000:Int).toNat s 2000 [(a,b)]).1≠0
     · rw [if_pos q];exact ra.2.resolve_left q
     · rw [if_neg q] at e;exact absurd rfl e
end
theorem one_run {C:Nat}(hC:C≤1073741824){s:Sto}(l0:LV0 s)(cs:CS s){a b:Tm}{f:Int}(hu:[(a,b)].any badP=false→UI C s f [(a,b)])(e:(allF s [(a,b)] f).1.2=0):
  validB a=true∧validB b=true∧PG (VS (allF s [(a,b)] f).2) (mE (allF s [(a,b)] f).2) (a,b)∧LV0 (allF s [(a,b)] f).2∧CS (allF s [(a,b)] f).2∧(allF s [(a,b)] f).1.1≤f:=by
 unfold allF at e ⊢;by_cases nb:[(a,b)].any badP=true
 · rw [if_pos nb] at e;cases e
 rw [if_neg nb] at e ⊢;have nb:[(a,b)].any badP=false:=by simpa using nb
 have hu:=hu nb;by_cases q:(runW f.toNat s f [(a,b)]).1≠0
 · rw [if_pos q] at e;exact absurd e q
 rw [if_neg q];have q:(runW f.toNat s f [(a,b)]).1=0:=by simpa using q
 have c:=z99 (s0:=s) f.toNat s f [(a,b)] .refl;have g:=(run_gd hC f.toNat s f _ hu l0 cs q (mE_ms _)).2 (a,b) (List.mem_singleton.2 rfl)
 have hf:0≤f:=by
  by_cases h:0≤f
  · exact h
  · rw [show f.toNat=0 by omega,runW] at q;cases q
 have r:=(zqr hC f.toNat s f _ hu).2.2.2 hf q;have v:=hu.fit (a,b) (List.mem_singleton.2 rfl);exact ⟨v.1.1,v.2.1,g,c.l0 l0,c.cs cs,r.2.1⟩
theorem CS.lay (l:List IBT):CS (layS l):=by
 have fr:∀ (l:List IBT) (s:Sto),CS s→CS (frS l s):=by
  intro l
  induction l with
  | nil=>intro s h;exact h
  | cons v l ih=>intro s h;exact ih _ (h.fresh v.1.1)
 have bn:∀ (l:List IBT) (i:Int) (s:Sto),CS s→CS (bnS l i s):=by
  intro l
  induction l with
  | nil=>intro i s h;exact h
  | cons v l ih=>
   intro i s h;refine ih (i+1) (if v.2.1=true then bindS s i v.2.2.1 else s) ?_
   split
   · exact h.bind _ _
   · exact h
 exact bn l 0 _ (fr l _ fun x h=>by have:=zsa h;simp at this;omega)
theorem zrh (v:List IBT)(a b:Tm)(fuel:Int)(hf0: -9223372036854775808≤fuel)(hv:∀ e∈v,e.2.2.1.bk≤B)(ha:a.bk≤B)(hb:b.bk≤B):AC Tryz.prog 3 [aV6 v,aT a,aT b,ci fuel] [] (cb true) []:=by
 have c0:=zww;have c1:=c_over17 v hv
 have c2:=c_row17 [a,b] (fun t ht=>by
  rcases List.mem_cons.1 ht with rfl | ht
  · exact ha
  · rw [List.mem_singleton.1 ht];exact hb)
 have main:zru v=false→rowW 8 [a,b]=false→fuel≤150→∃ s:Sto,∃ Z:(Int×Int)×Sto,AC Tryz.prog 7 [aV6 v] [] tS2 (oS2 s s)∧AC Tryz.prog 10 [aS 0,aS 3] (oS2 s s) (cb true) (oS2 s s)∧AC Tryz.prog 9 [aS 0,aT a,aT b,ci fuel] (oS s) (aE2 Z.1) (oS' Z.2)∧
   (Z.1.2≠0→Z.2=s∧Z.1.1=0)∧(Z.1.2=0→Z.1.1≤fuel∧∃ X Y:Tm×Int×Int,∃ W:(Int×Int)×Sto,AC Tryz.prog 11 [aS 0,aT a,ci 2000] (oS Z.2) (aHd X) (oS Z.2)∧AC Tryz.prog 11 [aS 0,aT b,ci 2000] (oS Z.2) (aHd Y) (oS Z.2)∧X.1.sz≤B∧(X.2.2=0→Y.2.2=0→X.1=Y.1)∧
    AC Tryz.prog 9 [aS 0,aT a,aT b,ci 2000] (oS Z.2) (aE2 W.1) (oS' W.2)∧W.2=Z.2∧(W.1.2=0∨W.1.2=80)):=fun q1 q2 q3=>by
  have o:=overI_no q1;have w:=rowW_no q2;have wa:=w.2 a List.mem_cons_self;have wb:=w.2 b (List.mem_cons_of_mem _ List.mem_cons_self);have oa:=OKA.lay o.2 hv;have c3:=c_laid17 v o.2 hv o.1;have l0:=LV0.lay v;have cs:=CS.lay v;have lv:=o.1;generalize layS v=s at*;have hV:=oa.V;have hT:=oa.T;have hw:WF s:=oa.wf;have hu:[(a,b)].any badP=false→UI 1000 s fuel [(a,b)]:=fun h=>zh8 oa.ok (by omega) (by omega) (by omega) (by simp) (fun p hp=>by rw [List.mem_singleton.1 hp];exact ⟨wa,wb⟩) h;have cU:=zcj (C:=1000) (by omega) oa.ok hw oa.tr hf0 (by omega) (by omega) (by omega) wa wb;have ok:=ztz (C:=1000) (by omega) oa.ok hw oa.tr hu (by omega) (by omega);refine ⟨s,allF s [(a,b)] fuel,c3,zvh s (by omega) (fun i hi=> ?_),cU,fun e=>z5y hw oa.tr e,fun e=> ?_⟩
  · by_cases q:i.bd=true
    · have:=(oa.ok i hi q).2.1;simp only [B];omega
    · rw [oa.wf i hi (by simpa using q)];simp [Tm.sz,Tm.szs,B]
  · obtain ⟨va,vb,pg,l1,cs1,hn⟩:=one_run (C:=1000) (by omega) l0 cs hu e;have pa:okP 2000 a:=za9 va wa.1 wa.2 (Nat.le_refl _);have pb:okP 2000 b:=za9 vb wb.1 wb.2 (Nat.le_refl _);have A:=c_unifyA ok.1 l1 cs1 ok.2.1 ok.2.2.1 (C:=1000) (by omega) ok.2.2.2.2.1 ok.2.2.2.2.2 pa pb pg;refine ⟨hn,_,_,_,zeu _ ok.1 2000 a (by omega) pa.B (fun _=>pa.2),zeu _ ok.1 2000 b (by omega) pb.B (fun _=>pb.2), ?_,fun e1 e2=>zxi (f:=2000) (g:=2000) ok.1 cs1.cl (by omega) (by omega) (fun _=>pa.2) (fun _=>pb.2) e1 e2 pg.1,A.1,A.2.1,A.2.2⟩;by_cases e1:(z0k (allF s [(a,b)] fuel).2 2000 a).2.2=0
    · have:=(z47 (f:=2000) ok.1 (fun _=>pa.2) e1).2.2.2.1;simp only [SZ,B] at*;omega
    · have:(z0k (allF s [(a,b)] fuel).2 2000 a).1=noT:=by
       unfold z0k at e1 ⊢;rw [if_pos va] at e1 ⊢;split
       · rename_i h;rw [if_pos h] at e1;exact absurd rfl e1
       · rfl
      rw [this];simp [Tm.sz,Tm.szs,B]
 obtain ⟨ak,a2,an,al⟩:=a;obtain ⟨bk,bs,bn,bl⟩:=b;refine AC.vc hP sh lv3 (Nat.le_refl _) (by simp) (by simp) (Eq.mpr (v3 (v.map FIBT) ak a2 an (FTs al) bk bs bn (FTs bl) ..) ?_);refine ⟨_,c0,z00 (fun q=>by cases q) (fun _=>⟨_,c1,⟨rfl,Nat.le_refl _⟩,_,c2,rfl,z00 (fun _=>z07 rfl) (fun q1=>z00 (fun _=>z07 rfl) (fun q2=>z00 (fun _=>z07 rfl) (fun q3=> ?_)))⟩)⟩;obtain ⟨s,⟨⟨n,er⟩,S⟩,c3,ck,cU,bad,good⟩:=main q1 q2 (by have:=of_decide_eq_false q3;omega);dsimp only at cU bad good;refine ⟨(s,s),c3,_,_,z7b s,((n,er),S),cU,z00 (fun e=> ?_) (fun e=> ?_)⟩
 · obtain ⟨rfl,rfl⟩:=bad (by simpa using e);exact ⟨_,ck,z00 (fun _=>z00 (fun _=>⟨_,_,z7b _,z00 (fun _=>z07 rfl) (fun h=>absurd h (by simp))⟩) (fun h=>by cases h)) (fun h=>by cases h)⟩
 · obtain ⟨hn,X,Y,⟨⟨m,er2⟩,W⟩,cX,cY,hX,hXY,cW,rfl,h2⟩:=good (by simpa using e);dsimp only at cW h2;have cS:=zng X.1 hX Y.1;refine ⟨X,cX,Y,cY,_,cS,z00 (fun e1=>z00 (fun e2=>z00 (fun e3=> ?_) (fun _=> ?_)) (fun _=> ?_)) (fun _=> ?_)⟩
   · exfalso;rw [(z3q _ _).2 (hXY (by simpa using e1) (by simpa using e2))] at e3;cases e3
   all_goals exact ⟨_,_,z7b _,((m,er2),_),cW,z00 (fun _=>z00 (fun _=>z00 (fun _=>z07 rfl) (fun _=>z00 (fun _=>z07 rfl) (fun _=>z00 (fun _=>⟨_,_,z7b _,z00 (fun _=>z07 rfl) (fun h=>absurd h (by simp))⟩) (fun q=>z07 (by rcases h2 with h2 | h2<;>subst h2<;>first | rfl | cases q))))) (fun h=>absurd hn (of_decide_eq_false h))) (fun h=>by cases h)⟩
end Go.AM

set_option maxRecDepth 100000
open Go Go.Proofs
namespace Go.Proofs.YtfokmibdmphbiaaGreat.base
open Go.ChangeShapes Go.WideShapes Go.ChangeAt Go.RowKit Go.AM
theorem one_le {H:Type}(d:DataW H):1≤Rows.uptoBulk d:=by
 cases d with
 | lit l=>cases l<;>simp [Rows.uptoBulk]
 | _=>simp [Rows.uptoBulk]
theorem bulk {H:Type}:Bulk (H:=H) Rows.uptoBulk Rows.uptoBulkAll:=
 ⟨rfl,fun _ _=>rfl,one_le,fun es sp=>by simp only [Rows.uptoBulk];omega,fun l=>by simp [Rows.uptoBulk],fun l=>by simp [Rows.uptoBulk]⟩
theorem own:ownKnob Tryz.prog.godebug=none:=by kernel_rfl
theorem laidOut:laidOutB Tryz.prog=true:=by kernel_rfl
theorem tmTy:∃ f0 f1 f2 f3:Field,TmTy Tryz.prog 26 f0 f1 f2 f3:=
 ⟨_,_,_,_,Tryz.underlying26,Tryz.underlying23,Tryz.underlying9,Tryz.underlying3,Tryz.underlying24,rfl,rfl,rfl,rfl,by kernel_rfl,by kernel_rfl,by kernel_rfl,by kernel_rfl,by kernel_rfl⟩
theorem rec3:Tryz.prog.readableRec 3=true:=by kernel_rfl
theorem lt3:3<Tryz.prog.types.size:=of_decide_eq_true (by kernel_rfl)
theorem rec22:Tryz.prog.readableRec 22=true:=by kernel_rfl
theorem lt22:22<Tryz.prog.types.size:=of_decide_eq_true (by kernel_rfl)
theorem rec26:Tryz.prog.readableRec 26=true:=by kernel_rfl
theorem lt26:26<Tryz.prog.types.size:=of_decide_eq_true (by kernel_rfl)
theorem noGl (g:Nat)(h:Tryz.prog.globalNamed "internal/strconv.uint64pow10" =some g):False:=by
 rw [show Tryz.prog.globalNamed "internal/strconv.uint64pow10" =none by kernel_rfl] at h;cases h
theorem zxn {n:Int}(h:(Lit.int .i64 n).wf=true): -9223372036854775808≤n∧n≤9223372036854775807:=by
 simp only [Lit.wf,IntKind.min,IntKind.max,IntKind.signed,IntKind.bits,Bool.and_eq_true,decide_eq_true_eq,if_true] at h;omega
theorem upto {H:Type}{l:List (DataW H)}(hk:Rows.uptoSmall H l=true):Rows.uptoBulkAll l≤1048576:=of_decide_eq_true hk
end Go.Proofs.YtfokmibdmphbiaaGreat.base
