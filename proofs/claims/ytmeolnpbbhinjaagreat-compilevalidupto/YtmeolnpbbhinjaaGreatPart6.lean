/- Contracts of the code's functions over plain values, and plain laws: part 6. No conditions. -/
import Derived.Test.YtmeolnpbbhinjaaGreatPart5
import Derived.Test.YtmeolnpbbhinjaaGreatPart3
import Derived.Test.YtmeolnpbbhinjaaGreatRows
set_option maxRecDepth 100000
open Go Go.Proofs
namespace Go.AM
mutual
theorem z93 {v n v' n':Int}(hn:n≤n'):∀ (t:Tm) (d d':Int),d+v≤d'+v'→cl v n t d→cl v' n' t d'
 | .mk k s m l,d,d',hv,h=>by
  rw [cl] at h ⊢;exact ⟨⟨fun e=>by have:=h.1.1 e;omega,h.1.2.1,fun e=>by have:=h.1.2.2 e;omega⟩,zn1 hn l _ _ (by omega) h.2⟩
theorem zn1 {v n v' n':Int}(hn:n≤n'):∀ (l:List Tm) (d d':Int),d+v≤d'+v'→cls v n l d→cls v' n' l d'
 | [],_,_,_,_=>by rw [cls];trivial
 | t::l,d,d',hv,h=>by rw [cls] at h ⊢;exact ⟨z93 hn t d d' hv h.1,zn1 hn l d d' hv h.2⟩
end
mutual
theorem zeb {v n v' n':Int}(lf:Tm→Int→Tm)(h6:∀ u d,u.k≠5→u.k≠6→(lf u d).k≠6)(hl:∀ u d,0≤d→¬(u.k=5∨u.k=6)→u.l=[]→cl v n u d→cl v' n' (lf u d) d):∀ (t:Tm) (d:Int),okB t=true→0≤d→cl v n t d→cl v' n' (z0a lf t d) d
 | .mk k s m l,d,ho,h0,h=>by
  by_cases hk:k=5∨k=6
  · have hk2:(k==5||k==6)=true:=by rcases hk with e | e<;>rw [e]<;>rfl
    have hol:okL l=true:=by
     rcases hk with rfl | rfl
     · obtain ⟨x,rfl,hx⟩:=okB5 ho rfl;rw [okL,okL,hx];rfl
     · exact (okB6 ho rfl).choose_spec.choose_spec.choose_spec.2.2
    rw [z1v lf h6 k s m l d hk2];rw [cl] at h ⊢;exact ⟨⟨fun e=>by omega,by omega,fun e=>by omega⟩,zmt lf h6 hl l _ hol (by split<;>omega) h.2⟩
  · have hk2:(k==5||k==6)=false:=by
     have h5:¬k=5:=fun e=>hk (.inl e);have h6:¬k=6:=fun e=>hk (.inr e);simp [h5,h6]
    have:=okB0 ho (fun e=>hk (.inl e)) (fun e=>hk (.inr e));rw [z2t lf k s m l d hk2];exact hl _ d h0 hk this h
theorem zmt {v n v' n':Int}(lf:Tm→Int→Tm)(h6:∀ u d,u.k≠5→u.k≠6→(lf u d).k≠6)(hl:∀ u d,0≤d→¬(u.k=5∨u.k=6)→u.l=[]→cl v n u d→cl v' n' (lf u d) d):∀ (l:List Tm) (d:Int),okL l=true→0≤d→cls v n l d→cls v' n' (z09 lf l d) d
 | [],_,_,_,_=>by rw [z09,cls];trivial
 | t::l,d,ho,h0,h=>by
  rw [okL,Bool.and_eq_true] at ho;rw [cls] at h;rw [z09,cls];exact ⟨zeb lf h6 hl t d ho.1 h0 h.1,zmt lf h6 hl l d ho.2 h0 h.2⟩
end
theorem cl_sh {v n:Int}{t:Tm}(ht:z04 t=true)(h:cl v n t 0):cl (v+1) n (shT 0 1 t 0) 0:=by
 refine zeb _ (fun u d _ h6=>zir 0 1 u d h6) (fun u d h0 hk hl h=> ?_) t 0 (z0b _ ht) (Int.le_refl 0) h;have hm:=z93 (Int.le_refl n) u d d (by omega:d+v≤d+(v+1)) h;unfold z0q;split
 · rename_i q;rw [zk5] at h hm;rw [cl];have q3:u.k=3:=by simpa using q.1
   exact ⟨⟨fun e=>by have:=h.1.1 e;omega,hm.1.2.1,fun e=>by omega⟩,hm.2⟩
 · exact hm
theorem cl_apply {v n:Int}{f x:Tm}(hf:cl v n f 0)(hx:cl v n x 0):cl v n (z1x f [x]) 0:=by
 show cl v n (if (f.k==6)=true∧f.l ≠ [] then .mk 6 [] 0 (f.l++ [x]) else .mk 6 [] 0 [f,x]) 0
 split
 · rename_i q;have q6:f.k=6:=by simpa using q.1
   rw [zk5,q6] at hf;rw [cl];refine ⟨⟨fun e=>by omega,by omega,fun e=>by omega⟩,zot fun u hu=> ?_⟩;rcases List.mem_append.1 hu with hu | hu
   · exact zjl hf.2 u hu
   · rw [show u=x by simpa using hu];exact hx
 · rw [cl];refine ⟨⟨fun e=>by omega,by omega,fun e=>by omega⟩,zot fun u hu=> ?_⟩;rcases List.mem_cons.1 hu with rfl | hu
   · exact hf
   · rw [show u=x by simpa using hu];exact hx
theorem zj0 {v n:Int}(hv:0≤v){t:Tm}(ht:z04 t=true)(h:cl v n t 0):cl (v+1) n (z0d t) 0:=by
 unfold z0d;split
 · rename_i h5;obtain ⟨k,s,m,l⟩:=t;have h5:k=5:=h5;subst h5;obtain ⟨x,rfl,_⟩:=okB5 (z0b _ ht) rfl;rw [cl,cls] at h;exact z93 (Int.le_refl n) x _ 0 (by show 0+1+v≤0+(v+1);omega) h.2.1
 · exact cl_apply (cl_sh ht h) (by rw [cl,cls];exact ⟨⟨fun _=>by omega,by omega,fun e=>by omega⟩,trivial⟩)
theorem cl_var {v n w d:Int}(hw:w<n):cl v n (.mk 4 [] w []) d:=by rw [cl,cls];exact ⟨⟨fun e=>by omega,by omega,fun _=>hw⟩,trivial⟩
theorem cl_suV {v n n' w:Int}(hv:0≤v)(hn:n≤n')(hw:w<n'){t:Tm}(ht:z04 t=true)(h:cl (v+1) n t 0):cl v n' (suT 0 (vN4 w) t 0) 0:=by
 refine zeb _ (fun u d _ h6=>zfa 0 w u d h6) (fun u d h0 hk hl h=> ?_) t 0 (z0b _ ht) (Int.le_refl 0) h;rw [z4y];have hh:=h;rw [zk5] at hh;by_cases h3:(u.k==3)=true
 · have h3':u.k=3:=by simpa using h3
   rw [if_pos h3];have:=hh.1.1 h3';by_cases q1:u.n<d+0
   · rw [if_pos q1,zk5,hl,cls];exact ⟨⟨fun _=>by omega,by omega,fun e=>by omega⟩,trivial⟩
   · rw [if_neg q1];split
     · exact cl_var hw
     · rw [cl,hl,cls];exact ⟨⟨fun _=>by omega,by omega,fun e=>by omega⟩,trivial⟩
 · rw [if_neg h3,zk5,hl,cls];have h3':¬u.k=3:=by simpa using h3
   exact ⟨⟨fun e=>absurd e h3',hh.1.2.1,fun e=>by have:=hh.1.2.2 e;omega⟩,trivial⟩
theorem zoy {n n':Int}{vs:List Int}(hn:n≤n')(hw:∀ w∈vs,w<n'){t:Tm}(ht:z04 t=true)(h:cl vs.length n t 0):cl 0 n' (z0p vs t) 0:=by
 refine zeb _ (fun u d _ h6=>z90 vs u d h6) (fun u d h0 hk hl h=> ?_) t 0 (z0b _ ht) (Int.le_refl 0) h;have hh:=h;rw [zk5] at hh;unfold z1i;by_cases h3:(u.k==3)=true∧d≤u.n
 · have h3':u.k=3:=by simpa using h3.1
   have:=hh.1.1 h3';rw [if_pos h3,if_pos (by omega)];have hlt:Int.toNat ((vs.length:Int)-1-(u.n-d))<vs.length:=by omega
   refine cl_var (hw _ ?_);rw [List.getD_eq_getElem?_getD,List.getElem?_eq_getElem hlt];exact List.getElem_mem hlt
 · rw [if_neg h3,zk5,hl,cls];refine ⟨⟨fun e=> ?_,hh.1.2.1,fun e=>by have:=hh.1.2.2 e;omega⟩,trivial⟩;have:¬d≤u.n:=fun q=>h3 ⟨by rw [e];rfl,q⟩;omega
theorem z4o {v n:Int}{t:Tm}(h:cl v n t 0):∀ u∈(z00 t).2,cl v n u 0:=fun u hu=>by
 obtain ⟨s,m,x,y,r,rfl,e,_⟩:=z4t (t:=t) (fun e=>by rw [e] at hu;cases hu);rw [e] at hu;rw [cl] at h;exact zjl h.2 u (List.mem_cons_of_mem _ hu)
theorem zlj {v n:Int}:∀ (l:List Tm) (x:Tm),cl v n x 0→(∀ g∈l,cl v n g 0)→cl v n (l.foldl andG x) 0
 | [],x,hx,_=>hx
 | g::l,x,hx,hl=>zlj l (andG x g) ((cl_and v n x g 0).2 ⟨hx,hl g (by simp)⟩) (fun u hu=>hl u (List.mem_cons_of_mem _ hu))
theorem cl_fold {v n:Int}(L:List Tm)(h:∀ g∈L,cl v n g 0):cl v n (z1u L) 0:=by
 cases L with
 | nil=>rw [z1u,cl,cls];exact ⟨⟨fun e=>by omega,by omega,fun e=>by omega⟩,trivial⟩
 | cons x L=>exact zlj L x (h x (by simp)) (fun u hu=>h u (List.mem_cons_of_mem _ hu))
theorem zc9 (any:Bool)(nv:Int):∀ (n:Nat),n≤1000000000→∀ (vs:Int) (L:List Tm) (t:Tm),TG n t→0≤vs→cl vs nv t 0→(∀ g∈L,z04 g=true∧TG n g∧cl vs nv g 0)→(clsF false n any vs L t).1=0→
  ∀ c∈(clsF false n any vs L t).2,0≤c.1∧cl c.1 nv c.2.1 0∧c.1+wt c.2.1≤vs+wt t∧∃ L',c.2.2=z1u L'∧c.1+gms wb L'≤vs+gms wb L+wt t∧∀ g∈L',cl c.1 nv g 0
 | 0,_,_,_,_,_,_,_,_,_,c,hc=>by cases hc
 | n+1,hn,vs,L,t,ht,hv,hcl,hL,h,c,hc=>by
  rw [clsF] at h hc;have hL':∀ g∈L,z04 g=true∧TG n g∧cl vs nv g 0:=fun g hg=>⟨(hL g hg).1,(hL g hg).2.1.mono (by omega),(hL g hg).2.2⟩;by_cases he:(z01 t 131).2.2≠0
  · rw [if_pos he] at h;exact absurd h he
  rw [if_neg he] at h hc;have he:(z01 t 131).2.2=0:=Classical.byContradiction he;by_cases hnm:(z01 t 131).1=[]
  · rw [if_pos hnm] at h hc;split at h
    · cases h
    · rename_i hp;rw [if_neg hp] at hc;have hc:c=(vs,t,z1u L):=by simpa using hc
      subst hc;exact ⟨hv,hcl,Int.le_refl _,L,rfl,by show vs+(gms wb L:Int)≤vs+(gms wb L:Int)+wt t;omega,fun g hg=>(hL g hg).2.2⟩
  rw [if_neg hnm] at h hc
  have two:∀ (hh:(z01 t 131).1=nAnd∨(z01 t 131).1=nOr∨(z01 t 131).1=nImp∨(z01 t 131).1=nIf),∃ a c,(z01 t 131).2.1=[a,c]∧TG n a∧TG n c∧5+wt a+wt c≤wt t∧cl vs nv a 0∧cl vs nv c 0:=fun hh=>by
   obtain ⟨a,c,q,q2,q0⟩:=z0j (by omega) he hh;exact ⟨a,c,q,ht.arg (by rw [q2];simp),ht.arg (by rw [q2];simp),zm7 q2 q0,z4o hcl a (by rw [q2];simp),z4o hcl c (by rw [q2];simp)⟩
  by_cases hand:(z01 t 131).1=nAnd
  · rw [if_pos hand] at h hc;obtain ⟨a,d,q,ta,td,hs,ka,kd⟩:=two (.inl hand);rw [q] at h hc;by_cases z:(clsF false n any vs L (at0 [a,d])).1≠0
    · rw [if_pos z] at h;exact absurd h z
    · rw [if_neg z] at h hc;rcases List.mem_append.1 hc with hc | hc
      · obtain ⟨r0,r1,r2,L',r3,r4,r5⟩:=zc9 any nv n (by omega) vs L a ta hv ka hL' (Classical.byContradiction z) c hc;exact ⟨r0,r1,by omega,L',r3,by omega,r5⟩
      · obtain ⟨r0,r1,r2,L',r3,r4,r5⟩:=zc9 any nv n (by omega) vs L d td hv kd hL' h c hc;exact ⟨r0,r1,by omega,L',r3,by omega,r5⟩
  rw [if_neg hand] at h hc;by_cases hpi:(z01 t 131).1=nPi
  · rw [if_pos hpi] at h hc;obtain ⟨a,q,q2,q0⟩:=z1f (by omega) he (.inl hpi);have ma:a∈(z00 t).2:=by rw [q2];simp
    have hs:=z1o ma q0;have hb:=z5k (z07 ma);rw [q] at h hc;have hg:=zbb wb L
    obtain ⟨r0,r1,r2,L',r3,r4,r5⟩:=zc9 any nv n (by omega) (vs+1) (L.map fun g=>shT 0 1 g 0) (z0d a) (ht.body (by omega) ma) (by omega) (zj0 hv (z07 ma) (z4o hcl a ma)) (fun g hg=>by
     obtain ⟨g',hg',rfl⟩:=List.mem_map.1 hg;have w:=hL g' hg';exact ⟨(w.2.1.sh (by omega)).1,w.2.1.sh (by omega),cl_sh w.1 w.2.2⟩) h c hc
    exact ⟨r0,r1,by omega,L',r3,by omega,r5⟩
  rw [if_neg hpi] at h hc
  have more:∀ g d:Tm,TG n g→TG n d→5+wt g+wt d≤wt t→cl vs nv g 0→cl vs nv d 0→(clsF false n any vs (L++ [g]) d).1=0→c∈(clsF false n any vs (L++ [g]) d).2→0≤c.1∧cl c.1 nv c.2.1 0∧c.1+wt c.2.1≤vs+wt t∧∃ L',c.2.2=z1u L'∧c.1+gms wb L'≤vs+gms wb L+wt t∧∀ g∈L',cl c.1 nv g 0:=fun g d tg td hs kg kd hd hx=>by
   obtain ⟨r0,r1,r2,L',r3,r4,r5⟩:=zc9 any nv n (by omega) vs (L++ [g]) d td hv kd (fun u hu=>by
    rcases List.mem_append.1 hu with hu | hu
    · exact hL' u hu
    · rw [show u=g by simpa using hu];exact ⟨tg.1,tg,kg⟩) hd c hx
   rw [z51,gms,gms] at r4;have e:wb 6 []+wb 0 nAnd=5:=rfl;exact ⟨r0,r1,by omega,L',r3,by unfold wt at*;omega,r5⟩
  by_cases himp:(z01 t 131).1=nImp
  · rw [if_pos himp] at h hc;obtain ⟨a,d,q,ta,td,hs,ka,kd⟩:=two (.inr (.inr (.inl himp)));rw [q] at h hc;by_cases z:z06 false n (at0 [a,d])≠0
    · rw [if_pos z] at h;exact absurd h z
    · rw [if_neg z] at h hc;exact more a d ta td hs ka kd h hc
  rw [if_neg himp] at h hc;by_cases hif:(z01 t 131).1=nIf
  · rw [if_pos hif] at h hc;obtain ⟨a,d,q,ta,td,hs,ka,kd⟩:=two (.inr (.inr (.inr hif)));rw [q] at h hc;by_cases z:z06 false n (at1 [a,d])≠0
    · rw [if_pos z] at h;exact absurd h z
    · rw [if_neg z] at h hc;exact more d a td ta (by omega) kd ka h hc
  rw [if_neg hif] at h;cases h
end Go.AM

set_option maxRecDepth 100000
open Go Go.Proofs
namespace Go.AM
abbrev gp (l:List Pl)(i:Nat):Pl:=l.getD i (false,0,0)
def StP (l:List Pl)(q:Nat)(pt:Int×Int):Prop:=(gp l q).1=false∨gp l q=(true,pt)
theorem stp_end {l:List Pl}{q:Nat}{pt:Int×Int}(h:l.length≤q):StP l q pt:=by
 left;unfold gp;rw [List.getD_eq_getElem?_getD,List.getElem?_eq_none h];rfl
theorem zqn (l:List Pl)(q:Nat)(x:Pl)(hq:q<l.length):gp (l.set q x) q=x∧∀ r,r≠q→gp (l.set q x) r=gp l r:=by
 refine ⟨by simp [gp,List.getD,hq],fun r hr=> ?_⟩;simp only [gp,List.getD];rw [List.getElem?_set_ne (by omega)]
theorem zft {l:List Pl}{q:Nat}{pt:Int×Int}(hq:q<l.length)(h:StP l q pt):∃ l',z4w l (q:Int) pt=some l'∧l'.length=l.length∧gp l' q=(true,pt)∧∀ r,r≠q→gp l' r=gp l r:=by
 unfold z4w;rw [if_pos (by omega),show Int.toNat (q:Int)=q by omega];by_cases h0:(gp l q).1=false
 · rw [if_pos h0];obtain ⟨g1,g2⟩:=zqn l q (true,pt) hq;exact ⟨_,rfl,by rw [List.length_set],g1,g2⟩
 · have h1:gp l q=(true,pt):=h.resolve_left h0;rw [if_neg h0,if_pos h1];exact ⟨l,rfl,rfl,h1,fun _ _=>rfl⟩
def Wy (b:List In1)(p:Nat)(last:Bool):Prop:=∀ (l:List Pl) (pt:Int×Int) (rest:List In1),0≤pt.1→0≤pt.2→(last=true→pt=(0,0))→p+b.length≤l.length→(p+b.length<l.length∨z3x b=3)→StP l p pt→
 (∀ q,p<q→q<p+b.length→(gp l q).1=false)→(b ≠ []→StP l (p+b.length) pt)→
 ∃ l',z37 l (p:Int) (b++rest)=z37 l' ((p+b.length:Nat):Int) rest∧l'.length=l.length∧(∀ q,p+b.length<q→gp l' q=gp l q)∧StP l' (p+b.length) pt
theorem Wy.nil (p:Nat)(last:Bool):Wy [] p last:=fun l pt rest _ _ _ _ _ hs _ _=>⟨l,rfl,rfl,fun _ _=>rfl,hs⟩
theorem z1r (a b:List In1)(hb:b ≠ []):z3x (a++b)=z3x b:=by
 rcases List.eq_nil_or_concat b with rfl | ⟨c,x,rfl⟩
 · exact absurd rfl hb
 · rw [List.concat_eq_append,←List.append_assoc,z0s,z0s]
theorem Wy.app {a b:List In1}{p:Nat}{last:Bool}(ha:Wy a p false)(hb:Wy b (p+a.length) last):Wy (a++b) p last:=by
 intro l pt rest h1 h2 hl hlen hend hst hin hse;rw [List.length_append] at hlen hend hin hse ⊢;by_cases hbn:b=[]
 · subst hbn;rw [List.append_nil] at hend hse ⊢;exact ha l pt rest h1 h2 (fun e=>by cases e) hlen (by simpa using hend) hst hin (by simpa using hse)
 by_cases han:a=[]
 · subst han;rw [List.nil_append,List.length_nil,Nat.zero_add] at*;exact hb l pt rest h1 h2 hl hlen hend hst hin hse
 have hbl:0<b.length:=List.length_pos_iff.2 hbn;have hal:0<a.length:=List.length_pos_iff.2 han;obtain ⟨l1,e1,n1,o1,s1⟩:=ha l pt (b++rest) h1 h2 (fun e=>by cases e) (by omega) (.inl (by omega)) hst (fun q q1 q2=>hin q q1 (by omega)) (fun _=> .inl (hin _ (by omega) (by omega)))
 obtain ⟨l2,e2,n2,o2,s2⟩:=hb l1 pt rest h1 h2 hl (by omega) (by rw [n1,Nat.add_assoc];rw [z1r a b hbn] at hend;exact hend) s1 (fun q q1 q2=>by rw [o1 q q1];exact hin q (by omega) (by omega)) (fun _=>by
  have:=hse (by simp [han]);unfold StP at this ⊢;rw [Nat.add_assoc,o1 _ (by omega)];exact this)
 rw [Nat.add_assoc] at e2 o2 s2;exact ⟨l2,by rw [List.append_assoc,e1];exact e2,by omega,fun q hq=>by rw [o2 q hq,o1 q (by omega)],s2⟩
theorem z3v (l:List Pl)(i:Int)(x:In1)(r:List In1):z37 l i (x::r)=match z4a l i x.k x.a with | none=>false | some l'=>z37 l' (i+1) r:=by rw [z37];rfl
theorem Wy.un {l:List Pl}{p:Nat}{k a:Int}(h:(gp l p).1=false):z4a l (p:Int) k a=some l:=by
 unfold z4a;rw [show Int.toNat (p:Int)=p by omega];exact if_pos h
theorem zk1 {l:List Pl}{p:Nat}{k a:Int}{pt pt':Int×Int}(hk:k≠3∧k≠4∧k≠8∧k≠9∧k≠10)(ha:aftP k pt=pt')(h1:0≤pt'.1)(h2:0≤pt'.2)(hlen:p+1<l.length)(hst:StP l p pt)(hs:StP l (p+1) pt'):
  ∃ l',z4a l (p:Int) k a=some l'∧l'.length=l.length∧(∀ q,p+1<q→gp l' q=gp l q)∧StP l' (p+1) pt':=by
 rcases hst with h | h
 · exact ⟨l,Wy.un h,rfl,fun _ _=>rfl,hs⟩
 · obtain ⟨l',e,n,g,o⟩:=zft (pt:=pt') (q:=p+1) hlen hs;refine ⟨l', ?_,n,fun q hq=>o q (by omega), .inr g⟩;unfold z4a;have hg:l.getD (Int.toNat (p:Int)) (false,0,0)=(true,pt):=by rw [show Int.toNat (p:Int)=p by omega];exact h
   rw [hg,if_neg (by simp),if_neg (by omega),if_neg (by omega),ha,if_neg (by omega),if_neg (by omega)];exact e
theorem Wy.plain {x:In1}{p:Nat}{last:Bool}(hk:x.k≠3∧x.k≠4∧x.k≠8∧x.k≠9∧x.k≠10)(ha:∀ pt,aftP x.k pt=pt):Wy [x] p last:=by
 intro l pt rest h1 h2 _ hlen hend hst _ hse;have hs:=hse (by simp);simp only [List.length_cons,List.length_nil,Nat.zero_add] at hlen hend hs ⊢;have hl:z3x [x]=x.k:=z0s [] x;obtain ⟨l',e,n,o,s⟩:=zk1 (a:=x.a) hk (ha pt) h1 h2 (hend.resolve_right (by rw [hl];exact hk.1)) hst hs;refine ⟨l', ?_,n,o,s⟩;rw [List.singleton_append,z3v,e];rfl
theorem Wy.fail {x:In1}{p:Nat}{last:Bool}(hk:x.k=8):Wy [x] p last:=by
 intro l pt rest h1 h2 _ hlen hend hst _ hse;have hs:=hse (by simp);simp only [List.length_cons,List.length_nil,Nat.zero_add] at hlen hend hs ⊢;refine ⟨l, ?_,rfl,fun _ _=>rfl,hs⟩;rw [List.singleton_append,z3v]
 have e:z4a l (p:Int) x.k x.a=some l:=by
  rcases hst with h | h
  · exact Wy.un h
  · unfold z4a;have hg:l.getD (Int.toNat (p:Int)) (false,0,0)=(true,pt):=by rw [show Int.toNat (p:Int)=p by omega];exact h
    rw [hg,if_neg (by simp),if_neg (by omega),if_pos hk]
 rw [e];rfl
theorem zht {l:List Pl}{p:Nat}{k a:Int}(hk:k=3∨k=4)(hst:StP l p (0,0)):z4a l (p:Int) k a=some l:=by
 rcases hst with h | h
 · exact Wy.un h
 · unfold z4a;have hg:l.getD (Int.toNat (p:Int)) (false,0,0)=(true,0,0):=by rw [show Int.toNat (p:Int)=p by omega];exact h
   rw [hg,if_neg (by simp),if_pos hk,if_pos rfl]
theorem Wy.last {x:In1}{p:Nat}(hk:x.k=3):Wy [x] p true:=by
 intro l pt rest h1 h2 hl hlen hend hst _ hse;have hs:=hse (by simp);have hp:=hl rfl;subst hp;refine ⟨l, ?_,rfl,fun _ _=>rfl,hs⟩;rw [List.singleton_append,z3v,zht (.inl hk) hst];rfl
theorem Wy.within {b:List In1}{p:Nat}{last:Bool}{x y:In1}{up:Int×Int→Int×Int}(hx:x.k≠3∧x.k≠4∧x.k≠8∧x.k≠9∧x.k≠10)(hy:y.k≠3∧y.k≠4∧y.k≠8∧y.k≠9∧y.k≠10)(ux:∀ pt,aftP x.k pt=up pt)(uy:∀ pt,aftP y.k (up pt)=pt)(u0:∀ pt:Int×Int,0≤pt.1→0≤pt.2→0≤(up pt).1∧0≤(up pt).2)(hb:Wy b (p+1) false):Wy (x::(b++ [y])) p last:=by
 intro l pt rest h1 h2 _ hlen hend hst hin hse;have hs:=hse (by simp);have hl:z3x (x::(b++ [y]))=y.k:=z0s (x::b) y;have hlen2:(x::(b++ [y])).length=b.length+2:=by simp
 rw [hlen2] at hlen hend hs hin ⊢;have hend:=hend.resolve_right (by rw [hl];exact hy.1);obtain ⟨u1,u2⟩:=u0 pt h1 h2;obtain ⟨l1,e1,n1,o1,s1⟩:=zk1 (a:=x.a) hx (ux pt) u1 u2 (by omega) hst (.inl (hin (p+1) (by omega) (by omega)))
 obtain ⟨l2,e2,n2,o2,s2⟩:=hb l1 (up pt) (y::rest) u1 u2 (fun e=>by cases e) (by omega) (.inl (by omega)) s1 (fun q q1 q2=>by rw [o1 q q1];exact hin q (by omega) (by omega)) (fun hne=>by
  have:0<b.length:=List.length_pos_iff.2 hne;left;rw [o1 _ (by omega)];exact hin _ (by omega) (by omega))
 obtain ⟨l3,e3,n3,o3,s3⟩:=zk1 (a:=y.a) (p:=p+1+b.length) hy (uy pt) h1 h2 (by omega) s2 (by
  unfold StP at hs ⊢;rw [o2 _ (by omega),o1 _ (by omega),show p+1+b.length+1=p+(b.length+2) by omega];exact hs)
 rw [show p+1+b.length+1=p+(b.length+2) by omega] at o3 s3;refine ⟨l3, ?_,by omega,fun q hq=>by rw [o3 q hq,o2 q (by omega),o1 q (by omega)],s3⟩;rw [List.cons_append,z3v,e1];show z37 l1 ((p:Int)+1) (b++ [y]++rest)=_;rw [List.append_assoc,show (p:Int)+1=((p+1:Nat):Int) by omega];show z37 l1 ((p+1:Nat):Int) (b++y::rest)=_;rw [e2,z3v,e3];show z37 l3 (((p+1+b.length:Nat):Int)+1) rest=_;rw [show ((p+1+b.length:Nat):Int)+1=((p+(b.length+2):Nat):Int) by omega]
theorem Wy.cons {b:List In1}{p:Nat}{last:Bool}{x:In1}(hx:Wy [x] p false)(hb:Wy b (p+1) last):Wy (x::b) p last:=Wy.app (a:=[x]) hx hb
theorem Wy.or {a b:List In1}{p:Nat}{last:Bool}{A E:Int}(hA:A=((p+1+a.length+1:Nat):Int))(hE:E=((p+1+a.length+1+b.length:Nat):Int))(ha:Wy a (p+1) false)(hb:Wy b (p+1+a.length+1) false)(hbl:z3x b≠3):Wy (mkI 9 A::(a++mkI 10 E::b)) p last:=by
 intro l pt rest h1 h2 _ hlen hend hst hin hse;have hs:=hse (by simp)
 have hl:z3x (mkI 9 A::(a++mkI 10 E::b))≠3:=by
  by_cases hbn:b=[]
  · subst hbn;rw [show mkI 9 A::(a++ [mkI 10 E])=(mkI 9 A::a)++ [mkI 10 E] from rfl,z0s];show (10:Int)≠3;omega
  · rw [show mkI 9 A::(a++mkI 10 E::b)=(mkI 9 A::a++ [mkI 10 E])++b by simp,z1r _ _ hbn];exact hbl
 have hlen2:(mkI 9 A::(a++mkI 10 E::b)).length=a.length+b.length+2:=by simp;omega
 rw [hlen2] at hlen hend hs hin ⊢;have hend:=hend.resolve_right hl
 obtain ⟨l1,e1,n1,o1,s1,t1⟩:∃ l1,z4a l (p:Int) 9 A=some l1∧l1.length=l.length∧(∀ q,p+1<q→q≠p+1+a.length+1→gp l1 q=gp l q)∧StP l1 (p+1) pt∧StP l1 (p+1+a.length+1) pt:=by
  have hA':StP l (p+1+a.length+1) pt:=by
   by_cases hbn:b.length=0
   · rw [show p+1+a.length+1=p+(a.length+b.length+2) by omega];exact hs
   · exact .inl (hin _ (by omega) (by omega))
  rcases hst with h | h
  · exact ⟨l,Wy.un h,rfl,fun _ _ _=>rfl, .inl (hin _ (by omega) (by omega)),hA'⟩
  · obtain ⟨m,e,n,g,o⟩:=zft (pt:=pt) (q:=p+1+a.length+1) (by omega) hA';obtain ⟨m2,e2,n2,g2,o2⟩:=zft (l:=m) (pt:=pt) (q:=p+1) (by omega) (.inl (by rw [o _ (by omega)];exact hin _ (by omega) (by omega)));refine ⟨m2, ?_,by omega,fun q q1 q2=>by rw [o2 q (by omega),o q q2], .inr g2, .inr (by rw [o2 _ (by omega)];exact g)⟩;unfold z4a;have hg:l.getD (Int.toNat (p:Int)) (false,0,0)=(true,pt):=by rw [show Int.toNat (p:Int)=p by omega];exact h
    have ha':aftP 9 pt=pt:=rfl;rw [hg,if_neg (by simp),if_neg (by omega),if_neg (by omega),ha',if_neg (by omega),if_pos (by omega),hA,e];show (if (9:Int)=10 then some m else z4w m ((p:Int)+1) pt)=some m2
    rw [if_neg (by omega),show (p:Int)+1=((p+1:Nat):Int) by omega];exact e2
 obtain ⟨l2,e2,n2,o2,s2⟩:=ha l1 pt (mkI 10 E::(b++rest)) h1 h2 (fun e=>by cases e) (by omega) (.inl (by omega)) s1 (fun q q1 q2=>by rw [o1 q q1 (by omega)];exact hin q (by omega) (by omega)) (fun hne=>by
  have:0<a.length:=List.length_pos_iff.2 hne;left;rw [o1 _ (by omega) (by omega)];exact hin _ (by omega) (by omega))
 have sE:StP l2 (p+1+a.length+1+b.length) pt:=by
  unfold StP;rw [o2 _ (by omega)];by_cases hbn:b.length=0
  · rw [show p+1+a.length+1+b.length=p+1+a.length+1 by omega];exact t1
  · rw [o1 _ (by omega) (by omega),show p+1+a.length+1+b.length=p+(a.length+b.length+2) by omega];exact hs
 obtain ⟨l3,e3,n3,o3,s3⟩:∃ l3,z4a l2 ((p+1+a.length:Nat):Int) 10 E=some l3∧l3.length=l2.length∧(∀ q,q≠p+1+a.length+1+b.length→gp l3 q=gp l2 q)∧StP l3 (p+1+a.length+1+b.length) pt:=by
  rcases s2 with h | h
  · exact ⟨l2,Wy.un h,rfl,fun _ _=>rfl,sE⟩
  · obtain ⟨m,e,n,g,o⟩:=zft (pt:=pt) (q:=p+1+a.length+1+b.length) (l:=l2) (by omega) sE;refine ⟨m, ?_,n,o, .inr g⟩;unfold z4a;have hg:l2.getD (Int.toNat ((p+1+a.length:Nat):Int)) (false,0,0)=(true,pt):=by rw [show Int.toNat ((p+1+a.length:Nat):Int)=p+1+a.length by omega];exact h
    have ha':aftP 10 pt=pt:=rfl;rw [hg,if_neg (by simp),if_neg (by omega),if_neg (by omega),ha',if_neg (by omega),if_pos (by omega),hE,e];rfl
 have s4:StP l3 (p+1+a.length+1) pt:=by
  by_cases hbn:b.length=0
  · have:=s3;rw [show p+1+a.length+1+b.length=p+1+a.length+1 by omega] at this;exact this
  · unfold StP;rw [o3 _ (by omega),o2 _ (by omega)];exact t1
 obtain ⟨l5,e5,n5,o5,s5⟩:=hb l3 pt rest h1 h2 (fun e=>by cases e) (by omega) (.inl (by omega)) s4 (fun q q1 q2=>by rw [o3 q (by omega),o2 q (by omega),o1 q (by omega) (by omega)];exact hin q (by omega) (by omega)) (fun _=>s3);rw [show p+1+a.length+1+b.length=p+(a.length+b.length+2) by omega] at e5 o5 s5 o3;refine ⟨l5, ?_,by omega,fun q hq=>by rw [o5 q hq,o3 q (by omega),o2 q (by omega),o1 q (by omega) (by omega)],s5⟩;rw [List.cons_append,z3v];show (match z4a l (p:Int) 9 A with | none=>false | some l'=>z37 l' ((p:Int)+1) (a++mkI 10 E::b++rest))=_
 rw [e1];show z37 l1 ((p:Int)+1) (a++mkI 10 E::b++rest)=_;rw [List.append_assoc,List.cons_append,show (p:Int)+1=((p+1:Nat):Int) by omega,e2,z3v];show (match z4a l2 ((p+1+a.length:Nat):Int) 10 E with | none=>false | some l'=>z37 l' (((p+1+a.length:Nat):Int)+1) (b++rest))=_
 rw [e3];show z37 l3 (((p+1+a.length:Nat):Int)+1) (b++rest)=_;rw [show ((p+1+a.length:Nat):Int)+1=((p+1+a.length+1:Nat):Int) by omega,e5]
end Go.AM

set_option maxRecDepth 100000
open Go Go.Proofs
namespace Go.AM
def BI (fv sl N i:Int)(x:In1):Prop:=fldB 0 fv sl N i none x.k x.a x.t x.l x.c.isEmpty=true∧vCs sl x.c=true∧x.k≠0∧x.k≠1
def BIs (fv sl N:Int):Int→List In1→Prop
 | _,[]=>True
 | i,x::l=>BI fv sl N i x∧BIs fv sl N (i+1) l
theorem BIs.app {fv sl N:Int}:∀ (a b:List In1) (i:Int),BIs fv sl N i a→BIs fv sl N (i+a.length) b→BIs fv sl N i (a++b)
 | [],b,i,_,h=>by simpa using h
 | x::a,b,i,h1,h2=>⟨h1.1,BIs.app a b (i+1) h1.2 (by rw [show i+1+(a.length:Int)=i+((x::a).length:Int) by simp only [List.length_cons];omega];exact h2)⟩
theorem fld_same {ar ar' fv sl N i:Int}{w w':Option (Int×Int)}{k a:Int}{t:Tm}{l:List Tm}{c:Bool}(h0:k≠0)(h1:k≠1):fldB ar fv sl N i w k a t l c=fldB ar' fv sl N i w' k a t l c:=by
 have h:¬(k=0∨k=1):=by omega
 unfold fldB insB;rw [if_neg h,if_neg h]
theorem zji {ar fv sl N:Int}:∀ (l:List In1) (i:Int) (w:Option (Int×Int)),BIs fv sl N i l→vIs ar fv sl N i w l=true
 | [],_,_,_=>by rw [vIs]
 | .mk k a t q c::r,i,w,h=>by
  obtain ⟨⟨h1,h2,h3,h4⟩,h5⟩:=h;have h3:k≠0:=h3;have h4:k≠1:=h4;have h1:fldB 0 fv sl N i none k a t q c.isEmpty=true:=h1;have h2:vCs sl c=true:=h2;rw [vIs,fld_same (ar:=ar) (ar':=0) (w':=none) h3 h4,h1,h2,zji r (i+1) _ h5];rfl
theorem z7v {fv sl N i:Int}(k:Int)(h:k=4∨k=7∨k=8∨k=12∨k=15):BI fv sl N i (mkI k 0):=by
 refine ⟨?_,by show vCs sl []=true;rw [vCs],by show k≠0;omega,by show k≠1;omega⟩;rcases h with rfl | rfl | rfl | rfl | rfl<;>rfl
theorem zor {fv sl N i a:Int}(k:Int)(h:k=9∨k=10)(h1:i<a)(h2:a<N):BI fv sl N i (mkI k a):=by
 refine ⟨?_,by show vCs sl []=true;rw [vCs],by show k≠0;omega,by show k≠1;omega⟩;have e:decide (i<a∧a<N)=true:=decide_eq_true ⟨h1,h2⟩;rcases h with rfl | rfl
 · show ((z55 noT0||z04 noT0)&&(decide (i<a∧a<N)&&_))=true;rw [e];rfl
 · show ((z55 noT0||z04 noT0)&&(decide (i<a∧a<N)&&_))=true;rw [e];rfl
theorem zud {fv sl N i a:Int}(k:Int)(h:k=11∨k=13)(h1:fv≤a)(h2:a<sl):BI fv sl N i (mkI k a):=by
 refine ⟨?_,by show vCs sl []=true;rw [vCs],by show k≠0;omega,by show k≠1;omega⟩;have e:decide (fv≤a∧a<sl)=true:=decide_eq_true ⟨h1,h2⟩;rcases h with rfl | rfl
 · show ((z55 noT0||z04 noT0)&&(decide (fv≤a∧a<sl)&&_))=true;rw [e];rfl
 · show ((z55 noT0||z04 noT0)&&(decide (fv≤a∧a<sl)&&_))=true;rw [e];rfl
theorem bi_imp {fv sl N i:Int}(c:List Cd)(h:vCs sl c=true):BI fv sl N i (.mk 14 0 noT0 [] c):=by
 refine ⟨?_,h,by show (14:Int)≠0;omega,by show (14:Int)≠1;omega⟩;cases c<;>rfl
theorem zdi {n sl:Int}{t:Tm}(hv:z04 t=true)(h:cl 0 n t 0)(hn:n≤sl):plB sl t=true:=by
 have h1:=(zmd (Int.le_refl 0) t 0 (z0b _ hv)).1 (z93 hn t 0 0 (by omega) h);unfold plB;rw [hv,h1.1,(zrb t).1,decide_eq_true h1.2];rfl
theorem bi_eq {fv sl N i n:Int}{a b:Tm}(ha:z04 a=true)(hb:z04 b=true)(ca:cl 0 n a 0)(cb':cl 0 n b 0)(hn:n≤sl):BI fv sl N i (.mk 5 0 noT0 [a,b] []):=by
 refine ⟨?_,by show vCs sl []=true;rw [vCs],by show (5:Int)≠0;omega,by show (5:Int)≠1;omega⟩;show ((z55 noT0||z04 noT0)&&(_&&(_&&(_&&(_&&(_&&(plB sl a&&(plB sl b&&true))))))))=true;rw [zdi ha ca hn,zdi hb cb' hn];rfl
theorem bi_num {fv sl N i n:Int}{t:Tm}(hv:z04 t=true)(hc:cl 0 n t 0)(hn:n≤sl)(hi:zku t=true):BI fv sl N i (.mk 6 0 t [] []):=by
 refine ⟨?_,by show vCs sl []=true;rw [vCs],by show (6:Int)≠0;omega,by show (6:Int)≠1;omega⟩;show ((z55 t||z04 t)&&(zku t&&(_&&(_&&(_&&(plB sl t&&_))))))=true;rw [zdi hv hc hn,hv,hi,Bool.or_true];rfl
theorem zrr {fv sl N i n:Int}{t:Tm}(k:Int)(hk:k=2∨k=3)(hv:z04 t=true)(hc:cl 0 n t 0)(hn:n≤sl)(hi:z7f t=true):BI fv sl N i (.mk k 0 t [] []):=by
 refine ⟨?_,by show vCs sl []=true;rw [vCs],by show k≠0;omega,by show k≠1;omega⟩;rcases hk with rfl | rfl
 · show ((z55 t||z04 t)&&(z7f t&&(_&&(_&&(_&&(plB sl t&&_))))))=true;rw [zdi hv hc hn,hv,hi,Bool.or_true];rfl
 · show ((z55 t||z04 t)&&(z7f t&&(_&&(_&&(_&&(plB sl t&&_))))))=true;rw [zdi hv hc hn,hv,hi,Bool.or_true];rfl
theorem z3d:∀ (n:Nat) (t:Tm) (s:Int) (p:Nat),z3x (bodC n false t s p).2≠3
 | 0,_,_,_=>by rw [bodC];show (0:Int)≠3;omega
 | n+1,t,s,p=>by
  have one:∀ (x:In1),x.k≠3→z3x [x]≠3:=fun x h=>by rw [show [x]=[]++ [x] from rfl,z0s];exact h
  rw [bodC];by_cases c1:(z00 t).1.s=zc6
  · rw [if_pos c1];show (0:Int)≠3;omega
  rw [if_neg c1];by_cases c2:(z00 t).1.s=zk4
  · rw [if_pos c2];exact one _ (by show (8:Int)≠3;omega)
  rw [if_neg c2];by_cases c3:(z00 t).1.s=nCut
  · rw [if_pos c3];exact one _ (by show (7:Int)≠3;omega)
  rw [if_neg c3];by_cases c4:(z00 t).1.s=nAnd
  · rw [if_pos c4];unfold bodA;generalize hb:(bodC n false (at1 (z00 t).2) (bodC n false (at0 (z00 t).2) s p).1 (p+(bodC n false (at0 (z00 t).2) s p).2.length))=b;show z3x ((bodC n false (at0 (z00 t).2) s p).2++b.2)≠3;by_cases hn:b.2=[]
    · rw [hn,List.append_nil];exact z3d n _ _ _
    · rw [z1r _ _ hn,←hb];exact z3d n _ _ _
  rw [if_neg c4];by_cases c5:(z00 t).1.s=nOr
  · rw [if_pos c5];unfold bodO;generalize (bodC n false (at0 (z00 t).2) s (p+1))=a;generalize hb:(bodC n false (at1 (z00 t).2) a.1 (p+1+a.2.length+1))=b;show z3x (mkI 9 _::(a.2++mkI 10 _::b.2))≠3;by_cases hn:b.2=[]
    · rw [hn];rw [←List.cons_append,z0s];show (10:Int)≠3;omega
    · rw [←List.cons_append,show ∀ (X:List In1) (y:In1) (Y:List In1),X++y::Y=(X++ [y])++Y from fun X y Y=>by simp,z1r _ _ hn,←hb];exact z3d n _ _ _
  rw [if_neg c5];by_cases c6:(z00 t).1.s=nPi
  · rw [if_pos c6];unfold bodP;rw [←List.cons_append,z0s];show (12:Int)≠3;omega
  rw [if_neg c6];by_cases c7:(z00 t).1.s=nSig
  · rw [if_pos c7];unfold bodS;generalize hb:(bodC n false (suT 0 (vN4 s) (z0d (at0 (z00 t).2)) 0) (s+1) (p+1))=b;by_cases hn:b.2=[]
    · rw [hn];exact one _ (by show (13:Int)≠3;omega)
    · rw [show ∀ (y:In1) (Y:List In1),y::Y=[y]++Y from fun y Y=>rfl,z1r _ _ hn,←hb];exact z3d n _ _ _
  rw [if_neg c7];by_cases c8:(z00 t).1.s=nImp
  · rw [if_pos c8];unfold bodI;rw [←List.cons_append,z0s];show (15:Int)≠3;omega
  rw [if_neg c8];by_cases c9:(z00 t).1.s=nEq
  · rw [if_pos c9];exact one _ (by show (5:Int)≠3;omega)
  rw [if_neg c9];by_cases c10:numB (z00 t).1.s=true
  · rw [if_pos c10];exact one _ (by show (6:Int)≠3;omega)
  rw [if_neg c10];exact one _ (by show (if false=true then (3:Int) else 2)≠3;rw [if_neg (by simp)];omega)
end Go.AM

set_option maxRecDepth 100000
open Go Go.Proofs
namespace Go.AM
theorem znc {t:Tm}(hv:z04 t=true)(h0:(z00 t).1.k=0):(z50 (z00 t).1.s||z95 (z00 t).1.s)=true:=by
 have hh:z04 (z00 t).1=true:=by
  unfold z00;split
  · rename_i h;obtain ⟨k,s,n,l⟩:=t;have h6:k=6:=h.1;subst h6;obtain ⟨x,y,r,rfl,_,_⟩:=okB6 (z0b _ h.2) rfl;exact z2j hv (.inr rfl) x (by simp)
  · exact hv
 generalize (z00 t).1=u at*;obtain ⟨k,s,n,l⟩:=u;have h0:k=0:=h0;subst h0;rw [z04,if_pos (show ((0:Int)==0)=true from rfl)] at hh;simp only [Bool.and_eq_true] at hh;exact hh.1.1
theorem ziq {vs:List Int}{t:Tm}(hv:z04 t=true)(hv':z04 (z0p vs t)=true)(h0:(z00 t).1.k=0):(z00 (z0p vs t)).1=(z00 t).1:=by
 have h:=zaa (zk8 vs t) hv' hv;rcases z9t h.1.symm with ⟨hk,_⟩ | ⟨_,hf,_⟩ | ⟨_,_,_,e⟩
 · omega
 · rcases hf with q | q<;>omega
 · exact e
def wasB (w:Option (Int×Int))(a:Int):Bool:=match w with | none=>true | some w=>(w.1==0||w.1==1)&&decide (w.2<a)
theorem fld_arg0 {ar fv sl N i a:Int}{w:Option (Int×Int)}{t:Tm}:fldB ar fv sl N i w 0 a t [] true=((z55 t||z04 t)&&((decide (0≤a∧a<ar)&&(true&&wasB w a))&&(true&&(true&&(true&&(plB sl t&&true)))))):=rfl
theorem fld_arg1 {ar fv sl N i a:Int}{w:Option (Int×Int)}{t:Tm}:fldB ar fv sl N i w 1 a t [] true=((z55 t||z04 t)&&((decide (0≤a∧a<ar)&&((false||t.k==0||t.k==2)&&wasB w a))&&(true&&(true&&(true&&(plB sl t&&true)))))):=rfl
theorem zs2 {ar fv sl N:Int}{rest:List In1}(hr:∀ w i,i=(ar:Int)→vIs ar fv sl N i w rest=true):∀ (l:List Tm) (i:Nat) (w:Option (Int×Int)),(∀ x,w=some x→(x.1=0∨x.1=1)∧x.2<i)→(i+l.length:Int)=ar→(∀ t∈l,plB sl t=true)→vIs ar fv sl N (i:Int) w (argI i l++rest)=true
 | [],i,w,_,ha,_=>hr w i (by simpa using ha)
 | t::l,i,w,hw,ha,hp=>by
  simp only [List.length_cons] at ha;have ht:=hp t (by simp);have hv:z04 t=true:=by unfold plB at ht;exact (Bool.and_eq_true_iff.1 ht).1
  have next:=zs2 hr l (i+1) (some (if t.k=0∨t.k=2 then 1 else 0,(i:Int))) (fun x hx=>by
   injection hx with hx
   subst hx;exact ⟨by show (if t.k=0∨t.k=2 then (1:Int) else 0)=0∨(if t.k=0∨t.k=2 then (1:Int) else 0)=1;split<;>omega,by show (i:Int)<((i+1:Nat):Int);omega⟩) (by omega) (fun u hu=>hp u (List.mem_cons_of_mem _ hu))
  rw [argI,List.cons_append,vIs,vCs,show (i:Int)+1=((i+1:Nat):Int) by omega,next,Bool.and_true,Bool.and_true]
  have hwas:wasB w (i:Int)=true:=by
   match w,hw with
   | none,_=>rfl
   | some x,hw=>
    obtain ⟨h1,h2⟩:=hw x rfl;show ((x.1==0||x.1==1)&&decide (x.2<(i:Int)))=true;rw [decide_eq_true h2];rcases h1 with e | e<;>rw [e]<;>rfl
  have hi:decide (0≤(i:Int)∧(i:Int)<ar)=true:=decide_eq_true ⟨by omega,by omega⟩;by_cases hk:t.k=0∨t.k=2
  · rw [if_pos hk];refine fld_arg1.trans ?_;rw [hv,Bool.or_true,hi,hwas,ht];rcases hk with e | e<;>rw [e]<;>rfl
  · rw [if_neg hk];refine fld_arg0.trans ?_;rw [hv,Bool.or_true,hi,hwas,ht];rfl
theorem zs7:∀ (l:List Tm) (i p:Nat),Wy (argI i l) p false
 | [],i,p=>Wy.nil p false
 | t::l,i,p=>by
  rw [argI];refine Wy.cons (Wy.plain ?_ fun pt=> ?_) (zs7 l (i+1) (p+1))
  · show (if t.k=0∨t.k=2 then (1:Int) else 0)≠3∧(if t.k=0∨t.k=2 then (1:Int) else 0)≠4∧(if t.k=0∨t.k=2 then (1:Int) else 0)≠8∧(if t.k=0∨t.k=2 then (1:Int) else 0)≠9∧(if t.k=0∨t.k=2 then (1:Int) else 0)≠10
    split<;>omega
  · show aftP (if t.k=0∨t.k=2 then (1:Int) else 0) pt=pt
    split<;>rfl
theorem zrn (l:List Tm)(i:Nat):z3x (argI i l)≠3:=by
 rcases List.eq_nil_or_concat l with rfl | ⟨a,t,rfl⟩
 · show (0:Int)≠3;omega
 · rw [List.concat_eq_append,zb,z0s];show (if t.k=0∨t.k=2 then (1:Int) else 0)≠3
   split<;>omega
theorem zri (l:List In1):zgm (finI l)=true:=by
 unfold finI;split
 · rename_i h;rcases List.eq_nil_or_concat l with rfl | ⟨a,x,rfl⟩
   · rw [zpe] at h;omega
   · rw [List.concat_eq_append,z0s] at h;unfold zgm;rw [List.concat_eq_append,List.getLast?_append];show (x.k==3||x.k==4||x.k==8)=true;rw [h];rfl
 · unfold zgm;rw [List.getLast?_append];rfl
theorem code_v {nm:List UInt8} {ar fr vs sl:Int} {args:List Tm} {body:List In1} (hn:nmB nm=true) (ha:ar=(args.length:Int)) (h1:ar≤4096) (h2:0≤fr) (h3:0≤vs) (h4:fr+vs≤sl) (h5:sl≤4096) (hp:∀ t∈args,plB sl t=true)
  (hb:∀ N:Nat,args.length+body.length≤N→(args.length+body.length<N∨z3x body=3)→BIs (fr+vs) sl (N:Int) (args.length:Int) body∧Wy body args.length true):vC (.mk nm ar fr vs sl (finI (argI 0 args++body)))=true:=by
 have hlen:(argI 0 args++body).length=args.length+body.length:=by rw [List.length_append,z42]
 have hcnt:cntB ar fr vs sl=true:=decide_eq_true (by omega);rw [vC,hn,hcnt,zri,Bool.true_and,Bool.true_and,Bool.true_and,Bool.and_eq_true];by_cases hk:z3x (argI 0 args++body)=3
 · have hbn:body ≠ []:=fun e=>by rw [e,List.append_nil] at hk;exact zrn args 0 hk
   rw [z1r _ _ hbn] at hk;obtain ⟨b1,b2⟩:=hb (args.length+body.length) (Nat.le_refl _) (.inr hk);unfold finI;rw [if_pos (by rw [z1r _ _ hbn];exact hk),hlen];refine ⟨?_, ?_⟩
   · exact zs2 (fun w i e=>zji body i w (by rw [e,ha];exact b1)) args 0 none (fun x hx=>by cases hx) (by omega) hp
   · unfold zgd;rw [hlen];have hw:=Wy.app (zs7 args 0 0) (by rw [z42,Nat.zero_add];exact b2);have hg:=zqn (List.replicate (args.length+body.length) (false,(0:Int),(0:Int))) 0 (true,0,0) (by rw [List.length_replicate];have:=List.length_pos_iff.2 hbn;omega);obtain ⟨l',e,_⟩:=hw ((List.replicate (args.length+body.length) (false,(0:Int),(0:Int))).set 0 (true,0,0)) (0,0) [] (Int.le_refl 0) (Int.le_refl 0) (fun _=>rfl) (by rw [hlen,List.length_set,List.length_replicate];omega) (.inr (by rw [z1r _ _ hbn];exact hk)) (.inr hg.1) (fun q q1 q2=>by rw [hg.2 q (by omega)];simp [gp,List.getD,List.getElem?_replicate];split<;>rfl) (fun _=>stp_end (by rw [List.length_set,List.length_replicate,hlen];omega));rw [List.append_nil] at e;have e0:(((0:Nat):Int))=0:=rfl;rw [e0] at e;rw [e,z37]
 · obtain ⟨b1,b2⟩:=hb (args.length+body.length+1) (by omega) (.inl (by omega));unfold finI;rw [if_neg hk];have hlen2:(argI 0 args++body++ [mkI 4 0]).length=args.length+body.length+1:=by rw [List.length_append,hlen];rfl
   refine ⟨?_, ?_⟩
   · rw [hlen2,List.append_assoc];exact zs2 (fun w i e=>zji _ i w (by rw [e,ha];exact BIs.app _ _ _ b1 ⟨z7v 4 (.inl rfl),trivial⟩)) args 0 none (fun x hx=>by cases hx) (by omega) hp
   · unfold zgd;rw [hlen2];have hw:=Wy.app (zs7 args 0 0) (by rw [z42,Nat.zero_add];exact b2);have hg:=zqn (List.replicate (args.length+body.length+1) (false,(0:Int),(0:Int))) 0 (true,0,0) (by rw [List.length_replicate];omega)
     obtain ⟨l',e,n',o',s'⟩:=hw ((List.replicate (args.length+body.length+1) (false,(0:Int),(0:Int))).set 0 (true,0,0)) (0,0) [mkI 4 0] (Int.le_refl 0) (Int.le_refl 0) (fun _=>rfl) (by rw [hlen,List.length_set,List.length_replicate];omega) (.inl (by rw [hlen,List.length_set,List.length_replicate];omega)) (.inr hg.1) (fun q q1 q2=>by rw [hg.2 q (by omega)];simp [gp,List.getD,List.getElem?_replicate];split<;>rfl) (fun hne=>by
      left;rw [hlen,Nat.zero_add];have:0<args.length+body.length:=by rw [←hlen];exact List.length_pos_iff.2 hne
      rw [hg.2 _ (by omega)];simp [gp,List.getD,List.getElem?_replicate])
     have e0:(((0:Nat):Int))=0:=rfl;rw [e0] at e;rw [e,z3v,zht (k:=(mkI 4 0).k) (a:=(mkI 4 0).a) (.inr rfl) s'];show z37 _ _ []=true;rw [z37]
end Go.AM

set_option maxRecDepth 100000
open Go Go.Proofs
namespace Go.AM
theorem pk {k:Int}(h:k=2∨k=5∨k=6∨k=7∨11≤k):k≠3∧k≠4∧k≠8∧k≠9∧k≠10:=by omega
theorem or_last {r:Rs}{f:Int→Nat→Rs}{p:Nat}(h:∀ s q,z3x (f s q).2≠3):z3x (bodO r f p).2≠3:=by
 unfold bodO;generalize hb:(f r.1 (p+1+r.2.length+1))=b;show z3x (mkI 9 _::(r.2++mkI 10 _::b.2))≠3;by_cases hn:b.2=[]
 · rw [hn,←List.cons_append,z0s];show (10:Int)≠3;omega
 · rw [←List.cons_append,show ∀ (X:List In1) (y:In1) (Y:List In1),X++y::Y=(X++ [y])++Y from fun X y Y=>by simp,z1r _ _ hn,←hb];exact h _ _
def BV (n:Nat):Prop:=∀ (last:Bool) (t:Tm) (s:Int) (p N:Nat) (fv sl:Int),wt t≤n→GG (n*n+n) t→cl 0 s t 0→0≤fv→fv≤s→s+wt t≤4096→(bodC n last t s p).1≤sl→p+(bodC n last t s p).2.length≤N→(p+(bodC n last t s p).2.length<N∨z3x (bodC n last t s p).2=3)→
 BIs fv sl N p (bodC n last t s p).2∧Wy (bodC n last t s p).2 p last
theorem comp_v {n:Nat}(hn:n≤10000)(hB:BV n){c:Cl}{fr:Int}(hk:OKc n c fr)(hat:(z00 c.2.1).1.k=0∧logB (z00 c.2.1).1.s=false)(k1:cl c.1 fr c.2.1 0)(k2:cl c.1 fr c.2.2 0)(w1:wt c.2.1≤4096)(w2:fr+c.1+wt c.2.2≤4096):vC (z34 (bodC n) c fr)=true:=by
 obtain ⟨⟨v0,v1⟩,⟨f0,f1⟩,hT,hG,hw⟩:=hk;have hsq:=sq_b hn;have hR:VR (z08 c.1.toNat fr):=z6n f0 (by omega) (by omega);obtain ⟨t1,u1⟩:=TG.open (by omega) _ hR.2 _ hT;obtain ⟨g1,u2⟩:=GG.open (by omega) hR.2 hG;have hm:∀ v∈z08 c.1.toNat fr,v<fr+c.1:=fun v hv=>by have:=zbm _ _ v hv;omega
 have hl:((z08 c.1.toNat fr).length:Int)=c.1:=by rw [z4z];omega
 have o1:cl 0 (fr+c.1) (z0p (z08 c.1.toNat fr) c.2.1) 0:=zoy (n:=fr) (by omega) hm hT.1 (by rw [hl];exact k1);have o2:cl 0 (fr+c.1) (z0p (z08 c.1.toNat fr) c.2.2) 0:=zoy (n:=fr) (by omega) hm hG.1.1 (by rw [hl];exact k2);have hh:=ziq hT.1 t1.1 hat.1;have hs:=(z4k (z0p (z08 c.1.toNat fr) c.2.1)).2.2;have hz:=za6 (z0p (z08 c.1.toNat fr) c.2.1)
 have hnm:nmB (z00 (z0p (z08 c.1.toNat fr) c.2.1)).1.s=true:=by
  rw [hh];unfold nmB;rw [znc hT.1 hat.1,hat.2];rfl
 have bb:=z40 n hn true (z0p (z08 c.1.toNat fr) c.2.2) (fr+c.1) (z00 (z0p (z08 c.1.toNat fr) c.2.1)).2.length (by omega) g1 (by omega) (by omega);refine code_v hnm rfl (by omega) f0 v0 bb.2.1 (by omega) (fun u hu=>zdi (z07 hu) (z4o o1 u hu) bb.2.1) (fun N hN hN2=> ?_);exact hB true _ _ _ N (fr+c.1) _ (by omega) g1 o2 (by omega) (Int.le_refl _) (by omega) (Int.le_refl _) hN hN2
theorem num_name {s:List UInt8}(h:numB s=true):logB s=true∧z4i s=2:=by
 rw [z3i] at h;simp only [Bool.or_eq_true,beq_iff_eq] at h;rcases h with e | e | e | e | e<;>subst e<;>decide
theorem not_log {s:List UInt8}(h1:¬s=zc6)(h2:¬s=zk4)(h3:¬s=nCut)(h4:¬s=nAnd)(h5:¬s=nOr)(h6:¬s=nPi)(h7:¬s=nSig)(h8:¬s=nImp)(h9:¬s=nEq)(h10:numB s=false)(h11:¬s=nIf):logB s=false:=by
 rw [z3i] at h10;simp only [Bool.or_eq_false_iff,beq_eq_false_iff_ne] at h10;unfold logB logs;simp only [List.contains_cons,List.contains_nil,Bool.or_false,Bool.or_eq_false_iff,beq_eq_false_iff_ne];exact ⟨h11,h4,h5,h8,h9,h10.1,h10.2.1,h10.2.2.1,h10.2.2.2.1,h10.2.2.2.2,h1,h2,h3,h6,h7⟩
theorem gg_noIf {M:Nat}{t:Tm}(h:GG (M+1) t):¬(z00 t).1.s=nIf:=fun e=>by
 have he:=h.head;have hn:=ze6 (by omega) he (by rw [e];decide);have hg:=h.2.2;rw [z06,if_neg (fun p=>p he),if_pos (hn.trans e)] at hg;cases hg
theorem zsy {M:Nat}{t:Tm}(h:GG (M+1) t)(hl:logB (z00 t).1.s=true):(z00 t).1.k=0∧((z00 t).2.length:Int)=z4i (z00 t).1.s:=by
 obtain ⟨h0,⟨_,q,_⟩ | ⟨_,_,_,q⟩⟩:=z4m (flex:=133) (by omega) h.head
 · rw [q] at hl;cases hl
 · exact ⟨h0,q⟩
theorem gg_k0 {M:Nat}{t:Tm}(h:GG (M+1) t):(z00 t).1.k=0:=(z4m (flex:=133) (by omega) h.head).1
theorem head_le (t:Tm):wt (z00 t).1≤wt t:=by
 unfold z00;split
 · rename_i q;obtain ⟨k,s,n,l⟩:=t;have h6:k=6:=q.1;subst h6;obtain ⟨y,z,w,rfl,_,_⟩:=okB6 (z0b _ q.2) rfl;show ms wb y≤ms wb (.mk 6 s n (y::z::w));rw [ms,mss];omega
 · exact Nat.le_refl _
theorem bv_step {n:Nat}(hn:n+1≤10000)(hB:BV n):BV (n+1):=by
 intro last t s p N fv sl hw h hcl f0 f1 hS hsl hN hN2;have hsq:=sq_b (n:=n) (by omega);have hmul:(n+1)*(n+1)=n*n+2*n+1:=by rw [Nat.mul_add,Nat.add_mul];omega
 have hg0:=h;rw [sq_s] at h;have hpos:=z1e t;have h0:0≤s:=by omega
 rw [bodC] at hsl hN hN2 ⊢;have one:∀ x:In1,BI fv sl N p x→BIs fv sl N p [x]:=fun x hx=>⟨hx,trivial⟩;by_cases c1:(z00 t).1.s=zc6
 · rw [if_pos c1];exact ⟨trivial,Wy.nil p last⟩
 rw [if_neg c1] at hsl hN hN2 ⊢;by_cases c2:(z00 t).1.s=zk4
 · rw [if_pos c2];exact ⟨one _ (z7v 8 (by omega)),Wy.fail rfl⟩
 rw [if_neg c2] at hsl hN hN2 ⊢;by_cases c3:(z00 t).1.s=nCut
 · rw [if_pos c3];exact ⟨one _ (z7v 7 (by omega)),Wy.plain (x:=mkI 7 0) (pk (k:=7) (by omega)) fun _=>rfl⟩
 rw [if_neg c3] at hsl hN hN2 ⊢;by_cases c4:(z00 t).1.s=nAnd
 · rw [if_pos c4] at hsl hN hN2 ⊢;obtain ⟨a,c,e,ga,gc,hs⟩:=h.two (.inl c4);have ga:=ga.le (m:=n*n+n) (by omega) (by omega) (by omega);have gc:=gc.le (m:=n*n+n) (by omega) (by omega) (by omega);have ka:=z4o hcl a (by rw [e];simp);have kc:=z4o hcl c (by rw [e];simp);rw [e,show at0 [a,c]=a from rfl,show at1 [a,c]=c from rfl] at hsl hN hN2 ⊢;have b1:=z40 n (by omega) false a s p (by omega) ga h0 (by omega);have nl:=z3d n a s p;have i1:=hB false a s p N fv sl (by omega) ga ka f0 f1 (by omega);generalize bodC n false a s p=r at*;have b2:=z40 n (by omega) last c r.1 (p+r.2.length) (by omega) gc (by omega) (by omega);have i2:=hB last c r.1 (p+r.2.length) N fv sl (by omega) gc (z93 (by omega) c 0 0 (by omega) kc) f0 (by omega) (by omega);unfold bodA at hsl hN hN2 ⊢;generalize bodC n last c r.1 (p+r.2.length)=q at*;have hsl:q.1≤sl:=hsl;have hN:p+(r.2++q.2).length≤N:=hN;have hN2:p+(r.2++q.2).length<N∨z3x (r.2++q.2)=3:=hN2;rw [List.length_append] at hN hN2
   have hlt:p+r.2.length<N∨z3x r.2=3:=by
    by_cases hq:q.2=[]
    · rw [hq,List.append_nil] at hN2;simpa using hN2
    · have:=List.length_pos_iff.2 hq;omega
   have hlt:p+r.2.length<N:=hlt.resolve_right nl;have j1:=i1 (by omega) (by omega) (.inl hlt)
   have j2:=i2 hsl (by omega) (by
    by_cases hq:q.2=[]
    · rw [hq];exact .inl (by simpa using hlt)
    · rw [z1r _ _ hq] at hN2;rw [Nat.add_assoc];exact hN2)
   exact ⟨BIs.app _ _ _ j1.1 (by rw [show (p:Int)+(r.2.length:Int)=((p+r.2.length:Nat):Int) by omega];exact j2.1),Wy.app j1.2 j2.2⟩
 rw [if_neg c4] at hsl hN hN2 ⊢;by_cases c5:(z00 t).1.s=nOr
 · rw [if_pos c5] at hsl hN hN2 ⊢;obtain ⟨a,c,e,ga,gc,hs⟩:=h.two (.inr c5);have ga:=ga.le (m:=n*n+n) (by omega) (by omega) (by omega);have gc:=gc.le (m:=n*n+n) (by omega) (by omega) (by omega);have ka:=z4o hcl a (by rw [e];simp);have kc:=z4o hcl c (by rw [e];simp);rw [e,show at0 [a,c]=a from rfl,show at1 [a,c]=c from rfl] at hsl hN hN2 ⊢;have hN2:=hN2.resolve_right (or_last fun s q=>z3d n c s q);have b1:=z40 n (by omega) false a s (p+1) (by omega) ga h0 (by omega);have i1:=hB false a s (p+1) N fv sl (by omega) ga ka f0 f1 (by omega);generalize bodC n false a s (p+1)=r at*;have b2:=z40 n (by omega) false c r.1 (p+1+r.2.length+1) (by omega) gc (by omega) (by omega);have i2:=hB false c r.1 (p+1+r.2.length+1) N fv sl (by omega) gc (z93 (by omega) c 0 0 (by omega) kc) f0 (by omega) (by omega);have nl:=z3d n c r.1 (p+1+r.2.length+1);unfold bodO at hsl hN hN2 ⊢;generalize bodC n false c r.1 (p+1+r.2.length+1)=q at*;have hsl:q.1≤sl:=hsl;simp only [List.length_cons,List.length_append] at hN hN2;have j1:=i1 (by omega) (by omega) (.inl (by omega));have j2:=i2 hsl (by omega) (.inl (by omega));refine ⟨⟨zor 9 (.inl rfl) (by omega) (by omega),BIs.app _ _ _ (by rw [show (p:Int)+1=((p+1:Nat):Int) by omega];exact j1.1) ⟨zor 10 (.inr rfl) (by omega) (by omega), ?_⟩⟩,Wy.or rfl rfl j1.2 j2.2 nl⟩;rw [show (p:Int)+1+(r.2.length:Int)+1=((p+1+r.2.length+1:Nat):Int) by omega];exact j2.1
 rw [if_neg c5] at hsl hN hN2 ⊢;by_cases c6:(z00 t).1.s=nPi
 · rw [if_pos c6] at hsl hN hN2 ⊢;obtain ⟨a,e,ta,ga,hs⟩:=h.one (by omega) (.inl c6);have ka:=z4o hcl a (by rw [e];simp);rw [e,show at0 [a]=a from rfl] at hsl hN hN2 ⊢;have w2:=z5p s (z0d a);have g2:=(ga.suV (v:=s) (by omega) h0 (by omega)).le (m:=n*n+n) (by omega) (by omega) (by omega);have kb:cl 0 (s+1) (suT 0 (vN4 s) (z0d a) 0) 0:=cl_suV (v:=0) (n:=s) (Int.le_refl 0) (by omega) (by omega) ga.1.1 (zj0 (Int.le_refl 0) ta.1 ka);have b1:=z40 n (by omega) false (suT 0 (vN4 s) (z0d a) 0) (s+1) (p+1) (by omega) g2 (by omega) (by omega);have i1:=hB false (suT 0 (vN4 s) (z0d a) 0) (s+1) (p+1) N fv sl (by omega) g2 kb f0 (by omega) (by omega);generalize bodC n false (suT 0 (vN4 s) (z0d a) 0) (s+1) (p+1)=r at*;unfold bodP at hsl hN hN2 ⊢;have hsl:r.1≤sl:=hsl;simp only [List.length_cons,List.length_append,List.length_nil] at hN;have j1:=i1 hsl (by omega) (.inl (by omega));refine ⟨⟨zud 11 (.inl rfl) f1 (by omega),BIs.app _ _ _ (by rw [show (p:Int)+1=((p+1:Nat):Int) by omega];exact j1.1) ⟨z7v 12 (by omega),trivial⟩⟩, ?_⟩;refine Wy.within (x:=mkI 11 s) (y:=mkI 12 0) (up:=fun pt=>(pt.1+1,pt.2)) (pk (k:=11) (by omega)) (pk (k:=12) (by omega)) (fun _=>rfl) (fun pt=> ?_) (fun pt q1 q2=>⟨by show 0≤pt.1+1;omega,q2⟩) j1.2;show (pt.1+1-1,pt.2)=pt;rw [show pt.1+1-1=pt.1 by omega]
 rw [if_neg c6] at hsl hN hN2 ⊢;by_cases c7:(z00 t).1.s=nSig
 · rw [if_pos c7] at hsl hN hN2 ⊢;obtain ⟨a,e,ta,ga,hs⟩:=h.one (by omega) (.inr c7);have ka:=z4o hcl a (by rw [e];simp);rw [e,show at0 [a]=a from rfl] at hsl hN hN2 ⊢;have w2:=z5p s (z0d a);have g2:=(ga.suV (v:=s) (by omega) h0 (by omega)).le (m:=n*n+n) (by omega) (by omega) (by omega);have kb:cl 0 (s+1) (suT 0 (vN4 s) (z0d a) 0) 0:=cl_suV (v:=0) (n:=s) (Int.le_refl 0) (by omega) (by omega) ga.1.1 (zj0 (Int.le_refl 0) ta.1 ka);have b1:=z40 n (by omega) last (suT 0 (vN4 s) (z0d a) 0) (s+1) (p+1) (by omega) g2 (by omega) (by omega);have i1:=hB last (suT 0 (vN4 s) (z0d a) 0) (s+1) (p+1) N fv sl (by omega) g2 kb f0 (by omega) (by omega);generalize bodC n last (suT 0 (vN4 s) (z0d a) 0) (s+1) (p+1)=r at*;unfold bodS at hsl hN hN2 ⊢;have hsl:r.1≤sl:=hsl;have hN2:p+(mkI 13 s::r.2).length<N∨z3x (mkI 13 s::r.2)=3:=hN2;simp only [List.length_cons] at hN hN2
   have j1:=i1 hsl (by omega) (by
    by_cases hq:r.2=[]
    · rw [hq] at hN2 ⊢;rcases hN2 with q | q
      · exact .inl (by simpa using q)
      · exact absurd q (by rw [show [mkI 13 s]=[]++ [mkI 13 s] from rfl,z0s];show (13:Int)≠3;omega)
    · rw [show mkI 13 s::r.2=[mkI 13 s]++r.2 from rfl,z1r _ _ hq] at hN2;rcases hN2 with q | q
      · exact .inl (by omega)
      · exact .inr q)
   exact ⟨⟨zud 13 (.inr rfl) f1 (by omega),by rw [show (p:Int)+1=((p+1:Nat):Int) by omega];exact j1.1⟩,Wy.cons (Wy.plain (x:=mkI 13 s) (pk (k:=13) (by omega)) fun _=>rfl) j1.2⟩
 rw [if_neg c7] at hsl hN hN2 ⊢;by_cases c8:(z00 t).1.s=nImp
 · rw [if_pos c8] at hsl hN hN2 ⊢;obtain ⟨a,c,e,ta,wa,hc,gc,hs,hkk⟩:=zey hn hw hg0 c8 s h0 (by omega);have ka:=z4o hcl a (by rw [e];simp);have kc:=z4o hcl c (by rw [e];simp);rw [e,show at0 [a,c]=a from rfl,show at1 [a,c]=c from rfl] at hsl hN hN2 ⊢;have hV:z1h n true a=(clsF false n true 0 [] a).2:=by unfold z1h;rw [if_pos hc]
   have b1:=z40 n (by omega) false c s (p+1) (by omega) gc h0 (by omega);have i1:=hB false c s (p+1) N fv sl (by omega) gc kc f0 f1 (by omega);generalize bodC n false c s (p+1)=r at*
   have hcs:vCs sl ((z1h n true a).map fun c=>z34 (bodC n) c s)=true:=by
    have hsl':r.1≤sl:=hsl;rw [zjb,List.all_eq_true];intro d hd;obtain ⟨x,hx,rfl⟩:=List.mem_map.1 hd;rw [hV] at hx;obtain ⟨o1,⟨o2,_,o3,_⟩,_⟩:=hkk x hx;obtain ⟨r0,r1,r2,L',r3,r4,r5⟩:=zc9 true s n (by omega) 0 [] a ta (Int.le_refl 0) ka (fun g hg=>by cases hg) hc x hx
    have hwb:x.1+wt x.2.2≤wt a:=by
     rw [r3];rw [gms] at r4;cases L' with
     | nil=>
      have h4:wt z5v=4:=rfl;have:=zrd o3.1;have hle:=head_le x.2.1;show x.1+(wt z5v:Int)≤_;omega
     | cons y L'=>
      have:=zfz wb (y::L') (by simp);unfold wt at*;omega
    have:=comp_v (by omega) hB o1 o3 r1 (by rw [r3];exact cl_fold L' r5) (by omega) (by omega);rw [this,Bool.and_true];exact decide_eq_true (show s≤sl by omega)
   unfold bodI at hsl hN hN2 ⊢;have hsl:r.1≤sl:=hsl;simp only [List.length_cons,List.length_append,List.length_nil] at hN;have j1:=i1 hsl (by omega) (.inl (by omega));refine ⟨⟨bi_imp _ hcs,BIs.app _ _ _ (by rw [show (p:Int)+1=((p+1:Nat):Int) by omega];exact j1.1) ⟨z7v 15 (by omega),trivial⟩⟩, ?_⟩;refine Wy.within (x:= .mk 14 0 noT0 [] _) (y:=mkI 15 0) (up:=fun pt=>(pt.1,pt.2+1)) (pk (k:=14) (by omega)) (pk (k:=15) (by omega)) (fun _=>rfl) (fun pt=> ?_) (fun pt q1 q2=>⟨q1,by show 0≤pt.2+1;omega⟩) j1.2;show (pt.1,pt.2+1-1)=pt;rw [show pt.2+1-1=pt.2 by omega]
 rw [if_neg c8] at hsl hN hN2 ⊢;by_cases c9:(z00 t).1.s=nEq
 · rw [if_pos c9] at hsl hN hN2 ⊢;have hsl:s≤sl:=hsl;have hlen:=(zsy h (by rw [c9];decide)).2;rw [c9] at hlen;obtain ⟨a,c,e⟩:=zm1 (show ((z00 t).2.length:Int)=2 from hlen);have ma:a∈(z00 t).2:=by rw [e];simp
   have mc:c∈(z00 t).2:=by rw [e];simp
   have x1:=z07 ma;have x2:=z07 mc;have y1:=z4o hcl a ma;have y2:=z4o hcl c mc;rw [e];exact ⟨one _ (bi_eq x1 x2 y1 y2 hsl),Wy.plain (x:= .mk 5 0 noT0 [a,c] []) (pk (k:=5) (by omega)) fun _=>rfl⟩
 rw [if_neg c9] at hsl hN hN2 ⊢;by_cases c10:numB (z00 t).1.s=true
 · rw [if_pos c10] at hsl hN hN2 ⊢;have hsl:s≤sl:=hsl;obtain ⟨q1,q2⟩:=num_name c10;obtain ⟨a0,a1⟩:=zsy h q1;rw [q2] at a1
   have hi:zku t=true:=by
    unfold zku;rw [a0,c10,show (z00 t).2.length=2 by omega];rfl
   exact ⟨one _ (bi_num h.1.1 hcl hsl hi),Wy.plain (x:= .mk 6 0 t [] []) (pk (k:=6) (by omega)) fun _=>rfl⟩
 rw [if_neg c10] at hsl hN hN2 ⊢;have hsl:s≤sl:=hsl
 have hat:z7f t=true:=by
  unfold z7f;rw [gg_k0 h,not_log c1 c2 c3 c4 c5 c6 c7 c8 c9 (by simpa using c10) (gg_noIf h)];rfl
 cases last with
 | true=>exact ⟨one _ (zrr 3 (.inr rfl) h.1.1 hcl hsl hat),Wy.last rfl⟩
 | false=>exact ⟨one _ (zrr 2 (.inl rfl) h.1.1 hcl hsl hat),Wy.plain (x:= .mk 2 0 t [] []) (pk (k:=2) (by omega)) fun _=>rfl⟩
theorem bv_all:∀ n:Nat,n≤10000→BV n
 | 0,_=>fun last t s p N fv sl hw=>by have:=z1e t;omega
 | n+1,hn=>bv_step hn (bv_all n (by omega))
end Go.AM

set_option maxRecDepth 100000
open Go Go.Proofs
namespace Go.AM
theorem zny {c:Cl}(h1:TS c.2.1)(h2:TS c.2.2)(w1:wt c.2.1≤320)(w2:wt c.2.2≤320)(hv:c.1≤3000)(h:z3u N0 [c] z5v 0=true):vC (z7n N0 c)=true:=by
 obtain ⟨hk,hc⟩:=za9 h1 h2 h;obtain ⟨⟨v0,_⟩,⟨a1,a2,a3⟩,⟨b1,b2,b3⟩,hat,_⟩:=(z91 _ _).1 hc;have k1:=(zmd (n:=0) v0 c.2.1 0 (z0b _ a1)).2 ⟨a2,a3⟩;have k2:=(zmd (n:=0) v0 c.2.2 0 (z0b _ b1)).2 ⟨b2,b3⟩;exact comp_v (by decide) (bv_all N0 (by decide)) hk hat k1 k2 (by omega) (by omega)
theorem zra {c:Cl}(h1:TS c.2.1)(h2:TS c.2.2)(h:z3u N0 [c] z5v 0=true):
  (z7n N0 c).nm=(z00 c.2.1).1.s∧(z7n N0 c).ar=((z00 c.2.1).2.length:Int)∧∃ xs body,(z00 c.2.1).2.length=xs.length∧(z7n N0 c).ins=argI 0 xs++body:=by
 obtain ⟨hk,hc⟩:=za9 h1 h2 h;obtain ⟨⟨v0,v1⟩,⟨a1,_⟩,_,hat,_⟩:=(z91 _ _).1 hc;have hR:VR (z08 c.1.toNat 0):=z6n (Int.le_refl 0) (by omega) (by omega);obtain ⟨t1,_⟩:=TG.open (by decide) _ hR.2 _ hk.2.2.1;have hh:=ziq a1 t1.1 hat.1;have hs:=zaa (zk8 (z08 c.1.toNat 0) c.2.1) t1.1 a1;have hl:=zd7 hs.2;refine ⟨by show (z00 (z0p (z08 c.1.toNat 0) c.2.1)).1.s=_;rw [hh],by show ((z00 (z0p (z08 c.1.toNat 0) c.2.1)).2.length:Int)=_;rw [hl],(z00 (z0p (z08 c.1.toNat 0) c.2.1)).2, ?_⟩;show ∃ body,_∧finI (argI 0 _++_)=_;unfold finI;split
 · exact ⟨_,hl.symm,rfl⟩
 · exact ⟨_,hl.symm,List.append_assoc ..⟩
theorem zn5:∀ (l:List Tm) (i j:Nat),j<l.length→∃ k t,(argI i l)[j]? =some (.mk k (i+j:Nat) t [] [])∧(k=0∨k=1)
 | t::l,i,0,_=>by
  rw [argI];exact ⟨_,t,rfl,by split<;>omega⟩
 | t::l,i,j+1,h=>by
  rw [argI];obtain ⟨k,u,e,hk⟩:=zn5 l (i+1) j (by simpa using h);exact ⟨k,u,by rw [List.getElem?_cons_succ,e,show i+1+j=i+(j+1) by omega],hk⟩
theorem ztr (c:Cd)(xs:List Tm)(hx:xs.length≤1000000)(hl:xs.length≤c.ins.length)(hi:∀ j,j<xs.length→∃ k t,c.ins[j]? =some (.mk k (j:Nat) t [] [])∧(k=0∨k=1)):∀ (d i:Nat),i+d=xs.length→
  RPt Tryz.prog 4 0 (cb true) [] 1 ⟨[(3,cb true),(5, .c (.a (.ep 0 6 0 0))),(10,aL xs),(11,ci i)],[(0,obC c)],1⟩
 | 0,i,h=>by
  refine RPt.vc hP sh lv4 (Eq.mpr (v4_1a ..) ?_);exact ⟨rfl,br_f (by rw [z03];simp;omega) (z05 rfl)⟩
 | d+1,i,h=>by
  have ih:=ztr c xs hx hl hi d (i+1) (by omega);obtain ⟨k,t,e,hk⟩:=hi i (by omega)
  have eg:List.getD (FIs c.ins) (Int.toNat (i:Int)) []=FI (.mk k (i:Nat) t [] []):=by
   rw [show Int.toNat (i:Int)=i by omega,z5m,List.getD_eq_getElem?_getD,List.getElem?_map,e];rfl
  have need:=el8 c.ins (i:Int) (by omega) (by omega) (.mk k (i:Nat) t [] []);refine RPt.vc hP sh lv4 (Eq.mpr (v4_1a ..) ?_);rw [eg,w64 (x:=(i:Int)+1) (by omega) (by omega)];simp only [FI0,FI1,FI2,FI3,FI4,FI5,FI6,FI7]
  have next:RPt Tryz.prog 4 0 (cb true) [] 1 ⟨[(3,cb true),(5, .c (.a (.ep 0 6 0 0))),(10,aL xs),(11,ci ((i:Int)+1))],[(0,obC c)],1⟩:=by
   have:=ih;rw [show (((i+1:Nat):Int))=(i:Int)+1 by omega] at this;exact this
  refine ⟨rfl,br_t (by rw [z03];exact decide_eq_true (by omega)) ⟨need,br_f (by show ((i:Int) !=i)=false;simp) ⟨need,z02 (fun q=>⟨need,br_f ?_ next⟩) (fun _=>next)⟩⟩⟩;have q:(k !=0)=true:=q;have q:¬k=0:=by simpa using q
  show (k !=1)=false;have:k=1:=hk.resolve_left q;rw [this];rfl
theorem c_lcval (c:Cl)(h1:c.2.1.bk≤2097152)(h2:c.2.2.bk≤2097152):AC Tryz.prog 4 [aCl c] [] (cb true) []:=by
 have z1:=Tm.sz_bk c.2.1;have z2:=Tm.sz_bk c.2.2;have ko:=c_over24 c (by simp only [B];omega) (by simp only [B];omega);refine AC.vc hP sh lv4 (Nat.le_refl _) (by simp) (by simp) (Eq.mpr (v4 ..) ?_);refine ⟨true,zrx,br_f rfl ⟨_,ko,z02 (fun _=>z05 rfl) (fun q=> ?_)⟩⟩;obtain ⟨t1,t2,_⟩:=zqi ⟨h1,h2⟩ q
 have hL:wt c.2.1≤320∧wt c.2.2≤320:=by
  unfold zbp at q;simp only [Bool.or_eq_false_iff] at q;have a1:=zel q.1;have a2:=zel q.2.1;have:=wt_sz c.2.1;have:=wt_sz c.2.2;omega
 have cr:=(c_rright N0 (by decide) [c] z5v 0 zqc.tb (by show 1≤B;simp only [B];omega) (fun d hd=>by rw [show d=c by simpa using hd];exact ⟨t1.tb,t2.tb⟩)).args (args:=[aCls [c], .agg [.a (.fz (.int .i64 0)), .a (.fz (.str zc6)), .a (.fz (.int .i64 0)), .a (.fz .N)],ci 0]) ⟨.refl _,leT z2u, .refl _,trivial⟩;refine ⟨z48 c,zh4 c t1 t2,⟨rfl,Nat.le_refl _⟩,_,cr,rfl, ?_⟩;by_cases hr:z3u N0 [c] z5v 0=true
 · by_cases hv:vC (z7n N0 c)=true
   · have e:z48 c=(z7n N0 c,0):=by unfold z48;rw [hr,zua hv]
     rw [e,hr];obtain ⟨hk,hcB⟩:=za9 t1 t2 hr;obtain ⟨_,⟨a1,_⟩,_⟩:=(z91 _ _).1 hcB;obtain ⟨zz,nn⟩:=zs5 t1 t2 hk;have kv:=zc _ zz nn;rw [hv] at kv;have ks:=z6g c.2.1 (fun _=>a1);obtain ⟨e1,e2,xs,body,e3,e4⟩:=zra t1 t2 hr;have hsz:=(z4k c.2.1).2.2;have hlen:xs.length≤(z7n N0 c).ins.length:=by rw [e4,List.length_append,z42];omega
     have loop:=ztr (z7n N0 c) (z00 c.2.1).2 (by have:=t1.tb.2.1;omega) (by omega) (fun j hj=>by
      obtain ⟨k,t,ee,hkk⟩:=zn5 xs 0 j (by omega);refine ⟨k,t, ?_,hkk⟩;rw [e4,List.getElem?_append_left (by rw [z42];omega),ee,Nat.zero_add]) (z00 c.2.1).2.length 0 (by omega)
     refine br_f rfl ⟨true,kv,z00 c.2.1,ks,br_f rfl (br_f rfl (br_f ?_ ⟨rfl,br_f ?_ (br_f rfl (br_f ?_ ⟨rfl,rfl,br_f ?_ loop⟩))⟩))⟩
     · rw [e1];simp
     · rw [e2,z03];simp
     · show (c.1 !=c.1)=false;simp
     · rw [z0f,z03];exact decide_eq_false (show¬(((z7n N0 c).ins.length:Nat):Int)<(((z00 c.2.1).2.length:Nat):Int) by omega)
   · have hv':vC (z7n N0 c)=false:=by simpa using hv
     have e:z48 c=(cd0,240):=by unfold z48;rw [zl (by rw [hv',Bool.and_false])]
     rw [e,hr];refine br_t rfl (br_t rfl (br_t rfl ⟨rfl,br_t rfl (br_f rfl (z05 ?_))⟩));exact decide_eq_true (Int.not_le.1 fun hle=>hv (zny t1 t2 hL.1 hL.2 hle hr))
 · have hr':z3u N0 [c] z5v 0=false:=by simpa using hr
   have e:z48 c=(cd0,240):=by unfold z48;rw [zl (by rw [hr'];rfl)]
   rw [e,hr'];exact br_t rfl (br_t rfl (br_t rfl ⟨rfl,br_t rfl (br_t rfl (z05 rfl))⟩))
end Go.AM

namespace Go.AM
open Go.ChangeShapes Go.WideShapes Go.ChangeAt Go.RowKit
section
variable {H:Type} {enc:TypeId×Value→H} {P:Program} {w:World}
theorem open_cl {b:DataW H→Nat} {bs:List (DataW H)→Nat} (hb:Bulk b bs) {T Tt:TypeId} {g0 g1 g2 g3 f0 f1 f2:Field} (hT:TmTy P Tt g0 g1 g2 g3) (hV:ClTy P T Tt f0 f1 f2) {r:Reach} {base:Nat} {v:Value} {d:DataW H} {ps:List MemPlace}
  (hv:Value.okWide P w r base T v) (hd:DataW.Trod enc P w 0 (fun _=>true) true T v d ps):∃ c:Cl,TRep w z8z β0 (aCl c) v∧c.2.1.bk+c.2.2.bk+1≤b d∧(-9223372036854775808≤c.1∧c.1≤9223372036854775807):=by
 obtain ⟨cs,rfl,_⟩:=okWide_struct hV.str hv;obtain ⟨fuel,hf⟩:=hd;obtain ⟨c,h1,h2⟩:=rd_cl hb hT hV fuel _ _ hf;refine ⟨c.c,⟨cs.toList,by simp, ?_⟩,h2,c.1.2⟩;have h1:LRep (FRep w z8z) (FL c.c) cs.toList:=h1;exact h1.map (g:=fun x=>WV.a (.fz x)) fun c u _ h=> .a _ _ (.fz _ _ h)
end
end Go.AM

set_option maxRecDepth 100000
open Go Go.Proofs
namespace Go.Proofs.YtmeolnpbbhinjaaGreat.base
open Go.ChangeShapes Go.WideShapes Go.ChangeAt Go.RowKit Go.AM
theorem one_le {H:Type}(d:DataW H):1≤Rows.uptoBulk d:=by
 cases d with
 | lit l=>cases l<;>simp [Rows.uptoBulk]
 | _=>simp [Rows.uptoBulk]
theorem bulk {H:Type}:Bulk (H:=H) Rows.uptoBulk Rows.uptoBulkAll:=
 ⟨rfl,fun _ _=>rfl,one_le,fun es sp=>by simp only [Rows.uptoBulk];omega,fun l=>by simp [Rows.uptoBulk],fun l=>by simp [Rows.uptoBulk]⟩
theorem own:ownKnob Tryz.prog.godebug=none:=by kernel_rfl
theorem laidOut:laidOutB Tryz.prog=true:=by kernel_rfl
theorem tmTy:∃ f0 f1 f2 f3:Field,TmTy Tryz.prog 25 f0 f1 f2 f3:=
 ⟨_,_,_,_,Tryz.underlying25,Tryz.underlying22,Tryz.underlying9,Tryz.underlying3,Tryz.underlying23,rfl,rfl,rfl,rfl,by kernel_rfl,by kernel_rfl,by kernel_rfl,by kernel_rfl,by kernel_rfl⟩
theorem rec27:Tryz.prog.readableRec 27=true:=by kernel_rfl
theorem lt27:27<Tryz.prog.types.size:=of_decide_eq_true (by kernel_rfl)
theorem noGl (g:Nat)(h:Tryz.prog.globalNamed "internal/strconv.uint64pow10" =some g):False:=by
 rw [show Tryz.prog.globalNamed "internal/strconv.uint64pow10" =none by kernel_rfl] at h;cases h
theorem upto {H:Type}{l:List (DataW H)}(hk:Rows.uptoSmall H l=true):Rows.uptoBulkAll l≤1048576:=of_decide_eq_true hk
end Go.Proofs.YtmeolnpbbhinjaaGreat.base
