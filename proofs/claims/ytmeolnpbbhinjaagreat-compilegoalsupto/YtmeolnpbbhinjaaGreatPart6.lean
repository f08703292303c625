/- Contracts of the code's functions over plain values, and plain laws: part 6. No conditions. -/
import Derived.Test.YtmeolnpbbhinjaaGreatPart5
set_option maxRecDepth 100000
open Go Go.Proofs
namespace Go.AM
abbrev zkk:List UInt8:=[116,114,117,101]
abbrev nFail:List UInt8:=[102,97,105,108]
abbrev nCut:List UInt8:=[33]
abbrev nPi:List UInt8:=[112,105]
abbrev nSig:List UInt8:=[115,105,103,109,97]
abbrev nAnd:List UInt8:=[44]
abbrev nOr:List UInt8:=[59]
abbrev nImp:List UInt8:=[61,62]
abbrev nIf:List UInt8:=[58,45]
abbrev nEq:List UInt8:=[61]
def z56 (s:List UInt8):Int:=if s=zkk∨s=nFail∨s=nCut then 0 else if s=nPi∨s=nSig then 1 else 2
def z03 (t:Tm)(flex:Int):List UInt8×List Tm×Int:=
 if (z00 t).1.k=4∨(z00 t).1.k=3 then ([],[],flex) else if (z00 t).1.k≠0 then ([],[],130) else if logB (z00 t).1.s=false then ([],(z00 t).2,0)
 else if ((z00 t).2.length:Int)≠z56 (z00 t).1.s then ([],[],130) else ((z00 t).1.s,(z00 t).2,0)
abbrev noT0:Tm:= .mk 0 [] 0 []
abbrev zbi:Tm:= .mk 0 zkk 0 []
abbrev andT:Tm:= .mk 0 nAnd 0 []
abbrev bd0:Tm:= .mk 3 [] 0 []
def z0g (t:Tm):Tm:=if t.k=5 then hd t.l else z1x (shT 0 1 t 0) [bd0]
abbrev andG (b g:Tm):Tm:= .mk 6 [] 0 [andT,b,g]
def z3a:List Tm→Tm
 | []=>zbi
 | g::l=>l.foldl andG g
def z8r:List Int→List Tm→Int→Bool
 | _,[],_=>true
 | m,t::l,k=>if t.k≠3 then false else if k≤t.n then false else if m.contains t.n=true then false else z8r (m++ [t.n]) l k
def patG:Nat→Tm→Int→Bool
 | 0,_,_=>false
 | n+1,t,k=>if t.k=5 then patG n (hd t.l) (k+1) else if (z00 t).1.k=5 then false else if (z00 t).1.k=4∨((z00 t).1.k=3∧k≤(z00 t).1.n) then z8r [] (z00 t).2 k
  else (z00 t).2.all fun u=>patG n u k
abbrev at0 (l:List Tm):Tm:=l.getD 0 noT0
abbrev at1 (l:List Tm):Tm:=l.getD 1 noT0
mutual
def z07 (w:Bool):Nat→Tm→Int
 | 0,_=>0
 | n+1,t=>if (z03 t 133).2.2≠0 then (z03 t 133).2.2 else if (z03 t 133).1=nIf then 130
  else if (z03 t 133).1=nAnd∨(z03 t 133).1=nOr then (if z07 w n (at0 (z03 t 133).2.1)≠0 then z07 w n (at0 (z03 t 133).2.1) else z07 w n (at1 (z03 t 133).2.1))
  else if (z03 t 133).1=nImp then (if (clsF w n false 0 [] (at0 (z03 t 133).2.1)).1≠0 then (clsF w n false 0 [] (at0 (z03 t 133).2.1)).1 else z07 w n (at1 (z03 t 133).2.1))
  else if (z03 t 133).1=nPi∨(z03 t 133).1=nSig then z07 w n (z0g (at0 (z03 t 133).2.1)) else 0
def clsF (w:Bool):Nat→Bool→Int→List Tm→Tm→Int×List Cl
 | 0,_,_,_,_=>(0,[])
 | n+1,any,vs,L,t=>if (z03 t 131).2.2≠0 then ((z03 t 131).2.2,[]) else if (z03 t 131).1=[] then
   (if (!(any||w)&&(z03 t 131).2.1.any fun u=> !patG n u 0)=true then (132,[]) else (0,[(vs,t,z3a L)]))
  else if (z03 t 131).1=nAnd then
   (if (clsF w n any vs L (at0 (z03 t 131).2.1)).1≠0 then clsF w n any vs L (at0 (z03 t 131).2.1)
    else ((clsF w n any vs L (at1 (z03 t 131).2.1)).1,(clsF w n any vs L (at0 (z03 t 131).2.1)).2++(clsF w n any vs L (at1 (z03 t 131).2.1)).2))
  else if (z03 t 131).1=nPi then clsF w n any (vs+1) (L.map fun g=>shT 0 1 g 0) (z0g (at0 (z03 t 131).2.1))
  else if (z03 t 131).1=nImp then (if z07 w n (at0 (z03 t 131).2.1)≠0 then (z07 w n (at0 (z03 t 131).2.1),[]) else clsF w n any vs (L++ [at0 (z03 t 131).2.1]) (at1 (z03 t 131).2.1))
  else if (z03 t 131).1=nIf then (if z07 w n (at1 (z03 t 131).2.1)≠0 then (z07 w n (at1 (z03 t 131).2.1),[]) else clsF w n any vs (L++ [at1 (z03 t 131).2.1]) (at0 (z03 t 131).2.1))
  else (131,[])
end
theorem zqr (s:List UInt8):AC Tryz.prog 129 [cs s] [] (ci (z56 s)) []:=by
 refine AC.vc hP sh lv129 (Nat.le_refl _) (by simp) (by simp) (Eq.mpr (v129 ..) ?_);unfold z56
 repeat' (refine z02 (fun _=> ?_) (fun _=> ?_))
 all_goals exact z0z (by simp_all)
theorem zqy (t:Tm)(hz:t.sz≤B)(h:¬(t.k=6∧z05 t=true)):AC Tryz.prog 54 [aT t] [] (.tup [(true,cT t),(false,[.a (.fz .N)])]) []:=by
 have h1:=z4z t hz;obtain ⟨k,str,n,l⟩:=t;refine AC.vc hP shO lv54 (Nat.le_refl _) (by simp) (by simp) (Eq.mpr (v54_O k str n (FTs l) _ _) ?_);refine z02 (fun _=>⟨.refl _,rfl⟩) (fun h6=>⟨_,h1,z02 (fun _=>⟨.refl _,rfl⟩) (fun h'=>absurd ⟨?_, ?_⟩ h)⟩)
 · have h6:(k !=6)=false:=h6;show k=6;simpa using h6
 · simpa using h'
theorem ziu (t:Tm)(hz:t.sz≤B)(h6:t.k=6)(hv:z05 t=true):AC Tryz.prog 54 [aT t] [] (.tup [(true,cT (hd t.l)),(false,[.a (.osl 0 4 0 (t.l.drop 1).length)])]) [.arz 4 (FTs (t.l.drop 1))]:=by
 have h1:=z4z t hz;have hlen:=Tm.szs_length t.l;have hsz:=t.sz_eq;obtain ⟨k,str,n,l⟩:=t;have h6:k=6:=h6;subst h6;obtain ⟨x,y,r,rfl,hx6,hl⟩:=okB6 (z0e _ hv) rfl;simp only [Tm.l,List.length_cons,B] at hlen hsz hz;have hcl:=zs8.1 (FTs (y::r)) (by simp [FTs]) (by rw [z01];simp only [List.length_cons,B];omega);have e1:List.drop 1 (List.take (Int.toNat (((FTs (x::y::r)).length:Nat):Int)) (FTs (x::y::r)))=FTs (y::r):=by rw [zas];rfl
 refine AC.vc hP shO lv54 (by simp) (by simp) (by simp [isLive]) (Eq.mpr (v54_O 6 str n (FTs (x::y::r)) _ _) ?_);rw [e1];refine z02 (fun h=>by cases h) (fun _=>⟨_,h1,z02 (fun h'=>absurd hv (by simpa using h')) (fun _=> ?_)⟩);refine ⟨el0 x (y::r),rfl,⟨by omega,by rw [z01];simp only [List.length_cons];omega,Int.le_refl _⟩, .inr ⟨_,hcl, ?_,rfl⟩⟩;rw [show cE (List.getD (FTs (x::y::r)) 0 [])=cT x from cE_FT x,z01];exact .refl _
theorem z6q {t:Tm}{flex:Int}(hf:flex≠0)(h:(z03 t flex).2.2=0):(z00 t).1.k=0∧(((z03 t flex).1=[]∧logB (z00 t).1.s=false∧(z03 t flex).2.1=(z00 t).2)∨((z03 t flex).1=(z00 t).1.s∧logB (z00 t).1.s=true∧(z03 t flex).2.1=(z00 t).2∧((z00 t).2.length:Int)=z56 (z00 t).1.s)):=by
 unfold z03 at h ⊢;by_cases h1:(z00 t).1.k=4∨(z00 t).1.k=3
 · rw [if_pos h1] at h;exact absurd h hf
 · rw [if_neg h1] at h ⊢;by_cases h2:(z00 t).1.k≠0
   · rw [if_pos h2] at h;cases h
   · rw [if_neg h2] at h ⊢;refine ⟨by omega, ?_⟩;by_cases h3:logB (z00 t).1.s=false
     · rw [if_pos h3];exact .inl ⟨rfl,h3,rfl⟩
     · rw [if_neg h3] at h ⊢;by_cases h4:((z00 t).2.length:Int)≠z56 (z00 t).1.s
       · rw [if_pos h4] at h;cases h
       · rw [if_neg h4];exact .inr ⟨rfl,by simpa using h3,rfl,by omega⟩
theorem z6a (t:Tm)(flex:Int)(hz:t.sz≤B)(hl:(z03 t flex).2.1=[]):AC Tryz.prog 91 [aT t,ci flex] [] (.tup [(false,[.a (.fz (.str (z03 t flex).1))]),(false,[.a (.fz .N)]),(false,[.a (.fz (.int .i64 (z03 t flex).2.2))])]) []:=by
 have c3:=z57 (z00 t).1.s;have c4:=zqr (z00 t).1.s;refine AC.vc hP shO lv91 (Nat.le_refl _) (by simp) (by simp) (Eq.mpr (v91 t.k t.s t.n (FTs t.l) flex ..) ?_);have fin:∀ (a:List UInt8) (e:Int),z03 t flex=(a,[],e)→TV.Le (.tup [(false,[.a (.fz (.str a))]),(false,[.a (.fz .N)]),(false,[.a (.fz (.int .i64 e))])]) (.tup [(false,[.a (.fz (.str (z03 t flex).1))]),(false,[.a (.fz .N)]),(false,[.a (.fz (.int .i64 (z03 t flex).2.2))])])∧([]:List AObj)=[]:=fun a e h=>by rw [h];exact ⟨.refl _,rfl⟩
 have s4:((z00 t).1.k==4)=true→z03 t flex=([],[],flex):=fun h=>by unfold z03;rw [if_pos (.inl (by simpa using h))]
 have s3:((z00 t).1.k==3)=true→z03 t flex=([],[],flex):=fun h=>by unfold z03;rw [if_pos (.inr (by simpa using h))]
 have s0:((z00 t).1.k==4)=false→((z00 t).1.k==3)=false→((z00 t).1.k !=0)=true→z03 t flex=([],[],130):=fun h4 h3 h=>by
  have h4:¬(z00 t).1.k=4:=by simpa using h4
  have h3:¬(z00 t).1.k=3:=by simpa using h3
  unfold z03;rw [if_neg (by omega),if_pos (by simpa using h)]
 have sl:((z00 t).1.k==4)=false→((z00 t).1.k==3)=false→((z00 t).1.k !=0)=false→(!logB (z00 t).1.s)=true→z03 t flex=([],(z00 t).2,0):=fun h4 h3 h0 h=>by
  have h4:¬(z00 t).1.k=4:=by simpa using h4
  have h3:¬(z00 t).1.k=3:=by simpa using h3
  unfold z03;rw [if_neg (by omega),if_neg (by simpa using h0),if_pos (by simpa using h)]
 have sn:((z00 t).1.k==4)=false→((z00 t).1.k==3)=false→((z00 t).1.k !=0)=false→(!logB (z00 t).1.s)=false→(((z00 t).2.length:Int) !=z56 (z00 t).1.s)=true→z03 t flex=([],[],130):=fun h4 h3 h0 h hn=>by
  have h4:¬(z00 t).1.k=4:=by simpa using h4
  have h3:¬(z00 t).1.k=3:=by simpa using h3
  unfold z03;rw [if_neg (by omega),if_neg (by simpa using h0),if_neg (by simpa using h),if_pos (by simpa using hn)]
 have sy:((z00 t).1.k==4)=false→((z00 t).1.k==3)=false→((z00 t).1.k !=0)=false→(!logB (z00 t).1.s)=false→(((z00 t).2.length:Int) !=z56 (z00 t).1.s)=false→z03 t flex=((z00 t).1.s,(z00 t).2,0):=fun h4 h3 h0 h hn=>by
  have h4:¬(z00 t).1.k=4:=by simpa using h4
  have h3:¬(z00 t).1.k=3:=by simpa using h3
  unfold z03;rw [if_neg (by omega),if_neg (by simpa using h0),if_neg (by simpa using h),if_neg (by simpa using hn)]
 by_cases ht:t.k=6∧z05 t=true
 · have e:z00 t=(hd t.l,t.l.drop 1):=if_pos ht;have c1:=ziu t hz ht.1 ht.2
   have hne:(z00 t).2 ≠ []:=by
    obtain ⟨k,s,n,l⟩:=t;have h6:k=6:=ht.1;subst h6;obtain ⟨x,y,r,rfl,_,_⟩:=okB6 (z0e _ ht.2) rfl;rw [e];simp [Tm.l]
   rw [show hd t.l=(z00 t).1 by rw [e],show t.l.drop 1=(z00 t).2 by rw [e]] at c1;refine .inr ⟨z00 t,c1,z02 (fun h=>fin _ _ (s4 h)) (fun h4=>z02 (fun h=>fin _ _ (s3 h)) (fun h3=>z02 (fun h=>fin _ _ (s0 h4 h3 h)) (fun h0=>⟨_,c3,z02 (fun h=> ?_) (fun h=>⟨_,c4,z02 (fun hn=>fin _ _ (sn h4 h3 h0 h hn)) (fun hn=> ?_)⟩)⟩)))⟩
   · rw [sl h4 h3 h0 h] at hl;exact absurd hl hne
   · rw [sy h4 h3 h0 h hn] at hl;exact absurd hl hne
 · have e:z00 t=(t,[]):=if_neg ht;have c1:=zqy t hz ht;have e1:(z00 t).1=t:=by rw [e]
   have e2:(z00 t).2=[]:=by rw [e]
   rw [e1] at c3 c4 s4 s3 s0 sl sn sy;rw [e2] at sl sn sy;exact .inl ⟨t,c1,z02 (fun h=>fin _ _ (s4 h)) (fun h4=>z02 (fun h=>fin _ _ (s3 h)) (fun h3=>z02 (fun h=>fin _ _ (s0 h4 h3 h)) (fun h0=>⟨_,c3,z02 (fun h=>fin _ _ (sl h4 h3 h0 h)) (fun h=>⟨rfl,_,c4,z02 (fun hn=>fin _ _ (sn h4 h3 h0 h hn)) (fun hn=>fin _ _ (sy h4 h3 h0 h hn))⟩)⟩)))⟩
theorem z2h (t:Tm)(flex:Int)(hz:t.sz≤B)(hl:(z03 t flex).2.1 ≠ []):AC Tryz.prog 91 [aT t,ci flex] [] (.tup [(false,[.a (.fz (.str (z03 t flex).1))]),(false,[.a (.osl 0 4 0 (z03 t flex).2.1.length)]),(false,[.a (.fz (.int .i64 (z03 t flex).2.2))])]) [.arz 4 (FTs (z03 t flex).2.1)]:=by
 have c3:=z57 (z00 t).1.s;have c4:=zqr (z00 t).1.s
 have ht:t.k=6∧z05 t=true:=Classical.byContradiction fun hc=>by
  have e:z00 t=(t,[]):=if_neg hc;refine hl ?_;unfold z03;rw [e];split
  · rfl
  · split
    · rfl
    · split
      · rfl
      · split<;>rfl
 have e:z00 t=(hd t.l,t.l.drop 1):=if_pos ht;have c1:=ziu t hz ht.1 ht.2;rw [show hd t.l=(z00 t).1 by rw [e],show t.l.drop 1=(z00 t).2 by rw [e]] at c1;refine AC.vc hP shO lv91 (by simp) (by simp) (by simp [isLive]) (Eq.mpr (v91 t.k t.s t.n (FTs t.l) flex ..) ?_);refine .inr ⟨z00 t,c1,z02 (fun h=> ?_) (fun h4=>z02 (fun h=> ?_) (fun h3=>z02 (fun h=> ?_) (fun h0=>⟨_,c3,z02 (fun h=> ?_) (fun h=>⟨_,c4,z02 (fun hn=> ?_) (fun hn=> ?_)⟩)⟩)))⟩
 · exact absurd (by unfold z03;rw [if_pos (.inl (by simpa using h))]) hl
 · exact absurd (by unfold z03;rw [if_pos (.inr (by simpa using h))]) hl
 · have h4:¬(z00 t).1.k=4:=by simpa using h4
   have h3:¬(z00 t).1.k=3:=by simpa using h3
   exact absurd (by unfold z03;rw [if_neg (by omega),if_pos (by simpa using h)]) hl
 · have h4:¬(z00 t).1.k=4:=by simpa using h4
   have h3:¬(z00 t).1.k=3:=by simpa using h3
   have:z03 t flex=([],(z00 t).2,0):=by unfold z03;rw [if_neg (by omega),if_neg (by simpa using h0),if_pos (by simpa using h)]
   rw [this];exact ⟨.refl _,rfl⟩
 · have h4:¬(z00 t).1.k=4:=by simpa using h4
   have h3:¬(z00 t).1.k=3:=by simpa using h3
   exact absurd (by unfold z03;rw [if_neg (by omega),if_neg (by simpa using h0),if_neg (by simpa using h),if_pos (by simpa using hn)]) hl
 · have h4:¬(z00 t).1.k=4:=by simpa using h4
   have h3:¬(z00 t).1.k=3:=by simpa using h3
   have:z03 t flex=((z00 t).1.s,(z00 t).2,0):=by unfold z03;rw [if_neg (by omega),if_neg (by simpa using h0),if_neg (by simpa using h),if_neg (by simpa using hn)]
   rw [this];exact ⟨.refl _,rfl⟩
end Go.AM

set_option maxRecDepth 100000
open Go Go.Proofs
namespace Go.AM
theorem zkc (a b:Tm):AC Tryz.prog 159 [.c (.a (.osl 0 4 0 2))] [.arz 4 (FTs [a,b])] (.tup []) [.arz 4 (FTs [b,a])]:=by
 refine AC.vc hP sh zqb (Nat.le_refl _) (by simp [isLive]) (by simp) (Eq.mpr (v159_i1 2 (FTs [a,b]) ..) ?_);rw [w64 (by omega) (by omega)];refine RPt.vc hP sh zqb (Eq.mpr (zdz 2 0 1 (FTs [a,b]) ..) ?_);refine z02 (fun _=> ?_) (fun h=>by cases h);rw [w64 (by omega) (by omega),w64 (by omega) (by omega)];have e0:rE (List.getD (FTs [a,b]) 0 [])=FT a:=z1c a;have e1:rE (List.getD (FTs [a,b]) 1 [])=FT b:=z1c b;have t0:List.take 4 (List.drop 0 (List.getD (FTs [a,b]) 0 []))=FT a:=by cases a;rfl
 have t1:List.take 4 (List.drop 0 (List.getD (FTs [a,b]) 1 []))=FT b:=by cases b;rfl
 refine ⟨⟨by omega,by omega⟩,⟨by show 1<2;omega,e1.trans t1.symm,rfl⟩,⟨by omega,by omega⟩,⟨by show 0<2;omega,e0.trans t0.symm,rfl⟩,⟨by omega,by omega⟩,⟨by show 0<2;omega,by show (FT a).length=4;exact z3u a⟩,⟨by omega,by omega⟩,⟨by show 1<2;omega,by show (FT b).length=4;exact z3u b⟩, ?_⟩
 have e2:List.set (List.set (FTs [a,b]) (0+Int.toNat 0) (rE (List.getD (FTs [a,b]) (0+Int.toNat 1) []))) (0+Int.toNat 1) (rE (List.getD (FTs [a,b]) (0+Int.toNat 0) []))=FTs [b,a]:=by
  rw [show 0+Int.toNat 0=0 from rfl,show 0+Int.toNat 1=1 from rfl,e0,e1];rfl
 rw [e2];refine RPt.vc hP sh zqb (Eq.mpr (zdz 2 (0+1) (1-1) (FTs [b,a]) ..) ?_);exact z02 (fun h=>by cases h) (fun _=>⟨.refl _,rfl⟩)
theorem c_applyN (k:Int)(s:List UInt8)(n:Int)(args:List Tm)(h:args.length<2199023255552):AC Tryz.prog 16 [.agg [.a (.fz (.int .i64 k)), .a (.fz (.str s)), .a (.fz (.int .i64 n)), .a (.fz .N)],aL args] [] (aT (z1x (.mk k s n []) args)) []:=
 (z79 (.mk k s n []) args (by simpa [Tm.l] using h)).args ⟨leT z1m, .refl _,trivial⟩
theorem znu (k0 n0:Int)(s0:List UInt8):∀ (b a:List Tm) (t:Tm),(a++b).length≤1000000000→
  RPt Tryz.prog 157 0 (aT (b.foldl andG t)) [] 1 ⟨[(2, .c (.a (.ep 0 4 0 0))),(3, .c (.a (.ep 1 4 0 0))),(17,aL (a++b)),(18,ci (a++b).length),(19,ci a.length)],[(0, .arr 4 [[.a (.fz (.int .i64 k0)), .a (.fz (.str s0)), .a (.fz (.int .i64 n0)), .a (.fz .N)]]),(1, .arr 4 [cT t])],2⟩
 | [],a,t,h=>by
  obtain ⟨k,s,n,l⟩:=t;refine RPt.vc hP sh zrx (Eq.mpr (zs2 ..) ?_);exact z02 (fun h=>absurd (of_decide_eq_true h) (by simp)) (fun _=>⟨.refl _,rfl⟩)
 | g::b,a,t,h=>by
  have h2:=znu k0 n0 s0 b (a++ [g]) (andG t g) (by simpa using h);rw [ap,nx] at h2;have c1:=c_applyN 0 nAnd 0 [t,g] (by simp);simp only [List.length_append,List.length_cons] at h;have h4:(a.length:Int)<((a++g::b).length:Int):=by simp only [List.length_append,List.length_cons];omega
  refine RPt.vc hP sh zrx (Eq.mpr (zs2 ..) ?_);rw [w64 (by omega) (by omega)];refine z02 (fun _=>⟨⟨rfl,by omega,by rw [z01];exact h4,z1y ..⟩,⟨rfl,by omega⟩,andG t g, ?_,h2⟩) (fun h=>absurd h4 (of_decide_eq_false h));rw [z1y,midI];refine c1.args ⟨.refl _, .c _ _ (.a _ _ (.fz _ _ ?_)),trivial⟩;obtain ⟨k,s,n,l⟩:=t;exact .refl _
theorem c_kabody (nv:Int)(L:List Tm)(any:Bool)(h:L.length≤1000000000):AC Tryz.prog 157 [aAr nv L any] [] (aT (z3a L)) []:=by
 refine AC.vc hP sh zrx (Nat.le_refl _) (by simp) (by simp) (Eq.mpr (v157 ..) ?_);cases L with
 | nil=>exact ⟨rfl,z02 (fun _=>z3r (leT z1m)) (fun h=>by cases h)⟩
 | cons g L=>
  have h1:=znu 0 0 [] L [] g (by simp only [List.length_cons] at h;simpa using Nat.le_of_succ_le h);refine ⟨rfl,z02 (fun h=> ?_) (fun _=>⟨⟨rfl,by omega, ?_, ?_⟩,rfl,⟨by omega, ?_,by omega⟩,rfl, ?_⟩)⟩
  · rw [z01] at h;have:((g::L).length:Int)=0:=by simpa using h
    simp only [List.length_cons] at this;omega
  · rw [z01];simp only [List.length_cons];omega
  · exact z1c g
  · rw [z01];simp only [List.length_cons];omega
  · have e1:List.drop 1 (List.take (Int.toNat (((FTs (g::L)).length:Nat):Int)) (FTs (g::L)))=FTs L:=by rw [zas];rfl
    rw [e1,show cE (List.getD (FTs (g::L)) 0 [])=cT g from cE_FT g];have e2:(((FTs L).length:Nat):Int)=(L.length:Int):=by rw [z01]
    rw [e2];exact h1
theorem zh4 (nv:Int)(any:Bool)(k0:Int)(b0:Bool):∀ (b a:List Tm),(a++b).length≤1000000000→a ≠ []→(∀ g∈a++b,g.sz≤B∧bd M61 g)→
  RPt Tryz.prog 158 0 (aAr nv ((a++b).map fun g=>shT 0 1 g 0) any) [] 1 ⟨[(2, .c (.a (.ep 0 3 0 0))),(3, .c (.a (.ep 1 3 0 0))),(13,aL (a++b)),(14,ci (a++b).length),(15,ci a.length)],
   [(0, .arr 3 [[.a (.fz (.int .i64 k0)), .a (.fz .N), .a (.fz (.bool b0))]]),(1, .arr 3 [[.a (.fz (.int .i64 nv)), .a (.osl 2 4 0 a.length), .a (.fz (.bool any))]]),(2, .arz 4 (FTs (a.map fun g=>shT 0 1 g 0)))],3⟩
 | [],a,h,hne,hg=>by
  refine RPt.vc hP sh zky (Eq.mpr (zqd ..) ?_);refine z02 (fun h=>absurd (of_decide_eq_true h) (by simp)) (fun _=>⟨⟨⟨rfl,by rw [z01];simp⟩,trivial⟩, ?_,rfl⟩);rw [List.append_nil,List.drop_zero,List.take_of_length_le (by rw [z01];simp)];exact .refl _
 | g::b,a,h,hne,hg=>by
  have h2:=zh4 nv any k0 b0 b (a++ [g]) (by simpa using h) (by simp) (by simpa using hg);rw [ap,nx,show ((a++ [g]).map fun g=>shT 0 1 g 0)=(a.map fun g=>shT 0 1 g 0)++ [shT 0 1 g 0] by simp,z2n] at h2;have hgg:=hg g (by simp);have c1:=zcu g 0 1 hgg.1 hgg.2 (by omega) (by simp only [M61];omega) (by omega) (by simp only [M61];omega);simp only [List.length_append,List.length_cons] at h;have h4:(a.length:Int)<((a++g::b).length:Int):=by simp only [List.length_append,List.length_cons];omega
  refine RPt.vc hP sh zky (Eq.mpr (zqd ..) ?_);rw [w64 (by omega) (by omega)];refine z02 (fun _=>⟨⟨rfl,by omega,by rw [z01];exact h4,z1y ..⟩,shT 0 1 g 0,by rw [z45];exact c1,by omega,⟨by rw [z01];simp,by unfold z0d;omega⟩, ?_⟩) (fun h=>absurd h4 (of_decide_eq_false h));rw [List.take_of_length_le (by rw [z01];simp),zdy];rw [show (a++ [g]).length=a.length+1 by simp] at h2;exact h2
theorem zta (nv:Int)(L:List Tm)(any:Bool)(h:L.length≤1000000000)(h0:0≤nv)(h1:nv≤M61)(hg:∀ g∈L,g.sz≤B∧bd M61 g):AC Tryz.prog 158 [aAr nv L any] [] (aAr (nv+1) (L.map fun g=>shT 0 1 g 0) any) []:=by
 refine AC.vc hP sh zky (Nat.le_refl _) (by simp) (by simp) (Eq.mpr (v158 ..) ?_);simp only [M61] at h1;rw [w64 (by omega) (by omega)];refine ⟨rfl,RPt.vc hP sh zky (Eq.mpr (v158_1a ..) ?_)⟩;cases L with
 | nil=>exact z02 (fun h=>by cases h) (fun _=>⟨.agg _ _ rfl (fun i x y hx hy=>by
   match i with
   | 0=>simp at hx hy;subst hx;subst hy;exact .refl _
   | 1=>simp at hx hy;subst hx;subst hy;exact .a _ _ (.fz _ _ z1m)
   | 2=>simp at hx hy;subst hx;subst hy;exact .refl _
   | i+3=>simp at hx),rfl⟩)
 | cons g L=>
  have hgg:=hg g List.mem_cons_self;have c1:=zcu g 0 1 hgg.1 hgg.2 (by omega) (by simp only [M61];omega) (by omega) (by simp only [M61];omega);have h2:=zh4 (nv+1) any 0 false L [g] (by simpa using h) (by simp) (by simpa using hg);have h4:(0:Int)<(((FTs (g::L)).length:Nat):Int):=by rw [z01];simp only [List.length_cons];omega
  rw [w64 (by omega) (by omega)];refine z02 (fun _=>⟨⟨rfl,by omega,h4,z1c g⟩,shT 0 1 g 0,by rw [show aE (List.getD (FTs (g::L)) (Int.toNat 0) [])=aT g from z1o g];exact c1,by omega,by unfold z0d;omega, ?_⟩) (fun h=>absurd h4 (of_decide_eq_false h));rw [zdy,z01];exact h2
theorem zl3 (t:Tm)(hv:z05 t=true)(hz:t.sz≤B)(hb:bd M61 t):AC Tryz.prog 93 [aT t] [] (aT (z0g t)) []:=by
 have c1:=z4z t hz;have c2:=zcu t 0 1 hz hb (by omega) (by simp only [M61];omega) (by omega) (by simp only [M61];omega);have hl:(shT 0 1 t 0).l.length≤B:=by have:=Tm.szs_length (shT 0 1 t 0).l;have:=(shT 0 1 t 0).sz_eq;have:=zeh 0 1 t 0;omega
 simp only [B] at hl
 have c3:=(z79 (shT 0 1 t 0) [bd0] (by simp only [List.length_cons,List.length_nil];omega)).args (args:=[aT (shT 0 1 t 0), .c (.a (.fz (.sl false 4 [[.int .i64 3, .str [], .int .i64 0, .N]])))]) ⟨.refl _, .c _ _ (.a _ _ (.fz _ _ (zhj (l:=[bd0]) rfl (fun i r u hr hu=>by
  match i with
  | 0=>simp at hr hu;subst hr;subst hu;exact leFT z1m
  | i+1=>simp at hr)))),trivial⟩
 obtain ⟨k,s,n,l⟩:=t;refine AC.vc hP sh lv93 (Nat.le_refl _) (by simp) (by simp) (Eq.mpr (v93 ..) ?_);unfold z0g;refine ⟨_,c1,z02 (fun h=>absurd hv (by simpa using h)) (fun _=>z02 (fun h=> ?_) (fun h=>⟨_,c2,⟨rfl,by omega⟩,_,c3, ?_⟩))⟩
 · have h5:(Tm.mk k s n l).k=5:=by simpa using h
   have h5:k=5:=h5;subst h5;obtain ⟨x,rfl,_⟩:=okB5 (z0e _ hv) rfl;refine ⟨⟨rfl,by omega,by show (0:Int)<1;omega,z1c x⟩, ?_,rfl⟩;show TV.Le (aE (FT x)) _;rw [z1o,if_pos (show (Tm.mk 5 s n [x]).k=5 from rfl)];exact .refl _
 · have h5:¬(Tm.mk k s n l).k=5:=by simpa using h
   exact zjr (by rw [if_neg h5])
theorem c_ktell (c:Cl)(X:List Cl)(h:X.length≤1000000000):AC Tryz.prog 150 [aCl c, .c (.a (.ep 0 1 0 0))] [.arr 1 [[.a (.osl 1 9 0 X.length)]], .arz 9 (CLs X)] (.tup []) [.arr 1 [[.a (.osl 2 9 0 (X++ [c]).length)]], .gone, .arz 9 (CLs (X++ [c]))]:=by
 refine AC.vc hP sh lv150 (by simp) (by simp [isLive]) (by simp [isLive]) (Eq.mpr (v150 ..) ?_);refine ⟨by omega,⟨by rw [z0i];exact Nat.le_refl _,by unfold z0d;omega⟩, .refl _, ?_⟩;rw [List.take_of_length_le (by rw [z0i];exact Nat.le_refl _)];simp [CLs]
abbrev mKi:(Bool×List EK)×(Bool×List WV):=((false,[EK.int]),(false,[.a (.fz (.bool false))]))
def zaj (m:List Int):List MapZ:=m.map fun n=>((false,[.int .i64 n]),(false,[.bool true]))
theorem zb1 (n:Int):∀ (m:List Int) (i:Nat),(m.contains n=false→z4n mKi.1 [.int .i64 n] ((zaj m).map thaw) i=some none)∧(m.contains n=true→∃ j,z4n mKi.1 [.int .i64 n] ((zaj m).map thaw) i=some (some (i+j))∧(zaj m)[j]? =some ((false,[.int .i64 n]),(false,[.bool true])))
 | [],i=>⟨fun _=>rfl,fun h=>by cases h⟩
 | x::m,i=>by
  have ih:=zb1 n m (i+1);have hf:z4n mKi.1 [.int .i64 n] ((zaj (x::m)).map thaw) i=if (((n:Int)==x)&&true)=true then some (some i) else z4n mKi.1 [.int .i64 n] ((zaj m).map thaw) (i+1):=rfl
  rw [hf];by_cases q:n=x
  · subst q;refine ⟨fun h=> ?_,fun _=>⟨0,by simp,rfl⟩⟩;simp at h
  · have e:(((n:Int)==x)&&true)=false:=by simp [q]
    rw [e];have hc:(x::m).contains n=m.contains n:=by simp [List.contains_cons,q]
    rw [hc];refine ⟨ih.1,fun h=> ?_⟩;obtain ⟨j,h1,h2⟩:=ih.2 h;exact ⟨j+1,by rw [if_neg (by simp),h1,show i+1+j=i+(j+1) by omega],by simpa [zaj] using h2⟩
theorem zgy {n:Int}{m:List Int}(h:m.contains n=false):zda mKi [.int .i64 n] (zaj m)=some none∧updZ mKi [.int .i64 n] (false,[.bool true]) (zaj m)=some (zaj (m++ [n])):=by
 have:=(zb1 n m 0).1 h;refine ⟨by unfold zda;rw [this],by unfold updZ;rw [this];simp [zaj]⟩
theorem zsz {n:Int}{m:List Int}(h:m.contains n=true):zda mKi [.int .i64 n] (zaj m)=some (some [.bool true]):=by
 obtain ⟨j,h1,h2⟩:=(zb1 n m 0).2 h;unfold zda;rw [h1];simp only [Nat.zero_add,h2,if_true]
theorem zto (k:Int):∀ (b a:List Tm) (m:List Int),(a++b).length≤B→RPt Tryz.prog 162 0 (cb (z8r m b k)) [] 1 ⟨[(1,ci k),(5, .c (.a (.mp 0))),(9,aL (a++b)),(10,ci (a++b).length),(11,ci a.length)],[(0, .mapz (zaj m))],1⟩
 | [],a,m,h=>by
  refine RPt.vc hP sh zr0 (Eq.mpr (zuo ..) ?_);exact z02 (fun h=>absurd (of_decide_eq_true h) (by simp)) (fun _=>z04 rfl)
 | t::b,a,m,h=>by
  have h2:=zto k b (a++ [t]) (m++ [t.n]) (by simpa using h);rw [ap,nx] at h2;simp only [List.length_append,List.length_cons,B] at h;have h4:(a.length:Int)<((a++t::b).length:Int):=by simp only [List.length_append,List.length_cons];omega
  have e0:FV.I (List.getD (List.getD (FTs (a++t::b)) (Int.toNat (a.length:Int)) []) 0 FV.N)=t.k:=by rw [midI];cases t;rfl
  have e2:FV.I (List.getD (List.getD (FTs (a++t::b)) (Int.toNat (a.length:Int)) []) 2 FV.N)=t.n:=by rw [midI];cases t;rfl
  refine RPt.vc hP sh zr0 (Eq.mpr (zuo ..) ?_);rw [w64 (by omega) (by omega),e0,e2,z8r];refine z02 (fun _=>⟨⟨rfl,by omega,by rw [z01];exact h4,z1y ..⟩,z02 (fun h=>z04 ?_) (fun h3=>z02 (fun h=>z04 ?_) (fun hk=> ?_))⟩) (fun h=>absurd h4 (of_decide_eq_false h))
  · rw [if_pos (by simpa using h)]
  · rw [if_neg (by simpa using h3),if_pos (by simpa using h)]
  · rw [if_neg (by simpa using h3),if_neg (by simpa using hk)];cases hc:m.contains t.n with
    | true=>exact .inl ⟨true,zsz hc,z02 (fun _=>z04 rfl) (fun h=>by cases h)⟩
    | false=>exact .inr ⟨(zgy hc).1,_,(zgy hc).2,h2⟩
theorem c_kdist (l:List Tm)(k:Int)(h:l.length≤B):AC Tryz.prog 162 [aL l,ci k] [] (cb (z8r [] l k)) []:=by
 have h1:=zto k l [] [] h;refine AC.vc hP sh zr0 (Nat.le_refl _) (by simp) (by simp) (Eq.mpr (v162 ..) ?_);rw [z01];exact ⟨rfl,h1⟩
theorem zpm (p:Tm→Bool)(n:Int)(b:List Tm):∀ a:List Tm,(a++b).length≤B→(∀ u∈b,AC Tryz.prog 163 [aT u, .c (.a (.ep 0 1 0 0))] [obN n] (cb (p u)) [obN n])→RPt Tryz.prog 84 1 (ci (ixF p b a.length)) [obN n] 1 ⟨[(0,aL (a++b)),(1, .c (.fn (.func 163) [] [(false,[.ep 0 1 0 0])])),(7,ci (a++b).length),(8,ci a.length)],[(0,obN n)],1⟩:=by
 induction b with
 | nil=>
  intro a hs _;refine RPt.vc hP sh lv84 (Eq.mpr (zd1 ..) ?_);exact z02 (fun h=>absurd (of_decide_eq_true h) (by simp)) (fun _=>⟨.refl _,rfl⟩)
 | cons t b ihb=>
  intro a hs ih;have h3:=ltI' a t b;have h1:=ih t List.mem_cons_self;have h2:=ihb (a++ [t]) (by simpa using hs) (fun u hu=>ih u (List.mem_cons_of_mem _ hu));rw [ap,nx,show (a++ [t]).length=a.length+1 by simp] at h2;rw [ixF];simp only [List.length_append,List.length_cons,B] at hs;have h4:(a.length:Int)<((a++t::b).length:Int):=by simp only [List.length_append,List.length_cons];omega
  refine RPt.vc hP sh lv84 (Eq.mpr (zd1 ..) ?_);rw [w64 (by omega) (by omega)];refine z02 (fun _=>⟨⟨rfl,by omega,h3,z1y ..⟩,p t,by rw [z45];exact h1,z02 (fun h=> ?_) (fun h=> ?_)⟩) (fun h=>absurd h4 (of_decide_eq_false h))
  · rw [if_pos h];exact ⟨.refl _,rfl⟩
  · rw [if_neg (by rw [h];simp)];exact h2
theorem zok (p:Tm→Bool)(n:Int)(l:List Tm)(hl:l.length≤B)(h:∀ u∈l,AC Tryz.prog 163 [aT u, .c (.a (.ep 0 1 0 0))] [obN n] (cb (p u)) [obN n]):AC Tryz.prog 39 [aL l, .c (.fn (.func 163) [] [(false,[.ep 0 1 0 0])])] [obN n] (cb (l.any p)) [obN n]:=by
 have h0:=zpm p n l [] hl h
 have h1:AC Tryz.prog 84 [aL l, .c (.fn (.func 163) [] [(false,[.ep 0 1 0 0])])] [obN n] (ci (ixF p l 0)) [obN n]:=by
  refine AC.vc hP sh lv84 (Nat.le_refl _) (by simp [isLive]) (by simp) (Eq.mpr (v84_F163 ..) ?_);rw [z01];exact ⟨rfl,h0⟩
 refine AC.vc hP sh lv39 (Nat.le_refl _) (by simp [isLive]) (by simp) (Eq.mpr (v39_F163 ..) ?_);exact ⟨_,h1,by rw [z75 p l 0];exact ⟨.refl _,rfl⟩⟩
theorem z4r (t:Tm):(z00 t).1.sz≤t.sz∧(∀ u∈(z00 t).2,u.sz+1≤t.sz)∧(z00 t).2.length≤t.sz:=by
 unfold z00;split
 · rename_i h;obtain ⟨k,s,n,l⟩:=t;obtain ⟨x,y,r,rfl,_,_⟩:=okB6 (z0e _ h.2) h.1;have hl:=Tm.szs_length (y::r);refine ⟨?_,fun u hu=> ?_, ?_⟩
   · simp only [Tm.l,hd,List.headD_cons,Tm.sz,Tm.szs];omega
   · have:=Tm.szs_mem (show u∈y::r from hu);have hx:=x.sz_pos;simp only [Tm.sz,Tm.szs] at*;omega
   · simp only [Tm.l,List.drop_succ_cons,List.drop_zero,Tm.sz,Tm.szs] at*;omega
 · exact ⟨Nat.le_refl _,fun u hu=>by simp at hu,by simp⟩
theorem ztu:∀ (n:Nat) (t:Tm) (k:Int),t.sz≤n→t.sz≤B→z05 t=true→0≤k→k+n≤M61→AC Tryz.prog 156 [aT t,ci k] [] (cb (patG n t k)) []
 | 0,t,k,hn,_,_,_,_=>by have:=t.sz_pos;omega
 | n+1,t,k,hn,hz,hv,h0,h1=>by
  have c1:=z6j t hz;have hs:=z4r t
  have hkids:∀ u∈(z00 t).2,z05 u=true:=by
   intro u hu;unfold z00 at hu;split at hu
   · obtain ⟨kk,s,m,l⟩:=t;exact z2f hv (.inr ‹_∧_›.1) u (List.mem_of_mem_drop hu)
   · simp at hu
  have c2:=c_kdist (z00 t).2 k (by omega)
  have c3:=zok (fun u=> !patG n u k) k (z00 t).2 (by omega) (fun u hu=>by
   have h:=ztu n u k (by have:=hs.2.1 u hu;omega) (by have:=hs.2.1 u hu;omega) (hkids u hu) h0 (by omega);obtain ⟨a,b,c,d⟩:=u;refine AC.vc hP sh lv163 (Nat.le_refl _) (by simp [isLive]) (by simp) (Eq.mpr (v163 ..) ?_);exact ⟨_,h, .refl _,rfl⟩)
  rw [patG];simp only [M61] at h1;refine AC.vc hP sh lv156 (Nat.le_refl _) (by simp) (by simp) (Eq.mpr (v156 t.k t.s t.n (FTs t.l) k ..) ?_);rw [w64 (x:=k+1) (by omega) (by omega)];refine z02 (fun h=> ?_) (fun h5=>⟨z00 t,c1,z02 (fun h=>z04 ?_) (fun hh5=>z02 (fun h=>⟨_,c2,z04 ?_⟩) (fun hh4=>z02 (fun h=>z02 (fun hk=>⟨_,c2,z04 ?_⟩) (fun hk=>⟨_,c3,z04 ?_⟩)) (fun h3=>⟨_,c3,z04 ?_⟩)))⟩)
  · have h5:t.k=5:=by simpa using h
    rw [if_pos h5];obtain ⟨kk,s,m,l⟩:=t;have h5:kk=5:=h5;subst h5;obtain ⟨x,rfl,_⟩:=okB5 (z0e _ hv) rfl;have hx:=ztu n x (k+1) (by simp only [Tm.sz,Tm.szs] at hn;omega) (by simp only [Tm.sz,Tm.szs] at hz;omega) (z2f hv (.inl rfl) x (by simp)) (by omega) (by simp only [M61];omega);exact ⟨⟨rfl,by omega,by show (0:Int)<1;omega,z1c x⟩,_,by show AC Tryz.prog 156 [aE (FT x),_] [] _ [];rw [z1o];exact hx,z04 rfl⟩
  · rw [if_neg (by simpa using h5),if_pos (by simpa using h)]
  · rw [if_neg (by simpa using h5),if_neg (by simpa using hh5),if_pos (.inl (by simpa using h))]
  · rw [if_neg (by simpa using h5),if_neg (by simpa using hh5),if_pos (.inr ⟨by simpa using h,by simpa using hk⟩)]
  · have h3:(z00 t).1.k=3:=by simpa using h
    have hk:¬k≤(z00 t).1.n:=by simpa using hk
    rw [if_neg (by simpa using h5),if_neg (by simpa using hh5),if_neg (by omega),zbh]
  · have h3:¬(z00 t).1.k=3:=by simpa using h3
    have h4:¬(z00 t).1.k=4:=by simpa using hh4
    rw [if_neg (by simpa using h5),if_neg (by simpa using hh5),if_neg (by omega),zbh]
end Go.AM

set_option maxRecDepth 100000
open Go Go.Proofs
namespace Go.AM
mutual
def ms (b:Int→List UInt8→Nat):Tm→Nat
 | .mk k s _ l=>b k s+mss b l
def mss (b:Int→List UInt8→Nat):List Tm→Nat
 | []=>0
 | t::l=>ms b t+mss b l
end
mutual
theorem zak:∀ t:Tm,ms (fun _ _=>1) t=t.sz
 | .mk _ _ _ l=>by rw [ms,Tm.sz,mss_sz l]
theorem mss_sz:∀ l:List Tm,mss (fun _ _=>1) l=Tm.szs l
 | []=>rfl
 | t::l=>by rw [mss,Tm.szs,zak t,mss_sz l]
end
mutual
theorem zg:∀ t:Tm,ms (fun _ s=>1+s.length) t=t.bk
 | .mk _ _ _ l=>by rw [ms,Tm.bk,mss_bk l]
theorem mss_bk:∀ l:List Tm,mss (fun _ s=>1+s.length) l=Tm.bks l
 | []=>rfl
 | t::l=>by rw [mss,Tm.bks,zg t,mss_bk l]
end
abbrev wb:Int→List UInt8→Nat:=fun k _=>if k=0 then 4 else 1
abbrev wt (t:Tm):Nat:=ms wb t
mutual
theorem zck:∀ t:Tm,t.sz≤wt t
 | .mk k _ _ l=>by
  have:=zsh l;unfold wt;rw [Tm.sz,ms];have:1≤wb k []:=by unfold wb;split<;>omega
  have e:wb k []=wb k ‹_›:=rfl;omega
theorem zsh:∀ l:List Tm,Tm.szs l≤mss wb l
 | []=>Nat.le_refl _
 | t::l=>by have:=zck t;have:=zsh l;rw [Tm.szs,mss];unfold wt at*;omega
end
section
variable {b:Int→List UInt8→Nat}
theorem zd7 (t:Tm):ms b t=b t.k t.s+mss b t.l:=by cases t;rw [ms];rfl
theorem ze8:∀ l m:List Tm,mss b (l++m)=mss b l+mss b m
 | [],m=>by simp [mss]
 | t::l,m=>by rw [List.cons_append,mss,mss,ze8 l m];omega
theorem zub:∀ {l:List Tm} {t:Tm},t∈l→ms b t≤mss b l
 | x::l,t,h=>by
  rw [mss];rcases List.mem_cons.1 h with rfl | h
  · omega
  · have:=zub h;omega
theorem zbr (lf:Tm→Int→Tm)(h:∀ u d,u.k≠5→u.k≠6→(lf u d).k≠6)(t:Tm)(d:Int)(h6:(z08 lf t d).k=6):t.k=6:=by
 obtain ⟨k,s,n,l⟩:=t;rw [z08] at h6;split at h6
 · rw [zsi] at h6;exact h6
 · rename_i hk;exact absurd h6 (h _ _ (fun e=>hk (by rw [show k=5 from e];rfl)) (fun e=>hk (by rw [show k=6 from e];rfl)))
theorem z1b (lf:Tm→Int→Tm)(h:∀ u d,u.k≠5→u.k≠6→(lf u d).k≠6)(k:Int)(s:List UInt8)(n:Int)(l:List Tm)(d:Int)(hk:(k==5||k==6)=true):
  z08 lf (.mk k s n l) d= .mk k s n (z0a lf l (d+if (k==5)=true then 1 else 0)):=by
 rw [z08,if_pos hk,z1t,if_neg fun e=> ?_];rfl
 match l,e with
 | [],e=>have:=e.2.1;simp [z0a] at this
 | t::l,e=>
  have e1:=e.2.2.1;have e2:(t.k !=6)=true:=e.2.2.2;rw [z0a,List.headD_cons] at e1;have:=zbr lf h t _ (by simpa using e1);simp [this] at e2
mutual
theorem zba (lf:Tm→Int→Tm)(h:∀ u d,u.k≠5→u.k≠6→(lf u d).k≠6)(hm:∀ u d,u.k≠5→u.k≠6→ms b (lf u d)≤ms b u):∀ (t:Tm) (d:Int),ms b (z08 lf t d)≤ms b t
 | .mk k s n l,d=>by
  by_cases hk:(k==5||k==6)=true
  · have:=zma lf h hm l (d+if (k==5)=true then 1 else 0)
    rw [z1b lf h k s n l d hk,ms,ms];omega
  · rw [z08,if_neg hk];exact hm _ _ (fun e=>hk (by rw [show k=5 from e];rfl)) (fun e=>hk (by rw [show k=6 from e];rfl))
theorem zma (lf:Tm→Int→Tm)(h:∀ u d,u.k≠5→u.k≠6→(lf u d).k≠6)(hm:∀ u d,u.k≠5→u.k≠6→ms b (lf u d)≤ms b u):∀ (l:List Tm) (d:Int),mss b (z0a lf l d)≤mss b l
 | [],_=>Nat.le_refl _
 | t::l,d=>by have:=zba lf h hm t d;have:=zma lf h hm l d;rw [z0a,mss,mss];omega
end
theorem zq9 (fr by_:Int)(u:Tm)(d:Int)(h6:u.k≠6):(z0u fr by_ u d).k≠6:=by rw [zgh];exact h6
theorem zr4 (fr by_:Int)(t:Tm)(d:Int):ms b (shT fr by_ t d)≤ms b t:=by
 refine zba _ (fun u d _ h6=>zq9 _ _ u d h6) (fun u d _ _=> ?_) t d;unfold z0u;split
 · rw [zd7 u];exact Nat.le_refl _
 · exact Nat.le_refl _
theorem z6s (i v:Int)(u:Tm)(d:Int):z0p i (.mk 4 [] v []) u d=if (u.k==3)=true then (if u.n<d+i then u else if (u.n==d+i)=true then .mk 4 [] v [] else .mk u.k u.s (u.n-1) u.l) else u:=rfl
theorem zju (i v:Int)(u:Tm)(d:Int)(h6:u.k≠6):(z0p i (.mk 4 [] v []) u d).k≠6:=by
 rw [z6s];split
 · split
   · exact h6
   · split
     · intro h;cases h
     · exact h6
 · exact h6
theorem zs0 (hb:∀ s,b 4 []≤b 3 s)(i v:Int)(t:Tm)(d:Int):ms b (suT i (.mk 4 [] v []) t d)≤ms b t:=by
 refine zba _ (fun u d _ h6=>zju _ _ u d h6) (fun u d _ _=> ?_) t d;rw [z6s];split
 · rename_i h3;have h3:u.k=3:=by simpa using h3
   split
   · exact Nat.le_refl _
   · split
     · rw [zd7 u,h3,ms];have:=hb u.s;simp only [mss];omega
     · rw [zd7 u];exact Nat.le_refl _
 · exact Nat.le_refl _
theorem apply_ms (hb:∀ s,b 6 []≤b 6 s)(f:Tm)(l:List Tm):ms b (z1x f l)≤b 6 []+ms b f+mss b l:=by
 match l with
 | []=>show ms b f≤_;omega
 | x::r=>
  show ms b (if (f.k==6)=true∧f.l ≠ [] then .mk 6 [] 0 (f.l++x::r) else .mk 6 [] 0 (f::x::r))≤_
  split
  · rw [ms,ze8,zd7 f];omega
  · rw [ms,mss];omega
theorem zk2 (hb:∀ s,b 6 []≤b 6 s)(t:Tm)(hv:z05 t=true):ms b (z0g t)≤b 6 []+ms b t+b 3 []:=by
 unfold z0g;split
 · rename_i h5;obtain ⟨k,s,n,l⟩:=t;obtain ⟨x,rfl,_⟩:=okB5 (z0e _ hv) h5;show ms b x≤_;rw [ms,mss];omega
 · have h1:=apply_ms hb (shT 0 1 t 0) [bd0];have h2:=zr4 (b:=b) 0 1 t 0;rw [mss,mss,ms,mss] at h1;omega
end
theorem z5m {t:Tm}(h:(z00 t).2 ≠ []):∃ s n x y r,t= .mk 6 s n (x::y::r)∧z00 t=(x,y::r)∧z05 t=true:=by
 unfold z00 at h;split at h
 · rename_i hc;obtain ⟨k,s,n,l⟩:=t;have h6:k=6:=hc.1;subst h6;obtain ⟨x,y,r,rfl,_,_⟩:=okB6 (z0e _ hc.2) rfl;exact ⟨s,n,x,y,r,rfl,if_pos hc,hc.2⟩
 · exact absurd rfl h
theorem arg_ms (b:Int→List UInt8→Nat){t u:Tm}(hu:u∈(z00 t).2):(∃ s,ms b t≥b 6 s+ms b (z00 t).1+ms b u):=by
 obtain ⟨s,n,x,y,r,rfl,e,_⟩:=z5m (t:=t) (fun e=>by rw [e] at hu;cases hu);rw [e] at hu ⊢;have h7:ms b u≤mss b (y::r):=zub hu;exact ⟨s,by rw [ms,mss];show _≥b 6 s+ms b x+ms b u;omega⟩
theorem head_wt {t:Tm}(h:(z00 t).1.k=0):4≤wt (z00 t).1:=by
 unfold wt;rw [zd7,h];show 4≤4+_;omega
theorem z2g {t u:Tm}(hu:u∈(z00 t).2)(h:(z00 t).1.k=0):5+wt u≤wt t:=by
 obtain ⟨s,hs⟩:=arg_ms wb hu;have:=head_wt h;unfold wt at*;simp only [show wb 6 s=1 from rfl] at hs;omega
theorem z54 {t u:Tm}(hu:u∈(z00 t).2):2+u.sz≤t.sz:=by
 obtain ⟨s,hs⟩:=arg_ms (fun _ _=>1) hu;rw [zak,zak,zak] at hs;have:=(z00 t).1.sz_pos;omega
theorem z6b {t:Tm}(hv:z05 t=true):wt (z0g t)≤wt t+2:=by
 have:=zk2 (b:=wb) (fun _=>Nat.le_refl _) t hv;unfold wt;simp only [show wb 6 []=1 from rfl,show wb 3 []=1 from rfl] at this;omega
theorem z7b {t:Tm}(hv:z05 t=true):(z0g t).sz≤t.sz+2:=by
 have:=zk2 (b:=fun _ _=>1) (fun _=>Nat.le_refl _) t hv;rw [zak,zak] at this;omega
theorem z0c {t u:Tm}(hu:u∈(z00 t).2):z05 u=true:=by
 obtain ⟨s,n,x,y,r,rfl,e,hv⟩:=z5m (t:=t) (fun e=>by rw [e] at hu;cases hu);rw [e] at hu;exact z2f hv (.inr rfl) u (List.mem_cons_of_mem _ hu)
theorem zgu {M:Int}{t:Tm}(hM:M+1≤4611686018427387904)(hv:z05 t=true)(hb:bd M t):z05 (shT 0 1 t 0)=true:=by
 rw [z55,Bool.and_eq_true];exact ⟨shT_ok 0 (z0e _ hv),shT_lv (D:=0) (by omega) hM t 0 0 hb (zax hv) (Int.le_refl 0)⟩
theorem zo4 {M:Int}{t:Tm}(hM:M+1≤4611686018427387904)(hv:z05 t=true)(hb:bd M t):z05 (z0g t)=true:=by
 unfold z0g;split
 · rename_i h5;obtain ⟨k,s,n,l⟩:=t;obtain ⟨x,rfl,_⟩:=okB5 (z0e _ hv) h5;exact z2f hv (.inl h5) x (by simp)
 · have h1:=zgu hM hv hb;rw [z55,Bool.and_eq_true];exact ⟨zj1 (z0e _ h1) rfl,zj3 (zax h1) rfl⟩
theorem zfi {M:Int}{t:Tm}(h0:0≤M)(hv:z05 t=true)(hb:bd M t):bd (M+1) (z0g t):=by
 unfold z0g;split
 · rename_i h5;obtain ⟨k,s,n,l⟩:=t;obtain ⟨x,rfl,_⟩:=okB5 (z0e _ hv) h5;exact z2d (by omega) _ (z2r (bd_l hb) (by simp [hd,Tm.l]))
 · exact zjh (zpl (by omega) t 0 hb (Int.le_refl 0)) ⟨⟨fun _=>⟨by show 0-(M+1)≤(0:Int);omega,by show (0:Int)≤M+1;omega⟩,trivial⟩,trivial⟩
def TG (n:Nat)(t:Tm):Prop:=z05 t=true∧t.sz≤1000000∧bd (1000000000000-n) t
theorem TG.mono {n m:Nat}{t:Tm}(h:TG n t)(hm:m≤n):TG m t:=⟨h.1,h.2.1,z2d (by omega) _ h.2.2⟩
theorem TG.arg {n:Nat}{t u:Tm}(h:TG (n+1) t)(hu:u∈(z00 t).2):TG n u:=by
 refine ⟨z0c hu,by have:=z54 hu;have:=h.2.1;omega, ?_⟩;obtain ⟨s,m,x,y,r,rfl,e,_⟩:=z5m (t:=t) (fun e=>by rw [e] at hu;cases hu);rw [e] at hu;exact z2d (by omega) _ (z2r (bd_l h.2.2) (List.mem_cons_of_mem _ hu))
theorem TG.body {n:Nat}{t u:Tm}(hn:n≤1000000000)(h:TG (n+1) t)(hu:u∈(z00 t).2):TG n (z0g u):=by
 have hv:=z0c hu
 have hb:bd (1000000000000-(n+1:Nat)) u:=by
  obtain ⟨s,m,x,y,r,rfl,e,_⟩:=z5m (t:=t) (fun e=>by rw [e] at hu;cases hu);rw [e] at hu;exact z2r (bd_l h.2.2) (List.mem_cons_of_mem _ hu)
 refine ⟨zo4 (by omega) hv hb,by have:=z54 hu;have:=h.2.1;have:=z7b hv;omega, ?_⟩;have:=zfi (by omega) hv hb;rw [show (1000000000000:Int)-(n+1:Nat)+1=1000000000000-n by omega] at this;exact this
theorem TG.sh {n:Nat}{t:Tm}(hn:n≤1000000000)(h:TG (n+1) t):TG n (shT 0 1 t 0):=by
 refine ⟨zgu (by omega) h.1 h.2.2,by have:=zeh 0 1 t 0;have:=h.2.1;omega, ?_⟩;have:=zpl (fr:=0) (by_:=1) (by omega) t 0 h.2.2 (Int.le_refl 0);rw [show (1000000000000:Int)-(n+1:Nat)+1=1000000000000-n by omega] at this;exact this
theorem zgx {t:Tm}{flex:Int}(hf:flex≠0)(h:(z03 t flex).2.2=0)(hne:(z03 t flex).1 ≠ []):(z00 t).1.k=0∧(z03 t flex).1=(z00 t).1.s∧(z03 t flex).2.1=(z00 t).2∧((z00 t).2.length:Int)=z56 (z03 t flex).1:=by
 obtain ⟨h0,⟨e,_⟩ | ⟨e1,_,e2,e3⟩⟩:=z6q hf h
 · exact absurd e hne
 · exact ⟨h0,e1,e2,by rw [e3,e1]⟩
theorem zq5 {l:List Tm}(h:(l.length:Int)=2):∃ a b,l=[a,b]:=by
 match l,h with
 | [a,b],_=>exact ⟨a,b,rfl⟩
 | [],h=>simp at h
 | [_],h=>simp at h
 | _::_::_::_,h=>simp only [List.length_cons] at h;omega
theorem zu5 {l:List Tm}(h:(l.length:Int)=1):∃ a,l=[a]:=by
 match l,h with
 | [a],_=>exact ⟨a,rfl⟩
 | [],h=>simp at h
 | _::_::_,h=>simp only [List.length_cons] at h;omega
theorem z0m {t:Tm}{flex:Int}(hf:flex≠0)(h:(z03 t flex).2.2=0)(hn:(z03 t flex).1=nAnd∨(z03 t flex).1=nOr∨(z03 t flex).1=nImp∨(z03 t flex).1=nIf):
  ∃ a c,(z03 t flex).2.1=[a,c]∧(z00 t).2=[a,c]∧(z00 t).1.k=0:=by
 have hne:(z03 t flex).1 ≠ []:=by rcases hn with e | e | e | e<;>rw [e]<;>simp
 obtain ⟨h0,h1,h2,h3⟩:=zgx hf h hne;have:z56 (z03 t flex).1=2:=by rcases hn with e | e | e | e<;>rw [e]<;>rfl
 obtain ⟨a,c,e⟩:=zq5 (h3.trans this);exact ⟨a,c,h2.trans e,e,h0⟩
theorem z1q {t:Tm}{flex:Int}(hf:flex≠0)(h:(z03 t flex).2.2=0)(hn:(z03 t flex).1=nPi∨(z03 t flex).1=nSig):
  ∃ a,(z03 t flex).2.1=[a]∧(z00 t).2=[a]∧(z00 t).1.k=0:=by
 have hne:(z03 t flex).1 ≠ []:=by rcases hn with e | e<;>rw [e]<;>simp
 obtain ⟨h0,h1,h2,h3⟩:=zgx hf h hne;have:z56 (z03 t flex).1=1:=by rcases hn with e | e<;>rw [e]<;>rfl
 obtain ⟨a,e⟩:=zu5 (h3.trans this);exact ⟨a,h2.trans e,e,h0⟩
theorem z83 {t a c:Tm}(h:(z00 t).2=[a,c]):2+a.sz+c.sz≤t.sz:=by
 obtain ⟨s,n,x,y,r,rfl,e,_⟩:=z5m (t:=t) (by rw [h];simp);rw [e] at h;injection h with h1 h2
 subst h1;subst h2;have:=x.sz_pos;simp only [Tm.sz,Tm.szs];omega
theorem z3e (w:Bool):∀ (n:Nat) (any:Bool) (vs:Int) (L:List Tm) (t:Tm),(clsF w n any vs L t).2.length≤t.sz
 | 0,_,_,_,t=>Nat.zero_le _
 | n+1,any,vs,L,t=>by
  have hp:=t.sz_pos;rw [clsF];split
  · exact Nat.zero_le _
  · rename_i he;have he:(z03 t 131).2.2=0:=Classical.byContradiction he;split
    · split
      · exact Nat.zero_le _
      · exact hp
    · split
      · rename_i hn;obtain ⟨a,c,e,e2,_⟩:=z0m (by omega) he (.inl hn);rw [e];have h1:=z3e w n any vs L a;have h2:=z3e w n any vs L c;have h3:=z83 e2;split
        · show (clsF w n any vs L a).2.length≤_;omega
        · show ((clsF w n any vs L a).2++(clsF w n any vs L c).2).length≤_;rw [List.length_append];omega
      · split
        · rename_i hn;obtain ⟨a,e,e2,_⟩:=z1q (by omega) he (.inl hn);rw [e];have hu:a∈(z00 t).2:=by rw [e2];simp
          have h1:=z3e w n any (vs+1) (L.map fun g=>shT 0 1 g 0) (z0g a);have h2:=z7b (z0c hu);have h3:=z54 hu;show (clsF w n any (vs+1) (L.map fun g=>shT 0 1 g 0) (z0g a)).2.length≤_;omega
        · split
          · rename_i hn;obtain ⟨a,c,e,e2,_⟩:=z0m (by omega) he (.inr (.inr (.inl hn)));rw [e];have h3:=z83 e2;split
            · exact Nat.zero_le _
            · have h1:=z3e w n any vs (L++ [a]) c;show (clsF w n any vs (L++ [a]) c).2.length≤_;omega
          · split
            · rename_i hn;obtain ⟨a,c,e,e2,_⟩:=z0m (by omega) he (.inr (.inr (.inr hn)));rw [e];have h3:=z83 e2;split
              · exact Nat.zero_le _
              · have h1:=z3e w n any vs (L++ [c]) a;show (clsF w n any vs (L++ [c]) a).2.length≤_;omega
            · exact Nat.zero_le _
end Go.AM

set_option maxRecDepth 100000
open Go Go.Proofs
namespace Go.AM
theorem br_t {c:Bool}{p q:Prop}(h:c=true)(hp:p):br c p q:=z02 (fun _=>hp) (fun h'=>by rw [h] at h';cases h')
theorem br_f {c:Bool}{p q:Prop}(h:c=false)(hq:q):br c p q:=z02 (fun h'=>by rw [h] at h';cases h') (fun _=>hq)
theorem z5a (a:Tm):List.take 4 (List.drop 0 (FT a))=FT a:=by cases a;rfl
abbrev tellK:TV:= .c (.fn (.func 150) [] [(false,[.ep 0 1 0 0])])
abbrev inK (X:List Cl):List AObj:=[.arr 1 [[.a (.osl 1 9 0 X.length)]], .arz 9 (CLs X)]
abbrev outK (X:List Cl):List AObj:=[.arr 1 [[.a (.osl 2 9 0 X.length)]], .gone, .arz 9 (CLs X)]
theorem c_keach1 (n:Nat)(u:Tm)(hn:u.sz≤n)(hz:u.sz≤B)(hv:z05 u=true)(hM:(n:Int)≤M61):AC Tryz.prog 155 [aT u] [] (cb (!patG n u 0)) []:=by
 have h:=ztu n u 0 hn hz hv (Int.le_refl 0) (by omega);obtain ⟨a,b,c,d⟩:=u;refine AC.vc hP sh lv155 (Nat.le_refl _) (by simp) (by simp) (Eq.mpr (v155 ..) ?_);exact ⟨_,h,z04 rfl⟩
theorem l_ixE1 (p:Tm→Bool)(b:List Tm):∀ a:List Tm,(a++b).length≤B→(∀ u∈b,AC Tryz.prog 155 [aT u] [] (cb (p u)) [])→
  RPt Tryz.prog 84 1 (ci (ixF p b a.length)) [.arz 4 (FTs (a++b))] 1 ⟨[(0, .c (.a (.osl 0 4 0 (a++b).length))),(1, .c (.fn (.func 155) [] [])),(7,ci (a++b).length),(8,ci a.length)],[(0, .arz 4 (FTs (a++b)))],1⟩:=by
 induction b with
 | nil=>
  intro a hs _;refine RPt.vc hP sh lv84 (Eq.mpr (z74 ..) ?_);exact z02 (fun h=>absurd (of_decide_eq_true h) (by simp)) (fun _=>⟨.refl _,rfl⟩)
 | cons t b ihb=>
  intro a hs ih;have h1:=ih t List.mem_cons_self;have h2:=ihb (a++ [t]) (by simpa using hs) (fun u hu=>ih u (List.mem_cons_of_mem _ hu));rw [ap,nx,show (a++ [t]).length=a.length+1 by simp] at h2;rw [ixF];simp only [List.length_append,List.length_cons,B] at hs;have h4:(a.length:Int)<((a++t::b).length:Int):=by simp only [List.length_append,List.length_cons];omega
  refine RPt.vc hP sh lv84 (Eq.mpr (z74 ..) ?_);rw [w64 (by omega) (by omega),Nat.zero_add,midI,z1o];refine z02 (fun _=>⟨⟨by omega,h4⟩,⟨by rw [z01,List.length_append,List.length_cons];omega,(z1c t).trans (z5a t).symm,rfl⟩,p t,h1,z02 (fun h=> ?_) (fun h=> ?_)⟩) (fun h=>absurd h4 (of_decide_eq_false h))
  · rw [if_pos h];exact ⟨.refl _,rfl⟩
  · rw [if_neg (by rw [h];simp)];exact h2
theorem c_anyE1 (p:Tm→Bool)(l:List Tm)(hl:l.length≤B)(h:∀ u∈l,AC Tryz.prog 155 [aT u] [] (cb (p u)) []):AC Tryz.prog 39 [.c (.a (.osl 0 4 0 l.length)), .c (.fn (.func 155) [] [])] [.arz 4 (FTs l)] (cb (l.any p)) [.arz 4 (FTs l)]:=by
 have h0:=l_ixE1 p l [] hl h
 have h1:AC Tryz.prog 84 [.c (.a (.osl 0 4 0 l.length)), .c (.fn (.func 155) [] [])] [.arz 4 (FTs l)] (ci (ixF p l 0)) [.arz 4 (FTs l)]:=by
  refine AC.vc hP sh lv84 (Nat.le_refl _) (by simp [isLive]) (by simp) (Eq.mpr (zk4 ..) ?_);exact h0
 refine AC.vc hP sh lv39 (Nat.le_refl _) (by simp [isLive]) (by simp) (Eq.mpr (zjw ..) ?_);exact ⟨_,h1,by rw [z75 p l 0];exact ⟨.refl _,rfl⟩⟩
theorem c_anyE1N:AC Tryz.prog 39 [.c (.a (.fz .N)), .c (.fn (.func 155) [] [])] [] (cb false) []:=by
 have h1:AC Tryz.prog 84 [aL [], .c (.fn (.func 155) [] [])] [] (ci (-1)) []:=by
  refine AC.vc hP sh lv84 (Nat.le_refl _) (by simp) (by simp) (Eq.mpr (v84_F155 ..) ?_);refine ⟨rfl,RPt.vc hP sh lv84 (Eq.mpr (zkf ..) ?_)⟩;exact br_f rfl (z0z rfl)
 have h2:AC Tryz.prog 39 [aL [], .c (.fn (.func 155) [] [])] [] (cb false) []:=by
  refine AC.vc hP sh lv39 (Nat.le_refl _) (by simp) (by simp) (Eq.mpr (v39_F155 ..) ?_);exact ⟨_,h1,z04 rfl⟩
 exact h2.args ⟨.c _ _ (.a _ _ (.fz _ _ z1m)), .refl _,trivial⟩
def GC (n:Nat):Prop:=
 (∀ t,wt t≤n→TG n t→AC Tryz.prog 48 [aT t] [] (ci (z07 false n t)) [])∧
 (∀ (any:Bool) (vs:Int) (L:List Tm) (t:Tm) (X:List Cl),wt t≤n→TG n t→(∀ g∈L,TG n g)→0≤vs→vs+n≤1000000000000→L.length+n≤1000000000→X.length+t.sz≤1000000000→
  AC Tryz.prog 149 [aT t,aAr vs L any,tellK] (inK X) (ci (clsF false n any vs L t).1) (outK (X++(clsF false n any vs L t).2)))
theorem all_of {n:Nat}(h:GC n)(hn:n≤1000000000)(any:Bool)(t:Tm)(hw:wt t≤n)(ht:TG n t):AC Tryz.prog 130 [aT t,aAr 0 [] any] [] (.tup [(false,[.a (.fz (.sl false 9 (CLs (if (clsF false n any 0 [] t).1=0 then (clsF false n any 0 [] t).2 else []))))]),(false,[.a (.fz (.int .i64 (clsF false n any 0 [] t).1))])]) []:=by
 have h1:=h.2 any 0 [] t [] hw ht (fun g hg=>by cases hg) (Int.le_refl 0) (by omega) (by simpa using hn) (by have:=ht.2.1;simp only [List.length_nil];omega);rw [List.nil_append] at h1;refine AC.vc hP sh lv130 (Nat.le_refl _) (by simp) (by simp) (Eq.mpr (v130 ..) ?_);refine ⟨(_,_),h1,z02 (fun he=> ?_) (fun he=> ?_)⟩
 · rw [if_neg (by simpa using he)];exact ⟨znq ⟨lw1 (.a _ _ (.fz _ _ (.N 9))),lwR _,trivial⟩,rfl⟩
 · have he:(clsF false n any 0 [] t).1=0:=by simpa using he
   rw [if_pos he,he];refine ⟨⟨rfl,by rw [z0i];omega⟩, ?_,rfl⟩;rw [List.drop_zero,List.take_of_length_le (by rw [z0i];exact Nat.le_refl _)];exact .refl _
def z1k (n:Nat)(any:Bool)(t:Tm):List Cl:=if (clsF false n any 0 [] t).1=0 then (clsF false n any 0 [] t).2 else []
theorem arN (any:Bool):TV.Le (.agg [.a (.fz (.int .i64 0)), .a (.fz .N), .a (.fz (.bool any))]) (aAr 0 [] any):= .agg _ _ rfl (fun i x y hx hy=>by
 match i with
 | 0=>simp at hx hy;subst hx;subst hy;exact .refl _
 | 1=>simp at hx hy;subst hx;subst hy;exact .a _ _ (.fz _ _ z1m)
 | 2=>simp at hx hy;subst hx;subst hy;exact .refl _
 | i+3=>simp at hx)
theorem zlc {n:Nat}(h:GC n)(hn:n≤1000000000)(t:Tm)(hw:wt t≤n)(ht:TG n t):AC Tryz.prog 92 [aT t] [] (.tup [(false,[.a (.fz (.sl false 9 (CLs (z1k n false t))))]),(false,[.a (.fz (.int .i64 (clsF false n false 0 [] t).1))])]) []:=by
 have c1:=z4z t (by have:=ht.2.1;simp only [B];omega);have h1:=(all_of h hn false t hw ht).args (args:=[aT t, .agg [.a (.fz (.int .i64 0)), .a (.fz .N), .a (.fz (.bool false))]]) ⟨.refl _,arN _,trivial⟩;have hv:=ht.1;obtain ⟨a,b,c,d⟩:=t;refine AC.vc hP sh lv92 (Nat.le_refl _) (by simp) (by simp) (Eq.mpr (v92 ..) ?_);exact ⟨_,c1,br_f (by rw [hv];rfl) ⟨(_,_),h1, .refl _,rfl⟩⟩
theorem zud {n:Nat}(h:GC n)(hn:n≤1000000000)(t:Tm)(hw:wt t≤n)(ht:TG n t):AC Tryz.prog 147 [aT t] [] (.tup [(false,[.a (.fz (.sl false 9 (CLs (z1k n true t))))]),(false,[.a (.fz (.int .i64 (clsF false n true 0 [] t).1))])]) []:=by
 have c1:=z4z t (by have:=ht.2.1;simp only [B];omega);have h1:=(all_of h hn true t hw ht).args (args:=[aT t, .agg [.a (.fz (.int .i64 0)), .a (.fz .N), .a (.fz (.bool true))]]) ⟨.refl _,arN _,trivial⟩;have hv:=ht.1;obtain ⟨a,b,c,d⟩:=t;refine AC.vc hP sh lv147 (Nat.le_refl _) (by simp) (by simp) (Eq.mpr (v147 ..) ?_);exact ⟨_,c1,br_f (by rw [hv];rfl) ⟨(_,_),h1, .refl _,rfl⟩⟩
theorem zsw {n:Nat}(h:GC n)(hn:n+1≤1000000000)(t:Tm)(hw:wt t≤n+1)(ht:TG (n+1) t):AC Tryz.prog 48 [aT t] [] (ci (z07 false (n+1) t)) []:=by
 have hz:t.sz≤B:=by have:=ht.2.1;simp only [B];omega
 have c1:=z4z t hz;rw [ht.1] at c1;have pre:∀ R:Int,((∃ z2:List UInt8×Int,True)→True)→True:=fun _ _=>trivial;have sub:∀ u∈(z00 t).2,(z00 t).1.k=0→AC Tryz.prog 48 [aT u] [] (ci (z07 false n u)) []:=fun u hu h0=>h.1 u (by have:=z2g hu h0;omega) (ht.arg hu);refine AC.vc hP sh lv48 (Nat.le_refl _) (by simp) (by simp) (Eq.mpr (v48 t.k t.s t.n (FTs t.l) ..) ?_);refine ⟨_,c1,br_f rfl ?_⟩;rw [z07];by_cases he:(z03 t 133).2.2≠0
 · rw [if_pos he]
   have hl:(z03 t 133).2.1=[]:=by
    unfold z03 at he ⊢;split
    · rfl
    · rename_i q1;rw [if_neg q1] at he;split
      · rfl
      · rename_i q2;rw [if_neg q2] at he;split
        · rename_i q3;rw [if_pos q3] at he;exact absurd rfl he
        · rename_i q3;rw [if_neg q3] at he;split
          · rfl
          · rename_i q4;rw [if_neg q4] at he;exact absurd rfl he
   exact .inl ⟨((z03 t 133).1,(z03 t 133).2.2),z6a t 133 hz hl,br_t (by simpa using he) (z0z rfl)⟩
 · rw [if_neg he];have he:(z03 t 133).2.2=0:=Classical.byContradiction he;by_cases hif:(z03 t 133).1=nIf
   · rw [if_pos hif];obtain ⟨a,c,e,e2,h0⟩:=z0m (by omega) he (.inr (.inr (.inr hif)));have cS:=z2h t 133 hz (by rw [e];simp);rw [e,hif,he] at cS;exact .inr ⟨(nIf,[a,c],0),cS,br_f rfl (br_t rfl (z0z rfl))⟩
   · rw [if_neg hif];by_cases hand:(z03 t 133).1=nAnd∨(z03 t 133).1=nOr
     · rw [if_pos hand];obtain ⟨a,c,e,e2,h0⟩:=z0m (by omega) he (hand.imp_right .inl);have cS:=z2h t 133 hz (by rw [e];simp);rw [e,he] at cS;have ca:=sub a (by rw [e2];simp) h0;have cc:=sub c (by rw [e2];simp) h0;rw [e]
       have fin:br ((z07 false n a:Int) !=0) (TV.Le (ci (z07 false n a)) (ci (if z07 false n a≠0 then z07 false n a else z07 false n c))∧([]:List AObj)=[])
         ((0≤(1:Int)∧(1:Int)<(((List.length [a,c]):Nat):Int))∧((1<(FTs [a,c]).length∧((rE (List.getD (FTs [a,c]) 1 [])):List FV)=List.take 4 (List.drop 0 (List.getD (FTs [a,c]) 1 []))∧(4:Nat)=4)∧∃ n3:Int,AC Tryz.prog 48 [aE (List.getD (FTs [a,c]) 1 [])] [] (ci n3) []∧(TV.Le (ci n3) (ci (if z07 false n a≠0 then z07 false n a else z07 false n c))∧([]:List AObj)=[]))):=by
        refine z02 (fun q=> ?_) (fun q=>⟨⟨by omega,by show (1:Int)<2;omega⟩,⟨by show 1<2;omega,(z1c c).trans (z5a c).symm,rfl⟩,z07 false n c,by rw [show aE (List.getD (FTs [a,c]) 1 [])=aT c from z1o c];exact cc, ?_⟩)
        · exact z0z (by rw [if_pos (by simpa using q)])
        · exact z0z (by rw [if_neg (by simpa using q)])
       rcases hand with hn' | hn'
       · rw [hn'] at cS;exact .inr ⟨(nAnd,[a,c],0),cS,br_f rfl (br_f rfl (br_t rfl ⟨⟨by omega,by show (0:Int)<2;omega⟩,⟨by show 0<2;omega,(z1c a).trans (z5a a).symm,rfl⟩,_,by rw [show aE (List.getD (FTs [a,c]) 0 [])=aT a from z1o a];exact ca,fin⟩))⟩
       · rw [hn'] at cS;exact .inr ⟨(nOr,[a,c],0),cS,br_f rfl (br_f rfl (br_f rfl (br_t rfl ⟨⟨by omega,by show (0:Int)<2;omega⟩,⟨by show 0<2;omega,(z1c a).trans (z5a a).symm,rfl⟩,_,by rw [show aE (List.getD (FTs [a,c]) 0 [])=aT a from z1o a];exact ca,fin⟩)))⟩
     · rw [if_neg hand];have hand1:¬(z03 t 133).1=nAnd:=fun q=>hand (.inl q);have hand2:¬(z03 t 133).1=nOr:=fun q=>hand (.inr q);by_cases himp:(z03 t 133).1=nImp
       · rw [if_pos himp];obtain ⟨a,c,e,e2,h0⟩:=z0m (by omega) he (.inr (.inr (.inl himp)));have cS:=z2h t 133 hz (by rw [e];simp);rw [e,himp,he] at cS;have hu:a∈(z00 t).2:=by rw [e2];simp
         have ca:=zlc h (by omega) a (by have:=z2g hu h0;omega) (ht.arg hu);have cc:=sub c (by rw [e2];simp) h0;rw [e]
         refine .inr ⟨(nImp,[a,c],0),cS,br_f rfl (br_f rfl (br_f rfl (br_f rfl (br_t rfl ⟨⟨by omega,by show (0:Int)<2;omega⟩,⟨by show 0<2;omega,(z1c a).trans (z5a a).symm,rfl⟩,(_,_),by rw [show aE (List.getD (FTs [a,c]) 0 [])=aT a from z1o a];exact ca,
          z02 (fun q=> ?_) (fun q=>⟨⟨by omega,by show (1:Int)<2;omega⟩,⟨by show 1<2;omega,(z1c c).trans (z5a c).symm,rfl⟩,z07 false n c,by rw [show aE (List.getD (FTs [a,c]) 1 [])=aT c from z1o c];exact cc, ?_⟩)⟩))))⟩
         · exact z0z (by rw [if_pos (by simpa using q)];rfl)
         · exact z0z (by rw [if_neg (by simpa using q)];rfl)
       · rw [if_neg himp];by_cases hpi:(z03 t 133).1=nPi∨(z03 t 133).1=nSig
         · rw [if_pos hpi];obtain ⟨a,e,e2,h0⟩:=z1q (by omega) he hpi;have cS:=z2h t 133 hz (by rw [e];simp);rw [e,he] at cS;have hu:a∈(z00 t).2:=by rw [e2];simp
           have hz2:=z54 hu;have cb1:=zl3 a (z0c hu) (by omega) (z2d (by simp only [M61];omega) _ (ht.arg hu).2.2);have ca:=h.1 (z0g a) (by have:=z2g hu h0;have:=z6b (z0c hu);omega) (ht.body (by omega) hu);rw [e];rcases hpi with hn' | hn'
           · rw [hn'] at cS;exact .inr ⟨(nPi,[a],0),cS,br_f rfl (br_f rfl (br_f rfl (br_f rfl (br_f rfl (br_t rfl ⟨⟨by omega,by show (0:Int)<1;omega⟩,⟨by show 0<1;omega,(z1c a).trans (z5a a).symm,rfl⟩,_,by rw [show aE (List.getD (FTs [a]) 0 [])=aT a from z1o a];exact cb1,_,ca,z0z rfl⟩)))))⟩
           · rw [hn'] at cS;exact .inr ⟨(nSig,[a],0),cS,br_f rfl (br_f rfl (br_f rfl (br_f rfl (br_f rfl (br_f rfl (br_t rfl ⟨⟨by omega,by show (0:Int)<1;omega⟩,⟨by show 0<1;omega,(z1c a).trans (z5a a).symm,rfl⟩,_,by rw [show aE (List.getD (FTs [a]) 0 [])=aT a from z1o a];exact cb1,_,ca,z0z rfl⟩))))))⟩
         · rw [if_neg hpi];have hp1:¬(z03 t 133).1=nPi:=fun q=>hpi (.inl q);have hp2:¬(z03 t 133).1=nSig:=fun q=>hpi (.inr q);have ne:∀ {s:List UInt8},¬(z03 t 133).1=s→(((z03 t 133).1:List UInt8)==s)=false:=fun q=>by simpa using q
           by_cases hl:(z03 t 133).2.1=[]
           · have cS:=z6a t 133 hz hl;rw [he] at cS;exact .inl ⟨((z03 t 133).1,0),cS,br_f rfl (br_f (ne hif) (br_f (ne hand1) (br_f (ne hand2) (br_f (ne himp) (br_f (ne hp1) (br_f (ne hp2) (z0z rfl)))))))⟩
           · have cS:=z2h t 133 hz hl;rw [he] at cS;exact .inr ⟨((z03 t 133).1,(z03 t 133).2.1,0),cS,br_f rfl (br_f (ne hif) (br_f (ne hand1) (br_f (ne hand2) (br_f (ne himp) (br_f (ne hp1) (br_f (ne hp2) (z0z rfl)))))))⟩
end Go.AM

set_option maxRecDepth 100000
open Go Go.Proofs
namespace Go.AM
theorem zmr {w:Bool}{n:Nat}{any:Bool}{vs:Int}{L:List Tm}{t:Tm}(he:(z03 t 131).2.2≠0):clsF w (n+1) any vs L t=((z03 t 131).2.2,[]):=by rw [clsF,if_pos he]
theorem zqf {t:Tm}{flex:Int}(he:(z03 t flex).2.2≠0):(z03 t flex).2.1=[]:=by
 unfold z03 at he ⊢;split
 · rfl
 · rename_i q1;rw [if_neg q1] at he;split
   · rfl
   · rename_i q2;rw [if_neg q2] at he;split
     · rename_i q3;rw [if_pos q3] at he;exact absurd rfl he
     · rename_i q3;rw [if_neg q3] at he;split
       · rfl
       · rename_i q4;rw [if_neg q4] at he;exact absurd rfl he
theorem z6o {i:Int}{X:List Cl}:TV.Le (ci i) (ci i)∧outK X=outK (X++([]:List Cl)):=⟨.refl _,by rw [List.append_nil]⟩
theorem zsv {n:Nat} (h:GC n) (hn:n+1≤1000000000) (any:Bool) (vs:Int) (L:List Tm) (t:Tm) (X:List Cl) (hw:wt t≤n+1) (ht:TG (n+1) t) (hg:∀ g∈L,TG (n+1) g) (h0:0≤vs) (h1:vs+(n+1:Nat)≤1000000000000)
  (hL:L.length+(n+1)≤1000000000) (hX:X.length+t.sz≤1000000000):AC Tryz.prog 149 [aT t,aAr vs L any,tellK] (inK X) (ci (clsF false (n+1) any vs L t).1) (outK (X++(clsF false (n+1) any vs L t).2)):=by
 have hz:t.sz≤B:=by have:=ht.2.1;simp only [B];omega
 have hg':∀ g∈L,TG n g:=fun g q=>(hg g q).mono (by omega);have sub:∀ u∈(z00 t).2,(z00 t).1.k=0→AC Tryz.prog 48 [aT u] [] (ci (z07 false n u)) []:=fun u hu h0=>h.1 u (by have:=z2g hu h0;omega) (ht.arg hu)
 have subc:∀ (L':List Tm) (X':List Cl),∀ u∈(z00 t).2,(z00 t).1.k=0→(∀ g∈L',TG n g)→L'.length≤L.length+1→X'.length+u.sz≤1000000000→AC Tryz.prog 149 [aT u,aAr vs L' any,tellK] (inK X') (ci (clsF false n any vs L' u).1) (outK (X'++(clsF false n any vs L' u).2)):=
  fun L' X' u hu hk hL' hl hx=>h.2 any vs L' u X' (by have:=z2g hu hk;omega) (ht.arg hu) hL' h0 (by omega) (by omega) hx
 have cbody:=c_kabody vs L any (by omega);have ctell:=c_ktell (vs,t,z3a L) X (by have:=t.sz_pos;omega);refine AC.vc hP sh lv149 (by simp) (by simp [isLive]) (by simp [isLive]) (Eq.mpr (zrs t.k t.s t.n (FTs t.l) vs (FTs L) any X.length (CLs X) ..) ?_);by_cases he:(z03 t 131).2.2≠0
 · rw [zmr he];exact .inl ⟨((z03 t 131).1,(z03 t 131).2.2),z6a t 131 hz (zqf he),br_t (by simpa using he) z6o⟩
 rw [clsF,if_neg he];have he:(z03 t 131).2.2=0:=Classical.byContradiction he;by_cases hnm:(z03 t 131).1=[]
 · rw [if_pos hnm]
   have fin:∀ (c:Bool),c=false→AC Tryz.prog 150 [aCl (vs,t,z3a L), .c (.a (.ep 0 1 0 0))] (inK X) (.tup []) (outK (X++ [(vs,t,z3a L)]))∧(TV.Le (ci 0) (ci (if c=true then ((132:Int),([]:List Cl)) else (0,[(vs,t,z3a L)])).1)∧outK (X++ [(vs,t,z3a L)])=outK (X++(if c=true then ((132:Int),([]:List Cl)) else (0,[(vs,t,z3a L)])).2)):=
    fun c hc=>⟨ctell,by rw [hc];exact ⟨.refl _,rfl⟩⟩
   by_cases hl:(z03 t 131).2.1=[]
   · have cS:=z6a t 131 hz hl;rw [he,hnm] at cS;have hc:(!(any||false)&&(z03 t 131).2.1.any fun u=> !patG n u 0)=false:=by rw [hl];simp
     refine .inl ⟨([],0),cS,br_f rfl (br_t rfl (z02 (fun _=>⟨false,c_anyE1N,br_f rfl ⟨z3a L,cbody,X++ [(vs,t,z3a L)],fin _ hc⟩⟩) (fun _=>⟨z3a L,cbody,X++ [(vs,t,z3a L)],fin _ hc⟩)))⟩
   · have cS:=z2h t 131 hz hl;rw [he,hnm] at cS
     have hl2:(z03 t 131).2.1=(z00 t).2:=by
      obtain ⟨_,⟨_,_,q⟩ | ⟨_,_,q,_⟩⟩:=z6q (by omega) he<;>exact q
     have ca:=c_anyE1 (fun u=> !patG n u 0) (z03 t 131).2.1 (by rw [hl2];have:=(z4r t).2.2;omega) (fun u hu=>by
      rw [hl2] at hu;have hs:=z54 hu;have:=zck t;exact c_keach1 n u (by omega) (by omega) (z0c hu) (by simp only [M61];omega))
     refine .inr ⟨([],(z03 t 131).2.1,0),cS,br_f rfl (br_t rfl (z02 (fun ha=>⟨_,ca,z02 (fun q=> ?_) (fun q=>⟨z3a L,cbody,X++ [(vs,t,z3a L)],fin _ ?_⟩)⟩) (fun ha=>⟨z3a L,cbody,X++ [(vs,t,z3a L)],fin _ ?_⟩)))⟩
     · have ha:any=false:=by simpa using ha
       rw [if_pos (by rw [ha,q];rfl)];exact z6o
     · rw [q,Bool.and_false]
     · have ha:any=true:=by simpa using ha
       rw [ha];rfl
 rw [if_neg hnm];by_cases hand:(z03 t 131).1=nAnd
 · rw [if_pos hand];obtain ⟨a,c,e,e2,hk⟩:=z0m (by omega) he (.inl hand);have cS:=z2h t 131 hz (by rw [e];simp);rw [e,hand,he] at cS;have hs:=z83 e2;have hta:=z3e false n any vs L a;have ca:=subc L X a (by rw [e2];simp) hk hg' (by omega) (by omega);have cc:=subc L (X++(clsF false n any vs L a).2) c (by rw [e2];simp) hk hg' (by omega) (by rw [List.length_append];omega);rw [e]
   refine .inr ⟨(nAnd,[a,c],0),cS,br_f rfl (br_f rfl (br_t rfl ⟨⟨by omega,by show (0:Int)<2;omega⟩,⟨by show 0<2;omega,(z1c a).trans (z5a a).symm,rfl⟩,((clsF false n any vs L a).1,X++(clsF false n any vs L a).2),by rw [show aE (List.getD (FTs [a,c]) 0 [])=aT a from z1o a];exact ca,
    z02 (fun q=> ?_) (fun q=>⟨⟨by omega,by show (1:Int)<2;omega⟩,⟨by show 1<2;omega,(z1c c).trans (z5a c).symm,rfl⟩,((clsF false n any vs L c).1,(X++(clsF false n any vs L a).2)++(clsF false n any vs L c).2),by rw [show aE (List.getD (FTs [a,c]) 1 [])=aT c from z1o c];exact cc, ?_⟩)⟩))⟩
   · have q:(clsF false n any vs L a).1≠0:=by simpa using q
     rw [if_pos (show (clsF false n any vs L (at0 [a,c])).1≠0 from q)];exact ⟨.refl _,rfl⟩
   · have q:(clsF false n any vs L a).1=0:=by simpa using q
     rw [if_neg (show¬(clsF false n any vs L (at0 [a,c])).1≠0 from fun p=>p q)];refine ⟨.refl _, ?_⟩;rw [List.append_assoc];rfl
 rw [if_neg hand];by_cases hpi:(z03 t 131).1=nPi
 · rw [if_pos hpi];obtain ⟨a,e,e2,hk⟩:=z1q (by omega) he (.inl hpi);have cS:=z2h t 131 hz (by rw [e];simp);rw [e,hpi,he] at cS;have hu:a∈(z00 t).2:=by rw [e2];simp
   have hz2:=z54 hu;have hb2:=z7b (z0c hu);have cb1:=zl3 a (z0c hu) (by omega) (z2d (by simp only [M61];omega) _ (ht.arg hu).2.2);have cu:=zta vs L any (by omega) h0 (by simp only [M61];omega) (fun g q=>⟨by have:=(hg g q).2.1;simp only [B];omega,z2d (by simp only [M61];omega) _ (hg g q).2.2⟩)
   have ca:=h.2 any (vs+1) (L.map fun g=>shT 0 1 g 0) (z0g a) X (by have:=z2g hu hk;have:=z6b (z0c hu);omega) (ht.body (by omega) hu) (fun g q=>by
    obtain ⟨g',q',rfl⟩:=List.mem_map.1 q;exact (hg g' q').sh (by omega)) (by omega) (by omega) (by rw [List.length_map];omega) (by omega)
   rw [e]
   exact .inr ⟨(nPi,[a],0),cS,br_f rfl (br_f rfl (br_f rfl (br_t rfl ⟨⟨by omega,by show (0:Int)<1;omega⟩,⟨by show 0<1;omega,(z1c a).trans (z5a a).symm,rfl⟩,_,by rw [show aE (List.getD (FTs [a]) 0 [])=aT a from z1o a];exact cb1,(vs+1,(L.map fun g=>shT 0 1 g 0),any),cu,
    ((clsF false n any (vs+1) (L.map fun g=>shT 0 1 g 0) (z0g a)).1,X++(clsF false n any (vs+1) (L.map fun g=>shT 0 1 g 0) (z0g a)).2),ca, .refl _,rfl⟩)))⟩
 rw [if_neg hpi];by_cases himp:(z03 t 131).1=nImp
 · rw [if_pos himp];obtain ⟨a,c,e,e2,hk⟩:=z0m (by omega) he (.inr (.inr (.inl himp)));have cS:=z2h t 131 hz (by rw [e];simp);rw [e,himp,he] at cS;have hs:=z83 e2;have ca:=sub a (by rw [e2];simp) hk;have cw:=ztk vs L any a (by omega)
   have cc:=subc (L++ [a]) X c (by rw [e2];simp) hk (fun g q=>by
    rcases List.mem_append.1 q with q | q
    · exact hg' g q
    · have:g=a:=by simpa using q
      subst this;exact ht.arg (by rw [e2];simp)) (by simp) (by omega)
   rw [e]
   refine .inr ⟨(nImp,[a,c],0),cS,br_f rfl (br_f rfl (br_f rfl (br_f rfl (br_t rfl ⟨[c,a],zkc a c,⟨by omega,by show (1:Int)<2;omega⟩,⟨by show 1<2;omega,(z1c a).trans (z5a a).symm,rfl⟩,z07 false n a,by rw [show aE (List.getD (FTs [c,a]) 1 [])=aT a from z1o a];exact ca,
    z02 (fun q=> ?_) (fun q=>⟨⟨by omega,by show (0:Int)<2;omega⟩,⟨by show 0<2;omega,(z1c c).trans (z5a c).symm,rfl⟩,⟨by omega,by show (1:Int)<2;omega⟩,⟨by show 1<2;omega,(z1c a).trans (z5a a).symm,rfl⟩,(vs,L++ [a],any),by rw [show aE (List.getD (FTs [c,a]) 1 [])=aT a from z1o a];exact cw,
     ((clsF false n any vs (L++ [a]) c).1,X++(clsF false n any vs (L++ [a]) c).2),by rw [show aE (List.getD (FTs [c,a]) 0 [])=aT c from z1o c];exact cc, ?_⟩)⟩))))⟩
   · have q:z07 false n a≠0:=by simpa using q
     rw [if_pos (show z07 false n (at0 [a,c])≠0 from q)];exact z6o
   · have q:z07 false n a=0:=by simpa using q
     rw [if_neg (show¬z07 false n (at0 [a,c])≠0 from fun p=>p q)];exact ⟨.refl _,rfl⟩
 rw [if_neg himp];by_cases hif:(z03 t 131).1=nIf
 · rw [if_pos hif];obtain ⟨a,c,e,e2,hk⟩:=z0m (by omega) he (.inr (.inr (.inr hif)));have cS:=z2h t 131 hz (by rw [e];simp);rw [e,hif,he] at cS;have hs:=z83 e2;have cc:=sub c (by rw [e2];simp) hk;have cw:=ztk vs L any c (by omega)
   have ca:=subc (L++ [c]) X a (by rw [e2];simp) hk (fun g q=>by
    rcases List.mem_append.1 q with q | q
    · exact hg' g q
    · have:g=c:=by simpa using q
      subst this;exact ht.arg (by rw [e2];simp)) (by simp) (by omega)
   rw [e]
   refine .inr ⟨(nIf,[a,c],0),cS,br_f rfl (br_f rfl (br_f rfl (br_f rfl (br_f rfl (br_t rfl ⟨⟨by omega,by show (1:Int)<2;omega⟩,⟨by show 1<2;omega,(z1c c).trans (z5a c).symm,rfl⟩,z07 false n c,by rw [show aE (List.getD (FTs [a,c]) 1 [])=aT c from z1o c];exact cc,
    z02 (fun q=> ?_) (fun q=>⟨⟨by omega,by show (0:Int)<2;omega⟩,⟨by show 0<2;omega,(z1c a).trans (z5a a).symm,rfl⟩,⟨by omega,by show (1:Int)<2;omega⟩,⟨by show 1<2;omega,(z1c c).trans (z5a c).symm,rfl⟩,(vs,L++ [c],any),by rw [show aE (List.getD (FTs [a,c]) 1 [])=aT c from z1o c];exact cw,
     ((clsF false n any vs (L++ [c]) a).1,X++(clsF false n any vs (L++ [c]) a).2),by rw [show aE (List.getD (FTs [a,c]) 0 [])=aT a from z1o a];exact ca, ?_⟩)⟩)))))⟩
   · have q:z07 false n c≠0:=by simpa using q
     rw [if_pos (show z07 false n (at1 [a,c])≠0 from q)];exact z6o
   · have q:z07 false n c=0:=by simpa using q
     rw [if_neg (show¬z07 false n (at1 [a,c])≠0 from fun p=>p q)];exact ⟨.refl _,rfl⟩
 rw [if_neg hif];have ne:∀ {s:List UInt8},¬(z03 t 131).1=s→(((z03 t 131).1:List UInt8)==s)=false:=fun q=>by simpa using q
 by_cases hl:(z03 t 131).2.1=[]
 · have cS:=z6a t 131 hz hl;rw [he] at cS;exact .inl ⟨((z03 t 131).1,0),cS,br_f rfl (br_f (ne hnm) (br_f (ne hand) (br_f (ne hpi) (br_f (ne himp) (br_f (ne hif) z6o)))))⟩
 · have cS:=z2h t 131 hz hl;rw [he] at cS;exact .inr ⟨((z03 t 131).1,(z03 t 131).2.1,0),cS,br_f rfl (br_f (ne hnm) (br_f (ne hand) (br_f (ne hpi) (br_f (ne himp) (br_f (ne hif) z6o)))))⟩
theorem zrd:∀ n:Nat,n≤1000000000→GC n
 | 0,_=>⟨fun t hw _=>by have:=zck t;have:=t.sz_pos;omega,fun _ _ _ t _ hw _=>by have:=zck t;have:=t.sz_pos;omega⟩
 | n+1,hn=>by
  have h:=zrd n (by omega);exact ⟨fun t hw ht=>zsw h hn t hw ht,fun any vs L t X hw ht hg h0 h1 hL hX=>zsv h hn any vs L t X hw ht hg h0 h1 hL hX⟩
theorem ztl (n:Nat)(hn:n≤1000000000)(t:Tm)(hw:wt t≤n)(ht:TG n t):AC Tryz.prog 48 [aT t] [] (ci (z07 false n t)) []:=(zrd n hn).1 t hw ht
theorem c_kparts (n:Nat)(hn:n≤1000000000)(t:Tm)(hw:wt t≤n)(ht:TG n t):AC Tryz.prog 147 [aT t] [] (.tup [(false,[.a (.fz (.sl false 9 (CLs (z1k n true t))))]),(false,[.a (.fz (.int .i64 (clsF false n true 0 [] t).1))])]) []:=zud (zrd n hn) hn t hw ht
end Go.AM

set_option maxRecDepth 100000
open Go Go.Proofs
namespace Go.AM
def pR (p:Pl):List FV:=[.bool p.1, .int .i64 p.2.1, .int .i64 p.2.2]
def PR (l:List Pl):List (List FV):=l.map pR
theorem z2w (l:List Pl):(PR l).length=l.length:=by simp [PR]
theorem zih {l:List Pl}{i:Nat}(h:i<l.length):List.getD (PR l) i []=pR (l.getD i (false,0,0)):=by
 simp [PR,List.getD,List.getElem?_eq_getElem h]
theorem znx (l:List Pl)(i:Nat)(p:Pl):List.set (PR l) i (pR p)=PR (l.set i p):=by
 simp [PR,List.map_set]
abbrev obL (n:Nat):AObj:= .arr 1 [[.a (.osl 1 3 0 n)]]
theorem zqk (l:List Pl)(i:Nat)(p:Int×Int):AC Tryz.prog 82 [ci i, .agg [.a (.fz (.bool true)), .a (.fz (.int .i64 p.1)), .a (.fz (.int .i64 p.2))], .c (.a (.ep 0 1 0 0))] [obL l.length, .arz 3 (PR l)]
  (cb (z3b l i p).isSome) [obL l.length, .arz 3 (PR ((z3b l i p).getD l))]:=by
 refine AC.vc hP sh lv82 (Nat.le_refl _) (by simp [isLive]) (by simp) (Eq.mpr (v82 ..) ?_);rw [Int.toNat_natCast,Nat.zero_add];refine z02 (fun h=> ?_) (fun h=> ?_)
 · have h:=of_decide_eq_true h;rw [z3b,if_neg (by omega)];exact ⟨.refl _,rfl⟩
 · have h:=of_decide_eq_false h;have hi:i<l.length:=by omega
   have hn:(0:Int)≤(i:Int)∧(i:Int)<((l.length:Nat):Int):=⟨by omega,by omega⟩;have e:=zih hi;rw [z3b,if_pos (by omega),Int.toNat_natCast];have e2:List.set (PR l) i [.bool true, .int .i64 p.1, .int .i64 p.2]=PR (l.set i (true,p)):=znx l i (true,p);have hi2:i<(l.set i (true,p)).length:=by simpa using hi
   have e3:=zih hi2;rw [e2,e,e3];have e4:(l.set i (true,p)).getD i (false,0,0)=(true,p):=by simp [List.getD,hi]
   rw [e4];generalize l.getD i (false,0,0)=q;obtain ⟨m,x,y⟩:=q;refine ⟨hn,⟨by rw [z2w];exact hi,rfl,rfl⟩,z02 (fun h1=> ?_) (fun h1=> ?_)⟩
   · have h1:m=false:=by simpa [pR,FV.asB] using h1
     subst h1;refine ⟨hn,⟨by rw [z2w];exact hi,rfl⟩,hn,⟨by rw [z2w];exact hi2,rfl,rfl⟩,z4g ?_,rfl⟩;simp [pR,FV.asB,FV.I]
   · have h1:m=true:=by simpa [pR,FV.asB] using h1
     subst h1;refine ⟨hn,⟨by rw [z2w];exact hi,rfl,rfl⟩, ?_⟩;by_cases hq:((true,x,y):Pl)=(true,p)
     · rw [if_neg (by simp),if_pos hq];obtain ⟨_,rfl⟩:=Prod.mk.inj hq;exact ⟨z4g (by simp [pR,FV.asB,FV.I]),rfl⟩
     · rw [if_neg (by simp),if_neg hq];refine ⟨z4g ?_,rfl⟩;obtain ⟨p1,p2⟩:=p;simp [pR,FV.asB,FV.I] at hq ⊢;exact hq
theorem zbb {l l':List Pl}{i:Int}{p:Int×Int}(h:z3b l i p=some l'):l'.length=l.length∧∀ q∈l',q∈l∨q=(true,p):=by
 unfold z3b at h;split at h
 · split at h
   · injection h with h
     subst h;exact ⟨by simp,fun q hq=>by rcases List.mem_or_eq_of_mem_set hq with h | h;exact .inl h;exact .inr h⟩
   · split at h
     · injection h with h
       subst h;exact ⟨rfl,fun q hq=> .inl hq⟩
     · cases h
 · cases h
theorem znc {l:List Pl}{i k a:Int}(h:(l.getD i.toNat (false,0,0)).1=false):zb9 l i k a=some l:=by rw [zb9,if_pos h]
theorem zi8 {l:List Pl}{i k a:Int}(h:(l.getD i.toNat (false,0,0)).1=true):zb9 l i k a=
  if (aftR k (l.getD i.toNat (false,0,0)).2).2.2=false then none else if (aftR k (l.getD i.toNat (false,0,0)).2).2.1=false then some l
  else if k=9∨k=10 then (match z3b l a (aftR k (l.getD i.toNat (false,0,0)).2).1 with
   | none=>none
   | some l'=>if k=10 then some l' else z3b l' (i+1) (aftR k (l.getD i.toNat (false,0,0)).2).1)
  else z3b l (i+1) (aftR k (l.getD i.toNat (false,0,0)).2).1:=by
 rw [zb9,if_neg (by rw [h];simp)];generalize (l.getD i.toNat (false,0,0)).2=p;obtain ⟨x,y⟩:=p;unfold aftR;by_cases h1:k=3∨k=4
 · rw [if_pos h1,if_pos h1];by_cases h2:((x,y):Int×Int)=(0,0)
   · rw [if_pos h2];injection h2 with a b;subst a;subst b;rfl
   · rw [if_neg h2]
     have:(x==0&&y==0)=false:=by
      rw [Bool.and_eq_false_iff];by_cases hx:x=0
      · right;subst hx;simpa using h2
      · left;simpa using hx
     rw [if_pos this]
 rw [if_neg h1,if_neg h1];by_cases h2:k=8
 · rw [if_pos h2,if_pos h2];rfl
 rw [if_neg h2,if_neg h2];by_cases h3:(aftP k (x,y)).1<0∨(aftP k (x,y)).2<0
 · have e:(decide ((aftP k (x,y)).1≥0)&&decide ((aftP k (x,y)).2≥0))=false:=by
    simp only [Bool.and_eq_false_iff,decide_eq_false_iff_not];omega
   rw [if_pos h3];dsimp only;rw [e,if_pos rfl]
 · have e:(decide ((aftP k (x,y)).1≥0)&&decide ((aftP k (x,y)).2≥0))=true:=by
    simp only [Bool.and_eq_true,decide_eq_true_eq];omega
   rw [if_neg h3];dsimp only;rw [e];simp only [Bool.true_eq_false,if_false]
   try rfl
theorem aft_bd {k:Int}{p:Int×Int}{n:Int}(h1:0≤p.1∧p.1≤n)(h2:0≤p.2∧p.2≤n)(hn:0≤n)(hk:(aftR k p).2.2=true):(0≤(aftR k p).1.1∧(aftR k p).1.1≤n+1)∧0≤(aftR k p).1.2∧(aftR k p).1.2≤n+1:=by
 unfold aftR at hk ⊢;split
 · simp only;omega
 split
 · simp only;omega
 rename_i q1 q2;rw [if_neg q1,if_neg q2] at hk;simp only [Bool.and_eq_true,decide_eq_true_eq] at hk ⊢;unfold aftP at hk ⊢;split<;>(try split)<;>(try split)<;>(try split)<;>simp_all<;>omega
abbrev fnM:TV:= .c (.fn (.func 82) [] [(false,[.ep 0 1 0 0])])
theorem zu9 (ins:List In1)(hB:ins.length≤B):∀ (b a:List In1) (l:List Pl),ins=a++b→l.length=ins.length→(∀ x∈b,(x.k=9∨x.k=10)→0≤x.a∧x.a≤B)→
  (∀ q∈l,(0≤q.2.1∧q.2.1≤a.length)∧0≤q.2.2∧q.2.2≤a.length)→
  RPt Tryz.prog 38 0 (cb (z1i l a.length b)) [] 1 ⟨[(3, .c (.a (.ep 0 1 0 0))),(4,fnM),(22, .c (.a (.fz (.sl false 8 (FIs ins))))),(23,ci ins.length),(24,ci a.length)],[(0,obL l.length),(1, .arz 3 (PR l))],2⟩
 | [],a,l,hx,hl,_,_=>by
  refine RPt.vc hP sh lv38 (Eq.mpr (v38_1a ..) ?_);refine z02 (fun h=>absurd (of_decide_eq_true h) ?_) (fun _=>z04 rfl);rw [hx];simp
 | x::b,a,l,hx,hl,ha,hq=>by
  have hla:a.length<l.length:=by rw [hl,hx];simp
  have hlt:(a.length:Int)<(ins.length:Int):=by omega
  simp only [B] at hB
  have next:∀ l':List Pl,l'.length=l.length→(∀ q∈l',(0≤q.2.1∧q.2.1≤(a.length:Int)+1)∧0≤q.2.2∧q.2.2≤(a.length:Int)+1)→zb9 l a.length x.k x.a=some l'→
    RPt Tryz.prog 38 0 (cb (z1i l a.length (x::b))) [] 1 ⟨[(3, .c (.a (.ep 0 1 0 0))),(4,fnM),(22, .c (.a (.fz (.sl false 8 (FIs ins))))),(23,ci ins.length),(24,ci ((a.length:Int)+1))],[(0,obL l.length),(1, .arz 3 (PR l'))],2⟩:=fun l' h1 h2 h3=>by
   have:=zu9 ins (by simp only [B];omega) b (a++ [x]) l' (by rw [hx];simp) (by rw [h1,hl]) (fun y hy=>ha y (List.mem_cons_of_mem _ hy)) (fun q hm=>by
    have:=h2 q hm;simp only [List.length_append,List.length_singleton];omega)
   rw [nx,h1] at this;rw [z1i,h3];exact this
  have em:List.getD (FIs ins) (Int.toNat (a.length:Int)) []=FI x:=by rw [hx];exact z67 a x b
  have eq0:=zih hla;refine RPt.vc hP sh lv38 (Eq.mpr (v38_1a ..) ?_);rw [w64 (x:=(a.length:Int)+1) (by omega) (by omega),em,FI0,FI1,Int.toNat_natCast,Nat.zero_add,eq0];have hmem:l.getD a.length (false,0,0)∈l:=by simp [List.getD,List.getElem?_eq_getElem hla]
  have hbd:=hq _ hmem;have sno:=znc (l:=l) (i:=(a.length:Int)) (k:=x.k) (a:=x.a);have syes:=zi8 (l:=l) (i:=(a.length:Int)) (k:=x.k) (a:=x.a);rw [Int.toNat_natCast] at sno syes;generalize l.getD a.length (false,0,0)=q at*;obtain ⟨m,p⟩:=q;simp only at hbd sno syes;have hn:(0:Int)≤(a.length:Int)∧(a.length:Int)<((l.length:Nat):Int):=⟨by omega,by omega⟩;have hgrow:∀ q∈l,(0≤q.2.1∧q.2.1≤(a.length:Int)+1)∧0≤q.2.2∧q.2.2≤(a.length:Int)+1:=fun q hm=>by have:=hq q hm;omega
  refine z02 (fun _=>⟨⟨rfl,by omega,by rw [z06];exact hlt,by rw [←FI0 x,←FI1 x];exact fIr_FI x⟩,hn,⟨by rw [z2w];exact hla,rfl,rfl⟩,z02 (fun h1=> ?_) (fun h1=> ?_)⟩) (fun h=>absurd hlt (of_decide_eq_false h))
  · exact next l rfl hgrow (sno (by simpa [pR,FV.asB] using h1))
  have h1:m=true:=by simpa [pR,FV.asB] using h1
  subst h1;have hs:=syes rfl;have hc:=c_cafter true p x.k (by simp only [M61];omega) (by simp only [M61];omega);refine ⟨hn,⟨by rw [z2w];exact hla,rfl,rfl⟩,true,(aftR x.k p).1.1,(aftR x.k p).1.2,(aftR x.k p).2.1,(aftR x.k p).2.2,hc, ?_⟩;have none_no:zb9 l a.length x.k x.a=none→TV.Le (cb false) (cb (z1i l a.length (x::b)))∧([]:List AObj)=[]:=fun h=>z04 (by rw [z1i,h]);refine z02 (fun h2=> ?_) (fun h2=> ?_)
  · exact none_no (by rw [hs,if_pos (by simpa using h2)])
  have h2:(aftR x.k p).2.2=true:=by simpa using h2
  rw [if_neg (by rw [h2];simp)] at hs;have hb2:=aft_bd hbd.1 hbd.2 (by omega) h2
  have hm1:∀ (l1 l2:List Pl) (i:Int),(∀ q∈l1,(0≤q.2.1∧q.2.1≤(a.length:Int)+1)∧0≤q.2.2∧q.2.2≤(a.length:Int)+1)→z3b l1 i (aftR x.k p).1=some l2→l2.length=l1.length∧∀ q∈l2,(0≤q.2.1∧q.2.1≤(a.length:Int)+1)∧0≤q.2.2∧q.2.2≤(a.length:Int)+1:=fun l1 l2 i h3 h4=>by
   have:=zbb h4;refine ⟨this.1,fun q hm=> ?_⟩;rcases this.2 q hm with h | h
   · exact h3 q h
   · rw [h];exact hb2
  have hN:∀ (l1:List Pl),(((a.length:Nat):Int)+1)=((a.length+1:Nat):Int):=fun _=>by omega
  have go2:∀ l1:List Pl,l1.length=l.length→(∀ q∈l1,(0≤q.2.1∧q.2.1≤(a.length:Int)+1)∧0≤q.2.2∧q.2.2≤(a.length:Int)+1)→zb9 l a.length x.k x.a=z3b l1 ((a.length:Int)+1) (aftR x.k p).1→
    ∃ z:Bool×List (List FV),AC Tryz.prog 82 [ci ((a.length:Int)+1), .agg [.a (.fz (.bool true)), .a (.fz (.int .i64 (aftR x.k p).1.1)), .a (.fz (.int .i64 (aftR x.k p).1.2))], .c (.a (.ep 0 1 0 0))] [obL l.length, .arz 3 (PR l1)] (cb z.1) [obL l.length, .arz 3 z.2]∧
     br (!z.1) (TV.Le (cb false) (cb (z1i l a.length (x::b)))∧([]:List AObj)=[])
      (RPt Tryz.prog 38 0 (cb (z1i l a.length (x::b))) [] 1 ⟨[(3, .c (.a (.ep 0 1 0 0))),(4,fnM),(22, .c (.a (.fz (.sl false 8 (FIs ins))))),(23,ci ins.length),(24,ci ((a.length:Int)+1))],[(0,obL l.length),(1, .arz 3 z.2)],2⟩):=fun l1 e1 h3 h4=>by
   have hc2:=zqk l1 (a.length+1) (aftR x.k p).1;rw [e1,←hN l1] at hc2;refine ⟨(_,_),hc2,z02 (fun h=>none_no ?_) (fun h=> ?_)⟩
   · rw [h4];cases hm:z3b l1 ((a.length:Int)+1) (aftR x.k p).1 with
     | none=>rfl
     | some l2=>rw [hm] at h;cases h
   · cases hm:z3b l1 ((a.length:Int)+1) (aftR x.k p).1 with
     | none=>rw [hm] at h;cases h
     | some l2=>
      have h5:=hm1 l1 l2 _ h3 hm;exact next l2 (by rw [h5.1,e1]) h5.2 (by rw [h4,hm])
  cases ho:(aftR x.k p).2.1 with
  | false=>
   rw [if_pos ho] at hs;have:=next l rfl hgrow hs;refine z02 (fun _=> ?_) (fun _=> ?_)
   · exact this
   · exact this
  | true=>
   rw [if_neg (by rw [ho];simp)] at hs;by_cases hk:x.k=9∨x.k=10
   · rw [if_pos hk] at hs;have hxa:=ha x List.mem_cons_self hk;obtain ⟨j,hj⟩:∃ j:Nat,x.a=j:=⟨x.a.toNat,by omega⟩;have hc2:=zqk l j (aftR x.k p).1;rw [←hj] at hc2
     have key:∃ z:Bool×List (List FV),AC Tryz.prog 82 [ci x.a, .agg [.a (.fz (.bool true)), .a (.fz (.int .i64 (aftR x.k p).1.1)), .a (.fz (.int .i64 (aftR x.k p).1.2))], .c (.a (.ep 0 1 0 0))] [obL l.length, .arz 3 (PR l)] (cb z.1) [obL l.length, .arz 3 z.2]∧
      br (!z.1) (TV.Le (cb false) (cb (z1i l a.length (x::b)))∧([]:List AObj)=[])
       (br (x.k !=10) (∃ z7:Bool×List (List FV),AC Tryz.prog 82 [ci ((a.length:Int)+1), .agg [.a (.fz (.bool true)), .a (.fz (.int .i64 (aftR x.k p).1.1)), .a (.fz (.int .i64 (aftR x.k p).1.2))], .c (.a (.ep 0 1 0 0))] [obL l.length, .arz 3 z.2] (cb z7.1) [obL l.length, .arz 3 z7.2]∧
        br (!z7.1) (TV.Le (cb false) (cb (z1i l a.length (x::b)))∧([]:List AObj)=[])
         (RPt Tryz.prog 38 0 (cb (z1i l a.length (x::b))) [] 1 ⟨[(3, .c (.a (.ep 0 1 0 0))),(4,fnM),(22, .c (.a (.fz (.sl false 8 (FIs ins))))),(23,ci ins.length),(24,ci ((a.length:Int)+1))],[(0,obL l.length),(1, .arz 3 z7.2)],2⟩))
        (RPt Tryz.prog 38 0 (cb (z1i l a.length (x::b))) [] 1 ⟨[(3, .c (.a (.ep 0 1 0 0))),(4,fnM),(22, .c (.a (.fz (.sl false 8 (FIs ins))))),(23,ci ins.length),(24,ci ((a.length:Int)+1))],[(0,obL l.length),(1, .arz 3 z.2)],2⟩)):=by
      refine ⟨(_,_),hc2,z02 (fun h=>none_no ?_) (fun h=> ?_)⟩
      · cases hm:z3b l x.a (aftR x.k p).1 with
        | none=>rw [hm] at hs;exact hs
        | some l2=>rw [hm] at h;cases h
      · cases hm:z3b l x.a (aftR x.k p).1 with
        | none=>rw [hm] at h;cases h
        | some l2=>
         rw [hm] at hs;simp only at hs;have h5:=hm1 l l2 _ hgrow hm;refine z02 (fun h6=> ?_) (fun h6=> ?_)
         · rw [if_neg (by simpa using h6)] at hs;exact go2 l2 h5.1 h5.2 hs
         · rw [if_pos (by simpa using h6)] at hs;exact next l2 h5.1 h5.2 hs
     refine z02 (fun h9=> ?_) (fun h9=> ?_)
     · exact key
     · have h10:(x.k==10)=true:=by
        rcases hk with h | h
        · rw [h] at h9;cases h9
        · rw [h];rfl
       rw [h10];exact key
   · rw [if_neg hk] at hs;have h9:(x.k==9)=false:=by simp only [beq_eq_false_iff_ne];exact fun h=>hk (.inl h)
     have h10:(x.k==10)=false:=by simp only [beq_eq_false_iff_ne];exact fun h=>hk (.inr h)
     have h11:(x.k !=10)=true:=by rw [bne,h10];rfl
     rw [h9,h10,h11];exact go2 l rfl hgrow hs
theorem c_cways (c:Cd)(hB:c.ins.length≤B)(h0:0<c.ins.length)(ha:∀ x∈c.ins,(x.k=9∨x.k=10)→0≤x.a∧x.a≤B):AC Tryz.prog 38 [aC c] [] (cb (zdh c.ins)) []:=by
 have h:=zu9 c.ins hB c.ins [] ((List.replicate c.ins.length (false,0,0)).set 0 (true,0,0)) rfl (by simp) ha (fun q hq=>by
  rcases List.mem_or_eq_of_mem_set hq with h | h
  · rw [(List.mem_replicate.1 h).2];simp
  · rw [h];simp)
 have e:PR ((List.replicate c.ins.length (false,0,0)).set 0 (true,0,0))=List.set (List.replicate (Int.toNat (((FIs c.ins).length:Nat):Int)) [.bool false, .int .i64 0, .int .i64 0]) 0 (z2l (List.getD (List.replicate (Int.toNat (((FIs c.ins).length:Nat):Int)) [.bool false, .int .i64 0, .int .i64 0]) 0 []) 0 [.bool true]):=by
  rw [←znx,Int.toNat_natCast,z06];have:List.getD (List.replicate c.ins.length [FV.bool false, .int .i64 0, .int .i64 0]) 0 []=[.bool false, .int .i64 0, .int .i64 0]:=by simp [List.getD,h0]
  rw [this];simp [PR,pR,z2l]
 rw [e] at h;simp only [B] at hB;have hl:((FIs c.ins).length:Int)=(c.ins.length:Int):=by rw [z06]
 refine AC.vc hP sh lv38 (Nat.le_refl _) (by simp) (by simp) (Eq.mpr (v38 ..) ?_);refine ⟨rfl,⟨rfl,by omega,rfl,by omega,by omega, ?_⟩,⟨by omega, ?_⟩,⟨?_, ?_⟩,rfl, ?_⟩
 · unfold z0d;rw [Int.toNat_natCast,z06];omega
 · rw [Int.toNat_natCast,z06];omega
 · rw [List.length_replicate,Int.toNat_natCast,z06];exact h0
 · rw [Int.toNat_natCast,z06];simp [List.getD,h0]
 · have hn:((List.replicate c.ins.length ((false,0,0):Pl)).set 0 (true,0,0)).length=Int.toNat (((FIs c.ins).length:Nat):Int):=by simp [z06]
   rw [hn,←hl] at h;exact h
end Go.AM

set_option maxRecDepth 100000
open Go Go.Proofs
namespace Go.AM
theorem FI2 (x:In1):FV.I (List.getD (FI x) 2 FV.N)=x.t.k:=by cases x;rw [FI];rfl
theorem FI4 (x:In1):FV.I (List.getD (FI x) 4 FV.N)=x.t.n:=by cases x;rw [FI];rfl
theorem FI5 (x:In1):List.getD (FI x) 5 FV.N= .sl false 4 (FTs x.t.l):=by cases x;rw [FI];rfl
theorem el8 (ins:List In1)(i:Int)(h0:0≤i)(h1:i<ins.length)(x:In1):FV.L 8 (.sl false 8 (FIs ins))=true∧0≤i∧i<(((FIs ins).length:Nat):Int)∧
  ([.int .i64 x.k, .int .i64 x.a, .int .i64 x.t.k, .str x.t.s, .int .i64 x.t.n, .sl false 4 (FTs x.t.l), .sl false 4 (FTs x.l), .sl false 6 (FCs x.c)]:List FV)=FI x:=
 ⟨rfl,h0,by rw [z06];exact h1,(zqu x).symm⟩
def oddC (sl:Int)(d:Cd):Bool:=decide (d.fr>sl) || !vC d
theorem vCs_any (sl:Int)(l:List Cd):(!l.any (oddC sl))=vCs sl l:=by
 rw [zpj]
 induction l with
 | nil=>rfl
 | cons d l ih=>
  rw [List.any_cons,List.all_cons,←ih,Bool.not_or];congr 1;unfold oddC;by_cases h:d.fr≤sl
  · rw [decide_eq_false (by omega),decide_eq_true h];simp
  · rw [decide_eq_true (show d.fr>sl by omega),decide_eq_false h];rfl
theorem c_cins1 (c d:Cd)(h:AC Tryz.prog 13 [aC d] [] (cb (vC d)) []):AC Tryz.prog 122 [aC d, .c (.a (.ep 0 6 0 0))] [obC c] (cb (oddC c.sl d)) [obC c]:=by
 refine AC.vc hP sh lv122 (Nat.le_refl _) (by simp [isLive]) (by simp) (Eq.mpr (v122 ..) ?_);exact z02 (fun q=>⟨z4g (by rw [oddC,q];rfl),rfl⟩) (fun q=>⟨_,h,z4g (by rw [oddC,q];rfl),rfl⟩)
def ixC (p:Cd→Bool):List Cd→Nat→Int
 | [],_=> -1
 | t::l,i=>if p t=true then (i:Int) else ixC p l (i+1)
theorem zra (p:Cd→Bool):∀ (l:List Cd) (i:Nat),decide (ixC p l i≥0)=l.any p
 | [],_=>rfl
 | t::l,i=>by
  rw [ixC,List.any_cons];split
  · rename_i h;rw [h];simp
  · rename_i h;rw [zra p l,show p t=false by simpa using h,Bool.false_or]
theorem zuu (p:Cd→Bool)(c:Cd)(b:List Cd):∀ a:List Cd,(a++b).length≤B→(∀ u∈b,AC Tryz.prog 122 [aC u, .c (.a (.ep 0 6 0 0))] [obC c] (cb (p u)) [obC c])→RPt Tryz.prog 145 1 (ci (ixC p b a.length)) [obC c] 1 ⟨[(0,aCs (a++b)),(1, .c (.fn (.func 122) [] [(false,[.ep 0 6 0 0])])),(7,ci (a++b).length),(8,ci a.length)],[(0,obC c)],1⟩:=by
 induction b with
 | nil=>
  intro a hs _;refine RPt.vc hP sh ztx (Eq.mpr (z9t ..) ?_);exact z02 (fun h=>absurd (of_decide_eq_true h) (by simp)) (fun _=>⟨.refl _,rfl⟩)
 | cons t b ihb=>
  intro a hs ih;have h1:=ih t List.mem_cons_self;have h2:=ihb (a++ [t]) (by simpa using hs) (fun u hu=>ih u (List.mem_cons_of_mem _ hu));rw [ap,nx,show (a++ [t]).length=a.length+1 by simp] at h2;rw [ixC];simp only [List.length_append,List.length_cons,B] at hs;have h4:(a.length:Int)<((a++t::b).length:Int):=by simp only [List.length_append,List.length_cons];omega
  refine RPt.vc hP sh ztx (Eq.mpr (z9t ..) ?_);rw [w64 (by omega) (by omega),zm1];have e:=zj2 t;refine z02 (fun _=>⟨⟨rfl,by omega,by rw [z0l];exact h4,fCr_FC t⟩,p t,by rw [show (TV.agg [.a (.fz (.str (FV.S (List.getD (FC t) 0 FV.N)))), .a (.fz (.int .i64 (FV.I (List.getD (FC t) 1 FV.N)))), .a (.fz (.int .i64 (FV.I (List.getD (FC t) 2 FV.N)))), .a (.fz (.int .i64 (FV.I (List.getD (FC t) 3 FV.N)))), .a (.fz (.int .i64 (FV.I (List.getD (FC t) 4 FV.N)))), .a (.fz (List.getD (FC t) 5 FV.N))])=aC t from zj2 t];exact h1,z02 (fun h=> ?_) (fun h=> ?_)⟩) (fun h=>absurd h4 (of_decide_eq_false h))
  · rw [if_pos h];exact ⟨.refl _,rfl⟩
  · rw [if_neg (by rw [h];simp)];exact h2
theorem c_ccontc (c:Cd)(l:List Cd)(hl:l.length≤B)(h:∀ u∈l,AC Tryz.prog 13 [aC u] [] (cb (vC u)) []):AC Tryz.prog 123 [aCs l, .c (.fn (.func 122) [] [(false,[.ep 0 6 0 0])])] [obC c] (cb (!vCs c.sl l)) [obC c]:=by
 have h0:=zuu (oddC c.sl) c l [] hl (fun u hu=>c_cins1 c u (h u hu))
 have h1:AC Tryz.prog 145 [aCs l, .c (.fn (.func 122) [] [(false,[.ep 0 6 0 0])])] [obC c] (ci (ixC (oddC c.sl) l 0)) [obC c]:=by
  refine AC.vc hP sh ztx (Nat.le_refl _) (by simp [isLive]) (by simp) (Eq.mpr (zq3 ..) ?_);rw [z0l];exact ⟨rfl,h0⟩
 rw [←vCs_any,Bool.not_not];refine AC.vc hP sh lv123 (Nat.le_refl _) (by simp [isLive]) (by simp) (Eq.mpr (zu8 ..) ?_);exact ⟨_,h1,by rw [zra (oddC c.sl) l 0];exact ⟨.refl _,rfl⟩⟩
def z5t (a:List In1):Option (Int×Int):=a.getLast?.map fun y=>(y.k,y.a)
theorem z6p (a:List In1)(x:In1):z5t (a++ [x])=some (x.k,x.a):=by simp [z5t]
def insR (c:Cd)(a:List In1)(x:In1):Bool:=
 if x.k=5 then x.l.length==2 else if x.k=14 then vCs c.sl x.c else insB c.ar (c.fr+c.vs) c.sl c.ins.length a.length (z5t a) x.k x.a x.t
abbrev usesT (k:Int)(ok:Bool):TV:= .tup [(true,[.a (.fz (.bool (useT k))), .a (.fz (.bool (k==5))), .a (.fz (.bool (k==14))), .a (.fz (.bool (useA k)))]),(false,[.a (.fz (.bool ok))])]
theorem c_cins (c:Cd)(a b:List In1)(x:In1)(hx:c.ins=a++x::b)(hB:c.ins.length≤B)(hf:0≤c.fr+c.vs∧c.fr+c.vs≤B)(ht:x.t.sz≤B)(hc:x.c.length≤B)(hd:∀ d∈x.c,AC Tryz.prog 13 [aC d] [] (cb (vC d)) []):
  AC Tryz.prog 81 [aC c,ci a.length] [] (usesT x.k (insR c a x)) []:=by
 simp only [B] at hB hf;have hla:a.length<c.ins.length:=by rw [hx];simp
 have e:List.getD (FIs c.ins) (Int.toNat (a.length:Int)) []=FI x:=by rw [hx];exact z67 a x b
 have c1:=c_cpred x.t ht;have c2:=zuc x.t ht;have c3:=c_ccontc c x.c hc hd;have need:=el8 c.ins a.length (by omega) (by omega) x;have e5:((((FTs x.l).length:Nat):Int)==2)=(x.l.length==2):=by rw [z01,Bool.eq_iff_iff,beq_iff_eq,beq_iff_eq];omega
 have hlen:(((FIs c.ins).length:Nat):Int)=c.ins.length:=by rw [z06]
 refine AC.vc hP sh lv81 (Nat.le_refl _) (by simp) (by simp) (Eq.mpr (v81 ..) ?_);rw [e,w64 (x:=c.fr+c.vs) (by omega) (by omega)];simp only [FI0,FI1,FI2,FI3,FI4,FI5,FI6,FI7];refine ⟨need, ?_⟩;have hkinds:∀ ok,insR c a x=ok→True:=fun _ _=>trivial;rcases List.eq_nil_or_concat a with ha | ⟨a',y,ha⟩
 · subst ha;have h0:(decide ((([]:List In1).length:Int)>0))=false:=rfl;rw [h0];simp only [insR,insB,z5t,List.getLast?_nil,Option.map_none];simp only [FV.ses,e5,hlen];generalize x.k=k at*
   repeat' (first | refine z02 (fun _=> ?_) (fun _=> ?_) | refine ⟨_,c1, ?_⟩ | refine ⟨_,c2, ?_⟩ | refine ⟨_,c3, ?_⟩ | refine And.intro (show FV.L _ _=true by rfl) ?_)
   all_goals first
    | contradiction
    | (refine ⟨z4g ?_,by trivial⟩;simp_all [useT,useA]<;>omega)
 · have ha:a=a'++ [y]:=by simpa using ha
   subst ha;have h1:(decide (((a'++ [y]).length:Int)>0))=true:=by simp
   have e2:List.getD (FIs c.ins) (Int.toNat (IntKind.wrap .i64 (((a'++ [y]).length:Int)-1))) []=FI y:=by
    have q:IntKind.wrap .i64 (((a'++ [y]).length:Int)-1)=(a'.length:Int):=by
     simp only [List.length_append,List.length_singleton] at hla ⊢;rw [w64 (by omega) (by omega)];omega
    rw [q,hx,List.append_assoc];exact z67 a' y (x::b)
   have need2:=el8 c.ins (IntKind.wrap .i64 (((a'++ [y]).length:Int)-1)) (by
    simp only [List.length_append,List.length_singleton] at hla ⊢;rw [w64 (by omega) (by omega)];omega) (by
    simp only [List.length_append,List.length_singleton] at hla ⊢;rw [w64 (by omega) (by omega)];omega) y
   have c4:=c_chead y.k;rw [h1,e2];simp only [FI0,FI1,FI2,FI3,FI4,FI5,FI6,FI7];simp only [insR,insB,z6p];simp only [FV.ses,e5,hlen];rw [hlen] at need2;generalize x.k=k at*
   repeat' (first | refine z02 (fun _=> ?_) (fun _=> ?_) | refine ⟨_,c1, ?_⟩ | refine ⟨_,c2, ?_⟩ | refine ⟨_,c3, ?_⟩ | refine ⟨_,c4, ?_⟩ | refine And.intro (show FV.L 4 _=true by rfl) ?_ | refine And.intro need2 ?_ | refine And.intro (show FV.L 6 _=true by rfl) ?_ | refine And.intro (show FV.L 8 _=true by rfl) ?_)
   all_goals clear need need2 e e2 ha hx hd c1 c2 c3 c4 hkinds e5 hlen h1 hla
   all_goals first
    | contradiction
    | (refine ⟨z4g ?_,by trivial⟩;simp_all [useT,useA]<;>omega)
end Go.AM

set_option maxRecDepth 100000
open Go Go.Proofs
namespace Go.AM
def z2q (c:Cd)(a:List In1)(x:In1):Bool:=fldB c.ar (c.fr+c.vs) c.sl c.ins.length a.length (z5t a) x.k x.a x.t x.l x.c.isEmpty&&vCs c.sl x.c
theorem zuq (c:Cd)(a:List In1)(x:In1):z2q c a x=((x.k==14||((plB c.sl x.t||z52 x.t)&&x.l.all (plB c.sl)))&&(insR c a x&&((useA x.k||x.a==0)&&((x.k==14||x.c.isEmpty)&&((x.k==5||x.l.isEmpty)&&(if useT x.k=true then plB c.sl x.t else z52 x.t)))))):=by
 have hAV:plB c.sl x.t=true→z05 x.t=true:=fun h=>by unfold plB at h;simp only [Bool.and_eq_true] at h;exact h.1
 have hCs:x.c.isEmpty=true→vCs c.sl x.c=true:=fun h=>by rw [List.isEmpty_iff.1 h,vCs]
 have hLs:x.l.isEmpty=true→x.l.all (plB c.sl)=true:=fun h=>by rw [List.isEmpty_iff.1 h];rfl
 have h5:x.k=5→insB c.ar (c.fr+c.vs) c.sl c.ins.length a.length (z5t a) x.k x.a x.t=true:=fun h=>by rw [h];rfl
 have h14:x.k=14→insB c.ar (c.fr+c.vs) c.sl c.ins.length a.length (z5t a) x.k x.a x.t=true:=fun h=>by rw [h];rfl
 unfold z2q fldB insR;generalize insB c.ar (c.fr+c.vs) c.sl c.ins.length a.length (z5t a) x.k x.a x.t=I at*;generalize plB c.sl x.t=A at*;generalize z52 x.t=E at*;generalize z05 x.t=V at*;generalize x.l.all (plB c.sl)=Ls at*;generalize vCs c.sl x.c=W at*;generalize x.c.isEmpty=ce at*;generalize x.l.isEmpty=le at*;generalize (x.l.length==2)=l2 at*;generalize (x.a==0)=a0 at*;generalize x.k=k at*;by_cases q:k=14
 · have:=h14 q;subst q;cases E<;>cases le<;>cases a0<;>cases W<;>simp_all [useA,useT]
 by_cases q2:k=5
 · have:=h5 q2;subst q2;cases E<;>cases ce<;>cases l2<;>cases a0<;>cases Ls<;>simp_all [useA,useT]
 · have e1:(k==14)=false:=by simpa using q
   have e2:(k==5)=false:=by simpa using q2
   rw [e1,e2,if_neg q2,if_neg q2,if_neg q];generalize useT k=uT;generalize useA k=uA;cases uT<;>cases A<;>cases E<;>cases ce<;>cases Ls<;>simp_all
theorem zse (c:Cd) (a b:List In1) (x:In1) (hx:c.ins=a++x::b) (hB:c.ins.length≤B) (hf:0≤c.fr+c.vs∧c.fr+c.vs≤B) (ht:x.t.sz≤B) (hbt:bd 2305843009213693952 x.t) (hl:x.l.length≤B) (hs:∀ t∈x.l,t.sz≤B∧bd 2305843009213693952 t)
  (hc:x.c.length≤B) (hd:∀ d∈x.c,AC Tryz.prog 13 [aC d] [] (cb (vC d)) []):AC Tryz.prog 37 [aC c,ci a.length] [] (cb (z2q c a x)) []:=by
 have c0:=c_cins c a b x hx hB hf ht hc hd;have c1:=c_codd c x.t ht hbt;have c2:=c_cempty x.t ht;have c3:=c_anyOdd c x.l hl hs;have hla:a.length<c.ins.length:=by rw [hx];simp
 have e:List.getD (FIs c.ins) (Int.toNat (a.length:Int)) []=FI x:=by rw [hx];exact z67 a x b
 have need:=el8 c.ins a.length (by omega) (by omega) x;have hce:decide (((x.c.length:Nat):Int)>0)= !x.c.isEmpty:=by cases x.c<;>simp
 have hle:decide (((x.l.length:Nat):Int)>0)= !x.l.isEmpty:=by cases x.l<;>simp
 refine AC.vc hP sh lv37 (Nat.le_refl _) (by simp) (by simp) (Eq.mpr (v37 ..) ?_);rw [e];simp only [FI0,FI1,FI2,FI3,FI4,FI5,FI6,FI7];refine ⟨need, ?_⟩;rw [zuq];simp only [FV.ses,z0l,z01];rw [hce,hle,show (x.a !=0)= !(x.a==0) from rfl,show (x.k !=14)= !(x.k==14) from rfl];unfold usesT at c0;generalize insR c a x=OK at*;generalize plB c.sl x.t=A at*;generalize z52 x.t=E at*;generalize x.l.all (plB c.sl)=Ls at*;generalize x.c.isEmpty=ce at*;generalize x.l.isEmpty=le at*;generalize useA x.k=uA at*;generalize useT x.k=uT at*;generalize (x.a==0)=a0 at*;generalize (x.k==14)=k14 at*;generalize (x.k==5)=k5 at*
 repeat' (first | refine z02 (fun _=> ?_) (fun _=> ?_) | refine ⟨_,c1, ?_⟩ | refine ⟨_,c2, ?_⟩ | refine ⟨_,c3, ?_⟩ | refine ⟨_,_,_,_,_,c0, ?_⟩ | refine And.intro (show FV.L 4 _=true by rfl) ?_ | refine And.intro (show FV.L 6 _=true by rfl) ?_)
 all_goals clear c0 c1 c2 c3 hx hB hf ht hbt hl hs hc hd hla e need hce hle
 all_goals refine ⟨z4g ?_,by trivial⟩
 all_goals (simp_all;done)
mutual
def nbC:Cd→Prop
 | .mk _ _ _ _ _ ins=>nbIs ins
def nbIs:List In1→Prop
 | []=>True
 | .mk _ _ t l c::r=>(bd 2305843009213693952 t∧(∀ u∈l,bd 2305843009213693952 u)∧nbCs c)∧nbIs r
def nbCs:List Cd→Prop
 | []=>True
 | c::r=>nbC c∧nbCs r
end
theorem z8s:∀ {l:List In1} {x:In1},nbIs l→x∈l→bd 2305843009213693952 x.t∧(∀ u∈x.l,bd 2305843009213693952 u)∧nbCs x.c
 | .mk k a t q c::r,x,h,hm=>by
  rw [nbIs] at h;rcases List.mem_cons.1 hm with rfl | hm
  · exact h.1
  · exact z8s h.2 hm
theorem zf5:∀ {l:List Cd} {d:Cd},nbCs l→d∈l→nbC d
 | c::r,d,h,hm=>by
  rw [nbCs] at h;rcases List.mem_cons.1 hm with rfl | hm
  · exact h.1
  · exact zf5 h.2 hm
theorem zgo {c:Cd}(h:nbC c):nbIs c.ins:=by cases c;rw [nbC] at h;exact h
theorem zmv (c:Cd)(hz:zC c)(hn:nbC c)(hf:0≤c.fr+c.vs∧c.fr+c.vs≤B)(ih:∀ x∈c.ins,∀ d∈x.c,AC Tryz.prog 13 [aC d] [] (cb (vC d)) [])(h0:0<c.ins.length):∀ (b a:List In1),c.ins=a++b→
  (∀ x∈a,(x.k=9∨x.k=10)→0≤x.a∧x.a≤B)→
  RPt Tryz.prog 13 0 (cb (vIs c.ar (c.fr+c.vs) c.sl c.ins.length a.length (z5t a) b&&zdh c.ins)) [] 3 ⟨[(5, .c (.a (.ep 0 6 0 0))),(68,ci c.ins.length),(69,ci a.length)],[(0,obC c)],1⟩
 | [],a,hx,ha=>by
  have hl:c.ins.length≤B:=(z69 hz).2.1;have h1:=c_cways c hl h0 (fun x hm=>ha x (by rw [hx] at hm;simpa using hm));refine RPt.vc hP sh lv13 (Eq.mpr (v13_3a ..) ?_);refine z02 (fun h=>absurd (of_decide_eq_true h) ?_) (fun _=>⟨_,h1,z04 (by rw [vIs];rfl)⟩);rw [hx];simp
 | x::b,a,hx,ha=>by
  have hxm:x∈c.ins:=by rw [hx];simp
  have z4:=z7f (z69 hz).2.2 hxm;have z5:=Tm.sz_bk x.t;have z6:=Tm.szs_bks x.l;have z7:=Tm.szs_length x.l;have z8:=z4.2.2.1;have n1:=z8s (zgo hn) hxm;have hl:c.ins.length≤B:=(z69 hz).2.1;have hla:a.length<c.ins.length:=by rw [hx];simp
  have h1:=zse c a b x hx hl hf (by omega) n1.1 (by omega) (fun t ht=>⟨by have:=Tm.szs_mem ht;omega,n1.2.1 t ht⟩) (by omega) (ih x hxm)
  have ev:vIs c.ar (c.fr+c.vs) c.sl c.ins.length a.length (z5t a) (x::b)=(z2q c a x&&vIs c.ar (c.fr+c.vs) c.sl c.ins.length ((a.length:Int)+1) (some (x.k,x.a)) b):=by
   cases x;rw [vIs,z2q,Bool.and_assoc];rfl
  rw [ev];simp only [B] at hl;refine RPt.vc hP sh lv13 (Eq.mpr (v13_3a ..) ?_);rw [w64 (x:=(a.length:Int)+1) (by omega) (by omega)];refine z02 (fun _=>⟨_,h1,z02 (fun h=>z04 ?_) (fun h=> ?_)⟩) (fun h=>absurd (of_decide_eq_false h) (by omega))
  · rw [show z2q c a x=false by simpa using h];rfl
  · have hfb:z2q c a x=true:=by simpa using h
    have:=zmv c hz hn hf ih h0 b (a++ [x]) (by rw [hx];simp) (fun y hy hk=>by
     rcases List.mem_append.1 hy with hy | hy
     · exact ha y hy hk
     · have hy:y=x:=by simpa using hy
       subst hy
       have:insB c.ar (c.fr+c.vs) c.sl c.ins.length a.length (z5t a) y.k y.a y.t=true:=by
        unfold z2q fldB at hfb;simp only [Bool.and_eq_true] at hfb;exact hfb.1.2.1
       unfold insB at this;rw [if_neg (by omega),if_neg (by omega),if_neg (by omega),if_pos hk] at this;have:=of_decide_eq_true this;simp only [B];omega)
    rw [nx,z6p] at this;rw [hfb,Bool.true_and];exact this
theorem zlu {l:List In1}(h:l.length=0):zh0 l=false:=by rw [List.eq_nil_of_length_eq_zero h];rfl
theorem zjd:∀ c:Cd,zC c→nbC c→AC Tryz.prog 13 [aC c] [] (cb (vC c)) []:=by
 refine Cd.ind fun c ih hz hn=> ?_;have z3:=z69 hz;have hl:c.ins.length≤B:=z3.2.1;simp only [B] at hl;have ih':∀ x∈c.ins,∀ d∈x.c,AC Tryz.prog 13 [aC d] [] (cb (vC d)) []:=fun x hx d hd=>ih x hx d hd (zfz (z7f z3.2.2 hx).2.2.2 hd) (zf5 (z8s (zgo hn) hx).2.2 hd);have c1:=zmu c.nm;have c2:=zpq c.nm;have c3:=z57 c.nm;have c4:=c_ccount [c.ar,c.fr,c.vs,c.sl] (by simp [B]);have eV:vC c=(nmB c.nm&&(cntB c.ar c.fr c.vs c.sl&&(zh0 c.ins&&(vIs c.ar (c.fr+c.vs) c.sl c.ins.length 0 none c.ins&&zdh c.ins)))):=by cases c;rw [vC];rfl
 rw [eV];have hlen:(((FIs c.ins).length:Nat):Int)=c.ins.length:=by rw [z06]
 have tail:nmB c.nm=true→∀ R:Prop,(∀ b:Bool,R→False)∨True→True:=fun _ _ _=>trivial
 have ecnt:(!([c.ar,c.fr,c.vs,c.sl].any cntN))=true→(0≤c.ar∧c.ar≤4096)∧(0≤c.fr∧c.fr≤4096)∧(0≤c.vs∧c.vs≤4096)∧(0≤c.sl∧c.sl≤4096):=fun h=>by
  simp only [List.any_cons,List.any_nil,cntN,Bool.not_or,Bool.not_false,Bool.and_true,Bool.and_eq_true,Bool.not_eq_true',decide_eq_false_iff_not] at h;omega
 have ecnt2:(!([c.ar,c.fr,c.vs,c.sl].any cntN))=false→cntB c.ar c.fr c.vs c.sl=false:=fun h=>by
  unfold cntB;refine decide_eq_false fun q=> ?_
  have:(!([c.ar,c.fr,c.vs,c.sl].any cntN))=true:=by
   simp only [List.any_cons,List.any_nil,cntN,Bool.not_or,Bool.not_false,Bool.and_true,Bool.and_eq_true,Bool.not_eq_true',decide_eq_false_iff_not];omega
  rw [this] at h;cases h
 have loop:0<c.ins.length→0≤c.fr+c.vs∧c.fr+c.vs≤B→RPt Tryz.prog 13 0 (cb (vIs c.ar (c.fr+c.vs) c.sl c.ins.length 0 none c.ins&&zdh c.ins)) [] 3 ⟨[(5, .c (.a (.ep 0 6 0 0))),(68,ci c.ins.length),(69,ci 0)],[(0,obC c)],1⟩:=fun h0 hf=>zmv c hz hn hf ih' h0 c.ins [] rfl (fun x hx=>by cases hx);have rest:nmB c.nm=true→(∃ b3:Bool,AC Tryz.prog 36 [.c (.a (.fz (.sl false 1 [[.int .i64 c.ar],[.int .i64 c.fr],[.int .i64 c.vs],[.int .i64 c.sl]])))] [] (cb b3) []∧(true=true)∧True):=fun _=>⟨_,c4,rfl,trivial⟩
 have hlast:0<c.ins.length→∃ y a',c.ins=a'++ [y]∧zh0 c.ins=(y.k==3||y.k==4||y.k==8)∧List.getD (FIs c.ins) (Int.toNat (IntKind.wrap .i64 ((c.ins.length:Int)-1))) []=FI y∧0≤IntKind.wrap .i64 ((c.ins.length:Int)-1)∧IntKind.wrap .i64 ((c.ins.length:Int)-1)<c.ins.length:=fun h0=>by
  rcases List.eq_nil_or_concat c.ins with h | ⟨a',y,h⟩
  · rw [h] at h0;cases h0
  · have h:c.ins=a'++ [y]:=by simpa using h
    rw [w64 (by omega) (by omega)];refine ⟨y,a',h,by rw [h];simp [zh0], ?_,by omega,by omega⟩;rw [show (c.ins.length:Int)-1=a'.length by rw [h];simp,h];exact z67 a' y []
 refine AC.vc hP sh lv13 (Nat.le_refl _) (by simp) (by simp) (Eq.mpr (v13 ..) ?_);refine ⟨rfl,_,c1, ?_⟩;rw [hlen];by_cases h0:0<c.ins.length
 · obtain ⟨y,a',hy1,hy2,hy3,hy4,hy5⟩:=hlast h0;have need:=el8 c.ins _ hy4 hy5 y;have en:((c.ins.length:Int)==0)=false:=by rw [beq_eq_false_iff_ne];omega
   rw [hy3,en,hy2];simp only [FI0,FI1,FI2,FI3,FI4,FI5,FI6,FI7];rw [hlen] at need;have hgo:=loop h0;clear loop hlast hy1 hy2 hy3 hy4 hy5 tail rest eV ih ih' z3 hl hn hz;unfold nmB;cases hcnt:(!([c.ar,c.fr,c.vs,c.sl].any cntN)) with
   | false=>
    have hc0:=ecnt2 hcnt;rw [hcnt] at c4;rw [hc0];clear ecnt ecnt2
    repeat' (first | refine z02 (fun _=> ?_) (fun _=> ?_) | refine ⟨_,c2, ?_⟩ | refine ⟨_,c3, ?_⟩ | refine ⟨_,c4, ?_⟩ | refine And.intro (And.intro True.intro (Nat.le_refl 4)) ?_ | refine And.intro (And.intro (rfl:(1:Nat)=1) (Nat.le_refl 4)) ?_ | refine And.intro True.intro ?_ | refine And.intro (rfl:true=true) ?_ | refine And.intro need ?_ | fail)
    all_goals first
     | contradiction
     | exact ⟨z4g (by rw [Bool.false_and,Bool.and_false]),by trivial⟩
   | true=>
    have hb:=ecnt hcnt;rw [hcnt] at c4;rw [w64 (x:=c.fr+c.vs) (by omega) (by omega)];have hgo:=hgo (by simp only [B];omega)
    have hc1:cntB c.ar c.fr c.vs c.sl= !decide (c.fr+c.vs>c.sl):=by
     unfold cntB;by_cases q:c.fr+c.vs>c.sl
     · rw [decide_eq_true q,decide_eq_false (by omega)];rfl
     · rw [decide_eq_false q,decide_eq_true (by omega)];rfl
    rw [hc1];clear hc1 ecnt ecnt2 hcnt hb en h0;generalize (vIs c.ar (c.fr+c.vs) c.sl c.ins.length 0 none c.ins&&zdh c.ins)=V at*;generalize decide (c.fr+c.vs>c.sl)=d at*;generalize z5r c.nm=n1 at*;generalize zaf c.nm=n2 at*;generalize logB c.nm=lg at*;generalize (y.k==3)=k3 at*;generalize (y.k==4)=k4 at*;generalize (y.k==8)=k8 at*
    repeat' (first | refine z02 (fun _=> ?_) (fun _=> ?_) | refine ⟨_,c2, ?_⟩ | refine ⟨_,c3, ?_⟩ | refine ⟨_,c4, ?_⟩ | refine And.intro (And.intro True.intro (Nat.le_refl 4)) ?_ | refine And.intro (And.intro (rfl:(1:Nat)=1) (Nat.le_refl 4)) ?_ | refine And.intro True.intro ?_ | refine And.intro (rfl:true=true) ?_ | refine And.intro need ?_ | fail)
    all_goals first
     | contradiction
     | (refine ⟨z4g ?_,by trivial⟩;clear hgo need c1 c2 c3 c4;simp_all;done)
     | ((have e9:((n1||n2) && !lg&&(!d&&((k3||k4||k8)&&V)))=V:=by (clear hgo need c1 c2 c3 c4;simp_all));rw [e9];exact hgo)
 · have hl0:c.ins.length=0:=by omega
   have en:((c.ins.length:Int)==0)=true:=by rw [beq_iff_eq];omega
   have hla:=zlu hl0;rw [en,hla,Bool.false_and,Bool.and_false,Bool.and_false];clear hlast
   repeat' (first | exact z04 rfl | refine z02 (fun _=> ?_) (fun _=> ?_) | refine ⟨_,c2, ?_⟩ | refine ⟨_,c3, ?_⟩ | refine ⟨_,c4, ?_⟩ | refine And.intro (And.intro True.intro (Nat.le_refl 4)) ?_ | refine And.intro (And.intro (rfl:(1:Nat)=1) (Nat.le_refl 4)) ?_ | refine And.intro True.intro ?_ | refine And.intro (rfl:true=true) ?_ | fail)
   all_goals contradiction
end Go.AM

set_option maxRecDepth 100000
open Go Go.Proofs

set_option maxRecDepth 100000
open Go Go.Proofs
namespace Go.AM
theorem zsr (s:List UInt8):∀ (b a:List (List UInt8)),a++b=logs→RPt Tryz.prog 32 0 (cb (b.contains s)) [] 1 ⟨[(0,cs s),(3, .c (.a (.osl 0 1 0 15))),(4,ci a.length)],[(0, .arz 1 (logs.map fun x=> [.str x]))],1⟩
 | [],a,h=>by
  have hl:a.length=15:=by rw [List.append_nil] at h;rw [h];rfl
  refine RPt.vc hP sh lv32 (Eq.mpr (v32_1a ..) ?_);exact z02 (fun q=>absurd (of_decide_eq_true q) (by omega)) (fun _=>z04 rfl)
 | x::b,a,h=>by
  have hl:a.length<15:=by
   have:=congrArg List.length h;simp only [List.length_append,List.length_cons] at this;have e:logs.length=15:=rfl;omega
  have next:=zsr s b (a++ [x]) (by rw [←h];simp);rw [nx] at next
  have e:List.getD (logs.map fun x=> [FV.str x]) (0+Int.toNat (a.length:Int)) []=[.str x]:=by
   rw [←h,Int.toNat_natCast,Nat.zero_add];simp [List.getD]
  refine RPt.vc hP sh lv32 (Eq.mpr (v32_1a ..) ?_);rw [e,w64 (x:=(a.length:Int)+1) (by omega) (by omega)];refine z02 (fun _=>⟨⟨by omega,by omega⟩,⟨by rw [List.length_map,Int.toNat_natCast];show _<15;omega,rfl,rfl⟩,z02 (fun q=>z04 ?_) (fun q=> ?_)⟩) (fun q=>absurd (of_decide_eq_false q) (by omega))
  · have:x=s:=by simpa [FV.S] using q
    rw [this];simp
  · have:¬x=s:=by simpa [FV.S] using q
    rw [show ((x::b).contains s)=b.contains s by simp [List.contains_cons,Ne.symm this]];exact next
theorem zcj (s:List UInt8):AC Tryz.prog 32 [cs s] [] (cb (logB s)) []:=by
 have h:=zsr s logs [] rfl;refine AC.vc hP sh lv32 (Nat.le_refl _) (by simp) (by simp) (Eq.mpr (v32 ..) ?_);exact h
theorem znd (t:Tm):AC Tryz.prog 103 [aT t] [] (cb (z52 t)) []:=by
 refine AC.vc hP sh lv103 (Nat.le_refl _) (by simp) (by simp) (Eq.mpr (v103 ..) ?_);have e:((((FTs t.l).length:Nat):Int)==0)=t.l.isEmpty:=by rw [z01];cases t.l<;>simp<;>omega
 rw [e];unfold z52;exact z02 (fun h=>z02 (fun h2=>z02 (fun h3=>⟨rfl,z04 (by rw [h,h2,h3];rfl)⟩) (fun h3=>z04 (by rw [h,h2,h3];rfl))) (fun h2=>z04 (by rw [h,h2];rfl))) (fun h=>z04 (by rw [h];rfl))
theorem zh5 (n:Int)(t:Tm)(hl:t.l.length≤B):∀ (b a:List Tm),t.l=a++b→(∀ u∈b,AC Tryz.prog 137 [aT u,ci n] [] (cb (unF n u)) [])→
  RPt Tryz.prog 137 0 (cb (b.all (unF n))) [] 1 ⟨[(1,ci n),(2, .c (.a (.ep 0 4 0 0))),(5,ci a.length)],[(0, .arr 4 [cT t])],1⟩
 | [],a,hx,_=>by
  refine RPt.vc hP sh zpz (Eq.mpr (zv7 ..) ?_);refine ⟨rfl,z02 (fun h=>absurd (of_decide_eq_true h) (by rw [z01,hx];simp)) (fun _=>z04 rfl)⟩
 | u::b,a,hx,ih=>by
  simp only [B] at hl;have hla:a.length<t.l.length:=by rw [hx];simp
  have h1:=ih u List.mem_cons_self;have next:=zh5 n t (by simp only [B];omega) b (a++ [u]) (by rw [hx];simp) (fun w hw=>ih w (List.mem_cons_of_mem _ hw));rw [nx] at next;have em:rE (List.getD (FTs t.l) (Int.toNat (a.length:Int)) [])=List.getD (FTs t.l) (Int.toNat (a.length:Int)) []:=by rw [hx];exact z1y a u b
  have ea:aE (List.getD (FTs t.l) (Int.toNat (a.length:Int)) [])=aT u:=by rw [hx];exact z45 a u b
  refine RPt.vc hP sh zpz (Eq.mpr (zv7 ..) ?_);rw [ea,w64 (x:=(a.length:Int)+1) (by omega) (by omega),List.all_cons];refine ⟨rfl,z02 (fun _=>⟨⟨rfl,by omega,by rw [z01];omega,em⟩,_,h1,z02 (fun h=>z04 ?_) (fun h=> ?_)⟩) (fun h=>absurd (of_decide_eq_false h) (by rw [z01];omega))⟩
  · rw [show unF n u=false by simpa using h];rfl
  · rw [show unF n u=true by simpa using h,Bool.true_and];exact next
theorem zrz (n:Int):∀ t:Tm,t.sz≤B→AC Tryz.prog 137 [aT t,ci n] [] (cb (unF n t)) []:=by
 refine Tm.ind fun t ih hs=> ?_;have hl:=Tm.szs_length t.l;have he:=t.sz_eq;have h1:=zh5 n t (by omega) t.l [] rfl (fun u hu=>ih u hu (by have:=Tm.szs_mem hu;omega));refine AC.vc hP sh zpz (Nat.le_refl _) (by simp) (by simp) (Eq.mpr (v137 ..) ?_);rw [znk];refine z02 (fun h=>z04 (by rw [h];rfl)) (fun h=>z02 (fun h'=>z02 (fun q=>z04 (by rw [h,h',q];rfl)) (fun q=> ?_)) (fun h'=> ?_))
 · rw [h,h',q,Bool.and_false,Bool.or_false,Bool.not_false,Bool.true_and];exact h1
 · rw [h,h',Bool.false_and,Bool.or_false,Bool.not_false,Bool.true_and];exact h1
theorem zr3:∀ (t:Tm) (k:Int),0≤z2y t k
 | .mk kd s n l,k=>by
  rw [z2y];split
  · exact zk1 _ _
  · split
    · exact z8z _ _
    · exact Int.le_refl _
theorem maxI_0 {a:Int}(h:0≤a):maxI 0 a=a:=by unfold maxI;rw [if_pos h]
theorem zrf (t:Tm):z3q t 0 0=z2y t 0∧0≤z2y t 0:=by
 have h:=zr3 t 0;refine ⟨?_,h⟩;rw [zh t 0 0 (Int.le_refl _)];exact maxI_0 h
theorem zhd (n:Int)(t:Tm)(hk:t.bk≤B)(hb:bd 2305843009213693952 t):AC Tryz.prog 104 [aT t,ci n] [] (cb (plB n t)) []:=by
 have hs:=Tm.sz_bk t;have h1:=z7u t hk;have h2:=zb t (by omega) hb 0 (by omega) (by simp only [B] at hk;omega);have h3:=zrz n t (by omega);have hp:=zrf t;rw [←hp.1] at h2;refine AC.vc hP sh lv104 (Nat.le_refl _) (by simp) (by simp) (Eq.mpr (v104 ..) ?_);unfold plB;refine ⟨_,h1,z02 (fun h=>⟨_,h2,z02 (fun q=>⟨_,h3,z04 ?_⟩) (fun q=>z04 ?_)⟩) (fun h=>z04 (by rw [h];rfl))⟩
 · have:z3q t 0 0=0:=by simpa using q
   rw [h,this];rfl
 · have:¬z3q t 0 0=0:=by simpa using q
   rw [h,decide_eq_false (by omega)];rfl
theorem zrb (s:List UInt8)(hl:s.length≤B):AC Tryz.prog 58 [cs s] [] (cb (nmB s)) []:=by
 have h1:=zh2 s;have h2:=zmz s hl;have h3:=zcj s;refine AC.vc hP sh lv58 (Nat.le_refl _) (by simp) (by simp) (Eq.mpr (v58 ..) ?_);unfold nmB;exact ⟨_,h1,_,h2,z02 (fun h=>⟨_,h3,z04 (by rw [h];rfl)⟩) (fun h=>z02 (fun q=>⟨_,h3,z04 (by rw [h,q];rfl)⟩) (fun q=>z04 (by rw [h,q];rfl)))⟩
theorem c_rcnums (c:Cd):AC Tryz.prog 59 [aC c] [] (cb (cntB c.ar c.fr c.vs c.sl)) []:=by
 refine AC.vc hP sh lv59 (Nat.le_refl _) (by simp) (by simp) (Eq.mpr (v59 ..) ?_);unfold cntB;have no:∀ {p:Prop} [Decidable p],¬p→TV.Le (cb false) (cb (decide p))∧([]:List AObj)=[]:=fun h=>z04 (decide_eq_false h).symm;refine z02 (fun h1=>z02 (fun h2=>z02 (fun h3=>z02 (fun h4=>z02 (fun h5=>z02 (fun h6=>z02 (fun h7=> ?_) (fun q=>no fun z=> ?_)) (fun q=>no fun z=> ?_)) (fun q=>no fun z=> ?_)) (fun q=>no fun z=> ?_)) (fun q=>no fun z=> ?_)) (fun q=>no fun z=> ?_)) (fun q=>no fun z=> ?_)
 · have h1:=of_decide_eq_true h1;have h2:=of_decide_eq_true h2;have h3:=of_decide_eq_true h3;have h4:=of_decide_eq_true h4;have h5:=of_decide_eq_true h5;have h6:=of_decide_eq_true h6;have h7:=of_decide_eq_true h7;rw [w64 (x:=c.fr+c.vs) (by omega) (by omega)]
   exact z04 (by by_cases w:c.fr+c.vs≤c.sl
                 · rw [decide_eq_true w,decide_eq_true (by omega)]
                 · rw [decide_eq_false w,decide_eq_false (by omega)])
 all_goals (have q:=of_decide_eq_false q;omega)
theorem zfp (l:List Pl)(i:Nat)(p:Int×Int):AC Tryz.prog 105 [.c (.a (.osl 0 3 0 l.length)),ci i, .agg [.a (.fz (.bool true)), .a (.fz (.int .i64 p.1)), .a (.fz (.int .i64 p.2))]] [.arz 3 (PR l)]
  (cb (z3b l i p).isSome) [.arz 3 (PR ((z3b l i p).getD l))]:=by
 refine AC.vc hP sh lv105 (Nat.le_refl _) (by simp [isLive]) (by simp) (Eq.mpr (v105 ..) ?_);rw [Int.toNat_natCast,Nat.zero_add];refine z02 (fun h=> ?_) (fun h=> ?_)
 · have h:=of_decide_eq_true h;rw [z3b,if_neg (by omega)];exact ⟨.refl _,rfl⟩
 · have h:=of_decide_eq_false h;have hi:i<l.length:=by omega
   have hn:(0:Int)≤(i:Int)∧(i:Int)<((l.length:Nat):Int):=⟨by omega,by omega⟩;have e:=zih hi;rw [z3b,if_pos (by omega),Int.toNat_natCast];have e2:List.set (PR l) i [.bool true, .int .i64 p.1, .int .i64 p.2]=PR (l.set i (true,p)):=znx l i (true,p);rw [e2,e];generalize l.getD i (false,0,0)=q;obtain ⟨m,x,y⟩:=q;refine ⟨hn,⟨by rw [z2w];exact hi,rfl,rfl⟩,z02 (fun h1=> ?_) (fun h1=> ?_)⟩
   · have h1:m=false:=by simpa [pR,FV.asB] using h1
     subst h1;exact ⟨hn,⟨by rw [z2w];exact hi,rfl⟩, .refl _,rfl⟩
   · have h1:m=true:=by simpa [pR,FV.asB] using h1
     subst h1;refine ⟨hn,⟨by rw [z2w];exact hi,rfl,rfl⟩, ?_⟩;by_cases hq:((true,x,y):Pl)=(true,p)
     · rw [if_neg (by simp),if_pos hq];obtain ⟨_,rfl⟩:=Prod.mk.inj hq;exact ⟨z4g (by simp [pR,FV.asB,FV.I]),rfl⟩
     · rw [if_neg (by simp),if_neg hq];refine ⟨z4g ?_,rfl⟩;obtain ⟨p1,p2⟩:=p;simp [pR,FV.asB,FV.I] at hq ⊢;exact hq
abbrev evW (n:Nat)(i:Int):Env:=[(1, .c (.a (.ep 0 6 0 0))),(3, .c (.a (.osl 1 3 0 n))),(4,ci i)]
theorem zmd (c:Cd)(hB:c.ins.length≤B):∀ (b a:List In1) (l:List Pl),c.ins=a++b→l.length=c.ins.length→(∀ x∈b,(x.k=9∨x.k=10)→0≤x.a∧x.a≤B)→
  (∀ q∈l,(0≤q.2.1∧q.2.1≤a.length)∧0≤q.2.2∧q.2.2≤a.length)→
  RPt Tryz.prog 61 0 (cb (z1i l a.length b)) [] 1 ⟨evW l.length a.length,[(0,obC c),(1, .arz 3 (PR l))],2⟩
 | [],a,l,hx,hl,_,_=>by
  refine RPt.vc hP sh lv61 (Eq.mpr (v61_1a ..) ?_);refine z02 (fun h=>absurd (of_decide_eq_true h) ?_) (fun _=>z04 rfl);rw [hl,hx];simp
 | x::b,a,l,hx,hl,ha,hq=>by
  have hla:a.length<l.length:=by rw [hl,hx];simp
  simp only [B] at hB
  have next:∀ l':List Pl,l'.length=l.length→(∀ q∈l',(0≤q.2.1∧q.2.1≤(a.length:Int)+1)∧0≤q.2.2∧q.2.2≤(a.length:Int)+1)→zb9 l a.length x.k x.a=some l'→
    RPt Tryz.prog 61 0 (cb (z1i l a.length (x::b))) [] 1 ⟨evW l.length ((a.length:Int)+1),[(0,obC c),(1, .arz 3 (PR l'))],2⟩:=fun l' h1 h2 h3=>by
   have:=zmd c (by simp only [B];omega) b (a++ [x]) l' (by rw [hx];simp) (by rw [h1,hl]) (fun y hy=>ha y (List.mem_cons_of_mem _ hy)) (fun q hm=>by
    have:=h2 q hm;simp only [List.length_append,List.length_singleton];omega)
   rw [nx,h1] at this;rw [z1i,h3];exact this
  have em:List.getD (FIs c.ins) (Int.toNat (a.length:Int)) []=FI x:=by rw [hx];exact z67 a x b
  have eq0:=zih hla;refine RPt.vc hP sh lv61 (Eq.mpr (v61_1a ..) ?_);rw [w64 (x:=(a.length:Int)+1) (by omega) (by omega),em,Int.toNat_natCast,Nat.zero_add,eq0];rw [FI0,FI1,FI2,FI3,FI4,FI5,FI6,FI7];have hmem:l.getD a.length (false,0,0)∈l:=by simp [List.getD,List.getElem?_eq_getElem hla]
  have hbd:=hq _ hmem;have sno:=znc (l:=l) (i:=(a.length:Int)) (k:=x.k) (a:=x.a);have syes:=zi8 (l:=l) (i:=(a.length:Int)) (k:=x.k) (a:=x.a);rw [Int.toNat_natCast] at sno syes;generalize l.getD a.length (false,0,0)=q at*;obtain ⟨m,p⟩:=q;simp only at hbd sno syes;have hn:(0:Int)≤(a.length:Int)∧(a.length:Int)<((l.length:Nat):Int):=⟨by omega,by omega⟩;have hgrow:∀ q∈l,(0≤q.2.1∧q.2.1≤(a.length:Int)+1)∧0≤q.2.2∧q.2.2≤(a.length:Int)+1:=fun q hm=>by have:=hq q hm;omega
  have nd:=el8 c.ins a.length (by omega) (by omega) x;refine z02 (fun _=>⟨hn,⟨by rw [z2w];exact hla,rfl,rfl⟩,z02 (fun h1=> ?_) (fun h1=>⟨nd, ?_⟩)⟩) (fun h=>absurd (of_decide_eq_false h) (by omega))
  · exact next l rfl hgrow (sno (by simpa [pR,FV.asB] using h1))
  have h1:m=true:=by simpa [pR,FV.asB] using h1
  subst h1;obtain ⟨p1,p2⟩:=p;have hs:=syes rfl;simp only at hbd hs;have q0:FV.asB (List.getD (pR (true,p1,p2)) 0 FV.N)=true:=rfl;have q1:FV.I (List.getD (pR (true,p1,p2)) 1 FV.N)=p1:=rfl;have q2:FV.I (List.getD (pR (true,p1,p2)) 2 FV.N)=p2:=rfl;rw [q0,q1,q2];have none_no:zb9 l a.length x.k x.a=none→TV.Le (cb false) (cb (z1i l a.length (x::b)))∧([]:List AObj)=[]:=fun h=>z04 (by rw [z1i,h])
  have hm1:∀ (l1 l2:List Pl) (i:Int) (p':Int×Int),(0≤p'.1∧p'.1≤(a.length:Int)+1)∧0≤p'.2∧p'.2≤(a.length:Int)+1→(∀ q∈l1,(0≤q.2.1∧q.2.1≤(a.length:Int)+1)∧0≤q.2.2∧q.2.2≤(a.length:Int)+1)→z3b l1 i p'=some l2→l2.length=l1.length∧∀ q∈l2,(0≤q.2.1∧q.2.1≤(a.length:Int)+1)∧0≤q.2.2∧q.2.2≤(a.length:Int)+1:=fun l1 l2 i p' hb2 h3 h4=>by
   have:=zbb h4;refine ⟨this.1,fun q hm=> ?_⟩;rcases this.2 q hm with h | h
   · exact h3 q h
   · rw [h];exact hb2
  have tail:∀ x' y':Int,aftP x.k (p1,p2)=(x',y')→¬(x.k=3∨x.k=4)→¬x.k=8→
    br (decide (x'<0)) (TV.Le (cb false) (cb (z1i l a.length (x::b)))∧([]:List AObj)=[]) (br (decide (y'<0)) (TV.Le (cb false) (cb (z1i l a.length (x::b)))∧([]:List AObj)=[])
     (br (x.k==9)
      ((FV.L 8 (.sl false 8 (FIs c.ins))=true∧0≤(a.length:Int)∧(a.length:Int)<(((FIs c.ins).length:Nat):Int)∧([.int .i64 x.k, .int .i64 x.a, .int .i64 x.t.k, .str x.t.s, .int .i64 x.t.n, .sl false 4 (FTs x.t.l), .sl false 4 (FTs x.l), .sl false 6 (FCs x.c)]:List FV)=FI x)∧
       ∃ z1:Bool×List (List FV),AC Tryz.prog 105 [.c (.a (.osl 0 3 0 l.length)),ci x.a, .agg [.a (.fz (.bool true)), .a (.fz (.int .i64 x')), .a (.fz (.int .i64 y'))]] [.arz 3 (PR l)] (cb z1.1) [.arz 3 z1.2]∧
        br (x.k !=10) (∃ z2:Bool×List (List FV),AC Tryz.prog 105 [.c (.a (.osl 0 3 0 l.length)),ci ((a.length:Int)+1), .agg [.a (.fz (.bool true)), .a (.fz (.int .i64 x')), .a (.fz (.int .i64 y'))]] [.arz 3 z1.2] (cb z2.1) [.arz 3 z2.2]∧
          br z1.1 (br (!z2.1) (TV.Le (cb false) (cb (z1i l a.length (x::b)))∧([]:List AObj)=[]) (RPt Tryz.prog 61 0 (cb (z1i l a.length (x::b))) [] 1 ⟨evW l.length ((a.length:Int)+1),[(0,obC c),(1, .arz 3 z2.2)],2⟩)) (TV.Le (cb false) (cb (z1i l a.length (x::b)))∧([]:List AObj)=[]))
         (br (!z1.1) (TV.Le (cb false) (cb (z1i l a.length (x::b)))∧([]:List AObj)=[]) (RPt Tryz.prog 61 0 (cb (z1i l a.length (x::b))) [] 1 ⟨evW l.length ((a.length:Int)+1),[(0,obC c),(1, .arz 3 z1.2)],2⟩)))
      (br (x.k==10)
       ((FV.L 8 (.sl false 8 (FIs c.ins))=true∧0≤(a.length:Int)∧(a.length:Int)<(((FIs c.ins).length:Nat):Int)∧([.int .i64 x.k, .int .i64 x.a, .int .i64 x.t.k, .str x.t.s, .int .i64 x.t.n, .sl false 4 (FTs x.t.l), .sl false 4 (FTs x.l), .sl false 6 (FCs x.c)]:List FV)=FI x)∧
        ∃ z1:Bool×List (List FV),AC Tryz.prog 105 [.c (.a (.osl 0 3 0 l.length)),ci x.a, .agg [.a (.fz (.bool true)), .a (.fz (.int .i64 x')), .a (.fz (.int .i64 y'))]] [.arz 3 (PR l)] (cb z1.1) [.arz 3 z1.2]∧
         br (x.k !=10) (∃ z2:Bool×List (List FV),AC Tryz.prog 105 [.c (.a (.osl 0 3 0 l.length)),ci ((a.length:Int)+1), .agg [.a (.fz (.bool true)), .a (.fz (.int .i64 x')), .a (.fz (.int .i64 y'))]] [.arz 3 z1.2] (cb z2.1) [.arz 3 z2.2]∧
           br z1.1 (br (!z2.1) (TV.Le (cb false) (cb (z1i l a.length (x::b)))∧([]:List AObj)=[]) (RPt Tryz.prog 61 0 (cb (z1i l a.length (x::b))) [] 1 ⟨evW l.length ((a.length:Int)+1),[(0,obC c),(1, .arz 3 z2.2)],2⟩)) (TV.Le (cb false) (cb (z1i l a.length (x::b)))∧([]:List AObj)=[]))
          (br (!z1.1) (TV.Le (cb false) (cb (z1i l a.length (x::b)))∧([]:List AObj)=[]) (RPt Tryz.prog 61 0 (cb (z1i l a.length (x::b))) [] 1 ⟨evW l.length ((a.length:Int)+1),[(0,obC c),(1, .arz 3 z1.2)],2⟩)))
       (br (x.k !=10) (∃ z2:Bool×List (List FV),AC Tryz.prog 105 [.c (.a (.osl 0 3 0 l.length)),ci ((a.length:Int)+1), .agg [.a (.fz (.bool true)), .a (.fz (.int .i64 x')), .a (.fz (.int .i64 y'))]] [.arz 3 (PR l)] (cb z2.1) [.arz 3 z2.2]∧
         br (!z2.1) (TV.Le (cb false) (cb (z1i l a.length (x::b)))∧([]:List AObj)=[]) (RPt Tryz.prog 61 0 (cb (z1i l a.length (x::b))) [] 1 ⟨evW l.length ((a.length:Int)+1),[(0,obC c),(1, .arz 3 z2.2)],2⟩))
        (RPt Tryz.prog 61 0 (cb (z1i l a.length (x::b))) [] 1 ⟨evW l.length ((a.length:Int)+1),[(0,obC c),(1, .arz 3 (PR l))],2⟩))))):=by
   intro x' y' hp n34 n8;have hR:aftR x.k (p1,p2)=((x',y'),true,decide (x'≥0)&&decide (y'≥0)):=by unfold aftR;rw [if_neg n34,if_neg n8,hp]
   rw [hR] at hs;simp only at hs;refine z02 (fun h=>none_no ?_) (fun h=>z02 (fun h'=>none_no ?_) (fun h'=> ?_))
   · have:=of_decide_eq_true h;rw [hs,decide_eq_false (by omega),Bool.false_and,if_pos rfl]
   · have:=of_decide_eq_true h';rw [hs,decide_eq_false (show¬y'≥0 by omega),Bool.and_false,if_pos rfl]
   have h:=of_decide_eq_false h;have h':=of_decide_eq_false h';rw [decide_eq_true (show x'≥0 by omega),decide_eq_true (show y'≥0 by omega)] at hs;simp only [Bool.and_self,Bool.true_eq_false,if_false] at hs;have hb2:=aft_bd (k:=x.k) (p:=(p1,p2)) hbd.1 hbd.2 (by omega) (by rw [hR,decide_eq_true (show x'≥0 by omega),decide_eq_true (show y'≥0 by omega)];rfl);rw [hR] at hb2;simp only at hb2
   have go2:∀ l1:List Pl,l1.length=l.length→(∀ q∈l1,(0≤q.2.1∧q.2.1≤(a.length:Int)+1)∧0≤q.2.2∧q.2.2≤(a.length:Int)+1)→zb9 l a.length x.k x.a=z3b l1 ((a.length:Int)+1) (x',y')→
     ∃ z2:Bool×List (List FV),AC Tryz.prog 105 [.c (.a (.osl 0 3 0 l.length)),ci ((a.length:Int)+1), .agg [.a (.fz (.bool true)), .a (.fz (.int .i64 x')), .a (.fz (.int .i64 y'))]] [.arz 3 (PR l1)] (cb z2.1) [.arz 3 z2.2]∧
      br (!z2.1) (TV.Le (cb false) (cb (z1i l a.length (x::b)))∧([]:List AObj)=[]) (RPt Tryz.prog 61 0 (cb (z1i l a.length (x::b))) [] 1 ⟨evW l.length ((a.length:Int)+1),[(0,obC c),(1, .arz 3 z2.2)],2⟩):=fun l1 e1 h3 h4=>by
    have hc2:=zfp l1 (a.length+1) (x',y');rw [e1,show ((a.length+1:Nat):Int)=(a.length:Int)+1 by omega] at hc2;refine ⟨(_,_),hc2,z02 (fun h=>none_no ?_) (fun h=> ?_)⟩
    · rw [h4];cases hm:z3b l1 ((a.length:Int)+1) (x',y') with
      | none=>rfl
      | some l2=>rw [hm] at h;cases h
    · cases hm:z3b l1 ((a.length:Int)+1) (x',y') with
      | none=>rw [hm] at h;cases h
      | some l2=>
       have h5:=hm1 l1 l2 _ _ hb2 h3 hm;exact next l2 (by rw [h5.1,e1]) h5.2 (by rw [h4,hm])
   by_cases hk:x.k=9∨x.k=10
   · rw [if_pos hk] at hs;have hxa:=ha x List.mem_cons_self hk;obtain ⟨j,hj⟩:∃ j:Nat,x.a=j:=⟨x.a.toNat,by omega⟩;have hc1:=zfp l j (x',y');rw [←hj] at hc1;have hc2:=zfp ((z3b l x.a (x',y')).getD l) (a.length+1) (x',y');rw [show ((a.length+1:Nat):Int)=(a.length:Int)+1 by omega] at hc2
     have hlen1:((z3b l x.a (x',y')).getD l).length=l.length:=by
      cases hm:z3b l x.a (x',y') with
      | none=>rfl
      | some l2=>exact (zbb hm).1
     rw [hlen1] at hc2
     have key:∃ z1:Bool×List (List FV),AC Tryz.prog 105 [.c (.a (.osl 0 3 0 l.length)),ci x.a, .agg [.a (.fz (.bool true)), .a (.fz (.int .i64 x')), .a (.fz (.int .i64 y'))]] [.arz 3 (PR l)] (cb z1.1) [.arz 3 z1.2]∧
               br (x.k !=10) (∃ z2:Bool×List (List FV),AC Tryz.prog 105 [.c (.a (.osl 0 3 0 l.length)),ci ((a.length:Int)+1), .agg [.a (.fz (.bool true)), .a (.fz (.int .i64 x')), .a (.fz (.int .i64 y'))]] [.arz 3 z1.2] (cb z2.1) [.arz 3 z2.2]∧
                 br z1.1 (br (!z2.1) (TV.Le (cb false) (cb (z1i l a.length (x::b)))∧([]:List AObj)=[]) (RPt Tryz.prog 61 0 (cb (z1i l a.length (x::b))) [] 1 ⟨evW l.length ((a.length:Int)+1),[(0,obC c),(1, .arz 3 z2.2)],2⟩)) (TV.Le (cb false) (cb (z1i l a.length (x::b)))∧([]:List AObj)=[]))
                (br (!z1.1) (TV.Le (cb false) (cb (z1i l a.length (x::b)))∧([]:List AObj)=[]) (RPt Tryz.prog 61 0 (cb (z1i l a.length (x::b))) [] 1 ⟨evW l.length ((a.length:Int)+1),[(0,obC c),(1, .arz 3 z1.2)],2⟩)):=by
      refine ⟨(_,_),hc1, ?_⟩;cases hm:z3b l x.a (x',y') with
      | none=>
       rw [hm] at hs hc2;refine z02 (fun _=>⟨(_,_),hc2, ?_⟩) (fun _=> ?_)
       · exact none_no hs
       · exact none_no hs
      | some l2=>
       rw [hm] at hs hc2;simp only at hs;have h5:=hm1 l l2 _ _ hb2 hgrow hm;refine z02 (fun h6=> ?_) (fun h6=> ?_)
       · rw [if_neg (by simpa using h6)] at hs;obtain ⟨z,q1,q2⟩:=go2 l2 h5.1 h5.2 hs;exact ⟨z,q1,q2⟩
       · rw [if_pos (by simpa using h6)] at hs;exact next l2 h5.1 h5.2 hs
     refine z02 (fun _=>⟨nd,key⟩) (fun h9=> ?_)
     have h10:(x.k==10)=true:=by
      rcases hk with h | h
      · rw [h] at h9;cases h9
      · rw [h];rfl
     exact z02 (fun _=>⟨nd,key⟩) (fun q=>by rw [h10] at q;cases q)
   · rw [if_neg hk] at hs;refine z02 (fun q=>absurd (Or.inl (by simpa using q)) hk) (fun _=>z02 (fun q=>absurd (Or.inr (by simpa using q)) hk) (fun h10=>z02 (fun _=>go2 l rfl hgrow hs) (fun q=> ?_)));rw [bne,h10] at q;cases q
  have stop34:(x.k=3∨x.k=4)→br (p1 !=0) (TV.Le (cb false) (cb (z1i l a.length (x::b)))∧([]:List AObj)=[]) (br (p2 !=0) (TV.Le (cb false) (cb (z1i l a.length (x::b)))∧([]:List AObj)=[]) (RPt Tryz.prog 61 0 (cb (z1i l a.length (x::b))) [] 1 ⟨evW l.length ((a.length:Int)+1),[(0,obC c),(1, .arz 3 (PR l))],2⟩)):=fun h34=>by
   have hR:aftR x.k (p1,p2)=((p1,p2),false,p1==0&&p2==0):=by unfold aftR;rw [if_pos h34]
   rw [hR] at hs;simp only at hs;refine z02 (fun h=>none_no ?_) (fun h=>z02 (fun h'=>none_no ?_) (fun h'=>next l rfl hgrow ?_))
   · rw [hs,show (p1==0)=false by simpa using h];rfl
   · rw [hs,show (p2==0)=false by simpa using h',Bool.and_false];rfl
   · rw [hs,show (p1==0)=true by simpa using h,show (p2==0)=true by simpa using h'];rfl
  have w1:IntKind.wrap .i64 (p1+1)=p1+1:=w64 (by omega) (by omega);have w2:IntKind.wrap .i64 (p1-1)=p1-1:=w64 (by omega) (by omega);have w3:IntKind.wrap .i64 (p2+1)=p2+1:=w64 (by omega) (by omega);have w4:IntKind.wrap .i64 (p2-1)=p2-1:=w64 (by omega) (by omega);rw [w1,w2,w3,w4];have kk:∀ {v:Int},(x.k==v)=true→x.k=v:=fun h=>by simpa using h
  have nk:∀ {v:Int},(x.k==v)=false→¬x.k=v:=fun h=>by simpa using h
  refine z02 (fun h4=>stop34 (.inr (kk h4))) (fun n4=>z02 (fun h3=>stop34 (.inl (kk h3))) (fun n3=>z02 (fun h8=> ?_) (fun n8=> ?_)))
  · refine next l rfl hgrow ?_;have hR:aftR x.k (p1,p2)=((p1,p2),false,true):=by unfold aftR;rw [if_neg (by rw [kk h8];omega),if_pos (kk h8)]
    rw [hs,hR];rfl
  have n34:¬(x.k=3∨x.k=4):=fun h=>h.elim (nk n3) (nk n4);refine z02 (fun h=>tail _ _ ?_ n34 (nk n8)) (fun n11=>z02 (fun h=>tail _ _ ?_ n34 (nk n8)) (fun n12=>z02 (fun h=>tail _ _ ?_ n34 (nk n8)) (fun n14=>z02 (fun h=>tail _ _ ?_ n34 (nk n8)) (fun n15=>tail _ _ ?_ n34 (nk n8)))))
  · rw [aftP,if_pos (kk h)]
  · rw [aftP,if_neg (nk n11),if_pos (kk h)]
  · rw [aftP,if_neg (nk n11),if_neg (nk n12),if_pos (kk h)]
  · rw [aftP,if_neg (nk n11),if_neg (nk n12),if_neg (nk n14),if_pos (kk h)]
  · rw [aftP,if_neg (nk n11),if_neg (nk n12),if_neg (nk n14),if_neg (nk n15)]
theorem c_rcways (c:Cd)(hB:c.ins.length≤B)(h0:0<c.ins.length)(ha:∀ x∈c.ins,(x.k=9∨x.k=10)→0≤x.a∧x.a≤B):AC Tryz.prog 61 [aC c] [] (cb (zdh c.ins)) []:=by
 have h:=zmd c hB c.ins [] ((List.replicate c.ins.length (false,0,0)).set 0 (true,0,0)) rfl (by simp) ha (fun q hq=>by
  rcases List.mem_or_eq_of_mem_set hq with h | h
  · rw [(List.mem_replicate.1 h).2];simp
  · rw [h];simp)
 have e:PR ((List.replicate c.ins.length (false,0,0)).set 0 (true,0,0))=List.set (List.replicate (Int.toNat (((FIs c.ins).length:Nat):Int)) [.bool false, .int .i64 0, .int .i64 0]) 0 (z2l (List.getD (List.replicate (Int.toNat (((FIs c.ins).length:Nat):Int)) [.bool false, .int .i64 0, .int .i64 0]) 0 []) 0 [.bool true]):=by
  rw [←znx,Int.toNat_natCast,z06];have:List.getD (List.replicate c.ins.length [FV.bool false, .int .i64 0, .int .i64 0]) 0 []=[.bool false, .int .i64 0, .int .i64 0]:=by simp [List.getD,h0]
  rw [this];simp [PR,pR,z2l]
 rw [e] at h;simp only [B] at hB;refine AC.vc hP sh lv61 (Nat.le_refl _) (by simp) (by simp) (Eq.mpr (v61 ..) ?_);refine ⟨rfl,⟨rfl,by omega,rfl,by omega,by omega, ?_⟩,⟨by omega, ?_⟩,⟨?_, ?_⟩, ?_⟩
 · unfold z0d;rw [Int.toNat_natCast,z06];omega
 · rw [Int.toNat_natCast,z06];omega
 · rw [List.length_replicate,Int.toNat_natCast,z06];exact h0
 · rw [Int.toNat_natCast,z06];simp [List.getD,h0]
 · have hn:((List.replicate c.ins.length ((false,0,0):Pl)).set 0 (true,0,0)).length=Int.toNat (((FIs c.ins).length:Nat):Int):=by simp [z06]
   rw [hn] at h;exact h
end Go.AM

set_option maxRecDepth 100000
open Go Go.Proofs
namespace Go.AM
theorem el6 (l:List Cd)(i:Int)(h0:0≤i)(h1:i<l.length)(d:Cd):FV.L 6 (.sl false 6 (FCs l))=true∧0≤i∧i<(((FCs l).length:Nat):Int)∧(fCr (FC d):List FV)=FC d:=⟨rfl,h0,by rw [z0l];exact h1,fCr_FC d⟩
abbrev evFl (ok:Bool)(r:Nat)(i:Int):Env:=[(2, .c (.a (.ep 0 6 0 0))),(5, .c (.a (.ep 1 8 0 0))),(10,cb ok),(r,ci i)]
abbrev hpF (c:Cd)(x:In1):AHeap:=[(0,obC c),(1, .arr 8 [cIn x])]
theorem zc3 (c:Cd)(x:In1)(hB:x.c.length≤B):∀ (b a:List Cd) (ok:Bool),x.c=a++b→(∀ d∈b,AC Tryz.prog 25 [aC d] [] (cb (vC d)) [])→
  RPt Tryz.prog 60 0 (cb (ok&&vCs c.sl b)) [] 7 ⟨evFl ok 23 a.length,hpF c x,2⟩
 | [],a,ok,hx,ih=>by
  refine RPt.vc hP sh lv60 (Eq.mpr (v60_7a ..) ?_);rw [vCs,Bool.and_true];refine ⟨rfl,z02 (fun h=>absurd (of_decide_eq_true h) ?_) (fun _=>z04 rfl)⟩;show¬(a.length:Int)<(((FCs x.c).length:Nat):Int);rw [z0l,hx];simp
 | d::b,a,ok,hx,ih=>by
  simp only [B] at hB;have hla:a.length<x.c.length:=by rw [hx];simp
  have hc:=ih d List.mem_cons_self;have e:List.getD (FV.ses (.sl false 6 (FCs x.c))) (Int.toNat (a.length:Int)) []=FC d:=by rw [hx];exact zm1 a d b
  have f2:FV.I (List.getD (FC d) 2 FV.N)=d.fr:=by cases d;rw [FC];rfl
  have nd:=el6 x.c a.length (by omega) (by omega) d;have next:=fun ok'=>zc3 c x (by simp only [B];omega) b (a++ [d]) ok' (by rw [hx];simp) (fun u hu=>ih u (List.mem_cons_of_mem _ hu));rw [nx] at next;refine RPt.vc hP sh lv60 (Eq.mpr (v60_7a ..) ?_);rw [e,w64 (x:=(a.length:Int)+1) (by omega) (by omega),vCs];refine ⟨rfl,z02 (fun _=>z02 (fun h=> ?_) (fun h=>z04 (by rw [h];rfl))) (fun h=>absurd (of_decide_eq_false h) ?_)⟩
  · have hok:ok=true:=by simpa using h
    subst hok;refine ⟨nd,z02 (fun q=> ?_) (fun q=> ?_)⟩
    · rw [f2] at q;rw [q,Bool.true_and,Bool.true_and];exact ⟨nd,_,by rw [show (TV.agg [.a (.fz (.str (FV.S (List.getD (FC d) 0 FV.N)))), .a (.fz (.int .i64 (FV.I (List.getD (FC d) 1 FV.N)))), .a (.fz (.int .i64 (FV.I (List.getD (FC d) 2 FV.N)))), .a (.fz (.int .i64 (FV.I (List.getD (FC d) 3 FV.N)))), .a (.fz (.int .i64 (FV.I (List.getD (FC d) 4 FV.N)))), .a (.fz (List.getD (FC d) 5 FV.N))])=aC d from zj2 d];exact hc,next _⟩
    · rw [f2] at q;have n:=next false;rw [Bool.false_and] at n;rw [q,Bool.false_and,Bool.and_false];exact n
  · show¬¬(a.length:Int)<(((FCs x.c).length:Nat):Int);rw [z0l];omega
theorem zd4 (c:Cd)(x:In1)(hB:x.c.length≤B)(hL:x.l.length≤B)(ih:∀ d∈x.c,AC Tryz.prog 25 [aC d] [] (cb (vC d)) []):∀ (b a:List Tm) (ok:Bool),x.l=a++b→(∀ t∈b,t.bk≤B∧bd 2305843009213693952 t)→
  RPt Tryz.prog 60 0 (cb (ok&&(b.all (plB c.sl)&&vCs c.sl x.c))) [] 3 ⟨evFl ok 21 a.length,hpF c x,2⟩
 | [],a,ok,hx,hb=>by
  have n:=zc3 c x hB x.c [] ok rfl ih;refine RPt.vc hP sh lv60 (Eq.mpr (v60_3a ..) ?_);refine ⟨rfl,z02 (fun h=>absurd (of_decide_eq_true h) ?_) (fun _=>n)⟩;show¬(a.length:Int)<(((FTs x.l).length:Nat):Int);rw [z01,hx];simp
 | t::b,a,ok,hx,hb=>by
  simp only [B] at hL;have hla:a.length<x.l.length:=by rw [hx];simp
  have ht:=hb t List.mem_cons_self;have hc:=zhd c.sl t ht.1 ht.2;have em:rE (List.getD (FV.ses (.sl false 4 (FTs x.l))) (Int.toNat (a.length:Int)) [])=List.getD (FV.ses (.sl false 4 (FTs x.l))) (Int.toNat (a.length:Int)) []:=by rw [hx];exact z1y a t b
  have ea:aE (List.getD (FV.ses (.sl false 4 (FTs x.l))) (Int.toNat (a.length:Int)) [])=aT t:=by rw [hx];exact z45 a t b
  have next:=fun ok'=>zd4 c x hB (by simp only [B];omega) ih b (a++ [t]) ok' (by rw [hx];simp) (fun u hu=>hb u (List.mem_cons_of_mem _ hu));rw [nx] at next;refine RPt.vc hP sh lv60 (Eq.mpr (v60_3a ..) ?_);rw [ea,w64 (x:=(a.length:Int)+1) (by omega) (by omega),List.all_cons];refine ⟨rfl,z02 (fun _=>⟨⟨rfl,by omega,by show (a.length:Int)<(((FTs x.l).length:Nat):Int);rw [z01];omega,em⟩,_,hc,z02 (fun h=> ?_) (fun h=> ?_)⟩) (fun h=>absurd (of_decide_eq_false h) ?_)⟩
  · have n:=next (plB c.sl t);rw [h,Bool.true_and,Bool.and_assoc];exact n
  · have n:=next false;rw [Bool.false_and] at n;rw [h,Bool.false_and];exact n
  · show¬¬(a.length:Int)<(((FTs x.l).length:Nat):Int);rw [z01];omega
abbrev ev96 (uA uT uL uC ok:Bool):Env:=[(2, .c (.a (.ep 0 6 0 0))),(5, .c (.a (.ep 1 8 0 0))),(6,cb uA),(7,cb uT),(8,cb uL),(9,cb uC),(10,cb ok)]
def gF (c:Cd)(x:In1)(uA uT uL uC ok:Bool):Bool:=(uA||x.a==0)&&((uC||x.c.isEmpty)&&((if uL=true then x.l.length==2 else x.l.isEmpty)&&(ok&&((if uT=true then plB c.sl x.t else z52 x.t)&&(x.l.all (plB c.sl)&&vCs c.sl x.c)))))
theorem zj5 (c:Cd)(x:In1)(hB:x.c.length≤B)(hL:x.l.length≤B)(ht:x.t.bk≤B∧bd 2305843009213693952 x.t)(ih:∀ d∈x.c,AC Tryz.prog 25 [aC d] [] (cb (vC d)) [])(hb:∀ t∈x.l,t.bk≤B∧bd 2305843009213693952 t)(uA uT uL uC ok:Bool):
  RPt Tryz.prog 60 0 (cb (gF c x uA uT uL uC ok)) [] 96 ⟨ev96 uA uT uL uC ok,hpF c x,2⟩:=by
 have n:=fun ok'=>zd4 c x hB hL ih x.l [] ok' rfl hb;have c1:=zhd c.sl x.t ht.1 ht.2;have c2:=znd x.t;have hce:decide (((x.c.length:Nat):Int)>0)= !x.c.isEmpty:=by cases x.c<;>simp
 have hle:decide (((x.l.length:Nat):Int)>0)= !x.l.isEmpty:=by cases x.l<;>simp
 have hl2:(((x.l.length:Nat):Int) !=2)= !(x.l.length==2):=by rw [Bool.eq_iff_iff];simp;omega
 refine RPt.vc hP sh lv60 (Eq.mpr (v60_96a ..) ?_);simp only [FV.ses,z0l,z01];rw [hce,hle,hl2,show (x.a !=0)= !(x.a==0) from rfl];unfold gF;generalize (x.l.all (plB c.sl)&&vCs c.sl x.c)=R at*;generalize plB c.sl x.t=A at*;generalize z52 x.t=E at*;generalize x.c.isEmpty=ce at*;generalize x.l.isEmpty=le at*;generalize (x.l.length==2)=l2 at*;generalize (x.a==0)=a0 at*;clear hB hL ht ih hb hce hle hl2
 repeat' (first | refine z02 (fun _=> ?_) (fun _=> ?_) | refine ⟨_,c1, ?_⟩ | refine ⟨_,c2, ?_⟩ | refine And.intro (show FV.L 4 _=true by rfl) ?_ | refine And.intro (show FV.L 6 _=true by rfl) ?_ | fail)
 all_goals first
  | (refine ⟨z4g ?_,by trivial⟩;clear n c1 c2;simp_all;done)
  | (have e9:((uA||a0)&&((uC||ce)&&((if uL=true then l2 else le)&&(ok&&((if uT=true then A else E)&&R)))))=(A&&R):=(by clear n c1 c2;simp_all);rw [e9];exact n A)
  | (have e9:((uA||a0)&&((uC||ce)&&((if uL=true then l2 else le)&&(ok&&((if uT=true then A else E)&&R)))))=(E&&R):=(by clear n c1 c2;simp_all);rw [e9];exact n E)
  | (have e9:((uA||a0)&&((uC||ce)&&((if uL=true then l2 else le)&&(ok&&((if uT=true then A else E)&&R)))))=(false&&R):=(by clear n c1 c2;simp_all);rw [e9];exact n false)
  | (exfalso;clear n c1 c2;simp_all;done)
theorem z3v (t:Tm)(hv:t.k=6→z05 t=true):AC Tryz.prog 14 [aT t] [] (aSp (z00 t)) []:=by
 by_cases h6:t.k=6
 · have hv:=hv h6;obtain ⟨k,str,n,l⟩:=t;simp only [Tm.k] at h6;subst h6;obtain ⟨x,y,r,rfl,hx6,hl⟩:=okB6 (z0e _ hv) rfl;refine AC.vc hP sh lv14 (Nat.le_refl _) (by simp) (by simp) (Eq.mpr (v14 6 str n (FTs (x::y::r)) _ _) ?_);have e1:List.drop 1 (List.take (Int.toNat (((FTs (x::y::r)).length:Nat):Int)) (FTs (x::y::r)))=FTs (y::r):=by rw [zas];rfl
   rw [e1,z00,if_pos ⟨rfl,hv⟩];refine z02 (fun _=>⟨el0 x (y::r),rfl,⟨by omega,by rw [z01];simp only [List.length_cons];omega,Int.le_refl _⟩, ?_,rfl⟩) (fun h=>by cases h);rw [show cE (List.getD (FTs (x::y::r)) 0 [])=cT x from cE_FT x];exact .refl _
 · have e:z00 t=(t,[]):=by rw [z00,if_neg (fun h=>h6 h.1)]
   rw [e];refine AC.vc hP sh lv14 (Nat.le_refl _) (by simp) (by simp) (Eq.mpr (v14 ..) ?_);refine z02 (fun h=>absurd (by simpa using h) h6) (fun _=>⟨znq ⟨lwR _,lw1 (.a _ _ (.fz _ _ z1m)),trivial⟩,rfl⟩)
set_option maxHeartbeats 2000000 in
theorem za5 (c:Cd)(a b:List In1)(x:In1)(hx:c.ins=a++x::b)(hIB:c.ins.length≤B)(hf:0≤c.fr+c.vs∧c.fr+c.vs≤B)(hB:x.c.length≤B)(hL:x.l.length≤B)(ht:x.t.bk≤B∧bd 2305843009213693952 x.t)(hv:x.t.k=6→z05 x.t=true)(ih:∀ d∈x.c,AC Tryz.prog 25 [aC d] [] (cb (vC d)) [])(hb:∀ t∈x.l,t.bk≤B∧bd 2305843009213693952 t):
  RPt Tryz.prog 60 0 (cb (gF c x (useA x.k) (useT x.k) (x.k==5) (x.k==14) (insB c.ar (c.fr+c.vs) c.sl c.ins.length a.length (z5t a) x.k x.a x.t))) [] 22 ⟨(1,ci a.length)::ev96 false false false false true,hpF c x,2⟩:=by
 simp only [B] at hIB hf;have hla:a.length<c.ins.length:=by rw [hx];simp
 have n:=zj5 c x hB hL ht ih hb;have nn:∀ (I uA uT uL uC ok:Bool),useA x.k=uA→useT x.k=uT→(x.k==5)=uL→(x.k==14)=uC→I=ok→RPt Tryz.prog 60 0 (cb (gF c x (useA x.k) (useT x.k) (x.k==5) (x.k==14) I)) [] 96 ⟨ev96 uA uT uL uC ok,hpF c x,2⟩:=fun I uA uT uL uC ok h1 h2 h3 h4 h5=>by rw [h1,h2,h3,h4,h5];exact n uA uT uL uC ok
 have c1:=z3v x.t hv;have c2:=zcj (z00 x.t).1.s;have hlen:(((FIs c.ins).length:Nat):Int)=c.ins.length:=by rw [z06]
 have e5:((((FTs (z00 x.t).2).length:Nat):Int)==2)=((z00 x.t).2.length==2):=by rw [z01,Bool.eq_iff_iff,beq_iff_eq,beq_iff_eq];omega
 refine RPt.vc hP sh lv60 (Eq.mpr (v60_22a ..) ?_);rw [w64 (x:=c.fr+c.vs) (by omega) (by omega)];simp only [FV.ses,hlen,e5];rcases List.eq_nil_or_concat a with ha | ⟨a',y,ha⟩
 · subst ha;have h0:(decide ((([]:List In1).length:Int)>0))=false:=rfl;rw [h0];simp only [insB,z5t,List.getLast?_nil,Option.map_none,zab,zu3,numB,nums]
   repeat' (first | refine z02 (fun _=> ?_) (fun _=> ?_) | refine ⟨_,c1, ?_⟩ | refine ⟨_,c2, ?_⟩ | refine And.intro (show FV.L 4 _=true by rfl) ?_ | refine And.intro (show FV.L 6 _=true by rfl) ?_ | refine And.intro (show FV.L 8 _=true by rfl) ?_ | fail)
   all_goals first
    | contradiction
    | (refine And.intro (z4g ?_) True.intro;clear n nn c1 c2 hb ih hv ht;simp_all [useT,useA,gF]<;>omega)
    | (refine And.intro (z4g ?_) rfl;clear n nn c1 c2 hb ih hv ht;simp_all [useT,useA,gF]<;>omega)
    | (refine nn _ _ _ _ _ _ ?_ ?_ ?_ ?_ ?_<;>clear n nn c1 c2 hb ih hv ht<;>simp_all [useT,useA]<;>first | omega | (intros;omega))
 · have ha:a=a'++ [y]:=by simpa using ha
   subst ha;have h1:(decide (((a'++ [y]).length:Int)>0))=true:=by simp
   have e2:List.getD (FIs c.ins) (Int.toNat (IntKind.wrap .i64 (((a'++ [y]).length:Int)-1))) []=FI y:=by
    have q:IntKind.wrap .i64 (((a'++ [y]).length:Int)-1)=(a'.length:Int):=by
     simp only [List.length_append,List.length_singleton] at hla ⊢;rw [w64 (by omega) (by omega)];omega
    rw [q,hx,List.append_assoc];exact z67 a' y (x::b)
   have need2:=el8 c.ins (IntKind.wrap .i64 (((a'++ [y]).length:Int)-1)) (by
    simp only [List.length_append,List.length_singleton] at hla ⊢;rw [w64 (by omega) (by omega)];omega) (by
    simp only [List.length_append,List.length_singleton] at hla ⊢;rw [w64 (by omega) (by omega)];omega) y
   rw [h1,e2];simp only [FI0,FI1,FI2,FI3,FI4,FI5,FI6,FI7];rw [hlen] at need2;simp only [insB,z6p,zab,zu3,numB,nums]
   repeat' (first | refine z02 (fun _=> ?_) (fun _=> ?_) | refine ⟨_,c1, ?_⟩ | refine ⟨_,c2, ?_⟩ | refine And.intro (show FV.L 4 _=true by rfl) ?_ | refine And.intro need2 ?_ | refine And.intro (show FV.L 6 _=true by rfl) ?_ | refine And.intro (show FV.L 8 _=true by rfl) ?_ | fail)
   all_goals clear need2 e2 ha hx c1 c2 hb ih hv ht hlen h1 hla hIB hf hB hL
   all_goals first
    | contradiction
    | (refine And.intro (z4g ?_) True.intro;clear n nn;simp_all [useT,useA,gF]<;>omega)
    | (refine And.intro (z4g ?_) rfl;clear n nn;simp_all [useT,useA,gF]<;>omega)
    | (refine nn _ _ _ _ _ _ ?_ ?_ ?_ ?_ ?_<;>clear n nn<;>simp_all [useT,useA]<;>first | omega | (intros;omega))
theorem zo3 (c:Cd)(a:List In1)(x:In1):z2q c a x=((z52 x.t||z05 x.t)&&gF c x (useA x.k) (useT x.k) (x.k==5) (x.k==14) (insB c.ar (c.fr+c.vs) c.sl c.ins.length a.length (z5t a) x.k x.a x.t)):=by
 unfold z2q fldB gF;generalize insB c.ar (c.fr+c.vs) c.sl c.ins.length a.length (z5t a) x.k x.a x.t=I
 have e:(if x.k=5 then x.l.length==2 else x.l.isEmpty)=(if (x.k==5)=true then x.l.length==2 else x.l.isEmpty):=by
  by_cases h:x.k=5
  · rw [if_pos h,if_pos (by rw [h];rfl)]
  · rw [if_neg h,if_neg (by simpa using h)]
 rw [e];generalize (if (x.k==5)=true then x.l.length==2 else x.l.isEmpty)=q5
 generalize (if useT x.k=true then plB c.sl x.t else z52 x.t)=qT
 generalize (z52 x.t||z05 x.t)=EV;generalize vCs c.sl x.c=W;generalize x.l.all (plB c.sl)=Ls;generalize (useA x.k||x.a==0)=u;generalize (x.k==14||x.c.isEmpty)=ce;cases EV<;>cases I<;>cases u<;>cases ce<;>cases q5<;>cases qT<;>cases Ls<;>cases W<;>rfl
theorem zo7 (c:Cd)(a b:List In1)(x:In1)(hx:c.ins=a++x::b)(hIB:c.ins.length≤B)(hf:0≤c.fr+c.vs∧c.fr+c.vs≤B)(hB:x.c.length≤B)(hL:x.l.length≤B)(ht:x.t.bk≤B∧bd 2305843009213693952 x.t)(ih:∀ d∈x.c,AC Tryz.prog 25 [aC d] [] (cb (vC d)) [])(hb:∀ t∈x.l,t.bk≤B∧bd 2305843009213693952 t):
  AC Tryz.prog 60 [aC c,ci a.length] [] (cb (z2q c a x)) []:=by
 have hla:a.length<c.ins.length:=by rw [hx];simp
 have e:List.getD (FIs c.ins) (Int.toNat (a.length:Int)) []=FI x:=by rw [hx];exact z67 a x b
 have need:=el8 c.ins a.length (by omega) (by omega) x;have c1:=znd x.t;have c2:=z7u x.t ht.1;rw [zo3];refine AC.vc hP sh lv60 (Nat.le_refl _) (by simp) (by simp) (Eq.mpr (v60 ..) ?_);rw [e,FI0,FI1,FI2,FI3,FI4,FI5,FI6,FI7];refine ⟨need,_,c1,_,c2,z02 (fun h1=>z02 (fun h2=>z04 ?_) (fun h2=> ?_)) (fun h1=> ?_)⟩
 · rw [show z52 x.t=false by simpa using h1,show z05 x.t=false by simpa using h2];rfl
 · have hv:z05 x.t=true:=by simpa using h2
   rw [hv,Bool.or_true,Bool.true_and];exact za5 c a b x hx hIB hf hB hL ht (fun _=>hv) ih hb
 · have hn:z52 x.t=true:=by simpa using h1
   rw [hn,Bool.true_or,Bool.true_and];refine za5 c a b x hx hIB hf hB hL ht (fun h6=> ?_) ih hb;unfold z52 at hn;rw [h6] at hn;cases hn
theorem zhq (c:Cd)(hz:zC c)(hn:nbC c)(hf:0≤c.fr+c.vs∧c.fr+c.vs≤B)(ih:∀ x∈c.ins,∀ d∈x.c,AC Tryz.prog 25 [aC d] [] (cb (vC d)) [])(h0:0<c.ins.length):∀ (b a:List In1),c.ins=a++b→
  (∀ x∈a,(x.k=9∨x.k=10)→0≤x.a∧x.a≤B)→
  RPt Tryz.prog 25 0 (cb (vIs c.ar (c.fr+c.vs) c.sl c.ins.length a.length (z5t a) b&&zdh c.ins)) [] 1 ⟨[(1, .c (.a (.ep 0 6 0 0))),(3,ci c.ins.length),(7,ci a.length)],[(0,obC c)],1⟩
 | [],a,hx,ha=>by
  have hl:c.ins.length≤B:=(z69 hz).2.1;have h1:=c_rcways c hl h0 (fun x hm=>ha x (by rw [hx] at hm;simpa using hm));refine RPt.vc hP sh lv25 (Eq.mpr (v25_1a ..) ?_);refine z02 (fun h=>absurd (of_decide_eq_true h) ?_) (fun _=>⟨_,h1,z04 (by rw [vIs];rfl)⟩);rw [hx];simp
 | x::b,a,hx,ha=>by
  have hxm:x∈c.ins:=by rw [hx];simp
  have z4:=z7f (z69 hz).2.2 hxm;have z6:=Tm.szs_bks x.l;have z7:=Tm.szs_length x.l;have z8:=z4.2.2.1;have n1:=z8s (zgo hn) hxm;have hl:c.ins.length≤B:=(z69 hz).2.1;have hla:a.length<c.ins.length:=by rw [hx];simp
  have h1:=zo7 c a b x hx hl hf (by omega) (by omega) ⟨z4.1,n1.1⟩ (ih x hxm) (fun t ht=>⟨by have:=Tm.bks_mem ht;omega,n1.2.1 t ht⟩)
  have ev:vIs c.ar (c.fr+c.vs) c.sl c.ins.length a.length (z5t a) (x::b)=(z2q c a x&&vIs c.ar (c.fr+c.vs) c.sl c.ins.length ((a.length:Int)+1) (some (x.k,x.a)) b):=by
   cases x;rw [vIs,z2q,Bool.and_assoc];rfl
  rw [ev];simp only [B] at hl;refine RPt.vc hP sh lv25 (Eq.mpr (v25_1a ..) ?_);rw [w64 (x:=(a.length:Int)+1) (by omega) (by omega)];refine z02 (fun _=>⟨_,h1,z02 (fun h=>z04 ?_) (fun h=> ?_)⟩) (fun h=>absurd (of_decide_eq_false h) (by omega))
  · rw [show z2q c a x=false by simpa using h];rfl
  · have hfb:z2q c a x=true:=by simpa using h
    have:=zhq c hz hn hf ih h0 b (a++ [x]) (by rw [hx];simp) (fun y hy hk=>by
     rcases List.mem_append.1 hy with hy | hy
     · exact ha y hy hk
     · have hy:y=x:=by simpa using hy
       subst hy
       have:insB c.ar (c.fr+c.vs) c.sl c.ins.length a.length (z5t a) y.k y.a y.t=true:=by
        unfold z2q fldB at hfb;simp only [Bool.and_eq_true] at hfb;exact hfb.1.2.1
       unfold insB at this;rw [if_neg (by omega),if_neg (by omega),if_neg (by omega),if_pos hk] at this;have:=of_decide_eq_true this;simp only [B];omega)
    rw [nx,z6p] at this;rw [hfb,Bool.true_and];exact this
theorem zp1:∀ c:Cd,zC c→nbC c→AC Tryz.prog 25 [aC c] [] (cb (vC c)) []:=by
 refine Cd.ind fun c ih hz hn=> ?_;have z3:=z69 hz;have hl:c.ins.length≤B:=z3.2.1;simp only [B] at hl;have ih':∀ x∈c.ins,∀ d∈x.c,AC Tryz.prog 25 [aC d] [] (cb (vC d)) []:=fun x hx d hd=>ih x hx d hd (zfz (z7f z3.2.2 hx).2.2.2 hd) (zf5 (z8s (zgo hn) hx).2.2 hd);have c1:=zrb c.nm z3.1;have c2:=c_rcnums c;have eV:vC c=(nmB c.nm&&(cntB c.ar c.fr c.vs c.sl&&(zh0 c.ins&&(vIs c.ar (c.fr+c.vs) c.sl c.ins.length 0 none c.ins&&zdh c.ins)))):=by cases c;rw [vC];rfl
 have hlen:(((FIs c.ins).length:Nat):Int)=c.ins.length:=by rw [z06]
 rw [eV];refine AC.vc hP sh lv25 (Nat.le_refl _) (by simp) (by simp) (Eq.mpr (v25 ..) ?_);rw [hlen];refine ⟨rfl,_,c1,_,c2,z02 (fun h=>z04 (by rw [show nmB c.nm=false by simpa using h];rfl)) (fun h1=>z02 (fun h=>z04 (by rw [show cntB c.ar c.fr c.vs c.sl=false by simpa using h,Bool.false_and,Bool.and_false])) (fun h2=>z02 (fun h=>z04 ?_) (fun h=> ?_)))⟩
 · have:c.ins.length=0:=by have:(c.ins.length:Int)=0:=by simpa using h
                           omega
   rw [zlu this,Bool.false_and,Bool.and_false,Bool.and_false]
 have h0:0<c.ins.length:=by have:¬(c.ins.length:Int)=0:=by simpa using h
                            omega
 have hcnt:cntB c.ar c.fr c.vs c.sl=true:=by simpa using h2
 have hf:=of_decide_eq_true hcnt;have hgo:=zhq c hz hn (by simp only [B];omega) ih' h0 c.ins [] rfl (fun x hx=>by cases hx)
 obtain ⟨y,a',hy1,hy2,hy3,hy4,hy5⟩:∃ y a',c.ins=a'++ [y]∧zh0 c.ins=(y.k==3||y.k==4||y.k==8)∧List.getD (FIs c.ins) (Int.toNat (IntKind.wrap .i64 ((c.ins.length:Int)-1))) []=FI y∧0≤IntKind.wrap .i64 ((c.ins.length:Int)-1)∧IntKind.wrap .i64 ((c.ins.length:Int)-1)<c.ins.length:=by
  rcases List.eq_nil_or_concat c.ins with h | ⟨a',y,h⟩
  · rw [h] at h0;cases h0
  · have h:c.ins=a'++ [y]:=by simpa using h
    rw [w64 (by omega) (by omega)];refine ⟨y,a',h,by rw [h];simp [zh0], ?_,by omega,by omega⟩;rw [show (c.ins.length:Int)-1=a'.length by rw [h];simp,h];exact z67 a' y []
 have need:=el8 c.ins _ hy4 hy5 y;rw [hlen] at need;rw [hy3,FI0,FI1,FI2,FI3,FI4,FI5,FI6,FI7,show nmB c.nm=true by simpa using h1,hcnt,hy2,Bool.true_and,Bool.true_and]
 have go:(y.k==3||y.k==4||y.k==8)=true→RPt Tryz.prog 25 0 (cb ((y.k==3||y.k==4||y.k==8)&&(vIs c.ar (c.fr+c.vs) c.sl c.ins.length 0 none c.ins&&zdh c.ins))) [] 1 ⟨[(1, .c (.a (.ep 0 6 0 0))),(3,ci c.ins.length),(7,ci 0)],[(0,obC c)],1⟩:=fun q=>by
  rw [q,Bool.true_and];exact hgo
 refine ⟨need,z02 (fun q4=>z02 (fun q3=>z02 (fun q8=>z04 ?_) (fun q8=>go ?_)) (fun q3=>go ?_)) (fun q4=>go ?_)⟩
 · rw [show (y.k==3)=false by simpa using q3,show (y.k==4)=false by simpa using q4,show (y.k==8)=false by simpa using q8];rfl
 · rw [show (y.k==8)=true by simpa using q8];simp
 · rw [show (y.k==3)=true by simpa using q3];simp
 · rw [show (y.k==4)=true by simpa using q4];simp
end Go.AM

set_option maxRecDepth 100000
open Go Go.Proofs
namespace Go.AM
theorem zn9 (s:List UInt8):AC Tryz.prog 66 [cs s] [] (ci (z56 s)) []:=by
 refine AC.vc hP sh lv66 (Nat.le_refl _) (by simp) (by simp) (Eq.mpr (v66 ..) ?_);unfold z56
 repeat' (refine z02 (fun _=> ?_) (fun _=> ?_))
 all_goals exact z0z (by simp_all)
theorem zav (t:Tm)(hv:z05 t=true)(hz:t.sz≤B)(hb:bd M61 t):AC Tryz.prog 68 [aT t] [] (aT (z0g t)) []:=by
 have c2:=z81 t 0 1 hz hb (by omega) (by simp only [M61];omega) (by omega) (by simp only [M61];omega);have hl:(shT 0 1 t 0).l.length≤B:=by have:=Tm.szs_length (shT 0 1 t 0).l;have:=(shT 0 1 t 0).sz_eq;have:=zeh 0 1 t 0;omega
 simp only [B] at hl
 have c3:=(z84 (shT 0 1 t 0) [bd0] (by simp only [List.length_cons,List.length_nil];omega)).args (args:=[aT (shT 0 1 t 0), .c (.a (.fz (.sl false 4 [[.int .i64 3, .str [], .int .i64 0, .N]])))]) ⟨.refl _, .c _ _ (.a _ _ (.fz _ _ (zhj (l:=[bd0]) rfl (fun i r u hr hu=>by
  match i with
  | 0=>simp at hr hu;subst hr;subst hu;exact leFT z1m
  | i+1=>simp at hr)))),trivial⟩
 obtain ⟨k,s,n,l⟩:=t;refine AC.vc hP sh lv68 (Nat.le_refl _) (by simp) (by simp) (Eq.mpr (v68 ..) ?_);unfold z0g;refine z02 (fun h=> ?_) (fun h=>⟨_,c2,⟨rfl,by omega⟩,_,c3, ?_⟩)
 · have h5:(Tm.mk k s n l).k=5:=by simpa using h
   have h5:k=5:=h5;subst h5;obtain ⟨x,rfl,_⟩:=okB5 (z0e _ hv) rfl;refine ⟨⟨rfl,by omega,by show (0:Int)<1;omega,z1c x⟩, ?_,rfl⟩;show TV.Le (aE (FT x)) _;rw [z1o,if_pos (show (Tm.mk 5 s n [x]).k=5 from rfl)];exact .refl _
 · have h5:¬(Tm.mk k s n l).k=5:=by simpa using h
   exact zjr (by rw [if_neg h5])
theorem zpk (b:Tm)(have_:Bool)(g:Tm):AC Tryz.prog 140 [aT b,cb have_,aT g] [] (aT (if have_=true then andG b g else g)) []:=by
 have c1:=(z84 andT [b,g] (by simp [andT,Tm.l])).args (args:=[.agg [.a (.fz (.int .i64 0)), .a (.fz (.str nAnd)), .a (.fz (.int .i64 0)), .a (.fz .N)],aL [b,g]]) ⟨leT z1m, .refl _,trivial⟩;obtain ⟨k,s,n,l⟩:=b;obtain ⟨k',s',n',l'⟩:=g;refine AC.vc hP sh lv140 (Nat.le_refl _) (by simp) (by simp) (Eq.mpr (v140 ..) ?_);refine z02 (fun h=> ?_) (fun h=>⟨⟨rfl,by omega⟩,andG (.mk k s n l) (.mk k' s' n' l'),c1, ?_⟩)
 · rw [if_neg (by simpa using h)];exact z3r (.refl _)
 · rw [if_pos (by simpa using h)];exact z3r (.refl _)
theorem l_rk5 (k:Int)(r:TV)(t:Tm)(b a:List Tm)(hB:(a++t::b).length≤B):∀ b' a':List Tm,a=a'++b'→((b'.map Tm.n).contains t.n=true→TV.Le (cb false) r)→
  ((b'.map Tm.n).contains t.n=false→RPt Tryz.prog 139 0 r [] 1 ⟨[(1,ci k),(6,aL (a++t::b)),(7,ci ((a.length:Int)+1))],[],0⟩)→
  RPt Tryz.prog 139 0 r [] 5 ⟨[(1,ci k),(6,aL (a++t::b)),(7,ci a.length),(8,ci a'.length)],[],0⟩
 | [],a',h,_,h2=>by
  simp only [List.length_append,List.length_cons,B] at hB;refine RPt.vc hP sh zb3 (Eq.mpr (zpy ..) ?_);rw [w64 (x:=(a.length:Int)+1) (by omega) (by omega)];exact br_f (by rw [h];simp) (h2 rfl)
 | x::b',a',h,h1,h2=>by
  have hlen:a.length=a'.length+(b'.length+1):=by rw [h];simp
  have next:=l_rk5 k r t b a hB b' (a'++ [x]) (by rw [h];simp) (fun q=>h1 (by rw [List.map_cons,List.contains_cons,q,Bool.or_true]));simp only [List.length_append,List.length_cons,B] at hB;have ea:a++t::b=a'++x::(b'++t::b):=by rw [h];simp
  have e1:FV.I (List.getD (List.getD (FTs (a++t::b)) (Int.toNat (a'.length:Int)) []) 2 FV.N)=x.n:=by rw [ea,midI];cases x;rfl
  have e2:FV.I (List.getD (List.getD (FTs (a++t::b)) (Int.toNat (a.length:Int)) []) 2 FV.N)=t.n:=by rw [midI];cases t;rfl
  have f1:rE (List.getD (FTs (a++t::b)) (Int.toNat (a'.length:Int)) [])=List.getD (FTs (a++t::b)) (Int.toNat (a'.length:Int)) []:=by rw [ea];exact z1y ..
  refine RPt.vc hP sh zb3 (Eq.mpr (zpy ..) ?_);rw [w64 (x:=(a'.length:Int)+1) (by omega) (by omega),e1,e2];refine br_t (by rw [hlen];simp;omega) ⟨⟨rfl,by omega,by rw [z01,List.length_append,List.length_cons];omega,f1⟩,⟨rfl,by omega,by rw [z01,List.length_append,List.length_cons];omega,z1y ..⟩,z02 (fun q=>⟨h1 ?_,rfl⟩) (fun q=> ?_)⟩
  · have q:x.n=t.n:=by simpa using q
    rw [List.map_cons,List.contains_cons,q];simp
  · have q:¬x.n=t.n:=by simpa using q
    rw [nx] at next;exact next fun w=>h2 (by rw [List.map_cons,List.contains_cons,w,Bool.or_false];simpa using fun e=>q (Eq.symm e))
theorem l_rk1 (k:Int):∀ (b a:List Tm),(a++b).length≤B→RPt Tryz.prog 139 0 (cb (z8r (a.map Tm.n) b k)) [] 1 ⟨[(1,ci k),(6,aL (a++b)),(7,ci a.length)],[],0⟩
 | [],a,h=>by
  refine RPt.vc hP sh zb3 (Eq.mpr (zq1 ..) ?_);exact ⟨rfl,br_f (by rw [z01];simp) (z04 rfl)⟩
 | t::b,a,h=>by
  have h2:=l_rk1 k b (a++ [t]) (by simpa using h);rw [ap,nx,List.map_append] at h2;have h4:(a.length:Int)<(((FTs (a++t::b)).length:Nat):Int):=ltI' a t b;have e0:FV.I (List.getD (List.getD (FTs (a++t::b)) (Int.toNat (a.length:Int)) []) 0 FV.N)=t.k:=by rw [midI];cases t;rfl
  have e2:FV.I (List.getD (List.getD (FTs (a++t::b)) (Int.toNat (a.length:Int)) []) 2 FV.N)=t.n:=by rw [midI];cases t;rfl
  refine RPt.vc hP sh zb3 (Eq.mpr (zq1 ..) ?_);rw [e0,e2,z8r];refine ⟨rfl,br_t (decide_eq_true h4) ⟨⟨rfl,by omega,h4,z1y ..⟩,z02 (fun q=>z04 ?_) (fun q3=>⟨⟨rfl,by omega,h4,z1y ..⟩,z02 (fun q=>z04 ?_) (fun qk=> ?_)⟩)⟩⟩
  · rw [if_pos (by simpa using q)]
  · rw [if_neg (by simpa using q3),if_pos (by simpa using q)]
  · rw [if_neg (by simpa using q3),if_neg (by simpa using qk)];refine l_rk5 k _ t b a h a [] rfl (fun q=> ?_) (fun q=> ?_)
    · rw [if_pos q];exact .refl _
    · rw [if_neg (by rw [q];simp)];exact h2
theorem l_rk9 (n:Nat)(k:Int):∀ (b a:List Tm),(a++b).length≤B→(∀ u∈b,AC Tryz.prog 139 [aT u,ci k] [] (cb (patG n u k)) [])→RPt Tryz.prog 139 0 (cb (b.all fun u=>patG n u k)) [] 9 ⟨[(1,ci k),(6,aL (a++b)),(9,ci a.length)],[],0⟩
 | [],a,h,_=>by
  refine RPt.vc hP sh zb3 (Eq.mpr (zqm ..) ?_);exact ⟨rfl,br_f (by rw [z01];simp) (z04 rfl)⟩
 | t::b,a,h,ih=>by
  have h2:=l_rk9 n k b (a++ [t]) (by simpa using h) (fun u hu=>ih u (List.mem_cons_of_mem _ hu));rw [ap,nx] at h2;have h4:(a.length:Int)<(((FTs (a++t::b)).length:Nat):Int):=ltI' a t b;have hh:=h;simp only [List.length_append,List.length_cons,B] at hh;refine RPt.vc hP sh zb3 (Eq.mpr (zqm ..) ?_);rw [w64 (x:=(a.length:Int)+1) (by omega) (by omega),List.all_cons];refine ⟨rfl,br_t (decide_eq_true h4) ⟨⟨rfl,by omega,h4,z1y ..⟩,_,by rw [z45];exact ih t List.mem_cons_self,z02 (fun q=>z04 ?_) (fun q=> ?_)⟩⟩
  · rw [show patG n t k=false by simpa using q];rfl
  · rw [show patG n t k=true by simpa using q,Bool.true_and];exact h2
theorem zku:∀ (n:Nat) (t:Tm) (k:Int),t.sz≤n→t.sz≤B→z05 t=true→0≤k→k+n≤M61→AC Tryz.prog 139 [aT t,ci k] [] (cb (patG n t k)) []
 | 0,t,k,hn,_,_,_,_=>by have:=t.sz_pos;omega
 | n+1,t,k,hn,hz,hv,h0,h1=>by
  have c1:=z3v t (fun _=>hv);have hs:=z4r t;have c2:=l_rk1 k (z00 t).2 [] (by simpa using Nat.le_trans hs.2.2 hz);have c3:=l_rk9 n k (z00 t).2 [] (by simpa using Nat.le_trans hs.2.2 hz) (fun u hu=>zku n u k (by have:=z54 hu;omega) (by have:=z54 hu;omega) (z0c hu) h0 (by omega));rw [patG];simp only [M61] at h1;refine AC.vc hP sh zb3 (Nat.le_refl _) (by simp) (by simp) (Eq.mpr (v139 t.k t.s t.n (FTs t.l) k ..) ?_);rw [w64 (x:=k+1) (by omega) (by omega)];refine z02 (fun h=> ?_) (fun h5=>⟨z00 t,c1,z02 (fun h=>z04 ?_) (fun hh5=>z02 (fun h=> ?_) (fun hh4=>z02 (fun h=>z02 (fun hk=> ?_) (fun hk=> ?_)) (fun h3=> ?_)))⟩)
  · have h5:t.k=5:=by simpa using h
    rw [if_pos h5];obtain ⟨kk,s,m,l⟩:=t;have h5:kk=5:=h5;subst h5;obtain ⟨x,rfl,_⟩:=okB5 (z0e _ hv) rfl;have hx:=zku n x (k+1) (by simp only [Tm.sz,Tm.szs] at hn;omega) (by simp only [Tm.sz,Tm.szs] at hz;omega) (z2f hv (.inl rfl) x (by simp)) (by omega) (by simp only [M61];omega);exact ⟨⟨rfl,by omega,by show (0:Int)<1;omega,z1c x⟩,_,by show AC Tryz.prog 139 [aE (FT x),_] [] _ [];rw [z1o];exact hx,z04 rfl⟩
  · rw [if_neg (by simpa using h5),if_pos (by simpa using h)]
  · rw [if_neg (by simpa using h5),if_neg (by simpa using hh5),if_pos (.inl (by simpa using h))];exact c2
  · rw [if_neg (by simpa using h5),if_neg (by simpa using hh5),if_pos (.inr ⟨by simpa using h,by simpa using hk⟩)];exact c2
  · have h3:(z00 t).1.k=3:=by simpa using h
    have hk:¬k≤(z00 t).1.n:=by simpa using hk
    rw [if_neg (by simpa using h5),if_neg (by simpa using hh5),if_neg (by omega)];exact c3
  · have h3:¬(z00 t).1.k=3:=by simpa using h3
    have h4:¬(z00 t).1.k=4:=by simpa using hh4
    rw [if_neg (by simpa using h5),if_neg (by simpa using hh5),if_neg (by omega)];exact c3
def z2j (L:List Tm):Tm:=if L=[] then noT0 else z3a L
theorem zs5 (L:List Tm)(g:Tm):z3a (L++ [g])=if L=[] then g else andG (z3a L) g:=by
 cases L with
 | nil=>rfl
 | cons x L=>rw [if_neg (by simp)];show (L++ [g]).foldl andG x=_;rw [List.foldl_append];rfl
theorem sh_andG (b g:Tm):shT 0 1 (andG b g) 0=andG (shT 0 1 b 0) (shT 0 1 g 0):=by
 show z08 _ _ _=_;rw [zoc _ (fun u d=>zgh 0 1 u d) 6 [] 0 [andT,b,g] 0 rfl];rfl
theorem zno:∀ (l:List Tm) (x:Tm),shT 0 1 (l.foldl andG x) 0=(l.map fun g=>shT 0 1 g 0).foldl andG (shT 0 1 x 0)
 | [],x=>rfl
 | g::l,x=>by rw [List.foldl_cons,zno l,sh_andG];rfl
theorem zph (L:List Tm):shT 0 1 (z2j L) 0=z2j (L.map fun g=>shT 0 1 g 0):=by
 cases L with
 | nil=>rfl
 | cons x L=>exact zno L x
def gms (b:Int→List UInt8→Nat):List Tm→Nat
 | []=>0
 | g::l=>ms b g+(b 6 []+b 0 nAnd)+gms b l
theorem z6m (b:Int→List UInt8→Nat):∀ l m:List Tm,gms b (l++m)=gms b l+gms b m
 | [],m=>by simp [gms]
 | x::l,m=>by rw [List.cons_append,gms,gms,z6m b l m];omega
theorem zf8 (b:Int→List UInt8→Nat):∀ l:List Tm,gms b (l.map fun g=>shT 0 1 g 0)≤gms b l
 | []=>Nat.le_refl _
 | g::l=>by have:=zf8 b l;have:=zr4 (b:=b) 0 1 g 0;rw [List.map_cons,gms,gms];omega
theorem zsy (b:Int→List UInt8→Nat)(x g:Tm):ms b (andG x g)=b 6 []+b 0 nAnd+ms b x+ms b g:=by
 rw [ms,mss,mss,mss,mss,ms,mss];omega
theorem zmj (b:Int→List UInt8→Nat):∀ (l:List Tm) (x:Tm),ms b (l.foldl andG x)≤ms b x+gms b l
 | [],x=>Nat.le_refl _
 | g::l,x=>by have:=zmj b l (andG x g);rw [zsy] at this;rw [List.foldl_cons,gms];omega
theorem zkr (b:Int→List UInt8→Nat)(L:List Tm)(h:L ≠ []):ms b (z3a L)≤gms b L:=by
 cases L with
 | nil=>exact absurd rfl h
 | cons x L=>have:=zmj b L x;show ms b (L.foldl andG x)≤_;rw [gms];omega
theorem zro (L:List Tm):(z2j L).sz≤gms (fun _ _=>1) L+1:=by
 unfold z2j;split
 · show 1≤_;omega
 · rename_i h;have:=zkr (fun _ _=>1) L h;rw [zak] at this;omega
theorem zs3 {M:Int}{x g:Tm}(hx:bd M x)(hg:bd M g):bd M (andG x g):=bd6 ⟨⟨fun e=>absurd e (by omega),trivial⟩,hx,hg,trivial⟩
theorem znh {M:Int}:∀ (l:List Tm) (x:Tm),bd M x→(∀ g∈l,bd M g)→bd M (l.foldl andG x)
 | [],x,hx,_=>hx
 | g::l,x,hx,hl=>znh l (andG x g) (zs3 hx (hl g List.mem_cons_self)) (fun u hu=>hl u (List.mem_cons_of_mem _ hu))
theorem zv2 {M:Int}{L:List Tm}(h:∀ g∈L,bd M g):bd M (z2j L):=by
 cases L with
 | nil=>exact ⟨fun e=>absurd e (by omega),trivial⟩
 | cons x L=>exact znh L x (h x List.mem_cons_self) (fun u hu=>h u (List.mem_cons_of_mem _ hu))
end Go.AM

set_option maxRecDepth 100000
open Go Go.Proofs
namespace Go.AM
theorem zpv {t:Tm}(flex:Int)(h:(z00 t).1.k=4∨(z00 t).1.k=3):z03 t flex=([],[],flex):=by unfold z03;rw [if_pos h]
theorem sh_0 {t:Tm}(flex:Int)(h4:¬(z00 t).1.k=4)(h3:¬(z00 t).1.k=3)(h:(z00 t).1.k≠0):z03 t flex=([],[],130):=by unfold z03;rw [if_neg (by omega),if_pos h]
theorem sh_l {t:Tm}(flex:Int)(h:(z00 t).1.k=0)(hl:logB (z00 t).1.s=false):z03 t flex=([],(z00 t).2,0):=by unfold z03;rw [if_neg (by omega),if_neg (by omega),if_pos hl]
theorem sh_n {t:Tm}(flex:Int)(h:(z00 t).1.k=0)(hl:logB (z00 t).1.s=true)(hn:((z00 t).2.length:Int)≠z56 (z00 t).1.s):z03 t flex=([],[],130):=by unfold z03;rw [if_neg (by omega),if_neg (by omega),if_neg (by rw [hl];simp),if_pos hn]
theorem sh_y {t:Tm}(flex:Int)(h:(z00 t).1.k=0)(hl:logB (z00 t).1.s=true)(hn:((z00 t).2.length:Int)=z56 (z00 t).1.s):z03 t flex=((z00 t).1.s,(z00 t).2,0):=by unfold z03;rw [if_neg (by omega),if_neg (by omega),if_neg (by rw [hl];simp),if_neg (by omega)]
theorem log_ne {s:List UInt8}(h:logB s=true):s ≠ []:=by intro e;rw [e] at h;revert h;decide
abbrev nilE (e:Int):TV:= .tup [(false,[.a (.fz .N)]),(false,[.a (.fz (.int .i64 e))])]
abbrev ownE (l:List Cl):TV:= .tup [(false,[.a (.osl 0 9 0 l.length)]),(false,[.a (.fz (.int .i64 0))])]
abbrev rowN (vs:Int)(t:Tm):List FV:=[.int .i64 vs, .int .i64 t.k, .str t.s, .int .i64 t.n, .sl false 4 (FTs t.l), .int .i64 0, .str zkk, .int .i64 0, .N]
theorem rowN_le (vs:Int)(t:Tm):OLe (.arz 9 [rowN vs t]) (.arz 9 (CLs [(vs,t,zbi)])):=by
 refine .rows 9 _ _ (Nat.le_refl _) (fun i e e' he he'=> ?_) (fun i j e e' f f' he he' hf hf'=> ?_)
 · match i with
   | 0=>simp [CLs] at he he';subst he;subst he';rfl
   | i+1=>simp at he
 · match i with
   | 0=>
    simp [CLs] at he he';subst he;subst he'
    match j with
    | 0=>simp at hf hf';subst hf;subst hf';exact .refl _
    | 1=>simp at hf hf';subst hf;subst hf';exact .refl _
    | 2=>simp at hf hf';subst hf;subst hf';exact .refl _
    | 3=>simp at hf hf';subst hf;subst hf';exact .refl _
    | 4=>simp at hf hf';subst hf;subst hf';exact .refl _
    | 5=>simp at hf hf';subst hf;subst hf';exact .refl _
    | 6=>simp at hf hf';subst hf;subst hf';exact .refl _
    | 7=>simp at hf hf';subst hf;subst hf';exact .refl _
    | 8=>simp at hf hf';subst hf;subst hf';exact z1m
    | j+9=>simp at hf
   | i+1=>simp at he
abbrev argR (t:Tm)(vs:Int)(L:List Tm)(any:Bool):List TV:=[aT t,ci vs,aT (z2j L),cb (!L.isEmpty),cb any]
def RCl (zs:List TV)(x:Int×List Cl):Prop:=(x.1≠0→AC Tryz.prog 109 zs [] (nilE x.1) [])∧(x.1=0→AC Tryz.prog 109 zs [] (ownE x.2) [.arz 9 (CLs x.2)])
def RC (n:Nat):Prop:=
 (∀ t,wt t≤n→TG n t→AC Tryz.prog 31 [aT t] [] (ci (z07 false n t)) [])∧
 (∀ (any:Bool) (vs:Int) (L:List Tm) (t:Tm),wt t≤n→TG n t→(∀ g∈L,TG n g)→0≤vs→vs+n≤1000000000000→gms (fun _ _=>1) L+t.sz≤2000000→RCl (argR t vs L any) (clsF false n any vs L t))
theorem l_rkc1 (n:Nat)(vs:Int)(hv any:Bool)(t bo:Tm)(r:TV)(Hs':List AObj):∀ b a:List Tm,(a++b).length≤B→(∀ u∈b,AC Tryz.prog 139 [aT u,ci 0] [] (cb (patG n u 0)) [])→
  ((!any&&b.any fun u=> !patG n u 0)=true→TV.Le (nilE 132) r∧[]=Hs')→
  ((!any&&b.any fun u=> !patG n u 0)=false→hv=false→TV.Le (ownE [(vs,t,bo)]) r∧[.arz 9 [rowN vs t]]=Hs')→
  ((!any&&b.any fun u=> !patG n u 0)=false→hv=true→TV.Le (ownE [(vs,t,bo)]) r∧[.arz 9 (CLs [(vs,t,bo)])]=Hs')→
  RPt Tryz.prog 109 0 r Hs' 1 ⟨[(1,ci vs),(3,cb hv),(4,cb any),(5, .c (.a (.ep 0 4 0 0))),(7, .c (.a (.ep 1 4 0 0))),(13,aL (a++b)),(14,ci a.length)],[(0, .arr 4 [cT t]),(1, .arr 4 [cT bo])],2⟩
 | [],a,hB,_,hE,hN,hY=>by
  refine RPt.vc hP sh zi1 (Eq.mpr (ztq ..) ?_);refine ⟨rfl,br_f (by rw [z01];simp) (z02 (fun q=> ?_) (fun q=> ?_))⟩
  · exact hN (by simp) (by simpa using q)
  · exact hY (by simp) (by simpa using q)
 | u::b,a,hB,ih,hE,hN,hY=>by
  have next:=l_rkc1 n vs hv any t bo r Hs' b (a++ [u]) (by simpa using hB) (fun w hw=>ih w (List.mem_cons_of_mem _ hw));rw [ap,nx] at next;have h4:(a.length:Int)<(((FTs (a++u::b)).length:Nat):Int):=ltI' a u b;have hh:=hB;simp only [List.length_append,List.length_cons,B] at hh;refine RPt.vc hP sh zi1 (Eq.mpr (ztq ..) ?_);rw [w64 (x:=(a.length:Int)+1) (by omega) (by omega)];rw [List.any_cons] at hE hN hY;refine ⟨rfl,br_t (decide_eq_true h4) ⟨⟨rfl,by omega,h4,z1y ..⟩,_,by rw [z45];exact ih u List.mem_cons_self,z02 (fun q=>z02 (fun q2=> ?_) (fun q2=> ?_)) (fun q=> ?_)⟩⟩
  · exact hE (by rw [q,q2];rfl)
  · have q2:any=true:=by simpa using q2
    subst q2;exact next (fun w=>by cases w) (fun _=>hN rfl) (fun _=>hY rfl)
  · rw [q,Bool.false_or] at hE hN hY;exact next hE hN hY
theorem zoa {n:Nat}(h:RC n)(hn:n+1≤1000000000)(t:Tm)(hw:wt t≤n+1)(ht:TG (n+1) t):AC Tryz.prog 31 [aT t] [] (ci (z07 false (n+1) t)) []:=by
 have hz:t.sz≤B:=by have:=ht.2.1;simp only [B];omega
 have c1:=z3v t (fun _=>ht.1);have c2:=zcj (z00 t).1.s;have c3:=zn9 (z00 t).1.s;have sub:∀ u∈(z00 t).2,(z00 t).1.k=0→AC Tryz.prog 31 [aT u] [] (ci (z07 false n u)) []:=fun u hu h0=>h.1 u (by have:=z2g hu h0;omega) (ht.arg hu);refine AC.vc hP sh lv31 (Nat.le_refl _) (by simp) (by simp) (Eq.mpr (v31 t.k t.s t.n (FTs t.l) ..) ?_);have flex:((z00 t).1.k=4∨(z00 t).1.k=3)→z07 false (n+1) t=133:=fun q=>by rw [z07,zpv 133 q];rfl
 refine ⟨z00 t,c1,z02 (fun q=>z0z (flex (.inl (by simpa using q))).symm) (fun q4=>z02 (fun q=>z0z (flex (.inr (by simpa using q))).symm) (fun q3=>z02 (fun q=>z0z ?_) (fun q0=>⟨_,c2,z02 (fun q=>z0z ?_) (fun ql=>⟨rfl,_,c3,z02 (fun q=>z0z ?_) (fun qn=> ?_)⟩)⟩)))⟩
 · rw [z07,sh_0 133 (by simpa using q4) (by simpa using q3) (by simpa using q)];rfl
 · rw [z07,sh_l 133 (by simpa using q0) (by simpa using q)];rfl
 · rw [z01] at q;rw [z07,sh_n 133 (by simpa using q0) (by simpa using ql) (by simpa using q)];rfl
 · rw [z01] at qn;have h0:(z00 t).1.k=0:=by simpa using q0
   have hlog:logB (z00 t).1.s=true:=by simpa using ql
   have hlen:((z00 t).2.length:Int)=z56 (z00 t).1.s:=by simpa using qn
   rw [z07,sh_y 133 h0 hlog hlen,if_neg (by simp)];clear c3 c2 c1;generalize hs:(z00 t).1.s=s at*;have two:∀ {m:List UInt8},s=m→z56 m=2→∃ a c,(z00 t).2=[a,c]:=fun e e2=>zq5 (by rw [hlen,e,e2]);have one:∀ {m:List UInt8},s=m→z56 m=1→∃ a,(z00 t).2=[a]:=fun e e2=>zu5 (by rw [hlen,e,e2]);refine z02 (fun q=> ?_) (fun q1=> ?_)
   · rw [if_pos (by simpa using q)];exact z0z rfl
   rw [if_neg (by simpa using q1)]
   have conj:∀ a c,(z00 t).2=[a,c]→((FV.L 4 (.sl false 4 (FTs (z00 t).2))=true)∧((0≤(0:Int))∧(((0:Int)<(((FTs (z00 t).2).length:Nat):Int))∧((rE (List.getD (FTs (z00 t).2) 0 []):List FV)=List.getD (FTs (z00 t).2) 0 []))))∧
     ((FV.L 4 (.sl false 4 (FTs (z00 t).2))=true)∧((0≤(1:Int))∧(((1:Int)<(((FTs (z00 t).2).length:Nat):Int))∧((rE (List.getD (FTs (z00 t).2) 1 []):List FV)=List.getD (FTs (z00 t).2) 1 []))))∧
     AC Tryz.prog 31 [aE (List.getD (FTs (z00 t).2) 0 [])] [] (ci (z07 false n a)) []∧AC Tryz.prog 31 [aE (List.getD (FTs (z00 t).2) 1 [])] [] (ci (z07 false n c)) []:=fun a c e=>by
    have ha:=sub a (by rw [e];simp) h0;have hc:=sub c (by rw [e];simp) h0;rw [e];refine ⟨⟨rfl,by omega,by show (0:Int)<2;omega,z1c a⟩,⟨rfl,by omega,by show (1:Int)<2;omega,z1c c⟩, ?_, ?_⟩
    · show AC Tryz.prog 31 [aE (FT a)] [] _ [];rw [z1o];exact ha
    · show AC Tryz.prog 31 [aE (FT c)] [] _ [];rw [z1o];exact hc
   have fin:∀ a c,(z00 t).2=[a,c]→br ((z07 false n a:Int) !=0) (TV.Le (ci (z07 false n a)) (ci (if z07 false n (at0 (z00 t).2)≠0 then z07 false n (at0 (z00 t).2) else z07 false n (at1 (z00 t).2)))∧([]:List AObj)=[])
     (((FV.L 4 (.sl false 4 (FTs (z00 t).2))=true)∧((0≤(1:Int))∧(((1:Int)<(((FTs (z00 t).2).length:Nat):Int))∧((rE (List.getD (FTs (z00 t).2) 1 []):List FV)=List.getD (FTs (z00 t).2) 1 []))))∧∃ n5:Int,AC Tryz.prog 31 [aE (List.getD (FTs (z00 t).2) 1 [])] [] (ci n5) []∧(TV.Le (ci n5) (ci (if z07 false n (at0 (z00 t).2)≠0 then z07 false n (at0 (z00 t).2) else z07 false n (at1 (z00 t).2)))∧([]:List AObj)=[])):=fun a c e=>by
    have k:=conj a c e;refine z02 (fun q=>z0z ?_) (fun q=>⟨k.2.1,_,k.2.2.2,z0z ?_⟩)
    · rw [e,if_pos (show z07 false n (at0 [a,c])≠0 by simpa using q)];rfl
    · rw [e,if_neg (show¬z07 false n (at0 [a,c])≠0 by simpa using q)];rfl
   refine z02 (fun q=> ?_) (fun q2=>z02 (fun q=> ?_) (fun q3=> ?_))
   · have e:=(by simpa using q:s=nAnd);rw [if_pos (.inl e)];obtain ⟨a,c,el⟩:=two e rfl;exact ⟨(conj a c el).1,_,(conj a c el).2.2.1,fin a c el⟩
   · have e:=(by simpa using q:s=nOr);rw [if_pos (.inr e)];obtain ⟨a,c,el⟩:=two e rfl;exact ⟨(conj a c el).1,_,(conj a c el).2.2.1,fin a c el⟩
   rw [if_neg (fun e=>e.elim (by simpa using q2) (by simpa using q3))];refine z02 (fun q=> ?_) (fun q4=> ?_)
   · have e:=(by simpa using q:s=nImp);rw [if_pos e];obtain ⟨a,c,el⟩:=two e rfl;have hu:a∈(z00 t).2:=by rw [el];simp
     have hR:=h.2 false 0 [] a (by have:=z2g hu h0;omega) (ht.arg hu) (fun g q=>by cases q) (Int.le_refl 0) (by omega) (by have:=(ht.arg hu).2.1;simp only [gms];omega);have k:=conj a c el
     have cls:∀ (r:TV) (Hs:List AObj),AC Tryz.prog 109 (argR a 0 [] false) [] r Hs→AC Tryz.prog 67 [aT a] [] r Hs→AC Tryz.prog 67 [aE (List.getD (FTs (z00 t).2) 0 [])] [] r Hs:=fun r Hs _ q=>by
      rw [el];show AC Tryz.prog 67 [aE (FT a)] [] _ _;rw [z1o];exact q
     have arg0:All2 TV.Le [aT a,ci 0, .agg [.a (.fz (.int .i64 0)), .a (.fz (.str [])), .a (.fz (.int .i64 0)), .a (.fz .N)],cb false,cb false] (argR a 0 [] false):=⟨.refl _, .refl _,leT z1m, .refl _, .refl _,trivial⟩;refine ⟨k.1, ?_⟩;by_cases he:(clsF false n false 0 [] a).1=0
     · have c:=hR.2 he
       have c':AC Tryz.prog 67 [aT a] [] (ownE (clsF false n false 0 [] a).2) [.arz 9 (CLs (clsF false n false 0 [] a).2)]:=by
        refine AC.vc hP sh lv67 (by simp) (by simp) (by simp [isLive]) (Eq.mpr (v67 a.k a.s a.n (FTs a.l) ..) ?_);exact .inr ⟨_,c.args arg0, .refl _,rfl⟩
       refine .inr ⟨_,cls _ _ c c',k.2.1,_,k.2.2.2,z0z ?_⟩;rw [el,if_neg (show¬(clsF false n false 0 [] (at0 [a,_])).1≠0 from fun p=>p he)];rfl
     · have c:=hR.1 he
       have c':AC Tryz.prog 67 [aT a] [] (nilE (clsF false n false 0 [] a).1) []:=by
        refine AC.vc hP sh lv67 (Nat.le_refl _) (by simp) (by simp) (Eq.mpr (v67 a.k a.s a.n (FTs a.l) ..) ?_);exact .inl ⟨_,c.args arg0, .refl _,rfl⟩
       refine .inl ⟨_,cls _ _ c c',br_t (by simpa using he) (z0z ?_)⟩;rw [el,if_pos (show (clsF false n false 0 [] (at0 [a,_])).1≠0 from he)];rfl
   rw [if_neg (by simpa using q4)]
   have uno:∀ a,(z00 t).2=[a]→((FV.L 4 (.sl false 4 (FTs (z00 t).2))=true)∧((0≤(0:Int))∧(((0:Int)<(((FTs (z00 t).2).length:Nat):Int))∧((rE (List.getD (FTs (z00 t).2) 0 []):List FV)=List.getD (FTs (z00 t).2) 0 []))))∧∃ z:Tm,AC Tryz.prog 68 [aE (List.getD (FTs (z00 t).2) 0 [])] [] (aT z) []∧∃ n13:Int,AC Tryz.prog 31 [aT z] [] (ci n13) []∧(TV.Le (ci n13) (ci (z07 false n (z0g (at0 (z00 t).2))))∧([]:List AObj)=[]):=fun a e=>by
    have hu:a∈(z00 t).2:=by rw [e];simp
    have cb1:=zav a (z0c hu) (by have:=z54 hu;omega) (z2d (by simp only [M61];omega) _ (ht.arg hu).2.2);have ca:=h.1 (z0g a) (by have:=z2g hu h0;have:=z6b (z0c hu);omega) (ht.body (by omega) hu);rw [e];refine ⟨⟨rfl,by omega,by show (0:Int)<1;omega,z1c a⟩,z0g a, ?_,_,ca,z0z rfl⟩;show AC Tryz.prog 68 [aE (FT a)] [] _ [];rw [z1o];exact cb1
   refine z02 (fun q=> ?_) (fun q5=>z02 (fun q=> ?_) (fun q6=> ?_))
   · have e:=(by simpa using q:s=nPi);rw [if_pos (.inl e)];obtain ⟨a,el⟩:=one e rfl;exact uno a el
   · have e:=(by simpa using q:s=nSig);rw [if_pos (.inr e)];obtain ⟨a,el⟩:=one e rfl;exact uno a el
   · rw [if_neg (fun e=>e.elim (by simpa using q5) (by simpa using q6))];exact z0z rfl
end Go.AM

set_option maxRecDepth 100000
open Go Go.Proofs
namespace Go.AM
theorem z58 {t a c:Tm}(e:(z00 t).2=[a,c]):((FV.L 4 (.sl false 4 (FTs (z00 t).2))=true)∧((0≤(0:Int))∧(((0:Int)<(((FTs (z00 t).2).length:Nat):Int))∧((rE (List.getD (FTs (z00 t).2) 0 []):List FV)=List.getD (FTs (z00 t).2) 0 []))))∧
  ((FV.L 4 (.sl false 4 (FTs (z00 t).2))=true)∧((0≤(1:Int))∧(((1:Int)<(((FTs (z00 t).2).length:Nat):Int))∧((rE (List.getD (FTs (z00 t).2) 1 []):List FV)=List.getD (FTs (z00 t).2) 1 []))))∧
  aE (List.getD (FTs (z00 t).2) 0 [])=aT a∧aE (List.getD (FTs (z00 t).2) 1 [])=aT c:=by
 rw [e];exact ⟨⟨rfl,by omega,by show (0:Int)<2;omega,z1c a⟩,⟨rfl,by omega,by show (1:Int)<2;omega,z1c c⟩,z1o a,z1o c⟩
theorem zcd {t a:Tm}(e:(z00 t).2=[a]):((FV.L 4 (.sl false 4 (FTs (z00 t).2))=true)∧((0≤(0:Int))∧(((0:Int)<(((FTs (z00 t).2).length:Nat):Int))∧((rE (List.getD (FTs (z00 t).2) 0 []):List FV)=List.getD (FTs (z00 t).2) 0 []))))∧
  aE (List.getD (FTs (z00 t).2) 0 [])=aT a:=by
 rw [e];exact ⟨⟨rfl,by omega,by show (0:Int)<1;omega,z1c a⟩,z1o a⟩
theorem zci (L:List Tm)(g:Tm):(if (!L.isEmpty)=true then andG (z2j L) g else g)=z2j (L++ [g]):=by
 unfold z2j;rw [if_neg (show¬L++ [g]=[] by simp),zs5];cases L with
 | nil=>rfl
 | cons x L=>rw [if_neg (show¬x::L=[] by simp),if_neg (show¬x::L=[] by simp)];rfl
theorem zi4 (L:List Tm)(g:Tm):(!(L++ [g]).isEmpty)=true:=by cases L<;>rfl
theorem zko (L:List Tm)(f:Tm→Tm):(!(L.map f).isEmpty)= !L.isEmpty:=by cases L<;>rfl
theorem gms_snoc {L:List Tm}{t a c:Tm}(h:2+a.sz+c.sz≤t.sz)(hL:gms (fun _ _=>1) L+t.sz≤2000000):gms (fun _ _=>1) (L++ [a])+c.sz≤2000000:=by
 rw [z6m,gms,gms,zak];omega
def zt7 (t:Tm)(L:List Tm):Prop:=(z03 t 131).2.2=0∧(z03 t 131).1=[]∧L=[]
theorem zl0 {n:Nat} (h:RC n) (hn:n+1≤1000000000) (any:Bool) (vs:Int) (L:List Tm) (t:Tm) (hw:wt t≤n+1) (ht:TG (n+1) t) (hg:∀ g∈L,TG (n+1) g) (h0:0≤vs) (h1:vs+(n+1:Nat)≤1000000000000) (hL:gms (fun _ _=>1) L+t.sz≤2000000)
  (r:TV) (Hs':List AObj) (hE:(clsF false (n+1) any vs L t).1≠0→TV.Le (nilE (clsF false (n+1) any vs L t).1) r∧[]=Hs') (hN:(clsF false (n+1) any vs L t).1=0→zt7 t L→TV.Le (ownE (clsF false (n+1) any vs L t).2) r∧[.arz 9 [rowN vs t]]=Hs')
  (hO:(clsF false (n+1) any vs L t).1=0→¬zt7 t L→TV.Le (ownE (clsF false (n+1) any vs L t).2) r∧[.arz 9 (CLs (clsF false (n+1) any vs L t).2)]=Hs'):
  vcE Tryz.prog sh zi1 109 [aT t,ci vs,aT (z2j L),cb (!L.isEmpty),cb any] [] (fun r0 Hs0=>TV.Le r0 r∧Hs0=Hs') (RPt Tryz.prog 109 0 r Hs'):=by
 have hz:t.sz≤B:=by have:=ht.2.1;simp only [B];omega
 have c1:=z3v t (fun _=>ht.1);have c2:=zcj (z00 t).1.s;have c3:=zn9 (z00 t).1.s;have hg':∀ g∈L,TG n g:=fun g q=>(hg g q).mono (by omega);have hbo:(z2j L).sz≤B∧bd M61 (z2j L):=⟨by have:=zro L;simp only [B];omega,zv2 fun g q=>z2d (by simp only [M61];omega) _ (hg g q).2.2⟩;have sub:∀ u∈(z00 t).2,(z00 t).1.k=0→AC Tryz.prog 31 [aT u] [] (ci (z07 false n u)) []:=fun u hu h0=>h.1 u (by have:=z2g hu h0;omega) (ht.arg hu);refine Eq.mpr (v109 t.k t.s t.n (FTs t.l) vs (z2j L).k (z2j L).s (z2j L).n (FTs (z2j L).l) (!L.isEmpty) any ..) ?_
 have err:∀ e:Int,clsF false (n+1) any vs L t=(e,[])→e≠0→TV.Le (nilE e) r∧[]=Hs':=fun e q q2=>by
  have:=hE (by rw [q];exact q2);rw [q] at this;exact this
 have errS:∀ e:Int,z03 t 131=([],[],e)→e≠0→TV.Le (nilE e) r∧[]=Hs':=fun e q q2=>err e (by rw [zmr (by rw [q];exact q2),q]) q2;refine ⟨z00 t,c1,z02 (fun q=>errS _ (zpv 131 (.inl (by simpa using q))) (by omega)) (fun q4=>z02 (fun q=>errS _ (zpv 131 (.inr (by simpa using q))) (by omega)) (fun q3=>z02 (fun q=>errS _ (sh_0 131 (by simpa using q4) (by simpa using q3) (by simpa using q)) (by omega)) (fun q0=>⟨_,c2,z02 (fun q=> ?_) (fun ql=>⟨rfl,_,c3,z02 (fun q=>errS _ (sh_n 131 (by simpa using q0) (by simpa using ql) (by rw [z01] at q;simpa using q)) (by omega)) (fun qn=> ?_)⟩)⟩)))⟩
 ·
  have es:=sh_l 131 (by simpa using q0:(z00 t).1.k=0) (by simpa using q:logB (z00 t).1.s=false)
  have ec:clsF false (n+1) any vs L t=if (!any&&(z00 t).2.any fun u=> !patG n u 0)=true then (132,[]) else (0,[(vs,t,z3a L)]):=by
   rw [clsF,es,if_neg (by simp),if_pos rfl,Bool.or_false]
  refine l_rkc1 n vs (!L.isEmpty) any t (z2j L) r Hs' (z00 t).2 [] (by have:=(z4r t).2.2;simp only [List.nil_append];omega) (fun u hu=> ?_) (fun q=> ?_) (fun q hh=> ?_) (fun q hh=> ?_)
  · have hs:=z54 hu;have:=zck t;exact zku n u 0 (by omega) (by omega) (z0c hu) (Int.le_refl 0) (by simp only [M61];omega)
  · exact err 132 (by rw [ec,if_pos q]) (by omega)
  · have e:L=[]:=by cases L with | nil=>rfl | cons x L=>cases hh
    subst e;rw [if_neg (by rw [q];simp)] at ec;have:=hN (by rw [ec]) ⟨by rw [es],by rw [es],rfl⟩;rw [ec] at this;exact this
  · have e:L ≠ []:=fun e=>by rw [e] at hh;cases hh
    rw [if_neg (by rw [q];simp)] at ec;have:=hO (by rw [ec]) (fun w=>e w.2.2);rw [ec] at this;have eb:z2j L=z3a L:=by unfold z2j;rw [if_neg e]
    rw [eb];exact this
 · rw [z01] at qn;have hk:(z00 t).1.k=0:=by simpa using q0
   have hlog:logB (z00 t).1.s=true:=by simpa using ql
   have hlen:((z00 t).2.length:Int)=z56 (z00 t).1.s:=by simpa using qn
   have es:=sh_y 131 hk hlog hlen;have hne:=log_ne hlog;have hnA:¬zt7 t L:=fun w=>hne (by have:=w.2.1;rw [es] at this;exact this)
   have fin:∀ x:Int×List Cl,clsF false (n+1) any vs L t=x→(x.1≠0→TV.Le (nilE x.1) r∧[]=Hs')∧(x.1=0→TV.Le (ownE x.2) r∧[.arz 9 (CLs x.2)]=Hs'):=fun x q=>by
    rw [q] at hE hO;exact ⟨hE,fun w=>hO w hnA⟩
   clear c3 c2 c1;have two:∀ {m:List UInt8},(z00 t).1.s=m→z56 m=2→∃ a c,(z00 t).2=[a,c]:=fun e e2=>zq5 (by rw [hlen,e,e2]);have one:∀ {m:List UInt8},(z00 t).1.s=m→z56 m=1→∃ a,(z00 t).2=[a]:=fun e e2=>zu5 (by rw [hlen,e,e2])
   have pass:∀ (zs:List TV) (x:Int×List Cl),RCl zs x→clsF false (n+1) any vs L t=x→(∃ z:Int,AC Tryz.prog 109 zs [] (nilE z) []∧(TV.Le (nilE z) r∧[]=Hs'))∨(∃ z:List Cl,AC Tryz.prog 109 zs [] (ownE z) [.arz 9 (CLs z)]∧(TV.Le (ownE z) r∧[.arz 9 (CLs z)]=Hs')):=fun zs x hR q=>by
    by_cases he:x.1=0
    · exact .inr ⟨x.2,hR.2 he,(fin x q).2 he⟩
    · exact .inl ⟨x.1,hR.1 he,(fin x q).1 he⟩
   have onn:∀ g d,g∈(z00 t).2→d∈(z00 t).2→2+g.sz+d.sz≤t.sz→RCl [aT d,ci vs,aT (z2j (L++ [g])),cb true,cb any] (clsF false n any vs (L++ [g]) d):=fun g d hgm hdm hs=>by
    have:=h.2 any vs (L++ [g]) d (by have:=z2g hdm hk;omega) (ht.arg hdm) (fun u q=>by
     rcases List.mem_append.1 q with q | q
     · exact hg' u q
     · have:u=g:=by simpa using q
       subst this;exact ht.arg hgm) h0 (by omega) (gms_snoc hs hL)
    rw [←zi4 L g];exact this
   refine z02 (fun q=> ?_) (fun q2=>z02 (fun q=> ?_) (fun q3=>z02 (fun q=> ?_) (fun q5=>z02 (fun q=> ?_) (fun q6=> ?_))))
   · have e:(z00 t).1.s=nAnd:=by simpa using q
     obtain ⟨a,c,el⟩:=two e rfl;obtain ⟨k1,k2,k3,k4⟩:=z58 el;have hs:=z83 el;have ma:a∈(z00 t).2:=by rw [el];simp
     have mc:c∈(z00 t).2:=by rw [el];simp
     have Ra:=h.2 any vs L a (by have:=z2g ma hk;omega) (ht.arg ma) hg' h0 (by omega) (by omega);have Rc:=h.2 any vs L c (by have:=z2g mc hk;omega) (ht.arg mc) hg' h0 (by omega) (by omega);have la:=z3e false n any vs L a;have lc:=z3e false n any vs L c;have h6:=ht.2.1;rw [k3,k4]
     have ex:clsF false (n+1) any vs L t=if (clsF false n any vs L a).1≠0 then clsF false n any vs L a else ((clsF false n any vs L c).1,(clsF false n any vs L a).2++(clsF false n any vs L c).2):=by
      rw [clsF,es,if_neg (by simp),if_neg hne,if_pos e];simp only [el];rfl
     refine ⟨k1, ?_⟩;by_cases ha:(clsF false n any vs L a).1=0
     · rw [if_neg (by simpa using ha)] at ex;refine .inr ⟨_,Ra.2 ha,k2, ?_⟩;by_cases hc:(clsF false n any vs L c).1=0
       · have f:=(fin _ ex).2 hc;refine .inr ⟨_,Rc.2 hc,by rw [z0i];omega,⟨by rw [z0i];exact Nat.le_refl _,by rw [List.drop_zero,List.length_take,z0i];unfold z0d;omega⟩, ?_⟩;rw [List.drop_zero,List.take_of_length_le (by rw [z0i];exact Nat.le_refl _),List.take_of_length_le (by rw [z0i];exact Nat.le_refl _),z0i];rw [show CLs (clsF false n any vs L a).2++CLs (clsF false n any vs L c).2=CLs ((clsF false n any vs L a).2++(clsF false n any vs L c).2) by simp [CLs],←List.length_append];exact f
       · exact .inl ⟨_,Rc.1 hc,br_t (by simpa using hc) ((fin _ ex).1 hc)⟩
     · rw [if_pos ha] at ex;exact .inl ⟨_,Ra.1 ha,br_t (by simpa using ha) ((fin _ ex).1 ha)⟩
   · have e:(z00 t).1.s=nPi:=by simpa using q
     obtain ⟨a,el⟩:=one e rfl;obtain ⟨k1,k2⟩:=zcd el;have ma:a∈(z00 t).2:=by rw [el];simp
     have hs:=z54 ma;have hbs:=z7b (z0c ma);have cb1:=zav a (z0c ma) (by omega) (z2d (by simp only [M61];omega) _ (ht.arg ma).2.2);have cs1:=z81 (z2j L) 0 1 hbo.1 hbo.2 (by omega) (by simp only [M61];omega) (by omega) (by simp only [M61];omega);rw [zph] at cs1
     have R:=h.2 any (vs+1) (L.map fun g=>shT 0 1 g 0) (z0g a) (by have:=z2g ma hk;have:=z6b (z0c ma);omega) (ht.body (by omega) ma) (fun g q=>by
      obtain ⟨g',q',rfl⟩:=List.mem_map.1 q;exact (hg g' q').sh (by omega)) (by omega) (by omega) (by have:=zf8 (fun _ _=>1) L;omega)
     unfold argR at R;rw [zko] at R;rw [k2,w64 (x:=vs+1) (by omega) (by omega)];exact ⟨k1,_,cb1,_,cs1,pass _ _ R (by rw [clsF,es,if_neg (by simp),if_neg hne,if_neg (by simpa using q2),if_pos e];simp only [el];rfl)⟩
   · have e:(z00 t).1.s=nIf:=by simpa using q
     obtain ⟨a,c,el⟩:=two e rfl;obtain ⟨k1,k2,k3,k4⟩:=z58 el;have hs:=z83 el;have ma:a∈(z00 t).2:=by rw [el];simp
     have mc:c∈(z00 t).2:=by rw [el];simp
     have cc:=sub c mc hk;have ca:=zpk (z2j L) (!L.isEmpty) c;rw [zci] at ca;rw [k3,k4]
     have ex:clsF false (n+1) any vs L t=if z07 false n c≠0 then (z07 false n c,[]) else clsF false n any vs (L++ [c]) a:=by
      rw [clsF,es,if_neg (by simp),if_neg hne,if_neg (by simpa using q2),if_neg (by simpa using q3),if_neg (show¬(z00 t).1.s=nImp by rw [e];decide),if_pos e];simp only [el];rfl
     refine ⟨k1,k2,br_f (by rw [e];rfl) ⟨_,cc,z02 (fun w=> ?_) (fun w=>⟨_,ca,pass _ _ (onn c a mc ma (by omega)) ?_⟩)⟩⟩
     · exact err _ (by rw [ex,if_pos (by simpa using w)]) (by simpa using w)
     · rw [ex,if_neg (by simpa using w)]
   · have e:(z00 t).1.s=nImp:=by simpa using q
     obtain ⟨a,c,el⟩:=two e rfl;obtain ⟨k1,k2,k3,k4⟩:=z58 el;have hs:=z83 el;have ma:a∈(z00 t).2:=by rw [el];simp
     have mc:c∈(z00 t).2:=by rw [el];simp
     have ca:=sub a ma hk;have cw:=zpk (z2j L) (!L.isEmpty) a;rw [zci] at cw;rw [k3,k4]
     have ex:clsF false (n+1) any vs L t=if z07 false n a≠0 then (z07 false n a,[]) else clsF false n any vs (L++ [a]) c:=by
      rw [clsF,es,if_neg (by simp),if_neg hne,if_neg (by simpa using q2),if_neg (by simpa using q3),if_pos e];simp only [el];rfl
     refine ⟨k1,k2,br_t (by rw [e];rfl) ⟨k2,k1,_,ca,z02 (fun w=> ?_) (fun w=>⟨_,cw,pass _ _ (onn a c ma mc (by omega)) ?_⟩)⟩⟩
     · exact err _ (by rw [ex,if_pos (by simpa using w)]) (by simpa using w)
     · rw [ex,if_neg (by simpa using w)]
   · exact err 131 (by rw [clsF,es,if_neg (by simp),if_neg hne,if_neg (by simpa using q2),if_neg (by simpa using q3),if_neg (by simpa using q6),if_neg (by simpa using q5)]) (by omega)
end Go.AM

set_option maxRecDepth 100000
open Go Go.Proofs
namespace Go.AM
theorem ztc {n:Nat}{any:Bool}{vs:Int}{L:List Tm}{t:Tm}(h:zt7 t L)(he:(clsF false (n+1) any vs L t).1=0):(clsF false (n+1) any vs L t).2=[(vs,t,zbi)]:=by
 obtain ⟨h1,h2,rfl⟩:=h;rw [clsF,if_neg (by rw [h1];simp),if_pos h2] at he ⊢;split at he
 · cases he
 · rename_i q;rw [if_neg q];rfl
theorem ztp {n:Nat}(h:RC n)(hn:n+1≤1000000000)(any:Bool)(vs:Int)(L:List Tm)(t:Tm)(hw:wt t≤n+1)(ht:TG (n+1) t)(hg:∀ g∈L,TG (n+1) g)(h0:0≤vs)(h1:vs+(n+1:Nat)≤1000000000000)(hL:gms (fun _ _=>1) L+t.sz≤2000000):
  RCl (argR t vs L any) (clsF false (n+1) any vs L t):=by
 refine ⟨fun he=>AC.vc hP sh zi1 (Nat.le_refl _) (by simp) (by simp) (zl0 h hn any vs L t hw ht hg h0 h1 hL (nilE (clsF false (n+1) any vs L t).1) [] (fun _=>⟨.refl _,rfl⟩) (fun q=>absurd q he) (fun q=>absurd q he)),fun he=> ?_⟩;by_cases hA:zt7 t L
 · have c:AC Tryz.prog 109 (argR t vs L any) [] (ownE (clsF false (n+1) any vs L t).2) [.arz 9 [rowN vs t]]:=AC.vc hP sh zi1 (by simp) (by simp) (by simp [isLive]) (zl0 h hn any vs L t hw ht hg h0 h1 hL (ownE (clsF false (n+1) any vs L t).2) [.arz 9 [rowN vs t]] (fun q=>absurd he q) (fun _ _=>⟨.refl _,rfl⟩) (fun _ q=>absurd hA q));refine AC.obj c ⟨?_,trivial⟩;rw [ztc hA he];exact rowN_le vs t
 · exact AC.vc hP sh zi1 (by simp) (by simp) (by simp [isLive]) (zl0 h hn any vs L t hw ht hg h0 h1 hL (ownE (clsF false (n+1) any vs L t).2) [.arz 9 (CLs (clsF false (n+1) any vs L t).2)] (fun q=>absurd he q) (fun _ q=>absurd q hA) (fun _ _=>⟨.refl _,rfl⟩))
theorem zu7:∀ n:Nat,n≤1000000000→RC n
 | 0,_=>⟨fun t hw _=>by have:=zck t;have:=t.sz_pos;omega,fun _ _ _ t hw _=>by have:=zck t;have:=t.sz_pos;omega⟩
 | n+1,hn=>by
  have h:=zu7 n (by omega);exact ⟨fun t hw ht=>zoa h hn t hw ht,fun any vs L t hw ht hg h0 h1 hL=>ztp h hn any vs L t hw ht hg h0 h1 hL⟩
theorem znr (n:Nat)(hn:n≤1000000000)(t:Tm)(hw:wt t≤n)(ht:TG n t):AC Tryz.prog 31 [aT t] [] (ci (z07 false n t)) []:=(zu7 n hn).1 t hw ht
theorem zui (n:Nat)(hn:n≤1000000000)(t:Tm)(hw:wt t≤n)(ht:TG n t):
  ((clsF false n true 0 [] t).1≠0→AC Tryz.prog 89 [aT t] [] (nilE (clsF false n true 0 [] t).1) [])∧((clsF false n true 0 [] t).1=0→AC Tryz.prog 89 [aT t] [] (ownE (clsF false n true 0 [] t).2) [.arz 9 (CLs (clsF false n true 0 [] t).2)]):=by
 have hR:=(zu7 n hn).2 true 0 [] t hw ht (fun g q=>by cases q) (Int.le_refl 0) (by omega) (by have:=ht.2.1;simp only [gms];omega);have arg0:All2 TV.Le [aT t,ci 0, .agg [.a (.fz (.int .i64 0)), .a (.fz (.str [])), .a (.fz (.int .i64 0)), .a (.fz .N)],cb false,cb true] (argR t 0 [] true):=⟨.refl _, .refl _,leT z1m, .refl _, .refl _,trivial⟩;refine ⟨fun he=> ?_,fun he=> ?_⟩
 · have c:=hR.1 he;refine AC.vc hP sh lv89 (Nat.le_refl _) (by simp) (by simp) (Eq.mpr (v89 t.k t.s t.n (FTs t.l) ..) ?_);exact .inl ⟨_,c.args arg0, .refl _,rfl⟩
 · have c:=hR.2 he;refine AC.vc hP sh lv89 (by simp) (by simp) (by simp [isLive]) (Eq.mpr (v89 t.k t.s t.n (FTs t.l) ..) ?_);exact .inr ⟨_,c.args arg0, .refl _,rfl⟩
end Go.AM

set_option maxRecDepth 100000
open Go Go.Proofs
namespace Go.AM
def wiB (t:Tm)(vars loose:Int):Bool:=z05 t&&(unF vars t&&decide (z3q t 0 0≤loose))
def clB (n:Nat)(c:Cl):Bool:=(decide (0≤c.1)&&decide (c.1≤4096))&&(wiB c.2.1 0 c.1&&(wiB c.2.2 0 c.1&&(zab c.2.1&&z07 false n c.2.2==0)))
def z39 (n:Nat)(prog:List Cl)(goal:Tm)(vars:Int):Bool:=(decide (0≤vars)&&decide (vars≤4096))&&(wiB goal vars 0&&(z07 false n goal==0&&prog.all (clB n)))
def TB (n:Nat)(t:Tm):Prop:=t.bk≤B∧t.sz≤1000000∧bd (1000000000000-n) t∧wt t≤n
theorem TB.tg {n:Nat}{t:Tm}(h:TB n t)(hv:z05 t=true):TG n t:=⟨hv,h.2.1,h.2.2.1⟩
theorem TB.sz {n:Nat}{t:Tm}(h:TB n t):t.sz≤B:=by have:=h.2.1;simp only [B];omega
theorem TB.bd {n:Nat}{t:Tm}(h:TB n t):bd 2305843009213693952 t:=z2d (by omega) _ h.2.2.1
theorem zni (n:Int):AC Tryz.prog 46 [ci n] [] (cb (decide (0≤n)&&decide (n≤4096))) []:=by
 refine AC.vc hP sh lv46 (Nat.le_refl _) (by simp) (by simp) (Eq.mpr (v46 ..) ?_);exact z02 (fun h=>z04 (by rw [h];rfl)) (fun h=>z04 (by rw [h];rfl))
theorem zjp (p:Tm→Bool)(n:Int)(b:List Tm):∀ a:List Tm,(a++b).length≤B→(∀ u∈b,AC Tryz.prog 128 [aT u, .c (.a (.ep 0 1 0 0))] [obN n] (cb (p u)) [obN n])→RPt Tryz.prog 84 1 (ci (ixF p b a.length)) [obN n] 1 ⟨[(0,aL (a++b)),(1, .c (.fn (.func 128) [] [(false,[.ep 0 1 0 0])])),(7,ci (a++b).length),(8,ci a.length)],[(0,obN n)],1⟩:=by
 induction b with
 | nil=>
  intro a hs _;refine RPt.vc hP sh lv84 (Eq.mpr (zct ..) ?_);exact z02 (fun h=>absurd (of_decide_eq_true h) (by simp)) (fun _=>⟨.refl _,rfl⟩)
 | cons t b ihb=>
  intro a hs ih;have h3:=ltI' a t b;have h1:=ih t List.mem_cons_self;have h2:=ihb (a++ [t]) (by simpa using hs) (fun u hu=>ih u (List.mem_cons_of_mem _ hu));rw [ap,nx,show (a++ [t]).length=a.length+1 by simp] at h2;rw [ixF];simp only [List.length_append,List.length_cons,B] at hs;have h4:(a.length:Int)<((a++t::b).length:Int):=by simp only [List.length_append,List.length_cons];omega
  refine RPt.vc hP sh lv84 (Eq.mpr (zct ..) ?_);rw [w64 (by omega) (by omega)];refine z02 (fun _=>⟨⟨rfl,by omega,h3,z1y ..⟩,p t,by rw [z45];exact h1,z02 (fun h=> ?_) (fun h=> ?_)⟩) (fun h=>absurd h4 (of_decide_eq_false h))
  · rw [if_pos h];exact ⟨.refl _,rfl⟩
  · rw [if_neg (by rw [h];simp)];exact h2
theorem zh7 (p:Tm→Bool)(n:Int)(l:List Tm)(hl:l.length≤B)(h:∀ u∈l,AC Tryz.prog 128 [aT u, .c (.a (.ep 0 1 0 0))] [obN n] (cb (p u)) [obN n]):AC Tryz.prog 39 [aL l, .c (.fn (.func 128) [] [(false,[.ep 0 1 0 0])])] [obN n] (cb (l.any p)) [obN n]:=by
 have h0:=zjp p n l [] hl h
 have h1:AC Tryz.prog 84 [aL l, .c (.fn (.func 128) [] [(false,[.ep 0 1 0 0])])] [obN n] (ci (ixF p l 0)) [obN n]:=by
  refine AC.vc hP sh lv84 (Nat.le_refl _) (by simp [isLive]) (by simp) (Eq.mpr (v84_F128 ..) ?_);rw [z01];exact ⟨rfl,h0⟩
 refine AC.vc hP sh lv39 (Nat.le_refl _) (by simp [isLive]) (by simp) (Eq.mpr (v39_F128 ..) ?_);exact ⟨_,h1,by rw [z75 p l 0];exact ⟨.refl _,rfl⟩⟩
theorem c_splain (n:Int):∀ t:Tm,t.sz≤B→AC Tryz.prog 90 [aT t,ci n] [] (cb (unF n t)) []:=by
 refine Tm.ind fun t ih hs=> ?_;have hl:=Tm.szs_length t.l;have he:=t.sz_eq
 have hk:∀ u∈t.l,AC Tryz.prog 128 [aT u, .c (.a (.ep 0 1 0 0))] [obN n] (cb (!unF n u)) [obN n]:=fun u hu=>by
  have h1:=ih u hu (by have:=Tm.szs_mem hu;omega);refine AC.vc hP sh lv128 (Nat.le_refl _) (by simp [isLive]) (by simp) (Eq.mpr (v128 ..) ?_);exact ⟨_,h1, .refl _,rfl⟩
 have h2:=zh7 (fun u=> !unF n u) n t.l (by omega) hk;refine AC.vc hP sh lv90 (Nat.le_refl _) (by simp) (by simp) (Eq.mpr (v90 ..) ?_);have e:=zbh (unF n) t.l;rw [znk,←e];refine z02 (fun h=>z04 (by rw [h];rfl)) (fun h=>z02 (fun h'=>z02 (fun q=>z04 (by rw [h,h',q];rfl)) (fun q=>⟨_,h2,z04 (by rw [h,h',q];rfl)⟩)) (fun h'=>⟨_,h2,z04 (by rw [h,h'];rfl)⟩))
theorem zcq (t:Tm)(vars loose:Int)(hs:t.sz≤B)(hb:bd 2305843009213693952 t):AC Tryz.prog 47 [aT t,ci vars,ci loose] [] (cb (wiB t vars loose)) []:=by
 have h1:=z4z t hs;have h2:=c_splain vars t hs;have h3:=zs4 t hs hb;refine AC.vc hP sh lv47 (Nat.le_refl _) (by simp) (by simp) (Eq.mpr (v47 ..) ?_);unfold wiB;exact ⟨_,h1,z02 (fun h=>⟨_,h2,z02 (fun q=>⟨_,h3,z04 (by rw [h,q];rfl)⟩) (fun q=>z04 (by rw [h,q];rfl))⟩) (fun h=>z04 (by rw [h];rfl))⟩
theorem c_spred (t:Tm)(hs:t.sz≤B):AC Tryz.prog 51 [aT t] [] (.tup [(false,[.a (.fz (.str (z00 t).1.s))]),(false,[.a (.fz (.bool (zab t)))])]) []:=by
 have h1:=z6j t hs;have h2:=z57 (z00 t).1.s;refine AC.vc hP sh lv51 (Nat.le_refl _) (by simp) (by simp) (Eq.mpr (v51 ..) ?_);unfold zab;exact ⟨_,h1,z02 (fun h=>⟨_,h2,by rw [h];exact ⟨.refl _,rfl⟩⟩) (fun h=>by rw [h];exact ⟨.refl _,rfl⟩)⟩
theorem zv5 (n:Nat)(hn:n≤1000000000)(c:Cl)(h1:TB n c.2.1)(h2:TB n c.2.2):AC Tryz.prog 50 [aCl c] [] (cb (!clB n c)) []:=by
 have c1:=c_spred c.2.1 h1.sz;have c2:=zni c.1;have c3:=zcq c.2.1 0 c.1 h1.sz h1.bd;have c4:=zcq c.2.2 0 c.1 h2.sz h2.bd;obtain ⟨vs,hd',bo⟩:=c;refine AC.vc hP sh lv50 (Nat.le_refl _) (by simp) (by simp) (Eq.mpr (v50 ..) ?_);unfold clB;simp only at c1 c2 c3 c4;refine ⟨_,_,c1,_,c2,z02 (fun q=>z04 ?_) (fun q1=>⟨_,c3,z02 (fun q=>z04 ?_) (fun q2=>⟨_,c4,z02 (fun q=>z04 ?_) (fun q3=>z02 (fun q=>z04 ?_) (fun q4=>⟨_,ztl n hn bo h2.2.2.2 (h2.tg ?_),z04 ?_⟩))⟩)⟩)⟩
 · have q:(decide (0≤vs)&&decide (vs≤4096))=false:=by revert q;cases (decide (0≤vs)&&decide (vs≤4096))<;>simp
   rw [q];rfl
 · rw [show wiB hd' 0 vs=false by simpa using q,Bool.false_and,Bool.and_false];rfl
 · rw [show wiB bo 0 vs=false by simpa using q,Bool.false_and,Bool.and_false,Bool.and_false];rfl
 · rw [show zab hd'=false by simpa using q,Bool.false_and,Bool.and_false,Bool.and_false,Bool.and_false];rfl
 · have:wiB bo 0 vs=true:=by simpa using q3
   unfold wiB at this;exact (Bool.and_eq_true_iff.1 this).1
 · have q1:(decide (0≤vs)&&decide (vs≤4096))=true:=by revert q1;cases (decide (0≤vs)&&decide (vs≤4096))<;>simp
   rw [q1,show wiB hd' 0 vs=true by simpa using q2,show wiB bo 0 vs=true by simpa using q3,show zab hd'=true by simpa using q4];rfl
end Go.AM

set_option maxRecDepth 100000
open Go Go.Proofs
namespace Go.AM
def ixCl (p:Cl→Bool):List Cl→Nat→Int
 | [],_=> -1
 | t::l,i=>if p t=true then (i:Int) else ixCl p l (i+1)
theorem zm7 (p:Cl→Bool):∀ (l:List Cl) (i:Nat),decide (ixCl p l i≥0)=l.any p
 | [],_=>rfl
 | t::l,i=>by
  rw [ixCl,List.any_cons];split
  · rename_i h;rw [h];simp
  · rename_i h;rw [zm7 p l,show p t=false by simpa using h,Bool.false_or]
theorem zlx (a:List Cl)(c:Cl)(b:List Cl):List.getD (CLs (a++c::b)) (Int.toNat (a.length:Int)) []=FL c:=by
 rw [show Int.toNat (a.length:Int)=a.length by omega,CLs];simp [List.getD]
theorem l_ixcl (p:Cl→Bool)(b:List Cl):∀ a:List Cl,(a++b).length≤B→(∀ u∈b,AC Tryz.prog 50 [aCl u] [] (cb (p u)) [])→RPt Tryz.prog 94 0 (ci (ixCl p b a.length)) [] 1 ⟨[(0,aCls (a++b)),(1, .c (.fn (.func 50) [] [])),(7,ci (a++b).length),(8,ci a.length)],[],0⟩:=by
 induction b with
 | nil=>
  intro a hs _;refine RPt.vc hP sh lv94 (Eq.mpr (ze2 ..) ?_);exact z02 (fun h=>absurd (of_decide_eq_true h) (by simp)) (fun _=>z0z rfl)
 | cons t b ihb=>
  intro a hs ih;have h1:=ih t List.mem_cons_self;have h2:=ihb (a++ [t]) (by simpa using hs) (fun u hu=>ih u (List.mem_cons_of_mem _ hu));rw [ap,nx,show (a++ [t]).length=a.length+1 by simp] at h2;rw [ixCl];simp only [List.length_append,List.length_cons,B] at hs;have h4:(a.length:Int)<((a++t::b).length:Int):=by simp only [List.length_append,List.length_cons];omega
  refine RPt.vc hP sh lv94 (Eq.mpr (ze2 ..) ?_);rw [w64 (by omega) (by omega),zlx];refine z02 (fun _=>⟨⟨rfl,by omega,by rw [z0i];exact h4,rfl⟩,p t,h1,z02 (fun h=> ?_) (fun h=> ?_)⟩) (fun h=>absurd h4 (of_decide_eq_false h))
  · rw [if_pos h];exact z0z rfl
  · rw [if_neg (by rw [h];simp)];exact h2
theorem not_any (p:Cl→Bool)(l:List Cl):(!l.any fun c=> !p c)=l.all p:=by induction l with | nil=>rfl | cons t l ih=>rw [List.any_cons,List.all_cons,←ih];cases p t<;>simp
theorem zmq (n:Nat)(hn:n≤1000000000)(prog:List Cl)(goal:Tm)(vars:Int)(hg:TB n goal)(hl:prog.length≤B)(hp:∀ c∈prog,TB n c.2.1∧TB n c.2.2):AC Tryz.prog 21 [aCls prog,aT goal,ci vars] [] (cb (z39 n prog goal vars)) []:=by
 have c2:=zni vars;have c3:=zcq goal vars 0 hg.sz hg.bd;have h0:=l_ixcl (fun c=> !clB n c) prog [] hl (fun c hc=>zv5 n hn c (hp c hc).1 (hp c hc).2)
 have h1:AC Tryz.prog 94 [aCls prog, .c (.fn (.func 50) [] [])] [] (ci (ixCl (fun c=> !clB n c) prog 0)) []:=by
  refine AC.vc hP sh lv94 (Nat.le_refl _) (by simp) (by simp) (Eq.mpr (v94_F50 ..) ?_);rw [z0i];exact ⟨rfl,h0⟩
 have h2:AC Tryz.prog 49 [aCls prog, .c (.fn (.func 50) [] [])] [] (cb (prog.any fun c=> !clB n c)) []:=by
  refine AC.vc hP sh lv49 (Nat.le_refl _) (by simp) (by simp) (Eq.mpr (v49_F50 ..) ?_);exact ⟨_,h1,z04 (zm7 _ prog 0)⟩
 refine AC.vc hP sh lv21 (Nat.le_refl _) (by simp) (by simp) (Eq.mpr (v21 ..) ?_);unfold z39;rw [←not_any];refine ⟨_,c2,z02 (fun q=>z04 ?_) (fun q1=>⟨_,c3,z02 (fun q=>z04 ?_) (fun q2=>⟨_,ztl n hn goal hg.2.2.2 (hg.tg ?_),z02 (fun q=>z04 ?_) (fun q3=>⟨_,h2,z04 ?_⟩)⟩)⟩)⟩
 · have q:(decide (0≤vars)&&decide (vars≤4096))=false:=by revert q;cases (decide (0≤vars)&&decide (vars≤4096))<;>simp
   rw [q];rfl
 · rw [show wiB goal vars 0=false by simpa using q,Bool.false_and,Bool.and_false]
 · have:wiB goal vars 0=true:=by simpa using q2
   unfold wiB at this;exact (Bool.and_eq_true_iff.1 this).1
 · have q:(z07 false n goal==0)=false:=by simpa using q
   rw [q,Bool.false_and,Bool.and_false,Bool.and_false]
 · have q1:(decide (0≤vars)&&decide (vars≤4096))=true:=by revert q1;cases (decide (0≤vars)&&decide (vars≤4096))<;>simp
   have q3:(z07 false n goal==0)=true:=by simpa using q3
   rw [q1,show wiB goal vars 0=true by simpa using q2,q3];rfl
theorem zgw (n:Int)(t:Tm)(hl:t.l.length≤B):∀ (b a:List Tm),t.l=a++b→(∀ u∈b,AC Tryz.prog 30 [aT u,ci n] [] (cb (unF n u)) [])→
  RPt Tryz.prog 30 0 (cb (b.all (unF n))) [] 1 ⟨[(1,ci n),(2, .c (.a (.ep 0 4 0 0))),(5,ci a.length)],[(0, .arr 4 [cT t])],1⟩
 | [],a,hx,_=>by
  refine RPt.vc hP sh lv30 (Eq.mpr (v30_1a ..) ?_);refine ⟨rfl,z02 (fun h=>absurd (of_decide_eq_true h) (by rw [z01,hx];simp)) (fun _=>z04 rfl)⟩
 | u::b,a,hx,ih=>by
  simp only [B] at hl;have hla:a.length<t.l.length:=by rw [hx];simp
  have h1:=ih u List.mem_cons_self;have next:=zgw n t (by simp only [B];omega) b (a++ [u]) (by rw [hx];simp) (fun w hw=>ih w (List.mem_cons_of_mem _ hw));rw [nx] at next;have em:rE (List.getD (FTs t.l) (Int.toNat (a.length:Int)) [])=List.getD (FTs t.l) (Int.toNat (a.length:Int)) []:=by rw [hx];exact z1y a u b
  have ea:aE (List.getD (FTs t.l) (Int.toNat (a.length:Int)) [])=aT u:=by rw [hx];exact z45 a u b
  refine RPt.vc hP sh lv30 (Eq.mpr (v30_1a ..) ?_);rw [ea,w64 (x:=(a.length:Int)+1) (by omega) (by omega),List.all_cons];refine ⟨rfl,z02 (fun _=>⟨⟨rfl,by omega,by rw [z01];omega,em⟩,_,h1,z02 (fun h=>z04 ?_) (fun h=> ?_)⟩) (fun h=>absurd (of_decide_eq_false h) (by rw [z01];omega))⟩
  · rw [show unF n u=false by simpa using h];rfl
  · rw [show unF n u=true by simpa using h,Bool.true_and];exact next
theorem zc7 (n:Int):∀ t:Tm,t.sz≤B→AC Tryz.prog 30 [aT t,ci n] [] (cb (unF n t)) []:=by
 refine Tm.ind fun t ih hs=> ?_;have hl:=Tm.szs_length t.l;have he:=t.sz_eq;have h1:=zgw n t (by omega) t.l [] rfl (fun u hu=>ih u hu (by have:=Tm.szs_mem hu;omega));refine AC.vc hP sh lv30 (Nat.le_refl _) (by simp) (by simp) (Eq.mpr (v30 ..) ?_);rw [znk];refine z02 (fun h=>z04 (by rw [h];rfl)) (fun h=>z02 (fun h'=>z02 (fun q=>z04 (by rw [h,h',q];rfl)) (fun q=> ?_)) (fun h'=> ?_))
 · rw [h,h',q,Bool.and_false,Bool.or_false,Bool.not_false,Bool.true_and];exact h1
 · rw [h,h',Bool.false_and,Bool.or_false,Bool.not_false,Bool.true_and];exact h1
end Go.AM

set_option maxRecDepth 100000
open Go Go.Proofs
namespace Go.AM
theorem zfv (t:Tm)(vars loose:Int):wiB t vars loose=true↔z05 t=true∧unF vars t=true∧z2y t 0≤loose:=by
 unfold wiB;rw [Bool.and_eq_true,Bool.and_eq_true,decide_eq_true_iff,(zrf t).1]
theorem zlb (n:Nat)(c:Cl):clB n c=true↔(0≤c.1∧c.1≤4096)∧(z05 c.2.1=true∧unF 0 c.2.1=true∧z2y c.2.1 0≤c.1)∧(z05 c.2.2=true∧unF 0 c.2.2=true∧z2y c.2.2 0≤c.1)∧((z00 c.2.1).1.k=0∧logB (z00 c.2.1).1.s=false)∧z07 false n c.2.2=0:=by
 unfold clB;rw [Bool.and_eq_true,Bool.and_eq_true,Bool.and_eq_true,Bool.and_eq_true,Bool.and_eq_true,decide_eq_true_iff,decide_eq_true_iff,zfv,zfv,zab,Bool.and_eq_true,beq_iff_eq,beq_iff_eq,Bool.not_eq_true']
theorem zmt (n:Nat)(hn:n≤1000000000):∀ (b a:List Cl),(a++b).length≤B→(∀ c∈b,TB n c.2.1∧TB n c.2.2)→RPt Tryz.prog 12 0 (cb (b.all (clB n))) [] 1 ⟨[(0,aCls (a++b)),(8,ci a.length)],[],0⟩
 | [],a,h,_=>by
  refine RPt.vc hP sh lv12 (Eq.mpr (v12_1a ..) ?_);exact ⟨rfl,br_f (by rw [z0i];simp) (z04 rfl)⟩
 | c::b,a,h,ih=>by
  have next:=zmt n hn b (a++ [c]) (by simpa using h) (fun u hu=>ih u (List.mem_cons_of_mem _ hu));rw [ap,nx] at next;have h4:(a.length:Int)<(((CLs (a++c::b)).length:Nat):Int):=by rw [z0i,List.length_append,List.length_cons];omega
  have hh:=h;simp only [List.length_append,List.length_cons,B] at hh;obtain ⟨T1,T2⟩:=ih c List.mem_cons_self;have no:clB n c≠true→TV.Le (cb false) (cb ((c::b).all (clB n)))∧([]:List AObj)=[]:=fun q=>z04 (by rw [List.all_cons,show clB n c=false by simpa using q];rfl);have yes:clB n c=true→cb ((c::b).all (clB n))=cb (b.all (clB n)):=fun q=>by rw [List.all_cons,q,Bool.true_and]
  have c1:=z7u c.2.1 T1.1;have c2:=z7u c.2.2 T2.1;have c3:=zc7 0 c.2.1 T1.sz;have c4:=zc7 0 c.2.2 T2.sz;have c5:=zb c.2.1 T1.sz T1.bd 0 (Int.le_refl 0) (by have:=T1.2.1;omega);have c6:=zb c.2.2 T2.sz T2.bd 0 (Int.le_refl 0) (by have:=T2.2.1;omega);have c8:=zcj (z00 c.2.1).1.s;rw [ne_eq,zlb] at no;rw [zlb] at yes;refine RPt.vc hP sh lv12 (Eq.mpr (v12_1a ..) ?_);rw [w64 (x:=(a.length:Int)+1) (by omega) (by omega),zlx]
  refine ⟨rfl,br_t (decide_eq_true h4) ⟨⟨rfl,by omega,h4,rfl⟩,_,c1,_,c2,z02 (fun q=>no fun w=> ?_) (fun q1=>z02 (fun q=>no fun w=> ?_) (fun q2=>z02 (fun q=>no fun w=> ?_) (fun q3=>z02 (fun q=>no fun w=> ?_) (fun q4=>⟨_,c3,z02 (fun q=>no fun w=> ?_) (fun q5=>⟨_,c4,z02 (fun q=>no fun w=> ?_) (fun q6=>⟨_,c5,z02 (fun q=>no fun w=> ?_) (fun q7=>⟨_,c6,z02 (fun q=>no fun w=> ?_) (fun q8=>
   ⟨z00 c.2.1,z3v c.2.1 (fun _=>by simpa using q3),z02 (fun q=>no fun w=> ?_) (fun q9=>⟨_,c8,z02 (fun q=>no fun w=> ?_) (fun q10=>⟨_,znr n hn c.2.2 T2.2.2.2 (T2.tg (by simpa using q4)),z02 (fun q=>no fun w=> ?_) (fun q11=> ?_)⟩)⟩)⟩)⟩)⟩)⟩)⟩))))⟩⟩
  · have:=of_decide_eq_true q;have:c.1<0:=this;omega
  · have:=of_decide_eq_true q;have:c.1>4096:=this;omega
  · rw [w.2.1.1] at q;cases q
  · rw [w.2.2.1.1] at q;cases q
  · rw [w.2.1.2.1] at q;cases q
  · rw [w.2.2.1.2.1] at q;cases q
  · have:=of_decide_eq_true q;have:z2y c.2.1 0>c.1:=this;have:=w.2.1.2.2;omega
  · have:=of_decide_eq_true q;have:z2y c.2.2 0>c.1:=this;have:=w.2.2.1.2.2;omega
  · rw [w.2.2.2.1.1] at q;cases q
  · rw [w.2.2.2.1.2] at q;cases q
  · rw [w.2.2.2.2] at q;cases q
  · have r1:¬c.1<0:=of_decide_eq_false q1;have r2:¬c.1>4096:=of_decide_eq_false q2;have r7:¬z2y c.2.1 0>c.1:=of_decide_eq_false q7;have r8:¬z2y c.2.2 0>c.1:=of_decide_eq_false q8;rw [yes ⟨⟨by omega,by omega⟩,⟨by simpa using q3,by simpa using q5,by omega⟩,⟨by simpa using q4,by simpa using q6,by omega⟩,⟨by simpa using q9,q10⟩,by simpa using q11⟩];exact next
theorem c_rright (n:Nat)(hn:n≤1000000000)(prog:List Cl)(goal:Tm)(vars:Int)(hg:TB n goal)(hl:prog.length≤B)(hp:∀ c∈prog,TB n c.2.1∧TB n c.2.2):AC Tryz.prog 12 [aCls prog,aT goal,ci vars] [] (cb (z39 n prog goal vars)) []:=by
 have c1:=z7u goal hg.1;have c2:=zb goal hg.sz hg.bd 0 (Int.le_refl 0) (by have:=hg.2.1;omega);have c3:=zc7 vars goal hg.sz;have go:=zmt n hn prog [] hl hp
 have iff:z39 n prog goal vars=true↔(0≤vars∧vars≤4096)∧(z05 goal=true∧unF vars goal=true∧z2y goal 0≤0)∧z07 false n goal=0∧prog.all (clB n)=true:=by
  unfold z39;rw [Bool.and_eq_true,Bool.and_eq_true,Bool.and_eq_true,Bool.and_eq_true,decide_eq_true_iff,decide_eq_true_iff,zfv,beq_iff_eq]
 have no:z39 n prog goal vars≠true→TV.Le (cb false) (cb (z39 n prog goal vars))∧([]:List AObj)=[]:=fun q=>z04 (by symm;simpa using q);rw [ne_eq,iff] at no;refine AC.vc hP sh lv12 (Nat.le_refl _) (by simp) (by simp) (Eq.mpr (v12 ..) ?_);refine ⟨_,c1,z02 (fun q=>no fun w=> ?_) (fun q1=>z02 (fun q=>no fun w=> ?_) (fun q2=>z02 (fun q=>no fun w=> ?_) (fun q3=>⟨_,c2,z02 (fun q=>no fun w=> ?_) (fun q4=>⟨_,c3,z02 (fun q=>no fun w=> ?_) (fun q5=>⟨_,znr n hn goal hg.2.2.2 (hg.tg (by simpa using q3)),z02 (fun q=>no fun w=> ?_) (fun q6=> ?_)⟩)⟩)⟩)))⟩
 · have:=of_decide_eq_true q;omega
 · have:=of_decide_eq_true q;omega
 · rw [w.2.1.1] at q;cases q
 · have:=of_decide_eq_true q;have:=w.2.1.2.2;omega
 · rw [w.2.1.2.1] at q;cases q
 · rw [w.2.2.1] at q;cases q
 · have r1:=of_decide_eq_false q1;have r2:=of_decide_eq_false q2;have r4:=of_decide_eq_false q4
   have e:z39 n prog goal vars=prog.all (clB n):=by
    rw [Bool.eq_iff_iff,iff];exact ⟨fun w=>w.2.2.2,fun w=>⟨⟨by omega,by omega⟩,⟨by simpa using q3,by simpa using q5,by omega⟩,by simpa using q6,w⟩⟩
   rw [e];exact go
end Go.AM

set_option maxRecDepth 100000
open Go Go.Proofs
namespace Go.AM
abbrev vN4 (v:Int):Tm:= .mk 4 [] v []
def z09 (vs:List Int)(u:Tm)(d:Int):Tm:=if (u.k==3)=true∧d≤u.n then (if u.n<d+vs.length then vN4 (vs.getD (Int.toNat ((vs.length:Int)-1-(u.n-d))) 0) else .mk 3 [] (u.n-vs.length) []) else u
def z0r (vs:List Int)(t:Tm):Tm:=z08 (z09 vs) t 0
theorem z48 (vs:List Int)(u:Tm)(d:Int)(h6:u.k≠6):(z09 vs u d).k≠6:=by
 unfold z09;split
 · split<;>(intro h;cases h)
 · exact h6
theorem zaw (vs:List Int){n d:Int}(h:d≤n):z09 vs (.mk 3 [] n []) d=if n<d+(vs.length:Int) then vN4 (vs.getD (Int.toNat ((vs.length:Int)-1-(n-d))) 0) else .mk 3 [] (n-vs.length) []:=by
 unfold z09;exact if_pos ⟨rfl,h⟩
theorem op_leaf (vs:List Int)(v:Int)(u:Tm)(d:Int)(hl:u.k=3→u.s=[]∧u.l=[])(h5:u.k≠5)(h6:u.k≠6):z08 (z09 vs) (z0p 0 (vN4 v) u d) d=z09 (vs++ [v]) u d:=by
 obtain ⟨k,s,n,l⟩:=u;simp only [Tm.k,Tm.s,Tm.l] at hl h5 h6;have leaf:∀ (k':Int) (s':List UInt8) (n':Int) (l':List Tm),k'≠5→k'≠6→z08 (z09 vs) (.mk k' s' n' l') d=z09 vs (.mk k' s' n' l') d:=fun k' s' n' l' e5 e6=>z1u _ _ _ _ _ _ (by simp [e5,e6]);rw [z6s];by_cases h3:k=3
 · subst h3;obtain ⟨rfl,rfl⟩:=hl rfl;have c3:((Tm.mk 3 [] n []).k==3)=true:=rfl;rw [if_pos c3];show z08 (z09 vs) (if n<d+0 then _ else if (n==d+0)=true then _ else _) d=_
   by_cases h1:n<d+0
   · rw [if_pos h1,leaf _ _ _ _ (by omega) (by omega)];unfold z09;rw [if_neg (fun e=>by have:d≤n:=e.2;omega),if_neg (fun e=>by have:d≤n:=e.2;omega)]
   · rw [if_neg h1];by_cases h2:(n==d+0)=true
     · have h2':n=d+0:=by simpa using h2
       rw [if_pos h2,leaf _ _ _ _ (by omega) (by omega)];unfold z09;rw [if_neg (fun e=>by cases e.1),if_pos ⟨c3,by show d≤n;omega⟩];show _=if n<d+((vs++ [v]).length:Int) then _ else _
       rw [if_pos (by rw [List.length_append];simp only [List.length_cons,List.length_nil];omega)];show vN4 v=vN4 ((vs++ [v]).getD (Int.toNat (((vs++ [v]).length:Int)-1-(n-d))) 0);rw [show Int.toNat (((vs++ [v]).length:Int)-1-(n-d))=vs.length by rw [List.length_append];simp only [List.length_cons,List.length_nil];omega];simp [List.getD]
     · have h2':¬n=d+0:=by simpa using h2
       rw [if_neg h2];show z08 (z09 vs) (.mk 3 [] (n-1) []) d=_;rw [leaf _ _ _ _ (by omega) (by omega)];rw [zaw vs (by omega),zaw (vs++ [v]) (by omega)];show (if n-1<d+(vs.length:Int) then vN4 (vs.getD (Int.toNat ((vs.length:Int)-1-(n-1-d))) 0) else Tm.mk 3 [] (n-1-vs.length) [])=if n<d+((vs++ [v]).length:Int) then vN4 ((vs++ [v]).getD (Int.toNat (((vs++ [v]).length:Int)-1-(n-d))) 0) else Tm.mk 3 [] (n-(vs++ [v]).length) []
       have el:((vs++ [v]).length:Int)=vs.length+1:=by rw [List.length_append];simp
       rw [el];by_cases h4:n-1<d+(vs.length:Int)
       · rw [if_pos h4,if_pos (by omega),show (vs.length:Int)+1-1-(n-d)=vs.length-1-(n-1-d) by omega];have hi:Int.toNat ((vs.length:Int)-1-(n-1-d))<vs.length:=by omega
         simp only [List.getD];rw [List.getElem?_append_left hi]
       · rw [if_neg h4,if_neg (by omega),show n-1-(vs.length:Int)=n-(vs.length+1) by omega]
 · have c3:((Tm.mk k s n l).k==3)=false:=by simpa [Tm.k] using h3
   rw [if_neg (by rw [c3];simp),leaf _ _ _ _ h5 h6];unfold z09;rw [if_neg (fun e=>by rw [c3] at e;cases e.1),if_neg (fun e=>by rw [c3] at e;cases e.1)]
mutual
def bare3:Tm→Prop
 | .mk k s _ l=>(k=3→s=[]∧l=[])∧zie l
def zie:List Tm→Prop
 | []=>True
 | t::l=>bare3 t∧zie l
end
mutual
theorem z9l:∀ t:Tm,z05 t=true→bare3 t
 | .mk k s n l,h=>by
  refine ⟨fun e=> ?_, ?_⟩
  · subst e;exact ⟨(za4.1 h).2.2.1,(za4.1 h).2.2.2⟩
  · by_cases h56:k=5∨k=6
    · exact zcx l fun u hu=>z2f h h56 u hu
    · have:l=[]:=okB0 (z0e _ h) (fun e=>h56 (.inl e)) (fun e=>h56 (.inr e));subst this;trivial
theorem zcx:∀ l:List Tm,(∀ u∈l,z05 u=true)→zie l
 | [],_=>trivial
 | t::l,h=>⟨z9l t (h t List.mem_cons_self),zcx l fun u hu=>h u (List.mem_cons_of_mem _ hu)⟩
end
mutual
theorem zrw (vs:List Int)(v:Int):∀ (t:Tm) (d:Int),bare3 t→z08 (z09 vs) (z08 (z0p 0 (vN4 v)) t d) d=z08 (z09 (vs++ [v])) t d
 | .mk k s n l,d,h=>by
  by_cases hk:(k==5||k==6)=true
  · rw [z1b _ (fun u d _ h6=>zju 0 v u d h6) k s n l d hk,z1b _ (fun u d _ h6=>z48 vs u d h6) _ _ _ _ _ hk,z1b _ (fun u d _ h6=>z48 (vs++ [v]) u d h6) _ _ _ _ _ hk,zn1 vs v l _ h.2]
  · have h5:k≠5:=fun e=>hk (by rw [e];rfl);have h6:k≠6:=fun e=>hk (by rw [e];rfl);rw [z1u _ k s n l d (by simpa using hk),z1u _ k s n l d (by simpa using hk)];exact op_leaf vs v _ d h.1 h5 h6
theorem zn1 (vs:List Int)(v:Int):∀ (l:List Tm) (d:Int),zie l→z0a (z09 vs) (z0a (z0p 0 (vN4 v)) l d) d=z0a (z09 (vs++ [v])) l d
 | [],_,_=>rfl
 | t::l,d,h=>by rw [z0a,z0a,z0a,zrw vs v t d h.1,zn1 vs v l d h.2]
end
theorem zj8 (vs:List Int)(v:Int)(t:Tm)(hv:z05 t=true):z0r vs (suT 0 (vN4 v) t 0)=z0r (vs++ [v]) t:=zrw vs v t 0 (z9l t hv)
mutual
theorem zuj:∀ (t:Tm) (d:Int),bare3 t→z08 (z09 []) t d=t
 | .mk k s n l,d,h=>by
  by_cases hk:(k==5||k==6)=true
  · rw [z1b _ (fun u d _ h6=>z48 [] u d h6) k s n l d hk,zme l _ h.2]
  · rw [z1u _ k s n l d (by simpa using hk)];unfold z09;split
    · rename_i h3;have h3k:k=3:=by simpa [Tm.k] using h3.1
      subst h3k;obtain ⟨rfl,rfl⟩:=h.1 rfl;have:d≤n:=h3.2;exact (if_neg (show¬n<d+(([]:List Int).length:Int) by simp only [List.length_nil];omega)).trans (by rw [show (Tm.mk 3 [] n []).n-(([]:List Int).length:Int)=n by show n-((0:Nat):Int)=n;omega])
    · rfl
theorem zme:∀ (l:List Tm) (d:Int),zie l→z0a (z09 []) l d=l
 | [],_,_=>rfl
 | t::l,d,h=>by rw [z0a,zuj t d h.1,zme l d h.2]
end
theorem zn6 (t:Tm)(hv:z05 t=true):z0r [] t=t:=zuj t 0 (z9l t hv)
theorem valid4 {s:List UInt8}{n:Int}{l:List Tm}:z05 (.mk 4 s n l)=true↔0≤n∧n≤4611686018427387904∧s=[]∧l=[]:=by
 rw [z05,lenI];simp only [show ((4:Int)==0)=false from rfl,show ((4:Int)==1)=false from rfl,show ((4:Int)==2)=false from rfl,show ((4:Int)==3)=false from rfl,Bool.false_eq_true,if_false,show ((4:Int)==4)=true from rfl,if_true];simp only [Bool.and_eq_true,decide_eq_true_eq,beq_iff_eq];constructor
 · rintro ⟨⟨⟨⟨h1,h2⟩,h3⟩,h4⟩,_⟩;exact ⟨h1,h2,h3,List.eq_nil_of_length_eq_zero (by omega)⟩
 · rintro ⟨h1,h2,h3,rfl⟩;exact ⟨⟨⟨⟨h1,h2⟩,h3⟩,rfl⟩,rfl⟩
def VR (vs:List Int):Prop:=vs.length≤1000000∧∀ v∈vs,0≤v∧v≤4611686018427387904
theorem zib {v:Int}(h0:0≤v)(h1:v≤4611686018427387904):z05 (vN4 v)=true:=valid4.2 ⟨h0,h1,rfl,rfl⟩
theorem z8f (M v:Int):bd M (vN4 v):=⟨fun e=>absurd e (by show¬(4:Int)=3;omega),trivial⟩
theorem ziz {M v:Int}{t:Tm}(hv:z05 t=true)(h0:0≤v)(h1:v≤4611686018427387904)(hz:t.sz≤1000000):z05 (suT 0 (vN4 v) t 0)=true:=by
 have hx:=zib h0 h1;rw [z55,Bool.and_eq_true];exact ⟨suT_ok 0 (z0e _ hx) (z0e _ hv),suT_lv (M:=0) (D:=t.sz) (Int.le_refl 0) (by omega) (z8f 0 v) (zax hx) (zax hv) 0 (Int.le_refl 0) (by omega)⟩
theorem suV_sz (v:Int)(t:Tm):(suT 0 (vN4 v) t 0).sz≤t.sz:=by
 have:=zs0 (b:=fun _ _=>1) (fun _=>Nat.le_refl _) 0 v t 0;rw [zak,zak] at this;exact this
theorem suV_bd {M v:Int}{t:Tm}(hM:(t.sz:Int)≤M)(hb:bd M t):bd M (suT 0 (vN4 v) t 0):=
 suT_bd (M':=0) (D:=t.sz) (vN4 v) t 0 hb (z8f 0 v) (by omega) (Int.le_refl 0) (by omega) (Int.le_refl 0) (by omega)
abbrev byV (vs:List Int):List Tm:=vs.map vN4
theorem c_backT (l:List Tm):AC Tryz.prog 97 [aL l] [] (.c (.fn (.func 131) [] [(false,[.ep 0 1 0 0])])) [.arr 1 [[.a (.fz (.sl false 4 (FTs l)))]]]:=by
 refine AC.vc hP sh lv97 (by simp) (by simp) (by simp [isLive]) (Eq.mpr (v97 ..) ?_);exact ⟨.refl _,rfl⟩
theorem isBkT:IsBk Tryz.prog 131 23 25:=⟨by kernel_rfl,_,135,3,4,Tryz.func131,by kernel_rfl,by kernel_rfl,by kernel_rfl⟩
theorem bTyT:zur Tryz.prog 23 25 4=true:=by kernel_rfl
abbrev hpOp (vs:List Int)(t:Tm):AHeap:=[(0, .arr 1 [[.a (.fz (.sl false 4 (FTs (byV vs))))]]),(1, .arr 4 [cT t]),(2, .arr 4 [[.a (.fz (.int .i64 0)), .a (.fz (.str [])), .a (.fz (.int .i64 0)), .a (.fz .N)]]),(3, .arr 1 [[.a (.fz (.sl false 4 (FTs (byV vs))))]])]
theorem zny (vs:List Int)(hR:VR vs)(t:Tm)(hv:z05 t=true)(hz:t.sz≤1000000)(hb:bd 1000000000000 t):AC Tryz.prog 96 [aT t, .c (.a (.ep 0 1 0 0))] [.arr 1 [[.a (.fz (.sl false 4 (FTs (byV vs))))]]] (aT (z0r vs t)) [.arr 1 [[.a (.fz (.sl false 4 (FTs (byV vs))))]]]:=by
 refine AC.vc hP sh lv96 (by simp) (by simp [isLive]) (by simp) (Eq.mpr (v96 t.k t.s t.n (FTs t.l) ..) ?_);refine ⟨byV vs,c_backT (byV vs), ?_⟩;have hlen:(byV vs).length=vs.length:=by simp [byV]
 have hl:=hR.1
 refine RPt.backF (sh:=sh) (lv:=lv96) (α:=Nat×Tm) (Inv:=fun x=>x.1≤vs.length∧z05 x.2=true∧x.2.sz≤1000000∧bd 1000000000000 x.2∧z0r (vs.take x.1) x.2=z0r vs t) (idx:=fun x=>x.1) (nx:=fun _=>4) (m0:=4) (U:=[]) (live:=[2,3,7]) (oc:=3) (n:=4) (es:=FTs (byV vs)) (x0:=(vs.length,t)) (g:= .tmp 7) (env:=[(2, .c (.a (.ep 1 4 0 0))),(3, .c (.a (.ep 2 4 0 0))),(7, .c (.fn (.func 131) [] [(false,[.ep 3 1 0 0])]))])
  (H:=fun x=>hpOp vs x.2) hP (by kernel_rfl) isBkT bTyT ?_ (by kernel_rfl) (by kernel_rfl) (by kernel_rfl) (by kernel_rfl) (fun _ _=>by omega) (fun _ _=>rfl) (fun e he=> ?_) (by rw [z01,hlen];omega) (fun x hx=>by rw [z01,hlen];exact hx.1) (fun x k hx hxk hk=> ?_) ⟨Nat.le_refl _,hv,hz,hb,by rw [List.take_of_length_le (Nat.le_refl _)]⟩ (by rw [z01,hlen]) (fun x hx h0=> ?_)
 · refine Eq.mpr (v96_1an ..) ?_;rfl
 · rw [z2t] at he;obtain ⟨u,_,rfl⟩:=List.mem_map.1 he;exact z3u u
 · obtain ⟨i,u⟩:=x;have hik:i=k+1:=hxk;subst hik;obtain ⟨h1,h2,h3,h4,h5⟩:=hx;simp only at h1 h2 h3 h4 h5;have hk':k<vs.length:=by omega
   have hvk:=hR.2 vs[k] (List.getElem_mem hk');have ef:List.getD (FTs (byV vs)) k []=FT (vN4 vs[k]):=by rw [z2t];simp [byV,List.getD,hk']
   rw [ef];have c1:=zcu (vN4 vs[k]) 0 k (by show 1≤B;simp only [B];omega) (z8f _ _) (by omega) (by simp only [M61];omega) (by omega) (by simp only [M61];omega);have c2:=zux u (vN4 vs[k]) 0 (by show 1≤B;simp only [B];omega) (by show u.sz+nd u*1≤B;have:=zqx u;simp only [B];omega) (z2d (by simp only [M61];omega) _ h4) (z8f _ _) (by omega) (by simp only [M61];omega);refine Eq.mpr (v96_1ara ..) ?_;refine ⟨vN4 vs[k],c1,suT 0 (vN4 vs[k]) u 0,c2,(k,suT 0 (vN4 vs[k]) u 0),⟨⟨by show k≤vs.length;omega,ziz (M:=0) h2 hvk.1 hvk.2 h3,by have:=suV_sz vs[k] u;show (suT 0 (vN4 vs[k]) u 0).sz≤_;omega,suV_bd (by omega) h4, ?_⟩,rfl⟩,rfl,rfl⟩;show z0r (vs.take k) (suT 0 (vN4 vs[k]) u 0)=_;rw [zj8 _ _ _ h2,←h5,List.take_succ_eq_append_getElem hk']
 · obtain ⟨i,u⟩:=x;have h0:i=0:=h0;subst h0;obtain ⟨_,h2,_,_,h5⟩:=hx;simp only [List.take_zero] at h5 h2;refine Eq.mpr (v96_1aza ..) ?_;rw [zn6 u h2] at h5;rw [←h5];exact ⟨.refl _,rfl⟩
end Go.AM

set_option maxRecDepth 100000
open Go Go.Proofs
namespace Go.AM
def z3d (u:Tm)(d:Int):Tm:=if u.k=4∨(u.k=3∧d≤u.n) then .mk 4 [] 0 [] else u
def erT (t:Tm)(d:Int):Tm:=z08 z3d t d
def erL (l:List Tm)(d:Int):List Tm:=z0a z3d l d
abbrev frB (t:Tm)(d:Int):Prop:=t.k=4∨(t.k=3∧d≤t.n)
theorem zpt (u:Tm)(d:Int)(h6:u.k≠6):(z3d u d).k≠6:=by
 unfold z3d;split
 · intro h;cases h
 · exact h6
theorem z77 {t:Tm}(d:Int)(hk:t.k=5∨t.k=6):erT t d= .mk t.k t.s t.n (erL t.l (d+if (t.k==5)=true then 1 else 0)):=by
 obtain ⟨k,s,n,l⟩:=t;exact z1b _ (fun u d _ h6=>zpt u d h6) k s n l d (by rcases hk with e | e<;>rw [show k=_ from e]<;>rfl)
theorem z7s {k:Int}(s:List UInt8)(n:Int)(l:List Tm)(d:Int)(hk:k=5∨k=6):erT (.mk k s n l) d= .mk k s n (erL l (d+if (k==5)=true then 1 else 0)):=z77 (t:= .mk k s n l) d hk
theorem z4y {t:Tm}(d:Int)(hk:¬(t.k=5∨t.k=6)):erT t d=z3d t d:=by
 obtain ⟨k,s,n,l⟩:=t
 exact z1u _ k s n l d (by
  have h5:¬k=5:=fun e=>hk (.inl e);have h6:¬k=6:=fun e=>hk (.inr e);simp [h5,h6])
theorem z4t (t:Tm)(l:List Tm)(d:Int):erL (t::l) d=erT t d::erL l d:=rfl
theorem zcf {u:Tm}{d:Int}(h:frB u d):z3d u d= .mk 4 [] 0 []:=if_pos h
theorem z7q {u:Tm}{d:Int}(h:¬frB u d):z3d u d=u:=if_neg h
theorem zn8 (u:Tm)(d:Int)(hk:¬(u.k=5∨u.k=6)):¬((z3d u d).k=5∨(z3d u d).k=6):=by
 by_cases hf:frB u d
 · rw [zcf hf];rintro (e | e)<;>cases e
 · rw [z7q hf];exact hk
theorem zc {t t':Tm}{d:Int}(h:erT t d=erT t' d):
  ((t.k=5∨t.k=6)∧t'.k=t.k∧t'.s=t.s∧t'.n=t.n∧erL t.l (d+if (t.k==5)=true then 1 else 0)=erL t'.l (d+if (t.k==5)=true then 1 else 0))∨(¬(t.k=5∨t.k=6)∧frB t d∧frB t' d)∨(¬(t.k=5∨t.k=6)∧¬frB t d∧¬frB t' d∧t'=t):=by
 by_cases hk:t.k=5∨t.k=6
 · rw [z77 d hk] at h;by_cases hk':t'.k=5∨t'.k=6
   · rw [z77 d hk'] at h;injection h with h1 h2 h3 h4
     refine .inl ⟨hk,h1.symm,h2.symm,h3.symm, ?_⟩;rw [h4,h1]
   · rw [z4y d hk'] at h;exact absurd (by rw [←h];exact hk) (zn8 t' d hk')
 · rw [z4y d hk] at h;by_cases hk':t'.k=5∨t'.k=6
   · rw [z77 d hk'] at h;exact absurd (by rw [h];exact hk') (zn8 t d hk)
   · rw [z4y d hk'] at h;by_cases hf:frB t d
     · rw [zcf hf] at h;refine .inr (.inl ⟨hk,hf, ?_⟩);by_cases hf':frB t' d
       · exact hf'
       · rw [z7q hf'] at h;exact absurd (.inl (by rw [←h];rfl)) hf'
     · rw [z7q hf] at h;by_cases hf':frB t' d
       · rw [zcf hf'] at h;exact absurd (.inl (by rw [h];rfl)) hf
       · rw [z7q hf'] at h;exact .inr (.inr ⟨hk,hf,hf',h.symm⟩)
theorem z7h {a:Tm}{l l':List Tm}{d:Int}(h:erL (a::l) d=erL l' d):∃ a' r,l'=a'::r∧erT a d=erT a' d∧erL l d=erL r d:=by
 match l',h with
 | [],h=>cases h
 | a'::r,h=>injection h with h1 h2;exact ⟨a',r,rfl,h1,h2⟩
theorem zbd {l':List Tm}{d:Int}(h:erL [] d=erL l' d):l'=[]:=by
 match l',h with
 | [],h=>rfl
 | a'::r,h=>cases h
theorem znz {l l':List Tm}{d:Int}(h:erL l d=erL l' d):l.length=l'.length:=by
 induction l generalizing l' with
 | nil=>rw [zbd h]
 | cons a l ih=>obtain ⟨a',r,rfl,_,h2⟩:=z7h h;rw [List.length_cons,List.length_cons,ih h2]
theorem zlw {t t':Tm}{d:Int}(h:erT t d=erT t' d)(hv:z05 t=true)(hv':z05 t'=true):erT (z00 t).1 d=erT (z00 t').1 d∧erL (z00 t).2 d=erL (z00 t').2 d:=by
 unfold z00;rcases zc h with ⟨hk,ek,_,_,el⟩ | ⟨hk,_,hf⟩ | ⟨hk,_,_,rfl⟩
 · by_cases h6:t.k=6
   · rw [if_pos ⟨h6,hv⟩,if_pos ⟨ek.trans h6,hv'⟩];obtain ⟨k,s,n,l⟩:=t;obtain ⟨k',s',n',l'⟩:=t';have h6:k=6:=h6;subst h6;have ek:k'=6:=ek;subst ek;obtain ⟨x,y,r,rfl,_,_⟩:=okB6 (z0e _ hv) rfl;have el:erL (x::y::r) (d+0)=erL l' (d+0):=el;rw [Int.add_zero] at el;obtain ⟨a',r',rfl,e1,e2⟩:=z7h el;exact ⟨e1,e2⟩
   · rw [if_neg fun q=>h6 q.1,if_neg fun q=>h6 (ek▸q.1)];exact ⟨h,rfl⟩
 · rw [if_neg fun q=>hk (.inr q.1),if_neg fun q=>by rcases hf with e | e<;>omega]
   exact ⟨h,rfl⟩
 · exact ⟨rfl,rfl⟩
theorem zru:∀ (l l':List Tm) (m:List Int) (k:Int),erL l k=erL l' k→z8r m l k=z8r m l' k
 | [],l',m,k,h=>by rw [zbd h]
 | t::l,l',m,k,h=>by
  obtain ⟨t',r,rfl,h1,h2⟩:=z7h h;rw [z8r,z8r];rcases zc h1 with ⟨hk,ek,_⟩ | ⟨hk,hf,hf'⟩ | ⟨hk,hf,hf',rfl⟩
  · have:¬t.k=3:=by omega
    rw [if_pos this,if_pos (by rw [ek];exact this)]
  · have a:∀ u:Tm,frB u k→(if u.k≠3 then false else if k≤u.n then false else if m.contains u.n=true then false else z8r (m++ [u.n]) l k)=false:=fun u q=>by
     rcases q with q | q
     · rw [if_pos (by omega)]
     · rw [if_neg (fun w=>w q.1),if_pos q.2]
    have b:∀ u:Tm,frB u k→(if u.k≠3 then false else if k≤u.n then false else if m.contains u.n=true then false else z8r (m++ [u.n]) r k)=false:=fun u q=>by
     rcases q with q | q
     · rw [if_pos (by omega)]
     · rw [if_neg (fun w=>w q.1),if_pos q.2]
    rw [a t hf,b t' hf']
  · rw [zru l r (m++ [t'.n]) k h2]
theorem all_er (p:Tm→Bool):∀ (l l':List Tm) (k:Int),erL l k=erL l' k→(∀ u∈l,∀ u'∈l',erT u k=erT u' k→p u=p u')→l.all p=l'.all p
 | [],l',k,h,_=>by rw [zbd h]
 | t::l,l',k,h,q=>by
  obtain ⟨t',r,rfl,h1,h2⟩:=z7h h;rw [List.all_cons,List.all_cons,q t (by simp) t' (by simp) h1,all_er p l r k h2 fun u hu u' hu'=>q u (List.mem_cons_of_mem _ hu) u' (List.mem_cons_of_mem _ hu')]
theorem zq0 {n:Nat}{t:Tm}{k:Int}(h5:¬t.k=5):patG (n+1) t k=if (z00 t).1.k=5 then false else if frB (z00 t).1 k then z8r [] (z00 t).2 k else (z00 t).2.all fun u=>patG n u k:=by
 rw [patG,if_neg h5]
theorem zrm:∀ (n:Nat) (t t':Tm) (k:Int),erT t k=erT t' k→z05 t=true→z05 t'=true→patG n t k=patG n t' k
 | 0,_,_,_,_,_,_=>rfl
 | n+1,t,t',k,h,hv,hv'=>by
  have hs:=zlw h hv hv'
  have p5:¬t.k=5→¬t'.k=5→patG (n+1) t k=patG (n+1) t' k:=fun h5 h5'=>by
   rw [zq0 h5,zq0 h5'];have ha:=all_er (fun u=>patG n u k) _ _ k hs.2 fun u hu u' hu' e=>zrm n u u' k e (z0c hu) (z0c hu');have hd:=zru _ _ [] k hs.2;rcases zc hs.1 with ⟨hk,ek,_⟩ | ⟨hk,hf,hf'⟩ | ⟨hk,hf,hf',e⟩
   · have n1:¬frB (z00 t).1 k:=fun q=>by rcases q with q | q<;>omega
     have n2:¬frB (z00 t').1 k:=fun q=>by rcases q with q | q<;>omega
     rw [if_neg n1,if_neg n2,ha];by_cases e5:(z00 t).1.k=5
     · rw [if_pos e5,if_pos (ek.trans e5)]
     · rw [if_neg e5,if_neg (fun q=>e5 (ek.symm.trans q))]
   · have n1:¬(z00 t).1.k=5:=fun q=>hk (.inl q);have n2:¬(z00 t').1.k=5:=fun q=>by rcases hf' with w | w<;>omega
     rw [if_neg n1,if_neg n2,if_pos hf,if_pos hf',hd]
   · rw [e,ha,if_neg hf,if_neg hf]
  rcases zc h with ⟨hk,ek,_,_,el⟩ | ⟨hk,hf,hf'⟩ | ⟨hk,hf,hf',rfl⟩
  · by_cases e5:t.k=5
    · rw [patG,patG,if_pos e5,if_pos (ek.trans e5)];obtain ⟨kk,s,m,l⟩:=t;obtain ⟨k',s',m',l'⟩:=t';have e5:kk=5:=e5;subst e5;have ek:k'=5:=ek;subst ek;obtain ⟨x,rfl,_⟩:=okB5 (z0e _ hv) rfl;obtain ⟨x',rfl,_⟩:=okB5 (z0e _ hv') rfl;obtain ⟨a',r',e,e1,e2⟩:=z7h el;injection e with e3 e4
      subst e3;exact zrm n x x' (k+1) e1 (z2f hv (.inl rfl) x (by simp)) (z2f hv' (.inl rfl) x' (by simp))
    · exact p5 e5 fun q=>e5 (ek▸q)
  · exact p5 (fun e=>hk (.inl e)) fun e=>by rcases hf' with q | q<;>omega
  · rfl
mutual
theorem er_er:∀ (t:Tm) (d e:Int),d≤e→erT (erT t e) d=erT t d
 | .mk k s n l,d,e,h=>by
  by_cases hk:k=5∨k=6
  · rw [z7s s n l e hk,z7s s n l d hk,z7s s n _ d hk,er_ers l _ _ (by omega)]
  · rw [z4y (t:= .mk k s n l) e hk,z4y (t:= .mk k s n l) d hk];unfold z3d;by_cases hf:frB (.mk k s n l) e
    · rw [if_pos hf,z4y _ (by rintro (e | e)<;>cases e)];have:frB (.mk k s n l) d:=hf.imp id (fun q=>⟨q.1,by have:=q.2;omega⟩);rw [if_pos this];rfl
    · rw [if_neg hf,z4y (t:= .mk k s n l) _ hk];rfl
theorem er_ers:∀ (l:List Tm) (d e:Int),d≤e→erL (erL l e) d=erL l d
 | [],_,_,_=>rfl
 | t::l,d,e,h=>by
  rw [z4t,z4t,z4t,er_er t d e h,er_ers l d e h]
end
mutual
theorem zf3 (lf:Tm→Int→Tm)(h6:∀ u d,u.k≠5→u.k≠6→(lf u d).k≠6)(hl:∀ u d,¬(u.k=5∨u.k=6)→¬((lf u d).k=5∨(lf u d).k=6)∧z3d (lf u d) d=z3d u d):∀ (t:Tm) (d:Int),erT (z08 lf t d) d=erT t d
 | .mk k s n l,d=>by
  by_cases hk:k=5∨k=6
  · have hk2:(k==5||k==6)=true:=by rcases hk with e | e<;>rw [e]<;>rfl
    rw [z1b lf h6 k s n l d hk2,z7s s n _ d hk,z7s s n l d hk,zna lf h6 hl l _]
  · have hk2:(k==5||k==6)=false:=by
     have h5:¬k=5:=fun e=>hk (.inl e);have h6:¬k=6:=fun e=>hk (.inr e);simp [h5,h6]
    have:=hl (.mk k s n l) d hk;rw [z1u lf k s n l d hk2,z4y _ this.1,z4y (t:= .mk k s n l) _ hk,this.2]
theorem zna (lf:Tm→Int→Tm)(h6:∀ u d,u.k≠5→u.k≠6→(lf u d).k≠6)(hl:∀ u d,¬(u.k=5∨u.k=6)→¬((lf u d).k=5∨(lf u d).k=6)∧z3d (lf u d) d=z3d u d):∀ (l:List Tm) (d:Int),erL (z0a lf l d) d=erL l d
 | [],_=>rfl
 | t::l,d=>by rw [z0a,z4t,z4t,zf3 lf h6 hl t d,zna lf h6 hl l d]
end
theorem er_sh (t:Tm)(d:Int):erT (shT 0 1 t d) d=erT t d:=by
 refine zf3 _ (fun u d _ h6=>zq9 0 1 u d h6) (fun u d hk=>⟨by rw [zgh];exact hk, ?_⟩) t d;unfold z0u;split
 · rename_i h;have h3:u.k=3:=by simpa using h.1
   unfold z3d;rw [if_pos (.inr ⟨h3,by show d≤u.n+1;omega⟩),if_pos (.inr ⟨h3,by omega⟩)]
 · rfl
theorem er_suV (v:Int)(t:Tm)(d:Int):erT (suT 0 (.mk 4 [] v []) t d) d=erT t d:=by
 refine zf3 _ (fun u d _ h6=>zju 0 v u d h6) (fun u d hk=> ?_) t d;rw [z6s];by_cases h3:(u.k==3)=true
 · have h3':u.k=3:=by simpa using h3
   rw [if_pos h3];by_cases h1:u.n<d+0
   · rw [if_pos h1];exact ⟨hk,rfl⟩
   · rw [if_neg h1];split
     · refine ⟨(by rintro (e | e)<;>cases e), ?_⟩;unfold z3d;rw [if_pos (.inl rfl),if_pos (.inr ⟨h3',by omega⟩)]
     · rename_i h2;have h2:¬u.n=d+0:=by simpa using h2
       refine ⟨hk, ?_⟩;unfold z3d;rw [if_pos (.inr ⟨h3',by show d≤u.n-1;omega⟩),if_pos (.inr ⟨h3',by omega⟩)]
 · rw [if_neg h3];exact ⟨hk,rfl⟩
theorem er_open (vs:List Int)(t:Tm):erT (z0r vs t) 0=erT t 0:=by
 refine zf3 _ (fun u d _ h6=>z48 vs u d h6) (fun u d hk=> ?_) t 0;unfold z09;split
 · rename_i h;have h3:u.k=3:=by simpa using h.1
   split
   · refine ⟨(by rintro (e | e)<;>cases e), ?_⟩;unfold z3d;rw [if_pos (.inl rfl),if_pos (.inr ⟨h3,h.2⟩)]
   · rename_i h1;refine ⟨(by rintro (e | e)<;>cases e), ?_⟩;unfold z3d;rw [if_pos (.inr ⟨rfl,by show d≤u.n-vs.length;omega⟩),if_pos (.inr ⟨h3,h.2⟩)]
 · exact ⟨hk,rfl⟩
theorem zel:∀ (l m:List Tm) (d:Int),erL (l++m) d=erL l d++erL m d
 | [],_,_=>rfl
 | t::l,m,d=>by rw [List.cons_append,z4t,z4t,zel l m d];rfl
theorem zm3 (f x:Tm)(d:Int):erT (z1x f [x]) d=z1x (erT f d) [erT x d]:=by
 show erT (if (f.k==6)=true∧f.l ≠ [] then .mk 6 [] 0 (f.l++ [x]) else .mk 6 [] 0 [f,x]) d=if ((erT f d).k==6)=true∧(erT f d).l ≠ [] then .mk 6 [] 0 ((erT f d).l++ [erT x d]) else .mk 6 [] 0 [erT f d,erT x d]
 have e0:∀ l:List Tm,erT (.mk 6 [] 0 l) d= .mk 6 [] 0 (erL l d):=fun l=>by
  rw [z77 d (.inr rfl)];show Tm.mk 6 [] 0 (erL l (d+0))=_;rw [Int.add_zero]
 by_cases h6:f.k=6
 · have e1:=z77 d (.inr h6);rw [show (d+if (f.k==5)=true then 1 else 0)=d by rw [h6];exact Int.add_zero d] at e1
   rw [e1,h6];by_cases hl:f.l=[]
   · rw [hl,if_neg (by simp),if_neg (by simp [erL,z0a,Tm.l]),e0,z4t,e1,hl,h6];rfl
   · have hl2:erL f.l d ≠ []:=fun e=>hl (zbd (l':=f.l) (d:=d) (by rw [e];rfl));rw [if_pos ⟨rfl,hl⟩,if_pos ⟨rfl,hl2⟩,e0,zel];rfl
 · have h6':¬(erT f d).k=6:=by
    by_cases h5:f.k=5
    · rw [z77 d (.inl h5)];show¬f.k=6;omega
    · rw [z4y d (by omega)];exact zpt f d h6
   rw [if_neg (by simp [h6]),if_neg (by simp [h6']),e0];rfl
theorem zqg {t t':Tm}(h:erT t 0=erT t' 0)(hv:z05 t=true)(hv':z05 t'=true):erT (z0g t) 0=erT (z0g t') 0:=by
 have h5':t'.k=5↔t.k=5:=by
  rcases zc h with ⟨_,ek,_⟩ | ⟨hk,_,hf'⟩ | ⟨_,_,_,rfl⟩
  · rw [ek]
  · exact ⟨fun e=>by rcases hf' with q | q<;>omega,fun e=>absurd (.inl e) hk⟩
  · exact Iff.rfl
 unfold z0g;by_cases h5:t.k=5
 · rw [if_pos h5,if_pos (h5'.2 h5)];rcases zc h with ⟨_,ek,_,_,el⟩ | ⟨hk,_⟩ | ⟨hk,_⟩
   · obtain ⟨k,s,n,l⟩:=t;obtain ⟨k',s',n',l'⟩:=t';have h5:k=5:=h5;subst h5;have ek:k'=5:=ek;subst ek;obtain ⟨x,rfl,_⟩:=okB5 (z0e _ hv) rfl;obtain ⟨x',rfl,_⟩:=okB5 (z0e _ hv') rfl;obtain ⟨a',r',e,e1,_⟩:=z7h el;injection e with e3 e4
     subst e3;have e1:erT x 1=erT x' 1:=e1;show erT x 0=erT x' 0;rw [←er_er x 0 1 (by omega),e1,er_er x' 0 1 (by omega)]
   · exact absurd (.inl h5) hk
   · exact absurd (.inl h5) hk
 · rw [if_neg h5,if_neg fun q=>h5 (h5'.1 q),zm3,zm3,er_sh,er_sh,h]
theorem zmx {t t':Tm}(flex:Int)(h:erT t 0=erT t' 0)(hv:z05 t=true)(hv':z05 t'=true):(z03 t flex).1=(z03 t' flex).1∧(z03 t flex).2.2=(z03 t' flex).2.2∧erL (z03 t flex).2.1 0=erL (z03 t' flex).2.1 0:=by
 have hs:=zlw h hv hv';rcases zc hs.1 with ⟨hk,ek,_⟩ | ⟨hk,hf,hf'⟩ | ⟨hk,hf,hf',e⟩
 · rw [sh_0 (t:=t) flex (by omega) (by omega) (by omega),sh_0 (t:=t') flex (by omega) (by omega) (by omega)];exact ⟨rfl,rfl,rfl⟩
 · rw [zpv (t:=t) flex (by rcases hf with q | q<;>omega),zpv (t:=t') flex (by rcases hf' with q | q<;>omega)]
   exact ⟨rfl,rfl,rfl⟩
 · unfold z03;rw [e,znz hs.2];split
   · exact ⟨rfl,rfl,rfl⟩
   · split
     · exact ⟨rfl,rfl,rfl⟩
     · split
       · exact ⟨rfl,rfl,hs.2⟩
       · split
         · exact ⟨rfl,rfl,rfl⟩
         · exact ⟨rfl,rfl,hs.2⟩
end Go.AM

set_option maxRecDepth 100000
open Go Go.Proofs
namespace Go.AM
theorem er_two {a c a' c':Tm}{d:Int}(h:erL [a,c] d=erL [a',c'] d):erT a d=erT a' d∧erT c d=erT c' d:=by
 injection h with h1 h2
 injection h2 with h3 _
 exact ⟨h1,h3⟩
theorem er_one {a a':Tm}{d:Int}(h:erL [a] d=erL [a'] d):erT a d=erT a' d:=by
 injection h with h1 _
theorem any_er (p q:Tm→Bool):∀ (l l':List Tm) (k:Int),erL l k=erL l' k→(∀ u∈l,∀ u'∈l',erT u k=erT u' k→p u=q u')→l.any p=l'.any q
 | [],l',k,h,_=>by rw [zbd h];rfl
 | t::l,l',k,h,w=>by
  obtain ⟨t',r,rfl,h1,h2⟩:=z7h h;rw [List.any_cons,List.any_cons,w t (by simp) t' (by simp) h1,any_er p q l r k h2 fun u hu u' hu'=>w u (List.mem_cons_of_mem _ hu) u' (List.mem_cons_of_mem _ hu')]
theorem zkv {t:Tm}{flex:Int}(hf:flex≠0)(h:(z03 t flex).2.2=0):(z03 t flex).2.1=(z00 t).2∧(z00 t).1.k=0:=by
 obtain ⟨h0,⟨_,_,q⟩ | ⟨_,_,q,_⟩⟩:=z6q hf h
 · exact ⟨q,h0⟩
 · exact ⟨q,h0⟩
theorem zam (w:Bool):∀ n:Nat,n≤1000000000→(∀ t t':Tm,TG n t→TG n t'→erT t 0=erT t' 0→z07 w n t=z07 w n t')∧
  (∀ (any:Bool) (vs vs':Int) (L L':List Tm) (t t':Tm),TG n t→TG n t'→erT t 0=erT t' 0→(clsF w n any vs L t).1=(clsF w n any vs' L' t').1)
 | 0,_=>⟨fun _ _ _ _ _=>rfl,fun _ _ _ _ _ _ _ _ _ _=>rfl⟩
 | n+1,hn=>by
  obtain ⟨ihG,ihC⟩:=zam w n (by omega);refine ⟨fun t t' ht ht' h=> ?_,fun any vs vs' L L' t t' ht ht' h=> ?_⟩
  · obtain ⟨e1,e2,e3⟩:=zmx 133 h ht.1 ht'.1;rw [z07,z07,←e1,←e2];by_cases he:(z03 t 133).2.2≠0
    · rw [if_pos he,if_pos he]
    rw [if_neg he,if_neg he];have he:(z03 t 133).2.2=0:=Classical.byContradiction he;by_cases hif:(z03 t 133).1=nIf
    · rw [if_pos hif,if_pos hif]
    rw [if_neg hif,if_neg hif]
    have two:∀ (hh:(z03 t 133).1=nAnd∨(z03 t 133).1=nOr∨(z03 t 133).1=nImp∨(z03 t 133).1=nIf),∃ a c a' c',(z03 t 133).2.1=[a,c]∧(z03 t' 133).2.1=[a',c']∧TG n a∧TG n a'∧TG n c∧TG n c'∧erT a 0=erT a' 0∧erT c 0=erT c' 0:=fun hh=>by
     obtain ⟨a,c,q,q2,_⟩:=z0m (by omega) he hh;obtain ⟨a',c',q',q2',_⟩:=z0m (t:=t') (by omega) (e2.symm.trans he) (by rw [←e1];exact hh);rw [q,q'] at e3;exact ⟨a,c,a',c',q,q',ht.arg (by rw [q2];simp),ht'.arg (by rw [q2'];simp),ht.arg (by rw [q2];simp),ht'.arg (by rw [q2'];simp),er_two e3⟩
    by_cases hand:(z03 t 133).1=nAnd∨(z03 t 133).1=nOr
    · rw [if_pos hand,if_pos hand];obtain ⟨a,c,a',c',q,q',ta,ta',tc,tc',ea,ec⟩:=two (hand.imp_right .inl);rw [q,q'];show (if z07 w n a≠0 then z07 w n a else z07 w n c)=if z07 w n a'≠0 then z07 w n a' else z07 w n c'
      rw [ihG a a' ta ta' ea,ihG c c' tc tc' ec]
    rw [if_neg hand,if_neg hand];by_cases himp:(z03 t 133).1=nImp
    · rw [if_pos himp,if_pos himp];obtain ⟨a,c,a',c',q,q',ta,ta',tc,tc',ea,ec⟩:=two (.inr (.inr (.inl himp)));rw [q,q'];show (if (clsF w n false 0 [] a).1≠0 then (clsF w n false 0 [] a).1 else z07 w n c)=if (clsF w n false 0 [] a').1≠0 then (clsF w n false 0 [] a').1 else z07 w n c'
      rw [ihC false 0 0 [] [] a a' ta ta' ea,ihG c c' tc tc' ec]
    rw [if_neg himp,if_neg himp];by_cases hpi:(z03 t 133).1=nPi∨(z03 t 133).1=nSig
    · rw [if_pos hpi,if_pos hpi];obtain ⟨a,q,q2,_⟩:=z1q (by omega) he hpi;obtain ⟨a',q',q2',_⟩:=z1q (t:=t') (by omega) (e2.symm.trans he) (by rw [←e1];exact hpi);rw [q,q'] at e3;rw [q,q'];exact ihG (z0g a) (z0g a') (ht.body (by omega) (by rw [q2];simp)) (ht'.body (by omega) (by rw [q2'];simp)) (zqg (er_one e3) (z0c (t:=t) (by rw [q2];simp)) (z0c (t:=t') (by rw [q2'];simp)))
    rw [if_neg hpi,if_neg hpi]
  · obtain ⟨e1,e2,e3⟩:=zmx 131 h ht.1 ht'.1;rw [clsF,clsF,←e1,←e2];by_cases he:(z03 t 131).2.2≠0
    · rw [if_pos he,if_pos he]
    rw [if_neg he,if_neg he];have he:(z03 t 131).2.2=0:=Classical.byContradiction he;have he':(z03 t' 131).2.2=0:=e2.symm.trans he;by_cases hnm:(z03 t 131).1=[]
    · rw [if_pos hnm,if_pos hnm]
      have:(z03 t 131).2.1.any (fun u=> !patG n u 0)=(z03 t' 131).2.1.any (fun u=> !patG n u 0):=any_er _ _ _ _ 0 e3 fun u hu u' hu' e=>by
       rw [(zkv (by omega) he).1] at hu;rw [(zkv (by omega) he').1] at hu';rw [zrm n u u' 0 e (z0c hu) (z0c hu')]
      rw [this];split<;>rfl
    rw [if_neg hnm,if_neg hnm]
    have two:∀ (hh:(z03 t 131).1=nAnd∨(z03 t 131).1=nOr∨(z03 t 131).1=nImp∨(z03 t 131).1=nIf),∃ a c a' c',(z03 t 131).2.1=[a,c]∧(z03 t' 131).2.1=[a',c']∧TG n a∧TG n a'∧TG n c∧TG n c'∧erT a 0=erT a' 0∧erT c 0=erT c' 0:=fun hh=>by
     obtain ⟨a,c,q,q2,_⟩:=z0m (by omega) he hh;obtain ⟨a',c',q',q2',_⟩:=z0m (t:=t') (by omega) he' (by rw [←e1];exact hh);rw [q,q'] at e3;exact ⟨a,c,a',c',q,q',ht.arg (by rw [q2];simp),ht'.arg (by rw [q2'];simp),ht.arg (by rw [q2];simp),ht'.arg (by rw [q2'];simp),er_two e3⟩
    by_cases hand:(z03 t 131).1=nAnd
    · rw [if_pos hand,if_pos hand];obtain ⟨a,c,a',c',q,q',ta,ta',tc,tc',ea,ec⟩:=two (.inl hand);rw [q,q'];have f1:=ihC any vs vs' L L' a a' ta ta' ea;have f2:=ihC any vs vs' L L' c c' tc tc' ec;by_cases z:(clsF w n any vs L a).1=0
      · rw [if_neg (show¬(clsF w n any vs L (at0 [a,c])).1≠0 from fun p=>p z),if_neg (show¬(clsF w n any vs' L' (at0 [a',c'])).1≠0 from fun p=>p (f1.symm.trans z))];exact f2
      · rw [if_pos (show (clsF w n any vs L (at0 [a,c])).1≠0 from z),if_pos (show (clsF w n any vs' L' (at0 [a',c'])).1≠0 from fun p=>z (f1.trans p))];exact f1
    rw [if_neg hand,if_neg hand];by_cases hpi:(z03 t 131).1=nPi
    · rw [if_pos hpi,if_pos hpi];obtain ⟨a,q,q2,_⟩:=z1q (by omega) he (.inl hpi);obtain ⟨a',q',q2',_⟩:=z1q (t:=t') (by omega) he' (by rw [←e1];exact .inl hpi);rw [q,q'] at e3;rw [q,q'];exact ihC any _ _ _ _ (z0g a) (z0g a') (ht.body (by omega) (by rw [q2];simp)) (ht'.body (by omega) (by rw [q2'];simp)) (zqg (er_one e3) (z0c (t:=t) (by rw [q2];simp)) (z0c (t:=t') (by rw [q2'];simp)))
    rw [if_neg hpi,if_neg hpi];by_cases himp:(z03 t 131).1=nImp
    · rw [if_pos himp,if_pos himp];obtain ⟨a,c,a',c',q,q',ta,ta',tc,tc',ea,ec⟩:=two (.inr (.inr (.inl himp)));rw [q,q'];have f1:=ihG a a' ta ta' ea;have f2:=ihC any vs vs' (L++ [a]) (L'++ [a']) c c' tc tc' ec;by_cases z:z07 w n a=0
      · rw [if_neg (show¬z07 w n (at0 [a,c])≠0 from fun p=>p z),if_neg (show¬z07 w n (at0 [a',c'])≠0 from fun p=>p (f1.symm.trans z))];exact f2
      · rw [if_pos (show z07 w n (at0 [a,c])≠0 from z),if_pos (show z07 w n (at0 [a',c'])≠0 from fun p=>z (f1.trans p))];exact f1
    rw [if_neg himp,if_neg himp];by_cases hif:(z03 t 131).1=nIf
    · rw [if_pos hif,if_pos hif];obtain ⟨a,c,a',c',q,q',ta,ta',tc,tc',ea,ec⟩:=two (.inr (.inr (.inr hif)));rw [q,q'];have f1:=ihG c c' tc tc' ec;have f2:=ihC any vs vs' (L++ [c]) (L'++ [c']) a a' ta ta' ea;by_cases z:z07 w n c=0
      · rw [if_neg (show¬z07 w n (at1 [a,c])≠0 from fun p=>p z),if_neg (show¬z07 w n (at1 [a',c'])≠0 from fun p=>p (f1.symm.trans z))];exact f2
      · rw [if_pos (show z07 w n (at1 [a,c])≠0 from z),if_pos (show z07 w n (at1 [a',c'])≠0 from fun p=>z (f1.trans p))];exact f1
    rw [if_neg hif,if_neg hif]
theorem z1n (t:Tm):1≤wt t:=by have:=zck t;have:=t.sz_pos;omega
theorem zap:∀ (n:Nat) (t:Tm) (k:Int),t.sz≤n→z05 t=true→patG (n+1) t k=patG n t k
 | 0,t,k,h,_=>by have:=t.sz_pos;omega
 | n+1,t,k,h,hv=>by
  conv=>lhs;rw [patG]
  conv=>rhs;rw [patG]
  by_cases e5:t.k=5
  · rw [if_pos e5,if_pos e5];obtain ⟨kk,s,m,l⟩:=t;have e5:kk=5:=e5;subst e5;obtain ⟨x,rfl,_⟩:=okB5 (z0e _ hv) rfl;exact zap n x (k+1) (by simp only [Tm.sz,Tm.szs] at h;omega) (z2f hv (.inl rfl) x (by simp))
  · rw [if_neg e5,if_neg e5]
    have:(z00 t).2.all (fun u=>patG (n+1) u k)=(z00 t).2.all fun u=>patG n u k:=by
     rw [Bool.eq_iff_iff,List.all_eq_true,List.all_eq_true];exact ⟨fun q u hu=>by rw [←zap n u k (by have:=z54 hu;omega) (z0c hu)];exact q u hu,fun q u hu=>by rw [zap n u k (by have:=z54 hu;omega) (z0c hu)];exact q u hu⟩
    rw [this]
theorem zce (w:Bool):∀ n:Nat,n≤1000000000→(∀ t:Tm,wt t≤n→TG n t→z07 w (n+1) t=z07 w n t)∧(∀ (any:Bool) (vs:Int) (L:List Tm) (t:Tm),wt t≤n→TG n t→clsF w (n+1) any vs L t=clsF w n any vs L t)
 | 0,_=>⟨fun t h=>by have:=z1n t;omega,fun _ _ _ t h=>by have:=z1n t;omega⟩
 | n+1,hn=>by
  obtain ⟨ihG,ihC⟩:=zce w n (by omega);refine ⟨fun t hw ht=> ?_,fun any vs L t hw ht=> ?_⟩
  · conv=>lhs;rw [z07]
    conv=>rhs;rw [z07]
    by_cases he:(z03 t 133).2.2≠0
    · rw [if_pos he,if_pos he]
    rw [if_neg he,if_neg he];have he:(z03 t 133).2.2=0:=Classical.byContradiction he
    have two:∀ (hh:(z03 t 133).1=nAnd∨(z03 t 133).1=nOr∨(z03 t 133).1=nImp∨(z03 t 133).1=nIf),∃ a c,(z03 t 133).2.1=[a,c]∧TG n a∧TG n c∧wt a≤n∧wt c≤n:=fun hh=>by
     obtain ⟨a,c,q,q2,q0⟩:=z0m (by omega) he hh;have ma:a∈(z00 t).2:=by rw [q2];simp
     have mc:c∈(z00 t).2:=by rw [q2];simp
     exact ⟨a,c,q,ht.arg ma,ht.arg mc,by have:=z2g ma q0;omega,by have:=z2g mc q0;omega⟩
    by_cases hif:(z03 t 133).1=nIf
    · rw [if_pos hif,if_pos hif]
    rw [if_neg hif,if_neg hif];by_cases hand:(z03 t 133).1=nAnd∨(z03 t 133).1=nOr
    · rw [if_pos hand,if_pos hand];obtain ⟨a,c,q,ta,tc,wa,wc⟩:=two (hand.imp_right .inl);rw [q];show (if z07 w (n+1) a≠0 then z07 w (n+1) a else z07 w (n+1) c)=if z07 w n a≠0 then z07 w n a else z07 w n c
      rw [ihG a wa ta,ihG c wc tc]
    rw [if_neg hand,if_neg hand];by_cases himp:(z03 t 133).1=nImp
    · rw [if_pos himp,if_pos himp];obtain ⟨a,c,q,ta,tc,wa,wc⟩:=two (.inr (.inr (.inl himp)));rw [q];show (if (clsF w (n+1) false 0 [] a).1≠0 then (clsF w (n+1) false 0 [] a).1 else z07 w (n+1) c)=if (clsF w n false 0 [] a).1≠0 then (clsF w n false 0 [] a).1 else z07 w n c
      rw [ihC false 0 [] a wa ta,ihG c wc tc]
    rw [if_neg himp,if_neg himp];by_cases hpi:(z03 t 133).1=nPi∨(z03 t 133).1=nSig
    · rw [if_pos hpi,if_pos hpi];obtain ⟨a,q,q2,q0⟩:=z1q (by omega) he hpi;have ma:a∈(z00 t).2:=by rw [q2];simp
      rw [q];exact ihG (z0g a) (by have:=z2g ma q0;have:=z6b (z0c ma);omega) (ht.body (by omega) ma)
    rw [if_neg hpi,if_neg hpi]
  · conv=>lhs;rw [clsF]
    conv=>rhs;rw [clsF]
    by_cases he:(z03 t 131).2.2≠0
    · rw [if_pos he,if_pos he]
    rw [if_neg he,if_neg he];have he:(z03 t 131).2.2=0:=Classical.byContradiction he
    have two:∀ (hh:(z03 t 131).1=nAnd∨(z03 t 131).1=nOr∨(z03 t 131).1=nImp∨(z03 t 131).1=nIf),∃ a c,(z03 t 131).2.1=[a,c]∧TG n a∧TG n c∧wt a≤n∧wt c≤n:=fun hh=>by
     obtain ⟨a,c,q,q2,q0⟩:=z0m (by omega) he hh;have ma:a∈(z00 t).2:=by rw [q2];simp
     have mc:c∈(z00 t).2:=by rw [q2];simp
     exact ⟨a,c,q,ht.arg ma,ht.arg mc,by have:=z2g ma q0;omega,by have:=z2g mc q0;omega⟩
    by_cases hnm:(z03 t 131).1=[]
    · rw [if_pos hnm,if_pos hnm]
      have:(z03 t 131).2.1.any (fun u=> !patG (n+1) u 0)=(z03 t 131).2.1.any (fun u=> !patG n u 0):=by
       obtain ⟨q,q0⟩:=zkv (by omega) he;rw [q,Bool.eq_iff_iff,List.any_eq_true,List.any_eq_true];have k:∀ u∈(z00 t).2,patG (n+1) u 0=patG n u 0:=fun u hu=>zap n u 0 (by have:=z2g hu q0;have:=zck u;omega) (z0c hu);exact ⟨fun ⟨u,hu,e⟩=>⟨u,hu,by rw [←k u hu];exact e⟩,fun ⟨u,hu,e⟩=>⟨u,hu,by rw [k u hu];exact e⟩⟩
      rw [this]
    rw [if_neg hnm,if_neg hnm];by_cases hand:(z03 t 131).1=nAnd
    · rw [if_pos hand,if_pos hand];obtain ⟨a,c,q,ta,tc,wa,wc⟩:=two (.inl hand);rw [q];show (if (clsF w (n+1) any vs L a).1≠0 then clsF w (n+1) any vs L a else ((clsF w (n+1) any vs L c).1,(clsF w (n+1) any vs L a).2++(clsF w (n+1) any vs L c).2))=if (clsF w n any vs L a).1≠0 then clsF w n any vs L a else ((clsF w n any vs L c).1,(clsF w n any vs L a).2++(clsF w n any vs L c).2)
      rw [ihC any vs L a wa ta,ihC any vs L c wc tc]
    rw [if_neg hand,if_neg hand];by_cases hpi:(z03 t 131).1=nPi
    · rw [if_pos hpi,if_pos hpi];obtain ⟨a,q,q2,q0⟩:=z1q (by omega) he (.inl hpi);have ma:a∈(z00 t).2:=by rw [q2];simp
      rw [q];exact ihC any _ _ (z0g a) (by have:=z2g ma q0;have:=z6b (z0c ma);omega) (ht.body (by omega) ma)
    rw [if_neg hpi,if_neg hpi];by_cases himp:(z03 t 131).1=nImp
    · rw [if_pos himp,if_pos himp];obtain ⟨a,c,q,ta,tc,wa,wc⟩:=two (.inr (.inr (.inl himp)));rw [q];show (if z07 w (n+1) a≠0 then (z07 w (n+1) a,[]) else clsF w (n+1) any vs (L++ [a]) c)=if z07 w n a≠0 then (z07 w n a,[]) else clsF w n any vs (L++ [a]) c
      rw [ihG a wa ta,ihC any vs (L++ [a]) c wc tc]
    rw [if_neg himp,if_neg himp];by_cases hif:(z03 t 131).1=nIf
    · rw [if_pos hif,if_pos hif];obtain ⟨a,c,q,ta,tc,wa,wc⟩:=two (.inr (.inr (.inr hif)));rw [q];show (if z07 w (n+1) c≠0 then (z07 w (n+1) c,[]) else clsF w (n+1) any vs (L++ [c]) a)=if z07 w n c≠0 then (z07 w n c,[]) else clsF w n any vs (L++ [c]) a
      rw [ihG c wc tc,ihC any vs (L++ [c]) a wa ta]
    rw [if_neg hif,if_neg hif]
end Go.AM

set_option maxRecDepth 100000
open Go Go.Proofs
namespace Go.AM
theorem zk (w:Bool){t:Tm}{m:Nat}(hm:wt t≤m):∀ n:Nat,m≤n→n≤1000000000→TG n t→z07 w n t=z07 w m t:=by
 intro n
 induction n with
 | zero=>intro h _ _;have:=z1n t;omega
 | succ n ih=>
  intro h hn ht;by_cases e:m=n+1
  · rw [e]
  · rw [(zce w n (by omega)).1 t (by omega) (ht.mono (by omega)),ih (by omega) (by omega) (ht.mono (by omega))]
theorem cls_le (w:Bool){any:Bool}{vs:Int}{L:List Tm}{t:Tm}{m:Nat}(hm:wt t≤m):∀ n:Nat,m≤n→n≤1000000000→TG n t→clsF w n any vs L t=clsF w m any vs L t:=by
 intro n
 induction n with
 | zero=>intro h _ _;have:=z1n t;omega
 | succ n ih=>
  intro h hn ht;by_cases e:m=n+1
  · rw [e]
  · rw [(zce w n (by omega)).2 any vs L t (by omega) (ht.mono (by omega)),ih (by omega) (by omega) (ht.mono (by omega))]
theorem z9f (w:Bool):∀ (n:Nat) (vs:Int) (L:List Tm) (t:Tm),(clsF w n false vs L t).1=0→clsF w n true vs L t=clsF w n false vs L t
 | 0,_,_,_,_=>rfl
 | n+1,vs,L,t,h=>by
  rw [clsF] at h
  conv=>lhs;rw [clsF]
  conv=>rhs;rw [clsF]
  by_cases he:(z03 t 131).2.2≠0
  · rw [if_pos he,if_pos he]
  rw [if_neg he] at h;rw [if_neg he,if_neg he];by_cases hnm:(z03 t 131).1=[]
  · rw [if_pos hnm] at h;rw [if_pos hnm,if_pos hnm];by_cases hp:(!(false||w)&&(z03 t 131).2.1.any fun u=> !patG n u 0)=true
    · rw [if_pos hp] at h;cases h
    · rw [if_neg hp,if_neg (by simp)]
  rw [if_neg hnm] at h;rw [if_neg hnm,if_neg hnm];by_cases hand:(z03 t 131).1=nAnd
  · rw [if_pos hand] at h;rw [if_pos hand,if_pos hand];by_cases z:(clsF w n false vs L (at0 (z03 t 131).2.1)).1≠0
    · rw [if_pos z] at h;exact absurd h z
    · rw [if_neg z] at h;rw [z9f w n vs L _ (Classical.byContradiction z),z9f w n vs L _ h]
  rw [if_neg hand] at h;rw [if_neg hand,if_neg hand];by_cases hpi:(z03 t 131).1=nPi
  · rw [if_pos hpi] at h;rw [if_pos hpi,if_pos hpi];exact z9f w n _ _ _ h
  rw [if_neg hpi] at h;rw [if_neg hpi,if_neg hpi];by_cases himp:(z03 t 131).1=nImp
  · rw [if_pos himp] at h;rw [if_pos himp,if_pos himp];by_cases z:z07 w n (at0 (z03 t 131).2.1)≠0
    · rw [if_pos z,if_pos z]
    · rw [if_neg z] at h;rw [if_neg z,if_neg z];exact z9f w n _ _ _ h
  rw [if_neg himp] at h;rw [if_neg himp,if_neg himp];by_cases hif:(z03 t 131).1=nIf
  · rw [if_pos hif] at h;rw [if_pos hif,if_pos hif];by_cases z:z07 w n (at1 (z03 t 131).2.1)≠0
    · rw [if_pos z,if_pos z]
    · rw [if_neg z] at h;rw [if_neg z,if_neg z];exact z9f w n _ _ _ h
  rw [if_neg hif,if_neg hif]
theorem zsk {t a c:Tm}(h:(z00 t).2=[a,c])(h0:(z00 t).1.k=0):5+wt a+wt c≤wt t:=by
 obtain ⟨s,n,x,y,r,rfl,e,_⟩:=z5m (t:=t) (by rw [h];simp);rw [e] at h h0;injection h with h1 h2
 subst h1;subst h2;have hx:4≤ms wb x:=by rw [zd7,show x.k=0 from h0];show 4≤4+_;omega
 unfold wt;simp only [ms,mss];have:wb 6 s=1:=rfl;omega
def GG (M:Nat)(g:Tm):Prop:=TG M g∧wt g≤M∧z07 false M g=0
theorem GG.le {M m:Nat}{g:Tm}(h:GG M g)(h1:m≤M)(h2:wt g≤m)(h3:M≤1000000000):GG m g:=⟨h.1.mono h1,h2,by rw [←zk false h2 M h1 h3 h.1];exact h.2.2⟩
def TD (M W:Nat)(c:Cl):Prop:=TG M c.2.1∧wt c.2.1≤W∧((z00 c.2.1).1.k=0∧logB (z00 c.2.1).1.s=false)∧∃ L,c.2.2=z3a L∧gms wb L≤W∧∀ g∈L,GG M g
theorem TD.mono {M W W':Nat}{c:Cl}(h:TD M W c)(hw:W≤W'):TD M W' c:=by
 obtain ⟨h1,h2,h3,L,h4,h5,h6⟩:=h;exact ⟨h1,by omega,h3,L,h4,by omega,h6⟩
theorem zc9 (any:Bool):∀ (n M:Nat),n≤M→n+M≤1000000000→∀ (vs:Int) (L:List Tm) (t:Tm),wt t≤n→TG (n+M) t→(∀ g∈L,TG (n+M) g∧wt g≤M∧z07 false M g=0)→(clsF false n any vs L t).1=0→
  ∀ c∈(clsF false n any vs L t).2,(vs≤c.1∧c.1≤vs+wt t)∧TD M (gms wb L+wt t) c
 | 0,_,_,_,_,_,t,h,_,_,_=>by have:=z1n t;omega
 | n+1,M,hnM,hM,vs,L,t,hw,ht,hL,h=>by
  rw [clsF] at h ⊢;have hL':∀ g∈L,TG (n+M) g∧wt g≤M∧z07 false M g=0:=fun g hg=>⟨(hL g hg).1.mono (by omega),(hL g hg).2⟩;have htn:TG (n+M+1) t:=by rw [show n+M+1=n+1+M by omega];exact ht
  by_cases he:(z03 t 131).2.2≠0
  · rw [if_pos he] at h;exact absurd h he
  rw [if_neg he] at h ⊢;have he:(z03 t 131).2.2=0:=Classical.byContradiction he;by_cases hnm:(z03 t 131).1=[]
  · rw [if_pos hnm] at h ⊢;split at h
    · cases h
    · rename_i hp;rw [if_neg hp];intro c hc;have hc:c=(vs,t,z3a L):=by simpa using hc
      subst hc;refine ⟨⟨Int.le_refl _,by show vs≤vs+wt t;omega⟩,ht.mono (by omega),by show wt t≤_;omega, ?_,L,rfl,by omega,fun g hg=>⟨(hL g hg).1.mono (by omega),(hL g hg).2⟩⟩;obtain ⟨h0,⟨_,q,_⟩ | ⟨q,q2,_⟩⟩:=z6q (by omega) he
      · exact ⟨h0,q⟩
      · exact absurd (q.symm.trans hnm) (log_ne q2)
  rw [if_neg hnm] at h ⊢
  have two:∀ (hh:(z03 t 131).1=nAnd∨(z03 t 131).1=nOr∨(z03 t 131).1=nImp∨(z03 t 131).1=nIf),∃ a c,(z03 t 131).2.1=[a,c]∧TG (n+M) a∧TG (n+M) c∧5+wt a+wt c≤wt t:=fun hh=>by
   obtain ⟨a,c,q,q2,q0⟩:=z0m (by omega) he hh;exact ⟨a,c,q,htn.arg (by rw [q2];simp),htn.arg (by rw [q2];simp),zsk q2 q0⟩
  by_cases hand:(z03 t 131).1=nAnd
  · rw [if_pos hand] at h ⊢;obtain ⟨a,c,q,ta,tc,hs⟩:=two (.inl hand);rw [q] at h ⊢;by_cases z:(clsF false n any vs L (at0 [a,c])).1≠0
    · rw [if_pos z] at h;exact absurd h z
    · rw [if_neg z] at h ⊢;intro x hx;rcases List.mem_append.1 hx with hx | hx
      · have:=zc9 any n M (by omega) (by omega) vs L a (by omega) ta hL' (Classical.byContradiction z) x hx;exact ⟨⟨this.1.1,by omega⟩,this.2.mono (by omega)⟩
      · have:=zc9 any n M (by omega) (by omega) vs L c (by omega) tc hL' h x hx;exact ⟨⟨this.1.1,by omega⟩,this.2.mono (by omega)⟩
  rw [if_neg hand] at h ⊢;by_cases hpi:(z03 t 131).1=nPi
  · rw [if_pos hpi] at h ⊢;obtain ⟨a,q,q2,q0⟩:=z1q (by omega) he (.inl hpi);have ma:a∈(z00 t).2:=by rw [q2];simp
    have hs:=z2g ma q0;have hb:=z6b (z0c ma);rw [q] at h ⊢;intro x hx;have hg:=zf8 wb L
    have:=zc9 any n M (by omega) (by omega) (vs+1) (L.map fun g=>shT 0 1 g 0) (z0g a) (by omega) (htn.body (by omega) ma) (fun g hg=>by
     obtain ⟨g',hg',rfl⟩:=List.mem_map.1 hg;have q:=hL g' hg';have q1:TG (n+M+1) g':=by rw [show n+M+1=n+1+M by omega];exact q.1
     have q3:=q1.sh (by omega);refine ⟨q3,by have:=zr4 (b:=wb) 0 1 g' 0;have:=q.2.1;unfold wt at*;omega, ?_⟩;exact ((zam false M (by omega)).1 _ _ (q3.mono (by omega)) (q.1.mono (by omega)) (er_sh g' 0)).trans q.2.2) h x hx
    exact ⟨⟨by omega,by omega⟩,this.2.mono (by omega)⟩
  rw [if_neg hpi] at h ⊢
  have more:∀ g d:Tm,TG (n+M) g→TG (n+M) d→5+wt g+wt d≤wt t→z07 false n g=0→(clsF false n any vs (L++ [g]) d).1=0→∀ x∈(clsF false n any vs (L++ [g]) d).2,(vs≤x.1∧x.1≤vs+wt t)∧TD M (gms wb L+wt t) x:=fun g d tg td hs hg hd x hx=>by
   have:=zc9 any n M (by omega) (by omega) vs (L++ [g]) d (by omega) td (fun u hu=>by
    rcases List.mem_append.1 hu with hu | hu
    · exact hL' u hu
    · have:u=g:=by simpa using hu
      subst this;exact ⟨tg,by omega,by rw [zk false (m:=n) (by omega) M (by omega) (by omega) (tg.mono (by omega))];exact hg⟩) hd x hx
   rw [z6m,gms,gms] at this;have e:wb 6 []+wb 0 nAnd=5:=rfl;exact ⟨⟨this.1.1,by omega⟩,this.2.mono (by unfold wt at*;omega)⟩
  by_cases himp:(z03 t 131).1=nImp
  · rw [if_pos himp] at h ⊢;obtain ⟨a,c,q,ta,tc,hs⟩:=two (.inr (.inr (.inl himp)));rw [q] at h ⊢;by_cases z:z07 false n (at0 [a,c])≠0
    · rw [if_pos z] at h;exact absurd h z
    · rw [if_neg z] at h ⊢;exact more a c ta tc hs (Classical.byContradiction z) h
  rw [if_neg himp] at h ⊢;by_cases hif:(z03 t 131).1=nIf
  · rw [if_pos hif] at h ⊢;obtain ⟨a,c,q,ta,tc,hs⟩:=two (.inr (.inr (.inr hif)));rw [q] at h ⊢;by_cases z:z07 false n (at1 [a,c])≠0
    · rw [if_pos z] at h;exact absurd h z
    · rw [if_neg z] at h ⊢;exact more c a tc ta (by omega) (Classical.byContradiction z) h
  rw [if_neg hif] at h;cases h
theorem zhw {b g:Tm}(hb:z05 b=true)(hg:z05 g=true):z05 (andG b g)=true:=by
 rw [zll];have h:z1p [andT,b,g]=true:=by rw [z1p,z1p,z1p,z1p,hb,hg];rfl
 rw [h];rfl
theorem zt0 {b g:Tm}(hb:z05 b=true)(hg:z05 g=true):z00 (andG b g)=(andT,[b,g]):=by
 unfold z00;rw [if_pos ⟨rfl,zhw hb hg⟩];rfl
theorem zrj {b g:Tm}(hb:z05 b=true)(hg:z05 g=true)(flex:Int):z03 (andG b g) flex=(nAnd,[b,g],0):=by
 unfold z03;rw [zt0 hb hg];rfl
theorem and_goal (w:Bool)(n:Nat){b g:Tm}(hb:z05 b=true)(hg:z05 g=true):z07 w (n+1) (andG b g)=if z07 w n b≠0 then z07 w n b else z07 w n g:=by
 rw [z07,zrj hb hg];rfl
theorem and_wt (b g:Tm):wt (andG b g)=5+wt b+wt g:=by unfold wt;rw [zsy];rfl
theorem GG.and {M:Nat}{b g:Tm}(hb:GG M b)(hg:GG M g)(h:wt (andG b g)≤M)(hM:M≤1000000000)(hz:wt (andG b g)≤1000000):GG M (andG b g):=by
 have hw:=and_wt b g;refine ⟨⟨zhw hb.1.1 hg.1.1,by have:=zck (andG b g);omega,zs3 hb.1.2.2 hg.1.2.2⟩,h, ?_⟩;obtain ⟨m,rfl⟩:∃ m,M=m+1:=⟨M-1,by omega⟩;have b':=hb.le (m:=m) (by omega) (by omega) hM;have g':=hg.le (m:=m) (by omega) (by omega) hM;rw [and_goal false m hb.1.1 hg.1.1,if_neg (fun q=>q b'.2.2)];exact g'.2.2
theorem GG.foldl {M:Nat}(hM:M≤1000000000):∀ (l:List Tm) (x:Tm),GG M x→(∀ g∈l,GG M g)→ms wb x+gms wb l≤M→ms wb x+gms wb l≤1000000→GG M (l.foldl andG x)
 | [],x,hx,_,_,_=>hx
 | g::l,x,hx,hl,h1,h2=>by
  have e:wb 6 []+wb 0 nAnd=5:=rfl;rw [gms] at h1 h2;have hw:=and_wt x g;unfold wt at hw;exact GG.foldl hM l (andG x g) (hx.and (hl g (by simp)) (by unfold wt;omega) hM (by unfold wt;omega)) (fun u hu=>hl u (List.mem_cons_of_mem _ hu)) (by omega) (by omega)
theorem zoh:z05 zbi=true:=by decide
theorem GG.true {M:Nat}(h:4≤M)(hM:M≤1000000000):GG M zbi:=by
 refine ⟨⟨zoh,by show 1≤1000000;omega,⟨fun e=>absurd e (by omega),trivial⟩⟩,h, ?_⟩;obtain ⟨m,rfl⟩:∃ m,M=m+1:=⟨M-1,by omega⟩;rw [z07];rfl
theorem GG.fold {M:Nat}(h4:4≤M)(hM:M≤1000000000)(L:List Tm)(hl:∀ g∈L,GG M g)(h1:gms wb L≤M)(h2:gms wb L≤1000000):GG M (z3a L):=by
 cases L with
 | nil=>exact GG.true h4 hM
 | cons x L=>
  rw [gms] at h1 h2;exact GG.foldl hM L x (hl x (by simp)) (fun u hu=>hl u (List.mem_cons_of_mem _ hu)) (by omega) (by omega)
end Go.AM

set_option maxRecDepth 100000
open Go Go.Proofs
namespace Go.AM
abbrev mkI (k a:Int):In1:= .mk k a noT0 [] []
def z0b:Nat→Int→List Int
 | 0,_=> []
 | n+1,f=>f::z0b n (f+1)
def argI:Nat→List Tm→List In1
 | _,[]=> []
 | i,t::l=> .mk (if t.k=0∨t.k=2 then 1 else 0) i t [] []::argI (i+1) l
def lastK (l:List In1):Int:=match l.getLast? with | some x=>x.k | none=>0
def finI (l:List In1):List In1:=if lastK l=3 then l else l++ [mkI 4 0]
abbrev Bf:=Bool→Tm→Int→Nat→Int×List In1
def z1a (bf:Bf)(c:Cl)(fr:Int):Cd:=
 .mk (z00 (z0r (z0b c.1.toNat fr) c.2.1)).1.s (z00 (z0r (z0b c.1.toNat fr) c.2.1)).2.length fr c.1
  (bf true (z0r (z0b c.1.toNat fr) c.2.2) (fr+c.1) (z00 (z0r (z0b c.1.toNat fr) c.2.1)).2.length).1
  (finI (argI 0 (z00 (z0r (z0b c.1.toNat fr) c.2.1)).2++(bf true (z0r (z0b c.1.toNat fr) c.2.2) (fr+c.1) (z00 (z0r (z0b c.1.toNat fr) c.2.1)).2.length).2))
abbrev Rs:=Int×List In1
def bodA (r:Rs)(f:Int→Nat→Rs)(p:Nat):Rs:=((f r.1 (p+r.2.length)).1,r.2++(f r.1 (p+r.2.length)).2)
def bodO (r:Rs)(f:Int→Nat→Rs)(p:Nat):Rs:=
 ((f r.1 (p+1+r.2.length+1)).1,mkI 9 ((p+1+r.2.length+1:Nat):Int)::(r.2++mkI 10 ((p+1+r.2.length+1+(f r.1 (p+1+r.2.length+1)).2.length:Nat):Int)::(f r.1 (p+1+r.2.length+1)).2))
def bodP (s:Int)(r:Rs):Rs:=(r.1,mkI 11 s::(r.2++ [mkI 12 0]))
def bodS (s:Int)(r:Rs):Rs:=(r.1,mkI 13 s::r.2)
def bodI (c:List Cd)(r:Rs):Rs:=(r.1, .mk 14 0 noT0 [] c::(r.2++ [mkI 15 0]))
def bodC:Nat→Bf
 | 0,_,_,s,_=>(s,[])
 | n+1,last,t,s,p=>
  if (z00 t).1.s=zkk then (s,[]) else if (z00 t).1.s=nFail then (s,[mkI 8 0]) else if (z00 t).1.s=nCut then (s,[mkI 7 0])
  else if (z00 t).1.s=nAnd then bodA (bodC n false (at0 (z00 t).2) s p) (bodC n last (at1 (z00 t).2)) p
  else if (z00 t).1.s=nOr then bodO (bodC n false (at0 (z00 t).2) s (p+1)) (bodC n false (at1 (z00 t).2)) p
  else if (z00 t).1.s=nPi then bodP s (bodC n false (suT 0 (vN4 s) (z0g (at0 (z00 t).2)) 0) (s+1) (p+1))
  else if (z00 t).1.s=nSig then bodS s (bodC n last (suT 0 (vN4 s) (z0g (at0 (z00 t).2)) 0) (s+1) (p+1))
  else if (z00 t).1.s=nImp then bodI ((z1k n true (at0 (z00 t).2)).map fun c=>z1a (bodC n) c s) (bodC n false (at1 (z00 t).2) s (p+1))
  else if (z00 t).1.s=nEq then (s,[.mk 5 0 noT0 (z00 t).2 []])
  else if numB (z00 t).1.s=true then (s,[.mk 6 0 t [] []])
  else (s,[.mk (if last=true then 3 else 2) 0 t [] []])
def compC (n:Nat)(c:Cl):Cd:=z1a (bodC n) c 0
abbrev nQuery:List UInt8:=[113,117,101,114,121]
def zp9 (n:Nat)(g:Tm)(vars:Int):Cd:= .mk nQuery 0 0 vars (bodC n true g vars 0).1 (finI (bodC n true g vars 0).2)
end Go.AM

set_option maxRecDepth 100000
open Go Go.Proofs
namespace Go.AM
theorem z5s (v:Int)(t:Tm):wt (suT 0 (vN4 v) t 0)≤wt t:=zs0 (b:=wb) (fun _=>Nat.le_refl _) 0 v t 0
theorem TG.suV {M:Nat}{t:Tm}{v:Int}(h:TG M t)(hM:M≤1000000000)(h0:0≤v)(h1:v≤4611686018427387904):TG M (suT 0 (vN4 v) t 0):=
 ⟨ziz (M:=0) h.1 h0 h1 h.2.1,by have:=suV_sz v t;have:=h.2.1;omega,suV_bd (by have:=h.2.1;omega) h.2.2⟩
theorem GG.suV {M:Nat}{t:Tm}{v:Int}(h:GG M t)(hM:M≤1000000000)(h0:0≤v)(h1:v≤4611686018427387904):GG M (suT 0 (vN4 v) t 0):=by
 have ht:=h.1.suV hM h0 h1;exact ⟨ht,by have:=z5s v t;have:=h.2.1;omega,((zam false M hM).1 _ _ ht h.1 (er_suV v t 0)).trans h.2.2⟩
theorem TG.open {M:Nat}(hM:M≤1000000000):∀ (vs:List Int),(∀ v∈vs,0≤v∧v≤4611686018427387904)→∀ t:Tm,TG M t→TG M (z0r vs t)∧wt (z0r vs t)≤wt t:=by
 have key:∀ (ws:List Int),(∀ v∈ws,0≤v∧v≤4611686018427387904)→∀ t:Tm,TG M t→TG M (z0r ws.reverse t)∧wt (z0r ws.reverse t)≤wt t:=by
  intro ws
  induction ws with
  | nil=>intro _ t h;rw [List.reverse_nil,zn6 t h.1];exact ⟨h,Nat.le_refl _⟩
  | cons v ws ih=>
   intro hv t h;rw [List.reverse_cons,←zj8 _ _ _ h.1];have:=hv v (by simp);have h2:=ih (fun u hu=>hv u (List.mem_cons_of_mem _ hu)) (suT 0 (vN4 v) t 0) (h.suV hM this.1 this.2);exact ⟨h2.1,Nat.le_trans h2.2 (z5s v t)⟩
 intro vs hv t h;have:=key vs.reverse (fun v q=>hv v (List.mem_reverse.1 q)) t h
 rwa [List.reverse_reverse] at this
theorem GG.open {M:Nat}(hM:M≤1000000000){vs:List Int}(hv:∀ v∈vs,0≤v∧v≤4611686018427387904){t:Tm}(h:GG M t):GG M (z0r vs t)∧wt (z0r vs t)≤wt t:=by
 have h1:=TG.open hM vs hv t h.1;exact ⟨⟨h1.1,by have:=h.2.1;omega,((zam false M hM).1 _ _ h1.1 h.1 (er_open vs t)).trans h.2.2⟩,h1.2⟩
theorem zke {t:Tm}{flex:Int}(hf:flex≠0)(h:(z03 t flex).2.2=0)(hl:logB (z00 t).1.s=true):(z03 t flex).1=(z00 t).1.s:=by
 obtain ⟨_,⟨_,q,_⟩ | ⟨q,_⟩⟩:=z6q hf h
 · rw [q] at hl;cases hl
 · exact q
theorem GG.head {M:Nat}{t:Tm}(h:GG (M+1) t):(z03 t 133).2.2=0:=by
 have:=h.2.2;rw [z07] at this;by_cases he:(z03 t 133).2.2≠0
 · rw [if_pos he] at this;exact absurd this he
 · exact Classical.byContradiction he
theorem GG.two {M:Nat}{t:Tm}(h:GG (M+1) t)(hs:(z00 t).1.s=nAnd∨(z00 t).1.s=nOr):∃ a c,(z00 t).2=[a,c]∧GG M a∧GG M c∧5+wt a+wt c≤wt t:=by
 have he:=h.head;have hn:=zke (by omega) he (by rcases hs with e | e<;>rw [e]<;>decide)
 have hs':(z03 t 133).1=nAnd∨(z03 t 133).1=nOr:=by rw [hn];exact hs
 obtain ⟨a,c,q,q2,q0⟩:=z0m (t:=t) (flex:=133) (by omega) he (hs'.imp_right .inl);have hw:=zsk q2 q0;have hw2:=h.2.1;have hg:=h.2.2;rw [z07,if_neg (fun p=>p he),if_neg (by rcases hs' with e | e<;>rw [e]<;>decide),if_pos hs',q] at hg
 have hg:(if z07 false M a≠0 then z07 false M a else z07 false M c)=0:=hg
 by_cases z:z07 false M a≠0
 · rw [if_pos z] at hg;exact absurd hg z
 · rw [if_neg z] at hg;exact ⟨a,c,q2,⟨h.1.arg (by rw [q2];simp),by omega,Classical.byContradiction z⟩,⟨h.1.arg (by rw [q2];simp),by omega,hg⟩,hw⟩
theorem GG.one {M:Nat}(hM:M≤1000000000){t:Tm}(h:GG (M+1) t)(hs:(z00 t).1.s=nPi∨(z00 t).1.s=nSig):∃ a,(z00 t).2=[a]∧TG M a∧GG M (z0g a)∧3+wt (z0g a)≤wt t:=by
 have he:=h.head;have hn:=zke (by omega) he (by rcases hs with e | e<;>rw [e]<;>decide)
 have hs':(z03 t 133).1=nPi∨(z03 t 133).1=nSig:=by rw [hn];exact hs
 obtain ⟨a,q,q2,q0⟩:=z1q (t:=t) (flex:=133) (by omega) he hs';have ma:a∈(z00 t).2:=by rw [q2];simp
 have hw:=z2g ma q0;have hb:=z6b (z0c ma);have hw2:=h.2.1;have hg:=h.2.2;rw [z07,if_neg (fun p=>p he),if_neg (by rcases hs' with e | e<;>rw [e]<;>decide),if_neg (by rcases hs' with e | e<;>rw [e]<;>decide),if_neg (by rcases hs' with e | e<;>rw [e]<;>decide),if_pos hs',q] at hg
 exact ⟨a,q2,h.1.arg ma,⟨h.1.body hM ma,by omega,hg⟩,by omega⟩
theorem GG.imp {M:Nat}{t:Tm}(h:GG (M+1) t)(hs:(z00 t).1.s=nImp):∃ a c,(z00 t).2=[a,c]∧TG M a∧(clsF false M false 0 [] a).1=0∧GG M c∧5+wt a+wt c≤wt t:=by
 have he:=h.head;have hn:=zke (by omega) he (by rw [hs];decide);have hs':(z03 t 133).1=nImp:=by rw [hn];exact hs
 obtain ⟨a,c,q,q2,q0⟩:=z0m (t:=t) (flex:=133) (by omega) he (.inr (.inr (.inl hs')));have hw:=zsk q2 q0;have hw2:=h.2.1;have hg:=h.2.2;rw [z07,if_neg (fun p=>p he),if_neg (by rw [hs'];decide),if_neg (by rw [hs'];decide),if_pos hs',q] at hg;have hg:(if (clsF false M false 0 [] a).1≠0 then (clsF false M false 0 [] a).1 else z07 false M c)=0:=hg
 by_cases z:(clsF false M false 0 [] a).1≠0
 · rw [if_pos z] at hg;exact absurd hg z
 · rw [if_neg z] at hg;exact ⟨a,c,q2,h.1.arg (by rw [q2];simp),Classical.byContradiction z,⟨h.1.arg (by rw [q2];simp),by omega,hg⟩,hw⟩
def OKc (n:Nat)(c:Cl)(fr:Int):Prop:=(0≤c.1∧c.1≤100000)∧(0≤fr∧fr+c.1+n+(n*n:Nat)≤1000000000)∧TG (n*n+n) c.2.1∧GG (n*n+n) c.2.2∧wt c.2.2≤n
theorem sq_s (n:Nat):(n+1)*(n+1)+(n+1)=(n*n+3*n+1)+1:=by
 rw [Nat.mul_add,Nat.add_mul];omega
theorem sq_b {n:Nat}(h:n≤10000):n*n≤100000000:=Nat.le_trans (Nat.mul_le_mul h h) (by omega)
theorem fold_wt2 (L:List Tm){W:Nat}(h4:4≤W)(h:gms wb L≤W):wt (z3a L)≤W:=by
 cases L with
 | nil=>exact h4
 | cons x L=>have:=zkr wb (x::L) (by simp);unfold wt;omega
theorem zf9 {n:Nat}(hn:n+1≤10000){t:Tm}(hw:wt t≤n+1)(h:GG ((n+1)*(n+1)+(n+1)) t)(hs:(z00 t).1.s=nImp)(s:Int)(h0:0≤s)(h1:s+n+n+(n*n:Nat)≤1000000000):
  ∃ a c,(z00 t).2=[a,c]∧TG n a∧wt a≤n∧(clsF false n true 0 [] a).1=0∧GG (n*n+n) c∧5+wt a+wt c≤wt t∧(∀ x∈(clsF false n true 0 [] a).2,OKc n x s∧TD (n*n+n) (wt a) x∧x.1≤wt a):=by
 have hsq:=sq_b (n:=n) (by omega);rw [sq_s] at h;obtain ⟨a,c,e,ta,hc,gc,hw2⟩:=h.imp hs;have w1:wt a≤n:=by omega
 have hc2:(clsF false n false 0 [] a).1=0:=by rw [←cls_le false (m:=n) w1 _ (by omega) (by omega) ta];exact hc
 have hany:=z9f false n 0 [] a hc2;have hc3:(clsF false n true 0 [] a).1=0:=by rw [hany];exact hc2
 refine ⟨a,c,e,ta.mono (by omega),w1,hc3,gc.le (by omega) (by omega) (by omega),hw2,fun x hx=> ?_⟩;obtain ⟨⟨r1,r2⟩,hT⟩:=zc9 true n (n*n+n) (by omega) (by omega) 0 [] a w1 (ta.mono (by omega)) (fun g hg=>by cases hg) hc3 x hx;have hT:TD (n*n+n) (wt a) x:=hT.mono (by simp only [gms];omega);obtain ⟨q1,q2,q3,L,q4,q5,q6⟩:=hT;have hf:GG (n*n+n) x.2.2:=by rw [q4];exact GG.fold (by omega) (by omega) L q6 (by omega) (by omega)
 exact ⟨⟨⟨r1,by omega⟩,⟨h0,by omega⟩,q1,hf,by rw [q4];exact fold_wt2 L (by omega) (by omega)⟩,⟨q1,q2,q3,L,q4,q5,q6⟩,by omega⟩
theorem z47:∀ (n:Nat),n≤10000→∀ (last:Bool) (t:Tm) (s:Int) (p:Nat),wt t≤n→GG (n*n+n) t→0≤s→s+wt t≤1000000000→(bodC n last t s p).2.length≤wt t∧s≤(bodC n last t s p).1∧(bodC n last t s p).1≤s+wt t
 | 0,_,_,t,_,_,h,_,_,_=>by have:=z1n t;omega
 | n+1,hn,last,t,s,p,hw,h,h0,h1=>by
  have hsq:=sq_b (n:=n) (by omega);have hp:=z1n t;rw [sq_s] at h;rw [bodC];by_cases c1:(z00 t).1.s=zkk
  · rw [if_pos c1];exact ⟨Nat.zero_le _,Int.le_refl _,by show s≤_;omega⟩
  rw [if_neg c1];by_cases c2:(z00 t).1.s=nFail
  · rw [if_pos c2];exact ⟨hp,Int.le_refl _,by show s≤_;omega⟩
  rw [if_neg c2];by_cases c3:(z00 t).1.s=nCut
  · rw [if_pos c3];exact ⟨hp,Int.le_refl _,by show s≤_;omega⟩
  rw [if_neg c3];by_cases c4:(z00 t).1.s=nAnd
  · rw [if_pos c4];obtain ⟨a,c,e,ga,gc,hs⟩:=h.two (.inl c4);rw [e];have b1:=z47 n (by omega) false a s p (by omega) (ga.le (by omega) (by omega) (by omega)) h0 (by omega);have b2:=z47 n (by omega) last c (bodC n false a s p).1 (p+(bodC n false a s p).2.length) (by omega) (gc.le (by omega) (by omega) (by omega)) (by omega) (by omega);refine ⟨?_, ?_, ?_⟩
    · show ((bodC n false a s p).2++(bodC n last c (bodC n false a s p).1 (p+(bodC n false a s p).2.length)).2).length≤_;rw [List.length_append];omega
    · show s≤(bodC n last c (bodC n false a s p).1 (p+(bodC n false a s p).2.length)).1;omega
    · show (bodC n last c (bodC n false a s p).1 (p+(bodC n false a s p).2.length)).1≤_;omega
  rw [if_neg c4];by_cases c5:(z00 t).1.s=nOr
  · rw [if_pos c5];obtain ⟨a,c,e,ga,gc,hs⟩:=h.two (.inr c5);rw [e];show (bodO (bodC n false a s (p+1)) (bodC n false c) p).2.length≤_∧s≤(bodO (bodC n false a s (p+1)) (bodC n false c) p).1∧(bodO (bodC n false a s (p+1)) (bodC n false c) p).1≤_;have b1:=z47 n (by omega) false a s (p+1) (by omega) (ga.le (by omega) (by omega) (by omega)) h0 (by omega);generalize hr:bodC n false a s (p+1)=r at b1 ⊢;have b2:=z47 n (by omega) false c r.1 (p+1+r.2.length+1) (by omega) (gc.le (by omega) (by omega) (by omega)) (by omega) (by omega);unfold bodO;simp only [List.length_cons,List.length_append];exact ⟨by omega,by omega,by omega⟩
  rw [if_neg c5];by_cases c6:(z00 t).1.s=nPi
  · rw [if_pos c6];obtain ⟨a,e,ta,ga,hs⟩:=h.one (by omega) (.inl c6);rw [e];have g2:=(ga.suV (v:=s) (by omega) h0 (by omega)).le (m:=n*n+n) (by omega) (by have:=z5s s (z0g a);omega) (by omega);have w2:=z5s s (z0g a);have b1:=z47 n (by omega) false (suT 0 (vN4 s) (z0g a) 0) (s+1) (p+1) (by omega) g2 (by omega) (by omega);rw [show at0 [a]=a from rfl];unfold bodP;simp only [List.length_cons,List.length_append,List.length_nil];exact ⟨by omega,by omega,by omega⟩
  rw [if_neg c6];by_cases c7:(z00 t).1.s=nSig
  · rw [if_pos c7];obtain ⟨a,e,ta,ga,hs⟩:=h.one (by omega) (.inr c7);rw [e];have g2:=(ga.suV (v:=s) (by omega) h0 (by omega)).le (m:=n*n+n) (by omega) (by have:=z5s s (z0g a);omega) (by omega);have w2:=z5s s (z0g a);have b1:=z47 n (by omega) last (suT 0 (vN4 s) (z0g a) 0) (s+1) (p+1) (by omega) g2 (by omega) (by omega);rw [show at0 [a]=a from rfl];unfold bodS;simp only [List.length_cons];exact ⟨by omega,by omega,by omega⟩
  rw [if_neg c7];by_cases c8:(z00 t).1.s=nImp
  · rw [if_pos c8];obtain ⟨a,c,e,ta,hc,gc,hs⟩:=h.imp c8;rw [e];have b1:=z47 n (by omega) false c s (p+1) (by omega) (gc.le (by omega) (by omega) (by omega)) h0 (by omega);rw [show at1 [a,c]=c from rfl];unfold bodI;simp only [List.length_cons,List.length_append,List.length_nil];exact ⟨by omega,by omega,by omega⟩
  rw [if_neg c8];by_cases c9:(z00 t).1.s=nEq
  · rw [if_pos c9];exact ⟨hp,Int.le_refl _,by show s≤_;omega⟩
  rw [if_neg c9];by_cases c10:numB (z00 t).1.s=true
  · rw [if_pos c10];exact ⟨hp,Int.le_refl _,by show s≤_;omega⟩
  rw [if_neg c10];exact ⟨hp,Int.le_refl _,by show s≤_;omega⟩
theorem z4l:∀ (n:Nat) (f:Int),(z0b n f).length=n
 | 0,_=>rfl
 | n+1,f=>by rw [z0b,List.length_cons,z4l n]
theorem zif:∀ (n:Nat) (f:Int) (v:Int),v∈z0b n f→f≤v∧v<f+n
 | 0,_,v,h=>by cases h
 | n+1,f,v,h=>by
  rcases List.mem_cons.1 h with rfl | h
  · exact ⟨Int.le_refl _,by omega⟩
  · have:=zif n (f+1) v h;omega
theorem z9m:∀ (n:Nat) (f:Int),z0b (n+1) f=z0b n f++ [f+n]
 | 0,f=>by rw [z0b,z0b,z0b];simp
 | n+1,f=>by rw [z0b,z9m n (f+1),z0b,List.cons_append,show f+1+(n:Int)=f+((n+1:Nat):Int) by omega]
end Go.AM

set_option maxRecDepth 100000
open Go Go.Proofs
namespace Go.AM
theorem l_ixOp (p:Tm→Bool)(b:List Tm):∀ a:List Tm,(a++b).length≤B→(∀ u∈b,AC Tryz.prog 95 [aT u] [] (cb (p u)) [])→RPt Tryz.prog 84 0 (ci (ixF p b a.length)) [] 1 ⟨[(0,aL (a++b)),(1, .c (.fn (.func 95) [] [])),(7,ci (a++b).length),(8,ci a.length)],[],0⟩:=by
 induction b with
 | nil=>
  intro a hs _;refine RPt.vc hP sh lv84 (Eq.mpr (zdu ..) ?_);exact z02 (fun h=>absurd (of_decide_eq_true h) (by simp)) (fun _=>z0z rfl)
 | cons t b ihb=>
  intro a hs ih;have h3:=ltI' a t b;have h1:=ih t List.mem_cons_self;have h2:=ihb (a++ [t]) (by simpa using hs) (fun u hu=>ih u (List.mem_cons_of_mem _ hu));rw [ap,nx,show (a++ [t]).length=a.length+1 by simp] at h2;rw [ixF];simp only [List.length_append,List.length_cons,B] at hs;have h4:(a.length:Int)<((a++t::b).length:Int):=by simp only [List.length_append,List.length_cons];omega
  refine RPt.vc hP sh lv84 (Eq.mpr (zdu ..) ?_);rw [w64 (by omega) (by omega)];refine z02 (fun _=>⟨⟨rfl,by omega,h3,z1y ..⟩,p t,by rw [z45];exact h1,z02 (fun h=> ?_) (fun h=> ?_)⟩) (fun h=>absurd h4 (of_decide_eq_false h))
  · rw [if_pos h];exact z0z rfl
  · rw [if_neg (by rw [h];simp)];exact h2
theorem c_anyOp (p:Tm→Bool)(l:List Tm)(hl:l.length≤B)(h:∀ u∈l,AC Tryz.prog 95 [aT u] [] (cb (p u)) []):AC Tryz.prog 39 [aL l, .c (.fn (.func 95) [] [])] [] (cb (l.any p)) []:=by
 have h0:=l_ixOp p l [] hl h
 have h1:AC Tryz.prog 84 [aL l, .c (.fn (.func 95) [] [])] [] (ci (ixF p l 0)) []:=by
  refine AC.vc hP sh lv84 (Nat.le_refl _) (by simp) (by simp) (Eq.mpr (v84_F95 ..) ?_);rw [z01];exact ⟨rfl,h0⟩
 refine AC.vc hP sh lv39 (Nat.le_refl _) (by simp) (by simp) (Eq.mpr (v39_F95 ..) ?_);exact ⟨_,h1,z04 (by rw [z75 p l 0])⟩
theorem zes (t:Tm)(hz:t.sz≤B):AC Tryz.prog 95 [aT t] [] (cb (!z05 t)) []:=by
 have h:=z4z t hz;obtain ⟨a,b,c,d⟩:=t;refine AC.vc hP sh lv95 (Nat.le_refl _) (by simp) (by simp) (Eq.mpr (v95 ..) ?_);exact ⟨_,h,z04 rfl⟩
theorem c_kopen (c:Cl)(vs:List Int)(hR:VR vs)(hl:c.1=vs.length)(h1:z05 c.2.1=true)(h2:z05 c.2.2=true)(z1:c.2.1.sz≤1000000)(z2:c.2.2.sz≤1000000)(b1:bd 1000000000000 c.2.1)(b2:bd 1000000000000 c.2.2):
  AC Tryz.prog 53 [aCl c,aL (byV vs)] [] (.tup [(true,cT (z0r vs c.2.1)),(true,cT (z0r vs c.2.2))]) []:=by
 have hlen:(byV vs).length=vs.length:=by simp [byV]
 have ca:=c_anyOp (fun u=> !z05 u) (byV vs) (by rw [hlen];have:=hR.1;simp only [B];omega) (fun u hu=>by
  obtain ⟨v,_,rfl⟩:=List.mem_map.1 hu;exact zes (vN4 v) (by show 1≤B;simp only [B];omega))
 have hany:((byV vs).any fun u=> !z05 u)=false:=by
  rw [List.any_eq_false];intro u hu;obtain ⟨v,hv,rfl⟩:=List.mem_map.1 hu;have:=hR.2 v hv;rw [zib this.1 this.2];simp
 rw [hany] at ca;have k1:=zes c.2.1 (by simp only [B];omega);have k2:=zes c.2.2 (by simp only [B];omega);rw [h1] at k1;rw [h2] at k2;have o1:=zny vs hR c.2.1 h1 z1 b1;have o2:=zny vs hR c.2.2 h2 z2 b2;obtain ⟨n,hd',bo⟩:=c;refine AC.vc hP sh lv53 (Nat.le_refl _) (by simp) (by simp) (Eq.mpr (v53 ..) ?_);exact ⟨rfl,br_f (by rw [z01,hlen,hl];simp) ⟨_,ca,br_f rfl ⟨_,k1,br_f rfl ⟨_,k2,br_f rfl ⟨_,o1,_,o2, .refl _,rfl⟩⟩⟩⟩⟩
abbrev stI (s:Int)(l:List In1):List AObj:=[.arr 2 [[.a (.fz (.int .i64 s)), .a (.osl 1 8 0 l.length)]], .arz 8 (FIs l)]
abbrev stO (s:Int)(l:List In1):List AObj:=[.arr 2 [[.a (.fz (.int .i64 s)), .a (.osl 2 8 0 l.length)]], .gone, .arz 8 (FIs l)]
abbrev ep2:TV:= .c (.a (.ep 0 2 0 0))
abbrev aIw (x:In1):TV:= .agg [.a (.fz (.int .i64 x.k)), .a (.fz (.int .i64 x.a)), .a (.fz (.int .i64 x.t.k)), .a (.fz (.str x.t.s)), .a (.fz (.int .i64 x.t.n)), .a (.fz (.sl false 4 (FTs x.t.l))), .a (.fz (.sl false 4 (FTs x.l))), .a (.fz (.sl false 6 (FCs x.c)))]
theorem zng (l:List In1)(x:In1):FIs l++ [FI x]=FIs (l++ [x]):=by rw [z6f,z6f,List.map_append];rfl
theorem znj (l:List In1):List.take l.length (FIs l)=FIs l:=List.take_of_length_le (by rw [z06];exact Nat.le_refl _)
theorem zmn (x:In1)(s:Int)(l:List In1)(hl:l.length≤1000000000):AC Tryz.prog 55 [ep2,aIw x] (stI s l) (ci l.length) (stO s (l++ [x])):=by
 refine AC.vc hP sh lv55 (by simp) (by simp [isLive]) (by simp [isLive]) (Eq.mpr (v55 x.k x.a x.t.k x.t.s x.t.n (FTs x.t.l) (FTs x.l) (FCs x.c) s l.length (FIs l) ..) ?_);rw [w64 (x:=((l.length+1:Nat):Int)-1) (by omega) (by omega),znj,←zqu x,zng];refine ⟨Nat.le_refl _,⟨by rw [z06];exact Nat.le_refl _,by unfold z0d;omega⟩, ?_, ?_⟩
 · rw [show ((l.length+1:Nat):Int)-1=(l.length:Int) by omega];exact .refl _
 · show _=[AObj.arr 2 [[.a (.fz (.int .i64 s)), .a (.osl 2 8 0 (l++ [x]).length)]], .gone, .arz 8 (FIs (l++ [x]))];rw [List.length_append];rfl
theorem z5f (k a:Int)(s:Int)(l:List In1)(hl:l.length≤1000000000):AC Tryz.prog 55 [ep2, .agg [.a (.fz (.int .i64 k)), .a (.fz (.int .i64 a)), .a (.fz (.int .i64 0)), .a (.fz (.str [])), .a (.fz (.int .i64 0)), .a (.fz .N), .a (.fz .N), .a (.fz .N)]] (stI s l) (ci l.length) (stO s (l++ [mkI k a])):=
 (zmn (mkI k a) s l hl).args ⟨.refl _,z7n (a:=[.int .i64 k, .int .i64 a, .int .i64 0, .str [], .int .i64 0, .N, .N, .N]) (b:=[.int .i64 k, .int .i64 a, .int .i64 0, .str [], .int .i64 0, .sl false 4 [], .sl false 4 [], .sl false 6 []]) ⟨.refl _, .refl _, .refl _, .refl _, .refl _, .N 4, .N 4, .N 6,trivial⟩,trivial⟩
theorem zfh (k a:Int)(t:Tm)(s:Int)(l:List In1)(hl:l.length≤1000000000):AC Tryz.prog 55 [ep2, .agg [.a (.fz (.int .i64 k)), .a (.fz (.int .i64 a)), .a (.fz (.int .i64 t.k)), .a (.fz (.str t.s)), .a (.fz (.int .i64 t.n)), .a (.fz (.sl false 4 (FTs t.l))), .a (.fz .N), .a (.fz .N)]] (stI s l) (ci l.length) (stO s (l++ [.mk k a t [] []])):=
 (zmn (.mk k a t [] []) s l hl).args ⟨.refl _,z7n (a:=[.int .i64 k, .int .i64 a, .int .i64 t.k, .str t.s, .int .i64 t.n, .sl false 4 (FTs t.l), .N, .N]) (b:=[.int .i64 k, .int .i64 a, .int .i64 t.k, .str t.s, .int .i64 t.n, .sl false 4 (FTs t.l), .sl false 4 [], .sl false 6 []]) ⟨.refl _, .refl _, .refl _, .refl _, .refl _, .refl _, .N 4, .N 6,trivial⟩,trivial⟩
theorem c_pputL (k a:Int)(m:List Tm)(s:Int)(l:List In1)(hl:l.length≤1000000000):AC Tryz.prog 55 [ep2, .agg [.a (.fz (.int .i64 k)), .a (.fz (.int .i64 a)), .a (.fz (.int .i64 0)), .a (.fz (.str [])), .a (.fz (.int .i64 0)), .a (.fz .N), .a (.fz (.sl false 4 (FTs m))), .a (.fz .N)]] (stI s l) (ci l.length) (stO s (l++ [.mk k a noT0 m []])):=
 (zmn (.mk k a noT0 m []) s l hl).args ⟨.refl _,z7n (a:=[.int .i64 k, .int .i64 a, .int .i64 0, .str [], .int .i64 0, .N, .sl false 4 (FTs m), .N]) (b:=[.int .i64 k, .int .i64 a, .int .i64 0, .str [], .int .i64 0, .sl false 4 [], .sl false 4 (FTs m), .sl false 6 []]) ⟨.refl _, .refl _, .refl _, .refl _, .refl _, .N 4, .refl _, .N 6,trivial⟩,trivial⟩
theorem c_pputC (k a:Int)(m:List Cd)(s:Int)(l:List In1)(hl:l.length≤1000000000):AC Tryz.prog 55 [ep2, .agg [.a (.fz (.int .i64 k)), .a (.fz (.int .i64 a)), .a (.fz (.int .i64 0)), .a (.fz (.str [])), .a (.fz (.int .i64 0)), .a (.fz .N), .a (.fz .N), .a (.fz (.sl false 6 (FCs m)))]] (stI s l) (ci l.length) (stO s (l++ [.mk k a noT0 [] m])):=
 (zmn (.mk k a noT0 [] m) s l hl).args ⟨.refl _,z7n (a:=[.int .i64 k, .int .i64 a, .int .i64 0, .str [], .int .i64 0, .N, .N, .sl false 6 (FCs m)]) (b:=[.int .i64 k, .int .i64 a, .int .i64 0, .str [], .int .i64 0, .sl false 4 [], .sl false 4 [], .sl false 6 (FCs m)]) ⟨.refl _, .refl _, .refl _, .refl _, .refl _, .N 4, .N 4, .refl _,trivial⟩,trivial⟩
theorem z9i (a b:List In1):FIs (a++b)=FIs a++FIs b:=by rw [z6f,z6f,z6f,List.map_append]
theorem zfj {α:Type}(x y:α):∀ (a b:List α),(a++x::b).set a.length y=a++y::b
 | [],_=>rfl
 | z::a,b=>by rw [List.cons_append,List.length_cons,List.set_cons_succ,zfj x y a b];rfl
theorem c_phere (a b:List In1)(k v:Int)(s:Int)(hl:a.length≤1000000000):AC Tryz.prog 146 [ep2,ci a.length] (stI s (a++mkI k v::b)) (.tup []) (stO s (a++mkI k ((a++mkI k v::b).length:Nat)::b)):=by
 refine AC.vc hP sh lv146 (by simp) (by simp [isLive]) (by simp [isLive]) (Eq.mpr (v146 a.length s (a++mkI k v::b).length (FIs (a++mkI k v::b)) ..) ?_);have e:FIs (a++mkI k v::b)=FIs a++FI (mkI k v)::FIs b:=by rw [z9i];rfl
 have e1:0+Int.toNat (a.length:Int)=(FIs a).length:=by rw [z06];omega
 have e2:List.getD (FIs a++FI (mkI k v)::FIs b) (FIs a).length []=FI (mkI k v):=by simp [List.getD]
 rw [e,e1,e2,zfj];refine ⟨⟨by omega,by rw [List.length_append,List.length_cons];omega⟩,⟨by rw [List.length_append,List.length_cons];omega,zi9 _⟩, .refl _, ?_⟩;generalize hn:(a++mkI k v::b).length=n;have hn2:(a++mkI k (n:Nat)::b).length=n:=by rw [←hn,List.length_append,List.length_append];rfl
 show _=[AObj.arr 2 [[.a (.fz (.int .i64 s)), .a (.osl 2 8 0 (a++mkI k (n:Nat)::b).length)]], .gone, .arz 8 (FIs (a++mkI k (n:Nat)::b))];rw [hn2,z9i];rfl
theorem zuw (n:Int):AC Tryz.prog 52 [ci n] [] (aT (vN4 n)) []:=by
 refine AC.vc hP sh lv52 (Nat.le_refl _) (by simp) (by simp) (Eq.mpr (v52 ..) ?_);exact z3r (leT z1m)
theorem zu4 (k:Int)(t:Tm)(s:Int)(l:List In1)(hl:l.length≤1000000000)(h0:0≤s)(h1:s≤1000000000)(hv:z05 t=true)(hz:t.sz≤1000000)(hb:bd 1000000000000 t):
  AC Tryz.prog 125 [ep2,ci k,aT t] (stI s l) (aT (suT 0 (vN4 s) (z0g t) 0)) (stO (s+1) (l++ [mkI k s])):=by
 have hbz:=z7b hv;have hbb:=zfi (by omega) hv hb;have c1:=zl3 t hv (by simp only [B];omega) (z2d (by simp only [M61];omega) _ hb);have c2:=zux (z0g t) (vN4 s) 0 (by show 1≤B;simp only [B];omega) (by show (z0g t).sz+nd (z0g t)*1≤B;have:=zqx (z0g t);simp only [B];omega) (z2d (by simp only [M61];omega) _ hbb) (z8f _ _) (by omega) (by simp only [M61];omega);have c3:=z5f k s (s+1) l hl;obtain ⟨a,b,c,d⟩:=t;refine AC.vc hP sh lv125 (by simp) (by simp [isLive]) (by simp [isLive]) (Eq.mpr (v125 k a b c (FTs d) s l.length (FIs l) ..) ?_);rw [w64 (x:=s+1) (by omega) (by omega)];exact ⟨vN4 s,zuw s,(l.length,s+1,l++ [mkI k s]),c3,_,c1,_,c2, .refl _,rfl⟩
end Go.AM

set_option maxRecDepth 100000
open Go Go.Proofs
namespace Go.AM
def BdC (n:Nat):Prop:=∀ (last:Bool) (t:Tm) (s:Int) (l:List In1) (p:Nat),p=l.length→wt t≤n→GG (n*n+n) t→0≤s→s+wt t+(n*n:Nat)≤1000000000→l.length+wt t≤1000000000→
 AC Tryz.prog 86 [ep2,aT t,cb last] (stI s l) (.tup []) (stO (bodC n last t s p).1 (l++(bodC n last t s p).2))
theorem zmg (L a b:List In1)(k v i:Int)(N:Nat)(s:Int)(hL:L=a++mkI k v::b)(hN:L.length=N)(hi:i=(a.length:Int))(hl:a.length≤1000000000):AC Tryz.prog 146 [ep2,ci i] (stI s L) (.tup []) (stO s (a++mkI k (N:Nat)::b)):=by
 subst hN;subst hL;subst hi;exact c_phere a b k v s hl
theorem z2a {s s':Int}{l l':List In1}(hs:s=s')(hl:l=l'):TV.Le (.tup []) (.tup [])∧stO s l=stO s' l':=by subst hs;subst hl;exact ⟨.refl _,rfl⟩
theorem c_por {n:Nat}(hn:n≤10000)(h:BdC n)(a b:Tm)(s:Int)(l:List In1)(ga:GG (n*n+n) a)(gb:GG (n*n+n) b)(hw:5+wt a+wt b≤n+1)(h0:0≤s)(h1:s+wt a+wt b+5+(n*n:Nat)≤1000000000)(hl:l.length+wt a+wt b+5≤1000000000):
  AC Tryz.prog 124 [ep2,aT a,aT b] (stI s l) (.tup []) (stO (bodO (bodC n false a s (l.length+1)) (bodC n false b) l.length).1 (l++(bodO (bodC n false a s (l.length+1)) (bodC n false b) l.length).2)):=by
 have k1:=z5f 9 0 s l (by omega);have b1:=z47 n hn false a s (l.length+1) (by omega) ga h0 (by omega);unfold BdC at h;have k2:=h false a s (l++ [mkI 9 0]) (l.length+1) (by simp) (by omega) ga h0 (by omega) (by simp only [List.length_append,List.length_cons,List.length_nil];omega);generalize hr:bodC n false a s (l.length+1)=r at*;have k3:=z5f 10 0 r.1 (l++ [mkI 9 0]++r.2) (by simp only [List.length_append,List.length_cons,List.length_nil];omega);have e3:(l++ [mkI 9 0]++r.2++ [mkI 10 0]).length=l.length+1+r.2.length+1:=by simp only [List.length_append,List.length_cons,List.length_nil]
 have k4:=zmg (l++ [mkI 9 0]++r.2++ [mkI 10 0]) l (r.2++ [mkI 10 0]) 9 0 l.length (l.length+1+r.2.length+1) r.1 (by simp) e3 rfl (by omega);have b2:=z47 n hn false b r.1 (l.length+1+r.2.length+1) (by omega) gb (by omega) (by omega);have k5:=h false b r.1 (l++mkI 9 ((l.length+1+r.2.length+1:Nat):Int)::(r.2++ [mkI 10 0])) (l.length+1+r.2.length+1) (by simp only [List.length_append,List.length_cons,List.length_nil];omega) (by omega) gb (by omega) (by omega) (by simp only [List.length_append,List.length_cons,List.length_nil];omega);unfold bodO;generalize hr2:bodC n false b r.1 (l.length+1+r.2.length+1)=r2 at*;have e5:(l++mkI 9 ((l.length+1+r.2.length+1:Nat):Int)::(r.2++ [mkI 10 0])++r2.2).length=l.length+1+r.2.length+1+r2.2.length:=by simp only [List.length_append,List.length_cons,List.length_nil];omega
 have k6:=zmg (l++mkI 9 ((l.length+1+r.2.length+1:Nat):Int)::(r.2++ [mkI 10 0])++r2.2) (l++mkI 9 ((l.length+1+r.2.length+1:Nat):Int)::r.2) r2.2 10 0 ((l++ [mkI 9 0]++r.2).length:Nat) (l.length+1+r.2.length+1+r2.2.length) r2.1 (by simp) e5 (by simp only [List.length_append,List.length_cons,List.length_nil];omega) (by simp only [List.length_append,List.length_cons];omega);refine AC.vc hP sh lv124 (by simp) (by simp [isLive]) (by simp [isLive]) (Eq.mpr (v124 a.k a.s a.n (FTs a.l) b.k b.s b.n (FTs b.l) s l.length (FIs l) ..) ?_);refine ⟨(_,_,_),k1,(_,_),k2,(_,_,_),k3,(_,_),k4,(_,_),k5,(_,_),k6,z2a rfl ?_⟩;simp
end Go.AM
