/- Contracts of the code's functions over plain values, and plain laws: part 7. No conditions. -/
import Derived.Test.YtmeolnpbbhinjaaGreatPart6
import Derived.Test.YtmeolnpbbhinjaaGreatPart3
import Derived.Test.YtmeolnpbbhinjaaGreatRows
set_option maxRecDepth 100000
open Go Go.Proofs
namespace Go.AM
theorem zdo (a:List In1)(x:In1):lastK (a++ [x])=x.k:=by unfold lastK;rw [List.getLast?_append];rfl
theorem c_pfin {n:Nat}(hn:n≤10000)(h:BdC n)(t:Tm)(s:Int)(l:List In1)(p:Nat)(hp:p=l.length)(hw:wt t≤n)(hg:GG (n*n+n) t)(h0:0≤s)(h1:s+wt t+(n*n:Nat)≤1000000000)(hl:l.length+wt t≤1000000000):
  AC Tryz.prog 43 [ep2,aT t] (stI s l) (.tup []) (stO (bodC n true t s p).1 (finI (l++(bodC n true t s p).2))):=by
 have k1:=h true t s l p hp hw hg h0 h1 hl;have bb:=z47 n hn true t s p hw hg h0 (by omega);generalize bodC n true t s p=r at*;have k2:=z5f 4 0 r.1 (l++r.2) (by rw [List.length_append];omega);have hlen:(l++r.2).length≤1000000000:=by rw [List.length_append];omega
 refine AC.vc hP sh lv43 (by simp) (by simp [isLive]) (by simp [isLive]) (Eq.mpr (v43 t.k t.s t.n (FTs t.l) s l.length (FIs l) ..) ?_);refine ⟨(r.1,l++r.2),k1, ?_⟩;dsimp only;clear k1;generalize l++r.2=m at*;rw [w64 (x:=((m.length:Nat):Int)-1) (by omega) (by omega)];unfold finI;rcases List.eq_nil_or_concat m with rfl | ⟨a,x,rfl⟩
 · exact br_t rfl ⟨(_,_,_),k2, .refl _,by rw [if_neg (by decide)]⟩
 · rw [List.concat_eq_append] at*;have e1:0+Int.toNat (((a++ [x]).length:Nat)-1:Int)=a.length:=by rw [List.length_append];simp only [List.length_cons,List.length_nil];omega
   have e2:List.getD (FIs (a++ [x])) a.length []=FI x:=by rw [z9i];simp [List.getD,z06,FIs,List.getElem?_append]
   rw [zdo];refine br_f (by simp only [List.length_append,List.length_cons,List.length_nil];simp;omega) ?_;rw [e1,e2];refine ⟨⟨by rw [List.length_append];simp only [List.length_cons,List.length_nil];omega,by omega⟩,⟨by rw [z06,List.length_append];simp only [List.length_cons,List.length_nil];omega,by cases x;rfl,rfl⟩, ?_⟩;rw [FI0];refine z02 (fun q=>⟨(_,_,_),k2, .refl _, ?_⟩) (fun q=>⟨.refl _, ?_⟩)
   · rw [if_neg (by simpa using q)]
   · rw [if_pos (by simpa using q)]
theorem z7t:∀ (a:List Tm) (i:Nat) (t:Tm),argI i (a++ [t])=argI i a++ [.mk (if t.k=0∨t.k=2 then 1 else 0) (i+a.length:Nat) t [] []]
 | [],i,t=>by rw [List.nil_append,argI,argI,argI];simp
 | x::a,i,t=>by
  rw [List.cons_append,argI,argI,z7t a (i+1) t,List.cons_append,List.length_cons,show i+1+a.length=i+(a.length+1) by omega]
theorem z4p:∀ (a:List Tm) (i:Nat),(argI i a).length=a.length
 | [],_=>rfl
 | x::a,i=>by rw [argI,List.length_cons,List.length_cons,z4p a]
abbrev z6:List WV:=[.a (.fz (.str [])), .a (.fz (.int .i64 0)), .a (.fz (.int .i64 0)), .a (.fz (.int .i64 0)), .a (.fz (.int .i64 0)), .a (.fz .N)]
abbrev cCl9 (c:Cl):List WV:=[.a (.fz (.int .i64 c.1)), .a (.fz (.int .i64 c.2.1.k)), .a (.fz (.str c.2.1.s)), .a (.fz (.int .i64 c.2.1.n)), .a (.fz (.sl false 4 (FTs c.2.1.l))), .a (.fz (.int .i64 c.2.2.k)), .a (.fz (.str c.2.2.s)), .a (.fz (.int .i64 c.2.2.n)), .a (.fz (.sl false 4 (FTs c.2.2.l)))]
abbrev hp5 (c:Cl)(bo hh:Tm)(s:Int)(m:List In1):AHeap:=[(0, .arr 9 [cCl9 c]),(1, .arr 6 [z6]),(2, .arr 4 [cT bo]),(3, .arr 4 [cT hh]),(4, .arr 2 [[.a (.fz (.int .i64 s)), .a (.osl 5 8 0 m.length)]]),(5, .arz 8 (FIs m))]
abbrev ev5 (fr:Int)(xs:List Tm)(i:Int):Env:=[(1,ci fr),(2, .c (.a (.ep 0 9 0 0))),(4, .c (.a (.ep 1 6 0 0))),(8, .c (.a (.ep 2 4 0 0))),(9, .c (.a (.ep 3 4 0 0))),(10,aL xs),(11, .c (.a (.ep 4 2 0 0))),(45,aL xs),(46,ci xs.length),(47,ci i)]
theorem zn5 {n:Nat}(hn:n≤10000)(h:BdC n)(c:Cl)(bo hh:Tm)(fr s:Int)(xs:List Tm)(hw:wt bo≤n)(hg:GG (n*n+n) bo)(h0:0≤s)(h1:s+wt bo+(n*n:Nat)≤1000000000)(hxs:xs.length≤1000000):
  ∀ (b a:List Tm),xs=a++b→RPt Tryz.prog 23 0 (aC (.mk hh.s xs.length fr c.1 (bodC n true bo s xs.length).1 (finI (argI 0 xs++(bodC n true bo s xs.length).2)))) [] 5 ⟨ev5 fr xs a.length,hp5 c bo hh s (argI 0 a),6⟩
 | [],a,hx=>by
  have ha:a=xs:=by rw [hx,List.append_nil]
  subst ha;have hl:=z4p a 0;have k:=c_pfin hn h bo s (argI 0 a) a.length hl.symm hw hg h0 h1 (by rw [hl];omega);refine RPt.vc hP sh lv23 (Eq.mpr (v23_5a ..) ?_);refine br_f (by simp) ⟨((bodC n true bo s a.length).1,finI (argI 0 a++(bodC n true bo s a.length).2)),k,rfl,⟨rfl,by rw [z06];simp⟩, ?_,rfl⟩
  · rw [List.drop_zero,List.take_of_length_le (by rw [z06];exact Nat.le_refl _),z01];exact .refl _
 | t::b,a,hx=>by
  have ih:=zn5 hn h c bo hh fr s xs hw hg h0 h1 hxs b (a++ [t]) (by rw [hx];simp);rw [z7t,nx,Nat.zero_add] at ih;have hlt:a.length<xs.length:=by rw [hx];simp
  have e:List.getD (FTs xs) (Int.toNat (a.length:Int)) []=FT t:=by rw [hx];exact midI ..
  have put:∀ kk:Int,(if t.k=0∨t.k=2 then 1 else 0)=kk→∃ z:Int×Int×List In1,AC Tryz.prog 55 [ep2, .agg [.a (.fz (.int .i64 kk)), .a (.fz (.int .i64 a.length)), .a (.fz (.int .i64 t.k)), .a (.fz (.str t.s)), .a (.fz (.int .i64 t.n)), .a (.fz (.sl false 4 (FTs t.l))), .a (.fz .N), .a (.fz .N)]]
    [.arr 2 [[.a (.fz (.int .i64 s)), .a (.osl 1 8 0 (argI 0 a).length)]], .arz 8 (FIs (argI 0 a))] (ci z.1) [.arr 2 [[.a (.fz (.int .i64 z.2.1)), .a (.osl 2 8 0 z.2.2.length)]], .gone, .arz 8 (FIs z.2.2)]∧
    RPt Tryz.prog 23 0 (aC (.mk hh.s xs.length fr c.1 (bodC n true bo s xs.length).1 (finI (argI 0 xs++(bodC n true bo s xs.length).2)))) [] 5 ⟨ev5 fr xs ((a.length:Int)+1),hp5 c bo hh z.2.1 z.2.2,6⟩:=fun kk hk=>by
   have k:=zfh kk a.length t s (argI 0 a) (by rw [z4p];omega);rw [hk] at ih;exact ⟨(_,_,_),k,ih⟩
  refine RPt.vc hP sh lv23 (Eq.mpr (v23_5a ..) ?_);rw [w64 (x:=(a.length:Int)+1) (by omega) (by omega),e];obtain ⟨k,str,m,tl⟩:=t;refine br_t (by simpa using hlt) ⟨⟨rfl,by omega,by rw [z01];omega,z1c (.mk k str m tl)⟩,z02 (fun q=> ?_) (fun q=>z02 (fun q2=> ?_) (fun q2=> ?_))⟩
  · have q:(k==0)=true:=q;have q:k=0:=by simpa using q
    exact put 1 (by rw [if_pos (.inl q)])
  · have q2:(k==2)=true:=q2;have q2:k=2:=by simpa using q2
    exact put 1 (by rw [if_pos (.inr q2)])
  · have q:(k==0)=false:=q;have q2:(k==2)=false:=q2;have q:¬k=0:=by simpa using q
    have q2:¬k=2:=by simpa using q2
    exact put 0 (by rw [if_neg (fun w=>w.elim q q2)])
end Go.AM

set_option maxRecDepth 100000
open Go Go.Proofs
namespace Go.AM
abbrev ev1 (fr:Int)(xs:WV)(v i:Int):Env:=[(1,ci fr),(2, .c (.a (.ep 0 9 0 0))),(4, .c (.a (.ep 1 6 0 0))),(5, .c xs),(16,ci v),(17,ci i)]
def CpG (n:Nat)(c:Cl)(fr:Int):Prop:=∀ by_:List Tm,by_=byV (z0b c.1.toNat fr)→∃ z:Tm×Tm,AC Tryz.prog 53 [aCl c,aL by_] [] (.tup [(true,cT z.1),(true,cT z.2)]) []∧∃ y:Tm×List Tm,AC Tryz.prog 54 [aT z.1] [] (.tup [(true,cT y.1),(false,[.a (.fz (.sl false 4 (FTs y.2)))])]) []∧
 RPt Tryz.prog 23 0 (aC (z1a (bodC n) c fr)) [] 5 ⟨ev5 fr y.2 0,hp5 c z.2 y.1 (fr+c.1) [],6⟩
theorem byV_snoc (n:Nat)(fr:Int):FTs (byV (z0b n fr))++ [FT4 (vN4 (fr+n))]=FTs (byV (z0b (n+1) fr)):=by
 rw [z9m];show FTs ((z0b n fr).map vN4)++_=FTs ((z0b n fr++ [fr+n]).map vN4);rw [List.map_append,z2t,z2t,List.map_append];rfl
theorem z8g {n:Nat}{fr:Int}(h0:0≤fr)(h1:fr+n≤1000000000)(h2:n≤1000000):VR (z0b n fr):=⟨by rw [z4l];exact h2,fun v hv=>by have:=zif n fr v hv;omega⟩
theorem cpG {n:Nat}(hn:n≤10000)(h:BdC n)(c:Cl)(fr:Int)(hk:OKc n c fr):CpG n c fr:=by
 obtain ⟨⟨v0,v1⟩,⟨f0,f1⟩,hT,hG,hw⟩:=hk;have hsq:=sq_b hn;have hR:VR (z0b c.1.toNat fr):=z8g f0 (by omega) (by omega);intro by_ hby;subst hby;have o:=c_kopen c (z0b c.1.toNat fr) hR (by rw [z4l];omega) hT.1 hG.1.1 hT.2.1 hG.1.2.1 (z2d (by omega) _ hT.2.2) (z2d (by omega) _ hG.1.2.2);obtain ⟨t1,_⟩:=TG.open (by omega) _ hR.2 _ hT;obtain ⟨g1,w1⟩:=GG.open (by omega) hR.2 hG;have hz:(z0r (z0b c.1.toNat fr) c.2.1).sz≤B:=by have:=t1.2.1;simp only [B];omega
 have k:=z6j (z0r (z0b c.1.toNat fr) c.2.1) hz;have hs:=(z4r (z0r (z0b c.1.toNat fr) c.2.1)).2.2;have l5:=zn5 hn h c (z0r (z0b c.1.toNat fr) c.2.2) (z00 (z0r (z0b c.1.toNat fr) c.2.1)).1 fr (fr+c.1) (z00 (z0r (z0b c.1.toNat fr) c.2.1)).2 (by omega) g1 (by omega) (by omega) (by have:=t1.2.1;omega) (z00 (z0r (z0b c.1.toNat fr) c.2.1)).2 [] rfl;exact ⟨(_,_),o,z00 (z0r (z0b c.1.toNat fr) c.2.1),k,l5⟩
theorem zmy {n:Nat}(c:Cl)(fr:Int)(hk:CpG n c fr)(v1:c.1≤100000)(f0:0≤fr)(f1:fr+c.1≤1000000000):∀ (k j:Nat),0<j→(j+k:Int)=c.1→
  RPt Tryz.prog 23 0 (aC (z1a (bodC n) c fr)) [] 1 ⟨ev1 fr (.a (.osl 2 4 0 j)) c.1 j,[(0, .arr 9 [cCl9 c]),(1, .arr 6 [z6]),(2, .arz 4 (FTs (byV (z0b j fr))))],3⟩
 | 0,j,hj,hjk=>by
  have hj2:c.1.toNat=j:=by omega
  obtain ⟨z,o,y,k,l5⟩:=hk (byV (z0b j fr)) (by rw [hj2]);have hlen:(FTs (byV (z0b j fr))).length=j:=by rw [z01,byV,List.length_map,z4l]
  refine RPt.vc hP sh lv23 (Eq.mpr (v23_1b ..) ?_);rw [w64 (x:=fr+c.1) (by omega) (by omega)];refine br_f (by simp;omega) ⟨⟨rfl,by rw [hlen];omega⟩,z, ?_,y,k,rfl, ?_⟩
  · rw [List.drop_zero,List.take_of_length_le (by rw [hlen];exact Nat.le_refl _)];exact o
  · rw [z01];exact l5
 | k+1,j,hj,hjk=>by
  have ih:=zmy c fr hk v1 f0 f1 k (j+1) (by omega) (by omega);have hlen:(FTs (byV (z0b j fr))).length=j:=by rw [z01,byV,List.length_map,z4l]
  refine RPt.vc hP sh lv23 (Eq.mpr (v23_1b ..) ?_);rw [w64 (x:=fr+j) (by omega) (by omega),w64 (x:=(j:Int)+1) (by omega) (by omega)];refine br_t (decide_eq_true (by omega)) ⟨vN4 (fr+j),zuw _,Nat.le_refl _,⟨by rw [hlen];exact Nat.le_refl _,by unfold z0d;omega⟩, ?_⟩;rw [List.take_of_length_le (by rw [hlen];exact Nat.le_refl _),byV_snoc];exact ih
theorem zkb {n:Nat}(hn:n≤10000)(h:BdC n)(c:Cl)(fr:Int)(hk:OKc n c fr):AC Tryz.prog 23 [aCl c,ci fr] [] (aC (z1a (bodC n) c fr)) []:=by
 have hc:=cpG hn h c fr hk;obtain ⟨⟨v0,v1⟩,⟨f0,f1⟩,_⟩:=hk;refine AC.vc hP sh lv23 (Nat.le_refl _) (by simp) (by simp) (Eq.mpr (v23 ..) ?_);refine RPt.vc hP sh lv23 (Eq.mpr (v23_1a fr c.1 0 c.1 c.2.1.k c.2.1.s c.2.1.n (FTs c.2.1.l) c.2.2.k c.2.2.s c.2.2.n (FTs c.2.2.l) ..) ?_);rw [w64 (x:=fr+c.1) (by omega) (by omega),w64 (x:=fr+0) (by omega) (by omega)];refine z02 (fun q=>⟨vN4 (fr+0),zuw _,Nat.le_refl _,by decide, ?_⟩) (fun q=> ?_)
 · have q:=of_decide_eq_true q;obtain ⟨m,hm⟩:∃ m:Nat,c.1=m+1:=⟨(c.1-1).toNat,by omega⟩;have l:=zmy c fr hc v1 f0 (by omega) m 1 (by omega) (by omega);have e:byV (z0b 1 fr)=[vN4 (fr+0)]:=by rw [Int.add_zero];rfl
   rw [e] at l;exact l
 · have q:=of_decide_eq_false q;have hc0:c.1=0:=by omega
   obtain ⟨z,o,y,k,l5⟩:=hc [] (by rw [hc0];rfl);refine ⟨z,o.args ⟨.refl _, .c _ _ (.a _ _ (.fz _ _ z1m)),trivial⟩,y,k,rfl, ?_⟩;rw [z01];exact l5
end Go.AM

set_option maxRecDepth 100000
open Go Go.Proofs
namespace Go.AM
theorem zaz (l:List Cd)(x:Cd):FCs l++ [[.str x.nm, .int .i64 x.ar, .int .i64 x.fr, .int .i64 x.vs, .int .i64 x.sl, .sl false 8 (FIs x.ins)]]=FCs (l++ [x]):=by
 rw [zc5,zc5,List.map_append];show _=List.map FC l++ [FC x];rw [FC_eta x]
abbrev evI (w:WV)(xs:List Cl)(i:Int):Env:=[(0,ep2),(5, .c (.a (.ep 3 4 0 0))),(8, .c w),(16,aCls xs),(17,ci xs.length),(18,ci i)]
abbrev hpI (s:Int)(l:List In1)(g:Tm):AHeap:=[(0, .arr 2 [[.a (.fz (.int .i64 s)), .a (.osl 2 8 0 l.length)]]),(1, .gone),(2, .arz 8 (FIs l)),(3, .arr 4 [cT g])]
theorem zm5 {n:Nat}(hn:n≤10000)(h:BdC n)(g:Tm)(s:Int)(l:List In1)(codes:List Cd)(hw:wt g≤n)(hg:GG (n*n+n) g)(h0:0≤s)(h1:s+wt g+(n*n:Nat)≤1000000000)(hl:l.length+wt g+1≤1000000000):
  ∃ z3:Int×List In1,AC Tryz.prog 86 [ep2,aT g,cb false] (stI s (l++ [.mk 14 0 noT0 [] codes])) (.tup []) (stO z3.1 z3.2)∧∃ z4:Int×Int×List In1,AC Tryz.prog 55 [ep2, .agg [.a (.fz (.int .i64 15)), .a (.fz (.int .i64 0)), .a (.fz (.int .i64 0)), .a (.fz (.str [])), .a (.fz (.int .i64 0)), .a (.fz .N), .a (.fz .N), .a (.fz .N)]] (stI z3.1 z3.2) (ci z4.1) (stO z4.2.1 z4.2.2)∧
   (TV.Le (.tup []) (.tup [])∧stO z4.2.1 z4.2.2=stO (bodI codes (bodC n false g s (l.length+1))).1 (l++(bodI codes (bodC n false g s (l.length+1))).2)):=by
 have k:=h false g s (l++ [.mk 14 0 noT0 [] codes]) (l.length+1) (by simp) hw hg h0 h1 (by rw [List.length_append];simp only [List.length_cons,List.length_nil];omega);have bb:=z47 n hn false g s (l.length+1) hw hg h0 (by omega);generalize bodC n false g s (l.length+1)=r at*;have k2:=z5f 15 0 r.1 (l++ [.mk 14 0 noT0 [] codes]++r.2) (by simp only [List.length_append,List.length_cons,List.length_nil];omega);refine ⟨(_,_),k,(_,_,_),k2,z2a rfl ?_⟩;unfold bodI;simp
theorem l_pimp {n:Nat}(hn:n≤10000)(h:BdC n)(g:Tm)(s:Int)(l:List In1)(xs:List Cl)(hxs:xs.length≤1000000)(hk:∀ x∈xs,OKc n x s)(hw:wt g≤n)(hg:GG (n*n+n) g)(h0:0≤s)(h1:s+wt g+(n*n:Nat)≤1000000000)(hl:l.length+wt g+1≤1000000000):
  ∀ (b a:List Cl),xs=a++b→a ≠ []→RPt Tryz.prog 126 2 (.tup []) (stO (bodI (xs.map fun c=>z1a (bodC n) c s) (bodC n false g s (l.length+1))).1 (l++(bodI (xs.map fun c=>z1a (bodC n) c s) (bodC n false g s (l.length+1))).2)) 1
   ⟨evI (.a (.osl 4 6 0 a.length)) xs a.length,hpI s l g++ [(4, .arz 6 (FCs (a.map fun c=>z1a (bodC n) c s)))],5⟩
 | [],a,hx,_=>by
  have ha:a=xs:=by rw [hx,List.append_nil]
  subst ha;have hlen:(FCs (a.map fun c=>z1a (bodC n) c s)).length=a.length:=by rw [z0l,List.length_map]
  obtain ⟨z3,k3,z4,k4,e⟩:=zm5 hn h g s l (a.map fun c=>z1a (bodC n) c s) hw hg h0 h1 hl;refine RPt.vc hP sh zkh (Eq.mpr (zug ..) ?_);refine br_f (by simp) ⟨⟨rfl,by rw [hlen];omega⟩,((l.length:Int),s,l++ [.mk 14 0 noT0 [] (a.map fun c=>z1a (bodC n) c s)]), ?_,z3,k3,z4,k4,e⟩;rw [List.drop_zero,List.take_of_length_le (by rw [hlen];exact Nat.le_refl _)];exact c_pputC 14 0 (a.map fun c=>z1a (bodC n) c s) s l (by omega)
 | c::b,a,hx,hne=>by
  have ih:=l_pimp hn h g s l xs hxs hk hw hg h0 h1 hl b (a++ [c]) (by rw [hx];simp) (by simp);rw [nx,List.map_append,List.length_append] at ih;have hlen:(FCs (a.map fun c=>z1a (bodC n) c s)).length=a.length:=by rw [z0l,List.length_map]
  have hlt:a.length<xs.length:=by rw [hx];simp
  have e:List.getD (CLs xs) (Int.toNat (a.length:Int)) []=FL c:=by rw [hx];exact zlx ..
  have k:=zkb hn h c s (hk c (by rw [hx];simp));refine RPt.vc hP sh zkh (Eq.mpr (zug ..) ?_);rw [w64 (x:=(a.length:Int)+1) (by omega) (by omega),e];refine br_t (by simpa using hlt) ⟨⟨rfl,by omega,by rw [z0i];omega,rfl⟩,_,k,Nat.le_refl _,⟨by rw [hlen];exact Nat.le_refl _,by unfold z0d;omega⟩, ?_⟩;rw [List.take_of_length_le (by rw [hlen];exact Nat.le_refl _),zaz];exact ih
theorem c_pimp {n:Nat}(hn:n≤10000)(h:BdC n)(d g:Tm)(s:Int)(l:List In1)(xs:List Cl)(e:Int)(cP:AC Tryz.prog 147 [aT d] [] (.tup [(false,[.a (.fz (.sl false 9 (CLs xs)))]),(false,[.a (.fz (.int .i64 e))])]) [])(hxs:xs.length≤1000000)(hk:∀ x∈xs,OKc n x s)(hw:wt g≤n)(hg:GG (n*n+n) g)(h0:0≤s)(h1:s+wt g+(n*n:Nat)≤1000000000)(hl:l.length+wt g+1≤1000000000):
  AC Tryz.prog 126 [ep2,aT d,aT g] (stI s l) (.tup []) (stO (bodI (xs.map fun c=>z1a (bodC n) c s) (bodC n false g s (l.length+1))).1 (l++(bodI (xs.map fun c=>z1a (bodC n) c s) (bodC n false g s (l.length+1))).2)):=by
 refine AC.vc hP sh zkh (by simp) (by simp [isLive]) (by simp [isLive]) (Eq.mpr (v126 d.k d.s d.n (FTs d.l) g.k g.s g.n (FTs g.l) s l.length (FIs l) ..) ?_);refine ⟨(xs,e),cP,rfl, ?_⟩;rw [z0i];refine RPt.vc hP sh zkh (Eq.mpr (v126_1a (CLs xs) xs.length 0 s l.length (FIs l) g.k g.s g.n (FTs g.l) ..) ?_)
 match xs,hxs,hk with
 | [],_,_=>
  obtain ⟨z3,k3,z4,k4,e⟩:=zm5 hn h g s l [] hw hg h0 h1 hl;exact br_f rfl ⟨(_,_,_),z5f 14 0 s l (by omega),z3,k3,z4,k4,e⟩
 | c::xs,hxs,hk=>
  have k:=zkb hn h c s (hk c (by simp));have l1:=l_pimp hn h g s l (c::xs) hxs hk hw hg h0 h1 hl xs [c] rfl (by simp);rw [w64 (x:=(0:Int)+1) (by omega) (by omega)];refine br_t (decide_eq_true (by simp only [List.length_cons];omega)) ⟨⟨rfl,by omega,by rw [z0i];simp only [List.length_cons];omega,rfl⟩,_,k,Nat.le_refl _,by decide, ?_⟩;have e1:[[FV.str (z1a (bodC n) c s).nm, .int .i64 (z1a (bodC n) c s).ar, .int .i64 (z1a (bodC n) c s).fr, .int .i64 (z1a (bodC n) c s).vs, .int .i64 (z1a (bodC n) c s).sl, .sl false 8 (FIs (z1a (bodC n) c s).ins)]]=FCs ([c].map fun c=>z1a (bodC n) c s):=zaz [] _;rw [e1];exact l1
theorem z1s (s:List UInt8):numB s=(s==[105,115]||(s==[60]||(s==[61,60]||(s==[62]||s==[62,61])))):=by
 unfold numB nums;simp only [List.contains_cons,List.contains_nil,Bool.or_false]
theorem zuf {n:Nat}(hn:n+1≤10000)(h:BdC n):BdC (n+1):=by
 intro last t s l p hp hw hg h0 h1 hl;subst hp;have hsq:=sq_b (n:=n) (by omega);have hmul:(n+1)*(n+1)=n*n+2*n+1:=by rw [Nat.mul_add,Nat.add_mul];omega
 have hg0:=hg;rw [sq_s] at hg;have c1:=z6j t (by have:=hg.1.2.1;simp only [B];omega);have hpos:=z1n t;rw [bodC];refine AC.vc hP sh lv86 (by simp) (by simp [isLive]) (by simp [isLive]) (Eq.mpr (v86 t.k t.s t.n (FTs t.l) last s l.length (FIs l) ..) ?_);refine ⟨z00 t,c1,z02 (fun q=> ?_) (fun q1=>z02 (fun q=> ?_) (fun q2=>z02 (fun q=> ?_) (fun q3=>z02 (fun q=> ?_) (fun q4=>z02 (fun q=> ?_) (fun q5=>z02 (fun q=> ?_) (fun q6=>z02 (fun q=> ?_) (fun q7=>z02 (fun q=> ?_) (fun q8=>z02 (fun q=> ?_) (fun q9=> ?_)))))))))⟩
 · rw [if_pos (by simpa using q)];exact z2a rfl (by simp)
 · rw [if_neg (by simpa using q1),if_pos (by simpa using q)];exact ⟨(_,_,_),z5f 8 0 s l (by omega),z2a rfl rfl⟩
 · rw [if_neg (by simpa using q1),if_neg (by simpa using q2),if_pos (by simpa using q)];exact ⟨(_,_,_),z5f 7 0 s l (by omega),z2a rfl rfl⟩
 · have e:(z00 t).1.s=nAnd:=by simpa using q
   rw [if_neg (by simpa using q1),if_neg (by simpa using q2),if_neg (by simpa using q3),if_pos e];obtain ⟨a,c,el,ga,gc,hs⟩:=hg.two (.inl e);obtain ⟨k1,k2,k3,k4⟩:=z58 el;rw [k3,k4];have ga:=ga.le (m:=n*n+n) (by omega) (by omega) (by omega);have gc:=gc.le (m:=n*n+n) (by omega) (by omega) (by omega);have ca:=h false a s l l.length rfl (by omega) ga h0 (by omega) (by omega);have bb:=z47 n (by omega) false a s l.length (by omega) ga h0 (by omega);have cc:=h last c (bodC n false a s l.length).1 (l++(bodC n false a s l.length).2) (l.length+(bodC n false a s l.length).2.length) (by rw [List.length_append]) (by omega) gc (by omega) (by omega) (by rw [List.length_append];omega);rw [el];exact ⟨by rw [←el];exact k1,(_,_),ca,by rw [←el];exact k2,(_,_),cc,z2a rfl (by rw [List.append_assoc];rfl)⟩
 · have e:(z00 t).1.s=nOr:=by simpa using q
   rw [if_neg (by simpa using q1),if_neg (by simpa using q2),if_neg (by simpa using q3),if_neg (by simpa using q4),if_pos e];obtain ⟨a,c,el,ga,gc,hs⟩:=hg.two (.inr e);obtain ⟨k1,k2,k3,k4⟩:=z58 el;rw [k3,k4];have ga:=ga.le (m:=n*n+n) (by omega) (by omega) (by omega);have gc:=gc.le (m:=n*n+n) (by omega) (by omega) (by omega);have ca:=c_por (by omega) h a c s l ga gc (by omega) h0 (by omega) (by omega);rw [el];exact ⟨by rw [←el];exact k1,by rw [←el];exact k2,(_,_),ca, .refl _,rfl⟩
 · have e:(z00 t).1.s=nPi:=by simpa using q
   rw [if_neg (by simpa using q1),if_neg (by simpa using q2),if_neg (by simpa using q3),if_neg (by simpa using q4),if_neg (by simpa using q5),if_pos e];obtain ⟨a,el,ta,ga,hs⟩:=hg.one (by omega) (.inl e);obtain ⟨k1,k2⟩:=zcd el;rw [k2];have w2:=z5s s (z0g a);have g2:=(ga.suV (v:=s) (by omega) h0 (by omega)).le (m:=n*n+n) (by omega) (by omega) (by omega);have cb1:=zu4 11 a s l (by omega) h0 (by omega) ta.1 ta.2.1 (z2d (by omega) _ ta.2.2);have cc:=h false (suT 0 (vN4 s) (z0g a) 0) (s+1) (l++ [mkI 11 s]) (l.length+1) (by simp) (by omega) g2 (by omega) (by omega) (by rw [List.length_append];simp only [List.length_cons,List.length_nil];omega);have bb:=z47 n (by omega) false (suT 0 (vN4 s) (z0g a) 0) (s+1) (l.length+1) (by omega) g2 (by omega) (by omega);rw [el];refine ⟨by rw [←el];exact k1,(_,_,_),cb1,(_,_),cc,(_,_,_),z5f 12 0 _ _ (by simp only [List.length_append,List.length_cons,List.length_nil];omega),z2a rfl ?_⟩;show _=l++(mkI 11 s::((bodC n false (suT 0 (vN4 s) (z0g a) 0) (s+1) (l.length+1)).2++ [mkI 12 0]));simp
 · have e:(z00 t).1.s=nSig:=by simpa using q
   rw [if_neg (by simpa using q1),if_neg (by simpa using q2),if_neg (by simpa using q3),if_neg (by simpa using q4),if_neg (by simpa using q5),if_neg (by simpa using q6),if_pos e];obtain ⟨a,el,ta,ga,hs⟩:=hg.one (by omega) (.inr e);obtain ⟨k1,k2⟩:=zcd el;rw [k2];have w2:=z5s s (z0g a);have g2:=(ga.suV (v:=s) (by omega) h0 (by omega)).le (m:=n*n+n) (by omega) (by omega) (by omega);have cb1:=zu4 13 a s l (by omega) h0 (by omega) ta.1 ta.2.1 (z2d (by omega) _ ta.2.2);have cc:=h last (suT 0 (vN4 s) (z0g a) 0) (s+1) (l++ [mkI 13 s]) (l.length+1) (by simp) (by omega) g2 (by omega) (by omega) (by rw [List.length_append];simp only [List.length_cons,List.length_nil];omega);rw [el];refine ⟨by rw [←el];exact k1,(_,_,_),cb1,(_,_),cc,z2a rfl ?_⟩;show _=l++(mkI 13 s::(bodC n last (suT 0 (vN4 s) (z0g a) 0) (s+1) (l.length+1)).2);simp
 · have e:(z00 t).1.s=nImp:=by simpa using q
   rw [if_neg (by simpa using q1),if_neg (by simpa using q2),if_neg (by simpa using q3),if_neg (by simpa using q4),if_neg (by simpa using q5),if_neg (by simpa using q6),if_neg (by simpa using q7),if_pos e];obtain ⟨a,c,el,ta,wa,hc,gc,hs,hk⟩:=zf9 hn hw hg0 e s h0 (by omega);obtain ⟨k1,k2,k3,k4⟩:=z58 el;rw [k3,k4];have cP:=c_kparts n (by omega) a wa ta;have hV:z1k n true a=(clsF false n true 0 [] a).2:=by unfold z1k;rw [if_pos hc]
   have hxs:=z3e false n true 0 [] a;have hk':∀ x∈z1k n true a,OKc n x s:=fun x hx=>(hk x (by rw [←hV];exact hx)).1;have ci:=c_pimp (by omega) h a c s l (z1k n true a) _ cP (by rw [hV];have:=ta.2.1;omega) hk' (by omega) gc h0 (by omega) (by omega);rw [el];exact ⟨by rw [←el];exact k1,by rw [←el];exact k2,(_,_),ci, .refl _,rfl⟩
 · rw [if_neg (by simpa using q1),if_neg (by simpa using q2),if_neg (by simpa using q3),if_neg (by simpa using q4),if_neg (by simpa using q5),if_neg (by simpa using q6),if_neg (by simpa using q7),if_neg (by simpa using q8),if_pos (by simpa using q)];exact ⟨(_,_,_),c_pputL 5 0 (z00 t).2 s l (by omega),z2a rfl rfl⟩
 · rw [if_neg (by simpa using q1),if_neg (by simpa using q2),if_neg (by simpa using q3),if_neg (by simpa using q4),if_neg (by simpa using q5),if_neg (by simpa using q6),if_neg (by simpa using q7),if_neg (by simpa using q8),if_neg (by simpa using q9)]
   have num:numB (z00 t).1.s=true→∃ z:Int×Int×List In1,AC Tryz.prog 55 [ep2, .agg [.a (.fz (.int .i64 6)), .a (.fz (.int .i64 0)), .a (.fz (.int .i64 t.k)), .a (.fz (.str t.s)), .a (.fz (.int .i64 t.n)), .a (.fz (.sl false 4 (FTs t.l))), .a (.fz .N), .a (.fz .N)]] (stI s l) (ci z.1) (stO z.2.1 z.2.2)∧(TV.Le (.tup []) (.tup [])∧stO z.2.1 z.2.2=stO (if numB (z00 t).1.s=true then (s,[In1.mk 6 0 t [] []]) else (s,[.mk (if last=true then 3 else 2) 0 t [] []])).1 (l++(if numB (z00 t).1.s=true then (s,[In1.mk 6 0 t [] []]) else (s,[.mk (if last=true then 3 else 2) 0 t [] []])).2)):=fun q=>by
    rw [if_pos q];exact ⟨(_,_,_),zfh 6 0 t s l (by omega),z2a rfl rfl⟩
   refine z02 (fun q=>num (by rw [z1s,q];rfl)) (fun r1=>z02 (fun q=>num (by rw [z1s,q];simp)) (fun r2=>z02 (fun q=>num (by rw [z1s,q];simp)) (fun r3=>z02 (fun q=>num (by rw [z1s,q];simp)) (fun r4=>z02 (fun q=>num (by rw [z1s,q];simp)) (fun r5=> ?_)))));have hno:numB (z00 t).1.s=false:=by rw [z1s,r1,r2,r3,r4,r5];rfl
   rw [if_neg (by rw [hno];simp)];refine z02 (fun q=> ?_) (fun q=> ?_)
   · rw [if_pos q];exact ⟨(_,_,_),zfh 3 0 t s l (by omega),z2a rfl rfl⟩
   · rw [if_neg (by rw [q];simp)];exact ⟨(_,_,_),zfh 2 0 t s l (by omega),z2a rfl rfl⟩
theorem zsg:∀ n:Nat,n≤10000→BdC n
 | 0,_=>fun last t s l p _ hw _ _ _ _=>by have:=z1n t;omega
 | n+1,hn=>zuf hn (zsg n (by omega))
end Go.AM

set_option maxRecDepth 100000
open Go Go.Proofs
namespace Go.AM
theorem z8t (vs:List Int){u:Tm}{d:Int}(h:¬((u.k==3)=true∧d≤u.n)):z09 vs u d=u:=if_neg h
theorem z9j (lf:Tm→Int→Tm)(d:Int)(x:Tm):∀ a:List Tm,z0a lf (a++ [x]) d=z0a lf a d++ [z08 lf x d]
 | []=>rfl
 | t::a=>by rw [List.cons_append,z0a,z0a,z9j lf d x a];rfl
theorem z3h (lf:Tm→Int→Tm)(d:Int):∀ a:List Tm,(z0a lf a d).length=a.length
 | []=>rfl
 | t::a=>by rw [z0a,List.length_cons,List.length_cons,z3h lf d a]
theorem z8n (l:List Tm)(x:Tm):FTs l++ [FT4 x]=FTs (l++ [x]):=by
 rw [z2t,z2t,List.map_append];cases x;rfl
theorem zeq (vs:List Int)(t:Tm)(d:Int):(z08 (z09 vs) t d).sz≤t.sz:=by
 have:=zba (b:=fun _ _=>1) (z09 vs) (fun u d _ h6=>z48 vs u d h6) (fun u d h5 h6=>by
  unfold z09;split
  · split
    · rw [zd7 u];show 1+0≤1+_;omega
    · rw [zd7 u];show 1+0≤1+_;omega
  · exact Nat.le_refl _) t d
 rw [zak,zak] at this;exact this
abbrev rowV (v:Int):List FV:=[.int .i64 4, .str [], .int .i64 v, .N]
def z8j (vs:List Int):List (List FV):=vs.map rowV
theorem zcl (vs:List Int):(z8j vs).length=vs.length:=by simp [z8j]
abbrev oH0 (vs:List Int):List AObj:=[]
abbrev oHp0 (vs:List Int)(t:Tm):AHeap:=(oH0 vs).zipIdx.map (fun p=>(p.2,p.1))++ [(0, .arr 4 [cT t]),(1, .arr 4 [[.a (.fz (.int .i64 0)), .a (.fz (.str [])), .a (.fz (.int .i64 0)), .a (.fz .N)]])]
abbrev oEv0 (vs:List Int)(k:Int)(w:WV)(i:Int):Env:=[(1,aL (byV vs)),(2,ci k),(3, .c (.a (.ep 0 4 0 0))),(6, .c (.a (.ep 1 4 0 0))),(8, .c w),(9,ci i)]
theorem zmo (vs:List Int)(t:Tm)(hv:z05 t=true)(hz:t.sz≤1000000)(h56:t.k=5∨t.k=6)(k:Int)(hk0:0≤k)(hk1:k≤100000000)(hih:∀ u∈t.l,AC Tryz.prog 56 [aT u,aL (byV vs),ci (k+if (t.k==5)=true then 1 else 0)] (oH0 vs) (aT (z08 (z09 vs) u (k+if (t.k==5)=true then 1 else 0))) (oH0 vs)):
  ∀ (b a:List Tm),t.l=a++b→a ≠ []→RPt Tryz.prog 56 0 (aT (z08 (z09 vs) t k)) (oH0 vs) 1 ⟨oEv0 vs k (.a (.osl 2 4 0 a.length)) a.length,oHp0 vs t++ [(2, .arz 4 (FTs (z0a (z09 vs) a (k+if (t.k==5)=true then 1 else 0))))],3⟩
 | [],a,hx,hne=>by
  have ha:t.l=a:=by rw [hx,List.append_nil]
  have hlen:(FTs (z0a (z09 vs) a (k+if (t.k==5)=true then 1 else 0))).length=a.length:=by rw [z01,z3h]
  have hlz:=Tm.szs_length t.l;have htz:=t.sz_eq;rw [ha] at hlz;refine RPt.vc hP sh lv56 (Eq.mpr (v56_1b ..) ?_);refine ⟨rfl,br_f (by rw [z01,ha];simp) ?_⟩;obtain ⟨kd,s,n,l⟩:=t;have ha:l=a:=ha;subst ha;rcases h56 with h5 | h6
  · have h5:kd=5:=h5;subst h5;rw [zth] at hv;simp only [Bool.and_eq_true,beq_iff_eq] at hv;obtain ⟨⟨⟨rfl,rfl⟩,_⟩,_⟩:=hv;refine br_f rfl ⟨⟨rfl,by rw [hlen];omega⟩, ?_,rfl⟩;rw [List.drop_zero,List.take_of_length_le (by rw [hlen];exact Nat.le_refl _),z1b _ (fun u d _ h6=>z48 vs u d h6) 5 [] 0 l k rfl];exact .refl _
  · have h6:kd=6:=h6;subst h6;obtain ⟨x,y,r,rfl,hx6,_⟩:=okB6 (z0e _ hv) rfl;rw [zll] at hv;simp only [Bool.and_eq_true,beq_iff_eq] at hv;obtain ⟨⟨⟨⟨rfl,_⟩,_⟩,rfl⟩,_⟩:=hv;have e0:(k+if ((Tm.mk 6 [] 0 (x::y::r)).k==5)=true then 1 else 0)=k:=Int.add_zero k
    rw [e0] at hlen ⊢;have w6:¬(z08 (z09 vs) x k).k=6:=fun e=>hx6 (zbr _ (fun u d _ h6=>z48 vs u d h6) x k e)
    have hxl:(z08 (z09 vs) x k).l.length≤B:=by
     have h1:=zeq vs x k;have h2:=Tm.szs_length (z08 (z09 vs) x k).l;have h3:=(z08 (z09 vs) x k).sz_eq;simp only [Tm.sz,Tm.szs] at hz;simp only [B];omega
    simp only [B] at hxl;have hz':1+Tm.szs (x::y::r)≤1000000:=hz;simp only [List.length_cons] at hlz hlen;have c:=z84 (z08 (z09 vs) x k) (z0a (z09 vs) (y::r) k) (by rw [z3h,List.length_cons];omega);refine br_t rfl ⟨⟨by omega,by simp only [List.length_cons];omega⟩,⟨by rw [hlen];omega,(z1c _).trans (z5a _).symm,rfl⟩,⟨by omega,by simp only [List.length_cons];omega,by omega⟩,⟨rfl,by rw [hlen];simp only [List.length_cons];omega⟩,z1x (z08 (z09 vs) x k) (z0a (z09 vs) (y::r) k), ?_, ?_,rfl⟩
    · have e:List.take (Int.toNat (((x::y::r).length:Nat):Int)-1) (List.drop 1 (FTs (z0a (z09 vs) (x::y::r) k)))=FTs (z0a (z09 vs) (y::r) k):=by
       rw [show List.drop 1 (FTs (z0a (z09 vs) (x::y::r) k))=FTs (z0a (z09 vs) (y::r) k) from rfl,List.take_of_length_le];rw [z01,z3h];simp only [List.length_cons];omega
      rw [e,show aE (List.getD (FTs (z0a (z09 vs) (x::y::r) k)) 0 [])=aT (z08 (z09 vs) x k) from z1o _];exact c
    · rw [z1b _ (fun u d _ h6=>z48 vs u d h6) 6 [] 0 (x::y::r) k rfl];show TV.Le (aT (if ((z08 (z09 vs) x k).k==6)=true∧(z08 (z09 vs) x k).l ≠ [] then .mk 6 [] 0 ((z08 (z09 vs) x k).l++z0a (z09 vs) (y::r) k) else .mk 6 [] 0 (z08 (z09 vs) x k::z0a (z09 vs) (y::r) k))) _
      rw [if_neg (fun e=>w6 (by simpa using e.1))];show TV.Le _ (aT (.mk 6 [] 0 (z0a (z09 vs) (x::y::r) (k+0))));rw [Int.add_zero];exact .refl _
 | u::b,a,hx,hne=>by
  have ih:=zmo vs t hv hz h56 k hk0 hk1 hih b (a++ [u]) (by rw [hx];simp) (by simp);rw [nx,List.length_append,z9j,←z8n] at ih;have hlen:(FTs (z0a (z09 vs) a (k+if (t.k==5)=true then 1 else 0))).length=a.length:=by rw [z01,z3h]
  have hlt:a.length<t.l.length:=by rw [hx];simp
  have hlz:=Tm.szs_length t.l;have htz:=t.sz_eq;have hu:=hih u (by rw [hx];simp);have em:rE (List.getD (FTs t.l) (Int.toNat (a.length:Int)) [])=List.getD (FTs t.l) (Int.toNat (a.length:Int)) []:=by rw [hx];exact z1y a u b
  have ea:aE (List.getD (FTs t.l) (Int.toNat (a.length:Int)) [])=aT u:=by rw [hx];exact z45 a u b
  refine RPt.vc hP sh lv56 (Eq.mpr (v56_1b ..) ?_);rw [ea,w64 (x:=(a.length:Int)+1) (by omega) (by omega),w64 (x:=k+1) (by omega) (by omega)];refine ⟨rfl,br_t (by rw [z01];simpa using hlt) (z02 (fun q=> ?_) (fun q=> ?_))⟩
  · rw [show (k+if (t.k==5)=true then 1 else 0)=k+1 by rw [if_pos q]] at ih hu hlen ⊢
    refine ⟨⟨rfl,by omega,by rw [z01];omega,em⟩,_,hu,Nat.le_refl _,⟨by rw [hlen];exact Nat.le_refl _,by unfold z0d;omega⟩, ?_⟩;rw [List.take_of_length_le (by rw [hlen];exact Nat.le_refl _)];exact ih
  · rw [show (k+if (t.k==5)=true then 1 else 0)=k by rw [if_neg (by rw [q];simp)];exact Int.add_zero k] at ih hu hlen ⊢
    refine ⟨⟨rfl,by omega,by rw [z01];omega,em⟩,_,hu,Nat.le_refl _,⟨by rw [hlen];exact Nat.le_refl _,by unfold z0d;omega⟩, ?_⟩;rw [List.take_of_length_le (by rw [hlen];exact Nat.le_refl _)];exact ih
theorem zm9 (vs:List Int)(hR:VR vs)(hne:0=0→vs=[]):∀ t:Tm,z05 t=true→t.sz≤1000000→bd 1000000000000 t→∀ k:Int,0≤k→k+t.sz≤100000000→AC Tryz.prog 56 [aT t,aL (byV vs),ci k] (oH0 vs) (aT (z08 (z09 vs) t k)) (oH0 vs):=by
 refine Tm.ind fun t ih hv hz hb k h0 h1=> ?_;have htz:=t.sz_eq;have hbk:=bd_l hb;have hvl:=hR.1;have hsl:(FTs (byV vs)).length=vs.length:=by rw [z01];simp [byV]
 by_cases h56:t.k=5∨t.k=6
 · have hih:∀ u∈t.l,AC Tryz.prog 56 [aT u,aL (byV vs),ci (k+if (t.k==5)=true then 1 else 0)] (oH0 vs) (aT (z08 (z09 vs) u (k+if (t.k==5)=true then 1 else 0))) (oH0 vs):=fun u hu=>by
    have hv':z05 u=true:=by obtain ⟨kd,s,n,l⟩:=t;exact z2f hv h56 u hu
    have:=Tm.szs_mem hu;exact ih u hu hv' (by omega) (z2r hbk hu) _ (by split<;>omega) (by split<;>omega)
   have hl:=zmo vs t hv hz h56 k h0 (by omega) hih
   have hlne:∃ u b,t.l=u::b:=by
    obtain ⟨kd,s,n,l⟩:=t;rcases h56 with h5 | h6
    · obtain ⟨x,rfl,_⟩:=okB5 (z0e _ hv) h5;exact ⟨x,[],rfl⟩
    · obtain ⟨x,y,r,rfl,_⟩:=okB6 (z0e _ hv) h6;exact ⟨x,_,rfl⟩
   obtain ⟨u,b,el⟩:=hlne;have l1:=hl b [u] el (by simp);rw [show FTs (z0a (z09 vs) [u] (k+if (t.k==5)=true then 1 else 0))=[FT4 (z08 (z09 vs) u (k+if (t.k==5)=true then 1 else 0))] from (z8n [] _).symm] at l1
   have hu:=hih u (by rw [el];simp);have em:rE (List.getD (FTs t.l) (Int.toNat (0:Int)) [])=List.getD (FTs t.l) (Int.toNat (0:Int)) []:=by rw [el];exact z1c u
   have ea:aE (List.getD (FTs t.l) (Int.toNat (0:Int)) [])=aT u:=by rw [el];exact z1o u
   have start:RPt Tryz.prog 56 0 (aT (z08 (z09 vs) t k)) (oH0 vs) 1 ⟨oEv0 vs k (.a (.fz .N)) 0,oHp0 vs t,2⟩:=by
    refine RPt.vc hP sh lv56 (Eq.mpr (v56_1a ..) ?_);rw [ea,w64 (x:=(0:Int)+1) (by omega) (by omega),w64 (x:=k+1) (by omega) (by omega)];refine ⟨rfl,br_t (by rw [z01,el];exact decide_eq_true (by simp only [List.length_cons];omega)) (z02 (fun q=> ?_) (fun q=> ?_))⟩
    · rw [show (k+if (t.k==5)=true then 1 else 0)=k+1 by rw [if_pos q]] at l1 hu
      exact ⟨⟨rfl,by omega,by rw [z01,el];simp only [List.length_cons];omega,em⟩,_,hu,Nat.le_refl _,by decide,l1⟩
    · rw [show (k+if (t.k==5)=true then 1 else 0)=k by rw [if_neg (by rw [q];simp)];exact Int.add_zero k] at l1 hu
      exact ⟨⟨rfl,by omega,by rw [z01,el];simp only [List.length_cons];omega,em⟩,_,hu,Nat.le_refl _,by decide,l1⟩
   have q3:((t.k:Int)==3)=false:=by rcases h56 with e | e<;>rw [e]<;>rfl
   refine AC.vc hP sh lv56 (by simp) (by simp [isLive]) (by simp) (Eq.mpr (v56 t.k t.s t.n (FTs t.l) ..) ?_);rcases h56 with h5 | h6
   · first
     | exact br_f q3 (br_f (by rw [h5];rfl) start)
     | exact ⟨rfl,br_f q3 (br_f (by rw [h5];rfl) start)⟩
   · first
     | exact br_f q3 (br_t (by rw [h6];rfl) (br_f (by rw [h6];rfl) start))
     | exact ⟨rfl,br_f q3 (br_t (by rw [h6];rfl) (br_f (by rw [h6];rfl) start))⟩
 · obtain ⟨kd,s,n,l⟩:=t;have n5:¬kd=5:=fun e=>h56 (.inl e);have n6:¬kd=6:=fun e=>h56 (.inr e);rw [z1u _ kd s n l k (by simp [n5,n6])];by_cases h3:kd=3
   · subst h3;obtain ⟨hn0,hn1,rfl,rfl⟩:=za4.1 hv;have q3:(((3:Int))==3)=true:=rfl;by_cases hk:k≤n
     · rw [zaw vs hk];by_cases hl:n<k+(vs.length:Int)
       · rw [if_pos hl];have hi0:(0:Int)≤(vs.length:Int)-1-(n-k):=by omega
         have hi1:(vs.length:Int)-1-(n-k)<vs.length:=by omega
         obtain ⟨i,hi⟩:∃ i:Nat,(vs.length:Int)-1-(n-k)=i:=⟨((vs.length:Int)-1-(n-k)).toNat,by omega⟩;have hi2:i<vs.length:=by omega
         have eg:List.getD (z8j vs) i []=rowV vs[i]:=by simp [z8j,List.getD,hi2]
         have c:=(z81 (vN4 vs[i]) 0 k (by show 1≤B;simp only [B];omega) (z8f _ _) (by omega) (by simp only [M61];omega) (by omega) (by simp only [M61];omega)).args (args:=[.agg [.a (.fz (.int .i64 4)), .a (.fz (.str [])), .a (.fz (.int .i64 vs[i])), .a (.fz .N)],ci 0,ci k]) ⟨leT z1m, .refl _, .refl _,trivial⟩;have ev:vs.getD (Int.toNat (i:Int)) 0=vs[i]:=by rw [show Int.toNat (i:Int)=i by omega];simp [List.getD,hi2]
         refine AC.vc hP sh lv56 (by simp) (by simp [isLive]) (by simp) (Eq.mpr (v56 3 [] n (FTs []) ..) ?_)
         first
         | exact absurd (hne rfl) (by intro e;rw [e] at hi2;simp at hi2)
         | (rw [w64 (x:=k+(vs.length:Int)) (by omega) (by omega),w64 (x:=(vs.length:Int)-1) (by omega) (by omega),w64 (x:=n-k) (by omega) (by omega),hi,w64 (x:=(i:Int)) (by omega) (by omega),show 0+Int.toNat (i:Int)=i by omega,eg,ev];exact br_t q3 (br_t (decide_eq_true hk) (br_t (decide_eq_true hl) ⟨⟨by omega,by omega⟩,⟨by rw [zcl];omega,rfl,rfl⟩,_,c, .refl _,rfl⟩)))
       · rw [if_neg hl];refine AC.vc hP sh lv56 (by simp) (by simp [isLive]) (by simp) (Eq.mpr (v56 3 [] n (FTs []) ..) ?_)
         first
         | (rw [w64 (x:=k+(vs.length:Int)) (by omega) (by omega),w64 (x:=n-(vs.length:Int)) (by omega) (by omega)];exact br_t q3 (br_t (decide_eq_true hk) (br_f (decide_eq_false hl) ⟨leT z1m,rfl⟩)))
         | (rw [hsl,w64 (x:=k+(vs.length:Int)) (by omega) (by omega),w64 (x:=n-(vs.length:Int)) (by omega) (by omega)];exact ⟨rfl,br_t q3 (br_t (decide_eq_true hk) (br_f (decide_eq_false hl) ⟨leT z1m,rfl⟩))⟩)
     · rw [z8t vs (fun q=>hk q.2)];refine AC.vc hP sh lv56 (by simp) (by simp [isLive]) (by simp) (Eq.mpr (v56 3 [] n (FTs []) ..) ?_)
       first
       | exact br_t q3 (br_f (decide_eq_false hk) (br_t rfl (br_t rfl ⟨.refl _,rfl⟩)))
       | exact ⟨rfl,br_t q3 (br_f (decide_eq_false hk) (br_t rfl (br_t rfl ⟨.refl _,rfl⟩)))⟩
   · rw [z8t vs (fun q=>h3 (by simpa [Tm.k] using q.1))];refine AC.vc hP sh lv56 (by simp) (by simp [isLive]) (by simp) (Eq.mpr (v56 kd s n (FTs l) ..) ?_)
     first
     | exact br_f (by simpa using h3) (br_t (by simpa using n5) (br_t (by simpa using n6) ⟨.refl _,rfl⟩))
     | exact ⟨rfl,br_f (by simpa using h3) (br_t (by simpa using n5) (br_t (by simpa using n6) ⟨.refl _,rfl⟩))⟩
abbrev oH1 (vs:List Int):List AObj:=[.arz 4 (z8j vs)]
abbrev oHp1 (vs:List Int)(t:Tm):AHeap:=(oH1 vs).zipIdx.map (fun p=>(p.2,p.1))++ [(1, .arr 4 [cT t]),(2, .arr 4 [[.a (.fz (.int .i64 0)), .a (.fz (.str [])), .a (.fz (.int .i64 0)), .a (.fz .N)]])]
abbrev oEv1 (vs:List Int)(k:Int)(w:WV)(i:Int):Env:=[(1, .c (.a (.osl 0 4 0 vs.length))),(2,ci k),(3, .c (.a (.ep 1 4 0 0))),(6, .c (.a (.ep 2 4 0 0))),(8, .c w),(9,ci i)]
theorem zlm (vs:List Int)(t:Tm)(hv:z05 t=true)(hz:t.sz≤1000000)(h56:t.k=5∨t.k=6)(k:Int)(hk0:0≤k)(hk1:k≤100000000)(hih:∀ u∈t.l,AC Tryz.prog 56 [aT u, .c (.a (.osl 0 4 0 vs.length)),ci (k+if (t.k==5)=true then 1 else 0)] (oH1 vs) (aT (z08 (z09 vs) u (k+if (t.k==5)=true then 1 else 0))) (oH1 vs)):
  ∀ (b a:List Tm),t.l=a++b→a ≠ []→RPt Tryz.prog 56 1 (aT (z08 (z09 vs) t k)) (oH1 vs) 1 ⟨oEv1 vs k (.a (.osl 3 4 0 a.length)) a.length,oHp1 vs t++ [(3, .arz 4 (FTs (z0a (z09 vs) a (k+if (t.k==5)=true then 1 else 0))))],4⟩
 | [],a,hx,hne=>by
  have ha:t.l=a:=by rw [hx,List.append_nil]
  have hlen:(FTs (z0a (z09 vs) a (k+if (t.k==5)=true then 1 else 0))).length=a.length:=by rw [z01,z3h]
  have hlz:=Tm.szs_length t.l;have htz:=t.sz_eq;rw [ha] at hlz;refine RPt.vc hP sh lv56 (Eq.mpr (zi ..) ?_);refine ⟨rfl,br_f (by rw [z01,ha];simp) ?_⟩;obtain ⟨kd,s,n,l⟩:=t;have ha:l=a:=ha;subst ha;rcases h56 with h5 | h6
  · have h5:kd=5:=h5;subst h5;rw [zth] at hv;simp only [Bool.and_eq_true,beq_iff_eq] at hv;obtain ⟨⟨⟨rfl,rfl⟩,_⟩,_⟩:=hv;refine br_f rfl ⟨⟨rfl,by rw [hlen];omega⟩, ?_,rfl⟩;rw [List.drop_zero,List.take_of_length_le (by rw [hlen];exact Nat.le_refl _),z1b _ (fun u d _ h6=>z48 vs u d h6) 5 [] 0 l k rfl];exact .refl _
  · have h6:kd=6:=h6;subst h6;obtain ⟨x,y,r,rfl,hx6,_⟩:=okB6 (z0e _ hv) rfl;rw [zll] at hv;simp only [Bool.and_eq_true,beq_iff_eq] at hv;obtain ⟨⟨⟨⟨rfl,_⟩,_⟩,rfl⟩,_⟩:=hv;have e0:(k+if ((Tm.mk 6 [] 0 (x::y::r)).k==5)=true then 1 else 0)=k:=Int.add_zero k
    rw [e0] at hlen ⊢;have w6:¬(z08 (z09 vs) x k).k=6:=fun e=>hx6 (zbr _ (fun u d _ h6=>z48 vs u d h6) x k e)
    have hxl:(z08 (z09 vs) x k).l.length≤B:=by
     have h1:=zeq vs x k;have h2:=Tm.szs_length (z08 (z09 vs) x k).l;have h3:=(z08 (z09 vs) x k).sz_eq;simp only [Tm.sz,Tm.szs] at hz;simp only [B];omega
    simp only [B] at hxl;have hz':1+Tm.szs (x::y::r)≤1000000:=hz;simp only [List.length_cons] at hlz hlen;have c:=z84 (z08 (z09 vs) x k) (z0a (z09 vs) (y::r) k) (by rw [z3h,List.length_cons];omega);refine br_t rfl ⟨⟨by omega,by simp only [List.length_cons];omega⟩,⟨by rw [hlen];omega,(z1c _).trans (z5a _).symm,rfl⟩,⟨by omega,by simp only [List.length_cons];omega,by omega⟩,⟨rfl,by rw [hlen];simp only [List.length_cons];omega⟩,z1x (z08 (z09 vs) x k) (z0a (z09 vs) (y::r) k), ?_, ?_,rfl⟩
    · have e:List.take (Int.toNat (((x::y::r).length:Nat):Int)-1) (List.drop 1 (FTs (z0a (z09 vs) (x::y::r) k)))=FTs (z0a (z09 vs) (y::r) k):=by
       rw [show List.drop 1 (FTs (z0a (z09 vs) (x::y::r) k))=FTs (z0a (z09 vs) (y::r) k) from rfl,List.take_of_length_le];rw [z01,z3h];simp only [List.length_cons];omega
      rw [e,show aE (List.getD (FTs (z0a (z09 vs) (x::y::r) k)) 0 [])=aT (z08 (z09 vs) x k) from z1o _];exact c
    · rw [z1b _ (fun u d _ h6=>z48 vs u d h6) 6 [] 0 (x::y::r) k rfl];show TV.Le (aT (if ((z08 (z09 vs) x k).k==6)=true∧(z08 (z09 vs) x k).l ≠ [] then .mk 6 [] 0 ((z08 (z09 vs) x k).l++z0a (z09 vs) (y::r) k) else .mk 6 [] 0 (z08 (z09 vs) x k::z0a (z09 vs) (y::r) k))) _
      rw [if_neg (fun e=>w6 (by simpa using e.1))];show TV.Le _ (aT (.mk 6 [] 0 (z0a (z09 vs) (x::y::r) (k+0))));rw [Int.add_zero];exact .refl _
 | u::b,a,hx,hne=>by
  have ih:=zlm vs t hv hz h56 k hk0 hk1 hih b (a++ [u]) (by rw [hx];simp) (by simp);rw [nx,List.length_append,z9j,←z8n] at ih;have hlen:(FTs (z0a (z09 vs) a (k+if (t.k==5)=true then 1 else 0))).length=a.length:=by rw [z01,z3h]
  have hlt:a.length<t.l.length:=by rw [hx];simp
  have hlz:=Tm.szs_length t.l;have htz:=t.sz_eq;have hu:=hih u (by rw [hx];simp);have em:rE (List.getD (FTs t.l) (Int.toNat (a.length:Int)) [])=List.getD (FTs t.l) (Int.toNat (a.length:Int)) []:=by rw [hx];exact z1y a u b
  have ea:aE (List.getD (FTs t.l) (Int.toNat (a.length:Int)) [])=aT u:=by rw [hx];exact z45 a u b
  refine RPt.vc hP sh lv56 (Eq.mpr (zi ..) ?_);rw [ea,w64 (x:=(a.length:Int)+1) (by omega) (by omega),w64 (x:=k+1) (by omega) (by omega)];refine ⟨rfl,br_t (by rw [z01];simpa using hlt) (z02 (fun q=> ?_) (fun q=> ?_))⟩
  · rw [show (k+if (t.k==5)=true then 1 else 0)=k+1 by rw [if_pos q]] at ih hu hlen ⊢
    refine ⟨⟨rfl,by omega,by rw [z01];omega,em⟩,_,hu,Nat.le_refl _,⟨by rw [hlen];exact Nat.le_refl _,by unfold z0d;omega⟩, ?_⟩;rw [List.take_of_length_le (by rw [hlen];exact Nat.le_refl _)];exact ih
  · rw [show (k+if (t.k==5)=true then 1 else 0)=k by rw [if_neg (by rw [q];simp)];exact Int.add_zero k] at ih hu hlen ⊢
    refine ⟨⟨rfl,by omega,by rw [z01];omega,em⟩,_,hu,Nat.le_refl _,⟨by rw [hlen];exact Nat.le_refl _,by unfold z0d;omega⟩, ?_⟩;rw [List.take_of_length_le (by rw [hlen];exact Nat.le_refl _)];exact ih
theorem zlj (vs:List Int)(hR:VR vs)(hne:1=0→vs=[]):∀ t:Tm,z05 t=true→t.sz≤1000000→bd 1000000000000 t→∀ k:Int,0≤k→k+t.sz≤100000000→AC Tryz.prog 56 [aT t, .c (.a (.osl 0 4 0 vs.length)),ci k] (oH1 vs) (aT (z08 (z09 vs) t k)) (oH1 vs):=by
 refine Tm.ind fun t ih hv hz hb k h0 h1=> ?_;have htz:=t.sz_eq;have hbk:=bd_l hb;have hvl:=hR.1;have hsl:(FTs (byV vs)).length=vs.length:=by rw [z01];simp [byV]
 by_cases h56:t.k=5∨t.k=6
 · have hih:∀ u∈t.l,AC Tryz.prog 56 [aT u, .c (.a (.osl 0 4 0 vs.length)),ci (k+if (t.k==5)=true then 1 else 0)] (oH1 vs) (aT (z08 (z09 vs) u (k+if (t.k==5)=true then 1 else 0))) (oH1 vs):=fun u hu=>by
    have hv':z05 u=true:=by obtain ⟨kd,s,n,l⟩:=t;exact z2f hv h56 u hu
    have:=Tm.szs_mem hu;exact ih u hu hv' (by omega) (z2r hbk hu) _ (by split<;>omega) (by split<;>omega)
   have hl:=zlm vs t hv hz h56 k h0 (by omega) hih
   have hlne:∃ u b,t.l=u::b:=by
    obtain ⟨kd,s,n,l⟩:=t;rcases h56 with h5 | h6
    · obtain ⟨x,rfl,_⟩:=okB5 (z0e _ hv) h5;exact ⟨x,[],rfl⟩
    · obtain ⟨x,y,r,rfl,_⟩:=okB6 (z0e _ hv) h6;exact ⟨x,_,rfl⟩
   obtain ⟨u,b,el⟩:=hlne;have l1:=hl b [u] el (by simp);rw [show FTs (z0a (z09 vs) [u] (k+if (t.k==5)=true then 1 else 0))=[FT4 (z08 (z09 vs) u (k+if (t.k==5)=true then 1 else 0))] from (z8n [] _).symm] at l1
   have hu:=hih u (by rw [el];simp);have em:rE (List.getD (FTs t.l) (Int.toNat (0:Int)) [])=List.getD (FTs t.l) (Int.toNat (0:Int)) []:=by rw [el];exact z1c u
   have ea:aE (List.getD (FTs t.l) (Int.toNat (0:Int)) [])=aT u:=by rw [el];exact z1o u
   have start:RPt Tryz.prog 56 1 (aT (z08 (z09 vs) t k)) (oH1 vs) 1 ⟨oEv1 vs k (.a (.fz .N)) 0,oHp1 vs t,3⟩:=by
    refine RPt.vc hP sh lv56 (Eq.mpr (zrr ..) ?_);rw [ea,w64 (x:=(0:Int)+1) (by omega) (by omega),w64 (x:=k+1) (by omega) (by omega)];refine ⟨rfl,br_t (by rw [z01,el];exact decide_eq_true (by simp only [List.length_cons];omega)) (z02 (fun q=> ?_) (fun q=> ?_))⟩
    · rw [show (k+if (t.k==5)=true then 1 else 0)=k+1 by rw [if_pos q]] at l1 hu
      exact ⟨⟨rfl,by omega,by rw [z01,el];simp only [List.length_cons];omega,em⟩,_,hu,Nat.le_refl _,by decide,l1⟩
    · rw [show (k+if (t.k==5)=true then 1 else 0)=k by rw [if_neg (by rw [q];simp)];exact Int.add_zero k] at l1 hu
      exact ⟨⟨rfl,by omega,by rw [z01,el];simp only [List.length_cons];omega,em⟩,_,hu,Nat.le_refl _,by decide,l1⟩
   have q3:((t.k:Int)==3)=false:=by rcases h56 with e | e<;>rw [e]<;>rfl
   refine AC.vc hP sh lv56 (by simp) (by simp [isLive]) (by simp) (Eq.mpr (zim t.k t.s t.n (FTs t.l) ..) ?_);rcases h56 with h5 | h6
   · first
     | exact br_f q3 (br_f (by rw [h5];rfl) start)
     | exact ⟨rfl,br_f q3 (br_f (by rw [h5];rfl) start)⟩
   · first
     | exact br_f q3 (br_t (by rw [h6];rfl) (br_f (by rw [h6];rfl) start))
     | exact ⟨rfl,br_f q3 (br_t (by rw [h6];rfl) (br_f (by rw [h6];rfl) start))⟩
 · obtain ⟨kd,s,n,l⟩:=t;have n5:¬kd=5:=fun e=>h56 (.inl e);have n6:¬kd=6:=fun e=>h56 (.inr e);rw [z1u _ kd s n l k (by simp [n5,n6])];by_cases h3:kd=3
   · subst h3;obtain ⟨hn0,hn1,rfl,rfl⟩:=za4.1 hv;have q3:(((3:Int))==3)=true:=rfl;by_cases hk:k≤n
     · rw [zaw vs hk];by_cases hl:n<k+(vs.length:Int)
       · rw [if_pos hl];have hi0:(0:Int)≤(vs.length:Int)-1-(n-k):=by omega
         have hi1:(vs.length:Int)-1-(n-k)<vs.length:=by omega
         obtain ⟨i,hi⟩:∃ i:Nat,(vs.length:Int)-1-(n-k)=i:=⟨((vs.length:Int)-1-(n-k)).toNat,by omega⟩;have hi2:i<vs.length:=by omega
         have eg:List.getD (z8j vs) i []=rowV vs[i]:=by simp [z8j,List.getD,hi2]
         have c:=(z81 (vN4 vs[i]) 0 k (by show 1≤B;simp only [B];omega) (z8f _ _) (by omega) (by simp only [M61];omega) (by omega) (by simp only [M61];omega)).args (args:=[.agg [.a (.fz (.int .i64 4)), .a (.fz (.str [])), .a (.fz (.int .i64 vs[i])), .a (.fz .N)],ci 0,ci k]) ⟨leT z1m, .refl _, .refl _,trivial⟩;have ev:vs.getD (Int.toNat (i:Int)) 0=vs[i]:=by rw [show Int.toNat (i:Int)=i by omega];simp [List.getD,hi2]
         refine AC.vc hP sh lv56 (by simp) (by simp [isLive]) (by simp) (Eq.mpr (zim 3 [] n (FTs []) ..) ?_)
         first
         | exact absurd (hne rfl) (by intro e;rw [e] at hi2;simp at hi2)
         | (rw [w64 (x:=k+(vs.length:Int)) (by omega) (by omega),w64 (x:=(vs.length:Int)-1) (by omega) (by omega),w64 (x:=n-k) (by omega) (by omega),hi,w64 (x:=(i:Int)) (by omega) (by omega),show 0+Int.toNat (i:Int)=i by omega,eg,ev];exact br_t q3 (br_t (decide_eq_true hk) (br_t (decide_eq_true hl) ⟨⟨by omega,by omega⟩,⟨by rw [zcl];omega,rfl,rfl⟩,_,c, .refl _,rfl⟩)))
       · rw [if_neg hl];refine AC.vc hP sh lv56 (by simp) (by simp [isLive]) (by simp) (Eq.mpr (zim 3 [] n (FTs []) ..) ?_)
         first
         | (rw [w64 (x:=k+(vs.length:Int)) (by omega) (by omega),w64 (x:=n-(vs.length:Int)) (by omega) (by omega)];exact br_t q3 (br_t (decide_eq_true hk) (br_f (decide_eq_false hl) ⟨leT z1m,rfl⟩)))
         | (rw [hsl,w64 (x:=k+(vs.length:Int)) (by omega) (by omega),w64 (x:=n-(vs.length:Int)) (by omega) (by omega)];exact ⟨rfl,br_t q3 (br_t (decide_eq_true hk) (br_f (decide_eq_false hl) ⟨leT z1m,rfl⟩))⟩)
     · rw [z8t vs (fun q=>hk q.2)];refine AC.vc hP sh lv56 (by simp) (by simp [isLive]) (by simp) (Eq.mpr (zim 3 [] n (FTs []) ..) ?_)
       first
       | exact br_t q3 (br_f (decide_eq_false hk) (br_t rfl (br_t rfl ⟨.refl _,rfl⟩)))
       | exact ⟨rfl,br_t q3 (br_f (decide_eq_false hk) (br_t rfl (br_t rfl ⟨.refl _,rfl⟩)))⟩
   · rw [z8t vs (fun q=>h3 (by simpa [Tm.k] using q.1))];refine AC.vc hP sh lv56 (by simp) (by simp [isLive]) (by simp) (Eq.mpr (zim kd s n (FTs l) ..) ?_)
     first
     | exact br_f (by simpa using h3) (br_t (by simpa using n5) (br_t (by simpa using n6) ⟨.refl _,rfl⟩))
     | exact ⟨rfl,br_f (by simpa using h3) (br_t (by simpa using n5) (br_t (by simpa using n6) ⟨.refl _,rfl⟩))⟩
end Go.AM

set_option maxRecDepth 100000
open Go Go.Proofs
namespace Go.AM
theorem zmm (x:In1)(s:Int)(l:List In1)(hl:l.length≤1000000000):AC Tryz.prog 57 [ep2,aIw x] (stI s l) (ci l.length) (stO s (l++ [x])):=by
 refine AC.vc hP sh lv57 (by simp) (by simp [isLive]) (by simp [isLive]) (Eq.mpr (v57 x.k x.a x.t.k x.t.s x.t.n (FTs x.t.l) (FTs x.l) (FCs x.c) s l.length (FIs l) ..) ?_);rw [w64 (x:=((l.length+1:Nat):Int)-1) (by omega) (by omega),znj,←zqu x,zng];refine ⟨Nat.le_refl _,⟨by rw [z06];exact Nat.le_refl _,by unfold z0d;omega⟩, ?_, ?_⟩
 · rw [show ((l.length+1:Nat):Int)-1=(l.length:Int) by omega];exact .refl _
 · show _=[AObj.arr 2 [[.a (.fz (.int .i64 s)), .a (.osl 2 8 0 (l++ [x]).length)]], .gone, .arz 8 (FIs (l++ [x]))];rw [List.length_append];rfl
theorem z50 (k a:Int)(s:Int)(l:List In1)(hl:l.length≤1000000000):AC Tryz.prog 57 [ep2, .agg [.a (.fz (.int .i64 k)), .a (.fz (.int .i64 a)), .a (.fz (.int .i64 0)), .a (.fz (.str [])), .a (.fz (.int .i64 0)), .a (.fz .N), .a (.fz .N), .a (.fz .N)]] (stI s l) (ci l.length) (stO s (l++ [mkI k a])):=
 (zmm (mkI k a) s l hl).args ⟨.refl _,z7n (a:=[.int .i64 k, .int .i64 a, .int .i64 0, .str [], .int .i64 0, .N, .N, .N]) (b:=[.int .i64 k, .int .i64 a, .int .i64 0, .str [], .int .i64 0, .sl false 4 [], .sl false 4 [], .sl false 6 []]) ⟨.refl _, .refl _, .refl _, .refl _, .refl _, .N 4, .N 4, .N 6,trivial⟩,trivial⟩
theorem zby (k a:Int)(t:Tm)(s:Int)(l:List In1)(hl:l.length≤1000000000):AC Tryz.prog 57 [ep2, .agg [.a (.fz (.int .i64 k)), .a (.fz (.int .i64 a)), .a (.fz (.int .i64 t.k)), .a (.fz (.str t.s)), .a (.fz (.int .i64 t.n)), .a (.fz (.sl false 4 (FTs t.l))), .a (.fz .N), .a (.fz .N)]] (stI s l) (ci l.length) (stO s (l++ [.mk k a t [] []])):=
 (zmm (.mk k a t [] []) s l hl).args ⟨.refl _,z7n (a:=[.int .i64 k, .int .i64 a, .int .i64 t.k, .str t.s, .int .i64 t.n, .sl false 4 (FTs t.l), .N, .N]) (b:=[.int .i64 k, .int .i64 a, .int .i64 t.k, .str t.s, .int .i64 t.n, .sl false 4 (FTs t.l), .sl false 4 [], .sl false 6 []]) ⟨.refl _, .refl _, .refl _, .refl _, .refl _, .refl _, .N 4, .N 6,trivial⟩,trivial⟩
theorem c_zputL (k a:Int)(m:List Tm)(s:Int)(l:List In1)(hl:l.length≤1000000000):AC Tryz.prog 57 [ep2, .agg [.a (.fz (.int .i64 k)), .a (.fz (.int .i64 a)), .a (.fz (.int .i64 0)), .a (.fz (.str [])), .a (.fz (.int .i64 0)), .a (.fz .N), .a (.fz (.sl false 4 (FTs m))), .a (.fz .N)]] (stI s l) (ci l.length) (stO s (l++ [.mk k a noT0 m []])):=
 (zmm (.mk k a noT0 m []) s l hl).args ⟨.refl _,z7n (a:=[.int .i64 k, .int .i64 a, .int .i64 0, .str [], .int .i64 0, .N, .sl false 4 (FTs m), .N]) (b:=[.int .i64 k, .int .i64 a, .int .i64 0, .str [], .int .i64 0, .sl false 4 [], .sl false 4 (FTs m), .sl false 6 []]) ⟨.refl _, .refl _, .refl _, .refl _, .refl _, .N 4, .refl _, .N 6,trivial⟩,trivial⟩
theorem c_zputC (k a:Int)(m:List Cd)(s:Int)(l:List In1)(hl:l.length≤1000000000):AC Tryz.prog 57 [ep2, .agg [.a (.fz (.int .i64 k)), .a (.fz (.int .i64 a)), .a (.fz (.int .i64 0)), .a (.fz (.str [])), .a (.fz (.int .i64 0)), .a (.fz .N), .a (.fz .N), .a (.fz (.sl false 6 (FCs m)))]] (stI s l) (ci l.length) (stO s (l++ [.mk k a noT0 [] m])):=
 (zmm (.mk k a noT0 [] m) s l hl).args ⟨.refl _,z7n (a:=[.int .i64 k, .int .i64 a, .int .i64 0, .str [], .int .i64 0, .N, .N, .sl false 6 (FCs m)]) (b:=[.int .i64 k, .int .i64 a, .int .i64 0, .str [], .int .i64 0, .sl false 4 [], .sl false 4 [], .sl false 6 (FCs m)]) ⟨.refl _, .refl _, .refl _, .refl _, .refl _, .N 4, .N 4, .refl _,trivial⟩,trivial⟩
theorem zv8 (s:Int)(l:List In1)(h0:0≤s)(h1:s≤1000000000):AC Tryz.prog 87 [ep2] (stI s l) (aT (vN4 s)) (stO (s+1) l):=by
 refine AC.vc hP sh lv87 (by simp) (by simp [isLive]) (by simp [isLive]) (Eq.mpr (v87 s l.length (FIs l) ..) ?_);rw [w64 (x:=s+1) (by omega) (by omega),w64 (x:=s+1-1) (by omega) (by omega),show s+1-1=s by omega];exact ⟨leT z1m,rfl⟩
theorem zs6 (s:Int)(m:List In1)(hlen:m.length≤1000000000):AC Tryz.prog 45 [ep2] (stI s m) (.tup []) (stO s (finI m)):=by
 have k2:=z50 4 0 s m hlen;refine AC.vc hP sh lv45 (by simp) (by simp [isLive]) (by simp [isLive]) (Eq.mpr (v45 s m.length (FIs m) ..) ?_);rw [w64 (x:=((m.length:Nat):Int)-1) (by omega) (by omega)];unfold finI;rcases List.eq_nil_or_concat m with rfl | ⟨a,x,rfl⟩
 · exact br_t rfl ⟨(_,_,_),k2, .refl _,by rw [if_neg (by decide)]⟩
 · rw [List.concat_eq_append] at*;have e1:0+Int.toNat (((a++ [x]).length:Nat)-1:Int)=a.length:=by rw [List.length_append];simp only [List.length_cons,List.length_nil];omega
   have e2:List.getD (FIs (a++ [x])) a.length []=FI x:=by rw [z9i];simp [List.getD,z06,FIs,List.getElem?_append]
   rw [zdo];refine br_f (by simp only [List.length_append,List.length_cons,List.length_nil];simp;omega) ?_;rw [e1,e2];refine ⟨⟨by rw [List.length_append];simp only [List.length_cons,List.length_nil];omega,by omega⟩,⟨by rw [z06,List.length_append];simp only [List.length_cons,List.length_nil];omega,by cases x;rfl,rfl⟩, ?_⟩;rw [FI0];refine z02 (fun q=>⟨(_,_,_),k2, .refl _, ?_⟩) (fun q=>⟨.refl _, ?_⟩)
   · rw [if_neg (by simpa using q)]
   · rw [if_pos (by simpa using q)]
def BdR (n:Nat):Prop:=∀ (last:Bool) (t:Tm) (s:Int) (l:List In1) (p:Nat),p=l.length→wt t≤n→GG (n*n+n) t→0≤s→s+wt t+(n*n:Nat)≤1000000000→l.length+wt t≤1000000000→
 AC Tryz.prog 44 [ep2,aT t,cb last] (stI s l) (.tup []) (stO (bodC n last t s p).1 (l++(bodC n last t s p).2))
abbrev rEv0 (vs:List Int)(fr:Int)(xs:List Tm)(i:Int):Env:=[(1,ci fr),(2, .c (.a (.ep 0 9 0 0))),(4, .c (.a (.ep 1 6 0 0))),(5, .c (.a (.fz .N))),(7, .c (.a (.ep 2 4 0 0))),(8,aL xs),(9, .c (.a (.ep 3 2 0 0))),(10,ci i)]
abbrev rHp0 (vs:List Int)(c:Cl)(hh:Tm)(s:Int)(m:List In1):AHeap:=[(0, .arr 9 [cCl9 c]),(1, .arr 6 [z6]),  (2, .arr 4 [cT hh]),(3, .arr 2 [[.a (.fz (.int .i64 s)), .a (.osl 4 8 0 m.length)]]),(4, .arz 8 (FIs m))]
theorem zin {n:Nat}(hn:n≤10000)(h:BdR n)(vs:List Int)(hvs:0=0→vs=[])(c:Cl)(bo hh:Tm)(fr s:Int)(xs:List Tm)(o:AC Tryz.prog 56 [aT c.2.2,aL (byV vs),ci 0] (oH0 vs) (aT bo) (oH0 vs))(hw:wt bo≤n)(hg:GG (n*n+n) bo)(h0:0≤s)(h1:s+wt bo+(n*n:Nat)≤1000000000)(hxs:xs.length≤1000000):
  ∀ (b a:List Tm),xs=a++b→RPt Tryz.prog 24 0 (aC (.mk hh.s xs.length fr c.1 (bodC n true bo s xs.length).1 (finI (argI 0 xs++(bodC n true bo s xs.length).2)))) [] 5 ⟨rEv0 vs fr xs a.length,rHp0 vs c hh s (argI 0 a),5⟩
 | [],a,hx=>by
  have ha:a=xs:=by rw [hx,List.append_nil]
  subst ha;have hl:=z4p a 0;have k:=h true bo s (argI 0 a) a.length hl.symm hw hg h0 h1 (by rw [hl];omega);have bb:=z47 n hn true bo s a.length hw hg h0 (by omega);have ke:=zs6 (bodC n true bo s a.length).1 (argI 0 a++(bodC n true bo s a.length).2) (by rw [List.length_append,hl];omega);refine RPt.vc hP sh lv24 (Eq.mpr (v24_5a ..) ?_);refine ⟨rfl,br_f (by rw [z01];simp) ⟨bo, ?_,((bodC n true bo s a.length).1,argI 0 a++(bodC n true bo s a.length).2),k,((bodC n true bo s a.length).1,finI (argI 0 a++(bodC n true bo s a.length).2)),ke,rfl,⟨rfl,by rw [z06];simp⟩, ?_,rfl⟩⟩
  · first
    | exact o
    | (have e:=hvs rfl;subst e;exact o.args ⟨.refl _, .c _ _ (.a _ _ (.fz _ _ z1m)), .refl _,trivial⟩)
  · rw [List.drop_zero,List.take_of_length_le (by rw [z06];exact Nat.le_refl _),z01];exact .refl _
 | t::b,a,hx=>by
  have ih:=zin hn h vs hvs c bo hh fr s xs o hw hg h0 h1 hxs b (a++ [t]) (by rw [hx];simp);rw [z7t,nx,Nat.zero_add] at ih;have hlt:a.length<xs.length:=by rw [hx];simp
  have e:List.getD (FTs xs) (Int.toNat (a.length:Int)) []=FT t:=by rw [hx];exact midI ..
  have put:∀ kk:Int,(if t.k=0∨t.k=2 then 1 else 0)=kk→∃ z:Int×Int×List In1,AC Tryz.prog 57 [ep2, .agg [.a (.fz (.int .i64 kk)), .a (.fz (.int .i64 a.length)), .a (.fz (.int .i64 t.k)), .a (.fz (.str t.s)), .a (.fz (.int .i64 t.n)), .a (.fz (.sl false 4 (FTs t.l))), .a (.fz .N), .a (.fz .N)]]
    [.arr 2 [[.a (.fz (.int .i64 s)), .a (.osl 1 8 0 (argI 0 a).length)]], .arz 8 (FIs (argI 0 a))] (ci z.1) [.arr 2 [[.a (.fz (.int .i64 z.2.1)), .a (.osl 2 8 0 z.2.2.length)]], .gone, .arz 8 (FIs z.2.2)]∧
    RPt Tryz.prog 24 0 (aC (.mk hh.s xs.length fr c.1 (bodC n true bo s xs.length).1 (finI (argI 0 xs++(bodC n true bo s xs.length).2)))) [] 5 ⟨rEv0 vs fr xs ((a.length:Int)+1),rHp0 vs c hh z.2.1 z.2.2,5⟩:=fun kk hk=>by
   have k:=zby kk a.length t s (argI 0 a) (by rw [z4p];omega);rw [hk] at ih;exact ⟨(_,_,_),k,ih⟩
  refine RPt.vc hP sh lv24 (Eq.mpr (v24_5a ..) ?_);rw [w64 (x:=(a.length:Int)+1) (by omega) (by omega),e];obtain ⟨k,str,m,tl⟩:=t;have el:FV.L 4 (.sl false 4 (FTs xs))=true∧0≤(a.length:Int)∧(a.length:Int)<(((FTs xs).length:Nat):Int)∧(rE (FT (.mk k str m tl)):List FV)=FT (.mk k str m tl):=⟨rfl,by omega,by rw [z01];omega,z1c (.mk k str m tl)⟩;refine ⟨rfl,br_t (by rw [z01];simpa using hlt) ⟨el,z02 (fun q=>⟨el, ?_⟩) (fun q=>⟨el,z02 (fun q2=>⟨el, ?_⟩) (fun q2=>⟨el, ?_⟩)⟩)⟩⟩
  · have q:(k==0)=true:=q;have q:k=0:=by simpa using q
    exact put 1 (by rw [if_pos (.inl q)])
  · have q2:(k==2)=true:=q2;have q2:k=2:=by simpa using q2
    exact put 1 (by rw [if_pos (.inr q2)])
  · have q:(k==0)=false:=q;have q2:(k==2)=false:=q2;have q:¬k=0:=by simpa using q
    have q2:¬k=2:=by simpa using q2
    exact put 0 (by rw [if_neg (fun w=>w.elim q q2)])
abbrev rEv1 (vs:List Int)(fr:Int)(xs:List Tm)(i:Int):Env:=[(1,ci fr),(2, .c (.a (.ep 0 9 0 0))),(4, .c (.a (.ep 1 6 0 0))),(5, .c (.a (.osl 2 4 0 vs.length))),(7, .c (.a (.ep 3 4 0 0))),(8,aL xs),(9, .c (.a (.ep 4 2 0 0))),(10,ci i)]
abbrev rHp1 (vs:List Int)(c:Cl)(hh:Tm)(s:Int)(m:List In1):AHeap:=[(0, .arr 9 [cCl9 c]),(1, .arr 6 [z6]),(2, .arz 4 (z8j vs)),(3, .arr 4 [cT hh]),(4, .arr 2 [[.a (.fz (.int .i64 s)), .a (.osl 5 8 0 m.length)]]),(5, .arz 8 (FIs m))]
theorem zi7 {n:Nat}(hn:n≤10000)(h:BdR n)(vs:List Int)(hvs:1=0→vs=[])(c:Cl)(bo hh:Tm)(fr s:Int)(xs:List Tm)(o:AC Tryz.prog 56 [aT c.2.2, .c (.a (.osl 0 4 0 vs.length)),ci 0] (oH1 vs) (aT bo) (oH1 vs))(hw:wt bo≤n)(hg:GG (n*n+n) bo)(h0:0≤s)(h1:s+wt bo+(n*n:Nat)≤1000000000)(hxs:xs.length≤1000000):
  ∀ (b a:List Tm),xs=a++b→RPt Tryz.prog 24 0 (aC (.mk hh.s xs.length fr c.1 (bodC n true bo s xs.length).1 (finI (argI 0 xs++(bodC n true bo s xs.length).2)))) [] 5 ⟨rEv1 vs fr xs a.length,rHp1 vs c hh s (argI 0 a),6⟩
 | [],a,hx=>by
  have ha:a=xs:=by rw [hx,List.append_nil]
  subst ha;have hl:=z4p a 0;have k:=h true bo s (argI 0 a) a.length hl.symm hw hg h0 h1 (by rw [hl];omega);have bb:=z47 n hn true bo s a.length hw hg h0 (by omega);have ke:=zs6 (bodC n true bo s a.length).1 (argI 0 a++(bodC n true bo s a.length).2) (by rw [List.length_append,hl];omega);refine RPt.vc hP sh lv24 (Eq.mpr (v24_5b ..) ?_);refine ⟨rfl,br_f (by rw [z01];simp) ⟨bo, ?_,((bodC n true bo s a.length).1,argI 0 a++(bodC n true bo s a.length).2),k,((bodC n true bo s a.length).1,finI (argI 0 a++(bodC n true bo s a.length).2)),ke,rfl,⟨rfl,by rw [z06];simp⟩, ?_,rfl⟩⟩
  · first
    | exact o
    | (have e:=hvs rfl;subst e;exact o.args ⟨.refl _, .c _ _ (.a _ _ (.fz _ _ z1m)), .refl _,trivial⟩)
  · rw [List.drop_zero,List.take_of_length_le (by rw [z06];exact Nat.le_refl _),z01];exact .refl _
 | t::b,a,hx=>by
  have ih:=zi7 hn h vs hvs c bo hh fr s xs o hw hg h0 h1 hxs b (a++ [t]) (by rw [hx];simp);rw [z7t,nx,Nat.zero_add] at ih;have hlt:a.length<xs.length:=by rw [hx];simp
  have e:List.getD (FTs xs) (Int.toNat (a.length:Int)) []=FT t:=by rw [hx];exact midI ..
  have put:∀ kk:Int,(if t.k=0∨t.k=2 then 1 else 0)=kk→∃ z:Int×Int×List In1,AC Tryz.prog 57 [ep2, .agg [.a (.fz (.int .i64 kk)), .a (.fz (.int .i64 a.length)), .a (.fz (.int .i64 t.k)), .a (.fz (.str t.s)), .a (.fz (.int .i64 t.n)), .a (.fz (.sl false 4 (FTs t.l))), .a (.fz .N), .a (.fz .N)]]
    [.arr 2 [[.a (.fz (.int .i64 s)), .a (.osl 1 8 0 (argI 0 a).length)]], .arz 8 (FIs (argI 0 a))] (ci z.1) [.arr 2 [[.a (.fz (.int .i64 z.2.1)), .a (.osl 2 8 0 z.2.2.length)]], .gone, .arz 8 (FIs z.2.2)]∧
    RPt Tryz.prog 24 0 (aC (.mk hh.s xs.length fr c.1 (bodC n true bo s xs.length).1 (finI (argI 0 xs++(bodC n true bo s xs.length).2)))) [] 5 ⟨rEv1 vs fr xs ((a.length:Int)+1),rHp1 vs c hh z.2.1 z.2.2,6⟩:=fun kk hk=>by
   have k:=zby kk a.length t s (argI 0 a) (by rw [z4p];omega);rw [hk] at ih;exact ⟨(_,_,_),k,ih⟩
  refine RPt.vc hP sh lv24 (Eq.mpr (v24_5b ..) ?_);rw [w64 (x:=(a.length:Int)+1) (by omega) (by omega),e];obtain ⟨k,str,m,tl⟩:=t;have el:FV.L 4 (.sl false 4 (FTs xs))=true∧0≤(a.length:Int)∧(a.length:Int)<(((FTs xs).length:Nat):Int)∧(rE (FT (.mk k str m tl)):List FV)=FT (.mk k str m tl):=⟨rfl,by omega,by rw [z01];omega,z1c (.mk k str m tl)⟩;refine ⟨rfl,br_t (by rw [z01];simpa using hlt) ⟨el,z02 (fun q=>⟨el, ?_⟩) (fun q=>⟨el,z02 (fun q2=>⟨el, ?_⟩) (fun q2=>⟨el, ?_⟩)⟩)⟩⟩
  · have q:(k==0)=true:=q;have q:k=0:=by simpa using q
    exact put 1 (by rw [if_pos (.inl q)])
  · have q2:(k==2)=true:=q2;have q2:k=2:=by simpa using q2
    exact put 1 (by rw [if_pos (.inr q2)])
  · have q:(k==0)=false:=q;have q2:(k==2)=false:=q2;have q:¬k=0:=by simpa using q
    have q2:¬k=2:=by simpa using q2
    exact put 0 (by rw [if_neg (fun w=>w.elim q q2)])
abbrev rEv (fr:Int)(xs:WV)(i:Int):Env:=[(1,ci fr),(2, .c (.a (.ep 0 9 0 0))),(4, .c (.a (.ep 1 6 0 0))),(5, .c xs),(6,ci i)]
theorem zpa (n:Nat)(fr:Int):z8j (z0b n fr)++ [rowV (fr+n)]=z8j (z0b (n+1) fr):=by
 rw [z9m];unfold z8j;rw [List.map_append];rfl
theorem znf {n:Nat}(hn:n≤10000)(h:BdR n)(c:Cl)(fr:Int)(hk:OKc n c fr):∀ (k j:Nat),0<j→(j+k:Int)=c.1→
  RPt Tryz.prog 24 0 (aC (z1a (bodC n) c fr)) [] 1 ⟨rEv fr (.a (.osl 2 4 0 j)) j,[(0, .arr 9 [cCl9 c]),(1, .arr 6 [z6]),(2, .arz 4 (z8j (z0b j fr)))],3⟩
 | 0,j,hj,hjk=>by
  obtain ⟨⟨v0,v1⟩,⟨f0,f1⟩,hT,hG,hw⟩:=hk;have hsq:=sq_b hn;have hj2:c.1.toNat=j:=by omega
  have hR:VR (z0b j fr):=z8g f0 (by omega) (by omega);have hT0:=hT.2.1;have hG0:=hG.1.2.1;have o1:=zlj (z0b j fr) hR (fun e=>by cases e) c.2.1 hT.1 hT.2.1 (z2d (by omega) _ hT.2.2) 0 (Int.le_refl 0) (by omega);have o2:=zlj (z0b j fr) hR (fun e=>by cases e) c.2.2 hG.1.1 hG.1.2.1 (z2d (by omega) _ hG.1.2.2) 0 (Int.le_refl 0) (by omega);obtain ⟨t1,_⟩:=TG.open (by omega) _ hR.2 _ hT;obtain ⟨g1,w1⟩:=GG.open (by omega) hR.2 hG;have ks:=z3v (z0r (z0b j fr) c.2.1) (fun _=>t1.1);have hs:=(z4r (z0r (z0b j fr) c.2.1)).2.2;have hz:=t1.2.1;have l5:=zi7 hn h (z0b j fr) (fun e=>by cases e) c (z0r (z0b j fr) c.2.2) (z00 (z0r (z0b j fr) c.2.1)).1 fr (fr+c.1) (z00 (z0r (z0b j fr) c.2.1)).2 o2 (by omega) g1 (by omega) (by omega) (by omega) (z00 (z0r (z0b j fr) c.2.1)).2 [] rfl;unfold z1a;rw [hj2];unfold rEv1 at l5;rw [z4l] at l5 o1;refine RPt.vc hP sh lv24 (Eq.mpr (v24_1b ..) ?_);rw [w64 (x:=fr+c.1) (by omega) (by omega)];exact br_f (by simp;omega) ⟨_,o1,z00 (z0r (z0b j fr) c.2.1),ks,l5⟩
 | k+1,j,hj,hjk=>by
  have ih:=znf hn h c fr hk k (j+1) (by omega) (by omega);obtain ⟨⟨v0,v1⟩,⟨f0,f1⟩,_⟩:=hk;have hlen:(z8j (z0b j fr)).length=j:=by rw [zcl,z4l]
  refine RPt.vc hP sh lv24 (Eq.mpr (v24_1b ..) ?_);rw [w64 (x:=fr+j) (by omega) (by omega),w64 (x:=(j:Int)+1) (by omega) (by omega)];refine br_t (decide_eq_true (by omega)) ⟨Nat.le_refl _,⟨by rw [hlen];exact Nat.le_refl _,by unfold z0d;omega⟩, ?_⟩;rw [List.take_of_length_le (by rw [hlen];exact Nat.le_refl _),zpa];exact ih
theorem zuz {n:Nat}(hn:n≤10000)(h:BdR n)(c:Cl)(fr:Int)(hk:OKc n c fr):AC Tryz.prog 24 [aCl c,ci fr] [] (aC (z1a (bodC n) c fr)) []:=by
 have hc:=hk;obtain ⟨⟨v0,v1⟩,⟨f0,f1⟩,hT,hG,hw⟩:=hk;have hsq:=sq_b hn;refine AC.vc hP sh lv24 (Nat.le_refl _) (by simp) (by simp) (Eq.mpr (v24 ..) ?_);refine RPt.vc hP sh lv24 (Eq.mpr (v24_1a fr 0 c.1 c.2.1.k c.2.1.s c.2.1.n (FTs c.2.1.l) c.2.2.k c.2.2.s c.2.2.n (FTs c.2.2.l) ..) ?_);rw [w64 (x:=fr+c.1) (by omega) (by omega),w64 (x:=fr+0) (by omega) (by omega)];refine z02 (fun q=>⟨Nat.le_refl _,by decide, ?_⟩) (fun q=> ?_)
 · have q:=of_decide_eq_true q;obtain ⟨m,hm⟩:∃ m:Nat,c.1=m+1:=⟨(c.1-1).toNat,by omega⟩;have l:=znf hn h c fr hc m 1 (by omega) (by omega);have e:z8j (z0b 1 fr)=[rowV (fr+0)]:=by rw [Int.add_zero];rfl
   rw [e] at l;exact l
 · have q:=of_decide_eq_false q;have hc0:c.1=0:=by omega
   have hR:VR []:=⟨by simp,fun v hv=>by cases hv⟩;have hT0:=hT.2.1;have hG0:=hG.1.2.1;have o1:=zm9 [] hR (fun _=>rfl) c.2.1 hT.1 hT.2.1 (z2d (by omega) _ hT.2.2) 0 (Int.le_refl 0) (by omega);have o2:=zm9 [] hR (fun _=>rfl) c.2.2 hG.1.1 hG.1.2.1 (z2d (by omega) _ hG.1.2.2) 0 (Int.le_refl 0) (by omega);obtain ⟨t1,_⟩:=TG.open (by omega) _ hR.2 _ hT;obtain ⟨g1,w1⟩:=GG.open (by omega) hR.2 hG;have ks:=z3v (z0r [] c.2.1) (fun _=>t1.1);have hs:=(z4r (z0r [] c.2.1)).2.2;have hz:=t1.2.1;have l5:=zin hn h [] (fun _=>rfl) c (z0r [] c.2.2) (z00 (z0r [] c.2.1)).1 fr (fr+c.1) (z00 (z0r [] c.2.1)).2 o2 (by omega) g1 (by omega) (by omega) (by omega) (z00 (z0r [] c.2.1)).2 [] rfl;unfold z1a;rw [show z0b c.1.toNat fr=[] by rw [hc0];rfl];exact ⟨_,o1.args ⟨.refl _, .c _ _ (.a _ _ (.fz _ _ z1m)), .refl _,trivial⟩,z00 (z0r [] c.2.1),ks,l5⟩
end Go.AM

set_option maxRecDepth 100000
open Go Go.Proofs
namespace Go.AM
theorem zgs {n:Nat}(hn:n≤10000)(h:BdR n)(g:Tm)(s:Int)(l:List In1)(codes:List Cd)(hw:wt g≤n)(hg:GG (n*n+n) g)(h0:0≤s)(h1:s+wt g+(n*n:Nat)≤1000000000)(hl:l.length+wt g+1≤1000000000):
  ∃ z3:Int×List In1,AC Tryz.prog 44 [ep2,aT g,cb false] (stI s (l++ [.mk 14 0 noT0 [] codes])) (.tup []) (stO z3.1 z3.2)∧∃ z4:Int×Int×List In1,AC Tryz.prog 57 [ep2, .agg [.a (.fz (.int .i64 15)), .a (.fz (.int .i64 0)), .a (.fz (.int .i64 0)), .a (.fz (.str [])), .a (.fz (.int .i64 0)), .a (.fz .N), .a (.fz .N), .a (.fz .N)]] (stI z3.1 z3.2) (ci z4.1) (stO z4.2.1 z4.2.2)∧
   (TV.Le (.tup []) (.tup [])∧stO z4.2.1 z4.2.2=stO (bodI codes (bodC n false g s (l.length+1))).1 (l++(bodI codes (bodC n false g s (l.length+1))).2)):=by
 have k:=h false g s (l++ [.mk 14 0 noT0 [] codes]) (l.length+1) (by simp) hw hg h0 h1 (by rw [List.length_append];simp only [List.length_cons,List.length_nil];omega);have bb:=z47 n hn false g s (l.length+1) hw hg h0 (by omega);generalize bodC n false g s (l.length+1)=r at*;have k2:=z50 15 0 r.1 (l++ [.mk 14 0 noT0 [] codes]++r.2) (by simp only [List.length_append,List.length_cons,List.length_nil];omega);refine ⟨(_,_),k,(_,_,_),k2,z2a rfl ?_⟩;unfold bodI;simp
theorem znl (L a b:List In1)(k v:Int)(N:Nat)(hL:L=a++mkI k v::b)(i:Int)(hi:i=(a.length:Int)):
  List.set (FIs L) (0+Int.toNat i) (z2l (List.getD (FIs L) (0+Int.toNat i) []) 1 [.int .i64 (N:Nat)])=FIs (a++mkI k (N:Nat)::b)∧(0+Int.toNat i<(FIs L).length∧(List.getD (FIs L) (0+Int.toNat i) []).length=8):=by
 subst hL;subst hi;have e:FIs (a++mkI k v::b)=FIs a++FI (mkI k v)::FIs b:=by rw [z9i];rfl
 have e1:0+Int.toNat (a.length:Int)=(FIs a).length:=by rw [z06];omega
 have e2:List.getD (FIs a++FI (mkI k v)::FIs b) (FIs a).length []=FI (mkI k v):=by simp [List.getD]
 rw [e,e1,e2,zfj];exact ⟨by rw [z9i];rfl,by rw [List.length_append,List.length_cons];omega,zi9 _⟩
abbrev evZ (x7:List Tm)(m:Nat)(w:WV)(i:Int):Env:=[(0,ep2),(7,aL x7),(12, .c (.a (.osl 3 9 0 m))),(14, .c w),(15,ci i)]
abbrev hpZ (s:Int)(l:List In1)(xs:List Cl):AHeap:=[(0, .arr 2 [[.a (.fz (.int .i64 s)), .a (.osl 2 8 0 l.length)]]),(1, .gone),(2, .arz 8 (FIs l)),(3, .arz 9 (CLs xs))]
theorem cl_mid0 (a:List Cl)(c:Cl)(b:List Cl):List.getD (CLs (a++c::b)) (0+Int.toNat (a.length:Int)) []=FL c:=by rw [Nat.zero_add];exact zlx a c b
theorem l_zimp {n:Nat}(hn:n≤10000)(h:BdR n)(d g:Tm)(s:Int)(l:List In1)(xs:List Cl)(hxs:xs.length≤1000000)(hk:∀ x∈xs,OKc n x s)(hw:wt g≤n)(hg:GG (n*n+n) g)(h0:0≤s)(h1:s+wt g+(n*n:Nat)≤1000000000)(hl:l.length+wt g+1≤1000000000):
  ∀ (b a:List Cl),xs=a++b→a ≠ []→RPt Tryz.prog 44 2 (.tup []) (stO (bodI (xs.map fun c=>z1a (bodC n) c s) (bodC n false g s (l.length+1))).1 (l++(bodI (xs.map fun c=>z1a (bodC n) c s) (bodC n false g s (l.length+1))).2)) 3
   ⟨evZ [d,g] xs.length (.a (.osl 4 6 0 a.length)) a.length,hpZ s l xs++ [(4, .arz 6 (FCs (a.map fun c=>z1a (bodC n) c s)))],5⟩
 | [],a,hx,_=>by
  have ha:a=xs:=by rw [hx,List.append_nil]
  subst ha;have hlen:(FCs (a.map fun c=>z1a (bodC n) c s)).length=a.length:=by rw [z0l,List.length_map]
  obtain ⟨z3,k3,z4,k4,e⟩:=zgs hn h g s l (a.map fun c=>z1a (bodC n) c s) hw hg h0 h1 hl;refine RPt.vc hP sh lv44 (Eq.mpr (v44_3d ..) ?_);refine br_f (by simp) ⟨⟨rfl,by rw [hlen];omega⟩,((l.length:Int),s,l++ [.mk 14 0 noT0 [] (a.map fun c=>z1a (bodC n) c s)]), ?_,⟨rfl,by omega,by show (1:Int)<2;omega,z1c g⟩,z3,by rw [show aE (List.getD (FTs [d,g]) 1 [])=aT g from z1o g];exact k3,z4,k4,e⟩;rw [List.drop_zero,List.take_of_length_le (by rw [hlen];exact Nat.le_refl _)];exact c_zputC 14 0 (a.map fun c=>z1a (bodC n) c s) s l (by omega)
 | c::b,a,hx,hne=>by
  have ih:=l_zimp hn h d g s l xs hxs hk hw hg h0 h1 hl b (a++ [c]) (by rw [hx];simp) (by simp);rw [nx,List.map_append,List.length_append] at ih;have hlen:(FCs (a.map fun c=>z1a (bodC n) c s)).length=a.length:=by rw [z0l,List.length_map]
  have hlt:a.length<xs.length:=by rw [hx];simp
  have e:List.getD (CLs xs) (0+Int.toNat (a.length:Int)) []=FL c:=by rw [hx];exact cl_mid0 ..
  have k:=zuz hn h c s (hk c (by rw [hx];simp));refine RPt.vc hP sh lv44 (Eq.mpr (v44_3d ..) ?_);rw [w64 (x:=(a.length:Int)+1) (by omega) (by omega),e];refine br_t (by simpa using hlt) ⟨⟨by omega,by omega⟩,⟨by rw [z0i];omega,rfl,rfl⟩,_,k,Nat.le_refl _,⟨by rw [hlen];exact Nat.le_refl _,by unfold z0d;omega⟩, ?_⟩;rw [List.take_of_length_le (by rw [hlen];exact Nat.le_refl _),zaz];exact ih
theorem l_zimp0 {n:Nat}(hn:n≤10000)(h:BdR n)(d g:Tm)(s:Int)(l:List In1)(xs:List Cl)(hxs:xs.length≤1000000)(hk:∀ x∈xs,OKc n x s)(hw:wt g≤n)(hg:GG (n*n+n) g)(h0:0≤s)(h1:s+wt g+(n*n:Nat)≤1000000000)(hl:l.length+wt g+1≤1000000000):
  RPt Tryz.prog 44 2 (.tup []) (stO (bodI (xs.map fun c=>z1a (bodC n) c s) (bodC n false g s (l.length+1))).1 (l++(bodI (xs.map fun c=>z1a (bodC n) c s) (bodC n false g s (l.length+1))).2)) 3
   ⟨evZ [d,g] xs.length (.a (.fz .N)) 0,hpZ s l xs,4⟩:=by
 refine RPt.vc hP sh lv44 (Eq.mpr (v44_3b ..) ?_)
 match xs,hxs,hk with
 | [],_,_=>
  obtain ⟨z3,k3,z4,k4,e⟩:=zgs hn h g s l [] hw hg h0 h1 hl;exact br_f rfl ⟨(_,_,_),z50 14 0 s l (by omega),⟨rfl,by omega,by show (1:Int)<2;omega,z1c g⟩,z3,by rw [show aE (List.getD (FTs [d,g]) 1 [])=aT g from z1o g];exact k3,z4,k4,e⟩
 | c::xs,hxs,hk=>
  have k:=zuz hn h c s (hk c (by simp));have l1:=l_zimp hn h d g s l (c::xs) hxs hk hw hg h0 h1 hl xs [c] rfl (by simp);rw [w64 (x:=(0:Int)+1) (by omega) (by omega)];refine br_t (decide_eq_true (by simp only [List.length_cons];omega)) ⟨⟨by omega,by simp only [List.length_cons];omega⟩,⟨by rw [z0i];simp only [List.length_cons];omega,rfl,rfl⟩,_,k,Nat.le_refl _,by decide, ?_⟩;have e1:[[FV.str (z1a (bodC n) c s).nm, .int .i64 (z1a (bodC n) c s).ar, .int .i64 (z1a (bodC n) c s).fr, .int .i64 (z1a (bodC n) c s).vs, .int .i64 (z1a (bodC n) c s).sl, .sl false 8 (FIs (z1a (bodC n) c s).ins)]]=FCs ([c].map fun c=>z1a (bodC n) c s):=zaz [] _;rw [e1];exact l1
theorem zof {n:Nat}(hn:n+1≤10000)(h:BdR n):BdR (n+1):=by
 intro last t s l p hp hw hg h0 h1 hl;subst hp;have hsq:=sq_b (n:=n) (by omega);have hmul:(n+1)*(n+1)=n*n+2*n+1:=by rw [Nat.mul_add,Nat.add_mul];omega
 have hg0:=hg;rw [sq_s] at hg;have c1:=z3v t (fun _=>hg.1.1);have hpos:=z1n t;rw [bodC];refine AC.vc hP sh lv44 (by simp) (by simp [isLive]) (by simp [isLive]) (Eq.mpr (v44 t.k t.s t.n (FTs t.l) last s l.length (FIs l) ..) ?_);refine ⟨z00 t,c1,z02 (fun q=> ?_) (fun q1=>z02 (fun q=> ?_) (fun q2=>z02 (fun q=> ?_) (fun q3=>z02 (fun q=> ?_) (fun q4=>z02 (fun q=> ?_) (fun q5=>z02 (fun q=> ?_) (fun q6=>z02 (fun q=> ?_) (fun q7=>z02 (fun q=> ?_) (fun q8=>z02 (fun q=> ?_) (fun q9=> ?_)))))))))⟩
 · rw [if_pos (by simpa using q)];exact z2a rfl (by simp)
 · rw [if_neg (by simpa using q1),if_pos (by simpa using q)];exact ⟨(_,_,_),z50 8 0 s l (by omega),z2a rfl rfl⟩
 · rw [if_neg (by simpa using q1),if_neg (by simpa using q2),if_pos (by simpa using q)];exact ⟨(_,_,_),z50 7 0 s l (by omega),z2a rfl rfl⟩
 · have e:(z00 t).1.s=nAnd:=by simpa using q
   rw [if_neg (by simpa using q1),if_neg (by simpa using q2),if_neg (by simpa using q3),if_pos e];obtain ⟨a,c,el,ga,gc,hs⟩:=hg.two (.inl e);obtain ⟨k1,k2,k3,k4⟩:=z58 el;rw [k3,k4];have ga:=ga.le (m:=n*n+n) (by omega) (by omega) (by omega);have gc:=gc.le (m:=n*n+n) (by omega) (by omega) (by omega);have ca:=h false a s l l.length rfl (by omega) ga h0 (by omega) (by omega);have bb:=z47 n (by omega) false a s l.length (by omega) ga h0 (by omega);have cc:=h last c (bodC n false a s l.length).1 (l++(bodC n false a s l.length).2) (l.length+(bodC n false a s l.length).2.length) (by rw [List.length_append]) (by omega) gc (by omega) (by omega) (by rw [List.length_append];omega);rw [el];exact ⟨by rw [←el];exact k1,(_,_),ca,by rw [←el];exact k2,(_,_),cc,z2a rfl (by rw [List.append_assoc];rfl)⟩
 · have e:(z00 t).1.s=nOr:=by simpa using q
   rw [if_neg (by simpa using q1),if_neg (by simpa using q2),if_neg (by simpa using q3),if_neg (by simpa using q4),if_pos e];obtain ⟨a,c,el,ga,gc,hs⟩:=hg.two (.inr e);obtain ⟨k1,k2,k3,k4⟩:=z58 el;rw [k3,k4];have ga:=ga.le (m:=n*n+n) (by omega) (by omega) (by omega);have gc:=gc.le (m:=n*n+n) (by omega) (by omega) (by omega);have p1:=z50 9 0 s l (by omega);have b1:=z47 n (by omega) false a s (l.length+1) (by omega) ga h0 (by omega);have p2:=h false a s (l++ [mkI 9 0]) (l.length+1) (by simp) (by omega) ga h0 (by omega) (by simp only [List.length_append,List.length_cons,List.length_nil];omega);rw [el];show _;simp only [show at0 [a,c]=a from rfl,show at1 [a,c]=c from rfl];generalize hr:bodC n false a s (l.length+1)=r at*;have p3:=z50 10 0 r.1 (l++ [mkI 9 0]++r.2) (by simp only [List.length_append,List.length_cons,List.length_nil];omega);have e3:(l++ [mkI 9 0]++r.2++ [mkI 10 0]).length=l.length+1+r.2.length+1:=by simp only [List.length_append,List.length_cons,List.length_nil]
   obtain ⟨s1,s2⟩:=znl (l++ [mkI 9 0]++r.2++ [mkI 10 0]) l (r.2++ [mkI 10 0]) 9 0 (l++ [mkI 9 0]++r.2++ [mkI 10 0]).length (by simp) (l.length:Int) rfl;have b2:=z47 n (by omega) false c r.1 (l.length+1+r.2.length+1) (by omega) gc (by omega) (by omega);have p5:=h false c r.1 (l++mkI 9 ((l.length+1+r.2.length+1:Nat):Int)::(r.2++ [mkI 10 0])) (l.length+1+r.2.length+1) (by simp only [List.length_append,List.length_cons,List.length_nil];omega) (by omega) gc (by omega) (by omega) (by simp only [List.length_append,List.length_cons,List.length_nil];omega);unfold bodO;generalize hr2:bodC n false c r.1 (l.length+1+r.2.length+1)=r2 at*;have e5:(l++mkI 9 ((l.length+1+r.2.length+1:Nat):Int)::(r.2++ [mkI 10 0])++r2.2).length=l.length+1+r.2.length+1+r2.2.length:=by simp only [List.length_append,List.length_cons,List.length_nil];omega
   have e6:(l++mkI 9 ((l.length+1+r.2.length+1:Nat):Int)::(r.2++ [mkI 10 0])).length=l.length+1+r.2.length+1:=by simp only [List.length_append,List.length_cons,List.length_nil];omega
   obtain ⟨s3,s4⟩:=znl (l++mkI 9 ((l.length+1+r.2.length+1:Nat):Int)::(r.2++ [mkI 10 0])++r2.2) (l++mkI 9 ((l.length+1+r.2.length+1:Nat):Int)::r.2) r2.2 10 0 (l++mkI 9 ((l.length+1+r.2.length+1:Nat):Int)::(r.2++ [mkI 10 0])++r2.2).length (by simp) ((l++ [mkI 9 0]++r.2).length:Nat) (by simp only [List.length_append,List.length_cons,List.length_nil];omega)
   refine ⟨((l.length:Int),s,l++ [mkI 9 0]),p1,by rw [←el];exact k1,(r.1,l++ [mkI 9 0]++r.2),p2,(((l++ [mkI 9 0]++r.2).length:Nat),r.1,l++ [mkI 9 0]++r.2++ [mkI 10 0]),p3,⟨by show (0:Int)≤(l.length:Int);omega,by show (l.length:Int)<(((l++ [mkI 9 0]++r.2++ [mkI 10 0]).length:Nat):Int);rw [e3];omega⟩,s2,by rw [←el];exact k2,
    (r2.1,l++mkI 9 ((l.length+1+r.2.length+1:Nat):Int)::(r.2++ [mkI 10 0])++r2.2), ?_,⟨by show (0:Int)≤(((l++ [mkI 9 0]++r.2).length:Nat):Int);omega, ?_⟩,s4, .refl _, ?_⟩
   · show AC Tryz.prog 44 [ep2,aT c,cb false] [.arr 2 [[.a (.fz (.int .i64 r.1)), .a (.osl 1 8 0 (l++ [mkI 9 0]++r.2++ [mkI 10 0]).length)]], .arz 8 (List.set (FIs (l++ [mkI 9 0]++r.2++ [mkI 10 0])) (0+Int.toNat (l.length:Int)) (z2l (List.getD (FIs (l++ [mkI 9 0]++r.2++ [mkI 10 0])) (0+Int.toNat (l.length:Int)) []) 1 [.int .i64 ((l++ [mkI 9 0]++r.2++ [mkI 10 0]).length:Nat)]))] _ _;rw [s1,e3];have p5':=p5;unfold stI at p5';rw [e6] at p5';exact p5'
   · show (((l++ [mkI 9 0]++r.2).length:Nat):Int)<(((l++mkI 9 ((l.length+1+r.2.length+1:Nat):Int)::(r.2++ [mkI 10 0])++r2.2).length:Nat):Int);rw [e5];simp only [List.length_append,List.length_cons,List.length_nil];omega
   · show [AObj.arr 2 [[.a (.fz (.int .i64 r2.1)), .a (.osl 2 8 0 (l++mkI 9 ((l.length+1+r.2.length+1:Nat):Int)::(r.2++ [mkI 10 0])++r2.2).length)]], .gone, .arz 8 (List.set (FIs (l++mkI 9 ((l.length+1+r.2.length+1:Nat):Int)::(r.2++ [mkI 10 0])++r2.2)) (0+Int.toNat ((l++ [mkI 9 0]++r.2).length:Nat)) (z2l (List.getD (FIs (l++mkI 9 ((l.length+1+r.2.length+1:Nat):Int)::(r.2++ [mkI 10 0])++r2.2)) (0+Int.toNat ((l++ [mkI 9 0]++r.2).length:Nat)) []) 1 [.int .i64 ((l++mkI 9 ((l.length+1+r.2.length+1:Nat):Int)::(r.2++ [mkI 10 0])++r2.2).length:Nat)]))]=_;rw [s3,e5];have eq:l++mkI 9 ((l.length+1+r.2.length+1:Nat):Int)::r.2++mkI 10 ((l.length+1+r.2.length+1+r2.2.length:Nat):Int)::r2.2=l++(mkI 9 ((l.length+1+r.2.length+1:Nat):Int)::(r.2++mkI 10 ((l.length+1+r.2.length+1+r2.2.length:Nat):Int)::r2.2)):=by simp
     rw [eq];unfold stO;rw [show (l++(mkI 9 ((l.length+1+r.2.length+1:Nat):Int)::(r.2++mkI 10 ((l.length+1+r.2.length+1+r2.2.length:Nat):Int)::r2.2))).length=l.length+1+r.2.length+1+r2.2.length by simp only [List.length_append,List.length_cons];omega]
 · have e:(z00 t).1.s=nPi:=by simpa using q
   rw [if_neg (by simpa using q1),if_neg (by simpa using q2),if_neg (by simpa using q3),if_neg (by simpa using q4),if_neg (by simpa using q5),if_pos e];obtain ⟨a,el,ta,ga,hs⟩:=hg.one (by omega) (.inl e);obtain ⟨k1,k2⟩:=zcd el;rw [k2];have w2:=z5s s (z0g a);have g2:=(ga.suV (v:=s) (by omega) h0 (by omega)).le (m:=n*n+n) (by omega) (by omega) (by omega);have hbz:=z7b ta.1;have hz:=ta.2.1;have hbb:=zfi (by omega) ta.1 (z2d (M':=1000000000000) (by omega) _ ta.2.2);have q1':=zav a ta.1 (by simp only [B];omega) (z2d (by simp only [M61];omega) _ ta.2.2);have q2':=zmf (z0g a) (vN4 s) 0 (by show 1≤B;simp only [B];omega) (by show (z0g a).sz+nd (z0g a)*1≤B;have:=zqx (z0g a);simp only [B];omega) (z2d (by simp only [M61];omega) _ hbb) (z8f _ _) (by omega) (by simp only [M61];omega);have q3':=z50 11 s (s+1) l (by omega);have cc:=h false (suT 0 (vN4 s) (z0g a) 0) (s+1) (l++ [mkI 11 s]) (l.length+1) (by simp) (by omega) g2 (by omega) (by omega) (by rw [List.length_append];simp only [List.length_cons,List.length_nil];omega);have bb:=z47 n (by omega) false (suT 0 (vN4 s) (z0g a) 0) (s+1) (l.length+1) (by omega) g2 (by omega) (by omega);rw [el];refine ⟨(vN4 s,s+1,l),zv8 s l h0 (by omega),(_,_,_),q3',by rw [←el];exact k1,_,q1',_,q2',(_,_),cc,(_,_,_),z50 12 0 _ _ (by simp only [List.length_append,List.length_cons,List.length_nil];omega),z2a rfl ?_⟩;show _=l++(mkI 11 s::((bodC n false (suT 0 (vN4 s) (z0g a) 0) (s+1) (l.length+1)).2++ [mkI 12 0]));simp
 · have e:(z00 t).1.s=nSig:=by simpa using q
   rw [if_neg (by simpa using q1),if_neg (by simpa using q2),if_neg (by simpa using q3),if_neg (by simpa using q4),if_neg (by simpa using q5),if_neg (by simpa using q6),if_pos e];obtain ⟨a,el,ta,ga,hs⟩:=hg.one (by omega) (.inr e);obtain ⟨k1,k2⟩:=zcd el;rw [k2];have w2:=z5s s (z0g a);have g2:=(ga.suV (v:=s) (by omega) h0 (by omega)).le (m:=n*n+n) (by omega) (by omega) (by omega);have hbz:=z7b ta.1;have hz:=ta.2.1;have hbb:=zfi (by omega) ta.1 (z2d (M':=1000000000000) (by omega) _ ta.2.2);have q1':=zav a ta.1 (by simp only [B];omega) (z2d (by simp only [M61];omega) _ ta.2.2);have q2':=zmf (z0g a) (vN4 s) 0 (by show 1≤B;simp only [B];omega) (by show (z0g a).sz+nd (z0g a)*1≤B;have:=zqx (z0g a);simp only [B];omega) (z2d (by simp only [M61];omega) _ hbb) (z8f _ _) (by omega) (by simp only [M61];omega);have q3':=z50 13 s (s+1) l (by omega);have cc:=h last (suT 0 (vN4 s) (z0g a) 0) (s+1) (l++ [mkI 13 s]) (l.length+1) (by simp) (by omega) g2 (by omega) (by omega) (by rw [List.length_append];simp only [List.length_cons,List.length_nil];omega);rw [el];refine ⟨(vN4 s,s+1,l),zv8 s l h0 (by omega),(_,_,_),q3',by rw [←el];exact k1,_,q1',_,q2',(_,_),cc,z2a rfl ?_⟩;show _=l++(mkI 13 s::(bodC n last (suT 0 (vN4 s) (z0g a) 0) (s+1) (l.length+1)).2);simp
 · have e:(z00 t).1.s=nImp:=by simpa using q
   rw [if_neg (by simpa using q1),if_neg (by simpa using q2),if_neg (by simpa using q3),if_neg (by simpa using q4),if_neg (by simpa using q5),if_neg (by simpa using q6),if_neg (by simpa using q7),if_pos e];obtain ⟨a,c,el,ta,wa,hc,gc,hs,hk⟩:=zf9 hn hw hg0 e s h0 (by omega);obtain ⟨k1,k2,k3,k4⟩:=z58 el;rw [k3];have cP:=(zui n (by omega) a wa ta).2 hc;have hV:z1k n true a=(clsF false n true 0 [] a).2:=by unfold z1k;rw [if_pos hc]
   have hxs:=z3e false n true 0 [] a;rw [←hV] at cP hxs;have hk':∀ x∈z1k n true a,OKc n x s:=fun x hx=>(hk x (by rw [←hV];exact hx)).1;have ci:=l_zimp0 (by omega) h a c s l (z1k n true a) (by have:=ta.2.1;omega) hk' (by omega) gc h0 (by omega) (by omega);rw [el];exact ⟨by rw [←el];exact k1, .inr ⟨_,cP,ci⟩⟩
 · rw [if_neg (by simpa using q1),if_neg (by simpa using q2),if_neg (by simpa using q3),if_neg (by simpa using q4),if_neg (by simpa using q5),if_neg (by simpa using q6),if_neg (by simpa using q7),if_neg (by simpa using q8),if_pos (by simpa using q)];exact ⟨(_,_,_),c_zputL 5 0 (z00 t).2 s l (by omega),z2a rfl rfl⟩
 · rw [if_neg (by simpa using q1),if_neg (by simpa using q2),if_neg (by simpa using q3),if_neg (by simpa using q4),if_neg (by simpa using q5),if_neg (by simpa using q6),if_neg (by simpa using q7),if_neg (by simpa using q8),if_neg (by simpa using q9)]
   have num:numB (z00 t).1.s=true→∃ z:Int×Int×List In1,AC Tryz.prog 57 [ep2, .agg [.a (.fz (.int .i64 6)), .a (.fz (.int .i64 0)), .a (.fz (.int .i64 t.k)), .a (.fz (.str t.s)), .a (.fz (.int .i64 t.n)), .a (.fz (.sl false 4 (FTs t.l))), .a (.fz .N), .a (.fz .N)]] (stI s l) (ci z.1) (stO z.2.1 z.2.2)∧(TV.Le (.tup []) (.tup [])∧stO z.2.1 z.2.2=stO (if numB (z00 t).1.s=true then (s,[In1.mk 6 0 t [] []]) else (s,[.mk (if last=true then 3 else 2) 0 t [] []])).1 (l++(if numB (z00 t).1.s=true then (s,[In1.mk 6 0 t [] []]) else (s,[.mk (if last=true then 3 else 2) 0 t [] []])).2)):=fun q=>by
    rw [if_pos q];exact ⟨(_,_,_),zby 6 0 t s l (by omega),z2a rfl rfl⟩
   refine z02 (fun q=>num (by rw [z1s,q];rfl)) (fun r1=>z02 (fun q=>num (by rw [z1s,q];simp)) (fun r2=>z02 (fun q=>num (by rw [z1s,q];simp)) (fun r3=>z02 (fun q=>num (by rw [z1s,q];simp)) (fun r4=>z02 (fun q=>num (by rw [z1s,q];simp)) (fun r5=> ?_)))));have hno:numB (z00 t).1.s=false:=by rw [z1s,r1,r2,r3,r4,r5];rfl
   rw [if_neg (by rw [hno];simp)];refine z02 (fun q=> ?_) (fun q=> ?_)
   · rw [if_pos q];exact ⟨(_,_,_),zby 3 0 t s l (by omega),z2a rfl rfl⟩
   · rw [if_neg (by rw [q];simp)];exact ⟨(_,_,_),zby 2 0 t s l (by omega),z2a rfl rfl⟩
theorem zsu:∀ n:Nat,n≤10000→BdR n
 | 0,_=>fun last t s l p _ hw _ _ _ _=>by have:=z1n t;omega
 | n+1,hn=>zof hn (zsu n (by omega))
end Go.AM

set_option maxRecDepth 100000
open Go Go.Proofs
namespace Go.AM
def sI1 (x y:In1):Bool:=x.k==y.k&&(x.a==y.a&&(z3t x.t y.t&&(z3p x.l y.l&&sCds x.c y.c)))
theorem ztz (x y:In1)(r r':List In1):sIns (x::r) (y::r')=(sI1 x y&&sIns r r'):=by
 cases x;cases y;rw [sIns,sI1];simp only [In1.k,In1.a,In1.t,In1.l,In1.c,Bool.and_assoc]
theorem sIns_len {a b:List In1}(h:a.length≠b.length):sIns a b=false:=by
 cases q:sIns a b with
 | false=>rfl
 | true=>exact absurd (congrArg List.length ((zgb a b).1 q)) h
theorem sCds_len {a b:List Cd}(h:a.length≠b.length):sCds a b=false:=by
 cases q:sCds a b with
 | false=>rfl
 | true=>exact absurd (congrArg List.length ((zet a b).1 q)) h
theorem sCd_eq (a b:Cd):sCd a b=(a.nm==b.nm&&(a.ar==b.ar&&(a.fr==b.fr&&(a.vs==b.vs&&(a.sl==b.sl&&sIns a.ins b.ins))))):=by cases a;cases b;rw [sCd];rfl
theorem zcr (l m:List Tm)(hl0:l.length≤B):∀ (b a b' a':List Tm),l=a++b→m=a'++b'→a.length=a'.length→b.length=b'.length→(∀ t∈b,t.sz≤B)→RPt Tryz.prog 27 0 (cb (z3p b b')) [] 1 ⟨[(0,aL l),(1,aL m),(5,ci (a.length:Int))],[],0⟩
 | [],a,[],a',hl,hm,_,_,_=>by
  rw [List.append_nil] at hl;subst hl;refine RPt.vc hP sh lv27 (Eq.mpr (v27_1a ..) ?_);exact ⟨rfl,z02 (fun h=>absurd (of_decide_eq_true h) (by rw [z01];omega)) (fun _=>z04 rfl)⟩
 | t::b,a,t'::b',a',hl,hm,ha,hlen,hb=>by
  simp only [List.length_cons] at hlen;have next:=zcr l m hl0 b (a++ [t]) b' (a'++ [t']) (by rw [hl];simp) (by rw [hm];simp) (by simp [ha]) (by omega) (fun u hu=>hb u (List.mem_cons_of_mem _ hu));have h1:=zre t (hb t List.mem_cons_self) t';have h3:=ltI' a t b;have h4:=ltI' a' t' b';have em:=z1y a t b;have em':=z1y a' t' b';have ea:=z45 a t b;have ea':=z45 a' t' b';rw [←ha] at h4 em' ea';subst hl;subst hm;simp only [List.length_append,List.length_cons,B] at hl0;rw [show (((a++ [t]).length:Nat):Int)=(a.length:Int)+1 by simp] at next;refine RPt.vc hP sh lv27 (Eq.mpr (v27_1a ..) ?_);rw [ea,ea',w64 (x:=(a.length:Int)+1) (by omega) (by omega)];refine ⟨rfl,z02 (fun _=>⟨⟨rfl,by omega,h3,em⟩,⟨rfl,by omega,h4,em'⟩,_,h1,z02 (fun h=>z04 ?_) (fun h=> ?_)⟩) (fun h=>absurd h3 (of_decide_eq_false h))⟩
  · rw [z3p,show z3t t t'=false by simpa using h];rfl
  · rw [z3p,show z3t t t'=true by simpa using h];exact next
theorem zkp (l m:List Tm)(hl0:l.length≤B)(hb:∀ t∈l,t.sz≤B):AC Tryz.prog 27 [aL l,aL m] [] (cb (z3p l m)) []:=by
 refine AC.vc hP sh lv27 (Nat.le_refl _) (by simp) (by simp) (Eq.mpr (v27 ..) ?_);rw [z01,z01];refine ⟨rfl,rfl,z02 (fun h=>z04 (z8o (fun e=>by rw [e] at h;simp at h)).symm) (fun h=> ?_)⟩;have h':(l.length:Int)=m.length:=by simpa using h
 exact zcr l m hl0 l [] m [] rfl rfl rfl (by omega) hb
theorem zjf (a b:Cd)(x y:In1)(i:Int)(r:Bool)(h0:0≤i)(h1:i≤B):∀ (q p q' p':List Cd),x.c=p++q→y.c=p'++q'→p.length=p'.length→q.length=q'.length→x.c.length≤B→(∀ u∈q,∀ v:Cd,AC Tryz.prog 11 [aC u,aC v] [] (cb (sCd u v)) [])→
  (sCds q q'=false→r=false)→(sCds q q'=true→RPt Tryz.prog 11 0 (cb r) [] 1 ⟨[(2, .c (.a (.ep 0 6 0 0))),(3, .c (.a (.ep 1 6 0 0))),(5,ci (i+1))],[(0,obC a),(1,obC b)],2⟩)→
  RPt Tryz.prog 11 0 (cb r) [] 5 ⟨[(2, .c (.a (.ep 0 6 0 0))),(3, .c (.a (.ep 1 6 0 0))),(5,ci i),(6, .c (.a (.ep 2 8 0 0))),(7, .c (.a (.ep 3 8 0 0))),(10,ci p.length)],[(0,obC a),(1,obC b),(2, .arr 8 [cIn x]),(3, .arr 8 [cIn y])],4⟩
 | [],p,[],p',hx,hy,hp,hq,hB,ih,hF,hT=>by
  have hk:=hT (by rw [sCds]);simp only [B] at h1;refine RPt.vc hP sh lv11 (Eq.mpr (v11_5a ..) ?_);rw [w64 (x:=i+1) (by omega) (by omega)];refine ⟨rfl,z02 (fun h=>absurd (of_decide_eq_true h) ?_) (fun _=>hk)⟩;show¬(p.length:Int)<(((FCs x.c).length:Nat):Int);rw [z0l,hx];simp
 | u::q,p,v::q',p',hx,hy,hp,hq,hB,ih,hF,hT=>by
  simp only [List.length_cons] at hq;simp only [B] at hB;have hlp:p.length<x.c.length:=by rw [hx];simp
  have hlp':p.length<y.c.length:=by rw [hy,hp];simp
  have hc:=ih u List.mem_cons_self v;have e1:List.getD (FV.ses (.sl false 6 (FCs x.c))) (Int.toNat (p.length:Int)) []=FC u:=by rw [hx];exact zm1 p u q
  have e2:List.getD (FV.ses (.sl false 6 (FCs y.c))) (Int.toNat (p.length:Int)) []=FC v:=by rw [hy,hp];exact zm1 p' v q'
  have es:sCds (u::q) (v::q')=(sCd u v&&sCds q q'):=by rw [sCds]
  rw [es] at hF hT;refine RPt.vc hP sh lv11 (Eq.mpr (v11_5a ..) ?_);rw [e1,e2,w64 (x:=(p.length:Int)+1) (by omega) (by omega)]
  refine ⟨rfl,z02 (fun _=>⟨el6 x.c p.length (by omega) (by omega) u,el6 y.c p.length (by omega) (by omega) v,_,by
   show AC Tryz.prog 11 [aCr (FC u),aCr (FC v)] [] _ [];rw [zj2 u,zj2 v];exact hc,z02 (fun h=>z04 (hF (by rw [show sCd u v=false by simpa using h];rfl)).symm) (fun h=> ?_)⟩) (fun h=>absurd (of_decide_eq_false h) ?_)⟩
  · have hs:sCd u v=true:=by simpa using h
    rw [hs,Bool.true_and] at hF hT;have next:=zjf a b x y i r h0 h1 q (p++ [u]) q' (p'++ [v]) (by rw [hx];simp) (by rw [hy];simp) (by simp [hp]) (by omega) (by simp only [B];omega) (fun w hw=>ih w (List.mem_cons_of_mem _ hw)) hF hT;rw [nx] at next;exact next
  · show¬¬(p.length:Int)<(((FCs x.c).length:Nat):Int);rw [z0l];omega
theorem zhb (a b:Cd)(hB:zC a):∀ (q p q' p':List In1),a.ins=p++q→b.ins=p'++q'→p.length=p'.length→q.length=q'.length→(∀ x∈q,∀ u∈x.c,∀ v:Cd,AC Tryz.prog 11 [aC u,aC v] [] (cb (sCd u v)) [])→
  RPt Tryz.prog 11 0 (cb (sIns q q')) [] 1 ⟨[(2, .c (.a (.ep 0 6 0 0))),(3, .c (.a (.ep 1 6 0 0))),(5,ci p.length)],[(0,obC a),(1,obC b)],2⟩
 | [],p,[],p',hx,hy,hp,hq,ih=>by
  refine RPt.vc hP sh lv11 (Eq.mpr (v11_1a ..) ?_);refine ⟨rfl,z02 (fun h=>absurd (of_decide_eq_true h) ?_) (fun _=>z04 (by rw [sIns]))⟩;rw [z06,hx];simp
 | x::q,p,y::q',p',hx,hy,hp,hq,ih=>by
  simp only [List.length_cons] at hq;have hxm:x∈a.ins:=by rw [hx];simp
  have z2:=(z69 hB).2.1;have z4:=z7f (z69 hB).2.2 hxm;have z5:=Tm.sz_bk x.t;have z6:=Tm.szs_bks x.l;have z7:=Tm.szs_length x.l;have z8:=z4.2.2.1;have hla:p.length<a.ins.length:=by rw [hx];simp
  have hlb:p.length<b.ins.length:=by rw [hy,hp];simp
  have e1:List.getD (FIs a.ins) (Int.toNat (p.length:Int)) []=FI x:=by rw [hx];exact z67 p x q
  have e2:List.getD (FIs b.ins) (Int.toNat (p.length:Int)) []=FI y:=by rw [hy,hp];exact z67 p' y q'
  have h1:=zre x.t (by omega) y.t;have h2:=zkp x.l y.l (by omega) (fun u hu=>by have:=Tm.szs_mem hu;omega);have next:=zhb a b hB q (p++ [x]) q' (p'++ [y]) (by rw [hx];simp) (by rw [hy];simp) (by simp [hp]) (by omega) (fun z hz=>ih z (List.mem_cons_of_mem _ hz));rw [nx] at next;refine RPt.vc hP sh lv11 (Eq.mpr (v11_1a ..) ?_);rw [e1,e2];simp only [FI0,FI1,FI2,FI3,FI4,FI5,FI6,FI7];rw [ztz];refine ⟨rfl,z02 (fun _=>⟨el8 a.ins p.length (by omega) (by omega) x,el8 b.ins p.length (by omega) (by omega) y,_,h1,_,h2,z02 (fun q1=>⟨z4g ?_,by trivial⟩) (fun q1=>z02 (fun q2=>⟨z4g ?_,by trivial⟩) (fun q2=>z02 (fun q3=>⟨z4g ?_,by trivial⟩) (fun q3=>z02 (fun q4=>⟨z4g ?_,by trivial⟩) (fun q4=>⟨rfl,rfl,z02 (fun q5=>⟨z4g ?_,by trivial⟩) (fun q5=> ?_)⟩))))⟩) (fun h=>absurd (of_decide_eq_false h) (by rw [z06];omega))⟩
  · have:(x.k==y.k)=false:=by simpa using q1
    rw [sI1,this];rfl
  · have:(x.a==y.a)=false:=by simpa using q2
    rw [sI1,this,Bool.false_and,Bool.and_false,Bool.false_and]
  · have:z3t x.t y.t=false:=by simpa using q3
    rw [sI1,this,Bool.false_and,Bool.and_false,Bool.and_false,Bool.false_and]
  · have:z3p x.l y.l=false:=by simpa using q4
    rw [sI1,this,Bool.false_and,Bool.and_false,Bool.and_false,Bool.and_false,Bool.false_and]
  · have:¬x.c.length=y.c.length:=fun e=>by
     have q5:((((FCs x.c).length:Nat):Int) !=(((FCs y.c).length:Nat):Int))=true:=q5;rw [z0l,z0l,e] at q5;simp at q5
    rw [sI1,sCds_len this,Bool.and_false,Bool.and_false,Bool.and_false,Bool.and_false,Bool.false_and]
  · have hlen:x.c.length=y.c.length:=by
     have q5:((((FCs x.c).length:Nat):Int) !=(((FCs y.c).length:Nat):Int))=false:=q5;rw [z0l,z0l] at q5;have:(x.c.length:Int)=y.c.length:=by simpa using q5
     omega
    have k1:(x.k==y.k)=true:=by simpa using q1
    have k2:(x.a==y.a)=true:=by simpa using q2
    have k3:z3t x.t y.t=true:=by simpa using q3
    have k4:z3p x.l y.l=true:=by simpa using q4
    have e5:sI1 x y=sCds x.c y.c:=by rw [sI1,k1,k2,k3,k4];rfl
    rw [e5];exact zjf a b x y p.length _ (by omega) (by omega) x.c [] y.c [] (by simp) (by simp) rfl hlen (by omega) (ih x List.mem_cons_self) (fun h=>by rw [h];rfl) (fun h=>by rw [h,Bool.true_and];exact next)
theorem zus:∀ a:Cd,zC a→∀ b:Cd,AC Tryz.prog 11 [aC a,aC b] [] (cb (sCd a b)) []:=by
 refine Cd.ind fun a ih hz b=> ?_;have z3:=z69 hz;have h:a.ins.length=b.ins.length→_:=fun hl=>zhb a b hz a.ins [] b.ins [] rfl rfl rfl hl (fun x hx d hd e=>ih x hx d hd (zfz (z7f z3.2.2 hx).2.2.2 hd) e);rw [sCd_eq];refine AC.vc hP sh lv11 (Nat.le_refl _) (by simp) (by simp) (Eq.mpr (v11 ..) ?_);rw [z06,z06];have bn:∀ {x y:Int},(x !=y)=true→(x==y)=false:=fun h=>by simpa using h
 have by_:∀ {x y:Int},(x !=y)=false→(x==y)=true:=fun h=>by simpa using h
 refine z02 (fun q1=>z04 (by rw [show (a.nm==b.nm)=false by simpa using q1];rfl)) (fun q1=> ?_);rw [show (a.nm==b.nm)=true by simpa using q1,Bool.true_and];refine z02 (fun q=>z04 (by rw [bn q];rfl)) (fun q=> ?_);rw [by_ q,Bool.true_and];refine z02 (fun q=>z04 (by rw [bn q];rfl)) (fun q=> ?_);rw [by_ q,Bool.true_and];refine z02 (fun q=>z04 (by rw [bn q];rfl)) (fun q=> ?_);rw [by_ q,Bool.true_and];refine z02 (fun q=>z04 (by rw [bn q];rfl)) (fun q=> ?_);rw [by_ q,Bool.true_and];refine ⟨rfl,rfl,z02 (fun q=>z04 ?_) (fun q=> ?_)⟩
 · have:¬a.ins.length=b.ins.length:=fun e=>by rw [e] at q;simp at q
   exact (sIns_len this).symm
 · have:(a.ins.length:Int)=b.ins.length:=by simpa using q
   exact h (by omega)
end Go.AM

set_option maxRecDepth 100000
open Go Go.Proofs
namespace Go.AM
abbrev bb:Int→List UInt8→Nat:=fun _ s=>1+s.length
theorem zm {t a c:Tm}(h:(z00 t).2=[a,c]):∃ s,1+s+(z00 t).1.bk+a.bk+c.bk≤t.bk:=by
 obtain ⟨s,n,x,y,r,rfl,e,_⟩:=z5m (t:=t) (by rw [h];simp);rw [e] at h ⊢;injection h with h1 h2
 subst h1;subst h2;exact ⟨s.length,by simp only [Tm.bk,Tm.bks];omega⟩
theorem zv4 {t a:Tm}(h:(z00 t).2=[a]):1+(z00 t).1.bk+a.bk≤t.bk:=by
 obtain ⟨s,n,x,y,r,rfl,e,_⟩:=z5m (t:=t) (by rw [h];simp);rw [e] at h ⊢;injection h with h1 h2
 subst h1;subst h2;simp only [Tm.bk,Tm.bks];omega
theorem z7d (t:Tm):1+t.s.length≤t.bk:=by cases t;simp only [Tm.bk,Tm.s];omega
theorem zks {t:Tm}(hv:z05 t=true):(z0g t).bk≤t.bk+2:=by
 have:=zk2 (b:=bb) (fun _=>by show 1+0≤1+_;omega) t hv;rw [zg,zg] at this;exact Nat.le_trans this (by show 1+0+t.bk+(1+0)≤_;omega)
theorem suV_bk (v:Int)(t:Tm):(suT 0 (vN4 v) t 0).bk≤t.bk:=by
 have:=zs0 (b:=bb) (fun _=>by show 1+0≤1+_;omega) 0 v t 0;rw [zg,zg] at this;exact this
theorem op_bk (vs:List Int)(t:Tm):(z0r vs t).bk≤t.bk:=by
 have:=zba (b:=bb) (z09 vs) (fun u d _ h6=>z48 vs u d h6) (fun u d h5 h6=>by
  unfold z09;split
  · split
    · rw [zd7 u];show 1+0+0≤1+_+_;omega
    · rw [zd7 u];show 1+0+0≤1+_+_;omega
  · exact Nat.le_refl _) t 0
 rw [zg,zg] at this;exact this
theorem zm2 (t:Tm):(z00 t).1.bk≤t.bk∧Tm.bks (z00 t).2≤t.bk:=by
 unfold z00;split
 · rename_i h;obtain ⟨k,s,n,l⟩:=t;have h6:k=6:=h.1;subst h6;obtain ⟨x,y,r,rfl,_,_⟩:=okB6 (z0e _ h.2) rfl;simp only [hd,Tm.l,List.headD_cons,List.drop_succ_cons,List.drop_zero,Tm.bk,Tm.bks];omega
 · exact ⟨Nat.le_refl _,Nat.zero_le _⟩
theorem gmb_map:∀ L:List Tm,gms bb (L.map fun g=>shT 0 1 g 0)≤gms bb L:=zf8 bb
theorem zch (any:Bool):∀ (n:Nat),n≤1000000000→∀ (vs:Int) (L:List Tm) (t:Tm),TG n t→(clsF false n any vs L t).1=0→
  ∀ c∈(clsF false n any vs L t).2,c.2.1.bk≤t.bk∧∃ L',c.2.2=z3a L'∧gms bb L'≤gms bb L+t.bk
 | 0,_,_,_,_,_,_,c,hc=>by cases hc
 | n+1,hn,vs,L,t,ht,h,c,hc=>by
  rw [clsF] at h hc;by_cases he:(z03 t 131).2.2≠0
  · rw [if_pos he] at h;exact absurd h he
  rw [if_neg he] at h hc;have he:(z03 t 131).2.2=0:=Classical.byContradiction he;by_cases hnm:(z03 t 131).1=[]
  · rw [if_pos hnm] at h hc;split at h
    · cases h
    · rename_i hp;rw [if_neg hp] at hc;have hc:c=(vs,t,z3a L):=by simpa using hc
      subst hc;exact ⟨Nat.le_refl _,L,rfl,by omega⟩
  rw [if_neg hnm] at h hc
  have hnl:1+(z03 t 131).1.length≤(z00 t).1.bk:=by
   obtain ⟨_,⟨q,_⟩ | ⟨q,_⟩⟩:=z6q (by omega) he
   · exact absurd q hnm
   · rw [q];exact z7d _
  have two:∀ (hh:(z03 t 131).1=nAnd∨(z03 t 131).1=nOr∨(z03 t 131).1=nImp∨(z03 t 131).1=nIf),∃ a c,(z03 t 131).2.1=[a,c]∧TG n a∧TG n c∧2+(z03 t 131).1.length+a.bk+c.bk≤t.bk:=fun hh=>by
   obtain ⟨a,c,q,q2,q0⟩:=z0m (by omega) he hh;obtain ⟨s,hs⟩:=zm q2;exact ⟨a,c,q,ht.arg (by rw [q2];simp),ht.arg (by rw [q2];simp),by omega⟩
  by_cases hand:(z03 t 131).1=nAnd
  · rw [if_pos hand] at h hc;obtain ⟨a,d,q,ta,td,hs⟩:=two (.inl hand);rw [q] at h hc;by_cases z:(clsF false n any vs L (at0 [a,d])).1≠0
    · rw [if_pos z] at h;exact absurd h z
    · rw [if_neg z] at h hc;rcases List.mem_append.1 hc with hc | hc
      · obtain ⟨r1,L',r2,r3⟩:=zch any n (by omega) vs L a ta (Classical.byContradiction z) c hc;exact ⟨by omega,L',r2,by omega⟩
      · obtain ⟨r1,L',r2,r3⟩:=zch any n (by omega) vs L d td h c hc;exact ⟨by omega,L',r2,by omega⟩
  rw [if_neg hand] at h hc;by_cases hpi:(z03 t 131).1=nPi
  · rw [if_pos hpi] at h hc;obtain ⟨a,q,q2,q0⟩:=z1q (by omega) he (.inl hpi);have ma:a∈(z00 t).2:=by rw [q2];simp
    have hs:=zv4 q2;have hb:=zks (z0c ma);have hlen:(z03 t 131).1.length=2:=by rw [hpi];rfl
    rw [q] at h hc;obtain ⟨r1,L',r2,r3⟩:=zch any n (by omega) (vs+1) (L.map fun g=>shT 0 1 g 0) (z0g a) (ht.body (by omega) ma) h c hc;have:=gmb_map L;exact ⟨by omega,L',r2,by omega⟩
  rw [if_neg hpi] at h hc
  have more:∀ g d:Tm,TG n d→4+g.bk+d.bk≤t.bk→(clsF false n any vs (L++ [g]) d).1=0→c∈(clsF false n any vs (L++ [g]) d).2→c.2.1.bk≤t.bk∧∃ L',c.2.2=z3a L'∧gms bb L'≤gms bb L+t.bk:=fun g d td hs hd hx=>by
   obtain ⟨r1,L',r2,r3⟩:=zch any n (by omega) vs (L++ [g]) d td hd c hx;rw [z6m,gms,gms,zg] at r3;have e:bb 6 []+bb 0 nAnd=3:=rfl;exact ⟨by omega,L',r2,by omega⟩
  by_cases himp:(z03 t 131).1=nImp
  · rw [if_pos himp] at h hc;obtain ⟨a,d,q,ta,td,hs⟩:=two (.inr (.inr (.inl himp)));have hlen:(z03 t 131).1.length=2:=by rw [himp];rfl
    rw [q] at h hc;by_cases z:z07 false n (at0 [a,d])≠0
    · rw [if_pos z] at h;exact absurd h z
    · rw [if_neg z] at h hc;exact more a d td (by omega) h hc
  rw [if_neg himp] at h hc;by_cases hif:(z03 t 131).1=nIf
  · rw [if_pos hif] at h hc;obtain ⟨a,d,q,ta,td,hs⟩:=two (.inr (.inr (.inr hif)));have hlen:(z03 t 131).1.length=2:=by rw [hif];rfl
    rw [q] at h hc;by_cases z:z07 false n (at1 [a,d])≠0
    · rw [if_pos z] at h;exact absurd h z
    · rw [if_neg z] at h hc;exact more d a ta (by omega) h hc
  rw [if_neg hif] at h;cases h
theorem fold_bk (L:List Tm){W:Nat}(h5:5≤W)(h:gms bb L≤W):(z3a L).bk≤W:=by
 cases L with
 | nil=>exact h5
 | cons x L=>have:=zkr bb (x::L) (by simp);rw [zg] at this;omega
def PI (x:In1):Prop:=(x.t.bk≤B∧Tm.bks x.l≤B∧x.c.length≤B∧zCs x.c)∧bd 2305843009213693952 x.t∧(∀ u∈x.l,bd 2305843009213693952 u)∧nbCs x.c
theorem bd_no (M:Int):bd M noT0:=⟨fun e=>absurd e (by show¬(0:Int)=3;omega),trivial⟩
theorem PI.plain (k a:Int):PI (mkI k a):=⟨⟨by show 1≤B;simp only [B];omega,by show 0≤B;omega,by show 0≤B;omega,by show zCs [];rw [zCs];trivial⟩,bd_no _,(fun u hu=>nomatch hu),by show nbCs [];rw [nbCs];trivial⟩
theorem PI.term (k a:Int){t:Tm}(h:t.bk≤B)(hb:bd 2305843009213693952 t):PI (.mk k a t [] []):=⟨⟨h,by show 0≤B;omega,by show 0≤B;omega,by show zCs [];rw [zCs];trivial⟩,hb,(fun u hu=>nomatch hu),by show nbCs [];rw [nbCs];trivial⟩
theorem PI.row (k a:Int){l:List Tm}(h:Tm.bks l≤B)(hb:∀ u∈l,bd 2305843009213693952 u):PI (.mk k a noT0 l []):=⟨⟨by show 1≤B;simp only [B];omega,h,by show 0≤B;omega,by show zCs [];rw [zCs];trivial⟩,bd_no _,hb,by show nbCs [];rw [nbCs];trivial⟩
theorem zk5:∀ {l:List In1},(∀ x∈l,PI x)→nbIs l
 | [],_=>by rw [nbIs];trivial
 | .mk k a t q c::r,h=>by rw [nbIs];exact ⟨(h _ (List.mem_cons_self ..)).2,zk5 fun x hx=>h x (List.mem_cons_of_mem _ hx)⟩
theorem zsc:∀ {l:List Cd},(∀ d∈l,nbC d)→nbCs l
 | [],_=>by rw [nbCs];trivial
 | c::r,h=>by rw [nbCs];exact ⟨h _ (List.mem_cons_self ..),zsc fun x hx=>h x (List.mem_cons_of_mem _ hx)⟩
theorem znn {M:Int}{t:Tm}(h:bd M t):∀ u∈(z00 t).2,bd M u:=fun u hu=>by
 obtain ⟨s,n,x,y,r,rfl,e,_⟩:=z5m (t:=t) (fun e=>by rw [e] at hu;cases hu);rw [e] at hu;exact z2r (bd_l h) (List.mem_cons_of_mem _ hu)
theorem zls:∀ (l:List Tm) (i:Nat) (x:In1),x∈argI i l→∃ k a t,x= .mk k a t [] []∧t∈l
 | [],_,x,h=>by cases h
 | t::l,i,x,h=>by
  rw [argI] at h;rcases List.mem_cons.1 h with rfl | h
  · exact ⟨_,_,t,rfl,by simp⟩
  · obtain ⟨k,a,u,e,hu⟩:=zls l (i+1) x h;exact ⟨k,a,u,e,List.mem_cons_of_mem _ hu⟩
theorem zmi {l:List In1}{x:In1}(h:x∈finI l):x∈l∨x=mkI 4 0:=by
 unfold finI at h;split at h
 · exact .inl h
 · rcases List.mem_append.1 h with h | h
   · exact .inl h
   · exact .inr (by simpa using h)
theorem zn4 (l:List In1):(finI l).length≤l.length+1:=by
 unfold finI;split
 · omega
 · rw [List.length_append];simp
theorem zql {nm:List UInt8}{ar fr vs sl:Int}{l:List In1}(hn:nm.length≤B)(hl:l.length≤B)(h:∀ x∈l,PI x):zC (.mk nm ar fr vs sl l)∧nbC (.mk nm ar fr vs sl l):=by
 rw [zC,nbC];exact ⟨⟨hn,hl,zrp fun x hx=>(h x hx).1⟩,zk5 h⟩
theorem comp_z {n:Nat}(hn:n≤10000){c:Cl}{fr:Int}(hk:OKc n c fr)(h1:c.2.1.bk≤1000000000)(hb:∀ x∈(bodC n true (z0r (z0b c.1.toNat fr) c.2.2) (fr+c.1) (z00 (z0r (z0b c.1.toNat fr) c.2.1)).2.length).2,PI x):
  zC (z1a (bodC n) c fr)∧nbC (z1a (bodC n) c fr):=by
 obtain ⟨⟨v0,v1⟩,⟨f0,f1⟩,hT,hG,hw⟩:=hk;have hsq:=sq_b hn;have hR:VR (z0b c.1.toNat fr):=z8g f0 (by omega) (by omega);obtain ⟨t1,_⟩:=TG.open (by omega) _ hR.2 _ hT;obtain ⟨g1,w1⟩:=GG.open (by omega) hR.2 hG;have hs:=zm2 (z0r (z0b c.1.toNat fr) c.2.1);have ho:=op_bk (z0b c.1.toNat fr) c.2.1;have hnm:=z7d (z00 (z0r (z0b c.1.toNat fr) c.2.1)).1;have hsl:=(z4r (z0r (z0b c.1.toNat fr) c.2.1)).2.2;have hz:=t1.2.1;have bb:=z47 n hn true (z0r (z0b c.1.toNat fr) c.2.2) (fr+c.1) (z00 (z0r (z0b c.1.toNat fr) c.2.1)).2.length (by omega) g1 (by omega) (by omega);have hfl:=zn4 (argI 0 (z00 (z0r (z0b c.1.toNat fr) c.2.1)).2++(bodC n true (z0r (z0b c.1.toNat fr) c.2.2) (fr+c.1) (z00 (z0r (z0b c.1.toNat fr) c.2.1)).2.length).2);rw [List.length_append,z4p] at hfl;refine zql (by simp only [B];omega) (by simp only [B];omega) (fun x hx=> ?_);rcases zmi hx with hx | rfl
 · rcases List.mem_append.1 hx with hx | hx
   · obtain ⟨k,a,t,rfl,ht⟩:=zls _ _ _ hx;have:=Tm.bks_mem ht;exact PI.term _ _ (by simp only [B];omega) (znn (z2d (by omega) _ t1.2.2) t ht)
   · exact hb x hx
 · exact PI.plain _ _
theorem zd8:∀ (n:Nat),n≤10000→∀ (last:Bool) (t:Tm) (s:Int) (p:Nat),wt t≤n→GG (n*n+n) t→t.bk≤1000000000→0≤s→s+wt t+(n*n:Nat)≤1000000000→∀ x∈(bodC n last t s p).2,PI x
 | 0,_,_,t,_,_,h,_,_,_,_=>by have:=z1n t;omega
 | n+1,hn,last,t,s,p,hw,h,hk,h0,h1=>by
  have hsq:=sq_b (n:=n) (by omega);have hmul:(n+1)*(n+1)=n*n+2*n+1:=by rw [Nat.mul_add,Nat.add_mul];omega
  have hp:=z1n t;have hg0:=h;rw [sq_s] at h;have hbt:bd 2305843009213693952 t:=z2d (by omega) _ h.1.2.2;rw [bodC];by_cases c1:(z00 t).1.s=zkk
  · rw [if_pos c1];intro x hx;cases hx
  rw [if_neg c1];by_cases c2:(z00 t).1.s=nFail
  · rw [if_pos c2];intro x hx;rw [show x=mkI 8 0 by simpa using hx];exact PI.plain _ _
  rw [if_neg c2];by_cases c3:(z00 t).1.s=nCut
  · rw [if_pos c3];intro x hx;rw [show x=mkI 7 0 by simpa using hx];exact PI.plain _ _
  rw [if_neg c3];by_cases c4:(z00 t).1.s=nAnd
  · rw [if_pos c4];obtain ⟨a,c,e,ga,gc,hs⟩:=h.two (.inl c4);obtain ⟨_,hb2⟩:=zm e;have ga:=ga.le (m:=n*n+n) (by omega) (by omega) (by omega);have gc:=gc.le (m:=n*n+n) (by omega) (by omega) (by omega);rw [e];have b1:=z47 n (by omega) false a s p (by omega) ga h0 (by omega);intro x hx;rcases List.mem_append.1 (show x∈(bodC n false a s p).2++(bodC n last c (bodC n false a s p).1 (p+(bodC n false a s p).2.length)).2 from hx) with hx | hx
    · exact zd8 n (by omega) false a s p (by omega) ga (by omega) h0 (by omega) x hx
    · exact zd8 n (by omega) last c _ _ (by omega) gc (by omega) (by omega) (by omega) x hx
  rw [if_neg c4];by_cases c5:(z00 t).1.s=nOr
  · rw [if_pos c5];obtain ⟨a,c,e,ga,gc,hs⟩:=h.two (.inr c5);obtain ⟨_,hb2⟩:=zm e;have ga:=ga.le (m:=n*n+n) (by omega) (by omega) (by omega);have gc:=gc.le (m:=n*n+n) (by omega) (by omega) (by omega);rw [e,show at0 [a,c]=a from rfl,show at1 [a,c]=c from rfl];have b1:=z47 n (by omega) false a s (p+1) (by omega) ga h0 (by omega);have i1:=zd8 n (by omega) false a s (p+1) (by omega) ga (by omega) h0 (by omega);generalize bodC n false a s (p+1)=r at*;have i2:=zd8 n (by omega) false c r.1 (p+1+r.2.length+1) (by omega) gc (by omega) (by omega) (by omega);intro x hx;unfold bodO at hx;rcases List.mem_cons.1 hx with rfl | hx
    · exact PI.plain _ _
    rcases List.mem_append.1 hx with hx | hx
    · exact i1 x hx
    rcases List.mem_cons.1 hx with rfl | hx
    · exact PI.plain _ _
    · exact i2 x hx
  rw [if_neg c5];by_cases c6:(z00 t).1.s=nPi
  · rw [if_pos c6];obtain ⟨a,e,ta,ga,hs⟩:=h.one (by omega) (.inl c6);rw [e,show at0 [a]=a from rfl];have hb2:=zv4 e;have hb3:=zks ta.1;have hb4:=suV_bk s (z0g a);have hb5:=z7d (z00 t).1;rw [c6] at hb5;have hb5:3≤(z00 t).1.bk:=hb5;have w2:=z5s s (z0g a);have g2:=(ga.suV (v:=s) (by omega) h0 (by omega)).le (m:=n*n+n) (by omega) (by omega) (by omega);have i1:=zd8 n (by omega) false (suT 0 (vN4 s) (z0g a) 0) (s+1) (p+1) (by omega) g2 (by omega) (by omega) (by omega);intro x hx;unfold bodP at hx;rcases List.mem_cons.1 hx with rfl | hx
    · exact PI.plain _ _
    rcases List.mem_append.1 hx with hx | hx
    · exact i1 x hx
    · rw [show x=mkI 12 0 by simpa using hx];exact PI.plain _ _
  rw [if_neg c6];by_cases c7:(z00 t).1.s=nSig
  · rw [if_pos c7];obtain ⟨a,e,ta,ga,hs⟩:=h.one (by omega) (.inr c7);rw [e,show at0 [a]=a from rfl];have hb2:=zv4 e;have hb3:=zks ta.1;have hb4:=suV_bk s (z0g a);have hb5:=z7d (z00 t).1;rw [c7] at hb5;have hb5:6≤(z00 t).1.bk:=hb5;have w2:=z5s s (z0g a);have g2:=(ga.suV (v:=s) (by omega) h0 (by omega)).le (m:=n*n+n) (by omega) (by omega) (by omega);have i1:=zd8 n (by omega) last (suT 0 (vN4 s) (z0g a) 0) (s+1) (p+1) (by omega) g2 (by omega) (by omega) (by omega);intro x hx;unfold bodS at hx;rcases List.mem_cons.1 hx with rfl | hx
    · exact PI.plain _ _
    · exact i1 x hx
  rw [if_neg c7];by_cases c8:(z00 t).1.s=nImp
  · rw [if_pos c8];obtain ⟨a,c,e,ta,wa,hc,gc,hs,hkk⟩:=zf9 hn hw hg0 c8 s h0 (by omega);rw [e,show at0 [a,c]=a from rfl,show at1 [a,c]=c from rfl];obtain ⟨_,hb2⟩:=zm e;have hb5:=z7d (z00 t).1;rw [c8] at hb5;have hb5:3≤(z00 t).1.bk:=hb5;have hb6:=z7d a;have hb7:=z7d c;have i1:=zd8 n (by omega) false c s (p+1) (by omega) gc (by omega) h0 (by omega);have hV:z1k n true a=(clsF false n true 0 [] a).2:=by unfold z1k;rw [if_pos hc]
    have hcs:∀ d∈(z1k n true a).map (fun c=>z1a (bodC n) c s),zC d∧nbC d:=fun d hd=>by
     obtain ⟨x,hx,rfl⟩:=List.mem_map.1 hd;rw [hV] at hx;obtain ⟨o1,o2,o3⟩:=hkk x hx;obtain ⟨r1,L',r2,r3⟩:=zch true n (by omega) 0 [] a ta hc x hx;rw [gms] at r3;obtain ⟨⟨v0,v1⟩,⟨f0,f1⟩,hT,hG,hw2⟩:=o1;have hR:VR (z0b x.1.toNat s):=z8g f0 (by omega) (by omega);obtain ⟨g1,w1⟩:=GG.open (by omega) hR.2 hG;have ob:=op_bk (z0b x.1.toNat s) x.2.2;have hf:x.2.2.bk≤1000000000:=by rw [r2];exact fold_bk L' (by omega) (by omega)
     exact comp_z (by omega) ⟨⟨v0,v1⟩,⟨f0,f1⟩,hT,hG,hw2⟩ (by omega) (zd8 n (by omega) true _ _ _ (by omega) g1 (by omega) (by omega) (by omega))
    have hlen:=z3e false n true 0 [] a;have hz:=ta.2.1;intro x hx;unfold bodI at hx;rcases List.mem_cons.1 hx with rfl | hx
    · exact ⟨⟨by show 1≤B;simp only [B];omega,by show 0≤B;omega,by show ((z1k n true a).map (fun c=>z1a (bodC n) c s)).length≤B;rw [List.length_map,hV];simp only [B];omega,zr2 fun d hd=>(hcs d hd).1⟩,bd_no _,(fun u hu=>nomatch hu),zsc fun d hd=>(hcs d hd).2⟩
    rcases List.mem_append.1 hx with hx | hx
    · exact i1 x hx
    · rw [show x=mkI 15 0 by simpa using hx];exact PI.plain _ _
  rw [if_neg c8];have hs:=zm2 t;by_cases c9:(z00 t).1.s=nEq
  · rw [if_pos c9];intro x hx;rw [show x= .mk 5 0 noT0 (z00 t).2 [] by simpa using hx];exact PI.row _ _ (by simp only [B];omega) (znn hbt)
  rw [if_neg c9];by_cases c10:numB (z00 t).1.s=true
  · rw [if_pos c10];intro x hx;rw [show x= .mk 6 0 t [] [] by simpa using hx];exact PI.term _ _ (by simp only [B];omega) hbt
  rw [if_neg c10];intro x hx;rw [show x= .mk (if last=true then 3 else 2) 0 t [] [] by simpa using hx];exact PI.term _ _ (by simp only [B];omega) hbt
end Go.AM

set_option maxRecDepth 100000
open Go Go.Proofs
namespace Go.AM
abbrev N0:Nat:=2000
abbrev cd0:Cd:= .mk [] 0 0 0 0 []
abbrev aCE (x:Cd×Int):TV:= .tup [(true,cCd x.1),(false,[.a (.fz (.int .i64 x.2))])]
def z6z (ok:Bool)(c:Cd):Cd×Int:=bif ok&&vC c then (c,0) else (cd0,240)
def zg8 (c:Cl):Cd×Int:=z6z (z39 N0 [c] zbi 0) (compC N0 c)
def zdk (g:Tm)(vars:Int):Cd×Int:=z6z (z39 N0 [] g vars) (zp9 N0 g vars)
def TS (t:Tm):Prop:=t.bk≤100000000∧wt t≤N0∧bd 1000000 t
theorem TS.tb {t:Tm}(h:TS t):TB N0 t:=⟨by have:=h.1;simp only [B];omega,by have:=h.2.1;have:=zck t;simp only [N0] at*;omega,z2d (by simp only [N0];omega) _ h.2.2,h.2.1⟩
theorem TS.tg {t:Tm}(h:TS t)(hv:z05 t=true)(M:Nat)(hM:M≤1000000000):TG M t:=⟨hv,h.tb.2.1,z2d (by omega) _ h.2.2⟩
theorem TS.gg {t:Tm}(h:TS t)(hv:z05 t=true)(hg:z07 false N0 t=0):GG (N0*N0+N0) t:=
 ⟨h.tg hv _ (by decide),by have:=h.2.1;simp only [N0] at*;omega,by rw [zk false (m:=N0) h.2.1 _ (by decide) (by decide) (h.tg hv _ (by decide))];exact hg⟩
theorem ts_true:TS zbi:=⟨by show 5≤_;omega,by show 4≤2000;omega,⟨fun e=>absurd e (by show¬(0:Int)=3;omega),trivial⟩⟩
theorem right_ok {c:Cl}(h1:TS c.2.1)(h2:TS c.2.2)(h:z39 N0 [c] zbi 0=true):OKc N0 c 0∧clB N0 c=true:=by
 unfold z39 at h;rw [Bool.and_eq_true,Bool.and_eq_true,Bool.and_eq_true,List.all_cons,List.all_nil,Bool.and_true,Bool.and_eq_true] at h;have hc:=(zlb _ _).1 h.2.2.2;obtain ⟨⟨v0,v1⟩,⟨w1,_⟩,⟨w2,_⟩,_,hg⟩:=hc;exact ⟨⟨⟨v0,by omega⟩,⟨Int.le_refl 0,by simp only [N0];omega⟩,h1.tg w1 _ (by decide),h2.gg w2 hg,h2.2.1⟩,h.2.2.2⟩
theorem comp_zn {c:Cl}(h1:TS c.2.1)(h2:TS c.2.2)(h:OKc N0 c 0):zC (compC N0 c)∧nbC (compC N0 c):=by
 have hk:=h;obtain ⟨⟨v0,v1⟩,⟨f0,f1⟩,hT,hG,hw⟩:=h;have hR:VR (z0b c.1.toNat 0):=z8g f0 (by omega) (by omega);obtain ⟨g1,w1⟩:=GG.open (by decide) hR.2 hG;have ob:=op_bk (z0b c.1.toNat 0) c.2.2;have:=h1.1;have:=h2.1;exact comp_z (by decide) hk (by omega) (zd8 N0 (by decide) true _ _ _ (by omega) g1 (by omega) (by omega) (by have:(N0*N0:Nat)=4000000:=rfl;simp only [N0] at*;omega))
theorem zuy:TV.Le (.tup [(true,[.a (.fz (.str [])), .a (.fz (.int .i64 0)), .a (.fz (.int .i64 0)), .a (.fz (.int .i64 0)), .a (.fz (.int .i64 0)), .a (.fz .N)]),(false,[.a (.fz (.int .i64 240))])]) (aCE (cd0,240)):=
 znq ⟨⟨rfl, .refl _, .refl _, .refl _, .refl _, .refl _, .a _ _ (.fz _ _ (.N 8)),trivial⟩,lwR _,trivial⟩
theorem zi0 {ok:Bool}{c:Cd}(h:(ok&&vC c)=false):z6z ok c=(cd0,240):=by unfold z6z;rw [h];rfl
theorem zq2 {c:Cd}(h:vC c=true):z6z true c=(c,0):=by unfold z6z;rw [h];rfl
theorem c_pchk (c:Cd)(hz:zC c)(hn:nbC c):AC Tryz.prog 22 [aC c] [] (aCE (z6z true c)) []:=by
 have h:=zjd c hz hn;refine AC.vc hP sh lv22 (Nat.le_refl _) (by simp) (by simp) (Eq.mpr (v22 c.nm c.ar c.fr c.vs c.sl (FIs c.ins) ..) ?_);refine ⟨_,h,z02 (fun q=> ?_) (fun q=> ?_)⟩
 · rw [zi0 (by rw [Bool.true_and];simpa using q)];exact ⟨zuy,rfl⟩
 · rw [zq2 (by simpa using q)];exact ⟨.refl _,rfl⟩
theorem zuh (c:Cl)(h1:TS c.2.1)(h2:TS c.2.2):AC Tryz.prog 9 [aCl c] [] (aCE (zg8 c)) []:=by
 have cr:=(zmq N0 (by decide) [c] zbi 0 ts_true.tb (by show 1≤B;simp only [B];omega) (fun d hd=>by rw [show d=c by simpa using hd];exact ⟨h1.tb,h2.tb⟩)).args (args:=[aCls [c], .agg [.a (.fz (.int .i64 0)), .a (.fz (.str zkk)), .a (.fz (.int .i64 0)), .a (.fz .N)],ci 0]) ⟨.refl _,leT z1m, .refl _,trivial⟩;refine AC.vc hP sh lv9 (Nat.le_refl _) (by simp) (by simp) (Eq.mpr (v9 ..) ?_);refine ⟨⟨rfl,Nat.le_refl _⟩,_,cr,rfl,z02 (fun q=> ?_) (fun q=> ?_)⟩
 · unfold zg8;rw [zi0 (by rw [show z39 N0 [c] zbi 0=false by simpa using q];rfl)];exact ⟨zuy,rfl⟩
 · have hr:z39 N0 [c] zbi 0=true:=by simpa using q
   obtain ⟨hk,_⟩:=right_ok h1 h2 hr;obtain ⟨hz,hn⟩:=comp_zn h1 h2 hk;unfold zg8;rw [hr];exact ⟨compC N0 c,zkb (by decide) (zsg N0 (by decide)) c 0 hk,_,c_pchk _ hz hn, .refl _,rfl⟩
theorem zbe {g:Tm}{vars:Int}(h1:TS g)(h:z39 N0 [] g vars=true):(0≤vars∧vars≤4096)∧GG (N0*N0+N0) g:=by
 unfold z39 at h;rw [Bool.and_eq_true,Bool.and_eq_true,Bool.and_eq_true,Bool.and_eq_true,decide_eq_true_iff,decide_eq_true_iff,zfv,beq_iff_eq] at h;exact ⟨h.1,h1.gg h.2.1.1 h.2.2.1⟩
theorem zkz {g:Tm}{vars:Int}(h1:TS g)(hg:GG (N0*N0+N0) g)(h0:0≤vars)(hv:vars≤4096):zC (zp9 N0 g vars)∧nbC (zp9 N0 g vars):=by
 have hw:=h1.2.1;have hb:=h1.1;have e:(N0*N0:Nat)=4000000:=rfl;have bb:=z47 N0 (by decide) true g vars 0 hw hg h0 (by simp only [N0] at*;omega);have hfl:=zn4 (bodC N0 true g vars 0).2;refine zql (by show 5≤B;simp only [B];omega) (by simp only [B,N0] at*;omega) (fun x hx=> ?_);rcases zmi hx with hx | rfl
 · exact zd8 N0 (by decide) true g vars 0 hw hg (by omega) h0 (by simp only [N0] at*;omega) x hx
 · exact PI.plain _ _
theorem c_pgoal (g:Tm)(vars:Int)(h1:TS g):AC Tryz.prog 19 [aT g,ci vars] [] (aCE (zdk g vars)) []:=by
 have cr:=(zmq N0 (by decide) [] g vars h1.tb (by show 0≤B;omega) (fun d hd=>by cases hd)).args (args:=[.c (.a (.fz .N)),aT g,ci vars]) ⟨.c _ _ (.a _ _ (.fz _ _ (.N 9))), .refl _, .refl _,trivial⟩;refine AC.vc hP sh lv19 (Nat.le_refl _) (by simp) (by simp) (Eq.mpr (v19 g.k g.s g.n (FTs g.l) vars ..) ?_);refine ⟨_,cr,z02 (fun q=> ?_) (fun q=> ?_)⟩
 · unfold zdk;rw [zi0 (by rw [show z39 N0 [] g vars=false by simpa using q];rfl)];exact ⟨zuy,rfl⟩
 · have hr:z39 N0 [] g vars=true:=by simpa using q
   obtain ⟨⟨v0,v1⟩,hg⟩:=zbe h1 hr;obtain ⟨hz,hn⟩:=zkz h1 hg v0 v1;have hw:=h1.2.1;have e:(N0*N0:Nat)=4000000:=rfl;have k:=c_pfin (n:=N0) (by decide) (zsg N0 (by decide)) g vars [] 0 rfl hw hg v0 (by simp only [N0] at*;omega) (by show 0+_≤_;simp only [N0] at*;omega);rw [List.nil_append] at k;unfold zdk;rw [hr];refine ⟨(_,_),k,⟨rfl,by rw [z06];simp⟩,_, ?_, .refl _,rfl⟩;rw [List.drop_zero,List.take_of_length_le (by rw [z06];exact Nat.le_refl _)];exact c_pchk (zp9 N0 g vars) hz hn
theorem c_zgoal (g:Tm)(vars:Int)(h1:TS g):AC Tryz.prog 20 [aT g,ci vars] [] (aCE (zdk g vars)) []:=by
 have cr:=(c_rright N0 (by decide) [] g vars h1.tb (by show 0≤B;omega) (fun d hd=>by cases hd)).args (args:=[.c (.a (.fz .N)),aT g,ci vars]) ⟨.c _ _ (.a _ _ (.fz _ _ (.N 9))), .refl _, .refl _,trivial⟩;refine AC.vc hP sh lv20 (Nat.le_refl _) (by simp) (by simp) (Eq.mpr (v20 g.k g.s g.n (FTs g.l) vars ..) ?_);refine ⟨_,cr,z02 (fun q=> ?_) (fun q=> ?_)⟩
 · unfold zdk;rw [zi0 (by rw [show z39 N0 [] g vars=false by simpa using q];rfl)];exact ⟨zuy,rfl⟩
 · have hr:z39 N0 [] g vars=true:=by simpa using q
   obtain ⟨⟨v0,v1⟩,hg⟩:=zbe h1 hr;obtain ⟨hz,hn⟩:=zkz h1 hg v0 v1;have hw:=h1.2.1;have e:(N0*N0:Nat)=4000000:=rfl;have bb:=z47 N0 (by decide) true g vars 0 hw hg v0 (by simp only [N0] at*;omega);have k:=zsu N0 (by decide) true g vars [] 0 rfl hw hg v0 (by simp only [N0] at*;omega) (by show 0+_≤_;simp only [N0] at*;omega);rw [List.nil_append] at k;have ke:=zs6 (bodC N0 true g vars 0).1 (bodC N0 true g vars 0).2 (by simp only [N0] at*;omega);unfold zdk;rw [hr];refine ⟨(_,_),k,(_,_),ke,⟨rfl,by rw [z06];simp⟩,vC (zp9 N0 g vars), ?_, ?_⟩
   · rw [List.drop_zero,List.take_of_length_le (by rw [z06];exact Nat.le_refl _)];exact zp1 (zp9 N0 g vars) hz hn
   · rw [List.drop_zero,List.take_of_length_le (by rw [z06];exact Nat.le_refl _)];refine z02 (fun q=> ?_) (fun q=> ?_)
     · rw [zi0 (by rw [Bool.true_and];simpa using q)];exact ⟨zuy,rfl⟩
     · rw [zq2 (by simpa using q)];exact ⟨.refl _,rfl⟩
end Go.AM

set_option maxRecDepth 100000
open Go Go.Proofs
namespace Go.AM
mutual
theorem wt_sz:∀ t:Tm,wt t≤4*t.sz
 | .mk k s n l=>by
  have:=zsm l;unfold wt;rw [Tm.sz,ms];have h:wb k s≤4:=by unfold wb;split<;>omega
  omega
theorem zsm:∀ l:List Tm,mss wb l≤4*Tm.szs l
 | []=>Nat.le_refl _
 | t::l=>by have:=wt_sz t;have:=zsm l;rw [Tm.szs,mss];unfold wt at*;omega
end
theorem TS.of {t:Tm}(hb:t.bk≤2097152)(h1:zja t 80=false)(h2:near 1000 t=true):TS t:=by
 have hz:=large_sz h1;have:=wt_sz t;exact ⟨by omega,by simp only [N0];omega,z2d (M:=1000) (by omega) _ (zle t h2)⟩
abbrev exHd:Tm:= .mk 6 [] 0 [.mk 0 [112] 0 [],bd0]
abbrev exQx:Tm:= .mk 6 [] 0 [.mk 0 [113] 0 [],bd0]
abbrev exBo:Tm:= .mk 6 [] 0 [andT,exQx, .mk 0 [114] 0 []]
abbrev exCl:Cl:=(1,exHd,exBo)
abbrev exCo:Cd:= .mk [112] 1 0 1 1 [.mk 0 0 (vN4 0) [] [], .mk 2 0 (.mk 6 [] 0 [.mk 0 [113] 0 [],vN4 0]) [] [], .mk 3 0 (.mk 0 [114] 0 []) [] []]
theorem ex_run:zg8 exCl=(exCo,0):=by kernel_rfl
theorem zqs {M:Int}{t:Tm}(h:near M t=true):bd M t:=zle t h
theorem exS:TS exHd∧TS exBo:=⟨⟨by decide,by decide,zqs (by decide)⟩,⟨by decide,by decide,zqs (by decide)⟩⟩
theorem zsd:AC Tryz.prog 7 [] [] (cb true) []:=by
 have k1:=(z79 (.mk 0 [112] 0 []) [bd0] (by decide)).args (args:=[.agg [.a (.fz (.int .i64 0)), .a (.fz (.str [112])), .a (.fz (.int .i64 0)), .a (.fz .N)], .c (.a (.fz (.sl false 4 [[.int .i64 3, .str [], .int .i64 0, .N]])))]) ⟨leT z1m, .c _ _ (.a _ _ (.fz _ _ (zhj (l:=[bd0]) rfl (fun i r u hr hu=>by
  match i with
  | 0=>simp at hr hu;subst hr;subst hu;exact leFT z1m
  | i+1=>simp at hr)))),trivial⟩
 have k2:=(z79 (.mk 0 [113] 0 []) [bd0] (by decide)).args (args:=[.agg [.a (.fz (.int .i64 0)), .a (.fz (.str [113])), .a (.fz (.int .i64 0)), .a (.fz .N)], .c (.a (.fz (.sl false 4 [[.int .i64 3, .str [], .int .i64 0, .N]])))]) ⟨leT z1m, .c _ _ (.a _ _ (.fz _ _ (zhj (l:=[bd0]) rfl (fun i r u hr hu=>by
  match i with
  | 0=>simp at hr hu;subst hr;subst hu;exact leFT z1m
  | i+1=>simp at hr)))),trivial⟩
 have k3:=(z79 andT [exQx, .mk 0 [114] 0 []] (by decide)).args (args:=[.agg [.a (.fz (.int .i64 0)), .a (.fz (.str nAnd)), .a (.fz (.int .i64 0)), .a (.fz .N)], .c (.a (.fz (.sl false 4 [FT4 exQx,[.int .i64 0, .str [114], .int .i64 0, .N]])))]) ⟨leT z1m, .c _ _ (.a _ _ (.fz _ _ (zhj (l:=[exQx, .mk 0 [114] 0 []]) rfl (fun i r u hr hu=>by
  match i with
  | 0=>simp at hr hu;subst hr;subst hu;exact LeR.refl _
  | 1=>simp at hr hu;subst hr;subst hu;exact leFT z1m
  | i+2=>simp at hr)))),trivial⟩
 have k4:=zuh exCl exS.1 exS.2;rw [ex_run] at k4
 have k5:=zjd exCo (zC_of _ (by decide)) (by
  rw [nbC]
  exact zk5 fun x hx=>by
   have e:=List.mem_cons.1 hx;rcases e with rfl | hx
   · exact PI.term _ _ (by decide) (zqs (by decide))
   rcases List.mem_cons.1 hx with rfl | hx
   · exact PI.term _ _ (by decide) (zqs (by decide))
   rw [show x=_ by simpa using hx];exact PI.term _ _ (by decide) (zqs (by decide)))
 rw [show vC exCo=true by kernel_rfl] at k5;refine AC.vc hP sh lv7 (Nat.le_refl _) (by simp) (by simp) (Eq.mpr (v7 ..) ?_);refine ⟨⟨rfl,by decide⟩,exHd,k1,⟨rfl,by decide⟩,exQx,k2,⟨rfl,by decide⟩,exBo,k3,(exCo,0),k4,rfl,br_f (by decide) ⟨true,k5,br_t rfl (br_t rfl (br_t rfl (br_t rfl (br_t rfl (br_t rfl ?_)))))⟩⟩;have hl:(((FIs exCo.ins).length:Nat):Int)=3:=rfl;refine ⟨⟨rfl,by omega,by rw [hl];omega,rfl⟩,br_t (by decide) ⟨⟨rfl,by omega,by rw [hl];omega,rfl⟩,br_t (by decide) ⟨⟨rfl,by omega,by rw [hl];omega,rfl⟩,br_t (by decide) ⟨⟨rfl,by omega,by rw [hl];omega,rfl⟩,z04 (by decide)⟩⟩⟩⟩
theorem z_cd0:zC cd0∧nbC cd0:=zql (by show 0≤B;omega) (by show 0≤B;omega) (fun x hx=>by cases hx)
theorem chk_z {ok:Bool}{c:Cd}(h:ok=true→zC c∧nbC c):zC (z6z ok c).1∧nbC (z6z ok c).1:=by
 unfold z6z;cases hv:ok&&vC c with
 | false=>exact z_cd0
 | true=>exact h (Bool.and_eq_true_iff.1 hv).1
theorem goalX_z {g:Tm}{vars:Int}(h1:TS g):zC (zdk g vars).1∧nbC (zdk g vars).1:=chk_z fun h=>by
 obtain ⟨⟨v0,v1⟩,hg⟩:=zbe h1 h;exact zkz h1 hg v0 v1
theorem c_lcg (g:Tm)(vars:Int)(h1:g.bk≤2097152):AC Tryz.prog 6 [aT g,ci vars] [] (cb true) []:=by
 have z1:=Tm.sz_bk g;have k1:=c_large g (by simp only [B];omega) 80 (by omega) (by omega);have k3:=c_near 1000 (by omega) (by omega) g (by simp only [B];omega);refine AC.vc hP sh lv6 (Nat.le_refl _) (by simp) (by simp) (Eq.mpr (v6 g.k g.s g.n (FTs g.l) vars ..) ?_);refine ⟨true,zsd,br_f rfl ⟨_,k1,_,k3,z02 (fun _=>z04 rfl) (fun q1=>z02 (fun _=>z04 rfl) (fun q2=>z02 (fun _=>z04 rfl) (fun q3=> ?_)))⟩⟩;have t1:TS g:= .of h1 q1 (by simpa using q2);exact ⟨_,c_pgoal g vars t1,_,c_zgoal g vars t1,true,by have:=zus (zdk g vars).1 (goalX_z t1).1 (zdk g vars).1;rw [sCd_self] at this;exact this,br_t rfl (br_t rfl (z04 (by simp)))⟩
end Go.AM

namespace Go.AM
open Go.ChangeShapes Go.WideShapes Go.ChangeAt Go.RowKit
end Go.AM

set_option maxRecDepth 100000
open Go Go.Proofs
namespace Go.Proofs.YtmeolnpbbhinjaaGreat.base
open Go.ChangeShapes Go.WideShapes Go.ChangeAt Go.RowKit Go.AM
theorem one_le {H:Type}(d:DataW H):1≤Rows.uptoBulk d:=by
 cases d with
 | lit l=>cases l<;>simp [Rows.uptoBulk]
 | _=>simp [Rows.uptoBulk]
theorem bulk {H:Type}:Bulk (H:=H) Rows.uptoBulk Rows.uptoBulkAll:=
 ⟨rfl,fun _ _=>rfl,one_le,fun es sp=>by simp only [Rows.uptoBulk];omega,fun l=>by simp [Rows.uptoBulk],fun l=>by simp [Rows.uptoBulk]⟩
theorem own:ownKnob Tryz.prog.godebug=none:=by kernel_rfl
theorem laidOut:laidOutB Tryz.prog=true:=by kernel_rfl
theorem tmTy:∃ f0 f1 f2 f3:Field,TmTy Tryz.prog 25 f0 f1 f2 f3:=
 ⟨_,_,_,_,Tryz.underlying25,Tryz.underlying22,Tryz.underlying9,Tryz.underlying3,Tryz.underlying23,rfl,rfl,rfl,rfl,by kernel_rfl,by kernel_rfl,by kernel_rfl,by kernel_rfl,by kernel_rfl⟩
theorem rec3:Tryz.prog.readableRec 3=true:=by kernel_rfl
theorem lt3:3<Tryz.prog.types.size:=of_decide_eq_true (by kernel_rfl)
theorem rec25:Tryz.prog.readableRec 25=true:=by kernel_rfl
theorem lt25:25<Tryz.prog.types.size:=of_decide_eq_true (by kernel_rfl)
theorem noGl (g:Nat)(h:Tryz.prog.globalNamed "internal/strconv.uint64pow10" =some g):False:=by
 rw [show Tryz.prog.globalNamed "internal/strconv.uint64pow10" =none by kernel_rfl] at h;cases h
theorem zqh {n:Int}(h:(Lit.int .i64 n).wf=true): -9223372036854775808≤n∧n≤9223372036854775807:=by
 simp only [Lit.wf,IntKind.min,IntKind.max,IntKind.signed,IntKind.bits,Bool.and_eq_true,decide_eq_true_eq,if_true] at h;omega
theorem upto {H:Type}{l:List (DataW H)}(hk:Rows.uptoSmall H l=true):Rows.uptoBulkAll l≤1048576:=of_decide_eq_true hk
end Go.Proofs.YtmeolnpbbhinjaaGreat.base
