/- Contracts of the code's functions over plain values, and plain laws: part 6. No conditions. -/
import Derived.Test.YtmgbnkbcjkdfjaaGreatPart5
import Derived.Test.YtmgbnkbcjkdfjaaGreatPart3
set_option maxRecDepth 100000
open Go Go.Proofs
namespace Go.AM
theorem z6l:∀ {l:List Tm} {u:Tm},z2a l=true→u∈l→z07 u=true
 | x::l,u,h,hu=>by
  rw [z2a,Bool.and_eq_true] at h;rcases List.mem_cons.1 hu with rfl | hu
  · exact h.1
  · exact z6l h.2 hu
theorem zm {k n:Int}{s:List UInt8}{l:List Tm}(h:z07 (.mk k s n l)=true)(hk:k=5∨k=6):z2a l=true:=by
 rw [z07] at h;rcases hk with rfl | rfl<;>simp at h<;>simp [h]
theorem Gw.nm {s:Hp}{z:(Int×Int)×Hp}{K:Nat}(h:Gw s z)(h0:z.1.2=0)(g:NmB K s):NmB K z.2:=by
 obtain ⟨_,d,e,h1,h2⟩:=h;rw [if_pos h0] at h2;unfold NmB at*;rw [h1];simp only [List.length_append];omega
theorem NmB.put {K:Nat}{s:Hp}(g:NmB K s)(c:Cel):NmB K (putS s c).2:=by
 obtain ⟨h1,_,_,h2,_⟩:=zkk s c;unfold NmB at*;rw [h1];omega
theorem NmB.set {K:Nat}{s:Hp}(g:NmB K s)(a:Int)(c:Cel):NmB K (setS s a c).2:=by
 obtain ⟨h1,_,_,h2⟩:=zl4 s a c;unfold NmB at*;rw [h1];omega
theorem k56 {k n:Int}{s:List UInt8}{l:List Tm}(h:z07 (.mk k s n l)=true)(n0:k≠0)(n1:k≠1)(n2:k≠2)(n3:k≠3)(n4:k≠4):k=5∨k=6:=by
 rw [z07] at h;by_cases h5:k=5
 · exact .inl h5
 · by_cases h6:k=6
   · exact .inr h6
   · simp [n0,n1,n2,n3,n4,h5,h6] at h
abbrev oHv (vs:List Int)(s:Hp):List AObj:=[hp6 1 2 3 4 s, .arz 5 (CR s.C), .arz 7 (TR s.T), .arz 1 (NR s.N), .mapz (NM s.N 0), .arz 1 (IR vs)]
abbrev oHv' (vs:List Int)(s:Hp):List AObj:=[hp6 6 7 8 4 s, .gone, .gone, .gone, .mapz (NM s.N 0), .arz 1 (IR vs), .arz 5 (CR s.C), .arz 7 (TR s.T), .arz 1 (NR s.N)]
theorem c_hvarA  (s:Hp) (n:Int) (h0:0≤n):AC Tryz.prog 171 [aH 0,ci n, .c (.a (.fz .N))] (oH s) (t2 (varE none s.C n)) (oH s):=by
 refine AC.vc hP sh zmp (Nat.le_refl _) (by simp [isLive]) (by simp) (Eq.mpr (v171_i1 ..) ?_)
 first
 | (have hi:=z66 s n
    exact ⟨_,hi,z01 (fun h=>⟨by rw [varE,if_neg (by simpa using h)];exact .refl _,rfl⟩) (fun h=>⟨by rw [varE,if_pos (by simpa using h)];exact .refl _,rfl⟩)⟩)
 | (have hl:=z06 vs
    refine ⟨rfl,z01 (fun h=>⟨?_,rfl⟩) (fun h=> ?_)⟩
    · have h:=of_decide_eq_true h;rw [varE,if_pos (by omega)];exact .refl _
    · have h:=of_decide_eq_false h;have hlt:n.toNat<vs.length:=by omega
      rw [z2m hlt];have hi:=z66 s (vs[n.toNat]);have e:vs.getD n.toNat 0=vs[n.toNat]:=by simp [List.getD,hlt]
      refine ⟨⟨rfl,h0,by omega,rfl⟩,_,hi,z01 (fun h2=>⟨?_,rfl⟩) (fun h2=>⟨?_,rfl⟩)⟩
      · rw [varE,if_neg (by omega),e,if_neg (by simpa using h2)];exact .refl _
      · rw [varE,if_neg (by omega),e,if_pos (by simpa using h2)];exact .refl _)
 | (have hl:=z06 (v0::vs)
    refine z01 (fun h=>⟨?_,rfl⟩) (fun h=> ?_)
    · have h:=of_decide_eq_true h;rw [varE,if_pos (by simp only [List.length_cons];omega)];exact .refl _
    · have h:=of_decide_eq_false h;have hlt:n.toNat<(v0::vs).length:=by simp only [List.length_cons];omega
      rw [Nat.zero_add,z2m hlt];have hi:=z66 s ((v0::vs)[n.toNat]);have e:(v0::vs).getD n.toNat 0=(v0::vs)[n.toNat]:=by rw [List.getD,List.getElem?_eq_getElem hlt];rfl
      refine ⟨⟨h0,by omega⟩,⟨by omega,rfl,rfl⟩,_,hi,z01 (fun h2=>⟨?_,rfl⟩) (fun h2=>⟨?_,rfl⟩)⟩
      · rw [varE,if_neg (by simp only [List.length_cons];omega),e,if_neg (by simpa using h2)];exact .refl _
      · rw [varE,if_neg (by simp only [List.length_cons];omega),e,if_pos (by simpa using h2)];exact .refl _)
abbrev stEnA  (f:Int) (x:List Tm) (n i:Int) (s:Hp):St:=
 ⟨[(0,aH 0),(2, .c (.a (.fz .N))),(8,ci f),(89,aL x),(90,ci n),(91,ci i)],[(0,hp6 5 6 7 4 s),(1, .gone),(2, .gone),(3, .gone),(4, .mapz (NM s.N 0)),(5, .arz 5 (CR s.C)),(6, .arz 7 (TR s.T)),(7, .arz 1 (NR s.N))],8⟩
theorem l_encA (K:Nat)(hK:K≤1000000000)  :∀ (b pre:List Tm) (f:Int) (s:Hp),(∀ u∈b,∀ s,OkH s→NmB K s→AC Tryz.prog 111 [aH 0,aT u, .c (.a (.fz .N))] (oH s) (t2 (encE none u s).1) (oH' (encE none u s).2))→(pre++b).length≤B→OkH s→NmB K s→
  RPt Tryz.prog 111 5 (t2 (encR none b f s).1) (oH' (encR none b f s).2) 5 (stEnA  f (pre++b) ((pre++b).length:Int) (pre.length:Int) s)
 | [],pre,f,s,_,_,_,_=>by
  refine RPt.vc hP sh z7h (Eq.mpr (zdc ..) ?_);exact z01 (fun q=>absurd (of_decide_eq_true q) (by simp only [List.append_nil];omega)) (fun _=>⟨by rw [encR];exact .refl _,by rw [encR]⟩)
 | u::b,pre,f,s,hu,hl,ok,nm=>by
  have hlen:=z00 (pre++u::b);have hla:pre.length<(pre++u::b).length:=by simp
  have a1:=hu u List.mem_cons_self s ok nm;have g1:=z42 none u s
  have hE:encR none (u::b) f s=if (encE none u s).1.2≠0 then ((0,(encE none u s).1.2),(encE none u s).2)
   else if (putS (encE none u s).2 ⟨7,f,(encE none u s).1.1,0,0⟩).1.2≠0 then ((0,(putS (encE none u s).2 ⟨7,f,(encE none u s).1.1,0,0⟩).1.2),(putS (encE none u s).2 ⟨7,f,(encE none u s).1.1,0,0⟩).2)
   else encR none b (putS (encE none u s).2 ⟨7,f,(encE none u s).1.1,0,0⟩).1.1 (putS (encE none u s).2 ⟨7,f,(encE none u s).1.1,0,0⟩).2:=by rw [encR]
  have ok1:=g1.1 ok;have nm1:=fun h=>g1.nm (K:=K) h nm;generalize encE none u s=z at*;have hp:=z2c z.2 ⟨7,f,z.1.1,0,0⟩ (by have:=ok1.C;omega);have nx:=fun (h:z.1.2=0)=>l_encA K hK  b (pre++ [u]) (putS z.2 ⟨7,f,z.1.1,0,0⟩).1.1 (putS z.2 ⟨7,f,z.1.1,0,0⟩).2 (fun v hv=>hu v (List.mem_cons_of_mem _ hv)) (by simpa using hl) (ok1.put _) ((nm1 h).put _);rw [show (pre++ [u])++b=pre++u::b by simp,show (((pre++ [u]).length:Nat):Int)=(pre.length:Int)+1 by simp] at nx;generalize putS z.2 ⟨7,f,z.1.1,0,0⟩=y at*;simp only [B] at hl;refine RPt.vc hP sh z7h (Eq.mpr (zdc ..) ?_);rw [zgb,w64 (x:=(pre.length:Int)+1) (by omega) (by omega),hE];refine z01 (fun _=>⟨⟨rfl,by omega,by rw [hlen];omega,zd5 pre u b⟩,z,a1,z0j (fun q=> ?_) (fun q=>⟨y,hp,z0j (fun q2=> ?_) (fun q2=> ?_)⟩)⟩) (fun q=>absurd (of_decide_eq_false q) (by omega))
  · rw [if_pos q];exact ⟨.refl _,rfl⟩
  · rw [if_neg (fun w=>w q),if_pos q2];exact ⟨.refl _,rfl⟩
  · rw [if_neg (fun w=>w q),if_neg (fun w=>w q2)];exact nx q
theorem c_encA (K:Nat)(hK:K≤1000000000)  :∀ t:Tm,z07 t=true→t.sz≤B→∀ s,OkH s→NmB K s→AC Tryz.prog 111 [aH 0,aT t, .c (.a (.fz .N))] (oH s) (t2 (encE none t s).1) (oH' (encE none t s).2):=by
 refine Tm.ind fun t ih=> ?_;obtain ⟨k,nm0,n,l⟩:=t;intro hv hz s ok nm;have hsz:Tm.szs l+1≤B:=by simp only [Tm.sz] at hz;omega
 have hsl:=Tm.szs_length l;refine AC.vc hP sh z7h (by simp) (by simp [isLive]) (by simp [isLive]) (Eq.mpr (v111_i1 k nm0 n (FTs l)  ..) ?_);have hok:=ok.C;have hnm:s.N.length≤s.C.length+K:=nm;refine z04 (fun e0=> ?_) (fun n0=>z04 (fun e1=> ?_) (fun n1=>z04 (fun e2=> ?_) (fun n2=>z04 (fun e3=> ?_) (fun n3=>z04 (fun e4=> ?_) (fun n4=> ?_)))))
 · have hs:=zs5 s nm0 (by omega);have hp:=z2c (symS s nm0).2 ⟨0,(symS s nm0).1,0,0,0⟩ (by unfold symS;split<;>simp only<;>omega);exact ⟨symS s nm0,hs,_,hp,by rw [encE,if_pos e0];exact .refl _,by rw [encE,if_pos e0]⟩
 · exact ⟨_,z2c s ⟨1,n,0,0,0⟩ (by omega),by rw [encE,if_neg n0,if_pos e1];exact .refl _,by rw [encE,if_neg n0,if_pos e1]⟩
 · exact ⟨_,z2c s ⟨2,n,0,0,0⟩ (by omega),by rw [encE,if_neg n0,if_neg n1,if_pos e2];exact .refl _,by rw [encE,if_neg n0,if_neg n1,if_pos e2]⟩
 · exact ⟨_,z2c s ⟨3,n,0,0,0⟩ (by omega),by rw [encE,if_neg n0,if_neg n1,if_neg n2,if_pos e3];exact .refl _,by rw [encE,if_neg n0,if_neg n1,if_neg n2,if_pos e3]⟩
 · have h4:0≤n:=by
    subst e4;rw [z07] at hv;simp at hv;exact hv.1.1.1.1
   exact ⟨_,c_hvarA  s n h4,by rw [encE,if_neg n0,if_neg n1,if_neg n2,if_neg n3,if_pos e4];exact .refl _,by rw [encE,if_neg n0,if_neg n1,if_neg n2,if_neg n3,if_pos e4]⟩
 · have h56:=k56 hv n0 n1 n2 n3 n4;have hvl:=zm hv h56;have hE:encE none (.mk k nm0 n l) s=encL none k l s:=by rw [encE,if_neg n0,if_neg n1,if_neg n2,if_neg n3,if_neg n4]
   rw [hE]
   have hne:l ≠ []:=by
    intro e;subst e;rcases h56 with rfl | rfl<;>simp [z07,z00] at hv
   match l,hne with
   | u::l,_=>
    have hlen:=z00 (u::l);have a1:=ih u List.mem_cons_self (z6l hvl List.mem_cons_self) (by have:=Tm.szs_mem (t:=u) (l:=u::l) List.mem_cons_self;omega) s ok nm;have g1:=z42 none u s
    have hL:encL none k (u::l) s=if (encE none u s).1.2≠0 then ((0,(encE none u s).1.2),(encE none u s).2)
     else if k=5 then putS (encE none u s).2 ⟨6,(encE none u s).1.1,0,0,0⟩ else encR none l (encE none u s).1.1 (encE none u s).2:=by rw [encL]
    rw [hL];have ok1:=g1.1 ok;have nm1:=fun h=>g1.nm (K:=K) h nm;generalize encE none u s=z at*;have hp:=z2c z.2 ⟨6,z.1.1,0,0,0⟩ (by have:=ok1.C;omega);have lp:=fun (h:z.1.2=0)=>l_encA K hK  l [] z.1.1 z.2 (fun v hv s o m=>ih v (List.mem_cons_of_mem _ hv) (z6l hvl (List.mem_cons_of_mem _ hv)) (by have:=Tm.szs_mem (t:=v) (l:=u::l) (List.mem_cons_of_mem _ hv);omega) s o m) (by simp only [List.nil_append];simp only [List.length_cons] at hsl;omega) ok1 (nm1 h);have et:List.drop 1 (List.take (Int.toNat (((FTs (u::l)).length:Nat):Int)) (FTs (u::l)))=FTs l:=by rw [Int.toNat_natCast,List.take_of_length_le (Nat.le_refl _)];rfl
    have el:aE (List.getD (FTs (u::l)) 0 [])=aT u:=z4n u;rw [el,et];refine ⟨⟨rfl,Int.le_refl _,by rw [hlen];simp only [List.length_cons];omega,z4j u⟩,z,a1,z0j (fun q=> ?_) (fun q=>z04 (fun e5=> ?_) (fun n5=>⟨rfl,⟨by omega,by rw [hlen];simp only [List.length_cons];omega,Int.le_refl _⟩,rfl, ?_⟩))⟩
    · rw [if_pos q];exact ⟨.refl _,rfl⟩
    · rw [if_neg (fun w=>w q),if_pos e5];exact ⟨_,hp, .refl _,rfl⟩
    · rw [if_neg (fun w=>w q),if_neg n5,z00];exact lp q
theorem zol (K:Nat)(hK:K≤1000000000)  (t:Tm)(hz:t.sz≤B)(s:Hp)(ok:OkH s)(nm:NmB K s):AC Tryz.prog 58 [aH 0,aT t, .c (.a (.fz .N))] (oH s) (t2 (encS none s t).1) (oH' (encS none s t).2):=by
 have hv:=z8q t hz;have he:=fun h=>c_encA K hK  t h hz s ok nm;obtain ⟨_,d,e,g1,_⟩:=z42 none t s
 have e0:encS none s t=if z07 t=false then ((0,1),s)
  else if (encE none t s).1.2≠0 then ((0,(encE none t s).1.2),⟨(encE none t s).2.C.take s.C.length,(encE none t s).2.T,(encE none t s).2.M,(encE none t s).2.L,(encE none t s).2.N⟩)
  else encE none t s:=rfl
 rw [e0];have hlen:s.C.length≤(encE none t s).2.C.length:=by rw [g1];simp
 generalize encE none t s=z at*;by_cases hb:z07 t=false
 · rw [if_pos hb];obtain ⟨k,nm0,n,l⟩:=t;refine AC.vc hP sh lv58 (by simp) (by simp [isLive]) (by simp [isLive]) (Eq.mpr (zrv k nm0 n (FTs l)  ..) ?_);exact ⟨_,hv,z01 (fun _=>⟨.refl _,rfl⟩) (fun h=>by rw [hb] at h;cases h)⟩
 · rw [if_neg hb];have hb:z07 t=true:=by simpa using hb
   have he:=he hb;by_cases q:z.1.2=0
   · rw [if_neg (fun w=>w q)];obtain ⟨k,nm0,n,l⟩:=t;refine AC.vc hP sh lv58 (by simp) (by simp [isLive]) (by simp [isLive]) (Eq.mpr (zrv k nm0 n (FTs l)  ..) ?_);refine ⟨_,hv,z01 (fun h=>by rw [hb] at h;cases h) (fun _=>⟨z,he,z0j (fun w=>absurd q w) (fun _=> ?_)⟩)⟩;obtain ⟨⟨z1,z2⟩,zs⟩:=z;dsimp only at q;subst q;exact ⟨.refl _,rfl⟩
   · rw [if_pos q];refine AC.obj (Hs':=[.arr 6 [[.a (.osl 5 5 0 s.C.length), .a (.osl 6 7 0 z.2.T.length), .a (.fz (.int .i64 z.2.M)), .a (.fz (.int .i64 z.2.L)), .a (.osl 7 1 0 z.2.N.length), .a (.mp 4)]], .gone, .gone, .gone, .mapz (NM z.2.N 0),  .arz 5 (CR z.2.C), .arz 7 (TR z.2.T), .arz 1 (NR z.2.N)]) ?_ ⟨?_, .refl _, .refl _, .refl _, .refl _, ?_, .refl _, .refl _,trivial⟩
     · obtain ⟨k,nm0,n,l⟩:=t;refine AC.vc hP sh lv58 (by simp) (by simp [isLive]) (by simp [isLive]) (Eq.mpr (zrv k nm0 n (FTs l)  ..) ?_);refine ⟨_,hv,z01 (fun h=>by rw [hb] at h;cases h) (fun _=>⟨z,he,z0j (fun w=>⟨⟨Int.le_refl _,by omega,by omega⟩, .refl _, ?_⟩) (fun w=>absurd w q)⟩)⟩;rw [Int.toNat_natCast]
     · rw [hp6];simp only [List.length_take,Nat.min_eq_left hlen];exact .refl _
     · refine zb8 (by rw [z1l,z1l,List.length_take];omega) fun i e e' he he'=> ?_;rw [CR,List.getElem?_map] at he he';obtain ⟨v,hv,rfl⟩:=Option.map_eq_some_iff.1 he';obtain ⟨v2,hv2,rfl⟩:=Option.map_eq_some_iff.1 he;rw [List.getElem?_take] at hv;split at hv
       · rw [hv2] at hv;injection hv with hv;subst hv;exact LeR.refl _
       · cases hv
theorem c_hvarC (v0:Int)(vs:List Int)(s:Hp)(n:Int)(h0:0≤n):AC Tryz.prog 171 [aH 0,ci n, .c (.a (.osl 5 1 0 (vs.length+1)))] (oHv (v0::vs) s) (t2 (varE (some (v0::vs)) s.C n)) (oHv (v0::vs) s):=by
 refine AC.vc hP sh zmp (Nat.le_refl _) (by simp [isLive]) (by simp) (Eq.mpr (v171 ..) ?_)
 first
 | (have hi:=z66 s n
    exact ⟨_,hi,z01 (fun h=>⟨by rw [varE,if_neg (by simpa using h)];exact .refl _,rfl⟩) (fun h=>⟨by rw [varE,if_pos (by simpa using h)];exact .refl _,rfl⟩)⟩)
 | (have hl:=z06 vs
    refine ⟨rfl,z01 (fun h=>⟨?_,rfl⟩) (fun h=> ?_)⟩
    · have h:=of_decide_eq_true h;rw [varE,if_pos (by omega)];exact .refl _
    · have h:=of_decide_eq_false h;have hlt:n.toNat<vs.length:=by omega
      rw [z2m hlt];have hi:=z66 s (vs[n.toNat]);have e:vs.getD n.toNat 0=vs[n.toNat]:=by simp [List.getD,hlt]
      refine ⟨⟨rfl,h0,by omega,rfl⟩,_,hi,z01 (fun h2=>⟨?_,rfl⟩) (fun h2=>⟨?_,rfl⟩)⟩
      · rw [varE,if_neg (by omega),e,if_neg (by simpa using h2)];exact .refl _
      · rw [varE,if_neg (by omega),e,if_pos (by simpa using h2)];exact .refl _)
 | (have hl:=z06 (v0::vs)
    refine z01 (fun h=>⟨?_,rfl⟩) (fun h=> ?_)
    · have h:=of_decide_eq_true h;rw [varE,if_pos (by simp only [List.length_cons];omega)];exact .refl _
    · have h:=of_decide_eq_false h;have hlt:n.toNat<(v0::vs).length:=by simp only [List.length_cons];omega
      rw [Nat.zero_add,z2m hlt];have hi:=z66 s ((v0::vs)[n.toNat]);have e:(v0::vs).getD n.toNat 0=(v0::vs)[n.toNat]:=by rw [List.getD,List.getElem?_eq_getElem hlt];rfl
      refine ⟨⟨h0,by omega⟩,⟨by omega,rfl,rfl⟩,_,hi,z01 (fun h2=>⟨?_,rfl⟩) (fun h2=>⟨?_,rfl⟩)⟩
      · rw [varE,if_neg (by simp only [List.length_cons];omega),e,if_neg (by simpa using h2)];exact .refl _
      · rw [varE,if_neg (by simp only [List.length_cons];omega),e,if_pos (by simpa using h2)];exact .refl _)
abbrev stEnC (v0:Int)(vs:List Int)(f:Int)(x:List Tm)(n i:Int)(s:Hp):St:=
 ⟨[(0,aH 0),(2, .c (.a (.osl 5 1 0 (vs.length+1)))),(8,ci f),(89,aL x),(90,ci n),(91,ci i)],[(0,hp6 6 7 8 4 s),(1, .gone),(2, .gone),(3, .gone),(4, .mapz (NM s.N 0)),(5, .arz 1 (IR (v0::vs))),(6, .arz 5 (CR s.C)),(7, .arz 7 (TR s.T)),(8, .arz 1 (NR s.N))],9⟩
theorem l_encC (K:Nat)(hK:K≤1000000000)(v0:Int)(vs:List Int):∀ (b pre:List Tm) (f:Int) (s:Hp),(∀ u∈b,∀ s,OkH s→NmB K s→AC Tryz.prog 111 [aH 0,aT u, .c (.a (.osl 5 1 0 (vs.length+1)))] (oHv (v0::vs) s) (t2 (encE (some (v0::vs)) u s).1) (oHv' (v0::vs) (encE (some (v0::vs)) u s).2))→(pre++b).length≤B→OkH s→NmB K s→
  RPt Tryz.prog 111 6 (t2 (encR (some (v0::vs)) b f s).1) (oHv' (v0::vs) (encR (some (v0::vs)) b f s).2) 5 (stEnC v0 vs f (pre++b) ((pre++b).length:Int) (pre.length:Int) s)
 | [],pre,f,s,_,_,_,_=>by
  refine RPt.vc hP sh z7h (Eq.mpr (zqu ..) ?_);exact z01 (fun q=>absurd (of_decide_eq_true q) (by simp only [List.append_nil];omega)) (fun _=>⟨by rw [encR];exact .refl _,by rw [encR]⟩)
 | u::b,pre,f,s,hu,hl,ok,nm=>by
  have hlen:=z00 (pre++u::b);have hla:pre.length<(pre++u::b).length:=by simp
  have a1:=hu u List.mem_cons_self s ok nm;have g1:=z42 (some (v0::vs)) u s
  have hE:encR (some (v0::vs)) (u::b) f s=if (encE (some (v0::vs)) u s).1.2≠0 then ((0,(encE (some (v0::vs)) u s).1.2),(encE (some (v0::vs)) u s).2)
   else if (putS (encE (some (v0::vs)) u s).2 ⟨7,f,(encE (some (v0::vs)) u s).1.1,0,0⟩).1.2≠0 then ((0,(putS (encE (some (v0::vs)) u s).2 ⟨7,f,(encE (some (v0::vs)) u s).1.1,0,0⟩).1.2),(putS (encE (some (v0::vs)) u s).2 ⟨7,f,(encE (some (v0::vs)) u s).1.1,0,0⟩).2)
   else encR (some (v0::vs)) b (putS (encE (some (v0::vs)) u s).2 ⟨7,f,(encE (some (v0::vs)) u s).1.1,0,0⟩).1.1 (putS (encE (some (v0::vs)) u s).2 ⟨7,f,(encE (some (v0::vs)) u s).1.1,0,0⟩).2:=by rw [encR]
  have ok1:=g1.1 ok;have nm1:=fun h=>g1.nm (K:=K) h nm;generalize encE (some (v0::vs)) u s=z at*;have hp:=z2c z.2 ⟨7,f,z.1.1,0,0⟩ (by have:=ok1.C;omega);have nx:=fun (h:z.1.2=0)=>l_encC K hK v0 vs b (pre++ [u]) (putS z.2 ⟨7,f,z.1.1,0,0⟩).1.1 (putS z.2 ⟨7,f,z.1.1,0,0⟩).2 (fun v hv=>hu v (List.mem_cons_of_mem _ hv)) (by simpa using hl) (ok1.put _) ((nm1 h).put _);rw [show (pre++ [u])++b=pre++u::b by simp,show (((pre++ [u]).length:Nat):Int)=(pre.length:Int)+1 by simp] at nx;generalize putS z.2 ⟨7,f,z.1.1,0,0⟩=y at*;simp only [B] at hl;refine RPt.vc hP sh z7h (Eq.mpr (zqu ..) ?_);rw [zgb,w64 (x:=(pre.length:Int)+1) (by omega) (by omega),hE];refine z01 (fun _=>⟨⟨rfl,by omega,by rw [hlen];omega,zd5 pre u b⟩,z,a1,z0j (fun q=> ?_) (fun q=>⟨y,hp,z0j (fun q2=> ?_) (fun q2=> ?_)⟩)⟩) (fun q=>absurd (of_decide_eq_false q) (by omega))
  · rw [if_pos q];exact ⟨.refl _,rfl⟩
  · rw [if_neg (fun w=>w q),if_pos q2];exact ⟨.refl _,rfl⟩
  · rw [if_neg (fun w=>w q),if_neg (fun w=>w q2)];exact nx q
theorem c_encC (K:Nat)(hK:K≤1000000000)(v0:Int)(vs:List Int):∀ t:Tm,z07 t=true→t.sz≤B→∀ s,OkH s→NmB K s→AC Tryz.prog 111 [aH 0,aT t, .c (.a (.osl 5 1 0 (vs.length+1)))] (oHv (v0::vs) s) (t2 (encE (some (v0::vs)) t s).1) (oHv' (v0::vs) (encE (some (v0::vs)) t s).2):=by
 refine Tm.ind fun t ih=> ?_;obtain ⟨k,nm0,n,l⟩:=t;intro hv hz s ok nm;have hsz:Tm.szs l+1≤B:=by simp only [Tm.sz] at hz;omega
 have hsl:=Tm.szs_length l;refine AC.vc hP sh z7h (by simp) (by simp [isLive]) (by simp [isLive]) (Eq.mpr (v111 k nm0 n (FTs l) vs.length ..) ?_);have hok:=ok.C;have hnm:s.N.length≤s.C.length+K:=nm;refine z04 (fun e0=> ?_) (fun n0=>z04 (fun e1=> ?_) (fun n1=>z04 (fun e2=> ?_) (fun n2=>z04 (fun e3=> ?_) (fun n3=>z04 (fun e4=> ?_) (fun n4=> ?_)))))
 · have hs:=zs5 s nm0 (by omega);have hp:=z2c (symS s nm0).2 ⟨0,(symS s nm0).1,0,0,0⟩ (by unfold symS;split<;>simp only<;>omega);exact ⟨symS s nm0,hs,_,hp,by rw [encE,if_pos e0];exact .refl _,by rw [encE,if_pos e0]⟩
 · exact ⟨_,z2c s ⟨1,n,0,0,0⟩ (by omega),by rw [encE,if_neg n0,if_pos e1];exact .refl _,by rw [encE,if_neg n0,if_pos e1]⟩
 · exact ⟨_,z2c s ⟨2,n,0,0,0⟩ (by omega),by rw [encE,if_neg n0,if_neg n1,if_pos e2];exact .refl _,by rw [encE,if_neg n0,if_neg n1,if_pos e2]⟩
 · exact ⟨_,z2c s ⟨3,n,0,0,0⟩ (by omega),by rw [encE,if_neg n0,if_neg n1,if_neg n2,if_pos e3];exact .refl _,by rw [encE,if_neg n0,if_neg n1,if_neg n2,if_pos e3]⟩
 · have h4:0≤n:=by
    subst e4;rw [z07] at hv;simp at hv;exact hv.1.1.1.1
   exact ⟨_,c_hvarC v0 vs s n h4,by rw [encE,if_neg n0,if_neg n1,if_neg n2,if_neg n3,if_pos e4];exact .refl _,by rw [encE,if_neg n0,if_neg n1,if_neg n2,if_neg n3,if_pos e4]⟩
 · have h56:=k56 hv n0 n1 n2 n3 n4;have hvl:=zm hv h56;have hE:encE (some (v0::vs)) (.mk k nm0 n l) s=encL (some (v0::vs)) k l s:=by rw [encE,if_neg n0,if_neg n1,if_neg n2,if_neg n3,if_neg n4]
   rw [hE]
   have hne:l ≠ []:=by
    intro e;subst e;rcases h56 with rfl | rfl<;>simp [z07,z00] at hv
   match l,hne with
   | u::l,_=>
    have hlen:=z00 (u::l);have a1:=ih u List.mem_cons_self (z6l hvl List.mem_cons_self) (by have:=Tm.szs_mem (t:=u) (l:=u::l) List.mem_cons_self;omega) s ok nm;have g1:=z42 (some (v0::vs)) u s
    have hL:encL (some (v0::vs)) k (u::l) s=if (encE (some (v0::vs)) u s).1.2≠0 then ((0,(encE (some (v0::vs)) u s).1.2),(encE (some (v0::vs)) u s).2)
     else if k=5 then putS (encE (some (v0::vs)) u s).2 ⟨6,(encE (some (v0::vs)) u s).1.1,0,0,0⟩ else encR (some (v0::vs)) l (encE (some (v0::vs)) u s).1.1 (encE (some (v0::vs)) u s).2:=by rw [encL]
    rw [hL];have ok1:=g1.1 ok;have nm1:=fun h=>g1.nm (K:=K) h nm;generalize encE (some (v0::vs)) u s=z at*;have hp:=z2c z.2 ⟨6,z.1.1,0,0,0⟩ (by have:=ok1.C;omega);have lp:=fun (h:z.1.2=0)=>l_encC K hK v0 vs l [] z.1.1 z.2 (fun v hv s o m=>ih v (List.mem_cons_of_mem _ hv) (z6l hvl (List.mem_cons_of_mem _ hv)) (by have:=Tm.szs_mem (t:=v) (l:=u::l) (List.mem_cons_of_mem _ hv);omega) s o m) (by simp only [List.nil_append];simp only [List.length_cons] at hsl;omega) ok1 (nm1 h);have et:List.drop 1 (List.take (Int.toNat (((FTs (u::l)).length:Nat):Int)) (FTs (u::l)))=FTs l:=by rw [Int.toNat_natCast,List.take_of_length_le (Nat.le_refl _)];rfl
    have el:aE (List.getD (FTs (u::l)) 0 [])=aT u:=z4n u;rw [el,et];refine ⟨⟨rfl,Int.le_refl _,by rw [hlen];simp only [List.length_cons];omega,z4j u⟩,z,a1,z0j (fun q=> ?_) (fun q=>z04 (fun e5=> ?_) (fun n5=>⟨rfl,⟨by omega,by rw [hlen];simp only [List.length_cons];omega,Int.le_refl _⟩,rfl, ?_⟩))⟩
    · rw [if_pos q];exact ⟨.refl _,rfl⟩
    · rw [if_neg (fun w=>w q),if_pos e5];exact ⟨_,hp, .refl _,rfl⟩
    · rw [if_neg (fun w=>w q),if_neg n5,z00];exact lp q
theorem c_EncC (K:Nat)(hK:K≤1000000000)(v0:Int)(vs:List Int)(t:Tm)(hz:t.sz≤B)(s:Hp)(ok:OkH s)(nm:NmB K s):AC Tryz.prog 58 [aH 0,aT t, .c (.a (.osl 5 1 0 (vs.length+1)))] (oHv (v0::vs) s) (t2 (encS (some (v0::vs)) s t).1) (oHv' (v0::vs) (encS (some (v0::vs)) s t).2):=by
 have hv:=z8q t hz;have he:=fun h=>c_encC K hK v0 vs t h hz s ok nm;obtain ⟨_,d,e,g1,_⟩:=z42 (some (v0::vs)) t s
 have e0:encS (some (v0::vs)) s t=if z07 t=false then ((0,1),s)
  else if (encE (some (v0::vs)) t s).1.2≠0 then ((0,(encE (some (v0::vs)) t s).1.2),⟨(encE (some (v0::vs)) t s).2.C.take s.C.length,(encE (some (v0::vs)) t s).2.T,(encE (some (v0::vs)) t s).2.M,(encE (some (v0::vs)) t s).2.L,(encE (some (v0::vs)) t s).2.N⟩)
  else encE (some (v0::vs)) t s:=rfl
 rw [e0];have hlen:s.C.length≤(encE (some (v0::vs)) t s).2.C.length:=by rw [g1];simp
 generalize encE (some (v0::vs)) t s=z at*;by_cases hb:z07 t=false
 · rw [if_pos hb];obtain ⟨k,nm0,n,l⟩:=t;refine AC.vc hP sh lv58 (by simp) (by simp [isLive]) (by simp [isLive]) (Eq.mpr (v58 k nm0 n (FTs l) vs.length ..) ?_);exact ⟨_,hv,z01 (fun _=>⟨.refl _,rfl⟩) (fun h=>by rw [hb] at h;cases h)⟩
 · rw [if_neg hb];have hb:z07 t=true:=by simpa using hb
   have he:=he hb;by_cases q:z.1.2=0
   · rw [if_neg (fun w=>w q)];obtain ⟨k,nm0,n,l⟩:=t;refine AC.vc hP sh lv58 (by simp) (by simp [isLive]) (by simp [isLive]) (Eq.mpr (v58 k nm0 n (FTs l) vs.length ..) ?_);refine ⟨_,hv,z01 (fun h=>by rw [hb] at h;cases h) (fun _=>⟨z,he,z0j (fun w=>absurd q w) (fun _=> ?_)⟩)⟩;obtain ⟨⟨z1,z2⟩,zs⟩:=z;dsimp only at q;subst q;exact ⟨.refl _,rfl⟩
   · rw [if_pos q];refine AC.obj (Hs':=[.arr 6 [[.a (.osl 6 5 0 s.C.length), .a (.osl 7 7 0 z.2.T.length), .a (.fz (.int .i64 z.2.M)), .a (.fz (.int .i64 z.2.L)), .a (.osl 8 1 0 z.2.N.length), .a (.mp 4)]], .gone, .gone, .gone, .mapz (NM z.2.N 0), .arz 1 (IR (v0::vs)), .arz 5 (CR z.2.C), .arz 7 (TR z.2.T), .arz 1 (NR z.2.N)]) ?_ ⟨?_, .refl _, .refl _, .refl _, .refl _, .refl _, ?_, .refl _, .refl _,trivial⟩
     · obtain ⟨k,nm0,n,l⟩:=t;refine AC.vc hP sh lv58 (by simp) (by simp [isLive]) (by simp [isLive]) (Eq.mpr (v58 k nm0 n (FTs l) vs.length ..) ?_);refine ⟨_,hv,z01 (fun h=>by rw [hb] at h;cases h) (fun _=>⟨z,he,z0j (fun w=>⟨⟨Int.le_refl _,by omega,by omega⟩, .refl _, ?_⟩) (fun w=>absurd w q)⟩)⟩;rw [Int.toNat_natCast]
     · rw [hp6];simp only [List.length_take,Nat.min_eq_left hlen];exact .refl _
     · refine zb8 (by rw [z1l,z1l,List.length_take];omega) fun i e e' he he'=> ?_;rw [CR,List.getElem?_map] at he he';obtain ⟨v,hv,rfl⟩:=Option.map_eq_some_iff.1 he';obtain ⟨v2,hv2,rfl⟩:=Option.map_eq_some_iff.1 he;rw [List.getElem?_take] at hv;split at hv
       · rw [hv2] at hv;injection hv with hv;subst hv;exact LeR.refl _
       · cases hv
end Go.AM

set_option maxRecDepth 100000
open Go Go.Proofs
namespace Go.AM
theorem c_hvarB  (s:Hp) (n:Int) (h0:0≤n):AC Tryz.prog 171 [aH 0,ci n, .c (.a (.fz (.z0 true)))] (oH s) (t2 (varE (some []) s.C n)) (oH s):=by
 refine AC.vc hP sh zmp (Nat.le_refl _) (by simp [isLive]) (by simp) (Eq.mpr (v171_i2 ..) ?_)
 first
 | (have hi:=z66 s n
    exact ⟨_,hi,z01 (fun h=>⟨by rw [varE,if_neg (by simpa using h)];exact .refl _,rfl⟩) (fun h=>⟨by rw [varE,if_pos (by simpa using h)];exact .refl _,rfl⟩)⟩)
 | (have hl:=z06 vs
    refine ⟨rfl,z01 (fun h=>⟨?_,rfl⟩) (fun h=> ?_)⟩
    · have h:=of_decide_eq_true h;rw [varE,if_pos (by omega)];exact .refl _
    · have h:=of_decide_eq_false h;have hlt:n.toNat<vs.length:=by omega
      rw [z2m hlt];have hi:=z66 s (vs[n.toNat]);have e:vs.getD n.toNat 0=vs[n.toNat]:=by simp [List.getD,hlt]
      refine ⟨⟨rfl,h0,by omega,rfl⟩,_,hi,z01 (fun h2=>⟨?_,rfl⟩) (fun h2=>⟨?_,rfl⟩)⟩
      · rw [varE,if_neg (by omega),e,if_neg (by simpa using h2)];exact .refl _
      · rw [varE,if_neg (by omega),e,if_pos (by simpa using h2)];exact .refl _)
 | (have hl:=z06 (v0::vs)
    refine z01 (fun h=>⟨?_,rfl⟩) (fun h=> ?_)
    · have h:=of_decide_eq_true h;rw [varE,if_pos (by simp only [List.length_cons];omega)];exact .refl _
    · have h:=of_decide_eq_false h;have hlt:n.toNat<(v0::vs).length:=by simp only [List.length_cons];omega
      rw [Nat.zero_add,z2m hlt];have hi:=z66 s ((v0::vs)[n.toNat]);have e:(v0::vs).getD n.toNat 0=(v0::vs)[n.toNat]:=by rw [List.getD,List.getElem?_eq_getElem hlt];rfl
      refine ⟨⟨h0,by omega⟩,⟨by omega,rfl,rfl⟩,_,hi,z01 (fun h2=>⟨?_,rfl⟩) (fun h2=>⟨?_,rfl⟩)⟩
      · rw [varE,if_neg (by simp only [List.length_cons];omega),e,if_neg (by simpa using h2)];exact .refl _
      · rw [varE,if_neg (by simp only [List.length_cons];omega),e,if_pos (by simpa using h2)];exact .refl _)
 | exact ⟨rfl,z01 (fun _=>⟨by rw [varE,if_pos (by simpa using h0)];exact .refl _,rfl⟩) (fun h=>absurd (of_decide_eq_false h) (by omega))⟩
abbrev stEnB  (f:Int) (x:List Tm) (n i:Int) (s:Hp):St:=
 ⟨[(0,aH 0),(2, .c (.a (.fz (.z0 true)))),(8,ci f),(89,aL x),(90,ci n),(91,ci i)],[(0,hp6 5 6 7 4 s),(1, .gone),(2, .gone),(3, .gone),(4, .mapz (NM s.N 0)),(5, .arz 5 (CR s.C)),(6, .arz 7 (TR s.T)),(7, .arz 1 (NR s.N))],8⟩
theorem l_encB (K:Nat)(hK:K≤1000000000)  :∀ (b pre:List Tm) (f:Int) (s:Hp),(∀ u∈b,∀ s,OkH s→NmB K s→AC Tryz.prog 111 [aH 0,aT u, .c (.a (.fz (.z0 true)))] (oH s) (t2 (encE (some []) u s).1) (oH' (encE (some []) u s).2))→(pre++b).length≤B→OkH s→NmB K s→
  RPt Tryz.prog 111 5 (t2 (encR (some []) b f s).1) (oH' (encR (some []) b f s).2) 5 (stEnB  f (pre++b) ((pre++b).length:Int) (pre.length:Int) s)
 | [],pre,f,s,_,_,_,_=>by
  refine RPt.vc hP sh z7h (Eq.mpr (zd6 ..) ?_);exact z01 (fun q=>absurd (of_decide_eq_true q) (by simp only [List.append_nil];omega)) (fun _=>⟨by rw [encR];exact .refl _,by rw [encR]⟩)
 | u::b,pre,f,s,hu,hl,ok,nm=>by
  have hlen:=z00 (pre++u::b);have hla:pre.length<(pre++u::b).length:=by simp
  have a1:=hu u List.mem_cons_self s ok nm;have g1:=z42 (some []) u s
  have hE:encR (some []) (u::b) f s=if (encE (some []) u s).1.2≠0 then ((0,(encE (some []) u s).1.2),(encE (some []) u s).2)
   else if (putS (encE (some []) u s).2 ⟨7,f,(encE (some []) u s).1.1,0,0⟩).1.2≠0 then ((0,(putS (encE (some []) u s).2 ⟨7,f,(encE (some []) u s).1.1,0,0⟩).1.2),(putS (encE (some []) u s).2 ⟨7,f,(encE (some []) u s).1.1,0,0⟩).2)
   else encR (some []) b (putS (encE (some []) u s).2 ⟨7,f,(encE (some []) u s).1.1,0,0⟩).1.1 (putS (encE (some []) u s).2 ⟨7,f,(encE (some []) u s).1.1,0,0⟩).2:=by rw [encR]
  have ok1:=g1.1 ok;have nm1:=fun h=>g1.nm (K:=K) h nm;generalize encE (some []) u s=z at*;have hp:=z2c z.2 ⟨7,f,z.1.1,0,0⟩ (by have:=ok1.C;omega);have nx:=fun (h:z.1.2=0)=>l_encB K hK  b (pre++ [u]) (putS z.2 ⟨7,f,z.1.1,0,0⟩).1.1 (putS z.2 ⟨7,f,z.1.1,0,0⟩).2 (fun v hv=>hu v (List.mem_cons_of_mem _ hv)) (by simpa using hl) (ok1.put _) ((nm1 h).put _);rw [show (pre++ [u])++b=pre++u::b by simp,show (((pre++ [u]).length:Nat):Int)=(pre.length:Int)+1 by simp] at nx;generalize putS z.2 ⟨7,f,z.1.1,0,0⟩=y at*;simp only [B] at hl;refine RPt.vc hP sh z7h (Eq.mpr (zd6 ..) ?_);rw [zgb,w64 (x:=(pre.length:Int)+1) (by omega) (by omega),hE];refine z01 (fun _=>⟨⟨rfl,by omega,by rw [hlen];omega,zd5 pre u b⟩,z,a1,z0j (fun q=> ?_) (fun q=>⟨y,hp,z0j (fun q2=> ?_) (fun q2=> ?_)⟩)⟩) (fun q=>absurd (of_decide_eq_false q) (by omega))
  · rw [if_pos q];exact ⟨.refl _,rfl⟩
  · rw [if_neg (fun w=>w q),if_pos q2];exact ⟨.refl _,rfl⟩
  · rw [if_neg (fun w=>w q),if_neg (fun w=>w q2)];exact nx q
theorem c_encB (K:Nat)(hK:K≤1000000000)  :∀ t:Tm,z07 t=true→t.sz≤B→∀ s,OkH s→NmB K s→AC Tryz.prog 111 [aH 0,aT t, .c (.a (.fz (.z0 true)))] (oH s) (t2 (encE (some []) t s).1) (oH' (encE (some []) t s).2):=by
 refine Tm.ind fun t ih=> ?_;obtain ⟨k,nm0,n,l⟩:=t;intro hv hz s ok nm;have hsz:Tm.szs l+1≤B:=by simp only [Tm.sz] at hz;omega
 have hsl:=Tm.szs_length l;refine AC.vc hP sh z7h (by simp) (by simp [isLive]) (by simp [isLive]) (Eq.mpr (v111_i2 k nm0 n (FTs l)  ..) ?_);have hok:=ok.C;have hnm:s.N.length≤s.C.length+K:=nm;refine z04 (fun e0=> ?_) (fun n0=>z04 (fun e1=> ?_) (fun n1=>z04 (fun e2=> ?_) (fun n2=>z04 (fun e3=> ?_) (fun n3=>z04 (fun e4=> ?_) (fun n4=> ?_)))))
 · have hs:=zs5 s nm0 (by omega);have hp:=z2c (symS s nm0).2 ⟨0,(symS s nm0).1,0,0,0⟩ (by unfold symS;split<;>simp only<;>omega);exact ⟨symS s nm0,hs,_,hp,by rw [encE,if_pos e0];exact .refl _,by rw [encE,if_pos e0]⟩
 · exact ⟨_,z2c s ⟨1,n,0,0,0⟩ (by omega),by rw [encE,if_neg n0,if_pos e1];exact .refl _,by rw [encE,if_neg n0,if_pos e1]⟩
 · exact ⟨_,z2c s ⟨2,n,0,0,0⟩ (by omega),by rw [encE,if_neg n0,if_neg n1,if_pos e2];exact .refl _,by rw [encE,if_neg n0,if_neg n1,if_pos e2]⟩
 · exact ⟨_,z2c s ⟨3,n,0,0,0⟩ (by omega),by rw [encE,if_neg n0,if_neg n1,if_neg n2,if_pos e3];exact .refl _,by rw [encE,if_neg n0,if_neg n1,if_neg n2,if_pos e3]⟩
 · have h4:0≤n:=by
    subst e4;rw [z07] at hv;simp at hv;exact hv.1.1.1.1
   exact ⟨_,c_hvarB  s n h4,by rw [encE,if_neg n0,if_neg n1,if_neg n2,if_neg n3,if_pos e4];exact .refl _,by rw [encE,if_neg n0,if_neg n1,if_neg n2,if_neg n3,if_pos e4]⟩
 · have h56:=k56 hv n0 n1 n2 n3 n4;have hvl:=zm hv h56;have hE:encE (some []) (.mk k nm0 n l) s=encL (some []) k l s:=by rw [encE,if_neg n0,if_neg n1,if_neg n2,if_neg n3,if_neg n4]
   rw [hE]
   have hne:l ≠ []:=by
    intro e;subst e;rcases h56 with rfl | rfl<;>simp [z07,z00] at hv
   match l,hne with
   | u::l,_=>
    have hlen:=z00 (u::l);have a1:=ih u List.mem_cons_self (z6l hvl List.mem_cons_self) (by have:=Tm.szs_mem (t:=u) (l:=u::l) List.mem_cons_self;omega) s ok nm;have g1:=z42 (some []) u s
    have hL:encL (some []) k (u::l) s=if (encE (some []) u s).1.2≠0 then ((0,(encE (some []) u s).1.2),(encE (some []) u s).2)
     else if k=5 then putS (encE (some []) u s).2 ⟨6,(encE (some []) u s).1.1,0,0,0⟩ else encR (some []) l (encE (some []) u s).1.1 (encE (some []) u s).2:=by rw [encL]
    rw [hL];have ok1:=g1.1 ok;have nm1:=fun h=>g1.nm (K:=K) h nm;generalize encE (some []) u s=z at*;have hp:=z2c z.2 ⟨6,z.1.1,0,0,0⟩ (by have:=ok1.C;omega);have lp:=fun (h:z.1.2=0)=>l_encB K hK  l [] z.1.1 z.2 (fun v hv s o m=>ih v (List.mem_cons_of_mem _ hv) (z6l hvl (List.mem_cons_of_mem _ hv)) (by have:=Tm.szs_mem (t:=v) (l:=u::l) (List.mem_cons_of_mem _ hv);omega) s o m) (by simp only [List.nil_append];simp only [List.length_cons] at hsl;omega) ok1 (nm1 h);have et:List.drop 1 (List.take (Int.toNat (((FTs (u::l)).length:Nat):Int)) (FTs (u::l)))=FTs l:=by rw [Int.toNat_natCast,List.take_of_length_le (Nat.le_refl _)];rfl
    have el:aE (List.getD (FTs (u::l)) 0 [])=aT u:=z4n u;rw [el,et];refine ⟨⟨rfl,Int.le_refl _,by rw [hlen];simp only [List.length_cons];omega,z4j u⟩,z,a1,z0j (fun q=> ?_) (fun q=>z04 (fun e5=> ?_) (fun n5=>⟨rfl,⟨by omega,by rw [hlen];simp only [List.length_cons];omega,Int.le_refl _⟩,rfl, ?_⟩))⟩
    · rw [if_pos q];exact ⟨.refl _,rfl⟩
    · rw [if_neg (fun w=>w q),if_pos e5];exact ⟨_,hp, .refl _,rfl⟩
    · rw [if_neg (fun w=>w q),if_neg n5,z00];exact lp q
theorem c_EncB (K:Nat)(hK:K≤1000000000)  (t:Tm)(hz:t.sz≤B)(s:Hp)(ok:OkH s)(nm:NmB K s):AC Tryz.prog 58 [aH 0,aT t, .c (.a (.fz (.z0 true)))] (oH s) (t2 (encS (some []) s t).1) (oH' (encS (some []) s t).2):=by
 have hv:=z8q t hz;have he:=fun h=>c_encB K hK  t h hz s ok nm;obtain ⟨_,d,e,g1,_⟩:=z42 (some []) t s
 have e0:encS (some []) s t=if z07 t=false then ((0,1),s)
  else if (encE (some []) t s).1.2≠0 then ((0,(encE (some []) t s).1.2),⟨(encE (some []) t s).2.C.take s.C.length,(encE (some []) t s).2.T,(encE (some []) t s).2.M,(encE (some []) t s).2.L,(encE (some []) t s).2.N⟩)
  else encE (some []) t s:=rfl
 rw [e0];have hlen:s.C.length≤(encE (some []) t s).2.C.length:=by rw [g1];simp
 generalize encE (some []) t s=z at*;by_cases hb:z07 t=false
 · rw [if_pos hb];obtain ⟨k,nm0,n,l⟩:=t;refine AC.vc hP sh lv58 (by simp) (by simp [isLive]) (by simp [isLive]) (Eq.mpr (zrx k nm0 n (FTs l)  ..) ?_);exact ⟨_,hv,z01 (fun _=>⟨.refl _,rfl⟩) (fun h=>by rw [hb] at h;cases h)⟩
 · rw [if_neg hb];have hb:z07 t=true:=by simpa using hb
   have he:=he hb;by_cases q:z.1.2=0
   · rw [if_neg (fun w=>w q)];obtain ⟨k,nm0,n,l⟩:=t;refine AC.vc hP sh lv58 (by simp) (by simp [isLive]) (by simp [isLive]) (Eq.mpr (zrx k nm0 n (FTs l)  ..) ?_);refine ⟨_,hv,z01 (fun h=>by rw [hb] at h;cases h) (fun _=>⟨z,he,z0j (fun w=>absurd q w) (fun _=> ?_)⟩)⟩;obtain ⟨⟨z1,z2⟩,zs⟩:=z;dsimp only at q;subst q;exact ⟨.refl _,rfl⟩
   · rw [if_pos q];refine AC.obj (Hs':=[.arr 6 [[.a (.osl 5 5 0 s.C.length), .a (.osl 6 7 0 z.2.T.length), .a (.fz (.int .i64 z.2.M)), .a (.fz (.int .i64 z.2.L)), .a (.osl 7 1 0 z.2.N.length), .a (.mp 4)]], .gone, .gone, .gone, .mapz (NM z.2.N 0),  .arz 5 (CR z.2.C), .arz 7 (TR z.2.T), .arz 1 (NR z.2.N)]) ?_ ⟨?_, .refl _, .refl _, .refl _, .refl _, ?_, .refl _, .refl _,trivial⟩
     · obtain ⟨k,nm0,n,l⟩:=t;refine AC.vc hP sh lv58 (by simp) (by simp [isLive]) (by simp [isLive]) (Eq.mpr (zrx k nm0 n (FTs l)  ..) ?_);refine ⟨_,hv,z01 (fun h=>by rw [hb] at h;cases h) (fun _=>⟨z,he,z0j (fun w=>⟨⟨Int.le_refl _,by omega,by omega⟩, .refl _, ?_⟩) (fun w=>absurd w q)⟩)⟩;rw [Int.toNat_natCast]
     · rw [hp6];simp only [List.length_take,Nat.min_eq_left hlen];exact .refl _
     · refine zb8 (by rw [z1l,z1l,List.length_take];omega) fun i e e' he he'=> ?_;rw [CR,List.getElem?_map] at he he';obtain ⟨v,hv,rfl⟩:=Option.map_eq_some_iff.1 he';obtain ⟨v2,hv2,rfl⟩:=Option.map_eq_some_iff.1 he;rw [List.getElem?_take] at hv;split at hv
       · rw [hv2] at hv;injection hv with hv;subst hv;exact LeR.refl _
       · cases hv
end Go.AM

set_option maxRecDepth 100000
open Go Go.Proofs
namespace Go.AM
structure Wp where
 s:Hp
 f:Int
structure Sd where
 h:Int
 js:List Int
 c:Cel
abbrev noS:Sd:=⟨0,[],noC⟩
def lookW (w:Wp)(a:Int):(Sd×Int)×Wp:=
 if (z2e w.s a w.f).1.2.2≠0 then ((noS,(z2e w.s a w.f).1.2.2),⟨(z2e w.s a w.f).2,w.f⟩)
 else ((⟨(z2e w.s a w.f).1.1.1,(z2e w.s a w.f).1.1.2,cellOf (z2e w.s a w.f).2.C (z2e w.s a w.f).1.1.1⟩,0),⟨(z2e w.s a w.f).2,(z2e w.s a w.f).1.2.1⟩)
def z2i (w:Wp)(a:Int):(Tm×Int)×Wp:=
 (((z1e w.s a w.f).1.1,(z1e w.s a w.f).1.2.2),⟨(z1e w.s a w.f).2,if (z1e w.s a w.f).1.2.2=0 then (z1e w.s a w.f).1.2.1 else w.f⟩)
def lfZ (a b:Tm):Bool:=a.k==b.k&&a.n==b.n
def z4l (t:Tm):Tm×Bool:=if z07 t=true then (if (z0d t).k=3∨(z0d t).k=1 then (z0d t,true) else (noT,false)) else (noT,false)
def badZ (lv:Int)(out:List Tm)(u:Tm):Bool:= !(z4l u).2||((z4l u).1.k==1&&decide ((z4l u).1.n≤lv))||out.any fun v=>lfZ v (z4l u).1
def z03 (lv:Int):List Int→List Tm→Wp→(List Tm×Int)×Wp
 | [],out,w=>((out,0),w)
 | a::l,out,w=>
  if (z2i w a).1.2≠0 then (([],(z2i w a).1.2),(z2i w a).2)
  else if badZ lv out (z2i w a).1.1=true then (([],171),(z2i w a).2)
  else z03 lv l (out++ [(z4l (z2i w a).1.1).1]) (z2i w a).2
abbrev bndT (n:Int):Tm:= .mk 3 [] n []
def setW (w:Wp)(x:Int)(t:Tm):Int×Wp:=
 if (encS none w.s t).1.2≠0 then ((encS none w.s t).1.2,⟨(encS none w.s t).2,w.f⟩)
 else ((setS (encS none w.s t).2 x ⟨5,(encS none w.s t).1.1,0,0,0⟩).1,⟨(setS (encS none w.s t).2 x ⟨5,(encS none w.s t).1.1,0,0,0⟩).2,w.f⟩)
def z09 (s:Hp)(lv:Int):(Int×Int)×Hp:=putS s ⟨4,foldMax [lv,0],0,0,0⟩
def z2u (w:Wp)(x lv:Int)(lams:Nat)(on:List Tm):(Tm×Int)×Wp:=
 if (z09 w.s lv).1.2≠0 then ((noT,(z09 w.s lv).1.2),⟨(z09 w.s lv).2,w.f⟩)
 else ((.mk 4 [] (z09 w.s lv).1.1 [],(setW ⟨(z09 w.s lv).2,w.f⟩ x (z1s lams (z08 (.mk 4 [] (z09 w.s lv).1.1 []) on))).1),(setW ⟨(z09 w.s lv).2,w.f⟩ x (z1s lams (z08 (.mk 4 [] (z09 w.s lv).1.1 []) on))).2)
def onZ:List Tm→List Tm→List Tm
 | a::l,b::m=>(if lfZ a b=true then [bndT (l.length:Int)] else [])++onZ l m
 | _,_=> []
def z49 (w:Wp)(x y:Sd):Int×Wp:=
 if (z03 x.c.a x.js [] w).1.2≠0 then ((z03 x.c.a x.js [] w).1.2,(z03 x.c.a x.js [] w).2)
 else if (z03 y.c.a y.js [] (z03 x.c.a x.js [] w).2).1.2≠0 then ((z03 y.c.a y.js [] (z03 x.c.a x.js [] w).2).1.2,(z03 y.c.a y.js [] (z03 x.c.a x.js [] w).2).2)
 else if (z03 x.c.a x.js [] w).1.1.length≠(z03 y.c.a y.js [] (z03 x.c.a x.js [] w).2).1.1.length then (171,(z03 y.c.a y.js [] (z03 x.c.a x.js [] w).2).2)
 else if (onZ (z03 x.c.a x.js [] w).1.1 (z03 y.c.a y.js [] (z03 x.c.a x.js [] w).2).1.1).length=(z03 x.c.a x.js [] w).1.1.length then (0,(z03 y.c.a y.js [] (z03 x.c.a x.js [] w).2).2)
 else ((z2u (z03 y.c.a y.js [] (z03 x.c.a x.js [] w).2).2 x.h x.c.a (z03 x.c.a x.js [] w).1.1.length (onZ (z03 x.c.a x.js [] w).1.1 (z03 y.c.a y.js [] (z03 x.c.a x.js [] w).2).1.1)).1.2,
  (z2u (z03 y.c.a y.js [] (z03 x.c.a x.js [] w).2).2 x.h x.c.a (z03 x.c.a x.js [] w).1.1.length (onZ (z03 x.c.a x.js [] w).1.1 (z03 y.c.a y.js [] (z03 x.c.a x.js [] w).2).1.1)).2)
structure Iv where
 x:Int
 lv:Int
 l:List Tm
def ixZ (o:Tm):List Tm→Option Nat
 | []=>none
 | u::l=>if lfZ u o=true then some l.length else ixZ o l
def outZ (t:Tm)(k:Int):Tm:=if t.k=3 then .mk t.k t.s (wr (t.n-k)) t.l else t
def z3n (v:Iv)(t:Tm)(k:Int):Tm×Bool:=
 if t.k=3∧t.n<k then (t,true)
 else match ixZ (outZ t k) v.l with
  | some r=>(bndT (k+r),true)
  | none=>(t,t.k==1&&decide (t.n≤v.lv))
def im1 (v:Iv)(k:Int):List Tm→List Tm×List Tm
 | []=>([],[])
 | t::l=>if (z3n v t k).2=true then (bndT (l.length:Int)::(im1 v k l).1,(z3n v t k).1::(im1 v k l).2) else im1 v k l
def im2 (lv vlv k:Int):List Tm→List Tm×List Tm
 | []=>([],[])
 | t::l=>if lv>vlv∧t.k=1∧t.n≤lv then (t::(im2 lv vlv k l).1,bndT (k+(l.length:Int))::(im2 lv vlv k l).2) else im2 lv vlv k l
def z6a (v:Iv)(y:Sd)(k:Int)(z:(List Tm×Int)×Wp):(Tm×Int)×Wp:=
 if z.1.2≠0 then ((noT,z.1.2),z.2)
 else if (im1 v k z.1.1).1.length=z.1.1.length∧y.c.a≤v.lv then ((z08 (.mk 4 [] y.h []) (im1 v k z.1.1).2,0),z.2)
 else ((z08 (z2u z.2 y.h (z0k [v.lv,y.c.a]) z.1.1.length ((im1 v k z.1.1).1++(im2 y.c.a v.lv k v.l).1)).1.1 ((im1 v k z.1.1).2++(im2 y.c.a v.lv k v.l).2),
  (z2u z.2 y.h (z0k [v.lv,y.c.a]) z.1.1.length ((im1 v k z.1.1).1++(im2 y.c.a v.lv k v.l).1)).1.2),
  (z2u z.2 y.h (z0k [v.lv,y.c.a]) z.1.1.length ((im1 v k z.1.1).1++(im2 y.c.a v.lv k v.l).1)).2)
def zbx (v:Iv)(y:Sd)(k:Int)(w:Wp):(Tm×Int)×Wp:=z6a v y k (z03 y.c.a y.js [] w)
def z4a (v:Iv)(N:List (List UInt8))(x:Sd)(k:Int):Tm×Bool:=
 if x.c.t=0 then (.mk 0 (z9u N x.c.a) 0 [],true)
 else if x.c.t=2 then (.mk 2 [] x.c.a [],true)
 else if x.c.t=1 then z3n v (.mk 1 [] x.c.a []) k
 else z3n v (bndT x.c.a) k
def z6y (F:Int→Wp→(Tm×Int)×Wp):List Int→Tm→Wp→(Tm×Int)×Wp
 | [],t,w=>((t,0),w)
 | b::l,t,w=>if (F b w).1.2≠0 then ((noT,(F b w).1.2),(F b w).2) else z6y F l (z08 t [(F b w).1.1]) (F b w).2
def termG (v:Iv)(F:Int→Int→Wp→(Tm×Int)×Wp)(k:Int)(z:(Sd×Int)×Wp):(Tm×Int)×Wp:=
 if z.1.2≠0 then ((noT,z.1.2),z.2)
 else if z.1.1.c.t=6 then ((z1s 1 (F z.1.1.c.a (k+1) z.2).1.1,(F z.1.1.c.a (k+1) z.2).1.2),(F z.1.1.c.a (k+1) z.2).2)
 else if z.1.1.c.t=4 then (if z.1.1.h=v.x then ((noT,170),z.2) else zbx v z.1.1 k z.2)
 else if (z4a v z.2.s.N z.1.1 k).2=false then ((noT,170),z.2)
 else z6y (fun b w=>F b k w) z.1.1.js (z4a v z.2.s.N z.1.1 k).1 z.2
def z0x (v:Iv):Nat→Int→Int→Wp→(Tm×Int)×Wp
 | 0,_,_,w=>((noT,80),w)
 | n+1,a,k,w=>termG v (z0x v n) k (lookW w a)
def zdu (x:Sd)(a:Int)(z:(List Tm×Int)×Wp):Int×Wp:=
 if z.1.2≠0 then (z.1.2,z.2)
 else if (z0x ⟨x.h,x.c.a,z.1.1⟩ (z.2.f.toNat+1) a 0 z.2).1.2≠0 then ((z0x ⟨x.h,x.c.a,z.1.1⟩ (z.2.f.toNat+1) a 0 z.2).1.2,(z0x ⟨x.h,x.c.a,z.1.1⟩ (z.2.f.toNat+1) a 0 z.2).2)
 else setW (z0x ⟨x.h,x.c.a,z.1.1⟩ (z.2.f.toNat+1) a 0 z.2).2 x.h (z1s z.1.1.length (z0x ⟨x.h,x.c.a,z.1.1⟩ (z.2.f.toNat+1) a 0 z.2).1.1)
def z47 (w:Wp)(x:Sd)(a:Int):Int×Wp:=zdu x a (z03 x.c.a x.js [] w)
def z2t (w:Wp)(x:Sd)(a:Int):(Int×Int)×Wp:=
 if x.c.t=6 then ((x.c.a,0),w)
 else if (z1p w.s a 1).1.2≠0 then ((0,(z1p w.s a 1).1.2),⟨(z1p w.s a 1).2,w.f⟩)
 else if (putS (z1p w.s a 1).2 ⟨3,0,0,0,0⟩).1.2≠0 then ((0,(putS (z1p w.s a 1).2 ⟨3,0,0,0,0⟩).1.2),⟨(putS (z1p w.s a 1).2 ⟨3,0,0,0,0⟩).2,w.f⟩)
 else ((putS (putS (z1p w.s a 1).2 ⟨3,0,0,0,0⟩).2 ⟨7,(z1p w.s a 1).1.1,(putS (z1p w.s a 1).2 ⟨3,0,0,0,0⟩).1.1,0,0⟩).1,
  ⟨(putS (putS (z1p w.s a 1).2 ⟨3,0,0,0,0⟩).2 ⟨7,(z1p w.s a 1).1.1,(putS (z1p w.s a 1).2 ⟨3,0,0,0,0⟩).1.1,0,0⟩).2,w.f⟩)
abbrev Ow:=(Int×List (Int×Int))×Wp
def z7t (w:Wp)(x y:Sd)(p:Int×Int):Ow:=
 if (z2t w x p.1).1.2≠0 then (((z2t w x p.1).1.2,[]),(z2t w x p.1).2)
 else if (z2t (z2t w x p.1).2 y p.2).1.2≠0 then (((z2t (z2t w x p.1).2 y p.2).1.2,[]),(z2t (z2t w x p.1).2 y p.2).2)
 else ((0,[((z2t w x p.1).1.1,(z2t (z2t w x p.1).2 y p.2).1.1)]),(z2t (z2t w x p.1).2 y p.2).2)
def zlu (x y:Sd):Bool:=x.c.t !=y.c.t||x.c.a !=y.c.a||x.js.length !=y.js.length
def oneG (p:Int×Int)(x y:Sd)(w:Wp):Ow:=
 if x.c.t=6∨y.c.t=6 then z7t w x y p
 else if x.c.t=4∧y.c.t=4∧x.h=y.h then (((z49 w x y).1,[]),(z49 w x y).2)
 else if x.c.t=4 then (((z47 w x p.2).1,[]),(z47 w x p.2).2)
 else if y.c.t=4 then (((z47 w y p.1).1,[]),(z47 w y p.1).2)
 else if zlu x y=true then ((170,[]),w)
 else ((0,x.js.zip y.js),w)
def oneW (w:Wp)(p:Int×Int):Ow:=
 if (lookW w p.1).1.2≠0 then (((lookW w p.1).1.2,[]),(lookW w p.1).2)
 else if (lookW (lookW w p.1).2 p.2).1.2≠0 then (((lookW (lookW w p.1).2 p.2).1.2,[]),(lookW (lookW w p.1).2 p.2).2)
 else oneG p (lookW w p.1).1.1 (lookW (lookW w p.1).2 p.2).1.1 (lookW (lookW w p.1).2 p.2).2
def runZ:Nat→Wp→List (Int×Int)→Int×Wp
 | _,w,[]=>(0,w)
 | 0,w,_::_=>(80,w)
 | n+1,w,p::st=>
  if w.f≤0 then (80,w)
  else if (oneW ⟨w.s,w.f-1⟩ p).1.1≠0 then ((oneW ⟨w.s,w.f-1⟩ p).1.1,(oneW ⟨w.s,w.f-1⟩ p).2)
  else runZ n (oneW ⟨w.s,w.f-1⟩ p).2 ((oneW ⟨w.s,w.f-1⟩ p).1.2++st)
def oddZ (C:List Cel)(x:Int):Bool:= !inC C x||decide (9≤(cellOf C x).t)
def allZ (s:Hp)(a b:List Int)(f:Int):(Int×Int)×Hp:=
 if a.length≠b.length∨a.any (oddZ s.C)=true∨b.any (oddZ s.C)=true then ((0,1),s)
 else if (runZ f.toNat ⟨s,f⟩ (a.zip b)).1≠0 then ((0,(runZ f.toNat ⟨s,f⟩ (a.zip b)).1),z5r (runZ f.toNat ⟨s,f⟩ (a.zip b)).2.s s.C.length s.T.length)
 else (((runZ f.toNat ⟨s,f⟩ (a.zip b)).2.f,0),(runZ f.toNat ⟨s,f⟩ (a.zip b)).2.s)
abbrev aWk:TV:= .c (.a (.ep 0 3 0 0))
abbrev wk3 (o r:Nat)(f:Int)(n:Nat):AObj:= .arr 3 [[.a (.ep o 6 0 0), .a (.osl r 2 0 n), .a (.fz (.int .i64 f))]]
abbrev oWk (w:Wp)(n:Nat)(R:List (List FV)):List AObj:=[wk3 1 6 w.f n,hp6 2 3 4 5 w.s, .arz 5 (CR w.s.C), .arz 7 (TR w.s.T), .arz 1 (NR w.s.N), .mapz (NM w.s.N 0), .arz 2 R]
abbrev oWk' (w:Wp)(n:Nat)(R:List (List FV)):List AObj:=[wk3 1 10 w.f n,hp6 7 8 9 5 w.s, .gone, .gone, .gone, .mapz (NM w.s.N 0), .gone, .arz 5 (CR w.s.C), .arz 7 (TR w.s.T), .arz 1 (NR w.s.N), .arz 2 R]
abbrev aSd (x:Sd):TV:= .agg [.a (.fz (.int .i64 x.h)), .a (.fz (.sl false 1 (IR x.js))), .a (.fz (.int .i64 x.c.t)), .a (.fz (.int .i64 x.c.a)), .a (.fz (.int .i64 x.c.b)), .a (.fz (.int .i64 x.c.c)), .a (.fz (.int .i64 x.c.d))]
abbrev tSd (x:Sd×Int):TV:= .tup [(true,[.a (.fz (.int .i64 x.1.h)), .a (.fz (.sl false 1 (IR x.1.js))), .a (.fz (.int .i64 x.1.c.t)), .a (.fz (.int .i64 x.1.c.a)), .a (.fz (.int .i64 x.1.c.b)), .a (.fz (.int .i64 x.1.c.c)), .a (.fz (.int .i64 x.1.c.d))]),(false,[.a (.fz (.int .i64 x.2))])]
abbrev tTE (x:Tm×Int):TV:= .tup [(true,cT x.1),(false,[.a (.fz (.int .i64 x.2))])]
structure OkW (K:Nat)(w:Wp):Prop where
 h:OkH w.s
 f0:0≤w.f
 f1:w.f≤3000000
 n:NmB K w.s
theorem noTE (e:Int):TV.Le (.tup [(true,[.a (.fz (.int .i64 0)), .a (.fz (.str [])), .a (.fz (.int .i64 0)), .a (.fz .N)]),(false,[.a (.fz (.int .i64 e))])]) (tTE (noT,e)):=leTE (l:=[]) z2s
theorem zjv (a b:Tm):AC Tryz.prog 246 [aT a,aT b] [] (cb (lfZ a b)) []:=by
 obtain ⟨k,s,n,l⟩:=a;obtain ⟨k',s',n',l'⟩:=b;refine AC.vc hP sh lv246 (Nat.le_refl _) (by simp) (by simp) (Eq.mpr (v246 k s n (FTs l) k' s' n' (FTs l') _ _) ?_);have e:lfZ (.mk k s n l) (.mk k' s' n' l')=(k==k'&&n==n'):=rfl;refine z01 (fun h=> ?_) (fun h=> ?_)
 · have h:(k==k')=true:=h;rw [e,h,Bool.true_and];exact ⟨.refl _,rfl⟩
 · have h:(k==k')=false:=h;rw [e,h,Bool.false_and];exact ⟨.refl _,rfl⟩
theorem z7v (n:Int):AC Tryz.prog 247 [ci n] [] (aT (bndT n)) []:=by
 refine AC.vc hP sh lv247 (Nat.le_refl _) (by simp) (by simp) (Eq.mpr (v247 ..) ?_);exact ⟨leT z2s,rfl⟩
theorem zit (x:Sd):AC Tryz.prog 184 [aSd x] [] (cb (x.c.t==4)) []:=by
 refine AC.vc hP sh lv184 (Nat.le_refl _) (by simp) (by simp) (Eq.mpr (v184 ..) ?_);exact ⟨.refl _,rfl⟩
theorem c_hclash (x y:Sd):AC Tryz.prog 187 [aSd x,aSd y] [] (cb (zlu x y)) []:=by
 have e:zlu x y=(x.c.t !=y.c.t||x.c.a !=y.c.a||x.js.length !=y.js.length):=rfl;refine AC.vc hP sh lv187 (Nat.le_refl _) (by simp) (by simp) (Eq.mpr (v187 ..) ?_);rw [z06,z06];refine z01 (fun h=> ?_) (fun h=>z01 (fun h2=> ?_) (fun h2=>⟨rfl,rfl, ?_⟩))
 · rw [e,show (x.c.t !=y.c.t)=true from h];exact z0a rfl
 · rw [e,show (x.c.t !=y.c.t)=false from h,show (x.c.a !=y.c.a)=true from h2];exact z0a rfl
 · rw [e,show (x.c.t !=y.c.t)=false from h,show (x.c.a !=y.c.a)=false from h2];refine z0a ?_;by_cases q:x.js.length=y.js.length
   · simp [q]
   · have:(x.js.length:Int)≠(y.js.length:Int):=by omega
     rw [show ((x.js.length:Int) !=(y.js.length:Int))=true from bne_iff_ne.2 this,show (x.js.length !=y.js.length)=true from bne_iff_ne.2 q];rfl
theorem c_hLeaf (t:Tm)(hs:t.sz≤SZ):AC Tryz.prog 295 [aT t] [] (.tup [(true,cT (z4l t).1),(false,[.a (.fz (.bool (z4l t).2))])]) []:=by
 have h0:=z8q t (by simp only [SZ,B] at*;omega);have h:=fun h=>zhp t (z4c t h) (za8 h) hs (zdb t h);have e:z4l t=if z07 t=true then (if (z0d t).k=3∨(z0d t).k=1 then (z0d t,true) else (noT,false)) else (noT,false):=rfl
 rw [e];generalize z0d t=z at*;obtain ⟨k,s,n,l⟩:=t;refine AC.vc hP sh lv295 (Nat.le_refl _) (by simp) (by simp) (Eq.mpr (v295 k s n (FTs l) _ _) ?_);refine ⟨_,h0,z01 (fun hv=> ?_) (fun hv=>⟨_,h (zma hv),z01 (fun h3=> ?_) (fun h3=>z01 (fun h1=> ?_) (fun h1=> ?_))⟩)⟩
 · rw [if_neg (by rw [not_t hv];simp)];exact ⟨leTB (l:=[]) z2s,rfl⟩
 · have h3:(z.k==3)=true:=h3;rw [if_pos (zma hv),if_pos (.inl (by simpa using h3))];exact ⟨.refl _,rfl⟩
 · have h1:(z.k==1)=true:=h1;rw [if_pos (zma hv),if_pos (.inr (by simpa using h1))];exact ⟨.refl _,rfl⟩
 · have h3:(z.k==3)=false:=h3;have h1:(z.k==1)=false:=h1;rw [if_pos (zma hv),if_neg (by simp at h3 h1;rintro (q | q)<;>contradiction)];exact ⟨leTB (l:=[]) z2s,rfl⟩
theorem zjt (K:Nat)(w:Wp)(n:Nat)(R:List (List FV))(ok:OkW K w)(a:Int):AC Tryz.prog 182 [aWk,ci a] (oWk w n R) (tSd (lookW w a).1) (oWk' (lookW w a).2 n R):=by
 have hh:=c_pHead w.s a w.f ok.h (by have:=ok.f0;omega) (by have:=ok.f1;omega)
 have e:lookW w a=if (z2e w.s a w.f).1.2.2≠0 then ((noS,(z2e w.s a w.f).1.2.2),⟨(z2e w.s a w.f).2,w.f⟩)
  else ((⟨(z2e w.s a w.f).1.1.1,(z2e w.s a w.f).1.1.2,cellOf (z2e w.s a w.f).2.C (z2e w.s a w.f).1.1.1⟩,0),⟨(z2e w.s a w.f).2,(z2e w.s a w.f).1.2.1⟩):=rfl
 rw [e];generalize z2e w.s a w.f=z at*;obtain ⟨⟨⟨hd,xs⟩,zf,ze⟩,zs⟩:=z;have hc:=z41 zs hd;dsimp only at*;refine AC.vc hP sh lv182 (by simp) (by simp [isLive]) (by simp [isLive]) (Eq.mpr (v182 ..) ?_);refine ⟨(hd,xs,zf,ze,zs),hh,z0j (fun q=> ?_) (fun q=> ?_)⟩
 · rw [if_pos q];exact ⟨zca (xs:=[(true,[.int .i64 0, .N, .int .i64 0, .int .i64 0, .int .i64 0, .int .i64 0, .int .i64 0]),(false,[.int .i64 ze])]) (ys:=[(true,[.int .i64 0, .sl false 1 (IR []), .int .i64 0, .int .i64 0, .int .i64 0, .int .i64 0, .int .i64 0]),(false,[.int .i64 ze])]) ⟨⟨rfl, .refl _, .N 1, .refl _, .refl _, .refl _, .refl _, .refl _,trivial⟩,⟨rfl, .refl _⟩,trivial⟩,rfl⟩
 · rw [if_neg (fun w=>w q)];exact ⟨_,_,_,_,_,_,hc, .refl _,rfl⟩
theorem c_wfull (K:Nat)(w:Wp)(n:Nat)(R:List (List FV))(ok:OkW K w)(a:Int):AC Tryz.prog 294 [aWk,ci a] (oWk w n R) (tTE (z2i w a).1) (oWk' (z2i w a).2 n R):=by
 have hh:=zj5 w.s a w.f ok.h (by have:=ok.f0;omega) (by have:=ok.f1;omega);have e:z2i w a=(((z1e w.s a w.f).1.1,(z1e w.s a w.f).1.2.2),⟨(z1e w.s a w.f).2,if (z1e w.s a w.f).1.2.2=0 then (z1e w.s a w.f).1.2.1 else w.f⟩):=rfl
 rw [e];generalize z1e w.s a w.f=z at*;obtain ⟨⟨t,zf,ze⟩,zs⟩:=z;dsimp only at*;refine AC.vc hP sh lv294 (by simp) (by simp [isLive]) (by simp [isLive]) (Eq.mpr (v294 ..) ?_);refine ⟨(t,zf,ze,zs),hh,z04 (fun q=> ?_) (fun q=> ?_)⟩
 · rw [if_pos q];exact ⟨.refl _,rfl⟩
 · rw [if_neg q];exact ⟨.refl _,rfl⟩
theorem za5 (s:Hp)(ok:OkH s)(lv:Int):AC Tryz.prog 27 [aH 0,ci lv] (oH s) (t2 (z09 s lv).1) (oH' (z09 s lv).2):=by
 have hp:=z2c s ⟨4,foldMax [lv,0],0,0,0⟩ (by have:=ok.C;omega);refine AC.vc hP sh lv27 (by simp) (by simp [isLive]) (by simp [isLive]) (Eq.mpr (v27 ..) ?_);exact ⟨z09 s lv,hp, .refl _,rfl⟩
end Go.AM

set_option maxRecDepth 100000
open Go Go.Proofs
namespace Go.AM
structure Rs (K:Nat)(w:Wp)(e:Int)(v:Wp):Prop where
 h:OkH v.s
 f0:0≤v.f
 f1:v.f≤w.f
 mv:Mv true w.s v.s
 n:e=0→NmB K v.s
 m:NmB (K+1048577) v.s
theorem OkW.refl {K:Nat}{w:Wp}(h:OkW K w)(e:Int):Rs K w e w:=⟨h.h,h.f0,Int.le_refl _, .refl _,fun _=>h.n,by have:=h.n;unfold NmB at*;omega⟩
theorem Rs.ok {K:Nat}{w v:Wp}{e:Int}(h:Rs K w e v)(ok:OkW K w)(h0:e=0):OkW K v:=⟨h.h,h.f0,by have:=h.f1;have:=ok.f1;omega,h.n h0⟩
theorem Rs.trans {K:Nat}{w v u:Wp}{e d:Int}(h:Rs K w e v)(g:Rs K v d u):Rs K w d u:=⟨g.h,g.f0,by have:=h.f1;have:=g.f1;omega,h.mv.trans g.mv,g.n,g.m⟩
theorem Rs.same {K:Nat}{w v:Wp}{e d:Int}(h:Rs K w e v)(h0:d=0→e=0):Rs K w d v:=⟨h.h,h.f0,h.f1,h.mv,fun q=>h.n (h0 q),h.m⟩
theorem Mv.nm {s t:Hp}{K:Nat}(h:Mv false s t)(g:NmB K s):NmB K t:=by
 have h1:=h.N;have h2:=h.len.1;unfold NmB at*;rw [h1];omega
theorem OkW.mv {K:Nat}{w v:Wp}(ok:OkW K w)(h:Mv false w.s v.s)(f0:0≤v.f)(f1:v.f≤w.f)(e:Int):Rs K w e v:=
 ⟨h.ok ok.h,f0,f1,h.up,fun _=>h.nm ok.n,by have:=h.nm ok.n;unfold NmB at*;omega⟩
theorem z27 {K:Nat}{w:Wp}(ok:OkW K w)(a:Int):Rs K w (lookW w a).1.2 (lookW w a).2∧Mv false w.s (lookW w a).2.s∧
  ((lookW w a).1.2=0→(lookW w a).2.f+(lookW w a).1.1.js.length+1≤w.f):=by
 have g:=zcz (2*w.f.toNat+2) ⟨w.s,w.f,0⟩ a (Nat.le_refl _);have hm:=headS_mv w.s a w.f ok.f0;have o:=headS_ok w.s a w.f ok.h ok.f0 (by have:=ok.f1;omega);have hf0:=ok.f0
 have key:(lookW w a).2.s=(z2e w.s a w.f).2∧((lookW w a).1.2≠0∧(lookW w a).2.f=w.f∨(lookW w a).1.2=0∧0≤(lookW w a).2.f∧(lookW w a).2.f+(lookW w a).1.1.js.length+1≤w.f):=by
  unfold lookW;split
  · rename_i q;exact ⟨rfl, .inl ⟨q,rfl⟩⟩
  · rename_i q;refine ⟨rfl, .inr ⟨rfl, ?_⟩⟩;have q:(z2e w.s a w.f).1.2.2=0:=by simpa using q
    revert q;unfold z2e;split
    · rename_i h;exact fun q=>absurd q h
    · rename_i h;intro _;have:=g.2 (by simpa using h);exact ⟨this.2,this.1⟩
 obtain ⟨k1,k2⟩:=key;have mv:Mv false w.s (lookW w a).2.s:=by rw [k1];exact hm
 rcases k2 with ⟨q,e⟩ | ⟨q,e1,e2⟩
 · exact ⟨ok.mv mv (by omega) (by omega) _,mv,fun h=>absurd h q⟩
 · exact ⟨ok.mv mv e1 (by omega) _,mv,fun _=>e2⟩
theorem zgh (t:Tm):(if z07 t=true then z0d t else t).sz≤t.sz:=by
 split
 · rename_i h;exact (z51 t (z4c t h)).2.2.1
 · exact Nat.le_refl _
theorem zl0 {K:Nat}{w:Wp}(ok:OkW K w)(a:Int):Rs K w (z2i w a).1.2 (z2i w a).2∧Mv false w.s (z2i w a).2.s∧(z2i w a).1.1.sz≤10000000:=by
 obtain ⟨hm,hnn⟩:=zfo w.s a w.f ok.f0;have hf0:=ok.f0;have hf1:=ok.f1;have okr:OkR ⟨w.s,w.f,0⟩:=⟨ok.h,by dsimp only;omega,by dsimp only;omega⟩;have g:=zc3 (2*w.f.toNat+2) (w.f.toNat+1) w.f (Nat.le_refl _) (by omega) ⟨w.s,w.f,0⟩ a okr (Int.le_refl _);have sz:=zgh (fulR (2*w.f.toNat+2) (w.f.toNat+1) ⟨w.s,w.f,0⟩ a).1
 have nn:(z1e w.s a w.f).1.2.2=0→(z1e w.s a w.f).1.2.1≤w.f:=by
  unfold z1e;split
  · rename_i h;exact fun q=>absurd q h
  · rename_i h;intro _;exact g.2.1
 have zz:(z1e w.s a w.f).1.1.sz≤10000000:=by
  have g3:=g.2.2;unfold z1e;split
  · show t0.sz≤_;decide
  · show (if _ then _ else _:Tm).sz≤_
    dsimp only at g3;omega
 have e2:(z2i w a).2.s=(z1e w.s a w.f).2:=rfl;have mv:Mv false w.s (z2i w a).2.s:=hm;refine ⟨ok.mv mv ?_ ?_ _,mv,zz⟩
 · show 0≤(if _ then _ else _:Int)
   split
   · exact hnn
   · exact hf0
 · show (if _ then _ else _:Int)≤_
   split
   · rename_i q;exact nn q
   · exact Int.le_refl _
theorem leaf_nil {k n:Int}{s:List UInt8}{l:List Tm}(h:z07 (.mk k s n l)=true)(h5:k=3∨k=1):l=[]:=by
 rw [z07] at h;rcases h5 with rfl | rfl
 · simp [z00] at h;exact h.1.2
 · simp [z00] at h;exact h.1.2
def LfZ (t:Tm):Prop:=(t.k=3∨t.k=1)∧t.l=[]∧z07 t=true
theorem leafZ_ok (t:Tm)(h:(z4l t).2=true):LfZ (z4l t).1:=by
 unfold z4l at h ⊢;split
 · rename_i hv;rw [if_pos hv] at h;split
   · rename_i q;have so:=z51 t (z4c t hv);have hvs:z07 (z0d t)=true:=by rw [z61,so.1,so.2.1 (za8 hv)];rfl
     refine ⟨q, ?_,hvs⟩;generalize z0d t=z at*;obtain ⟨k,s,n,l⟩:=z;exact leaf_nil hvs q
   · rename_i q;rw [if_neg q] at h;cases h
 · rename_i hv;rw [if_neg hv] at h;cases h
theorem LfZ.sz {t:Tm}(h:LfZ t):t.sz=1:=by
 obtain ⟨k,s,n,l⟩:=t;have e:l=[]:=h.2.1;rw [e];rfl
theorem z1a {K:Nat}(lv:Int):∀ (l:List Int) (out:List Tm) {w:Wp},OkW K w→(∀ t∈out,LfZ t)→Rs K w (z03 lv l out w).1.2 (z03 lv l out w).2∧Mv false w.s (z03 lv l out w).2.s∧
  (z03 lv l out w).1.1.length≤out.length+l.length∧(∀ t∈(z03 lv l out w).1.1,LfZ t)
 | [],out,w,ok,ho=>⟨ok.refl _, .refl _,by simp [z03],ho⟩
 | a::l,out,w,ok,ho=>by
  obtain ⟨h1,h2,_⟩:=zl0 ok a;rw [z03];split
  · exact ⟨h1,h2,by simp,fun t ht=>by cases ht⟩
  · rename_i q;have q:(z2i w a).1.2=0:=by simpa using q
    split
    · exact ⟨h1.same (fun _=>q),h2,by simp,fun t ht=>by cases ht⟩
    · rename_i q2
      have hl:(z4l (z2i w a).1.1).2=true:=by
       cases e:(z4l (z2i w a).1.1).2 with
       | true=>rfl
       | false=>exact absurd (by unfold badZ;rw [e];rfl) q2
      have ih:=z1a lv l (out++ [(z4l (z2i w a).1.1).1]) (h1.ok ok q) (fun t ht=>by
       rcases List.mem_append.1 ht with ht | ht
       · exact ho t ht
       · rw [List.mem_singleton.1 ht];exact leafZ_ok _ hl)
      refine ⟨h1.trans ih.1,h2.trans ih.2.1, ?_,ih.2.2.2⟩;have:=ih.2.2.1;simp only [List.length_append,List.length_cons,List.length_nil] at this ⊢;omega
theorem zql (V:Option (List Int)):∀ (l:List Tm),(∀ u∈l,∀ s,Mv true s (encE V u s).2)→∀ (f:Int) (s:Hp),Mv true s (encR V l f s).2
 | [],_,f,s=>by rw [encR];exact .refl _
 | u::l,h,f,s=>by
  have h1:=h u List.mem_cons_self s;rw [encR];split
  · exact h1
  · split
    · exact h1.put _
    · exact (h1.put _).trans (zql V l (fun v hv=>h v (List.mem_cons_of_mem _ hv)) _ _)
theorem sym_mv (s:Hp)(nm:List UInt8):Mv true s (symS s nm).2:=by
 unfold symS;split
 · exact .refl _
 · exact .names [nm] rfl (.refl s)
theorem encE_mv (V:Option (List Int)):∀ (t:Tm) (s:Hp),Mv true s (encE V t s).2:=by
 refine Tm.ind fun t ih=> ?_;obtain ⟨k,nm,n,l⟩:=t;intro s;rw [encE];split
 · exact (sym_mv s nm).put _
 · split
   · exact (Mv.refl s).put _
   · split
     · exact (Mv.refl s).put _
     · split
       · exact (Mv.refl s).put _
       · split
         · exact .refl s
         · match l with
           | []=>rw [encL];exact .refl s
           | u::l=>
            have h1:=ih u List.mem_cons_self s;rw [encL];split
            · exact h1
            · split
              · exact h1.put _
              · exact h1.trans (zql V l (fun v hv=>ih v (List.mem_cons_of_mem _ hv)) _ _)
theorem z95 (V:Option (List Int))(s:Hp)(t:Tm):Mv true s (encS V s t).2:=by
 by_cases h:(encS V s t).1.2=0
 · unfold encS at h ⊢;split
   · exact .refl s
   · split
     · rename_i q1 q2;rw [if_neg q1,if_pos q2] at h;exact absurd h q2
     · exact encE_mv V t s
 · obtain ⟨e,he⟩:=zsc V s t h;rw [he];exact .names e rfl (.refl s)
theorem zbd (V:Option (List Int)){K:Nat}{s:Hp}(t:Tm)(ok:OkH s)(g:NmB K s):((encS V s t).1.2=0→NmB K (encS V s t).2)∧NmB (K+1048577) (encS V s t).2:=by
 have gw:=z42 V t s;unfold encS;split
 · exact ⟨fun _=>g,by unfold NmB at*;dsimp only;omega⟩
 · split
   · rename_i q;refine ⟨fun h=>absurd h q, ?_⟩;have o:=(gw.1 ok).C;obtain ⟨_,d,e,h1,h2⟩:=gw;rw [if_neg q] at h2;rw [h1] at o ⊢;unfold NmB at*;simp only [List.length_append,List.length_take] at*;omega
   · rename_i q;have:=gw.nm (K:=K) (by simpa using q) g;exact ⟨fun _=>this,by unfold NmB at*;omega⟩
theorem zr4 {K:Nat}{w:Wp}(ok:OkW K w)(x:Int)(t:Tm):Rs K w (setW w x t).1 (setW w x t).2:=by
 have mv:=z95 none w.s t;have nm:=zbd none t ok.h ok.n;unfold setW;split
 · rename_i q;exact ⟨mv.ok ok.h,ok.f0,Int.le_refl _,mv,nm.1,nm.2⟩
 · rename_i q;have n1:=(nm.1 (by simpa using q)).set x ⟨5,(encS none w.s t).1.1,0,0,0⟩;exact ⟨(mv.set x _).ok ok.h,ok.f0,Int.le_refl _,mv.set x _,fun _=>n1,by unfold NmB at*;dsimp only;omega⟩
theorem OkW.fresh {K:Nat}{w:Wp}(ok:OkW K w)(lv:Int):Rs K w (z09 w.s lv).1.2 ⟨(z09 w.s lv).2,w.f⟩:=by
 have mv:Mv false w.s (z09 w.s lv).2:= .put _ (.refl _);exact ok.mv (v:=⟨(z09 w.s lv).2,w.f⟩) mv ok.f0 (Int.le_refl _) _
theorem zdv {K:Nat}{w:Wp}(ok:OkW K w)(x lv:Int)(lams:Nat)(on:List Tm):Rs K w (z2u w x lv lams on).1.2 (z2u w x lv lams on).2∧(z2u w x lv lams on).1.1.sz=1:=by
 have h1:=ok.fresh lv;unfold z2u;split
 · exact ⟨h1,rfl⟩
 · rename_i q;exact ⟨h1.trans (zr4 (h1.ok ok (by simpa using q)) x _),rfl⟩
end Go.AM

set_option maxRecDepth 100000
open Go Go.Proofs
namespace Go.AM
theorem zc6 (v:Iv)(t:Tm)(k:Int)(h:t.sz=1):(z3n v t k).1.sz=1:=by
 unfold z3n;split
 · exact h
 · split
   · rfl
   · exact h
def ones (l:List Tm):Prop:=∀ t:Tm,t∈l→t.sz=1
theorem z5f:∀ {l:List Tm},ones l→Tm.szs l=l.length
 | [],_=>rfl
 | t::l,h=>by
  have ih:=z5f (l:=l) fun u hu=>h u (List.mem_cons_of_mem _ hu);have:=h t List.mem_cons_self;simp only [Tm.szs,List.length_cons];omega
theorem zk (v:Iv)(k:Int):∀ (l:List Tm),ones l→ones (im1 v k l).2∧(im1 v k l).2.length≤l.length∧(im1 v k l).1.length=(im1 v k l).2.length∧ones (im1 v k l).1
 | [],_=>⟨(fun t ht=>nomatch ht),Nat.le_refl _,rfl,(fun t ht=>nomatch ht)⟩
 | t::l,h=>by
  obtain ⟨h1,h2,h3,h4⟩:=zk v k l fun u hu=>h u (List.mem_cons_of_mem _ hu);rw [im1];split
  · refine ⟨fun u hu=> ?_,by simp;omega,by simp [h3],fun u hu=> ?_⟩
    · rcases List.mem_cons.1 hu with rfl | hu
      · exact zc6 v _ k (h _ List.mem_cons_self)
      · exact h1 u hu
    · rcases List.mem_cons.1 hu with rfl | hu
      · rfl
      · exact h4 u hu
  · exact ⟨h1,by simp;omega,h3,h4⟩
theorem zrz (lv vlv k:Int):∀ (l:List Tm),ones l→ones (im2 lv vlv k l).2∧(im2 lv vlv k l).2.length≤l.length∧(im2 lv vlv k l).1.length=(im2 lv vlv k l).2.length∧ones (im2 lv vlv k l).1
 | [],_=>⟨(fun t ht=>nomatch ht),Nat.le_refl _,rfl,(fun t ht=>nomatch ht)⟩
 | t::l,h=>by
  obtain ⟨h1,h2,h3,h4⟩:=zrz lv vlv k l fun u hu=>h u (List.mem_cons_of_mem _ hu);rw [im2];split
  · refine ⟨fun u hu=> ?_,by simp;omega,by simp [h3],fun u hu=> ?_⟩
    · rcases List.mem_cons.1 hu with rfl | hu
      · rfl
      · exact h1 u hu
    · rcases List.mem_cons.1 hu with rfl | hu
      · exact h _ List.mem_cons_self
      · exact h4 u hu
  · exact ⟨h1,by simp;omega,h3,h4⟩
theorem za6 {a b:List Tm}(ha:ones a)(hb:ones b):ones (a++b):=fun u hu=>(List.mem_append.1 hu).elim (fun h=>ha u h) (fun h=>hb u h)
theorem flexG_ok {K:Nat}(v:Iv)(y:Sd)(k:Int){z:(List Tm×Int)×Wp}(ok:z.1.2=0→OkW K z.2)(hv:ones v.l)(hz:ones z.1.1):
  (z.1.2=0→Rs K z.2 (z6a v y k z).1.2 (z6a v y k z).2)∧(z.1.2≠0→(z6a v y k z).1.2=z.1.2∧(z6a v y k z).2=z.2)∧(z6a v y k z).1.1.sz≤2+z.1.1.length+v.l.length:=by
 obtain ⟨a1,a2,a3,_⟩:=zk v k z.1.1 hz;obtain ⟨b1,b2,b3,_⟩:=zrz y.c.a v.lv k v.l hv;unfold z6a;split
 · rename_i q;exact ⟨fun h=>absurd h q,fun _=>⟨rfl,rfl⟩,by show (noT:Tm).sz≤_;have:(noT:Tm).sz=1:=rfl;omega⟩
 · rename_i q;have q:z.1.2=0:=by simpa using q
   split
   · refine ⟨fun _=>(ok q).refl _,fun h=>absurd q h, ?_⟩;have:=z3v (.mk 4 [] y.h []) (im1 v k z.1.1).2;rw [z5f a1] at this;have e:(Tm.mk 4 [] y.h []).sz=1:=rfl;dsimp only;omega
   · have hh:=zdv (ok q) y.h (z0k [v.lv,y.c.a]) z.1.1.length ((im1 v k z.1.1).1++(im2 y.c.a v.lv k v.l).1);refine ⟨fun _=>hh.1,fun h=>absurd q h, ?_⟩;have:=z3v (z2u z.2 y.h (z0k [v.lv,y.c.a]) z.1.1.length ((im1 v k z.1.1).1++(im2 y.c.a v.lv k v.l).1)).1.1 ((im1 v k z.1.1).2++(im2 y.c.a v.lv k v.l).2);rw [z5f (za6 a1 b1),List.length_append] at this;have:=hh.2;dsimp only;omega
def TrG (K:Nat)(w:Wp)(z:(Tm×Int)×Wp):Prop:=Rs K w z.1.2 z.2∧z.1.1.sz≤1+100004*(w.f-z.2.f).toNat
theorem zlv {K:Nat}{F:Int→Wp→(Tm×Int)×Wp}{m:Int}(hF:∀ b w,OkW K w→w.f≤m→TrG K w (F b w)):∀ (l:List Int) (t:Tm) {w:Wp},OkW K w→w.f≤m→
  Rs K w (z6y F l t w).1.2 (z6y F l t w).2∧(z6y F l t w).1.1.sz≤t.sz+2*l.length+100004*(w.f-(z6y F l t w).2.f).toNat
 | [],t,w,ok,_=>⟨ok.refl _,by simp [z6y]⟩
 | b::l,t,w,ok,hm=>by
  obtain ⟨h1,h2⟩:=hF b w ok hm;rw [z6y];split
  · refine ⟨h1, ?_⟩;have:(noT:Tm).sz=1:=rfl;have:=t.sz_eq;dsimp only;omega
  · rename_i q;have ok1:=h1.ok ok (by simpa using q);obtain ⟨g1,g2⟩:=zlv hF l (z08 t [(F b w).1.1]) ok1 (by have:=h1.f1;omega);refine ⟨h1.trans g1, ?_⟩;have:=z60 t (F b w).1.1;have:=h1.f1;have:=g1.f1;simp only [List.length_cons];omega
theorem zh6 (v:Iv)(N:List (List UInt8))(x:Sd)(k:Int):(z4a v N x k).1.sz=1:=by
 unfold z4a;split
 · rfl
 · split
   · rfl
   · split
     · exact zc6 _ _ _ rfl
     · exact zc6 _ _ _ rfl
theorem z4b {l:List Tm}(h:∀ t∈l,LfZ t):ones l:=fun t ht=>(h t ht).sz
theorem z5c {K:Nat}(v:Iv)(hv:ones v.l)(hl:v.l.length≤100000):∀ (n:Nat) (a k:Int) {w:Wp},OkW K w→w.f.toNat<n→TrG K w (z0x v n a k w)
 | 0,_,_,_,_,h=>absurd h (by omega)
 | n+1,a,k,w,ok,hn=>by
  obtain ⟨h1,_,h3⟩:=z27 ok a;have hf:=ok.f0;rw [z0x];generalize lookW w a=z at*;unfold termG;have n1:(noT:Tm).sz=1:=rfl;have f1:=h1.f1;split
  · exact ⟨h1,by dsimp only;omega⟩
  · rename_i q;have q:z.1.2=0:=by simpa using q
    have ok1:=h1.ok ok q;have h3:=h3 q;have f2:=h1.f0;split
    · obtain ⟨g1,g2⟩:=z5c v hv hl n z.1.1.c.a (k+1) ok1 (by omega);refine ⟨h1.trans g1, ?_⟩;have:=g1.f1;have e:(z1s 1 (z0x v n z.1.1.c.a (k+1) z.2).1.1).sz=1+(z0x v n z.1.1.c.a (k+1) z.2).1.1.sz:=by simp only [z1s,Tm.sz,Tm.szs];omega
      dsimp only;rw [e];omega
    · split
      · split
        · exact ⟨h1.same fun _=>q,by dsimp only;omega⟩
        · obtain ⟨l1,_,l3,l4⟩:=z1a (K:=K) z.1.1.c.a z.1.1.js [] ok1 (fun t ht=>by cases ht);simp only [List.length_nil] at l3;have g:=flexG_ok (K:=K) v z.1.1 k (z:=z03 z.1.1.c.a z.1.1.js [] z.2) (fun h=>l1.ok ok1 h) hv (z4b l4);unfold zbx;generalize z03 z.1.1.c.a z.1.1.js [] z.2=y at*
          have rs:Rs K z.2 (z6a v z.1.1 k y).1.2 (z6a v z.1.1 k y).2:=by
           by_cases e:y.1.2=0
           · exact l1.trans (g.1 e)
           · rw [(g.2.1 e).1,(g.2.1 e).2];exact l1
          refine ⟨h1.trans rs, ?_⟩;have:=rs.f1;have:=g.2.2;omega
      · split
        · exact ⟨h1.same fun _=>q,by dsimp only;omega⟩
        · obtain ⟨g1,g2⟩:=zlv (K:=K) (F:=fun b w=>z0x v n b k w) (m:=z.2.f) (fun b w o hm=>z5c v hv hl n b k o (by have:=o.f0;omega)) z.1.1.js (z4a v z.2.s.N z.1.1 k).1 ok1 (Int.le_refl _);refine ⟨h1.trans g1, ?_⟩;rw [zh6] at g2;have:=g1.f1;omega
theorem bindG_ok {K:Nat}(x:Sd)(a:Int){z:(List Tm×Int)×Wp}(ok:z.1.2=0→OkW K z.2)(hz:ones z.1.1)(hl:z.1.1.length≤100000):
  (z.1.2=0→Rs K z.2 (zdu x a z).1 (zdu x a z).2)∧(z.1.2≠0→(zdu x a z).1=z.1.2∧(zdu x a z).2=z.2):=by
 unfold zdu;split
 · rename_i q;exact ⟨fun h=>absurd h q,fun _=>⟨rfl,rfl⟩⟩
 · rename_i q;have q:z.1.2=0:=by simpa using q
   have t:=z5c ⟨x.h,x.c.a,z.1.1⟩ hz hl (z.2.f.toNat+1) a 0 (ok q) (by omega);split
   · exact ⟨fun _=>t.1,fun h=>absurd q h⟩
   · rename_i q2;exact ⟨fun _=>t.1.trans (zr4 (t.1.ok (ok q) (by simpa using q2)) _ _),fun h=>absurd q h⟩
theorem zki {K:Nat}{w:Wp}(ok:OkW K w)(x:Sd)(a:Int)(hl:x.js.length≤100000):Rs K w (z47 w x a).1 (z47 w x a).2:=by
 obtain ⟨l1,_,l3,l4⟩:=z1a (K:=K) x.c.a x.js [] ok (fun t ht=>by cases ht);simp only [List.length_nil] at l3;have g:=bindG_ok (K:=K) x a (z:=z03 x.c.a x.js [] w) (fun h=>l1.ok ok h) (z4b l4) (by omega);unfold z47;by_cases e:(z03 x.c.a x.js [] w).1.2=0
 · exact l1.trans (g.1 e)
 · rw [(g.2 e).1,(g.2 e).2];exact l1
theorem zod {K:Nat}{w:Wp}(ok:OkW K w)(x y:Sd):Rs K w (z49 w x y).1 (z49 w x y).2:=by
 obtain ⟨a1,_,_,_⟩:=z1a (K:=K) x.c.a x.js [] ok (fun t ht=>by cases ht);unfold z49;generalize z03 x.c.a x.js [] w=z at*;split
 · exact a1
 · rename_i q;have q:z.1.2=0:=by simpa using q
   have ok1:=a1.ok ok q;obtain ⟨b1,_,_,_⟩:=z1a (K:=K) y.c.a y.js [] ok1 (fun t ht=>by cases ht);generalize z03 y.c.a y.js [] z.2=u at*;split
   · exact a1.trans b1
   · rename_i q2;have q2:u.1.2=0:=by simpa using q2
     split
     · exact a1.trans (b1.same fun _=>q2)
     · split
       · exact a1.trans (b1.same fun _=>q2)
       · exact a1.trans (b1.trans (zdv (b1.ok ok1 q2) _ _ _ _).1)
theorem ze0 {K:Nat}{w:Wp}(ok:OkW K w)(x:Sd)(a:Int):Rs K w (z2t w x a).1.2 (z2t w x a).2:=by
 have hm:=zlc w.s a 1;unfold z2t;split
 · exact ok.refl _
 · split
   · exact ok.mv (v:=⟨(z1p w.s a 1).2,w.f⟩) hm ok.f0 (Int.le_refl _) _
   · split
     · exact ok.mv (v:=⟨(putS (z1p w.s a 1).2 ⟨3,0,0,0,0⟩).2,w.f⟩) (hm.put _) ok.f0 (Int.le_refl _) _
     · exact ok.mv (v:=⟨_,w.f⟩) ((hm.put _).put _) ok.f0 (Int.le_refl _) _
theorem zno {K:Nat}{w:Wp}(ok:OkW K w)(x y:Sd)(p:Int×Int):Rs K w (z7t w x y p).1.1 (z7t w x y p).2∧(z7t w x y p).1.2.length≤1:=by
 have h1:=ze0 ok x p.1;unfold z7t;split
 · exact ⟨h1,Nat.zero_le _⟩
 · rename_i q;have q:(z2t w x p.1).1.2=0:=by simpa using q
   have h2:=ze0 (h1.ok ok q) y p.2;split
   · exact ⟨h1.trans h2,Nat.zero_le _⟩
   · rename_i q2;exact ⟨h1.trans (h2.same fun _=>by simpa using q2),Nat.le_refl _⟩
theorem zp7 {K:Nat}{w:Wp}(ok:OkW K w)(p:Int×Int)(j1:(lookW w p.1).1.1.js.length≤100000)(j2:(lookW (lookW w p.1).2 p.2).1.1.js.length≤100000):Rs K w (oneW w p).1.1 (oneW w p).2∧((oneW w p).1.1=0→(oneW w p).1.2.length+(oneW w p).2.f≤w.f):=by
 obtain ⟨h1,_,h3⟩:=z27 ok p.1;unfold oneW;split
 · rename_i q;exact ⟨h1,fun h=>absurd h q⟩
 · rename_i q;have q:(lookW w p.1).1.2=0:=by simpa using q
   have ok1:=h1.ok ok q;have h3:=h3 q;obtain ⟨g1,_,g3⟩:=z27 ok1 p.2;generalize lookW w p.1=z at*;generalize lookW z.2 p.2=u at*;split
   · rename_i q2;exact ⟨h1.trans g1,fun h=>absurd h q2⟩
   · rename_i q2;have q2:u.1.2=0:=by simpa using q2
     have ok2:=g1.ok ok1 q2;have g3:=g3 q2;have b:=(h1.trans g1);have f1:=g1.f1;have f0:=g1.f0;unfold oneG;split
     · have r:=zno ok2 z.1.1 u.1.1 p;exact ⟨b.trans r.1,fun _=>by have:=r.2;have:=r.1.f1;omega⟩
     · split
       · have r:=zod ok2 z.1.1 u.1.1;exact ⟨b.trans r,fun _=>by have:=r.f1;simp only [List.length_nil];omega⟩
       · split
         · have r:=zki ok2 z.1.1 p.2 (by omega);exact ⟨b.trans r,fun _=>by have:=r.f1;simp only [List.length_nil];omega⟩
         · split
           · have r:=zki ok2 u.1.1 p.1 (by omega);exact ⟨b.trans r,fun _=>by have:=r.f1;simp only [List.length_nil];omega⟩
           · split
             · exact ⟨b.same fun _=>q2,fun h=>by cases h⟩
             · refine ⟨b.same fun _=>q2,fun _=> ?_⟩;simp only [List.length_zip];omega
theorem z7n {K:Nat}{w:Wp}(ok:OkW K w)(a:Int)(h:w.f≤100000):(lookW w a).1.1.js.length≤100000:=by
 obtain ⟨h1,_,h3⟩:=z27 ok a;by_cases q:(lookW w a).1.2=0
 · have:=h3 q;have:=h1.f0;omega
 · unfold lookW at q ⊢;split
   · exact Nat.zero_le _
   · rename_i q2;rw [if_neg q2] at q;exact absurd rfl q
theorem zer {K:Nat}{w:Wp}(ok:OkW K w)(p:Int×Int)(h:w.f≤100000):Rs K w (oneW w p).1.1 (oneW w p).2∧((oneW w p).1.1=0→(oneW w p).1.2.length+(oneW w p).2.f≤w.f):=by
 by_cases q:(lookW w p.1).1.2=0
 · have h1:=(z27 ok p.1).1;exact zp7 ok p (z7n ok p.1 h) (z7n (h1.ok ok q) p.2 (by have:=h1.f1;omega))
 · have e:oneW w p=(((lookW w p.1).1.2,[]),(lookW w p.1).2):=by unfold oneW;rw [if_pos q]
   rw [e];exact ⟨(z27 ok p.1).1,fun h=>absurd h q⟩
theorem zii {K:Nat}:∀ (n:Nat) {w:Wp} (st:List (Int×Int)),OkW K w→w.f≤100000→Rs K w (runZ n w st).1 (runZ n w st).2
 | n,w,[],ok,_=>by
  have e:runZ n w []=(0,w):=by cases n<;>rfl
  rw [e];exact ok.refl _
 | 0,w,p::st,ok,_=>ok.refl _
 | n+1,w,p::st,ok,hf=>by
  rw [runZ];split
  · exact ok.refl _
  · rename_i q;have ok1:OkW K ⟨w.s,w.f-1⟩:=⟨ok.h,by have:=ok.f0;dsimp only;omega,by have:=ok.f1;dsimp only;omega,ok.n⟩;have h1:=(zer ok1 p (by dsimp only;omega)).1;have up:∀ {e:Int} {v:Wp},Rs K ⟨w.s,w.f-1⟩ e v→Rs K w e v:=fun r=>⟨r.h,r.f0,by have:=r.f1;dsimp only at this;omega,r.mv,r.n,r.m⟩;split
    · exact up h1
    · rename_i q2;have:=h1.f1;dsimp only at this;exact up (h1.trans (zii n _ (h1.ok ok1 (by simpa using q2)) (by omega)))
end Go.AM

set_option maxRecDepth 100000
open Go Go.Proofs
namespace Go.AM
def ixQ (p:Tm→Bool):List Tm→Nat→Int
 | [],_=> -1
 | t::l,i=>if p t=true then (i:Int) else ixQ p l (i+1)
theorem zr8 (p:Tm→Bool):∀ (l:List Tm) (i:Nat),decide (ixQ p l i≥0)=l.any p
 | [],_=>rfl
 | t::l,i=>by
  rw [ixQ,List.any_cons];split
  · rename_i h;rw [h];simp
  · rename_i h;rw [zr8 p l,show p t=false by simpa using h,Bool.false_or]
abbrev obQ (t:Tm):AObj:= .arr 4 [cT t]
theorem zmd (a o:Tm):AC Tryz.prog 296 [aT a, .c (.a (.ep 0 4 0 0))] [obQ o] (cb (lfZ a o)) [obQ o]:=by
 have h:=zjv a o;obtain ⟨k,s,n,l⟩:=a;obtain ⟨k',s',n',l'⟩:=o;refine AC.vc hP sh lv296 (Nat.le_refl _) (by simp [isLive]) (by simp) (Eq.mpr (v296 k s n (FTs l) k' s' n' (FTs l') _ _) ?_);exact ⟨_,h, .refl _,rfl⟩
theorem l_ixQ (o:Tm)(b:List Tm):∀ a:List Tm,(a++b).length≤B→
  RPt Tryz.prog 141 2 (ci (ixQ (fun u=>lfZ u o) b a.length)) [.arz 4 (FTs (a++b)),obQ o] 1 ⟨[(0, .c (.a (.osl 0 4 0 (a++b).length))),(1, .c (.fn (.func 296) [] [(false,[.ep 1 4 0 0])])),(7,ci ((a++b).length:Int)),(8,ci (a.length:Int))],[(0, .arz 4 (FTs (a++b))),(1,obQ o)],2⟩:=by
 induction b with
 | nil=>
  intro a hs;obtain ⟨ok,os,on,ol⟩:=o;refine RPt.vc hP sh z7l (Eq.mpr (z6b ..) ?_);exact z01 (fun h=>absurd (of_decide_eq_true h) (by simp)) (fun _=>⟨.refl _,rfl⟩)
 | cons t b ihb=>
  intro a hs;have h3:=ltI' a t b;have h1:=zmd t o;have h2:=ihb (a++ [t]) (by simpa using hs);rw [List.append_assoc,List.singleton_append,show (((a++ [t]).length:Nat):Int)=(a.length:Int)+1 by simp,show (a++ [t]).length=a.length+1 by simp] at h2;rw [ixQ];simp only [List.length_append,List.length_cons,B] at hs;have h4:(a.length:Int)<((a++t::b).length:Int):=by simp only [List.length_append,List.length_cons];omega
  have em:=zd5 a t b;obtain ⟨ok,os,on,ol⟩:=o;refine RPt.vc hP sh z7l (Eq.mpr (z6b ..) ?_);rw [w64 (by omega) (by omega)];refine z01 (fun _=>⟨by simp only [List.length_append,List.length_cons];omega,⟨by rw [Nat.zero_add];omega,by rw [Nat.zero_add,em,midI,List.drop_zero,List.take_of_length_le (by rw [z8f];exact Nat.le_refl _)],rfl⟩,lfZ t (.mk ok os on ol),by rw [Nat.zero_add,zgb];exact h1,z01 (fun h=> ?_) (fun h=> ?_)⟩) (fun h=>absurd h4 (of_decide_eq_false h))
  · rw [if_pos h];exact ⟨.refl _,rfl⟩
  · rw [if_neg (by rw [h];simp)];exact h2
theorem c_anyQ (o:Tm)(l:List Tm)(hl:l.length≤B):AC Tryz.prog 85 [.c (.a (.osl 0 4 0 l.length)), .c (.fn (.func 296) [] [(false,[.ep 1 4 0 0])])] [.arz 4 (FTs l),obQ o] (cb (l.any fun u=>lfZ u o)) [.arz 4 (FTs l),obQ o]:=by
 have h:AC Tryz.prog 141 [.c (.a (.osl 0 4 0 l.length)), .c (.fn (.func 296) [] [(false,[.ep 1 4 0 0])])] [.arz 4 (FTs l),obQ o] (ci (ixQ (fun u=>lfZ u o) l 0)) [.arz 4 (FTs l),obQ o]:=by
  have:=l_ixQ o l [] hl;obtain ⟨ok,os,on,ol⟩:=o;refine AC.vc hP sh z7l (Nat.le_refl _) (by simp [isLive]) (by simp) (Eq.mpr (zgk ..) ?_);exact this
 have e:=zr8 (fun u=>lfZ u o) l 0;obtain ⟨ok,os,on,ol⟩:=o;refine AC.vc hP sh lv85 (Nat.le_refl _) (by simp [isLive]) (by simp) (Eq.mpr (zje ..) ?_);exact ⟨_,h,by rw [←e];exact .refl _,rfl⟩
theorem c_anyQN (o:Tm):AC Tryz.prog 85 [.c (.a (.fz .N)), .c (.fn (.func 296) [] [(false,[.ep 0 4 0 0])])] [obQ o] (cb false) [obQ o]:=by
 have hh:AC Tryz.prog 85 [aL [], .c (.fn (.func 296) [] [(false,[.ep 0 4 0 0])])] [obQ o] (cb false) [obQ o]:=by
  have h:AC Tryz.prog 141 [aL [], .c (.fn (.func 296) [] [(false,[.ep 0 4 0 0])])] [obQ o] (ci (-1)) [obQ o]:=by
   obtain ⟨ok,os,on,ol⟩:=o;refine AC.vc hP sh z7l (Nat.le_refl _) (by simp [isLive]) (by simp) (Eq.mpr (zr5 ..) ?_);refine ⟨rfl,RPt.vc hP sh z7l (Eq.mpr (zh4 ..) ?_)⟩;exact z01 (fun h=>absurd (of_decide_eq_true h) (by simp [FTs])) (fun _=>⟨.refl _,rfl⟩)
  obtain ⟨ok,os,on,ol⟩:=o;refine AC.vc hP sh lv85 (Nat.le_refl _) (by simp [isLive]) (by simp) (Eq.mpr (v85_F296 ..) ?_);exact ⟨_,h, .refl _,rfl⟩
 exact hh.args ⟨.c _ _ (.a _ _ (.fz _ _ z2s)), .refl _,trivial⟩
abbrev tLs (x:List Tm×Int):TV:= .tup [(false,[.a (.fz (.sl false 4 (FTs x.1)))]),(false,[.a (.fz (.int .i64 x.2))])]
theorem leLs (e:Int):TV.Le (.tup [(false,[.a (.fz .N)]),(false,[.a (.fz (.int .i64 e))])]) (tLs ([],e)):=
 zca (xs:=[(false,[.N]),(false,[.int .i64 e])]) (ys:=[(false,[.sl false 4 (FTs [])]),(false,[.int .i64 e])]) ⟨⟨rfl,z2s,trivial⟩,⟨rfl, .refl _⟩,trivial⟩
abbrev wkH (w:Wp)(n:Nat)(R:List (List FV)):AHeap:=[(0,wk3 1 10 w.f n),(1,hp6 7 8 9 5 w.s),(2, .gone),(3, .gone),(4, .gone),(5, .mapz (NM w.s.N 0)),(6, .gone),(7, .arz 5 (CR w.s.C)),(8, .arz 7 (TR w.s.T)),(9, .arz 1 (NR w.s.N)),(10, .arz 2 R)]
abbrev aIs (l:List Int):TV:= .c (.a (.fz (.sl false 1 (IR l))))
abbrev stLv (lv:Int)(l:List Int)(out:List Tm)(w:Wp)(n:Nat)(R:List (List FV))(i:Int):St:=
 if out=[] then ⟨[(0,aWk),(1,ci lv),(8, .c (.a (.fz .N))),(16,aIs l),(17,ci (l.length:Int)),(18,ci i)],wkH w n R,11⟩
 else ⟨[(0,aWk),(1,ci lv),(8, .c (.a (.osl 11 4 0 out.length))),(16,aIs l),(17,ci (l.length:Int)),(18,ci i)],wkH w n R++ [(11, .arz 4 (FTs out))],12⟩
theorem zb9 (a:List Int)(x:Int)(b:List Int):List.getD (IR (a++x::b)) (Int.toNat (a.length:Int)) []=[.int .i64 x]:=by rw [Int.toNat_natCast];exact zeh a x b
theorem IR_lt (a:List Int)(x:Int)(b:List Int):(a.length:Int)<(((IR (a++x::b)).length:Nat):Int):=by rw [z06];simp;omega
theorem z5b {α:Type}(l:List α)(a:α):l++ [a] ≠ []:=by simp
theorem zg2 (K:Nat)(lv:Int)(n:Nat)(R:List (List FV))(l0:List Int)(hl0:l0.length≤1000000000):∀ (b pre:List Int) (out:List Tm) (w:Wp),l0=pre++b→out.length≤pre.length→OkW K w→
  RPt Tryz.prog 245 7 (tLs (z03 lv b out w).1) (oWk' (z03 lv b out w).2 n R) 1 (stLv lv l0 out w n R (pre.length:Int))
 | [],pre,out,w,hl,_,ok=>by
  rw [List.append_nil] at hl;subst hl;unfold stLv;by_cases hn:out=[]
  · subst hn;rw [if_pos rfl];refine RPt.vc hP sh zfy (Eq.mpr (zpx ..) ?_);exact z01 (fun h=>absurd (of_decide_eq_true h) (by omega)) (fun _=>⟨leLs 0,rfl⟩)
  · rw [if_neg hn];refine RPt.vc hP sh zfy (Eq.mpr (zry ..) ?_);refine z01 (fun h=>absurd (of_decide_eq_true h) (by omega)) (fun _=>⟨⟨rfl,by rw [z00];omega⟩, ?_,rfl⟩);rw [List.drop_zero,List.take_of_length_le (by rw [z00];exact Nat.le_refl _)];exact .refl _
 | a::b,pre,out,w,hl,ho,ok=>by
  have hF:=c_wfull K w n R ok a;obtain ⟨g1,_,g3⟩:=zl0 ok a
  have eA:z03 lv (a::b) out w=if (z2i w a).1.2≠0 then (([],(z2i w a).1.2),(z2i w a).2)
   else if badZ lv out (z2i w a).1.1=true then (([],171),(z2i w a).2) else z03 lv b (out++ [(z4l (z2i w a).1.1).1]) (z2i w a).2:=rfl
  have hm:List.getD (IR l0) (Int.toNat (pre.length:Int)) []=[.int .i64 a]:=by rw [hl];exact zb9 pre a b
  have h3:(pre.length:Int)<(((IR l0).length:Nat):Int):=by rw [hl];exact IR_lt pre a b
  have h4:(pre.length:Int)<((l0.length:Nat):Int):=by rw [z06] at h3;exact h3
  have next:=fun (o:List Tm) (v:Wp) (h1:o.length≤pre.length+1) (h2:OkW K v)=>zg2 K lv n R l0 hl0 b (pre++ [a]) o v (by rw [hl];simp) (by simpa using h1) h2;rw [show (((pre++ [a]).length:Nat):Int)=(pre.length:Int)+1 by simp] at next;rw [eA];have okn:=fun h=>g1.ok ok h;generalize z2i w a=z at*;obtain ⟨⟨t,e⟩,v⟩:=z;dsimp only at hF g3 okn ⊢;have hleaf:=c_hLeaf t (by simp only [SZ];omega);have eb:badZ lv out t=(!(z4l t).2||((z4l t).1.k==1&&decide ((z4l t).1.n≤lv))||out.any fun x=>lfZ x (z4l t).1):=rfl;generalize z4l t=y at*;obtain ⟨y1,y2⟩:=y;dsimp only at hleaf eb ⊢;have hany:=c_anyQ y1 out (by simp only [B];omega);have hnil:=c_anyQN y1;unfold stLv at next ⊢;have i1:e≠0→(if e≠0 then (([],e),v) else if badZ lv out t=true then (([],171),v) else z03 lv b (out++ [y1]) v)=(([],e),v):=fun h=>if_pos h
  have i2:e=0→badZ lv out t=true→(if e≠0 then (([],e),v) else if badZ lv out t=true then (([],171),v) else z03 lv b (out++ [y1]) v)=(([],171),v):=fun h g=>by rw [if_neg (fun w=>w h),if_pos g]
  have i3:e=0→badZ lv out t=false→(if e≠0 then (([],e),v) else if badZ lv out t=true then (([],171),v) else z03 lv b (out++ [y1]) v)=z03 lv b (out++ [y1]) v:=fun h g=>by rw [if_neg (fun w=>w h),if_neg (by rw [g];simp)]
  generalize (if e≠0 then (([],e),v) else if badZ lv out t=true then (([],171),v) else z03 lv b (out++ [y1]) v)=Z at*
  have take:e=0→badZ lv out t=false→RPt Tryz.prog 245 7 (tLs Z.1) (oWk' Z.2 n R) 1
    ⟨[(0,aWk),(1,ci lv),(8, .c (.a (.osl 11 4 0 (out.length+1)))),(16,aIs l0),(17,ci (l0.length:Int)),(18,ci ((pre.length:Int)+1))],wkH v n R++ [(11, .arz 4 (FTs out++ [FT4 y1]))],12⟩:=fun h0 h=>by
   have:=next (out++ [y1]) v (by simp;omega) (okn h0);rw [if_neg (z5b _ _),z24,List.length_append] at this;rw [i3 h0 h,z4x];exact this
  have bad:e=0→badZ lv out t=true→TV.Le (.tup [(false,[.a (.fz .N)]),(false,[.a (.fz (.int .i64 171))])]) (tLs Z.1)∧oWk' v n R=oWk' Z.2 n R:=fun h0 h=>by
   rw [i2 h0 h];exact ⟨leLs 171,rfl⟩
  by_cases hn:out=[]
  · subst hn;rw [if_pos rfl];refine RPt.vc hP sh zfy (Eq.mpr (zpx ..) ?_);rw [hm,w64 (x:=(pre.length:Int)+1) (by omega) (by omega)];have hnb:(([]:List Tm).any fun x=>lfZ x y1)=false:=rfl;refine z01 (fun _=>⟨⟨rfl,by omega,h3,rfl⟩,(t,e,⟨v.s,v.f,n,R⟩),hF,z0j (fun q=> ?_) (fun q=>⟨(y1,y2),hleaf,z04 (fun k1=>z01 (fun b2=>bad q ?_) (fun b2=>z01 (fun b3=>bad q ?_) (fun b3=>⟨false,hnil,z01 (fun h=>by cases h) (fun _=>⟨Nat.le_refl _,z56 (by omega),take q ?_⟩)⟩))) (fun k1=>z01 (fun b2=>bad q ?_) (fun b2=>⟨false,hnil,z01 (fun h=>by cases h) (fun _=>⟨Nat.le_refl _,z56 (by omega),take q ?_⟩)⟩))⟩)⟩) (fun h=>absurd h4 (of_decide_eq_false h))
    · rw [i1 q];exact ⟨leLs e,rfl⟩
    · have b2:(!y2)=true:=b2;rw [eb,b2];rfl
    · have b3:decide (y1.n≤lv)=true:=b3;have k1:y1.k=1:=k1;rw [eb,b3,k1];simp
    · have b2:(!y2)=false:=b2;have b3:decide (y1.n≤lv)=false:=b3;rw [eb,b2,b3,hnb,Bool.and_false];rfl
    · have b2:(!y2)=true:=b2;rw [eb,b2];rfl
    · have b2:(!y2)=false:=b2;have k1:¬y1.k=1:=k1;rw [eb,b2,hnb,show (y1.k==1)=false by simpa using k1];rfl
  · rw [if_neg hn];refine RPt.vc hP sh zfy (Eq.mpr (zry ..) ?_);rw [hm,w64 (x:=(pre.length:Int)+1) (by omega) (by omega),List.take_of_length_le (l:=FTs out) (by rw [z00];exact Nat.le_refl _)];have room:out.length≤(FTs out).length∧z0c (out.length+1) 56:=⟨by rw [z00];exact Nat.le_refl _,z56 (by omega)⟩;refine z01 (fun _=>⟨⟨rfl,by omega,h3,rfl⟩,(t,e,⟨v.s,v.f,n,R⟩),hF,z0j (fun q=> ?_) (fun q=>⟨(y1,y2),hleaf,z04 (fun k1=>z01 (fun b2=>bad q ?_) (fun b2=>z01 (fun b3=>bad q ?_) (fun b3=>⟨_,hany,z01 (fun h=>bad q ?_) (fun h=>⟨Nat.le_refl _,room,take q ?_⟩)⟩))) (fun k1=>z01 (fun b2=>bad q ?_) (fun b2=>⟨_,hany,z01 (fun h=>bad q ?_) (fun h=>⟨Nat.le_refl _,room,take q ?_⟩)⟩))⟩)⟩) (fun h=>absurd h4 (of_decide_eq_false h))
    · rw [i1 q];exact ⟨leLs e,rfl⟩
    · have b2:(!y2)=true:=b2;rw [eb,b2];rfl
    · have b3:decide (y1.n≤lv)=true:=b3;have k1:y1.k=1:=k1;rw [eb,b3,k1];simp
    · rw [eb,h,Bool.or_true]
    · have b2:(!y2)=false:=b2;have b3:decide (y1.n≤lv)=false:=b3;rw [eb,b2,b3,h,Bool.and_false];rfl
    · have b2:(!y2)=true:=b2;rw [eb,b2];rfl
    · rw [eb,h,Bool.or_true]
    · have b2:(!y2)=false:=b2;have k1:¬y1.k=1:=k1;rw [eb,b2,h,show (y1.k==1)=false by simpa using k1];rfl
theorem z81 (K:Nat)(lv:Int)(n:Nat)(R:List (List FV))(l:List Int)(hl:l.length≤1000000000)(w:Wp)(ok:OkW K w):AC Tryz.prog 245 [aWk,ci lv,aIs l] (oWk w n R) (tLs (z03 lv l [] w).1) (oWk' (z03 lv l [] w).2 n R):=by
 have h:=zg2 K lv n R l hl l [] [] w rfl (Nat.le_refl _) ok;refine AC.vc hP sh zfy (by simp) (by simp [isLive]) (by simp [isLive]) (Eq.mpr (v245 ..) ?_);rw [z06];exact ⟨rfl,h⟩
theorem c_wset (K:Nat)(hK:K≤1000000000)(w:Wp)(n:Nat)(R:List (List FV))(ok:OkW K w)(x:Int)(t:Tm)(hz:t.sz≤B):AC Tryz.prog 250 [aWk,ci x,aT t] (oWk w n R) (ci (setW w x t).1) (oWk' (setW w x t).2 n R):=by
 have hE:=zol K hK t hz w.s ok.h ok.n;have mv:=z95 none w.s t
 have e0:setW w x t=if (encS none w.s t).1.2≠0 then ((encS none w.s t).1.2,⟨(encS none w.s t).2,w.f⟩)
  else ((setS (encS none w.s t).2 x ⟨5,(encS none w.s t).1.1,0,0,0⟩).1,⟨(setS (encS none w.s t).2 x ⟨5,(encS none w.s t).1.1,0,0,0⟩).2,w.f⟩):=rfl
 rw [e0];generalize encS none w.s t=z at*;have hs:=c_hset z.2 x ⟨5,z.1.1,0,0,0⟩ (by have:=(mv.ok ok.h).T;omega);obtain ⟨k,s,m,l⟩:=t;refine AC.vc hP sh lv250 (by simp) (by simp [isLive]) (by simp [isLive]) (Eq.mpr (v250 x k s m (FTs l) ..) ?_);refine ⟨z,hE,z0j (fun q=> ?_) (fun q=> ?_)⟩
 · rw [if_pos q];exact ⟨.refl _,rfl⟩
 · rw [if_neg (fun w=>w q)];exact ⟨_,hs, .refl _,rfl⟩
theorem z6m:∀ (n:Nat) (f:Tm),(z1s n f).sz=n+f.sz
 | 0,f=>by rw [z1s];omega
 | n+1,f=>by
  rw [z1s,z6m n];simp only [Tm.sz,Tm.szs];omega
theorem zs9 (K:Nat)(hK:K≤1000000000)(w:Wp)(n:Nat)(R:List (List FV))(ok:OkW K w)(x lv:Int)(lams:Nat)(on:List Tm)(hl:lams≤1000000000)(hz:Tm.szs on≤1000000000):AC Tryz.prog 248 [aWk,ci x,ci lv,ci (lams:Int),aL on] (oWk w n R) (tTE (z2u w x lv lams on).1) (oWk' (z2u w x lv lams on).2 n R):=by
 have hf:=za5 w.s ok.h lv;have f1:=ok.fresh lv
 have e0:z2u w x lv lams on=if (z09 w.s lv).1.2≠0 then ((noT,(z09 w.s lv).1.2),⟨(z09 w.s lv).2,w.f⟩)
  else ((.mk 4 [] (z09 w.s lv).1.1 [],(setW ⟨(z09 w.s lv).2,w.f⟩ x (z1s lams (z08 (.mk 4 [] (z09 w.s lv).1.1 []) on))).1),(setW ⟨(z09 w.s lv).2,w.f⟩ x (z1s lams (z08 (.mk 4 [] (z09 w.s lv).1.1 []) on))).2):=rfl
 rw [e0];have okn:=fun h=>f1.ok ok h;generalize z09 w.s lv=z at*;obtain ⟨⟨a,e⟩,zs⟩:=z;dsimp only at*;have hon:=Tm.szs_length on;have ha:=(z3x (.mk 4 [] a []) on (by simp only [Tm.l,List.length_nil];omega)).args (args:=[.agg [.a (.fz (.int .i64 4)), .a (.fz (.str [])), .a (.fz (.int .i64 a)), .a (.fz .N)],aL on]) ⟨leT z2s, .refl _,trivial⟩;have hl2:=zc lams (z08 (.mk 4 [] a []) on) (by omega);have hsz:=z3v (.mk 4 [] a []) on;have e1:(Tm.mk 4 [] a []).sz=1:=rfl;have hset:=fun h=>c_wset K hK ⟨zs,w.f⟩ n R (okn h) x (z1s lams (z08 (.mk 4 [] a []) on)) (by rw [z6m];simp only [B];omega);refine AC.vc hP sh lv248 (by simp) (by simp [isLive]) (by simp [isLive]) (Eq.mpr (v248 x lv (lams:Int) (FTs on) ..) ?_);refine ⟨(a,e,zs),hf,z0j (fun q=> ?_) (fun q=> ?_)⟩
 · rw [if_pos q];exact ⟨noTE e,rfl⟩
 · rw [if_neg (fun w=>w q)];exact ⟨_,ha,_,hl2,((setW ⟨zs,w.f⟩ x (z1s lams (z08 (.mk 4 [] a []) on))).1,⟨(setW ⟨zs,w.f⟩ x (z1s lams (z08 (.mk 4 [] a []) on))).2.s,(setW ⟨zs,w.f⟩ x (z1s lams (z08 (.mk 4 [] a []) on))).2.f,n,R⟩),hset q,leTE (l:=[]) z2s,rfl⟩
end Go.AM

set_option maxRecDepth 100000
open Go Go.Proofs
namespace Go.AM
abbrev aIv (v:Iv):TV:= .agg [.a (.ep 0 3 0 0), .a (.fz (.int .i64 v.x)), .a (.fz (.int .i64 v.lv)), .a (.fz (.sl false 4 (FTs v.l)))]
abbrev obIv (v:Iv):AObj:= .arr 4 [[.a (.ep 0 3 0 0), .a (.fz (.int .i64 v.x)), .a (.fz (.int .i64 v.lv)), .a (.fz (.sl false 4 (FTs v.l)))]]
abbrev zT4:AObj:= .arr 4 [[.a (.fz (.int .i64 0)), .a (.fz (.str [])), .a (.fz (.int .i64 0)), .a (.fz .N)]]
abbrev tTB (x:Tm×Bool):TV:= .tup [(true,cT x.1),(false,[.a (.fz (.bool x.2))])]
abbrev wkI (w:Wp)(n:Nat)(R:List (List FV)):AHeap:=[(0,wk3 1 6 w.f n),(1,hp6 2 3 4 5 w.s),(2, .arz 5 (CR w.s.C)),(3, .arz 7 (TR w.s.T)),(4, .arz 1 (NR w.s.N)),(5, .mapz (NM w.s.N 0)),(6, .arz 2 R)]
def zm8 (v:Iv)(t out:Tm)(k:Int)(b:List Tm):Tm×Bool:=
 match ixZ out b with
 | some r=>(bndT (k+r),true)
 | none=>(t,t.k==1&&decide (t.n≤v.lv))
theorem zl (v:Iv)(t out:Tm)(k:Int)(w:Wp)(n:Nat)(R:List (List FV))(hk0:0≤k)(hk1:k≤1000000000)(hl:v.l.length≤1000000000):∀ (b pre:List Tm),v.l=pre++b→
  RPt Tryz.prog 330 7 (tTB (zm8 v t out k b)) (oWk w n R) 1 ⟨[(2,ci k),(3, .c (.a (.ep 7 4 0 0))),(4, .c (.a (.ep 8 4 0 0))),(6, .c (.a (.ep 9 4 0 0))),(8, .c (.a (.ep 10 4 0 0))),(31,aL v.l),(32,ci (v.l.length:Int)),(33,ci (pre.length:Int))],wkI w n R++ [(7,obIv v),(8, .arr 4 [cT t]),(9,zT4),(10, .arr 4 [cT out])],11⟩
 | [],pre,hp=>by
  rw [List.append_nil] at hp;have e:zm8 v t out k []=(t,t.k==1&&decide (t.n≤v.lv)):=rfl;rw [e];obtain ⟨tk,ts,tn,tl⟩:=t;obtain ⟨ok,os,on,ol⟩:=out;refine RPt.vc hP sh zsh (Eq.mpr (zp1 ..) ?_);refine z01 (fun h=>absurd (of_decide_eq_true h) (by rw [hp];omega)) (fun _=>z01 (fun h=> ?_) (fun h=> ?_))
  · have h:(tk==1)=true:=h;simp only [Tm.k,Tm.n];rw [h,Bool.true_and];exact ⟨.refl _,rfl⟩
  · have h:(tk==1)=false:=h;simp only [Tm.k,Tm.n];rw [h,Bool.false_and];exact ⟨.refl _,rfl⟩
 | u::b,pre,hp=>by
  have ih:=zl v t out k w n R hk0 hk1 hl b (pre++ [u]) (by rw [hp];simp);rw [show (((pre++ [u]).length:Nat):Int)=(pre.length:Int)+1 by simp] at ih;have hlen:v.l.length=pre.length+(b.length+1):=by rw [hp];simp
  have em:List.getD (FTs v.l) (Int.toNat (pre.length:Int)) []=FT u:=by rw [hp];exact midI pre u b
  have h3:((pre.length:Nat):Int)<(((FTs v.l).length:Nat):Int):=by rw [z00];omega
  have hs:=zjv u out;have hb:=z7v (k+(b.length:Int))
  have e:zm8 v t out k (u::b)=if lfZ u out=true then (bndT (k+(b.length:Int)),true) else zm8 v t out k b:=by
   unfold zm8;rw [ixZ];cases lfZ u out<;>rfl
  rw [e];generalize lfZ u out=c at*
  have ww:IntKind.wrap .i64 (IntKind.wrap .i64 (IntKind.wrap .i64 (k+(((FTs v.l).length:Nat):Int))-1)-(pre.length:Int))=k+(b.length:Int):=by
   rw [z00,w64 (x:=k+(v.l.length:Int)) (by omega) (by omega),w64 (x:=k+(v.l.length:Int)-1) (by omega) (by omega),w64 (by omega) (by omega)];omega
  obtain ⟨tk,ts,tn,tl⟩:=t;obtain ⟨ok,os,on,ol⟩:=out;refine RPt.vc hP sh zsh (Eq.mpr (zp1 ..) ?_);rw [em,ww,w64 (x:=(pre.length:Int)+1) (by omega) (by omega)];refine z01 (fun _=>⟨⟨rfl,by omega,h3,z4j u⟩,c,by rw [z4n];exact hs,z01 (fun h=> ?_) (fun h=> ?_)⟩) (fun h=>absurd (of_decide_eq_false h) (by omega))
  · rw [if_pos h];exact ⟨rfl,_,hb, .refl _,rfl⟩
  · rw [if_neg (by rw [h];simp)];exact ih
theorem zfp (v:Iv)(t:Tm)(k:Int)(w:Wp)(n:Nat)(R:List (List FV))(hk0:0≤k)(hk1:k≤1000000000)(hl:v.l.length≤1000000000):AC Tryz.prog 330 [aIv v,aT t,ci k] (oWk w n R) (tTB (z3n v t k)) (oWk w n R):=by
 have hl2:=zl v t (outZ t k) k w n R hk0 hk1 hl v.l [] rfl;have e:z3n v t k=if t.k=3∧t.n<k then (t,true) else zm8 v t (outZ t k) k v.l:=rfl
 rw [e];obtain ⟨tk,ts,tn,tl⟩:=t;refine AC.vc hP sh zsh (by simp) (by simp [isLive]) (by simp) (Eq.mpr (v330 v.x v.lv (FTs v.l) tk ts tn (FTs tl) k ..) ?_);rw [z00];refine z04 (fun h3=>z01 (fun h4=> ?_) (fun h4=>z04 (fun _=>⟨rfl, ?_⟩) (fun h=>absurd h3 h))) (fun h3=>z04 (fun h=>absurd h h3) (fun _=>⟨rfl, ?_⟩))
 · have h4:=of_decide_eq_true h4;rw [if_pos ⟨h3,h4⟩];exact ⟨.refl _,rfl⟩
 · have h4:=of_decide_eq_false h4;rw [if_neg (fun q=>h4 q.2)];have eo:outZ (.mk tk ts tn tl) k= .mk tk ts (wr (tn-k)) tl:=if_pos h3;rw [eo] at hl2 ⊢;exact hl2
 · rw [if_neg (fun q=>h3 q.1)];have eo:outZ (.mk tk ts tn tl) k= .mk tk ts tn tl:=if_neg h3;rw [eo] at hl2 ⊢;exact hl2
theorem c_wrigid (v:Iv)(x:Sd)(k:Int)(w:Wp)(n:Nat)(R:List (List FV))(hk0:0≤k)(hk1:k≤1000000000)(hl:v.l.length≤1000000000):AC Tryz.prog 298 [aIv v,aSd x,ci k] (oWk w n R) (tTB (z4a v w.s.N x k)) (oWk w n R):=by
 have hn:=znx w.s x.c.a;have h1:=(zfp v (.mk 1 [] x.c.a []) k w n R hk0 hk1 hl).args (args:=[aIv v, .agg [.a (.fz (.int .i64 1)), .a (.fz (.str [])), .a (.fz (.int .i64 x.c.a)), .a (.fz .N)],ci k]) ⟨.refl _,leT z2s, .refl _,trivial⟩;have h2:=zfp v (bndT x.c.a) k w n R hk0 hk1 hl;have hb:=z7v x.c.a
 have e:z4a v w.s.N x k=if x.c.t=0 then (.mk 0 (z9u w.s.N x.c.a) 0 [],true) else if x.c.t=2 then (.mk 2 [] x.c.a [],true)
  else if x.c.t=1 then z3n v (.mk 1 [] x.c.a []) k else z3n v (bndT x.c.a) k:=rfl
 rw [e];refine AC.vc hP sh lv298 (by simp) (by simp [isLive]) (by simp) (Eq.mpr (v298 v.x v.lv (FTs v.l) ..) ?_);refine z04 (fun e0=>⟨_,hn, ?_⟩) (fun e0=>z04 (fun e2=> ?_) (fun e2=>z04 (fun e1=>⟨_,h1, ?_⟩) (fun e1=>⟨_,hb,_,h2, ?_⟩)))
 · rw [if_pos e0];exact ⟨leTB (l:=[]) z2s,rfl⟩
 · rw [if_neg e0,if_pos e2];exact ⟨leTB (l:=[]) z2s,rfl⟩
 · rw [if_neg e0,if_neg e2,if_pos e1];exact ⟨.refl _,rfl⟩
 · rw [if_neg e0,if_neg e2,if_neg e1];exact ⟨.refl _,rfl⟩
abbrev fxW (v:Iv)(y:Sd)(w:Wp)(n:Nat)(R:List (List FV)):AHeap:=wkH w n R++ [(11,obIv v),(12, .arr 7 [[.a (.fz (.int .i64 y.h)), .a (.fz (.sl false 1 (IR y.js))), .a (.fz (.int .i64 y.c.t)), .a (.fz (.int .i64 y.c.a)), .a (.fz (.int .i64 y.c.b)), .a (.fz (.int .i64 y.c.c)), .a (.fz (.int .i64 y.c.d))]]),(13,zT4)]
abbrev fxT (v:Iv)(y:Sd)(w:Wp)(n:Nat)(R:List (List FV))(k:Int)(ls on im l:List Tm)(a b c:Nat)(j:Int):St:=
 if on=[] then ⟨[(2,ci k),(3, .c (.a (.ep 11 4 0 0))),(4, .c (.a (.ep 12 7 0 0))),(6, .c (.a (.ep 13 4 0 0))),(8,aL ls),(10,ci y.c.a),(11, .c (.a (.fz .N))),(12, .c (.a (.fz .N))),(a,aL l),(b,ci (l.length:Int)),(c,ci j)],fxW v y w n R,14⟩
 else ⟨[(2,ci k),(3, .c (.a (.ep 11 4 0 0))),(4, .c (.a (.ep 12 7 0 0))),(6, .c (.a (.ep 13 4 0 0))),(8,aL ls),(10,ci y.c.a),(11, .c (.a (.osl 14 4 0 on.length))),(12, .c (.a (.osl 15 4 0 im.length))),(a,aL l),(b,ci (l.length:Int)),(c,ci j)],fxW v y w n R++ [(14, .arz 4 (FTs on)),(15, .arz 4 (FTs im))],16⟩
theorem leNs:TV.Le (.c (.a (.fz .N))) (aL []):= .c _ _ (.a _ _ (.fz _ _ z2s))
abbrev hgZ (v:Iv)(y:Sd)(w:Wp)(m:Nat)(on im:List Tm):(Tm×Int)×Wp:=
 ((z08 (z2u w y.h (z0k [v.lv,y.c.a]) m on).1.1 im,(z2u w y.h (z0k [v.lv,y.c.a]) m on).1.2),(z2u w y.h (z0k [v.lv,y.c.a]) m on).2)
theorem zl5 (K:Nat)(hK:K≤1000000000)(v:Iv)(y:Sd)(w:Wp)(n:Nat)(R:List (List FV))(ok:OkW K w)(k:Int)(hk0:0≤k)(hk1:k≤1000000000)(ls:List Tm)(hls:ls.length≤10000000)(hl:v.l.length≤10000000)(hv:ones v.l):
  ∀ (b pre on im:List Tm),v.l=pre++b→on.length=im.length→ones on→ones im→on.length+b.length≤100000000→
  RPt Tryz.prog 297 7 (tTE (hgZ v y w ls.length (on++(im2 y.c.a v.lv k b).1) (im++(im2 y.c.a v.lv k b).2)).1) (oWk' (hgZ v y w ls.length (on++(im2 y.c.a v.lv k b).1) (im++(im2 y.c.a v.lv k b).2)).2 n R) 5 (fxT v y w n R k ls on im v.l 86 87 88 (pre.length:Int))
 | [],pre,on,im,hp,ho,o1,o2,hz=>by
  rw [List.append_nil] at hp;have e1:(im2 y.c.a v.lv k []).1=[]:=rfl;have e2:(im2 y.c.a v.lv k []).2=[]:=rfl;rw [e1,e2,List.append_nil,List.append_nil];simp only [List.length_nil] at hz;have hh:=zs9 K hK w n R ok y.h (z0k [v.lv,y.c.a]) ls.length on (by omega) (by rw [z5f o1];omega);have hsz:=(zdv ok y.h (z0k [v.lv,y.c.a]) ls.length on).2;unfold hgZ;generalize z2u w y.h (z0k [v.lv,y.c.a]) ls.length on=z at*;obtain ⟨⟨t,e⟩,u⟩:=z;dsimp only at hsz hh ⊢;have hll:t.l.length≤1:=by have:=t.sz_eq;have:=Tm.szs_length t.l;omega
  have ha:=z3x t im (by omega);unfold fxT;by_cases hn:on=[]
  · subst hn;have:im=[]:=List.eq_nil_of_length_eq_zero ho.symm;subst this;rw [if_pos rfl];refine RPt.vc hP sh z8b (Eq.mpr (znv ..) ?_);refine z01 (fun h=>absurd (of_decide_eq_true h) (by rw [hp];omega)) (fun _=>⟨rfl, ?_⟩);rw [z00];exact ⟨(t,e,⟨u.s,u.f,n,R⟩),hh.args ⟨.refl _, .refl _, .refl _, .refl _,leNs,trivial⟩,_,ha.args ⟨.refl _,leNs,trivial⟩, .refl _,rfl⟩
  · rw [if_neg hn];refine RPt.vc hP sh z8b (Eq.mpr (zo4 ..) ?_);refine z01 (fun h=>absurd (of_decide_eq_true h) (by rw [hp];omega)) (fun _=>⟨rfl,⟨rfl,by rw [z00];omega⟩, ?_⟩);rw [z00,List.drop_zero,List.take_of_length_le (l:=FTs on) (by rw [z00];exact Nat.le_refl _),List.drop_zero,List.take_of_length_le (l:=FTs im) (by rw [z00];exact Nat.le_refl _)];exact ⟨(t,e,⟨u.s,u.f,n,R⟩),hh,⟨rfl,by rw [z00];omega⟩,_,ha, .refl _,rfl⟩
 | t::b,pre,on,im,hp,ho,o1,o2,hz=>by
  have hlen:v.l.length=pre.length+(b.length+1):=by rw [hp];simp
  have em:List.getD (FTs v.l) (Int.toNat (pre.length:Int)) []=FT t:=by rw [hp];exact midI pre t b
  have h3:((pre.length:Nat):Int)<(((FTs v.l).length:Nat):Int):=by rw [z00];omega
  have ek:FV.I (List.getD (FT t) 0 FV.N)=t.k:=by cases t;rfl
  have en:FV.I (List.getD (FT t) 2 FV.N)=t.n:=by cases t;rfl
  have t1:t.sz=1:=hv t (by rw [hp];simp);simp only [List.length_cons] at hz;have hb:=z7v (k+(b.length:Int))
  have ww:IntKind.wrap .i64 (IntKind.wrap .i64 (IntKind.wrap .i64 (k+(((FTs v.l).length:Nat):Int))-1)-(pre.length:Int))=k+(b.length:Int):=by
   rw [z00,w64 (x:=k+(v.l.length:Int)) (by omega) (by omega),w64 (x:=k+(v.l.length:Int)-1) (by omega) (by omega),w64 (by omega) (by omega)];omega
  have nx:=fun (on' im':List Tm) h1 h2 h3 h4=>zl5 K hK v y w n R ok k hk0 hk1 ls hls hl hv b (pre++ [t]) on' im' (by rw [hp];simp) h1 h2 h3 h4;rw [show (((pre++ [t]).length:Nat):Int)=(pre.length:Int)+1 by simp] at nx;have i1:y.c.a>v.lv∧t.k=1∧t.n≤y.c.a→(im2 y.c.a v.lv k (t::b)).1=t::(im2 y.c.a v.lv k b).1∧(im2 y.c.a v.lv k (t::b)).2=bndT (k+(b.length:Int))::(im2 y.c.a v.lv k b).2:=fun h=>by rw [im2,if_pos h];exact ⟨rfl,rfl⟩
  have i2:¬(y.c.a>v.lv∧t.k=1∧t.n≤y.c.a)→im2 y.c.a v.lv k (t::b)=im2 y.c.a v.lv k b:=fun h=>by rw [im2,if_neg h]
  have one1:∀ (l:List Tm) (u:Tm),ones l→u.sz=1→ones (l++ [u]):=fun l u h1 h2=>za6 h1 (fun x hx=>by rw [List.mem_singleton.1 hx];exact h2)
  have skip:¬(y.c.a>v.lv∧t.k=1∧t.n≤y.c.a)→RPt Tryz.prog 297 7 (tTE (hgZ v y w ls.length (on++(im2 y.c.a v.lv k (t::b)).1) (im++(im2 y.c.a v.lv k (t::b)).2)).1) (oWk' (hgZ v y w ls.length (on++(im2 y.c.a v.lv k (t::b)).1) (im++(im2 y.c.a v.lv k (t::b)).2)).2 n R) 5 (fxT v y w n R k ls on im v.l 86 87 88 ((pre.length:Int)+1)):=fun h=>by
   rw [i2 h];exact nx on im ho o1 o2 (by omega)
  have take:y.c.a>v.lv∧t.k=1∧t.n≤y.c.a→RPt Tryz.prog 297 7 (tTE (hgZ v y w ls.length (on++(im2 y.c.a v.lv k (t::b)).1) (im++(im2 y.c.a v.lv k (t::b)).2)).1) (oWk' (hgZ v y w ls.length (on++(im2 y.c.a v.lv k (t::b)).1) (im++(im2 y.c.a v.lv k (t::b)).2)).2 n R) 5 (fxT v y w n R k ls (on++ [t]) (im++ [bndT (k+(b.length:Int))]) v.l 86 87 88 ((pre.length:Int)+1)):=fun h=>by
   obtain ⟨a1,a2⟩:=i1 h;have:=nx (on++ [t]) (im++ [bndT (k+(b.length:Int))]) (by simp [ho]) (one1 _ _ o1 t1) (one1 _ _ o2 rfl) (by simp only [List.length_append,List.length_cons,List.length_nil];omega);rw [List.append_assoc,List.append_assoc,List.singleton_append,List.singleton_append,←a1,←a2] at this;exact this
  generalize hgZ v y w ls.length (on++(im2 y.c.a v.lv k (t::b)).1) (im++(im2 y.c.a v.lv k (t::b)).2)=Z at*;have op:FV.L 4 (.sl false 4 (FTs v.l))=true∧((0:Int)≤(pre.length:Int)∧(((pre.length:Int)<(((FTs v.l).length:Nat):Int))∧((rE (FT t):List FV)=FT t))):=⟨rfl,by omega,h3,z4j t⟩;clear nx i1 i2;unfold fxT at skip take ⊢;rw [if_neg (z5b on t)] at take;by_cases hn:on=[]
  · subst hn;have:im=[]:=List.eq_nil_of_length_eq_zero ho.symm;subst this;rw [if_pos rfl] at skip ⊢;refine RPt.vc hP sh z8b (Eq.mpr (znv ..) ?_);rw [em,ek,en,w64 (x:=(pre.length:Int)+1) (by omega) (by omega),ww];refine z01 (fun _=>⟨op,z01 (fun c1=>z04 (fun c2=>z01 (fun c3=>⟨Nat.le_refl _,z56 (by omega),rfl,_,hb,Nat.le_refl _,z56 (by omega), ?_⟩) (fun c3=>skip fun q=>of_decide_eq_false c3 q.2.2)) (fun c2=>skip fun q=>c2 q.2.1)) (fun c1=>skip fun q=>of_decide_eq_false c1 q.1)⟩) (fun h=>absurd (of_decide_eq_false h) (by omega));rw [z4j];exact take ⟨of_decide_eq_true c1,c2,of_decide_eq_true c3⟩
  · rw [if_neg hn] at skip ⊢;refine RPt.vc hP sh z8b (Eq.mpr (zo4 ..) ?_);rw [em,ek,en,w64 (x:=(pre.length:Int)+1) (by omega) (by omega),ww];have r1:on.length≤(FTs on).length∧z0c (on.length+1) 56:=⟨by rw [z00];exact Nat.le_refl _,z56 (by omega)⟩;have r2:im.length≤(FTs im).length∧z0c (im.length+1) 56:=⟨by rw [z00];exact Nat.le_refl _,z56 (by omega)⟩;refine z01 (fun _=>⟨op,z01 (fun c1=>z04 (fun c2=>z01 (fun c3=>⟨Nat.le_refl _,r1,rfl,_,hb,Nat.le_refl _,r2, ?_⟩) (fun c3=>skip fun q=>of_decide_eq_false c3 q.2.2)) (fun c2=>skip fun q=>c2 q.2.1)) (fun c1=>skip fun q=>of_decide_eq_false c1 q.1)⟩) (fun h=>absurd (of_decide_eq_false h) (by omega));rw [z4j,List.take_of_length_le (l:=FTs on) (by rw [z00];exact Nat.le_refl _),List.take_of_length_le (l:=FTs im) (by rw [z00];exact Nat.le_refl _),z4x];have:=take ⟨of_decide_eq_true c1,c2,of_decide_eq_true c3⟩;rw [z24,z24,List.length_append,List.length_append] at this;exact this
theorem zjy (K:Nat) (hK:K≤1000000000) (v:Iv) (y:Sd) (w:Wp) (n:Nat) (R:List (List FV)) (ok:OkW K w) (k:Int) (hk0:0≤k) (hk1:k≤1000000000) (ls:List Tm) (hls:ls.length≤10000000) (hl:v.l.length≤10000000) (hv:ones v.l) (ho:ones ls) (Z:(Tm×Int)×Wp)
  (full:(im1 v k ls).1.length=ls.length→y.c.a≤v.lv→Z=((z08 (.mk 4 [] y.h []) (im1 v k ls).2,0),w))
  (part:¬((im1 v k ls).1.length=ls.length∧y.c.a≤v.lv)→Z=hgZ v y w ls.length ((im1 v k ls).1++(im2 y.c.a v.lv k v.l).1) ((im1 v k ls).2++(im2 y.c.a v.lv k v.l).2)):
  ∀ (b pre on im:List Tm),ls=pre++b→on.length=im.length→on.length≤pre.length→(im1 v k ls).1=on++(im1 v k b).1→(im1 v k ls).2=im++(im1 v k b).2→
  RPt Tryz.prog 297 7 (tTE Z.1) (oWk' Z.2 n R) 1 (fxT v y w n R k ls on im ls 39 40 41 (pre.length:Int))
 | [],pre,on,im,hp,hoi,hop,q1,q2=>by
  rw [List.append_nil] at hp;have hpl:ls.length=pre.length:=by rw [hp]
  have e1:(im1 v k []).1=[]:=rfl;have e2:(im1 v k []).2=[]:=rfl;rw [e1,List.append_nil] at q1;rw [e2,List.append_nil] at q2;obtain ⟨a1,a2,a3,a4⟩:=zk v k ls ho;rw [q1] at full part a3 a4;rw [q2] at full part a1 a2 a3
  have l5:¬(on.length=ls.length∧y.c.a≤v.lv)→RPt Tryz.prog 297 7 (tTE Z.1) (oWk' Z.2 n R) 5 (fxT v y w n R k ls on im v.l 86 87 88 0):=fun h=>by
   have:=zl5 K hK v y w n R ok k hk0 hk1 ls hls hl hv v.l [] on im rfl a3 a4 a1 (by omega);rw [←part h] at this;exact this
  have ha:=(z3x (.mk 4 [] y.h []) im (by simp only [Tm.l,List.length_nil];omega)).args (args:=[.agg [.a (.fz (.int .i64 4)), .a (.fz (.str [])), .a (.fz (.int .i64 y.h)), .a (.fz .N)],aL im]) ⟨leT z2s, .refl _,trivial⟩;unfold fxT at l5 ⊢;by_cases hn:on=[]
  · subst hn;have:im=[]:=List.eq_nil_of_length_eq_zero hoi.symm;subst this;rw [if_pos rfl] at l5 ⊢;refine RPt.vc hP sh z8b (Eq.mpr (zro ..) ?_);simp only [z00];refine z01 (fun h=>absurd (of_decide_eq_true h) (by omega)) (fun _=>⟨rfl,rfl,z01 (fun c1=>z01 (fun c2=> ?_) (fun c2=>⟨rfl,l5 fun q=>of_decide_eq_false c2 q.2⟩)) (fun c1=>⟨rfl,l5 fun q=> ?_⟩)⟩)
    · have c1:(0:Int)=(ls.length:Int):=by have c1:((0:Int)==(ls.length:Int))=true:=c1;simpa using c1
      rw [full (by simp only [List.length_nil];omega) (of_decide_eq_true c2)];exact ⟨_,ha.args ⟨.refl _,leNs,trivial⟩, .refl _,rfl⟩
    · have c1:((0:Int)==(ls.length:Int))=false:=c1;have:=q.1;simp only [List.length_nil] at this;rw [←this] at c1;simp at c1
  · rw [if_neg hn] at l5 ⊢;refine RPt.vc hP sh z8b (Eq.mpr (zp4 ..) ?_);simp only [z00];refine z01 (fun h=>absurd (of_decide_eq_true h) (by omega)) (fun _=>⟨rfl,z01 (fun c1=>z01 (fun c2=> ?_) (fun c2=>⟨rfl,l5 fun q=>of_decide_eq_false c2 q.2⟩)) (fun c1=>⟨rfl,l5 fun q=> ?_⟩)⟩)
    · have c1:(on.length:Int)=(ls.length:Int):=by have c1:((on.length:Int)==(ls.length:Int))=true:=c1;simpa using c1
      rw [full (by omega) (of_decide_eq_true c2)];rw [List.drop_zero,List.take_of_length_le (l:=FTs im) (by rw [z00];exact Nat.le_refl _)];exact ⟨⟨by trivial,by first | omega | (rw [z00];omega)⟩,_,ha, .refl _,rfl⟩
    · have c1:((on.length:Int)==(ls.length:Int))=false:=c1;rw [q.1] at c1;simp at c1
 | t::b,pre,on,im,hp,hoi,hop,q1,q2=>by
  have hlen:ls.length=pre.length+(b.length+1):=by rw [hp];simp
  have em:List.getD (FTs ls) (Int.toNat (pre.length:Int)) []=FT t:=by rw [hp];exact midI pre t b
  have h3:((pre.length:Nat):Int)<(((FTs ls).length:Nat):Int):=by rw [z00];omega
  have hi:=zfp v t k w n R hk0 hk1 (by omega);have hb:=z7v (b.length:Int)
  have ww:IntKind.wrap .i64 (IntKind.wrap .i64 ((((FTs ls).length:Nat):Int)-1)-(pre.length:Int))=(b.length:Int):=by
   rw [z00,w64 (x:=(ls.length:Int)-1) (by omega) (by omega),w64 (by omega) (by omega)];omega
  have nx:=fun (on' im':List Tm) h1 h2 h3 h4=>zjy K hK v y w n R ok k hk0 hk1 ls hls hl hv ho Z full part b (pre++ [t]) on' im' (by rw [hp];simp) h1 h2 h3 h4;rw [show (((pre++ [t]).length:Nat):Int)=(pre.length:Int)+1 by simp] at nx;have e0:im1 v k (t::b)=if (z3n v t k).2=true then (bndT (b.length:Int)::(im1 v k b).1,(z3n v t k).1::(im1 v k b).2) else im1 v k b:=rfl
  rw [e0] at q1 q2;generalize z3n v t k=z at*;obtain ⟨z1,z2⟩:=z;dsimp only at q1 q2 hi
  have skip:z2=false→RPt Tryz.prog 297 7 (tTE Z.1) (oWk' Z.2 n R) 1 (fxT v y w n R k ls on im ls 39 40 41 ((pre.length:Int)+1)):=fun h=>by
   rw [h,if_neg (by simp)] at q1 q2;exact nx on im hoi (by simp;omega) q1 q2
  have take:z2=true→RPt Tryz.prog 297 7 (tTE Z.1) (oWk' Z.2 n R) 1 (fxT v y w n R k ls (on++ [bndT (b.length:Int)]) (im++ [z1]) ls 39 40 41 ((pre.length:Int)+1)):=fun h=>by
   rw [if_pos h] at q1 q2;exact nx (on++ [bndT (b.length:Int)]) (im++ [z1]) (by simp [hoi]) (by simp;omega) (by rw [q1];simp) (by rw [q2];simp)
  clear nx full part;have op:FV.L 4 (.sl false 4 (FTs ls))=true∧((0:Int)≤(pre.length:Int)∧(((pre.length:Int)<(((FTs ls).length:Nat):Int))∧((rE (FT t):List FV)=FT t))):=⟨rfl,by omega,h3,z4j t⟩;unfold fxT at skip take ⊢;rw [if_neg (z5b on _)] at take;by_cases hn:on=[]
  · subst hn;have:im=[]:=List.eq_nil_of_length_eq_zero hoi.symm;subst this;rw [if_pos rfl] at skip ⊢;refine RPt.vc hP sh z8b (Eq.mpr (zro ..) ?_);rw [em,w64 (x:=(pre.length:Int)+1) (by omega) (by omega),ww,z4n];exact z01 (fun _=>⟨op,(z1,z2),hi,z01 (fun c=>⟨rfl,_,hb,Nat.le_refl _,z56 (by omega),Nat.le_refl _,z56 (by omega),by rw [z4x,z4x];exact take c⟩) (fun c=>skip c)⟩) (fun h=>absurd (of_decide_eq_false h) (by omega))
  · rw [if_neg hn] at skip ⊢;refine RPt.vc hP sh z8b (Eq.mpr (zp4 ..) ?_);rw [em,w64 (x:=(pre.length:Int)+1) (by omega) (by omega),ww,z4n];have r1:on.length≤(FTs on).length∧z0c (on.length+1) 56:=⟨by rw [z00];exact Nat.le_refl _,z56 (by omega)⟩;have r2:im.length≤(FTs im).length∧z0c (im.length+1) 56:=⟨by rw [z00];exact Nat.le_refl _,z56 (by omega)⟩;refine z01 (fun _=>⟨op,(z1,z2),hi,z01 (fun c=>⟨rfl,_,hb,Nat.le_refl _,r1,Nat.le_refl _,r2, ?_⟩) (fun c=>skip c)⟩) (fun h=>absurd (of_decide_eq_false h) (by omega));rw [List.take_of_length_le (l:=FTs on) (by rw [z00];exact Nat.le_refl _),List.take_of_length_le (l:=FTs im) (by rw [z00];exact Nat.le_refl _),z4x,z4x];have:=take c;rw [z24,z24,List.length_append,List.length_append] at this;exact this
theorem c_wflex (K:Nat)(hK:K≤1000000000)(v:Iv)(y:Sd)(w:Wp)(n:Nat)(R:List (List FV))(ok:OkW K w)(k:Int)(hk0:0≤k)(hk1:k≤1000000000)(hy:y.js.length≤10000000)(hl:v.l.length≤10000000)(hv:ones v.l):
  AC Tryz.prog 297 [aIv v,aSd y,ci k] (oWk w n R) (tTE (zbx v y k w).1) (oWk' (zbx v y k w).2 n R):=by
 have hL:=z81 K y.c.a n R y.js (by omega) w ok;obtain ⟨l1,_,l3,l4⟩:=z1a (K:=K) y.c.a y.js [] ok (fun t ht=>nomatch ht);simp only [List.length_nil] at l3;have e:zbx v y k w=z6a v y k (z03 y.c.a y.js [] w):=rfl;rw [e];generalize z03 y.c.a y.js [] w=z at*;obtain ⟨⟨ls,er⟩,u⟩:=z;dsimp only at hL l1 l3 l4
 have eG:z6a v y k ((ls,er),u)=if er≠0 then ((noT,er),u)
  else if (im1 v k ls).1.length=ls.length∧y.c.a≤v.lv then ((z08 (.mk 4 [] y.h []) (im1 v k ls).2,0),u)
  else hgZ v y u ls.length ((im1 v k ls).1++(im2 y.c.a v.lv k v.l).1) ((im1 v k ls).2++(im2 y.c.a v.lv k v.l).2):=rfl
 rw [eG];refine AC.vc hP sh z8b (by simp) (by simp [isLive]) (by simp [isLive]) (Eq.mpr (v297 v.x v.lv (FTs v.l) ..) ?_);refine ⟨(ls,er,⟨u.s,u.f,n,R⟩),hL,z0j (fun q=> ?_) (fun q=>⟨rfl, ?_⟩)⟩
 · rw [if_pos q];exact ⟨noTE er,rfl⟩
 · rw [if_neg (fun w=>w q)];have q:er=0:=q;have oku:=l1.ok ok q;have h:=zjy K hK v y u n R oku k hk0 hk1 ls (by omega) hl hv (z4b l4) (if (im1 v k ls).1.length=ls.length∧y.c.a≤v.lv then ((z08 (.mk 4 [] y.h []) (im1 v k ls).2,0),u) else hgZ v y u ls.length ((im1 v k ls).1++(im2 y.c.a v.lv k v.l).1) ((im1 v k ls).2++(im2 y.c.a v.lv k v.l).2)) (fun h1 h2=>if_pos ⟨h1,h2⟩) (fun h=>if_neg h) ls [] [] [] rfl rfl (Nat.le_refl _) rfl rfl
   rw [z00];exact h
end Go.AM

set_option maxRecDepth 100000
open Go Go.Proofs
namespace Go.AM
abbrev stTm (v:Iv)(l:List Int)(t:Tm)(k:Int)(w:Wp)(m:Nat)(R:List (List FV))(i:Int):St:=
 ⟨[(2,ci k),(3, .c (.a (.ep 11 4 0 0))),(6, .c (.a (.ep 12 4 0 0))),(12, .c (.a (.ep 13 4 0 0))),(81,aIs l),(82,ci (l.length:Int)),(83,ci i)],wkH w m R++ [(11,obIv v),(12,zT4),(13, .arr 4 [cT t])],14⟩
theorem zo9 (K:Nat) (v:Iv) (hv:ones v.l) (hl:v.l.length≤100000) (m:Nat) (R:List (List FV)) (n:Nat) (k:Int)
  (hC:∀ (b:Int) (w:Wp),OkW K w→w.f.toNat<n→k+w.f≤1000000000→AC Tryz.prog 249 [aIv v,ci b,ci k] (oWk w m R) (tTE (z0x v n b k w).1) (oWk' (z0x v n b k w).2 m R)) (l0:List Int) (hl0:l0.length≤1000000000):
  ∀ (b pre:List Int) (t:Tm) (w:Wp),l0=pre++b→OkW K w→w.f.toNat<n→k+w.f≤1000000000→t.sz+2*b.length+100004*w.f.toNat≤1000000000000→
  RPt Tryz.prog 249 7 (tTE (z6y (fun b w=>z0x v n b k w) b t w).1) (oWk' (z6y (fun b w=>z0x v n b k w) b t w).2 m R) 3 (stTm v l0 t k w m R (pre.length:Int))
 | [],pre,t,w,hp,ok,_,_,_=>by
  rw [List.append_nil] at hp;rw [z6y];obtain ⟨tk,ts,tn,tl⟩:=t;refine RPt.vc hP sh zrg (Eq.mpr (zr2 ..) ?_);exact z01 (fun h=>absurd (of_decide_eq_true h) (by rw [hp];omega)) (fun _=>⟨.refl _,rfl⟩)
 | a::b,pre,t,w,hp,ok,hn,hk,hz=>by
  have hc:=hC a w ok hn hk;obtain ⟨g1,g2⟩:=z5c (K:=K) v hv hl n a k ok hn;have hm:List.getD (IR l0) (Int.toNat (pre.length:Int)) []=[.int .i64 a]:=by rw [hp];exact zb9 pre a b
  have h3:(pre.length:Int)<(((IR l0).length:Nat):Int):=by rw [hp];exact IR_lt pre a b
  have h4:(pre.length:Int)<((l0.length:Nat):Int):=by rw [z06] at h3;exact h3
  have eA:z6y (fun b w=>z0x v n b k w) (a::b) t w=if (z0x v n a k w).1.2≠0 then ((noT,(z0x v n a k w).1.2),(z0x v n a k w).2)
   else z6y (fun b w=>z0x v n b k w) b (z08 t [(z0x v n a k w).1.1]) (z0x v n a k w).2:=rfl
  rw [eA];simp only [List.length_cons] at hz;have okn:=fun h=>g1.ok ok h;have f1:=g1.f1;have f0:=g1.f0;generalize z0x v n a k w=z at*;obtain ⟨⟨u,e⟩,x⟩:=z;dsimp only at*;have hap:=z3x t [u] (by have:=t.sz_eq;have:=Tm.szs_length t.l;simp only [List.length_cons,List.length_nil];omega);have hsz:=z60 t u;have nx:=fun h=>zo9 K v hv hl m R n k hC l0 hl0 b (pre++ [a]) (z08 t [u]) x (by rw [hp];simp) (okn h) (by omega) (by omega) (by omega);rw [show (((pre++ [a]).length:Nat):Int)=(pre.length:Int)+1 by simp] at nx;obtain ⟨tk,ts,tn,tl⟩:=t;refine RPt.vc hP sh zrg (Eq.mpr (zr2 ..) ?_);rw [hm,w64 (x:=(pre.length:Int)+1) (by omega) (by omega)];refine z01 (fun _=>⟨⟨rfl,by omega,h3,rfl⟩,(u,e,⟨x.s,x.f,m,R⟩),hc,z0j (fun q=> ?_) (fun q=>⟨⟨rfl,Nat.le_refl _⟩,_,by rw [z4x];exact hap, ?_⟩)⟩) (fun h=>absurd h4 (of_decide_eq_false h))
  · rw [if_pos q];exact ⟨noTE e,rfl⟩
  · rw [if_neg (fun w=>w q)];exact nx q
theorem zjn (K:Nat)(hK:K≤1000000000)(v:Iv)(hv:ones v.l)(hl:v.l.length≤100000)(m:Nat)(R:List (List FV)):∀ (n:Nat) (k:Int),0≤k→∀ (a:Int) (w:Wp),OkW K w→w.f.toNat<n→k+w.f≤1000000000→
  AC Tryz.prog 249 [aIv v,ci a,ci k] (oWk w m R) (tTE (z0x v n a k w).1) (oWk' (z0x v n a k w).2 m R)
 | 0,_,_,_,_,_,h,_=>absurd h (by omega)
 | n+1,k,hk0,a,w,ok,hn,hk=>by
  have hlk:=zjt K w m R ok a;obtain ⟨g1,_,g3⟩:=z27 ok a;have f1:=g1.f1;have f0:=g1.f0;have hf:=ok.f0;have hf2:=ok.f1;have okn:=fun h=>g1.ok ok h;rw [z0x];generalize lookW w a=z at*;obtain ⟨⟨x,e⟩,u⟩:=z;dsimp only at*
  have eG:termG v (z0x v n) k ((x,e),u)=if e≠0 then ((noT,e),u)
   else if x.c.t=6 then ((z1s 1 (z0x v n x.c.a (k+1) u).1.1,(z0x v n x.c.a (k+1) u).1.2),(z0x v n x.c.a (k+1) u).2)
   else if x.c.t=4 then (if x.h=v.x then ((noT,170),u) else zbx v x k u)
   else if (z4a v u.s.N x k).2=false then ((noT,170),u)
   else z6y (fun b w=>z0x v n b k w) x.js (z4a v u.s.N x k).1 u:=rfl
  rw [eG];have hfl:=zit x;have hrg:=c_wrigid v x k u m R hk0 (by omega) (by omega);have rsz:=zh6 v u.s.N x k;refine AC.vc hP sh zrg (by simp) (by simp [isLive]) (by simp [isLive]) (Eq.mpr (v249 v.x v.lv (FTs v.l) ..) ?_);refine ⟨(x.h,x.js,x.c.t,x.c.a,x.c.b,x.c.c,x.c.d,e,⟨u.s,u.f,m,R⟩),hlk,z0j (fun q=> ?_) (fun q=> ?_)⟩
  · rw [if_pos q];exact ⟨noTE e,rfl⟩
  rw [if_neg (fun w=>w q)];have g3:=g3 q;have okn:=okn q;refine z04 (fun t6=> ?_) (fun t6=> ?_)
  · have t6:x.c.t=6:=t6;rw [if_pos t6];have ih:=zjn K hK v hv hl m R n (k+1) (by omega) x.c.a u okn (by omega) (by omega);rw [w64 (by omega) (by omega)];have hL:=zc 1 (z0x v n x.c.a (k+1) u).1.1 (by omega);exact ⟨((z0x v n x.c.a (k+1) u).1.1,(z0x v n x.c.a (k+1) u).1.2,⟨(z0x v n x.c.a (k+1) u).2.s,(z0x v n x.c.a (k+1) u).2.f,m,R⟩),ih,_,hL, .refl _,rfl⟩
  have t6:¬x.c.t=6:=t6;rw [if_neg t6];refine ⟨_,hfl,z04 (fun t4=> ?_) (fun t4=>⟨_,hfl,z04 (fun h=>absurd h t4) (fun _=> ?_)⟩)⟩
  · rw [if_pos t4];refine z04 (fun hx=> ?_) (fun hx=>⟨_,hfl,z04 (fun _=> ?_) (fun h=>absurd t4 h)⟩)
    · have hx:x.h=v.x:=hx;rw [if_pos hx];exact ⟨noTE 170,rfl⟩
    · have hx:¬x.h=v.x:=hx;rw [if_neg hx];have hF:=c_wflex K hK v x u m R okn k hk0 (by omega) (by omega) (by omega) hv;exact ⟨((zbx v x k u).1.1,(zbx v x k u).1.2,⟨(zbx v x k u).2.s,(zbx v x k u).2.f,m,R⟩),hF, .refl _,rfl⟩
  · rw [if_neg t4];have lp:=zo9 K v hv hl m R n k (fun b w o h1 h2=>zjn K hK v hv hl m R n k hk0 b w o h1 h2) x.js (by omega) x.js [] (z4a v u.s.N x k).1 u rfl okn (by omega) (by omega) (by rw [rsz];omega);generalize z4a v u.s.N x k=y at*;obtain ⟨y1,y2⟩:=y;dsimp only at*;refine ⟨(y1,y2),hrg,z01 (fun h=> ?_) (fun h=>⟨rfl, ?_⟩)⟩
    · have h:(!y2)=true:=h;rw [if_pos (by simpa using h)];exact ⟨noTE 170,rfl⟩
    · have h:(!y2)=false:=h;rw [if_neg (by simpa using h),z06];exact lp
theorem zqb (K:Nat)(hK:K≤1000000000)(w:Wp)(m:Nat)(R:List (List FV))(ok:OkW K w)(x:Sd)(a:Int)(hx:x.js.length≤100000):AC Tryz.prog 186 [aWk,aSd x,ci a] (oWk w m R) (ci (z47 w x a).1) (oWk' (z47 w x a).2 m R):=by
 have hL:=z81 K x.c.a m R x.js (by omega) w ok;obtain ⟨l1,_,l3,l4⟩:=z1a (K:=K) x.c.a x.js [] ok (fun t ht=>nomatch ht);simp only [List.length_nil] at l3;have e:z47 w x a=zdu x a (z03 x.c.a x.js [] w):=rfl;rw [e];have okl:=fun h=>l1.ok ok h;generalize z03 x.c.a x.js [] w=z at*;obtain ⟨⟨ls,er⟩,u⟩:=z;dsimp only at hL l1 l3 l4 okl
 have eG:zdu x a ((ls,er),u)=if er≠0 then (er,u)
  else if (z0x ⟨x.h,x.c.a,ls⟩ (u.f.toNat+1) a 0 u).1.2≠0 then ((z0x ⟨x.h,x.c.a,ls⟩ (u.f.toNat+1) a 0 u).1.2,(z0x ⟨x.h,x.c.a,ls⟩ (u.f.toNat+1) a 0 u).2)
  else setW (z0x ⟨x.h,x.c.a,ls⟩ (u.f.toNat+1) a 0 u).2 x.h (z1s ls.length (z0x ⟨x.h,x.c.a,ls⟩ (u.f.toNat+1) a 0 u).1.1):=rfl
 rw [eG];refine AC.vc hP sh lv186 (by simp) (by simp [isLive]) (by simp [isLive]) (Eq.mpr (v186 ..) ?_);refine ⟨(ls,er,⟨u.s,u.f,m,R⟩),hL,z0j (fun q=> ?_) (fun q=> ?_)⟩
 · rw [if_pos q];exact ⟨.refl _,rfl⟩
 rw [if_neg (fun w=>w q)];have oku:=okl q;have h0:=oku.f0;have h1:=oku.f1;have hT:=zjn K hK ⟨x.h,x.c.a,ls⟩ (z4b l4) (by dsimp only;omega) m R (u.f.toNat+1) 0 (Int.le_refl _) a u oku (by omega) (by omega);obtain ⟨t1,t2⟩:=z5c (K:=K) ⟨x.h,x.c.a,ls⟩ (z4b l4) (by dsimp only;omega) (u.f.toNat+1) a 0 oku (by omega);have okt:=fun h=>t1.ok oku h;generalize z0x ⟨x.h,x.c.a,ls⟩ (u.f.toNat+1) a 0 u=y at*;obtain ⟨⟨t,et⟩,y2⟩:=y;dsimp only at hT t1 t2 okt ⊢;refine ⟨(t,et,⟨y2.s,y2.f,m,R⟩),hT,z0j (fun q2=> ?_) (fun q2=> ?_)⟩
 · rw [if_pos q2];exact ⟨.refl _,rfl⟩
 · rw [if_neg (fun w=>w q2)];have t0:=t1.f0;have hS:=c_wset K hK y2 m R (okt q2) x.h (z1s ls.length t) (by rw [z6m];simp only [B];omega);have hlm:=zc ls.length t (by omega);rw [z00];exact ⟨rfl,_,hlm,((setW y2 x.h (z1s ls.length t)).1,⟨(setW y2 x.h (z1s ls.length t)).2.s,(setW y2 x.h (z1s ls.length t)).2.f,m,R⟩),hS, .refl _,rfl⟩
theorem zru (K:Nat)(w:Wp)(m:Nat)(R:List (List FV))(ok:OkW K w)(x:Sd)(a:Int):AC Tryz.prog 244 [aWk,aSd x,ci a] (oWk w m R) (t2 (z2t w x a).1) (oWk' (z2t w x a).2 m R):=by
 have hL:=c_pLift w.s a 1 ok.h;have mv:=zlc w.s a 1
 have e:z2t w x a=if x.c.t=6 then ((x.c.a,0),w)
  else if (z1p w.s a 1).1.2≠0 then ((0,(z1p w.s a 1).1.2),⟨(z1p w.s a 1).2,w.f⟩)
  else if (putS (z1p w.s a 1).2 ⟨3,0,0,0,0⟩).1.2≠0 then ((0,(putS (z1p w.s a 1).2 ⟨3,0,0,0,0⟩).1.2),⟨(putS (z1p w.s a 1).2 ⟨3,0,0,0,0⟩).2,w.f⟩)
  else ((putS (putS (z1p w.s a 1).2 ⟨3,0,0,0,0⟩).2 ⟨7,(z1p w.s a 1).1.1,(putS (z1p w.s a 1).2 ⟨3,0,0,0,0⟩).1.1,0,0⟩).1,
   ⟨(putS (putS (z1p w.s a 1).2 ⟨3,0,0,0,0⟩).2 ⟨7,(z1p w.s a 1).1.1,(putS (z1p w.s a 1).2 ⟨3,0,0,0,0⟩).1.1,0,0⟩).2,w.f⟩):=rfl
 rw [e];generalize z1p w.s a 1=z at*;have ok1:=mv.ok ok.h;have hp:=z2c z.2 ⟨3,0,0,0,0⟩ (by have:=ok1.C;omega);have ok2:=ok1.put ⟨3,0,0,0,0⟩;generalize putS z.2 ⟨3,0,0,0,0⟩=y at*;have hq:=z2c y.2 ⟨7,z.1.1,y.1.1,0,0⟩ (by have:=ok2.C;omega);generalize putS y.2 ⟨7,z.1.1,y.1.1,0,0⟩=u at*;obtain ⟨⟨z1,z2⟩,zs⟩:=z;refine AC.vc hP sh lv244 (by simp) (by simp [isLive]) (by simp [isLive]) (Eq.mpr (v244 ..) ?_);refine z04 (fun t6=> ?_) (fun t6=>⟨(z1,z2,zs),hL,z0j (fun q=> ?_) (fun q=>⟨y,hp,z0j (fun q2=> ?_) (fun q2=>⟨u,hq, ?_⟩)⟩)⟩)
 · have t6:x.c.t=6:=t6;rw [if_pos t6];exact ⟨.refl _,rfl⟩
 · have t6:¬x.c.t=6:=t6;rw [if_neg t6,if_pos q];exact ⟨.refl _,rfl⟩
 · have t6:¬x.c.t=6:=t6;rw [if_neg t6,if_neg (fun w=>w q),if_pos q2];exact ⟨.refl _,rfl⟩
 · have t6:¬x.c.t=6:=t6;rw [if_neg t6,if_neg (fun w=>w q),if_neg (fun w=>w q2)];exact ⟨.refl _,rfl⟩
end Go.AM

set_option maxRecDepth 100000
open Go Go.Proofs
namespace Go.AM
abbrev obSd (x:Sd):AObj:= .arr 7 [[.a (.fz (.int .i64 x.h)), .a (.fz (.sl false 1 (IR x.js))), .a (.fz (.int .i64 x.c.t)), .a (.fz (.int .i64 x.c.a)), .a (.fz (.int .i64 x.c.b)), .a (.fz (.int .i64 x.c.c)), .a (.fz (.int .i64 x.c.d))]]
abbrev stPr (x:Sd)(as_ bs on:List Tm)(w:Wp)(m:Nat)(R:List (List FV))(i:Int):St:=
 if on=[] then ⟨[(0,aWk),(4, .c (.a (.ep 11 7 0 0))),(7,aL as_),(9,aL bs),(10, .c (.a (.fz .N))),(48,ci (as_.length:Int)),(49,ci i)],wkH w m R++ [(11,obSd x)],12⟩
 else ⟨[(0,aWk),(4, .c (.a (.ep 11 7 0 0))),(7,aL as_),(9,aL bs),(10, .c (.a (.osl 12 4 0 on.length))),(48,ci (as_.length:Int)),(49,ci i)],wkH w m R++ [(11,obSd x),(12, .arz 4 (FTs on))],13⟩
theorem ze2:∀ (a b:List Tm),ones (onZ a b)∧(onZ a b).length≤a.length
 | [],_=>⟨(fun t ht=>by simp [onZ] at ht),by simp [onZ]⟩
 | _::_,[]=>⟨(fun t ht=>by simp [onZ] at ht),by simp [onZ]⟩
 | a::l,b::r=>by
  obtain ⟨h1,h2⟩:=ze2 l r;rw [onZ];split
  · exact ⟨za6 (fun t ht=>by rw [List.mem_singleton.1 ht];rfl) h1,by simp;omega⟩
  · exact ⟨h1,by simp;omega⟩
theorem zly (K:Nat) (hK:K≤1000000000) (x:Sd) (w:Wp) (m:Nat) (R:List (List FV)) (ok:OkW K w) (as_ bs:List Tm) (hl:as_.length≤10000000) (Z:Int×Wp)
  (full:(onZ as_ bs).length=as_.length→Z=(0,w)) (part:(onZ as_ bs).length≠as_.length→Z=((z2u w x.h x.c.a as_.length (onZ as_ bs)).1.2,(z2u w x.h x.c.a as_.length (onZ as_ bs)).2)):
  ∀ (b pre d c on:List Tm),as_=pre++b→bs=d++c→pre.length=d.length→b.length=c.length→on.length≤pre.length→onZ as_ bs=on++onZ b c→
  RPt Tryz.prog 185 7 (ci Z.1) (oWk' Z.2 m R) 3 (stPr x as_ bs on w m R (pre.length:Int))
 | [],pre,d,c,on,hp,hd,_,hc,ho,hq=>by
  rw [List.append_nil] at hp;have hpl:as_.length=pre.length:=by rw [hp]
  have e1:onZ [] c=[]:=by simp [onZ]
  rw [e1,List.append_nil] at hq;have oo:=ze2 as_ bs;rw [hq] at full part oo;have hh:=zs9 K hK w m R ok x.h x.c.a as_.length on (by omega) (by rw [z5f oo.1];omega);generalize z2u w x.h x.c.a as_.length on=z at*;obtain ⟨⟨t,e⟩,u⟩:=z;dsimp only at part hh;unfold stPr;by_cases hn:on=[]
  · subst hn;rw [if_pos rfl];refine RPt.vc hP sh zgo (Eq.mpr (zpc ..) ?_);simp only [z00];refine z01 (fun h=>absurd (of_decide_eq_true h) (by omega)) (fun _=>⟨by trivial,by trivial,z04 (fun c1=> ?_) (fun c1=>⟨by trivial,(t,e,⟨u.s,u.f,m,R⟩),hh.args ⟨.refl _, .refl _, .refl _, .refl _,leNs,trivial⟩, ?_⟩)⟩)
    · rw [full (by simp only [List.length_nil];omega)];exact ⟨.refl _,rfl⟩
    · rw [part (by simp only [List.length_nil];omega)];exact ⟨.refl _,rfl⟩
  · rw [if_neg hn];refine RPt.vc hP sh zgo (Eq.mpr (znz ..) ?_);simp only [z00];refine z01 (fun h=>absurd (of_decide_eq_true h) (by omega)) (fun _=>⟨by trivial,z04 (fun c1=> ?_) (fun c1=>⟨by trivial,⟨by trivial,by omega⟩, ?_⟩)⟩)
    · rw [full (by omega)];exact ⟨.refl _,rfl⟩
    · rw [List.drop_zero,List.take_of_length_le (l:=FTs on) (by rw [z00];exact Nat.le_refl _),part (by omega)];exact ⟨(t,e,⟨u.s,u.f,m,R⟩),hh, .refl _,rfl⟩
 | a::b,pre,d,[],on,_,_,_,hc,_,_=>by simp at hc
 | a::b,pre,d,g::c,on,hp,hd,hpd,hc,ho,hq=>by
  have hlen:as_.length=pre.length+(b.length+1):=by rw [hp];simp
  have hlen2:bs.length=d.length+(c.length+1):=by rw [hd];simp
  have em:List.getD (FTs as_) (Int.toNat (pre.length:Int)) []=FT a:=by rw [hp];exact midI pre a b
  have em2:List.getD (FTs bs) (Int.toNat (pre.length:Int)) []=FT g:=by rw [hpd,hd];exact midI d g c
  have h3:((pre.length:Nat):Int)<(((FTs as_).length:Nat):Int):=by rw [z00];omega
  have h4:((pre.length:Nat):Int)<(((FTs bs).length:Nat):Int):=by rw [z00];simp only [List.length_cons] at hc;omega
  have hs:=zjv a g;have hb:=z7v (b.length:Int)
  have ww:IntKind.wrap .i64 (IntKind.wrap .i64 ((((FTs as_).length:Nat):Int)-1)-(pre.length:Int))=(b.length:Int):=by
   rw [z00,w64 (x:=(as_.length:Int)-1) (by omega) (by omega),w64 (by omega) (by omega)];omega
  have nx:=fun (on':List Tm) h1 h2=>zly K hK x w m R ok as_ bs hl Z full part b (pre++ [a]) (d++ [g]) c on' (by rw [hp];simp) (by rw [hd];simp) (by simp [hpd]) (by simpa using hc) h1 h2;rw [show (((pre++ [a]).length:Nat):Int)=(pre.length:Int)+1 by simp] at nx;have e0:onZ (a::b) (g::c)=(if lfZ a g=true then [bndT (b.length:Int)] else [])++onZ b c:=rfl
  rw [e0] at hq;generalize lfZ a g=q at*
  have skip:q=false→RPt Tryz.prog 185 7 (ci Z.1) (oWk' Z.2 m R) 3 (stPr x as_ bs on w m R ((pre.length:Int)+1)):=fun h=>by
   rw [h,if_neg (by simp),List.nil_append] at hq;exact nx on (by simp;omega) hq
  have take:q=true→RPt Tryz.prog 185 7 (ci Z.1) (oWk' Z.2 m R) 3 (stPr x as_ bs (on++ [bndT (b.length:Int)]) w m R ((pre.length:Int)+1)):=fun h=>by
   rw [if_pos h] at hq;exact nx (on++ [bndT (b.length:Int)]) (by simp;omega) (by rw [hq];simp)
  clear nx full part;have op:FV.L 4 (.sl false 4 (FTs as_))=true∧((0:Int)≤(pre.length:Int)∧(((pre.length:Int)<(((FTs as_).length:Nat):Int))∧((rE (FT a):List FV)=FT a))):=⟨rfl,by omega,h3,z4j a⟩;have op2:FV.L 4 (.sl false 4 (FTs bs))=true∧((0:Int)≤(pre.length:Int)∧(((pre.length:Int)<(((FTs bs).length:Nat):Int))∧((rE (FT g):List FV)=FT g))):=⟨rfl,by omega,h4,z4j g⟩;unfold stPr at skip take ⊢;rw [if_neg (z5b on _)] at take;by_cases hn:on=[]
  · subst hn;rw [if_pos rfl] at skip ⊢;refine RPt.vc hP sh zgo (Eq.mpr (zpc ..) ?_);rw [em,em2,w64 (x:=(pre.length:Int)+1) (by omega) (by omega),ww,z4n,z4n];exact z01 (fun _=>⟨op,op2,q,hs,z01 (fun c=>⟨rfl,_,hb,Nat.le_refl _,z56 (by omega),by rw [z4x];exact take c⟩) (fun c=>skip c)⟩) (fun h=>absurd (of_decide_eq_false h) (by omega))
  · rw [if_neg hn] at skip ⊢;refine RPt.vc hP sh zgo (Eq.mpr (znz ..) ?_);rw [em,em2,w64 (x:=(pre.length:Int)+1) (by omega) (by omega),ww,z4n,z4n];have r1:on.length≤(FTs on).length∧z0c (on.length+1) 56:=⟨by rw [z00];exact Nat.le_refl _,z56 (by omega)⟩;refine z01 (fun _=>⟨op,op2,q,hs,z01 (fun c=>⟨rfl,_,hb,Nat.le_refl _,r1, ?_⟩) (fun c=>skip c)⟩) (fun h=>absurd (of_decide_eq_false h) (by omega));rw [List.take_of_length_le (l:=FTs on) (by rw [z00];exact Nat.le_refl _),z4x];have:=take c;rw [z24,List.length_append] at this;exact this
theorem c_wprune (K:Nat)(hK:K≤1000000000)(w:Wp)(m:Nat)(R:List (List FV))(ok:OkW K w)(x y:Sd)(hx:x.js.length≤10000000)(hy:y.js.length≤10000000):AC Tryz.prog 185 [aWk,aSd x,aSd y] (oWk w m R) (ci (z49 w x y).1) (oWk' (z49 w x y).2 m R):=by
 have h1:=z81 K x.c.a m R x.js (by omega) w ok;obtain ⟨a1,_,a3,_⟩:=z1a (K:=K) x.c.a x.js [] ok (fun t ht=>nomatch ht);simp only [List.length_nil] at a3;have h2:=fun h=>z81 K y.c.a m R y.js (by omega) (z03 x.c.a x.js [] w).2 (a1.ok ok h);have b1:=fun h=>(z1a (K:=K) y.c.a y.js [] (a1.ok ok h) (fun t ht=>nomatch ht)).1;have okn:=fun h=>a1.ok ok h;unfold z49;generalize z03 x.c.a x.js [] w=z at*;generalize z03 y.c.a y.js [] z.2=u at*;obtain ⟨⟨as_,e1⟩,w1⟩:=z;obtain ⟨⟨bs,e2⟩,w2⟩:=u;dsimp only at*;refine AC.vc hP sh zgo (by simp) (by simp [isLive]) (by simp [isLive]) (Eq.mpr (v185 ..) ?_);refine ⟨(as_,e1,⟨w1.s,w1.f,m,R⟩),h1,z0j (fun q=> ?_) (fun q=>⟨(bs,e2,⟨w2.s,w2.f,m,R⟩),h2 q,z0j (fun q2=> ?_) (fun q2=>⟨rfl,rfl, ?_⟩)⟩)⟩
 · rw [if_pos q];exact ⟨.refl _,rfl⟩
 · rw [if_neg (fun w=>w q),if_pos q2];exact ⟨.refl _,rfl⟩
 · rw [if_neg (fun w=>w q),if_neg (fun w=>w q2),z00,z00];have ok2:=(b1 q).ok (okn q) q2;refine z0j (fun q3=> ?_) (fun q3=>⟨rfl, ?_⟩)
   · have q3:(as_.length:Int)≠(bs.length:Int):=q3;rw [if_pos (by omega)];exact ⟨.refl _,rfl⟩
   · have q3:(as_.length:Int)=(bs.length:Int):=q3;have q3:as_.length=bs.length:=by omega
     rw [if_neg (fun w=>w q3)];exact zly K hK x w2 m R ok2 as_ bs (by omega) (if (onZ as_ bs).length=as_.length then (0,w2) else ((z2u w2 x.h x.c.a as_.length (onZ as_ bs)).1.2,(z2u w2 x.h x.c.a as_.length (onZ as_ bs)).2)) (fun h=>if_pos h) (fun h=>if_neg h) as_ [] [] bs [] rfl rfl rfl q3 (Nat.le_refl _) rfl
def PR (l:List (Int×Int)):List (List FV):=l.map fun p=> [.int .i64 p.1, .int .i64 p.2]
theorem zkz (l:List (Int×Int)):(PR l).length=l.length:=by simp [PR]
theorem zlj (a b:List (Int×Int)):PR (a++b)=PR a++PR b:=by simp [PR]
def stkZ (R:List (List FV))(n:Nat)(ps:List (Int×Int)):List (List FV):=if ps=[] then R else R.take n++PR ps
theorem zgm {R:List (List FV)}{n:Nat}(hn:n≤R.length)(ps:List (Int×Int)):n+ps.length≤(stkZ R n ps).length∧(stkZ R n ps).take (n+ps.length)=R.take n++PR ps:=by
 unfold stkZ;split
 · rename_i h;subst h;simp [PR,hn]
 · have h1:(R.take n++PR ps).length=n+ps.length:=by simp [zkz];omega
   exact ⟨by omega,List.take_of_length_le (by omega)⟩
abbrev oOw (z:Ow)(m:Nat)(R:List (List FV)):List AObj:=oWk' z.2 (m+z.1.2.length) (stkZ R m z.1.2.reverse)
abbrev aP2 (p:Int×Int):TV:= .agg [.a (.fz (.int .i64 p.1)), .a (.fz (.int .i64 p.2))]
theorem c_wunder (K:Nat)(w:Wp)(m:Nat)(R:List (List FV))(hm:m≤R.length)(hm2:m≤1099511627776)(ok:OkW K w)(x y:Sd)(p:Int×Int):AC Tryz.prog 183 [aWk,aSd x,aSd y,aP2 p] (oWk w m R) (ci (z7t w x y p).1.1) (oOw (z7t w x y p) m R):=by
 have h1:=zru K w m R ok x p.1;have a1:=ze0 ok x p.1;have h2:=fun h=>zru K (z2t w x p.1).2 m R (a1.ok ok h) y p.2;unfold z7t;generalize z2t w x p.1=z at*;generalize z2t z.2 y p.2=u at*;obtain ⟨⟨r1,e1⟩,w1⟩:=z;obtain ⟨⟨r2,e2⟩,w2⟩:=u;dsimp only at*;refine AC.vc hP sh lv183 (by simp) (by simp [isLive]) (by simp [isLive]) (Eq.mpr (v183 ..) ?_);refine ⟨(r1,e1,⟨w1.s,w1.f,m,R⟩),h1,z0j (fun q=> ?_) (fun q=>⟨(r2,e2,⟨w2.s,w2.f,m,R⟩),h2 q,z0j (fun q2=> ?_) (fun q2=>⟨Nat.le_refl _,⟨hm,by unfold z0c;dsimp only;omega⟩, ?_⟩)⟩)⟩
 · rw [if_pos q];exact ⟨.refl _,rfl⟩
 · rw [if_neg (fun w=>w q),if_pos q2];exact ⟨.refl _,rfl⟩
 · rw [if_neg (fun w=>w q),if_neg (fun w=>w q2)];exact ⟨.refl _,rfl⟩
def zis (P:Program)(S E:TypeId):Bool:=
 match tyOf P S,tyOf P E with
 | some dS,some dE=>(match dS.kind with | .slice e=>Nat.beq e E | _=>false) && !dS.agg && !dE.agg&&Nat.beq dE.size 1
 | _,_=>false
theorem RPt.backI {P:Program} {sh:FuncId→List Sh} {lv:List (Nat×List Nat)} {f:FuncId} {m m0 p oc:Nat} {r:TV} {Hs':List AObj} {U live:List Nat} {env:Env} {s0:St} {α:Type} {H:α→AHeap} {nx:α→Nat} {Inv:α→Prop} {idx:α→Nat} {x0:α} {bk:FuncId} {S E:TypeId} {g:Operand} {es:List Int}
  (hP:P.follows .mixedOrders=true) (hrg:rngB P f p=some g) (hbk:IsBk P bk S E) (hT:zis P S E=true)
  (hs:prepV m0 U live (fun s'=>s'=⟨env,H x0,nx x0⟩) s0) (hm:Nat.ble m m0=true) (henv:env.all (fun p=>p.2.lt m0)=true)
  (hg:ev env g= .c (.fn (.func bk) [] [(false,[.ep oc 1 0 0])])) (hoc:Nat.blt oc m0=true) (hnx:∀ x,Inv x→m0≤nx x)
  (hbox:∀ x,Inv x→hook (H x) oc= .arr 1 [[.a (.fz (.sl false 1 (IR es)))]]) (hN:es.length<9223372036854775808)
  (hidx:∀ x,Inv x→idx x≤es.length)
  (hround:∀ x k (hk:k<es.length),Inv x→idx x=k+1→vcR P sh f m0 U p env k (.c (.a (.fz (.int .i64 es[k])))) (H x) (nx x) fun h n=> ∃ x',(Inv x'∧idx x'=k)∧h=H x'∧n=nx x')
  (hx0:Inv x0) (hi0:idx x0=es.length) (hdone:∀ x,Inv x→idx x=0→vcA P sh lv f m (fun r0 Hs0=>TV.Le r0 r∧Hs0=Hs') (RPt P f m r Hs') p ⟨env,H x,nx x⟩):
  RPt P f m r Hs' p s0:=by
 unfold zis at hT;split at hT
 · rename_i dS dE hS hE;split at hT
   · rename_i e hk;simp only [Bool.and_eq_true,Bool.not_eq_true'] at hT;obtain ⟨⟨⟨h1,h2⟩,h3⟩,h4⟩:=hT;have h1:=Nat.eq_of_beq_eq_true h1;have h4:=Nat.eq_of_beq_eq_true h4;subst h1;refine RPt.back (y:=fun x=> .c (.a (.fz (.pt ((IR es).getD (idx x-1) []))))) (v:=fun x=> .c (.a (.fz (.int .i64 (es.getD (idx x-1) 0))))) (xs:= .c (.a (.fz (.sl false 1 (IR es))))) (N:=(IR es).length) (rdn:=[]) hP hrg hbk hS hk hE hs hm henv hg hoc hnx (fun x hx=> ?_) rfl (by rw [z06];exact hN) (fun x k hx hix=> ?_) (fun x k hx hix=> ?_) hx0 (by rw [z06];exact hi0) hdone
     · refine ⟨[oc], ?_⟩;unfold z58;simp only [hbox x hx];show (if 1=1 then _ else none)=_
       rw [if_pos rfl];show (match zfc dS [.a (.fz (.sl false 1 (IR es)))] with | some v=>some (v,[oc]) | none=>none)=_
       unfold zfc;rw [h2];rfl
     · have hle:=hidx x hx;have hlt:k<es.length:=by omega
       have hlt2:k<(IR es).length:=by rw [z06];exact hlt
       refine ⟨[], ?_, ?_⟩
       · unfold z29 iV;simp only [hk,hE,zdq];rw [if_pos ⟨h4,by omega,by omega⟩,Int.toNat_natCast,hix,Nat.add_sub_cancel]
       · unfold z58;simp only [hix,Nat.add_sub_cancel];rw [z2m hlt,show es.getD k 0=es[k] by simp [List.getD,hlt]];unfold zfc;rw [h3];rfl
     · have hle:=hidx x hx;have hlt:k<es.length:=by omega
       have:=hround x k hlt hx hix;simp only [hix,Nat.add_sub_cancel,show es.getD k 0=es[k] by simp [List.getD,hlt]];exact this
   · cases hT
 · cases hT
abbrev fnI (bk oc:Nat):TV:= .c (.fn (.func bk) [] [(false,[.ep oc 1 0 0])])
theorem zrs (l:List (List FV)):AC Tryz.prog 67 [.c (.a (.fz (.sl false 1 l)))] [] (fnI 122 0) [.arr 1 [[.a (.fz (.sl false 1 l))]]]:=by
 refine AC.vc hP sh lv67 (by simp) (by simp) (by simp [isLive]) (Eq.mpr (v67 ..) ?_);exact ⟨.refl _,rfl⟩
theorem isBkI:IsBk Tryz.prog 122 22 3:=⟨by kernel_rfl,_,214,3,4,Tryz.func122,by kernel_rfl,by kernel_rfl,by kernel_rfl⟩
theorem bTyI:zis Tryz.prog 22 3=true:=by kernel_rfl
abbrev hpOn (w:Wp)(n:Nat)(R:List (List FV))(x y:Sd):AHeap:=
 [(0,wk3 1 17 w.f n),(1,hp6 14 15 16 5 w.s),(2, .gone),(3, .gone),(4, .gone),(5, .mapz (NM w.s.N 0)),(6, .gone),(7, .gone),(8, .gone),(9, .gone),(10, .gone),(11, .arr 1 [[.a (.ep 0 3 0 0)]]),(12,obSd y),(13, .arr 1 [[.a (.fz (.sl false 1 (IR x.js)))]]),(14, .arz 5 (CR w.s.C)),(15, .arz 7 (TR w.s.T)),(16, .arz 1 (NR w.s.N)),(17, .arz 2 R)]
theorem l_wone (w:Wp)(n:Nat)(R:List (List FV))(x y:Sd)(hab:x.js.length=y.js.length)(hn:n≤R.length)(hs:n+x.js.length≤1099511627776):
  RPt Tryz.prog 123 7 (ci 0) (oWk' w (n+x.js.length) (stkZ R n (x.js.zip y.js).reverse)) 3 ⟨[(2, .c (.a (.ep 11 1 0 0))),(7, .c (.a (.ep 12 7 0 0))),(90,fnI 122 13)],wkH w n R++ [(11, .arr 1 [[.a (.ep 0 3 0 0)]]),(12,obSd y),(13, .arr 1 [[.a (.fz (.sl false 1 (IR x.js)))]])],14⟩:=by
 have hz:(x.js.zip y.js).length=x.js.length:=by simp [hab]
 refine RPt.backI (sh:=sh) (lv:=lv123) (α:=Nat) (Inv:=fun i=>i≤x.js.length) (idx:=fun i=>i) (nx:=fun _=>18) (m0:=14) (U:=[7,8,9,10]) (live:=[2,7,90]) (oc:=13) (es:=x.js) (x0:=x.js.length) (g:= .tmp 90) (env:=[(2, .c (.a (.ep 11 1 0 0))),(7, .c (.a (.ep 12 7 0 0))),(90,fnI 122 13)])
  (H:=fun i=>hpOn w (n+(x.js.length-i)) (stkZ R n ((x.js.zip y.js).drop i).reverse) x y) hP (by kernel_rfl) isBkI bTyI ?_ (by kernel_rfl) (by kernel_rfl) (by kernel_rfl) (by kernel_rfl) (fun _ _=>by omega) (fun _ _=>rfl) (by omega) (fun i hi=>hi) (fun i k ha hi hik=> ?_) (Nat.le_refl _) rfl (fun i hi h0=> ?_)
 · refine Eq.mpr (v123_3an ..) ?_;rw [Nat.sub_self,Nat.add_zero,List.drop_eq_nil_of_le (by omega)];rfl
 · have hik:i=k+1:=hik;have hi:i≤x.js.length:=hi;subst hik;have hb:k<y.js.length:=by omega
   have hd:=zgm hn ((x.js.zip y.js).drop (k+1)).reverse;have hrl:(((x.js.zip y.js).drop (k+1)).reverse).length=x.js.length-(k+1):=by simp [hab]
   rw [hrl] at hd;have eb:List.getD (IR y.js) (Int.toNat ((k:Nat):Int)) []=[.int .i64 y.js[k]]:=by rw [Int.toNat_natCast];exact z2m hb
   have edz:(x.js.zip y.js).drop k=(x.js[k],y.js[k])::(x.js.zip y.js).drop (k+1):=by
    rw [List.drop_eq_getElem_cons (by omega)];simp
   have estk:stkZ R n ((x.js.zip y.js).drop k).reverse=List.take (n+(x.js.length-(k+1))) (stkZ R n ((x.js.zip y.js).drop (k+1)).reverse)++ [[.int .i64 x.js[k], .int .i64 y.js[k]]]:=by
    rw [hd.2,edz,List.reverse_cons];unfold stkZ;rw [if_neg (by simp),zlj,←List.append_assoc];rfl
   have en:n+(x.js.length-k)=n+(x.js.length-(k+1))+1:=by omega
   generalize x.js[k]=u at*;generalize y.js[k]=v at*;refine Eq.mpr (znu ..) ?_;rw [eb,z06];refine ⟨⟨rfl,by omega,by omega,rfl⟩,Nat.le_refl _,⟨hd.1,by unfold z0c;omega⟩,k,⟨(by omega:k≤x.js.length),rfl⟩, ?_,rfl⟩;show _=hpOn w (n+(x.js.length-k)) (stkZ R n ((x.js.zip y.js).drop k).reverse) x y;rw [estk,en];rfl
 · have h0:i=0:=h0;subst h0;refine Eq.mpr (zoz ..) ?_;rw [List.drop_zero,Nat.sub_zero];exact ⟨.refl _,rfl⟩
end Go.AM

set_option maxRecDepth 100000
open Go Go.Proofs
namespace Go.AM
theorem c_wone (K:Nat)(hK:K≤1000000000)(w:Wp)(m:Nat)(R:List (List FV))(hm:m≤R.length)(hm2:m≤549755813888)(ok:OkW K w)(p:Int×Int)(j1:(lookW w p.1).1.1.js.length≤100000)(j2:(lookW (lookW w p.1).2 p.2).1.1.js.length≤100000):
  AC Tryz.prog 123 [aWk,aP2 p] (oWk w m R) (ci (oneW w p).1.1) (oOw (oneW w p) m R):=by
 have h1:=zjt K w m R ok p.1;obtain ⟨a1,_,_⟩:=z27 ok p.1;have ok1:=fun h=>a1.ok ok h;have h2:=fun h=>zjt K (lookW w p.1).2 m R (ok1 h) p.2;have b1:=fun h=>(z27 (ok1 h) p.2).1;unfold oneW;generalize lookW w p.1=z at*;generalize lookW z.2 p.2=u at*;obtain ⟨⟨x,e1⟩,w1⟩:=z;obtain ⟨⟨y,e2⟩,w2⟩:=u;dsimp only at*;have fx:=zit x;have fy:=zit y;have cl:=c_hclash x y;refine AC.vc hP sh lv123 (by simp) (by simp [isLive]) (by simp [isLive]) (Eq.mpr (v123 p.1 p.2 ..) ?_);refine ⟨(x.h,x.js,x.c.t,x.c.a,x.c.b,x.c.c,x.c.d,e1,⟨w1.s,w1.f,m,R⟩),h1,z0j (fun q=> ?_) (fun q=>⟨(y.h,y.js,y.c.t,y.c.a,y.c.b,y.c.c,y.c.d,e2,⟨w2.s,w2.f,m,R⟩),h2 q,z0j (fun q2=> ?_) (fun q2=> ?_)⟩)⟩
 · rw [if_pos q];exact ⟨.refl _,rfl⟩
 · rw [if_neg (fun w=>w q),if_pos q2];exact ⟨.refl _,rfl⟩
 have q:e1=0:=q;have q2:e2=0:=q2;rw [if_neg (fun w=>w q),if_neg (fun w=>w q2)];have ok2:=(b1 q).ok (ok1 q) q2;have un:=c_wunder K w2 m R hm (by omega) ok2 x y p;have pr:=c_wprune K hK w2 m R ok2 x y (by omega) (by omega);have bx:=zqb K hK w2 m R ok2 x p.2 j1;have by_:=zqb K hK w2 m R ok2 y p.1 j2;unfold oneG
 have uw:∀ z:Ow,AC Tryz.prog 183 [aWk,aSd x,aSd y,aP2 p] (oWk w2 m R) (ci z.1.1) (oOw z m R)→∃ z3:Int×Wk,AC Tryz.prog 183 [aWk,aSd x,aSd y,aP2 p] (oWk w2 m R) (ci z3.1) (oWk' ⟨z3.2.s,z3.2.f⟩ z3.2.n z3.2.R)∧TV.Le (ci z3.1) (ci z.1.1)∧oWk' ⟨z3.2.s,z3.2.f⟩ z3.2.n z3.2.R=oOw z m R:=fun z hz=>
  ⟨(z.1.1,⟨z.2.s,z.2.f,m+z.1.2.length,stkZ R m z.1.2.reverse⟩),hz, .refl _,rfl⟩
 refine z04 (fun x6=> ?_) (fun x6=>z04 (fun y6=> ?_) (fun y6=> ?_))
 · have x6:x.c.t=6:=x6;rw [if_pos (.inl x6)];exact uw _ un
 · have y6:y.c.t=6:=y6;rw [if_pos (.inr y6)];exact uw _ un
 have x6:¬x.c.t=6:=x6;have y6:¬y.c.t=6:=y6;rw [if_neg (fun w=>w.elim x6 y6)];clear uw un;refine ⟨_,fx,z04 (fun x4=>⟨_,fy,z04 (fun y4=>z04 (fun hh=> ?_) (fun hh=>⟨_,fx,z04 (fun _=> ?_) (fun h=>absurd x4 h)⟩)) (fun y4=>⟨_,fx,z04 (fun _=> ?_) (fun h=>absurd x4 h)⟩)⟩) (fun x4=>⟨_,fx,z04 (fun h=>absurd h x4) (fun _=>⟨_,fy,z04 (fun y4=> ?_) (fun y4=>⟨_,cl,z01 (fun c=> ?_) (fun c=>⟨_,zrs (IR x.js), ?_⟩)⟩)⟩)⟩)⟩
 · have hh:x.h=y.h:=hh;rw [if_pos ⟨x4,y4,hh⟩];exact ⟨((z49 w2 x y).1,⟨(z49 w2 x y).2.s,(z49 w2 x y).2.f,m,R⟩),pr, .refl _,rfl⟩
 · have hh:¬x.h=y.h:=hh;rw [if_neg (fun w=>hh w.2.2),if_pos x4];exact ⟨((z47 w2 x p.2).1,⟨(z47 w2 x p.2).2.s,(z47 w2 x p.2).2.f,m,R⟩),bx, .refl _,rfl⟩
 · rw [if_neg (fun w=>y4 w.2.1),if_pos x4];exact ⟨((z47 w2 x p.2).1,⟨(z47 w2 x p.2).2.s,(z47 w2 x p.2).2.f,m,R⟩),bx, .refl _,rfl⟩
 · rw [if_neg (fun w=>x4 w.1),if_neg x4,if_pos y4];exact ⟨((z47 w2 y p.1).1,⟨(z47 w2 y p.1).2.s,(z47 w2 y p.1).2.f,m,R⟩),by_, .refl _,rfl⟩
 · rw [if_neg (fun w=>x4 w.1),if_neg x4,if_neg y4,if_pos c];exact ⟨.refl _,rfl⟩
 · rw [if_neg (fun w=>x4 w.1),if_neg x4,if_neg y4,if_neg (by rw [c];simp)]
   have hl:x.js.length=y.js.length:=by
    have e:zlu x y=(x.c.t !=y.c.t||x.c.a !=y.c.a||x.js.length !=y.js.length):=rfl;rw [e] at c;simp at c;exact c.2
   have lo:=l_wone w2 m R x y hl hm (by omega);show RPt Tryz.prog 123 7 (ci 0) (oWk' w2 (m+(x.js.zip y.js).length) (stkZ R m (x.js.zip y.js).reverse)) 3 _;rw [show (x.js.zip y.js).length=x.js.length by simp [hl]];exact lo
theorem zoe {R A:List (List FV)}{x:List FV}{m:Nat}(hA:A.length=m)(h:R.take (m+1)=A++ [x]):List.getD R m []=x∧R.take m=A∧m<R.length:=by
 have hl:(R.take (m+1)).length=m+1:=by rw [h];simp [hA]
 have hm:m<R.length:=by rw [List.length_take] at hl;omega
 refine ⟨?_, ?_,hm⟩
 · have:(R.take (m+1))[m]? =some x:=by rw [h,←hA];simp
   rw [List.getElem?_take_of_lt (by omega)] at this;simp [List.getD,this]
 · have:(R.take (m+1)).take m=A:=by rw [h,←hA];simp
   rw [List.take_take,Nat.min_eq_left (by omega)] at this;exact this
structure RunI (K:Nat)(I:Wp→List (Int×Int)→Prop):Prop where
 ok:∀ w st,I w st→OkW K w∧st.length≤500000000
 js:∀ w p st,I w (p::st)→0<w.f→(lookW ⟨w.s,w.f-1⟩ p.1).1.1.js.length≤100000∧(lookW (lookW ⟨w.s,w.f-1⟩ p.1).2 p.2).1.1.js.length≤100000
 nx:∀ w p st,I w (p::st)→0<w.f→(oneW ⟨w.s,w.f-1⟩ p).1.1=0→I (oneW ⟨w.s,w.f-1⟩ p).2 ((oneW ⟨w.s,w.f-1⟩ p).1.2++st)
theorem OkW.less {K:Nat}{w:Wp}(h:OkW K w)(h0:0<w.f):OkW K ⟨w.s,w.f-1⟩:=⟨h.h,by dsimp only;omega,by have:=h.f1;dsimp only;omega,h.n⟩
theorem l_wrun (K:Nat)(hK:K≤1000000000){I:Wp→List (Int×Int)→Prop}(hI:RunI K I):∀ (F:Nat) (w:Wp) (st:List (Int×Int)) (R:List (List FV)),w.f.toNat≤F→I w st→R.take st.length=PR st.reverse→
  ∃ n' R',RPt Tryz.prog 68 7 (ci (runZ F w st).1) (oWk' (runZ F w st).2 n' R') 1 ⟨[(0,aWk)],wkH w st.length R,11⟩
 | F,w,[],R,hF,hi,hR=>by
  refine ⟨0,R, ?_⟩;have e:runZ F w []=(0,w):=by cases F<;>rfl
  rw [e];refine RPt.vc hP sh z7f (Eq.mpr (z85 ..) ?_);exact z01 (fun h=>absurd (of_decide_eq_true h) (by simp)) (fun _=>⟨.refl _,rfl⟩)
 | F,w,p::st,R,hF,hi,hR=>by
  obtain ⟨ok,hs⟩:=hI.ok w _ hi;simp only [List.length_cons] at hs;have f0:=ok.f0;have f1:=ok.f1;rw [List.reverse_cons,zlj] at hR;obtain ⟨t1,t2,t3⟩:=zoe (m:=st.length) (A:=PR st.reverse) (x:=[.int .i64 p.1, .int .i64 p.2]) (by simp [zkz]) hR
  have ew:IntKind.wrap .i64 ((((p::st).length:Nat):Int)-1)=(st.length:Int):=by
   rw [List.length_cons,w64 (by omega) (by omega)];omega
  have ep:List.getD R (0+(st.length:Int).toNat) []=[.int .i64 p.1, .int .i64 p.2]:=by rw [Int.toNat_natCast,Nat.zero_add];exact t1
  by_cases hf:w.f≤0
  · have e:runZ F w (p::st)=(80,w):=by
     cases F with
     | zero=>rfl
     | succ F=>rw [runZ,if_pos hf]
    refine ⟨st.length,R, ?_⟩;rw [e];refine RPt.vc hP sh z7f (Eq.mpr (z85 ..) ?_);rw [ew,ep];refine z01 (fun _=>⟨⟨by omega,by simp only [List.length_cons];omega⟩,⟨by rw [Int.toNat_natCast];omega,rfl,rfl⟩,⟨Int.le_refl _,by omega,by simp only [List.length_cons];omega⟩,z01 (fun _=>⟨.refl _,by rw [Int.toNat_natCast]⟩) (fun h=>absurd (of_decide_eq_false h) (by omega))⟩) (fun h=>absurd (of_decide_eq_false h) (by simp only [List.length_cons];omega))
  · cases F with
    | zero=>omega
    | succ F=>
     have hj:=hI.js w p st hi (by omega);have ok1:=ok.less (by omega);have hp:=c_wone K hK ⟨w.s,w.f-1⟩ st.length R (by omega) (by omega) ok1 p hj.1 hj.2;have hq:=(zp7 ok1 p hj.1 hj.2).1.f1;have hn:=hI.nx w p st hi (by omega);have e:runZ (F+1) w (p::st)=if (oneW ⟨w.s,w.f-1⟩ p).1.1≠0 then ((oneW ⟨w.s,w.f-1⟩ p).1.1,(oneW ⟨w.s,w.f-1⟩ p).2) else runZ F (oneW ⟨w.s,w.f-1⟩ p).2 ((oneW ⟨w.s,w.f-1⟩ p).1.2++st):=by rw [runZ,if_neg hf]
     have next:(oneW ⟨w.s,w.f-1⟩ p).1.1=0→∃ n' R',RPt Tryz.prog 68 7 (ci (runZ F (oneW ⟨w.s,w.f-1⟩ p).2 ((oneW ⟨w.s,w.f-1⟩ p).1.2++st)).1) (oWk' (runZ F (oneW ⟨w.s,w.f-1⟩ p).2 ((oneW ⟨w.s,w.f-1⟩ p).1.2++st)).2 n' R') 1
       ⟨[(0,aWk)],wkH (oneW ⟨w.s,w.f-1⟩ p).2 (st.length+(oneW ⟨w.s,w.f-1⟩ p).1.2.length) (stkZ R st.length (oneW ⟨w.s,w.f-1⟩ p).1.2.reverse),11⟩:=fun h0=>by
      have hn:=hn h0;have hd:=zgm (n:=st.length) (R:=R) (by omega) (oneW ⟨w.s,w.f-1⟩ p).1.2.reverse;rw [List.length_reverse,t2] at hd;have:=l_wrun K hK hI F (oneW ⟨w.s,w.f-1⟩ p).2 ((oneW ⟨w.s,w.f-1⟩ p).1.2++st) (stkZ R st.length (oneW ⟨w.s,w.f-1⟩ p).1.2.reverse) (by dsimp only at hq;omega) hn (by rw [List.length_append,Nat.add_comm,hd.2,List.reverse_append,zlj]);rw [List.length_append,Nat.add_comm] at this;exact this
     rw [e];clear e hn hq hj;generalize oneW ⟨w.s,w.f-1⟩ p=q at*;obtain ⟨⟨qe,qp⟩,qw⟩:=q;dsimp only at next hp ⊢;by_cases h0:qe=0
     · rw [if_neg (by simp [h0])];obtain ⟨n',R',hr⟩:=next h0;refine ⟨n',R', ?_⟩;refine RPt.vc hP sh z7f (Eq.mpr (z85 ..) ?_);rw [ew,ep,w64 (x:=w.f-1) (by omega) (by omega),Int.toNat_natCast];exact z01 (fun _=>⟨⟨by omega,by simp only [List.length_cons];omega⟩,⟨by omega,rfl,rfl⟩,⟨Int.le_refl _,by omega,by simp only [List.length_cons];omega⟩,z01 (fun h=>absurd (of_decide_eq_true h) (by omega)) (fun _=>⟨(qe,⟨qw.s,qw.f,st.length+qp.length,stkZ R st.length qp.reverse⟩),hp,z0j (fun h=>absurd h0 h) (fun _=>hr)⟩)⟩) (fun h=>absurd (of_decide_eq_false h) (by simp only [List.length_cons];omega))
     · rw [if_pos h0];refine ⟨st.length+qp.length,stkZ R st.length qp.reverse, ?_⟩;refine RPt.vc hP sh z7f (Eq.mpr (z85 ..) ?_);rw [ew,ep,w64 (x:=w.f-1) (by omega) (by omega),Int.toNat_natCast];exact z01 (fun _=>⟨⟨by omega,by simp only [List.length_cons];omega⟩,⟨by omega,rfl,rfl⟩,⟨Int.le_refl _,by omega,by simp only [List.length_cons];omega⟩,z01 (fun h=>absurd (of_decide_eq_true h) (by omega)) (fun _=>⟨(qe,⟨qw.s,qw.f,st.length+qp.length,stkZ R st.length qp.reverse⟩),hp,z0j (fun _=>⟨.refl _,rfl⟩) (fun h=>absurd h h0)⟩)⟩) (fun h=>absurd (of_decide_eq_false h) (by simp only [List.length_cons];omega))
theorem c_wrun (K:Nat)(hK:K≤1000000000){I:Wp→List (Int×Int)→Prop}(hI:RunI K I)(w:Wp)(st:List (Int×Int))(hi:I w st):∃ n' R',AC Tryz.prog 68 [aWk] (oWk w st.length (PR st.reverse)) (ci (runZ w.f.toNat w st).1) (oWk' (runZ w.f.toNat w st).2 n' R'):=by
 obtain ⟨n',R',h⟩:=l_wrun K hK hI w.f.toNat w st (PR st.reverse) (Nat.le_refl _) hi (List.take_of_length_le (by rw [zkz,List.length_reverse];exact Nat.le_refl _));refine ⟨n',R',AC.vc hP sh z7f (by simp) (by simp [isLive]) (by simp [isLive]) (Eq.mpr (v68_i1 ..) ?_)⟩;exact h
theorem c_wrun0 (w:Wp):AC Tryz.prog 68 [aWk] [.arr 3 [[.a (.ep 1 6 0 0), .a (.fz .N), .a (.fz (.int .i64 w.f))]],hp6 2 3 4 5 w.s, .arz 5 (CR w.s.C), .arz 7 (TR w.s.T), .arz 1 (NR w.s.N), .mapz (NM w.s.N 0)] (ci 0)
  [.arr 3 [[.a (.ep 1 6 0 0), .a (.fz .N), .a (.fz (.int .i64 w.f))]],hp6 6 7 8 5 w.s, .gone, .gone, .gone, .mapz (NM w.s.N 0), .arz 5 (CR w.s.C), .arz 7 (TR w.s.T), .arz 1 (NR w.s.N)]:=by
 refine AC.vc hP sh lv68 (by simp) (by simp [isLive]) (by simp [isLive]) (Eq.mpr (v68 ..) ?_);refine RPt.vc hP sh lv68 (Eq.mpr (v68_1a ..) ?_);exact ⟨rfl, .refl _,rfl⟩
def RunL (K:Nat)(w:Wp)(st:List (Int×Int)):Prop:=OkW K w∧w.f≤100000∧st.length+w.f≤400000000
theorem runI_L (K:Nat):RunI K (RunL K) where
 ok:=fun w st h=>⟨h.1,by have:=h.2.2;have:=h.1.f0;omega⟩
 js:=fun w p st h h0=>by
  have ok1:=h.1.less h0;have hf:w.f-1≤100000:=by have:=h.2.1;omega
  refine ⟨z7n ok1 p.1 hf, ?_⟩;have h1:=(z27 ok1 p.1).1;by_cases q:(lookW ⟨w.s,w.f-1⟩ p.1).1.2=0
  · exact z7n (h1.ok ok1 q) p.2 (by have:=h1.f1;dsimp only at this;omega)
  · have ok2:OkW (K+1048577) (lookW ⟨w.s,w.f-1⟩ p.1).2:=⟨h1.h,h1.f0,by have:=h1.f1;have:=ok1.f1;dsimp only at*;omega,h1.m⟩;exact z7n ok2 p.2 (by have:=h1.f1;dsimp only at this;omega)
 nx:=fun w p st h h0 q=>by
  have ok1:=h.1.less h0;have hf:w.f-1≤100000:=by have:=h.2.1;omega
  obtain ⟨g1,g2⟩:=zer ok1 p hf;have g2:=g2 q;have f1:=g1.f1;dsimp only at g2 f1;refine ⟨g1.ok ok1 q,by omega, ?_⟩;have:=h.2.2;simp only [List.length_cons] at this;simp only [List.length_append];omega
end Go.AM

set_option maxRecDepth 100000
open Go Go.Proofs
namespace Go.AM
def GoodZ (s:Hp):Prop:=∀ e∈s.T,0≤e.o∧e.o<(s.C.length:Int)∧e.top<(s.C.length:Int)
theorem zjc (s:Hp)(c:Cel):(putS s c).2=s∨(putS s c).2={ s with C:=s.C++ [c] }:=by
 unfold putS;split
 · exact .inl rfl
 · split
   · exact .inl rfl
   · exact .inr rfl
theorem zie (s:Hp)(x:Int)(c:Cel):(setS s x c).2=s∨inC s.C x=true∧(setS s x c).2={ s with C:=s.C.set x.toNat c,T:=s.T++ [⟨x,cellOf s.C x,topS s.T x⟩] }:=by
 unfold setS;split
 · exact .inl rfl
 · rename_i h;split
   · exact .inl rfl
   · split
     · exact .inl rfl
     · split
       · exact .inl rfl
       · exact .inr ⟨by simpa using h,rfl⟩
theorem topZ_lt {T:List Trl}{x n:Int}(hx:x<n)(hT:∀ e∈T,e.top<n):topS T x<n:=by
 unfold topS;split
 · rcases fmax2 (x:=x) rfl with h | h
   · rw [h];exact hx
   · rw [h];exact hT _ (List.getElem_mem _)
 · exact hx
theorem zgu:∀ (D:List Trl) (C:List Cel) (c:Cel),(∀ e∈D,e.o.toNat<C.length)→z5s D (C++ [c])=z5s D C++ [c]
 | [],_,_,_=>rfl
 | e::D,C,c,h=>by
  have ih:=zgu D C c fun x hx=>h x (List.mem_cons_of_mem _ hx);have hl:=z36 D C;show (z5s D (C++ [c])).set _ _=(z5s D C).set _ _++ [c];rw [ih,List.set_append_left _ _ (by rw [hl];exact h e List.mem_cons_self)]
def LaterZ (s0 s:Hp):Prop:=s0.C.length≤s.C.length∧∃ D,s.T=s0.T++D∧(z5s D s.C).take s0.C.length=s0.C
theorem Mv.later {b:Bool}{s0 s:Hp}(h:Mv b s0 s)(hg:GoodZ s0):GoodZ s∧LaterZ s0 s:=by
 induction h with
 | refl=>exact ⟨hg,Nat.le_refl _,[],by simp,by simp [z5s]⟩
 | @put t c _ ih=>
  obtain ⟨ig,hn,D,hD,hC⟩:=ih;rcases zjc t c with e | e<;>rw [e]
  · exact ⟨ig,hn,D,hD,hC⟩
  · refine ⟨fun x hx=> ?_,by simp;omega,D,hD, ?_⟩
    · have:=ig x hx;simp only [List.length_append,List.length_singleton];omega
    · show (z5s D (t.C++ [c])).take _=_;rw [zgu D t.C c fun x hx=>by have:=ig x (by rw [hD];exact List.mem_append_right _ hx);omega,List.take_append_of_le_length (by rw [z36];exact hn)];exact hC
 | @set t a c _ ih=>
  obtain ⟨ig,hn,D,hD,hC⟩:=ih;rcases zie t a c with e | ⟨hin,e⟩<;>rw [e]
  · exact ⟨ig,hn,D,hD,hC⟩
  · simp only [inC,Bool.and_eq_true,decide_eq_true_eq] at hin;obtain ⟨hl,ec⟩:=z8g hin.1 hin.2;refine ⟨fun x hx=> ?_,by simp only [List.length_set];exact hn,D++ [⟨a,cellOf t.C a,topS t.T a⟩],by simp only [hD,List.append_assoc], ?_⟩
    · simp only [List.length_set];rcases List.mem_append.1 hx with hx | hx
      · exact ig x hx
      · rw [List.mem_singleton.1 hx];exact ⟨hin.1,hin.2,topZ_lt hin.2 fun e he=>(ig e he).2.2⟩
    · show (z5s (D++ [_]) (t.C.set a.toNat c)).take _=_;rw [zde,List.set_set,ec,List.set_getElem_self];exact hC
 | names e _ _ ih=>exact ih
theorem LaterZ.back {s0 s:Hp}(h:LaterZ s0 s):(z5r s s0.C.length s0.T.length).C=s0.C∧(z5r s s0.C.length s0.T.length).T=s0.T:=by
 obtain ⟨hn,D,hD,hC⟩:=h;refine ⟨?_, ?_⟩
 · show (z5s (s.T.drop s0.T.length) s.C).take s0.C.length=s0.C;rw [hD,List.drop_left']
   · exact hC
   · rfl
 · show s.T.take s0.T.length=s0.T;rw [hD,List.take_left'];rfl
theorem c_undoZ {b:Bool}{s0 s:Hp}(h:Mv b s0 s)(hg:GoodZ s0)(ok:OkH s):AC Tryz.prog 69 [aH 0, .agg [.a (.fz (.int .i64 (s0.C.length:Int))), .a (.fz (.int .i64 (s0.T.length:Int)))]] (oH s) (.tup []) (oH' (z5r s s0.C.length s0.T.length)):=by
 obtain ⟨g,hn,D,hD,_⟩:=h.later hg;refine c_hundo s s0.C.length s0.T.length (by rw [hD];simp) (by have:=ok.T;omega) hn (fun e he=>⟨(g e he).1,(g e he).2.1⟩) (fun e he=> ?_);rw [hD,List.take_left'] at he
 · exact (hg e he).2.2
 · rfl
abbrev oHb (s:Hp):List AObj:=[.arr 1 [[.a (.ep 1 6 0 0)]],hp6 2 3 4 5 s, .arz 5 (CR s.C), .arz 7 (TR s.T), .arz 1 (NR s.N), .mapz (NM s.N 0)]
abbrev fnO (bk:Nat):TV:= .c (.fn (.func bk) [] [(false,[.ep 0 1 0 0])])
theorem c_hall1 (s:Hp)(x:Int):AC Tryz.prog 65 [ci x, .c (.a (.ep 0 1 0 0))] (oHb s) (cb (oddZ s.C x)) (oHb s):=by
 have hc:=z41 s x;have e:oddZ s.C x=(!inC s.C x||decide (9≤(cellOf s.C x).t)):=rfl;rw [e];refine AC.vc hP sh lv65 (by simp) (by simp [isLive]) (by simp) (Eq.mpr (v65 ..) ?_);refine ⟨_,_,_,_,_,_,hc,z01 (fun h=>z1k ?_) (fun h=>z1k ?_)⟩
 · rw [h];rfl
 · rw [h];rfl
def ixI (p:Int→Bool):List Int→Nat→Int
 | [],_=> -1
 | t::l,i=>if p t=true then (i:Int) else ixI p l (i+1)
theorem zot (p:Int→Bool):∀ (l:List Int) (i:Nat),decide (ixI p l i≥0)=l.any p
 | [],_=>rfl
 | t::l,i=>by
  rw [ixI,List.any_cons];split
  · rename_i h;rw [h];simp
  · rename_i h;rw [zot p l,show p t=false by simpa using h,Bool.false_or]
theorem l_idxi (s:Hp)(l0:List Int)(hl:l0.length≤1000000000):∀ (b a:List Int),l0=a++b→
  RPt Tryz.prog 121 6 (ci (ixI (oddZ s.C) b a.length)) (oHb s) 1 ⟨[(0,aIs l0),(1,fnO 65),(7,ci (l0.length:Int)),(8,ci (a.length:Int))],[(0, .arr 1 [[.a (.ep 1 6 0 0)]]),(1,hp6 2 3 4 5 s),(2, .arz 5 (CR s.C)),(3, .arz 7 (TR s.T)),(4, .arz 1 (NR s.N)),(5, .mapz (NM s.N 0))],6⟩
 | [],a,hp=>by
  rw [List.append_nil] at hp;refine RPt.vc hP sh zpf (Eq.mpr (zbg ..) ?_);exact z01 (fun h=>absurd (of_decide_eq_true h) (by rw [hp];omega)) (fun _=>⟨.refl _,rfl⟩)
 | t::b,a,hp=>by
  have ih:=l_idxi s l0 hl b (a++ [t]) (by rw [hp];simp);rw [show (((a++ [t]).length:Nat):Int)=(a.length:Int)+1 by simp,show (a++ [t]).length=a.length+1 by simp] at ih;have hm:List.getD (IR l0) (Int.toNat (a.length:Int)) []=[.int .i64 t]:=by rw [hp];exact zb9 a t b
  have h3:(a.length:Int)<(((IR l0).length:Nat):Int):=by rw [hp];exact IR_lt a t b
  have h4:(a.length:Int)<((l0.length:Nat):Int):=by rw [z06] at h3;exact h3
  have h1:=c_hall1 s t;rw [ixI];refine RPt.vc hP sh zpf (Eq.mpr (zbg ..) ?_);rw [hm,w64 (x:=(a.length:Int)+1) (by omega) (by omega)];refine z01 (fun _=>⟨⟨rfl,by omega,h3,rfl⟩,oddZ s.C t,h1,z01 (fun h=> ?_) (fun h=> ?_)⟩) (fun h=>absurd h4 (of_decide_eq_false h))
  · rw [if_pos h];exact ⟨.refl _,rfl⟩
  · rw [if_neg (by rw [h];simp)];exact ih
theorem c_anyi (s:Hp)(l:List Int)(hl:l.length≤1000000000):AC Tryz.prog 66 [aIs l,fnO 65] (oHb s) (cb (l.any (oddZ s.C))) (oHb s):=by
 have h:AC Tryz.prog 121 [aIs l,fnO 65] (oHb s) (ci (ixI (oddZ s.C) l 0)) (oHb s):=by
  have:=l_idxi s l hl l [] rfl;refine AC.vc hP sh zpf (Nat.le_refl _) (by simp [isLive]) (by simp) (Eq.mpr (v121_F65 ..) ?_);rw [z06];exact ⟨rfl,this⟩
 have e:=zot (oddZ s.C) l 0;refine AC.vc hP sh lv66 (Nat.le_refl _) (by simp [isLive]) (by simp) (Eq.mpr (v66_F65 ..) ?_);exact ⟨_,h,by rw [←e];exact .refl _,rfl⟩
abbrev haH (s:Hp)(f:Int)(a b:List Int)(i:Nat):AHeap:=
 if i=a.length then [(0,hp6 15 16 17 4 s),(1, .gone),(2, .gone),(3, .gone),(4, .mapz (NM s.N 0)),(5, .gone),(6, .gone),(7, .gone),(8, .arr 1 [[.a (.ep 0 6 0 0)]]),(9, .arr 1 [[.a (.fz (.sl false 1 (IR a)))]]),(10, .arr 1 [[.a (.fz (.sl false 1 (IR b)))]]),(11, .arr 2 [[.a (.fz (.int .i64 (s.C.length:Int))), .a (.fz (.int .i64 (s.T.length:Int)))]]),(12, .arr 1 [[.a (.ep 13 3 0 0)]]),(13, .arr 3 [[.a (.ep 0 6 0 0), .a (.fz .N), .a (.fz (.int .i64 f))]]),(14, .arr 1 [[.a (.fz (.sl false 1 (IR a)))]]),(15, .arz 5 (CR s.C)),(16, .arz 7 (TR s.T)),(17, .arz 1 (NR s.N))]
 else [(0,hp6 15 16 17 4 s),(1, .gone),(2, .gone),(3, .gone),(4, .mapz (NM s.N 0)),(5, .gone),(6, .gone),(7, .gone),(8, .arr 1 [[.a (.ep 0 6 0 0)]]),(9, .arr 1 [[.a (.fz (.sl false 1 (IR a)))]]),(10, .arr 1 [[.a (.fz (.sl false 1 (IR b)))]]),(11, .arr 2 [[.a (.fz (.int .i64 (s.C.length:Int))), .a (.fz (.int .i64 (s.T.length:Int)))]]),(12, .arr 1 [[.a (.ep 13 3 0 0)]]),(13, .arr 3 [[.a (.ep 0 6 0 0), .a (.osl 18 2 0 (a.length-i)), .a (.fz (.int .i64 f))]]),(14, .arr 1 [[.a (.fz (.sl false 1 (IR a)))]]),(15, .arz 5 (CR s.C)),(16, .arz 7 (TR s.T)),(17, .arz 1 (NR s.N)),(18, .arz 2 (PR ((a.zip b).drop i).reverse))]
theorem c_hAll (s:Hp) (hg:GoodZ s) (a b:List Int) (f:Int) (ha:a.length≤1000000000) (hb:b.length≤1000000000)
  (hrun:a.length=b.length→a.any (oddZ s.C)=false→b.any (oddZ s.C)=false→a ≠ []→∃ n' R',AC Tryz.prog 68 [aWk] (oWk ⟨s,f⟩ (a.zip b).length (PR (a.zip b).reverse)) (ci (runZ f.toNat ⟨s,f⟩ (a.zip b)).1) (oWk' (runZ f.toNat ⟨s,f⟩ (a.zip b)).2 n' R'))
  (hmv:a.length=b.length→Mv true s (runZ f.toNat ⟨s,f⟩ (a.zip b)).2.s) (hok:OkH s):
  AC Tryz.prog 16 [aH 0,aIs a,aIs b,ci f] (oH s) (t2 (allZ s a b f).1) (oH' (allZ s a b f).2):=by
 have n1:=c_anyi s a ha;have n2:=c_anyi s b hb;have hm:=c_hmark s
 have e0:allZ s a b f=if a.length≠b.length∨a.any (oddZ s.C)=true∨b.any (oddZ s.C)=true then ((0,1),s)
  else if (runZ f.toNat ⟨s,f⟩ (a.zip b)).1≠0 then ((0,(runZ f.toNat ⟨s,f⟩ (a.zip b)).1),z5r (runZ f.toNat ⟨s,f⟩ (a.zip b)).2.s s.C.length s.T.length)
  else (((runZ f.toNat ⟨s,f⟩ (a.zip b)).2.f,0),(runZ f.toNat ⟨s,f⟩ (a.zip b)).2.s):=rfl
 rw [e0];refine AC.vc hP sh lv16 (by simp) (by simp [isLive]) (by simp [isLive]) (Eq.mpr (v16 (IR a) (IR b) f ..) ?_);rw [z06,z06];refine ⟨rfl,rfl,z0j (fun q=> ?_) (fun q=>⟨_,n1,z01 (fun q1=> ?_) (fun q1=>⟨_,n2,z01 (fun q2=> ?_) (fun q2=>⟨(s.C.length:Int),(s.T.length:Int),hm,IR a,zrs (IR a), ?_⟩)⟩)⟩)⟩
 · rw [if_pos (.inl (by omega))];exact ⟨.refl _,rfl⟩
 · rw [if_pos (.inr (.inl q1))];exact ⟨.refl _,rfl⟩
 · rw [if_pos (.inr (.inr q2))];exact ⟨.refl _,rfl⟩
 have hl:a.length=b.length:=by omega
 rw [if_neg (by rintro (w | w | w);exact w hl;rw [q1] at w;cases w;rw [q2] at w;cases w)];have hrun:=hrun hl q1 q2;have hmv:=hmv hl;clear e0 n1 n2 hm;have hzl:(a.zip b).length=a.length:=by simp [hl]
 refine RPt.backI (sh:=sh) (lv:=lv16) (α:=Nat) (Inv:=fun i=>i≤a.length) (idx:=fun i=>i) (nx:=fun i=>if i=a.length then 18 else 19) (m0:=15) (U:=[5,6,7]) (live:=[4,5,6,11,12,38]) (oc:=14) (es:=a) (x0:=a.length) (g:= .tmp 38) (env:=[(4, .c (.a (.ep 8 1 0 0))),(5, .c (.a (.ep 9 1 0 0))),(6, .c (.a (.ep 10 1 0 0))),(11, .c (.a (.ep 11 2 0 0))),(12, .c (.a (.ep 12 1 0 0))),(38,fnI 122 14)])
  (H:=fun i=>haH s f a b i) hP (by kernel_rfl) isBkI bTyI ?_ (by kernel_rfl) (by kernel_rfl) (by kernel_rfl) (by kernel_rfl) (fun _ _=>by split<;>omega) (fun i _=>by unfold haH;split<;>rfl) (by omega) (fun i hi=>hi) (fun i k hk hi hik=> ?_) (Nat.le_refl _) rfl (fun i hi h0=> ?_)
 · refine Eq.mpr (v16_1an ..) ?_;unfold haH;rw [if_pos rfl,if_pos rfl]
 · have hik:i=k+1:=hik;have hi:i≤a.length:=hi;subst hik;have hkb:k<b.length:=by omega
   have ea:List.getD (IR a) (Int.toNat ((k:Nat):Int)) []=[.int .i64 a[k]]:=by rw [Int.toNat_natCast];exact z2m hk
   have eb:List.getD (IR b) (Int.toNat ((k:Nat):Int)) []=[.int .i64 b[k]]:=by rw [Int.toNat_natCast];exact z2m hkb
   have edz:(a.zip b).drop k=(a[k],b[k])::(a.zip b).drop (k+1):=by
    rw [List.drop_eq_getElem_cons (by omega)];simp
   have estk:PR ((a.zip b).drop k).reverse=PR ((a.zip b).drop (k+1)).reverse++ [[.int .i64 a[k], .int .i64 b[k]]]:=by rw [edz,List.reverse_cons,zlj];rfl
   have hlen:(PR ((a.zip b).drop (k+1)).reverse).length=a.length-(k+1):=by simp [zkz,hl]
   generalize a[k]=u at*;generalize b[k]=v at*;by_cases hc:k+1=a.length
   · unfold haH;rw [if_pos hc,if_pos hc];refine Eq.mpr (v16_1ara ..) ?_;rw [ea,eb,z06,z06];refine ⟨⟨rfl,by omega,by omega,rfl⟩,⟨rfl,by omega,by omega,rfl⟩,Nat.le_refl _,by unfold z0c;omega,k,⟨(by omega:k≤a.length),rfl⟩, ?_,by rw [if_neg (by omega)]⟩;rw [if_neg (by omega),estk,show a.length-k=1 by omega,show (a.zip b).drop (k+1)=[] from List.drop_eq_nil_of_le (by omega)];rfl
   · unfold haH;rw [if_neg hc,if_neg hc];refine Eq.mpr (v16_1arb ..) ?_;rw [ea,eb,z06,z06];refine ⟨⟨rfl,by omega,by omega,rfl⟩,⟨rfl,by omega,by omega,rfl⟩,Nat.le_refl _,⟨by omega,by unfold z0c;omega⟩,k,⟨(by omega:k≤a.length),rfl⟩, ?_,by rw [if_neg (by omega)]⟩;rw [if_neg (by omega),estk,show a.length-k=a.length-(k+1)+1 by omega,List.take_of_length_le (by omega)];rfl
 · have h0:i=0:=h0;subst h0;by_cases hn:a=[]
   · subst hn;have e0:runZ f.toNat ⟨s,f⟩ (([]:List Int).zip b)=(0,⟨s,f⟩):=by cases f.toNat<;>rfl
     rw [e0];have hr:=c_wrun0 ⟨s,f⟩;unfold haH;rw [if_pos (show 0=([]:List Int).length from rfl),if_pos (show 0=([]:List Int).length from rfl)];refine Eq.mpr (v16_1aza ..) ?_;exact ⟨(0,⟨s,f,0,[]⟩),hr,z01 (fun q=>by cases q) (fun _=>⟨.refl _,rfl⟩)⟩
   · obtain ⟨n',R',hr⟩:=hrun hn;have hne:¬0=a.length:=fun q=>hn (List.eq_nil_of_length_eq_zero q.symm);unfold haH;rw [if_neg hne,if_neg hne,Nat.sub_zero,List.drop_zero];rw [hzl] at hr;generalize runZ f.toNat ⟨s,f⟩ (a.zip b)=w at*;obtain ⟨we,ws⟩:=w;dsimp only at hr hmv ⊢;have hu:=c_undoZ hmv hg (hmv.ok hok);refine Eq.mpr (v16_1azb ..) ?_;refine ⟨(we,⟨ws.s,ws.f,n',R'⟩),hr,z0j (fun q=> ?_) (fun q=> ?_)⟩
     · rw [if_pos q];exact ⟨_,hu, .refl _,rfl⟩
     · rw [if_neg (fun w=>w q)];exact ⟨.refl _,rfl⟩
theorem zdz (s:Hp)(a b f:Int)(h:AC Tryz.prog 16 [aH 0,aIs [a],aIs [b],ci f] (oH s) (t2 (allZ s [a] [b] f).1) (oH' (allZ s [a] [b] f).2)):AC Tryz.prog 20 [aH 0,ci a,ci b,ci f] (oH s) (t2 (allZ s [a] [b] f).1) (oH' (allZ s [a] [b] f).2):=by
 refine AC.vc hP sh lv20 (by simp) (by simp [isLive]) (by simp [isLive]) (Eq.mpr (v20 ..) ?_);exact ⟨by decide,by decide,((allZ s [a] [b] f).1.1,(allZ s [a] [b] f).1.2,(allZ s [a] [b] f).2),h, .refl _,rfl⟩
theorem zib (K:Nat)(hK:K≤1000000000)(s:Hp)(hg:GoodZ s)(ok:OkH s)(nm:NmB K s)(a b:List Int)(f:Int)(ha:a.length≤1000000)(hb:b.length≤1000000)(f0:0≤f)(f1:f≤100000):
  AC Tryz.prog 16 [aH 0,aIs a,aIs b,ci f] (oH s) (t2 (allZ s a b f).1) (oH' (allZ s a b f).2):=by
 have okw:OkW K ⟨s,f⟩:=⟨ok,f0,by dsimp only;omega,nm⟩;refine c_hAll s hg a b f (by omega) (by omega) (fun _ _ _ _=> ?_) (fun _=>(zii _ _ okw (by dsimp only;omega)).mv) ok;exact c_wrun K hK (runI_L K) ⟨s,f⟩ (a.zip b) ⟨okw,by dsimp only;omega,by rw [List.length_zip];dsimp only;omega⟩
end Go.AM

set_option maxRecDepth 100000
open Go Go.Proofs
namespace Go.AM
theorem GoodZ.mv {b:Bool}{s t:Hp}(g:GoodZ s)(h:Mv b s t):GoodZ t:=(h.later g).1
theorem NmB.of {K D K2:Nat}{s t:Hp}(h:NmB K s)(hN:t.N.length=s.N.length)(hC:s.C.length≤D+t.C.length)(hK:K+D≤K2):NmB K2 t:=by
 unfold NmB at*;omega
theorem zij {K:Nat}{s:Hp}(hg:GoodZ s)(ok:OkH s)(nm:NmB K s)(a b:List Int)(f:Int)(f0:0≤f)(f1:f≤100000):
  OkH (allZ s a b f).2∧GoodZ (allZ s a b f).2∧NmB (K+2097154) (allZ s a b f).2∧((allZ s a b f).1.2=0∨(allZ s a b f).1.1=0)∧(allZ s a b f).1.1≤f∧
  ((allZ s a b f).1.2≠0→(allZ s a b f).2.C=s.C∧(allZ s a b f).2.T=s.T∧(allZ s a b f).1.1=0)∧(a.length≠b.length→(allZ s a b f).1.2=1):=by
 have okw:OkW K ⟨s,f⟩:=⟨ok,f0,by dsimp only;omega,nm⟩;have r:=zii f.toNat (a.zip b) okw (by dsimp only;omega);unfold allZ;generalize runZ f.toNat ⟨s,f⟩ (a.zip b)=z at*;split
 · exact ⟨ok,hg,by unfold NmB at*;dsimp only;omega, .inr rfl,f0,fun _=>⟨rfl,rfl,rfl⟩,fun _=>rfl⟩
 · rename_i q;have la:=r.mv.later hg;split
   · obtain ⟨b1,b2⟩:=la.2.back;have ml:=r.mv.len;have mC:=r.h.C;have mN:=r.m;refine ⟨⟨by rw [b1];exact ok.C, ?_,by rw [b2];exact ok.T, ?_⟩, ?_, ?_, .inr rfl,f0,fun _=>⟨b1,b2,rfl⟩,fun h=>absurd (.inl h) q⟩
     · show z.2.s.M≤_;rw [ml.2.1];exact ok.M
     · show z.2.s.L≤_;rw [ml.2.2];exact ok.L
     · intro e he;rw [b2] at he;rw [b1];exact hg e he
     · exact mN.of (D:=1048576) rfl (by omega) (by omega)
   · rename_i q2;exact ⟨r.h,la.1,r.m.of (D:=0) rfl (by dsimp only;omega) (by omega), .inl rfl,by have:=r.f1;exact this,fun h=>absurd rfl h,fun h=>absurd (.inl h) q⟩
abbrev hn0:Hp:=⟨[],[],100,100,[]⟩
abbrev hn1:Hp:=⟨[⟨4,0,0,0,0⟩],[],100,100,[]⟩
abbrev tmA:Tm:= .mk 5 [] 0 [.mk 6 [] 0 [.mk 4 [] 0 [],bndT 0]]
abbrev tmB:Tm:= .mk 5 [] 0 [.mk 6 [] 0 [.mk 0 [102] 0 [],bndT 0,bndT 0]]
abbrev hn2:Hp:=⟨[⟨4,0,0,0,0⟩,⟨3,0,0,0,0⟩,⟨7,0,1,0,0⟩,⟨6,2,0,0,0⟩],[],100,100,[]⟩
abbrev hn3:Hp:=⟨[⟨4,0,0,0,0⟩,⟨3,0,0,0,0⟩,⟨7,0,1,0,0⟩,⟨6,2,0,0,0⟩,⟨0,0,0,0,0⟩,⟨3,0,0,0,0⟩,⟨7,4,5,0,0⟩,⟨3,0,0,0,0⟩,⟨7,6,7,0,0⟩,⟨6,8,0,0,0⟩],[],100,100,[[102]]⟩
abbrev tmK:Tm:= .mk 0 [107] 0 []
abbrev hw9:(Int×Int)×Hp:=allZ hn3 [3] [9] 100
abbrev hw10:(Tm×Int×Int)×Hp:=z1e hw9.2 0 100
abbrev hw11:(Int×Int)×Hp:=encS none hw10.2 tmK
abbrev hw12:(Int×Int)×Hp:=allZ hw11.2 [0] [hw11.1.1] 100
theorem znl:(hw9.1.2==0&&hw10.1.2.2==0&&hw11.1.2==0&&hw12.1.2==170)=true∧hw10.1.1=tmB:=⟨by kernel_rfl,by kernel_rfl⟩
theorem w22_encA:encS (some [0]) hn1 tmA=((3,0),hn2):=by kernel_rfl
theorem w22_same:AC Tryz.prog 22 [aT tmB,aT tmB] [] (cb true) []:=runX_AC hP (fun f=>bif List.contains [172] f then 0 else 1) 200 60 (by kernel_rfl)
theorem w22_encS:encS none hn2 tmB=((9,0),hn3):=by kernel_rfl
theorem zqn:AC Tryz.prog 11 [] [] (cb true) []:=by
 have h0:=zq1 100 100;rw [show (⟨[],[],z0k [foldMax [100,0],1048576],z0k [foldMax [100,0],1048576],[]⟩:Hp)=hn0 from rfl] at h0;have o0:OkH hn0:=⟨by decide,by decide,by decide,by decide⟩;have h1:=za5 hn0 o0 0;rw [show z09 hn0 0=((0,0),hn1) from rfl] at h1;have o3:OkH hn3:=⟨by decide,by decide,by decide,by decide⟩;have g3:GoodZ hn3:=fun e he=>by cases he
 have m3:NmB 1 hn3:=by unfold NmB;decide
 have o2:OkH hn2:=⟨by decide,by decide,by decide,by decide⟩;have m2:NmB 1 hn2:=by unfold NmB;decide
 have o1:OkH hn1:=⟨by decide,by decide,by decide,by decide⟩;have m1:NmB 1 hn1:=by unfold NmB;decide
 have h2:=c_EncC 1 (by omega) 0 [] tmA (by decide) hn1 o1 m1;rw [w22_encA] at h2;have h3:=zol 1 (by omega) tmB (by decide) hn2 o2 m2;rw [w22_encS] at h3;have h9:=zdz hn3 3 9 100 (zib 1 (by omega) hn3 g3 o3 m3 [3] [9] 100 (by decide) (by decide) (by omega) (by omega));obtain ⟨o9,g9,m9,_⟩:=zij g3 o3 m3 [3] [9] 100 (by omega) (by omega);have h10:=zj5 hw9.2 0 100 o9 (by omega) (by omega);have qv10:=(zfo hw9.2 0 100 (by omega)).1;have o10:=qv10.ok o9;have g10:=g9.mv qv10;have m10:=qv10.nm m9;have h11:=zol _ (by omega) tmK (by decide) hw10.2 o10 m10;have qv11:=z95 none hw10.2 tmK;have m11:=(zbd none tmK o10 m10).2;have h12:=zdz hw11.2 0 hw11.1.1 100 (zib _ (by omega) hw11.2 (g10.mv qv11) (qv11.ok o10) m11 [0] [hw11.1.1] 100 (by simp) (by simp) (by omega) (by omega));obtain ⟨wr1,wr2⟩:=znl;simp only [Bool.and_eq_true,beq_iff_eq] at wr1;obtain ⟨⟨⟨q9,q10⟩,q11⟩,q12⟩:=wr1;have sm:=w22_same;have ap1:=z3x (.mk 4 [] 0 []) [bndT 0] (by decide);have ap2:=z3x (.mk 0 [102] 0 []) [bndT 0,bndT 0] (by decide);have la1:=zc 1 (.mk 6 [] 0 [.mk 4 [] 0 [],bndT 0]) (by omega);have la2:=zc 1 (.mk 6 [] 0 [.mk 0 [102] 0 [],bndT 0,bndT 0]) (by omega);have e4:=leT (k:=4) (s:=[]) (n:=0) (l:=[]) z2s;have e0:=leT (k:=0) (s:=[102]) (n:=0) (l:=[]) z2s;have lb1:=args1 (x:=bndT 0) (leFT (l:=[]) z2s);have lb2:=args2 (x:=bndT 0) (y:=bndT 0) (leFT (l:=[]) z2s) (leFT (l:=[]) z2s);refine AC.vc hP sh lv11 (Nat.le_refl _) (by simp) (by simp) (Eq.mpr (v11 ..) ?_)
 refine ⟨hn0,h0,(0,0,hn1),h1,⟨rfl,Nat.le_refl _⟩,_,ap1.args ⟨e4,lb1,trivial⟩,_,la1,((3,0),hn2),h2,⟨rfl,Nat.le_refl _⟩,_,ap2.args ⟨e0,lb2,trivial⟩,_,la2,((9,0),hn3),h3,
  (hw9.1.1,hw9.1.2,hw9.2),h9,(hw10.1.1,hw10.1.2.1,hw10.1.2.2,hw10.2),h10,hw11,h11.args ⟨.refl _,leT z2s, .refl _,trivial⟩,(hw12.1.1,hw12.1.2,hw12.2),h12,⟨rfl,Nat.le_refl _⟩,_,ap2.args ⟨e0,lb2,trivial⟩,_,la2,true,by rw [wr2];exact sm, ?_⟩
 exact z04 (fun _=>z04 (fun _=>z04 (fun _=>z04 (fun _=>z04 (fun _=>z04 (fun _=>z01 (fun _=>z0a (by simpa using q12)) (fun h=>by cases h)) (fun h=>absurd q11 h)) (fun h=>absurd q10 h)) (fun h=>absurd q9 h)) (fun h=>absurd rfl h)) (fun h=>absurd rfl h)) (fun h=>absurd rfl h)
abbrev hpZ (s:Hp):AHeap:=[(0,hp6 1 2 3 4 s),(1, .arz 5 (CR s.C)),(2, .arz 7 (TR s.T)),(3, .arz 1 (NR s.N)),(4, .mapz (NM s.N 0))]
end Go.AM

set_option maxRecDepth 100000
open Go Go.Proofs
namespace Go.AM
def gB (p:Int→Int→Bool)(k n d:Int):Bool:=if k=3 then decide (n<d) else (decide (k≠4)&&decide (k≠1))||p k n
mutual
def wG (p:Int→Int→Bool):Tm→Int→Bool
 | .mk k _ n l,d=>gB p k n d&&(if (k==5||k==6)=true then wGL p l (d+if (k==5)=true then 1 else 0) else true)
def wGL (p:Int→Int→Bool):List Tm→Int→Bool
 | [],_=>true
 | t::l,d=>wG p t d&&wGL p l d
end
section
variable {p:Int→Int→Bool}
theorem zo2:∀ {l:List Tm} {d:Int},wGL p l d=true↔∀ t∈l,wG p t d=true
 | [],_=>⟨fun _ t h=>(by cases h),fun _=>rfl⟩
 | t::l,d=>by
  rw [wGL,Bool.and_eq_true,zo2 (l:=l)];exact ⟨fun h u hu=>(List.mem_cons.1 hu).elim (fun e=>e▸h.1) (h.2 u),fun h=>⟨h t List.mem_cons_self,fun u hu=>h u (List.mem_cons_of_mem _ hu)⟩⟩
theorem z57 {k n d:Int}{s:List UInt8}{l:List Tm}:wG p (.mk k s n l) d=true↔gB p k n d=true∧(k=5∨k=6→∀ t∈l,wG p t (d+if (k==5)=true then 1 else 0)=true):=by
 rw [wG,Bool.and_eq_true];by_cases h:k=5∨k=6
 · rw [if_pos (by simpa using h),zo2];exact ⟨fun x=>⟨x.1,fun _=>x.2⟩,fun x=>⟨x.1,x.2 h⟩⟩
 · rw [if_neg (by simpa using h)];exact ⟨fun x=>⟨x.1,fun q=>absurd q h⟩,fun x=>⟨x.1,rfl⟩⟩
theorem zqy {k n d:Int}(h3:k≠3)(h4:k≠4)(h1:k≠1):gB p k n d=true:=by simp [gB,h3,h4,h1]
theorem gB_mono {k n d e:Int}(h:gB p k n d=true)(hd:d≤e):gB p k n e=true:=by
 unfold gB at h ⊢;split
 · rename_i h3;rw [if_pos h3] at h;have:=of_decide_eq_true h;exact decide_eq_true (by omega)
 · rename_i h3;rw [if_neg h3] at h;exact h
theorem gB_imp {q:Int→Int→Bool}(hpq:∀ k n,p k n=true→q k n=true){k n d:Int}(h:gB p k n d=true):gB q k n d=true:=by
 unfold gB at h ⊢;split
 · rename_i h3;rw [if_pos h3] at h;exact h
 · rename_i h3;rw [if_neg h3,Bool.or_eq_true] at h;rw [Bool.or_eq_true];exact h.imp id (hpq k n)
theorem zs1 {q:Int→Int→Bool}(hpq:∀ k n,p k n=true→q k n=true):∀ (t:Tm) {d e:Int},d≤e→wG p t d=true→wG q t e=true:=by
 refine Tm.ind fun t ih=> ?_;intro d e hd h;obtain ⟨k,s,n,l⟩:=t;rw [z57] at h ⊢;exact ⟨gB_imp hpq (gB_mono h.1 hd),fun hk u hu=>ih u hu (by omega) (h.2 hk u hu)⟩
theorem zi7 {t u:Tm}{d:Int}(h:wG p t d=true)(h6:t.k=6)(hu:u∈t.l):wG p u d=true:=by
 obtain ⟨k,s,n,l⟩:=t;have h6:k=6:=h6;subst h6;have:=(z57.1 h).2 (.inr rfl) u hu
 rwa [if_neg (by decide),Int.add_zero] at this
theorem znt {t:Tm}{d:Int}(h:wG p t d=true)(hk:t.k=4∨t.k=1):p t.k t.n=true:=by
 obtain ⟨k,s,n,l⟩:=t;have hk:k=4∨k=1:=hk;have:=(z57.1 h).1;unfold gB at this;rw [if_neg (by omega)] at this;show p k n=true;rcases hk with rfl | rfl<;>simpa using this
theorem wG_six {s:List UInt8}{n d:Int}{l:List Tm}(h:∀ t∈l,wG p t d=true):wG p (.mk 6 s n l) d=true:=by
 rw [z57];exact ⟨zqy (by decide) (by decide) (by decide),fun _ t ht=>by rw [if_neg (by decide),Int.add_zero];exact h t ht⟩
theorem zin {s:List UInt8}{n d:Int}{t:Tm}(h:wG p t (d+1)=true):wG p (.mk 5 s n [t]) d=true:=by
 rw [z57];exact ⟨zqy (by decide) (by decide) (by decide),fun _ u hu=>by rw [List.mem_singleton.1 hu];exact h⟩
theorem wG_dflt {d:Int}:wG p default d=true:=rfl
theorem zpn {n d:Int}(h:n<d):wG p (.mk 3 [] n []) d=true:=by
 show wG p (.mk 3 [] n []) d=true;rw [z57];exact ⟨by unfold gB;rw [if_pos rfl];exact decide_eq_true h,fun _ t ht=>nomatch ht⟩
theorem zlq {n d:Int}(h:p 4 n=true):wG p (.mk 4 [] n []) d=true:=by
 rw [z57];exact ⟨by unfold gB;rw [if_neg (by decide),h,Bool.or_true],fun _ t ht=>nomatch ht⟩
theorem z38 {f:Tm}{l:List Tm}{d:Int}(hf:wG p f d=true)(hl:∀ t∈l,wG p t d=true):wG p (z08 f l) d=true:=by
 cases l with
 | nil=>exact hf
 | cons x a=>
  by_cases h:(f.k==6)=true∧f.l ≠ []
  · rw [show z08 f (x::a)= .mk 6 [] 0 (f.l++(x::a)) from if_pos h];have h6:f.k=6:=by simpa using h.1
    exact wG_six fun t ht=>(List.mem_append.1 ht).elim (zi7 hf h6) (hl t)
  · rw [show z08 f (x::a)= .mk 6 [] 0 (f::(x::a)) from if_neg h];exact wG_six fun t ht=>(List.mem_cons.1 ht).elim (fun e=>e▸hf) (hl t)
theorem zr6 {l:List Tm}{d:Int}(h:∀ t∈l,wG p t d=true):wG p (hd l) d=true:=by
 cases l with
 | nil=>exact wG_dflt
 | cons a b=>exact h _ List.mem_cons_self
theorem withF_wG {t:Tm}{out:List Tm}{d:Int}(hk:t.k=5∨t.k=6)(h:∀ u∈out,wG p u (d+if (t.k==5)=true then 1 else 0)=true):wG p (z4z t out) d=true:=by
 unfold z4z;split
 · rename_i q;have h6:t.k=6:=by simpa using q.1
   rw [h6,if_neg (by decide),Int.add_zero] at h;exact z38 (show wG p (hd out) d=true from zr6 h) fun u hu=>h u (List.mem_of_mem_tail hu)
 · rw [z57];exact ⟨zqy (by omega) (by omega) (by omega),fun _=>h⟩
theorem zl8 {k n m d e:Int}{s s':List UInt8}{l:List Tm}(h:wG p (.mk k s n l) d=true)(hk:¬(k=5∨k=6))(h3:k=3→n<d→m<e)(hn:k≠3→m=n):wG p (.mk k s' m l) e=true:=by
 rw [z57] at h ⊢;refine ⟨?_,fun q=>absurd q hk⟩;have h:=h.1;unfold gB at h ⊢;split
 · rename_i q;rw [if_pos q] at h;exact decide_eq_true (h3 q (of_decide_eq_true h))
 · rename_i q;rw [if_neg q] at h;rw [hn q];exact h
mutual
theorem sh_wG (by_:Int){d:Int}(hb:0≤d+by_):∀ (t:Tm) (e:Int),0≤e→wG p t (d+e)=true→wG p (shT 0 by_ t e) (d+by_+e)=true
 | .mk k s n l,e,he,h=>by
  unfold shT;rw [z1x];split
  · rename_i hk;have hk:k=5∨k=6:=by simpa using hk
    rw [z57] at h;exact withF_wG hk (sh_wGs by_ hb l e _ (by split<;>simp) he (h.2 hk))
  · rename_i hk;have hk:¬(k=5∨k=6):=by simpa using hk
    unfold z4d;split
    · rename_i q;have q2:e+0≤n:=q.2;exact zl8 h hk (fun _ g=>by show n+by_<_;omega) (fun q3=>absurd (by simpa using q.1) q3)
    · rename_i q;refine zl8 h hk (fun q1 g=> ?_) (fun _=>rfl);have:¬(e+0≤n):=fun q2=>q ⟨beq_iff_eq.2 (show k=3 from q1),q2⟩;omega
theorem sh_wGs (by_:Int){d:Int}(hb:0≤d+by_):∀ (l:List Tm) (e x:Int),(x=0∨x=1)→0≤e→(∀ t∈l,wG p t (d+e+x)=true)→∀ t∈z1m (z4d 0 by_) l (e+x),wG p t (d+by_+e+x)=true
 | [],_,_,_,_,_=>fun t ht=>by rw [z1m] at ht;cases ht
 | t::l,e,x,hx,he,h=>by
  rw [z1m];intro u hu;rcases List.mem_cons.1 hu with rfl | hu
  · have:=sh_wG by_ hb t (e+x) (by omega) (by rw [←Int.add_assoc];exact h t List.mem_cons_self);rw [←Int.add_assoc] at this;exact this
  · exact sh_wGs by_ hb l e x hx he (fun u hu=>h u (List.mem_cons_of_mem _ hu)) u hu
end
theorem rest_wG {b:Tm}(h6:b.k=6){d:Int}(h:wG p b d=true):wG p (zb2 b) d=true:=
 z38 (zr6 fun u hu=>zi7 h h6 hu) fun u hu=>zi7 h h6 (List.mem_of_mem_tail ((List.dropLast_sublist _).subset hu))
mutual
theorem zl7:∀ (t:Tm) {d:Int},0≤d→wG p t d=true→wG p (z0d t) d=true
 | .mk k s n l,d,hd,h=>by
  rw [z57] at h;rw [z0d];split
  · rename_i h5;have h5:k=5:=by simpa using h5
    subst h5;have hl:∀ u∈z0u l,wG p u (d+1)=true:=zb6 l (by omega) (h.2 (.inl rfl));split
    · rename_i q;unfold z7r;rw [if_pos q]
      have h6:(Go.AM.hd (z0u l)).k=6:=by
       simp only [z3r,Bool.and_eq_true,beq_iff_eq] at q;exact q.1.1.1
      have:=sh_wG (p:=p) (-1) (d:=d+1) (by omega) (zb2 (Go.AM.hd (z0u l))) 0 (Int.le_refl _) (by rw [Int.add_zero];exact rest_wG h6 (zr6 hl));rw [show d+1+ -1+0=d by omega] at this;exact this
    · exact zin (zr6 hl)
  · split
    · rename_i h6;have h6:k=6:=by simpa using h6
      subst h6
      have hl:∀ u∈z0u l,wG p u d=true:=zb6 l hd (fun u hu=>by
       have:=h.2 (.inr rfl) u hu
       rwa [if_neg (by decide),Int.add_zero] at this)
      exact z38 (zr6 hl) fun u hu=>hl u (List.mem_of_mem_tail hu)
    · rw [z57];exact h
theorem zb6:∀ (l:List Tm) {d:Int},0≤d→(∀ t∈l,wG p t d=true)→∀ t∈z0u l,wG p t d=true
 | [],_,_,_=>fun t ht=>by rw [z0u] at ht;cases ht
 | t::l,d,hd,h=>by
  rw [z0u];intro u hu;rcases List.mem_cons.1 hu with rfl | hu
  · exact zl7 t hd (h _ List.mem_cons_self)
  · exact zb6 l hd (fun u hu=>h u (List.mem_cons_of_mem _ hu)) u hu
end
end
end Go.AM

set_option maxRecDepth 100000
open Go Go.Proofs
namespace Go.AM
structure Lb where
 v:Int
 d:Int
def lat (Y:List Lb)(a:Int):Lb:=(Y[a.toNat]?).getD ⟨0,0⟩
structure Kid (Y:List Lb)(a v d:Int):Prop where
 p0:0≤a
 p1:a<(Y.length:Int)
 v:(lat Y a).v≤v
 d:(lat Y a).d≤d
theorem Kid.mono {Y:List Lb}{a v d v' d':Int}(h:Kid Y a v d)(hv:v≤v')(hd:d≤d'):Kid Y a v' d':=⟨h.p0,h.p1,Int.le_trans h.v hv,Int.le_trans h.d hd⟩
theorem z33 {Y:List Lb}(E:List Lb){a:Int}(h0:0≤a)(h1:a<(Y.length:Int)):lat (Y++E) a=lat Y a:=by
 unfold lat;rw [List.getElem?_append_left (by omega)]
theorem Kid.app {Y:List Lb}(E:List Lb){a v d:Int}(h:Kid Y a v d):Kid (Y++E) a v d:=
 ⟨h.p0,by have:=h.p1;simp only [List.length_append];omega,by rw [z33 E h.p0 h.p1];exact h.v,by rw [z33 E h.p0 h.p1];exact h.d⟩
theorem Kid.self {Y:List Lb}{a:Int}(h0:0≤a)(h1:a<(Y.length:Int)):Kid Y a (lat Y a).v (lat Y a).d:=⟨h0,h1,Int.le_refl _,Int.le_refl _⟩
structure CkZ (Y:List Lb)(n:Int)(c:Cel)(y:Lb):Prop where
 d0:0≤y.d
 tg:c.t≤11
 z:c.t≤2→y.d=0
 e:c.t=1→c.a≤y.v
 b:c.t=3→0≤c.a∧c.a<y.d
 f:c.t=4→y.v=c.a∧y.d=0∧0≤c.a
 r:c.t=5→Kid Y c.a y.v y.d
 l:c.t=6→Kid Y c.a y.v (y.d+1)
 p:c.t=7→Kid Y c.a y.v y.d∧Kid Y c.b y.v y.d
 s:c.t=8→0≤c.c∧c.c≤n∧0≤c.d∧c.d≤y.d∧Kid Y c.a y.v (c.c+(y.d-c.d))∧Kid Y c.b y.v (y.d-c.d)
 m:c.t=10→0≤c.b∧c.b≤n+10000000000∧Kid Y c.a y.v y.d
 i:c.t=11→0≤c.c∧c.c≤n+10000000000∧Kid Y c.a y.v y.d∧Kid Y c.b y.v (c.c+y.d)
theorem CkZ.app {Y:List Lb}{n n':Int}{c:Cel}{y:Lb}(h:CkZ Y n c y)(E:List Lb)(hn:n≤n'):CkZ (Y++E) n' c y:=
 ⟨h.d0,h.tg,h.z,h.e,h.b,h.f,fun q=>(h.r q).app E,fun q=>(h.l q).app E,fun q=>⟨(h.p q).1.app E,(h.p q).2.app E⟩,
  fun q=>by obtain ⟨a1,a2,a3,a4,a5,a6⟩:=h.s q;exact ⟨a1,by omega,a3,a4,a5.app E,a6.app E⟩,
  fun q=>by obtain ⟨a1,a2,a3⟩:=h.m q;exact ⟨a1,by omega,a3.app E⟩,
  fun q=>by obtain ⟨a1,a2,a3,a4⟩:=h.i q;exact ⟨a1,by omega,a3.app E,a4.app E⟩⟩
structure LG (s:Hp)(Y:List Lb):Prop where
 ok:OkH s
 len:Y.length=s.C.length
 ck:∀ (i:Nat) (c:Cel) (y:Lb),s.C[i]? =some c→Y[i]? =some y→CkZ Y (s.C.length:Int) c y
 top:∀ y∈Y,y.d≤(s.C.length:Int)+10000000000
theorem z2o {C:List Cel}{a:Int}:inC C a=true↔0≤a∧a<(C.length:Int):=by simp [inC]
theorem z4v {C:List Cel}{a:Int}(h:inC C a=true):C[a.toNat]? =some (cellOf C a):=by
 obtain ⟨h0,h1⟩:=z2o.1 h;obtain ⟨hl,e⟩:=z8g h0 h1;rw [e];exact List.getElem?_eq_getElem hl
theorem z5a {Y:List Lb}{a:Int}(h1:a.toNat<Y.length):Y[a.toNat]? =some (lat Y a):=by
 unfold lat;rw [List.getElem?_eq_getElem h1];rfl
theorem LG.at {s:Hp}{Y:List Lb}(h:LG s Y){a:Int}(ha:inC s.C a=true):CkZ Y (s.C.length:Int) (cellOf s.C a) (lat Y a):=by
 have:=z2o.1 ha;exact h.ck a.toNat _ _ (z4v ha) (z5a (by rw [h.len];omega))
theorem LG.inC {s:Hp}{Y:List Lb}(h:LG s Y){a v d:Int}(k:Kid Y a v d):inC s.C a=true:=z2o.2 ⟨k.p0,by have:=k.p1;rw [h.len] at this;exact this⟩
theorem LG.d0 {s:Hp}{Y:List Lb}(h:LG s Y){a v d:Int}(k:Kid Y a v d):0≤d:=Int.le_trans (h.at (h.inC k)).d0 k.d
theorem LG.put {s:Hp}{Y:List Lb}(h:LG s Y)(c:Cel)(y:Lb)(hd:y.d≤(s.C.length:Int)+10000000001)(hc:z20 s c=true→CkZ Y (s.C.length:Int) c y):
  (putS s c).1.2≠0∧(putS s c).2=s∨(putS s c).1.2=0∧LG (putS s c).2 (Y++ [y])∧Kid (Y++ [y]) (putS s c).1.1 y.v y.d∧(putS s c).2.C=s.C++ [c]:=by
 have ok:=h.ok.put c;unfold putS at ok ⊢;split
 · exact .inl ⟨by show (1:Int)≠0;decide,rfl⟩
 · rename_i q;split
   · exact .inl ⟨by show (200:Int)≠0;decide,rfl⟩
   · rename_i q2;rw [if_neg q,if_neg q2] at ok;have q:z20 s c=true:=by simpa using q
     have hl:=h.len;refine .inr ⟨rfl,⟨ok,by simp [h.len],fun i c' y' h1 h2=> ?_,fun y' hy=> ?_⟩,⟨Int.natCast_nonneg _,by simp only [List.length_append,List.length_singleton];omega, ?_, ?_⟩,rfl⟩
     · simp only [List.length_append,List.length_singleton];by_cases hi:i<s.C.length
       · dsimp only at h1;rw [List.getElem?_append_left hi] at h1;rw [List.getElem?_append_left (by omega)] at h2;exact (h.ck i c' y' h1 h2).app _ (by omega)
       · dsimp only at h1;rw [List.getElem?_append_right (by omega)] at h1 h2;by_cases hi2:i=s.C.length
         · subst hi2;rw [Nat.sub_self] at h1;rw [hl,Nat.sub_self] at h2;simp only [List.getElem?_cons_zero,Option.some.injEq] at h1 h2;subst h1;subst h2;exact (hc q).app _ (by omega)
         · rw [List.getElem?_eq_none (by simp;omega)] at h1;cases h1
     · simp only [List.length_append,List.length_singleton];rcases List.mem_append.1 hy with hy | hy
       · have:=h.top y' hy;omega
       · rw [List.mem_singleton.1 hy];omega
     all_goals
      have:lat (Y++ [y]) (s.C.length:Int)=y:=by
       unfold lat;rw [Int.toNat_natCast,List.getElem?_append_right (by omega),hl,Nat.sub_self];rfl
      dsimp only;rw [this];exact Int.le_refl _
theorem LG.set {s:Hp}{Y:List Lb}(h:LG s Y)(a b:Int)(hk:Go.AM.inC s.C a=true→Kid Y b (lat Y a).v (lat Y a).d):LG (setS s a ⟨5,b,0,0,0⟩).2 Y:=by
 have ok:=h.ok.set a ⟨5,b,0,0,0⟩;rcases zie s a ⟨5,b,0,0,0⟩ with e | ⟨hin,e⟩
 · rw [e];exact h
 · rw [e] at ok ⊢;have hi:=z2o.1 hin;refine ⟨ok,by simp [h.len],fun i c y h1 h2=> ?_,fun y hy=>by simp only [List.length_set];exact h.top y hy⟩;simp only [List.length_set];dsimp only at h1;rw [List.getElem?_set] at h1;split at h1
   · rename_i q;subst q;split at h1
     · injection h1 with h1
       subst h1
       have e2:y=lat Y a:=by
        have:=z5a (Y:=Y) (a:=a) (by rw [h.len];omega);rw [h2] at this;injection this
       subst e2;have no:∀ {n:Int} {P:Prop},n≠5→(5:Int)=n→P:=fun h1 h2=>absurd h2.symm h1;exact ⟨(h.at hin).d0,by show (5:Int)≤11;decide,fun q=>absurd q (by show¬(5:Int)≤2;decide),no (by decide),no (by decide),no (by decide),fun _=>hk hin,no (by decide),no (by decide),no (by decide),no (by decide),no (by decide)⟩
     · cases h1
   · exact h.ck i c y h1 h2
def Keep (n:Int→Prop)(s s':Hp):Prop:=s.C.length≤s'.C.length∧∀ (i:Nat) (c:Cel),s.C[i]? =some c→n c.t→s'.C[i]? =some c
abbrev NS:Hp→Hp→Prop:=Keep (fun t=>t≠8)
abbrev NF:Hp→Hp→Prop:=Keep (fun t=>t=4)
section
variable {n:Int→Prop} {s t u:Hp}
theorem Keep.refl (s:Hp):Keep n s s:=⟨Nat.le_refl _,fun _ _ h _=>h⟩
theorem Keep.trans (h:Keep n s t)(g:Keep n t u):Keep n s u:=⟨Nat.le_trans h.1 g.1,fun i c e q=>g.2 i c (h.2 i c e q) q⟩
theorem Keep.put (c:Cel)(h:Keep n s t):Keep n s (putS t c).2:=by
 rcases zjc t c with e | e<;>rw [e]
 · exact h
 · exact ⟨by have:=h.1;simp only [List.length_append,List.length_singleton];omega,fun i c' e q=>by
    have:=h.2 i c' e q;dsimp only;rw [List.getElem?_append_left (by rcases Nat.lt_or_ge i t.C.length with q | q;exact q;rw [List.getElem?_eq_none q] at this;cases this)];exact this⟩
theorem Keep.set (a:Int)(c:Cel)(h:Keep n s t)(ha:inC s.C a=true→¬n (cellOf s.C a).t):Keep n s (setS t a c).2:=by
 rcases zie t a c with e | ⟨hin,e⟩<;>rw [e]
 · exact h
 · refine ⟨by simp only [List.length_set];exact h.1,fun i c' e q=> ?_⟩;dsimp only;rw [List.getElem?_set];split
   · rename_i q2;exfalso;have hi:i<s.C.length:=by rcases Nat.lt_or_ge i s.C.length with g | g;exact g;rw [List.getElem?_eq_none g] at e;cases e
     have h0:=(z2o.1 hin).1;have hs:inC s.C a=true:=z2o.2 ⟨h0,by omega⟩;have:=z4v hs;rw [q2,e] at this;injection this with this
     exact ha hs (by rw [←this];exact q)
   · exact h.2 i c' e q
theorem Keep.cell (h:Keep n s t){a:Int}(ha:inC s.C a=true)(hn:n (cellOf s.C a).t):inC t.C a=true∧cellOf t.C a=cellOf s.C a:=by
 have:=z2o.1 ha;have hl:=h.1;have hin:inC t.C a=true:=z2o.2 ⟨this.1,by omega⟩;refine ⟨hin, ?_⟩;have h1:=h.2 _ _ (z4v ha) hn;rw [z4v hin] at h1;injection h1
end
theorem NS.nf {s t:Hp}(h:NS s t):NF s t:=⟨h.1,fun i c e q=>h.2 i c e (by rw [q];decide)⟩
end Go.AM

set_option maxRecDepth 100000
open Go Go.Proofs
namespace Go.AM
theorem zfj {x:Int}(h0: -4000000000000000000≤x)(h1:x≤4000000000000000000):wr x=x:=w64 (by omega) (by omega)
def Up (r:Rd)(Y:List Lb)(r':Rd)(P:List Lb→Prop):Prop:=∃ E,LG r'.s (Y++E)∧NS r.s r'.s∧(r'.e=0→r.e=0∧P (Y++E))
theorem Up.mk0 {r r':Rd}{Y:List Lb}{P:List Lb→Prop}(h:LG r.s Y)(e:r'.s=r.s)(hp:r'.e=0→r.e=0∧P Y):Up r Y r' P:=
 ⟨[],by rw [List.append_nil,e];exact h,by rw [e];exact .refl _,by rw [List.append_nil];exact hp⟩
theorem Up.seq {r r1 r2:Rd}{Y:List Lb}{P Q:List Lb→Prop}(h:Up r Y r1 P)(g:∀ E,LG r1.s (Y++E)→r.s.C.length≤r1.s.C.length→(r1.e=0→P (Y++E))→Up r1 (Y++E) r2 Q):Up r Y r2 Q:=by
 obtain ⟨E,a1,a2,a3⟩:=h;obtain ⟨F,b1,b2,b3⟩:=g E a1 a2.1 (fun e=>(a3 e).2);refine ⟨E++F,by rw [←List.append_assoc];exact b1,a2.trans b2,fun e=> ?_⟩;rw [←List.append_assoc];exact ⟨(a3 (b3 e).1).1,(b3 e).2⟩
theorem Up.imp {r r':Rd}{Y:List Lb}{P Q:List Lb→Prop}(h:Up r Y r' P)(g:∀ E,r'.e=0→P (Y++E)→Q (Y++E)):Up r Y r' Q:=by
 obtain ⟨E,a1,a2,a3⟩:=h;exact ⟨E,a1,a2,fun e=>⟨(a3 e).1,g E e (a3 e).2⟩⟩
theorem z70 {r:Rd}{Y:List Lb}(h:LG r.s Y)(c:Cel)(y:Lb)(hd:y.d≤(r.s.C.length:Int)+10000000001)(hc:r.e=0→z20 r.s c=true→CkZ Y (r.s.C.length:Int) c y):
  Up r Y (putR r c).2 (fun Z=>Kid Z (putR r c).1 y.v y.d∧(putR r c).2.s.C.length=r.s.C.length+1):=by
 unfold putR;split
 · rename_i e0;rcases h.put c y hd (hc e0) with ⟨a,b⟩ | ⟨a,b,k,e⟩
   · exact Up.mk0 h b (fun e=>absurd e a)
   · exact ⟨[y],b,Keep.put c (.refl _),fun _=>⟨e0,k,by dsimp only;rw [e];simp⟩⟩
 · rename_i e0;exact Up.mk0 h rfl (fun e=>absurd e e0)
theorem kid_ref {s:Hp}{Y:List Lb}(h:LG s Y){a v d:Int}(k:Kid Y a v d)(h5:(cellOf s.C a).t=5):Kid Y (cellOf s.C a).a v d:=((h.at (h.inC k)).r h5).mono k.v k.d
theorem zg1 {s:Hp}{Y:List Lb}(h:LG s Y){v d:Int}:∀ (n:Nat) (a:Int),Kid Y a v d→Kid Y (z3w s.C n a) v d
 | 0,_,k=>k
 | n+1,a,k=>by
  rw [z3w];split
  · exact k
  · split
    · exact k
    · rename_i q;exact zg1 h n _ (kid_ref h k (by simpa using q))
structure VisZ (Y:List Lb)(C:List Cel)(x:Cel×Int)(v d:Int):Prop where
 i:inC C x.2=true
 c:x.1=cellOf C x.2
 k:Kid Y x.2 v d
 n5:x.1.t≠5
 n9:x.1.t<9
theorem zab {r:Rd}{Y:List Lb}(h:LG r.s Y){a v d:Int}(k:r.e=0→Kid Y a v d)(e:(z02 r a).2.e=0):r.e=0∧VisZ Y r.s.C (z02 r a).1 v d:=by
 have ne:∀ x:Int,x≠0→(z0w r x).e=0→r.e=0∧VisZ Y r.s.C (z02 r a).1 v d:=fun x hx q=>absurd q (z2k r hx);unfold z02 at e ⊢;split
 · rename_i q;rw [if_pos q] at e;exact absurd e (z2k r (by decide))
 · rename_i q1;rw [if_neg q1] at e;split
   · rename_i q;rw [if_pos q] at e;exact absurd e (z2k r (by decide))
   · rename_i q2;rw [if_neg q2] at e;split
     · rename_i q;rw [if_pos q] at e;exact absurd e (z2k r (by decide))
     · rename_i q3;rw [if_neg q3] at e;split
       · rename_i q;rw [if_pos q] at e;exact absurd e (z2k r (by decide))
       · rename_i q4;rw [if_neg q4] at e;split
         · rename_i q;rw [if_pos q] at e;exact absurd e q
         · rename_i q5;have e0:r.e=0:=by simpa using q5
           exact ⟨e0,by simpa using q1,rfl,zg1 h _ _ (k e0),q3,by simp only;omega⟩
theorem zs0 {r:Rd}{Y:List Lb}(h:LG r.s Y)(a u v d:Int)(hd:d≤(r.s.C.length:Int)+10000000001)(hu:r.e=0→u≤d∧Kid Y a v (d-u)∧0≤d-u):Up r Y (z3m r a u).2 (fun Z=>Kid Z (z3m r a u).1 v d):=by
 unfold z3m;split
 · rename_i q;exact Up.mk0 h rfl (fun e=>⟨e,by have:=(hu e).2.1;rw [q,Int.sub_zero] at this;exact this⟩)
 · have no:∀ {m:Int} {P:Prop},m≠9→(9:Int)=m→P:=fun h1 h2=>absurd h2.symm h1
   have p1:Up r Y (putR r ⟨9,0,0,0,0⟩).2 (fun Z=>Kid Z (putR r ⟨9,0,0,0,0⟩).1 v (d-u)∧Kid Z a v (d-u)∧u≤d∧(putR r ⟨9,0,0,0,0⟩).2.s.C.length=r.s.C.length+1):=by
    by_cases e0:r.e=0
    · obtain ⟨u1,u2,u3⟩:=hu e0;by_cases u4:u<0
      · refine (z70 h ⟨9,0,0,0,0⟩ ⟨v,0⟩ (by dsimp only;omega) (fun _ _=>⟨Int.le_refl _,by show (9:Int)≤11;decide,fun q=>absurd q (by show¬(9:Int)≤2;decide),no (by decide),no (by decide),no (by decide),no (by decide),no (by decide),no (by decide),no (by decide),no (by decide),no (by decide)⟩)).imp fun E _ k=>⟨k.1.mono (Int.le_refl _) u3,u2.app E,u1,k.2⟩
      · exact (z70 h ⟨9,0,0,0,0⟩ ⟨v,d-u⟩ (by dsimp only;omega) (fun _ _=>⟨u3,by show (9:Int)≤11;decide,fun q=>absurd q (by show¬(9:Int)≤2;decide),no (by decide),no (by decide),no (by decide),no (by decide),no (by decide),no (by decide),no (by decide),no (by decide),no (by decide)⟩)).imp fun E _ k=>⟨k.1,u2.app E,u1,k.2⟩
    · have e1:(putR r ⟨9,0,0,0,0⟩)=(0,r):=if_neg e0;rw [e1];exact Up.mk0 h rfl fun e=>absurd e e0
   refine p1.seq fun E g hl k=> ?_;refine (z70 g _ ⟨v,d⟩ (by dsimp only;omega) (fun e f=> ?_)).imp fun _ _ k=>k.1;obtain ⟨k1,k2,k3,_⟩:=k e
   have hd0:0≤d:=by
    have:=g.d0 k2;have f4:decide ((8:Int)≥0)=true:=rfl
    have:0≤u:=by
     unfold z20 at f;simp at f;omega
    omega
   have hu0:0≤u:=by
    unfold z20 at f;simp at f;omega
   have no:∀ {m:Int} {P:Prop},m≠8→(8:Int)=m→P:=fun h1 h2=>absurd h2.symm h1;exact ⟨hd0,by show (8:Int)≤11;decide,fun q=>absurd q (by show¬(8:Int)≤2;decide),no (by decide),no (by decide),no (by decide),no (by decide),no (by decide),no (by decide),fun _=>⟨Int.le_refl _,by dsimp only;omega,hu0,k3,by show Kid _ _ _ (0+(d-u));rw [Int.zero_add];exact k2,k1⟩,no (by decide),no (by decide)⟩
theorem zkp {s:Hp}{Y:List Lb}(h:LG s Y){v m:Int}:∀ (n:Nat) (r:Rd) (row j:Int),r.s=s→Kid Y row v m→
  (z0p n r row j).2.s=s∧((z0p n r row j).2.e=0→r.e=0)∧((z0p n r row j).1.2=true→∃ b,inC s.C b=true∧(z0p n r row j).1.1=cellOf s.C b∧Kid Y b v m∧10≤(cellOf s.C b).t)
 | 0,r,_,_,e,_=>⟨e,fun q=>q,fun q=>by cases q⟩
 | n+1,r,row,j,e,k=>by
  have hin:=h.inC k;have ck:=h.at hin;rw [z0p,e];have fl:∀ x:Int,x≠0→(z0w r x).s=s∧((z0w r x).e=0→r.e=0):=fun x hx=>⟨e,fun q=>absurd q (z2k r hx)⟩;split
  · exact ⟨(fl 1 (by decide)).1,(fl 1 (by decide)).2,fun q=>by cases q⟩
  · split
    · exact ⟨(fl 1 (by decide)).1,(fl 1 (by decide)).2,fun q=>by cases q⟩
    · split
      · exact ⟨e,fun q=>q,fun q=>by cases q⟩
      · rename_i q9 q10;split
        · exact ⟨e,fun q=>q,fun _=>⟨row,hin,rfl,k,by omega⟩⟩
        · split
          · exact ⟨(fl 80 (by decide)).1,(fl 80 (by decide)).2,fun q=>by cases q⟩
          · have kk:Kid Y (cellOf s.C row).a v m:=by
             have:=ck.tg;by_cases h10:(cellOf s.C row).t=10
             · exact (ck.m h10).2.2.mono k.v k.d
             · exact (ck.i (by omega)).2.2.1.mono k.v k.d
            exact zkp h n ⟨s,r.f-1,r.e⟩ _ _ rfl kk
structure Sc (Y:List Lb)(n:Int)(s:Cel)(v d:Int):Prop where
 c0:0≤s.c
 c1:s.c≤n
 d0:0≤s.d
 d1:s.d≤d
 a:Kid Y s.a v (s.c+(d-s.d))
 b:Kid Y s.b v (d-s.d)
theorem Sc.app {Y:List Lb}{n m:Int}{s:Cel}{v d:Int}(h:Sc Y n s v d)(E:List Lb)(hn:n≤m):Sc (Y++E) m s v d:=⟨h.c0,Int.le_trans h.c1 hn,h.d0,h.d1,h.a.app E,h.b.app E⟩
theorem zoa {r:Rd}{Y:List Lb}(h:LG r.s Y)(x v d:Int)(hd:d≤(r.s.C.length:Int)+10000000000)(h0:0≤d)(hx:r.e=0→x<d):Up r Y (putR r ⟨3,x,0,0,0⟩).2 (fun Z=>Kid Z (putR r ⟨3,x,0,0,0⟩).1 v d):=by
 refine (z70 h ⟨3,x,0,0,0⟩ ⟨v,d⟩ (by dsimp only;omega) (fun e f=> ?_)).imp fun _ _ k=>k.1;have no:∀ {m:Int} {P:Prop},m≠3→(3:Int)=m→P:=fun h1 h2=>absurd h2.symm h1
 have f0:0≤x:=by
  unfold z20 at f;simpa using f
 exact ⟨h0,by show (3:Int)≤11;decide,fun q=>absurd q (by show¬(3:Int)≤2;decide),no (by decide),fun _=>⟨f0,hx e⟩,no (by decide),no (by decide),no (by decide),no (by decide),no (by decide),no (by decide),no (by decide)⟩
theorem los_up (n:Nat){r:Rd}{Y:List Lb}(h:LG r.s Y)(s:Cel)(j v d:Int)(hd:d≤(r.s.C.length:Int)+10000000000)(hs:Sc Y (r.s.C.length:Int) s v d)(j0:0≤j)(j1:j<s.c+(d-s.d)):Up r Y (losR n r s j).2 (fun Z=>Kid Z (losR n r s j).1 v d):=by
 have hC:=h.ok.C;obtain ⟨c0,c1,d0,d1,ka,kb⟩:=hs
 have ew:wr (wr (j-s.c)+s.d)=j-s.c+s.d:=by
  rw [zfj (x:=j-s.c) (by omega) (by omega),zfj (by omega) (by omega)]
 have en:=zkp h n r s.b j rfl kb;unfold losR;rw [ew];split
 · generalize z0p n r s.b j=z at*;obtain ⟨⟨c,b⟩,r1⟩:=z;obtain ⟨e1,e2,e3⟩:=en;dsimp only at e1 e2 e3 ⊢;have g:LG r1.s Y:=by rw [e1];exact h
   have tr:∀ {r2:Rd} {P:List Lb→Prop},Up r1 Y r2 P→Up r Y r2 P:=fun ⟨E,a1,a2,a3⟩=>⟨E,a1,by rw [e1] at a2;exact a2,fun e=>⟨e2 (a3 e).1,(a3 e).2⟩⟩;split
   · rename_i q;obtain ⟨b,hb,eb,kb2,t10⟩:=e3 q;have ck:=h.at hb;rw [←eb] at ck t10;split
     · rename_i q10;obtain ⟨m1,m2,_⟩:=ck.m q10;rw [zfj (x:=s.d-1) (by omega) (by omega),zfj (by omega) (by omega)];exact tr (zoa g _ v d (by rw [e1];exact hd) (by omega) (fun _=>by omega))
     · rename_i q10;have:=ck.tg;obtain ⟨m1,m2,_,m3⟩:=ck.i (by omega);rw [zfj (x:=s.d-c.c) (by omega) (by omega)];exact tr (zs0 g _ _ v d (by rw [e1];omega) (fun _=>⟨by omega,m3.mono kb2.v (by have:=kb2.d;omega),by omega⟩))
   · exact tr (zoa g _ v d (by rw [e1];exact hd) (by omega) (fun _=>by omega))
 · exact zoa h _ v d hd (by omega) (fun _=>by omega)
theorem ze9 {r:Rd}{Y:List Lb}(h:LG r.s Y)(a row x y v d:Int)(hd:d≤(r.s.C.length:Int)+10000000001)(hx:r.e=0→x≤(r.s.C.length:Int)∧y≤d∧Kid Y a v (x+(d-y))∧Kid Y row v (d-y)):Up r Y (putR r ⟨8,a,row,x,y⟩).2 (fun Z=>Kid Z (putR r ⟨8,a,row,x,y⟩).1 v d):=by
 refine (z70 h ⟨8,a,row,x,y⟩ ⟨v,d⟩ hd (fun e f=> ?_)).imp fun _ _ k=>k.1;obtain ⟨h1,h2,h3,h4⟩:=hx e;have no:∀ {m:Int} {P:Prop},m≠8→(8:Int)=m→P:=fun h1 h2=>absurd h2.symm h1
 have f0:0≤x∧0≤y:=by
  unfold z20 at f;simp at f;omega
 have:=h.d0 h4;exact ⟨by dsimp only;omega,by show (8:Int)≤11;decide,fun q=>absurd q (by show¬(8:Int)≤2;decide),no (by decide),no (by decide),no (by decide),no (by decide),no (by decide),no (by decide),fun _=>⟨f0.1,h1,f0.2,h2,h3,h4⟩,no (by decide),no (by decide)⟩
theorem one_up {r:Rd}{Y:List Lb}(h:LG r.s Y)(b v d:Int)(hd:d≤(r.s.C.length:Int)+10000000001)(h0:0≤d)(hx:r.e=0→Kid Y b v (d+1)):Up r Y (putR r ⟨6,b,0,0,0⟩).2 (fun Z=>Kid Z (putR r ⟨6,b,0,0,0⟩).1 v d):=by
 refine (z70 h ⟨6,b,0,0,0⟩ ⟨v,d⟩ hd (fun e f=> ?_)).imp fun _ _ k=>k.1;have no:∀ {m:Int} {P:Prop},m≠6→(6:Int)=m→P:=fun h1 h2=>absurd h2.symm h1;exact ⟨h0,by show (6:Int)≤11;decide,fun q=>absurd q (by show¬(6:Int)≤2;decide),no (by decide),no (by decide),no (by decide),no (by decide),fun _=>hx e,no (by decide),no (by decide),no (by decide),no (by decide)⟩
theorem two_up {r:Rd}{Y:List Lb}(h:LG r.s Y)(f x v d:Int)(hd:d≤(r.s.C.length:Int)+10000000001)(hx:r.e=0→Kid Y f v d∧Kid Y x v d):Up r Y (putR r ⟨7,f,x,0,0⟩).2 (fun Z=>Kid Z (putR r ⟨7,f,x,0,0⟩).1 v d):=by
 refine (z70 h ⟨7,f,x,0,0⟩ ⟨v,d⟩ hd (fun e _=> ?_)).imp fun _ _ k=>k.1;have no:∀ {m:Int} {P:Prop},m≠7→(7:Int)=m→P:=fun h1 h2=>absurd h2.symm h1;exact ⟨h.d0 (hx e).1,by show (7:Int)≤11;decide,fun q=>absurd q (by show¬(7:Int)≤2;decide),no (by decide),no (by decide),no (by decide),no (by decide),no (by decide),fun _=>hx e,no (by decide),no (by decide),no (by decide)⟩
theorem lam_up {r:Rd}{Y:List Lb}(h:LG r.s Y)(s:Cel)(b v d:Int)(hd:d≤(r.s.C.length:Int)+10000000000)(hs:Sc Y (r.s.C.length:Int) s v d)(hb:Kid Y b v (s.c+(d-s.d)+1)):Up r Y (lamR r s b).2 (fun Z=>Kid Z (lamR r s b).1 v d):=by
 have hC:=h.ok.C;obtain ⟨c0,c1,d0,d1,ka,kb⟩:=hs;unfold lamR z1i;rw [zfj (x:=s.c+1) (by omega) (by omega),zfj (x:=s.d+1) (by omega) (by omega)];have no:∀ {m:Int} {P:Prop},m≠10→(10:Int)=m→P:=fun h1 h2=>absurd h2.symm h1;have p1:=z70 h ⟨10,s.b,s.d,0,0⟩ ⟨v,d-s.d⟩ (by dsimp only;omega) (fun e _=>⟨by dsimp only;omega,by show (10:Int)≤11;decide,fun q=>absurd q (by show¬(10:Int)≤2;decide),no (by decide),no (by decide),no (by decide),no (by decide),no (by decide),no (by decide),no (by decide),fun _=>⟨d0,by dsimp only;omega,kb⟩,no (by decide)⟩);refine p1.seq fun E g hl k=> ?_;generalize putR r ⟨10,s.b,s.d,0,0⟩=z at*;refine Up.seq (P:=fun Z=>Kid Z (putR z.2 ⟨8,b,z.1,s.c+1,s.d+1⟩).1 v (d+1)) (ze9 g b z.1 (s.c+1) (s.d+1) v (d+1) (by omega) fun e=> ?_) fun F g2 hl2 k2=> ?_
 · obtain ⟨k1,k2⟩:=k e;exact ⟨by omega,by omega,(hb.app E).mono (Int.le_refl _) (by omega),k1.mono (Int.le_refl _) (by dsimp only;omega)⟩
 · exact one_up g2 _ v d (by omega) (by omega) k2
theorem app_up {r:Rd}{Y:List Lb}(h:LG r.s Y)(s:Cel)(f x v d:Int)(hd:d≤(r.s.C.length:Int)+10000000000)(hs:Sc Y (r.s.C.length:Int) s v d)(hf:Kid Y f v (s.c+(d-s.d)))(hx:Kid Y x v (s.c+(d-s.d))):Up r Y (appR r s f x).2 (fun Z=>Kid Z (appR r s f x).1 v d):=by
 have hC:=h.ok.C;obtain ⟨c0,c1,d0,d1,ka,kb⟩:=hs;unfold appR z1i;rw [zfj (x:=s.c+0) (by omega) (by omega),zfj (x:=s.d+0) (by omega) (by omega),Int.add_zero,Int.add_zero];refine (ze9 h f s.b s.c s.d v d (by omega) fun e=>⟨c1,d1,hf,kb⟩).seq fun E g hl k=> ?_;generalize putR r ⟨8,f,s.b,s.c,s.d⟩=z at*;refine Up.seq (P:=fun Z=>Kid Z z.1 v d∧Kid Z (putR z.2 ⟨8,x,s.b,s.c,s.d⟩).1 v d) ?_ fun F g2 hl2 k2=>two_up g2 _ _ v d (by omega) k2;obtain ⟨F,a1,a2,a3⟩:=ze9 g x s.b s.c s.d v d (by omega) fun e=>⟨by omega,d1,hx.app E,kb.app E⟩;exact ⟨F,a1,a2,fun e=>⟨(a3 e).1,(k (a3 e).1).app F,(a3 e).2⟩⟩
theorem level_up (n:Nat){r:Rd}{Y:List Lb}(h:LG r.s Y)(x:Cel×Int)(s:Cel)(v d:Int)(hd:d≤(r.s.C.length:Int)+10000000000)(hs:Sc Y (r.s.C.length:Int) s v d)(hx:VisZ Y r.s.C x v (s.c+(d-s.d)))(n8:x.1.t≠8):Up r Y (z4h n x.1 x.2 r s).2 (fun Z=>Kid Z (z4h n x.1 x.2 r s).1 v d):=by
 obtain ⟨c,t⟩:=x;obtain ⟨hi,hc,hk,n5,n9⟩:=hx;dsimp only at*;have ck:=h.at hi;rw [←hc] at ck;have kv:=hk.v;have kd:=hk.d;unfold z4h;split
 · rename_i q;obtain ⟨b0,b1⟩:=ck.b q;exact los_up n h s c.a v d hd hs b0 (by omega)
 · rename_i q3;split
   · rename_i q;exact lam_up h s c.a v d hd hs ((ck.l q).mono kv (by omega))
   · rename_i q6;split
     · rename_i q;exact app_up h s c.a c.b v d hd hs ((ck.p q).1.mono kv kd) ((ck.p q).2.mono kv kd)
     · rename_i q7;refine Up.mk0 h rfl fun e=>⟨e,hk.p0,hk.p1,kv, ?_⟩
       have d0:(lat Y t).d=0:=by
        by_cases q:c.t≤2
        · exact ck.z q
        · exact (ck.f (by omega)).2.1
       have:=hs.d0;have:=hs.d1;rw [d0];omega
theorem spun_up (n:Nat){u:(Cel×Int)×Rd}{Y:List Lb}(h:LG u.2.s Y)(s:Cel)(v d:Int)(hd:d≤(u.2.s.C.length:Int)+10000000000)(hs:Sc Y (u.2.s.C.length:Int) s v d)(hu:u.2.e=0→VisZ Y u.2.s.C u.1 v (s.c+(d-s.d))∧u.1.1.t≠8):Up u.2 Y (z5e n u s).2 (fun Z=>Kid Z (z5e n u s).1 v d):=by
 unfold z5e;split
 · rename_i q;exact Up.mk0 h rfl fun e=>absurd e q
 · rename_i q;have q:u.2.e=0:=by simpa using q
   obtain ⟨hx,n8⟩:=hu q;split
   · rename_i q0;refine Up.mk0 h rfl fun e=>⟨e,hx.k.mono (Int.le_refl _) (by omega)⟩
   · exact level_up n h u.1 s v d hd hs hx n8
mutual
theorem zj4:∀ (n:Nat) (r:Rd) (s:Cel) (Y:List Lb) (v d:Int),2*r.f.toNat+2≤n→LG r.s Y→d≤(r.s.C.length:Int)+10000000000→Sc Y (r.s.C.length:Int) s v d→Up r Y (z05 n r s).2 (fun Z=>Kid Z (z05 n r s).1 v d)
 | 0,_,_,_,_,_,hn,_,_,_=>absurd hn (by omega)
 | n+1,r,s,Y,v,d,hn,h,hd,hs=>by
  rw [z05];have vs:=z90 r s.a;have vf:=z4p r s.a;have vu:=fun e=>zab h (a:=s.a) (v:=v) (d:=s.c+(d-s.d)) (fun _=>hs.a) e;generalize z02 r s.a=u at*;have g:LG u.2.s Y:=by rw [vs];exact h
  have sp:=zq0 n u Y v (s.c+(d-s.d)) (fun e=>by have:=vf.2 e;omega) g (fun e=>by rw [vs];exact (vu e).2)
  have r1:Up r Y (z2p n u).2 (fun Z=>VisZ Z (z2p n u).2.s.C (z2p n u).1 v (s.c+(d-s.d))∧(z2p n u).1.1.t≠8):=by
   obtain ⟨E,a1,a2,a3⟩:=sp;exact ⟨E,a1,by rw [vs] at a2;exact a2,fun e=>⟨(vu (a3 e).1).1,(a3 e).2⟩⟩
  refine r1.seq fun E g2 hl k=> ?_;exact spun_up (n+1) (u:=z2p n u) g2 s v d (by omega) (hs.app E (by omega)) k
theorem zq0:∀ (n:Nat) (u:(Cel×Int)×Rd) (Y:List Lb) (v d:Int),(u.2.e=0→2*u.2.f.toNat+3≤n)→LG u.2.s Y→(u.2.e=0→VisZ Y u.2.s.C u.1 v d)→Up u.2 Y (z2p n u).2 (fun Z=>VisZ Z (z2p n u).2.s.C (z2p n u).1 v d∧(z2p n u).1.1.t≠8)
 | 0,u,Y,v,d,hn,h,hu=>Up.mk0 h rfl fun e=>absurd (hn e) (by omega)
 | n+1,u,Y,v,d,hn,h,hu=>by
  rw [z2p];split
  · rename_i q;have hn:=hn q.1;have hx:=hu q.1;have ck:=h.at hx.i;rw [←hx.c] at ck;obtain ⟨s1,s2,s3,s4,s5,s6⟩:=ck.s q.2
    have top:=h.top (lat Y u.1.2) (by
     have:=z2o.1 hx.i;exact List.mem_of_getElem? (z5a (by rw [h.len];omega)))
    have op:=zj4 n u.2 u.1.1 Y (lat Y u.1.2).v (lat Y u.1.2).d (by omega) h top ⟨s1,s2,s3,s4,s5,s6⟩;have of:=zbv n u.2 u.1.1;generalize z05 n u.2 u.1.1=z at*;obtain ⟨E,a1,a2,a3⟩:=op;have hy:lat (Y++E) u.1.2=lat Y u.1.2:=z33 E hx.k.p0 hx.k.p1
    have kp:LG (z0m z.2 u.1.2 z.1).s (Y++E)∧NS u.2.s (z0m z.2 u.1.2 z.1).s∧((z0m z.2 u.1.2 z.1).e=0→z.2.e=0):=by
     unfold z0m;split
     · rename_i q2;refine ⟨a1.set _ _ (fun _=>by rw [hy];exact (a3 q2.1).2),Keep.set _ _ a2 (fun _ w=>w (by rw [←hx.c];exact q.2)),fun _=>q2.1⟩
     · exact ⟨a1,a2,fun e=>e⟩
    have kf:=z9t z.2 u.1.2 z.1;generalize z0m z.2 u.1.2 z.1=r2 at*;obtain ⟨k1,k2,k3⟩:=kp;have vs:=z90 r2 z.1;have vf:=z4p r2 z.1;have vu:=fun e=>zab k1 (a:=z.1) (v:=v) (d:=d) (fun e2=>(a3 (k3 e2)).2.mono hx.k.v hx.k.d) e;generalize z02 r2 z.1=w at*;have ih:=zq0 n w (Y++E) v d (fun e=>by have:=vf.2 e;omega) (by rw [vs];exact k1) (fun e=>by rw [vs];exact (vu e).2);obtain ⟨F,b1,b2,b3⟩:=ih;refine ⟨E++F,by rw [←List.append_assoc];exact b1,k2.trans (by rw [vs] at b2;exact b2),fun e=> ?_⟩;rw [←List.append_assoc];exact ⟨q.1,(b3 e).2⟩
  · rename_i q;exact Up.mk0 h rfl fun e=>⟨e,hu e,fun w=>q ⟨e,w⟩⟩
end
end Go.AM

set_option maxRecDepth 100000
open Go Go.Proofs
namespace Go.AM
theorem beta_up {r:Rd}{Y:List Lb}(h:LG r.s Y)(b arg v d:Int)(hd:d≤(r.s.C.length:Int)+10000000000)(h0:0≤d)(hb:r.e=0→Kid Y b v (d+1)∧Kid Y arg v d):Up r Y (z4k r b arg).2 (fun Z=>Kid Z (z4k r b arg).1 v d):=by
 unfold z4k;have no9:∀ {m:Int} {P:Prop},m≠9→(9:Int)=m→P:=fun h1 h2=>absurd h2.symm h1;have no11:∀ {m:Int} {P:Prop},m≠11→(11:Int)=m→P:=fun h1 h2=>absurd h2.symm h1
 have p1:Up r Y (putR r ⟨9,0,0,0,0⟩).2 (fun Z=>Kid Z (putR r ⟨9,0,0,0,0⟩).1 v d∧Kid Z b v (d+1)∧Kid Z arg v d):=by
  obtain ⟨E,a1,a2,a3⟩:=z70 h ⟨9,0,0,0,0⟩ ⟨v,d⟩ (by dsimp only;omega) (fun _ _=>⟨h0,by show (9:Int)≤11;decide,fun q=>absurd q (by show¬(9:Int)≤2;decide),no9 (by decide),no9 (by decide),no9 (by decide),no9 (by decide),no9 (by decide),no9 (by decide),no9 (by decide),no9 (by decide),no9 (by decide)⟩);exact ⟨E,a1,a2,fun e=>⟨(a3 e).1,(a3 e).2.1,(hb (a3 e).1).1.app E,(hb (a3 e).1).2.app E⟩⟩
 refine p1.seq fun E g hl k=> ?_;generalize putR r ⟨9,0,0,0,0⟩=z at*
 have p2:Up z.2 (Y++E) (putR z.2 ⟨11,z.1,arg,0,0⟩).2 (fun Z=>Kid Z (putR z.2 ⟨11,z.1,arg,0,0⟩).1 v d∧Kid Z b v (d+1)∧(putR z.2 ⟨11,z.1,arg,0,0⟩).2.s.C.length=z.2.s.C.length+1):=by
  obtain ⟨F,a1,a2,a3⟩:=z70 g ⟨11,z.1,arg,0,0⟩ ⟨v,d⟩ (by dsimp only;omega) (fun e _=>⟨h0,by show (11:Int)≤11;decide,fun q=>absurd q (by show¬(11:Int)≤2;decide),no11 (by decide),no11 (by decide),no11 (by decide),no11 (by decide),no11 (by decide),no11 (by decide),no11 (by decide),no11 (by decide),fun _=>⟨Int.le_refl _,by dsimp only;omega,(k e).1,by show Kid _ _ _ (0+d);rw [Int.zero_add];exact (k e).2.2⟩⟩);exact ⟨F,a1,a2,fun e=>⟨(a3 e).1,(a3 e).2.1,(k (a3 e).1).2.1.app F,(a3 e).2.2⟩⟩
 refine p2.seq fun F g2 hl2 k2=> ?_;generalize putR z.2 ⟨11,z.1,arg,0,0⟩=y at*;exact ze9 g2 b y.1 1 0 v d (by omega) fun e=>⟨by have:=(k2 e).2.2;omega,h0,by rw [Int.sub_zero];exact (k2 e).2.1.mono (Int.le_refl _) (by omega),by rw [Int.sub_zero];exact (k2 e).1⟩
theorem zaf {v d:Int}:∀ (n:Nat) (l:List Int) (b:Bool) (a:Int) (r:Rd) (Y:List Lb),2*r.f.toNat+2≤n→LG r.s Y→d≤(r.s.C.length:Int)+10000000000→(r.e=0→Kid Y a v d∧∀ x∈l,Kid Y x v d)→
  Up r Y (headL n l b a r).r (fun Z=>Kid Z (headL n l b a r).a v d∧∀ x∈(headL n l b a r).l,Kid Z x v d)
 | 0,_,_,_,_,_,hn,_,_,_=>absurd hn (by omega)
 | n+1,l,b,a,r,Y,hn,h,hd,hk=>by
  have vs:=z90 r a;have vf:=z4p r a;have vu:=fun e=>zab h (a:=a) (v:=v) (d:=d) (fun e0=>(hk e0).1) e;rw [headL];split
  · rename_i q;exact Up.mk0 h rfl fun e=>absurd e q
  · generalize z02 r a=u at*;have g:LG u.2.s Y:=by rw [vs];exact h
    have hdu:d≤(u.2.s.C.length:Int)+10000000000:=by rw [vs];exact hd
    split
    · rename_i q;exact Up.mk0 h vs fun e=>absurd e q
    · rename_i q;have q:u.2.e=0:=by simpa using q
      obtain ⟨e0,hx⟩:=vu q;have fu:=vf.2 q;have hl:=(hk e0).2;have d0:=h.d0 hx.k;have ck:=h.at hx.i;rw [←hx.c] at ck;have tr:∀ {r2:Rd} {P:List Lb→Prop},Up u.2 Y r2 P→Up r Y r2 P:=fun ⟨E,a1,a2,a3⟩=>⟨E,a1,by rw [vs] at a2;exact a2,fun e=>⟨e0,(a3 e).2⟩⟩;split
      · rename_i q7;obtain ⟨p1,p2⟩:=ck.p q7;exact tr (zaf n _ b _ u.2 Y (by omega) g hdu fun _=>⟨p1.mono hx.k.v hx.k.d,fun x hm=>(List.mem_cons.1 hm).elim (fun e=>e▸p2.mono hx.k.v hx.k.d) (hl x)⟩)
      · split
        · rename_i q8;obtain ⟨s1,s2,s3,s4,s5,s6⟩:=ck.s q8
          have top:=h.top (lat Y u.1.2) (by
           have:=z2o.1 hx.i;exact List.mem_of_getElem? (z5a (by rw [h.len];omega)))
          have op:=zj4 n u.2 u.1.1 Y (lat Y u.1.2).v (lat Y u.1.2).d (by omega) g (by rw [vs];exact top) ⟨s1,by rw [vs];exact s2,s3,s4,s5,s6⟩;have of:=zbv n u.2 u.1.1;generalize z05 n u.2 u.1.1=z at*;obtain ⟨E,a1,a2,a3⟩:=op;have hy:lat (Y++E) u.1.2=lat Y u.1.2:=z33 E hx.k.p0 hx.k.p1
          have kp:LG (z0m z.2 u.1.2 z.1).s (Y++E)∧NS u.2.s (z0m z.2 u.1.2 z.1).s∧((z0m z.2 u.1.2 z.1).e=0→z.2.e=0):=by
           unfold z0m;split
           · rename_i q2;refine ⟨a1.set _ _ (fun _=>by rw [hy];exact (a3 q2.1).2),Keep.set _ _ a2 (fun _ w=>w (by rw [vs,←hx.c];exact q8)),fun _=>q2.1⟩
           · exact ⟨a1,a2,fun e=>e⟩
          have kf:=z9t z.2 u.1.2 z.1;generalize z0m z.2 u.1.2 z.1=r2 at*;obtain ⟨k1,k2,k3⟩:=kp;obtain ⟨F,b1,b2,b3⟩:=zaf n l b z.1 r2 (Y++E) (by omega) k1 (by have:=k2.1;omega) fun e=>⟨(a3 (k3 e)).2.mono hx.k.v hx.k.d,fun x hm=>(hl x hm).app E⟩;refine ⟨E++F,by rw [←List.append_assoc];exact b1,by rw [←vs];exact k2.trans b2,fun e=> ?_⟩;rw [←List.append_assoc];exact ⟨e0,(b3 e).2⟩
        · split
          · rename_i q6;split
            · exact Up.mk0 h vs fun e=>⟨e0,hx.k,hl⟩
            · rename_i qn;have hb:=(ck.l q6).mono hx.k.v (show (lat Y u.1.2).d+1≤d+1 by have:=hx.k.d;omega)
              have ha:Kid Y (l.headD 0) v d:=by
               cases l with
               | nil=>exact absurd rfl qn
               | cons x l=>exact hl x List.mem_cons_self
              have be:=beta_up g u.1.1.a (l.headD 0) v d hdu d0 (fun _=>⟨hb,ha⟩);have bf:=zqd u.2 u.1.1.a (l.headD 0);generalize z4k u.2 u.1.1.a (l.headD 0)=z at*;refine tr (be.seq fun E g2 hl2 k=> ?_);exact zaf n l.tail true z.1 z.2 (Y++E) (by omega) g2 (by omega) fun e=>⟨k e,fun x hm=>(hl x (List.mem_of_mem_tail hm)).app E⟩
          · exact Up.mk0 h vs fun e=>⟨e0,hx.k,hl⟩
inductive Ch (s:Hp):Int→Int→Prop
 | refl (a:Int):Ch s a a
 | step {a b:Int}:inC s.C a=true→(cellOf s.C a).t=5→Ch s (cellOf s.C a).a b→Ch s a b
theorem Ch.trans {s:Hp}{a b c:Int}(h:Ch s a b)(g:Ch s b c):Ch s a c:=by
 induction h with
 | refl _=>exact g
 | step h1 h2 _ ih=>exact .step h1 h2 (ih g)
theorem Ch.ns {s t:Hp}{a b:Int}(h:Ch s a b)(g:NS s t):Ch t a b:=by
 induction h with
 | refl _=>exact .refl _
 | step h1 h2 _ ih=>
  obtain ⟨c1,c2⟩:=Keep.cell g h1 (by show _≠(8:Int);rw [h2];decide);exact .step c1 (by rw [c2];exact h2) (by rw [c2];exact ih)
theorem Ch.deref {s:Hp}:∀ (n:Nat) (a:Int),Ch s a (z3w s.C n a)
 | 0,a=> .refl a
 | n+1,a=>by
  rw [z3w];split
  · exact .refl a
  · rename_i q;split
    · exact .refl a
    · rename_i q2;exact .step (by simpa using q) (by simpa using q2) (Ch.deref n _)
theorem Ch.le {s:Hp}{Y:List Lb}(h:LG s Y){a b:Int}(c:Ch s a b):(lat Y b).v≤(lat Y a).v∧(lat Y b).d≤(lat Y a).d:=by
 induction c with
 | refl _=>exact ⟨Int.le_refl _,Int.le_refl _⟩
 | step h1 h2 _ ih=>
  have:=(h.at h1).r h2;exact ⟨Int.le_trans ih.1 this.v,Int.le_trans ih.2 this.d⟩
theorem Ch.mid {s:Hp}{e:Int}(h5:(cellOf s.C e).t≠5):∀ (n:Nat) (a:Int),Ch s a e→Ch s (z3w s.C n a) e∧(z3w s.C n a=e∨(cellOf s.C (z3w s.C n a)).t=5)
 | 0,a,c=>by
  refine ⟨c, ?_⟩;cases c with
  | refl=>exact .inl rfl
  | step h1 h2 _=>exact .inr h2
 | n+1,a,c=>by
  rw [z3w];cases c with
  | refl=>
   split
   · exact ⟨.refl _, .inl rfl⟩
   · exact ⟨.refl _, .inl rfl⟩
  | step h1 h2 h3=>
   rw [if_neg (by rw [h1];decide),if_neg (fun w=>w h2)];exact Ch.mid h5 n _ h3
def Beg (Y:List Lb)(root:Int)(h:HdS):Prop:=∃ e,inC h.r.s.C e=true∧(cellOf h.r.s.C e).t=7∧Ch h.r.s root e∧Kid Y e (lat Y e).v (lat Y e).d∧Kid Y h.a (lat Y e).v (lat Y e).d∧∀ x∈h.l,Kid Y x (lat Y e).v (lat Y e).d
theorem zg8 {v d:Int}(root:Int):∀ (n:Nat) (a:Int) (r:Rd) (Y:List Lb),2*r.f.toNat+2≤n→LG r.s Y→d≤(r.s.C.length:Int)+10000000000→(r.e=0→Kid Y a v d∧Ch r.s root a)→
  Up r Y (headL n [] false a r).r (fun Z=>Kid Z (headL n [] false a r).a v d∧(∀ x∈(headL n [] false a r).l,Kid Z x v d)∧((headL n [] false a r).b=true→Beg Z root (headL n [] false a r)))
 | 0,_,_,_,hn,_,_,_=>absurd hn (by omega)
 | n+1,a,r,Y,hn,h,hd,hk=>by
  have vs:=z90 r a;have vf:=z4p r a;have vu:=fun e=>zab h (a:=a) (v:=v) (d:=d) (fun e0=>(hk e0).1) e
  have vc:(z02 r a).2.e=0→Ch r.s a (z02 r a).1.2:=fun e=>by
   have:(z02 r a).1.2=z2b r.s.C a:=by
    unfold z02 at e ⊢;split
    · rename_i q;rw [if_pos q] at e;exact absurd e (z2k r (by decide))
    · rename_i q1;rw [if_neg q1] at e;split
      · rename_i q;rw [if_pos q] at e;exact absurd e (z2k r (by decide))
      · rename_i q2;rw [if_neg q2] at e;split
        · rename_i q;rw [if_pos q] at e;exact absurd e (z2k r (by decide))
        · rename_i q3;rw [if_neg q3] at e;split
          · rename_i q;rw [if_pos q] at e;exact absurd e (z2k r (by decide))
          · rename_i q4;rw [if_neg q4] at e;split
            · rename_i q;rw [if_pos q] at e;exact absurd e q
            · rfl
   rw [this];exact Ch.deref _ _
  rw [headL];split
  · rename_i q;exact Up.mk0 h rfl fun e=>absurd e q
  · generalize z02 r a=u at*;have g:LG u.2.s Y:=by rw [vs];exact h
    have hdu:d≤(u.2.s.C.length:Int)+10000000000:=by rw [vs];exact hd
    split
    · rename_i q;exact Up.mk0 h vs fun e=>absurd e q
    · rename_i q;have q:u.2.e=0:=by simpa using q
      obtain ⟨e0,hx⟩:=vu q;have hc:Ch r.s root u.1.2:=(hk e0).2.trans (vc q);have fu:=vf.2 q;have ck:=h.at hx.i;rw [←hx.c] at ck
      have top:=h.top (lat Y u.1.2) (by
       have:=z2o.1 hx.i;exact List.mem_of_getElem? (z5a (by rw [h.len];omega)))
      have no:∀ {r2:Rd} (y:Int),(false=true→Beg Y root ⟨[],false,y,r2⟩):=fun _ w=>by cases w
      split
      · rename_i q7;obtain ⟨p1,p2⟩:=ck.p q7;obtain ⟨E,a1,a2,a3⟩:=zaf (v:=(lat Y u.1.2).v) (d:=(lat Y u.1.2).d) n (u.1.1.b::[]) false u.1.1.a u.2 Y (by omega) g (by rw [vs];exact top) fun _=>⟨p1,fun x hm=>by rw [List.mem_singleton.1 hm];exact p2⟩;refine ⟨E,a1,by rw [vs] at a2;exact a2,fun e=>⟨e0, ?_⟩⟩;obtain ⟨k1,k2⟩:=(a3 e).2;have hy:lat (Y++E) u.1.2=lat Y u.1.2:=z33 E hx.k.p0 hx.k.p1;refine ⟨k1.mono hx.k.v hx.k.d,fun x hm=>(k2 x hm).mono hx.k.v hx.k.d,fun _=> ?_⟩;rw [vs] at a2;obtain ⟨c1,c2⟩:=Keep.cell a2 hx.i (by show _≠(8:Int);rw [←hx.c,q7];decide);exact ⟨u.1.2,c1,by rw [c2,←hx.c];exact q7,hc.ns a2,Kid.self hx.k.p0 (by have:=hx.k.p1;simp only [List.length_append];omega),by rw [hy];exact k1,by rw [hy];exact k2⟩
      · split
        · rename_i q8;obtain ⟨s1,s2,s3,s4,s5,s6⟩:=ck.s q8;have op:=zj4 n u.2 u.1.1 Y (lat Y u.1.2).v (lat Y u.1.2).d (by omega) g (by rw [vs];exact top) ⟨s1,by rw [vs];exact s2,s3,s4,s5,s6⟩;have of:=zbv n u.2 u.1.1;generalize z05 n u.2 u.1.1=z at*;obtain ⟨E,a1,a2,a3⟩:=op;have hy:lat (Y++E) u.1.2=lat Y u.1.2:=z33 E hx.k.p0 hx.k.p1;have h8:¬(cellOf r.s.C u.1.2).t≠8:=fun w=>w (by rw [←hx.c];exact q8);rw [vs] at a2;have hcz:Ch z.2.s root u.1.2:=hc.ns a2
          have kp:LG (z0m z.2 u.1.2 z.1).s (Y++E)∧NS r.s (z0m z.2 u.1.2 z.1).s∧((z0m z.2 u.1.2 z.1).e=0→z.2.e=0∧Ch (z0m z.2 u.1.2 z.1).s root z.1):=by
           unfold z0m;split
           · rename_i q2;have nsk:NS r.s (setS z.2.s u.1.2 ⟨5,z.1,0,0,0⟩).2:=Keep.set _ _ a2 (fun _=>h8);refine ⟨a1.set _ _ (fun _=>by rw [hy];exact (a3 q2.1).2),nsk,fun e=>⟨q2.1, ?_⟩⟩;refine (hc.ns nsk).trans ?_;have e2:(setS z.2.s u.1.2 ⟨5,z.1,0,0,0⟩).1=0:=e
             have hin:inC z.2.s.C u.1.2=true∧(setS z.2.s u.1.2 ⟨5,z.1,0,0,0⟩).2.C=z.2.s.C.set u.1.2.toNat ⟨5,z.1,0,0,0⟩:=by
              unfold setS at e2 ⊢;split
              · rename_i w;rw [if_pos w] at e2;exact absurd e2 (by show¬(1:Int)=0;decide)
              · rename_i w1;rw [if_neg w1] at e2;split
                · rename_i w;rw [if_pos w] at e2;exact absurd e2 (by show¬(1:Int)=0;decide)
                · rename_i w2;rw [if_neg w2] at e2;split
                  · rename_i w;rw [if_pos w] at e2;exact absurd e2 (by show¬(1:Int)=0;decide)
                  · rename_i w3;rw [if_neg w3] at e2;split
                    · rename_i w;rw [if_pos w] at e2;exact absurd e2 (by show¬(201:Int)=0;decide)
                    · exact ⟨by simpa using w1,rfl⟩
             have hb:=z2o.1 hin.1;have hin2:inC (setS z.2.s u.1.2 ⟨5,z.1,0,0,0⟩).2.C u.1.2=true:=z2o.2 ⟨hb.1,by rw [hin.2];simp only [List.length_set];exact hb.2⟩
             have hcell:cellOf (setS z.2.s u.1.2 ⟨5,z.1,0,0,0⟩).2.C u.1.2=⟨5,z.1,0,0,0⟩:=by
              have:=z4v hin2;rw [hin.2,List.getElem?_set_self (by omega)] at this;rw [hin.2];injection this with this
              exact this.symm
             exact .step hin2 (by rw [hcell]) (by rw [hcell];exact .refl _)
           · rename_i q2;refine ⟨a1,a2,fun e=>⟨e, ?_⟩⟩
             have:u.1.2=z.1:=by
              by_cases w:u.1.2=z.1
              · exact w
              · exact absurd ⟨e,w⟩ q2
             rw [←this];exact hcz
          have kf:=z9t z.2 u.1.2 z.1;generalize z0m z.2 u.1.2 z.1=r2 at*;obtain ⟨k1,k2,k3⟩:=kp;obtain ⟨F,b1,b2,b3⟩:=zg8 root n z.1 r2 (Y++E) (by omega) k1 (by have:=k2.1;omega) fun e=>⟨(a3 (k3 e).1).2.mono hx.k.v hx.k.d,(k3 e).2⟩;refine ⟨E++F,by rw [←List.append_assoc];exact b1,k2.trans b2,fun e=> ?_⟩;rw [←List.append_assoc];exact ⟨e0,(b3 e).2⟩
        · split
          · rw [if_pos rfl];exact Up.mk0 h vs fun e=>⟨e0,hx.k,(fun x hm=>by cases hm),no _⟩
          · exact Up.mk0 h vs fun e=>⟨e0,hx.k,(fun x hm=>by cases hm),no _⟩
theorem zp3 {v d:Int}:∀ (l:List Int) (f:Int) (r:Rd) (Y:List Lb),LG r.s Y→d≤(r.s.C.length:Int)+10000000000→(r.e=0→Kid Y f v d∧∀ x∈l,Kid Y x v d)→Up r Y (z48 l f r).2 (fun Z=>Kid Z (z48 l f r).1 v d)
 | [],f,r,Y,h,_,hk=>Up.mk0 h rfl fun e=>⟨e,(hk e).1⟩
 | x::l,f,r,Y,h,hd,hk=>by
  rw [z48];obtain ⟨E,a1,a2,a3⟩:=two_up h f x v d (by omega) fun e=>⟨(hk e).1,(hk e).2 x List.mem_cons_self⟩;generalize putR r ⟨7,f,x,0,0⟩=z at*;obtain ⟨F,b1,b2,b3⟩:=zp3 l z.1 z.2 (Y++E) a1 (by have:=a2.1;omega) fun e=>⟨(a3 e).2,fun y hy=>((hk (a3 e).1).2 y (List.mem_cons_of_mem _ hy)).app E⟩;refine ⟨E++F,by rw [←List.append_assoc];exact b1,a2.trans b2,fun e=> ?_⟩;rw [←List.append_assoc];exact ⟨(a3 (b3 e).1).1,(b3 e).2⟩
def Uf (r:Rd)(Y:List Lb)(r':Rd)(P:List Lb→Prop):Prop:=∃ E,LG r'.s (Y++E)∧NF r.s r'.s∧(r'.e=0→r.e=0∧P (Y++E))
theorem zjq {v d:Int}(n:Nat)(r:Rd)(root:Int)(Y:List Lb)(hn:2*r.f.toNat+2≤n)(h:LG r.s Y)(hd:d≤(r.s.C.length:Int)+10000000000)(hk:r.e=0→Kid Y root v d):
  Uf r Y (z0l n r root).2 (fun Z=>Kid Z (z0l n r root).1.1 v d∧∀ x∈(z0l n r root).1.2,Kid Z x v d):=by
 obtain ⟨E,a1,a2,a3⟩:=zg8 (v:=v) (d:=d) root n root r Y hn h hd fun e=>⟨hk e, .refl _⟩;unfold z0l z5x;generalize headL n [] false root r=z at*;dsimp only;split
 · rename_i q;by_cases e0:z.r.e=0
   · obtain ⟨e1,k1,k2,k3⟩:=a3 e0;obtain ⟨e,c1,c2,c3,c4,c5,c6⟩:=k3 q
     have top:=a1.top (lat (Y++E) e) (by
      have:=z2o.1 c1;exact List.mem_of_getElem? (z5a (by rw [a1.len];omega)))
     obtain ⟨F,b1,b2,b3⟩:=zp3 z.l z.a z.r (Y++E) a1 top fun _=>⟨c5,c6⟩;generalize z48 z.l z.a z.r=w at*;obtain ⟨m1,m2⟩:=Keep.cell b2 c1 (by show _≠(8:Int);rw [c2];decide);have ch:=c3.ns b2;obtain ⟨g1,g2⟩:=Ch.mid (s:=w.2.s) (e:=e) (by rw [m2,c2];decide) w.2.s.C.length root ch;have le:=g1.le b1;have hy:lat (Y++E++F) e=lat (Y++E) e:=z33 F c4.p0 c4.p1
     have n4:(cellOf w.2.s.C (z3w w.2.s.C w.2.s.C.length root)).t≠4:=by
      rcases g2 with g2 | g2
      · rw [g2,m2,c2];decide
      · rw [g2];decide
     have nf:NF r.s w.2.s:=NS.nf (a2.trans b2)
     have kp:LG (z0m w.2 (z2b w.2.s.C root) w.1).s (Y++E++F)∧NF r.s (z0m w.2 (z2b w.2.s.C root) w.1).s:=by
      unfold z0m z2b;split
      · rename_i q2;have kw:=(b3 q2.1).2;rw [←hy] at kw;refine ⟨b1.set _ _ (fun _=>kw.mono le.1 le.2),Keep.set _ _ nf (fun hin q4=> ?_)⟩;have q4:(cellOf r.s.C _).t=4:=q4;obtain ⟨_,o2⟩:=Keep.cell nf hin q4;exact n4 (by rw [o2];exact q4)
      · exact ⟨b1,nf⟩
     refine ⟨E++F,by rw [←List.append_assoc];exact kp.1,kp.2,fun e=> ?_⟩;rw [←List.append_assoc];exact ⟨e1,k1.app F,fun x hm=>(k2 x hm).app F⟩
   · rw [zes _ _ _ e0,zk2 e0];exact ⟨E,a1,NS.nf a2,fun e=>absurd e e0⟩
 · exact ⟨E,a1,NS.nf a2,fun e=>⟨(a3 e).1,(a3 e).2.1,(a3 e).2.2.1⟩⟩
theorem zrk (N:Nat):∀ (n:Nat) (r:Rd) (a:Int),2*r.f.toNat+2≤N→(fulR N n r a).2.f≤r.f
 | 0,r,_,_=>Int.le_refl _
 | n+1,r,a,hN=>by
  have hf:=(zcz N r a hN).1;rw [fulR];generalize z0l N r a=z at*
  have fulls:∀ (l:List Int) (t:Tm) (r1:Rd),2*r1.f.toNat+2≤N→(z1t (fulR N n) l t r1).2.f≤r1.f:=by
   intro l
   induction l with
   | nil=>intro t r1 _;exact Int.le_refl _
   | cons x l ih=>
    intro t r1 h1;rw [z1t];have h2:=zrk N n r1 x h1;exact Int.le_trans (ih _ _ (by omega)) h2
  unfold zpz;split
  · exact hf
  · split
    · exact Int.le_trans (zrk N n _ _ (by omega)) hf
    · exact Int.le_trans (fulls _ _ _ (by omega)) hf
def pv (s:Hp)(v:Int)(k n:Int):Bool:=if k=1 then decide (n≤v) else inC s.C n&&(cellOf s.C n).t==4&&decide ((cellOf s.C n).a≤v)
theorem pv_nf {s t:Hp}{v:Int}(h:NF s t)(k n:Int)(p:pv s v k n=true):pv t v k n=true:=by
 unfold pv at p ⊢;split
 · rename_i q;rw [if_pos q] at p;exact p
 · rename_i q;rw [if_neg q] at p;simp only [Bool.and_eq_true,beq_iff_eq] at p;obtain ⟨a,b⟩:=Keep.cell h p.1.1 (show _=(4:Int) from p.1.2);rw [a,b,p.1.2,p.2];rfl
mutual
def kB:Tm→Bool
 | .mk k _ _ l=>((k==5||k==6)||l.isEmpty)&&kBL l
def kBL:List Tm→Bool
 | []=>true
 | t::l=>kB t&&kBL l
end
theorem zex:∀ {l:List Tm},kBL l=true↔∀ t∈l,kB t=true
 | []=>⟨fun _ t h=>(by cases h),fun _=>rfl⟩
 | t::l=>by
  rw [kBL,Bool.and_eq_true,zex (l:=l)];exact ⟨fun h u hu=>(List.mem_cons.1 hu).elim (fun e=>e▸h.1) (h.2 u),fun h=>⟨h t List.mem_cons_self,fun u hu=>h u (List.mem_cons_of_mem _ hu)⟩⟩
structure GT (p:Int→Int→Bool)(t:Tm)(d:Int):Prop where
 w:wG p t d=true
 b:bd 2305843009213693952 t
 k:kB t=true
theorem GT.app {p:Int→Int→Bool}{f:Tm}{l:List Tm}{d:Int}(hf:GT p f d)(hl:∀ t∈l,GT p t d):GT p (z08 f l) d:=by
 refine ⟨z38 hf.w fun t ht=>(hl t ht).w,z83 hf.b (zrf fun t ht=>(hl t ht).b), ?_⟩
 have h6:∀ (m:List Tm),(∀ t∈m,kB t=true)→kB (.mk 6 [] 0 m)=true:=fun m hm=>by
  rw [kB,zex.2 hm];rfl
 cases l with
 | nil=>exact hf.k
 | cons x a=>
  by_cases h:(f.k==6)=true∧f.l ≠ []
  · rw [show z08 f (x::a)= .mk 6 [] 0 (f.l++(x::a)) from if_pos h];refine h6 _ fun t ht=>(List.mem_append.1 ht).elim (fun ht=> ?_) (fun ht=>(hl t ht).k);have:=hf.k;obtain ⟨k,s,n,l⟩:=f;rw [kB,Bool.and_eq_true] at this;exact zex.1 this.2 t ht
  · rw [show z08 f (x::a)= .mk 6 [] 0 (f::(x::a)) from if_neg h];exact h6 _ fun t ht=>(List.mem_cons.1 ht).elim (fun e=>e▸hf.k) (fun ht=>(hl t ht).k)
theorem GT.leaf {p:Int→Int→Bool}{k n d:Int}{s:List UInt8}(hw:wG p (.mk k s n []) d=true)(hb:k=3→0-2305843009213693952≤n∧n≤2305843009213693952):GT p (.mk k s n []) d:=⟨hw,⟨hb,trivial⟩,by simp [kB,kBL]⟩
theorem GT.lam {p:Int→Int→Bool}{t:Tm}{d:Int}(h:GT p t (d+1)):GT p (z1s 1 t) d:=⟨zin h.w,⟨fun e=>absurd e (by show¬(5:Int)=3;decide),h.b,trivial⟩,by show kB (.mk 5 [] 0 [t])=true;rw [kB,kBL,kBL,h.k];rfl⟩
theorem GT.imp {p q:Int→Int→Bool}(hpq:∀ k n,p k n=true→q k n=true){t:Tm}{d:Int}(h:GT p t d):GT q t d:=⟨zs1 hpq t (Int.le_refl _) h.w,h.b,h.k⟩
theorem gT0 {p:Int→Int→Bool}{d:Int}:GT p t0 d:=GT.leaf rfl (fun e=>absurd e (by decide))
theorem leafR_wG {s:Hp}{Y:List Lb}(h:LG s Y){a v d:Int}(k:Kid Y a v d):GT (pv s v) (zch s a) d:=by
 have hi:=h.inC k;have ck:=h.at hi;unfold zch;split
 · exact GT.leaf rfl (fun e=>absurd e (by decide))
 · split
   · rename_i q;refine GT.leaf ?_ (fun e=>absurd e (by decide));rw [z57];refine ⟨?_,fun w=>by omega⟩;unfold gB;rw [if_neg (by decide)]
     have:pv s v 1 (cellOf s.C a).a=true:=by
      unfold pv;rw [if_pos rfl];exact decide_eq_true (Int.le_trans (ck.e q) k.v)
     rw [this,Bool.or_true]
   · split
     · exact GT.leaf rfl (fun e=>absurd e (by decide))
     · split
       · rename_i q;have b:=ck.b q;have kd:=k.d;have top:=h.top _ (List.mem_of_getElem? (z5a (Y:=Y) (a:=a) (by have:=k.p0;have:=k.p1;omega)));have hC:=h.ok.C;exact GT.leaf (zpn (n:=(cellOf s.C a).a) (by omega)) (fun _=>by omega)
       · split
         · rename_i q;refine GT.leaf (zlq ?_) (fun e=>absurd e (by decide));unfold pv;rw [if_neg (by decide),hi,q];have:=(ck.f q).1;have:=k.v;simp;omega
         · exact gT0
theorem zj0 (N:Nat):∀ (n:Nat) (r:Rd) (a:Int) (Y:List Lb) (v d:Int),2*r.f.toNat+2≤N→LG r.s Y→(r.e=0→Kid Y a v d)→
  Uf r Y (fulR N n r a).2 (fun _=>GT (pv (fulR N n r a).2.s v) (fulR N n r a).1 d)
 | 0,r,a,Y,v,d,_,h,_=>⟨[],by rw [List.append_nil];exact h, .refl _,fun e=>⟨e,gT0⟩⟩
 | n+1,r,a,Y,v,d,hN,h,hk=>by
  rw [fulR];have hf:=zcz N r a hN
  have key:Uf r Y (z0l N r a).2 (fun Z=>Kid Z (z0l N r a).1.1 v d∧∀ x∈(z0l N r a).1.2,Kid Z x v d):=by
   by_cases e0:r.e=0
   · have k:=hk e0
     have top:=h.top (lat Y a) (by
      have:=k.p0;have:=k.p1;exact List.mem_of_getElem? (z5a (by omega)))
     obtain ⟨E,a1,a2,a3⟩:=zjq (v:=(lat Y a).v) (d:=(lat Y a).d) N r a Y hN h top fun _=>Kid.self k.p0 k.p1;exact ⟨E,a1,a2,fun e=>⟨e0,(a3 e).2.1.mono k.v k.d,fun x hm=>((a3 e).2.2 x hm).mono k.v k.d⟩⟩
   · obtain ⟨E,a1,a2,a3⟩:=zjq (v:=v) (d:=0) N r a Y hN h (by omega) fun e=>absurd e e0;exact ⟨E,a1,a2,fun e=>absurd (a3 e).1 e0⟩
  generalize z0l N r a=z at*;obtain ⟨E,a1,a2,a3⟩:=key;unfold zpz;split
  · rename_i q;exact ⟨E,a1,a2,fun e=>absurd e q⟩
  · rename_i q;have q:z.2.e=0:=by simpa using q
    obtain ⟨e0,k1,k2⟩:=a3 q;have hi:=a1.inC k1;have ck:=a1.at hi;split
    · rename_i q6;obtain ⟨F,b1,b2,b3⟩:=zj0 N n z.2 (cellOf z.2.s.C z.1.1).a (Y++E) v (d+1) (by omega) a1 fun _=>(ck.l q6).mono k1.v (by have:=k1.d;omega);exact ⟨E++F,by rw [←List.append_assoc];exact b1,a2.trans b2,fun e=>⟨e0,(b3 e).2.lam⟩⟩
    · have fulls:∀ (l:List Int) (t:Tm) (r1:Rd) (Z:List Lb),2*r1.f.toNat+2≤N→LG r1.s Z→(r1.e=0→(∀ x∈l,Kid Z x v d)∧GT (pv r1.s v) t d)→
        Uf r1 Z (z1t (fulR N n) l t r1).2 (fun _=>GT (pv (z1t (fulR N n) l t r1).2.s v) (z1t (fulR N n) l t r1).1 d):=by
       intro l
       induction l with
       | nil=>intro t r1 Z _ g hw;exact ⟨[],by rw [List.append_nil];exact g, .refl _,fun e=>⟨e,(hw e).2⟩⟩
       | cons x l ih=>
        intro t r1 Z hz g hw;rw [z1t];obtain ⟨F,b1,b2,b3⟩:=zj0 N n r1 x Z v d hz g fun e=>(hw e).1 x List.mem_cons_self;have hle:=zrk N n r1 x hz;generalize fulR N n r1 x=y at*;obtain ⟨G,c1,c2,c3⟩:=ih (z08 t [y.1]) y.2 (Z++F) (by omega) b1 fun e=>⟨fun u hu=>((hw (b3 e).1).1 u (List.mem_cons_of_mem _ hu)).app F,((hw (b3 e).1).2.imp (pv_nf b2)).app fun u hu=>by rw [List.mem_singleton.1 hu];exact (b3 e).2⟩;refine ⟨F++G,by rw [←List.append_assoc];exact c1,b2.trans c2,fun e=>⟨(b3 (c3 e).1).1,(c3 e).2⟩⟩
      obtain ⟨F,b1,b2,b3⟩:=fulls z.1.2 (zch z.2.s z.1.1) z.2 (Y++E) (by omega) a1 fun _=>⟨k2,leafR_wG a1 k1⟩;exact ⟨E++F,by rw [←List.append_assoc];exact b1,a2.trans b2,fun e=>⟨e0,(b3 e).2⟩⟩
theorem zkl {s:Hp}{Y:List Lb}(h:LG s Y){a v d:Int}(k:Kid Y a v d)(f:Int):∃ E,LG (z1e s a f).2 (Y++E)∧NF s (z1e s a f).2∧((z1e s a f).1.2.2=0→wG (pv (z1e s a f).2 v) (z1e s a f).1.1 d=true∧(z07 (z1e s a f).1.1=true∨GT (pv (z1e s a f).2 v) (z1e s a f).1.1 d)):=by
 obtain ⟨E,a1,a2,a3⟩:=zj0 (2*f.toNat+2) (f.toNat+1) ⟨s,f,0⟩ a Y v d (Nat.le_refl _) h fun _=>k;have d0:=h.d0 k;unfold z1e;generalize fulR (2*f.toNat+2) (f.toNat+1) ⟨s,f,0⟩ a=z at*;refine ⟨E,a1,a2,fun e=> ?_⟩;dsimp only at e ⊢;split at e
 · rename_i q;exact absurd e q
 · rename_i q;rw [if_neg q];have:=(a3 (by simpa using q)).2;dsimp only;split
   · rename_i hv;have so:=z51 z.1 (z4c _ hv);exact ⟨zl7 _ d0 this.w, .inl (by rw [z61,so.1,so.2.1 (za8 hv)];rfl)⟩
   · exact ⟨this.w, .inr this⟩
end Go.AM

set_option maxRecDepth 100000
open Go Go.Proofs
namespace Go.AM
def kidB (Y:List Lb)(n v:Int):Bool:=decide (0≤n)&&decide (n<(Y.length:Int))&&decide ((lat Y n).v≤v)&&decide ((lat Y n).d≤0)
theorem z6t {Y:List Lb}{n v:Int}:kidB Y n v=true↔Kid Y n v 0:=by
 unfold kidB;simp only [Bool.and_eq_true,decide_eq_true_eq];exact ⟨fun h=>⟨h.1.1.1,h.1.1.2,h.1.2,h.2⟩,fun h=>⟨⟨⟨h.p0,h.p1⟩,h.v⟩,h.d⟩⟩
def pk (Y:List Lb)(v:Int)(k n:Int):Bool:=if k=1 then decide (n≤v) else kidB Y n v
def pq (q:Int→Bool)(v:Int)(k n:Int):Bool:=if k=1 then decide (n≤v) else q n
theorem pk_app {Y:List Lb}(E:List Lb){v:Int}(k n:Int)(h:pk Y v k n=true):pk (Y++E) v k n=true:=by
 unfold pk at h ⊢;split
 · rename_i e;rw [if_pos e] at h;exact h
 · rename_i e;rw [if_neg e] at h;exact z6t.2 ((z6t.1 h).app E)
section
variable {V:Option (List Int)} {v:Int} {q:Int→Bool}
def Ue (s:Hp)(Y:List Lb)(z:(Int×Int)×Hp)(v d:Int):Prop:=z.1.2=0→∃ E,LG z.2 (Y++E)∧s.C.length≤z.2.C.length∧Kid (Y++E) z.1.1 v d
theorem zcy {s:Hp}{Y:List Lb}(h:LG s Y)(c:Cel)(y:Lb)(hd:y.d≤(s.C.length:Int)+10000000001)(hc:z20 s c=true→CkZ Y (s.C.length:Int) c y):Ue s Y (putS s c) y.v y.d:=by
 intro e;rcases h.put c y hd hc with ⟨a,_⟩ | ⟨_,b,k,g⟩
 · exact absurd e a
 · exact ⟨[y],b,by rw [g];simp,k⟩
theorem Ue.mono {s:Hp}{Y:List Lb}{z:(Int×Int)×Hp}{v d v' d':Int}(h:Ue s Y z v d)(hv:v≤v')(hd:d≤d'):Ue s Y z v' d':=fun e=>by
 obtain ⟨E,a,b,c⟩:=h e;exact ⟨E,a,b,c.mono hv hd⟩
theorem LG.names {s:Hp}{Y:List Lb}(h:LG s Y)(N:List (List UInt8)):LG { s with N:=N } Y:=⟨⟨h.ok.C,h.ok.M,h.ok.T,h.ok.L⟩,h.len,h.ck,h.top⟩
theorem zom {s:Hp}{Y:List Lb}(h:LG s Y)(t a:Int)(ht:t=0∨t=2)(v:Int):Ue s Y (putS s ⟨t,a,0,0,0⟩) v 0:=by
 refine zcy h ⟨t,a,0,0,0⟩ ⟨v,0⟩ (by dsimp only;omega) fun _=> ?_;have no:∀ {m:Int} {P:Prop},m≠0→m≠2→t=m→P:=fun h1 h2 e=>by exfalso;rcases ht with rfl | rfl;exact h1 e.symm;exact h2 e.symm
 exact ⟨Int.le_refl _,by dsimp only;omega,fun _=>rfl,no (by decide) (by decide),no (by decide) (by decide),no (by decide) (by decide),no (by decide) (by decide),no (by decide) (by decide),no (by decide) (by decide),no (by decide) (by decide),no (by decide) (by decide),no (by decide) (by decide)⟩
theorem eig_ue {s:Hp}{Y:List Lb}(h:LG s Y)(a v:Int)(ha:a≤v):Ue s Y (putS s ⟨1,a,0,0,0⟩) v 0:=by
 refine zcy h ⟨1,a,0,0,0⟩ ⟨v,0⟩ (by dsimp only;omega) fun _=> ?_;have no:∀ {m:Int} {P:Prop},m≠1→(1:Int)=m→P:=fun h1 h2=>absurd h2.symm h1;exact ⟨Int.le_refl _,by show (1:Int)≤11;decide,fun _=>rfl,fun _=>ha,no (by decide),no (by decide),no (by decide),no (by decide),no (by decide),no (by decide),no (by decide),no (by decide)⟩
theorem bnd_ue {s:Hp}{Y:List Lb}(h:LG s Y)(a v d:Int)(ha:a<d)(h0:0≤d)(hd:d≤(s.C.length:Int)+10000000001):Ue s Y (putS s ⟨3,a,0,0,0⟩) v d:=by
 refine zcy h ⟨3,a,0,0,0⟩ ⟨v,d⟩ hd fun f=> ?_;have no:∀ {m:Int} {P:Prop},m≠3→(3:Int)=m→P:=fun h1 h2=>absurd h2.symm h1;have f0:0≤a:=by unfold z20 at f;simpa using f
 exact ⟨h0,by show (3:Int)≤11;decide,fun q=>absurd q (by show¬(3:Int)≤2;decide),no (by decide),fun _=>⟨f0,ha⟩,no (by decide),no (by decide),no (by decide),no (by decide),no (by decide),no (by decide),no (by decide)⟩
theorem zr0 {s:Hp}{Y:List Lb}(h:LG s Y)(a:Int):Ue s Y (putS s ⟨4,a,0,0,0⟩) a 0:=by
 refine zcy h ⟨4,a,0,0,0⟩ ⟨a,0⟩ (by dsimp only;omega) fun f=> ?_;have no:∀ {m:Int} {P:Prop},m≠4→(4:Int)=m→P:=fun h1 h2=>absurd h2.symm h1;have f0:0≤a:=by unfold z20 at f;simpa using f
 exact ⟨Int.le_refl _,by show (4:Int)≤11;decide,fun _=>rfl,no (by decide),no (by decide),fun _=>⟨rfl,rfl,f0⟩,no (by decide),no (by decide),no (by decide),no (by decide),no (by decide),no (by decide)⟩
theorem lam_ue {s:Hp}{Y:List Lb}(h:LG s Y)(a v d:Int)(h0:0≤d)(hd:d≤(s.C.length:Int)+10000000001)(k:Kid Y a v (d+1)):Ue s Y (putS s ⟨6,a,0,0,0⟩) v d:=by
 refine zcy h ⟨6,a,0,0,0⟩ ⟨v,d⟩ hd fun _=> ?_;have no:∀ {m:Int} {P:Prop},m≠6→(6:Int)=m→P:=fun h1 h2=>absurd h2.symm h1;exact ⟨h0,by show (6:Int)≤11;decide,fun q=>absurd q (by show¬(6:Int)≤2;decide),no (by decide),no (by decide),no (by decide),no (by decide),fun _=>k,no (by decide),no (by decide),no (by decide),no (by decide)⟩
theorem app_ue {s:Hp}{Y:List Lb}(h:LG s Y)(a b v d:Int)(hd:d≤(s.C.length:Int)+10000000001)(ka:Kid Y a v d)(kb:Kid Y b v d):Ue s Y (putS s ⟨7,a,b,0,0⟩) v d:=by
 refine zcy h ⟨7,a,b,0,0⟩ ⟨v,d⟩ hd fun _=> ?_;have no:∀ {m:Int} {P:Prop},m≠7→(7:Int)=m→P:=fun h1 h2=>absurd h2.symm h1;exact ⟨h.d0 ka,by show (7:Int)≤11;decide,fun q=>absurd q (by show¬(7:Int)≤2;decide),no (by decide),no (by decide),no (by decide),no (by decide),no (by decide),fun _=>⟨ka,kb⟩,no (by decide),no (by decide),no (by decide)⟩
theorem zny {d:Int}{Y0:List Lb}:∀ (l:List Tm),(∀ u∈l,∀ s E,LG s (Y0++E)→d+u.sz≤(s.C.length:Int)+10000000000→Ue s (Y0++E) (encE V u s) v d)→∀ (f:Int) (s:Hp) (E:List Lb),LG s (Y0++E)→d+Tm.szs l≤(s.C.length:Int)+10000000000→Kid (Y0++E) f v d→Ue s (Y0++E) (encR V l f s) v d
 | [],_,f,s,E,h,_,k=>by
  rw [encR];exact fun _=>⟨[],by rw [List.append_nil];exact h,Nat.le_refl _,by rw [List.append_nil];exact k⟩
 | u::l,hu,f,s,E,h,hd,k=>by
  simp only [Tm.szs] at hd;have h1:=hu u List.mem_cons_self s E h (by omega);rw [encR];split
  · rename_i w;exact fun e=>absurd e w
  · rename_i w;obtain ⟨F,a1,a2,a3⟩:=h1 (by simpa using w);generalize encE V u s=z at*;have h2:=app_ue a1 f z.1.1 v d (by omega) (k.app F) a3;split
    · rename_i w2;exact fun e=>absurd e w2
    · rename_i w2;obtain ⟨G,b1,b2,b3⟩:=h2 (by simpa using w2);generalize putS z.2 ⟨7,f,z.1.1,0,0⟩=y at*;rw [List.append_assoc,List.append_assoc] at b1 b3;have ih:=zny l (fun x hx=>hu x (List.mem_cons_of_mem _ hx)) y.1.1 y.2 (E++(F++G)) b1 (by omega) b3;intro e;obtain ⟨H,c1,c2,c3⟩:=ih e;refine ⟨F++G++H, ?_,by omega, ?_⟩
      · simpa [List.append_assoc] using c1
      · simpa [List.append_assoc] using c3
theorem encE_ue {Y0:List Lb}(hV:∀ C n,q n=true→0≤n→(varE V C n).2=0→Kid Y0 (varE V C n).1 v 0):∀ (t:Tm) (d:Int),0≤d→z07 t=true→wG (pq q v) t d=true→∀ (s:Hp) (E:List Lb),LG s (Y0++E)→d+t.sz≤(s.C.length:Int)+10000000000→Ue s (Y0++E) (encE V t s) v d:=by
 refine Tm.ind fun t ih=> ?_;obtain ⟨k,nm,n,l⟩:=t;intro d h0 hv hw s E h hd;have hg:=(z57.1 hw).1;have hkid:=(z57.1 hw).2;have hsz:Tm.szs l+1=(Tm.mk k nm n l).sz:=by simp only [Tm.sz];omega
 rw [encE];split
 · obtain ⟨e,he⟩:∃ N,(symS s nm).2={ s with N:=N }:=by
    unfold symS;split
    · exact ⟨s.N,rfl⟩
    · exact ⟨_,rfl⟩
   have g:LG (symS s nm).2 (Y0++E):=by rw [he];exact h.names e
   have hl:(symS s nm).2.C=s.C:=by rw [he]
   intro e0;obtain ⟨F,a1,a2,a3⟩:=zom g 0 (symS s nm).1 (.inl rfl) v e0;exact ⟨F,a1,by rw [hl] at a2;exact a2,a3.mono (Int.le_refl _) h0⟩
 · split
   · rename_i e1;refine (eig_ue h n v ?_).mono (Int.le_refl _) h0;subst e1;unfold gB at hg;rw [if_neg (by decide)] at hg;have:pq q v 1 n=true:=by simpa using hg
     unfold pq at this;rw [if_pos rfl] at this;exact of_decide_eq_true this
   · split
     · exact (zom h 2 n (.inr rfl) v).mono (Int.le_refl _) h0
     · split
       · rename_i e3;subst e3;unfold gB at hg;rw [if_pos rfl] at hg;exact bnd_ue h n v d (of_decide_eq_true hg) h0 (by omega)
       · split
         · rename_i e4;subst e4;intro e0;have hn:0≤n:=by rw [z07] at hv;simp at hv;exact hv.1.1.1.1
           unfold gB at hg;rw [if_neg (by decide)] at hg;have:pq q v 4 n=true:=by simpa using hg
           unfold pq at this;rw [if_neg (by decide)] at this;have:=((hV s.C n this hn e0).app E).mono (Int.le_refl v) h0;exact ⟨[],by rw [List.append_nil];exact h,Nat.le_refl _,by rw [List.append_nil];exact this⟩
         · rename_i n0 n1 n2 n3 n4;have h56:=k56 hv n0 n1 n2 n3 n4;have hvl:=zm hv h56
           have hne:l ≠ []:=by
            intro e;subst e;rcases h56 with rfl | rfl<;>simp [z07,z00] at hv
           have hkid:=hkid h56
           match l,hne with
           | u::l,_=>
            simp only [Tm.szs] at hsz;have hu:=ih u List.mem_cons_self;have vu:=z6l hvl (List.mem_cons_self (a:=u) (l:=l));rw [encL];by_cases h5:k=5
            · have w1:=hkid u List.mem_cons_self;rw [if_pos (by simpa using h5)] at w1;have h1:=hu (d+1) (by omega) vu w1 s E h (by omega);split
              · rename_i w;exact fun e=>absurd e w
              · rename_i w;obtain ⟨F,a1,a2,a3⟩:=h1 (by simpa using w);intro e;obtain ⟨G,b1,b2,b3⟩:=lam_ue a1 _ v d h0 (by omega) a3 e;exact ⟨F++G,by rw [←List.append_assoc];exact b1,by omega,by rw [←List.append_assoc];exact b3⟩
            · have hx:∀ x∈u::l,wG (pq q v) x d=true:=fun x hm=>by
               have:=hkid x hm
               rwa [if_neg (by simpa using h5),Int.add_zero] at this
              have h1:=hu d h0 vu (hx u List.mem_cons_self) s E h (by omega);split
              · rename_i w;exact fun e=>absurd e w
              · rename_i w;obtain ⟨F,a1,a2,a3⟩:=h1 (by simpa using w);rw [List.append_assoc] at a1 a3;have h2:=zny (V:=V) (v:=v) (d:=d) (Y0:=Y0) l (fun x hm s E g b=>ih x (List.mem_cons_of_mem _ hm) d h0 (z6l hvl (List.mem_cons_of_mem _ hm)) (hx x (List.mem_cons_of_mem _ hm)) s E g b) (encE V u s).1.1 (encE V u s).2 (E++F) a1 (by omega) a3;intro e;obtain ⟨G,b1,b2,b3⟩:=h2 e;exact ⟨F++G,by simpa [List.append_assoc] using b1,by omega,by simpa [List.append_assoc] using b3⟩
end
theorem zo6 {V:Option (List Int)}{v:Int}{q:Int→Bool}{Y:List Lb}{s:Hp}(h:LG s Y)(hV:∀ C n,q n=true→0≤n→(varE V C n).2=0→Kid Y (varE V C n).1 v 0)(t:Tm){d:Int}(h0:0≤d)(hw:wG (pq q v) t d=true)(hd:d+t.sz≤(s.C.length:Int)+10000000000):Ue s Y (encS V s t) v d:=by
 unfold encS;split
 · exact fun e=>absurd e (by show¬(1:Int)=0;decide)
 · rename_i hv;split
   · rename_i w;exact fun e=>absurd e w
   · have:=encE_ue (V:=V) (v:=v) (q:=q) (Y0:=Y) hV t d h0 (by simpa using hv) hw s [] (by rw [List.append_nil];exact h) hd;rw [List.append_nil] at this;exact this
end Go.AM

set_option maxRecDepth 100000
open Go Go.Proofs
namespace Go.AM
theorem zf8 {p:Int→Int→Bool}:∀ (n:Nat) {t:Tm} {d:Int},wG p t (d+(n:Int))=true→wG p (z1s n t) d=true
 | 0,t,d,h=>by rw [z1s];rwa [show d+((0:Nat):Int)=d by simp] at h
 | n+1,t,d,h=>by
  rw [z1s];refine zf8 n (zin ?_)
  rwa [show d+(n:Int)+1=d+((n+1:Nat):Int) by omega]
abbrev Inr (Y:List Lb)(a:Int):Prop:=0≤a∧a<(Y.length:Int)
theorem Inr.app {Y:List Lb}(E:List Lb){a:Int}(h:Inr Y a):Inr (Y++E) a:=⟨h.1,by have:=h.2;simp only [List.length_append];omega⟩
theorem Inr.kid {Y:List Lb}{a:Int}(h:Inr Y a):Kid Y a (lat Y a).v (lat Y a).d:=Kid.self h.1 h.2
theorem Kid.inr {Y:List Lb}{a v d:Int}(h:Kid Y a v d):Inr Y a:=⟨h.p0,h.p1⟩
theorem LG.topA {s:Hp}{Y:List Lb}(h:LG s Y){a:Int}(k:Inr Y a):(lat Y a).d≤(s.C.length:Int)+10000000000:=
 h.top _ (List.mem_of_getElem? (z5a (by have:=k.1;have:=k.2;omega)))
structure SdZ (Y:List Lb)(s:Hp)(x:Sd):Prop where
 h:Inr Y x.h
 j:∀ a∈x.js,Inr Y a
 c:CkZ Y (s.C.length:Int) x.c (lat Y x.h)
theorem SdZ.app {Y:List Lb}{s t:Hp}{x:Sd}(h:SdZ Y s x)(E:List Lb)(hl:s.C.length≤t.C.length):SdZ (Y++E) t x:=
 ⟨h.h.app E,fun a ha=>(h.j a ha).app E,by rw [z33 E h.h.1 h.h.2];exact h.c.app E (by omega)⟩
theorem zf6 {w:Wp}{Y:List Lb}(h:LG w.s Y){a:Int}(ha:Inr Y a)(e:(lookW w a).1.2=0):∃ E,LG (lookW w a).2.s (Y++E)∧w.s.C.length≤(lookW w a).2.s.C.length∧SdZ (Y++E) (lookW w a).2.s (lookW w a).1.1:=by
 obtain ⟨E,a1,a2,a3⟩:=zjq (v:=(lat Y a).v) (d:=(lat Y a).d) (2*w.f.toNat+2) ⟨w.s,w.f,0⟩ a Y (Nat.le_refl _) h (h.topA ha) fun _=>ha.kid;unfold lookW at e ⊢;split
 · rename_i q;rw [if_pos q] at e;exact absurd e q
 · rename_i q;have q:(z2e w.s a w.f).1.2.2=0:=by simpa using q
   revert q;unfold z2e;generalize z0l (2*w.f.toNat+2) ⟨w.s,w.f,0⟩ a=z at*;intro q;dsimp only at q ⊢;by_cases q2:z.2.e=0
   · rw [if_neg (fun w=>w q2)] at q ⊢;obtain ⟨_,k1,k2⟩:=a3 q2;exact ⟨E,a1,a2.1,k1.inr,fun x hx=>(k2 x hx).inr,a1.at (a1.inC k1)⟩
   · rw [if_pos q2] at q;exact absurd q q2
theorem fullW_up {w:Wp}{Y:List Lb}(h:LG w.s Y){a:Int}(ha:Inr Y a):∃ E,LG (z2i w a).2.s (Y++E)∧w.s.C.length≤(z2i w a).2.s.C.length:=by
 obtain ⟨E,a1,a2,_⟩:=zkl h ha.kid w.f;exact ⟨E,a1,a2.1⟩
theorem z4t (lv:Int):∀ (l:List Int) (out:List Tm) (w:Wp) (Y:List Lb),LG w.s Y→(∀ a∈l,Inr Y a)→∃ E,LG (z03 lv l out w).2.s (Y++E)∧w.s.C.length≤(z03 lv l out w).2.s.C.length
 | [],out,w,Y,h,_=>⟨[],by rw [List.append_nil];exact h,Nat.le_refl _⟩
 | a::l,out,w,Y,h,ha=>by
  obtain ⟨E,a1,a2⟩:=fullW_up h (ha a List.mem_cons_self);rw [z03];split
  · exact ⟨E,a1,a2⟩
  · split
    · exact ⟨E,a1,a2⟩
    · obtain ⟨F,b1,b2⟩:=z4t lv l (out++ [(z4l (z2i w a).1.1).1]) (z2i w a).2 (Y++E) a1 fun x hx=>(ha x (List.mem_cons_of_mem _ hx)).app E;exact ⟨E++F,by rw [←List.append_assoc];exact b1,by omega⟩
theorem znj {w:Wp}{Y:List Lb}(h:LG w.s Y){x V:Int}(hx:Inr Y x)(hV:V≤(lat Y x).v){t:Tm}(ht:wG (pk Y V) t 0=true)(hz:t.sz≤10000000000)(e:(setW w x t).1=0):∃ E,LG (setW w x t).2.s (Y++E)∧w.s.C.length≤(setW w x t).2.s.C.length:=by
 have hE:=zo6 (V:=none) (v:=V) (q:=fun n=>kidB Y n V) h (fun C n hn _ he=>by
  have hn:=z6t.1 hn;unfold varE at he ⊢;dsimp only at he ⊢;split at he
  · rename_i w;rw [if_pos w];exact hn
  · exact absurd he (by show¬(1:Int)=0;decide)) t (d:=0) (Int.le_refl _) ht (by omega)
 unfold setW at e ⊢;split
 · rename_i q;rw [if_pos q] at e;exact absurd e q
 · rename_i q;obtain ⟨E,a1,a2,a3⟩:=hE (by simpa using q);generalize encS none w.s t=z at*;refine ⟨E,a1.set _ _ (fun hin=> ?_), ?_⟩
   · rw [z33 E hx.1 hx.2];have:=(a1.at hin).d0;rw [z33 E hx.1 hx.2] at this;exact a3.mono hV this
   · have:=(zl4 z.2 x ⟨5,z.1.1,0,0,0⟩).2.2.2;dsimp only;omega
theorem zkm {w:Wp}{Y:List Lb}(h:LG w.s Y){x lv:Int}(hx:Inr Y x)(hlv:foldMax [lv,0]≤(lat Y x).v)(lams:Nat){on:List Tm}(ho:∀ t∈on,∀ E,wG (pk (Y++E) (lat Y x).v) t (lams:Int)=true)(hz:lams+Tm.szs on≤1000000000)(e:(z2u w x lv lams on).1.2=0):
  ∃ E,LG (z2u w x lv lams on).2.s (Y++E)∧w.s.C.length≤(z2u w x lv lams on).2.s.C.length∧∃ n,(z2u w x lv lams on).1.1= .mk 4 [] n []∧Kid (Y++E) n (foldMax [lv,0]) 0:=by
 have hF:=zr0 h (foldMax [lv,0])
 have e1:(z09 w.s lv).1.2=0:=by
  unfold z2u at e;split at e
  · exact e
  · rename_i q;simpa using q
 have eh:z2u w x lv lams on=((.mk 4 [] (z09 w.s lv).1.1 [],(setW ⟨(z09 w.s lv).2,w.f⟩ x (z1s lams (z08 (.mk 4 [] (z09 w.s lv).1.1 []) on))).1),(setW ⟨(z09 w.s lv).2,w.f⟩ x (z1s lams (z08 (.mk 4 [] (z09 w.s lv).1.1 []) on))).2):=by
  unfold z2u;rw [if_neg (fun q=>q e1)]
 rw [eh] at e ⊢;obtain ⟨E,a1,a2,a3⟩:=hF e1;have a1:LG (z09 w.s lv).2 (Y++E):=a1;have a2:w.s.C.length≤(z09 w.s lv).2.C.length:=a2;have a3:Kid (Y++E) (z09 w.s lv).1.1 (foldMax [lv,0]) 0:=a3;generalize z09 w.s lv=z at*;have hy:lat (Y++E) x=lat Y x:=z33 E hx.1 hx.2
 have hw:wG (pk (Y++E) (lat Y x).v) (z1s lams (z08 (.mk 4 [] z.1.1 []) on)) 0=true:=by
  refine zf8 lams ?_;rw [Int.zero_add];refine z38 (zlq ?_) fun t ht=>ho t ht E;unfold pk;rw [if_neg (by decide)];exact z6t.2 (a3.mono hlv (Int.le_refl _))
 obtain ⟨F,b1,b2⟩:=znj (w:=⟨z.2,w.f⟩) a1 (hx.app E) (by rw [hy];exact Int.le_refl _) hw (by
  have:=z3v (.mk 4 [] z.1.1 []) on;have e4:(Tm.mk 4 [] z.1.1 []).sz=1:=rfl;rw [z6m];omega) e
 exact ⟨E++F,by rw [←List.append_assoc];exact b1,Nat.le_trans a2 b2,z.1.1,rfl,by rw [←List.append_assoc];exact a3.app F⟩
theorem ixZ_lt (o:Tm):∀ (l:List Tm) (r:Nat),ixZ o l=some r→r<l.length
 | [],_,h=>by cases h
 | u::l,r,h=>by
  rw [ixZ] at h;split at h
  · injection h with h;subst h;simp
  · have:=ixZ_lt o l r h;simp only [List.length_cons];omega
abbrev K31 (l:List Tm):Prop:=∀ t:Tm,t∈l→t.k=3∨t.k=1
theorem leafP {p:Int→Int→Bool}{t:Tm}{d:Int}(hl:t.k=3∨t.k=1)(h3:t.k=3→t.n<d)(h1:t.k=1→p 1 t.n=true):wG p t d=true:=by
 obtain ⟨k,s,n,l⟩:=t;rw [z57];refine ⟨?_,fun w=>by have:k=3∨k=1:=hl;omega⟩;unfold gB;split
 · rename_i q;exact decide_eq_true (h3 q)
 · rename_i q;have hk:k=1:=by have:k=3∨k=1:=hl;omega
   subst hk;have h1:p 1 n=true:=h1 rfl;rw [h1,Bool.or_true]
theorem zb {Y:List Lb}{v:Iv}{t:Tm}{k:Int}(hl:t.k=3∨t.k=1)(h:(z3n v t k).2=true)(hk:0≤k):wG (pk Y v.lv) (z3n v t k).1 (k+(v.l.length:Int))=true:=by
 unfold z3n at h ⊢;split
 · rename_i q;exact leafP hl (fun _=>by show t.n<_;omega) (fun e=>by have e:t.k=1:=e;have:=q.1;omega)
 · rename_i q;rw [if_neg q] at h;split
   · rename_i r hr;exact zpn (n:=k+r) (by have:=ixZ_lt _ _ _ hr;omega)
   · rename_i hr;rw [hr] at h;simp only [Bool.and_eq_true,beq_iff_eq,decide_eq_true_eq] at h;refine leafP hl (fun e=>by have e:t.k=3:=e;omega) fun _=> ?_;unfold pk;rw [if_pos rfl];exact decide_eq_true h.2
theorem im1_wG {Y:List Lb}{v:Iv}{k:Int}(hk:0≤k):∀ (l:List Tm),K31 l→(∀ t∈(im1 v k l).2,wG (pk Y v.lv) t (k+(v.l.length:Int))=true)∧∀ t∈(im1 v k l).1,∀ (p:Int→Int→Bool) (m:Nat),l.length≤m→wG p t (m:Int)=true
 | [],_=>⟨(fun t ht=>nomatch ht),(fun t ht=>nomatch ht)⟩
 | t::l,h=>by
  obtain ⟨a,b⟩:=im1_wG (Y:=Y) (v:=v) hk l fun u hu=>h u (List.mem_cons_of_mem _ hu);have b':∀ u∈(im1 v k l).1,∀ (p:Int→Int→Bool) (m:Nat),(t::l).length≤m→wG p u (m:Int)=true:=fun u hu p m hm=>b u hu p m (by simp only [List.length_cons] at hm;omega);rw [im1];split
  · rename_i q;refine ⟨fun u hu=> ?_,fun u hu p m hm=> ?_⟩
    · rcases List.mem_cons.1 hu with rfl | hu
      · exact zb (h t List.mem_cons_self) q hk
      · exact a u hu
    · rcases List.mem_cons.1 hu with rfl | hu
      · exact zpn (n:=(l.length:Int)) (by simp only [List.length_cons] at hm;omega)
      · exact b' u hu p m hm
  · exact ⟨a,b'⟩
theorem im2_wG {lv vlv k:Int}:∀ (l:List Tm),(∀ t∈(im2 lv vlv k l).2,∀ (p:Int→Int→Bool) (m:Int),k+(l.length:Int)≤m→wG p t m=true)∧∀ t∈(im2 lv vlv k l).1,∀ (Y:List Lb) (V m:Int),lv≤V→wG (pk Y V) t m=true
 | []=>⟨(fun t ht=>nomatch ht),(fun t ht=>nomatch ht)⟩
 | t::l=>by
  obtain ⟨a,b⟩:=im2_wG (lv:=lv) (vlv:=vlv) (k:=k) l;have a':∀ u∈(im2 lv vlv k l).2,∀ (p:Int→Int→Bool) (m:Int),k+((t::l).length:Int)≤m→wG p u m=true:=fun u hu p m hm=>a u hu p m (by simp only [List.length_cons] at hm;omega);rw [im2];split
  · rename_i q;refine ⟨fun u hu p m hm=> ?_,fun u hu Y V m hV=> ?_⟩
    · rcases List.mem_cons.1 hu with rfl | hu
      · exact zpn (n:=k+(l.length:Int)) (by simp only [List.length_cons] at hm;omega)
      · exact a' u hu p m hm
    · rcases List.mem_cons.1 hu with rfl | hu
      · refine leafP (.inr q.2.1) (fun e=>by have:=q.2.1;omega) fun _=> ?_;unfold pk;rw [if_pos rfl];exact decide_eq_true (Int.le_trans q.2.2 hV)
      · exact b u hu Y V m hV
  · exact ⟨a',b⟩
theorem ones_K31 {l:List Tm}(h:∀ t∈l,LfZ t):K31 l:=fun t ht=>(h t ht).1
theorem fmn2 (a b:Int):z0k [a,b]≤a∧z0k [a,b]≤b∧(z0k [a,b]=a∨z0k [a,b]=b):=by
 simp only [z0k,List.foldl];omega
theorem fmx2 (a:Int):foldMax [a,0]=if 0≤a then a else 0:=by
 simp only [foldMax,List.foldl];split<;>omega
theorem flexG_up {v:Iv}{y:Sd}{k:Int}(hk:0≤k)(lv0:0≤v.lv){z:(List Tm×Int)×Wp}{Y:List Lb}(h:LG z.2.s Y)(hy:SdZ Y z.2.s y)(y4:y.c.t=4)(hz:∀ t∈z.1.1,LfZ t)(hv:ones v.l)(hl:z.1.1.length≤100000000)(hvl:v.l.length≤100000)(e:(z6a v y k z).1.2=0):
  ∃ E,LG (z6a v y k z).2.s (Y++E)∧z.2.s.C.length≤(z6a v y k z).2.s.C.length∧wG (pk (Y++E) v.lv) (z6a v y k z).1.1 (k+(v.l.length:Int))=true:=by
 have f:=hy.c.f y4;obtain ⟨a1,a2⟩:=im1_wG (Y:=Y) (v:=v) hk z.1.1 (ones_K31 hz);obtain ⟨b1,b2⟩:=im2_wG (lv:=y.c.a) (vlv:=v.lv) (k:=k) v.l;unfold z6a at e ⊢;split
 · rename_i q;rw [if_pos q] at e;exact absurd e q
 · rename_i q;rw [if_neg q] at e;split
   · rename_i q2;refine ⟨[],by rw [List.append_nil];exact h,Nat.le_refl _, ?_⟩;rw [List.append_nil];refine z38 (zlq ?_) a1;unfold pk;rw [if_neg (by decide)];exact z6t.2 ⟨hy.h.1,hy.h.2,by rw [f.1];exact q2.2,by rw [f.2.1];exact Int.le_refl _⟩
   · rename_i q2;rw [if_neg q2] at e;have mn:=fmn2 v.lv y.c.a;have mx:=fmx2 (z0k [v.lv,y.c.a]);obtain ⟨c1,c2,c3,c4⟩:=zk v k z.1.1 (z4b hz);obtain ⟨d1,d2,d3,d4⟩:=zrz y.c.a v.lv k v.l hv
     obtain ⟨E,g1,g2,n,g3,g4⟩:=zkm (w:=z.2) h (x:=y.h) (lv:=z0k [v.lv,y.c.a]) hy.h (by rw [f.1,mx];split<;>omega) z.1.1.length (on:=(im1 v k z.1.1).1++(im2 y.c.a v.lv k v.l).1) (fun t ht E=>by
      rcases List.mem_append.1 ht with ht | ht
      · exact a2 t ht _ _ (Nat.le_refl _)
      · exact b2 t ht _ _ _ (by rw [f.1];exact Int.le_refl _)) (by rw [z5f (za6 c4 d4),List.length_append];omega) e
     refine ⟨E,g1,g2, ?_⟩;dsimp only;rw [g3];refine z38 (zlq ?_) fun t ht=> ?_
     · unfold pk;rw [if_neg (by decide)];exact z6t.2 (g4.mono (by rw [mx];split<;>omega) (Int.le_refl _))
     · rcases List.mem_append.1 ht with ht | ht
       · exact zs1 (fun k n p=>pk_app E k n p) t (Int.le_refl _) (a1 t ht)
       · exact b1 t ht _ _ (Int.le_refl _)
def Tz (Y:List Lb)(w:Wp)(z:(Tm×Int)×Wp)(lv d:Int):Prop:=z.1.2=0→∃ E,LG z.2.s (Y++E)∧w.s.C.length≤z.2.s.C.length∧wG (pk (Y++E) lv) z.1.1 d=true
theorem zob {Y:List Lb}{v:Iv}{N:List (List UInt8)}{x:Sd}{k:Int}(h:(z4a v N x k).2=true)(hk:0≤k):wG (pk Y v.lv) (z4a v N x k).1 (k+(v.l.length:Int))=true:=by
 unfold z4a at h ⊢;split
 · rfl
 · rename_i q;rw [if_neg q] at h;split
   · rfl
   · rename_i q2;rw [if_neg q2] at h;split
     · rename_i q3;rw [if_pos q3] at h;exact zb (.inr rfl) h hk
     · rename_i q3;rw [if_neg q3] at h;exact zb (.inl rfl) h hk
theorem zkd {K:Nat}{F:Int→Wp→(Tm×Int)×Wp}{m lv d:Int}(hF:∀ b w Y,OkW K w→w.f≤m→LG w.s Y→Inr Y b→Tz Y w (F b w) lv d)(hR:∀ b w,OkW K w→w.f≤m→TrG K w (F b w)):∀ (l:List Int) (t:Tm) (w:Wp) (Y:List Lb),OkW K w→w.f≤m→LG w.s Y→(∀ a∈l,Inr Y a)→wG (pk Y lv) t d=true→Tz Y w (z6y F l t w) lv d
 | [],t,w,Y,_,_,h,_,ht=>fun _=>⟨[],by rw [List.append_nil];exact h,Nat.le_refl _,by rw [List.append_nil];exact ht⟩
 | b::l,t,w,Y,ok,hm,h,ha,ht=>by
  intro e;have h1:=hF b w Y ok hm h (ha b List.mem_cons_self);have h2:=hR b w ok hm;rw [z6y] at e ⊢;split
  · rename_i q;rw [if_pos q] at e;exact absurd e q
  · rename_i q;rw [if_neg q] at e;have q:(F b w).1.2=0:=by simpa using q
    obtain ⟨E,a1,a2,a3⟩:=h1 q;have ok1:=h2.1.ok ok q;have f1:=h2.1.f1;generalize F b w=z at*;obtain ⟨G,b1,b2,b3⟩:=zkd hF hR l (z08 t [z.1.1]) z.2 (Y++E) ok1 (by omega) a1 (fun a hm=>(ha a (List.mem_cons_of_mem _ hm)).app E) (z38 (zs1 (fun k n p=>pk_app E k n p) t (Int.le_refl _) ht) fun u hu=>by rw [List.mem_singleton.1 hu];exact a3) e;exact ⟨E++G,by rw [←List.append_assoc];exact b1,by omega,by rw [←List.append_assoc];exact b3⟩
theorem zeg {K:Nat}(v:Iv)(hv:ones v.l)(hl:v.l.length≤100000)(lv0:0≤v.lv):∀ (n:Nat) (a k:Int) (w:Wp) (Y:List Lb),0≤k→OkW K w→w.f.toNat<n→LG w.s Y→Inr Y a→Tz Y w (z0x v n a k w) v.lv (k+(v.l.length:Int))
 | 0,_,_,_,_,_,_,h,_,_=>absurd h (by omega)
 | n+1,a,k,w,Y,hk,ok,hn,h,ha=>by
  have hlk:=fun e=>zf6 h ha e;obtain ⟨g1,_,g3⟩:=z27 ok a;have okn:=fun h=>g1.ok ok h;have hf0:=ok.f0;have hf1:=ok.f1;intro e;rw [z0x] at e ⊢;generalize lookW w a=z at*;unfold termG at e ⊢;split
  · rename_i q;rw [if_pos q] at e;exact absurd e q
  · rename_i q;rw [if_neg q] at e;have q:z.1.2=0:=by simpa using q
    obtain ⟨E,a1,a2,a3⟩:=hlk q;have ok1:=okn q;have g3:=g3 q;have f1:=g1.f1;have f0:=g1.f0
    have up:∀ {y:(Tm×Int)×Wp},Tz (Y++E) z.2 y v.lv (k+(v.l.length:Int))→y.1.2=0→∃ E,LG y.2.s (Y++E)∧w.s.C.length≤y.2.s.C.length∧wG (pk (Y++E) v.lv) y.1.1 (k+(v.l.length:Int))=true:=fun ht e=>by
     obtain ⟨F,b1,b2,b3⟩:=ht e;exact ⟨E++F,by rw [←List.append_assoc];exact b1,by omega,by rw [←List.append_assoc];exact b3⟩
    split
    · rename_i q6;rw [if_pos q6] at e;have ih:=zeg v hv hl lv0 n z.1.1.c.a (k+1) z.2 (Y++E) (by omega) ok1 (by omega) a1 (a3.c.l q6).inr;refine up (y:=((z1s 1 (z0x v n z.1.1.c.a (k+1) z.2).1.1,(z0x v n z.1.1.c.a (k+1) z.2).1.2),(z0x v n z.1.1.c.a (k+1) z.2).2)) (fun e=> ?_) e;obtain ⟨F,b1,b2,b3⟩:=ih e;exact ⟨F,b1,b2,zf8 1 (by rw [show k+(v.l.length:Int)+((1:Nat):Int)=k+1+(v.l.length:Int) by omega];exact b3)⟩
    · rename_i q6;rw [if_neg q6] at e;split
      · rename_i q4;rw [if_pos q4] at e;split
        · rename_i qx;rw [if_pos qx] at e;exact absurd e (by show¬(170:Int)=0;decide)
        · rename_i qx;rw [if_neg qx] at e;obtain ⟨F,c1,c2⟩:=z4t z.1.1.c.a z.1.1.js [] z.2 (Y++E) a1 a3.j;obtain ⟨l1,_,l3,l4⟩:=z1a (K:=K) z.1.1.c.a z.1.1.js [] ok1 (fun t ht=>by cases ht);simp only [List.length_nil] at l3;unfold zbx at e ⊢;generalize z03 z.1.1.c.a z.1.1.js [] z.2=y at*;refine up (y:=z6a v z.1.1 k y) (fun e=> ?_) e;obtain ⟨G,b1,b2,b3⟩:=flexG_up hk lv0 (Y:=Y++E++F) c1 (a3.app F c2) q4 l4 hv (by omega) hl e;exact ⟨F++G,by rw [←List.append_assoc];exact b1,by omega,by rw [←List.append_assoc];exact b3⟩
      · rename_i q4;rw [if_neg q4] at e;split
        · rename_i qr;rw [if_pos qr] at e;exact absurd e (by show¬(170:Int)=0;decide)
        · rename_i qr;rw [if_neg qr] at e;refine up ?_ e;exact zkd (K:=K) (F:=fun b w=>z0x v n b k w) (m:=z.2.f) (fun b w Y o hm g hb=>zeg v hv hl lv0 n b k w Y hk o (by have:=o.f0;omega) g hb) (fun b w o hm=>z5c v hv hl n b k o (by have:=o.f0;omega)) z.1.1.js _ z.2 (Y++E) ok1 (Int.le_refl _) a1 a3.j (zob (by simpa using qr) hk)
def Wz (Y:List Lb)(w:Wp)(e:Int)(z:Wp)(P:List Lb→Prop):Prop:=e=0→∃ E,LG z.s (Y++E)∧w.s.C.length≤z.s.C.length∧P (Y++E)
theorem zk4 {K:Nat}{w:Wp}{Y:List Lb}(ok:OkW K w)(hf:w.f≤10000)(h:LG w.s Y){x:Sd}(hx:SdZ Y w.s x)(x4:x.c.t=4){a:Int}(ha:Inr Y a)(hj:x.js.length≤100000):Wz Y w (z47 w x a).1 (z47 w x a).2 (fun _=>True):=by
 have f:=hx.c.f x4;obtain ⟨F,c1,c2⟩:=z4t x.c.a x.js [] w Y h hx.j;obtain ⟨l1,_,l3,l4⟩:=z1a (K:=K) x.c.a x.js [] ok (fun t ht=>by cases ht);simp only [List.length_nil] at l3;unfold z47;generalize z03 x.c.a x.js [] w=z at*;intro e;unfold zdu at e ⊢;split
 · rename_i q;rw [if_pos q] at e;exact absurd e q
 · rename_i q;rw [if_neg q] at e;have q:z.1.2=0:=by simpa using q
   have ok1:=l1.ok ok q;have lf:=l1.f1;have t:=z5c ⟨x.h,x.c.a,z.1.1⟩ (z4b l4) (by dsimp only;omega) (z.2.f.toNat+1) a 0 ok1 (by omega);have u:=zeg (K:=K) ⟨x.h,x.c.a,z.1.1⟩ (z4b l4) (by dsimp only;omega) f.2.2 (z.2.f.toNat+1) a 0 z.2 (Y++F) (Int.le_refl _) ok1 (by omega) c1 (ha.app F);generalize z0x ⟨x.h,x.c.a,z.1.1⟩ (z.2.f.toNat+1) a 0 z.2=y at*;split
   · rename_i q2;rw [if_pos q2] at e;exact absurd e q2
   · rename_i q2;rw [if_neg q2] at e;obtain ⟨E,b1,b2,b3⟩:=u (by simpa using q2);have hy:lat (Y++F++E) x.h=lat Y x.h:=by rw [List.append_assoc];exact z33 _ hx.h.1 hx.h.2
     rw [Int.zero_add] at b3;have g0:=ok1.f0;have t0:=t.1.f0;obtain ⟨G,d1,d2⟩:=znj (w:=y.2) b1 (x:=x.h) (V:=x.c.a) ((hx.h.app F).app E) (by rw [hy,f.1];exact Int.le_refl _) (t:=z1s z.1.1.length y.1.1) (zf8 _ (by rw [Int.zero_add];exact b3)) (by rw [z6m];have:=t.2;omega) e;exact ⟨F++E++G,by simpa [List.append_assoc] using d1,by omega,trivial⟩
theorem zqo {K:Nat}{w:Wp}{Y:List Lb}(ok:OkW K w)(h:LG w.s Y){x y:Sd}(hx:SdZ Y w.s x)(hy:SdZ Y w.s y)(x4:x.c.t=4)(hj:x.js.length≤100000):Wz Y w (z49 w x y).1 (z49 w x y).2 (fun _=>True):=by
 have f:=hx.c.f x4;obtain ⟨E,c1,c2⟩:=z4t x.c.a x.js [] w Y h hx.j;obtain ⟨l1,_,l3,l4⟩:=z1a (K:=K) x.c.a x.js [] ok (fun t ht=>by cases ht);simp only [List.length_nil] at l3;intro e;unfold z49 at e ⊢;generalize z03 x.c.a x.js [] w=z at*;split
 · rename_i q;rw [if_pos q] at e;exact absurd e q
 · rename_i q;rw [if_neg q] at e;obtain ⟨F,d1,d2⟩:=z4t y.c.a y.js [] z.2 (Y++E) c1 fun a ha=>(hy.j a ha).app E;generalize z03 y.c.a y.js [] z.2=u at*;split
   · rename_i q2;rw [if_pos q2] at e;exact absurd e q2
   · rename_i q2;rw [if_neg q2] at e;split
     · rename_i q3;rw [if_pos q3] at e;exact absurd e (by show¬(171:Int)=0;decide)
     · rename_i q3;rw [if_neg q3] at e;split
       · exact ⟨E++F,by rw [←List.append_assoc];exact d1,by dsimp only;omega,trivial⟩
       · rename_i q4;rw [if_neg q4] at e;obtain ⟨o1,o2⟩:=ze2 z.1.1 u.1.1;have hyx:lat (Y++E++F) x.h=lat Y x.h:=by rw [List.append_assoc];exact z33 _ hx.h.1 hx.h.2
         have on:∀ (a b:List Tm),∀ t∈onZ a b,∀ (p:Int→Int→Bool) (m:Nat),a.length≤m→wG p t (m:Int)=true:=by
          intro a
          induction a with
          | nil=>intro b t ht;simp [onZ] at ht
          | cons a l ih=>
           intro b;cases b with
           | nil=>intro t ht;simp [onZ] at ht
           | cons b r=>
            intro t ht p m hm;simp only [List.length_cons] at hm;rw [onZ] at ht;rcases List.mem_append.1 ht with ht | ht
            · split at ht
              · rw [List.mem_singleton.1 ht];exact zpn (n:=(l.length:Int)) (by omega)
              · cases ht
            · exact ih r t ht p m (by omega)
         have mx:=fmx2 x.c.a;obtain ⟨G,g1,g2,_⟩:=zkm (w:=u.2) d1 (x:=x.h) (lv:=x.c.a) ((hx.h.app E).app F) (by rw [hyx,f.1,mx,if_pos f.2.2];exact Int.le_refl _) z.1.1.length (on:=onZ z.1.1 u.1.1) (fun t ht G=>on _ _ t ht _ _ (Nat.le_refl _)) (by rw [z5f o1];omega) e;exact ⟨E++F++G,by simpa [List.append_assoc] using g1,by dsimp only;omega,trivial⟩
theorem zls {w:Wp}{Y:List Lb}(h:LG w.s Y){x:Sd}(hx:SdZ Y w.s x){a:Int}(ha:Inr Y a):Wz Y w (z2t w x a).1.2 (z2t w x a).2 (fun Z=>Inr Z (z2t w x a).1.1):=by
 intro e;unfold z2t at e ⊢;split
 · rename_i q6;exact ⟨[],by rw [List.append_nil];exact h,Nat.le_refl _,by rw [List.append_nil];exact (hx.c.l q6).inr⟩
 · rename_i q6;rw [if_neg q6] at e;split
   · rename_i q;rw [if_pos q] at e;exact absurd e q
   · rename_i q;rw [if_neg q] at e;have q:(z1p w.s a 1).1.2=0:=by simpa using q
     have dk:=h.d0 ha.kid;have top:=h.topA ha
     obtain ⟨E,a1,a2,a3⟩:∃ E,LG (z1p w.s a 1).2 (Y++E)∧w.s.C.length≤(z1p w.s a 1).2.C.length∧Kid (Y++E) (z1p w.s a 1).1.1 (lat Y a).v ((lat Y a).d+1):=by
      obtain ⟨E,a1,a2,a3⟩:=zs0 (r:=⟨w.s,0,0⟩) h a 1 (lat Y a).v ((lat Y a).d+1) (by dsimp only;omega) (fun _=>⟨by omega,by rw [Int.add_sub_cancel];exact ha.kid,by omega⟩);revert q;unfold z1p;split
      · intro q;exact absurd q (by show¬(1:Int)=0;decide)
      · dsimp only;intro q;by_cases q2:(z3m ⟨w.s,0,0⟩ a 1).2.e=0
        · rw [if_neg (fun w=>w q2)];exact ⟨E,a1,a2.1,(a3 q2).2⟩
        · rw [if_pos q2] at q;exact absurd q q2
     generalize z1p w.s a 1=z at*;have p1:=bnd_ue a1 0 (lat Y a).v 1 (by decide) (by decide) (by omega);split
     · rename_i q2;rw [if_pos q2] at e;exact absurd e q2
     · rename_i q2;rw [if_neg q2] at e;obtain ⟨F,b1,b2,b3⟩:=p1 (by simpa using q2);generalize putS z.2 ⟨3,0,0,0,0⟩=y at*;obtain ⟨G,c1,c2,c3⟩:=app_ue b1 z.1.1 y.1.1 (lat Y a).v ((lat Y a).d+1) (by omega) (a3.app F) (b3.mono (Int.le_refl _) (by omega)) e;exact ⟨E++F++G,by simpa [List.append_assoc] using c1,by dsimp only;omega,by simpa [List.append_assoc] using c3.inr⟩
theorem zo0 {Y:List Lb}:∀ (a b:List Int),(∀ x∈a,Inr Y x)→(∀ x∈b,Inr Y x)→∀ p∈a.zip b,Inr Y p.1∧Inr Y p.2:=fun a b ha hb p hp=>by
 obtain ⟨h1,h2⟩:=List.of_mem_zip (a:=p.1) (b:=p.2) hp;exact ⟨ha _ h1,hb _ h2⟩
theorem oneW_up {K:Nat}{w:Wp}{Y:List Lb}(ok:OkW K w)(hf:w.f≤10000)(h:LG w.s Y)(p:Int×Int)(h1:Inr Y p.1)(h2:Inr Y p.2):Wz Y w (oneW w p).1.1 (oneW w p).2 (fun Z=> ∀ q∈(oneW w p).1.2,Inr Z q.1∧Inr Z q.2):=by
 have l1:=fun e=>zf6 h h1 e;obtain ⟨o1,_,o3⟩:=z27 ok p.1;intro e;unfold oneW at e ⊢;split
 · rename_i q;rw [if_pos q] at e;exact absurd e q
 · rename_i q;rw [if_neg q] at e;have q:(lookW w p.1).1.2=0:=by simpa using q
   obtain ⟨E,a1,a2,a3⟩:=l1 q;have ok1:=o1.ok ok q;have of1:=o1.f1;have of0:=o1.f0;have o3:=o3 q;generalize lookW w p.1=z at*;have l2:=fun e=>zf6 a1 (h2.app E) e;obtain ⟨r1,_,r3⟩:=z27 ok1 p.2;generalize lookW z.2 p.2=u at*;split
   · rename_i q2;rw [if_pos q2] at e;exact absurd e q2
   · rename_i q2;rw [if_neg q2] at e;have q2:u.1.2=0:=by simpa using q2
     obtain ⟨F,b1,b2,b3⟩:=l2 q2;have ok2:=r1.ok ok1 q2;have rf1:=r1.f1;have rf0:=r1.f0;have r3:=r3 q2;have sx:=a3.app F b2;have ix:=(h1.app E).app F;have iy:=(h2.app E).app F
     have up:∀ {e:Int} {y:Wp} {P:List Lb→Prop},Wz (Y++E++F) u.2 e y P→e=0→∃ E,LG y.s (Y++E)∧w.s.C.length≤y.s.C.length∧P (Y++E):=fun hz e0=>by
      obtain ⟨G,g1,g2,g3⟩:=hz e0;exact ⟨E++F++G,by simpa [List.append_assoc] using g1,by omega,by simpa [List.append_assoc] using g3⟩
     unfold oneG at e ⊢;split
     · rename_i q6;rw [if_pos q6] at e;unfold z7t at e ⊢;have bx:=zls b1 sx ix;generalize z2t u.2 z.1.1 p.1=y at*;split
       · rename_i w1;rw [if_pos w1] at e;exact absurd e w1
       · rename_i w1;rw [if_neg w1] at e;obtain ⟨G,g1,g2,g3⟩:=bx (by simpa using w1);have by_:=zls g1 (b3.app G g2) (iy.app G);generalize z2t y.2 u.1.1 p.2=t at*;split
         · rename_i w2;rw [if_pos w2] at e;exact absurd e w2
         · rename_i w2;obtain ⟨H,i1,i2,i3⟩:=by_ (by simpa using w2);refine ⟨E++F++G++H,by simpa [List.append_assoc] using i1,by dsimp only;omega,fun q hq=> ?_⟩;rw [List.mem_singleton.1 hq];exact ⟨by simpa [List.append_assoc] using g3.app H,by simpa [List.append_assoc] using i3⟩
     · rename_i q6;rw [if_neg q6] at e;split
       · rename_i q4;rw [if_pos q4] at e;obtain ⟨G,g1,g2,_⟩:=up (zqo ok2 b1 sx b3 q4.1 (by omega)) e;exact ⟨G,g1,g2,fun q hq=>by cases hq⟩
       · rename_i q4;rw [if_neg q4] at e;split
         · rename_i x4;rw [if_pos x4] at e;obtain ⟨G,g1,g2,_⟩:=up (zk4 ok2 (by omega) b1 sx x4 iy (by omega)) e;exact ⟨G,g1,g2,fun q hq=>by cases hq⟩
         · rename_i x4;rw [if_neg x4] at e;split
           · rename_i y4;rw [if_pos y4] at e;obtain ⟨G,g1,g2,_⟩:=up (zk4 ok2 (by omega) b1 b3 y4 ix (by omega)) e;exact ⟨G,g1,g2,fun q hq=>by cases hq⟩
           · rename_i y4;rw [if_neg y4] at e;split
             · rename_i qc;rw [if_pos qc] at e;exact absurd e (by show¬(170:Int)=0;decide)
             · exact ⟨E++F,by rw [←List.append_assoc];exact b1,by dsimp only;omega,by rw [←List.append_assoc];exact zo0 _ _ sx.j b3.j⟩
theorem zrt {K:Nat}:∀ (n:Nat) (w:Wp) (st:List (Int×Int)) (Y:List Lb),OkW K w→w.f≤10000→LG w.s Y→(∀ p∈st,Inr Y p.1∧Inr Y p.2)→Wz Y w (runZ n w st).1 (runZ n w st).2 (fun _=>True)
 | n,w,[],Y,_,_,h,_=>by
  have e:runZ n w []=(0,w):=by cases n<;>rfl
  rw [e];exact fun _=>⟨[],by rw [List.append_nil];exact h,Nat.le_refl _,trivial⟩
 | 0,w,p::st,Y,_,_,_,_=>fun e=>absurd e (by show¬(80:Int)=0;decide)
 | n+1,w,p::st,Y,ok,hf,h,hs=>by
  intro e;rw [runZ] at e ⊢;split
  · rename_i q;rw [if_pos q] at e;exact absurd e (by show¬(80:Int)=0;decide)
  · rename_i q;rw [if_neg q] at e;have ok1:OkW K ⟨w.s,w.f-1⟩:=⟨ok.h,by have:=ok.f0;dsimp only;omega,by have:=ok.f1;dsimp only;omega,ok.n⟩;have h1:=oneW_up (w:=⟨w.s,w.f-1⟩) ok1 (by dsimp only;omega) h p (hs p List.mem_cons_self).1 (hs p List.mem_cons_self).2;have r1:=(zer ok1 p (by dsimp only;omega)).1;generalize oneW ⟨w.s,w.f-1⟩ p=z at*;split
    · rename_i q2;rw [if_pos q2] at e;exact absurd e q2
    · rename_i q2;rw [if_neg q2] at e;have q2:z.1.1=0:=by simpa using q2
      obtain ⟨E,a1,a2,a3⟩:=h1 q2;have f1:=r1.f1;dsimp only at f1 a2
      obtain ⟨F,b1,b2,_⟩:=zrt n z.2 (z.1.2++st) (Y++E) (r1.ok ok1 q2) (by omega) a1 (fun p hp=>by
       rcases List.mem_append.1 hp with hp | hp
       · exact a3 p hp
       · exact ⟨(hs p (List.mem_cons_of_mem _ hp)).1.app E,(hs p (List.mem_cons_of_mem _ hp)).2.app E⟩) e
      exact ⟨E++F,by rw [←List.append_assoc];exact b1,by omega,trivial⟩
theorem allZ_up {K:Nat}{s:Hp}{Y:List Lb}(hg:GoodZ s)(ok:OkH s)(nm:NmB K s)(a b:List Int)(f:Int)(f0:0≤f)(f1:f≤10000)(h:LG s Y):∃ E,LG (allZ s a b f).2 (Y++E):=by
 have okw:OkW K ⟨s,f⟩:=⟨ok,f0,by dsimp only;omega,nm⟩;obtain ⟨b1,_,_,_,_,b6,_⟩:=zij hg ok nm a b f f0 (by omega);by_cases e:(allZ s a b f).1.2=0
 · unfold allZ at e ⊢;split
   · exact ⟨[],by rw [List.append_nil];exact h⟩
   · rename_i q;rw [if_neg q] at e;split
     · rename_i q2;rw [if_pos q2] at e;exact absurd e q2
     · rename_i q2
       have hin:∀ l:List Int,l.any (oddZ s.C)=false→∀ x∈l,Inr Y x:=fun l hl x hx=>by
        have:=List.any_eq_false.1 hl x hx;unfold oddZ at this
        have:inC s.C x=true:=by
         cases e:inC s.C x with
         | true=>rfl
         | false=>rw [e] at this;simp at this
        have:=z2o.1 this;exact ⟨this.1,by rw [h.len];exact this.2⟩
       obtain ⟨E,c1,_,_⟩:=zrt f.toNat ⟨s,f⟩ (a.zip b) Y okw f1 h (zo0 a b (hin a (by
        cases w:a.any (oddZ s.C) with
        | false=>rfl
        | true=>exact absurd (.inr (.inl w)) q)) (hin b (by
        cases w:b.any (oddZ s.C) with
        | false=>rfl
        | true=>exact absurd (.inr (.inr w)) q))) (by simpa using q2)
       exact ⟨E,c1⟩
 · obtain ⟨c1,_,_⟩:=b6 e;refine ⟨[], ?_⟩;rw [List.append_nil];exact ⟨b1,by rw [c1];exact h.len,by rw [c1];exact h.ck,by rw [c1];exact h.top⟩
end Go.AM

set_option maxRecDepth 100000
open Go Go.Proofs
namespace Go.AM
def zmw (t:Tm):Bool:=large t 24 || !near 1000 t
def zke (l:List Tm):Bool:=decide ((l.length:Int)>6)||l.any zmw
theorem zkt (l:List Tm)(hl:l.length≤1000)(hz:∀ t∈l,t.sz≤B):∀ (b pre:List Tm),l=pre++b→RPt Tryz.prog 12 0 (cb (b.any zmw)) [] 1 ⟨[(0,aL l),(3,ci (pre.length:Int))],[],0⟩
 | [],pre,hp=>by
  rw [List.append_nil] at hp;refine RPt.vc hP sh lv12 (Eq.mpr (v12_1a ..) ?_);rw [z00];exact ⟨rfl,z01 (fun h=>absurd (of_decide_eq_true h) (by rw [hp];omega)) (fun _=>z0a rfl)⟩
 | t::b,pre,hp=>by
  have ih:=zkt l hl hz b (pre++ [t]) (by rw [hp];simp);rw [show (((pre++ [t]).length:Nat):Int)=(pre.length:Int)+1 by simp] at ih;have hlen:l.length=pre.length+(b.length+1):=by rw [hp];simp
  have em:List.getD (FTs l) (Int.toNat (pre.length:Int)) []=FT t:=by rw [hp];exact midI pre t b
  have hm:t∈l:=by rw [hp];simp
  have h1:=c_large t (hz t hm) 24 (by omega) (by omega);have h2:=c_near 1000 (by omega) (by omega) t (hz t hm);have e:(t::b).any zmw=((large t 24 || !near 1000 t)||b.any zmw):=rfl;rw [e];refine RPt.vc hP sh lv12 (Eq.mpr (v12_1a ..) ?_);rw [em,z00,w64 (x:=(pre.length:Int)+1) (by omega) (by omega),z4n];refine ⟨rfl,z01 (fun _=>⟨⟨rfl,by omega,by omega,z4j t⟩,_,h1,⟨rfl,by omega,by omega,z4j t⟩,_,h2,z01 (fun q=>z0a ?_) (fun q=>z01 (fun q2=>z0a ?_) (fun q2=> ?_))⟩) (fun h=>absurd (of_decide_eq_false h) (by omega))⟩
  · rw [q];rfl
  · rw [q2,Bool.or_true,Bool.true_or]
  · rw [q,q2];exact ih
theorem zka (l:List Tm)(hz:∀ t∈l,t.sz≤B):AC Tryz.prog 12 [aL l] [] (cb (zke l)) []:=by
 have e:zke l=(decide ((l.length:Int)>6)||l.any zmw):=rfl;rw [e];refine AC.vc hP sh lv12 (Nat.le_refl _) (by simp) (by simp) (Eq.mpr (v12 ..) ?_);rw [z00];refine ⟨rfl,z01 (fun q=>z0a ?_) (fun q=> ?_)⟩
 · rw [q];rfl
 · rw [q,Bool.false_or];have q:=of_decide_eq_false q;exact zkt l (by omega) hz l [] rfl
def z0f (V:Option (List Int)):List Tm→List Int→Hp→(List Int×Bool)×Hp
 | [],out,s=>((out,true),s)
 | t::l,out,s=>if (encS V s t).1.2≠0 then (([],false),(encS V s t).2) else z0f V l (out++ [(encS V s t).1.1]) (encS V s t).2
abbrev tCl (x:List Int×Bool):TV:= .tup [(false,[.a (.fz (.sl false 1 (IR x.1)))]),(false,[.a (.fz (.bool x.2))])]
theorem leCl (e:Bool):TV.Le (.tup [(false,[.a (.fz .N)]),(false,[.a (.fz (.bool e))])]) (tCl ([],e)):=
 zca (xs:=[(false,[.N]),(false,[.bool e])]) (ys:=[(false,[.sl false 1 (IR [])]),(false,[.bool e])]) ⟨⟨rfl, .N 1,trivial⟩,⟨rfl, .refl _⟩,trivial⟩
theorem z64 (V:Option (List Int)){K:Nat}:∀ (l:List Tm) (out:List Int) {s:Hp},OkH s→NmB K s→Mv true s (z0f V l out s).2∧((z0f V l out s).1.2=true→NmB K (z0f V l out s).2)∧NmB (K+1048577) (z0f V l out s).2∧(z0f V l out s).1.1.length≤out.length+l.length
 | [],out,s,_,nm=>⟨.refl s,fun _=>nm,nm.of (D:=0) rfl (Nat.le_of_eq (Nat.zero_add _).symm) (by omega),by simp [z0f]⟩
 | t::l,out,s,ok,nm=>by
  have mv:=z95 V s t;have n:=zbd V t ok nm;rw [z0f];split
  · exact ⟨mv,(fun h=>by cases h),n.2,by simp⟩
  · rename_i q;obtain ⟨a1,a2,a3,a4⟩:=z64 V l (out++ [(encS V s t).1.1]) (mv.ok ok) (n.1 (by simpa using q));exact ⟨mv.trans a1,a2,a3,by simp only [List.length_append,List.length_cons,List.length_nil] at a4 ⊢;omega⟩
abbrev stClB  (l:List Tm) (out:List Int) (s:Hp) (i:Int):St:=
 if out=[] then ⟨[(0,aH 0),(1,aL l),(2, .c (.a (.fz (.z0 true)))),(8, .c (.a (.fz .N))),(9,ci i)],[(0,hp6 5 6 7 4 s),(1, .gone),(2, .gone),(3, .gone),(4, .mapz (NM s.N 0)),(5, .arz 5 (CR s.C)),(6, .arz 7 (TR s.T)),(7, .arz 1 (NR s.N))],8⟩
 else ⟨[(0,aH 0),(1,aL l),(2, .c (.a (.fz (.z0 true)))),(8, .c (.a (.osl 8 1 0 out.length))),(9,ci i)],[(0,hp6 5 6 7 4 s),(1, .gone),(2, .gone),(3, .gone),(4, .mapz (NM s.N 0)),(5, .arz 5 (CR s.C)),(6, .arz 7 (TR s.T)),(7, .arz 1 (NR s.N))]++ [(8, .arz 1 (IR out))],9⟩
theorem zld (K:Nat)(hK:K≤1000000000)  (l0:List Tm)(hl:l0.length≤1000)(hz:∀ t∈l0,t.sz≤B):∀ (b pre:List Tm) (out:List Int) (s:Hp),l0=pre++b→out.length≤pre.length→OkH s→NmB K s→
  RPt Tryz.prog 14 5 (tCl (z0f (some []) b out s).1) (oH' (z0f (some []) b out s).2) 1 (stClB  l0 out s (pre.length:Int))
 | [],pre,out,s,hp,_,ok,nm=>by
  rw [List.append_nil] at hp;have e:z0f (some []) [] out s=((out,true),s):=rfl;rw [e];unfold stClB;by_cases hn:out=[]
  · subst hn;rw [if_pos rfl];refine RPt.vc hP sh lv14 (Eq.mpr (v14_1a ..) ?_);rw [z00];exact ⟨rfl,z01 (fun h=>absurd (of_decide_eq_true h) (by rw [hp];omega)) (fun _=>⟨leCl true,rfl⟩)⟩
  · rw [if_neg hn];refine RPt.vc hP sh lv14 (Eq.mpr (v14_1b ..) ?_);rw [z00];refine ⟨rfl,z01 (fun h=>absurd (of_decide_eq_true h) (by rw [hp];omega)) (fun _=>⟨⟨rfl,by rw [z06];omega⟩, ?_,rfl⟩)⟩;rw [List.drop_zero,List.take_of_length_le (by rw [z06];exact Nat.le_refl _)];exact .refl _
 | t::b,pre,out,s,hp,ho,ok,nm=>by
  have hlen:l0.length=pre.length+(b.length+1):=by rw [hp];simp
  have em:List.getD (FTs l0) (Int.toNat (pre.length:Int)) []=FT t:=by rw [hp];exact midI pre t b
  have hE:=c_EncB K hK  t (hz t (by rw [hp];simp)) s ok nm;have mv:=z95 (some []) s t;have n:=zbd (some []) t ok nm;have eA:z0f (some []) (t::b) out s=if (encS (some []) s t).1.2≠0 then (([],false),(encS (some []) s t).2) else z0f (some []) b (out++ [(encS (some []) s t).1.1]) (encS (some []) s t).2:=rfl
  rw [eA];have nx:=fun h=>zld K hK  l0 hl hz b (pre++ [t]) (out++ [(encS (some []) s t).1.1]) (encS (some []) s t).2 (by rw [hp];simp) (by simpa using ho) (mv.ok ok) (n.1 h);rw [show (((pre++ [t]).length:Nat):Int)=(pre.length:Int)+1 by simp] at nx;generalize encS (some []) s t=z at*;unfold stClB at nx ⊢;rw [if_neg (z5b _ _),zeq,List.length_append] at nx;by_cases hn:out=[]
  · subst hn;rw [if_pos rfl];refine RPt.vc hP sh lv14 (Eq.mpr (v14_1a ..) ?_);rw [em,z00,w64 (x:=(pre.length:Int)+1) (by omega) (by omega),z4n];refine ⟨rfl,z01 (fun _=>⟨⟨rfl,by omega,by omega,z4j t⟩,z,hE,z0j (fun q=> ?_) (fun q=>⟨Nat.le_refl _,by unfold z0c;omega, ?_⟩)⟩) (fun h=>absurd (of_decide_eq_false h) (by omega))⟩
    · rw [if_pos q];exact ⟨leCl false,rfl⟩
    · rw [if_neg (fun w=>w q)];exact nx q
  · rw [if_neg hn];refine RPt.vc hP sh lv14 (Eq.mpr (v14_1b ..) ?_);rw [em,z00,w64 (x:=(pre.length:Int)+1) (by omega) (by omega),z4n];refine ⟨rfl,z01 (fun _=>⟨⟨rfl,by omega,by omega,z4j t⟩,z,hE,z0j (fun q=> ?_) (fun q=>⟨Nat.le_refl _,⟨by rw [z06];exact Nat.le_refl _,by unfold z0c;omega⟩, ?_⟩)⟩) (fun h=>absurd (of_decide_eq_false h) (by omega))⟩
    · rw [if_pos q];exact ⟨leCl false,rfl⟩
    · rw [if_neg (fun w=>w q),List.take_of_length_le (by rw [z06];exact Nat.le_refl _)];exact nx q
theorem zkc (K:Nat)(hK:K≤1000000000)  (l:List Tm)(hl:l.length≤1000)(hz:∀ t∈l,t.sz≤B)(s:Hp)(ok:OkH s)(nm:NmB K s):AC Tryz.prog 14 [aH 0,aL l, .c (.a (.fz (.z0 true)))] (oH s) (tCl (z0f (some []) l [] s).1) (oH' (z0f (some []) l [] s).2):=by
 have h:=zld K hK  l hl hz l [] [] s rfl (Nat.le_refl _) ok nm;refine AC.vc hP sh lv14 (by simp) (by simp [isLive]) (by simp [isLive]) (Eq.mpr (v14 ..) ?_);exact h
abbrev stClC (v0:Int)(vs:List Int)(l:List Tm)(out:List Int)(s:Hp)(i:Int):St:=
 if out=[] then ⟨[(0,aH 0),(1,aL l),(2, .c (.a (.osl 5 1 0 (vs.length+1)))),(8, .c (.a (.fz .N))),(9,ci i)],[(0,hp6 6 7 8 4 s),(1, .gone),(2, .gone),(3, .gone),(4, .mapz (NM s.N 0)),(5, .arz 1 (IR (v0::vs))),(6, .arz 5 (CR s.C)),(7, .arz 7 (TR s.T)),(8, .arz 1 (NR s.N))],9⟩
 else ⟨[(0,aH 0),(1,aL l),(2, .c (.a (.osl 5 1 0 (vs.length+1)))),(8, .c (.a (.osl 9 1 0 out.length))),(9,ci i)],[(0,hp6 6 7 8 4 s),(1, .gone),(2, .gone),(3, .gone),(4, .mapz (NM s.N 0)),(5, .arz 1 (IR (v0::vs))),(6, .arz 5 (CR s.C)),(7, .arz 7 (TR s.T)),(8, .arz 1 (NR s.N))]++ [(9, .arz 1 (IR out))],10⟩
theorem zlo (K:Nat)(hK:K≤1000000000)(v0:Int)(vs:List Int)(l0:List Tm)(hl:l0.length≤1000)(hz:∀ t∈l0,t.sz≤B):∀ (b pre:List Tm) (out:List Int) (s:Hp),l0=pre++b→out.length≤pre.length→OkH s→NmB K s→
  RPt Tryz.prog 14 6 (tCl (z0f (some (v0::vs)) b out s).1) (oHv' (v0::vs) (z0f (some (v0::vs)) b out s).2) 1 (stClC v0 vs l0 out s (pre.length:Int))
 | [],pre,out,s,hp,_,ok,nm=>by
  rw [List.append_nil] at hp;have e:z0f (some (v0::vs)) [] out s=((out,true),s):=rfl;rw [e];unfold stClC;by_cases hn:out=[]
  · subst hn;rw [if_pos rfl];refine RPt.vc hP sh lv14 (Eq.mpr (zg ..) ?_);rw [z00];exact ⟨rfl,z01 (fun h=>absurd (of_decide_eq_true h) (by rw [hp];omega)) (fun _=>⟨leCl true,rfl⟩)⟩
  · rw [if_neg hn];refine RPt.vc hP sh lv14 (Eq.mpr (zhz ..) ?_);rw [z00];refine ⟨rfl,z01 (fun h=>absurd (of_decide_eq_true h) (by rw [hp];omega)) (fun _=>⟨⟨rfl,by rw [z06];omega⟩, ?_,rfl⟩)⟩;rw [List.drop_zero,List.take_of_length_le (by rw [z06];exact Nat.le_refl _)];exact .refl _
 | t::b,pre,out,s,hp,ho,ok,nm=>by
  have hlen:l0.length=pre.length+(b.length+1):=by rw [hp];simp
  have em:List.getD (FTs l0) (Int.toNat (pre.length:Int)) []=FT t:=by rw [hp];exact midI pre t b
  have hE:=c_EncC K hK v0 vs t (hz t (by rw [hp];simp)) s ok nm;have mv:=z95 (some (v0::vs)) s t;have n:=zbd (some (v0::vs)) t ok nm;have eA:z0f (some (v0::vs)) (t::b) out s=if (encS (some (v0::vs)) s t).1.2≠0 then (([],false),(encS (some (v0::vs)) s t).2) else z0f (some (v0::vs)) b (out++ [(encS (some (v0::vs)) s t).1.1]) (encS (some (v0::vs)) s t).2:=rfl
  rw [eA];have nx:=fun h=>zlo K hK v0 vs l0 hl hz b (pre++ [t]) (out++ [(encS (some (v0::vs)) s t).1.1]) (encS (some (v0::vs)) s t).2 (by rw [hp];simp) (by simpa using ho) (mv.ok ok) (n.1 h);rw [show (((pre++ [t]).length:Nat):Int)=(pre.length:Int)+1 by simp] at nx;generalize encS (some (v0::vs)) s t=z at*;unfold stClC at nx ⊢;rw [if_neg (z5b _ _),zeq,List.length_append] at nx;by_cases hn:out=[]
  · subst hn;rw [if_pos rfl];refine RPt.vc hP sh lv14 (Eq.mpr (zg ..) ?_);rw [em,z00,w64 (x:=(pre.length:Int)+1) (by omega) (by omega),z4n];refine ⟨rfl,z01 (fun _=>⟨⟨rfl,by omega,by omega,z4j t⟩,z,hE,z0j (fun q=> ?_) (fun q=>⟨Nat.le_refl _,by unfold z0c;omega, ?_⟩)⟩) (fun h=>absurd (of_decide_eq_false h) (by omega))⟩
    · rw [if_pos q];exact ⟨leCl false,rfl⟩
    · rw [if_neg (fun w=>w q)];exact nx q
  · rw [if_neg hn];refine RPt.vc hP sh lv14 (Eq.mpr (zhz ..) ?_);rw [em,z00,w64 (x:=(pre.length:Int)+1) (by omega) (by omega),z4n];refine ⟨rfl,z01 (fun _=>⟨⟨rfl,by omega,by omega,z4j t⟩,z,hE,z0j (fun q=> ?_) (fun q=>⟨Nat.le_refl _,⟨by rw [z06];exact Nat.le_refl _,by unfold z0c;omega⟩, ?_⟩)⟩) (fun h=>absurd (of_decide_eq_false h) (by omega))⟩
    · rw [if_pos q];exact ⟨leCl false,rfl⟩
    · rw [if_neg (fun w=>w q),List.take_of_length_le (by rw [z06];exact Nat.le_refl _)];exact nx q
theorem zla (K:Nat)(hK:K≤1000000000)(v0:Int)(vs:List Int)(l:List Tm)(hl:l.length≤1000)(hz:∀ t∈l,t.sz≤B)(s:Hp)(ok:OkH s)(nm:NmB K s):AC Tryz.prog 14 [aH 0,aL l, .c (.a (.osl 5 1 0 (vs.length+1)))] (oHv (v0::vs) s) (tCl (z0f (some (v0::vs)) l [] s).1) (oHv' (v0::vs) (z0f (some (v0::vs)) l [] s).2):=by
 have h:=zlo K hK v0 vs l hl hz l [] [] s rfl (Nat.le_refl _) ok nm;refine AC.vc hP sh lv14 (by simp) (by simp [isLive]) (by simp [isLive]) (Eq.mpr (v14_i1 ..) ?_);exact h
end Go.AM
