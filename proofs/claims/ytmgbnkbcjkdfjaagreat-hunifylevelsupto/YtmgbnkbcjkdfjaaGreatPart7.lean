/- Contracts of the code's functions over plain values, and plain laws: part 7. No conditions. -/
import Derived.Test.YtmgbnkbcjkdfjaaGreatPart6
import Derived.Test.YtmgbnkbcjkdfjaaGreatPart3
import Derived.Test.YtmgbnkbcjkdfjaaGreatPart2
import Derived.Test.YtmgbnkbcjkdfjaaGreatRows
set_option maxRecDepth 100000
open Go Go.Proofs
namespace Go.AM
theorem zpj (s:Hp)(lv:Int):(z09 s lv).1.2=0∨(z09 s lv).1.2=200:=by
 unfold z09 putS;split
 · rename_i q;exfalso
   have:z20 s ⟨4,foldMax [lv,0],0,0,0⟩=true:=by
    unfold z20;simp only [foldMax,List.foldl];simp;omega
   rw [this] at q;cases q
 · split
   · exact .inr rfl
   · exact .inl rfl
mutual
theorem zey {p:Int→Int→Bool}:∀ (t:Tm) (d acc:Int),0≤acc→wG p t d=true→z2r t d acc=acc
 | .mk k s n l,d,acc,h0,h=>by
  rw [z57] at h;by_cases h5:k=5
  · subst h5;rw [z2r,if_pos (by decide)];have h2:=h.2 (.inl rfl);rw [if_pos (by decide)] at h2;exact zc2 l (d+1) acc h0 h2
  · by_cases h6:k=6
    · subst h6;rw [z2r,if_neg (by decide),if_pos (by decide)];have h2:=h.2 (.inr rfl);rw [if_neg (by decide),Int.add_zero] at h2;exact zc2 l d acc h0 h2
    · rw [z2r,if_neg (by simpa using h5),if_neg (by simpa using h6)];split
      · rename_i q;have q:k=3:=by simpa using q
        have h1:=h.1;unfold gB at h1;rw [if_pos q] at h1;have:=of_decide_eq_true h1;unfold maxI;split<;>omega
      · rfl
theorem zc2 {p:Int→Int→Bool}:∀ (l:List Tm) (d acc:Int),0≤acc→(∀ t∈l,wG p t d=true)→z5m l d acc=acc
 | [],_,_,_,_=>rfl
 | t::l,d,acc,h0,h=>by
  rw [z5m,zey t d acc h0 (h t List.mem_cons_self)];exact zc2 l d acc h0 fun u hu=>h u (List.mem_cons_of_mem _ hu)
end
mutual
theorem zhd (M:Int):∀ (t:Tm) (k acc:Int),okB t=true→z07 t=true→0≤k→k+(t.sz:Int)≤M→z2r t k acc≤0→bd M t∧kB t=true
 | .mk kd s n l,k,acc,hok,hv,hk,hM,h=>by
  simp only [Tm.sz] at hM;by_cases h56:kd=5∨kd=6
  · have hkid:=zm hv h56
    have hokl:∀ u∈l,okB u=true:=fun u hu=>by
     simp only [okB,Bool.and_eq_true] at hok;exact z54 hok.2 hu
    have key:∃ e,k≤e∧e≤k+1∧z5m l e acc≤0:=by
     rcases h56 with rfl | rfl
     · rw [z2r,if_pos (by decide)] at h;exact ⟨k+1,by omega,by omega,h⟩
     · rw [z2r,if_neg (by decide),if_pos (by decide)] at h;exact ⟨k,by omega,by omega,h⟩
    obtain ⟨e,e1,e2,e3⟩:=key;obtain ⟨b1,b2⟩:=zbc M l e acc hokl (fun u hu=>z6l hkid hu) (by omega) (by omega) e3;refine ⟨⟨fun q=>by omega,b1⟩, ?_⟩;rw [kB,b2];rcases h56 with rfl | rfl<;>rfl
  · have hl:=okB0 hok (fun q=>h56 (.inl q)) (fun q=>h56 (.inr q));subst hl;refine ⟨⟨fun q=> ?_,trivial⟩,by simp [kB,kBL]⟩;subst q;rw [z2r,if_neg (by decide),if_neg (by decide),if_pos (by decide)] at h
    have hn:0≤n:=by
     rw [z07,if_neg (by decide),if_neg (by decide),if_neg (by decide),if_pos (by decide)] at hv;simp only [Bool.and_eq_true,decide_eq_true_eq] at hv;exact hv.1.1.1.1
    have:n-k+1≤0:=by unfold maxI at h;split at h<;>omega
    omega
theorem zbc (M:Int):∀ (l:List Tm) (k acc:Int),(∀ u∈l,okB u=true)→(∀ u∈l,z07 u=true)→0≤k→k+(Tm.szs l:Int)≤M→z5m l k acc≤0→bds M l∧kBL l=true
 | [],_,_,_,_,_,_,_=>⟨trivial,rfl⟩
 | t::l,k,acc,ho,hv,hk,hM,h=>by
  rw [z5m] at h;have h1:=z6u l k (z2r t k acc);simp only [Tm.szs] at hM;obtain ⟨a1,a2⟩:=zhd M t k acc (ho t List.mem_cons_self) (hv t List.mem_cons_self) hk (by omega) (by omega);obtain ⟨b1,b2⟩:=zbc M l k _ (fun u hu=>ho u (List.mem_cons_of_mem _ hu)) (fun u hu=>hv u (List.mem_cons_of_mem _ hu)) hk (by omega) h;exact ⟨⟨a1,b1⟩,by rw [kBL,a2,b2];rfl⟩
theorem zr1:∀ (t:Tm) (k acc:Int),acc≤z2r t k acc
 | .mk kd s n l,k,acc=>by
  rw [z2r];split
  · exact z6u l _ acc
  · split
    · exact z6u l _ acc
    · split
      · unfold maxI;split<;>omega
      · exact Int.le_refl _
theorem z6u:∀ (l:List Tm) (k acc:Int),acc≤z5m l k acc
 | [],_,_=>Int.le_refl _
 | t::l,k,acc=>by
  rw [z5m];have h1:=zr1 t k acc;have h2:=z6u l k (z2r t k acc);omega
end
theorem full5 {s:Hp}{Y:List Lb}(h:LG s Y){a v:Int}(k:Kid Y a v 0):∃ E,LG (z1e s a 5000).2 (Y++E)∧NF s (z1e s a 5000).2∧((z1e s a 5000).1.2.2=0→GT (pv (z1e s a 5000).2 v) (z1e s a 5000).1.1 0∧(z1e s a 5000).1.1.sz≤100000):=by
 obtain ⟨E,a1,a2,a3⟩:=zkl h k 5000;have okr:OkR ⟨s,5000,0⟩:=⟨h.ok,by dsimp only;omega,by dsimp only;omega⟩;have g:=(zc3 (2*(5000:Int).toNat+2) ((5000:Int).toNat+1) 5000 (Nat.le_refl _) (by decide) ⟨s,5000,0⟩ a okr (Int.le_refl _)).2.2;have sz:=zgh (fulR (2*(5000:Int).toNat+2) ((5000:Int).toNat+1) ⟨s,5000,0⟩ a).1
 have hz:(z1e s a 5000).1.1.sz≤100000:=by
  unfold z1e;split
  · show t0.sz≤_;decide
  · show (if _ then _ else _:Tm).sz≤_
    have:(5000:Int).toNat=5000:=rfl;dsimp only at g;omega
 refine ⟨E,a1,a2,fun e=>⟨?_,hz⟩⟩;obtain ⟨w1,w2⟩:=a3 e;rcases w2 with hv | w2
 · obtain ⟨b1,b2⟩:=zhd 2305843009213693952 (z1e s a 5000).1.1 0 0 (z4c _ hv) hv (Int.le_refl _) (by omega) (Int.le_of_eq (zey _ 0 0 (Int.le_refl _) w1));exact ⟨w1,b1,b2⟩
 · exact w2
theorem near_wG {v:Int}(hv1:1000≤v):∀ (t:Tm),near 1000 t=true→z07 t=true→∀ d:Int,1001≤d→wG (pq (fun n=>decide (0≤n)) v) t d=true:=by
 refine Tm.ind fun t ih=> ?_;obtain ⟨k,s,n,l⟩:=t;intro hn hv d hd
 have hne:(k=2∨n≤1000)∧zga 1000 l=true:=by
  rw [near,Bool.and_eq_true] at hn;have h1:=hn.1;simp at h1;exact ⟨by omega,hn.2⟩
 have hl:∀ (l:List Tm),zga 1000 l=true→∀ u∈l,near 1000 u=true:=by
  intro l
  induction l with
  | nil=>intro _ u hu;cases hu
  | cons x l ih=>
   intro h u hu;rw [zga,Bool.and_eq_true] at h;rcases List.mem_cons.1 hu with rfl | hu
   · exact h.1
   · exact ih h.2 u hu
 have hle:k≠2→n≤1000:=fun h=>hne.1.resolve_left h;rw [z57];refine ⟨?_,fun h56 u hu=>ih u hu (hl l hne.2 u hu) (z6l (zm hv h56) hu) _ (by split<;>omega)⟩;unfold gB;split
 · rename_i q;exact decide_eq_true (by have:=hle (by omega);omega)
 · rename_i q3;by_cases q4:k=4
   · subst q4;have h0:0≤n:=by rw [z07] at hv;simp at hv;exact hv.1.1.1.1
     have:pq (fun n=>decide (0≤n)) v 4 n=true:=by unfold pq;rw [if_neg (by decide)];exact decide_eq_true h0
     rw [this,Bool.or_true]
   · by_cases q1:k=1
     · subst q1;have:pq (fun n=>decide (0≤n)) v 1 n=true:=by unfold pq;rw [if_pos rfl];exact decide_eq_true (by have:=hle (by decide);omega)
       rw [this,Bool.or_true]
     · simp [q4,q1]
theorem zc8 {vs:List Int}{v:Int}(hv1:1000≤v):∀ (l:List Tm) (out:List Int) (s:Hp) (Y:List Lb),LG s Y→(∀ a∈vs,Kid Y a v 0)→(∀ t∈l,near 1000 t=true∧t.sz≤1000000000)→(z0f (some vs) l out s).1.2=true→
  (∃ E,LG (z0f (some vs) l out s).2 (Y++E))∧(z0f (some vs) l out s).1.1.length=out.length+l.length
 | [],out,s,Y,h,_,_,_=>⟨⟨[],by rw [List.append_nil];exact h⟩,rfl⟩
 | t::l,out,s,Y,h,hvs,hl,e=>by
  have hV:∀ C n,(fun n=>decide (0≤n)) n=true→0≤n→(varE (some vs) C n).2=0→Kid Y (varE (some vs) C n).1 v 0:=fun C n _ h0 he=>by
   unfold varE at he ⊢;dsimp only at he ⊢;split at he
   · exact absurd he (by show¬(1:Int)=0;decide)
   · rename_i q;rw [if_neg q];split at he
     · rename_i q2;rw [if_pos q2];refine hvs _ ?_;have hlt:n.toNat<vs.length:=by omega
       rw [show vs.getD n.toNat 0=vs[n.toNat] by simp [List.getD,hlt]];exact List.getElem_mem _
     · exact absurd he (by show¬(1:Int)=0;decide)
  rw [z0f] at e ⊢;split
  · rename_i q;rw [if_pos q] at e;cases e
  · rename_i q;rw [if_neg q] at e;have q:(encS (some vs) s t).1.2=0:=by simpa using q
    have hv:z07 t=true:=by
     cases hb:z07 t with
     | true=>rfl
     | false=>
      exfalso;unfold encS at q;rw [if_pos hb] at q;exact absurd q (by show¬(1:Int)=0;decide)
    have ht:=hl t List.mem_cons_self;obtain ⟨E,a1,a2,a3⟩:=zo6 (V:=some vs) (v:=v) (q:=fun n=>decide (0≤n)) h hV t (d:=1001) (by omega) (near_wG hv1 t ht.1 hv 1001 (by omega)) (by omega) q;generalize encS (some vs) s t=z at*;obtain ⟨⟨F,b1⟩,b2⟩:=zc8 hv1 l (out++ [z.1.1]) z.2 (Y++E) a1 (fun a ha=>(hvs a ha).app E) (fun u hu=>hl u (List.mem_cons_of_mem _ hu)) e;exact ⟨⟨E++F,by rw [←List.append_assoc];exact b1⟩,by rw [b2];simp;omega⟩
def vM:List Int→Int
 | []=>1000
 | x::l=>if vM l≤x then x else vM l
theorem vM_ge:∀ l:List Int,1000≤vM l
 | []=>Int.le_refl _
 | x::l=>by have:=vM_ge l;rw [vM];split<;>omega
theorem vM_mem:∀ {l:List Int} {x:Int},x∈l→foldMax [x,0]≤vM l
 | y::l,x,h=>by
  have g:=vM_ge l;rw [vM];rcases List.mem_cons.1 h with rfl | h
  · simp only [foldMax,List.foldl];split<;>omega
  · have:=vM_mem h;split<;>omega
end Go.AM

set_option maxRecDepth 100000
open Go Go.Proofs
namespace Go.AM
abbrev zqa (a b:Nat)(s:Sto):AObj:= .arr 2 [[.a (.osl a 6 0 s.V.length), .a (.osl b 1 0 s.T.length)]]
def z3o (s:Sto)(lv:Int):Sto:=⟨s.V++ [⟨foldMax [lv,0],false,noT⟩],s.T⟩
theorem zrr (l:List Inf):(SR l).length=l.length:=by simp [SR]
theorem zou {n:Nat}{fs gs:List (List FV)}(hl:gs.length=fs.length)(h:∀ (i:Nat) (e e':List FV),fs[i]? =some e→gs[i]? =some e'→LeR e e'):OLe (.arz n fs) (.arz n gs):=
 .rows n fs gs (by omega) (fun i e e' he he'=>(h i e e' he he').length) (fun i j e e' f f' he he' hf hf'=>(h i e e' he he').get j f f' hf hf')
theorem ole_appL {n:Nat}{a:List (List FV)}{x y:List FV}(h:LeR x y):OLe (.arz n (a++ [x])) (.arz n (a++ [y])):=by
 refine zou (by simp) fun i e e' he he'=> ?_;by_cases q:i<a.length
 · rw [List.getElem?_append_left q] at he he';rw [he] at he';injection he' with he';subst he';exact LeR.refl _
 · rw [List.getElem?_append_right (by omega)] at he he';cases hi:i-a.length with
   | zero=>rw [hi] at he he';simp at he he';subst he;subst he';exact h
   | succ k=>rw [hi] at he;simp at he
theorem zfv (s:Sto)(lv:Int)(h:s.V.length≤1073741824):AC Tryz.prog 61 [.c (.a (.ep 0 2 0 0)),ci lv] [zqa 1 2 s, .arz 6 (SR s.V), .arz 1 (IR s.T)] (ci (s.V.length:Int)) [zqa 3 4 (z3o s lv), .gone, .gone, .arz 6 (SR (z3o s lv).V), .arz 1 (IR s.T)]:=by
 have hrow:LeR [.int .i64 (foldMax [lv,0]), .bool false, .int .i64 0, .str [], .int .i64 0, .N] (Inf.c ⟨foldMax [lv,0],false,noT⟩):=⟨.refl _, .refl _, .refl _, .refl _, .refl _,z2s,trivial⟩;have hV:(z3o s lv).V.length=s.V.length+1:=by simp [z3o]
 have hSR:SR (z3o s lv).V=SR s.V++ [Inf.c ⟨foldMax [lv,0],false,noT⟩]:=by simp [SR,z3o]
 refine AC.obj (Hs':=[.arr 2 [[.a (.osl 3 6 0 (s.V.length+1)), .a (.osl 4 1 0 s.T.length)]], .gone, .gone, .arz 6 (SR s.V++ [[.int .i64 (foldMax [lv,0]), .bool false, .int .i64 0, .str [], .int .i64 0, .N]]), .arz 1 (IR s.T)]) ?_ ⟨by rw [zqa,hV];exact .refl _, .refl _, .refl _,by rw [hSR];exact ole_appL hrow, .refl _,trivial⟩;refine AC.vc hP sh lv61 (by simp) (by simp [isLive]) (by simp [isLive]) (Eq.mpr (v61 ..) ?_);rw [w64 (x:=(((s.V.length+1:Nat):Int)-1)) (by omega) (by omega),List.take_of_length_le (by rw [zrr];omega)];exact ⟨by omega,⟨by rw [zrr];omega,by unfold z0c;omega⟩,by rw [show (((s.V.length+1:Nat):Int)-1)=(s.V.length:Int) by omega];exact .refl _,rfl⟩
def layZ:List Int→List Int→Hp→Sto→List Int×Hp×Sto
 | [],vs,s,q=>(vs,s,q)
 | x::l,vs,s,q=>layZ l (vs++ [(z09 s x).1.1]) (z09 s x).2 (z3o q x)
abbrev hpL (s:Hp)(q:Sto):AHeap:=hpZ s++ [(5,zqa 6 7 q),(6, .arz 6 (SR q.V)),(7, .arz 1 (IR q.T))]
abbrev obL (s:Hp)(q:Sto):List AObj:=[hp6 1 2 3 4 s, .arz 5 (CR s.C), .arz 7 (TR s.T), .arz 1 (NR s.N), .mapz (NM s.N 0),zqa 6 7 q, .arz 6 (SR q.V), .arz 1 (IR q.T)]
abbrev tL3 (v:WV):TV:= .tup [(false,[.a (.ep 0 6 0 0)]),(false,[.a (.ep 5 2 0 0)]),(false,[v])]
theorem l_laid (ls:List Int)(hls:ls.length≤1000):∀ (b pre vs:List Int) (s:Hp) (q:Sto),ls=pre++b→vs ≠ []→vs.length=pre.length→q.V.length=pre.length→OkH s→
  RPt Tryz.prog 13 0 (tL3 (.a (.osl 8 1 0 (layZ b vs s q).1.length))) (obL (layZ b vs s q).2.1 (layZ b vs s q).2.2++ [.arz 1 (IR (layZ b vs s q).1)]) 1 ⟨[(0,aIs ls),(5,aH 0),(6, .c (.a (.ep 5 2 0 0))),(7, .c (.a (.osl 8 1 0 vs.length))),(8,ci (pre.length:Int))],hpL s q++ [(8, .arz 1 (IR vs))],9⟩
 | [],pre,vs,s,q,hp,_,_,_,_=>by
  rw [List.append_nil] at hp;refine RPt.vc hP sh lv13 (Eq.mpr (v13_1b ..) ?_);rw [z06];exact ⟨rfl,z01 (fun h=>absurd (of_decide_eq_true h) (by rw [hp];omega)) (fun _=>⟨.refl _,rfl⟩)⟩
 | x::b,pre,vs,s,q,hp,hn,hv,hq,ok=>by
  have hF:=za5 s ok x
  have hR:=zfv q x (by rw [hq];have:pre.length≤ls.length:=by rw [hp];simp
                       omega)
  have mv:Mv false s (z09 s x).2:= .put _ (.refl _);have ih:=l_laid ls hls b (pre++ [x]) (vs++ [(z09 s x).1.1]) (z09 s x).2 (z3o q x) (by rw [hp];simp) (z5b _ _) (by simp [hv]) (by simp [z3o,hq]) (mv.ok ok);rw [show (((pre++ [x]).length:Nat):Int)=(pre.length:Int)+1 by simp,zeq,List.length_append] at ih;have hlen:ls.length=pre.length+(b.length+1):=by rw [hp];simp
  have em:List.getD (IR ls) (Int.toNat (pre.length:Int)) []=[.int .i64 x]:=by rw [hp];exact zb9 pre x b
  have hlt:(pre.length:Int)<(((IR ls).length:Nat):Int):=by rw [z06];omega
  have e0:layZ (x::b) vs s q=layZ b (vs++ [(z09 s x).1.1]) (z09 s x).2 (z3o q x):=rfl;rw [e0];refine RPt.vc hP sh lv13 (Eq.mpr (v13_1b ..) ?_);rw [em,w64 (x:=(pre.length:Int)+1) (by omega) (by omega),List.take_of_length_le (l:=IR vs) (by rw [z06];exact Nat.le_refl _)];generalize z09 s x=z at*;obtain ⟨⟨z1,z2⟩,zs⟩:=z;exact ⟨rfl,z01 (fun _=>⟨⟨rfl,by omega,hlt,rfl⟩,(z1,z2,zs),hF,Nat.le_refl _,⟨by rw [z06];exact Nat.le_refl _,by unfold z0c;omega⟩,⟨rfl,by omega,hlt,rfl⟩,(_,z3o q x),hR,ih⟩) (fun h=>absurd hlt (of_decide_eq_false h))⟩
abbrev hn6:Hp:=⟨[],[],z0k [foldMax [1000000,0],1048576],z0k [foldMax [1000000,0],1048576],[]⟩
theorem zdi:OkH hn6:=⟨by simp,by decide,by simp,by decide⟩
theorem c_laid0:AC Tryz.prog 13 [aIs []] [] (tL3 (.a (.fz (.z0 true)))) (obL hn6 ⟨[],[]⟩):=by
 have hn:=zq1 1000000 1000000;refine AC.vc hP sh lv13 (by simp) (by simp) (by simp [isLive]) (Eq.mpr (v13 ..) ?_);refine ⟨_,hn,RPt.vc hP sh lv13 (Eq.mpr (v13_1a ..) ?_)⟩;exact ⟨rfl,z01 (fun h=>absurd (of_decide_eq_true h) (by decide)) (fun _=>⟨.refl _,rfl⟩)⟩
theorem c_laid (x:Int)(l:List Int)(hl:l.length≤900):AC Tryz.prog 13 [aIs (x::l)] [] (tL3 (.a (.osl 8 1 0 (layZ (x::l) [] hn6 ⟨[],[]⟩).1.length))) (obL (layZ (x::l) [] hn6 ⟨[],[]⟩).2.1 (layZ (x::l) [] hn6 ⟨[],[]⟩).2.2++ [.arz 1 (IR (layZ (x::l) [] hn6 ⟨[],[]⟩).1)]):=by
 have hn:=zq1 1000000 1000000;have hF:=za5 hn6 zdi x;have hR:=zfv ⟨[],[]⟩ x (by simp);have mv:Mv false hn6 (z09 hn6 x).2:= .put _ (.refl _);have nx:=l_laid (x::l) (by simp;omega) l [x] [(z09 hn6 x).1.1] (z09 hn6 x).2 (z3o ⟨[],[]⟩ x) rfl (by simp) rfl rfl (mv.ok zdi);have e0:layZ (x::l) [] hn6 ⟨[],[]⟩=layZ l [(z09 hn6 x).1.1] (z09 hn6 x).2 (z3o ⟨[],[]⟩ x):=rfl;rw [e0];have hlt:((0:Nat):Int)<(((IR (x::l)).length:Nat):Int):=by rw [z06];simp only [List.length_cons];omega
 generalize z09 hn6 x=z at*;obtain ⟨⟨z1,z2⟩,zs⟩:=z;refine AC.vc hP sh lv13 (by simp) (by simp) (by simp [isLive]) (Eq.mpr (v13 ..) ?_);refine ⟨_,hn,RPt.vc hP sh lv13 (Eq.mpr (v13_1a ..) ?_)⟩;exact ⟨rfl,z01 (fun _=>⟨⟨rfl,Int.le_refl _,hlt,rfl⟩,(z1,z2,zs),hF,Nat.le_refl _,by unfold z0c;omega,⟨rfl,Int.le_refl _,hlt,rfl⟩,(_,z3o ⟨[],[]⟩ x),hR,nx⟩) (fun h=>absurd hlt (of_decide_eq_false h))⟩
structure Gd (K:Nat)(ls vs:List Int)(s:Hp)(Y:List Lb):Prop where
 g:LG s Y
 z:GoodZ s
 n:NmB K s
 k:∀ (i:Nat) (x a:Int),ls[i]? =some x→vs[i]? =some a→Kid Y a (foldMax [x,0]) 0
theorem lay_ok:∀ (b pre vs:List Int) (s:Hp) (q:Sto) (Y:List Lb),vs.length=pre.length→s.C.length+b.length<900000→s.M=1000000→Gd 0 pre vs s Y→
  ∃ Z,Gd 0 (pre++b) (layZ b vs s q).1 (layZ b vs s q).2.1 Z∧(layZ b vs s q).1.length=(pre++b).length
 | [],pre,vs,s,q,Y,hv,_,_,g=>⟨Y,by rw [List.append_nil];exact g,by rw [List.append_nil];exact hv⟩
 | x::b,pre,vs,s,q,Y,hv,hC,hM,g=>by
  have mv:Mv false s (z09 s x).2:= .put _ (.refl _)
  have e0:(z09 s x).1.2=0:=by
   rcases zpj s x with e | e
   · exact e
   · exfalso;unfold z09 putS at e;split at e
     · exact absurd e (by show¬(1:Int)=200;decide)
     · split at e
       · rename_i q;simp only [List.length_cons] at hC;omega
       · exact absurd e (by show¬(0:Int)=200;decide)
  have hl:(z09 s x).2.C.length≤s.C.length+1:=by
   unfold z09;rcases zjc s ⟨4,foldMax [x,0],0,0,0⟩ with e | e<;>rw [e]<;>simp
  obtain ⟨E,a1,a2,a3⟩:=zr0 g.g (foldMax [x,0]) e0;have a1:LG (z09 s x).2 (Y++E):=a1;have a3:Kid (Y++E) (z09 s x).1.1 (foldMax [x,0]) 0:=a3;have hM2:=mv.len.2.1;have gn:=mv.nm g.n;have gz:=g.z.mv mv;have e1:layZ (x::b) vs s q=layZ b (vs++ [(z09 s x).1.1]) (z09 s x).2 (z3o q x):=rfl;rw [e1];generalize z09 s x=z at*
  have r:=lay_ok b (pre++ [x]) (vs++ [z.1.1]) z.2 (z3o q x) (Y++E) (by simp [hv]) (by simp only [List.length_cons] at hC;omega) (by rw [hM2];exact hM) ⟨a1,gz,gn,fun i y a h1 h2=>by
   by_cases hi:i<pre.length
   · rw [List.getElem?_append_left hi] at h1;rw [List.getElem?_append_left (by omega)] at h2;exact (g.k i y a h1 h2).app E
   · rw [List.getElem?_append_right (by omega)] at h1 h2;by_cases hi2:i=pre.length
     · rw [hi2,Nat.sub_self] at h1;rw [hi2,hv,Nat.sub_self] at h2;simp only [List.getElem?_cons_zero,Option.some.injEq] at h1 h2;subst h1;subst h2;exact a3
     · rw [List.getElem?_eq_none (by simp;omega)] at h1;cases h1⟩
  simpa [List.append_assoc] using r
theorem Gd.app {K:Nat}{ls vs:List Int}{s:Hp}{Y:List Lb}(g:Gd K ls vs s Y){K':Nat}{t:Hp}{E:List Lb}(h:LG t (Y++E))(hz:GoodZ t)(hn:NmB K' t):Gd K' ls vs t (Y++E):=⟨h,hz,hn,fun i x a h1 h2=>(g.k i x a h1 h2).app E⟩
theorem zm4 (s:Hp)(lv:Int):∀ t:Tm,t.sz≤B→kB t=true→∀ d:Int,wG (pv s lv) t d=true→AC Tryz.prog 31 [aH 0,aT t,ci lv] (oH s) (cb true) (oH s):=by
 refine Tm.ind fun t ih=> ?_;obtain ⟨k,nm,n,l⟩:=t;intro hz hk d hw;have hs:Tm.szs l≤B:=by simp only [Tm.sz] at hz;omega
 rw [kB,Bool.and_eq_true] at hk;have hkid:=zex.1 hk.2;have hw2:=(z57.1 hw).2
 have hkind:∀ t∈l,∃ e,wG (pv s lv) t e=true:=fun t ht=>by
  by_cases h56:k=5∨k=6
  · exact ⟨_,hw2 h56 t ht⟩
  · exfalso;have:=hk.1;cases l with
    | nil=>cases ht
    | cons x l=>simp at this;exact h56 this
 have lp:∀ (b pre:List Tm),l=pre++b→RPt Tryz.prog 31 5 (cb true) (oH s) 1 ⟨[(0,aH 0),(2,ci lv),(4, .c (.a (.ep 5 4 0 0))),(9,ci (pre.length:Int))],hpZ s++ [(5, .arr 4 [[.a (.fz (.int .i64 k)), .a (.fz (.str nm)), .a (.fz (.int .i64 n)), .a (.fz (.sl false 4 (FTs l)))]])],6⟩:=by
  intro b
  induction b with
  | nil=>
   intro pre hp;rw [List.append_nil] at hp;refine RPt.vc hP sh lv31 (Eq.mpr (v31_1a ..) ?_);rw [z00];exact ⟨rfl,z01 (fun h=>absurd (of_decide_eq_true h) (by rw [hp];omega)) (fun _=>⟨.refl _,rfl⟩)⟩
  | cons u b ihb=>
   intro pre hp;have nx:=ihb (pre++ [u]) (by rw [hp];simp);rw [show (((pre++ [u]).length:Nat):Int)=(pre.length:Int)+1 by simp] at nx;have hm:u∈l:=by rw [hp];simp
   have hlen:l.length=pre.length+(b.length+1):=by rw [hp];simp
   have hll:=Tm.szs_length l;have em:List.getD (FTs l) (Int.toNat (pre.length:Int)) []=FT u:=by rw [hp];exact midI pre u b
   obtain ⟨e,he⟩:=hkind u hm;have hc:=ih u hm (Nat.le_trans (Tm.szs_mem hm) hs) (hkid u hm) e he;simp only [B] at hs;refine RPt.vc hP sh lv31 (Eq.mpr (v31_1a ..) ?_);rw [em,z00,w64 (x:=(pre.length:Int)+1) (by omega) (by omega),z4n];exact ⟨rfl,z01 (fun _=>⟨⟨rfl,by omega,by omega,z4j u⟩,true,hc,z01 (fun q=>by cases q) (fun _=>nx)⟩) (fun h=>absurd (of_decide_eq_false h) (by omega))⟩
 have lp0:=lp l [] rfl;have hc:=z41 s n
 have p1:k=1→n≤lv:=fun e=>by
  have:=znt hw (.inr e);unfold pv at this;rw [if_pos (show (Tm.mk k nm n l).k=1 from e)] at this;exact of_decide_eq_true this
 have p4:k=4→inC s.C n=true∧(cellOf s.C n).t=4∧(cellOf s.C n).a≤lv:=fun e=>by
  have:=znt hw (.inl e);unfold pv at this;rw [if_neg (by show¬k=1;omega)] at this;simp only [Bool.and_eq_true,beq_iff_eq,decide_eq_true_eq] at this;exact ⟨this.1.1,this.1.2,this.2⟩
 refine AC.vc hP sh lv31 (Nat.le_refl _) (by simp [isLive]) (by simp) (Eq.mpr (v31 k nm n (FTs l) ..) ?_);refine z04 (fun e1=>z01 (fun q=>absurd (of_decide_eq_true q) (by have:=p1 e1;omega)) (fun _=>z04 (fun e4=>absurd (e1.symm.trans e4) (by decide)) (fun _=>lp0))) (fun _=>z04 (fun e4=> ?_) (fun _=>lp0));obtain ⟨a1,a2,a3⟩:=p4 e4;refine ⟨_,_,_,_,_,_,hc,z01 (fun q=> ?_) (fun _=>z0j (fun q=>absurd a2 q) (fun _=>z01 (fun q=>absurd (of_decide_eq_true q) (by omega)) (fun _=>lp0)))⟩;rw [a1] at q;cases q
theorem l_lv5 (K:Nat)(ls vs:List Int)(hv:vs.length=ls.length)(hls:ls.length≤1000):∀ (b pre:List Int) (s:Hp) (Y:List Lb),vs=pre++b→vs ≠ []→Gd K ls vs s Y→
  RPt Tryz.prog 7 0 (cb true) [] 5 ⟨[(0,aIs ls),(7,cb true),(10,aH 0),(12, .c (.a (.osl 5 1 0 vs.length))),(18,ci (pre.length:Int))],hpZ s++ [(5, .arz 1 (IR vs))],6⟩
 | [],pre,s,Y,hp,_,_=>by
  rw [List.append_nil] at hp;refine RPt.vc hP sh lv7 (Eq.mpr (v7_5b ..) ?_);exact z01 (fun h=>absurd (of_decide_eq_true h) (by rw [hp];omega)) (fun _=>z0a rfl)
 | a::b,pre,s,Y,hp,hn,g=>by
  have hlen:vs.length=pre.length+(b.length+1):=by rw [hp];simp
  have hi:pre.length<ls.length:=by omega
  have hx:ls[pre.length]? =some ls[pre.length]:=List.getElem?_eq_getElem hi;have ha:vs[pre.length]? =some a:=by rw [hp];simp
  have kd:=g.k _ _ _ hx ha;obtain ⟨E,a1,a2,a3⟩:=full5 g.g kd;have hF:=zj5 s a 5000 g.g.ok (by omega) (by omega);have mvf:=(zfo s a 5000 (by omega)).1;have nx:=l_lv5 K ls vs hv hls b (pre++ [a]) (z1e s a 5000).2 (Y++E) (by rw [hp];simp) hn (g.app a1 (g.z.mv mvf) (mvf.nm g.n));rw [show (((pre++ [a]).length:Nat):Int)=(pre.length:Int)+1 by simp] at nx;have em:List.getD (IR vs) (0+Int.toNat (pre.length:Int)) []=[.int .i64 a]:=by rw [Nat.zero_add,hp];exact zb9 pre a b
  have em2:List.getD (IR ls) (Int.toNat (pre.length:Int)) []=[.int .i64 ls[pre.length]]:=by rw [Int.toNat_natCast];exact z2m hi
  have hlt:(pre.length:Int)<(((IR ls).length:Nat):Int):=by rw [z06];omega
  generalize ls[pre.length]=x at*;generalize z1e s a 5000=z at*;obtain ⟨⟨t,f,e⟩,s1⟩:=z;dsimp only at*;refine RPt.vc hP sh lv7 (Eq.mpr (v7_5b ..) ?_);rw [em,em2,w64 (x:=(pre.length:Int)+1) (by omega) (by omega)];refine z01 (fun _=>⟨⟨by omega,by omega⟩,⟨by rw [z06];omega,rfl,rfl⟩,(t,f,e,s1),hF,z0j (fun _=>nx) (fun q=> ?_)⟩) (fun h=>absurd (of_decide_eq_false h) (by omega));obtain ⟨gt,hz⟩:=a3 q;have hw:=zm4 s1 (foldMax [x,0]) t (by simp only [B];omega) gt.k 0 gt.w;have hl:=c_loose t (by simp only [B];omega) gt.b;rw [zey t 0 0 (Int.le_refl _) gt.w] at hl;exact ⟨⟨rfl,by omega,hlt,rfl⟩,true,hw,z01 (fun q=>by cases q) (fun _=>⟨0,hl,z0j (fun q=>absurd rfl q) (fun _=>nx)⟩)⟩
theorem l_lv1 (D:Nat)(hD:D=2097154)(ls vs:List Int)(hv:vs.length=ls.length)(hls:ls.length≤1000)(x y:List Int)(hxy:x.length=y.length)(hx:x.length≤400):∀ (b pre c d:List Int) (s:Hp) (Y:List Lb),x=pre++b→y=d++c→d.length=pre.length→Gd (pre.length*D) ls vs s Y→
  RPt Tryz.prog 7 0 (cb true) [] 1 (if vs=[] then ⟨[(0,aIs ls),(7,cb true),(10,aH 0),(12, .c (.a (.fz (.z0 true)))),(13,aIs x),(15,aIs y),(17,ci (pre.length:Int))],hpZ s,5⟩ else ⟨[(0,aIs ls),(7,cb true),(10,aH 0),(12, .c (.a (.osl 5 1 0 vs.length))),(13,aIs x),(15,aIs y),(17,ci (pre.length:Int))],hpZ s++ [(5, .arz 1 (IR vs))],6⟩)
 | [],pre,c,d,s,Y,hp,_,_,g=>by
  rw [List.append_nil] at hp;by_cases hn:vs=[]
  · subst hn;rw [if_pos rfl]
    have fin:RPt Tryz.prog 7 0 (cb true) [] 5 ⟨[(0,aIs ls),(7,cb true),(10,aH 0),(12, .c (.a (.fz (.z0 true)))),(18,ci 0)],hpZ s,5⟩:=by
     refine RPt.vc hP sh lv7 (Eq.mpr (v7_5a ..) ?_);exact ⟨rfl,z01 (fun q=>absurd (of_decide_eq_true q) (by decide)) (fun _=>z0a rfl)⟩
    refine RPt.vc hP sh lv7 (Eq.mpr (v7_1a ..) ?_);rw [z06];exact ⟨rfl,z01 (fun h=>absurd (of_decide_eq_true h) (by rw [hp];omega)) (fun _=>fin)⟩
  · rw [if_neg hn];have fin:=l_lv5 _ ls vs hv hls vs [] s Y rfl hn g;refine RPt.vc hP sh lv7 (Eq.mpr (v7_1b ..) ?_);rw [z06];exact ⟨rfl,z01 (fun h=>absurd (of_decide_eq_true h) (by rw [hp];omega)) (fun _=>fin)⟩
 | a::b,pre,[],d,s,Y,hp,hd,hl,_=>by
  exfalso;rw [hp,hd] at hxy;simp [hl] at hxy
 | a::b,pre,e::c,d,s,Y,hp,hd,hl,g=>by
  have hlen:x.length=pre.length+(b.length+1):=by rw [hp];simp
  have hK:pre.length*D≤400*2097154:=Nat.mul_le_mul (by omega) (by omega);have eD:(pre++ [a]).length*D=pre.length*D+2097154:=by rw [List.length_append,List.length_singleton,Nat.add_mul,Nat.one_mul];omega
  have hA:=zdz s a e 3000 (zib _ (by omega) s g.z g.g.ok g.n [a] [e] 3000 (by simp) (by simp) (by omega) (by omega));obtain ⟨_,gz2,gz3,_⟩:=zij g.z g.g.ok g.n [a] [e] 3000 (by omega) (by omega);obtain ⟨E,a1⟩:=allZ_up g.z g.g.ok g.n [a] [e] 3000 (by omega) (by omega) g.g;have nx:=l_lv1 D hD ls vs hv hls x y hxy hx b (pre++ [a]) c (d++ [e]) (allZ s [a] [e] 3000).2 (Y++E) (by rw [hp];simp) (by rw [hd];simp) (by simp [hl]) (by rw [eD];exact g.app a1 gz2 gz3);rw [show (((pre++ [a]).length:Nat):Int)=(pre.length:Int)+1 by simp] at nx;have em:List.getD (IR x) (Int.toNat (pre.length:Int)) []=[.int .i64 a]:=by rw [hp];exact zb9 pre a b
  have em2:List.getD (IR y) (Int.toNat (pre.length:Int)) []=[.int .i64 e]:=by rw [hd,←hl];exact zb9 d e c
  have hlt:(pre.length:Int)<(((IR x).length:Nat):Int):=by rw [z06];omega
  have hlt2:(pre.length:Int)<(((IR y).length:Nat):Int):=by rw [z06];omega
  generalize allZ s [a] [e] 3000=z at*;obtain ⟨⟨z1,z2⟩,zs⟩:=z;by_cases hn:vs=[]
  · subst hn;rw [if_pos rfl] at nx ⊢;refine RPt.vc hP sh lv7 (Eq.mpr (v7_1a ..) ?_);rw [em,em2,w64 (x:=(pre.length:Int)+1) (by omega) (by omega)];exact ⟨rfl,z01 (fun _=>⟨⟨rfl,by omega,hlt,rfl⟩,⟨rfl,by omega,hlt2,rfl⟩,(z1,z2,zs),hA,nx⟩) (fun h=>absurd hlt (of_decide_eq_false h))⟩
  · rw [if_neg hn] at nx ⊢;refine RPt.vc hP sh lv7 (Eq.mpr (v7_1b ..) ?_);rw [em,em2,w64 (x:=(pre.length:Int)+1) (by omega) (by omega)];exact ⟨rfl,z01 (fun _=>⟨⟨rfl,by omega,hlt,rfl⟩,⟨rfl,by omega,hlt2,rfl⟩,(z1,z2,zs),hA,nx⟩) (fun h=>absurd hlt (of_decide_eq_false h))⟩
theorem zfs {l:List Tm}(h:zke l=false)(hz:∀ t∈l,t.sz≤B):l.length≤6∧∀ t∈l,near 1000 t=true∧t.sz≤1000000000:=by
 unfold zke at h;rw [Bool.or_eq_false_iff] at h;have h1:=of_decide_eq_false h.1;refine ⟨by omega,fun t ht=> ?_⟩;have:=List.any_eq_false.1 h.2 t ht;simp only [zmw,Bool.or_eq_true,not_or,Bool.not_eq_true,Bool.not_eq_false'] at this;refine ⟨this.2, ?_⟩;have hl:=large_sz this.1;omega
theorem zm0 (ls:List Int)(a b:List Tm)(ha:∀ t∈a,t.bk≤B)(hb:∀ t∈b,t.bk≤B):AC Tryz.prog 7 [aIs ls,aL a,aL b] [] (cb true) []:=by
 have hza:=fun t ht=>Nat.le_trans (Tm.sz_bk t) (ha t ht);have hzb:=fun t ht=>Nat.le_trans (Tm.sz_bk t) (hb t ht);have hw:=zqn;have o1:=zka a hza;have o2:=zka b hzb;refine AC.vc hP sh lv7 (Nat.le_refl _) (by simp) (by simp) (Eq.mpr (v7 ..) ?_);rw [z06,z00,z00];refine ⟨true,hw,z01 (fun q=>by cases q) (fun _=>⟨_,o1,_,o2,z01 (fun _=>z0a rfl) (fun q1=>z01 (fun _=>z0a rfl) (fun q2=>⟨rfl,rfl,z0j (fun _=>z0a rfl) (fun q3=>⟨rfl,z01 (fun _=>z0a rfl) (fun q4=> ?_)⟩)⟩))⟩)⟩;obtain ⟨l1,n1⟩:=zfs q1 hza;obtain ⟨l2,n2⟩:=zfs q2 hzb;have q3:(a.length:Int)=(b.length:Int):=q3;have q4:=of_decide_eq_false q4;have g0:Gd 0 [] [] hn6 []:=⟨⟨zdi,rfl,(fun i c y h=>by simp at h),(fun y hy=>by cases hy)⟩,(fun e he=>by cases he),Nat.zero_le _,(fun i x a h=>by simp at h)⟩;obtain ⟨Z,g,hlen⟩:=lay_ok ls [] [] hn6 ⟨[],[]⟩ [] rfl (by simp;omega) (by rfl) g0;rw [List.nil_append] at g hlen;obtain ⟨D,hD⟩:∃ D:Nat,D=2097154:=⟨_,rfl⟩
 have key:∀ (vs:List Int) (s:Hp),Gd 0 ls vs s Z→vs.length=ls.length→(z0f (some vs) a [] s).1.2=true→(z0f (some vs) b [] (z0f (some vs) a [] s).2).1.2=true→
   RPt Tryz.prog 7 0 (cb true) [] 1 (if vs=[] then ⟨[(0,aIs ls),(7,cb true),(10,aH 0),(12, .c (.a (.fz (.z0 true)))),(13,aIs (z0f (some vs) a [] s).1.1),(15,aIs (z0f (some vs) b [] (z0f (some vs) a [] s).2).1.1),(17,ci 0)],hpZ (z0f (some vs) b [] (z0f (some vs) a [] s).2).2,5⟩ else ⟨[(0,aIs ls),(7,cb true),(10,aH 0),(12, .c (.a (.osl 5 1 0 vs.length))),(13,aIs (z0f (some vs) a [] s).1.1),(15,aIs (z0f (some vs) b [] (z0f (some vs) a [] s).2).1.1),(17,ci 0)],hpZ (z0f (some vs) b [] (z0f (some vs) a [] s).2).2++ [(5, .arz 1 (IR vs))],6⟩):=fun vs s g hv h1 h2=>by
  obtain ⟨c1,c2,_,c4⟩:=z64 (some vs) a [] g.g.ok g.n;obtain ⟨d1,d2,_,d4⟩:=z64 (some vs) b [] (c1.ok g.g.ok) (c2 h1)
  have hvs:∀ x∈vs,Kid Z x (vM ls) 0:=fun x hx=>by
   obtain ⟨i,hi,rfl⟩:=List.getElem_of_mem hx;have hi2:i<ls.length:=by omega
   exact (g.k i ls[i] vs[i] (List.getElem?_eq_getElem hi2) (List.getElem?_eq_getElem hi)).mono (vM_mem (List.getElem_mem _)) (Int.le_refl _)
  obtain ⟨⟨E,e1⟩,e2⟩:=zc8 (vM_ge ls) a [] s Z g.g hvs n1 h1;obtain ⟨⟨F,f1⟩,f2⟩:=zc8 (vM_ge ls) b [] (z0f (some vs) a [] s).2 (Z++E) e1 (fun x hx=>(hvs x hx).app E) n2 h2;simp only [List.length_nil] at e2 f2;have gg:Gd (([]:List Int).length*D) ls vs (z0f (some vs) b [] (z0f (some vs) a [] s).2).2 (Z++(E++F)):=g.app (by rw [←List.append_assoc];exact f1) ((g.z.mv c1).mv d1) (by rw [List.length_nil,Nat.zero_mul];exact d2 h2);exact l_lv1 D hD ls vs hv (by omega) _ _ (by omega) (by omega) _ [] _ [] _ _ rfl rfl rfl gg
 by_cases hn:ls=[]
 · subst hn;have hl:=c_laid0;have key:=key [] hn6 g rfl;have c1:=zkc 0 (by omega) a (by omega) hza hn6 zdi (Nat.zero_le _);obtain ⟨a1,_,a3,_⟩:=z64 (some []) a [] zdi (K:=0) (Nat.zero_le _);have c2:=zkc _ (by omega) b (by omega) hzb (z0f (some []) a [] hn6).2 (a1.ok zdi) a3;generalize z0f (some []) a [] hn6=z at*;generalize z0f (some []) b [] z.2=y at*;obtain ⟨⟨z1,z2⟩,zs⟩:=z;obtain ⟨⟨y1,y2⟩,ys⟩:=y;dsimp only at*;refine .inl ⟨(hn6,⟨[],[]⟩),hl,(z1,z2,zs),c1,(y1,y2,ys),c2,z01 (fun _=>z0a rfl) (fun w1=>z01 (fun _=>z0a rfl) (fun w2=> ?_))⟩;exact key (by simpa using w1) (by simpa using w2)
 · obtain ⟨x,l,rfl⟩:∃ x l,ls=x::l:=by
    cases ls with
    | nil=>exact absurd rfl hn
    | cons x l=>exact ⟨x,l,rfl⟩
   have hl:=c_laid x l (by simp only [List.length_cons] at q4;omega);have key:=key _ _ g hlen;generalize layZ (x::l) [] hn6 ⟨[],[]⟩=w at*;obtain ⟨vs,s,q⟩:=w;dsimp only at hl key g hlen
   obtain ⟨v0,vs,rfl⟩:∃ v0 l,vs=v0::l:=by
    cases vs with
    | nil=>simp at hlen
    | cons x l=>exact ⟨x,l,rfl⟩
   have c1:=zla 0 (by omega) v0 vs a (by omega) hza s g.g.ok g.n;obtain ⟨a1,_,a3,_⟩:=z64 (some (v0::vs)) a [] g.g.ok g.n;have c2:=zla _ (by omega) v0 vs b (by omega) hzb (z0f (some (v0::vs)) a [] s).2 (a1.ok g.g.ok) a3;generalize z0f (some (v0::vs)) a [] s=z at*;generalize z0f (some (v0::vs)) b [] z.2=y at*;obtain ⟨⟨z1,z2⟩,zs⟩:=z;obtain ⟨⟨y1,y2⟩,ys⟩:=y;dsimp only at*;refine .inr ⟨(s,q,v0::vs),hl,(z1,z2,zs),c1,(y1,y2,ys),c2,z01 (fun _=>z0a rfl) (fun w1=>z01 (fun _=>z0a rfl) (fun w2=> ?_))⟩;exact key (by simpa using w1) (by simpa using w2)
end Go.AM

namespace Go.AM
open Go.ChangeShapes Go.WideShapes Go.ChangeAt Go.RowKit
end Go.AM

set_option maxRecDepth 100000
open Go Go.Proofs
namespace Go.Proofs.YtmgbnkbcjkdfjaaGreat.base
open Go.ChangeShapes Go.WideShapes Go.ChangeAt Go.RowKit Go.AM
theorem one_le {H:Type}(d:DataW H):1≤Rows.uptoBulk d:=by
 cases d with
 | lit l=>cases l<;>simp [Rows.uptoBulk]
 | _=>simp [Rows.uptoBulk]
theorem bulk {H:Type}:Bulk (H:=H) Rows.uptoBulk Rows.uptoBulkAll:=
 ⟨rfl,fun _ _=>rfl,one_le,fun es sp=>by simp only [Rows.uptoBulk];omega,fun l=>by simp [Rows.uptoBulk],fun l=>by simp [Rows.uptoBulk]⟩
theorem own:ownKnob Tryz.prog.godebug=none:=by kernel_rfl
theorem laidOut:laidOutB Tryz.prog=true:=by kernel_rfl
theorem tmTy:∃ f0 f1 f2 f3:Field,TmTy Tryz.prog 35 f0 f1 f2 f3:=
 ⟨_,_,_,_,Tryz.underlying35,Tryz.underlying33,Tryz.underlying9,Tryz.underlying3,Tryz.underlying23,rfl,rfl,rfl,rfl,by kernel_rfl,by kernel_rfl,by kernel_rfl,by kernel_rfl,by kernel_rfl⟩
theorem rec22:Tryz.prog.readableRec 22=true:=by kernel_rfl
theorem lt22:22<Tryz.prog.types.size:=of_decide_eq_true (by kernel_rfl)
theorem rec23:Tryz.prog.readableRec 23=true:=by kernel_rfl
theorem lt23:23<Tryz.prog.types.size:=of_decide_eq_true (by kernel_rfl)
theorem noGl (g:Nat)(h:Tryz.prog.globalNamed "internal/strconv.uint64pow10" =some g):False:=by
 rw [show Tryz.prog.globalNamed "internal/strconv.uint64pow10" =none by kernel_rfl] at h;cases h
theorem upto {H:Type}{l:List (DataW H)}(hk:Rows.uptoSmall H l=true):Rows.uptoBulkAll l≤1048576:=of_decide_eq_true hk
end Go.Proofs.YtmgbnkbcjkdfjaaGreat.base
