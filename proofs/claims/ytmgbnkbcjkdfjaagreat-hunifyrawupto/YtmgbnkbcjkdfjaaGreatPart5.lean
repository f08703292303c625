/- Contracts of the code's functions over plain values, and plain laws: part 5. No conditions. -/
import Derived.Test.YtmgbnkbcjkdfjaaGreatPart4
import Derived.Test.YtmgbnkbcjkdfjaaGreatPart2
import Derived.Test.YtmgbnkbcjkdfjaaGreatShelf
set_option maxRecDepth 100000
open Go Go.Proofs
namespace Go.AM
theorem fmax0 {x:Int}(h:0≤x):z0b [x,0]=x:=by
 simp only [z0b,List.foldl,max,maxOfLe];split<;>omega
theorem fmax2 {x y z:Int}(h:z0b [x,y]=z):z=x∨z=y:=by
 subst h;simp only [z0b,List.foldl,max,maxOfLe];split<;>simp
theorem zm9 {l:List Trl}{i:Nat}(h:i<l.length):List.getD (TR l) i []=l[i].r:=by simp [TR,List.getD,h]
theorem zmm (C:List Cel)(i:Nat)(c:Cel):CR (C.set i c)=List.set (CR C) i c.r:=by simp [CR,List.map_set]
theorem zdj {n:Nat}{fs gs:List (List FV)}(hl:gs.length≤fs.length)(h:∀ (i:Nat) (e e':List FV),fs[i]? =some e→gs[i]? =some e'→LeR e e'):OLe (.arz n fs) (.arz n gs):=
 .rows n fs gs hl (fun i e e' he he'=>(h i e e' he he').length) fun i j e e' f f' he he' hf hf'=>(h i e e' he he').get j f f' hf hf'
theorem c_hmark (s:Hp):AC Tryz.prog 28 [aH 0] (oH s) (.agg [.a (.fz (.int .i64 (s.C.length:Int))), .a (.fz (.int .i64 (s.T.length:Int)))]) (oH s):=by
 refine AC.vc hP sh lv28 (Nat.le_refl _) (by simp [isLive]) (by simp) (Eq.mpr (v28 ..) ?_);exact ⟨.refl _,rfl⟩
def topS (T:List Trl)(x:Int):Int:=if h:0<T.length then z0b [x,T[T.length-1].top] else x
def setS (s:Hp)(x:Int)(c:Cel):Int×Hp:=
 if inC s.C x=false then (1,s) else if z3p s c=false then (1,s) else if (rowB (z06 s.C x)==rowB c)=false then (1,s) else if s.L≤(s.T.length:Int) then (201,s)
 else (0,{ s with C:=s.C.set x.toNat c,T:=s.T++ [⟨x,z06 s.C x,topS s.T x⟩] })
theorem zm2 (s:Hp)(x:Int)(c:Cel)(hT:s.T.length≤1073741824):AC Tryz.prog 26 [aH 0,ci x,aCe c] (oH s) (ci (setS s x c).1) (oH' (setS s x c).2):=by
 refine AC.vc hP sh lv26 (by simp) (by simp [isLive]) (by simp [isLive]) (Eq.mpr (v26 ..) ?_);refine ⟨_,_,_,_,_,_,z40 s x,z01 (fun h=> ?_) (fun h=>⟨_,zm5 s c,z01 (fun h2=> ?_) (fun h2=>⟨_,zjx (z06 s.C x),_,zjx c,z01 (fun h3=> ?_) (fun h3=>z01 (fun h4=> ?_) (fun h4=> ?_))⟩)⟩)⟩
 · rw [setS,if_pos (by simpa using h)];exact ⟨.refl _,rfl⟩
 · rw [setS,if_neg (by simpa using h),if_pos (by simpa using h2)];exact ⟨.refl _,rfl⟩
 · rw [setS,if_neg (by simpa using h),if_neg (by simpa using h2),if_pos (by simpa using h3)];exact ⟨.refl _,rfl⟩
 · rw [setS,if_neg (by simpa using h),if_neg (by simpa using h2),if_neg (by simpa using h3),if_pos (of_decide_eq_true h4)];exact ⟨.refl _,rfl⟩
 · have h4:¬s.L≤(s.T.length:Int):=of_decide_eq_false h4;rw [setS,if_neg (by simpa using h),if_neg (by simpa using h2),if_neg (by simpa using h3),if_neg h4];have hin:inC s.C x=true:=by simpa using h
   simp only [inC,Bool.and_eq_true,decide_eq_true_eq] at hin;obtain ⟨hl,_⟩:=z9p hin.1 hin.2;have e1:(s.C.set x.toNat c).length=s.C.length:=by simp
   have e2:∀ e:Trl,(s.T++ [e]).length=s.T.length+1:=by simp
   have e3:∀ e:Trl,TR (s.T++ [e])=List.take s.T.length (TR s.T)++ [e.r]:=fun e=>by rw [List.take_of_length_le (by rw [z4c];omega)];simp [TR]
   have eC:=z0t s.C;have eT:=z4c s.T;have room:z0h (s.T.length+1) 56:=by simp only [z0h];omega
   have hg:(List.getD (CR s.C) (0+Int.toNat x) []).length=5:=by rw [Nat.zero_add,zih hl];rfl
   refine z01 (fun h5=> ?_) (fun h5=> ?_)
   · have h5:((s.T.length:Nat):Int)>0:=of_decide_eq_true h5;have ew:IntKind.wrap .i64 ((s.T.length:Int)-1)=((s.T.length-1:Nat):Int):=by rw [w64 (by omega) (by omega)];omega
     have eg:List.getD (TR s.T) (0+Int.toNat ((s.T.length-1:Nat):Int)) []=(s.T[s.T.length-1]'(by omega)).r:=by rw [Nat.zero_add,Int.toNat_natCast,zm9 (by omega)]
     rw [ew,eg];refine ⟨⟨by omega,by omega⟩,⟨by omega,rfl,rfl⟩,Nat.le_refl _,⟨by omega,room⟩,hin,⟨by omega,hg⟩, ?_⟩;simp only [oH',hp6,e1,e2,e3,topS,show 0<s.T.length by omega,dite_true,zmm,Nat.zero_add];exact ⟨.refl _,rfl⟩
   · have h5:¬((s.T.length:Nat):Int)>0:=of_decide_eq_false h5;refine ⟨Nat.le_refl _,⟨by omega,room⟩,hin,⟨by omega,hg⟩, ?_⟩;simp only [oH',hp6,e1,e2,e3,topS,show¬0<s.T.length by omega,dite_false,zmm,Nat.zero_add];exact ⟨.refl _,by first | exact trivial | rfl⟩
def z51 (T:List Trl)(C:List Cel):List Cel:=T.foldr (fun e C=>C.set e.o.toNat e.x) C
theorem z35:∀ (T:List Trl) (C:List Cel),(z51 T C).length=C.length
 | [],_=>rfl
 | e::T,C=>by rw [z51,List.foldr_cons,List.length_set];exact z35 T C
theorem zca (T:List Trl)(e:Trl)(C:List Cel):z51 (T++ [e]) C=z51 T (C.set e.o.toNat e.x):=by simp [z51]
abbrev stU (s:Hp)(C:List Cel)(j:Nat)(x n k:Int):St:=
 ⟨[(0,aH 0),(3, .c (.a (.ep 8 2 0 0))),(4,ci x)],[(0, .arr 6 [[.a (.osl 5 5 0 s.C.length), .a (.osl 6 7 0 j), .a (.fz (.int .i64 s.M)), .a (.fz (.int .i64 s.L)), .a (.osl 7 1 0 s.N.length), .a (.mp 4)]]),(1, .gone),(2, .gone),(3, .gone),(4, .mapz (NM s.N 0)),(5, .arz 5 (CR C)),(6, .arz 7 (TR s.T)),(7, .arz 1 (NR s.N)),(8, .arr 2 [[.a (.fz (.int .i64 n)), .a (.fz (.int .i64 k))]])],9⟩
theorem zou (s:Hp)(n k:Nat)(hk:k≤s.T.length)(hB:s.T.length≤1073741824)(hn:n≤s.C.length)(hT:∀ e∈s.T,0≤e.o∧e.o<(s.C.length:Int))(hp:∀ e∈s.T.take k,e.top<(n:Int)):
  ∀ (d j:Nat) (C:List Cel),j=k+d→j≤s.T.length→C.length=s.C.length→
  RPt Tryz.prog 69 5 (.tup []) [.arr 6 [[.a (.osl 5 5 0 n), .a (.osl 6 7 0 k), .a (.fz (.int .i64 s.M)), .a (.fz (.int .i64 s.L)), .a (.osl 7 1 0 s.N.length), .a (.mp 4)]], .gone, .gone, .gone, .mapz (NM s.N 0), .arz 5 (CR (z51 ((s.T.take j).drop k) C)), .arz 7 (TR s.T), .arz 1 (NR s.N)] 1
   (stU s C j ((j:Int)-1) (n:Int) (k:Int))
 | 0,j,C,hj,hl,hC=>by
  refine RPt.vc hP sh lv69 (Eq.mpr (v69_1a ..) ?_);obtain rfl:j=k:=by omega
  rw [fmax0 (x:=(j:Int)) (by omega),fmax0 (x:=(n:Int)) (by omega),Int.toNat_natCast,show z51 ((s.T.take j).drop j) C=C by rw [List.drop_eq_nil_of_le (by rw [List.length_take];omega)];rfl];refine z01 (fun h=>absurd (of_decide_eq_true h) (by omega)) (fun _=>z01 (fun h=>⟨⟨by omega,by omega,by omega⟩,z01 (fun h2=> ?_) (fun _=>⟨.refl _,rfl⟩)⟩) (fun h=> ?_))
  · have h2:((j:Nat):Int)>0:=of_decide_eq_true h2;have ew:IntKind.wrap .i64 ((j:Int)-1)=((j-1:Nat):Int):=by rw [w64 (by omega) (by omega)];omega
    have hlt:j-1<s.T.length:=by omega
    have eg:List.getD (TR s.T) (0+Int.toNat ((j-1:Nat):Int)) []=s.T[j-1].r:=by rw [Nat.zero_add,Int.toNat_natCast,zm9 hlt]
    have ht:s.T[j-1].top<(n:Int):=hp _ (List.mem_take_iff_getElem.2 ⟨j-1,by omega,rfl⟩);have eT:=z4c s.T;rw [ew,eg];refine ⟨⟨by omega,by omega⟩,⟨by omega,rfl,rfl⟩,z01 (fun h=>absurd (of_decide_eq_true h) (Int.not_le.2 ht)) (fun _=>⟨.refl _,rfl⟩)⟩
  · have h:=of_decide_eq_false h;have e:s.C.length=n:=by omega
    rw [e];exact ⟨.refl _,rfl⟩
 | d+1,j,C,hj,hl,hC=>by
  refine RPt.vc hP sh lv69 (Eq.mpr (v69_1a ..) ?_);have hlt:j-1<s.T.length:=by omega
  have et:Int.toNat ((j:Int)-1)=j-1:=by omega
  have eg:List.getD (TR s.T) (0+(j-1)) []=s.T[j-1].r:=by rw [Nat.zero_add,zm9 hlt]
  have eT:=z4c s.T;have eC:=z0t C;obtain ⟨o1,o2⟩:=hT s.T[j-1] (List.getElem_mem hlt);have hol:(s.T[j-1].o).toNat<C.length:=by omega
  have hg:(List.getD (CR C) (0+(s.T[j-1].o).toNat) []).length=5:=by rw [Nat.zero_add,zih hol];rfl
  rw [fmax0 (x:=(k:Int)) (by omega),et,eg,w64 (x:=(j:Int)-1-1) (by omega) (by omega)];have nx:=zou s n k hk hB hn hT hp d (j-1) (C.set (s.T[j-1].o).toNat s.T[j-1].x) (by omega) (by omega) (by rw [List.length_set];exact hC)
  have ed:(s.T.take j).drop k=(s.T.take (j-1)).drop k++ [s.T[j-1]]:=by
   have e1:s.T.take j=s.T.take (j-1)++ [s.T[j-1]]:=by
    have:=List.take_append_getElem (l:=s.T) (i:=j-1) hlt;rw [show j-1+1=j by omega] at this;exact this.symm
   rw [e1,List.drop_append_of_le_length (by rw [List.length_take];omega)]
  simp only [stU] at nx;rw [←zca,←ed,zmm,show ((j-1:Nat):Int)=(j:Int)-1 by omega] at nx;refine z01 (fun _=>⟨⟨by omega,by omega⟩,⟨by omega,rfl,rfl⟩,⟨o1,o2⟩,⟨by show 0+(s.T[j-1].o).toNat<(CR C).length;omega,hg⟩,⟨by omega,by omega,by omega⟩, ?_⟩) (fun h=>absurd (of_decide_eq_false h) (by omega));rw [Nat.zero_add];exact nx
def z4u (s:Hp)(n k:Nat):Hp:={ s with C:=(z51 (s.T.drop k) s.C).take n,T:=s.T.take k }
theorem c_hundo (s:Hp)(n k:Nat)(hk:k≤s.T.length)(hB:s.T.length≤1073741824)(hn:n≤s.C.length)(hT:∀ e∈s.T,0≤e.o∧e.o<(s.C.length:Int))(hp:∀ e∈s.T.take k,e.top<(n:Int)):
  AC Tryz.prog 69 [aH 0, .agg [.a (.fz (.int .i64 (n:Int))), .a (.fz (.int .i64 (k:Int)))]] (oH s) (.tup []) (oH' (z4u s n k)):=by
 have e1:(z4u s n k).C.length=n:=by simp only [z4u,List.length_take,z35];omega
 have e2:(z4u s n k).T.length=k:=by simp only [z4u,List.length_take];omega
 have hl:=zou s n k hk hB hn hT hp (s.T.length-k) s.T.length s.C (by omega) (Nat.le_refl _) rfl;rw [List.take_of_length_le (Nat.le_refl _)] at hl;refine AC.obj (Hs':=[.arr 6 [[.a (.osl 5 5 0 n), .a (.osl 6 7 0 k), .a (.fz (.int .i64 s.M)), .a (.fz (.int .i64 s.L)), .a (.osl 7 1 0 s.N.length), .a (.mp 4)]], .gone, .gone, .gone, .mapz (NM s.N 0), .arz 5 (CR (z51 (s.T.drop k) s.C)), .arz 7 (TR s.T), .arz 1 (NR s.N)]) ?_ ⟨?_, .refl _, .refl _, .refl _, .refl _, ?_, ?_, .refl _,trivial⟩
 · refine AC.vc hP sh lv69 (by simp) (by simp [isLive]) (by simp [isLive]) (Eq.mpr (v69 ..) ?_);rw [w64 (x:=(s.T.length:Int)-1) (by omega) (by omega)];exact hl
 · rw [hp6,e1,e2];exact .refl _
 · refine zdj (by rw [z0t,z0t,e1,z35];exact hn) fun i e e' he he'=> ?_;rw [CR,List.getElem?_map] at he he';obtain ⟨v,hv,rfl⟩:=Option.map_eq_some_iff.1 he';obtain ⟨v2,hv2,rfl⟩:=Option.map_eq_some_iff.1 he;rw [z4u,List.getElem?_take] at hv;split at hv
   · rw [hv2] at hv;injection hv with hv;subst hv;exact LeR.refl _
   · cases hv
 · refine zdj (by rw [z4c,z4c,e2];exact hk) fun i e e' he he'=> ?_;rw [TR,List.getElem?_map] at he he';obtain ⟨v,hv,rfl⟩:=Option.map_eq_some_iff.1 he';obtain ⟨v2,hv2,rfl⟩:=Option.map_eq_some_iff.1 he;rw [z4u,List.getElem?_take] at hv;split at hv
   · rw [hv2] at hv;injection hv with hv;subst hv;exact LeR.refl _
   · cases hv
end Go.AM

set_option maxRecDepth 100000
open Go Go.Proofs
namespace Go.AM
abbrev wr (x:Int):Int:=IntKind.wrap .i64 x
def z0y (r:Rd)(e:Int):Rd:=⟨r.s,r.f,if r.e=0 then e else r.e⟩
def putR (r:Rd)(c:Cel):Int×Rd:=if r.e=0 then ((putS r.s c).1.1,⟨(putS r.s c).2,r.f,(putS r.s c).1.2⟩) else (0,r)
def z1f (r:Rd)(a b:Int):Rd:=if r.e=0∧a≠b then ⟨(setS r.s a ⟨5,b,0,0,0⟩).2,r.f,(setS r.s a ⟨5,b,0,0,0⟩).1⟩ else r
def zc9 (C:List Cel):Nat→Int→Int
 | 0,a=>a
 | n+1,a=>if inC C a=false then a else if (z06 C a).t≠5 then a else zc9 C n (z06 C a).a
def z2l (C:List Cel)(a:Int):Int:=zc9 C C.length a
def z02 (r:Rd)(a:Int):(Cel×Int)×Rd:=
 if inC r.s.C (z2l r.s.C a)=false then ((⟨2,0,0,0,0⟩,0),z0y r 1)
 else if 9≤(z06 r.s.C (z2l r.s.C a)).t then ((⟨2,0,0,0,0⟩,0),z0y r 1)
 else if (z06 r.s.C (z2l r.s.C a)).t=5 then ((⟨2,0,0,0,0⟩,0),z0y r 1)
 else if r.f≤0 then ((⟨2,0,0,0,0⟩,0),z0y r 80)
 else if r.e≠0 then ((⟨2,0,0,0,0⟩,0),r)
 else ((z06 r.s.C (z2l r.s.C a),z2l r.s.C a),⟨r.s,r.f-1,r.e⟩)
def z3y (r:Rd)(a u:Int):Int×Rd:=
 if u=0 then (a,r) else putR (putR r ⟨9,0,0,0,0⟩).2 ⟨8,a,(putR r ⟨9,0,0,0,0⟩).1,0,u⟩
def z0s:Nat→Rd→Int→Int→(Cel×Bool)×Rd
 | 0,r,_,_=>((noC,false),r)
 | n+1,r,row,j=>
  if inC r.s.C row=false then ((noC,false),z0y r 1)
  else if (z06 r.s.C row).t<9 then ((noC,false),z0y r 1)
  else if (z06 r.s.C row).t=9 then ((noC,false),r)
  else if j=0 then ((z06 r.s.C row,true),r)
  else if r.f≤0 then ((noC,false),z0y r 80)
  else z0s n ⟨r.s,r.f-1,r.e⟩ (z06 r.s.C row).a (wr (j-1))
def losR (n:Nat)(r:Rd)(s:Cel)(j:Int):Int×Rd:=
 if j<s.c then
  if (z0s n r s.b j).1.2=true then
   if (z0s n r s.b j).1.1.t=10 then putR (z0s n r s.b j).2 ⟨3,wr (wr (s.d-1)-(z0s n r s.b j).1.1.b),0,0,0⟩ else z3y (z0s n r s.b j).2 (z0s n r s.b j).1.1.b (wr (s.d-(z0s n r s.b j).1.1.c))
  else putR (z0s n r s.b j).2 ⟨3,wr (wr (j-s.c)+s.d),0,0,0⟩
 else putR r ⟨3,wr (wr (j-s.c)+s.d),0,0,0⟩
def z1k (r:Rd)(s:Cel)(a row more:Int):Int×Rd:=putR r ⟨8,a,row,wr (s.c+more),wr (s.d+more)⟩
def lamR (r:Rd)(s:Cel)(b:Int):Int×Rd:=
 putR (z1k (putR r ⟨10,s.b,s.d,0,0⟩).2 s b (putR r ⟨10,s.b,s.d,0,0⟩).1 1).2 ⟨6,(z1k (putR r ⟨10,s.b,s.d,0,0⟩).2 s b (putR r ⟨10,s.b,s.d,0,0⟩).1 1).1,0,0,0⟩
def appR (r:Rd)(s:Cel)(f x:Int):Int×Rd:=
 putR (z1k (z1k r s f s.b 0).2 s x s.b 0).2 ⟨7,(z1k r s f s.b 0).1,(z1k (z1k r s f s.b 0).2 s x s.b 0).1,0,0⟩
def z5v (n:Nat)(c:Cel)(t:Int)(r:Rd)(s:Cel):Int×Rd:=
 if c.t=3 then losR n r s c.a else if c.t=6 then lamR r s c.a else if c.t=7 then appR r s c.a c.b else (t,r)
def z66 (n:Nat)(v:(Cel×Int)×Rd)(s:Cel):Int×Rd:=
 if v.2.e≠0 then (v.1.2,v.2) else if s.c=0∧s.d=0 then (v.1.2,v.2) else z5v n v.1.1 v.1.2 v.2 s
mutual
def z05:Nat→Rd→Cel→Int×Rd
 | 0,r,_=>(0,r)
 | n+1,r,s=>z66 (n+1) (z43 n (z02 r s.a)) s
def z43:Nat→(Cel×Int)×Rd→(Cel×Int)×Rd
 | 0,v=>v
 | n+1,v=>if v.2.e=0∧v.1.1.t=8 then z43 n (z02 (z1f (z05 n v.2 v.1.1).2 v.1.2 (z05 n v.2 v.1.1).1) (z05 n v.2 v.1.1).1) else v
end
def z56 (r:Rd)(b arg:Int):Int×Rd:=
 putR (putR (putR r ⟨9,0,0,0,0⟩).2 ⟨11,(putR r ⟨9,0,0,0,0⟩).1,arg,0,0⟩).2 ⟨8,b,(putR (putR r ⟨9,0,0,0,0⟩).2 ⟨11,(putR r ⟨9,0,0,0,0⟩).1,arg,0,0⟩).1,1,0⟩
structure OkH (s:Hp):Prop where
 C:s.C.length≤1048576
 M:s.M≤1048576
 T:s.T.length≤1048576
 L:s.L≤1048576
theorem OkH.put {s:Hp}(h:OkH s)(c:Cel):OkH (putS s c).2:=by
 unfold putS;split
 · exact h
 · split
   · exact h
   · rename_i _ q;have:=h.M;exact ⟨by simp only [List.length_append,List.length_singleton];omega,h.M,h.T,h.L⟩
theorem OkH.set {s:Hp}(h:OkH s)(a:Int)(c:Cel):OkH (setS s a c).2:=by
 unfold setS;split
 · exact h
 · split
   · exact h
   · split
     · exact h
     · split
       · exact h
       · rename_i _ _ _ q;have:=h.L;exact ⟨by simp only [List.length_set];exact h.C,h.M,by simp only [List.length_append,List.length_singleton];omega,h.L⟩
structure OkR (r:Rd):Prop where
 h:OkH r.s
 f0:0-4611686018427387904≤r.f
 f1:r.f≤4611686018427387904
theorem OkR.fail {r:Rd}(h:OkR r)(e:Int):OkR (z0y r e):=⟨h.h,h.f0,h.f1⟩
theorem OkR.put {r:Rd}(h:OkR r)(c:Cel):OkR (putR r c).2:=by
 unfold putR;split
 · exact ⟨h.h.put c,h.f0,h.f1⟩
 · exact h
theorem OkR.keep {r:Rd}(h:OkR r)(a b:Int):OkR (z1f r a b):=by
 unfold z1f;split
 · exact ⟨h.h.set a _,h.f0,h.f1⟩
 · exact h
theorem OkR.less {r:Rd}(h:OkR r)(h0:¬r.f≤0):OkR ⟨r.s,r.f-1,r.e⟩:=⟨h.h,by have:=h.f0;dsimp only;omega,by have:=h.f1;dsimp only;omega⟩
theorem OkR.visit {r:Rd}(h:OkR r)(a:Int):OkR (z02 r a).2:=by
 unfold z02;split
 · exact h.fail 1
 · split
   · exact h.fail 1
   · split
     · exact h.fail 1
     · split
       · exact h.fail 80
       · split
         · exact h
         · rename_i q _;exact h.less q
theorem OkR.lift {r:Rd}(h:OkR r)(a u:Int):OkR (z3y r a u).2:=by
 unfold z3y;split
 · exact h
 · exact (h.put _).put _
theorem OkR.entry:∀ (n:Nat) {r:Rd} (row j:Int),OkR r→OkR (z0s n r row j).2
 | 0,_,_,_,h=>h
 | n+1,r,row,j,h=>by
  rw [z0s];split
  · exact h.fail 1
  · split
    · exact h.fail 1
    · split
      · exact h
      · split
        · exact h
        · split
          · exact h.fail 80
          · rename_i q;exact OkR.entry n _ _ (h.less q)
theorem OkR.loose (n:Nat){r:Rd}(h:OkR r)(s:Cel)(j:Int):OkR (losR n r s j).2:=by
 have e:=OkR.entry n s.b j h;unfold losR;split
 · split
   · split
     · exact e.put _
     · exact e.lift _ _
   · exact e.put _
 · exact h.put _
theorem OkR.lam {r:Rd}(h:OkR r)(s:Cel)(b:Int):OkR (lamR r s b).2:=((h.put _).put _).put _
theorem OkR.app {r:Rd}(h:OkR r)(s:Cel)(f x:Int):OkR (appR r s f x).2:=((h.put _).put _).put _
theorem OkR.level (n:Nat){r:Rd}(h:OkR r)(c:Cel)(t:Int)(s:Cel):OkR (z5v n c t r s).2:=by
 unfold z5v;split
 · exact h.loose n s _
 · split
   · exact h.lam s _
   · split
     · exact h.app s _ _
     · exact h
theorem OkR.spun (n:Nat){v:(Cel×Int)×Rd}(h:OkR v.2)(s:Cel):OkR (z66 n v s).2:=by
 unfold z66;split
 · exact h
 · split
   · exact h
   · exact h.level n _ _ s
mutual
theorem OkR.open:∀ (n:Nat) {r:Rd} (s:Cel),OkR r→OkR (z05 n r s).2
 | 0,_,_,h=>h
 | n+1,r,s,h=>by
  rw [z05];exact OkR.spun (n+1) (OkR.spin n (h.visit s.a)) s
theorem OkR.spin:∀ (n:Nat) {v:(Cel×Int)×Rd},OkR v.2→OkR (z43 n v).2
 | 0,_,h=>h
 | n+1,v,h=>by
  rw [z43];split
  · exact OkR.spin n (((OkR.open n v.1.1 h).keep _ _).visit _)
  · exact h
end
theorem OkR.beta {r:Rd}(h:OkR r)(b arg:Int):OkR (z56 r b arg).2:=((h.put _).put _).put _
abbrev aRd:TV:= .c (.a (.ep 0 3 0 0))
abbrev rd3 (o:Nat)(r:Rd):AObj:= .arr 3 [[.a (.ep o 6 0 0), .a (.fz (.int .i64 r.f)), .a (.fz (.int .i64 r.e))]]
abbrev oRd (r:Rd):List AObj:=[rd3 1 r,hp6 2 3 4 5 r.s, .arz 5 (CR r.s.C), .arz 7 (TR r.s.T), .arz 1 (NR r.s.N), .mapz (NM r.s.N 0)]
abbrev oRd' (r:Rd):List AObj:=[rd3 1 r,hp6 6 7 8 5 r.s, .gone, .gone, .gone, .mapz (NM r.s.N 0), .arz 5 (CR r.s.C), .arz 7 (TR r.s.T), .arz 1 (NR r.s.N)]
abbrev tCI (x:Cel×Int):TV:= .tup [(true,[.a (.fz (.int .i64 x.1.t)), .a (.fz (.int .i64 x.1.a)), .a (.fz (.int .i64 x.1.b)), .a (.fz (.int .i64 x.1.c)), .a (.fz (.int .i64 x.1.d))]),(false,[.a (.fz (.int .i64 x.2))])]
theorem bne_of {x n:Int}(h:(x !=n)=true):x≠n:=by simpa using h
theorem beq_of {x n:Int}(h:(x !=n)=false):x=n:=by simpa using h
theorem z0m {x n:Int}{A B:Prop}(h1:x≠n→A)(h2:x=n→B):br (x !=n) A B:=z01 (fun h=>h1 (bne_of h)) (fun h=>h2 (beq_of h))
theorem z4p (r:Rd)(e:Int):AC Tryz.prog 252 [aRd,ci e] (oRd r) (ci 0) (oRd (z0y r e)):=by
 refine AC.vc hP sh lv252 (by simp) (by simp [isLive]) (by simp) (Eq.mpr (v252 ..) ?_);refine z04 (fun h=> ?_) (fun h=> ?_)
 · rw [show z0y r e=⟨r.s,r.f,e⟩ by rw [z0y,if_pos h]];exact ⟨.refl _,rfl⟩
 · rw [show z0y r e=r by rw [z0y,if_neg h]];exact ⟨.refl _,rfl⟩
theorem z4d (r:Rd)(c:Cel)(h:OkR r):AC Tryz.prog 195 [aRd,aCe c] (oRd r) (ci (putR r c).1) (oRd' (putR r c).2):=by
 have hp:=z34 r.s c (by have:=h.h.C;omega);have hf:=z4p ⟨(putS r.s c).2,r.f,r.e⟩ (putS r.s c).1.2;unfold putR;refine AC.vc hP sh lv195 (by simp) (by simp [isLive]) (by split<;>simp [isLive]) (Eq.mpr (v195 ..) ?_);refine z0m (fun h=> ?_) (fun h=> ?_)
 · rw [if_neg h];exact ⟨.refl _,rfl⟩
 · rw [if_pos h];rw [show z0y ⟨(putS r.s c).2,r.f,r.e⟩ (putS r.s c).1.2=⟨(putS r.s c).2,r.f,(putS r.s c).1.2⟩ from by rw [z0y,if_pos h]] at hf;exact ⟨putS r.s c,hp,(0,r.f,(putS r.s c).1.2),hf, .refl _,rfl⟩
theorem ze5 (r:Rd)(a b:Int)(h:OkR r):AC Tryz.prog 192 [aRd,ci a,ci b] (oRd r) (.tup []) (oRd' (z1f r a b)):=by
 have hp:=zm2 r.s a ⟨5,b,0,0,0⟩ (by have:=h.h.T;omega);have hf:=z4p ⟨(setS r.s a ⟨5,b,0,0,0⟩).2,r.f,r.e⟩ (setS r.s a ⟨5,b,0,0,0⟩).1;unfold z1f;refine AC.vc hP sh lv192 (by simp) (by simp [isLive]) (by split<;>simp [isLive]) (Eq.mpr (v192 ..) ?_);refine z04 (fun h=>z0m (fun h2=> ?_) (fun h2=> ?_)) (fun h=> ?_)
 · rw [if_pos ⟨h,h2⟩];rw [show z0y ⟨(setS r.s a ⟨5,b,0,0,0⟩).2,r.f,r.e⟩ (setS r.s a ⟨5,b,0,0,0⟩).1=⟨(setS r.s a ⟨5,b,0,0,0⟩).2,r.f,(setS r.s a ⟨5,b,0,0,0⟩).1⟩ from by rw [z0y,if_pos h]] at hf;exact ⟨setS r.s a ⟨5,b,0,0,0⟩,hp,(0,r.f,(setS r.s a ⟨5,b,0,0,0⟩).1),hf, .refl _,rfl⟩
 · rw [if_neg fun q=>q.2 h2];exact ⟨.refl _,rfl⟩
 · rw [if_neg fun q=>h q.1];exact ⟨.refl _,rfl⟩
abbrev stD (s:Hp)(a x y:Int):St:=⟨[(0,aH 0),(1,ci a),(11,ci x),(12,ci y)],[(0,hp6 1 2 3 4 s),(1, .arz 5 (CR s.C)),(2, .arz 7 (TR s.T)),(3, .arz 1 (NR s.N)),(4, .mapz (NM s.N 0))],5⟩
theorem zii (s:Hp)(hs:s.C.length≤1073741824):∀ (n:Nat) (a:Int) (y:Nat),y+n=s.C.length→RPt Tryz.prog 196 5 (ci (zc9 s.C n a)) (oH s) 1 (stD s a (s.C.length:Int) (y:Int))
 | 0,a,y,hy=>by
  refine RPt.vc hP sh znp (Eq.mpr (zo1 ..) ?_);exact z01 (fun h=>absurd (of_decide_eq_true h) (by omega)) (fun _=>⟨.refl _,rfl⟩)
 | n+1,a,y,hy=>by
  refine RPt.vc hP sh znp (Eq.mpr (zo1 ..) ?_);have nx:=zii s hs n (z06 s.C a).a (y+1) (by omega);rw [w64 (by omega) (by omega)];refine z01 (fun _=>⟨_,_,_,_,_,_,z40 s a,z01 (fun h=> ?_) (fun h=>z0m (fun h2=> ?_) (fun h2=> ?_))⟩) (fun h=>absurd (of_decide_eq_false h) (by omega))
  · rw [zc9,if_pos (by simpa using h)];exact ⟨.refl _,rfl⟩
  · rw [zc9,if_neg (by simpa using h),if_pos h2];exact ⟨.refl _,rfl⟩
  · rw [zc9,if_neg (by simpa using h),if_neg (fun q=>q h2)];exact nx
theorem zcn (s:Hp)(hs:s.C.length≤1073741824)(a:Int):AC Tryz.prog 196 [aH 0,ci a] (oH s) (ci (z2l s.C a)) (oH s):=by
 refine AC.vc hP sh znp (Nat.le_refl _) (by simp [isLive]) (by simp) (Eq.mpr (v196 ..) ?_);exact zii s hs s.C.length a 0 (by omega)
theorem zik (r:Rd){e:Int}(h:e≠0):(z0y r e).e≠0:=by
 show (if r.e=0 then e else r.e)≠0
 split
 · exact h
 · assumption
theorem zdw (r:Rd)(a:Int)(h:OkR r):AC Tryz.prog 190 [aRd,ci a] (oRd r) (tCI (z02 r a).1) (oRd (z02 r a).2):=by
 have hd:=zcn r.s (by have:=h.h.C;omega) a;have f0:=h.f0;have f1:=h.f1
 have v0:z02 r a=if inC r.s.C (z2l r.s.C a)=false then ((⟨2,0,0,0,0⟩,0),z0y r 1)
  else if 9≤(z06 r.s.C (z2l r.s.C a)).t then ((⟨2,0,0,0,0⟩,0),z0y r 1)
  else if (z06 r.s.C (z2l r.s.C a)).t=5 then ((⟨2,0,0,0,0⟩,0),z0y r 1)
  else if r.f≤0 then ((⟨2,0,0,0,0⟩,0),z0y r 80)
  else if r.e≠0 then ((⟨2,0,0,0,0⟩,0),r)
  else ((z06 r.s.C (z2l r.s.C a),z2l r.s.C a),⟨r.s,r.f-1,r.e⟩):=rfl
 generalize z2l r.s.C a=d at*;have hc:=z40 r.s d
 have bad:∀ (e:Int) (he:e≠0) {Q:Prop},z02 r a=((⟨2,0,0,0,0⟩,0),z0y r e)→br ((z0y r e).e !=0) (TV.Le (tCI (⟨2,0,0,0,0⟩,0)) (tCI (z02 r a).1)∧oRd (z0y r e)=oRd (z02 r a).2) Q:=fun e he Q hv=>by
  rw [hv];exact z0m (fun _=>⟨.refl _,rfl⟩) (fun h=>absurd h (zik r he))
 refine AC.vc hP sh lv190 (by simp) (by simp [isLive]) (by simp) (Eq.mpr (v190 ..) ?_);refine ⟨d,hd,_,_,_,_,_,_,hc,z01 (fun q=> ?_) (fun q=>z01 (fun q2=> ?_) (fun q2=>z04 (fun q3=> ?_) (fun q3=>z01 (fun q4=> ?_) (fun q4=>z0m (fun q5=> ?_) (fun q5=> ?_)))))⟩
 · rw [if_pos (by simpa using q)] at v0;exact ⟨(0,(z0y r 1).f,(z0y r 1).e),z4p r 1,bad 1 (by decide) v0⟩
 · rw [if_neg (by simpa using q),if_pos (of_decide_eq_true q2)] at v0;exact ⟨(0,(z0y r 1).f,(z0y r 1).e),z4p r 1,bad 1 (by decide) v0⟩
 · rw [if_neg (by simpa using q),if_neg (of_decide_eq_false q2),if_pos q3] at v0;exact ⟨(0,(z0y r 1).f,(z0y r 1).e),z4p r 1,bad 1 (by decide) v0⟩
 · rw [if_neg (by simpa using q),if_neg (of_decide_eq_false q2),if_neg q3,if_pos (of_decide_eq_true q4)] at v0;exact ⟨(0,(z0y r 80).f,(z0y r 80).e),z4p r 80,bad 80 (by decide) v0⟩
 · rw [if_neg (by simpa using q),if_neg (of_decide_eq_false q2),if_neg q3,if_neg (of_decide_eq_false q4),if_pos q5] at v0;rw [v0];exact ⟨.refl _,rfl⟩
 · have q4:=of_decide_eq_false q4;rw [if_neg (by simpa using q),if_neg (of_decide_eq_false q2),if_neg q3,if_neg q4,if_neg (fun w=>w q5)] at v0;rw [v0,w64 (by omega) (by omega)];exact ⟨.refl _,rfl⟩
theorem zpa (r:Rd)(a u:Int)(h:OkR r):AC Tryz.prog 300 [aRd,ci a,ci u] (oRd r) (ci (z3y r a u).1) (oRd' (z3y r a u).2):=by
 have h1:=z4d r ⟨9,0,0,0,0⟩ h;have h2:=z4d (putR r ⟨9,0,0,0,0⟩).2 ⟨8,a,(putR r ⟨9,0,0,0,0⟩).1,0,u⟩ (h.put _);unfold z3y;refine AC.vc hP sh lv300 (by simp) (by simp [isLive]) (by split<;>simp [isLive]) (Eq.mpr (v300 ..) ?_);refine z04 (fun q=> ?_) (fun q=> ?_)
 · rw [if_pos q];exact ⟨.refl _,rfl⟩
 · rw [if_neg q];exact ⟨_,h1,_,h2, .refl _,rfl⟩
abbrev aCB (x:Cel×Bool):TV:=tCe x.1 x.2
abbrev stEn (r:Rd)(row j:Int)(c:Cel):St:=⟨[(0,aRd),(1,ci row),(2,ci j),(6, .c (.a (.ep 6 5 0 0)))],[(0,rd3 1 r),(1,hp6 2 3 4 5 r.s),(2, .arz 5 (CR r.s.C)),(3, .arz 7 (TR r.s.T)),(4, .arz 1 (NR r.s.N)),(5, .mapz (NM r.s.N 0)),(6, .arr 5 [[.a (.fz (.int .i64 c.t)), .a (.fz (.int .i64 c.a)), .a (.fz (.int .i64 c.b)), .a (.fz (.int .i64 c.c)), .a (.fz (.int .i64 c.d))]])],7⟩
theorem zib (c:Cel):∀ (n:Nat) (r:Rd) (row j:Int),OkR r→r.f.toNat<n→RPt Tryz.prog 299 6 (aCB (z0s n r row j).1) (oRd (z0s n r row j).2) 1 (stEn r row j c)
 | 0,_,_,_,_,h=>absurd h (by omega)
 | n+1,r,row,j,ok,hn=>by
  have f0:=ok.f0;have f1:=ok.f1
  have v0:z0s (n+1) r row j=if inC r.s.C row=false then ((noC,false),z0y r 1)
   else if (z06 r.s.C row).t<9 then ((noC,false),z0y r 1)
   else if (z06 r.s.C row).t=9 then ((noC,false),r)
   else if j=0 then ((z06 r.s.C row,true),r)
   else if r.f≤0 then ((noC,false),z0y r 80)
   else z0s n ⟨r.s,r.f-1,r.e⟩ (z06 r.s.C row).a (wr (j-1)):=rfl
  have hc:=z40 r.s row;have nx:=fun q=>zib c n ⟨r.s,r.f-1,r.e⟩ (z06 r.s.C row).a (wr (j-1)) (ok.less q) (by dsimp only;omega);refine RPt.vc hP sh lv299 (Eq.mpr (v299_1a ..) ?_);refine ⟨_,_,_,_,_,_,hc,z01 (fun q=> ?_) (fun q=>z01 (fun q2=> ?_) (fun q2=>z04 (fun q3=> ?_) (fun q3=>z04 (fun q4=> ?_) (fun q4=>z01 (fun q5=> ?_) (fun q5=> ?_)))))⟩
  · rw [if_pos (by simpa using q)] at v0;rw [v0];exact ⟨(0,(z0y r 1).f,(z0y r 1).e),z4p r 1, .refl _,rfl⟩
  · rw [if_neg (by simpa using q),if_pos (of_decide_eq_true q2)] at v0;rw [v0];exact ⟨(0,(z0y r 1).f,(z0y r 1).e),z4p r 1, .refl _,rfl⟩
  · rw [if_neg (by simpa using q),if_neg (of_decide_eq_false q2),if_pos q3] at v0;rw [v0];exact ⟨.refl _,rfl⟩
  · rw [if_neg (by simpa using q),if_neg (of_decide_eq_false q2),if_neg q3,if_pos q4] at v0;rw [v0];exact ⟨.refl _,rfl⟩
  · rw [if_neg (by simpa using q),if_neg (of_decide_eq_false q2),if_neg q3,if_neg q4,if_pos (of_decide_eq_true q5)] at v0;rw [v0];exact ⟨(0,(z0y r 80).f,(z0y r 80).e),z4p r 80, .refl _,rfl⟩
  · have q5:=of_decide_eq_false q5;rw [if_neg (by simpa using q),if_neg (of_decide_eq_false q2),if_neg q3,if_neg q4,if_neg q5] at v0;rw [v0,w64 (x:=r.f-1) (by omega) (by omega)];exact nx q5
theorem c_rentry (n:Nat)(r:Rd)(row j:Int)(h:OkR r)(hn:r.f.toNat<n):AC Tryz.prog 299 [aRd,ci row,ci j] (oRd r) (aCB (z0s n r row j).1) (oRd (z0s n r row j).2):=by
 refine AC.vc hP sh lv299 (by simp) (by simp [isLive]) (by simp) (Eq.mpr (v299 ..) ?_);exact zib noC n r row j h hn
theorem c_slo (n:Nat)(r:Rd)(s:Cel)(j:Int)(h:OkR r)(hn:r.f.toNat<n):AC Tryz.prog 254 [aRd,aCe s,ci j] (oRd r) (ci (losR n r s j).1) (oRd' (losR n r s j).2):=by
 have he:=c_rentry n r s.b j h hn
 have hs:(z0s n r s.b j).2.s=r.s:=by
  have key:∀ (n:Nat) (r:Rd) (row j:Int),(z0s n r row j).2.s=r.s:=by
   intro n
   induction n with
   | zero=>intro r row j;rfl
   | succ n ih=>
    intro r row j;rw [z0s];split
    · rfl
    · split
      · rfl
      · split
        · rfl
        · split
          · rfl
          · split
            · rfl
            · exact ih _ _ _
  exact key n r s.b j
 have oe:=OkR.entry n s.b j h
 have e0:losR n r s j=if j<s.c then
  if (z0s n r s.b j).1.2=true then
   if (z0s n r s.b j).1.1.t=10 then putR (z0s n r s.b j).2 ⟨3,wr (wr (s.d-1)-(z0s n r s.b j).1.1.b),0,0,0⟩ else z3y (z0s n r s.b j).2 (z0s n r s.b j).1.1.b (wr (s.d-(z0s n r s.b j).1.1.c))
  else putR (z0s n r s.b j).2 ⟨3,wr (wr (j-s.c)+s.d),0,0,0⟩
 else putR r ⟨3,wr (wr (j-s.c)+s.d),0,0,0⟩:=rfl
 generalize z0s n r s.b j=z at*;obtain ⟨⟨c,b⟩,⟨zs,zf,ze⟩⟩:=z;obtain rfl:zs=r.s:=hs;have bnd:=z4d ⟨r.s,zf,ze⟩ ⟨3,wr (wr (j-s.c)+s.d),0,0,0⟩ oe;have lft:=zpa ⟨r.s,zf,ze⟩ c.b (wr (s.d-c.c)) oe;have dum:=z4d ⟨r.s,zf,ze⟩ ⟨3,wr (wr (s.d-1)-c.b),0,0,0⟩ oe;have far:=z4d r ⟨3,wr (wr (j-s.c)+s.d),0,0,0⟩ h;refine AC.vc hP sh lv254 (by simp) (by simp [isLive]) (by simp [isLive]) (Eq.mpr (v254 ..) ?_);refine z01 (fun q=>⟨(c.t,c.a,c.b,c.c,c.d,b,zf,ze),he, ?_⟩) (fun q=> ?_)
 · rw [if_pos (of_decide_eq_true q)] at e0;have low:b=true→c.t≠10→losR n r s j=z3y ⟨r.s,zf,ze⟩ c.b (wr (s.d-c.c)):=fun hb h10=>by rw [e0,if_pos hb,if_neg h10]
   have out:b=false→losR n r s j=putR ⟨r.s,zf,ze⟩ ⟨3,wr (wr (j-s.c)+s.d),0,0,0⟩:=fun hb=>by rw [e0,if_neg (by show¬b=true;rw [hb];decide)]
   refine z01 (fun hb=>z04 (fun h10=> ?_) (fun h10=>z01 (fun _=> ?_) (fun hb2=>absurd (show b=true from hb) (by rw [show b=false from hb2];decide)))) (fun hb=>z01 (fun hb2=>absurd (show b=true from hb2) (by rw [show b=false from hb];decide)) (fun _=> ?_))
   · have hb:b=true:=hb;rw [if_pos hb,if_pos h10] at e0;rw [e0];exact ⟨_,dum, .refl _,rfl⟩
   · rw [low hb h10];exact ⟨_,lft, .refl _,rfl⟩
   · rw [out hb];exact ⟨_,bnd, .refl _,rfl⟩
 · rw [if_neg (of_decide_eq_false q)] at e0;rw [e0];exact ⟨_,far, .refl _,rfl⟩
abbrev oCl (r:Rd)(s:Cel):List AObj:=[.arr 1 [[.a (.ep 1 3 0 0)]],rd3 2 r,hp6 3 4 5 6 r.s, .arz 5 (CR r.s.C), .arz 7 (TR r.s.T), .arz 1 (NR r.s.N), .mapz (NM r.s.N 0), .arr 5 [[.a (.fz (.int .i64 s.t)), .a (.fz (.int .i64 s.a)), .a (.fz (.int .i64 s.b)), .a (.fz (.int .i64 s.c)), .a (.fz (.int .i64 s.d))]]]
abbrev oCl' (r:Rd)(s:Cel):List AObj:=[.arr 1 [[.a (.ep 1 3 0 0)]],rd3 2 r,hp6 8 9 10 6 r.s, .gone, .gone, .gone, .mapz (NM r.s.N 0), .arr 5 [[.a (.fz (.int .i64 s.t)), .a (.fz (.int .i64 s.a)), .a (.fz (.int .i64 s.b)), .a (.fz (.int .i64 s.c)), .a (.fz (.int .i64 s.d))]], .arz 5 (CR r.s.C), .arz 7 (TR r.s.T), .arz 1 (NR r.s.N)]
theorem zan (r:Rd)(s:Cel)(a row more:Int)(h:OkR r):AC Tryz.prog 253 [ci a,ci row,ci more, .c (.a (.ep 0 1 0 0)), .c (.a (.ep 7 5 0 0))] (oCl r s) (ci (z1k r s a row more).1) (oCl' (z1k r s a row more).2 s):=by
 have h1:=z4d r ⟨8,a,row,wr (s.c+more),wr (s.d+more)⟩ h;refine AC.vc hP sh lv253 (by simp) (by simp [isLive]) (by simp [isLive]) (Eq.mpr (v253 ..) ?_);exact ⟨_,h1, .refl _,rfl⟩
theorem c_rbeta (r:Rd)(c:Cel)(arg:Int)(h:OkR r):AC Tryz.prog 193 [aRd,aCe c,ci arg] (oRd r) (ci (z56 r c.a arg).1) (oRd' (z56 r c.a arg).2):=by
 have h1:=z4d r ⟨9,0,0,0,0⟩ h;have h2:=z4d (putR r ⟨9,0,0,0,0⟩).2 ⟨11,(putR r ⟨9,0,0,0,0⟩).1,arg,0,0⟩ (h.put _);have h3:=z4d (putR (putR r ⟨9,0,0,0,0⟩).2 ⟨11,(putR r ⟨9,0,0,0,0⟩).1,arg,0,0⟩).2 ⟨8,c.a,(putR (putR r ⟨9,0,0,0,0⟩).2 ⟨11,(putR r ⟨9,0,0,0,0⟩).1,arg,0,0⟩).1,1,0⟩ ((h.put _).put _);refine AC.vc hP sh lv193 (by simp) (by simp [isLive]) (by simp [isLive]) (Eq.mpr (v193 ..) ?_);exact ⟨_,h1,_,h2,_,h3, .refl _,rfl⟩
end Go.AM

set_option maxRecDepth 100000
open Go Go.Proofs
namespace Go.AM
abbrev stOp (r:Rd)(s c:Cel)(t:Int):St:=
 ⟨[(2, .c (.a (.ep 9 1 0 0))),(3, .c (.a (.ep 10 5 0 0))),(5, .c (.a (.ep 11 5 0 0))),(6,ci t)],[(0,rd3 1 r),(1,hp6 6 7 8 5 r.s),(2, .gone),(3, .gone),(4, .gone),(5, .mapz (NM r.s.N 0)),(6, .arz 5 (CR r.s.C)),(7, .arz 7 (TR r.s.T)),(8, .arz 1 (NR r.s.N)),(9, .arr 1 [[.a (.ep 0 3 0 0)]]),
  (10, .arr 5 [[.a (.fz (.int .i64 s.t)), .a (.fz (.int .i64 s.a)), .a (.fz (.int .i64 s.b)), .a (.fz (.int .i64 s.c)), .a (.fz (.int .i64 s.d))]]),(11, .arr 5 [[.a (.fz (.int .i64 c.t)), .a (.fz (.int .i64 c.a)), .a (.fz (.int .i64 c.b)), .a (.fz (.int .i64 c.c)), .a (.fz (.int .i64 c.d))]])],12⟩
theorem l_ropen8 (n:Nat)(r:Rd)(s c:Cel)(t:Int)(h:OkR r)(hn:r.f.toNat<n):RPt Tryz.prog 191 6 (ci (z5v n c t r s).1) (oRd' (z5v n c t r s).2) 16 (stOp r s c t):=by
 have lo:=c_slo n r s c.a h hn;have p1:=z4d r ⟨10,s.b,s.d,0,0⟩ h;have w1:=zan (putR r ⟨10,s.b,s.d,0,0⟩).2 s c.a (putR r ⟨10,s.b,s.d,0,0⟩).1 1 (h.put _);have q1:=z4d (z1k (putR r ⟨10,s.b,s.d,0,0⟩).2 s c.a (putR r ⟨10,s.b,s.d,0,0⟩).1 1).2 ⟨6,(z1k (putR r ⟨10,s.b,s.d,0,0⟩).2 s c.a (putR r ⟨10,s.b,s.d,0,0⟩).1 1).1,0,0,0⟩ ((h.put _).put _);have a1:=zan r s c.a s.b 0 h;have a2:=zan (z1k r s c.a s.b 0).2 s c.b s.b 0 (h.put _);have a3:=z4d (z1k (z1k r s c.a s.b 0).2 s c.b s.b 0).2 ⟨7,(z1k r s c.a s.b 0).1,(z1k (z1k r s c.a s.b 0).2 s c.b s.b 0).1,0,0⟩ ((h.put _).put _);unfold z5v;refine RPt.vc hP sh zbd (Eq.mpr (v191_16a ..) ?_);refine z04 (fun q=> ?_) (fun q=>z04 (fun q2=> ?_) (fun q2=>z04 (fun q3=> ?_) (fun q3=> ?_)))
 · rw [if_pos q];exact ⟨_,lo, .refl _,rfl⟩
 · rw [if_neg q,if_pos q2];exact ⟨_,p1,_,w1,_,q1, .refl _,rfl⟩
 · rw [if_neg q,if_neg q2,if_pos q3];exact ⟨_,a1,_,a2,_,a3, .refl _,rfl⟩
 · rw [if_neg q,if_neg q2,if_neg q3];exact ⟨.refl _,rfl⟩
theorem zcw (n:Nat)(r:Rd)(s c:Cel)(t:Int)(h:OkR r)(hn:r.f.toNat<n):RPt Tryz.prog 191 6 (ci (z66 n ((c,t),r) s).1) (oRd' (z66 n ((c,t),r) s).2) 12 (stOp r s c t):=by
 have nx:=l_ropen8 n r s c t h hn;have e0:z66 n ((c,t),r) s=if r.e≠0 then (t,r) else if s.c=0∧s.d=0 then (t,r) else z5v n c t r s:=rfl
 rw [e0];refine RPt.vc hP sh zbd (Eq.mpr (v191_12a ..) ?_);refine z0m (fun q=> ?_) (fun q=>z04 (fun q2=>z04 (fun q3=> ?_) (fun q3=> ?_)) (fun q2=> ?_))
 · rw [if_pos q];exact ⟨.refl _,rfl⟩
 · rw [if_neg (fun w=>w q),if_pos ⟨q2,q3⟩];exact ⟨.refl _,rfl⟩
 · rw [if_neg (fun w=>w q),if_neg fun w=>q3 w.2];exact nx
 · rw [if_neg (fun w=>w q),if_neg fun w=>q2 w.1];exact nx
theorem z8f (r:Rd)(a:Int):(z02 r a).2.f≤r.f∧((z02 r a).2.e=0→0<r.f∧(z02 r a).2.f=r.f-1):=by
 unfold z02;have ne:∀ e:Int,e≠0→(z0y r e).f≤r.f∧((z0y r e).e=0→0<r.f∧(z0y r e).f=r.f-1):=fun e he=>⟨Int.le_refl _,fun q=>absurd q (zik r he)⟩;split
 · exact ne 1 (by decide)
 · split
   · exact ne 1 (by decide)
   · split
     · exact ne 1 (by decide)
     · split
       · exact ne 80 (by decide)
       · split
         · rename_i q;exact ⟨Int.le_refl _,fun w=>absurd w q⟩
         · rename_i q _;exact ⟨by dsimp only;omega,fun _=>⟨by omega,rfl⟩⟩
theorem zd6 (r:Rd)(c:Cel):(putR r c).2.f=r.f:=by unfold putR;split<;>rfl
theorem zge (r:Rd)(a b:Int):(z1f r a b).f=r.f:=by unfold z1f;split<;>rfl
theorem lift_f (r:Rd)(a u:Int):(z3y r a u).2.f=r.f:=by unfold z3y;split; · rfl
                                                       · rw [zd6,zd6]
theorem zlt:∀ (n:Nat) (r:Rd) (row j:Int),(z0s n r row j).2.f≤r.f
 | 0,_,_,_=>Int.le_refl _
 | n+1,r,row,j=>by
  rw [z0s];split
  · exact Int.le_refl _
  · split
    · exact Int.le_refl _
    · split
      · exact Int.le_refl _
      · split
        · exact Int.le_refl _
        · split
          · exact Int.le_refl _
          · have:=zlt n ⟨r.s,r.f-1,r.e⟩ (z06 r.s.C row).a (wr (j-1));dsimp only at this;omega
theorem level_f (n:Nat)(c:Cel)(t:Int)(r:Rd)(s:Cel):(z5v n c t r s).2.f≤r.f:=by
 unfold z5v;split
 · have:=zlt n r s.b c.a;unfold losR;split
   · split
     · split
       · rw [zd6];exact this
       · rw [lift_f];exact this
     · rw [zd6];exact this
   · rw [zd6];exact Int.le_refl _
 · split
   · simp only [lamR,z1k,zd6];exact Int.le_refl _
   · split
     · simp only [appR,z1k,zd6];exact Int.le_refl _
     · exact Int.le_refl _
theorem spun_f (n:Nat)(v:(Cel×Int)×Rd)(s:Cel):(z66 n v s).2.f≤v.2.f:=by
 unfold z66;split
 · exact Int.le_refl _
 · split
   · exact Int.le_refl _
   · exact level_f _ _ _ _ _
mutual
theorem zir:∀ (n:Nat) (r:Rd) (s:Cel),(z05 n r s).2.f≤r.f
 | 0,_,_=>Int.le_refl _
 | n+1,r,s=>by
  rw [z05];have:=spun_f (n+1) (z43 n (z02 r s.a)) s;have:=spin_f n (z02 r s.a);have:=(z8f r s.a).1;omega
theorem spin_f:∀ (n:Nat) (v:(Cel×Int)×Rd),(z43 n v).2.f≤v.2.f
 | 0,_=>Int.le_refl _
 | n+1,v=>by
  rw [z43];split
  · have:=spin_f n (z02 (z1f (z05 n v.2 v.1.1).2 v.1.2 (z05 n v.2 v.1.1).1) (z05 n v.2 v.1.1).1);have:=(z8f (z1f (z05 n v.2 v.1.1).2 v.1.2 (z05 n v.2 v.1.1).1) (z05 n v.2 v.1.1).1).1;have:=zge (z05 n v.2 v.1.1).2 v.1.2 (z05 n v.2 v.1.1).1;have:=zir n v.2 v.1.1;omega
  · exact Int.le_refl _
end
abbrev OpenG (n:Nat):Prop:=∀ (r:Rd) (s:Cel),OkR r→2*r.f.toNat+2≤n→AC Tryz.prog 191 [aRd,aCe s] (oRd r) (ci (z05 n r s).1) (oRd' (z05 n r s).2)
theorem zow (N:Nat)(s:Cel):∀ (n:Nat),(∀ m,m≤n→OpenG m)→∀ (c:Cel) (t:Int) (r:Rd),OkR r→2*r.f.toNat+3≤n→n<N→RPt Tryz.prog 191 6 (ci (z66 N (z43 n ((c,t),r)) s).1) (oRd' (z66 N (z43 n ((c,t),r)) s).2) 1 (stOp r s c t)
 | n,hG,c,t,r,h,hn,hN=>by
  cases n with
  | zero=>omega
  | succ n=>
  have stop:=zcw N r s c t h (by omega);have ho:=hG n (by omega) r c h (by omega);have hk:=ze5 (z05 n r c).2 t (z05 n r c).1 (OkR.open n c h);have hv:=zdw (z1f (z05 n r c).2 t (z05 n r c).1) (z05 n r c).1 ((OkR.open n c h).keep _ _);have ov:=((OkR.open n c h).keep t (z05 n r c).1).visit (z05 n r c).1;have f1:=zir n r c;have f2:=zge (z05 n r c).2 t (z05 n r c).1;have f3:=z8f (z1f (z05 n r c).2 t (z05 n r c).1) (z05 n r c).1
  have hs:(z02 (z1f (z05 n r c).2 t (z05 n r c).1) (z05 n r c).1).2.s=(z1f (z05 n r c).2 t (z05 n r c).1).s:=by
   unfold z02;split
   · rfl
   · split
     · rfl
     · split
       · rfl
       · split
         · rfl
         · split<;>rfl
  have e0:z43 (n+1) ((c,t),r)=if r.e=0∧c.t=8 then z43 n (z02 (z1f (z05 n r c).2 t (z05 n r c).1) (z05 n r c).1) else ((c,t),r):=rfl
  rw [e0]
  have nx:r.e=0→c.t=8→RPt Tryz.prog 191 6 (ci (z66 N (z43 n (z02 (z1f (z05 n r c).2 t (z05 n r c).1) (z05 n r c).1)) s).1) (oRd' (z66 N (z43 n (z02 (z1f (z05 n r c).2 t (z05 n r c).1) (z05 n r c).1)) s).2) 1
    (stOp (z02 (z1f (z05 n r c).2 t (z05 n r c).1) (z05 n r c).1).2 s (z02 (z1f (z05 n r c).2 t (z05 n r c).1) (z05 n r c).1).1.1 (z02 (z1f (z05 n r c).2 t (z05 n r c).1) (z05 n r c).1).1.2):=fun _ _=>by
   by_cases q:(z02 (z1f (z05 n r c).2 t (z05 n r c).1) (z05 n r c).1).2.e=0
   · have f4:=f3.2 q;exact zow N s n (fun m hm=>hG m (by omega)) (z02 (z1f (z05 n r c).2 t (z05 n r c).1) (z05 n r c).1).1.1 (z02 (z1f (z05 n r c).2 t (z05 n r c).1) (z05 n r c).1).1.2 (z02 (z1f (z05 n r c).2 t (z05 n r c).1) (z05 n r c).1).2 ov (by omega) (by omega)
   · have e1:z43 n (z02 (z1f (z05 n r c).2 t (z05 n r c).1) (z05 n r c).1)=z02 (z1f (z05 n r c).2 t (z05 n r c).1) (z05 n r c).1:=by
      cases n with
      | zero=>rfl
      | succ n=>rw [z43,if_neg fun w=>q w.1]
     rw [e1];have st:=zcw N (z02 (z1f (z05 n r c).2 t (z05 n r c).1) (z05 n r c).1).2 s (z02 (z1f (z05 n r c).2 t (z05 n r c).1) (z05 n r c).1).1.1 (z02 (z1f (z05 n r c).2 t (z05 n r c).1) (z05 n r c).1).1.2 ov (by omega);refine RPt.vc hP sh zbd (Eq.mpr (zgs ..) ?_);exact z04 (fun w=>absurd w q) (fun _=>st)
  generalize z02 (z1f (z05 n r c).2 t (z05 n r c).1) (z05 n r c).1=v at*;generalize z1f (z05 n r c).2 t (z05 n r c).1=k at*;generalize z05 n r c=o at*;obtain ⟨⟨vc,vt⟩,⟨vs,vf,ve⟩⟩:=v;dsimp only at hs;subst hs;refine RPt.vc hP sh zbd (Eq.mpr (zgs ..) ?_);refine z04 (fun q=>z04 (fun q2=> ?_) (fun q2=> ?_)) (fun q=> ?_)
  · rw [if_pos ⟨q,q2⟩];exact ⟨o,ho,k,hk,(vc.t,vc.a,vc.b,vc.c,vc.d,vt,vf,ve),hv,nx q q2⟩
  · rw [if_neg fun w=>q2 w.2];exact stop
  · rw [if_neg fun w=>q w.1];exact stop
theorem zli (r:Rd)(a:Int):(z02 r a).2.s=r.s:=by
 unfold z02;split
 · rfl
 · split
   · rfl
   · split
     · rfl
     · split
       · rfl
       · split<;>rfl
theorem c_ropen:∀ n:Nat,∀ m,m≤n→OpenG m:=by
 intro n
 induction n with
 | zero=>intro m hm r s _ h;omega
 | succ n ih=>
  intro m hm r s h hn;cases m with
  | zero=>omega
  | succ m=>
  have hv:=zdw r s.a h;have ov:=h.visit s.a;have f1:=z8f r s.a;have hs:=zli r s.a;rw [z05]
  have go:RPt Tryz.prog 191 6 (ci (z66 (m+1) (z43 m (z02 r s.a)) s).1) (oRd' (z66 (m+1) (z43 m (z02 r s.a)) s).2) 1 (stOp (z02 r s.a).2 s (z02 r s.a).1.1 (z02 r s.a).1.2):=by
   by_cases q:(z02 r s.a).2.e=0
   · have f4:=f1.2 q;exact zow (m+1) s m (fun k hk=>ih k (by omega)) (z02 r s.a).1.1 (z02 r s.a).1.2 (z02 r s.a).2 ov (by omega) (by omega)
   · have e1:z43 m (z02 r s.a)=z02 r s.a:=by
      cases m with
      | zero=>rfl
      | succ m=>rw [z43,if_neg fun w=>q w.1]
     rw [e1];have st:=zcw (m+1) (z02 r s.a).2 s (z02 r s.a).1.1 (z02 r s.a).1.2 ov (by have:=f1.1;omega);refine RPt.vc hP sh zbd (Eq.mpr (zgs ..) ?_);exact z04 (fun w=>absurd w q) (fun _=>st)
  generalize z02 r s.a=v at*;obtain ⟨⟨vc,vt⟩,⟨vs,vf,ve⟩⟩:=v;dsimp only at hs;subst hs;refine AC.vc hP sh zbd (by simp) (by simp [isLive]) (by simp [isLive]) (Eq.mpr (v191 ..) ?_);exact ⟨(vc.t,vc.a,vc.b,vc.c,vc.d,vt,vf,ve),hv,go⟩
end Go.AM

set_option maxRecDepth 100000
open Go Go.Proofs
namespace Go.AM
theorem z0d (l:List Int):(IR l).length=l.length:=by simp [IR]
theorem z3a {l:List Int}{i:Nat}(h:i<l.length):List.getD (IR l) i []=[.int .i64 l[i]]:=by simp [IR,List.getD,h]
theorem qIR_app (a b:List Int):IR (a++b)=IR a++IR b:=by simp [IR]
theorem zcs (n:Nat)(l:List Int):List.take n (IR l)=IR (l.take n):=by simp [IR,List.map_take]
theorem zmp (i:Nat)(l:List Int)(x:Int):List.set (IR l) i [.int .i64 x]=IR (l.set i x):=by simp [IR,List.map_set]
theorem ziy (A:List Int)(x y:Int)(B:List Int):(A++x::B).set A.length y=A++y::B:=by simp
theorem zdh (A:List Int)(x:Int)(B:List Int):List.getD (IR (A++x::B)) A.length []=[.int .i64 x]:=by
 rw [z3a (by simp)];simp
theorem l_revi (n:Nat)(hn:n≤1073741824):∀ (k:Nat) (m A Z:List Int),m.length≤k→A.length+m.length≤n→
  RPt Tryz.prog 194 1 (.tup []) [.arz 1 (IR (A++m.reverse++Z))] 1 ⟨[(0, .c (.a (.osl 0 1 0 n))),(2,ci (A.length:Int)),(3,ci ((A.length:Int)+(m.length:Int)-1))],[(0, .arz 1 (IR (A++m++Z)))],1⟩:=by
 intro k
 induction k with
 | zero=>
  intro m A Z hm _;have:m=[]:=List.eq_nil_of_length_eq_zero (by omega);subst this;refine RPt.vc hP sh zb9 (Eq.mpr (z89 ..) ?_);exact z01 (fun h=>absurd (of_decide_eq_true h) (by simp only [List.length_nil];omega)) (fun _=>⟨.refl _,rfl⟩)
 | succ k ih=>
  intro m A Z hm hA;by_cases h2:m.length≤1
  · have e:m.reverse=m:=by
     match m,h2 with
     | [],_=>rfl
     | [x],_=>rfl
    rw [e];refine RPt.vc hP sh zb9 (Eq.mpr (z89 ..) ?_);exact z01 (fun h=>absurd (of_decide_eq_true h) (by omega)) (fun _=>⟨.refl _,rfl⟩)
  · obtain ⟨x,m2,rfl⟩:∃ x m2,m=x::m2:=by
     cases m with
     | nil=>simp at h2
     | cons x m2=>exact ⟨x,m2,rfl⟩
    obtain ⟨m',y,rfl⟩:∃ m' y,m2=m'++ [y]:=by
     have:m2 ≠ []:=fun e=>by rw [e] at h2;simp at h2
     exact ⟨m2.dropLast,m2.getLast this,(List.dropLast_concat_getLast this).symm⟩
    simp only [List.length_cons,List.length_append,List.length_nil] at hm hA;have nx:=ih m' (A++ [y]) (x::Z) (by omega) (by simp;omega);have e1:A++(x::(m'++ [y]))++Z=A++x::(m'++y::Z):=by simp
    have e2:A++(x::(m'++ [y]))++Z=(A++x::m')++y::Z:=by simp
    have e3:(A++y::m')++y::Z=A++y::(m'++y::Z):=by simp
    have l1:(A++x::m').length=A.length+m'.length+1:=by simp;omega
    have l1':(A++y::m').length=A.length+m'.length+1:=by simp;omega
    have t2:Int.toNat (A.length:Int)=A.length:=by omega
    have t3:Int.toNat ((A.length:Int)+(((x::(m'++ [y])).length:Nat):Int)-1)=A.length+m'.length+1:=by simp only [List.length_cons,List.length_append,List.length_nil];omega
    have g2:List.getD (IR (A++(x::(m'++ [y]))++Z)) (0+A.length) []=[.int .i64 x]:=by rw [Nat.zero_add,e1,zdh]
    have g3:List.getD (IR (A++(x::(m'++ [y]))++Z)) (0+(A.length+m'.length+1)) []=[.int .i64 y]:=by rw [Nat.zero_add,e2,←l1,zdh]
    have s1:List.set (IR (A++(x::(m'++ [y]))++Z)) (0+A.length) [.int .i64 y]=IR ((A++y::m')++y::Z):=by rw [Nat.zero_add,e1,zmp,ziy,e3]
    have s2:List.set (IR ((A++y::m')++y::Z)) (0+(A.length+m'.length+1)) [.int .i64 x]=IR ((A++y::m')++x::Z):=by rw [Nat.zero_add,zmp,←l1',ziy]
    have len0:(IR (A++(x::(m'++ [y]))++Z)).length=A.length+m'.length+2+Z.length:=by rw [z0d];simp;omega
    have len1:(IR ((A++y::m')++y::Z)).length=A.length+m'.length+2+Z.length:=by rw [z0d];simp;omega
    have g4:(List.getD (IR ((A++y::m')++y::Z)) (0+(A.length+m'.length+1)) []).length=1:=by rw [Nat.zero_add,←l1',zdh];rfl
    refine RPt.vc hP sh zb9 (Eq.mpr (z89 ..) ?_);rw [t2,t3,g2,g3];have a2:FV.I (List.getD [.int .i64 x] 0 FV.N)=x:=rfl;have a3:FV.I (List.getD [.int .i64 y] 0 FV.N)=y:=rfl;rw [a2,a3,s1,s2,w64 (x:=(A.length:Int)+1) (by omega) (by omega),w64 (x:=(A.length:Int)+(((x::(m'++ [y])).length:Nat):Int)-1-1) (by simp only [List.length_cons,List.length_append,List.length_nil];omega) (by simp only [List.length_cons,List.length_append,List.length_nil];omega)];have er:A++(x::(m'++ [y])).reverse++Z=A++ [y]++m'.reverse++(x::Z):=by simp
    rw [er];have e5:A++ [y]++m'++(x::Z)=(A++y::m')++x::Z:=by simp
    rw [e5] at nx;have n1:(((A++ [y]).length:Nat):Int)=(A.length:Int)+1:=by simp
    have n2:(((A++ [y]).length:Nat):Int)+(m'.length:Int)-1=(A.length:Int)+(((x::(m'++ [y])).length:Nat):Int)-1-1:=by simp only [List.length_cons,List.length_append,List.length_nil];omega
    rw [n2,n1] at nx;have b3:(0:Int)≤(A.length:Int)+(((x::(m'++ [y])).length:Nat):Int)-1∧(A.length:Int)+(((x::(m'++ [y])).length:Nat):Int)-1<(n:Int):=by simp only [List.length_cons,List.length_append,List.length_nil];omega
    exact z01 (fun _=>⟨b3,⟨by omega,rfl,rfl⟩,⟨by omega,by omega⟩,⟨by omega,rfl,rfl⟩,⟨by omega,by omega⟩,⟨by omega,rfl⟩,b3,⟨by omega,g4⟩,nx⟩) (fun h=>absurd (of_decide_eq_false h) (by simp only [List.length_cons,List.length_append,List.length_nil];omega))
theorem c_revi (js:List Int)(n:Nat)(hn:n≤js.length)(hB:n≤1073741824):AC Tryz.prog 194 [.c (.a (.osl 0 1 0 n))] [.arz 1 (IR js)] (.tup []) [.arz 1 (IR ((js.take n).reverse++js.drop n))]:=by
 have l:=l_revi n hB n (js.take n) [] (js.drop n) (by simp;omega) (by simp;omega);rw [List.nil_append,List.nil_append,List.take_append_drop,List.length_take,Nat.min_eq_left hn,List.length_nil] at l;refine AC.vc hP sh zb9 (Nat.le_refl _) (by simp [isLive]) (by simp) (Eq.mpr (v194_i1 ..) ?_);rw [w64 (by omega) (by omega)];have e:(((0:Nat):Int)+(n:Int)-1)=(n:Int)-1:=by omega
 rw [e] at l;exact l
theorem c_revi0:AC Tryz.prog 194 [.c (.a (.fz .N))] [] (.tup []) []:=by
 have h:AC Tryz.prog 194 [.c (.a (.fz (.sl false 1 [])))] [] (.tup []) []:=by
  refine AC.vc hP sh zb9 (Nat.le_refl _) (by simp) (by simp) (Eq.mpr (v194 ..) ?_);refine ⟨rfl,RPt.vc hP sh zb9 (Eq.mpr (v194_1a ..) ?_)⟩;exact z01 (fun h=>absurd (of_decide_eq_true h) (by decide)) (fun _=>⟨.refl _,rfl⟩)
 exact h.args ⟨le_c (.N 1),trivial⟩
structure HdS where
 l:List Int
 b:Bool
 a:Int
 r:Rd
def headL:Nat→List Int→Bool→Int→Rd→HdS
 | 0,l,b,a,r=>⟨l,b,a,r⟩
 | n+1,l,b,a,r=>
  if r.e≠0 then ⟨l,b,a,r⟩
  else if (z02 r a).2.e≠0 then ⟨l,b,(z02 r a).1.2,(z02 r a).2⟩
  else if (z02 r a).1.1.t=7 then headL n ((z02 r a).1.1.b::l) b (z02 r a).1.1.a (z02 r a).2
  else if (z02 r a).1.1.t=8 then headL n l b (z05 n (z02 r a).2 (z02 r a).1.1).1 (z1f (z05 n (z02 r a).2 (z02 r a).1.1).2 (z02 r a).1.2 (z05 n (z02 r a).2 (z02 r a).1.1).1)
  else if (z02 r a).1.1.t=6 then
   if l=[] then ⟨l,b,(z02 r a).1.2,(z02 r a).2⟩
   else headL n l.tail true (z56 (z02 r a).2 (z02 r a).1.1.a (l.headD 0)).1 (z56 (z02 r a).2 (z02 r a).1.1.a (l.headD 0)).2
  else ⟨l,b,(z02 r a).1.2,(z02 r a).2⟩
def z50:List Int→Int→Rd→Int×Rd
 | [],f,r=>(f,r)
 | x::l,f,r=>z50 l (putR r ⟨7,f,x,0,0⟩).1 (putR r ⟨7,f,x,0,0⟩).2
def z65 (root:Int)(h:HdS):(Int×List Int)×Rd:=
 ((h.a,h.l),if h.b=true then z1f (z50 h.l h.a h.r).2 (z2l (z50 h.l h.a h.r).2.s.C root) (z50 h.l h.a h.r).1 else h.r)
def z0q (n:Nat)(r:Rd)(root:Int):(Int×List Int)×Rd:=z65 root (headL n [] false root r)
theorem OkR.apps:∀ (l:List Int) (f:Int) {r:Rd},OkR r→OkR (z50 l f r).2
 | [],_,_,h=>h
 | x::l,f,r,h=>by rw [z50];exact OkR.apps l _ (h.put _)
theorem OkR.headL:∀ (n:Nat) (l:List Int) (b:Bool) (a:Int) {r:Rd},OkR r→OkR (Go.AM.headL n l b a r).r
 | 0,_,_,_,_,h=>h
 | n+1,l,b,a,r,h=>by
  have v:=h.visit a;rw [Go.AM.headL];split
  · exact h
  · split
    · exact v
    · split
      · exact OkR.headL n _ _ _ v
      · split
        · exact OkR.headL n _ _ _ ((OkR.open _ _ v).keep _ _)
        · split
          · split
            · exact v
            · exact OkR.headL n _ _ _ (v.beta _ _)
          · exact v
theorem OkR.head (n:Nat){r:Rd}(root:Int)(h:OkR r):OkR (z0q n r root).2:=by
 have h1:=OkR.headL n [] false root h;show OkR (if _ then _ else _)
 split
 · exact (OkR.apps _ _ h1).keep _ _
 · exact h1
abbrev aSpn (x:Int×List Int):TV:= .agg [.a (.fz (.int .i64 x.1)), .a (.fz (.sl false 1 (IR x.2)))]
abbrev hpH (r:Rd)(z:Int)(more:List (Nat×AObj)):AHeap:=[(0,rd3 1 r),(1,hp6 6 7 8 5 r.s),(2, .gone),(3, .gone),(4, .gone),(5, .mapz (NM r.s.N 0)),(6, .arz 5 (CR r.s.C)),(7, .arz 7 (TR r.s.T)),(8, .arz 1 (NR r.s.N)),(9, .arr 2 [[.a (.fz (.int .i64 z)), .a (.fz .N)]])]++more
abbrev stA (r:Rd)(root a z:Int)(b:Bool):St:=⟨[(0,aRd),(1,ci root),(4, .c (.a (.ep 9 2 0 0))),(5, .c (.a (.fz .N))),(6,cb b),(7,ci a)],hpH r z [],10⟩
abbrev stB (r:Rd)(root a z:Int)(b:Bool)(n:Nat)(js:List Int):St:=⟨[(0,aRd),(1,ci root),(4, .c (.a (.ep 9 2 0 0))),(5, .c (.a (.osl 10 1 0 n))),(6,cb b),(7,ci a)],hpH r z [(10, .arz 1 (IR js))],11⟩
theorem zf7 (root h z:Int)(l0:List Int)(js:List Int)(hjs:js.take l0.length=l0)(hl0:l0.length≤1073741824):∀ (l pre:List Int) (f:Int) (r:Rd),l0=pre++l→OkR r→
  RPt Tryz.prog 128 6 (aSpn (h,l0)) (oRd' (z1f (z50 l f r).2 (z2l (z50 l f r).2.s.C root) (z50 l f r).1)) 7
   ⟨[(0,aRd),(1,ci root),(4, .c (.a (.ep 9 2 0 0))),(5, .c (.a (.osl 10 1 0 l0.length))),(7,ci h),(10,ci f),(81, .c (.a (.osl 10 1 0 l0.length))),(82,ci (l0.length:Int)),(83,ci (pre.length:Int))],hpH r z [(10, .arz 1 (IR js))],11⟩
 | [],pre,f,r,hl,ok=>by
  have hd:=zcn r.s (by have:=ok.h.C;omega) root;have hk:=ze5 r (z2l r.s.C root) f ok;rw [List.append_nil] at hl
  have len:l0.length≤js.length:=by
   have:=congrArg List.length hjs;rw [List.length_take] at this;omega
  refine RPt.vc hP sh z2x (Eq.mpr (zmn ..) ?_);refine z01 (fun q=>absurd (of_decide_eq_true q) (by rw [hl];omega)) (fun _=>⟨_,hd,_,hk,⟨rfl,by rw [z0d];omega⟩, ?_,rfl⟩);rw [List.drop_zero,zcs,hjs];exact .refl _
 | x::l,pre,f,r,hl,ok=>by
  have hp:=z4d r ⟨7,f,x,0,0⟩ ok;have nx:=zf7 root h z l0 js hjs hl0 l (pre++ [x]) (putR r ⟨7,f,x,0,0⟩).1 (putR r ⟨7,f,x,0,0⟩).2 (by rw [hl];simp) (ok.put _);have hlen:l0.length=pre.length+(l.length+1):=by rw [hl];simp
  have len:l0.length≤js.length:=by
   have:=congrArg List.length hjs;rw [List.length_take] at this;omega
  have hg:List.getD (IR js) (0+Int.toNat (pre.length:Int)) []=[.int .i64 x]:=by
   rw [Nat.zero_add,show Int.toNat (pre.length:Int)=pre.length by omega];have h1:(js.take l0.length)[pre.length]? =some x:=by rw [hjs,hl];simp
   rw [List.getElem?_take_of_lt (by omega)] at h1;have hlt:pre.length<js.length:=by omega
   rw [List.getElem?_eq_getElem hlt] at h1;injection h1 with h1
   rw [z3a hlt,h1]
  rw [show (((pre++ [x]).length:Nat):Int)=(pre.length:Int)+1 by simp] at nx;refine RPt.vc hP sh z2x (Eq.mpr (zmn ..) ?_);rw [hg,w64 (x:=(pre.length:Int)+1) (by omega) (by omega)];exact z01 (fun _=>⟨⟨by omega,by omega⟩,⟨by rw [z0d];omega,rfl,rfl⟩,_,hp,nx⟩) (fun q=>absurd (of_decide_eq_false q) (by omega))
theorem zl0 (root z:Int)(l js:List Int)(hjs:js.take l.length=l.reverse)(hl:l.length≤1073741824)(b:Bool)(a:Int)(r:Rd)(ok:OkR r):
  RPt Tryz.prog 128 6 (aSpn (z65 root ⟨l,b,a,r⟩).1) (oRd' (z65 root ⟨l,b,a,r⟩).2) 36 (stB r root a z b l.length js):=by
 have len:l.length≤js.length:=by
  have:=congrArg List.length hjs;rw [List.length_take,List.length_reverse] at this;omega
 have hr:=c_revi js l.length len hl;rw [hjs,List.reverse_reverse] at hr;have e0:z65 root ⟨l,b,a,r⟩=((a,l),if b=true then z1f (z50 l a r).2 (z2l (z50 l a r).2.s.C root) (z50 l a r).1 else r):=rfl
 rw [e0];have nx:=zf7 root a z l (l++js.drop l.length) (List.take_left ..) hl l [] a r rfl ok;refine RPt.vc hP sh z2x (Eq.mpr (v128_36b ..) ?_);refine ⟨_,hr,z01 (fun q=> ?_) (fun q=>⟨⟨rfl,by rw [z0d,List.length_append];omega⟩, ?_, ?_⟩)⟩
 · rw [if_pos (show b=true from q)];exact nx
 · rw [List.drop_zero,zcs,List.take_left];exact .refl _
 · rw [if_neg (show¬b=true by rw [show b=false from q];decide)]
theorem zk6 (root z:Int)(b:Bool)(a:Int)(r:Rd)(ok:OkR r):
  RPt Tryz.prog 128 6 (aSpn (z65 root ⟨[],b,a,r⟩).1) (oRd' (z65 root ⟨[],b,a,r⟩).2) 36 (stA r root a z b):=by
 have hd:=zcn r.s (by have:=ok.h.C;omega) root;have hk:=ze5 r (z2l r.s.C root) a ok;have e0:z65 root ⟨[],b,a,r⟩=((a,[]),if b=true then z1f r (z2l r.s.C root) a else r):=rfl
 rw [e0];have le:TV.Le (.agg [.a (.fz (.int .i64 a)), .a (.fz .N)]) (aSpn (a,[])):=le_agg (a:=[.int .i64 a, .N]) (b:=[.int .i64 a, .sl false 1 (IR [])]) ⟨.refl _, .N 1,trivial⟩;refine RPt.vc hP sh z2x (Eq.mpr (v128_36a ..) ?_);refine ⟨[],c_revi0,z01 (fun q=>⟨rfl, ?_⟩) (fun q=>⟨le, ?_⟩)⟩
 · rw [if_pos (show b=true from q)];refine RPt.vc hP sh z2x (Eq.mpr (v128_7a ..) ?_);exact z01 (fun q=>absurd (of_decide_eq_true q) (by decide)) (fun _=>⟨_,hd,_,hk,le,rfl⟩)
 · rw [if_neg (show¬b=true by rw [show b=false from q];decide)]
theorem beta_f (r:Rd)(b x:Int):(z56 r b x).2.f=r.f:=by simp only [z56,zd6]
theorem ze0 (root z:Int):∀ (n:Nat) (l:List Int) (b:Bool) (a:Int) (r:Rd),OkR r→2*r.f.toNat+2≤n→l.length+r.f.toNat≤1000000000→
  (l=[]→RPt Tryz.prog 128 6 (aSpn (z65 root (headL n l b a r)).1) (oRd' (z65 root (headL n l b a r)).2) 1 (stA r root a z b))∧
  (∀ js:List Int,js.take l.length=l.reverse→RPt Tryz.prog 128 6 (aSpn (z65 root (headL n l b a r)).1) (oRd' (z65 root (headL n l b a r)).2) 1 (stB r root a z b l.length js))
 | 0,_,_,_,_,_,h,_=>absurd h (by omega)
 | n+1,l,b,a,r,ok,hn,hl=>by
  have hv:=zdw r a ok;have ov:=ok.visit a;have vf:=z8f r a;have vs:=zli r a
  have e0:headL (n+1) l b a r=if r.e≠0 then ⟨l,b,a,r⟩
   else if (z02 r a).2.e≠0 then ⟨l,b,(z02 r a).1.2,(z02 r a).2⟩
   else if (z02 r a).1.1.t=7 then headL n ((z02 r a).1.1.b::l) b (z02 r a).1.1.a (z02 r a).2
   else if (z02 r a).1.1.t=8 then headL n l b (z05 n (z02 r a).2 (z02 r a).1.1).1 (z1f (z05 n (z02 r a).2 (z02 r a).1.1).2 (z02 r a).1.2 (z05 n (z02 r a).2 (z02 r a).1.1).1)
   else if (z02 r a).1.1.t=6 then
    if l=[] then ⟨l,b,(z02 r a).1.2,(z02 r a).2⟩
    else headL n l.tail true (z56 (z02 r a).2 (z02 r a).1.1.a (l.headD 0)).1 (z56 (z02 r a).2 (z02 r a).1.1.a (l.headD 0)).2
   else ⟨l,b,(z02 r a).1.2,(z02 r a).2⟩:=rfl
  generalize hvr:z02 r a=v at*;obtain ⟨⟨c,t⟩,⟨vs',vf',ve'⟩⟩:=v;dsimp only at vs vf e0 ov hv;subst vs
  have fin:∀ (l:List Int) (b:Bool) (a:Int) (r:Rd),OkR r→l.length≤1000000000→headL (n+1) l b a r=headL (n+1) l b a r→
   (l=[]→RPt Tryz.prog 128 6 (aSpn (z65 root ⟨l,b,a,r⟩).1) (oRd' (z65 root ⟨l,b,a,r⟩).2) 36 (stA r root a z b))∧(∀ js:List Int,js.take l.length=l.reverse→RPt Tryz.prog 128 6 (aSpn (z65 root ⟨l,b,a,r⟩).1) (oRd' (z65 root ⟨l,b,a,r⟩).2) 36 (stB r root a z b l.length js)):=
   fun l b a r ok hl _=>⟨fun e=>by subst e;exact zk6 root z b a r ok,fun js hjs=>zl0 root z l js hjs (by omega) b a r ok⟩
  by_cases q0:r.e=0
  · rw [if_neg (fun w=>w q0)] at e0;have f1:=vf.1;by_cases q1:ve'=0
    · rw [if_neg (fun w=>w q1)] at e0;obtain ⟨f2,f3⟩:=vf.2 q1;by_cases q2:c.t=7
      · rw [if_pos q2] at e0;have ih:=ze0 root z n (c.b::l) b c.a ⟨r.s,vf',ve'⟩ ov (by dsimp only;omega) (by simp only [List.length_cons];omega);rw [e0];refine ⟨fun e=> ?_,fun js hjs=> ?_⟩
        · subst e;have:=ih.2 [c.b] rfl;refine RPt.vc hP sh z2x (Eq.mpr (z87 ..) ?_);exact z04 (fun _=>⟨(c.t,c.a,c.b,c.c,c.d,t,vf',ve'),hv,z0m (fun w=>absurd q1 w) (fun _=>z04 (fun _=>⟨Nat.le_refl _,by simp only [z0h];omega,this⟩) (fun w=>absurd q2 w))⟩) (fun w=>absurd q0 w)
        · have len:l.length≤js.length:=by
           have:=congrArg List.length hjs;rw [List.length_take,List.length_reverse] at this;omega
          have:=ih.2 (js.take l.length++ [c.b]) (by rw [hjs,List.reverse_cons];exact List.take_of_length_le (by simp));have e9:IR (js.take l.length++ [c.b])=List.take l.length (IR js)++ [[.int .i64 c.b]]:=by rw [qIR_app,←zcs];rfl
          simp only [stB,hpH] at this;rw [e9] at this;refine RPt.vc hP sh z2x (Eq.mpr (z6l ..) ?_);exact z04 (fun _=>⟨(c.t,c.a,c.b,c.c,c.d,t,vf',ve'),hv,z0m (fun w=>absurd q1 w) (fun _=>z04 (fun _=>⟨Nat.le_refl _,⟨by rw [z0d];omega,by simp only [z0h];omega⟩,this⟩) (fun w=>absurd q2 w))⟩) (fun w=>absurd q0 w)
      · rw [if_neg q2] at e0;by_cases q3:c.t=8
        · rw [if_pos q3] at e0;have ho:=c_ropen n n (Nat.le_refl _) ⟨r.s,vf',ve'⟩ c ov (by dsimp only;omega);have oo:=OkR.open n c ov;have hk:=ze5 (z05 n ⟨r.s,vf',ve'⟩ c).2 t (z05 n ⟨r.s,vf',ve'⟩ c).1 oo;have g1:=zir n ⟨r.s,vf',ve'⟩ c;have g2:=zge (z05 n ⟨r.s,vf',ve'⟩ c).2 t (z05 n ⟨r.s,vf',ve'⟩ c).1;dsimp only at g1;have ih:=ze0 root z n l b (z05 n ⟨r.s,vf',ve'⟩ c).1 (z1f (z05 n ⟨r.s,vf',ve'⟩ c).2 t (z05 n ⟨r.s,vf',ve'⟩ c).1) (oo.keep _ _) (by rw [g2];omega) (by rw [g2];omega);rw [e0];refine ⟨fun e=> ?_,fun js hjs=> ?_⟩
          · have:=ih.1 e;refine RPt.vc hP sh z2x (Eq.mpr (z87 ..) ?_);exact z04 (fun _=>⟨(c.t,c.a,c.b,c.c,c.d,t,vf',ve'),hv,z0m (fun w=>absurd q1 w) (fun _=>z04 (fun w=>absurd w q2) (fun _=>z04 (fun _=>⟨_,ho,_,hk,this⟩) (fun w=>absurd q3 w)))⟩) (fun w=>absurd q0 w)
          · have:=ih.2 js hjs;refine RPt.vc hP sh z2x (Eq.mpr (z6l ..) ?_);exact z04 (fun _=>⟨(c.t,c.a,c.b,c.c,c.d,t,vf',ve'),hv,z0m (fun w=>absurd q1 w) (fun _=>z04 (fun w=>absurd w q2) (fun _=>z04 (fun _=>⟨_,ho,_,hk,this⟩) (fun w=>absurd q3 w)))⟩) (fun w=>absurd q0 w)
        · rw [if_neg q3] at e0;have stop:=fin l b t ⟨r.s,vf',ve'⟩ ov (by omega) rfl;by_cases q4:c.t=6
          · rw [if_pos q4] at e0;by_cases q5:l=[]
            · rw [if_pos q5] at e0;rw [e0];refine ⟨fun e=> ?_,fun js hjs=> ?_⟩
              · have:=stop.1 e;refine RPt.vc hP sh z2x (Eq.mpr (z87 ..) ?_);exact z04 (fun _=>⟨(c.t,c.a,c.b,c.c,c.d,t,vf',ve'),hv,z0m (fun w=>absurd q1 w) (fun _=>z04 (fun w=>absurd w q2) (fun _=>z04 (fun w=>absurd w q3) (fun _=>z04 (fun _=>⟨rfl,this⟩) (fun w=>absurd q4 w))))⟩) (fun w=>absurd q0 w)
              · have:=stop.2 js hjs;refine RPt.vc hP sh z2x (Eq.mpr (z6l ..) ?_);exact z04 (fun _=>⟨(c.t,c.a,c.b,c.c,c.d,t,vf',ve'),hv,z0m (fun w=>absurd q1 w) (fun _=>z04 (fun w=>absurd w q2) (fun _=>z04 (fun w=>absurd w q3) (fun _=>z04 (fun _=>z01 (fun w=>absurd (of_decide_eq_true w) (by rw [q5];simp)) (fun _=>this)) (fun w=>absurd q4 w))))⟩) (fun w=>absurd q0 w)
            · rw [if_neg q5] at e0
              obtain ⟨x,l',rfl⟩:∃ x l',l=x::l':=by
               cases l with
               | nil=>exact absurd rfl q5
               | cons x l'=>exact ⟨x,l',rfl⟩
              simp only [List.length_cons] at hl;have hb:=c_rbeta ⟨r.s,vf',ve'⟩ c x ov;have bf:=beta_f ⟨r.s,vf',ve'⟩ c.a x;dsimp only at bf;have ih:=ze0 root z n l' true (z56 ⟨r.s,vf',ve'⟩ c.a x).1 (z56 ⟨r.s,vf',ve'⟩ c.a x).2 (ov.beta _ _) (by rw [bf];omega) (by rw [bf];omega);refine ⟨fun e=>(by cases e),fun js hjs=> ?_⟩;have e1:headL (n+1) (x::l') b a r=headL n l' true (z56 ⟨r.s,vf',ve'⟩ c.a x).1 (z56 ⟨r.s,vf',ve'⟩ c.a x).2:=e0;rw [e1]
              have len:l'.length+1≤js.length:=by
               have:=congrArg List.length hjs;rw [List.length_take,List.length_reverse,List.length_cons] at this;omega
              have hjs':js.take l'.length=l'.reverse∧js[l'.length]? =some x:=by
               have h1:js.take (l'.length+1)=l'.reverse++ [x]:=by rw [List.length_cons] at hjs;rw [hjs,List.reverse_cons]
               refine ⟨?_, ?_⟩
               · have:=congrArg (List.take l'.length) h1;rw [List.take_take,Nat.min_eq_left (by omega),List.take_left' (by simp)] at this;exact this
               · have:(js.take (l'.length+1))[l'.length]? =some x:=by rw [h1];simp
                 rwa [List.getElem?_take_of_lt (by omega)] at this
              have:=ih.2 js hjs'.1
              have ew:wr ((((x::l').length:Nat):Int)-1)=(l'.length:Int):=by
               rw [wr,w64 (by simp only [List.length_cons];omega) (by simp only [List.length_cons];omega)];simp only [List.length_cons];omega
              have hlt:l'.length<js.length:=by omega
              have hg:List.getD (IR js) (0+Int.toNat (l'.length:Int)) []=[.int .i64 x]:=by
               rw [Nat.zero_add,Int.toNat_natCast,z3a hlt];have h2:=hjs'.2;rw [List.getElem?_eq_getElem hlt] at h2;injection h2 with h2
               rw [h2]
              refine RPt.vc hP sh z2x (Eq.mpr (z6l ..) ?_);have ew:IntKind.wrap .i64 ((((x::l').length:Nat):Int)-1)=(l'.length:Int):=ew;rw [ew,hg];refine z04 (fun _=>⟨(c.t,c.a,c.b,c.c,c.d,t,vf',ve'),hv,z0m (fun w=>absurd q1 w) (fun _=>z04 (fun w=>absurd w q2) (fun _=>z04 (fun w=>absurd w q3) (fun _=>z04 (fun _=>z01 (fun _=> ?_) (fun w=>absurd (of_decide_eq_false w) (by simp only [List.length_cons];omega))) (fun w=>absurd q4 w))))⟩) (fun w=>absurd q0 w);refine ⟨⟨by omega,by simp only [List.length_cons];omega⟩,⟨by rw [z0d,Int.toNat_natCast];omega,rfl,rfl⟩,z56 ⟨r.s,vf',ve'⟩ c.a x,hb,⟨by omega,by omega,by simp only [List.length_cons];omega⟩, ?_⟩;rw [Int.toNat_natCast];exact this
          · rw [if_neg q4] at e0;rw [e0];refine ⟨fun e=> ?_,fun js hjs=> ?_⟩
            · have:=stop.1 e;refine RPt.vc hP sh z2x (Eq.mpr (z87 ..) ?_);exact z04 (fun _=>⟨(c.t,c.a,c.b,c.c,c.d,t,vf',ve'),hv,z0m (fun w=>absurd q1 w) (fun _=>z04 (fun w=>absurd w q2) (fun _=>z04 (fun w=>absurd w q3) (fun _=>z04 (fun w=>absurd w q4) (fun _=>this))))⟩) (fun w=>absurd q0 w)
            · have:=stop.2 js hjs;refine RPt.vc hP sh z2x (Eq.mpr (z6l ..) ?_);exact z04 (fun _=>⟨(c.t,c.a,c.b,c.c,c.d,t,vf',ve'),hv,z0m (fun w=>absurd q1 w) (fun _=>z04 (fun w=>absurd w q2) (fun _=>z04 (fun w=>absurd w q3) (fun _=>z04 (fun w=>absurd w q4) (fun _=>this))))⟩) (fun w=>absurd q0 w)
    · rw [if_pos q1] at e0;have stop:=fin l b t ⟨r.s,vf',ve'⟩ ov (by omega) rfl;rw [e0];refine ⟨fun e=> ?_,fun js hjs=> ?_⟩
      · have:=stop.1 e;refine RPt.vc hP sh z2x (Eq.mpr (z87 ..) ?_);exact z04 (fun _=>⟨(c.t,c.a,c.b,c.c,c.d,t,vf',ve'),hv,z0m (fun _=>this) (fun w=>absurd w q1)⟩) (fun w=>absurd q0 w)
      · have:=stop.2 js hjs;refine RPt.vc hP sh z2x (Eq.mpr (z6l ..) ?_);exact z04 (fun _=>⟨(c.t,c.a,c.b,c.c,c.d,t,vf',ve'),hv,z0m (fun _=>this) (fun w=>absurd w q1)⟩) (fun w=>absurd q0 w)
  · rw [if_pos q0] at e0;have stop:=fin l b a r ok (by omega) rfl;rw [e0];refine ⟨fun e=> ?_,fun js hjs=> ?_⟩
    · have:=stop.1 e;refine RPt.vc hP sh z2x (Eq.mpr (z87 ..) ?_);exact z04 (fun w=>absurd w q0) (fun _=>this)
    · have:=stop.2 js hjs;refine RPt.vc hP sh z2x (Eq.mpr (z6l ..) ?_);exact z04 (fun w=>absurd w q0) (fun _=>this)
theorem zla (n:Nat)(r:Rd)(root:Int)(ok:OkR r)(hn:2*r.f.toNat+2≤n)(hf:r.f≤1000000000):AC Tryz.prog 128 [aRd,ci root] (oRd r) (aSpn (z0q n r root).1) (oRd' (z0q n r root).2):=by
 have h:=(ze0 root 0 n [] false root r ok hn (by simp only [List.length_nil];omega)).1 rfl;unfold z0q;refine AC.vc hP sh z2x (by simp) (by simp [isLive]) (by simp [isLive]) (Eq.mpr (v128 ..) ?_);exact h
end Go.AM

set_option maxRecDepth 100000
open Go Go.Proofs
namespace Go.AM
def zjc (c:Int):Bool:=decide (97≤c)&&decide (c≤122)
def zlj (c:Int):Bool:=decide (65≤c)&&decide (c≤90)||c==95
def zm6 (c:Int):Bool:=decide (48≤c)&&decide (c≤57)
def z5l (c:Int):Bool:=zjc c||zlj c||zm6 c||c==39
def signs:List UInt8:=[43,45,42,47,60,62,61,38,124,94,126,64,35,36,63,58]
def zi3 (c:Int):Bool:=decide (Lib.indexByte signs c.toNat.toUInt8≥0)
theorem zlq (c:Int):AC Tryz.prog 136 [c8 c] [] (cb (zjc c)) []:=by
 refine AC.vc hP sh lv136 (Nat.le_refl _) (by simp) (by simp) (Eq.mpr (v136 ..) ?_);refine z01 (fun h=>z0i ?_) (fun h=>z0i ?_)<;>simp_all [zjc]<;>omega
theorem c_great (c:Int):AC Tryz.prog 198 [c8 c] [] (cb (zlj c)) []:=by
 refine AC.vc hP sh lv198 (Nat.le_refl _) (by simp) (by simp) (Eq.mpr (v198 ..) ?_);refine z01 (fun h=>z01 (fun h=>z0i ?_) (fun h=>z0i ?_)) (fun h=>z0i ?_)<;>simp_all [zlj]<;>omega
theorem c_digit (c:Int):AC Tryz.prog 199 [c8 c] [] (cb (zm6 c)) []:=by
 refine AC.vc hP sh lv199 (Nat.le_refl _) (by simp) (by simp) (Eq.mpr (v199 ..) ?_);refine z01 (fun h=>z0i ?_) (fun h=>z0i ?_)<;>simp_all [zm6]<;>omega
theorem c_inside (c:Int):AC Tryz.prog 138 [c8 c] [] (cb (z5l c)) []:=by
 refine AC.vc hP sh lv138 (Nat.le_refl _) (by simp) (by simp) (Eq.mpr (v138 ..) ?_);refine ⟨_,zlq c,z01 (fun h=>z0i ?_) (fun h=>⟨_,c_great c,z01 (fun h=>z0i ?_) (fun h=>⟨_,c_digit c,z01 (fun h=>z0i ?_) (fun h=>z0i ?_)⟩)⟩)⟩<;>simp_all [z5l]
theorem zfj (s:List UInt8)(c:Int):AC Tryz.prog 257 [cs s,c8 c] [] (ci (Lib.indexByte s c.toNat.toUInt8)) []:=
 AC.str_u8 (by kernel_rfl) fun w=>Tryz.stringslite_IndexByte ⟨s.toArray⟩ c w
theorem zhb (s:List UInt8)(c:Int):AC Tryz.prog 200 [cs s,c8 c] [] (ci (Lib.indexByte s c.toNat.toUInt8)) []:=
 AC.str_u8 (by kernel_rfl) fun w=>Tryz.strings_IndexByte ⟨s.toArray⟩ c w
theorem c_sign (c:Int):AC Tryz.prog 139 [c8 c] [] (cb (zi3 c)) []:=by
 refine AC.vc hP sh lv139 (Nat.le_refl _) (by simp) (by simp) (Eq.mpr (v139 ..) ?_);exact ⟨_,zhb _ c,z0i rfl⟩
def runN (p:Int→Bool):List UInt8→Nat
 | []=>0
 | c::s=>if p (c.toNat:Int) then runN p s+1 else 0
theorem zns (p:Int→Bool):∀ s:List UInt8,runN p s≤s.length
 | []=>Nat.le_refl _
 | c::s=>by have:=zns p s;simp only [runN,List.length_cons];split<;>omega
theorem zp8 (a:List UInt8)(c:UInt8)(b:List UInt8):List.getD (a++c::b) (Int.toNat (a.length:Int)) 0=c:=by simp [List.getD]
theorem z94:∀ (b a:List UInt8),(a++b).length≤B→RPt Tryz.prog 137 0 (ci ((a.length:Int)+runN z5l b)) [] 1 ⟨[(0,cs (a++b)),(1, .c (.fn (.func 138) [] [])),(7,ci (((a++b).length:Nat):Int)),(8,ci a.length)],[],0⟩
 | [],a,hl=>by
  refine RPt.vc hP sh zbk (Eq.mpr (z92 ..) ?_);exact z01 (fun h=>absurd h (by simp)) (fun _=>z8n (by simp [runN]))
 | c::b,a,hl=>by
  refine RPt.vc hP sh zbk (Eq.mpr (z92 ..) ?_);have hl':=hl;simp only [List.length_append,List.length_cons,B] at hl';refine z01 (fun _=>⟨⟨by omega,by simp;omega⟩,z5l (c.toNat:Int), ?_,z01 (fun h=>z8n ?_) (fun h=> ?_)⟩) (fun h=>absurd h (by simp;omega))
  · rw [zp8];exact c_inside _
  · simp_all [runN]
  · have:=z94 b (a++ [c]) (by simpa using hl);rw [w64 (by omega) (by omega)];simp only [List.append_assoc,List.cons_append,List.nil_append,List.length_append,List.length_cons,List.length_nil,Int.natCast_add,Int.natCast_one,Int.natCast_zero,Int.zero_add] at this;simp only [Bool.not_eq_false'] at h;simp only [runN,h,if_true,List.length_append,List.length_cons,Int.natCast_add,Int.natCast_one];rw [show (a.length:Int)+((runN z5l b:Nat)+1:Int)=(a.length:Int)+1+(runN z5l b:Nat) by omega];exact this
theorem zfq (s:List UInt8)(h:s.length≤B):AC Tryz.prog 137 [cs s, .c (.fn (.func 138) [] [])] [] (ci (runN z5l s)) []:=by
 refine AC.vc hP sh zbk (Nat.le_refl _) (by simp) (by simp) (Eq.mpr (zn6 ..) ?_);have:=z94 s [] (by simpa using h);simpa using this
theorem zbu:∀ (b a:List UInt8),(a++b).length≤B→RPt Tryz.prog 137 0 (ci ((a.length:Int)+runN zi3 b)) [] 1 ⟨[(0,cs (a++b)),(1, .c (.fn (.func 139) [] [])),(7,ci (((a++b).length:Nat):Int)),(8,ci a.length)],[],0⟩
 | [],a,hl=>by
  refine RPt.vc hP sh zbk (Eq.mpr (z91 ..) ?_);exact z01 (fun h=>absurd h (by simp)) (fun _=>z8n (by simp [runN]))
 | c::b,a,hl=>by
  refine RPt.vc hP sh zbk (Eq.mpr (z91 ..) ?_);have hl':=hl;simp only [List.length_append,List.length_cons,B] at hl';refine z01 (fun _=>⟨⟨by omega,by simp;omega⟩,zi3 (c.toNat:Int), ?_,z01 (fun h=>z8n ?_) (fun h=> ?_)⟩) (fun h=>absurd h (by simp;omega))
  · rw [zp8];exact c_sign _
  · simp_all [runN]
  · have:=zbu b (a++ [c]) (by simpa using hl);rw [w64 (by omega) (by omega)];simp only [List.append_assoc,List.cons_append,List.nil_append,List.length_append,List.length_cons,List.length_nil,Int.natCast_add,Int.natCast_one,Int.natCast_zero,Int.zero_add] at this;simp only [Bool.not_eq_false'] at h;simp only [runN,h,if_true,List.length_append,List.length_cons,Int.natCast_add,Int.natCast_one];rw [show (a.length:Int)+((runN zi3 b:Nat)+1:Int)=(a.length:Int)+1+(runN zi3 b:Nat) by omega];exact this
theorem zk4 (s:List UInt8)(h:s.length≤B):AC Tryz.prog 137 [cs s, .c (.fn (.func 139) [] [])] [] (ci (runN zi3 s)) []:=by
 refine AC.vc hP sh zbk (Nat.le_refl _) (by simp) (by simp) (Eq.mpr (zof ..) ?_);have:=zbu s [] (by simpa using h);simpa using this
theorem z6t (p:Int→Bool):∀ s:List UInt8,(((runN p s:Nat):Int)==((s.length:Nat):Int))=s.all fun c=>p (c.toNat:Int)
 | []=>rfl
 | c::s=>by
  have ih:=z6t p s;have:=zns p s;simp only [runN,List.all_cons,List.length_cons];cases h:p (c.toNat:Int) with
  | true=>rw [←ih];simp only [if_true,Bool.true_and];rw [Bool.eq_iff_iff];simp<;>omega
  | false=>simp;omega
def zko (s:List UInt8):Bool:= !(s==[])&&decide ((s.length:Int)≤32)
theorem c_fits (s:List UInt8):AC Tryz.prog 135 [cs s] [] (cb (zko s)) []:=by
 refine AC.vc hP sh lv135 (Nat.le_refl _) (by simp) (by simp) (Eq.mpr (v135 ..) ?_);refine z01 (fun h=>z0i ?_) (fun h=>z0i ?_)<;>simp_all [zko]
def zev (s:List UInt8):Bool:=zko s&&zjc ((s.getD 0 0).toNat:Int)&&s.all fun c=>z5l (c.toNat:Int)
theorem zh7 {s:List UInt8}(h:zko s=true):0<s.length∧s.length≤32:=by
 simp only [zko,Bool.and_eq_true,Bool.not_eq_true',decide_eq_true_eq] at h;refine ⟨?_,by omega⟩;cases s with
 | nil=>simp at h
 | cons c s=>simp
theorem c_isname (s:List UInt8):AC Tryz.prog 83 [cs s] [] (cb (zev s)) []:=by
 refine AC.vc hP sh lv83 (Nat.le_refl _) (by simp) (by simp) (Eq.mpr (v83 ..) ?_);refine ⟨_,c_fits s,z01 (fun h=>⟨⟨by omega,by have:=zh7 h;omega⟩,_,zlq _,z01 (fun h2=>⟨_,zfq s (by have:=zh7 h;simp only [B];omega),z0i ?_⟩) (fun h2=>z0i ?_)⟩) (fun h=>z0i ?_)⟩
 · rw [z6t];simp only [zev,h,h2,Bool.true_and]
 · simp only [zev,h,h2,Bool.and_false,Bool.false_and]
 · simp only [zev,h,Bool.false_and]
def zgu:List UInt8:=[44,59,33]
theorem zgy (s:List UInt8)(c:UInt8)(hs:s.length≤B):AC Tryz.prog 140 [cs s,cs [c]] [] (cb (decide (Lib.indexByte s c≥0))) []:=by
 have hb:(c.toNat:Int).toNat.toUInt8=c:=by simp
 have h1:AC Tryz.prog 258 [cs s,cs [c]] [] (ci (if [c]==s then 0 else Lib.indexByte s c)) []:=by
  refine AC.vc hP sh lv258 (Nat.le_refl _) (by simp) (by simp) (Eq.mpr (v258 ..) ?_);refine z01 (fun h=>absurd h (by simp)) (fun _=>z01 (fun h=>z8n (by simp [h])) (fun h=>z01 (fun _=>⟨⟨by omega,by simp⟩,_,zfj s _,z8n ?_⟩) (fun h2=>absurd h2 (by simp))));rw [h];simp
 have h2:AC Tryz.prog 201 [cs s,cs [c]] [] (ci (if [c]==s then 0 else Lib.indexByte s c)) []:=by
  refine AC.vc hP sh lv201 (Nat.le_refl _) (by simp) (by simp) (Eq.mpr (v201 ..) ?_);exact ⟨_,h1,z8n rfl⟩
 refine AC.vc hP sh lv140 (Nat.le_refl _) (by simp) (by simp) (Eq.mpr (v140 ..) ?_);refine ⟨_,h2,z0i ?_⟩;by_cases e:[c]=s
 · subst e;simp [Lib.indexByte]
 · have:([c]==s)=false:=by simpa using e
   rw [this];simp
def zki (s:List UInt8):Bool:=zko s&&((s.all fun c=>zi3 (c.toNat:Int))||((s.length:Int)==1&&decide (Lib.indexByte zgu (s.getD 0 0)≥0)))
theorem c_issym (s:List UInt8):AC Tryz.prog 84 [cs s] [] (cb (zki s)) []:=by
 refine AC.vc hP sh lv84 (Nat.le_refl _) (by simp) (by simp) (Eq.mpr (v84 ..) ?_);refine ⟨_,c_fits s,z01 (fun h=>⟨_,zk4 s (by have:=zh7 h;simp only [B];omega),z01 (fun h2=>z0i ?_) (fun h2=>z01 (fun h3=> ?_) (fun h3=>z0i ?_))⟩) (fun h=>z0i ?_)⟩
 · rw [z6t] at h2;simp only [zki,h,h2,Bool.true_and,Bool.true_or]
 · rw [z6t] at h2
   match s,h3 with
   | [c],h3=>
    refine ⟨_,zgy zgu c (by simp [zgu,B]),z0i ?_⟩;simp only [zki,h,h2,h3,Bool.true_and,Bool.false_or,List.getD_cons_zero]
   | [],h3=>simp at h3
   | _::_::_,h3=>simp at h3;omega
 · rw [z6t] at h2;simp only [zki,h,h2,h3,Bool.false_and,Bool.false_or,Bool.and_false]
 · simp only [zki,h,Bool.false_and]
end Go.AM

set_option maxRecDepth 100000
open Go Go.Proofs
namespace Go.AM
def Tm.inner (t:Tm):Bool:=t.k==5||t.k==6
def Tm.by (t:Tm):Int:=if t.k==5 then 1 else 0
end Go.AM

set_option maxRecDepth 100000
open Go Go.Proofs
namespace Go.AM
def zfn (t:Tm):FV:=if t.inner=true then .sl false 4 (FTs t.l) else .N
theorem c_within (t:Tm):AC Tryz.prog 133 [aT t] [] (.tup [(false,[.a (.fz (zfn t))]),(false,[.a (.fz (.int .i64 t.by))])]) []:=by
 obtain ⟨k,s,n,l⟩:=t;refine AC.vc hP sh lv133 (Nat.le_refl _) (by simp) (by simp) (Eq.mpr (v133 k s n (FTs l) _ _) ?_);refine z01 (fun h=>⟨?_,rfl⟩) (fun h=>z01 (fun h2=>⟨?_,rfl⟩) (fun h2=>⟨?_,rfl⟩))
 · have e1:zfn (.mk k s n l)= .sl false 4 (FTs l):=by unfold zfn Tm.inner;simp only [Tm.k,h,Bool.true_or,if_true,Tm.l]
   have e2:Tm.by (.mk k s n l)=1:=by unfold Tm.by;simp only [Tm.k,h,if_true]
   rw [e1,e2];exact .refl _
 · have e1:zfn (.mk k s n l)= .sl false 4 (FTs l):=by unfold zfn Tm.inner;simp only [Tm.k,h2,Bool.or_true,if_true,Tm.l]
   have e2:Tm.by (.mk k s n l)=0:=by unfold Tm.by;simp only [Tm.k,h,Bool.false_eq_true,if_false]
   rw [e1,e2];exact .refl _
 · have e1:zfn (.mk k s n l)= .N:=by unfold zfn Tm.inner;simp only [Tm.k,h,h2,Bool.or_self,Bool.false_eq_true,if_false]
   have e2:Tm.by (.mk k s n l)=0:=by unfold Tm.by;simp only [Tm.k,h,Bool.false_eq_true,if_false]
   rw [e1,e2];exact .refl _
mutual
def bd (M:Int):Tm→Prop
 | .mk k _ n l=>(k=3→0-M≤n∧n≤M)∧bds M l
def bds (M:Int):List Tm→Prop
 | []=>True
 | t::l=>bd M t∧bds M l
end
theorem za0 {M:Int}:∀ {l:List Tm} {t:Tm},bds M l→t∈l→bd M t
 | x::l,t,h,ht=>by
  rcases List.mem_cons.1 ht with rfl | ht
  · exact h.1
  · exact za0 h.2 ht
theorem bd_l {M:Int}{t:Tm}(h:bd M t):bds M t.l:=by cases t;exact h.2
def maxI (a b:Int):Int:=if a≤b then b else a
theorem foldMax2 (a b:Int):z0b [a,b]=maxI a b:=by
 simp only [z0b,List.foldl,maxI,max]
abbrev obj1 (n:Int):AObj:= .arr 1 [[.a (.fz (.int .i64 n))]]
end Go.AM

set_option maxRecDepth 100000
open Go Go.Proofs
namespace Go.AM
theorem c_grow (n:Int)(h0:0≤n)(h1:n≤2199023255552):(n=0→AC Tryz.prog 172 [.c (.a (.fz .N)),ci n] [] (.c (.a (.fz .N))) [])∧
  (n≠0→AC Tryz.prog 172 [.c (.a (.fz .N)),ci n] [] (.c (.a (.osl 0 4 0 0))) [.arz 4 []]):=by
 constructor
 · intro hn;refine AC.vc hP sh lv172 (Nat.le_refl _) (by simp) (by simp) (Eq.mpr (v172 ..) ?_);refine z01 (fun h=>absurd (of_decide_eq_true h) (by omega)) (fun _=>⟨rfl,z01 (fun h=> ?_) (fun _=>zfw (.refl _))⟩);rw [w64 (by omega) (by omega)] at h;exact absurd (of_decide_eq_true h) (by omega)
 · intro hn;refine AC.vc hP sh lv172 (by simp) (by simp) (by simp [isLive]) (Eq.mpr (v172 ..) ?_);rw [w64 (by omega) (by omega)];refine z01 (fun h=>absurd (of_decide_eq_true h) (by omega)) (fun _=>⟨rfl,z01 (fun h=>⟨rfl,⟨by omega,by omega,by omega⟩,⟨by omega,by unfold z0h;omega⟩,rfl,⟨by omega,by omega,by omega⟩, .refl _,rfl⟩) (fun h=>absurd (of_decide_eq_false h) (by omega))⟩)
def FLs (ls:List (List Tm)):List (List FV):=ls.map fun l=> [.sl false 4 (FTs l)]
def z3r (ls:List (List Tm)):Nat:=(ls.map List.length).foldr (· + ·) 0
theorem z85 (ls:List (List Tm)):(FLs ls).length=ls.length:=by simp [FLs]
theorem midL (a:List (List Tm))(l:List Tm)(b:List (List Tm)):List.getD (FLs (a++l::b)) (Int.toNat (a.length:Int)) []=[.sl false 4 (FTs l)]:=by
 rw [show Int.toNat (a.length:Int)=a.length by omega];simp [List.getD,FLs]
theorem ltL (a:List (List Tm))(t:List Tm)(b:List (List Tm)):(a.length:Int)<(((FLs (a++t::b)).length:Nat):Int):=by rw [z85];exact ltI a t b
theorem zf0 (a:List (List Tm))(l:List Tm)(b:List (List Tm)):z3r (a++l::b)=z3r a+l.length+z3r b:=by
 induction a with
 | nil=>simp [z3r]
 | cons x a ih=>simp only [z3r,List.cons_append,List.map_cons,List.foldr_cons] at ih ⊢;omega
theorem zkb (a:List (List Tm))(l:List Tm):z3r (a++ [l])=z3r a+l.length:=by rw [zf0];simp [z3r]
abbrev aLs (ls:List (List Tm)):TV:= .c (.a (.fz (.sl false 1 (FLs ls))))
theorem z4n {n:Nat}(h:n≤2199023255552):z0h n 56:=by unfold z0h;omega
theorem zmw:∀ (b a:List (List Tm)) (acc:List Tm),acc.length+z3r b≤2199023255552→(a++b).length≤B→
  RPt Tryz.prog 112 0 (aL (acc++b.flatten)) [] 5 ⟨[(6,(.c (.a (.osl 0 4 0 acc.length)))),(25,aLs (a++b)),(26,ci (a++b).length),(27,ci a.length)],[(0,(.arz 4 (FTs acc)))],1⟩
 | [],a,acc,ht,hl=>by
  refine RPt.vc hP sh z9m (Eq.mpr (zl9 ..) ?_);refine z01 (fun h=>absurd (of_decide_eq_true h) (by simp)) (fun _=>⟨⟨rfl,by rw [z00];omega⟩,zfw ?_⟩);rw [List.drop_zero,List.take_of_length_le (by rw [z00];omega),List.flatten_nil,List.append_nil];exact le_c leSl
 | l::b,a,acc,ht,hl=>by
  refine RPt.vc hP sh z9m (Eq.mpr (zl9 ..) ?_);have hl':=hl;have h3:=ltL a l b;simp only [List.length_append,List.length_cons,B] at hl';have ht':acc.length+(l.length+z3r b)≤2199023255552:=by simpa [z3r] using ht
  have h2:=zmw b (a++ [l]) (acc++l) (by rw [List.length_append];omega) (by rw [ap];exact hl);rw [ap,nx] at h2;rw [midL,w64 (by omega) (by omega)];refine z01 (fun _=>⟨⟨rfl,by omega,h3,rfl⟩,rfl,⟨by rw [z00];omega, ?_⟩, ?_⟩) (fun h=>absurd (ltI a l b) (of_decide_eq_false h))
  · show z0h (acc.length+(FTs l).length) 56;rw [z00];exact z4n (by omega)
  · show RPt _ _ _ _ _ _ ⟨[(6,(.c (.a (.osl 0 4 0 (acc.length+(FTs l).length))))),_,_,_],[(0, .arz 4 (List.take acc.length (FTs acc)++FTs l))],1⟩;rw [List.take_of_length_le (by rw [z00];omega),←z1x,z00,←List.length_append];rw [show acc++(l::b).flatten=acc++l++b.flatten by simp];exact h2
theorem l_cat2:∀ (b a:List (List Tm)),z3r b≤2199023255552→(a++b).length≤B→
  RPt Tryz.prog 112 0 (aL b.flatten) [] 5 ⟨[(6,(.c (.a (.fz .N)))),(25,aLs (a++b)),(26,ci (a++b).length),(27,ci a.length)],[],0⟩
 | [],a,ht,hl=>by
  refine RPt.vc hP sh z9m (Eq.mpr (zlo ..) ?_);refine z01 (fun h=>absurd (of_decide_eq_true h) (by simp)) (fun _=>zfw (le_c z2h))
 | l::b,a,ht,hl=>by
  refine RPt.vc hP sh z9m (Eq.mpr (zlo ..) ?_);have hl':=hl;have h3:=ltL a l b;simp only [List.length_append,List.length_cons,B] at hl';have ht':l.length+z3r b≤2199023255552:=by simpa [z3r] using ht
  rw [midL,w64 (by omega) (by omega)];refine z01 (fun _=>⟨⟨rfl,by omega,h3,rfl⟩,rfl, ?_⟩) (fun h=>absurd (ltI a l b) (of_decide_eq_false h));show br (List.isEmpty (FTs l)) _ _;refine z01 (fun he=> ?_) (fun he=>⟨?_, ?_⟩)
  · have h2:=l_cat2 b (a++ [l]) (by omega) (by rw [ap];exact hl);rw [ap,nx] at h2
    have hnil:l=[]:=by cases l with
     | nil=>rfl
     | cons x l=>simp [FTs] at he
    rw [show (l::b).flatten=b.flatten by rw [hnil];simp];exact h2
  · show z0h (FTs l).length 56;rw [z00];exact z4n (by omega)
  · have h2:=zmw b (a++ [l]) l (by omega) (by rw [ap];exact hl);rw [ap,nx] at h2;show RPt _ _ _ _ _ _ ⟨[(6,(.c (.a (.osl 0 4 0 (FTs l).length)))),_,_,_],[(0, .arz 4 (FTs l))],1⟩;rw [z00,List.flatten_cons];exact h2
theorem l_cat1:∀ (b a:List (List Tm)),z3r (a++b)≤2199023255552→(a++b).length≤B→
  RPt Tryz.prog 112 0 (aL (a++b).flatten) [] 1 ⟨[(0,aLs (a++b)),(3,ci (z3r a)),(9,aLs (a++b)),(10,ci (a++b).length),(11,ci a.length)],[],0⟩
 | [],a,ht,hl=>by
  refine RPt.vc hP sh z9m (Eq.mpr (zlg ..) ?_);have hg:=c_grow (z3r a:Int) (by omega) (by simp only [List.append_nil] at ht;omega);refine z01 (fun h=>absurd (of_decide_eq_true h) (by simp)) (fun _=> ?_);have e:(((FLs (a++ [])).length:Nat):Int)=(((a++ []).length:Nat):Int):=by rw [z85]
  rw [e];by_cases hz:z3r a=0
  · have h2:=l_cat2 (a++ []) [] (by simpa using ht) (by simpa using hl);exact .inl ⟨(),hg.1 (by omega),rfl,by simpa using h2⟩
  · have h2:=zmw (a++ []) [] [] (by simpa using ht) (by simpa using hl);exact .inr ⟨(),hg.2 (by omega),rfl,by simpa [FTs] using h2⟩
 | l::b,a,ht,hl=>by
  refine RPt.vc hP sh z9m (Eq.mpr (zlg ..) ?_);have hl':=hl;have ht':=ht;have h3:=ltL a l b;rw [zf0] at ht';simp only [List.length_append,List.length_cons,B] at hl';have h2:=l_cat1 b (a++ [l]) (by rw [ap];exact ht) (by rw [ap];exact hl);rw [ap,nx,zkb] at h2;rw [midL,w64 (x:=(a.length:Int)+1) (by omega) (by omega)];refine z01 (fun _=>⟨⟨rfl,by omega,h3,rfl⟩,rfl, ?_⟩) (fun h=>absurd (ltI a l b) (of_decide_eq_false h));show br (decide (IntKind.wrap .i64 ((z3r a:Int)+(((FTs l).length:Nat):Int))<0)) _ (RPt _ _ _ _ _ _ ⟨[_,(3,ci (IntKind.wrap .i64 ((z3r a:Int)+(((FTs l).length:Nat):Int)))),_,_,_],_,_⟩);rw [z00,w64 (by omega) (by omega)];refine z01 (fun h=>absurd (of_decide_eq_true h) (by omega)) (fun _=> ?_);simpa using h2
theorem c_concat (ls:List (List Tm))(ht:z3r ls≤2199023255552)(hl:ls.length≤B):AC Tryz.prog 112 [aLs ls] [] (aL ls.flatten) []:=by
 refine AC.vc hP sh z9m (Nat.le_refl _) (by simp) (by simp) (Eq.mpr (v112 ..) ?_);have:=l_cat1 ls [] (by simpa using ht) (by simpa using hl);have e:(((FLs ls).length:Nat):Int)=((ls.length:Nat):Int):=by rw [z85]
 rw [e];exact ⟨rfl,by simpa [z3r] using this⟩
theorem z9x {x y:FV}{l m:List Tm}(hx:FV.Le x (.sl false 4 (FTs l)))(hy:FV.Le y (.sl false 4 (FTs m)))(ht:l.length+m.length≤2199023255552):AC Tryz.prog 112 [.c (.a (.fz (.sl false 1 [[x],[y]])))] [] (aL (l++m)) []:=by
 have h:=c_concat [l,m] (by simpa [z3r] using ht) (by simp [B]);rw [show [l,m].flatten=l++m by simp] at h;refine h.args ⟨le_c (.trans _ _ _ (.rows false 1 _ (FLs [l,m]) rfl (fun i e e' he he'=> ?_) (fun i j e e' f f' he he' hf hf'=> ?_)) (.nn _ _ _)),trivial⟩
 · match i,he,he' with
   | 0,he,he'=>simp [FLs] at he he';subst he;subst he';rfl
   | 1,he,he'=>simp [FLs] at he he';subst he;subst he';rfl
   | i+2,he,he'=>simp at he
 · match i,he,he' with
   | 0,he,he'=>
    simp [FLs] at he he';subst he;subst he'
    match j,hf,hf' with
    | 0,hf,hf'=>simp at hf hf';subst hf;subst hf';exact hx
    | j+1,hf,hf'=>simp at hf
   | 1,he,he'=>
    simp [FLs] at he he';subst he;subst he'
    match j,hf,hf' with
    | 0,hf,hf'=>simp at hf hf';subst hf;subst hf';exact hy
    | j+1,hf,hf'=>simp at hf
   | i+2,he,he'=>simp at he
def z09 (f:Tm)(args:List Tm):Tm:=
 match args with
 | []=>f
 | _=>if (f.k==6)=true∧f.l ≠ [] then .mk 6 [] 0 (f.l++args) else .mk 6 [] 0 (f::args)
theorem z3k (f:Tm)(args:List Tm)(h:f.l.length+args.length<2199023255552):AC Tryz.prog 60 [aT f,aL args] [] (aT (z09 f args)) []:=by
 obtain ⟨k,s,n,l⟩:=f;simp only [Tm.l] at h;refine AC.vc hP sh lv60 (Nat.le_refl _) (by simp) (by simp) (Eq.mpr (v60 k s n (FTs l) (FTs args) _ _) ?_);refine ⟨rfl,z01 (fun h1=> ?_) (fun h1=> ?_)⟩
 · have:args=[]:=by cases args with
    | nil=>rfl
    | cons x l=>simp [FTs] at h1;omega
   subst this;exact zfw (.refl _)
 · match args,h1,h with
   | [],h1,_=>simp [FTs] at h1
   | a::r,h1,h=>
    have one:FV.Le (.sl false 4 [[.int .i64 k, .str s, .int .i64 n, .sl false 4 (FTs l)]]) (.sl false 4 (FTs [.mk k s n l])):= .nn _ _ _;have same:∀ l:List Tm,FV.Le (.sl false 4 (FTs l)) (.sl false 4 (FTs l)):=fun _=> .refl _
    refine z01 (fun h2=>⟨rfl,z01 (fun h3=>⟨⟨rfl,by omega⟩,_,z9x (same l) (same (a::r)) (by omega),zfw ?_⟩) (fun h3=>⟨⟨rfl,by omega⟩,⟨rfl,by omega⟩,_,z9x one (same (a::r)) (by simp only [List.length_cons,List.length_nil] at h ⊢;omega),zfw ?_⟩)⟩)
     (fun h2=>⟨⟨rfl,by omega⟩,⟨rfl,by omega⟩,_,z9x one (same (a::r)) (by simp only [List.length_cons,List.length_nil] at h ⊢;omega),zfw ?_⟩)
    · have hl:l ≠ []:=by intro e;subst e;simp [FTs] at h3
      rw [show z09 (.mk k s n l) (a::r)= .mk 6 [] 0 (l++a::r) from if_pos ⟨h2,hl⟩];exact .refl _
    · have hl:l=[]:=by cases l with
       | nil=>rfl
       | cons x l=>simp [FTs] at h3
      rw [show z09 (.mk k s n l) (a::r)= .mk 6 [] 0 (.mk k s n l::a::r) from if_neg (fun e=>e.2 hl)];exact .refl _
    · rw [show z09 (.mk k s n l) (a::r)= .mk 6 [] 0 (.mk k s n l::a::r) from if_neg (fun e=>by have:=e.1;simp only [Tm.k,h2] at this;cases this)];exact .refl _
end Go.AM

set_option maxRecDepth 100000
open Go Go.Proofs
namespace Go.AM
def z4z (t:Tm)(out:List Tm):Tm:=
 if (t.k==6)=true∧1<out.length∧((out.headD default).k==6)=true∧((t.l.headD default).k !=6)=true then z09 (out.headD default) out.tail else .mk t.k t.s t.n out
mutual
def z1z (lf:Tm→Int→Tm):Tm→Int→Tm
 | .mk k s n l,d=>if (k==5||k==6)=true then z4z (.mk k s n l) (z1l lf l (d+if (k==5)=true then 1 else 0)) else lf (.mk k s n l) d
def z1l (lf:Tm→Int→Tm):List Tm→Int→List Tm
 | [],_=> []
 | t::l,d=>z1z lf t d::z1l lf l d
end
abbrev cloSh:TV:= .agg [.fn (.func 302) [] [(false,[.ep 0 1 0 0]),(false,[.ep 1 1 0 0])]]
abbrev stSh (fr by1:Int)(k by_:Int)(kd:Int)(s:List UInt8)(n:Int)(l:List Tm)(w:AV)(i:Nat)(h:AHeap)(nx:Nat):St:=
 ⟨[(2,ci k),(3, .c (.a (.ep 2 1 0 0))),(4, .c (.a (.ep 3 4 0 0))),(6, .c (.a (.ep 4 4 0 0))),(7,aL l),(8,ci by_),(9, .c (.a w)),(30,aL l),(31,ci l.length),(32,ci i)],
  [(0,(obj1 fr)),(1,(obj1 by1)),(2, .arr 1 [[.fn (.func 302) [] [(false,[.ep 0 1 0 0]),(false,[.ep 1 1 0 0])]]]),(3, .arr 4 [fzs (FT (.mk kd s n l))]),(4, .arr 4 [[.a (.fz (.int .i64 0)), .a (.fz (.str [])), .a (.fz (.int .i64 0)), .a (.fz .N)]])]++h,nx⟩
theorem l_w2Sh (fr by1:Int)(lf:Tm→Int→Tm)(k by_:Int)(h0:0≤k)(hk:k≤2305843009213693952)(hb0:0≤by_)(hb1:by_≤1)(kd:Int)(s:List UInt8)(n:Int)(hin:(kd==5||kd==6)=true):
  ∀ (b a acc:List Tm),acc ≠ []→acc.length=a.length→(a++b).length≤B→(∀ u∈acc++z1l lf b (k+by_),u.l.length≤2*B)→
  (∀ u∈b,AC Tryz.prog 304 [cloSh,aT u,ci (k+by_)] [(obj1 fr),(obj1 by1)] (aT (z1z lf u (k+by_))) [(obj1 fr),(obj1 by1)])→
  RPt Tryz.prog 304 2 (aT (z4z (.mk kd s n (a++b)) (acc++z1l lf b (k+by_)))) [(obj1 fr),(obj1 by1)] 1 (stSh fr by1 k by_ kd s n (a++b) (.osl 5 4 0 acc.length) a.length [(5, .arz 4 (FTs acc))] 6)
 | [],a,acc,hne,hlen,hl,hw,_=>by
  refine RPt.vc hP sh zg6 (Eq.mpr (z8t ..) ?_)
  match acc,a,hne,hlen with
  | o::r,u::a',_,hlen=>
  have e1:List.take (o::r).length (List.drop 0 (FTs (o::r)))=FTs (o::r):=by rw [List.drop_zero,List.take_of_length_le (by rw [z00];omega)]
  have e2:(0:Nat)+(o::r).length≤(FTs (o::r)).length:=by rw [z00];omega
  have hrest:∀ (k':Int) (s':List UInt8) (n':Int),TV.Le (.agg [.a (.fz (.int .i64 k')), .a (.fz (.str s')), .a (.fz (.int .i64 n')), .a (.fz (.sl false 4 (List.take (o::r).length (List.drop 0 (FTs (o::r))))))]) (aT (.mk k' s' n' (o::r))):=fun k' s' n'=>by rw [e1];exact leT leSl
  refine z01 (fun h=>absurd (of_decide_eq_true h) (by simp)) (fun _=>z01 (fun h6=>z01 (fun h1=>⟨⟨by omega,by simp⟩,⟨by rw [z00];simp,by cases o;rfl,rfl⟩,z01 (fun ho=>⟨⟨rfl,by omega,by rw [List.append_nil];show (0:Int)<(((FTs (u::a')).length:Nat):Int);rw [z00];simp,by cases u;rfl⟩,z01 (fun hu=> ?_) (fun hu=>⟨⟨rfl,e2⟩, ?_,rfl⟩)⟩) (fun ho=>⟨⟨rfl,e2⟩, ?_,rfl⟩)⟩) (fun h1=>⟨⟨rfl,e2⟩, ?_,rfl⟩)) (fun h6=>⟨⟨rfl,e2⟩, ?_,rfl⟩))
  ·
   have hap:=z3k o r (by
    have:=hw o (by simp);simp only [List.length_cons,List.length_append,List.length_nil,B] at hl hlen this ⊢;omega)
   have e3:z4z (.mk kd s n (u::a'++ [])) (o::r++z1l lf [] (k+by_))=z09 o r:=by
    have c1:1<(o::r++z1l lf [] (k+by_)).length:=by have:=of_decide_eq_true h1;simp only [z1l,List.append_nil];omega
    have c2:(o.k==6)=true:=by cases o;exact ho
    have c3:(u.k !=6)=true:=by cases u;exact hu
    unfold z4z;rw [if_pos ⟨h6,c1,c2,c3⟩];simp [z1l]
   have e4:List.take (Int.toNat ((o::r).length:Int)-1) (List.drop 1 (FTs (o::r)))=FTs r:=by
    rw [show Int.toNat ((o::r).length:Int)-1=r.length by simp only [List.length_cons];omega];show List.take r.length (FTs r)=FTs r;rw [List.take_of_length_le (by rw [z00];omega)]
   have e5:(1:Nat)+(Int.toNat ((o::r).length:Int)-1)≤(FTs (o::r)).length:=by rw [z00];simp only [List.length_cons];omega
   rw [e3];refine ⟨⟨by omega,by simp⟩,⟨by rw [z00];simp,by cases o;rfl,rfl⟩,⟨by omega,by simp;omega,by omega⟩,⟨rfl,e5⟩, ?_⟩;rw [e4];obtain ⟨k1,s1,n1,l1⟩:=o;exact ⟨_,hap.args ⟨.refl _,le_c leSl,trivial⟩, .refl _,rfl⟩
  · have e3:z4z (.mk kd s n (u::a'++ [])) (o::r++z1l lf [] (k+by_))= .mk kd s n (o::r):=by
     simp only [z1l,List.append_nil]
     exact if_neg fun e=>by
      have hu':(u.k !=6)=false:=by cases u;exact hu
      have:(u.k !=6)=true:=e.2.2.2;rw [hu'] at this;cases this
    rw [e3];exact hrest _ _ _
  · have e3:z4z (.mk kd s n (u::a'++ [])) (o::r++z1l lf [] (k+by_))= .mk kd s n (o::r):=by
     simp only [z1l,List.append_nil]
     exact if_neg fun e=>by
      have ho':(o.k==6)=false:=by cases o;exact ho
      have:(o.k==6)=true:=e.2.2.1;rw [ho'] at this;cases this
    rw [e3];exact hrest _ _ _
  · have e3:z4z (.mk kd s n (u::a'++ [])) (o::r++z1l lf [] (k+by_))= .mk kd s n (o::r):=by
     simp only [z1l,List.append_nil];exact if_neg fun e=>by have:=e.2.1;have:=of_decide_eq_false h1;omega
    rw [e3];exact hrest _ _ _
  · have e3:z4z (.mk kd s n (u::a'++ [])) (o::r++z1l lf [] (k+by_))= .mk kd s n (o::r):=by
     simp only [z1l,List.append_nil]
     exact if_neg fun e=>by
      have h6':(kd==6)=false:=h6;have:(kd==6)=true:=e.1;rw [h6'] at this;cases this
    rw [e3];exact hrest _ _ _
 | t::b,a,acc,hne,hlen,hl,hw,ih=>by
  refine RPt.vc hP sh zg6 (Eq.mpr (z8t ..) ?_);have hl':=hl;simp only [List.length_append,List.length_cons,B] at hl';have h1:=ih t List.mem_cons_self
  have h2:=l_w2Sh fr by1 lf k by_ h0 hk hb0 hb1 kd s n hin b (a++ [t]) (acc++ [z1z lf t (k+by_)]) (by simp) (by simp [hlen]) (by rw [ap];exact hl)
   (by rw [List.append_assoc];simpa [z1l] using hw) (fun u hu=>ih u (List.mem_cons_of_mem _ hu))
  have h3:=ltI' a t b;unfold stSh at h2;rw [ap,show (((a++ [t]).length:Nat):Int)=(a.length:Int)+1 from nx a t] at h2;show br (decide ((a.length:Int)<(((a++t::b).length:Nat):Int))) ((FV.L 4 (.sl false 4 (FTs (a++t::b)))=true∧_∧_∧_)∧_) _;refine z01 (fun _=> ?_) (fun h=>absurd (ltI a t b) (of_decide_eq_false h));have hm:=midI a t b;rw [show FV.ses (.sl false 4 (FTs (a++t::b)))=FTs (a++t::b) from rfl,hm,w64 (x:=(a.length:Int)+1) (by omega) (by omega),w64 (x:=k+by_) (by omega) (by omega)];obtain ⟨k',s',n',l'⟩:=t;refine ⟨⟨rfl,by omega,h3,rfl⟩,_,h1,Nat.le_refl _,⟨by rw [z00];omega,z4n (by omega)⟩, ?_⟩;have e5:List.take acc.length (FTs acc)++FTs [z1z lf (.mk k' s' n' l') (k+by_)]=FTs (acc++ [z1z lf (.mk k' s' n' l') (k+by_)]):=by rw [List.take_of_length_le (by rw [z00];omega),←z1x]
  have e6:FTs [z1z lf (.mk k' s' n' l') (k+by_)]=[[.int .i64 (z1z lf (.mk k' s' n' l') (k+by_)).k, .str (z1z lf (.mk k' s' n' l') (k+by_)).s, .int .i64 (z1z lf (.mk k' s' n' l') (k+by_)).n, .sl false 4 (FTs (z1z lf (.mk k' s' n' l') (k+by_)).l)]]:=by
   rw [FTs,FTs,zo0]
  rw [e6] at e5;rw [e5];rw [show acc++z1l lf (.mk k' s' n' l'::b) (k+by_)=acc++z1z lf (.mk k' s' n' l') (k+by_)::z1l lf b (k+by_) by simp [z1l]];rw [show (acc++ [z1z lf (.mk k' s' n' l') (k+by_)]).length=acc.length+1 by simp,List.append_assoc] at h2;exact h2
theorem l_w1Sh (fr by1:Int)(lf:Tm→Int→Tm)(k by_:Int)(h0:0≤k)(hk:k≤2305843009213693952)(hb0:0≤by_)(hb1:by_≤1)(kd:Int)(s:List UInt8)(n:Int)(hin:(kd==5||kd==6)=true):
  ∀ (b:List Tm),b.length≤B→(∀ u∈z1l lf b (k+by_),u.l.length≤2*B)→
  (∀ u∈b,AC Tryz.prog 304 [cloSh,aT u,ci (k+by_)] [(obj1 fr),(obj1 by1)] (aT (z1z lf u (k+by_))) [(obj1 fr),(obj1 by1)])→
  RPt Tryz.prog 304 2 (aT (z4z (.mk kd s n b) (z1l lf b (k+by_)))) [(obj1 fr),(obj1 by1)] 1 (stSh fr by1 k by_ kd s n b (.fz .N) 0 [] 5)
 | [],hl,hw,_=>by
  refine RPt.vc hP sh zg6 (Eq.mpr (z8w ..) ?_);have e:z4z (.mk kd s n []) (z1l lf [] (k+by_))= .mk kd s n []:=if_neg fun e=>by have:=e.2.1;simp [z1l] at this
  rw [e];exact z01 (fun h=>absurd (of_decide_eq_true h) (by simp)) (fun _=>z01 (fun _=>⟨rfl,leT z2h,rfl⟩) (fun _=>⟨leT z2h,rfl⟩))
 | t::b,hl,hw,ih=>by
  refine RPt.vc hP sh zg6 (Eq.mpr (z8w ..) ?_);have hl':=hl;simp only [List.length_cons,B] at hl';have h1:=ih t List.mem_cons_self;have h2:=l_w2Sh fr by1 lf k by_ h0 hk hb0 hb1 kd s n hin b [t] [z1z lf t (k+by_)] (by simp) rfl (by simpa using hl) (by simpa [z1l] using hw) (fun u hu=>ih u (List.mem_cons_of_mem _ hu));show br (decide ((0:Int)<(((t::b).length:Nat):Int))) ((FV.L 4 (.sl false 4 (FTs (t::b)))=true∧_∧_∧_)∧_) _;refine z01 (fun _=> ?_) (fun h=>absurd (of_decide_eq_false h) (by simp));rw [show FV.ses (.sl false 4 (FTs (t::b)))=FTs (t::b) from rfl,show List.getD (FTs (t::b)) (Int.toNat ((0:Nat):Int)) []=FT t from rfl,w64 (x:=k+by_) (by omega) (by omega),w64 (x:=((0:Nat):Int)+1) (by omega) (by omega)];obtain ⟨k',s',n',l'⟩:=t;have h3:(0:Int)<(((FTs (.mk k' s' n' l'::b)).length:Nat):Int):=by rw [z00];simp
  refine ⟨⟨rfl,by omega,h3,rfl⟩,_,h1,Nat.le_refl _,z4n (by omega), ?_⟩
  have e6:FTs [z1z lf (.mk k' s' n' l') (k+by_)]=[[.int .i64 (z1z lf (.mk k' s' n' l') (k+by_)).k, .str (z1z lf (.mk k' s' n' l') (k+by_)).s, .int .i64 (z1z lf (.mk k' s' n' l') (k+by_)).n, .sl false 4 (FTs (z1z lf (.mk k' s' n' l') (k+by_)).l)]]:=by
   rw [FTs,FTs,zo0]
  unfold stSh at h2;rw [e6] at h2;exact h2
theorem c_wSh (fr by1:Int) (lf:Tm→Int→Tm) (Q:Tm→Int→Prop)
  (hq:∀ (kd:Int) (s:List UInt8) (n:Int) (l:List Tm) (d:Int),Q (.mk kd s n l) d→(kd==5||kd==6)=true→∀ u∈l,Q u (d+if (kd==5)=true then 1 else 0))
  (hleaf:∀ (u:Tm) (d:Int),(u.k==5||u.k==6)=false→Q u d→0≤d→d≤2305843009213693952→AC Tryz.prog 302 [aT u,ci d, .c (.a (.ep 0 1 0 0)), .c (.a (.ep 1 1 0 0))] [(obj1 fr),(obj1 by1)] (aT (lf u d)) [(obj1 fr),(obj1 by1)])
  (hwid:∀ (u:Tm) (d:Int),Q u d→(z1z lf u d).l.length≤2*B):
  ∀ t:Tm,t.sz≤B→∀ k:Int,Q t k→0≤k→k+t.sz≤2305843009213693952→AC Tryz.prog 304 [cloSh,aT t,ci k] [(obj1 fr),(obj1 by1)] (aT (z1z lf t k)) [(obj1 fr),(obj1 by1)]:=by
 refine Tm.ind fun t ih hs k hQ h0 h1=> ?_;have hlen:=Tm.szs_length t.l;obtain ⟨kd,s,n,l⟩:=t;simp only [Tm.sz,B,Tm.l] at hs hlen;simp only [Tm.sz] at h1
 have key:∀ by_:Int,0≤by_→by_≤1→(by_=if (kd==5)=true then 1 else 0)→(hin:(kd==5||kd==6)=true)→RPt Tryz.prog 304 2 (aT (z1z lf (.mk kd s n l) k)) [(obj1 fr),(obj1 by1)] 1 (stSh fr by1 k by_ kd s n l (.fz .N) 0 [] 5):=by
  intro by_ hb0 hb1 hby hin;have hQ':=hq kd s n l k hQ hin;rw [←hby] at hQ'
  have:=l_w1Sh fr by1 lf k by_ h0 (by omega) hb0 hb1 kd s n hin l (by simp only [B];omega) (fun u hu=>by
   have:∀ {m:List Tm},(∀ v∈m,Q v (k+by_))→∀ u∈z1l lf m (k+by_),u.l.length≤2*B:=by
    intro m
    induction m with
    | nil=>intro _ u hu;simp [z1l] at hu
    | cons v m ihm=>
     intro hm u hu;simp only [z1l,List.mem_cons] at hu;rcases hu with rfl | hu
     · exact hwid v _ (hm v List.mem_cons_self)
     · exact ihm (fun x hx=>hm x (List.mem_cons_of_mem _ hx)) u hu
   exact this hQ' u hu) (fun u hu=>ih u hu (by have:=Tm.szs_mem hu;simp only [B];omega) (k+by_) (hQ' u hu) (by omega) (by have:=Tm.szs_mem hu;omega))
  rw [z1z,if_pos hin,←hby];exact this
 refine AC.vc hP sh zg6 (Nat.le_refl _) (by simp [isLive]) (by simp) (Eq.mpr (zor kd s n (FTs l) k fr by1 _ _) ?_)
 have wi:(kd==5||kd==6)=true→AC Tryz.prog 133 [aT (.mk kd s n l)] [] (.tup [(false,[.a (.fz (.sl false 4 (FTs l)))]),(false,[.a (.fz (.int .i64 (if (kd==5)=true then 1 else 0)))])]) []:=fun hin=>by
  have hw:=c_within (.mk kd s n l);rw [show zfn (.mk kd s n l)= .sl false 4 (FTs l) from if_pos hin] at hw;exact hw
 refine z01 (fun h=>z01 (fun h2=> ?_) (fun h2=> ?_)) (fun h=> ?_)
 · have e1:(kd==5)=false:=by simpa using h
   have e2:(kd==6)=false:=by simpa using h2
   have e:(kd==5||kd==6)=false:=by rw [e1,e2];rfl
   have hl:=hleaf (.mk kd s n l) k e hQ h0 (by omega);rw [show z1z lf (.mk kd s n l) k=lf (.mk kd s n l) k by rw [z1z,if_neg (by rw [e];simp)]];exact ⟨_,hl, .refl _,rfl⟩
 · have e1:(kd==5)=false:=by simpa using h
   have e2:(kd==6)=true:=by simpa using h2
   have hin:(kd==5||kd==6)=true:=by rw [e1,e2];rfl
   have hk:=key 0 (by omega) (by omega) (by rw [e1];rfl) hin;have hw:=wi hin;rw [e1] at hw;refine ⟨_,_,hw,rfl, ?_⟩;show RPt _ _ _ _ _ _ ⟨[_,_,_,_,_,_,_,_,(31,ci (((FTs l).length:Nat):Int)),_],_,_⟩;rw [z00];exact hk
 · have e1:(kd==5)=true:=by simpa using h
   have hin:(kd==5||kd==6)=true:=by rw [e1];rfl
   have hk:=key 1 (by omega) (by omega) (by rw [e1];rfl) hin;have hw:=wi hin;rw [e1] at hw;refine ⟨_,_,hw,rfl, ?_⟩;show RPt _ _ _ _ _ _ ⟨[_,_,_,_,_,_,_,_,(31,ci (((FTs l).length:Nat):Int)),_],_,_⟩;rw [z00];exact hk
end Go.AM

set_option maxRecDepth 100000
open Go Go.Proofs
namespace Go.AM
theorem z4b (f:Tm)(l:List Tm):(z09 f l).sz≤1+f.sz+Tm.szs l:=by
 unfold z09;split
 · simp only [Tm.szs];omega
 · split
   · have:=f.sz_eq;simp only [Tm.sz,Tm.szs_append,List.length_nil];omega
   · simp only [Tm.sz,Tm.szs,List.length_nil];omega
theorem withF_sz (t:Tm)(o:List Tm):(z4z t o).sz≤1+Tm.szs o:=by
 unfold z4z;split
 · rename_i h
   match o,h with
   | [],h=>simp at h
   | x::r,h=>
    simp only [List.headD_cons,List.tail_cons,Tm.szs] at h ⊢;have hx:(x.k==6)=true:=h.2.2.1;have hr:r ≠ []:=by intro e;rw [e] at h;simp at h
    unfold z09;split
    · exact absurd rfl hr
    · have:=x.sz_eq;by_cases hl:x.l=[]
      · rw [if_neg (fun e=>e.2 hl)];simp only [Tm.sz,Tm.szs];omega
      · rw [if_pos ⟨hx,hl⟩];simp only [Tm.sz,Tm.szs_append];omega
 · simp only [Tm.sz];omega
mutual
def nd:Tm→Nat
 | .mk _ _ _ l=>1+nds l
def nds:List Tm→Nat
 | []=>0
 | t::l=>nd t+nds l
end
mutual
theorem zin (lf:Tm→Int→Tm)(S:Nat)(h:∀ u d,(lf u d).sz≤u.sz+S):∀ (t:Tm) (d:Int),(z1z lf t d).sz≤t.sz+nd t*S
 | .mk k s n l,d=>by
  rw [z1z];split
  · refine Nat.le_trans (withF_sz ..) ?_;have:=zig lf S h l (d+if (k==5)=true then 1 else 0)
    simp only [Tm.sz,nd,Nat.add_mul,Nat.one_mul];omega
  · refine Nat.le_trans (h _ _) ?_;simp only [nd,Nat.add_mul,Nat.one_mul];omega
theorem zig (lf:Tm→Int→Tm)(S:Nat)(h:∀ u d,(lf u d).sz≤u.sz+S):∀ (l:List Tm) (d:Int),Tm.szs (z1l lf l d)≤Tm.szs l+nds l*S
 | [],_=>by simp [z1l,Tm.szs]
 | t::l,d=>by
  have:=zin lf S h t d;have:=zig lf S h l d;simp only [z1l,Tm.szs,nds,Nat.add_mul];omega
end
theorem zci {M:Int}:∀ {a b:List Tm},bds M a→bds M b→bds M (a++b)
 | [],_,_,h=>h
 | _::_,_,h,h'=>⟨h.1,zci h.2 h'⟩
theorem bds_of {M:Int}:∀ {l:List Tm},(∀ t∈l,bd M t)→bds M l
 | [],_=>trivial
 | t::_,h=>⟨h t List.mem_cons_self,bds_of fun u hu=>h u (List.mem_cons_of_mem _ hu)⟩
theorem bd6 {M:Int}{s:List UInt8}{n:Int}{l:List Tm}(h:bds M l):bd M (.mk 6 s n l):=⟨fun e=>absurd e (by omega),h⟩
theorem zag {M:Int}{f:Tm}{l:List Tm}(hf:bd M f)(hl:bds M l):bd M (z09 f l):=by
 unfold z09;split
 · exact hf
 · split
   · exact bd6 (zci (bd_l hf) hl)
   · exact bd6 ⟨hf,hl⟩
theorem withF_bd {M:Int}{t:Tm}{o:List Tm}(hk:t.k≠3)(ho:bds M o):bd M (z4z t o):=by
 unfold z4z;split
 · rename_i h
   match o,h,ho with
   | [],h,_=>simp at h
   | x::r,h,ho=>exact zag ho.1 ho.2
 · exact ⟨fun e=>absurd e hk,ho⟩
mutual
theorem zju (lf:Tm→Int→Tm)(M M' D:Int)(h:∀ u d,bd M u→0≤d→d≤D→bd M' (lf u d)):∀ (t:Tm) (d:Int),bd M t→0≤d→d+t.sz≤D→bd M' (z1z lf t d)
 | .mk k s n l,d,hb,h0,h1=>by
  rw [z1z];simp only [Tm.sz] at h1;split
  · rename_i hk;refine withF_bd (fun e=> ?_) (zjf lf M M' D h l _ hb.2 (by split<;>omega) (by split<;>omega));have e:k=3:=e;rw [e] at hk;exact absurd hk (by decide)
  · exact h _ _ hb h0 (by omega)
theorem zjf (lf:Tm→Int→Tm)(M M' D:Int)(h:∀ u d,bd M u→0≤d→d≤D→bd M' (lf u d)):∀ (l:List Tm) (d:Int),bds M l→0≤d→d+Tm.szs l≤D→bds M' (z1l lf l d)
 | [],_,_,_,_=>trivial
 | t::l,d,hb,h0,h1=>by
  simp only [Tm.szs] at h1;exact ⟨zju lf M M' D h t d hb.1 h0 (by omega),zjf lf M M' D h l d hb.2 h0 (by omega)⟩
end
theorem z8x (lf:Tm→Int→Tm):∀ (l:List Tm) (d:Int),(z1l lf l d).length=l.length
 | [],_=>rfl
 | _::l,d=>by simp only [z1l,List.length_cons,z8x lf l d]
abbrev M61:Int:=2305843009213693952
def z4t (fr by_:Int)(u:Tm)(d:Int):Tm:=if (u.k==3)=true∧d+fr≤u.n then .mk u.k u.s (u.n+by_) u.l else u
def shT (fr by_:Int)(t:Tm)(d:Int):Tm:=z1z (z4t fr by_) t d
theorem zp7 (fr by_:Int)(u:Tm)(d:Int):(z4t fr by_ u d).sz=u.sz:=by
 unfold z4t;split
 · cases u;rfl
 · rfl
theorem shT_sz (fr by_:Int)(t:Tm)(d:Int):(shT fr by_ t d).sz≤t.sz:=by
 have:=zin (z4t fr by_) 0 (fun u d=>by rw [zp7];omega) t d;rw [Nat.mul_zero] at this;exact this
theorem c_moved (t:Tm)(by_:Int)(h1: -9223372036854775808≤t.n+by_)(h2:t.n+by_≤9223372036854775807):AC Tryz.prog 303 [aT t,ci by_] [] (aT (.mk t.k t.s (t.n+by_) t.l)) []:=by
 obtain ⟨k,s,n,l⟩:=t;refine AC.vc hP sh lv303 (Nat.le_refl _) (by simp) (by simp) (Eq.mpr (v303 k s n (FTs l) by_ _ _) ?_);rw [w64 (x:=n+by_) h1 h2];exact ⟨.refl _,rfl⟩
end Go.AM

set_option maxRecDepth 100000
open Go Go.Proofs
namespace Go.AM
def z2k:Nat→Tm→Tm
 | 0,t=>t
 | n+1,t=>z2k n (.mk 5 [] 0 [t])
theorem zp5 (N:Int)(hN:N≤4294967296):∀ (m:Nat) (i k:Int) (s:List UInt8) (n:Int) (rows:List (List FV)) (l:List Tm),0≤i→i+m=N→FV.Le (.sl false 4 rows) (.sl false 4 (FTs l))→
  RPt Tryz.prog 59 0 (aT (z2k m (.mk k s n l))) [] 1 ⟨[(3, .c (.a (.ep 0 4 0 0))),(4, .c (.a (.ep 1 4 0 0))),(6,ci N),(7,ci i)],[(0, .arr 4 [[.a (.fz (.int .i64 k)), .a (.fz (.str s)), .a (.fz (.int .i64 n)), .a (.fz (.sl false 4 rows))]]),(1, .arr 4 [[.a (.fz (.int .i64 0)), .a (.fz (.str [])), .a (.fz (.int .i64 0)), .a (.fz .N)]])],2⟩
 | 0,i,k,s,n,rows,l,h0,hi,hle=>by
  refine RPt.vc hP sh lv59 (Eq.mpr (zml ..) ?_);refine z01 (fun h=>absurd (of_decide_eq_true h) (by omega)) (fun _=>⟨leT hle,rfl⟩)
 | m+1,i,k,s,n,rows,l,h0,hi,hle=>by
  refine RPt.vc hP sh lv59 (Eq.mpr (zml ..) ?_)
  have h2:=zp5 N hN m (i+1) 5 [] 0 [[.int .i64 k, .str s, .int .i64 n, .sl false 4 rows]] [.mk k s n l] (by omega) (by omega) (zj4 rfl fun j r t hr ht=>by
   match j,hr,ht with
   | 0,hr,ht=>
    simp only [List.getElem?_cons_zero,Option.some.injEq] at hr ht;subst hr;subst ht;exact leFT hle
   | j+1,hr,_=>simp at hr)
  rw [w64 (x:=i+1) (by omega) (by omega)];refine z01 (fun _=>⟨⟨rfl,by omega⟩, ?_⟩) (fun h=>absurd (of_decide_eq_false h) (by omega));exact h2
theorem foldMax0 {n:Int}(h:0≤n):z0b [n,0]=n:=by
 rw [foldMax2];unfold maxI;split<;>omega
theorem za3 (m:Nat)(t:Tm)(hm:m≤4294967296):AC Tryz.prog 59 [ci m,aT t] [] (aT (z2k m t)) []:=by
 obtain ⟨k,s,n,l⟩:=t;refine AC.vc hP sh lv59 (Nat.le_refl _) (by simp) (by simp) (Eq.mpr (v59 m k s n (FTs l) _ _) ?_);rw [foldMax0 (by omega)];refine RPt.vc hP sh lv59 (Eq.mpr (zml ..) ?_)
 match m,hm with
 | 0,_=>exact z01 (fun h=>absurd (of_decide_eq_true h) (by omega)) (fun _=>⟨.refl _,rfl⟩)
 | m+1,hm=>
  refine z01 (fun _=>⟨⟨rfl,by omega⟩, ?_⟩) (fun h=>absurd (of_decide_eq_false h) (by omega))
  exact zp5 ((m+1:Nat):Int) (by omega) m 1 5 [] 0 [[.int .i64 k, .str s, .int .i64 n, .sl false 4 (FTs l)]] [.mk k s n l] (by omega) (by omega) (zj4 rfl fun j r t hr ht=>by
   match j,hr,ht with
   | 0,hr,ht=>
    simp only [List.getElem?_cons_zero,Option.some.injEq] at hr ht;subst hr;subst ht;exact leFT (.refl _)
   | j+1,hr,_=>simp at hr)
mutual
def z07:Tm→Bool
 | .mk k s n l=>
  if (k==0)=true then (zev s||zki s)&&n==0&&(((FTs l).length:Nat):Int)==0
  else if (k==1)=true then decide (n≥1)&&s==[]&&(((FTs l).length:Nat):Int)==0&&z24 l
  else if (k==2)=true then s==[]&&(((FTs l).length:Nat):Int)==0&&z24 l
  else if (k==3)=true then decide (n≥0)&&decide (n≤4611686018427387904)&&s==[]&&(((FTs l).length:Nat):Int)==0&&z24 l
  else if (k==4)=true then decide (n≥0)&&decide (n≤4611686018427387904)&&s==[]&&(((FTs l).length:Nat):Int)==0&&z24 l
  else if (k==5)=true then n==0&&s==[]&&(((FTs l).length:Nat):Int)==1&&z24 l
  else if (k==6)=true then n==0&&decide ((((FTs l).length:Nat):Int)≥2)&&((l.headD default).k !=6)&&s==[]&&z24 l
  else false
def z24:List Tm→Bool
 | []=>true
 | t::l=>z07 t&&z24 l
end
def zh9:List Tm→Int→Int
 | [],_=> -1
 | t::l,i=>if z07 t=true then zh9 l (i+1) else i
theorem zil:∀ (l:List Tm) (i:Int),0≤i→decide (zh9 l i≥0)= !z24 l
 | [],_,_=>rfl
 | t::l,i,h=>by
  rw [zh9,z24];split
  · rename_i e;rw [zil l (i+1) (by omega),e,Bool.true_and]
  · rename_i e;rw [show z07 t=false by simpa using e];simp;omega
theorem zp:∀ (b a:List Tm),(∀ u∈b,AC Tryz.prog 86 [aT u] [] (cb (!z07 u)) [])→(a++b).length≤B→
  RPt Tryz.prog 141 0 (ci (zh9 b a.length)) [] 1 ⟨[(0,aL (a++b)),(1, .c (.fn (.func 86) [] [])),(7,ci (((FTs (a++b)).length:Nat):Int)),(8,ci a.length)],[],0⟩
 | [],a,_,_=>by
  refine RPt.vc hP sh z6x (Eq.mpr (z9r ..) ?_);exact z01 (fun h=>absurd (of_decide_eq_true h) (geI' a)) (fun _=>z8n rfl)
 | t::b,a,ih,hl=>by
  refine RPt.vc hP sh z6x (Eq.mpr (z9r ..) ?_);have hl':=hl;simp only [List.length_append,List.length_cons,B] at hl';have h1:=ih t List.mem_cons_self;have h2:=zp b (a++ [t]) (fun u hu=>ih u (List.mem_cons_of_mem _ hu)) (by rw [ap];exact hl);have h3:=ltI' a t b;rw [ap,nx] at h2;rw [midI,w64 (x:=(a.length:Int)+1) (by omega) (by omega)];refine z01 (fun _=> ?_) (fun h=>absurd h3 (of_decide_eq_false h));obtain ⟨k',s',n',l'⟩:=t;refine ⟨⟨rfl,by omega,h3,rfl⟩,_,h1,z01 (fun h=> ?_) (fun h=> ?_)⟩
  · rw [zh9,if_neg (by simpa using h)];exact z8n rfl
  · rw [zh9,if_pos (by simpa using h)];exact h2
theorem c_contf (l:List Tm)(hl:l.length≤B)(ih:∀ u∈l,AC Tryz.prog 36 [aT u] [] (cb (z07 u)) []):AC Tryz.prog 85 [aL l, .c (.fn (.func 86) [] [])] [] (cb (!z24 l)) []:=by
 have h1:∀ u∈l,AC Tryz.prog 86 [aT u] [] (cb (!z07 u)) []:=fun u hu=>by
  have h:=ih u hu;obtain ⟨k,s,n,l⟩:=u;refine AC.vc hP sh lv86 (Nat.le_refl _) (by simp) (by simp) (Eq.mpr (v86 k s n (FTs l) _ _) ?_);exact ⟨_,h,z0i rfl⟩
 have h2:AC Tryz.prog 141 [aL l, .c (.fn (.func 86) [] [])] [] (ci (zh9 l 0)) []:=by
  refine AC.vc hP sh z6x (Nat.le_refl _) (by simp) (by simp) (Eq.mpr (v141_F86 ..) ?_);exact ⟨rfl,zp l [] h1 hl⟩
 refine AC.vc hP sh lv85 (Nat.le_refl _) (by simp) (by simp) (Eq.mpr (v85_F86 ..) ?_);exact ⟨_,h2,z0i (zil l 0 (Int.le_refl _))⟩
theorem head0:∀ {l:List Tm},2≤(((FTs l).length:Nat):Int)→List.getD (FTs l) 0 []=FT (l.headD default)
 | [],h=>by simp [FTs] at h
 | t::l,_=>rfl
theorem zal:∀ t:Tm,t.sz≤B→AC Tryz.prog 36 [aT t] [] (cb (z07 t)) []:=by
 refine Tm.ind fun t ih hs=> ?_;have hlen:=Tm.szs_length t.l;obtain ⟨k,s,n,l⟩:=t;simp only [Tm.sz,Tm.l] at hs hlen;have hc:=c_contf l (by omega) fun u hu=>ih u hu (by have:=Tm.szs_mem hu;omega);refine AC.vc hP sh lv36 (Nat.le_refl _) (by simp) (by simp) (Eq.mpr (v36 k s n (FTs l) _ _) ?_)
 refine z01 (fun h0=>⟨_,c_isname s,z01 (fun h1=>z01 (fun h2=>⟨rfl,z0i ?_⟩) (fun h2=>z0i ?_)) (fun h1=>⟨_,c_issym s,z01 (fun h1'=>z01 (fun h2=>⟨rfl,z0i ?_⟩) (fun h2=>z0i ?_)) (fun h1'=>z0i ?_)⟩)⟩)
  (fun h0=>z01 (fun h1=>z01 (fun h2=>z01 (fun h3=>⟨rfl,z01 (fun h4=>⟨_,hc,z0i ?_⟩) (fun h4=>z0i ?_)⟩) (fun h3=>z0i ?_)) (fun h2=>z0i ?_))
  (fun h1=>z01 (fun h2=>z01 (fun h3=>⟨rfl,z01 (fun h4=>⟨_,hc,z0i ?_⟩) (fun h4=>z0i ?_)⟩) (fun h3=>z0i ?_))
  (fun h2=>z01 (fun h3=>z01 (fun h4=>z01 (fun h5=>z01 (fun h6=>⟨rfl,z01 (fun h7=>⟨_,hc,z0i ?_⟩) (fun h7=>z0i ?_)⟩) (fun h6=>z0i ?_)) (fun h5=>z0i ?_)) (fun h4=>z0i ?_))
  (fun h3=>z01 (fun h3'=>z01 (fun h4=>z01 (fun h5=>z01 (fun h6=>⟨rfl,z01 (fun h7=>⟨_,hc,z0i ?_⟩) (fun h7=>z0i ?_)⟩) (fun h6=>z0i ?_)) (fun h5=>z0i ?_)) (fun h4=>z0i ?_))
  (fun h3'=>z01 (fun h5=>z01 (fun h6=>z01 (fun h7=>⟨rfl,z01 (fun h8=>⟨_,hc,z0i ?_⟩) (fun h8=>z0i ?_)⟩) (fun h7=>z0i ?_)) (fun h6=>z0i ?_))
  (fun h5=>z01 (fun h6=>z01 (fun h7=>⟨rfl,z01 (fun h8=> ?app) (fun h8=>⟨rfl,z0i ?_⟩)⟩) (fun h7=>⟨rfl,z0i ?_⟩)) (fun h6=>z0i ?_)))))))
 case app=>
  have h8':=of_decide_eq_true h8;rw [head0 h8',zo0];refine ⟨⟨rfl,by omega,by omega,rfl⟩,rfl,z01 (fun h9=>z01 (fun h10=>⟨rfl,z01 (fun h11=>⟨_,hc,z0i ?_⟩) (fun h11=>z0i ?_)⟩) (fun h10=>z0i ?_)) (fun h9=>z0i ?_)⟩
  all_goals (have h9':((l.headD default).k !=6)=_:=h9;simp_all [z07])
 all_goals first
  | (simp_all [z07];done)
  | (simp_all [z07];intros;omega)
end Go.AM

set_option maxRecDepth 100000
open Go Go.Proofs

set_option maxRecDepth 100000
open Go Go.Proofs

set_option maxRecDepth 100000
open Go Go.Proofs

set_option maxRecDepth 100000
open Go Go.Proofs

set_option maxRecDepth 100000
open Go Go.Proofs
namespace Go.AM
abbrev t0:Tm:= .mk 0 [] 0 []
def zh (s:Hp)(a:Int):Tm:=
 if (z06 s.C a).t=0 then .mk 0 (z8v s.N (z06 s.C a).a) 0 []
 else if (z06 s.C a).t=1 then .mk 1 [] (z06 s.C a).a []
 else if (z06 s.C a).t=2 then .mk 2 [] (z06 s.C a).a []
 else if (z06 s.C a).t=3 then .mk 3 [] (z06 s.C a).a []
 else if (z06 s.C a).t=4 then .mk 4 [] a []
 else t0
def z2m (F:Rd→Int→Tm×Rd):List Int→Tm→Rd→Tm×Rd
 | [],t,r=>(t,r)
 | x::l,t,r=>z2m F l (z09 t [(F r x).1]) (F r x).2
def fullG (F:Rd→Int→Tm×Rd)(h:(Int×List Int)×Rd):Tm×Rd:=
 if h.2.e≠0 then (t0,h.2)
 else if (z06 h.2.s.C h.1.1).t=6 then (z2k 1 (F h.2 (z06 h.2.s.C h.1.1).a).1,(F h.2 (z06 h.2.s.C h.1.1).a).2)
 else z2m F h.1.2 (zh h.2.s h.1.1) h.2
def fulR (N:Nat):Nat→Rd→Int→Tm×Rd
 | 0,r,_=>(t0,r)
 | n+1,r,a=>fullG (fulR N n) (z0q N r a)
theorem zjv:∀ (l:List Int) (f:Int) (r:Rd),r.e≠0→(z50 l f r).2=r
 | [],_,_,_=>rfl
 | x::l,f,r,h=>by
  have:(putR r ⟨7,f,x,0,0⟩).2=r:=by rw [putR,if_neg h]
  rw [z50,this];exact zjv l _ r h
theorem apps_f:∀ (l:List Int) (f:Int) (r:Rd),(z50 l f r).2.f=r.f
 | [],_,_=>rfl
 | x::l,f,r=>by rw [z50,apps_f l,zd6]
theorem keep_err {r:Rd}{a b:Int}(h:r.e≠0):z1f r a b=r:=by rw [z1f,if_neg fun q=>h q.1]
theorem zdb:∀ (n:Nat) (l:List Int) (b:Bool) (a:Int) (r:Rd),2*r.f.toNat+2≤n→((headL n l b a r).r.f:Int)+(headL n l b a r).l.length≤r.f+l.length∧(headL n l b a r).r.f≤r.f∧
  ((headL n l b a r).r.e=0→(headL n l b a r).r.f+(headL n l b a r).l.length+1≤r.f+l.length∧0≤(headL n l b a r).r.f)
 | 0,_,_,_,_,h=>absurd h (by omega)
 | n+1,l,b,a,r,hn=>by
  have vf:=z8f r a;rw [headL];split
  · rename_i q;exact ⟨Int.le_refl _,Int.le_refl _,fun w=>absurd w q⟩
  · split
    · rename_i q;exact ⟨by have:=vf.1;dsimp only;omega,vf.1,fun w=>absurd w q⟩
    · rename_i q;obtain ⟨f1,f2⟩:=vf.2 (by simpa using q);split
      · have ih:=zdb n ((z02 r a).1.1.b::l) b (z02 r a).1.1.a (z02 r a).2 (by omega);simp only [List.length_cons] at ih;exact ⟨by omega,by omega,fun w=>by have:=ih.2.2 w;omega⟩
      · split
        · have g1:=zir n (z02 r a).2 (z02 r a).1.1;have g2:=zge (z05 n (z02 r a).2 (z02 r a).1.1).2 (z02 r a).1.2 (z05 n (z02 r a).2 (z02 r a).1.1).1;have ih:=zdb n l b (z05 n (z02 r a).2 (z02 r a).1.1).1 (z1f (z05 n (z02 r a).2 (z02 r a).1.1).2 (z02 r a).1.2 (z05 n (z02 r a).2 (z02 r a).1.1).1) (by omega);exact ⟨by omega,by omega,fun w=>by have:=ih.2.2 w;omega⟩
        · split
          · split
            · exact ⟨by dsimp only;omega,vf.1,fun _=>⟨by dsimp only;omega,by dsimp only;omega⟩⟩
            · rename_i hl;have g:=beta_f (z02 r a).2 (z02 r a).1.1.a (l.headD 0);have ih:=zdb n l.tail true (z56 (z02 r a).2 (z02 r a).1.1.a (l.headD 0)).1 (z56 (z02 r a).2 (z02 r a).1.1.a (l.headD 0)).2 (by omega);have:l.tail.length≤l.length:=by simp
              exact ⟨by omega,by omega,fun w=>by have:=ih.2.2 w;omega⟩
          · exact ⟨by dsimp only;omega,vf.1,fun _=>⟨by dsimp only;omega,by dsimp only;omega⟩⟩
theorem zji (n:Nat)(r:Rd)(a:Int)(hn:2*r.f.toNat+2≤n):(z0q n r a).2.f≤r.f∧((z0q n r a).2.e=0→(z0q n r a).2.f+(z0q n r a).1.2.length+1≤r.f∧0≤(z0q n r a).2.f):=by
 have h:=zdb n [] false a r hn;simp only [List.length_nil] at h;unfold z0q z65;generalize headL n [] false a r=z at*;obtain ⟨l,b,a',r'⟩:=z;dsimp only at h ⊢;split
 · by_cases q:r'.e=0
   · have:=h.2.2 q;rw [zge,apps_f];exact ⟨h.2.1,fun _=>⟨by omega,this.2⟩⟩
   · rw [zjv _ _ _ q,keep_err q];exact ⟨h.2.1,fun w=>absurd w q⟩
 · exact ⟨h.2.1,fun w=>⟨by have:=(h.2.2 w).1;omega,(h.2.2 w).2⟩⟩
theorem z5t (t u:Tm):(z09 t [u]).sz≤1+t.sz+u.sz:=by
 have:=z4b t [u];simp only [Tm.szs] at this;omega
def zl (F:Rd→Int→Tm×Rd)(m:Int):Prop:=∀ (r:Rd) (a:Int),OkR r→r.f≤m→OkR (F r a).2∧(F r a).2.f≤r.f∧(F r a).1.sz+3*(F r a).2.f.toNat≤3*r.f.toNat+1
theorem zij {F:Rd→Int→Tm×Rd}{m:Int}(hF:zl F m):∀ (l:List Int) (t:Tm) (r:Rd),OkR r→r.f≤m→OkR (z2m F l t r).2∧(z2m F l t r).2.f≤r.f∧(z2m F l t r).1.sz+3*(z2m F l t r).2.f.toNat≤3*r.f.toNat+t.sz+2*l.length
 | [],t,r,ok,_=>⟨ok,Int.le_refl _,by simp only [z2m,List.length_nil];omega⟩
 | x::l,t,r,ok,hm=>by
  obtain ⟨a1,a2,a3⟩:=hF r x ok hm;have ih:=zij hF l (z09 t [(F r x).1]) (F r x).2 a1 (by omega);have:=z5t t (F r x).1;rw [z2m];simp only [List.length_cons];exact ⟨ih.1,by omega,by omega⟩
theorem leafR_sz (s:Hp)(a:Int):(zh s a).sz=1∧(zh s a).l=[]:=by
 unfold zh;split
 · exact ⟨rfl,rfl⟩
 · split
   · exact ⟨rfl,rfl⟩
   · split
     · exact ⟨rfl,rfl⟩
     · split
       · exact ⟨rfl,rfl⟩
       · split<;>exact ⟨rfl,rfl⟩
theorem zd7 (N:Nat):∀ (n:Nat) (m:Int),2*m.toNat+2≤N→m.toNat<n→zl (fulR N n) m
 | 0,_,_,h=>absurd h (by omega)
 | n+1,m,hN,hm=>fun r a ok hr=>by
  have hf:=zji N r a (by omega);have oh:=OkR.head N a ok;rw [fulR];unfold fullG;split
  · exact ⟨oh,hf.1,by show (t0.sz)+_≤_;have:t0.sz=1:=rfl;rw [this];have:=hf.1;dsimp only;omega⟩
  · rename_i q;obtain ⟨g1,g2⟩:=hf.2 (by simpa using q)
    have ih:m-1<0∨zl (fulR N n) (m-1):=by
     by_cases h:m-1<0
     · exact .inl h
     · exact .inr (zd7 N n (m-1) (by omega) (by omega))
    rcases ih with ih | ih
    · omega
    split
    · obtain ⟨a1,a2,a3⟩:=ih (z0q N r a).2 (z06 (z0q N r a).2.s.C (z0q N r a).1.1).a oh (by omega);refine ⟨a1,by dsimp only;omega, ?_⟩
      have e:(z2k 1 (fulR N n (z0q N r a).2 (z06 (z0q N r a).2.s.C (z0q N r a).1.1).a).1).sz=1+(fulR N n (z0q N r a).2 (z06 (z0q N r a).2.s.C (z0q N r a).1.1).a).1.sz:=by
       simp only [z2k,Tm.sz,Tm.szs];omega
      dsimp only;rw [e];omega
    · have:=zij ih (z0q N r a).1.2 (zh (z0q N r a).2.s (z0q N r a).1.1) (z0q N r a).2 oh (by omega);have e:=(leafR_sz (z0q N r a).2.s (z0q N r a).1.1).1;exact ⟨this.1,by omega,by omega⟩
abbrev FullC (F:Rd→Int→Tm×Rd)(m:Int):Prop:=∀ (r:Rd) (a:Int),OkR r→r.f≤m→AC Tryz.prog 72 [aRd,ci a] (oRd r) (aT (F r a).1) (oRd' (F r a).2)
abbrev stFu (r:Rd)(l:List Int)(z t:Tm)(x:FV)(i:Int):St:=
 ⟨[(0,aRd),(4, .c (.a (.ep 9 4 0 0))),(8, .c (.a (.ep 10 4 0 0))),(71, .c (.a (.fz (.sl false 1 (IR l))))),(72,ci (l.length:Int)),(73,ci i)],
  [(0,rd3 1 r),(1,hp6 6 7 8 5 r.s),(2, .gone),(3, .gone),(4, .gone),(5, .mapz (NM r.s.N 0)),(6, .arz 5 (CR r.s.C)),(7, .arz 7 (TR r.s.T)),(8, .arz 1 (NR r.s.N)),(9, .arr 4 [[.a (.fz (.int .i64 z.k)), .a (.fz (.str z.s)), .a (.fz (.int .i64 z.n)), .a (.fz .N)]]),(10, .arr 4 [[.a (.fz (.int .i64 t.k)), .a (.fz (.str t.s)), .a (.fz (.int .i64 t.n)), .a (.fz x)]])],11⟩
theorem zjs {F:Rd→Int→Tm×Rd}{m:Int}(hC:FullC F m)(hG:zl F m)(z:Tm)(l0:List Int)(hl0:l0.length≤1000000000):∀ (l pre:List Int) (t:Tm) (r:Rd),l0=pre++l→OkR r→r.f≤m→t.sz+3*r.f.toNat+2*l.length≤1000000000→
  RPt Tryz.prog 72 6 (aT (z2m F l t r).1) (oRd' (z2m F l t r).2) 3 (stFu r l0 z t (.sl false 4 (FTs t.l)) (pre.length:Int))
 | [],pre,t,r,hl,ok,_,_=>by
  rw [List.append_nil] at hl;obtain ⟨tk,ts,tn,tl⟩:=t;refine RPt.vc hP sh lv72 (Eq.mpr (v72_3b ..) ?_);exact z01 (fun q=>absurd (of_decide_eq_true q) (by rw [hl];omega)) (fun _=>⟨.refl _,rfl⟩)
 | x::l,pre,t,r,hl,ok,hr,hz=>by
  have hx:=hC r x ok hr;obtain ⟨a1,a2,a3⟩:=hG r x ok hr;have hlen:l0.length=pre.length+(l.length+1):=by rw [hl];simp
  simp only [List.length_cons] at hz;have tl:=t.sz_eq;have tl2:=Tm.szs_length t.l;have ha:=z3k t [(F r x).1] (by simp only [List.length_singleton];omega);have hs:=z5t t (F r x).1;have hlt:pre.length<l0.length:=by omega
  have hg:List.getD (IR l0) (Int.toNat (pre.length:Int)) []=[.int .i64 x]:=by
   rw [Int.toNat_natCast,z3a hlt];simp [hl]
  rw [z2m];have nx:=zjs hC hG z l0 hl0 l (pre++ [x]) (z09 t [(F r x).1]) (F r x).2 (by rw [hl];simp) a1 (by omega) (by omega);rw [show (((pre++ [x]).length:Nat):Int)=(pre.length:Int)+1 by simp] at nx;refine RPt.vc hP sh lv72 (Eq.mpr (v72_3b ..) ?_);rw [hg,w64 (x:=(pre.length:Int)+1) (by omega) (by omega)];refine z01 (fun _=>⟨⟨rfl,by omega,by rw [z0d];omega,rfl⟩,_,hx,⟨rfl,Nat.le_refl _⟩,z09 t [(F r x).1], ?_,nx⟩) (fun w=>absurd (of_decide_eq_false w) (by omega));obtain ⟨tk,ts,tn,tl⟩:=t;rw [show [FT4 (F r x).1]=FTs [(F r x).1] by rw [z48];rfl];exact ha
theorem l_rfulla {F:Rd→Int→Tm×Rd}{m:Int}(hC:FullC F m)(hG:zl F m)(z:Tm)(l:List Int)(hl:l.length≤1000000000)(k n:Int)(s:List UInt8)(r:Rd)(ok:OkR r)(hr:r.f≤m)(hz:1+3*r.f.toNat+2*l.length≤1000000000):
  RPt Tryz.prog 72 6 (aT (z2m F l (.mk k s n []) r).1) (oRd' (z2m F l (.mk k s n []) r).2) 3 (stFu r l z (.mk k s n []) .N 0):=by
 cases l with
 | nil=>
  refine RPt.vc hP sh lv72 (Eq.mpr (v72_3a ..) ?_);exact z01 (fun q=>absurd (of_decide_eq_true q) (by decide)) (fun _=>⟨leT (l:=[]) z2h,rfl⟩)
 | cons x l=>
  have hx:=hC r x ok hr;obtain ⟨a1,a2,a3⟩:=hG r x ok hr;simp only [List.length_cons] at hz hl;have ha:=(z3k (.mk k s n []) [(F r x).1] (by simp only [List.length_singleton,Tm.l,List.length_nil];omega)).args (args:=[.agg [.a (.fz (.int .i64 k)), .a (.fz (.str s)), .a (.fz (.int .i64 n)), .a (.fz .N)],aL [(F r x).1]]) ⟨leT z2h, .refl _,trivial⟩;have hs:=z5t (.mk k s n []) (F r x).1;have h1:(Tm.mk k s n []).sz=1:=rfl;have nx:=zjs hC hG z (x::l) (by simp only [List.length_cons];omega) l [x] (z09 (.mk k s n []) [(F r x).1]) (F r x).2 rfl a1 (by omega) (by omega);rw [z2m];refine RPt.vc hP sh lv72 (Eq.mpr (v72_3a ..) ?_);have hg:List.getD (IR (x::l)) (Int.toNat 0) []=[.int .i64 x]:=rfl;rw [hg,show IntKind.wrap .i64 ((0:Int)+1)=1 from w64 (by omega) (by omega)];refine z01 (fun _=>⟨⟨rfl,Int.le_refl _,by rw [z0d];simp only [List.length_cons];omega,rfl⟩,_,hx,⟨rfl,Nat.le_refl _⟩,z09 (.mk k s n []) [(F r x).1], ?_,nx⟩) (fun w=>absurd (of_decide_eq_false w) (by simp only [List.length_cons];omega));rw [show [FT4 (F r x).1]=FTs [(F r x).1] by rw [z48];rfl];exact ha
theorem zot (N:Nat):∀ (n:Nat) (m:Int),2*m.toNat+2≤N→m.toNat<n→m≤100000000→FullC (fulR N n) m
 | 0,_,_,h,_=>absurd h (by omega)
 | n+1,m,hN,hm,hB=>fun r a ok hr=>by
  have hf:=zji N r a (by omega);have oh:=OkR.head N a ok;have hh:=zla N r a ok (by omega) (by omega);have cc:=z40 (z0q N r a).2.s (z0q N r a).1.1;have nm:=zos (z0q N r a).2.s (z06 (z0q N r a).2.s.C (z0q N r a).1.1).a
  have e0:fulR N (n+1) r a=if (z0q N r a).2.e≠0 then (t0,(z0q N r a).2)
   else if (z06 (z0q N r a).2.s.C (z0q N r a).1.1).t=6 then (z2k 1 (fulR N n (z0q N r a).2 (z06 (z0q N r a).2.s.C (z0q N r a).1.1).a).1,(fulR N n (z0q N r a).2 (z06 (z0q N r a).2.s.C (z0q N r a).1.1).a).2)
   else z2m (fulR N n) (z0q N r a).1.2 (zh (z0q N r a).2.s (z0q N r a).1.1) (z0q N r a).2:=rfl
  have ih:m-1<0∨FullC (fulR N n) (m-1)∧zl (fulR N n) (m-1):=by
   by_cases h:m-1<0
   · exact .inl h
   · exact .inr ⟨zot N n (m-1) (by omega) (by omega) (by omega),zd7 N n (m-1) (by omega) (by omega)⟩
  unfold zh at e0;generalize z0q N r a=h at*;obtain ⟨⟨hd,xs⟩,⟨hs,hf',he⟩⟩:=h;dsimp only at*;refine AC.vc hP sh lv72 (by simp) (by simp [isLive]) (by simp [isLive]) (Eq.mpr (v72 ..) ?_);refine ⟨(hd,xs,⟨hs,hf',he⟩),hh,z0m (fun q=> ?_) (fun q=>⟨_,_,_,_,_,_,cc, ?_⟩)⟩
  · rw [if_pos q] at e0;rw [e0];exact ⟨leT (l:=[]) z2h,rfl⟩
  · rw [if_neg (fun w=>w q)] at e0;obtain ⟨g1,g2⟩:=hf.2 q;rcases ih with ih | ⟨ihC,ihG⟩
    · omega
    have go:∀ (k v:Int) (str:List UInt8),RPt Tryz.prog 72 6 (aT (z2m (fulR N n) xs (.mk k str v []) ⟨hs,hf',he⟩).1) (oRd' (z2m (fulR N n) xs (.mk k str v []) ⟨hs,hf',he⟩).2) 3 (stFu ⟨hs,hf',he⟩ xs t0 (.mk k str v []) .N 0):=
     fun k v str=>l_rfulla ihC ihG t0 xs (by omega) k v str ⟨hs,hf',he⟩ oh (by dsimp only;omega) (by dsimp only;omega)
    have el:(((IR xs).length:Nat):Int)=(xs.length:Int):=by rw [z0d]
    refine z04 (fun q6=> ?_) (fun q6=> ?_)
    · rw [if_pos q6] at e0;have hx:=ihC ⟨hs,hf',he⟩ (z06 hs.C hd).a oh (by dsimp only;omega);have hl:=za3 1 (fulR N n ⟨hs,hf',he⟩ (z06 hs.C hd).a).1 (by omega);rw [e0];exact ⟨_,hx,_,hl, .refl _,rfl⟩
    · rw [if_neg q6] at e0;rw [el];refine z04 (fun q0=> ?_) (fun q0=>z04 (fun q1=> ?_) (fun q1=>z04 (fun q2=> ?_) (fun q2=>z04 (fun q3=> ?_) (fun q3=>z04 (fun q4=> ?_) (fun q4=> ?_)))))
      · rw [if_pos q0] at e0;rw [e0];exact ⟨_,nm,rfl,go 0 0 _⟩
      · rw [if_neg q0,if_pos q1] at e0;rw [e0];exact ⟨rfl,go 1 _ []⟩
      · rw [if_neg q0,if_neg q1,if_pos q2] at e0;rw [e0];exact ⟨rfl,go 2 _ []⟩
      · rw [if_neg q0,if_neg q1,if_neg q2,if_pos q3] at e0;rw [e0];exact ⟨rfl,go 3 _ []⟩
      · rw [if_neg q0,if_neg q1,if_neg q2,if_neg q3,if_pos q4] at e0;rw [e0];exact ⟨rfl,go 4 _ []⟩
      · rw [if_neg q0,if_neg q1,if_neg q2,if_neg q3,if_neg q4] at e0;rw [e0];exact ⟨rfl,go 0 0 []⟩
end Go.AM

set_option maxRecDepth 100000
open Go Go.Proofs
namespace Go.AM
mutual
def occF:Tm→Int→Nat
 | .mk k _ n l,i=>if (k==3)=true∧(n==i)=true then 1 else occL l (i+if (k==5)=true then 1 else 0)
def occL:List Tm→Int→Nat
 | [],_=>0
 | t::l,i=>occF t i+occL l i
end
mutual
theorem occF_le:∀ (t:Tm) (i:Int),occF t i≤t.sz
 | .mk k s n l,i=>by
  rw [occF];have:=zh3 l (i+if (k==5)=true then 1 else 0)
  split<;>simp only [Tm.sz]<;>omega
theorem zh3:∀ (l:List Tm) (i:Int),occL l i≤Tm.szs l
 | [],_=>Nat.le_refl _
 | t::l,i=>by have:=occF_le t i;have:=zh3 l i;simp only [occL,Tm.szs];omega
end
theorem zj6 (i:Int):∀ (b a:List Tm) (acc:Nat),(∀ u∈b,AC Tryz.prog 315 [aT u,ci i] [] (ci (occF u i)) [])→(a++b).length≤B→acc+occL b i≤2*B→
  RPt Tryz.prog 315 0 (ci ((acc+occL b i:Nat):Int)) [] 3 ⟨[(1,ci i),(5,ci acc),(21,aL (a++b)),(22,ci (((FTs (a++b)).length:Nat):Int)),(23,ci a.length)],[],0⟩
 | [],a,acc,_,_,_=>by
  refine RPt.vc hP sh zp2 (Eq.mpr (zoi ..) ?_);exact z01 (fun h=>absurd (of_decide_eq_true h) (geI' a)) (fun _=>z8n (by simp [occL]))
 | t::b,a,acc,ih,hl,ha=>by
  have hl':=hl;simp only [List.length_append,List.length_cons,B] at hl';simp only [occL,B] at ha;have h1:=ih t List.mem_cons_self;have h2:=zj6 i b (a++ [t]) (acc+occF t i) (fun u hu=>ih u (List.mem_cons_of_mem _ hu)) (by rw [ap];exact hl) (by simp only [B];omega);have h3:=ltI' a t b;rw [ap,nx] at h2;refine RPt.vc hP sh zp2 (Eq.mpr (zoi ..) ?_);rw [midI,w64 (x:=(a.length:Int)+1) (by omega) (by omega)];refine z01 (fun _=> ?_) (fun h=>absurd h3 (of_decide_eq_false h));rw [occL,←Nat.add_assoc];obtain ⟨k',s',n',l'⟩:=t;refine ⟨⟨rfl,by omega,h3,rfl⟩,_,h1, ?_⟩;rw [w64 (by omega) (by omega),show (acc:Int)+((occF (.mk k' s' n' l') i:Nat):Int)=((acc+occF (.mk k' s' n' l') i:Nat):Int) by omega];exact h2
theorem c_occurs:∀ t:Tm,t.sz≤B→∀ i:Int,0-2305843009213693952≤i→i+t.sz≤2305843009213693952→AC Tryz.prog 315 [aT t,ci i] [] (ci (occF t i)) []:=by
 refine Tm.ind fun t ih hs i h0 h1=> ?_;have hlen:=Tm.szs_length t.l;obtain ⟨k,s,n,l⟩:=t;simp only [Tm.sz,Tm.l,B] at hs hlen h1
 have loop:∀ j:Int,0-2305843009213693952≤j→j+Tm.szs l≤2305843009213693952→RPt Tryz.prog 315 0 (ci (occL l j)) [] 3 ⟨[(1,ci j),(5,ci 0),(21,aL l),(22,ci (((FTs l).length:Nat):Int)),(23,ci 0)],[],0⟩:=fun j hj0 hj1=>by
  have hle:=zh3 l j;have:=zj6 j l [] 0 (fun u hu=>ih u hu (by have:=Tm.szs_mem hu;simp only [B];omega) j hj0 (by have:=Tm.szs_mem hu;omega)) (by simp only [List.nil_append,B];omega) (by simp only [B];omega);rw [Nat.zero_add] at this;exact this
 refine AC.vc hP sh zp2 (Nat.le_refl _) (by simp) (by simp) (Eq.mpr (v315 k s n (FTs l) i _ _) ?_);have no:∀ (c:¬((k==3)=true∧(n==i)=true)),occF (.mk k s n l) i=occL l (i+if (k==5)=true then 1 else 0):=fun c=>by rw [occF,if_neg c]
 refine z01 (fun h=>z01 (fun h2=>z8n ?_) (fun h2=>⟨rfl, ?_⟩)) (fun h=>z01 (fun h2=>⟨rfl, ?_⟩) (fun h2=>⟨rfl, ?_⟩))
 · rw [occF,if_pos ⟨h,h2⟩];rfl
 · have e:k=3:=by simpa using h
   rw [no (fun c=>by rw [c.2] at h2;cases h2)];subst e;rw [show (i+if ((3:Int)==5)=true then 1 else 0)=i by simp]
   exact loop i (by omega) (by omega)
 · rw [no (fun c=>by rw [c.1] at h;cases h),if_pos h2,w64 (by omega) (by omega)];exact loop (i+1) (by omega) (by omega)
 · rw [no (fun c=>by rw [c.1] at h;cases h),if_neg (by rw [h2];simp),Int.add_zero];exact loop i (by omega) (by omega)
theorem znh (t:Tm)(hs:t.sz≤B)(i:Int)(h0:0-2305843009213693952≤i)(h1:i+t.sz≤2305843009213693952):AC Tryz.prog 301 [aT t,ci i] [] (ci (if z07 t=true then (occF t i:Int) else 0)) []:=by
 have hv:=zal t hs;have ho:=c_occurs t hs i h0 h1;obtain ⟨k,s,n,l⟩:=t;refine AC.vc hP sh lv301 (Nat.le_refl _) (by simp) (by simp) (Eq.mpr (v301 k s n (FTs l) i _ _) ?_);refine ⟨_,hv,z01 (fun h=>z8n ?_) (fun h=>⟨_,ho,z8n ?_⟩)⟩
 · rw [if_neg (by simpa using h)]
 · rw [if_pos (by simpa using h)]
end Go.AM

set_option maxRecDepth 100000
open Go Go.Proofs
namespace Go.AM
abbrev aTE (t:Tm)(e:Int):TV:= .tup [(true,[.a (.fz (.int .i64 t.k)), .a (.fz (.str t.s)), .a (.fz (.int .i64 t.n)), .a (.fz (.sl false 4 (FTs t.l)))]),(false,[.a (.fz (.int .i64 e))])]
abbrev noT:Tm:= .mk 0 [] 0 []
theorem leTE {k n e:Int}{s:List UInt8}{x:FV}{l:List Tm}(h:FV.Le x (.sl false 4 (FTs l))):TV.Le (.tup [(true,[.a (.fz (.int .i64 k)), .a (.fz (.str s)), .a (.fz (.int .i64 n)), .a (.fz x)]),(false,[.a (.fz (.int .i64 e))])]) (aTE (.mk k s n l) e):=by
 refine .tup _ _ rfl fun i p q hp hq=> ?_
 match i,hp,hq with
 | 0,hp,hq=>
  simp only [List.getElem?_cons_zero,Option.some.injEq] at hp hq;subst hp;subst hq;refine ⟨rfl,rfl,fun j x y hx hy=> ?_⟩
  match j,hx,hy with
  | 0,hx,hy=>simp at hx hy;subst hx;subst hy;exact .refl _
  | 1,hx,hy=>simp at hx hy;subst hx;subst hy;exact .refl _
  | 2,hx,hy=>simp at hx hy;subst hx;subst hy;exact .refl _
  | 3,hx,hy=>simp at hx hy;subst hx;subst hy;exact .a _ _ (.fz _ _ h)
  | j+4,hx,_=>simp at hx
 | 1,hp,hq=>
  simp only [List.getElem?_cons_zero,List.getElem?_cons_succ,Option.some.injEq] at hp hq;subst hp;subst hq;refine ⟨rfl,rfl,fun j x y hx hy=> ?_⟩
  match j,hx,hy with
  | 0,hx,hy=>simp at hx hy;subst hx;subst hy;exact .refl _
  | j+1,hx,_=>simp at hx
 | i+2,hp,_=>simp at hp
end Go.AM

set_option maxRecDepth 100000
open Go Go.Proofs
namespace Go.AM
def hd (l:List Tm):Tm:=l.headD default
mutual
def okB:Tm→Bool
 | .mk k s n l=>(if (k==6)=true then decide (2≤l.length)&&(hd l).k !=6&&(s==[]&&n==0) else if (k==5)=true then decide (l.length=1)&&(s==[]&&n==0) else decide (l.length=0))&&okL l
def okL:List Tm→Bool
 | []=>true
 | t::l=>okB t&&okL l
end
theorem z5o:∀ {l:List Tm} {t:Tm},okL l=true→t∈l→okB t=true
 | x::l,t,h,hm=>by
  simp only [okL,Bool.and_eq_true] at h;rcases List.mem_cons.1 hm with rfl | hm
  · exact h.1
  · exact z5o h.2 hm
theorem zls:∀ {l:List Tm},(∀ t∈l,okB t=true)→okL l=true
 | [],_=>rfl
 | t::l,h=>by simp only [okL,h t List.mem_cons_self,zls (l:=l) fun u hu=>h u (List.mem_cons_of_mem _ hu),Bool.and_self]
theorem okB6 {k n:Int}{s:List UInt8}{l:List Tm}(h:okB (.mk k s n l)=true)(hk:k=6):∃ x y r,l=x::y::r∧x.k≠6∧okL l=true:=by
 subst hk;simp only [okB,Bool.and_eq_true] at h
 match l,h with
 | [],h=>simp at h
 | [x],h=>simp at h
 | x::y::r,h=>exact ⟨x,y,r,rfl,by have:=h.1;simp [hd] at this;exact this.1,h.2⟩
theorem okB5 {k n:Int}{s:List UInt8}{l:List Tm}(h:okB (.mk k s n l)=true)(hk:k=5):∃ x,l=[x]∧okB x=true:=by
 subst hk;simp only [okB,Bool.and_eq_true] at h
 match l,h with
 | [],h=>simp at h
 | [x],h=>exact ⟨x,rfl,by have:=h.2;simpa [okL] using this⟩
 | x::y::r,h=>simp at h
theorem okB0 {k n:Int}{s:List UInt8}{l:List Tm}(h:okB (.mk k s n l)=true)(h5:k≠5)(h6:k≠6):l=[]:=by
 simp only [okB,Bool.and_eq_true] at h;have:=h.1;rw [if_neg (by simpa using h6),if_neg (by simpa using h5)] at this;exact List.eq_nil_of_length_eq_zero (by simpa using this)
theorem okB_sn {k n:Int}{s:List UInt8}{l:List Tm}(h:okB (.mk k s n l)=true)(hk:k=5∨k=6):s=[]∧n=0:=by
 simp only [okB,Bool.and_eq_true] at h;have h:=h.1;rcases hk with rfl | rfl
 · simp at h;exact h.2
 · simp at h;exact h.2
theorem okB_l {t:Tm}(h:okB t=true):okL t.l=true:=by
 obtain ⟨k,s,n,l⟩:=t;simp only [okB,Bool.and_eq_true] at h;exact h.2
mutual
theorem z5y:∀ t:Tm,z07 t=true→okB t=true
 | .mk k s n l,h=>by
  rw [okB];have hl:=zft l;rw [z07] at h;split at h
  · rename_i e;have e:k=0:=by simpa using e
    subst e;rw [lenI] at h;have:l=[]:=by simp at h;exact h.2
    subst this;rfl
  split at h
  · rename_i e;have e:k=1:=by simpa using e
    subst e;rw [lenI] at h;have:l=[]:=by simp at h;exact h.1.2
    subst this;rfl
  split at h
  · rename_i e;have e:k=2:=by simpa using e
    subst e;rw [lenI] at h;have:l=[]:=by simp at h;exact h.1.2
    subst this;rfl
  split at h
  · rename_i e;have e:k=3:=by simpa using e
    subst e;rw [lenI] at h;have:l=[]:=by simp at h;exact h.1.2
    subst this;rfl
  split at h
  · rename_i e;have e:k=4:=by simpa using e
    subst e;rw [lenI] at h;have:l=[]:=by simp at h;exact h.1.2
    subst this;rfl
  split at h
  · rename_i e;have e:k=5:=by simpa using e
    subst e;rw [lenI] at h;simp only [Bool.and_eq_true,beq_iff_eq] at h;have h1:l.length=1:=by have:=h.1.2;omega
    rw [hl h.2];simp [h1,h.1.1.1,h.1.1.2]
  split at h
  · rename_i e;have e:k=6:=by simpa using e
    subst e;rw [lenI] at h;simp only [Bool.and_eq_true,decide_eq_true_eq,beq_iff_eq] at h;have h1:2≤l.length:=by have:=h.1.1.1.2;omega
    have h2:((hd l).k !=6)=true:=h.1.1.2;rw [hl h.2,h2];simp [h1,h.1.1.1.1,h.1.2]
  · cases h
theorem zft:∀ l:List Tm,z24 l=true→okL l=true
 | [],_=>rfl
 | t::l,h=>by
  simp only [z24,Bool.and_eq_true] at h;simp only [okL,z5y t h.1,zft l h.2,Bool.and_self]
end
theorem ok_ne {t:Tm}(h:okB t=true):t.k=6→t.l ≠ []:=by
 obtain ⟨k,s,n,l⟩:=t;intro hk;obtain ⟨x,y,r,e,_⟩:=okB6 h hk;show l ≠ [];rw [e];simp
end Go.AM

set_option maxRecDepth 100000
open Go Go.Proofs
namespace Go.AM
abbrev zT:List WV:=[.a (.fz (.int .i64 0)), .a (.fz (.str [])), .a (.fz (.int .i64 0)), .a (.fz .N)]
theorem zcc (k:Int)(s:List UInt8)(n:Int)(l:List Tm)(a:Tm)(r:List Tm):z09 (.mk k s n l) (a::r)=if (k==6)=true∧l ≠ [] then .mk 6 [] 0 (l++a::r) else .mk 6 [] 0 (.mk k s n l::a::r):=rfl
end Go.AM

set_option maxRecDepth 100000
open Go Go.Proofs
namespace Go.AM
def SZ:Nat:=130000000
theorem el0 (x:Tm)(l:List Tm):FV.L 4 (.sl false 4 (FTs (x::l)))=true∧((0:Int)≤0∧((0:Int)<(((FTs (x::l)).length:Nat):Int)∧(rE (List.getD (FTs (x::l)) 0 []):List FV)=List.getD (FTs (x::l)) 0 [])):=⟨rfl,Int.le_refl _,by rw [lenI];simp only [List.length_cons];omega,z7y x⟩
theorem leTB {k n:Int}{b:Bool}{s:List UInt8}{x:FV}{l:List Tm}(h:FV.Le x (.sl false 4 (FTs l))):TV.Le (.tup [(true,[.a (.fz (.int .i64 k)), .a (.fz (.str s)), .a (.fz (.int .i64 n)), .a (.fz x)]),(false,[.a (.fz (.bool b))])]) (.tup [(true,cT (.mk k s n l)),(false,[.a (.fz (.bool b))])]):=by
 refine .tup _ _ rfl fun i p q hp hq=> ?_
 match i,hp,hq with
 | 0,hp,hq=>
  simp only [List.getElem?_cons_zero,Option.some.injEq] at hp hq;subst hp;subst hq;refine ⟨rfl,rfl,fun j x y hx hy=> ?_⟩
  match j,hx,hy with
  | 0,hx,hy=>simp at hx hy;subst hx;subst hy;exact .refl _
  | 1,hx,hy=>simp at hx hy;subst hx;subst hy;exact .refl _
  | 2,hx,hy=>simp at hx hy;subst hx;subst hy;exact .refl _
  | 3,hx,hy=>simp at hx hy;subst hx;subst hy;exact .a _ _ (.fz _ _ h)
  | j+4,hx,_=>simp at hx
 | 1,hp,hq=>
  simp only [List.getElem?_cons_zero,List.getElem?_cons_succ,Option.some.injEq] at hp hq;subst hp;subst hq;exact ⟨rfl,rfl,fun j x y hx hy=>by rw [hx] at hy;injection hy with hy;subst hy;exact .refl _⟩
 | i+2,hp,_=>simp at hp
theorem not_t {b:Bool}(h:(!b)=true):b=false:=by cases b<;>simp_all
theorem zk7 {b:Bool}(h:(!b)=false):b=true:=by cases b<;>simp_all
end Go.AM

set_option maxRecDepth 100000
open Go Go.Proofs
namespace Go.AM
theorem z9s {f:Tm}{args:List Tm}(hf:okB f=true)(ha:okL args=true):okB (z09 f args)=true:=by
 match args,ha with
 | [],_=>exact hf
 | a::r,ha=>
  obtain ⟨k,s,n,l⟩:=f;rw [zcc];split
  · rename_i h;have hk:k=6:=by simpa using h.1
    obtain ⟨x,y,r',rfl,h6,hl⟩:=okB6 hf hk
    have hall:okL ((x::y::r')++a::r)=true:=zls fun t ht=>by
     rcases List.mem_append.1 ht with ht | ht
     · exact z5o hl ht
     · exact z5o ha ht
    have h6':(x.k !=6)=true:=by simpa using h6
    rw [okB,hall];simp [hd,h6]
  · rename_i h;have h6:k≠6:=fun e=>h ⟨by simpa using e,ok_ne hf e⟩;have hall:okL (.mk k s n l::a::r)=true:=by simp only [okL,Bool.and_eq_true] at ha ⊢;exact ⟨hf,ha⟩
    rw [okB,hall];simp [hd,Tm.k,h6]
theorem withF_ok {k n:Int}{s:List UInt8}{l o:List Tm}(h:okB (.mk k s n l)=true)(hk:k=5∨k=6)(ho:okL o=true)(hlen:o.length=l.length):okB (z4z (.mk k s n l) o)=true:=by
 obtain ⟨rfl,rfl⟩:=okB_sn h hk;unfold z4z;split
 · rename_i hc
   match o,ho,hc with
   | [],_,hc=>simp at hc
   | x::r,ho,hc=>
    simp only [okL,Bool.and_eq_true] at ho;exact z9s ho.1 ho.2
 · rename_i hc;show okB (.mk k [] 0 o)=true;rcases hk with rfl | rfl
   · obtain ⟨x,rfl,_⟩:=okB5 h rfl;rw [okB,ho];simp only [List.length_cons,List.length_nil] at hlen;simp [hlen]
   · obtain ⟨x,y,r,rfl,h6,_⟩:=okB6 h rfl;have h1:¬(hd o).k=6:=fun e=>hc ⟨rfl,by rw [hlen];simp,by simpa [hd] using e,show (x.k !=6)=true by simpa using h6⟩;rw [okB,ho];simp only [List.length_cons] at hlen;simp [hlen,h1]
mutual
theorem zi6 (lf:Tm→Int→Tm)(h:∀ u d,okB u=true→u.k≠5→u.k≠6→okB (lf u d)=true):∀ (t:Tm) (d:Int),okB t=true→okB (z1z lf t d)=true
 | .mk k s n l,d,ho=>by
  rw [z1z];split
  · rename_i hk;exact withF_ok ho (by simpa using hk) (zit lf h l _ (okB_l ho)) (z8x ..)
  · rename_i hk;exact h _ _ ho (fun e=>hk (by simp [show k=5 from e])) (fun e=>hk (by simp [show k=6 from e]))
theorem zit (lf:Tm→Int→Tm)(h:∀ u d,okB u=true→u.k≠5→u.k≠6→okB (lf u d)=true):∀ (l:List Tm) (d:Int),okL l=true→okL (z1l lf l d)=true
 | [],_,_=>rfl
 | t::l,d,ho=>by
  simp only [okL,Bool.and_eq_true] at ho;simp only [z1l,okL,zi6 lf h t d ho.1,zit lf h l d ho.2,Bool.and_self]
end
theorem okB_leaf {k n m:Int}{s:List UInt8}{l:List Tm}(h:okB (.mk k s n l)=true)(h5:k≠5)(h6:k≠6):okB (.mk k s m l)=true:=by
 have:l=[]:=okB0 h h5 h6;subst this;simp [okB,h5,h6,okL]
theorem shT_ok {fr by_:Int}{t:Tm}(d:Int)(h:okB t=true):okB (shT fr by_ t d)=true:=by
 refine zi6 _ (fun u d hu h5 h6=> ?_) t d h;unfold z4t;split
 · obtain ⟨k,s,n,l⟩:=u;exact okB_leaf hu h5 h6
 · exact hu
end Go.AM

set_option maxRecDepth 100000
open Go Go.Proofs

set_option maxRecDepth 100000
open Go Go.Proofs
namespace Go.AM
theorem args1 {a:List FV}{x:Tm}(ha:LeR a (FT x)):TV.Le (.c (.a (.fz (.sl false 4 [a])))) (aL [x]):=le_c (zj4 rfl fun i r t hr ht=>by
 match i,hr,ht with
 | 0,hr,ht=>simp only [List.getElem?_cons_zero,Option.some.injEq] at hr ht;subst hr;subst ht;exact ha
 | i+1,hr,_=>simp at hr)
theorem args2 {a b:List FV}{x y:Tm}(ha:LeR a (FT x))(hb:LeR b (FT y)):TV.Le (.c (.a (.fz (.sl false 4 [a,b])))) (aL [x,y]):=le_c (zj4 rfl fun i r t hr ht=>by
 match i,hr,ht with
 | 0,hr,ht=>simp only [List.getElem?_cons_zero,Option.some.injEq] at hr ht;subst hr;subst ht;exact ha
 | 1,hr,ht=>simp only [List.getElem?_cons_zero,List.getElem?_cons_succ,Option.some.injEq] at hr ht;subst hr;subst ht;exact hb
 | i+2,hr,_=>simp at hr)
end Go.AM

set_option maxRecDepth 100000
open Go Go.Proofs
namespace Go.AM
mutual
def lvB:Tm→Bool
 | .mk k s n l=>if (k==5||k==6)=true then lvL l else z07 (.mk k s n l)
def lvL:List Tm→Bool
 | []=>true
 | t::l=>lvB t&&lvL l
end
theorem z8o:∀ {l:List Tm} {t:Tm},lvL l=true→t∈l→lvB t=true
 | x::l,t,h,hm=>by
  simp only [lvL,Bool.and_eq_true] at h;rcases List.mem_cons.1 hm with rfl | hm
  · exact h.1
  · exact z8o h.2 hm
theorem zp0:∀ {l:List Tm},(∀ t∈l,lvB t=true)→lvL l=true
 | [],_=>rfl
 | t::l,h=>by simp only [lvL,h t List.mem_cons_self,zp0 (l:=l) fun u hu=>h u (List.mem_cons_of_mem _ hu),Bool.and_self]
theorem z3u {k n:Int}{s:List UInt8}{l:List Tm}(hk:k=5∨k=6):lvB (.mk k s n l)=lvL l:=by
 rw [lvB,if_pos (by rcases hk with rfl | rfl<;>rfl)]
theorem zh5 {k n:Int}{s:List UInt8}{l:List Tm}(h5:k≠5)(h6:k≠6):lvB (.mk k s n l)=z07 (.mk k s n l):=by
 rw [lvB,if_neg (by simp [h5,h6])]
theorem valid5 {s:List UInt8}{n:Int}{l:List Tm}:z07 (.mk 5 s n l)=(n==0&&s==[]&&decide (l.length=1)&&z24 l):=by
 rw [z07,lenI];simp only [show ((5:Int)==0)=false from rfl,show ((5:Int)==1)=false from rfl,show ((5:Int)==2)=false from rfl,show ((5:Int)==3)=false from rfl,show ((5:Int)==4)=false from rfl,Bool.false_eq_true,if_false,show ((5:Int)==5)=true from rfl,if_true];congr 2;by_cases h:l.length=1
 · rw [h];rfl
 · rw [decide_eq_false h];simp;omega
theorem valid6 {s:List UInt8}{n:Int}{l:List Tm}:z07 (.mk 6 s n l)=(n==0&&decide (2≤l.length)&&((hd l).k !=6)&&s==[]&&z24 l):=by
 rw [z07,lenI];simp only [show ((6:Int)==0)=false from rfl,show ((6:Int)==1)=false from rfl,show ((6:Int)==2)=false from rfl,show ((6:Int)==3)=false from rfl,show ((6:Int)==4)=false from rfl,show ((6:Int)==5)=false from rfl,Bool.false_eq_true,if_false,show ((6:Int)==6)=true from rfl,if_true];congr 4;by_cases h:2≤l.length
 · rw [decide_eq_true h,decide_eq_true (by omega)]
 · rw [decide_eq_false h,decide_eq_false (by omega)]
mutual
theorem z7f:∀ t:Tm,z07 t=(okB t&&lvB t)
 | .mk k s n l=>by
  by_cases h5:k=5
  · subst h5;rw [valid5,z3u (.inl rfl),z84 l,okB];cases okL l<;>cases lvL l<;>simp [Bool.and_comm,Bool.and_assoc]
  · by_cases h6:k=6
    · subst h6;rw [valid6,z3u (.inr rfl),z84 l,okB];cases okL l<;>cases lvL l<;>simp [Bool.and_comm,Bool.and_assoc]
    · rw [zh5 h5 h6];cases hv:z07 (.mk k s n l) with
      | false=>simp
      | true=>rw [z5y _ hv];rfl
theorem z84:∀ l:List Tm,z24 l=(okL l&&lvL l)
 | []=>rfl
 | t::l=>by
  rw [z24,okL,lvL,z7f t,z84 l];cases okB t<;>cases lvB t<;>simp
end
theorem ze7 {t:Tm}(h:z07 t=true):lvB t=true:=by rw [z7f] at h;simp at h;exact h.2
theorem z9n {f:Tm}{args:List Tm}(hf:lvB f=true)(ha:lvL args=true):lvB (z09 f args)=true:=by
 match args,ha with
 | [],_=>exact hf
 | a::r,ha=>
  obtain ⟨k,s,n,l⟩:=f;rw [zcc];split
  · rename_i h;have hk:k=6:=by simpa using h.1
    rw [z3u (.inr hk)] at hf;rw [z3u (.inr rfl)]
    exact zp0 fun t ht=>by
     rcases List.mem_append.1 ht with ht | ht
     · exact z8o hf ht
     · exact z8o ha ht
  · rw [z3u (.inr rfl)];simp only [lvL,Bool.and_eq_true] at ha ⊢;exact ⟨hf,ha⟩
theorem withF_lv {t:Tm}{o:List Tm}(hk:t.k=5∨t.k=6)(ho:lvL o=true):lvB (z4z t o)=true:=by
 obtain ⟨k,s,n,l⟩:=t;unfold z4z;split
 · rename_i hc
   match o,ho,hc with
   | [],_,hc=>exact absurd hc.2.1 (by simp)
   | x::r,ho,hc=>
    simp only [lvL,Bool.and_eq_true] at ho;exact z9n ho.1 ho.2
 · exact (z3u hk).trans ho
mutual
theorem zj2 (lf:Tm→Int→Tm)(Q:Tm→Int→Prop)(hq:∀ k s n l d,Q (.mk k s n l) d→∀ u∈l,Q u (d+if (k==5)=true then 1 else 0))(h:∀ u d,lvB u=true→Q u d→u.k≠5→u.k≠6→lvB (lf u d)=true):∀ (t:Tm) (d:Int),lvB t=true→Q t d→lvB (z1z lf t d)=true
 | .mk k s n l,d,ho,hQ=>by
  rw [z1z];split
  · rename_i hk;have hk:k=5∨k=6:=by simpa using hk
    rw [z3u hk] at ho;exact withF_lv hk (zio lf Q hq h l _ ho (hq k s n l d hQ))
  · rename_i hk;exact h _ _ ho hQ (fun e=>hk (by simp [show k=5 from e])) (fun e=>hk (by simp [show k=6 from e]))
theorem zio (lf:Tm→Int→Tm)(Q:Tm→Int→Prop)(hq:∀ k s n l d,Q (.mk k s n l) d→∀ u∈l,Q u (d+if (k==5)=true then 1 else 0))(h:∀ u d,lvB u=true→Q u d→u.k≠5→u.k≠6→lvB (lf u d)=true):∀ (l:List Tm) (d:Int),lvL l=true→(∀ u∈l,Q u d)→lvL (z1l lf l d)=true
 | [],_,_,_=>rfl
 | t::l,d,ho,hQ=>by
  simp only [lvL,Bool.and_eq_true] at ho;simp only [z1l,lvL,zj2 lf Q hq h t d ho.1 (hQ t List.mem_cons_self),zio lf Q hq h l d ho.2 (fun u hu=>hQ u (List.mem_cons_of_mem _ hu)),Bool.and_self]
end
theorem valid3 {s:List UInt8}{n:Int}{l:List Tm}:z07 (.mk 3 s n l)=true↔0≤n∧n≤4611686018427387904∧s=[]∧l=[]:=by
 rw [z07,lenI];simp only [show ((3:Int)==0)=false from rfl,show ((3:Int)==1)=false from rfl,show ((3:Int)==2)=false from rfl,Bool.false_eq_true,if_false,show ((3:Int)==3)=true from rfl,if_true];simp only [Bool.and_eq_true,decide_eq_true_eq,beq_iff_eq];constructor
 · rintro ⟨⟨⟨⟨h1,h2⟩,h3⟩,h4⟩,_⟩;exact ⟨h1,h2,h3,List.eq_nil_of_length_eq_zero (by omega)⟩
 · rintro ⟨h1,h2,rfl,rfl⟩;exact ⟨⟨⟨⟨h1,h2⟩,rfl⟩,rfl⟩,rfl⟩
end Go.AM

set_option maxRecDepth 100000
open Go Go.Proofs
namespace Go.AM
def lastT (l:List Tm):Tm:=l.getLastD default
def zcr (b:Tm):Tm:=z09 (hd b.l) b.l.tail.dropLast
def z3o (b:Tm):Bool:=b.k==6&&(lastT b.l).k==3&&(lastT b.l).n==0&&occF (zcr b) 0==0
def z8j (b:Tm):Tm:=if z3o b=true then shT 0 (-1) (zcr b) 0 else noT
mutual
def z0a:Tm→Tm
 | .mk k s n l=>if (k==5)=true then (if z3o (hd (z1i l))=true then z8j (hd (z1i l)) else .mk 5 [] 0 [hd (z1i l)]) else if (k==6)=true then z09 (hd (z1i l)) (z1i l).tail else .mk k s n l
def z1i:List Tm→List Tm
 | []=> []
 | t::l=>z0a t::z1i l
end
theorem zgl {k n:Int}{s:List UInt8}{l:List Tm}(h:okB (.mk k s n l)=true)(hk:k=6):∃ x a z,l=x::a++ [z]∧x.k≠6∧okB x=true∧okL a=true∧okB z=true:=by
 obtain ⟨x,y,r,rfl,h6,hl⟩:=okB6 h hk;refine ⟨x,(y::r).dropLast,(y::r).getLast (by simp),by rw [List.cons_append,List.dropLast_concat_getLast],h6,z5o hl List.mem_cons_self,zls fun u hu=>z5o hl (List.mem_cons_of_mem _ (List.dropLast_subset _ hu)),z5o hl (List.mem_cons_of_mem _ (List.getLast_mem _))⟩
theorem last_app (x:Tm)(a:List Tm)(z:Tm):lastT (x::a++ [z])=z:=by
 rw [lastT,List.getLastD_eq_getLast?,List.getLast?_append];rfl
theorem z9c (k n:Int)(s:List UInt8)(x:Tm)(a:List Tm)(z:Tm):zcr (.mk k s n (x::a++ [z]))=z09 x a:=by
 rw [zcr];show z09 x ((a++ [z]).dropLast)=_;rw [List.dropLast_concat]
theorem drop6 {b:Tm}(h:z3o b=true):b.k=6:=by
 simp only [z3o,Bool.and_eq_true,beq_iff_eq] at h;exact h.1.1.1
theorem drop0 {b:Tm}(h:z3o b=true):occF (zcr b) 0=0:=by
 simp only [z3o,Bool.and_eq_true,beq_iff_eq] at h;exact h.2
theorem ziu {b:Tm}(h:okB b=true)(hk:b.k=6):okB (zcr b)=true∧(lvB b=true→lvB (zcr b)=true)∧(zcr b).sz≤b.sz∧∀ M,bd M b→bd M (zcr b):=by
 obtain ⟨k,s,n,l⟩:=b;have hk':k=6:=hk;obtain ⟨x,a,z,rfl,h6,hx,ha,hz⟩:=zgl h hk';rw [z9c];refine ⟨z9s hx ha,fun hl=> ?_, ?_,fun M hb=> ?_⟩
 · rw [z3u (.inr hk')] at hl;exact z9n (z8o hl List.mem_cons_self) (zp0 fun u hu=>z8o hl (List.mem_cons_of_mem _ (List.mem_append_left _ hu)))
 · have:=z4b x a;simp only [Tm.sz,List.cons_append,Tm.szs,Tm.szs_append];omega
 · exact zag (za0 hb.2 List.mem_cons_self) (bds_of fun u hu=>za0 hb.2 (List.mem_cons_of_mem _ (List.mem_append_left _ hu)))
theorem zjg:∀ {l:List Tm} {i:Int},occL l i=0→∀ u∈l,occF u i=0
 | x::l,i,h,u,hu=>by
  simp only [occL] at h;rcases List.mem_cons.1 hu with rfl | hu
  · omega
  · exact zjg (l:=l) (by omega) u hu
theorem occ_kids {k n:Int}{s:List UInt8}{l:List Tm}{d:Int}(h:occF (.mk k s n l) d=0):∀ u∈l,occF u (d+if (k==5)=true then 1 else 0)=0:=by
 rw [occF] at h;split at h
 · cases h
 · exact zjg h
theorem zoj {t:Tm}(h:lvB t=true)(d:Int)(h0:occF t d=0)(hd:0≤d):lvB (shT 0 (-1) t d)=true:=by
 refine zj2 _ (fun u d=>occF u d=0∧0≤d) (fun k s n l d hQ u hu=>⟨occ_kids hQ.1 u hu,by have:=hQ.2;split<;>omega⟩) (fun u d hu hQ h5 h6=> ?_) t d h ⟨h0,hd⟩;unfold z4t;split
 · rename_i hc;obtain ⟨k,s,n,l⟩:=u;have hk:k=3:=by have hc:=hc.1;have hc:(k==3)=true:=hc;simpa using hc
   subst hk;rw [zh5 (by decide) (by decide),valid3] at hu
   have h1:n≠d:=fun e=>by
    have:=hQ.1;rw [occF,if_pos ⟨rfl,by simp [e]⟩] at this;cases this
   have h2:d+0≤n:=hc.2;have:=hQ.2;show lvB (.mk 3 s (n+ -1) l)=true;rw [zh5 (by decide) (by decide),valid3];exact ⟨by omega,by omega,hu.2.2.1,hu.2.2.2⟩
 · exact hu
theorem zny {M:Int}(hM:1≤M){t:Tm}(h:bd M t)(d:Int)(hd:0≤d):bd M (shT 0 (-1) t d):=by
 refine zju _ M M (d+t.sz) (fun u d' hu h0 _=> ?_) t d h hd (Int.le_refl _);unfold z4t;split
 · rename_i hc;obtain ⟨k,s,n,l⟩:=u;exact ⟨fun e=>by have:=hu.1 e;have h2:d'+0≤n:=hc.2;simp only [Tm.n];omega,hu.2⟩
 · exact hu
theorem dropF_ok {b:Tm}(h:okB b=true)(hd:z3o b=true):okB (z8j b)=true∧(lvB b=true→lvB (z8j b)=true)∧(z8j b).sz≤b.sz∧∀ M,1≤M→bd M b→bd M (z8j b):=by
 obtain ⟨h1,h2,h3,h4⟩:=ziu h (drop6 hd);rw [z8j,if_pos hd];exact ⟨shT_ok 0 h1,fun hl=>zoj (h2 hl) 0 (drop0 hd) (Int.le_refl _),Nat.le_trans (shT_sz ..) h3,fun M hM hb=>zny hM (h4 M hb) 0 (Int.le_refl _)⟩
mutual
theorem z5f:∀ t:Tm,okB t=true→okB (z0a t)=true∧(lvB t=true→lvB (z0a t)=true)∧(z0a t).sz≤t.sz∧∀ M,1≤M→bd M t→bd M (z0a t)
 | .mk k s n l,h=>by
  have hl:=zf6 l (okB_l h);rw [z0a];split
  · rename_i h5;have h5:k=5:=by simpa using h5
    obtain ⟨x,rfl,hx⟩:=okB5 h h5;obtain ⟨g1,g2,g3,g4⟩:=hl;simp only [z1i,okL,lvL,Bool.and_true,Tm.szs] at g1 g2 g3 g4;show okB (if z3o (z0a x)=true then z8j (z0a x) else .mk 5 [] 0 [z0a x])=true∧_
    rw [show hd (z1i [x])=z0a x from rfl];split
    · rename_i hd;obtain ⟨f1,f2,f3,f4⟩:=dropF_ok g1 hd;refine ⟨f1,fun hl=>f2 (g2 ?_),by simp only [Tm.sz,Tm.szs];omega,fun M hM hb=>f4 M hM (g4 M hM hb.2).1⟩;rw [z3u (.inl h5)] at hl;simpa [lvL] using hl
    · refine ⟨by simp [okB,okL,g1],fun hl=> ?_,by simp only [Tm.sz,Tm.szs];omega,fun M hM hb=>⟨fun e=>by omega,g4 M hM hb.2⟩⟩;rw [z3u (.inl h5)] at hl;rw [z3u (.inl rfl)];simp only [lvL,Bool.and_true] at hl ⊢;exact g2 hl
  · split
    · rename_i h6;have h6:k=6:=by simpa using h6
      obtain ⟨x,y,r,rfl,_,_⟩:=okB6 h h6;obtain ⟨g1,g2,g3,g4⟩:=hl;rw [show hd (z1i (x::y::r))=z0a x from rfl,show (z1i (x::y::r)).tail=z1i (y::r) from rfl];rw [show z1i (x::y::r)=z0a x::z1i (y::r) from rfl] at g1 g2 g3 g4;simp only [okL,Bool.and_eq_true] at g1;refine ⟨z9s g1.1 g1.2,fun hl=> ?_, ?_,fun M hM hb=> ?_⟩
      · rw [z3u (.inr h6)] at hl;have:=g2 hl;simp only [lvL,Bool.and_eq_true] at this;exact z9n this.1 this.2
      · have:=z4b (z0a x) (z1i (y::r));simp only [Tm.szs] at g3;simp only [Tm.sz,Tm.szs];omega
      · have:=g4 M hM hb.2;exact zag this.1 this.2
    · exact ⟨h,fun hl=>hl,Nat.le_refl _,fun M _ hb=>hb⟩
theorem zf6:∀ l:List Tm,okL l=true→okL (z1i l)=true∧(lvL l=true→lvL (z1i l)=true)∧Tm.szs (z1i l)≤Tm.szs l∧∀ M,1≤M→bds M l→bds M (z1i l)
 | [],_=>⟨rfl,fun _=>rfl,Nat.le_refl _,fun _ _ _=>trivial⟩
 | t::l,h=>by
  simp only [okL,Bool.and_eq_true] at h;obtain ⟨a1,a2,a3,a4⟩:=z5f t h.1;obtain ⟨b1,b2,b3,b4⟩:=zf6 l h.2;refine ⟨by simp only [z1i,okL,a1,b1,Bool.and_self],fun hl=> ?_,by simp only [z1i,Tm.szs];omega,fun M hM hb=>⟨a4 M hM hb.1,b4 M hM hb.2⟩⟩;simp only [lvL,Bool.and_eq_true] at hl;simp only [z1i,lvL,a2 hl.1,b2 hl.2,Bool.and_self]
end
theorem c_efree (t:Tm)(i:Int)(hs:t.sz≤B)(h0:0-2305843009213693952≤i)(h1:i+t.sz≤2305843009213693952):AC Tryz.prog 255 [aT t,ci i] [] (cb (z07 t&&decide (occF t i>0))) []:=by
 have h:=znh t hs i h0 h1;obtain ⟨k,s,n,l⟩:=t;refine AC.vc hP sh lv255 (Nat.le_refl _) (by simp) (by simp) (Eq.mpr (v255 k s n (FTs l) i _ _) ?_);refine ⟨_,h,z0i ?_⟩;cases z07 (.mk k s n l) with
 | false=>rfl
 | true=>simp
theorem lastI (x:Tm)(a:List Tm)(z:Tm)(hl:a.length≤SZ):IntKind.wrap .i64 ((((FTs (x::a++ [z])).length:Nat):Int)-1)=((x::a).length:Int):=by
 rw [z00];simp only [SZ] at hl;rw [w64 (by simp;omega) (by simp;omega)];simp
theorem zex:∀ (b a acc:List Tm),acc ≠ []→acc.length=a.length→(∀ u∈b,AC Tryz.prog 130 [aT u] [] (aT (z0a u)) [])→(a++b).length≤SZ→(hd (acc++z1i b)).l.length≤B→
  RPt Tryz.prog 130 0 (aT (z09 (hd (acc++z1i b)) (acc++z1i b).tail)) [] 3 ⟨[(2, .c (.a (.ep 0 4 0 0))),(6, .c (.a (.osl 1 4 0 acc.length))),(30,aL (a++b)),(31,ci (((FTs (a++b)).length:Nat):Int)),(32,ci a.length)],[(0, .arr 4 [zT]),(1, .arz 4 (FTs acc))],2⟩
 | [],a,acc,hne,hlen,_,hl,hh=>by
  simp only [z1i,List.append_nil] at hh hl ⊢;refine RPt.vc hP sh zhq (Eq.mpr (zmo ..) ?_)
  match acc,hne,hlen,hh with
  | x::r,_,hlen,hh=>
   simp only [SZ,B,List.length_cons] at hl hlen hh;have hh:x.l.length≤549755813888:=hh;have hap:=z3k x r (by omega)
   have e2:List.take (Int.toNat ((x::r).length:Int)-1) (List.drop 1 (FTs (x::r)))=FTs r:=by
    rw [zab,zj8,List.take_of_length_le (by rw [z00];simp)];rfl
   have e1:aE (List.getD (FTs (x::r)) 0 [])=aT x:=z7g x;rw [e2,e1];refine z01 (fun h=>absurd (of_decide_eq_true h) (by rw [z00];omega)) (fun _=>⟨⟨by omega,by simp⟩,⟨by rw [z00];simp, ?_,rfl⟩,⟨by omega,by simp;omega,Int.le_refl _⟩,⟨rfl,by rw [zab,z00];simp;omega⟩,_,hap.args ⟨.refl _,le_c leSl,trivial⟩,zfw (.refl _)⟩);rw [show List.getD (FTs (x::r)) 0 []=FT x from rfl,z7y,List.drop_zero,List.take_of_length_le (by rw [zga];exact Nat.le_refl _)]
 | t::b,a,acc,hne,hlen,ih,hl,hh=>by
  have hl':=hl;simp only [List.length_append,List.length_cons,SZ] at hl';have h1:=ih t List.mem_cons_self;have h2:=zex b (a++ [t]) (acc++ [z0a t]) (by simp) (by simp [hlen]) (fun u hu=>ih u (List.mem_cons_of_mem _ hu)) (by rw [ap];exact hl) (by rw [ap];exact hh);have h3:=ltI' a t b;rw [ap,ap,nx] at h2;rw [z1i];refine RPt.vc hP sh zhq (Eq.mpr (zmo ..) ?_);rw [zis,w64 (x:=(a.length:Int)+1) (by omega) (by omega)];refine z01 (fun _=>⟨⟨rfl,by omega,h3,zep ..⟩,z0a t,h1,Nat.le_refl _,⟨by rw [z00];omega,z4n (by omega)⟩, ?_⟩) (fun h=>absurd h3 (of_decide_eq_false h));have e5:List.take acc.length (FTs acc)++ [FT4 (z0a t)]=FTs (acc++ [z0a t]):=by rw [List.take_of_length_le (by rw [z00];omega),z48,z1x];rfl
  rw [e5];rw [List.length_append] at h2;exact h2
end Go.AM

set_option maxRecDepth 100000
open Go Go.Proofs
namespace Go.AM
abbrev M62:Int:=4611686018427387904
theorem znn (fr by_ d:Int)(u:Tm)(hb:u.k=3→0-M62≤u.n∧u.n≤M62)(hd0:0≤d)(hd1:d≤M61)(hf0:0≤fr)(hf1:fr≤M61)(hb0:0-1≤by_)(hb1:by_≤M61):
  AC Tryz.prog 302 [aT u,ci d, .c (.a (.ep 0 1 0 0)), .c (.a (.ep 1 1 0 0))] [obj1 fr,obj1 by_] (aT (z4t fr by_ u d)) [obj1 fr,obj1 by_]:=by
 obtain ⟨k,s,n,l⟩:=u;simp only [M62,M61,Tm.k,Tm.n] at*;refine AC.vc hP sh lv302 (Nat.le_refl _) (by simp [isLive]) (by simp) (Eq.mpr (v302 k s n (FTs l) d fr by_ _ _) ?_);rw [w64 (by omega) (by omega)];refine z01 (fun h=>z01 (fun h2=> ?_) (fun h2=> ?_)) (fun h=> ?_)
 · have hk:k=3:=by simpa using h
   have h3:d+fr≤n:=of_decide_eq_true h2;have:=hb hk;have e:z4t fr by_ (.mk k s n l) d= .mk k s (n+by_) l:=if_pos ⟨h,h3⟩;rw [e];exact ⟨_,c_moved (.mk k s n l) by_ (by simp only [Tm.n];omega) (by simp only [Tm.n];omega), .refl _,rfl⟩
 · have h3:¬d+fr≤n:=of_decide_eq_false h2;have e:z4t fr by_ (.mk k s n l) d= .mk k s n l:=if_neg fun e=>h3 e.2;rw [e];exact ⟨.refl _,rfl⟩
 · have e:z4t fr by_ (.mk k s n l) d= .mk k s n l:=if_neg fun e=>by have:=e.1;rw [show Tm.k (.mk k s n l)=k from rfl,h] at this;cases this
   rw [e];exact ⟨.refl _,rfl⟩
theorem c_shiftW (t:Tm)(fr by_:Int)(hs:t.sz≤B)(hb:bd M62 t)(hf0:0≤fr)(hf1:fr≤M61)(hb0:0-1≤by_)(hb1:by_≤M61):
  AC Tryz.prog 256 [aT t,ci fr,ci by_] [] (aT (shT fr by_ t 0)) []:=by
 have h:=c_wSh fr by_ (z4t fr by_) (fun u _=>bd M62 u∧u.sz≤B) (fun kd s n l d hq hk u hu=>⟨za0 hq.1.2 hu,by have:=Tm.szs_mem hu;have:=hq.2;simp only [Tm.sz] at this;omega⟩)
  (fun u d hk hq h0 h1=>znn fr by_ d u (by obtain ⟨k,s,n,l⟩:=u;exact hq.1.1) h0 h1 hf0 hf1 hb0 hb1)
  (fun u d hq=>by have:=shT_sz fr by_ u d;have h1:=(shT fr by_ u d).sz_eq;have:=Tm.szs_length (shT fr by_ u d).l;have:=hq.2;show (shT fr by_ u d).l.length≤_;omega)
  t hs 0 ⟨hb,hs⟩ (Int.le_refl _) (by simp only [B] at hs;omega)
 obtain ⟨k,s,n,l⟩:=t;refine AC.vc hP sh lv256 (Nat.le_refl _) (by simp) (by simp) (Eq.mpr (v256 k s n (FTs l) fr by_ _ _) ?_);exact ⟨_,h, .refl _,rfl⟩
theorem c_edropW (b:Tm)(ho:okB b=true)(hl:lvB b=true)(hs:b.sz≤SZ)(hb:bd M62 b):AC Tryz.prog 197 [aT b] [] (.tup [(true,cT (z8j b)),(false,[.a (.fz (.bool (z3o b)))])]) []:=by
 have no:z3o b=false→z8j b=noT:=fun h=>if_neg (by rw [h];simp);obtain ⟨k,s,n,l⟩:=b;have hlen:=Tm.szs_length l;simp only [Tm.sz,SZ] at hs;refine AC.vc hP sh lv197 (Nat.le_refl _) (by simp) (by simp) (Eq.mpr (v197 k s n (FTs l) _ _) ?_);refine ⟨rfl,z01 (fun h=> ?_) (fun h=> ?_)⟩
 · have hd:z3o (.mk k s n l)=false:=by
    have h:(k !=6)=true:=h;rw [z3o,show (Tm.k (.mk k s n l)==6)=false by show (k==6)=false;simpa using h];rfl
   rw [no hd,hd];exact ⟨leTB (l:=[]) z2h,rfl⟩
 · have h6:k=6:=by simpa using h
   subst h6;obtain ⟨x,a,z,rfl,hx6,hx,ha,hz⟩:=zgl ho rfl;obtain ⟨r1,r2,r3,r4⟩:=ziu ho rfl
   have hd:z3o (.mk 6 s n (x::a++ [z]))=(z.k==3&&z.n==0&&occF (z09 x a) 0==0):=by
    rw [z3o,z9c,show Tm.l (.mk 6 s n (x::a++ [z]))=x::a++ [z] from rfl,last_app];rfl
   have hdF:z3o (.mk 6 s n (x::a++ [z]))=true→z8j (.mk 6 s n (x::a++ [z]))=shT 0 (-1) (z09 x a) 0:=fun h=>by rw [z8j,if_pos h,z9c]
   rw [z9c] at r1 r2 r3 r4;have hal:a.length≤130000000:=by rw [List.length_append,List.length_cons] at hlen;omega
   rw [lastI x a z hal];have el:FV.L 4 (.sl false 4 (FTs (x::a++ [z])))=true∧((0:Int)≤((x::a).length:Int)∧(((x::a).length:Int)<(((FTs (x::a++ [z])).length:Nat):Int)∧(rE (List.getD (FTs (x::a++ [z])) (Int.toNat ((x::a).length:Int)) []):List FV)=List.getD (FTs (x::a++ [z])) (Int.toNat ((x::a).length:Int)) [])):=⟨rfl,by omega,ltI' (x::a) z [],zep (x::a) z []⟩;have ez:List.getD (FTs (x::a++ [z])) (Int.toNat ((x::a).length:Int)) []=FT z:=midI (x::a) z [];have ek:FV.I (List.getD (List.getD (FTs (x::a++ [z])) (Int.toNat ((x::a).length:Int)) []) 0 FV.N)=z.k:=by rw [ez];cases z;rfl
   have en:FV.I (List.getD (List.getD (FTs (x::a++ [z])) (Int.toNat ((x::a).length:Int)) []) 2 FV.N)=z.n:=by rw [ez];cases z;rfl
   rw [ek,en];refine ⟨el,z01 (fun h1=> ?_) (fun h1=>⟨el,z01 (fun h2=> ?_) (fun h2=>⟨el0 x (a++ [z]),rfl,⟨by omega,by simp only [List.length_cons];omega,by rw [lenI,List.length_append];omega⟩, ?_⟩)⟩)⟩
   · have hd':z3o (.mk 6 s n (x::a++ [z]))=false:=by
      have h1:(z.k !=3)=true:=h1;rw [hd,show (z.k==3)=false by simpa using h1];rfl
     rw [no hd',hd'];exact ⟨leTB (l:=[]) z2h,rfl⟩
   · have hd':z3o (.mk 6 s n (x::a++ [z]))=false:=by
      have h2:(z.n !=0)=true:=h2;rw [hd,show (z.n==0)=false by simpa using h2];simp
     rw [no hd',hd'];exact ⟨leTB (l:=[]) z2h,rfl⟩
   · have e1:aE (List.getD (FTs (x::a++ [z])) 0 [])=aT x:=z7g x
     have e2:List.drop 1 (List.take (Int.toNat ((x::a).length:Int)) (FTs (x::a++ [z])))=FTs a:=by
      rw [zab,FTs_take,zj8,List.take_left];rfl
     rw [e1,e2];have hxs:x.l.length≤x.sz:=by have:=x.sz_eq;have:=Tm.szs_length x.l;omega
     have hxz:x.sz≤130000000:=by simp only [List.cons_append,Tm.szs] at hs;omega
     have hap:=z3k x a (by omega);have hrz:(z09 x a).sz≤SZ:=by simp only [Tm.sz] at r3;simp only [SZ];omega
     have hfr:=c_efree (z09 x a) 0 (by simp only [SZ,B] at*;omega) (by omega) (by simp only [SZ] at hrz;omega);have hva:z07 (z09 x a)=true:=by rw [z7f,r1,r2 hl];rfl
     rw [hva,Bool.true_and] at hfr;have hsh:=c_shiftW (z09 x a) 0 (-1) (by simp only [SZ,B] at*;omega) (r4 _ hb) (Int.le_refl _) (by simp only [M61];omega) (by omega) (by simp only [M61];omega)
     have hz3:(z.k==3)=true:=by
      have h1:(z.k !=3)=false:=h1;simpa using h1
     have hz0:(z.n==0)=true:=by
      have h2:(z.n !=0)=false:=h2;simpa using h2
     refine ⟨_,hap,_,hfr,z01 (fun h3=> ?_) (fun h3=> ?_)⟩
     · have hd':z3o (.mk 6 s n (x::a++ [z]))=false:=by
        have h3:=of_decide_eq_true h3;rw [hd,show (occF (z09 x a) 0==0)=false by simp;omega,Bool.and_false]
       rw [no hd',hd'];exact ⟨leTB (l:=[]) z2h,rfl⟩
     · have hd':z3o (.mk 6 s n (x::a++ [z]))=true:=by
        have h3:=of_decide_eq_false h3;rw [hd,hz3,hz0,show (occF (z09 x a) 0==0)=true by simp;omega];rfl
       rw [hdF hd',hd'];exact ⟨_,hsh, .refl _,rfl⟩
theorem zem:∀ t:Tm,okB t=true→lvB t=true→t.sz≤SZ→bd M62 t→AC Tryz.prog 130 [aT t] [] (aT (z0a t)) []:=by
 refine Tm.ind fun t ih ho hl hs hb=> ?_;have hlen:=Tm.szs_length t.l;have hol:=okB_l ho;obtain ⟨k,s,n,l⟩:=t;simp only [Tm.sz,Tm.l,SZ] at hs hlen hol;refine AC.vc hP sh zhq (Nat.le_refl _) (by simp) (by simp) (Eq.mpr (v130 k s n (FTs l) _ _) ?_);refine z01 (fun h=> ?_) (fun h=>z01 (fun h'=>⟨rfl, ?_⟩) (fun h'=> ?_))
 · have h5:k=5:=by simpa using h
   subst h5;obtain ⟨x,rfl,hx⟩:=okB5 ho rfl;rw [z3u (.inl rfl)] at hl;have hlx:lvB x=true:=by simpa [lvL] using hl
   simp only [Tm.szs] at hs;obtain ⟨g1,g2,g3,g4⟩:=z5f x hx;have h1:=ih x (List.mem_singleton.2 rfl) hx hlx (by simp only [SZ];omega) hb.2.1;have h2:=c_edropW (z0a x) g1 (g2 hlx) (by simp only [SZ];omega) (g4 _ (by simp only [M62];omega) hb.2.1);have h3:=za3 1 (z0a x) (by omega);have e:z0a (.mk 5 s n [x])=if z3o (z0a x)=true then z8j (z0a x) else .mk 5 [] 0 [z0a x]:=by rw [z0a,if_pos (show ((5:Int)==5)=true from rfl)];rfl
   rw [show aE (List.getD (FTs [x]) 0 [])=aT x from z7g x,e];refine ⟨el0 x [],_,h1,(z8j (z0a x),z3o (z0a x)),h2,z01 (fun hd=> ?_) (fun hd=>⟨_,h3, ?_⟩)⟩
   · have hd:z3o (z0a x)=true:=hd;rw [if_pos hd];exact ⟨.refl _,rfl⟩
   · rw [if_neg (by rw [show z3o (z0a x)=false from hd];simp)];exact ⟨.refl _,rfl⟩
 · have h6:k=6:=by simpa using h'
   subst h6;obtain ⟨x,y,r,rfl,hx6,_⟩:=okB6 ho rfl;rw [z3u (.inr rfl)] at hl;have ihl:∀ u∈x::y::r,AC Tryz.prog 130 [aT u] [] (aT (z0a u)) []:=fun u hu=>ih u hu (z5o hol hu) (z8o hl hu) (by have:=Tm.szs_mem hu;simp only [SZ];omega) (za0 hb.2 hu);have hx:=(z5f x (z5o hol List.mem_cons_self)).2.2.1
   have hxl:(z0a x).l.length≤B:=by
    have h1:=(z0a x).sz_eq;have h2:=Tm.szs_length (z0a x).l;simp only [Tm.szs] at hs;simp only [B];omega
   have loop:=zex (y::r) [x] [z0a x] (by simp) rfl (fun u hu=>ihl u (List.mem_cons_of_mem _ hu)) (show (x::y::r).length≤SZ by simp only [SZ];omega) hxl;have h1:=ihl x List.mem_cons_self;have h3:=ltI' [] x (y::r);refine RPt.vc hP sh zhq (Eq.mpr (v130_3a ..) ?_);rw [show aE (List.getD (FTs (x::y::r)) (Int.toNat 0) [])=aT x from z7g x,w64 (by omega) (by omega)];refine z01 (fun _=>⟨⟨rfl,by omega,h3,z7y x⟩,z0a x,h1,Nat.le_refl _,z4n (by omega), ?_⟩) (fun h=>absurd h3 (of_decide_eq_false h));rw [z48];exact loop
 · have h:(k==5)=false:=h;have h':(k==6)=false:=h';rw [z0a,if_neg (by rw [h];simp),if_neg (by rw [h'];simp)];exact ⟨.refl _,rfl⟩
theorem zbw:∀ t:Tm,z07 t=true→bd M62 t:=by
 refine Tm.ind fun t ih=> ?_;intro hv;obtain ⟨k,s,n,l⟩:=t
 have kids:z24 l=true→bds M62 l:=fun h=>by
  have key:∀ (l':List Tm),(∀ u∈l',u∈l)→z24 l'=true→bds M62 l':=by
   intro l'
   induction l' with
   | nil=>intro _ _;trivial
   | cons u l' ih2=>
    intro hm h;rw [z24,Bool.and_eq_true] at h;exact ⟨ih u (hm u List.mem_cons_self) h.1,ih2 (fun w hw=>hm w (List.mem_cons_of_mem _ hw)) h.2⟩
  exact key l (fun u hu=>hu) h
 rw [z07] at hv;have nil:(((FTs l).length:Nat):Int)=0→l=[]:=fun h=>List.eq_nil_of_length_eq_zero (by rw [z00] at h;omega);show (k=3→0-M62≤n∧n≤M62)∧bds M62 l;split at hv
 · rename_i h;have h:k=0:=by simpa using h
   simp only [Bool.and_eq_true,beq_iff_eq] at hv;rw [nil hv.2];exact ⟨fun e=>by omega,trivial⟩
 · split at hv
   · rename_i h;have h:k=1:=by simpa using h
     simp only [Bool.and_eq_true] at hv;exact ⟨fun e=>by omega,kids hv.2⟩
   · split at hv
     · rename_i h;have h:k=2:=by simpa using h
       simp only [Bool.and_eq_true] at hv;exact ⟨fun e=>by omega,kids hv.2⟩
     · split at hv
       · simp only [Bool.and_eq_true,decide_eq_true_eq] at hv;exact ⟨fun _=>⟨by simp only [M62];omega,hv.1.1.1.2⟩,kids hv.2⟩
       · rename_i h3;split at hv
         · simp only [Bool.and_eq_true] at hv;exact ⟨fun e=>by rw [e] at h3;exact absurd rfl h3,kids hv.2⟩
         · split at hv
           · simp only [Bool.and_eq_true] at hv;exact ⟨fun e=>by rw [e] at h3;exact absurd rfl h3,kids hv.2⟩
           · split at hv
             · simp only [Bool.and_eq_true] at hv;exact ⟨fun e=>by rw [e] at h3;exact absurd rfl h3,kids hv.2⟩
             · cases hv
theorem zle (t:Tm)(hs:t.sz≤SZ):AC Tryz.prog 73 [aT t] [] (aT (if z07 t=true then z0a t else t)) []:=by
 have h1:=zal t (by simp only [SZ,B] at*;omega);have h2:=fun h=>zem t (z5y t h) (ze7 h) hs (zbw t h);obtain ⟨k,s,n,l⟩:=t;refine AC.vc hP sh lv73 (Nat.le_refl _) (by simp) (by simp) (Eq.mpr (v73 k s n (FTs l) _ _) ?_);refine ⟨_,h1,z01 (fun h=> ?_) (fun h=> ?_)⟩
 · rw [if_neg (by rw [not_t h];simp)];exact ⟨.refl _,rfl⟩
 · rw [if_pos (zk7 h)];exact ⟨_,h2 (zk7 h), .refl _,rfl⟩
end Go.AM

set_option maxRecDepth 100000
open Go Go.Proofs
namespace Go.AM
theorem zdl:∀ {xs ys:List (Bool×List FV)},All2 (fun p q=>p.1=q.1∧LeR p.2 q.2) xs ys→TV.Le (.tup (xs.map fun p=>(p.1,fzs p.2))) (.tup (ys.map fun p=>(p.1,fzs p.2))):=fun {xs ys} h=>by
 have key:∀ (xs ys:List (Bool×List FV)),All2 (fun p q=>p.1=q.1∧LeR p.2 q.2) xs ys→xs.length=ys.length∧∀ (i:Nat) (p q:Bool×List FV),xs[i]? =some p→ys[i]? =some q→p.1=q.1∧LeR p.2 q.2:=by
  intro xs
  induction xs with
  | nil=>intro ys h;cases ys with
   | nil=>exact ⟨rfl,fun i p q hp=>by simp at hp⟩
   | cons=>exact h.elim
  | cons x xs ih=>intro ys h;cases ys with
   | nil=>exact h.elim
   | cons y ys=>
    obtain ⟨h1,h2⟩:=ih ys h.2;refine ⟨by simp [h1],fun i p q hp hq=> ?_⟩;cases i with
    | zero=>simp at hp hq;subst hp;subst hq;exact h.1
    | succ i=>exact h2 i p q (by simpa using hp) (by simpa using hq)
 obtain ⟨h1,h2⟩:=key xs ys h;refine .tup _ _ (by simp [h1]) fun i p q hp hq=> ?_;rw [List.getElem?_map] at hp hq;obtain ⟨p',hp',rfl⟩:=Option.map_eq_some_iff.1 hp;obtain ⟨q',hq',rfl⟩:=Option.map_eq_some_iff.1 hq;obtain ⟨e1,e2⟩:=h2 i p' q' hp' hq';refine ⟨e1,by simp [fzs,e2.length],fun j x y hx hy=> ?_⟩;dsimp only at hx hy;rw [fzs,List.getElem?_map] at hx hy;obtain ⟨x',hx',rfl⟩:=Option.map_eq_some_iff.1 hx;obtain ⟨y',hy',rfl⟩:=Option.map_eq_some_iff.1 hy;exact .a _ _ (.fz _ _ (e2.get j x' y' hx' hy'))
def z2d (s:Hp)(a f:Int):((Int×List Int)×Int×Int)×Hp:=
 (if (z0q (2*f.toNat+2) ⟨s,f,0⟩ a).2.e≠0 then ((0,[]),0,(z0q (2*f.toNat+2) ⟨s,f,0⟩ a).2.e) else ((z0q (2*f.toNat+2) ⟨s,f,0⟩ a).1,(z0q (2*f.toNat+2) ⟨s,f,0⟩ a).2.f,0),(z0q (2*f.toNat+2) ⟨s,f,0⟩ a).2.s)
abbrev tHd (x:(Int×List Int)×Int×Int):TV:= .tup [(true,[.a (.fz (.int .i64 x.1.1)), .a (.fz (.sl false 1 (IR x.1.2)))]),(false,[.a (.fz (.int .i64 x.2.1))]),(false,[.a (.fz (.int .i64 x.2.2))])]
theorem c_pHead (s:Hp)(a f:Int)(h:OkH s)(f0:0-4611686018427387904≤f)(f1:f≤100000000):AC Tryz.prog 243 [aH 0,ci a,ci f] (oH s) (tHd (z2d s a f).1) (oH' (z2d s a f).2):=by
 have ok:OkR ⟨s,f,0⟩:=⟨h,f0,by dsimp only;omega⟩;have hh:=zla (2*f.toNat+2) ⟨s,f,0⟩ a ok (Nat.le_refl _) (by dsimp only;omega);unfold z2d;generalize z0q (2*f.toNat+2) ⟨s,f,0⟩ a=z at*;obtain ⟨⟨hd,xs⟩,⟨zs,zf,ze⟩⟩:=z;refine AC.vc hP sh lv243 (by simp) (by simp [isLive]) (by simp [isLive]) (Eq.mpr (v243 ..) ?_);refine ⟨(hd,xs,⟨zs,zf,ze⟩),hh,z0m (fun q=> ?_) (fun q=> ?_)⟩
 · dsimp only at q ⊢;rw [if_pos q];exact ⟨zdl (xs:=[(true,[.int .i64 0, .N]),(false,[.int .i64 0]),(false,[.int .i64 ze])]) (ys:=[(true,[.int .i64 0, .sl false 1 (IR [])]),(false,[.int .i64 0]),(false,[.int .i64 ze])]) ⟨⟨rfl, .refl _, .N 1,trivial⟩,⟨rfl, .refl _⟩,⟨rfl, .refl _⟩,trivial⟩,rfl⟩
 · dsimp only at q ⊢;rw [if_neg (fun w=>w q)];exact ⟨.refl _,rfl⟩
def z3f (s:Hp)(a f:Int):(Tm×Int×Int)×Hp:=
 (if (fulR (2*f.toNat+2) (f.toNat+1) ⟨s,f,0⟩ a).2.e≠0 then (t0,0,(fulR (2*f.toNat+2) (f.toNat+1) ⟨s,f,0⟩ a).2.e)
  else (if z07 (fulR (2*f.toNat+2) (f.toNat+1) ⟨s,f,0⟩ a).1=true then z0a (fulR (2*f.toNat+2) (f.toNat+1) ⟨s,f,0⟩ a).1 else (fulR (2*f.toNat+2) (f.toNat+1) ⟨s,f,0⟩ a).1,(fulR (2*f.toNat+2) (f.toNat+1) ⟨s,f,0⟩ a).2.f,0),(fulR (2*f.toNat+2) (f.toNat+1) ⟨s,f,0⟩ a).2.s)
abbrev tFu (x:Tm×Int×Int):TV:= .tup [(true,cT x.1),(false,[.a (.fz (.int .i64 x.2.1))]),(false,[.a (.fz (.int .i64 x.2.2))])]
theorem zmi (s:Hp)(a f:Int)(h:OkH s)(f0:0-4611686018427387904≤f)(f1:f≤40000000):AC Tryz.prog 21 [aH 0,ci a,ci f] (oH s) (tFu (z3f s a f).1) (oH' (z3f s a f).2):=by
 have ok:OkR ⟨s,f,0⟩:=⟨h,f0,by dsimp only;omega⟩;have hh:=zot (2*f.toNat+2) (f.toNat+1) f (Nat.le_refl _) (by omega) (by omega) ⟨s,f,0⟩ a ok (Int.le_refl _);have hg:=zd7 (2*f.toNat+2) (f.toNat+1) f (Nat.le_refl _) (by omega) ⟨s,f,0⟩ a ok (Int.le_refl _);unfold z3f;generalize fulR (2*f.toNat+2) (f.toNat+1) ⟨s,f,0⟩ a=z at*;obtain ⟨t,⟨zs,zf,ze⟩⟩:=z;have hs:=zle t (by have:=hg.2.2;simp only [SZ];dsimp only at this;omega);refine AC.vc hP sh lv21 (by simp) (by simp [isLive]) (by simp [isLive]) (Eq.mpr (v21 ..) ?_);refine ⟨(t,⟨zs,zf,ze⟩),hh,z0m (fun q=> ?_) (fun q=> ?_)⟩
 · dsimp only at q ⊢;rw [if_pos q];exact ⟨zdl (xs:=[(true,[.int .i64 0, .str [], .int .i64 0, .N]),(false,[.int .i64 0]),(false,[.int .i64 ze])]) (ys:=[(true,[.int .i64 0, .str [], .int .i64 0, .sl false 4 (FTs [])]),(false,[.int .i64 0]),(false,[.int .i64 ze])]) ⟨⟨rfl, .refl _, .refl _, .refl _, .N 4,trivial⟩,⟨rfl, .refl _⟩,⟨rfl, .refl _⟩,trivial⟩,rfl⟩
 · dsimp only at q ⊢;rw [if_neg (fun w=>w q)];exact ⟨_,hs, .refl _,rfl⟩
def z27 (s:Hp)(a u:Int):(Int×Int)×Hp:=
 if inC s.C a=false∨9≤(z06 s.C a).t∨u<0 then ((0,1),s)
 else (if (z3y ⟨s,0,0⟩ a u).2.e≠0 then (0,(z3y ⟨s,0,0⟩ a u).2.e) else ((z3y ⟨s,0,0⟩ a u).1,0),(z3y ⟨s,0,0⟩ a u).2.s)
theorem c_pLift (s:Hp)(a u:Int)(h:OkH s):AC Tryz.prog 293 [aH 0,ci a,ci u] (oH s) (t2 (z27 s a u).1) (oH' (z27 s a u).2):=by
 have ok:OkR ⟨s,0,0⟩:=⟨h,by dsimp only;omega,by dsimp only;omega⟩;have c1:=z40 s a;have hb:=zpa ⟨s,0,0⟩ a u ok
 have e0:z27 s a u=if inC s.C a=false∨9≤(z06 s.C a).t∨u<0 then ((0,1),s)
  else (if (z3y ⟨s,0,0⟩ a u).2.e≠0 then (0,(z3y ⟨s,0,0⟩ a u).2.e) else ((z3y ⟨s,0,0⟩ a u).1,0),(z3y ⟨s,0,0⟩ a u).2.s):=rfl
 generalize z3y ⟨s,0,0⟩ a u=z at*;obtain ⟨zr,⟨zs,zf,ze⟩⟩:=z;dsimp only at e0 hb;refine AC.vc hP sh lv293 (by simp) (by simp [isLive]) (by simp [isLive]) (Eq.mpr (v293 ..) ?_);refine ⟨_,_,_,_,_,_,c1,z01 (fun q=> ?_) (fun q=>z01 (fun q2=> ?_) (fun q2=>z01 (fun q3=> ?_) (fun q3=>⟨(zr,⟨zs,zf,ze⟩),hb,z0m (fun q5=> ?_) (fun q5=> ?_)⟩)))⟩
 · rw [if_pos (.inl (by simpa using q))] at e0;rw [e0];exact ⟨.refl _,rfl⟩
 · rw [if_pos (.inr (.inl (of_decide_eq_true q2)))] at e0;rw [e0];exact ⟨.refl _,rfl⟩
 · rw [if_pos (.inr (.inr (of_decide_eq_true q3)))] at e0;rw [e0];exact ⟨.refl _,rfl⟩
 all_goals
  have no:¬(inC s.C a=false∨9≤(z06 s.C a).t∨u<0):=by
   rintro (w | w | w)
   · rw [w] at q;exact absurd q (by decide)
   · exact absurd w (of_decide_eq_false q2)
   · exact absurd w (of_decide_eq_false q3)
  rw [if_neg no] at e0
 · rw [if_pos q5] at e0;rw [e0];exact ⟨.refl _,rfl⟩
 · rw [if_neg (fun w=>w q5)] at e0;rw [e0];exact ⟨.refl _,rfl⟩
theorem headS_ok (s:Hp)(a f:Int)(h:OkH s)(f0:0≤f)(f1:f≤100000000):OkH (z2d s a f).2∧((z2d s a f).1.2.2=0∨(z2d s a f).1.2.1=0)∧(z2d s a f).1.2.1≤f:=by
 have ok:OkR ⟨s,f,0⟩:=⟨h,by dsimp only;omega,by dsimp only;omega⟩;have o:=OkR.head (2*f.toNat+2) a ok;have g:=zji (2*f.toNat+2) ⟨s,f,0⟩ a (Nat.le_refl _);unfold z2d;split
 · exact ⟨o.h, .inr rfl,f0⟩
 · exact ⟨o.h, .inl rfl,g.1⟩
end Go.AM

set_option maxRecDepth 100000
open Go Go.Proofs
namespace Go.AM
inductive Mv (b:Bool):Hp→Hp→Prop
 | refl (s:Hp):Mv b s s
 | put {s t:Hp} (c:Cel):Mv b s t→Mv b s (putS t c).2
 | set {s t:Hp} (a:Int) (c:Cel):Mv b s t→Mv b s (setS t a c).2
 | names {s t:Hp} (e:List (List UInt8)):b=true→Mv b s t→Mv b s { t with N:=t.N++e }
theorem Mv.trans {b:Bool}{s t u:Hp}(h:Mv b s t)(g:Mv b t u):Mv b s u:=by
 induction g with
 | refl=>exact h
 | put c _ ih=>exact ih.put c
 | set a c _ ih=>exact ih.set a c
 | names e hb _ ih=>exact ih.names e hb
theorem Mv.up {b:Bool}{s t:Hp}(h:Mv false s t):Mv b s t:=by
 induction h with
 | refl=>exact .refl _
 | put c _ ih=>exact ih.put c
 | set a c _ ih=>exact ih.set a c
 | names e hb _ ih=>cases hb
theorem Mv.ok {b:Bool}{s t:Hp}(h:Mv b s t)(g:OkH s):OkH t:=by
 induction h with
 | refl=>exact g
 | put c _ ih=>exact ih.put c
 | set a c _ ih=>exact ih.set a c
 | names e _ _ ih=>exact ⟨ih.C,ih.M,ih.T,ih.L⟩
theorem zi7 (s:Hp)(c:Cel):(putS s c).2.N=s.N∧(putS s c).2.M=s.M∧(putS s c).2.L=s.L∧s.C.length≤(putS s c).2.C.length∧(putS s c).2.T=s.T:=by
 unfold putS;split
 · exact ⟨rfl,rfl,rfl,Nat.le_refl _,rfl⟩
 · split
   · exact ⟨rfl,rfl,rfl,Nat.le_refl _,rfl⟩
   · exact ⟨rfl,rfl,rfl,by simp,rfl⟩
theorem zoc (s:Hp)(a:Int)(c:Cel):(setS s a c).2.N=s.N∧(setS s a c).2.M=s.M∧(setS s a c).2.L=s.L∧s.C.length≤(setS s a c).2.C.length:=by
 unfold setS;split
 · exact ⟨rfl,rfl,rfl,Nat.le_refl _⟩
 · split
   · exact ⟨rfl,rfl,rfl,Nat.le_refl _⟩
   · split
     · exact ⟨rfl,rfl,rfl,Nat.le_refl _⟩
     · split
       · exact ⟨rfl,rfl,rfl,Nat.le_refl _⟩
       · exact ⟨rfl,rfl,rfl,by simp⟩
theorem Mv.len {b:Bool}{s t:Hp}(h:Mv b s t):s.C.length≤t.C.length∧t.M=s.M∧t.L=s.L:=by
 induction h with
 | refl=>exact ⟨Nat.le_refl _,rfl,rfl⟩
 | put c _ ih=>have:=zi7 ‹Hp› c;exact ⟨Nat.le_trans ih.1 this.2.2.2.1,by rw [this.2.1];exact ih.2.1,by rw [this.2.2.1];exact ih.2.2⟩
 | set a c _ ih=>have:=zoc ‹Hp› a c;exact ⟨Nat.le_trans ih.1 this.2.2.2,by rw [this.2.1];exact ih.2.1,by rw [this.2.2.1];exact ih.2.2⟩
 | names e _ _ ih=>exact ih
theorem Mv.N {s t:Hp}(h:Mv false s t):t.N=s.N:=by
 induction h with
 | refl=>rfl
 | put c _ ih=>rw [(zi7 _ c).1];exact ih
 | set a c _ ih=>rw [(zoc _ a c).1];exact ih
 | names e hb _ ih=>cases hb
def Mvr (s0:Hp)(r:Rd):Prop:=Mv false s0 r.s∧0≤r.f
variable {s0:Hp}
theorem Mvr.fail {r:Rd}(h:Mvr s0 r)(e:Int):Mvr s0 (z0y r e):=h
theorem Mvr.put {r:Rd}(h:Mvr s0 r)(c:Cel):Mvr s0 (putR r c).2:=by
 unfold putR;split
 · exact ⟨Mv.put c h.1,h.2⟩
 · exact h
theorem Mvr.keep {r:Rd}(h:Mvr s0 r)(a b:Int):Mvr s0 (z1f r a b):=by
 unfold z1f;split
 · exact ⟨Mv.set a _ h.1,h.2⟩
 · exact h
theorem Mvr.less {r:Rd}(h:Mvr s0 r)(h0:¬r.f≤0):Mvr s0 ⟨r.s,r.f-1,r.e⟩:=⟨h.1,by dsimp only;omega⟩
theorem Mvr.visit {r:Rd}(h:Mvr s0 r)(a:Int):Mvr s0 (z02 r a).2:=by
 unfold z02;split
 · exact h.fail 1
 · split
   · exact h.fail 1
   · split
     · exact h.fail 1
     · split
       · exact h.fail 80
       · split
         · exact h
         · rename_i q _;exact h.less q
theorem Mvr.lift {r:Rd}(h:Mvr s0 r)(a u:Int):Mvr s0 (z3y r a u).2:=by
 unfold z3y;split
 · exact h
 · exact (h.put _).put _
theorem Mvr.entry:∀ (n:Nat) {r:Rd} (row j:Int),Mvr s0 r→Mvr s0 (z0s n r row j).2
 | 0,_,_,_,h=>h
 | n+1,r,row,j,h=>by
  rw [z0s];split
  · exact h.fail 1
  · split
    · exact h.fail 1
    · split
      · exact h
      · split
        · exact h
        · split
          · exact h.fail 80
          · rename_i q;exact Mvr.entry n _ _ (h.less q)
theorem Mvr.loose (n:Nat){r:Rd}(h:Mvr s0 r)(s:Cel)(j:Int):Mvr s0 (losR n r s j).2:=by
 have e:=Mvr.entry n s.b j h;unfold losR;split
 · split
   · split
     · exact e.put _
     · exact e.lift _ _
   · exact e.put _
 · exact h.put _
theorem Mvr.lam {r:Rd}(h:Mvr s0 r)(s:Cel)(b:Int):Mvr s0 (lamR r s b).2:=((h.put _).put _).put _
theorem Mvr.app {r:Rd}(h:Mvr s0 r)(s:Cel)(f x:Int):Mvr s0 (appR r s f x).2:=((h.put _).put _).put _
theorem Mvr.level (n:Nat){r:Rd}(h:Mvr s0 r)(c:Cel)(t:Int)(s:Cel):Mvr s0 (z5v n c t r s).2:=by
 unfold z5v;split
 · exact h.loose n s _
 · split
   · exact h.lam s _
   · split
     · exact h.app s _ _
     · exact h
theorem Mvr.spun (n:Nat){v:(Cel×Int)×Rd}(h:Mvr s0 v.2)(s:Cel):Mvr s0 (z66 n v s).2:=by
 unfold z66;split
 · exact h
 · split
   · exact h
   · exact h.level n _ _ s
mutual
theorem Mvr.open:∀ (n:Nat) {r:Rd} (s:Cel),Mvr s0 r→Mvr s0 (z05 n r s).2
 | 0,_,_,h=>h
 | n+1,r,s,h=>by
  rw [z05];exact Mvr.spun (n+1) (Mvr.spin n (h.visit s.a)) s
theorem Mvr.spin:∀ (n:Nat) {v:(Cel×Int)×Rd},Mvr s0 v.2→Mvr s0 (z43 n v).2
 | 0,_,h=>h
 | n+1,v,h=>by
  rw [z43];split
  · exact Mvr.spin n (((Mvr.open n v.1.1 h).keep _ _).visit _)
  · exact h
end
theorem Mvr.beta {r:Rd}(h:Mvr s0 r)(b arg:Int):Mvr s0 (z56 r b arg).2:=((h.put _).put _).put _
theorem Mvr.apps:∀ (l:List Int) (f:Int) {r:Rd},Mvr s0 r→Mvr s0 (z50 l f r).2
 | [],_,_,h=>h
 | x::l,f,r,h=>by rw [z50];exact Mvr.apps l _ (h.put _)
theorem Mvr.headL:∀ (n:Nat) (l:List Int) (b:Bool) (a:Int) {r:Rd},Mvr s0 r→Mvr s0 (Go.AM.headL n l b a r).r
 | 0,_,_,_,_,h=>h
 | n+1,l,b,a,r,h=>by
  have v:=h.visit a;rw [Go.AM.headL];split
  · exact h
  · split
    · exact v
    · split
      · exact Mvr.headL n _ _ _ v
      · split
        · exact Mvr.headL n _ _ _ ((Mvr.open _ _ v).keep _ _)
        · split
          · split
            · exact v
            · exact Mvr.headL n _ _ _ (v.beta _ _)
          · exact v
theorem Mvr.head (n:Nat){r:Rd}(root:Int)(h:Mvr s0 r):Mvr s0 (z0q n r root).2:=by
 have h1:=Mvr.headL n [] false root h;show Mvr s0 (if _ then _ else _)
 split
 · exact (Mvr.apps _ _ h1).keep _ _
 · exact h1
theorem Mvr.leaf {F:Rd→Int→Tm×Rd}(hF:∀ (r:Rd) (a:Int),Mvr s0 r→Mvr s0 (F r a).2):∀ (l:List Int) (t:Tm) (r:Rd),Mvr s0 r→Mvr s0 (z2m F l t r).2
 | [],_,_,h=>h
 | x::l,t,r,h=>Mvr.leaf hF l _ _ (hF r x h)
theorem Mvr.full (N:Nat):∀ (n:Nat) (r:Rd) (a:Int),Mvr s0 r→Mvr s0 (fulR N n r a).2
 | 0,_,_,h=>h
 | n+1,r,a,h=>by
  have oh:=Mvr.head N a h;rw [fulR];unfold fullG;split
  · exact oh
  · split
    · exact Mvr.full N n _ _ oh
    · exact Mvr.leaf (Mvr.full N n) _ _ _ oh
theorem headS_mv (s:Hp)(a f:Int)(f0:0≤f):Mv false s (z2d s a f).2:=(Mvr.head (s0:=s) (2*f.toNat+2) (r:=⟨s,f,0⟩) a ⟨.refl s,f0⟩).1
theorem zi9 (s:Hp)(a f:Int)(f0:0≤f):Mv false s (z3f s a f).2∧0≤(z3f s a f).1.2.1:=by
 have h:=Mvr.full (s0:=s) (2*f.toNat+2) (f.toNat+1) ⟨s,f,0⟩ a ⟨.refl s,f0⟩;refine ⟨h.1, ?_⟩;unfold z3f;split
 · exact Int.le_refl _
 · exact h.2
theorem zic (s:Hp)(a u:Int):Mv false s (z27 s a u).2:=by
 unfold z27;split
 · exact .refl s
 · exact (Mvr.lift (s0:=s) (r:=⟨s,0,0⟩) ⟨.refl s,Int.le_refl _⟩ a u).1
end Go.AM

set_option maxRecDepth 100000
open Go Go.Proofs
namespace Go.AM
def varE (V:Option (List Int))(C:List Cel)(n:Int):Int×Int:=
 match V with
 | none=>if isT C n=true then (n,0) else (0,1)
 | some l=>if (l.length:Int)≤n then (0,1) else if isT C (l.getD n.toNat 0)=true then (l.getD n.toNat 0,0) else (0,1)
mutual
def encE (V:Option (List Int)):Tm→Hp→(Int×Int)×Hp
 | .mk k s n l,h=>
  if k=0 then putS (symS h s).2 ⟨0,(symS h s).1,0,0,0⟩
  else if k=1 then putS h ⟨1,n,0,0,0⟩
  else if k=2 then putS h ⟨2,n,0,0,0⟩
  else if k=3 then putS h ⟨3,n,0,0,0⟩
  else if k=4 then (varE V h.C n,h)
  else encL V k l h
def encL (V:Option (List Int))(k:Int):List Tm→Hp→(Int×Int)×Hp
 | [],h=>((0,0),h)
 | u::l,h=>
  if (encE V u h).1.2≠0 then ((0,(encE V u h).1.2),(encE V u h).2)
  else if k=5 then putS (encE V u h).2 ⟨6,(encE V u h).1.1,0,0,0⟩
  else encR V l (encE V u h).1.1 (encE V u h).2
def encR (V:Option (List Int)):List Tm→Int→Hp→(Int×Int)×Hp
 | [],f,h=>((f,0),h)
 | u::l,f,h=>
  if (encE V u h).1.2≠0 then ((0,(encE V u h).1.2),(encE V u h).2)
  else if (putS (encE V u h).2 ⟨7,f,(encE V u h).1.1,0,0⟩).1.2≠0 then ((0,(putS (encE V u h).2 ⟨7,f,(encE V u h).1.1,0,0⟩).1.2),(putS (encE V u h).2 ⟨7,f,(encE V u h).1.1,0,0⟩).2)
  else encR V l (putS (encE V u h).2 ⟨7,f,(encE V u h).1.1,0,0⟩).1.1 (putS (encE V u h).2 ⟨7,f,(encE V u h).1.1,0,0⟩).2
end
def encS (V:Option (List Int))(s:Hp)(t:Tm):(Int×Int)×Hp:=
 if z07 t=false then ((0,1),s)
 else if (encE V t s).1.2≠0 then ((0,(encE V t s).1.2),⟨(encE V t s).2.C.take s.C.length,(encE V t s).2.T,(encE V t s).2.M,(encE V t s).2.L,(encE V t s).2.N⟩)
 else encE V t s
def Gw (s:Hp)(z:(Int×Int)×Hp):Prop:=(OkH s→OkH z.2)∧∃ d e,z.2=⟨s.C++d,s.T,s.M,s.L,s.N++e⟩∧e.length≤d.length+if z.1.2=0 then 0 else 1
theorem Gw.nil (s:Hp)(x:Int×Int):Gw s (x,s):=⟨fun h=>h,[],[],by simp,by simp⟩
theorem Gw.put (s:Hp)(c:Cel):Gw s (putS s c):=by
 refine ⟨fun h=>h.put c, ?_⟩;unfold putS;split
 · exact ⟨[],[],by simp,by simp⟩
 · split
   · exact ⟨[],[],by simp,by simp⟩
   · exact ⟨[c],[],by simp,by simp⟩
theorem Gw.seq {s:Hp}{z y:(Int×Int)×Hp}(h:Gw s z)(h0:z.1.2=0)(g:Gw z.2 y):Gw s y:=by
 obtain ⟨a,d,e,h1,h2⟩:=h;obtain ⟨b,d',e',g1,g2⟩:=g;rw [if_pos h0] at h2;refine ⟨fun o=>b (a o),d++d',e++e', ?_,by simp only [List.length_append];omega⟩;rw [g1,h1];simp
theorem Gw.err {s:Hp}{z:(Int×Int)×Hp}(h:Gw s z)(h0:z.1.2≠0):Gw s ((0,z.1.2),z.2):=by
 obtain ⟨a,d,e,h1,h2⟩:=h;exact ⟨a,d,e,h1,h2⟩
theorem putS_out (s:Hp)(c:Cel):(putS s c).1.2=0∧(putS s c).2.C=s.C++ [c]∨(putS s c).1.2≠0∧(putS s c).2=s:=by
 unfold putS;split
 · exact .inr ⟨by show (1:Int)≠0;decide,rfl⟩
 · split
   · exact .inr ⟨by show (200:Int)≠0;decide,rfl⟩
   · exact .inl ⟨rfl,rfl⟩
theorem Gw.con (s:Hp)(nm:List UInt8):Gw s (putS (symS s nm).2 ⟨0,(symS s nm).1,0,0,0⟩):=by
 have hs:∃ e,(symS s nm).2=⟨s.C,s.T,s.M,s.L,s.N++e⟩∧e.length≤1:=by
  unfold symS;split
  · exact ⟨[],by simp,by simp⟩
  · exact ⟨[nm],rfl,by simp⟩
 obtain ⟨e,h1,h2⟩:=hs;rcases putS_out (symS s nm).2 ⟨0,(symS s nm).1,0,0,0⟩ with ⟨g1,g2⟩ | ⟨g1,g2⟩
 · obtain ⟨g3,g4,g5,_,g6⟩:=zi7 (symS s nm).2 ⟨0,(symS s nm).1,0,0,0⟩;refine ⟨fun o=>OkH.put (by rw [h1];exact ⟨o.C,o.M,o.T,o.L⟩) _,[⟨0,(symS s nm).1,0,0,0⟩],e, ?_,by rw [if_pos g1];simpa using h2⟩;generalize (putS (symS s nm).2 ⟨0,(symS s nm).1,0,0,0⟩)=z at*;generalize (symS s nm).1=x at*;rw [h1] at g2 g3 g4 g5 g6;obtain ⟨zx,⟨zC,zT,zM,zL,zN⟩⟩:=z;dsimp only at*;rw [g2,g3,g4,g5,g6]
 · refine ⟨fun o=>OkH.put (by rw [h1];exact ⟨o.C,o.M,o.T,o.L⟩) _,[],e,by rw [g2,h1];simp,by rw [if_neg g1];simpa using h2⟩
theorem zms (V:Option (List Int)):∀ (l:List Tm),(∀ u∈l,∀ s,Gw s (encE V u s))→∀ (f:Int) (s:Hp),Gw s (encR V l f s)
 | [],_,f,s=>by rw [encR];exact Gw.nil s _
 | u::l,h,f,s=>by
  have h1:=h u List.mem_cons_self s;rw [encR];split
  · rename_i q;exact h1.err q
  · rename_i q;have q:(encE V u s).1.2=0:=by simpa using q
    have h2:=Gw.put (encE V u s).2 ⟨7,f,(encE V u s).1.1,0,0⟩;split
    · rename_i q2;exact h1.seq q (h2.err q2)
    · rename_i q2;exact h1.seq q (h2.seq (by simpa using q2) (zms V l (fun v hv=>h v (List.mem_cons_of_mem _ hv)) _ _))
theorem z5k (V:Option (List Int)):∀ (t:Tm) (s:Hp),Gw s (encE V t s):=by
 refine Tm.ind fun t ih=> ?_;obtain ⟨k,nm,n,l⟩:=t;intro s;rw [encE];split
 · exact Gw.con s nm
 · split
   · exact Gw.put s _
   · split
     · exact Gw.put s _
     · split
       · exact Gw.put s _
       · split
         · exact Gw.nil s _
         · match l with
           | []=>rw [encL];exact Gw.nil s _
           | u::l=>
            have h1:=ih u List.mem_cons_self s;rw [encL];split
            · rename_i q;exact h1.err q
            · rename_i q;have q:(encE V u s).1.2=0:=by simpa using q
              split
              · exact h1.seq q (Gw.put _ _)
              · exact h1.seq q (zms V l (fun v hv=>ih v (List.mem_cons_of_mem _ hv)) _ _)
def NmB (K:Nat)(s:Hp):Prop:=s.N.length≤s.C.length+K
theorem zpi (V:Option (List Int))(s:Hp)(t:Tm)(h:(encS V s t).1.2≠0):∃ e,(encS V s t).2={ s with N:=s.N++e }:=by
 unfold encS at h ⊢;split
 · exact ⟨[],by simp⟩
 · rename_i q;rw [if_neg q] at h;obtain ⟨_,d,e,h1,_⟩:=z5k V t s;split
   · exact ⟨e,by rw [h1];simp⟩
   · rename_i q2;rw [if_neg q2] at h;exact absurd h q2
end Go.AM

set_option maxRecDepth 100000
open Go Go.Proofs
namespace Go.AM
theorem zg4:∀ {l:List Tm} {u:Tm},z24 l=true→u∈l→z07 u=true
 | x::l,u,h,hu=>by
  rw [z24,Bool.and_eq_true] at h;rcases List.mem_cons.1 hu with rfl | hu
  · exact h.1
  · exact zg4 h.2 hu
theorem vL_of {k n:Int}{s:List UInt8}{l:List Tm}(h:z07 (.mk k s n l)=true)(hk:k=5∨k=6):z24 l=true:=by
 rw [z07] at h;rcases hk with rfl | rfl<;>simp at h<;>simp [h]
theorem Gw.nm {s:Hp}{z:(Int×Int)×Hp}{K:Nat}(h:Gw s z)(h0:z.1.2=0)(g:NmB K s):NmB K z.2:=by
 obtain ⟨_,d,e,h1,h2⟩:=h;rw [if_pos h0] at h2;unfold NmB at*;rw [h1];simp only [List.length_append];omega
theorem NmB.put {K:Nat}{s:Hp}(g:NmB K s)(c:Cel):NmB K (putS s c).2:=by
 obtain ⟨h1,_,_,h2,_⟩:=zi7 s c;unfold NmB at*;rw [h1];omega
theorem NmB.set {K:Nat}{s:Hp}(g:NmB K s)(a:Int)(c:Cel):NmB K (setS s a c).2:=by
 obtain ⟨h1,_,_,h2⟩:=zoc s a c;unfold NmB at*;rw [h1];omega
theorem k56 {k n:Int}{s:List UInt8}{l:List Tm}(h:z07 (.mk k s n l)=true)(n0:k≠0)(n1:k≠1)(n2:k≠2)(n3:k≠3)(n4:k≠4):k=5∨k=6:=by
 rw [z07] at h;by_cases h5:k=5
 · exact .inl h5
 · by_cases h6:k=6
   · exact .inr h6
   · simp [n0,n1,n2,n3,n4,h5,h6] at h
abbrev oHv (vs:List Int)(s:Hp):List AObj:=[hp6 1 2 3 4 s, .arz 5 (CR s.C), .arz 7 (TR s.T), .arz 1 (NR s.N), .mapz (NM s.N 0), .arz 1 (IR vs)]
abbrev oHv' (vs:List Int)(s:Hp):List AObj:=[hp6 6 7 8 4 s, .gone, .gone, .gone, .mapz (NM s.N 0), .arz 1 (IR vs), .arz 5 (CR s.C), .arz 7 (TR s.T), .arz 1 (NR s.N)]
theorem c_hvarA  (s:Hp) (n:Int) (h0:0≤n):AC Tryz.prog 171 [aH 0,ci n, .c (.a (.fz .N))] (oH s) (t2 (varE none s.C n)) (oH s):=by
 refine AC.vc hP sh lv171 (Nat.le_refl _) (by simp [isLive]) (by simp) (Eq.mpr (v171_i1 ..) ?_)
 first
 | (have hi:=z90 s n
    exact ⟨_,hi,z01 (fun h=>⟨by rw [varE,if_neg (by simpa using h)];exact .refl _,rfl⟩) (fun h=>⟨by rw [varE,if_pos (by simpa using h)];exact .refl _,rfl⟩)⟩)
 | (have hl:=z0d vs
    refine ⟨rfl,z01 (fun h=>⟨?_,rfl⟩) (fun h=> ?_)⟩
    · have h:=of_decide_eq_true h;rw [varE,if_pos (by omega)];exact .refl _
    · have h:=of_decide_eq_false h;have hlt:n.toNat<vs.length:=by omega
      rw [z3a hlt];have hi:=z90 s (vs[n.toNat]);have e:vs.getD n.toNat 0=vs[n.toNat]:=by simp [List.getD,hlt]
      refine ⟨⟨rfl,h0,by omega,rfl⟩,_,hi,z01 (fun h2=>⟨?_,rfl⟩) (fun h2=>⟨?_,rfl⟩)⟩
      · rw [varE,if_neg (by omega),e,if_neg (by simpa using h2)];exact .refl _
      · rw [varE,if_neg (by omega),e,if_pos (by simpa using h2)];exact .refl _)
 | (have hl:=z0d (v0::vs)
    refine z01 (fun h=>⟨?_,rfl⟩) (fun h=> ?_)
    · have h:=of_decide_eq_true h;rw [varE,if_pos (by simp only [List.length_cons];omega)];exact .refl _
    · have h:=of_decide_eq_false h;have hlt:n.toNat<(v0::vs).length:=by simp only [List.length_cons];omega
      rw [Nat.zero_add,z3a hlt];have hi:=z90 s ((v0::vs)[n.toNat]);have e:(v0::vs).getD n.toNat 0=(v0::vs)[n.toNat]:=by rw [List.getD,List.getElem?_eq_getElem hlt];rfl
      refine ⟨⟨h0,by omega⟩,⟨by omega,rfl,rfl⟩,_,hi,z01 (fun h2=>⟨?_,rfl⟩) (fun h2=>⟨?_,rfl⟩)⟩
      · rw [varE,if_neg (by simp only [List.length_cons];omega),e,if_neg (by simpa using h2)];exact .refl _
      · rw [varE,if_neg (by simp only [List.length_cons];omega),e,if_pos (by simpa using h2)];exact .refl _)
abbrev stEnA  (f:Int) (x:List Tm) (n i:Int) (s:Hp):St:=
 ⟨[(0,aH 0),(2, .c (.a (.fz .N))),(8,ci f),(89,aL x),(90,ci n),(91,ci i)],[(0,hp6 5 6 7 4 s),(1, .gone),(2, .gone),(3, .gone),(4, .mapz (NM s.N 0)),(5, .arz 5 (CR s.C)),(6, .arz 7 (TR s.T)),(7, .arz 1 (NR s.N))],8⟩
theorem l_encA (K:Nat)(hK:K≤1000000000)  :∀ (b pre:List Tm) (f:Int) (s:Hp),(∀ u∈b,∀ s,OkH s→NmB K s→AC Tryz.prog 111 [aH 0,aT u, .c (.a (.fz .N))] (oH s) (t2 (encE none u s).1) (oH' (encE none u s).2))→(pre++b).length≤B→OkH s→NmB K s→
  RPt Tryz.prog 111 5 (t2 (encR none b f s).1) (oH' (encR none b f s).2) 5 (stEnA  f (pre++b) ((pre++b).length:Int) (pre.length:Int) s)
 | [],pre,f,s,_,_,_,_=>by
  refine RPt.vc hP sh zbb (Eq.mpr (zc6 ..) ?_);exact z01 (fun q=>absurd (of_decide_eq_true q) (by simp only [List.append_nil];omega)) (fun _=>⟨by rw [encR];exact .refl _,by rw [encR]⟩)
 | u::b,pre,f,s,hu,hl,ok,nm=>by
  have hlen:=z00 (pre++u::b);have hla:pre.length<(pre++u::b).length:=by simp
  have a1:=hu u List.mem_cons_self s ok nm;have g1:=z5k none u s
  have hE:encR none (u::b) f s=if (encE none u s).1.2≠0 then ((0,(encE none u s).1.2),(encE none u s).2)
   else if (putS (encE none u s).2 ⟨7,f,(encE none u s).1.1,0,0⟩).1.2≠0 then ((0,(putS (encE none u s).2 ⟨7,f,(encE none u s).1.1,0,0⟩).1.2),(putS (encE none u s).2 ⟨7,f,(encE none u s).1.1,0,0⟩).2)
   else encR none b (putS (encE none u s).2 ⟨7,f,(encE none u s).1.1,0,0⟩).1.1 (putS (encE none u s).2 ⟨7,f,(encE none u s).1.1,0,0⟩).2:=by rw [encR]
  have ok1:=g1.1 ok;have nm1:=fun h=>g1.nm (K:=K) h nm;generalize encE none u s=z at*;have hp:=z34 z.2 ⟨7,f,z.1.1,0,0⟩ (by have:=ok1.C;omega);have nx:=fun (h:z.1.2=0)=>l_encA K hK  b (pre++ [u]) (putS z.2 ⟨7,f,z.1.1,0,0⟩).1.1 (putS z.2 ⟨7,f,z.1.1,0,0⟩).2 (fun v hv=>hu v (List.mem_cons_of_mem _ hv)) (by simpa using hl) (ok1.put _) ((nm1 h).put _);rw [show (pre++ [u])++b=pre++u::b by simp,show (((pre++ [u]).length:Nat):Int)=(pre.length:Int)+1 by simp] at nx;generalize putS z.2 ⟨7,f,z.1.1,0,0⟩=y at*;simp only [B] at hl;refine RPt.vc hP sh zbb (Eq.mpr (zc6 ..) ?_);rw [zis,w64 (x:=(pre.length:Int)+1) (by omega) (by omega),hE];refine z01 (fun _=>⟨⟨rfl,by omega,by rw [hlen];omega,zep pre u b⟩,z,a1,z0m (fun q=> ?_) (fun q=>⟨y,hp,z0m (fun q2=> ?_) (fun q2=> ?_)⟩)⟩) (fun q=>absurd (of_decide_eq_false q) (by omega))
  · rw [if_pos q];exact ⟨.refl _,rfl⟩
  · rw [if_neg (fun w=>w q),if_pos q2];exact ⟨.refl _,rfl⟩
  · rw [if_neg (fun w=>w q),if_neg (fun w=>w q2)];exact nx q
theorem c_encA (K:Nat)(hK:K≤1000000000)  :∀ t:Tm,z07 t=true→t.sz≤B→∀ s,OkH s→NmB K s→AC Tryz.prog 111 [aH 0,aT t, .c (.a (.fz .N))] (oH s) (t2 (encE none t s).1) (oH' (encE none t s).2):=by
 refine Tm.ind fun t ih=> ?_;obtain ⟨k,nm0,n,l⟩:=t;intro hv hz s ok nm;have hsz:Tm.szs l+1≤B:=by simp only [Tm.sz] at hz;omega
 have hsl:=Tm.szs_length l;refine AC.vc hP sh zbb (by simp) (by simp [isLive]) (by simp [isLive]) (Eq.mpr (v111_i1 k nm0 n (FTs l)  ..) ?_);have hok:=ok.C;have hnm:s.N.length≤s.C.length+K:=nm;refine z04 (fun e0=> ?_) (fun n0=>z04 (fun e1=> ?_) (fun n1=>z04 (fun e2=> ?_) (fun n2=>z04 (fun e3=> ?_) (fun n3=>z04 (fun e4=> ?_) (fun n4=> ?_)))))
 · have hs:=zlv s nm0 (by omega);have hp:=z34 (symS s nm0).2 ⟨0,(symS s nm0).1,0,0,0⟩ (by unfold symS;split<;>simp only<;>omega);exact ⟨symS s nm0,hs,_,hp,by rw [encE,if_pos e0];exact .refl _,by rw [encE,if_pos e0]⟩
 · exact ⟨_,z34 s ⟨1,n,0,0,0⟩ (by omega),by rw [encE,if_neg n0,if_pos e1];exact .refl _,by rw [encE,if_neg n0,if_pos e1]⟩
 · exact ⟨_,z34 s ⟨2,n,0,0,0⟩ (by omega),by rw [encE,if_neg n0,if_neg n1,if_pos e2];exact .refl _,by rw [encE,if_neg n0,if_neg n1,if_pos e2]⟩
 · exact ⟨_,z34 s ⟨3,n,0,0,0⟩ (by omega),by rw [encE,if_neg n0,if_neg n1,if_neg n2,if_pos e3];exact .refl _,by rw [encE,if_neg n0,if_neg n1,if_neg n2,if_pos e3]⟩
 · have h4:0≤n:=by
    subst e4;rw [z07] at hv;simp at hv;exact hv.1.1.1.1
   exact ⟨_,c_hvarA  s n h4,by rw [encE,if_neg n0,if_neg n1,if_neg n2,if_neg n3,if_pos e4];exact .refl _,by rw [encE,if_neg n0,if_neg n1,if_neg n2,if_neg n3,if_pos e4]⟩
 · have h56:=k56 hv n0 n1 n2 n3 n4;have hvl:=vL_of hv h56;have hE:encE none (.mk k nm0 n l) s=encL none k l s:=by rw [encE,if_neg n0,if_neg n1,if_neg n2,if_neg n3,if_neg n4]
   rw [hE]
   have hne:l ≠ []:=by
    intro e;subst e;rcases h56 with rfl | rfl<;>simp [z07,z00] at hv
   match l,hne with
   | u::l,_=>
    have hlen:=z00 (u::l);have a1:=ih u List.mem_cons_self (zg4 hvl List.mem_cons_self) (by have:=Tm.szs_mem (t:=u) (l:=u::l) List.mem_cons_self;omega) s ok nm;have g1:=z5k none u s
    have hL:encL none k (u::l) s=if (encE none u s).1.2≠0 then ((0,(encE none u s).1.2),(encE none u s).2)
     else if k=5 then putS (encE none u s).2 ⟨6,(encE none u s).1.1,0,0,0⟩ else encR none l (encE none u s).1.1 (encE none u s).2:=by rw [encL]
    rw [hL];have ok1:=g1.1 ok;have nm1:=fun h=>g1.nm (K:=K) h nm;generalize encE none u s=z at*;have hp:=z34 z.2 ⟨6,z.1.1,0,0,0⟩ (by have:=ok1.C;omega);have lp:=fun (h:z.1.2=0)=>l_encA K hK  l [] z.1.1 z.2 (fun v hv s o m=>ih v (List.mem_cons_of_mem _ hv) (zg4 hvl (List.mem_cons_of_mem _ hv)) (by have:=Tm.szs_mem (t:=v) (l:=u::l) (List.mem_cons_of_mem _ hv);omega) s o m) (by simp only [List.nil_append];simp only [List.length_cons] at hsl;omega) ok1 (nm1 h);have et:List.drop 1 (List.take (Int.toNat (((FTs (u::l)).length:Nat):Int)) (FTs (u::l)))=FTs l:=by rw [Int.toNat_natCast,List.take_of_length_le (Nat.le_refl _)];rfl
    have el:aE (List.getD (FTs (u::l)) 0 [])=aT u:=z7g u;rw [el,et];refine ⟨⟨rfl,Int.le_refl _,by rw [hlen];simp only [List.length_cons];omega,z7y u⟩,z,a1,z0m (fun q=> ?_) (fun q=>z04 (fun e5=> ?_) (fun n5=>⟨rfl,⟨by omega,by rw [hlen];simp only [List.length_cons];omega,Int.le_refl _⟩,rfl, ?_⟩))⟩
    · rw [if_pos q];exact ⟨.refl _,rfl⟩
    · rw [if_neg (fun w=>w q),if_pos e5];exact ⟨_,hp, .refl _,rfl⟩
    · rw [if_neg (fun w=>w q),if_neg n5,z00];exact lp q
theorem zno (K:Nat)(hK:K≤1000000000)  (t:Tm)(hz:t.sz≤B)(s:Hp)(ok:OkH s)(nm:NmB K s):AC Tryz.prog 58 [aH 0,aT t, .c (.a (.fz .N))] (oH s) (t2 (encS none s t).1) (oH' (encS none s t).2):=by
 have hv:=zal t hz;have he:=fun h=>c_encA K hK  t h hz s ok nm;obtain ⟨_,d,e,g1,_⟩:=z5k none t s
 have e0:encS none s t=if z07 t=false then ((0,1),s)
  else if (encE none t s).1.2≠0 then ((0,(encE none t s).1.2),⟨(encE none t s).2.C.take s.C.length,(encE none t s).2.T,(encE none t s).2.M,(encE none t s).2.L,(encE none t s).2.N⟩)
  else encE none t s:=rfl
 rw [e0];have hlen:s.C.length≤(encE none t s).2.C.length:=by rw [g1];simp
 generalize encE none t s=z at*;by_cases hb:z07 t=false
 · rw [if_pos hb];obtain ⟨k,nm0,n,l⟩:=t;refine AC.vc hP sh lv58 (by simp) (by simp [isLive]) (by simp [isLive]) (Eq.mpr (zn9 k nm0 n (FTs l)  ..) ?_);exact ⟨_,hv,z01 (fun _=>⟨.refl _,rfl⟩) (fun h=>by rw [hb] at h;cases h)⟩
 · rw [if_neg hb];have hb:z07 t=true:=by simpa using hb
   have he:=he hb;by_cases q:z.1.2=0
   · rw [if_neg (fun w=>w q)];obtain ⟨k,nm0,n,l⟩:=t;refine AC.vc hP sh lv58 (by simp) (by simp [isLive]) (by simp [isLive]) (Eq.mpr (zn9 k nm0 n (FTs l)  ..) ?_);refine ⟨_,hv,z01 (fun h=>by rw [hb] at h;cases h) (fun _=>⟨z,he,z0m (fun w=>absurd q w) (fun _=> ?_)⟩)⟩;obtain ⟨⟨z1,z2⟩,zs⟩:=z;dsimp only at q;subst q;exact ⟨.refl _,rfl⟩
   · rw [if_pos q];refine AC.obj (Hs':=[.arr 6 [[.a (.osl 5 5 0 s.C.length), .a (.osl 6 7 0 z.2.T.length), .a (.fz (.int .i64 z.2.M)), .a (.fz (.int .i64 z.2.L)), .a (.osl 7 1 0 z.2.N.length), .a (.mp 4)]], .gone, .gone, .gone, .mapz (NM z.2.N 0),  .arz 5 (CR z.2.C), .arz 7 (TR z.2.T), .arz 1 (NR z.2.N)]) ?_ ⟨?_, .refl _, .refl _, .refl _, .refl _, ?_, .refl _, .refl _,trivial⟩
     · obtain ⟨k,nm0,n,l⟩:=t;refine AC.vc hP sh lv58 (by simp) (by simp [isLive]) (by simp [isLive]) (Eq.mpr (zn9 k nm0 n (FTs l)  ..) ?_);refine ⟨_,hv,z01 (fun h=>by rw [hb] at h;cases h) (fun _=>⟨z,he,z0m (fun w=>⟨⟨Int.le_refl _,by omega,by omega⟩, .refl _, ?_⟩) (fun w=>absurd w q)⟩)⟩;rw [Int.toNat_natCast]
     · rw [hp6];simp only [List.length_take,Nat.min_eq_left hlen];exact .refl _
     · refine zdj (by rw [z0t,z0t,List.length_take];omega) fun i e e' he he'=> ?_;rw [CR,List.getElem?_map] at he he';obtain ⟨v,hv,rfl⟩:=Option.map_eq_some_iff.1 he';obtain ⟨v2,hv2,rfl⟩:=Option.map_eq_some_iff.1 he;rw [List.getElem?_take] at hv;split at hv
       · rw [hv2] at hv;injection hv with hv;subst hv;exact LeR.refl _
       · cases hv
theorem c_hvarC (v0:Int)(vs:List Int)(s:Hp)(n:Int)(h0:0≤n):AC Tryz.prog 171 [aH 0,ci n, .c (.a (.osl 5 1 0 (vs.length+1)))] (oHv (v0::vs) s) (t2 (varE (some (v0::vs)) s.C n)) (oHv (v0::vs) s):=by
 refine AC.vc hP sh lv171 (Nat.le_refl _) (by simp [isLive]) (by simp) (Eq.mpr (v171 ..) ?_)
 first
 | (have hi:=z90 s n
    exact ⟨_,hi,z01 (fun h=>⟨by rw [varE,if_neg (by simpa using h)];exact .refl _,rfl⟩) (fun h=>⟨by rw [varE,if_pos (by simpa using h)];exact .refl _,rfl⟩)⟩)
 | (have hl:=z0d vs
    refine ⟨rfl,z01 (fun h=>⟨?_,rfl⟩) (fun h=> ?_)⟩
    · have h:=of_decide_eq_true h;rw [varE,if_pos (by omega)];exact .refl _
    · have h:=of_decide_eq_false h;have hlt:n.toNat<vs.length:=by omega
      rw [z3a hlt];have hi:=z90 s (vs[n.toNat]);have e:vs.getD n.toNat 0=vs[n.toNat]:=by simp [List.getD,hlt]
      refine ⟨⟨rfl,h0,by omega,rfl⟩,_,hi,z01 (fun h2=>⟨?_,rfl⟩) (fun h2=>⟨?_,rfl⟩)⟩
      · rw [varE,if_neg (by omega),e,if_neg (by simpa using h2)];exact .refl _
      · rw [varE,if_neg (by omega),e,if_pos (by simpa using h2)];exact .refl _)
 | (have hl:=z0d (v0::vs)
    refine z01 (fun h=>⟨?_,rfl⟩) (fun h=> ?_)
    · have h:=of_decide_eq_true h;rw [varE,if_pos (by simp only [List.length_cons];omega)];exact .refl _
    · have h:=of_decide_eq_false h;have hlt:n.toNat<(v0::vs).length:=by simp only [List.length_cons];omega
      rw [Nat.zero_add,z3a hlt];have hi:=z90 s ((v0::vs)[n.toNat]);have e:(v0::vs).getD n.toNat 0=(v0::vs)[n.toNat]:=by rw [List.getD,List.getElem?_eq_getElem hlt];rfl
      refine ⟨⟨h0,by omega⟩,⟨by omega,rfl,rfl⟩,_,hi,z01 (fun h2=>⟨?_,rfl⟩) (fun h2=>⟨?_,rfl⟩)⟩
      · rw [varE,if_neg (by simp only [List.length_cons];omega),e,if_neg (by simpa using h2)];exact .refl _
      · rw [varE,if_neg (by simp only [List.length_cons];omega),e,if_pos (by simpa using h2)];exact .refl _)
abbrev stEnC (v0:Int)(vs:List Int)(f:Int)(x:List Tm)(n i:Int)(s:Hp):St:=
 ⟨[(0,aH 0),(2, .c (.a (.osl 5 1 0 (vs.length+1)))),(8,ci f),(89,aL x),(90,ci n),(91,ci i)],[(0,hp6 6 7 8 4 s),(1, .gone),(2, .gone),(3, .gone),(4, .mapz (NM s.N 0)),(5, .arz 1 (IR (v0::vs))),(6, .arz 5 (CR s.C)),(7, .arz 7 (TR s.T)),(8, .arz 1 (NR s.N))],9⟩
theorem l_encC (K:Nat)(hK:K≤1000000000)(v0:Int)(vs:List Int):∀ (b pre:List Tm) (f:Int) (s:Hp),(∀ u∈b,∀ s,OkH s→NmB K s→AC Tryz.prog 111 [aH 0,aT u, .c (.a (.osl 5 1 0 (vs.length+1)))] (oHv (v0::vs) s) (t2 (encE (some (v0::vs)) u s).1) (oHv' (v0::vs) (encE (some (v0::vs)) u s).2))→(pre++b).length≤B→OkH s→NmB K s→
  RPt Tryz.prog 111 6 (t2 (encR (some (v0::vs)) b f s).1) (oHv' (v0::vs) (encR (some (v0::vs)) b f s).2) 5 (stEnC v0 vs f (pre++b) ((pre++b).length:Int) (pre.length:Int) s)
 | [],pre,f,s,_,_,_,_=>by
  refine RPt.vc hP sh zbb (Eq.mpr (zm3 ..) ?_);exact z01 (fun q=>absurd (of_decide_eq_true q) (by simp only [List.append_nil];omega)) (fun _=>⟨by rw [encR];exact .refl _,by rw [encR]⟩)
 | u::b,pre,f,s,hu,hl,ok,nm=>by
  have hlen:=z00 (pre++u::b);have hla:pre.length<(pre++u::b).length:=by simp
  have a1:=hu u List.mem_cons_self s ok nm;have g1:=z5k (some (v0::vs)) u s
  have hE:encR (some (v0::vs)) (u::b) f s=if (encE (some (v0::vs)) u s).1.2≠0 then ((0,(encE (some (v0::vs)) u s).1.2),(encE (some (v0::vs)) u s).2)
   else if (putS (encE (some (v0::vs)) u s).2 ⟨7,f,(encE (some (v0::vs)) u s).1.1,0,0⟩).1.2≠0 then ((0,(putS (encE (some (v0::vs)) u s).2 ⟨7,f,(encE (some (v0::vs)) u s).1.1,0,0⟩).1.2),(putS (encE (some (v0::vs)) u s).2 ⟨7,f,(encE (some (v0::vs)) u s).1.1,0,0⟩).2)
   else encR (some (v0::vs)) b (putS (encE (some (v0::vs)) u s).2 ⟨7,f,(encE (some (v0::vs)) u s).1.1,0,0⟩).1.1 (putS (encE (some (v0::vs)) u s).2 ⟨7,f,(encE (some (v0::vs)) u s).1.1,0,0⟩).2:=by rw [encR]
  have ok1:=g1.1 ok;have nm1:=fun h=>g1.nm (K:=K) h nm;generalize encE (some (v0::vs)) u s=z at*;have hp:=z34 z.2 ⟨7,f,z.1.1,0,0⟩ (by have:=ok1.C;omega);have nx:=fun (h:z.1.2=0)=>l_encC K hK v0 vs b (pre++ [u]) (putS z.2 ⟨7,f,z.1.1,0,0⟩).1.1 (putS z.2 ⟨7,f,z.1.1,0,0⟩).2 (fun v hv=>hu v (List.mem_cons_of_mem _ hv)) (by simpa using hl) (ok1.put _) ((nm1 h).put _);rw [show (pre++ [u])++b=pre++u::b by simp,show (((pre++ [u]).length:Nat):Int)=(pre.length:Int)+1 by simp] at nx;generalize putS z.2 ⟨7,f,z.1.1,0,0⟩=y at*;simp only [B] at hl;refine RPt.vc hP sh zbb (Eq.mpr (zm3 ..) ?_);rw [zis,w64 (x:=(pre.length:Int)+1) (by omega) (by omega),hE];refine z01 (fun _=>⟨⟨rfl,by omega,by rw [hlen];omega,zep pre u b⟩,z,a1,z0m (fun q=> ?_) (fun q=>⟨y,hp,z0m (fun q2=> ?_) (fun q2=> ?_)⟩)⟩) (fun q=>absurd (of_decide_eq_false q) (by omega))
  · rw [if_pos q];exact ⟨.refl _,rfl⟩
  · rw [if_neg (fun w=>w q),if_pos q2];exact ⟨.refl _,rfl⟩
  · rw [if_neg (fun w=>w q),if_neg (fun w=>w q2)];exact nx q
theorem c_encC (K:Nat)(hK:K≤1000000000)(v0:Int)(vs:List Int):∀ t:Tm,z07 t=true→t.sz≤B→∀ s,OkH s→NmB K s→AC Tryz.prog 111 [aH 0,aT t, .c (.a (.osl 5 1 0 (vs.length+1)))] (oHv (v0::vs) s) (t2 (encE (some (v0::vs)) t s).1) (oHv' (v0::vs) (encE (some (v0::vs)) t s).2):=by
 refine Tm.ind fun t ih=> ?_;obtain ⟨k,nm0,n,l⟩:=t;intro hv hz s ok nm;have hsz:Tm.szs l+1≤B:=by simp only [Tm.sz] at hz;omega
 have hsl:=Tm.szs_length l;refine AC.vc hP sh zbb (by simp) (by simp [isLive]) (by simp [isLive]) (Eq.mpr (v111 k nm0 n (FTs l) vs.length ..) ?_);have hok:=ok.C;have hnm:s.N.length≤s.C.length+K:=nm;refine z04 (fun e0=> ?_) (fun n0=>z04 (fun e1=> ?_) (fun n1=>z04 (fun e2=> ?_) (fun n2=>z04 (fun e3=> ?_) (fun n3=>z04 (fun e4=> ?_) (fun n4=> ?_)))))
 · have hs:=zlv s nm0 (by omega);have hp:=z34 (symS s nm0).2 ⟨0,(symS s nm0).1,0,0,0⟩ (by unfold symS;split<;>simp only<;>omega);exact ⟨symS s nm0,hs,_,hp,by rw [encE,if_pos e0];exact .refl _,by rw [encE,if_pos e0]⟩
 · exact ⟨_,z34 s ⟨1,n,0,0,0⟩ (by omega),by rw [encE,if_neg n0,if_pos e1];exact .refl _,by rw [encE,if_neg n0,if_pos e1]⟩
 · exact ⟨_,z34 s ⟨2,n,0,0,0⟩ (by omega),by rw [encE,if_neg n0,if_neg n1,if_pos e2];exact .refl _,by rw [encE,if_neg n0,if_neg n1,if_pos e2]⟩
 · exact ⟨_,z34 s ⟨3,n,0,0,0⟩ (by omega),by rw [encE,if_neg n0,if_neg n1,if_neg n2,if_pos e3];exact .refl _,by rw [encE,if_neg n0,if_neg n1,if_neg n2,if_pos e3]⟩
 · have h4:0≤n:=by
    subst e4;rw [z07] at hv;simp at hv;exact hv.1.1.1.1
   exact ⟨_,c_hvarC v0 vs s n h4,by rw [encE,if_neg n0,if_neg n1,if_neg n2,if_neg n3,if_pos e4];exact .refl _,by rw [encE,if_neg n0,if_neg n1,if_neg n2,if_neg n3,if_pos e4]⟩
 · have h56:=k56 hv n0 n1 n2 n3 n4;have hvl:=vL_of hv h56;have hE:encE (some (v0::vs)) (.mk k nm0 n l) s=encL (some (v0::vs)) k l s:=by rw [encE,if_neg n0,if_neg n1,if_neg n2,if_neg n3,if_neg n4]
   rw [hE]
   have hne:l ≠ []:=by
    intro e;subst e;rcases h56 with rfl | rfl<;>simp [z07,z00] at hv
   match l,hne with
   | u::l,_=>
    have hlen:=z00 (u::l);have a1:=ih u List.mem_cons_self (zg4 hvl List.mem_cons_self) (by have:=Tm.szs_mem (t:=u) (l:=u::l) List.mem_cons_self;omega) s ok nm;have g1:=z5k (some (v0::vs)) u s
    have hL:encL (some (v0::vs)) k (u::l) s=if (encE (some (v0::vs)) u s).1.2≠0 then ((0,(encE (some (v0::vs)) u s).1.2),(encE (some (v0::vs)) u s).2)
     else if k=5 then putS (encE (some (v0::vs)) u s).2 ⟨6,(encE (some (v0::vs)) u s).1.1,0,0,0⟩ else encR (some (v0::vs)) l (encE (some (v0::vs)) u s).1.1 (encE (some (v0::vs)) u s).2:=by rw [encL]
    rw [hL];have ok1:=g1.1 ok;have nm1:=fun h=>g1.nm (K:=K) h nm;generalize encE (some (v0::vs)) u s=z at*;have hp:=z34 z.2 ⟨6,z.1.1,0,0,0⟩ (by have:=ok1.C;omega);have lp:=fun (h:z.1.2=0)=>l_encC K hK v0 vs l [] z.1.1 z.2 (fun v hv s o m=>ih v (List.mem_cons_of_mem _ hv) (zg4 hvl (List.mem_cons_of_mem _ hv)) (by have:=Tm.szs_mem (t:=v) (l:=u::l) (List.mem_cons_of_mem _ hv);omega) s o m) (by simp only [List.nil_append];simp only [List.length_cons] at hsl;omega) ok1 (nm1 h);have et:List.drop 1 (List.take (Int.toNat (((FTs (u::l)).length:Nat):Int)) (FTs (u::l)))=FTs l:=by rw [Int.toNat_natCast,List.take_of_length_le (Nat.le_refl _)];rfl
    have el:aE (List.getD (FTs (u::l)) 0 [])=aT u:=z7g u;rw [el,et];refine ⟨⟨rfl,Int.le_refl _,by rw [hlen];simp only [List.length_cons];omega,z7y u⟩,z,a1,z0m (fun q=> ?_) (fun q=>z04 (fun e5=> ?_) (fun n5=>⟨rfl,⟨by omega,by rw [hlen];simp only [List.length_cons];omega,Int.le_refl _⟩,rfl, ?_⟩))⟩
    · rw [if_pos q];exact ⟨.refl _,rfl⟩
    · rw [if_neg (fun w=>w q),if_pos e5];exact ⟨_,hp, .refl _,rfl⟩
    · rw [if_neg (fun w=>w q),if_neg n5,z00];exact lp q
theorem c_EncC (K:Nat)(hK:K≤1000000000)(v0:Int)(vs:List Int)(t:Tm)(hz:t.sz≤B)(s:Hp)(ok:OkH s)(nm:NmB K s):AC Tryz.prog 58 [aH 0,aT t, .c (.a (.osl 5 1 0 (vs.length+1)))] (oHv (v0::vs) s) (t2 (encS (some (v0::vs)) s t).1) (oHv' (v0::vs) (encS (some (v0::vs)) s t).2):=by
 have hv:=zal t hz;have he:=fun h=>c_encC K hK v0 vs t h hz s ok nm;obtain ⟨_,d,e,g1,_⟩:=z5k (some (v0::vs)) t s
 have e0:encS (some (v0::vs)) s t=if z07 t=false then ((0,1),s)
  else if (encE (some (v0::vs)) t s).1.2≠0 then ((0,(encE (some (v0::vs)) t s).1.2),⟨(encE (some (v0::vs)) t s).2.C.take s.C.length,(encE (some (v0::vs)) t s).2.T,(encE (some (v0::vs)) t s).2.M,(encE (some (v0::vs)) t s).2.L,(encE (some (v0::vs)) t s).2.N⟩)
  else encE (some (v0::vs)) t s:=rfl
 rw [e0];have hlen:s.C.length≤(encE (some (v0::vs)) t s).2.C.length:=by rw [g1];simp
 generalize encE (some (v0::vs)) t s=z at*;by_cases hb:z07 t=false
 · rw [if_pos hb];obtain ⟨k,nm0,n,l⟩:=t;refine AC.vc hP sh lv58 (by simp) (by simp [isLive]) (by simp [isLive]) (Eq.mpr (v58 k nm0 n (FTs l) vs.length ..) ?_);exact ⟨_,hv,z01 (fun _=>⟨.refl _,rfl⟩) (fun h=>by rw [hb] at h;cases h)⟩
 · rw [if_neg hb];have hb:z07 t=true:=by simpa using hb
   have he:=he hb;by_cases q:z.1.2=0
   · rw [if_neg (fun w=>w q)];obtain ⟨k,nm0,n,l⟩:=t;refine AC.vc hP sh lv58 (by simp) (by simp [isLive]) (by simp [isLive]) (Eq.mpr (v58 k nm0 n (FTs l) vs.length ..) ?_);refine ⟨_,hv,z01 (fun h=>by rw [hb] at h;cases h) (fun _=>⟨z,he,z0m (fun w=>absurd q w) (fun _=> ?_)⟩)⟩;obtain ⟨⟨z1,z2⟩,zs⟩:=z;dsimp only at q;subst q;exact ⟨.refl _,rfl⟩
   · rw [if_pos q];refine AC.obj (Hs':=[.arr 6 [[.a (.osl 6 5 0 s.C.length), .a (.osl 7 7 0 z.2.T.length), .a (.fz (.int .i64 z.2.M)), .a (.fz (.int .i64 z.2.L)), .a (.osl 8 1 0 z.2.N.length), .a (.mp 4)]], .gone, .gone, .gone, .mapz (NM z.2.N 0), .arz 1 (IR (v0::vs)), .arz 5 (CR z.2.C), .arz 7 (TR z.2.T), .arz 1 (NR z.2.N)]) ?_ ⟨?_, .refl _, .refl _, .refl _, .refl _, .refl _, ?_, .refl _, .refl _,trivial⟩
     · obtain ⟨k,nm0,n,l⟩:=t;refine AC.vc hP sh lv58 (by simp) (by simp [isLive]) (by simp [isLive]) (Eq.mpr (v58 k nm0 n (FTs l) vs.length ..) ?_);refine ⟨_,hv,z01 (fun h=>by rw [hb] at h;cases h) (fun _=>⟨z,he,z0m (fun w=>⟨⟨Int.le_refl _,by omega,by omega⟩, .refl _, ?_⟩) (fun w=>absurd w q)⟩)⟩;rw [Int.toNat_natCast]
     · rw [hp6];simp only [List.length_take,Nat.min_eq_left hlen];exact .refl _
     · refine zdj (by rw [z0t,z0t,List.length_take];omega) fun i e e' he he'=> ?_;rw [CR,List.getElem?_map] at he he';obtain ⟨v,hv,rfl⟩:=Option.map_eq_some_iff.1 he';obtain ⟨v2,hv2,rfl⟩:=Option.map_eq_some_iff.1 he;rw [List.getElem?_take] at hv;split at hv
       · rw [hv2] at hv;injection hv with hv;subst hv;exact LeR.refl _
       · cases hv
end Go.AM

set_option maxRecDepth 100000
open Go Go.Proofs
namespace Go.AM
structure Wp where
 s:Hp
 f:Int
structure Sd where
 h:Int
 js:List Int
 c:Cel
abbrev noS:Sd:=⟨0,[],noC⟩
def lookW (w:Wp)(a:Int):(Sd×Int)×Wp:=
 if (z2d w.s a w.f).1.2.2≠0 then ((noS,(z2d w.s a w.f).1.2.2),⟨(z2d w.s a w.f).2,w.f⟩)
 else ((⟨(z2d w.s a w.f).1.1.1,(z2d w.s a w.f).1.1.2,z06 (z2d w.s a w.f).2.C (z2d w.s a w.f).1.1.1⟩,0),⟨(z2d w.s a w.f).2,(z2d w.s a w.f).1.2.1⟩)
def z2j (w:Wp)(a:Int):(Tm×Int)×Wp:=
 (((z3f w.s a w.f).1.1,(z3f w.s a w.f).1.2.2),⟨(z3f w.s a w.f).2,if (z3f w.s a w.f).1.2.2=0 then (z3f w.s a w.f).1.2.1 else w.f⟩)
def lfZ (a b:Tm):Bool:=a.k==b.k&&a.n==b.n
def z4a (t:Tm):Tm×Bool:=if z07 t=true then (if (z0a t).k=3∨(z0a t).k=1 then (z0a t,true) else (noT,false)) else (noT,false)
def badZ (lv:Int)(out:List Tm)(u:Tm):Bool:= !(z4a u).2||((z4a u).1.k==1&&decide ((z4a u).1.n≤lv))||out.any fun v=>lfZ v (z4a u).1
def z03 (lv:Int):List Int→List Tm→Wp→(List Tm×Int)×Wp
 | [],out,w=>((out,0),w)
 | a::l,out,w=>
  if (z2j w a).1.2≠0 then (([],(z2j w a).1.2),(z2j w a).2)
  else if badZ lv out (z2j w a).1.1=true then (([],171),(z2j w a).2)
  else z03 lv l (out++ [(z4a (z2j w a).1.1).1]) (z2j w a).2
abbrev bndT (n:Int):Tm:= .mk 3 [] n []
def setW (w:Wp)(x:Int)(t:Tm):Int×Wp:=
 if (encS none w.s t).1.2≠0 then ((encS none w.s t).1.2,⟨(encS none w.s t).2,w.f⟩)
 else ((setS (encS none w.s t).2 x ⟨5,(encS none w.s t).1.1,0,0,0⟩).1,⟨(setS (encS none w.s t).2 x ⟨5,(encS none w.s t).1.1,0,0,0⟩).2,w.f⟩)
def z1n (s:Hp)(lv:Int):(Int×Int)×Hp:=putS s ⟨4,z0b [lv,0],0,0,0⟩
def z3t (w:Wp)(x lv:Int)(lams:Nat)(on:List Tm):(Tm×Int)×Wp:=
 if (z1n w.s lv).1.2≠0 then ((noT,(z1n w.s lv).1.2),⟨(z1n w.s lv).2,w.f⟩)
 else ((.mk 4 [] (z1n w.s lv).1.1 [],(setW ⟨(z1n w.s lv).2,w.f⟩ x (z2k lams (z09 (.mk 4 [] (z1n w.s lv).1.1 []) on))).1),(setW ⟨(z1n w.s lv).2,w.f⟩ x (z2k lams (z09 (.mk 4 [] (z1n w.s lv).1.1 []) on))).2)
def onZ:List Tm→List Tm→List Tm
 | a::l,b::m=>(if lfZ a b=true then [bndT (l.length:Int)] else [])++onZ l m
 | _,_=> []
def z5b (w:Wp)(x y:Sd):Int×Wp:=
 if (z03 x.c.a x.js [] w).1.2≠0 then ((z03 x.c.a x.js [] w).1.2,(z03 x.c.a x.js [] w).2)
 else if (z03 y.c.a y.js [] (z03 x.c.a x.js [] w).2).1.2≠0 then ((z03 y.c.a y.js [] (z03 x.c.a x.js [] w).2).1.2,(z03 y.c.a y.js [] (z03 x.c.a x.js [] w).2).2)
 else if (z03 x.c.a x.js [] w).1.1.length≠(z03 y.c.a y.js [] (z03 x.c.a x.js [] w).2).1.1.length then (171,(z03 y.c.a y.js [] (z03 x.c.a x.js [] w).2).2)
 else if (onZ (z03 x.c.a x.js [] w).1.1 (z03 y.c.a y.js [] (z03 x.c.a x.js [] w).2).1.1).length=(z03 x.c.a x.js [] w).1.1.length then (0,(z03 y.c.a y.js [] (z03 x.c.a x.js [] w).2).2)
 else ((z3t (z03 y.c.a y.js [] (z03 x.c.a x.js [] w).2).2 x.h x.c.a (z03 x.c.a x.js [] w).1.1.length (onZ (z03 x.c.a x.js [] w).1.1 (z03 y.c.a y.js [] (z03 x.c.a x.js [] w).2).1.1)).1.2,
  (z3t (z03 y.c.a y.js [] (z03 x.c.a x.js [] w).2).2 x.h x.c.a (z03 x.c.a x.js [] w).1.1.length (onZ (z03 x.c.a x.js [] w).1.1 (z03 y.c.a y.js [] (z03 x.c.a x.js [] w).2).1.1)).2)
structure Iv where
 x:Int
 lv:Int
 l:List Tm
def ixZ (o:Tm):List Tm→Option Nat
 | []=>none
 | u::l=>if lfZ u o=true then some l.length else ixZ o l
def outZ (t:Tm)(k:Int):Tm:=if t.k=3 then .mk t.k t.s (wr (t.n-k)) t.l else t
def z47 (v:Iv)(t:Tm)(k:Int):Tm×Bool:=
 if t.k=3∧t.n<k then (t,true)
 else match ixZ (outZ t k) v.l with
  | some r=>(bndT (k+r),true)
  | none=>(t,t.k==1&&decide (t.n≤v.lv))
def im1 (v:Iv)(k:Int):List Tm→List Tm×List Tm
 | []=>([],[])
 | t::l=>if (z47 v t k).2=true then (bndT (l.length:Int)::(im1 v k l).1,(z47 v t k).1::(im1 v k l).2) else im1 v k l
def im2 (lv vlv k:Int):List Tm→List Tm×List Tm
 | []=>([],[])
 | t::l=>if lv>vlv∧t.k=1∧t.n≤lv then (t::(im2 lv vlv k l).1,bndT (k+(l.length:Int))::(im2 lv vlv k l).2) else im2 lv vlv k l
def zb3 (v:Iv)(y:Sd)(k:Int)(z:(List Tm×Int)×Wp):(Tm×Int)×Wp:=
 if z.1.2≠0 then ((noT,z.1.2),z.2)
 else if (im1 v k z.1.1).1.length=z.1.1.length∧y.c.a≤v.lv then ((z09 (.mk 4 [] y.h []) (im1 v k z.1.1).2,0),z.2)
 else ((z09 (z3t z.2 y.h (z0p [v.lv,y.c.a]) z.1.1.length ((im1 v k z.1.1).1++(im2 y.c.a v.lv k v.l).1)).1.1 ((im1 v k z.1.1).2++(im2 y.c.a v.lv k v.l).2),
  (z3t z.2 y.h (z0p [v.lv,y.c.a]) z.1.1.length ((im1 v k z.1.1).1++(im2 y.c.a v.lv k v.l).1)).1.2),
  (z3t z.2 y.h (z0p [v.lv,y.c.a]) z.1.1.length ((im1 v k z.1.1).1++(im2 y.c.a v.lv k v.l).1)).2)
def zbm (v:Iv)(y:Sd)(k:Int)(w:Wp):(Tm×Int)×Wp:=zb3 v y k (z03 y.c.a y.js [] w)
def z5r (v:Iv)(N:List (List UInt8))(x:Sd)(k:Int):Tm×Bool:=
 if x.c.t=0 then (.mk 0 (z8v N x.c.a) 0 [],true)
 else if x.c.t=2 then (.mk 2 [] x.c.a [],true)
 else if x.c.t=1 then z47 v (.mk 1 [] x.c.a []) k
 else z47 v (bndT x.c.a) k
def z6r (F:Int→Wp→(Tm×Int)×Wp):List Int→Tm→Wp→(Tm×Int)×Wp
 | [],t,w=>((t,0),w)
 | b::l,t,w=>if (F b w).1.2≠0 then ((noT,(F b w).1.2),(F b w).2) else z6r F l (z09 t [(F b w).1.1]) (F b w).2
def termG (v:Iv)(F:Int→Int→Wp→(Tm×Int)×Wp)(k:Int)(z:(Sd×Int)×Wp):(Tm×Int)×Wp:=
 if z.1.2≠0 then ((noT,z.1.2),z.2)
 else if z.1.1.c.t=6 then ((z2k 1 (F z.1.1.c.a (k+1) z.2).1.1,(F z.1.1.c.a (k+1) z.2).1.2),(F z.1.1.c.a (k+1) z.2).2)
 else if z.1.1.c.t=4 then (if z.1.1.h=v.x then ((noT,170),z.2) else zbm v z.1.1 k z.2)
 else if (z5r v z.2.s.N z.1.1 k).2=false then ((noT,170),z.2)
 else z6r (fun b w=>F b k w) z.1.1.js (z5r v z.2.s.N z.1.1 k).1 z.2
def z1e (v:Iv):Nat→Int→Int→Wp→(Tm×Int)×Wp
 | 0,_,_,w=>((noT,80),w)
 | n+1,a,k,w=>termG v (z1e v n) k (lookW w a)
def zfu (x:Sd)(a:Int)(z:(List Tm×Int)×Wp):Int×Wp:=
 if z.1.2≠0 then (z.1.2,z.2)
 else if (z1e ⟨x.h,x.c.a,z.1.1⟩ (z.2.f.toNat+1) a 0 z.2).1.2≠0 then ((z1e ⟨x.h,x.c.a,z.1.1⟩ (z.2.f.toNat+1) a 0 z.2).1.2,(z1e ⟨x.h,x.c.a,z.1.1⟩ (z.2.f.toNat+1) a 0 z.2).2)
 else setW (z1e ⟨x.h,x.c.a,z.1.1⟩ (z.2.f.toNat+1) a 0 z.2).2 x.h (z2k z.1.1.length (z1e ⟨x.h,x.c.a,z.1.1⟩ (z.2.f.toNat+1) a 0 z.2).1.1)
def z4i (w:Wp)(x:Sd)(a:Int):Int×Wp:=zfu x a (z03 x.c.a x.js [] w)
def z3e (w:Wp)(x:Sd)(a:Int):(Int×Int)×Wp:=
 if x.c.t=6 then ((x.c.a,0),w)
 else if (z27 w.s a 1).1.2≠0 then ((0,(z27 w.s a 1).1.2),⟨(z27 w.s a 1).2,w.f⟩)
 else if (putS (z27 w.s a 1).2 ⟨3,0,0,0,0⟩).1.2≠0 then ((0,(putS (z27 w.s a 1).2 ⟨3,0,0,0,0⟩).1.2),⟨(putS (z27 w.s a 1).2 ⟨3,0,0,0,0⟩).2,w.f⟩)
 else ((putS (putS (z27 w.s a 1).2 ⟨3,0,0,0,0⟩).2 ⟨7,(z27 w.s a 1).1.1,(putS (z27 w.s a 1).2 ⟨3,0,0,0,0⟩).1.1,0,0⟩).1,
  ⟨(putS (putS (z27 w.s a 1).2 ⟨3,0,0,0,0⟩).2 ⟨7,(z27 w.s a 1).1.1,(putS (z27 w.s a 1).2 ⟨3,0,0,0,0⟩).1.1,0,0⟩).2,w.f⟩)
abbrev Ow:=(Int×List (Int×Int))×Wp
def z93 (w:Wp)(x y:Sd)(p:Int×Int):Ow:=
 if (z3e w x p.1).1.2≠0 then (((z3e w x p.1).1.2,[]),(z3e w x p.1).2)
 else if (z3e (z3e w x p.1).2 y p.2).1.2≠0 then (((z3e (z3e w x p.1).2 y p.2).1.2,[]),(z3e (z3e w x p.1).2 y p.2).2)
 else ((0,[((z3e w x p.1).1.1,(z3e (z3e w x p.1).2 y p.2).1.1)]),(z3e (z3e w x p.1).2 y p.2).2)
def zjl (x y:Sd):Bool:=x.c.t !=y.c.t||x.c.a !=y.c.a||x.js.length !=y.js.length
def oneG (p:Int×Int)(x y:Sd)(w:Wp):Ow:=
 if x.c.t=6∨y.c.t=6 then z93 w x y p
 else if x.c.t=4∧y.c.t=4∧x.h=y.h then (((z5b w x y).1,[]),(z5b w x y).2)
 else if x.c.t=4 then (((z4i w x p.2).1,[]),(z4i w x p.2).2)
 else if y.c.t=4 then (((z4i w y p.1).1,[]),(z4i w y p.1).2)
 else if zjl x y=true then ((170,[]),w)
 else ((0,x.js.zip y.js),w)
def oneW (w:Wp)(p:Int×Int):Ow:=
 if (lookW w p.1).1.2≠0 then (((lookW w p.1).1.2,[]),(lookW w p.1).2)
 else if (lookW (lookW w p.1).2 p.2).1.2≠0 then (((lookW (lookW w p.1).2 p.2).1.2,[]),(lookW (lookW w p.1).2 p.2).2)
 else oneG p (lookW w p.1).1.1 (lookW (lookW w p.1).2 p.2).1.1 (lookW (lookW w p.1).2 p.2).2
def runZ:Nat→Wp→List (Int×Int)→Int×Wp
 | _,w,[]=>(0,w)
 | 0,w,_::_=>(80,w)
 | n+1,w,p::st=>
  if w.f≤0 then (80,w)
  else if (oneW ⟨w.s,w.f-1⟩ p).1.1≠0 then ((oneW ⟨w.s,w.f-1⟩ p).1.1,(oneW ⟨w.s,w.f-1⟩ p).2)
  else runZ n (oneW ⟨w.s,w.f-1⟩ p).2 ((oneW ⟨w.s,w.f-1⟩ p).1.2++st)
def oddZ (C:List Cel)(x:Int):Bool:= !inC C x||decide (9≤(z06 C x).t)
def allZ (s:Hp)(a b:List Int)(f:Int):(Int×Int)×Hp:=
 if a.length≠b.length∨a.any (oddZ s.C)=true∨b.any (oddZ s.C)=true then ((0,1),s)
 else if (runZ f.toNat ⟨s,f⟩ (a.zip b)).1≠0 then ((0,(runZ f.toNat ⟨s,f⟩ (a.zip b)).1),z4u (runZ f.toNat ⟨s,f⟩ (a.zip b)).2.s s.C.length s.T.length)
 else (((runZ f.toNat ⟨s,f⟩ (a.zip b)).2.f,0),(runZ f.toNat ⟨s,f⟩ (a.zip b)).2.s)
abbrev aWk:TV:= .c (.a (.ep 0 3 0 0))
abbrev wk3 (o r:Nat)(f:Int)(n:Nat):AObj:= .arr 3 [[.a (.ep o 6 0 0), .a (.osl r 2 0 n), .a (.fz (.int .i64 f))]]
abbrev oWk (w:Wp)(n:Nat)(R:List (List FV)):List AObj:=[wk3 1 6 w.f n,hp6 2 3 4 5 w.s, .arz 5 (CR w.s.C), .arz 7 (TR w.s.T), .arz 1 (NR w.s.N), .mapz (NM w.s.N 0), .arz 2 R]
abbrev oWk' (w:Wp)(n:Nat)(R:List (List FV)):List AObj:=[wk3 1 10 w.f n,hp6 7 8 9 5 w.s, .gone, .gone, .gone, .mapz (NM w.s.N 0), .gone, .arz 5 (CR w.s.C), .arz 7 (TR w.s.T), .arz 1 (NR w.s.N), .arz 2 R]
abbrev aSd (x:Sd):TV:= .agg [.a (.fz (.int .i64 x.h)), .a (.fz (.sl false 1 (IR x.js))), .a (.fz (.int .i64 x.c.t)), .a (.fz (.int .i64 x.c.a)), .a (.fz (.int .i64 x.c.b)), .a (.fz (.int .i64 x.c.c)), .a (.fz (.int .i64 x.c.d))]
abbrev tSd (x:Sd×Int):TV:= .tup [(true,[.a (.fz (.int .i64 x.1.h)), .a (.fz (.sl false 1 (IR x.1.js))), .a (.fz (.int .i64 x.1.c.t)), .a (.fz (.int .i64 x.1.c.a)), .a (.fz (.int .i64 x.1.c.b)), .a (.fz (.int .i64 x.1.c.c)), .a (.fz (.int .i64 x.1.c.d))]),(false,[.a (.fz (.int .i64 x.2))])]
abbrev tTE (x:Tm×Int):TV:= .tup [(true,cT x.1),(false,[.a (.fz (.int .i64 x.2))])]
structure OkW (K:Nat)(w:Wp):Prop where
 h:OkH w.s
 f0:0≤w.f
 f1:w.f≤3000000
 n:NmB K w.s
theorem noTE (e:Int):TV.Le (.tup [(true,[.a (.fz (.int .i64 0)), .a (.fz (.str [])), .a (.fz (.int .i64 0)), .a (.fz .N)]),(false,[.a (.fz (.int .i64 e))])]) (tTE (noT,e)):=leTE (l:=[]) z2h
theorem zhg (a b:Tm):AC Tryz.prog 246 [aT a,aT b] [] (cb (lfZ a b)) []:=by
 obtain ⟨k,s,n,l⟩:=a;obtain ⟨k',s',n',l'⟩:=b;refine AC.vc hP sh lv246 (Nat.le_refl _) (by simp) (by simp) (Eq.mpr (v246 k s n (FTs l) k' s' n' (FTs l') _ _) ?_);have e:lfZ (.mk k s n l) (.mk k' s' n' l')=(k==k'&&n==n'):=rfl;refine z01 (fun h=> ?_) (fun h=> ?_)
 · have h:(k==k')=true:=h;rw [e,h,Bool.true_and];exact ⟨.refl _,rfl⟩
 · have h:(k==k')=false:=h;rw [e,h,Bool.false_and];exact ⟨.refl _,rfl⟩
theorem z6q (n:Int):AC Tryz.prog 247 [ci n] [] (aT (bndT n)) []:=by
 refine AC.vc hP sh lv247 (Nat.le_refl _) (by simp) (by simp) (Eq.mpr (v247 ..) ?_);exact ⟨leT z2h,rfl⟩
theorem zgz (x:Sd):AC Tryz.prog 184 [aSd x] [] (cb (x.c.t==4)) []:=by
 refine AC.vc hP sh lv184 (Nat.le_refl _) (by simp) (by simp) (Eq.mpr (v184 ..) ?_);exact ⟨.refl _,rfl⟩
theorem c_hclash (x y:Sd):AC Tryz.prog 187 [aSd x,aSd y] [] (cb (zjl x y)) []:=by
 have e:zjl x y=(x.c.t !=y.c.t||x.c.a !=y.c.a||x.js.length !=y.js.length):=rfl;refine AC.vc hP sh lv187 (Nat.le_refl _) (by simp) (by simp) (Eq.mpr (v187 ..) ?_);rw [z0d,z0d];refine z01 (fun h=> ?_) (fun h=>z01 (fun h2=> ?_) (fun h2=>⟨rfl,rfl, ?_⟩))
 · rw [e,show (x.c.t !=y.c.t)=true from h];exact z0i rfl
 · rw [e,show (x.c.t !=y.c.t)=false from h,show (x.c.a !=y.c.a)=true from h2];exact z0i rfl
 · rw [e,show (x.c.t !=y.c.t)=false from h,show (x.c.a !=y.c.a)=false from h2];refine z0i ?_;by_cases q:x.js.length=y.js.length
   · simp [q]
   · have:(x.js.length:Int)≠(y.js.length:Int):=by omega
     rw [show ((x.js.length:Int) !=(y.js.length:Int))=true from bne_iff_ne.2 this,show (x.js.length !=y.js.length)=true from bne_iff_ne.2 q];rfl
theorem c_hLeaf (t:Tm)(hs:t.sz≤SZ):AC Tryz.prog 295 [aT t] [] (.tup [(true,cT (z4a t).1),(false,[.a (.fz (.bool (z4a t).2))])]) []:=by
 have h0:=zal t (by simp only [SZ,B] at*;omega);have h:=fun h=>zem t (z5y t h) (ze7 h) hs (zbw t h);have e:z4a t=if z07 t=true then (if (z0a t).k=3∨(z0a t).k=1 then (z0a t,true) else (noT,false)) else (noT,false):=rfl
 rw [e];generalize z0a t=z at*;obtain ⟨k,s,n,l⟩:=t;refine AC.vc hP sh lv295 (Nat.le_refl _) (by simp) (by simp) (Eq.mpr (v295 k s n (FTs l) _ _) ?_);refine ⟨_,h0,z01 (fun hv=> ?_) (fun hv=>⟨_,h (zk7 hv),z01 (fun h3=> ?_) (fun h3=>z01 (fun h1=> ?_) (fun h1=> ?_))⟩)⟩
 · rw [if_neg (by rw [not_t hv];simp)];exact ⟨leTB (l:=[]) z2h,rfl⟩
 · have h3:(z.k==3)=true:=h3;rw [if_pos (zk7 hv),if_pos (.inl (by simpa using h3))];exact ⟨.refl _,rfl⟩
 · have h1:(z.k==1)=true:=h1;rw [if_pos (zk7 hv),if_pos (.inr (by simpa using h1))];exact ⟨.refl _,rfl⟩
 · have h3:(z.k==3)=false:=h3;have h1:(z.k==1)=false:=h1;rw [if_pos (zk7 hv),if_neg (by simp at h3 h1;rintro (q | q)<;>contradiction)];exact ⟨leTB (l:=[]) z2h,rfl⟩
theorem zhf (K:Nat)(w:Wp)(n:Nat)(R:List (List FV))(ok:OkW K w)(a:Int):AC Tryz.prog 182 [aWk,ci a] (oWk w n R) (tSd (lookW w a).1) (oWk' (lookW w a).2 n R):=by
 have hh:=c_pHead w.s a w.f ok.h (by have:=ok.f0;omega) (by have:=ok.f1;omega)
 have e:lookW w a=if (z2d w.s a w.f).1.2.2≠0 then ((noS,(z2d w.s a w.f).1.2.2),⟨(z2d w.s a w.f).2,w.f⟩)
  else ((⟨(z2d w.s a w.f).1.1.1,(z2d w.s a w.f).1.1.2,z06 (z2d w.s a w.f).2.C (z2d w.s a w.f).1.1.1⟩,0),⟨(z2d w.s a w.f).2,(z2d w.s a w.f).1.2.1⟩):=rfl
 rw [e];generalize z2d w.s a w.f=z at*;obtain ⟨⟨⟨hd,xs⟩,zf,ze⟩,zs⟩:=z;have hc:=z40 zs hd;dsimp only at*;refine AC.vc hP sh lv182 (by simp) (by simp [isLive]) (by simp [isLive]) (Eq.mpr (v182 ..) ?_);refine ⟨(hd,xs,zf,ze,zs),hh,z0m (fun q=> ?_) (fun q=> ?_)⟩
 · rw [if_pos q];exact ⟨zdl (xs:=[(true,[.int .i64 0, .N, .int .i64 0, .int .i64 0, .int .i64 0, .int .i64 0, .int .i64 0]),(false,[.int .i64 ze])]) (ys:=[(true,[.int .i64 0, .sl false 1 (IR []), .int .i64 0, .int .i64 0, .int .i64 0, .int .i64 0, .int .i64 0]),(false,[.int .i64 ze])]) ⟨⟨rfl, .refl _, .N 1, .refl _, .refl _, .refl _, .refl _, .refl _,trivial⟩,⟨rfl, .refl _⟩,trivial⟩,rfl⟩
 · rw [if_neg (fun w=>w q)];exact ⟨_,_,_,_,_,_,hc, .refl _,rfl⟩
theorem c_wfull (K:Nat)(w:Wp)(n:Nat)(R:List (List FV))(ok:OkW K w)(a:Int):AC Tryz.prog 294 [aWk,ci a] (oWk w n R) (tTE (z2j w a).1) (oWk' (z2j w a).2 n R):=by
 have hh:=zmi w.s a w.f ok.h (by have:=ok.f0;omega) (by have:=ok.f1;omega);have e:z2j w a=(((z3f w.s a w.f).1.1,(z3f w.s a w.f).1.2.2),⟨(z3f w.s a w.f).2,if (z3f w.s a w.f).1.2.2=0 then (z3f w.s a w.f).1.2.1 else w.f⟩):=rfl
 rw [e];generalize z3f w.s a w.f=z at*;obtain ⟨⟨t,zf,ze⟩,zs⟩:=z;dsimp only at*;refine AC.vc hP sh lv294 (by simp) (by simp [isLive]) (by simp [isLive]) (Eq.mpr (v294 ..) ?_);refine ⟨(t,zf,ze,zs),hh,z04 (fun q=> ?_) (fun q=> ?_)⟩
 · rw [if_pos q];exact ⟨.refl _,rfl⟩
 · rw [if_neg q];exact ⟨.refl _,rfl⟩
theorem zja (s:Hp)(ok:OkH s)(lv:Int):AC Tryz.prog 27 [aH 0,ci lv] (oH s) (t2 (z1n s lv).1) (oH' (z1n s lv).2):=by
 have hp:=z34 s ⟨4,z0b [lv,0],0,0,0⟩ (by have:=ok.C;omega);refine AC.vc hP sh lv27 (by simp) (by simp [isLive]) (by simp [isLive]) (Eq.mpr (v27 ..) ?_);exact ⟨z1n s lv,hp, .refl _,rfl⟩
end Go.AM

set_option maxRecDepth 100000
open Go Go.Proofs
namespace Go.AM
structure Rs (K:Nat)(w:Wp)(e:Int)(v:Wp):Prop where
 h:OkH v.s
 f0:0≤v.f
 f1:v.f≤w.f
 mv:Mv true w.s v.s
 n:e=0→NmB K v.s
 m:NmB (K+1048577) v.s
theorem OkW.refl {K:Nat}{w:Wp}(h:OkW K w)(e:Int):Rs K w e w:=⟨h.h,h.f0,Int.le_refl _, .refl _,fun _=>h.n,by have:=h.n;unfold NmB at*;omega⟩
theorem Rs.ok {K:Nat}{w v:Wp}{e:Int}(h:Rs K w e v)(ok:OkW K w)(h0:e=0):OkW K v:=⟨h.h,h.f0,by have:=h.f1;have:=ok.f1;omega,h.n h0⟩
theorem Rs.trans {K:Nat}{w v u:Wp}{e d:Int}(h:Rs K w e v)(g:Rs K v d u):Rs K w d u:=⟨g.h,g.f0,by have:=h.f1;have:=g.f1;omega,h.mv.trans g.mv,g.n,g.m⟩
theorem Rs.same {K:Nat}{w v:Wp}{e d:Int}(h:Rs K w e v)(h0:d=0→e=0):Rs K w d v:=⟨h.h,h.f0,h.f1,h.mv,fun q=>h.n (h0 q),h.m⟩
theorem Mv.nm {s t:Hp}{K:Nat}(h:Mv false s t)(g:NmB K s):NmB K t:=by
 have h1:=h.N;have h2:=h.len.1;unfold NmB at*;rw [h1];omega
theorem OkW.mv {K:Nat}{w v:Wp}(ok:OkW K w)(h:Mv false w.s v.s)(f0:0≤v.f)(f1:v.f≤w.f)(e:Int):Rs K w e v:=
 ⟨h.ok ok.h,f0,f1,h.up,fun _=>h.nm ok.n,by have:=h.nm ok.n;unfold NmB at*;omega⟩
theorem z2v {K:Nat}{w:Wp}(ok:OkW K w)(a:Int):Rs K w (lookW w a).1.2 (lookW w a).2∧Mv false w.s (lookW w a).2.s∧
  ((lookW w a).1.2=0→(lookW w a).2.f+(lookW w a).1.1.js.length+1≤w.f):=by
 have g:=zji (2*w.f.toNat+2) ⟨w.s,w.f,0⟩ a (Nat.le_refl _);have hm:=headS_mv w.s a w.f ok.f0;have o:=headS_ok w.s a w.f ok.h ok.f0 (by have:=ok.f1;omega);have hf0:=ok.f0
 have key:(lookW w a).2.s=(z2d w.s a w.f).2∧((lookW w a).1.2≠0∧(lookW w a).2.f=w.f∨(lookW w a).1.2=0∧0≤(lookW w a).2.f∧(lookW w a).2.f+(lookW w a).1.1.js.length+1≤w.f):=by
  unfold lookW;split
  · rename_i q;exact ⟨rfl, .inl ⟨q,rfl⟩⟩
  · rename_i q;refine ⟨rfl, .inr ⟨rfl, ?_⟩⟩;have q:(z2d w.s a w.f).1.2.2=0:=by simpa using q
    revert q;unfold z2d;split
    · rename_i h;exact fun q=>absurd q h
    · rename_i h;intro _;have:=g.2 (by simpa using h);exact ⟨this.2,this.1⟩
 obtain ⟨k1,k2⟩:=key;have mv:Mv false w.s (lookW w a).2.s:=by rw [k1];exact hm
 rcases k2 with ⟨q,e⟩ | ⟨q,e1,e2⟩
 · exact ⟨ok.mv mv (by omega) (by omega) _,mv,fun h=>absurd h q⟩
 · exact ⟨ok.mv mv e1 (by omega) _,mv,fun _=>e2⟩
theorem zp6 (t:Tm):(if z07 t=true then z0a t else t).sz≤t.sz:=by
 split
 · rename_i h;exact (z5f t (z5y t h)).2.2.1
 · exact Nat.le_refl _
theorem zjm {K:Nat}{w:Wp}(ok:OkW K w)(a:Int):Rs K w (z2j w a).1.2 (z2j w a).2∧Mv false w.s (z2j w a).2.s∧(z2j w a).1.1.sz≤10000000:=by
 obtain ⟨hm,hnn⟩:=zi9 w.s a w.f ok.f0;have hf0:=ok.f0;have hf1:=ok.f1;have okr:OkR ⟨w.s,w.f,0⟩:=⟨ok.h,by dsimp only;omega,by dsimp only;omega⟩;have g:=zd7 (2*w.f.toNat+2) (w.f.toNat+1) w.f (Nat.le_refl _) (by omega) ⟨w.s,w.f,0⟩ a okr (Int.le_refl _);have sz:=zp6 (fulR (2*w.f.toNat+2) (w.f.toNat+1) ⟨w.s,w.f,0⟩ a).1
 have nn:(z3f w.s a w.f).1.2.2=0→(z3f w.s a w.f).1.2.1≤w.f:=by
  unfold z3f;split
  · rename_i h;exact fun q=>absurd q h
  · rename_i h;intro _;exact g.2.1
 have zz:(z3f w.s a w.f).1.1.sz≤10000000:=by
  have g3:=g.2.2;unfold z3f;split
  · show t0.sz≤_;decide
  · show (if _ then _ else _:Tm).sz≤_
    dsimp only at g3;omega
 have e2:(z2j w a).2.s=(z3f w.s a w.f).2:=rfl;have mv:Mv false w.s (z2j w a).2.s:=hm;refine ⟨ok.mv mv ?_ ?_ _,mv,zz⟩
 · show 0≤(if _ then _ else _:Int)
   split
   · exact hnn
   · exact hf0
 · show (if _ then _ else _:Int)≤_
   split
   · rename_i q;exact nn q
   · exact Int.le_refl _
theorem leaf_nil {k n:Int}{s:List UInt8}{l:List Tm}(h:z07 (.mk k s n l)=true)(h5:k=3∨k=1):l=[]:=by
 rw [z07] at h;rcases h5 with rfl | rfl
 · simp [z00] at h;exact h.1.2
 · simp [z00] at h;exact h.1.2
def LfZ (t:Tm):Prop:=(t.k=3∨t.k=1)∧t.l=[]∧z07 t=true
theorem leafZ_ok (t:Tm)(h:(z4a t).2=true):LfZ (z4a t).1:=by
 unfold z4a at h ⊢;split
 · rename_i hv;rw [if_pos hv] at h;split
   · rename_i q;have so:=z5f t (z5y t hv);have hvs:z07 (z0a t)=true:=by rw [z7f,so.1,so.2.1 (ze7 hv)];rfl
     refine ⟨q, ?_,hvs⟩;generalize z0a t=z at*;obtain ⟨k,s,n,l⟩:=z;exact leaf_nil hvs q
   · rename_i q;rw [if_neg q] at h;cases h
 · rename_i hv;rw [if_neg hv] at h;cases h
theorem LfZ.sz {t:Tm}(h:LfZ t):t.sz=1:=by
 obtain ⟨k,s,n,l⟩:=t;have e:l=[]:=h.2.1;rw [e];rfl
theorem z1w {K:Nat}(lv:Int):∀ (l:List Int) (out:List Tm) {w:Wp},OkW K w→(∀ t∈out,LfZ t)→Rs K w (z03 lv l out w).1.2 (z03 lv l out w).2∧Mv false w.s (z03 lv l out w).2.s∧
  (z03 lv l out w).1.1.length≤out.length+l.length∧(∀ t∈(z03 lv l out w).1.1,LfZ t)
 | [],out,w,ok,ho=>⟨ok.refl _, .refl _,by simp [z03],ho⟩
 | a::l,out,w,ok,ho=>by
  obtain ⟨h1,h2,_⟩:=zjm ok a;rw [z03];split
  · exact ⟨h1,h2,by simp,fun t ht=>by cases ht⟩
  · rename_i q;have q:(z2j w a).1.2=0:=by simpa using q
    split
    · exact ⟨h1.same (fun _=>q),h2,by simp,fun t ht=>by cases ht⟩
    · rename_i q2
      have hl:(z4a (z2j w a).1.1).2=true:=by
       cases e:(z4a (z2j w a).1.1).2 with
       | true=>rfl
       | false=>exact absurd (by unfold badZ;rw [e];rfl) q2
      have ih:=z1w lv l (out++ [(z4a (z2j w a).1.1).1]) (h1.ok ok q) (fun t ht=>by
       rcases List.mem_append.1 ht with ht | ht
       · exact ho t ht
       · rw [List.mem_singleton.1 ht];exact leafZ_ok _ hl)
      refine ⟨h1.trans ih.1,h2.trans ih.2.1, ?_,ih.2.2.2⟩;have:=ih.2.2.1;simp only [List.length_append,List.length_cons,List.length_nil] at this ⊢;omega
theorem znd (V:Option (List Int)):∀ (l:List Tm),(∀ u∈l,∀ s,Mv true s (encE V u s).2)→∀ (f:Int) (s:Hp),Mv true s (encR V l f s).2
 | [],_,f,s=>by rw [encR];exact .refl _
 | u::l,h,f,s=>by
  have h1:=h u List.mem_cons_self s;rw [encR];split
  · exact h1
  · split
    · exact h1.put _
    · exact (h1.put _).trans (znd V l (fun v hv=>h v (List.mem_cons_of_mem _ hv)) _ _)
theorem sym_mv (s:Hp)(nm:List UInt8):Mv true s (symS s nm).2:=by
 unfold symS;split
 · exact .refl _
 · exact .names [nm] rfl (.refl s)
theorem encE_mv (V:Option (List Int)):∀ (t:Tm) (s:Hp),Mv true s (encE V t s).2:=by
 refine Tm.ind fun t ih=> ?_;obtain ⟨k,nm,n,l⟩:=t;intro s;rw [encE];split
 · exact (sym_mv s nm).put _
 · split
   · exact (Mv.refl s).put _
   · split
     · exact (Mv.refl s).put _
     · split
       · exact (Mv.refl s).put _
       · split
         · exact .refl s
         · match l with
           | []=>rw [encL];exact .refl s
           | u::l=>
            have h1:=ih u List.mem_cons_self s;rw [encL];split
            · exact h1
            · split
              · exact h1.put _
              · exact h1.trans (znd V l (fun v hv=>ih v (List.mem_cons_of_mem _ hv)) _ _)
theorem zgq (V:Option (List Int))(s:Hp)(t:Tm):Mv true s (encS V s t).2:=by
 by_cases h:(encS V s t).1.2=0
 · unfold encS at h ⊢;split
   · exact .refl s
   · split
     · rename_i q1 q2;rw [if_neg q1,if_pos q2] at h;exact absurd h q2
     · exact encE_mv V t s
 · obtain ⟨e,he⟩:=zpi V s t h;rw [he];exact .names e rfl (.refl s)
theorem zoh (V:Option (List Int)){K:Nat}{s:Hp}(t:Tm)(ok:OkH s)(g:NmB K s):((encS V s t).1.2=0→NmB K (encS V s t).2)∧NmB (K+1048577) (encS V s t).2:=by
 have gw:=z5k V t s;unfold encS;split
 · exact ⟨fun _=>g,by unfold NmB at*;dsimp only;omega⟩
 · split
   · rename_i q;refine ⟨fun h=>absurd h q, ?_⟩;have o:=(gw.1 ok).C;obtain ⟨_,d,e,h1,h2⟩:=gw;rw [if_neg q] at h2;rw [h1] at o ⊢;unfold NmB at*;simp only [List.length_append,List.length_take] at*;omega
   · rename_i q;have:=gw.nm (K:=K) (by simpa using q) g;exact ⟨fun _=>this,by unfold NmB at*;omega⟩
theorem znu {K:Nat}{w:Wp}(ok:OkW K w)(x:Int)(t:Tm):Rs K w (setW w x t).1 (setW w x t).2:=by
 have mv:=zgq none w.s t;have nm:=zoh none t ok.h ok.n;unfold setW;split
 · rename_i q;exact ⟨mv.ok ok.h,ok.f0,Int.le_refl _,mv,nm.1,nm.2⟩
 · rename_i q;have n1:=(nm.1 (by simpa using q)).set x ⟨5,(encS none w.s t).1.1,0,0,0⟩;exact ⟨(mv.set x _).ok ok.h,ok.f0,Int.le_refl _,mv.set x _,fun _=>n1,by unfold NmB at*;dsimp only;omega⟩
theorem OkW.fresh {K:Nat}{w:Wp}(ok:OkW K w)(lv:Int):Rs K w (z1n w.s lv).1.2 ⟨(z1n w.s lv).2,w.f⟩:=by
 have mv:Mv false w.s (z1n w.s lv).2:= .put _ (.refl _);exact ok.mv (v:=⟨(z1n w.s lv).2,w.f⟩) mv ok.f0 (Int.le_refl _) _
theorem zd2 {K:Nat}{w:Wp}(ok:OkW K w)(x lv:Int)(lams:Nat)(on:List Tm):Rs K w (z3t w x lv lams on).1.2 (z3t w x lv lams on).2∧(z3t w x lv lams on).1.1.sz=1:=by
 have h1:=ok.fresh lv;unfold z3t;split
 · exact ⟨h1,rfl⟩
 · rename_i q;exact ⟨h1.trans (znu (h1.ok ok (by simpa using q)) x _),rfl⟩
end Go.AM

set_option maxRecDepth 100000
open Go Go.Proofs
namespace Go.AM
theorem za (v:Iv)(t:Tm)(k:Int)(h:t.sz=1):(z47 v t k).1.sz=1:=by
 unfold z47;split
 · exact h
 · split
   · rfl
   · exact h
def ones (l:List Tm):Prop:=∀ t:Tm,t∈l→t.sz=1
theorem z7d:∀ {l:List Tm},ones l→Tm.szs l=l.length
 | [],_=>rfl
 | t::l,h=>by
  have ih:=z7d (l:=l) fun u hu=>h u (List.mem_cons_of_mem _ hu);have:=h t List.mem_cons_self;simp only [Tm.szs,List.length_cons];omega
theorem znt (v:Iv)(k:Int):∀ (l:List Tm),ones l→ones (im1 v k l).2∧(im1 v k l).2.length≤l.length∧(im1 v k l).1.length=(im1 v k l).2.length∧ones (im1 v k l).1
 | [],_=>⟨(fun t ht=>nomatch ht),Nat.le_refl _,rfl,(fun t ht=>nomatch ht)⟩
 | t::l,h=>by
  obtain ⟨h1,h2,h3,h4⟩:=znt v k l fun u hu=>h u (List.mem_cons_of_mem _ hu);rw [im1];split
  · refine ⟨fun u hu=> ?_,by simp;omega,by simp [h3],fun u hu=> ?_⟩
    · rcases List.mem_cons.1 hu with rfl | hu
      · exact za v _ k (h _ List.mem_cons_self)
      · exact h1 u hu
    · rcases List.mem_cons.1 hu with rfl | hu
      · rfl
      · exact h4 u hu
  · exact ⟨h1,by simp;omega,h3,h4⟩
theorem im2_ok (lv vlv k:Int):∀ (l:List Tm),ones l→ones (im2 lv vlv k l).2∧(im2 lv vlv k l).2.length≤l.length∧(im2 lv vlv k l).1.length=(im2 lv vlv k l).2.length∧ones (im2 lv vlv k l).1
 | [],_=>⟨(fun t ht=>nomatch ht),Nat.le_refl _,rfl,(fun t ht=>nomatch ht)⟩
 | t::l,h=>by
  obtain ⟨h1,h2,h3,h4⟩:=im2_ok lv vlv k l fun u hu=>h u (List.mem_cons_of_mem _ hu);rw [im2];split
  · refine ⟨fun u hu=> ?_,by simp;omega,by simp [h3],fun u hu=> ?_⟩
    · rcases List.mem_cons.1 hu with rfl | hu
      · rfl
      · exact h1 u hu
    · rcases List.mem_cons.1 hu with rfl | hu
      · exact h _ List.mem_cons_self
      · exact h4 u hu
  · exact ⟨h1,by simp;omega,h3,h4⟩
theorem ze1 {a b:List Tm}(ha:ones a)(hb:ones b):ones (a++b):=fun u hu=>(List.mem_append.1 hu).elim (fun h=>ha u h) (fun h=>hb u h)
theorem flexG_ok {K:Nat}(v:Iv)(y:Sd)(k:Int){z:(List Tm×Int)×Wp}(ok:z.1.2=0→OkW K z.2)(hv:ones v.l)(hz:ones z.1.1):
  (z.1.2=0→Rs K z.2 (zb3 v y k z).1.2 (zb3 v y k z).2)∧(z.1.2≠0→(zb3 v y k z).1.2=z.1.2∧(zb3 v y k z).2=z.2)∧(zb3 v y k z).1.1.sz≤2+z.1.1.length+v.l.length:=by
 obtain ⟨a1,a2,a3,_⟩:=znt v k z.1.1 hz;obtain ⟨b1,b2,b3,_⟩:=im2_ok y.c.a v.lv k v.l hv;unfold zb3;split
 · rename_i q;exact ⟨fun h=>absurd h q,fun _=>⟨rfl,rfl⟩,by show (noT:Tm).sz≤_;have:(noT:Tm).sz=1:=rfl;omega⟩
 · rename_i q;have q:z.1.2=0:=by simpa using q
   split
   · refine ⟨fun _=>(ok q).refl _,fun h=>absurd q h, ?_⟩;have:=z4b (.mk 4 [] y.h []) (im1 v k z.1.1).2;rw [z7d a1] at this;have e:(Tm.mk 4 [] y.h []).sz=1:=rfl;dsimp only;omega
   · have hh:=zd2 (ok q) y.h (z0p [v.lv,y.c.a]) z.1.1.length ((im1 v k z.1.1).1++(im2 y.c.a v.lv k v.l).1);refine ⟨fun _=>hh.1,fun h=>absurd q h, ?_⟩;have:=z4b (z3t z.2 y.h (z0p [v.lv,y.c.a]) z.1.1.length ((im1 v k z.1.1).1++(im2 y.c.a v.lv k v.l).1)).1.1 ((im1 v k z.1.1).2++(im2 y.c.a v.lv k v.l).2);rw [z7d (ze1 a1 b1),List.length_append] at this;have:=hh.2;dsimp only;omega
def TrG (K:Nat)(w:Wp)(z:(Tm×Int)×Wp):Prop:=Rs K w z.1.2 z.2∧z.1.1.sz≤1+100004*(w.f-z.2.f).toNat
theorem zjr {K:Nat}{F:Int→Wp→(Tm×Int)×Wp}{m:Int}(hF:∀ b w,OkW K w→w.f≤m→TrG K w (F b w)):∀ (l:List Int) (t:Tm) {w:Wp},OkW K w→w.f≤m→
  Rs K w (z6r F l t w).1.2 (z6r F l t w).2∧(z6r F l t w).1.1.sz≤t.sz+2*l.length+100004*(w.f-(z6r F l t w).2.f).toNat
 | [],t,w,ok,_=>⟨ok.refl _,by simp [z6r]⟩
 | b::l,t,w,ok,hm=>by
  obtain ⟨h1,h2⟩:=hF b w ok hm;rw [z6r];split
  · refine ⟨h1, ?_⟩;have:(noT:Tm).sz=1:=rfl;have:=t.sz_eq;dsimp only;omega
  · rename_i q;have ok1:=h1.ok ok (by simpa using q);obtain ⟨g1,g2⟩:=zjr hF l (z09 t [(F b w).1.1]) ok1 (by have:=h1.f1;omega);refine ⟨h1.trans g1, ?_⟩;have:=z5t t (F b w).1.1;have:=h1.f1;have:=g1.f1;simp only [List.length_cons];omega
theorem zed (v:Iv)(N:List (List UInt8))(x:Sd)(k:Int):(z5r v N x k).1.sz=1:=by
 unfold z5r;split
 · rfl
 · split
   · rfl
   · split
     · exact za _ _ _ rfl
     · exact za _ _ _ rfl
theorem z7n {l:List Tm}(h:∀ t∈l,LfZ t):ones l:=fun t ht=>(h t ht).sz
theorem z73 {K:Nat}(v:Iv)(hv:ones v.l)(hl:v.l.length≤100000):∀ (n:Nat) (a k:Int) {w:Wp},OkW K w→w.f.toNat<n→TrG K w (z1e v n a k w)
 | 0,_,_,_,_,h=>absurd h (by omega)
 | n+1,a,k,w,ok,hn=>by
  obtain ⟨h1,_,h3⟩:=z2v ok a;have hf:=ok.f0;rw [z1e];generalize lookW w a=z at*;unfold termG;have n1:(noT:Tm).sz=1:=rfl;have f1:=h1.f1;split
  · exact ⟨h1,by dsimp only;omega⟩
  · rename_i q;have q:z.1.2=0:=by simpa using q
    have ok1:=h1.ok ok q;have h3:=h3 q;have f2:=h1.f0;split
    · obtain ⟨g1,g2⟩:=z73 v hv hl n z.1.1.c.a (k+1) ok1 (by omega);refine ⟨h1.trans g1, ?_⟩;have:=g1.f1;have e:(z2k 1 (z1e v n z.1.1.c.a (k+1) z.2).1.1).sz=1+(z1e v n z.1.1.c.a (k+1) z.2).1.1.sz:=by simp only [z2k,Tm.sz,Tm.szs];omega
      dsimp only;rw [e];omega
    · split
      · split
        · exact ⟨h1.same fun _=>q,by dsimp only;omega⟩
        · obtain ⟨l1,_,l3,l4⟩:=z1w (K:=K) z.1.1.c.a z.1.1.js [] ok1 (fun t ht=>by cases ht);simp only [List.length_nil] at l3;have g:=flexG_ok (K:=K) v z.1.1 k (z:=z03 z.1.1.c.a z.1.1.js [] z.2) (fun h=>l1.ok ok1 h) hv (z7n l4);unfold zbm;generalize z03 z.1.1.c.a z.1.1.js [] z.2=y at*
          have rs:Rs K z.2 (zb3 v z.1.1 k y).1.2 (zb3 v z.1.1 k y).2:=by
           by_cases e:y.1.2=0
           · exact l1.trans (g.1 e)
           · rw [(g.2.1 e).1,(g.2.1 e).2];exact l1
          refine ⟨h1.trans rs, ?_⟩;have:=rs.f1;have:=g.2.2;omega
      · split
        · exact ⟨h1.same fun _=>q,by dsimp only;omega⟩
        · obtain ⟨g1,g2⟩:=zjr (K:=K) (F:=fun b w=>z1e v n b k w) (m:=z.2.f) (fun b w o hm=>z73 v hv hl n b k o (by have:=o.f0;omega)) z.1.1.js (z5r v z.2.s.N z.1.1 k).1 ok1 (Int.le_refl _);refine ⟨h1.trans g1, ?_⟩;rw [zed] at g2;have:=g1.f1;omega
theorem bindG_ok {K:Nat}(x:Sd)(a:Int){z:(List Tm×Int)×Wp}(ok:z.1.2=0→OkW K z.2)(hz:ones z.1.1)(hl:z.1.1.length≤100000):
  (z.1.2=0→Rs K z.2 (zfu x a z).1 (zfu x a z).2)∧(z.1.2≠0→(zfu x a z).1=z.1.2∧(zfu x a z).2=z.2):=by
 unfold zfu;split
 · rename_i q;exact ⟨fun h=>absurd h q,fun _=>⟨rfl,rfl⟩⟩
 · rename_i q;have q:z.1.2=0:=by simpa using q
   have t:=z73 ⟨x.h,x.c.a,z.1.1⟩ hz hl (z.2.f.toNat+1) a 0 (ok q) (by omega);split
   · exact ⟨fun _=>t.1,fun h=>absurd q h⟩
   · rename_i q2;exact ⟨fun _=>t.1.trans (znu (t.1.ok (ok q) (by simpa using q2)) _ _),fun h=>absurd q h⟩
theorem zje {K:Nat}{w:Wp}(ok:OkW K w)(x:Sd)(a:Int)(hl:x.js.length≤100000):Rs K w (z4i w x a).1 (z4i w x a).2:=by
 obtain ⟨l1,_,l3,l4⟩:=z1w (K:=K) x.c.a x.js [] ok (fun t ht=>by cases ht);simp only [List.length_nil] at l3;have g:=bindG_ok (K:=K) x a (z:=z03 x.c.a x.js [] w) (fun h=>l1.ok ok h) (z7n l4) (by omega);unfold z4i;by_cases e:(z03 x.c.a x.js [] w).1.2=0
 · exact l1.trans (g.1 e)
 · rw [(g.2 e).1,(g.2 e).2];exact l1
theorem zlu {K:Nat}{w:Wp}(ok:OkW K w)(x y:Sd):Rs K w (z5b w x y).1 (z5b w x y).2:=by
 obtain ⟨a1,_,_,_⟩:=z1w (K:=K) x.c.a x.js [] ok (fun t ht=>by cases ht);unfold z5b;generalize z03 x.c.a x.js [] w=z at*;split
 · exact a1
 · rename_i q;have q:z.1.2=0:=by simpa using q
   have ok1:=a1.ok ok q;obtain ⟨b1,_,_,_⟩:=z1w (K:=K) y.c.a y.js [] ok1 (fun t ht=>by cases ht);generalize z03 y.c.a y.js [] z.2=u at*;split
   · exact a1.trans b1
   · rename_i q2;have q2:u.1.2=0:=by simpa using q2
     split
     · exact a1.trans (b1.same fun _=>q2)
     · split
       · exact a1.trans (b1.same fun _=>q2)
       · exact a1.trans (b1.trans (zd2 (b1.ok ok1 q2) _ _ _ _).1)
theorem zdx {K:Nat}{w:Wp}(ok:OkW K w)(x:Sd)(a:Int):Rs K w (z3e w x a).1.2 (z3e w x a).2:=by
 have hm:=zic w.s a 1;unfold z3e;split
 · exact ok.refl _
 · split
   · exact ok.mv (v:=⟨(z27 w.s a 1).2,w.f⟩) hm ok.f0 (Int.le_refl _) _
   · split
     · exact ok.mv (v:=⟨(putS (z27 w.s a 1).2 ⟨3,0,0,0,0⟩).2,w.f⟩) (hm.put _) ok.f0 (Int.le_refl _) _
     · exact ok.mv (v:=⟨_,w.f⟩) ((hm.put _).put _) ok.f0 (Int.le_refl _) _
theorem zmq {K:Nat}{w:Wp}(ok:OkW K w)(x y:Sd)(p:Int×Int):Rs K w (z93 w x y p).1.1 (z93 w x y p).2∧(z93 w x y p).1.2.length≤1:=by
 have h1:=zdx ok x p.1;unfold z93;split
 · exact ⟨h1,Nat.zero_le _⟩
 · rename_i q;have q:(z3e w x p.1).1.2=0:=by simpa using q
   have h2:=zdx (h1.ok ok q) y p.2;split
   · exact ⟨h1.trans h2,Nat.zero_le _⟩
   · rename_i q2;exact ⟨h1.trans (h2.same fun _=>by simpa using q2),Nat.le_refl _⟩
theorem zo {K:Nat}{w:Wp}(ok:OkW K w)(p:Int×Int)(j1:(lookW w p.1).1.1.js.length≤100000)(j2:(lookW (lookW w p.1).2 p.2).1.1.js.length≤100000):Rs K w (oneW w p).1.1 (oneW w p).2∧((oneW w p).1.1=0→(oneW w p).1.2.length+(oneW w p).2.f≤w.f):=by
 obtain ⟨h1,_,h3⟩:=z2v ok p.1;unfold oneW;split
 · rename_i q;exact ⟨h1,fun h=>absurd h q⟩
 · rename_i q;have q:(lookW w p.1).1.2=0:=by simpa using q
   have ok1:=h1.ok ok q;have h3:=h3 q;obtain ⟨g1,_,g3⟩:=z2v ok1 p.2;generalize lookW w p.1=z at*;generalize lookW z.2 p.2=u at*;split
   · rename_i q2;exact ⟨h1.trans g1,fun h=>absurd h q2⟩
   · rename_i q2;have q2:u.1.2=0:=by simpa using q2
     have ok2:=g1.ok ok1 q2;have g3:=g3 q2;have b:=(h1.trans g1);have f1:=g1.f1;have f0:=g1.f0;unfold oneG;split
     · have r:=zmq ok2 z.1.1 u.1.1 p;exact ⟨b.trans r.1,fun _=>by have:=r.2;have:=r.1.f1;omega⟩
     · split
       · have r:=zlu ok2 z.1.1 u.1.1;exact ⟨b.trans r,fun _=>by have:=r.f1;simp only [List.length_nil];omega⟩
       · split
         · have r:=zje ok2 z.1.1 p.2 (by omega);exact ⟨b.trans r,fun _=>by have:=r.f1;simp only [List.length_nil];omega⟩
         · split
           · have r:=zje ok2 u.1.1 p.1 (by omega);exact ⟨b.trans r,fun _=>by have:=r.f1;simp only [List.length_nil];omega⟩
           · split
             · exact ⟨b.same fun _=>q2,fun h=>by cases h⟩
             · refine ⟨b.same fun _=>q2,fun _=> ?_⟩;simp only [List.length_zip];omega
theorem z70 {K:Nat}{w:Wp}(ok:OkW K w)(a:Int)(h:w.f≤100000):(lookW w a).1.1.js.length≤100000:=by
 obtain ⟨h1,_,h3⟩:=z2v ok a;by_cases q:(lookW w a).1.2=0
 · have:=h3 q;have:=h1.f0;omega
 · unfold lookW at q ⊢;split
   · exact Nat.zero_le _
   · rename_i q2;rw [if_neg q2] at q;exact absurd rfl q
theorem zif {K:Nat}{w:Wp}(ok:OkW K w)(p:Int×Int)(h:w.f≤100000):Rs K w (oneW w p).1.1 (oneW w p).2∧((oneW w p).1.1=0→(oneW w p).1.2.length+(oneW w p).2.f≤w.f):=by
 by_cases q:(lookW w p.1).1.2=0
 · have h1:=(z2v ok p.1).1;exact zo ok p (z70 ok p.1 h) (z70 (h1.ok ok q) p.2 (by have:=h1.f1;omega))
 · have e:oneW w p=(((lookW w p.1).1.2,[]),(lookW w p.1).2):=by unfold oneW;rw [if_pos q]
   rw [e];exact ⟨(z2v ok p.1).1,fun h=>absurd h q⟩
theorem zhv {K:Nat}:∀ (n:Nat) {w:Wp} (st:List (Int×Int)),OkW K w→w.f≤100000→Rs K w (runZ n w st).1 (runZ n w st).2
 | n,w,[],ok,_=>by
  have e:runZ n w []=(0,w):=by cases n<;>rfl
  rw [e];exact ok.refl _
 | 0,w,p::st,ok,_=>ok.refl _
 | n+1,w,p::st,ok,hf=>by
  rw [runZ];split
  · exact ok.refl _
  · rename_i q;have ok1:OkW K ⟨w.s,w.f-1⟩:=⟨ok.h,by have:=ok.f0;dsimp only;omega,by have:=ok.f1;dsimp only;omega,ok.n⟩;have h1:=(zif ok1 p (by dsimp only;omega)).1;have up:∀ {e:Int} {v:Wp},Rs K ⟨w.s,w.f-1⟩ e v→Rs K w e v:=fun r=>⟨r.h,r.f0,by have:=r.f1;dsimp only at this;omega,r.mv,r.n,r.m⟩;split
    · exact up h1
    · rename_i q2;have:=h1.f1;dsimp only at this;exact up (h1.trans (zhv n _ (h1.ok ok1 (by simpa using q2)) (by omega)))
end Go.AM

set_option maxRecDepth 100000
open Go Go.Proofs
namespace Go.AM
def ixQ (p:Tm→Bool):List Tm→Nat→Int
 | [],_=> -1
 | t::l,i=>if p t=true then (i:Int) else ixQ p l (i+1)
theorem zlc (p:Tm→Bool):∀ (l:List Tm) (i:Nat),decide (ixQ p l i≥0)=l.any p
 | [],_=>rfl
 | t::l,i=>by
  rw [ixQ,List.any_cons];split
  · rename_i h;rw [h];simp
  · rename_i h;rw [zlc p l,show p t=false by simpa using h,Bool.false_or]
abbrev obQ (t:Tm):AObj:= .arr 4 [cT t]
theorem zk1 (a o:Tm):AC Tryz.prog 296 [aT a, .c (.a (.ep 0 4 0 0))] [obQ o] (cb (lfZ a o)) [obQ o]:=by
 have h:=zhg a o;obtain ⟨k,s,n,l⟩:=a;obtain ⟨k',s',n',l'⟩:=o;refine AC.vc hP sh lv296 (Nat.le_refl _) (by simp [isLive]) (by simp) (Eq.mpr (v296 k s n (FTs l) k' s' n' (FTs l') _ _) ?_);exact ⟨_,h, .refl _,rfl⟩
theorem l_ixQ (o:Tm)(b:List Tm):∀ a:List Tm,(a++b).length≤B→
  RPt Tryz.prog 141 2 (ci (ixQ (fun u=>lfZ u o) b a.length)) [.arz 4 (FTs (a++b)),obQ o] 1 ⟨[(0, .c (.a (.osl 0 4 0 (a++b).length))),(1, .c (.fn (.func 296) [] [(false,[.ep 1 4 0 0])])),(7,ci ((a++b).length:Int)),(8,ci (a.length:Int))],[(0, .arz 4 (FTs (a++b))),(1,obQ o)],2⟩:=by
 induction b with
 | nil=>
  intro a hs;obtain ⟨ok,os,on,ol⟩:=o;refine RPt.vc hP sh z6x (Eq.mpr (z59 ..) ?_);exact z01 (fun h=>absurd (of_decide_eq_true h) (by simp)) (fun _=>⟨.refl _,rfl⟩)
 | cons t b ihb=>
  intro a hs;have h3:=ltI' a t b;have h1:=zk1 t o;have h2:=ihb (a++ [t]) (by simpa using hs);rw [List.append_assoc,List.singleton_append,show (((a++ [t]).length:Nat):Int)=(a.length:Int)+1 by simp,show (a++ [t]).length=a.length+1 by simp] at h2;rw [ixQ];simp only [List.length_append,List.length_cons,B] at hs;have h4:(a.length:Int)<((a++t::b).length:Int):=by simp only [List.length_append,List.length_cons];omega
  have em:=zep a t b;obtain ⟨ok,os,on,ol⟩:=o;refine RPt.vc hP sh z6x (Eq.mpr (z59 ..) ?_);rw [w64 (by omega) (by omega)];refine z01 (fun _=>⟨by simp only [List.length_append,List.length_cons];omega,⟨by rw [Nat.zero_add];omega,by rw [Nat.zero_add,em,midI,List.drop_zero,List.take_of_length_le (by rw [zga];exact Nat.le_refl _)],rfl⟩,lfZ t (.mk ok os on ol),by rw [Nat.zero_add,zis];exact h1,z01 (fun h=> ?_) (fun h=> ?_)⟩) (fun h=>absurd h4 (of_decide_eq_false h))
  · rw [if_pos h];exact ⟨.refl _,rfl⟩
  · rw [if_neg (by rw [h];simp)];exact h2
theorem c_anyQ (o:Tm)(l:List Tm)(hl:l.length≤B):AC Tryz.prog 85 [.c (.a (.osl 0 4 0 l.length)), .c (.fn (.func 296) [] [(false,[.ep 1 4 0 0])])] [.arz 4 (FTs l),obQ o] (cb (l.any fun u=>lfZ u o)) [.arz 4 (FTs l),obQ o]:=by
 have h:AC Tryz.prog 141 [.c (.a (.osl 0 4 0 l.length)), .c (.fn (.func 296) [] [(false,[.ep 1 4 0 0])])] [.arz 4 (FTs l),obQ o] (ci (ixQ (fun u=>lfZ u o) l 0)) [.arz 4 (FTs l),obQ o]:=by
  have:=l_ixQ o l [] hl;obtain ⟨ok,os,on,ol⟩:=o;refine AC.vc hP sh z6x (Nat.le_refl _) (by simp [isLive]) (by simp) (Eq.mpr (zf4 ..) ?_);exact this
 have e:=zlc (fun u=>lfZ u o) l 0;obtain ⟨ok,os,on,ol⟩:=o;refine AC.vc hP sh lv85 (Nat.le_refl _) (by simp [isLive]) (by simp) (Eq.mpr (zhs ..) ?_);exact ⟨_,h,by rw [←e];exact .refl _,rfl⟩
theorem c_anyQN (o:Tm):AC Tryz.prog 85 [.c (.a (.fz .N)), .c (.fn (.func 296) [] [(false,[.ep 0 4 0 0])])] [obQ o] (cb false) [obQ o]:=by
 have hh:AC Tryz.prog 85 [aL [], .c (.fn (.func 296) [] [(false,[.ep 0 4 0 0])])] [obQ o] (cb false) [obQ o]:=by
  have h:AC Tryz.prog 141 [aL [], .c (.fn (.func 296) [] [(false,[.ep 0 4 0 0])])] [obQ o] (ci (-1)) [obQ o]:=by
   obtain ⟨ok,os,on,ol⟩:=o;refine AC.vc hP sh z6x (Nat.le_refl _) (by simp [isLive]) (by simp) (Eq.mpr (zo7 ..) ?_);refine ⟨rfl,RPt.vc hP sh z6x (Eq.mpr (zfm ..) ?_)⟩;exact z01 (fun h=>absurd (of_decide_eq_true h) (by simp [FTs])) (fun _=>⟨.refl _,rfl⟩)
  obtain ⟨ok,os,on,ol⟩:=o;refine AC.vc hP sh lv85 (Nat.le_refl _) (by simp [isLive]) (by simp) (Eq.mpr (v85_F296 ..) ?_);exact ⟨_,h, .refl _,rfl⟩
 exact hh.args ⟨.c _ _ (.a _ _ (.fz _ _ z2h)), .refl _,trivial⟩
abbrev tLs (x:List Tm×Int):TV:= .tup [(false,[.a (.fz (.sl false 4 (FTs x.1)))]),(false,[.a (.fz (.int .i64 x.2))])]
theorem leLs (e:Int):TV.Le (.tup [(false,[.a (.fz .N)]),(false,[.a (.fz (.int .i64 e))])]) (tLs ([],e)):=
 zdl (xs:=[(false,[.N]),(false,[.int .i64 e])]) (ys:=[(false,[.sl false 4 (FTs [])]),(false,[.int .i64 e])]) ⟨⟨rfl,z2h,trivial⟩,⟨rfl, .refl _⟩,trivial⟩
abbrev wkH (w:Wp)(n:Nat)(R:List (List FV)):AHeap:=[(0,wk3 1 10 w.f n),(1,hp6 7 8 9 5 w.s),(2, .gone),(3, .gone),(4, .gone),(5, .mapz (NM w.s.N 0)),(6, .gone),(7, .arz 5 (CR w.s.C)),(8, .arz 7 (TR w.s.T)),(9, .arz 1 (NR w.s.N)),(10, .arz 2 R)]
abbrev aIs (l:List Int):TV:= .c (.a (.fz (.sl false 1 (IR l))))
abbrev stLv (lv:Int)(l:List Int)(out:List Tm)(w:Wp)(n:Nat)(R:List (List FV))(i:Int):St:=
 if out=[] then ⟨[(0,aWk),(1,ci lv),(8, .c (.a (.fz .N))),(16,aIs l),(17,ci (l.length:Int)),(18,ci i)],wkH w n R,11⟩
 else ⟨[(0,aWk),(1,ci lv),(8, .c (.a (.osl 11 4 0 out.length))),(16,aIs l),(17,ci (l.length:Int)),(18,ci i)],wkH w n R++ [(11, .arz 4 (FTs out))],12⟩
theorem znw (a:List Int)(x:Int)(b:List Int):List.getD (IR (a++x::b)) (Int.toNat (a.length:Int)) []=[.int .i64 x]:=by rw [Int.toNat_natCast];exact zdh a x b
theorem IR_lt (a:List Int)(x:Int)(b:List Int):(a.length:Int)<(((IR (a++x::b)).length:Nat):Int):=by rw [z0d];simp;omega
theorem z9f {α:Type}(l:List α)(a:α):l++ [a] ≠ []:=by simp
theorem zf5 (K:Nat)(lv:Int)(n:Nat)(R:List (List FV))(l0:List Int)(hl0:l0.length≤1000000000):∀ (b pre:List Int) (out:List Tm) (w:Wp),l0=pre++b→out.length≤pre.length→OkW K w→
  RPt Tryz.prog 245 7 (tLs (z03 lv b out w).1) (oWk' (z03 lv b out w).2 n R) 1 (stLv lv l0 out w n R (pre.length:Int))
 | [],pre,out,w,hl,_,ok=>by
  rw [List.append_nil] at hl;subst hl;unfold stLv;by_cases hn:out=[]
  · subst hn;rw [if_pos rfl];refine RPt.vc hP sh zec (Eq.mpr (zp3 ..) ?_);exact z01 (fun h=>absurd (of_decide_eq_true h) (by omega)) (fun _=>⟨leLs 0,rfl⟩)
  · rw [if_neg hn];refine RPt.vc hP sh zec (Eq.mpr (zlk ..) ?_);refine z01 (fun h=>absurd (of_decide_eq_true h) (by omega)) (fun _=>⟨⟨rfl,by rw [z00];omega⟩, ?_,rfl⟩);rw [List.drop_zero,List.take_of_length_le (by rw [z00];exact Nat.le_refl _)];exact .refl _
 | a::b,pre,out,w,hl,ho,ok=>by
  have hF:=c_wfull K w n R ok a;obtain ⟨g1,_,g3⟩:=zjm ok a
  have eA:z03 lv (a::b) out w=if (z2j w a).1.2≠0 then (([],(z2j w a).1.2),(z2j w a).2)
   else if badZ lv out (z2j w a).1.1=true then (([],171),(z2j w a).2) else z03 lv b (out++ [(z4a (z2j w a).1.1).1]) (z2j w a).2:=rfl
  have hm:List.getD (IR l0) (Int.toNat (pre.length:Int)) []=[.int .i64 a]:=by rw [hl];exact znw pre a b
  have h3:(pre.length:Int)<(((IR l0).length:Nat):Int):=by rw [hl];exact IR_lt pre a b
  have h4:(pre.length:Int)<((l0.length:Nat):Int):=by rw [z0d] at h3;exact h3
  have next:=fun (o:List Tm) (v:Wp) (h1:o.length≤pre.length+1) (h2:OkW K v)=>zf5 K lv n R l0 hl0 b (pre++ [a]) o v (by rw [hl];simp) (by simpa using h1) h2;rw [show (((pre++ [a]).length:Nat):Int)=(pre.length:Int)+1 by simp] at next;rw [eA];have okn:=fun h=>g1.ok ok h;generalize z2j w a=z at*;obtain ⟨⟨t,e⟩,v⟩:=z;dsimp only at hF g3 okn ⊢;have hleaf:=c_hLeaf t (by simp only [SZ];omega);have eb:badZ lv out t=(!(z4a t).2||((z4a t).1.k==1&&decide ((z4a t).1.n≤lv))||out.any fun x=>lfZ x (z4a t).1):=rfl;generalize z4a t=y at*;obtain ⟨y1,y2⟩:=y;dsimp only at hleaf eb ⊢;have hany:=c_anyQ y1 out (by simp only [B];omega);have hnil:=c_anyQN y1;unfold stLv at next ⊢;have i1:e≠0→(if e≠0 then (([],e),v) else if badZ lv out t=true then (([],171),v) else z03 lv b (out++ [y1]) v)=(([],e),v):=fun h=>if_pos h
  have i2:e=0→badZ lv out t=true→(if e≠0 then (([],e),v) else if badZ lv out t=true then (([],171),v) else z03 lv b (out++ [y1]) v)=(([],171),v):=fun h g=>by rw [if_neg (fun w=>w h),if_pos g]
  have i3:e=0→badZ lv out t=false→(if e≠0 then (([],e),v) else if badZ lv out t=true then (([],171),v) else z03 lv b (out++ [y1]) v)=z03 lv b (out++ [y1]) v:=fun h g=>by rw [if_neg (fun w=>w h),if_neg (by rw [g];simp)]
  generalize (if e≠0 then (([],e),v) else if badZ lv out t=true then (([],171),v) else z03 lv b (out++ [y1]) v)=Z at*
  have take:e=0→badZ lv out t=false→RPt Tryz.prog 245 7 (tLs Z.1) (oWk' Z.2 n R) 1
    ⟨[(0,aWk),(1,ci lv),(8, .c (.a (.osl 11 4 0 (out.length+1)))),(16,aIs l0),(17,ci (l0.length:Int)),(18,ci ((pre.length:Int)+1))],wkH v n R++ [(11, .arz 4 (FTs out++ [FT4 y1]))],12⟩:=fun h0 h=>by
   have:=next (out++ [y1]) v (by simp;omega) (okn h0);rw [if_neg (z9f _ _),z1x,List.length_append] at this;rw [i3 h0 h,z48];exact this
  have bad:e=0→badZ lv out t=true→TV.Le (.tup [(false,[.a (.fz .N)]),(false,[.a (.fz (.int .i64 171))])]) (tLs Z.1)∧oWk' v n R=oWk' Z.2 n R:=fun h0 h=>by
   rw [i2 h0 h];exact ⟨leLs 171,rfl⟩
  by_cases hn:out=[]
  · subst hn;rw [if_pos rfl];refine RPt.vc hP sh zec (Eq.mpr (zp3 ..) ?_);rw [hm,w64 (x:=(pre.length:Int)+1) (by omega) (by omega)];have hnb:(([]:List Tm).any fun x=>lfZ x y1)=false:=rfl;refine z01 (fun _=>⟨⟨rfl,by omega,h3,rfl⟩,(t,e,⟨v.s,v.f,n,R⟩),hF,z0m (fun q=> ?_) (fun q=>⟨(y1,y2),hleaf,z04 (fun k1=>z01 (fun b2=>bad q ?_) (fun b2=>z01 (fun b3=>bad q ?_) (fun b3=>⟨false,hnil,z01 (fun h=>by cases h) (fun _=>⟨Nat.le_refl _,z4n (by omega),take q ?_⟩)⟩))) (fun k1=>z01 (fun b2=>bad q ?_) (fun b2=>⟨false,hnil,z01 (fun h=>by cases h) (fun _=>⟨Nat.le_refl _,z4n (by omega),take q ?_⟩)⟩))⟩)⟩) (fun h=>absurd h4 (of_decide_eq_false h))
    · rw [i1 q];exact ⟨leLs e,rfl⟩
    · have b2:(!y2)=true:=b2;rw [eb,b2];rfl
    · have b3:decide (y1.n≤lv)=true:=b3;have k1:y1.k=1:=k1;rw [eb,b3,k1];simp
    · have b2:(!y2)=false:=b2;have b3:decide (y1.n≤lv)=false:=b3;rw [eb,b2,b3,hnb,Bool.and_false];rfl
    · have b2:(!y2)=true:=b2;rw [eb,b2];rfl
    · have b2:(!y2)=false:=b2;have k1:¬y1.k=1:=k1;rw [eb,b2,hnb,show (y1.k==1)=false by simpa using k1];rfl
  · rw [if_neg hn];refine RPt.vc hP sh zec (Eq.mpr (zlk ..) ?_);rw [hm,w64 (x:=(pre.length:Int)+1) (by omega) (by omega),List.take_of_length_le (l:=FTs out) (by rw [z00];exact Nat.le_refl _)];have room:out.length≤(FTs out).length∧z0h (out.length+1) 56:=⟨by rw [z00];exact Nat.le_refl _,z4n (by omega)⟩;refine z01 (fun _=>⟨⟨rfl,by omega,h3,rfl⟩,(t,e,⟨v.s,v.f,n,R⟩),hF,z0m (fun q=> ?_) (fun q=>⟨(y1,y2),hleaf,z04 (fun k1=>z01 (fun b2=>bad q ?_) (fun b2=>z01 (fun b3=>bad q ?_) (fun b3=>⟨_,hany,z01 (fun h=>bad q ?_) (fun h=>⟨Nat.le_refl _,room,take q ?_⟩)⟩))) (fun k1=>z01 (fun b2=>bad q ?_) (fun b2=>⟨_,hany,z01 (fun h=>bad q ?_) (fun h=>⟨Nat.le_refl _,room,take q ?_⟩)⟩))⟩)⟩) (fun h=>absurd h4 (of_decide_eq_false h))
    · rw [i1 q];exact ⟨leLs e,rfl⟩
    · have b2:(!y2)=true:=b2;rw [eb,b2];rfl
    · have b3:decide (y1.n≤lv)=true:=b3;have k1:y1.k=1:=k1;rw [eb,b3,k1];simp
    · rw [eb,h,Bool.or_true]
    · have b2:(!y2)=false:=b2;have b3:decide (y1.n≤lv)=false:=b3;rw [eb,b2,b3,h,Bool.and_false];rfl
    · have b2:(!y2)=true:=b2;rw [eb,b2];rfl
    · rw [eb,h,Bool.or_true]
    · have b2:(!y2)=false:=b2;have k1:¬y1.k=1:=k1;rw [eb,b2,h,show (y1.k==1)=false by simpa using k1];rfl
theorem z7t (K:Nat)(lv:Int)(n:Nat)(R:List (List FV))(l:List Int)(hl:l.length≤1000000000)(w:Wp)(ok:OkW K w):AC Tryz.prog 245 [aWk,ci lv,aIs l] (oWk w n R) (tLs (z03 lv l [] w).1) (oWk' (z03 lv l [] w).2 n R):=by
 have h:=zf5 K lv n R l hl l [] [] w rfl (Nat.le_refl _) ok;refine AC.vc hP sh zec (by simp) (by simp [isLive]) (by simp [isLive]) (Eq.mpr (v245 ..) ?_);rw [z0d];exact ⟨rfl,h⟩
theorem c_wset (K:Nat)(hK:K≤1000000000)(w:Wp)(n:Nat)(R:List (List FV))(ok:OkW K w)(x:Int)(t:Tm)(hz:t.sz≤B):AC Tryz.prog 250 [aWk,ci x,aT t] (oWk w n R) (ci (setW w x t).1) (oWk' (setW w x t).2 n R):=by
 have hE:=zno K hK t hz w.s ok.h ok.n;have mv:=zgq none w.s t
 have e0:setW w x t=if (encS none w.s t).1.2≠0 then ((encS none w.s t).1.2,⟨(encS none w.s t).2,w.f⟩)
  else ((setS (encS none w.s t).2 x ⟨5,(encS none w.s t).1.1,0,0,0⟩).1,⟨(setS (encS none w.s t).2 x ⟨5,(encS none w.s t).1.1,0,0,0⟩).2,w.f⟩):=rfl
 rw [e0];generalize encS none w.s t=z at*;have hs:=zm2 z.2 x ⟨5,z.1.1,0,0,0⟩ (by have:=(mv.ok ok.h).T;omega);obtain ⟨k,s,m,l⟩:=t;refine AC.vc hP sh lv250 (by simp) (by simp [isLive]) (by simp [isLive]) (Eq.mpr (v250 x k s m (FTs l) ..) ?_);refine ⟨z,hE,z0m (fun q=> ?_) (fun q=> ?_)⟩
 · rw [if_pos q];exact ⟨.refl _,rfl⟩
 · rw [if_neg (fun w=>w q)];exact ⟨_,hs, .refl _,rfl⟩
theorem z9o:∀ (n:Nat) (f:Tm),(z2k n f).sz=n+f.sz
 | 0,f=>by rw [z2k];omega
 | n+1,f=>by
  rw [z2k,z9o n];simp only [Tm.sz,Tm.szs];omega
theorem znr (K:Nat)(hK:K≤1000000000)(w:Wp)(n:Nat)(R:List (List FV))(ok:OkW K w)(x lv:Int)(lams:Nat)(on:List Tm)(hl:lams≤1000000000)(hz:Tm.szs on≤1000000000):AC Tryz.prog 248 [aWk,ci x,ci lv,ci (lams:Int),aL on] (oWk w n R) (tTE (z3t w x lv lams on).1) (oWk' (z3t w x lv lams on).2 n R):=by
 have hf:=zja w.s ok.h lv;have f1:=ok.fresh lv
 have e0:z3t w x lv lams on=if (z1n w.s lv).1.2≠0 then ((noT,(z1n w.s lv).1.2),⟨(z1n w.s lv).2,w.f⟩)
  else ((.mk 4 [] (z1n w.s lv).1.1 [],(setW ⟨(z1n w.s lv).2,w.f⟩ x (z2k lams (z09 (.mk 4 [] (z1n w.s lv).1.1 []) on))).1),(setW ⟨(z1n w.s lv).2,w.f⟩ x (z2k lams (z09 (.mk 4 [] (z1n w.s lv).1.1 []) on))).2):=rfl
 rw [e0];have okn:=fun h=>f1.ok ok h;generalize z1n w.s lv=z at*;obtain ⟨⟨a,e⟩,zs⟩:=z;dsimp only at*;have hon:=Tm.szs_length on;have ha:=(z3k (.mk 4 [] a []) on (by simp only [Tm.l,List.length_nil];omega)).args (args:=[.agg [.a (.fz (.int .i64 4)), .a (.fz (.str [])), .a (.fz (.int .i64 a)), .a (.fz .N)],aL on]) ⟨leT z2h, .refl _,trivial⟩;have hl2:=za3 lams (z09 (.mk 4 [] a []) on) (by omega);have hsz:=z4b (.mk 4 [] a []) on;have e1:(Tm.mk 4 [] a []).sz=1:=rfl;have hset:=fun h=>c_wset K hK ⟨zs,w.f⟩ n R (okn h) x (z2k lams (z09 (.mk 4 [] a []) on)) (by rw [z9o];simp only [B];omega);refine AC.vc hP sh lv248 (by simp) (by simp [isLive]) (by simp [isLive]) (Eq.mpr (v248 x lv (lams:Int) (FTs on) ..) ?_);refine ⟨(a,e,zs),hf,z0m (fun q=> ?_) (fun q=> ?_)⟩
 · rw [if_pos q];exact ⟨noTE e,rfl⟩
 · rw [if_neg (fun w=>w q)];exact ⟨_,ha,_,hl2,((setW ⟨zs,w.f⟩ x (z2k lams (z09 (.mk 4 [] a []) on))).1,⟨(setW ⟨zs,w.f⟩ x (z2k lams (z09 (.mk 4 [] a []) on))).2.s,(setW ⟨zs,w.f⟩ x (z2k lams (z09 (.mk 4 [] a []) on))).2.f,n,R⟩),hset q,leTE (l:=[]) z2h,rfl⟩
end Go.AM
