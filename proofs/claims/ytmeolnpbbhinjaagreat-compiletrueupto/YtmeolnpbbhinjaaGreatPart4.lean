/- Contracts of the code's functions over plain values, and plain laws: part 4. No conditions. -/
import Derived.Test.YtmeolnpbbhinjaaGreatPart3
import Derived.Test.YtmeolnpbbhinjaaGreatShelf
import Derived.Lib.Builder
import Derived.Lib.AppendStr
import Derived.Lib.UnsafeStr
import Derived.Lib.Walk
import Derived.Lib.MakeNoZero
import Derived.WalkKit
import Derived.Laws.Externs
set_option maxRecDepth 100000
open Go Go.Proofs
namespace Go.AM
def zkb (c:Int):Bool:=decide (97≤c)&&decide (c≤122)
def zne (c:Int):Bool:=decide (65≤c)&&decide (c≤90)||c==95
def zry (c:Int):Bool:=decide (48≤c)&&decide (c≤57)
def z5r (c:Int):Bool:=zkb c||zne c||zry c||c==39
def signs:List UInt8:=[43,45,42,47,60,62,61,38,124,94,126,64,35,36,63,58]
def zio (c:Int):Bool:=decide (Lib.indexByte signs c.toNat.toUInt8≥0)
theorem zq5 (c:Int):AC Tryz.prog 70 [c8 c] [] (cb (zkb c)) []:=by
 refine AC.vc hP sh lv70 (Nat.le_refl _) (by simp) (by simp) (Eq.mpr (v70 ..) ?_);refine z03 (fun h=>z04 ?_) (fun h=>z04 ?_)<;>simp_all [zkb]<;>omega
theorem c_great (c:Int):AC Tryz.prog 110 [c8 c] [] (cb (zne c)) []:=by
 refine AC.vc hP sh lv110 (Nat.le_refl _) (by simp) (by simp) (Eq.mpr (v110 ..) ?_);refine z03 (fun h=>z03 (fun h=>z04 ?_) (fun h=>z04 ?_)) (fun h=>z04 ?_)<;>simp_all [zne]<;>omega
theorem c_digit (c:Int):AC Tryz.prog 111 [c8 c] [] (cb (zry c)) []:=by
 refine AC.vc hP sh lv111 (Nat.le_refl _) (by simp) (by simp) (Eq.mpr (v111 ..) ?_);refine z03 (fun h=>z04 ?_) (fun h=>z04 ?_)<;>simp_all [zry]<;>omega
theorem c_inside (c:Int):AC Tryz.prog 72 [c8 c] [] (cb (z5r c)) []:=by
 refine AC.vc hP sh lv72 (Nat.le_refl _) (by simp) (by simp) (Eq.mpr (v72 ..) ?_);refine ⟨_,zq5 c,z03 (fun h=>z04 ?_) (fun h=>⟨_,c_great c,z03 (fun h=>z04 ?_) (fun h=>⟨_,c_digit c,z03 (fun h=>z04 ?_) (fun h=>z04 ?_)⟩)⟩)⟩<;>simp_all [z5r]
theorem zh1 (s:List UInt8)(c:Int):AC Tryz.prog 141 [cs s,c8 c] [] (ci (Lib.indexByte s c.toNat.toUInt8)) []:=
 AC.str_u8 (by kernel_rfl) fun w=>Tryz.stringslite_IndexByte ⟨s.toArray⟩ c w
theorem zjn (s:List UInt8)(c:Int):AC Tryz.prog 112 [cs s,c8 c] [] (ci (Lib.indexByte s c.toNat.toUInt8)) []:=
 AC.str_u8 (by kernel_rfl) fun w=>Tryz.strings_IndexByte ⟨s.toArray⟩ c w
theorem c_sign (c:Int):AC Tryz.prog 73 [c8 c] [] (cb (zio c)) []:=by
 refine AC.vc hP sh lv73 (Nat.le_refl _) (by simp) (by simp) (Eq.mpr (v73 ..) ?_);exact ⟨_,zjn _ c,z04 rfl⟩
def runN (p:Int→Bool):List UInt8→Nat
 | []=>0
 | c::s=>if p (c.toNat:Int) then runN p s+1 else 0
theorem zpt (p:Int→Bool):∀ s:List UInt8,runN p s≤s.length
 | []=>Nat.le_refl _
 | c::s=>by have:=zpt p s;simp only [runN,List.length_cons];split<;>omega
theorem zqb (a:List UInt8)(c:UInt8)(b:List UInt8):List.getD (a++c::b) (Int.toNat (a.length:Int)) 0=c:=by simp [List.getD]
theorem z9a:∀ (b a:List UInt8),(a++b).length≤B→RPt Tryz.prog 71 0 (ci ((a.length:Int)+runN z5r b)) [] 1 ⟨[(0,cs (a++b)),(1, .c (.fn (.func 72) [] [])),(7,ci (((a++b).length:Nat):Int)),(8,ci a.length)],[],0⟩
 | [],a,hl=>by
  refine RPt.vc hP sh lv71 (Eq.mpr (zcy ..) ?_);exact z03 (fun h=>absurd h (by simp)) (fun _=>z2g (by simp [runN]))
 | c::b,a,hl=>by
  refine RPt.vc hP sh lv71 (Eq.mpr (zcy ..) ?_);have hl':=hl;simp only [List.length_append,List.length_cons,B] at hl';refine z03 (fun _=>⟨⟨by omega,by simp;omega⟩,z5r (c.toNat:Int), ?_,z03 (fun h=>z2g ?_) (fun h=> ?_)⟩) (fun h=>absurd h (by simp;omega))
  · rw [zqb];exact c_inside _
  · simp_all [runN]
  · have:=z9a b (a++ [c]) (by simpa using hl);rw [w64 (by omega) (by omega)];simp only [List.append_assoc,List.cons_append,List.nil_append,List.length_append,List.length_cons,List.length_nil,Int.natCast_add,Int.natCast_one,Int.natCast_zero,Int.zero_add] at this;simp only [Bool.not_eq_false'] at h;simp only [runN,h,if_true,List.length_append,List.length_cons,Int.natCast_add,Int.natCast_one];rw [show (a.length:Int)+((runN z5r b:Nat)+1:Int)=(a.length:Int)+1+(runN z5r b:Nat) by omega];exact this
theorem zgh (s:List UInt8)(h:s.length≤B):AC Tryz.prog 71 [cs s, .c (.fn (.func 72) [] [])] [] (ci (runN z5r s)) []:=by
 refine AC.vc hP sh lv71 (Nat.le_refl _) (by simp) (by simp) (Eq.mpr (v71_F72 ..) ?_);have:=z9a s [] (by simpa using h);simpa using this
theorem zcr:∀ (b a:List UInt8),(a++b).length≤B→RPt Tryz.prog 71 0 (ci ((a.length:Int)+runN zio b)) [] 1 ⟨[(0,cs (a++b)),(1, .c (.fn (.func 73) [] [])),(7,ci (((a++b).length:Nat):Int)),(8,ci a.length)],[],0⟩
 | [],a,hl=>by
  refine RPt.vc hP sh lv71 (Eq.mpr (zdg ..) ?_);exact z03 (fun h=>absurd h (by simp)) (fun _=>z2g (by simp [runN]))
 | c::b,a,hl=>by
  refine RPt.vc hP sh lv71 (Eq.mpr (zdg ..) ?_);have hl':=hl;simp only [List.length_append,List.length_cons,B] at hl';refine z03 (fun _=>⟨⟨by omega,by simp;omega⟩,zio (c.toNat:Int), ?_,z03 (fun h=>z2g ?_) (fun h=> ?_)⟩) (fun h=>absurd h (by simp;omega))
  · rw [zqb];exact c_sign _
  · simp_all [runN]
  · have:=zcr b (a++ [c]) (by simpa using hl);rw [w64 (by omega) (by omega)];simp only [List.append_assoc,List.cons_append,List.nil_append,List.length_append,List.length_cons,List.length_nil,Int.natCast_add,Int.natCast_one,Int.natCast_zero,Int.zero_add] at this;simp only [Bool.not_eq_false'] at h;simp only [runN,h,if_true,List.length_append,List.length_cons,Int.natCast_add,Int.natCast_one];rw [show (a.length:Int)+((runN zio b:Nat)+1:Int)=(a.length:Int)+1+(runN zio b:Nat) by omega];exact this
theorem zmi (s:List UInt8)(h:s.length≤B):AC Tryz.prog 71 [cs s, .c (.fn (.func 73) [] [])] [] (ci (runN zio s)) []:=by
 refine AC.vc hP sh lv71 (Nat.le_refl _) (by simp) (by simp) (Eq.mpr (v71_F73 ..) ?_);have:=zcr s [] (by simpa using h);simpa using this
theorem z7q (p:Int→Bool):∀ s:List UInt8,(((runN p s:Nat):Int)==((s.length:Nat):Int))=s.all fun c=>p (c.toNat:Int)
 | []=>rfl
 | c::s=>by
  have ih:=z7q p s;have:=zpt p s;simp only [runN,List.all_cons,List.length_cons];cases h:p (c.toNat:Int) with
  | true=>rw [←ih];simp only [if_true,Bool.true_and];rw [Bool.eq_iff_iff];simp<;>omega
  | false=>simp;omega
def zlv (s:List UInt8):Bool:= !(s==[])&&decide ((s.length:Int)≤32)
theorem c_fits (s:List UInt8):AC Tryz.prog 69 [cs s] [] (cb (zlv s)) []:=by
 refine AC.vc hP sh lv69 (Nat.le_refl _) (by simp) (by simp) (Eq.mpr (v69 ..) ?_);refine z03 (fun h=>z04 ?_) (fun h=>z04 ?_)<;>simp_all [zlv]
def zbr (s:List UInt8):Bool:=zlv s&&zkb ((s.getD 0 0).toNat:Int)&&s.all fun c=>z5r (c.toNat:Int)
theorem ziu {s:List UInt8}(h:zlv s=true):0<s.length∧s.length≤32:=by
 simp only [zlv,Bool.and_eq_true,Bool.not_eq_true',decide_eq_true_eq] at h;refine ⟨?_,by omega⟩;cases s with
 | nil=>simp at h
 | cons c s=>simp
theorem zjv (s:List UInt8):AC Tryz.prog 33 [cs s] [] (cb (zbr s)) []:=by
 refine AC.vc hP sh lv33 (Nat.le_refl _) (by simp) (by simp) (Eq.mpr (v33 ..) ?_);refine ⟨_,c_fits s,z03 (fun h=>⟨⟨by omega,by have:=ziu h;omega⟩,_,zq5 _,z03 (fun h2=>⟨_,zgh s (by have:=ziu h;simp only [B];omega),z04 ?_⟩) (fun h2=>z04 ?_)⟩) (fun h=>z04 ?_)⟩
 · rw [z7q];simp only [zbr,h,h2,Bool.true_and]
 · simp only [zbr,h,h2,Bool.and_false,Bool.false_and]
 · simp only [zbr,h,Bool.false_and]
def zjj:List UInt8:=[44,59,33]
theorem zil (s:List UInt8)(c:UInt8)(hs:s.length≤B):AC Tryz.prog 74 [cs s,cs [c]] [] (cb (decide (Lib.indexByte s c≥0))) []:=by
 have hb:(c.toNat:Int).toNat.toUInt8=c:=by simp
 have h1:AC Tryz.prog 142 [cs s,cs [c]] [] (ci (if [c]==s then 0 else Lib.indexByte s c)) []:=by
  refine AC.vc hP sh lv142 (Nat.le_refl _) (by simp) (by simp) (Eq.mpr (v142 ..) ?_);refine z03 (fun h=>absurd h (by simp)) (fun _=>z03 (fun h=>z2g (by simp [h])) (fun h=>z03 (fun _=>⟨⟨by omega,by simp⟩,_,zh1 s _,z2g ?_⟩) (fun h2=>absurd h2 (by simp))));rw [h];simp
 have h2:AC Tryz.prog 113 [cs s,cs [c]] [] (ci (if [c]==s then 0 else Lib.indexByte s c)) []:=by
  refine AC.vc hP sh lv113 (Nat.le_refl _) (by simp) (by simp) (Eq.mpr (v113 ..) ?_);exact ⟨_,h1,z2g rfl⟩
 refine AC.vc hP sh lv74 (Nat.le_refl _) (by simp) (by simp) (Eq.mpr (v74 ..) ?_);refine ⟨_,h2,z04 ?_⟩;by_cases e:[c]=s
 · subst e;simp [Lib.indexByte]
 · have:([c]==s)=false:=by simpa using e
   rw [this];simp
def zg (s:List UInt8):Bool:=zlv s&&((s.all fun c=>zio (c.toNat:Int))||((s.length:Int)==1&&decide (Lib.indexByte zjj (s.getD 0 0)≥0)))
theorem zq2 (s:List UInt8):AC Tryz.prog 34 [cs s] [] (cb (zg s)) []:=by
 refine AC.vc hP sh lv34 (Nat.le_refl _) (by simp) (by simp) (Eq.mpr (v34 ..) ?_);refine ⟨_,c_fits s,z03 (fun h=>⟨_,zmi s (by have:=ziu h;simp only [B];omega),z03 (fun h2=>z04 ?_) (fun h2=>z03 (fun h3=> ?_) (fun h3=>z04 ?_))⟩) (fun h=>z04 ?_)⟩
 · rw [z7q] at h2;simp only [zg,h,h2,Bool.true_and,Bool.true_or]
 · rw [z7q] at h2
   match s,h3 with
   | [c],h3=>
    refine ⟨_,zil zjj c (by simp [zjj,B]),z04 ?_⟩;simp only [zg,h,h2,h3,Bool.true_and,Bool.false_or,List.getD_cons_zero]
   | [],h3=>simp at h3
   | _::_::_,h3=>simp at h3;omega
 · rw [z7q] at h2;simp only [zg,h,h2,h3,Bool.false_and,Bool.false_or,Bool.and_false]
 · simp only [zg,h,Bool.false_and]
end Go.AM

set_option maxRecDepth 100000
open Go Go.Proofs
namespace Go.AM
mutual
def near (most:Int):Tm→Bool
 | .mk k _ n l=> !(k !=2&&(decide (n>most)||decide (n<0-most)))&&zj6 most l
def zj6 (most:Int):List Tm→Bool
 | []=>true
 | t::l=>near most t&&zj6 most l
end
theorem l_near (most:Int)(k:Int)(s:List UInt8)(n:Int):∀ (b a:List Tm),(∀ u∈b,AC Tryz.prog 18 [aT u,ci most] [] (cb (near most u)) [])→(a++b).length≤B→
  RPt Tryz.prog 18 0 (cb (zj6 most b)) [] 1 ⟨[(1,ci most),(2,(.c (.a (.ep 0 4 0 0)))),(5,ci a.length)],[(0,(.arr 4 [fzs (FT (.mk k s n (a++b)))]))],1⟩
 | [],a,_,hl=>by
  refine RPt.vc hP sh lv18 (Eq.mpr (v18_1a ..) ?_);exact ⟨rfl,z03 (fun h=>absurd (of_decide_eq_true h) (geI' a)) (fun _=>z04 rfl)⟩
 | t::b,a,ih,hl=>by
  refine RPt.vc hP sh lv18 (Eq.mpr (v18_1a ..) ?_);have hl':=hl;simp only [List.length_append,List.length_cons,B] at hl';refine ⟨rfl,z03 (fun _=> ?_) (fun h=>absurd (ltI' a t b) (of_decide_eq_false h))⟩;have h1:=ih t List.mem_cons_self;have h2:=l_near most k s n b (a++ [t]) (fun u hu=>ih u (List.mem_cons_of_mem _ hu)) (by rw [ap];exact hl);have h3:=ltI' a t b;rw [ap,nx] at h2;rw [midI,w64 (by omega) (by omega)];obtain ⟨k',s',n',l'⟩:=t;refine ⟨⟨rfl,by omega,h3,rfl⟩,_,h1,z03 (fun h=>z04 ?_) (fun h=> ?_)⟩
  · simp_all [zj6]
  · simp only [zj6,show near most (.mk k' s' n' l')=true by simpa using h,Bool.true_and];exact h2
theorem c_near (most:Int)(h0:0≤most)(h1:most≤4611686018427387904):∀ t:Tm,t.sz≤B→AC Tryz.prog 18 [aT t,ci most] [] (cb (near most t)) []:=by
 refine Tm.ind fun t ih hs=> ?_;obtain ⟨k,s,n,l⟩:=t;have hl:=Tm.szs_length l;simp only [Tm.sz,B] at hs;refine AC.vc hP sh lv18 (Nat.le_refl _) (by simp) (by simp) (Eq.mpr (v18 k s n (FTs l) most _ _) ?_);have key:=l_near most k s n l [] (fun u hu=>ih u hu (by have:=Tm.szs_mem hu;simp only [B];omega)) (by simp only [List.nil_append,B];omega);rw [w64 (by omega) (by omega)];rw [near];refine z03 (fun h=>z03 (fun h2=>z04 ?_) (fun h2=>z03 (fun h3=>z04 ?_) (fun h3=> ?_))) (fun h=> ?_)
 · simp only [h,h2,Bool.true_or,Bool.and_true,Bool.not_true,Bool.false_and]
 · simp only [h,h3,Bool.or_true,Bool.and_true,Bool.not_true,Bool.false_and]
 · simp only [h2,h3,Bool.or_false,Bool.and_false,Bool.not_false,Bool.true_and];exact key
 · simp only [h,Bool.false_and,Bool.not_false,Bool.true_and];exact key
mutual
def z7x:Tm→Int→Int
 | .mk _ _ _ l,most=>z88 l (most-1)
def z88:List Tm→Int→Int
 | [],n=>n
 | t::l,n=>if n≥0 then z88 l (z7x t n) else n
end
mutual
theorem zjt:∀ (t:Tm) (n:Int),z7x t n≤n-1∧(0≤n→ -1≤z7x t n)
 | .mk _ _ _ l,n=>by
  have h:=zf7 l (n-1);simp only [z7x];exact ⟨h.1,fun hn=>h.2 (by omega)⟩
theorem zf7:∀ (l:List Tm) (n:Int),z88 l n≤n∧(-1≤n→ -1≤z88 l n)
 | [],n=>by simp [z88]
 | t::l,n=>by
  have h1:=zjt t n;have h2:=zf7 l (z7x t n);simp only [z88];split
  · rename_i h;exact ⟨by omega,fun _=>h2.2 (h1.2 h)⟩
  · exact ⟨Int.le_refl _,fun h=>h⟩
end
theorem l_left (k:Int)(s:List UInt8)(n:Int):∀ (b a:List Tm) (m:Int),(∀ u∈b,∀ m:Int,0≤m→m≤4611686018427387904→AC Tryz.prog 42 [aT u,ci m] [] (ci (z7x u m)) [])→(a++b).length≤B→m≤4611686018427387904→
  RPt Tryz.prog 42 0 (ci (z88 b m)) [] 1 ⟨[(2,(.c (.a (.ep 0 4 0 0)))),(5,ci m),(6,ci a.length)],[(0,(.arr 4 [fzs (FT (.mk k s n (a++b)))]))],1⟩
 | [],a,m,_,hl,hm=>by
  refine RPt.vc hP sh lv42 (Eq.mpr (v42_1a ..) ?_);exact ⟨rfl,z03 (fun h=>absurd (of_decide_eq_true h) (geI' a)) (fun _=>z2g rfl)⟩
 | t::b,a,m,ih,hl,hm=>by
  refine RPt.vc hP sh lv42 (Eq.mpr (v42_1a ..) ?_);have hl':=hl;simp only [List.length_append,List.length_cons,B] at hl';refine ⟨rfl,z03 (fun _=>z03 (fun hm0=> ?_) (fun hm0=>z2g ?_)) (fun h=>absurd (ltI' a t b) (of_decide_eq_false h))⟩
  · have hm0:=of_decide_eq_true hm0;have h1:=ih t List.mem_cons_self m hm0 hm;have hle:=zjt t m;have h2:=l_left k s n b (a++ [t]) (z7x t m) (fun u hu=>ih u (List.mem_cons_of_mem _ hu)) (by rw [ap];exact hl) (by omega);have h3:=ltI' a t b;rw [ap,nx] at h2;rw [midI,w64 (by omega) (by omega)];simp only [z88,hm0,if_true];obtain ⟨k',s',n',l'⟩:=t;exact ⟨⟨rfl,by omega,h3,rfl⟩,_,h1,h2⟩
  · have hm0:=of_decide_eq_false hm0;simp only [z88,hm0,if_false]
theorem c_left:∀ t:Tm,t.sz≤B→∀ m:Int,0≤m→m≤4611686018427387904→AC Tryz.prog 42 [aT t,ci m] [] (ci (z7x t m)) []:=by
 refine Tm.ind fun t ih hs m h0 h1=> ?_;obtain ⟨k,s,n,l⟩:=t;have hl:=Tm.szs_length l;simp only [Tm.sz,B] at hs;refine AC.vc hP sh lv42 (Nat.le_refl _) (by simp) (by simp) (Eq.mpr (v42 k s n (FTs l) m _ _) ?_);rw [w64 (by omega) (by omega)];exact l_left k s n l [] (m-1) (fun u hu=>ih u hu (by have:=Tm.szs_mem hu;simp only [B];omega)) (by simp only [List.nil_append,B];omega) (by omega)
def zc2 (t:Tm)(most:Int):Bool:=decide (z7x t most<0)
theorem zns (t:Tm)(hs:t.sz≤B)(m:Int)(h0:0≤m)(h1:m≤4611686018427387904):AC Tryz.prog 17 [aT t,ci m] [] (cb (zc2 t m)) []:=by
 have h:=c_left t hs m h0 h1;obtain ⟨k,s,n,l⟩:=t;refine AC.vc hP sh lv17 (Nat.le_refl _) (by simp) (by simp) (Eq.mpr (v17 k s n (FTs l) m _ _) ?_);exact ⟨_,h,z04 rfl⟩
mutual
def z3a:Tm→Tm→Bool
 | .mk k s n l, .mk k' s' n' l'=>k==k'&&(s==s'&&(n==n'&&z3b l l'))
def z3b:List Tm→List Tm→Bool
 | [],[]=>true
 | t::l,u::m=>z3a t u&&z3b l m
 | _,_=>false
end
mutual
theorem zgg:∀ a b:Tm,z3a a b=true↔a=b
 | .mk k s n l, .mk k' s' n' l'=>by simp only [z3a,Bool.and_eq_true,beq_iff_eq,Tm.mk.injEq,zaz l l']
theorem zaz:∀ a b:List Tm,z3b a b=true↔a=b
 | [],[]=>by simp [z3b]
 | t::l,u::m=>by simp only [z3b,Bool.and_eq_true,List.cons.injEq,zgg t u,zaz l m]
 | [],_::_=>by simp [z3b]
 | _::_,[]=>by simp [z3b]
end
theorem z74:∀ {a b:List Tm},a.length≠b.length→z3b a b=false
 | [],[],h=>absurd rfl h
 | t::l,u::m,h=>by simp only [z3b,z74 (a:=l) (b:=m) (fun e=>h (by simp [e])),Bool.and_false]
 | [],_::_,_=>rfl
 | _::_,[],_=>rfl
theorem l_same (k:Int)(s:List UInt8)(n:Int)(k':Int)(s':List UInt8)(n':Int):∀ (b a b' a':List Tm),(∀ u∈b,∀ v∈b',AC Tryz.prog 26 [aT u,aT v] [] (cb (z3a u v)) [])→(a++b).length≤B→a.length=a'.length→b.length=b'.length→
  RPt Tryz.prog 26 0 (cb (z3b b b')) [] 1 ⟨[(2,(.c (.a (.ep 0 4 0 0)))),(3,(.c (.a (.ep 1 4 0 0)))),(5,ci a.length)],[(0,(.arr 4 [fzs (FT (.mk k s n (a++b)))])),(1,(.arr 4 [fzs (FT (.mk k' s' n' (a'++b')))]))],2⟩
 | [],a,[],a',_,hl,_,_=>by
  refine RPt.vc hP sh lv26 (Eq.mpr (v26_1a ..) ?_);exact ⟨rfl,z03 (fun h=>absurd (of_decide_eq_true h) (geI' a)) (fun _=>z04 rfl)⟩
 | t::b,a,u::b',a',ih,hl,ha,hb=>by
  refine RPt.vc hP sh lv26 (Eq.mpr (v26_1a ..) ?_);have hl':=hl;simp only [List.length_append,List.length_cons,B] at hl';refine ⟨rfl,z03 (fun _=> ?_) (fun h=>absurd (ltI' a t b) (of_decide_eq_false h))⟩;have h1:=ih t List.mem_cons_self u List.mem_cons_self;have h2:=l_same k s n k' s' n' b (a++ [t]) b' (a'++ [u]) (fun x hx y hy=>ih x (List.mem_cons_of_mem _ hx) y (List.mem_cons_of_mem _ hy)) (by rw [ap];exact hl) (by simp [ha]) (by simpa using hb);have h3:=ltI' a t b;have h4:=ltI' a' u b';rw [←ha] at h4;rw [ap,ap,nx] at h2;rw [midI,midI' a a' ha,w64 (by omega) (by omega)];obtain ⟨k1,s1,n1,l1⟩:=t;obtain ⟨k2,s2,n2,l2⟩:=u;refine ⟨⟨rfl,by omega,h3,rfl⟩,⟨rfl,by omega,h4,rfl⟩,_,h1,z03 (fun h=>z04 ?_) (fun h=> ?_)⟩
  · rw [z3b,show z3a (.mk k1 s1 n1 l1) (.mk k2 s2 n2 l2)=false by simpa using h,Bool.false_and]
  · rw [z3b,show z3a (.mk k1 s1 n1 l1) (.mk k2 s2 n2 l2)=true by simpa using h,Bool.true_and];exact h2
theorem znb:∀ a:Tm,a.sz≤B→∀ b:Tm,AC Tryz.prog 26 [aT a,aT b] [] (cb (z3a a b)) []:=by
 refine Tm.ind fun a ih hs b=> ?_;obtain ⟨k,s,n,l⟩:=a;obtain ⟨k',s',n',l'⟩:=b;have hl:=Tm.szs_length l;simp only [Tm.sz,B] at hs;refine AC.vc hP sh lv26 (Nat.le_refl _) (by simp) (by simp) (Eq.mpr (v26 k s n (FTs l) k' s' n' (FTs l') _ _) ?_);have key:=fun he=>l_same k s n k' s' n' l [] l' [] (fun u hu v _=>ih u hu (by have:=Tm.szs_mem hu;simp only [B];omega) v) (by simp only [List.nil_append,B];omega) rfl he;rw [lenI,lenI];refine z03 (fun h=>z04 ?_) (fun h=>z03 (fun h2=>z04 ?_) (fun h2=>z03 (fun h3=>z04 ?_) (fun h3=>⟨rfl,rfl,z03 (fun h4=>z04 ?_) (fun h4=> ?_)⟩)))
 · simp only [z3a,show (k==k')=false by simpa using h,Bool.false_and]
 · simp only [z3a,show (s==s')=false by simpa using h2,Bool.false_and,Bool.and_false]
 · simp only [z3a,show (n==n')=false by simpa using h3,Bool.false_and,Bool.and_false]
 · rw [z3a,z74 (by intro e;simp [e] at h4)];simp
 · simp only [z3a,show (k==k')=true by simpa using h,show (s==s')=true by simpa using h2,show (n==n')=true by simpa using h3,Bool.true_and]
   exact key (by have:(l.length:Int)=l'.length:=by simpa using h4
                 omega)
def Tm.inner (t:Tm):Bool:=t.k==5||t.k==6
def Tm.kids (t:Tm):List Tm:=if t.inner=true then t.l else []
def Tm.by (t:Tm):Int:=if t.k==5 then 1 else 0
end Go.AM

set_option maxRecDepth 100000
open Go Go.Proofs
namespace Go.AM
mutual
def zC:Cd→Prop
 | .mk nm _ _ _ _ ins=>nm.length≤B∧ins.length≤B∧zIs ins
def zIs:List In1→Prop
 | []=>True
 | .mk _ _ t l c::r=>(t.bk≤B∧Tm.bks l≤B∧c.length≤B∧zCs c)∧zIs r
def zCs:List Cd→Prop
 | []=>True
 | c::r=>zC c∧zCs r
end
theorem zao:∀ {l:List In1} {x:In1},zIs l→x∈l→x.t.bk≤B∧Tm.bks x.l≤B∧x.c.length≤B∧zCs x.c
 | .mk k a t q c::r,x,h,hm=>by
  rw [zIs] at h;rcases List.mem_cons.1 hm with rfl | hm
  · exact h.1
  · exact zao h.2 hm
theorem zht:∀ {l:List Cd} {d:Cd},zCs l→d∈l→zC d
 | c::r,d,h,hm=>by
  rw [zCs] at h;rcases List.mem_cons.1 hm with rfl | hm
  · exact h.1
  · exact zht h.2 hm
theorem zb2 {c:Cd}(h:zC c):c.nm.length≤B∧c.ins.length≤B∧zIs c.ins:=by cases c;rw [zC] at h;exact h
theorem zrc:∀ {l:List In1},(∀ x∈l,x.t.bk≤B∧Tm.bks x.l≤B∧x.c.length≤B∧zCs x.c)→zIs l
 | [],_=>by rw [zIs];trivial
 | .mk k a t q c::r,h=>by rw [zIs];exact ⟨h _ (List.mem_cons_self ..),zrc fun x hx=>h x (List.mem_cons_of_mem _ hx)⟩
theorem zpg:∀ {l:List Cd},(∀ d∈l,zC d)→zCs l
 | [],_=>by rw [zCs];trivial
 | c::r,h=>by rw [zCs];exact ⟨h _ (List.mem_cons_self ..),zpg fun x hx=>h x (List.mem_cons_of_mem _ hx)⟩
theorem zC_of:∀ c:Cd,c.sz≤B→zC c:=by
 refine Cd.ind fun c ih hz=> ?_;have z2:=In1.szs_length c.ins;have z3:In1.szs c.ins≤B∧c.nm.length≤B:=by cases c;simp only [Cd.sz,Cd.ins,Cd.nm,B] at*;omega
 have h:zIs c.ins:=zrc fun x hx=>by
  have a1:=In1.szs_mem hx;have a3:=Cd.szs_length x.c;have z4:x.t.bk≤B∧Tm.bks x.l≤B∧Cd.szs x.c≤B:=by cases x;simp only [In1.sz1,In1.t,In1.l,In1.c,B] at*;omega
  exact ⟨z4.1,z4.2.1,by omega,zpg fun d hd=>ih x hx d hd (by have a2:=Cd.szs_mem hd;omega)⟩
 cases c;rw [zC];exact ⟨z3.2,by simp only [Cd.ins] at z2 z3;omega,h⟩
theorem zrn (a:List Cd)(c:Cd)(b:List Cd):List.getD (FCs (a++c::b)) (Int.toNat (a.length:Int)) []=FC c:=by
 rw [show Int.toNat (a.length:Int)=a.length by omega,zay];simp [List.getD]
theorem zb1 (a:List In1)(c:In1)(b:List In1):List.getD (FIs (a++c::b)) (Int.toNat (a.length:Int)) []=FI c:=by
 rw [show Int.toNat (a.length:Int)=a.length by omega,z5z];simp [List.getD]
abbrev aCr (r:List FV):TV:= .agg [.a (.fz (.str (FV.S (List.getD r 0 FV.N)))), .a (.fz (.int .i64 (FV.I (List.getD r 1 FV.N)))), .a (.fz (.int .i64 (FV.I (List.getD r 2 FV.N)))), .a (.fz (.int .i64 (FV.I (List.getD r 3 FV.N)))), .a (.fz (.int .i64 (FV.I (List.getD r 4 FV.N)))), .a (.fz (List.getD r 5 FV.N))]
theorem zjz (c:Cd):aCr (FC c)=aC c:=by cases c;rw [FC];rfl
abbrev fCr (r:List FV):List FV:=[.str (FV.S (List.getD r 0 FV.N)), .int .i64 (FV.I (List.getD r 1 FV.N)), .int .i64 (FV.I (List.getD r 2 FV.N)), .int .i64 (FV.I (List.getD r 3 FV.N)), .int .i64 (FV.I (List.getD r 4 FV.N)),List.getD r 5 FV.N]
theorem fCr_FC (c:Cd):fCr (FC c)=FC c:=by cases c;rw [FC];rfl
abbrev fIr (r:List FV):List FV:=[.int .i64 (FV.I (List.getD r 0 FV.N)), .int .i64 (FV.I (List.getD r 1 FV.N)), .int .i64 (FV.I (List.getD r 2 FV.N)), .str (FV.S (List.getD r 3 FV.N)), .int .i64 (FV.I (List.getD r 4 FV.N)),List.getD r 5 FV.N,List.getD r 6 FV.N,List.getD r 7 FV.N]
theorem fIr_FI (x:In1):fIr (FI x)=FI x:=by cases x;rw [FI];rfl
theorem FI6 (x:In1):List.getD (FI x) 6 FV.N= .sl false 4 (FTs x.l):=by cases x;rw [FI];rfl
theorem FI7 (x:In1):List.getD (FI x) 7 FV.N= .sl false 6 (FCs x.c):=by cases x;rw [FI];rfl
theorem FI3 (x:In1):FV.S (List.getD (FI x) 3 FV.N)=x.t.s:=by cases x;rw [FI];rfl
theorem FI0 (x:In1):FV.I (List.getD (FI x) 0 FV.N)=x.k:=by cases x;rw [FI];rfl
theorem FI1 (x:In1):FV.I (List.getD (FI x) 1 FV.N)=x.a:=by cases x;rw [FI];rfl
abbrev cCd (c:Cd):List WV:=[.a (.fz (.str c.nm)), .a (.fz (.int .i64 c.ar)), .a (.fz (.int .i64 c.fr)), .a (.fz (.int .i64 c.vs)), .a (.fz (.int .i64 c.sl)), .a (.fz (.sl false 8 (FIs c.ins)))]
abbrev cIn (x:In1):List WV:=[.a (.fz (.int .i64 x.k)), .a (.fz (.int .i64 x.a)), .a (.fz (.int .i64 x.t.k)), .a (.fz (.str x.t.s)), .a (.fz (.int .i64 x.t.n)), .a (.fz (.sl false 4 (FTs x.t.l))), .a (.fz (.sl false 4 (FTs x.l))), .a (.fz (.sl false 6 (FCs x.c)))]
end Go.AM

set_option maxRecDepth 100000
open Go Go.Proofs
namespace Go.AM
def z70 (t:Tm):FV:=if t.inner=true then .sl false 4 (FTs t.l) else .N
theorem zof (t:Tm):(z70 t).ses=FTs t.kids∧(z70 t).L 4=true:=by
 unfold z70 Tm.kids;split<;>exact ⟨rfl,rfl⟩
theorem zdk (t:Tm):AC Tryz.prog 143 [aT t] [] (.tup [(false,[.a (.fz (z70 t))]),(false,[.a (.fz (.int .i64 t.by))])]) []:=by
 obtain ⟨k,s,n,l⟩:=t;refine AC.vc hP sh lv143 (Nat.le_refl _) (by simp) (by simp) (Eq.mpr (v143 k s n (FTs l) _ _) ?_);refine z03 (fun h=>⟨?_,rfl⟩) (fun h=>z03 (fun h2=>⟨?_,rfl⟩) (fun h2=>⟨?_,rfl⟩))
 · have e1:z70 (.mk k s n l)= .sl false 4 (FTs l):=by unfold z70 Tm.inner;simp only [Tm.k,h,Bool.true_or,if_true,Tm.l]
   have e2:Tm.by (.mk k s n l)=1:=by unfold Tm.by;simp only [Tm.k,h,if_true]
   rw [e1,e2];exact .refl _
 · have e1:z70 (.mk k s n l)= .sl false 4 (FTs l):=by unfold z70 Tm.inner;simp only [Tm.k,h2,Bool.or_true,if_true,Tm.l]
   have e2:Tm.by (.mk k s n l)=0:=by unfold Tm.by;simp only [Tm.k,h,Bool.false_eq_true,if_false]
   rw [e1,e2];exact .refl _
 · have e1:z70 (.mk k s n l)= .N:=by unfold z70 Tm.inner;simp only [Tm.k,h,h2,Bool.or_self,Bool.false_eq_true,if_false]
   have e2:Tm.by (.mk k s n l)=0:=by unfold Tm.by;simp only [Tm.k,h,Bool.false_eq_true,if_false]
   rw [e1,e2];exact .refl _
mutual
def bd (M:Int):Tm→Prop
 | .mk k _ n l=>(k=3→0-M≤n∧n≤M)∧bds M l
def bds (M:Int):List Tm→Prop
 | []=>True
 | t::l=>bd M t∧bds M l
end
theorem z3z {M:Int}:∀ {l:List Tm} {t:Tm},bds M l→t∈l→bd M t
 | x::l,t,h,ht=>by
  rcases List.mem_cons.1 ht with rfl | ht
  · exact h.1
  · exact z3z h.2 ht
theorem bd_l {M:Int}{t:Tm}(h:bd M t):bds M t.l:=by cases t;exact h.2
def maxI (a b:Int):Int:=if a≤b then b else a
theorem foldMax2 (a b:Int):z8f [a,b]=maxI a b:=by
 simp only [z8f,List.foldl,maxI,max]
mutual
def z3u:Tm→Int→Int→Int
 | .mk kd _ n l,k,acc=>if (kd==5)=true then z8u l (k+1) acc else if (kd==6)=true then z8u l k acc else if (kd==3)=true then maxI acc (n-k+1) else acc
def z8u:List Tm→Int→Int→Int
 | [],_,acc=>acc
 | t::l,k,acc=>z8u l k (z3u t k acc)
end
abbrev obj1 (n:Int):AObj:= .arr 1 [[.a (.fz (.int .i64 n))]]
theorem c_loose1 (u:Tm)(k acc:Int)(hb:u.k=3→0-2305843009213693952≤u.n∧u.n≤2305843009213693952)(h0:0≤k)(h1:k≤2305843009213693952):
  AC Tryz.prog 116 [aT u,ci k, .c (.a (.ep 0 1 0 0))] [obj1 acc] (.tup []) [obj1 (if (u.k==3)=true then maxI acc (u.n-k+1) else acc)]:=by
 obtain ⟨kd,s,n,l⟩:=u;simp only [Tm.k,Tm.n] at hb;refine AC.vc hP sh lv116 (Nat.le_refl _) (by simp [isLive]) (by simp) (Eq.mpr (v116 kd s n (FTs l) k acc _ _) ?_);refine z03 (fun h=>⟨.refl _, ?_⟩) (fun h=>⟨.refl _, ?_⟩)
 · have hk:kd=3:=by simpa using h
   have:=hb hk;rw [w64 (x:=n-k) (by omega) (by omega),w64 (x:=n-k+1) (by omega) (by omega),foldMax2];simp only [Tm.k,Tm.n,h,if_true]
 · simp only [Tm.k,h,Bool.false_eq_true,if_false]
abbrev tellL:TV:= .c (.fn (.func 116) [] [(false,[.ep 0 1 0 0])])
theorem l_each (k by_:Int)(h0:0≤k)(hby:0≤by_)(hby1:by_≤1):∀ (b a:List Tm) (v:FV) (acc:Int),v.ses=FTs (a++b)→v.L 4=true→
  (∀ u∈b,∀ acc,AC Tryz.prog 115 [aT u,ci (k+by_),tellL] [obj1 acc] (.tup []) [obj1 (z3u u (k+by_) acc)])→(a++b).length≤B→k≤2305843009213693952→
  RPt Tryz.prog 115 1 (.tup []) [obj1 (z8u b (k+by_) acc)] 1 ⟨[(1,ci k),(2,tellL),(7,ci by_),(27, .c (.a (.fz v))),(28,ci (a++b).length),(29,ci a.length)],[(0,obj1 acc)],1⟩
 | [],a,v,acc,hv,hs,_,hl,hk=>by
  refine RPt.vc hP sh zq3 (Eq.mpr (z8q ..) ?_);exact z03 (fun h=>absurd (of_decide_eq_true h) (by simp)) (fun _=>⟨.refl _,rfl⟩)
 | t::b,a,v,acc,hv,hs,ih,hl,hk=>by
  refine RPt.vc hP sh zq3 (Eq.mpr (z8q ..) ?_);have hl':=hl;simp only [List.length_append,List.length_cons,B] at hl';have h1:=ih t List.mem_cons_self acc;have h2:=l_each k by_ h0 hby hby1 b (a++ [t]) v (z3u t (k+by_) acc) (by rw [ap];exact hv) hs (fun u hu=>ih u (List.mem_cons_of_mem _ hu)) (by rw [ap];exact hl) hk;have h3:=ltI' a t b;rw [ap,nx] at h2;rw [hv,midI,w64 (x:=(a.length:Int)+1) (by omega) (by omega),w64 (x:=k+by_) (by omega) (by omega)];refine z03 (fun _=> ?_) (fun h=>absurd (ltI a t b) (of_decide_eq_false h));obtain ⟨k',s',n',l'⟩:=t;exact ⟨⟨hs,by omega,h3,rfl⟩, .inl ⟨_,h1,h2⟩⟩
theorem c_each:∀ t:Tm,t.sz≤B→bd 2305843009213693952 t→∀ k acc:Int,0≤k→k+t.sz≤2305843009213693952→AC Tryz.prog 115 [aT t,ci k,tellL] [obj1 acc] (.tup []) [obj1 (z3u t k acc)]:=by
 refine Tm.ind fun t ih hs hb k acc h0 h1=> ?_;have hw:=zdk t;have hk:=zof t;have hlen:=Tm.szs_length t.l;obtain ⟨kd,s,n,l⟩:=t;simp only [Tm.sz,B,Tm.l] at hs hlen;simp only [Tm.sz] at h1
 have key:∀ by_:Int,0≤by_→by_≤1→Tm.kids (.mk kd s n l)=l→RPt Tryz.prog 115 1 (.tup []) [obj1 (z8u l (k+by_) acc)] 1 ⟨[(1,ci k),(2,tellL),(7,ci by_),(27, .c (.a (.fz (z70 (.mk kd s n l))))),(28,ci l.length),(29,ci 0)],[(0,obj1 acc)],1⟩:=by
  intro by_ hb0 hb1 hkids;have:=l_each k by_ h0 hb0 hb1 l [] (z70 (.mk kd s n l)) acc (by rw [hk.1,hkids];rfl) hk.2 (fun u hu acc=>ih u hu (by have:=Tm.szs_mem hu;simp only [B];omega) (z3z hb.2 hu) (k+by_) acc (by omega) (by have:=Tm.szs_mem hu;omega)) (by simp only [List.nil_append,B];omega) (by omega);simpa using this
 refine AC.vc hP sh zq3 (Nat.le_refl _) (by simp [isLive]) (by simp) (Eq.mpr (zq0 kd s n (FTs l) k acc _ _) ?_);refine z03 (fun h=>z03 (fun h2=>⟨_,c_loose1 (.mk kd s n l) k acc hb.1 h0 (by omega), .refl _, ?_⟩) (fun h2=>⟨_,_,hw,hk.2, ?_⟩)) (fun h=>⟨_,_,hw,hk.2, ?_⟩)
 · have e1:(kd==5)=false:=by simpa using h
   have e2:(kd==6)=false:=by simpa using h2
   simp only [z3u,Tm.k,Tm.n,e1,e2,Bool.false_eq_true,if_false];rfl
 · have e1:(kd==5)=false:=by simpa using h
   have e2:(kd==6)=true:=by simpa using h2
   have ek:Tm.kids (.mk kd s n l)=l:=by unfold Tm.kids Tm.inner;simp only [Tm.k,e2,Bool.or_true,if_true,Tm.l]
   have:=key 0 (by omega) (by omega) ek;rw [hk.1,ek,lenI,show Tm.by (.mk kd s n l)=0 by unfold Tm.by;simp only [Tm.k,e1,Bool.false_eq_true,if_false]];simp only [z3u,e1,e2,Bool.false_eq_true,if_false,if_true];simpa using this
 · have e1:(kd==5)=true:=by simpa using h
   have ek:Tm.kids (.mk kd s n l)=l:=by unfold Tm.kids Tm.inner;simp only [Tm.k,e1,Bool.true_or,if_true,Tm.l]
   have:=key 1 (by omega) (by omega) ek;rw [hk.1,ek,lenI,show Tm.by (.mk kd s n l)=1 by unfold Tm.by;simp only [Tm.k,e1,if_true]];simp only [z3u,e1,if_true];exact this
theorem zpq (t:Tm)(hs:t.sz≤B)(hb:bd 2305843009213693952 t):AC Tryz.prog 78 [aT t] [] (ci (z3u t 0 0)) []:=by
 have h:=c_each t hs hb 0 0 (Int.le_refl _) (by simp only [B] at hs;omega);refine AC.vc hP sh lv78 (Nat.le_refl _) (by simp) (by simp) (Eq.mpr (v78 ..) ?_);exact .inl ⟨_,h,z2g rfl⟩
end Go.AM

set_option maxRecDepth 100000
open Go Go.Proofs
namespace Go.AM
theorem c_grow (n:Int)(h0:0≤n)(h1:n≤2199023255552):(n=0→AC Tryz.prog 85 [.c (.a (.fz .N)),ci n] [] (.c (.a (.fz .N))) [])∧
  (n≠0→AC Tryz.prog 85 [.c (.a (.fz .N)),ci n] [] (.c (.a (.osl 0 4 0 0))) [.arz 4 []]):=by
 constructor
 · intro hn;refine AC.vc hP sh lv85 (Nat.le_refl _) (by simp) (by simp) (Eq.mpr (v85 ..) ?_);refine z03 (fun h=>absurd (of_decide_eq_true h) (by omega)) (fun _=>⟨rfl,z03 (fun h=> ?_) (fun _=>zc8 (.refl _))⟩);rw [w64 (by omega) (by omega)] at h;exact absurd (of_decide_eq_true h) (by omega)
 · intro hn;refine AC.vc hP sh lv85 (by simp) (by simp) (by simp [isLive]) (Eq.mpr (v85 ..) ?_);rw [w64 (by omega) (by omega)];refine z03 (fun h=>absurd (of_decide_eq_true h) (by omega)) (fun _=>⟨rfl,z03 (fun h=>⟨rfl,⟨by omega,by omega,by omega⟩,⟨by omega,by unfold z0x;omega⟩,rfl,⟨by omega,by omega,by omega⟩, .refl _,rfl⟩) (fun h=>absurd (of_decide_eq_false h) (by omega))⟩)
def FLs (ls:List (List Tm)):List (List FV):=ls.map fun l=> [.sl false 4 (FTs l)]
def z45 (ls:List (List Tm)):Nat:=(ls.map List.length).foldr (· + ·) 0
theorem z85 (ls:List (List Tm)):(FLs ls).length=ls.length:=by simp [FLs]
theorem midL (a:List (List Tm))(l:List Tm)(b:List (List Tm)):List.getD (FLs (a++l::b)) (Int.toNat (a.length:Int)) []=[.sl false 4 (FTs l)]:=by
 rw [show Int.toNat (a.length:Int)=a.length by omega];simp [List.getD,FLs]
theorem ltL (a:List (List Tm))(t:List Tm)(b:List (List Tm)):(a.length:Int)<(((FLs (a++t::b)).length:Nat):Int):=by rw [z85];exact ltI a t b
theorem zfn (a:List (List Tm))(l:List Tm)(b:List (List Tm)):z45 (a++l::b)=z45 a+l.length+z45 b:=by
 induction a with
 | nil=>simp [z45]
 | cons x a ih=>simp only [z45,List.cons_append,List.map_cons,List.foldr_cons] at ih ⊢;omega
theorem zmn (a:List (List Tm))(l:List Tm):z45 (a++ [l])=z45 a+l.length:=by rw [zfn];simp [z45]
abbrev aLs (ls:List (List Tm)):TV:= .c (.a (.fz (.sl false 1 (FLs ls))))
theorem zir {n:Nat}(h:n≤2199023255552):z0x n 56:=by unfold z0x;omega
theorem zoq:∀ (b a:List (List Tm)) (acc:List Tm),acc.length+z45 b≤2199023255552→(a++b).length≤B→
  RPt Tryz.prog 41 0 (aL (acc++b.flatten)) [] 5 ⟨[(6,(.c (.a (.osl 0 4 0 acc.length)))),(25,aLs (a++b)),(26,ci (a++b).length),(27,ci a.length)],[(0,(.arz 4 (FTs acc)))],1⟩
 | [],a,acc,ht,hl=>by
  refine RPt.vc hP sh lv41 (Eq.mpr (v41_5b ..) ?_);refine z03 (fun h=>absurd (of_decide_eq_true h) (by simp)) (fun _=>⟨⟨rfl,by rw [z02];omega⟩,zc8 ?_⟩);rw [List.drop_zero,List.take_of_length_le (by rw [z02];omega),List.flatten_nil,List.append_nil];exact le_c leSl
 | l::b,a,acc,ht,hl=>by
  refine RPt.vc hP sh lv41 (Eq.mpr (v41_5b ..) ?_);have hl':=hl;have h3:=ltL a l b;simp only [List.length_append,List.length_cons,B] at hl';have ht':acc.length+(l.length+z45 b)≤2199023255552:=by simpa [z45] using ht
  have h2:=zoq b (a++ [l]) (acc++l) (by rw [List.length_append];omega) (by rw [ap];exact hl);rw [ap,nx] at h2;rw [midL,w64 (by omega) (by omega)];refine z03 (fun _=>⟨⟨rfl,by omega,h3,rfl⟩,rfl,⟨by rw [z02];omega, ?_⟩, ?_⟩) (fun h=>absurd (ltI a l b) (of_decide_eq_false h))
  · show z0x (acc.length+(FTs l).length) 56;rw [z02];exact zir (by omega)
  · show RPt _ _ _ _ _ _ ⟨[(6,(.c (.a (.osl 0 4 0 (acc.length+(FTs l).length))))),_,_,_],[(0, .arz 4 (List.take acc.length (FTs acc)++FTs l))],1⟩;rw [List.take_of_length_le (by rw [z02];omega),←z3r,z02,←List.length_append];rw [show acc++(l::b).flatten=acc++l++b.flatten by simp];exact h2
theorem l_cat2:∀ (b a:List (List Tm)),z45 b≤2199023255552→(a++b).length≤B→
  RPt Tryz.prog 41 0 (aL b.flatten) [] 5 ⟨[(6,(.c (.a (.fz .N)))),(25,aLs (a++b)),(26,ci (a++b).length),(27,ci a.length)],[],0⟩
 | [],a,ht,hl=>by
  refine RPt.vc hP sh lv41 (Eq.mpr (v41_5a ..) ?_);refine z03 (fun h=>absurd (of_decide_eq_true h) (by simp)) (fun _=>zc8 (le_c z3i))
 | l::b,a,ht,hl=>by
  refine RPt.vc hP sh lv41 (Eq.mpr (v41_5a ..) ?_);have hl':=hl;have h3:=ltL a l b;simp only [List.length_append,List.length_cons,B] at hl';have ht':l.length+z45 b≤2199023255552:=by simpa [z45] using ht
  rw [midL,w64 (by omega) (by omega)];refine z03 (fun _=>⟨⟨rfl,by omega,h3,rfl⟩,rfl, ?_⟩) (fun h=>absurd (ltI a l b) (of_decide_eq_false h));show br (List.isEmpty (FTs l)) _ _;refine z03 (fun he=> ?_) (fun he=>⟨?_, ?_⟩)
  · have h2:=l_cat2 b (a++ [l]) (by omega) (by rw [ap];exact hl);rw [ap,nx] at h2
    have hnil:l=[]:=by cases l with
     | nil=>rfl
     | cons x l=>simp [FTs] at he
    rw [show (l::b).flatten=b.flatten by rw [hnil];simp];exact h2
  · show z0x (FTs l).length 56;rw [z02];exact zir (by omega)
  · have h2:=zoq b (a++ [l]) l (by omega) (by rw [ap];exact hl);rw [ap,nx] at h2;show RPt _ _ _ _ _ _ ⟨[(6,(.c (.a (.osl 0 4 0 (FTs l).length)))),_,_,_],[(0, .arz 4 (FTs l))],1⟩;rw [z02,List.flatten_cons];exact h2
theorem l_cat1:∀ (b a:List (List Tm)),z45 (a++b)≤2199023255552→(a++b).length≤B→
  RPt Tryz.prog 41 0 (aL (a++b).flatten) [] 1 ⟨[(0,aLs (a++b)),(3,ci (z45 a)),(9,aLs (a++b)),(10,ci (a++b).length),(11,ci a.length)],[],0⟩
 | [],a,ht,hl=>by
  refine RPt.vc hP sh lv41 (Eq.mpr (v41_1a ..) ?_);have hg:=c_grow (z45 a:Int) (by omega) (by simp only [List.append_nil] at ht;omega);refine z03 (fun h=>absurd (of_decide_eq_true h) (by simp)) (fun _=> ?_);have e:(((FLs (a++ [])).length:Nat):Int)=(((a++ []).length:Nat):Int):=by rw [z85]
  rw [e];by_cases hz:z45 a=0
  · have h2:=l_cat2 (a++ []) [] (by simpa using ht) (by simpa using hl);exact .inl ⟨(),hg.1 (by omega),rfl,by simpa using h2⟩
  · have h2:=zoq (a++ []) [] [] (by simpa using ht) (by simpa using hl);exact .inr ⟨(),hg.2 (by omega),rfl,by simpa [FTs] using h2⟩
 | l::b,a,ht,hl=>by
  refine RPt.vc hP sh lv41 (Eq.mpr (v41_1a ..) ?_);have hl':=hl;have ht':=ht;have h3:=ltL a l b;rw [zfn] at ht';simp only [List.length_append,List.length_cons,B] at hl';have h2:=l_cat1 b (a++ [l]) (by rw [ap];exact ht) (by rw [ap];exact hl);rw [ap,nx,zmn] at h2;rw [midL,w64 (x:=(a.length:Int)+1) (by omega) (by omega)];refine z03 (fun _=>⟨⟨rfl,by omega,h3,rfl⟩,rfl, ?_⟩) (fun h=>absurd (ltI a l b) (of_decide_eq_false h));show br (decide (IntKind.wrap .i64 ((z45 a:Int)+(((FTs l).length:Nat):Int))<0)) _ (RPt _ _ _ _ _ _ ⟨[_,(3,ci (IntKind.wrap .i64 ((z45 a:Int)+(((FTs l).length:Nat):Int)))),_,_,_],_,_⟩);rw [z02,w64 (by omega) (by omega)];refine z03 (fun h=>absurd (of_decide_eq_true h) (by omega)) (fun _=> ?_);simpa using h2
theorem c_concat (ls:List (List Tm))(ht:z45 ls≤2199023255552)(hl:ls.length≤B):AC Tryz.prog 41 [aLs ls] [] (aL ls.flatten) []:=by
 refine AC.vc hP sh lv41 (Nat.le_refl _) (by simp) (by simp) (Eq.mpr (v41 ..) ?_);have:=l_cat1 ls [] (by simpa using ht) (by simpa using hl);have e:(((FLs ls).length:Nat):Int)=((ls.length:Nat):Int):=by rw [z85]
 rw [e];exact ⟨rfl,by simpa [z45] using this⟩
theorem zbs {x y:FV}{l m:List Tm}(hx:FV.Le x (.sl false 4 (FTs l)))(hy:FV.Le y (.sl false 4 (FTs m)))(ht:l.length+m.length≤2199023255552):AC Tryz.prog 41 [.c (.a (.fz (.sl false 1 [[x],[y]])))] [] (aL (l++m)) []:=by
 have h:=c_concat [l,m] (by simpa [z45] using ht) (by simp [B]);rw [show [l,m].flatten=l++m by simp] at h;refine h.args ⟨le_c (.trans _ _ _ (.rows false 1 _ (FLs [l,m]) rfl (fun i e e' he he'=> ?_) (fun i j e e' f f' he he' hf hf'=> ?_)) (.nn _ _ _)),trivial⟩
 · match i,he,he' with
   | 0,he,he'=>simp [FLs] at he he';subst he;subst he';rfl
   | 1,he,he'=>simp [FLs] at he he';subst he;subst he';rfl
   | i+2,he,he'=>simp at he
 · match i,he,he' with
   | 0,he,he'=>
    simp [FLs] at he he';subst he;subst he'
    match j,hf,hf' with
    | 0,hf,hf'=>simp at hf hf';subst hf;subst hf';exact hx
    | j+1,hf,hf'=>simp at hf
   | 1,he,he'=>
    simp [FLs] at he he';subst he;subst he'
    match j,hf,hf' with
    | 0,hf,hf'=>simp at hf hf';subst hf;subst hf';exact hy
    | j+1,hf,hf'=>simp at hf
   | i+2,he,he'=>simp at he
def z2e (f:Tm)(args:List Tm):Tm:=
 match args with
 | []=>f
 | _=>if (f.k==6)=true∧f.l ≠ [] then .mk 6 [] 0 (f.l++args) else .mk 6 [] 0 (f::args)
theorem z4z (f:Tm)(args:List Tm)(h:f.l.length+args.length<2199023255552):AC Tryz.prog 16 [aT f,aL args] [] (aT (z2e f args)) []:=by
 obtain ⟨k,s,n,l⟩:=f;simp only [Tm.l] at h;refine AC.vc hP sh lv16 (Nat.le_refl _) (by simp) (by simp) (Eq.mpr (v16 k s n (FTs l) (FTs args) _ _) ?_);refine ⟨rfl,z03 (fun h1=> ?_) (fun h1=> ?_)⟩
 · have:args=[]:=by cases args with
    | nil=>rfl
    | cons x l=>simp [FTs] at h1;omega
   subst this;exact zc8 (.refl _)
 · match args,h1,h with
   | [],h1,_=>simp [FTs] at h1
   | a::r,h1,h=>
    have one:FV.Le (.sl false 4 [[.int .i64 k, .str s, .int .i64 n, .sl false 4 (FTs l)]]) (.sl false 4 (FTs [.mk k s n l])):= .nn _ _ _;have same:∀ l:List Tm,FV.Le (.sl false 4 (FTs l)) (.sl false 4 (FTs l)):=fun _=> .refl _
    refine z03 (fun h2=>⟨rfl,z03 (fun h3=>⟨⟨rfl,by omega⟩,_,zbs (same l) (same (a::r)) (by omega),zc8 ?_⟩) (fun h3=>⟨⟨rfl,by omega⟩,⟨rfl,by omega⟩,_,zbs one (same (a::r)) (by simp only [List.length_cons,List.length_nil] at h ⊢;omega),zc8 ?_⟩)⟩)
     (fun h2=>⟨⟨rfl,by omega⟩,⟨rfl,by omega⟩,_,zbs one (same (a::r)) (by simp only [List.length_cons,List.length_nil] at h ⊢;omega),zc8 ?_⟩)
    · have hl:l ≠ []:=by intro e;subst e;simp [FTs] at h3
      rw [show z2e (.mk k s n l) (a::r)= .mk 6 [] 0 (l++a::r) from if_pos ⟨h2,hl⟩];exact .refl _
    · have hl:l=[]:=by cases l with
       | nil=>rfl
       | cons x l=>simp [FTs] at h3
      rw [show z2e (.mk k s n l) (a::r)= .mk 6 [] 0 (.mk k s n l::a::r) from if_neg (fun e=>e.2 hl)];exact .refl _
    · rw [show z2e (.mk k s n l) (a::r)= .mk 6 [] 0 (.mk k s n l::a::r) from if_neg (fun e=>by have:=e.1;simp only [Tm.k,h2] at this;cases this)];exact .refl _
end Go.AM

set_option maxRecDepth 100000
open Go Go.Proofs
namespace Go.AM
def z2f (t:Tm)(out:List Tm):Tm:=
 if (t.k==6)=true∧1<out.length∧((out.headD default).k==6)=true∧((t.l.headD default).k !=6)=true then z2e (out.headD default) out.tail else .mk t.k t.s t.n out
mutual
def z0a (lf:Tm→Int→Tm):Tm→Int→Tm
 | .mk k s n l,d=>if (k==5||k==6)=true then z2f (.mk k s n l) (z08 lf l (d+if (k==5)=true then 1 else 0)) else lf (.mk k s n l) d
def z08 (lf:Tm→Int→Tm):List Tm→Int→List Tm
 | [],_=> []
 | t::l,d=>z0a lf t d::z08 lf l d
end
abbrev cloSh:TV:= .agg [.fn (.func 135) [] [(false,[.ep 0 1 0 0]),(false,[.ep 1 1 0 0])]]
abbrev stSh (fr by1:Int)(k by_:Int)(kd:Int)(s:List UInt8)(n:Int)(l:List Tm)(w:AV)(i:Nat)(h:AHeap)(nx:Nat):St:=
 ⟨[(2,ci k),(3, .c (.a (.ep 2 1 0 0))),(4, .c (.a (.ep 3 4 0 0))),(6, .c (.a (.ep 4 4 0 0))),(7,aL l),(8,ci by_),(9, .c (.a w)),(30,aL l),(31,ci l.length),(32,ci i)],
  [(0,(obj1 fr)),(1,(obj1 by1)),(2, .arr 1 [[.fn (.func 135) [] [(false,[.ep 0 1 0 0]),(false,[.ep 1 1 0 0])]]]),(3, .arr 4 [fzs (FT (.mk kd s n l))]),(4, .arr 4 [[.a (.fz (.int .i64 0)), .a (.fz (.str [])), .a (.fz (.int .i64 0)), .a (.fz .N)]])]++h,nx⟩
theorem l_w2Sh (fr by1:Int)(lf:Tm→Int→Tm)(k by_:Int)(h0:0≤k)(hk:k≤2305843009213693952)(hb0:0≤by_)(hb1:by_≤1)(kd:Int)(s:List UInt8)(n:Int)(hin:(kd==5||kd==6)=true):
  ∀ (b a acc:List Tm),acc ≠ []→acc.length=a.length→(a++b).length≤B→(∀ u∈acc++z08 lf b (k+by_),u.l.length≤2*B)→
  (∀ u∈b,AC Tryz.prog 134 [cloSh,aT u,ci (k+by_)] [(obj1 fr),(obj1 by1)] (aT (z0a lf u (k+by_))) [(obj1 fr),(obj1 by1)])→
  RPt Tryz.prog 134 2 (aT (z2f (.mk kd s n (a++b)) (acc++z08 lf b (k+by_)))) [(obj1 fr),(obj1 by1)] 1 (stSh fr by1 k by_ kd s n (a++b) (.osl 5 4 0 acc.length) a.length [(5, .arz 4 (FTs acc))] 6)
 | [],a,acc,hne,hlen,hl,hw,_=>by
  refine RPt.vc hP sh z6d (Eq.mpr (z91 ..) ?_)
  match acc,a,hne,hlen with
  | o::r,u::a',_,hlen=>
  have e1:List.take (o::r).length (List.drop 0 (FTs (o::r)))=FTs (o::r):=by rw [List.drop_zero,List.take_of_length_le (by rw [z02];omega)]
  have e2:(0:Nat)+(o::r).length≤(FTs (o::r)).length:=by rw [z02];omega
  have hrest:∀ (k':Int) (s':List UInt8) (n':Int),TV.Le (.agg [.a (.fz (.int .i64 k')), .a (.fz (.str s')), .a (.fz (.int .i64 n')), .a (.fz (.sl false 4 (List.take (o::r).length (List.drop 0 (FTs (o::r))))))]) (aT (.mk k' s' n' (o::r))):=fun k' s' n'=>by rw [e1];exact leT leSl
  refine z03 (fun h=>absurd (of_decide_eq_true h) (by simp)) (fun _=>z03 (fun h6=>z03 (fun h1=>⟨⟨by omega,by simp⟩,⟨by rw [z02];simp,by cases o;rfl,rfl⟩,z03 (fun ho=>⟨⟨rfl,by omega,by rw [List.append_nil];show (0:Int)<(((FTs (u::a')).length:Nat):Int);rw [z02];simp,by cases u;rfl⟩,z03 (fun hu=> ?_) (fun hu=>⟨⟨rfl,e2⟩, ?_,rfl⟩)⟩) (fun ho=>⟨⟨rfl,e2⟩, ?_,rfl⟩)⟩) (fun h1=>⟨⟨rfl,e2⟩, ?_,rfl⟩)) (fun h6=>⟨⟨rfl,e2⟩, ?_,rfl⟩))
  ·
   have hap:=z4z o r (by
    have:=hw o (by simp);simp only [List.length_cons,List.length_append,List.length_nil,B] at hl hlen this ⊢;omega)
   have e3:z2f (.mk kd s n (u::a'++ [])) (o::r++z08 lf [] (k+by_))=z2e o r:=by
    have c1:1<(o::r++z08 lf [] (k+by_)).length:=by have:=of_decide_eq_true h1;simp only [z08,List.append_nil];omega
    have c2:(o.k==6)=true:=by cases o;exact ho
    have c3:(u.k !=6)=true:=by cases u;exact hu
    unfold z2f;rw [if_pos ⟨h6,c1,c2,c3⟩];simp [z08]
   have e4:List.take (Int.toNat ((o::r).length:Int)-1) (List.drop 1 (FTs (o::r)))=FTs r:=by
    rw [show Int.toNat ((o::r).length:Int)-1=r.length by simp only [List.length_cons];omega];show List.take r.length (FTs r)=FTs r;rw [List.take_of_length_le (by rw [z02];omega)]
   have e5:(1:Nat)+(Int.toNat ((o::r).length:Int)-1)≤(FTs (o::r)).length:=by rw [z02];simp only [List.length_cons];omega
   rw [e3];refine ⟨⟨by omega,by simp⟩,⟨by rw [z02];simp,by cases o;rfl,rfl⟩,⟨by omega,by simp;omega,by omega⟩,⟨rfl,e5⟩, ?_⟩;rw [e4];obtain ⟨k1,s1,n1,l1⟩:=o;exact ⟨_,hap.args ⟨.refl _,le_c leSl,trivial⟩, .refl _,rfl⟩
  · have e3:z2f (.mk kd s n (u::a'++ [])) (o::r++z08 lf [] (k+by_))= .mk kd s n (o::r):=by
     simp only [z08,List.append_nil]
     exact if_neg fun e=>by
      have hu':(u.k !=6)=false:=by cases u;exact hu
      have:(u.k !=6)=true:=e.2.2.2;rw [hu'] at this;cases this
    rw [e3];exact hrest _ _ _
  · have e3:z2f (.mk kd s n (u::a'++ [])) (o::r++z08 lf [] (k+by_))= .mk kd s n (o::r):=by
     simp only [z08,List.append_nil]
     exact if_neg fun e=>by
      have ho':(o.k==6)=false:=by cases o;exact ho
      have:(o.k==6)=true:=e.2.2.1;rw [ho'] at this;cases this
    rw [e3];exact hrest _ _ _
  · have e3:z2f (.mk kd s n (u::a'++ [])) (o::r++z08 lf [] (k+by_))= .mk kd s n (o::r):=by
     simp only [z08,List.append_nil];exact if_neg fun e=>by have:=e.2.1;have:=of_decide_eq_false h1;omega
    rw [e3];exact hrest _ _ _
  · have e3:z2f (.mk kd s n (u::a'++ [])) (o::r++z08 lf [] (k+by_))= .mk kd s n (o::r):=by
     simp only [z08,List.append_nil]
     exact if_neg fun e=>by
      have h6':(kd==6)=false:=h6;have:(kd==6)=true:=e.1;rw [h6'] at this;cases this
    rw [e3];exact hrest _ _ _
 | t::b,a,acc,hne,hlen,hl,hw,ih=>by
  refine RPt.vc hP sh z6d (Eq.mpr (z91 ..) ?_);have hl':=hl;simp only [List.length_append,List.length_cons,B] at hl';have h1:=ih t List.mem_cons_self
  have h2:=l_w2Sh fr by1 lf k by_ h0 hk hb0 hb1 kd s n hin b (a++ [t]) (acc++ [z0a lf t (k+by_)]) (by simp) (by simp [hlen]) (by rw [ap];exact hl)
   (by rw [List.append_assoc];simpa [z08] using hw) (fun u hu=>ih u (List.mem_cons_of_mem _ hu))
  have h3:=ltI' a t b;unfold stSh at h2;rw [ap,show (((a++ [t]).length:Nat):Int)=(a.length:Int)+1 from nx a t] at h2;show br (decide ((a.length:Int)<(((a++t::b).length:Nat):Int))) ((FV.L 4 (.sl false 4 (FTs (a++t::b)))=true∧_∧_∧_)∧_) _;refine z03 (fun _=> ?_) (fun h=>absurd (ltI a t b) (of_decide_eq_false h));have hm:=midI a t b;rw [show FV.ses (.sl false 4 (FTs (a++t::b)))=FTs (a++t::b) from rfl,hm,w64 (x:=(a.length:Int)+1) (by omega) (by omega),w64 (x:=k+by_) (by omega) (by omega)];obtain ⟨k',s',n',l'⟩:=t;refine ⟨⟨rfl,by omega,h3,rfl⟩,_,h1,Nat.le_refl _,⟨by rw [z02];omega,zir (by omega)⟩, ?_⟩;have e5:List.take acc.length (FTs acc)++FTs [z0a lf (.mk k' s' n' l') (k+by_)]=FTs (acc++ [z0a lf (.mk k' s' n' l') (k+by_)]):=by rw [List.take_of_length_le (by rw [z02];omega),←z3r]
  have e6:FTs [z0a lf (.mk k' s' n' l') (k+by_)]=[[.int .i64 (z0a lf (.mk k' s' n' l') (k+by_)).k, .str (z0a lf (.mk k' s' n' l') (k+by_)).s, .int .i64 (z0a lf (.mk k' s' n' l') (k+by_)).n, .sl false 4 (FTs (z0a lf (.mk k' s' n' l') (k+by_)).l)]]:=by
   rw [FTs,FTs,z96]
  rw [e6] at e5;rw [e5];rw [show acc++z08 lf (.mk k' s' n' l'::b) (k+by_)=acc++z0a lf (.mk k' s' n' l') (k+by_)::z08 lf b (k+by_) by simp [z08]];rw [show (acc++ [z0a lf (.mk k' s' n' l') (k+by_)]).length=acc.length+1 by simp,List.append_assoc] at h2;exact h2
theorem l_w1Sh (fr by1:Int)(lf:Tm→Int→Tm)(k by_:Int)(h0:0≤k)(hk:k≤2305843009213693952)(hb0:0≤by_)(hb1:by_≤1)(kd:Int)(s:List UInt8)(n:Int)(hin:(kd==5||kd==6)=true):
  ∀ (b:List Tm),b.length≤B→(∀ u∈z08 lf b (k+by_),u.l.length≤2*B)→
  (∀ u∈b,AC Tryz.prog 134 [cloSh,aT u,ci (k+by_)] [(obj1 fr),(obj1 by1)] (aT (z0a lf u (k+by_))) [(obj1 fr),(obj1 by1)])→
  RPt Tryz.prog 134 2 (aT (z2f (.mk kd s n b) (z08 lf b (k+by_)))) [(obj1 fr),(obj1 by1)] 1 (stSh fr by1 k by_ kd s n b (.fz .N) 0 [] 5)
 | [],hl,hw,_=>by
  refine RPt.vc hP sh z6d (Eq.mpr (z98 ..) ?_);have e:z2f (.mk kd s n []) (z08 lf [] (k+by_))= .mk kd s n []:=if_neg fun e=>by have:=e.2.1;simp [z08] at this
  rw [e];exact z03 (fun h=>absurd (of_decide_eq_true h) (by simp)) (fun _=>z03 (fun _=>⟨rfl,leT z3i,rfl⟩) (fun _=>⟨leT z3i,rfl⟩))
 | t::b,hl,hw,ih=>by
  refine RPt.vc hP sh z6d (Eq.mpr (z98 ..) ?_);have hl':=hl;simp only [List.length_cons,B] at hl';have h1:=ih t List.mem_cons_self;have h2:=l_w2Sh fr by1 lf k by_ h0 hk hb0 hb1 kd s n hin b [t] [z0a lf t (k+by_)] (by simp) rfl (by simpa using hl) (by simpa [z08] using hw) (fun u hu=>ih u (List.mem_cons_of_mem _ hu));show br (decide ((0:Int)<(((t::b).length:Nat):Int))) ((FV.L 4 (.sl false 4 (FTs (t::b)))=true∧_∧_∧_)∧_) _;refine z03 (fun _=> ?_) (fun h=>absurd (of_decide_eq_false h) (by simp));rw [show FV.ses (.sl false 4 (FTs (t::b)))=FTs (t::b) from rfl,show List.getD (FTs (t::b)) (Int.toNat ((0:Nat):Int)) []=FT t from rfl,w64 (x:=k+by_) (by omega) (by omega),w64 (x:=((0:Nat):Int)+1) (by omega) (by omega)];obtain ⟨k',s',n',l'⟩:=t;have h3:(0:Int)<(((FTs (.mk k' s' n' l'::b)).length:Nat):Int):=by rw [z02];simp
  refine ⟨⟨rfl,by omega,h3,rfl⟩,_,h1,Nat.le_refl _,zir (by omega), ?_⟩
  have e6:FTs [z0a lf (.mk k' s' n' l') (k+by_)]=[[.int .i64 (z0a lf (.mk k' s' n' l') (k+by_)).k, .str (z0a lf (.mk k' s' n' l') (k+by_)).s, .int .i64 (z0a lf (.mk k' s' n' l') (k+by_)).n, .sl false 4 (FTs (z0a lf (.mk k' s' n' l') (k+by_)).l)]]:=by
   rw [FTs,FTs,z96]
  unfold stSh at h2;rw [e6] at h2;exact h2
theorem c_wSh (fr by1:Int) (lf:Tm→Int→Tm) (Q:Tm→Int→Prop)
  (hq:∀ (kd:Int) (s:List UInt8) (n:Int) (l:List Tm) (d:Int),Q (.mk kd s n l) d→(kd==5||kd==6)=true→∀ u∈l,Q u (d+if (kd==5)=true then 1 else 0))
  (hleaf:∀ (u:Tm) (d:Int),(u.k==5||u.k==6)=false→Q u d→0≤d→d≤2305843009213693952→AC Tryz.prog 135 [aT u,ci d, .c (.a (.ep 0 1 0 0)), .c (.a (.ep 1 1 0 0))] [(obj1 fr),(obj1 by1)] (aT (lf u d)) [(obj1 fr),(obj1 by1)])
  (hwid:∀ (u:Tm) (d:Int),Q u d→(z0a lf u d).l.length≤2*B):
  ∀ t:Tm,t.sz≤B→∀ k:Int,Q t k→0≤k→k+t.sz≤2305843009213693952→AC Tryz.prog 134 [cloSh,aT t,ci k] [(obj1 fr),(obj1 by1)] (aT (z0a lf t k)) [(obj1 fr),(obj1 by1)]:=by
 refine Tm.ind fun t ih hs k hQ h0 h1=> ?_;have hlen:=Tm.szs_length t.l;obtain ⟨kd,s,n,l⟩:=t;simp only [Tm.sz,B,Tm.l] at hs hlen;simp only [Tm.sz] at h1
 have key:∀ by_:Int,0≤by_→by_≤1→(by_=if (kd==5)=true then 1 else 0)→(hin:(kd==5||kd==6)=true)→RPt Tryz.prog 134 2 (aT (z0a lf (.mk kd s n l) k)) [(obj1 fr),(obj1 by1)] 1 (stSh fr by1 k by_ kd s n l (.fz .N) 0 [] 5):=by
  intro by_ hb0 hb1 hby hin;have hQ':=hq kd s n l k hQ hin;rw [←hby] at hQ'
  have:=l_w1Sh fr by1 lf k by_ h0 (by omega) hb0 hb1 kd s n hin l (by simp only [B];omega) (fun u hu=>by
   have:∀ {m:List Tm},(∀ v∈m,Q v (k+by_))→∀ u∈z08 lf m (k+by_),u.l.length≤2*B:=by
    intro m
    induction m with
    | nil=>intro _ u hu;simp [z08] at hu
    | cons v m ihm=>
     intro hm u hu;simp only [z08,List.mem_cons] at hu;rcases hu with rfl | hu
     · exact hwid v _ (hm v List.mem_cons_self)
     · exact ihm (fun x hx=>hm x (List.mem_cons_of_mem _ hx)) u hu
   exact this hQ' u hu) (fun u hu=>ih u hu (by have:=Tm.szs_mem hu;simp only [B];omega) (k+by_) (hQ' u hu) (by omega) (by have:=Tm.szs_mem hu;omega))
  rw [z0a,if_pos hin,←hby];exact this
 refine AC.vc hP sh z6d (Nat.le_refl _) (by simp [isLive]) (by simp) (Eq.mpr (zn9 kd s n (FTs l) k fr by1 _ _) ?_)
 have wi:(kd==5||kd==6)=true→AC Tryz.prog 143 [aT (.mk kd s n l)] [] (.tup [(false,[.a (.fz (.sl false 4 (FTs l)))]),(false,[.a (.fz (.int .i64 (if (kd==5)=true then 1 else 0)))])]) []:=fun hin=>by
  have hw:=zdk (.mk kd s n l);rw [show z70 (.mk kd s n l)= .sl false 4 (FTs l) from if_pos hin] at hw;exact hw
 refine z03 (fun h=>z03 (fun h2=> ?_) (fun h2=> ?_)) (fun h=> ?_)
 · have e1:(kd==5)=false:=by simpa using h
   have e2:(kd==6)=false:=by simpa using h2
   have e:(kd==5||kd==6)=false:=by rw [e1,e2];rfl
   have hl:=hleaf (.mk kd s n l) k e hQ h0 (by omega);rw [show z0a lf (.mk kd s n l) k=lf (.mk kd s n l) k by rw [z0a,if_neg (by rw [e];simp)]];exact ⟨_,hl, .refl _,rfl⟩
 · have e1:(kd==5)=false:=by simpa using h
   have e2:(kd==6)=true:=by simpa using h2
   have hin:(kd==5||kd==6)=true:=by rw [e1,e2];rfl
   have hk:=key 0 (by omega) (by omega) (by rw [e1];rfl) hin;have hw:=wi hin;rw [e1] at hw;refine ⟨_,_,hw,rfl, ?_⟩;show RPt _ _ _ _ _ _ ⟨[_,_,_,_,_,_,_,_,(31,ci (((FTs l).length:Nat):Int)),_],_,_⟩;rw [z02];exact hk
 · have e1:(kd==5)=true:=by simpa using h
   have hin:(kd==5||kd==6)=true:=by rw [e1];rfl
   have hk:=key 1 (by omega) (by omega) (by rw [e1];rfl) hin;have hw:=wi hin;rw [e1] at hw;refine ⟨_,_,hw,rfl, ?_⟩;show RPt _ _ _ _ _ _ ⟨[_,_,_,_,_,_,_,_,(31,ci (((FTs l).length:Nat):Int)),_],_,_⟩;rw [z02];exact hk
abbrev cloSu:TV:= .agg [.fn (.func 132) [] [(false,[.ep 0 1 0 0]),(false,[.ep 1 4 0 0])]]
abbrev stSu (ix:Int)(sk:Int)(ss:List UInt8)(sn:Int)(sl:List Tm)(k by_:Int)(kd:Int)(s:List UInt8)(n:Int)(l:List Tm)(w:AV)(i:Nat)(h:AHeap)(nx:Nat):St:=
 ⟨[(2,ci k),(3, .c (.a (.ep 2 1 0 0))),(4, .c (.a (.ep 3 4 0 0))),(6, .c (.a (.ep 4 4 0 0))),(7,aL l),(8,ci by_),(9, .c (.a w)),(30,aL l),(31,ci l.length),(32,ci i)],
  [(0,(obj1 ix)),(1,(.arr 4 [fzs (FT (.mk sk ss sn sl))])),(2, .arr 1 [[.fn (.func 132) [] [(false,[.ep 0 1 0 0]),(false,[.ep 1 4 0 0])]]]),(3, .arr 4 [fzs (FT (.mk kd s n l))]),(4, .arr 4 [[.a (.fz (.int .i64 0)), .a (.fz (.str [])), .a (.fz (.int .i64 0)), .a (.fz .N)]])]++h,nx⟩
theorem l_w2Su (ix:Int)(sk:Int)(ss:List UInt8)(sn:Int)(sl:List Tm)(lf:Tm→Int→Tm)(k by_:Int)(h0:0≤k)(hk:k≤2305843009213693952)(hb0:0≤by_)(hb1:by_≤1)(kd:Int)(s:List UInt8)(n:Int)(hin:(kd==5||kd==6)=true):
  ∀ (b a acc:List Tm),acc ≠ []→acc.length=a.length→(a++b).length≤B→(∀ u∈acc++z08 lf b (k+by_),u.l.length≤2*B)→
  (∀ u∈b,AC Tryz.prog 134 [cloSu,aT u,ci (k+by_)] [(obj1 ix),(.arr 4 [fzs (FT (.mk sk ss sn sl))])] (aT (z0a lf u (k+by_))) [(obj1 ix),(.arr 4 [fzs (FT (.mk sk ss sn sl))])])→
  RPt Tryz.prog 134 2 (aT (z2f (.mk kd s n (a++b)) (acc++z08 lf b (k+by_)))) [(obj1 ix),(.arr 4 [fzs (FT (.mk sk ss sn sl))])] 1 (stSu ix sk ss sn sl k by_ kd s n (a++b) (.osl 5 4 0 acc.length) a.length [(5, .arz 4 (FTs acc))] 6)
 | [],a,acc,hne,hlen,hl,hw,_=>by
  refine RPt.vc hP sh z6d (Eq.mpr (z94 ..) ?_)
  match acc,a,hne,hlen with
  | o::r,u::a',_,hlen=>
  have e1:List.take (o::r).length (List.drop 0 (FTs (o::r)))=FTs (o::r):=by rw [List.drop_zero,List.take_of_length_le (by rw [z02];omega)]
  have e2:(0:Nat)+(o::r).length≤(FTs (o::r)).length:=by rw [z02];omega
  have hrest:∀ (k':Int) (s':List UInt8) (n':Int),TV.Le (.agg [.a (.fz (.int .i64 k')), .a (.fz (.str s')), .a (.fz (.int .i64 n')), .a (.fz (.sl false 4 (List.take (o::r).length (List.drop 0 (FTs (o::r))))))]) (aT (.mk k' s' n' (o::r))):=fun k' s' n'=>by rw [e1];exact leT leSl
  refine z03 (fun h=>absurd (of_decide_eq_true h) (by simp)) (fun _=>z03 (fun h6=>z03 (fun h1=>⟨⟨by omega,by simp⟩,⟨by rw [z02];simp,by cases o;rfl,rfl⟩,z03 (fun ho=>⟨⟨rfl,by omega,by rw [List.append_nil];show (0:Int)<(((FTs (u::a')).length:Nat):Int);rw [z02];simp,by cases u;rfl⟩,z03 (fun hu=> ?_) (fun hu=>⟨⟨rfl,e2⟩, ?_,rfl⟩)⟩) (fun ho=>⟨⟨rfl,e2⟩, ?_,rfl⟩)⟩) (fun h1=>⟨⟨rfl,e2⟩, ?_,rfl⟩)) (fun h6=>⟨⟨rfl,e2⟩, ?_,rfl⟩))
  ·
   have hap:=z4z o r (by
    have:=hw o (by simp);simp only [List.length_cons,List.length_append,List.length_nil,B] at hl hlen this ⊢;omega)
   have e3:z2f (.mk kd s n (u::a'++ [])) (o::r++z08 lf [] (k+by_))=z2e o r:=by
    have c1:1<(o::r++z08 lf [] (k+by_)).length:=by have:=of_decide_eq_true h1;simp only [z08,List.append_nil];omega
    have c2:(o.k==6)=true:=by cases o;exact ho
    have c3:(u.k !=6)=true:=by cases u;exact hu
    unfold z2f;rw [if_pos ⟨h6,c1,c2,c3⟩];simp [z08]
   have e4:List.take (Int.toNat ((o::r).length:Int)-1) (List.drop 1 (FTs (o::r)))=FTs r:=by
    rw [show Int.toNat ((o::r).length:Int)-1=r.length by simp only [List.length_cons];omega];show List.take r.length (FTs r)=FTs r;rw [List.take_of_length_le (by rw [z02];omega)]
   have e5:(1:Nat)+(Int.toNat ((o::r).length:Int)-1)≤(FTs (o::r)).length:=by rw [z02];simp only [List.length_cons];omega
   rw [e3];refine ⟨⟨by omega,by simp⟩,⟨by rw [z02];simp,by cases o;rfl,rfl⟩,⟨by omega,by simp;omega,by omega⟩,⟨rfl,e5⟩, ?_⟩;rw [e4];obtain ⟨k1,s1,n1,l1⟩:=o;exact ⟨_,hap.args ⟨.refl _,le_c leSl,trivial⟩, .refl _,rfl⟩
  · have e3:z2f (.mk kd s n (u::a'++ [])) (o::r++z08 lf [] (k+by_))= .mk kd s n (o::r):=by
     simp only [z08,List.append_nil]
     exact if_neg fun e=>by
      have hu':(u.k !=6)=false:=by cases u;exact hu
      have:(u.k !=6)=true:=e.2.2.2;rw [hu'] at this;cases this
    rw [e3];exact hrest _ _ _
  · have e3:z2f (.mk kd s n (u::a'++ [])) (o::r++z08 lf [] (k+by_))= .mk kd s n (o::r):=by
     simp only [z08,List.append_nil]
     exact if_neg fun e=>by
      have ho':(o.k==6)=false:=by cases o;exact ho
      have:(o.k==6)=true:=e.2.2.1;rw [ho'] at this;cases this
    rw [e3];exact hrest _ _ _
  · have e3:z2f (.mk kd s n (u::a'++ [])) (o::r++z08 lf [] (k+by_))= .mk kd s n (o::r):=by
     simp only [z08,List.append_nil];exact if_neg fun e=>by have:=e.2.1;have:=of_decide_eq_false h1;omega
    rw [e3];exact hrest _ _ _
  · have e3:z2f (.mk kd s n (u::a'++ [])) (o::r++z08 lf [] (k+by_))= .mk kd s n (o::r):=by
     simp only [z08,List.append_nil]
     exact if_neg fun e=>by
      have h6':(kd==6)=false:=h6;have:(kd==6)=true:=e.1;rw [h6'] at this;cases this
    rw [e3];exact hrest _ _ _
 | t::b,a,acc,hne,hlen,hl,hw,ih=>by
  refine RPt.vc hP sh z6d (Eq.mpr (z94 ..) ?_);have hl':=hl;simp only [List.length_append,List.length_cons,B] at hl';have h1:=ih t List.mem_cons_self
  have h2:=l_w2Su ix sk ss sn sl lf k by_ h0 hk hb0 hb1 kd s n hin b (a++ [t]) (acc++ [z0a lf t (k+by_)]) (by simp) (by simp [hlen]) (by rw [ap];exact hl)
   (by rw [List.append_assoc];simpa [z08] using hw) (fun u hu=>ih u (List.mem_cons_of_mem _ hu))
  have h3:=ltI' a t b;unfold stSu at h2;rw [ap,show (((a++ [t]).length:Nat):Int)=(a.length:Int)+1 from nx a t] at h2;show br (decide ((a.length:Int)<(((a++t::b).length:Nat):Int))) ((FV.L 4 (.sl false 4 (FTs (a++t::b)))=true∧_∧_∧_)∧_) _;refine z03 (fun _=> ?_) (fun h=>absurd (ltI a t b) (of_decide_eq_false h));have hm:=midI a t b;rw [show FV.ses (.sl false 4 (FTs (a++t::b)))=FTs (a++t::b) from rfl,hm,w64 (x:=(a.length:Int)+1) (by omega) (by omega),w64 (x:=k+by_) (by omega) (by omega)];obtain ⟨k',s',n',l'⟩:=t;refine ⟨⟨rfl,by omega,h3,rfl⟩,_,h1,Nat.le_refl _,⟨by rw [z02];omega,zir (by omega)⟩, ?_⟩;have e5:List.take acc.length (FTs acc)++FTs [z0a lf (.mk k' s' n' l') (k+by_)]=FTs (acc++ [z0a lf (.mk k' s' n' l') (k+by_)]):=by rw [List.take_of_length_le (by rw [z02];omega),←z3r]
  have e6:FTs [z0a lf (.mk k' s' n' l') (k+by_)]=[[.int .i64 (z0a lf (.mk k' s' n' l') (k+by_)).k, .str (z0a lf (.mk k' s' n' l') (k+by_)).s, .int .i64 (z0a lf (.mk k' s' n' l') (k+by_)).n, .sl false 4 (FTs (z0a lf (.mk k' s' n' l') (k+by_)).l)]]:=by
   rw [FTs,FTs,z96]
  rw [e6] at e5;rw [e5];rw [show acc++z08 lf (.mk k' s' n' l'::b) (k+by_)=acc++z0a lf (.mk k' s' n' l') (k+by_)::z08 lf b (k+by_) by simp [z08]];rw [show (acc++ [z0a lf (.mk k' s' n' l') (k+by_)]).length=acc.length+1 by simp,List.append_assoc] at h2;exact h2
theorem l_w1Su (ix:Int)(sk:Int)(ss:List UInt8)(sn:Int)(sl:List Tm)(lf:Tm→Int→Tm)(k by_:Int)(h0:0≤k)(hk:k≤2305843009213693952)(hb0:0≤by_)(hb1:by_≤1)(kd:Int)(s:List UInt8)(n:Int)(hin:(kd==5||kd==6)=true):
  ∀ (b:List Tm),b.length≤B→(∀ u∈z08 lf b (k+by_),u.l.length≤2*B)→
  (∀ u∈b,AC Tryz.prog 134 [cloSu,aT u,ci (k+by_)] [(obj1 ix),(.arr 4 [fzs (FT (.mk sk ss sn sl))])] (aT (z0a lf u (k+by_))) [(obj1 ix),(.arr 4 [fzs (FT (.mk sk ss sn sl))])])→
  RPt Tryz.prog 134 2 (aT (z2f (.mk kd s n b) (z08 lf b (k+by_)))) [(obj1 ix),(.arr 4 [fzs (FT (.mk sk ss sn sl))])] 1 (stSu ix sk ss sn sl k by_ kd s n b (.fz .N) 0 [] 5)
 | [],hl,hw,_=>by
  refine RPt.vc hP sh z6d (Eq.mpr (z8v ..) ?_);have e:z2f (.mk kd s n []) (z08 lf [] (k+by_))= .mk kd s n []:=if_neg fun e=>by have:=e.2.1;simp [z08] at this
  rw [e];exact z03 (fun h=>absurd (of_decide_eq_true h) (by simp)) (fun _=>z03 (fun _=>⟨rfl,leT z3i,rfl⟩) (fun _=>⟨leT z3i,rfl⟩))
 | t::b,hl,hw,ih=>by
  refine RPt.vc hP sh z6d (Eq.mpr (z8v ..) ?_);have hl':=hl;simp only [List.length_cons,B] at hl';have h1:=ih t List.mem_cons_self;have h2:=l_w2Su ix sk ss sn sl lf k by_ h0 hk hb0 hb1 kd s n hin b [t] [z0a lf t (k+by_)] (by simp) rfl (by simpa using hl) (by simpa [z08] using hw) (fun u hu=>ih u (List.mem_cons_of_mem _ hu));show br (decide ((0:Int)<(((t::b).length:Nat):Int))) ((FV.L 4 (.sl false 4 (FTs (t::b)))=true∧_∧_∧_)∧_) _;refine z03 (fun _=> ?_) (fun h=>absurd (of_decide_eq_false h) (by simp));rw [show FV.ses (.sl false 4 (FTs (t::b)))=FTs (t::b) from rfl,show List.getD (FTs (t::b)) (Int.toNat ((0:Nat):Int)) []=FT t from rfl,w64 (x:=k+by_) (by omega) (by omega),w64 (x:=((0:Nat):Int)+1) (by omega) (by omega)];obtain ⟨k',s',n',l'⟩:=t;have h3:(0:Int)<(((FTs (.mk k' s' n' l'::b)).length:Nat):Int):=by rw [z02];simp
  refine ⟨⟨rfl,by omega,h3,rfl⟩,_,h1,Nat.le_refl _,zir (by omega), ?_⟩
  have e6:FTs [z0a lf (.mk k' s' n' l') (k+by_)]=[[.int .i64 (z0a lf (.mk k' s' n' l') (k+by_)).k, .str (z0a lf (.mk k' s' n' l') (k+by_)).s, .int .i64 (z0a lf (.mk k' s' n' l') (k+by_)).n, .sl false 4 (FTs (z0a lf (.mk k' s' n' l') (k+by_)).l)]]:=by
   rw [FTs,FTs,z96]
  unfold stSu at h2;rw [e6] at h2;exact h2
theorem c_wSu (ix:Int) (sk:Int) (ss:List UInt8) (sn:Int) (sl:List Tm) (lf:Tm→Int→Tm) (Q:Tm→Int→Prop)
  (hq:∀ (kd:Int) (s:List UInt8) (n:Int) (l:List Tm) (d:Int),Q (.mk kd s n l) d→(kd==5||kd==6)=true→∀ u∈l,Q u (d+if (kd==5)=true then 1 else 0))
  (hleaf:∀ (u:Tm) (d:Int),(u.k==5||u.k==6)=false→Q u d→0≤d→d≤2305843009213693952→AC Tryz.prog 132 [aT u,ci d, .c (.a (.ep 0 1 0 0)), .c (.a (.ep 1 4 0 0))] [(obj1 ix),(.arr 4 [fzs (FT (.mk sk ss sn sl))])] (aT (lf u d)) [(obj1 ix),(.arr 4 [fzs (FT (.mk sk ss sn sl))])])
  (hwid:∀ (u:Tm) (d:Int),Q u d→(z0a lf u d).l.length≤2*B):
  ∀ t:Tm,t.sz≤B→∀ k:Int,Q t k→0≤k→k+t.sz≤2305843009213693952→AC Tryz.prog 134 [cloSu,aT t,ci k] [(obj1 ix),(.arr 4 [fzs (FT (.mk sk ss sn sl))])] (aT (z0a lf t k)) [(obj1 ix),(.arr 4 [fzs (FT (.mk sk ss sn sl))])]:=by
 refine Tm.ind fun t ih hs k hQ h0 h1=> ?_;have hlen:=Tm.szs_length t.l;obtain ⟨kd,s,n,l⟩:=t;simp only [Tm.sz,B,Tm.l] at hs hlen;simp only [Tm.sz] at h1
 have key:∀ by_:Int,0≤by_→by_≤1→(by_=if (kd==5)=true then 1 else 0)→(hin:(kd==5||kd==6)=true)→RPt Tryz.prog 134 2 (aT (z0a lf (.mk kd s n l) k)) [(obj1 ix),(.arr 4 [fzs (FT (.mk sk ss sn sl))])] 1 (stSu ix sk ss sn sl k by_ kd s n l (.fz .N) 0 [] 5):=by
  intro by_ hb0 hb1 hby hin;have hQ':=hq kd s n l k hQ hin;rw [←hby] at hQ'
  have:=l_w1Su ix sk ss sn sl lf k by_ h0 (by omega) hb0 hb1 kd s n hin l (by simp only [B];omega) (fun u hu=>by
   have:∀ {m:List Tm},(∀ v∈m,Q v (k+by_))→∀ u∈z08 lf m (k+by_),u.l.length≤2*B:=by
    intro m
    induction m with
    | nil=>intro _ u hu;simp [z08] at hu
    | cons v m ihm=>
     intro hm u hu;simp only [z08,List.mem_cons] at hu;rcases hu with rfl | hu
     · exact hwid v _ (hm v List.mem_cons_self)
     · exact ihm (fun x hx=>hm x (List.mem_cons_of_mem _ hx)) u hu
   exact this hQ' u hu) (fun u hu=>ih u hu (by have:=Tm.szs_mem hu;simp only [B];omega) (k+by_) (hQ' u hu) (by omega) (by have:=Tm.szs_mem hu;omega))
  rw [z0a,if_pos hin,←hby];exact this
 refine AC.vc hP sh z6d (Nat.le_refl _) (by simp [isLive]) (by simp) (Eq.mpr (zpb kd s n (FTs l) k ix sk ss sn (FTs sl) _ _) ?_)
 have wi:(kd==5||kd==6)=true→AC Tryz.prog 143 [aT (.mk kd s n l)] [] (.tup [(false,[.a (.fz (.sl false 4 (FTs l)))]),(false,[.a (.fz (.int .i64 (if (kd==5)=true then 1 else 0)))])]) []:=fun hin=>by
  have hw:=zdk (.mk kd s n l);rw [show z70 (.mk kd s n l)= .sl false 4 (FTs l) from if_pos hin] at hw;exact hw
 refine z03 (fun h=>z03 (fun h2=> ?_) (fun h2=> ?_)) (fun h=> ?_)
 · have e1:(kd==5)=false:=by simpa using h
   have e2:(kd==6)=false:=by simpa using h2
   have e:(kd==5||kd==6)=false:=by rw [e1,e2];rfl
   have hl:=hleaf (.mk kd s n l) k e hQ h0 (by omega);rw [show z0a lf (.mk kd s n l) k=lf (.mk kd s n l) k by rw [z0a,if_neg (by rw [e];simp)]];exact ⟨_,hl, .refl _,rfl⟩
 · have e1:(kd==5)=false:=by simpa using h
   have e2:(kd==6)=true:=by simpa using h2
   have hin:(kd==5||kd==6)=true:=by rw [e1,e2];rfl
   have hk:=key 0 (by omega) (by omega) (by rw [e1];rfl) hin;have hw:=wi hin;rw [e1] at hw;refine ⟨_,_,hw,rfl, ?_⟩;show RPt _ _ _ _ _ _ ⟨[_,_,_,_,_,_,_,_,(31,ci (((FTs l).length:Nat):Int)),_],_,_⟩;rw [z02];exact hk
 · have e1:(kd==5)=true:=by simpa using h
   have hin:(kd==5||kd==6)=true:=by rw [e1];rfl
   have hk:=key 1 (by omega) (by omega) (by rw [e1];rfl) hin;have hw:=wi hin;rw [e1] at hw;refine ⟨_,_,hw,rfl, ?_⟩;show RPt _ _ _ _ _ _ ⟨[_,_,_,_,_,_,_,_,(31,ci (((FTs l).length:Nat):Int)),_],_,_⟩;rw [z02];exact hk
end Go.AM

set_option maxRecDepth 100000
open Go Go.Proofs
namespace Go.AM
theorem withF_sz (t:Tm)(o:List Tm):(z2f t o).sz≤1+Tm.szs o:=by
 unfold z2f;split
 · rename_i h
   match o,h with
   | [],h=>simp at h
   | x::r,h=>
    simp only [List.headD_cons,List.tail_cons,Tm.szs] at h ⊢;have hx:(x.k==6)=true:=h.2.2.1;have hr:r ≠ []:=by intro e;rw [e] at h;simp at h
    unfold z2e;split
    · exact absurd rfl hr
    · have:=x.sz_eq;by_cases hl:x.l=[]
      · rw [if_neg (fun e=>e.2 hl)];simp only [Tm.sz,Tm.szs];omega
      · rw [if_pos ⟨hx,hl⟩];simp only [Tm.sz,Tm.szs_append];omega
 · simp only [Tm.sz];omega
mutual
def nd:Tm→Nat
 | .mk _ _ _ l=>1+nds l
def nds:List Tm→Nat
 | []=>0
 | t::l=>nd t+nds l
end
theorem nd_eq (t:Tm):nd t=1+nds t.l:=by cases t;rfl
theorem zpc:∀ {l:List Tm} {t:Tm},t∈l→nd t≤nds l
 | x::l,t,h=>by
  rcases List.mem_cons.1 h with rfl | h
  · simp only [nds];omega
  · have:=zpc h;simp only [nds];omega
mutual
theorem zdx (lf:Tm→Int→Tm)(S:Nat)(h:∀ u d,(lf u d).sz≤u.sz+S):∀ (t:Tm) (d:Int),(z0a lf t d).sz≤t.sz+nd t*S
 | .mk k s n l,d=>by
  rw [z0a];split
  · refine Nat.le_trans (withF_sz ..) ?_;have:=zko lf S h l (d+if (k==5)=true then 1 else 0)
    simp only [Tm.sz,nd,Nat.add_mul,Nat.one_mul];omega
  · refine Nat.le_trans (h _ _) ?_;simp only [nd,Nat.add_mul,Nat.one_mul];omega
theorem zko (lf:Tm→Int→Tm)(S:Nat)(h:∀ u d,(lf u d).sz≤u.sz+S):∀ (l:List Tm) (d:Int),Tm.szs (z08 lf l d)≤Tm.szs l+nds l*S
 | [],_=>by simp [z08,Tm.szs]
 | t::l,d=>by
  have:=zdx lf S h t d;have:=zko lf S h l d;simp only [z08,Tm.szs,nds,Nat.add_mul];omega
end
theorem zcg {M:Int}:∀ {a b:List Tm},bds M a→bds M b→bds M (a++b)
 | [],_,_,h=>h
 | _::_,_,h,h'=>⟨h.1,zcg h.2 h'⟩
theorem zrq {M:Int}:∀ {l:List Tm},(∀ t∈l,bd M t)→bds M l
 | [],_=>trivial
 | t::_,h=>⟨h t List.mem_cons_self,zrq fun u hu=>h u (List.mem_cons_of_mem _ hu)⟩
theorem bd6 {M:Int}{s:List UInt8}{n:Int}{l:List Tm}(h:bds M l):bd M (.mk 6 s n l):=⟨fun e=>absurd e (by omega),h⟩
theorem zhr {M:Int}{f:Tm}{l:List Tm}(hf:bd M f)(hl:bds M l):bd M (z2e f l):=by
 unfold z2e;split
 · exact hf
 · split
   · exact bd6 (zcg (bd_l hf) hl)
   · exact bd6 ⟨hf,hl⟩
theorem withF_bd {M:Int}{t:Tm}{o:List Tm}(hk:t.k≠3)(ho:bds M o):bd M (z2f t o):=by
 unfold z2f;split
 · rename_i h
   match o,h,ho with
   | [],h,_=>simp at h
   | x::r,h,ho=>exact zhr ho.1 ho.2
 · exact ⟨fun e=>absurd e hk,ho⟩
mutual
theorem ze0 (lf:Tm→Int→Tm)(M M' D:Int)(h:∀ u d,bd M u→0≤d→d≤D→bd M' (lf u d)):∀ (t:Tm) (d:Int),bd M t→0≤d→d+t.sz≤D→bd M' (z0a lf t d)
 | .mk k s n l,d,hb,h0,h1=>by
  rw [z0a];simp only [Tm.sz] at h1;split
  · rename_i hk;refine withF_bd (fun e=> ?_) (zl9 lf M M' D h l _ hb.2 (by split<;>omega) (by split<;>omega));have e:k=3:=e;rw [e] at hk;exact absurd hk (by decide)
  · exact h _ _ hb h0 (by omega)
theorem zl9 (lf:Tm→Int→Tm)(M M' D:Int)(h:∀ u d,bd M u→0≤d→d≤D→bd M' (lf u d)):∀ (l:List Tm) (d:Int),bds M l→0≤d→d+Tm.szs l≤D→bds M' (z08 lf l d)
 | [],_,_,_,_=>trivial
 | t::l,d,hb,h0,h1=>by
  simp only [Tm.szs] at h1;exact ⟨ze0 lf M M' D h t d hb.1 h0 (by omega),zl9 lf M M' D h l d hb.2 h0 (by omega)⟩
end
theorem applyF_k {f:Tm}(l:List Tm)(h:(f.k==6)=true):(z2e f l).k=6:=by
 unfold z2e;split
 · simpa using h
 · split<;>rfl
theorem withF_k (t:Tm)(o:List Tm):(z2f t o).k=t.k:=by
 unfold z2f;split
 · rename_i h6;have e:t.k=6:=by simpa using h6.1
   rw [applyF_k _ h6.2.2.1];exact e.symm
 · rfl
theorem z3q (lf:Tm→Int→Tm)(k:Int)(s:List UInt8)(n:Int)(l:List Tm)(d:Int)(hk:(k==5||k==6)=false):
  z0a lf (.mk k s n l) d=lf (.mk k s n l) d:=by rw [z0a,if_neg (by rw [hk];simp)]
theorem z9b (lf:Tm→Int→Tm):∀ (l:List Tm) (d:Int),(z08 lf l d).length=l.length
 | [],_=>rfl
 | _::l,d=>by simp only [z08,List.length_cons,z9b lf l d]
abbrev M61:Int:=2305843009213693952
def z2n (fr by_:Int)(u:Tm)(d:Int):Tm:=if (u.k==3)=true∧d+fr≤u.n then .mk u.k u.s (u.n+by_) u.l else u
def shT (fr by_:Int)(t:Tm)(d:Int):Tm:=z0a (z2n fr by_) t d
theorem zkz (fr by_:Int)(u:Tm)(d:Int):(z2n fr by_ u d).k=u.k:=by unfold z2n;split<;>rfl
theorem zpn (fr by_:Int)(u:Tm)(d:Int):(z2n fr by_ u d).sz=u.sz:=by
 unfold z2n;split
 · cases u;rfl
 · rfl
theorem zle (fr by_:Int)(t:Tm)(d:Int):(shT fr by_ t d).sz≤t.sz:=by
 have:=zdx (z2n fr by_) 0 (fun u d=>by rw [zpn];omega) t d;rw [Nat.mul_zero] at this;exact this
theorem z46 {M M':Int}(h:M≤M'):∀ t:Tm,bd M t→bd M' t:=by
 refine Tm.ind fun t ih hb=> ?_;obtain ⟨k,s,n,l⟩:=t;exact ⟨fun e=>by have:=hb.1 e;omega,zrq fun u hu=>ih u hu (z3z hb.2 hu)⟩
theorem zrj {fr by_ M:Int}(h0:0≤by_)(u:Tm)(d:Int)(hb:bd M u):bd (M+by_) (z2n fr by_ u d):=by
 unfold z2n;split
 · obtain ⟨k,s,n,l⟩:=u;exact ⟨fun e=>by have:=hb.1 e;simp only [Tm.n];omega,zrq fun u hu=>z46 (by omega) u (z3z hb.2 hu)⟩
 · exact z46 (by omega) u hb
theorem zq8 {fr by_ M:Int}(h0:0≤by_)(t:Tm)(d:Int)(hb:bd M t)(hd:0≤d):bd (M+by_) (shT fr by_ t d):=
 ze0 (z2n fr by_) M (M+by_) (d+t.sz) (fun u d' hu _ _=>zrj h0 u d' hu) t d hb hd (Int.le_refl _)
theorem zo9 (t:Tm)(by_:Int)(h1: -9223372036854775808≤t.n+by_)(h2:t.n+by_≤9223372036854775807):AC Tryz.prog 133 [aT t,ci by_] [] (aT (.mk t.k t.s (t.n+by_) t.l)) []:=by
 obtain ⟨k,s,n,l⟩:=t;refine AC.vc hP sh lv133 (Nat.le_refl _) (by simp) (by simp) (Eq.mpr (v133 k s n (FTs l) by_ _ _) ?_);rw [w64 (x:=n+by_) h1 h2];exact ⟨.refl _,rfl⟩
theorem c_shift1 (fr by_ d:Int)(u:Tm)(hb:u.k=3→0-M61≤u.n∧u.n≤M61)(hd0:0≤d)(hd1:d≤M61)(hf0:0≤fr)(hf1:fr≤M61)(hb0:0-1≤by_)(hb1:by_≤M61):
  AC Tryz.prog 135 [aT u,ci d, .c (.a (.ep 0 1 0 0)), .c (.a (.ep 1 1 0 0))] [obj1 fr,obj1 by_] (aT (z2n fr by_ u d)) [obj1 fr,obj1 by_]:=by
 obtain ⟨k,s,n,l⟩:=u;simp only [M61,Tm.k,Tm.n] at*;refine AC.vc hP sh lv135 (Nat.le_refl _) (by simp [isLive]) (by simp) (Eq.mpr (v135 k s n (FTs l) d fr by_ _ _) ?_);rw [w64 (by omega) (by omega)];refine z03 (fun h=>z03 (fun h2=> ?_) (fun h2=> ?_)) (fun h=> ?_)
 · have hk:k=3:=by simpa using h
   have h3:d+fr≤n:=of_decide_eq_true h2;have:=hb hk;have e:z2n fr by_ (.mk k s n l) d= .mk k s (n+by_) l:=if_pos ⟨h,h3⟩;rw [e];exact ⟨_,zo9 (.mk k s n l) by_ (by simp only [Tm.n];omega) (by simp only [Tm.n];omega), .refl _,rfl⟩
 · have h3:¬d+fr≤n:=of_decide_eq_false h2;have e:z2n fr by_ (.mk k s n l) d= .mk k s n l:=if_neg fun e=>h3 e.2;rw [e];exact ⟨.refl _,rfl⟩
 · have e:z2n fr by_ (.mk k s n l) d= .mk k s n l:=if_neg fun e=>by have:=e.1;rw [show Tm.k (.mk k s n l)=k from rfl,h] at this;cases this
   rw [e];exact ⟨.refl _,rfl⟩
theorem za5 (t:Tm)(fr by_:Int)(hs:t.sz≤B)(hb:bd M61 t)(hf0:0≤fr)(hf1:fr≤M61)(hb0:0-1≤by_)(hb1:by_≤M61):
  AC Tryz.prog 99 [aT t,ci fr,ci by_] [] (aT (shT fr by_ t 0)) []:=by
 have h:=c_wSh fr by_ (z2n fr by_) (fun u _=>bd M61 u∧u.sz≤B) (fun kd s n l d hq hk u hu=>⟨z3z hq.1.2 hu,by have:=Tm.szs_mem hu;have:=hq.2;simp only [Tm.sz] at this;omega⟩)
  (fun u d hk hq h0 h1=>c_shift1 fr by_ d u (by obtain ⟨k,s,n,l⟩:=u;exact hq.1.1) h0 h1 hf0 hf1 hb0 hb1)
  (fun u d hq=>by have:=zle fr by_ u d;have h1:=(shT fr by_ u d).sz_eq;have:=Tm.szs_length (shT fr by_ u d).l;have:=hq.2;show (shT fr by_ u d).l.length≤_;omega)
  t hs 0 ⟨hb,hs⟩ (Int.le_refl _) (by simp only [B] at hs;omega)
 obtain ⟨k,s,n,l⟩:=t;refine AC.vc hP sh lv99 (Nat.le_refl _) (by simp) (by simp) (Eq.mpr (v99 k s n (FTs l) fr by_ _ _) ?_);exact ⟨_,h, .refl _,rfl⟩
def z1z (i:Int)(s:Tm)(u:Tm)(d:Int):Tm:=
 if (u.k==3)=true then (if u.n<d+i then u else if (u.n==d+i)=true then shT 0 d s 0 else .mk u.k u.s (u.n-1) u.l) else u
def suT (i:Int)(s t:Tm)(d:Int):Tm:=z0a (z1z i s) t d
theorem znu (i:Int)(s u:Tm)(d:Int):(z1z i s u d).sz≤u.sz+s.sz:=by
 have h3:=zle 0 d s 0;unfold z1z;split
 · split
   · omega
   · split
     · omega
     · cases u;simp only [Tm.sz,Tm.l];omega
 · omega
theorem suT_sz (i:Int)(s t:Tm)(d:Int):(suT i s t d).sz≤t.sz+nd t*s.sz:=zdx _ _ (znu i s) t d
theorem suT_bd {i M M' D:Int}(s t:Tm)(d:Int)(hb:bd M t)(hs:bd M' s)(hM:M'+D≤M)(hd:0≤d)(hD:d+t.sz≤D)(hi:0≤i)(hM':0≤M):bd M (suT i s t d):=by
 refine ze0 (z1z i s) M M D (fun u d' hu h0 h1=> ?_) t d hb hd hD;unfold z1z;split
 · split
   · exact hu
   · split
     · exact z46 (by omega) _ (zq8 h0 s 0 hs (Int.le_refl _))
     · rename_i h2 h3;obtain ⟨k,s',n,l⟩:=u;have h3':n≠d'+i:=fun e=>h3 (by rw [show Tm.n (.mk k s' n l)=n from rfl,e];simp);have h2':¬n<d'+i:=h2;exact ⟨fun e=>by have:=hu.1 e;simp only [Tm.n];omega,hu.2⟩
 · exact hu
theorem c_subst1 (i d:Int)(s u:Tm)(hs:s.sz≤B)(hbs:bd M61 s)(hb:u.k=3→0-M61≤u.n∧u.n≤M61)(hd0:0≤d)(hd1:d≤M61)(hi0:0≤i)(hi1:i≤M61):
  AC Tryz.prog 132 [aT u,ci d, .c (.a (.ep 0 1 0 0)), .c (.a (.ep 1 4 0 0))] [obj1 i, .arr 4 [fzs (FT s)]] (aT (z1z i s u d)) [obj1 i, .arr 4 [fzs (FT s)]]:=by
 obtain ⟨k,t,n,l⟩:=u;have hsh:=za5 s 0 d hs hbs (Int.le_refl _) (by simp only [M61];omega) (by omega) hd1;rw [z96];simp only [M61,Tm.k,Tm.n] at*;refine AC.vc hP sh lv132 (Nat.le_refl _) (by simp [isLive]) (by simp) (Eq.mpr (v132 k t n (FTs l) d i s.k s.s s.n (FTs s.l) _ _) ?_);rw [w64 (by omega) (by omega)];refine z03 (fun h=> ?_) (fun h=>z03 (fun h2=> ?_) (fun h2=>z03 (fun h3=> ?_) (fun h3=> ?_)))
 · have e:z1z i s (.mk k t n l) d= .mk k t n l:=if_neg fun e=>by rw [show Tm.k (.mk k t n l)=k from rfl] at e;rw [bne,e] at h;cases h
   rw [e];exact ⟨.refl _,rfl⟩
 · have hk:(k==3)=true:=by simpa [bne] using h
   have e:z1z i s (.mk k t n l) d= .mk k t n l:=by rw [z1z,if_pos (show (Tm.k (.mk k t n l)==3)=true from hk),if_pos (show Tm.n (.mk k t n l)<d+i from of_decide_eq_true h2)]
   rw [e];exact ⟨.refl _,rfl⟩
 · have hk:(k==3)=true:=by simpa [bne] using h
   have e:z1z i s (.mk k t n l) d=shT 0 d s 0:=by rw [z1z,if_pos (show (Tm.k (.mk k t n l)==3)=true from hk),if_neg (show¬Tm.n (.mk k t n l)<d+i from of_decide_eq_false h2),if_pos (show (Tm.n (.mk k t n l)==d+i)=true from h3)]
   rw [e];exact ⟨_,hsh, .refl _,rfl⟩
 · have hk:(k==3)=true:=by simpa [bne] using h
   have e:z1z i s (.mk k t n l) d= .mk k t (n-1) l:=by rw [z1z,if_pos (show (Tm.k (.mk k t n l)==3)=true from hk),if_neg (show¬Tm.n (.mk k t n l)<d+i from of_decide_eq_false h2),if_neg (by rw [show Tm.n (.mk k t n l)=n from rfl,h3];simp)];rfl
   have:=hb (by simpa using hk);rw [e];exact ⟨_,zo9 (.mk k t n l) (-1) (by simp only [Tm.n];omega) (by simp only [Tm.n];omega), .refl _,rfl⟩
theorem zqw (t s:Tm)(i:Int)(hs:s.sz≤B)(ht:t.sz+nd t*s.sz≤B)(hb:bd M61 t)(hbs:bd M61 s)(hi0:0≤i)(hi1:i≤M61):
  AC Tryz.prog 98 [aT t,ci i,aT s] [] (aT (suT i s t 0)) []:=by
 have ht':t.sz≤B:=by omega
 have hFT:=z96 s;obtain ⟨sk,ss,sn,sl⟩:=s
 have h:=c_wSu i sk ss sn sl (z1z i (.mk sk ss sn sl)) (fun u _=>bd M61 u∧u.sz+nd u*(Tm.mk sk ss sn sl).sz≤B) (fun kd s n l d hq hk u hu=>⟨z3z hq.1.2 hu,by have h2:=hq.2;have:=Nat.mul_le_mul_right (Tm.mk sk ss sn sl).sz (zpc hu);have:=Tm.szs_mem hu;rw [Tm.sz_eq (.mk kd s n l),nd_eq (.mk kd s n l),Nat.add_mul] at h2;simp only [Tm.l] at h2;omega⟩)
  (fun u d hk hq h0 h1=>c_subst1 i d (.mk sk ss sn sl) u hs hbs (by obtain ⟨k,s,n,l⟩:=u;exact hq.1.1) h0 h1 hi0 hi1)
  (fun u d hq=>by have:=suT_sz i (.mk sk ss sn sl) u d;have h1:=(suT i (.mk sk ss sn sl) u d).sz_eq;have:=Tm.szs_length (suT i (.mk sk ss sn sl) u d).l;have:=hq.2;show (suT i (.mk sk ss sn sl) u d).l.length≤_;omega)
  t ht' 0 ⟨hb,ht⟩ (Int.le_refl _) (by simp only [B] at ht';omega)
 obtain ⟨k,s,n,l⟩:=t;refine AC.vc hP sh lv98 (Nat.le_refl _) (by simp) (by simp) (Eq.mpr (v98 k s n (FTs l) i sk ss sn (FTs sl) _ _) ?_);exact ⟨_,h, .refl _,rfl⟩
end Go.AM

set_option maxRecDepth 100000
open Go Go.Proofs
namespace Go.AM
mutual
def validB:Tm→Bool
 | .mk k s n l=>
  if (k==0)=true then (zbr s||zg s)&&n==0&&(((FTs l).length:Nat):Int)==0
  else if (k==1)=true then decide (n≥1)&&s==[]&&(((FTs l).length:Nat):Int)==0&&z1x l
  else if (k==2)=true then s==[]&&(((FTs l).length:Nat):Int)==0&&z1x l
  else if (k==3)=true then decide (n≥0)&&decide (n≤4611686018427387904)&&s==[]&&(((FTs l).length:Nat):Int)==0&&z1x l
  else if (k==4)=true then decide (n≥0)&&decide (n≤4611686018427387904)&&s==[]&&(((FTs l).length:Nat):Int)==0&&z1x l
  else if (k==5)=true then n==0&&s==[]&&(((FTs l).length:Nat):Int)==1&&z1x l
  else if (k==6)=true then n==0&&decide ((((FTs l).length:Nat):Int)≥2)&&((l.headD default).k !=6)&&s==[]&&z1x l
  else false
def z1x:List Tm→Bool
 | []=>true
 | t::l=>validB t&&z1x l
end
def zj8:List Tm→Int→Int
 | [],_=> -1
 | t::l,i=>if validB t=true then zj8 l (i+1) else i
theorem zk0:∀ (l:List Tm) (i:Int),0≤i→decide (zj8 l i≥0)= !z1x l
 | [],_,_=>rfl
 | t::l,i,h=>by
  rw [zj8,z1x];split
  · rename_i e;rw [zk0 l (i+1) (by omega),e,Bool.true_and]
  · rename_i e;rw [show validB t=false by simpa using e];simp;omega
theorem zpz:∀ (b a:List Tm),(∀ u∈b,AC Tryz.prog 40 [aT u] [] (cb (!validB u)) [])→(a++b).length≤B→
  RPt Tryz.prog 84 0 (ci (zj8 b a.length)) [] 1 ⟨[(0,aL (a++b)),(1, .c (.fn (.func 40) [] [])),(7,ci (((FTs (a++b)).length:Nat):Int)),(8,ci a.length)],[],0⟩
 | [],a,_,_=>by
  refine RPt.vc hP sh lv84 (Eq.mpr (zch ..) ?_);exact z03 (fun h=>absurd (of_decide_eq_true h) (geI' a)) (fun _=>z2g rfl)
 | t::b,a,ih,hl=>by
  refine RPt.vc hP sh lv84 (Eq.mpr (zch ..) ?_);have hl':=hl;simp only [List.length_append,List.length_cons,B] at hl';have h1:=ih t List.mem_cons_self;have h2:=zpz b (a++ [t]) (fun u hu=>ih u (List.mem_cons_of_mem _ hu)) (by rw [ap];exact hl);have h3:=ltI' a t b;rw [ap,nx] at h2;rw [midI,w64 (x:=(a.length:Int)+1) (by omega) (by omega)];refine z03 (fun _=> ?_) (fun h=>absurd h3 (of_decide_eq_false h));obtain ⟨k',s',n',l'⟩:=t;refine ⟨⟨rfl,by omega,h3,rfl⟩,_,h1,z03 (fun h=> ?_) (fun h=> ?_)⟩
  · rw [zj8,if_neg (by simpa using h)];exact z2g rfl
  · rw [zj8,if_pos (by simpa using h)];exact h2
theorem c_contf (l:List Tm)(hl:l.length≤B)(ih:∀ u∈l,AC Tryz.prog 15 [aT u] [] (cb (validB u)) []):AC Tryz.prog 39 [aL l, .c (.fn (.func 40) [] [])] [] (cb (!z1x l)) []:=by
 have h1:∀ u∈l,AC Tryz.prog 40 [aT u] [] (cb (!validB u)) []:=fun u hu=>by
  have h:=ih u hu;obtain ⟨k,s,n,l⟩:=u;refine AC.vc hP sh lv40 (Nat.le_refl _) (by simp) (by simp) (Eq.mpr (v40 k s n (FTs l) _ _) ?_);exact ⟨_,h,z04 rfl⟩
 have h2:AC Tryz.prog 84 [aL l, .c (.fn (.func 40) [] [])] [] (ci (zj8 l 0)) []:=by
  refine AC.vc hP sh lv84 (Nat.le_refl _) (by simp) (by simp) (Eq.mpr (v84_F40 ..) ?_);exact ⟨rfl,zpz l [] h1 hl⟩
 refine AC.vc hP sh lv39 (Nat.le_refl _) (by simp) (by simp) (Eq.mpr (v39_F40 ..) ?_);exact ⟨_,h2,z04 (zk0 l 0 (Int.le_refl _))⟩
theorem head0:∀ {l:List Tm},2≤(((FTs l).length:Nat):Int)→List.getD (FTs l) 0 []=FT (l.headD default)
 | [],h=>by simp [FTs] at h
 | t::l,_=>rfl
theorem z2r:∀ t:Tm,t.sz≤B→AC Tryz.prog 15 [aT t] [] (cb (validB t)) []:=by
 refine Tm.ind fun t ih hs=> ?_;have hlen:=Tm.szs_length t.l;obtain ⟨k,s,n,l⟩:=t;simp only [Tm.sz,Tm.l] at hs hlen;have hc:=c_contf l (by omega) fun u hu=>ih u hu (by have:=Tm.szs_mem hu;omega);refine AC.vc hP sh lv15 (Nat.le_refl _) (by simp) (by simp) (Eq.mpr (v15 k s n (FTs l) _ _) ?_)
 refine z03 (fun h0=>⟨_,zjv s,z03 (fun h1=>z03 (fun h2=>⟨rfl,z04 ?_⟩) (fun h2=>z04 ?_)) (fun h1=>⟨_,zq2 s,z03 (fun h1'=>z03 (fun h2=>⟨rfl,z04 ?_⟩) (fun h2=>z04 ?_)) (fun h1'=>z04 ?_)⟩)⟩)
  (fun h0=>z03 (fun h1=>z03 (fun h2=>z03 (fun h3=>⟨rfl,z03 (fun h4=>⟨_,hc,z04 ?_⟩) (fun h4=>z04 ?_)⟩) (fun h3=>z04 ?_)) (fun h2=>z04 ?_))
  (fun h1=>z03 (fun h2=>z03 (fun h3=>⟨rfl,z03 (fun h4=>⟨_,hc,z04 ?_⟩) (fun h4=>z04 ?_)⟩) (fun h3=>z04 ?_))
  (fun h2=>z03 (fun h3=>z03 (fun h4=>z03 (fun h5=>z03 (fun h6=>⟨rfl,z03 (fun h7=>⟨_,hc,z04 ?_⟩) (fun h7=>z04 ?_)⟩) (fun h6=>z04 ?_)) (fun h5=>z04 ?_)) (fun h4=>z04 ?_))
  (fun h3=>z03 (fun h3'=>z03 (fun h4=>z03 (fun h5=>z03 (fun h6=>⟨rfl,z03 (fun h7=>⟨_,hc,z04 ?_⟩) (fun h7=>z04 ?_)⟩) (fun h6=>z04 ?_)) (fun h5=>z04 ?_)) (fun h4=>z04 ?_))
  (fun h3'=>z03 (fun h5=>z03 (fun h6=>z03 (fun h7=>⟨rfl,z03 (fun h8=>⟨_,hc,z04 ?_⟩) (fun h8=>z04 ?_)⟩) (fun h7=>z04 ?_)) (fun h6=>z04 ?_))
  (fun h5=>z03 (fun h6=>z03 (fun h7=>⟨rfl,z03 (fun h8=> ?app) (fun h8=>⟨rfl,z04 ?_⟩)⟩) (fun h7=>⟨rfl,z04 ?_⟩)) (fun h6=>z04 ?_)))))))
 case app=>
  have h8':=of_decide_eq_true h8;rw [head0 h8',z96];refine ⟨⟨rfl,by omega,by omega,rfl⟩,rfl,z03 (fun h9=>z03 (fun h10=>⟨rfl,z03 (fun h11=>⟨_,hc,z04 ?_⟩) (fun h11=>z04 ?_)⟩) (fun h10=>z04 ?_)) (fun h9=>z04 ?_)⟩
  all_goals (have h9':((l.headD default).k !=6)=_:=h9;simp_all [validB])
 all_goals first
  | (simp_all [validB];done)
  | (simp_all [validB];intros;omega)
end Go.AM

set_option maxRecDepth 100000
open Go Go.Proofs
namespace Go.AM
mutual
theorem zix {M:Int}:∀ t:Tm,near M t=true→bd M t
 | .mk k s n l,h=>by
  simp only [near,Bool.and_eq_true] at h;refine ⟨fun e=> ?_,zjp l h.2⟩;have:=h.1;rw [e] at this;simp at this;omega
theorem zjp {M:Int}:∀ l:List Tm,zj6 M l=true→bds M l
 | [],_=>trivial
 | t::l,h=>by
  simp only [zj6,Bool.and_eq_true] at h;exact ⟨zix t h.1,zjp l h.2⟩
end
end Go.AM

set_option maxRecDepth 100000
open Go Go.Proofs

set_option maxRecDepth 100000
open Go Go.Proofs
namespace Go.AM
theorem zl6:∀ (b a b' a':List Tm),(∀ u∈b,∀ v:Tm,AC Tryz.prog 118 [aT u,aT v] [] (cb (z3a u v)) [])→(a++b).length≤B→a.length=a'.length→b.length=b'.length→
  RPt Tryz.prog 144 0 (cb (z3b b b')) [] 1 ⟨[(1,aL (a'++b')),(2, .c (.fn (.func 118) [] [])),(15,aL (a++b)),(16,ci (((FTs (a++b)).length:Nat):Int)),(17,ci a.length)],[],0⟩
 | [],a,[],a',_,_,_,_=>by
  refine RPt.vc hP sh zoj (Eq.mpr (z93 ..) ?_);exact z03 (fun h=>absurd (of_decide_eq_true h) (geI' a)) (fun _=>z04 rfl)
 | t::b,a,t'::b',a',ih,hl,ha,hb=>by
  refine RPt.vc hP sh zoj (Eq.mpr (z93 ..) ?_);have hl':=hl;simp only [List.length_append,List.length_cons,B] at hl';simp only [List.length_cons] at hb;have h1:=ih t List.mem_cons_self t';have h2:=zl6 b (a++ [t]) b' (a'++ [t']) (fun u hu=>ih u (List.mem_cons_of_mem _ hu)) (by rw [ap];exact hl) (by simp [ha]) (by omega);have h3:=ltI' a t b;have h4:=ltI' a' t' b';rw [←ha] at h4;rw [ap,ap,nx] at h2;rw [midI,midI' a a' ha,w64 (x:=(a.length:Int)+1) (by omega) (by omega)];refine z03 (fun _=> ?_) (fun h=>absurd h3 (of_decide_eq_false h));obtain ⟨k1,s1,n1,l1⟩:=t;obtain ⟨k2,s2,n2,l2⟩:=t';refine ⟨⟨rfl,by omega,h3,rfl⟩,⟨rfl,by omega,h4,rfl⟩,_,h1,z03 (fun h=>z04 ?_) (fun h=> ?_)⟩
  · rw [z3b,show z3a (.mk k1 s1 n1 l1) (.mk k2 s2 n2 l2)=false by simpa using h];rfl
  · rw [z3b,show z3a (.mk k1 s1 n1 l1) (.mk k2 s2 n2 l2)=true by simpa using h];exact h2
theorem c_same:∀ a:Tm,a.sz≤B→∀ b:Tm,AC Tryz.prog 118 [aT a,aT b] [] (cb (z3a a b)) []:=by
 refine Tm.ind fun a ih hs b=> ?_;have hlen:=Tm.szs_length a.l;obtain ⟨k1,s1,n1,l1⟩:=a;obtain ⟨k2,s2,n2,l2⟩:=b;simp only [Tm.sz,Tm.l] at hs hlen
 have he:AC Tryz.prog 144 [aL l1,aL l2, .c (.fn (.func 118) [] [])] [] (cb (z3b l1 l2)) []:=by
  refine AC.vc hP sh zoj (Nat.le_refl _) (by simp) (by simp) (Eq.mpr (zqt ..) ?_);refine ⟨rfl,rfl,z03 (fun h=>z04 ?_) (fun h=>⟨rfl, ?_⟩)⟩
  · rw [z02,z02] at h;exact (z74 (fun e=>by rw [e] at h;simp at h)).symm
  · rw [z02,z02] at h
    exact zl6 l1 [] l2 [] (fun u hu v=>ih u hu (by have:=Tm.szs_mem hu;omega) v) (by simp only [List.nil_append];omega) rfl (by have:(l1.length:Int)=l2.length:=by simpa using h
                                                                                                                                omega)
 refine AC.vc hP sh lv118 (Nat.le_refl _) (by simp) (by simp) (Eq.mpr (v118 k1 s1 n1 (FTs l1) k2 s2 n2 (FTs l2) _ _) ?_);refine z03 (fun h=>z03 (fun h1=>z03 (fun h2=>⟨_,he,z04 ?_⟩) (fun h2=>z04 ?_)) (fun h1=>z04 ?_)) (fun h=>z04 ?_)
 all_goals simp only [z3a]
 all_goals simp_all
end Go.AM

set_option maxRecDepth 100000
open Go Go.Proofs
namespace Go.AM
mutual
def z4j:Tm→Int→Int
 | .mk kd _ n l,k=>if (kd==3)=true then maxI 0 (n-k+1) else if (kd==5||kd==6)=true then z4g l (k+if (kd==5)=true then 1 else 0) else 0
def z4g:List Tm→Int→Int
 | [],_=>0
 | t::l,k=>maxI (z4j t k) (z4g l k)
end
theorem zd5 (a b c:Int):maxI (maxI a b) c=maxI a (maxI b c):=by
 unfold maxI;(repeat' split)<;>omega
theorem maxI0 {a:Int}(h:0≤a):maxI a 0=a:=by unfold maxI;split<;>omega
theorem maxI_ge2 (a b:Int):b≤maxI a b:=by unfold maxI;split<;>omega
theorem zcs:∀ (l:List Tm) (k:Int),0≤z4g l k
 | [],_=>Int.le_refl _
 | t::l,k=>by rw [z4g];exact Int.le_trans (zcs l k) (maxI_ge2 _ _)
theorem zn5 (a b:Int):a≤maxI a b:=by unfold maxI;split<;>omega
mutual
theorem zfz:∀ (t:Tm) (k acc:Int),0≤acc→z3u t k acc=maxI acc (z4j t k)
 | .mk kd _ n l,k,acc,h=>by
  simp only [z3u,z4j];by_cases h5:(kd==5)=true
  · have e:kd=5:=by simpa using h5
    subst e;simp [z86 l _ acc h]
  · by_cases h6:(kd==6)=true
    · have e:kd=6:=by simpa using h6
      subst e;simp [z86 l _ acc h]
    · have e5:(kd==5)=false:=by simpa using h5
      have e6:(kd==6)=false:=by simpa using h6
      rw [if_neg h5,if_neg h6];by_cases h3:(kd==3)=true
      · rw [if_pos h3,if_pos h3,←zd5,maxI0 h]
      · rw [if_neg h3,if_neg h3,if_neg (by rw [e5,e6];simp),maxI0 h]
theorem z86:∀ (l:List Tm) (k acc:Int),0≤acc→z8u l k acc=maxI acc (z4g l k)
 | [],_,acc,h=>by rw [z8u,z4g,maxI0 h]
 | t::l,k,acc,h=>by
  have h1:=zfz t k acc h;rw [z8u,z4g,h1,z86 l k _ (Int.le_trans h (zn5 _ _)),zd5]
end
end Go.AM

set_option maxRecDepth 100000
open Go Go.Proofs
namespace Go.AM
theorem zr5:(∀ es:List (List FV),es ≠ []→es.length≤B→AC Tryz.prog 100 [.c (.a (.fz (.sl false 4 es)))] [] (.c (.a (.osl 0 4 0 es.length))) [.arz 4 es])∧AC Tryz.prog 100 [.c (.a (.fz (.sl false 4 [])))] [] (.c (.a (.fz (.sl false 4 [])))) []:=by
 have h0:AC Tryz.prog 100 [.c (.a (.fz .N))] [] (.c (.a (.fz .N))) []:=by
  refine AC.vc hP sh lv100 (Nat.le_refl _) (by simp) (by simp) (Eq.mpr (v100 ..) ?_);exact ⟨.refl _,rfl⟩
 have h1:∀ es:List (List FV),es.length≤B→AC Tryz.prog 100 [.c (.a (.fz (.sl true 4 es)))] [] (.c (.a (.osl 0 4 0 es.length))) [.arz 4 es]:=fun es hl=>by
  refine AC.vc hP sh lv100 (by simp) (by simp) (by simp [isLive]) (Eq.mpr (v100_i1 ..) ?_);refine ⟨rfl,⟨by omega,by rw [Nat.zero_add];exact zir (by simp only [B] at hl;omega)⟩, ?_⟩;rw [Nat.zero_add];exact ⟨.refl _,rfl⟩
 exact AC.clone_le h0 h1
end Go.AM

set_option maxRecDepth 100000
open Go Go.Proofs

set_option maxRecDepth 100000
open Go Go.Proofs
namespace Go.AM
def hd (l:List Tm):Tm:=l.headD default
mutual
def okB:Tm→Bool
 | .mk k s n l=>(if (k==6)=true then decide (2≤l.length)&&(hd l).k !=6&&(s==[]&&n==0) else if (k==5)=true then decide (l.length=1)&&(s==[]&&n==0) else decide (l.length=0))&&okL l
def okL:List Tm→Bool
 | []=>true
 | t::l=>okB t&&okL l
end
theorem zex:∀ {l:List Tm} {t:Tm},okL l=true→t∈l→okB t=true
 | x::l,t,h,hm=>by
  simp only [okL,Bool.and_eq_true] at h;rcases List.mem_cons.1 hm with rfl | hm
  · exact h.1
  · exact zex h.2 hm
theorem okL_of:∀ {l:List Tm},(∀ t∈l,okB t=true)→okL l=true
 | [],_=>rfl
 | t::l,h=>by simp only [okL,h t List.mem_cons_self,okL_of (l:=l) fun u hu=>h u (List.mem_cons_of_mem _ hu),Bool.and_self]
theorem okB6 {k n:Int}{s:List UInt8}{l:List Tm}(h:okB (.mk k s n l)=true)(hk:k=6):∃ x y r,l=x::y::r∧x.k≠6∧okL l=true:=by
 subst hk;simp only [okB,Bool.and_eq_true] at h
 match l,h with
 | [],h=>simp at h
 | [x],h=>simp at h
 | x::y::r,h=>exact ⟨x,y,r,rfl,by have:=h.1;simp [hd] at this;exact this.1,h.2⟩
theorem okB5 {k n:Int}{s:List UInt8}{l:List Tm}(h:okB (.mk k s n l)=true)(hk:k=5):∃ x,l=[x]∧okB x=true:=by
 subst hk;simp only [okB,Bool.and_eq_true] at h
 match l,h with
 | [],h=>simp at h
 | [x],h=>exact ⟨x,rfl,by have:=h.2;simpa [okL] using this⟩
 | x::y::r,h=>simp at h
theorem okB0 {k n:Int}{s:List UInt8}{l:List Tm}(h:okB (.mk k s n l)=true)(h5:k≠5)(h6:k≠6):l=[]:=by
 simp only [okB,Bool.and_eq_true] at h;have:=h.1;rw [if_neg (by simpa using h6),if_neg (by simpa using h5)] at this;exact List.eq_nil_of_length_eq_zero (by simpa using this)
theorem okB_sn {k n:Int}{s:List UInt8}{l:List Tm}(h:okB (.mk k s n l)=true)(hk:k=5∨k=6):s=[]∧n=0:=by
 simp only [okB,Bool.and_eq_true] at h;have h:=h.1;rcases hk with rfl | rfl
 · simp at h;exact h.2
 · simp at h;exact h.2
theorem okB_l {t:Tm}(h:okB t=true):okL t.l=true:=by
 obtain ⟨k,s,n,l⟩:=t;simp only [okB,Bool.and_eq_true] at h;exact h.2
mutual
theorem z0f:∀ t:Tm,validB t=true→okB t=true
 | .mk k s n l,h=>by
  rw [okB];have hl:=zg7 l;rw [validB] at h;split at h
  · rename_i e;have e:k=0:=by simpa using e
    subst e;rw [lenI] at h;have:l=[]:=by simp at h;exact h.2
    subst this;rfl
  split at h
  · rename_i e;have e:k=1:=by simpa using e
    subst e;rw [lenI] at h;have:l=[]:=by simp at h;exact h.1.2
    subst this;rfl
  split at h
  · rename_i e;have e:k=2:=by simpa using e
    subst e;rw [lenI] at h;have:l=[]:=by simp at h;exact h.1.2
    subst this;rfl
  split at h
  · rename_i e;have e:k=3:=by simpa using e
    subst e;rw [lenI] at h;have:l=[]:=by simp at h;exact h.1.2
    subst this;rfl
  split at h
  · rename_i e;have e:k=4:=by simpa using e
    subst e;rw [lenI] at h;have:l=[]:=by simp at h;exact h.1.2
    subst this;rfl
  split at h
  · rename_i e;have e:k=5:=by simpa using e
    subst e;rw [lenI] at h;simp only [Bool.and_eq_true,beq_iff_eq] at h;have h1:l.length=1:=by have:=h.1.2;omega
    rw [hl h.2];simp [h1,h.1.1.1,h.1.1.2]
  split at h
  · rename_i e;have e:k=6:=by simpa using e
    subst e;rw [lenI] at h;simp only [Bool.and_eq_true,decide_eq_true_eq,beq_iff_eq] at h;have h1:2≤l.length:=by have:=h.1.1.1.2;omega
    have h2:((hd l).k !=6)=true:=h.1.1.2;rw [hl h.2,h2];simp [h1,h.1.1.1.1,h.1.2]
  · cases h
theorem zg7:∀ l:List Tm,z1x l=true→okL l=true
 | [],_=>rfl
 | t::l,h=>by
  simp only [z1x,Bool.and_eq_true] at h;simp only [okL,z0f t h.1,zg7 l h.2,Bool.and_self]
end
theorem ok_ne {t:Tm}(h:okB t=true):t.k=6→t.l ≠ []:=by
 obtain ⟨k,s,n,l⟩:=t;intro hk;obtain ⟨x,y,r,e,_⟩:=okB6 h hk;show l ≠ [];rw [e];simp
end Go.AM

set_option maxRecDepth 100000
open Go Go.Proofs
namespace Go.AM
theorem zce (k:Int)(s:List UInt8)(n:Int)(l:List Tm)(a:Tm)(r:List Tm):z2e (.mk k s n l) (a::r)=if (k==6)=true∧l ≠ [] then .mk 6 [] 0 (l++a::r) else .mk 6 [] 0 (.mk k s n l::a::r):=rfl
end Go.AM

set_option maxRecDepth 100000
open Go Go.Proofs
namespace Go.AM
mutual
theorem nd_sz:∀ t:Tm,nd t=t.sz
 | .mk _ _ _ l=>by simp only [nd,Tm.sz,znt l]
theorem znt:∀ l:List Tm,nds l=Tm.szs l
 | []=>rfl
 | t::l=>by simp only [nds,Tm.szs,nd_sz t,znt l]
end
theorem el0 (x:Tm)(l:List Tm):FV.L 4 (.sl false 4 (FTs (x::l)))=true∧((0:Int)≤0∧((0:Int)<(((FTs (x::l)).length:Nat):Int)∧(rE (List.getD (FTs (x::l)) 0 []):List FV)=List.getD (FTs (x::l)) 0 [])):=⟨rfl,Int.le_refl _,by rw [lenI];simp only [List.length_cons];omega,z2l x⟩
end Go.AM

set_option maxRecDepth 100000
open Go Go.Proofs
namespace Go.AM
theorem zgb {f:Tm}{args:List Tm}(hf:okB f=true)(ha:okL args=true):okB (z2e f args)=true:=by
 match args,ha with
 | [],_=>exact hf
 | a::r,ha=>
  obtain ⟨k,s,n,l⟩:=f;rw [zce];split
  · rename_i h;have hk:k=6:=by simpa using h.1
    obtain ⟨x,y,r',rfl,h6,hl⟩:=okB6 hf hk
    have hall:okL ((x::y::r')++a::r)=true:=okL_of fun t ht=>by
     rcases List.mem_append.1 ht with ht | ht
     · exact zex hl ht
     · exact zex ha ht
    have h6':(x.k !=6)=true:=by simpa using h6
    rw [okB,hall];simp [hd,h6]
  · rename_i h;have h6:k≠6:=fun e=>h ⟨by simpa using e,ok_ne hf e⟩;have hall:okL (.mk k s n l::a::r)=true:=by simp only [okL,Bool.and_eq_true] at ha ⊢;exact ⟨hf,ha⟩
    rw [okB,hall];simp [hd,Tm.k,h6]
theorem withF_ok {k n:Int}{s:List UInt8}{l o:List Tm}(h:okB (.mk k s n l)=true)(hk:k=5∨k=6)(ho:okL o=true)(hlen:o.length=l.length):okB (z2f (.mk k s n l) o)=true:=by
 obtain ⟨rfl,rfl⟩:=okB_sn h hk;unfold z2f;split
 · rename_i hc
   match o,ho,hc with
   | [],_,hc=>simp at hc
   | x::r,ho,hc=>
    simp only [okL,Bool.and_eq_true] at ho;exact zgb ho.1 ho.2
 · rename_i hc;show okB (.mk k [] 0 o)=true;rcases hk with rfl | rfl
   · obtain ⟨x,rfl,_⟩:=okB5 h rfl;rw [okB,ho];simp only [List.length_cons,List.length_nil] at hlen;simp [hlen]
   · obtain ⟨x,y,r,rfl,h6,_⟩:=okB6 h rfl;have h1:¬(hd o).k=6:=fun e=>hc ⟨rfl,by rw [hlen];simp,by simpa [hd] using e,show (x.k !=6)=true by simpa using h6⟩;rw [okB,ho];simp only [List.length_cons] at hlen;simp [hlen,h1]
mutual
theorem zf8 (lf:Tm→Int→Tm)(h:∀ u d,okB u=true→u.k≠5→u.k≠6→okB (lf u d)=true):∀ (t:Tm) (d:Int),okB t=true→okB (z0a lf t d)=true
 | .mk k s n l,d,ho=>by
  rw [z0a];split
  · rename_i hk;exact withF_ok ho (by simpa using hk) (zki lf h l _ (okB_l ho)) (z9b ..)
  · rename_i hk;exact h _ _ ho (fun e=>hk (by simp [show k=5 from e])) (fun e=>hk (by simp [show k=6 from e]))
theorem zki (lf:Tm→Int→Tm)(h:∀ u d,okB u=true→u.k≠5→u.k≠6→okB (lf u d)=true):∀ (l:List Tm) (d:Int),okL l=true→okL (z08 lf l d)=true
 | [],_,_=>rfl
 | t::l,d,ho=>by
  simp only [okL,Bool.and_eq_true] at ho;simp only [z08,okL,zf8 lf h t d ho.1,zki lf h l d ho.2,Bool.and_self]
end
theorem zkw {k n m:Int}{s:List UInt8}{l:List Tm}(h:okB (.mk k s n l)=true)(h5:k≠5)(h6:k≠6):okB (.mk k s m l)=true:=by
 have:l=[]:=okB0 h h5 h6;subst this;simp [okB,h5,h6,okL]
theorem shT_ok {fr by_:Int}{t:Tm}(d:Int)(h:okB t=true):okB (shT fr by_ t d)=true:=by
 refine zf8 _ (fun u d hu h5 h6=> ?_) t d h;unfold z2n;split
 · obtain ⟨k,s,n,l⟩:=u;exact zkw hu h5 h6
 · exact hu
theorem suT_ok {i:Int}{s t:Tm}(d:Int)(hs:okB s=true)(h:okB t=true):okB (suT i s t d)=true:=by
 refine zf8 _ (fun u d hu h5 h6=> ?_) t d h;unfold z1z;split
 · split
   · exact hu
   · split
     · exact shT_ok _ hs
     · obtain ⟨k,s,n,l⟩:=u;exact zkw hu h5 h6
 · exact hu
end Go.AM

set_option maxRecDepth 100000
open Go Go.Proofs

set_option maxRecDepth 100000
open Go Go.Proofs
namespace Go.AM
mutual
theorem zqy:∀ (t:Tm) (m:Int),0≤z7x t m→(t.sz:Int)≤m-z7x t m
 | .mk _ s _ l,m,h=>by
  simp only [z7x] at h ⊢;have:=zkp l (m-1) h;simp only [Tm.sz];omega
theorem zkp:∀ (l:List Tm) (m:Int),0≤z88 l m→(Tm.szs l:Int)≤m-z88 l m
 | [],m,h=>by simp [z88,Tm.szs]
 | t::l,m,h=>by
  simp only [z88] at h ⊢;split at h
  · rename_i h0;rw [if_pos h0];have h1:=zkp l _ h;have h3:=(zf7 l (z7x t m)).1;have h2:=zqy t m (by omega);simp only [Tm.szs];omega
  · rename_i h0;exact absurd h h0
end
theorem large_sz {t:Tm}{m:Int}(h:zc2 t m=false):(t.sz:Int)≤m:=by
 have h:=of_decide_eq_false h;have:=zqy t m (by omega);omega
end Go.AM

set_option maxRecDepth 100000
open Go Go.Proofs
namespace Go.AM
mutual
def lvB:Tm→Bool
 | .mk k s n l=>if (k==5||k==6)=true then lvL l else validB (.mk k s n l)
def lvL:List Tm→Bool
 | []=>true
 | t::l=>lvB t&&lvL l
end
theorem zey:∀ {l:List Tm} {t:Tm},lvL l=true→t∈l→lvB t=true
 | x::l,t,h,hm=>by
  simp only [lvL,Bool.and_eq_true] at h;rcases List.mem_cons.1 hm with rfl | hm
  · exact h.1
  · exact zey h.2 hm
theorem lvL_of:∀ {l:List Tm},(∀ t∈l,lvB t=true)→lvL l=true
 | [],_=>rfl
 | t::l,h=>by simp only [lvL,h t List.mem_cons_self,lvL_of (l:=l) fun u hu=>h u (List.mem_cons_of_mem _ hu),Bool.and_self]
theorem z92 {k n:Int}{s:List UInt8}{l:List Tm}(hk:k=5∨k=6):lvB (.mk k s n l)=lvL l:=by
 rw [lvB,if_pos (by rcases hk with rfl | rfl<;>rfl)]
theorem zbl {k n:Int}{s:List UInt8}{l:List Tm}(h5:k≠5)(h6:k≠6):lvB (.mk k s n l)=validB (.mk k s n l):=by
 rw [lvB,if_neg (by simp [h5,h6])]
theorem valid5 {s:List UInt8}{n:Int}{l:List Tm}:validB (.mk 5 s n l)=(n==0&&s==[]&&decide (l.length=1)&&z1x l):=by
 rw [validB,lenI];simp only [show ((5:Int)==0)=false from rfl,show ((5:Int)==1)=false from rfl,show ((5:Int)==2)=false from rfl,show ((5:Int)==3)=false from rfl,show ((5:Int)==4)=false from rfl,Bool.false_eq_true,if_false,show ((5:Int)==5)=true from rfl,if_true];congr 2;by_cases h:l.length=1
 · rw [h];rfl
 · rw [decide_eq_false h];simp;omega
theorem valid6 {s:List UInt8}{n:Int}{l:List Tm}:validB (.mk 6 s n l)=(n==0&&decide (2≤l.length)&&((hd l).k !=6)&&s==[]&&z1x l):=by
 rw [validB,lenI];simp only [show ((6:Int)==0)=false from rfl,show ((6:Int)==1)=false from rfl,show ((6:Int)==2)=false from rfl,show ((6:Int)==3)=false from rfl,show ((6:Int)==4)=false from rfl,show ((6:Int)==5)=false from rfl,Bool.false_eq_true,if_false,show ((6:Int)==6)=true from rfl,if_true];congr 4;by_cases h:2≤l.length
 · rw [decide_eq_true h,decide_eq_true (by omega)]
 · rw [decide_eq_false h,decide_eq_false (by omega)]
mutual
theorem z4n:∀ t:Tm,validB t=(okB t&&lvB t)
 | .mk k s n l=>by
  by_cases h5:k=5
  · subst h5;rw [valid5,z92 (.inl rfl),z7t l,okB];cases okL l<;>cases lvL l<;>simp [Bool.and_comm,Bool.and_assoc]
  · by_cases h6:k=6
    · subst h6;rw [valid6,z92 (.inr rfl),z7t l,okB];cases okL l<;>cases lvL l<;>simp [Bool.and_comm,Bool.and_assoc]
    · rw [zbl h5 h6];cases hv:validB (.mk k s n l) with
      | false=>simp
      | true=>rw [z0f _ hv];rfl
theorem z7t:∀ l:List Tm,z1x l=(okL l&&lvL l)
 | []=>rfl
 | t::l=>by
  rw [z1x,okL,lvL,z4n t,z7t l];cases okB t<;>cases lvB t<;>simp
end
theorem z9v {t:Tm}(h:validB t=true):lvB t=true:=by rw [z4n] at h;simp at h;exact h.2
theorem zhh {f:Tm}{args:List Tm}(hf:lvB f=true)(ha:lvL args=true):lvB (z2e f args)=true:=by
 match args,ha with
 | [],_=>exact hf
 | a::r,ha=>
  obtain ⟨k,s,n,l⟩:=f;rw [zce];split
  · rename_i h;have hk:k=6:=by simpa using h.1
    rw [z92 (.inr hk)] at hf;rw [z92 (.inr rfl)]
    exact lvL_of fun t ht=>by
     rcases List.mem_append.1 ht with ht | ht
     · exact zey hf ht
     · exact zey ha ht
  · rw [z92 (.inr rfl)];simp only [lvL,Bool.and_eq_true] at ha ⊢;exact ⟨hf,ha⟩
theorem withF_lv {t:Tm}{o:List Tm}(hk:t.k=5∨t.k=6)(ho:lvL o=true):lvB (z2f t o)=true:=by
 obtain ⟨k,s,n,l⟩:=t;unfold z2f;split
 · rename_i hc
   match o,ho,hc with
   | [],_,hc=>exact absurd hc.2.1 (by simp)
   | x::r,ho,hc=>
    simp only [lvL,Bool.and_eq_true] at ho;exact zhh ho.1 ho.2
 · exact (z92 hk).trans ho
mutual
theorem zez (lf:Tm→Int→Tm)(Q:Tm→Int→Prop)(hq:∀ k s n l d,Q (.mk k s n l) d→∀ u∈l,Q u (d+if (k==5)=true then 1 else 0))(h:∀ u d,lvB u=true→Q u d→u.k≠5→u.k≠6→lvB (lf u d)=true):∀ (t:Tm) (d:Int),lvB t=true→Q t d→lvB (z0a lf t d)=true
 | .mk k s n l,d,ho,hQ=>by
  rw [z0a];split
  · rename_i hk;have hk:k=5∨k=6:=by simpa using hk
    rw [z92 hk] at ho;exact withF_lv hk (zla lf Q hq h l _ ho (hq k s n l d hQ))
  · rename_i hk;exact h _ _ ho hQ (fun e=>hk (by simp [show k=5 from e])) (fun e=>hk (by simp [show k=6 from e]))
theorem zla (lf:Tm→Int→Tm)(Q:Tm→Int→Prop)(hq:∀ k s n l d,Q (.mk k s n l) d→∀ u∈l,Q u (d+if (k==5)=true then 1 else 0))(h:∀ u d,lvB u=true→Q u d→u.k≠5→u.k≠6→lvB (lf u d)=true):∀ (l:List Tm) (d:Int),lvL l=true→(∀ u∈l,Q u d)→lvL (z08 lf l d)=true
 | [],_,_,_=>rfl
 | t::l,d,ho,hQ=>by
  simp only [lvL,Bool.and_eq_true] at ho;simp only [z08,lvL,zez lf Q hq h t d ho.1 (hQ t List.mem_cons_self),zla lf Q hq h l d ho.2 (fun u hu=>hQ u (List.mem_cons_of_mem _ hu)),Bool.and_self]
end
theorem zcq {s:List UInt8}{n:Int}{l:List Tm}:validB (.mk 3 s n l)=true↔0≤n∧n≤4611686018427387904∧s=[]∧l=[]:=by
 rw [validB,lenI];simp only [show ((3:Int)==0)=false from rfl,show ((3:Int)==1)=false from rfl,show ((3:Int)==2)=false from rfl,Bool.false_eq_true,if_false,show ((3:Int)==3)=true from rfl,if_true];simp only [Bool.and_eq_true,decide_eq_true_eq,beq_iff_eq];constructor
 · rintro ⟨⟨⟨⟨h1,h2⟩,h3⟩,h4⟩,_⟩;exact ⟨h1,h2,h3,List.eq_nil_of_length_eq_zero (by omega)⟩
 · rintro ⟨h1,h2,rfl,rfl⟩;exact ⟨⟨⟨⟨h1,h2⟩,rfl⟩,rfl⟩,rfl⟩
theorem shT_lv {by_ M D:Int}(h0:0≤by_)(hM:M+by_≤4611686018427387904)(t:Tm)(d:Int)(fr:Int)(hb:bd M t)(h:lvB t=true)(_:d≤D):lvB (shT fr by_ t d)=true:=by
 refine zez _ (fun u _=>bd M u) (fun k s n l d hQ u hu=>z3z hQ.2 hu) (fun u d hu hQ h5 h6=> ?_) t d h hb;unfold z2n;split
 · rename_i hc;obtain ⟨k,s,n,l⟩:=u;have hk:k=3:=by have hc:=hc.1;have hc:(k==3)=true:=hc;simpa using hc
   subst hk;rw [zbl (by decide) (by decide),zcq] at hu;have hb:=hQ.1 rfl;show lvB (.mk 3 s (n+by_) l)=true;rw [zbl (by decide) (by decide),zcq];exact ⟨by omega,by omega,hu.2.2.1,hu.2.2.2⟩
 · exact hu
theorem suT_lv {i M:Int}{s t:Tm}{D:Int}(hi:0≤i)(hM:M+D≤4611686018427387904)(hbs:bd M s)(hs:lvB s=true)(hl:lvB t=true)(d:Int)(h0:0≤d)(hD:d+t.sz≤D):lvB (suT i s t d)=true:=by
 refine zez _ (fun u d=>0≤d∧d+u.sz≤D) (fun k s n l d hQ u hu=> ?_) (fun u d hu hQ h5 h6=> ?_) t d hl ⟨h0,hD⟩
 · have:=Tm.szs_mem hu;simp only [Tm.sz] at hQ;constructor
   · have:=hQ.1;split<;>omega
   · have:=hQ.2;split<;>omega
 · unfold z1z;split
   · rename_i hc;split
     · exact hu
     · rename_i hlt;split
       · have:=hQ.2;exact shT_lv hQ.1 (D:=0) (by omega) s 0 0 hbs hs (Int.le_refl _)
       · rename_i hne;obtain ⟨k,s',n,l⟩:=u;have hk:k=3:=by have hc:(k==3)=true:=hc;simpa using hc
         subst hk;rw [zbl (by decide) (by decide),zcq] at hu;have h1:¬n<d+i:=hlt;have h2:n≠d+i:=fun e=>hne (by rw [show Tm.n (.mk 3 s' n l)=n from rfl,e];simp);show lvB (.mk 3 s' (n-1) l)=true;rw [zbl (by decide) (by decide),zcq];have:=hQ.1;exact ⟨by omega,by omega,hu.2.2.1,hu.2.2.2⟩
   · exact hu
end Go.AM

set_option maxRecDepth 100000
open Go Go.Proofs
namespace Go.AM
theorem z3e {k n:Int}{s:List UInt8}{l:List Tm}(h:validB (.mk k s n l)=true)(hk:k=5∨k=6):∀ u∈l,validB u=true:=fun u hu=>by
 rw [z4n,Bool.and_eq_true] at h ⊢;have h1:=okB_l h.1;have h2:=h.2;rw [z92 hk] at h2;exact ⟨zex h1 hu,zey h2 hu⟩
def LeW (p q:Bool×List WV):Prop:=p.1=q.1∧All2 WV.Le p.2 q.2
theorem zel {α β:Type}{R:α→β→Prop}:∀ {a:List α} {b:List β},All2 R a b→a.length=b.length∧∀ (i:Nat) (x:α) (y:β),a[i]? =some x→b[i]? =some y→R x y
 | [],[],_=>⟨rfl,fun i x y hx _=>by simp at hx⟩
 | x::a,y::b,h=>by
  have:=zel h.2;refine ⟨by simp [this.1],fun i u v hu hv=> ?_⟩
  match i,hu,hv with
  | 0,hu,hv=>simp at hu hv;subst hu;subst hv;exact h.1
  | i+1,hu,hv=>exact this.2 i u v (by simpa using hu) (by simpa using hv)
 | [],_::_,h=>h.elim
 | _::_,[],h=>h.elim
theorem zph {a b:List (Bool×List WV)}(h:All2 LeW a b):TV.Le (.tup a) (.tup b):=by
 have:=zel h;refine .tup _ _ this.1 fun i p q hp hq=> ?_;have h1:=this.2 i p q hp hq;have h2:=zel h1.2;exact ⟨h1.1,h2.1,h2.2⟩
theorem lw1 {x y:WV}{b:Bool}(h:WV.Le x y):LeW (b,[x]) (b,[y]):=⟨rfl,h,trivial⟩
theorem lwR (p:Bool×List WV):LeW p p:=by
 obtain ⟨b,l⟩:=p;refine ⟨rfl, ?_⟩;show All2 WV.Le l l
 induction l with
 | nil=>trivial
 | cons x l ih=>exact ⟨.refl _,ih⟩
theorem zej (t:List (List FV)):List.take (Int.toNat ((t.length:Nat):Int)) t=t:=by rw [Int.toNat_natCast,List.take_of_length_le (Nat.le_refl _)]
end Go.AM

set_option maxRecDepth 100000
open Go Go.Proofs
namespace Go.AM
def z00 (t:Tm):Tm×List Tm:=if t.k=6∧validB t=true then (hd t.l,t.l.drop 1) else (t,[])
abbrev aSp (z:Tm×List Tm):TV:= .tup [(true,cT z.1),(false,[.a (.fz (.sl false 4 (FTs z.2)))])]
theorem z67 (t:Tm)(hz:t.sz≤B):AC Tryz.prog 54 [aT t] [] (aSp (z00 t)) []:=by
 have h1:=z2r t hz;have hlen:=Tm.szs_length t.l;have hsz:=t.sz_eq;obtain ⟨k,str,n,l⟩:=t
 have no:∀ x:FV,FV.Le x (.sl false 4 (FTs []))→TV.Le (.tup [(true,[.a (.fz (.int .i64 k)), .a (.fz (.str str)), .a (.fz (.int .i64 n)), .a (.fz (.sl false 4 (FTs l)))]),(false,[.a (.fz x)])]) (aSp (.mk k str n l,[])):=
  fun x hx=>zph ⟨lwR _,lw1 (.a _ _ (.fz _ _ hx)),trivial⟩
 refine AC.vc hP sh lv54 (Nat.le_refl _) (by simp) (by simp) (Eq.mpr (v54 k str n (FTs l) _ _) ?_);refine z03 (fun h=> ?_) (fun h=>⟨_,h1,z03 (fun h'=> ?_) (fun h'=> ?_)⟩)
 · rw [z00,if_neg (fun e=>by have e1:k=6:=e.1;subst e1;cases h)];exact ⟨no _ z3i,rfl⟩
 · rw [z00,if_neg (fun e=>by rw [show validB (.mk k str n l)=false by simpa using h'] at e;cases e.2)];exact ⟨no _ z3i,rfl⟩
 · have h6:k=6:=by simpa using h
   subst h6;have hv:validB (.mk 6 str n l)=true:=by simpa using h'
   obtain ⟨x,y,r,rfl,hx6,hl⟩:=okB6 (z0f _ hv) rfl;simp only [Tm.l,List.length_cons,B] at hlen hsz hz;have hcl:=zr5.1 (FTs (y::r)) (by simp [FTs]) (by rw [z02];simp only [List.length_cons,B];omega);have e1:List.drop 1 (List.take (Int.toNat (((FTs (x::y::r)).length:Nat):Int)) (FTs (x::y::r)))=FTs (y::r):=by rw [zej];rfl
   rw [e1,z00,if_pos ⟨rfl,hv⟩];refine ⟨el0 x (y::r),rfl,⟨by omega,by rw [z02];simp only [List.length_cons];omega,Int.le_refl _⟩, .inr ⟨_,hcl,⟨rfl,by omega⟩, ?_,rfl⟩⟩;rw [List.drop_zero,List.take_of_length_le (Nat.le_refl _),show cE (List.getD (FTs (x::y::r)) 0 [])=cT x from cE_FT x];exact .refl _
end Go.AM

set_option maxRecDepth 100000
open Go Go.Proofs
namespace Go.AM
mutual
def unF (n:Int):Tm→Bool
 | .mk k _ m l=> !(k==1||k==4&&decide (m≥n))&&unL n l
def unL (n:Int):List Tm→Bool
 | []=>true
 | t::l=>unF n t&&unL n l
end
theorem zqv (n:Int):∀ l:List Tm,unL n l=l.all (unF n)
 | []=>rfl
 | t::l=>by rw [unL,zqv n l];rfl
theorem unF_eq (n:Int)(t:Tm):unF n t=(!(t.k==1||t.k==4&&decide (t.n≥n))&&t.l.all (unF n)):=by
 obtain ⟨k,s,m,l⟩:=t;rw [unF,zqv];rfl
def zc1 (t:Tm):Bool:=t.k==0&&(t.s==[]&&(t.n==0&&t.l.isEmpty))
def plB (n:Int)(t:Tm):Bool:=validB t&&(decide (z3u t 0 0≤0)&&unF n t)
def logs:List (List UInt8):=[[58,45],[44],[59],[61,62],[61],[105,115],[60],[61,60],[62],[62,61],[116,114,117,101],[102,97,105,108],[33],[112,105],[115,105,103,109,97]]
def nums:List (List UInt8):=[[105,115],[60],[61,60],[62],[62,61]]
def logB (s:List UInt8):Bool:=logs.contains s
def numB (s:List UInt8):Bool:=nums.contains s
def nmB (s:List UInt8):Bool:=(zbr s||zg s) && !logB s
def cntB (ar fr vs sl:Int):Bool:=decide (0≤ar∧ar≤4096∧0≤fr∧fr≤4096∧0≤vs∧vs≤4096∧sl≤4096∧fr+vs≤sl)
def zbx (t:Tm):Bool:=(z00 t).1.k==0 && !logB (z00 t).1.s
def isNum (t:Tm):Bool:=(z00 t).1.k==0&&(numB (z00 t).1.s&&(z00 t).2.length==2)
def useA (k:Int):Bool:=k==0||k==1||k==9||k==10||k==11||k==13
def useT (k:Int):Bool:=k==0||k==1||k==2||k==3||k==6
def insB (ar fv sl n at_:Int)(was:Option (Int×Int))(k a:Int)(t:Tm):Bool:=
 if k=0∨k=1 then decide (0≤a∧a<ar)&&((k==0||t.k==0||t.k==2)&&match was with | none=>true | some w=>(w.1==0||w.1==1)&&decide (w.2<a))
 else if k=2∨k=3 then zbx t
 else if k=6 then isNum t
 else if k=9∨k=10 then decide (at_<a∧a<n)
 else if k=11∨k=13 then decide (fv≤a∧a<sl)
 else decide (0≤k∧k≤15)
def fldB (ar fv sl n at_:Int)(was:Option (Int×Int))(k a:Int)(t:Tm)(l:List Tm)(c:Bool):Bool:=
 (zc1 t||validB t)&&(insB ar fv sl n at_ was k a t&&((useA k||a==0)&&((k==14||c)&&((if k=5 then l.length==2 else l.isEmpty)&&((if useT k=true then plB sl t else zc1 t)&&l.all (plB sl))))))
abbrev Pl:=Bool×Int×Int
def z5b (l:List Pl)(at_:Int)(p:Int×Int):Option (List Pl):=
 if at_<(l.length:Int) then (if (l.getD at_.toNat (false,0,0)).1=false then some (l.set at_.toNat (true,p)) else if l.getD at_.toNat (false,0,0)=(true,p) then some l else none) else none
def aftP (k:Int)(p:Int×Int):Int×Int:=if k=11 then (p.1+1,p.2) else if k=12 then (p.1-1,p.2) else if k=14 then (p.1,p.2+1) else if k=15 then (p.1,p.2-1) else p
def zfp (l:List Pl)(i k a:Int):Option (List Pl):=
 if (l.getD i.toNat (false,0,0)).1=false then some l
 else if k=3∨k=4 then (if (l.getD i.toNat (false,0,0)).2=(0,0) then some l else none)
 else if k=8 then some l
 else if (aftP k (l.getD i.toNat (false,0,0)).2).1<0∨(aftP k (l.getD i.toNat (false,0,0)).2).2<0 then none
 else if k=9∨k=10 then
  match z5b l a (aftP k (l.getD i.toNat (false,0,0)).2) with
  | none=>none
  | some l'=>if k=10 then some l' else z5b l' (i+1) (aftP k (l.getD i.toNat (false,0,0)).2)
 else z5b l (i+1) (aftP k (l.getD i.toNat (false,0,0)).2)
def z82:List Pl→Int→List In1→Bool
 | _,_,[]=>true
 | l,i,x::r=>match zfp l i x.k x.a with | none=>false | some l'=>z82 l' (i+1) r
def zlt (ins:List In1):Bool:=z82 ((List.replicate ins.length (false,0,0)).set 0 (true,0,0)) 0 ins
def zo (ins:List In1):Bool:=match ins.getLast? with | none=>false | some x=>x.k==3||x.k==4||x.k==8
mutual
def vC:Cd→Bool
 | .mk nm ar fr vs sl ins=>nmB nm&&(cntB ar fr vs sl&&(zo ins&&(vIs ar (fr+vs) sl ins.length 0 none ins&&zlt ins)))
def vIs (ar fv sl n:Int):Int→Option (Int×Int)→List In1→Bool
 | _,_,[]=>true
 | at_,was, .mk k a t l c::r=>fldB ar fv sl n at_ was k a t l c.isEmpty&&(vCs sl c&&vIs ar fv sl n (at_+1) (some (k,a)) r)
def vCs (sl:Int):List Cd→Bool
 | []=>true
 | c::r=>decide (c.fr≤sl)&&(vC c&&vCs sl r)
end
theorem zqk (sl:Int):∀ l:List Cd,vCs sl l=l.all fun c=>decide (c.fr≤sl)&&vC c
 | []=>rfl
 | c::l=>by rw [vCs,zqk sl l];simp [Bool.and_assoc]
end Go.AM

set_option maxRecDepth 100000
open Go Go.Proofs
namespace Go.AM
mutual
def sCd:Cd→Cd→Bool
 | .mk nm ar fr vs sl ins, .mk nm' ar' fr' vs' sl' ins'=>nm==nm'&&(ar==ar'&&(fr==fr'&&(vs==vs'&&(sl==sl'&&sIns ins ins'))))
def sIns:List In1→List In1→Bool
 | [],[]=>true
 | .mk k a t l c::r, .mk k' a' t' l' c'::r'=>k==k'&&(a==a'&&(z3a t t'&&(z3b l l'&&(sCds c c'&&sIns r r'))))
 | _,_=>false
def sCds:List Cd→List Cd→Bool
 | [],[]=>true
 | c::r,c'::r'=>sCd c c'&&sCds r r'
 | _,_=>false
end
mutual
theorem zpp:∀ a b:Cd,sCd a b=true↔a=b
 | .mk nm ar fr vs sl ins, .mk nm' ar' fr' vs' sl' ins'=>by
  rw [sCd];simp only [Bool.and_eq_true,beq_iff_eq,ze9 ins,Cd.mk.injEq]
theorem ze9:∀ a b:List In1,sIns a b=true↔a=b
 | [],[]=>by simp [sIns]
 | .mk k a t l c::r, .mk k' a' t' l' c'::r'=>by
  rw [sIns];simp only [Bool.and_eq_true,beq_iff_eq,ze9 r,zen c,zgg,zaz,List.cons.injEq,In1.mk.injEq,and_assoc]
 | [], .mk _ _ _ _ _::_=>by simp [sIns]
 | .mk _ _ _ _ _::_,[]=>by simp [sIns]
theorem zen:∀ a b:List Cd,sCds a b=true↔a=b
 | [],[]=>by simp [sCds]
 | c::r,c'::r'=>by
  rw [sCds];simp only [Bool.and_eq_true,zpp c,zen r,List.cons.injEq]
 | [],_::_=>by simp [sCds]
 | _::_,[]=>by simp [sCds]
end
theorem sCd_self (c:Cd):sCd c c=true:=(zpp c c).2 rfl
end Go.AM

set_option maxRecDepth 100000
open Go Go.Proofs
namespace Go.AM
abbrev i64 (x:Int):Prop:= -9223372036854775808≤x∧x≤9223372036854775807
end Go.AM

set_option maxRecDepth 100000
open Go Go.Proofs
namespace Go.AM
theorem z4m (s:List UInt8):AC Tryz.prog 35 [cs s] [] (cb (logB s)) []:=by
 refine AC.vc hP sh lv35 (Nat.le_refl _) (by simp) (by simp) (Eq.mpr (v35 ..) ?_)
 repeat' (refine z03 (fun _=> ?_) (fun _=> ?_))
 all_goals exact z04 (by simp_all [logB,logs])
def ixI (p:Int→Bool):List Int→Nat→Int
 | [],_=> -1
 | t::l,i=>if p t=true then (i:Int) else ixI p l (i+1)
theorem zpu (p:Int→Bool):∀ (l:List Int) (i:Nat),decide (ixI p l i≥0)=l.any p
 | [],_=>rfl
 | t::l,i=>by
  rw [ixI,List.any_cons];split
  · rename_i h;rw [h];simp
  · rename_i h;rw [zpu p l,show p t=false by simpa using h,Bool.false_or]
def cntN (n:Int):Bool:=decide (n<0)||decide (n>4096)
theorem zp4 (n:Int):AC Tryz.prog 76 [ci n] [] (cb (cntN n)) []:=by
 refine AC.vc hP sh lv76 (Nat.le_refl _) (by simp) (by simp) (Eq.mpr (v76 ..) ?_);exact z03 (fun h=>z04 (by rw [cntN,h];rfl)) (fun h=>z04 (by rw [cntN,h];rfl))
theorem zn3 (b:List Int):∀ a:List Int,(a++b).length≤B→RPt Tryz.prog 114 0 (ci (ixI cntN b a.length)) [] 1 ⟨[(0, .c (.a (.fz (.sl false 1 (IR (a++b)))))),(1, .c (.fn (.func 76) [] [])),(7,ci (a++b).length),(8,ci a.length)],[],0⟩:=by
 induction b with
 | nil=>
  intro a hs;refine RPt.vc hP sh zs2 (Eq.mpr (zaq ..) ?_);exact z03 (fun h=>absurd (of_decide_eq_true h) (by simp)) (fun _=>z2g rfl)
 | cons t b ihb=>
  intro a hs;have h2:=ihb (a++ [t]) (by simpa using hs);rw [ap,nx,show (a++ [t]).length=a.length+1 by simp] at h2;rw [ixI];simp only [List.length_append,List.length_cons,B] at hs;have h4:(a.length:Int)<((a++t::b).length:Int):=by simp only [List.length_append,List.length_cons];omega
  have em:List.getD (IR (a++t::b)) (Int.toNat (a.length:Int)) []=[.int .i64 t]:=by simp [IR]
  refine RPt.vc hP sh zs2 (Eq.mpr (zaq ..) ?_);rw [w64 (by omega) (by omega),em];refine z03 (fun _=>⟨⟨rfl,by omega,by simp only [IR,List.length_map];exact h4,rfl⟩,_,zp4 t,z03 (fun h=> ?_) (fun h=> ?_)⟩) (fun h=>absurd h4 (of_decide_eq_false h))
  · rw [if_pos h];exact z2g rfl
  · rw [if_neg (by rw [h];simp)];exact h2
theorem c_ccount (l:List Int)(hl:l.length≤B):AC Tryz.prog 36 [.c (.a (.fz (.sl false 1 (IR l))))] [] (cb (!l.any cntN)) []:=by
 have h:=zn3 l [] hl
 have h1:AC Tryz.prog 114 [.c (.a (.fz (.sl false 1 (IR l)))), .c (.fn (.func 76) [] [])] [] (ci (ixI cntN l 0)) []:=by
  refine AC.vc hP sh zs2 (Nat.le_refl _) (by simp) (by simp) (Eq.mpr (v114_F76 ..) ?_);rw [show (IR l).length=l.length by simp [IR]];exact ⟨rfl,h⟩
 have h2:AC Tryz.prog 75 [.c (.a (.fz (.sl false 1 (IR l)))), .c (.fn (.func 76) [] [])] [] (cb (l.any cntN)) []:=by
  refine AC.vc hP sh lv75 (Nat.le_refl _) (by simp) (by simp) (Eq.mpr (v75_F76 ..) ?_);exact ⟨_,h1,z04 (zpu cntN l 0)⟩
 refine AC.vc hP sh lv36 (Nat.le_refl _) (by simp) (by simp) (Eq.mpr (v36 ..) ?_);exact ⟨_,h2,z04 rfl⟩
def ixF (p:Tm→Bool):List Tm→Nat→Int
 | [],_=> -1
 | t::l,i=>if p t=true then (i:Int) else ixF p l (i+1)
theorem z6y (p:Tm→Bool):∀ (l:List Tm) (i:Nat),decide (ixF p l i≥0)=l.any p
 | [],_=>rfl
 | t::l,i=>by
  rw [ixF,List.any_cons];split
  · rename_i h;rw [h];simp
  · rename_i h;rw [z6y p l,show p t=false by simpa using h,Bool.false_or]
abbrev obN (n:Int):AObj:= .arr 1 [[.a (.fz (.int .i64 n))]]
abbrev obC (c:Cd):AObj:= .arr 6 [cCd c]
theorem zj2 (p:Tm→Bool)(n:Int)(b:List Tm):∀ a:List Tm,(a++b).length≤B→(∀ u∈b,AC Tryz.prog 117 [aT u, .c (.a (.ep 0 1 0 0))] [obN n] (cb (p u)) [obN n])→RPt Tryz.prog 84 1 (ci (ixF p b a.length)) [obN n] 1 ⟨[(0,aL (a++b)),(1, .c (.fn (.func 117) [] [(false,[.ep 0 1 0 0])])),(7,ci (a++b).length),(8,ci a.length)],[(0,obN n)],1⟩:=by
 induction b with
 | nil=>
  intro a hs _;refine RPt.vc hP sh lv84 (Eq.mpr (za7 ..) ?_);exact z03 (fun h=>absurd (of_decide_eq_true h) (by simp)) (fun _=>⟨.refl _,rfl⟩)
 | cons t b ihb=>
  intro a hs ih;have h3:=ltI' a t b;have h1:=ih t List.mem_cons_self;have h2:=ihb (a++ [t]) (by simpa using hs) (fun u hu=>ih u (List.mem_cons_of_mem _ hu));rw [ap,nx,show (a++ [t]).length=a.length+1 by simp] at h2;rw [ixF];simp only [List.length_append,List.length_cons,B] at hs;have h4:(a.length:Int)<((a++t::b).length:Int):=by simp only [List.length_append,List.length_cons];omega
  refine RPt.vc hP sh lv84 (Eq.mpr (za7 ..) ?_);rw [w64 (by omega) (by omega)];refine z03 (fun _=>⟨⟨rfl,by omega,h3,z5e ..⟩,p t,by rw [z8s];exact h1,z03 (fun h=> ?_) (fun h=> ?_)⟩) (fun h=>absurd h4 (of_decide_eq_false h))
  · rw [if_pos h];exact ⟨.refl _,rfl⟩
  · rw [if_neg (by rw [h];simp)];exact h2
theorem zfr (p:Tm→Bool)(n:Int)(l:List Tm)(hl:l.length≤B)(h:∀ u∈l,AC Tryz.prog 117 [aT u, .c (.a (.ep 0 1 0 0))] [obN n] (cb (p u)) [obN n]):AC Tryz.prog 39 [aL l, .c (.fn (.func 117) [] [(false,[.ep 0 1 0 0])])] [obN n] (cb (l.any p)) [obN n]:=by
 have h0:=zj2 p n l [] hl h
 have h1:AC Tryz.prog 84 [aL l, .c (.fn (.func 117) [] [(false,[.ep 0 1 0 0])])] [obN n] (ci (ixF p l 0)) [obN n]:=by
  refine AC.vc hP sh lv84 (Nat.le_refl _) (by simp [isLive]) (by simp) (Eq.mpr (v84_F117 ..) ?_);rw [z02];exact ⟨rfl,h0⟩
 refine AC.vc hP sh lv39 (Nat.le_refl _) (by simp [isLive]) (by simp) (Eq.mpr (v39_F117 ..) ?_);exact ⟨_,h1,by rw [z6y p l 0];exact ⟨.refl _,rfl⟩⟩
theorem l_ixcodd (p:Tm→Bool)(c:Cd)(b:List Tm):∀ a:List Tm,(a++b).length≤B→(∀ u∈b,AC Tryz.prog 77 [aT u, .c (.a (.ep 0 6 0 0))] [obC c] (cb (p u)) [obC c])→RPt Tryz.prog 84 1 (ci (ixF p b a.length)) [obC c] 1 ⟨[(0,aL (a++b)),(1, .c (.fn (.func 77) [] [(false,[.ep 0 6 0 0])])),(7,ci (a++b).length),(8,ci a.length)],[(0,obC c)],1⟩:=by
 induction b with
 | nil=>
  intro a hs _;refine RPt.vc hP sh lv84 (Eq.mpr (zd9 ..) ?_);exact z03 (fun h=>absurd (of_decide_eq_true h) (by simp)) (fun _=>⟨.refl _,rfl⟩)
 | cons t b ihb=>
  intro a hs ih;have h3:=ltI' a t b;have h1:=ih t List.mem_cons_self;have h2:=ihb (a++ [t]) (by simpa using hs) (fun u hu=>ih u (List.mem_cons_of_mem _ hu));rw [ap,nx,show (a++ [t]).length=a.length+1 by simp] at h2;rw [ixF];simp only [List.length_append,List.length_cons,B] at hs;have h4:(a.length:Int)<((a++t::b).length:Int):=by simp only [List.length_append,List.length_cons];omega
  refine RPt.vc hP sh lv84 (Eq.mpr (zd9 ..) ?_);rw [w64 (by omega) (by omega)];refine z03 (fun _=>⟨⟨rfl,by omega,h3,z5e ..⟩,p t,by rw [z8s];exact h1,z03 (fun h=> ?_) (fun h=> ?_)⟩) (fun h=>absurd h4 (of_decide_eq_false h))
  · rw [if_pos h];exact ⟨.refl _,rfl⟩
  · rw [if_neg (by rw [h];simp)];exact h2
theorem zr8 (p:Tm→Bool)(c:Cd)(l:List Tm)(hl:l.length≤B)(h:∀ u∈l,AC Tryz.prog 77 [aT u, .c (.a (.ep 0 6 0 0))] [obC c] (cb (p u)) [obC c]):AC Tryz.prog 39 [aL l, .c (.fn (.func 77) [] [(false,[.ep 0 6 0 0])])] [obC c] (cb (l.any p)) [obC c]:=by
 have h0:=l_ixcodd p c l [] hl h
 have h1:AC Tryz.prog 84 [aL l, .c (.fn (.func 77) [] [(false,[.ep 0 6 0 0])])] [obC c] (ci (ixF p l 0)) [obC c]:=by
  refine AC.vc hP sh lv84 (Nat.le_refl _) (by simp [isLive]) (by simp) (Eq.mpr (v84_F77 ..) ?_);rw [z02];exact ⟨rfl,h0⟩
 refine AC.vc hP sh lv39 (Nat.le_refl _) (by simp [isLive]) (by simp) (Eq.mpr (v39_F77 ..) ?_);exact ⟨_,h1,by rw [z6y p l 0];exact ⟨.refl _,rfl⟩⟩
theorem z9y (f:Tm→Bool)(l:List Tm):(!l.any fun t=> !f t)=l.all f:=by induction l with | nil=>rfl | cons t l ih=>rw [List.any_cons,List.all_cons,←ih];cases f t<;>simp
theorem c_cunder (n:Int):∀ t:Tm,t.sz≤B→AC Tryz.prog 79 [aT t,ci n] [] (cb (unF n t)) []:=by
 refine Tm.ind fun t ih hs=> ?_;have hl:=Tm.szs_length t.l;have he:=t.sz_eq
 have hk:∀ u∈t.l,AC Tryz.prog 117 [aT u, .c (.a (.ep 0 1 0 0))] [obN n] (cb (!unF n u)) [obN n]:=fun u hu=>by
  have h1:=ih u hu (by have:=Tm.szs_mem hu;omega);refine AC.vc hP sh lv117 (Nat.le_refl _) (by simp [isLive]) (by simp) (Eq.mpr (v117 ..) ?_);exact ⟨_,h1, .refl _,rfl⟩
 have h2:=zfr (fun u=> !unF n u) n t.l (by omega) hk;refine AC.vc hP sh lv79 (Nat.le_refl _) (by simp) (by simp) (Eq.mpr (v79 ..) ?_);have e:=z9y (unF n) t.l;rw [unF_eq,←e];refine z03 (fun h=>z04 (by rw [h];rfl)) (fun h=>z03 (fun h'=>z03 (fun q=>z04 (by rw [h,h',q];rfl)) (fun q=>⟨_,h2,z04 (by rw [h,h',q];rfl)⟩)) (fun h'=>⟨_,h2,z04 (by rw [h,h'];rfl)⟩))
theorem znl (t:Tm):z3a t (.mk 0 [] 0 [])=zc1 t:=by
 obtain ⟨k,s,n,l⟩:=t;cases l with
 | nil=>simp [z3a,z3b,zc1,Tm.k,Tm.s,Tm.n,Tm.l]
 | cons x l=>simp [z3a,z3b,zc1,Tm.k,Tm.s,Tm.n,Tm.l]
theorem c_cempty (t:Tm)(hs:t.sz≤B):AC Tryz.prog 80 [aT t] [] (cb (zc1 t)) []:=by
 have h:=(c_same t hs (.mk 0 [] 0 [])).args (args:=[aT t, .agg [.a (.fz (.int .i64 0)), .a (.fz (.str [])), .a (.fz (.int .i64 0)), .a (.fz .N)]]) ⟨.refl _, .agg _ _ rfl (fun i x y hx hy=>by
  match i with
  | 0=>simp at hx hy;subst hx;subst hy;exact .refl _
  | 1=>simp at hx hy;subst hx;subst hy;exact .refl _
  | 2=>simp at hx hy;subst hx;subst hy;exact .refl _
  | 3=>simp at hx hy;subst hx;subst hy;exact .a _ _ (.fz _ _ z3i)
  | i+4=>simp at hx),trivial⟩
 refine AC.vc hP sh lv80 (Nat.le_refl _) (by simp) (by simp) (Eq.mpr (v80 ..) ?_);exact ⟨_,h,z04 (znl t)⟩
theorem c_codd (c:Cd)(t:Tm)(hs:t.sz≤B)(hb:bd 2305843009213693952 t):AC Tryz.prog 77 [aT t, .c (.a (.ep 0 6 0 0))] [obC c] (cb (!plB c.sl t)) [obC c]:=by
 have h1:=z2r t hs;have h2:=zpq t hs hb;have h3:=c_cunder c.sl t hs;refine AC.vc hP sh lv77 (Nat.le_refl _) (by simp [isLive]) (by simp) (Eq.mpr (v77 ..) ?_);refine ⟨_,h1,z03 (fun h=>⟨?_,rfl⟩) (fun h=>⟨_,h2,z03 (fun q=>⟨?_,rfl⟩) (fun q=>⟨_,h3, ?_,rfl⟩)⟩)⟩
 · rw [plB,show validB t=false by simpa using h];exact .refl _
 · have:decide (z3u t 0 0≤0)=false:=by have:=of_decide_eq_true q;exact decide_eq_false (by omega)
   rw [plB,this,Bool.false_and,Bool.and_false];exact .refl _
 · have:decide (z3u t 0 0≤0)=true:=by have:=of_decide_eq_false q;exact decide_eq_true (by omega)
   rw [plB,this,show validB t=true by simpa using h];exact .refl _
theorem c_anyOdd (c:Cd)(l:List Tm)(hl:l.length≤B)(hs:∀ t∈l,t.sz≤B∧bd 2305843009213693952 t):AC Tryz.prog 39 [aL l, .c (.fn (.func 77) [] [(false,[.ep 0 6 0 0])])] [obC c] (cb (!l.all (plB c.sl))) [obC c]:=by
 have h:=zr8 (fun t=> !plB c.sl t) c l hl (fun u hu=>c_codd c u (hs u hu).1 (hs u hu).2);rw [←z9y,Bool.not_not];exact h
theorem c_chead (k:Int):AC Tryz.prog 119 [ci k] [] (cb (k==0||k==1)) []:=by
 refine AC.vc hP sh lv119 (Nat.le_refl _) (by simp) (by simp) (Eq.mpr (v119 ..) ?_);exact z03 (fun h=>z04 (by rw [h];rfl)) (fun h=>z04 (by rw [h];rfl))
theorem c_cpred (t:Tm)(hs:t.sz≤B):AC Tryz.prog 120 [aT t] [] (cb (zbx t)) []:=by
 have h1:=z67 t hs;have h2:=z4m (z00 t).1.s;refine AC.vc hP sh lv120 (Nat.le_refl _) (by simp) (by simp) (Eq.mpr (v120 ..) ?_);exact ⟨_,h1,z03 (fun h=>⟨_,h2,z04 (by rw [zbx,h];rfl)⟩) (fun h=>z04 (by rw [zbx,h];rfl))⟩
theorem zo3 (t:Tm)(hs:t.sz≤B):AC Tryz.prog 121 [aT t] [] (cb (isNum t)) []:=by
 have h1:=z67 t hs;refine AC.vc hP sh lv121 (Nat.le_refl _) (by simp) (by simp) (Eq.mpr (v121 ..) ?_);refine ⟨_,h1, ?_⟩;rw [z02];have e2:((((z00 t).2.length:Nat):Int)==2)=((z00 t).2.length==2):=by rw [Bool.eq_iff_iff,beq_iff_eq,beq_iff_eq];omega
 rw [e2];unfold isNum numB nums;generalize (z00 t).1.s=s;generalize (z00 t).1.k=k;generalize ((z00 t).2.length==2)=b
 repeat' (first | refine z03 (fun _=> ?_) (fun _=> ?_) | refine And.intro (show FV.L 4 _=true by rfl) ?_)
 all_goals exact z04 (by simp_all)
def aftR (k:Int)(p:Int×Int):(Int×Int)×Bool×Bool:=
 if k=3∨k=4 then (p,false,p.1==0&&p.2==0) else if k=8 then (p,false,true) else (aftP k p,true,decide ((aftP k p).1≥0)&&decide ((aftP k p).2≥0))
theorem z6c {a b:TV}(h:a=b):TV.Le a b:=by rw [h];exact .refl _
theorem c_cafter (m:Bool)(p:Int×Int)(k:Int)(h1:0-M61≤p.1∧p.1≤M61)(h2:0-M61≤p.2∧p.2≤M61):AC Tryz.prog 83 [.agg [.a (.fz (.bool m)), .a (.fz (.int .i64 p.1)), .a (.fz (.int .i64 p.2))],ci k] []
  (.tup [(true,[.a (.fz (.bool m)), .a (.fz (.int .i64 (aftR k p).1.1)), .a (.fz (.int .i64 (aftR k p).1.2))]),(false,[.a (.fz (.bool (aftR k p).2.1))]),(false,[.a (.fz (.bool (aftR k p).2.2))])]) []:=by
 obtain ⟨x,y⟩:=p;simp only [M61] at h1 h2;refine AC.vc hP sh lv83 (Nat.le_refl _) (by simp) (by simp) (Eq.mpr (v83 ..) ?_);rw [w64 (x:=x+1) (by omega) (by omega),w64 (x:=x-1) (by omega) (by omega),w64 (x:=y+1) (by omega) (by omega),w64 (x:=y-1) (by omega) (by omega)];unfold aftR aftP
 repeat' (refine z03 (fun _=> ?_) (fun _=> ?_))
 all_goals refine zc8 (z6c ?_)
 all_goals simp_all
 all_goals omega
end Go.AM

set_option linter.unusedVariables false
namespace Go.AM
open Go.RowKit Go.Lib
end Go.AM

set_option maxRecDepth 100000
open Go Go.Proofs
namespace Go.AM
open Go.RowKit Go.Lib in
set_option maxHeartbeats 1000000 in
theorem zd0 (b:Addr)(n c:Nat)(hc:n≤c)(w:World):
  Calls Tryz.prog 164 #[.slice (some b) n c] w fun e w'=>e= .returned (.slice (some b) n n)∧w'=w:=by
 go_enter Tryz.func164,Tryz.ntmps164
 go_wp2
 go_ret
 exact ⟨rfl,rfl⟩
open Go.RowKit Go.Lib in
set_option maxHeartbeats 1000000 in
theorem zr3 (w:World):
  Calls Tryz.prog 164 #[.slice none 0 0] w fun e w'=>e= .returned (.slice none 0 0)∧w'=w:=by
 go_enter Tryz.func164,Tryz.ntmps164
 go_wp2
 go_ret
 exact ⟨rfl,rfl⟩
def AwP (w:World)(cells:List Value)(nv:Int)(any:Bool)(n1:Nat)(e:Ending)(w':World):Prop:=
 ∃ (cap:Nat) (tail:Array Value),e= .returned (.agg #[.int .i64 nv, .slice (some ⟨w.heap.size+4,0,none⟩) n1 cap, .bool any])∧n1≤cap∧w'.heap[w.heap.size+4]? =some (.cells (cells.toArray++tail) 25 (0,0))∧
  (∀ j,j<w.heap.size→w'.heap[j]? =w.heap[j]?)∧w'.heap.size=w.heap.size+5∧w'.os=w.os∧w'.tape=w.tape∧w'.output=w.output
theorem zdp (w:World)(a b c d e:Obj){j:Nat}(hj:j<w.heap.size):(((((w.alloc a).alloc b).alloc c).alloc d).alloc e).drew.drew.heap[j]? =w.heap[j]? :=by
 show ((((w.heap.push a).push b).push c).push d |>.push e)[j]? =_;rw [Array.getElem?_push,if_neg (by simp;omega),Array.getElem?_push,if_neg (by simp;omega),Array.getElem?_push,if_neg (by simp;omega),Array.getElem?_push,if_neg (by simp;omega),Array.getElem?_push,if_neg (by omega)]
theorem zek (w:World)(a b c d e:Obj):(((((w.alloc a).alloc b).alloc c).alloc d).alloc e).drew.drew.heap[w.heap.size+4]? =some e:=by
 show ((((w.heap.push a).push b).push c).push d |>.push e)[w.heap.size+4]? =_;rw [Array.getElem?_push,if_pos (by simp)]
theorem z9z (w:World)(a b c d e:Obj):(((((w.alloc a).alloc b).alloc c).alloc d).alloc e).drew.drew.heap.size=w.heap.size+5:=by
 show ((((w.heap.push a).push b).push c).push d |>.push e).size=_;simp
theorem four_old (w:World)(a b c d:Obj){j:Nat}(hj:j<w.heap.size):((((w.alloc a).alloc b).alloc c).alloc d).drew.drew.heap[j]? =w.heap[j]? :=by
 show ((((w.heap.push a).push b).push c).push d)[j]? =_;rw [Array.getElem?_push,if_neg (by simp;omega),Array.getElem?_push,if_neg (by simp;omega),Array.getElem?_push,if_neg (by simp;omega),Array.getElem?_push,if_neg (by omega)]
open Go.RowKit Go.Lib in
set_option maxHeartbeats 2000000 in
theorem zlk (bb off n c:Nat)(hc:n≤c)(hn:n≤1000000000)(olds:List Value)(hl:olds.length=n*4)(nv:Int)(any:Bool)(k s m lv:Value)(w:World)(hb:olds ≠ []→bb<w.heap.size)(hcell:∀ j v,olds[j]? =some v→w.cell? ⟨bb,off+j,none⟩=some v):
  Calls Tryz.prog 160 #[.agg #[.int .i64 nv,(.slice (some ⟨bb,off,none⟩) n c), .bool any], .agg #[k,s,m,lv]] w (AwP w (olds++ [k,s,m,lv]) nv any (n+1)):=by
 have hN1:¬(n+1≤n):=by omega
 have hN2:¬(9223372036854775807<(n:Int)+1∧Tryz.t25.bytes=0):=by omega
 have hN3:¬(281474976710656<Builtin.nextslicecap (n+1) n*Tryz.t25.bytes):=by
  have:=growslice_fits_succ (old:=n) (bytes:=Tryz.t25.bytes) (by show n*56≤_;omega) (by show 56≤_;omega);omega
 have hL:∀ W:World,(∀ j v,olds[j]? =some v→W.cell? ⟨bb,off+j,none⟩=some v)→Sem.run Tryz.prog (loadCellsFrom ⟨bb,off,none⟩ 0 (n*4) #[]) W= .ok olds.toArray W:=fun W h=>run_firstCells_some (P:=Tryz.prog) W 4 n ⟨bb,off,none⟩ n n olds hl (fun j v hj=>by rw [Addr.add_lit];exact h j v hj)
 go_enter Tryz.func160,Tryz.ntmps160
 go_wp2
 have hL1:=hL ((((w.alloc (Obj.cells #[Value.int IntKind.i64 nv,Value.slice (some ⟨bb,off,none⟩) n c,Value.bool any] 134)).alloc (Obj.cells #[k,s,m,lv] 25)).alloc (Obj.cells #[Value.int IntKind.i64 0,Value.slice none 0 0,Value.bool false] 134)).alloc (Obj.cells #[k,s,m,lv] 25)).drew.drew (fun j v hj=>by
  have h0:=hcell j v hj;have hlt:=hb (fun e=>by rw [e] at hj;simp at hj);have h9:=four_old w (Obj.cells #[Value.int IntKind.i64 nv,Value.slice (some ⟨bb,off,none⟩) n c,Value.bool any] 134) (Obj.cells #[k,s,m,lv] 25) (Obj.cells #[Value.int IntKind.i64 0,Value.slice none 0 0,Value.bool false] 134) (Obj.cells #[k,s,m,lv] 25) hlt;rw [←h0];unfold World.cell?;simp only [h9])
 go_region_with (first | (go_at_call 164;refine (zd0 ⟨bb,off,none⟩ n c hc _).mono ?_;rintro e w2 ⟨rfl,rfl⟩))
 all_goals go_wp2
 all_goals refine bodyPost_ret (v:= .agg #[.int .i64 nv, .slice (some ⟨w.heap.size+1+1+1+1,0,none⟩) (n+1) ((Question.appendCap (n+1) n 25).cut (w.tape (w.drawn+1) (Question.appendCap (n+1) n 25))), .bool any]) (by simp only [results,Tryz.f160];go_simp) rfl ?_
 all_goals exact ⟨_,Builtin.zeroCells #[.int .i64 0, .string ⟨#[]⟩, .int .i64 0, .slice none 0 0] (grownCap w.drew (n+1) n 25-(n+1)),rfl,grownCap_ge w.drew (n+1) n 25,(zek w _ _ _ _ _).trans (congrArg (fun q=>some (Obj.cells q 25 (0,0))) (by rw [←Array.append_assoc,show (olds++ [k,s,m,lv]).toArray=olds.toArray++ #[k,s,m,lv] by simp];rfl)),fun j hj=>zdp w _ _ _ _ _ hj,z9z w _ _ _ _ _,rfl,rfl,rfl⟩
open Go.RowKit Go.Lib in
set_option maxHeartbeats 2000000 in
theorem zr6 (nv:Int)(any:Bool)(k s m lv:Value)(w:World):
  Calls Tryz.prog 160 #[.agg #[.int .i64 nv, .slice none 0 0, .bool any], .agg #[k,s,m,lv]] w (AwP w ([]++ [k,s,m,lv]) nv any (0+1)):=by
 have hN3:¬(281474976710656<Builtin.nextslicecap 1 0*Tryz.t25.bytes):=by
  exact Nat.not_lt.2 (growslice_fits_succ (old:=0) (bytes:=Tryz.t25.bytes) (by show 0*56≤_;omega) (by show 56≤_;omega))
 go_enter Tryz.func160,Tryz.ntmps160
 go_wp2
 go_region_with (first | (go_at_call 164;refine (zr3 _).mono ?_;rintro e w2 ⟨rfl,rfl⟩))
 all_goals go_wp2
 all_goals refine bodyPost_ret (v:= .agg #[.int .i64 nv, .slice (some ⟨w.heap.size+1+1+1+1,0,none⟩) 1 ((Question.appendCap 1 0 25).cut (w.tape (w.drawn+1) (Question.appendCap 1 0 25))), .bool any]) (by simp only [results,Tryz.f160];go_simp) rfl ?_
 all_goals exact ⟨_,Builtin.zeroCells #[.int .i64 0, .string ⟨#[]⟩, .int .i64 0, .slice none 0 0] (grownCap w.drew 1 0 25-1),rfl,grownCap_ge w.drew 1 0 25,(zek w _ _ _ _ _).trans (congrArg (fun q=>some (Obj.cells q 25 (0,0))) rfl),fun j hj=>zdp w _ _ _ _ _ hj,z9z w _ _ _ _ _,rfl,rfl,rfl⟩
open Go.RowKit Go.Lib in
set_option maxHeartbeats 2000000 in
theorem zmc (b:Addr)(nv:Int)(any:Bool)(k s m lv:Value)(w:World):
  Calls Tryz.prog 160 #[.agg #[.int .i64 nv, .slice (some b) 0 0, .bool any], .agg #[k,s,m,lv]] w (AwP w ([]++ [k,s,m,lv]) nv any (0+1)):=by
 have hN3:¬(281474976710656<Builtin.nextslicecap 1 0*Tryz.t25.bytes):=by
  exact Nat.not_lt.2 (growslice_fits_succ (old:=0) (bytes:=Tryz.t25.bytes) (by show 0*56≤_;omega) (by show 56≤_;omega))
 have hL:∀ W:World,Sem.run Tryz.prog (loadCellsFrom b 0 0 #[]) W= .ok #[] W:=fun W=>rfl
 go_enter Tryz.func160,Tryz.ntmps160
 go_wp2
 have hL1:=hL ((((w.alloc (Obj.cells #[Value.int IntKind.i64 nv,Value.slice (some b) 0 0,Value.bool any] 134)).alloc (Obj.cells #[k,s,m,lv] 25)).alloc (Obj.cells #[Value.int IntKind.i64 0,Value.slice none 0 0,Value.bool false] 134)).alloc (Obj.cells #[k,s,m,lv] 25)).drew.drew
 go_region_with (first | (go_at_call 164;refine (zd0 b 0 0 (Nat.le_refl _) _).mono ?_;rintro e w2 ⟨rfl,rfl⟩))
 all_goals go_wp2
 all_goals refine bodyPost_ret (v:= .agg #[.int .i64 nv, .slice (some ⟨w.heap.size+1+1+1+1,0,none⟩) 1 ((Question.appendCap 1 0 25).cut (w.tape (w.drawn+1) (Question.appendCap 1 0 25))), .bool any]) (by simp only [results,Tryz.f160];go_simp) rfl ?_
 all_goals exact ⟨_,Builtin.zeroCells #[.int .i64 0, .string ⟨#[]⟩, .int .i64 0, .slice none 0 0] (grownCap w.drew 1 0 25-1),rfl,grownCap_ge w.drew 1 0 25,(zek w _ _ _ _ _).trans (congrArg (fun q=>some (Obj.cells q 25 (0,0))) rfl),fun j hj=>zdp w _ _ _ _ _ hj,z9z w _ _ _ _ _,rfl,rfl,rfl⟩
abbrev aAr (nv:Int)(L:List Tm)(any:Bool):TV:= .agg [.a (.fz (.int .i64 nv)), .a (.fz (.sl false 4 (FTs L))), .a (.fz (.bool any))]
theorem zae {w:World}{X:Nat→Prop}{β:Nat→Option Nat}{x:FV}{v:Value}(h:WRep w X β (.a (.fz x)) v):FRep w X x v:=by
 cases h with
 | a _ _ h=>cases h with
  | fz _ _ h=>exact h
theorem four_inv {w:World}{X:Nat→Prop}{β:Nat→Option Nat}{a b c d:FV}{vs:List Value}(h:LRep (WRep w X β) [.a (.fz a), .a (.fz b), .a (.fz c), .a (.fz d)] vs):∃ k s m lv,vs=[k,s,m,lv]∧FRep w X a k∧FRep w X b s∧FRep w X c m∧FRep w X d lv:=by
 obtain ⟨k,r,rfl,h1,h⟩:=h.cons_inv;obtain ⟨s,r,rfl,h2,h⟩:=h.cons_inv;obtain ⟨m,r,rfl,h3,h⟩:=h.cons_inv;obtain ⟨lv,r,rfl,h4,h⟩:=h.cons_inv;obtain rfl:=h.nil_inv;exact ⟨k,s,m,lv,rfl,zae h1,zae h2,zae h3,zae h4⟩
theorem zr2 {w:World}{X:Nat→Prop}{β:Nat→Option Nat}{a b c:FV}{vs:List Value}(h:LRep (WRep w X β) [.a (.fz a), .a (.fz b), .a (.fz c)] vs):∃ k s m,vs=[k,s,m]∧FRep w X a k∧FRep w X b s∧FRep w X c m:=by
 obtain ⟨k,r,rfl,h1,h⟩:=h.cons_inv;obtain ⟨s,r,rfl,h2,h⟩:=h.cons_inv;obtain ⟨m,r,rfl,h3,h⟩:=h.cons_inv;obtain rfl:=h.nil_inv;exact ⟨k,s,m,rfl,zae h1,zae h2,zae h3⟩
theorem FT4' (g:Tm):FT g=[.int .i64 g.k, .str g.s, .int .i64 g.n, .sl false 4 (FTs g.l)]:=by cases g;rfl
theorem zqn {w:World} {X:Nat→Prop} {L:List Tm} {b off:Nat} {u:Nat→Nat→Value}
  (h6:∀ (i j:Nat) (e:List FV) (f:FV),(FTs L)[i]? =some e→e[j]? =some f→w.cell? ⟨b,off+i*4+j,none⟩=some (u i j)) (h7:∀ (i j:Nat) (e:List FV) (f:FV),(FTs L)[i]? =some e→e[j]? =some f→FRep w X f (u i j)):
  ∃ olds:List Value,olds.length=L.length*4∧(∀ j v,olds[j]? =some v→w.cell? ⟨b,off+j,none⟩=some v)∧∀ (i j:Nat) (e:List FV) (f:FV),(FTs L)[i]? =some e→e[j]? =some f→∃ v,olds[i*4+j]? =some v∧FRep w X f v:=by
 have get:∀ i,i<L.length→∃ t,(FTs L)[i]? =some (FT t):=fun i hi=>⟨L[i],by rw [z2h,List.getElem?_map,List.getElem?_eq_getElem hi];rfl⟩;refine ⟨(List.range (L.length*4)).map fun q=>u (q/4) (q % 4),by simp,fun j v hj=> ?_,fun i j e f he hf=> ?_⟩
 · rw [List.getElem?_map] at hj;obtain ⟨q,hq,rfl⟩:=Option.map_eq_some_iff.1 hj;have hjl:j<L.length*4:=by have:=(List.getElem?_eq_some_iff.1 hq).1;simpa using this
   rw [List.getElem?_range hjl] at hq;injection hq with hq
   subst hq;obtain ⟨t,ht⟩:=get (j/4) (by omega);have hm:j % 4<(FT t).length:=by rw [z3h];omega
   have:=h6 (j/4) (j % 4) _ _ ht (List.getElem?_eq_getElem hm);rw [show off+j=off+j/4*4+j % 4 by omega];exact this
 · have hi:i<L.length:=by have:=(List.getElem?_eq_some_iff.1 he).1;rwa [z02] at this
   obtain ⟨t,ht⟩:=get i hi;rw [ht] at he;injection he with he
   have hj:j<4:=by have:=(List.getElem?_eq_some_iff.1 hf).1;rwa [←he,z3h] at this
   refine ⟨u i j, ?_,h7 i j e f (by rw [ht,he]) hf⟩;rw [List.getElem?_map,List.getElem?_range (by omega)];show some (u ((i*4+j)/4) ((i*4+j) % 4))=_;rw [show (i*4+j)/4=i by omega,show (i*4+j) % 4=j by omega]
theorem zp {w w':World} {X X':Nat→Prop} {β':Nat→Option Nat} {L:List Tm} {g:Tm} {nv:Int} {any:Bool} {olds:List Value} {k s m lv v:Value} (hlen:olds.length=L.length*4)
  (hold:∀ (i j:Nat) (e:List FV) (f:FV),(FTs L)[i]? =some e→e[j]? =some f→∃ v,olds[i*4+j]? =some v∧FRep w X f v)
  (r1:FRep w X (.int .i64 g.k) k) (r2:FRep w X (.str g.s) s) (r3:FRep w X (.int .i64 g.n) m) (r4:FRep w X (.sl false 4 (FTs g.l)) lv)
  (h:AwP w (olds++ [k,s,m,lv]) nv any (L.length+1) (.returned v) w') (hX:¬X' (w.heap.size+4)) (hXX:∀ b,¬X b→b<w.heap.size→¬X' b):TRep w' X' β' (aAr nv (L++ [g]) any) v:=by
 obtain ⟨cap,tail,e,hcap,hnew,hblk,hsz,_⟩:=h;injection e with e
 subst e;have mono:∀ {f:FV} {v:Value},FRep w X f v→FRep w' X' f v:=fun hf=>hf.mono (by omega) fun b hb hlt=>⟨hblk b hlt,hXX b hb hlt⟩
 have hnews:∀ (j:Nat) (f:FV),(FT g)[j]? =some f→∃ v,[k,s,m,lv][j]? =some v∧FRep w' X' f v:=fun j f hf=>by
  rw [FT4'] at hf
  match j with
  | 0=>simp at hf;subst hf;exact ⟨k,rfl,mono r1⟩
  | 1=>simp at hf;subst hf;exact ⟨s,rfl,mono r2⟩
  | 2=>simp at hf;subst hf;exact ⟨m,rfl,mono r3⟩
  | 3=>simp at hf;subst hf;exact ⟨lv,rfl,mono r4⟩
  | j+4=>simp at hf
 have hall:∀ (i j:Nat) (e:List FV) (f:FV),(FTs (L++ [g]))[i]? =some e→e[j]? =some f→e.length=4∧∃ v,(olds++ [k,s,m,lv])[i*4+j]? =some v∧FRep w' X' f v:=fun i j e f he hf=>by
  rw [z3r] at he
  have he4:e.length=4:=by
   rw [←z3r,z2h,List.getElem?_map] at he;obtain ⟨t,_,rfl⟩:=Option.map_eq_some_iff.1 he;exact z3h t
  have hj:j<4:=by have:=(List.getElem?_eq_some_iff.1 hf).1;omega
  refine ⟨he4, ?_⟩;by_cases hi:i<L.length
  · rw [List.getElem?_append_left (by rw [z02];exact hi)] at he;obtain ⟨v,h1,h2⟩:=hold i j e f he hf;exact ⟨v,by rw [List.getElem?_append_left (by omega)];exact h1,mono h2⟩
  · rw [List.getElem?_append_right (by rw [z02];omega),z02] at he
    have hi2:i-L.length=0:=by
     have:=(List.getElem?_eq_some_iff.1 he).1;simp [FTs] at this;omega
    rw [hi2] at he;injection he with he
    subst he;obtain ⟨v,h1,h2⟩:=hnews j f hf;exact ⟨v,by rw [List.getElem?_append_right (by omega),hlen,show i*4+j-L.length*4=j by omega];exact h1,h2⟩
 refine ⟨[.int .i64 nv, .slice (some ⟨w.heap.size+4,0,none⟩) (L.length+1) cap, .bool any],rfl, .cons (.a _ _ (.fz _ _ (.int _ _))) (.cons (.a _ _ (.fz _ _ ?_)) (.cons (.a _ _ (.fz _ _ (.bool _))) .nil))⟩;refine .sl false 4 (FTs (L++ [g])) (w.heap.size+4) 0 cap (L.length+1) (fun i j=>(olds++ [k,s,m,lv]).getD (i*4+j) undef) (by rw [z02];simp) (by rw [z02];simpa using hcap) hX (by omega) (fun i e he=> ?_) (fun i j e f he hf=> ?_) (fun i j e f he hf=> ?_)
 · rw [z2h,List.getElem?_map] at he;obtain ⟨t,_,rfl⟩:=Option.map_eq_some_iff.1 he;exact z3h t
 · obtain ⟨_,v,h1,_⟩:=hall i j e f he hf;have hlt:=(List.getElem?_eq_some_iff.1 h1).1;show World.cell? w' _=some (List.getD _ _ _);unfold World.cell?;simp only [hnew,List.getD,h1,Option.getD_some];simp only [Nat.zero_add,Option.isSome_none,Bool.false_eq_true,if_false];rw [Array.getElem?_append_left (by simpa using hlt)];simpa using h1
 · obtain ⟨_,v,h1,h2⟩:=hall i j e f he hf;show FRep w' X' f (List.getD _ _ _);simp only [List.getD,h1,Option.getD_some];exact h2
theorem slF_inv {w:World}{X:Nat→Prop}{es:List (List FV)}{v:Value}(h:FRep w X (.sl false 4 es) v):(v= .slice none 0 0∧es=[])∨(∃ a,v= .slice (some a) 0 0∧es=[])∨
  ∃ (b off cap:Nat) (u:Nat→Nat→Value),v= .slice (some ⟨b,off,none⟩) es.length cap∧es.length≤cap∧¬X b∧b<w.heap.size∧(∀ (i j:Nat) (e:List FV) (f:FV),es[i]? =some e→e[j]? =some f→w.cell? ⟨b,off+i*4+j,none⟩=some (u i j))∧(∀ (i j:Nat) (e:List FV) (f:FV),es[i]? =some e→e[j]? =some f→FRep w X f (u i j)):=by
 cases h with
 | slnil=>exact .inl ⟨rfl,rfl⟩
 | sl0 _ _ a=>exact .inr (.inl ⟨a,rfl,rfl⟩)
 | sl _ _ _ b off cap len u h1 h2 h3 h4 h5 h6 h7=>exact .inr (.inr ⟨b,off,cap,u,by rw [h1],h2,h3,h4,h6,h7⟩)
theorem zqa (nv:Int)(L:List Tm)(any:Bool)(g:Tm)(hL:L.length≤1000000000):AC Tryz.prog 160 [aAr nv L any,aT g] [] (aAr nv (L++ [g]) any) []:=by
 refine ⟨by kernel_rfl,Nat.le_refl _,fun w vals β Y hβ hY hG hO hargs=> ?_⟩;have noX:∀ b,(Y b∨Own (fun o=>([]:List AObj).getD o .gone) β b)→Y b:=fun b h=>h.elim id fun ⟨o,h,_⟩=>by simp [isLive] at h
 obtain ⟨u1,us,rfl,h1,h2⟩:=hargs.cons_inv;obtain ⟨u2,us2,rfl,h3,h4⟩:=h2.cons_inv;obtain rfl:=h4.nil_inv;obtain ⟨a1,rfl,h1⟩:=h1;obtain ⟨a2,rfl,h3⟩:=h3;obtain ⟨k,s,m,lv,rfl,r1,r2,r3,r4⟩:=four_inv h3;obtain ⟨x,v,y,rfl,q1,q2,q3⟩:=zr2 h1;have ex:x= .int .i64 nv:=by cases q1;rfl
 have ey:y= .bool any:=by cases q3;rfl
 subst ex;subst ey
 have fin:∀ olds:List Value,olds.length=L.length*4→(∀ (i j:Nat) (e:List FV) (f:FV),(FTs L)[i]? =some e→e[j]? =some f→∃ v,olds[i*4+j]? =some v∧FRep w (fun b=>Y b∨Own (fun o=>([]:List AObj).getD o .gone) β b) f v)→
   Calls Tryz.prog 160 #[.agg #[.int .i64 nv,v, .bool any], .agg #[k,s,m,lv]] w (AwP w (olds++ [k,s,m,lv]) nv any (L.length+1))→
   Calls Tryz.prog 160 #[.agg #[.int .i64 nv,v, .bool any], .agg #[k,s,m,lv]] w fun e w'=> ∃ v β',e= .returned v∧Good w (Own (fun o=>([]:List AObj).getD o .gone) β) w'∧Objs (fun o=>([]:List AObj).getD o .gone) β' Y w'∧
    TRep w' (fun b=>Y b∨Own (fun o=>([]:List AObj).getD o .gone) β' b) β' (aAr nv (L++ [g]) any) v∧(∀ o b,β' o=some b→o<([]:List AObj).length)∧(∀ o,o<([]:List AObj).length→β' o=β o)∧(∀ o b,([]:List AObj).length≤o→β' o=some b→w.heap.size≤b∨Own (fun o=>([]:List AObj).getD o .gone) β b):=fun olds ho1 ho2 hc=>by
  refine hc.mono fun e w' hp=> ?_;have hp':=hp;obtain ⟨cap,tail,rfl,hcap,hnew,hblk,hsz,e1,e2,e3⟩:=hp;refine ⟨_,β,rfl,⟨by omega,fun b hb _=>hblk b hb,fun b hb=>by unfold World.shape?;rw [hblk b hb],e1,e2,e3⟩,⟨fun o b h=>by simp [isLive] at h,fun o h=>by simp [isLive] at h,fun o o' b h=>by simp [isLive] at h,fun o b h=>by have:=hO.lt o b h;omega⟩, ?_,hβ,fun _ _=>rfl,fun o b _ h=>absurd (hβ o b h) (Nat.not_lt_zero _)⟩;exact zp ho1 ho2 r1 r2 r3 r4 hp' (fun hx=>by have:=hY _ (noX _ hx);omega) (fun b hb _=>hb)
 have no0:∀ {es:List (List FV)},FTs L=es→es=[]→L.length=0:=fun e1 e2=>by rw [←z02 L,e1,e2];rfl
 generalize hE:FTs L=es at q2 fin;rcases slF_inv q2 with ⟨rfl,e⟩ | ⟨a,rfl,e⟩ | ⟨b,off,cap,u,rfl,g2,g3,g4,g6,g7⟩
 · have h0:=no0 hE e;refine fin [] (by rw [h0];rfl) (fun i j e' f he=>by rw [e] at he;simp at he) ?_;rw [h0];exact zr6 nv any k s m lv w
 · have h0:=no0 hE e;refine fin [] (by rw [h0];rfl) (fun i j e' f he=>by rw [e] at he;simp at he) ?_;rw [h0];exact zmc a nv any k s m lv w
 · subst hE;obtain ⟨olds,o1,o2,o3⟩:=zqn g6 g7;rw [z02] at g2 fin ⊢;exact fin olds o1 o3 (zlk b off L.length cap g2 hL olds o1 nv any k s m lv w (fun _=>g4) o2)
end Go.AM

set_option maxRecDepth 100000
open Go Go.Proofs
namespace Go.AM
abbrev zfg:List UInt8:=[116,114,117,101]
abbrev zo8:List UInt8:=[102,97,105,108]
abbrev nCut:List UInt8:=[33]
abbrev nPi:List UInt8:=[112,105]
abbrev nSig:List UInt8:=[115,105,103,109,97]
abbrev nAnd:List UInt8:=[44]
abbrev nOr:List UInt8:=[59]
abbrev nImp:List UInt8:=[61,62]
abbrev nIf:List UInt8:=[58,45]
abbrev nEq:List UInt8:=[61]
def zc4 (s:List UInt8):Int:=if s=zfg∨s=zo8∨s=nCut then 0 else if s=nPi∨s=nSig then 1 else 2
def z01 (t:Tm)(flex:Int):List UInt8×List Tm×Int:=
 if (z00 t).1.k=4∨(z00 t).1.k=3 then ([],[],flex) else if (z00 t).1.k≠0 then ([],[],130) else if logB (z00 t).1.s=false then ([],(z00 t).2,0)
 else if ((z00 t).2.length:Int)≠zc4 (z00 t).1.s then ([],[],130) else ((z00 t).1.s,(z00 t).2,0)
abbrev noT0:Tm:= .mk 0 [] 0 []
abbrev z1h:Tm:= .mk 0 zfg 0 []
abbrev andT:Tm:= .mk 0 nAnd 0 []
abbrev bd0:Tm:= .mk 3 [] 0 []
def z0g (t:Tm):Tm:=if t.k=5 then hd t.l else z2e (shT 0 1 t 0) [bd0]
abbrev andG (b g:Tm):Tm:= .mk 6 [] 0 [andT,b,g]
def z3k:List Tm→Tm
 | []=>z1h
 | g::l=>l.foldl andG g
def z9f:List Int→List Tm→Int→Bool
 | _,[],_=>true
 | m,t::l,k=>if t.k≠3 then false else if k≤t.n then false else if m.contains t.n=true then false else z9f (m++ [t.n]) l k
def patG:Nat→Tm→Int→Bool
 | 0,_,_=>false
 | n+1,t,k=>if t.k=5 then patG n (hd t.l) (k+1) else if (z00 t).1.k=5 then false else if (z00 t).1.k=4∨((z00 t).1.k=3∧k≤(z00 t).1.n) then z9f [] (z00 t).2 k
  else (z00 t).2.all fun u=>patG n u k
abbrev at0 (l:List Tm):Tm:=l.getD 0 noT0
abbrev at1 (l:List Tm):Tm:=l.getD 1 noT0
mutual
def z05 (w:Bool):Nat→Tm→Int
 | 0,_=>0
 | n+1,t=>if (z01 t 133).2.2≠0 then (z01 t 133).2.2 else if (z01 t 133).1=nIf then 130
  else if (z01 t 133).1=nAnd∨(z01 t 133).1=nOr then (if z05 w n (at0 (z01 t 133).2.1)≠0 then z05 w n (at0 (z01 t 133).2.1) else z05 w n (at1 (z01 t 133).2.1))
  else if (z01 t 133).1=nImp then (if (clsF w n false 0 [] (at0 (z01 t 133).2.1)).1≠0 then (clsF w n false 0 [] (at0 (z01 t 133).2.1)).1 else z05 w n (at1 (z01 t 133).2.1))
  else if (z01 t 133).1=nPi∨(z01 t 133).1=nSig then z05 w n (z0g (at0 (z01 t 133).2.1)) else 0
def clsF (w:Bool):Nat→Bool→Int→List Tm→Tm→Int×List Cl
 | 0,_,_,_,_=>(0,[])
 | n+1,any,vs,L,t=>if (z01 t 131).2.2≠0 then ((z01 t 131).2.2,[]) else if (z01 t 131).1=[] then
   (if (!(any||w)&&(z01 t 131).2.1.any fun u=> !patG n u 0)=true then (132,[]) else (0,[(vs,t,z3k L)]))
  else if (z01 t 131).1=nAnd then
   (if (clsF w n any vs L (at0 (z01 t 131).2.1)).1≠0 then clsF w n any vs L (at0 (z01 t 131).2.1)
    else ((clsF w n any vs L (at1 (z01 t 131).2.1)).1,(clsF w n any vs L (at0 (z01 t 131).2.1)).2++(clsF w n any vs L (at1 (z01 t 131).2.1)).2))
  else if (z01 t 131).1=nPi then clsF w n any (vs+1) (L.map fun g=>shT 0 1 g 0) (z0g (at0 (z01 t 131).2.1))
  else if (z01 t 131).1=nImp then (if z05 w n (at0 (z01 t 131).2.1)≠0 then (z05 w n (at0 (z01 t 131).2.1),[]) else clsF w n any vs (L++ [at0 (z01 t 131).2.1]) (at1 (z01 t 131).2.1))
  else if (z01 t 131).1=nIf then (if z05 w n (at1 (z01 t 131).2.1)≠0 then (z05 w n (at1 (z01 t 131).2.1),[]) else clsF w n any vs (L++ [at1 (z01 t 131).2.1]) (at0 (z01 t 131).2.1))
  else (131,[])
end
theorem zpj (s:List UInt8):AC Tryz.prog 129 [cs s] [] (ci (zc4 s)) []:=by
 refine AC.vc hP sh lv129 (Nat.le_refl _) (by simp) (by simp) (Eq.mpr (v129 ..) ?_);unfold zc4
 repeat' (refine z03 (fun _=> ?_) (fun _=> ?_))
 all_goals exact z2g (by simp_all)
theorem zqu (t:Tm)(hz:t.sz≤B)(h:¬(t.k=6∧validB t=true)):AC Tryz.prog 54 [aT t] [] (.tup [(true,cT t),(false,[.a (.fz .N)])]) []:=by
 have h1:=z2r t hz;obtain ⟨k,str,n,l⟩:=t;refine AC.vc hP shO lv54 (Nat.le_refl _) (by simp) (by simp) (Eq.mpr (v54_O k str n (FTs l) _ _) ?_);refine z03 (fun _=>⟨.refl _,rfl⟩) (fun h6=>⟨_,h1,z03 (fun _=>⟨.refl _,rfl⟩) (fun h'=>absurd ⟨?_, ?_⟩ h)⟩)
 · have h6:(k !=6)=false:=h6;show k=6;simpa using h6
 · simpa using h'
theorem zgi (t:Tm)(hz:t.sz≤B)(h6:t.k=6)(hv:validB t=true):AC Tryz.prog 54 [aT t] [] (.tup [(true,cT (hd t.l)),(false,[.a (.osl 0 4 0 (t.l.drop 1).length)])]) [.arz 4 (FTs (t.l.drop 1))]:=by
 have h1:=z2r t hz;have hlen:=Tm.szs_length t.l;have hsz:=t.sz_eq;obtain ⟨k,str,n,l⟩:=t;have h6:k=6:=h6;subst h6;obtain ⟨x,y,r,rfl,hx6,hl⟩:=okB6 (z0f _ hv) rfl;simp only [Tm.l,List.length_cons,B] at hlen hsz hz;have hcl:=zr5.1 (FTs (y::r)) (by simp [FTs]) (by rw [z02];simp only [List.length_cons,B];omega);have e1:List.drop 1 (List.take (Int.toNat (((FTs (x::y::r)).length:Nat):Int)) (FTs (x::y::r)))=FTs (y::r):=by rw [zej];rfl
 refine AC.vc hP shO lv54 (by simp) (by simp) (by simp [isLive]) (Eq.mpr (v54_O 6 str n (FTs (x::y::r)) _ _) ?_);rw [e1];refine z03 (fun h=>by cases h) (fun _=>⟨_,h1,z03 (fun h'=>absurd hv (by simpa using h')) (fun _=> ?_)⟩);refine ⟨el0 x (y::r),rfl,⟨by omega,by rw [z02];simp only [List.length_cons];omega,Int.le_refl _⟩, .inr ⟨_,hcl, ?_,rfl⟩⟩;rw [show cE (List.getD (FTs (x::y::r)) 0 [])=cT x from cE_FT x,z02];exact .refl _
theorem z66 {t:Tm}{flex:Int}(hf:flex≠0)(h:(z01 t flex).2.2=0):(z00 t).1.k=0∧(((z01 t flex).1=[]∧logB (z00 t).1.s=false∧(z01 t flex).2.1=(z00 t).2)∨((z01 t flex).1=(z00 t).1.s∧logB (z00 t).1.s=true∧(z01 t flex).2.1=(z00 t).2∧((z00 t).2.length:Int)=zc4 (z00 t).1.s)):=by
 unfold z01 at h ⊢;by_cases h1:(z00 t).1.k=4∨(z00 t).1.k=3
 · rw [if_pos h1] at h;exact absurd h hf
 · rw [if_neg h1] at h ⊢;by_cases h2:(z00 t).1.k≠0
   · rw [if_pos h2] at h;cases h
   · rw [if_neg h2] at h ⊢;refine ⟨by omega, ?_⟩;by_cases h3:logB (z00 t).1.s=false
     · rw [if_pos h3];exact .inl ⟨rfl,h3,rfl⟩
     · rw [if_neg h3] at h ⊢;by_cases h4:((z00 t).2.length:Int)≠zc4 (z00 t).1.s
       · rw [if_pos h4] at h;cases h
       · rw [if_neg h4];exact .inr ⟨rfl,by simpa using h3,rfl,by omega⟩
theorem z5w (t:Tm)(flex:Int)(hz:t.sz≤B)(hl:(z01 t flex).2.1=[]):AC Tryz.prog 91 [aT t,ci flex] [] (.tup [(false,[.a (.fz (.str (z01 t flex).1))]),(false,[.a (.fz .N)]),(false,[.a (.fz (.int .i64 (z01 t flex).2.2))])]) []:=by
 have c3:=z4m (z00 t).1.s;have c4:=zpj (z00 t).1.s;refine AC.vc hP shO lv91 (Nat.le_refl _) (by simp) (by simp) (Eq.mpr (v91 t.k t.s t.n (FTs t.l) flex ..) ?_);have fin:∀ (a:List UInt8) (e:Int),z01 t flex=(a,[],e)→TV.Le (.tup [(false,[.a (.fz (.str a))]),(false,[.a (.fz .N)]),(false,[.a (.fz (.int .i64 e))])]) (.tup [(false,[.a (.fz (.str (z01 t flex).1))]),(false,[.a (.fz .N)]),(false,[.a (.fz (.int .i64 (z01 t flex).2.2))])])∧([]:List AObj)=[]:=fun a e h=>by rw [h];exact ⟨.refl _,rfl⟩
 have s4:((z00 t).1.k==4)=true→z01 t flex=([],[],flex):=fun h=>by unfold z01;rw [if_pos (.inl (by simpa using h))]
 have s3:((z00 t).1.k==3)=true→z01 t flex=([],[],flex):=fun h=>by unfold z01;rw [if_pos (.inr (by simpa using h))]
 have s0:((z00 t).1.k==4)=false→((z00 t).1.k==3)=false→((z00 t).1.k !=0)=true→z01 t flex=([],[],130):=fun h4 h3 h=>by
  have h4:¬(z00 t).1.k=4:=by simpa using h4
  have h3:¬(z00 t).1.k=3:=by simpa using h3
  unfold z01;rw [if_neg (by omega),if_pos (by simpa using h)]
 have sl:((z00 t).1.k==4)=false→((z00 t).1.k==3)=false→((z00 t).1.k !=0)=false→(!logB (z00 t).1.s)=true→z01 t flex=([],(z00 t).2,0):=fun h4 h3 h0 h=>by
  have h4:¬(z00 t).1.k=4:=by simpa using h4
  have h3:¬(z00 t).1.k=3:=by simpa using h3
  unfold z01;rw [if_neg (by omega),if_neg (by simpa using h0),if_pos (by simpa using h)]
 have sn:((z00 t).1.k==4)=false→((z00 t).1.k==3)=false→((z00 t).1.k !=0)=false→(!logB (z00 t).1.s)=false→(((z00 t).2.length:Int) !=zc4 (z00 t).1.s)=true→z01 t flex=([],[],130):=fun h4 h3 h0 h hn=>by
  have h4:¬(z00 t).1.k=4:=by simpa using h4
  have h3:¬(z00 t).1.k=3:=by simpa using h3
  unfold z01;rw [if_neg (by omega),if_neg (by simpa using h0),if_neg (by simpa using h),if_pos (by simpa using hn)]
 have sy:((z00 t).1.k==4)=false→((z00 t).1.k==3)=false→((z00 t).1.k !=0)=false→(!logB (z00 t).1.s)=false→(((z00 t).2.length:Int) !=zc4 (z00 t).1.s)=false→z01 t flex=((z00 t).1.s,(z00 t).2,0):=fun h4 h3 h0 h hn=>by
  have h4:¬(z00 t).1.k=4:=by simpa using h4
  have h3:¬(z00 t).1.k=3:=by simpa using h3
  unfold z01;rw [if_neg (by omega),if_neg (by simpa using h0),if_neg (by simpa using h),if_neg (by simpa using hn)]
 by_cases ht:t.k=6∧validB t=true
 · have e:z00 t=(hd t.l,t.l.drop 1):=if_pos ht;have c1:=zgi t hz ht.1 ht.2
   have hne:(z00 t).2 ≠ []:=by
    obtain ⟨k,s,n,l⟩:=t;have h6:k=6:=ht.1;subst h6;obtain ⟨x,y,r,rfl,_,_⟩:=okB6 (z0f _ ht.2) rfl;rw [e];simp [Tm.l]
   rw [show hd t.l=(z00 t).1 by rw [e],show t.l.drop 1=(z00 t).2 by rw [e]] at c1;refine .inr ⟨z00 t,c1,z03 (fun h=>fin _ _ (s4 h)) (fun h4=>z03 (fun h=>fin _ _ (s3 h)) (fun h3=>z03 (fun h=>fin _ _ (s0 h4 h3 h)) (fun h0=>⟨_,c3,z03 (fun h=> ?_) (fun h=>⟨_,c4,z03 (fun hn=>fin _ _ (sn h4 h3 h0 h hn)) (fun hn=> ?_)⟩)⟩)))⟩
   · rw [sl h4 h3 h0 h] at hl;exact absurd hl hne
   · rw [sy h4 h3 h0 h hn] at hl;exact absurd hl hne
 · have e:z00 t=(t,[]):=if_neg ht;have c1:=zqu t hz ht;have e1:(z00 t).1=t:=by rw [e]
   have e2:(z00 t).2=[]:=by rw [e]
   rw [e1] at c3 c4 s4 s3 s0 sl sn sy;rw [e2] at sl sn sy;exact .inl ⟨t,c1,z03 (fun h=>fin _ _ (s4 h)) (fun h4=>z03 (fun h=>fin _ _ (s3 h)) (fun h3=>z03 (fun h=>fin _ _ (s0 h4 h3 h)) (fun h0=>⟨_,c3,z03 (fun h=>fin _ _ (sl h4 h3 h0 h)) (fun h=>⟨rfl,_,c4,z03 (fun hn=>fin _ _ (sn h4 h3 h0 h hn)) (fun hn=>fin _ _ (sy h4 h3 h0 h hn))⟩)⟩)))⟩
theorem z1k (t:Tm)(flex:Int)(hz:t.sz≤B)(hl:(z01 t flex).2.1 ≠ []):AC Tryz.prog 91 [aT t,ci flex] [] (.tup [(false,[.a (.fz (.str (z01 t flex).1))]),(false,[.a (.osl 0 4 0 (z01 t flex).2.1.length)]),(false,[.a (.fz (.int .i64 (z01 t flex).2.2))])]) [.arz 4 (FTs (z01 t flex).2.1)]:=by
 have c3:=z4m (z00 t).1.s;have c4:=zpj (z00 t).1.s
 have ht:t.k=6∧validB t=true:=Classical.byContradiction fun hc=>by
  have e:z00 t=(t,[]):=if_neg hc;refine hl ?_;unfold z01;rw [e];split
  · rfl
  · split
    · rfl
    · split
      · rfl
      · split<;>rfl
 have e:z00 t=(hd t.l,t.l.drop 1):=if_pos ht;have c1:=zgi t hz ht.1 ht.2;rw [show hd t.l=(z00 t).1 by rw [e],show t.l.drop 1=(z00 t).2 by rw [e]] at c1;refine AC.vc hP shO lv91 (by simp) (by simp) (by simp [isLive]) (Eq.mpr (v91 t.k t.s t.n (FTs t.l) flex ..) ?_);refine .inr ⟨z00 t,c1,z03 (fun h=> ?_) (fun h4=>z03 (fun h=> ?_) (fun h3=>z03 (fun h=> ?_) (fun h0=>⟨_,c3,z03 (fun h=> ?_) (fun h=>⟨_,c4,z03 (fun hn=> ?_) (fun hn=> ?_)⟩)⟩)))⟩
 · exact absurd (by unfold z01;rw [if_pos (.inl (by simpa using h))]) hl
 · exact absurd (by unfold z01;rw [if_pos (.inr (by simpa using h))]) hl
 · have h4:¬(z00 t).1.k=4:=by simpa using h4
   have h3:¬(z00 t).1.k=3:=by simpa using h3
   exact absurd (by unfold z01;rw [if_neg (by omega),if_pos (by simpa using h)]) hl
 · have h4:¬(z00 t).1.k=4:=by simpa using h4
   have h3:¬(z00 t).1.k=3:=by simpa using h3
   have:z01 t flex=([],(z00 t).2,0):=by unfold z01;rw [if_neg (by omega),if_neg (by simpa using h0),if_pos (by simpa using h)]
   rw [this];exact ⟨.refl _,rfl⟩
 · have h4:¬(z00 t).1.k=4:=by simpa using h4
   have h3:¬(z00 t).1.k=3:=by simpa using h3
   exact absurd (by unfold z01;rw [if_neg (by omega),if_neg (by simpa using h0),if_neg (by simpa using h),if_pos (by simpa using hn)]) hl
 · have h4:¬(z00 t).1.k=4:=by simpa using h4
   have h3:¬(z00 t).1.k=3:=by simpa using h3
   have:z01 t flex=((z00 t).1.s,(z00 t).2,0):=by unfold z01;rw [if_neg (by omega),if_neg (by simpa using h0),if_neg (by simpa using h),if_neg (by simpa using hn)]
   rw [this];exact ⟨.refl _,rfl⟩
end Go.AM

set_option maxRecDepth 100000
open Go Go.Proofs
namespace Go.AM
theorem zi5 (a b:Tm):AC Tryz.prog 159 [.c (.a (.osl 0 4 0 2))] [.arz 4 (FTs [a,b])] (.tup []) [.arz 4 (FTs [b,a])]:=by
 refine AC.vc hP sh zps (Nat.le_refl _) (by simp [isLive]) (by simp) (Eq.mpr (v159_i1 2 (FTs [a,b]) ..) ?_);rw [w64 (by omega) (by omega)];refine RPt.vc hP sh zps (Eq.mpr (zd 2 0 1 (FTs [a,b]) ..) ?_);refine z03 (fun _=> ?_) (fun h=>by cases h);rw [w64 (by omega) (by omega),w64 (by omega) (by omega)];have e0:rE (List.getD (FTs [a,b]) 0 [])=FT a:=z2l a;have e1:rE (List.getD (FTs [a,b]) 1 [])=FT b:=z2l b;have t0:List.take 4 (List.drop 0 (List.getD (FTs [a,b]) 0 []))=FT a:=by cases a;rfl
 have t1:List.take 4 (List.drop 0 (List.getD (FTs [a,b]) 1 []))=FT b:=by cases b;rfl
 refine ⟨⟨by omega,by omega⟩,⟨by show 1<2;omega,e1.trans t1.symm,rfl⟩,⟨by omega,by omega⟩,⟨by show 0<2;omega,e0.trans t0.symm,rfl⟩,⟨by omega,by omega⟩,⟨by show 0<2;omega,by show (FT a).length=4;exact z3h a⟩,⟨by omega,by omega⟩,⟨by show 1<2;omega,by show (FT b).length=4;exact z3h b⟩, ?_⟩
 have e2:List.set (List.set (FTs [a,b]) (0+Int.toNat 0) (rE (List.getD (FTs [a,b]) (0+Int.toNat 1) []))) (0+Int.toNat 1) (rE (List.getD (FTs [a,b]) (0+Int.toNat 0) []))=FTs [b,a]:=by
  rw [show 0+Int.toNat 0=0 from rfl,show 0+Int.toNat 1=1 from rfl,e0,e1];rfl
 rw [e2];refine RPt.vc hP sh zps (Eq.mpr (zd 2 (0+1) (1-1) (FTs [b,a]) ..) ?_);exact z03 (fun h=>by cases h) (fun _=>⟨.refl _,rfl⟩)
theorem c_applyN (k:Int)(s:List UInt8)(n:Int)(args:List Tm)(h:args.length<2199023255552):AC Tryz.prog 16 [.agg [.a (.fz (.int .i64 k)), .a (.fz (.str s)), .a (.fz (.int .i64 n)), .a (.fz .N)],aL args] [] (aT (z2e (.mk k s n []) args)) []:=
 (z4z (.mk k s n []) args (by simpa [Tm.l] using h)).args ⟨leT z3i, .refl _,trivial⟩
theorem zlh (k0 n0:Int)(s0:List UInt8):∀ (b a:List Tm) (t:Tm),(a++b).length≤1000000000→
  RPt Tryz.prog 157 0 (aT (b.foldl andG t)) [] 1 ⟨[(2, .c (.a (.ep 0 4 0 0))),(3, .c (.a (.ep 1 4 0 0))),(17,aL (a++b)),(18,ci (a++b).length),(19,ci a.length)],[(0, .arr 4 [[.a (.fz (.int .i64 k0)), .a (.fz (.str s0)), .a (.fz (.int .i64 n0)), .a (.fz .N)]]),(1, .arr 4 [cT t])],2⟩
 | [],a,t,h=>by
  obtain ⟨k,s,n,l⟩:=t;refine RPt.vc hP sh zrp (Eq.mpr (zs4 ..) ?_);exact z03 (fun h=>absurd (of_decide_eq_true h) (by simp)) (fun _=>⟨.refl _,rfl⟩)
 | g::b,a,t,h=>by
  have h2:=zlh k0 n0 s0 b (a++ [g]) (andG t g) (by simpa using h);rw [ap,nx] at h2;have c1:=c_applyN 0 nAnd 0 [t,g] (by simp);simp only [List.length_append,List.length_cons] at h;have h4:(a.length:Int)<((a++g::b).length:Int):=by simp only [List.length_append,List.length_cons];omega
  refine RPt.vc hP sh zrp (Eq.mpr (zs4 ..) ?_);rw [w64 (by omega) (by omega)];refine z03 (fun _=>⟨⟨rfl,by omega,by rw [z02];exact h4,z5e ..⟩,⟨rfl,by omega⟩,andG t g, ?_,h2⟩) (fun h=>absurd h4 (of_decide_eq_false h));rw [z5e,midI];refine c1.args ⟨.refl _, .c _ _ (.a _ _ (.fz _ _ ?_)),trivial⟩;obtain ⟨k,s,n,l⟩:=t;exact .refl _
theorem c_kabody (nv:Int)(L:List Tm)(any:Bool)(h:L.length≤1000000000):AC Tryz.prog 157 [aAr nv L any] [] (aT (z3k L)) []:=by
 refine AC.vc hP sh zrp (Nat.le_refl _) (by simp) (by simp) (Eq.mpr (v157 ..) ?_);cases L with
 | nil=>exact ⟨rfl,z03 (fun _=>zc8 (leT z3i)) (fun h=>by cases h)⟩
 | cons g L=>
  have h1:=zlh 0 0 [] L [] g (by simp only [List.length_cons] at h;simpa using Nat.le_of_succ_le h);refine ⟨rfl,z03 (fun h=> ?_) (fun _=>⟨⟨rfl,by omega, ?_, ?_⟩,rfl,⟨by omega, ?_,by omega⟩,rfl, ?_⟩)⟩
  · rw [z02] at h;have:((g::L).length:Int)=0:=by simpa using h
    simp only [List.length_cons] at this;omega
  · rw [z02];simp only [List.length_cons];omega
  · exact z2l g
  · rw [z02];simp only [List.length_cons];omega
  · have e1:List.drop 1 (List.take (Int.toNat (((FTs (g::L)).length:Nat):Int)) (FTs (g::L)))=FTs L:=by rw [zej];rfl
    rw [e1,show cE (List.getD (FTs (g::L)) 0 [])=cT g from cE_FT g];have e2:(((FTs L).length:Nat):Int)=(L.length:Int):=by rw [z02]
    rw [e2];exact h1
theorem zha (nv:Int)(any:Bool)(k0:Int)(b0:Bool):∀ (b a:List Tm),(a++b).length≤1000000000→a ≠ []→(∀ g∈a++b,g.sz≤B∧bd M61 g)→
  RPt Tryz.prog 158 0 (aAr nv ((a++b).map fun g=>shT 0 1 g 0) any) [] 1 ⟨[(2, .c (.a (.ep 0 3 0 0))),(3, .c (.a (.ep 1 3 0 0))),(13,aL (a++b)),(14,ci (a++b).length),(15,ci a.length)],
   [(0, .arr 3 [[.a (.fz (.int .i64 k0)), .a (.fz .N), .a (.fz (.bool b0))]]),(1, .arr 3 [[.a (.fz (.int .i64 nv)), .a (.osl 2 4 0 a.length), .a (.fz (.bool any))]]),(2, .arz 4 (FTs (a.map fun g=>shT 0 1 g 0)))],3⟩
 | [],a,h,hne,hg=>by
  refine RPt.vc hP sh zjo (Eq.mpr (zrb ..) ?_);refine z03 (fun h=>absurd (of_decide_eq_true h) (by simp)) (fun _=>⟨⟨⟨rfl,by rw [z02];simp⟩,trivial⟩, ?_,rfl⟩);rw [List.append_nil,List.drop_zero,List.take_of_length_le (by rw [z02];simp)];exact .refl _
 | g::b,a,h,hne,hg=>by
  have h2:=zha nv any k0 b0 b (a++ [g]) (by simpa using h) (by simp) (by simpa using hg);rw [ap,nx,show ((a++ [g]).map fun g=>shT 0 1 g 0)=(a.map fun g=>shT 0 1 g 0)++ [shT 0 1 g 0] by simp,z3r] at h2;have hgg:=hg g (by simp);have c1:=za5 g 0 1 hgg.1 hgg.2 (by omega) (by simp only [M61];omega) (by omega) (by simp only [M61];omega);simp only [List.length_append,List.length_cons] at h;have h4:(a.length:Int)<((a++g::b).length:Int):=by simp only [List.length_append,List.length_cons];omega
  refine RPt.vc hP sh zjo (Eq.mpr (zrb ..) ?_);rw [w64 (by omega) (by omega)];refine z03 (fun _=>⟨⟨rfl,by omega,by rw [z02];exact h4,z5e ..⟩,shT 0 1 g 0,by rw [z8s];exact c1,by omega,⟨by rw [z02];simp,by unfold z0x;omega⟩, ?_⟩) (fun h=>absurd h4 (of_decide_eq_false h));rw [List.take_of_length_le (by rw [z02];simp),FT4_eq];rw [show (a++ [g]).length=a.length+1 by simp] at h2;exact h2
theorem zos (nv:Int)(L:List Tm)(any:Bool)(h:L.length≤1000000000)(h0:0≤nv)(h1:nv≤M61)(hg:∀ g∈L,g.sz≤B∧bd M61 g):AC Tryz.prog 158 [aAr nv L any] [] (aAr (nv+1) (L.map fun g=>shT 0 1 g 0) any) []:=by
 refine AC.vc hP sh zjo (Nat.le_refl _) (by simp) (by simp) (Eq.mpr (v158 ..) ?_);simp only [M61] at h1;rw [w64 (by omega) (by omega)];refine ⟨rfl,RPt.vc hP sh zjo (Eq.mpr (v158_1a ..) ?_)⟩;cases L with
 | nil=>exact z03 (fun h=>by cases h) (fun _=>⟨.agg _ _ rfl (fun i x y hx hy=>by
   match i with
   | 0=>simp at hx hy;subst hx;subst hy;exact .refl _
   | 1=>simp at hx hy;subst hx;subst hy;exact .a _ _ (.fz _ _ z3i)
   | 2=>simp at hx hy;subst hx;subst hy;exact .refl _
   | i+3=>simp at hx),rfl⟩)
 | cons g L=>
  have hgg:=hg g List.mem_cons_self;have c1:=za5 g 0 1 hgg.1 hgg.2 (by omega) (by simp only [M61];omega) (by omega) (by simp only [M61];omega);have h2:=zha (nv+1) any 0 false L [g] (by simpa using h) (by simp) (by simpa using hg);have h4:(0:Int)<(((FTs (g::L)).length:Nat):Int):=by rw [z02];simp only [List.length_cons];omega
  rw [w64 (by omega) (by omega)];refine z03 (fun _=>⟨⟨rfl,by omega,h4,z2l g⟩,shT 0 1 g 0,by rw [show aE (List.getD (FTs (g::L)) (Int.toNat 0) [])=aT g from z3p g];exact c1,by omega,by unfold z0x;omega, ?_⟩) (fun h=>absurd h4 (of_decide_eq_false h));rw [FT4_eq,z02];exact h2
theorem zij (t:Tm)(hv:validB t=true)(hz:t.sz≤B)(hb:bd M61 t):AC Tryz.prog 93 [aT t] [] (aT (z0g t)) []:=by
 have c1:=z2r t hz;have c2:=za5 t 0 1 hz hb (by omega) (by simp only [M61];omega) (by omega) (by simp only [M61];omega);have hl:(shT 0 1 t 0).l.length≤B:=by have:=Tm.szs_length (shT 0 1 t 0).l;have:=(shT 0 1 t 0).sz_eq;have:=zle 0 1 t 0;omega
 simp only [B] at hl
 have c3:=(z4z (shT 0 1 t 0) [bd0] (by simp only [List.length_cons,List.length_nil];omega)).args (args:=[aT (shT 0 1 t 0), .c (.a (.fz (.sl false 4 [[.int .i64 3, .str [], .int .i64 0, .N]])))]) ⟨.refl _, .c _ _ (.a _ _ (.fz _ _ (zgs (l:=[bd0]) rfl (fun i r u hr hu=>by
  match i with
  | 0=>simp at hr hu;subst hr;subst hu;exact leFT z3i
  | i+1=>simp at hr)))),trivial⟩
 obtain ⟨k,s,n,l⟩:=t;refine AC.vc hP sh lv93 (Nat.le_refl _) (by simp) (by simp) (Eq.mpr (v93 ..) ?_);unfold z0g;refine ⟨_,c1,z03 (fun h=>absurd hv (by simpa using h)) (fun _=>z03 (fun h=> ?_) (fun h=>⟨_,c2,⟨rfl,by omega⟩,_,c3, ?_⟩))⟩
 · have h5:(Tm.mk k s n l).k=5:=by simpa using h
   have h5:k=5:=h5;subst h5;obtain ⟨x,rfl,_⟩:=okB5 (z0f _ hv) rfl;refine ⟨⟨rfl,by omega,by show (0:Int)<1;omega,z2l x⟩, ?_,rfl⟩;show TV.Le (aE (FT x)) _;rw [z3p,if_pos (show (Tm.mk 5 s n [x]).k=5 from rfl)];exact .refl _
 · have h5:¬(Tm.mk k s n l).k=5:=by simpa using h
   exact ret_t (by rw [if_neg h5])
theorem c_ktell (c:Cl)(X:List Cl)(h:X.length≤1000000000):AC Tryz.prog 150 [aCl c, .c (.a (.ep 0 1 0 0))] [.arr 1 [[.a (.osl 1 9 0 X.length)]], .arz 9 (CLs X)] (.tup []) [.arr 1 [[.a (.osl 2 9 0 (X++ [c]).length)]], .gone, .arz 9 (CLs (X++ [c]))]:=by
 refine AC.vc hP sh lv150 (by simp) (by simp [isLive]) (by simp [isLive]) (Eq.mpr (v150 ..) ?_);refine ⟨by omega,⟨by rw [z1s];exact Nat.le_refl _,by unfold z0x;omega⟩, .refl _, ?_⟩;rw [List.take_of_length_le (by rw [z1s];exact Nat.le_refl _)];simp [CLs]
abbrev mKi:(Bool×List EK)×(Bool×List WV):=((false,[EK.int]),(false,[.a (.fz (.bool false))]))
def z9d (m:List Int):List MapZ:=m.map fun n=>((false,[.int .i64 n]),(false,[.bool true]))
theorem zb (n:Int):∀ (m:List Int) (i:Nat),(m.contains n=false→z3w mKi.1 [.int .i64 n] ((z9d m).map thaw) i=some none)∧(m.contains n=true→∃ j,z3w mKi.1 [.int .i64 n] ((z9d m).map thaw) i=some (some (i+j))∧(z9d m)[j]? =some ((false,[.int .i64 n]),(false,[.bool true])))
 | [],i=>⟨fun _=>rfl,fun h=>by cases h⟩
 | x::m,i=>by
  have ih:=zb n m (i+1);have hf:z3w mKi.1 [.int .i64 n] ((z9d (x::m)).map thaw) i=if (((n:Int)==x)&&true)=true then some (some i) else z3w mKi.1 [.int .i64 n] ((z9d m).map thaw) (i+1):=rfl
  rw [hf];by_cases q:n=x
  · subst q;refine ⟨fun h=> ?_,fun _=>⟨0,by simp,rfl⟩⟩;simp at h
  · have e:(((n:Int)==x)&&true)=false:=by simp [q]
    rw [e];have hc:(x::m).contains n=m.contains n:=by simp [q]
    rw [hc];refine ⟨ih.1,fun h=> ?_⟩;obtain ⟨j,h1,h2⟩:=ih.2 h;exact ⟨j+1,by rw [if_neg (by simp),h1,show i+1+j=i+(j+1) by omega],by simpa [z9d] using h2⟩
theorem zh6 {n:Int}{m:List Int}(h:m.contains n=false):zbw mKi [.int .i64 n] (z9d m)=some none∧updZ mKi [.int .i64 n] (false,[.bool true]) (z9d m)=some (z9d (m++ [n])):=by
 have:=(zb n m 0).1 h;refine ⟨by unfold zbw;rw [this],by unfold updZ;rw [this];simp [z9d]⟩
theorem zrt {n:Int}{m:List Int}(h:m.contains n=true):zbw mKi [.int .i64 n] (z9d m)=some (some [.bool true]):=by
 obtain ⟨j,h1,h2⟩:=(zb n m 0).2 h;unfold zbw;rw [h1];simp only [Nat.zero_add,h2,if_true]
theorem zoo (k:Int):∀ (b a:List Tm) (m:List Int),(a++b).length≤B→RPt Tryz.prog 162 0 (cb (z9f m b k)) [] 1 ⟨[(1,ci k),(5, .c (.a (.mp 0))),(9,aL (a++b)),(10,ci (a++b).length),(11,ci a.length)],[(0, .mapz (z9d m))],1⟩
 | [],a,m,h=>by
  refine RPt.vc hP sh zqj (Eq.mpr (zrr ..) ?_);exact z03 (fun h=>absurd (of_decide_eq_true h) (by simp)) (fun _=>z04 rfl)
 | t::b,a,m,h=>by
  have h2:=zoo k b (a++ [t]) (m++ [t.n]) (by simpa using h);rw [ap,nx] at h2;simp only [List.length_append,List.length_cons,B] at h;have h4:(a.length:Int)<((a++t::b).length:Int):=by simp only [List.length_append,List.length_cons];omega
  have e0:FV.I (List.getD (List.getD (FTs (a++t::b)) (Int.toNat (a.length:Int)) []) 0 FV.N)=t.k:=by rw [midI];cases t;rfl
  have e2:FV.I (List.getD (List.getD (FTs (a++t::b)) (Int.toNat (a.length:Int)) []) 2 FV.N)=t.n:=by rw [midI];cases t;rfl
  refine RPt.vc hP sh zqj (Eq.mpr (zrr ..) ?_);rw [w64 (by omega) (by omega),e0,e2,z9f];refine z03 (fun _=>⟨⟨rfl,by omega,by rw [z02];exact h4,z5e ..⟩,z03 (fun h=>z04 ?_) (fun h3=>z03 (fun h=>z04 ?_) (fun hk=> ?_))⟩) (fun h=>absurd h4 (of_decide_eq_false h))
  · rw [if_pos (by simpa using h)]
  · rw [if_neg (by simpa using h3),if_pos (by simpa using h)]
  · rw [if_neg (by simpa using h3),if_neg (by simpa using hk)];cases hc:m.contains t.n with
    | true=>exact .inl ⟨true,zrt hc,z03 (fun _=>z04 rfl) (fun h=>by cases h)⟩
    | false=>exact .inr ⟨(zh6 hc).1,_,(zh6 hc).2,h2⟩
theorem c_kdist (l:List Tm)(k:Int)(h:l.length≤B):AC Tryz.prog 162 [aL l,ci k] [] (cb (z9f [] l k)) []:=by
 have h1:=zoo k l [] [] h;refine AC.vc hP sh zqj (Nat.le_refl _) (by simp) (by simp) (Eq.mpr (v162 ..) ?_);rw [z02];exact ⟨rfl,h1⟩
theorem zre (p:Tm→Bool)(n:Int)(b:List Tm):∀ a:List Tm,(a++b).length≤B→(∀ u∈b,AC Tryz.prog 163 [aT u, .c (.a (.ep 0 1 0 0))] [obN n] (cb (p u)) [obN n])→RPt Tryz.prog 84 1 (ci (ixF p b a.length)) [obN n] 1 ⟨[(0,aL (a++b)),(1, .c (.fn (.func 163) [] [(false,[.ep 0 1 0 0])])),(7,ci (a++b).length),(8,ci a.length)],[(0,obN n)],1⟩:=by
 induction b with
 | nil=>
  intro a hs _;refine RPt.vc hP sh lv84 (Eq.mpr (zat ..) ?_);exact z03 (fun h=>absurd (of_decide_eq_true h) (by simp)) (fun _=>⟨.refl _,rfl⟩)
 | cons t b ihb=>
  intro a hs ih;have h3:=ltI' a t b;have h1:=ih t List.mem_cons_self;have h2:=ihb (a++ [t]) (by simpa using hs) (fun u hu=>ih u (List.mem_cons_of_mem _ hu));rw [ap,nx,show (a++ [t]).length=a.length+1 by simp] at h2;rw [ixF];simp only [List.length_append,List.length_cons,B] at hs;have h4:(a.length:Int)<((a++t::b).length:Int):=by simp only [List.length_append,List.length_cons];omega
  refine RPt.vc hP sh lv84 (Eq.mpr (zat ..) ?_);rw [w64 (by omega) (by omega)];refine z03 (fun _=>⟨⟨rfl,by omega,h3,z5e ..⟩,p t,by rw [z8s];exact h1,z03 (fun h=> ?_) (fun h=> ?_)⟩) (fun h=>absurd h4 (of_decide_eq_false h))
  · rw [if_pos h];exact ⟨.refl _,rfl⟩
  · rw [if_neg (by rw [h];simp)];exact h2
theorem zll (p:Tm→Bool)(n:Int)(l:List Tm)(hl:l.length≤B)(h:∀ u∈l,AC Tryz.prog 163 [aT u, .c (.a (.ep 0 1 0 0))] [obN n] (cb (p u)) [obN n]):AC Tryz.prog 39 [aL l, .c (.fn (.func 163) [] [(false,[.ep 0 1 0 0])])] [obN n] (cb (l.any p)) [obN n]:=by
 have h0:=zre p n l [] hl h
 have h1:AC Tryz.prog 84 [aL l, .c (.fn (.func 163) [] [(false,[.ep 0 1 0 0])])] [obN n] (ci (ixF p l 0)) [obN n]:=by
  refine AC.vc hP sh lv84 (Nat.le_refl _) (by simp [isLive]) (by simp) (Eq.mpr (v84_F163 ..) ?_);rw [z02];exact ⟨rfl,h0⟩
 refine AC.vc hP sh lv39 (Nat.le_refl _) (by simp [isLive]) (by simp) (Eq.mpr (v39_F163 ..) ?_);exact ⟨_,h1,by rw [z6y p l 0];exact ⟨.refl _,rfl⟩⟩
theorem z9r (t:Tm):(z00 t).1.sz≤t.sz∧(∀ u∈(z00 t).2,u.sz+1≤t.sz)∧(z00 t).2.length≤t.sz:=by
 unfold z00;split
 · rename_i h;obtain ⟨k,s,n,l⟩:=t;obtain ⟨x,y,r,rfl,_,_⟩:=okB6 (z0f _ h.2) h.1;have hl:=Tm.szs_length (y::r);refine ⟨?_,fun u hu=> ?_, ?_⟩
   · simp only [Tm.l,hd,List.headD_cons,Tm.sz,Tm.szs];omega
   · have:=Tm.szs_mem (show u∈y::r from hu);have hx:=x.sz_pos;simp only [Tm.sz,Tm.szs] at*;omega
   · simp only [Tm.l,List.drop_succ_cons,List.drop_zero,Tm.sz,Tm.szs] at*;omega
 · exact ⟨Nat.le_refl _,fun u hu=>by simp at hu,by simp⟩
theorem zrz:∀ (n:Nat) (t:Tm) (k:Int),t.sz≤n→t.sz≤B→validB t=true→0≤k→k+n≤M61→AC Tryz.prog 156 [aT t,ci k] [] (cb (patG n t k)) []
 | 0,t,k,hn,_,_,_,_=>by have:=t.sz_pos;omega
 | n+1,t,k,hn,hz,hv,h0,h1=>by
  have c1:=z67 t hz;have hs:=z9r t
  have hkids:∀ u∈(z00 t).2,validB u=true:=by
   intro u hu;unfold z00 at hu;split at hu
   · obtain ⟨kk,s,m,l⟩:=t;exact z3e hv (.inr ‹_∧_›.1) u (List.mem_of_mem_drop hu)
   · simp at hu
  have c2:=c_kdist (z00 t).2 k (by omega)
  have c3:=zll (fun u=> !patG n u k) k (z00 t).2 (by omega) (fun u hu=>by
   have h:=zrz n u k (by have:=hs.2.1 u hu;omega) (by have:=hs.2.1 u hu;omega) (hkids u hu) h0 (by omega);obtain ⟨a,b,c,d⟩:=u;refine AC.vc hP sh lv163 (Nat.le_refl _) (by simp [isLive]) (by simp) (Eq.mpr (v163 ..) ?_);exact ⟨_,h, .refl _,rfl⟩)
  rw [patG];simp only [M61] at h1;refine AC.vc hP sh lv156 (Nat.le_refl _) (by simp) (by simp) (Eq.mpr (v156 t.k t.s t.n (FTs t.l) k ..) ?_);rw [w64 (x:=k+1) (by omega) (by omega)];refine z03 (fun h=> ?_) (fun h5=>⟨z00 t,c1,z03 (fun h=>z04 ?_) (fun hh5=>z03 (fun h=>⟨_,c2,z04 ?_⟩) (fun hh4=>z03 (fun h=>z03 (fun hk=>⟨_,c2,z04 ?_⟩) (fun hk=>⟨_,c3,z04 ?_⟩)) (fun h3=>⟨_,c3,z04 ?_⟩)))⟩)
  · have h5:t.k=5:=by simpa using h
    rw [if_pos h5];obtain ⟨kk,s,m,l⟩:=t;have h5:kk=5:=h5;subst h5;obtain ⟨x,rfl,_⟩:=okB5 (z0f _ hv) rfl;have hx:=zrz n x (k+1) (by simp only [Tm.sz,Tm.szs] at hn;omega) (by simp only [Tm.sz,Tm.szs] at hz;omega) (z3e hv (.inl rfl) x (by simp)) (by omega) (by simp only [M61];omega);exact ⟨⟨rfl,by omega,by show (0:Int)<1;omega,z2l x⟩,_,by show AC Tryz.prog 156 [aE (FT x),_] [] _ [];rw [z3p];exact hx,z04 rfl⟩
  · rw [if_neg (by simpa using h5),if_pos (by simpa using h)]
  · rw [if_neg (by simpa using h5),if_neg (by simpa using hh5),if_pos (.inl (by simpa using h))]
  · rw [if_neg (by simpa using h5),if_neg (by simpa using hh5),if_pos (.inr ⟨by simpa using h,by simpa using hk⟩)]
  · have h3:(z00 t).1.k=3:=by simpa using h
    have hk:¬k≤(z00 t).1.n:=by simpa using hk
    rw [if_neg (by simpa using h5),if_neg (by simpa using hh5),if_neg (by omega),z9y]
  · have h3:¬(z00 t).1.k=3:=by simpa using h3
    have h4:¬(z00 t).1.k=4:=by simpa using hh4
    rw [if_neg (by simpa using h5),if_neg (by simpa using hh5),if_neg (by omega),z9y]
end Go.AM

set_option maxRecDepth 100000
open Go Go.Proofs
namespace Go.AM
mutual
def ms (b:Int→List UInt8→Nat):Tm→Nat
 | .mk k s _ l=>b k s+mss b l
def mss (b:Int→List UInt8→Nat):List Tm→Nat
 | []=>0
 | t::l=>ms b t+mss b l
end
mutual
theorem zg0:∀ t:Tm,ms (fun _ _=>1) t=t.sz
 | .mk _ _ _ l=>by rw [ms,Tm.sz,mss_sz l]
theorem mss_sz:∀ l:List Tm,mss (fun _ _=>1) l=Tm.szs l
 | []=>rfl
 | t::l=>by rw [mss,Tm.szs,zg0 t,mss_sz l]
end
mutual
theorem ze:∀ t:Tm,ms (fun _ s=>1+s.length) t=t.bk
 | .mk _ _ _ l=>by rw [ms,Tm.bk,mss_bk l]
theorem mss_bk:∀ l:List Tm,mss (fun _ s=>1+s.length) l=Tm.bks l
 | []=>rfl
 | t::l=>by rw [mss,Tm.bks,ze t,mss_bk l]
end
abbrev wb:Int→List UInt8→Nat:=fun k _=>if k=0 then 4 else 1
abbrev wt (t:Tm):Nat:=ms wb t
mutual
theorem zgl:∀ t:Tm,t.sz≤wt t
 | .mk k _ _ l=>by
  have:=zo1 l;unfold wt;rw [Tm.sz,ms];have:1≤wb k []:=by unfold wb;split<;>omega
  have e:wb k []=wb k ‹_›:=rfl;omega
theorem zo1:∀ l:List Tm,Tm.szs l≤mss wb l
 | []=>Nat.le_refl _
 | t::l=>by have:=zgl t;have:=zo1 l;rw [Tm.szs,mss];unfold wt at*;omega
end
section
variable {b:Int→List UInt8→Nat}
theorem zho (t:Tm):ms b t=b t.k t.s+mss b t.l:=by cases t;rw [ms];rfl
theorem zcz:∀ l m:List Tm,mss b (l++m)=mss b l+mss b m
 | [],m=>by simp [mss]
 | t::l,m=>by rw [List.cons_append,mss,mss,zcz l m];omega
theorem zn7:∀ {l:List Tm} {t:Tm},t∈l→ms b t≤mss b l
 | x::l,t,h=>by
  rw [mss];rcases List.mem_cons.1 h with rfl | h
  · omega
  · have:=zn7 h;omega
theorem zob (lf:Tm→Int→Tm)(h:∀ u d,u.k≠5→u.k≠6→(lf u d).k≠6)(t:Tm)(d:Int)(h6:(z0a lf t d).k=6):t.k=6:=by
 obtain ⟨k,s,n,l⟩:=t;rw [z0a] at h6;split at h6
 · rw [withF_k] at h6;exact h6
 · rename_i hk;exact absurd h6 (h _ _ (fun e=>hk (by rw [show k=5 from e];rfl)) (fun e=>hk (by rw [show k=6 from e];rfl)))
theorem z1o (lf:Tm→Int→Tm)(h:∀ u d,u.k≠5→u.k≠6→(lf u d).k≠6)(k:Int)(s:List UInt8)(n:Int)(l:List Tm)(d:Int)(hk:(k==5||k==6)=true):
  z0a lf (.mk k s n l) d= .mk k s n (z08 lf l (d+if (k==5)=true then 1 else 0)):=by
 rw [z0a,if_pos hk,z2f,if_neg fun e=> ?_];rfl
 match l,e with
 | [],e=>have:=e.2.1;simp [z08] at this
 | t::l,e=>
  have e1:=e.2.2.1;have e2:(t.k !=6)=true:=e.2.2.2;rw [z08,List.headD_cons] at e1;have:=zob lf h t _ (by simpa using e1);simp [this] at e2
mutual
theorem zep (lf:Tm→Int→Tm)(h:∀ u d,u.k≠5→u.k≠6→(lf u d).k≠6)(hm:∀ u d,u.k≠5→u.k≠6→ms b (lf u d)≤ms b u):∀ (t:Tm) (d:Int),ms b (z0a lf t d)≤ms b t
 | .mk k s n l,d=>by
  by_cases hk:(k==5||k==6)=true
  · have:=zld lf h hm l (d+if (k==5)=true then 1 else 0)
    rw [z1o lf h k s n l d hk,ms,ms];omega
  · rw [z0a,if_neg hk];exact hm _ _ (fun e=>hk (by rw [show k=5 from e];rfl)) (fun e=>hk (by rw [show k=6 from e];rfl))
theorem zld (lf:Tm→Int→Tm)(h:∀ u d,u.k≠5→u.k≠6→(lf u d).k≠6)(hm:∀ u d,u.k≠5→u.k≠6→ms b (lf u d)≤ms b u):∀ (l:List Tm) (d:Int),mss b (z08 lf l d)≤mss b l
 | [],_=>Nat.le_refl _
 | t::l,d=>by have:=zep lf h hm t d;have:=zld lf h hm l d;rw [z08,mss,mss];omega
end
theorem zpo (fr by_:Int)(u:Tm)(d:Int)(h6:u.k≠6):(z2n fr by_ u d).k≠6:=by rw [zkz];exact h6
theorem zng (fr by_:Int)(t:Tm)(d:Int):ms b (shT fr by_ t d)≤ms b t:=by
 refine zep _ (fun u d _ h6=>zpo _ _ u d h6) (fun u d _ _=> ?_) t d;unfold z2n;split
 · rw [zho u];exact Nat.le_refl _
 · exact Nat.le_refl _
theorem z65 (i v:Int)(u:Tm)(d:Int):z1z i (.mk 4 [] v []) u d=if (u.k==3)=true then (if u.n<d+i then u else if (u.n==d+i)=true then .mk 4 [] v [] else .mk u.k u.s (u.n-1) u.l) else u:=rfl
theorem zik (i v:Int)(u:Tm)(d:Int)(h6:u.k≠6):(z1z i (.mk 4 [] v []) u d).k≠6:=by
 rw [z65];split
 · split
   · exact h6
   · split
     · intro h;cases h
     · exact h6
 · exact h6
theorem zpl (hb:∀ s,b 4 []≤b 3 s)(i v:Int)(t:Tm)(d:Int):ms b (suT i (.mk 4 [] v []) t d)≤ms b t:=by
 refine zep _ (fun u d _ h6=>zik _ _ u d h6) (fun u d _ _=> ?_) t d;rw [z65];split
 · rename_i h3;have h3:u.k=3:=by simpa using h3
   split
   · exact Nat.le_refl _
   · split
     · rw [zho u,h3,ms];have:=hb u.s;simp only [mss];omega
     · rw [zho u];exact Nat.le_refl _
 · exact Nat.le_refl _
theorem apply_ms (_:∀ s,b 6 []≤b 6 s)(f:Tm)(l:List Tm):ms b (z2e f l)≤b 6 []+ms b f+mss b l:=by
 match l with
 | []=>show ms b f≤_;omega
 | x::r=>
  show ms b (if (f.k==6)=true∧f.l ≠ [] then .mk 6 [] 0 (f.l++x::r) else .mk 6 [] 0 (f::x::r))≤_
  split
  · rw [ms,zcz,zho f];omega
  · rw [ms,mss];omega
theorem zif (hb:∀ s,b 6 []≤b 6 s)(t:Tm)(hv:validB t=true):ms b (z0g t)≤b 6 []+ms b t+b 3 []:=by
 unfold z0g;split
 · rename_i h5;obtain ⟨k,s,n,l⟩:=t;obtain ⟨x,rfl,_⟩:=okB5 (z0f _ hv) h5;show ms b x≤_;rw [ms,mss];omega
 · have h1:=apply_ms hb (shT 0 1 t 0) [bd0];have h2:=zng (b:=b) 0 1 t 0;rw [mss,mss,ms,mss] at h1;omega
end
theorem z54 {t:Tm}(h:(z00 t).2 ≠ []):∃ s n x y r,t= .mk 6 s n (x::y::r)∧z00 t=(x,y::r)∧validB t=true:=by
 unfold z00 at h;split at h
 · rename_i hc;obtain ⟨k,s,n,l⟩:=t;have h6:k=6:=hc.1;subst h6;obtain ⟨x,y,r,rfl,_,_⟩:=okB6 (z0f _ hc.2) rfl;exact ⟨s,n,x,y,r,rfl,if_pos hc,hc.2⟩
 · exact absurd rfl h
theorem arg_ms (b:Int→List UInt8→Nat){t u:Tm}(hu:u∈(z00 t).2):(∃ s,ms b t≥b 6 s+ms b (z00 t).1+ms b u):=by
 obtain ⟨s,n,x,y,r,rfl,e,_⟩:=z54 (t:=t) (fun e=>by rw [e] at hu;cases hu);rw [e] at hu ⊢;have h7:ms b u≤mss b (y::r):=zn7 hu;exact ⟨s,by rw [ms,mss];show _≥b 6 s+ms b x+ms b u;omega⟩
theorem head_wt {t:Tm}(h:(z00 t).1.k=0):4≤wt (z00 t).1:=by
 unfold wt;rw [zho,h];show 4≤4+_;omega
theorem z40 {t u:Tm}(hu:u∈(z00 t).2)(h:(z00 t).1.k=0):5+wt u≤wt t:=by
 obtain ⟨s,hs⟩:=arg_ms wb hu;have:=head_wt h;unfold wt at*;simp only [show wb 6 s=1 from rfl] at hs;omega
theorem z8t {t u:Tm}(hu:u∈(z00 t).2):2+u.sz≤t.sz:=by
 obtain ⟨s,hs⟩:=arg_ms (fun _ _=>1) hu;rw [zg0,zg0,zg0] at hs;have:=(z00 t).1.sz_pos;omega
theorem z8m {t:Tm}(hv:validB t=true):wt (z0g t)≤wt t+2:=by
 have:=zif (b:=wb) (fun _=>Nat.le_refl _) t hv;unfold wt;simp only [show wb 6 []=1 from rfl,show wb 3 []=1 from rfl] at this;omega
theorem zei {t:Tm}(hv:validB t=true):(z0g t).sz≤t.sz+2:=by
 have:=zif (b:=fun _ _=>1) (fun _=>Nat.le_refl _) t hv;rw [zg0,zg0] at this;omega
theorem z0b {t u:Tm}(hu:u∈(z00 t).2):validB u=true:=by
 obtain ⟨s,n,x,y,r,rfl,e,hv⟩:=z54 (t:=t) (fun e=>by rw [e] at hu;cases hu);rw [e] at hu;exact z3e hv (.inr rfl) u (List.mem_cons_of_mem _ hu)
theorem zff {M:Int}{t:Tm}(hM:M+1≤4611686018427387904)(hv:validB t=true)(hb:bd M t):validB (shT 0 1 t 0)=true:=by
 rw [z4n,Bool.and_eq_true];exact ⟨shT_ok 0 (z0f _ hv),shT_lv (D:=0) (by omega) hM t 0 0 hb (z9v hv) (Int.le_refl 0)⟩
theorem zmj {M:Int}{t:Tm}(hM:M+1≤4611686018427387904)(hv:validB t=true)(hb:bd M t):validB (z0g t)=true:=by
 unfold z0g;split
 · rename_i h5;obtain ⟨k,s,n,l⟩:=t;obtain ⟨x,rfl,_⟩:=okB5 (z0f _ hv) h5;exact z3e hv (.inl h5) x (by simp)
 · have h1:=zff hM hv hb;rw [z4n,Bool.and_eq_true];exact ⟨zgb (z0f _ h1) rfl,zhh (z9v h1) rfl⟩
theorem zrf {M:Int}{t:Tm}(h0:0≤M)(hv:validB t=true)(hb:bd M t):bd (M+1) (z0g t):=by
 unfold z0g;split
 · rename_i h5;obtain ⟨k,s,n,l⟩:=t;obtain ⟨x,rfl,_⟩:=okB5 (z0f _ hv) h5;exact z46 (by omega) _ (z3z (bd_l hb) (by simp [hd,Tm.l]))
 · exact zhr (zq8 (by omega) t 0 hb (Int.le_refl 0)) ⟨⟨fun _=>⟨by show 0-(M+1)≤(0:Int);omega,by show (0:Int)≤M+1;omega⟩,trivial⟩,trivial⟩
def TG (n:Nat)(t:Tm):Prop:=validB t=true∧t.sz≤1000000∧bd (1000000000000-n) t
theorem TG.mono {n m:Nat}{t:Tm}(h:TG n t)(hm:m≤n):TG m t:=⟨h.1,h.2.1,z46 (by omega) _ h.2.2⟩
theorem TG.arg {n:Nat}{t u:Tm}(h:TG (n+1) t)(hu:u∈(z00 t).2):TG n u:=by
 refine ⟨z0b hu,by have:=z8t hu;have:=h.2.1;omega, ?_⟩;obtain ⟨s,m,x,y,r,rfl,e,_⟩:=z54 (t:=t) (fun e=>by rw [e] at hu;cases hu);rw [e] at hu;exact z46 (by omega) _ (z3z (bd_l h.2.2) (List.mem_cons_of_mem _ hu))
theorem TG.body {n:Nat}{t u:Tm}(hn:n≤1000000000)(h:TG (n+1) t)(hu:u∈(z00 t).2):TG n (z0g u):=by
 have hv:=z0b hu
 have hb:bd (1000000000000-(n+1:Nat)) u:=by
  obtain ⟨s,m,x,y,r,rfl,e,_⟩:=z54 (t:=t) (fun e=>by rw [e] at hu;cases hu);rw [e] at hu;exact z3z (bd_l h.2.2) (List.mem_cons_of_mem _ hu)
 refine ⟨zmj (by omega) hv hb,by have:=z8t hu;have:=h.2.1;have:=zei hv;omega, ?_⟩;have:=zrf (by omega) hv hb;rw [show (1000000000000:Int)-(n+1:Nat)+1=1000000000000-n by omega] at this;exact this
theorem TG.sh {n:Nat}{t:Tm}(hn:n≤1000000000)(h:TG (n+1) t):TG n (shT 0 1 t 0):=by
 refine ⟨zff (by omega) h.1 h.2.2,by have:=zle 0 1 t 0;have:=h.2.1;omega, ?_⟩;have:=zq8 (fr:=0) (by_:=1) (by omega) t 0 h.2.2 (Int.le_refl 0);rw [show (1000000000000:Int)-(n+1:Nat)+1=1000000000000-n by omega] at this;exact this
theorem zhb {t:Tm}{flex:Int}(hf:flex≠0)(h:(z01 t flex).2.2=0)(hne:(z01 t flex).1 ≠ []):(z00 t).1.k=0∧(z01 t flex).1=(z00 t).1.s∧(z01 t flex).2.1=(z00 t).2∧((z00 t).2.length:Int)=zc4 (z01 t flex).1:=by
 obtain ⟨h0,⟨e,_⟩ | ⟨e1,_,e2,e3⟩⟩:=z66 hf h
 · exact absurd e hne
 · exact ⟨h0,e1,e2,by rw [e3,e1]⟩
theorem two_of {l:List Tm}(h:(l.length:Int)=2):∃ a b,l=[a,b]:=by
 match l,h with
 | [a,b],_=>exact ⟨a,b,rfl⟩
 | [],h=>simp at h
 | [_],h=>simp at h
 | _::_::_::_,h=>simp only [List.length_cons] at h;omega
theorem one_of {l:List Tm}(h:(l.length:Int)=1):∃ a,l=[a]:=by
 match l,h with
 | [a],_=>exact ⟨a,rfl⟩
 | [],h=>simp at h
 | _::_::_,h=>simp only [List.length_cons] at h;omega
theorem z0h {t:Tm}{flex:Int}(hf:flex≠0)(h:(z01 t flex).2.2=0)(hn:(z01 t flex).1=nAnd∨(z01 t flex).1=nOr∨(z01 t flex).1=nImp∨(z01 t flex).1=nIf):
  ∃ a c,(z01 t flex).2.1=[a,c]∧(z00 t).2=[a,c]∧(z00 t).1.k=0:=by
 have hne:(z01 t flex).1 ≠ []:=by rcases hn with e | e | e | e<;>rw [e]<;>simp
 obtain ⟨h0,h1,h2,h3⟩:=zhb hf h hne;have:zc4 (z01 t flex).1=2:=by rcases hn with e | e | e | e<;>rw [e]<;>rfl
 obtain ⟨a,c,e⟩:=two_of (h3.trans this);exact ⟨a,c,h2.trans e,e,h0⟩
theorem z1c {t:Tm}{flex:Int}(hf:flex≠0)(h:(z01 t flex).2.2=0)(hn:(z01 t flex).1=nPi∨(z01 t flex).1=nSig):
  ∃ a,(z01 t flex).2.1=[a]∧(z00 t).2=[a]∧(z00 t).1.k=0:=by
 have hne:(z01 t flex).1 ≠ []:=by rcases hn with e | e<;>rw [e]<;>simp
 obtain ⟨h0,h1,h2,h3⟩:=zhb hf h hne;have:zc4 (z01 t flex).1=1:=by rcases hn with e | e<;>rw [e]<;>rfl
 obtain ⟨a,e⟩:=one_of (h3.trans this);exact ⟨a,h2.trans e,e,h0⟩
theorem zcx {t a c:Tm}(h:(z00 t).2=[a,c]):2+a.sz+c.sz≤t.sz:=by
 obtain ⟨s,n,x,y,r,rfl,e,_⟩:=z54 (t:=t) (by rw [h];simp);rw [e] at h;injection h with h1 h2
 subst h1;subst h2;have:=x.sz_pos;simp only [Tm.sz,Tm.szs];omega
theorem z47 (w:Bool):∀ (n:Nat) (any:Bool) (vs:Int) (L:List Tm) (t:Tm),(clsF w n any vs L t).2.length≤t.sz
 | 0,_,_,_,t=>Nat.zero_le _
 | n+1,any,vs,L,t=>by
  have hp:=t.sz_pos;rw [clsF];split
  · exact Nat.zero_le _
  · rename_i he;have he:(z01 t 131).2.2=0:=Classical.byContradiction he;split
    · split
      · exact Nat.zero_le _
      · exact hp
    · split
      · rename_i hn;obtain ⟨a,c,e,e2,_⟩:=z0h (by omega) he (.inl hn);rw [e];have h1:=z47 w n any vs L a;have h2:=z47 w n any vs L c;have h3:=zcx e2;split
        · show (clsF w n any vs L a).2.length≤_;omega
        · show ((clsF w n any vs L a).2++(clsF w n any vs L c).2).length≤_;rw [List.length_append];omega
      · split
        · rename_i hn;obtain ⟨a,e,e2,_⟩:=z1c (by omega) he (.inl hn);rw [e];have hu:a∈(z00 t).2:=by rw [e2];simp
          have h1:=z47 w n any (vs+1) (L.map fun g=>shT 0 1 g 0) (z0g a);have h2:=zei (z0b hu);have h3:=z8t hu;show (clsF w n any (vs+1) (L.map fun g=>shT 0 1 g 0) (z0g a)).2.length≤_;omega
        · split
          · rename_i hn;obtain ⟨a,c,e,e2,_⟩:=z0h (by omega) he (.inr (.inr (.inl hn)));rw [e];have h3:=zcx e2;split
            · exact Nat.zero_le _
            · have h1:=z47 w n any vs (L++ [a]) c;show (clsF w n any vs (L++ [a]) c).2.length≤_;omega
          · split
            · rename_i hn;obtain ⟨a,c,e,e2,_⟩:=z0h (by omega) he (.inr (.inr (.inr hn)));rw [e];have h3:=zcx e2;split
              · exact Nat.zero_le _
              · have h1:=z47 w n any vs (L++ [c]) a;show (clsF w n any vs (L++ [c]) a).2.length≤_;omega
            · exact Nat.zero_le _
end Go.AM

set_option maxRecDepth 100000
open Go Go.Proofs
namespace Go.AM
theorem br_t {c:Bool}{p q:Prop}(h:c=true)(hp:p):br c p q:=z03 (fun _=>hp) (fun h'=>by rw [h] at h';cases h')
theorem br_f {c:Bool}{p q:Prop}(h:c=false)(hq:q):br c p q:=z03 (fun h'=>by rw [h] at h';cases h') (fun _=>hq)
theorem z5f (a:Tm):List.take 4 (List.drop 0 (FT a))=FT a:=by cases a;rfl
abbrev tellK:TV:= .c (.fn (.func 150) [] [(false,[.ep 0 1 0 0])])
abbrev inK (X:List Cl):List AObj:=[.arr 1 [[.a (.osl 1 9 0 X.length)]], .arz 9 (CLs X)]
abbrev outK (X:List Cl):List AObj:=[.arr 1 [[.a (.osl 2 9 0 X.length)]], .gone, .arz 9 (CLs X)]
theorem c_keach1 (n:Nat)(u:Tm)(hn:u.sz≤n)(hz:u.sz≤B)(hv:validB u=true)(hM:(n:Int)≤M61):AC Tryz.prog 155 [aT u] [] (cb (!patG n u 0)) []:=by
 have h:=zrz n u 0 hn hz hv (Int.le_refl 0) (by omega);obtain ⟨a,b,c,d⟩:=u;refine AC.vc hP sh lv155 (Nat.le_refl _) (by simp) (by simp) (Eq.mpr (v155 ..) ?_);exact ⟨_,h,z04 rfl⟩
theorem l_ixE1 (p:Tm→Bool)(b:List Tm):∀ a:List Tm,(a++b).length≤B→(∀ u∈b,AC Tryz.prog 155 [aT u] [] (cb (p u)) [])→
  RPt Tryz.prog 84 1 (ci (ixF p b a.length)) [.arz 4 (FTs (a++b))] 1 ⟨[(0, .c (.a (.osl 0 4 0 (a++b).length))),(1, .c (.fn (.func 155) [] [])),(7,ci (a++b).length),(8,ci a.length)],[(0, .arz 4 (FTs (a++b)))],1⟩:=by
 induction b with
 | nil=>
  intro a hs _;refine RPt.vc hP sh lv84 (Eq.mpr (z6g ..) ?_);exact z03 (fun h=>absurd (of_decide_eq_true h) (by simp)) (fun _=>⟨.refl _,rfl⟩)
 | cons t b ihb=>
  intro a hs ih;have h1:=ih t List.mem_cons_self;have h2:=ihb (a++ [t]) (by simpa using hs) (fun u hu=>ih u (List.mem_cons_of_mem _ hu));rw [ap,nx,show (a++ [t]).length=a.length+1 by simp] at h2;rw [ixF];simp only [List.length_append,List.length_cons,B] at hs;have h4:(a.length:Int)<((a++t::b).length:Int):=by simp only [List.length_append,List.length_cons];omega
  refine RPt.vc hP sh lv84 (Eq.mpr (z6g ..) ?_);rw [w64 (by omega) (by omega),Nat.zero_add,midI,z3p];refine z03 (fun _=>⟨⟨by omega,h4⟩,⟨by rw [z02,List.length_append,List.length_cons];omega,(z2l t).trans (z5f t).symm,rfl⟩,p t,h1,z03 (fun h=> ?_) (fun h=> ?_)⟩) (fun h=>absurd h4 (of_decide_eq_false h))
  · rw [if_pos h];exact ⟨.refl _,rfl⟩
  · rw [if_neg (by rw [h];simp)];exact h2
theorem c_anyE1 (p:Tm→Bool)(l:List Tm)(hl:l.length≤B)(h:∀ u∈l,AC Tryz.prog 155 [aT u] [] (cb (p u)) []):AC Tryz.prog 39 [.c (.a (.osl 0 4 0 l.length)), .c (.fn (.func 155) [] [])] [.arz 4 (FTs l)] (cb (l.any p)) [.arz 4 (FTs l)]:=by
 have h0:=l_ixE1 p l [] hl h
 have h1:AC Tryz.prog 84 [.c (.a (.osl 0 4 0 l.length)), .c (.fn (.func 155) [] [])] [.arz 4 (FTs l)] (ci (ixF p l 0)) [.arz 4 (FTs l)]:=by
  refine AC.vc hP sh lv84 (Nat.le_refl _) (by simp [isLive]) (by simp) (Eq.mpr (zjk ..) ?_);exact h0
 refine AC.vc hP sh lv39 (Nat.le_refl _) (by simp [isLive]) (by simp) (Eq.mpr (zji ..) ?_);exact ⟨_,h1,by rw [z6y p l 0];exact ⟨.refl _,rfl⟩⟩
theorem c_anyE1N:AC Tryz.prog 39 [.c (.a (.fz .N)), .c (.fn (.func 155) [] [])] [] (cb false) []:=by
 have h1:AC Tryz.prog 84 [aL [], .c (.fn (.func 155) [] [])] [] (ci (-1)) []:=by
  refine AC.vc hP sh lv84 (Nat.le_refl _) (by simp) (by simp) (Eq.mpr (v84_F155 ..) ?_);refine ⟨rfl,RPt.vc hP sh lv84 (Eq.mpr (zj1 ..) ?_)⟩;exact br_f rfl (z2g rfl)
 have h2:AC Tryz.prog 39 [aL [], .c (.fn (.func 155) [] [])] [] (cb false) []:=by
  refine AC.vc hP sh lv39 (Nat.le_refl _) (by simp) (by simp) (Eq.mpr (v39_F155 ..) ?_);exact ⟨_,h1,z04 rfl⟩
 exact h2.args ⟨.c _ _ (.a _ _ (.fz _ _ z3i)), .refl _,trivial⟩
def GC (n:Nat):Prop:=
 (∀ t,wt t≤n→TG n t→AC Tryz.prog 48 [aT t] [] (ci (z05 false n t)) [])∧
 (∀ (any:Bool) (vs:Int) (L:List Tm) (t:Tm) (X:List Cl),wt t≤n→TG n t→(∀ g∈L,TG n g)→0≤vs→vs+n≤1000000000000→L.length+n≤1000000000→X.length+t.sz≤1000000000→
  AC Tryz.prog 149 [aT t,aAr vs L any,tellK] (inK X) (ci (clsF false n any vs L t).1) (outK (X++(clsF false n any vs L t).2)))
theorem all_of {n:Nat}(h:GC n)(hn:n≤1000000000)(any:Bool)(t:Tm)(hw:wt t≤n)(ht:TG n t):AC Tryz.prog 130 [aT t,aAr 0 [] any] [] (.tup [(false,[.a (.fz (.sl false 9 (CLs (if (clsF false n any 0 [] t).1=0 then (clsF false n any 0 [] t).2 else []))))]),(false,[.a (.fz (.int .i64 (clsF false n any 0 [] t).1))])]) []:=by
 have h1:=h.2 any 0 [] t [] hw ht (fun g hg=>by cases hg) (Int.le_refl 0) (by omega) (by simpa using hn) (by have:=ht.2.1;simp only [List.length_nil];omega);rw [List.nil_append] at h1;refine AC.vc hP sh lv130 (Nat.le_refl _) (by simp) (by simp) (Eq.mpr (v130 ..) ?_);refine ⟨(_,_),h1,z03 (fun he=> ?_) (fun he=> ?_)⟩
 · rw [if_neg (by simpa using he)];exact ⟨zph ⟨lw1 (.a _ _ (.fz _ _ (.N 9))),lwR _,trivial⟩,rfl⟩
 · have he:(clsF false n any 0 [] t).1=0:=by simpa using he
   rw [if_pos he,he];refine ⟨⟨rfl,by rw [z1s];omega⟩, ?_,rfl⟩;rw [List.drop_zero,List.take_of_length_le (by rw [z1s];exact Nat.le_refl _)];exact .refl _
def z0w (n:Nat)(any:Bool)(t:Tm):List Cl:=if (clsF false n any 0 [] t).1=0 then (clsF false n any 0 [] t).2 else []
theorem arN (any:Bool):TV.Le (.agg [.a (.fz (.int .i64 0)), .a (.fz .N), .a (.fz (.bool any))]) (aAr 0 [] any):= .agg _ _ rfl (fun i x y hx hy=>by
 match i with
 | 0=>simp at hx hy;subst hx;subst hy;exact .refl _
 | 1=>simp at hx hy;subst hx;subst hy;exact .a _ _ (.fz _ _ z3i)
 | 2=>simp at hx hy;subst hx;subst hy;exact .refl _
 | i+3=>simp at hx)
theorem zjh {n:Nat}(h:GC n)(hn:n≤1000000000)(t:Tm)(hw:wt t≤n)(ht:TG n t):AC Tryz.prog 92 [aT t] [] (.tup [(false,[.a (.fz (.sl false 9 (CLs (z0w n false t))))]),(false,[.a (.fz (.int .i64 (clsF false n false 0 [] t).1))])]) []:=by
 have c1:=z2r t (by have:=ht.2.1;simp only [B];omega);have h1:=(all_of h hn false t hw ht).args (args:=[aT t, .agg [.a (.fz (.int .i64 0)), .a (.fz .N), .a (.fz (.bool false))]]) ⟨.refl _,arN _,trivial⟩;have hv:=ht.1;obtain ⟨a,b,c,d⟩:=t;refine AC.vc hP sh lv92 (Nat.le_refl _) (by simp) (by simp) (Eq.mpr (v92 ..) ?_);exact ⟨_,c1,br_f (by rw [hv];rfl) ⟨(_,_),h1, .refl _,rfl⟩⟩
theorem znq {n:Nat}(h:GC n)(hn:n≤1000000000)(t:Tm)(hw:wt t≤n)(ht:TG n t):AC Tryz.prog 147 [aT t] [] (.tup [(false,[.a (.fz (.sl false 9 (CLs (z0w n true t))))]),(false,[.a (.fz (.int .i64 (clsF false n true 0 [] t).1))])]) []:=by
 have c1:=z2r t (by have:=ht.2.1;simp only [B];omega);have h1:=(all_of h hn true t hw ht).args (args:=[aT t, .agg [.a (.fz (.int .i64 0)), .a (.fz .N), .a (.fz (.bool true))]]) ⟨.refl _,arN _,trivial⟩;have hv:=ht.1;obtain ⟨a,b,c,d⟩:=t;refine AC.vc hP sh lv147 (Nat.le_refl _) (by simp) (by simp) (Eq.mpr (v147 ..) ?_);exact ⟨_,c1,br_f (by rw [hv];rfl) ⟨(_,_),h1, .refl _,rfl⟩⟩
theorem zp1 {n:Nat}(h:GC n)(hn:n+1≤1000000000)(t:Tm)(hw:wt t≤n+1)(ht:TG (n+1) t):AC Tryz.prog 48 [aT t] [] (ci (z05 false (n+1) t)) []:=by
 have hz:t.sz≤B:=by have:=ht.2.1;simp only [B];omega
 have c1:=z2r t hz;rw [ht.1] at c1;have pre:∀ R:Int,((∃ z2:List UInt8×Int,True)→True)→True:=fun _ _=>trivial;have sub:∀ u∈(z00 t).2,(z00 t).1.k=0→AC Tryz.prog 48 [aT u] [] (ci (z05 false n u)) []:=fun u hu h0=>h.1 u (by have:=z40 hu h0;omega) (ht.arg hu);refine AC.vc hP sh lv48 (Nat.le_refl _) (by simp) (by simp) (Eq.mpr (v48 t.k t.s t.n (FTs t.l) ..) ?_);refine ⟨_,c1,br_f rfl ?_⟩;rw [z05];by_cases he:(z01 t 133).2.2≠0
 · rw [if_pos he]
   have hl:(z01 t 133).2.1=[]:=by
    unfold z01 at he ⊢;split
    · rfl
    · rename_i q1;rw [if_neg q1] at he;split
      · rfl
      · rename_i q2;rw [if_neg q2] at he;split
        · rename_i q3;rw [if_pos q3] at he;exact absurd rfl he
        · rename_i q3;rw [if_neg q3] at he;split
          · rfl
          · rename_i q4;rw [if_neg q4] at he;exact absurd rfl he
   exact .inl ⟨((z01 t 133).1,(z01 t 133).2.2),z5w t 133 hz hl,br_t (by simpa using he) (z2g rfl)⟩
 · rw [if_neg he];have he:(z01 t 133).2.2=0:=Classical.byContradiction he;by_cases hif:(z01 t 133).1=nIf
   · rw [if_pos hif];obtain ⟨a,c,e,e2,h0⟩:=z0h (by omega) he (.inr (.inr (.inr hif)));have cS:=z1k t 133 hz (by rw [e];simp);rw [e,hif,he] at cS;exact .inr ⟨(nIf,[a,c],0),cS,br_f rfl (br_t rfl (z2g rfl))⟩
   · rw [if_neg hif];by_cases hand:(z01 t 133).1=nAnd∨(z01 t 133).1=nOr
     · rw [if_pos hand];obtain ⟨a,c,e,e2,h0⟩:=z0h (by omega) he (hand.imp_right .inl);have cS:=z1k t 133 hz (by rw [e];simp);rw [e,he] at cS;have ca:=sub a (by rw [e2];simp) h0;have cc:=sub c (by rw [e2];simp) h0;rw [e]
       have fin:br ((z05 false n a:Int) !=0) (TV.Le (ci (z05 false n a)) (ci (if z05 false n a≠0 then z05 false n a else z05 false n c))∧([]:List AObj)=[])
         ((0≤(1:Int)∧(1:Int)<(((List.length [a,c]):Nat):Int))∧((1<(FTs [a,c]).length∧((rE (List.getD (FTs [a,c]) 1 [])):List FV)=List.take 4 (List.drop 0 (List.getD (FTs [a,c]) 1 []))∧(4:Nat)=4)∧∃ n3:Int,AC Tryz.prog 48 [aE (List.getD (FTs [a,c]) 1 [])] [] (ci n3) []∧(TV.Le (ci n3) (ci (if z05 false n a≠0 then z05 false n a else z05 false n c))∧([]:List AObj)=[]))):=by
        refine z03 (fun q=> ?_) (fun q=>⟨⟨by omega,by show (1:Int)<2;omega⟩,⟨by show 1<2;omega,(z2l c).trans (z5f c).symm,rfl⟩,z05 false n c,by rw [show aE (List.getD (FTs [a,c]) 1 [])=aT c from z3p c];exact cc, ?_⟩)
        · exact z2g (by rw [if_pos (by simpa using q)])
        · exact z2g (by rw [if_neg (by simpa using q)])
       rcases hand with hn' | hn'
       · rw [hn'] at cS;exact .inr ⟨(nAnd,[a,c],0),cS,br_f rfl (br_f rfl (br_t rfl ⟨⟨by omega,by show (0:Int)<2;omega⟩,⟨by show 0<2;omega,(z2l a).trans (z5f a).symm,rfl⟩,_,by rw [show aE (List.getD (FTs [a,c]) 0 [])=aT a from z3p a];exact ca,fin⟩))⟩
       · rw [hn'] at cS;exact .inr ⟨(nOr,[a,c],0),cS,br_f rfl (br_f rfl (br_f rfl (br_t rfl ⟨⟨by omega,by show (0:Int)<2;omega⟩,⟨by show 0<2;omega,(z2l a).trans (z5f a).symm,rfl⟩,_,by rw [show aE (List.getD (FTs [a,c]) 0 [])=aT a from z3p a];exact ca,fin⟩)))⟩
     · rw [if_neg hand];have hand1:¬(z01 t 133).1=nAnd:=fun q=>hand (.inl q);have hand2:¬(z01 t 133).1=nOr:=fun q=>hand (.inr q);by_cases himp:(z01 t 133).1=nImp
       · rw [if_pos himp];obtain ⟨a,c,e,e2,h0⟩:=z0h (by omega) he (.inr (.inr (.inl himp)));have cS:=z1k t 133 hz (by rw [e];simp);rw [e,himp,he] at cS;have hu:a∈(z00 t).2:=by rw [e2];simp
         have ca:=zjh h (by omega) a (by have:=z40 hu h0;omega) (ht.arg hu);have cc:=sub c (by rw [e2];simp) h0;rw [e]
         refine .inr ⟨(nImp,[a,c],0),cS,br_f rfl (br_f rfl (br_f rfl (br_f rfl (br_t rfl ⟨⟨by omega,by show (0:Int)<2;omega⟩,⟨by show 0<2;omega,(z2l a).trans (z5f a).symm,rfl⟩,(_,_),by rw [show aE (List.getD (FTs [a,c]) 0 [])=aT a from z3p a];exact ca,
          z03 (fun q=> ?_) (fun q=>⟨⟨by omega,by show (1:Int)<2;omega⟩,⟨by show 1<2;omega,(z2l c).trans (z5f c).symm,rfl⟩,z05 false n c,by rw [show aE (List.getD (FTs [a,c]) 1 [])=aT c from z3p c];exact cc, ?_⟩)⟩))))⟩
         · exact z2g (by rw [if_pos (by simpa using q)];rfl)
         · exact z2g (by rw [if_neg (by simpa using q)];rfl)
       · rw [if_neg himp];by_cases hpi:(z01 t 133).1=nPi∨(z01 t 133).1=nSig
         · rw [if_pos hpi];obtain ⟨a,e,e2,h0⟩:=z1c (by omega) he hpi;have cS:=z1k t 133 hz (by rw [e];simp);rw [e,he] at cS;have hu:a∈(z00 t).2:=by rw [e2];simp
           have hz2:=z8t hu;have cb1:=zij a (z0b hu) (by omega) (z46 (by simp only [M61];omega) _ (ht.arg hu).2.2);have ca:=h.1 (z0g a) (by have:=z40 hu h0;have:=z8m (z0b hu);omega) (ht.body (by omega) hu);rw [e];rcases hpi with hn' | hn'
           · rw [hn'] at cS;exact .inr ⟨(nPi,[a],0),cS,br_f rfl (br_f rfl (br_f rfl (br_f rfl (br_f rfl (br_t rfl ⟨⟨by omega,by show (0:Int)<1;omega⟩,⟨by show 0<1;omega,(z2l a).trans (z5f a).symm,rfl⟩,_,by rw [show aE (List.getD (FTs [a]) 0 [])=aT a from z3p a];exact cb1,_,ca,z2g rfl⟩)))))⟩
           · rw [hn'] at cS;exact .inr ⟨(nSig,[a],0),cS,br_f rfl (br_f rfl (br_f rfl (br_f rfl (br_f rfl (br_f rfl (br_t rfl ⟨⟨by omega,by show (0:Int)<1;omega⟩,⟨by show 0<1;omega,(z2l a).trans (z5f a).symm,rfl⟩,_,by rw [show aE (List.getD (FTs [a]) 0 [])=aT a from z3p a];exact cb1,_,ca,z2g rfl⟩))))))⟩
         · rw [if_neg hpi];have hp1:¬(z01 t 133).1=nPi:=fun q=>hpi (.inl q);have hp2:¬(z01 t 133).1=nSig:=fun q=>hpi (.inr q);have ne:∀ {s:List UInt8},¬(z01 t 133).1=s→(((z01 t 133).1:List UInt8)==s)=false:=fun q=>by simpa using q
           by_cases hl:(z01 t 133).2.1=[]
           · have cS:=z5w t 133 hz hl;rw [he] at cS;exact .inl ⟨((z01 t 133).1,0),cS,br_f rfl (br_f (ne hif) (br_f (ne hand1) (br_f (ne hand2) (br_f (ne himp) (br_f (ne hp1) (br_f (ne hp2) (z2g rfl)))))))⟩
           · have cS:=z1k t 133 hz hl;rw [he] at cS;exact .inr ⟨((z01 t 133).1,(z01 t 133).2.1,0),cS,br_f rfl (br_f (ne hif) (br_f (ne hand1) (br_f (ne hand2) (br_f (ne himp) (br_f (ne hp1) (br_f (ne hp2) (z2g rfl)))))))⟩
end Go.AM

set_option maxRecDepth 100000
open Go Go.Proofs
namespace Go.AM
theorem clsF_err {w:Bool}{n:Nat}{any:Bool}{vs:Int}{L:List Tm}{t:Tm}(he:(z01 t 131).2.2≠0):clsF w (n+1) any vs L t=((z01 t 131).2.2,[]):=by rw [clsF,if_pos he]
theorem zq7 {t:Tm}{flex:Int}(he:(z01 t flex).2.2≠0):(z01 t flex).2.1=[]:=by
 unfold z01 at he ⊢;split
 · rfl
 · rename_i q1;rw [if_neg q1] at he;split
   · rfl
   · rename_i q2;rw [if_neg q2] at he;split
     · rename_i q3;rw [if_pos q3] at he;exact absurd rfl he
     · rename_i q3;rw [if_neg q3] at he;split
       · rfl
       · rename_i q4;rw [if_neg q4] at he;exact absurd rfl he
theorem z6b {i:Int}{X:List Cl}:TV.Le (ci i) (ci i)∧outK X=outK (X++([]:List Cl)):=⟨.refl _,by rw [List.append_nil]⟩
theorem zrk {n:Nat} (h:GC n) (hn:n+1≤1000000000) (any:Bool) (vs:Int) (L:List Tm) (t:Tm) (X:List Cl) (hw:wt t≤n+1) (ht:TG (n+1) t) (hg:∀ g∈L,TG (n+1) g) (h0:0≤vs) (h1:vs+(n+1:Nat)≤1000000000000)
  (hL:L.length+(n+1)≤1000000000) (hX:X.length+t.sz≤1000000000):AC Tryz.prog 149 [aT t,aAr vs L any,tellK] (inK X) (ci (clsF false (n+1) any vs L t).1) (outK (X++(clsF false (n+1) any vs L t).2)):=by
 have hz:t.sz≤B:=by have:=ht.2.1;simp only [B];omega
 have hg':∀ g∈L,TG n g:=fun g q=>(hg g q).mono (by omega);have sub:∀ u∈(z00 t).2,(z00 t).1.k=0→AC Tryz.prog 48 [aT u] [] (ci (z05 false n u)) []:=fun u hu h0=>h.1 u (by have:=z40 hu h0;omega) (ht.arg hu)
 have subc:∀ (L':List Tm) (X':List Cl),∀ u∈(z00 t).2,(z00 t).1.k=0→(∀ g∈L',TG n g)→L'.length≤L.length+1→X'.length+u.sz≤1000000000→AC Tryz.prog 149 [aT u,aAr vs L' any,tellK] (inK X') (ci (clsF false n any vs L' u).1) (outK (X'++(clsF false n any vs L' u).2)):=
  fun L' X' u hu hk hL' hl hx=>h.2 any vs L' u X' (by have:=z40 hu hk;omega) (ht.arg hu) hL' h0 (by omega) (by omega) hx
 have cbody:=c_kabody vs L any (by omega);have ctell:=c_ktell (vs,t,z3k L) X (by have:=t.sz_pos;omega);refine AC.vc hP sh lv149 (by simp) (by simp [isLive]) (by simp [isLive]) (Eq.mpr (zp6 t.k t.s t.n (FTs t.l) vs (FTs L) any X.length (CLs X) ..) ?_);by_cases he:(z01 t 131).2.2≠0
 · rw [clsF_err he];exact .inl ⟨((z01 t 131).1,(z01 t 131).2.2),z5w t 131 hz (zq7 he),br_t (by simpa using he) z6b⟩
 rw [clsF,if_neg he];have he:(z01 t 131).2.2=0:=Classical.byContradiction he;by_cases hnm:(z01 t 131).1=[]
 · rw [if_pos hnm]
   have fin:∀ (c:Bool),c=false→AC Tryz.prog 150 [aCl (vs,t,z3k L), .c (.a (.ep 0 1 0 0))] (inK X) (.tup []) (outK (X++ [(vs,t,z3k L)]))∧(TV.Le (ci 0) (ci (if c=true then ((132:Int),([]:List Cl)) else (0,[(vs,t,z3k L)])).1)∧outK (X++ [(vs,t,z3k L)])=outK (X++(if c=true then ((132:Int),([]:List Cl)) else (0,[(vs,t,z3k L)])).2)):=
    fun c hc=>⟨ctell,by rw [hc];exact ⟨.refl _,rfl⟩⟩
   by_cases hl:(z01 t 131).2.1=[]
   · have cS:=z5w t 131 hz hl;rw [he,hnm] at cS;have hc:(!(any||false)&&(z01 t 131).2.1.any fun u=> !patG n u 0)=false:=by rw [hl];simp
     refine .inl ⟨([],0),cS,br_f rfl (br_t rfl (z03 (fun _=>⟨false,c_anyE1N,br_f rfl ⟨z3k L,cbody,X++ [(vs,t,z3k L)],fin _ hc⟩⟩) (fun _=>⟨z3k L,cbody,X++ [(vs,t,z3k L)],fin _ hc⟩)))⟩
   · have cS:=z1k t 131 hz hl;rw [he,hnm] at cS
     have hl2:(z01 t 131).2.1=(z00 t).2:=by
      obtain ⟨_,⟨_,_,q⟩ | ⟨_,_,q,_⟩⟩:=z66 (by omega) he<;>exact q
     have ca:=c_anyE1 (fun u=> !patG n u 0) (z01 t 131).2.1 (by rw [hl2];have:=(z9r t).2.2;omega) (fun u hu=>by
      rw [hl2] at hu;have hs:=z8t hu;have:=zgl t;exact c_keach1 n u (by omega) (by omega) (z0b hu) (by simp only [M61];omega))
     refine .inr ⟨([],(z01 t 131).2.1,0),cS,br_f rfl (br_t rfl (z03 (fun ha=>⟨_,ca,z03 (fun q=> ?_) (fun q=>⟨z3k L,cbody,X++ [(vs,t,z3k L)],fin _ ?_⟩)⟩) (fun ha=>⟨z3k L,cbody,X++ [(vs,t,z3k L)],fin _ ?_⟩)))⟩
     · have ha:any=false:=by simpa using ha
       rw [if_pos (by rw [ha,q];rfl)];exact z6b
     · rw [q,Bool.and_false]
     · have ha:any=true:=by simpa using ha
       rw [ha];rfl
 rw [if_neg hnm];by_cases hand:(z01 t 131).1=nAnd
 · rw [if_pos hand];obtain ⟨a,c,e,e2,hk⟩:=z0h (by omega) he (.inl hand);have cS:=z1k t 131 hz (by rw [e];simp);rw [e,hand,he] at cS;have hs:=zcx e2;have hta:=z47 false n any vs L a;have ca:=subc L X a (by rw [e2];simp) hk hg' (by omega) (by omega);have cc:=subc L (X++(clsF false n any vs L a).2) c (by rw [e2];simp) hk hg' (by omega) (by rw [List.length_append];omega);rw [e]
   refine .inr ⟨(nAnd,[a,c],0),cS,br_f rfl (br_f rfl (br_t rfl ⟨⟨by omega,by show (0:Int)<2;omega⟩,⟨by show 0<2;omega,(z2l a).trans (z5f a).symm,rfl⟩,((clsF false n any vs L a).1,X++(clsF false n any vs L a).2),by rw [show aE (List.getD (FTs [a,c]) 0 [])=aT a from z3p a];exact ca,
    z03 (fun q=> ?_) (fun q=>⟨⟨by omega,by show (1:Int)<2;omega⟩,⟨by show 1<2;omega,(z2l c).trans (z5f c).symm,rfl⟩,((clsF false n any vs L c).1,(X++(clsF false n any vs L a).2)++(clsF false n any vs L c).2),by rw [show aE (List.getD (FTs [a,c]) 1 [])=aT c from z3p c];exact cc, ?_⟩)⟩))⟩
   · have q:(clsF false n any vs L a).1≠0:=by simpa using q
     rw [if_pos (show (clsF false n any vs L (at0 [a,c])).1≠0 from q)];exact ⟨.refl _,rfl⟩
   · have q:(clsF false n any vs L a).1=0:=by simpa using q
     rw [if_neg (show¬(clsF false n any vs L (at0 [a,c])).1≠0 from fun p=>p q)];refine ⟨.refl _, ?_⟩;rw [List.append_assoc];rfl
 rw [if_neg hand];by_cases hpi:(z01 t 131).1=nPi
 · rw [if_pos hpi];obtain ⟨a,e,e2,hk⟩:=z1c (by omega) he (.inl hpi);have cS:=z1k t 131 hz (by rw [e];simp);rw [e,hpi,he] at cS;have hu:a∈(z00 t).2:=by rw [e2];simp
   have hz2:=z8t hu;have hb2:=zei (z0b hu);have cb1:=zij a (z0b hu) (by omega) (z46 (by simp only [M61];omega) _ (ht.arg hu).2.2);have cu:=zos vs L any (by omega) h0 (by simp only [M61];omega) (fun g q=>⟨by have:=(hg g q).2.1;simp only [B];omega,z46 (by simp only [M61];omega) _ (hg g q).2.2⟩)
   have ca:=h.2 any (vs+1) (L.map fun g=>shT 0 1 g 0) (z0g a) X (by have:=z40 hu hk;have:=z8m (z0b hu);omega) (ht.body (by omega) hu) (fun g q=>by
    obtain ⟨g',q',rfl⟩:=List.mem_map.1 q;exact (hg g' q').sh (by omega)) (by omega) (by omega) (by rw [List.length_map];omega) (by omega)
   rw [e]
   exact .inr ⟨(nPi,[a],0),cS,br_f rfl (br_f rfl (br_f rfl (br_t rfl ⟨⟨by omega,by show (0:Int)<1;omega⟩,⟨by show 0<1;omega,(z2l a).trans (z5f a).symm,rfl⟩,_,by rw [show aE (List.getD (FTs [a]) 0 [])=aT a from z3p a];exact cb1,(vs+1,(L.map fun g=>shT 0 1 g 0),any),cu,
    ((clsF false n any (vs+1) (L.map fun g=>shT 0 1 g 0) (z0g a)).1,X++(clsF false n any (vs+1) (L.map fun g=>shT 0 1 g 0) (z0g a)).2),ca, .refl _,rfl⟩)))⟩
 rw [if_neg hpi];by_cases himp:(z01 t 131).1=nImp
 · rw [if_pos himp];obtain ⟨a,c,e,e2,hk⟩:=z0h (by omega) he (.inr (.inr (.inl himp)));have cS:=z1k t 131 hz (by rw [e];simp);rw [e,himp,he] at cS;have hs:=zcx e2;have ca:=sub a (by rw [e2];simp) hk;have cw:=zqa vs L any a (by omega)
   have cc:=subc (L++ [a]) X c (by rw [e2];simp) hk (fun g q=>by
    rcases List.mem_append.1 q with q | q
    · exact hg' g q
    · have:g=a:=by simpa using q
      subst this;exact ht.arg (by rw [e2];simp)) (by simp) (by omega)
   rw [e]
   refine .inr ⟨(nImp,[a,c],0),cS,br_f rfl (br_f rfl (br_f rfl (br_f rfl (br_t rfl ⟨[c,a],zi5 a c,⟨by omega,by show (1:Int)<2;omega⟩,⟨by show 1<2;omega,(z2l a).trans (z5f a).symm,rfl⟩,z05 false n a,by rw [show aE (List.getD (FTs [c,a]) 1 [])=aT a from z3p a];exact ca,
    z03 (fun q=> ?_) (fun q=>⟨⟨by omega,by show (0:Int)<2;omega⟩,⟨by show 0<2;omega,(z2l c).trans (z5f c).symm,rfl⟩,⟨by omega,by show (1:Int)<2;omega⟩,⟨by show 1<2;omega,(z2l a).trans (z5f a).symm,rfl⟩,(vs,L++ [a],any),by rw [show aE (List.getD (FTs [c,a]) 1 [])=aT a from z3p a];exact cw,
     ((clsF false n any vs (L++ [a]) c).1,X++(clsF false n any vs (L++ [a]) c).2),by rw [show aE (List.getD (FTs [c,a]) 0 [])=aT c from z3p c];exact cc, ?_⟩)⟩))))⟩
   · have q:z05 false n a≠0:=by simpa using q
     rw [if_pos (show z05 false n (at0 [a,c])≠0 from q)];exact z6b
   · have q:z05 false n a=0:=by simpa using q
     rw [if_neg (show¬z05 false n (at0 [a,c])≠0 from fun p=>p q)];exact ⟨.refl _,rfl⟩
 rw [if_neg himp];by_cases hif:(z01 t 131).1=nIf
 · rw [if_pos hif];obtain ⟨a,c,e,e2,hk⟩:=z0h (by omega) he (.inr (.inr (.inr hif)));have cS:=z1k t 131 hz (by rw [e];simp);rw [e,hif,he] at cS;have hs:=zcx e2;have cc:=sub c (by rw [e2];simp) hk;have cw:=zqa vs L any c (by omega)
   have ca:=subc (L++ [c]) X a (by rw [e2];simp) hk (fun g q=>by
    rcases List.mem_append.1 q with q | q
    · exact hg' g q
    · have:g=c:=by simpa using q
      subst this;exact ht.arg (by rw [e2];simp)) (by simp) (by omega)
   rw [e]
   refine .inr ⟨(nIf,[a,c],0),cS,br_f rfl (br_f rfl (br_f rfl (br_f rfl (br_f rfl (br_t rfl ⟨⟨by omega,by show (1:Int)<2;omega⟩,⟨by show 1<2;omega,(z2l c).trans (z5f c).symm,rfl⟩,z05 false n c,by rw [show aE (List.getD (FTs [a,c]) 1 [])=aT c from z3p c];exact cc,
    z03 (fun q=> ?_) (fun q=>⟨⟨by omega,by show (0:Int)<2;omega⟩,⟨by show 0<2;omega,(z2l a).trans (z5f a).symm,rfl⟩,⟨by omega,by show (1:Int)<2;omega⟩,⟨by show 1<2;omega,(z2l c).trans (z5f c).symm,rfl⟩,(vs,L++ [c],any),by rw [show aE (List.getD (FTs [a,c]) 1 [])=aT c from z3p c];exact cw,
     ((clsF false n any vs (L++ [c]) a).1,X++(clsF false n any vs (L++ [c]) a).2),by rw [show aE (List.getD (FTs [a,c]) 0 [])=aT a from z3p a];exact ca, ?_⟩)⟩)))))⟩
   · have q:z05 false n c≠0:=by simpa using q
     rw [if_pos (show z05 false n (at1 [a,c])≠0 from q)];exact z6b
   · have q:z05 false n c=0:=by simpa using q
     rw [if_neg (show¬z05 false n (at1 [a,c])≠0 from fun p=>p q)];exact ⟨.refl _,rfl⟩
 rw [if_neg hif];have ne:∀ {s:List UInt8},¬(z01 t 131).1=s→(((z01 t 131).1:List UInt8)==s)=false:=fun q=>by simpa using q
 by_cases hl:(z01 t 131).2.1=[]
 · have cS:=z5w t 131 hz hl;rw [he] at cS;exact .inl ⟨((z01 t 131).1,0),cS,br_f rfl (br_f (ne hnm) (br_f (ne hand) (br_f (ne hpi) (br_f (ne himp) (br_f (ne hif) z6b)))))⟩
 · have cS:=z1k t 131 hz hl;rw [he] at cS;exact .inr ⟨((z01 t 131).1,(z01 t 131).2.1,0),cS,br_f rfl (br_f (ne hnm) (br_f (ne hand) (br_f (ne hpi) (br_f (ne himp) (br_f (ne hif) z6b)))))⟩
theorem zr4:∀ n:Nat,n≤1000000000→GC n
 | 0,_=>⟨fun t hw _=>by have:=zgl t;have:=t.sz_pos;omega,fun _ _ _ t _ hw _=>by have:=zgl t;have:=t.sz_pos;omega⟩
 | n+1,hn=>by
  have h:=zr4 n (by omega);exact ⟨fun t hw ht=>zp1 h hn t hw ht,fun any vs L t X hw ht hg h0 h1 hL hX=>zrk h hn any vs L t X hw ht hg h0 h1 hL hX⟩
theorem zqo (n:Nat)(hn:n≤1000000000)(t:Tm)(hw:wt t≤n)(ht:TG n t):AC Tryz.prog 48 [aT t] [] (ci (z05 false n t)) []:=(zr4 n hn).1 t hw ht
theorem c_kparts (n:Nat)(hn:n≤1000000000)(t:Tm)(hw:wt t≤n)(ht:TG n t):AC Tryz.prog 147 [aT t] [] (.tup [(false,[.a (.fz (.sl false 9 (CLs (z0w n true t))))]),(false,[.a (.fz (.int .i64 (clsF false n true 0 [] t).1))])]) []:=znq (zr4 n hn) hn t hw ht
end Go.AM

set_option maxRecDepth 100000
open Go Go.Proofs
namespace Go.AM
def pR (p:Pl):List FV:=[.bool p.1, .int .i64 p.2.1, .int .i64 p.2.2]
def PR (l:List Pl):List (List FV):=l.map pR
theorem z4o (l:List Pl):(PR l).length=l.length:=by simp [PR]
theorem zox {l:List Pl}{i:Nat}(h:i<l.length):List.getD (PR l) i []=pR (l.getD i (false,0,0)):=by
 simp [PR,List.getD,List.getElem?_eq_getElem h]
theorem pr_set (l:List Pl)(i:Nat)(p:Pl):List.set (PR l) i (pR p)=PR (l.set i p):=by
 simp [PR,List.map_set]
abbrev obL (n:Nat):AObj:= .arr 1 [[.a (.osl 1 3 0 n)]]
theorem zna (l:List Pl)(i:Nat)(p:Int×Int):AC Tryz.prog 82 [ci i, .agg [.a (.fz (.bool true)), .a (.fz (.int .i64 p.1)), .a (.fz (.int .i64 p.2))], .c (.a (.ep 0 1 0 0))] [obL l.length, .arz 3 (PR l)]
  (cb (z5b l i p).isSome) [obL l.length, .arz 3 (PR ((z5b l i p).getD l))]:=by
 refine AC.vc hP sh lv82 (Nat.le_refl _) (by simp [isLive]) (by simp) (Eq.mpr (v82 ..) ?_);rw [Int.toNat_natCast,Nat.zero_add];refine z03 (fun h=> ?_) (fun h=> ?_)
 · have h:=of_decide_eq_true h;rw [z5b,if_neg (by omega)];exact ⟨.refl _,rfl⟩
 · have h:=of_decide_eq_false h;have hi:i<l.length:=by omega
   have hn:(0:Int)≤(i:Int)∧(i:Int)<((l.length:Nat):Int):=⟨by omega,by omega⟩;have e:=zox hi;rw [z5b,if_pos (by omega),Int.toNat_natCast];have e2:List.set (PR l) i [.bool true, .int .i64 p.1, .int .i64 p.2]=PR (l.set i (true,p)):=pr_set l i (true,p);have hi2:i<(l.set i (true,p)).length:=by simpa using hi
   have e3:=zox hi2;rw [e2,e,e3];have e4:(l.set i (true,p)).getD i (false,0,0)=(true,p):=by simp [List.getD,hi]
   rw [e4];generalize l.getD i (false,0,0)=q;obtain ⟨m,x,y⟩:=q;refine ⟨hn,⟨by rw [z4o];exact hi,rfl,rfl⟩,z03 (fun h1=> ?_) (fun h1=> ?_)⟩
   · have h1:m=false:=by simpa [pR,FV.asB] using h1
     subst h1;refine ⟨hn,⟨by rw [z4o];exact hi,rfl⟩,hn,⟨by rw [z4o];exact hi2,rfl,rfl⟩,z6c ?_,rfl⟩;simp [pR,FV.asB,FV.I]
   · have h1:m=true:=by simpa [pR,FV.asB] using h1
     subst h1;refine ⟨hn,⟨by rw [z4o];exact hi,rfl,rfl⟩, ?_⟩;by_cases hq:((true,x,y):Pl)=(true,p)
     · rw [if_neg (by simp),if_pos hq];obtain ⟨_,rfl⟩:=Prod.mk.inj hq;exact ⟨z6c (by simp [pR,FV.asB,FV.I]),rfl⟩
     · rw [if_neg (by simp),if_neg hq];refine ⟨z6c ?_,rfl⟩;obtain ⟨p1,p2⟩:=p;simp [pR,FV.asB,FV.I] at hq ⊢;exact hq
theorem zmv {l l':List Pl}{i:Int}{p:Int×Int}(h:z5b l i p=some l'):l'.length=l.length∧∀ q∈l',q∈l∨q=(true,p):=by
 unfold z5b at h;split at h
 · split at h
   · injection h with h
     subst h;exact ⟨by simp,fun q hq=>by rcases List.mem_or_eq_of_mem_set hq with h | h;exact .inl h;exact .inr h⟩
   · split at h
     · injection h with h
       subst h;exact ⟨rfl,fun q hq=> .inl hq⟩
     · cases h
 · cases h
theorem stepW_no {l:List Pl}{i k a:Int}(h:(l.getD i.toNat (false,0,0)).1=false):zfp l i k a=some l:=by rw [zfp,if_pos h]
theorem zp9 {l:List Pl}{i k a:Int}(h:(l.getD i.toNat (false,0,0)).1=true):zfp l i k a=
  if (aftR k (l.getD i.toNat (false,0,0)).2).2.2=false then none else if (aftR k (l.getD i.toNat (false,0,0)).2).2.1=false then some l
  else if k=9∨k=10 then (match z5b l a (aftR k (l.getD i.toNat (false,0,0)).2).1 with
   | none=>none
   | some l'=>if k=10 then some l' else z5b l' (i+1) (aftR k (l.getD i.toNat (false,0,0)).2).1)
  else z5b l (i+1) (aftR k (l.getD i.toNat (false,0,0)).2).1:=by
 rw [zfp,if_neg (by rw [h];simp)];generalize (l.getD i.toNat (false,0,0)).2=p;obtain ⟨x,y⟩:=p;unfold aftR;by_cases h1:k=3∨k=4
 · rw [if_pos h1,if_pos h1];by_cases h2:((x,y):Int×Int)=(0,0)
   · rw [if_pos h2];injection h2 with a b;subst a;subst b;rfl
   · rw [if_neg h2]
     have:(x==0&&y==0)=false:=by
      rw [Bool.and_eq_false_iff];by_cases hx:x=0
      · right;subst hx;simpa using h2
      · left;simpa using hx
     rw [if_pos this]
 rw [if_neg h1,if_neg h1];by_cases h2:k=8
 · rw [if_pos h2,if_pos h2];rfl
 rw [if_neg h2,if_neg h2];by_cases h3:(aftP k (x,y)).1<0∨(aftP k (x,y)).2<0
 · have e:(decide ((aftP k (x,y)).1≥0)&&decide ((aftP k (x,y)).2≥0))=false:=by
    simp only [Bool.and_eq_false_iff,decide_eq_false_iff_not];omega
   rw [if_pos h3];dsimp only;rw [e,if_pos rfl]
 · have e:(decide ((aftP k (x,y)).1≥0)&&decide ((aftP k (x,y)).2≥0))=true:=by
    simp only [Bool.and_eq_true,decide_eq_true_eq];omega
   rw [if_neg h3];dsimp only;rw [e];simp only [Bool.true_eq_false,if_false]
   try rfl
theorem aft_bd {k:Int}{p:Int×Int}{n:Int}(h1:0≤p.1∧p.1≤n)(h2:0≤p.2∧p.2≤n)(_:0≤n)(hk:(aftR k p).2.2=true):(0≤(aftR k p).1.1∧(aftR k p).1.1≤n+1)∧0≤(aftR k p).1.2∧(aftR k p).1.2≤n+1:=by
 unfold aftR at hk ⊢;split
 · simp only;omega
 split
 · simp only;omega
 rename_i q1 q2;rw [if_neg q1,if_neg q2] at hk;simp only [Bool.and_eq_true,decide_eq_true_eq] at hk ⊢;unfold aftP at hk ⊢;split<;>(try split)<;>(try split)<;>(try split)<;>simp_all<;>omega
abbrev fnM:TV:= .c (.fn (.func 82) [] [(false,[.ep 0 1 0 0])])
theorem zrv (ins:List In1)(hB:ins.length≤B):∀ (b a:List In1) (l:List Pl),ins=a++b→l.length=ins.length→(∀ x∈b,(x.k=9∨x.k=10)→0≤x.a∧x.a≤B)→
  (∀ q∈l,(0≤q.2.1∧q.2.1≤a.length)∧0≤q.2.2∧q.2.2≤a.length)→
  RPt Tryz.prog 38 0 (cb (z82 l a.length b)) [] 1 ⟨[(3, .c (.a (.ep 0 1 0 0))),(4,fnM),(22, .c (.a (.fz (.sl false 8 (FIs ins))))),(23,ci ins.length),(24,ci a.length)],[(0,obL l.length),(1, .arz 3 (PR l))],2⟩
 | [],a,l,hx,hl,_,_=>by
  refine RPt.vc hP sh lv38 (Eq.mpr (v38_1a ..) ?_);refine z03 (fun h=>absurd (of_decide_eq_true h) ?_) (fun _=>z04 rfl);rw [hx];simp
 | x::b,a,l,hx,hl,ha,hq=>by
  have hla:a.length<l.length:=by rw [hl,hx];simp
  have hlt:(a.length:Int)<(ins.length:Int):=by omega
  simp only [B] at hB
  have next:∀ l':List Pl,l'.length=l.length→(∀ q∈l',(0≤q.2.1∧q.2.1≤(a.length:Int)+1)∧0≤q.2.2∧q.2.2≤(a.length:Int)+1)→zfp l a.length x.k x.a=some l'→
    RPt Tryz.prog 38 0 (cb (z82 l a.length (x::b))) [] 1 ⟨[(3, .c (.a (.ep 0 1 0 0))),(4,fnM),(22, .c (.a (.fz (.sl false 8 (FIs ins))))),(23,ci ins.length),(24,ci ((a.length:Int)+1))],[(0,obL l.length),(1, .arz 3 (PR l'))],2⟩:=fun l' h1 h2 h3=>by
   have:=zrv ins (by simp only [B];omega) b (a++ [x]) l' (by rw [hx];simp) (by rw [h1,hl]) (fun y hy=>ha y (List.mem_cons_of_mem _ hy)) (fun q hm=>by
    have:=h2 q hm;simp only [List.length_append,List.length_singleton];omega)
   rw [nx,h1] at this;rw [z82,h3];exact this
  have em:List.getD (FIs ins) (Int.toNat (a.length:Int)) []=FI x:=by rw [hx];exact zb1 a x b
  have eq0:=zox hla;refine RPt.vc hP sh lv38 (Eq.mpr (v38_1a ..) ?_);rw [w64 (x:=(a.length:Int)+1) (by omega) (by omega),em,FI0,FI1,Int.toNat_natCast,Nat.zero_add,eq0];have hmem:l.getD a.length (false,0,0)∈l:=by simp [List.getD,List.getElem?_eq_getElem hla]
  have hbd:=hq _ hmem;have sno:=stepW_no (l:=l) (i:=(a.length:Int)) (k:=x.k) (a:=x.a);have syes:=zp9 (l:=l) (i:=(a.length:Int)) (k:=x.k) (a:=x.a);rw [Int.toNat_natCast] at sno syes;generalize l.getD a.length (false,0,0)=q at*;obtain ⟨m,p⟩:=q;simp only at hbd sno syes;have hn:(0:Int)≤(a.length:Int)∧(a.length:Int)<((l.length:Nat):Int):=⟨by omega,by omega⟩;have hgrow:∀ q∈l,(0≤q.2.1∧q.2.1≤(a.length:Int)+1)∧0≤q.2.2∧q.2.2≤(a.length:Int)+1:=fun q hm=>by have:=hq q hm;omega
  refine z03 (fun _=>⟨⟨rfl,by omega,by rw [z09];exact hlt,by rw [←FI0 x,←FI1 x];exact fIr_FI x⟩,hn,⟨by rw [z4o];exact hla,rfl,rfl⟩,z03 (fun h1=> ?_) (fun h1=> ?_)⟩) (fun h=>absurd hlt (of_decide_eq_false h))
  · exact next l rfl hgrow (sno (by simpa [pR,FV.asB] using h1))
  have h1:m=true:=by simpa [pR,FV.asB] using h1
  subst h1;have hs:=syes rfl;have hc:=c_cafter true p x.k (by simp only [M61];omega) (by simp only [M61];omega);refine ⟨hn,⟨by rw [z4o];exact hla,rfl,rfl⟩,true,(aftR x.k p).1.1,(aftR x.k p).1.2,(aftR x.k p).2.1,(aftR x.k p).2.2,hc, ?_⟩;have none_no:zfp l a.length x.k x.a=none→TV.Le (cb false) (cb (z82 l a.length (x::b)))∧([]:List AObj)=[]:=fun h=>z04 (by rw [z82,h]);refine z03 (fun h2=> ?_) (fun h2=> ?_)
  · exact none_no (by rw [hs,if_pos (by simpa using h2)])
  have h2:(aftR x.k p).2.2=true:=by simpa using h2
  rw [if_neg (by rw [h2];simp)] at hs;have hb2:=aft_bd hbd.1 hbd.2 (by omega) h2
  have hm1:∀ (l1 l2:List Pl) (i:Int),(∀ q∈l1,(0≤q.2.1∧q.2.1≤(a.length:Int)+1)∧0≤q.2.2∧q.2.2≤(a.length:Int)+1)→z5b l1 i (aftR x.k p).1=some l2→l2.length=l1.length∧∀ q∈l2,(0≤q.2.1∧q.2.1≤(a.length:Int)+1)∧0≤q.2.2∧q.2.2≤(a.length:Int)+1:=fun l1 l2 i h3 h4=>by
   have:=zmv h4;refine ⟨this.1,fun q hm=> ?_⟩;rcases this.2 q hm with h | h
   · exact h3 q h
   · rw [h];exact hb2
  have hN:∀ (l1:List Pl),(((a.length:Nat):Int)+1)=((a.length+1:Nat):Int):=fun _=>by omega
  have go2:∀ l1:List Pl,l1.length=l.length→(∀ q∈l1,(0≤q.2.1∧q.2.1≤(a.length:Int)+1)∧0≤q.2.2∧q.2.2≤(a.length:Int)+1)→zfp l a.length x.k x.a=z5b l1 ((a.length:Int)+1) (aftR x.k p).1→
    ∃ z:Bool×List (List FV),AC Tryz.prog 82 [ci ((a.length:Int)+1), .agg [.a (.fz (.bool true)), .a (.fz (.int .i64 (aftR x.k p).1.1)), .a (.fz (.int .i64 (aftR x.k p).1.2))], .c (.a (.ep 0 1 0 0))] [obL l.length, .arz 3 (PR l1)] (cb z.1) [obL l.length, .arz 3 z.2]∧
     br (!z.1) (TV.Le (cb false) (cb (z82 l a.length (x::b)))∧([]:List AObj)=[])
      (RPt Tryz.prog 38 0 (cb (z82 l a.length (x::b))) [] 1 ⟨[(3, .c (.a (.ep 0 1 0 0))),(4,fnM),(22, .c (.a (.fz (.sl false 8 (FIs ins))))),(23,ci ins.length),(24,ci ((a.length:Int)+1))],[(0,obL l.length),(1, .arz 3 z.2)],2⟩):=fun l1 e1 h3 h4=>by
   have hc2:=zna l1 (a.length+1) (aftR x.k p).1;rw [e1,←hN l1] at hc2;refine ⟨(_,_),hc2,z03 (fun h=>none_no ?_) (fun h=> ?_)⟩
   · rw [h4];cases hm:z5b l1 ((a.length:Int)+1) (aftR x.k p).1 with
     | none=>rfl
     | some l2=>rw [hm] at h;cases h
   · cases hm:z5b l1 ((a.length:Int)+1) (aftR x.k p).1 with
     | none=>rw [hm] at h;cases h
     | some l2=>
      have h5:=hm1 l1 l2 _ h3 hm;exact next l2 (by rw [h5.1,e1]) h5.2 (by rw [h4,hm])
  cases ho:(aftR x.k p).2.1 with
  | false=>
   rw [if_pos ho] at hs;have:=next l rfl hgrow hs;refine z03 (fun _=> ?_) (fun _=> ?_)
   · exact this
   · exact this
  | true=>
   rw [if_neg (by rw [ho];simp)] at hs;by_cases hk:x.k=9∨x.k=10
   · rw [if_pos hk] at hs;have hxa:=ha x List.mem_cons_self hk;obtain ⟨j,hj⟩:∃ j:Nat,x.a=j:=⟨x.a.toNat,by omega⟩;have hc2:=zna l j (aftR x.k p).1;rw [←hj] at hc2
     have key:∃ z:Bool×List (List FV),AC Tryz.prog 82 [ci x.a, .agg [.a (.fz (.bool true)), .a (.fz (.int .i64 (aftR x.k p).1.1)), .a (.fz (.int .i64 (aftR x.k p).1.2))], .c (.a (.ep 0 1 0 0))] [obL l.length, .arz 3 (PR l)] (cb z.1) [obL l.length, .arz 3 z.2]∧
      br (!z.1) (TV.Le (cb false) (cb (z82 l a.length (x::b)))∧([]:List AObj)=[])
       (br (x.k !=10) (∃ z7:Bool×List (List FV),AC Tryz.prog 82 [ci ((a.length:Int)+1), .agg [.a (.fz (.bool true)), .a (.fz (.int .i64 (aftR x.k p).1.1)), .a (.fz (.int .i64 (aftR x.k p).1.2))], .c (.a (.ep 0 1 0 0))] [obL l.length, .arz 3 z.2] (cb z7.1) [obL l.length, .arz 3 z7.2]∧
        br (!z7.1) (TV.Le (cb false) (cb (z82 l a.length (x::b)))∧([]:List AObj)=[])
         (RPt Tryz.prog 38 0 (cb (z82 l a.length (x::b))) [] 1 ⟨[(3, .c (.a (.ep 0 1 0 0))),(4,fnM),(22, .c (.a (.fz (.sl false 8 (FIs ins))))),(23,ci ins.length),(24,ci ((a.length:Int)+1))],[(0,obL l.length),(1, .arz 3 z7.2)],2⟩))
        (RPt Tryz.prog 38 0 (cb (z82 l a.length (x::b))) [] 1 ⟨[(3, .c (.a (.ep 0 1 0 0))),(4,fnM),(22, .c (.a (.fz (.sl false 8 (FIs ins))))),(23,ci ins.length),(24,ci ((a.length:Int)+1))],[(0,obL l.length),(1, .arz 3 z.2)],2⟩)):=by
      refine ⟨(_,_),hc2,z03 (fun h=>none_no ?_) (fun h=> ?_)⟩
      · cases hm:z5b l x.a (aftR x.k p).1 with
        | none=>rw [hm] at hs;exact hs
        | some l2=>rw [hm] at h;cases h
      · cases hm:z5b l x.a (aftR x.k p).1 with
        | none=>rw [hm] at h;cases h
        | some l2=>
         rw [hm] at hs;simp only at hs;have h5:=hm1 l l2 _ hgrow hm;refine z03 (fun h6=> ?_) (fun h6=> ?_)
         · rw [if_neg (by simpa using h6)] at hs;exact go2 l2 h5.1 h5.2 hs
         · rw [if_pos (by simpa using h6)] at hs;exact next l2 h5.1 h5.2 hs
     refine z03 (fun h9=> ?_) (fun h9=> ?_)
     · exact key
     · have h10:(x.k==10)=true:=by
        rcases hk with h | h
        · rw [h] at h9;cases h9
        · rw [h];rfl
       rw [h10];exact key
   · rw [if_neg hk] at hs;have h9:(x.k==9)=false:=by simp only [beq_eq_false_iff_ne];exact fun h=>hk (.inl h)
     have h10:(x.k==10)=false:=by simp only [beq_eq_false_iff_ne];exact fun h=>hk (.inr h)
     have h11:(x.k !=10)=true:=by rw [bne,h10];rfl
     rw [h9,h10,h11];exact go2 l rfl hgrow hs
theorem c_cways (c:Cd)(hB:c.ins.length≤B)(h0:0<c.ins.length)(ha:∀ x∈c.ins,(x.k=9∨x.k=10)→0≤x.a∧x.a≤B):AC Tryz.prog 38 [aC c] [] (cb (zlt c.ins)) []:=by
 have h:=zrv c.ins hB c.ins [] ((List.replicate c.ins.length (false,0,0)).set 0 (true,0,0)) rfl (by simp) ha (fun q hq=>by
  rcases List.mem_or_eq_of_mem_set hq with h | h
  · rw [(List.mem_replicate.1 h).2];simp
  · rw [h];simp)
 have e:PR ((List.replicate c.ins.length (false,0,0)).set 0 (true,0,0))=List.set (List.replicate (Int.toNat (((FIs c.ins).length:Nat):Int)) [.bool false, .int .i64 0, .int .i64 0]) 0 (z4s (List.getD (List.replicate (Int.toNat (((FIs c.ins).length:Nat):Int)) [.bool false, .int .i64 0, .int .i64 0]) 0 []) 0 [.bool true]):=by
  rw [←pr_set,Int.toNat_natCast,z09];have:List.getD (List.replicate c.ins.length [FV.bool false, .int .i64 0, .int .i64 0]) 0 []=[.bool false, .int .i64 0, .int .i64 0]:=by simp [List.getD,h0]
  rw [this];simp [PR,pR,z4s]
 rw [e] at h;simp only [B] at hB;have hl:((FIs c.ins).length:Int)=(c.ins.length:Int):=by rw [z09]
 refine AC.vc hP sh lv38 (Nat.le_refl _) (by simp) (by simp) (Eq.mpr (v38 ..) ?_);refine ⟨rfl,⟨rfl,by omega,rfl,by omega,by omega, ?_⟩,⟨by omega, ?_⟩,⟨?_, ?_⟩,rfl, ?_⟩
 · unfold z0x;rw [Int.toNat_natCast,z09];omega
 · rw [Int.toNat_natCast,z09];omega
 · rw [List.length_replicate,Int.toNat_natCast,z09];exact h0
 · rw [Int.toNat_natCast,z09];simp [List.getD,h0]
 · have hn:((List.replicate c.ins.length ((false,0,0):Pl)).set 0 (true,0,0)).length=Int.toNat (((FIs c.ins).length:Nat):Int):=by simp [z09]
   rw [hn,←hl] at h;exact h
end Go.AM

set_option maxRecDepth 100000
open Go Go.Proofs
namespace Go.AM
theorem FI2 (x:In1):FV.I (List.getD (FI x) 2 FV.N)=x.t.k:=by cases x;rw [FI];rfl
theorem FI4 (x:In1):FV.I (List.getD (FI x) 4 FV.N)=x.t.n:=by cases x;rw [FI];rfl
theorem FI5 (x:In1):List.getD (FI x) 5 FV.N= .sl false 4 (FTs x.t.l):=by cases x;rw [FI];rfl
theorem el8 (ins:List In1)(i:Int)(h0:0≤i)(h1:i<ins.length)(x:In1):FV.L 8 (.sl false 8 (FIs ins))=true∧0≤i∧i<(((FIs ins).length:Nat):Int)∧
  ([.int .i64 x.k, .int .i64 x.a, .int .i64 x.t.k, .str x.t.s, .int .i64 x.t.n, .sl false 4 (FTs x.t.l), .sl false 4 (FTs x.l), .sl false 6 (FCs x.c)]:List FV)=FI x:=
 ⟨rfl,h0,by rw [z09];exact h1,(FI_eta x).symm⟩
def oddC (sl:Int)(d:Cd):Bool:=decide (d.fr>sl) || !vC d
theorem vCs_any (sl:Int)(l:List Cd):(!l.any (oddC sl))=vCs sl l:=by
 rw [zqk]
 induction l with
 | nil=>rfl
 | cons d l ih=>
  rw [List.any_cons,List.all_cons,←ih,Bool.not_or];congr 1;unfold oddC;by_cases h:d.fr≤sl
  · rw [decide_eq_false (by omega),decide_eq_true h];simp
  · rw [decide_eq_true (show d.fr>sl by omega),decide_eq_false h];rfl
theorem c_cins1 (c d:Cd)(h:AC Tryz.prog 13 [aC d] [] (cb (vC d)) []):AC Tryz.prog 122 [aC d, .c (.a (.ep 0 6 0 0))] [obC c] (cb (oddC c.sl d)) [obC c]:=by
 refine AC.vc hP sh lv122 (Nat.le_refl _) (by simp [isLive]) (by simp) (Eq.mpr (v122 ..) ?_);exact z03 (fun q=>⟨z6c (by rw [oddC,q];rfl),rfl⟩) (fun q=>⟨_,h,z6c (by rw [oddC,q];rfl),rfl⟩)
def ixC (p:Cd→Bool):List Cd→Nat→Int
 | [],_=> -1
 | t::l,i=>if p t=true then (i:Int) else ixC p l (i+1)
theorem zow (p:Cd→Bool):∀ (l:List Cd) (i:Nat),decide (ixC p l i≥0)=l.any p
 | [],_=>rfl
 | t::l,i=>by
  rw [ixC,List.any_cons];split
  · rename_i h;rw [h];simp
  · rename_i h;rw [zow p l,show p t=false by simpa using h,Bool.false_or]
theorem zoh (p:Cd→Bool)(c:Cd)(b:List Cd):∀ a:List Cd,(a++b).length≤B→(∀ u∈b,AC Tryz.prog 122 [aC u, .c (.a (.ep 0 6 0 0))] [obC c] (cb (p u)) [obC c])→RPt Tryz.prog 145 1 (ci (ixC p b a.length)) [obC c] 1 ⟨[(0,aCs (a++b)),(1, .c (.fn (.func 122) [] [(false,[.ep 0 6 0 0])])),(7,ci (a++b).length),(8,ci a.length)],[(0,obC c)],1⟩:=by
 induction b with
 | nil=>
  intro a hs _;refine RPt.vc hP sh zni (Eq.mpr (z8w ..) ?_);exact z03 (fun h=>absurd (of_decide_eq_true h) (by simp)) (fun _=>⟨.refl _,rfl⟩)
 | cons t b ihb=>
  intro a hs ih;have h1:=ih t List.mem_cons_self;have h2:=ihb (a++ [t]) (by simpa using hs) (fun u hu=>ih u (List.mem_cons_of_mem _ hu));rw [ap,nx,show (a++ [t]).length=a.length+1 by simp] at h2;rw [ixC];simp only [List.length_append,List.length_cons,B] at hs;have h4:(a.length:Int)<((a++t::b).length:Int):=by simp only [List.length_append,List.length_cons];omega
  refine RPt.vc hP sh zni (Eq.mpr (z8w ..) ?_);rw [w64 (by omega) (by omega),zrn];have e:=zjz t;refine z03 (fun _=>⟨⟨rfl,by omega,by rw [z0r];exact h4,fCr_FC t⟩,p t,by rw [show (TV.agg [.a (.fz (.str (FV.S (List.getD (FC t) 0 FV.N)))), .a (.fz (.int .i64 (FV.I (List.getD (FC t) 1 FV.N)))), .a (.fz (.int .i64 (FV.I (List.getD (FC t) 2 FV.N)))), .a (.fz (.int .i64 (FV.I (List.getD (FC t) 3 FV.N)))), .a (.fz (.int .i64 (FV.I (List.getD (FC t) 4 FV.N)))), .a (.fz (List.getD (FC t) 5 FV.N))])=aC t from zjz t];exact h1,z03 (fun h=> ?_) (fun h=> ?_)⟩) (fun h=>absurd h4 (of_decide_eq_false h))
  · rw [if_pos h];exact ⟨.refl _,rfl⟩
  · rw [if_neg (by rw [h];simp)];exact h2
theorem c_ccontc (c:Cd)(l:List Cd)(hl:l.length≤B)(h:∀ u∈l,AC Tryz.prog 13 [aC u] [] (cb (vC u)) []):AC Tryz.prog 123 [aCs l, .c (.fn (.func 122) [] [(false,[.ep 0 6 0 0])])] [obC c] (cb (!vCs c.sl l)) [obC c]:=by
 have h0:=zoh (oddC c.sl) c l [] hl (fun u hu=>c_cins1 c u (h u hu))
 have h1:AC Tryz.prog 145 [aCs l, .c (.fn (.func 122) [] [(false,[.ep 0 6 0 0])])] [obC c] (ci (ixC (oddC c.sl) l 0)) [obC c]:=by
  refine AC.vc hP sh zni (Nat.le_refl _) (by simp [isLive]) (by simp) (Eq.mpr (zr ..) ?_);rw [z0r];exact ⟨rfl,h0⟩
 rw [←vCs_any,Bool.not_not];refine AC.vc hP sh lv123 (Nat.le_refl _) (by simp [isLive]) (by simp) (Eq.mpr (zra ..) ?_);exact ⟨_,h1,by rw [zow (oddC c.sl) l 0];exact ⟨.refl _,rfl⟩⟩
def zb6 (a:List In1):Option (Int×Int):=a.getLast?.map fun y=>(y.k,y.a)
theorem zd7 (a:List In1)(x:In1):zb6 (a++ [x])=some (x.k,x.a):=by simp [zb6]
def insR (c:Cd)(a:List In1)(x:In1):Bool:=
 if x.k=5 then x.l.length==2 else if x.k=14 then vCs c.sl x.c else insB c.ar (c.fr+c.vs) c.sl c.ins.length a.length (zb6 a) x.k x.a x.t
abbrev usesT (k:Int)(ok:Bool):TV:= .tup [(true,[.a (.fz (.bool (useT k))), .a (.fz (.bool (k==5))), .a (.fz (.bool (k==14))), .a (.fz (.bool (useA k)))]),(false,[.a (.fz (.bool ok))])]
theorem c_cins (c:Cd)(a b:List In1)(x:In1)(hx:c.ins=a++x::b)(hB:c.ins.length≤B)(hf:0≤c.fr+c.vs∧c.fr+c.vs≤B)(ht:x.t.sz≤B)(hc:x.c.length≤B)(hd:∀ d∈x.c,AC Tryz.prog 13 [aC d] [] (cb (vC d)) []):
  AC Tryz.prog 81 [aC c,ci a.length] [] (usesT x.k (insR c a x)) []:=by
 simp only [B] at hB hf;have hla:a.length<c.ins.length:=by rw [hx];simp
 have e:List.getD (FIs c.ins) (Int.toNat (a.length:Int)) []=FI x:=by rw [hx];exact zb1 a x b
 have c1:=c_cpred x.t ht;have c2:=zo3 x.t ht;have c3:=c_ccontc c x.c hc hd;have need:=el8 c.ins a.length (by omega) (by omega) x;have e5:((((FTs x.l).length:Nat):Int)==2)=(x.l.length==2):=by rw [z02,Bool.eq_iff_iff,beq_iff_eq,beq_iff_eq];omega
 have hlen:(((FIs c.ins).length:Nat):Int)=c.ins.length:=by rw [z09]
 refine AC.vc hP sh lv81 (Nat.le_refl _) (by simp) (by simp) (Eq.mpr (v81 ..) ?_);rw [e,w64 (x:=c.fr+c.vs) (by omega) (by omega)];simp only [FI0,FI1,FI2,FI3,FI4,FI5,FI6,FI7];refine ⟨need, ?_⟩;have hkinds:∀ ok,insR c a x=ok→True:=fun _ _=>trivial;rcases List.eq_nil_or_concat a with ha | ⟨a',y,ha⟩
 · subst ha;have h0:(decide ((([]:List In1).length:Int)>0))=false:=rfl;rw [h0];simp only [insR,insB,zb6,List.getLast?_nil,Option.map_none];simp only [FV.ses,e5,hlen];generalize x.k=k at*
   repeat' (first | refine z03 (fun _=> ?_) (fun _=> ?_) | refine ⟨_,c1, ?_⟩ | refine ⟨_,c2, ?_⟩ | refine ⟨_,c3, ?_⟩ | refine And.intro (show FV.L _ _=true by rfl) ?_)
   all_goals first
    | contradiction
    | (refine ⟨z6c ?_,by trivial⟩;simp_all [useT,useA]<;>omega)
 · have ha:a=a'++ [y]:=by simpa using ha
   subst ha;have h1:(decide (((a'++ [y]).length:Int)>0))=true:=by simp
   have e2:List.getD (FIs c.ins) (Int.toNat (IntKind.wrap .i64 (((a'++ [y]).length:Int)-1))) []=FI y:=by
    have q:IntKind.wrap .i64 (((a'++ [y]).length:Int)-1)=(a'.length:Int):=by
     simp only [List.length_append,List.length_singleton] at hla ⊢;rw [w64 (by omega) (by omega)];omega
    rw [q,hx,List.append_assoc];exact zb1 a' y (x::b)
   have need2:=el8 c.ins (IntKind.wrap .i64 (((a'++ [y]).length:Int)-1)) (by
    simp only [List.length_append,List.length_singleton] at hla ⊢;rw [w64 (by omega) (by omega)];omega) (by
    simp only [List.length_append,List.length_singleton] at hla ⊢;rw [w64 (by omega) (by omega)];omega) y
   have c4:=c_chead y.k;rw [h1,e2];simp only [FI0,FI1,FI2,FI3,FI4,FI5,FI6,FI7];simp only [insR,insB,zd7];simp only [FV.ses,e5,hlen];rw [hlen] at need2;generalize x.k=k at*
   repeat' (first | refine z03 (fun _=> ?_) (fun _=> ?_) | refine ⟨_,c1, ?_⟩ | refine ⟨_,c2, ?_⟩ | refine ⟨_,c3, ?_⟩ | refine ⟨_,c4, ?_⟩ | refine And.intro (show FV.L 4 _=true by rfl) ?_ | refine And.intro need2 ?_ | refine And.intro (show FV.L 6 _=true by rfl) ?_ | refine And.intro (show FV.L 8 _=true by rfl) ?_)
   all_goals clear need need2 e e2 ha hx hd c1 c2 c3 c4 hkinds e5 hlen h1 hla
   all_goals first
    | contradiction
    | (refine ⟨z6c ?_,by trivial⟩;simp_all [useT,useA]<;>omega)
end Go.AM

set_option maxRecDepth 100000
open Go Go.Proofs
namespace Go.AM
def z5h (c:Cd)(a:List In1)(x:In1):Bool:=fldB c.ar (c.fr+c.vs) c.sl c.ins.length a.length (zb6 a) x.k x.a x.t x.l x.c.isEmpty&&vCs c.sl x.c
theorem zpm (c:Cd)(a:List In1)(x:In1):z5h c a x=((x.k==14||((plB c.sl x.t||zc1 x.t)&&x.l.all (plB c.sl)))&&(insR c a x&&((useA x.k||x.a==0)&&((x.k==14||x.c.isEmpty)&&((x.k==5||x.l.isEmpty)&&(if useT x.k=true then plB c.sl x.t else zc1 x.t)))))):=by
 have hAV:plB c.sl x.t=true→validB x.t=true:=fun h=>by unfold plB at h;simp only [Bool.and_eq_true] at h;exact h.1
 have hCs:x.c.isEmpty=true→vCs c.sl x.c=true:=fun h=>by rw [List.isEmpty_iff.1 h,vCs]
 have hLs:x.l.isEmpty=true→x.l.all (plB c.sl)=true:=fun h=>by rw [List.isEmpty_iff.1 h];rfl
 have h5:x.k=5→insB c.ar (c.fr+c.vs) c.sl c.ins.length a.length (zb6 a) x.k x.a x.t=true:=fun h=>by rw [h];rfl
 have h14:x.k=14→insB c.ar (c.fr+c.vs) c.sl c.ins.length a.length (zb6 a) x.k x.a x.t=true:=fun h=>by rw [h];rfl
 unfold z5h fldB insR;generalize insB c.ar (c.fr+c.vs) c.sl c.ins.length a.length (zb6 a) x.k x.a x.t=I at*;generalize plB c.sl x.t=A at*;generalize zc1 x.t=E at*;generalize validB x.t=V at*;generalize x.l.all (plB c.sl)=Ls at*;generalize vCs c.sl x.c=W at*;generalize x.c.isEmpty=ce at*;generalize x.l.isEmpty=le at*;generalize (x.l.length==2)=l2 at*;generalize (x.a==0)=a0 at*;generalize x.k=k at*;by_cases q:k=14
 · have:=h14 q;subst q;cases E<;>cases le<;>cases a0<;>cases W<;>simp_all [useA,useT]
 by_cases q2:k=5
 · have:=h5 q2;subst q2;cases E<;>cases ce<;>cases l2<;>cases a0<;>cases Ls<;>simp_all [useA,useT]
 · have e1:(k==14)=false:=by simpa using q
   have e2:(k==5)=false:=by simpa using q2
   rw [e1,e2,if_neg q2,if_neg q2,if_neg q];generalize useT k=uT;generalize useA k=uA;cases uT<;>cases A<;>cases E<;>cases ce<;>cases Ls<;>simp_all
theorem zrw (c:Cd) (a b:List In1) (x:In1) (hx:c.ins=a++x::b) (hB:c.ins.length≤B) (hf:0≤c.fr+c.vs∧c.fr+c.vs≤B) (ht:x.t.sz≤B) (hbt:bd 2305843009213693952 x.t) (hl:x.l.length≤B) (hs:∀ t∈x.l,t.sz≤B∧bd 2305843009213693952 t)
  (hc:x.c.length≤B) (hd:∀ d∈x.c,AC Tryz.prog 13 [aC d] [] (cb (vC d)) []):AC Tryz.prog 37 [aC c,ci a.length] [] (cb (z5h c a x)) []:=by
 have c0:=c_cins c a b x hx hB hf ht hc hd;have c1:=c_codd c x.t ht hbt;have c2:=c_cempty x.t ht;have c3:=c_anyOdd c x.l hl hs;have hla:a.length<c.ins.length:=by rw [hx];simp
 have e:List.getD (FIs c.ins) (Int.toNat (a.length:Int)) []=FI x:=by rw [hx];exact zb1 a x b
 have need:=el8 c.ins a.length (by omega) (by omega) x;have hce:decide (((x.c.length:Nat):Int)>0)= !x.c.isEmpty:=by cases x.c<;>simp
 have hle:decide (((x.l.length:Nat):Int)>0)= !x.l.isEmpty:=by cases x.l<;>simp
 refine AC.vc hP sh lv37 (Nat.le_refl _) (by simp) (by simp) (Eq.mpr (v37 ..) ?_);rw [e];simp only [FI0,FI1,FI2,FI3,FI4,FI5,FI6,FI7];refine ⟨need, ?_⟩;rw [zpm];simp only [FV.ses,z0r,z02];rw [hce,hle,show (x.a !=0)= !(x.a==0) from rfl,show (x.k !=14)= !(x.k==14) from rfl];unfold usesT at c0;generalize insR c a x=OK at*;generalize plB c.sl x.t=A at*;generalize zc1 x.t=E at*;generalize x.l.all (plB c.sl)=Ls at*;generalize x.c.isEmpty=ce at*;generalize x.l.isEmpty=le at*;generalize useA x.k=uA at*;generalize useT x.k=uT at*;generalize (x.a==0)=a0 at*;generalize (x.k==14)=k14 at*;generalize (x.k==5)=k5 at*
 repeat' (first | refine z03 (fun _=> ?_) (fun _=> ?_) | refine ⟨_,c1, ?_⟩ | refine ⟨_,c2, ?_⟩ | refine ⟨_,c3, ?_⟩ | refine ⟨_,_,_,_,_,c0, ?_⟩ | refine And.intro (show FV.L 4 _=true by rfl) ?_ | refine And.intro (show FV.L 6 _=true by rfl) ?_)
 all_goals clear c0 c1 c2 c3 hx hB hf ht hbt hl hs hc hd hla e need hce hle
 all_goals refine ⟨z6c ?_,by trivial⟩
 all_goals (simp_all;done)
mutual
def nbC:Cd→Prop
 | .mk _ _ _ _ _ ins=>nbIs ins
def nbIs:List In1→Prop
 | []=>True
 | .mk _ _ t l c::r=>(bd 2305843009213693952 t∧(∀ u∈l,bd 2305843009213693952 u)∧nbCs c)∧nbIs r
def nbCs:List Cd→Prop
 | []=>True
 | c::r=>nbC c∧nbCs r
end
theorem zeg:∀ {l:List In1} {x:In1},nbIs l→x∈l→bd 2305843009213693952 x.t∧(∀ u∈x.l,bd 2305843009213693952 u)∧nbCs x.c
 | .mk k a t q c::r,x,h,hm=>by
  rw [nbIs] at h;rcases List.mem_cons.1 hm with rfl | hm
  · exact h.1
  · exact zeg h.2 hm
theorem zl1:∀ {l:List Cd} {d:Cd},nbCs l→d∈l→nbC d
 | c::r,d,h,hm=>by
  rw [nbCs] at h;rcases List.mem_cons.1 hm with rfl | hm
  · exact h.1
  · exact zl1 h.2 hm
theorem zoz {c:Cd}(h:nbC c):nbIs c.ins:=by cases c;rw [nbC] at h;exact h
theorem zka (c:Cd)(hz:zC c)(hn:nbC c)(hf:0≤c.fr+c.vs∧c.fr+c.vs≤B)(ih:∀ x∈c.ins,∀ d∈x.c,AC Tryz.prog 13 [aC d] [] (cb (vC d)) [])(h0:0<c.ins.length):∀ (b a:List In1),c.ins=a++b→
  (∀ x∈a,(x.k=9∨x.k=10)→0≤x.a∧x.a≤B)→
  RPt Tryz.prog 13 0 (cb (vIs c.ar (c.fr+c.vs) c.sl c.ins.length a.length (zb6 a) b&&zlt c.ins)) [] 3 ⟨[(5, .c (.a (.ep 0 6 0 0))),(68,ci c.ins.length),(69,ci a.length)],[(0,obC c)],1⟩
 | [],a,hx,ha=>by
  have hl:c.ins.length≤B:=(zb2 hz).2.1;have h1:=c_cways c hl h0 (fun x hm=>ha x (by rw [hx] at hm;simpa using hm));refine RPt.vc hP sh lv13 (Eq.mpr (v13_3a ..) ?_);refine z03 (fun h=>absurd (of_decide_eq_true h) ?_) (fun _=>⟨_,h1,z04 (by rw [vIs];rfl)⟩);rw [hx];simp
 | x::b,a,hx,ha=>by
  have hxm:x∈c.ins:=by rw [hx];simp
  have z4:=zao (zb2 hz).2.2 hxm;have z5:=Tm.sz_bk x.t;have z6:=Tm.szs_bks x.l;have z7:=Tm.szs_length x.l;have z8:=z4.2.2.1;have n1:=zeg (zoz hn) hxm;have hl:c.ins.length≤B:=(zb2 hz).2.1;have hla:a.length<c.ins.length:=by rw [hx];simp
  have h1:=zrw c a b x hx hl hf (by omega) n1.1 (by omega) (fun t ht=>⟨by have:=Tm.szs_mem ht;omega,n1.2.1 t ht⟩) (by omega) (ih x hxm)
  have ev:vIs c.ar (c.fr+c.vs) c.sl c.ins.length a.length (zb6 a) (x::b)=(z5h c a x&&vIs c.ar (c.fr+c.vs) c.sl c.ins.length ((a.length:Int)+1) (some (x.k,x.a)) b):=by
   cases x;rw [vIs,z5h,Bool.and_assoc];rfl
  rw [ev];simp only [B] at hl;refine RPt.vc hP sh lv13 (Eq.mpr (v13_3a ..) ?_);rw [w64 (x:=(a.length:Int)+1) (by omega) (by omega)];refine z03 (fun _=>⟨_,h1,z03 (fun h=>z04 ?_) (fun h=> ?_)⟩) (fun h=>absurd (of_decide_eq_false h) (by omega))
  · rw [show z5h c a x=false by simpa using h];rfl
  · have hfb:z5h c a x=true:=by simpa using h
    have:=zka c hz hn hf ih h0 b (a++ [x]) (by rw [hx];simp) (fun y hy hk=>by
     rcases List.mem_append.1 hy with hy | hy
     · exact ha y hy hk
     · have hy:y=x:=by simpa using hy
       subst hy
       have:insB c.ar (c.fr+c.vs) c.sl c.ins.length a.length (zb6 a) y.k y.a y.t=true:=by
        unfold z5h fldB at hfb;simp only [Bool.and_eq_true] at hfb;exact hfb.1.2.1
       unfold insB at this;rw [if_neg (by omega),if_neg (by omega),if_neg (by omega),if_pos hk] at this;have:=of_decide_eq_true this;simp only [B];omega)
    rw [nx,zd7] at this;rw [hfb,Bool.true_and];exact this
theorem last_nil {l:List In1}(h:l.length=0):zo l=false:=by rw [List.eq_nil_of_length_eq_zero h];rfl
theorem zft:∀ c:Cd,zC c→nbC c→AC Tryz.prog 13 [aC c] [] (cb (vC c)) []:=by
 refine Cd.ind fun c ih hz hn=> ?_;have z3:=zb2 hz;have hl:c.ins.length≤B:=z3.2.1;simp only [B] at hl;have ih':∀ x∈c.ins,∀ d∈x.c,AC Tryz.prog 13 [aC d] [] (cb (vC d)) []:=fun x hx d hd=>ih x hx d hd (zht (zao z3.2.2 hx).2.2.2 hd) (zl1 (zeg (zoz hn) hx).2.2 hd);have c1:=zjv c.nm;have c2:=zq2 c.nm;have c3:=z4m c.nm;have c4:=c_ccount [c.ar,c.fr,c.vs,c.sl] (by simp [B]);have eV:vC c=(nmB c.nm&&(cntB c.ar c.fr c.vs c.sl&&(zo c.ins&&(vIs c.ar (c.fr+c.vs) c.sl c.ins.length 0 none c.ins&&zlt c.ins)))):=by cases c;rw [vC];rfl
 rw [eV];have hlen:(((FIs c.ins).length:Nat):Int)=c.ins.length:=by rw [z09]
 have tail:nmB c.nm=true→∀ R:Prop,(∀ b:Bool,R→False)∨True→True:=fun _ _ _=>trivial
 have ecnt:(!([c.ar,c.fr,c.vs,c.sl].any cntN))=true→(0≤c.ar∧c.ar≤4096)∧(0≤c.fr∧c.fr≤4096)∧(0≤c.vs∧c.vs≤4096)∧(0≤c.sl∧c.sl≤4096):=fun h=>by
  simp only [List.any_cons,List.any_nil,cntN,Bool.not_or,Bool.not_false,Bool.and_true,Bool.and_eq_true,Bool.not_eq_true',decide_eq_false_iff_not] at h;omega
 have ecnt2:(!([c.ar,c.fr,c.vs,c.sl].any cntN))=false→cntB c.ar c.fr c.vs c.sl=false:=fun h=>by
  unfold cntB;refine decide_eq_false fun q=> ?_
  have:(!([c.ar,c.fr,c.vs,c.sl].any cntN))=true:=by
   simp only [List.any_cons,List.any_nil,cntN,Bool.not_or,Bool.not_false,Bool.and_true,Bool.and_eq_true,Bool.not_eq_true',decide_eq_false_iff_not];omega
  rw [this] at h;cases h
 have loop:0<c.ins.length→0≤c.fr+c.vs∧c.fr+c.vs≤B→RPt Tryz.prog 13 0 (cb (vIs c.ar (c.fr+c.vs) c.sl c.ins.length 0 none c.ins&&zlt c.ins)) [] 3 ⟨[(5, .c (.a (.ep 0 6 0 0))),(68,ci c.ins.length),(69,ci 0)],[(0,obC c)],1⟩:=fun h0 hf=>zka c hz hn hf ih' h0 c.ins [] rfl (fun x hx=>by cases hx);have rest:nmB c.nm=true→(∃ b3:Bool,AC Tryz.prog 36 [.c (.a (.fz (.sl false 1 [[.int .i64 c.ar],[.int .i64 c.fr],[.int .i64 c.vs],[.int .i64 c.sl]])))] [] (cb b3) []∧(true=true)∧True):=fun _=>⟨_,c4,rfl,trivial⟩
 have hlast:0<c.ins.length→∃ y a',c.ins=a'++ [y]∧zo c.ins=(y.k==3||y.k==4||y.k==8)∧List.getD (FIs c.ins) (Int.toNat (IntKind.wrap .i64 ((c.ins.length:Int)-1))) []=FI y∧0≤IntKind.wrap .i64 ((c.ins.length:Int)-1)∧IntKind.wrap .i64 ((c.ins.length:Int)-1)<c.ins.length:=fun h0=>by
  rcases List.eq_nil_or_concat c.ins with h | ⟨a',y,h⟩
  · rw [h] at h0;cases h0
  · have h:c.ins=a'++ [y]:=by simpa using h
    rw [w64 (by omega) (by omega)];refine ⟨y,a',h,by rw [h];simp [zo], ?_,by omega,by omega⟩;rw [show (c.ins.length:Int)-1=a'.length by rw [h];simp,h];exact zb1 a' y []
 refine AC.vc hP sh lv13 (Nat.le_refl _) (by simp) (by simp) (Eq.mpr (v13 ..) ?_);refine ⟨rfl,_,c1, ?_⟩;rw [hlen];by_cases h0:0<c.ins.length
 · obtain ⟨y,a',hy1,hy2,hy3,hy4,hy5⟩:=hlast h0;have need:=el8 c.ins _ hy4 hy5 y;have en:((c.ins.length:Int)==0)=false:=by rw [beq_eq_false_iff_ne];omega
   rw [hy3,en,hy2];simp only [FI0,FI1,FI2,FI3,FI4,FI5,FI6,FI7];rw [hlen] at need;have hgo:=loop h0;clear loop hlast hy1 hy2 hy3 hy4 hy5 tail rest eV ih ih' z3 hl hn hz;unfold nmB;cases hcnt:(!([c.ar,c.fr,c.vs,c.sl].any cntN)) with
   | false=>
    have hc0:=ecnt2 hcnt;rw [hcnt] at c4;rw [hc0];clear ecnt ecnt2
    repeat' (first | refine z03 (fun _=> ?_) (fun _=> ?_) | refine ⟨_,c2, ?_⟩ | refine ⟨_,c3, ?_⟩ | refine ⟨_,c4, ?_⟩ | refine And.intro (And.intro True.intro (Nat.le_refl 4)) ?_ | refine And.intro (And.intro (rfl:(1:Nat)=1) (Nat.le_refl 4)) ?_ | refine And.intro True.intro ?_ | refine And.intro (rfl:true=true) ?_ | refine And.intro need ?_ | fail)
    all_goals first
     | contradiction
     | exact ⟨z6c (by rw [Bool.false_and,Bool.and_false]),by trivial⟩
   | true=>
    have hb:=ecnt hcnt;rw [hcnt] at c4;rw [w64 (x:=c.fr+c.vs) (by omega) (by omega)];have hgo:=hgo (by simp only [B];omega)
    have hc1:cntB c.ar c.fr c.vs c.sl= !decide (c.fr+c.vs>c.sl):=by
     unfold cntB;by_cases q:c.fr+c.vs>c.sl
     · rw [decide_eq_true q,decide_eq_false (by omega)];rfl
     · rw [decide_eq_false q,decide_eq_true (by omega)];rfl
    rw [hc1];clear hc1 ecnt ecnt2 hcnt hb en h0;generalize (vIs c.ar (c.fr+c.vs) c.sl c.ins.length 0 none c.ins&&zlt c.ins)=V at*;generalize decide (c.fr+c.vs>c.sl)=d at*;generalize zbr c.nm=n1 at*;generalize zg c.nm=n2 at*;generalize logB c.nm=lg at*;generalize (y.k==3)=k3 at*;generalize (y.k==4)=k4 at*;generalize (y.k==8)=k8 at*
    repeat' (first | refine z03 (fun _=> ?_) (fun _=> ?_) | refine ⟨_,c2, ?_⟩ | refine ⟨_,c3, ?_⟩ | refine ⟨_,c4, ?_⟩ | refine And.intro (And.intro True.intro (Nat.le_refl 4)) ?_ | refine And.intro (And.intro (rfl:(1:Nat)=1) (Nat.le_refl 4)) ?_ | refine And.intro True.intro ?_ | refine And.intro (rfl:true=true) ?_ | refine And.intro need ?_ | fail)
    all_goals first
     | contradiction
     | (refine ⟨z6c ?_,by trivial⟩;clear hgo need c1 c2 c3 c4;simp_all;done)
     | ((have e9:((n1||n2) && !lg&&(!d&&((k3||k4||k8)&&V)))=V:=by (clear hgo need c1 c2 c3 c4;simp_all));rw [e9];exact hgo)
 · have hl0:c.ins.length=0:=by omega
   have en:((c.ins.length:Int)==0)=true:=by rw [beq_iff_eq];omega
   have hla:=last_nil hl0;rw [en,hla,Bool.false_and,Bool.and_false,Bool.and_false];clear hlast
   repeat' (first | exact z04 rfl | refine z03 (fun _=> ?_) (fun _=> ?_) | refine ⟨_,c2, ?_⟩ | refine ⟨_,c3, ?_⟩ | refine ⟨_,c4, ?_⟩ | refine And.intro (And.intro True.intro (Nat.le_refl 4)) ?_ | refine And.intro (And.intro (rfl:(1:Nat)=1) (Nat.le_refl 4)) ?_ | refine And.intro True.intro ?_ | refine And.intro (rfl:true=true) ?_ | fail)
   all_goals contradiction
end Go.AM

set_option maxRecDepth 100000
open Go Go.Proofs

set_option maxRecDepth 100000
open Go Go.Proofs
namespace Go.AM
theorem zn:∀ (t:Tm) (k:Int),0≤z4j t k
 | .mk kd s n l,k=>by
  rw [z4j];split
  · exact zn5 _ _
  · split
    · exact zcs _ _
    · exact Int.le_refl _
theorem maxI_0 {a:Int}(h:0≤a):maxI 0 a=a:=by unfold maxI;rw [if_pos h]
theorem loose_R (t:Tm):z3u t 0 0=z4j t 0∧0≤z4j t 0:=by
 have h:=zn t 0;refine ⟨?_,h⟩;rw [zfz t 0 0 (Int.le_refl _)];exact maxI_0 h
end Go.AM

set_option maxRecDepth 100000
open Go Go.Proofs
namespace Go.AM
theorem el6 (l:List Cd)(i:Int)(h0:0≤i)(h1:i<l.length)(d:Cd):FV.L 6 (.sl false 6 (FCs l))=true∧0≤i∧i<(((FCs l).length:Nat):Int)∧(fCr (FC d):List FV)=FC d:=⟨rfl,h0,by rw [z0r];exact h1,fCr_FC d⟩
end Go.AM

set_option maxRecDepth 100000
open Go Go.Proofs
namespace Go.AM
def gms (b:Int→List UInt8→Nat):List Tm→Nat
 | []=>0
 | g::l=>ms b g+(b 6 []+b 0 nAnd)+gms b l
theorem z84 (b:Int→List UInt8→Nat):∀ l m:List Tm,gms b (l++m)=gms b l+gms b m
 | [],m=>by simp [gms]
 | x::l,m=>by rw [List.cons_append,gms,gms,z84 b l m];omega
theorem zj3 (b:Int→List UInt8→Nat):∀ l:List Tm,gms b (l.map fun g=>shT 0 1 g 0)≤gms b l
 | []=>Nat.le_refl _
 | g::l=>by have:=zj3 b l;have:=zng (b:=b) 0 1 g 0;rw [List.map_cons,gms,gms];omega
theorem zrs (b:Int→List UInt8→Nat)(x g:Tm):ms b (andG x g)=b 6 []+b 0 nAnd+ms b x+ms b g:=by
 rw [ms,mss,mss,mss,mss,ms,mss];omega
theorem zks (b:Int→List UInt8→Nat):∀ (l:List Tm) (x:Tm),ms b (l.foldl andG x)≤ms b x+gms b l
 | [],x=>Nat.le_refl _
 | g::l,x=>by have:=zks b l (andG x g);rw [zrs] at this;rw [List.foldl_cons,gms];omega
theorem zpf (b:Int→List UInt8→Nat)(L:List Tm)(h:L ≠ []):ms b (z3k L)≤gms b L:=by
 cases L with
 | nil=>exact absurd rfl h
 | cons x L=>have:=zks b L x;show ms b (L.foldl andG x)≤_;rw [gms];omega
theorem zr7 {M:Int}{x g:Tm}(hx:bd M x)(hg:bd M g):bd M (andG x g):=bd6 ⟨⟨fun e=>absurd e (by omega),trivial⟩,hx,hg,trivial⟩
end Go.AM

set_option maxRecDepth 100000
open Go Go.Proofs
namespace Go.AM
theorem sh_43 {t:Tm}(flex:Int)(h:(z00 t).1.k=4∨(z00 t).1.k=3):z01 t flex=([],[],flex):=by unfold z01;rw [if_pos h]
theorem sh_0 {t:Tm}(flex:Int)(h4:¬(z00 t).1.k=4)(h3:¬(z00 t).1.k=3)(h:(z00 t).1.k≠0):z01 t flex=([],[],130):=by unfold z01;rw [if_neg (by omega),if_pos h]
theorem log_ne {s:List UInt8}(h:logB s=true):s ≠ []:=by intro e;rw [e] at h;revert h;decide
end Go.AM

set_option maxRecDepth 100000
open Go Go.Proofs
namespace Go.AM
theorem zi7 {t a c:Tm}(e:(z00 t).2=[a,c]):((FV.L 4 (.sl false 4 (FTs (z00 t).2))=true)∧((0≤(0:Int))∧(((0:Int)<(((FTs (z00 t).2).length:Nat):Int))∧((rE (List.getD (FTs (z00 t).2) 0 []):List FV)=List.getD (FTs (z00 t).2) 0 []))))∧
  ((FV.L 4 (.sl false 4 (FTs (z00 t).2))=true)∧((0≤(1:Int))∧(((1:Int)<(((FTs (z00 t).2).length:Nat):Int))∧((rE (List.getD (FTs (z00 t).2) 1 []):List FV)=List.getD (FTs (z00 t).2) 1 []))))∧
  aE (List.getD (FTs (z00 t).2) 0 [])=aT a∧aE (List.getD (FTs (z00 t).2) 1 [])=aT c:=by
 rw [e];exact ⟨⟨rfl,by omega,by show (0:Int)<2;omega,z2l a⟩,⟨rfl,by omega,by show (1:Int)<2;omega,z2l c⟩,z3p a,z3p c⟩
theorem zpw {t a:Tm}(e:(z00 t).2=[a]):((FV.L 4 (.sl false 4 (FTs (z00 t).2))=true)∧((0≤(0:Int))∧(((0:Int)<(((FTs (z00 t).2).length:Nat):Int))∧((rE (List.getD (FTs (z00 t).2) 0 []):List FV)=List.getD (FTs (z00 t).2) 0 []))))∧
  aE (List.getD (FTs (z00 t).2) 0 [])=aT a:=by
 rw [e];exact ⟨⟨rfl,by omega,by show (0:Int)<1;omega,z2l a⟩,z3p a⟩
end Go.AM

set_option maxRecDepth 100000
open Go Go.Proofs

set_option maxRecDepth 100000
open Go Go.Proofs
namespace Go.AM
def wiB (t:Tm)(vars loose:Int):Bool:=validB t&&(unF vars t&&decide (z3u t 0 0≤loose))
def clB (n:Nat)(c:Cl):Bool:=(decide (0≤c.1)&&decide (c.1≤4096))&&(wiB c.2.1 0 c.1&&(wiB c.2.2 0 c.1&&(zbx c.2.1&&z05 false n c.2.2==0)))
def z3l (n:Nat)(prog:List Cl)(goal:Tm)(vars:Int):Bool:=(decide (0≤vars)&&decide (vars≤4096))&&(wiB goal vars 0&&(z05 false n goal==0&&prog.all (clB n)))
def TB (n:Nat)(t:Tm):Prop:=t.bk≤B∧t.sz≤1000000∧bd (1000000000000-n) t∧wt t≤n
theorem TB.tg {n:Nat}{t:Tm}(h:TB n t)(hv:validB t=true):TG n t:=⟨hv,h.2.1,h.2.2.1⟩
theorem TB.sz {n:Nat}{t:Tm}(h:TB n t):t.sz≤B:=by have:=h.2.1;simp only [B];omega
theorem TB.bd {n:Nat}{t:Tm}(h:TB n t):bd 2305843009213693952 t:=z46 (by omega) _ h.2.2.1
theorem zjr (n:Int):AC Tryz.prog 46 [ci n] [] (cb (decide (0≤n)&&decide (n≤4096))) []:=by
 refine AC.vc hP sh lv46 (Nat.le_refl _) (by simp) (by simp) (Eq.mpr (v46 ..) ?_);exact z03 (fun h=>z04 (by rw [h];rfl)) (fun h=>z04 (by rw [h];rfl))
theorem zj (p:Tm→Bool)(n:Int)(b:List Tm):∀ a:List Tm,(a++b).length≤B→(∀ u∈b,AC Tryz.prog 128 [aT u, .c (.a (.ep 0 1 0 0))] [obN n] (cb (p u)) [obN n])→RPt Tryz.prog 84 1 (ci (ixF p b a.length)) [obN n] 1 ⟨[(0,aL (a++b)),(1, .c (.fn (.func 128) [] [(false,[.ep 0 1 0 0])])),(7,ci (a++b).length),(8,ci a.length)],[(0,obN n)],1⟩:=by
 induction b with
 | nil=>
  intro a hs _;refine RPt.vc hP sh lv84 (Eq.mpr (za ..) ?_);exact z03 (fun h=>absurd (of_decide_eq_true h) (by simp)) (fun _=>⟨.refl _,rfl⟩)
 | cons t b ihb=>
  intro a hs ih;have h3:=ltI' a t b;have h1:=ih t List.mem_cons_self;have h2:=ihb (a++ [t]) (by simpa using hs) (fun u hu=>ih u (List.mem_cons_of_mem _ hu));rw [ap,nx,show (a++ [t]).length=a.length+1 by simp] at h2;rw [ixF];simp only [List.length_append,List.length_cons,B] at hs;have h4:(a.length:Int)<((a++t::b).length:Int):=by simp only [List.length_append,List.length_cons];omega
  refine RPt.vc hP sh lv84 (Eq.mpr (za ..) ?_);rw [w64 (by omega) (by omega)];refine z03 (fun _=>⟨⟨rfl,by omega,h3,z5e ..⟩,p t,by rw [z8s];exact h1,z03 (fun h=> ?_) (fun h=> ?_)⟩) (fun h=>absurd h4 (of_decide_eq_false h))
  · rw [if_pos h];exact ⟨.refl _,rfl⟩
  · rw [if_neg (by rw [h];simp)];exact h2
theorem zgv (p:Tm→Bool)(n:Int)(l:List Tm)(hl:l.length≤B)(h:∀ u∈l,AC Tryz.prog 128 [aT u, .c (.a (.ep 0 1 0 0))] [obN n] (cb (p u)) [obN n]):AC Tryz.prog 39 [aL l, .c (.fn (.func 128) [] [(false,[.ep 0 1 0 0])])] [obN n] (cb (l.any p)) [obN n]:=by
 have h0:=zj p n l [] hl h
 have h1:AC Tryz.prog 84 [aL l, .c (.fn (.func 128) [] [(false,[.ep 0 1 0 0])])] [obN n] (ci (ixF p l 0)) [obN n]:=by
  refine AC.vc hP sh lv84 (Nat.le_refl _) (by simp [isLive]) (by simp) (Eq.mpr (v84_F128 ..) ?_);rw [z02];exact ⟨rfl,h0⟩
 refine AC.vc hP sh lv39 (Nat.le_refl _) (by simp [isLive]) (by simp) (Eq.mpr (v39_F128 ..) ?_);exact ⟨_,h1,by rw [z6y p l 0];exact ⟨.refl _,rfl⟩⟩
theorem c_splain (n:Int):∀ t:Tm,t.sz≤B→AC Tryz.prog 90 [aT t,ci n] [] (cb (unF n t)) []:=by
 refine Tm.ind fun t ih hs=> ?_;have hl:=Tm.szs_length t.l;have he:=t.sz_eq
 have hk:∀ u∈t.l,AC Tryz.prog 128 [aT u, .c (.a (.ep 0 1 0 0))] [obN n] (cb (!unF n u)) [obN n]:=fun u hu=>by
  have h1:=ih u hu (by have:=Tm.szs_mem hu;omega);refine AC.vc hP sh lv128 (Nat.le_refl _) (by simp [isLive]) (by simp) (Eq.mpr (v128 ..) ?_);exact ⟨_,h1, .refl _,rfl⟩
 have h2:=zgv (fun u=> !unF n u) n t.l (by omega) hk;refine AC.vc hP sh lv90 (Nat.le_refl _) (by simp) (by simp) (Eq.mpr (v90 ..) ?_);have e:=z9y (unF n) t.l;rw [unF_eq,←e];refine z03 (fun h=>z04 (by rw [h];rfl)) (fun h=>z03 (fun h'=>z03 (fun q=>z04 (by rw [h,h',q];rfl)) (fun q=>⟨_,h2,z04 (by rw [h,h',q];rfl)⟩)) (fun h'=>⟨_,h2,z04 (by rw [h,h'];rfl)⟩))
theorem zam (t:Tm)(vars loose:Int)(hs:t.sz≤B)(hb:bd 2305843009213693952 t):AC Tryz.prog 47 [aT t,ci vars,ci loose] [] (cb (wiB t vars loose)) []:=by
 have h1:=z2r t hs;have h2:=c_splain vars t hs;have h3:=zpq t hs hb;refine AC.vc hP sh lv47 (Nat.le_refl _) (by simp) (by simp) (Eq.mpr (v47 ..) ?_);unfold wiB;exact ⟨_,h1,z03 (fun h=>⟨_,h2,z03 (fun q=>⟨_,h3,z04 (by rw [h,q];rfl)⟩) (fun q=>z04 (by rw [h,q];rfl))⟩) (fun h=>z04 (by rw [h];rfl))⟩
theorem c_spred (t:Tm)(hs:t.sz≤B):AC Tryz.prog 51 [aT t] [] (.tup [(false,[.a (.fz (.str (z00 t).1.s))]),(false,[.a (.fz (.bool (zbx t)))])]) []:=by
 have h1:=z67 t hs;have h2:=z4m (z00 t).1.s;refine AC.vc hP sh lv51 (Nat.le_refl _) (by simp) (by simp) (Eq.mpr (v51 ..) ?_);unfold zbx;exact ⟨_,h1,z03 (fun h=>⟨_,h2,by rw [h];exact ⟨.refl _,rfl⟩⟩) (fun h=>by rw [h];exact ⟨.refl _,rfl⟩)⟩
theorem zmw (n:Nat)(hn:n≤1000000000)(c:Cl)(h1:TB n c.2.1)(h2:TB n c.2.2):AC Tryz.prog 50 [aCl c] [] (cb (!clB n c)) []:=by
 have c1:=c_spred c.2.1 h1.sz;have c2:=zjr c.1;have c3:=zam c.2.1 0 c.1 h1.sz h1.bd;have c4:=zam c.2.2 0 c.1 h2.sz h2.bd;obtain ⟨vs,hd',bo⟩:=c;refine AC.vc hP sh lv50 (Nat.le_refl _) (by simp) (by simp) (Eq.mpr (v50 ..) ?_);unfold clB;simp only at c1 c2 c3 c4;refine ⟨_,_,c1,_,c2,z03 (fun q=>z04 ?_) (fun q1=>⟨_,c3,z03 (fun q=>z04 ?_) (fun q2=>⟨_,c4,z03 (fun q=>z04 ?_) (fun q3=>z03 (fun q=>z04 ?_) (fun q4=>⟨_,zqo n hn bo h2.2.2.2 (h2.tg ?_),z04 ?_⟩))⟩)⟩)⟩
 · have q:(decide (0≤vs)&&decide (vs≤4096))=false:=by revert q;cases (decide (0≤vs)&&decide (vs≤4096))<;>simp
   rw [q];rfl
 · rw [show wiB hd' 0 vs=false by simpa using q,Bool.false_and,Bool.and_false];rfl
 · rw [show wiB bo 0 vs=false by simpa using q,Bool.false_and,Bool.and_false,Bool.and_false];rfl
 · rw [show zbx hd'=false by simpa using q,Bool.false_and,Bool.and_false,Bool.and_false,Bool.and_false];rfl
 · have:wiB bo 0 vs=true:=by simpa using q3
   unfold wiB at this;exact (Bool.and_eq_true_iff.1 this).1
 · have q1:(decide (0≤vs)&&decide (vs≤4096))=true:=by revert q1;cases (decide (0≤vs)&&decide (vs≤4096))<;>simp
   rw [q1,show wiB hd' 0 vs=true by simpa using q2,show wiB bo 0 vs=true by simpa using q3,show zbx hd'=true by simpa using q4];rfl
end Go.AM

set_option maxRecDepth 100000
open Go Go.Proofs
namespace Go.AM
def ixCl (p:Cl→Bool):List Cl→Nat→Int
 | [],_=> -1
 | t::l,i=>if p t=true then (i:Int) else ixCl p l (i+1)
theorem zk9 (p:Cl→Bool):∀ (l:List Cl) (i:Nat),decide (ixCl p l i≥0)=l.any p
 | [],_=>rfl
 | t::l,i=>by
  rw [ixCl,List.any_cons];split
  · rename_i h;rw [h];simp
  · rename_i h;rw [zk9 p l,show p t=false by simpa using h,Bool.false_or]
theorem cl_mid (a:List Cl)(c:Cl)(b:List Cl):List.getD (CLs (a++c::b)) (Int.toNat (a.length:Int)) []=FL c:=by
 rw [show Int.toNat (a.length:Int)=a.length by omega,CLs];simp [List.getD]
theorem l_ixcl (p:Cl→Bool)(b:List Cl):∀ a:List Cl,(a++b).length≤B→(∀ u∈b,AC Tryz.prog 50 [aCl u] [] (cb (p u)) [])→RPt Tryz.prog 94 0 (ci (ixCl p b a.length)) [] 1 ⟨[(0,aCls (a++b)),(1, .c (.fn (.func 50) [] [])),(7,ci (a++b).length),(8,ci a.length)],[],0⟩:=by
 induction b with
 | nil=>
  intro a hs _;refine RPt.vc hP sh lv94 (Eq.mpr (zd3 ..) ?_);exact z03 (fun h=>absurd (of_decide_eq_true h) (by simp)) (fun _=>z2g rfl)
 | cons t b ihb=>
  intro a hs ih;have h1:=ih t List.mem_cons_self;have h2:=ihb (a++ [t]) (by simpa using hs) (fun u hu=>ih u (List.mem_cons_of_mem _ hu));rw [ap,nx,show (a++ [t]).length=a.length+1 by simp] at h2;rw [ixCl];simp only [List.length_append,List.length_cons,B] at hs;have h4:(a.length:Int)<((a++t::b).length:Int):=by simp only [List.length_append,List.length_cons];omega
  refine RPt.vc hP sh lv94 (Eq.mpr (zd3 ..) ?_);rw [w64 (by omega) (by omega),cl_mid];refine z03 (fun _=>⟨⟨rfl,by omega,by rw [z1s];exact h4,rfl⟩,p t,h1,z03 (fun h=> ?_) (fun h=> ?_)⟩) (fun h=>absurd h4 (of_decide_eq_false h))
  · rw [if_pos h];exact z2g rfl
  · rw [if_neg (by rw [h];simp)];exact h2
theorem not_any (p:Cl→Bool)(l:List Cl):(!l.any fun c=> !p c)=l.all p:=by induction l with | nil=>rfl | cons t l ih=>rw [List.any_cons,List.all_cons,←ih];cases p t<;>simp
theorem c_sright (n:Nat)(hn:n≤1000000000)(prog:List Cl)(goal:Tm)(vars:Int)(hg:TB n goal)(hl:prog.length≤B)(hp:∀ c∈prog,TB n c.2.1∧TB n c.2.2):AC Tryz.prog 21 [aCls prog,aT goal,ci vars] [] (cb (z3l n prog goal vars)) []:=by
 have c2:=zjr vars;have c3:=zam goal vars 0 hg.sz hg.bd;have h0:=l_ixcl (fun c=> !clB n c) prog [] hl (fun c hc=>zmw n hn c (hp c hc).1 (hp c hc).2)
 have h1:AC Tryz.prog 94 [aCls prog, .c (.fn (.func 50) [] [])] [] (ci (ixCl (fun c=> !clB n c) prog 0)) []:=by
  refine AC.vc hP sh lv94 (Nat.le_refl _) (by simp) (by simp) (Eq.mpr (v94_F50 ..) ?_);rw [z1s];exact ⟨rfl,h0⟩
 have h2:AC Tryz.prog 49 [aCls prog, .c (.fn (.func 50) [] [])] [] (cb (prog.any fun c=> !clB n c)) []:=by
  refine AC.vc hP sh lv49 (Nat.le_refl _) (by simp) (by simp) (Eq.mpr (v49_F50 ..) ?_);exact ⟨_,h1,z04 (zk9 _ prog 0)⟩
 refine AC.vc hP sh lv21 (Nat.le_refl _) (by simp) (by simp) (Eq.mpr (v21 ..) ?_);unfold z3l;rw [←not_any];refine ⟨_,c2,z03 (fun q=>z04 ?_) (fun q1=>⟨_,c3,z03 (fun q=>z04 ?_) (fun q2=>⟨_,zqo n hn goal hg.2.2.2 (hg.tg ?_),z03 (fun q=>z04 ?_) (fun q3=>⟨_,h2,z04 ?_⟩)⟩)⟩)⟩
 · have q:(decide (0≤vars)&&decide (vars≤4096))=false:=by revert q;cases (decide (0≤vars)&&decide (vars≤4096))<;>simp
   rw [q];rfl
 · rw [show wiB goal vars 0=false by simpa using q,Bool.false_and,Bool.and_false]
 · have:wiB goal vars 0=true:=by simpa using q2
   unfold wiB at this;exact (Bool.and_eq_true_iff.1 this).1
 · have q:(z05 false n goal==0)=false:=by simpa using q
   rw [q,Bool.false_and,Bool.and_false,Bool.and_false]
 · have q1:(decide (0≤vars)&&decide (vars≤4096))=true:=by revert q1;cases (decide (0≤vars)&&decide (vars≤4096))<;>simp
   have q3:(z05 false n goal==0)=true:=by simpa using q3
   rw [q1,show wiB goal vars 0=true by simpa using q2,q3];rfl
end Go.AM

set_option maxRecDepth 100000
open Go Go.Proofs
namespace Go.AM
theorem zol (t:Tm)(vars loose:Int):wiB t vars loose=true↔validB t=true∧unF vars t=true∧z4j t 0≤loose:=by
 unfold wiB;rw [Bool.and_eq_true,Bool.and_eq_true,decide_eq_true_iff,(loose_R t).1]
theorem zqc (n:Nat)(c:Cl):clB n c=true↔(0≤c.1∧c.1≤4096)∧(validB c.2.1=true∧unF 0 c.2.1=true∧z4j c.2.1 0≤c.1)∧(validB c.2.2=true∧unF 0 c.2.2=true∧z4j c.2.2 0≤c.1)∧((z00 c.2.1).1.k=0∧logB (z00 c.2.1).1.s=false)∧z05 false n c.2.2=0:=by
 unfold clB;rw [Bool.and_eq_true,Bool.and_eq_true,Bool.and_eq_true,Bool.and_eq_true,Bool.and_eq_true,decide_eq_true_iff,decide_eq_true_iff,zol,zol,zbx,Bool.and_eq_true,beq_iff_eq,beq_iff_eq,Bool.not_eq_true']
end Go.AM

set_option maxRecDepth 100000
open Go Go.Proofs
namespace Go.AM
abbrev vN4 (v:Int):Tm:= .mk 4 [] v []
def z1g (vs:List Int)(u:Tm)(d:Int):Tm:=if (u.k==3)=true∧d≤u.n then (if u.n<d+vs.length then vN4 (vs.getD (Int.toNat ((vs.length:Int)-1-(u.n-d))) 0) else .mk 3 [] (u.n-vs.length) []) else u
def openG (vs:List Int)(t:Tm):Tm:=z0a (z1g vs) t 0
theorem z8o (vs:List Int)(u:Tm)(d:Int)(h6:u.k≠6):(z1g vs u d).k≠6:=by
 unfold z1g;split
 · split<;>(intro h;cases h)
 · exact h6
theorem zky (vs:List Int){n d:Int}(h:d≤n):z1g vs (.mk 3 [] n []) d=if n<d+(vs.length:Int) then vN4 (vs.getD (Int.toNat ((vs.length:Int)-1-(n-d))) 0) else .mk 3 [] (n-vs.length) []:=by
 unfold z1g;exact if_pos ⟨rfl,h⟩
theorem op_leaf (vs:List Int)(v:Int)(u:Tm)(d:Int)(hl:u.k=3→u.s=[]∧u.l=[])(h5:u.k≠5)(h6:u.k≠6):z0a (z1g vs) (z1z 0 (vN4 v) u d) d=z1g (vs++ [v]) u d:=by
 obtain ⟨k,s,n,l⟩:=u;simp only [Tm.k,Tm.s,Tm.l] at hl h5 h6;have leaf:∀ (k':Int) (s':List UInt8) (n':Int) (l':List Tm),k'≠5→k'≠6→z0a (z1g vs) (.mk k' s' n' l') d=z1g vs (.mk k' s' n' l') d:=fun k' s' n' l' e5 e6=>z3q _ _ _ _ _ _ (by simp [e5,e6]);rw [z65];by_cases h3:k=3
 · subst h3;obtain ⟨rfl,rfl⟩:=hl rfl;have c3:((Tm.mk 3 [] n []).k==3)=true:=rfl;rw [if_pos c3];show z0a (z1g vs) (if n<d+0 then _ else if (n==d+0)=true then _ else _) d=_
   by_cases h1:n<d+0
   · rw [if_pos h1,leaf _ _ _ _ (by omega) (by omega)];unfold z1g;rw [if_neg (fun e=>by have:d≤n:=e.2;omega),if_neg (fun e=>by have:d≤n:=e.2;omega)]
   · rw [if_neg h1];by_cases h2:(n==d+0)=true
     · have h2':n=d+0:=by simpa using h2
       rw [if_pos h2,leaf _ _ _ _ (by omega) (by omega)];unfold z1g;rw [if_neg (fun e=>by cases e.1),if_pos ⟨c3,by show d≤n;omega⟩];show _=if n<d+((vs++ [v]).length:Int) then _ else _
       rw [if_pos (by rw [List.length_append];simp only [List.length_cons,List.length_nil];omega)];show vN4 v=vN4 ((vs++ [v]).getD (Int.toNat (((vs++ [v]).length:Int)-1-(n-d))) 0);rw [show Int.toNat (((vs++ [v]).length:Int)-1-(n-d))=vs.length by rw [List.length_append];simp only [List.length_cons,List.length_nil];omega];simp [List.getD]
     · have h2':¬n=d+0:=by simpa using h2
       rw [if_neg h2];show z0a (z1g vs) (.mk 3 [] (n-1) []) d=_;rw [leaf _ _ _ _ (by omega) (by omega)];rw [zky vs (by omega),zky (vs++ [v]) (by omega)];show (if n-1<d+(vs.length:Int) then vN4 (vs.getD (Int.toNat ((vs.length:Int)-1-(n-1-d))) 0) else Tm.mk 3 [] (n-1-vs.length) [])=if n<d+((vs++ [v]).length:Int) then vN4 ((vs++ [v]).getD (Int.toNat (((vs++ [v]).length:Int)-1-(n-d))) 0) else Tm.mk 3 [] (n-(vs++ [v]).length) []
       have el:((vs++ [v]).length:Int)=vs.length+1:=by rw [List.length_append];simp
       rw [el];by_cases h4:n-1<d+(vs.length:Int)
       · rw [if_pos h4,if_pos (by omega),show (vs.length:Int)+1-1-(n-d)=vs.length-1-(n-1-d) by omega];have hi:Int.toNat ((vs.length:Int)-1-(n-1-d))<vs.length:=by omega
         simp only [List.getD];rw [List.getElem?_append_left hi]
       · rw [if_neg h4,if_neg (by omega),show n-1-(vs.length:Int)=n-(vs.length+1) by omega]
 · have c3:((Tm.mk k s n l).k==3)=false:=by simpa [Tm.k] using h3
   rw [if_neg (by rw [c3];simp),leaf _ _ _ _ h5 h6];unfold z1g;rw [if_neg (fun e=>by rw [c3] at e;cases e.1),if_neg (fun e=>by rw [c3] at e;cases e.1)]
mutual
def bare3:Tm→Prop
 | .mk k s _ l=>(k=3→s=[]∧l=[])∧zh4 l
def zh4:List Tm→Prop
 | []=>True
 | t::l=>bare3 t∧zh4 l
end
mutual
theorem z7y:∀ t:Tm,validB t=true→bare3 t
 | .mk k s n l,h=>by
  refine ⟨fun e=> ?_, ?_⟩
  · subst e;exact ⟨(zcq.1 h).2.2.1,(zcq.1 h).2.2.2⟩
  · by_cases h56:k=5∨k=6
    · exact zas l fun u hu=>z3e h h56 u hu
    · have:l=[]:=okB0 (z0f _ h) (fun e=>h56 (.inl e)) (fun e=>h56 (.inr e));subst this;trivial
theorem zas:∀ l:List Tm,(∀ u∈l,validB u=true)→zh4 l
 | [],_=>trivial
 | t::l,h=>⟨z7y t (h t List.mem_cons_self),zas l fun u hu=>h u (List.mem_cons_of_mem _ hu)⟩
end
mutual
theorem zqz (vs:List Int)(v:Int):∀ (t:Tm) (d:Int),bare3 t→z0a (z1g vs) (z0a (z1z 0 (vN4 v)) t d) d=z0a (z1g (vs++ [v])) t d
 | .mk k s n l,d,h=>by
  by_cases hk:(k==5||k==6)=true
  · rw [z1o _ (fun u d _ h6=>zik 0 v u d h6) k s n l d hk,z1o _ (fun u d _ h6=>z8o vs u d h6) _ _ _ _ _ hk,z1o _ (fun u d _ h6=>z8o (vs++ [v]) u d h6) _ _ _ _ _ hk,zkt vs v l _ h.2]
  · have h5:k≠5:=fun e=>hk (by rw [e];rfl);have h6:k≠6:=fun e=>hk (by rw [e];rfl);rw [z3q _ k s n l d (by simpa using hk),z3q _ k s n l d (by simpa using hk)];exact op_leaf vs v _ d h.1 h5 h6
theorem zkt (vs:List Int)(v:Int):∀ (l:List Tm) (d:Int),zh4 l→z08 (z1g vs) (z08 (z1z 0 (vN4 v)) l d) d=z08 (z1g (vs++ [v])) l d
 | [],_,_=>rfl
 | t::l,d,h=>by rw [z08,z08,z08,zqz vs v t d h.1,zkt vs v l d h.2]
end
theorem zh7 (vs:List Int)(v:Int)(t:Tm)(hv:validB t=true):openG vs (suT 0 (vN4 v) t 0)=openG (vs++ [v]) t:=zqz vs v t 0 (z7y t hv)
mutual
theorem zq4:∀ (t:Tm) (d:Int),bare3 t→z0a (z1g []) t d=t
 | .mk k s n l,d,h=>by
  by_cases hk:(k==5||k==6)=true
  · rw [z1o _ (fun u d _ h6=>z8o [] u d h6) k s n l d hk,zkk l _ h.2]
  · rw [z3q _ k s n l d (by simpa using hk)];unfold z1g;split
    · rename_i h3;have h3k:k=3:=by simpa [Tm.k] using h3.1
      subst h3k;obtain ⟨rfl,rfl⟩:=h.1 rfl;have:d≤n:=h3.2;exact (if_neg (show¬n<d+(([]:List Int).length:Int) by simp only [List.length_nil];omega)).trans (by rw [show (Tm.mk 3 [] n []).n-(([]:List Int).length:Int)=n by show n-((0:Nat):Int)=n;omega])
    · rfl
theorem zkk:∀ (l:List Tm) (d:Int),zh4 l→z08 (z1g []) l d=l
 | [],_,_=>rfl
 | t::l,d,h=>by rw [z08,zq4 t d h.1,zkk l d h.2]
end
theorem zkx (t:Tm)(hv:validB t=true):openG [] t=t:=zq4 t 0 (z7y t hv)
theorem valid4 {s:List UInt8}{n:Int}{l:List Tm}:validB (.mk 4 s n l)=true↔0≤n∧n≤4611686018427387904∧s=[]∧l=[]:=by
 rw [validB,lenI];simp only [show ((4:Int)==0)=false from rfl,show ((4:Int)==1)=false from rfl,show ((4:Int)==2)=false from rfl,show ((4:Int)==3)=false from rfl,Bool.false_eq_true,if_false,show ((4:Int)==4)=true from rfl,if_true];simp only [Bool.and_eq_true,decide_eq_true_eq,beq_iff_eq];constructor
 · rintro ⟨⟨⟨⟨h1,h2⟩,h3⟩,h4⟩,_⟩;exact ⟨h1,h2,h3,List.eq_nil_of_length_eq_zero (by omega)⟩
 · rintro ⟨h1,h2,h3,rfl⟩;exact ⟨⟨⟨⟨h1,h2⟩,h3⟩,rfl⟩,rfl⟩
def VR (vs:List Int):Prop:=vs.length≤1000000∧∀ v∈vs,0≤v∧v≤4611686018427387904
theorem zg9 {v:Int}(h0:0≤v)(h1:v≤4611686018427387904):validB (vN4 v)=true:=valid4.2 ⟨h0,h1,rfl,rfl⟩
theorem zgy (M v:Int):bd M (vN4 v):=⟨fun e=>absurd e (by show¬(4:Int)=3;omega),trivial⟩
theorem zfh {M v:Int}{t:Tm}(hv:validB t=true)(h0:0≤v)(h1:v≤4611686018427387904)(hz:t.sz≤1000000):validB (suT 0 (vN4 v) t 0)=true:=by
 have hx:=zg9 h0 h1;rw [z4n,Bool.and_eq_true];exact ⟨suT_ok 0 (z0f _ hx) (z0f _ hv),suT_lv (M:=0) (D:=t.sz) (Int.le_refl 0) (by omega) (zgy 0 v) (z9v hx) (z9v hv) 0 (Int.le_refl 0) (by omega)⟩
theorem suV_sz (v:Int)(t:Tm):(suT 0 (vN4 v) t 0).sz≤t.sz:=by
 have:=zpl (b:=fun _ _=>1) (fun _=>Nat.le_refl _) 0 v t 0;rw [zg0,zg0] at this;exact this
theorem suV_bd {M v:Int}{t:Tm}(hM:(t.sz:Int)≤M)(hb:bd M t):bd M (suT 0 (vN4 v) t 0):=
 suT_bd (M':=0) (D:=t.sz) (vN4 v) t 0 hb (zgy 0 v) (by omega) (Int.le_refl 0) (by omega) (Int.le_refl 0) (by omega)
abbrev byV (vs:List Int):List Tm:=vs.map vN4
theorem c_backT (l:List Tm):AC Tryz.prog 97 [aL l] [] (.c (.fn (.func 131) [] [(false,[.ep 0 1 0 0])])) [.arr 1 [[.a (.fz (.sl false 4 (FTs l)))]]]:=by
 refine AC.vc hP sh lv97 (by simp) (by simp) (by simp [isLive]) (Eq.mpr (v97 ..) ?_);exact ⟨.refl _,rfl⟩
theorem isBkT:IsBk Tryz.prog 131 23 25:=⟨by kernel_rfl,_,135,3,4,Tryz.func131,by kernel_rfl,by kernel_rfl,by kernel_rfl⟩
theorem bTyT:zov Tryz.prog 23 25 4=true:=by kernel_rfl
abbrev hpOp (vs:List Int)(t:Tm):AHeap:=[(0, .arr 1 [[.a (.fz (.sl false 4 (FTs (byV vs))))]]),(1, .arr 4 [cT t]),(2, .arr 4 [[.a (.fz (.int .i64 0)), .a (.fz (.str [])), .a (.fz (.int .i64 0)), .a (.fz .N)]]),(3, .arr 1 [[.a (.fz (.sl false 4 (FTs (byV vs))))]])]
theorem zk7 (vs:List Int)(hR:VR vs)(t:Tm)(hv:validB t=true)(hz:t.sz≤1000000)(hb:bd 1000000000000 t):AC Tryz.prog 96 [aT t, .c (.a (.ep 0 1 0 0))] [.arr 1 [[.a (.fz (.sl false 4 (FTs (byV vs))))]]] (aT (openG vs t)) [.arr 1 [[.a (.fz (.sl false 4 (FTs (byV vs))))]]]:=by
 refine AC.vc hP sh lv96 (by simp) (by simp [isLive]) (by simp) (Eq.mpr (v96 t.k t.s t.n (FTs t.l) ..) ?_);refine ⟨byV vs,c_backT (byV vs), ?_⟩;have hlen:(byV vs).length=vs.length:=by simp [byV]
 have hl:=hR.1
 refine RPt.backF (sh:=sh) (lv:=lv96) (α:=Nat×Tm) (Inv:=fun x=>x.1≤vs.length∧validB x.2=true∧x.2.sz≤1000000∧bd 1000000000000 x.2∧openG (vs.take x.1) x.2=openG vs t) (idx:=fun x=>x.1) (nx:=fun _=>4) (m0:=4) (U:=[]) (live:=[2,3,7]) (oc:=3) (n:=4) (es:=FTs (byV vs)) (x0:=(vs.length,t)) (g:= .tmp 7) (env:=[(2, .c (.a (.ep 1 4 0 0))),(3, .c (.a (.ep 2 4 0 0))),(7, .c (.fn (.func 131) [] [(false,[.ep 3 1 0 0])]))])
  (H:=fun x=>hpOp vs x.2) hP (by kernel_rfl) isBkT bTyT ?_ (by kernel_rfl) (by kernel_rfl) (by kernel_rfl) (by kernel_rfl) (fun _ _=>by omega) (fun _ _=>rfl) (fun e he=> ?_) (by rw [z02,hlen];omega) (fun x hx=>by rw [z02,hlen];exact hx.1) (fun x k hx hxk hk=> ?_) ⟨Nat.le_refl _,hv,hz,hb,by rw [List.take_of_length_le (Nat.le_refl _)]⟩ (by rw [z02,hlen]) (fun x hx h0=> ?_)
 · refine Eq.mpr (v96_1an ..) ?_;rfl
 · rw [z2h] at he;obtain ⟨u,_,rfl⟩:=List.mem_map.1 he;exact z3h u
 · obtain ⟨i,u⟩:=x;have hik:i=k+1:=hxk;subst hik;obtain ⟨h1,h2,h3,h4,h5⟩:=hx;simp only at h1 h2 h3 h4 h5;have hk':k<vs.length:=by omega
   have hvk:=hR.2 vs[k] (List.getElem_mem hk');have ef:List.getD (FTs (byV vs)) k []=FT (vN4 vs[k]):=by rw [z2h];simp [byV,List.getD,hk']
   rw [ef];have c1:=za5 (vN4 vs[k]) 0 k (by show 1≤B;simp only [B];omega) (zgy _ _) (by omega) (by simp only [M61];omega) (by omega) (by simp only [M61];omega);have c2:=zqw u (vN4 vs[k]) 0 (by show 1≤B;simp only [B];omega) (by show u.sz+nd u*1≤B;have:=nd_sz u;simp only [B];omega) (z46 (by simp only [M61];omega) _ h4) (zgy _ _) (by omega) (by simp only [M61];omega);refine Eq.mpr (v96_1ara ..) ?_;refine ⟨vN4 vs[k],c1,suT 0 (vN4 vs[k]) u 0,c2,(k,suT 0 (vN4 vs[k]) u 0),⟨⟨by show k≤vs.length;omega,zfh (M:=0) h2 hvk.1 hvk.2 h3,by have:=suV_sz vs[k] u;show (suT 0 (vN4 vs[k]) u 0).sz≤_;omega,suV_bd (by omega) h4, ?_⟩,rfl⟩,rfl,rfl⟩;show openG (vs.take k) (suT 0 (vN4 vs[k]) u 0)=_;rw [zh7 _ _ _ h2,←h5,List.take_succ_eq_append_getElem hk']
 · obtain ⟨i,u⟩:=x;have h0:i=0:=h0;subst h0;obtain ⟨_,h2,_,_,h5⟩:=hx;simp only [List.take_zero] at h5 h2;refine Eq.mpr (v96_1aza ..) ?_;rw [zkx u h2] at h5;rw [←h5];exact ⟨.refl _,rfl⟩
end Go.AM
