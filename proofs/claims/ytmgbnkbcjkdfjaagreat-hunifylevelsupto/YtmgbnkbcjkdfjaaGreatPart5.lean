/- Contracts of the code's functions over plain values, and plain laws: part 5. No conditions. -/
import Derived.Test.YtmgbnkbcjkdfjaaGreatPart4
import Derived.Test.YtmgbnkbcjkdfjaaGreatPart2
import Derived.Test.YtmgbnkbcjkdfjaaGreatShelf
set_option maxRecDepth 100000
open Go Go.Proofs
namespace Go.AM
open List (getD length take drop)
open Int (toNat)
def zrg:List (Nat×List Nat):=[(3,[2,3,6,12,81,82,83]),(1000001,[2,3,4,6])]
theorem v249 (v_1 v_2:Int)(h:RW)(a k:Int)(i:Nat)(m:Int)(o1_0l o1_1l:Nat)(o1_2 o1_3:Int)(j:Nat)(o2 o3 o4:RW)(p:List MapZ)(q:RW)(r:TV)(g:List AObj):VE zrg 249 7 r g [.agg (Q187 0 3 0 0 v_1 v_2 4 h),Q31 a,Q31 k] (Q196 3 1 6 0 0 6 2 0 i m 2 o1_0l 3 o1_1l o1_2 o1_3 4 j o2 o3 o4 p 2 q)=
  (∃ b:Int×List Int×Int×Int×Int×Int×Int×Int×Wk,((Q142 182 0 3 0 0 a (Q196 3 1 6 0 0 6 2 0 i m 2 o1_0l 3 o1_1l o1_2 o1_3 4 j o2 o3 o4 p 2 q) (Q126 (Q135 b.1 1 (IR b.2.1) b.2.2.1 b.2.2.2.1 b.2.2.2.2.1 b.2.2.2.2.2.1 b.2.2.2.2.2.2.1) b.2.2.2.2.2.2.2.1) (Q195 3 1 6 0 0 2 0 b.2.2.2.2.2.2.2.2.n b.2.2.2.2.2.2.2.2.f 7 (length b.2.2.2.2.2.2.2.2.s.C) 8 (length b.2.2.2.2.2.2.2.2.s.T) b.2.2.2.2.2.2.2.2.s.M b.2.2.2.2.2.2.2.2.s.L 9 (length b.2.2.2.2.2.2.2.2.s.N) (NM b.2.2.2.2.2.2.2.2.s.N 0) (CR b.2.2.2.2.2.2.2.2.s.C) (TR b.2.2.2.2.2.2.2.2.s.T) (NR b.2.2.2.2.2.2.2.2.s.N) 2 b.2.2.2.2.2.2.2.2.R))∧(br ((b.2.2.2.2.2.2.2.1:Int) !=(0:Int)) (RT (Q126 (Q101 0 [] 0) b.2.2.2.2.2.2.2.1) (Q195 3 1 6 0 0 2 0 b.2.2.2.2.2.2.2.2.n b.2.2.2.2.2.2.2.2.f 7 (length b.2.2.2.2.2.2.2.2.s.C) 8 (length b.2.2.2.2.2.2.2.2.s.T) b.2.2.2.2.2.2.2.2.s.M b.2.2.2.2.2.2.2.2.s.L 9 (length b.2.2.2.2.2.2.2.2.s.N) (NM b.2.2.2.2.2.2.2.2.s.N 0) (CR b.2.2.2.2.2.2.2.2.s.C) (TR b.2.2.2.2.2.2.2.2.s.T) (NR b.2.2.2.2.2.2.2.2.s.N) 2 b.2.2.2.2.2.2.2.2.R) r g) (br ((b.2.2.1:Int)==(6:Int)) (∃ c:Tm×Int×Wk,((Q19 249 [.agg (Q187 0 3 0 0 v_1 v_2 4 h),Q31 b.2.2.2.1,Q31 (IntKind.wrap .i64 (k+1))] (Q196 3 1 6 0 0 6 2 0 b.2.2.2.2.2.2.2.2.n b.2.2.2.2.2.2.2.2.f 2 (length b.2.2.2.2.2.2.2.2.s.C) 3 (length b.2.2.2.2.2.2.2.2.s.T) b.2.2.2.2.2.2.2.2.s.M b.2.2.2.2.2.2.2.2.s.L 4 (length b.2.2.2.2.2.2.2.2.s.N) (CR b.2.2.2.2.2.2.2.2.s.C) (TR b.2.2.2.2.2.2.2.2.s.T) (NR b.2.2.2.2.2.2.2.2.s.N) (NM b.2.2.2.2.2.2.2.2.s.N 0) 2 b.2.2.2.2.2.2.2.2.R) (Q126 (cT c.1) c.2.1) (Q195 3 1 6 0 0 2 0 c.2.2.n c.2.2.f 7 (length c.2.2.s.C) 8 (length c.2.2.s.T) c.2.2.s.M c.2.2.s.L 9 (length c.2.2.s.N) (NM c.2.2.s.N 0) (CR c.2.2.s.C) (TR c.2.2.s.T) (NR c.2.2.s.N) 2 c.2.2.R))∧(∃ t:Tm,((Q189 59 [Q31 1,(aT c.1)] (aT t))∧(RT (Q126 (cT t) c.2.1) (Q195 3 1 6 0 0 2 0 c.2.2.n c.2.2.f 7 (length c.2.2.s.C) 8 (length c.2.2.s.T) c.2.2.s.M c.2.2.s.L 9 (length c.2.2.s.N) (NM c.2.2.s.N 0) (CR c.2.2.s.C) (TR c.2.2.s.T) (NR c.2.2.s.N) 2 c.2.2.R) r g))))) (∃ u:Bool,((Q193 184 [Q150 b.1 1 (IR b.2.1) b.2.2.1 b.2.2.2.1 b.2.2.2.2.1 b.2.2.2.2.2.1 b.2.2.2.2.2.2.1] u)∧(br u (br ((b.1:Int)==v_1) (RT (Q126 (Q101 0 [] 0) 170) (Q195 3 1 6 0 0 2 0 b.2.2.2.2.2.2.2.2.n b.2.2.2.2.2.2.2.2.f 7 (length b.2.2.2.2.2.2.2.2.s.C) 8 (length b.2.2.2.2.2.2.2.2.s.T) b.2.2.2.2.2.2.2.2.s.M b.2.2.2.2.2.2.2.2.s.L 9 (length b.2.2.2.2.2.2.2.2.s.N) (NM b.2.2.2.2.2.2.2.2.s.N 0) (CR b.2.2.2.2.2.2.2.2.s.C) (TR b.2.2.2.2.2.2.2.2.s.T) (NR b.2.2.2.2.2.2.2.2.s.N) 2 b.2.2.2.2.2.2.2.2.R) r g) (∃ v:Bool,((Q193 184 [Q150 b.1 1 (IR b.2.1) b.2.2.1 b.2.2.2.1 b.2.2.2.2.1 b.2.2.2.2.2.1 b.2.2.2.2.2.2.1] v)∧(br v (∃ d:Tm×Int×Wk,((Q19 297 [.agg (Q187 0 3 0 0 v_1 v_2 4 h),Q150 b.1 1 (IR b.2.1) b.2.2.1 b.2.2.2.1 b.2.2.2.2.1 b.2.2.2.2.2.1 b.2.2.2.2.2.2.1,Q31 k] (Q196 3 1 6 0 0 6 2 0 b.2.2.2.2.2.2.2.2.n b.2.2.2.2.2.2.2.2.f 2 (length b.2.2.2.2.2.2.2.2.s.C) 3 (length b.2.2.2.2.2.2.2.2.s.T) b.2.2.2.2.2.2.2.2.s.M b.2.2.2.2.2.2.2.2.s.L 4 (length b.2.2.2.2.2.2.2.2.s.N) (CR b.2.2.2.2.2.2.2.2.s.C) (TR b.2.2.2.2.2.2.2.2.s.T) (NR b.2.2.2.2.2.2.2.2.s.N) (NM b.2.2.2.2.2.2.2.2.s.N 0) 2 b.2.2.2.2.2.2.2.2.R) (Q126 (cT d.1) d.2.1) (Q195 3 1 6 0 0 2 0 d.2.2.n d.2.2.f 7 (length d.2.2.s.C) 8 (length d.2.2.s.T) d.2.2.s.M d.2.2.s.L 9 (length d.2.2.s.N) (NM d.2.2.s.N 0) (CR d.2.2.s.C) (TR d.2.2.s.T) (NR d.2.2.s.N) 2 d.2.2.R))∧(RT (Q126 (cT d.1) d.2.1) (Q195 3 1 6 0 0 2 0 d.2.2.n d.2.2.f 7 (length d.2.2.s.C) 8 (length d.2.2.s.T) d.2.2.s.M d.2.2.s.L 9 (length d.2.2.s.N) (NM d.2.2.s.N 0) (CR d.2.2.s.C) (TR d.2.2.s.T) (NR d.2.2.s.N) 2 d.2.2.R) r g))) (∃ o:Tm×Bool,((Q19 298 [.agg (Q187 0 3 0 0 v_1 v_2 4 h),Q150 b.1 1 (IR b.2.1) b.2.2.1 b.2.2.2.1 b.2.2.2.2.1 b.2.2.2.2.2.1 b.2.2.2.2.2.2.1,Q31 k] (Q196 3 1 6 0 0 6 2 0 b.2.2.2.2.2.2.2.2.n b.2.2.2.2.2.2.2.2.f 2 (length b.2.2.2.2.2.2.2.2.s.C) 3 (length b.2.2.2.2.2.2.2.2.s.T) b.2.2.2.2.2.2.2.2.s.M b.2.2.2.2.2.2.2.2.s.L 4 (length b.2.2.2.2.2.2.2.2.s.N) (CR b.2.2.2.2.2.2.2.2.s.C) (TR b.2.2.2.2.2.2.2.2.s.T) (NR b.2.2.2.2.2.2.2.2.s.N) (NM b.2.2.2.2.2.2.2.2.s.N 0) 2 b.2.2.2.2.2.2.2.2.R) (Q147 (cT o.1) o.2) (Q196 3 1 6 0 0 6 2 0 b.2.2.2.2.2.2.2.2.n b.2.2.2.2.2.2.2.2.f 2 (length b.2.2.2.2.2.2.2.2.s.C) 3 (length b.2.2.2.2.2.2.2.2.s.T) b.2.2.2.2.2.2.2.2.s.M b.2.2.2.2.2.2.2.2.s.L 4 (length b.2.2.2.2.2.2.2.2.s.N) (CR b.2.2.2.2.2.2.2.2.s.C) (TR b.2.2.2.2.2.2.2.2.s.T) (NR b.2.2.2.2.2.2.2.2.s.N) (NM b.2.2.2.2.2.2.2.2.s.N 0) 2 b.2.2.2.2.2.2.2.2.R))∧(br (!o.2) (RT (Q126 (Q101 0 [] 0) 170) (Q195 3 1 6 0 0 2 0 b.2.2.2.2.2.2.2.2.n b.2.2.2.2.2.2.2.2.f 7 (length b.2.2.2.2.2.2.2.2.s.C) 8 (length b.2.2.2.2.2.2.2.2.s.T) b.2.2.2.2.2.2.2.2.s.M b.2.2.2.2.2.2.2.2.s.L 9 (length b.2.2.2.2.2.2.2.2.s.N) (NM b.2.2.2.2.2.2.2.2.s.N 0) (CR b.2.2.2.2.2.2.2.2.s.C) (TR b.2.2.2.2.2.2.2.2.s.T) (NR b.2.2.2.2.2.2.2.2.s.N) 2 b.2.2.2.2.2.2.2.2.R) r g) ((FV.L 1 (Q9 1 (IR b.2.1))=true)∧(Q98 249 7 r g 3 [Q29 2 k,Q151 3 11,Q151 6 12,Q151 12 13,Q68 81 1 (IR b.2.1),Q29 82 (length (IR b.2.1):Int),Q29 83 0] [Q177 3 1 6 0 0 10 2 0 b.2.2.2.2.2.2.2.2.n b.2.2.2.2.2.2.2.2.f,Q165 7 (length b.2.2.2.2.2.2.2.2.s.C) 8 (length b.2.2.2.2.2.2.2.2.s.T) b.2.2.2.2.2.2.2.2.s.M b.2.2.2.2.2.2.2.2.s.L 9 (length b.2.2.2.2.2.2.2.2.s.N),Q160,Q161,Q179,Q170 (NM b.2.2.2.2.2.2.2.2.s.N 0),Q21 6,Q144 7 (CR b.2.2.2.2.2.2.2.2.s.C),Q141 8 (TR b.2.2.2.2.2.2.2.2.s.T),Q119 9 (NR b.2.2.2.2.2.2.2.2.s.N),Q17 10 2 b.2.2.2.2.2.2.2.2.R,Q48 11 4 (Q187 0 3 0 0 v_1 v_2 4 h),Q121 12 4 0 [] 0,Q48 13 4 (cT o.1)] 14))))))))) (∃ w:Bool,((Q193 184 [Q150 b.1 1 (IR b.2.1) b.2.2.1 b.2.2.2.1 b.2.2.2.2.1 b.2.2.2.2.2.1 b.2.2.2.2.2.2.1] w)∧(br w (∃ e:Tm×Int×Wk,((Q19 297 [.agg (Q187 0 3 0 0 v_1 v_2 4 h),Q150 b.1 1 (IR b.2.1) b.2.2.1 b.2.2.2.1 b.2.2.2.2.1 b.2.2.2.2.2.1 b.2.2.2.2.2.2.1,Q31 k] (Q196 3 1 6 0 0 6 2 0 b.2.2.2.2.2.2.2.2.n b.2.2.2.2.2.2.2.2.f 2 (length b.2.2.2.2.2.2.2.2.s.C) 3 (length b.2.2.2.2.2.2.2.2.s.T) b.2.2.2.2.2.2.2.2.s.M b.2.2.2.2.2.2.2.2.s.L 4 (length b.2.2.2.2.2.2.2.2.s.N) (CR b.2.2.2.2.2.2.2.2.s.C) (TR b.2.2.2.2.2.2.2.2.s.T) (NR b.2.2.2.2.2.2.2.2.s.N) (NM b.2.2.2.2.2.2.2.2.s.N 0) 2 b.2.2.2.2.2.2.2.2.R) (Q126 (cT e.1) e.2.1) (Q195 3 1 6 0 0 2 0 e.2.2.n e.2.2.f 7 (length e.2.2.s.C) 8 (length e.2.2.s.T) e.2.2.s.M e.2.2.s.L 9 (length e.2.2.s.N) (NM e.2.2.s.N 0) (CR e.2.2.s.C) (TR e.2.2.s.T) (NR e.2.2.s.N) 2 e.2.2.R))∧(RT (Q126 (cT e.1) e.2.1) (Q195 3 1 6 0 0 2 0 e.2.2.n e.2.2.f 7 (length e.2.2.s.C) 8 (length e.2.2.s.T) e.2.2.s.M e.2.2.s.L 9 (length e.2.2.s.N) (NM e.2.2.s.N 0) (CR e.2.2.s.C) (TR e.2.2.s.T) (NR e.2.2.s.N) 2 e.2.2.R) r g))) (∃ l:Tm×Bool,((Q19 298 [.agg (Q187 0 3 0 0 v_1 v_2 4 h),Q150 b.1 1 (IR b.2.1) b.2.2.1 b.2.2.2.1 b.2.2.2.2.1 b.2.2.2.2.2.1 b.2.2.2.2.2.2.1,Q31 k] (Q196 3 1 6 0 0 6 2 0 b.2.2.2.2.2.2.2.2.n b.2.2.2.2.2.2.2.2.f 2 (length b.2.2.2.2.2.2.2.2.s.C) 3 (length b.2.2.2.2.2.2.2.2.s.T) b.2.2.2.2.2.2.2.2.s.M b.2.2.2.2.2.2.2.2.s.L 4 (length b.2.2.2.2.2.2.2.2.s.N) (CR b.2.2.2.2.2.2.2.2.s.C) (TR b.2.2.2.2.2.2.2.2.s.T) (NR b.2.2.2.2.2.2.2.2.s.N) (NM b.2.2.2.2.2.2.2.2.s.N 0) 2 b.2.2.2.2.2.2.2.2.R) (Q147 (cT l.1) l.2) (Q196 3 1 6 0 0 6 2 0 b.2.2.2.2.2.2.2.2.n b.2.2.2.2.2.2.2.2.f 2 (length b.2.2.2.2.2.2.2.2.s.C) 3 (length b.2.2.2.2.2.2.2.2.s.T) b.2.2.2.2.2.2.2.2.s.M b.2.2.2.2.2.2.2.2.s.L 4 (length b.2.2.2.2.2.2.2.2.s.N) (CR b.2.2.2.2.2.2.2.2.s.C) (TR b.2.2.2.2.2.2.2.2.s.T) (NR b.2.2.2.2.2.2.2.2.s.N) (NM b.2.2.2.2.2.2.2.2.s.N 0) 2 b.2.2.2.2.2.2.2.2.R))∧(br (!l.2) (RT (Q126 (Q101 0 [] 0) 170) (Q195 3 1 6 0 0 2 0 b.2.2.2.2.2.2.2.2.n b.2.2.2.2.2.2.2.2.f 7 (length b.2.2.2.2.2.2.2.2.s.C) 8 (length b.2.2.2.2.2.2.2.2.s.T) b.2.2.2.2.2.2.2.2.s.M b.2.2.2.2.2.2.2.2.s.L 9 (length b.2.2.2.2.2.2.2.2.s.N) (NM b.2.2.2.2.2.2.2.2.s.N 0) (CR b.2.2.2.2.2.2.2.2.s.C) (TR b.2.2.2.2.2.2.2.2.s.T) (NR b.2.2.2.2.2.2.2.2.s.N) 2 b.2.2.2.2.2.2.2.2.R) r g) ((FV.L 1 (Q9 1 (IR b.2.1))=true)∧(Q98 249 7 r g 3 [Q29 2 k,Q151 3 11,Q151 6 12,Q151 12 13,Q68 81 1 (IR b.2.1),Q29 82 (length (IR b.2.1):Int),Q29 83 0] [Q177 3 1 6 0 0 10 2 0 b.2.2.2.2.2.2.2.2.n b.2.2.2.2.2.2.2.2.f,Q165 7 (length b.2.2.2.2.2.2.2.2.s.C) 8 (length b.2.2.2.2.2.2.2.2.s.T) b.2.2.2.2.2.2.2.2.s.M b.2.2.2.2.2.2.2.2.s.L 9 (length b.2.2.2.2.2.2.2.2.s.N),Q160,Q161,Q179,Q170 (NM b.2.2.2.2.2.2.2.2.s.N 0),Q21 6,Q144 7 (CR b.2.2.2.2.2.2.2.2.s.C),Q141 8 (TR b.2.2.2.2.2.2.2.2.s.T),Q119 9 (NR b.2.2.2.2.2.2.2.2.s.N),Q17 10 2 b.2.2.2.2.2.2.2.2.R,Q48 11 4 (Q187 0 3 0 0 v_1 v_2 4 h),Q121 12 4 0 [] 0,Q48 13 4 (cT l.1)] 14))))))))))))))):=by kernel_rfl
theorem zr2 (p:Int)(c:RW)(x82 b:Int)(d:Nat)(k:Int)(h1_0l h1_1l:Nat)(h1_2 h1_3:Int)(e:Nat)(q:List MapZ)(h7 h8 h9 h10:RW)(h11_1 h11_2:Int)(g:RW)(l:Int)(m:List UInt8)(h12_2 h13_0:Int)(h:List UInt8)(i:Int)(j:RW)(r:TV)(o:List AObj):VQ zrg 249 7 r o 3 ⟨[Q29 2 p,Q151 3 11,Q151 6 12,Q151 12 13,Q68 81 1 c,Q29 82 x82,Q29 83 b],[Q177 3 1 6 0 0 10 2 0 d k,Q165 7 h1_0l 8 h1_1l h1_2 h1_3 9 e,Q160,Q161,Q179,Q170 q,Q21 6,Q144 7 h7,Q141 8 h8,Q119 9 h9,Q17 10 2 h10,Q48 11 4 (Q187 0 3 0 0 h11_1 h11_2 4 g),Q121 12 4 l m h12_2,Q173 13 4 h13_0 h i 4 j],14⟩=
  (br (decide ((b:Int)<x82)) (((FV.L 1 (Q9 1 c)=true)∧((0≤b)∧((b<(length c:Int))∧(([(Q64 (FV.I (getD (getD c (toNat b) []) 0 FV.N)))]:List FV)=(getD c (toNat b) [])))))∧(∃ a:Tm×Int×Wk,((Q19 249 [.agg (Q187 0 3 0 0 h11_1 h11_2 4 g),Q31 (FV.I (getD (getD c (toNat b) []) 0 FV.N)),Q31 p] (Q196 3 1 6 0 0 6 2 0 d k 2 h1_0l 3 h1_1l h1_2 h1_3 4 e h7 h8 h9 q 2 h10) (Q126 (cT a.1) a.2.1) (Q195 3 1 6 0 0 2 0 a.2.2.n a.2.2.f 7 (length a.2.2.s.C) 8 (length a.2.2.s.T) a.2.2.s.M a.2.2.s.L 9 (length a.2.2.s.N) (NM a.2.2.s.N 0) (CR a.2.2.s.C) (TR a.2.2.s.T) (NR a.2.2.s.N) 2 a.2.2.R))∧(br ((a.2.1:Int) !=(0:Int)) (RT (Q126 (Q101 0 [] 0) a.2.1) (Q195 3 1 6 0 0 2 0 a.2.2.n a.2.2.f 7 (length a.2.2.s.C) 8 (length a.2.2.s.T) a.2.2.s.M a.2.2.s.L 9 (length a.2.2.s.N) (NM a.2.2.s.N 0) (CR a.2.2.s.C) (TR a.2.2.s.T) (NR a.2.2.s.N) 2 a.2.2.R) r o) (((4:Nat)=4∧1≤1)∧(∃ t:Tm,((Q189 60 [Q171 h13_0 h i j,Q123 4 [(FT4 a.1)]] (aT t))∧(Q98 249 7 r o 3 [Q29 2 p,Q151 3 11,Q151 6 12,Q151 12 13,Q68 81 1 c,Q29 82 x82,Q29 83 (IntKind.wrap .i64 (b+1))] [Q177 3 1 6 0 0 10 2 0 a.2.2.n a.2.2.f,Q165 7 (length a.2.2.s.C) 8 (length a.2.2.s.T) a.2.2.s.M a.2.2.s.L 9 (length a.2.2.s.N),Q160,Q161,Q179,Q170 (NM a.2.2.s.N 0),Q21 6,Q144 7 (CR a.2.2.s.C),Q141 8 (TR a.2.2.s.T),Q119 9 (NR a.2.2.s.N),Q17 10 2 a.2.2.R,Q48 11 4 (Q187 0 3 0 0 h11_1 h11_2 4 g),Q121 12 4 l m h12_2,Q48 13 4 (cT t)] 14)))))))) (RT (Q126 (Q65 h13_0 h i 4 j) 0) (Q195 3 1 6 0 0 2 0 d k 7 h1_0l 8 h1_1l h1_2 h1_3 9 e q h7 h8 h9 2 h10) r o)):=by kernel_rfl
def lv250:List (Nat×List Nat):=[(1000001,[2,3,4,6])]
theorem v250 (x t_0:Int)(h:List UInt8)(i:Int)(j:RW)(d:Nat)(e:Int)(o1_0l o1_1l:Nat)(o1_2 o1_3:Int)(f:Nat)(o2 o3 o4:RW)(l:List MapZ)(k:RW)(r:TV)(g:List AObj):VE lv250 250 7 r g (Q111 0 3 0 0 (Q31 x) (Q171 t_0 h i j)) (Q196 3 1 6 0 0 6 2 0 d e 2 o1_0l 3 o1_1l o1_2 o1_3 4 f o2 o3 o4 l 2 k)=
  (∃ a:(Int×Int)×Hp,((Q145 58 0 6 0 0 (Q171 t_0 h i j) (.c Q51) (Q158 o1_0l o1_1l o1_2 o1_3 f o2 o3 o4 l) (Q70 a.1.1 a.1.2) (Q83 5 (length a.2.C) 6 (length a.2.T) a.2.M a.2.L 7 (length a.2.N) 4 (NM a.2.N 0) (CR a.2.C) (TR a.2.T) (NR a.2.N)))∧(br ((a.1.2:Int) !=(0:Int)) (Q114 a.1.2 (Q195 3 1 6 0 0 2 0 d e 7 (length a.2.C) 8 (length a.2.T) a.2.M a.2.L 9 (length a.2.N) (NM a.2.N 0) (CR a.2.C) (TR a.2.T) (NR a.2.N) 2 k) r g) (∃ b:Int×Hp,((Q145 26 0 6 0 0 (Q31 x) (Q127 5 a.1.1 0 0 0) (Q158 (length a.2.C) (length a.2.T) a.2.M a.2.L (length a.2.N) (CR a.2.C) (TR a.2.T) (NR a.2.N) (NM a.2.N 0)) (Q31 b.1) (Q83 5 (length b.2.C) 6 (length b.2.T) b.2.M b.2.L 7 (length b.2.N) 4 (NM b.2.N 0) (CR b.2.C) (TR b.2.T) (NR b.2.N)))∧(Q114 b.1 (Q195 3 1 6 0 0 2 0 d e 7 (length b.2.C) 8 (length b.2.T) b.2.M b.2.L 9 (length b.2.N) (NM b.2.N 0) (CR b.2.C) (TR b.2.T) (NR b.2.N) 2 k) r g)))))):=by kernel_rfl
def lv299:List (Nat×List Nat):=[(1,[0,1,2,6])]
theorem v299 (row j o0_1 o0_2:Int)(o1_0l o1_1l:Nat)(o1_2 o1_3:Int)(a:Nat)(o2 o3 o4:RW)(c:List MapZ)(r:TV)(b:List AObj):VE lv299 299 6 r b (Q111 0 3 0 0 (Q31 row) (Q31 j)) (Q120 3 1 6 0 0 o0_1 o0_2 2 o1_0l 3 o1_1l o1_2 o1_3 4 a o2 o3 o4 c)=
  (Q98 299 6 r b 1 [Q175 3,Q29 1 row,Q29 2 j,Q74 6 6 5] [Q139 (Q63 3 1 6 0 0 o0_1 o0_2),Q165 2 o1_0l 3 o1_1l o1_2 o1_3 4 a,Q144 2 o2,Q141 3 o3,Q119 4 o4,Q170 c,Q48 6 5 (Q88 0 0 0 0 0)] 7):=by kernel_rfl
theorem v299_1a (x1 i b h0_2:Int)(h1_0l h1_1l:Nat)(h1_2 h1_3:Int)(a:Nat)(h2 h3 h4:RW)(c:List MapZ)(h6_0 h6_1 h6_2 h6_3 h6_4:Int)(r:TV)(d:List AObj):VQ lv299 299 6 r d 1 ⟨[Q175 3,Q29 1 x1,Q29 2 i,Q74 6 6 5],[Q139 (Q63 3 1 6 0 0 b h0_2),Q165 2 h1_0l 3 h1_1l h1_2 h1_3 4 a,Q144 2 h2,Q141 3 h3,Q119 4 h4,Q170 c,Q48 6 5 (Q88 h6_0 h6_1 h6_2 h6_3 h6_4)],7⟩=
  (∃ h:Int,(∃ j:Int,(∃ k:Int,(∃ l:Int,(∃ m:Int,(∃ n:Bool,((Q142 30 0 6 0 0 x1 (Q158 h1_0l h1_1l h1_2 h1_3 a h2 h3 h4 c) (Q147 (Q88 h j k l m) n) (Q158 h1_0l h1_1l h1_2 h1_3 a h2 h3 h4 c))∧(br (!n) (∃ e:Int×Int×Int,((Q142 252 0 3 0 0 1 (Q120 3 1 6 0 0 b h0_2 2 h1_0l 3 h1_1l h1_2 h1_3 4 a h2 h3 h4 c) (Q31 e.1) (Q120 3 1 6 0 0 e.2.1 e.2.2 2 h1_0l 3 h1_1l h1_2 h1_3 4 a h2 h3 h4 c))∧(RT (Q147 (Q88 0 0 0 0 0) false) (Q120 3 1 6 0 0 e.2.1 e.2.2 2 h1_0l 3 h1_1l h1_2 h1_3 4 a h2 h3 h4 c) r d))) (br (decide ((h:Int)<(9:Int))) (∃ f:Int×Int×Int,((Q142 252 0 3 0 0 1 (Q120 3 1 6 0 0 b h0_2 2 h1_0l 3 h1_1l h1_2 h1_3 4 a h2 h3 h4 c) (Q31 f.1) (Q120 3 1 6 0 0 f.2.1 f.2.2 2 h1_0l 3 h1_1l h1_2 h1_3 4 a h2 h3 h4 c))∧(RT (Q147 (Q88 0 0 0 0 0) false) (Q120 3 1 6 0 0 f.2.1 f.2.2 2 h1_0l 3 h1_1l h1_2 h1_3 4 a h2 h3 h4 c) r d))) (br ((h:Int)==(9:Int)) (RT (Q147 (Q88 0 0 0 0 0) false) (Q120 3 1 6 0 0 b h0_2 2 h1_0l 3 h1_1l h1_2 h1_3 4 a h2 h3 h4 c) r d) (br ((i:Int)==(0:Int)) (RT (Q147 (Q88 h j k l m) true) (Q120 3 1 6 0 0 b h0_2 2 h1_0l 3 h1_1l h1_2 h1_3 4 a h2 h3 h4 c) r d) (br (decide ((b:Int)≤(0:Int))) (∃ g:Int×Int×Int,((Q142 252 0 3 0 0 80 (Q120 3 1 6 0 0 b h0_2 2 h1_0l 3 h1_1l h1_2 h1_3 4 a h2 h3 h4 c) (Q31 g.1) (Q120 3 1 6 0 0 g.2.1 g.2.2 2 h1_0l 3 h1_1l h1_2 h1_3 4 a h2 h3 h4 c))∧(RT (Q147 (Q88 0 0 0 0 0) false) (Q120 3 1 6 0 0 g.2.1 g.2.2 2 h1_0l 3 h1_1l h1_2 h1_3 4 a h2 h3 h4 c) r d))) (Q98 299 6 r d 1 [Q175 3,Q29 1 j,Q29 2 (IntKind.wrap .i64 (i-1)),Q74 6 6 5] [Q139 (Q63 3 1 6 0 0 (IntKind.wrap .i64 (b-1)) h0_2),Q165 2 h1_0l 3 h1_1l h1_2 h1_3 4 a,Q144 2 h2,Q141 3 h3,Q119 4 h4,Q170 c,Q48 6 5 (Q88 h6_0 h6_1 h6_2 h6_3 h6_4)] 7))))))))))))):=by kernel_rfl
def lv300:List (Nat×List Nat):=[(1000001,[2,3,4])]
theorem v300 (a i o0_1 o0_2:Int)(o1_0l o1_1l:Nat)(o1_2 o1_3:Int)(d:Nat)(o2 o3 o4:RW)(h:List MapZ)(r:TV)(g:List AObj):VE lv300 300 6 r g (Q111 0 3 0 0 (Q31 a) (Q31 i)) (Q120 3 1 6 0 0 o0_1 o0_2 2 o1_0l 3 o1_1l o1_2 o1_3 4 d o2 o3 o4 h)=
  (br ((i:Int)==(0:Int)) (Q114 a (Q162 3 1 6 0 0 o0_1 o0_2 6 o1_0l 7 o1_1l o1_2 o1_3 8 d h o2 o3 o4) r g) (∃ b:Int×Rd,((Q183 195 0 3 0 0 9 0 0 0 0 (Q120 3 1 6 0 0 o0_1 o0_2 2 o1_0l 3 o1_1l o1_2 o1_3 4 d o2 o3 o4 h) (Q31 b.1) (Q162 3 1 6 0 0 b.2.f b.2.e 6 (length b.2.s.C) 7 (length b.2.s.T) b.2.s.M b.2.s.L 8 (length b.2.s.N) (NM b.2.s.N 0) (CR b.2.s.C) (TR b.2.s.T) (NR b.2.s.N)))∧(∃ c:Int×Rd,((Q183 195 0 3 0 0 8 a b.1 0 i (Q120 3 1 6 0 0 b.2.f b.2.e 2 (length b.2.s.C) 3 (length b.2.s.T) b.2.s.M b.2.s.L 4 (length b.2.s.N) (CR b.2.s.C) (TR b.2.s.T) (NR b.2.s.N) (NM b.2.s.N 0)) (Q31 c.1) (Q162 3 1 6 0 0 c.2.f c.2.e 6 (length c.2.s.C) 7 (length c.2.s.T) c.2.s.M c.2.s.L 8 (length c.2.s.N) (NM c.2.s.N 0) (CR c.2.s.C) (TR c.2.s.T) (NR c.2.s.N)))∧(Q114 c.1 (Q162 3 1 6 0 0 c.2.f c.2.e 6 (length c.2.s.C) 7 (length c.2.s.T) c.2.s.M c.2.s.L 8 (length c.2.s.N) (NM c.2.s.N 0) (CR c.2.s.C) (TR c.2.s.T) (NR c.2.s.N)) r g)))))):=by kernel_rfl
def lv301:List (Nat×List Nat):=[]
theorem v301 (a:Int)(b:List UInt8)(c:Int)(d:RW)(i:Int)(r:TV)(e:List AObj):VE lv301 301 0 r e [Q171 a b c d,Q31 i] []=
  (∃ f:Bool,((Q193 36 [Q171 a b c d] f)∧(br (!f) (Q114 0 [] r e) (∃ g:Int,((Q189 315 [Q171 a b c d,Q31 i] (Q31 g))∧(Q114 g [] r e)))))):=by kernel_rfl
def zhc:List (Nat×List Nat):=[(1,[2,3,4,6,7,8,9,30,31,32])]
theorem zp (a:Int)(b:List UInt8)(c:Int)(d:RW)(k o0_0 o1_0:Int)(r:TV)(e:List AObj):VE zhc 304 2 r e [.agg [(.fn (.func 302) [] [(false,[(.ep 0 1 0 0)]),(false,[(.ep 1 1 0 0)])])],Q171 a b c d,Q31 k] [Q164 o0_0,Q164 o1_0]=
  (br ((a:Int) !=(5:Int)) (br ((a:Int) !=(6:Int)) (∃ h:Tm,((Q19 302 [Q171 a b c d,Q31 k,Q62 0 1 0 0,Q62 1 1 0 0] [Q164 o0_0,Q164 o1_0] (aT h) [Q164 o0_0,Q164 o1_0])∧(RT (aT h) [Q164 o0_0,Q164 o1_0] r e))) (∃ f:FV,(∃ i:Int,((Q189 133 [Q171 a b c d] (Q197 [Q4 f] i))∧((FV.L 4 f=true)∧(Q98 304 2 r e 1 [Q29 2 k,Q74 3 2 1,Q151 4 3,Q151 6 4,Q8 7 (Q4 f),Q29 8 i,Q154 9,Q8 30 (Q4 f),Q29 31 (length (FV.ses f):Int),Q29 32 0] [Q48 0 1 (Q44 o0_0),Q48 1 1 (Q44 o1_0),Q48 2 1 [(.fn (.func 302) [] [(false,[(.ep 0 1 0 0)]),(false,[(.ep 1 1 0 0)])])],Q173 3 4 a b c 4 d,Q121 4 4 0 [] 0] 5)))))) (∃ g:FV,(∃ j:Int,((Q189 133 [Q171 a b c d] (Q197 [Q4 g] j))∧((FV.L 4 g=true)∧(Q98 304 2 r e 1 [Q29 2 k,Q74 3 2 1,Q151 4 3,Q151 6 4,Q8 7 (Q4 g),Q29 8 j,Q154 9,Q8 30 (Q4 g),Q29 31 (length (FV.ses g):Int),Q29 32 0] [Q48 0 1 (Q44 o0_0),Q48 1 1 (Q44 o1_0),Q48 2 1 [(.fn (.func 302) [] [(false,[(.ep 0 1 0 0)]),(false,[(.ep 1 1 0 0)])])],Q173 3 4 a b c 4 d,Q121 4 4 0 [] 0] 5)))))):=by kernel_rfl
theorem z9l (k:Int)(m:FV)(l:Int)(c:FV)(x31 a h0_0 h1_0 b:Int)(d:List UInt8)(e:Int)(g:RW)(h:Int)(i:List UInt8)(j:Int)(r:TV)(f:List AObj):VQ zhc 304 2 r f 1 ⟨[Q29 2 k,Q74 3 2 1,Q151 4 3,Q151 6 4,Q8 7 (Q4 m),Q29 8 l,Q154 9,Q8 30 (Q4 c),Q29 31 x31,Q29 32 a],[Q48 0 1 (Q44 h0_0),Q48 1 1 (Q44 h1_0),Q48 2 1 [(.fn (.func 302) [] [(false,[(.ep 0 1 0 0)]),(false,[(.ep 1 1 0 0)])])],Q173 3 4 b d e 4 g,Q121 4 4 h i j],5⟩=
  (br (decide ((a:Int)<x31)) (((FV.L 4 c=true)∧((0≤a)∧((a<(length (FV.ses c):Int))∧(((rE (getD (FV.ses c) (toNat a) [])):List FV)=(getD (FV.ses c) (toNat a) [])))))∧(∃ n:Tm,((Q19 304 [.agg [(.fn (.func 302) [] [(false,[(.ep 0 1 0 0)]),(false,[(.ep 1 1 0 0)])])],(aE (getD (FV.ses c) (toNat a) [])),Q31 (IntKind.wrap .i64 (k+l))] [Q164 h0_0,Q164 h1_0] (aT n) [Q164 h0_0,Q164 h1_0])∧((1≤1)∧((z0c 1 56)∧(Q98 304 2 r f 1 [Q29 2 k,Q74 3 2 1,Q151 4 3,Q151 6 4,Q8 7 (Q4 m),Q29 8 l,Q159 9 5 4 1,Q8 30 (Q4 c),Q29 31 x31,Q29 32 (IntKind.wrap .i64 (a+1))] [Q48 0 1 (Q44 h0_0),Q48 1 1 (Q44 h1_0),Q48 2 1 [(.fn (.func 302) [] [(false,[(.ep 0 1 0 0)]),(false,[(.ep 1 1 0 0)])])],Q173 3 4 b d e 4 g,Q121 4 4 h i j,Q17 5 4 [(FT4 n)]] 6)))))) (br ((b:Int)==(6:Int)) ((FV.L 4 .N=true)∧(RT (.agg (Q101 b d e)) [Q164 h0_0,Q164 h1_0] r f)) (RT (.agg (Q101 b d e)) [Q164 h0_0,Q164 h1_0] r f))):=by kernel_rfl
theorem z9m (n:Int)(m:FV)(o:Int)(a:Nat)(g:FV)(x31 f h0_0 h1_0 b:Int)(d:List UInt8)(e:Int)(i:RW)(j:Int)(k:List UInt8)(l:Int)(c:RW)(r:TV)(h:List AObj):VQ zhc 304 2 r h 1 ⟨[Q29 2 n,Q74 3 2 1,Q151 4 3,Q151 6 4,Q8 7 (Q4 m),Q29 8 o,Q159 9 5 4 a,Q8 30 (Q4 g),Q29 31 x31,Q29 32 f],[Q48 0 1 (Q44 h0_0),Q48 1 1 (Q44 h1_0),Q48 2 1 [(.fn (.func 302) [] [(false,[(.ep 0 1 0 0)]),(false,[(.ep 1 1 0 0)])])],Q173 3 4 b d e 4 i,Q121 4 4 j k l,Q17 5 4 c],6⟩=
  (br (decide ((f:Int)<x31)) (((FV.L 4 g=true)∧((0≤f)∧((f<(length (FV.ses g):Int))∧(((rE (getD (FV.ses g) (toNat f) [])):List FV)=(getD (FV.ses g) (toNat f) [])))))∧(∃ p:Tm,((Q19 304 [.agg [(.fn (.func 302) [] [(false,[(.ep 0 1 0 0)]),(false,[(.ep 1 1 0 0)])])],(aE (getD (FV.ses g) (toNat f) [])),Q31 (IntKind.wrap .i64 (n+o))] [Q164 h0_0,Q164 h1_0] (aT p) [Q164 h0_0,Q164 h1_0])∧((1≤1)∧((a≤(length c)∧z0c (a+1) 56)∧(Q98 304 2 r h 1 [Q29 2 n,Q74 3 2 1,Q151 4 3,Q151 6 4,Q8 7 (Q4 m),Q29 8 o,Q159 9 5 4 (a+1),Q8 30 (Q4 g),Q29 31 x31,Q29 32 (IntKind.wrap .i64 (f+1))] [Q48 0 1 (Q44 h0_0),Q48 1 1 (Q44 h1_0),Q48 2 1 [(.fn (.func 302) [] [(false,[(.ep 0 1 0 0)]),(false,[(.ep 1 1 0 0)])])],Q173 3 4 b d e 4 i,Q121 4 4 j k l,Q17 5 4 ((take a c)++ [(FT4 p)])] 6)))))) (br ((b:Int)==(6:Int)) (br (decide (((a:Int):Int)>(1:Int))) ((0≤(0:Int)∧(0:Int)<(a:Int))∧(((0<(length c))∧((([(Q64 (FV.I (getD (getD c 0 []) 0 FV.N)))]:List FV)=(take 1 (drop 0 (getD c 0 []))))∧((1:Nat)=1)))∧(br (((FV.I (getD (getD c 0 []) 0 FV.N)):Int)==(6:Int)) (((FV.L 4 m=true)∧((0≤(0:Int))∧(((0:Int)<(length (FV.ses m):Int))∧(((rE (getD (FV.ses m) 0 [])):List FV)=(getD (FV.ses m) 0 [])))))∧(br (((FV.I (getD (getD (FV.ses m) 0 []) 0 FV.N)):Int) !=(6:Int)) ((0≤(0:Int)∧(0:Int)<(a:Int))∧(((0<(length c))∧((((rE (getD c 0 [])):List FV)=(take 4 (drop 0 (getD c 0 []))))∧((4:Nat)=4)))∧(((0≤(1:Int))∧(((1:Int)≤(a:Int))∧((a:Int)≤(a:Int))))∧(((4:Nat)=4∧(1+((toNat (a:Int))-1))≤(length c))∧(∃ q:Tm,((Q189 60 [(aE (getD c 0 [])),Q123 4 (take ((toNat (a:Int))-1) (drop 1 c))] (aT q))∧(RT (aT q) [Q164 h0_0,Q164 h1_0] r h))))))) (((4:Nat)=4∧(0+a)≤(length c))∧(RT (Q171 b d e (take a (drop 0 c))) [Q164 h0_0,Q164 h1_0] r h)))) (((4:Nat)=4∧(0+a)≤(length c))∧(RT (Q171 b d e (take a (drop 0 c))) [Q164 h0_0,Q164 h1_0] r h))))) (((4:Nat)=4∧(0+a)≤(length c))∧(RT (Q171 b d e (take a (drop 0 c))) [Q164 h0_0,Q164 h1_0] r h))) (((4:Nat)=4∧(0+a)≤(length c))∧(RT (Q171 b d e (take a (drop 0 c))) [Q164 h0_0,Q164 h1_0] r h)))):=by kernel_rfl
def lv198:List (Nat×List Nat):=[]
theorem v198 (c:Int)(r:TV)(a:List AObj):VE lv198 198 0 r a [.c (Q1 .u8 c)] []=
  (br (decide (((65:Int):Int)≤c)) (br (decide ((c:Int)≤(90:Int))) (Q81 true [] r a) (Q81 ((c:Int)==(95:Int)) [] r a)) (Q81 ((c:Int)==(95:Int)) [] r a)):=by kernel_rfl
def lv199:List (Nat×List Nat):=[]
theorem v199 (c:Int)(r:TV)(a:List AObj):VE lv199 199 0 r a [.c (Q1 .u8 c)] []=
  (br (decide (((48:Int):Int)≤c)) (Q81 (decide ((c:Int)≤(57:Int))) [] r a) (Q172 r a)):=by kernel_rfl
def lv258:List (Nat×List Nat):=[(3,[0,1,5,6,7,8,9,10])]
theorem v258 (s a:List UInt8)(r:TV)(b:List AObj):VE lv258 258 0 r b [Q190 s,Q190 a] []=
  (br (((length a:Int):Int)==(0:Int)) (Q114 0 [] r b) (br ((a:List UInt8)==s) (Q114 0 [] r b) (br (((length a:Int):Int)==(1:Int)) ((0≤(0:Int)∧(0:Int)<(length a:Int))∧(∃ d:Int,((Q189 257 [Q190 s, .c (Q1 .u8 ((UInt8.toNat (getD a 0 0):Nat):Int))] (Q31 d))∧(Q114 d [] r b)))) (br (decide (((length a:Int):Int)≥(length s:Int))) (Q114 (-1:Int) [] r b) False)))):=by kernel_rfl
def lv293:List (Nat×List Nat):=[(1000001,[1,2,3])]
theorem v293 (a h:Int)(o0_0l o0_1l:Nat)(o0_2 o0_3:Int)(c:Nat)(o1 o2 o3:RW)(g:List MapZ)(r:TV)(d:List AObj):VE lv293 293 5 r d (Q111 0 6 0 0 (Q31 a) (Q31 h)) (Q158 o0_0l o0_1l o0_2 o0_3 c o1 o2 o3 g)=
  (∃ i:Int,(∃ k:Int,(∃ l:Int,(∃ m:Int,(∃ n:Int,(∃ j:Bool,((Q142 30 0 6 0 0 a (Q158 o0_0l o0_1l o0_2 o0_3 c o1 o2 o3 g) (Q147 (Q88 i k l m n) j) (Q158 o0_0l o0_1l o0_2 o0_3 c o1 o2 o3 g))∧(br (!j) (Q149 0 1 (Q83 5 o0_0l 6 o0_1l o0_2 o0_3 7 c 4 g o1 o2 o3) r d) (br (decide ((i:Int)≥(9:Int))) (Q149 0 1 (Q83 5 o0_0l 6 o0_1l o0_2 o0_3 7 c 4 g o1 o2 o3) r d) (br (decide ((h:Int)<(0:Int))) (Q149 0 1 (Q83 5 o0_0l 6 o0_1l o0_2 o0_3 7 c 4 g o1 o2 o3) r d) (∃ b:Int×Rd,((Q145 300 0 3 0 0 (Q31 a) (Q31 h) (Q120 3 1 6 0 0 0 0 2 o0_0l 3 o0_1l o0_2 o0_3 4 c o1 o2 o3 g) (Q31 b.1) (Q162 3 1 6 0 0 b.2.f b.2.e 6 (length b.2.s.C) 7 (length b.2.s.T) b.2.s.M b.2.s.L 8 (length b.2.s.N) (NM b.2.s.N 0) (CR b.2.s.C) (TR b.2.s.T) (NR b.2.s.N)))∧(br ((b.2.e:Int) !=(0:Int)) (Q149 0 b.2.e (Q83 5 (length b.2.s.C) 6 (length b.2.s.T) b.2.s.M b.2.s.L 7 (length b.2.s.N) 4 (NM b.2.s.N 0) (CR b.2.s.C) (TR b.2.s.T) (NR b.2.s.N)) r d) (Q149 b.1 0 (Q83 5 (length b.2.s.C) 6 (length b.2.s.T) b.2.s.M b.2.s.L 7 (length b.2.s.N) 4 (NM b.2.s.N 0) (CR b.2.s.C) (TR b.2.s.T) (NR b.2.s.N)) r d)))))))))))))):=by kernel_rfl
def lv294:List (Nat×List Nat):=[(1000001,[2,3,4,6])]
theorem v294 (a:Int)(c:Nat)(d:Int)(o1_0l o1_1l:Nat)(o1_2 o1_3:Int)(e:Nat)(o2 o3 o4:RW)(h:List MapZ)(g:RW)(r:TV)(f:List AObj):VE lv294 294 7 r f (Q84 0 3 0 0 (Q31 a)) (Q196 3 1 6 0 0 6 2 0 c d 2 o1_0l 3 o1_1l o1_2 o1_3 4 e o2 o3 o4 h 2 g)=
  (∃ b:Tm×Int×Int×Hp,((Q145 21 0 6 0 0 (Q31 a) (Q31 d) (Q158 o1_0l o1_1l o1_2 o1_3 e o2 o3 o4 h) (.tup [Q72 (cT b.1),Q45 b.2.1,Q45 b.2.2.1]) (Q83 5 (length b.2.2.2.C) 6 (length b.2.2.2.T) b.2.2.2.M b.2.2.2.L 7 (length b.2.2.2.N) 4 (NM b.2.2.2.N 0) (CR b.2.2.2.C) (TR b.2.2.2.T) (NR b.2.2.2.N)))∧(br ((b.2.2.1:Int)==(0:Int)) (RT (Q126 (cT b.1) b.2.2.1) (Q195 3 1 6 0 0 2 0 c b.2.1 7 (length b.2.2.2.C) 8 (length b.2.2.2.T) b.2.2.2.M b.2.2.2.L 9 (length b.2.2.2.N) (NM b.2.2.2.N 0) (CR b.2.2.2.C) (TR b.2.2.2.T) (NR b.2.2.2.N) 2 g) r f) (RT (Q126 (cT b.1) b.2.2.1) (Q195 3 1 6 0 0 2 0 c d 7 (length b.2.2.2.C) 8 (length b.2.2.2.T) b.2.2.2.M b.2.2.2.L 9 (length b.2.2.2.N) (NM b.2.2.2.N 0) (CR b.2.2.2.C) (TR b.2.2.2.T) (NR b.2.2.2.N) 2 g) r f)))):=by kernel_rfl
def lv295:List (Nat×List Nat):=[]
theorem v295 (b:Int)(c:List UInt8)(d:Int)(e:RW)(r:TV)(a:List AObj):VE lv295 295 0 r a [Q171 b c d e] []=
  (∃ g:Bool,((Q193 36 [Q171 b c d e] g)∧(br (!g) (RT (Q147 (Q101 0 [] 0) false) [] r a) (∃ f:Tm,((Q189 130 [Q171 b c d e] (aT f))∧(br ((f.k:Int)==(3:Int)) (RT (Q147 (cT f) true) [] r a) (br ((f.k:Int)==(1:Int)) (RT (Q147 (cT f) true) [] r a) (RT (Q147 (Q101 0 [] 0) false) [] r a)))))))):=by kernel_rfl
theorem v85_F296 (s:RW)(a:Int)(b:List UInt8)(d:Int)(e:RW)(r:TV)(f:List AObj):VE lv85 85 1 r f [Q123 4 s, .c (.fn (.func 296) [] [(false,[(.ep 0 4 0 0)])])] [Q7 4 (Q65 a b d 4 e)]=
  (∃ g:Int,((Q19 141 [Q123 4 s, .c (.fn (.func 296) [] [(false,[(.ep 0 4 0 0)])])] [Q7 4 (Q65 a b d 4 e)] (Q31 g) [Q7 4 (Q65 a b d 4 e)])∧(Q81 (decide ((g:Int)≥(0:Int))) [Q7 4 (Q65 a b d 4 e)] r f))):=by kernel_rfl
theorem zje (h:Nat)(g:RW)(a:Int)(b:List UInt8)(d:Int)(e:RW)(r:TV)(f:List AObj):VE lv85 85 2 r f [.c (Q3 0 4 0 h), .c (.fn (.func 296) [] [(false,[(.ep 1 4 0 0)])])] [.arz 4 g,Q7 4 (Q65 a b d 4 e)]=
  (∃ i:Int,((Q19 141 [.c (Q3 0 4 0 h), .c (.fn (.func 296) [] [(false,[(.ep 1 4 0 0)])])] [.arz 4 g,Q7 4 (Q65 a b d 4 e)] (Q31 i) [.arz 4 g,Q7 4 (Q65 a b d 4 e)])∧(Q81 (decide ((i:Int)≥(0:Int))) [.arz 4 g,Q7 4 (Q65 a b d 4 e)] r f))):=by kernel_rfl
def z8b:List (Nat×List Nat):=[(1,[2,3,4,6,8,10,11,12,39,40,41]),(5,[2,3,4,6,8,10,11,12,86,87,88]),(1000001,[2,3,4,6])]
theorem v297 (v_1 v_2:Int)(h:RW)(i:Int)(e:RW)(y_2 y_3 y_4 y_5 y_6 k:Int)(b:Nat)(d:Int)(o1_0l o1_1l:Nat)(o1_2 o1_3:Int)(c:Nat)(o2 o3 o4:RW)(j:List MapZ)(l:RW)(r:TV)(g:List AObj):VE z8b 297 7 r g [.agg (Q187 0 3 0 0 v_1 v_2 4 h),Q150 i 1 e y_2 y_3 y_4 y_5 y_6,Q31 k] (Q196 3 1 6 0 0 6 2 0 b d 2 o1_0l 3 o1_1l o1_2 o1_3 4 c o2 o3 o4 j 2 l)=
  (∃ a:List Tm×Int×Wk,((Q145 245 0 3 0 0 (Q31 y_3) (Q123 1 e) (Q196 3 1 6 0 0 6 2 0 b d 2 o1_0l 3 o1_1l o1_2 o1_3 4 c o2 o3 o4 j 2 l) (Q197 (Q153 4 (FTs a.1)) a.2.1) (Q195 3 1 6 0 0 2 0 a.2.2.n a.2.2.f 7 (length a.2.2.s.C) 8 (length a.2.2.s.T) a.2.2.s.M a.2.2.s.L 9 (length a.2.2.s.N) (NM a.2.2.s.N 0) (CR a.2.2.s.C) (TR a.2.2.s.T) (NR a.2.2.s.N) 2 a.2.2.R))∧(br ((a.2.1:Int) !=(0:Int)) (RT (Q126 (Q101 0 [] 0) a.2.1) (Q195 3 1 6 0 0 2 0 a.2.2.n a.2.2.f 7 (length a.2.2.s.C) 8 (length a.2.2.s.T) a.2.2.s.M a.2.2.s.L 9 (length a.2.2.s.N) (NM a.2.2.s.N 0) (CR a.2.2.s.C) (TR a.2.2.s.T) (NR a.2.2.s.N) 2 a.2.2.R) r g) ((FV.L 4 (Q9 4 (FTs a.1))=true)∧(Q98 297 7 r g 1 [Q29 2 k,Q151 3 11,Q74 4 12 7,Q151 6 13,Q194 8 (FTs a.1),Q29 10 y_3,Q154 11,Q154 12,Q194 39 (FTs a.1),Q29 40 (length (FTs a.1):Int),Q29 41 0] [Q177 3 1 6 0 0 10 2 0 a.2.2.n a.2.2.f,Q165 7 (length a.2.2.s.C) 8 (length a.2.2.s.T) a.2.2.s.M a.2.2.s.L 9 (length a.2.2.s.N),Q160,Q161,Q179,Q170 (NM a.2.2.s.N 0),Q21 6,Q144 7 (CR a.2.2.s.C),Q141 8 (TR a.2.2.s.T),Q119 9 (NR a.2.2.s.N),Q17 10 2 a.2.2.R,Q48 11 4 (Q187 0 3 0 0 v_1 v_2 4 h),Q48 12 7 (Q135 i 1 e y_2 y_3 y_4 y_5 y_6),Q121 13 4 0 [] 0] 14))))):=by kernel_rfl
theorem zro (p:Int)(n:RW)(l:Int)(k:RW)(x40 j:Int)(b:Nat)(f:Int)(h1_0l h1_1l:Nat)(h1_2 h1_3:Int)(d:Nat)(o:List MapZ)(h7 h8 h9 h10:RW)(h11_1 h11_2:Int)(a:RW)(e:Int)(g:RW)(h12_2 h12_3 h12_4 h12_5 h12_6 h13_0:Int)(h:List UInt8)(i:Int)(r:TV)(m:List AObj):VQ z8b 297 7 r m 1 ⟨[Q29 2 p,Q151 3 11,Q74 4 12 7,Q151 6 13,Q194 8 n,Q29 10 l,Q154 11,Q154 12,Q194 39 k,Q29 40 x40,Q29 41 j],[Q177 3 1 6 0 0 10 2 0 b f,Q165 7 h1_0l 8 h1_1l h1_2 h1_3 9 d,Q160,Q161,Q179,Q170 o,Q21 6,Q144 7 h7,Q141 8 h8,Q119 9 h9,Q17 10 2 h10,Q48 11 4 (Q187 0 3 0 0 h11_1 h11_2 4 a),Q48 12 7 (Q135 e 1 g h12_2 h12_3 h12_4 h12_5 h12_6),Q121 13 4 h13_0 h i],14⟩=
  (br (decide ((j:Int)<x40)) (((FV.L 4 (Q9 4 k)=true)∧((0≤j)∧((j<(length k:Int))∧(((rE (getD k (toNat j) [])):List FV)=(getD k (toNat j) [])))))∧(∃ q:Tm×Bool,((Q19 330 [.agg (Q187 0 3 0 0 h11_1 h11_2 4 a),(aE (getD k (toNat j) [])),Q31 p] (Q196 3 1 6 0 0 6 2 0 b f 2 h1_0l 3 h1_1l h1_2 h1_3 4 d h7 h8 h9 o 2 h10) (Q147 (cT q.1) q.2) (Q196 3 1 6 0 0 6 2 0 b f 2 h1_0l 3 h1_1l h1_2 h1_3 4 d h7 h8 h9 o 2 h10))∧(br q.2 ((FV.L 4 (Q9 4 n)=true)∧(∃ s:Tm,((Q189 247 [Q31 (IntKind.wrap .i64 ((IntKind.wrap .i64 ((length n:Int)-(1:Int)))-j))] (aT s))∧((1≤1)∧((z0c 1 56)∧((1≤1)∧((z0c 1 56)∧(Q98 297 7 r m 1 [Q29 2 p,Q151 3 11,Q74 4 12 7,Q151 6 13,Q194 8 n,Q29 10 l,Q159 11 14 4 1,Q159 12 15 4 1,Q194 39 k,Q29 40 x40,Q29 41 (IntKind.wrap .i64 (j+1))] [Q177 3 1 6 0 0 10 2 0 b f,Q165 7 h1_0l 8 h1_1l h1_2 h1_3 9 d,Q160,Q161,Q179,Q170 o,Q21 6,Q144 7 h7,Q141 8 h8,Q119 9 h9,Q17 10 2 h10,Q48 11 4 (Q187 0 3 0 0 h11_1 h11_2 4 a),Q48 12 7 (Q135 e 1 g h12_2 h12_3 h12_4 h12_5 h12_6),Q121 13 4 h13_0 h i,Q17 14 4 [(FT4 s)],Q17 15 4 [(FT4 q.1)]] 16)))))))) (Q98 297 7 r m 1 [Q29 2 p,Q151 3 11,Q74 4 12 7,Q151 6 13,Q194 8 n,Q29 10 l,Q154 11,Q154 12,Q194 39 k,Q29 40 x40,Q29 41 (IntKind.wrap .i64 (j+1))] [Q177 3 1 6 0 0 10 2 0 b f,Q165 7 h1_0l 8 h1_1l h1_2 h1_3 9 d,Q160,Q161,Q179,Q170 o,Q21 6,Q144 7 h7,Q141 8 h8,Q119 9 h9,Q17 10 2 h10,Q48 11 4 (Q187 0 3 0 0 h11_1 h11_2 4 a),Q48 12 7 (Q135 e 1 g h12_2 h12_3 h12_4 h12_5 h12_6),Q121 13 4 h13_0 h i] 14))))) ((FV.L 4 .N=true)∧((FV.L 4 (Q9 4 n)=true)∧(br (((0:Int):Int)==(length n:Int)) (br (decide ((l:Int)≤h11_2)) (∃ t:Tm,((Q189 60 [.agg (Q101 4 [] e), .c Q51] (aT t))∧(RT (Q126 (cT t) 0) (Q195 3 1 6 0 0 2 0 b f 7 h1_0l 8 h1_1l h1_2 h1_3 9 d o h7 h8 h9 2 h10) r m))) ((FV.L 4 (Q9 4 a)=true)∧(Q98 297 7 r m 5 [Q29 2 p,Q151 3 11,Q74 4 12 7,Q151 6 13,Q194 8 n,Q29 10 l,Q154 11,Q154 12,Q194 86 a,Q29 87 (length a:Int),Q29 88 0] [Q177 3 1 6 0 0 10 2 0 b f,Q165 7 h1_0l 8 h1_1l h1_2 h1_3 9 d,Q160,Q161,Q179,Q170 o,Q21 6,Q144 7 h7,Q141 8 h8,Q119 9 h9,Q17 10 2 h10,Q48 11 4 (Q187 0 3 0 0 h11_1 h11_2 4 a),Q48 12 7 (Q135 e 1 g h12_2 h12_3 h12_4 h12_5 h12_6),Q121 13 4 h13_0 h i] 14))) ((FV.L 4 (Q9 4 a)=true)∧(Q98 297 7 r m 5 [Q29 2 p,Q151 3 11,Q74 4 12 7,Q151 6 13,Q194 8 n,Q29 10 l,Q154 11,Q154 12,Q194 86 a,Q29 87 (length a:Int),Q29 88 0] [Q177 3 1 6 0 0 10 2 0 b f,Q165 7 h1_0l 8 h1_1l h1_2 h1_3 9 d,Q160,Q161,Q179,Q170 o,Q21 6,Q144 7 h7,Q141 8 h8,Q119 9 h9,Q17 10 2 h10,Q48 11 4 (Q187 0 3 0 0 h11_1 h11_2 4 a),Q48 12 7 (Q135 e 1 g h12_2 h12_3 h12_4 h12_5 h12_6),Q121 13 4 h13_0 h i] 14)))))):=by kernel_rfl
theorem zp4 (p:Int)(n:RW)(l:Int)(d x12l:Nat)(k:RW)(x40 j:Int)(b:Nat)(f:Int)(h1_0l h1_1l:Nat)(h1_2 h1_3:Int)(c:Nat)(o:List MapZ)(h7 h8 h9 h10:RW)(h11_1 h11_2:Int)(a:RW)(e:Int)(g:RW)(h12_2 h12_3 h12_4 h12_5 h12_6 h13_0:Int)(h:List UInt8)(i:Int)(h14 h15:RW)(r:TV)(m:List AObj):VQ z8b 297 7 r m 1 ⟨[Q29 2 p,Q151 3 11,Q74 4 12 7,Q151 6 13,Q194 8 n,Q29 10 l,Q159 11 14 4 d,Q159 12 15 4 x12l,Q194 39 k,Q29 40 x40,Q29 41 j],[Q177 3 1 6 0 0 10 2 0 b f,Q165 7 h1_0l 8 h1_1l h1_2 h1_3 9 c,Q160,Q161,Q179,Q170 o,Q21 6,Q144 7 h7,Q141 8 h8,Q119 9 h9,Q17 10 2 h10,Q48 11 4 (Q187 0 3 0 0 h11_1 h11_2 4 a),Q48 12 7 (Q135 e 1 g h12_2 h12_3 h12_4 h12_5 h12_6),Q121 13 4 h13_0 h i,Q17 14 4 h14,Q17 15 4 h15],16⟩=
  (br (decide ((j:Int)<x40)) (((FV.L 4 (Q9 4 k)=true)∧((0≤j)∧((j<(length k:Int))∧(((rE (getD k (toNat j) [])):List FV)=(getD k (toNat j) [])))))∧(∃ q:Tm×Bool,((Q19 330 [.agg (Q187 0 3 0 0 h11_1 h11_2 4 a),(aE (getD k (toNat j) [])),Q31 p] (Q196 3 1 6 0 0 6 2 0 b f 2 h1_0l 3 h1_1l h1_2 h1_3 4 c h7 h8 h9 o 2 h10) (Q147 (cT q.1) q.2) (Q196 3 1 6 0 0 6 2 0 b f 2 h1_0l 3 h1_1l h1_2 h1_3 4 c h7 h8 h9 o 2 h10))∧(br q.2 ((FV.L 4 (Q9 4 n)=true)∧(∃ s:Tm,((Q189 247 [Q31 (IntKind.wrap .i64 ((IntKind.wrap .i64 ((length n:Int)-(1:Int)))-j))] (aT s))∧((1≤1)∧((d≤(length h14)∧z0c (d+1) 56)∧((1≤1)∧((x12l≤(length h15)∧z0c (x12l+1) 56)∧(Q98 297 7 r m 1 [Q29 2 p,Q151 3 11,Q74 4 12 7,Q151 6 13,Q194 8 n,Q29 10 l,Q159 11 14 4 (d+1),Q159 12 15 4 (x12l+1),Q194 39 k,Q29 40 x40,Q29 41 (IntKind.wrap .i64 (j+1))] [Q177 3 1 6 0 0 10 2 0 b f,Q165 7 h1_0l 8 h1_1l h1_2 h1_3 9 c,Q160,Q161,Q179,Q170 o,Q21 6,Q144 7 h7,Q141 8 h8,Q119 9 h9,Q17 10 2 h10,Q48 11 4 (Q187 0 3 0 0 h11_1 h11_2 4 a),Q48 12 7 (Q135 e 1 g h12_2 h12_3 h12_4 h12_5 h12_6),Q121 13 4 h13_0 h i,Q17 14 4 ((take d h14)++ [(FT4 s)]),Q17 15 4 ((take x12l h15)++ [(FT4 q.1)])] 16)))))))) (Q98 297 7 r m 1 [Q29 2 p,Q151 3 11,Q74 4 12 7,Q151 6 13,Q194 8 n,Q29 10 l,Q159 11 14 4 d,Q159 12 15 4 x12l,Q194 39 k,Q29 40 x40,Q29 41 (IntKind.wrap .i64 (j+1))] [Q177 3 1 6 0 0 10 2 0 b f,Q165 7 h1_0l 8 h1_1l h1_2 h1_3 9 c,Q160,Q161,Q179,Q170 o,Q21 6,Q144 7 h7,Q141 8 h8,Q119 9 h9,Q17 10 2 h10,Q48 11 4 (Q187 0 3 0 0 h11_1 h11_2 4 a),Q48 12 7 (Q135 e 1 g h12_2 h12_3 h12_4 h12_5 h12_6),Q121 13 4 h13_0 h i,Q17 14 4 h14,Q17 15 4 h15] 16))))) ((FV.L 4 (Q9 4 n)=true)∧(br (((d:Int):Int)==(length n:Int)) (br (decide ((l:Int)≤h11_2)) (((4:Nat)=4∧(0+x12l)≤(length h15))∧(∃ t:Tm,((Q189 60 [.agg (Q101 4 [] e),Q123 4 (take x12l (drop 0 h15))] (aT t))∧(RT (Q126 (cT t) 0) (Q195 3 1 6 0 0 2 0 b f 7 h1_0l 8 h1_1l h1_2 h1_3 9 c o h7 h8 h9 2 h10) r m)))) ((FV.L 4 (Q9 4 a)=true)∧(Q98 297 7 r m 5 [Q29 2 p,Q151 3 11,Q74 4 12 7,Q151 6 13,Q194 8 n,Q29 10 l,Q159 11 14 4 d,Q159 12 15 4 x12l,Q194 86 a,Q29 87 (length a:Int),Q29 88 0] [Q177 3 1 6 0 0 10 2 0 b f,Q165 7 h1_0l 8 h1_1l h1_2 h1_3 9 c,Q160,Q161,Q179,Q170 o,Q21 6,Q144 7 h7,Q141 8 h8,Q119 9 h9,Q17 10 2 h10,Q48 11 4 (Q187 0 3 0 0 h11_1 h11_2 4 a),Q48 12 7 (Q135 e 1 g h12_2 h12_3 h12_4 h12_5 h12_6),Q121 13 4 h13_0 h i,Q17 14 4 h14,Q17 15 4 h15] 16))) ((FV.L 4 (Q9 4 a)=true)∧(Q98 297 7 r m 5 [Q29 2 p,Q151 3 11,Q74 4 12 7,Q151 6 13,Q194 8 n,Q29 10 l,Q159 11 14 4 d,Q159 12 15 4 x12l,Q194 86 a,Q29 87 (length a:Int),Q29 88 0] [Q177 3 1 6 0 0 10 2 0 b f,Q165 7 h1_0l 8 h1_1l h1_2 h1_3 9 c,Q160,Q161,Q179,Q170 o,Q21 6,Q144 7 h7,Q141 8 h8,Q119 9 h9,Q17 10 2 h10,Q48 11 4 (Q187 0 3 0 0 h11_1 h11_2 4 a),Q48 12 7 (Q135 e 1 g h12_2 h12_3 h12_4 h12_5 h12_6),Q121 13 4 h13_0 h i,Q17 14 4 h14,Q17 15 4 h15] 16))))):=by kernel_rfl
theorem znv (t:Int)(q:RW)(o:Int)(i:RW)(x87 b:Int)(e:Nat)(m:Int)(h1_0l h1_1l:Nat)(h1_2 h1_3:Int)(g:Nat)(u:List MapZ)(h7 h8 h9 h10:RW)(h11_1 h11_2:Int)(a:RW)(h:Int)(j:RW)(h12_2 h12_3 h12_4 h12_5 h12_6 h13_0:Int)(k:List UInt8)(l:Int)(r:TV)(p:List AObj):VQ z8b 297 7 r p 5 ⟨[Q29 2 t,Q151 3 11,Q74 4 12 7,Q151 6 13,Q194 8 q,Q29 10 o,Q154 11,Q154 12,Q194 86 i,Q29 87 x87,Q29 88 b],[Q177 3 1 6 0 0 10 2 0 e m,Q165 7 h1_0l 8 h1_1l h1_2 h1_3 9 g,Q160,Q161,Q179,Q170 u,Q21 6,Q144 7 h7,Q141 8 h8,Q119 9 h9,Q17 10 2 h10,Q48 11 4 (Q187 0 3 0 0 h11_1 h11_2 4 a),Q48 12 7 (Q135 h 1 j h12_2 h12_3 h12_4 h12_5 h12_6),Q121 13 4 h13_0 k l],14⟩=
  (br (decide ((b:Int)<x87)) (((FV.L 4 (Q9 4 i)=true)∧((0≤b)∧((b<(length i:Int))∧(((rE (getD i (toNat b) [])):List FV)=(getD i (toNat b) [])))))∧(br (decide ((o:Int)>h11_2)) (br (((FV.I (getD (getD i (toNat b) []) 0 FV.N)):Int)==(1:Int)) (br (decide (((FV.I (getD (getD i (toNat b) []) 2 FV.N)):Int)≤o)) ((1≤1)∧((z0c 1 56)∧((FV.L 4 (Q9 4 a)=true)∧(∃ v:Tm,((Q189 247 [Q31 (IntKind.wrap .i64 ((IntKind.wrap .i64 ((IntKind.wrap .i64 (t+(length a:Int)))-(1:Int)))-b))] (aT v))∧((1≤1)∧((z0c 1 56)∧(Q98 297 7 r p 5 [Q29 2 t,Q151 3 11,Q74 4 12 7,Q151 6 13,Q194 8 q,Q29 10 o,Q159 11 14 4 1,Q159 12 15 4 1,Q194 86 i,Q29 87 x87,Q29 88 (IntKind.wrap .i64 (b+1))] [Q177 3 1 6 0 0 10 2 0 e m,Q165 7 h1_0l 8 h1_1l h1_2 h1_3 9 g,Q160,Q161,Q179,Q170 u,Q21 6,Q144 7 h7,Q141 8 h8,Q119 9 h9,Q17 10 2 h10,Q48 11 4 (Q187 0 3 0 0 h11_1 h11_2 4 a),Q48 12 7 (Q135 h 1 j h12_2 h12_3 h12_4 h12_5 h12_6),Q121 13 4 h13_0 k l,Q17 14 4 [(rE (getD i (toNat b) []))],Q17 15 4 [(FT4 v)]] 16)))))))) (Q98 297 7 r p 5 [Q29 2 t,Q151 3 11,Q74 4 12 7,Q151 6 13,Q194 8 q,Q29 10 o,Q154 11,Q154 12,Q194 86 i,Q29 87 x87,Q29 88 (IntKind.wrap .i64 (b+1))] [Q177 3 1 6 0 0 10 2 0 e m,Q165 7 h1_0l 8 h1_1l h1_2 h1_3 9 g,Q160,Q161,Q179,Q170 u,Q21 6,Q144 7 h7,Q141 8 h8,Q119 9 h9,Q17 10 2 h10,Q48 11 4 (Q187 0 3 0 0 h11_1 h11_2 4 a),Q48 12 7 (Q135 h 1 j h12_2 h12_3 h12_4 h12_5 h12_6),Q121 13 4 h13_0 k l] 14)) (Q98 297 7 r p 5 [Q29 2 t,Q151 3 11,Q74 4 12 7,Q151 6 13,Q194 8 q,Q29 10 o,Q154 11,Q154 12,Q194 86 i,Q29 87 x87,Q29 88 (IntKind.wrap .i64 (b+1))] [Q177 3 1 6 0 0 10 2 0 e m,Q165 7 h1_0l 8 h1_1l h1_2 h1_3 9 g,Q160,Q161,Q179,Q170 u,Q21 6,Q144 7 h7,Q141 8 h8,Q119 9 h9,Q17 10 2 h10,Q48 11 4 (Q187 0 3 0 0 h11_1 h11_2 4 a),Q48 12 7 (Q135 h 1 j h12_2 h12_3 h12_4 h12_5 h12_6),Q121 13 4 h13_0 k l] 14)) (Q98 297 7 r p 5 [Q29 2 t,Q151 3 11,Q74 4 12 7,Q151 6 13,Q194 8 q,Q29 10 o,Q154 11,Q154 12,Q194 86 i,Q29 87 x87,Q29 88 (IntKind.wrap .i64 (b+1))] [Q177 3 1 6 0 0 10 2 0 e m,Q165 7 h1_0l 8 h1_1l h1_2 h1_3 9 g,Q160,Q161,Q179,Q170 u,Q21 6,Q144 7 h7,Q141 8 h8,Q119 9 h9,Q17 10 2 h10,Q48 11 4 (Q187 0 3 0 0 h11_1 h11_2 4 a),Q48 12 7 (Q135 h 1 j h12_2 h12_3 h12_4 h12_5 h12_6),Q121 13 4 h13_0 k l] 14))) ((FV.L 4 (Q9 4 q)=true)∧(∃ d:Tm×Int×Wk,((Q19 248 [Q62 0 3 0 0,Q31 h,Q31 (z0k [h11_2,o]),Q31 (length q:Int), .c Q51] (Q196 3 1 6 0 0 6 2 0 e m 2 h1_0l 3 h1_1l h1_2 h1_3 4 g h7 h8 h9 u 2 h10) (Q126 (cT d.1) d.2.1) (Q195 3 1 6 0 0 2 0 d.2.2.n d.2.2.f 7 (length d.2.2.s.C) 8 (length d.2.2.s.T) d.2.2.s.M d.2.2.s.L 9 (length d.2.2.s.N) (NM d.2.2.s.N 0) (CR d.2.2.s.C) (TR d.2.2.s.T) (NR d.2.2.s.N) 2 d.2.2.R))∧(∃ w:Tm,((Q189 60 [(aT d.1), .c Q51] (aT w))∧(RT (Q126 (cT w) d.2.1) (Q195 3 1 6 0 0 2 0 d.2.2.n d.2.2.f 7 (length d.2.2.s.C) 8 (length d.2.2.s.T) d.2.2.s.M d.2.2.s.L 9 (length d.2.2.s.N) (NM d.2.2.s.N 0) (CR d.2.2.s.C) (TR d.2.2.s.T) (NR d.2.2.s.N) 2 d.2.2.R) r p))))))):=by kernel_rfl
theorem zo4 (q:Int)(p:RW)(m:Int)(x11l x12l:Nat)(h:RW)(x87 b:Int)(d:Nat)(l:Int)(h1_0l h1_1l:Nat)(h1_2 h1_3:Int)(e:Nat)(t:List MapZ)(h7 h8 h9 h10:RW)(h11_1 h11_2:Int)(a:RW)(g:Int)(i:RW)(h12_2 h12_3 h12_4 h12_5 h12_6 h13_0:Int)(j:List UInt8)(k:Int)(h14 h15:RW)(r:TV)(o:List AObj):VQ z8b 297 7 r o 5 ⟨[Q29 2 q,Q151 3 11,Q74 4 12 7,Q151 6 13,Q194 8 p,Q29 10 m,Q159 11 14 4 x11l,Q159 12 15 4 x12l,Q194 86 h,Q29 87 x87,Q29 88 b],[Q177 3 1 6 0 0 10 2 0 d l,Q165 7 h1_0l 8 h1_1l h1_2 h1_3 9 e,Q160,Q161,Q179,Q170 t,Q21 6,Q144 7 h7,Q141 8 h8,Q119 9 h9,Q17 10 2 h10,Q48 11 4 (Q187 0 3 0 0 h11_1 h11_2 4 a),Q48 12 7 (Q135 g 1 i h12_2 h12_3 h12_4 h12_5 h12_6),Q121 13 4 h13_0 j k,Q17 14 4 h14,Q17 15 4 h15],16⟩=
  (br (decide ((b:Int)<x87)) (((FV.L 4 (Q9 4 h)=true)∧((0≤b)∧((b<(length h:Int))∧(((rE (getD h (toNat b) [])):List FV)=(getD h (toNat b) [])))))∧(br (decide ((m:Int)>h11_2)) (br (((FV.I (getD (getD h (toNat b) []) 0 FV.N)):Int)==(1:Int)) (br (decide (((FV.I (getD (getD h (toNat b) []) 2 FV.N)):Int)≤m)) ((1≤1)∧((x11l≤(length h14)∧z0c (x11l+1) 56)∧((FV.L 4 (Q9 4 a)=true)∧(∃ u:Tm,((Q189 247 [Q31 (IntKind.wrap .i64 ((IntKind.wrap .i64 ((IntKind.wrap .i64 (q+(length a:Int)))-(1:Int)))-b))] (aT u))∧((1≤1)∧((x12l≤(length h15)∧z0c (x12l+1) 56)∧(Q98 297 7 r o 5 [Q29 2 q,Q151 3 11,Q74 4 12 7,Q151 6 13,Q194 8 p,Q29 10 m,Q159 11 14 4 (x11l+1),Q159 12 15 4 (x12l+1),Q194 86 h,Q29 87 x87,Q29 88 (IntKind.wrap .i64 (b+1))] [Q177 3 1 6 0 0 10 2 0 d l,Q165 7 h1_0l 8 h1_1l h1_2 h1_3 9 e,Q160,Q161,Q179,Q170 t,Q21 6,Q144 7 h7,Q141 8 h8,Q119 9 h9,Q17 10 2 h10,Q48 11 4 (Q187 0 3 0 0 h11_1 h11_2 4 a),Q48 12 7 (Q135 g 1 i h12_2 h12_3 h12_4 h12_5 h12_6),Q121 13 4 h13_0 j k,Q17 14 4 ((take x11l h14)++ [(rE (getD h (toNat b) []))]),Q17 15 4 ((take x12l h15)++ [(FT4 u)])] 16)))))))) (Q98 297 7 r o 5 [Q29 2 q,Q151 3 11,Q74 4 12 7,Q151 6 13,Q194 8 p,Q29 10 m,Q159 11 14 4 x11l,Q159 12 15 4 x12l,Q194 86 h,Q29 87 x87,Q29 88 (IntKind.wrap .i64 (b+1))] [Q177 3 1 6 0 0 10 2 0 d l,Q165 7 h1_0l 8 h1_1l h1_2 h1_3 9 e,Q160,Q161,Q179,Q170 t,Q21 6,Q144 7 h7,Q141 8 h8,Q119 9 h9,Q17 10 2 h10,Q48 11 4 (Q187 0 3 0 0 h11_1 h11_2 4 a),Q48 12 7 (Q135 g 1 i h12_2 h12_3 h12_4 h12_5 h12_6),Q121 13 4 h13_0 j k,Q17 14 4 h14,Q17 15 4 h15] 16)) (Q98 297 7 r o 5 [Q29 2 q,Q151 3 11,Q74 4 12 7,Q151 6 13,Q194 8 p,Q29 10 m,Q159 11 14 4 x11l,Q159 12 15 4 x12l,Q194 86 h,Q29 87 x87,Q29 88 (IntKind.wrap .i64 (b+1))] [Q177 3 1 6 0 0 10 2 0 d l,Q165 7 h1_0l 8 h1_1l h1_2 h1_3 9 e,Q160,Q161,Q179,Q170 t,Q21 6,Q144 7 h7,Q141 8 h8,Q119 9 h9,Q17 10 2 h10,Q48 11 4 (Q187 0 3 0 0 h11_1 h11_2 4 a),Q48 12 7 (Q135 g 1 i h12_2 h12_3 h12_4 h12_5 h12_6),Q121 13 4 h13_0 j k,Q17 14 4 h14,Q17 15 4 h15] 16)) (Q98 297 7 r o 5 [Q29 2 q,Q151 3 11,Q74 4 12 7,Q151 6 13,Q194 8 p,Q29 10 m,Q159 11 14 4 x11l,Q159 12 15 4 x12l,Q194 86 h,Q29 87 x87,Q29 88 (IntKind.wrap .i64 (b+1))] [Q177 3 1 6 0 0 10 2 0 d l,Q165 7 h1_0l 8 h1_1l h1_2 h1_3 9 e,Q160,Q161,Q179,Q170 t,Q21 6,Q144 7 h7,Q141 8 h8,Q119 9 h9,Q17 10 2 h10,Q48 11 4 (Q187 0 3 0 0 h11_1 h11_2 4 a),Q48 12 7 (Q135 g 1 i h12_2 h12_3 h12_4 h12_5 h12_6),Q121 13 4 h13_0 j k,Q17 14 4 h14,Q17 15 4 h15] 16))) ((FV.L 4 (Q9 4 p)=true)∧(((4:Nat)=4∧(0+x11l)≤(length h14))∧(∃ c:Tm×Int×Wk,((Q19 248 [Q62 0 3 0 0,Q31 g,Q31 (z0k [h11_2,m]),Q31 (length p:Int),Q123 4 (take x11l (drop 0 h14))] (Q196 3 1 6 0 0 6 2 0 d l 2 h1_0l 3 h1_1l h1_2 h1_3 4 e h7 h8 h9 t 2 h10) (Q126 (cT c.1) c.2.1) (Q195 3 1 6 0 0 2 0 c.2.2.n c.2.2.f 7 (length c.2.2.s.C) 8 (length c.2.2.s.T) c.2.2.s.M c.2.2.s.L 9 (length c.2.2.s.N) (NM c.2.2.s.N 0) (CR c.2.2.s.C) (TR c.2.2.s.T) (NR c.2.2.s.N) 2 c.2.2.R))∧(((4:Nat)=4∧(0+x12l)≤(length h15))∧(∃ v:Tm,((Q189 60 [(aT c.1),Q123 4 (take x12l (drop 0 h15))] (aT v))∧(RT (Q126 (cT v) c.2.1) (Q195 3 1 6 0 0 2 0 c.2.2.n c.2.2.f 7 (length c.2.2.s.C) 8 (length c.2.2.s.T) c.2.2.s.M c.2.2.s.L 9 (length c.2.2.s.N) (NM c.2.2.s.N 0) (CR c.2.2.s.C) (TR c.2.2.s.T) (NR c.2.2.s.N) 2 c.2.2.R) r o))))))))):=by kernel_rfl
def lv298:List (Nat×List Nat):=[]
theorem v298 (v_1 v_2:Int)(h:RW)(l:Int)(m:RW)(g x_3 x_4 x_5 x_6 k:Int)(b:Nat)(c:Int)(o1_0l o1_1l:Nat)(o1_2 o1_3:Int)(a:Nat)(o2 o3 o4:RW)(d:List MapZ)(f:RW)(r:TV)(e:List AObj):VE lv298 298 7 r e [.agg (Q187 0 3 0 0 v_1 v_2 4 h),Q150 l 1 m g x_3 x_4 x_5 x_6,Q31 k] (Q196 3 1 6 0 0 6 2 0 b c 2 o1_0l 3 o1_1l o1_2 o1_3 4 a o2 o3 o4 d 2 f)=
  (br ((g:Int)==(0:Int)) (∃ n:List UInt8,((Q142 129 0 6 0 0 x_3 (Q158 o1_0l o1_1l o1_2 o1_3 a o2 o3 o4 d) (Q190 n) (Q158 o1_0l o1_1l o1_2 o1_3 a o2 o3 o4 d))∧(RT (Q147 (Q101 0 n 0) true) (Q196 3 1 6 0 0 6 2 0 b c 2 o1_0l 3 o1_1l o1_2 o1_3 4 a o2 o3 o4 d 2 f) r e))) (br ((g:Int)==(2:Int)) (RT (Q147 (Q101 2 [] x_3) true) (Q196 3 1 6 0 0 6 2 0 b c 2 o1_0l 3 o1_1l o1_2 o1_3 4 a o2 o3 o4 d 2 f) r e) (br ((g:Int)==(1:Int)) (∃ i:Tm×Bool,((Q19 330 [.agg (Q187 0 3 0 0 v_1 v_2 4 h), .agg (Q101 1 [] x_3),Q31 k] (Q196 3 1 6 0 0 6 2 0 b c 2 o1_0l 3 o1_1l o1_2 o1_3 4 a o2 o3 o4 d 2 f) (Q147 (cT i.1) i.2) (Q196 3 1 6 0 0 6 2 0 b c 2 o1_0l 3 o1_1l o1_2 o1_3 4 a o2 o3 o4 d 2 f))∧(RT (Q147 (cT i.1) i.2) (Q196 3 1 6 0 0 6 2 0 b c 2 o1_0l 3 o1_1l o1_2 o1_3 4 a o2 o3 o4 d 2 f) r e))) (∃ o:Tm,((Q189 247 [Q31 x_3] (aT o))∧(∃ j:Tm×Bool,((Q19 330 [.agg (Q187 0 3 0 0 v_1 v_2 4 h),(aT o),Q31 k] (Q196 3 1 6 0 0 6 2 0 b c 2 o1_0l 3 o1_1l o1_2 o1_3 4 a o2 o3 o4 d 2 f) (Q147 (cT j.1) j.2) (Q196 3 1 6 0 0 6 2 0 b c 2 o1_0l 3 o1_1l o1_2 o1_3 4 a o2 o3 o4 d 2 f))∧(RT (Q147 (cT j.1) j.2) (Q196 3 1 6 0 0 6 2 0 b c 2 o1_0l 3 o1_1l o1_2 o1_3 4 a o2 o3 o4 d 2 f) r e)))))))):=by kernel_rfl
def zqj:List (Nat×List Nat):=[(3,[1,5,21,22,23])]
theorem v315 (c:Int)(e:List UInt8)(d:Int)(a:RW)(i:Int)(r:TV)(b:List AObj):VE zqj 315 0 r b [Q171 c e d a,Q31 i] []=
  (br ((c:Int)==(3:Int)) (br ((d:Int)==i) (Q114 1 [] r b) ((FV.L 4 (Q9 4 a)=true)∧(Q98 315 0 r b 3 (Q169 (Q29 1 i) (Q29 5 0) (Q194 21 a) (Q29 22 (length a:Int)) 23 0) [] 0))) (br ((c:Int)==(5:Int)) ((FV.L 4 (Q9 4 a)=true)∧(Q98 315 0 r b 3 (Q169 (Q29 1 (IntKind.wrap .i64 (i+1))) (Q29 5 0) (Q194 21 a) (Q29 22 (length a:Int)) 23 0) [] 0)) ((FV.L 4 (Q9 4 a)=true)∧(Q98 315 0 r b 3 (Q169 (Q29 1 i) (Q29 5 0) (Q194 21 a) (Q29 22 (length a:Int)) 23 0) [] 0)))):=by kernel_rfl
theorem zqq (x1 x5:Int)(b:RW)(x22 a:Int)(r:TV)(c:List AObj):VQ zqj 315 0 r c 3 ⟨Q169 (Q29 1 x1) (Q29 5 x5) (Q194 21 b) (Q29 22 x22) 23 a,[],0⟩=
  (br (decide ((a:Int)<x22)) (((FV.L 4 (Q9 4 b)=true)∧((0≤a)∧((a<(length b:Int))∧(((rE (getD b (toNat a) [])):List FV)=(getD b (toNat a) [])))))∧(∃ d:Int,((Q189 315 [(aE (getD b (toNat a) [])),Q31 x1] (Q31 d))∧(Q98 315 0 r c 3 (Q169 (Q29 1 x1) (Q29 5 (IntKind.wrap .i64 (x5+d))) (Q194 21 b) (Q29 22 x22) 23 (IntKind.wrap .i64 (a+1))) [] 0)))) (Q114 x5 [] r c)):=by kernel_rfl
def lv302:List (Nat×List Nat):=[]
theorem v302 (a:Int)(c:List UInt8)(b:Int)(d:RW)(k o0_0 o1_0:Int)(r:TV)(e:List AObj):VE lv302 302 2 r e [Q171 a c b d,Q31 k,Q62 0 1 0 0,Q62 1 1 0 0] [Q164 o0_0,Q164 o1_0]=
  (br ((a:Int)==(3:Int)) (br (decide ((b:Int)≥(IntKind.wrap .i64 (k+o0_0)))) (∃ f:Tm,((Q189 303 [Q171 a c b d,Q31 o1_0] (aT f))∧(RT (aT f) [Q164 o0_0,Q164 o1_0] r e))) (RT (Q171 a c b d) [Q164 o0_0,Q164 o1_0] r e)) (RT (Q171 a c b d) [Q164 o0_0,Q164 o1_0] r e)):=by kernel_rfl
theorem zr5 (s:RW)(a:Int)(b:List UInt8)(d:Int)(e:RW)(r:TV)(f:List AObj):VE z7l 141 1 r f [Q123 4 s, .c (.fn (.func 296) [] [(false,[(.ep 0 4 0 0)])])] [Q7 4 (Q65 a b d 4 e)]=
  ((FV.L 4 (Q9 4 s)=true)∧(Q98 141 1 r f 1 (Q178 (Q194 0 s) (Q8 1 (.fn (.func 296) [] [(false,[(.ep 0 4 0 0)])])) 7 (length s:Int) 8 0) [Q173 0 4 a b d 4 e] 1)):=by kernel_rfl
theorem zh4 (f:RW)(x7 e h0_0:Int)(a:List UInt8)(b:Int)(c:RW)(r:TV)(d:List AObj):VQ z7l 141 1 r d 1 ⟨Q178 (Q194 0 f) (Q8 1 (.fn (.func 296) [] [(false,[(.ep 0 4 0 0)])])) 7 x7 8 e,[Q173 0 4 h0_0 a b 4 c],1⟩=
  (br (decide ((e:Int)<x7)) (((FV.L 4 (Q9 4 f)=true)∧((0≤e)∧((e<(length f:Int))∧(((rE (getD f (toNat e) [])):List FV)=(getD f (toNat e) [])))))∧(∃ g:Bool,((Q128 296 [(aE (getD f (toNat e) [])),Q62 0 4 0 0] [Q7 4 (Q65 h0_0 a b 4 c)] g [Q7 4 (Q65 h0_0 a b 4 c)])∧(br g (Q114 e [Q7 4 (Q65 h0_0 a b 4 c)] r d) (Q98 141 1 r d 1 (Q178 (Q194 0 f) (Q8 1 (.fn (.func 296) [] [(false,[(.ep 0 4 0 0)])])) 7 x7 8 (IntKind.wrap .i64 (e+1))) [Q173 0 4 h0_0 a b 4 c] 1))))) (Q114 (-1:Int) [Q7 4 (Q65 h0_0 a b 4 c)] r d)):=by kernel_rfl
theorem zgk (g:Nat)(h:RW)(a:Int)(b:List UInt8)(d:Int)(e:RW)(r:TV)(f:List AObj):VE z7l 141 2 r f [.c (Q3 0 4 0 g), .c (.fn (.func 296) [] [(false,[(.ep 1 4 0 0)])])] [.arz 4 h,Q7 4 (Q65 a b d 4 e)]=
  (Q98 141 2 r f 1 (Q178 (Q159 0 0 4 g) (Q8 1 (.fn (.func 296) [] [(false,[(.ep 1 4 0 0)])])) 7 (g:Int) 8 0) [Q17 0 4 h,Q173 1 4 a b d 4 e] 2):=by kernel_rfl
theorem z6b (h:Nat)(x7 e:Int)(g:RW)(a:Int)(b:List UInt8)(c:Int)(d:RW)(r:TV)(f:List AObj):VQ z7l 141 2 r f 1 ⟨Q178 (Q159 0 0 4 h) (Q8 1 (.fn (.func 296) [] [(false,[(.ep 1 4 0 0)])])) 7 x7 8 e,[Q17 0 4 g,Q173 1 4 a b c 4 d],2⟩=
  (br (decide ((e:Int)<x7)) ((0≤e∧e<(h:Int))∧((((0+(toNat e))<(length g))∧((((rE (getD g (0+(toNat e)) [])):List FV)=(take 4 (drop 0 (getD g (0+(toNat e)) []))))∧((4:Nat)=4)))∧(∃ i:Bool,((Q128 296 [(aE (getD g (0+(toNat e)) [])),Q62 0 4 0 0] [Q7 4 (Q65 a b c 4 d)] i [Q7 4 (Q65 a b c 4 d)])∧(br i (Q114 e [.arz 4 g,Q7 4 (Q65 a b c 4 d)] r f) (Q98 141 2 r f 1 (Q178 (Q159 0 0 4 h) (Q8 1 (.fn (.func 296) [] [(false,[(.ep 1 4 0 0)])])) 7 x7 8 (IntKind.wrap .i64 (e+1))) [Q17 0 4 g,Q173 1 4 a b c 4 d] 2)))))) (Q114 (-1:Int) [.arz 4 g,Q7 4 (Q65 a b c 4 d)] r f)):=by kernel_rfl
def zsh:List (Nat×List Nat):=[(1,[2,3,4,6,8,31,32,33])]
theorem v330 (v_1 v_2:Int)(a:RW)(b:Int)(f:List UInt8)(e:Int)(g:RW)(k:Int)(c:Nat)(h:Int)(o1_0l o1_1l:Nat)(o1_2 o1_3:Int)(d:Nat)(o2 o3 o4:RW)(j:List MapZ)(l:RW)(r:TV)(i:List AObj):VE zsh 330 7 r i [.agg (Q187 0 3 0 0 v_1 v_2 4 a),Q171 b f e g,Q31 k] (Q196 3 1 6 0 0 6 2 0 c h 2 o1_0l 3 o1_1l o1_2 o1_3 4 d o2 o3 o4 j 2 l)=
  (br ((b:Int)==(3:Int)) (br (decide ((e:Int)<k)) (RT (Q147 (Q65 b f e 4 g) true) (Q196 3 1 6 0 0 6 2 0 c h 2 o1_0l 3 o1_1l o1_2 o1_3 4 d o2 o3 o4 j 2 l) r i) (br ((b:Int)==(3:Int)) ((FV.L 4 (Q9 4 a)=true)∧(Q98 330 7 r i 1 [Q29 2 k,Q151 3 7,Q151 4 8,Q151 6 9,Q151 8 10,Q194 31 a,Q29 32 (length a:Int),Q29 33 0] (Q140 (Q57 3 1 6 0 0 6 2 0 c h) (Q165 2 o1_0l 3 o1_1l o1_2 o1_3 4 d) (Q144 2 o2) (Q141 3 o3) (Q119 4 o4) (Q170 j) (Q17 6 2 l) (Q48 7 4 (Q187 0 3 0 0 v_1 v_2 4 a)) (Q173 8 4 b f e 4 g) (Q121 9 4 0 [] 0) (Q173 10 4 b f (IntKind.wrap .i64 (e-k)) 4 g)) 11)) ((FV.L 4 (Q9 4 a)=true)∧(Q98 330 7 r i 1 [Q29 2 k,Q151 3 7,Q151 4 8,Q151 6 9,Q151 8 10,Q194 31 a,Q29 32 (length a:Int),Q29 33 0] (Q140 (Q57 3 1 6 0 0 6 2 0 c h) (Q165 2 o1_0l 3 o1_1l o1_2 o1_3 4 d) (Q144 2 o2) (Q141 3 o3) (Q119 4 o4) (Q170 j) (Q17 6 2 l) (Q48 7 4 (Q187 0 3 0 0 v_1 v_2 4 a)) (Q173 8 4 b f e 4 g) (Q121 9 4 0 [] 0) (Q173 10 4 b f e 4 g)) 11)))) (br ((b:Int)==(3:Int)) ((FV.L 4 (Q9 4 a)=true)∧(Q98 330 7 r i 1 [Q29 2 k,Q151 3 7,Q151 4 8,Q151 6 9,Q151 8 10,Q194 31 a,Q29 32 (length a:Int),Q29 33 0] (Q140 (Q57 3 1 6 0 0 6 2 0 c h) (Q165 2 o1_0l 3 o1_1l o1_2 o1_3 4 d) (Q144 2 o2) (Q141 3 o3) (Q119 4 o4) (Q170 j) (Q17 6 2 l) (Q48 7 4 (Q187 0 3 0 0 v_1 v_2 4 a)) (Q173 8 4 b f e 4 g) (Q121 9 4 0 [] 0) (Q173 10 4 b f (IntKind.wrap .i64 (e-k)) 4 g)) 11)) ((FV.L 4 (Q9 4 a)=true)∧(Q98 330 7 r i 1 [Q29 2 k,Q151 3 7,Q151 4 8,Q151 6 9,Q151 8 10,Q194 31 a,Q29 32 (length a:Int),Q29 33 0] (Q140 (Q57 3 1 6 0 0 6 2 0 c h) (Q165 2 o1_0l 3 o1_1l o1_2 o1_3 4 d) (Q144 2 o2) (Q141 3 o3) (Q119 4 o4) (Q170 j) (Q17 6 2 l) (Q48 7 4 (Q187 0 3 0 0 v_1 v_2 4 a)) (Q173 8 4 b f e 4 g) (Q121 9 4 0 [] 0) (Q173 10 4 b f e 4 g)) 11)))):=by kernel_rfl
theorem zp1 (t:Int)(g:RW)(x32 c:Int)(a:Nat)(d:Int)(h1_0l h1_1l:Nat)(h1_2 h1_3:Int)(b:Nat)(h2 h3 h4:RW)(q:List MapZ)(s:RW)(h7_1 h7_2:Int)(k:RW)(e:Int)(l:List UInt8)(f:Int)(m:RW)(o:Int)(p:List UInt8)(h9_2 h10_0:Int)(h:List UInt8)(i:Int)(j:RW)(r:TV)(n:List AObj):VQ zsh 330 7 r n 1 ⟨[Q29 2 t,Q151 3 7,Q151 4 8,Q151 6 9,Q151 8 10,Q194 31 g,Q29 32 x32,Q29 33 c],Q140 (Q57 3 1 6 0 0 6 2 0 a d) (Q165 2 h1_0l 3 h1_1l h1_2 h1_3 4 b) (Q144 2 h2) (Q141 3 h3) (Q119 4 h4) (Q170 q) (Q17 6 2 s) (Q48 7 4 (Q187 0 3 0 0 h7_1 h7_2 4 k)) (Q173 8 4 e l f 4 m) (Q121 9 4 o p h9_2) (Q173 10 4 h10_0 h i 4 j),11⟩=
  (br (decide ((c:Int)<x32)) (((FV.L 4 (Q9 4 g)=true)∧((0≤c)∧((c<(length g:Int))∧(((rE (getD g (toNat c) [])):List FV)=(getD g (toNat c) [])))))∧(∃ u:Bool,((Q193 246 [(aE (getD g (toNat c) [])),Q171 h10_0 h i j] u)∧(br u ((FV.L 4 (Q9 4 k)=true)∧(∃ v:Tm,((Q189 247 [Q31 (IntKind.wrap .i64 ((IntKind.wrap .i64 ((IntKind.wrap .i64 (t+(length k:Int)))-(1:Int)))-c))] (aT v))∧(RT (Q147 (cT v) true) (Q196 3 1 6 0 0 6 2 0 a d 2 h1_0l 3 h1_1l h1_2 h1_3 4 b h2 h3 h4 q 2 s) r n)))) (Q98 330 7 r n 1 [Q29 2 t,Q151 3 7,Q151 4 8,Q151 6 9,Q151 8 10,Q194 31 g,Q29 32 x32,Q29 33 (IntKind.wrap .i64 (c+1))] (Q140 (Q57 3 1 6 0 0 6 2 0 a d) (Q165 2 h1_0l 3 h1_1l h1_2 h1_3 4 b) (Q144 2 h2) (Q141 3 h3) (Q119 4 h4) (Q170 q) (Q17 6 2 s) (Q48 7 4 (Q187 0 3 0 0 h7_1 h7_2 4 k)) (Q173 8 4 e l f 4 m) (Q121 9 4 o p h9_2) (Q173 10 4 h10_0 h i 4 j)) 11))))) (br ((e:Int)==(1:Int)) (RT (Q147 (Q65 e l f 4 m) (decide ((f:Int)≤h7_2))) (Q196 3 1 6 0 0 6 2 0 a d 2 h1_0l 3 h1_1l h1_2 h1_3 4 b h2 h3 h4 q 2 s) r n) (RT (Q147 (Q65 e l f 4 m) false) (Q196 3 1 6 0 0 6 2 0 a d 2 h1_0l 3 h1_1l h1_2 h1_3 4 b h2 h3 h4 q 2 s) r n))):=by kernel_rfl
def lv303:List (Nat×List Nat):=[]
theorem v303 (a:Int)(b:List UInt8)(c:Int)(d:RW)(f:Int)(r:TV)(e:List AObj):VE lv303 303 0 r e [Q171 a b c d,Q31 f] []=
  (RT (Q171 a b (IntKind.wrap .i64 (c+f)) d) [] r e):=by kernel_rfl
def lv296:List (Nat×List Nat):=[]
theorem v296 (e:Int)(f:List UInt8)(g:Int)(h:RW)(a:Int)(b:List UInt8)(c:Int)(d:RW)(r:TV)(i:List AObj):VE lv296 296 1 r i [Q171 e f g h,Q62 0 4 0 0] [Q7 4 (Q65 a b c 4 d)]=
  (∃ j:Bool,((Q193 246 [Q171 e f g h,Q171 a b c d] j)∧(Q81 j [Q7 4 (Q65 a b c 4 d)] r i))):=by kernel_rfl
end Go.AM

set_option maxRecDepth 100000
open Go Go.Proofs

set_option maxRecDepth 100000
open Go Go.Proofs

set_option maxRecDepth 100000
open Go Go.Proofs

set_option maxRecDepth 100000
open Go Go.Proofs

set_option maxRecDepth 100000
open Go Go.Proofs
namespace Go.AM
theorem z1l (l:List Cel):(CR l).length=l.length:=by simp [CR]
theorem z4u (l:List Trl):(TR l).length=l.length:=by simp [TR]
theorem zal (l:List (List UInt8)):(NR l).length=l.length:=by simp [NR]
theorem zqc {l:List Cel}{i:Nat}(h:i<l.length):List.getD (CR l) i []=l[i].r:=by simp [CR,List.getD,h]
theorem NR_get {l:List (List UInt8)}{i:Nat}(h:i<l.length):List.getD (NR l) i []=[.str l[i]]:=by simp [NR,List.getD,h]
abbrev aH (o:Nat):TV:= .c (.a (.ep o 6 0 0))
abbrev hp6 (a b d m:Nat)(s:Hp):AObj:= .arr 6 [[.a (.osl a 5 0 s.C.length), .a (.osl b 7 0 s.T.length), .a (.fz (.int .i64 s.M)), .a (.fz (.int .i64 s.L)), .a (.osl d 1 0 s.N.length), .a (.mp m)]]
abbrev oH (s:Hp):List AObj:=[hp6 1 2 3 4 s, .arz 5 (CR s.C), .arz 7 (TR s.T), .arz 1 (NR s.N), .mapz (NM s.N 0)]
abbrev oH' (s:Hp):List AObj:=[hp6 5 6 7 4 s, .gone, .gone, .gone, .mapz (NM s.N 0), .arz 5 (CR s.C), .arz 7 (TR s.T), .arz 1 (NR s.N)]
abbrev aCe (c:Cel):TV:= .agg [.a (.fz (.int .i64 c.t)), .a (.fz (.int .i64 c.a)), .a (.fz (.int .i64 c.b)), .a (.fz (.int .i64 c.c)), .a (.fz (.int .i64 c.d))]
abbrev tCe (c:Cel)(b:Bool):TV:= .tup [(true,[.a (.fz (.int .i64 c.t)), .a (.fz (.int .i64 c.a)), .a (.fz (.int .i64 c.b)), .a (.fz (.int .i64 c.c)), .a (.fz (.int .i64 c.d))]),(false,[.a (.fz (.bool b))])]
abbrev t2 (x:Int×Int):TV:= .tup [(false,[.a (.fz (.int .i64 x.1))]),(false,[.a (.fz (.int .i64 x.2))])]
abbrev noC:Cel:=⟨0,0,0,0,0⟩
def rowB (c:Cel):Bool:=decide (9≤c.t)&&decide (c.t≤11)
def cellOf (C:List Cel)(x:Int):Cel:=if 0≤x∧x<(C.length:Int) then (C[x.toNat]?).getD noC else noC
def inC (C:List Cel)(x:Int):Bool:=decide (0≤x)&&decide (x<(C.length:Int))
theorem z8g {C:List Cel}{x:Int}(h0:0≤x)(h1:x<(C.length:Int)):∃ h:x.toNat<C.length,cellOf C x=C[x.toNat]:=by
 have h:x.toNat<C.length:=by omega
 exact ⟨h,by rw [cellOf,if_pos ⟨h0,h1⟩,List.getElem?_eq_getElem h];rfl⟩
theorem zdr {C:List Cel}{x:Int}(h:¬(0≤x∧x<(C.length:Int))):cellOf C x=noC:=if_neg h
theorem z1k {x y:Bool}{Hs:List AObj}(h:x=y):TV.Le (cb x) (cb y)∧Hs=Hs:=⟨by rw [h];exact .refl _,rfl⟩
theorem zq1 (c t:Int):AC Tryz.prog 23 [ci c,ci t] [] (aH 0) (oH ⟨[],[],z0k [foldMax [c,0],1048576],z0k [foldMax [t,0],1048576],[]⟩):=by
 refine AC.vc hP sh lv23 (by simp) (by simp) (by simp [isLive]) (Eq.mpr (v23 ..) ?_);exact ⟨.refl _,rfl⟩
theorem zlw (c:Cel):AC Tryz.prog 75 [aCe c] [] (cb (rowB c)) []:=by
 refine AC.vc hP sh lv75 (Nat.le_refl _) (by simp) (by simp) (Eq.mpr (v75 ..) ?_);refine z01 (fun h=>z0a ?_) (fun h=>z0a ?_)<;>simp_all [rowB]<;>omega
theorem z41 (s:Hp)(x:Int):AC Tryz.prog 30 [aH 0,ci x] (oH s) (tCe (cellOf s.C x) (inC s.C x)) (oH s):=by
 refine AC.vc hP sh lv30 (Nat.le_refl _) (by simp [isLive]) (by simp) (Eq.mpr (v30 ..) ?_);refine z01 (fun h=> ?_) (fun h=>z01 (fun h'=> ?_) (fun h'=> ?_))
 · have h:=of_decide_eq_true h;rw [zdr (by omega),show inC s.C x=false by simp [inC];omega];exact ⟨.refl _,rfl⟩
 · have h':=of_decide_eq_true h';rw [zdr (by omega),show inC s.C x=false by simp [inC];omega];exact ⟨.refl _,rfl⟩
 · have h:=of_decide_eq_false h;have h':=of_decide_eq_false h';obtain ⟨hl,e⟩:=z8g (C:=s.C) (x:=x) (by omega) (by omega);rw [e,show List.getD (CR s.C) (0+Int.toNat x) []=s.C[x.toNat].r by rw [Nat.zero_add,zqc hl],show inC s.C x=true by simp [inC];omega];refine ⟨⟨by omega,by omega⟩,⟨by rw [z1l];omega,rfl,rfl⟩, .refl _,rfl⟩
def isT (C:List Cel)(x:Int):Bool:=inC C x && !rowB (cellOf C x)
def isR (C:List Cel)(x:Int):Bool:=inC C x&&rowB (cellOf C x)
theorem z66 (s:Hp)(x:Int):AC Tryz.prog 131 [aH 0,ci x] (oH s) (cb (isT s.C x)) (oH s):=by
 refine AC.vc hP sh lv131 (Nat.le_refl _) (by simp [isLive]) (by simp) (Eq.mpr (v131 ..) ?_);refine ⟨_,_,_,_,_,_,z41 s x,z01 (fun h=>⟨_,zlw (cellOf s.C x),z1k ?_⟩) (fun h=>z1k ?_)⟩<;>simp [isT,h]
theorem c_hisr (s:Hp)(x:Int):AC Tryz.prog 132 [aH 0,ci x] (oH s) (cb (isR s.C x)) (oH s):=by
 refine AC.vc hP sh lv132 (Nat.le_refl _) (by simp [isLive]) (by simp) (Eq.mpr (v132 ..) ?_);refine ⟨_,_,_,_,_,_,z41 s x,z01 (fun h=>⟨_,zlw (cellOf s.C x),z1k ?_⟩) (fun h=>z1k ?_)⟩<;>simp [isR,h]
def z20 (s:Hp)(c:Cel):Bool:=
 if c.t=0 then decide (0≤c.a)&&decide (c.a<(s.N.length:Int))
 else if c.t=1 then decide (c.a≥1)
 else if c.t=2 then true
 else if c.t=9 then true
 else if c.t=3 then decide (c.a≥0)
 else if c.t=4 then decide (c.a≥0)
 else if c.t=5 then isT s.C c.a
 else if c.t=6 then isT s.C c.a
 else if c.t=7 then isT s.C c.a&&isT s.C c.b
 else if c.t=8 then isT s.C c.a&&isR s.C c.b&&decide (c.c≥0)&&decide (c.d≥0)
 else if c.t=10 then isR s.C c.a&&decide (c.b≥0)
 else if c.t=11 then isR s.C c.a&&isT s.C c.b&&decide (c.c≥0)
 else false
theorem z04 {x n:Int}{A B:Prop}(h1:x=n→A)(h2:x≠n→B):br (x==n) A B:=z01 (fun h=>h1 (by simpa using h)) (fun h=>h2 (by simpa using h))
theorem zqs (s:Hp)(c:Cel):AC Tryz.prog 74 [aH 0,aCe c] (oH s) (cb (z20 s c)) (oH s):=by
 have ta:=z66 s c.a;have tb:=z66 s c.b;have ra:=c_hisr s c.a;have rb:=c_hisr s c.b;refine AC.vc hP sh lv74 (Nat.le_refl _) (by simp [isLive]) (by simp) (Eq.mpr (v74 ..) ?_);refine z04 (fun e0=> ?_) (fun n0=>z04 (fun e1=> ?_) (fun n1=>z04 (fun e2=> ?_) (fun n2=>z04 (fun e9=> ?_) (fun n9=>z04 (fun e3=> ?_) (fun n3=>z04 (fun e4=> ?_) (fun n4=>z04 (fun e5=> ?_) (fun n5=>z04 (fun e6=> ?_) (fun n6=>z04 (fun e7=> ?_) (fun n7=>z04 (fun e8=> ?_) (fun n8=>z04 (fun e10=> ?_) (fun n10=>z04 (fun e11=> ?_) (fun n11=> ?_))))))))))))
 · refine z01 (fun h=>z1k ?_) (fun h=>z1k ?_)<;>simp [z20,e0]<;>simp at h<;>omega
 · exact z1k (by simp [z20,e1])
 · exact z1k (by simp [z20,e2])
 · exact z1k (by simp [z20,e9])
 · exact z1k (by simp [z20,e3])
 · exact z1k (by simp [z20,e4])
 · exact ⟨_,ta,z1k (by simp [z20,e5])⟩
 · exact ⟨_,ta,z1k (by simp [z20,e6])⟩
 · exact ⟨_,ta,z01 (fun h=>⟨_,tb,z1k (by simp [z20,e7,h])⟩) (fun h=>z1k (by simp [z20,e7,h]))⟩
 · exact ⟨_,ta,z01 (fun h=>⟨_,rb,z01 (fun g=>z01 (fun q=>z1k (by simp [z20,e8,h,g];simp at q;omega)) (fun q=>z1k (by simp [z20,e8,h,g];simp at q;omega))) (fun g=>z1k (by simp [z20,e8,h,g]))⟩) (fun h=>z1k (by simp [z20,e8,h]))⟩
 · exact ⟨_,ra,z01 (fun h=>z1k (by simp [z20,e10,h])) (fun h=>z1k (by simp [z20,e10,h]))⟩
 · exact ⟨_,ra,z01 (fun h=>⟨_,tb,z01 (fun g=>z1k (by simp [z20,e11,h,g])) (fun g=>z1k (by simp [z20,e11,h,g]))⟩) (fun h=>z1k (by simp [z20,e11,h]))⟩
 · exact z1k (by simp [z20,n0,n1,n2,n9,n3,n4,n5,n6,n7,n8,n10,n11])
def putS (s:Hp)(c:Cel):(Int×Int)×Hp:=
 if z20 s c=false then ((0,1),s) else if s.M≤(s.C.length:Int) then ((0,200),s) else (((s.C.length:Int),0),{ s with C:=s.C++ [c] })
theorem z2c (s:Hp)(c:Cel)(hB:s.C.length≤1073741824):AC Tryz.prog 25 [aH 0,aCe c] (oH s) (t2 (putS s c).1) (oH' (putS s c).2):=by
 refine AC.vc hP sh lv25 (by simp) (by simp [isLive]) (by simp [isLive]) (Eq.mpr (v25 ..) ?_);refine ⟨_,zqs s c,z01 (fun h=> ?_) (fun h=>z01 (fun h2=> ?_) (fun h2=>⟨Nat.le_refl _,⟨by rw [z1l];omega, ?_⟩, ?_⟩))⟩
 · rw [putS,if_pos (by simpa using h)];exact ⟨.refl _,rfl⟩
 · rw [putS,if_neg (by simpa using h),if_pos (of_decide_eq_true h2)];exact ⟨.refl _,rfl⟩
 · simp only [z0c];omega
 · have h2:¬s.M≤(s.C.length:Int):=of_decide_eq_false h2;rw [putS,if_neg (by simpa using h),if_neg h2];have e1:(s.C++ [c]).length=s.C.length+1:=by simp
   have e2:CR (s.C++ [c])=List.take s.C.length (CR s.C)++ [c.r]:=by rw [List.take_of_length_le (by rw [z1l];omega)];simp [CR]
   have e3:IntKind.wrap .i64 (((s.C.length+1:Nat):Int)-1)=(s.C.length:Int):=by rw [w64 (by omega) (by omega)];omega
   simp only [oH',hp6,e1,e2,e3];exact ⟨.refl _,by first | exact trivial | rfl⟩
def zm3 (nm:List UInt8):List (List UInt8)→Nat→Option Nat
 | [],_=>none
 | s::l,i=>if (((nm:List UInt8)==s)&&true)=true then some i else zm3 nm l (i+1)
abbrev mN:(Bool×List EK)×(Bool×List WV):=((false,[EK.str]),(false,[.a (.fz (.int .i64 0))]))
theorem findN (nm:List UInt8):∀ (l:List (List UInt8)) (i j:Nat),(zm3 nm l i=none→z3z mN.1 [.str nm] ((NM l i).map thaw) j=some none)∧
  ∀ x,zm3 nm l i=some x→∃ q,x=i+q∧l[q]? =some nm∧z3z mN.1 [.str nm] ((NM l i).map thaw) j=some (some (j+q))∧(NM l i)[q]? =some ((false,[.str nm]),(false,[.int .i64 (x:Int)]))
 | [],i,j=>⟨fun _=>rfl,fun x h=>by cases h⟩
 | s::l,i,j=>by
  have ih:=findN nm l (i+1) (j+1);have hf:z3z mN.1 [.str nm] ((NM (s::l) i).map thaw) j=if (((nm:List UInt8)==s)&&true)=true then some (some j) else z3z mN.1 [.str nm] ((NM l (i+1)).map thaw) (j+1):=rfl
  rw [hf,zm3];by_cases q:(((nm:List UInt8)==s)&&true)=true
  · rw [if_pos q,if_pos q];have e:nm=s:=by simpa using q
    exact ⟨fun h=>(by cases h),fun x h=>⟨0,by injection h with h;omega,by rw [e];rfl,rfl,by injection h with h;rw [e,←h];rfl⟩⟩
  · rw [if_neg q,if_neg q];refine ⟨ih.1,fun x h=> ?_⟩;obtain ⟨k,h1,h2,h3,h4⟩:=ih.2 x h;exact ⟨k+1,by omega,by simpa using h2,by rw [h3,show j+1+k=j+(k+1) by omega],by simpa [NM] using h4⟩
theorem zhb (nm:List UInt8):∀ (l:List (List UInt8)) (i:Nat),NM (l++ [nm]) i=NM l i++ [((false,[.str nm]),(false,[.int .i64 ((i+l.length:Nat):Int)]))]
 | [],i=>by simp [NM]
 | s::l,i=>by rw [List.cons_append,NM,NM,zhb nm l (i+1),List.length_cons,show i+1+l.length=i+(l.length+1) by omega];rfl
def symS (s:Hp)(nm:List UInt8):Int×Hp:=match zm3 nm s.N 0 with | some i=>((i:Int),s) | none=>((s.N.length:Int),{ s with N:=s.N++ [nm] })
theorem zs5 (s:Hp)(nm:List UInt8)(hB:s.N.length≤1073741824):AC Tryz.prog 24 [aH 0,cs nm] (oH s) (ci (symS s nm).1) (oH' (symS s nm).2):=by
 refine AC.vc hP sh lv24 (by simp) (by simp [isLive]) (by simp [isLive]) (Eq.mpr (v24 ..) ?_);have hf:=findN nm s.N 0 0
 match hn:zm3 nm s.N 0 with
 | some i=>
  obtain ⟨q,h1,_,h3,h4⟩:=hf.2 i hn;refine .inl ⟨(i:Int), ?_, ?_⟩
  · unfold zgl;rw [h3];simp only [Nat.zero_add,h4,if_true]
  · simp only [symS,hn];exact ⟨.refl _,by first | exact trivial | rfl⟩
 | none=>
  have h1:=hf.1 hn;refine .inr ⟨by unfold zgl;rw [h1],_,(by unfold updZ;rw [h1]),Nat.le_refl _,⟨by rw [zal];omega,by simp only [z0c];omega⟩, ?_⟩;simp only [symS,hn];have e1:(s.N++ [nm]).length=s.N.length+1:=by simp
  have e2:NR (s.N++ [nm])=List.take s.N.length (NR s.N)++ [[.str nm]]:=by rw [List.take_of_length_le (by rw [zal];omega)];simp [NR]
  have e3:=zhb nm s.N 0;rw [Nat.zero_add] at e3;simp only [oH',hp6,e1,e2,e3];exact ⟨.refl _,by first | exact trivial | rfl⟩
def z9u (N:List (List UInt8))(i:Int):List UInt8:=if 0≤i∧i<(N.length:Int) then (N[i.toNat]?).getD [] else []
theorem zqk {N:List (List UInt8)}{x:Int}(h0:0≤x)(h1:x<(N.length:Int)):∃ h:x.toNat<N.length,z9u N x=N[x.toNat]:=by
 have h:x.toNat<N.length:=by omega
 exact ⟨h,by rw [z9u,if_pos ⟨h0,h1⟩,List.getElem?_eq_getElem h];rfl⟩
theorem ret_sH {x y:List UInt8}{Hs:List AObj}(h:x=y):TV.Le (cs x) (cs y)∧Hs=Hs:=⟨by rw [h];exact .refl _,rfl⟩
theorem znx (s:Hp)(i:Int):AC Tryz.prog 129 [aH 0,ci i] (oH s) (cs (z9u s.N i)) (oH s):=by
 refine AC.vc hP sh lv129 (Nat.le_refl _) (by simp [isLive]) (by simp) (Eq.mpr (v129 ..) ?_);refine z01 (fun h=> ?_) (fun h=>z01 (fun h'=> ?_) (fun h'=> ?_))
 · exact ret_sH (by simp at h;rw [z9u,if_neg (by omega)])
 · exact ret_sH (by simp at h';rw [z9u,if_neg (by omega)])
 · have h:=of_decide_eq_false h;have h':=of_decide_eq_false h';obtain ⟨hl,e⟩:=zqk (N:=s.N) (x:=i) (by omega) (by omega);rw [e,show List.getD (NR s.N) (0+Int.toNat i) []=[.str s.N[i.toNat]] by rw [Nat.zero_add,NR_get hl]];exact ⟨⟨by omega,by omega⟩,⟨by rw [zal];omega,rfl,rfl⟩, .refl _,rfl⟩
end Go.AM

set_option maxRecDepth 100000
open Go Go.Proofs
namespace Go.AM
theorem fmax0 {x:Int}(h:0≤x):foldMax [x,0]=x:=by
 simp only [foldMax,List.foldl,max,maxOfLe];split<;>omega
theorem fmax2 {x y z:Int}(h:foldMax [x,y]=z):z=x∨z=y:=by
 subst h;simp only [foldMax,List.foldl,max,maxOfLe];split<;>simp
theorem zp2 {l:List Trl}{i:Nat}(h:i<l.length):List.getD (TR l) i []=l[i].r:=by simp [TR,List.getD,h]
theorem zq6 (C:List Cel)(i:Nat)(c:Cel):CR (C.set i c)=List.set (CR C) i c.r:=by simp [CR,List.map_set]
theorem zb8 {n:Nat}{fs gs:List (List FV)}(hl:gs.length≤fs.length)(h:∀ (i:Nat) (e e':List FV),fs[i]? =some e→gs[i]? =some e'→LeR e e'):OLe (.arz n fs) (.arz n gs):=
 .rows n fs gs hl (fun i e e' he he'=>(h i e e' he he').length) fun i j e e' f f' he he' hf hf'=>(h i e e' he he').get j f f' hf hf'
theorem c_hmark (s:Hp):AC Tryz.prog 28 [aH 0] (oH s) (.agg [.a (.fz (.int .i64 (s.C.length:Int))), .a (.fz (.int .i64 (s.T.length:Int)))]) (oH s):=by
 refine AC.vc hP sh lv28 (Nat.le_refl _) (by simp [isLive]) (by simp) (Eq.mpr (v28 ..) ?_);exact ⟨.refl _,rfl⟩
def topS (T:List Trl)(x:Int):Int:=if h:0<T.length then foldMax [x,T[T.length-1].top] else x
def setS (s:Hp)(x:Int)(c:Cel):Int×Hp:=
 if inC s.C x=false then (1,s) else if z20 s c=false then (1,s) else if (rowB (cellOf s.C x)==rowB c)=false then (1,s) else if s.L≤(s.T.length:Int) then (201,s)
 else (0,{ s with C:=s.C.set x.toNat c,T:=s.T++ [⟨x,cellOf s.C x,topS s.T x⟩] })
theorem c_hset (s:Hp)(x:Int)(c:Cel)(hT:s.T.length≤1073741824):AC Tryz.prog 26 [aH 0,ci x,aCe c] (oH s) (ci (setS s x c).1) (oH' (setS s x c).2):=by
 refine AC.vc hP sh lv26 (by simp) (by simp [isLive]) (by simp [isLive]) (Eq.mpr (v26 ..) ?_);refine ⟨_,_,_,_,_,_,z41 s x,z01 (fun h=> ?_) (fun h=>⟨_,zqs s c,z01 (fun h2=> ?_) (fun h2=>⟨_,zlw (cellOf s.C x),_,zlw c,z01 (fun h3=> ?_) (fun h3=>z01 (fun h4=> ?_) (fun h4=> ?_))⟩)⟩)⟩
 · rw [setS,if_pos (by simpa using h)];exact ⟨.refl _,rfl⟩
 · rw [setS,if_neg (by simpa using h),if_pos (by simpa using h2)];exact ⟨.refl _,rfl⟩
 · rw [setS,if_neg (by simpa using h),if_neg (by simpa using h2),if_pos (by simpa using h3)];exact ⟨.refl _,rfl⟩
 · rw [setS,if_neg (by simpa using h),if_neg (by simpa using h2),if_neg (by simpa using h3),if_pos (of_decide_eq_true h4)];exact ⟨.refl _,rfl⟩
 · have h4:¬s.L≤(s.T.length:Int):=of_decide_eq_false h4;rw [setS,if_neg (by simpa using h),if_neg (by simpa using h2),if_neg (by simpa using h3),if_neg h4];have hin:inC s.C x=true:=by simpa using h
   simp only [inC,Bool.and_eq_true,decide_eq_true_eq] at hin;obtain ⟨hl,_⟩:=z8g hin.1 hin.2;have e1:(s.C.set x.toNat c).length=s.C.length:=by simp
   have e2:∀ e:Trl,(s.T++ [e]).length=s.T.length+1:=by simp
   have e3:∀ e:Trl,TR (s.T++ [e])=List.take s.T.length (TR s.T)++ [e.r]:=fun e=>by rw [List.take_of_length_le (by rw [z4u];omega)];simp [TR]
   have eC:=z1l s.C;have eT:=z4u s.T;have room:z0c (s.T.length+1) 56:=by simp only [z0c];omega
   have hg:(List.getD (CR s.C) (0+Int.toNat x) []).length=5:=by rw [Nat.zero_add,zqc hl];rfl
   refine z01 (fun h5=> ?_) (fun h5=> ?_)
   · have h5:((s.T.length:Nat):Int)>0:=of_decide_eq_true h5;have ew:IntKind.wrap .i64 ((s.T.length:Int)-1)=((s.T.length-1:Nat):Int):=by rw [w64 (by omega) (by omega)];omega
     have eg:List.getD (TR s.T) (0+Int.toNat ((s.T.length-1:Nat):Int)) []=(s.T[s.T.length-1]'(by omega)).r:=by rw [Nat.zero_add,Int.toNat_natCast,zp2 (by omega)]
     rw [ew,eg];refine ⟨⟨by omega,by omega⟩,⟨by omega,rfl,rfl⟩,Nat.le_refl _,⟨by omega,room⟩,hin,⟨by omega,hg⟩, ?_⟩;simp only [oH',hp6,e1,e2,e3,topS,show 0<s.T.length by omega,dite_true,zq6,Nat.zero_add];exact ⟨.refl _,rfl⟩
   · have h5:¬((s.T.length:Nat):Int)>0:=of_decide_eq_false h5;refine ⟨Nat.le_refl _,⟨by omega,room⟩,hin,⟨by omega,hg⟩, ?_⟩;simp only [oH',hp6,e1,e2,e3,topS,show¬0<s.T.length by omega,dite_false,zq6,Nat.zero_add];exact ⟨.refl _,by first | exact trivial | rfl⟩
def z5s (T:List Trl)(C:List Cel):List Cel:=T.foldr (fun e C=>C.set e.o.toNat e.x) C
theorem z36:∀ (T:List Trl) (C:List Cel),(z5s T C).length=C.length
 | [],_=>rfl
 | e::T,C=>by rw [z5s,List.foldr_cons,List.length_set];exact z36 T C
theorem zde (T:List Trl)(e:Trl)(C:List Cel):z5s (T++ [e]) C=z5s T (C.set e.o.toNat e.x):=by simp [z5s]
abbrev stU (s:Hp)(C:List Cel)(j:Nat)(x n k:Int):St:=
 ⟨[(0,aH 0),(3, .c (.a (.ep 8 2 0 0))),(4,ci x)],[(0, .arr 6 [[.a (.osl 5 5 0 s.C.length), .a (.osl 6 7 0 j), .a (.fz (.int .i64 s.M)), .a (.fz (.int .i64 s.L)), .a (.osl 7 1 0 s.N.length), .a (.mp 4)]]),(1, .gone),(2, .gone),(3, .gone),(4, .mapz (NM s.N 0)),(5, .arz 5 (CR C)),(6, .arz 7 (TR s.T)),(7, .arz 1 (NR s.N)),(8, .arr 2 [[.a (.fz (.int .i64 n)), .a (.fz (.int .i64 k))]])],9⟩
theorem zpy (s:Hp)(n k:Nat)(hk:k≤s.T.length)(hB:s.T.length≤1073741824)(hn:n≤s.C.length)(hT:∀ e∈s.T,0≤e.o∧e.o<(s.C.length:Int))(hp:∀ e∈s.T.take k,e.top<(n:Int)):
  ∀ (d j:Nat) (C:List Cel),j=k+d→j≤s.T.length→C.length=s.C.length→
  RPt Tryz.prog 69 5 (.tup []) [.arr 6 [[.a (.osl 5 5 0 n), .a (.osl 6 7 0 k), .a (.fz (.int .i64 s.M)), .a (.fz (.int .i64 s.L)), .a (.osl 7 1 0 s.N.length), .a (.mp 4)]], .gone, .gone, .gone, .mapz (NM s.N 0), .arz 5 (CR (z5s ((s.T.take j).drop k) C)), .arz 7 (TR s.T), .arz 1 (NR s.N)] 1
   (stU s C j ((j:Int)-1) (n:Int) (k:Int))
 | 0,j,C,hj,hl,hC=>by
  refine RPt.vc hP sh lv69 (Eq.mpr (v69_1a ..) ?_);obtain rfl:j=k:=by omega
  rw [fmax0 (x:=(j:Int)) (by omega),fmax0 (x:=(n:Int)) (by omega),Int.toNat_natCast,show z5s ((s.T.take j).drop j) C=C by rw [List.drop_eq_nil_of_le (by rw [List.length_take];omega)];rfl];refine z01 (fun h=>absurd (of_decide_eq_true h) (by omega)) (fun _=>z01 (fun h=>⟨⟨by omega,by omega,by omega⟩,z01 (fun h2=> ?_) (fun _=>⟨.refl _,rfl⟩)⟩) (fun h=> ?_))
  · have h2:((j:Nat):Int)>0:=of_decide_eq_true h2;have ew:IntKind.wrap .i64 ((j:Int)-1)=((j-1:Nat):Int):=by rw [w64 (by omega) (by omega)];omega
    have hlt:j-1<s.T.length:=by omega
    have eg:List.getD (TR s.T) (0+Int.toNat ((j-1:Nat):Int)) []=s.T[j-1].r:=by rw [Nat.zero_add,Int.toNat_natCast,zp2 hlt]
    have ht:s.T[j-1].top<(n:Int):=hp _ (List.mem_take_iff_getElem.2 ⟨j-1,by omega,rfl⟩);have eT:=z4u s.T;rw [ew,eg];refine ⟨⟨by omega,by omega⟩,⟨by omega,rfl,rfl⟩,z01 (fun h=>absurd (of_decide_eq_true h) (Int.not_le.2 ht)) (fun _=>⟨.refl _,rfl⟩)⟩
  · have h:=of_decide_eq_false h;have e:s.C.length=n:=by omega
    rw [e];exact ⟨.refl _,rfl⟩
 | d+1,j,C,hj,hl,hC=>by
  refine RPt.vc hP sh lv69 (Eq.mpr (v69_1a ..) ?_);have hlt:j-1<s.T.length:=by omega
  have et:Int.toNat ((j:Int)-1)=j-1:=by omega
  have eg:List.getD (TR s.T) (0+(j-1)) []=s.T[j-1].r:=by rw [Nat.zero_add,zp2 hlt]
  have eT:=z4u s.T;have eC:=z1l C;obtain ⟨o1,o2⟩:=hT s.T[j-1] (List.getElem_mem hlt);have hol:(s.T[j-1].o).toNat<C.length:=by omega
  have hg:(List.getD (CR C) (0+(s.T[j-1].o).toNat) []).length=5:=by rw [Nat.zero_add,zqc hol];rfl
  rw [fmax0 (x:=(k:Int)) (by omega),et,eg,w64 (x:=(j:Int)-1-1) (by omega) (by omega)];have nx:=zpy s n k hk hB hn hT hp d (j-1) (C.set (s.T[j-1].o).toNat s.T[j-1].x) (by omega) (by omega) (by rw [List.length_set];exact hC)
  have ed:(s.T.take j).drop k=(s.T.take (j-1)).drop k++ [s.T[j-1]]:=by
   have e1:s.T.take j=s.T.take (j-1)++ [s.T[j-1]]:=by
    have:=List.take_append_getElem (l:=s.T) (i:=j-1) hlt;rw [show j-1+1=j by omega] at this;exact this.symm
   rw [e1,List.drop_append_of_le_length (by rw [List.length_take];omega)]
  simp only [stU] at nx;rw [←zde,←ed,zq6,show ((j-1:Nat):Int)=(j:Int)-1 by omega] at nx;refine z01 (fun _=>⟨⟨by omega,by omega⟩,⟨by omega,rfl,rfl⟩,⟨o1,o2⟩,⟨by show 0+(s.T[j-1].o).toNat<(CR C).length;omega,hg⟩,⟨by omega,by omega,by omega⟩, ?_⟩) (fun h=>absurd (of_decide_eq_false h) (by omega));rw [Nat.zero_add];exact nx
def z5r (s:Hp)(n k:Nat):Hp:={ s with C:=(z5s (s.T.drop k) s.C).take n,T:=s.T.take k }
theorem c_hundo (s:Hp)(n k:Nat)(hk:k≤s.T.length)(hB:s.T.length≤1073741824)(hn:n≤s.C.length)(hT:∀ e∈s.T,0≤e.o∧e.o<(s.C.length:Int))(hp:∀ e∈s.T.take k,e.top<(n:Int)):
  AC Tryz.prog 69 [aH 0, .agg [.a (.fz (.int .i64 (n:Int))), .a (.fz (.int .i64 (k:Int)))]] (oH s) (.tup []) (oH' (z5r s n k)):=by
 have e1:(z5r s n k).C.length=n:=by simp only [z5r,List.length_take,z36];omega
 have e2:(z5r s n k).T.length=k:=by simp only [z5r,List.length_take];omega
 have hl:=zpy s n k hk hB hn hT hp (s.T.length-k) s.T.length s.C (by omega) (Nat.le_refl _) rfl;rw [List.take_of_length_le (Nat.le_refl _)] at hl;refine AC.obj (Hs':=[.arr 6 [[.a (.osl 5 5 0 n), .a (.osl 6 7 0 k), .a (.fz (.int .i64 s.M)), .a (.fz (.int .i64 s.L)), .a (.osl 7 1 0 s.N.length), .a (.mp 4)]], .gone, .gone, .gone, .mapz (NM s.N 0), .arz 5 (CR (z5s (s.T.drop k) s.C)), .arz 7 (TR s.T), .arz 1 (NR s.N)]) ?_ ⟨?_, .refl _, .refl _, .refl _, .refl _, ?_, ?_, .refl _,trivial⟩
 · refine AC.vc hP sh lv69 (by simp) (by simp [isLive]) (by simp [isLive]) (Eq.mpr (v69 ..) ?_);rw [w64 (x:=(s.T.length:Int)-1) (by omega) (by omega)];exact hl
 · rw [hp6,e1,e2];exact .refl _
 · refine zb8 (by rw [z1l,z1l,e1,z36];exact hn) fun i e e' he he'=> ?_;rw [CR,List.getElem?_map] at he he';obtain ⟨v,hv,rfl⟩:=Option.map_eq_some_iff.1 he';obtain ⟨v2,hv2,rfl⟩:=Option.map_eq_some_iff.1 he;rw [z5r,List.getElem?_take] at hv;split at hv
   · rw [hv2] at hv;injection hv with hv;subst hv;exact LeR.refl _
   · cases hv
 · refine zb8 (by rw [z4u,z4u,e2];exact hk) fun i e e' he he'=> ?_;rw [TR,List.getElem?_map] at he he';obtain ⟨v,hv,rfl⟩:=Option.map_eq_some_iff.1 he';obtain ⟨v2,hv2,rfl⟩:=Option.map_eq_some_iff.1 he;rw [z5r,List.getElem?_take] at hv;split at hv
   · rw [hv2] at hv;injection hv with hv;subst hv;exact LeR.refl _
   · cases hv
end Go.AM

set_option maxRecDepth 100000
open Go Go.Proofs
namespace Go.AM
abbrev wr (x:Int):Int:=IntKind.wrap .i64 x
def z0w (r:Rd)(e:Int):Rd:=⟨r.s,r.f,if r.e=0 then e else r.e⟩
def putR (r:Rd)(c:Cel):Int×Rd:=if r.e=0 then ((putS r.s c).1.1,⟨(putS r.s c).2,r.f,(putS r.s c).1.2⟩) else (0,r)
def z0m (r:Rd)(a b:Int):Rd:=if r.e=0∧a≠b then ⟨(setS r.s a ⟨5,b,0,0,0⟩).2,r.f,(setS r.s a ⟨5,b,0,0,0⟩).1⟩ else r
def z3w (C:List Cel):Nat→Int→Int
 | 0,a=>a
 | n+1,a=>if inC C a=false then a else if (cellOf C a).t≠5 then a else z3w C n (cellOf C a).a
def z2b (C:List Cel)(a:Int):Int:=z3w C C.length a
def z02 (r:Rd)(a:Int):(Cel×Int)×Rd:=
 if inC r.s.C (z2b r.s.C a)=false then ((⟨2,0,0,0,0⟩,0),z0w r 1)
 else if 9≤(cellOf r.s.C (z2b r.s.C a)).t then ((⟨2,0,0,0,0⟩,0),z0w r 1)
 else if (cellOf r.s.C (z2b r.s.C a)).t=5 then ((⟨2,0,0,0,0⟩,0),z0w r 1)
 else if r.f≤0 then ((⟨2,0,0,0,0⟩,0),z0w r 80)
 else if r.e≠0 then ((⟨2,0,0,0,0⟩,0),r)
 else ((cellOf r.s.C (z2b r.s.C a),z2b r.s.C a),⟨r.s,r.f-1,r.e⟩)
def z3m (r:Rd)(a u:Int):Int×Rd:=
 if u=0 then (a,r) else putR (putR r ⟨9,0,0,0,0⟩).2 ⟨8,a,(putR r ⟨9,0,0,0,0⟩).1,0,u⟩
def z0p:Nat→Rd→Int→Int→(Cel×Bool)×Rd
 | 0,r,_,_=>((noC,false),r)
 | n+1,r,row,j=>
  if inC r.s.C row=false then ((noC,false),z0w r 1)
  else if (cellOf r.s.C row).t<9 then ((noC,false),z0w r 1)
  else if (cellOf r.s.C row).t=9 then ((noC,false),r)
  else if j=0 then ((cellOf r.s.C row,true),r)
  else if r.f≤0 then ((noC,false),z0w r 80)
  else z0p n ⟨r.s,r.f-1,r.e⟩ (cellOf r.s.C row).a (wr (j-1))
def losR (n:Nat)(r:Rd)(s:Cel)(j:Int):Int×Rd:=
 if j<s.c then
  if (z0p n r s.b j).1.2=true then
   if (z0p n r s.b j).1.1.t=10 then putR (z0p n r s.b j).2 ⟨3,wr (wr (s.d-1)-(z0p n r s.b j).1.1.b),0,0,0⟩ else z3m (z0p n r s.b j).2 (z0p n r s.b j).1.1.b (wr (s.d-(z0p n r s.b j).1.1.c))
  else putR (z0p n r s.b j).2 ⟨3,wr (wr (j-s.c)+s.d),0,0,0⟩
 else putR r ⟨3,wr (wr (j-s.c)+s.d),0,0,0⟩
def z1i (r:Rd)(s:Cel)(a row more:Int):Int×Rd:=putR r ⟨8,a,row,wr (s.c+more),wr (s.d+more)⟩
def lamR (r:Rd)(s:Cel)(b:Int):Int×Rd:=
 putR (z1i (putR r ⟨10,s.b,s.d,0,0⟩).2 s b (putR r ⟨10,s.b,s.d,0,0⟩).1 1).2 ⟨6,(z1i (putR r ⟨10,s.b,s.d,0,0⟩).2 s b (putR r ⟨10,s.b,s.d,0,0⟩).1 1).1,0,0,0⟩
def appR (r:Rd)(s:Cel)(f x:Int):Int×Rd:=
 putR (z1i (z1i r s f s.b 0).2 s x s.b 0).2 ⟨7,(z1i r s f s.b 0).1,(z1i (z1i r s f s.b 0).2 s x s.b 0).1,0,0⟩
def z4h (n:Nat)(c:Cel)(t:Int)(r:Rd)(s:Cel):Int×Rd:=
 if c.t=3 then losR n r s c.a else if c.t=6 then lamR r s c.a else if c.t=7 then appR r s c.a c.b else (t,r)
def z5e (n:Nat)(v:(Cel×Int)×Rd)(s:Cel):Int×Rd:=
 if v.2.e≠0 then (v.1.2,v.2) else if s.c=0∧s.d=0 then (v.1.2,v.2) else z4h n v.1.1 v.1.2 v.2 s
mutual
def z05:Nat→Rd→Cel→Int×Rd
 | 0,r,_=>(0,r)
 | n+1,r,s=>z5e (n+1) (z2p n (z02 r s.a)) s
def z2p:Nat→(Cel×Int)×Rd→(Cel×Int)×Rd
 | 0,v=>v
 | n+1,v=>if v.2.e=0∧v.1.1.t=8 then z2p n (z02 (z0m (z05 n v.2 v.1.1).2 v.1.2 (z05 n v.2 v.1.1).1) (z05 n v.2 v.1.1).1) else v
end
def z4k (r:Rd)(b arg:Int):Int×Rd:=
 putR (putR (putR r ⟨9,0,0,0,0⟩).2 ⟨11,(putR r ⟨9,0,0,0,0⟩).1,arg,0,0⟩).2 ⟨8,b,(putR (putR r ⟨9,0,0,0,0⟩).2 ⟨11,(putR r ⟨9,0,0,0,0⟩).1,arg,0,0⟩).1,1,0⟩
structure OkH (s:Hp):Prop where
 C:s.C.length≤1048576
 M:s.M≤1048576
 T:s.T.length≤1048576
 L:s.L≤1048576
theorem OkH.put {s:Hp}(h:OkH s)(c:Cel):OkH (putS s c).2:=by
 unfold putS;split
 · exact h
 · split
   · exact h
   · rename_i _ q;have:=h.M;exact ⟨by simp only [List.length_append,List.length_singleton];omega,h.M,h.T,h.L⟩
theorem OkH.set {s:Hp}(h:OkH s)(a:Int)(c:Cel):OkH (setS s a c).2:=by
 unfold setS;split
 · exact h
 · split
   · exact h
   · split
     · exact h
     · split
       · exact h
       · rename_i _ _ _ q;have:=h.L;exact ⟨by simp only [List.length_set];exact h.C,h.M,by simp only [List.length_append,List.length_singleton];omega,h.L⟩
structure OkR (r:Rd):Prop where
 h:OkH r.s
 f0:0-4611686018427387904≤r.f
 f1:r.f≤4611686018427387904
theorem OkR.fail {r:Rd}(h:OkR r)(e:Int):OkR (z0w r e):=⟨h.h,h.f0,h.f1⟩
theorem OkR.put {r:Rd}(h:OkR r)(c:Cel):OkR (putR r c).2:=by
 unfold putR;split
 · exact ⟨h.h.put c,h.f0,h.f1⟩
 · exact h
theorem OkR.keep {r:Rd}(h:OkR r)(a b:Int):OkR (z0m r a b):=by
 unfold z0m;split
 · exact ⟨h.h.set a _,h.f0,h.f1⟩
 · exact h
theorem OkR.less {r:Rd}(h:OkR r)(h0:¬r.f≤0):OkR ⟨r.s,r.f-1,r.e⟩:=⟨h.h,by have:=h.f0;dsimp only;omega,by have:=h.f1;dsimp only;omega⟩
theorem OkR.visit {r:Rd}(h:OkR r)(a:Int):OkR (z02 r a).2:=by
 unfold z02;split
 · exact h.fail 1
 · split
   · exact h.fail 1
   · split
     · exact h.fail 1
     · split
       · exact h.fail 80
       · split
         · exact h
         · rename_i q _;exact h.less q
theorem OkR.lift {r:Rd}(h:OkR r)(a u:Int):OkR (z3m r a u).2:=by
 unfold z3m;split
 · exact h
 · exact (h.put _).put _
theorem OkR.entry:∀ (n:Nat) {r:Rd} (row j:Int),OkR r→OkR (z0p n r row j).2
 | 0,_,_,_,h=>h
 | n+1,r,row,j,h=>by
  rw [z0p];split
  · exact h.fail 1
  · split
    · exact h.fail 1
    · split
      · exact h
      · split
        · exact h
        · split
          · exact h.fail 80
          · rename_i q;exact OkR.entry n _ _ (h.less q)
theorem OkR.loose (n:Nat){r:Rd}(h:OkR r)(s:Cel)(j:Int):OkR (losR n r s j).2:=by
 have e:=OkR.entry n s.b j h;unfold losR;split
 · split
   · split
     · exact e.put _
     · exact e.lift _ _
   · exact e.put _
 · exact h.put _
theorem OkR.lam {r:Rd}(h:OkR r)(s:Cel)(b:Int):OkR (lamR r s b).2:=((h.put _).put _).put _
theorem OkR.app {r:Rd}(h:OkR r)(s:Cel)(f x:Int):OkR (appR r s f x).2:=((h.put _).put _).put _
theorem OkR.level (n:Nat){r:Rd}(h:OkR r)(c:Cel)(t:Int)(s:Cel):OkR (z4h n c t r s).2:=by
 unfold z4h;split
 · exact h.loose n s _
 · split
   · exact h.lam s _
   · split
     · exact h.app s _ _
     · exact h
theorem OkR.spun (n:Nat){v:(Cel×Int)×Rd}(h:OkR v.2)(s:Cel):OkR (z5e n v s).2:=by
 unfold z5e;split
 · exact h
 · split
   · exact h
   · exact h.level n _ _ s
mutual
theorem OkR.open:∀ (n:Nat) {r:Rd} (s:Cel),OkR r→OkR (z05 n r s).2
 | 0,_,_,h=>h
 | n+1,r,s,h=>by
  rw [z05];exact OkR.spun (n+1) (OkR.spin n (h.visit s.a)) s
theorem OkR.spin:∀ (n:Nat) {v:(Cel×Int)×Rd},OkR v.2→OkR (z2p n v).2
 | 0,_,h=>h
 | n+1,v,h=>by
  rw [z2p];split
  · exact OkR.spin n (((OkR.open n v.1.1 h).keep _ _).visit _)
  · exact h
end
theorem OkR.beta {r:Rd}(h:OkR r)(b arg:Int):OkR (z4k r b arg).2:=((h.put _).put _).put _
abbrev aRd:TV:= .c (.a (.ep 0 3 0 0))
abbrev rd3 (o:Nat)(r:Rd):AObj:= .arr 3 [[.a (.ep o 6 0 0), .a (.fz (.int .i64 r.f)), .a (.fz (.int .i64 r.e))]]
abbrev oRd (r:Rd):List AObj:=[rd3 1 r,hp6 2 3 4 5 r.s, .arz 5 (CR r.s.C), .arz 7 (TR r.s.T), .arz 1 (NR r.s.N), .mapz (NM r.s.N 0)]
abbrev oRd' (r:Rd):List AObj:=[rd3 1 r,hp6 6 7 8 5 r.s, .gone, .gone, .gone, .mapz (NM r.s.N 0), .arz 5 (CR r.s.C), .arz 7 (TR r.s.T), .arz 1 (NR r.s.N)]
abbrev tCI (x:Cel×Int):TV:= .tup [(true,[.a (.fz (.int .i64 x.1.t)), .a (.fz (.int .i64 x.1.a)), .a (.fz (.int .i64 x.1.b)), .a (.fz (.int .i64 x.1.c)), .a (.fz (.int .i64 x.1.d))]),(false,[.a (.fz (.int .i64 x.2))])]
theorem bne_of {x n:Int}(h:(x !=n)=true):x≠n:=by simpa using h
theorem beq_of {x n:Int}(h:(x !=n)=false):x=n:=by simpa using h
theorem z0j {x n:Int}{A B:Prop}(h1:x≠n→A)(h2:x=n→B):br (x !=n) A B:=z01 (fun h=>h1 (bne_of h)) (fun h=>h2 (beq_of h))
theorem z5i (r:Rd)(e:Int):AC Tryz.prog 252 [aRd,ci e] (oRd r) (ci 0) (oRd (z0w r e)):=by
 refine AC.vc hP sh lv252 (by simp) (by simp [isLive]) (by simp) (Eq.mpr (v252 ..) ?_);refine z04 (fun h=> ?_) (fun h=> ?_)
 · rw [show z0w r e=⟨r.s,r.f,e⟩ by rw [z0w,if_pos h]];exact ⟨.refl _,rfl⟩
 · rw [show z0w r e=r by rw [z0w,if_neg h]];exact ⟨.refl _,rfl⟩
theorem z4w (r:Rd)(c:Cel)(h:OkR r):AC Tryz.prog 195 [aRd,aCe c] (oRd r) (ci (putR r c).1) (oRd' (putR r c).2):=by
 have hp:=z2c r.s c (by have:=h.h.C;omega);have hf:=z5i ⟨(putS r.s c).2,r.f,r.e⟩ (putS r.s c).1.2;unfold putR;refine AC.vc hP sh lv195 (by simp) (by simp [isLive]) (by split<;>simp [isLive]) (Eq.mpr (v195 ..) ?_);refine z0j (fun h=> ?_) (fun h=> ?_)
 · rw [if_neg h];exact ⟨.refl _,rfl⟩
 · rw [if_pos h];rw [show z0w ⟨(putS r.s c).2,r.f,r.e⟩ (putS r.s c).1.2=⟨(putS r.s c).2,r.f,(putS r.s c).1.2⟩ from by rw [z0w,if_pos h]] at hf;exact ⟨putS r.s c,hp,(0,r.f,(putS r.s c).1.2),hf, .refl _,rfl⟩
theorem zev (r:Rd)(a b:Int)(h:OkR r):AC Tryz.prog 192 [aRd,ci a,ci b] (oRd r) (.tup []) (oRd' (z0m r a b)):=by
 have hp:=c_hset r.s a ⟨5,b,0,0,0⟩ (by have:=h.h.T;omega);have hf:=z5i ⟨(setS r.s a ⟨5,b,0,0,0⟩).2,r.f,r.e⟩ (setS r.s a ⟨5,b,0,0,0⟩).1;unfold z0m;refine AC.vc hP sh lv192 (by simp) (by simp [isLive]) (by split<;>simp [isLive]) (Eq.mpr (v192 ..) ?_);refine z04 (fun h=>z0j (fun h2=> ?_) (fun h2=> ?_)) (fun h=> ?_)
 · rw [if_pos ⟨h,h2⟩];rw [show z0w ⟨(setS r.s a ⟨5,b,0,0,0⟩).2,r.f,r.e⟩ (setS r.s a ⟨5,b,0,0,0⟩).1=⟨(setS r.s a ⟨5,b,0,0,0⟩).2,r.f,(setS r.s a ⟨5,b,0,0,0⟩).1⟩ from by rw [z0w,if_pos h]] at hf;exact ⟨setS r.s a ⟨5,b,0,0,0⟩,hp,(0,r.f,(setS r.s a ⟨5,b,0,0,0⟩).1),hf, .refl _,rfl⟩
 · rw [if_neg fun q=>q.2 h2];exact ⟨.refl _,rfl⟩
 · rw [if_neg fun q=>h q.1];exact ⟨.refl _,rfl⟩
abbrev stD (s:Hp)(a x y:Int):St:=⟨[(0,aH 0),(1,ci a),(11,ci x),(12,ci y)],[(0,hp6 1 2 3 4 s),(1, .arz 5 (CR s.C)),(2, .arz 7 (TR s.T)),(3, .arz 1 (NR s.N)),(4, .mapz (NM s.N 0))],5⟩
theorem zkg (s:Hp)(hs:s.C.length≤1073741824):∀ (n:Nat) (a:Int) (y:Nat),y+n=s.C.length→RPt Tryz.prog 196 5 (ci (z3w s.C n a)) (oH s) 1 (stD s a (s.C.length:Int) (y:Int))
 | 0,a,y,hy=>by
  refine RPt.vc hP sh zpa (Eq.mpr (zni ..) ?_);exact z01 (fun h=>absurd (of_decide_eq_true h) (by omega)) (fun _=>⟨.refl _,rfl⟩)
 | n+1,a,y,hy=>by
  refine RPt.vc hP sh zpa (Eq.mpr (zni ..) ?_);have nx:=zkg s hs n (cellOf s.C a).a (y+1) (by omega);rw [w64 (by omega) (by omega)];refine z01 (fun _=>⟨_,_,_,_,_,_,z41 s a,z01 (fun h=> ?_) (fun h=>z0j (fun h2=> ?_) (fun h2=> ?_))⟩) (fun h=>absurd (of_decide_eq_false h) (by omega))
  · rw [z3w,if_pos (by simpa using h)];exact ⟨.refl _,rfl⟩
  · rw [z3w,if_neg (by simpa using h),if_pos h2];exact ⟨.refl _,rfl⟩
  · rw [z3w,if_neg (by simpa using h),if_neg (fun q=>q h2)];exact nx
theorem ze4 (s:Hp)(hs:s.C.length≤1073741824)(a:Int):AC Tryz.prog 196 [aH 0,ci a] (oH s) (ci (z2b s.C a)) (oH s):=by
 refine AC.vc hP sh zpa (Nat.le_refl _) (by simp [isLive]) (by simp) (Eq.mpr (v196 ..) ?_);exact zkg s hs s.C.length a 0 (by omega)
theorem z2k (r:Rd){e:Int}(h:e≠0):(z0w r e).e≠0:=by
 show (if r.e=0 then e else r.e)≠0
 split
 · exact h
 · assumption
theorem zeb (r:Rd)(a:Int)(h:OkR r):AC Tryz.prog 190 [aRd,ci a] (oRd r) (tCI (z02 r a).1) (oRd (z02 r a).2):=by
 have hd:=ze4 r.s (by have:=h.h.C;omega) a;have f0:=h.f0;have f1:=h.f1
 have v0:z02 r a=if inC r.s.C (z2b r.s.C a)=false then ((⟨2,0,0,0,0⟩,0),z0w r 1)
  else if 9≤(cellOf r.s.C (z2b r.s.C a)).t then ((⟨2,0,0,0,0⟩,0),z0w r 1)
  else if (cellOf r.s.C (z2b r.s.C a)).t=5 then ((⟨2,0,0,0,0⟩,0),z0w r 1)
  else if r.f≤0 then ((⟨2,0,0,0,0⟩,0),z0w r 80)
  else if r.e≠0 then ((⟨2,0,0,0,0⟩,0),r)
  else ((cellOf r.s.C (z2b r.s.C a),z2b r.s.C a),⟨r.s,r.f-1,r.e⟩):=rfl
 generalize z2b r.s.C a=d at*;have hc:=z41 r.s d
 have bad:∀ (e:Int) (he:e≠0) {Q:Prop},z02 r a=((⟨2,0,0,0,0⟩,0),z0w r e)→br ((z0w r e).e !=0) (TV.Le (tCI (⟨2,0,0,0,0⟩,0)) (tCI (z02 r a).1)∧oRd (z0w r e)=oRd (z02 r a).2) Q:=fun e he Q hv=>by
  rw [hv];exact z0j (fun _=>⟨.refl _,rfl⟩) (fun h=>absurd h (z2k r he))
 refine AC.vc hP sh lv190 (by simp) (by simp [isLive]) (by simp) (Eq.mpr (v190 ..) ?_);refine ⟨d,hd,_,_,_,_,_,_,hc,z01 (fun q=> ?_) (fun q=>z01 (fun q2=> ?_) (fun q2=>z04 (fun q3=> ?_) (fun q3=>z01 (fun q4=> ?_) (fun q4=>z0j (fun q5=> ?_) (fun q5=> ?_)))))⟩
 · rw [if_pos (by simpa using q)] at v0;exact ⟨(0,(z0w r 1).f,(z0w r 1).e),z5i r 1,bad 1 (by decide) v0⟩
 · rw [if_neg (by simpa using q),if_pos (of_decide_eq_true q2)] at v0;exact ⟨(0,(z0w r 1).f,(z0w r 1).e),z5i r 1,bad 1 (by decide) v0⟩
 · rw [if_neg (by simpa using q),if_neg (of_decide_eq_false q2),if_pos q3] at v0;exact ⟨(0,(z0w r 1).f,(z0w r 1).e),z5i r 1,bad 1 (by decide) v0⟩
 · rw [if_neg (by simpa using q),if_neg (of_decide_eq_false q2),if_neg q3,if_pos (of_decide_eq_true q4)] at v0;exact ⟨(0,(z0w r 80).f,(z0w r 80).e),z5i r 80,bad 80 (by decide) v0⟩
 · rw [if_neg (by simpa using q),if_neg (of_decide_eq_false q2),if_neg q3,if_neg (of_decide_eq_false q4),if_pos q5] at v0;rw [v0];exact ⟨.refl _,rfl⟩
 · have q4:=of_decide_eq_false q4;rw [if_neg (by simpa using q),if_neg (of_decide_eq_false q2),if_neg q3,if_neg q4,if_neg (fun w=>w q5)] at v0;rw [v0,w64 (by omega) (by omega)];exact ⟨.refl _,rfl⟩
theorem zp6 (r:Rd)(a u:Int)(h:OkR r):AC Tryz.prog 300 [aRd,ci a,ci u] (oRd r) (ci (z3m r a u).1) (oRd' (z3m r a u).2):=by
 have h1:=z4w r ⟨9,0,0,0,0⟩ h;have h2:=z4w (putR r ⟨9,0,0,0,0⟩).2 ⟨8,a,(putR r ⟨9,0,0,0,0⟩).1,0,u⟩ (h.put _);unfold z3m;refine AC.vc hP sh lv300 (by simp) (by simp [isLive]) (by split<;>simp [isLive]) (Eq.mpr (v300 ..) ?_);refine z04 (fun q=> ?_) (fun q=> ?_)
 · rw [if_pos q];exact ⟨.refl _,rfl⟩
 · rw [if_neg q];exact ⟨_,h1,_,h2, .refl _,rfl⟩
abbrev aCB (x:Cel×Bool):TV:=tCe x.1 x.2
abbrev stEn (r:Rd)(row j:Int)(c:Cel):St:=⟨[(0,aRd),(1,ci row),(2,ci j),(6, .c (.a (.ep 6 5 0 0)))],[(0,rd3 1 r),(1,hp6 2 3 4 5 r.s),(2, .arz 5 (CR r.s.C)),(3, .arz 7 (TR r.s.T)),(4, .arz 1 (NR r.s.N)),(5, .mapz (NM r.s.N 0)),(6, .arr 5 [[.a (.fz (.int .i64 c.t)), .a (.fz (.int .i64 c.a)), .a (.fz (.int .i64 c.b)), .a (.fz (.int .i64 c.c)), .a (.fz (.int .i64 c.d))]])],7⟩
theorem zk3 (c:Cel):∀ (n:Nat) (r:Rd) (row j:Int),OkR r→r.f.toNat<n→RPt Tryz.prog 299 6 (aCB (z0p n r row j).1) (oRd (z0p n r row j).2) 1 (stEn r row j c)
 | 0,_,_,_,_,h=>absurd h (by omega)
 | n+1,r,row,j,ok,hn=>by
  have f0:=ok.f0;have f1:=ok.f1
  have v0:z0p (n+1) r row j=if inC r.s.C row=false then ((noC,false),z0w r 1)
   else if (cellOf r.s.C row).t<9 then ((noC,false),z0w r 1)
   else if (cellOf r.s.C row).t=9 then ((noC,false),r)
   else if j=0 then ((cellOf r.s.C row,true),r)
   else if r.f≤0 then ((noC,false),z0w r 80)
   else z0p n ⟨r.s,r.f-1,r.e⟩ (cellOf r.s.C row).a (wr (j-1)):=rfl
  have hc:=z41 r.s row;have nx:=fun q=>zk3 c n ⟨r.s,r.f-1,r.e⟩ (cellOf r.s.C row).a (wr (j-1)) (ok.less q) (by dsimp only;omega);refine RPt.vc hP sh lv299 (Eq.mpr (v299_1a ..) ?_);refine ⟨_,_,_,_,_,_,hc,z01 (fun q=> ?_) (fun q=>z01 (fun q2=> ?_) (fun q2=>z04 (fun q3=> ?_) (fun q3=>z04 (fun q4=> ?_) (fun q4=>z01 (fun q5=> ?_) (fun q5=> ?_)))))⟩
  · rw [if_pos (by simpa using q)] at v0;rw [v0];exact ⟨(0,(z0w r 1).f,(z0w r 1).e),z5i r 1, .refl _,rfl⟩
  · rw [if_neg (by simpa using q),if_pos (of_decide_eq_true q2)] at v0;rw [v0];exact ⟨(0,(z0w r 1).f,(z0w r 1).e),z5i r 1, .refl _,rfl⟩
  · rw [if_neg (by simpa using q),if_neg (of_decide_eq_false q2),if_pos q3] at v0;rw [v0];exact ⟨.refl _,rfl⟩
  · rw [if_neg (by simpa using q),if_neg (of_decide_eq_false q2),if_neg q3,if_pos q4] at v0;rw [v0];exact ⟨.refl _,rfl⟩
  · rw [if_neg (by simpa using q),if_neg (of_decide_eq_false q2),if_neg q3,if_neg q4,if_pos (of_decide_eq_true q5)] at v0;rw [v0];exact ⟨(0,(z0w r 80).f,(z0w r 80).e),z5i r 80, .refl _,rfl⟩
  · have q5:=of_decide_eq_false q5;rw [if_neg (by simpa using q),if_neg (of_decide_eq_false q2),if_neg q3,if_neg q4,if_neg q5] at v0;rw [v0,w64 (x:=r.f-1) (by omega) (by omega)];exact nx q5
theorem c_rentry (n:Nat)(r:Rd)(row j:Int)(h:OkR r)(hn:r.f.toNat<n):AC Tryz.prog 299 [aRd,ci row,ci j] (oRd r) (aCB (z0p n r row j).1) (oRd (z0p n r row j).2):=by
 refine AC.vc hP sh lv299 (by simp) (by simp [isLive]) (by simp) (Eq.mpr (v299 ..) ?_);exact zk3 noC n r row j h hn
theorem c_slo (n:Nat)(r:Rd)(s:Cel)(j:Int)(h:OkR r)(hn:r.f.toNat<n):AC Tryz.prog 254 [aRd,aCe s,ci j] (oRd r) (ci (losR n r s j).1) (oRd' (losR n r s j).2):=by
 have he:=c_rentry n r s.b j h hn
 have hs:(z0p n r s.b j).2.s=r.s:=by
  have key:∀ (n:Nat) (r:Rd) (row j:Int),(z0p n r row j).2.s=r.s:=by
   intro n
   induction n with
   | zero=>intro r row j;rfl
   | succ n ih=>
    intro r row j;rw [z0p];split
    · rfl
    · split
      · rfl
      · split
        · rfl
        · split
          · rfl
          · split
            · rfl
            · exact ih _ _ _
  exact key n r s.b j
 have oe:=OkR.entry n s.b j h
 have e0:losR n r s j=if j<s.c then
  if (z0p n r s.b j).1.2=true then
   if (z0p n r s.b j).1.1.t=10 then putR (z0p n r s.b j).2 ⟨3,wr (wr (s.d-1)-(z0p n r s.b j).1.1.b),0,0,0⟩ else z3m (z0p n r s.b j).2 (z0p n r s.b j).1.1.b (wr (s.d-(z0p n r s.b j).1.1.c))
  else putR (z0p n r s.b j).2 ⟨3,wr (wr (j-s.c)+s.d),0,0,0⟩
 else putR r ⟨3,wr (wr (j-s.c)+s.d),0,0,0⟩:=rfl
 generalize z0p n r s.b j=z at*;obtain ⟨⟨c,b⟩,⟨zs,zf,ze⟩⟩:=z;obtain rfl:zs=r.s:=hs;have bnd:=z4w ⟨r.s,zf,ze⟩ ⟨3,wr (wr (j-s.c)+s.d),0,0,0⟩ oe;have lft:=zp6 ⟨r.s,zf,ze⟩ c.b (wr (s.d-c.c)) oe;have dum:=z4w ⟨r.s,zf,ze⟩ ⟨3,wr (wr (s.d-1)-c.b),0,0,0⟩ oe;have far:=z4w r ⟨3,wr (wr (j-s.c)+s.d),0,0,0⟩ h;refine AC.vc hP sh lv254 (by simp) (by simp [isLive]) (by simp [isLive]) (Eq.mpr (v254 ..) ?_);refine z01 (fun q=>⟨(c.t,c.a,c.b,c.c,c.d,b,zf,ze),he, ?_⟩) (fun q=> ?_)
 · rw [if_pos (of_decide_eq_true q)] at e0;have low:b=true→c.t≠10→losR n r s j=z3m ⟨r.s,zf,ze⟩ c.b (wr (s.d-c.c)):=fun hb h10=>by rw [e0,if_pos hb,if_neg h10]
   have out:b=false→losR n r s j=putR ⟨r.s,zf,ze⟩ ⟨3,wr (wr (j-s.c)+s.d),0,0,0⟩:=fun hb=>by rw [e0,if_neg (by show¬b=true;rw [hb];decide)]
   refine z01 (fun hb=>z04 (fun h10=> ?_) (fun h10=>z01 (fun _=> ?_) (fun hb2=>absurd (show b=true from hb) (by rw [show b=false from hb2];decide)))) (fun hb=>z01 (fun hb2=>absurd (show b=true from hb2) (by rw [show b=false from hb];decide)) (fun _=> ?_))
   · have hb:b=true:=hb;rw [if_pos hb,if_pos h10] at e0;rw [e0];exact ⟨_,dum, .refl _,rfl⟩
   · rw [low hb h10];exact ⟨_,lft, .refl _,rfl⟩
   · rw [out hb];exact ⟨_,bnd, .refl _,rfl⟩
 · rw [if_neg (of_decide_eq_false q)] at e0;rw [e0];exact ⟨_,far, .refl _,rfl⟩
abbrev oCl (r:Rd)(s:Cel):List AObj:=[.arr 1 [[.a (.ep 1 3 0 0)]],rd3 2 r,hp6 3 4 5 6 r.s, .arz 5 (CR r.s.C), .arz 7 (TR r.s.T), .arz 1 (NR r.s.N), .mapz (NM r.s.N 0), .arr 5 [[.a (.fz (.int .i64 s.t)), .a (.fz (.int .i64 s.a)), .a (.fz (.int .i64 s.b)), .a (.fz (.int .i64 s.c)), .a (.fz (.int .i64 s.d))]]]
abbrev oCl' (r:Rd)(s:Cel):List AObj:=[.arr 1 [[.a (.ep 1 3 0 0)]],rd3 2 r,hp6 8 9 10 6 r.s, .gone, .gone, .gone, .mapz (NM r.s.N 0), .arr 5 [[.a (.fz (.int .i64 s.t)), .a (.fz (.int .i64 s.a)), .a (.fz (.int .i64 s.b)), .a (.fz (.int .i64 s.c)), .a (.fz (.int .i64 s.d))]], .arz 5 (CR r.s.C), .arz 7 (TR r.s.T), .arz 1 (NR r.s.N)]
theorem zay (r:Rd)(s:Cel)(a row more:Int)(h:OkR r):AC Tryz.prog 253 [ci a,ci row,ci more, .c (.a (.ep 0 1 0 0)), .c (.a (.ep 7 5 0 0))] (oCl r s) (ci (z1i r s a row more).1) (oCl' (z1i r s a row more).2 s):=by
 have h1:=z4w r ⟨8,a,row,wr (s.c+more),wr (s.d+more)⟩ h;refine AC.vc hP sh lv253 (by simp) (by simp [isLive]) (by simp [isLive]) (Eq.mpr (v253 ..) ?_);exact ⟨_,h1, .refl _,rfl⟩
theorem c_rbeta (r:Rd)(c:Cel)(arg:Int)(h:OkR r):AC Tryz.prog 193 [aRd,aCe c,ci arg] (oRd r) (ci (z4k r c.a arg).1) (oRd' (z4k r c.a arg).2):=by
 have h1:=z4w r ⟨9,0,0,0,0⟩ h;have h2:=z4w (putR r ⟨9,0,0,0,0⟩).2 ⟨11,(putR r ⟨9,0,0,0,0⟩).1,arg,0,0⟩ (h.put _);have h3:=z4w (putR (putR r ⟨9,0,0,0,0⟩).2 ⟨11,(putR r ⟨9,0,0,0,0⟩).1,arg,0,0⟩).2 ⟨8,c.a,(putR (putR r ⟨9,0,0,0,0⟩).2 ⟨11,(putR r ⟨9,0,0,0,0⟩).1,arg,0,0⟩).1,1,0⟩ ((h.put _).put _);refine AC.vc hP sh lv193 (by simp) (by simp [isLive]) (by simp [isLive]) (Eq.mpr (v193 ..) ?_);exact ⟨_,h1,_,h2,_,h3, .refl _,rfl⟩
end Go.AM

set_option maxRecDepth 100000
open Go Go.Proofs
namespace Go.AM
abbrev stOp (r:Rd)(s c:Cel)(t:Int):St:=
 ⟨[(2, .c (.a (.ep 9 1 0 0))),(3, .c (.a (.ep 10 5 0 0))),(5, .c (.a (.ep 11 5 0 0))),(6,ci t)],[(0,rd3 1 r),(1,hp6 6 7 8 5 r.s),(2, .gone),(3, .gone),(4, .gone),(5, .mapz (NM r.s.N 0)),(6, .arz 5 (CR r.s.C)),(7, .arz 7 (TR r.s.T)),(8, .arz 1 (NR r.s.N)),(9, .arr 1 [[.a (.ep 0 3 0 0)]]),
  (10, .arr 5 [[.a (.fz (.int .i64 s.t)), .a (.fz (.int .i64 s.a)), .a (.fz (.int .i64 s.b)), .a (.fz (.int .i64 s.c)), .a (.fz (.int .i64 s.d))]]),(11, .arr 5 [[.a (.fz (.int .i64 c.t)), .a (.fz (.int .i64 c.a)), .a (.fz (.int .i64 c.b)), .a (.fz (.int .i64 c.c)), .a (.fz (.int .i64 c.d))]])],12⟩
theorem l_ropen8 (n:Nat)(r:Rd)(s c:Cel)(t:Int)(h:OkR r)(hn:r.f.toNat<n):RPt Tryz.prog 191 6 (ci (z4h n c t r s).1) (oRd' (z4h n c t r s).2) 16 (stOp r s c t):=by
 have lo:=c_slo n r s c.a h hn;have p1:=z4w r ⟨10,s.b,s.d,0,0⟩ h;have w1:=zay (putR r ⟨10,s.b,s.d,0,0⟩).2 s c.a (putR r ⟨10,s.b,s.d,0,0⟩).1 1 (h.put _);have q1:=z4w (z1i (putR r ⟨10,s.b,s.d,0,0⟩).2 s c.a (putR r ⟨10,s.b,s.d,0,0⟩).1 1).2 ⟨6,(z1i (putR r ⟨10,s.b,s.d,0,0⟩).2 s c.a (putR r ⟨10,s.b,s.d,0,0⟩).1 1).1,0,0,0⟩ ((h.put _).put _);have a1:=zay r s c.a s.b 0 h;have a2:=zay (z1i r s c.a s.b 0).2 s c.b s.b 0 (h.put _);have a3:=z4w (z1i (z1i r s c.a s.b 0).2 s c.b s.b 0).2 ⟨7,(z1i r s c.a s.b 0).1,(z1i (z1i r s c.a s.b 0).2 s c.b s.b 0).1,0,0⟩ ((h.put _).put _);unfold z4h;refine RPt.vc hP sh zco (Eq.mpr (v191_16a ..) ?_);refine z04 (fun q=> ?_) (fun q=>z04 (fun q2=> ?_) (fun q2=>z04 (fun q3=> ?_) (fun q3=> ?_)))
 · rw [if_pos q];exact ⟨_,lo, .refl _,rfl⟩
 · rw [if_neg q,if_pos q2];exact ⟨_,p1,_,w1,_,q1, .refl _,rfl⟩
 · rw [if_neg q,if_neg q2,if_pos q3];exact ⟨_,a1,_,a2,_,a3, .refl _,rfl⟩
 · rw [if_neg q,if_neg q2,if_neg q3];exact ⟨.refl _,rfl⟩
theorem zfk (n:Nat)(r:Rd)(s c:Cel)(t:Int)(h:OkR r)(hn:r.f.toNat<n):RPt Tryz.prog 191 6 (ci (z5e n ((c,t),r) s).1) (oRd' (z5e n ((c,t),r) s).2) 12 (stOp r s c t):=by
 have nx:=l_ropen8 n r s c t h hn;have e0:z5e n ((c,t),r) s=if r.e≠0 then (t,r) else if s.c=0∧s.d=0 then (t,r) else z4h n c t r s:=rfl
 rw [e0];refine RPt.vc hP sh zco (Eq.mpr (v191_12a ..) ?_);refine z0j (fun q=> ?_) (fun q=>z04 (fun q2=>z04 (fun q3=> ?_) (fun q3=> ?_)) (fun q2=> ?_))
 · rw [if_pos q];exact ⟨.refl _,rfl⟩
 · rw [if_neg (fun w=>w q),if_pos ⟨q2,q3⟩];exact ⟨.refl _,rfl⟩
 · rw [if_neg (fun w=>w q),if_neg fun w=>q3 w.2];exact nx
 · rw [if_neg (fun w=>w q),if_neg fun w=>q2 w.1];exact nx
theorem z4p (r:Rd)(a:Int):(z02 r a).2.f≤r.f∧((z02 r a).2.e=0→0<r.f∧(z02 r a).2.f=r.f-1):=by
 unfold z02;have ne:∀ e:Int,e≠0→(z0w r e).f≤r.f∧((z0w r e).e=0→0<r.f∧(z0w r e).f=r.f-1):=fun e he=>⟨Int.le_refl _,fun q=>absurd q (z2k r he)⟩;split
 · exact ne 1 (by decide)
 · split
   · exact ne 1 (by decide)
   · split
     · exact ne 1 (by decide)
     · split
       · exact ne 80 (by decide)
       · split
         · rename_i q;exact ⟨Int.le_refl _,fun w=>absurd w q⟩
         · rename_i q _;exact ⟨by dsimp only;omega,fun _=>⟨by omega,rfl⟩⟩
theorem zef (r:Rd)(c:Cel):(putR r c).2.f=r.f:=by unfold putR;split<;>rfl
theorem z9t (r:Rd)(a b:Int):(z0m r a b).f=r.f:=by unfold z0m;split<;>rfl
theorem lift_f (r:Rd)(a u:Int):(z3m r a u).2.f=r.f:=by unfold z3m;split; · rfl
                                                       · rw [zef,zef]
theorem zs8:∀ (n:Nat) (r:Rd) (row j:Int),(z0p n r row j).2.f≤r.f
 | 0,_,_,_=>Int.le_refl _
 | n+1,r,row,j=>by
  rw [z0p];split
  · exact Int.le_refl _
  · split
    · exact Int.le_refl _
    · split
      · exact Int.le_refl _
      · split
        · exact Int.le_refl _
        · split
          · exact Int.le_refl _
          · have:=zs8 n ⟨r.s,r.f-1,r.e⟩ (cellOf r.s.C row).a (wr (j-1));dsimp only at this;omega
theorem level_f (n:Nat)(c:Cel)(t:Int)(r:Rd)(s:Cel):(z4h n c t r s).2.f≤r.f:=by
 unfold z4h;split
 · have:=zs8 n r s.b c.a;unfold losR;split
   · split
     · split
       · rw [zef];exact this
       · rw [lift_f];exact this
     · rw [zef];exact this
   · rw [zef];exact Int.le_refl _
 · split
   · simp only [lamR,z1i,zef];exact Int.le_refl _
   · split
     · simp only [appR,z1i,zef];exact Int.le_refl _
     · exact Int.le_refl _
theorem spun_f (n:Nat)(v:(Cel×Int)×Rd)(s:Cel):(z5e n v s).2.f≤v.2.f:=by
 unfold z5e;split
 · exact Int.le_refl _
 · split
   · exact Int.le_refl _
   · exact level_f _ _ _ _ _
mutual
theorem zbv:∀ (n:Nat) (r:Rd) (s:Cel),(z05 n r s).2.f≤r.f
 | 0,_,_=>Int.le_refl _
 | n+1,r,s=>by
  rw [z05];have:=spun_f (n+1) (z2p n (z02 r s.a)) s;have:=spin_f n (z02 r s.a);have:=(z4p r s.a).1;omega
theorem spin_f:∀ (n:Nat) (v:(Cel×Int)×Rd),(z2p n v).2.f≤v.2.f
 | 0,_=>Int.le_refl _
 | n+1,v=>by
  rw [z2p];split
  · have:=spin_f n (z02 (z0m (z05 n v.2 v.1.1).2 v.1.2 (z05 n v.2 v.1.1).1) (z05 n v.2 v.1.1).1);have:=(z4p (z0m (z05 n v.2 v.1.1).2 v.1.2 (z05 n v.2 v.1.1).1) (z05 n v.2 v.1.1).1).1;have:=z9t (z05 n v.2 v.1.1).2 v.1.2 (z05 n v.2 v.1.1).1;have:=zbv n v.2 v.1.1;omega
  · exact Int.le_refl _
end
abbrev OpenG (n:Nat):Prop:=∀ (r:Rd) (s:Cel),OkR r→2*r.f.toNat+2≤n→AC Tryz.prog 191 [aRd,aCe s] (oRd r) (ci (z05 n r s).1) (oRd' (z05 n r s).2)
theorem zq5 (N:Nat)(s:Cel):∀ (n:Nat),(∀ m,m≤n→OpenG m)→∀ (c:Cel) (t:Int) (r:Rd),OkR r→2*r.f.toNat+3≤n→n<N→RPt Tryz.prog 191 6 (ci (z5e N (z2p n ((c,t),r)) s).1) (oRd' (z5e N (z2p n ((c,t),r)) s).2) 1 (stOp r s c t)
 | n,hG,c,t,r,h,hn,hN=>by
  cases n with
  | zero=>omega
  | succ n=>
  have stop:=zfk N r s c t h (by omega);have ho:=hG n (by omega) r c h (by omega);have hk:=zev (z05 n r c).2 t (z05 n r c).1 (OkR.open n c h);have hv:=zeb (z0m (z05 n r c).2 t (z05 n r c).1) (z05 n r c).1 ((OkR.open n c h).keep _ _);have ov:=((OkR.open n c h).keep t (z05 n r c).1).visit (z05 n r c).1;have f1:=zbv n r c;have f2:=z9t (z05 n r c).2 t (z05 n r c).1;have f3:=z4p (z0m (z05 n r c).2 t (z05 n r c).1) (z05 n r c).1
  have hs:(z02 (z0m (z05 n r c).2 t (z05 n r c).1) (z05 n r c).1).2.s=(z0m (z05 n r c).2 t (z05 n r c).1).s:=by
   unfold z02;split
   · rfl
   · split
     · rfl
     · split
       · rfl
       · split
         · rfl
         · split<;>rfl
  have e0:z2p (n+1) ((c,t),r)=if r.e=0∧c.t=8 then z2p n (z02 (z0m (z05 n r c).2 t (z05 n r c).1) (z05 n r c).1) else ((c,t),r):=rfl
  rw [e0]
  have nx:r.e=0→c.t=8→RPt Tryz.prog 191 6 (ci (z5e N (z2p n (z02 (z0m (z05 n r c).2 t (z05 n r c).1) (z05 n r c).1)) s).1) (oRd' (z5e N (z2p n (z02 (z0m (z05 n r c).2 t (z05 n r c).1) (z05 n r c).1)) s).2) 1
    (stOp (z02 (z0m (z05 n r c).2 t (z05 n r c).1) (z05 n r c).1).2 s (z02 (z0m (z05 n r c).2 t (z05 n r c).1) (z05 n r c).1).1.1 (z02 (z0m (z05 n r c).2 t (z05 n r c).1) (z05 n r c).1).1.2):=fun _ _=>by
   by_cases q:(z02 (z0m (z05 n r c).2 t (z05 n r c).1) (z05 n r c).1).2.e=0
   · have f4:=f3.2 q;exact zq5 N s n (fun m hm=>hG m (by omega)) (z02 (z0m (z05 n r c).2 t (z05 n r c).1) (z05 n r c).1).1.1 (z02 (z0m (z05 n r c).2 t (z05 n r c).1) (z05 n r c).1).1.2 (z02 (z0m (z05 n r c).2 t (z05 n r c).1) (z05 n r c).1).2 ov (by omega) (by omega)
   · have e1:z2p n (z02 (z0m (z05 n r c).2 t (z05 n r c).1) (z05 n r c).1)=z02 (z0m (z05 n r c).2 t (z05 n r c).1) (z05 n r c).1:=by
      cases n with
      | zero=>rfl
      | succ n=>rw [z2p,if_neg fun w=>q w.1]
     rw [e1];have st:=zfk N (z02 (z0m (z05 n r c).2 t (z05 n r c).1) (z05 n r c).1).2 s (z02 (z0m (z05 n r c).2 t (z05 n r c).1) (z05 n r c).1).1.1 (z02 (z0m (z05 n r c).2 t (z05 n r c).1) (z05 n r c).1).1.2 ov (by omega);refine RPt.vc hP sh zco (Eq.mpr (zj7 ..) ?_);exact z04 (fun w=>absurd w q) (fun _=>st)
  generalize z02 (z0m (z05 n r c).2 t (z05 n r c).1) (z05 n r c).1=v at*;generalize z0m (z05 n r c).2 t (z05 n r c).1=k at*;generalize z05 n r c=o at*;obtain ⟨⟨vc,vt⟩,⟨vs,vf,ve⟩⟩:=v;dsimp only at hs;subst hs;refine RPt.vc hP sh zco (Eq.mpr (zj7 ..) ?_);refine z04 (fun q=>z04 (fun q2=> ?_) (fun q2=> ?_)) (fun q=> ?_)
  · rw [if_pos ⟨q,q2⟩];exact ⟨o,ho,k,hk,(vc.t,vc.a,vc.b,vc.c,vc.d,vt,vf,ve),hv,nx q q2⟩
  · rw [if_neg fun w=>q2 w.2];exact stop
  · rw [if_neg fun w=>q w.1];exact stop
theorem z90 (r:Rd)(a:Int):(z02 r a).2.s=r.s:=by
 unfold z02;split
 · rfl
 · split
   · rfl
   · split
     · rfl
     · split
       · rfl
       · split<;>rfl
theorem c_ropen:∀ n:Nat,∀ m,m≤n→OpenG m:=by
 intro n
 induction n with
 | zero=>intro m hm r s _ h;omega
 | succ n ih=>
  intro m hm r s h hn;cases m with
  | zero=>omega
  | succ m=>
  have hv:=zeb r s.a h;have ov:=h.visit s.a;have f1:=z4p r s.a;have hs:=z90 r s.a;rw [z05]
  have go:RPt Tryz.prog 191 6 (ci (z5e (m+1) (z2p m (z02 r s.a)) s).1) (oRd' (z5e (m+1) (z2p m (z02 r s.a)) s).2) 1 (stOp (z02 r s.a).2 s (z02 r s.a).1.1 (z02 r s.a).1.2):=by
   by_cases q:(z02 r s.a).2.e=0
   · have f4:=f1.2 q;exact zq5 (m+1) s m (fun k hk=>ih k (by omega)) (z02 r s.a).1.1 (z02 r s.a).1.2 (z02 r s.a).2 ov (by omega) (by omega)
   · have e1:z2p m (z02 r s.a)=z02 r s.a:=by
      cases m with
      | zero=>rfl
      | succ m=>rw [z2p,if_neg fun w=>q w.1]
     rw [e1];have st:=zfk (m+1) (z02 r s.a).2 s (z02 r s.a).1.1 (z02 r s.a).1.2 ov (by have:=f1.1;omega);refine RPt.vc hP sh zco (Eq.mpr (zj7 ..) ?_);exact z04 (fun w=>absurd w q) (fun _=>st)
  generalize z02 r s.a=v at*;obtain ⟨⟨vc,vt⟩,⟨vs,vf,ve⟩⟩:=v;dsimp only at hs;subst hs;refine AC.vc hP sh zco (by simp) (by simp [isLive]) (by simp [isLive]) (Eq.mpr (v191 ..) ?_);exact ⟨(vc.t,vc.a,vc.b,vc.c,vc.d,vt,vf,ve),hv,go⟩
end Go.AM

set_option maxRecDepth 100000
open Go Go.Proofs
namespace Go.AM
theorem z06 (l:List Int):(IR l).length=l.length:=by simp [IR]
theorem z2m {l:List Int}{i:Nat}(h:i<l.length):List.getD (IR l) i []=[.int .i64 l[i]]:=by simp [IR,List.getD,h]
theorem zeq (a b:List Int):IR (a++b)=IR a++IR b:=by simp [IR]
theorem zeo (n:Nat)(l:List Int):List.take n (IR l)=IR (l.take n):=by simp [IR,List.map_take]
theorem zoi (i:Nat)(l:List Int)(x:Int):List.set (IR l) i [.int .i64 x]=IR (l.set i x):=by simp [IR,List.map_set]
theorem zk0 (A:List Int)(x y:Int)(B:List Int):(A++x::B).set A.length y=A++y::B:=by simp
theorem zeh (A:List Int)(x:Int)(B:List Int):List.getD (IR (A++x::B)) A.length []=[.int .i64 x]:=by
 rw [z2m (by simp)];simp
theorem l_revi (n:Nat)(hn:n≤1073741824):∀ (k:Nat) (m A Z:List Int),m.length≤k→A.length+m.length≤n→
  RPt Tryz.prog 194 1 (.tup []) [.arz 1 (IR (A++m.reverse++Z))] 1 ⟨[(0, .c (.a (.osl 0 1 0 n))),(2,ci (A.length:Int)),(3,ci ((A.length:Int)+(m.length:Int)-1))],[(0, .arz 1 (IR (A++m++Z)))],1⟩:=by
 intro k
 induction k with
 | zero=>
  intro m A Z hm _;have:m=[]:=List.eq_nil_of_length_eq_zero (by omega);subst this;refine RPt.vc hP sh zck (Eq.mpr (z8x ..) ?_);exact z01 (fun h=>absurd (of_decide_eq_true h) (by simp only [List.length_nil];omega)) (fun _=>⟨.refl _,rfl⟩)
 | succ k ih=>
  intro m A Z hm hA;by_cases h2:m.length≤1
  · have e:m.reverse=m:=by
     match m,h2 with
     | [],_=>rfl
     | [x],_=>rfl
    rw [e];refine RPt.vc hP sh zck (Eq.mpr (z8x ..) ?_);exact z01 (fun h=>absurd (of_decide_eq_true h) (by omega)) (fun _=>⟨.refl _,rfl⟩)
  · obtain ⟨x,m2,rfl⟩:∃ x m2,m=x::m2:=by
     cases m with
     | nil=>simp at h2
     | cons x m2=>exact ⟨x,m2,rfl⟩
    obtain ⟨m',y,rfl⟩:∃ m' y,m2=m'++ [y]:=by
     have:m2 ≠ []:=fun e=>by rw [e] at h2;simp at h2
     exact ⟨m2.dropLast,m2.getLast this,(List.dropLast_concat_getLast this).symm⟩
    simp only [List.length_cons,List.length_append,List.length_nil] at hm hA;have nx:=ih m' (A++ [y]) (x::Z) (by omega) (by simp;omega);have e1:A++(x::(m'++ [y]))++Z=A++x::(m'++y::Z):=by simp
    have e2:A++(x::(m'++ [y]))++Z=(A++x::m')++y::Z:=by simp
    have e3:(A++y::m')++y::Z=A++y::(m'++y::Z):=by simp
    have l1:(A++x::m').length=A.length+m'.length+1:=by simp;omega
    have l1':(A++y::m').length=A.length+m'.length+1:=by simp;omega
    have t2:Int.toNat (A.length:Int)=A.length:=by omega
    have t3:Int.toNat ((A.length:Int)+(((x::(m'++ [y])).length:Nat):Int)-1)=A.length+m'.length+1:=by simp only [List.length_cons,List.length_append,List.length_nil];omega
    have g2:List.getD (IR (A++(x::(m'++ [y]))++Z)) (0+A.length) []=[.int .i64 x]:=by rw [Nat.zero_add,e1,zeh]
    have g3:List.getD (IR (A++(x::(m'++ [y]))++Z)) (0+(A.length+m'.length+1)) []=[.int .i64 y]:=by rw [Nat.zero_add,e2,←l1,zeh]
    have s1:List.set (IR (A++(x::(m'++ [y]))++Z)) (0+A.length) [.int .i64 y]=IR ((A++y::m')++y::Z):=by rw [Nat.zero_add,e1,zoi,zk0,e3]
    have s2:List.set (IR ((A++y::m')++y::Z)) (0+(A.length+m'.length+1)) [.int .i64 x]=IR ((A++y::m')++x::Z):=by rw [Nat.zero_add,zoi,←l1',zk0]
    have len0:(IR (A++(x::(m'++ [y]))++Z)).length=A.length+m'.length+2+Z.length:=by rw [z06];simp;omega
    have len1:(IR ((A++y::m')++y::Z)).length=A.length+m'.length+2+Z.length:=by rw [z06];simp;omega
    have g4:(List.getD (IR ((A++y::m')++y::Z)) (0+(A.length+m'.length+1)) []).length=1:=by rw [Nat.zero_add,←l1',zeh];rfl
    refine RPt.vc hP sh zck (Eq.mpr (z8x ..) ?_);rw [t2,t3,g2,g3];have a2:FV.I (List.getD [.int .i64 x] 0 FV.N)=x:=rfl;have a3:FV.I (List.getD [.int .i64 y] 0 FV.N)=y:=rfl;rw [a2,a3,s1,s2,w64 (x:=(A.length:Int)+1) (by omega) (by omega),w64 (x:=(A.length:Int)+(((x::(m'++ [y])).length:Nat):Int)-1-1) (by simp only [List.length_cons,List.length_append,List.length_nil];omega) (by simp only [List.length_cons,List.length_append,List.length_nil];omega)];have er:A++(x::(m'++ [y])).reverse++Z=A++ [y]++m'.reverse++(x::Z):=by simp
    rw [er];have e5:A++ [y]++m'++(x::Z)=(A++y::m')++x::Z:=by simp
    rw [e5] at nx;have n1:(((A++ [y]).length:Nat):Int)=(A.length:Int)+1:=by simp
    have n2:(((A++ [y]).length:Nat):Int)+(m'.length:Int)-1=(A.length:Int)+(((x::(m'++ [y])).length:Nat):Int)-1-1:=by simp only [List.length_cons,List.length_append,List.length_nil];omega
    rw [n2,n1] at nx;have b3:(0:Int)≤(A.length:Int)+(((x::(m'++ [y])).length:Nat):Int)-1∧(A.length:Int)+(((x::(m'++ [y])).length:Nat):Int)-1<(n:Int):=by simp only [List.length_cons,List.length_append,List.length_nil];omega
    exact z01 (fun _=>⟨b3,⟨by omega,rfl,rfl⟩,⟨by omega,by omega⟩,⟨by omega,rfl,rfl⟩,⟨by omega,by omega⟩,⟨by omega,rfl⟩,b3,⟨by omega,g4⟩,nx⟩) (fun h=>absurd (of_decide_eq_false h) (by simp only [List.length_cons,List.length_append,List.length_nil];omega))
theorem c_revi (js:List Int)(n:Nat)(hn:n≤js.length)(hB:n≤1073741824):AC Tryz.prog 194 [.c (.a (.osl 0 1 0 n))] [.arz 1 (IR js)] (.tup []) [.arz 1 (IR ((js.take n).reverse++js.drop n))]:=by
 have l:=l_revi n hB n (js.take n) [] (js.drop n) (by simp;omega) (by simp;omega);rw [List.nil_append,List.nil_append,List.take_append_drop,List.length_take,Nat.min_eq_left hn,List.length_nil] at l;refine AC.vc hP sh zck (Nat.le_refl _) (by simp [isLive]) (by simp) (Eq.mpr (v194_i1 ..) ?_);rw [w64 (by omega) (by omega)];have e:(((0:Nat):Int)+(n:Int)-1)=(n:Int)-1:=by omega
 rw [e] at l;exact l
theorem c_revi0:AC Tryz.prog 194 [.c (.a (.fz .N))] [] (.tup []) []:=by
 have h:AC Tryz.prog 194 [.c (.a (.fz (.sl false 1 [])))] [] (.tup []) []:=by
  refine AC.vc hP sh zck (Nat.le_refl _) (by simp) (by simp) (Eq.mpr (v194 ..) ?_);refine ⟨rfl,RPt.vc hP sh zck (Eq.mpr (v194_1a ..) ?_)⟩;exact z01 (fun h=>absurd (of_decide_eq_true h) (by decide)) (fun _=>⟨.refl _,rfl⟩)
 exact h.args ⟨le_c (.N 1),trivial⟩
structure HdS where
 l:List Int
 b:Bool
 a:Int
 r:Rd
def headL:Nat→List Int→Bool→Int→Rd→HdS
 | 0,l,b,a,r=>⟨l,b,a,r⟩
 | n+1,l,b,a,r=>
  if r.e≠0 then ⟨l,b,a,r⟩
  else if (z02 r a).2.e≠0 then ⟨l,b,(z02 r a).1.2,(z02 r a).2⟩
  else if (z02 r a).1.1.t=7 then headL n ((z02 r a).1.1.b::l) b (z02 r a).1.1.a (z02 r a).2
  else if (z02 r a).1.1.t=8 then headL n l b (z05 n (z02 r a).2 (z02 r a).1.1).1 (z0m (z05 n (z02 r a).2 (z02 r a).1.1).2 (z02 r a).1.2 (z05 n (z02 r a).2 (z02 r a).1.1).1)
  else if (z02 r a).1.1.t=6 then
   if l=[] then ⟨l,b,(z02 r a).1.2,(z02 r a).2⟩
   else headL n l.tail true (z4k (z02 r a).2 (z02 r a).1.1.a (l.headD 0)).1 (z4k (z02 r a).2 (z02 r a).1.1.a (l.headD 0)).2
  else ⟨l,b,(z02 r a).1.2,(z02 r a).2⟩
def z48:List Int→Int→Rd→Int×Rd
 | [],f,r=>(f,r)
 | x::l,f,r=>z48 l (putR r ⟨7,f,x,0,0⟩).1 (putR r ⟨7,f,x,0,0⟩).2
def z5x (root:Int)(h:HdS):(Int×List Int)×Rd:=
 ((h.a,h.l),if h.b=true then z0m (z48 h.l h.a h.r).2 (z2b (z48 h.l h.a h.r).2.s.C root) (z48 h.l h.a h.r).1 else h.r)
def z0l (n:Nat)(r:Rd)(root:Int):(Int×List Int)×Rd:=z5x root (headL n [] false root r)
theorem OkR.apps:∀ (l:List Int) (f:Int) {r:Rd},OkR r→OkR (z48 l f r).2
 | [],_,_,h=>h
 | x::l,f,r,h=>by rw [z48];exact OkR.apps l _ (h.put _)
theorem OkR.headL:∀ (n:Nat) (l:List Int) (b:Bool) (a:Int) {r:Rd},OkR r→OkR (Go.AM.headL n l b a r).r
 | 0,_,_,_,_,h=>h
 | n+1,l,b,a,r,h=>by
  have v:=h.visit a;rw [Go.AM.headL];split
  · exact h
  · split
    · exact v
    · split
      · exact OkR.headL n _ _ _ v
      · split
        · exact OkR.headL n _ _ _ ((OkR.open _ _ v).keep _ _)
        · split
          · split
            · exact v
            · exact OkR.headL n _ _ _ (v.beta _ _)
          · exact v
theorem OkR.head (n:Nat){r:Rd}(root:Int)(h:OkR r):OkR (z0l n r root).2:=by
 have h1:=OkR.headL n [] false root h;show OkR (if _ then _ else _)
 split
 · exact (OkR.apps _ _ h1).keep _ _
 · exact h1
abbrev aSpn (x:Int×List Int):TV:= .agg [.a (.fz (.int .i64 x.1)), .a (.fz (.sl false 1 (IR x.2)))]
abbrev hpH (r:Rd)(z:Int)(more:List (Nat×AObj)):AHeap:=[(0,rd3 1 r),(1,hp6 6 7 8 5 r.s),(2, .gone),(3, .gone),(4, .gone),(5, .mapz (NM r.s.N 0)),(6, .arz 5 (CR r.s.C)),(7, .arz 7 (TR r.s.T)),(8, .arz 1 (NR r.s.N)),(9, .arr 2 [[.a (.fz (.int .i64 z)), .a (.fz .N)]])]++more
abbrev stA (r:Rd)(root a z:Int)(b:Bool):St:=⟨[(0,aRd),(1,ci root),(4, .c (.a (.ep 9 2 0 0))),(5, .c (.a (.fz .N))),(6,cb b),(7,ci a)],hpH r z [],10⟩
abbrev stB (r:Rd)(root a z:Int)(b:Bool)(n:Nat)(js:List Int):St:=⟨[(0,aRd),(1,ci root),(4, .c (.a (.ep 9 2 0 0))),(5, .c (.a (.osl 10 1 0 n))),(6,cb b),(7,ci a)],hpH r z [(10, .arz 1 (IR js))],11⟩
theorem zgp (root h z:Int)(l0:List Int)(js:List Int)(hjs:js.take l0.length=l0)(hl0:l0.length≤1073741824):∀ (l pre:List Int) (f:Int) (r:Rd),l0=pre++l→OkR r→
  RPt Tryz.prog 128 6 (aSpn (h,l0)) (oRd' (z0m (z48 l f r).2 (z2b (z48 l f r).2.s.C root) (z48 l f r).1)) 7
   ⟨[(0,aRd),(1,ci root),(4, .c (.a (.ep 9 2 0 0))),(5, .c (.a (.osl 10 1 0 l0.length))),(7,ci h),(10,ci f),(81, .c (.a (.osl 10 1 0 l0.length))),(82,ci (l0.length:Int)),(83,ci (pre.length:Int))],hpH r z [(10, .arz 1 (IR js))],11⟩
 | [],pre,f,r,hl,ok=>by
  have hd:=ze4 r.s (by have:=ok.h.C;omega) root;have hk:=zev r (z2b r.s.C root) f ok;rw [List.append_nil] at hl
  have len:l0.length≤js.length:=by
   have:=congrArg List.length hjs;rw [List.length_take] at this;omega
  refine RPt.vc hP sh z3c (Eq.mpr (zrj ..) ?_);refine z01 (fun q=>absurd (of_decide_eq_true q) (by rw [hl];omega)) (fun _=>⟨_,hd,_,hk,⟨rfl,by rw [z06];omega⟩, ?_,rfl⟩);rw [List.drop_zero,zeo,hjs];exact .refl _
 | x::l,pre,f,r,hl,ok=>by
  have hp:=z4w r ⟨7,f,x,0,0⟩ ok;have nx:=zgp root h z l0 js hjs hl0 l (pre++ [x]) (putR r ⟨7,f,x,0,0⟩).1 (putR r ⟨7,f,x,0,0⟩).2 (by rw [hl];simp) (ok.put _);have hlen:l0.length=pre.length+(l.length+1):=by rw [hl];simp
  have len:l0.length≤js.length:=by
   have:=congrArg List.length hjs;rw [List.length_take] at this;omega
  have hg:List.getD (IR js) (0+Int.toNat (pre.length:Int)) []=[.int .i64 x]:=by
   rw [Nat.zero_add,show Int.toNat (pre.length:Int)=pre.length by omega];have h1:(js.take l0.length)[pre.length]? =some x:=by rw [hjs,hl];simp
   rw [List.getElem?_take_of_lt (by omega)] at h1;have hlt:pre.length<js.length:=by omega
   rw [List.getElem?_eq_getElem hlt] at h1;injection h1 with h1
   rw [z2m hlt,h1]
  rw [show (((pre++ [x]).length:Nat):Int)=(pre.length:Int)+1 by simp] at nx;refine RPt.vc hP sh z3c (Eq.mpr (zrj ..) ?_);rw [hg,w64 (x:=(pre.length:Int)+1) (by omega) (by omega)];exact z01 (fun _=>⟨⟨by omega,by omega⟩,⟨by rw [z06];omega,rfl,rfl⟩,_,hp,nx⟩) (fun q=>absurd (of_decide_eq_false q) (by omega))
theorem zn3 (root z:Int)(l js:List Int)(hjs:js.take l.length=l.reverse)(hl:l.length≤1073741824)(b:Bool)(a:Int)(r:Rd)(ok:OkR r):
  RPt Tryz.prog 128 6 (aSpn (z5x root ⟨l,b,a,r⟩).1) (oRd' (z5x root ⟨l,b,a,r⟩).2) 36 (stB r root a z b l.length js):=by
 have len:l.length≤js.length:=by
  have:=congrArg List.length hjs;rw [List.length_take,List.length_reverse] at this;omega
 have hr:=c_revi js l.length len hl;rw [hjs,List.reverse_reverse] at hr;have e0:z5x root ⟨l,b,a,r⟩=((a,l),if b=true then z0m (z48 l a r).2 (z2b (z48 l a r).2.s.C root) (z48 l a r).1 else r):=rfl
 rw [e0];have nx:=zgp root a z l (l++js.drop l.length) (List.take_left ..) hl l [] a r rfl ok;refine RPt.vc hP sh z3c (Eq.mpr (v128_36b ..) ?_);refine ⟨_,hr,z01 (fun q=> ?_) (fun q=>⟨⟨rfl,by rw [z06,List.length_append];omega⟩, ?_, ?_⟩)⟩
 · rw [if_pos (show b=true from q)];exact nx
 · rw [List.drop_zero,zeo,List.take_left];exact .refl _
 · rw [if_neg (show¬b=true by rw [show b=false from q];decide)]
theorem zml (root z:Int)(b:Bool)(a:Int)(r:Rd)(ok:OkR r):
  RPt Tryz.prog 128 6 (aSpn (z5x root ⟨[],b,a,r⟩).1) (oRd' (z5x root ⟨[],b,a,r⟩).2) 36 (stA r root a z b):=by
 have hd:=ze4 r.s (by have:=ok.h.C;omega) root;have hk:=zev r (z2b r.s.C root) a ok;have e0:z5x root ⟨[],b,a,r⟩=((a,[]),if b=true then z0m r (z2b r.s.C root) a else r):=rfl
 rw [e0];have le:TV.Le (.agg [.a (.fz (.int .i64 a)), .a (.fz .N)]) (aSpn (a,[])):=le_agg (a:=[.int .i64 a, .N]) (b:=[.int .i64 a, .sl false 1 (IR [])]) ⟨.refl _, .N 1,trivial⟩;refine RPt.vc hP sh z3c (Eq.mpr (v128_36a ..) ?_);refine ⟨[],c_revi0,z01 (fun q=>⟨rfl, ?_⟩) (fun q=>⟨le, ?_⟩)⟩
 · rw [if_pos (show b=true from q)];refine RPt.vc hP sh z3c (Eq.mpr (v128_7a ..) ?_);exact z01 (fun q=>absurd (of_decide_eq_true q) (by decide)) (fun _=>⟨_,hd,_,hk,le,rfl⟩)
 · rw [if_neg (show¬b=true by rw [show b=false from q];decide)]
theorem zqd (r:Rd)(b x:Int):(z4k r b x).2.f=r.f:=by simp only [z4k,zef]
theorem zem (root z:Int):∀ (n:Nat) (l:List Int) (b:Bool) (a:Int) (r:Rd),OkR r→2*r.f.toNat+2≤n→l.length+r.f.toNat≤1000000000→
  (l=[]→RPt Tryz.prog 128 6 (aSpn (z5x root (headL n l b a r)).1) (oRd' (z5x root (headL n l b a r)).2) 1 (stA r root a z b))∧
  (∀ js:List Int,js.take l.length=l.reverse→RPt Tryz.prog 128 6 (aSpn (z5x root (headL n l b a r)).1) (oRd' (z5x root (headL n l b a r)).2) 1 (stB r root a z b l.length js))
 | 0,_,_,_,_,_,h,_=>absurd h (by omega)
 | n+1,l,b,a,r,ok,hn,hl=>by
  have hv:=zeb r a ok;have ov:=ok.visit a;have vf:=z4p r a;have vs:=z90 r a
  have e0:headL (n+1) l b a r=if r.e≠0 then ⟨l,b,a,r⟩
   else if (z02 r a).2.e≠0 then ⟨l,b,(z02 r a).1.2,(z02 r a).2⟩
   else if (z02 r a).1.1.t=7 then headL n ((z02 r a).1.1.b::l) b (z02 r a).1.1.a (z02 r a).2
   else if (z02 r a).1.1.t=8 then headL n l b (z05 n (z02 r a).2 (z02 r a).1.1).1 (z0m (z05 n (z02 r a).2 (z02 r a).1.1).2 (z02 r a).1.2 (z05 n (z02 r a).2 (z02 r a).1.1).1)
   else if (z02 r a).1.1.t=6 then
    if l=[] then ⟨l,b,(z02 r a).1.2,(z02 r a).2⟩
    else headL n l.tail true (z4k (z02 r a).2 (z02 r a).1.1.a (l.headD 0)).1 (z4k (z02 r a).2 (z02 r a).1.1.a (l.headD 0)).2
   else ⟨l,b,(z02 r a).1.2,(z02 r a).2⟩:=rfl
  generalize hvr:z02 r a=v at*;obtain ⟨⟨c,t⟩,⟨vs',vf',ve'⟩⟩:=v;dsimp only at vs vf e0 ov hv;subst vs
  have fin:∀ (l:List Int) (b:Bool) (a:Int) (r:Rd),OkR r→l.length≤1000000000→headL (n+1) l b a r=headL (n+1) l b a r→
   (l=[]→RPt Tryz.prog 128 6 (aSpn (z5x root ⟨l,b,a,r⟩).1) (oRd' (z5x root ⟨l,b,a,r⟩).2) 36 (stA r root a z b))∧(∀ js:List Int,js.take l.length=l.reverse→RPt Tryz.prog 128 6 (aSpn (z5x root ⟨l,b,a,r⟩).1) (oRd' (z5x root ⟨l,b,a,r⟩).2) 36 (stB r root a z b l.length js)):=
   fun l b a r ok hl _=>⟨fun e=>by subst e;exact zml root z b a r ok,fun js hjs=>zn3 root z l js hjs (by omega) b a r ok⟩
  by_cases q0:r.e=0
  · rw [if_neg (fun w=>w q0)] at e0;have f1:=vf.1;by_cases q1:ve'=0
    · rw [if_neg (fun w=>w q1)] at e0;obtain ⟨f2,f3⟩:=vf.2 q1;by_cases q2:c.t=7
      · rw [if_pos q2] at e0;have ih:=zem root z n (c.b::l) b c.a ⟨r.s,vf',ve'⟩ ov (by dsimp only;omega) (by simp only [List.length_cons];omega);rw [e0];refine ⟨fun e=> ?_,fun js hjs=> ?_⟩
        · subst e;have:=ih.2 [c.b] rfl;refine RPt.vc hP sh z3c (Eq.mpr (z8y ..) ?_);exact z04 (fun _=>⟨(c.t,c.a,c.b,c.c,c.d,t,vf',ve'),hv,z0j (fun w=>absurd q1 w) (fun _=>z04 (fun _=>⟨Nat.le_refl _,by simp only [z0c];omega,this⟩) (fun w=>absurd q2 w))⟩) (fun w=>absurd q0 w)
        · have len:l.length≤js.length:=by
           have:=congrArg List.length hjs;rw [List.length_take,List.length_reverse] at this;omega
          have:=ih.2 (js.take l.length++ [c.b]) (by rw [hjs,List.reverse_cons];exact List.take_of_length_le (by simp));have e9:IR (js.take l.length++ [c.b])=List.take l.length (IR js)++ [[.int .i64 c.b]]:=by rw [zeq,←zeo];rfl
          simp only [stB,hpH] at this;rw [e9] at this;refine RPt.vc hP sh z3c (Eq.mpr (z7a ..) ?_);exact z04 (fun _=>⟨(c.t,c.a,c.b,c.c,c.d,t,vf',ve'),hv,z0j (fun w=>absurd q1 w) (fun _=>z04 (fun _=>⟨Nat.le_refl _,⟨by rw [z06];omega,by simp only [z0c];omega⟩,this⟩) (fun w=>absurd q2 w))⟩) (fun w=>absurd q0 w)
      · rw [if_neg q2] at e0;by_cases q3:c.t=8
        · rw [if_pos q3] at e0;have ho:=c_ropen n n (Nat.le_refl _) ⟨r.s,vf',ve'⟩ c ov (by dsimp only;omega);have oo:=OkR.open n c ov;have hk:=zev (z05 n ⟨r.s,vf',ve'⟩ c).2 t (z05 n ⟨r.s,vf',ve'⟩ c).1 oo;have g1:=zbv n ⟨r.s,vf',ve'⟩ c;have g2:=z9t (z05 n ⟨r.s,vf',ve'⟩ c).2 t (z05 n ⟨r.s,vf',ve'⟩ c).1;dsimp only at g1;have ih:=zem root z n l b (z05 n ⟨r.s,vf',ve'⟩ c).1 (z0m (z05 n ⟨r.s,vf',ve'⟩ c).2 t (z05 n ⟨r.s,vf',ve'⟩ c).1) (oo.keep _ _) (by rw [g2];omega) (by rw [g2];omega);rw [e0];refine ⟨fun e=> ?_,fun js hjs=> ?_⟩
          · have:=ih.1 e;refine RPt.vc hP sh z3c (Eq.mpr (z8y ..) ?_);exact z04 (fun _=>⟨(c.t,c.a,c.b,c.c,c.d,t,vf',ve'),hv,z0j (fun w=>absurd q1 w) (fun _=>z04 (fun w=>absurd w q2) (fun _=>z04 (fun _=>⟨_,ho,_,hk,this⟩) (fun w=>absurd q3 w)))⟩) (fun w=>absurd q0 w)
          · have:=ih.2 js hjs;refine RPt.vc hP sh z3c (Eq.mpr (z7a ..) ?_);exact z04 (fun _=>⟨(c.t,c.a,c.b,c.c,c.d,t,vf',ve'),hv,z0j (fun w=>absurd q1 w) (fun _=>z04 (fun w=>absurd w q2) (fun _=>z04 (fun _=>⟨_,ho,_,hk,this⟩) (fun w=>absurd q3 w)))⟩) (fun w=>absurd q0 w)
        · rw [if_neg q3] at e0;have stop:=fin l b t ⟨r.s,vf',ve'⟩ ov (by omega) rfl;by_cases q4:c.t=6
          · rw [if_pos q4] at e0;by_cases q5:l=[]
            · rw [if_pos q5] at e0;rw [e0];refine ⟨fun e=> ?_,fun js hjs=> ?_⟩
              · have:=stop.1 e;refine RPt.vc hP sh z3c (Eq.mpr (z8y ..) ?_);exact z04 (fun _=>⟨(c.t,c.a,c.b,c.c,c.d,t,vf',ve'),hv,z0j (fun w=>absurd q1 w) (fun _=>z04 (fun w=>absurd w q2) (fun _=>z04 (fun w=>absurd w q3) (fun _=>z04 (fun _=>⟨rfl,this⟩) (fun w=>absurd q4 w))))⟩) (fun w=>absurd q0 w)
              · have:=stop.2 js hjs;refine RPt.vc hP sh z3c (Eq.mpr (z7a ..) ?_);exact z04 (fun _=>⟨(c.t,c.a,c.b,c.c,c.d,t,vf',ve'),hv,z0j (fun w=>absurd q1 w) (fun _=>z04 (fun w=>absurd w q2) (fun _=>z04 (fun w=>absurd w q3) (fun _=>z04 (fun _=>z01 (fun w=>absurd (of_decide_eq_true w) (by rw [q5];simp)) (fun _=>this)) (fun w=>absurd q4 w))))⟩) (fun w=>absurd q0 w)
            · rw [if_neg q5] at e0
              obtain ⟨x,l',rfl⟩:∃ x l',l=x::l':=by
               cases l with
               | nil=>exact absurd rfl q5
               | cons x l'=>exact ⟨x,l',rfl⟩
              simp only [List.length_cons] at hl;have hb:=c_rbeta ⟨r.s,vf',ve'⟩ c x ov;have bf:=zqd ⟨r.s,vf',ve'⟩ c.a x;dsimp only at bf;have ih:=zem root z n l' true (z4k ⟨r.s,vf',ve'⟩ c.a x).1 (z4k ⟨r.s,vf',ve'⟩ c.a x).2 (ov.beta _ _) (by rw [bf];omega) (by rw [bf];omega);refine ⟨fun e=>(by cases e),fun js hjs=> ?_⟩;have e1:headL (n+1) (x::l') b a r=headL n l' true (z4k ⟨r.s,vf',ve'⟩ c.a x).1 (z4k ⟨r.s,vf',ve'⟩ c.a x).2:=e0;rw [e1]
              have len:l'.length+1≤js.length:=by
               have:=congrArg List.length hjs;rw [List.length_take,List.length_reverse,List.length_cons] at this;omega
              have hjs':js.take l'.length=l'.reverse∧js[l'.length]? =some x:=by
               have h1:js.take (l'.length+1)=l'.reverse++ [x]:=by rw [List.length_cons] at hjs;rw [hjs,List.reverse_cons]
               refine ⟨?_, ?_⟩
               · have:=congrArg (List.take l'.length) h1;rw [List.take_take,Nat.min_eq_left (by omega),List.take_left' (by simp)] at this;exact this
               · have:(js.take (l'.length+1))[l'.length]? =some x:=by rw [h1];simp
                 rwa [List.getElem?_take_of_lt (by omega)] at this
              have:=ih.2 js hjs'.1
              have ew:wr ((((x::l').length:Nat):Int)-1)=(l'.length:Int):=by
               rw [wr,w64 (by simp only [List.length_cons];omega) (by simp only [List.length_cons];omega)];simp only [List.length_cons];omega
              have hlt:l'.length<js.length:=by omega
              have hg:List.getD (IR js) (0+Int.toNat (l'.length:Int)) []=[.int .i64 x]:=by
               rw [Nat.zero_add,Int.toNat_natCast,z2m hlt];have h2:=hjs'.2;rw [List.getElem?_eq_getElem hlt] at h2;injection h2 with h2
               rw [h2]
              refine RPt.vc hP sh z3c (Eq.mpr (z7a ..) ?_);have ew:IntKind.wrap .i64 ((((x::l').length:Nat):Int)-1)=(l'.length:Int):=ew;rw [ew,hg];refine z04 (fun _=>⟨(c.t,c.a,c.b,c.c,c.d,t,vf',ve'),hv,z0j (fun w=>absurd q1 w) (fun _=>z04 (fun w=>absurd w q2) (fun _=>z04 (fun w=>absurd w q3) (fun _=>z04 (fun _=>z01 (fun _=> ?_) (fun w=>absurd (of_decide_eq_false w) (by simp only [List.length_cons];omega))) (fun w=>absurd q4 w))))⟩) (fun w=>absurd q0 w);refine ⟨⟨by omega,by simp only [List.length_cons];omega⟩,⟨by rw [z06,Int.toNat_natCast];omega,rfl,rfl⟩,z4k ⟨r.s,vf',ve'⟩ c.a x,hb,⟨by omega,by omega,by simp only [List.length_cons];omega⟩, ?_⟩;rw [Int.toNat_natCast];exact this
          · rw [if_neg q4] at e0;rw [e0];refine ⟨fun e=> ?_,fun js hjs=> ?_⟩
            · have:=stop.1 e;refine RPt.vc hP sh z3c (Eq.mpr (z8y ..) ?_);exact z04 (fun _=>⟨(c.t,c.a,c.b,c.c,c.d,t,vf',ve'),hv,z0j (fun w=>absurd q1 w) (fun _=>z04 (fun w=>absurd w q2) (fun _=>z04 (fun w=>absurd w q3) (fun _=>z04 (fun w=>absurd w q4) (fun _=>this))))⟩) (fun w=>absurd q0 w)
            · have:=stop.2 js hjs;refine RPt.vc hP sh z3c (Eq.mpr (z7a ..) ?_);exact z04 (fun _=>⟨(c.t,c.a,c.b,c.c,c.d,t,vf',ve'),hv,z0j (fun w=>absurd q1 w) (fun _=>z04 (fun w=>absurd w q2) (fun _=>z04 (fun w=>absurd w q3) (fun _=>z04 (fun w=>absurd w q4) (fun _=>this))))⟩) (fun w=>absurd q0 w)
    · rw [if_pos q1] at e0;have stop:=fin l b t ⟨r.s,vf',ve'⟩ ov (by omega) rfl;rw [e0];refine ⟨fun e=> ?_,fun js hjs=> ?_⟩
      · have:=stop.1 e;refine RPt.vc hP sh z3c (Eq.mpr (z8y ..) ?_);exact z04 (fun _=>⟨(c.t,c.a,c.b,c.c,c.d,t,vf',ve'),hv,z0j (fun _=>this) (fun w=>absurd w q1)⟩) (fun w=>absurd q0 w)
      · have:=stop.2 js hjs;refine RPt.vc hP sh z3c (Eq.mpr (z7a ..) ?_);exact z04 (fun _=>⟨(c.t,c.a,c.b,c.c,c.d,t,vf',ve'),hv,z0j (fun _=>this) (fun w=>absurd w q1)⟩) (fun w=>absurd q0 w)
  · rw [if_pos q0] at e0;have stop:=fin l b a r ok (by omega) rfl;rw [e0];refine ⟨fun e=> ?_,fun js hjs=> ?_⟩
    · have:=stop.1 e;refine RPt.vc hP sh z3c (Eq.mpr (z8y ..) ?_);exact z04 (fun w=>absurd w q0) (fun _=>this)
    · have:=stop.2 js hjs;refine RPt.vc hP sh z3c (Eq.mpr (z7a ..) ?_);exact z04 (fun w=>absurd w q0) (fun _=>this)
theorem zqv (n:Nat)(r:Rd)(root:Int)(ok:OkR r)(hn:2*r.f.toNat+2≤n)(hf:r.f≤1000000000):AC Tryz.prog 128 [aRd,ci root] (oRd r) (aSpn (z0l n r root).1) (oRd' (z0l n r root).2):=by
 have h:=(zem root 0 n [] false root r ok hn (by simp only [List.length_nil];omega)).1 rfl;unfold z0l;refine AC.vc hP sh z3c (by simp) (by simp [isLive]) (by simp [isLive]) (Eq.mpr (v128 ..) ?_);exact h
end Go.AM

set_option maxRecDepth 100000
open Go Go.Proofs
namespace Go.AM
def zkx (c:Int):Bool:=decide (97≤c)&&decide (c≤122)
def zrc (c:Int):Bool:=decide (65≤c)&&decide (c≤90)||c==95
def znw (c:Int):Bool:=decide (48≤c)&&decide (c≤57)
def z6h (c:Int):Bool:=zkx c||zrc c||znw c||c==39
def signs:List UInt8:=[43,45,42,47,60,62,61,38,124,94,126,64,35,36,63,58]
def zj2 (c:Int):Bool:=decide (Lib.indexByte signs c.toNat.toUInt8≥0)
theorem zpm (c:Int):AC Tryz.prog 136 [c8 c] [] (cb (zkx c)) []:=by
 refine AC.vc hP sh lv136 (Nat.le_refl _) (by simp) (by simp) (Eq.mpr (v136 ..) ?_);refine z01 (fun h=>z0a ?_) (fun h=>z0a ?_)<;>simp_all [zkx]<;>omega
theorem c_great (c:Int):AC Tryz.prog 198 [c8 c] [] (cb (zrc c)) []:=by
 refine AC.vc hP sh lv198 (Nat.le_refl _) (by simp) (by simp) (Eq.mpr (v198 ..) ?_);refine z01 (fun h=>z01 (fun h=>z0a ?_) (fun h=>z0a ?_)) (fun h=>z0a ?_)<;>simp_all [zrc]<;>omega
theorem c_digit (c:Int):AC Tryz.prog 199 [c8 c] [] (cb (znw c)) []:=by
 refine AC.vc hP sh lv199 (Nat.le_refl _) (by simp) (by simp) (Eq.mpr (v199 ..) ?_);refine z01 (fun h=>z0a ?_) (fun h=>z0a ?_)<;>simp_all [znw]<;>omega
theorem c_inside (c:Int):AC Tryz.prog 138 [c8 c] [] (cb (z6h c)) []:=by
 refine AC.vc hP sh lv138 (Nat.le_refl _) (by simp) (by simp) (Eq.mpr (v138 ..) ?_);refine ⟨_,zpm c,z01 (fun h=>z0a ?_) (fun h=>⟨_,c_great c,z01 (fun h=>z0a ?_) (fun h=>⟨_,c_digit c,z01 (fun h=>z0a ?_) (fun h=>z0a ?_)⟩)⟩)⟩<;>simp_all [z6h]
theorem zh1 (s:List UInt8)(c:Int):AC Tryz.prog 257 [cs s,c8 c] [] (ci (Lib.indexByte s c.toNat.toUInt8)) []:=
 AC.str_u8 (by kernel_rfl) fun w=>Tryz.stringslite_IndexByte ⟨s.toArray⟩ c w
theorem zjp (s:List UInt8)(c:Int):AC Tryz.prog 200 [cs s,c8 c] [] (ci (Lib.indexByte s c.toNat.toUInt8)) []:=
 AC.str_u8 (by kernel_rfl) fun w=>Tryz.strings_IndexByte ⟨s.toArray⟩ c w
theorem c_sign (c:Int):AC Tryz.prog 139 [c8 c] [] (cb (zj2 c)) []:=by
 refine AC.vc hP sh lv139 (Nat.le_refl _) (by simp) (by simp) (Eq.mpr (v139 ..) ?_);exact ⟨_,zjp _ c,z0a rfl⟩
def runN (p:Int→Bool):List UInt8→Nat
 | []=>0
 | c::s=>if p (c.toNat:Int) then runN p s+1 else 0
theorem zqw (p:Int→Bool):∀ s:List UInt8,runN p s≤s.length
 | []=>Nat.le_refl _
 | c::s=>by have:=zqw p s;simp only [runN,List.length_cons];split<;>omega
theorem zp9 (a:List UInt8)(c:UInt8)(b:List UInt8):List.getD (a++c::b) (Int.toNat (a.length:Int)) 0=c:=by simp [List.getD]
theorem z9s:∀ (b a:List UInt8),(a++b).length≤B→RPt Tryz.prog 137 0 (ci ((a.length:Int)+runN z6h b)) [] 1 ⟨[(0,cs (a++b)),(1, .c (.fn (.func 138) [] [])),(7,ci (((a++b).length:Nat):Int)),(8,ci a.length)],[],0⟩
 | [],a,hl=>by
  refine RPt.vc hP sh zci (Eq.mpr (z9p ..) ?_);exact z01 (fun h=>absurd h (by simp)) (fun _=>z6x (by simp [runN]))
 | c::b,a,hl=>by
  refine RPt.vc hP sh zci (Eq.mpr (z9p ..) ?_);have hl':=hl;simp only [List.length_append,List.length_cons,B] at hl';refine z01 (fun _=>⟨⟨by omega,by simp;omega⟩,z6h (c.toNat:Int), ?_,z01 (fun h=>z6x ?_) (fun h=> ?_)⟩) (fun h=>absurd h (by simp;omega))
  · rw [zp9];exact c_inside _
  · simp_all [runN]
  · have:=z9s b (a++ [c]) (by simpa using hl);rw [w64 (by omega) (by omega)];simp only [List.append_assoc,List.cons_append,List.nil_append,List.length_append,List.length_cons,List.length_nil,Int.natCast_add,Int.natCast_one,Int.natCast_zero,Int.zero_add] at this;simp only [Bool.not_eq_false'] at h;simp only [runN,h,if_true,List.length_append,List.length_cons,Int.natCast_add,Int.natCast_one];rw [show (a.length:Int)+((runN z6h b:Nat)+1:Int)=(a.length:Int)+1+(runN z6h b:Nat) by omega];exact this
theorem zhf (s:List UInt8)(h:s.length≤B):AC Tryz.prog 137 [cs s, .c (.fn (.func 138) [] [])] [] (ci (runN z6h s)) []:=by
 refine AC.vc hP sh zci (Nat.le_refl _) (by simp) (by simp) (Eq.mpr (zpk ..) ?_);have:=z9s s [] (by simpa using h);simpa using this
theorem zcx:∀ (b a:List UInt8),(a++b).length≤B→RPt Tryz.prog 137 0 (ci ((a.length:Int)+runN zj2 b)) [] 1 ⟨[(0,cs (a++b)),(1, .c (.fn (.func 139) [] [])),(7,ci (((a++b).length:Nat):Int)),(8,ci a.length)],[],0⟩
 | [],a,hl=>by
  refine RPt.vc hP sh zci (Eq.mpr (z9r ..) ?_);exact z01 (fun h=>absurd h (by simp)) (fun _=>z6x (by simp [runN]))
 | c::b,a,hl=>by
  refine RPt.vc hP sh zci (Eq.mpr (z9r ..) ?_);have hl':=hl;simp only [List.length_append,List.length_cons,B] at hl';refine z01 (fun _=>⟨⟨by omega,by simp;omega⟩,zj2 (c.toNat:Int), ?_,z01 (fun h=>z6x ?_) (fun h=> ?_)⟩) (fun h=>absurd h (by simp;omega))
  · rw [zp9];exact c_sign _
  · simp_all [runN]
  · have:=zcx b (a++ [c]) (by simpa using hl);rw [w64 (by omega) (by omega)];simp only [List.append_assoc,List.cons_append,List.nil_append,List.length_append,List.length_cons,List.length_nil,Int.natCast_add,Int.natCast_one,Int.natCast_zero,Int.zero_add] at this;simp only [Bool.not_eq_false'] at h;simp only [runN,h,if_true,List.length_append,List.length_cons,Int.natCast_add,Int.natCast_one];rw [show (a.length:Int)+((runN zj2 b:Nat)+1:Int)=(a.length:Int)+1+(runN zj2 b:Nat) by omega];exact this
theorem zn8 (s:List UInt8)(h:s.length≤B):AC Tryz.prog 137 [cs s, .c (.fn (.func 139) [] [])] [] (ci (runN zj2 s)) []:=by
 refine AC.vc hP sh zci (Nat.le_refl _) (by simp) (by simp) (Eq.mpr (zoy ..) ?_);have:=zcx s [] (by simpa using h);simpa using this
theorem z87 (p:Int→Bool):∀ s:List UInt8,(((runN p s:Nat):Int)==((s.length:Nat):Int))=s.all fun c=>p (c.toNat:Int)
 | []=>rfl
 | c::s=>by
  have ih:=z87 p s;have:=zqw p s;simp only [runN,List.all_cons,List.length_cons];cases h:p (c.toNat:Int) with
  | true=>rw [←ih];simp only [if_true,Bool.true_and];rw [Bool.eq_iff_iff];simp<;>omega
  | false=>simp;omega
def zm1 (s:List UInt8):Bool:= !(s==[])&&decide ((s.length:Int)≤32)
theorem c_fits (s:List UInt8):AC Tryz.prog 135 [cs s] [] (cb (zm1 s)) []:=by
 refine AC.vc hP sh lv135 (Nat.le_refl _) (by simp) (by simp) (Eq.mpr (v135 ..) ?_);refine z01 (fun h=>z0a ?_) (fun h=>z0a ?_)<;>simp_all [zm1]
def zgr (s:List UInt8):Bool:=zm1 s&&zkx ((s.getD 0 0).toNat:Int)&&s.all fun c=>z6h (c.toNat:Int)
theorem zih {s:List UInt8}(h:zm1 s=true):0<s.length∧s.length≤32:=by
 simp only [zm1,Bool.and_eq_true,Bool.not_eq_true',decide_eq_true_eq] at h;refine ⟨?_,by omega⟩;cases s with
 | nil=>simp at h
 | cons c s=>simp
theorem c_isname (s:List UInt8):AC Tryz.prog 83 [cs s] [] (cb (zgr s)) []:=by
 refine AC.vc hP sh lv83 (Nat.le_refl _) (by simp) (by simp) (Eq.mpr (v83 ..) ?_);refine ⟨_,c_fits s,z01 (fun h=>⟨⟨by omega,by have:=zih h;omega⟩,_,zpm _,z01 (fun h2=>⟨_,zhf s (by have:=zih h;simp only [B];omega),z0a ?_⟩) (fun h2=>z0a ?_)⟩) (fun h=>z0a ?_)⟩
 · rw [z87];simp only [zgr,h,h2,Bool.true_and]
 · simp only [zgr,h,h2,Bool.and_false,Bool.false_and]
 · simp only [zgr,h,Bool.false_and]
def zj1:List UInt8:=[44,59,33]
theorem zj8 (s:List UInt8)(c:UInt8)(hs:s.length≤B):AC Tryz.prog 140 [cs s,cs [c]] [] (cb (decide (Lib.indexByte s c≥0))) []:=by
 have hb:(c.toNat:Int).toNat.toUInt8=c:=by simp
 have h1:AC Tryz.prog 258 [cs s,cs [c]] [] (ci (if [c]==s then 0 else Lib.indexByte s c)) []:=by
  refine AC.vc hP sh lv258 (Nat.le_refl _) (by simp) (by simp) (Eq.mpr (v258 ..) ?_);refine z01 (fun h=>absurd h (by simp)) (fun _=>z01 (fun h=>z6x (by simp [h])) (fun h=>z01 (fun _=>⟨⟨by omega,by simp⟩,_,zh1 s _,z6x ?_⟩) (fun h2=>absurd h2 (by simp))));rw [h];simp
 have h2:AC Tryz.prog 201 [cs s,cs [c]] [] (ci (if [c]==s then 0 else Lib.indexByte s c)) []:=by
  refine AC.vc hP sh lv201 (Nat.le_refl _) (by simp) (by simp) (Eq.mpr (v201 ..) ?_);exact ⟨_,h1,z6x rfl⟩
 refine AC.vc hP sh lv140 (Nat.le_refl _) (by simp) (by simp) (Eq.mpr (v140 ..) ?_);refine ⟨_,h2,z0a ?_⟩;by_cases e:[c]=s
 · subst e;simp [Lib.indexByte]
 · have:([c]==s)=false:=by simpa using e
   rw [this];simp
def zm5 (s:List UInt8):Bool:=zm1 s&&((s.all fun c=>zj2 (c.toNat:Int))||((s.length:Int)==1&&decide (Lib.indexByte zj1 (s.getD 0 0)≥0)))
theorem c_issym (s:List UInt8):AC Tryz.prog 84 [cs s] [] (cb (zm5 s)) []:=by
 refine AC.vc hP sh lv84 (Nat.le_refl _) (by simp) (by simp) (Eq.mpr (v84 ..) ?_);refine ⟨_,c_fits s,z01 (fun h=>⟨_,zn8 s (by have:=zih h;simp only [B];omega),z01 (fun h2=>z0a ?_) (fun h2=>z01 (fun h3=> ?_) (fun h3=>z0a ?_))⟩) (fun h=>z0a ?_)⟩
 · rw [z87] at h2;simp only [zm5,h,h2,Bool.true_and,Bool.true_or]
 · rw [z87] at h2
   match s,h3 with
   | [c],h3=>
    refine ⟨_,zj8 zj1 c (by simp [zj1,B]),z0a ?_⟩;simp only [zm5,h,h2,h3,Bool.true_and,Bool.false_or,List.getD_cons_zero]
   | [],h3=>simp at h3
   | _::_::_,h3=>simp at h3;omega
 · rw [z87] at h2;simp only [zm5,h,h2,h3,Bool.false_and,Bool.false_or,Bool.and_false]
 · simp only [zm5,h,Bool.false_and]
end Go.AM

set_option maxRecDepth 100000
open Go Go.Proofs
namespace Go.AM
mutual
def near (most:Int):Tm→Bool
 | .mk k _ n l=> !(k !=2&&(decide (n>most)||decide (n<0-most)))&&zga most l
def zga (most:Int):List Tm→Bool
 | []=>true
 | t::l=>near most t&&zga most l
end
theorem l_near (most:Int)(k:Int)(s:List UInt8)(n:Int):∀ (b a:List Tm),(∀ u∈b,AC Tryz.prog 35 [aT u,ci most] [] (cb (near most u)) [])→(a++b).length≤B→
  RPt Tryz.prog 35 0 (cb (zga most b)) [] 1 ⟨[(1,ci most),(2,(.c (.a (.ep 0 4 0 0)))),(5,ci a.length)],[(0,(.arr 4 [fzs (FT (.mk k s n (a++b)))]))],1⟩
 | [],a,_,hl=>by
  refine RPt.vc hP sh lv35 (Eq.mpr (v35_1a ..) ?_);exact ⟨rfl,z01 (fun h=>absurd (of_decide_eq_true h) (geI' a)) (fun _=>z0a rfl)⟩
 | t::b,a,ih,hl=>by
  refine RPt.vc hP sh lv35 (Eq.mpr (v35_1a ..) ?_);have hl':=hl;simp only [List.length_append,List.length_cons,B] at hl';refine ⟨rfl,z01 (fun _=> ?_) (fun h=>absurd (ltI' a t b) (of_decide_eq_false h))⟩;have h1:=ih t List.mem_cons_self;have h2:=l_near most k s n b (a++ [t]) (fun u hu=>ih u (List.mem_cons_of_mem _ hu)) (by rw [ap];exact hl);have h3:=ltI' a t b;rw [ap,nx] at h2;rw [midI,w64 (by omega) (by omega)];obtain ⟨k',s',n',l'⟩:=t;refine ⟨⟨rfl,by omega,h3,rfl⟩,_,h1,z01 (fun h=>z0a ?_) (fun h=> ?_)⟩
  · simp_all [zga]
  · simp only [zga,show near most (.mk k' s' n' l')=true by simpa using h,Bool.true_and];exact h2
theorem c_near (most:Int)(h0:0≤most)(h1:most≤4611686018427387904):∀ t:Tm,t.sz≤B→AC Tryz.prog 35 [aT t,ci most] [] (cb (near most t)) []:=by
 refine Tm.ind fun t ih hs=> ?_;obtain ⟨k,s,n,l⟩:=t;have hl:=Tm.szs_length l;simp only [Tm.sz,B] at hs;refine AC.vc hP sh lv35 (Nat.le_refl _) (by simp) (by simp) (Eq.mpr (v35 k s n (FTs l) most _ _) ?_);have key:=l_near most k s n l [] (fun u hu=>ih u hu (by have:=Tm.szs_mem hu;simp only [B];omega)) (by simp only [List.nil_append,B];omega);rw [w64 (by omega) (by omega)];rw [near];refine z01 (fun h=>z01 (fun h2=>z0a ?_) (fun h2=>z01 (fun h3=>z0a ?_) (fun h3=> ?_))) (fun h=> ?_)
 · simp only [h,h2,Bool.true_or,Bool.and_true,Bool.not_true,Bool.false_and]
 · simp only [h,h3,Bool.or_true,Bool.and_true,Bool.not_true,Bool.false_and]
 · simp only [h2,h3,Bool.or_false,Bool.and_false,Bool.not_false,Bool.true_and];exact key
 · simp only [h,Bool.false_and,Bool.not_false,Bool.true_and];exact key
mutual
def z8v:Tm→Int→Int
 | .mk _ _ _ l,most=>z98 l (most-1)
def z98:List Tm→Int→Int
 | [],n=>n
 | t::l,n=>if n≥0 then z98 l (z8v t n) else n
end
mutual
theorem zln:∀ (t:Tm) (n:Int),z8v t n≤n-1∧(0≤n→ -1≤z8v t n)
 | .mk _ _ _ l,n=>by
  have h:=zf1 l (n-1);simp only [z8v];exact ⟨h.1,fun hn=>h.2 (by omega)⟩
theorem zf1:∀ (l:List Tm) (n:Int),z98 l n≤n∧(-1≤n→ -1≤z98 l n)
 | [],n=>by simp [z98]
 | t::l,n=>by
  have h1:=zln t n;have h2:=zf1 l (z8v t n);simp only [z98];split
  · rename_i h;exact ⟨by omega,fun _=>h2.2 (h1.2 h)⟩
  · exact ⟨Int.le_refl _,fun h=>h⟩
end
theorem l_left (k:Int)(s:List UInt8)(n:Int):∀ (b a:List Tm) (m:Int),(∀ u∈b,∀ m:Int,0≤m→m≤4611686018427387904→AC Tryz.prog 82 [aT u,ci m] [] (ci (z8v u m)) [])→(a++b).length≤B→m≤4611686018427387904→
  RPt Tryz.prog 82 0 (ci (z98 b m)) [] 1 ⟨[(2,(.c (.a (.ep 0 4 0 0)))),(5,ci m),(6,ci a.length)],[(0,(.arr 4 [fzs (FT (.mk k s n (a++b)))]))],1⟩
 | [],a,m,_,hl,hm=>by
  refine RPt.vc hP sh lv82 (Eq.mpr (v82_1a ..) ?_);exact ⟨rfl,z01 (fun h=>absurd (of_decide_eq_true h) (geI' a)) (fun _=>z6x rfl)⟩
 | t::b,a,m,ih,hl,hm=>by
  refine RPt.vc hP sh lv82 (Eq.mpr (v82_1a ..) ?_);have hl':=hl;simp only [List.length_append,List.length_cons,B] at hl';refine ⟨rfl,z01 (fun _=>z01 (fun hm0=> ?_) (fun hm0=>z6x ?_)) (fun h=>absurd (ltI' a t b) (of_decide_eq_false h))⟩
  · have hm0:=of_decide_eq_true hm0;have h1:=ih t List.mem_cons_self m hm0 hm;have hle:=zln t m;have h2:=l_left k s n b (a++ [t]) (z8v t m) (fun u hu=>ih u (List.mem_cons_of_mem _ hu)) (by rw [ap];exact hl) (by omega);have h3:=ltI' a t b;rw [ap,nx] at h2;rw [midI,w64 (by omega) (by omega)];simp only [z98,hm0,if_true];obtain ⟨k',s',n',l'⟩:=t;exact ⟨⟨rfl,by omega,h3,rfl⟩,_,h1,h2⟩
  · have hm0:=of_decide_eq_false hm0;simp only [z98,hm0,if_false]
theorem c_left:∀ t:Tm,t.sz≤B→∀ m:Int,0≤m→m≤4611686018427387904→AC Tryz.prog 82 [aT t,ci m] [] (ci (z8v t m)) []:=by
 refine Tm.ind fun t ih hs m h0 h1=> ?_;obtain ⟨k,s,n,l⟩:=t;have hl:=Tm.szs_length l;simp only [Tm.sz,B] at hs;refine AC.vc hP sh lv82 (Nat.le_refl _) (by simp) (by simp) (Eq.mpr (v82 k s n (FTs l) m _ _) ?_);rw [w64 (by omega) (by omega)];exact l_left k s n l [] (m-1) (fun u hu=>ih u hu (by have:=Tm.szs_mem hu;simp only [B];omega)) (by simp only [List.nil_append,B];omega) (by omega)
def large (t:Tm)(most:Int):Bool:=decide (z8v t most<0)
theorem c_large (t:Tm)(hs:t.sz≤B)(m:Int)(h0:0≤m)(h1:m≤4611686018427387904):AC Tryz.prog 34 [aT t,ci m] [] (cb (large t m)) []:=by
 have h:=c_left t hs m h0 h1;obtain ⟨k,s,n,l⟩:=t;refine AC.vc hP sh lv34 (Nat.le_refl _) (by simp) (by simp) (Eq.mpr (v34 k s n (FTs l) m _ _) ?_);exact ⟨_,h,z0a rfl⟩
def Tm.inner (t:Tm):Bool:=t.k==5||t.k==6
def Tm.kids (t:Tm):List Tm:=if t.inner=true then t.l else []
def Tm.by (t:Tm):Int:=if t.k==5 then 1 else 0
end Go.AM

set_option maxRecDepth 100000
open Go Go.Proofs
namespace Go.AM
def z9d (t:Tm):FV:=if t.inner=true then .sl false 4 (FTs t.l) else .N
theorem zoc (t:Tm):(z9d t).ses=FTs t.kids∧(z9d t).L 4=true:=by
 unfold z9d Tm.kids;split<;>exact ⟨rfl,rfl⟩
theorem zko (t:Tm):AC Tryz.prog 133 [aT t] [] (.tup [(false,[.a (.fz (z9d t))]),(false,[.a (.fz (.int .i64 t.by))])]) []:=by
 obtain ⟨k,s,n,l⟩:=t;refine AC.vc hP sh lv133 (Nat.le_refl _) (by simp) (by simp) (Eq.mpr (v133 k s n (FTs l) _ _) ?_);refine z01 (fun h=>⟨?_,rfl⟩) (fun h=>z01 (fun h2=>⟨?_,rfl⟩) (fun h2=>⟨?_,rfl⟩))
 · have e1:z9d (.mk k s n l)= .sl false 4 (FTs l):=by unfold z9d Tm.inner;simp only [Tm.k,h,Bool.true_or,if_true,Tm.l]
   have e2:Tm.by (.mk k s n l)=1:=by unfold Tm.by;simp only [Tm.k,h,if_true]
   rw [e1,e2];exact .refl _
 · have e1:z9d (.mk k s n l)= .sl false 4 (FTs l):=by unfold z9d Tm.inner;simp only [Tm.k,h2,Bool.or_true,if_true,Tm.l]
   have e2:Tm.by (.mk k s n l)=0:=by unfold Tm.by;simp only [Tm.k,h,Bool.false_eq_true,if_false]
   rw [e1,e2];exact .refl _
 · have e1:z9d (.mk k s n l)= .N:=by unfold z9d Tm.inner;simp only [Tm.k,h,h2,Bool.or_self,Bool.false_eq_true,if_false]
   have e2:Tm.by (.mk k s n l)=0:=by unfold Tm.by;simp only [Tm.k,h,Bool.false_eq_true,if_false]
   rw [e1,e2];exact .refl _
mutual
def bd (M:Int):Tm→Prop
 | .mk k _ n l=>(k=3→0-M≤n∧n≤M)∧bds M l
def bds (M:Int):List Tm→Prop
 | []=>True
 | t::l=>bd M t∧bds M l
end
theorem z8s {M:Int}:∀ {l:List Tm} {t:Tm},bds M l→t∈l→bd M t
 | x::l,t,h,ht=>by
  rcases List.mem_cons.1 ht with rfl | ht
  · exact h.1
  · exact z8s h.2 ht
theorem bd_l {M:Int}{t:Tm}(h:bd M t):bds M t.l:=by cases t;exact h.2
def maxI (a b:Int):Int:=if a≤b then b else a
theorem zlk (a b:Int):foldMax [a,b]=maxI a b:=by
 simp only [foldMax,List.foldl,maxI,max]
mutual
def z2r:Tm→Int→Int→Int
 | .mk kd _ n l,k,acc=>if (kd==5)=true then z5m l (k+1) acc else if (kd==6)=true then z5m l k acc else if (kd==3)=true then maxI acc (n-k+1) else acc
def z5m:List Tm→Int→Int→Int
 | [],_,acc=>acc
 | t::l,k,acc=>z5m l k (z2r t k acc)
end
abbrev obj1 (n:Int):AObj:= .arr 1 [[.a (.fz (.int .i64 n))]]
theorem c_loose1 (u:Tm)(k acc:Int)(hb:u.k=3→0-2305843009213693952≤u.n∧u.n≤2305843009213693952)(h0:0≤k)(h1:k≤2305843009213693952):
  AC Tryz.prog 77 [aT u,ci k, .c (.a (.ep 0 1 0 0))] [obj1 acc] (.tup []) [obj1 (if (u.k==3)=true then maxI acc (u.n-k+1) else acc)]:=by
 obtain ⟨kd,s,n,l⟩:=u;simp only [Tm.k,Tm.n] at hb;refine AC.vc hP sh lv77 (Nat.le_refl _) (by simp [isLive]) (by simp) (Eq.mpr (v77 kd s n (FTs l) k acc _ _) ?_);refine z01 (fun h=>⟨.refl _, ?_⟩) (fun h=>⟨.refl _, ?_⟩)
 · have hk:kd=3:=by simpa using h
   have:=hb hk;rw [w64 (x:=n-k) (by omega) (by omega),w64 (x:=n-k+1) (by omega) (by omega),zlk];simp only [Tm.k,Tm.n,h,if_true]
 · simp only [Tm.k,h,Bool.false_eq_true,if_false]
abbrev tellL:TV:= .c (.fn (.func 77) [] [(false,[.ep 0 1 0 0])])
theorem l_each (k by_:Int)(h0:0≤k)(hby:0≤by_)(hby1:by_≤1):∀ (b a:List Tm) (v:FV) (acc:Int),v.ses=FTs (a++b)→v.L 4=true→
  (∀ u∈b,∀ acc,AC Tryz.prog 76 [aT u,ci (k+by_),tellL] [obj1 acc] (.tup []) [obj1 (z2r u (k+by_) acc)])→(a++b).length≤B→k≤2305843009213693952→
  RPt Tryz.prog 76 1 (.tup []) [obj1 (z5m b (k+by_) acc)] 1 ⟨[(1,ci k),(2,tellL),(7,ci by_),(27, .c (.a (.fz v))),(28,ci (a++b).length),(29,ci a.length)],[(0,obj1 acc)],1⟩
 | [],a,v,acc,hv,hs,_,hl,hk=>by
  refine RPt.vc hP sh lv76 (Eq.mpr (zcv ..) ?_);exact z01 (fun h=>absurd (of_decide_eq_true h) (by simp)) (fun _=>⟨.refl _,rfl⟩)
 | t::b,a,v,acc,hv,hs,ih,hl,hk=>by
  refine RPt.vc hP sh lv76 (Eq.mpr (zcv ..) ?_);have hl':=hl;simp only [List.length_append,List.length_cons,B] at hl';have h1:=ih t List.mem_cons_self acc;have h2:=l_each k by_ h0 hby hby1 b (a++ [t]) v (z2r t (k+by_) acc) (by rw [ap];exact hv) hs (fun u hu=>ih u (List.mem_cons_of_mem _ hu)) (by rw [ap];exact hl) hk;have h3:=ltI' a t b;rw [ap,nx] at h2;rw [hv,midI,w64 (x:=(a.length:Int)+1) (by omega) (by omega),w64 (x:=k+by_) (by omega) (by omega)];refine z01 (fun _=> ?_) (fun h=>absurd (ltI a t b) (of_decide_eq_false h));obtain ⟨k',s',n',l'⟩:=t;exact ⟨⟨hs,by omega,h3,rfl⟩, .inl ⟨_,h1,h2⟩⟩
theorem c_each:∀ t:Tm,t.sz≤B→bd 2305843009213693952 t→∀ k acc:Int,0≤k→k+t.sz≤2305843009213693952→AC Tryz.prog 76 [aT t,ci k,tellL] [obj1 acc] (.tup []) [obj1 (z2r t k acc)]:=by
 refine Tm.ind fun t ih hs hb k acc h0 h1=> ?_;have hw:=zko t;have hk:=zoc t;have hlen:=Tm.szs_length t.l;obtain ⟨kd,s,n,l⟩:=t;simp only [Tm.sz,B,Tm.l] at hs hlen;simp only [Tm.sz] at h1
 have key:∀ by_:Int,0≤by_→by_≤1→Tm.kids (.mk kd s n l)=l→RPt Tryz.prog 76 1 (.tup []) [obj1 (z5m l (k+by_) acc)] 1 ⟨[(1,ci k),(2,tellL),(7,ci by_),(27, .c (.a (.fz (z9d (.mk kd s n l))))),(28,ci l.length),(29,ci 0)],[(0,obj1 acc)],1⟩:=by
  intro by_ hb0 hb1 hkids;have:=l_each k by_ h0 hb0 hb1 l [] (z9d (.mk kd s n l)) acc (by rw [hk.1,hkids];rfl) hk.2 (fun u hu acc=>ih u hu (by have:=Tm.szs_mem hu;simp only [B];omega) (z8s hb.2 hu) (k+by_) acc (by omega) (by have:=Tm.szs_mem hu;omega)) (by simp only [List.nil_append,B];omega) (by omega);simpa using this
 refine AC.vc hP sh lv76 (Nat.le_refl _) (by simp [isLive]) (by simp) (Eq.mpr (v76_F77 kd s n (FTs l) k acc _ _) ?_);refine z01 (fun h=>z01 (fun h2=>⟨_,c_loose1 (.mk kd s n l) k acc hb.1 h0 (by omega), .refl _, ?_⟩) (fun h2=>⟨_,_,hw,hk.2, ?_⟩)) (fun h=>⟨_,_,hw,hk.2, ?_⟩)
 · have e1:(kd==5)=false:=by simpa using h
   have e2:(kd==6)=false:=by simpa using h2
   simp only [z2r,Tm.k,Tm.n,e1,e2,Bool.false_eq_true,if_false];rfl
 · have e1:(kd==5)=false:=by simpa using h
   have e2:(kd==6)=true:=by simpa using h2
   have ek:Tm.kids (.mk kd s n l)=l:=by unfold Tm.kids Tm.inner;simp only [Tm.k,e2,Bool.or_true,if_true,Tm.l]
   have:=key 0 (by omega) (by omega) ek;rw [hk.1,ek,lenI,show Tm.by (.mk kd s n l)=0 by unfold Tm.by;simp only [Tm.k,e1,Bool.false_eq_true,if_false]];simp only [z2r,e1,e2,Bool.false_eq_true,if_false,if_true];simpa using this
 · have e1:(kd==5)=true:=by simpa using h
   have ek:Tm.kids (.mk kd s n l)=l:=by unfold Tm.kids Tm.inner;simp only [Tm.k,e1,Bool.true_or,if_true,Tm.l]
   have:=key 1 (by omega) (by omega) ek;rw [hk.1,ek,lenI,show Tm.by (.mk kd s n l)=1 by unfold Tm.by;simp only [Tm.k,e1,if_true]];simp only [z2r,e1,if_true];exact this
theorem c_loose (t:Tm)(hs:t.sz≤B)(hb:bd 2305843009213693952 t):AC Tryz.prog 32 [aT t] [] (ci (z2r t 0 0)) []:=by
 have h:=c_each t hs hb 0 0 (Int.le_refl _) (by simp only [B] at hs;omega);refine AC.vc hP sh lv32 (Nat.le_refl _) (by simp) (by simp) (Eq.mpr (v32 ..) ?_);exact .inl ⟨_,h,z6x rfl⟩
end Go.AM

set_option maxRecDepth 100000
open Go Go.Proofs
namespace Go.AM
theorem c_grow (n:Int)(h0:0≤n)(h1:n≤2199023255552):(n=0→AC Tryz.prog 172 [.c (.a (.fz .N)),ci n] [] (.c (.a (.fz .N))) [])∧
  (n≠0→AC Tryz.prog 172 [.c (.a (.fz .N)),ci n] [] (.c (.a (.osl 0 4 0 0))) [.arz 4 []]):=by
 constructor
 · intro hn;refine AC.vc hP sh lv172 (Nat.le_refl _) (by simp) (by simp) (Eq.mpr (v172 ..) ?_);refine z01 (fun h=>absurd (of_decide_eq_true h) (by omega)) (fun _=>⟨rfl,z01 (fun h=> ?_) (fun _=>zh (.refl _))⟩);rw [w64 (by omega) (by omega)] at h;exact absurd (of_decide_eq_true h) (by omega)
 · intro hn;refine AC.vc hP sh lv172 (by simp) (by simp) (by simp [isLive]) (Eq.mpr (v172 ..) ?_);rw [w64 (by omega) (by omega)];refine z01 (fun h=>absurd (of_decide_eq_true h) (by omega)) (fun _=>⟨rfl,z01 (fun h=>⟨rfl,⟨by omega,by omega,by omega⟩,⟨by omega,by unfold z0c;omega⟩,rfl,⟨by omega,by omega,by omega⟩, .refl _,rfl⟩) (fun h=>absurd (of_decide_eq_false h) (by omega))⟩)
def FLs (ls:List (List Tm)):List (List FV):=ls.map fun l=> [.sl false 4 (FTs l)]
def z40 (ls:List (List Tm)):Nat:=(ls.map List.length).foldr (· + ·) 0
theorem z9i (ls:List (List Tm)):(FLs ls).length=ls.length:=by simp [FLs]
theorem midL (a:List (List Tm))(l:List Tm)(b:List (List Tm)):List.getD (FLs (a++l::b)) (Int.toNat (a.length:Int)) []=[.sl false 4 (FTs l)]:=by
 rw [show Int.toNat (a.length:Int)=a.length by omega];simp [List.getD,FLs]
theorem ltL (a:List (List Tm))(t:List Tm)(b:List (List Tm)):(a.length:Int)<(((FLs (a++t::b)).length:Nat):Int):=by rw [z9i];exact ltI a t b
theorem zha (a:List (List Tm))(l:List Tm)(b:List (List Tm)):z40 (a++l::b)=z40 a+l.length+z40 b:=by
 induction a with
 | nil=>simp [z40]
 | cons x a ih=>simp only [z40,List.cons_append,List.map_cons,List.foldr_cons] at ih ⊢;omega
theorem zmz (a:List (List Tm))(l:List Tm):z40 (a++ [l])=z40 a+l.length:=by rw [zha];simp [z40]
abbrev aLs (ls:List (List Tm)):TV:= .c (.a (.fz (.sl false 1 (FLs ls))))
theorem z56 {n:Nat}(h:n≤2199023255552):z0c n 56:=by unfold z0c;omega
theorem zp0:∀ (b a:List (List Tm)) (acc:List Tm),acc.length+z40 b≤2199023255552→(a++b).length≤B→
  RPt Tryz.prog 112 0 (aL (acc++b.flatten)) [] 5 ⟨[(6,(.c (.a (.osl 0 4 0 acc.length)))),(25,aLs (a++b)),(26,ci (a++b).length),(27,ci a.length)],[(0,(.arz 4 (FTs acc)))],1⟩
 | [],a,acc,ht,hl=>by
  refine RPt.vc hP sh zbn (Eq.mpr (zqz ..) ?_);refine z01 (fun h=>absurd (of_decide_eq_true h) (by simp)) (fun _=>⟨⟨rfl,by rw [z00];omega⟩,zh ?_⟩);rw [List.drop_zero,List.take_of_length_le (by rw [z00];omega),List.flatten_nil,List.append_nil];exact le_c leSl
 | l::b,a,acc,ht,hl=>by
  refine RPt.vc hP sh zbn (Eq.mpr (zqz ..) ?_);have hl':=hl;have h3:=ltL a l b;simp only [List.length_append,List.length_cons,B] at hl';have ht':acc.length+(l.length+z40 b)≤2199023255552:=by simpa [z40] using ht
  have h2:=zp0 b (a++ [l]) (acc++l) (by rw [List.length_append];omega) (by rw [ap];exact hl);rw [ap,nx] at h2;rw [midL,w64 (by omega) (by omega)];refine z01 (fun _=>⟨⟨rfl,by omega,h3,rfl⟩,rfl,⟨by rw [z00];omega, ?_⟩, ?_⟩) (fun h=>absurd (ltI a l b) (of_decide_eq_false h))
  · show z0c (acc.length+(FTs l).length) 56;rw [z00];exact z56 (by omega)
  · show RPt _ _ _ _ _ _ ⟨[(6,(.c (.a (.osl 0 4 0 (acc.length+(FTs l).length))))),_,_,_],[(0, .arz 4 (List.take acc.length (FTs acc)++FTs l))],1⟩;rw [List.take_of_length_le (by rw [z00];omega),←z24,z00,←List.length_append];rw [show acc++(l::b).flatten=acc++l++b.flatten by simp];exact h2
theorem l_cat2:∀ (b a:List (List Tm)),z40 b≤2199023255552→(a++b).length≤B→
  RPt Tryz.prog 112 0 (aL b.flatten) [] 5 ⟨[(6,(.c (.a (.fz .N)))),(25,aLs (a++b)),(26,ci (a++b).length),(27,ci a.length)],[],0⟩
 | [],a,ht,hl=>by
  refine RPt.vc hP sh zbn (Eq.mpr (zs2 ..) ?_);refine z01 (fun h=>absurd (of_decide_eq_true h) (by simp)) (fun _=>zh (le_c z2s))
 | l::b,a,ht,hl=>by
  refine RPt.vc hP sh zbn (Eq.mpr (zs2 ..) ?_);have hl':=hl;have h3:=ltL a l b;simp only [List.length_append,List.length_cons,B] at hl';have ht':l.length+z40 b≤2199023255552:=by simpa [z40] using ht
  rw [midL,w64 (by omega) (by omega)];refine z01 (fun _=>⟨⟨rfl,by omega,h3,rfl⟩,rfl, ?_⟩) (fun h=>absurd (ltI a l b) (of_decide_eq_false h));show br (List.isEmpty (FTs l)) _ _;refine z01 (fun he=> ?_) (fun he=>⟨?_, ?_⟩)
  · have h2:=l_cat2 b (a++ [l]) (by omega) (by rw [ap];exact hl);rw [ap,nx] at h2
    have hnil:l=[]:=by cases l with
     | nil=>rfl
     | cons x l=>simp [FTs] at he
    rw [show (l::b).flatten=b.flatten by rw [hnil];simp];exact h2
  · show z0c (FTs l).length 56;rw [z00];exact z56 (by omega)
  · have h2:=zp0 b (a++ [l]) l (by omega) (by rw [ap];exact hl);rw [ap,nx] at h2;show RPt _ _ _ _ _ _ ⟨[(6,(.c (.a (.osl 0 4 0 (FTs l).length)))),_,_,_],[(0, .arz 4 (FTs l))],1⟩;rw [z00,List.flatten_cons];exact h2
theorem l_cat1:∀ (b a:List (List Tm)),z40 (a++b)≤2199023255552→(a++b).length≤B→
  RPt Tryz.prog 112 0 (aL (a++b).flatten) [] 1 ⟨[(0,aLs (a++b)),(3,ci (z40 a)),(9,aLs (a++b)),(10,ci (a++b).length),(11,ci a.length)],[],0⟩
 | [],a,ht,hl=>by
  refine RPt.vc hP sh zbn (Eq.mpr (znm ..) ?_);have hg:=c_grow (z40 a:Int) (by omega) (by simp only [List.append_nil] at ht;omega);refine z01 (fun h=>absurd (of_decide_eq_true h) (by simp)) (fun _=> ?_);have e:(((FLs (a++ [])).length:Nat):Int)=(((a++ []).length:Nat):Int):=by rw [z9i]
  rw [e];by_cases hz:z40 a=0
  · have h2:=l_cat2 (a++ []) [] (by simpa using ht) (by simpa using hl);exact .inl ⟨(),hg.1 (by omega),rfl,by simpa using h2⟩
  · have h2:=zp0 (a++ []) [] [] (by simpa using ht) (by simpa using hl);exact .inr ⟨(),hg.2 (by omega),rfl,by simpa [FTs] using h2⟩
 | l::b,a,ht,hl=>by
  refine RPt.vc hP sh zbn (Eq.mpr (znm ..) ?_);have hl':=hl;have ht':=ht;have h3:=ltL a l b;rw [zha] at ht';simp only [List.length_append,List.length_cons,B] at hl';have h2:=l_cat1 b (a++ [l]) (by rw [ap];exact ht) (by rw [ap];exact hl);rw [ap,nx,zmz] at h2;rw [midL,w64 (x:=(a.length:Int)+1) (by omega) (by omega)];refine z01 (fun _=>⟨⟨rfl,by omega,h3,rfl⟩,rfl, ?_⟩) (fun h=>absurd (ltI a l b) (of_decide_eq_false h));show br (decide (IntKind.wrap .i64 ((z40 a:Int)+(((FTs l).length:Nat):Int))<0)) _ (RPt _ _ _ _ _ _ ⟨[_,(3,ci (IntKind.wrap .i64 ((z40 a:Int)+(((FTs l).length:Nat):Int)))),_,_,_],_,_⟩);rw [z00,w64 (by omega) (by omega)];refine z01 (fun h=>absurd (of_decide_eq_true h) (by omega)) (fun _=> ?_);simpa using h2
theorem c_concat (ls:List (List Tm))(ht:z40 ls≤2199023255552)(hl:ls.length≤B):AC Tryz.prog 112 [aLs ls] [] (aL ls.flatten) []:=by
 refine AC.vc hP sh zbn (Nat.le_refl _) (by simp) (by simp) (Eq.mpr (v112 ..) ?_);have:=l_cat1 ls [] (by simpa using ht) (by simpa using hl);have e:(((FLs ls).length:Nat):Int)=((ls.length:Nat):Int):=by rw [z9i]
 rw [e];exact ⟨rfl,by simpa [z40] using this⟩
theorem zb1 {x y:FV}{l m:List Tm}(hx:FV.Le x (.sl false 4 (FTs l)))(hy:FV.Le y (.sl false 4 (FTs m)))(ht:l.length+m.length≤2199023255552):AC Tryz.prog 112 [.c (.a (.fz (.sl false 1 [[x],[y]])))] [] (aL (l++m)) []:=by
 have h:=c_concat [l,m] (by simpa [z40] using ht) (by simp [B]);rw [show [l,m].flatten=l++m by simp] at h;refine h.args ⟨le_c (.trans _ _ _ (.rows false 1 _ (FLs [l,m]) rfl (fun i e e' he he'=> ?_) (fun i j e e' f f' he he' hf hf'=> ?_)) (.nn _ _ _)),trivial⟩
 · match i,he,he' with
   | 0,he,he'=>simp [FLs] at he he';subst he;subst he';rfl
   | 1,he,he'=>simp [FLs] at he he';subst he;subst he';rfl
   | i+2,he,he'=>simp at he
 · match i,he,he' with
   | 0,he,he'=>
    simp [FLs] at he he';subst he;subst he'
    match j,hf,hf' with
    | 0,hf,hf'=>simp at hf hf';subst hf;subst hf';exact hx
    | j+1,hf,hf'=>simp at hf
   | 1,he,he'=>
    simp [FLs] at he he';subst he;subst he'
    match j,hf,hf' with
    | 0,hf,hf'=>simp at hf hf';subst hf;subst hf';exact hy
    | j+1,hf,hf'=>simp at hf
   | i+2,he,he'=>simp at he
def z08 (f:Tm)(args:List Tm):Tm:=
 match args with
 | []=>f
 | _=>if (f.k==6)=true∧f.l ≠ [] then .mk 6 [] 0 (f.l++args) else .mk 6 [] 0 (f::args)
theorem z3x (f:Tm)(args:List Tm)(h:f.l.length+args.length<2199023255552):AC Tryz.prog 60 [aT f,aL args] [] (aT (z08 f args)) []:=by
 obtain ⟨k,s,n,l⟩:=f;simp only [Tm.l] at h;refine AC.vc hP sh lv60 (Nat.le_refl _) (by simp) (by simp) (Eq.mpr (v60 k s n (FTs l) (FTs args) _ _) ?_);refine ⟨rfl,z01 (fun h1=> ?_) (fun h1=> ?_)⟩
 · have:args=[]:=by cases args with
    | nil=>rfl
    | cons x l=>simp [FTs] at h1;omega
   subst this;exact zh (.refl _)
 · match args,h1,h with
   | [],h1,_=>simp [FTs] at h1
   | a::r,h1,h=>
    have one:FV.Le (.sl false 4 [[.int .i64 k, .str s, .int .i64 n, .sl false 4 (FTs l)]]) (.sl false 4 (FTs [.mk k s n l])):= .nn _ _ _;have same:∀ l:List Tm,FV.Le (.sl false 4 (FTs l)) (.sl false 4 (FTs l)):=fun _=> .refl _
    refine z01 (fun h2=>⟨rfl,z01 (fun h3=>⟨⟨rfl,by omega⟩,_,zb1 (same l) (same (a::r)) (by omega),zh ?_⟩) (fun h3=>⟨⟨rfl,by omega⟩,⟨rfl,by omega⟩,_,zb1 one (same (a::r)) (by simp only [List.length_cons,List.length_nil] at h ⊢;omega),zh ?_⟩)⟩)
     (fun h2=>⟨⟨rfl,by omega⟩,⟨rfl,by omega⟩,_,zb1 one (same (a::r)) (by simp only [List.length_cons,List.length_nil] at h ⊢;omega),zh ?_⟩)
    · have hl:l ≠ []:=by intro e;subst e;simp [FTs] at h3
      rw [show z08 (.mk k s n l) (a::r)= .mk 6 [] 0 (l++a::r) from if_pos ⟨h2,hl⟩];exact .refl _
    · have hl:l=[]:=by cases l with
       | nil=>rfl
       | cons x l=>simp [FTs] at h3
      rw [show z08 (.mk k s n l) (a::r)= .mk 6 [] 0 (.mk k s n l::a::r) from if_neg (fun e=>e.2 hl)];exact .refl _
    · rw [show z08 (.mk k s n l) (a::r)= .mk 6 [] 0 (.mk k s n l::a::r) from if_neg (fun e=>by have:=e.1;simp only [Tm.k,h2] at this;cases this)];exact .refl _
end Go.AM

set_option maxRecDepth 100000
open Go Go.Proofs
namespace Go.AM
def z4z (t:Tm)(out:List Tm):Tm:=
 if (t.k==6)=true∧1<out.length∧((out.headD default).k==6)=true∧((t.l.headD default).k !=6)=true then z08 (out.headD default) out.tail else .mk t.k t.s t.n out
mutual
def z1x (lf:Tm→Int→Tm):Tm→Int→Tm
 | .mk k s n l,d=>if (k==5||k==6)=true then z4z (.mk k s n l) (z1m lf l (d+if (k==5)=true then 1 else 0)) else lf (.mk k s n l) d
def z1m (lf:Tm→Int→Tm):List Tm→Int→List Tm
 | [],_=> []
 | t::l,d=>z1x lf t d::z1m lf l d
end
abbrev cloSh:TV:= .agg [.fn (.func 302) [] [(false,[.ep 0 1 0 0]),(false,[.ep 1 1 0 0])]]
abbrev stSh (fr by1:Int)(k by_:Int)(kd:Int)(s:List UInt8)(n:Int)(l:List Tm)(w:AV)(i:Nat)(h:AHeap)(nx:Nat):St:=
 ⟨[(2,ci k),(3, .c (.a (.ep 2 1 0 0))),(4, .c (.a (.ep 3 4 0 0))),(6, .c (.a (.ep 4 4 0 0))),(7,aL l),(8,ci by_),(9, .c (.a w)),(30,aL l),(31,ci l.length),(32,ci i)],
  [(0,(obj1 fr)),(1,(obj1 by1)),(2, .arr 1 [[.fn (.func 302) [] [(false,[.ep 0 1 0 0]),(false,[.ep 1 1 0 0])]]]),(3, .arr 4 [fzs (FT (.mk kd s n l))]),(4, .arr 4 [[.a (.fz (.int .i64 0)), .a (.fz (.str [])), .a (.fz (.int .i64 0)), .a (.fz .N)]])]++h,nx⟩
theorem l_w2Sh (fr by1:Int)(lf:Tm→Int→Tm)(k by_:Int)(h0:0≤k)(hk:k≤2305843009213693952)(hb0:0≤by_)(hb1:by_≤1)(kd:Int)(s:List UInt8)(n:Int)(hin:(kd==5||kd==6)=true):
  ∀ (b a acc:List Tm),acc ≠ []→acc.length=a.length→(a++b).length≤B→(∀ u∈acc++z1m lf b (k+by_),u.l.length≤2*B)→
  (∀ u∈b,AC Tryz.prog 304 [cloSh,aT u,ci (k+by_)] [(obj1 fr),(obj1 by1)] (aT (z1x lf u (k+by_))) [(obj1 fr),(obj1 by1)])→
  RPt Tryz.prog 304 2 (aT (z4z (.mk kd s n (a++b)) (acc++z1m lf b (k+by_)))) [(obj1 fr),(obj1 by1)] 1 (stSh fr by1 k by_ kd s n (a++b) (.osl 5 4 0 acc.length) a.length [(5, .arz 4 (FTs acc))] 6)
 | [],a,acc,hne,hlen,hl,hw,_=>by
  refine RPt.vc hP sh zhc (Eq.mpr (z9m ..) ?_)
  match acc,a,hne,hlen with
  | o::r,u::a',_,hlen=>
  have e1:List.take (o::r).length (List.drop 0 (FTs (o::r)))=FTs (o::r):=by rw [List.drop_zero,List.take_of_length_le (by rw [z00];omega)]
  have e2:(0:Nat)+(o::r).length≤(FTs (o::r)).length:=by rw [z00];omega
  have hrest:∀ (k':Int) (s':List UInt8) (n':Int),TV.Le (.agg [.a (.fz (.int .i64 k')), .a (.fz (.str s')), .a (.fz (.int .i64 n')), .a (.fz (.sl false 4 (List.take (o::r).length (List.drop 0 (FTs (o::r))))))]) (aT (.mk k' s' n' (o::r))):=fun k' s' n'=>by rw [e1];exact leT leSl
  refine z01 (fun h=>absurd (of_decide_eq_true h) (by simp)) (fun _=>z01 (fun h6=>z01 (fun h1=>⟨⟨by omega,by simp⟩,⟨by rw [z00];simp,by cases o;rfl,rfl⟩,z01 (fun ho=>⟨⟨rfl,by omega,by rw [List.append_nil];show (0:Int)<(((FTs (u::a')).length:Nat):Int);rw [z00];simp,by cases u;rfl⟩,z01 (fun hu=> ?_) (fun hu=>⟨⟨rfl,e2⟩, ?_,rfl⟩)⟩) (fun ho=>⟨⟨rfl,e2⟩, ?_,rfl⟩)⟩) (fun h1=>⟨⟨rfl,e2⟩, ?_,rfl⟩)) (fun h6=>⟨⟨rfl,e2⟩, ?_,rfl⟩))
  ·
   have hap:=z3x o r (by
    have:=hw o (by simp);simp only [List.length_cons,List.length_append,List.length_nil,B] at hl hlen this ⊢;omega)
   have e3:z4z (.mk kd s n (u::a'++ [])) (o::r++z1m lf [] (k+by_))=z08 o r:=by
    have c1:1<(o::r++z1m lf [] (k+by_)).length:=by have:=of_decide_eq_true h1;simp only [z1m,List.append_nil];omega
    have c2:(o.k==6)=true:=by cases o;exact ho
    have c3:(u.k !=6)=true:=by cases u;exact hu
    unfold z4z;rw [if_pos ⟨h6,c1,c2,c3⟩];simp [z1m]
   have e4:List.take (Int.toNat ((o::r).length:Int)-1) (List.drop 1 (FTs (o::r)))=FTs r:=by
    rw [show Int.toNat ((o::r).length:Int)-1=r.length by simp only [List.length_cons];omega];show List.take r.length (FTs r)=FTs r;rw [List.take_of_length_le (by rw [z00];omega)]
   have e5:(1:Nat)+(Int.toNat ((o::r).length:Int)-1)≤(FTs (o::r)).length:=by rw [z00];simp only [List.length_cons];omega
   rw [e3];refine ⟨⟨by omega,by simp⟩,⟨by rw [z00];simp,by cases o;rfl,rfl⟩,⟨by omega,by simp;omega,by omega⟩,⟨rfl,e5⟩, ?_⟩;rw [e4];obtain ⟨k1,s1,n1,l1⟩:=o;exact ⟨_,hap.args ⟨.refl _,le_c leSl,trivial⟩, .refl _,rfl⟩
  · have e3:z4z (.mk kd s n (u::a'++ [])) (o::r++z1m lf [] (k+by_))= .mk kd s n (o::r):=by
     simp only [z1m,List.append_nil]
     exact if_neg fun e=>by
      have hu':(u.k !=6)=false:=by cases u;exact hu
      have:(u.k !=6)=true:=e.2.2.2;rw [hu'] at this;cases this
    rw [e3];exact hrest _ _ _
  · have e3:z4z (.mk kd s n (u::a'++ [])) (o::r++z1m lf [] (k+by_))= .mk kd s n (o::r):=by
     simp only [z1m,List.append_nil]
     exact if_neg fun e=>by
      have ho':(o.k==6)=false:=by cases o;exact ho
      have:(o.k==6)=true:=e.2.2.1;rw [ho'] at this;cases this
    rw [e3];exact hrest _ _ _
  · have e3:z4z (.mk kd s n (u::a'++ [])) (o::r++z1m lf [] (k+by_))= .mk kd s n (o::r):=by
     simp only [z1m,List.append_nil];exact if_neg fun e=>by have:=e.2.1;have:=of_decide_eq_false h1;omega
    rw [e3];exact hrest _ _ _
  · have e3:z4z (.mk kd s n (u::a'++ [])) (o::r++z1m lf [] (k+by_))= .mk kd s n (o::r):=by
     simp only [z1m,List.append_nil]
     exact if_neg fun e=>by
      have h6':(kd==6)=false:=h6;have:(kd==6)=true:=e.1;rw [h6'] at this;cases this
    rw [e3];exact hrest _ _ _
 | t::b,a,acc,hne,hlen,hl,hw,ih=>by
  refine RPt.vc hP sh zhc (Eq.mpr (z9m ..) ?_);have hl':=hl;simp only [List.length_append,List.length_cons,B] at hl';have h1:=ih t List.mem_cons_self
  have h2:=l_w2Sh fr by1 lf k by_ h0 hk hb0 hb1 kd s n hin b (a++ [t]) (acc++ [z1x lf t (k+by_)]) (by simp) (by simp [hlen]) (by rw [ap];exact hl)
   (by rw [List.append_assoc];simpa [z1m] using hw) (fun u hu=>ih u (List.mem_cons_of_mem _ hu))
  have h3:=ltI' a t b;unfold stSh at h2;rw [ap,show (((a++ [t]).length:Nat):Int)=(a.length:Int)+1 from nx a t] at h2;show br (decide ((a.length:Int)<(((a++t::b).length:Nat):Int))) ((FV.L 4 (.sl false 4 (FTs (a++t::b)))=true∧_∧_∧_)∧_) _;refine z01 (fun _=> ?_) (fun h=>absurd (ltI a t b) (of_decide_eq_false h));have hm:=midI a t b;rw [show FV.ses (.sl false 4 (FTs (a++t::b)))=FTs (a++t::b) from rfl,hm,w64 (x:=(a.length:Int)+1) (by omega) (by omega),w64 (x:=k+by_) (by omega) (by omega)];obtain ⟨k',s',n',l'⟩:=t;refine ⟨⟨rfl,by omega,h3,rfl⟩,_,h1,Nat.le_refl _,⟨by rw [z00];omega,z56 (by omega)⟩, ?_⟩;have e5:List.take acc.length (FTs acc)++FTs [z1x lf (.mk k' s' n' l') (k+by_)]=FTs (acc++ [z1x lf (.mk k' s' n' l') (k+by_)]):=by rw [List.take_of_length_le (by rw [z00];omega),←z24]
  have e6:FTs [z1x lf (.mk k' s' n' l') (k+by_)]=[[.int .i64 (z1x lf (.mk k' s' n' l') (k+by_)).k, .str (z1x lf (.mk k' s' n' l') (k+by_)).s, .int .i64 (z1x lf (.mk k' s' n' l') (k+by_)).n, .sl false 4 (FTs (z1x lf (.mk k' s' n' l') (k+by_)).l)]]:=by
   rw [FTs,FTs,zqg]
  rw [e6] at e5;rw [e5];rw [show acc++z1m lf (.mk k' s' n' l'::b) (k+by_)=acc++z1x lf (.mk k' s' n' l') (k+by_)::z1m lf b (k+by_) by simp [z1m]];rw [show (acc++ [z1x lf (.mk k' s' n' l') (k+by_)]).length=acc.length+1 by simp,List.append_assoc] at h2;exact h2
theorem l_w1Sh (fr by1:Int)(lf:Tm→Int→Tm)(k by_:Int)(h0:0≤k)(hk:k≤2305843009213693952)(hb0:0≤by_)(hb1:by_≤1)(kd:Int)(s:List UInt8)(n:Int)(hin:(kd==5||kd==6)=true):
  ∀ (b:List Tm),b.length≤B→(∀ u∈z1m lf b (k+by_),u.l.length≤2*B)→
  (∀ u∈b,AC Tryz.prog 304 [cloSh,aT u,ci (k+by_)] [(obj1 fr),(obj1 by1)] (aT (z1x lf u (k+by_))) [(obj1 fr),(obj1 by1)])→
  RPt Tryz.prog 304 2 (aT (z4z (.mk kd s n b) (z1m lf b (k+by_)))) [(obj1 fr),(obj1 by1)] 1 (stSh fr by1 k by_ kd s n b (.fz .N) 0 [] 5)
 | [],hl,hw,_=>by
  refine RPt.vc hP sh zhc (Eq.mpr (z9l ..) ?_);have e:z4z (.mk kd s n []) (z1m lf [] (k+by_))= .mk kd s n []:=if_neg fun e=>by have:=e.2.1;simp [z1m] at this
  rw [e];exact z01 (fun h=>absurd (of_decide_eq_true h) (by simp)) (fun _=>z01 (fun _=>⟨rfl,leT z2s,rfl⟩) (fun _=>⟨leT z2s,rfl⟩))
 | t::b,hl,hw,ih=>by
  refine RPt.vc hP sh zhc (Eq.mpr (z9l ..) ?_);have hl':=hl;simp only [List.length_cons,B] at hl';have h1:=ih t List.mem_cons_self;have h2:=l_w2Sh fr by1 lf k by_ h0 hk hb0 hb1 kd s n hin b [t] [z1x lf t (k+by_)] (by simp) rfl (by simpa using hl) (by simpa [z1m] using hw) (fun u hu=>ih u (List.mem_cons_of_mem _ hu));show br (decide ((0:Int)<(((t::b).length:Nat):Int))) ((FV.L 4 (.sl false 4 (FTs (t::b)))=true∧_∧_∧_)∧_) _;refine z01 (fun _=> ?_) (fun h=>absurd (of_decide_eq_false h) (by simp));rw [show FV.ses (.sl false 4 (FTs (t::b)))=FTs (t::b) from rfl,show List.getD (FTs (t::b)) (Int.toNat ((0:Nat):Int)) []=FT t from rfl,w64 (x:=k+by_) (by omega) (by omega),w64 (x:=((0:Nat):Int)+1) (by omega) (by omega)];obtain ⟨k',s',n',l'⟩:=t;have h3:(0:Int)<(((FTs (.mk k' s' n' l'::b)).length:Nat):Int):=by rw [z00];simp
  refine ⟨⟨rfl,by omega,h3,rfl⟩,_,h1,Nat.le_refl _,z56 (by omega), ?_⟩
  have e6:FTs [z1x lf (.mk k' s' n' l') (k+by_)]=[[.int .i64 (z1x lf (.mk k' s' n' l') (k+by_)).k, .str (z1x lf (.mk k' s' n' l') (k+by_)).s, .int .i64 (z1x lf (.mk k' s' n' l') (k+by_)).n, .sl false 4 (FTs (z1x lf (.mk k' s' n' l') (k+by_)).l)]]:=by
   rw [FTs,FTs,zqg]
  unfold stSh at h2;rw [e6] at h2;exact h2
theorem c_wSh (fr by1:Int) (lf:Tm→Int→Tm) (Q:Tm→Int→Prop)
  (hq:∀ (kd:Int) (s:List UInt8) (n:Int) (l:List Tm) (d:Int),Q (.mk kd s n l) d→(kd==5||kd==6)=true→∀ u∈l,Q u (d+if (kd==5)=true then 1 else 0))
  (hleaf:∀ (u:Tm) (d:Int),(u.k==5||u.k==6)=false→Q u d→0≤d→d≤2305843009213693952→AC Tryz.prog 302 [aT u,ci d, .c (.a (.ep 0 1 0 0)), .c (.a (.ep 1 1 0 0))] [(obj1 fr),(obj1 by1)] (aT (lf u d)) [(obj1 fr),(obj1 by1)])
  (hwid:∀ (u:Tm) (d:Int),Q u d→(z1x lf u d).l.length≤2*B):
  ∀ t:Tm,t.sz≤B→∀ k:Int,Q t k→0≤k→k+t.sz≤2305843009213693952→AC Tryz.prog 304 [cloSh,aT t,ci k] [(obj1 fr),(obj1 by1)] (aT (z1x lf t k)) [(obj1 fr),(obj1 by1)]:=by
 refine Tm.ind fun t ih hs k hQ h0 h1=> ?_;have hlen:=Tm.szs_length t.l;obtain ⟨kd,s,n,l⟩:=t;simp only [Tm.sz,B,Tm.l] at hs hlen;simp only [Tm.sz] at h1
 have key:∀ by_:Int,0≤by_→by_≤1→(by_=if (kd==5)=true then 1 else 0)→(hin:(kd==5||kd==6)=true)→RPt Tryz.prog 304 2 (aT (z1x lf (.mk kd s n l) k)) [(obj1 fr),(obj1 by1)] 1 (stSh fr by1 k by_ kd s n l (.fz .N) 0 [] 5):=by
  intro by_ hb0 hb1 hby hin;have hQ':=hq kd s n l k hQ hin;rw [←hby] at hQ'
  have:=l_w1Sh fr by1 lf k by_ h0 (by omega) hb0 hb1 kd s n hin l (by simp only [B];omega) (fun u hu=>by
   have:∀ {m:List Tm},(∀ v∈m,Q v (k+by_))→∀ u∈z1m lf m (k+by_),u.l.length≤2*B:=by
    intro m
    induction m with
    | nil=>intro _ u hu;simp [z1m] at hu
    | cons v m ihm=>
     intro hm u hu;simp only [z1m,List.mem_cons] at hu;rcases hu with rfl | hu
     · exact hwid v _ (hm v List.mem_cons_self)
     · exact ihm (fun x hx=>hm x (List.mem_cons_of_mem _ hx)) u hu
   exact this hQ' u hu) (fun u hu=>ih u hu (by have:=Tm.szs_mem hu;simp only [B];omega) (k+by_) (hQ' u hu) (by omega) (by have:=Tm.szs_mem hu;omega))
  rw [z1x,if_pos hin,←hby];exact this
 refine AC.vc hP sh zhc (Nat.le_refl _) (by simp [isLive]) (by simp) (Eq.mpr (zp kd s n (FTs l) k fr by1 _ _) ?_)
 have wi:(kd==5||kd==6)=true→AC Tryz.prog 133 [aT (.mk kd s n l)] [] (.tup [(false,[.a (.fz (.sl false 4 (FTs l)))]),(false,[.a (.fz (.int .i64 (if (kd==5)=true then 1 else 0)))])]) []:=fun hin=>by
  have hw:=zko (.mk kd s n l);rw [show z9d (.mk kd s n l)= .sl false 4 (FTs l) from if_pos hin] at hw;exact hw
 refine z01 (fun h=>z01 (fun h2=> ?_) (fun h2=> ?_)) (fun h=> ?_)
 · have e1:(kd==5)=false:=by simpa using h
   have e2:(kd==6)=false:=by simpa using h2
   have e:(kd==5||kd==6)=false:=by rw [e1,e2];rfl
   have hl:=hleaf (.mk kd s n l) k e hQ h0 (by omega);rw [show z1x lf (.mk kd s n l) k=lf (.mk kd s n l) k by rw [z1x,if_neg (by rw [e];simp)]];exact ⟨_,hl, .refl _,rfl⟩
 · have e1:(kd==5)=false:=by simpa using h
   have e2:(kd==6)=true:=by simpa using h2
   have hin:(kd==5||kd==6)=true:=by rw [e1,e2];rfl
   have hk:=key 0 (by omega) (by omega) (by rw [e1];rfl) hin;have hw:=wi hin;rw [e1] at hw;refine ⟨_,_,hw,rfl, ?_⟩;show RPt _ _ _ _ _ _ ⟨[_,_,_,_,_,_,_,_,(31,ci (((FTs l).length:Nat):Int)),_],_,_⟩;rw [z00];exact hk
 · have e1:(kd==5)=true:=by simpa using h
   have hin:(kd==5||kd==6)=true:=by rw [e1];rfl
   have hk:=key 1 (by omega) (by omega) (by rw [e1];rfl) hin;have hw:=wi hin;rw [e1] at hw;refine ⟨_,_,hw,rfl, ?_⟩;show RPt _ _ _ _ _ _ ⟨[_,_,_,_,_,_,_,_,(31,ci (((FTs l).length:Nat):Int)),_],_,_⟩;rw [z00];exact hk
end Go.AM

set_option maxRecDepth 100000
open Go Go.Proofs
namespace Go.AM
theorem z3v (f:Tm)(l:List Tm):(z08 f l).sz≤1+f.sz+Tm.szs l:=by
 unfold z08;split
 · simp only [Tm.szs];omega
 · split
   · have:=f.sz_eq;simp only [Tm.sz,Tm.szs_append,List.length_nil];omega
   · simp only [Tm.sz,Tm.szs,List.length_nil];omega
theorem withF_sz (t:Tm)(o:List Tm):(z4z t o).sz≤1+Tm.szs o:=by
 unfold z4z;split
 · rename_i h
   match o,h with
   | [],h=>simp at h
   | x::r,h=>
    simp only [List.headD_cons,List.tail_cons,Tm.szs] at h ⊢;have hx:(x.k==6)=true:=h.2.2.1;have hr:r ≠ []:=by intro e;rw [e] at h;simp at h
    unfold z08;split
    · exact absurd rfl hr
    · have:=x.sz_eq;by_cases hl:x.l=[]
      · rw [if_neg (fun e=>e.2 hl)];simp only [Tm.sz,Tm.szs];omega
      · rw [if_pos ⟨hx,hl⟩];simp only [Tm.sz,Tm.szs_append];omega
 · simp only [Tm.sz];omega
mutual
def nd:Tm→Nat
 | .mk _ _ _ l=>1+nds l
def nds:List Tm→Nat
 | []=>0
 | t::l=>nd t+nds l
end
mutual
theorem zky (lf:Tm→Int→Tm)(S:Nat)(h:∀ u d,(lf u d).sz≤u.sz+S):∀ (t:Tm) (d:Int),(z1x lf t d).sz≤t.sz+nd t*S
 | .mk k s n l,d=>by
  rw [z1x];split
  · refine Nat.le_trans (withF_sz ..) ?_;have:=zk1 lf S h l (d+if (k==5)=true then 1 else 0)
    simp only [Tm.sz,nd,Nat.add_mul,Nat.one_mul];omega
  · refine Nat.le_trans (h _ _) ?_;simp only [nd,Nat.add_mul,Nat.one_mul];omega
theorem zk1 (lf:Tm→Int→Tm)(S:Nat)(h:∀ u d,(lf u d).sz≤u.sz+S):∀ (l:List Tm) (d:Int),Tm.szs (z1m lf l d)≤Tm.szs l+nds l*S
 | [],_=>by simp [z1m,Tm.szs]
 | t::l,d=>by
  have:=zky lf S h t d;have:=zk1 lf S h l d;simp only [z1m,Tm.szs,nds,Nat.add_mul];omega
end
theorem zd {M:Int}:∀ {a b:List Tm},bds M a→bds M b→bds M (a++b)
 | [],_,_,h=>h
 | _::_,_,h,h'=>⟨h.1,zd h.2 h'⟩
theorem zrf {M:Int}:∀ {l:List Tm},(∀ t∈l,bd M t)→bds M l
 | [],_=>trivial
 | t::_,h=>⟨h t List.mem_cons_self,zrf fun u hu=>h u (List.mem_cons_of_mem _ hu)⟩
theorem bd6 {M:Int}{s:List UInt8}{n:Int}{l:List Tm}(h:bds M l):bd M (.mk 6 s n l):=⟨fun e=>absurd e (by omega),h⟩
theorem z83 {M:Int}{f:Tm}{l:List Tm}(hf:bd M f)(hl:bds M l):bd M (z08 f l):=by
 unfold z08;split
 · exact hf
 · split
   · exact bd6 (zd (bd_l hf) hl)
   · exact bd6 ⟨hf,hl⟩
theorem withF_bd {M:Int}{t:Tm}{o:List Tm}(hk:t.k≠3)(ho:bds M o):bd M (z4z t o):=by
 unfold z4z;split
 · rename_i h
   match o,h,ho with
   | [],h,_=>simp at h
   | x::r,h,ho=>exact z83 ho.1 ho.2
 · exact ⟨fun e=>absurd e hk,ho⟩
mutual
theorem zkj (lf:Tm→Int→Tm)(M M' D:Int)(h:∀ u d,bd M u→0≤d→d≤D→bd M' (lf u d)):∀ (t:Tm) (d:Int),bd M t→0≤d→d+t.sz≤D→bd M' (z1x lf t d)
 | .mk k s n l,d,hb,h0,h1=>by
  rw [z1x];simp only [Tm.sz] at h1;split
  · rename_i hk;refine withF_bd (fun e=> ?_) (zjx lf M M' D h l _ hb.2 (by split<;>omega) (by split<;>omega));have e:k=3:=e;rw [e] at hk;exact absurd hk (by decide)
  · exact h _ _ hb h0 (by omega)
theorem zjx (lf:Tm→Int→Tm)(M M' D:Int)(h:∀ u d,bd M u→0≤d→d≤D→bd M' (lf u d)):∀ (l:List Tm) (d:Int),bds M l→0≤d→d+Tm.szs l≤D→bds M' (z1m lf l d)
 | [],_,_,_,_=>trivial
 | t::l,d,hb,h0,h1=>by
  simp only [Tm.szs] at h1;exact ⟨zkj lf M M' D h t d hb.1 h0 (by omega),zjx lf M M' D h l d hb.2 h0 (by omega)⟩
end
theorem z9v (lf:Tm→Int→Tm):∀ (l:List Tm) (d:Int),(z1m lf l d).length=l.length
 | [],_=>rfl
 | _::l,d=>by simp only [z1m,List.length_cons,z9v lf l d]
abbrev M61:Int:=2305843009213693952
def z4d (fr by_:Int)(u:Tm)(d:Int):Tm:=if (u.k==3)=true∧d+fr≤u.n then .mk u.k u.s (u.n+by_) u.l else u
def shT (fr by_:Int)(t:Tm)(d:Int):Tm:=z1x (z4d fr by_) t d
theorem zrd (fr by_:Int)(u:Tm)(d:Int):(z4d fr by_ u d).sz=u.sz:=by
 unfold z4d;split
 · cases u;rfl
 · rfl
theorem shT_sz (fr by_:Int)(t:Tm)(d:Int):(shT fr by_ t d).sz≤t.sz:=by
 have:=zky (z4d fr by_) 0 (fun u d=>by rw [zrd];omega) t d;rw [Nat.mul_zero] at this;exact this
theorem c_moved (t:Tm)(by_:Int)(h1: -9223372036854775808≤t.n+by_)(h2:t.n+by_≤9223372036854775807):AC Tryz.prog 303 [aT t,ci by_] [] (aT (.mk t.k t.s (t.n+by_) t.l)) []:=by
 obtain ⟨k,s,n,l⟩:=t;refine AC.vc hP sh lv303 (Nat.le_refl _) (by simp) (by simp) (Eq.mpr (v303 k s n (FTs l) by_ _ _) ?_);rw [w64 (x:=n+by_) h1 h2];exact ⟨.refl _,rfl⟩
end Go.AM

set_option maxRecDepth 100000
open Go Go.Proofs
namespace Go.AM
def z1s:Nat→Tm→Tm
 | 0,t=>t
 | n+1,t=>z1s n (.mk 5 [] 0 [t])
theorem zrm (N:Int)(hN:N≤4294967296):∀ (m:Nat) (i k:Int) (s:List UInt8) (n:Int) (rows:List (List FV)) (l:List Tm),0≤i→i+m=N→FV.Le (.sl false 4 rows) (.sl false 4 (FTs l))→
  RPt Tryz.prog 59 0 (aT (z1s m (.mk k s n l))) [] 1 ⟨[(3, .c (.a (.ep 0 4 0 0))),(4, .c (.a (.ep 1 4 0 0))),(6,ci N),(7,ci i)],[(0, .arr 4 [[.a (.fz (.int .i64 k)), .a (.fz (.str s)), .a (.fz (.int .i64 n)), .a (.fz (.sl false 4 rows))]]),(1, .arr 4 [[.a (.fz (.int .i64 0)), .a (.fz (.str [])), .a (.fz (.int .i64 0)), .a (.fz .N)]])],2⟩
 | 0,i,k,s,n,rows,l,h0,hi,hle=>by
  refine RPt.vc hP sh lv59 (Eq.mpr (zow ..) ?_);refine z01 (fun h=>absurd (of_decide_eq_true h) (by omega)) (fun _=>⟨leT hle,rfl⟩)
 | m+1,i,k,s,n,rows,l,h0,hi,hle=>by
  refine RPt.vc hP sh lv59 (Eq.mpr (zow ..) ?_)
  have h2:=zrm N hN m (i+1) 5 [] 0 [[.int .i64 k, .str s, .int .i64 n, .sl false 4 rows]] [.mk k s n l] (by omega) (by omega) (zkn rfl fun j r t hr ht=>by
   match j,hr,ht with
   | 0,hr,ht=>
    simp only [List.getElem?_cons_zero,Option.some.injEq] at hr ht;subst hr;subst ht;exact leFT hle
   | j+1,hr,_=>simp at hr)
  rw [w64 (x:=i+1) (by omega) (by omega)];refine z01 (fun _=>⟨⟨rfl,by omega⟩, ?_⟩) (fun h=>absurd (of_decide_eq_false h) (by omega));exact h2
theorem foldMax0 {n:Int}(h:0≤n):foldMax [n,0]=n:=by
 rw [zlk];unfold maxI;split<;>omega
theorem zc (m:Nat)(t:Tm)(hm:m≤4294967296):AC Tryz.prog 59 [ci m,aT t] [] (aT (z1s m t)) []:=by
 obtain ⟨k,s,n,l⟩:=t;refine AC.vc hP sh lv59 (Nat.le_refl _) (by simp) (by simp) (Eq.mpr (v59 m k s n (FTs l) _ _) ?_);rw [foldMax0 (by omega)];refine RPt.vc hP sh lv59 (Eq.mpr (zow ..) ?_)
 match m,hm with
 | 0,_=>exact z01 (fun h=>absurd (of_decide_eq_true h) (by omega)) (fun _=>⟨.refl _,rfl⟩)
 | m+1,hm=>
  refine z01 (fun _=>⟨⟨rfl,by omega⟩, ?_⟩) (fun h=>absurd (of_decide_eq_false h) (by omega))
  exact zrm ((m+1:Nat):Int) (by omega) m 1 5 [] 0 [[.int .i64 k, .str s, .int .i64 n, .sl false 4 (FTs l)]] [.mk k s n l] (by omega) (by omega) (zkn rfl fun j r t hr ht=>by
   match j,hr,ht with
   | 0,hr,ht=>
    simp only [List.getElem?_cons_zero,Option.some.injEq] at hr ht;subst hr;subst ht;exact leFT (.refl _)
   | j+1,hr,_=>simp at hr)
mutual
def z07:Tm→Bool
 | .mk k s n l=>
  if (k==0)=true then (zgr s||zm5 s)&&n==0&&(((FTs l).length:Nat):Int)==0
  else if (k==1)=true then decide (n≥1)&&s==[]&&(((FTs l).length:Nat):Int)==0&&z2a l
  else if (k==2)=true then s==[]&&(((FTs l).length:Nat):Int)==0&&z2a l
  else if (k==3)=true then decide (n≥0)&&decide (n≤4611686018427387904)&&s==[]&&(((FTs l).length:Nat):Int)==0&&z2a l
  else if (k==4)=true then decide (n≥0)&&decide (n≤4611686018427387904)&&s==[]&&(((FTs l).length:Nat):Int)==0&&z2a l
  else if (k==5)=true then n==0&&s==[]&&(((FTs l).length:Nat):Int)==1&&z2a l
  else if (k==6)=true then n==0&&decide ((((FTs l).length:Nat):Int)≥2)&&((l.headD default).k !=6)&&s==[]&&z2a l
  else false
def z2a:List Tm→Bool
 | []=>true
 | t::l=>z07 t&&z2a l
end
def zja:List Tm→Int→Int
 | [],_=> -1
 | t::l,i=>if z07 t=true then zja l (i+1) else i
theorem zkh:∀ (l:List Tm) (i:Int),0≤i→decide (zja l i≥0)= !z2a l
 | [],_,_=>rfl
 | t::l,i,h=>by
  rw [zja,z2a];split
  · rename_i e;rw [zkh l (i+1) (by omega),e,Bool.true_and]
  · rename_i e;rw [show z07 t=false by simpa using e];simp;omega
theorem zq4:∀ (b a:List Tm),(∀ u∈b,AC Tryz.prog 86 [aT u] [] (cb (!z07 u)) [])→(a++b).length≤B→
  RPt Tryz.prog 141 0 (ci (zja b a.length)) [] 1 ⟨[(0,aL (a++b)),(1, .c (.fn (.func 86) [] [])),(7,ci (((FTs (a++b)).length:Nat):Int)),(8,ci a.length)],[],0⟩
 | [],a,_,_=>by
  refine RPt.vc hP sh z7l (Eq.mpr (zbo ..) ?_);exact z01 (fun h=>absurd (of_decide_eq_true h) (geI' a)) (fun _=>z6x rfl)
 | t::b,a,ih,hl=>by
  refine RPt.vc hP sh z7l (Eq.mpr (zbo ..) ?_);have hl':=hl;simp only [List.length_append,List.length_cons,B] at hl';have h1:=ih t List.mem_cons_self;have h2:=zq4 b (a++ [t]) (fun u hu=>ih u (List.mem_cons_of_mem _ hu)) (by rw [ap];exact hl);have h3:=ltI' a t b;rw [ap,nx] at h2;rw [midI,w64 (x:=(a.length:Int)+1) (by omega) (by omega)];refine z01 (fun _=> ?_) (fun h=>absurd h3 (of_decide_eq_false h));obtain ⟨k',s',n',l'⟩:=t;refine ⟨⟨rfl,by omega,h3,rfl⟩,_,h1,z01 (fun h=> ?_) (fun h=> ?_)⟩
  · rw [zja,if_neg (by simpa using h)];exact z6x rfl
  · rw [zja,if_pos (by simpa using h)];exact h2
theorem c_contf (l:List Tm)(hl:l.length≤B)(ih:∀ u∈l,AC Tryz.prog 36 [aT u] [] (cb (z07 u)) []):AC Tryz.prog 85 [aL l, .c (.fn (.func 86) [] [])] [] (cb (!z2a l)) []:=by
 have h1:∀ u∈l,AC Tryz.prog 86 [aT u] [] (cb (!z07 u)) []:=fun u hu=>by
  have h:=ih u hu;obtain ⟨k,s,n,l⟩:=u;refine AC.vc hP sh lv86 (Nat.le_refl _) (by simp) (by simp) (Eq.mpr (v86 k s n (FTs l) _ _) ?_);exact ⟨_,h,z0a rfl⟩
 have h2:AC Tryz.prog 141 [aL l, .c (.fn (.func 86) [] [])] [] (ci (zja l 0)) []:=by
  refine AC.vc hP sh z7l (Nat.le_refl _) (by simp) (by simp) (Eq.mpr (v141_F86 ..) ?_);exact ⟨rfl,zq4 l [] h1 hl⟩
 refine AC.vc hP sh lv85 (Nat.le_refl _) (by simp) (by simp) (Eq.mpr (v85_F86 ..) ?_);exact ⟨_,h2,z0a (zkh l 0 (Int.le_refl _))⟩
theorem head0:∀ {l:List Tm},2≤(((FTs l).length:Nat):Int)→List.getD (FTs l) 0 []=FT (l.headD default)
 | [],h=>by simp [FTs] at h
 | t::l,_=>rfl
theorem z8q:∀ t:Tm,t.sz≤B→AC Tryz.prog 36 [aT t] [] (cb (z07 t)) []:=by
 refine Tm.ind fun t ih hs=> ?_;have hlen:=Tm.szs_length t.l;obtain ⟨k,s,n,l⟩:=t;simp only [Tm.sz,Tm.l] at hs hlen;have hc:=c_contf l (by omega) fun u hu=>ih u hu (by have:=Tm.szs_mem hu;omega);refine AC.vc hP sh lv36 (Nat.le_refl _) (by simp) (by simp) (Eq.mpr (v36 k s n (FTs l) _ _) ?_)
 refine z01 (fun h0=>⟨_,c_isname s,z01 (fun h1=>z01 (fun h2=>⟨rfl,z0a ?_⟩) (fun h2=>z0a ?_)) (fun h1=>⟨_,c_issym s,z01 (fun h1'=>z01 (fun h2=>⟨rfl,z0a ?_⟩) (fun h2=>z0a ?_)) (fun h1'=>z0a ?_)⟩)⟩)
  (fun h0=>z01 (fun h1=>z01 (fun h2=>z01 (fun h3=>⟨rfl,z01 (fun h4=>⟨_,hc,z0a ?_⟩) (fun h4=>z0a ?_)⟩) (fun h3=>z0a ?_)) (fun h2=>z0a ?_))
  (fun h1=>z01 (fun h2=>z01 (fun h3=>⟨rfl,z01 (fun h4=>⟨_,hc,z0a ?_⟩) (fun h4=>z0a ?_)⟩) (fun h3=>z0a ?_))
  (fun h2=>z01 (fun h3=>z01 (fun h4=>z01 (fun h5=>z01 (fun h6=>⟨rfl,z01 (fun h7=>⟨_,hc,z0a ?_⟩) (fun h7=>z0a ?_)⟩) (fun h6=>z0a ?_)) (fun h5=>z0a ?_)) (fun h4=>z0a ?_))
  (fun h3=>z01 (fun h3'=>z01 (fun h4=>z01 (fun h5=>z01 (fun h6=>⟨rfl,z01 (fun h7=>⟨_,hc,z0a ?_⟩) (fun h7=>z0a ?_)⟩) (fun h6=>z0a ?_)) (fun h5=>z0a ?_)) (fun h4=>z0a ?_))
  (fun h3'=>z01 (fun h5=>z01 (fun h6=>z01 (fun h7=>⟨rfl,z01 (fun h8=>⟨_,hc,z0a ?_⟩) (fun h8=>z0a ?_)⟩) (fun h7=>z0a ?_)) (fun h6=>z0a ?_))
  (fun h5=>z01 (fun h6=>z01 (fun h7=>⟨rfl,z01 (fun h8=> ?app) (fun h8=>⟨rfl,z0a ?_⟩)⟩) (fun h7=>⟨rfl,z0a ?_⟩)) (fun h6=>z0a ?_)))))))
 case app=>
  have h8':=of_decide_eq_true h8;rw [head0 h8',zqg];refine ⟨⟨rfl,by omega,by omega,rfl⟩,rfl,z01 (fun h9=>z01 (fun h10=>⟨rfl,z01 (fun h11=>⟨_,hc,z0a ?_⟩) (fun h11=>z0a ?_)⟩) (fun h10=>z0a ?_)) (fun h9=>z0a ?_)⟩
  all_goals (have h9':((l.headD default).k !=6)=_:=h9;simp_all [z07])
 all_goals first
  | (simp_all [z07];done)
  | (simp_all [z07];intros;omega)
end Go.AM

set_option maxRecDepth 100000
open Go Go.Proofs

set_option maxRecDepth 100000
open Go Go.Proofs

set_option maxRecDepth 100000
open Go Go.Proofs

set_option maxRecDepth 100000
open Go Go.Proofs

set_option maxRecDepth 100000
open Go Go.Proofs
namespace Go.AM
abbrev t0:Tm:= .mk 0 [] 0 []
def zch (s:Hp)(a:Int):Tm:=
 if (cellOf s.C a).t=0 then .mk 0 (z9u s.N (cellOf s.C a).a) 0 []
 else if (cellOf s.C a).t=1 then .mk 1 [] (cellOf s.C a).a []
 else if (cellOf s.C a).t=2 then .mk 2 [] (cellOf s.C a).a []
 else if (cellOf s.C a).t=3 then .mk 3 [] (cellOf s.C a).a []
 else if (cellOf s.C a).t=4 then .mk 4 [] a []
 else t0
def z1t (F:Rd→Int→Tm×Rd):List Int→Tm→Rd→Tm×Rd
 | [],t,r=>(t,r)
 | x::l,t,r=>z1t F l (z08 t [(F r x).1]) (F r x).2
def zpz (F:Rd→Int→Tm×Rd)(h:(Int×List Int)×Rd):Tm×Rd:=
 if h.2.e≠0 then (t0,h.2)
 else if (cellOf h.2.s.C h.1.1).t=6 then (z1s 1 (F h.2 (cellOf h.2.s.C h.1.1).a).1,(F h.2 (cellOf h.2.s.C h.1.1).a).2)
 else z1t F h.1.2 (zch h.2.s h.1.1) h.2
def fulR (N:Nat):Nat→Rd→Int→Tm×Rd
 | 0,r,_=>(t0,r)
 | n+1,r,a=>zpz (fulR N n) (z0l N r a)
theorem zes:∀ (l:List Int) (f:Int) (r:Rd),r.e≠0→(z48 l f r).2=r
 | [],_,_,_=>rfl
 | x::l,f,r,h=>by
  have:(putR r ⟨7,f,x,0,0⟩).2=r:=by rw [putR,if_neg h]
  rw [z48,this];exact zes l _ r h
theorem apps_f:∀ (l:List Int) (f:Int) (r:Rd),(z48 l f r).2.f=r.f
 | [],_,_=>rfl
 | x::l,f,r=>by rw [z48,apps_f l,zef]
theorem zk2 {r:Rd}{a b:Int}(h:r.e≠0):z0m r a b=r:=by rw [z0m,if_neg fun q=>h q.1]
theorem ze7:∀ (n:Nat) (l:List Int) (b:Bool) (a:Int) (r:Rd),2*r.f.toNat+2≤n→((headL n l b a r).r.f:Int)+(headL n l b a r).l.length≤r.f+l.length∧(headL n l b a r).r.f≤r.f∧
  ((headL n l b a r).r.e=0→(headL n l b a r).r.f+(headL n l b a r).l.length+1≤r.f+l.length∧0≤(headL n l b a r).r.f)
 | 0,_,_,_,_,h=>absurd h (by omega)
 | n+1,l,b,a,r,hn=>by
  have vf:=z4p r a;rw [headL];split
  · rename_i q;exact ⟨Int.le_refl _,Int.le_refl _,fun w=>absurd w q⟩
  · split
    · rename_i q;exact ⟨by have:=vf.1;dsimp only;omega,vf.1,fun w=>absurd w q⟩
    · rename_i q;obtain ⟨f1,f2⟩:=vf.2 (by simpa using q);split
      · have ih:=ze7 n ((z02 r a).1.1.b::l) b (z02 r a).1.1.a (z02 r a).2 (by omega);simp only [List.length_cons] at ih;exact ⟨by omega,by omega,fun w=>by have:=ih.2.2 w;omega⟩
      · split
        · have g1:=zbv n (z02 r a).2 (z02 r a).1.1;have g2:=z9t (z05 n (z02 r a).2 (z02 r a).1.1).2 (z02 r a).1.2 (z05 n (z02 r a).2 (z02 r a).1.1).1;have ih:=ze7 n l b (z05 n (z02 r a).2 (z02 r a).1.1).1 (z0m (z05 n (z02 r a).2 (z02 r a).1.1).2 (z02 r a).1.2 (z05 n (z02 r a).2 (z02 r a).1.1).1) (by omega);exact ⟨by omega,by omega,fun w=>by have:=ih.2.2 w;omega⟩
        · split
          · split
            · exact ⟨by dsimp only;omega,vf.1,fun _=>⟨by dsimp only;omega,by dsimp only;omega⟩⟩
            · rename_i hl;have g:=zqd (z02 r a).2 (z02 r a).1.1.a (l.headD 0);have ih:=ze7 n l.tail true (z4k (z02 r a).2 (z02 r a).1.1.a (l.headD 0)).1 (z4k (z02 r a).2 (z02 r a).1.1.a (l.headD 0)).2 (by omega);have:l.tail.length≤l.length:=by simp
              exact ⟨by omega,by omega,fun w=>by have:=ih.2.2 w;omega⟩
          · exact ⟨by dsimp only;omega,vf.1,fun _=>⟨by dsimp only;omega,by dsimp only;omega⟩⟩
theorem zcz (n:Nat)(r:Rd)(a:Int)(hn:2*r.f.toNat+2≤n):(z0l n r a).2.f≤r.f∧((z0l n r a).2.e=0→(z0l n r a).2.f+(z0l n r a).1.2.length+1≤r.f∧0≤(z0l n r a).2.f):=by
 have h:=ze7 n [] false a r hn;simp only [List.length_nil] at h;unfold z0l z5x;generalize headL n [] false a r=z at*;obtain ⟨l,b,a',r'⟩:=z;dsimp only at h ⊢;split
 · by_cases q:r'.e=0
   · have:=h.2.2 q;rw [z9t,apps_f];exact ⟨h.2.1,fun _=>⟨by omega,this.2⟩⟩
   · rw [zes _ _ _ q,zk2 q];exact ⟨h.2.1,fun w=>absurd w q⟩
 · exact ⟨h.2.1,fun w=>⟨by have:=(h.2.2 w).1;omega,(h.2.2 w).2⟩⟩
theorem z60 (t u:Tm):(z08 t [u]).sz≤1+t.sz+u.sz:=by
 have:=z3v t [u];simp only [Tm.szs] at this;omega
def zmy (F:Rd→Int→Tm×Rd)(m:Int):Prop:=∀ (r:Rd) (a:Int),OkR r→r.f≤m→OkR (F r a).2∧(F r a).2.f≤r.f∧(F r a).1.sz+3*(F r a).2.f.toNat≤3*r.f.toNat+1
theorem zli {F:Rd→Int→Tm×Rd}{m:Int}(hF:zmy F m):∀ (l:List Int) (t:Tm) (r:Rd),OkR r→r.f≤m→OkR (z1t F l t r).2∧(z1t F l t r).2.f≤r.f∧(z1t F l t r).1.sz+3*(z1t F l t r).2.f.toNat≤3*r.f.toNat+t.sz+2*l.length
 | [],t,r,ok,_=>⟨ok,Int.le_refl _,by simp only [z1t,List.length_nil];omega⟩
 | x::l,t,r,ok,hm=>by
  obtain ⟨a1,a2,a3⟩:=hF r x ok hm;have ih:=zli hF l (z08 t [(F r x).1]) (F r x).2 a1 (by omega);have:=z60 t (F r x).1;rw [z1t];simp only [List.length_cons];exact ⟨ih.1,by omega,by omega⟩
theorem leafR_sz (s:Hp)(a:Int):(zch s a).sz=1∧(zch s a).l=[]:=by
 unfold zch;split
 · exact ⟨rfl,rfl⟩
 · split
   · exact ⟨rfl,rfl⟩
   · split
     · exact ⟨rfl,rfl⟩
     · split
       · exact ⟨rfl,rfl⟩
       · split<;>exact ⟨rfl,rfl⟩
theorem zc3 (N:Nat):∀ (n:Nat) (m:Int),2*m.toNat+2≤N→m.toNat<n→zmy (fulR N n) m
 | 0,_,_,h=>absurd h (by omega)
 | n+1,m,hN,hm=>fun r a ok hr=>by
  have hf:=zcz N r a (by omega);have oh:=OkR.head N a ok;rw [fulR];unfold zpz;split
  · exact ⟨oh,hf.1,by show (t0.sz)+_≤_;have:t0.sz=1:=rfl;rw [this];have:=hf.1;dsimp only;omega⟩
  · rename_i q;obtain ⟨g1,g2⟩:=hf.2 (by simpa using q)
    have ih:m-1<0∨zmy (fulR N n) (m-1):=by
     by_cases h:m-1<0
     · exact .inl h
     · exact .inr (zc3 N n (m-1) (by omega) (by omega))
    rcases ih with ih | ih
    · omega
    split
    · obtain ⟨a1,a2,a3⟩:=ih (z0l N r a).2 (cellOf (z0l N r a).2.s.C (z0l N r a).1.1).a oh (by omega);refine ⟨a1,by dsimp only;omega, ?_⟩
      have e:(z1s 1 (fulR N n (z0l N r a).2 (cellOf (z0l N r a).2.s.C (z0l N r a).1.1).a).1).sz=1+(fulR N n (z0l N r a).2 (cellOf (z0l N r a).2.s.C (z0l N r a).1.1).a).1.sz:=by
       simp only [z1s,Tm.sz,Tm.szs];omega
      dsimp only;rw [e];omega
    · have:=zli ih (z0l N r a).1.2 (zch (z0l N r a).2.s (z0l N r a).1.1) (z0l N r a).2 oh (by omega);have e:=(leafR_sz (z0l N r a).2.s (z0l N r a).1.1).1;exact ⟨this.1,by omega,by omega⟩
abbrev FullC (F:Rd→Int→Tm×Rd)(m:Int):Prop:=∀ (r:Rd) (a:Int),OkR r→r.f≤m→AC Tryz.prog 72 [aRd,ci a] (oRd r) (aT (F r a).1) (oRd' (F r a).2)
abbrev stFu (r:Rd)(l:List Int)(z t:Tm)(x:FV)(i:Int):St:=
 ⟨[(0,aRd),(4, .c (.a (.ep 9 4 0 0))),(8, .c (.a (.ep 10 4 0 0))),(71, .c (.a (.fz (.sl false 1 (IR l))))),(72,ci (l.length:Int)),(73,ci i)],
  [(0,rd3 1 r),(1,hp6 6 7 8 5 r.s),(2, .gone),(3, .gone),(4, .gone),(5, .mapz (NM r.s.N 0)),(6, .arz 5 (CR r.s.C)),(7, .arz 7 (TR r.s.T)),(8, .arz 1 (NR r.s.N)),(9, .arr 4 [[.a (.fz (.int .i64 z.k)), .a (.fz (.str z.s)), .a (.fz (.int .i64 z.n)), .a (.fz .N)]]),(10, .arr 4 [[.a (.fz (.int .i64 t.k)), .a (.fz (.str t.s)), .a (.fz (.int .i64 t.n)), .a (.fz x)]])],11⟩
theorem zlz {F:Rd→Int→Tm×Rd}{m:Int}(hC:FullC F m)(hG:zmy F m)(z:Tm)(l0:List Int)(hl0:l0.length≤1000000000):∀ (l pre:List Int) (t:Tm) (r:Rd),l0=pre++l→OkR r→r.f≤m→t.sz+3*r.f.toNat+2*l.length≤1000000000→
  RPt Tryz.prog 72 6 (aT (z1t F l t r).1) (oRd' (z1t F l t r).2) 3 (stFu r l0 z t (.sl false 4 (FTs t.l)) (pre.length:Int))
 | [],pre,t,r,hl,ok,_,_=>by
  rw [List.append_nil] at hl;obtain ⟨tk,ts,tn,tl⟩:=t;refine RPt.vc hP sh lv72 (Eq.mpr (v72_3b ..) ?_);exact z01 (fun q=>absurd (of_decide_eq_true q) (by rw [hl];omega)) (fun _=>⟨.refl _,rfl⟩)
 | x::l,pre,t,r,hl,ok,hr,hz=>by
  have hx:=hC r x ok hr;obtain ⟨a1,a2,a3⟩:=hG r x ok hr;have hlen:l0.length=pre.length+(l.length+1):=by rw [hl];simp
  simp only [List.length_cons] at hz;have tl:=t.sz_eq;have tl2:=Tm.szs_length t.l;have ha:=z3x t [(F r x).1] (by simp only [List.length_singleton];omega);have hs:=z60 t (F r x).1;have hlt:pre.length<l0.length:=by omega
  have hg:List.getD (IR l0) (Int.toNat (pre.length:Int)) []=[.int .i64 x]:=by
   rw [Int.toNat_natCast,z2m hlt];simp [hl]
  rw [z1t];have nx:=zlz hC hG z l0 hl0 l (pre++ [x]) (z08 t [(F r x).1]) (F r x).2 (by rw [hl];simp) a1 (by omega) (by omega);rw [show (((pre++ [x]).length:Nat):Int)=(pre.length:Int)+1 by simp] at nx;refine RPt.vc hP sh lv72 (Eq.mpr (v72_3b ..) ?_);rw [hg,w64 (x:=(pre.length:Int)+1) (by omega) (by omega)];refine z01 (fun _=>⟨⟨rfl,by omega,by rw [z06];omega,rfl⟩,_,hx,⟨rfl,Nat.le_refl _⟩,z08 t [(F r x).1], ?_,nx⟩) (fun w=>absurd (of_decide_eq_false w) (by omega));obtain ⟨tk,ts,tn,tl⟩:=t;rw [show [FT4 (F r x).1]=FTs [(F r x).1] by rw [z4x];rfl];exact ha
theorem l_rfulla {F:Rd→Int→Tm×Rd}{m:Int}(hC:FullC F m)(hG:zmy F m)(z:Tm)(l:List Int)(hl:l.length≤1000000000)(k n:Int)(s:List UInt8)(r:Rd)(ok:OkR r)(hr:r.f≤m)(hz:1+3*r.f.toNat+2*l.length≤1000000000):
  RPt Tryz.prog 72 6 (aT (z1t F l (.mk k s n []) r).1) (oRd' (z1t F l (.mk k s n []) r).2) 3 (stFu r l z (.mk k s n []) .N 0):=by
 cases l with
 | nil=>
  refine RPt.vc hP sh lv72 (Eq.mpr (v72_3a ..) ?_);exact z01 (fun q=>absurd (of_decide_eq_true q) (by decide)) (fun _=>⟨leT (l:=[]) z2s,rfl⟩)
 | cons x l=>
  have hx:=hC r x ok hr;obtain ⟨a1,a2,a3⟩:=hG r x ok hr;simp only [List.length_cons] at hz hl;have ha:=(z3x (.mk k s n []) [(F r x).1] (by simp only [List.length_singleton,Tm.l,List.length_nil];omega)).args (args:=[.agg [.a (.fz (.int .i64 k)), .a (.fz (.str s)), .a (.fz (.int .i64 n)), .a (.fz .N)],aL [(F r x).1]]) ⟨leT z2s, .refl _,trivial⟩;have hs:=z60 (.mk k s n []) (F r x).1;have h1:(Tm.mk k s n []).sz=1:=rfl;have nx:=zlz hC hG z (x::l) (by simp only [List.length_cons];omega) l [x] (z08 (.mk k s n []) [(F r x).1]) (F r x).2 rfl a1 (by omega) (by omega);rw [z1t];refine RPt.vc hP sh lv72 (Eq.mpr (v72_3a ..) ?_);have hg:List.getD (IR (x::l)) (Int.toNat 0) []=[.int .i64 x]:=rfl;rw [hg,show IntKind.wrap .i64 ((0:Int)+1)=1 from w64 (by omega) (by omega)];refine z01 (fun _=>⟨⟨rfl,Int.le_refl _,by rw [z06];simp only [List.length_cons];omega,rfl⟩,_,hx,⟨rfl,Nat.le_refl _⟩,z08 (.mk k s n []) [(F r x).1], ?_,nx⟩) (fun w=>absurd (of_decide_eq_false w) (by simp only [List.length_cons];omega));rw [show [FT4 (F r x).1]=FTs [(F r x).1] by rw [z4x];rfl];exact ha
theorem zqf (N:Nat):∀ (n:Nat) (m:Int),2*m.toNat+2≤N→m.toNat<n→m≤100000000→FullC (fulR N n) m
 | 0,_,_,h,_=>absurd h (by omega)
 | n+1,m,hN,hm,hB=>fun r a ok hr=>by
  have hf:=zcz N r a (by omega);have oh:=OkR.head N a ok;have hh:=zqv N r a ok (by omega) (by omega);have cc:=z41 (z0l N r a).2.s (z0l N r a).1.1;have nm:=znx (z0l N r a).2.s (cellOf (z0l N r a).2.s.C (z0l N r a).1.1).a
  have e0:fulR N (n+1) r a=if (z0l N r a).2.e≠0 then (t0,(z0l N r a).2)
   else if (cellOf (z0l N r a).2.s.C (z0l N r a).1.1).t=6 then (z1s 1 (fulR N n (z0l N r a).2 (cellOf (z0l N r a).2.s.C (z0l N r a).1.1).a).1,(fulR N n (z0l N r a).2 (cellOf (z0l N r a).2.s.C (z0l N r a).1.1).a).2)
   else z1t (fulR N n) (z0l N r a).1.2 (zch (z0l N r a).2.s (z0l N r a).1.1) (z0l N r a).2:=rfl
  have ih:m-1<0∨FullC (fulR N n) (m-1)∧zmy (fulR N n) (m-1):=by
   by_cases h:m-1<0
   · exact .inl h
   · exact .inr ⟨zqf N n (m-1) (by omega) (by omega) (by omega),zc3 N n (m-1) (by omega) (by omega)⟩
  unfold zch at e0;generalize z0l N r a=h at*;obtain ⟨⟨hd,xs⟩,⟨hs,hf',he⟩⟩:=h;dsimp only at*;refine AC.vc hP sh lv72 (by simp) (by simp [isLive]) (by simp [isLive]) (Eq.mpr (v72 ..) ?_);refine ⟨(hd,xs,⟨hs,hf',he⟩),hh,z0j (fun q=> ?_) (fun q=>⟨_,_,_,_,_,_,cc, ?_⟩)⟩
  · rw [if_pos q] at e0;rw [e0];exact ⟨leT (l:=[]) z2s,rfl⟩
  · rw [if_neg (fun w=>w q)] at e0;obtain ⟨g1,g2⟩:=hf.2 q;rcases ih with ih | ⟨ihC,ihG⟩
    · omega
    have go:∀ (k v:Int) (str:List UInt8),RPt Tryz.prog 72 6 (aT (z1t (fulR N n) xs (.mk k str v []) ⟨hs,hf',he⟩).1) (oRd' (z1t (fulR N n) xs (.mk k str v []) ⟨hs,hf',he⟩).2) 3 (stFu ⟨hs,hf',he⟩ xs t0 (.mk k str v []) .N 0):=
     fun k v str=>l_rfulla ihC ihG t0 xs (by omega) k v str ⟨hs,hf',he⟩ oh (by dsimp only;omega) (by dsimp only;omega)
    have el:(((IR xs).length:Nat):Int)=(xs.length:Int):=by rw [z06]
    refine z04 (fun q6=> ?_) (fun q6=> ?_)
    · rw [if_pos q6] at e0;have hx:=ihC ⟨hs,hf',he⟩ (cellOf hs.C hd).a oh (by dsimp only;omega);have hl:=zc 1 (fulR N n ⟨hs,hf',he⟩ (cellOf hs.C hd).a).1 (by omega);rw [e0];exact ⟨_,hx,_,hl, .refl _,rfl⟩
    · rw [if_neg q6] at e0;rw [el];refine z04 (fun q0=> ?_) (fun q0=>z04 (fun q1=> ?_) (fun q1=>z04 (fun q2=> ?_) (fun q2=>z04 (fun q3=> ?_) (fun q3=>z04 (fun q4=> ?_) (fun q4=> ?_)))))
      · rw [if_pos q0] at e0;rw [e0];exact ⟨_,nm,rfl,go 0 0 _⟩
      · rw [if_neg q0,if_pos q1] at e0;rw [e0];exact ⟨rfl,go 1 _ []⟩
      · rw [if_neg q0,if_neg q1,if_pos q2] at e0;rw [e0];exact ⟨rfl,go 2 _ []⟩
      · rw [if_neg q0,if_neg q1,if_neg q2,if_pos q3] at e0;rw [e0];exact ⟨rfl,go 3 _ []⟩
      · rw [if_neg q0,if_neg q1,if_neg q2,if_neg q3,if_pos q4] at e0;rw [e0];exact ⟨rfl,go 4 _ []⟩
      · rw [if_neg q0,if_neg q1,if_neg q2,if_neg q3,if_neg q4] at e0;rw [e0];exact ⟨rfl,go 0 0 []⟩
end Go.AM

set_option maxRecDepth 100000
open Go Go.Proofs
namespace Go.AM
mutual
def occF:Tm→Int→Nat
 | .mk k _ n l,i=>if (k==3)=true∧(n==i)=true then 1 else occL l (i+if (k==5)=true then 1 else 0)
def occL:List Tm→Int→Nat
 | [],_=>0
 | t::l,i=>occF t i+occL l i
end
mutual
theorem occF_le:∀ (t:Tm) (i:Int),occF t i≤t.sz
 | .mk k s n l,i=>by
  rw [occF];have:=zif l (i+if (k==5)=true then 1 else 0)
  split<;>simp only [Tm.sz]<;>omega
theorem zif:∀ (l:List Tm) (i:Int),occL l i≤Tm.szs l
 | [],_=>Nat.le_refl _
 | t::l,i=>by have:=occF_le t i;have:=zif l i;simp only [occL,Tm.szs];omega
end
theorem zlp (i:Int):∀ (b a:List Tm) (acc:Nat),(∀ u∈b,AC Tryz.prog 315 [aT u,ci i] [] (ci (occF u i)) [])→(a++b).length≤B→acc+occL b i≤2*B→
  RPt Tryz.prog 315 0 (ci ((acc+occL b i:Nat):Int)) [] 3 ⟨[(1,ci i),(5,ci acc),(21,aL (a++b)),(22,ci (((FTs (a++b)).length:Nat):Int)),(23,ci a.length)],[],0⟩
 | [],a,acc,_,_,_=>by
  refine RPt.vc hP sh zqj (Eq.mpr (zqq ..) ?_);exact z01 (fun h=>absurd (of_decide_eq_true h) (geI' a)) (fun _=>z6x (by simp [occL]))
 | t::b,a,acc,ih,hl,ha=>by
  have hl':=hl;simp only [List.length_append,List.length_cons,B] at hl';simp only [occL,B] at ha;have h1:=ih t List.mem_cons_self;have h2:=zlp i b (a++ [t]) (acc+occF t i) (fun u hu=>ih u (List.mem_cons_of_mem _ hu)) (by rw [ap];exact hl) (by simp only [B];omega);have h3:=ltI' a t b;rw [ap,nx] at h2;refine RPt.vc hP sh zqj (Eq.mpr (zqq ..) ?_);rw [midI,w64 (x:=(a.length:Int)+1) (by omega) (by omega)];refine z01 (fun _=> ?_) (fun h=>absurd h3 (of_decide_eq_false h));rw [occL,←Nat.add_assoc];obtain ⟨k',s',n',l'⟩:=t;refine ⟨⟨rfl,by omega,h3,rfl⟩,_,h1, ?_⟩;rw [w64 (by omega) (by omega),show (acc:Int)+((occF (.mk k' s' n' l') i:Nat):Int)=((acc+occF (.mk k' s' n' l') i:Nat):Int) by omega];exact h2
theorem c_occurs:∀ t:Tm,t.sz≤B→∀ i:Int,0-2305843009213693952≤i→i+t.sz≤2305843009213693952→AC Tryz.prog 315 [aT t,ci i] [] (ci (occF t i)) []:=by
 refine Tm.ind fun t ih hs i h0 h1=> ?_;have hlen:=Tm.szs_length t.l;obtain ⟨k,s,n,l⟩:=t;simp only [Tm.sz,Tm.l,B] at hs hlen h1
 have loop:∀ j:Int,0-2305843009213693952≤j→j+Tm.szs l≤2305843009213693952→RPt Tryz.prog 315 0 (ci (occL l j)) [] 3 ⟨[(1,ci j),(5,ci 0),(21,aL l),(22,ci (((FTs l).length:Nat):Int)),(23,ci 0)],[],0⟩:=fun j hj0 hj1=>by
  have hle:=zif l j;have:=zlp j l [] 0 (fun u hu=>ih u hu (by have:=Tm.szs_mem hu;simp only [B];omega) j hj0 (by have:=Tm.szs_mem hu;omega)) (by simp only [List.nil_append,B];omega) (by simp only [B];omega);rw [Nat.zero_add] at this;exact this
 refine AC.vc hP sh zqj (Nat.le_refl _) (by simp) (by simp) (Eq.mpr (v315 k s n (FTs l) i _ _) ?_);have no:∀ (c:¬((k==3)=true∧(n==i)=true)),occF (.mk k s n l) i=occL l (i+if (k==5)=true then 1 else 0):=fun c=>by rw [occF,if_neg c]
 refine z01 (fun h=>z01 (fun h2=>z6x ?_) (fun h2=>⟨rfl, ?_⟩)) (fun h=>z01 (fun h2=>⟨rfl, ?_⟩) (fun h2=>⟨rfl, ?_⟩))
 · rw [occF,if_pos ⟨h,h2⟩];rfl
 · have e:k=3:=by simpa using h
   rw [no (fun c=>by rw [c.2] at h2;cases h2)];subst e;rw [show (i+if ((3:Int)==5)=true then 1 else 0)=i by simp]
   exact loop i (by omega) (by omega)
 · rw [no (fun c=>by rw [c.1] at h;cases h),if_pos h2,w64 (by omega) (by omega)];exact loop (i+1) (by omega) (by omega)
 · rw [no (fun c=>by rw [c.1] at h;cases h),if_neg (by rw [h2];simp),Int.add_zero];exact loop i (by omega) (by omega)
theorem zop (t:Tm)(hs:t.sz≤B)(i:Int)(h0:0-2305843009213693952≤i)(h1:i+t.sz≤2305843009213693952):AC Tryz.prog 301 [aT t,ci i] [] (ci (if z07 t=true then (occF t i:Int) else 0)) []:=by
 have hv:=z8q t hs;have ho:=c_occurs t hs i h0 h1;obtain ⟨k,s,n,l⟩:=t;refine AC.vc hP sh lv301 (Nat.le_refl _) (by simp) (by simp) (Eq.mpr (v301 k s n (FTs l) i _ _) ?_);refine ⟨_,hv,z01 (fun h=>z6x ?_) (fun h=>⟨_,ho,z6x ?_⟩)⟩
 · rw [if_neg (by simpa using h)]
 · rw [if_pos (by simpa using h)]
end Go.AM

set_option maxRecDepth 100000
open Go Go.Proofs
namespace Go.AM
abbrev aTE (t:Tm)(e:Int):TV:= .tup [(true,[.a (.fz (.int .i64 t.k)), .a (.fz (.str t.s)), .a (.fz (.int .i64 t.n)), .a (.fz (.sl false 4 (FTs t.l)))]),(false,[.a (.fz (.int .i64 e))])]
abbrev noT:Tm:= .mk 0 [] 0 []
theorem leTE {k n e:Int}{s:List UInt8}{x:FV}{l:List Tm}(h:FV.Le x (.sl false 4 (FTs l))):TV.Le (.tup [(true,[.a (.fz (.int .i64 k)), .a (.fz (.str s)), .a (.fz (.int .i64 n)), .a (.fz x)]),(false,[.a (.fz (.int .i64 e))])]) (aTE (.mk k s n l) e):=by
 refine .tup _ _ rfl fun i p q hp hq=> ?_
 match i,hp,hq with
 | 0,hp,hq=>
  simp only [List.getElem?_cons_zero,Option.some.injEq] at hp hq;subst hp;subst hq;refine ⟨rfl,rfl,fun j x y hx hy=> ?_⟩
  match j,hx,hy with
  | 0,hx,hy=>simp at hx hy;subst hx;subst hy;exact .refl _
  | 1,hx,hy=>simp at hx hy;subst hx;subst hy;exact .refl _
  | 2,hx,hy=>simp at hx hy;subst hx;subst hy;exact .refl _
  | 3,hx,hy=>simp at hx hy;subst hx;subst hy;exact .a _ _ (.fz _ _ h)
  | j+4,hx,_=>simp at hx
 | 1,hp,hq=>
  simp only [List.getElem?_cons_zero,List.getElem?_cons_succ,Option.some.injEq] at hp hq;subst hp;subst hq;refine ⟨rfl,rfl,fun j x y hx hy=> ?_⟩
  match j,hx,hy with
  | 0,hx,hy=>simp at hx hy;subst hx;subst hy;exact .refl _
  | j+1,hx,_=>simp at hx
 | i+2,hp,_=>simp at hp
end Go.AM

set_option maxRecDepth 100000
open Go Go.Proofs
namespace Go.AM
def hd (l:List Tm):Tm:=l.headD default
mutual
def okB:Tm→Bool
 | .mk k s n l=>(if (k==6)=true then decide (2≤l.length)&&(hd l).k !=6&&(s==[]&&n==0) else if (k==5)=true then decide (l.length=1)&&(s==[]&&n==0) else decide (l.length=0))&&okL l
def okL:List Tm→Bool
 | []=>true
 | t::l=>okB t&&okL l
end
theorem z54:∀ {l:List Tm} {t:Tm},okL l=true→t∈l→okB t=true
 | x::l,t,h,hm=>by
  simp only [okL,Bool.and_eq_true] at h;rcases List.mem_cons.1 hm with rfl | hm
  · exact h.1
  · exact z54 h.2 hm
theorem zpq:∀ {l:List Tm},(∀ t∈l,okB t=true)→okL l=true
 | [],_=>rfl
 | t::l,h=>by simp only [okL,h t List.mem_cons_self,zpq (l:=l) fun u hu=>h u (List.mem_cons_of_mem _ hu),Bool.and_self]
theorem okB6 {k n:Int}{s:List UInt8}{l:List Tm}(h:okB (.mk k s n l)=true)(hk:k=6):∃ x y r,l=x::y::r∧x.k≠6∧okL l=true:=by
 subst hk;simp only [okB,Bool.and_eq_true] at h
 match l,h with
 | [],h=>simp at h
 | [x],h=>simp at h
 | x::y::r,h=>exact ⟨x,y,r,rfl,by have:=h.1;simp [hd] at this;exact this.1,h.2⟩
theorem okB5 {k n:Int}{s:List UInt8}{l:List Tm}(h:okB (.mk k s n l)=true)(hk:k=5):∃ x,l=[x]∧okB x=true:=by
 subst hk;simp only [okB,Bool.and_eq_true] at h
 match l,h with
 | [],h=>simp at h
 | [x],h=>exact ⟨x,rfl,by have:=h.2;simpa [okL] using this⟩
 | x::y::r,h=>simp at h
theorem okB0 {k n:Int}{s:List UInt8}{l:List Tm}(h:okB (.mk k s n l)=true)(h5:k≠5)(h6:k≠6):l=[]:=by
 simp only [okB,Bool.and_eq_true] at h;have:=h.1;rw [if_neg (by simpa using h6),if_neg (by simpa using h5)] at this;exact List.eq_nil_of_length_eq_zero (by simpa using this)
theorem okB_sn {k n:Int}{s:List UInt8}{l:List Tm}(h:okB (.mk k s n l)=true)(hk:k=5∨k=6):s=[]∧n=0:=by
 simp only [okB,Bool.and_eq_true] at h;have h:=h.1;rcases hk with rfl | rfl
 · simp at h;exact h.2
 · simp at h;exact h.2
theorem okB_l {t:Tm}(h:okB t=true):okL t.l=true:=by
 obtain ⟨k,s,n,l⟩:=t;simp only [okB,Bool.and_eq_true] at h;exact h.2
mutual
theorem z4c:∀ t:Tm,z07 t=true→okB t=true
 | .mk k s n l,h=>by
  rw [okB];have hl:=zg4 l;rw [z07] at h;split at h
  · rename_i e;have e:k=0:=by simpa using e
    subst e;rw [lenI] at h;have:l=[]:=by simp at h;exact h.2
    subst this;rfl
  split at h
  · rename_i e;have e:k=1:=by simpa using e
    subst e;rw [lenI] at h;have:l=[]:=by simp at h;exact h.1.2
    subst this;rfl
  split at h
  · rename_i e;have e:k=2:=by simpa using e
    subst e;rw [lenI] at h;have:l=[]:=by simp at h;exact h.1.2
    subst this;rfl
  split at h
  · rename_i e;have e:k=3:=by simpa using e
    subst e;rw [lenI] at h;have:l=[]:=by simp at h;exact h.1.2
    subst this;rfl
  split at h
  · rename_i e;have e:k=4:=by simpa using e
    subst e;rw [lenI] at h;have:l=[]:=by simp at h;exact h.1.2
    subst this;rfl
  split at h
  · rename_i e;have e:k=5:=by simpa using e
    subst e;rw [lenI] at h;simp only [Bool.and_eq_true,beq_iff_eq] at h;have h1:l.length=1:=by have:=h.1.2;omega
    rw [hl h.2];simp [h1,h.1.1.1,h.1.1.2]
  split at h
  · rename_i e;have e:k=6:=by simpa using e
    subst e;rw [lenI] at h;simp only [Bool.and_eq_true,decide_eq_true_eq,beq_iff_eq] at h;have h1:2≤l.length:=by have:=h.1.1.1.2;omega
    have h2:((hd l).k !=6)=true:=h.1.1.2;rw [hl h.2,h2];simp [h1,h.1.1.1.1,h.1.2]
  · cases h
theorem zg4:∀ l:List Tm,z2a l=true→okL l=true
 | [],_=>rfl
 | t::l,h=>by
  simp only [z2a,Bool.and_eq_true] at h;simp only [okL,z4c t h.1,zg4 l h.2,Bool.and_self]
end
theorem ok_ne {t:Tm}(h:okB t=true):t.k=6→t.l ≠ []:=by
 obtain ⟨k,s,n,l⟩:=t;intro hk;obtain ⟨x,y,r,e,_⟩:=okB6 h hk;show l ≠ [];rw [e];simp
end Go.AM

set_option maxRecDepth 100000
open Go Go.Proofs
namespace Go.AM
abbrev zT:List WV:=[.a (.fz (.int .i64 0)), .a (.fz (.str [])), .a (.fz (.int .i64 0)), .a (.fz .N)]
theorem zd0 (k:Int)(s:List UInt8)(n:Int)(l:List Tm)(a:Tm)(r:List Tm):z08 (.mk k s n l) (a::r)=if (k==6)=true∧l ≠ [] then .mk 6 [] 0 (l++a::r) else .mk 6 [] 0 (.mk k s n l::a::r):=rfl
end Go.AM

set_option maxRecDepth 100000
open Go Go.Proofs
namespace Go.AM
def SZ:Nat:=130000000
theorem el0 (x:Tm)(l:List Tm):FV.L 4 (.sl false 4 (FTs (x::l)))=true∧((0:Int)≤0∧((0:Int)<(((FTs (x::l)).length:Nat):Int)∧(rE (List.getD (FTs (x::l)) 0 []):List FV)=List.getD (FTs (x::l)) 0 [])):=⟨rfl,Int.le_refl _,by rw [lenI];simp only [List.length_cons];omega,z4j x⟩
theorem leTB {k n:Int}{b:Bool}{s:List UInt8}{x:FV}{l:List Tm}(h:FV.Le x (.sl false 4 (FTs l))):TV.Le (.tup [(true,[.a (.fz (.int .i64 k)), .a (.fz (.str s)), .a (.fz (.int .i64 n)), .a (.fz x)]),(false,[.a (.fz (.bool b))])]) (.tup [(true,cT (.mk k s n l)),(false,[.a (.fz (.bool b))])]):=by
 refine .tup _ _ rfl fun i p q hp hq=> ?_
 match i,hp,hq with
 | 0,hp,hq=>
  simp only [List.getElem?_cons_zero,Option.some.injEq] at hp hq;subst hp;subst hq;refine ⟨rfl,rfl,fun j x y hx hy=> ?_⟩
  match j,hx,hy with
  | 0,hx,hy=>simp at hx hy;subst hx;subst hy;exact .refl _
  | 1,hx,hy=>simp at hx hy;subst hx;subst hy;exact .refl _
  | 2,hx,hy=>simp at hx hy;subst hx;subst hy;exact .refl _
  | 3,hx,hy=>simp at hx hy;subst hx;subst hy;exact .a _ _ (.fz _ _ h)
  | j+4,hx,_=>simp at hx
 | 1,hp,hq=>
  simp only [List.getElem?_cons_zero,List.getElem?_cons_succ,Option.some.injEq] at hp hq;subst hp;subst hq;exact ⟨rfl,rfl,fun j x y hx hy=>by rw [hx] at hy;injection hy with hy;subst hy;exact .refl _⟩
 | i+2,hp,_=>simp at hp
theorem not_t {b:Bool}(h:(!b)=true):b=false:=by cases b<;>simp_all
theorem zma {b:Bool}(h:(!b)=false):b=true:=by cases b<;>simp_all
end Go.AM

set_option maxRecDepth 100000
open Go Go.Proofs
namespace Go.AM
theorem zaw {f:Tm}{args:List Tm}(hf:okB f=true)(ha:okL args=true):okB (z08 f args)=true:=by
 match args,ha with
 | [],_=>exact hf
 | a::r,ha=>
  obtain ⟨k,s,n,l⟩:=f;rw [zd0];split
  · rename_i h;have hk:k=6:=by simpa using h.1
    obtain ⟨x,y,r',rfl,h6,hl⟩:=okB6 hf hk
    have hall:okL ((x::y::r')++a::r)=true:=zpq fun t ht=>by
     rcases List.mem_append.1 ht with ht | ht
     · exact z54 hl ht
     · exact z54 ha ht
    have h6':(x.k !=6)=true:=by simpa using h6
    rw [okB,hall];simp [hd,h6]
  · rename_i h;have h6:k≠6:=fun e=>h ⟨by simpa using e,ok_ne hf e⟩;have hall:okL (.mk k s n l::a::r)=true:=by simp only [okL,Bool.and_eq_true] at ha ⊢;exact ⟨hf,ha⟩
    rw [okB,hall];simp [hd,Tm.k,h6]
theorem withF_ok {k n:Int}{s:List UInt8}{l o:List Tm}(h:okB (.mk k s n l)=true)(hk:k=5∨k=6)(ho:okL o=true)(hlen:o.length=l.length):okB (z4z (.mk k s n l) o)=true:=by
 obtain ⟨rfl,rfl⟩:=okB_sn h hk;unfold z4z;split
 · rename_i hc
   match o,ho,hc with
   | [],_,hc=>simp at hc
   | x::r,ho,hc=>
    simp only [okL,Bool.and_eq_true] at ho;exact zaw ho.1 ho.2
 · rename_i hc;show okB (.mk k [] 0 o)=true;rcases hk with rfl | rfl
   · obtain ⟨x,rfl,_⟩:=okB5 h rfl;rw [okB,ho];simp only [List.length_cons,List.length_nil] at hlen;simp [hlen]
   · obtain ⟨x,y,r,rfl,h6,_⟩:=okB6 h rfl;have h1:¬(hd o).k=6:=fun e=>hc ⟨rfl,by rw [hlen];simp,by simpa [hd] using e,show (x.k !=6)=true by simpa using h6⟩;rw [okB,ho];simp only [List.length_cons] at hlen;simp [hlen,h1]
mutual
theorem zll (lf:Tm→Int→Tm)(h:∀ u d,okB u=true→u.k≠5→u.k≠6→okB (lf u d)=true):∀ (t:Tm) (d:Int),okB t=true→okB (z1x lf t d)=true
 | .mk k s n l,d,ho=>by
  rw [z1x];split
  · rename_i hk;exact withF_ok ho (by simpa using hk) (zlg lf h l _ (okB_l ho)) (z9v ..)
  · rename_i hk;exact h _ _ ho (fun e=>hk (by simp [show k=5 from e])) (fun e=>hk (by simp [show k=6 from e]))
theorem zlg (lf:Tm→Int→Tm)(h:∀ u d,okB u=true→u.k≠5→u.k≠6→okB (lf u d)=true):∀ (l:List Tm) (d:Int),okL l=true→okL (z1m lf l d)=true
 | [],_,_=>rfl
 | t::l,d,ho=>by
  simp only [okL,Bool.and_eq_true] at ho;simp only [z1m,okL,zll lf h t d ho.1,zlg lf h l d ho.2,Bool.and_self]
end
theorem okB_leaf {k n m:Int}{s:List UInt8}{l:List Tm}(h:okB (.mk k s n l)=true)(h5:k≠5)(h6:k≠6):okB (.mk k s m l)=true:=by
 have:l=[]:=okB0 h h5 h6;subst this;simp [okB,h5,h6,okL]
theorem shT_ok {fr by_:Int}{t:Tm}(d:Int)(h:okB t=true):okB (shT fr by_ t d)=true:=by
 refine zll _ (fun u d hu h5 h6=> ?_) t d h;unfold z4d;split
 · obtain ⟨k,s,n,l⟩:=u;exact okB_leaf hu h5 h6
 · exact hu
end Go.AM

set_option maxRecDepth 100000
open Go Go.Proofs

set_option maxRecDepth 100000
open Go Go.Proofs
namespace Go.AM
mutual
theorem zs7:∀ (t:Tm) (m:Int),0≤z8v t m→(t.sz:Int)≤m-z8v t m
 | .mk _ s _ l,m,h=>by
  simp only [z8v] at h ⊢;have:=zks l (m-1) h;simp only [Tm.sz];omega
theorem zks:∀ (l:List Tm) (m:Int),0≤z98 l m→(Tm.szs l:Int)≤m-z98 l m
 | [],m,h=>by simp [z98,Tm.szs]
 | t::l,m,h=>by
  simp only [z98] at h ⊢;split at h
  · rename_i h0;rw [if_pos h0];have h1:=zks l _ h;have h3:=(zf1 l (z8v t m)).1;have h2:=zs7 t m (by omega);simp only [Tm.szs];omega
  · rename_i h0;exact absurd h h0
end
theorem large_sz {t:Tm}{m:Int}(h:large t m=false):(t.sz:Int)≤m:=by
 have h:=of_decide_eq_false h;have:=zs7 t m (by omega);omega
theorem args1 {a:List FV}{x:Tm}(ha:LeR a (FT x)):TV.Le (.c (.a (.fz (.sl false 4 [a])))) (aL [x]):=le_c (zkn rfl fun i r t hr ht=>by
 match i,hr,ht with
 | 0,hr,ht=>simp only [List.getElem?_cons_zero,Option.some.injEq] at hr ht;subst hr;subst ht;exact ha
 | i+1,hr,_=>simp at hr)
theorem args2 {a b:List FV}{x y:Tm}(ha:LeR a (FT x))(hb:LeR b (FT y)):TV.Le (.c (.a (.fz (.sl false 4 [a,b])))) (aL [x,y]):=le_c (zkn rfl fun i r t hr ht=>by
 match i,hr,ht with
 | 0,hr,ht=>simp only [List.getElem?_cons_zero,Option.some.injEq] at hr ht;subst hr;subst ht;exact ha
 | 1,hr,ht=>simp only [List.getElem?_cons_zero,List.getElem?_cons_succ,Option.some.injEq] at hr ht;subst hr;subst ht;exact hb
 | i+2,hr,_=>simp at hr)
end Go.AM

set_option maxRecDepth 100000
open Go Go.Proofs
namespace Go.AM
mutual
def lvB:Tm→Bool
 | .mk k s n l=>if (k==5||k==6)=true then lvL l else z07 (.mk k s n l)
def lvL:List Tm→Bool
 | []=>true
 | t::l=>lvB t&&lvL l
end
theorem z9b:∀ {l:List Tm} {t:Tm},lvL l=true→t∈l→lvB t=true
 | x::l,t,h,hm=>by
  simp only [lvL,Bool.and_eq_true] at h;rcases List.mem_cons.1 hm with rfl | hm
  · exact h.1
  · exact z9b h.2 hm
theorem zqm:∀ {l:List Tm},(∀ t∈l,lvB t=true)→lvL l=true
 | [],_=>rfl
 | t::l,h=>by simp only [lvL,h t List.mem_cons_self,zqm (l:=l) fun u hu=>h u (List.mem_cons_of_mem _ hu),Bool.and_self]
theorem z4f {k n:Int}{s:List UInt8}{l:List Tm}(hk:k=5∨k=6):lvB (.mk k s n l)=lvL l:=by
 rw [lvB,if_pos (by rcases hk with rfl | rfl<;>rfl)]
theorem ziu {k n:Int}{s:List UInt8}{l:List Tm}(h5:k≠5)(h6:k≠6):lvB (.mk k s n l)=z07 (.mk k s n l):=by
 rw [lvB,if_neg (by simp [h5,h6])]
theorem valid5 {s:List UInt8}{n:Int}{l:List Tm}:z07 (.mk 5 s n l)=(n==0&&s==[]&&decide (l.length=1)&&z2a l):=by
 rw [z07,lenI];simp only [show ((5:Int)==0)=false from rfl,show ((5:Int)==1)=false from rfl,show ((5:Int)==2)=false from rfl,show ((5:Int)==3)=false from rfl,show ((5:Int)==4)=false from rfl,Bool.false_eq_true,if_false,show ((5:Int)==5)=true from rfl,if_true];congr 2;by_cases h:l.length=1
 · rw [h];rfl
 · rw [decide_eq_false h];simp;omega
theorem valid6 {s:List UInt8}{n:Int}{l:List Tm}:z07 (.mk 6 s n l)=(n==0&&decide (2≤l.length)&&((hd l).k !=6)&&s==[]&&z2a l):=by
 rw [z07,lenI];simp only [show ((6:Int)==0)=false from rfl,show ((6:Int)==1)=false from rfl,show ((6:Int)==2)=false from rfl,show ((6:Int)==3)=false from rfl,show ((6:Int)==4)=false from rfl,show ((6:Int)==5)=false from rfl,Bool.false_eq_true,if_false,show ((6:Int)==6)=true from rfl,if_true];congr 4;by_cases h:2≤l.length
 · rw [decide_eq_true h,decide_eq_true (by omega)]
 · rw [decide_eq_false h,decide_eq_false (by omega)]
mutual
theorem z61:∀ t:Tm,z07 t=(okB t&&lvB t)
 | .mk k s n l=>by
  by_cases h5:k=5
  · subst h5;rw [valid5,z4f (.inl rfl),z9a l,okB];cases okL l<;>cases lvL l<;>simp [Bool.and_comm,Bool.and_assoc]
  · by_cases h6:k=6
    · subst h6;rw [valid6,z4f (.inr rfl),z9a l,okB];cases okL l<;>cases lvL l<;>simp [Bool.and_comm,Bool.and_assoc]
    · rw [ziu h5 h6];cases hv:z07 (.mk k s n l) with
      | false=>simp
      | true=>rw [z4c _ hv];rfl
theorem z9a:∀ l:List Tm,z2a l=(okL l&&lvL l)
 | []=>rfl
 | t::l=>by
  rw [z2a,okL,lvL,z61 t,z9a l];cases okB t<;>cases lvB t<;>simp
end
theorem za8 {t:Tm}(h:z07 t=true):lvB t=true:=by rw [z61] at h;simp at h;exact h.2
theorem zb0 {f:Tm}{args:List Tm}(hf:lvB f=true)(ha:lvL args=true):lvB (z08 f args)=true:=by
 match args,ha with
 | [],_=>exact hf
 | a::r,ha=>
  obtain ⟨k,s,n,l⟩:=f;rw [zd0];split
  · rename_i h;have hk:k=6:=by simpa using h.1
    rw [z4f (.inr hk)] at hf;rw [z4f (.inr rfl)]
    exact zqm fun t ht=>by
     rcases List.mem_append.1 ht with ht | ht
     · exact z9b hf ht
     · exact z9b ha ht
  · rw [z4f (.inr rfl)];simp only [lvL,Bool.and_eq_true] at ha ⊢;exact ⟨hf,ha⟩
theorem withF_lv {t:Tm}{o:List Tm}(hk:t.k=5∨t.k=6)(ho:lvL o=true):lvB (z4z t o)=true:=by
 obtain ⟨k,s,n,l⟩:=t;unfold z4z;split
 · rename_i hc
   match o,ho,hc with
   | [],_,hc=>exact absurd hc.2.1 (by simp)
   | x::r,ho,hc=>
    simp only [lvL,Bool.and_eq_true] at ho;exact zb0 ho.1 ho.2
 · exact (z4f hk).trans ho
mutual
theorem zjz (lf:Tm→Int→Tm)(Q:Tm→Int→Prop)(hq:∀ k s n l d,Q (.mk k s n l) d→∀ u∈l,Q u (d+if (k==5)=true then 1 else 0))(h:∀ u d,lvB u=true→Q u d→u.k≠5→u.k≠6→lvB (lf u d)=true):∀ (t:Tm) (d:Int),lvB t=true→Q t d→lvB (z1x lf t d)=true
 | .mk k s n l,d,ho,hQ=>by
  rw [z1x];split
  · rename_i hk;have hk:k=5∨k=6:=by simpa using hk
    rw [z4f hk] at ho;exact withF_lv hk (zlh lf Q hq h l _ ho (hq k s n l d hQ))
  · rename_i hk;exact h _ _ ho hQ (fun e=>hk (by simp [show k=5 from e])) (fun e=>hk (by simp [show k=6 from e]))
theorem zlh (lf:Tm→Int→Tm)(Q:Tm→Int→Prop)(hq:∀ k s n l d,Q (.mk k s n l) d→∀ u∈l,Q u (d+if (k==5)=true then 1 else 0))(h:∀ u d,lvB u=true→Q u d→u.k≠5→u.k≠6→lvB (lf u d)=true):∀ (l:List Tm) (d:Int),lvL l=true→(∀ u∈l,Q u d)→lvL (z1m lf l d)=true
 | [],_,_,_=>rfl
 | t::l,d,ho,hQ=>by
  simp only [lvL,Bool.and_eq_true] at ho;simp only [z1m,lvL,zjz lf Q hq h t d ho.1 (hQ t List.mem_cons_self),zlh lf Q hq h l d ho.2 (fun u hu=>hQ u (List.mem_cons_of_mem _ hu)),Bool.and_self]
end
theorem valid3 {s:List UInt8}{n:Int}{l:List Tm}:z07 (.mk 3 s n l)=true↔0≤n∧n≤4611686018427387904∧s=[]∧l=[]:=by
 rw [z07,lenI];simp only [show ((3:Int)==0)=false from rfl,show ((3:Int)==1)=false from rfl,show ((3:Int)==2)=false from rfl,Bool.false_eq_true,if_false,show ((3:Int)==3)=true from rfl,if_true];simp only [Bool.and_eq_true,decide_eq_true_eq,beq_iff_eq];constructor
 · rintro ⟨⟨⟨⟨h1,h2⟩,h3⟩,h4⟩,_⟩;exact ⟨h1,h2,h3,List.eq_nil_of_length_eq_zero (by omega)⟩
 · rintro ⟨h1,h2,rfl,rfl⟩;exact ⟨⟨⟨⟨h1,h2⟩,rfl⟩,rfl⟩,rfl⟩
end Go.AM

set_option maxRecDepth 100000
open Go Go.Proofs
namespace Go.AM
def lastT (l:List Tm):Tm:=l.getLastD default
def zb2 (b:Tm):Tm:=z08 (hd b.l) b.l.tail.dropLast
def z3r (b:Tm):Bool:=b.k==6&&(lastT b.l).k==3&&(lastT b.l).n==0&&occF (zb2 b) 0==0
def z7r (b:Tm):Tm:=if z3r b=true then shT 0 (-1) (zb2 b) 0 else noT
mutual
def z0d:Tm→Tm
 | .mk k s n l=>if (k==5)=true then (if z3r (hd (z0u l))=true then z7r (hd (z0u l)) else .mk 5 [] 0 [hd (z0u l)]) else if (k==6)=true then z08 (hd (z0u l)) (z0u l).tail else .mk k s n l
def z0u:List Tm→List Tm
 | []=> []
 | t::l=>z0d t::z0u l
end
theorem zhx {k n:Int}{s:List UInt8}{l:List Tm}(h:okB (.mk k s n l)=true)(hk:k=6):∃ x a z,l=x::a++ [z]∧x.k≠6∧okB x=true∧okL a=true∧okB z=true:=by
 obtain ⟨x,y,r,rfl,h6,hl⟩:=okB6 h hk;refine ⟨x,(y::r).dropLast,(y::r).getLast (by simp),by rw [List.cons_append,List.dropLast_concat_getLast],h6,z54 hl List.mem_cons_self,zpq fun u hu=>z54 hl (List.mem_cons_of_mem _ (List.dropLast_subset _ hu)),z54 hl (List.mem_cons_of_mem _ (List.getLast_mem _))⟩
theorem last_app (x:Tm)(a:List Tm)(z:Tm):lastT (x::a++ [z])=z:=by
 rw [lastT,List.getLastD_eq_getLast?,List.getLast?_append];rfl
theorem zaa (k n:Int)(s:List UInt8)(x:Tm)(a:List Tm)(z:Tm):zb2 (.mk k s n (x::a++ [z]))=z08 x a:=by
 rw [zb2];show z08 x ((a++ [z]).dropLast)=_;rw [List.dropLast_concat]
theorem drop6 {b:Tm}(h:z3r b=true):b.k=6:=by
 simp only [z3r,Bool.and_eq_true,beq_iff_eq] at h;exact h.1.1.1
theorem drop0 {b:Tm}(h:z3r b=true):occF (zb2 b) 0=0:=by
 simp only [z3r,Bool.and_eq_true,beq_iff_eq] at h;exact h.2
theorem zkb {b:Tm}(h:okB b=true)(hk:b.k=6):okB (zb2 b)=true∧(lvB b=true→lvB (zb2 b)=true)∧(zb2 b).sz≤b.sz∧∀ M,bd M b→bd M (zb2 b):=by
 obtain ⟨k,s,n,l⟩:=b;have hk':k=6:=hk;obtain ⟨x,a,z,rfl,h6,hx,ha,hz⟩:=zhx h hk';rw [zaa];refine ⟨zaw hx ha,fun hl=> ?_, ?_,fun M hb=> ?_⟩
 · rw [z4f (.inr hk')] at hl;exact zb0 (z9b hl List.mem_cons_self) (zqm fun u hu=>z9b hl (List.mem_cons_of_mem _ (List.mem_append_left _ hu)))
 · have:=z3v x a;simp only [Tm.sz,List.cons_append,Tm.szs,Tm.szs_append];omega
 · exact z83 (z8s hb.2 List.mem_cons_self) (zrf fun u hu=>z8s hb.2 (List.mem_cons_of_mem _ (List.mem_append_left _ hu)))
theorem zl1:∀ {l:List Tm} {i:Int},occL l i=0→∀ u∈l,occF u i=0
 | x::l,i,h,u,hu=>by
  simp only [occL] at h;rcases List.mem_cons.1 hu with rfl | hu
  · omega
  · exact zl1 (l:=l) (by omega) u hu
theorem occ_kids {k n:Int}{s:List UInt8}{l:List Tm}{d:Int}(h:occF (.mk k s n l) d=0):∀ u∈l,occF u (d+if (k==5)=true then 1 else 0)=0:=by
 rw [occF] at h;split at h
 · cases h
 · exact zl1 h
theorem zo1 {t:Tm}(h:lvB t=true)(d:Int)(h0:occF t d=0)(hd:0≤d):lvB (shT 0 (-1) t d)=true:=by
 refine zjz _ (fun u d=>occF u d=0∧0≤d) (fun k s n l d hQ u hu=>⟨occ_kids hQ.1 u hu,by have:=hQ.2;split<;>omega⟩) (fun u d hu hQ h5 h6=> ?_) t d h ⟨h0,hd⟩;unfold z4d;split
 · rename_i hc;obtain ⟨k,s,n,l⟩:=u;have hk:k=3:=by have hc:=hc.1;have hc:(k==3)=true:=hc;simpa using hc
   subst hk;rw [ziu (by decide) (by decide),valid3] at hu
   have h1:n≠d:=fun e=>by
    have:=hQ.1;rw [occF,if_pos ⟨rfl,by simp [e]⟩] at this;cases this
   have h2:d+0≤n:=hc.2;have:=hQ.2;show lvB (.mk 3 s (n+ -1) l)=true;rw [ziu (by decide) (by decide),valid3];exact ⟨by omega,by omega,hu.2.2.1,hu.2.2.2⟩
 · exact hu
theorem zqe {M:Int}(hM:1≤M){t:Tm}(h:bd M t)(d:Int)(hd:0≤d):bd M (shT 0 (-1) t d):=by
 refine zkj _ M M (d+t.sz) (fun u d' hu h0 _=> ?_) t d h hd (Int.le_refl _);unfold z4d;split
 · rename_i hc;obtain ⟨k,s,n,l⟩:=u;exact ⟨fun e=>by have:=hu.1 e;have h2:d'+0≤n:=hc.2;simp only [Tm.n];omega,hu.2⟩
 · exact hu
theorem dropF_ok {b:Tm}(h:okB b=true)(hd:z3r b=true):okB (z7r b)=true∧(lvB b=true→lvB (z7r b)=true)∧(z7r b).sz≤b.sz∧∀ M,1≤M→bd M b→bd M (z7r b):=by
 obtain ⟨h1,h2,h3,h4⟩:=zkb h (drop6 hd);rw [z7r,if_pos hd];exact ⟨shT_ok 0 h1,fun hl=>zo1 (h2 hl) 0 (drop0 hd) (Int.le_refl _),Nat.le_trans (shT_sz ..) h3,fun M hM hb=>zqe hM (h4 M hb) 0 (Int.le_refl _)⟩
mutual
theorem z51:∀ t:Tm,okB t=true→okB (z0d t)=true∧(lvB t=true→lvB (z0d t)=true)∧(z0d t).sz≤t.sz∧∀ M,1≤M→bd M t→bd M (z0d t)
 | .mk k s n l,h=>by
  have hl:=zg3 l (okB_l h);rw [z0d];split
  · rename_i h5;have h5:k=5:=by simpa using h5
    obtain ⟨x,rfl,hx⟩:=okB5 h h5;obtain ⟨g1,g2,g3,g4⟩:=hl;simp only [z0u,okL,lvL,Bool.and_true,Tm.szs] at g1 g2 g3 g4;show okB (if z3r (z0d x)=true then z7r (z0d x) else .mk 5 [] 0 [z0d x])=true∧_
    rw [show hd (z0u [x])=z0d x from rfl];split
    · rename_i hd;obtain ⟨f1,f2,f3,f4⟩:=dropF_ok g1 hd;refine ⟨f1,fun hl=>f2 (g2 ?_),by simp only [Tm.sz,Tm.szs];omega,fun M hM hb=>f4 M hM (g4 M hM hb.2).1⟩;rw [z4f (.inl h5)] at hl;simpa [lvL] using hl
    · refine ⟨by simp [okB,okL,g1],fun hl=> ?_,by simp only [Tm.sz,Tm.szs];omega,fun M hM hb=>⟨fun e=>by omega,g4 M hM hb.2⟩⟩;rw [z4f (.inl h5)] at hl;rw [z4f (.inl rfl)];simp only [lvL,Bool.and_true] at hl ⊢;exact g2 hl
  · split
    · rename_i h6;have h6:k=6:=by simpa using h6
      obtain ⟨x,y,r,rfl,_,_⟩:=okB6 h h6;obtain ⟨g1,g2,g3,g4⟩:=hl;rw [show hd (z0u (x::y::r))=z0d x from rfl,show (z0u (x::y::r)).tail=z0u (y::r) from rfl];rw [show z0u (x::y::r)=z0d x::z0u (y::r) from rfl] at g1 g2 g3 g4;simp only [okL,Bool.and_eq_true] at g1;refine ⟨zaw g1.1 g1.2,fun hl=> ?_, ?_,fun M hM hb=> ?_⟩
      · rw [z4f (.inr h6)] at hl;have:=g2 hl;simp only [lvL,Bool.and_eq_true] at this;exact zb0 this.1 this.2
      · have:=z3v (z0d x) (z0u (y::r));simp only [Tm.szs] at g3;simp only [Tm.sz,Tm.szs];omega
      · have:=g4 M hM hb.2;exact z83 this.1 this.2
    · exact ⟨h,fun hl=>hl,Nat.le_refl _,fun M _ hb=>hb⟩
theorem zg3:∀ l:List Tm,okL l=true→okL (z0u l)=true∧(lvL l=true→lvL (z0u l)=true)∧Tm.szs (z0u l)≤Tm.szs l∧∀ M,1≤M→bds M l→bds M (z0u l)
 | [],_=>⟨rfl,fun _=>rfl,Nat.le_refl _,fun _ _ _=>trivial⟩
 | t::l,h=>by
  simp only [okL,Bool.and_eq_true] at h;obtain ⟨a1,a2,a3,a4⟩:=z51 t h.1;obtain ⟨b1,b2,b3,b4⟩:=zg3 l h.2;refine ⟨by simp only [z0u,okL,a1,b1,Bool.and_self],fun hl=> ?_,by simp only [z0u,Tm.szs];omega,fun M hM hb=>⟨a4 M hM hb.1,b4 M hM hb.2⟩⟩;simp only [lvL,Bool.and_eq_true] at hl;simp only [z0u,lvL,a2 hl.1,b2 hl.2,Bool.and_self]
end
theorem c_efree (t:Tm)(i:Int)(hs:t.sz≤B)(h0:0-2305843009213693952≤i)(h1:i+t.sz≤2305843009213693952):AC Tryz.prog 255 [aT t,ci i] [] (cb (z07 t&&decide (occF t i>0))) []:=by
 have h:=zop t hs i h0 h1;obtain ⟨k,s,n,l⟩:=t;refine AC.vc hP sh lv255 (Nat.le_refl _) (by simp) (by simp) (Eq.mpr (v255 k s n (FTs l) i _ _) ?_);refine ⟨_,h,z0a ?_⟩;cases z07 (.mk k s n l) with
 | false=>rfl
 | true=>simp
theorem lastI (x:Tm)(a:List Tm)(z:Tm)(hl:a.length≤SZ):IntKind.wrap .i64 ((((FTs (x::a++ [z])).length:Nat):Int)-1)=((x::a).length:Int):=by
 rw [z00];simp only [SZ] at hl;rw [w64 (by simp;omega) (by simp;omega)];simp
theorem zfu:∀ (b a acc:List Tm),acc ≠ []→acc.length=a.length→(∀ u∈b,AC Tryz.prog 130 [aT u] [] (aT (z0d u)) [])→(a++b).length≤SZ→(hd (acc++z0u b)).l.length≤B→
  RPt Tryz.prog 130 0 (aT (z08 (hd (acc++z0u b)) (acc++z0u b).tail)) [] 3 ⟨[(2, .c (.a (.ep 0 4 0 0))),(6, .c (.a (.osl 1 4 0 acc.length))),(30,aL (a++b)),(31,ci (((FTs (a++b)).length:Nat):Int)),(32,ci a.length)],[(0, .arr 4 [zT]),(1, .arz 4 (FTs acc))],2⟩
 | [],a,acc,hne,hlen,_,hl,hh=>by
  simp only [z0u,List.append_nil] at hh hl ⊢;refine RPt.vc hP sh ziz (Eq.mpr (zpr ..) ?_)
  match acc,hne,hlen,hh with
  | x::r,_,hlen,hh=>
   simp only [SZ,B,List.length_cons] at hl hlen hh;have hh:x.l.length≤549755813888:=hh;have hap:=z3x x r (by omega)
   have e2:List.take (Int.toNat ((x::r).length:Int)-1) (List.drop 1 (FTs (x::r)))=FTs r:=by
    rw [zbt,zk6,List.take_of_length_le (by rw [z00];simp)];rfl
   have e1:aE (List.getD (FTs (x::r)) 0 [])=aT x:=z4n x;rw [e2,e1];refine z01 (fun h=>absurd (of_decide_eq_true h) (by rw [z00];omega)) (fun _=>⟨⟨by omega,by simp⟩,⟨by rw [z00];simp, ?_,rfl⟩,⟨by omega,by simp;omega,Int.le_refl _⟩,⟨rfl,by rw [zbt,z00];simp;omega⟩,_,hap.args ⟨.refl _,le_c leSl,trivial⟩,zh (.refl _)⟩);rw [show List.getD (FTs (x::r)) 0 []=FT x from rfl,z4j,List.drop_zero,List.take_of_length_le (by rw [z8f];exact Nat.le_refl _)]
 | t::b,a,acc,hne,hlen,ih,hl,hh=>by
  have hl':=hl;simp only [List.length_append,List.length_cons,SZ] at hl';have h1:=ih t List.mem_cons_self;have h2:=zfu b (a++ [t]) (acc++ [z0d t]) (by simp) (by simp [hlen]) (fun u hu=>ih u (List.mem_cons_of_mem _ hu)) (by rw [ap];exact hl) (by rw [ap];exact hh);have h3:=ltI' a t b;rw [ap,ap,nx] at h2;rw [z0u];refine RPt.vc hP sh ziz (Eq.mpr (zpr ..) ?_);rw [zgb,w64 (x:=(a.length:Int)+1) (by omega) (by omega)];refine z01 (fun _=>⟨⟨rfl,by omega,h3,zd5 ..⟩,z0d t,h1,Nat.le_refl _,⟨by rw [z00];omega,z56 (by omega)⟩, ?_⟩) (fun h=>absurd h3 (of_decide_eq_false h));have e5:List.take acc.length (FTs acc)++ [FT4 (z0d t)]=FTs (acc++ [z0d t]):=by rw [List.take_of_length_le (by rw [z00];omega),z4x,z24];rfl
  rw [e5];rw [List.length_append] at h2;exact h2
end Go.AM

set_option maxRecDepth 100000
open Go Go.Proofs
namespace Go.AM
abbrev M62:Int:=4611686018427387904
theorem zpv (fr by_ d:Int)(u:Tm)(hb:u.k=3→0-M62≤u.n∧u.n≤M62)(hd0:0≤d)(hd1:d≤M61)(hf0:0≤fr)(hf1:fr≤M61)(hb0:0-1≤by_)(hb1:by_≤M61):
  AC Tryz.prog 302 [aT u,ci d, .c (.a (.ep 0 1 0 0)), .c (.a (.ep 1 1 0 0))] [obj1 fr,obj1 by_] (aT (z4d fr by_ u d)) [obj1 fr,obj1 by_]:=by
 obtain ⟨k,s,n,l⟩:=u;simp only [M62,M61,Tm.k,Tm.n] at*;refine AC.vc hP sh lv302 (Nat.le_refl _) (by simp [isLive]) (by simp) (Eq.mpr (v302 k s n (FTs l) d fr by_ _ _) ?_);rw [w64 (by omega) (by omega)];refine z01 (fun h=>z01 (fun h2=> ?_) (fun h2=> ?_)) (fun h=> ?_)
 · have hk:k=3:=by simpa using h
   have h3:d+fr≤n:=of_decide_eq_true h2;have:=hb hk;have e:z4d fr by_ (.mk k s n l) d= .mk k s (n+by_) l:=if_pos ⟨h,h3⟩;rw [e];exact ⟨_,c_moved (.mk k s n l) by_ (by simp only [Tm.n];omega) (by simp only [Tm.n];omega), .refl _,rfl⟩
 · have h3:¬d+fr≤n:=of_decide_eq_false h2;have e:z4d fr by_ (.mk k s n l) d= .mk k s n l:=if_neg fun e=>h3 e.2;rw [e];exact ⟨.refl _,rfl⟩
 · have e:z4d fr by_ (.mk k s n l) d= .mk k s n l:=if_neg fun e=>by have:=e.1;rw [show Tm.k (.mk k s n l)=k from rfl,h] at this;cases this
   rw [e];exact ⟨.refl _,rfl⟩
theorem c_shiftW (t:Tm)(fr by_:Int)(hs:t.sz≤B)(hb:bd M62 t)(hf0:0≤fr)(hf1:fr≤M61)(hb0:0-1≤by_)(hb1:by_≤M61):
  AC Tryz.prog 256 [aT t,ci fr,ci by_] [] (aT (shT fr by_ t 0)) []:=by
 have h:=c_wSh fr by_ (z4d fr by_) (fun u _=>bd M62 u∧u.sz≤B) (fun kd s n l d hq hk u hu=>⟨z8s hq.1.2 hu,by have:=Tm.szs_mem hu;have:=hq.2;simp only [Tm.sz] at this;omega⟩)
  (fun u d hk hq h0 h1=>zpv fr by_ d u (by obtain ⟨k,s,n,l⟩:=u;exact hq.1.1) h0 h1 hf0 hf1 hb0 hb1)
  (fun u d hq=>by have:=shT_sz fr by_ u d;have h1:=(shT fr by_ u d).sz_eq;have:=Tm.szs_length (shT fr by_ u d).l;have:=hq.2;show (shT fr by_ u d).l.length≤_;omega)
  t hs 0 ⟨hb,hs⟩ (Int.le_refl _) (by simp only [B] at hs;omega)
 obtain ⟨k,s,n,l⟩:=t;refine AC.vc hP sh lv256 (Nat.le_refl _) (by simp) (by simp) (Eq.mpr (v256 k s n (FTs l) fr by_ _ _) ?_);exact ⟨_,h, .refl _,rfl⟩
theorem c_edropW (b:Tm)(ho:okB b=true)(hl:lvB b=true)(hs:b.sz≤SZ)(hb:bd M62 b):AC Tryz.prog 197 [aT b] [] (.tup [(true,cT (z7r b)),(false,[.a (.fz (.bool (z3r b)))])]) []:=by
 have no:z3r b=false→z7r b=noT:=fun h=>if_neg (by rw [h];simp);obtain ⟨k,s,n,l⟩:=b;have hlen:=Tm.szs_length l;simp only [Tm.sz,SZ] at hs;refine AC.vc hP sh lv197 (Nat.le_refl _) (by simp) (by simp) (Eq.mpr (v197 k s n (FTs l) _ _) ?_);refine ⟨rfl,z01 (fun h=> ?_) (fun h=> ?_)⟩
 · have hd:z3r (.mk k s n l)=false:=by
    have h:(k !=6)=true:=h;rw [z3r,show (Tm.k (.mk k s n l)==6)=false by show (k==6)=false;simpa using h];rfl
   rw [no hd,hd];exact ⟨leTB (l:=[]) z2s,rfl⟩
 · have h6:k=6:=by simpa using h
   subst h6;obtain ⟨x,a,z,rfl,hx6,hx,ha,hz⟩:=zhx ho rfl;obtain ⟨r1,r2,r3,r4⟩:=zkb ho rfl
   have hd:z3r (.mk 6 s n (x::a++ [z]))=(z.k==3&&z.n==0&&occF (z08 x a) 0==0):=by
    rw [z3r,zaa,show Tm.l (.mk 6 s n (x::a++ [z]))=x::a++ [z] from rfl,last_app];rfl
   have hdF:z3r (.mk 6 s n (x::a++ [z]))=true→z7r (.mk 6 s n (x::a++ [z]))=shT 0 (-1) (z08 x a) 0:=fun h=>by rw [z7r,if_pos h,zaa]
   rw [zaa] at r1 r2 r3 r4;have hal:a.length≤130000000:=by rw [List.length_append,List.length_cons] at hlen;omega
   rw [lastI x a z hal];have el:FV.L 4 (.sl false 4 (FTs (x::a++ [z])))=true∧((0:Int)≤((x::a).length:Int)∧(((x::a).length:Int)<(((FTs (x::a++ [z])).length:Nat):Int)∧(rE (List.getD (FTs (x::a++ [z])) (Int.toNat ((x::a).length:Int)) []):List FV)=List.getD (FTs (x::a++ [z])) (Int.toNat ((x::a).length:Int)) [])):=⟨rfl,by omega,ltI' (x::a) z [],zd5 (x::a) z []⟩;have ez:List.getD (FTs (x::a++ [z])) (Int.toNat ((x::a).length:Int)) []=FT z:=midI (x::a) z [];have ek:FV.I (List.getD (List.getD (FTs (x::a++ [z])) (Int.toNat ((x::a).length:Int)) []) 0 FV.N)=z.k:=by rw [ez];cases z;rfl
   have en:FV.I (List.getD (List.getD (FTs (x::a++ [z])) (Int.toNat ((x::a).length:Int)) []) 2 FV.N)=z.n:=by rw [ez];cases z;rfl
   rw [ek,en];refine ⟨el,z01 (fun h1=> ?_) (fun h1=>⟨el,z01 (fun h2=> ?_) (fun h2=>⟨el0 x (a++ [z]),rfl,⟨by omega,by simp only [List.length_cons];omega,by rw [lenI,List.length_append];omega⟩, ?_⟩)⟩)⟩
   · have hd':z3r (.mk 6 s n (x::a++ [z]))=false:=by
      have h1:(z.k !=3)=true:=h1;rw [hd,show (z.k==3)=false by simpa using h1];rfl
     rw [no hd',hd'];exact ⟨leTB (l:=[]) z2s,rfl⟩
   · have hd':z3r (.mk 6 s n (x::a++ [z]))=false:=by
      have h2:(z.n !=0)=true:=h2;rw [hd,show (z.n==0)=false by simpa using h2];simp
     rw [no hd',hd'];exact ⟨leTB (l:=[]) z2s,rfl⟩
   · have e1:aE (List.getD (FTs (x::a++ [z])) 0 [])=aT x:=z4n x
     have e2:List.drop 1 (List.take (Int.toNat ((x::a).length:Int)) (FTs (x::a++ [z])))=FTs a:=by
      rw [zbt,FTs_take,zk6,List.take_left];rfl
     rw [e1,e2];have hxs:x.l.length≤x.sz:=by have:=x.sz_eq;have:=Tm.szs_length x.l;omega
     have hxz:x.sz≤130000000:=by simp only [List.cons_append,Tm.szs] at hs;omega
     have hap:=z3x x a (by omega);have hrz:(z08 x a).sz≤SZ:=by simp only [Tm.sz] at r3;simp only [SZ];omega
     have hfr:=c_efree (z08 x a) 0 (by simp only [SZ,B] at*;omega) (by omega) (by simp only [SZ] at hrz;omega);have hva:z07 (z08 x a)=true:=by rw [z61,r1,r2 hl];rfl
     rw [hva,Bool.true_and] at hfr;have hsh:=c_shiftW (z08 x a) 0 (-1) (by simp only [SZ,B] at*;omega) (r4 _ hb) (Int.le_refl _) (by simp only [M61];omega) (by omega) (by simp only [M61];omega)
     have hz3:(z.k==3)=true:=by
      have h1:(z.k !=3)=false:=h1;simpa using h1
     have hz0:(z.n==0)=true:=by
      have h2:(z.n !=0)=false:=h2;simpa using h2
     refine ⟨_,hap,_,hfr,z01 (fun h3=> ?_) (fun h3=> ?_)⟩
     · have hd':z3r (.mk 6 s n (x::a++ [z]))=false:=by
        have h3:=of_decide_eq_true h3;rw [hd,show (occF (z08 x a) 0==0)=false by simp;omega,Bool.and_false]
       rw [no hd',hd'];exact ⟨leTB (l:=[]) z2s,rfl⟩
     · have hd':z3r (.mk 6 s n (x::a++ [z]))=true:=by
        have h3:=of_decide_eq_false h3;rw [hd,hz3,hz0,show (occF (z08 x a) 0==0)=true by simp;omega];rfl
       rw [hdF hd',hd'];exact ⟨_,hsh, .refl _,rfl⟩
theorem zhp:∀ t:Tm,okB t=true→lvB t=true→t.sz≤SZ→bd M62 t→AC Tryz.prog 130 [aT t] [] (aT (z0d t)) []:=by
 refine Tm.ind fun t ih ho hl hs hb=> ?_;have hlen:=Tm.szs_length t.l;have hol:=okB_l ho;obtain ⟨k,s,n,l⟩:=t;simp only [Tm.sz,Tm.l,SZ] at hs hlen hol;refine AC.vc hP sh ziz (Nat.le_refl _) (by simp) (by simp) (Eq.mpr (v130 k s n (FTs l) _ _) ?_);refine z01 (fun h=> ?_) (fun h=>z01 (fun h'=>⟨rfl, ?_⟩) (fun h'=> ?_))
 · have h5:k=5:=by simpa using h
   subst h5;obtain ⟨x,rfl,hx⟩:=okB5 ho rfl;rw [z4f (.inl rfl)] at hl;have hlx:lvB x=true:=by simpa [lvL] using hl
   simp only [Tm.szs] at hs;obtain ⟨g1,g2,g3,g4⟩:=z51 x hx;have h1:=ih x (List.mem_singleton.2 rfl) hx hlx (by simp only [SZ];omega) hb.2.1;have h2:=c_edropW (z0d x) g1 (g2 hlx) (by simp only [SZ];omega) (g4 _ (by simp only [M62];omega) hb.2.1);have h3:=zc 1 (z0d x) (by omega);have e:z0d (.mk 5 s n [x])=if z3r (z0d x)=true then z7r (z0d x) else .mk 5 [] 0 [z0d x]:=by rw [z0d,if_pos (show ((5:Int)==5)=true from rfl)];rfl
   rw [show aE (List.getD (FTs [x]) 0 [])=aT x from z4n x,e];refine ⟨el0 x [],_,h1,(z7r (z0d x),z3r (z0d x)),h2,z01 (fun hd=> ?_) (fun hd=>⟨_,h3, ?_⟩)⟩
   · have hd:z3r (z0d x)=true:=hd;rw [if_pos hd];exact ⟨.refl _,rfl⟩
   · rw [if_neg (by rw [show z3r (z0d x)=false from hd];simp)];exact ⟨.refl _,rfl⟩
 · have h6:k=6:=by simpa using h'
   subst h6;obtain ⟨x,y,r,rfl,hx6,_⟩:=okB6 ho rfl;rw [z4f (.inr rfl)] at hl;have ihl:∀ u∈x::y::r,AC Tryz.prog 130 [aT u] [] (aT (z0d u)) []:=fun u hu=>ih u hu (z54 hol hu) (z9b hl hu) (by have:=Tm.szs_mem hu;simp only [SZ];omega) (z8s hb.2 hu);have hx:=(z51 x (z54 hol List.mem_cons_self)).2.2.1
   have hxl:(z0d x).l.length≤B:=by
    have h1:=(z0d x).sz_eq;have h2:=Tm.szs_length (z0d x).l;simp only [Tm.szs] at hs;simp only [B];omega
   have loop:=zfu (y::r) [x] [z0d x] (by simp) rfl (fun u hu=>ihl u (List.mem_cons_of_mem _ hu)) (show (x::y::r).length≤SZ by simp only [SZ];omega) hxl;have h1:=ihl x List.mem_cons_self;have h3:=ltI' [] x (y::r);refine RPt.vc hP sh ziz (Eq.mpr (v130_3a ..) ?_);rw [show aE (List.getD (FTs (x::y::r)) (Int.toNat 0) [])=aT x from z4n x,w64 (by omega) (by omega)];refine z01 (fun _=>⟨⟨rfl,by omega,h3,z4j x⟩,z0d x,h1,Nat.le_refl _,z56 (by omega), ?_⟩) (fun h=>absurd h3 (of_decide_eq_false h));rw [z4x];exact loop
 · have h:(k==5)=false:=h;have h':(k==6)=false:=h';rw [z0d,if_neg (by rw [h];simp),if_neg (by rw [h'];simp)];exact ⟨.refl _,rfl⟩
theorem zdb:∀ t:Tm,z07 t=true→bd M62 t:=by
 refine Tm.ind fun t ih=> ?_;intro hv;obtain ⟨k,s,n,l⟩:=t
 have kids:z2a l=true→bds M62 l:=fun h=>by
  have key:∀ (l':List Tm),(∀ u∈l',u∈l)→z2a l'=true→bds M62 l':=by
   intro l'
   induction l' with
   | nil=>intro _ _;trivial
   | cons u l' ih2=>
    intro hm h;rw [z2a,Bool.and_eq_true] at h;exact ⟨ih u (hm u List.mem_cons_self) h.1,ih2 (fun w hw=>hm w (List.mem_cons_of_mem _ hw)) h.2⟩
  exact key l (fun u hu=>hu) h
 rw [z07] at hv;have nil:(((FTs l).length:Nat):Int)=0→l=[]:=fun h=>List.eq_nil_of_length_eq_zero (by rw [z00] at h;omega);show (k=3→0-M62≤n∧n≤M62)∧bds M62 l;split at hv
 · rename_i h;have h:k=0:=by simpa using h
   simp only [Bool.and_eq_true,beq_iff_eq] at hv;rw [nil hv.2];exact ⟨fun e=>by omega,trivial⟩
 · split at hv
   · rename_i h;have h:k=1:=by simpa using h
     simp only [Bool.and_eq_true] at hv;exact ⟨fun e=>by omega,kids hv.2⟩
   · split at hv
     · rename_i h;have h:k=2:=by simpa using h
       simp only [Bool.and_eq_true] at hv;exact ⟨fun e=>by omega,kids hv.2⟩
     · split at hv
       · simp only [Bool.and_eq_true,decide_eq_true_eq] at hv;exact ⟨fun _=>⟨by simp only [M62];omega,hv.1.1.1.2⟩,kids hv.2⟩
       · rename_i h3;split at hv
         · simp only [Bool.and_eq_true] at hv;exact ⟨fun e=>by rw [e] at h3;exact absurd rfl h3,kids hv.2⟩
         · split at hv
           · simp only [Bool.and_eq_true] at hv;exact ⟨fun e=>by rw [e] at h3;exact absurd rfl h3,kids hv.2⟩
           · split at hv
             · simp only [Bool.and_eq_true] at hv;exact ⟨fun e=>by rw [e] at h3;exact absurd rfl h3,kids hv.2⟩
             · cases hv
theorem zsd (t:Tm)(hs:t.sz≤SZ):AC Tryz.prog 73 [aT t] [] (aT (if z07 t=true then z0d t else t)) []:=by
 have h1:=z8q t (by simp only [SZ,B] at*;omega);have h2:=fun h=>zhp t (z4c t h) (za8 h) hs (zdb t h);obtain ⟨k,s,n,l⟩:=t;refine AC.vc hP sh lv73 (Nat.le_refl _) (by simp) (by simp) (Eq.mpr (v73 k s n (FTs l) _ _) ?_);refine ⟨_,h1,z01 (fun h=> ?_) (fun h=> ?_)⟩
 · rw [if_neg (by rw [not_t h];simp)];exact ⟨.refl _,rfl⟩
 · rw [if_pos (zma h)];exact ⟨_,h2 (zma h), .refl _,rfl⟩
end Go.AM

set_option maxRecDepth 100000
open Go Go.Proofs
namespace Go.AM
theorem zca:∀ {xs ys:List (Bool×List FV)},All2 (fun p q=>p.1=q.1∧LeR p.2 q.2) xs ys→TV.Le (.tup (xs.map fun p=>(p.1,fzs p.2))) (.tup (ys.map fun p=>(p.1,fzs p.2))):=fun {xs ys} h=>by
 have key:∀ (xs ys:List (Bool×List FV)),All2 (fun p q=>p.1=q.1∧LeR p.2 q.2) xs ys→xs.length=ys.length∧∀ (i:Nat) (p q:Bool×List FV),xs[i]? =some p→ys[i]? =some q→p.1=q.1∧LeR p.2 q.2:=by
  intro xs
  induction xs with
  | nil=>intro ys h;cases ys with
   | nil=>exact ⟨rfl,fun i p q hp=>by simp at hp⟩
   | cons=>exact h.elim
  | cons x xs ih=>intro ys h;cases ys with
   | nil=>exact h.elim
   | cons y ys=>
    obtain ⟨h1,h2⟩:=ih ys h.2;refine ⟨by simp [h1],fun i p q hp hq=> ?_⟩;cases i with
    | zero=>simp at hp hq;subst hp;subst hq;exact h.1
    | succ i=>exact h2 i p q (by simpa using hp) (by simpa using hq)
 obtain ⟨h1,h2⟩:=key xs ys h;refine .tup _ _ (by simp [h1]) fun i p q hp hq=> ?_;rw [List.getElem?_map] at hp hq;obtain ⟨p',hp',rfl⟩:=Option.map_eq_some_iff.1 hp;obtain ⟨q',hq',rfl⟩:=Option.map_eq_some_iff.1 hq;obtain ⟨e1,e2⟩:=h2 i p' q' hp' hq';refine ⟨e1,by simp [fzs,e2.length],fun j x y hx hy=> ?_⟩;dsimp only at hx hy;rw [fzs,List.getElem?_map] at hx hy;obtain ⟨x',hx',rfl⟩:=Option.map_eq_some_iff.1 hx;obtain ⟨y',hy',rfl⟩:=Option.map_eq_some_iff.1 hy;exact .a _ _ (.fz _ _ (e2.get j x' y' hx' hy'))
def z2e (s:Hp)(a f:Int):((Int×List Int)×Int×Int)×Hp:=
 (if (z0l (2*f.toNat+2) ⟨s,f,0⟩ a).2.e≠0 then ((0,[]),0,(z0l (2*f.toNat+2) ⟨s,f,0⟩ a).2.e) else ((z0l (2*f.toNat+2) ⟨s,f,0⟩ a).1,(z0l (2*f.toNat+2) ⟨s,f,0⟩ a).2.f,0),(z0l (2*f.toNat+2) ⟨s,f,0⟩ a).2.s)
abbrev tHd (x:(Int×List Int)×Int×Int):TV:= .tup [(true,[.a (.fz (.int .i64 x.1.1)), .a (.fz (.sl false 1 (IR x.1.2)))]),(false,[.a (.fz (.int .i64 x.2.1))]),(false,[.a (.fz (.int .i64 x.2.2))])]
theorem c_pHead (s:Hp)(a f:Int)(h:OkH s)(f0:0-4611686018427387904≤f)(f1:f≤100000000):AC Tryz.prog 243 [aH 0,ci a,ci f] (oH s) (tHd (z2e s a f).1) (oH' (z2e s a f).2):=by
 have ok:OkR ⟨s,f,0⟩:=⟨h,f0,by dsimp only;omega⟩;have hh:=zqv (2*f.toNat+2) ⟨s,f,0⟩ a ok (Nat.le_refl _) (by dsimp only;omega);unfold z2e;generalize z0l (2*f.toNat+2) ⟨s,f,0⟩ a=z at*;obtain ⟨⟨hd,xs⟩,⟨zs,zf,ze⟩⟩:=z;refine AC.vc hP sh lv243 (by simp) (by simp [isLive]) (by simp [isLive]) (Eq.mpr (v243 ..) ?_);refine ⟨(hd,xs,⟨zs,zf,ze⟩),hh,z0j (fun q=> ?_) (fun q=> ?_)⟩
 · dsimp only at q ⊢;rw [if_pos q];exact ⟨zca (xs:=[(true,[.int .i64 0, .N]),(false,[.int .i64 0]),(false,[.int .i64 ze])]) (ys:=[(true,[.int .i64 0, .sl false 1 (IR [])]),(false,[.int .i64 0]),(false,[.int .i64 ze])]) ⟨⟨rfl, .refl _, .N 1,trivial⟩,⟨rfl, .refl _⟩,⟨rfl, .refl _⟩,trivial⟩,rfl⟩
 · dsimp only at q ⊢;rw [if_neg (fun w=>w q)];exact ⟨.refl _,rfl⟩
def z1e (s:Hp)(a f:Int):(Tm×Int×Int)×Hp:=
 (if (fulR (2*f.toNat+2) (f.toNat+1) ⟨s,f,0⟩ a).2.e≠0 then (t0,0,(fulR (2*f.toNat+2) (f.toNat+1) ⟨s,f,0⟩ a).2.e)
  else (if z07 (fulR (2*f.toNat+2) (f.toNat+1) ⟨s,f,0⟩ a).1=true then z0d (fulR (2*f.toNat+2) (f.toNat+1) ⟨s,f,0⟩ a).1 else (fulR (2*f.toNat+2) (f.toNat+1) ⟨s,f,0⟩ a).1,(fulR (2*f.toNat+2) (f.toNat+1) ⟨s,f,0⟩ a).2.f,0),(fulR (2*f.toNat+2) (f.toNat+1) ⟨s,f,0⟩ a).2.s)
abbrev tFu (x:Tm×Int×Int):TV:= .tup [(true,cT x.1),(false,[.a (.fz (.int .i64 x.2.1))]),(false,[.a (.fz (.int .i64 x.2.2))])]
theorem zj5 (s:Hp)(a f:Int)(h:OkH s)(f0:0-4611686018427387904≤f)(f1:f≤40000000):AC Tryz.prog 21 [aH 0,ci a,ci f] (oH s) (tFu (z1e s a f).1) (oH' (z1e s a f).2):=by
 have ok:OkR ⟨s,f,0⟩:=⟨h,f0,by dsimp only;omega⟩;have hh:=zqf (2*f.toNat+2) (f.toNat+1) f (Nat.le_refl _) (by omega) (by omega) ⟨s,f,0⟩ a ok (Int.le_refl _);have hg:=zc3 (2*f.toNat+2) (f.toNat+1) f (Nat.le_refl _) (by omega) ⟨s,f,0⟩ a ok (Int.le_refl _);unfold z1e;generalize fulR (2*f.toNat+2) (f.toNat+1) ⟨s,f,0⟩ a=z at*;obtain ⟨t,⟨zs,zf,ze⟩⟩:=z;have hs:=zsd t (by have:=hg.2.2;simp only [SZ];dsimp only at this;omega);refine AC.vc hP sh lv21 (by simp) (by simp [isLive]) (by simp [isLive]) (Eq.mpr (v21 ..) ?_);refine ⟨(t,⟨zs,zf,ze⟩),hh,z0j (fun q=> ?_) (fun q=> ?_)⟩
 · dsimp only at q ⊢;rw [if_pos q];exact ⟨zca (xs:=[(true,[.int .i64 0, .str [], .int .i64 0, .N]),(false,[.int .i64 0]),(false,[.int .i64 ze])]) (ys:=[(true,[.int .i64 0, .str [], .int .i64 0, .sl false 4 (FTs [])]),(false,[.int .i64 0]),(false,[.int .i64 ze])]) ⟨⟨rfl, .refl _, .refl _, .refl _, .N 4,trivial⟩,⟨rfl, .refl _⟩,⟨rfl, .refl _⟩,trivial⟩,rfl⟩
 · dsimp only at q ⊢;rw [if_neg (fun w=>w q)];exact ⟨_,hs, .refl _,rfl⟩
def z1p (s:Hp)(a u:Int):(Int×Int)×Hp:=
 if inC s.C a=false∨9≤(cellOf s.C a).t∨u<0 then ((0,1),s)
 else (if (z3m ⟨s,0,0⟩ a u).2.e≠0 then (0,(z3m ⟨s,0,0⟩ a u).2.e) else ((z3m ⟨s,0,0⟩ a u).1,0),(z3m ⟨s,0,0⟩ a u).2.s)
theorem c_pLift (s:Hp)(a u:Int)(h:OkH s):AC Tryz.prog 293 [aH 0,ci a,ci u] (oH s) (t2 (z1p s a u).1) (oH' (z1p s a u).2):=by
 have ok:OkR ⟨s,0,0⟩:=⟨h,by dsimp only;omega,by dsimp only;omega⟩;have c1:=z41 s a;have hb:=zp6 ⟨s,0,0⟩ a u ok
 have e0:z1p s a u=if inC s.C a=false∨9≤(cellOf s.C a).t∨u<0 then ((0,1),s)
  else (if (z3m ⟨s,0,0⟩ a u).2.e≠0 then (0,(z3m ⟨s,0,0⟩ a u).2.e) else ((z3m ⟨s,0,0⟩ a u).1,0),(z3m ⟨s,0,0⟩ a u).2.s):=rfl
 generalize z3m ⟨s,0,0⟩ a u=z at*;obtain ⟨zr,⟨zs,zf,ze⟩⟩:=z;dsimp only at e0 hb;refine AC.vc hP sh lv293 (by simp) (by simp [isLive]) (by simp [isLive]) (Eq.mpr (v293 ..) ?_);refine ⟨_,_,_,_,_,_,c1,z01 (fun q=> ?_) (fun q=>z01 (fun q2=> ?_) (fun q2=>z01 (fun q3=> ?_) (fun q3=>⟨(zr,⟨zs,zf,ze⟩),hb,z0j (fun q5=> ?_) (fun q5=> ?_)⟩)))⟩
 · rw [if_pos (.inl (by simpa using q))] at e0;rw [e0];exact ⟨.refl _,rfl⟩
 · rw [if_pos (.inr (.inl (of_decide_eq_true q2)))] at e0;rw [e0];exact ⟨.refl _,rfl⟩
 · rw [if_pos (.inr (.inr (of_decide_eq_true q3)))] at e0;rw [e0];exact ⟨.refl _,rfl⟩
 all_goals
  have no:¬(inC s.C a=false∨9≤(cellOf s.C a).t∨u<0):=by
   rintro (w | w | w)
   · rw [w] at q;exact absurd q (by decide)
   · exact absurd w (of_decide_eq_false q2)
   · exact absurd w (of_decide_eq_false q3)
  rw [if_neg no] at e0
 · rw [if_pos q5] at e0;rw [e0];exact ⟨.refl _,rfl⟩
 · rw [if_neg (fun w=>w q5)] at e0;rw [e0];exact ⟨.refl _,rfl⟩
theorem headS_ok (s:Hp)(a f:Int)(h:OkH s)(f0:0≤f)(f1:f≤100000000):OkH (z2e s a f).2∧((z2e s a f).1.2.2=0∨(z2e s a f).1.2.1=0)∧(z2e s a f).1.2.1≤f:=by
 have ok:OkR ⟨s,f,0⟩:=⟨h,by dsimp only;omega,by dsimp only;omega⟩;have o:=OkR.head (2*f.toNat+2) a ok;have g:=zcz (2*f.toNat+2) ⟨s,f,0⟩ a (Nat.le_refl _);unfold z2e;split
 · exact ⟨o.h, .inr rfl,f0⟩
 · exact ⟨o.h, .inl rfl,g.1⟩
end Go.AM

set_option maxRecDepth 100000
open Go Go.Proofs
namespace Go.AM
inductive Mv (b:Bool):Hp→Hp→Prop
 | refl (s:Hp):Mv b s s
 | put {s t:Hp} (c:Cel):Mv b s t→Mv b s (putS t c).2
 | set {s t:Hp} (a:Int) (c:Cel):Mv b s t→Mv b s (setS t a c).2
 | names {s t:Hp} (e:List (List UInt8)):b=true→Mv b s t→Mv b s { t with N:=t.N++e }
theorem Mv.trans {b:Bool}{s t u:Hp}(h:Mv b s t)(g:Mv b t u):Mv b s u:=by
 induction g with
 | refl=>exact h
 | put c _ ih=>exact ih.put c
 | set a c _ ih=>exact ih.set a c
 | names e hb _ ih=>exact ih.names e hb
theorem Mv.up {b:Bool}{s t:Hp}(h:Mv false s t):Mv b s t:=by
 induction h with
 | refl=>exact .refl _
 | put c _ ih=>exact ih.put c
 | set a c _ ih=>exact ih.set a c
 | names e hb _ ih=>cases hb
theorem Mv.ok {b:Bool}{s t:Hp}(h:Mv b s t)(g:OkH s):OkH t:=by
 induction h with
 | refl=>exact g
 | put c _ ih=>exact ih.put c
 | set a c _ ih=>exact ih.set a c
 | names e _ _ ih=>exact ⟨ih.C,ih.M,ih.T,ih.L⟩
theorem zkk (s:Hp)(c:Cel):(putS s c).2.N=s.N∧(putS s c).2.M=s.M∧(putS s c).2.L=s.L∧s.C.length≤(putS s c).2.C.length∧(putS s c).2.T=s.T:=by
 unfold putS;split
 · exact ⟨rfl,rfl,rfl,Nat.le_refl _,rfl⟩
 · split
   · exact ⟨rfl,rfl,rfl,Nat.le_refl _,rfl⟩
   · exact ⟨rfl,rfl,rfl,by simp,rfl⟩
theorem zl4 (s:Hp)(a:Int)(c:Cel):(setS s a c).2.N=s.N∧(setS s a c).2.M=s.M∧(setS s a c).2.L=s.L∧s.C.length≤(setS s a c).2.C.length:=by
 unfold setS;split
 · exact ⟨rfl,rfl,rfl,Nat.le_refl _⟩
 · split
   · exact ⟨rfl,rfl,rfl,Nat.le_refl _⟩
   · split
     · exact ⟨rfl,rfl,rfl,Nat.le_refl _⟩
     · split
       · exact ⟨rfl,rfl,rfl,Nat.le_refl _⟩
       · exact ⟨rfl,rfl,rfl,by simp⟩
theorem Mv.len {b:Bool}{s t:Hp}(h:Mv b s t):s.C.length≤t.C.length∧t.M=s.M∧t.L=s.L:=by
 induction h with
 | refl=>exact ⟨Nat.le_refl _,rfl,rfl⟩
 | put c _ ih=>have:=zkk ‹Hp› c;exact ⟨Nat.le_trans ih.1 this.2.2.2.1,by rw [this.2.1];exact ih.2.1,by rw [this.2.2.1];exact ih.2.2⟩
 | set a c _ ih=>have:=zl4 ‹Hp› a c;exact ⟨Nat.le_trans ih.1 this.2.2.2,by rw [this.2.1];exact ih.2.1,by rw [this.2.2.1];exact ih.2.2⟩
 | names e _ _ ih=>exact ih
theorem Mv.N {s t:Hp}(h:Mv false s t):t.N=s.N:=by
 induction h with
 | refl=>rfl
 | put c _ ih=>rw [(zkk _ c).1];exact ih
 | set a c _ ih=>rw [(zl4 _ a c).1];exact ih
 | names e hb _ ih=>cases hb
def Mvr (s0:Hp)(r:Rd):Prop:=Mv false s0 r.s∧0≤r.f
variable {s0:Hp}
theorem Mvr.fail {r:Rd}(h:Mvr s0 r)(e:Int):Mvr s0 (z0w r e):=h
theorem Mvr.put {r:Rd}(h:Mvr s0 r)(c:Cel):Mvr s0 (putR r c).2:=by
 unfold putR;split
 · exact ⟨Mv.put c h.1,h.2⟩
 · exact h
theorem Mvr.keep {r:Rd}(h:Mvr s0 r)(a b:Int):Mvr s0 (z0m r a b):=by
 unfold z0m;split
 · exact ⟨Mv.set a _ h.1,h.2⟩
 · exact h
theorem Mvr.less {r:Rd}(h:Mvr s0 r)(h0:¬r.f≤0):Mvr s0 ⟨r.s,r.f-1,r.e⟩:=⟨h.1,by dsimp only;omega⟩
theorem Mvr.visit {r:Rd}(h:Mvr s0 r)(a:Int):Mvr s0 (z02 r a).2:=by
 unfold z02;split
 · exact h.fail 1
 · split
   · exact h.fail 1
   · split
     · exact h.fail 1
     · split
       · exact h.fail 80
       · split
         · exact h
         · rename_i q _;exact h.less q
theorem Mvr.lift {r:Rd}(h:Mvr s0 r)(a u:Int):Mvr s0 (z3m r a u).2:=by
 unfold z3m;split
 · exact h
 · exact (h.put _).put _
theorem Mvr.entry:∀ (n:Nat) {r:Rd} (row j:Int),Mvr s0 r→Mvr s0 (z0p n r row j).2
 | 0,_,_,_,h=>h
 | n+1,r,row,j,h=>by
  rw [z0p];split
  · exact h.fail 1
  · split
    · exact h.fail 1
    · split
      · exact h
      · split
        · exact h
        · split
          · exact h.fail 80
          · rename_i q;exact Mvr.entry n _ _ (h.less q)
theorem Mvr.loose (n:Nat){r:Rd}(h:Mvr s0 r)(s:Cel)(j:Int):Mvr s0 (losR n r s j).2:=by
 have e:=Mvr.entry n s.b j h;unfold losR;split
 · split
   · split
     · exact e.put _
     · exact e.lift _ _
   · exact e.put _
 · exact h.put _
theorem Mvr.lam {r:Rd}(h:Mvr s0 r)(s:Cel)(b:Int):Mvr s0 (lamR r s b).2:=((h.put _).put _).put _
theorem Mvr.app {r:Rd}(h:Mvr s0 r)(s:Cel)(f x:Int):Mvr s0 (appR r s f x).2:=((h.put _).put _).put _
theorem Mvr.level (n:Nat){r:Rd}(h:Mvr s0 r)(c:Cel)(t:Int)(s:Cel):Mvr s0 (z4h n c t r s).2:=by
 unfold z4h;split
 · exact h.loose n s _
 · split
   · exact h.lam s _
   · split
     · exact h.app s _ _
     · exact h
theorem Mvr.spun (n:Nat){v:(Cel×Int)×Rd}(h:Mvr s0 v.2)(s:Cel):Mvr s0 (z5e n v s).2:=by
 unfold z5e;split
 · exact h
 · split
   · exact h
   · exact h.level n _ _ s
mutual
theorem Mvr.open:∀ (n:Nat) {r:Rd} (s:Cel),Mvr s0 r→Mvr s0 (z05 n r s).2
 | 0,_,_,h=>h
 | n+1,r,s,h=>by
  rw [z05];exact Mvr.spun (n+1) (Mvr.spin n (h.visit s.a)) s
theorem Mvr.spin:∀ (n:Nat) {v:(Cel×Int)×Rd},Mvr s0 v.2→Mvr s0 (z2p n v).2
 | 0,_,h=>h
 | n+1,v,h=>by
  rw [z2p];split
  · exact Mvr.spin n (((Mvr.open n v.1.1 h).keep _ _).visit _)
  · exact h
end
theorem Mvr.beta {r:Rd}(h:Mvr s0 r)(b arg:Int):Mvr s0 (z4k r b arg).2:=((h.put _).put _).put _
theorem Mvr.apps:∀ (l:List Int) (f:Int) {r:Rd},Mvr s0 r→Mvr s0 (z48 l f r).2
 | [],_,_,h=>h
 | x::l,f,r,h=>by rw [z48];exact Mvr.apps l _ (h.put _)
theorem Mvr.headL:∀ (n:Nat) (l:List Int) (b:Bool) (a:Int) {r:Rd},Mvr s0 r→Mvr s0 (Go.AM.headL n l b a r).r
 | 0,_,_,_,_,h=>h
 | n+1,l,b,a,r,h=>by
  have v:=h.visit a;rw [Go.AM.headL];split
  · exact h
  · split
    · exact v
    · split
      · exact Mvr.headL n _ _ _ v
      · split
        · exact Mvr.headL n _ _ _ ((Mvr.open _ _ v).keep _ _)
        · split
          · split
            · exact v
            · exact Mvr.headL n _ _ _ (v.beta _ _)
          · exact v
theorem Mvr.head (n:Nat){r:Rd}(root:Int)(h:Mvr s0 r):Mvr s0 (z0l n r root).2:=by
 have h1:=Mvr.headL n [] false root h;show Mvr s0 (if _ then _ else _)
 split
 · exact (Mvr.apps _ _ h1).keep _ _
 · exact h1
theorem Mvr.leaf {F:Rd→Int→Tm×Rd}(hF:∀ (r:Rd) (a:Int),Mvr s0 r→Mvr s0 (F r a).2):∀ (l:List Int) (t:Tm) (r:Rd),Mvr s0 r→Mvr s0 (z1t F l t r).2
 | [],_,_,h=>h
 | x::l,t,r,h=>Mvr.leaf hF l _ _ (hF r x h)
theorem Mvr.full (N:Nat):∀ (n:Nat) (r:Rd) (a:Int),Mvr s0 r→Mvr s0 (fulR N n r a).2
 | 0,_,_,h=>h
 | n+1,r,a,h=>by
  have oh:=Mvr.head N a h;rw [fulR];unfold zpz;split
  · exact oh
  · split
    · exact Mvr.full N n _ _ oh
    · exact Mvr.leaf (Mvr.full N n) _ _ _ oh
theorem headS_mv (s:Hp)(a f:Int)(f0:0≤f):Mv false s (z2e s a f).2:=(Mvr.head (s0:=s) (2*f.toNat+2) (r:=⟨s,f,0⟩) a ⟨.refl s,f0⟩).1
theorem zfo (s:Hp)(a f:Int)(f0:0≤f):Mv false s (z1e s a f).2∧0≤(z1e s a f).1.2.1:=by
 have h:=Mvr.full (s0:=s) (2*f.toNat+2) (f.toNat+1) ⟨s,f,0⟩ a ⟨.refl s,f0⟩;refine ⟨h.1, ?_⟩;unfold z1e;split
 · exact Int.le_refl _
 · exact h.2
theorem zlc (s:Hp)(a u:Int):Mv false s (z1p s a u).2:=by
 unfold z1p;split
 · exact .refl s
 · exact (Mvr.lift (s0:=s) (r:=⟨s,0,0⟩) ⟨.refl s,Int.le_refl _⟩ a u).1
end Go.AM

set_option maxRecDepth 100000
open Go Go.Proofs
namespace Go.AM
def varE (V:Option (List Int))(C:List Cel)(n:Int):Int×Int:=
 match V with
 | none=>if isT C n=true then (n,0) else (0,1)
 | some l=>if (l.length:Int)≤n then (0,1) else if isT C (l.getD n.toNat 0)=true then (l.getD n.toNat 0,0) else (0,1)
mutual
def encE (V:Option (List Int)):Tm→Hp→(Int×Int)×Hp
 | .mk k s n l,h=>
  if k=0 then putS (symS h s).2 ⟨0,(symS h s).1,0,0,0⟩
  else if k=1 then putS h ⟨1,n,0,0,0⟩
  else if k=2 then putS h ⟨2,n,0,0,0⟩
  else if k=3 then putS h ⟨3,n,0,0,0⟩
  else if k=4 then (varE V h.C n,h)
  else encL V k l h
def encL (V:Option (List Int))(k:Int):List Tm→Hp→(Int×Int)×Hp
 | [],h=>((0,0),h)
 | u::l,h=>
  if (encE V u h).1.2≠0 then ((0,(encE V u h).1.2),(encE V u h).2)
  else if k=5 then putS (encE V u h).2 ⟨6,(encE V u h).1.1,0,0,0⟩
  else encR V l (encE V u h).1.1 (encE V u h).2
def encR (V:Option (List Int)):List Tm→Int→Hp→(Int×Int)×Hp
 | [],f,h=>((f,0),h)
 | u::l,f,h=>
  if (encE V u h).1.2≠0 then ((0,(encE V u h).1.2),(encE V u h).2)
  else if (putS (encE V u h).2 ⟨7,f,(encE V u h).1.1,0,0⟩).1.2≠0 then ((0,(putS (encE V u h).2 ⟨7,f,(encE V u h).1.1,0,0⟩).1.2),(putS (encE V u h).2 ⟨7,f,(encE V u h).1.1,0,0⟩).2)
  else encR V l (putS (encE V u h).2 ⟨7,f,(encE V u h).1.1,0,0⟩).1.1 (putS (encE V u h).2 ⟨7,f,(encE V u h).1.1,0,0⟩).2
end
def encS (V:Option (List Int))(s:Hp)(t:Tm):(Int×Int)×Hp:=
 if z07 t=false then ((0,1),s)
 else if (encE V t s).1.2≠0 then ((0,(encE V t s).1.2),⟨(encE V t s).2.C.take s.C.length,(encE V t s).2.T,(encE V t s).2.M,(encE V t s).2.L,(encE V t s).2.N⟩)
 else encE V t s
def Gw (s:Hp)(z:(Int×Int)×Hp):Prop:=(OkH s→OkH z.2)∧∃ d e,z.2=⟨s.C++d,s.T,s.M,s.L,s.N++e⟩∧e.length≤d.length+if z.1.2=0 then 0 else 1
theorem Gw.nil (s:Hp)(x:Int×Int):Gw s (x,s):=⟨fun h=>h,[],[],by simp,by simp⟩
theorem Gw.put (s:Hp)(c:Cel):Gw s (putS s c):=by
 refine ⟨fun h=>h.put c, ?_⟩;unfold putS;split
 · exact ⟨[],[],by simp,by simp⟩
 · split
   · exact ⟨[],[],by simp,by simp⟩
   · exact ⟨[c],[],by simp,by simp⟩
theorem Gw.seq {s:Hp}{z y:(Int×Int)×Hp}(h:Gw s z)(h0:z.1.2=0)(g:Gw z.2 y):Gw s y:=by
 obtain ⟨a,d,e,h1,h2⟩:=h;obtain ⟨b,d',e',g1,g2⟩:=g;rw [if_pos h0] at h2;refine ⟨fun o=>b (a o),d++d',e++e', ?_,by simp only [List.length_append];omega⟩;rw [g1,h1];simp
theorem Gw.err {s:Hp}{z:(Int×Int)×Hp}(h:Gw s z)(h0:z.1.2≠0):Gw s ((0,z.1.2),z.2):=by
 obtain ⟨a,d,e,h1,h2⟩:=h;exact ⟨a,d,e,h1,h2⟩
theorem putS_out (s:Hp)(c:Cel):(putS s c).1.2=0∧(putS s c).2.C=s.C++ [c]∨(putS s c).1.2≠0∧(putS s c).2=s:=by
 unfold putS;split
 · exact .inr ⟨by show (1:Int)≠0;decide,rfl⟩
 · split
   · exact .inr ⟨by show (200:Int)≠0;decide,rfl⟩
   · exact .inl ⟨rfl,rfl⟩
theorem Gw.con (s:Hp)(nm:List UInt8):Gw s (putS (symS s nm).2 ⟨0,(symS s nm).1,0,0,0⟩):=by
 have hs:∃ e,(symS s nm).2=⟨s.C,s.T,s.M,s.L,s.N++e⟩∧e.length≤1:=by
  unfold symS;split
  · exact ⟨[],by simp,by simp⟩
  · exact ⟨[nm],rfl,by simp⟩
 obtain ⟨e,h1,h2⟩:=hs;rcases putS_out (symS s nm).2 ⟨0,(symS s nm).1,0,0,0⟩ with ⟨g1,g2⟩ | ⟨g1,g2⟩
 · obtain ⟨g3,g4,g5,_,g6⟩:=zkk (symS s nm).2 ⟨0,(symS s nm).1,0,0,0⟩;refine ⟨fun o=>OkH.put (by rw [h1];exact ⟨o.C,o.M,o.T,o.L⟩) _,[⟨0,(symS s nm).1,0,0,0⟩],e, ?_,by rw [if_pos g1];simpa using h2⟩;generalize (putS (symS s nm).2 ⟨0,(symS s nm).1,0,0,0⟩)=z at*;generalize (symS s nm).1=x at*;rw [h1] at g2 g3 g4 g5 g6;obtain ⟨zx,⟨zC,zT,zM,zL,zN⟩⟩:=z;dsimp only at*;rw [g2,g3,g4,g5,g6]
 · refine ⟨fun o=>OkH.put (by rw [h1];exact ⟨o.C,o.M,o.T,o.L⟩) _,[],e,by rw [g2,h1];simp,by rw [if_neg g1];simpa using h2⟩
theorem zr7 (V:Option (List Int)):∀ (l:List Tm),(∀ u∈l,∀ s,Gw s (encE V u s))→∀ (f:Int) (s:Hp),Gw s (encR V l f s)
 | [],_,f,s=>by rw [encR];exact Gw.nil s _
 | u::l,h,f,s=>by
  have h1:=h u List.mem_cons_self s;rw [encR];split
  · rename_i q;exact h1.err q
  · rename_i q;have q:(encE V u s).1.2=0:=by simpa using q
    have h2:=Gw.put (encE V u s).2 ⟨7,f,(encE V u s).1.1,0,0⟩;split
    · rename_i q2;exact h1.seq q (h2.err q2)
    · rename_i q2;exact h1.seq q (h2.seq (by simpa using q2) (zr7 V l (fun v hv=>h v (List.mem_cons_of_mem _ hv)) _ _))
theorem z42 (V:Option (List Int)):∀ (t:Tm) (s:Hp),Gw s (encE V t s):=by
 refine Tm.ind fun t ih=> ?_;obtain ⟨k,nm,n,l⟩:=t;intro s;rw [encE];split
 · exact Gw.con s nm
 · split
   · exact Gw.put s _
   · split
     · exact Gw.put s _
     · split
       · exact Gw.put s _
       · split
         · exact Gw.nil s _
         · match l with
           | []=>rw [encL];exact Gw.nil s _
           | u::l=>
            have h1:=ih u List.mem_cons_self s;rw [encL];split
            · rename_i q;exact h1.err q
            · rename_i q;have q:(encE V u s).1.2=0:=by simpa using q
              split
              · exact h1.seq q (Gw.put _ _)
              · exact h1.seq q (zr7 V l (fun v hv=>ih v (List.mem_cons_of_mem _ hv)) _ _)
def NmB (K:Nat)(s:Hp):Prop:=s.N.length≤s.C.length+K
theorem zsc (V:Option (List Int))(s:Hp)(t:Tm)(h:(encS V s t).1.2≠0):∃ e,(encS V s t).2={ s with N:=s.N++e }:=by
 unfold encS at h ⊢;split
 · exact ⟨[],by simp⟩
 · rename_i q;rw [if_neg q] at h;obtain ⟨_,d,e,h1,_⟩:=z42 V t s;split
   · exact ⟨e,by rw [h1];simp⟩
   · rename_i q2;rw [if_neg q2] at h;exact absurd h q2
end Go.AM
