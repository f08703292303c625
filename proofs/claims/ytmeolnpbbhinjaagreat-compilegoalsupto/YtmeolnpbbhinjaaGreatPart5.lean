/- Contracts of the code's functions over plain values, and plain laws: part 5. No conditions. -/
import Derived.Test.YtmeolnpbbhinjaaGreatPart4
import Derived.Test.YtmeolnpbbhinjaaGreatShelf
import Derived.Test.YtmeolnpbbhinjaaGreatPart3
import Derived.Lib.Builder
import Derived.Lib.AppendStr
import Derived.Lib.UnsafeStr
import Derived.Lib.Walk
import Derived.Lib.MakeNoZero
import Derived.WalkKit
import Derived.Laws.Externs
set_option maxRecDepth 100000
open Go Go.Proofs
namespace Go.AM
open List (getD length take drop)
open Int (toNat)
def lv89:List (Nat×List Nat):=[]
theorem v89 (a:Int)(b:List UInt8)(c:Int)(d:RW)(r:TV)(e:List AObj):VE lv89 89 0 r e [Q86 a b c d] []=
  ((∃ g:Int,((Q186 109 [Q86 a b c d,Q23 0,Q127 0 [] 0,Q13 false,Q13 true] (Q126 g))∧(Q183 g r e)))∨(∃ f:List Cl,((Q185 109 [Q86 a b c d,Q23 0,Q127 0 [] 0,Q13 false,Q13 true] (Q84 (Q88 0 9 (length f)) 0) (Q70 9 (CLs f)))∧(Q44 (Q84 (Q88 0 9 (length f)) 0) (Q70 9 (CLs f)) r e)))):=by kernel_rfl
def lv103:List (Nat×List Nat):=[]
theorem v103 (c:Int)(d:List UInt8)(e:Int)(b:RW)(r:TV)(a:List AObj):VE lv103 103 0 r a [Q86 c d e b] []=
  (br ((c:Int)==(0:Int)) (br ((d:List UInt8)==[]) (br ((e:Int)==(0:Int)) ((FV.L 4 (Q136 b)=true)∧(Q78 (((length b:Int):Int)==(0:Int)) r a)) (Q52 r a)) (Q52 r a)) (Q52 r a)):=by kernel_rfl
def lv104:List (Nat×List Nat):=[]
theorem v104 (a:Int)(b:List UInt8)(c:Int)(d:RW)(n:Int)(r:TV)(e:List AObj):VE lv104 104 0 r e (Q82 (Q86 a b c d) n) []=
  (∃ g:Bool,((Q132 28 (Q86 a b c d) g)∧(br g (∃ f:Int,((Q73 29 (Q82 (Q86 a b c d) 0) [] f [])∧(br ((f:Int)==(0:Int)) (∃ h:Bool,((Q147 137 (Q86 a b c d) n h)∧(Q78 h r e))) (Q52 r e)))) (Q52 r e)))):=by kernel_rfl
def lv105:List (Nat×List Nat):=[]
theorem v105 (e:Nat)(a:Int)(d:Bool)(p_1 p_2:Int)(b:RW)(r:TV)(c:List AObj):VE lv105 105 1 r c (Q106 (Q165 0 3 e) a (Q182 d p_1 p_2)) (Q70 3 b)=
  (br (decide ((a:Int)≥(e:Int))) (Q33 (Q70 3 b) r c) ((0≤a∧a<(e:Int))∧((((0+(toNat a))<(length b))∧((([(.bool (FV.asB (getD (getD b (0+(toNat a)) []) 0 FV.N)))]:List FV)=(take 1 (drop 0 (getD b (0+(toNat a)) []))))∧((1:Nat)=1)))∧(br (!(FV.asB (getD (getD b (0+(toNat a)) []) 0 FV.N))) ((0≤a∧a<(e:Int))∧(((0+(toNat a))<(length b)∧(length (getD b (0+(toNat a)) []))=3)∧(Q21 true (Q70 3 (List.set b (0+(toNat a)) [(.bool d),(Q1 p_1),(Q1 p_2)])) r c))) ((0≤a∧a<(e:Int))∧((((0+(toNat a))<(length b))∧((([(.bool (FV.asB (getD (getD b (0+(toNat a)) []) 0 FV.N))),(Q1 (FV.I (getD (getD b (0+(toNat a)) []) 1 FV.N))),(Q1 (FV.I (getD (getD b (0+(toNat a)) []) 2 FV.N)))]:List FV)=(take 3 (drop 0 (getD b (0+(toNat a)) []))))∧((3:Nat)=3)))∧(Q21 ((((FV.asB (getD (getD b (0+(toNat a)) []) 0 FV.N)):Bool)==d)&&((((FV.I (getD (getD b (0+(toNat a)) []) 1 FV.N)):Int)==p_1)&&((((FV.I (getD (getD b (0+(toNat a)) []) 2 FV.N)):Int)==p_2)&&true))) (Q70 3 b) r c))))))):=by kernel_rfl
def lv72:List (Nat×List Nat):=[]
theorem v72 (c:Int)(r:TV)(a:List AObj):VE lv72 72 0 r a [.c (Q0 (.int .u8 c))] []=
  (∃ b:Bool,((Q132 70 (.c (Q0 (.int .u8 c))) b)∧(br b (Q123 r a) (∃ d:Bool,((Q132 110 (.c (Q0 (.int .u8 c))) d)∧(br d (Q123 r a) (∃ e:Bool,((Q132 111 (.c (Q0 (.int .u8 c))) e)∧(br e (Q123 r a) (Q78 ((c:Int)==(39:Int)) r a)))))))))):=by kernel_rfl
def zsx:List (Nat×List Nat):=[(1,[0,1,7,8])]
theorem v114_F76 (s:RW)(r:TV)(a:List AObj):VE zsx 114 0 r a (Q122 1 s (.fn (.func 76) [] [])) []=
  ((FV.L 1 (Q4 1 s)=true)∧(Q34 114 0 r a 1 (Q152 (Q77 0 1 s) (Q6 1 (.fn (.func 76) [] [])) 7 (length s:Int) 8 0) [] 0)):=by kernel_rfl
theorem zc6 (c:RW)(x7 b:Int)(r:TV)(a:List AObj):VQ zsx 114 0 r a 1 ⟨Q152 (Q77 0 1 c) (Q6 1 (.fn (.func 76) [] [])) 7 x7 8 b,[],0⟩=
  (br (decide ((b:Int)<x7)) (((FV.L 1 (Q4 1 c)=true)∧((0≤b)∧((b<(length c:Int))∧(([(Q1 (FV.I (getD (getD c (toNat b) []) 0 FV.N)))]:List FV)=(getD c (toNat b) [])))))∧(∃ d:Bool,((Q132 76 (Q23 (FV.I (getD (getD c (toNat b) []) 0 FV.N))) d)∧(br d (Q162 b r a) (Q34 114 0 r a 1 (Q152 (Q77 0 1 c) (Q6 1 (.fn (.func 76) [] [])) 7 x7 8 (IntKind.wrap .i64 (b+1))) [] 0))))) (Q162 (-1:Int) r a)):=by kernel_rfl
def lv73:List (Nat×List Nat):=[]
theorem v73 (c:Int)(r:TV)(a:List AObj):VE lv73 73 0 r a [.c (Q0 (.int .u8 c))] []=
  (∃ b:Int,((Q73 112 (Q121 (Q164 [43,45,42,47,60,62,61,38,124,94,126,64,35,36,63,58]) (Q0 (.int .u8 c))) [] b [])∧(Q78 (decide ((b:Int)≥(0:Int))) r a))):=by kernel_rfl
def lv113:List (Nat×List Nat):=[]
theorem v113 (s substr:List UInt8)(r:TV)(a:List AObj):VE lv113 113 0 r a (Q121 (Q164 s) (Q5 substr)) []=
  (∃ b:Int,((Q73 142 (Q121 (Q164 s) (Q5 substr)) [] b [])∧(Q162 b r a))):=by kernel_rfl
def lv79:List (Nat×List Nat):=[]
theorem v79 (b:Int)(e:List UInt8)(d:Int)(c:RW)(n:Int)(r:TV)(a:List AObj):VE lv79 79 0 r a (Q82 (Q86 b e d c) n) []=
  (br ((b:Int)==(1:Int)) (Q52 r a) (br ((b:Int)==(4:Int)) (br (decide ((d:Int)≥n)) (Q52 r a) (∃ f:Bool,((Q35 39 (Q122 4 c (.fn (.func 117) [] [(false,[Q146])])) (Q131 n) f (Q131 n))∧(Q78 (!f) r a)))) (∃ g:Bool,((Q35 39 (Q122 4 c (.fn (.func 117) [] [(false,[Q146])])) (Q131 n) g (Q131 n))∧(Q78 (!g) r a))))):=by kernel_rfl
def lv118:List (Nat×List Nat):=[]
theorem v118 (b:Int)(d:List UInt8)(e:Int)(f:RW)(g:Int)(h:List UInt8)(i:Int)(j:RW)(r:TV)(a:List AObj):VE lv118 118 0 r a [Q86 b d e f,Q86 g h i j] []=
  (br ((b:Int)==g) (br ((d:List UInt8)==h) (br ((e:Int)==i) (∃ k:Bool,((Q76 144 [Q99 4 f,Q99 4 j, .c (.fn (.func 118) [] [])] k)∧(Q78 k r a))) (Q52 r a)) (Q52 r a)) (Q52 r a)):=by kernel_rfl
def lv84:List (Nat×List Nat):=[(1,[0,1,7,8])]
theorem v84_F77 (s:RW)(a:List UInt8)(o0_1 o0_2 o0_3 o0_4:Int)(b:RW)(r:TV)(c:List AObj):VE lv84 84 1 r c (Q122 4 s (.fn (.func 77) [] [(false,[(Q145 6)])])) (Q115 6 a o0_1 o0_2 o0_3 o0_4 8 b)=
  ((FV.L 4 (Q136 s)=true)∧(Q34 84 1 r c 1 (Q152 (Q166 0 s) (Q6 1 (.fn (.func 77) [] [(false,[(Q145 6)])])) 7 (length s:Int) 8 0) [Q9 0 6 (Q62 a o0_1 o0_2 o0_3 o0_4 8 b)] 1)):=by kernel_rfl
theorem zec (e:RW)(x7 d:Int)(a:List UInt8)(h0_1 h0_2 h0_3 h0_4:Int)(b:RW)(r:TV)(c:List AObj):VQ lv84 84 1 r c 1 ⟨Q152 (Q166 0 e) (Q6 1 (.fn (.func 77) [] [(false,[(Q145 6)])])) 7 x7 8 d,[Q9 0 6 (Q62 a h0_1 h0_2 h0_3 h0_4 8 b)],1⟩=
  (br (decide ((d:Int)<x7)) (((FV.L 4 (Q136 e)=true)∧((0≤d)∧((d<(length e:Int))∧(((rE (getD e (toNat d) [])):List FV)=(getD e (toNat d) [])))))∧(∃ f:Bool,((Q35 77 (Q173 (aE (getD e (toNat d) [])) 6) (Q115 6 a h0_1 h0_2 h0_3 h0_4 8 b) f (Q115 6 a h0_1 h0_2 h0_3 h0_4 8 b))∧(br f (Q79 d (Q115 6 a h0_1 h0_2 h0_3 h0_4 8 b) r c) (Q34 84 1 r c 1 (Q152 (Q166 0 e) (Q6 1 (.fn (.func 77) [] [(false,[(Q145 6)])])) 7 x7 8 (IntKind.wrap .i64 (d+1))) [Q9 0 6 (Q62 a h0_1 h0_2 h0_3 h0_4 8 b)] 1))))) (Q79 (-1:Int) (Q115 6 a h0_1 h0_2 h0_3 h0_4 8 b) r c)):=by kernel_rfl
def lv119:List (Nat×List Nat):=[]
theorem v119 (k:Int)(r:TV)(a:List AObj):VE lv119 119 0 r a [Q23 k] []=
  (br ((k:Int)==(0:Int)) (Q123 r a) (Q78 ((k:Int)==(1:Int)) r a)):=by kernel_rfl
def lv120:List (Nat×List Nat):=[]
theorem v120 (b:Int)(c:List UInt8)(d:Int)(e:RW)(r:TV)(a:List AObj):VE lv120 120 0 r a [Q86 b c d e] []=
  (∃ f:Tm×List Tm,((Q186 54 [Q86 b c d e] (Q89 (cT f.1) [Q8 4 (FTs f.2)]))∧(br ((f.1.k:Int)==(0:Int)) (∃ g:Bool,((Q132 35 (Q164 f.1.s) g)∧(Q78 (!g) r a))) (Q52 r a)))):=by kernel_rfl
def lv121:List (Nat×List Nat):=[]
theorem v121 (c:Int)(d:List UInt8)(e:Int)(f:RW)(r:TV)(a:List AObj):VE lv121 121 0 r a [Q86 c d e f] []=
  (∃ b:Tm×List Tm,((Q186 54 [Q86 c d e f] (Q89 (cT b.1) [Q8 4 (FTs b.2)]))∧(br ((b.1.s:List UInt8)==[105,115]) (br ((b.1.k:Int)==(0:Int)) ((FV.L 4 (Q136 (FTs b.2))=true)∧(Q78 (((length (FTs b.2):Int):Int)==(2:Int)) r a)) (Q52 r a)) (br ((b.1.s:List UInt8)==[60]) (br ((b.1.k:Int)==(0:Int)) ((FV.L 4 (Q136 (FTs b.2))=true)∧(Q78 (((length (FTs b.2):Int):Int)==(2:Int)) r a)) (Q52 r a)) (br ((b.1.s:List UInt8)==[61,60]) (br ((b.1.k:Int)==(0:Int)) ((FV.L 4 (Q136 (FTs b.2))=true)∧(Q78 (((length (FTs b.2):Int):Int)==(2:Int)) r a)) (Q52 r a)) (br ((b.1.s:List UInt8)==[62]) (br ((b.1.k:Int)==(0:Int)) ((FV.L 4 (Q136 (FTs b.2))=true)∧(Q78 (((length (FTs b.2):Int):Int)==(2:Int)) r a)) (Q52 r a)) (br ((b.1.s:List UInt8)==[62,61]) (br ((b.1.k:Int)==(0:Int)) ((FV.L 4 (Q136 (FTs b.2))=true)∧(Q78 (((length (FTs b.2):Int):Int)==(2:Int)) r a)) (Q52 r a)) (Q52 r a)))))))):=by kernel_rfl
def lv123:List (Nat×List Nat):=[]
theorem zu8 (s:RW)(a:List UInt8)(o0_1 o0_2 o0_3 o0_4:Int)(b:RW)(r:TV)(c:List AObj):VE lv123 123 1 r c (Q122 6 s (.fn (.func 122) [] [(false,[(Q145 6)])])) (Q115 6 a o0_1 o0_2 o0_3 o0_4 8 b)=
  (∃ d:Int,((Q73 145 (Q122 6 s (.fn (.func 122) [] [(false,[(Q145 6)])])) (Q115 6 a o0_1 o0_2 o0_3 o0_4 8 b) d (Q115 6 a o0_1 o0_2 o0_3 o0_4 8 b))∧(Q21 (decide ((d:Int)≥(0:Int))) (Q115 6 a o0_1 o0_2 o0_3 o0_4 8 b) r c))):=by kernel_rfl
theorem v39_F40 (s:RW)(r:TV)(a:List AObj):VE lv39 39 0 r a (Q122 4 s (.fn (.func 40) [] [])) []=
  (∃ b:Int,((Q73 84 (Q122 4 s (.fn (.func 40) [] [])) [] b [])∧(Q78 (decide ((b:Int)≥(0:Int))) r a))):=by kernel_rfl
theorem v39_F128 (s:RW)(a:Int)(r:TV)(b:List AObj):VE lv39 39 1 r b (Q122 4 s (.fn (.func 128) [] [(false,[Q146])])) (Q131 a)=
  (∃ c:Int,((Q73 84 (Q122 4 s (.fn (.func 128) [] [(false,[Q146])])) (Q131 a) c (Q131 a))∧(Q21 (decide ((c:Int)≥(0:Int))) (Q131 a) r b))):=by kernel_rfl
def zpf:List (Nat×List Nat):=[(1,[1,2,7,27,28,29])]
theorem zt1 (a:Int)(b:List UInt8)(d:Int)(e:RW)(k o0_0:Int)(r:TV)(f:List AObj):VE zpf 115 1 r f (Q106 (Q86 a b d e) k (.c (.fn (.func 116) [] [(false,[Q146])]))) (Q131 o0_0)=
  (br ((a:Int) !=(5:Int)) (br ((a:Int) !=(6:Int)) (∃ i:Int,((Q67 116 (Q106 (Q86 a b d e) k (Q172 1)) (Q131 o0_0) [] (Q131 i))∧(Q44 [] (Q131 i) r f))) (∃ g:FV,(∃ j:Int,((Q186 143 [Q86 a b d e] (Q84 [Q0 g] j))∧((FV.L 4 g=true)∧(Q34 115 1 r f 1 (Q128 (Q189 k) (Q6 2 (.fn (.func 116) [] [(false,[Q146])])) (Q20 7 j) (Q6 27 (Q0 g)) (Q20 28 (length (FV.ses g):Int)) 29 0) [Q9 0 1 [Q51 o0_0]] 1)))))) (∃ h:FV,(∃ l:Int,((Q186 143 [Q86 a b d e] (Q84 [Q0 h] l))∧((FV.L 4 h=true)∧(Q34 115 1 r f 1 (Q128 (Q189 k) (Q6 2 (.fn (.func 116) [] [(false,[Q146])])) (Q20 7 l) (Q6 27 (Q0 h)) (Q20 28 (length (FV.ses h):Int)) 29 0) [Q9 0 1 [Q51 o0_0]] 1)))))):=by kernel_rfl
theorem z9w (x1 x7:Int)(b:FV)(x28 a h0_0:Int)(r:TV)(d:List AObj):VQ zpf 115 1 r d 1 ⟨Q128 (Q189 x1) (Q6 2 (.fn (.func 116) [] [(false,[Q146])])) (Q20 7 x7) (Q6 27 (Q0 b)) (Q20 28 x28) 29 a,[Q9 0 1 [Q51 h0_0]],1⟩=
  (br (decide ((a:Int)<x28)) (((FV.L 4 b=true)∧((0≤a)∧((a<(length (FV.ses b):Int))∧(((rE (getD (FV.ses b) (toNat a) [])):List FV)=(getD (FV.ses b) (toNat a) [])))))∧((∃ g:Int,((Q67 115 (Q106 (aE (getD (FV.ses b) (toNat a) [])) (IntKind.wrap .i64 (x1+x7)) (.c (.fn (.func 116) [] [(false,[Q146])]))) (Q131 h0_0) [] (Q131 g))∧(Q34 115 1 r d 1 (Q128 (Q189 x1) (Q6 2 (.fn (.func 116) [] [(false,[Q146])])) (Q20 7 x7) (Q6 27 (Q0 b)) (Q20 28 x28) 29 (IntKind.wrap .i64 (a+1))) [Q9 0 1 [Q51 g]] 1)))∨((∃ _:Unit,((Q67 115 (Q106 (aE (getD (FV.ses b) (toNat a) [])) (IntKind.wrap .i64 (x1+x7)) (.c (.fn (.func 116) [] [(false,[Q146])]))) (Q131 h0_0) [] [Q30 1 Q125])∧(Q34 115 1 r d 1 (Q128 (Q189 x1) (Q6 2 (.fn (.func 116) [] [(false,[Q146])])) (Q20 7 x7) (Q6 27 (Q0 b)) (Q20 28 x28) 29 (IntKind.wrap .i64 (a+1))) [Q9 0 1 [Q125]] 1)))∨((∃ e:Nat×RW,((Q67 115 (Q106 (aE (getD (FV.ses b) (toNat a) [])) (IntKind.wrap .i64 (x1+x7)) (.c (.fn (.func 116) [] [(false,[Q146])]))) (Q131 h0_0) [] (Q59 (Q97 1 1 1 e.1) 1 e.2))∧(Q57 115 1 r d 1 (Q128 (Q189 x1) (Q6 2 (.fn (.func 116) [] [(false,[Q146])])) (Q20 7 x7) (Q6 27 (Q0 b)) (Q20 28 x28) 29 (IntKind.wrap .i64 (a+1))) 0 1 [Q88 1 1 e.1] (Q50 1 1 e.2) 2)))∨(∃ f:Nat×RW,((Q67 115 (Q106 (aE (getD (FV.ses b) (toNat a) [])) (IntKind.wrap .i64 (x1+x7)) (.c (.fn (.func 116) [] [(false,[Q146])]))) (Q131 h0_0) [] (Q167 1 2 1 f.1 1 f.2))∧(Q57 115 1 r d 1 (Q128 (Q189 x1) (Q6 2 (.fn (.func 116) [] [(false,[Q146])])) (Q20 7 x7) (Q6 27 (Q0 b)) (Q20 28 x28) 29 (IntKind.wrap .i64 (a+1))) 0 1 [Q88 1 1 f.1] (Q50 1 1 f.2) 2))))))) (Q44 [] (Q131 h0_0) r d)):=by kernel_rfl
def lv129:List (Nat×List Nat):=[]
theorem v129 (a:List UInt8)(r:TV)(b:List AObj):VE lv129 129 0 r b [Q164 a] []=
  (br ((a:List UInt8)==[116,114,117,101]) (Q162 0 r b) (br ((a:List UInt8)==[102,97,105,108]) (Q162 0 r b) (br ((a:List UInt8)==[33]) (Q162 0 r b) (br ((a:List UInt8)==[112,105]) (Q162 1 r b) (br ((a:List UInt8)==[115,105,103,109,97]) (Q162 1 r b) (Q162 2 r b)))))):=by kernel_rfl
def lv130:List (Nat×List Nat):=[]
theorem v130 (d:Int)(e:List UInt8)(f:Int)(g:RW)(h:Int)(i:RW)(j:Bool)(r:TV)(b:List AObj):VE lv130 130 0 r b (Q104 (Q86 d e f g) [Q2 h,Q8 4 i,Q3 j]) []=
  (∃ a:Int×List Cl,((Q73 149 [Q86 d e f g,Q181 h (Q8 4 i) j, .c (.fn (.func 150) [] [(false,[Q146])])] (Q59 (Q97 1 1 9 0) 9 []) a.1 (Q167 1 2 9 (length a.2) 9 (CLs a.2)))∧(br ((a.1:Int) !=(0:Int)) (Q183 a.1 r b) (((9:Nat)=9∧(0+(length a.2))≤(length (CLs a.2)))∧(Q107 (Q84 [Q8 9 (take (length a.2) (drop 0 (CLs a.2)))] 0) r b))))):=by kernel_rfl
def lv99:List (Nat×List Nat):=[]
theorem v99 (a:Int)(b:List UInt8)(c:Int)(d:RW)(a1 a2:Int)(r:TV)(e:List AObj):VE lv99 99 0 r e (Q106 (Q86 a b c d) a1 (Q23 a2)) []=
  (∃ f:Tm,((Q7 134 [.agg [(.fn (.func 135) [] [(false,[Q146]),(false,[(Q144 1 1)])])],Q86 a b c d,Q23 0] (Q134 a1 (Q130 a2)) (aT f) (Q134 a1 (Q130 a2)))∧(RT (aT f) [] r e))):=by kernel_rfl
def lv50:List (Nat×List Nat):=[]
theorem v50 (c_0 c_1:Int)(b:List UInt8)(c:Int)(d:RW)(e:Int)(f:List UInt8)(g:Int)(h:RW)(r:TV)(a:List AObj):VE lv50 50 0 r a [.agg (Q169 c_0 c_1 b c 4 d e f g 4 h)] []=
  (∃ n:List UInt8,(∃ j:Bool,((Q186 51 [Q86 c_1 b c d] (Q45 (Q22 [Q5 n]) [Q3 j]))∧(∃ k:Bool,((Q132 46 (Q23 c_0) k)∧(br (!k) (Q123 r a) (∃ l:Bool,((Q76 47 (Q106 (Q86 c_1 b c d) 0 (Q23 c_0)) l)∧(br (!l) (Q123 r a) (∃ m:Bool,((Q76 47 (Q106 (Q86 e f g h) 0 (Q23 c_0)) m)∧(br (!m) (Q123 r a) (br (!j) (Q123 r a) (∃ i:Int,((Q73 48 [Q86 e f g h] [] i [])∧(Q78 ((i:Int) !=(0:Int)) r a)))))))))))))))):=by kernel_rfl
theorem v84_F95 (s:RW)(r:TV)(a:List AObj):VE lv84 84 0 r a (Q122 4 s (.fn (.func 95) [] [])) []=
  ((FV.L 4 (Q136 s)=true)∧(Q34 84 0 r a 1 (Q152 (Q166 0 s) (Q6 1 (.fn (.func 95) [] [])) 7 (length s:Int) 8 0) [] 0)):=by kernel_rfl
theorem zdu (c:RW)(x7 b:Int)(r:TV)(a:List AObj):VQ lv84 84 0 r a 1 ⟨Q152 (Q166 0 c) (Q6 1 (.fn (.func 95) [] [])) 7 x7 8 b,[],0⟩=
  (br (decide ((b:Int)<x7)) (((FV.L 4 (Q136 c)=true)∧((0≤b)∧((b<(length c:Int))∧(((rE (getD c (toNat b) [])):List FV)=(getD c (toNat b) [])))))∧(∃ d:Bool,((Q132 95 (aE (getD c (toNat b) [])) d)∧(br d (Q162 b r a) (Q34 84 0 r a 1 (Q152 (Q166 0 c) (Q6 1 (.fn (.func 95) [] [])) 7 x7 8 (IntKind.wrap .i64 (b+1))) [] 0))))) (Q162 (-1:Int) r a)):=by kernel_rfl
def lv97:List (Nat×List Nat):=[]
theorem v97 (s:RW)(r:TV)(a:List AObj):VE lv97 97 0 r a [Q99 4 s] []=
  (RT (.c (.fn (.func 131) [] [(false,[Q146])])) [Q30 1 [Q8 4 s]] r a):=by kernel_rfl
def lv98:List (Nat×List Nat):=[]
theorem v98 (d:Int)(e:List UInt8)(f:Int)(g:RW)(i s_0:Int)(a:List UInt8)(b:Int)(c:RW)(r:TV)(h:List AObj):VE lv98 98 0 r h (Q106 (Q86 d e f g) i (Q86 s_0 a b c)) []=
  (∃ j:Tm,((Q7 134 [.agg [(.fn (.func 132) [] [(false,[Q146]),(false,[(Q144 1 4)])])],Q86 d e f g,Q23 0] (Q134 i (Q30 4 (Q61 s_0 a b 4 c))) (aT j) (Q134 i (Q30 4 (Q61 s_0 a b 4 c))))∧(RT (aT j) [] r h))):=by kernel_rfl
def lv124:List (Nat×List Nat):=[(1000001,[1])]
theorem v124 (i:Int)(j:List UInt8)(k:Int)(l:RW)(m:Int)(n:List UInt8)(o:Int)(p:RW)(b:Int)(a:Nat)(s:RW)(r:TV)(q:List AObj):VE lv124 124 2 r q (Q184 2 (Q86 i j k l) (Q86 m n o p)) (Q83 2 b 1 8 0 a 8 s)=
  (∃ c:Int×Int×List In1,((Q159 55 0 2 0 0 (Q175 9 0 0 [] 0 Q24) (Q83 2 b 1 8 0 a 8 s) c.1 c.2.1 (length c.2.2) (FIs c.2.2))∧(∃ e:Int×List In1,((Q67 86 (Q184 2 (Q86 i j k l) (Q13 false)) (Q83 2 c.2.1 1 8 0 (length c.2.2) 8 (FIs c.2.2)) [] (Q158 e.1 (length e.2) (FIs e.2)))∧(∃ d:Int×Int×List In1,((Q159 55 0 2 0 0 (Q175 10 0 0 [] 0 Q24) (Q83 2 e.1 1 8 0 (length e.2) 8 (FIs e.2)) d.1 d.2.1 (length d.2.2) (FIs d.2.2))∧(∃ f:Int×List In1,((Q67 146 (Q82 (Q172 2) c.1) (Q83 2 d.2.1 1 8 0 (length d.2.2) 8 (FIs d.2.2)) [] (Q158 f.1 (length f.2) (FIs f.2)))∧(∃ g:Int×List In1,((Q67 86 (Q184 2 (Q86 m n o p) (Q13 false)) (Q83 2 f.1 1 8 0 (length f.2) 8 (FIs f.2)) [] (Q158 g.1 (length g.2) (FIs g.2)))∧(∃ h:Int×List In1,((Q67 146 (Q82 (Q172 2) d.1) (Q83 2 g.1 1 8 0 (length g.2) 8 (FIs g.2)) [] (Q158 h.1 (length h.2) (FIs h.2)))∧(Q160 [] h.1 (length h.2) (FIs h.2) r q))))))))))))):=by kernel_rfl
def lv125:List (Nat×List Nat):=[(1000001,[1])]
theorem v125 (k t_0:Int)(d:List UInt8)(e:Int)(f:RW)(a:Int)(b:Nat)(i:RW)(r:TV)(g:List AObj):VE lv125 125 2 r g (Q106 (Q172 2) k (Q86 t_0 d e f)) (Q83 2 a 1 8 0 b 8 i)=
  (∃ h:Tm,((Q7 52 [Q23 a] [] (aT h) [])∧(∃ c:Int×Int×List In1,((Q159 55 0 2 0 0 (Q175 k h.n 0 [] 0 Q24) (Q83 2 (IntKind.wrap .i64 (a+1)) 1 8 0 b 8 i) c.1 c.2.1 (length c.2.2) (FIs c.2.2))∧(∃ j:Tm,((Q7 93 [Q86 t_0 d e f] [] (aT j) [])∧(∃ l:Tm,((Q7 98 (Q106 (aT j) 0 (aT h)) [] (aT l) [])∧(RT (aT l) (Q158 c.2.1 (length c.2.2) (FIs c.2.2)) r g))))))))):=by kernel_rfl
def zkh:List (Nat×List Nat):=[(1,[0,5,8,16,17,18]),(1000001,[1])]
theorem v126 (c:Int)(d:List UInt8)(e:Int)(f:RW)(g:Int)(h:List UInt8)(i:Int)(j:RW)(b:Int)(a:Nat)(m:RW)(r:TV)(k:List AObj):VE zkh 126 2 r k (Q184 2 (Q86 c d e f) (Q86 g h i j)) (Q83 2 b 1 8 0 a 8 m)=
  (∃ l:List Cl×Int,((Q186 147 [Q86 c d e f] (Q84 [Q8 9 (CLs l.1)] l.2))∧((FV.L 9 (Q4 9 (CLs l.1))=true)∧(Q34 126 2 r k 1 (Q128 (Q68 0 2) (Q42 5 3 4) (Q161 8) (Q77 16 9 (CLs l.1)) (Q20 17 (length (CLs l.1):Int)) 18 0) [Q9 0 2 [Q36 (Q2 b) 2 8 0 a],(1, .gone),Q50 2 8 m,Q188 3 g h i j] 4)))):=by kernel_rfl
theorem v126_1a (b:RW)(x17 a h0_0:Int)(c:Nat)(m:RW)(e:Int)(f:List UInt8)(g:Int)(h:RW)(r:TV)(i:List AObj):VQ zkh 126 2 r i 1 ⟨Q128 (Q68 0 2) (Q42 5 3 4) (Q161 8) (Q77 16 9 b) (Q20 17 x17) 18 a,[Q9 0 2 [Q36 (Q2 h0_0) 2 8 0 c],(1, .gone),Q50 2 8 m,Q188 3 e f g h],4⟩=
  (br (decide ((a:Int)<x17)) (((FV.L 9 (Q4 9 b)=true)∧((0≤a)∧((a<(length b:Int))∧(([(Q1 (FV.I (getD (getD b (toNat a) []) 0 FV.N))),(Q1 (FV.I (getD (getD b (toNat a) []) 1 FV.N))),(.str (FV.S (getD (getD b (toNat a) []) 2 FV.N))),(Q1 (FV.I (getD (getD b (toNat a) []) 3 FV.N))),(getD (getD b (toNat a) []) 4 FV.N),(Q1 (FV.I (getD (getD b (toNat a) []) 5 FV.N))),(.str (FV.S (getD (getD b (toNat a) []) 6 FV.N))),(Q1 (FV.I (getD (getD b (toNat a) []) 7 FV.N))),(getD (getD b (toNat a) []) 8 FV.N)]:List FV)=(getD b (toNat a) [])))))∧(∃ d:Cd,((Q7 23 (Q82 (.agg (Q142 (FV.I (getD (getD b (toNat a) []) 0 FV.N)) (FV.I (getD (getD b (toNat a) []) 1 FV.N)) (FV.S (getD (getD b (toNat a) []) 2 FV.N)) (FV.I (getD (getD b (toNat a) []) 3 FV.N)) (Q0 (getD (getD b (toNat a) []) 4 FV.N)) (FV.I (getD (getD b (toNat a) []) 5 FV.N)) (FV.S (getD (getD b (toNat a) []) 6 FV.N)) (FV.I (getD (getD b (toNat a) []) 7 FV.N)) (Q0 (getD (getD b (toNat a) []) 8 FV.N)))) h0_0) [] (Q153 d.nm d.ar d.fr d.vs d.sl 8 (FIs d.ins)) [])∧((1≤1)∧((z0d 1 72)∧(Q34 126 2 r i 1 (Q128 (Q68 0 2) (Q42 5 3 4) (Q85 8 4 6 1) (Q77 16 9 b) (Q20 17 x17) 18 (IntKind.wrap .i64 (a+1))) [Q9 0 2 [Q36 (Q2 h0_0) 2 8 0 c],(1, .gone),Q50 2 8 m,Q188 3 e f g h,Q50 4 6 [[(.str d.nm),(Q1 d.ar),(Q1 d.fr),(Q1 d.vs),(Q1 d.sl),(Q4 8 (FIs d.ins))]]] 5)))))) (∃ j:Int×Int×List In1,((Q159 55 0 2 0 0 (Q175 14 0 0 [] 0 Q24) (Q83 2 h0_0 1 8 0 c 8 m) j.1 j.2.1 (length j.2.2) (FIs j.2.2))∧(∃ l:Int×List In1,((Q67 86 (Q184 2 (Q86 e f g h) (Q13 false)) (Q83 2 j.2.1 1 8 0 (length j.2.2) 8 (FIs j.2.2)) [] (Q158 l.1 (length l.2) (FIs l.2)))∧(∃ k:Int×Int×List In1,((Q159 55 0 2 0 0 (Q175 15 0 0 [] 0 Q24) (Q83 2 l.1 1 8 0 (length l.2) 8 (FIs l.2)) k.1 k.2.1 (length k.2.2) (FIs k.2.2))∧(Q160 [] k.2.1 (length k.2.2) (FIs k.2.2) r i)))))))):=by kernel_rfl
theorem zug (c:Nat)(b:RW)(x17 a h0_0:Int)(d:Nat)(m:RW)(f:Int)(g:List UInt8)(h:Int)(h3_3 h4:RW)(r:TV)(i:List AObj):VQ zkh 126 2 r i 1 ⟨Q128 (Q68 0 2) (Q42 5 3 4) (Q85 8 4 6 c) (Q77 16 9 b) (Q20 17 x17) 18 a,[Q9 0 2 [Q36 (Q2 h0_0) 2 8 0 d],(1, .gone),Q50 2 8 m,Q188 3 f g h h3_3,Q50 4 6 h4],5⟩=
  (br (decide ((a:Int)<x17)) (((FV.L 9 (Q4 9 b)=true)∧((0≤a)∧((a<(length b:Int))∧(([(Q1 (FV.I (getD (getD b (toNat a) []) 0 FV.N))),(Q1 (FV.I (getD (getD b (toNat a) []) 1 FV.N))),(.str (FV.S (getD (getD b (toNat a) []) 2 FV.N))),(Q1 (FV.I (getD (getD b (toNat a) []) 3 FV.N))),(getD (getD b (toNat a) []) 4 FV.N),(Q1 (FV.I (getD (getD b (toNat a) []) 5 FV.N))),(.str (FV.S (getD (getD b (toNat a) []) 6 FV.N))),(Q1 (FV.I (getD (getD b (toNat a) []) 7 FV.N))),(getD (getD b (toNat a) []) 8 FV.N)]:List FV)=(getD b (toNat a) [])))))∧(∃ e:Cd,((Q7 23 (Q82 (.agg (Q142 (FV.I (getD (getD b (toNat a) []) 0 FV.N)) (FV.I (getD (getD b (toNat a) []) 1 FV.N)) (FV.S (getD (getD b (toNat a) []) 2 FV.N)) (FV.I (getD (getD b (toNat a) []) 3 FV.N)) (Q0 (getD (getD b (toNat a) []) 4 FV.N)) (FV.I (getD (getD b (toNat a) []) 5 FV.N)) (FV.S (getD (getD b (toNat a) []) 6 FV.N)) (FV.I (getD (getD b (toNat a) []) 7 FV.N)) (Q0 (getD (getD b (toNat a) []) 8 FV.N)))) h0_0) [] (Q153 e.nm e.ar e.fr e.vs e.sl 8 (FIs e.ins)) [])∧((1≤1)∧((c≤(length h4)∧z0d (c+1) 72)∧(Q34 126 2 r i 1 (Q128 (Q68 0 2) (Q42 5 3 4) (Q85 8 4 6 (c+1)) (Q77 16 9 b) (Q20 17 x17) 18 (IntKind.wrap .i64 (a+1))) [Q9 0 2 [Q36 (Q2 h0_0) 2 8 0 d],(1, .gone),Q50 2 8 m,Q188 3 f g h h3_3,Q50 4 6 ((take c h4)++ [[(.str e.nm),(Q1 e.ar),(Q1 e.fr),(Q1 e.vs),(Q1 e.sl),(Q4 8 (FIs e.ins))]])] 5)))))) (((6:Nat)=6∧(0+c)≤(length h4))∧(∃ j:Int×Int×List In1,((Q159 55 0 2 0 0 (Q174 14 0 0 [] 0 Q24 (Q8 6 (take c (drop 0 h4)))) (Q83 2 h0_0 1 8 0 d 8 m) j.1 j.2.1 (length j.2.2) (FIs j.2.2))∧(∃ l:Int×List In1,((Q67 86 (Q184 2 (Q86 f g h h3_3) (Q13 false)) (Q83 2 j.2.1 1 8 0 (length j.2.2) 8 (FIs j.2.2)) [] (Q158 l.1 (length l.2) (FIs l.2)))∧(∃ k:Int×Int×List In1,((Q159 55 0 2 0 0 (Q175 15 0 0 [] 0 Q24) (Q83 2 l.1 1 8 0 (length l.2) 8 (FIs l.2)) k.1 k.2.1 (length k.2.2) (FIs k.2.2))∧(Q160 [] k.2.1 (length k.2.2) (FIs k.2.2) r i))))))))):=by kernel_rfl
def lv106:List (Nat×List Nat):=[]
theorem v106 (c:Int)(r:TV)(a:List AObj):VE lv106 106 0 r a [.c (Q0 (.int .u8 c))] []=
  (br (decide ((c:Int)≥(97:Int))) (Q78 (decide ((c:Int)≤(122:Int))) r a) (Q52 r a)):=by kernel_rfl
def lv107:List (Nat×List Nat):=[]
theorem v107 (c:Int)(r:TV)(a:List AObj):VE lv107 107 0 r a [.c (Q0 (.int .u8 c))] []=
  (∃ b:Bool,((Q132 106 (.c (Q0 (.int .u8 c))) b)∧(br b (Q123 r a) (br (decide ((c:Int)≥(65:Int))) (br (decide ((c:Int)≤(90:Int))) (Q123 r a) (∃ d:Bool,((Q132 138 (.c (Q0 (.int .u8 c))) d)∧(br d (Q123 r a) (br ((c:Int)==(95:Int)) (Q123 r a) (Q78 ((c:Int)==(39:Int)) r a)))))) (∃ e:Bool,((Q132 138 (.c (Q0 (.int .u8 c))) e)∧(br e (Q123 r a) (br ((c:Int)==(95:Int)) (Q123 r a) (Q78 ((c:Int)==(39:Int)) r a))))))))):=by kernel_rfl
def zsn:List (Nat×List Nat):=[(1,[0,3])]
theorem v108 (c:Int)(r:TV)(a:List AObj):VE zsn 108 0 r a [.c (Q0 (.int .u8 c))] []=
  (Q34 108 0 r a 1 [Q6 0 (Q0 (.int .u8 c)),Q20 3 0] [] 0):=by kernel_rfl
theorem zt5 (x0 b:Int)(r:TV)(a:List AObj):VQ zsn 108 0 r a 1 ⟨[Q6 0 (Q0 (.int .u8 x0)),Q20 3 b],[],0⟩=
  (br (decide ((b:Int)<(16:Int))) ((0≤b∧b<((16:Nat):Int))∧(br ((((UInt8.toNat (getD [43,45,42,47,60,62,61,38,124,94,126,64,35,36,63,58] (toNat b) 0):Nat):Int):Int)==x0) (Q123 r a) (Q34 108 0 r a 1 [Q6 0 (Q0 (.int .u8 x0)),Q20 3 (IntKind.wrap .i64 (b+1))] [] 0))) (Q52 r a)):=by kernel_rfl
def zi1:List (Nat×List Nat):=[(1,[1,3,4,5,7,13,14])]
theorem v109 (o:Int)(p:List UInt8)(q:Int)(t:RW)(vars body_0:Int)(b:List UInt8)(c:Int)(d:RW)(a3 any:Bool)(r:TV)(e:List AObj):VE zi1 109 0 r e [Q86 o p q t,Q23 vars,Q86 body_0 b c d,Q13 a3,Q13 any] []=
  (∃ a:Tm×List Tm,((Q186 14 [Q86 o p q t] (Q89 (cT a.1) [Q8 4 (FTs a.2)]))∧(br ((a.1.k:Int)==(4:Int)) (Q183 131 r e) (br ((a.1.k:Int)==(3:Int)) (Q183 131 r e) (br ((a.1.k:Int) !=(0:Int)) (Q183 130 r e) (∃ M:Bool,((Q132 32 (Q164 a.1.s) M)∧(br (!M) (Q57 109 0 r e 1 (Q81 (Q189 vars) (Q31 3 a3) 4 any (Q68 5 4) (Q98 7 4) (Q166 13 (FTs a.2)) (Q20 14 0)) 0 4 (Q92 o p q 4 t) (Q188 1 body_0 b c d) 2) ((FV.L 4 (Q136 (FTs a.2))=true)∧(∃ N:Int,((Q73 66 [Q164 a.1.s] [] N [])∧(br (((length (FTs a.2):Int):Int) !=N) (Q183 130 r e) (br ((a.1.s:List UInt8)==[44]) (((FV.L 4 (Q136 (FTs a.2))=true)∧((0≤(0:Int))∧(((0:Int)<(length (FTs a.2):Int))∧(((rE (getD (FTs a.2) 0 [])):List FV)=(getD (FTs a.2) 0 [])))))∧((∃ J:Int,((Q186 109 [(aE (getD (FTs a.2) 0 [])),Q23 vars,Q86 body_0 b c d,Q13 a3,Q13 any] (Q126 J))∧(br ((J:Int) !=(0:Int)) (Q183 J r e) (((FV.L 4 (Q136 (FTs a.2))=true)∧((0≤(1:Int))∧(((1:Int)<(length (FTs a.2):Int))∧(((rE (getD (FTs a.2) 1 [])):List FV)=(getD (FTs a.2) 1 [])))))∧((∃ K:Int,((Q186 109 [(aE (getD (FTs a.2) 1 [])),Q23 vars,Q86 body_0 b c d,Q13 a3,Q13 any] (Q126 K))∧(br ((K:Int) !=(0:Int)) (Q183 K r e) ((FV.L 9 .N=true)∧(Q183 0 r e)))))∨(∃ g:List Cl,((Q185 109 [(aE (getD (FTs a.2) 1 [])),Q23 vars,Q86 body_0 b c d,Q13 a3,Q13 any] (Q84 (Q88 0 9 (length g)) 0) (Q70 9 (CLs g)))∧(((0+(length g))≤(length (CLs g)))∧(br (List.isEmpty (take (length g) (drop 0 (CLs g)))) (Q183 0 r e) ((z0d (length (take (length g) (drop 0 (CLs g)))) 120)∧(Q44 (Q84 (Q88 0 9 (length (take (length g) (drop 0 (CLs g))))) 0) (Q70 9 (take (length g) (drop 0 (CLs g)))) r e)))))))))))∨(∃ f:List Cl,((Q185 109 [(aE (getD (FTs a.2) 0 [])),Q23 vars,Q86 body_0 b c d,Q13 a3,Q13 any] (Q84 (Q88 0 9 (length f)) 0) (Q70 9 (CLs f)))∧(((FV.L 4 (Q136 (FTs a.2))=true)∧((0≤(1:Int))∧(((1:Int)<(length (FTs a.2):Int))∧(((rE (getD (FTs a.2) 1 [])):List FV)=(getD (FTs a.2) 1 [])))))∧((∃ L:Int,((Q186 109 [(aE (getD (FTs a.2) 1 [])),Q23 vars,Q86 body_0 b c d,Q13 a3,Q13 any] (Q126 L))∧(br ((L:Int) !=(0:Int)) (Q183 L r e) ((FV.L 9 .N=true)∧(((length f)≤(length (CLs f))∧z0d (length f) 120)∧(Q44 (Q84 (Q88 0 9 (length f)) 0) (Q70 9 ((take (length f) (CLs f))++ [])) r e))))))∨(∃ h:List Cl,((Q185 109 [(aE (getD (FTs a.2) 1 [])),Q23 vars,Q86 body_0 b c d,Q13 a3,Q13 any] (Q84 (Q88 0 9 (length h)) 0) (Q70 9 (CLs h)))∧(((0+(length h))≤(length (CLs h)))∧(((length f)≤(length (CLs f))∧z0d ((length f)+(length (take (length h) (drop 0 (CLs h))))) 120)∧(Q44 (Q84 (Q88 0 9 ((length f)+(length (take (length h) (drop 0 (CLs h)))))) 0) (Q70 9 ((take (length f) (CLs f))++(take (length h) (drop 0 (CLs h))))) r e))))))))))) (br ((a.1.s:List UInt8)==[112,105]) (((FV.L 4 (Q136 (FTs a.2))=true)∧((0≤(0:Int))∧(((0:Int)<(length (FTs a.2):Int))∧(((rE (getD (FTs a.2) 0 [])):List FV)=(getD (FTs a.2) 0 [])))))∧(∃ y:Tm,((Q7 68 [(aE (getD (FTs a.2) 0 []))] [] (aT y) [])∧(∃ z:Tm,((Q7 101 (Q106 (Q86 body_0 b c d) 0 (Q23 1)) [] (aT z) [])∧((∃ E:Int,((Q186 109 [(aT y),Q23 (IntKind.wrap .i64 (vars+1)),(aT z),Q13 a3,Q13 any] (Q126 E))∧(Q183 E r e)))∨(∃ i:List Cl,((Q185 109 [(aT y),Q23 (IntKind.wrap .i64 (vars+1)),(aT z),Q13 a3,Q13 any] (Q84 (Q88 0 9 (length i)) 0) (Q70 9 (CLs i)))∧(Q44 (Q84 (Q88 0 9 (length i)) 0) (Q70 9 (CLs i)) r e))))))))) (br ((a.1.s:List UInt8)==[58,45]) (((FV.L 4 (Q136 (FTs a.2))=true)∧((0≤(0:Int))∧(((0:Int)<(length (FTs a.2):Int))∧(((rE (getD (FTs a.2) 0 [])):List FV)=(getD (FTs a.2) 0 [])))))∧(((FV.L 4 (Q136 (FTs a.2))=true)∧((0≤(1:Int))∧(((1:Int)<(length (FTs a.2):Int))∧(((rE (getD (FTs a.2) 1 [])):List FV)=(getD (FTs a.2) 1 [])))))∧(br ((a.1.s:List UInt8)==[61,62]) (((FV.L 4 (Q136 (FTs a.2))=true)∧((0≤(1:Int))∧(((1:Int)<(length (FTs a.2):Int))∧(((rE (getD (FTs a.2) 1 [])):List FV)=(getD (FTs a.2) 1 [])))))∧(((FV.L 4 (Q136 (FTs a.2))=true)∧((0≤(0:Int))∧(((0:Int)<(length (FTs a.2):Int))∧(((rE (getD (FTs a.2) 0 [])):List FV)=(getD (FTs a.2) 0 [])))))∧(∃ u:Int,((Q73 31 [(aE (getD (FTs a.2) 0 []))] [] u [])∧(br ((u:Int) !=(0:Int)) (Q183 u r e) (∃ A:Tm,((Q7 140 [Q86 body_0 b c d,Q13 a3,(aE (getD (FTs a.2) 0 []))] [] (aT A) [])∧((∃ F:Int,((Q186 109 [(aE (getD (FTs a.2) 1 [])),Q23 vars,(aT A),Q13 true,Q13 any] (Q126 F))∧(Q183 F r e)))∨(∃ j:List Cl,((Q185 109 [(aE (getD (FTs a.2) 1 [])),Q23 vars,(aT A),Q13 true,Q13 any] (Q84 (Q88 0 9 (length j)) 0) (Q70 9 (CLs j)))∧(Q44 (Q84 (Q88 0 9 (length j)) 0) (Q70 9 (CLs j)) r e))))))))))) (∃ v:Int,((Q73 31 [(aE (getD (FTs a.2) 1 []))] [] v [])∧(br ((v:Int) !=(0:Int)) (Q183 v r e) (∃ B:Tm,((Q7 140 [Q86 body_0 b c d,Q13 a3,(aE (getD (FTs a.2) 1 []))] [] (aT B) [])∧((∃ G:Int,((Q186 109 [(aE (getD (FTs a.2) 0 [])),Q23 vars,(aT B),Q13 true,Q13 any] (Q126 G))∧(Q183 G r e)))∨(∃ l:List Cl,((Q185 109 [(aE (getD (FTs a.2) 0 [])),Q23 vars,(aT B),Q13 true,Q13 any] (Q84 (Q88 0 9 (length l)) 0) (Q70 9 (CLs l)))∧(Q44 (Q84 (Q88 0 9 (length l)) 0) (Q70 9 (CLs l)) r e)))))))))))) (br ((a.1.s:List UInt8)==[61,62]) (((FV.L 4 (Q136 (FTs a.2))=true)∧((0≤(0:Int))∧(((0:Int)<(length (FTs a.2):Int))∧(((rE (getD (FTs a.2) 0 [])):List FV)=(getD (FTs a.2) 0 [])))))∧(((FV.L 4 (Q136 (FTs a.2))=true)∧((0≤(1:Int))∧(((1:Int)<(length (FTs a.2):Int))∧(((rE (getD (FTs a.2) 1 [])):List FV)=(getD (FTs a.2) 1 [])))))∧(br ((a.1.s:List UInt8)==[61,62]) (((FV.L 4 (Q136 (FTs a.2))=true)∧((0≤(1:Int))∧(((1:Int)<(length (FTs a.2):Int))∧(((rE (getD (FTs a.2) 1 [])):List FV)=(getD (FTs a.2) 1 [])))))∧(((FV.L 4 (Q136 (FTs a.2))=true)∧((0≤(0:Int))∧(((0:Int)<(length (FTs a.2):Int))∧(((rE (getD (FTs a.2) 0 [])):List FV)=(getD (FTs a.2) 0 [])))))∧(∃ w:Int,((Q73 31 [(aE (getD (FTs a.2) 0 []))] [] w [])∧(br ((w:Int) !=(0:Int)) (Q183 w r e) (∃ C:Tm,((Q7 140 [Q86 body_0 b c d,Q13 a3,(aE (getD (FTs a.2) 0 []))] [] (aT C) [])∧((∃ H:Int,((Q186 109 [(aE (getD (FTs a.2) 1 [])),Q23 vars,(aT C),Q13 true,Q13 any] (Q126 H))∧(Q183 H r e)))∨(∃ m:List Cl,((Q185 109 [(aE (getD (FTs a.2) 1 [])),Q23 vars,(aT C),Q13 true,Q13 any] (Q84 (Q88 0 9 (length m)) 0) (Q70 9 (CLs m)))∧(Q44 (Q84 (Q88 0 9 (length m)) 0) (Q70 9 (CLs m)) r e))))))))))) (∃ x:Int,((Q73 31 [(aE (getD (FTs a.2) 1 []))] [] x [])∧(br ((x:Int) !=(0:Int)) (Q183 x r e) (∃ D:Tm,((Q7 140 [Q86 body_0 b c d,Q13 a3,(aE (getD (FTs a.2) 1 []))] [] (aT D) [])∧((∃ I:Int,((Q186 109 [(aE (getD (FTs a.2) 0 [])),Q23 vars,(aT D),Q13 true,Q13 any] (Q126 I))∧(Q183 I r e)))∨(∃ n:List Cl,((Q185 109 [(aE (getD (FTs a.2) 0 [])),Q23 vars,(aT D),Q13 true,Q13 any] (Q84 (Q88 0 9 (length n)) 0) (Q70 9 (CLs n)))∧(Q44 (Q84 (Q88 0 9 (length n)) 0) (Q70 9 (CLs n)) r e)))))))))))) (Q183 131 r e))))))))))))))))):=by kernel_rfl
theorem ztq (k:Int)(x3 x4:Bool)(a:RW)(b h0_0:Int)(c:List UInt8)(d:Int)(e:RW)(f:Int)(g:List UInt8)(h:Int)(i:RW)(r:TV)(j:List AObj):VQ zi1 109 0 r j 1 ⟨Q81 (Q189 k) (Q31 3 x3) 4 x4 (Q68 5 4) (Q98 7 4) (Q166 13 a) (Q20 14 b),Q56 0 4 (Q92 h0_0 c d 4 e) (Q188 1 f g h i),2⟩=
  ((FV.L 4 (Q136 a)=true)∧(br (decide ((b:Int)<(length a:Int))) (((FV.L 4 (Q136 a)=true)∧((0≤b)∧((b<(length a:Int))∧(((rE (getD a (toNat b) [])):List FV)=(getD a (toNat b) [])))))∧(∃ l:Bool,((Q147 139 (aE (getD a (toNat b) [])) 0 l)∧(br (!l) (br (!x4) (Q183 132 r j) (Q57 109 0 r j 1 (Q81 (Q189 k) (Q31 3 x3) 4 x4 (Q68 5 4) (Q98 7 4) (Q166 13 a) (Q20 14 (IntKind.wrap .i64 (b+1)))) 0 4 (Q92 h0_0 c d 4 e) (Q188 1 f g h i) 2)) (Q57 109 0 r j 1 (Q81 (Q189 k) (Q31 3 x3) 4 x4 (Q68 5 4) (Q98 7 4) (Q166 13 a) (Q20 14 (IntKind.wrap .i64 (b+1)))) 0 4 (Q92 h0_0 c d 4 e) (Q188 1 f g h i) 2))))) (br (!x3) (Q44 (Q84 (Q88 0 9 1) 0) (Q70 9 [[(Q1 k),(Q1 h0_0),(.str c),(Q1 d),(Q136 e),(Q1 0),(.str [116,114,117,101]),(Q1 0), .N]]) r j) (Q44 (Q84 (Q88 0 9 1) 0) (Q70 9 [[(Q1 k),(Q1 h0_0),(.str c),(Q1 d),(Q136 e),(Q1 f),(.str g),(Q1 h),(Q136 i)]]) r j)))):=by kernel_rfl
def zka:List (Nat×List Nat):=[(1,[1,2,3,4,8,10,11])]
theorem v136 (a:Int)(c:List UInt8)(b:Int)(d:RW)(a1 a2 k:Int)(r:TV)(e:List AObj):VE zka 136 0 r e [Q86 a c b d,Q23 a1,Q23 a2,Q23 k] []=
  (br ((a:Int)==(3:Int)) (br (decide ((b:Int)≥(IntKind.wrap .i64 (k+a1)))) (RT (Q86 a c (IntKind.wrap .i64 (b+a2)) d) [] r e) (∃ f:Bool,((Q132 64 (Q86 a c b d) f)∧(br (!f) (RT (Q86 a c b d) [] r e) (Q57 136 0 r e 1 [Q189 a1,Q20 2 a2,Q20 3 k,Q68 4 4,Q98 8 4,Q161 10,Q20 11 0] 0 4 (Q92 a c b 4 d) (Q149 1 4 0 [] 0) 2))))) (∃ g:Bool,((Q132 64 (Q86 a c b d) g)∧(br (!g) (RT (Q86 a c b d) [] r e) (Q57 136 0 r e 1 [Q189 a1,Q20 2 a2,Q20 3 k,Q68 4 4,Q98 8 4,Q161 10,Q20 11 0] 0 4 (Q92 a c b 4 d) (Q149 1 4 0 [] 0) 2))))):=by kernel_rfl
theorem v136_1a (x1 x2 x3 b h0_0:Int)(c:List UInt8)(d:Int)(a:RW)(e:Int)(f:List UInt8)(g:Int)(r:TV)(h:List AObj):VQ zka 136 0 r h 1 ⟨[Q189 x1,Q20 2 x2,Q20 3 x3,Q68 4 4,Q98 8 4,Q161 10,Q20 11 b],Q56 0 4 (Q92 h0_0 c d 4 a) (Q149 1 4 e f g),2⟩=
  ((FV.L 4 (Q136 a)=true)∧(br (decide ((b:Int)<(length a:Int))) (((FV.L 4 (Q136 a)=true)∧((0≤b)∧((b<(length a:Int))∧(((rE (getD a (toNat b) [])):List FV)=(getD a (toNat b) [])))))∧(∃ i:Int,((Q73 65 (Q82 (Q86 h0_0 c d a) x3) [] i [])∧(∃ j:Tm,((Q7 136 [(aE (getD a (toNat b) [])),Q23 x1,Q23 x2,Q23 i] [] (aT j) [])∧((1≤1)∧((z0d 1 56)∧(Q34 136 0 r h 1 [Q189 x1,Q20 2 x2,Q20 3 x3,Q68 4 4,Q98 8 4,Q85 10 2 4 1,Q20 11 (IntKind.wrap .i64 (b+1))] [Q188 0 h0_0 c d a,Q149 1 4 e f g,Q50 2 4 [(FT4 j)]] 3)))))))) (∃ k:Tm,((Q7 148 (Q121 (Q86 h0_0 c d a) Q24) [] (aT k) [])∧(RT (aT k) [] r h))))):=by kernel_rfl
theorem zqi (x1 x2 x3:Int)(b:Nat)(c h0_0:Int)(d:List UInt8)(e:Int)(a:RW)(f:Int)(g:List UInt8)(h:Int)(j:RW)(r:TV)(i:List AObj):VQ zka 136 0 r i 1 ⟨[Q189 x1,Q20 2 x2,Q20 3 x3,Q68 4 4,Q98 8 4,Q85 10 2 4 b,Q20 11 c],[Q188 0 h0_0 d e a,Q149 1 4 f g h,Q50 2 4 j],3⟩=
  ((FV.L 4 (Q136 a)=true)∧(br (decide ((c:Int)<(length a:Int))) (((FV.L 4 (Q136 a)=true)∧((0≤c)∧((c<(length a:Int))∧(((rE (getD a (toNat c) [])):List FV)=(getD a (toNat c) [])))))∧(∃ k:Int,((Q73 65 (Q82 (Q86 h0_0 d e a) x3) [] k [])∧(∃ l:Tm,((Q7 136 [(aE (getD a (toNat c) [])),Q23 x1,Q23 x2,Q23 k] [] (aT l) [])∧((1≤1)∧((b≤(length j)∧z0d (b+1) 56)∧(Q34 136 0 r i 1 [Q189 x1,Q20 2 x2,Q20 3 x3,Q68 4 4,Q98 8 4,Q85 10 2 4 (b+1),Q20 11 (IntKind.wrap .i64 (c+1))] [Q188 0 h0_0 d e a,Q149 1 4 f g h,Q50 2 4 ((take b j)++ [(FT4 l)])] 3)))))))) (((4:Nat)=4∧(0+b)≤(length j))∧(∃ m:Tm,((Q7 148 [Q86 h0_0 d e a,Q99 4 (take b (drop 0 j))] [] (aT m) [])∧(RT (aT m) [] r i)))))):=by kernel_rfl
def zjk:List (Nat×List Nat):=[(1,[1,3,4,6,8,10,11])]
theorem v127 (b:Int)(c:List UInt8)(a:Int)(d:RW)(i s_0:Int)(f:List UInt8)(g:Int)(h:RW)(k:Int)(r:TV)(e:List AObj):VE zjk 127 0 r e [Q86 b c a d,Q23 i,Q86 s_0 f g h,Q23 k] []=
  (br ((b:Int)==(3:Int)) (br ((a:Int)==(IntKind.wrap .i64 (k+i))) (∃ j:Tm,((Q7 101 (Q106 (Q86 s_0 f g h) 0 (Q23 k)) [] (aT j) [])∧(RT (aT j) [] r e))) (br (decide ((a:Int)>(IntKind.wrap .i64 (k+i)))) (RT (Q86 b c (IntKind.wrap .i64 (a-1)) d) [] r e) (RT (Q86 b c a d) [] r e))) (∃ l:Bool,((Q132 64 (Q86 b c a d) l)∧(br (!l) (RT (Q86 b c a d) [] r e) (Q34 127 0 r e 1 [Q189 i,Q20 3 k,Q68 4 4,Q98 6 4,Q42 8 2 4,Q161 10,Q20 11 0] [Q188 0 b c a d,Q188 1 s_0 f g h,Q149 2 4 0 [] 0] 3))))):=by kernel_rfl
theorem v127_1a (x1 x3 b h0_0:Int)(c:List UInt8)(d:Int)(a:RW)(e:Int)(f:List UInt8)(g:Int)(h:RW)(i:Int)(j:List UInt8)(k:Int)(r:TV)(l:List AObj):VQ zjk 127 0 r l 1 ⟨[Q189 x1,Q20 3 x3,Q68 4 4,Q98 6 4,Q42 8 2 4,Q161 10,Q20 11 b],[Q188 0 h0_0 c d a,Q188 1 e f g h,Q149 2 4 i j k],3⟩=
  ((FV.L 4 (Q136 a)=true)∧(br (decide ((b:Int)<(length a:Int))) (((FV.L 4 (Q136 a)=true)∧((0≤b)∧((b<(length a:Int))∧(((rE (getD a (toNat b) [])):List FV)=(getD a (toNat b) [])))))∧(∃ m:Int,((Q73 65 (Q82 (Q86 h0_0 c d a) x3) [] m [])∧(∃ n:Tm,((Q7 127 [(aE (getD a (toNat b) [])),Q23 x1,Q86 e f g h,Q23 m] [] (aT n) [])∧((1≤1)∧((z0d 1 56)∧(Q34 127 0 r l 1 [Q189 x1,Q20 3 x3,Q68 4 4,Q98 6 4,Q42 8 2 4,Q85 10 3 4 1,Q20 11 (IntKind.wrap .i64 (b+1))] [Q188 0 h0_0 c d a,Q188 1 e f g h,Q149 2 4 i j k,Q50 3 4 [(FT4 n)]] 4)))))))) (∃ o:Tm,((Q7 148 (Q121 (Q86 h0_0 c d a) Q24) [] (aT o) [])∧(RT (aT o) [] r l))))):=by kernel_rfl
theorem zrn (x1 x3:Int)(b:Nat)(c h0_0:Int)(d:List UInt8)(e:Int)(a:RW)(f:Int)(g:List UInt8)(h:Int)(i:RW)(j:Int)(k:List UInt8)(l:Int)(n:RW)(r:TV)(m:List AObj):VQ zjk 127 0 r m 1 ⟨[Q189 x1,Q20 3 x3,Q68 4 4,Q98 6 4,Q42 8 2 4,Q85 10 3 4 b,Q20 11 c],[Q188 0 h0_0 d e a,Q188 1 f g h i,Q149 2 4 j k l,Q50 3 4 n],4⟩=
  ((FV.L 4 (Q136 a)=true)∧(br (decide ((c:Int)<(length a:Int))) (((FV.L 4 (Q136 a)=true)∧((0≤c)∧((c<(length a:Int))∧(((rE (getD a (toNat c) [])):List FV)=(getD a (toNat c) [])))))∧(∃ o:Int,((Q73 65 (Q82 (Q86 h0_0 d e a) x3) [] o [])∧(∃ p:Tm,((Q7 127 [(aE (getD a (toNat c) [])),Q23 x1,Q86 f g h i,Q23 o] [] (aT p) [])∧((1≤1)∧((b≤(length n)∧z0d (b+1) 56)∧(Q34 127 0 r m 1 [Q189 x1,Q20 3 x3,Q68 4 4,Q98 6 4,Q42 8 2 4,Q85 10 3 4 (b+1),Q20 11 (IntKind.wrap .i64 (c+1))] [Q188 0 h0_0 d e a,Q188 1 f g h i,Q149 2 4 j k l,Q50 3 4 ((take b n)++ [(FT4 p)])] 4)))))))) (((4:Nat)=4∧(0+b)≤(length n))∧(∃ q:Tm,((Q7 148 [Q86 h0_0 d e a,Q99 4 (take b (drop 0 n))] [] (aT q) [])∧(RT (aT q) [] r m)))))):=by kernel_rfl
def zpz:List (Nat×List Nat):=[(1,[1,2,5])]
theorem v137 (a:Int)(d:List UInt8)(c:Int)(e:RW)(n:Int)(r:TV)(b:List AObj):VE zpz 137 0 r b (Q82 (Q86 a d c e) n) []=
  (br ((a:Int)==(1:Int)) (Q52 r b) (br ((a:Int)==(4:Int)) (br (decide ((c:Int)≥n)) (Q52 r b) (Q34 137 0 r b 1 (Q69 (Q189 n) (Q101 4) 5 0) [Q188 0 a d c e] 1)) (Q34 137 0 r b 1 (Q69 (Q189 n) (Q101 4) 5 0) [Q188 0 a d c e] 1))):=by kernel_rfl
theorem zv7 (x1 e h0_0:Int)(c:List UInt8)(d:Int)(a:RW)(r:TV)(b:List AObj):VQ zpz 137 0 r b 1 ⟨Q69 (Q189 x1) (Q101 4) 5 e,[Q188 0 h0_0 c d a],1⟩=
  ((FV.L 4 (Q136 a)=true)∧(br (decide ((e:Int)<(length a:Int))) (((FV.L 4 (Q136 a)=true)∧((0≤e)∧((e<(length a:Int))∧(((rE (getD a (toNat e) [])):List FV)=(getD a (toNat e) [])))))∧(∃ f:Bool,((Q147 137 (aE (getD a (toNat e) [])) x1 f)∧(br (!f) (Q52 r b) (Q34 137 0 r b 1 (Q69 (Q189 x1) (Q101 4) 5 (IntKind.wrap .i64 (e+1))) [Q188 0 h0_0 c d a] 1))))) (Q123 r b))):=by kernel_rfl
def lv110:List (Nat×List Nat):=[]
theorem v110 (c:Int)(r:TV)(a:List AObj):VE lv110 110 0 r a [.c (Q0 (.int .u8 c))] []=
  (br (decide (((65:Int):Int)≤c)) (br (decide ((c:Int)≤(90:Int))) (Q123 r a) (Q78 ((c:Int)==(95:Int)) r a)) (Q78 ((c:Int)==(95:Int)) r a)):=by kernel_rfl
def lv111:List (Nat×List Nat):=[]
theorem v111 (c:Int)(r:TV)(a:List AObj):VE lv111 111 0 r a [.c (Q0 (.int .u8 c))] []=
  (br (decide (((48:Int):Int)≤c)) (Q78 (decide ((c:Int)≤(57:Int))) r a) (Q52 r a)):=by kernel_rfl
def lv76:List (Nat×List Nat):=[]
theorem v76 (n:Int)(r:TV)(a:List AObj):VE lv76 76 0 r a [Q23 n] []=
  (br (decide ((n:Int)<(0:Int))) (Q123 r a) (Q78 (decide ((n:Int)>(4096:Int))) r a)):=by kernel_rfl
def lv142:List (Nat×List Nat):=[(3,[0,1,5,6,7,8,9,10])]
theorem v142 (s a:List UInt8)(r:TV)(b:List AObj):VE lv142 142 0 r b (Q121 (Q164 s) (Q5 a)) []=
  (br (((length a:Int):Int)==(0:Int)) (Q162 0 r b) (br ((a:List UInt8)==s) (Q162 0 r b) (br (((length a:Int):Int)==(1:Int)) ((0≤(0:Int)∧(0:Int)<(length a:Int))∧(∃ c:Int,((Q73 141 (Q121 (Q164 s) (Q0 (.int .u8 ((UInt8.toNat (getD a 0 0):Nat):Int)))) [] c [])∧(Q162 c r b)))) (br (decide (((length a:Int):Int)≥(length s:Int))) (Q162 (-1:Int) r b) False)))):=by kernel_rfl
theorem v39_F117 (s:RW)(a:Int)(r:TV)(b:List AObj):VE lv39 39 1 r b (Q122 4 s (.fn (.func 117) [] [(false,[Q146])])) (Q131 a)=
  (∃ c:Int,((Q73 84 (Q122 4 s (.fn (.func 117) [] [(false,[Q146])])) (Q131 a) c (Q131 a))∧(Q21 (decide ((c:Int)≥(0:Int))) (Q131 a) r b))):=by kernel_rfl
def zqt:List (Nat×List Nat):=[(1,[1,2,15,16,17])]
theorem zte (s1 s2:RW)(r:TV)(a:List AObj):VE zqt 144 0 r a [Q99 4 s1,Q99 4 s2, .c (.fn (.func 118) [] [])] []=
  ((FV.L 4 (Q136 s1)=true)∧((FV.L 4 (Q136 s2)=true)∧(br (((length s1:Int):Int) !=(length s2:Int)) (Q52 r a) ((FV.L 4 (Q136 s1)=true)∧(Q34 144 0 r a 1 (Q111 (Q166 1 s2) (Q6 2 (.fn (.func 118) [] [])) (Q166 15 s1) (Q20 16 (length s1:Int)) 17 0) [] 0))))):=by kernel_rfl
theorem z9z (x1 x15:RW)(x16 a:Int)(r:TV)(b:List AObj):VQ zqt 144 0 r b 1 ⟨Q111 (Q166 1 x1) (Q6 2 (.fn (.func 118) [] [])) (Q166 15 x15) (Q20 16 x16) 17 a,[],0⟩=
  (br (decide ((a:Int)<x16)) (((FV.L 4 (Q136 x15)=true)∧((0≤a)∧((a<(length x15:Int))∧(((rE (getD x15 (toNat a) [])):List FV)=(getD x15 (toNat a) [])))))∧(((FV.L 4 (Q136 x1)=true)∧((0≤a)∧((a<(length x1:Int))∧(((rE (getD x1 (toNat a) [])):List FV)=(getD x1 (toNat a) [])))))∧(∃ c:Bool,((Q76 118 [(aE (getD x15 (toNat a) [])),(aE (getD x1 (toNat a) []))] c)∧(br (!c) (Q52 r b) (Q34 144 0 r b 1 (Q111 (Q166 1 x1) (Q6 2 (.fn (.func 118) [] [])) (Q166 15 x15) (Q20 16 x16) 17 (IntKind.wrap .i64 (a+1))) [] 0)))))) (Q123 r b)):=by kernel_rfl
def ztx:List (Nat×List Nat):=[(1,[0,1,7,8])]
theorem zq3 (s:RW)(a:List UInt8)(o0_1 o0_2 o0_3 o0_4:Int)(b:RW)(r:TV)(c:List AObj):VE ztx 145 1 r c (Q122 6 s (.fn (.func 122) [] [(false,[(Q145 6)])])) (Q115 6 a o0_1 o0_2 o0_3 o0_4 8 b)=
  ((FV.L 6 (Q4 6 s)=true)∧(Q34 145 1 r c 1 (Q152 (Q77 0 6 s) (Q6 1 (.fn (.func 122) [] [(false,[(Q145 6)])])) 7 (length s:Int) 8 0) [Q9 0 6 (Q62 a o0_1 o0_2 o0_3 o0_4 8 b)] 1)):=by kernel_rfl
theorem z9t (d:RW)(x7 c:Int)(a:List UInt8)(h0_1 h0_2 h0_3 h0_4:Int)(b:RW)(r:TV)(e:List AObj):VQ ztx 145 1 r e 1 ⟨Q152 (Q77 0 6 d) (Q6 1 (.fn (.func 122) [] [(false,[(Q145 6)])])) 7 x7 8 c,[Q9 0 6 (Q62 a h0_1 h0_2 h0_3 h0_4 8 b)],1⟩=
  (br (decide ((c:Int)<x7)) (((FV.L 6 (Q4 6 d)=true)∧((0≤c)∧((c<(length d:Int))∧(([(.str (FV.S (getD (getD d (toNat c) []) 0 FV.N))),(Q1 (FV.I (getD (getD d (toNat c) []) 1 FV.N))),(Q1 (FV.I (getD (getD d (toNat c) []) 2 FV.N))),(Q1 (FV.I (getD (getD d (toNat c) []) 3 FV.N))),(Q1 (FV.I (getD (getD d (toNat c) []) 4 FV.N))),(getD (getD d (toNat c) []) 5 FV.N)]:List FV)=(getD d (toNat c) [])))))∧(∃ f:Bool,((Q35 122 (Q173 (.agg (Q28 (FV.S (getD (getD d (toNat c) []) 0 FV.N)) (FV.I (getD (getD d (toNat c) []) 1 FV.N)) (FV.I (getD (getD d (toNat c) []) 2 FV.N)) (FV.I (getD (getD d (toNat c) []) 3 FV.N)) (FV.I (getD (getD d (toNat c) []) 4 FV.N)) (Q0 (getD (getD d (toNat c) []) 5 FV.N)))) 6) (Q115 6 a h0_1 h0_2 h0_3 h0_4 8 b) f (Q115 6 a h0_1 h0_2 h0_3 h0_4 8 b))∧(br f (Q79 c (Q115 6 a h0_1 h0_2 h0_3 h0_4 8 b) r e) (Q34 145 1 r e 1 (Q152 (Q77 0 6 d) (Q6 1 (.fn (.func 122) [] [(false,[(Q145 6)])])) 7 x7 8 (IntKind.wrap .i64 (c+1))) [Q9 0 6 (Q62 a h0_1 h0_2 h0_3 h0_4 8 b)] 1))))) (Q79 (-1:Int) (Q115 6 a h0_1 h0_2 h0_3 h0_4 8 b) r e)):=by kernel_rfl
theorem v84_F40 (s:RW)(r:TV)(a:List AObj):VE lv84 84 0 r a (Q122 4 s (.fn (.func 40) [] [])) []=
  ((FV.L 4 (Q136 s)=true)∧(Q34 84 0 r a 1 (Q152 (Q166 0 s) (Q6 1 (.fn (.func 40) [] [])) 7 (length s:Int) 8 0) [] 0)):=by kernel_rfl
theorem zdv (c:RW)(x7 b:Int)(r:TV)(a:List AObj):VQ lv84 84 0 r a 1 ⟨Q152 (Q166 0 c) (Q6 1 (.fn (.func 40) [] [])) 7 x7 8 b,[],0⟩=
  (br (decide ((b:Int)<x7)) (((FV.L 4 (Q136 c)=true)∧((0≤b)∧((b<(length c:Int))∧(((rE (getD c (toNat b) [])):List FV)=(getD c (toNat b) [])))))∧(∃ d:Bool,((Q132 40 (aE (getD c (toNat b) [])) d)∧(br d (Q162 b r a) (Q34 84 0 r a 1 (Q152 (Q166 0 c) (Q6 1 (.fn (.func 40) [] [])) 7 x7 8 (IntKind.wrap .i64 (b+1))) [] 0))))) (Q162 (-1:Int) r a)):=by kernel_rfl
theorem v84_F128 (s:RW)(a:Int)(r:TV)(b:List AObj):VE lv84 84 1 r b (Q122 4 s (.fn (.func 128) [] [(false,[Q146])])) (Q131 a)=
  ((FV.L 4 (Q136 s)=true)∧(Q34 84 1 r b 1 (Q152 (Q166 0 s) (Q6 1 (.fn (.func 128) [] [(false,[Q146])])) 7 (length s:Int) 8 0) [Q9 0 1 [Q51 a]] 1)):=by kernel_rfl
theorem zct (c:RW)(x7 b h0_0:Int)(r:TV)(a:List AObj):VQ lv84 84 1 r a 1 ⟨Q152 (Q166 0 c) (Q6 1 (.fn (.func 128) [] [(false,[Q146])])) 7 x7 8 b,[Q9 0 1 [Q51 h0_0]],1⟩=
  (br (decide ((b:Int)<x7)) (((FV.L 4 (Q136 c)=true)∧((0≤b)∧((b<(length c:Int))∧(((rE (getD c (toNat b) [])):List FV)=(getD c (toNat b) [])))))∧(∃ d:Bool,((Q35 128 (Q173 (aE (getD c (toNat b) [])) 1) (Q131 h0_0) d (Q131 h0_0))∧(br d (Q79 b (Q131 h0_0) r a) (Q34 84 1 r a 1 (Q152 (Q166 0 c) (Q6 1 (.fn (.func 128) [] [(false,[Q146])])) 7 x7 8 (IntKind.wrap .i64 (b+1))) [Q9 0 1 [Q51 h0_0]] 1))))) (Q79 (-1:Int) (Q131 h0_0) r a)):=by kernel_rfl
def lv116:List (Nat×List Nat):=[]
theorem v116 (b:Int)(d:List UInt8)(c:Int)(e:RW)(k o0_0:Int)(r:TV)(a:List AObj):VE lv116 116 1 r a (Q106 (Q86 b d c e) k (Q172 1)) (Q131 o0_0)=
  (br ((b:Int)==(3:Int)) (Q44 [] (Q131 (z6d [o0_0,(IntKind.wrap .i64 ((IntKind.wrap .i64 (c-k))+(1:Int)))])) r a) (Q44 [] (Q131 o0_0) r a)):=by kernel_rfl
def lv143:List (Nat×List Nat):=[]
theorem v143 (b:Int)(d:List UInt8)(e:Int)(c:RW)(r:TV)(a:List AObj):VE lv143 143 0 r a [Q86 b d e c] []=
  (br ((b:Int)==(5:Int)) (Q107 (Q84 [Q8 4 c] 1) r a) (br ((b:Int)==(6:Int)) (Q107 (Q84 [Q8 4 c] 0) r a) (Q183 0 r a))):=by kernel_rfl
def lv149:List (Nat×List Nat):=[(1000001,[1])]
theorem zrs (m:Int)(o:List UInt8)(p:Int)(q:RW)(e:Int)(g:RW)(f:Bool)(b:Nat)(i:RW)(r:TV)(d:List AObj):VE lv149 149 2 r d [Q86 m o p q,Q181 e (Q8 4 g) f, .c (.fn (.func 150) [] [(false,[Q146])])] (Q59 (Q97 1 1 9 b) 9 i)=
  ((∃ I:List UInt8×Int,((Q186 91 (Q82 (Q86 m o p q) 131) [Q22 [Q5 I.1],Q22 Q125,Q22 (Q51 I.2)])∧(br ((I.2:Int) !=(0:Int)) (Q79 I.2 (Q167 1 2 9 b 9 i) r d) (br ((I.1:List UInt8)==[]) (br (!f) (∃ Z:Bool,((Q76 39 (Q121 (.c Q24) (.fn (.func 155) [] [])) Z)∧(br Z (Q79 132 (Q167 1 2 9 b 9 i) r d) (∃ T:Tm,((Q7 157 [Q181 e (Q8 4 g) f] [] (aT T) [])∧(∃ X:List Cl,((Q67 150 (Q173 (.agg (Q169 e m o p 4 q T.k T.s T.n 4 (FTs T.l))) 1) (Q59 (Q97 1 1 9 b) 9 i) [] (Q167 1 2 9 (length X) 9 (CLs X)))∧(Q79 0 (Q167 1 2 9 (length X) 9 (CLs X)) r d)))))))) (∃ U:Tm,((Q7 157 [Q181 e (Q8 4 g) f] [] (aT U) [])∧(∃ Y:List Cl,((Q67 150 (Q173 (.agg (Q169 e m o p 4 q U.k U.s U.n 4 (FTs U.l))) 1) (Q59 (Q97 1 1 9 b) 9 i) [] (Q167 1 2 9 (length Y) 9 (CLs Y)))∧(Q79 0 (Q167 1 2 9 (length Y) 9 (CLs Y)) r d)))))) (br ((I.1:List UInt8)==[44]) (((FV.L 4 .N=true)∧((0≤(0:Int))∧(((0:Int)<((0:Nat):Int))∧(([(Q1 0),(.str []),(Q1 0), .N]:List FV)=[]))))∧(∃ J:Int×List Cl,((Q73 149 [Q127 0 [] 0,Q181 e (Q8 4 g) f, .c (.fn (.func 150) [] [(false,[Q146])])] (Q59 (Q97 1 1 9 b) 9 i) J.1 (Q167 1 2 9 (length J.2) 9 (CLs J.2)))∧(br ((J.1:Int) !=(0:Int)) (Q79 J.1 (Q167 1 2 9 (length J.2) 9 (CLs J.2)) r d) (((FV.L 4 .N=true)∧((0≤(1:Int))∧(((1:Int)<((0:Nat):Int))∧(([(Q1 0),(.str []),(Q1 0), .N]:List FV)=[]))))∧(∃ S:Int×List Cl,((Q73 149 [Q127 0 [] 0,Q181 e (Q8 4 g) f, .c (.fn (.func 150) [] [(false,[Q146])])] (Q59 (Q97 1 1 9 (length J.2)) 9 (CLs J.2)) S.1 (Q167 1 2 9 (length S.2) 9 (CLs S.2)))∧(Q79 S.1 (Q167 1 2 9 (length S.2) 9 (CLs S.2)) r d)))))))) (br ((I.1:List UInt8)==[112,105]) (((FV.L 4 .N=true)∧((0≤(0:Int))∧(((0:Int)<((0:Nat):Int))∧(([(Q1 0),(.str []),(Q1 0), .N]:List FV)=[]))))∧(∃ z9:Tm,((Q7 93 [Q127 0 [] 0] [] (aT z9) [])∧(∃ t:Int×List Tm×Bool,((Q7 158 [Q181 e (Q8 4 g) f] [] (Q181 t.1 (Q8 4 (FTs t.2.1)) t.2.2) [])∧(∃ u:Int×List Cl,((Q73 149 [(aT z9),Q181 t.1 (Q8 4 (FTs t.2.1)) t.2.2, .c (.fn (.func 150) [] [(false,[Q146])])] (Q59 (Q97 1 1 9 b) 9 i) u.1 (Q167 1 2 9 (length u.2) 9 (CLs u.2)))∧(Q79 u.1 (Q167 1 2 9 (length u.2) 9 (CLs u.2)) r d)))))))) (br ((I.1:List UInt8)==[61,62]) (∃ _:List Tm,((Q186 159 [.c Q24] [])∧(((FV.L 4 .N=true)∧((0≤(1:Int))∧(((1:Int)<((0:Nat):Int))∧(([(Q1 0),(.str []),(Q1 0), .N]:List FV)=[]))))∧(∃ M:Int,((Q73 48 [Q127 0 [] 0] [] M [])∧(br ((M:Int) !=(0:Int)) (Q79 M (Q167 1 2 9 b 9 i) r d) (((FV.L 4 .N=true)∧((0≤(0:Int))∧(((0:Int)<((0:Nat):Int))∧(([(Q1 0),(.str []),(Q1 0), .N]:List FV)=[]))))∧(((FV.L 4 .N=true)∧((0≤(1:Int))∧(((1:Int)<((0:Nat):Int))∧(([(Q1 0),(.str []),(Q1 0), .N]:List FV)=[]))))∧(∃ v:Int×List Tm×Bool,((Q7 160 [Q181 e (Q8 4 g) f,Q127 0 [] 0] [] (Q181 v.1 (Q8 4 (FTs v.2.1)) v.2.2) [])∧(∃ w:Int×List Cl,((Q73 149 [Q127 0 [] 0,Q181 v.1 (Q8 4 (FTs v.2.1)) v.2.2, .c (.fn (.func 150) [] [(false,[Q146])])] (Q59 (Q97 1 1 9 b) 9 i) w.1 (Q167 1 2 9 (length w.2) 9 (CLs w.2)))∧(Q79 w.1 (Q167 1 2 9 (length w.2) 9 (CLs w.2)) r d))))))))))))) (br ((I.1:List UInt8)==[58,45]) (((FV.L 4 .N=true)∧((0≤(1:Int))∧(((1:Int)<((0:Nat):Int))∧(([(Q1 0),(.str []),(Q1 0), .N]:List FV)=[]))))∧(∃ N:Int,((Q73 48 [Q127 0 [] 0] [] N [])∧(br ((N:Int) !=(0:Int)) (Q79 N (Q167 1 2 9 b 9 i) r d) (((FV.L 4 .N=true)∧((0≤(0:Int))∧(((0:Int)<((0:Nat):Int))∧(([(Q1 0),(.str []),(Q1 0), .N]:List FV)=[]))))∧(((FV.L 4 .N=true)∧((0≤(1:Int))∧(((1:Int)<((0:Nat):Int))∧(([(Q1 0),(.str []),(Q1 0), .N]:List FV)=[]))))∧(∃ x:Int×List Tm×Bool,((Q7 160 [Q181 e (Q8 4 g) f,Q127 0 [] 0] [] (Q181 x.1 (Q8 4 (FTs x.2.1)) x.2.2) [])∧(∃ y:Int×List Cl,((Q73 149 [Q127 0 [] 0,Q181 x.1 (Q8 4 (FTs x.2.1)) x.2.2, .c (.fn (.func 150) [] [(false,[Q146])])] (Q59 (Q97 1 1 9 b) 9 i) y.1 (Q167 1 2 9 (length y.2) 9 (CLs y.2)))∧(Q79 y.1 (Q167 1 2 9 (length y.2) 9 (CLs y.2)) r d))))))))))) (Q79 131 (Q167 1 2 9 b 9 i) r d)))))))))∨(∃ a:List UInt8×List Tm×Int,((Q185 91 (Q82 (Q86 m o p q) 131) [Q22 [Q5 a.1],Q22 (Q88 0 4 (length a.2.1)),Q22 (Q51 a.2.2)] (Q70 4 (FTs a.2.1)))∧(br ((a.2.2:Int) !=(0:Int)) (Q79 a.2.2 (Q167 1 2 9 b 9 i) r d) (br ((a.1:List UInt8)==[]) (br (!f) (∃ V:Bool,((Q35 39 (Q121 (Q165 0 4 (length a.2.1)) (.fn (.func 155) [] [])) (Q70 4 (FTs a.2.1)) V (Q70 4 (FTs a.2.1)))∧(br V (Q79 132 (Q167 1 2 9 b 9 i) r d) (∃ G:Tm,((Q7 157 [Q181 e (Q8 4 g) f] [] (aT G) [])∧(∃ K:List Cl,((Q67 150 (Q173 (.agg (Q169 e m o p 4 q G.k G.s G.n 4 (FTs G.l))) 1) (Q59 (Q97 1 1 9 b) 9 i) [] (Q167 1 2 9 (length K) 9 (CLs K)))∧(Q79 0 (Q167 1 2 9 (length K) 9 (CLs K)) r d)))))))) (∃ H:Tm,((Q7 157 [Q181 e (Q8 4 g) f] [] (aT H) [])∧(∃ L:List Cl,((Q67 150 (Q173 (.agg (Q169 e m o p 4 q H.k H.s H.n 4 (FTs H.l))) 1) (Q59 (Q97 1 1 9 b) 9 i) [] (Q167 1 2 9 (length L) 9 (CLs L)))∧(Q79 0 (Q167 1 2 9 (length L) 9 (CLs L)) r d)))))) (br ((a.1:List UInt8)==[44]) ((0≤(0:Int)∧(0:Int)<(((length a.2.1):Nat):Int))∧(((0<(length (FTs a.2.1)))∧((((rE (getD (FTs a.2.1) 0 [])):List FV)=(take 4 (drop 0 (getD (FTs a.2.1) 0 []))))∧((4:Nat)=4)))∧(∃ j:Int×List Cl,((Q73 149 [(aE (getD (FTs a.2.1) 0 [])),Q181 e (Q8 4 g) f, .c (.fn (.func 150) [] [(false,[Q146])])] (Q59 (Q97 1 1 9 b) 9 i) j.1 (Q167 1 2 9 (length j.2) 9 (CLs j.2)))∧(br ((j.1:Int) !=(0:Int)) (Q79 j.1 (Q167 1 2 9 (length j.2) 9 (CLs j.2)) r d) ((0≤(1:Int)∧(1:Int)<(((length a.2.1):Nat):Int))∧(((1<(length (FTs a.2.1)))∧((((rE (getD (FTs a.2.1) 1 [])):List FV)=(take 4 (drop 0 (getD (FTs a.2.1) 1 []))))∧((4:Nat)=4)))∧(∃ z:Int×List Cl,((Q73 149 [(aE (getD (FTs a.2.1) 1 [])),Q181 e (Q8 4 g) f, .c (.fn (.func 150) [] [(false,[Q146])])] (Q59 (Q97 1 1 9 (length j.2)) 9 (CLs j.2)) z.1 (Q167 1 2 9 (length z.2) 9 (CLs z.2)))∧(Q79 z.1 (Q167 1 2 9 (length z.2) 9 (CLs z.2)) r d)))))))))) (br ((a.1:List UInt8)==[112,105]) ((0≤(0:Int)∧(0:Int)<(((length a.2.1):Nat):Int))∧(((0<(length (FTs a.2.1)))∧((((rE (getD (FTs a.2.1) 0 [])):List FV)=(take 4 (drop 0 (getD (FTs a.2.1) 0 []))))∧((4:Nat)=4)))∧(∃ W:Tm,((Q7 93 [(aE (getD (FTs a.2.1) 0 []))] [] (aT W) [])∧(∃ A:Int×List Tm×Bool,((Q7 158 [Q181 e (Q8 4 g) f] [] (Q181 A.1 (Q8 4 (FTs A.2.1)) A.2.2) [])∧(∃ B:Int×List Cl,((Q73 149 [(aT W),Q181 A.1 (Q8 4 (FTs A.2.1)) A.2.2, .c (.fn (.func 150) [] [(false,[Q146])])] (Q59 (Q97 1 1 9 b) 9 i) B.1 (Q167 1 2 9 (length B.2) 9 (CLs B.2)))∧(Q79 B.1 (Q167 1 2 9 (length B.2) 9 (CLs B.2)) r d))))))))) (br ((a.1:List UInt8)==[61,62]) (∃ h:List Tm,((Q67 159 [Q165 0 4 (length a.2.1)] (Q70 4 (FTs a.2.1)) [] (Q70 4 (FTs h)))∧((0≤(1:Int)∧(1:Int)<(((length a.2.1):Nat):Int))∧(((1<(length (FTs h)))∧((((rE (getD (FTs h) 1 [])):List FV)=(take 4 (drop 0 (getD (FTs h) 1 []))))∧((4:Nat)=4)))∧(∃ O:Int,((Q73 48 [(aE (getD (FTs h) 1 []))] [] O [])∧(br ((O:Int) !=(0:Int)) (Q79 O (Q167 1 2 9 b 9 i) r d) ((0≤(0:Int)∧(0:Int)<(((length a.2.1):Nat):Int))∧(((0<(length (FTs h)))∧((((rE (getD (FTs h) 0 [])):List FV)=(take 4 (drop 0 (getD (FTs h) 0 []))))∧((4:Nat)=4)))∧((0≤(1:Int)∧(1:Int)<(((length a.2.1):Nat):Int))∧(((1<(length (FTs h)))∧((((rE (getD (FTs h) 1 [])):List FV)=(take 4 (drop 0 (getD (FTs h) 1 []))))∧((4:Nat)=4)))∧(∃ C:Int×List Tm×Bool,((Q7 160 [Q181 e (Q8 4 g) f,(aE (getD (FTs h) 1 []))] [] (Q181 C.1 (Q8 4 (FTs C.2.1)) C.2.2) [])∧(∃ D:Int×List Cl,((Q73 149 [(aE (getD (FTs h) 0 [])),Q181 C.1 (Q8 4 (FTs C.2.1)) C.2.2, .c (.fn (.func 150) [] [(false,[Q146])])] (Q59 (Q97 1 1 9 b) 9 i) D.1 (Q167 1 2 9 (length D.2) 9 (CLs D.2)))∧(Q79 D.1 (Q167 1 2 9 (length D.2) 9 (CLs D.2)) r d)))))))))))))))) (br ((a.1:List UInt8)==[58,45]) ((0≤(1:Int)∧(1:Int)<(((length a.2.1):Nat):Int))∧(((1<(length (FTs a.2.1)))∧((((rE (getD (FTs a.2.1) 1 [])):List FV)=(take 4 (drop 0 (getD (FTs a.2.1) 1 []))))∧((4:Nat)=4)))∧(∃ P:Int,((Q73 48 [(aE (getD (FTs a.2.1) 1 []))] [] P [])∧(br ((P:Int) !=(0:Int)) (Q79 P (Q167 1 2 9 b 9 i) r d) ((0≤(0:Int)∧(0:Int)<(((length a.2.1):Nat):Int))∧(((0<(length (FTs a.2.1)))∧((((rE (getD (FTs a.2.1) 0 [])):List FV)=(take 4 (drop 0 (getD (FTs a.2.1) 0 []))))∧((4:Nat)=4)))∧((0≤(1:Int)∧(1:Int)<(((length a.2.1):Nat):Int))∧(((1<(length (FTs a.2.1)))∧((((rE (getD (FTs a.2.1) 1 [])):List FV)=(take 4 (drop 0 (getD (FTs a.2.1) 1 []))))∧((4:Nat)=4)))∧(∃ E:Int×List Tm×Bool,((Q7 160 [Q181 e (Q8 4 g) f,(aE (getD (FTs a.2.1) 1 []))] [] (Q181 E.1 (Q8 4 (FTs E.2.1)) E.2.2) [])∧(∃ F:Int×List Cl,((Q73 149 [(aE (getD (FTs a.2.1) 0 [])),Q181 E.1 (Q8 4 (FTs E.2.1)) E.2.2, .c (.fn (.func 150) [] [(false,[Q146])])] (Q59 (Q97 1 1 9 b) 9 i) F.1 (Q167 1 2 9 (length F.2) 9 (CLs F.2)))∧(Q79 F.1 (Q167 1 2 9 (length F.2) 9 (CLs F.2)) r d)))))))))))))) (Q79 131 (Q167 1 2 9 b 9 i) r d)))))))))):=by kernel_rfl
def z6v:List (Nat×List Nat):=[(1,[2,3,4,6,7,8,9,30,31,32])]
theorem zpu (a:Int)(b:List UInt8)(c:Int)(d:RW)(k o0_0 o1_0:Int)(r:TV)(e:List AObj):VE z6v 134 2 r e [.agg [(.fn (.func 135) [] [(false,[Q146]),(false,[(Q144 1 1)])])],Q86 a b c d,Q23 k] (Q134 o0_0 (Q130 o1_0))=
  (br ((a:Int) !=(5:Int)) (br ((a:Int) !=(6:Int)) (∃ h:Tm,((Q7 135 [Q86 a b c d,Q23 k,Q172 1,Q171 1 1] (Q134 o0_0 (Q130 o1_0)) (aT h) (Q134 o0_0 (Q130 o1_0)))∧(RT (aT h) (Q134 o0_0 (Q130 o1_0)) r e))) (∃ f:FV,(∃ i:Int,((Q186 143 [Q86 a b c d] (Q84 [Q0 f] i))∧((FV.L 4 f=true)∧(Q34 134 2 r e 1 [Q20 2 k,Q42 3 2 1,Q42 4 3 4,Q42 6 4 4,Q6 7 (Q0 f),Q20 8 i,Q161 9,Q6 30 (Q0 f),Q20 31 (length (FV.ses f):Int),Q20 32 0] [Q9 0 1 [Q51 o0_0],Q9 1 1 [Q51 o1_0],Q9 2 1 [[(.fn (.func 135) [] [(false,[Q146]),(false,[(Q144 1 1)])])]],Q188 3 a b c d,Q149 4 4 0 [] 0] 5)))))) (∃ g:FV,(∃ j:Int,((Q186 143 [Q86 a b c d] (Q84 [Q0 g] j))∧((FV.L 4 g=true)∧(Q34 134 2 r e 1 [Q20 2 k,Q42 3 2 1,Q42 4 3 4,Q42 6 4 4,Q6 7 (Q0 g),Q20 8 j,Q161 9,Q6 30 (Q0 g),Q20 31 (length (FV.ses g):Int),Q20 32 0] [Q9 0 1 [Q51 o0_0],Q9 1 1 [Q51 o1_0],Q9 2 1 [[(.fn (.func 135) [] [(false,[Q146]),(false,[(Q144 1 1)])])]],Q188 3 a b c d,Q149 4 4 0 [] 0] 5)))))):=by kernel_rfl
theorem za9 (k:Int)(m:FV)(l:Int)(c:FV)(x31 a h0_0 h1_0 b:Int)(d:List UInt8)(e:Int)(g:RW)(h:Int)(i:List UInt8)(j:Int)(r:TV)(f:List AObj):VQ z6v 134 2 r f 1 ⟨[Q20 2 k,Q42 3 2 1,Q42 4 3 4,Q42 6 4 4,Q6 7 (Q0 m),Q20 8 l,Q161 9,Q6 30 (Q0 c),Q20 31 x31,Q20 32 a],[Q9 0 1 [Q51 h0_0],Q9 1 1 [Q51 h1_0],Q9 2 1 [[(.fn (.func 135) [] [(false,[Q146]),(false,[(Q144 1 1)])])]],Q188 3 b d e g,Q149 4 4 h i j],5⟩=
  (br (decide ((a:Int)<x31)) (((FV.L 4 c=true)∧((0≤a)∧((a<(length (FV.ses c):Int))∧(((rE (getD (FV.ses c) (toNat a) [])):List FV)=(getD (FV.ses c) (toNat a) [])))))∧(∃ n:Tm,((Q7 134 [.agg [(.fn (.func 135) [] [(false,[Q146]),(false,[(Q144 1 1)])])],(aE (getD (FV.ses c) (toNat a) [])),Q23 (IntKind.wrap .i64 (k+l))] (Q134 h0_0 (Q130 h1_0)) (aT n) (Q134 h0_0 (Q130 h1_0)))∧((1≤1)∧((z0d 1 56)∧(Q34 134 2 r f 1 [Q20 2 k,Q42 3 2 1,Q42 4 3 4,Q42 6 4 4,Q6 7 (Q0 m),Q20 8 l,Q85 9 5 4 1,Q6 30 (Q0 c),Q20 31 x31,Q20 32 (IntKind.wrap .i64 (a+1))] [Q9 0 1 [Q51 h0_0],Q9 1 1 [Q51 h1_0],Q9 2 1 [[(.fn (.func 135) [] [(false,[Q146]),(false,[(Q144 1 1)])])]],Q188 3 b d e g,Q149 4 4 h i j,Q50 5 4 [(FT4 n)]] 6)))))) (br ((b:Int)==(6:Int)) ((FV.L 4 .N=true)∧(RT (Q127 b d e) (Q134 h0_0 (Q130 h1_0)) r f)) (RT (Q127 b d e) (Q134 h0_0 (Q130 h1_0)) r f))):=by kernel_rfl
theorem z9s (n:Int)(m:FV)(o:Int)(a:Nat)(g:FV)(x31 f h0_0 h1_0 b:Int)(d:List UInt8)(e:Int)(i:RW)(j:Int)(k:List UInt8)(l:Int)(c:RW)(r:TV)(h:List AObj):VQ z6v 134 2 r h 1 ⟨[Q20 2 n,Q42 3 2 1,Q42 4 3 4,Q42 6 4 4,Q6 7 (Q0 m),Q20 8 o,Q85 9 5 4 a,Q6 30 (Q0 g),Q20 31 x31,Q20 32 f],[Q9 0 1 [Q51 h0_0],Q9 1 1 [Q51 h1_0],Q9 2 1 [[(.fn (.func 135) [] [(false,[Q146]),(false,[(Q144 1 1)])])]],Q188 3 b d e i,Q149 4 4 j k l,Q50 5 4 c],6⟩=
  (br (decide ((f:Int)<x31)) (((FV.L 4 g=true)∧((0≤f)∧((f<(length (FV.ses g):Int))∧(((rE (getD (FV.ses g) (toNat f) [])):List FV)=(getD (FV.ses g) (toNat f) [])))))∧(∃ p:Tm,((Q7 134 [.agg [(.fn (.func 135) [] [(false,[Q146]),(false,[(Q144 1 1)])])],(aE (getD (FV.ses g) (toNat f) [])),Q23 (IntKind.wrap .i64 (n+o))] (Q134 h0_0 (Q130 h1_0)) (aT p) (Q134 h0_0 (Q130 h1_0)))∧((1≤1)∧((a≤(length c)∧z0d (a+1) 56)∧(Q34 134 2 r h 1 [Q20 2 n,Q42 3 2 1,Q42 4 3 4,Q42 6 4 4,Q6 7 (Q0 m),Q20 8 o,Q85 9 5 4 (a+1),Q6 30 (Q0 g),Q20 31 x31,Q20 32 (IntKind.wrap .i64 (f+1))] [Q9 0 1 [Q51 h0_0],Q9 1 1 [Q51 h1_0],Q9 2 1 [[(.fn (.func 135) [] [(false,[Q146]),(false,[(Q144 1 1)])])]],Q188 3 b d e i,Q149 4 4 j k l,Q50 5 4 ((take a c)++ [(FT4 p)])] 6)))))) (br ((b:Int)==(6:Int)) (br (decide (((a:Int):Int)>(1:Int))) ((0≤(0:Int)∧(0:Int)<(a:Int))∧(((0<(length c))∧((([(Q1 (FV.I (getD (getD c 0 []) 0 FV.N)))]:List FV)=(take 1 (drop 0 (getD c 0 []))))∧((1:Nat)=1)))∧(br (((FV.I (getD (getD c 0 []) 0 FV.N)):Int)==(6:Int)) (((FV.L 4 m=true)∧((0≤(0:Int))∧(((0:Int)<(length (FV.ses m):Int))∧(((rE (getD (FV.ses m) 0 [])):List FV)=(getD (FV.ses m) 0 [])))))∧(br (((FV.I (getD (getD (FV.ses m) 0 []) 0 FV.N)):Int) !=(6:Int)) ((0≤(0:Int)∧(0:Int)<(a:Int))∧(((0<(length c))∧((((rE (getD c 0 [])):List FV)=(take 4 (drop 0 (getD c 0 []))))∧((4:Nat)=4)))∧(((0≤(1:Int))∧(((1:Int)≤(a:Int))∧((a:Int)≤(a:Int))))∧(((4:Nat)=4∧(1+((toNat (a:Int))-1))≤(length c))∧(∃ q:Tm,((Q7 16 [(aE (getD c 0 [])),Q99 4 (take ((toNat (a:Int))-1) (drop 1 c))] [] (aT q) [])∧(RT (aT q) (Q134 h0_0 (Q130 h1_0)) r h))))))) (((4:Nat)=4∧(0+a)≤(length c))∧(RT (Q86 b d e (take a (drop 0 c))) (Q134 h0_0 (Q130 h1_0)) r h)))) (((4:Nat)=4∧(0+a)≤(length c))∧(RT (Q86 b d e (take a (drop 0 c))) (Q134 h0_0 (Q130 h1_0)) r h))))) (((4:Nat)=4∧(0+a)≤(length c))∧(RT (Q86 b d e (take a (drop 0 c))) (Q134 h0_0 (Q130 h1_0)) r h))) (((4:Nat)=4∧(0+a)≤(length c))∧(RT (Q86 b d e (take a (drop 0 c))) (Q134 h0_0 (Q130 h1_0)) r h)))):=by kernel_rfl
def lv51:List (Nat×List Nat):=[]
theorem v51 (c:Int)(d:List UInt8)(e:Int)(f:RW)(r:TV)(a:List AObj):VE lv51 51 0 r a [Q86 c d e f] []=
  (∃ b:Tm×List Tm,((Q186 54 [Q86 c d e f] (Q89 (cT b.1) [Q8 4 (FTs b.2)]))∧(br ((b.1.k:Int)==(0:Int)) (∃ g:Bool,((Q132 35 (Q164 b.1.s) g)∧(Q107 (Q45 (Q22 [Q5 b.1.s]) [Q3 (!g)]) r a))) (Q107 (Q45 (Q22 [Q5 b.1.s]) [Q53]) r a)))):=by kernel_rfl
theorem zs7 (d:Int)(e:List UInt8)(f:Int)(g:RW)(k o0_0 o1_0:Int)(a:List UInt8)(b:Int)(c:RW)(r:TV)(h:List AObj):VE z6v 134 2 r h [.agg [(.fn (.func 132) [] [(false,[Q146]),(false,[(Q144 1 4)])])],Q86 d e f g,Q23 k] (Q134 o0_0 (Q30 4 (Q61 o1_0 a b 4 c)))=
  (br ((d:Int) !=(5:Int)) (br ((d:Int) !=(6:Int)) (∃ l:Tm,((Q7 132 [Q86 d e f g,Q23 k,Q172 1,Q171 1 4] (Q134 o0_0 (Q30 4 (Q61 o1_0 a b 4 c))) (aT l) (Q134 o0_0 (Q30 4 (Q61 o1_0 a b 4 c))))∧(RT (aT l) (Q134 o0_0 (Q30 4 (Q61 o1_0 a b 4 c))) r h))) (∃ i:FV,(∃ m:Int,((Q186 143 [Q86 d e f g] (Q84 [Q0 i] m))∧((FV.L 4 i=true)∧(Q34 134 2 r h 1 [Q20 2 k,Q42 3 2 1,Q42 4 3 4,Q42 6 4 4,Q6 7 (Q0 i),Q20 8 m,Q161 9,Q6 30 (Q0 i),Q20 31 (length (FV.ses i):Int),Q20 32 0] [Q9 0 1 [Q51 o0_0],Q188 1 o1_0 a b c,Q9 2 1 [[(.fn (.func 132) [] [(false,[Q146]),(false,[(Q144 1 4)])])]],Q188 3 d e f g,Q149 4 4 0 [] 0] 5)))))) (∃ j:FV,(∃ n:Int,((Q186 143 [Q86 d e f g] (Q84 [Q0 j] n))∧((FV.L 4 j=true)∧(Q34 134 2 r h 1 [Q20 2 k,Q42 3 2 1,Q42 4 3 4,Q42 6 4 4,Q6 7 (Q0 j),Q20 8 n,Q161 9,Q6 30 (Q0 j),Q20 31 (length (FV.ses j):Int),Q20 32 0] [Q9 0 1 [Q51 o0_0],Q188 1 o1_0 a b c,Q9 2 1 [[(.fn (.func 132) [] [(false,[Q146]),(false,[(Q144 1 4)])])]],Q188 3 d e f g,Q149 4 4 0 [] 0] 5)))))):=by kernel_rfl
theorem za (n:Int)(p:FV)(o:Int)(f:FV)(x31 e h0_0 h1_0:Int)(a:List UInt8)(b:Int)(c:RW)(d:Int)(g:List UInt8)(h:Int)(j:RW)(k:Int)(l:List UInt8)(m:Int)(r:TV)(i:List AObj):VQ z6v 134 2 r i 1 ⟨[Q20 2 n,Q42 3 2 1,Q42 4 3 4,Q42 6 4 4,Q6 7 (Q0 p),Q20 8 o,Q161 9,Q6 30 (Q0 f),Q20 31 x31,Q20 32 e],[Q9 0 1 [Q51 h0_0],Q188 1 h1_0 a b c,Q9 2 1 [[(.fn (.func 132) [] [(false,[Q146]),(false,[(Q144 1 4)])])]],Q188 3 d g h j,Q149 4 4 k l m],5⟩=
  (br (decide ((e:Int)<x31)) (((FV.L 4 f=true)∧((0≤e)∧((e<(length (FV.ses f):Int))∧(((rE (getD (FV.ses f) (toNat e) [])):List FV)=(getD (FV.ses f) (toNat e) [])))))∧(∃ q:Tm,((Q7 134 [.agg [(.fn (.func 132) [] [(false,[Q146]),(false,[(Q144 1 4)])])],(aE (getD (FV.ses f) (toNat e) [])),Q23 (IntKind.wrap .i64 (n+o))] (Q134 h0_0 (Q30 4 (Q61 h1_0 a b 4 c))) (aT q) (Q134 h0_0 (Q30 4 (Q61 h1_0 a b 4 c))))∧((1≤1)∧((z0d 1 56)∧(Q34 134 2 r i 1 [Q20 2 n,Q42 3 2 1,Q42 4 3 4,Q42 6 4 4,Q6 7 (Q0 p),Q20 8 o,Q85 9 5 4 1,Q6 30 (Q0 f),Q20 31 x31,Q20 32 (IntKind.wrap .i64 (e+1))] [Q9 0 1 [Q51 h0_0],Q188 1 h1_0 a b c,Q9 2 1 [[(.fn (.func 132) [] [(false,[Q146]),(false,[(Q144 1 4)])])]],Q188 3 d g h j,Q149 4 4 k l m,Q50 5 4 [(FT4 q)]] 6)))))) (br ((d:Int)==(6:Int)) ((FV.L 4 .N=true)∧(RT (Q127 d g h) (Q134 h0_0 (Q30 4 (Q61 h1_0 a b 4 c))) r i)) (RT (Q127 d g h) (Q134 h0_0 (Q30 4 (Q61 h1_0 a b 4 c))) r i))):=by kernel_rfl
theorem za8 (q:Int)(p:FV)(s:Int)(a:Nat)(j:FV)(x31 i h0_0 h1_0:Int)(b:List UInt8)(c:Int)(d:RW)(e:Int)(g:List UInt8)(h:Int)(l:RW)(m:Int)(n:List UInt8)(o:Int)(f:RW)(r:TV)(k:List AObj):VQ z6v 134 2 r k 1 ⟨[Q20 2 q,Q42 3 2 1,Q42 4 3 4,Q42 6 4 4,Q6 7 (Q0 p),Q20 8 s,Q85 9 5 4 a,Q6 30 (Q0 j),Q20 31 x31,Q20 32 i],[Q9 0 1 [Q51 h0_0],Q188 1 h1_0 b c d,Q9 2 1 [[(.fn (.func 132) [] [(false,[Q146]),(false,[(Q144 1 4)])])]],Q188 3 e g h l,Q149 4 4 m n o,Q50 5 4 f],6⟩=
  (br (decide ((i:Int)<x31)) (((FV.L 4 j=true)∧((0≤i)∧((i<(length (FV.ses j):Int))∧(((rE (getD (FV.ses j) (toNat i) [])):List FV)=(getD (FV.ses j) (toNat i) [])))))∧(∃ t:Tm,((Q7 134 [.agg [(.fn (.func 132) [] [(false,[Q146]),(false,[(Q144 1 4)])])],(aE (getD (FV.ses j) (toNat i) [])),Q23 (IntKind.wrap .i64 (q+s))] (Q134 h0_0 (Q30 4 (Q61 h1_0 b c 4 d))) (aT t) (Q134 h0_0 (Q30 4 (Q61 h1_0 b c 4 d))))∧((1≤1)∧((a≤(length f)∧z0d (a+1) 56)∧(Q34 134 2 r k 1 [Q20 2 q,Q42 3 2 1,Q42 4 3 4,Q42 6 4 4,Q6 7 (Q0 p),Q20 8 s,Q85 9 5 4 (a+1),Q6 30 (Q0 j),Q20 31 x31,Q20 32 (IntKind.wrap .i64 (i+1))] [Q9 0 1 [Q51 h0_0],Q188 1 h1_0 b c d,Q9 2 1 [[(.fn (.func 132) [] [(false,[Q146]),(false,[(Q144 1 4)])])]],Q188 3 e g h l,Q149 4 4 m n o,Q50 5 4 ((take a f)++ [(FT4 t)])] 6)))))) (br ((e:Int)==(6:Int)) (br (decide (((a:Int):Int)>(1:Int))) ((0≤(0:Int)∧(0:Int)<(a:Int))∧(((0<(length f))∧((([(Q1 (FV.I (getD (getD f 0 []) 0 FV.N)))]:List FV)=(take 1 (drop 0 (getD f 0 []))))∧((1:Nat)=1)))∧(br (((FV.I (getD (getD f 0 []) 0 FV.N)):Int)==(6:Int)) (((FV.L 4 p=true)∧((0≤(0:Int))∧(((0:Int)<(length (FV.ses p):Int))∧(((rE (getD (FV.ses p) 0 [])):List FV)=(getD (FV.ses p) 0 [])))))∧(br (((FV.I (getD (getD (FV.ses p) 0 []) 0 FV.N)):Int) !=(6:Int)) ((0≤(0:Int)∧(0:Int)<(a:Int))∧(((0<(length f))∧((((rE (getD f 0 [])):List FV)=(take 4 (drop 0 (getD f 0 []))))∧((4:Nat)=4)))∧(((0≤(1:Int))∧(((1:Int)≤(a:Int))∧((a:Int)≤(a:Int))))∧(((4:Nat)=4∧(1+((toNat (a:Int))-1))≤(length f))∧(∃ u:Tm,((Q7 16 [(aE (getD f 0 [])),Q99 4 (take ((toNat (a:Int))-1) (drop 1 f))] [] (aT u) [])∧(RT (aT u) (Q134 h0_0 (Q30 4 (Q61 h1_0 b c 4 d))) r k))))))) (((4:Nat)=4∧(0+a)≤(length f))∧(RT (Q86 e g h (take a (drop 0 f))) (Q134 h0_0 (Q30 4 (Q61 h1_0 b c 4 d))) r k)))) (((4:Nat)=4∧(0+a)≤(length f))∧(RT (Q86 e g h (take a (drop 0 f))) (Q134 h0_0 (Q30 4 (Q61 h1_0 b c 4 d))) r k))))) (((4:Nat)=4∧(0+a)≤(length f))∧(RT (Q86 e g h (take a (drop 0 f))) (Q134 h0_0 (Q30 4 (Q61 h1_0 b c 4 d))) r k))) (((4:Nat)=4∧(0+a)≤(length f))∧(RT (Q86 e g h (take a (drop 0 f))) (Q134 h0_0 (Q30 4 (Q61 h1_0 b c 4 d))) r k)))):=by kernel_rfl
def lv146:List (Nat×List Nat):=[(1000001,[1])]
theorem v146 (a1 o0_0:Int)(a:Nat)(b:RW)(r:TV)(c:List AObj):VE lv146 146 2 r c (Q82 (Q172 2) a1) (Q83 2 o0_0 1 8 0 a 8 b)=
  ((0≤a1∧a1<(a:Int))∧(((0+(toNat a1))<(length b)∧(length (getD b (0+(toNat a1)) []))=8)∧(Q160 [] o0_0 a (List.set b (0+(toNat a1)) (z2l (getD b (0+(toNat a1)) []) 1 [(Q1 (a:Int))])) r c))):=by kernel_rfl
def lv147:List (Nat×List Nat):=[]
theorem v147 (a:Int)(b:List UInt8)(c:Int)(d:RW)(r:TV)(e:List AObj):VE lv147 147 0 r e [Q86 a b c d] []=
  (∃ g:Bool,((Q132 15 (Q86 a b c d) g)∧(br (!g) (Q183 1 r e) (∃ f:List Cl×Int,((Q186 130 (Q104 (Q86 a b c d) [Q2 0,Q24,Q105]) (Q84 [Q8 9 (CLs f.1)] f.2))∧(Q107 (Q84 [Q8 9 (CLs f.1)] f.2) r e)))))):=by kernel_rfl
def lv138:List (Nat×List Nat):=[]
theorem v138 (c:Int)(r:TV)(a:List AObj):VE lv138 138 0 r a [.c (Q0 (.int .u8 c))] []=
  (br (decide ((c:Int)≥(48:Int))) (Q78 (decide ((c:Int)≤(57:Int))) r a) (Q52 r a)):=by kernel_rfl
def lv140:List (Nat×List Nat):=[]
theorem v140 (f:Int)(g:List UInt8)(h:Int)(i:RW)(j:Bool)(a:Int)(b:List UInt8)(c:Int)(d:RW)(r:TV)(e:List AObj):VE lv140 140 0 r e [Q86 f g h i,Q13 j,Q86 a b c d] []=
  (br (!j) (RT (Q86 a b c d) [] r e) (((4:Nat)=4∧2≤2)∧(∃ k:Tm,((Q7 102 [Q127 0 [44] 0,Q99 4 [[(Q1 f),(.str g),(Q1 h),(Q136 i)],[(Q1 a),(.str b),(Q1 c),(Q136 d)]]] [] (aT k) [])∧(RT (aT k) [] r e))))):=by kernel_rfl
def zb3:List (Nat×List Nat):=[(1,[1,6,7]),(5,[1,6,7,8]),(9,[1,6,9])]
theorem v139 (d:Int)(e:List UInt8)(f:Int)(a:RW)(k:Int)(r:TV)(b:List AObj):VE zb3 139 0 r b (Q82 (Q86 d e f a) k) []=
  (br ((d:Int)==(5:Int)) (((FV.L 4 (Q136 a)=true)∧((0≤(0:Int))∧(((0:Int)<(length a:Int))∧(((rE (getD a 0 [])):List FV)=(getD a 0 [])))))∧(∃ g:Bool,((Q147 139 (aE (getD a 0 [])) (IntKind.wrap .i64 (k+1)) g)∧(Q78 g r b)))) (∃ c:Tm×List Tm,((Q186 14 [Q86 d e f a] (Q89 (cT c.1) [Q8 4 (FTs c.2)]))∧(br ((c.1.k:Int)==(5:Int)) (Q52 r b) (br ((c.1.k:Int)==(4:Int)) (Q34 139 0 r b 1 (Q69 (Q189 k) (Q166 6 (FTs c.2)) 7 0) [] 0) (br ((c.1.k:Int)==(3:Int)) (br (decide ((c.1.n:Int)≥k)) (Q34 139 0 r b 1 (Q69 (Q189 k) (Q166 6 (FTs c.2)) 7 0) [] 0) (Q34 139 0 r b 9 (Q69 (Q189 k) (Q166 6 (FTs c.2)) 9 0) [] 0)) (Q34 139 0 r b 9 (Q69 (Q189 k) (Q166 6 (FTs c.2)) 9 0) [] 0))))))):=by kernel_rfl
theorem zq1 (d:Int)(a:RW)(b:Int)(r:TV)(c:List AObj):VQ zb3 139 0 r c 1 ⟨Q69 (Q189 d) (Q166 6 a) 7 b,[],0⟩=
  ((FV.L 4 (Q136 a)=true)∧(br (decide ((b:Int)<(length a:Int))) (((FV.L 4 (Q136 a)=true)∧((0≤b)∧((b<(length a:Int))∧(((rE (getD a (toNat b) [])):List FV)=(getD a (toNat b) [])))))∧(br (((FV.I (getD (getD a (toNat b) []) 0 FV.N)):Int) !=(3:Int)) (Q52 r c) (((FV.L 4 (Q136 a)=true)∧((0≤b)∧((b<(length a:Int))∧(((rE (getD a (toNat b) [])):List FV)=(getD a (toNat b) [])))))∧(br (decide (((FV.I (getD (getD a (toNat b) []) 2 FV.N)):Int)≥d)) (Q52 r c) (Q34 139 0 r c 5 (Q152 (Q189 d) (Q166 6 a) 7 b 8 0) [] 0))))) (Q123 r c))):=by kernel_rfl
theorem zqm (d:Int)(a:RW)(c:Int)(r:TV)(b:List AObj):VQ zb3 139 0 r b 9 ⟨Q69 (Q189 d) (Q166 6 a) 9 c,[],0⟩=
  ((FV.L 4 (Q136 a)=true)∧(br (decide ((c:Int)<(length a:Int))) (((FV.L 4 (Q136 a)=true)∧((0≤c)∧((c<(length a:Int))∧(((rE (getD a (toNat c) [])):List FV)=(getD a (toNat c) [])))))∧(∃ e:Bool,((Q147 139 (aE (getD a (toNat c) [])) d e)∧(br (!e) (Q52 r b) (Q34 139 0 r b 9 (Q69 (Q189 d) (Q166 6 a) 9 (IntKind.wrap .i64 (c+1))) [] 0))))) (Q123 r b))):=by kernel_rfl
theorem zpy (d:Int)(a:RW)(x7 c:Int)(r:TV)(b:List AObj):VQ zb3 139 0 r b 5 ⟨Q152 (Q189 d) (Q166 6 a) 7 x7 8 c,[],0⟩=
  (br (decide ((c:Int)<x7)) (((FV.L 4 (Q136 a)=true)∧((0≤c)∧((c<(length a:Int))∧(((rE (getD a (toNat c) [])):List FV)=(getD a (toNat c) [])))))∧(((FV.L 4 (Q136 a)=true)∧((0≤x7)∧((x7<(length a:Int))∧(((rE (getD a (toNat x7) [])):List FV)=(getD a (toNat x7) [])))))∧(br (((FV.I (getD (getD a (toNat c) []) 2 FV.N)):Int)==(FV.I (getD (getD a (toNat x7) []) 2 FV.N))) (Q52 r b) (Q34 139 0 r b 5 (Q152 (Q189 d) (Q166 6 a) 7 x7 8 (IntKind.wrap .i64 (c+1))) [] 0)))) (Q34 139 0 r b 1 (Q69 (Q189 d) (Q166 6 a) 7 (IntKind.wrap .i64 (x7+1))) [] 0)):=by kernel_rfl
def lv148:List (Nat×List Nat):=[]
theorem v148 (a:Int)(c:List UInt8)(d:Int)(t_3 l:RW)(r:TV)(b:List AObj):VE lv148 148 0 r b [Q86 a c d t_3,Q99 4 l] []=
  (br ((a:Int)==(6:Int)) ((FV.L 4 (Q136 l)=true)∧(br (decide (((length l:Int):Int)>(1:Int))) (((FV.L 4 (Q136 l)=true)∧((0≤(0:Int))∧(((0:Int)<(length l:Int))∧(((rE (getD l 0 [])):List FV)=(getD l 0 [])))))∧(br (((FV.I (getD (getD l 0 []) 0 FV.N)):Int)==(6:Int)) (((FV.L 4 (Q136 t_3)=true)∧((0≤(0:Int))∧(((0:Int)<(length t_3:Int))∧(((rE (getD t_3 0 [])):List FV)=(getD t_3 0 [])))))∧(br (((FV.I (getD (getD t_3 0 []) 0 FV.N)):Int) !=(6:Int)) (((FV.L 4 (Q136 l)=true)∧((0≤(0:Int))∧(((0:Int)<(length l:Int))∧(((rE (getD l 0 [])):List FV)=(getD l 0 [])))))∧((FV.L 4 (Q136 l)=true)∧(((0≤(1:Int))∧(((1:Int)≤(length l:Int))∧((length l:Int)≤(length l:Int))))∧(∃ e:Tm,((Q7 102 [(aE (getD l 0 [])),Q99 4 (drop 1 (take (toNat (length l:Int)) l))] [] (aT e) [])∧(RT (aT e) [] r b)))))) (RT (Q86 a c d l) [] r b))) (RT (Q86 a c d l) [] r b))) (RT (Q86 a c d l) [] r b))) (RT (Q86 a c d l) [] r b)):=by kernel_rfl
theorem v84_F117 (s:RW)(a:Int)(r:TV)(b:List AObj):VE lv84 84 1 r b (Q122 4 s (.fn (.func 117) [] [(false,[Q146])])) (Q131 a)=
  ((FV.L 4 (Q136 s)=true)∧(Q34 84 1 r b 1 (Q152 (Q166 0 s) (Q6 1 (.fn (.func 117) [] [(false,[Q146])])) 7 (length s:Int) 8 0) [Q9 0 1 [Q51 a]] 1)):=by kernel_rfl
theorem zbx (c:RW)(x7 b h0_0:Int)(r:TV)(a:List AObj):VQ lv84 84 1 r a 1 ⟨Q152 (Q166 0 c) (Q6 1 (.fn (.func 117) [] [(false,[Q146])])) 7 x7 8 b,[Q9 0 1 [Q51 h0_0]],1⟩=
  (br (decide ((b:Int)<x7)) (((FV.L 4 (Q136 c)=true)∧((0≤b)∧((b<(length c:Int))∧(((rE (getD c (toNat b) [])):List FV)=(getD c (toNat b) [])))))∧(∃ d:Bool,((Q35 117 (Q173 (aE (getD c (toNat b) [])) 1) (Q131 h0_0) d (Q131 h0_0))∧(br d (Q79 b (Q131 h0_0) r a) (Q34 84 1 r a 1 (Q152 (Q166 0 c) (Q6 1 (.fn (.func 117) [] [(false,[Q146])])) 7 x7 8 (IntKind.wrap .i64 (b+1))) [Q9 0 1 [Q51 h0_0]] 1))))) (Q79 (-1:Int) (Q131 h0_0) r a)):=by kernel_rfl
def lv122:List (Nat×List Nat):=[]
theorem v122 (e:List UInt8)(d_1 d d_3 d_4:Int)(f:RW)(a:List UInt8)(o0_1 o0_2 o0_3 o0_4:Int)(b:RW)(r:TV)(c:List AObj):VE lv122 122 1 r c (Q173 (Q153 e d_1 d d_3 d_4 8 f) 6) (Q115 6 a o0_1 o0_2 o0_3 o0_4 8 b)=
  (br (decide ((d:Int)>o0_4)) (Q21 true (Q115 6 a o0_1 o0_2 o0_3 o0_4 8 b) r c) (∃ g:Bool,((Q132 13 (Q153 e d_1 d d_3 d_4 8 f) g)∧(Q21 (!g) (Q115 6 a o0_1 o0_2 o0_3 o0_4 8 b) r c)))):=by kernel_rfl
def lv40:List (Nat×List Nat):=[]
theorem v40 (a:Int)(b:List UInt8)(c:Int)(d:RW)(r:TV)(e:List AObj):VE lv40 40 0 r e [Q86 a b c d] []=
  (∃ f:Bool,((Q132 15 (Q86 a b c d) f)∧(Q78 (!f) r e))):=by kernel_rfl
def lv128:List (Nat×List Nat):=[]
theorem v128 (b:Int)(c:List UInt8)(d:Int)(e:RW)(a:Int)(r:TV)(f:List AObj):VE lv128 128 1 r f (Q173 (Q86 b c d e) 1) (Q131 a)=
  (∃ g:Bool,((Q147 90 (Q86 b c d e) a g)∧(Q21 (!g) (Q131 a) r f))):=by kernel_rfl
theorem v39_F155 (s:RW)(r:TV)(a:List AObj):VE lv39 39 0 r a (Q122 4 s (.fn (.func 155) [] [])) []=
  (∃ b:Int,((Q73 84 (Q122 4 s (.fn (.func 155) [] [])) [] b [])∧(Q78 (decide ((b:Int)≥(0:Int))) r a))):=by kernel_rfl
def zrx:List (Nat×List Nat):=[(1,[2,3,17,18,19])]
theorem v157 (c:Int)(a:RW)(d:Bool)(r:TV)(b:List AObj):VE zrx 157 0 r b [Q181 c (Q8 4 a) d] []=
  ((FV.L 4 (Q136 a)=true)∧(br (((length a:Int):Int)==(0:Int)) (RT (Q127 0 [116,114,117,101] 0) [] r b) (((FV.L 4 (Q136 a)=true)∧((0≤(0:Int))∧(((0:Int)<(length a:Int))∧(((rE (getD a 0 [])):List FV)=(getD a 0 [])))))∧((FV.L 4 (Q136 a)=true)∧(((0≤(1:Int))∧(((1:Int)≤(length a:Int))∧((length a:Int)≤(length a:Int))))∧((FV.L 4 (Q136 (drop 1 (take (toNat (length a:Int)) a)))=true)∧(Q57 157 0 r b 1 (Q111 (Q101 4) (Q98 3 4) (Q166 17 (drop 1 (take (toNat (length a:Int)) a))) (Q20 18 (((length (drop 1 (take (toNat (length a:Int)) a))):Nat):Int)) 19 0) 0 4 (Q148 0 [] 0) (Q9 1 4 [(cE (getD a 0 []))]) 2))))))):=by kernel_rfl
theorem zs2 (b:RW)(x18 a h0_0:Int)(f:List UInt8)(h0_2 h1_0:Int)(c:List UInt8)(d:Int)(e:RW)(r:TV)(g:List AObj):VQ zrx 157 0 r g 1 ⟨Q111 (Q101 4) (Q98 3 4) (Q166 17 b) (Q20 18 x18) 19 a,Q56 0 4 (Q148 h0_0 f h0_2) (Q188 1 h1_0 c d e),2⟩=
  (br (decide ((a:Int)<x18)) (((FV.L 4 (Q136 b)=true)∧((0≤a)∧((a<(length b:Int))∧(((rE (getD b (toNat a) [])):List FV)=(getD b (toNat a) [])))))∧(((4:Nat)=4∧2≤2)∧(∃ h:Tm,((Q7 16 [Q127 0 [44] 0,Q99 4 [[(Q1 h1_0),(.str c),(Q1 d),(Q136 e)],(rE (getD b (toNat a) []))]] [] (aT h) [])∧(Q57 157 0 r g 1 (Q111 (Q101 4) (Q98 3 4) (Q166 17 b) (Q20 18 x18) 19 (IntKind.wrap .i64 (a+1))) 0 4 (Q148 h0_0 f h0_2) (Q9 1 4 [(cT h)]) 2))))) (RT (Q86 h1_0 c d e) [] r g)):=by kernel_rfl
def lv150:List (Nat×List Nat):=[(1000001,[1])]
theorem v150 (c_0 c_1:Int)(b:List UInt8)(c:Int)(d:RW)(e:Int)(f:List UInt8)(g:Int)(h:RW)(a:Nat)(j:RW)(r:TV)(i:List AObj):VE lv150 150 2 r i (Q173 (.agg (Q169 c_0 c_1 b c 4 d e f g 4 h)) 1) (Q59 (Q97 1 1 9 a) 9 j)=
  ((1≤1)∧((a≤(length j)∧z0d (a+1) 120)∧(Q44 [] (Q167 1 2 9 (a+1) 9 ((take a j)++ [[(Q1 c_0),(Q1 c_1),(.str b),(Q1 c),(Q136 d),(Q1 e),(.str f),(Q1 g),(Q136 h)]])) r i))):=by kernel_rfl
def zky:List (Nat×List Nat):=[(1,[2,3,13,14,15])]
theorem v158 (b:Int)(a:RW)(c:Bool)(r:TV)(d:List AObj):VE zky 158 0 r d [Q181 b (Q8 4 a) c] []=
  ((FV.L 4 (Q136 a)=true)∧(Q57 158 0 r d 1 (Q111 (Q101 3) (Q98 3 3) (Q166 13 a) (Q20 14 (length a:Int)) 15 0) 0 3 [[Q2 0,Q24,Q53]] (Q9 1 3 [[Q2 (IntKind.wrap .i64 (b+1)),Q24,Q3 c]]) 2)):=by kernel_rfl
theorem v158_1a (b:RW)(x14 a h0_0:Int)(e:Bool)(c:Int)(d:Bool)(r:TV)(f:List AObj):VQ zky 158 0 r f 1 ⟨Q111 (Q101 3) (Q98 3 3) (Q166 13 b) (Q20 14 x14) 15 a,Q56 0 3 [[Q2 h0_0,Q24,Q3 e]] (Q9 1 3 [[Q2 c,Q24,Q3 d]]),2⟩=
  (br (decide ((a:Int)<x14)) (((FV.L 4 (Q136 b)=true)∧((0≤a)∧((a<(length b:Int))∧(((rE (getD b (toNat a) [])):List FV)=(getD b (toNat a) [])))))∧(∃ g:Tm,((Q7 99 (Q106 (aE (getD b (toNat a) [])) 0 (Q23 1)) [] (aT g) [])∧((1≤1)∧((z0d 1 56)∧(Q34 158 0 r f 1 (Q111 (Q101 3) (Q98 3 3) (Q166 13 b) (Q20 14 x14) 15 (IntKind.wrap .i64 (a+1))) [Q9 0 3 [[Q2 h0_0,Q24,Q3 e]],Q9 1 3 [[Q2 c,Q80 2 4 1,Q3 d]],Q50 2 4 [(FT4 g)]] 3)))))) (RT (Q181 c Q24 d) [] r f)):=by kernel_rfl
theorem zqd (c:RW)(x14 b h0_0:Int)(f:Bool)(d:Int)(a:Nat)(e:Bool)(h:RW)(r:TV)(g:List AObj):VQ zky 158 0 r g 1 ⟨Q111 (Q101 3) (Q98 3 3) (Q166 13 c) (Q20 14 x14) 15 b,[Q9 0 3 [[Q2 h0_0,Q24,Q3 f]],Q9 1 3 [[Q2 d,Q80 2 4 a,Q3 e]],Q50 2 4 h],3⟩=
  (br (decide ((b:Int)<x14)) (((FV.L 4 (Q136 c)=true)∧((0≤b)∧((b<(length c:Int))∧(((rE (getD c (toNat b) [])):List FV)=(getD c (toNat b) [])))))∧(∃ i:Tm,((Q7 99 (Q106 (aE (getD c (toNat b) [])) 0 (Q23 1)) [] (aT i) [])∧((1≤1)∧((a≤(length h)∧z0d (a+1) 56)∧(Q34 158 0 r g 1 (Q111 (Q101 3) (Q98 3 3) (Q166 13 c) (Q20 14 x14) 15 (IntKind.wrap .i64 (b+1))) [Q9 0 3 [[Q2 h0_0,Q24,Q3 f]],Q9 1 3 [[Q2 d,Q80 2 4 (a+1),Q3 e]],Q50 2 4 ((take a h)++ [(FT4 i)])] 3)))))) ((((4:Nat)=4∧(0+a)≤(length h))∧True)∧(RT (Q181 d (Q8 4 (take a (drop 0 h))) e) [] r g))):=by kernel_rfl
def zqb:List (Nat×List Nat):=[(1,[0,2,3])]
theorem zjw (c:Nat)(b:RW)(r:TV)(a:List AObj):VE lv39 39 1 r a (Q121 (Q165 0 4 c) (.fn (.func 155) [] [])) (Q70 4 b)=
  (∃ d:Int,((Q73 84 (Q121 (Q165 0 4 c) (.fn (.func 155) [] [])) (Q70 4 b) d (Q70 4 b))∧(Q21 (decide ((d:Int)≥(0:Int))) (Q70 4 b) r a))):=by kernel_rfl
theorem v159_i1 (b:Nat)(c:RW)(r:TV)(a:List AObj):VE zqb 159 1 r a [Q165 0 4 b] (Q70 4 c)=
  (Q34 159 1 r a 1 (Q69 (Q85 0 0 4 b) (Q20 2 0) 3 (IntKind.wrap .i64 ((b:Int)-(1:Int)))) [Q50 0 4 c] 1):=by kernel_rfl
theorem zdz (c:Nat)(b x3:Int)(a:RW)(r:TV)(d:List AObj):VQ zqb 159 1 r d 1 ⟨Q69 (Q85 0 0 4 c) (Q20 2 b) 3 x3,[Q50 0 4 a],1⟩=
  (br (decide ((b:Int)<x3)) ((0≤x3∧x3<(c:Int))∧((((0+(toNat x3))<(length a))∧((((rE (getD a (0+(toNat x3)) [])):List FV)=(take 4 (drop 0 (getD a (0+(toNat x3)) []))))∧((4:Nat)=4)))∧((0≤b∧b<(c:Int))∧((((0+(toNat b))<(length a))∧((((rE (getD a (0+(toNat b)) [])):List FV)=(take 4 (drop 0 (getD a (0+(toNat b)) []))))∧((4:Nat)=4)))∧((0≤b∧b<(c:Int))∧(((0+(toNat b))<(length a)∧(length (getD a (0+(toNat b)) []))=4)∧((0≤x3∧x3<(c:Int))∧(((0+(toNat x3))<(length (List.set a (0+(toNat b)) (rE (getD a (0+(toNat x3)) []))))∧(length (getD (List.set a (0+(toNat b)) (rE (getD a (0+(toNat x3)) []))) (0+(toNat x3)) []))=4)∧(Q34 159 1 r d 1 (Q69 (Q85 0 0 4 c) (Q20 2 (IntKind.wrap .i64 (b+1))) 3 (IntKind.wrap .i64 (x3-1))) [Q50 0 4 (List.set (List.set a (0+(toNat b)) (rE (getD a (0+(toNat x3)) []))) (0+(toNat x3)) (rE (getD a (0+(toNat b)) [])))] 1))))))))) (Q44 [] (Q70 4 a) r d)):=by kernel_rfl
def lv135:List (Nat×List Nat):=[]
theorem v135 (a:Int)(c:List UInt8)(b:Int)(d:RW)(k o0_0 o1_0:Int)(r:TV)(e:List AObj):VE lv135 135 2 r e [Q86 a c b d,Q23 k,Q172 1,Q171 1 1] (Q134 o0_0 (Q130 o1_0))=
  (br ((a:Int)==(3:Int)) (br (decide ((b:Int)≥(IntKind.wrap .i64 (k+o0_0)))) (∃ f:Tm,((Q7 133 (Q82 (Q86 a c b d) o1_0) [] (aT f) [])∧(RT (aT f) (Q134 o0_0 (Q130 o1_0)) r e))) (RT (Q86 a c b d) (Q134 o0_0 (Q130 o1_0)) r e)) (RT (Q86 a c b d) (Q134 o0_0 (Q130 o1_0)) r e)):=by kernel_rfl
def lv132:List (Nat×List Nat):=[]
theorem v132 (e:Int)(g:List UInt8)(d:Int)(h:RW)(k o0_0 o1_0:Int)(a:List UInt8)(b:Int)(c:RW)(r:TV)(f:List AObj):VE lv132 132 2 r f [Q86 e g d h,Q23 k,Q172 1,Q171 1 4] (Q134 o0_0 (Q30 4 (Q61 o1_0 a b 4 c)))=
  (br ((e:Int) !=(3:Int)) (RT (Q86 e g d h) (Q134 o0_0 (Q30 4 (Q61 o1_0 a b 4 c))) r f) (br (decide ((d:Int)<(IntKind.wrap .i64 (k+o0_0)))) (RT (Q86 e g d h) (Q134 o0_0 (Q30 4 (Q61 o1_0 a b 4 c))) r f) (br ((d:Int)==(IntKind.wrap .i64 (k+o0_0))) (∃ i:Tm,((Q7 99 (Q106 (Q86 o1_0 a b c) 0 (Q23 k)) [] (aT i) [])∧(RT (aT i) (Q134 o0_0 (Q30 4 (Q61 o1_0 a b 4 c))) r f))) (∃ j:Tm,((Q7 133 (Q82 (Q86 e g d h) (-1:Int)) [] (aT j) [])∧(RT (aT j) (Q134 o0_0 (Q30 4 (Q61 o1_0 a b 4 c))) r f)))))):=by kernel_rfl
def lv117:List (Nat×List Nat):=[]
theorem v117 (b:Int)(c:List UInt8)(d:Int)(e:RW)(a:Int)(r:TV)(f:List AObj):VE lv117 117 1 r f (Q173 (Q86 b c d e) 1) (Q131 a)=
  (∃ g:Bool,((Q147 79 (Q86 b c d e) a g)∧(Q21 (!g) (Q131 a) r f))):=by kernel_rfl
theorem v84_F155 (s:RW)(r:TV)(a:List AObj):VE lv84 84 0 r a (Q122 4 s (.fn (.func 155) [] [])) []=
  ((FV.L 4 (Q136 s)=true)∧(Q34 84 0 r a 1 (Q152 (Q166 0 s) (Q6 1 (.fn (.func 155) [] [])) 7 (length s:Int) 8 0) [] 0)):=by kernel_rfl
theorem zkf (c:RW)(x7 b:Int)(r:TV)(a:List AObj):VQ lv84 84 0 r a 1 ⟨Q152 (Q166 0 c) (Q6 1 (.fn (.func 155) [] [])) 7 x7 8 b,[],0⟩=
  (br (decide ((b:Int)<x7)) (((FV.L 4 (Q136 c)=true)∧((0≤b)∧((b<(length c:Int))∧(((rE (getD c (toNat b) [])):List FV)=(getD c (toNat b) [])))))∧(∃ d:Bool,((Q132 155 (aE (getD c (toNat b) [])) d)∧(br d (Q162 b r a) (Q34 84 0 r a 1 (Q152 (Q166 0 c) (Q6 1 (.fn (.func 155) [] [])) 7 x7 8 (IntKind.wrap .i64 (b+1))) [] 0))))) (Q162 (-1:Int) r a)):=by kernel_rfl
theorem zk4 (b:Nat)(c:RW)(r:TV)(a:List AObj):VE lv84 84 1 r a (Q121 (Q165 0 4 b) (.fn (.func 155) [] [])) (Q70 4 c)=
  (Q34 84 1 r a 1 (Q152 (Q85 0 0 4 b) (Q6 1 (.fn (.func 155) [] [])) 7 (b:Int) 8 0) [Q50 0 4 c] 1):=by kernel_rfl
theorem z74 (d:Nat)(x7 a:Int)(c:RW)(r:TV)(b:List AObj):VQ lv84 84 1 r b 1 ⟨Q152 (Q85 0 0 4 d) (Q6 1 (.fn (.func 155) [] [])) 7 x7 8 a,[Q50 0 4 c],1⟩=
  (br (decide ((a:Int)<x7)) ((0≤a∧a<(d:Int))∧((((0+(toNat a))<(length c))∧((((rE (getD c (0+(toNat a)) [])):List FV)=(take 4 (drop 0 (getD c (0+(toNat a)) []))))∧((4:Nat)=4)))∧(∃ e:Bool,((Q132 155 (aE (getD c (0+(toNat a)) [])) e)∧(br e (Q79 a (Q70 4 c) r b) (Q34 84 1 r b 1 (Q152 (Q85 0 0 4 d) (Q6 1 (.fn (.func 155) [] [])) 7 x7 8 (IntKind.wrap .i64 (a+1))) [Q50 0 4 c] 1)))))) (Q79 (-1:Int) (Q70 4 c) r b)):=by kernel_rfl
def lv133:List (Nat×List Nat):=[]
theorem v133 (a:Int)(b:List UInt8)(c:Int)(d:RW)(f:Int)(r:TV)(e:List AObj):VE lv133 133 0 r e (Q82 (Q86 a b c d) f) []=
  (RT (Q86 a b (IntKind.wrap .i64 (c+f)) d) [] r e):=by kernel_rfl
def lv155:List (Nat×List Nat):=[]
theorem v155 (a:Int)(b:List UInt8)(c:Int)(d:RW)(r:TV)(e:List AObj):VE lv155 155 0 r e [Q86 a b c d] []=
  (∃ f:Bool,((Q147 156 (Q86 a b c d) 0 f)∧(Q78 (!f) r e))):=by kernel_rfl
def lv156:List (Nat×List Nat):=[]
theorem v156 (d:Int)(e:List UInt8)(f:Int)(a:RW)(k:Int)(r:TV)(b:List AObj):VE lv156 156 0 r b (Q82 (Q86 d e f a) k) []=
  (br ((d:Int)==(5:Int)) (((FV.L 4 (Q136 a)=true)∧((0≤(0:Int))∧(((0:Int)<(length a:Int))∧(((rE (getD a 0 [])):List FV)=(getD a 0 [])))))∧(∃ g:Bool,((Q147 156 (aE (getD a 0 [])) (IntKind.wrap .i64 (k+1)) g)∧(Q78 g r b)))) (∃ c:Tm×List Tm,((Q186 54 [Q86 d e f a] (Q89 (cT c.1) [Q8 4 (FTs c.2)]))∧(br ((c.1.k:Int)==(5:Int)) (Q52 r b) (br ((c.1.k:Int)==(4:Int)) (∃ h:Bool,((Q147 162 (Q99 4 (FTs c.2)) k h)∧(Q78 h r b))) (br ((c.1.k:Int)==(3:Int)) (br (decide ((c.1.n:Int)≥k)) (∃ i:Bool,((Q147 162 (Q99 4 (FTs c.2)) k i)∧(Q78 i r b))) (∃ j:Bool,((Q35 39 (Q122 4 (FTs c.2) (.fn (.func 163) [] [(false,[Q146])])) (Q131 k) j (Q131 k))∧(Q78 (!j) r b)))) (∃ l:Bool,((Q35 39 (Q122 4 (FTs c.2) (.fn (.func 163) [] [(false,[Q146])])) (Q131 k) l (Q131 k))∧(Q78 (!l) r b))))))))):=by kernel_rfl
def zr0:List (Nat×List Nat):=[(1,[1,5,9,10,11])]
theorem v162 (l:RW)(k:Int)(r:TV)(b:List AObj):VE zr0 162 0 r b (Q82 (Q99 4 l) k) []=
  ((FV.L 4 (Q136 l)=true)∧(Q34 162 0 r b 1 (Q111 (Q189 k) (Q6 5 (.a (.mp 0))) (Q166 9 l) (Q20 10 (length l:Int)) 11 0) [(0, .mapz [])] 1)):=by kernel_rfl
theorem zuo (f:Int)(d:RW)(x10 b:Int)(e:List MapZ)(r:TV)(c:List AObj):VQ zr0 162 0 r c 1 ⟨Q111 (Q189 f) (Q6 5 (.a (.mp 0))) (Q166 9 d) (Q20 10 x10) 11 b,[(0, .mapz e)],1⟩=
  (br (decide ((b:Int)<x10)) (((FV.L 4 (Q136 d)=true)∧((0≤b)∧((b<(length d:Int))∧(((rE (getD d (toNat b) [])):List FV)=(getD d (toNat b) [])))))∧(br (((FV.I (getD (getD d (toNat b) []) 0 FV.N)):Int) !=(3:Int)) (Q52 r c) (br (decide (((FV.I (getD (getD d (toNat b) []) 2 FV.N)):Int)≥f)) (Q52 r c) ((∃ g:Bool,((zda ((false,[EK.int]),(false,[Q53])) [(Q1 (FV.I (getD (getD d (toNat b) []) 2 FV.N)))] e=some (some [(.bool g)]))∧(br g (Q52 r c) (∃ h:List MapZ,((updZ ((false,[EK.int]),(false,[Q53])) [(Q1 (FV.I (getD (getD d (toNat b) []) 2 FV.N)))] (false,[(.bool true)]) e=some h)∧(Q34 162 0 r c 1 (Q111 (Q189 f) (Q6 5 (.a (.mp 0))) (Q166 9 d) (Q20 10 x10) 11 (IntKind.wrap .i64 (b+1))) [(0, .mapz h)] 1))))))∨((zda ((false,[EK.int]),(false,[Q53])) [(Q1 (FV.I (getD (getD d (toNat b) []) 2 FV.N)))] e=some none)∧(∃ i:List MapZ,((updZ ((false,[EK.int]),(false,[Q53])) [(Q1 (FV.I (getD (getD d (toNat b) []) 2 FV.N)))] (false,[(.bool true)]) e=some i)∧(Q34 162 0 r c 1 (Q111 (Q189 f) (Q6 5 (.a (.mp 0))) (Q166 9 d) (Q20 10 x10) 11 (IntKind.wrap .i64 (b+1))) [(0, .mapz i)] 1)))))))) (Q123 r c)):=by kernel_rfl
theorem v39_F163 (s:RW)(a:Int)(r:TV)(b:List AObj):VE lv39 39 1 r b (Q122 4 s (.fn (.func 163) [] [(false,[Q146])])) (Q131 a)=
  (∃ c:Int,((Q73 84 (Q122 4 s (.fn (.func 163) [] [(false,[Q146])])) (Q131 a) c (Q131 a))∧(Q21 (decide ((c:Int)≥(0:Int))) (Q131 a) r b))):=by kernel_rfl
theorem v84_F163 (s:RW)(a:Int)(r:TV)(b:List AObj):VE lv84 84 1 r b (Q122 4 s (.fn (.func 163) [] [(false,[Q146])])) (Q131 a)=
  ((FV.L 4 (Q136 s)=true)∧(Q34 84 1 r b 1 (Q152 (Q166 0 s) (Q6 1 (.fn (.func 163) [] [(false,[Q146])])) 7 (length s:Int) 8 0) [Q9 0 1 [Q51 a]] 1)):=by kernel_rfl
theorem zd1 (c:RW)(x7 b h0_0:Int)(r:TV)(a:List AObj):VQ lv84 84 1 r a 1 ⟨Q152 (Q166 0 c) (Q6 1 (.fn (.func 163) [] [(false,[Q146])])) 7 x7 8 b,[Q9 0 1 [Q51 h0_0]],1⟩=
  (br (decide ((b:Int)<x7)) (((FV.L 4 (Q136 c)=true)∧((0≤b)∧((b<(length c:Int))∧(((rE (getD c (toNat b) [])):List FV)=(getD c (toNat b) [])))))∧(∃ d:Bool,((Q35 163 (Q173 (aE (getD c (toNat b) [])) 1) (Q131 h0_0) d (Q131 h0_0))∧(br d (Q79 b (Q131 h0_0) r a) (Q34 84 1 r a 1 (Q152 (Q166 0 c) (Q6 1 (.fn (.func 163) [] [(false,[Q146])])) 7 x7 8 (IntKind.wrap .i64 (b+1))) [Q9 0 1 [Q51 h0_0]] 1))))) (Q79 (-1:Int) (Q131 h0_0) r a)):=by kernel_rfl
def lv163:List (Nat×List Nat):=[]
theorem v163 (b:Int)(c:List UInt8)(d:Int)(e:RW)(a:Int)(r:TV)(f:List AObj):VE lv163 163 1 r f (Q173 (Q86 b c d e) 1) (Q131 a)=
  (∃ g:Bool,((Q147 156 (Q86 b c d e) a g)∧(Q21 (!g) (Q131 a) r f))):=by kernel_rfl
def lv6:List (Nat×List Nat):=[]
theorem v6 (e:Int)(f:List UInt8)(g:Int)(h:RW)(b:Int)(r:TV)(a:List AObj):VE lv6 6 0 r a (Q82 (Q86 e f g h) b) []=
  (∃ i:Bool,((Q76 7 [] i)∧(br (!i) (Q52 r a) (∃ j:Bool,((Q147 17 (Q86 e f g h) 80 j)∧(∃ k:Bool,((Q147 18 (Q86 e f g h) 1000 k)∧(br j (Q78 i r a) (br (!k) (Q78 i r a) (br (decide ((b:Int)>(5000:Int))) (Q78 i r a) (∃ c:Cd×Int,((Q186 19 (Q82 (Q86 e f g h) b) (Q65 (Q64 (Q32 c.1.nm c.1.ar c.1.fr c.1.vs c.1.sl 8 (FIs c.1.ins))) c.2))∧(∃ d:Cd×Int,((Q186 20 (Q82 (Q86 e f g h) b) (Q65 (Q64 (Q32 d.1.nm d.1.ar d.1.fr d.1.vs d.1.sl 8 (FIs d.1.ins))) d.2))∧(∃ l:Bool,((Q76 11 (Q104 (Q153 c.1.nm c.1.ar c.1.fr c.1.vs c.1.sl 8 (FIs c.1.ins)) (Q32 d.1.nm d.1.ar d.1.fr d.1.vs d.1.sl 8 (FIs d.1.ins))) l)∧(br i (br l (Q78 ((c.2:Int)==d.2) r a) (Q52 r a)) (Q52 r a)))))))))))))))))):=by kernel_rfl
def lv19:List (Nat×List Nat):=[]
theorem v19 (e:Int)(f:List UInt8)(g:Int)(h:RW)(a:Int)(r:TV)(i:List AObj):VE lv19 19 0 r i (Q82 (Q86 e f g h) a) []=
  (∃ j:Bool,((Q76 21 [.c Q24,Q86 e f g h,Q23 a] j)∧(br (!j) (Q107 (Q65 (Q64 (Q28 [] 0 0 0 0 Q24)) 240) r i) (∃ d:Int×List In1,((Q67 43 [Q172 2,Q86 e f g h] (Q83 2 a 1 8 0 0 8 []) [] (Q158 d.1 (length d.2) (FIs d.2)))∧(((8:Nat)=8∧(0+(length d.2))≤(length (FIs d.2)))∧(∃ b:Cd×Int,((Q186 22 [Q153 [113,117,101,114,121] 0 0 a d.1 8 (take (length d.2) (drop 0 (FIs d.2)))] (Q65 (Q64 (Q32 b.1.nm b.1.ar b.1.fr b.1.vs b.1.sl 8 (FIs b.1.ins))) b.2))∧(Q107 (Q65 (Q64 (Q32 b.1.nm b.1.ar b.1.fr b.1.vs b.1.sl 8 (FIs b.1.ins))) b.2) r i))))))))):=by kernel_rfl
def lv20:List (Nat×List Nat):=[]
theorem v20 (e:Int)(f:List UInt8)(g:Int)(h:RW)(a:Int)(r:TV)(d:List AObj):VE lv20 20 0 r d (Q82 (Q86 e f g h) a) []=
  (∃ j:Bool,((Q76 12 [.c Q24,Q86 e f g h,Q23 a] j)∧(br (!j) (Q107 (Q65 (Q64 (Q28 [] 0 0 0 0 Q24)) 240) r d) (∃ i:Int×List In1,((Q67 44 (Q184 2 (Q86 e f g h) (Q13 true)) (Q83 2 a 1 8 0 0 8 []) [] (Q158 i.1 (length i.2) (FIs i.2)))∧(∃ b:Int×List In1,((Q67 45 [Q172 2] (Q83 2 i.1 1 8 0 (length i.2) 8 (FIs i.2)) [] (Q158 b.1 (length b.2) (FIs b.2)))∧(((8:Nat)=8∧(0+(length b.2))≤(length (FIs b.2)))∧(∃ k:Bool,((Q132 25 (Q153 [113,117,101,114,121] 0 0 a b.1 8 (take (length b.2) (drop 0 (FIs b.2)))) k)∧(br (!k) (Q107 (Q65 (Q64 (Q28 [] 0 0 0 0 Q24)) 240) r d) (Q107 (Q65 (Q64 (Q32 [113,117,101,114,121] 0 0 a b.1 8 (take (length b.2) (drop 0 (FIs b.2))))) 0) r d)))))))))))):=by kernel_rfl
-- STUCK (160, '(lambent/clause.around).with', "append to ('c', ('a', ('fz', ('x', 'y1'))))",('(lambent/clause.around).with',5, 'clause.go:131', 'call'))
end Go.AM

set_option maxRecDepth 100000
open Go Go.Proofs

set_option maxRecDepth 100000
open Go Go.Proofs

set_option maxRecDepth 100000
open Go Go.Proofs
namespace Go.AM
def z73 (c:Int):Bool:=decide (97≤c)&&decide (c≤122)
def z86 (c:Int):Bool:=decide (65≤c)&&decide (c≤90)||c==95
def zbw (c:Int):Bool:=decide (48≤c)&&decide (c≤57)
def z1h (c:Int):Bool:=z73 c||z86 c||zbw c||c==39
def zf6:List UInt8:=[43,45,42,47,60,62,61,38,124,94,126,64,35,36,63,58]
def z7k (c:Int):Bool:=decide (Lib.indexByte zf6 c.toNat.toUInt8≥0)
theorem ztt (c:Int):AC Tryz.prog 70 [c8 c] [] (cb (z73 c)) []:=by
 refine AC.vc hP sh lv70 (Nat.le_refl _) (by simp) (by simp) (Eq.mpr (v70 ..) ?_);refine z02 (fun h=>z04 ?_) (fun h=>z04 ?_)<;>simp_all [z73]<;>omega
theorem c_great (c:Int):AC Tryz.prog 110 [c8 c] [] (cb (z86 c)) []:=by
 refine AC.vc hP sh lv110 (Nat.le_refl _) (by simp) (by simp) (Eq.mpr (v110 ..) ?_);refine z02 (fun h=>z02 (fun h=>z04 ?_) (fun h=>z04 ?_)) (fun h=>z04 ?_)<;>simp_all [z86]<;>omega
theorem c_digit (c:Int):AC Tryz.prog 111 [c8 c] [] (cb (zbw c)) []:=by
 refine AC.vc hP sh lv111 (Nat.le_refl _) (by simp) (by simp) (Eq.mpr (v111 ..) ?_);refine z02 (fun h=>z04 ?_) (fun h=>z04 ?_)<;>simp_all [zbw]<;>omega
theorem c_inside (c:Int):AC Tryz.prog 72 [c8 c] [] (cb (z1h c)) []:=by
 refine AC.vc hP sh lv72 (Nat.le_refl _) (by simp) (by simp) (Eq.mpr (v72 ..) ?_);refine ⟨_,ztt c,z02 (fun h=>z04 ?_) (fun h=>⟨_,c_great c,z02 (fun h=>z04 ?_) (fun h=>⟨_,c_digit c,z02 (fun h=>z04 ?_) (fun h=>z04 ?_)⟩)⟩)⟩<;>simp_all [z1h]
theorem zij (s:List UInt8)(c:Int):AC Tryz.prog 141 [cs s,c8 c] [] (ci (Lib.indexByte s c.toNat.toUInt8)) []:=
 AC.str_u8 (by kernel_rfl) fun w=>Tryz.stringslite_IndexByte ⟨s.toArray⟩ c w
theorem zjl (s:List UInt8)(c:Int):AC Tryz.prog 112 [cs s,c8 c] [] (ci (Lib.indexByte s c.toNat.toUInt8)) []:=
 AC.str_u8 (by kernel_rfl) fun w=>Tryz.strings_IndexByte ⟨s.toArray⟩ c w
theorem c_sign (c:Int):AC Tryz.prog 73 [c8 c] [] (cb (z7k c)) []:=by
 refine AC.vc hP sh lv73 (Nat.le_refl _) (by simp) (by simp) (Eq.mpr (v73 ..) ?_);exact ⟨_,zjl _ c,z04 rfl⟩
def runN (p:Int→Bool):List UInt8→Nat
 | []=>0
 | c::s=>if p (c.toNat:Int) then runN p s+1 else 0
theorem ztm (p:Int→Bool):∀ s:List UInt8,runN p s≤s.length
 | []=>Nat.le_refl _
 | c::s=>by have:=ztm p s;simp only [runN,List.length_cons];split<;>omega
theorem zbg (a:List UInt8)(c:UInt8)(b:List UInt8):List.getD (a++c::b) (Int.toNat (a.length:Int)) 0=c:=by simp [List.getD]
theorem za7:∀ (b a:List UInt8),(a++b).length≤B→RPt Tryz.prog 71 0 (ci ((a.length:Int)+runN z1h b)) [] 1 ⟨[(0,cs (a++b)),(1, .c (.fn (.func 72) [] [])),(7,ci (((a++b).length:Nat):Int)),(8,ci a.length)],[],0⟩
 | [],a,hl=>by
  refine RPt.vc hP sh lv71 (Eq.mpr (ze0 ..) ?_);exact z02 (fun h=>absurd h (by simp)) (fun _=>z0z (by simp [runN]))
 | c::b,a,hl=>by
  refine RPt.vc hP sh lv71 (Eq.mpr (ze0 ..) ?_);have hl':=hl;simp only [List.length_append,List.length_cons,B] at hl';refine z02 (fun _=>⟨⟨by omega,by simp;omega⟩,z1h (c.toNat:Int), ?_,z02 (fun h=>z0z ?_) (fun h=> ?_)⟩) (fun h=>absurd h (by simp;omega))
  · rw [zbg];exact c_inside _
  · simp_all [runN]
  · have:=za7 b (a++ [c]) (by simpa using hl);rw [w64 (by omega) (by omega)];simp only [List.append_assoc,List.cons_append,List.nil_append,List.length_append,List.length_cons,List.length_nil,Int.natCast_add,Int.natCast_one,Int.natCast_zero,Int.zero_add] at this;simp only [Bool.not_eq_false'] at h;simp only [runN,h,if_true,List.length_append,List.length_cons,Int.natCast_add,Int.natCast_one];rw [show (a.length:Int)+((runN z1h b:Nat)+1:Int)=(a.length:Int)+1+(runN z1h b:Nat) by omega];exact this
theorem ziv (s:List UInt8)(h:s.length≤B):AC Tryz.prog 71 [cs s, .c (.fn (.func 72) [] [])] [] (ci (runN z1h s)) []:=by
 refine AC.vc hP sh lv71 (Nat.le_refl _) (by simp) (by simp) (Eq.mpr (v71_F72 ..) ?_);have:=za7 s [] (by simpa using h);simpa using this
theorem zea:∀ (b a:List UInt8),(a++b).length≤B→RPt Tryz.prog 71 0 (ci ((a.length:Int)+runN z7k b)) [] 1 ⟨[(0,cs (a++b)),(1, .c (.fn (.func 73) [] [])),(7,ci (((a++b).length:Nat):Int)),(8,ci a.length)],[],0⟩
 | [],a,hl=>by
  refine RPt.vc hP sh lv71 (Eq.mpr (zdt ..) ?_);exact z02 (fun h=>absurd h (by simp)) (fun _=>z0z (by simp [runN]))
 | c::b,a,hl=>by
  refine RPt.vc hP sh lv71 (Eq.mpr (zdt ..) ?_);have hl':=hl;simp only [List.length_append,List.length_cons,B] at hl';refine z02 (fun _=>⟨⟨by omega,by simp;omega⟩,z7k (c.toNat:Int), ?_,z02 (fun h=>z0z ?_) (fun h=> ?_)⟩) (fun h=>absurd h (by simp;omega))
  · rw [zbg];exact c_sign _
  · simp_all [runN]
  · have:=zea b (a++ [c]) (by simpa using hl);rw [w64 (by omega) (by omega)];simp only [List.append_assoc,List.cons_append,List.nil_append,List.length_append,List.length_cons,List.length_nil,Int.natCast_add,Int.natCast_one,Int.natCast_zero,Int.zero_add] at this;simp only [Bool.not_eq_false'] at h;simp only [runN,h,if_true,List.length_append,List.length_cons,Int.natCast_add,Int.natCast_one];rw [show (a.length:Int)+((runN z7k b:Nat)+1:Int)=(a.length:Int)+1+(runN z7k b:Nat) by omega];exact this
theorem zp2 (s:List UInt8)(h:s.length≤B):AC Tryz.prog 71 [cs s, .c (.fn (.func 73) [] [])] [] (ci (runN z7k s)) []:=by
 refine AC.vc hP sh lv71 (Nat.le_refl _) (by simp) (by simp) (Eq.mpr (v71_F73 ..) ?_);have:=zea s [] (by simpa using h);simpa using this
theorem z7r (p:Int→Bool):∀ s:List UInt8,(((runN p s:Nat):Int)==((s.length:Nat):Int))=s.all fun c=>p (c.toNat:Int)
 | []=>rfl
 | c::s=>by
  have ih:=z7r p s;have:=ztm p s;simp only [runN,List.all_cons,List.length_cons];cases h:p (c.toNat:Int) with
  | true=>rw [←ih];simp only [if_true,Bool.true_and];rw [Bool.eq_iff_iff];simp<;>omega
  | false=>simp;omega
def zcz (s:List UInt8):Bool:= !(s==[])&&decide ((s.length:Int)≤32)
theorem c_fits (s:List UInt8):AC Tryz.prog 69 [cs s] [] (cb (zcz s)) []:=by
 refine AC.vc hP sh lv69 (Nat.le_refl _) (by simp) (by simp) (Eq.mpr (v69 ..) ?_);refine z02 (fun h=>z04 ?_) (fun h=>z04 ?_)<;>simp_all [zcz]
def z5r (s:List UInt8):Bool:=zcz s&&z73 ((s.getD 0 0).toNat:Int)&&s.all fun c=>z1h (c.toNat:Int)
theorem zjs {s:List UInt8}(h:zcz s=true):0<s.length∧s.length≤32:=by
 simp only [zcz,Bool.and_eq_true,Bool.not_eq_true',decide_eq_true_eq] at h;refine ⟨?_,by omega⟩;cases s with
 | nil=>simp at h
 | cons c s=>simp
theorem zmu (s:List UInt8):AC Tryz.prog 33 [cs s] [] (cb (z5r s)) []:=by
 refine AC.vc hP sh lv33 (Nat.le_refl _) (by simp) (by simp) (Eq.mpr (v33 ..) ?_);refine ⟨_,c_fits s,z02 (fun h=>⟨⟨by omega,by have:=zjs h;omega⟩,_,ztt _,z02 (fun h2=>⟨_,ziv s (by have:=zjs h;simp only [B];omega),z04 ?_⟩) (fun h2=>z04 ?_)⟩) (fun h=>z04 ?_)⟩
 · rw [z7r];simp only [z5r,h,h2,Bool.true_and]
 · simp only [z5r,h,h2,Bool.and_false,Bool.false_and]
 · simp only [z5r,h,Bool.false_and]
def zl2:List UInt8:=[44,59,33]
theorem zkt (s:List UInt8)(c:UInt8)(hs:s.length≤B):AC Tryz.prog 74 [cs s,cs [c]] [] (cb (decide (Lib.indexByte s c≥0))) []:=by
 have hb:(c.toNat:Int).toNat.toUInt8=c:=by simp
 have h1:AC Tryz.prog 142 [cs s,cs [c]] [] (ci (if [c]==s then 0 else Lib.indexByte s c)) []:=by
  refine AC.vc hP sh lv142 (Nat.le_refl _) (by simp) (by simp) (Eq.mpr (v142 ..) ?_);refine z02 (fun h=>absurd h (by simp)) (fun _=>z02 (fun h=>z0z (by simp [h])) (fun h=>z02 (fun _=>⟨⟨by omega,by simp⟩,_,zij s _,z0z ?_⟩) (fun h2=>absurd h2 (by simp))));rw [h];simp
 have h2:AC Tryz.prog 113 [cs s,cs [c]] [] (ci (if [c]==s then 0 else Lib.indexByte s c)) []:=by
  refine AC.vc hP sh lv113 (Nat.le_refl _) (by simp) (by simp) (Eq.mpr (v113 ..) ?_);exact ⟨_,h1,z0z rfl⟩
 refine AC.vc hP sh lv74 (Nat.le_refl _) (by simp) (by simp) (Eq.mpr (v74 ..) ?_);refine ⟨_,h2,z04 ?_⟩;by_cases e:[c]=s
 · subst e;simp [Lib.indexByte]
 · have:([c]==s)=false:=by simpa using e
   rw [this];simp
def zaf (s:List UInt8):Bool:=zcz s&&((s.all fun c=>z7k (c.toNat:Int))||((s.length:Int)==1&&decide (Lib.indexByte zl2 (s.getD 0 0)≥0)))
theorem zpq (s:List UInt8):AC Tryz.prog 34 [cs s] [] (cb (zaf s)) []:=by
 refine AC.vc hP sh lv34 (Nat.le_refl _) (by simp) (by simp) (Eq.mpr (v34 ..) ?_);refine ⟨_,c_fits s,z02 (fun h=>⟨_,zp2 s (by have:=zjs h;simp only [B];omega),z02 (fun h2=>z04 ?_) (fun h2=>z02 (fun h3=> ?_) (fun h3=>z04 ?_))⟩) (fun h=>z04 ?_)⟩
 · rw [z7r] at h2;simp only [zaf,h,h2,Bool.true_and,Bool.true_or]
 · rw [z7r] at h2
   match s,h3 with
   | [c],h3=>
    refine ⟨_,zkt zl2 c (by simp [zl2,B]),z04 ?_⟩;simp only [zaf,h,h2,h3,Bool.true_and,Bool.false_or,List.getD_cons_zero]
   | [],h3=>simp at h3
   | _::_::_,h3=>simp at h3;omega
 · rw [z7r] at h2;simp only [zaf,h,h2,h3,Bool.false_and,Bool.false_or,Bool.and_false]
 · simp only [zaf,h,Bool.false_and]
end Go.AM

set_option maxRecDepth 100000
open Go Go.Proofs
namespace Go.AM
mutual
def near (most:Int):Tm→Bool
 | .mk k _ n l=> !(k !=2&&(decide (n>most)||decide (n<0-most)))&&zk6 most l
def zk6 (most:Int):List Tm→Bool
 | []=>true
 | t::l=>near most t&&zk6 most l
end
theorem l_near (most:Int)(k:Int)(s:List UInt8)(n:Int):∀ (b a:List Tm),(∀ u∈b,AC Tryz.prog 18 [aT u,ci most] [] (cb (near most u)) [])→(a++b).length≤B→
  RPt Tryz.prog 18 0 (cb (zk6 most b)) [] 1 ⟨[(1,ci most),(2,(.c (.a (.ep 0 4 0 0)))),(5,ci a.length)],[(0,(.arr 4 [fzs (FT (.mk k s n (a++b)))]))],1⟩
 | [],a,_,hl=>by
  refine RPt.vc hP sh lv18 (Eq.mpr (v18_1a ..) ?_);exact ⟨rfl,z02 (fun h=>absurd (of_decide_eq_true h) (geI' a)) (fun _=>z04 rfl)⟩
 | t::b,a,ih,hl=>by
  refine RPt.vc hP sh lv18 (Eq.mpr (v18_1a ..) ?_);have hl':=hl;simp only [List.length_append,List.length_cons,B] at hl';refine ⟨rfl,z02 (fun _=> ?_) (fun h=>absurd (ltI' a t b) (of_decide_eq_false h))⟩;have h1:=ih t List.mem_cons_self;have h2:=l_near most k s n b (a++ [t]) (fun u hu=>ih u (List.mem_cons_of_mem _ hu)) (by rw [ap];exact hl);have h3:=ltI' a t b;rw [ap,nx] at h2;rw [midI,w64 (by omega) (by omega)];obtain ⟨k',s',n',l'⟩:=t;refine ⟨⟨rfl,by omega,h3,rfl⟩,_,h1,z02 (fun h=>z04 ?_) (fun h=> ?_)⟩
  · simp_all [zk6]
  · simp only [zk6,show near most (.mk k' s' n' l')=true by simpa using h,Bool.true_and];exact h2
theorem c_near (most:Int)(h0:0≤most)(h1:most≤4611686018427387904):∀ t:Tm,t.sz≤B→AC Tryz.prog 18 [aT t,ci most] [] (cb (near most t)) []:=by
 refine Tm.ind fun t ih hs=> ?_;obtain ⟨k,s,n,l⟩:=t;have hl:=Tm.szs_length l;simp only [Tm.sz,B] at hs;refine AC.vc hP sh lv18 (Nat.le_refl _) (by simp) (by simp) (Eq.mpr (v18 k s n (FTs l) most _ _) ?_);have key:=l_near most k s n l [] (fun u hu=>ih u hu (by have:=Tm.szs_mem hu;simp only [B];omega)) (by simp only [List.nil_append,B];omega);rw [w64 (by omega) (by omega)];rw [near];refine z02 (fun h=>z02 (fun h2=>z04 ?_) (fun h2=>z02 (fun h3=>z04 ?_) (fun h3=> ?_))) (fun h=> ?_)
 · simp only [h,h2,Bool.true_or,Bool.and_true,Bool.not_true,Bool.false_and]
 · simp only [h,h3,Bool.or_true,Bool.and_true,Bool.not_true,Bool.false_and]
 · simp only [h2,h3,Bool.or_false,Bool.and_false,Bool.not_false,Bool.true_and];exact key
 · simp only [h,Bool.false_and,Bool.not_false,Bool.true_and];exact key
mutual
def z9n:Tm→Int→Int
 | .mk _ _ _ l,most=>z9h l (most-1)
def z9h:List Tm→Int→Int
 | [],n=>n
 | t::l,n=>if n≥0 then z9h l (z9n t n) else n
end
mutual
theorem zlk:∀ (t:Tm) (n:Int),z9n t n≤n-1∧(0≤n→ -1≤z9n t n)
 | .mk _ _ _ l,n=>by
  have h:=zfu l (n-1);simp only [z9n];exact ⟨h.1,fun hn=>h.2 (by omega)⟩
theorem zfu:∀ (l:List Tm) (n:Int),z9h l n≤n∧(-1≤n→ -1≤z9h l n)
 | [],n=>by simp [z9h]
 | t::l,n=>by
  have h1:=zlk t n;have h2:=zfu l (z9n t n);simp only [z9h];split
  · rename_i h;exact ⟨by omega,fun _=>h2.2 (h1.2 h)⟩
  · exact ⟨Int.le_refl _,fun h=>h⟩
end
theorem l_left (k:Int)(s:List UInt8)(n:Int):∀ (b a:List Tm) (m:Int),(∀ u∈b,∀ m:Int,0≤m→m≤4611686018427387904→AC Tryz.prog 42 [aT u,ci m] [] (ci (z9n u m)) [])→(a++b).length≤B→m≤4611686018427387904→
  RPt Tryz.prog 42 0 (ci (z9h b m)) [] 1 ⟨[(2,(.c (.a (.ep 0 4 0 0)))),(5,ci m),(6,ci a.length)],[(0,(.arr 4 [fzs (FT (.mk k s n (a++b)))]))],1⟩
 | [],a,m,_,hl,hm=>by
  refine RPt.vc hP sh lv42 (Eq.mpr (v42_1a ..) ?_);exact ⟨rfl,z02 (fun h=>absurd (of_decide_eq_true h) (geI' a)) (fun _=>z0z rfl)⟩
 | t::b,a,m,ih,hl,hm=>by
  refine RPt.vc hP sh lv42 (Eq.mpr (v42_1a ..) ?_);have hl':=hl;simp only [List.length_append,List.length_cons,B] at hl';refine ⟨rfl,z02 (fun _=>z02 (fun hm0=> ?_) (fun hm0=>z0z ?_)) (fun h=>absurd (ltI' a t b) (of_decide_eq_false h))⟩
  · have hm0:=of_decide_eq_true hm0;have h1:=ih t List.mem_cons_self m hm0 hm;have hle:=zlk t m;have h2:=l_left k s n b (a++ [t]) (z9n t m) (fun u hu=>ih u (List.mem_cons_of_mem _ hu)) (by rw [ap];exact hl) (by omega);have h3:=ltI' a t b;rw [ap,nx] at h2;rw [midI,w64 (by omega) (by omega)];simp only [z9h,hm0,if_true];obtain ⟨k',s',n',l'⟩:=t;exact ⟨⟨rfl,by omega,h3,rfl⟩,_,h1,h2⟩
  · have hm0:=of_decide_eq_false hm0;simp only [z9h,hm0,if_false]
theorem c_left:∀ t:Tm,t.sz≤B→∀ m:Int,0≤m→m≤4611686018427387904→AC Tryz.prog 42 [aT t,ci m] [] (ci (z9n t m)) []:=by
 refine Tm.ind fun t ih hs m h0 h1=> ?_;obtain ⟨k,s,n,l⟩:=t;have hl:=Tm.szs_length l;simp only [Tm.sz,B] at hs;refine AC.vc hP sh lv42 (Nat.le_refl _) (by simp) (by simp) (Eq.mpr (v42 k s n (FTs l) m _ _) ?_);rw [w64 (by omega) (by omega)];exact l_left k s n l [] (m-1) (fun u hu=>ih u hu (by have:=Tm.szs_mem hu;simp only [B];omega)) (by simp only [List.nil_append,B];omega) (by omega)
def zja (t:Tm)(most:Int):Bool:=decide (z9n t most<0)
theorem c_large (t:Tm)(hs:t.sz≤B)(m:Int)(h0:0≤m)(h1:m≤4611686018427387904):AC Tryz.prog 17 [aT t,ci m] [] (cb (zja t m)) []:=by
 have h:=c_left t hs m h0 h1;obtain ⟨k,s,n,l⟩:=t;refine AC.vc hP sh lv17 (Nat.le_refl _) (by simp) (by simp) (Eq.mpr (v17 k s n (FTs l) m _ _) ?_);exact ⟨_,h,z04 rfl⟩
mutual
def z3t:Tm→Tm→Bool
 | .mk k s n l, .mk k' s' n' l'=>k==k'&&(s==s'&&(n==n'&&z3p l l'))
def z3p:List Tm→List Tm→Bool
 | [],[]=>true
 | t::l,u::m=>z3t t u&&z3p l m
 | _,_=>false
end
mutual
theorem zjb:∀ a b:Tm,z3t a b=true↔a=b
 | .mk k s n l, .mk k' s' n' l'=>by simp only [z3t,Bool.and_eq_true,beq_iff_eq,Tm.mk.injEq,zb8 l l']
theorem zb8:∀ a b:List Tm,z3p a b=true↔a=b
 | [],[]=>by simp [z3p]
 | t::l,u::m=>by simp only [z3p,Bool.and_eq_true,List.cons.injEq,zjb t u,zb8 l m]
 | [],_::_=>by simp [z3p]
 | _::_,[]=>by simp [z3p]
end
theorem z8o:∀ {a b:List Tm},a.length≠b.length→z3p a b=false
 | [],[],h=>absurd rfl h
 | t::l,u::m,h=>by simp only [z3p,z8o (a:=l) (b:=m) (fun e=>h (by simp [e])),Bool.and_false]
 | [],_::_,_=>rfl
 | _::_,[],_=>rfl
theorem l_same (k:Int)(s:List UInt8)(n:Int)(k':Int)(s':List UInt8)(n':Int):∀ (b a b' a':List Tm),(∀ u∈b,∀ v∈b',AC Tryz.prog 26 [aT u,aT v] [] (cb (z3t u v)) [])→(a++b).length≤B→a.length=a'.length→b.length=b'.length→
  RPt Tryz.prog 26 0 (cb (z3p b b')) [] 1 ⟨[(2,(.c (.a (.ep 0 4 0 0)))),(3,(.c (.a (.ep 1 4 0 0)))),(5,ci a.length)],[(0,(.arr 4 [fzs (FT (.mk k s n (a++b)))])),(1,(.arr 4 [fzs (FT (.mk k' s' n' (a'++b')))]))],2⟩
 | [],a,[],a',_,hl,_,_=>by
  refine RPt.vc hP sh lv26 (Eq.mpr (v26_1a ..) ?_);exact ⟨rfl,z02 (fun h=>absurd (of_decide_eq_true h) (geI' a)) (fun _=>z04 rfl)⟩
 | t::b,a,u::b',a',ih,hl,ha,hb=>by
  refine RPt.vc hP sh lv26 (Eq.mpr (v26_1a ..) ?_);have hl':=hl;simp only [List.length_append,List.length_cons,B] at hl';refine ⟨rfl,z02 (fun _=> ?_) (fun h=>absurd (ltI' a t b) (of_decide_eq_false h))⟩;have h1:=ih t List.mem_cons_self u List.mem_cons_self;have h2:=l_same k s n k' s' n' b (a++ [t]) b' (a'++ [u]) (fun x hx y hy=>ih x (List.mem_cons_of_mem _ hx) y (List.mem_cons_of_mem _ hy)) (by rw [ap];exact hl) (by simp [ha]) (by simpa using hb);have h3:=ltI' a t b;have h4:=ltI' a' u b';rw [←ha] at h4;rw [ap,ap,nx] at h2;rw [midI,midI' a a' ha,w64 (by omega) (by omega)];obtain ⟨k1,s1,n1,l1⟩:=t;obtain ⟨k2,s2,n2,l2⟩:=u;refine ⟨⟨rfl,by omega,h3,rfl⟩,⟨rfl,by omega,h4,rfl⟩,_,h1,z02 (fun h=>z04 ?_) (fun h=> ?_)⟩
  · rw [z3p,show z3t (.mk k1 s1 n1 l1) (.mk k2 s2 n2 l2)=false by simpa using h,Bool.false_and]
  · rw [z3p,show z3t (.mk k1 s1 n1 l1) (.mk k2 s2 n2 l2)=true by simpa using h,Bool.true_and];exact h2
theorem zre:∀ a:Tm,a.sz≤B→∀ b:Tm,AC Tryz.prog 26 [aT a,aT b] [] (cb (z3t a b)) []:=by
 refine Tm.ind fun a ih hs b=> ?_;obtain ⟨k,s,n,l⟩:=a;obtain ⟨k',s',n',l'⟩:=b;have hl:=Tm.szs_length l;simp only [Tm.sz,B] at hs;refine AC.vc hP sh lv26 (Nat.le_refl _) (by simp) (by simp) (Eq.mpr (v26 k s n (FTs l) k' s' n' (FTs l') _ _) ?_);have key:=fun he=>l_same k s n k' s' n' l [] l' [] (fun u hu v _=>ih u hu (by have:=Tm.szs_mem hu;simp only [B];omega) v) (by simp only [List.nil_append,B];omega) rfl he;rw [lenI,lenI];refine z02 (fun h=>z04 ?_) (fun h=>z02 (fun h2=>z04 ?_) (fun h2=>z02 (fun h3=>z04 ?_) (fun h3=>⟨rfl,rfl,z02 (fun h4=>z04 ?_) (fun h4=> ?_)⟩)))
 · simp only [z3t,show (k==k')=false by simpa using h,Bool.false_and]
 · simp only [z3t,show (s==s')=false by simpa using h2,Bool.false_and,Bool.and_false]
 · simp only [z3t,show (n==n')=false by simpa using h3,Bool.false_and,Bool.and_false]
 · rw [z3t,z8o (by intro e;simp [e] at h4)];simp
 · simp only [z3t,show (k==k')=true by simpa using h,show (s==s')=true by simpa using h2,show (n==n')=true by simpa using h3,Bool.true_and]
   exact key (by have:(l.length:Int)=l'.length:=by simpa using h4
                 omega)
def Tm.inner (t:Tm):Bool:=t.k==5||t.k==6
def Tm.kids (t:Tm):List Tm:=if t.inner=true then t.l else []
def Tm.by (t:Tm):Int:=if t.k==5 then 1 else 0
end Go.AM

set_option maxRecDepth 100000
open Go Go.Proofs
namespace Go.AM
mutual
def zC:Cd→Prop
 | .mk nm _ _ _ _ ins=>nm.length≤B∧ins.length≤B∧zIs ins
def zIs:List In1→Prop
 | []=>True
 | .mk _ _ t l c::r=>(t.bk≤B∧Tm.bks l≤B∧c.length≤B∧zCs c)∧zIs r
def zCs:List Cd→Prop
 | []=>True
 | c::r=>zC c∧zCs r
end
theorem z7f:∀ {l:List In1} {x:In1},zIs l→x∈l→x.t.bk≤B∧Tm.bks x.l≤B∧x.c.length≤B∧zCs x.c
 | .mk k a t q c::r,x,h,hm=>by
  rw [zIs] at h;rcases List.mem_cons.1 hm with rfl | hm
  · exact h.1
  · exact z7f h.2 hm
theorem zfz:∀ {l:List Cd} {d:Cd},zCs l→d∈l→zC d
 | c::r,d,h,hm=>by
  rw [zCs] at h;rcases List.mem_cons.1 hm with rfl | hm
  · exact h.1
  · exact zfz h.2 hm
theorem z69 {c:Cd}(h:zC c):c.nm.length≤B∧c.ins.length≤B∧zIs c.ins:=by cases c;rw [zC] at h;exact h
theorem zrp:∀ {l:List In1},(∀ x∈l,x.t.bk≤B∧Tm.bks x.l≤B∧x.c.length≤B∧zCs x.c)→zIs l
 | [],_=>by rw [zIs];trivial
 | .mk k a t q c::r,h=>by rw [zIs];exact ⟨h _ (List.mem_cons_self ..),zrp fun x hx=>h x (List.mem_cons_of_mem _ hx)⟩
theorem zr2:∀ {l:List Cd},(∀ d∈l,zC d)→zCs l
 | [],_=>by rw [zCs];trivial
 | c::r,h=>by rw [zCs];exact ⟨h _ (List.mem_cons_self ..),zr2 fun x hx=>h x (List.mem_cons_of_mem _ hx)⟩
theorem zC_of:∀ c:Cd,c.sz≤B→zC c:=by
 refine Cd.ind fun c ih hz=> ?_;have z2:=In1.szs_length c.ins;have z3:In1.szs c.ins≤B∧c.nm.length≤B:=by cases c;simp only [Cd.sz,Cd.ins,Cd.nm,B] at*;omega
 have h:zIs c.ins:=zrp fun x hx=>by
  have a1:=In1.szs_mem hx;have a3:=Cd.szs_length x.c;have z4:x.t.bk≤B∧Tm.bks x.l≤B∧Cd.szs x.c≤B:=by cases x;simp only [In1.sz1,In1.t,In1.l,In1.c,B] at*;omega
  exact ⟨z4.1,z4.2.1,by omega,zr2 fun d hd=>ih x hx d hd (by have a2:=Cd.szs_mem hd;omega)⟩
 cases c;rw [zC];exact ⟨z3.2,by simp only [Cd.ins] at z2 z3;omega,h⟩
theorem zm1 (a:List Cd)(c:Cd)(b:List Cd):List.getD (FCs (a++c::b)) (Int.toNat (a.length:Int)) []=FC c:=by
 rw [show Int.toNat (a.length:Int)=a.length by omega,zc5];simp [List.getD]
theorem z67 (a:List In1)(c:In1)(b:List In1):List.getD (FIs (a++c::b)) (Int.toNat (a.length:Int)) []=FI c:=by
 rw [show Int.toNat (a.length:Int)=a.length by omega,z6f];simp [List.getD]
abbrev aCr (r:List FV):TV:= .agg [.a (.fz (.str (FV.S (List.getD r 0 FV.N)))), .a (.fz (.int .i64 (FV.I (List.getD r 1 FV.N)))), .a (.fz (.int .i64 (FV.I (List.getD r 2 FV.N)))), .a (.fz (.int .i64 (FV.I (List.getD r 3 FV.N)))), .a (.fz (.int .i64 (FV.I (List.getD r 4 FV.N)))), .a (.fz (List.getD r 5 FV.N))]
theorem zj2 (c:Cd):aCr (FC c)=aC c:=by cases c;rw [FC];rfl
abbrev fCr (r:List FV):List FV:=[.str (FV.S (List.getD r 0 FV.N)), .int .i64 (FV.I (List.getD r 1 FV.N)), .int .i64 (FV.I (List.getD r 2 FV.N)), .int .i64 (FV.I (List.getD r 3 FV.N)), .int .i64 (FV.I (List.getD r 4 FV.N)),List.getD r 5 FV.N]
theorem fCr_FC (c:Cd):fCr (FC c)=FC c:=by cases c;rw [FC];rfl
abbrev fIr (r:List FV):List FV:=[.int .i64 (FV.I (List.getD r 0 FV.N)), .int .i64 (FV.I (List.getD r 1 FV.N)), .int .i64 (FV.I (List.getD r 2 FV.N)), .str (FV.S (List.getD r 3 FV.N)), .int .i64 (FV.I (List.getD r 4 FV.N)),List.getD r 5 FV.N,List.getD r 6 FV.N,List.getD r 7 FV.N]
theorem fIr_FI (x:In1):fIr (FI x)=FI x:=by cases x;rw [FI];rfl
theorem FI6 (x:In1):List.getD (FI x) 6 FV.N= .sl false 4 (FTs x.l):=by cases x;rw [FI];rfl
theorem FI7 (x:In1):List.getD (FI x) 7 FV.N= .sl false 6 (FCs x.c):=by cases x;rw [FI];rfl
theorem FI3 (x:In1):FV.S (List.getD (FI x) 3 FV.N)=x.t.s:=by cases x;rw [FI];rfl
theorem FI0 (x:In1):FV.I (List.getD (FI x) 0 FV.N)=x.k:=by cases x;rw [FI];rfl
theorem FI1 (x:In1):FV.I (List.getD (FI x) 1 FV.N)=x.a:=by cases x;rw [FI];rfl
abbrev cCd (c:Cd):List WV:=[.a (.fz (.str c.nm)), .a (.fz (.int .i64 c.ar)), .a (.fz (.int .i64 c.fr)), .a (.fz (.int .i64 c.vs)), .a (.fz (.int .i64 c.sl)), .a (.fz (.sl false 8 (FIs c.ins)))]
abbrev cIn (x:In1):List WV:=[.a (.fz (.int .i64 x.k)), .a (.fz (.int .i64 x.a)), .a (.fz (.int .i64 x.t.k)), .a (.fz (.str x.t.s)), .a (.fz (.int .i64 x.t.n)), .a (.fz (.sl false 4 (FTs x.t.l))), .a (.fz (.sl false 4 (FTs x.l))), .a (.fz (.sl false 6 (FCs x.c)))]
end Go.AM

set_option maxRecDepth 100000
open Go Go.Proofs
namespace Go.AM
def z8b (t:Tm):FV:=if t.inner=true then .sl false 4 (FTs t.l) else .N
theorem zpp (t:Tm):(z8b t).ses=FTs t.kids∧(z8b t).L 4=true:=by
 unfold z8b Tm.kids;split<;>exact ⟨rfl,rfl⟩
theorem zf0 (t:Tm):AC Tryz.prog 143 [aT t] [] (.tup [(false,[.a (.fz (z8b t))]),(false,[.a (.fz (.int .i64 t.by))])]) []:=by
 obtain ⟨k,s,n,l⟩:=t;refine AC.vc hP sh lv143 (Nat.le_refl _) (by simp) (by simp) (Eq.mpr (v143 k s n (FTs l) _ _) ?_);refine z02 (fun h=>⟨?_,rfl⟩) (fun h=>z02 (fun h2=>⟨?_,rfl⟩) (fun h2=>⟨?_,rfl⟩))
 · have e1:z8b (.mk k s n l)= .sl false 4 (FTs l):=by unfold z8b Tm.inner;simp only [Tm.k,h,Bool.true_or,if_true,Tm.l]
   have e2:Tm.by (.mk k s n l)=1:=by unfold Tm.by;simp only [Tm.k,h,if_true]
   rw [e1,e2];exact .refl _
 · have e1:z8b (.mk k s n l)= .sl false 4 (FTs l):=by unfold z8b Tm.inner;simp only [Tm.k,h2,Bool.or_true,if_true,Tm.l]
   have e2:Tm.by (.mk k s n l)=0:=by unfold Tm.by;simp only [Tm.k,h,Bool.false_eq_true,if_false]
   rw [e1,e2];exact .refl _
 · have e1:z8b (.mk k s n l)= .N:=by unfold z8b Tm.inner;simp only [Tm.k,h,h2,Bool.or_self,Bool.false_eq_true,if_false]
   have e2:Tm.by (.mk k s n l)=0:=by unfold Tm.by;simp only [Tm.k,h,Bool.false_eq_true,if_false]
   rw [e1,e2];exact .refl _
mutual
def bd (M:Int):Tm→Prop
 | .mk k _ n l=>(k=3→0-M≤n∧n≤M)∧bds M l
def bds (M:Int):List Tm→Prop
 | []=>True
 | t::l=>bd M t∧bds M l
end
theorem z2r {M:Int}:∀ {l:List Tm} {t:Tm},bds M l→t∈l→bd M t
 | x::l,t,h,ht=>by
  rcases List.mem_cons.1 ht with rfl | ht
  · exact h.1
  · exact z2r h.2 ht
theorem bd_l {M:Int}{t:Tm}(h:bd M t):bds M t.l:=by cases t;exact h.2
def maxI (a b:Int):Int:=if a≤b then b else a
theorem zex (a b:Int):z6d [a,b]=maxI a b:=by
 simp only [z6d,List.foldl,maxI,max]
mutual
def z3q:Tm→Int→Int→Int
 | .mk kd _ n l,k,acc=>if (kd==5)=true then za3 l (k+1) acc else if (kd==6)=true then za3 l k acc else if (kd==3)=true then maxI acc (n-k+1) else acc
def za3:List Tm→Int→Int→Int
 | [],_,acc=>acc
 | t::l,k,acc=>za3 l k (z3q t k acc)
end
abbrev obj1 (n:Int):AObj:= .arr 1 [[.a (.fz (.int .i64 n))]]
theorem c_loose1 (u:Tm)(k acc:Int)(hb:u.k=3→0-2305843009213693952≤u.n∧u.n≤2305843009213693952)(h0:0≤k)(h1:k≤2305843009213693952):
  AC Tryz.prog 116 [aT u,ci k, .c (.a (.ep 0 1 0 0))] [obj1 acc] (.tup []) [obj1 (if (u.k==3)=true then maxI acc (u.n-k+1) else acc)]:=by
 obtain ⟨kd,s,n,l⟩:=u;simp only [Tm.k,Tm.n] at hb;refine AC.vc hP sh lv116 (Nat.le_refl _) (by simp [isLive]) (by simp) (Eq.mpr (v116 kd s n (FTs l) k acc _ _) ?_);refine z02 (fun h=>⟨.refl _, ?_⟩) (fun h=>⟨.refl _, ?_⟩)
 · have hk:kd=3:=by simpa using h
   have:=hb hk;rw [w64 (x:=n-k) (by omega) (by omega),w64 (x:=n-k+1) (by omega) (by omega),zex];simp only [Tm.k,Tm.n,h,if_true]
 · simp only [Tm.k,h,Bool.false_eq_true,if_false]
abbrev tellL:TV:= .c (.fn (.func 116) [] [(false,[.ep 0 1 0 0])])
theorem l_each (k by_:Int)(h0:0≤k)(hby:0≤by_)(hby1:by_≤1):∀ (b a:List Tm) (v:FV) (acc:Int),v.ses=FTs (a++b)→v.L 4=true→
  (∀ u∈b,∀ acc,AC Tryz.prog 115 [aT u,ci (k+by_),tellL] [obj1 acc] (.tup []) [obj1 (z3q u (k+by_) acc)])→(a++b).length≤B→k≤2305843009213693952→
  RPt Tryz.prog 115 1 (.tup []) [obj1 (za3 b (k+by_) acc)] 1 ⟨[(1,ci k),(2,tellL),(7,ci by_),(27, .c (.a (.fz v))),(28,ci (a++b).length),(29,ci a.length)],[(0,obj1 acc)],1⟩
 | [],a,v,acc,hv,hs,_,hl,hk=>by
  refine RPt.vc hP sh zpf (Eq.mpr (z9w ..) ?_);exact z02 (fun h=>absurd (of_decide_eq_true h) (by simp)) (fun _=>⟨.refl _,rfl⟩)
 | t::b,a,v,acc,hv,hs,ih,hl,hk=>by
  refine RPt.vc hP sh zpf (Eq.mpr (z9w ..) ?_);have hl':=hl;simp only [List.length_append,List.length_cons,B] at hl';have h1:=ih t List.mem_cons_self acc;have h2:=l_each k by_ h0 hby hby1 b (a++ [t]) v (z3q t (k+by_) acc) (by rw [ap];exact hv) hs (fun u hu=>ih u (List.mem_cons_of_mem _ hu)) (by rw [ap];exact hl) hk;have h3:=ltI' a t b;rw [ap,nx] at h2;rw [hv,midI,w64 (x:=(a.length:Int)+1) (by omega) (by omega),w64 (x:=k+by_) (by omega) (by omega)];refine z02 (fun _=> ?_) (fun h=>absurd (ltI a t b) (of_decide_eq_false h));obtain ⟨k',s',n',l'⟩:=t;exact ⟨⟨hs,by omega,h3,rfl⟩, .inl ⟨_,h1,h2⟩⟩
theorem c_each:∀ t:Tm,t.sz≤B→bd 2305843009213693952 t→∀ k acc:Int,0≤k→k+t.sz≤2305843009213693952→AC Tryz.prog 115 [aT t,ci k,tellL] [obj1 acc] (.tup []) [obj1 (z3q t k acc)]:=by
 refine Tm.ind fun t ih hs hb k acc h0 h1=> ?_;have hw:=zf0 t;have hk:=zpp t;have hlen:=Tm.szs_length t.l;obtain ⟨kd,s,n,l⟩:=t;simp only [Tm.sz,B,Tm.l] at hs hlen;simp only [Tm.sz] at h1
 have key:∀ by_:Int,0≤by_→by_≤1→Tm.kids (.mk kd s n l)=l→RPt Tryz.prog 115 1 (.tup []) [obj1 (za3 l (k+by_) acc)] 1 ⟨[(1,ci k),(2,tellL),(7,ci by_),(27, .c (.a (.fz (z8b (.mk kd s n l))))),(28,ci l.length),(29,ci 0)],[(0,obj1 acc)],1⟩:=by
  intro by_ hb0 hb1 hkids;have:=l_each k by_ h0 hb0 hb1 l [] (z8b (.mk kd s n l)) acc (by rw [hk.1,hkids];rfl) hk.2 (fun u hu acc=>ih u hu (by have:=Tm.szs_mem hu;simp only [B];omega) (z2r hb.2 hu) (k+by_) acc (by omega) (by have:=Tm.szs_mem hu;omega)) (by simp only [List.nil_append,B];omega) (by omega);simpa using this
 refine AC.vc hP sh zpf (Nat.le_refl _) (by simp [isLive]) (by simp) (Eq.mpr (zt1 kd s n (FTs l) k acc _ _) ?_);refine z02 (fun h=>z02 (fun h2=>⟨_,c_loose1 (.mk kd s n l) k acc hb.1 h0 (by omega), .refl _, ?_⟩) (fun h2=>⟨_,_,hw,hk.2, ?_⟩)) (fun h=>⟨_,_,hw,hk.2, ?_⟩)
 · have e1:(kd==5)=false:=by simpa using h
   have e2:(kd==6)=false:=by simpa using h2
   simp only [z3q,Tm.k,Tm.n,e1,e2,Bool.false_eq_true,if_false];rfl
 · have e1:(kd==5)=false:=by simpa using h
   have e2:(kd==6)=true:=by simpa using h2
   have ek:Tm.kids (.mk kd s n l)=l:=by unfold Tm.kids Tm.inner;simp only [Tm.k,e2,Bool.or_true,if_true,Tm.l]
   have:=key 0 (by omega) (by omega) ek;rw [hk.1,ek,lenI,show Tm.by (.mk kd s n l)=0 by unfold Tm.by;simp only [Tm.k,e1,Bool.false_eq_true,if_false]];simp only [z3q,e1,e2,Bool.false_eq_true,if_false,if_true];simpa using this
 · have e1:(kd==5)=true:=by simpa using h
   have ek:Tm.kids (.mk kd s n l)=l:=by unfold Tm.kids Tm.inner;simp only [Tm.k,e1,Bool.true_or,if_true,Tm.l]
   have:=key 1 (by omega) (by omega) ek;rw [hk.1,ek,lenI,show Tm.by (.mk kd s n l)=1 by unfold Tm.by;simp only [Tm.k,e1,if_true]];simp only [z3q,e1,if_true];exact this
theorem zs4 (t:Tm)(hs:t.sz≤B)(hb:bd 2305843009213693952 t):AC Tryz.prog 78 [aT t] [] (ci (z3q t 0 0)) []:=by
 have h:=c_each t hs hb 0 0 (Int.le_refl _) (by simp only [B] at hs;omega);refine AC.vc hP sh lv78 (Nat.le_refl _) (by simp) (by simp) (Eq.mpr (v78 ..) ?_);exact .inl ⟨_,h,z0z rfl⟩
end Go.AM

set_option maxRecDepth 100000
open Go Go.Proofs
namespace Go.AM
theorem c_grow (n:Int)(h0:0≤n)(h1:n≤2199023255552):(n=0→AC Tryz.prog 85 [.c (.a (.fz .N)),ci n] [] (.c (.a (.fz .N))) [])∧
  (n≠0→AC Tryz.prog 85 [.c (.a (.fz .N)),ci n] [] (.c (.a (.osl 0 4 0 0))) [.arz 4 []]):=by
 constructor
 · intro hn;refine AC.vc hP sh lv85 (Nat.le_refl _) (by simp) (by simp) (Eq.mpr (v85 ..) ?_);refine z02 (fun h=>absurd (of_decide_eq_true h) (by omega)) (fun _=>⟨rfl,z02 (fun h=> ?_) (fun _=>z3r (.refl _))⟩);rw [w64 (by omega) (by omega)] at h;exact absurd (of_decide_eq_true h) (by omega)
 · intro hn;refine AC.vc hP sh lv85 (by simp) (by simp) (by simp [isLive]) (Eq.mpr (v85 ..) ?_);rw [w64 (by omega) (by omega)];refine z02 (fun h=>absurd (of_decide_eq_true h) (by omega)) (fun _=>⟨rfl,z02 (fun h=>⟨rfl,⟨by omega,by omega,by omega⟩,⟨by omega,by unfold z0d;omega⟩,rfl,⟨by omega,by omega,by omega⟩, .refl _,rfl⟩) (fun h=>absurd (of_decide_eq_false h) (by omega))⟩)
def FLs (ls:List (List Tm)):List (List FV):=ls.map fun l=> [.sl false 4 (FTs l)]
def z4m (ls:List (List Tm)):Nat:=(ls.map List.length).foldr (· + ·) 0
theorem z9e (ls:List (List Tm)):(FLs ls).length=ls.length:=by simp [FLs]
theorem midL (a:List (List Tm))(l:List Tm)(b:List (List Tm)):List.getD (FLs (a++l::b)) (Int.toNat (a.length:Int)) []=[.sl false 4 (FTs l)]:=by
 rw [show Int.toNat (a.length:Int)=a.length by omega];simp [List.getD,FLs]
theorem ltL (a:List (List Tm))(t:List Tm)(b:List (List Tm)):(a.length:Int)<(((FLs (a++t::b)).length:Nat):Int):=by rw [z9e];exact ltI a t b
theorem zji (a:List (List Tm))(l:List Tm)(b:List (List Tm)):z4m (a++l::b)=z4m a+l.length+z4m b:=by
 induction a with
 | nil=>simp [z4m]
 | cons x a ih=>simp only [z4m,List.cons_append,List.map_cons,List.foldr_cons] at ih ⊢;omega
theorem zog (a:List (List Tm))(l:List Tm):z4m (a++ [l])=z4m a+l.length:=by rw [zji];simp [z4m]
abbrev aLs (ls:List (List Tm)):TV:= .c (.a (.fz (.sl false 1 (FLs ls))))
theorem z7p {n:Nat}(h:n≤2199023255552):z0d n 56:=by unfold z0d;omega
theorem zr8:∀ (b a:List (List Tm)) (acc:List Tm),acc.length+z4m b≤2199023255552→(a++b).length≤B→
  RPt Tryz.prog 41 0 (aL (acc++b.flatten)) [] 5 ⟨[(6,(.c (.a (.osl 0 4 0 acc.length)))),(25,aLs (a++b)),(26,ci (a++b).length),(27,ci a.length)],[(0,(.arz 4 (FTs acc)))],1⟩
 | [],a,acc,ht,hl=>by
  refine RPt.vc hP sh lv41 (Eq.mpr (v41_5b ..) ?_);refine z02 (fun h=>absurd (of_decide_eq_true h) (by simp)) (fun _=>⟨⟨rfl,by rw [z01];omega⟩,z3r ?_⟩);rw [List.drop_zero,List.take_of_length_le (by rw [z01];omega),List.flatten_nil,List.append_nil];exact le_c leSl
 | l::b,a,acc,ht,hl=>by
  refine RPt.vc hP sh lv41 (Eq.mpr (v41_5b ..) ?_);have hl':=hl;have h3:=ltL a l b;simp only [List.length_append,List.length_cons,B] at hl';have ht':acc.length+(l.length+z4m b)≤2199023255552:=by simpa [z4m] using ht
  have h2:=zr8 b (a++ [l]) (acc++l) (by rw [List.length_append];omega) (by rw [ap];exact hl);rw [ap,nx] at h2;rw [midL,w64 (by omega) (by omega)];refine z02 (fun _=>⟨⟨rfl,by omega,h3,rfl⟩,rfl,⟨by rw [z01];omega, ?_⟩, ?_⟩) (fun h=>absurd (ltI a l b) (of_decide_eq_false h))
  · show z0d (acc.length+(FTs l).length) 56;rw [z01];exact z7p (by omega)
  · show RPt _ _ _ _ _ _ ⟨[(6,(.c (.a (.osl 0 4 0 (acc.length+(FTs l).length))))),_,_,_],[(0, .arz 4 (List.take acc.length (FTs acc)++FTs l))],1⟩;rw [List.take_of_length_le (by rw [z01];omega),←z2n,z01,←List.length_append];rw [show acc++(l::b).flatten=acc++l++b.flatten by simp];exact h2
theorem l_cat2:∀ (b a:List (List Tm)),z4m b≤2199023255552→(a++b).length≤B→
  RPt Tryz.prog 41 0 (aL b.flatten) [] 5 ⟨[(6,(.c (.a (.fz .N)))),(25,aLs (a++b)),(26,ci (a++b).length),(27,ci a.length)],[],0⟩
 | [],a,ht,hl=>by
  refine RPt.vc hP sh lv41 (Eq.mpr (v41_5a ..) ?_);refine z02 (fun h=>absurd (of_decide_eq_true h) (by simp)) (fun _=>z3r (le_c z1m))
 | l::b,a,ht,hl=>by
  refine RPt.vc hP sh lv41 (Eq.mpr (v41_5a ..) ?_);have hl':=hl;have h3:=ltL a l b;simp only [List.length_append,List.length_cons,B] at hl';have ht':l.length+z4m b≤2199023255552:=by simpa [z4m] using ht
  rw [midL,w64 (by omega) (by omega)];refine z02 (fun _=>⟨⟨rfl,by omega,h3,rfl⟩,rfl, ?_⟩) (fun h=>absurd (ltI a l b) (of_decide_eq_false h));show br (List.isEmpty (FTs l)) _ _;refine z02 (fun he=> ?_) (fun he=>⟨?_, ?_⟩)
  · have h2:=l_cat2 b (a++ [l]) (by omega) (by rw [ap];exact hl);rw [ap,nx] at h2
    have hnil:l=[]:=by cases l with
     | nil=>rfl
     | cons x l=>simp [FTs] at he
    rw [show (l::b).flatten=b.flatten by rw [hnil];simp];exact h2
  · show z0d (FTs l).length 56;rw [z01];exact z7p (by omega)
  · have h2:=zr8 b (a++ [l]) l (by omega) (by rw [ap];exact hl);rw [ap,nx] at h2;show RPt _ _ _ _ _ _ ⟨[(6,(.c (.a (.osl 0 4 0 (FTs l).length)))),_,_,_],[(0, .arz 4 (FTs l))],1⟩;rw [z01,List.flatten_cons];exact h2
theorem l_cat1:∀ (b a:List (List Tm)),z4m (a++b)≤2199023255552→(a++b).length≤B→
  RPt Tryz.prog 41 0 (aL (a++b).flatten) [] 1 ⟨[(0,aLs (a++b)),(3,ci (z4m a)),(9,aLs (a++b)),(10,ci (a++b).length),(11,ci a.length)],[],0⟩
 | [],a,ht,hl=>by
  refine RPt.vc hP sh lv41 (Eq.mpr (v41_1a ..) ?_);have hg:=c_grow (z4m a:Int) (by omega) (by simp only [List.append_nil] at ht;omega);refine z02 (fun h=>absurd (of_decide_eq_true h) (by simp)) (fun _=> ?_);have e:(((FLs (a++ [])).length:Nat):Int)=(((a++ []).length:Nat):Int):=by rw [z9e]
  rw [e];by_cases hz:z4m a=0
  · have h2:=l_cat2 (a++ []) [] (by simpa using ht) (by simpa using hl);exact .inl ⟨(),hg.1 (by omega),rfl,by simpa using h2⟩
  · have h2:=zr8 (a++ []) [] [] (by simpa using ht) (by simpa using hl);exact .inr ⟨(),hg.2 (by omega),rfl,by simpa [FTs] using h2⟩
 | l::b,a,ht,hl=>by
  refine RPt.vc hP sh lv41 (Eq.mpr (v41_1a ..) ?_);have hl':=hl;have ht':=ht;have h3:=ltL a l b;rw [zji] at ht';simp only [List.length_append,List.length_cons,B] at hl';have h2:=l_cat1 b (a++ [l]) (by rw [ap];exact ht) (by rw [ap];exact hl);rw [ap,nx,zog] at h2;rw [midL,w64 (x:=(a.length:Int)+1) (by omega) (by omega)];refine z02 (fun _=>⟨⟨rfl,by omega,h3,rfl⟩,rfl, ?_⟩) (fun h=>absurd (ltI a l b) (of_decide_eq_false h));show br (decide (IntKind.wrap .i64 ((z4m a:Int)+(((FTs l).length:Nat):Int))<0)) _ (RPt _ _ _ _ _ _ ⟨[_,(3,ci (IntKind.wrap .i64 ((z4m a:Int)+(((FTs l).length:Nat):Int)))),_,_,_],_,_⟩);rw [z01,w64 (by omega) (by omega)];refine z02 (fun h=>absurd (of_decide_eq_true h) (by omega)) (fun _=> ?_);simpa using h2
theorem c_concat (ls:List (List Tm))(ht:z4m ls≤2199023255552)(hl:ls.length≤B):AC Tryz.prog 41 [aLs ls] [] (aL ls.flatten) []:=by
 refine AC.vc hP sh lv41 (Nat.le_refl _) (by simp) (by simp) (Eq.mpr (v41 ..) ?_);have:=l_cat1 ls [] (by simpa using ht) (by simpa using hl);have e:(((FLs ls).length:Nat):Int)=((ls.length:Nat):Int):=by rw [z9e]
 rw [e];exact ⟨rfl,by simpa [z4m] using this⟩
theorem zc0 {x y:FV}{l m:List Tm}(hx:FV.Le x (.sl false 4 (FTs l)))(hy:FV.Le y (.sl false 4 (FTs m)))(ht:l.length+m.length≤2199023255552):AC Tryz.prog 41 [.c (.a (.fz (.sl false 1 [[x],[y]])))] [] (aL (l++m)) []:=by
 have h:=c_concat [l,m] (by simpa [z4m] using ht) (by simp [B]);rw [show [l,m].flatten=l++m by simp] at h;refine h.args ⟨le_c (.trans _ _ _ (.rows false 1 _ (FLs [l,m]) rfl (fun i e e' he he'=> ?_) (fun i j e e' f f' he he' hf hf'=> ?_)) (.nn _ _ _)),trivial⟩
 · match i,he,he' with
   | 0,he,he'=>simp [FLs] at he he';subst he;subst he';rfl
   | 1,he,he'=>simp [FLs] at he he';subst he;subst he';rfl
   | i+2,he,he'=>simp at he
 · match i,he,he' with
   | 0,he,he'=>
    simp [FLs] at he he';subst he;subst he'
    match j,hf,hf' with
    | 0,hf,hf'=>simp at hf hf';subst hf;subst hf';exact hx
    | j+1,hf,hf'=>simp at hf
   | 1,he,he'=>
    simp [FLs] at he he';subst he;subst he'
    match j,hf,hf' with
    | 0,hf,hf'=>simp at hf hf';subst hf;subst hf';exact hy
    | j+1,hf,hf'=>simp at hf
   | i+2,he,he'=>simp at he
def z1x (f:Tm)(args:List Tm):Tm:=
 match args with
 | []=>f
 | _=>if (f.k==6)=true∧f.l ≠ [] then .mk 6 [] 0 (f.l++args) else .mk 6 [] 0 (f::args)
theorem z79 (f:Tm)(args:List Tm)(h:f.l.length+args.length<2199023255552):AC Tryz.prog 16 [aT f,aL args] [] (aT (z1x f args)) []:=by
 obtain ⟨k,s,n,l⟩:=f;simp only [Tm.l] at h;refine AC.vc hP sh lv16 (Nat.le_refl _) (by simp) (by simp) (Eq.mpr (v16 k s n (FTs l) (FTs args) _ _) ?_);refine ⟨rfl,z02 (fun h1=> ?_) (fun h1=> ?_)⟩
 · have:args=[]:=by cases args with
    | nil=>rfl
    | cons x l=>simp [FTs] at h1;omega
   subst this;exact z3r (.refl _)
 · match args,h1,h with
   | [],h1,_=>simp [FTs] at h1
   | a::r,h1,h=>
    have one:FV.Le (.sl false 4 [[.int .i64 k, .str s, .int .i64 n, .sl false 4 (FTs l)]]) (.sl false 4 (FTs [.mk k s n l])):= .nn _ _ _;have same:∀ l:List Tm,FV.Le (.sl false 4 (FTs l)) (.sl false 4 (FTs l)):=fun _=> .refl _
    refine z02 (fun h2=>⟨rfl,z02 (fun h3=>⟨⟨rfl,by omega⟩,_,zc0 (same l) (same (a::r)) (by omega),z3r ?_⟩) (fun h3=>⟨⟨rfl,by omega⟩,⟨rfl,by omega⟩,_,zc0 one (same (a::r)) (by simp only [List.length_cons,List.length_nil] at h ⊢;omega),z3r ?_⟩)⟩)
     (fun h2=>⟨⟨rfl,by omega⟩,⟨rfl,by omega⟩,_,zc0 one (same (a::r)) (by simp only [List.length_cons,List.length_nil] at h ⊢;omega),z3r ?_⟩)
    · have hl:l ≠ []:=by intro e;subst e;simp [FTs] at h3
      rw [show z1x (.mk k s n l) (a::r)= .mk 6 [] 0 (l++a::r) from if_pos ⟨h2,hl⟩];exact .refl _
    · have hl:l=[]:=by cases l with
       | nil=>rfl
       | cons x l=>simp [FTs] at h3
      rw [show z1x (.mk k s n l) (a::r)= .mk 6 [] 0 (.mk k s n l::a::r) from if_neg (fun e=>e.2 hl)];exact .refl _
    · rw [show z1x (.mk k s n l) (a::r)= .mk 6 [] 0 (.mk k s n l::a::r) from if_neg (fun e=>by have:=e.1;simp only [Tm.k,h2] at this;cases this)];exact .refl _
end Go.AM

set_option maxRecDepth 100000
open Go Go.Proofs
namespace Go.AM
def z1t (t:Tm)(out:List Tm):Tm:=
 if (t.k==6)=true∧1<out.length∧((out.headD default).k==6)=true∧((t.l.headD default).k !=6)=true then z1x (out.headD default) out.tail else .mk t.k t.s t.n out
mutual
def z08 (lf:Tm→Int→Tm):Tm→Int→Tm
 | .mk k s n l,d=>if (k==5||k==6)=true then z1t (.mk k s n l) (z0a lf l (d+if (k==5)=true then 1 else 0)) else lf (.mk k s n l) d
def z0a (lf:Tm→Int→Tm):List Tm→Int→List Tm
 | [],_=> []
 | t::l,d=>z08 lf t d::z0a lf l d
end
abbrev cloSh:TV:= .agg [.fn (.func 135) [] [(false,[.ep 0 1 0 0]),(false,[.ep 1 1 0 0])]]
abbrev stSh (fr by1:Int)(k by_:Int)(kd:Int)(s:List UInt8)(n:Int)(l:List Tm)(w:AV)(i:Nat)(h:AHeap)(nx:Nat):St:=
 ⟨[(2,ci k),(3, .c (.a (.ep 2 1 0 0))),(4, .c (.a (.ep 3 4 0 0))),(6, .c (.a (.ep 4 4 0 0))),(7,aL l),(8,ci by_),(9, .c (.a w)),(30,aL l),(31,ci l.length),(32,ci i)],
  [(0,(obj1 fr)),(1,(obj1 by1)),(2, .arr 1 [[.fn (.func 135) [] [(false,[.ep 0 1 0 0]),(false,[.ep 1 1 0 0])]]]),(3, .arr 4 [fzs (FT (.mk kd s n l))]),(4, .arr 4 [[.a (.fz (.int .i64 0)), .a (.fz (.str [])), .a (.fz (.int .i64 0)), .a (.fz .N)]])]++h,nx⟩
theorem l_w2Sh (fr by1:Int)(lf:Tm→Int→Tm)(k by_:Int)(h0:0≤k)(hk:k≤2305843009213693952)(hb0:0≤by_)(hb1:by_≤1)(kd:Int)(s:List UInt8)(n:Int)(hin:(kd==5||kd==6)=true):
  ∀ (b a acc:List Tm),acc ≠ []→acc.length=a.length→(a++b).length≤B→(∀ u∈acc++z0a lf b (k+by_),u.l.length≤2*B)→
  (∀ u∈b,AC Tryz.prog 134 [cloSh,aT u,ci (k+by_)] [(obj1 fr),(obj1 by1)] (aT (z08 lf u (k+by_))) [(obj1 fr),(obj1 by1)])→
  RPt Tryz.prog 134 2 (aT (z1t (.mk kd s n (a++b)) (acc++z0a lf b (k+by_)))) [(obj1 fr),(obj1 by1)] 1 (stSh fr by1 k by_ kd s n (a++b) (.osl 5 4 0 acc.length) a.length [(5, .arz 4 (FTs acc))] 6)
 | [],a,acc,hne,hlen,hl,hw,_=>by
  refine RPt.vc hP sh z6v (Eq.mpr (z9s ..) ?_)
  match acc,a,hne,hlen with
  | o::r,u::a',_,hlen=>
  have e1:List.take (o::r).length (List.drop 0 (FTs (o::r)))=FTs (o::r):=by rw [List.drop_zero,List.take_of_length_le (by rw [z01];omega)]
  have e2:(0:Nat)+(o::r).length≤(FTs (o::r)).length:=by rw [z01];omega
  have hrest:∀ (k':Int) (s':List UInt8) (n':Int),TV.Le (.agg [.a (.fz (.int .i64 k')), .a (.fz (.str s')), .a (.fz (.int .i64 n')), .a (.fz (.sl false 4 (List.take (o::r).length (List.drop 0 (FTs (o::r))))))]) (aT (.mk k' s' n' (o::r))):=fun k' s' n'=>by rw [e1];exact leT leSl
  refine z02 (fun h=>absurd (of_decide_eq_true h) (by simp)) (fun _=>z02 (fun h6=>z02 (fun h1=>⟨⟨by omega,by simp⟩,⟨by rw [z01];simp,by cases o;rfl,rfl⟩,z02 (fun ho=>⟨⟨rfl,by omega,by rw [List.append_nil];show (0:Int)<(((FTs (u::a')).length:Nat):Int);rw [z01];simp,by cases u;rfl⟩,z02 (fun hu=> ?_) (fun hu=>⟨⟨rfl,e2⟩, ?_,rfl⟩)⟩) (fun ho=>⟨⟨rfl,e2⟩, ?_,rfl⟩)⟩) (fun h1=>⟨⟨rfl,e2⟩, ?_,rfl⟩)) (fun h6=>⟨⟨rfl,e2⟩, ?_,rfl⟩))
  ·
   have hap:=z79 o r (by
    have:=hw o (by simp);simp only [List.length_cons,List.length_append,List.length_nil,B] at hl hlen this ⊢;omega)
   have e3:z1t (.mk kd s n (u::a'++ [])) (o::r++z0a lf [] (k+by_))=z1x o r:=by
    have c1:1<(o::r++z0a lf [] (k+by_)).length:=by have:=of_decide_eq_true h1;simp only [z0a,List.append_nil];omega
    have c2:(o.k==6)=true:=by cases o;exact ho
    have c3:(u.k !=6)=true:=by cases u;exact hu
    unfold z1t;rw [if_pos ⟨h6,c1,c2,c3⟩];simp [z0a]
   have e4:List.take (Int.toNat ((o::r).length:Int)-1) (List.drop 1 (FTs (o::r)))=FTs r:=by
    rw [show Int.toNat ((o::r).length:Int)-1=r.length by simp only [List.length_cons];omega];show List.take r.length (FTs r)=FTs r;rw [List.take_of_length_le (by rw [z01];omega)]
   have e5:(1:Nat)+(Int.toNat ((o::r).length:Int)-1)≤(FTs (o::r)).length:=by rw [z01];simp only [List.length_cons];omega
   rw [e3];refine ⟨⟨by omega,by simp⟩,⟨by rw [z01];simp,by cases o;rfl,rfl⟩,⟨by omega,by simp;omega,by omega⟩,⟨rfl,e5⟩, ?_⟩;rw [e4];obtain ⟨k1,s1,n1,l1⟩:=o;exact ⟨_,hap.args ⟨.refl _,le_c leSl,trivial⟩, .refl _,rfl⟩
  · have e3:z1t (.mk kd s n (u::a'++ [])) (o::r++z0a lf [] (k+by_))= .mk kd s n (o::r):=by
     simp only [z0a,List.append_nil]
     exact if_neg fun e=>by
      have hu':(u.k !=6)=false:=by cases u;exact hu
      have:(u.k !=6)=true:=e.2.2.2;rw [hu'] at this;cases this
    rw [e3];exact hrest _ _ _
  · have e3:z1t (.mk kd s n (u::a'++ [])) (o::r++z0a lf [] (k+by_))= .mk kd s n (o::r):=by
     simp only [z0a,List.append_nil]
     exact if_neg fun e=>by
      have ho':(o.k==6)=false:=by cases o;exact ho
      have:(o.k==6)=true:=e.2.2.1;rw [ho'] at this;cases this
    rw [e3];exact hrest _ _ _
  · have e3:z1t (.mk kd s n (u::a'++ [])) (o::r++z0a lf [] (k+by_))= .mk kd s n (o::r):=by
     simp only [z0a,List.append_nil];exact if_neg fun e=>by have:=e.2.1;have:=of_decide_eq_false h1;omega
    rw [e3];exact hrest _ _ _
  · have e3:z1t (.mk kd s n (u::a'++ [])) (o::r++z0a lf [] (k+by_))= .mk kd s n (o::r):=by
     simp only [z0a,List.append_nil]
     exact if_neg fun e=>by
      have h6':(kd==6)=false:=h6;have:(kd==6)=true:=e.1;rw [h6'] at this;cases this
    rw [e3];exact hrest _ _ _
 | t::b,a,acc,hne,hlen,hl,hw,ih=>by
  refine RPt.vc hP sh z6v (Eq.mpr (z9s ..) ?_);have hl':=hl;simp only [List.length_append,List.length_cons,B] at hl';have h1:=ih t List.mem_cons_self
  have h2:=l_w2Sh fr by1 lf k by_ h0 hk hb0 hb1 kd s n hin b (a++ [t]) (acc++ [z08 lf t (k+by_)]) (by simp) (by simp [hlen]) (by rw [ap];exact hl)
   (by rw [List.append_assoc];simpa [z0a] using hw) (fun u hu=>ih u (List.mem_cons_of_mem _ hu))
  have h3:=ltI' a t b;unfold stSh at h2;rw [ap,show (((a++ [t]).length:Nat):Int)=(a.length:Int)+1 from nx a t] at h2;show br (decide ((a.length:Int)<(((a++t::b).length:Nat):Int))) ((FV.L 4 (.sl false 4 (FTs (a++t::b)))=true∧_∧_∧_)∧_) _;refine z02 (fun _=> ?_) (fun h=>absurd (ltI a t b) (of_decide_eq_false h));have hm:=midI a t b;rw [show FV.ses (.sl false 4 (FTs (a++t::b)))=FTs (a++t::b) from rfl,hm,w64 (x:=(a.length:Int)+1) (by omega) (by omega),w64 (x:=k+by_) (by omega) (by omega)];obtain ⟨k',s',n',l'⟩:=t;refine ⟨⟨rfl,by omega,h3,rfl⟩,_,h1,Nat.le_refl _,⟨by rw [z01];omega,z7p (by omega)⟩, ?_⟩;have e5:List.take acc.length (FTs acc)++FTs [z08 lf (.mk k' s' n' l') (k+by_)]=FTs (acc++ [z08 lf (.mk k' s' n' l') (k+by_)]):=by rw [List.take_of_length_le (by rw [z01];omega),←z2n]
  have e6:FTs [z08 lf (.mk k' s' n' l') (k+by_)]=[[.int .i64 (z08 lf (.mk k' s' n' l') (k+by_)).k, .str (z08 lf (.mk k' s' n' l') (k+by_)).s, .int .i64 (z08 lf (.mk k' s' n' l') (k+by_)).n, .sl false 4 (FTs (z08 lf (.mk k' s' n' l') (k+by_)).l)]]:=by
   rw [FTs,FTs,z7w]
  rw [e6] at e5;rw [e5];rw [show acc++z0a lf (.mk k' s' n' l'::b) (k+by_)=acc++z08 lf (.mk k' s' n' l') (k+by_)::z0a lf b (k+by_) by simp [z0a]];rw [show (acc++ [z08 lf (.mk k' s' n' l') (k+by_)]).length=acc.length+1 by simp,List.append_assoc] at h2;exact h2
theorem l_w1Sh (fr by1:Int)(lf:Tm→Int→Tm)(k by_:Int)(h0:0≤k)(hk:k≤2305843009213693952)(hb0:0≤by_)(hb1:by_≤1)(kd:Int)(s:List UInt8)(n:Int)(hin:(kd==5||kd==6)=true):
  ∀ (b:List Tm),b.length≤B→(∀ u∈z0a lf b (k+by_),u.l.length≤2*B)→
  (∀ u∈b,AC Tryz.prog 134 [cloSh,aT u,ci (k+by_)] [(obj1 fr),(obj1 by1)] (aT (z08 lf u (k+by_))) [(obj1 fr),(obj1 by1)])→
  RPt Tryz.prog 134 2 (aT (z1t (.mk kd s n b) (z0a lf b (k+by_)))) [(obj1 fr),(obj1 by1)] 1 (stSh fr by1 k by_ kd s n b (.fz .N) 0 [] 5)
 | [],hl,hw,_=>by
  refine RPt.vc hP sh z6v (Eq.mpr (za9 ..) ?_);have e:z1t (.mk kd s n []) (z0a lf [] (k+by_))= .mk kd s n []:=if_neg fun e=>by have:=e.2.1;simp [z0a] at this
  rw [e];exact z02 (fun h=>absurd (of_decide_eq_true h) (by simp)) (fun _=>z02 (fun _=>⟨rfl,leT z1m,rfl⟩) (fun _=>⟨leT z1m,rfl⟩))
 | t::b,hl,hw,ih=>by
  refine RPt.vc hP sh z6v (Eq.mpr (za9 ..) ?_);have hl':=hl;simp only [List.length_cons,B] at hl';have h1:=ih t List.mem_cons_self;have h2:=l_w2Sh fr by1 lf k by_ h0 hk hb0 hb1 kd s n hin b [t] [z08 lf t (k+by_)] (by simp) rfl (by simpa using hl) (by simpa [z0a] using hw) (fun u hu=>ih u (List.mem_cons_of_mem _ hu));show br (decide ((0:Int)<(((t::b).length:Nat):Int))) ((FV.L 4 (.sl false 4 (FTs (t::b)))=true∧_∧_∧_)∧_) _;refine z02 (fun _=> ?_) (fun h=>absurd (of_decide_eq_false h) (by simp));rw [show FV.ses (.sl false 4 (FTs (t::b)))=FTs (t::b) from rfl,show List.getD (FTs (t::b)) (Int.toNat ((0:Nat):Int)) []=FT t from rfl,w64 (x:=k+by_) (by omega) (by omega),w64 (x:=((0:Nat):Int)+1) (by omega) (by omega)];obtain ⟨k',s',n',l'⟩:=t;have h3:(0:Int)<(((FTs (.mk k' s' n' l'::b)).length:Nat):Int):=by rw [z01];simp
  refine ⟨⟨rfl,by omega,h3,rfl⟩,_,h1,Nat.le_refl _,z7p (by omega), ?_⟩
  have e6:FTs [z08 lf (.mk k' s' n' l') (k+by_)]=[[.int .i64 (z08 lf (.mk k' s' n' l') (k+by_)).k, .str (z08 lf (.mk k' s' n' l') (k+by_)).s, .int .i64 (z08 lf (.mk k' s' n' l') (k+by_)).n, .sl false 4 (FTs (z08 lf (.mk k' s' n' l') (k+by_)).l)]]:=by
   rw [FTs,FTs,z7w]
  unfold stSh at h2;rw [e6] at h2;exact h2
theorem c_wSh (fr by1:Int) (lf:Tm→Int→Tm) (Q:Tm→Int→Prop)
  (hq:∀ (kd:Int) (s:List UInt8) (n:Int) (l:List Tm) (d:Int),Q (.mk kd s n l) d→(kd==5||kd==6)=true→∀ u∈l,Q u (d+if (kd==5)=true then 1 else 0))
  (hleaf:∀ (u:Tm) (d:Int),(u.k==5||u.k==6)=false→Q u d→0≤d→d≤2305843009213693952→AC Tryz.prog 135 [aT u,ci d, .c (.a (.ep 0 1 0 0)), .c (.a (.ep 1 1 0 0))] [(obj1 fr),(obj1 by1)] (aT (lf u d)) [(obj1 fr),(obj1 by1)])
  (hwid:∀ (u:Tm) (d:Int),Q u d→(z08 lf u d).l.length≤2*B):
  ∀ t:Tm,t.sz≤B→∀ k:Int,Q t k→0≤k→k+t.sz≤2305843009213693952→AC Tryz.prog 134 [cloSh,aT t,ci k] [(obj1 fr),(obj1 by1)] (aT (z08 lf t k)) [(obj1 fr),(obj1 by1)]:=by
 refine Tm.ind fun t ih hs k hQ h0 h1=> ?_;have hlen:=Tm.szs_length t.l;obtain ⟨kd,s,n,l⟩:=t;simp only [Tm.sz,B,Tm.l] at hs hlen;simp only [Tm.sz] at h1
 have key:∀ by_:Int,0≤by_→by_≤1→(by_=if (kd==5)=true then 1 else 0)→(hin:(kd==5||kd==6)=true)→RPt Tryz.prog 134 2 (aT (z08 lf (.mk kd s n l) k)) [(obj1 fr),(obj1 by1)] 1 (stSh fr by1 k by_ kd s n l (.fz .N) 0 [] 5):=by
  intro by_ hb0 hb1 hby hin;have hQ':=hq kd s n l k hQ hin;rw [←hby] at hQ'
  have:=l_w1Sh fr by1 lf k by_ h0 (by omega) hb0 hb1 kd s n hin l (by simp only [B];omega) (fun u hu=>by
   have:∀ {m:List Tm},(∀ v∈m,Q v (k+by_))→∀ u∈z0a lf m (k+by_),u.l.length≤2*B:=by
    intro m
    induction m with
    | nil=>intro _ u hu;simp [z0a] at hu
    | cons v m ihm=>
     intro hm u hu;simp only [z0a,List.mem_cons] at hu;rcases hu with rfl | hu
     · exact hwid v _ (hm v List.mem_cons_self)
     · exact ihm (fun x hx=>hm x (List.mem_cons_of_mem _ hx)) u hu
   exact this hQ' u hu) (fun u hu=>ih u hu (by have:=Tm.szs_mem hu;simp only [B];omega) (k+by_) (hQ' u hu) (by omega) (by have:=Tm.szs_mem hu;omega))
  rw [z08,if_pos hin,←hby];exact this
 refine AC.vc hP sh z6v (Nat.le_refl _) (by simp [isLive]) (by simp) (Eq.mpr (zpu kd s n (FTs l) k fr by1 _ _) ?_)
 have wi:(kd==5||kd==6)=true→AC Tryz.prog 143 [aT (.mk kd s n l)] [] (.tup [(false,[.a (.fz (.sl false 4 (FTs l)))]),(false,[.a (.fz (.int .i64 (if (kd==5)=true then 1 else 0)))])]) []:=fun hin=>by
  have hw:=zf0 (.mk kd s n l);rw [show z8b (.mk kd s n l)= .sl false 4 (FTs l) from if_pos hin] at hw;exact hw
 refine z02 (fun h=>z02 (fun h2=> ?_) (fun h2=> ?_)) (fun h=> ?_)
 · have e1:(kd==5)=false:=by simpa using h
   have e2:(kd==6)=false:=by simpa using h2
   have e:(kd==5||kd==6)=false:=by rw [e1,e2];rfl
   have hl:=hleaf (.mk kd s n l) k e hQ h0 (by omega);rw [show z08 lf (.mk kd s n l) k=lf (.mk kd s n l) k by rw [z08,if_neg (by rw [e];simp)]];exact ⟨_,hl, .refl _,rfl⟩
 · have e1:(kd==5)=false:=by simpa using h
   have e2:(kd==6)=true:=by simpa using h2
   have hin:(kd==5||kd==6)=true:=by rw [e1,e2];rfl
   have hk:=key 0 (by omega) (by omega) (by rw [e1];rfl) hin;have hw:=wi hin;rw [e1] at hw;refine ⟨_,_,hw,rfl, ?_⟩;show RPt _ _ _ _ _ _ ⟨[_,_,_,_,_,_,_,_,(31,ci (((FTs l).length:Nat):Int)),_],_,_⟩;rw [z01];exact hk
 · have e1:(kd==5)=true:=by simpa using h
   have hin:(kd==5||kd==6)=true:=by rw [e1];rfl
   have hk:=key 1 (by omega) (by omega) (by rw [e1];rfl) hin;have hw:=wi hin;rw [e1] at hw;refine ⟨_,_,hw,rfl, ?_⟩;show RPt _ _ _ _ _ _ ⟨[_,_,_,_,_,_,_,_,(31,ci (((FTs l).length:Nat):Int)),_],_,_⟩;rw [z01];exact hk
abbrev cloSu:TV:= .agg [.fn (.func 132) [] [(false,[.ep 0 1 0 0]),(false,[.ep 1 4 0 0])]]
abbrev stSu (ix:Int)(sk:Int)(ss:List UInt8)(sn:Int)(sl:List Tm)(k by_:Int)(kd:Int)(s:List UInt8)(n:Int)(l:List Tm)(w:AV)(i:Nat)(h:AHeap)(nx:Nat):St:=
 ⟨[(2,ci k),(3, .c (.a (.ep 2 1 0 0))),(4, .c (.a (.ep 3 4 0 0))),(6, .c (.a (.ep 4 4 0 0))),(7,aL l),(8,ci by_),(9, .c (.a w)),(30,aL l),(31,ci l.length),(32,ci i)],
  [(0,(obj1 ix)),(1,(.arr 4 [fzs (FT (.mk sk ss sn sl))])),(2, .arr 1 [[.fn (.func 132) [] [(false,[.ep 0 1 0 0]),(false,[.ep 1 4 0 0])]]]),(3, .arr 4 [fzs (FT (.mk kd s n l))]),(4, .arr 4 [[.a (.fz (.int .i64 0)), .a (.fz (.str [])), .a (.fz (.int .i64 0)), .a (.fz .N)]])]++h,nx⟩
theorem l_w2Su (ix:Int)(sk:Int)(ss:List UInt8)(sn:Int)(sl:List Tm)(lf:Tm→Int→Tm)(k by_:Int)(h0:0≤k)(hk:k≤2305843009213693952)(hb0:0≤by_)(hb1:by_≤1)(kd:Int)(s:List UInt8)(n:Int)(hin:(kd==5||kd==6)=true):
  ∀ (b a acc:List Tm),acc ≠ []→acc.length=a.length→(a++b).length≤B→(∀ u∈acc++z0a lf b (k+by_),u.l.length≤2*B)→
  (∀ u∈b,AC Tryz.prog 134 [cloSu,aT u,ci (k+by_)] [(obj1 ix),(.arr 4 [fzs (FT (.mk sk ss sn sl))])] (aT (z08 lf u (k+by_))) [(obj1 ix),(.arr 4 [fzs (FT (.mk sk ss sn sl))])])→
  RPt Tryz.prog 134 2 (aT (z1t (.mk kd s n (a++b)) (acc++z0a lf b (k+by_)))) [(obj1 ix),(.arr 4 [fzs (FT (.mk sk ss sn sl))])] 1 (stSu ix sk ss sn sl k by_ kd s n (a++b) (.osl 5 4 0 acc.length) a.length [(5, .arz 4 (FTs acc))] 6)
 | [],a,acc,hne,hlen,hl,hw,_=>by
  refine RPt.vc hP sh z6v (Eq.mpr (za8 ..) ?_)
  match acc,a,hne,hlen with
  | o::r,u::a',_,hlen=>
  have e1:List.take (o::r).length (List.drop 0 (FTs (o::r)))=FTs (o::r):=by rw [List.drop_zero,List.take_of_length_le (by rw [z01];omega)]
  have e2:(0:Nat)+(o::r).length≤(FTs (o::r)).length:=by rw [z01];omega
  have hrest:∀ (k':Int) (s':List UInt8) (n':Int),TV.Le (.agg [.a (.fz (.int .i64 k')), .a (.fz (.str s')), .a (.fz (.int .i64 n')), .a (.fz (.sl false 4 (List.take (o::r).length (List.drop 0 (FTs (o::r))))))]) (aT (.mk k' s' n' (o::r))):=fun k' s' n'=>by rw [e1];exact leT leSl
  refine z02 (fun h=>absurd (of_decide_eq_true h) (by simp)) (fun _=>z02 (fun h6=>z02 (fun h1=>⟨⟨by omega,by simp⟩,⟨by rw [z01];simp,by cases o;rfl,rfl⟩,z02 (fun ho=>⟨⟨rfl,by omega,by rw [List.append_nil];show (0:Int)<(((FTs (u::a')).length:Nat):Int);rw [z01];simp,by cases u;rfl⟩,z02 (fun hu=> ?_) (fun hu=>⟨⟨rfl,e2⟩, ?_,rfl⟩)⟩) (fun ho=>⟨⟨rfl,e2⟩, ?_,rfl⟩)⟩) (fun h1=>⟨⟨rfl,e2⟩, ?_,rfl⟩)) (fun h6=>⟨⟨rfl,e2⟩, ?_,rfl⟩))
  ·
   have hap:=z79 o r (by
    have:=hw o (by simp);simp only [List.length_cons,List.length_append,List.length_nil,B] at hl hlen this ⊢;omega)
   have e3:z1t (.mk kd s n (u::a'++ [])) (o::r++z0a lf [] (k+by_))=z1x o r:=by
    have c1:1<(o::r++z0a lf [] (k+by_)).length:=by have:=of_decide_eq_true h1;simp only [z0a,List.append_nil];omega
    have c2:(o.k==6)=true:=by cases o;exact ho
    have c3:(u.k !=6)=true:=by cases u;exact hu
    unfold z1t;rw [if_pos ⟨h6,c1,c2,c3⟩];simp [z0a]
   have e4:List.take (Int.toNat ((o::r).length:Int)-1) (List.drop 1 (FTs (o::r)))=FTs r:=by
    rw [show Int.toNat ((o::r).length:Int)-1=r.length by simp only [List.length_cons];omega];show List.take r.length (FTs r)=FTs r;rw [List.take_of_length_le (by rw [z01];omega)]
   have e5:(1:Nat)+(Int.toNat ((o::r).length:Int)-1)≤(FTs (o::r)).length:=by rw [z01];simp only [List.length_cons];omega
   rw [e3];refine ⟨⟨by omega,by simp⟩,⟨by rw [z01];simp,by cases o;rfl,rfl⟩,⟨by omega,by simp;omega,by omega⟩,⟨rfl,e5⟩, ?_⟩;rw [e4];obtain ⟨k1,s1,n1,l1⟩:=o;exact ⟨_,hap.args ⟨.refl _,le_c leSl,trivial⟩, .refl _,rfl⟩
  · have e3:z1t (.mk kd s n (u::a'++ [])) (o::r++z0a lf [] (k+by_))= .mk kd s n (o::r):=by
     simp only [z0a,List.append_nil]
     exact if_neg fun e=>by
      have hu':(u.k !=6)=false:=by cases u;exact hu
      have:(u.k !=6)=true:=e.2.2.2;rw [hu'] at this;cases this
    rw [e3];exact hrest _ _ _
  · have e3:z1t (.mk kd s n (u::a'++ [])) (o::r++z0a lf [] (k+by_))= .mk kd s n (o::r):=by
     simp only [z0a,List.append_nil]
     exact if_neg fun e=>by
      have ho':(o.k==6)=false:=by cases o;exact ho
      have:(o.k==6)=true:=e.2.2.1;rw [ho'] at this;cases this
    rw [e3];exact hrest _ _ _
  · have e3:z1t (.mk kd s n (u::a'++ [])) (o::r++z0a lf [] (k+by_))= .mk kd s n (o::r):=by
     simp only [z0a,List.append_nil];exact if_neg fun e=>by have:=e.2.1;have:=of_decide_eq_false h1;omega
    rw [e3];exact hrest _ _ _
  · have e3:z1t (.mk kd s n (u::a'++ [])) (o::r++z0a lf [] (k+by_))= .mk kd s n (o::r):=by
     simp only [z0a,List.append_nil]
     exact if_neg fun e=>by
      have h6':(kd==6)=false:=h6;have:(kd==6)=true:=e.1;rw [h6'] at this;cases this
    rw [e3];exact hrest _ _ _
 | t::b,a,acc,hne,hlen,hl,hw,ih=>by
  refine RPt.vc hP sh z6v (Eq.mpr (za8 ..) ?_);have hl':=hl;simp only [List.length_append,List.length_cons,B] at hl';have h1:=ih t List.mem_cons_self
  have h2:=l_w2Su ix sk ss sn sl lf k by_ h0 hk hb0 hb1 kd s n hin b (a++ [t]) (acc++ [z08 lf t (k+by_)]) (by simp) (by simp [hlen]) (by rw [ap];exact hl)
   (by rw [List.append_assoc];simpa [z0a] using hw) (fun u hu=>ih u (List.mem_cons_of_mem _ hu))
  have h3:=ltI' a t b;unfold stSu at h2;rw [ap,show (((a++ [t]).length:Nat):Int)=(a.length:Int)+1 from nx a t] at h2;show br (decide ((a.length:Int)<(((a++t::b).length:Nat):Int))) ((FV.L 4 (.sl false 4 (FTs (a++t::b)))=true∧_∧_∧_)∧_) _;refine z02 (fun _=> ?_) (fun h=>absurd (ltI a t b) (of_decide_eq_false h));have hm:=midI a t b;rw [show FV.ses (.sl false 4 (FTs (a++t::b)))=FTs (a++t::b) from rfl,hm,w64 (x:=(a.length:Int)+1) (by omega) (by omega),w64 (x:=k+by_) (by omega) (by omega)];obtain ⟨k',s',n',l'⟩:=t;refine ⟨⟨rfl,by omega,h3,rfl⟩,_,h1,Nat.le_refl _,⟨by rw [z01];omega,z7p (by omega)⟩, ?_⟩;have e5:List.take acc.length (FTs acc)++FTs [z08 lf (.mk k' s' n' l') (k+by_)]=FTs (acc++ [z08 lf (.mk k' s' n' l') (k+by_)]):=by rw [List.take_of_length_le (by rw [z01];omega),←z2n]
  have e6:FTs [z08 lf (.mk k' s' n' l') (k+by_)]=[[.int .i64 (z08 lf (.mk k' s' n' l') (k+by_)).k, .str (z08 lf (.mk k' s' n' l') (k+by_)).s, .int .i64 (z08 lf (.mk k' s' n' l') (k+by_)).n, .sl false 4 (FTs (z08 lf (.mk k' s' n' l') (k+by_)).l)]]:=by
   rw [FTs,FTs,z7w]
  rw [e6] at e5;rw [e5];rw [show acc++z0a lf (.mk k' s' n' l'::b) (k+by_)=acc++z08 lf (.mk k' s' n' l') (k+by_)::z0a lf b (k+by_) by simp [z0a]];rw [show (acc++ [z08 lf (.mk k' s' n' l') (k+by_)]).length=acc.length+1 by simp,List.append_assoc] at h2;exact h2
theorem l_w1Su (ix:Int)(sk:Int)(ss:List UInt8)(sn:Int)(sl:List Tm)(lf:Tm→Int→Tm)(k by_:Int)(h0:0≤k)(hk:k≤2305843009213693952)(hb0:0≤by_)(hb1:by_≤1)(kd:Int)(s:List UInt8)(n:Int)(hin:(kd==5||kd==6)=true):
  ∀ (b:List Tm),b.length≤B→(∀ u∈z0a lf b (k+by_),u.l.length≤2*B)→
  (∀ u∈b,AC Tryz.prog 134 [cloSu,aT u,ci (k+by_)] [(obj1 ix),(.arr 4 [fzs (FT (.mk sk ss sn sl))])] (aT (z08 lf u (k+by_))) [(obj1 ix),(.arr 4 [fzs (FT (.mk sk ss sn sl))])])→
  RPt Tryz.prog 134 2 (aT (z1t (.mk kd s n b) (z0a lf b (k+by_)))) [(obj1 ix),(.arr 4 [fzs (FT (.mk sk ss sn sl))])] 1 (stSu ix sk ss sn sl k by_ kd s n b (.fz .N) 0 [] 5)
 | [],hl,hw,_=>by
  refine RPt.vc hP sh z6v (Eq.mpr (za ..) ?_);have e:z1t (.mk kd s n []) (z0a lf [] (k+by_))= .mk kd s n []:=if_neg fun e=>by have:=e.2.1;simp [z0a] at this
  rw [e];exact z02 (fun h=>absurd (of_decide_eq_true h) (by simp)) (fun _=>z02 (fun _=>⟨rfl,leT z1m,rfl⟩) (fun _=>⟨leT z1m,rfl⟩))
 | t::b,hl,hw,ih=>by
  refine RPt.vc hP sh z6v (Eq.mpr (za ..) ?_);have hl':=hl;simp only [List.length_cons,B] at hl';have h1:=ih t List.mem_cons_self;have h2:=l_w2Su ix sk ss sn sl lf k by_ h0 hk hb0 hb1 kd s n hin b [t] [z08 lf t (k+by_)] (by simp) rfl (by simpa using hl) (by simpa [z0a] using hw) (fun u hu=>ih u (List.mem_cons_of_mem _ hu));show br (decide ((0:Int)<(((t::b).length:Nat):Int))) ((FV.L 4 (.sl false 4 (FTs (t::b)))=true∧_∧_∧_)∧_) _;refine z02 (fun _=> ?_) (fun h=>absurd (of_decide_eq_false h) (by simp));rw [show FV.ses (.sl false 4 (FTs (t::b)))=FTs (t::b) from rfl,show List.getD (FTs (t::b)) (Int.toNat ((0:Nat):Int)) []=FT t from rfl,w64 (x:=k+by_) (by omega) (by omega),w64 (x:=((0:Nat):Int)+1) (by omega) (by omega)];obtain ⟨k',s',n',l'⟩:=t;have h3:(0:Int)<(((FTs (.mk k' s' n' l'::b)).length:Nat):Int):=by rw [z01];simp
  refine ⟨⟨rfl,by omega,h3,rfl⟩,_,h1,Nat.le_refl _,z7p (by omega), ?_⟩
  have e6:FTs [z08 lf (.mk k' s' n' l') (k+by_)]=[[.int .i64 (z08 lf (.mk k' s' n' l') (k+by_)).k, .str (z08 lf (.mk k' s' n' l') (k+by_)).s, .int .i64 (z08 lf (.mk k' s' n' l') (k+by_)).n, .sl false 4 (FTs (z08 lf (.mk k' s' n' l') (k+by_)).l)]]:=by
   rw [FTs,FTs,z7w]
  unfold stSu at h2;rw [e6] at h2;exact h2
theorem c_wSu (ix:Int) (sk:Int) (ss:List UInt8) (sn:Int) (sl:List Tm) (lf:Tm→Int→Tm) (Q:Tm→Int→Prop)
  (hq:∀ (kd:Int) (s:List UInt8) (n:Int) (l:List Tm) (d:Int),Q (.mk kd s n l) d→(kd==5||kd==6)=true→∀ u∈l,Q u (d+if (kd==5)=true then 1 else 0))
  (hleaf:∀ (u:Tm) (d:Int),(u.k==5||u.k==6)=false→Q u d→0≤d→d≤2305843009213693952→AC Tryz.prog 132 [aT u,ci d, .c (.a (.ep 0 1 0 0)), .c (.a (.ep 1 4 0 0))] [(obj1 ix),(.arr 4 [fzs (FT (.mk sk ss sn sl))])] (aT (lf u d)) [(obj1 ix),(.arr 4 [fzs (FT (.mk sk ss sn sl))])])
  (hwid:∀ (u:Tm) (d:Int),Q u d→(z08 lf u d).l.length≤2*B):
  ∀ t:Tm,t.sz≤B→∀ k:Int,Q t k→0≤k→k+t.sz≤2305843009213693952→AC Tryz.prog 134 [cloSu,aT t,ci k] [(obj1 ix),(.arr 4 [fzs (FT (.mk sk ss sn sl))])] (aT (z08 lf t k)) [(obj1 ix),(.arr 4 [fzs (FT (.mk sk ss sn sl))])]:=by
 refine Tm.ind fun t ih hs k hQ h0 h1=> ?_;have hlen:=Tm.szs_length t.l;obtain ⟨kd,s,n,l⟩:=t;simp only [Tm.sz,B,Tm.l] at hs hlen;simp only [Tm.sz] at h1
 have key:∀ by_:Int,0≤by_→by_≤1→(by_=if (kd==5)=true then 1 else 0)→(hin:(kd==5||kd==6)=true)→RPt Tryz.prog 134 2 (aT (z08 lf (.mk kd s n l) k)) [(obj1 ix),(.arr 4 [fzs (FT (.mk sk ss sn sl))])] 1 (stSu ix sk ss sn sl k by_ kd s n l (.fz .N) 0 [] 5):=by
  intro by_ hb0 hb1 hby hin;have hQ':=hq kd s n l k hQ hin;rw [←hby] at hQ'
  have:=l_w1Su ix sk ss sn sl lf k by_ h0 (by omega) hb0 hb1 kd s n hin l (by simp only [B];omega) (fun u hu=>by
   have:∀ {m:List Tm},(∀ v∈m,Q v (k+by_))→∀ u∈z0a lf m (k+by_),u.l.length≤2*B:=by
    intro m
    induction m with
    | nil=>intro _ u hu;simp [z0a] at hu
    | cons v m ihm=>
     intro hm u hu;simp only [z0a,List.mem_cons] at hu;rcases hu with rfl | hu
     · exact hwid v _ (hm v List.mem_cons_self)
     · exact ihm (fun x hx=>hm x (List.mem_cons_of_mem _ hx)) u hu
   exact this hQ' u hu) (fun u hu=>ih u hu (by have:=Tm.szs_mem hu;simp only [B];omega) (k+by_) (hQ' u hu) (by omega) (by have:=Tm.szs_mem hu;omega))
  rw [z08,if_pos hin,←hby];exact this
 refine AC.vc hP sh z6v (Nat.le_refl _) (by simp [isLive]) (by simp) (Eq.mpr (zs7 kd s n (FTs l) k ix sk ss sn (FTs sl) _ _) ?_)
 have wi:(kd==5||kd==6)=true→AC Tryz.prog 143 [aT (.mk kd s n l)] [] (.tup [(false,[.a (.fz (.sl false 4 (FTs l)))]),(false,[.a (.fz (.int .i64 (if (kd==5)=true then 1 else 0)))])]) []:=fun hin=>by
  have hw:=zf0 (.mk kd s n l);rw [show z8b (.mk kd s n l)= .sl false 4 (FTs l) from if_pos hin] at hw;exact hw
 refine z02 (fun h=>z02 (fun h2=> ?_) (fun h2=> ?_)) (fun h=> ?_)
 · have e1:(kd==5)=false:=by simpa using h
   have e2:(kd==6)=false:=by simpa using h2
   have e:(kd==5||kd==6)=false:=by rw [e1,e2];rfl
   have hl:=hleaf (.mk kd s n l) k e hQ h0 (by omega);rw [show z08 lf (.mk kd s n l) k=lf (.mk kd s n l) k by rw [z08,if_neg (by rw [e];simp)]];exact ⟨_,hl, .refl _,rfl⟩
 · have e1:(kd==5)=false:=by simpa using h
   have e2:(kd==6)=true:=by simpa using h2
   have hin:(kd==5||kd==6)=true:=by rw [e1,e2];rfl
   have hk:=key 0 (by omega) (by omega) (by rw [e1];rfl) hin;have hw:=wi hin;rw [e1] at hw;refine ⟨_,_,hw,rfl, ?_⟩;show RPt _ _ _ _ _ _ ⟨[_,_,_,_,_,_,_,_,(31,ci (((FTs l).length:Nat):Int)),_],_,_⟩;rw [z01];exact hk
 · have e1:(kd==5)=true:=by simpa using h
   have hin:(kd==5||kd==6)=true:=by rw [e1];rfl
   have hk:=key 1 (by omega) (by omega) (by rw [e1];rfl) hin;have hw:=wi hin;rw [e1] at hw;refine ⟨_,_,hw,rfl, ?_⟩;show RPt _ _ _ _ _ _ ⟨[_,_,_,_,_,_,_,_,(31,ci (((FTs l).length:Nat):Int)),_],_,_⟩;rw [z01];exact hk
end Go.AM

set_option maxRecDepth 100000
open Go Go.Proofs
namespace Go.AM
theorem withF_sz (t:Tm)(o:List Tm):(z1t t o).sz≤1+Tm.szs o:=by
 unfold z1t;split
 · rename_i h
   match o,h with
   | [],h=>simp at h
   | x::r,h=>
    simp only [List.headD_cons,List.tail_cons,Tm.szs] at h ⊢;have hx:(x.k==6)=true:=h.2.2.1;have hr:r ≠ []:=by intro e;rw [e] at h;simp at h
    unfold z1x;split
    · exact absurd rfl hr
    · have:=x.sz_eq;by_cases hl:x.l=[]
      · rw [if_neg (fun e=>e.2 hl)];simp only [Tm.sz,Tm.szs];omega
      · rw [if_pos ⟨hx,hl⟩];simp only [Tm.sz,Tm.szs_append];omega
 · simp only [Tm.sz];omega
mutual
def nd:Tm→Nat
 | .mk _ _ _ l=>1+nds l
def nds:List Tm→Nat
 | []=>0
 | t::l=>nd t+nds l
end
theorem nd_eq (t:Tm):nd t=1+nds t.l:=by cases t;rfl
theorem zjq:∀ {l:List Tm} {t:Tm},t∈l→nd t≤nds l
 | x::l,t,h=>by
  rcases List.mem_cons.1 h with rfl | h
  · simp only [nds];omega
  · have:=zjq h;simp only [nds];omega
mutual
theorem zfw (lf:Tm→Int→Tm)(S:Nat)(h:∀ u d,(lf u d).sz≤u.sz+S):∀ (t:Tm) (d:Int),(z08 lf t d).sz≤t.sz+nd t*S
 | .mk k s n l,d=>by
  rw [z08];split
  · refine Nat.le_trans (withF_sz ..) ?_;have:=zne lf S h l (d+if (k==5)=true then 1 else 0)
    simp only [Tm.sz,nd,Nat.add_mul,Nat.one_mul];omega
  · refine Nat.le_trans (h _ _) ?_;simp only [nd,Nat.add_mul,Nat.one_mul];omega
theorem zne (lf:Tm→Int→Tm)(S:Nat)(h:∀ u d,(lf u d).sz≤u.sz+S):∀ (l:List Tm) (d:Int),Tm.szs (z0a lf l d)≤Tm.szs l+nds l*S
 | [],_=>by simp [z0a,Tm.szs]
 | t::l,d=>by
  have:=zfw lf S h t d;have:=zne lf S h l d;simp only [z0a,Tm.szs,nds,Nat.add_mul];omega
end
theorem zdw {M:Int}:∀ {a b:List Tm},bds M a→bds M b→bds M (a++b)
 | [],_,_,h=>h
 | _::_,_,h,h'=>⟨h.1,zdw h.2 h'⟩
theorem zqa {M:Int}:∀ {l:List Tm},(∀ t∈l,bd M t)→bds M l
 | [],_=>trivial
 | t::_,h=>⟨h t List.mem_cons_self,zqa fun u hu=>h u (List.mem_cons_of_mem _ hu)⟩
theorem bd6 {M:Int}{s:List UInt8}{n:Int}{l:List Tm}(h:bds M l):bd M (.mk 6 s n l):=⟨fun e=>absurd e (by omega),h⟩
theorem zjh {M:Int}{f:Tm}{l:List Tm}(hf:bd M f)(hl:bds M l):bd M (z1x f l):=by
 unfold z1x;split
 · exact hf
 · split
   · exact bd6 (zdw (bd_l hf) hl)
   · exact bd6 ⟨hf,hl⟩
theorem withF_bd {M:Int}{t:Tm}{o:List Tm}(hk:t.k≠3)(ho:bds M o):bd M (z1t t o):=by
 unfold z1t;split
 · rename_i h
   match o,h,ho with
   | [],h,_=>simp at h
   | x::r,h,ho=>exact zjh ho.1 ho.2
 · exact ⟨fun e=>absurd e hk,ho⟩
mutual
theorem zfa (lf:Tm→Int→Tm)(M M' D:Int)(h:∀ u d,bd M u→0≤d→d≤D→bd M' (lf u d)):∀ (t:Tm) (d:Int),bd M t→0≤d→d+t.sz≤D→bd M' (z08 lf t d)
 | .mk k s n l,d,hb,h0,h1=>by
  rw [z08];simp only [Tm.sz] at h1;split
  · rename_i hk;refine withF_bd (fun e=> ?_) (zmw lf M M' D h l _ hb.2 (by split<;>omega) (by split<;>omega));have e:k=3:=e;rw [e] at hk;exact absurd hk (by decide)
  · exact h _ _ hb h0 (by omega)
theorem zmw (lf:Tm→Int→Tm)(M M' D:Int)(h:∀ u d,bd M u→0≤d→d≤D→bd M' (lf u d)):∀ (l:List Tm) (d:Int),bds M l→0≤d→d+Tm.szs l≤D→bds M' (z0a lf l d)
 | [],_,_,_,_=>trivial
 | t::l,d,hb,h0,h1=>by
  simp only [Tm.szs] at h1;exact ⟨zfa lf M M' D h t d hb.1 h0 (by omega),zmw lf M M' D h l d hb.2 h0 (by omega)⟩
end
theorem applyF_k {f:Tm}(l:List Tm)(h:(f.k==6)=true):(z1x f l).k=6:=by
 unfold z1x;split
 · simpa using h
 · split<;>rfl
theorem zsi (t:Tm)(o:List Tm):(z1t t o).k=t.k:=by
 unfold z1t;split
 · rename_i h6;have e:t.k=6:=by simpa using h6.1
   rw [applyF_k _ h6.2.2.1];exact e.symm
 · rfl
theorem walkF_k (lf:Tm→Int→Tm)(h:∀ u d,(lf u d).k=u.k)(t:Tm)(d:Int):(z08 lf t d).k=t.k:=by
 obtain ⟨k,s,n,l⟩:=t;rw [z08];split
 · exact zsi _ _
 · exact h _ _
theorem zoc (lf:Tm→Int→Tm)(h:∀ u d,(lf u d).k=u.k)(k:Int)(s:List UInt8)(n:Int)(l:List Tm)(d:Int)(hk:(k==5||k==6)=true):
  z08 lf (.mk k s n l) d= .mk k s n (z0a lf l (d+if (k==5)=true then 1 else 0)):=by
 rw [z08,if_pos hk,z1t,if_neg fun e=> ?_];rfl
 match l,e with
 | [],e=>have:=e.2.1;simp [z0a] at this
 | t::l,e=>
  have e1:=e.2.2.1;have e2:=e.2.2.2;rw [z0a,List.headD_cons,walkF_k lf h] at e1;have e2:(t.k !=6)=true:=e2;rw [bne,e1] at e2;cases e2
theorem z1u (lf:Tm→Int→Tm)(k:Int)(s:List UInt8)(n:Int)(l:List Tm)(d:Int)(hk:(k==5||k==6)=false):
  z08 lf (.mk k s n l) d=lf (.mk k s n l) d:=by rw [z08,if_neg (by rw [hk];simp)]
theorem z9u (lf:Tm→Int→Tm):∀ (l:List Tm) (d:Int),(z0a lf l d).length=l.length
 | [],_=>rfl
 | _::l,d=>by simp only [z0a,List.length_cons,z9u lf l d]
abbrev M61:Int:=2305843009213693952
def z0u (fr by_:Int)(u:Tm)(d:Int):Tm:=if (u.k==3)=true∧d+fr≤u.n then .mk u.k u.s (u.n+by_) u.l else u
def shT (fr by_:Int)(t:Tm)(d:Int):Tm:=z08 (z0u fr by_) t d
theorem zgh (fr by_:Int)(u:Tm)(d:Int):(z0u fr by_ u d).k=u.k:=by unfold z0u;split<;>rfl
theorem zv0 (fr by_:Int)(u:Tm)(d:Int):(z0u fr by_ u d).sz=u.sz:=by
 unfold z0u;split
 · cases u;rfl
 · rfl
theorem zeh (fr by_:Int)(t:Tm)(d:Int):(shT fr by_ t d).sz≤t.sz:=by
 have:=zfw (z0u fr by_) 0 (fun u d=>by rw [zv0];omega) t d;rw [Nat.mul_zero] at this;exact this
theorem z2d {M M':Int}(h:M≤M'):∀ t:Tm,bd M t→bd M' t:=by
 refine Tm.ind fun t ih hb=> ?_;obtain ⟨k,s,n,l⟩:=t;exact ⟨fun e=>by have:=hb.1 e;omega,zqa fun u hu=>ih u hu (z2r hb.2 hu)⟩
theorem zsl {fr by_ M:Int}(h0:0≤by_)(u:Tm)(d:Int)(hb:bd M u):bd (M+by_) (z0u fr by_ u d):=by
 unfold z0u;split
 · obtain ⟨k,s,n,l⟩:=u;exact ⟨fun e=>by have:=hb.1 e;simp only [Tm.n];omega,zqa fun u hu=>z2d (by omega) u (z2r hb.2 hu)⟩
 · exact z2d (by omega) u hb
theorem zpl {fr by_ M:Int}(h0:0≤by_)(t:Tm)(d:Int)(hb:bd M t)(hd:0≤d):bd (M+by_) (shT fr by_ t d):=
 zfa (z0u fr by_) M (M+by_) (d+t.sz) (fun u d' hu _ _=>zsl h0 u d' hu) t d hb hd (Int.le_refl _)
theorem zrc (t:Tm)(by_:Int)(h1: -9223372036854775808≤t.n+by_)(h2:t.n+by_≤9223372036854775807):AC Tryz.prog 133 [aT t,ci by_] [] (aT (.mk t.k t.s (t.n+by_) t.l)) []:=by
 obtain ⟨k,s,n,l⟩:=t;refine AC.vc hP sh lv133 (Nat.le_refl _) (by simp) (by simp) (Eq.mpr (v133 k s n (FTs l) by_ _ _) ?_);rw [w64 (x:=n+by_) h1 h2];exact ⟨.refl _,rfl⟩
theorem c_shift1 (fr by_ d:Int)(u:Tm)(hb:u.k=3→0-M61≤u.n∧u.n≤M61)(hd0:0≤d)(hd1:d≤M61)(hf0:0≤fr)(hf1:fr≤M61)(hb0:0-1≤by_)(hb1:by_≤M61):
  AC Tryz.prog 135 [aT u,ci d, .c (.a (.ep 0 1 0 0)), .c (.a (.ep 1 1 0 0))] [obj1 fr,obj1 by_] (aT (z0u fr by_ u d)) [obj1 fr,obj1 by_]:=by
 obtain ⟨k,s,n,l⟩:=u;simp only [M61,Tm.k,Tm.n] at*;refine AC.vc hP sh lv135 (Nat.le_refl _) (by simp [isLive]) (by simp) (Eq.mpr (v135 k s n (FTs l) d fr by_ _ _) ?_);rw [w64 (by omega) (by omega)];refine z02 (fun h=>z02 (fun h2=> ?_) (fun h2=> ?_)) (fun h=> ?_)
 · have hk:k=3:=by simpa using h
   have h3:d+fr≤n:=of_decide_eq_true h2;have:=hb hk;have e:z0u fr by_ (.mk k s n l) d= .mk k s (n+by_) l:=if_pos ⟨h,h3⟩;rw [e];exact ⟨_,zrc (.mk k s n l) by_ (by simp only [Tm.n];omega) (by simp only [Tm.n];omega), .refl _,rfl⟩
 · have h3:¬d+fr≤n:=of_decide_eq_false h2;have e:z0u fr by_ (.mk k s n l) d= .mk k s n l:=if_neg fun e=>h3 e.2;rw [e];exact ⟨.refl _,rfl⟩
 · have e:z0u fr by_ (.mk k s n l) d= .mk k s n l:=if_neg fun e=>by have:=e.1;rw [show Tm.k (.mk k s n l)=k from rfl,h] at this;cases this
   rw [e];exact ⟨.refl _,rfl⟩
theorem zcu (t:Tm)(fr by_:Int)(hs:t.sz≤B)(hb:bd M61 t)(hf0:0≤fr)(hf1:fr≤M61)(hb0:0-1≤by_)(hb1:by_≤M61):
  AC Tryz.prog 99 [aT t,ci fr,ci by_] [] (aT (shT fr by_ t 0)) []:=by
 have h:=c_wSh fr by_ (z0u fr by_) (fun u _=>bd M61 u∧u.sz≤B) (fun kd s n l d hq hk u hu=>⟨z2r hq.1.2 hu,by have:=Tm.szs_mem hu;have:=hq.2;simp only [Tm.sz] at this;omega⟩)
  (fun u d hk hq h0 h1=>c_shift1 fr by_ d u (by obtain ⟨k,s,n,l⟩:=u;exact hq.1.1) h0 h1 hf0 hf1 hb0 hb1)
  (fun u d hq=>by have:=zeh fr by_ u d;have h1:=(shT fr by_ u d).sz_eq;have:=Tm.szs_length (shT fr by_ u d).l;have:=hq.2;show (shT fr by_ u d).l.length≤_;omega)
  t hs 0 ⟨hb,hs⟩ (Int.le_refl _) (by simp only [B] at hs;omega)
 obtain ⟨k,s,n,l⟩:=t;refine AC.vc hP sh lv99 (Nat.le_refl _) (by simp) (by simp) (Eq.mpr (v99 k s n (FTs l) fr by_ _ _) ?_);exact ⟨_,h, .refl _,rfl⟩
def z0p (i:Int)(s:Tm)(u:Tm)(d:Int):Tm:=
 if (u.k==3)=true then (if u.n<d+i then u else if (u.n==d+i)=true then shT 0 d s 0 else .mk u.k u.s (u.n-1) u.l) else u
def suT (i:Int)(s t:Tm)(d:Int):Tm:=z08 (z0p i s) t d
theorem zqe (i:Int)(s u:Tm)(d:Int):(z0p i s u d).sz≤u.sz+s.sz:=by
 have h3:=zeh 0 d s 0;unfold z0p;split
 · split
   · omega
   · split
     · omega
     · cases u;simp only [Tm.sz,Tm.l];omega
 · omega
theorem suT_sz (i:Int)(s t:Tm)(d:Int):(suT i s t d).sz≤t.sz+nd t*s.sz:=zfw _ _ (zqe i s) t d
theorem suT_bd {i M M' D:Int}(s t:Tm)(d:Int)(hb:bd M t)(hs:bd M' s)(hM:M'+D≤M)(hd:0≤d)(hD:d+t.sz≤D)(hi:0≤i)(hM':0≤M):bd M (suT i s t d):=by
 refine zfa (z0p i s) M M D (fun u d' hu h0 h1=> ?_) t d hb hd hD;unfold z0p;split
 · split
   · exact hu
   · split
     · exact z2d (by omega) _ (zpl h0 s 0 hs (Int.le_refl _))
     · rename_i h2 h3;obtain ⟨k,s',n,l⟩:=u;have h3':n≠d'+i:=fun e=>h3 (by rw [show Tm.n (.mk k s' n l)=n from rfl,e];simp);have h2':¬n<d'+i:=h2;exact ⟨fun e=>by have:=hu.1 e;simp only [Tm.n];omega,hu.2⟩
 · exact hu
theorem c_subst1 (i d:Int)(s u:Tm)(hs:s.sz≤B)(hbs:bd M61 s)(hb:u.k=3→0-M61≤u.n∧u.n≤M61)(hd0:0≤d)(hd1:d≤M61)(hi0:0≤i)(hi1:i≤M61):
  AC Tryz.prog 132 [aT u,ci d, .c (.a (.ep 0 1 0 0)), .c (.a (.ep 1 4 0 0))] [obj1 i, .arr 4 [fzs (FT s)]] (aT (z0p i s u d)) [obj1 i, .arr 4 [fzs (FT s)]]:=by
 obtain ⟨k,t,n,l⟩:=u;have hsh:=zcu s 0 d hs hbs (Int.le_refl _) (by simp only [M61];omega) (by omega) hd1;rw [z7w];simp only [M61,Tm.k,Tm.n] at*;refine AC.vc hP sh lv132 (Nat.le_refl _) (by simp [isLive]) (by simp) (Eq.mpr (v132 k t n (FTs l) d i s.k s.s s.n (FTs s.l) _ _) ?_);rw [w64 (by omega) (by omega)];refine z02 (fun h=> ?_) (fun h=>z02 (fun h2=> ?_) (fun h2=>z02 (fun h3=> ?_) (fun h3=> ?_)))
 · have e:z0p i s (.mk k t n l) d= .mk k t n l:=if_neg fun e=>by rw [show Tm.k (.mk k t n l)=k from rfl] at e;rw [bne,e] at h;cases h
   rw [e];exact ⟨.refl _,rfl⟩
 · have hk:(k==3)=true:=by simpa [bne] using h
   have e:z0p i s (.mk k t n l) d= .mk k t n l:=by rw [z0p,if_pos (show (Tm.k (.mk k t n l)==3)=true from hk),if_pos (show Tm.n (.mk k t n l)<d+i from of_decide_eq_true h2)]
   rw [e];exact ⟨.refl _,rfl⟩
 · have hk:(k==3)=true:=by simpa [bne] using h
   have e:z0p i s (.mk k t n l) d=shT 0 d s 0:=by rw [z0p,if_pos (show (Tm.k (.mk k t n l)==3)=true from hk),if_neg (show¬Tm.n (.mk k t n l)<d+i from of_decide_eq_false h2),if_pos (show (Tm.n (.mk k t n l)==d+i)=true from h3)]
   rw [e];exact ⟨_,hsh, .refl _,rfl⟩
 · have hk:(k==3)=true:=by simpa [bne] using h
   have e:z0p i s (.mk k t n l) d= .mk k t (n-1) l:=by rw [z0p,if_pos (show (Tm.k (.mk k t n l)==3)=true from hk),if_neg (show¬Tm.n (.mk k t n l)<d+i from of_decide_eq_false h2),if_neg (by rw [show Tm.n (.mk k t n l)=n from rfl,h3];simp)];rfl
   have:=hb (by simpa using hk);rw [e];exact ⟨_,zrc (.mk k t n l) (-1) (by simp only [Tm.n];omega) (by simp only [Tm.n];omega), .refl _,rfl⟩
theorem zux (t s:Tm)(i:Int)(hs:s.sz≤B)(ht:t.sz+nd t*s.sz≤B)(hb:bd M61 t)(hbs:bd M61 s)(hi0:0≤i)(hi1:i≤M61):
  AC Tryz.prog 98 [aT t,ci i,aT s] [] (aT (suT i s t 0)) []:=by
 have ht':t.sz≤B:=by omega
 have hFT:=z7w s;obtain ⟨sk,ss,sn,sl⟩:=s
 have h:=c_wSu i sk ss sn sl (z0p i (.mk sk ss sn sl)) (fun u _=>bd M61 u∧u.sz+nd u*(Tm.mk sk ss sn sl).sz≤B) (fun kd s n l d hq hk u hu=>⟨z2r hq.1.2 hu,by have h2:=hq.2;have:=Nat.mul_le_mul_right (Tm.mk sk ss sn sl).sz (zjq hu);have:=Tm.szs_mem hu;rw [Tm.sz_eq (.mk kd s n l),nd_eq (.mk kd s n l),Nat.add_mul] at h2;simp only [Tm.l] at h2;omega⟩)
  (fun u d hk hq h0 h1=>c_subst1 i d (.mk sk ss sn sl) u hs hbs (by obtain ⟨k,s,n,l⟩:=u;exact hq.1.1) h0 h1 hi0 hi1)
  (fun u d hq=>by have:=suT_sz i (.mk sk ss sn sl) u d;have h1:=(suT i (.mk sk ss sn sl) u d).sz_eq;have:=Tm.szs_length (suT i (.mk sk ss sn sl) u d).l;have:=hq.2;show (suT i (.mk sk ss sn sl) u d).l.length≤_;omega)
  t ht' 0 ⟨hb,ht⟩ (Int.le_refl _) (by simp only [B] at ht';omega)
 obtain ⟨k,s,n,l⟩:=t;refine AC.vc hP sh lv98 (Nat.le_refl _) (by simp) (by simp) (Eq.mpr (v98 k s n (FTs l) i sk ss sn (FTs sl) _ _) ?_);exact ⟨_,h, .refl _,rfl⟩
end Go.AM

set_option maxRecDepth 100000
open Go Go.Proofs
namespace Go.AM
mutual
def z05:Tm→Bool
 | .mk k s n l=>
  if (k==0)=true then (z5r s||zaf s)&&n==0&&(((FTs l).length:Nat):Int)==0
  else if (k==1)=true then decide (n≥1)&&s==[]&&(((FTs l).length:Nat):Int)==0&&z1p l
  else if (k==2)=true then s==[]&&(((FTs l).length:Nat):Int)==0&&z1p l
  else if (k==3)=true then decide (n≥0)&&decide (n≤4611686018427387904)&&s==[]&&(((FTs l).length:Nat):Int)==0&&z1p l
  else if (k==4)=true then decide (n≥0)&&decide (n≤4611686018427387904)&&s==[]&&(((FTs l).length:Nat):Int)==0&&z1p l
  else if (k==5)=true then n==0&&s==[]&&(((FTs l).length:Nat):Int)==1&&z1p l
  else if (k==6)=true then n==0&&decide ((((FTs l).length:Nat):Int)≥2)&&((l.headD default).k !=6)&&s==[]&&z1p l
  else false
def z1p:List Tm→Bool
 | []=>true
 | t::l=>z05 t&&z1p l
end
def zli:List Tm→Int→Int
 | [],_=> -1
 | t::l,i=>if z05 t=true then zli l (i+1) else i
theorem znv:∀ (l:List Tm) (i:Int),0≤i→decide (zli l i≥0)= !z1p l
 | [],_,_=>rfl
 | t::l,i,h=>by
  rw [zli,z1p];split
  · rename_i e;rw [znv l (i+1) (by omega),e,Bool.true_and]
  · rename_i e;rw [show z05 t=false by simpa using e];simp;omega
theorem zt4:∀ (b a:List Tm),(∀ u∈b,AC Tryz.prog 40 [aT u] [] (cb (!z05 u)) [])→(a++b).length≤B→
  RPt Tryz.prog 84 0 (ci (zli b a.length)) [] 1 ⟨[(0,aL (a++b)),(1, .c (.fn (.func 40) [] [])),(7,ci (((FTs (a++b)).length:Nat):Int)),(8,ci a.length)],[],0⟩
 | [],a,_,_=>by
  refine RPt.vc hP sh lv84 (Eq.mpr (zdv ..) ?_);exact z02 (fun h=>absurd (of_decide_eq_true h) (geI' a)) (fun _=>z0z rfl)
 | t::b,a,ih,hl=>by
  refine RPt.vc hP sh lv84 (Eq.mpr (zdv ..) ?_);have hl':=hl;simp only [List.length_append,List.length_cons,B] at hl';have h1:=ih t List.mem_cons_self;have h2:=zt4 b (a++ [t]) (fun u hu=>ih u (List.mem_cons_of_mem _ hu)) (by rw [ap];exact hl);have h3:=ltI' a t b;rw [ap,nx] at h2;rw [midI,w64 (x:=(a.length:Int)+1) (by omega) (by omega)];refine z02 (fun _=> ?_) (fun h=>absurd h3 (of_decide_eq_false h));obtain ⟨k',s',n',l'⟩:=t;refine ⟨⟨rfl,by omega,h3,rfl⟩,_,h1,z02 (fun h=> ?_) (fun h=> ?_)⟩
  · rw [zli,if_neg (by simpa using h)];exact z0z rfl
  · rw [zli,if_pos (by simpa using h)];exact h2
theorem c_contf (l:List Tm)(hl:l.length≤B)(ih:∀ u∈l,AC Tryz.prog 15 [aT u] [] (cb (z05 u)) []):AC Tryz.prog 39 [aL l, .c (.fn (.func 40) [] [])] [] (cb (!z1p l)) []:=by
 have h1:∀ u∈l,AC Tryz.prog 40 [aT u] [] (cb (!z05 u)) []:=fun u hu=>by
  have h:=ih u hu;obtain ⟨k,s,n,l⟩:=u;refine AC.vc hP sh lv40 (Nat.le_refl _) (by simp) (by simp) (Eq.mpr (v40 k s n (FTs l) _ _) ?_);exact ⟨_,h,z04 rfl⟩
 have h2:AC Tryz.prog 84 [aL l, .c (.fn (.func 40) [] [])] [] (ci (zli l 0)) []:=by
  refine AC.vc hP sh lv84 (Nat.le_refl _) (by simp) (by simp) (Eq.mpr (v84_F40 ..) ?_);exact ⟨rfl,zt4 l [] h1 hl⟩
 refine AC.vc hP sh lv39 (Nat.le_refl _) (by simp) (by simp) (Eq.mpr (v39_F40 ..) ?_);exact ⟨_,h2,z04 (znv l 0 (Int.le_refl _))⟩
theorem head0:∀ {l:List Tm},2≤(((FTs l).length:Nat):Int)→List.getD (FTs l) 0 []=FT (l.headD default)
 | [],h=>by simp [FTs] at h
 | t::l,_=>rfl
theorem z4z:∀ t:Tm,t.sz≤B→AC Tryz.prog 15 [aT t] [] (cb (z05 t)) []:=by
 refine Tm.ind fun t ih hs=> ?_;have hlen:=Tm.szs_length t.l;obtain ⟨k,s,n,l⟩:=t;simp only [Tm.sz,Tm.l] at hs hlen;have hc:=c_contf l (by omega) fun u hu=>ih u hu (by have:=Tm.szs_mem hu;omega);refine AC.vc hP sh lv15 (Nat.le_refl _) (by simp) (by simp) (Eq.mpr (v15 k s n (FTs l) _ _) ?_)
 refine z02 (fun h0=>⟨_,zmu s,z02 (fun h1=>z02 (fun h2=>⟨rfl,z04 ?_⟩) (fun h2=>z04 ?_)) (fun h1=>⟨_,zpq s,z02 (fun h1'=>z02 (fun h2=>⟨rfl,z04 ?_⟩) (fun h2=>z04 ?_)) (fun h1'=>z04 ?_)⟩)⟩)
  (fun h0=>z02 (fun h1=>z02 (fun h2=>z02 (fun h3=>⟨rfl,z02 (fun h4=>⟨_,hc,z04 ?_⟩) (fun h4=>z04 ?_)⟩) (fun h3=>z04 ?_)) (fun h2=>z04 ?_))
  (fun h1=>z02 (fun h2=>z02 (fun h3=>⟨rfl,z02 (fun h4=>⟨_,hc,z04 ?_⟩) (fun h4=>z04 ?_)⟩) (fun h3=>z04 ?_))
  (fun h2=>z02 (fun h3=>z02 (fun h4=>z02 (fun h5=>z02 (fun h6=>⟨rfl,z02 (fun h7=>⟨_,hc,z04 ?_⟩) (fun h7=>z04 ?_)⟩) (fun h6=>z04 ?_)) (fun h5=>z04 ?_)) (fun h4=>z04 ?_))
  (fun h3=>z02 (fun h3'=>z02 (fun h4=>z02 (fun h5=>z02 (fun h6=>⟨rfl,z02 (fun h7=>⟨_,hc,z04 ?_⟩) (fun h7=>z04 ?_)⟩) (fun h6=>z04 ?_)) (fun h5=>z04 ?_)) (fun h4=>z04 ?_))
  (fun h3'=>z02 (fun h5=>z02 (fun h6=>z02 (fun h7=>⟨rfl,z02 (fun h8=>⟨_,hc,z04 ?_⟩) (fun h8=>z04 ?_)⟩) (fun h7=>z04 ?_)) (fun h6=>z04 ?_))
  (fun h5=>z02 (fun h6=>z02 (fun h7=>⟨rfl,z02 (fun h8=> ?app) (fun h8=>⟨rfl,z04 ?_⟩)⟩) (fun h7=>⟨rfl,z04 ?_⟩)) (fun h6=>z04 ?_)))))))
 case app=>
  have h8':=of_decide_eq_true h8;rw [head0 h8',z7w];refine ⟨⟨rfl,by omega,by omega,rfl⟩,rfl,z02 (fun h9=>z02 (fun h10=>⟨rfl,z02 (fun h11=>⟨_,hc,z04 ?_⟩) (fun h11=>z04 ?_)⟩) (fun h10=>z04 ?_)) (fun h9=>z04 ?_)⟩
  all_goals (have h9':((l.headD default).k !=6)=_:=h9;simp_all [z05])
 all_goals first
  | (simp_all [z05];done)
  | (simp_all [z05];intros;omega)
end Go.AM

set_option maxRecDepth 100000
open Go Go.Proofs
namespace Go.AM
mutual
theorem zle {M:Int}:∀ t:Tm,near M t=true→bd M t
 | .mk k s n l,h=>by
  simp only [near,Bool.and_eq_true] at h;refine ⟨fun e=> ?_,zmh l h.2⟩;have:=h.1;rw [e] at this;simp at this;omega
theorem zmh {M:Int}:∀ l:List Tm,zk6 M l=true→bds M l
 | [],_=>trivial
 | t::l,h=>by
  simp only [zk6,Bool.and_eq_true] at h;exact ⟨zle t h.1,zmh l h.2⟩
end
end Go.AM

set_option maxRecDepth 100000
open Go Go.Proofs
namespace Go.AM
theorem zly (c:Int):AC Tryz.prog 106 [c8 c] [] (cb (z73 c)) []:=by
 refine AC.vc hP sh lv106 (Nat.le_refl _) (by simp) (by simp) (Eq.mpr (v106 ..) ?_);refine z02 (fun h=>z04 ?_) (fun h=>z04 ?_)<;>simp_all [z73]<;>omega
theorem znp (c:Int):AC Tryz.prog 138 [c8 c] [] (cb (zbw c)) []:=by
 refine AC.vc hP sh lv138 (Nat.le_refl _) (by simp) (by simp) (Eq.mpr (v138 ..) ?_);refine z02 (fun h=>z04 ?_) (fun h=>z04 ?_)<;>simp_all [zbw]<;>omega
theorem c_rin (c:Int):AC Tryz.prog 107 [c8 c] [] (cb (z1h c)) []:=by
 refine AC.vc hP sh lv107 (Nat.le_refl _) (by simp) (by simp) (Eq.mpr (v107 ..) ?_)
 have key:(decide (c≥65)&&decide (c≤90))=false→(c==95)=false→z73 c=false→zbw c=false→(c==39)=z1h c:=fun h1 h2 h3 h4=>by
  have e:z86 c=false:=by unfold z86;rw [h2,show (decide (65≤c)&&decide (c≤90))=false from h1];rfl
  simp only [z1h,h3,h4,e,Bool.false_or]
 have k1:z73 c=true→true=z1h c:=fun h=>by simp only [z1h,h,Bool.true_or]
 have k2:z86 c=true→true=z1h c:=fun h=>by simp only [z1h,h,Bool.true_or,Bool.or_true]
 have k3:zbw c=true→true=z1h c:=fun h=>by simp only [z1h,h,Bool.true_or,Bool.or_true]
 have k4:(c==95)=true→z86 c=true:=fun h=>by unfold z86;rw [h];simp
 refine ⟨_,zly c,z02 (fun h=>z04 (k1 h)) (fun h=>z02 (fun h1=>z02 (fun h2=>z04 (k2 ?_)) (fun h2=>⟨_,znp c,z02 (fun h3=>z04 (k3 h3)) (fun h3=>z02 (fun h4=>z04 (k2 (k4 h4))) (fun h4=>z04 (key ?_ h4 h h3)))⟩)) (fun h1=>⟨_,znp c,z02 (fun h3=>z04 (k3 h3)) (fun h3=>z02 (fun h4=>z04 (k2 (k4 h4))) (fun h4=>z04 (key ?_ h4 h h3)))⟩))⟩
 · unfold z86;rw [show decide (65≤c)=true from h1,h2];rfl
 · rw [h2];simp
 · rw [h1];simp
theorem sign_any (c:UInt8):z7k (c.toNat:Int)=zf6.any fun x=>((x.toNat:Int)==(c.toNat:Int)):=by
 have key:∀ n:Fin 256,z7k (n.val:Int)=zf6.any fun x=>((x.toNat:Int)==(n.val:Int)):=by decide+kernel
 exact key ⟨c.toNat,c.toNat_lt⟩
theorem ztg (c:Int):∀ (b a:List UInt8),a++b=zf6→(a.any fun x=>((x.toNat:Int)==c))=false→
  RPt Tryz.prog 108 0 (cb (zf6.any fun x=>((x.toNat:Int)==c))) [] 1 ⟨[(0,c8 c),(3,ci a.length)],[],0⟩
 | [],a,hab,ha=>by
  rw [List.append_nil] at hab;subst hab;refine RPt.vc hP sh zsn (Eq.mpr (zt5 ..) ?_);exact z02 (fun h=>absurd (of_decide_eq_true h) (by decide)) (fun _=>z04 ha.symm)
 | x::b,a,hab,ha=>by
  have hl:a.length<16:=by
   have:(a++x::b).length=16:=by rw [hab];rfl
   simp at this;omega
  have hg:List.getD zf6 (Int.toNat (a.length:Int)) 0=x:=by rw [←hab];exact zbg a x b
  refine RPt.vc hP sh zsn (Eq.mpr (zt5 ..) ?_);rw [w64 (x:=(a.length:Int)+1) (by omega) (by omega)];refine z02 (fun _=>⟨⟨by omega,by omega⟩,z02 (fun h=>z04 ?_) (fun h=> ?_)⟩) (fun h=>absurd (of_decide_eq_false h) (by omega))
  · have h:(((List.getD zf6 (Int.toNat (a.length:Int)) 0).toNat:Int)==c)=true:=h;rw [hg] at h;rw [←hab];simp only [List.any_append,List.any_cons,h,Bool.true_or,Bool.or_true]
  · have h:(((List.getD zf6 (Int.toNat (a.length:Int)) 0).toNat:Int)==c)=false:=h;rw [hg] at h;have:=ztg c b (a++ [x]) (by rw [ap];exact hab) (by simp only [List.any_append,List.any_cons,List.any_nil,ha,h,Bool.or_self]);rw [nx] at this;exact this
theorem c_rsign (c:UInt8):AC Tryz.prog 108 [c8 (c.toNat:Int)] [] (cb (z7k (c.toNat:Int))) []:=by
 rw [sign_any];refine AC.vc hP sh zsn (Nat.le_refl _) (by simp) (by simp) (Eq.mpr (v108 ..) ?_);exact ztg _ zf6 [] rfl rfl
theorem zil:∀ (b a:List UInt8),(a++b).length≤B→RPt Tryz.prog 62 0 (cb (b.all fun c=>z1h (c.toNat:Int))) [] 1 ⟨[(0,cs (a++b)),(3,ci a.length)],[],0⟩
 | [],a,_=>by
  refine RPt.vc hP sh lv62 (Eq.mpr (v62_1a ..) ?_);exact z02 (fun h=>absurd (of_decide_eq_true h) (by simp)) (fun _=>z04 rfl)
 | x::b,a,hl=>by
  have hl':=hl;simp only [List.length_append,List.length_cons,B] at hl';have h2:=zil b (a++ [x]) (by rw [ap];exact hl);rw [ap,nx] at h2;refine RPt.vc hP sh lv62 (Eq.mpr (v62_1a ..) ?_);rw [zbg,w64 (x:=(a.length:Int)+1) (by omega) (by omega)];refine z02 (fun _=>⟨⟨by omega,ltI a x b⟩,_,c_rin _,z02 (fun h=>z04 ?_) (fun h=> ?_)⟩) (fun h=>absurd (ltI a x b) (of_decide_eq_false h))
  · rw [List.all_cons,show z1h (x.toNat:Int)=false by simpa using h];rfl
  · rw [List.all_cons,show z1h (x.toNat:Int)=true by simpa using h];exact h2
theorem zh2 (s:List UInt8):AC Tryz.prog 62 [cs s] [] (cb (z5r s)) []:=by
 refine AC.vc hP sh lv62 (Nat.le_refl _) (by simp) (by simp) (Eq.mpr (v62 ..) ?_);refine z02 (fun h=>z04 ?_) (fun h=>z02 (fun h1=>z04 ?_) (fun h1=> ?_))
 · have h:=of_decide_eq_true h;cases s with
   | nil=>rfl
   | cons c s=>simp at h;omega
 · have h1:=of_decide_eq_true h1;have:zcz s=false:=by simp only [zcz];rw [show decide ((s.length:Int)≤32)=false by simp;omega];simp
   simp only [z5r,this,Bool.false_and]
 · have h:=of_decide_eq_false h;have h1:=of_decide_eq_false h1
   have hf:zcz s=true:=by
    simp only [zcz];cases s with
    | nil=>simp at h
    | cons c s=>simp at h1 ⊢;omega
   refine ⟨⟨by omega,by omega⟩,_,zly _,z02 (fun h2=>z04 ?_) (fun h2=> ?_)⟩
   · simp only [z5r,show z73 ((s.getD 0 0).toNat:Int)=false by simpa using h2,Bool.and_false,Bool.false_and]
   · have:=zil s [] (by simp only [List.nil_append,B];omega);rw [show z5r s=s.all fun c=>z1h (c.toNat:Int) by simp only [z5r,hf,show z73 ((s.getD 0 0).toNat:Int)=true by simpa using h2,Bool.true_and]];exact this
theorem znw (s:List UInt8):∀ (b a:List UInt8),a++b=s→(s.length≤B)→
  RPt Tryz.prog 63 0 (cb ((b.all fun c=>z7k (c.toNat:Int))&&decide ((s.length:Int)≥1)&&decide ((s.length:Int)≤32))) [] 1 ⟨[(0,cs s),(3,ci a.length)],[],0⟩
 | [],a,hab,_=>by
  rw [List.append_nil] at hab;subst hab;refine RPt.vc hP sh lv63 (Eq.mpr (v63_1a ..) ?_);refine z02 (fun h=>absurd (of_decide_eq_true h) (by omega)) (fun _=>z02 (fun h=>z04 ?_) (fun h=>z04 ?_))
  · rw [h];simp
  · rw [h];simp
 | x::b,a,hab,hl=>by
  have h3:=ltI a x b;have hg:=zbg a x b;rw [hab] at h3 hg;have h2:=znw s b (a++ [x]) (by rw [ap];exact hab) hl;rw [nx] at h2;simp only [B] at hl;refine RPt.vc hP sh lv63 (Eq.mpr (v63_1a ..) ?_);rw [hg,w64 (x:=(a.length:Int)+1) (by omega) (by omega)];refine z02 (fun _=>⟨⟨by omega,h3⟩,_,c_rsign x,z02 (fun h=>z04 ?_) (fun h=> ?_)⟩) (fun h=>absurd h3 (of_decide_eq_false h))
  · rw [List.all_cons,show z7k (x.toNat:Int)=false by simpa using h];rfl
  · rw [List.all_cons,show z7k (x.toNat:Int)=true by simpa using h];exact h2
theorem sym_eq (s:List UInt8):zaf s=(s==[44]||s==[59]||s==[33]||((s.all fun c=>z7k (c.toNat:Int))&&decide ((s.length:Int)≥1)&&decide ((s.length:Int)≤32))):=by
 match s with
 | []=>rfl
 | [c]=>
  have key:∀ n:Fin 256,zaf [n.val.toUInt8]=([n.val.toUInt8]==[44] || [n.val.toUInt8]==[59] || [n.val.toUInt8]==[33]||(([n.val.toUInt8].all fun c=>z7k (c.toNat:Int))&&decide ((([n.val.toUInt8].length:Nat):Int)≥1)&&decide ((([n.val.toUInt8].length:Nat):Int)≤32))):=by decide+kernel
  have e:c.toNat.toUInt8=c:=by simp
  have:=key ⟨c.toNat,c.toNat_lt⟩;simp only [e] at this;exact this
 | c::d::s=>
  have h2:∀ x:UInt8,((c::d::s:List UInt8)==[x])=false:=fun x=>by simp
  simp only [zaf,zcz,h2,Bool.false_or];rw [show (((c::d::s).length:Int)==1)=false by simp;omega,show decide (((c::d::s).length:Int)≥1)=true by simp;omega];simp [Bool.and_comm]
theorem zmz (s:List UInt8)(hl:s.length≤B):AC Tryz.prog 63 [cs s] [] (cb (zaf s)) []:=by
 rw [sym_eq];refine AC.vc hP sh lv63 (Nat.le_refl _) (by simp) (by simp) (Eq.mpr (v63 ..) ?_);refine z02 (fun h=>z04 ?_) (fun h=>z02 (fun h1=>z04 ?_) (fun h1=>z02 (fun h2=>z04 ?_) (fun h2=> ?_)))
 · rw [h];rfl
 · rw [h,h1];rfl
 · rw [h,h1,h2];rfl
 · rw [h,h1,h2,Bool.false_or,Bool.false_or,Bool.false_or];exact znw s s [] rfl hl
end Go.AM

set_option maxRecDepth 100000
open Go Go.Proofs
namespace Go.AM
theorem zg2 (t:Tm):AC Tryz.prog 64 [aT t] [] (cb t.inner) []:=by
 obtain ⟨k,s,n,l⟩:=t;refine AC.vc hP sh lv64 (Nat.le_refl _) (by simp) (by simp) (Eq.mpr (v64 k s n (FTs l) _ _) ?_);refine z02 (fun h=>z04 ?_) (fun h=>z04 ?_)
 · unfold Tm.inner;simp only [Tm.k,h,Bool.true_or]
 · unfold Tm.inner;simp only [Tm.k,h,Bool.false_or]
theorem z8c (t:Tm)(k:Int)(h0:0≤k)(h1:k≤4611686018427387904):AC Tryz.prog 65 [aT t,ci k] [] (ci (k+t.by)) []:=by
 obtain ⟨kd,s,n,l⟩:=t;refine AC.vc hP sh lv65 (Nat.le_refl _) (by simp) (by simp) (Eq.mpr (v65 kd s n (FTs l) k _ _) ?_);rw [w64 (x:=k+1) (by omega) (by omega)];refine z02 (fun h=>z0z ?_) (fun h=>z0z ?_)
 · unfold Tm.by;simp only [Tm.k,h,if_true]
 · unfold Tm.by;simp only [Tm.k,h,Bool.false_eq_true,if_false];omega
theorem zmb (kd:Int)(s:List UInt8)(n:Int):∀ (b a:List Tm) (ok:Bool),(∀ u∈b,AC Tryz.prog 28 [aT u] [] (cb (z05 u)) [])→(a++b).length≤B→
  RPt Tryz.prog 28 0 (cb (ok&&z1p b)) [] 3 ⟨[(1, .c (.a (.ep 0 4 0 0))),(3,cb ok),(7,ci a.length)],[(0, .arr 4 [fzs (FT (.mk kd s n (a++b)))])],1⟩
 | [],a,ok,_,_=>by
  refine RPt.vc hP sh lv28 (Eq.mpr (v28_3a ..) ?_);exact ⟨rfl,z02 (fun h=>absurd (of_decide_eq_true h) (geI' a)) (fun _=>z04 (by simp [z1p]))⟩
 | t::b,a,ok,ih,hl=>by
  refine RPt.vc hP sh lv28 (Eq.mpr (v28_3a ..) ?_);have hl':=hl;simp only [List.length_append,List.length_cons,B] at hl';have h1:=ih t List.mem_cons_self;have h2:=zmb kd s n b (a++ [t]) (z05 t) (fun u hu=>ih u (List.mem_cons_of_mem _ hu)) (by rw [ap];exact hl);have h3:=ltI' a t b;rw [ap,nx] at h2;rw [midI,w64 (x:=(a.length:Int)+1) (by omega) (by omega)];refine ⟨rfl,z02 (fun _=>z02 (fun hk=> ?_) (fun hk=>z04 (by rw [hk];rfl))) (fun h=>absurd h3 (of_decide_eq_false h))⟩;rw [hk,z1p,Bool.true_and];obtain ⟨k',s',n',l'⟩:=t;exact ⟨⟨rfl,by omega,h3,rfl⟩,_,h1,h2⟩
theorem z7u:∀ t:Tm,t.bk≤B→AC Tryz.prog 28 [aT t] [] (cb (z05 t)) []:=by
 refine Tm.ind fun t ih hs=> ?_;have hlen:=Nat.le_trans (Tm.szs_length t.l) (Tm.szs_bks t.l);obtain ⟨k,s,n,l⟩:=t;simp only [Tm.bk,Tm.l] at hs hlen
 have loop:∀ ok:Bool,(ok&&z1p l)=z05 (.mk k s n l)→RPt Tryz.prog 28 0 (cb (z05 (.mk k s n l))) [] 3 ⟨[(1, .c (.a (.ep 0 4 0 0))),(3,cb ok),(7,ci 0)],[(0, .arr 4 [fzs (FT (.mk k s n l))])],1⟩:=fun ok h=>by
  have:=zmb k s n l [] ok (fun u hu=>ih u hu (by have:=Tm.bks_mem hu;omega)) (by simp only [List.nil_append];omega);rw [h] at this;exact this
 refine AC.vc hP sh lv28 (Nat.le_refl _) (by simp) (by simp) (Eq.mpr (v28 k s n (FTs l) _ _) ?_)
 refine z02 (fun h0=>⟨_,zh2 s,_,zmz s (by omega),z02 (fun h1=>z02 (fun h2=>⟨rfl,z04 ?_⟩) (fun h2=>z04 ?_)) (fun h1=>z02 (fun h1'=>z02 (fun h2=>⟨rfl,z04 ?_⟩) (fun h2=>z04 ?_)) (fun h1'=>z04 ?_))⟩)
  (fun h0=>z02 (fun h1=>z02 (fun h2=>z02 (fun h3=>⟨rfl,loop _ ?_⟩) (fun h3=>loop _ ?_)) (fun h2=>loop _ ?_))
  (fun h1=>z02 (fun h2=>z02 (fun h3=>⟨rfl,loop _ ?_⟩) (fun h3=>loop _ ?_))
  (fun h2=>z02 (fun h3=>z02 (fun h4=>z02 (fun h5=>z02 (fun h6=>⟨rfl,loop _ ?_⟩) (fun h6=>loop _ ?_)) (fun h5=>loop _ ?_)) (fun h4=>loop _ ?_))
  (fun h3=>z02 (fun h3'=>z02 (fun h4=>z02 (fun h5=>z02 (fun h6=>⟨rfl,loop _ ?_⟩) (fun h6=>loop _ ?_)) (fun h5=>loop _ ?_)) (fun h4=>loop _ ?_))
  (fun h3'=>z02 (fun h5=>z02 (fun h6=>z02 (fun h7=>⟨rfl,loop _ ?_⟩) (fun h7=>loop _ ?_)) (fun h6=>loop _ ?_))
  (fun h5=>z02 (fun h6=>z02 (fun h7=>⟨rfl,z02 (fun h8=> ?app) (fun h8=>⟨rfl,loop _ ?_⟩)⟩) (fun h7=>⟨rfl,loop _ ?_⟩)) (fun h6=>loop _ ?_)))))))
 case app=>
  have h8':=of_decide_eq_true h8;rw [head0 h8',z7w];refine ⟨⟨rfl,by omega,by omega,rfl⟩,rfl,z02 (fun h9=>z02 (fun h10=>⟨rfl,loop _ ?_⟩) (fun h10=>loop _ ?_)) (fun h9=>loop _ ?_)⟩
  all_goals (have h9':((l.headD default).k !=6)=_:=h9;clear loop ih hs hlen h9;simp_all [z05])
 all_goals clear loop ih hs hlen
 all_goals first
  | (simp_all [z05];done)
  | (simp_all [z05];intros;omega)
theorem znb:∀ (b a b' a':List Tm),(∀ u∈b,∀ v:Tm,AC Tryz.prog 118 [aT u,aT v] [] (cb (z3t u v)) [])→(a++b).length≤B→a.length=a'.length→b.length=b'.length→
  RPt Tryz.prog 144 0 (cb (z3p b b')) [] 1 ⟨[(1,aL (a'++b')),(2, .c (.fn (.func 118) [] [])),(15,aL (a++b)),(16,ci (((FTs (a++b)).length:Nat):Int)),(17,ci a.length)],[],0⟩
 | [],a,[],a',_,_,_,_=>by
  refine RPt.vc hP sh zqt (Eq.mpr (z9z ..) ?_);exact z02 (fun h=>absurd (of_decide_eq_true h) (geI' a)) (fun _=>z04 rfl)
 | t::b,a,t'::b',a',ih,hl,ha,hb=>by
  refine RPt.vc hP sh zqt (Eq.mpr (z9z ..) ?_);have hl':=hl;simp only [List.length_append,List.length_cons,B] at hl';simp only [List.length_cons] at hb;have h1:=ih t List.mem_cons_self t';have h2:=znb b (a++ [t]) b' (a'++ [t']) (fun u hu=>ih u (List.mem_cons_of_mem _ hu)) (by rw [ap];exact hl) (by simp [ha]) (by omega);have h3:=ltI' a t b;have h4:=ltI' a' t' b';rw [←ha] at h4;rw [ap,ap,nx] at h2;rw [midI,midI' a a' ha,w64 (x:=(a.length:Int)+1) (by omega) (by omega)];refine z02 (fun _=> ?_) (fun h=>absurd h3 (of_decide_eq_false h));obtain ⟨k1,s1,n1,l1⟩:=t;obtain ⟨k2,s2,n2,l2⟩:=t';refine ⟨⟨rfl,by omega,h3,rfl⟩,⟨rfl,by omega,h4,rfl⟩,_,h1,z02 (fun h=>z04 ?_) (fun h=> ?_)⟩
  · rw [z3p,show z3t (.mk k1 s1 n1 l1) (.mk k2 s2 n2 l2)=false by simpa using h];rfl
  · rw [z3p,show z3t (.mk k1 s1 n1 l1) (.mk k2 s2 n2 l2)=true by simpa using h];exact h2
theorem c_same:∀ a:Tm,a.sz≤B→∀ b:Tm,AC Tryz.prog 118 [aT a,aT b] [] (cb (z3t a b)) []:=by
 refine Tm.ind fun a ih hs b=> ?_;have hlen:=Tm.szs_length a.l;obtain ⟨k1,s1,n1,l1⟩:=a;obtain ⟨k2,s2,n2,l2⟩:=b;simp only [Tm.sz,Tm.l] at hs hlen
 have he:AC Tryz.prog 144 [aL l1,aL l2, .c (.fn (.func 118) [] [])] [] (cb (z3p l1 l2)) []:=by
  refine AC.vc hP sh zqt (Nat.le_refl _) (by simp) (by simp) (Eq.mpr (zte ..) ?_);refine ⟨rfl,rfl,z02 (fun h=>z04 ?_) (fun h=>⟨rfl, ?_⟩)⟩
  · rw [z01,z01] at h;exact (z8o (fun e=>by rw [e] at h;simp at h)).symm
  · rw [z01,z01] at h
    exact znb l1 [] l2 [] (fun u hu v=>ih u hu (by have:=Tm.szs_mem hu;omega) v) (by simp only [List.nil_append];omega) rfl (by have:(l1.length:Int)=l2.length:=by simpa using h
                                                                                                                                omega)
 refine AC.vc hP sh lv118 (Nat.le_refl _) (by simp) (by simp) (Eq.mpr (v118 k1 s1 n1 (FTs l1) k2 s2 n2 (FTs l2) _ _) ?_);refine z02 (fun h=>z02 (fun h1=>z02 (fun h2=>⟨_,he,z04 ?_⟩) (fun h2=>z04 ?_)) (fun h1=>z04 ?_)) (fun h=>z04 ?_)
 all_goals simp only [z3t]
 all_goals simp_all
end Go.AM

set_option maxRecDepth 100000
open Go Go.Proofs
namespace Go.AM
mutual
def z2y:Tm→Int→Int
 | .mk kd _ n l,k=>if (kd==3)=true then maxI 0 (n-k+1) else if (kd==5||kd==6)=true then z4k l (k+if (kd==5)=true then 1 else 0) else 0
def z4k:List Tm→Int→Int
 | [],_=>0
 | t::l,k=>maxI (z2y t k) (z4k l k)
end
theorem z8u (a b c:Int):maxI (maxI a b) c=maxI a (maxI b c):=by
 unfold maxI;(repeat' split)<;>omega
theorem zv1 {a:Int}(h:0≤a):maxI a 0=a:=by unfold maxI;split<;>omega
theorem maxI_ge2 (a b:Int):b≤maxI a b:=by unfold maxI;split<;>omega
theorem z8z:∀ (l:List Tm) (k:Int),0≤z4k l k
 | [],_=>Int.le_refl _
 | t::l,k=>by rw [z4k];exact Int.le_trans (z8z l k) (maxI_ge2 _ _)
theorem zk1 (a b:Int):a≤maxI a b:=by unfold maxI;split<;>omega
mutual
theorem zh:∀ (t:Tm) (k acc:Int),0≤acc→z3q t k acc=maxI acc (z2y t k)
 | .mk kd _ n l,k,acc,h=>by
  simp only [z3q,z2y];by_cases h5:(kd==5)=true
  · have e:kd=5:=by simpa using h5
    subst e;simp [z9b l _ acc h]
  · by_cases h6:(kd==6)=true
    · have e:kd=6:=by simpa using h6
      subst e;simp [z9b l _ acc h]
    · have e5:(kd==5)=false:=by simpa using h5
      have e6:(kd==6)=false:=by simpa using h6
      rw [if_neg h5,if_neg h6];by_cases h3:(kd==3)=true
      · rw [if_pos h3,if_pos h3,←z8u,zv1 h]
      · rw [if_neg h3,if_neg h3,if_neg (by rw [e5,e6];simp),zv1 h]
theorem z9b:∀ (l:List Tm) (k acc:Int),0≤acc→za3 l k acc=maxI acc (z4k l k)
 | [],_,acc,h=>by rw [za3,z4k,zv1 h]
 | t::l,k,acc,h=>by
  have h1:=zh t k acc h;rw [za3,z4k,h1,z9b l k _ (Int.le_trans h (zk1 _ _)),z8u]
end
theorem zns (kd:Int)(s:List UInt8)(n:Int)(is:Bool)(k:Int)(h0:0≤k)(hk:k≤2305843009213693952):∀ (b a:List Tm) (acc:Int),(∀ u∈b,AC Tryz.prog 29 [aT u,ci (k+Tm.by (.mk kd s n []))] [] (ci (z2y u (k+Tm.by (.mk kd s n [])))) [])→(a++b).length≤B→0≤acc→
  RPt Tryz.prog 29 0 (ci (maxI acc (if is=true then z4k b (k+Tm.by (.mk kd s n [])) else 0))) [] 1 ⟨[(1,ci k),(2, .c (.a (.ep 0 4 0 0))),(5,ci acc),(6,cb is),(7,ci a.length)],[(0, .arr 4 [fzs (FT (.mk kd s n (a++b)))])],1⟩
 | [],a,acc,_,_,ha=>by
  refine RPt.vc hP sh lv29 (Eq.mpr (v29_1a ..) ?_);exact ⟨rfl,z02 (fun h=>absurd (of_decide_eq_true h) (geI' a)) (fun _=>z0z (by cases is<;>simp [z4k,zv1 ha]))⟩
 | t::b,a,acc,ih,hl,ha=>by
  have hl':=hl;simp only [List.length_append,List.length_cons,B] at hl';have h1:=ih t List.mem_cons_self;have hu:=z8c (.mk kd s n (a++t::b)) k h0 (by omega);have h2:=zns kd s n is k h0 hk b (a++ [t]) (maxI acc (z2y t (k+Tm.by (.mk kd s n [])))) (fun u hu=>ih u (List.mem_cons_of_mem _ hu)) (by rw [ap];exact hl) (Int.le_trans ha (zk1 _ _));have h3:=ltI' a t b;rw [ap,nx] at h2;refine RPt.vc hP sh lv29 (Eq.mpr (v29_1a ..) ?_);rw [midI,w64 (x:=(a.length:Int)+1) (by omega) (by omega)];refine ⟨rfl,z02 (fun _=>z02 (fun hk=> ?_) (fun hk=>z0z (by rw [hk];simp [zv1 ha]))) (fun h=>absurd h3 (of_decide_eq_false h))⟩;rw [hk] at h2 ⊢;rw [if_pos rfl] at h2;rw [if_pos rfl,z4k,←z8u];obtain ⟨k',s',n',l'⟩:=t;refine ⟨⟨rfl,by omega,h3,rfl⟩,_,hu,_,h1, ?_⟩;rw [zex];exact h2
theorem zb:∀ t:Tm,t.sz≤B→bd 2305843009213693952 t→∀ k:Int,0≤k→k+t.sz≤2305843009213693952→AC Tryz.prog 29 [aT t,ci k] [] (ci (z2y t k)) []:=by
 refine Tm.ind fun t ih hs hb k h0 h1=> ?_;have hlen:=Tm.szs_length t.l;have hi:=zg2 t;obtain ⟨kd,s,n,l⟩:=t;simp only [Tm.sz,Tm.l] at hs hlen h1;refine AC.vc hP sh lv29 (Nat.le_refl _) (by simp) (by simp) (Eq.mpr (v29 kd s n (FTs l) k _ _) ?_);refine z02 (fun h=>z0z ?_) (fun h=>⟨_,hi, ?_⟩)
 · have:=hb.1 (by simpa using h);rw [w64 (x:=n-k) (by omega) (by omega),w64 (x:=n-k+1) (by omega) (by omega),zex,z2y,if_pos h]
 · have hby:0≤Tm.by (.mk kd s n [])∧Tm.by (.mk kd s n [])≤1:=by unfold Tm.by;split<;>omega
   have:=zns kd s n (Tm.inner (.mk kd s n l)) k h0 (by omega) l [] 0 (fun u hu=>ih u hu (by have:=Tm.szs_mem hu;omega) (z2r hb.2 hu) _ (by omega) (by have:=Tm.szs_mem hu;omega)) (by simp only [List.nil_append];omega) (Int.le_refl _);rw [show z2y (.mk kd s n l) k=maxI 0 (if Tm.inner (.mk kd s n l)=true then z4k l (k+Tm.by (.mk kd s n [])) else 0) from ?_]
   · exact this
   · rw [z2y,if_neg (by rw [h];simp)];have e:Tm.by (.mk kd s n [])=if (kd==5)=true then 1 else 0:=rfl
     rw [e];show (if (kd==5||kd==6)=true then _ else _)=maxI 0 (if (kd==5||kd==6)=true then _ else _)
     split
     · have:=z8z l (k+if (kd==5)=true then 1 else 0)
       unfold maxI;rw [if_pos this]
     · unfold maxI;rfl
end Go.AM

set_option maxRecDepth 100000
open Go Go.Proofs
namespace Go.AM
theorem zs8:(∀ es:List (List FV),es ≠ []→es.length≤B→AC Tryz.prog 100 [.c (.a (.fz (.sl false 4 es)))] [] (.c (.a (.osl 0 4 0 es.length))) [.arz 4 es])∧AC Tryz.prog 100 [.c (.a (.fz (.sl false 4 [])))] [] (.c (.a (.fz (.sl false 4 [])))) []:=by
 have h0:AC Tryz.prog 100 [.c (.a (.fz .N))] [] (.c (.a (.fz .N))) []:=by
  refine AC.vc hP sh lv100 (Nat.le_refl _) (by simp) (by simp) (Eq.mpr (v100 ..) ?_);exact ⟨.refl _,rfl⟩
 have h1:∀ es:List (List FV),es.length≤B→AC Tryz.prog 100 [.c (.a (.fz (.sl true 4 es)))] [] (.c (.a (.osl 0 4 0 es.length))) [.arz 4 es]:=fun es hl=>by
  refine AC.vc hP sh lv100 (by simp) (by simp) (by simp [isLive]) (Eq.mpr (v100_i1 ..) ?_);refine ⟨rfl,⟨by omega,by rw [Nat.zero_add];exact z7p (by simp only [B] at hl;omega)⟩, ?_⟩;rw [Nat.zero_add];exact ⟨.refl _,rfl⟩
 exact AC.clone_le h0 h1
end Go.AM

set_option maxRecDepth 100000
open Go Go.Proofs

set_option maxRecDepth 100000
open Go Go.Proofs
namespace Go.AM
def hd (l:List Tm):Tm:=l.headD default
mutual
def okB:Tm→Bool
 | .mk k s n l=>(if (k==6)=true then decide (2≤l.length)&&(hd l).k !=6&&(s==[]&&n==0) else if (k==5)=true then decide (l.length=1)&&(s==[]&&n==0) else decide (l.length=0))&&okL l
def okL:List Tm→Bool
 | []=>true
 | t::l=>okB t&&okL l
end
theorem zez:∀ {l:List Tm} {t:Tm},okL l=true→t∈l→okB t=true
 | x::l,t,h,hm=>by
  simp only [okL,Bool.and_eq_true] at h;rcases List.mem_cons.1 hm with rfl | hm
  · exact h.1
  · exact zez h.2 hm
theorem okL_of:∀ {l:List Tm},(∀ t∈l,okB t=true)→okL l=true
 | [],_=>rfl
 | t::l,h=>by simp only [okL,h t List.mem_cons_self,okL_of (l:=l) fun u hu=>h u (List.mem_cons_of_mem _ hu),Bool.and_self]
theorem okB6 {k n:Int}{s:List UInt8}{l:List Tm}(h:okB (.mk k s n l)=true)(hk:k=6):∃ x y r,l=x::y::r∧x.k≠6∧okL l=true:=by
 subst hk;simp only [okB,Bool.and_eq_true] at h
 match l,h with
 | [],h=>simp at h
 | [x],h=>simp at h
 | x::y::r,h=>exact ⟨x,y,r,rfl,by have:=h.1;simp [hd] at this;exact this.1,h.2⟩
theorem okB5 {k n:Int}{s:List UInt8}{l:List Tm}(h:okB (.mk k s n l)=true)(hk:k=5):∃ x,l=[x]∧okB x=true:=by
 subst hk;simp only [okB,Bool.and_eq_true] at h
 match l,h with
 | [],h=>simp at h
 | [x],h=>exact ⟨x,rfl,by have:=h.2;simpa [okL] using this⟩
 | x::y::r,h=>simp at h
theorem okB0 {k n:Int}{s:List UInt8}{l:List Tm}(h:okB (.mk k s n l)=true)(h5:k≠5)(h6:k≠6):l=[]:=by
 simp only [okB,Bool.and_eq_true] at h;have:=h.1;rw [if_neg (by simpa using h6),if_neg (by simpa using h5)] at this;exact List.eq_nil_of_length_eq_zero (by simpa using this)
theorem okB_sn {k n:Int}{s:List UInt8}{l:List Tm}(h:okB (.mk k s n l)=true)(hk:k=5∨k=6):s=[]∧n=0:=by
 simp only [okB,Bool.and_eq_true] at h;have h:=h.1;rcases hk with rfl | rfl
 · simp at h;exact h.2
 · simp at h;exact h.2
theorem okB_l {t:Tm}(h:okB t=true):okL t.l=true:=by
 obtain ⟨k,s,n,l⟩:=t;simp only [okB,Bool.and_eq_true] at h;exact h.2
mutual
theorem z0e:∀ t:Tm,z05 t=true→okB t=true
 | .mk k s n l,h=>by
  rw [okB];have hl:=zix l;rw [z05] at h;split at h
  · rename_i e;have e:k=0:=by simpa using e
    subst e;rw [lenI] at h;have:l=[]:=by simp at h;exact h.2
    subst this;rfl
  split at h
  · rename_i e;have e:k=1:=by simpa using e
    subst e;rw [lenI] at h;have:l=[]:=by simp at h;exact h.1.2
    subst this;rfl
  split at h
  · rename_i e;have e:k=2:=by simpa using e
    subst e;rw [lenI] at h;have:l=[]:=by simp at h;exact h.1.2
    subst this;rfl
  split at h
  · rename_i e;have e:k=3:=by simpa using e
    subst e;rw [lenI] at h;have:l=[]:=by simp at h;exact h.1.2
    subst this;rfl
  split at h
  · rename_i e;have e:k=4:=by simpa using e
    subst e;rw [lenI] at h;have:l=[]:=by simp at h;exact h.1.2
    subst this;rfl
  split at h
  · rename_i e;have e:k=5:=by simpa using e
    subst e;rw [lenI] at h;simp only [Bool.and_eq_true,beq_iff_eq] at h;have h1:l.length=1:=by have:=h.1.2;omega
    rw [hl h.2];simp [h1,h.1.1.1,h.1.1.2]
  split at h
  · rename_i e;have e:k=6:=by simpa using e
    subst e;rw [lenI] at h;simp only [Bool.and_eq_true,decide_eq_true_eq,beq_iff_eq] at h;have h1:2≤l.length:=by have:=h.1.1.1.2;omega
    have h2:((hd l).k !=6)=true:=h.1.1.2;rw [hl h.2,h2];simp [h1,h.1.1.1.1,h.1.2]
  · cases h
theorem zix:∀ l:List Tm,z1p l=true→okL l=true
 | [],_=>rfl
 | t::l,h=>by
  simp only [z1p,Bool.and_eq_true] at h;simp only [okL,z0e t h.1,zix l h.2,Bool.and_self]
end
theorem ok_ne {t:Tm}(h:okB t=true):t.k=6→t.l ≠ []:=by
 obtain ⟨k,s,n,l⟩:=t;intro hk;obtain ⟨x,y,r,e,_⟩:=okB6 h hk;show l ≠ [];rw [e];simp
end Go.AM

set_option maxRecDepth 100000
open Go Go.Proofs
namespace Go.AM
abbrev zT:List WV:=[.a (.fz (.int .i64 0)), .a (.fz (.str [])), .a (.fz (.int .i64 0)), .a (.fz .N)]
theorem z6n (k:Int)(s:List UInt8)(n:Int)(l:List Tm)(a:Tm)(r:List Tm):z1x (.mk k s n l) (a::r)=if (k==6)=true∧l ≠ [] then .mk 6 [] 0 (l++a::r) else .mk 6 [] 0 (.mk k s n l::a::r):=rfl
theorem z84 (f:Tm)(args:List Tm)(h:f.l.length+args.length<2199023255551):AC Tryz.prog 102 [aT f,aL args] [] (aT (z1x f args)) []:=by
 obtain ⟨k,s,n,l⟩:=f;simp only [Tm.l] at h;refine AC.vc hP sh lv102 (Nat.le_refl _) (by simp) (by simp) (Eq.mpr (v102 k s n (FTs l) (FTs args) _ _) ?_)
 match args,h with
 | [],h=>exact ⟨rfl,z02 (fun _=>z3r (.refl _)) (fun h1=>absurd h1 (by simp [FTs]))⟩
 | a::r,h=>
  have e0:List.isEmpty (FTs (a::r))=false:=rfl
  have one:∀ (h2:¬((k==6)=true∧l ≠ [])),(1≤1∧z0d 1 56∧(FV.L 4 (.sl false 4 (FTs (a::r)))=true∧((1≤1∧z0d (1+(FTs (a::r)).length) 56)∧(((4:Nat)=4∧(0+(1+(FTs (a::r)).length))≤(([[.int .i64 k, .str s, .int .i64 n, .sl false 4 (FTs l)]]:List (List FV))++FTs (a::r)).length)∧
    (TV.Le (.agg [.a (.fz (.int .i64 6)), .a (.fz (.str [])), .a (.fz (.int .i64 0)), .a (.fz (.sl false 4 (List.take (1+(FTs (a::r)).length) (List.drop 0 ([[.int .i64 k, .str s, .int .i64 n, .sl false 4 (FTs l)]]++FTs (a::r))))))]) (aT (z1x (.mk k s n l) (a::r)))∧([]:List AObj)=[]))))):=fun h2=>by
   refine ⟨Nat.le_refl _,by unfold z0d;omega,rfl,⟨Nat.le_refl _, ?_⟩,⟨rfl,by simp;omega⟩, ?_,rfl⟩
   · rw [z01];exact z7p (by omega)
   · rw [zu6,z6n,if_neg h2];exact leT (leSl (l:= .mk k s n l::a::r))
  refine ⟨rfl,z02 (fun h1=>absurd h1 (by simp [FTs];omega)) (fun _=>z02 (fun h2=>⟨rfl,z02 (fun h3=>⟨rfl,z02 (fun h4=> ?_) (fun h4=> ?_)⟩) (fun h3=>one ?_)⟩) (fun h2=>one ?_))⟩
  · rw [lenI] at h3;have h3:=of_decide_eq_true h3
    match l,h3,h4 with
    | [],h3,_=>simp at h3
    | x::l,_,h4=>cases h4
  · have hl:l ≠ []:=by rintro rfl;cases h4
    refine ⟨?_,rfl,⟨Nat.le_refl _, ?_⟩,⟨rfl, ?_⟩, ?_,rfl⟩
    · rw [z01];exact z7p (by omega)
    · rw [z01,z01];exact z7p (by omega)
    · rw [List.take_of_length_le (Nat.le_refl _),List.length_append];omega
    · rw [take_app,←z2n,z6n,if_pos ⟨h2,hl⟩];exact leT leSl
  · rintro ⟨_,hl⟩;rw [lenI] at h3;have h3:=of_decide_eq_false h3;exact hl (List.eq_nil_of_length_eq_zero (by omega))
  · rintro ⟨h2',_⟩;have h2:(k==6)=false:=h2;have h2':(k==6)=true:=h2';rw [h2] at h2';cases h2'
theorem zgn (t:Tm)(o:List Tm)(ho:o.length≤B)(ht:o.length=t.l.length)(hl:(hd o).l.length≤B):AC Tryz.prog 148 [aT t,aL o] [] (aT (z1t t o)) []:=by
 obtain ⟨k,s,n,l⟩:=t;simp only [Tm.l] at ht;refine AC.vc hP sh lv148 (Nat.le_refl _) (by simp) (by simp) (Eq.mpr (v148 k s n (FTs l) (FTs o) _ _) ?_);have no:¬((k==6)=true∧1<o.length∧((o.headD default).k==6)=true∧((l.headD default).k !=6)=true)→z1t (.mk k s n l) o= .mk k s n o:=fun h=>if_neg h;rw [lenI];refine z02 (fun h1=>⟨rfl,z02 (fun h2=> ?_) (fun h2=> ?_)⟩) (fun h1=> ?_)
 · have h2':=of_decide_eq_true h2
   match o,l,ht,ho,hl,h2' with
   | x::y::r,[],ht,_,_,_=>simp at ht
   | x::y::r,u::l,ht,ho,hl,_=>
    have hx:aE (List.getD (FTs (x::y::r)) 0 [])=aT x:=z1o x;have hx0:FV.I (List.getD (List.getD (FTs (x::y::r)) 0 []) 0 FV.N)=x.k:=by cases x;rfl
    have hu0:FV.I (List.getD (List.getD (FTs (u::l)) 0 []) 0 FV.N)=u.k:=by cases u;rfl
    have el:∀ (z:Tm) (w:List Tm),FV.L 4 (.sl false 4 (FTs (z::w)))=true∧((0:Int)≤0∧((0:Int)<(((z::w).length:Nat):Int)∧(rE (List.getD (FTs (z::w)) 0 []):List FV)=List.getD (FTs (z::w)) 0 [])):=fun z w=>⟨rfl,Int.le_refl _,by simp only [List.length_cons];omega,z1c z⟩;rw [hx0,hu0,hx];simp only [List.length_cons,B,hd,List.headD_cons] at ho hl;refine ⟨el x (y::r),z02 (fun h3=>⟨by rw [lenI];exact el u l,z02 (fun h4=>⟨el x (y::r),rfl,⟨by omega,by simp;omega,Int.le_refl _⟩, ?_⟩) (fun h4=>zjr (no ?_).symm)⟩) (fun h3=>zjr (no ?_).symm)⟩
    · have ha:=z84 x (y::r) (by simp only [List.length_cons];omega)
      have e:List.drop 1 (List.take (Int.toNat ((x::y::r).length:Int)) (FTs (x::y::r)))=FTs (y::r):=by
       rw [zrt,List.take_of_length_le (by rw [z01];exact Nat.le_refl _)];rfl
      rw [e];refine ⟨_,ha,zjr ?_⟩;rw [z1t,if_pos ⟨h1,by simp,h3,h4⟩];rfl
    · rintro ⟨_,_,_,h⟩;have h4:(u.k !=6)=false:=h4;rw [show (List.headD (u::l) default)=u from rfl,h4] at h;cases h
    · rintro ⟨_,_,h,_⟩;have h3:(x.k==6)=false:=h3;rw [show (List.headD (x::y::r) default)=x from rfl,h3] at h;cases h
 · exact zjr (no (fun h=>absurd (of_decide_eq_false h2) (by have:=h.2.1;omega))).symm
 · exact zjr (no (fun h=>by have h0:=h.1;have h1:(k==6)=false:=h1;rw [h1] at h0;cases h0)).symm
theorem l_rshb (x1 x2:Int)(k:Int)(kd:Int)(s:List UInt8)(n:Int)(hk0:0≤k)(hk1:k≤M61)(e:Int)(he:e=k+(if (kd==5)=true then 1 else 0)):∀ (b a acc:List Tm),acc.length=a.length→(∀ u∈b,AC Tryz.prog 136 [aT u,ci x1,ci x2,ci e] [] (aT (z08 (z0u x1 x2) u e)) [])→(a++b).length≤B→(hd (acc++z0a (z0u x1 x2) b e)).l.length≤B→
  RPt Tryz.prog 136 0 (aT (z1t (.mk kd s n (a++b)) (acc++z0a (z0u x1 x2) b e))) [] 1 ⟨[(1,ci x1),(2,ci x2),(3,ci k),(4, .c (.a (.ep 0 4 0 0))),(8, .c (.a (.ep 1 4 0 0))),(10, .c (.a (.osl 2 4 0 acc.length))),(11,ci a.length)],[(0, .arr 4 [fzs (FT (.mk kd s n (a++b)))]),  (1, .arr 4 [zT]),(2, .arz 4 (FTs acc))],3⟩
 | [],a,acc,hlen,_,hl,hh=>by
  simp only [z0a,List.append_nil] at hh hl ⊢;have hw:=zgn (.mk kd s n a) acc (by omega) hlen hh;refine RPt.vc hP sh zka (Eq.mpr (zqi ..) ?_);refine ⟨rfl,z02 (fun h=>absurd (of_decide_eq_true h) (by rw [z01];omega)) (fun _=>⟨⟨rfl,by rw [z01];omega⟩,_,hw.args ⟨.refl _, ?_,trivial⟩,z3r (.refl _)⟩)⟩;rw [show List.take acc.length (List.drop 0 (FTs acc))=FTs acc by rw [List.drop_zero,List.take_of_length_le (by rw [z01];omega)]];exact le_c leSl
 | t::b,a,acc,hlen,ih,hl,hh=>by
  have hl':=hl;simp only [List.length_append,List.length_cons,B] at hl';have h1:=ih t List.mem_cons_self;have h2:=l_rshb x1 x2 k kd s n hk0 hk1 e he b (a++ [t]) (acc++ [z08 (z0u x1 x2) t e]) (by simp [hlen]) (fun u hu=>ih u (List.mem_cons_of_mem _ hu)) (by rw [ap];exact hl) (by rw [ap];exact hh);have h3:=ltI' a t b;have hu:=z8c (.mk kd s n (a++t::b)) k hk0 (by simp only [M61] at hk1;omega);rw [ap,ap,nx] at h2;rw [z0a];refine RPt.vc hP sh zka (Eq.mpr (zqi ..) ?_);rw [z45,w64 (x:=(a.length:Int)+1) (by omega) (by omega)];refine ⟨rfl,z02 (fun _=>⟨⟨rfl,by omega,h3,z1y ..⟩,_,hu,z08 (z0u x1 x2) t e, ?_,Nat.le_refl _,⟨by rw [z01];omega,z7p (by omega)⟩, ?_⟩) (fun h=>absurd h3 (of_decide_eq_false h))⟩
  · rw [show k+Tm.by (.mk kd s n (a++t::b))=e from he.symm];exact h1
  · have e5:List.take acc.length (FTs acc)++ [FT4 (z08 (z0u x1 x2) t e)]=FTs (acc++ [z08 (z0u x1 x2) t e]):=by rw [List.take_of_length_le (by rw [z01];omega),zdy,z2n];rfl
    rw [e5];rw [List.length_append] at h2;exact h2
theorem l_rsha (x1 x2:Int)(k:Int)(kd:Int)(s:List UInt8)(n:Int)(hk0:0≤k)(hk1:k≤M61)(e:Int)(he:e=k+(if (kd==5)=true then 1 else 0))(b:List Tm)(ih:∀ u∈b,AC Tryz.prog 136 [aT u,ci x1,ci x2,ci e] [] (aT (z08 (z0u x1 x2) u e)) [])(hl:b.length≤B)(hh:(hd (z0a (z0u x1 x2) b e)).l.length≤B):
  RPt Tryz.prog 136 0 (aT (z1t (.mk kd s n b) (z0a (z0u x1 x2) b e))) [] 1 ⟨[(1,ci x1),(2,ci x2),(3,ci k),(4, .c (.a (.ep 0 4 0 0))),(8, .c (.a (.ep 1 4 0 0))),(10, .c (.a (.fz .N))),(11,ci 0)],[(0, .arr 4 [fzs (FT (.mk kd s n b))]),  (1, .arr 4 [zT])],2⟩:=by
 refine RPt.vc hP sh zka (Eq.mpr (v136_1a ..) ?_)
 match b,ih,hl,hh with
 | [],ih,hl,hh=>
  have hw:=zgn (.mk kd s n []) [] (by simp) rfl hh;exact ⟨rfl,z02 (fun h=>absurd (of_decide_eq_true h) (by rw [z01];simp)) (fun _=>⟨_,hw.args ⟨.refl _,le_c z1m,trivial⟩,z3r (.refl _)⟩)⟩
 | t::b,ih,hl,hh=>
  have hl':=hl;simp only [List.length_cons,B] at hl';have h1:=ih t List.mem_cons_self;have h2:=l_rshb x1 x2 k kd s n hk0 hk1 e he b [t] [z08 (z0u x1 x2) t e] rfl (fun u hu=>ih u (List.mem_cons_of_mem _ hu)) hl hh;have h3:=ltI' [] t b;have hu:=z8c (.mk kd s n (t::b)) k hk0 (by simp only [M61] at hk1;omega);rw [show aE (List.getD (FTs (t::b)) (Int.toNat 0) [])=aT t from z1o t,w64 (by omega) (by omega)];refine ⟨rfl,z02 (fun _=>⟨⟨rfl,by omega,h3,z1c t⟩,_,hu,z08 (z0u x1 x2) t e, ?_,Nat.le_refl _,z7p (by omega), ?_⟩) (fun h=>absurd h3 (of_decide_eq_false h))⟩
  · rw [show k+Tm.by (.mk kd s n (t::b))=e from he.symm];exact h1
  · rw [zdy];exact h2
theorem l_rsub (x1:Int)(st:Tm)(k:Int)(kd:Int)(s:List UInt8)(n:Int)(hk0:0≤k)(hk1:k≤M61)(e:Int)(he:e=k+(if (kd==5)=true then 1 else 0)):∀ (b a acc:List Tm),acc.length=a.length→(∀ u∈b,AC Tryz.prog 127 [aT u,ci x1,aT st,ci e] [] (aT (z08 (z0p x1 st) u e)) [])→(a++b).length≤B→(hd (acc++z0a (z0p x1 st) b e)).l.length≤B→
  RPt Tryz.prog 127 0 (aT (z1t (.mk kd s n (a++b)) (acc++z0a (z0p x1 st) b e))) [] 1 ⟨[(1,ci x1),(3,ci k),(4, .c (.a (.ep 0 4 0 0))),(6, .c (.a (.ep 1 4 0 0))),(8, .c (.a (.ep 2 4 0 0))),(10, .c (.a (.osl 3 4 0 acc.length))),(11,ci a.length)],[(0, .arr 4 [fzs (FT (.mk kd s n (a++b)))]),(1, .arr 4 [cT st]),(2, .arr 4 [zT]),(3, .arz 4 (FTs acc))],4⟩
 | [],a,acc,hlen,_,hl,hh=>by
  simp only [z0a,List.append_nil] at hh hl ⊢;have hw:=zgn (.mk kd s n a) acc (by omega) hlen hh;refine RPt.vc hP sh zjk (Eq.mpr (zrn ..) ?_);refine ⟨rfl,z02 (fun h=>absurd (of_decide_eq_true h) (by rw [z01];omega)) (fun _=>⟨⟨rfl,by rw [z01];omega⟩,_,hw.args ⟨.refl _, ?_,trivial⟩,z3r (.refl _)⟩)⟩;rw [show List.take acc.length (List.drop 0 (FTs acc))=FTs acc by rw [List.drop_zero,List.take_of_length_le (by rw [z01];omega)]];exact le_c leSl
 | t::b,a,acc,hlen,ih,hl,hh=>by
  have hl':=hl;simp only [List.length_append,List.length_cons,B] at hl';have h1:=ih t List.mem_cons_self;have h2:=l_rsub x1 st k kd s n hk0 hk1 e he b (a++ [t]) (acc++ [z08 (z0p x1 st) t e]) (by simp [hlen]) (fun u hu=>ih u (List.mem_cons_of_mem _ hu)) (by rw [ap];exact hl) (by rw [ap];exact hh);have h3:=ltI' a t b;have hu:=z8c (.mk kd s n (a++t::b)) k hk0 (by simp only [M61] at hk1;omega);rw [ap,ap,nx] at h2;rw [z0a];refine RPt.vc hP sh zjk (Eq.mpr (zrn ..) ?_);rw [z45,w64 (x:=(a.length:Int)+1) (by omega) (by omega)];refine ⟨rfl,z02 (fun _=>⟨⟨rfl,by omega,h3,z1y ..⟩,_,hu,z08 (z0p x1 st) t e, ?_,Nat.le_refl _,⟨by rw [z01];omega,z7p (by omega)⟩, ?_⟩) (fun h=>absurd h3 (of_decide_eq_false h))⟩
  · rw [show k+Tm.by (.mk kd s n (a++t::b))=e from he.symm];exact h1
  · have e5:List.take acc.length (FTs acc)++ [FT4 (z08 (z0p x1 st) t e)]=FTs (acc++ [z08 (z0p x1 st) t e]):=by rw [List.take_of_length_le (by rw [z01];omega),zdy,z2n];rfl
    rw [e5];rw [List.length_append] at h2;exact h2
theorem l_rsua (x1:Int)(st:Tm)(k:Int)(kd:Int)(s:List UInt8)(n:Int)(hk0:0≤k)(hk1:k≤M61)(e:Int)(he:e=k+(if (kd==5)=true then 1 else 0))(b:List Tm)(ih:∀ u∈b,AC Tryz.prog 127 [aT u,ci x1,aT st,ci e] [] (aT (z08 (z0p x1 st) u e)) [])(hl:b.length≤B)(hh:(hd (z0a (z0p x1 st) b e)).l.length≤B):
  RPt Tryz.prog 127 0 (aT (z1t (.mk kd s n b) (z0a (z0p x1 st) b e))) [] 1 ⟨[(1,ci x1),(3,ci k),(4, .c (.a (.ep 0 4 0 0))),(6, .c (.a (.ep 1 4 0 0))),(8, .c (.a (.ep 2 4 0 0))),(10, .c (.a (.fz .N))),(11,ci 0)],[(0, .arr 4 [fzs (FT (.mk kd s n b))]),(1, .arr 4 [cT st]),(2, .arr 4 [zT])],3⟩:=by
 refine RPt.vc hP sh zjk (Eq.mpr (v127_1a ..) ?_)
 match b,ih,hl,hh with
 | [],ih,hl,hh=>
  have hw:=zgn (.mk kd s n []) [] (by simp) rfl hh;exact ⟨rfl,z02 (fun h=>absurd (of_decide_eq_true h) (by rw [z01];simp)) (fun _=>⟨_,hw.args ⟨.refl _,le_c z1m,trivial⟩,z3r (.refl _)⟩)⟩
 | t::b,ih,hl,hh=>
  have hl':=hl;simp only [List.length_cons,B] at hl';have h1:=ih t List.mem_cons_self;have h2:=l_rsub x1 st k kd s n hk0 hk1 e he b [t] [z08 (z0p x1 st) t e] rfl (fun u hu=>ih u (List.mem_cons_of_mem _ hu)) hl hh;have h3:=ltI' [] t b;have hu:=z8c (.mk kd s n (t::b)) k hk0 (by simp only [M61] at hk1;omega);rw [show aE (List.getD (FTs (t::b)) (Int.toNat 0) [])=aT t from z1o t,w64 (by omega) (by omega)];refine ⟨rfl,z02 (fun _=>⟨⟨rfl,by omega,h3,z1c t⟩,_,hu,z08 (z0p x1 st) t e, ?_,Nat.le_refl _,z7p (by omega), ?_⟩) (fun h=>absurd h3 (of_decide_eq_false h))⟩
  · rw [show k+Tm.by (.mk kd s n (t::b))=e from he.symm];exact h1
  · rw [zdy];exact h2
theorem c_rshift (fr by_:Int)(hf0:0≤fr)(hf1:fr≤M61)(hb0:0-1≤by_)(hb1:by_≤M61):∀ (t:Tm) (k:Int),t.sz≤B→bd M61 t→0≤k→k+t.sz≤M61→AC Tryz.prog 136 [aT t,ci fr,ci by_,ci k] [] (aT (shT fr by_ t k)) []:=by
 refine Tm.ind fun t ih k hs hb h0 h1=> ?_;have hlen:=Tm.szs_length t.l;have hi:=zg2 t;have hsz:=zeh fr by_;obtain ⟨kd,s,n,l⟩:=t;simp only [Tm.sz,Tm.l,M61,B] at hs hlen h1 hf1 hb1;have hin:Tm.inner (.mk kd s n l)=(kd==5||kd==6):=rfl;have leaf:(kd==5||kd==6)=false→shT fr by_ (.mk kd s n l) k=z0u fr by_ (.mk kd s n l) k:=fun h=>z1u _ kd s n l k h;refine AC.vc hP sh zka (Nat.le_refl _) (by simp) (by simp) (Eq.mpr (v136 kd s n (FTs l) fr by_ k _ _) ?_);rw [w64 (x:=k+fr) (by omega) (by omega)]
 have go:kd≠3→(kd==5||kd==6)=true→RPt Tryz.prog 136 0 (aT (shT fr by_ (.mk kd s n l) k)) [] 1 ⟨[(1,ci fr),(2,ci by_),(3,ci k),(4, .c (.a (.ep 0 4 0 0))),(8, .c (.a (.ep 1 4 0 0))),(10, .c (.a (.fz .N))),(11,ci 0)],[(0, .arr 4 [fzs (FT (.mk kd s n l))]),(1, .arr 4 [zT])],2⟩:=fun _ h=>by
  rw [shT,z08,if_pos h];have hk5:(0:Int)≤(if (kd==5)=true then 1 else 0)∧(if (kd==5)=true then (1:Int) else 0)≤1:=by split<;>omega
  refine l_rsha fr by_ k kd s n h0 (by simp only [M61];omega) _ rfl l (fun u hu=> ?_) (by simp only [B];omega) ?_
  · have:=Tm.szs_mem hu;exact ih u hu _ (by simp only [B];omega) (z2r hb.2 hu) (by omega) (by simp only [M61];omega)
  · match l,hs with
    | [],_=>simp [z0a,hd];exact Nat.zero_le _
    | u::r,hs=>
     simp only [Tm.szs] at hs;have h2:=hsz u (k+if (kd==5)=true then 1 else 0)
     have h3:=Tm.szs_length (shT fr by_ u (k+if (kd==5)=true then 1 else 0)).l
     have h4:=(shT fr by_ u (k+if (kd==5)=true then 1 else 0)).sz_eq
     show (shT fr by_ u (k+if (kd==5)=true then 1 else 0)).l.length≤B
     simp only [B];omega
 refine z02 (fun e3=>z02 (fun h2=> ?_) (fun h2=>⟨_,hi,z02 (fun h3=> ?_) (fun h3=> ?_)⟩)) (fun e3=>⟨_,hi,z02 (fun h3=> ?_) (fun h3=> ?_)⟩)
 · have e:kd=3:=by simpa using e3
   have:=hb.1 e;have h2:=of_decide_eq_true h2;rw [w64 (by simp only [M61] at this;omega) (by simp only [M61] at this;omega)];rw [leaf (by subst e;rfl),z0u,if_pos ⟨e3,h2⟩];exact z3r (.refl _)
 · rw [leaf (by rw [←hin];simpa using h3),z0u,if_neg (fun q=>absurd q.2 (of_decide_eq_false h2))];exact z3r (.refl _)
 · rw [hin] at h3;have e:kd=3:=by simpa using e3
   subst e;cases h3
 · rw [leaf (by rw [←hin];simpa using h3),z0u,if_neg (fun q=>by have q1:=q.1;have e3:(kd==3)=false:=e3;rw [show Tm.k (.mk kd s n l)=kd from rfl,e3] at q1;cases q1)];exact z3r (.refl _)
 · exact go (fun e=>by subst e;cases e3) (by rw [←hin];simpa using h3)
theorem z81 (t:Tm)(fr by_:Int)(hs:t.sz≤B)(hb:bd M61 t)(hf0:0≤fr)(hf1:fr≤M61)(hb0:0-1≤by_)(hb1:by_≤M61):AC Tryz.prog 101 [aT t,ci fr,ci by_] [] (aT (shT fr by_ t 0)) []:=by
 have h:=c_rshift fr by_ hf0 hf1 hb0 hb1 t 0 hs hb (Int.le_refl _) (by simp only [M61,B] at*;omega);obtain ⟨k,s,n,l⟩:=t;refine AC.vc hP sh lv101 (Nat.le_refl _) (by simp) (by simp) (Eq.mpr (v101 k s n (FTs l) fr by_ _ _) ?_);exact ⟨_,h,z3r (.refl _)⟩
theorem c_rsubst (i:Int)(st:Tm)(hst:st.sz≤B)(hbs:bd M61 st)(hi0:0≤i)(hi1:i≤M61):∀ (t:Tm) (k:Int),t.sz+nd t*st.sz≤B→bd M61 t→0≤k→k+t.sz≤M61→AC Tryz.prog 127 [aT t,ci i,aT st,ci k] [] (aT (suT i st t k)) []:=by
 refine Tm.ind fun t ih k hs hb h0 h1=> ?_;have hlen:=Tm.szs_length t.l;have hi:=zg2 t;have hsz:=suT_sz i st;have hsh:=z81 st 0 k hst hbs (Int.le_refl _) (by simp only [M61];omega) (by omega) (by omega);obtain ⟨kd,s,n,l⟩:=t;rw [nd_eq] at hs;simp only [Tm.sz,Tm.l,M61,B,Nat.add_mul,Nat.one_mul] at hs hlen h1 hi1;have hin:Tm.inner (.mk kd s n l)=(kd==5||kd==6):=rfl;have leaf:(kd==5||kd==6)=false→suT i st (.mk kd s n l) k=z0p i st (.mk kd s n l) k:=fun h=>z1u _ kd s n l k h
 have hgo:(kd==5||kd==6)=true→RPt Tryz.prog 127 0 (aT (suT i st (.mk kd s n l) k)) [] 1 ⟨[(1,ci i),(3,ci k),(4, .c (.a (.ep 0 4 0 0))),(6, .c (.a (.ep 1 4 0 0))),(8, .c (.a (.ep 2 4 0 0))),(10, .c (.a (.fz .N))),(11,ci 0)],[(0, .arr 4 [fzs (FT (.mk kd s n l))]),(1, .arr 4 [cT st]),(2, .arr 4 [zT])],3⟩:=fun h=>by
  rw [suT,z08,if_pos h];have hk5:(0:Int)≤(if (kd==5)=true then 1 else 0)∧(if (kd==5)=true then (1:Int) else 0)≤1:=by split<;>omega
  refine l_rsua i st k kd s n h0 (by simp only [M61];omega) _ rfl l (fun u hu=> ?_) (by simp only [B];omega) ?_
  · have:=Tm.szs_mem hu;have h7:=Nat.mul_le_mul_right st.sz (zjq hu);exact ih u hu _ (by simp only [B];omega) (z2r hb.2 hu) (by omega) (by simp only [M61];omega)
  · match l,hs with
    | [],_=>simp [z0a,hd];exact Nat.zero_le _
    | u::r,hs=>
     simp only [Tm.szs,nds,Nat.add_mul] at hs;have h2:=hsz u (k+if (kd==5)=true then 1 else 0)
     have h3:=Tm.szs_length (suT i st u (k+if (kd==5)=true then 1 else 0)).l
     have h4:=(suT i st u (k+if (kd==5)=true then 1 else 0)).sz_eq
     show (suT i st u (k+if (kd==5)=true then 1 else 0)).l.length≤B
     simp only [B];omega
 refine AC.vc hP sh zjk (Nat.le_refl _) (by simp) (by simp) (Eq.mpr (v127 kd s n (FTs l) i st.k st.s st.n (FTs st.l) k _ _) ?_);rw [w64 (x:=k+i) (by omega) (by omega)];refine z02 (fun e3=>z02 (fun h2=> ?_) (fun h2=>z02 (fun h3=> ?_) (fun h3=> ?_))) (fun e3=>⟨_,hi,z02 (fun h3=> ?_) (fun h3=> ?_)⟩)
 · have e:kd=3:=by simpa using e3
   have e2:n=k+i:=by simpa using h2
   rw [leaf (by subst e;rfl),z0p,if_pos (show (Tm.k (.mk kd s n l)==3)=true from e3),if_neg (show¬Tm.n (.mk kd s n l)<k+i by show¬n<k+i;omega),if_pos (show (Tm.n (.mk kd s n l)==k+i)=true from h2)];exact ⟨_,hsh,z3r (.refl _)⟩
 · have e:kd=3:=by simpa using e3
   have:=hb.1 e;have h3:=of_decide_eq_true h3;rw [w64 (by simp only [M61] at this;omega) (by simp only [M61] at this;omega)];rw [leaf (by subst e;rfl),z0p,if_pos (show (Tm.k (.mk kd s n l)==3)=true from e3),if_neg (show¬Tm.n (.mk kd s n l)<k+i by show¬n<k+i;omega),if_neg (by rw [show (Tm.n (.mk kd s n l)==k+i)=false from h2];simp)];exact z3r (.refl _)
 · have e:kd=3:=by simpa using e3
   have h3:=of_decide_eq_false h3;have h2':n≠k+i:=by simpa using h2
   rw [leaf (by subst e;rfl),z0p,if_pos (show (Tm.k (.mk kd s n l)==3)=true from e3),if_pos (show Tm.n (.mk kd s n l)<k+i by show n<k+i;omega)];exact z3r (.refl _)
 · rw [leaf (by rw [←hin];simpa using h3),z0p,if_neg (by rw [show (Tm.k (.mk kd s n l)==3)=false from e3];simp)];exact z3r (.refl _)
 · exact hgo (by rw [←hin];simpa using h3)
theorem zmf (t st:Tm)(i:Int)(hst:st.sz≤B)(ht:t.sz+nd t*st.sz≤B)(hb:bd M61 t)(hbs:bd M61 st)(hi0:0≤i)(hi1:i≤M61):AC Tryz.prog 88 [aT t,ci i,aT st] [] (aT (suT i st t 0)) []:=by
 have h:=c_rsubst i st hst hbs hi0 hi1 t 0 ht hb (Int.le_refl _) (by simp only [M61,B] at*;omega);obtain ⟨k,s,n,l⟩:=t;obtain ⟨k',s',n',l'⟩:=st;refine AC.vc hP sh lv88 (Nat.le_refl _) (by simp) (by simp) (Eq.mpr (v88 k s n (FTs l) i k' s' n' (FTs l') _ _) ?_);exact ⟨_,h,z3r (.refl _)⟩
end Go.AM

set_option maxRecDepth 100000
open Go Go.Proofs
namespace Go.AM
mutual
theorem zqx:∀ t:Tm,nd t=t.sz
 | .mk _ _ _ l=>by simp only [nd,Tm.sz,zua l]
theorem zua:∀ l:List Tm,nds l=Tm.szs l
 | []=>rfl
 | t::l=>by simp only [nds,Tm.szs,zqx t,zua l]
end
theorem el0 (x:Tm)(l:List Tm):FV.L 4 (.sl false 4 (FTs (x::l)))=true∧((0:Int)≤0∧((0:Int)<(((FTs (x::l)).length:Nat):Int)∧(rE (List.getD (FTs (x::l)) 0 []):List FV)=List.getD (FTs (x::l)) 0 [])):=⟨rfl,Int.le_refl _,by rw [lenI];simp only [List.length_cons];omega,z1c x⟩
end Go.AM

set_option maxRecDepth 100000
open Go Go.Proofs
namespace Go.AM
theorem zj1 {f:Tm}{args:List Tm}(hf:okB f=true)(ha:okL args=true):okB (z1x f args)=true:=by
 match args,ha with
 | [],_=>exact hf
 | a::r,ha=>
  obtain ⟨k,s,n,l⟩:=f;rw [z6n];split
  · rename_i h;have hk:k=6:=by simpa using h.1
    obtain ⟨x,y,r',rfl,h6,hl⟩:=okB6 hf hk
    have hall:okL ((x::y::r')++a::r)=true:=okL_of fun t ht=>by
     rcases List.mem_append.1 ht with ht | ht
     · exact zez hl ht
     · exact zez ha ht
    have h6':(x.k !=6)=true:=by simpa using h6
    rw [okB,hall];simp [hd,h6]
  · rename_i h;have h6:k≠6:=fun e=>h ⟨by simpa using e,ok_ne hf e⟩;have hall:okL (.mk k s n l::a::r)=true:=by simp only [okL,Bool.and_eq_true] at ha ⊢;exact ⟨hf,ha⟩
    rw [okB,hall];simp [hd,Tm.k,h6]
theorem withF_ok {k n:Int}{s:List UInt8}{l o:List Tm}(h:okB (.mk k s n l)=true)(hk:k=5∨k=6)(ho:okL o=true)(hlen:o.length=l.length):okB (z1t (.mk k s n l) o)=true:=by
 obtain ⟨rfl,rfl⟩:=okB_sn h hk;unfold z1t;split
 · rename_i hc
   match o,ho,hc with
   | [],_,hc=>simp at hc
   | x::r,ho,hc=>
    simp only [okL,Bool.and_eq_true] at ho;exact zj1 ho.1 ho.2
 · rename_i hc;show okB (.mk k [] 0 o)=true;rcases hk with rfl | rfl
   · obtain ⟨x,rfl,_⟩:=okB5 h rfl;rw [okB,ho];simp only [List.length_cons,List.length_nil] at hlen;simp [hlen]
   · obtain ⟨x,y,r,rfl,h6,_⟩:=okB6 h rfl;have h1:¬(hd o).k=6:=fun e=>hc ⟨rfl,by rw [hlen];simp,by simpa [hd] using e,show (x.k !=6)=true by simpa using h6⟩;rw [okB,ho];simp only [List.length_cons] at hlen;simp [hlen,h1]
mutual
theorem zev (lf:Tm→Int→Tm)(h:∀ u d,okB u=true→u.k≠5→u.k≠6→okB (lf u d)=true):∀ (t:Tm) (d:Int),okB t=true→okB (z08 lf t d)=true
 | .mk k s n l,d,ho=>by
  rw [z08];split
  · rename_i hk;exact withF_ok ho (by simpa using hk) (zlq lf h l _ (okB_l ho)) (z9u ..)
  · rename_i hk;exact h _ _ ho (fun e=>hk (by simp [show k=5 from e])) (fun e=>hk (by simp [show k=6 from e]))
theorem zlq (lf:Tm→Int→Tm)(h:∀ u d,okB u=true→u.k≠5→u.k≠6→okB (lf u d)=true):∀ (l:List Tm) (d:Int),okL l=true→okL (z0a lf l d)=true
 | [],_,_=>rfl
 | t::l,d,ho=>by
  simp only [okL,Bool.and_eq_true] at ho;simp only [z0a,okL,zev lf h t d ho.1,zlq lf h l d ho.2,Bool.and_self]
end
theorem zn2 {k n m:Int}{s:List UInt8}{l:List Tm}(h:okB (.mk k s n l)=true)(h5:k≠5)(h6:k≠6):okB (.mk k s m l)=true:=by
 have:l=[]:=okB0 h h5 h6;subst this;simp [okB,h5,h6,okL]
theorem shT_ok {fr by_:Int}{t:Tm}(d:Int)(h:okB t=true):okB (shT fr by_ t d)=true:=by
 refine zev _ (fun u d hu h5 h6=> ?_) t d h;unfold z0u;split
 · obtain ⟨k,s,n,l⟩:=u;exact zn2 hu h5 h6
 · exact hu
theorem suT_ok {i:Int}{s t:Tm}(d:Int)(hs:okB s=true)(h:okB t=true):okB (suT i s t d)=true:=by
 refine zev _ (fun u d hu h5 h6=> ?_) t d h;unfold z0p;split
 · split
   · exact hu
   · split
     · exact shT_ok _ hs
     · obtain ⟨k,s,n,l⟩:=u;exact zn2 hu h5 h6
 · exact hu
end Go.AM

set_option maxRecDepth 100000
open Go Go.Proofs

set_option maxRecDepth 100000
open Go Go.Proofs
namespace Go.AM
mutual
theorem zsb:∀ (t:Tm) (m:Int),0≤z9n t m→(t.sz:Int)≤m-z9n t m
 | .mk _ s _ l,m,h=>by
  simp only [z9n] at h ⊢;have:=zlz l (m-1) h;simp only [Tm.sz];omega
theorem zlz:∀ (l:List Tm) (m:Int),0≤z9h l m→(Tm.szs l:Int)≤m-z9h l m
 | [],m,h=>by simp [z9h,Tm.szs]
 | t::l,m,h=>by
  simp only [z9h] at h ⊢;split at h
  · rename_i h0;rw [if_pos h0];have h1:=zlz l _ h;have h3:=(zfu l (z9n t m)).1;have h2:=zsb t m (by omega);simp only [Tm.szs];omega
  · rename_i h0;exact absurd h h0
end
theorem large_sz {t:Tm}{m:Int}(h:zja t m=false):(t.sz:Int)≤m:=by
 have h:=of_decide_eq_false h;have:=zsb t m (by omega);omega
end Go.AM

set_option maxRecDepth 100000
open Go Go.Proofs
namespace Go.AM
mutual
def lvB:Tm→Bool
 | .mk k s n l=>if (k==5||k==6)=true then lvL l else z05 (.mk k s n l)
def lvL:List Tm→Bool
 | []=>true
 | t::l=>lvB t&&lvL l
end
theorem zgg:∀ {l:List Tm} {t:Tm},lvL l=true→t∈l→lvB t=true
 | x::l,t,h,hm=>by
  simp only [lvL,Bool.and_eq_true] at h;rcases List.mem_cons.1 hm with rfl | hm
  · exact h.1
  · exact zgg h.2 hm
theorem lvL_of:∀ {l:List Tm},(∀ t∈l,lvB t=true)→lvL l=true
 | [],_=>rfl
 | t::l,h=>by simp only [lvL,h t List.mem_cons_self,lvL_of (l:=l) fun u hu=>h u (List.mem_cons_of_mem _ hu),Bool.and_self]
theorem z9q {k n:Int}{s:List UInt8}{l:List Tm}(hk:k=5∨k=6):lvB (.mk k s n l)=lvL l:=by
 rw [lvB,if_pos (by rcases hk with rfl | rfl<;>rfl)]
theorem zcb {k n:Int}{s:List UInt8}{l:List Tm}(h5:k≠5)(h6:k≠6):lvB (.mk k s n l)=z05 (.mk k s n l):=by
 rw [lvB,if_neg (by simp [h5,h6])]
theorem zth {s:List UInt8}{n:Int}{l:List Tm}:z05 (.mk 5 s n l)=(n==0&&s==[]&&decide (l.length=1)&&z1p l):=by
 rw [z05,lenI];simp only [show ((5:Int)==0)=false from rfl,show ((5:Int)==1)=false from rfl,show ((5:Int)==2)=false from rfl,show ((5:Int)==3)=false from rfl,show ((5:Int)==4)=false from rfl,Bool.false_eq_true,if_false,show ((5:Int)==5)=true from rfl,if_true];congr 2;by_cases h:l.length=1
 · rw [h];rfl
 · rw [decide_eq_false h];simp;omega
theorem zll {s:List UInt8}{n:Int}{l:List Tm}:z05 (.mk 6 s n l)=(n==0&&decide (2≤l.length)&&((hd l).k !=6)&&s==[]&&z1p l):=by
 rw [z05,lenI];simp only [show ((6:Int)==0)=false from rfl,show ((6:Int)==1)=false from rfl,show ((6:Int)==2)=false from rfl,show ((6:Int)==3)=false from rfl,show ((6:Int)==4)=false from rfl,show ((6:Int)==5)=false from rfl,Bool.false_eq_true,if_false,show ((6:Int)==6)=true from rfl,if_true];congr 4;by_cases h:2≤l.length
 · rw [decide_eq_true h,decide_eq_true (by omega)]
 · rw [decide_eq_false h,decide_eq_false (by omega)]
mutual
theorem z55:∀ t:Tm,z05 t=(okB t&&lvB t)
 | .mk k s n l=>by
  by_cases h5:k=5
  · subst h5;rw [zth,z9q (.inl rfl),z9d l,okB];cases okL l<;>cases lvL l<;>simp [Bool.and_comm,Bool.and_assoc]
  · by_cases h6:k=6
    · subst h6;rw [zll,z9q (.inr rfl),z9d l,okB];cases okL l<;>cases lvL l<;>simp [Bool.and_comm,Bool.and_assoc]
    · rw [zcb h5 h6];cases hv:z05 (.mk k s n l) with
      | false=>simp
      | true=>rw [z0e _ hv];rfl
theorem z9d:∀ l:List Tm,z1p l=(okL l&&lvL l)
 | []=>rfl
 | t::l=>by
  rw [z1p,okL,lvL,z55 t,z9d l];cases okB t<;>cases lvB t<;>simp
end
theorem zax {t:Tm}(h:z05 t=true):lvB t=true:=by rw [z55] at h;simp at h;exact h.2
theorem zj3 {f:Tm}{args:List Tm}(hf:lvB f=true)(ha:lvL args=true):lvB (z1x f args)=true:=by
 match args,ha with
 | [],_=>exact hf
 | a::r,ha=>
  obtain ⟨k,s,n,l⟩:=f;rw [z6n];split
  · rename_i h;have hk:k=6:=by simpa using h.1
    rw [z9q (.inr hk)] at hf;rw [z9q (.inr rfl)]
    exact lvL_of fun t ht=>by
     rcases List.mem_append.1 ht with ht | ht
     · exact zgg hf ht
     · exact zgg ha ht
  · rw [z9q (.inr rfl)];simp only [lvL,Bool.and_eq_true] at ha ⊢;exact ⟨hf,ha⟩
theorem withF_lv {t:Tm}{o:List Tm}(hk:t.k=5∨t.k=6)(ho:lvL o=true):lvB (z1t t o)=true:=by
 obtain ⟨k,s,n,l⟩:=t;unfold z1t;split
 · rename_i hc
   match o,ho,hc with
   | [],_,hc=>exact absurd hc.2.1 (by simp)
   | x::r,ho,hc=>
    simp only [lvL,Bool.and_eq_true] at ho;exact zj3 ho.1 ho.2
 · exact (z9q hk).trans ho
mutual
theorem zg0 (lf:Tm→Int→Tm)(Q:Tm→Int→Prop)(hq:∀ k s n l d,Q (.mk k s n l) d→∀ u∈l,Q u (d+if (k==5)=true then 1 else 0))(h:∀ u d,lvB u=true→Q u d→u.k≠5→u.k≠6→lvB (lf u d)=true):∀ (t:Tm) (d:Int),lvB t=true→Q t d→lvB (z08 lf t d)=true
 | .mk k s n l,d,ho,hQ=>by
  rw [z08];split
  · rename_i hk;have hk:k=5∨k=6:=by simpa using hk
    rw [z9q hk] at ho;exact withF_lv hk (zm8 lf Q hq h l _ ho (hq k s n l d hQ))
  · rename_i hk;exact h _ _ ho hQ (fun e=>hk (by simp [show k=5 from e])) (fun e=>hk (by simp [show k=6 from e]))
theorem zm8 (lf:Tm→Int→Tm)(Q:Tm→Int→Prop)(hq:∀ k s n l d,Q (.mk k s n l) d→∀ u∈l,Q u (d+if (k==5)=true then 1 else 0))(h:∀ u d,lvB u=true→Q u d→u.k≠5→u.k≠6→lvB (lf u d)=true):∀ (l:List Tm) (d:Int),lvL l=true→(∀ u∈l,Q u d)→lvL (z0a lf l d)=true
 | [],_,_,_=>rfl
 | t::l,d,ho,hQ=>by
  simp only [lvL,Bool.and_eq_true] at ho;simp only [z0a,lvL,zg0 lf Q hq h t d ho.1 (hQ t List.mem_cons_self),zm8 lf Q hq h l d ho.2 (fun u hu=>hQ u (List.mem_cons_of_mem _ hu)),Bool.and_self]
end
theorem za4 {s:List UInt8}{n:Int}{l:List Tm}:z05 (.mk 3 s n l)=true↔0≤n∧n≤4611686018427387904∧s=[]∧l=[]:=by
 rw [z05,lenI];simp only [show ((3:Int)==0)=false from rfl,show ((3:Int)==1)=false from rfl,show ((3:Int)==2)=false from rfl,Bool.false_eq_true,if_false,show ((3:Int)==3)=true from rfl,if_true];simp only [Bool.and_eq_true,decide_eq_true_eq,beq_iff_eq];constructor
 · rintro ⟨⟨⟨⟨h1,h2⟩,h3⟩,h4⟩,_⟩;exact ⟨h1,h2,h3,List.eq_nil_of_length_eq_zero (by omega)⟩
 · rintro ⟨h1,h2,rfl,rfl⟩;exact ⟨⟨⟨⟨h1,h2⟩,rfl⟩,rfl⟩,rfl⟩
theorem shT_lv {by_ M D:Int}(h0:0≤by_)(hM:M+by_≤4611686018427387904)(t:Tm)(d:Int)(fr:Int)(hb:bd M t)(h:lvB t=true)(_:d≤D):lvB (shT fr by_ t d)=true:=by
 refine zg0 _ (fun u _=>bd M u) (fun k s n l d hQ u hu=>z2r hQ.2 hu) (fun u d hu hQ h5 h6=> ?_) t d h hb;unfold z0u;split
 · rename_i hc;obtain ⟨k,s,n,l⟩:=u;have hk:k=3:=by have hc:=hc.1;have hc:(k==3)=true:=hc;simpa using hc
   subst hk;rw [zcb (by decide) (by decide),za4] at hu;have hb:=hQ.1 rfl;show lvB (.mk 3 s (n+by_) l)=true;rw [zcb (by decide) (by decide),za4];exact ⟨by omega,by omega,hu.2.2.1,hu.2.2.2⟩
 · exact hu
theorem suT_lv {i M:Int}{s t:Tm}{D:Int}(hi:0≤i)(hM:M+D≤4611686018427387904)(hbs:bd M s)(hs:lvB s=true)(hl:lvB t=true)(d:Int)(h0:0≤d)(hD:d+t.sz≤D):lvB (suT i s t d)=true:=by
 refine zg0 _ (fun u d=>0≤d∧d+u.sz≤D) (fun k s n l d hQ u hu=> ?_) (fun u d hu hQ h5 h6=> ?_) t d hl ⟨h0,hD⟩
 · have:=Tm.szs_mem hu;simp only [Tm.sz] at hQ;constructor
   · have:=hQ.1;split<;>omega
   · have:=hQ.2;split<;>omega
 · unfold z0p;split
   · rename_i hc;split
     · exact hu
     · rename_i hlt;split
       · have:=hQ.2;exact shT_lv hQ.1 (D:=0) (by omega) s 0 0 hbs hs (Int.le_refl _)
       · rename_i hne;obtain ⟨k,s',n,l⟩:=u;have hk:k=3:=by have hc:(k==3)=true:=hc;simpa using hc
         subst hk;rw [zcb (by decide) (by decide),za4] at hu;have h1:¬n<d+i:=hlt;have h2:n≠d+i:=fun e=>hne (by rw [show Tm.n (.mk 3 s' n l)=n from rfl,e];simp);show lvB (.mk 3 s' (n-1) l)=true;rw [zcb (by decide) (by decide),za4];have:=hQ.1;exact ⟨by omega,by omega,hu.2.2.1,hu.2.2.2⟩
   · exact hu
end Go.AM

set_option maxRecDepth 100000
open Go Go.Proofs
namespace Go.AM
theorem z2f {k n:Int}{s:List UInt8}{l:List Tm}(h:z05 (.mk k s n l)=true)(hk:k=5∨k=6):∀ u∈l,z05 u=true:=fun u hu=>by
 rw [z55,Bool.and_eq_true] at h ⊢;have h1:=okB_l h.1;have h2:=h.2;rw [z9q hk] at h2;exact ⟨zez h1 hu,zgg h2 hu⟩
def LeW (p q:Bool×List WV):Prop:=p.1=q.1∧All2 WV.Le p.2 q.2
theorem zgq {α β:Type}{R:α→β→Prop}:∀ {a:List α} {b:List β},All2 R a b→a.length=b.length∧∀ (i:Nat) (x:α) (y:β),a[i]? =some x→b[i]? =some y→R x y
 | [],[],_=>⟨rfl,fun i x y hx _=>by simp at hx⟩
 | x::a,y::b,h=>by
  have:=zgq h.2;refine ⟨by simp [this.1],fun i u v hu hv=> ?_⟩
  match i,hu,hv with
  | 0,hu,hv=>simp at hu hv;subst hu;subst hv;exact h.1
  | i+1,hu,hv=>exact this.2 i u v (by simpa using hu) (by simpa using hv)
 | [],_::_,h=>h.elim
 | _::_,[],h=>h.elim
theorem znq {a b:List (Bool×List WV)}(h:All2 LeW a b):TV.Le (.tup a) (.tup b):=by
 have:=zgq h;refine .tup _ _ this.1 fun i p q hp hq=> ?_;have h1:=this.2 i p q hp hq;have h2:=zgq h1.2;exact ⟨h1.1,h2.1,h2.2⟩
theorem lw1 {x y:WV}{b:Bool}(h:WV.Le x y):LeW (b,[x]) (b,[y]):=⟨rfl,h,trivial⟩
theorem lwR (p:Bool×List WV):LeW p p:=by
 obtain ⟨b,l⟩:=p;refine ⟨rfl, ?_⟩;show All2 WV.Le l l
 induction l with
 | nil=>trivial
 | cons x l ih=>exact ⟨.refl _,ih⟩
theorem zas (t:List (List FV)):List.take (Int.toNat ((t.length:Nat):Int)) t=t:=by rw [Int.toNat_natCast,List.take_of_length_le (Nat.le_refl _)]
end Go.AM

set_option maxRecDepth 100000
open Go Go.Proofs
namespace Go.AM
def z00 (t:Tm):Tm×List Tm:=if t.k=6∧z05 t=true then (hd t.l,t.l.drop 1) else (t,[])
abbrev aSp (z:Tm×List Tm):TV:= .tup [(true,cT z.1),(false,[.a (.fz (.sl false 4 (FTs z.2)))])]
theorem z6j (t:Tm)(hz:t.sz≤B):AC Tryz.prog 54 [aT t] [] (aSp (z00 t)) []:=by
 have h1:=z4z t hz;have hlen:=Tm.szs_length t.l;have hsz:=t.sz_eq;obtain ⟨k,str,n,l⟩:=t
 have no:∀ x:FV,FV.Le x (.sl false 4 (FTs []))→TV.Le (.tup [(true,[.a (.fz (.int .i64 k)), .a (.fz (.str str)), .a (.fz (.int .i64 n)), .a (.fz (.sl false 4 (FTs l)))]),(false,[.a (.fz x)])]) (aSp (.mk k str n l,[])):=
  fun x hx=>znq ⟨lwR _,lw1 (.a _ _ (.fz _ _ hx)),trivial⟩
 refine AC.vc hP sh lv54 (Nat.le_refl _) (by simp) (by simp) (Eq.mpr (v54 k str n (FTs l) _ _) ?_);refine z02 (fun h=> ?_) (fun h=>⟨_,h1,z02 (fun h'=> ?_) (fun h'=> ?_)⟩)
 · rw [z00,if_neg (fun e=>by have e1:k=6:=e.1;subst e1;cases h)];exact ⟨no _ z1m,rfl⟩
 · rw [z00,if_neg (fun e=>by rw [show z05 (.mk k str n l)=false by simpa using h'] at e;cases e.2)];exact ⟨no _ z1m,rfl⟩
 · have h6:k=6:=by simpa using h
   subst h6;have hv:z05 (.mk 6 str n l)=true:=by simpa using h'
   obtain ⟨x,y,r,rfl,hx6,hl⟩:=okB6 (z0e _ hv) rfl;simp only [Tm.l,List.length_cons,B] at hlen hsz hz;have hcl:=zs8.1 (FTs (y::r)) (by simp [FTs]) (by rw [z01];simp only [List.length_cons,B];omega);have e1:List.drop 1 (List.take (Int.toNat (((FTs (x::y::r)).length:Nat):Int)) (FTs (x::y::r)))=FTs (y::r):=by rw [zas];rfl
   rw [e1,z00,if_pos ⟨rfl,hv⟩];refine ⟨el0 x (y::r),rfl,⟨by omega,by rw [z01];simp only [List.length_cons];omega,Int.le_refl _⟩, .inr ⟨_,hcl,⟨rfl,by omega⟩, ?_,rfl⟩⟩;rw [List.drop_zero,List.take_of_length_le (Nat.le_refl _),show cE (List.getD (FTs (x::y::r)) 0 [])=cT x from cE_FT x];exact .refl _
end Go.AM

set_option maxRecDepth 100000
open Go Go.Proofs
namespace Go.AM
mutual
def unF (n:Int):Tm→Bool
 | .mk k _ m l=> !(k==1||k==4&&decide (m≥n))&&unL n l
def unL (n:Int):List Tm→Bool
 | []=>true
 | t::l=>unF n t&&unL n l
end
theorem zq8 (n:Int):∀ l:List Tm,unL n l=l.all (unF n)
 | []=>rfl
 | t::l=>by rw [unL,zq8 n l];rfl
theorem znk (n:Int)(t:Tm):unF n t=(!(t.k==1||t.k==4&&decide (t.n≥n))&&t.l.all (unF n)):=by
 obtain ⟨k,s,m,l⟩:=t;rw [unF,zq8];rfl
def z52 (t:Tm):Bool:=t.k==0&&(t.s==[]&&(t.n==0&&t.l.isEmpty))
def plB (n:Int)(t:Tm):Bool:=z05 t&&(decide (z3q t 0 0≤0)&&unF n t)
def logs:List (List UInt8):=[[58,45],[44],[59],[61,62],[61],[105,115],[60],[61,60],[62],[62,61],[116,114,117,101],[102,97,105,108],[33],[112,105],[115,105,103,109,97]]
def nums:List (List UInt8):=[[105,115],[60],[61,60],[62],[62,61]]
def logB (s:List UInt8):Bool:=logs.contains s
def numB (s:List UInt8):Bool:=nums.contains s
def nmB (s:List UInt8):Bool:=(z5r s||zaf s) && !logB s
def cntB (ar fr vs sl:Int):Bool:=decide (0≤ar∧ar≤4096∧0≤fr∧fr≤4096∧0≤vs∧vs≤4096∧sl≤4096∧fr+vs≤sl)
def zab (t:Tm):Bool:=(z00 t).1.k==0 && !logB (z00 t).1.s
def zu3 (t:Tm):Bool:=(z00 t).1.k==0&&(numB (z00 t).1.s&&(z00 t).2.length==2)
def useA (k:Int):Bool:=k==0||k==1||k==9||k==10||k==11||k==13
def useT (k:Int):Bool:=k==0||k==1||k==2||k==3||k==6
def insB (ar fv sl n at_:Int)(was:Option (Int×Int))(k a:Int)(t:Tm):Bool:=
 if k=0∨k=1 then decide (0≤a∧a<ar)&&((k==0||t.k==0||t.k==2)&&match was with | none=>true | some w=>(w.1==0||w.1==1)&&decide (w.2<a))
 else if k=2∨k=3 then zab t
 else if k=6 then zu3 t
 else if k=9∨k=10 then decide (at_<a∧a<n)
 else if k=11∨k=13 then decide (fv≤a∧a<sl)
 else decide (0≤k∧k≤15)
def fldB (ar fv sl n at_:Int)(was:Option (Int×Int))(k a:Int)(t:Tm)(l:List Tm)(c:Bool):Bool:=
 (z52 t||z05 t)&&(insB ar fv sl n at_ was k a t&&((useA k||a==0)&&((k==14||c)&&((if k=5 then l.length==2 else l.isEmpty)&&((if useT k=true then plB sl t else z52 t)&&l.all (plB sl))))))
abbrev Pl:=Bool×Int×Int
def z3b (l:List Pl)(at_:Int)(p:Int×Int):Option (List Pl):=
 if at_<(l.length:Int) then (if (l.getD at_.toNat (false,0,0)).1=false then some (l.set at_.toNat (true,p)) else if l.getD at_.toNat (false,0,0)=(true,p) then some l else none) else none
def aftP (k:Int)(p:Int×Int):Int×Int:=if k=11 then (p.1+1,p.2) else if k=12 then (p.1-1,p.2) else if k=14 then (p.1,p.2+1) else if k=15 then (p.1,p.2-1) else p
def zb9 (l:List Pl)(i k a:Int):Option (List Pl):=
 if (l.getD i.toNat (false,0,0)).1=false then some l
 else if k=3∨k=4 then (if (l.getD i.toNat (false,0,0)).2=(0,0) then some l else none)
 else if k=8 then some l
 else if (aftP k (l.getD i.toNat (false,0,0)).2).1<0∨(aftP k (l.getD i.toNat (false,0,0)).2).2<0 then none
 else if k=9∨k=10 then
  match z3b l a (aftP k (l.getD i.toNat (false,0,0)).2) with
  | none=>none
  | some l'=>if k=10 then some l' else z3b l' (i+1) (aftP k (l.getD i.toNat (false,0,0)).2)
 else z3b l (i+1) (aftP k (l.getD i.toNat (false,0,0)).2)
def z1i:List Pl→Int→List In1→Bool
 | _,_,[]=>true
 | l,i,x::r=>match zb9 l i x.k x.a with | none=>false | some l'=>z1i l' (i+1) r
def zdh (ins:List In1):Bool:=z1i ((List.replicate ins.length (false,0,0)).set 0 (true,0,0)) 0 ins
def zh0 (ins:List In1):Bool:=match ins.getLast? with | none=>false | some x=>x.k==3||x.k==4||x.k==8
mutual
def vC:Cd→Bool
 | .mk nm ar fr vs sl ins=>nmB nm&&(cntB ar fr vs sl&&(zh0 ins&&(vIs ar (fr+vs) sl ins.length 0 none ins&&zdh ins)))
def vIs (ar fv sl n:Int):Int→Option (Int×Int)→List In1→Bool
 | _,_,[]=>true
 | at_,was, .mk k a t l c::r=>fldB ar fv sl n at_ was k a t l c.isEmpty&&(vCs sl c&&vIs ar fv sl n (at_+1) (some (k,a)) r)
def vCs (sl:Int):List Cd→Bool
 | []=>true
 | c::r=>decide (c.fr≤sl)&&(vC c&&vCs sl r)
end
theorem zpj (sl:Int):∀ l:List Cd,vCs sl l=l.all fun c=>decide (c.fr≤sl)&&vC c
 | []=>rfl
 | c::l=>by rw [vCs,zpj sl l];simp [Bool.and_assoc]
end Go.AM

set_option maxRecDepth 100000
open Go Go.Proofs
namespace Go.AM
mutual
def sCd:Cd→Cd→Bool
 | .mk nm ar fr vs sl ins, .mk nm' ar' fr' vs' sl' ins'=>nm==nm'&&(ar==ar'&&(fr==fr'&&(vs==vs'&&(sl==sl'&&sIns ins ins'))))
def sIns:List In1→List In1→Bool
 | [],[]=>true
 | .mk k a t l c::r, .mk k' a' t' l' c'::r'=>k==k'&&(a==a'&&(z3t t t'&&(z3p l l'&&(sCds c c'&&sIns r r'))))
 | _,_=>false
def sCds:List Cd→List Cd→Bool
 | [],[]=>true
 | c::r,c'::r'=>sCd c c'&&sCds r r'
 | _,_=>false
end
mutual
theorem zqz:∀ a b:Cd,sCd a b=true↔a=b
 | .mk nm ar fr vs sl ins, .mk nm' ar' fr' vs' sl' ins'=>by
  rw [sCd];simp only [Bool.and_eq_true,beq_iff_eq,zgb ins,Cd.mk.injEq]
theorem zgb:∀ a b:List In1,sIns a b=true↔a=b
 | [],[]=>by simp [sIns]
 | .mk k a t l c::r, .mk k' a' t' l' c'::r'=>by
  rw [sIns];simp only [Bool.and_eq_true,beq_iff_eq,zgb r,zet c,zjb,zb8,List.cons.injEq,In1.mk.injEq,and_assoc]
 | [], .mk _ _ _ _ _::_=>by simp [sIns]
 | .mk _ _ _ _ _::_,[]=>by simp [sIns]
theorem zet:∀ a b:List Cd,sCds a b=true↔a=b
 | [],[]=>by simp [sCds]
 | c::r,c'::r'=>by
  rw [sCds];simp only [Bool.and_eq_true,zqz c,zet r,List.cons.injEq]
 | [],_::_=>by simp [sCds]
 | _::_,[]=>by simp [sCds]
end
theorem sCd_self (c:Cd):sCd c c=true:=(zqz c c).2 rfl
end Go.AM

set_option maxRecDepth 100000
open Go Go.Proofs
namespace Go.AM
abbrev i64 (x:Int):Prop:= -9223372036854775808≤x∧x≤9223372036854775807
end Go.AM

set_option maxRecDepth 100000
open Go Go.Proofs
namespace Go.AM
theorem z57 (s:List UInt8):AC Tryz.prog 35 [cs s] [] (cb (logB s)) []:=by
 refine AC.vc hP sh lv35 (Nat.le_refl _) (by simp) (by simp) (Eq.mpr (v35 ..) ?_)
 repeat' (refine z02 (fun _=> ?_) (fun _=> ?_))
 all_goals exact z04 (by simp_all [logB,logs])
def ixI (p:Int→Bool):List Int→Nat→Int
 | [],_=> -1
 | t::l,i=>if p t=true then (i:Int) else ixI p l (i+1)
theorem zrg (p:Int→Bool):∀ (l:List Int) (i:Nat),decide (ixI p l i≥0)=l.any p
 | [],_=>rfl
 | t::l,i=>by
  rw [ixI,List.any_cons];split
  · rename_i h;rw [h];simp
  · rename_i h;rw [zrg p l,show p t=false by simpa using h,Bool.false_or]
def cntN (n:Int):Bool:=decide (n<0)||decide (n>4096)
theorem zpo (n:Int):AC Tryz.prog 76 [ci n] [] (cb (cntN n)) []:=by
 refine AC.vc hP sh lv76 (Nat.le_refl _) (by simp) (by simp) (Eq.mpr (v76 ..) ?_);exact z02 (fun h=>z04 (by rw [cntN,h];rfl)) (fun h=>z04 (by rw [cntN,h];rfl))
theorem zr5 (b:List Int):∀ a:List Int,(a++b).length≤B→RPt Tryz.prog 114 0 (ci (ixI cntN b a.length)) [] 1 ⟨[(0, .c (.a (.fz (.sl false 1 (IR (a++b)))))),(1, .c (.fn (.func 76) [] [])),(7,ci (a++b).length),(8,ci a.length)],[],0⟩:=by
 induction b with
 | nil=>
  intro a hs;refine RPt.vc hP sh zsx (Eq.mpr (zc6 ..) ?_);exact z02 (fun h=>absurd (of_decide_eq_true h) (by simp)) (fun _=>z0z rfl)
 | cons t b ihb=>
  intro a hs;have h2:=ihb (a++ [t]) (by simpa using hs);rw [ap,nx,show (a++ [t]).length=a.length+1 by simp] at h2;rw [ixI];simp only [List.length_append,List.length_cons,B] at hs;have h4:(a.length:Int)<((a++t::b).length:Int):=by simp only [List.length_append,List.length_cons];omega
  have em:List.getD (IR (a++t::b)) (Int.toNat (a.length:Int)) []=[.int .i64 t]:=by simp [IR]
  refine RPt.vc hP sh zsx (Eq.mpr (zc6 ..) ?_);rw [w64 (by omega) (by omega),em];refine z02 (fun _=>⟨⟨rfl,by omega,by simp only [IR,List.length_map];exact h4,rfl⟩,_,zpo t,z02 (fun h=> ?_) (fun h=> ?_)⟩) (fun h=>absurd h4 (of_decide_eq_false h))
  · rw [if_pos h];exact z0z rfl
  · rw [if_neg (by rw [h];simp)];exact h2
theorem c_ccount (l:List Int)(hl:l.length≤B):AC Tryz.prog 36 [.c (.a (.fz (.sl false 1 (IR l))))] [] (cb (!l.any cntN)) []:=by
 have h:=zr5 l [] hl
 have h1:AC Tryz.prog 114 [.c (.a (.fz (.sl false 1 (IR l)))), .c (.fn (.func 76) [] [])] [] (ci (ixI cntN l 0)) []:=by
  refine AC.vc hP sh zsx (Nat.le_refl _) (by simp) (by simp) (Eq.mpr (v114_F76 ..) ?_);rw [show (IR l).length=l.length by simp [IR]];exact ⟨rfl,h⟩
 have h2:AC Tryz.prog 75 [.c (.a (.fz (.sl false 1 (IR l)))), .c (.fn (.func 76) [] [])] [] (cb (l.any cntN)) []:=by
  refine AC.vc hP sh lv75 (Nat.le_refl _) (by simp) (by simp) (Eq.mpr (v75_F76 ..) ?_);exact ⟨_,h1,z04 (zrg cntN l 0)⟩
 refine AC.vc hP sh lv36 (Nat.le_refl _) (by simp) (by simp) (Eq.mpr (v36 ..) ?_);exact ⟨_,h2,z04 rfl⟩
def ixF (p:Tm→Bool):List Tm→Nat→Int
 | [],_=> -1
 | t::l,i=>if p t=true then (i:Int) else ixF p l (i+1)
theorem z75 (p:Tm→Bool):∀ (l:List Tm) (i:Nat),decide (ixF p l i≥0)=l.any p
 | [],_=>rfl
 | t::l,i=>by
  rw [ixF,List.any_cons];split
  · rename_i h;rw [h];simp
  · rename_i h;rw [z75 p l,show p t=false by simpa using h,Bool.false_or]
abbrev obN (n:Int):AObj:= .arr 1 [[.a (.fz (.int .i64 n))]]
abbrev obC (c:Cd):AObj:= .arr 6 [cCd c]
theorem zjx (p:Tm→Bool)(n:Int)(b:List Tm):∀ a:List Tm,(a++b).length≤B→(∀ u∈b,AC Tryz.prog 117 [aT u, .c (.a (.ep 0 1 0 0))] [obN n] (cb (p u)) [obN n])→RPt Tryz.prog 84 1 (ci (ixF p b a.length)) [obN n] 1 ⟨[(0,aL (a++b)),(1, .c (.fn (.func 117) [] [(false,[.ep 0 1 0 0])])),(7,ci (a++b).length),(8,ci a.length)],[(0,obN n)],1⟩:=by
 induction b with
 | nil=>
  intro a hs _;refine RPt.vc hP sh lv84 (Eq.mpr (zbx ..) ?_);exact z02 (fun h=>absurd (of_decide_eq_true h) (by simp)) (fun _=>⟨.refl _,rfl⟩)
 | cons t b ihb=>
  intro a hs ih;have h3:=ltI' a t b;have h1:=ih t List.mem_cons_self;have h2:=ihb (a++ [t]) (by simpa using hs) (fun u hu=>ih u (List.mem_cons_of_mem _ hu));rw [ap,nx,show (a++ [t]).length=a.length+1 by simp] at h2;rw [ixF];simp only [List.length_append,List.length_cons,B] at hs;have h4:(a.length:Int)<((a++t::b).length:Int):=by simp only [List.length_append,List.length_cons];omega
  refine RPt.vc hP sh lv84 (Eq.mpr (zbx ..) ?_);rw [w64 (by omega) (by omega)];refine z02 (fun _=>⟨⟨rfl,by omega,h3,z1y ..⟩,p t,by rw [z45];exact h1,z02 (fun h=> ?_) (fun h=> ?_)⟩) (fun h=>absurd h4 (of_decide_eq_false h))
  · rw [if_pos h];exact ⟨.refl _,rfl⟩
  · rw [if_neg (by rw [h];simp)];exact h2
theorem zis (p:Tm→Bool)(n:Int)(l:List Tm)(hl:l.length≤B)(h:∀ u∈l,AC Tryz.prog 117 [aT u, .c (.a (.ep 0 1 0 0))] [obN n] (cb (p u)) [obN n]):AC Tryz.prog 39 [aL l, .c (.fn (.func 117) [] [(false,[.ep 0 1 0 0])])] [obN n] (cb (l.any p)) [obN n]:=by
 have h0:=zjx p n l [] hl h
 have h1:AC Tryz.prog 84 [aL l, .c (.fn (.func 117) [] [(false,[.ep 0 1 0 0])])] [obN n] (ci (ixF p l 0)) [obN n]:=by
  refine AC.vc hP sh lv84 (Nat.le_refl _) (by simp [isLive]) (by simp) (Eq.mpr (v84_F117 ..) ?_);rw [z01];exact ⟨rfl,h0⟩
 refine AC.vc hP sh lv39 (Nat.le_refl _) (by simp [isLive]) (by simp) (Eq.mpr (v39_F117 ..) ?_);exact ⟨_,h1,by rw [z75 p l 0];exact ⟨.refl _,rfl⟩⟩
theorem l_ixcodd (p:Tm→Bool)(c:Cd)(b:List Tm):∀ a:List Tm,(a++b).length≤B→(∀ u∈b,AC Tryz.prog 77 [aT u, .c (.a (.ep 0 6 0 0))] [obC c] (cb (p u)) [obC c])→RPt Tryz.prog 84 1 (ci (ixF p b a.length)) [obC c] 1 ⟨[(0,aL (a++b)),(1, .c (.fn (.func 77) [] [(false,[.ep 0 6 0 0])])),(7,ci (a++b).length),(8,ci a.length)],[(0,obC c)],1⟩:=by
 induction b with
 | nil=>
  intro a hs _;refine RPt.vc hP sh lv84 (Eq.mpr (zec ..) ?_);exact z02 (fun h=>absurd (of_decide_eq_true h) (by simp)) (fun _=>⟨.refl _,rfl⟩)
 | cons t b ihb=>
  intro a hs ih;have h3:=ltI' a t b;have h1:=ih t List.mem_cons_self;have h2:=ihb (a++ [t]) (by simpa using hs) (fun u hu=>ih u (List.mem_cons_of_mem _ hu));rw [ap,nx,show (a++ [t]).length=a.length+1 by simp] at h2;rw [ixF];simp only [List.length_append,List.length_cons,B] at hs;have h4:(a.length:Int)<((a++t::b).length:Int):=by simp only [List.length_append,List.length_cons];omega
  refine RPt.vc hP sh lv84 (Eq.mpr (zec ..) ?_);rw [w64 (by omega) (by omega)];refine z02 (fun _=>⟨⟨rfl,by omega,h3,z1y ..⟩,p t,by rw [z45];exact h1,z02 (fun h=> ?_) (fun h=> ?_)⟩) (fun h=>absurd h4 (of_decide_eq_false h))
  · rw [if_pos h];exact ⟨.refl _,rfl⟩
  · rw [if_neg (by rw [h];simp)];exact h2
theorem ztf (p:Tm→Bool)(c:Cd)(l:List Tm)(hl:l.length≤B)(h:∀ u∈l,AC Tryz.prog 77 [aT u, .c (.a (.ep 0 6 0 0))] [obC c] (cb (p u)) [obC c]):AC Tryz.prog 39 [aL l, .c (.fn (.func 77) [] [(false,[.ep 0 6 0 0])])] [obC c] (cb (l.any p)) [obC c]:=by
 have h0:=l_ixcodd p c l [] hl h
 have h1:AC Tryz.prog 84 [aL l, .c (.fn (.func 77) [] [(false,[.ep 0 6 0 0])])] [obC c] (ci (ixF p l 0)) [obC c]:=by
  refine AC.vc hP sh lv84 (Nat.le_refl _) (by simp [isLive]) (by simp) (Eq.mpr (v84_F77 ..) ?_);rw [z01];exact ⟨rfl,h0⟩
 refine AC.vc hP sh lv39 (Nat.le_refl _) (by simp [isLive]) (by simp) (Eq.mpr (v39_F77 ..) ?_);exact ⟨_,h1,by rw [z75 p l 0];exact ⟨.refl _,rfl⟩⟩
theorem zbh (f:Tm→Bool)(l:List Tm):(!l.any fun t=> !f t)=l.all f:=by induction l with | nil=>rfl | cons t l ih=>rw [List.any_cons,List.all_cons,←ih];cases f t<;>simp
theorem c_cunder (n:Int):∀ t:Tm,t.sz≤B→AC Tryz.prog 79 [aT t,ci n] [] (cb (unF n t)) []:=by
 refine Tm.ind fun t ih hs=> ?_;have hl:=Tm.szs_length t.l;have he:=t.sz_eq
 have hk:∀ u∈t.l,AC Tryz.prog 117 [aT u, .c (.a (.ep 0 1 0 0))] [obN n] (cb (!unF n u)) [obN n]:=fun u hu=>by
  have h1:=ih u hu (by have:=Tm.szs_mem hu;omega);refine AC.vc hP sh lv117 (Nat.le_refl _) (by simp [isLive]) (by simp) (Eq.mpr (v117 ..) ?_);exact ⟨_,h1, .refl _,rfl⟩
 have h2:=zis (fun u=> !unF n u) n t.l (by omega) hk;refine AC.vc hP sh lv79 (Nat.le_refl _) (by simp) (by simp) (Eq.mpr (v79 ..) ?_);have e:=zbh (unF n) t.l;rw [znk,←e];refine z02 (fun h=>z04 (by rw [h];rfl)) (fun h=>z02 (fun h'=>z02 (fun q=>z04 (by rw [h,h',q];rfl)) (fun q=>⟨_,h2,z04 (by rw [h,h',q];rfl)⟩)) (fun h'=>⟨_,h2,z04 (by rw [h,h'];rfl)⟩))
theorem zr7 (t:Tm):z3t t (.mk 0 [] 0 [])=z52 t:=by
 obtain ⟨k,s,n,l⟩:=t;cases l with
 | nil=>simp [z3t,z3p,z52,Tm.k,Tm.s,Tm.n,Tm.l]
 | cons x l=>simp [z3t,z3p,z52,Tm.k,Tm.s,Tm.n,Tm.l]
theorem c_cempty (t:Tm)(hs:t.sz≤B):AC Tryz.prog 80 [aT t] [] (cb (z52 t)) []:=by
 have h:=(c_same t hs (.mk 0 [] 0 [])).args (args:=[aT t, .agg [.a (.fz (.int .i64 0)), .a (.fz (.str [])), .a (.fz (.int .i64 0)), .a (.fz .N)]]) ⟨.refl _, .agg _ _ rfl (fun i x y hx hy=>by
  match i with
  | 0=>simp at hx hy;subst hx;subst hy;exact .refl _
  | 1=>simp at hx hy;subst hx;subst hy;exact .refl _
  | 2=>simp at hx hy;subst hx;subst hy;exact .refl _
  | 3=>simp at hx hy;subst hx;subst hy;exact .a _ _ (.fz _ _ z1m)
  | i+4=>simp at hx),trivial⟩
 refine AC.vc hP sh lv80 (Nat.le_refl _) (by simp) (by simp) (Eq.mpr (v80 ..) ?_);exact ⟨_,h,z04 (zr7 t)⟩
theorem c_codd (c:Cd)(t:Tm)(hs:t.sz≤B)(hb:bd 2305843009213693952 t):AC Tryz.prog 77 [aT t, .c (.a (.ep 0 6 0 0))] [obC c] (cb (!plB c.sl t)) [obC c]:=by
 have h1:=z4z t hs;have h2:=zs4 t hs hb;have h3:=c_cunder c.sl t hs;refine AC.vc hP sh lv77 (Nat.le_refl _) (by simp [isLive]) (by simp) (Eq.mpr (v77 ..) ?_);refine ⟨_,h1,z02 (fun h=>⟨?_,rfl⟩) (fun h=>⟨_,h2,z02 (fun q=>⟨?_,rfl⟩) (fun q=>⟨_,h3, ?_,rfl⟩)⟩)⟩
 · rw [plB,show z05 t=false by simpa using h];exact .refl _
 · have:decide (z3q t 0 0≤0)=false:=by have:=of_decide_eq_true q;exact decide_eq_false (by omega)
   rw [plB,this,Bool.false_and,Bool.and_false];exact .refl _
 · have:decide (z3q t 0 0≤0)=true:=by have:=of_decide_eq_false q;exact decide_eq_true (by omega)
   rw [plB,this,show z05 t=true by simpa using h];exact .refl _
theorem c_anyOdd (c:Cd)(l:List Tm)(hl:l.length≤B)(hs:∀ t∈l,t.sz≤B∧bd 2305843009213693952 t):AC Tryz.prog 39 [aL l, .c (.fn (.func 77) [] [(false,[.ep 0 6 0 0])])] [obC c] (cb (!l.all (plB c.sl))) [obC c]:=by
 have h:=ztf (fun t=> !plB c.sl t) c l hl (fun u hu=>c_codd c u (hs u hu).1 (hs u hu).2);rw [←zbh,Bool.not_not];exact h
theorem c_chead (k:Int):AC Tryz.prog 119 [ci k] [] (cb (k==0||k==1)) []:=by
 refine AC.vc hP sh lv119 (Nat.le_refl _) (by simp) (by simp) (Eq.mpr (v119 ..) ?_);exact z02 (fun h=>z04 (by rw [h];rfl)) (fun h=>z04 (by rw [h];rfl))
theorem c_cpred (t:Tm)(hs:t.sz≤B):AC Tryz.prog 120 [aT t] [] (cb (zab t)) []:=by
 have h1:=z6j t hs;have h2:=z57 (z00 t).1.s;refine AC.vc hP sh lv120 (Nat.le_refl _) (by simp) (by simp) (Eq.mpr (v120 ..) ?_);exact ⟨_,h1,z02 (fun h=>⟨_,h2,z04 (by rw [zab,h];rfl)⟩) (fun h=>z04 (by rw [zab,h];rfl))⟩
theorem zuc (t:Tm)(hs:t.sz≤B):AC Tryz.prog 121 [aT t] [] (cb (zu3 t)) []:=by
 have h1:=z6j t hs;refine AC.vc hP sh lv121 (Nat.le_refl _) (by simp) (by simp) (Eq.mpr (v121 ..) ?_);refine ⟨_,h1, ?_⟩;rw [z01];have e2:((((z00 t).2.length:Nat):Int)==2)=((z00 t).2.length==2):=by rw [Bool.eq_iff_iff,beq_iff_eq,beq_iff_eq];omega
 rw [e2];unfold zu3 numB nums;generalize (z00 t).1.s=s;generalize (z00 t).1.k=k;generalize ((z00 t).2.length==2)=b
 repeat' (first | refine z02 (fun _=> ?_) (fun _=> ?_) | refine And.intro (show FV.L 4 _=true by rfl) ?_)
 all_goals exact z04 (by simp_all)
def aftR (k:Int)(p:Int×Int):(Int×Int)×Bool×Bool:=
 if k=3∨k=4 then (p,false,p.1==0&&p.2==0) else if k=8 then (p,false,true) else (aftP k p,true,decide ((aftP k p).1≥0)&&decide ((aftP k p).2≥0))
theorem z4g {a b:TV}(h:a=b):TV.Le a b:=by rw [h];exact .refl _
theorem c_cafter (m:Bool)(p:Int×Int)(k:Int)(h1:0-M61≤p.1∧p.1≤M61)(h2:0-M61≤p.2∧p.2≤M61):AC Tryz.prog 83 [.agg [.a (.fz (.bool m)), .a (.fz (.int .i64 p.1)), .a (.fz (.int .i64 p.2))],ci k] []
  (.tup [(true,[.a (.fz (.bool m)), .a (.fz (.int .i64 (aftR k p).1.1)), .a (.fz (.int .i64 (aftR k p).1.2))]),(false,[.a (.fz (.bool (aftR k p).2.1))]),(false,[.a (.fz (.bool (aftR k p).2.2))])]) []:=by
 obtain ⟨x,y⟩:=p;simp only [M61] at h1 h2;refine AC.vc hP sh lv83 (Nat.le_refl _) (by simp) (by simp) (Eq.mpr (v83 ..) ?_);rw [w64 (x:=x+1) (by omega) (by omega),w64 (x:=x-1) (by omega) (by omega),w64 (x:=y+1) (by omega) (by omega),w64 (x:=y-1) (by omega) (by omega)];unfold aftR aftP
 repeat' (refine z02 (fun _=> ?_) (fun _=> ?_))
 all_goals refine z3r (z4g ?_)
 all_goals simp_all
 all_goals omega
end Go.AM

set_option linter.unusedVariables false
namespace Go.AM
open Go.RowKit Go.Lib
end Go.AM

set_option maxRecDepth 100000
open Go Go.Proofs
namespace Go.AM
open Go.RowKit Go.Lib in
set_option maxHeartbeats 1000000 in
theorem ze3 (b:Addr)(n c:Nat)(hc:n≤c)(w:World):
  Calls Tryz.prog 164 #[.slice (some b) n c] w fun e w'=>e= .returned (.slice (some b) n n)∧w'=w:=by
 go_enter Tryz.func164,Tryz.ntmps164
 go_wp2
 go_ret
 exact ⟨rfl,rfl⟩
open Go.RowKit Go.Lib in
set_option maxHeartbeats 1000000 in
theorem zv6 (w:World):
  Calls Tryz.prog 164 #[.slice none 0 0] w fun e w'=>e= .returned (.slice none 0 0)∧w'=w:=by
 go_enter Tryz.func164,Tryz.ntmps164
 go_wp2
 go_ret
 exact ⟨rfl,rfl⟩
def AwP (w:World)(cells:List Value)(nv:Int)(any:Bool)(n1:Nat)(e:Ending)(w':World):Prop:=
 ∃ (cap:Nat) (tail:Array Value),e= .returned (.agg #[.int .i64 nv, .slice (some ⟨w.heap.size+4,0,none⟩) n1 cap, .bool any])∧n1≤cap∧w'.heap[w.heap.size+4]? =some (.cells (cells.toArray++tail) 25 (0,0))∧
  (∀ j,j<w.heap.size→w'.heap[j]? =w.heap[j]?)∧w'.heap.size=w.heap.size+5∧w'.os=w.os∧w'.tape=w.tape∧w'.output=w.output
theorem zff (w:World)(a b c d e:Obj){j:Nat}(hj:j<w.heap.size):(((((w.alloc a).alloc b).alloc c).alloc d).alloc e).drew.drew.heap[j]? =w.heap[j]? :=by
 show ((((w.heap.push a).push b).push c).push d |>.push e)[j]? =_;rw [Array.getElem?_push,if_neg (by simp;omega),Array.getElem?_push,if_neg (by simp;omega),Array.getElem?_push,if_neg (by simp;omega),Array.getElem?_push,if_neg (by simp;omega),Array.getElem?_push,if_neg (by omega)]
theorem zfq (w:World)(a b c d e:Obj):(((((w.alloc a).alloc b).alloc c).alloc d).alloc e).drew.drew.heap[w.heap.size+4]? =some e:=by
 show ((((w.heap.push a).push b).push c).push d |>.push e)[w.heap.size+4]? =_;rw [Array.getElem?_push,if_pos (by simp)]
theorem zb5 (w:World)(a b c d e:Obj):(((((w.alloc a).alloc b).alloc c).alloc d).alloc e).drew.drew.heap.size=w.heap.size+5:=by
 show ((((w.heap.push a).push b).push c).push d |>.push e).size=_;simp
theorem four_old (w:World)(a b c d:Obj){j:Nat}(hj:j<w.heap.size):((((w.alloc a).alloc b).alloc c).alloc d).drew.drew.heap[j]? =w.heap[j]? :=by
 show ((((w.heap.push a).push b).push c).push d)[j]? =_;rw [Array.getElem?_push,if_neg (by simp;omega),Array.getElem?_push,if_neg (by simp;omega),Array.getElem?_push,if_neg (by simp;omega),Array.getElem?_push,if_neg (by omega)]
open Go.RowKit Go.Lib in
set_option maxHeartbeats 2000000 in
theorem zp0 (bb off n c:Nat)(hc:n≤c)(hn:n≤1000000000)(olds:List Value)(hl:olds.length=n*4)(nv:Int)(any:Bool)(k s m lv:Value)(w:World)(hb:olds ≠ []→bb<w.heap.size)(hcell:∀ j v,olds[j]? =some v→w.cell? ⟨bb,off+j,none⟩=some v):
  Calls Tryz.prog 160 #[.agg #[.int .i64 nv,(.slice (some ⟨bb,off,none⟩) n c), .bool any], .agg #[k,s,m,lv]] w (AwP w (olds++ [k,s,m,lv]) nv any (n+1)):=by
 have hN1:¬(n+1≤n):=by omega
 have hN2:¬(9223372036854775807<(n:Int)+1∧Tryz.t25.bytes=0):=by omega
 have hN3:¬(281474976710656<Builtin.nextslicecap (n+1) n*Tryz.t25.bytes):=by
  have:=growslice_fits_succ (old:=n) (bytes:=Tryz.t25.bytes) (by show n*56≤_;omega) (by show 56≤_;omega);omega
 have hL:∀ W:World,(∀ j v,olds[j]? =some v→W.cell? ⟨bb,off+j,none⟩=some v)→Sem.run Tryz.prog (loadCellsFrom ⟨bb,off,none⟩ 0 (n*4) #[]) W= .ok olds.toArray W:=fun W h=>run_firstCells_some (P:=Tryz.prog) W 4 n ⟨bb,off,none⟩ n n olds hl (fun j v hj=>by rw [Addr.add_lit];exact h j v hj)
 go_enter Tryz.func160,Tryz.ntmps160
 go_wp2
 have hL1:=hL ((((w.alloc (Obj.cells #[Value.int IntKind.i64 nv,Value.slice (some ⟨bb,off,none⟩) n c,Value.bool any] 134)).alloc (Obj.cells #[k,s,m,lv] 25)).alloc (Obj.cells #[Value.int IntKind.i64 0,Value.slice none 0 0,Value.bool false] 134)).alloc (Obj.cells #[k,s,m,lv] 25)).drew.drew (fun j v hj=>by
  have h0:=hcell j v hj;have hlt:=hb (fun e=>by rw [e] at hj;simp at hj);have h9:=four_old w (Obj.cells #[Value.int IntKind.i64 nv,Value.slice (some ⟨bb,off,none⟩) n c,Value.bool any] 134) (Obj.cells #[k,s,m,lv] 25) (Obj.cells #[Value.int IntKind.i64 0,Value.slice none 0 0,Value.bool false] 134) (Obj.cells #[k,s,m,lv] 25) hlt;rw [←h0];unfold World.cell?;simp only [h9])
 go_region_with (first | (go_at_call 164;refine (ze3 ⟨bb,off,none⟩ n c hc _).mono ?_;rintro e w2 ⟨rfl,rfl⟩))
 all_goals go_wp2
 all_goals refine bodyPost_ret (v:= .agg #[.int .i64 nv, .slice (some ⟨w.heap.size+1+1+1+1,0,none⟩) (n+1) ((Question.appendCap (n+1) n 25).cut (w.tape (w.drawn+1) (Question.appendCap (n+1) n 25))), .bool any]) (by simp only [results,Tryz.f160];go_simp) rfl ?_
 all_goals exact ⟨_,Builtin.zeroCells #[.int .i64 0, .string ⟨#[]⟩, .int .i64 0, .slice none 0 0] (grownCap w.drew (n+1) n 25-(n+1)),rfl,grownCap_ge w.drew (n+1) n 25,(zfq w _ _ _ _ _).trans (congrArg (fun q=>some (Obj.cells q 25 (0,0))) (by rw [←Array.append_assoc,show (olds++ [k,s,m,lv]).toArray=olds.toArray++ #[k,s,m,lv] by simp];rfl)),fun j hj=>zff w _ _ _ _ _ hj,zb5 w _ _ _ _ _,rfl,rfl,rfl⟩
open Go.RowKit Go.Lib in
set_option maxHeartbeats 2000000 in
theorem zuk (nv:Int)(any:Bool)(k s m lv:Value)(w:World):
  Calls Tryz.prog 160 #[.agg #[.int .i64 nv, .slice none 0 0, .bool any], .agg #[k,s,m,lv]] w (AwP w ([]++ [k,s,m,lv]) nv any (0+1)):=by
 have hN3:¬(281474976710656<Builtin.nextslicecap 1 0*Tryz.t25.bytes):=by
  exact Nat.not_lt.2 (growslice_fits_succ (old:=0) (bytes:=Tryz.t25.bytes) (by show 0*56≤_;omega) (by show 56≤_;omega))
 go_enter Tryz.func160,Tryz.ntmps160
 go_wp2
 go_region_with (first | (go_at_call 164;refine (zv6 _).mono ?_;rintro e w2 ⟨rfl,rfl⟩))
 all_goals go_wp2
 all_goals refine bodyPost_ret (v:= .agg #[.int .i64 nv, .slice (some ⟨w.heap.size+1+1+1+1,0,none⟩) 1 ((Question.appendCap 1 0 25).cut (w.tape (w.drawn+1) (Question.appendCap 1 0 25))), .bool any]) (by simp only [results,Tryz.f160];go_simp) rfl ?_
 all_goals exact ⟨_,Builtin.zeroCells #[.int .i64 0, .string ⟨#[]⟩, .int .i64 0, .slice none 0 0] (grownCap w.drew 1 0 25-1),rfl,grownCap_ge w.drew 1 0 25,(zfq w _ _ _ _ _).trans (congrArg (fun q=>some (Obj.cells q 25 (0,0))) rfl),fun j hj=>zff w _ _ _ _ _ hj,zb5 w _ _ _ _ _,rfl,rfl,rfl⟩
open Go.RowKit Go.Lib in
set_option maxHeartbeats 2000000 in
theorem zp5 (b:Addr)(nv:Int)(any:Bool)(k s m lv:Value)(w:World):
  Calls Tryz.prog 160 #[.agg #[.int .i64 nv, .slice (some b) 0 0, .bool any], .agg #[k,s,m,lv]] w (AwP w ([]++ [k,s,m,lv]) nv any (0+1)):=by
 have hN3:¬(281474976710656<Builtin.nextslicecap 1 0*Tryz.t25.bytes):=by
  exact Nat.not_lt.2 (growslice_fits_succ (old:=0) (bytes:=Tryz.t25.bytes) (by show 0*56≤_;omega) (by show 56≤_;omega))
 have hL:∀ W:World,Sem.run Tryz.prog (loadCellsFrom b 0 0 #[]) W= .ok #[] W:=fun W=>rfl
 go_enter Tryz.func160,Tryz.ntmps160
 go_wp2
 have hL1:=hL ((((w.alloc (Obj.cells #[Value.int IntKind.i64 nv,Value.slice (some b) 0 0,Value.bool any] 134)).alloc (Obj.cells #[k,s,m,lv] 25)).alloc (Obj.cells #[Value.int IntKind.i64 0,Value.slice none 0 0,Value.bool false] 134)).alloc (Obj.cells #[k,s,m,lv] 25)).drew.drew
 go_region_with (first | (go_at_call 164;refine (ze3 b 0 0 (Nat.le_refl _) _).mono ?_;rintro e w2 ⟨rfl,rfl⟩))
 all_goals go_wp2
 all_goals refine bodyPost_ret (v:= .agg #[.int .i64 nv, .slice (some ⟨w.heap.size+1+1+1+1,0,none⟩) 1 ((Question.appendCap 1 0 25).cut (w.tape (w.drawn+1) (Question.appendCap 1 0 25))), .bool any]) (by simp only [results,Tryz.f160];go_simp) rfl ?_
 all_goals exact ⟨_,Builtin.zeroCells #[.int .i64 0, .string ⟨#[]⟩, .int .i64 0, .slice none 0 0] (grownCap w.drew 1 0 25-1),rfl,grownCap_ge w.drew 1 0 25,(zfq w _ _ _ _ _).trans (congrArg (fun q=>some (Obj.cells q 25 (0,0))) rfl),fun j hj=>zff w _ _ _ _ _ hj,zb5 w _ _ _ _ _,rfl,rfl,rfl⟩
abbrev aAr (nv:Int)(L:List Tm)(any:Bool):TV:= .agg [.a (.fz (.int .i64 nv)), .a (.fz (.sl false 4 (FTs L))), .a (.fz (.bool any))]
theorem zb2 {w:World}{X:Nat→Prop}{β:Nat→Option Nat}{x:FV}{v:Value}(h:WRep w X β (.a (.fz x)) v):FRep w X x v:=by
 cases h with
 | a _ _ h=>cases h with
  | fz _ _ h=>exact h
theorem four_inv {w:World}{X:Nat→Prop}{β:Nat→Option Nat}{a b c d:FV}{vs:List Value}(h:LRep (WRep w X β) [.a (.fz a), .a (.fz b), .a (.fz c), .a (.fz d)] vs):∃ k s m lv,vs=[k,s,m,lv]∧FRep w X a k∧FRep w X b s∧FRep w X c m∧FRep w X d lv:=by
 obtain ⟨k,r,rfl,h1,h⟩:=h.cons_inv;obtain ⟨s,r,rfl,h2,h⟩:=h.cons_inv;obtain ⟨m,r,rfl,h3,h⟩:=h.cons_inv;obtain ⟨lv,r,rfl,h4,h⟩:=h.cons_inv;obtain rfl:=h.nil_inv;exact ⟨k,s,m,lv,rfl,zb2 h1,zb2 h2,zb2 h3,zb2 h4⟩
theorem zsq {w:World}{X:Nat→Prop}{β:Nat→Option Nat}{a b c:FV}{vs:List Value}(h:LRep (WRep w X β) [.a (.fz a), .a (.fz b), .a (.fz c)] vs):∃ k s m,vs=[k,s,m]∧FRep w X a k∧FRep w X b s∧FRep w X c m:=by
 obtain ⟨k,r,rfl,h1,h⟩:=h.cons_inv;obtain ⟨s,r,rfl,h2,h⟩:=h.cons_inv;obtain ⟨m,r,rfl,h3,h⟩:=h.cons_inv;obtain rfl:=h.nil_inv;exact ⟨k,s,m,rfl,zb2 h1,zb2 h2,zb2 h3⟩
theorem FT4' (g:Tm):FT g=[.int .i64 g.k, .str g.s, .int .i64 g.n, .sl false 4 (FTs g.l)]:=by cases g;rfl
theorem zq4 {w:World} {X:Nat→Prop} {L:List Tm} {b off:Nat} {u:Nat→Nat→Value}
  (h6:∀ (i j:Nat) (e:List FV) (f:FV),(FTs L)[i]? =some e→e[j]? =some f→w.cell? ⟨b,off+i*4+j,none⟩=some (u i j)) (h7:∀ (i j:Nat) (e:List FV) (f:FV),(FTs L)[i]? =some e→e[j]? =some f→FRep w X f (u i j)):
  ∃ olds:List Value,olds.length=L.length*4∧(∀ j v,olds[j]? =some v→w.cell? ⟨b,off+j,none⟩=some v)∧∀ (i j:Nat) (e:List FV) (f:FV),(FTs L)[i]? =some e→e[j]? =some f→∃ v,olds[i*4+j]? =some v∧FRep w X f v:=by
 have get:∀ i,i<L.length→∃ t,(FTs L)[i]? =some (FT t):=fun i hi=>⟨L[i],by rw [z2t,List.getElem?_map,List.getElem?_eq_getElem hi];rfl⟩;refine ⟨(List.range (L.length*4)).map fun q=>u (q/4) (q % 4),by simp,fun j v hj=> ?_,fun i j e f he hf=> ?_⟩
 · rw [List.getElem?_map] at hj;obtain ⟨q,hq,rfl⟩:=Option.map_eq_some_iff.1 hj;have hjl:j<L.length*4:=by have:=(List.getElem?_eq_some_iff.1 hq).1;simpa using this
   rw [List.getElem?_range hjl] at hq;injection hq with hq
   subst hq;obtain ⟨t,ht⟩:=get (j/4) (by omega);have hm:j % 4<(FT t).length:=by rw [z3u];omega
   have:=h6 (j/4) (j % 4) _ _ ht (List.getElem?_eq_getElem hm);rw [show off+j=off+j/4*4+j % 4 by omega];exact this
 · have hi:i<L.length:=by have:=(List.getElem?_eq_some_iff.1 he).1;rwa [z01] at this
   obtain ⟨t,ht⟩:=get i hi;rw [ht] at he;injection he with he
   have hj:j<4:=by have:=(List.getElem?_eq_some_iff.1 hf).1;rwa [←he,z3u] at this
   refine ⟨u i j, ?_,h7 i j e f (by rw [ht,he]) hf⟩;rw [List.getElem?_map,List.getElem?_range (by omega)];show some (u ((i*4+j)/4) ((i*4+j) % 4))=_;rw [show (i*4+j)/4=i by omega,show (i*4+j) % 4=j by omega]
theorem zqw {w w':World} {X X':Nat→Prop} {β':Nat→Option Nat} {L:List Tm} {g:Tm} {nv:Int} {any:Bool} {olds:List Value} {k s m lv v:Value} (hlen:olds.length=L.length*4)
  (hold:∀ (i j:Nat) (e:List FV) (f:FV),(FTs L)[i]? =some e→e[j]? =some f→∃ v,olds[i*4+j]? =some v∧FRep w X f v)
  (r1:FRep w X (.int .i64 g.k) k) (r2:FRep w X (.str g.s) s) (r3:FRep w X (.int .i64 g.n) m) (r4:FRep w X (.sl false 4 (FTs g.l)) lv)
  (h:AwP w (olds++ [k,s,m,lv]) nv any (L.length+1) (.returned v) w') (hX:¬X' (w.heap.size+4)) (hXX:∀ b,¬X b→b<w.heap.size→¬X' b):TRep w' X' β' (aAr nv (L++ [g]) any) v:=by
 obtain ⟨cap,tail,e,hcap,hnew,hblk,hsz,_⟩:=h;injection e with e
 subst e;have mono:∀ {f:FV} {v:Value},FRep w X f v→FRep w' X' f v:=fun hf=>hf.mono (by omega) fun b hb hlt=>⟨hblk b hlt,hXX b hb hlt⟩
 have hnews:∀ (j:Nat) (f:FV),(FT g)[j]? =some f→∃ v,[k,s,m,lv][j]? =some v∧FRep w' X' f v:=fun j f hf=>by
  rw [FT4'] at hf
  match j with
  | 0=>simp at hf;subst hf;exact ⟨k,rfl,mono r1⟩
  | 1=>simp at hf;subst hf;exact ⟨s,rfl,mono r2⟩
  | 2=>simp at hf;subst hf;exact ⟨m,rfl,mono r3⟩
  | 3=>simp at hf;subst hf;exact ⟨lv,rfl,mono r4⟩
  | j+4=>simp at hf
 have hall:∀ (i j:Nat) (e:List FV) (f:FV),(FTs (L++ [g]))[i]? =some e→e[j]? =some f→e.length=4∧∃ v,(olds++ [k,s,m,lv])[i*4+j]? =some v∧FRep w' X' f v:=fun i j e f he hf=>by
  rw [z2n] at he
  have he4:e.length=4:=by
   rw [←z2n,z2t,List.getElem?_map] at he;obtain ⟨t,_,rfl⟩:=Option.map_eq_some_iff.1 he;exact z3u t
  have hj:j<4:=by have:=(List.getElem?_eq_some_iff.1 hf).1;omega
  refine ⟨he4, ?_⟩;by_cases hi:i<L.length
  · rw [List.getElem?_append_left (by rw [z01];exact hi)] at he;obtain ⟨v,h1,h2⟩:=hold i j e f he hf;exact ⟨v,by rw [List.getElem?_append_left (by omega)];exact h1,mono h2⟩
  · rw [List.getElem?_append_right (by rw [z01];omega),z01] at he
    have hi2:i-L.length=0:=by
     have:=(List.getElem?_eq_some_iff.1 he).1;simp [FTs] at this;omega
    rw [hi2] at he;injection he with he
    subst he;obtain ⟨v,h1,h2⟩:=hnews j f hf;exact ⟨v,by rw [List.getElem?_append_right (by omega),hlen,show i*4+j-L.length*4=j by omega];exact h1,h2⟩
 refine ⟨[.int .i64 nv, .slice (some ⟨w.heap.size+4,0,none⟩) (L.length+1) cap, .bool any],rfl, .cons (.a _ _ (.fz _ _ (.int _ _))) (.cons (.a _ _ (.fz _ _ ?_)) (.cons (.a _ _ (.fz _ _ (.bool _))) .nil))⟩;refine .sl false 4 (FTs (L++ [g])) (w.heap.size+4) 0 cap (L.length+1) (fun i j=>(olds++ [k,s,m,lv]).getD (i*4+j) undef) (by rw [z01];simp) (by rw [z01];simpa using hcap) hX (by omega) (fun i e he=> ?_) (fun i j e f he hf=> ?_) (fun i j e f he hf=> ?_)
 · rw [z2t,List.getElem?_map] at he;obtain ⟨t,_,rfl⟩:=Option.map_eq_some_iff.1 he;exact z3u t
 · obtain ⟨_,v,h1,_⟩:=hall i j e f he hf;have hlt:=(List.getElem?_eq_some_iff.1 h1).1;show World.cell? w' _=some (List.getD _ _ _);unfold World.cell?;simp only [hnew,List.getD,h1,Option.getD_some];simp only [Nat.zero_add,Option.isSome_none,Bool.false_eq_true,if_false];rw [Array.getElem?_append_left (by simpa using hlt)];simpa using h1
 · obtain ⟨_,v,h1,h2⟩:=hall i j e f he hf;show FRep w' X' f (List.getD _ _ _);simp only [List.getD,h1,Option.getD_some];exact h2
theorem slF_inv {w:World}{X:Nat→Prop}{es:List (List FV)}{v:Value}(h:FRep w X (.sl false 4 es) v):(v= .slice none 0 0∧es=[])∨(∃ a,v= .slice (some a) 0 0∧es=[])∨
  ∃ (b off cap:Nat) (u:Nat→Nat→Value),v= .slice (some ⟨b,off,none⟩) es.length cap∧es.length≤cap∧¬X b∧b<w.heap.size∧(∀ (i j:Nat) (e:List FV) (f:FV),es[i]? =some e→e[j]? =some f→w.cell? ⟨b,off+i*4+j,none⟩=some (u i j))∧(∀ (i j:Nat) (e:List FV) (f:FV),es[i]? =some e→e[j]? =some f→FRep w X f (u i j)):=by
 cases h with
 | slnil=>exact .inl ⟨rfl,rfl⟩
 | sl0 _ _ a=>exact .inr (.inl ⟨a,rfl,rfl⟩)
 | sl _ _ _ b off cap len u h1 h2 h3 h4 h5 h6 h7=>exact .inr (.inr ⟨b,off,cap,u,by rw [h1],h2,h3,h4,h6,h7⟩)
theorem ztk (nv:Int)(L:List Tm)(any:Bool)(g:Tm)(hL:L.length≤1000000000):AC Tryz.prog 160 [aAr nv L any,aT g] [] (aAr nv (L++ [g]) any) []:=by
 refine ⟨by kernel_rfl,Nat.le_refl _,fun w vals β Y hβ hY hG hO hargs=> ?_⟩;have noX:∀ b,(Y b∨Own (fun o=>([]:List AObj).getD o .gone) β b)→Y b:=fun b h=>h.elim id fun ⟨o,h,_⟩=>by simp [isLive] at h
 obtain ⟨u1,us,rfl,h1,h2⟩:=hargs.cons_inv;obtain ⟨u2,us2,rfl,h3,h4⟩:=h2.cons_inv;obtain rfl:=h4.nil_inv;obtain ⟨a1,rfl,h1⟩:=h1;obtain ⟨a2,rfl,h3⟩:=h3;obtain ⟨k,s,m,lv,rfl,r1,r2,r3,r4⟩:=four_inv h3;obtain ⟨x,v,y,rfl,q1,q2,q3⟩:=zsq h1;have ex:x= .int .i64 nv:=by cases q1;rfl
 have ey:y= .bool any:=by cases q3;rfl
 subst ex;subst ey
 have fin:∀ olds:List Value,olds.length=L.length*4→(∀ (i j:Nat) (e:List FV) (f:FV),(FTs L)[i]? =some e→e[j]? =some f→∃ v,olds[i*4+j]? =some v∧FRep w (fun b=>Y b∨Own (fun o=>([]:List AObj).getD o .gone) β b) f v)→
   Calls Tryz.prog 160 #[.agg #[.int .i64 nv,v, .bool any], .agg #[k,s,m,lv]] w (AwP w (olds++ [k,s,m,lv]) nv any (L.length+1))→
   Calls Tryz.prog 160 #[.agg #[.int .i64 nv,v, .bool any], .agg #[k,s,m,lv]] w fun e w'=> ∃ v β',e= .returned v∧Good w (Own (fun o=>([]:List AObj).getD o .gone) β) w'∧Objs (fun o=>([]:List AObj).getD o .gone) β' Y w'∧
    TRep w' (fun b=>Y b∨Own (fun o=>([]:List AObj).getD o .gone) β' b) β' (aAr nv (L++ [g]) any) v∧(∀ o b,β' o=some b→o<([]:List AObj).length)∧(∀ o,o<([]:List AObj).length→β' o=β o)∧(∀ o b,([]:List AObj).length≤o→β' o=some b→w.heap.size≤b∨Own (fun o=>([]:List AObj).getD o .gone) β b):=fun olds ho1 ho2 hc=>by
  refine hc.mono fun e w' hp=> ?_;have hp':=hp;obtain ⟨cap,tail,rfl,hcap,hnew,hblk,hsz,e1,e2,e3⟩:=hp;refine ⟨_,β,rfl,⟨by omega,fun b hb _=>hblk b hb,fun b hb=>by unfold World.shape?;rw [hblk b hb],e1,e2,e3⟩,⟨fun o b h=>by simp [isLive] at h,fun o h=>by simp [isLive] at h,fun o o' b h=>by simp [isLive] at h,fun o b h=>by have:=hO.lt o b h;omega⟩, ?_,hβ,fun _ _=>rfl,fun o b _ h=>absurd (hβ o b h) (Nat.not_lt_zero _)⟩;exact zqw ho1 ho2 r1 r2 r3 r4 hp' (fun hx=>by have:=hY _ (noX _ hx);omega) (fun b hb _=>hb)
 have no0:∀ {es:List (List FV)},FTs L=es→es=[]→L.length=0:=fun e1 e2=>by rw [←z01 L,e1,e2];rfl
 generalize hE:FTs L=es at q2 fin;rcases slF_inv q2 with ⟨rfl,e⟩ | ⟨a,rfl,e⟩ | ⟨b,off,cap,u,rfl,g2,g3,g4,g6,g7⟩
 · have h0:=no0 hE e;refine fin [] (by rw [h0];rfl) (fun i j e' f he=>by rw [e] at he;simp at he) ?_;rw [h0];exact zuk nv any k s m lv w
 · have h0:=no0 hE e;refine fin [] (by rw [h0];rfl) (fun i j e' f he=>by rw [e] at he;simp at he) ?_;rw [h0];exact zp5 a nv any k s m lv w
 · subst hE;obtain ⟨olds,o1,o2,o3⟩:=zq4 g6 g7;rw [z01] at g2 fin ⊢;exact fin olds o1 o3 (zp0 b off L.length cap g2 hL olds o1 nv any k s m lv w (fun _=>g4) o2)
end Go.AM
