/- Laws, part 3. No conditions. -/
import Derived.Test.YtiflgghnjkfblaaGreatPart2
import Derived.Test.YtiflgghnjkfblaaGreatShelf
set_option linter.all false
set_option maxRecDepth 100000
open Go Go.Proofs
open Go.IntKind (wrap)
open List (getD take drop)
namespace Go.AM
abbrev RW:=List<|List FV
abbrev LA:=List AObj
abbrev LU:=List UInt8
abbrev LV:=List<|Nat×List Nat
abbrev RT (a:TV)(b:List AObj)(r:TV)(H:List AObj):Prop:=TV.Le a r/\b=H
open List (getD length take drop)
open Int (toNat)
abbrev Q1 (a:IntKind)(b:Int):WV:=.a<|.fz<|.int a b
abbrev Q2 (a:Int):WV:=Q1 .i64 a
abbrev Q3 (a b c d:Nat):WV:=.a<|.osl a b c d
abbrev Q4 (a:FV):WV:=.a<|.fz a
abbrev Q5 (a b c d:Nat):WV:=.a<|.ep a b c d
abbrev Q6 (a:Nat)(b:WV):Nat×TV:=(a,.c b)
abbrev Q8 (a:Nat)(b:RW):FV:=.sl false a b
abbrev Q9 (a:Nat)(b:List WV):AObj:=.arr a [b]
abbrev Q10 (a:Nat)(b:List TV)(c:LA)(d:TV)(e:LA):Prop:=AC rc a b c d e
abbrev Q11 (a:List WV):Bool×(List WV):=(false,a)
abbrev Q12 (a b:Nat)(c:RW):Nat×AObj:=(a,.arz b c)
abbrev Q20 (a:Nat)(b:RW):WV:=Q4<|Q8 a b
abbrev Q21 (a:Bool):WV:=Q4<|.bool a
abbrev Q22 (a:Nat):Nat×AObj:=(a,.gone)
abbrev Q23 (a:Nat)(b:Int):Nat×TV:=Q6 a<|Q2 b
abbrev Q24 (a:Int):TV:=.c<|Q2 a
abbrev Q25 (a:LU):WV:=Q4<|.str a
abbrev Q26 (a b:WV)(c:Int)(d:WV):List WV:=[a,b,Q2 c,d]
abbrev Q27 (a:RW):AObj:=.arz 1 a
abbrev Q31 (a:RW):AObj:=.arz 7 a
abbrev Q34 (a b:Nat)(c:List WV):Nat×AObj:=(a,Q9 b c)
abbrev Q35 (a:RW):AObj:=.arz 5 a
abbrev Q36 (a b c d:Nat)(e:WV)(f:Int):List WV:=[Q5 a b c d,e,Q2 f]
abbrev Q37 (a:Int):List WV:=[Q2 a]
abbrev Q38 (a:Int):Bool×(List WV):=Q11<|Q37 a
abbrev Q39  :WV:=Q4 .N
abbrev Q40 (a:Int)(b:LU)(c:Int)(d:WV):List WV:=Q26 (Q2 a) (Q25 b) c d
abbrev Q41 (a:Bool):TV:=.c<|Q21 a
abbrev Q42 (a:Int):FV:=.int .i64 a
abbrev Q43 (a b c d:Nat):TV:=.c<|Q5 a b c d
abbrev Q44 (a b:Bool×(List WV)):TV:=.tup [a,b]
abbrev Q45 (a:Bool×(List WV))(b:Int):TV:=Q44 a<|Q38 b
abbrev Q52 (a b c d:Nat)(e f:Int)(g h i:Nat):AObj:=Q9 6 [Q3 a 5 0 b,Q3 c 7 0 d,Q2 e,Q2 f,Q3 g 1 0 h,.a<|.mp i]
abbrev Q54 (a b c d e:Nat)(f:WV)(g:Int):AObj:=Q9 a<|Q36 b c d e f g
abbrev Q59 (a:Int)(b:LU)(c:Int)(d:Nat)(e:RW):List WV:=Q40 a b c<|Q20 d e
abbrev Q60 (a b:Int):TV:=Q45 (Q38 a) b
abbrev Q61 (a:Nat)(b:List MapZ):Nat×AObj:=(a,.mapz b)
abbrev Q62 (a b c d:Nat)(e f:Int)(g h i:Nat)(j k l:RW)(m:List MapZ):LA:=[Q52 a b c d e f g h i,Q35 j,Q31 k,Q27 l,.mapz m]
abbrev Q64 (a b c:Nat):Nat×TV:=Q6 a<|Q5 b c 0 0
abbrev Q65 (a b:Nat)(c:RW):Nat×TV:=Q6 a<|Q20 b c
abbrev Q66 (a:Bool)(b:LA)(c:TV)(d:LA):Prop:=RT (Q41 a) b c d
abbrev Q68 (a b c d:Nat)(e:TV):List TV:=[Q43 a b c d,e]
abbrev Q72 (a b c d e:Int):List WV:=[Q2 a,Q2 b,Q2 c,Q2 d,Q2 e]
abbrev Q74 (a:Int)(b:LU)(c:Int):List WV:=Q40 a b c Q39
abbrev Q75 (a b c d e:Nat)(f:TV)(g:LA)(h:TV)(i:LA):Prop:=Q10 a (Q68 b c d e f) g h i
abbrev Q76 (a:List WV):Bool×(List WV):=(true,a)
abbrev Q78 (a:Int)(b:LU)(c:Int)(d:Nat)(e:RW):TV:=.agg<|Q59 a b c d e
abbrev Q80 (a b c d:Nat)(e f:Int)(g h:Nat):AObj:=Q52 a b c d e f g h 5
abbrev Q81 (a b:Nat)(c:TV)(d:LA)(e:Nat)(f:List<|Nat×TV)(g:List<|Nat×AObj)(h:Nat):Prop:=RPt rc a b c d e ⟨f,g,h⟩
abbrev Q84 (a b c d e:Nat)(f g:Int):AObj:=Q54 a b c d e (Q2 f) g
abbrev Q85 (a b c d:Nat)(e f:TV):List TV:=[Q43 a b c d,e,f]
abbrev Q86 (a b c d:AObj)(e:List MapZ)(f g h:AObj):LA:=[a,b,c,d,.mapz e,f,g,h]
abbrev Q87 (a b c d e f:Nat)(g:WV)(h:Int):Nat×AObj:=Q34 a b<|Q36 c d e f g h
abbrev Q88 (a:Int)(b:LA)(c:TV)(d:LA):Prop:=RT (Q24 a) b c d
abbrev Q89 (a b c d e f g h i j:AObj):LA:=[a,b,c,.gone,d,e,f,g,h,i,j]
abbrev Q90 (a:LA)(b:TV)(c:LA):Prop:=Q66 false a b c
abbrev Q91 (a b c d e:Int):TV:=.agg<|Q72 a b c d e
abbrev Q92 (a:AObj)(b c d e:Nat)(f g:Int)(h i:Nat)(j k l:RW)(m:List MapZ):LA:=[a,Q80 b c d e f g h i,Q35 j,Q31 k,Q27 l,.mapz m]
abbrev Q93 (a b c d e:Nat):Nat×TV:=Q6 a<|Q3 b c d e
abbrev Q94 (a b c:Nat)(d e f g h:Nat×TV):List (Nat×TV):=[Q64 a b c,d,e,f,g,h]
abbrev Q95 (a:Nat)(b:List TV)(c:TV)(d:LA):Prop:=Q10 a b [] c d
abbrev Q96 (a:Nat)(b:List TV)(c:TV):Prop:=Q95 a b c []
abbrev Q97 (a:Bool×(List WV))(b:List WV):TV:=Q44 a<|Q11 b
abbrev Q98 (a b c d e f g h i:Nat)(j:Int):AObj:=Q54 a b c d e (Q3 f g h i) j
abbrev Q99 (a b c d e:Nat)(f g:Int)(h i:Nat):Nat×AObj:=(a,Q80 b c d e f g h i)
abbrev Q100 (a b:Int)(c:LA)(d:TV)(e:LA):Prop:=RT (Q60 a b) c d e
abbrev Q101 (a:Nat)(b:RW):TV:=.c<|Q20 a b
abbrev Q103 (a:Nat)(b:List TV)(c:Bool):Prop:=Q96 a b<|Q41 c
abbrev Q104 (a b c:Nat×TV)(d:Nat)(e:Int):List (Nat×TV):=[a,b,c,Q23 d e]
abbrev Q105 (a:Nat):Nat×TV:=Q6 a Q39
abbrev Q111 (a:Int)(b:Nat)(c:RW)(d e f g h:Int):List WV:=[Q2 a,Q20 b c,Q2 d,Q2 e,Q2 f,Q2 g,Q2 h]
abbrev Q113 (a:Nat)(b:RW):Nat×AObj:=Q12 a 1 b
abbrev Q114 (a:List WV)(b:Int):TV:=Q45 (Q76 a) b
abbrev Q115 (a b:Nat):Nat×TV:=Q64 a b 4
abbrev Q116 (a:RW):AObj:=.arz 2 a
abbrev Q119 (a:Bool):List WV:=[Q21 a]
abbrev Q120 (a:List WV)(b:Bool):TV:=Q97 (Q76 a)<|Q119 b
abbrev Q122 (a b c d e:Nat)(f:Int)(g:LA)(h:TV)(i:LA):Prop:=Q75 a b c d e (Q24 f) g h i
abbrev Q123 (a:Int)(b:WV):List WV:=[Q2 a,b]
abbrev Q124 (a b c d e:Nat)(f g:TV)(h:LA)(i:TV)(j:LA):Prop:=Q10 a (Q85 b c d e f g) h i j
abbrev Q125 (a b:AObj)(c d e:RW)(f:List MapZ)(g:RW):LA:=[a,b,Q35 c,Q31 d,Q27 e,.mapz f,Q116 g]
abbrev Q126 (a:Nat)(b:RW):Nat×AObj:=Q12 a 7 b
abbrev Q130 (a b c d:AObj)(e f g:RW):LA:=[a,b,.gone,.gone,c,d,Q35 e,Q31 f,Q27 g]
abbrev Q131 (a b:Nat)(c:Int)(d:LU)(e:Int):Nat×AObj:=Q34 a b<|Q74 c d e
abbrev Q132 (a b:Nat×TV)(c:Nat)(d:Int)(e:Nat)(f:Int):List (Nat×TV):=Q104 a b (Q23 c d) e f
abbrev Q133  :Nat×AObj:=Q22 2
abbrev Q134  :Nat×AObj:=Q22 3
abbrev Q136 (a:WV)(b c:Int)(d:Nat)(e:RW):List WV:=Q26 a (Q2 b) c<|Q20 d e
abbrev Q137 (a:Nat)(b:RW):Nat×AObj:=Q12 a 5 b
abbrev Q138 (a:Int):List WV:=Q123 a Q39
abbrev Q141 (a b:Nat):List WV:=[Q5 a b 0 0]
abbrev Q142 (a b c:Nat):AObj:=Q9 a<|Q141 b c
abbrev Q143 (a:LU):TV:=.c<|Q25 a
abbrev Q144 (a b c d e:Nat)(f g:Int)(h i j k:Nat)(l m:Int)(n o:Nat)(p q r:RW)(s:List MapZ):LA:=Q92 (Q84 a b c d e f g) h i j k l m n o p q r s
abbrev Q145 (a:Nat)(b:RW):List WV:=[Q20 a b]
abbrev Q146 (a:Int):AObj:=Q9 1<|Q37 a
theorem hP:rc.follows .mixedOrders=true:=zg
def sh:FuncId->List Sh
 |6=> [⟨Hp×Sto,λ_=>(.tup [Q11<|Q141 0 6,Q11<|Q141 5 2,Q11 [Q4<|.z0 true]]),λx _=>(Q86 (Q52 1 (length x.1.C) 2 (length x.1.T) x.1.M x.1.L 3 (length x.1.N) 4) (Q35<|CR x.1.C) (Q31<|TR x.1.T) (Q27<|NR x.1.N) (NM x.1.N 0) (Q9 2 [Q3 6 6 0<|length x.2.V,Q3 7 1 0<|length x.2.T]) (.arz 6<|SR x.2.V)<|Q27<|IR x.2.T),false,false,[]⟩,⟨Hp×Sto×List Int,λx=>(.tup [Q11<|Q141 0 6,Q11<|Q141 5 2,Q11 [Q3 8 1 0<|length x.2.2]]),λx _=> [Q52 1 (length x.1.C) 2 (length x.1.T) x.1.M x.1.L 3 (length x.1.N) 4,Q35<|CR x.1.C,Q31<|TR x.1.T,Q27<|NR x.1.N,.mapz<|NM x.1.N 0,Q9 2 [Q3 6 6 0<|length x.2.1.V,Q3 7 1 0<|length x.2.1.T],.arz 6<|SR x.2.1.V,Q27<|IR x.2.1.T,Q27<|IR x.2.2],false,false,[]⟩]
 |7=> [⟨List Int×Bool×Hp,λx=>(Q97 (Q11<|Q145 1<|IR x.1)<|Q119 x.2.1),λx H=>bif Nat.beq H.length 6 then(Q130 (Q52 6 (length x.2.2.C) 7 (length x.2.2.T) x.2.2.M x.2.2.L 8 (length x.2.2.N) 4) .gone (.mapz<|NM x.2.2.N 0) (getD H 5 .gone) (CR x.2.2.C) (TR x.2.2.T)<|NR x.2.2.N) else [Q52 7 (length x.2.2.C) 8 (length x.2.2.T) x.2.2.M x.2.2.L 9 (length x.2.2.N) 4,.gone,.gone,.gone,.mapz<|NM x.2.2.N 0,(getD H 5 .gone),(getD H 6 .gone),Q35<|CR x.2.2.C,Q31<|TR x.2.2.T,Q27<|NR x.2.2.N],true,true,[]⟩]
 |8|12|19|101=> [⟨Int×Int×Hp,λx=>(Q60 x.1 x.2.1),λx _=>(Q86 (Q52 5 (length x.2.2.C) 6 (length x.2.2.T) x.2.2.M x.2.2.L 7 (length x.2.2.N) 4) .gone .gone .gone (NM x.2.2.N 0) (Q35<|CR x.2.2.C) (Q31<|TR x.2.2.T)<|Q27<|NR x.2.2.N),true,false,[]⟩]
 |9=> [⟨Tm×Int×Int×Hp,λx=>(.tup [Q76<|cT x.1,Q38 x.2.1,Q38 x.2.2.1]),λx _=>(Q86 (Q52 5 (length x.2.2.2.C) 6 (length x.2.2.2.T) x.2.2.2.M x.2.2.2.L 7 (length x.2.2.2.N) 4) .gone .gone .gone (NM x.2.2.2.N 0) (Q35<|CR x.2.2.2.C) (Q31<|TR x.2.2.2.T)<|Q27<|NR x.2.2.2.N),true,false,[]⟩]
 |11=> [⟨Hp,λ_=>(Q43 0 6 0 0),λx _=>(Q62 1 (length x.C) 2 (length x.T) x.M x.L 3 (length x.N) 4 (CR x.C) (TR x.T) (NR x.N)<|NM x.N 0),false,false,[]⟩]
 |13|24=> [⟨(Int×Int)×Hp,λx=>(Q60 x.1.1 x.1.2),λx H=>bif Nat.beq H.length 5 then(Q86 (Q52 5 (length x.2.C) 6 (length x.2.T) x.2.M x.2.L 7 (length x.2.N) 4) .gone .gone .gone (NM x.2.N 0) (Q35<|CR x.2.C) (Q31<|TR x.2.T)<|Q27<|NR x.2.N) else(Q130 (Q52 6 (length x.2.C) 7 (length x.2.T) x.2.M x.2.L 8 (length x.2.N) 4) .gone (.mapz<|NM x.2.N 0) (getD H 5 .gone) (CR x.2.C) (TR x.2.T)<|NR x.2.N),true,true,[]⟩]
 |14|15|21|36|79|89|96|97|98=> [⟨Tm,λx=>(aT x),λ_ H=>H,true,false,[]⟩]
 |18=> [⟨Int×Sto,λx=>(Q24 x.1),λx _=> [Q9 2 [Q3 3 6 0<|length x.2.V,Q3 4 1 0<|length x.2.T],.gone,.gone,.arz 6<|SR x.2.V,Q27<|IR x.2.T],false,false,[]⟩]
 |20=> [⟨Tm×Rd,λx=>(aT x.1),λx _=>(Q130 (Q84 3 1 6 0 0 x.2.f x.2.e) (Q80 6 (length x.2.s.C) 7 (length x.2.s.T) x.2.s.M x.2.s.L 8<|length x.2.s.N) .gone (.mapz<|NM x.2.s.N 0) (CR x.2.s.C) (TR x.2.s.T)<|NR x.2.s.N),true,false,[]⟩]
 |22=> [⟨(Int×Int)×Hp,λx=>(Q60 x.1.1 x.1.2),λx _=>(Q86 (Q52 5 (length x.2.C) 6 (length x.2.T) x.2.M x.2.L 7 (length x.2.N) 4) .gone .gone .gone (NM x.2.N 0) (Q35<|CR x.2.C) (Q31<|TR x.2.T)<|Q27<|NR x.2.N),true,false,[]⟩]
 |25=> [⟨List Tm,λx=>(Q101 4<|FTs x),λ_ H=>H,true,false,[]⟩]
 |29|40=> [⟨Bool,λx=>(Q41 x),λ_ H=>H,true,true,[]⟩]
 |31=> [⟨RW,λ_=>(.c<|.fn (.func 46) [] [(false,[(.ep 0 1 0 0)])]),λx _=> [Q9 1<|Q145 1 x],true,false,[]⟩]
 |32=> [⟨Int×Wk,λx=>(Q24 x.1),λx H=>bif Nat.beq H.length 6 then(Q130 (Q54 3 1 6 0 0 Q39 x.2.f) (Q80 6 (length x.2.s.C) 7 (length x.2.s.T) x.2.s.M x.2.s.L 8<|length x.2.s.N) .gone (.mapz<|NM x.2.s.N 0) (CR x.2.s.C) (TR x.2.s.T)<|NR x.2.s.N) else(Q89 (Q98 3 1 6 0 0 10 2 0 x.2.n x.2.f) (Q80 7 (length x.2.s.C) 8 (length x.2.s.T) x.2.s.M x.2.s.L 9<|length x.2.s.N) .gone .gone (.mapz<|NM x.2.s.N 0) .gone (Q35<|CR x.2.s.C) (Q31<|TR x.2.s.T) (Q27<|NR x.2.s.N)<|Q116 x.2.R),true,false,[]⟩]
 |33=> [⟨Hp,λ_=>(.tup []),λx _=>(Q86 (Q52 5 (length x.C) 6 (length x.T) x.M x.L 7 (length x.N) 4) .gone .gone .gone (NM x.N 0) (Q35<|CR x.C) (Q31<|TR x.T)<|Q27<|NR x.N),false,false,[]⟩]
 |34=> [⟨Int×List Int×Rd,λx=>(.agg<|Q123 x.1<|Q20 1<|IR x.2.1),λx _=>(Q130 (Q84 3 1 6 0 0 x.2.2.f x.2.2.e) (Q80 6 (length x.2.2.s.C) 7 (length x.2.2.s.T) x.2.2.s.M x.2.2.s.L 8<|length x.2.2.s.N) .gone (.mapz<|NM x.2.2.s.N 0) (CR x.2.2.s.C) (TR x.2.2.s.T)<|NR x.2.2.s.N),true,false,[]⟩]
 |42|77=> [⟨Int×Hp,λx=>(Q24 x.1),λx _=>(Q86 (Q52 5 (length x.2.C) 6 (length x.2.T) x.2.M x.2.L 7 (length x.2.N) 4) .gone .gone .gone (NM x.2.N 0) (Q35<|CR x.2.C) (Q31<|TR x.2.T)<|Q27<|NR x.2.N),false,false,[]⟩]
 |43=> [⟨Int×Int,λx=>(Q60 x.1 x.2),λ_ H=>H,true,true,[]⟩]
 |44=> [⟨Unit,λ_=>(.c Q39),λ_ _=> [],false,false,[]⟩,⟨Unit,λ_=>(.c<|Q3 0 4 0 0),λ_ _=> [.arz 4 []],false,false,[]⟩]
 |45|66|73=> [⟨Int,λx=>(Q24 x),λ_ H=>H,true,true,[]⟩]
 |47|68|70|71|92=> [⟨Int×Wk,λx=>(Q24 x.1),λx _=>(Q89 (Q98 3 1 6 0 0 10 2 0 x.2.n x.2.f) (Q80 7 (length x.2.s.C) 8 (length x.2.s.T) x.2.s.M x.2.s.L 9<|length x.2.s.N) .gone .gone (.mapz<|NM x.2.s.N 0) .gone (Q35<|CR x.2.s.C) (Q31<|TR x.2.s.T) (Q27<|NR x.2.s.N)<|Q116 x.2.R),true,false,[]⟩]
 |48=> [⟨Nat,λx=>(.c<|Q3 0 7 0 x),λ_ H=>H,false,true,[]⟩]
 |50=> [⟨Int×Int×Int×Int×Int×Int×Int×Int,λx=>(Q114 (Q72 x.1 x.2.1 x.2.2.1 x.2.2.2.1 x.2.2.2.2.1) x.2.2.2.2.2.1),λx H=>List.set H 0<|Q84 3 1 6 0 0 x.2.2.2.2.2.2.1 x.2.2.2.2.2.2.2,true,false,[]⟩]
 |51|53|55|76|94=> [⟨Int×Rd,λx=>(Q24 x.1),λx _=>(Q130 (Q84 3 1 6 0 0 x.2.f x.2.e) (Q80 6 (length x.2.s.C) 7 (length x.2.s.T) x.2.s.M x.2.s.L 8<|length x.2.s.N) .gone (.mapz<|NM x.2.s.N 0) (CR x.2.s.C) (TR x.2.s.T)<|NR x.2.s.N),true,false,[]⟩]
 |52=> [⟨Rd,λ_=>(.tup []),λx _=>(Q130 (Q84 3 1 6 0 0 x.f x.e) (Q80 6 (length x.s.C) 7 (length x.s.T) x.s.M x.s.L 8<|length x.s.N) .gone (.mapz<|NM x.s.N 0) (CR x.s.C) (TR x.s.T)<|NR x.s.N),true,false,[]⟩]
 |54=> [⟨List Int,λ_=>(.tup []),λx H=>List.set H 0<|Q27<|IR x,true,true,[]⟩]
 |57|103|106|113=> [⟨Tm×Bool,λx=>(Q120 (cT x.1) x.2),λ_ H=>H,true,false,[]⟩]
 |67=> [⟨Int×List Int×Int×Int×Int×Int×Int×Int×Wk,λx=>(Q114 (Q111 x.1 1 (IR x.2.1) x.2.2.1 x.2.2.2.1 x.2.2.2.2.1 x.2.2.2.2.2.1 x.2.2.2.2.2.2.1) x.2.2.2.2.2.2.2.1),λx _=>(Q89 (Q98 3 1 6 0 0 10 2 0 x.2.2.2.2.2.2.2.2.n x.2.2.2.2.2.2.2.2.f) (Q80 7 (length x.2.2.2.2.2.2.2.2.s.C) 8 (length x.2.2.2.2.2.2.2.2.s.T) x.2.2.2.2.2.2.2.2.s.M x.2.2.2.2.2.2.2.2.s.L 9<|length x.2.2.2.2.2.2.2.2.s.N) .gone .gone (.mapz<|NM x.2.2.2.2.2.2.2.2.s.N 0) .gone (Q35<|CR x.2.2.2.2.2.2.2.2.s.C) (Q31<|TR x.2.2.2.2.2.2.2.2.s.T) (Q27<|NR x.2.2.2.2.2.2.2.2.s.N)<|Q116 x.2.2.2.2.2.2.2.2.R),true,false,[]⟩]
 |74=> [⟨Int×Int×Int,λx=>(Q24 x.1),λx H=>List.set H 0<|Q84 3 1 6 0 0 x.2.1 x.2.2,true,false,[]⟩]
 |75=> [⟨Int×Rd,λx=>(Q24 x.1),λx H=> [(getD H 0 .gone),(Q84 3 2 6 0 0 x.2.f x.2.e),(Q52 8 (length x.2.s.C) 9 (length x.2.s.T) x.2.s.M x.2.s.L 10 (length x.2.s.N) 6),.gone,.gone,.gone,(.mapz<|NM x.2.s.N 0),(getD H 7 .gone),(Q35<|CR x.2.s.C),(Q31<|TR x.2.s.T),(Q27<|NR x.2.s.N)],true,false,[0,7]⟩]
 |85=> [⟨Int×List Int×Int×Int×Hp,λx=>(.tup [Q76<|Q123 x.1<|Q20 1<|IR x.2.1,Q38 x.2.2.1,Q38 x.2.2.2.1]),λx _=>(Q86 (Q52 5 (length x.2.2.2.2.C) 6 (length x.2.2.2.2.T) x.2.2.2.2.M x.2.2.2.2.L 7 (length x.2.2.2.2.N) 4) .gone .gone .gone (NM x.2.2.2.2.N 0) (Q35<|CR x.2.2.2.2.C) (Q31<|TR x.2.2.2.2.T)<|Q27<|NR x.2.2.2.2.N),true,false,[]⟩]
 |86=> [⟨Int×Int×Wk,λx=>(Q60 x.1 x.2.1),λx _=>(Q89 (Q98 3 1 6 0 0 10 2 0 x.2.2.n x.2.2.f) (Q80 7 (length x.2.2.s.C) 8 (length x.2.2.s.T) x.2.2.s.M x.2.2.s.L 9<|length x.2.2.s.N) .gone .gone (.mapz<|NM x.2.2.s.N 0) .gone (Q35<|CR x.2.2.s.C) (Q31<|TR x.2.2.s.T) (Q27<|NR x.2.2.s.N)<|Q116 x.2.2.R),true,false,[]⟩]
 |87=> [⟨List Tm×Int×Wk,λx=>(Q45 (Q11<|Q145 4<|FTs x.1) x.2.1),λx _=>(Q89 (Q98 3 1 6 0 0 10 2 0 x.2.2.n x.2.2.f) (Q80 7 (length x.2.2.s.C) 8 (length x.2.2.s.T) x.2.2.s.M x.2.2.s.L 9<|length x.2.2.s.N) .gone .gone (.mapz<|NM x.2.2.s.N 0) .gone (Q35<|CR x.2.2.s.C) (Q31<|TR x.2.2.s.T) (Q27<|NR x.2.2.s.N)<|Q116 x.2.2.R),true,false,[]⟩]
 |90|91|102|105=> [⟨Tm×Int×Wk,λx=>(Q114 (cT x.1) x.2.1),λx _=>(Q89 (Q98 3 1 6 0 0 10 2 0 x.2.2.n x.2.2.f) (Q80 7 (length x.2.2.s.C) 8 (length x.2.2.s.T) x.2.2.s.M x.2.2.s.L 9<|length x.2.2.s.N) .gone .gone (.mapz<|NM x.2.2.s.N 0) .gone (Q35<|CR x.2.2.s.C) (Q31<|TR x.2.2.s.T) (Q27<|NR x.2.2.s.N)<|Q116 x.2.2.R),true,false,[]⟩]
 |93=> [⟨Int×Int×Int×Int×Int×Bool×Int×Int,λx=>(Q120 (Q72 x.1 x.2.1 x.2.2.1 x.2.2.2.1 x.2.2.2.2.1) x.2.2.2.2.2.1),λx H=>List.set H 0<|Q84 3 1 6 0 0 x.2.2.2.2.2.2.1 x.2.2.2.2.2.2.2,true,false,[]⟩]
 |_=> []
abbrev VQ (l:List<|Nat×List Nat)(f m:Nat)(r:TV)(H:LA)(p:Nat)(s:St):Prop:=vcP rc sh l f m (λr0 Hs0=>TV.Le r0 r/\Hs0=H) (RPt rc f m r H) p s
abbrev VE (l:List<|Nat×List Nat)(f m:Nat)(r:TV)(H:LA)(a:List TV)(h:LA):Prop:=vcE rc sh l f a h (λr0 Hs0=>TV.Le r0 r/\Hs0=H)<|RPt rc f m r H
theorem acv {lv:LV} {f:FuncId} {args:List TV} {Hs Hs':LA} {r:TV} {X:Prop} (e:vcE rc sh lv f args Hs (λr0 Hs0=>TV.Le r0 r/\Hs0=Hs') (RPt rc f Hs.length r Hs')=X) (h:X)
  (h1:Hs.length<=Hs'.length:=by first|exact r6 _|simp) (h2:∀x∈Hs,isLive x:=by simp[isLive,moO]) (h3:∀x∈Hs'.drop Hs.length,isLive x:=by simp[isLive,moO]):AC rc f args Hs r Hs':=AC.vc hP sh lv h1 h2 h3<|Eq.mpr e h
theorem rpv {lv:LV}{f m:Nat}{Hs':LA}{r:TV}{p:Nat}{s:St}{X:Prop}(e:vcP rc sh lv f m (λr0 Hs0=>TV.Le r0 r/\Hs0=Hs') (RPt rc f m r Hs') p s=X)(h:X):RPt rc f m r Hs' p s:=RPt.vc hP sh lv<|Eq.mpr e h
def lv3:LV:=[]
abbrev w3_0 (a:List Int×Bool×Hp)(b:Bool)(r:TV)(Hs':LA):Prop:=(br (!a.2.1) (Q66 b [] r Hs')<|((FV.L 1 (Q8 1<|IR a.1)=true)/\((0<=(0:Int))/\(((0:Int)<(length (IR a.1):Int))/\(([(Q42<|FV.I<|getD (getD (IR a.1) 0 []) 0 FV.N)]:List FV)=(getD (IR a.1) 0 [])))))/\(((FV.L 1 (Q8 1<|IR a.1)=true)/\((0<=(1:Int))/\(((1:Int)<(length (IR a.1):Int))/\(([(Q42<|FV.I<|getD (getD (IR a.1) 1 []) 0 FV.N)]:List FV)=(getD (IR a.1) 1 [])))))/\(∃z5:Int×Int×Hp,((Q10 8 [Q43 0 6 0 0,Q24<|FV.I<|getD (getD (IR a.1) 0 []) 0 FV.N,Q24<|FV.I<|getD (getD (IR a.1) 1 []) 0 FV.N,Q24 5000] (hOb a.2.2 []) (Q60 z5.1 z5.2.1)<|hSb z5.2.2 [])/\(br (z5.2.1 !=0) (Q66 b [] r Hs')<|((FV.L 1 (Q8 1<|IR a.1)=true)/\((0<=(0:Int))/\(((0:Int)<(length (IR a.1):Int))/\(([(Q42<|FV.I<|getD (getD (IR a.1) 0 []) 0 FV.N)]:List FV)=(getD (IR a.1) 0 [])))))/\(∃z6:Tm×Int×Int×Hp,((Q124 9 0 6 0 0 (Q24<|FV.I<|getD (getD (IR a.1) 0 []) 0 FV.N) (Q24 5000) (hOb z5.2.2 []) (.tup [Q76<|cT z6.1,Q38 z6.2.1,Q38 z6.2.2.1])<|hSb z6.2.2.2 [])/\(((FV.L 1 (Q8 1<|IR a.1)=true)/\((0<=(1:Int))/\(((1:Int)<(length (IR a.1):Int))/\(([(Q42<|FV.I<|getD (getD (IR a.1) 1 []) 0 FV.N)]:List FV)=(getD (IR a.1) 1 [])))))/\(∃z7:Tm×Int×Int×Hp,((Q124 9 0 6 0 0 (Q24<|FV.I<|getD (getD (IR a.1) 1 []) 0 FV.N) (Q24 5000) (hOb z6.2.2.2 []) (.tup [Q76<|cT z7.1,Q38 z7.2.1,Q38 z7.2.2.1])<|hSb z7.2.2.2 [])/\(br (z6.2.2.1 !=0) (Q66 b [] r Hs')<|br (z7.2.2.1 !=0) (Q66 b [] r Hs') (∃b8:Bool,((Q103 10 [(aT z6.1),(aT z7.1)] b8)/\(((FV.L 1 (Q8 1<|IR a.1)=true)/\((0<=(0:Int))/\(((0:Int)<(length (IR a.1):Int))/\(([(Q42<|FV.I<|getD (getD (IR a.1) 0 []) 0 FV.N)]:List FV)=(getD (IR a.1) 0 [])))))/\(((FV.L 1 (Q8 1<|IR a.1)=true)/\((0<=(1:Int))/\(((1:Int)<(length (IR a.1):Int))/\(([(Q42<|FV.I<|getD (getD (IR a.1) 1 []) 0 FV.N)]:List FV)=(getD (IR a.1) 1 [])))))/\(∃z9:Int×Int×Hp,((Q10 8 [Q43 0 6 0 0,Q24<|FV.I<|getD (getD (IR a.1) 0 []) 0 FV.N,Q24<|FV.I<|getD (getD (IR a.1) 1 []) 0 FV.N,Q24 20000] (hOb z7.2.2.2 []) (Q60 z9.1 z9.2.1)<|hSb z9.2.2 [])/\(((FV.L 1 (Q8 1<|IR a.1)=true)/\((0<=(0:Int))/\(((0:Int)<(length (IR a.1):Int))/\(([(Q42<|FV.I<|getD (getD (IR a.1) 0 []) 0 FV.N)]:List FV)=(getD (IR a.1) 0 [])))))/\(∃z10:Tm×Int×Int×Hp,((Q124 9 0 6 0 0 (Q24<|FV.I<|getD (getD (IR a.1) 0 []) 0 FV.N) (Q24 5000) (hOb z9.2.2 []) (.tup [Q76<|cT z10.1,Q38 z10.2.1,Q38 z10.2.2.1])<|hSb z10.2.2.2 [])/\(∃b11:Bool,((Q103 10 [(aT z6.1),(aT z10.1)] b11)/\(br b (br b8 (br (z9.2.1==0) (br (z10.2.2.1==0) (Q66 b11 [] r Hs')<|Q90 [] r Hs')<|br (z9.2.1==80) (br (z10.2.2.1==0) (Q66 b11 [] r Hs')<|Q90 [] r Hs')<|Q90 [] r Hs')<|Q90 [] r Hs')<|Q90 [] r Hs')))))))))))))))))))))))
theorem v3 (a:RW)(e:Int)(f:LU)(g:Int)(n:RW)(h:Int)(i:LU)(j:Int)(o:RW)(r:TV)(l:LA):let A:=Q8 4 n;let B:=Q8 4 o;VE lv3 3 0 r l [Q101 1 a,Q78 e f g 4 n,Q78 h i j 4 o] []=
  (∃p:Bool,let D:=Q66 p [] r l;Q103 4 [] p/\br (!p) (Q90 [] r l) (((4:Nat)=4/\2<=2)/\∃q:Bool,Q103 5 [Q101 4 [[(Q42 e),(.str f),(Q42 g),A],[(Q42 h),(.str i),(Q42 j),B]]] q/\(true=true)/\br q D ((FV.L 1 (Q8 1 a)=true)/\br (decide (((length a:Int):Int)>(8:Int))) D ((∃m:Hp×Sto,Q95 6 [Q101 1 a] (.tup [Q11<|Q141 0 6,Q11<|Q141 5 2,Q11 [Q4<|.z0 true]]) (hOb m.1 [Q9 2 [Q3 6 6 0<|length m.2.V,Q3 7 1 0<|length m.2.T],.arz 6<|SR m.2.V,Q27<|IR m.2.T])/\∃k:List Int×Bool×Hp,Q124 7 0 6 0 0 (.c<|Q3 5 4 0 2) (.c<|Q4<|.z0 true) (hOb m.1 [.arz 4 [[(Q42 e),(.str f),(Q42 g),A],[(Q42 h),(.str i),(Q42 j),B]]]) (Q97 (Q11<|Q145 1<|IR k.1)<|Q119 k.2.1) (Q130 (Q52 6 (length k.2.2.C) 7 (length k.2.2.T) k.2.2.M k.2.2.L 8 (length k.2.2.N) 4) .gone (.mapz<|NM k.2.2.N 0) (.arz 4 [[(Q42 e),(.str f),(Q42 g),A],[(Q42 h),(.str i),(Q42 j),B]]) (CR k.2.2.C) (TR k.2.2.T)<|NR k.2.2.N)/\w3_0 k p r l)\/(∃d:Hp×Sto×List Int,let E:=length d.2.2;let F:=IR d.2.2;Q95 6 [Q101 1 a] (.tup [Q11<|Q141 0 6,Q11<|Q141 5 2,Q11 [Q3 8 1 0 E]]) (hOb d.1 [Q9 2 [Q3 6 6 0<|length d.2.1.V,Q3 7 1 0<|length d.2.1.T],.arz 6<|SR d.2.1.V,Q27<|IR d.2.1.T,Q27 F])/\∃b:List Int×Bool×Hp,Q124 7 0 6 0 0 (.c<|Q3 5 4 0 2) (.c<|Q3 6 1 0 E) (hOb d.1 [.arz 4 [[(Q42 e),(.str f),(Q42 g),A],[(Q42 h),(.str i),(Q42 j),B]],Q27 F]) (Q97 (Q11<|Q145 1<|IR b.1)<|Q119 b.2.1) [Q52 7 (length b.2.2.C) 8 (length b.2.2.T) b.2.2.M b.2.2.L 9 (length b.2.2.N) 4,.gone,.gone,.gone,.mapz<|NM b.2.2.N 0,.arz 4 [[(Q42 e),(.str f),(Q42 g),A],[(Q42 h),(.str i),(Q42 j),B]],Q27 F,Q35<|CR b.2.2.C,Q31<|TR b.2.2.T,Q27<|NR b.2.2.N]/\w3_0 b p r l))))):=zh
theorem v4  (r:TV) (a:LA):VE lv3 4 0 r a [] []=
  (∃m:Hp,((Q95 11 [Q24 100,Q24 100] (Q43 0 6 0 0)<|hOb m [])/\(∃f:Int×Int×Hp,((Q122 12 0 6 0 0 0 (hOb m []) (Q60 f.1 f.2.1)<|hSb f.2.2 [])/\(((4:Nat)=4/\1<=1)/\(∃n:Tm,((Q96 15 [.agg<|Q74 4 [] 0,Q101 4 [[(Q42 3),(.str []),(Q42 0),.N]]]<|aT n)/\(∃o:Tm,((Q96 14 [Q24 1,(aT n)]<|aT o)/\(∃d:(Int×Int)×Hp,((Q124 13 0 6 0 0 (aT o) (.c<|Q3 5 1 0 1) (hOb f.2.2 [Q27 [[(Q42 f.1)]]]) (Q60 d.1.1 d.1.2)<|Q130 (Q52 6 (length d.2.C) 7 (length d.2.T) d.2.M d.2.L 8 (length d.2.N) 4) .gone (.mapz<|NM d.2.N 0) (Q27 [[(Q42 f.1)]]) (CR d.2.C) (TR d.2.T)<|NR d.2.N)/\(((4:Nat)=4/\2<=2)/\(∃p:Tm,((Q96 15 [.agg<|Q74 0 [102] 0,Q101 4 [[(Q42 3),(.str []),(Q42 0),.N],[(Q42 3),(.str []),(Q42 0),.N]]]<|aT p)/\(∃q:Tm,((Q96 14 [Q24 1,(aT p)]<|aT q)/\(∃h:(Int×Int)×Hp,((Q124 13 0 6 0 0 (aT q) (.c Q39) (hOb d.2 []) (Q60 h.1.1 h.1.2)<|hSb h.2 [])/\(∃i:Int×Int×Hp,((Q10 8 [Q43 0 6 0 0,Q24 d.1.1,Q24 h.1.1,Q24 100] (hOb h.2 []) (Q60 i.1 i.2.1)<|hSb i.2.2 [])/\(∃b:Tm×Int×Int×Hp,((Q124 9 0 6 0 0 (Q24 f.1) (Q24 100) (hOb i.2.2 []) (.tup [Q76<|cT b.1,Q38 b.2.1,Q38 b.2.2.1])<|hSb b.2.2.2 [])/\(∃e:(Int×Int)×Hp,((Q124 13 0 6 0 0 (.agg<|Q74 0 [107] 0) (.c Q39) (hOb b.2.2.2 []) (Q60 e.1.1 e.1.2)<|hSb e.2 [])/\(∃g:Int×Int×Hp,((Q10 8 [Q43 0 6 0 0,Q24 f.1,Q24 e.1.1,Q24 100] (hOb e.2 []) (Q60 g.1 g.2.1)<|hSb g.2.2 [])/\(((4:Nat)=4/\2<=2)/\(∃j:Tm,((Q96 15 [.agg<|Q74 0 [102] 0,Q101 4 [[(Q42 3),(.str []),(Q42 0),.N],[(Q42 3),(.str []),(Q42 0),.N]]]<|aT j)/\(∃k:Tm,((Q96 14 [Q24 1,(aT j)]<|aT k)/\(∃l:Bool,((Q103 10 [(aT b.1),(aT k)] l)/\(br (f.2.1==0) (br (d.1.2==0) (br (h.1.2==0) (br (i.2.1==0) (br (b.2.2.1==0) (br (e.1.2==0) (br l (Q66 (g.2.1==170) [] r a)<|Q90 [] r a)<|Q90 [] r a)<|Q90 [] r a)<|Q90 [] r a)<|Q90 [] r a)<|Q90 [] r a)<|Q90 [] r a)))))))))))))))))))))))))))))))))):=zg
def lv5:LV:=[(1,[0,3])]
theorem v5 (l:RW)(r:TV)(a:LA):VE lv5 5 0 r a [Q101 4 l] []=
  ((FV.L 4 (Q8 4 l)=true)/\br (decide (((length l:Int):Int)>(6:Int))) (Q66 true [] r a) (Q81 5 0 r a 1 [Q65 0 4 l,Q23 3 0] [] 0)):=zg
theorem v5_1a (c:RW)(b:Int)(r:TV)(a:LA):let A:=FV.L 4 (Q8 4 c)=true;let B:=(length c:Int);let C:=getD c (toNat b) [];let D:=A/\(0<=b)/\(b<B)/\(((rE C):List FV)=C);let E:=Q66 true [] r a;VQ lv5 5 0 r a 1 ⟨[Q65 0 4 c,Q23 3 b],[],0⟩=
  (A/\br (decide ((b:Int)<B)) (D/\∃d:Bool,Q103 16 [(aE C),Q24 24] d/\D/\∃e:Bool,Q103 17 [(aE C),Q24 1000] e/\br d E (br (!e) E<|Q81 5 0 r a 1 [Q65 0 4 c,Q23 3<|wrap .i64<|b+1] [] 0)) (Q90 [] r a)):=zh
def lv6:LV:=[(1,[0,5,6,7,8])]
theorem v6 (a:RW)(r:TV)(b:LA):VE lv6 6 0 r b [Q101 1 a] []=
  (∃c:Hp,Q95 11 [Q24 1000000,Q24 1000000] (Q43 0 6 0 0) (hOb c [])/\Q81 6 0 r b 1 [Q65 0 1 a,Q64 5 0 6,Q64 6 5 2,Q6 7<|Q4<|.z0 true,Q23 8 0] (numO 0<|hOb c [Q9 2 [Q3 6 6 0 0,Q3 7 1 0 0],.arz 6 [],Q27 []]) 8):=zg
theorem v6_1a (k:RW)(j:Int)(b c:Nat)(f g:Int)(a:Nat)(n o p:RW)(m:List MapZ)(d e:Nat)(q s:RW)(r:TV)(i:LA):let A:=FV.L 1 (Q8 1 k)=true;let B:=(length k:Int);let C:=getD k (toNat j) [];let D:=FV.I (getD C 0 FV.N);let E:=A/\(0<=j)/\(j<B)/\(([(Q42 D)]:List FV)=C);VQ lv6 6 0 r i 1 ⟨[Q65 0 1 k,Q64 5 0 6,Q64 6 5 2,Q6 7<|Q4<|.z0 true,Q23 8 j],[(0,Q52 1 b 2 c f g 3 a 4),Q137 1 n,Q126 2 o,Q113 3 p,Q61 4 m,Q34 5 2 [Q3 6 6 0 d,Q3 7 1 0 e],Q12 6 6 q,Q113 7 s],8⟩=
  (A/\br (decide ((j:Int)<B)) (E/\∃l:Int×Int×Hp,Q122 12 0 6 0 0 D (Q62 1 b 2 c f g 3 a 4 n o p m) (Q60 l.1 l.2.1) (hSb l.2.2 [])/\(1<=1)/\zS 1 8/\E/\∃h:Int×Sto,Q122 18 0 2 0 0 D [Q9 2 [Q3 1 6 0 d,Q3 2 1 0 e],.arz 6 q,Q27 s] (Q24 h.1) [Q9 2 [Q3 3 6 0<|length h.2.V,Q3 4 1 0<|length h.2.T],.gone,.gone,.arz 6<|SR h.2.V,Q27<|IR h.2.T]/\Q81 6 0 r i 1 [Q65 0 1 k,Q64 5 0 6,Q64 6 5 2,Q93 7 8 1 0 1,Q23 8<|wrap .i64<|j+1] (numO 0<|hOb l.2.2 [Q9 2 [Q3 6 6 0<|length h.2.V,Q3 7 1 0<|length h.2.T],.arz 6<|SR h.2.V,Q27<|IR h.2.T,Q27 [[(Q42 l.1)]]]) 9) (RT (.tup [Q11<|Q141 0 6,Q11<|Q141 5 2,Q11 [Q4<|.z0 true]]) (Q86 (Q52 1 b 2 c f g 3 a 4) (Q35 n) (Q31 o) (Q27 p) m (Q9 2 [Q3 6 6 0 d,Q3 7 1 0 e]) (.arz 6 q)<|Q27 s) r i)):=zh
theorem v6_1b (l:RW)(f:Nat)(k:Int)(b c:Nat)(g h:Int)(a:Nat)(p q s:RW)(o:List MapZ)(d e:Nat)(t u n:RW)(r:TV)(j:LA):let A:=FV.L 1 (Q8 1 l)=true;let B:=(length l:Int);let C:=getD l (toNat k) [];let D:=FV.I (getD C 0 FV.N);let E:=A/\(0<=k)/\(k<B)/\(([(Q42 D)]:List FV)=C);VQ lv6 6 0 r j 1 ⟨[Q65 0 1 l,Q64 5 0 6,Q64 6 5 2,Q93 7 8 1 0 f,Q23 8 k],[(0,Q52 1 b 2 c g h 3 a 4),Q137 1 p,Q126 2 q,Q113 3 s,Q61 4 o,Q34 5 2 [Q3 6 6 0 d,Q3 7 1 0 e],Q12 6 6 t,Q113 7 u,Q113 8 n],9⟩=
  (A/\br (decide ((k:Int)<B)) (E/\∃m:Int×Int×Hp,Q122 12 0 6 0 0 D (Q62 1 b 2 c g h 3 a 4 p q s o) (Q60 m.1 m.2.1) (hSb m.2.2 [])/\(1<=1)/\(f<=(length n)/\zS (f+1) 8)/\E/\∃i:Int×Sto,Q122 18 0 2 0 0 D [Q9 2 [Q3 1 6 0 d,Q3 2 1 0 e],.arz 6 t,Q27 u] (Q24 i.1) [Q9 2 [Q3 3 6 0<|length i.2.V,Q3 4 1 0<|length i.2.T],.gone,.gone,.arz 6<|SR i.2.V,Q27<|IR i.2.T]/\Q81 6 0 r j 1 [Q65 0 1 l,Q64 5 0 6,Q64 6 5 2,Q93 7 8 1 0<|f+1,Q23 8<|wrap .i64<|k+1] (numO 0<|hOb m.2.2 [Q9 2 [Q3 6 6 0<|length i.2.V,Q3 7 1 0<|length i.2.T],.arz 6<|SR i.2.V,Q27<|IR i.2.T,Q27<|(take f n)++[[(Q42 m.1)]]]) 9) (RT (.tup [Q11<|Q141 0 6,Q11<|Q141 5 2,Q11 [Q3 8 1 0 f]]) [Q52 1 b 2 c g h 3 a 4,Q35 p,Q31 q,Q27 s,.mapz o,Q9 2 [Q3 6 6 0 d,Q3 7 1 0 e],.arz 6 t,Q27 u,Q27 n] r j)):=zh
def lv7:LV:=[(1,[0,1,2,8,9]),(1000001,[1,2,3])]
theorem v7 (j b d:Nat)(e f:Int)(a:Nat)(k l m:RW)(h:List MapZ)(i:RW)(r:TV)(g:LA):VE lv7 7 6 r g (Q85 0 6 0 0 (.c<|Q3 5 4 0 j)<|.c<|Q4<|.z0 true) [Q52 1 b 2 d e f 3 a 4,Q35 k,Q31 l,Q27 m,.mapz h,.arz 4 i]=
  (Q81 7 6 r g 1 [Q64 0 0 6,Q93 1 5 4 0 j,Q6 2<|Q4<|.z0 true,Q105 8,Q23 9 0] [(0,Q52 6 b 7 d e f 8 a 4),Q22 1,Q133,Q134,Q61 4 h,Q12 5 4 i,Q137 6 k,Q126 7 l,Q113 8 m] 9):=zg
theorem v7_1a (h:Nat)(j:Int)(d e:Nat)(f g:Int)(b:Nat)(l:List MapZ)(k m n o:RW)(r:TV)(i:LA):let A:=Q4 (.z0 true);let B:=0+(toNat j);let D:=getD k B [];VQ lv7 7 6 r i 1 ⟨[Q64 0 0 6,Q93 1 5 4 0 h,Q6 2 A,Q105 8,Q23 9 j],[(0,Q52 6 d 7 e f g 8 b 4),Q22 1,Q133,Q134,Q61 4 l,Q12 5 4 k,Q137 6 m,Q126 7 n,Q113 8 o],9⟩=
  (br (decide ((j:Int)<(h:Int))) ((0<=j/\j<(h:Int))/\((B<(length k))/\(((rE D):List FV)=(take 4<|drop 0 D))/\((4:Nat)=4))/\∃a:(Int×Int)×Hp,Q124 13 0 6 0 0 (aE D) (.c A) (Q62 1 d 2 e f g 3 b 4 m n o l) (Q60 a.1.1 a.1.2) (hSb a.2 [])/\br (a.1.2 !=0) (RT (Q97 (Q11 [Q39])<|Q119 false) (Q130 (Q52 6 (length a.2.C) 7 (length a.2.T) a.2.M a.2.L 8 (length a.2.N) 4) .gone (.mapz<|NM a.2.N 0) (.arz 4 k) (CR a.2.C) (TR a.2.T)<|NR a.2.N) r i) ((1<=1)/\zS 1 8/\Q81 7 6 r i 1 [Q64 0 0 6,Q93 1 5 4 0 h,Q6 2 A,Q93 8 9 1 0 1,Q23 9<|wrap .i64<|j+1] [(0,Q52 6 (length a.2.C) 7 (length a.2.T) a.2.M a.2.L 8 (length a.2.N) 4),Q22 1,Q133,Q134,Q61 4<|NM a.2.N 0,Q12 5 4 k,Q137 6<|CR a.2.C,Q126 7<|TR a.2.T,Q113 8<|NR a.2.N,Q113 9 [[(Q42 a.1.1)]]] 10))<|RT (Q97 (Q11 [Q39])<|Q119 true) (Q130 (Q52 6 d 7 e f g 8 b 4) .gone (.mapz l) (.arz 4 k) m n o) r i):=zh
theorem v7_1b (j d:Nat)(k:Int)(e f:Nat)(g h:Int)(b:Nat)(n:List MapZ)(l o p q m:RW)(r:TV)(i:LA):let A:=Q4 (.z0 true);let B:=0+(toNat k);let D:=getD l B [];VQ lv7 7 6 r i 1 ⟨[Q64 0 0 6,Q93 1 5 4 0 j,Q6 2 A,Q93 8 9 1 0 d,Q23 9 k],[(0,Q52 6 e 7 f g h 8 b 4),Q22 1,Q133,Q134,Q61 4 n,Q12 5 4 l,Q137 6 o,Q126 7 p,Q113 8 q,Q113 9 m],10⟩=
  (br (decide ((k:Int)<(j:Int))) ((0<=k/\k<(j:Int))/\((B<(length l))/\(((rE D):List FV)=(take 4<|drop 0 D))/\((4:Nat)=4))/\∃a:(Int×Int)×Hp,Q124 13 0 6 0 0 (aE D) (.c A) (Q62 1 e 2 f g h 3 b 4 o p q n) (Q60 a.1.1 a.1.2) (hSb a.2 [])/\br (a.1.2 !=0) (RT (Q97 (Q11 [Q39])<|Q119 false) (Q130 (Q52 6 (length a.2.C) 7 (length a.2.T) a.2.M a.2.L 8 (length a.2.N) 4) .gone (.mapz<|NM a.2.N 0) (.arz 4 l) (CR a.2.C) (TR a.2.T)<|NR a.2.N) r i) ((1<=1)/\(d<=(length m)/\zS (d+1) 8)/\Q81 7 6 r i 1 [Q64 0 0 6,Q93 1 5 4 0 j,Q6 2 A,Q93 8 9 1 0<|d+1,Q23 9<|wrap .i64<|k+1] [(0,Q52 6 (length a.2.C) 7 (length a.2.T) a.2.M a.2.L 8 (length a.2.N) 4),Q22 1,Q133,Q134,Q61 4<|NM a.2.N 0,Q12 5 4 l,Q137 6<|CR a.2.C,Q126 7<|TR a.2.T,Q113 8<|NR a.2.N,Q113 9<|(take d m)++[[(Q42 a.1.1)]]] 10))<|((1:Nat)=1/\(0+d)<=(length m))/\RT (Q97 (Q11<|Q145 1<|take d<|drop 0 m)<|Q119 true) (Q130 (Q52 6 e 7 f g h 8 b 4) .gone (.mapz n) (.arz 4 l) o p q) r i):=zh
def lv8:LV:=[(1000001,[1,2,3])]
theorem v8 (a b c:Int)(e f:Nat)(i j:Int)(d:Nat)(l m n:RW)(k:List MapZ)(r:TV)(h:LA):let A:=Q62 1 e 2 f i j 3 d 4 l m n k;let B:=(1:Nat)=1/\1<=1;VE lv8 8 5 r h [Q43 0 6 0 0,Q24 a,Q24 b,Q24 c] A=
  (B/\B/\∃g:Int×Int×Hp,Q10 19 [Q43 0 6 0 0,Q101 1 [[(Q42 a)]],Q101 1 [[(Q42 b)]],Q24 c] A (Q60 g.1 g.2.1) (hSb g.2.2 [])/\Q100 g.1 g.2.1 (hSb g.2.2 []) r h):=zh
theorem v9 (a h:Int)(c d:Nat)(i j:Int)(b:Nat)(n o p:RW)(l:List MapZ)(r:TV)(k:LA):VE lv8 9 5 r k (Q85 0 6 0 0 (Q24 a)<|Q24 h) (Q62 1 c 2 d i j 3 b 4 n o p l)=
  (∃g:Tm×Rd,Q122 20 0 3 0 0 a (Q144 3 1 6 0 0 h 0 2 c 3 d i j 4 b n o p l) (aT g.1) (rSb g.2 [])/\br ((g.2.e:Int) !=(0:Int)) (RT (.tup [Q76<|Q74 0 [] 0,Q38 0,Q38 g.2.e]) (hSb g.2.s []) r k) (∃m:Tm,Q96 21 [(aT g.1)] (aT m)/\RT (.tup [Q76<|cT m,Q38 g.2.f,Q38 0]) (hSb g.2.s []) r k)):=zg
def lv10:LV:=[(1,[2,3,5])]
theorem v10 (c:Int)(d:LU)(e:Int)(a:RW)(f:Int)(g:LU)(h:Int)(b:RW)(r:TV)(i:LA):let A:=Q90 [] r i;VE lv10 10 0 r i [Q78 c d e 4 a,Q78 f g h 4 b] []=
  (br (c !=f) A<|br (!((d:LU)==g)) A<|br (e !=h) A<|(FV.L 4 (Q8 4 a)=true)/\(FV.L 4 (Q8 4 b)=true)/\br (((length a:Int):Int) !=(length b:Int)) A (Q81 10 0 r i 1 [Q115 2 0,Q115 3 1,Q23 5 0] [Q34 0 4<|Q59 c d e 4 a,Q34 1 4<|Q59 f g h 4 b] 2)):=zh
theorem v10_1a (d j:Int)(e:LU)(f:Int)(a:RW)(g:Int)(h:LU)(i:Int)(b:RW)(r:TV)(c:LA):let A:=Q59 j e f 4 a;let B:=Q59 g h i 4 b;let C:=FV.L 4 (Q8 4 a)=true;let D:=(length a:Int);let E:=getD a (toNat d) [];let F:=getD b (toNat d) [];VQ lv10 10 0 r c 1 ⟨[Q115 2 0,Q115 3 1,Q23 5 d],[Q34 0 4 A,Q34 1 4 B],2⟩=
  (C/\br (decide ((d:Int)<D)) ((C/\(0<=d)/\(d<D)/\(((rE E):List FV)=E))/\((FV.L 4 (Q8 4 b)=true)/\(0<=d)/\(d<(length b:Int))/\(((rE F):List FV)=F))/\∃k:Bool,Q103 10 [(aE E),(aE F)] k/\br (!k) (Q90 [] r c) (Q81 10 0 r c 1 [Q115 2 0,Q115 3 1,Q23 5<|wrap .i64<|d+1] [Q34 0 4 A,Q34 1 4 B] 2)) (Q66 true [] r c)):=zh
theorem v7_i1 (j b d e:Nat)(f g:Int)(a:Nat)(k l m:RW)(i:List MapZ)(n o:RW)(r:TV)(h:LA):VE lv7 7 7 r h (Q85 0 6 0 0 (.c<|Q3 5 4 0 j)<|.c<|Q3 6 1 0<|b+1) [Q52 1 d 2 e f g 3 a 4,Q35 k,Q31 l,Q27 m,.mapz i,.arz 4 n,Q27 o]=
  (Q81 7 7 r h 1 [Q64 0 0 6,Q93 1 5 4 0 j,Q93 2 6 1 0<|b+1,Q105 8,Q23 9 0] [(0,Q52 7 d 8 e f g 9 a 4),Q22 1,Q133,Q134,Q61 4 i,Q12 5 4 n,Q113 6 o,Q137 7 k,Q126 8 l,Q113 9 m] 10):=zg
theorem cA (i j:Nat)(k:Int)(d e:Nat)(f g:Int)(b:Nat)(n:List MapZ)(l m o p q:RW)(r:TV)(h:LA):let A:=0+(toNat k);let B:=getD l A [];VQ lv7 7 7 r h 1 ⟨[Q64 0 0 6,Q93 1 5 4 0 i,Q93 2 6 1 0 j,Q105 8,Q23 9 k],[(0,Q52 7 d 8 e f g 9 b 4),Q22 1,Q133,Q134,Q61 4 n,Q12 5 4 l,Q113 6 m,Q137 7 o,Q126 8 p,Q113 9 q],10⟩=
  (br (decide ((k:Int)<(i:Int))) ((0<=k/\k<(i:Int))/\((A<(length l))/\(((rE B):List FV)=(take 4<|drop 0 B))/\((4:Nat)=4))/\∃a:(Int×Int)×Hp,let D:=length a.2.C;let E:=length a.2.T;let F:=length a.2.N;let G:=NM a.2.N 0;let H:=CR a.2.C;let I:=TR a.2.T;let J:=NR a.2.N;Q124 13 0 6 0 0 (aE B) (.c<|Q3 5 1 0 j) [Q52 1 d 2 e f g 3 b 4,Q35 o,Q31 p,Q27 q,.mapz n,Q27 m] (Q60 a.1.1 a.1.2) (Q130 (Q52 6 D 7 E a.2.M a.2.L 8 F 4) .gone (.mapz G) (Q27 m) H I J)/\br (a.1.2 !=0) (RT (Q97 (Q11 [Q39])<|Q119 false) [Q52 7 D 8 E a.2.M a.2.L 9 F 4,.gone,.gone,.gone,.mapz G,.arz 4 l,Q27 m,Q35 H,Q31 I,Q27 J] r h) ((1<=1)/\zS 1 8/\Q81 7 7 r h 1 [Q64 0 0 6,Q93 1 5 4 0 i,Q93 2 6 1 0 j,Q93 8 10 1 0 1,Q23 9<|wrap .i64<|k+1] [(0,Q52 7 D 8 E a.2.M a.2.L 9 F 4),Q22 1,Q133,Q134,Q61 4 G,Q12 5 4 l,Q113 6 m,Q137 7 H,Q126 8 I,Q113 9 J,Q113 10 [[(Q42 a.1.1)]]] 11))<|RT (Q97 (Q11 [Q39])<|Q119 true) [Q52 7 d 8 e f g 9 b 4,.gone,.gone,.gone,.mapz n,.arz 4 l,Q27 m,Q35 o,Q31 p,Q27 q] r h):=zh
theorem bD (k l d:Nat)(m:Int)(e f:Nat)(g h:Int)(b:Nat)(p:List MapZ)(n o q s t i:RW)(r:TV)(j:LA):let A:=0+(toNat m);let B:=getD n A [];VQ lv7 7 7 r j 1 ⟨[Q64 0 0 6,Q93 1 5 4 0 k,Q93 2 6 1 0 l,Q93 8 10 1 0 d,Q23 9 m],[(0,Q52 7 e 8 f g h 9 b 4),Q22 1,Q133,Q134,Q61 4 p,Q12 5 4 n,Q113 6 o,Q137 7 q,Q126 8 s,Q113 9 t,Q113 10 i],11⟩=
  (br (decide ((m:Int)<(k:Int))) ((0<=m/\m<(k:Int))/\((A<(length n))/\(((rE B):List FV)=(take 4<|drop 0 B))/\((4:Nat)=4))/\∃a:(Int×Int)×Hp,let D:=length a.2.C;let E:=length a.2.T;let F:=length a.2.N;let G:=NM a.2.N 0;let H:=CR a.2.C;let I:=TR a.2.T;let J:=NR a.2.N;Q124 13 0 6 0 0 (aE B) (.c<|Q3 5 1 0 l) [Q52 1 e 2 f g h 3 b 4,Q35 q,Q31 s,Q27 t,.mapz p,Q27 o] (Q60 a.1.1 a.1.2) (Q130 (Q52 6 D 7 E a.2.M a.2.L 8 F 4) .gone (.mapz G) (Q27 o) H I J)/\br (a.1.2 !=0) (RT (Q97 (Q11 [Q39])<|Q119 false) [Q52 7 D 8 E a.2.M a.2.L 9 F 4,.gone,.gone,.gone,.mapz G,.arz 4 n,Q27 o,Q35 H,Q31 I,Q27 J] r j) ((1<=1)/\(d<=(length i)/\zS (d+1) 8)/\Q81 7 7 r j 1 [Q64 0 0 6,Q93 1 5 4 0 k,Q93 2 6 1 0 l,Q93 8 10 1 0<|d+1,Q23 9<|wrap .i64<|m+1] [(0,Q52 7 D 8 E a.2.M a.2.L 9 F 4),Q22 1,Q133,Q134,Q61 4 G,Q12 5 4 n,Q113 6 o,Q137 7 H,Q126 8 I,Q113 9 J,Q113 10<|(take d i)++[[(Q42 a.1.1)]]] 11))<|((1:Nat)=1/\(0+d)<=(length i))/\RT (Q97 (Q11<|Q145 1<|take d<|drop 0 i)<|Q119 true) [Q52 7 e 8 f g h 9 b 4,.gone,.gone,.gone,.mapz p,.arz 4 n,Q27 o,Q35 q,Q31 s,Q27 t] r j):=zh
theorem v11 (a b:Int)(r:TV)(c:LA):VE lv3 11 0 r c [Q24 a,Q24 b] []=
  (RT (Q43 0 6 0 0) (Q62 1 0 2 0 (zO [(zE [a,(0:Int)]),(1048576:Int)]) (zO [(zE [b,(0:Int)]),(1048576:Int)]) 3 0 4 [] [] [] []) r c):=zg
theorem v12 (a:Int)(c d:Nat)(g h:Int)(b:Nat)(j k l:RW)(i:List MapZ)(r:TV)(f:LA):let A:=Q62 1 c 2 d g h 3 b 4 j k l i;VE lv8 12 5 r f (Q68 0 6 0 0<|Q24 a) A=
  (∃e:(Int×Int)×Hp,Q75 22 0 6 0 0 (Q91 4 (zE [a,(0:Int)]) 0 0 0) A (Q60 e.1.1 e.1.2) (hSb e.2 [])/\Q100 e.1.1 e.1.2 (hSb e.2 []) r f):=zh
theorem v15 (b:Int)(e:LU)(f:Int)(d a:RW)(r:TV)(c:LA):let A:=Q8 4 a;let B:=Q8 4 d;let C:=(1:Nat)=1/\2<=2;let D:=((4:Nat)=4/\1<=1)/\C/\∃g:List Tm,Q96 25 [Q101 1 [[(Q8 4 [[(Q42 b),(.str e),(Q42 f),B]])],[A]]] (Q101 4<|FTs g)/\RT (Q78 6 [] 0 4<|FTs g) [] r c;VE lv3 15 0 r c [Q78 b e f 4 d,Q101 4 a] []=
  ((FV.L 4 A=true)/\br (((length a:Int):Int)==(0:Int)) (RT (Q78 b e f 4 d) [] r c) (br (b==6) ((FV.L 4 B=true)/\br (decide (((length d:Int):Int)>(0:Int))) (C/\∃h:List Tm,Q96 25 [Q101 1 [[B],[A]]] (Q101 4<|FTs h)/\RT (Q78 6 [] 0 4<|FTs h) [] r c) D) D)):=zh
def lv14:LV:=[(1,[3,4,6,7])]
theorem v14 (n e:Int)(a:LU)(b:Int)(c:RW)(r:TV)(d:LA):VE lv14 14 0 r d [Q24 n,Q78 e a b 4 c] []=
  (Q81 14 0 r d 1 (Q132 (Q115 3 0) (Q115 4 1) 6 (zE [n,(0:Int)]) 7 0) [Q34 0 4<|Q59 e a b 4 c,Q131 1 4 0 [] 0] 2):=zg
theorem lg (i j d:Int)(a:LU)(b:Int)(c:RW)(e:Int)(f:LU)(g:Int)(r:TV)(h:LA):VQ lv14 14 0 r h 1 ⟨Q132 (Q115 3 0) (Q115 4 1) 6 i 7 j,[Q34 0 4<|Q59 d a b 4 c,Q131 1 4 e f g],2⟩=
  (br (decide (j<i)) (((4:Nat)=4/\1<=1)/\Q81 14 0 r h 1 (Q132 (Q115 3 0) (Q115 4 1) 6 i 7<|wrap .i64<|j+1) [Q34 0 4<|Q59 5 [] 0 4 [[(Q42 d),(.str a),(Q42 b),(Q8 4 c)]],Q131 1 4 e f g] 2)<|RT (Q78 d a b 4 c) [] r h):=zg
theorem v13 (j:Int)(k:LU)(l:Int)(m:RW)(i a e:Nat)(f g:Int)(d:Nat)(p q s:RW)(o:List MapZ)(n:RW)(r:TV)(h:LA):let A:=Q78 j k l 4 m;let B:=Q3 5 1 0 (i+1);VE lv8 13 6 r h (Q85 0 6 0 0 A<|.c B) [Q52 1 a 2 e f g 3 d 4,Q35 p,Q31 q,Q27 s,.mapz o,Q27 n]=
  (∃t:Bool,Q103 23 [Q78 j k l 4 m] t/\br (!t) (Q100 0 1 (Q130 (Q52 6 a 7 e f g 8 d 4) .gone (.mapz o) (Q27 n) p q s) r h) (∃b:(Int×Int)×Hp,let D:=Q130 (Q52 6 (length b.2.C) 7 (length b.2.T) b.2.M b.2.L 8 (length b.2.N) 4) .gone (.mapz<|NM b.2.N 0) (Q27 n) (CR b.2.C) (TR b.2.T) (NR b.2.N);Q124 24 0 6 0 0 A (.c B) [Q52 1 a 2 e f g 3 d 4,Q35 p,Q31 q,Q27 s,.mapz o,Q27 n] (Q60 b.1.1 b.1.2) D/\br (b.1.2 !=0) (((0<=(0:Int))/\((0:Int)<=(a:Int))/\((a:Int)<=(((length b.2.C):Nat):Int)))/\Q100 0 b.1.2 (Q130 (Q52 6 (toNat (a:Int)) 7 (length b.2.T) b.2.M b.2.L 8 (length b.2.N) 4) .gone (.mapz<|NM b.2.N 0) (Q27 n) (CR b.2.C) (TR b.2.T)<|NR b.2.N) r h) (Q100 b.1.1 0 D r h))):=zh
theorem lU (i:Int)(j:LU)(k:Int)(l:RW)(a e:Nat)(g h:Int)(d:Nat)(o p q:RW)(m:List MapZ)(r:TV)(f:LA):let A:=Q78 i j k 4 l;let B:=Q62 1 a 2 e g h 3 d 4 o p q m;VE lv8 13 5 r f (Q85 0 6 0 0 A<|.c Q39) B=
  (∃n:Bool,Q103 23 [Q78 i j k 4 l] n/\br (!n) (Q100 0 1 (Q86 (Q52 5 a 6 e g h 7 d 4) .gone .gone .gone m (Q35 o) (Q31 p)<|Q27 q) r f) (∃b:(Int×Int)×Hp,Q124 24 0 6 0 0 A (.c Q39) B (Q60 b.1.1 b.1.2) (hSb b.2 [])/\br (b.1.2 !=0) (((0<=(0:Int))/\((0:Int)<=(a:Int))/\((a:Int)<=(((length b.2.C):Nat):Int)))/\Q100 0 b.1.2 (Q86 (Q52 5 (toNat (a:Int)) 6 (length b.2.T) b.2.M b.2.L 7 (length b.2.N) 4) .gone .gone .gone (NM b.2.N 0) (Q35<|CR b.2.C) (Q31<|TR b.2.T)<|Q27<|NR b.2.N) r f) (Q100 b.1.1 0 (hSb b.2 []) r f))):=zh
theorem v16 (b:Int)(c:LU)(d:Int)(e:RW)(a:Int)(r:TV)(f:LA):VE lv3 16 0 r f [Q78 b c d 4 e,Q24 a] []=
  (∃g:Int,Q96 26 [Q78 b c d 4 e,Q24 a] (Q24 g)/\Q66 (decide (g<0)) [] r f):=zg
def lv17:LV:=[(1,[1,2,5])]
theorem v17 (d:Int)(e:LU)(b:Int)(f:RW)(a:Int)(r:TV)(c:LA):let A:=Q81 17 0 r c 1 [Q23 1 a,Q115 2 0,Q23 5 0] [Q34 0 4<|Q59 d e b 4 f] 1;VE lv17 17 0 r c [Q78 d e b 4 f,Q24 a] []=
  (br (d !=2) (br (decide (b>a)) (Q90 [] r c)<|br (decide ((b:Int)<(wrap .i64<|0-a))) (Q90 [] r c) A) A):=zh
theorem v17_1a (g c f:Int)(d:LU)(e:Int)(a:RW)(r:TV)(b:LA):let A:=Q59 f d e 4 a;let B:=FV.L 4 (Q8 4 a)=true;let C:=(length a:Int);let D:=getD a (toNat c) [];VQ lv17 17 0 r b 1 ⟨[Q23 1 g,Q115 2 0,Q23 5 c],[Q34 0 4 A],1⟩=
  (B/\br (decide ((c:Int)<C)) ((B/\(0<=c)/\(c<C)/\(((rE D):List FV)=D))/\∃h:Bool,Q103 17 [(aE D),Q24 g] h/\br (!h) (Q90 [] r b) (Q81 17 0 r b 1 [Q23 1 g,Q115 2 0,Q23 5<|wrap .i64<|c+1] [Q34 0 4 A] 1)) (Q66 true [] r b)):=zh
def lv18:LV:=[(1000001,[1,2])]
theorem v18 (b:Int)(a c:Nat)(e f:RW)(r:TV)(d:LA):let A:=a+1;VE lv18 18 3 r d (Q68 0 2 0 0<|Q24 b) [Q9 2 [Q3 1 6 0 a,Q3 2 1 0 c],.arz 6 e,Q27 f]=
  ((1<=1)/\(a<=(length e)/\zS A 72)/\Q88 (wrap .i64<|((A:Nat):Int)-(1:Int)) [Q9 2 [Q3 3 6 0 A,Q3 4 1 0 c],.gone,.gone,.arz 6<|(take a e)++[[(Q42<|zE [b,(0:Int)]),(.bool false),(Q42 0),(.str []),(Q42 0),.N]],Q27 f] r d):=zh
theorem lR (i:Int)(j:LU)(k:Int)(l:RW)(a e:Nat)(g h:Int)(d:Nat)(o p q:RW)(m:List MapZ)(r:TV)(f:LA):let A:=Q78 i j k 4 l;let B:=Q62 1 a 2 e g h 3 d 4 o p q m;VE lv8 13 5 r f (Q85 0 6 0 0 A<|.c<|Q4<|.z0 true) B=
  (∃n:Bool,Q103 23 [Q78 i j k 4 l] n/\br (!n) (Q100 0 1 (Q86 (Q52 5 a 6 e g h 7 d 4) .gone .gone .gone m (Q35 o) (Q31 p)<|Q27 q) r f) (∃b:(Int×Int)×Hp,Q124 24 0 6 0 0 A (.c<|Q4<|.z0 true) B (Q60 b.1.1 b.1.2) (hSb b.2 [])/\br (b.1.2 !=0) (((0<=(0:Int))/\((0:Int)<=(a:Int))/\((a:Int)<=(((length b.2.C):Nat):Int)))/\Q100 0 b.1.2 (Q86 (Q52 5 (toNat (a:Int)) 6 (length b.2.T) b.2.M b.2.L 7 (length b.2.N) 4) .gone .gone .gone (NM b.2.N 0) (Q35<|CR b.2.C) (Q31<|TR b.2.T)<|Q27<|NR b.2.N) r f) (Q100 b.1.1 0 (hSb b.2 []) r f))):=zh
def lv19:LV:=[(1,[4,5,6,11,12,38]),(1000001,[1,2,3])]
theorem v19 (a b:RW)(i:Int)(e f:Nat)(g h:Int)(d:Nat)(l m n:RW)(k:List MapZ)(r:TV)(j:LA):let A:=Q62 1 e 2 f g h 3 d 4 l m n k;let B:=Q100 0 1 (Q86 (Q52 5 e 6 f g h 7 d 4) .gone .gone .gone k (Q35 l) (Q31 m)<|Q27 n) r j;let C:=Q92 (Q142 1 1 6) 2 e 3 f g h 4 d l m n k;VE lv19 19 5 r j [Q43 0 6 0 0,Q101 1 a,Q101 1 b,Q24 i] A=
  ((FV.L 1 (Q8 1 a)=true)/\(FV.L 1 (Q8 1 b)=true)/\br (((length a:Int):Int) !=(length b:Int)) B (∃o:Bool,Q10 29 [Q101 1 a,.c<|.fn (.func 27) [] [(false,[(.ep 0 1 0 0)])]] C (Q41 o) C/\br o B (∃p:Bool,Q10 29 [Q101 1 b,.c<|.fn (.func 27) [] [(false,[(.ep 0 1 0 0)])]] C (Q41 p) C/\br p B (∃n3 n4:Int,let D:=Q123 n3 (Q2 n4);Q10 30 [Q43 0 6 0 0] A (.agg D) A/\∃q:RW,Q95 31 [Q101 1 a] (.c<|.fn (.func 46) [] [(false,[(.ep 0 1 0 0)])]) [Q9 1<|Q145 1 q]/\Q81 19 5 r j 1 (Q94 4 8 1 (Q64 5 9 1) (Q64 6 10 1) (Q64 11 11 2) (Q64 12 12 1)<|Q6 38<|.fn (.func 46) [] [(false,[(.ep 14 1 0 0)])]) [(0,Q52 5 e 6 f g h 7 d 4),Q22 1,Q133,Q134,Q61 4 k,Q137 5 l,Q126 6 m,Q113 7 n,Q34 8 1<|Q141 0 6,Q34 9 1<|Q145 1 a,Q34 10 1<|Q145 1 b,Q34 11 2 D,Q34 12 1<|Q141 13 3,Q87 13 3 0 6 0 0 Q39 i,Q34 14 1<|Q145 1 q] 15)))):=zh
theorem v19_1an (a b:Nat)(i j:Int)(c:Nat)(l:List MapZ)(m n o k d:RW)(e f g:Int)(h:RW)(K:St->Prop):prepV 15 [5,6,7] [4,5,6,11,12,38] K ⟨Q94 4 8 1 (Q64 5 9 1) (Q64 6 10 1) (Q64 11 11 2) (Q64 12 12 1)<|Q6 38<|.fn (.func 46) [] [(false,[(.ep 14 1 0 0)])],[(0,Q52 5 a 6 b i j 7 c 4),Q22 1,Q133,Q134,Q61 4 l,Q137 5 m,Q126 6 n,Q113 7 o,Q34 8 1<|Q141 0 6,Q34 9 1<|Q145 1 k,Q34 10 1<|Q145 1 d,Q34 11 2<|Q123 e<|Q2 f,Q34 12 1<|Q141 13 3,Q87 13 3 0 6 0 0 Q39 g,Q34 14 1<|Q145 1 h],15⟩=
  (K ⟨Q94 4 8 1 (Q64 5 9 1) (Q64 6 10 1) (Q64 11 11 2) (Q64 12 12 1)<|Q6 38<|.fn (.func 46) [] [(false,[(.ep 14 1 0 0)])],[(0,Q52 15 a 16 b i j 17 c 4),Q22 1,Q133,Q134,Q61 4 l,Q22 5,Q22 6,Q22 7,Q34 8 1<|Q141 0 6,Q34 9 1<|Q145 1 k,Q34 10 1<|Q145 1 d,Q34 11 2<|Q123 e<|Q2 f,Q34 12 1<|Q141 13 3,Q87 13 3 0 6 0 0 Q39 g,Q34 14 1<|Q145 1 h,Q137 15 m,Q126 16 n,Q113 17 o],18⟩):=zg
theorem v19_1ara (d e:Nat)(l m:Int)(f:Nat)(q:List MapZ)(b a:RW)(g h i:Int)(j n o p:RW)(k v:Int)(R:AHeap->Nat->Prop):vcR rc sh 19 15 [5,6,7] 1 [(4,(Q43 8 1 0 0)),(5,(Q43 9 1 0 0)),(6,(Q43 10 1 0 0)),(11,(Q43 11 2 0 0)),(12,(Q43 12 1 0 0)),(38,(.c<|.fn (.func 46) [] [(false,[(.ep 14 1 0 0)])]))] k (Q24 v) [(0,(Q52 15 d 16 e l m 17 f 4)),(1,.gone),(2,.gone),(3,.gone),(4,(.mapz q)),(5,.gone),(6,.gone),(7,.gone),(8,(Q142 1 0 6)),(9,(Q9 1<|Q145 1 b)),(10,(Q9 1<|Q145 1 a)),(11,(Q9 2<|Q123 g<|Q2 h)),(12,(Q142 1 13 3)),(13,(Q54 3 0 6 0 0 Q39 i)),(14,(Q9 1<|Q145 1 j)),(15,(Q35 n)),(16,(Q31 o)),(17,(Q27 p))] 18 R=
  (((FV.L 1 (Q8 1 b)=true)/\((0<=k)/\((k<(length b:Int))/\(([(Q42<|FV.I<|getD (getD b (toNat k) []) 0 FV.N)]:List FV)=(getD b (toNat k) [])))))/\(((FV.L 1 (Q8 1 a)=true)/\((0<=k)/\((k<(length a:Int))/\(([(Q42<|FV.I<|getD (getD a (toNat k) []) 0 FV.N)]:List FV)=(getD a (toNat k) [])))))/\((1<=1)/\((zS 1 16)/\(R [(0,(Q52 15 d 16 e l m 17 f 4)),(1,.gone),(2,.gone),(3,.gone),(4,(.mapz q)),(5,.gone),(6,.gone),(7,.gone),(8,(Q142 1 0 6)),(9,(Q9 1<|Q145 1 b)),(10,(Q9 1<|Q145 1 a)),(11,(Q9 2<|Q123 g<|Q2 h)),(12,(Q142 1 13 3)),(13,(Q98 3 0 6 0 0 18 2 0 1 i)),(14,(Q9 1<|Q145 1 j)),(15,(Q35 n)),(16,(Q31 o)),(17,(Q27 p)),(18,(Q116 [[(Q42<|FV.I<|getD (getD b (toNat k) []) 0 FV.N),(Q42<|FV.I<|getD (getD a (toNat k) []) 0 FV.N)]]))] 19))))):=zg
theorem v19_1aza (b c:Nat)(j k:Int)(d:Nat)(t:List MapZ)(n l:RW)(e g h:Int)(m o p q:RW)(r:TV)(i:LA):vcA rc sh lv19 19 5 (λr0 Hs0=>TV.Le r0 r/\Hs0=i) (RPt rc 19 5 r i) 1 ⟨Q94 4 8 1 (Q64 5 9 1) (Q64 6 10 1) (Q64 11 11 2) (Q64 12 12 1)<|Q6 38<|.fn (.func 46) [] [(false,[(.ep 14 1 0 0)])],[(0,Q52 15 b 16 c j k 17 d 4),Q22 1,Q133,Q134,Q61 4 t,Q22 5,Q22 6,Q22 7,Q34 8 1<|Q141 0 6,Q34 9 1<|Q145 1 n,Q34 10 1<|Q145 1 l,Q34 11 2<|Q123 e<|Q2 g,Q34 12 1<|Q141 13 3,Q87 13 3 0 6 0 0 Q39 h,Q34 14 1<|Q145 1 m,Q137 15 o,Q126 16 p,Q113 17 q],18⟩=
  (∃a:Int×Wk,((Q10 32 [Q43 0 3 0 0] (Q92 (Q54 3 1 6 0 0 Q39 h) 2 b 3 c j k 4 d o p q t) (Q24 a.1)<|Q130 (Q54 3 1 6 0 0 Q39 a.2.f) (Q80 6 (length a.2.s.C) 7 (length a.2.s.T) a.2.s.M a.2.s.L 8<|length a.2.s.N) .gone (.mapz<|NM a.2.s.N 0) (CR a.2.s.C) (TR a.2.s.T)<|NR a.2.s.N)/\(br (a.1 !=0) (∃u:Hp,((Q75 33 0 6 0 0 (.agg<|Q123 e<|Q2 g) (hOb a.2.s []) (.tup [])<|hSb u [])/\(Q100 0 a.1 (hSb u []) r i)))<|Q100 a.2.f 0 (hSb a.2.s []) r i))):=zg
theorem v19_1arb (e f:Nat)(m n:Int)(g:Nat)(s:List MapZ)(d a:RW)(h i:Int)(b:Nat)(j:Int)(l p q r o:RW)(k v:Int)(R:AHeap->Nat->Prop):vcR rc sh 19 15 [5,6,7] 1 [(4,(Q43 8 1 0 0)),(5,(Q43 9 1 0 0)),(6,(Q43 10 1 0 0)),(11,(Q43 11 2 0 0)),(12,(Q43 12 1 0 0)),(38,(.c<|.fn (.func 46) [] [(false,[(.ep 14 1 0 0)])]))] k (Q24 v) [(0,(Q52 15 e 16 f m n 17 g 4)),(1,.gone),(2,.gone),(3,.gone),(4,(.mapz s)),(5,.gone),(6,.gone),(7,.gone),(8,(Q142 1 0 6)),(9,(Q9 1<|Q145 1 d)),(10,(Q9 1<|Q145 1 a)),(11,(Q9 2<|Q123 h<|Q2 i)),(12,(Q142 1 13 3)),(13,(Q98 3 0 6 0 0 18 2 0 b j)),(14,(Q9 1<|Q145 1 l)),(15,(Q35 p)),(16,(Q31 q)),(17,(Q27 r)),(18,(Q116 o))] 19 R=
  (((FV.L 1 (Q8 1 d)=true)/\((0<=k)/\((k<(length d:Int))/\(([(Q42<|FV.I<|getD (getD d (toNat k) []) 0 FV.N)]:List FV)=(getD d (toNat k) [])))))/\(((FV.L 1 (Q8 1 a)=true)/\((0<=k)/\((k<(length a:Int))/\(([(Q42<|FV.I<|getD (getD a (toNat k) []) 0 FV.N)]:List FV)=(getD a (toNat k) [])))))/\((1<=1)/\((b<=(length o)/\zS (b+1) 16)/\(R [(0,(Q52 15 e 16 f m n 17 g 4)),(1,.gone),(2,.gone),(3,.gone),(4,(.mapz s)),(5,.gone),(6,.gone),(7,.gone),(8,(Q142 1 0 6)),(9,(Q9 1<|Q145 1 d)),(10,(Q9 1<|Q145 1 a)),(11,(Q9 2<|Q123 h<|Q2 i)),(12,(Q142 1 13 3)),(13,(Q98 3 0 6 0 0 18 2 0 (b+1) j)),(14,(Q9 1<|Q145 1 l)),(15,(Q35 p)),(16,(Q31 q)),(17,(Q27 r)),(18,(Q116<|(take b o)++[[(Q42<|FV.I<|getD (getD d (toNat k) []) 0 FV.N),(Q42<|FV.I<|getD (getD a (toNat k) []) 0 FV.N)]]))] 19))))):=zg
theorem v19_1azb (b c:Nat)(j k:Int)(d:Nat)(v:List MapZ)(o l:RW)(e g:Int)(a:Nat)(h:Int)(m p q t u:RW)(r:TV)(i:LA):vcA rc sh lv19 19 5 (λr0 Hs0=>TV.Le r0 r/\Hs0=i) (RPt rc 19 5 r i) 1 ⟨Q94 4 8 1 (Q64 5 9 1) (Q64 6 10 1) (Q64 11 11 2) (Q64 12 12 1)<|Q6 38<|.fn (.func 46) [] [(false,[(.ep 14 1 0 0)])],[(0,Q52 15 b 16 c j k 17 d 4),Q22 1,Q133,Q134,Q61 4 v,Q22 5,Q22 6,Q22 7,Q34 8 1<|Q141 0 6,Q34 9 1<|Q145 1 o,Q34 10 1<|Q145 1 l,Q34 11 2<|Q123 e<|Q2 g,Q34 12 1<|Q141 13 3,Q87 13 3 0 6 0 0 (Q3 18 2 0 a) h,Q34 14 1<|Q145 1 m,Q137 15 p,Q126 16 q,Q113 17 t,Q12 18 2 u],19⟩=
  (∃n:Int×Wk,((Q10 32 [Q43 0 3 0 0] (Q125 (Q98 3 1 6 0 0 6 2 0 a h) (Q80 2 b 3 c j k 4 d) p q t v u) (Q24 n.1)<|wSb n.2 [])/\(br (n.1 !=0) (∃w:Hp,((Q75 33 0 6 0 0 (.agg<|Q123 e<|Q2 g) (hOb n.2.s []) (.tup [])<|hSb w [])/\(Q100 0 n.1 (hSb w []) r i)))<|Q100 n.2.f 0 (hSb n.2.s []) r i))):=zg
def lv20:LV:=[(3,[0,4,8,71,72,73]),(1000001,[2,3,4])]
theorem v20 (a i j:Int)(f g:Nat)(k l:Int)(d:Nat)(q t u:RW)(o:List MapZ)(r:TV)(b:LA):let A:=Q144 3 1 6 0 0 i j 2 f 3 g k l 4 d q t u o;let B:=Q74 0 [] 0;let C:=Q115 4 9;let D:=Q115 8 10;let E:=Q23 73 0;VE lv20 20 6 r b (Q68 0 3 0 0<|Q24 a) A=
  (∃c:Int×List Int×Rd,let F:=IR c.2.1;let G:=hOb c.2.2.s [];let H:=FV.L 1 (Q8 1 F)=true;let I:=Q94 0 0 3 C D (Q65 71 1 F) (Q23 72 (length F:Int)) E;Q122 34 0 3 0 0 a A (.agg<|Q123 c.1<|Q20 1 F) (rSb c.2.2 [])/\br ((c.2.2.e:Int) !=(0:Int)) (RT (.agg B) (rSb c.2.2 []) r b) (∃n2 n3:Int,∃n4 n5 n6:Int,∃p:Bool,Q122 28 0 6 0 0 c.1 G (Q120 (Q72 n2 n3 n4 n5 n6) p) G/\br (n2==6) (∃m:Tm×Rd,Q122 20 0 3 0 0 n3 (rOb c.2.2 []) (aT m.1) (rSb m.2 [])/\∃n:Tm,Q96 14 [Q24 1,(aT m.1)] (aT n)/\RT (aT n) (rSb m.2 []) r b) (br (n2==0) (∃h:LU,Q122 35 0 6 0 0 n3 G (Q143 h) G/\H/\Q81 20 6 r b 3 I (numO 0<|rSb c.2.2 [Q9 4 B,Q9 4<|Q74 0 h 0]) 11)<|br (n2==1) (H/\Q81 20 6 r b 3 I (numO 0<|rSb c.2.2 [Q9 4 B,Q9 4<|Q74 1 [] n3]) 11)<|br (n2==2) (H/\Q81 20 6 r b 3 I (numO 0<|rSb c.2.2 [Q9 4 B,Q9 4<|Q74 2 [] n3]) 11)<|br (n2==3) (H/\Q81 20 6 r b 3 I (numO 0<|rSb c.2.2 [Q9 4 B,Q9 4<|Q74 3 [] n3]) 11)<|br (n2==4) (H/\Q81 20 6 r b 3 I (numO 0<|rSb c.2.2 [Q9 4 B,Q9 4<|Q74 4 [] c.1]) 11)<|H/\Q81 20 6 r b 3 I (numO 0<|rSb c.2.2 [Q9 4 B,Q9 4 B]) 11))):=zh
theorem v20_3a (e:RW)(q d h i:Int)(b c:Nat)(j k:Int)(a:Nat)(t:List MapZ)(u v w:RW)(m:Int)(n:LU)(o l:Int)(f:LU)(g:Int)(r:TV)(p:LA):let A:=getD e (toNat d) [];let B:=FV.I (getD A 0 FV.N);let C:=Q74 l f g;VQ lv20 20 6 r p 3 ⟨Q94 0 0 3 (Q115 4 9) (Q115 8 10) (Q65 71 1 e) (Q23 72 q)<|Q23 73 d,[Q87 0 3 1 6 0 0 (Q2 h) i,Q99 1 6 b 7 c j k 8 a,Q133,Q134,Q22 4,Q61 5 t,Q137 6 u,Q126 7 v,Q113 8 w,Q131 9 4 m n o,Q131 10 4 l f g],11⟩=
  (br (decide (d<q)) (((FV.L 1 (Q8 1 e)=true)/\(0<=d)/\(d<(length e:Int))/\(([(Q42 B)]:List FV)=A))/\∃s:Tm×Rd,Q122 20 0 3 0 0 B (Q144 3 1 6 0 0 h i 2 b 3 c j k 4 a u v w t) (aT s.1) (rSb s.2 [])/\((4:Nat)=4/\1<=1)/\∃x:Tm,Q96 15 [.agg C,Q101 4 [(FT4 s.1)]] (aT x)/\Q81 20 6 r p 3 (Q94 0 0 3 (Q115 4 9) (Q115 8 10) (Q65 71 1 e) (Q23 72 q)<|Q23 73<|wrap .i64<|d+1) (numO 0<|rSb s.2 [Q9 4<|Q74 m n o,Q9 4<|cT x]) 11)<|RT (.agg C) (Q130 (Q84 3 1 6 0 0 h i) (Q80 6 b 7 c j k 8 a) .gone (.mapz t) u v w) r p):=zh
theorem v20_3b (i:RW)(s h j k:Int)(e f:Nat)(l m:Int)(a:Nat)(u:List MapZ)(v w x:RW)(n:Int)(o:LU)(p g:Int)(b:LU)(c:Int)(d:RW)(r:TV)(q:LA):let A:=getD i (toNat h) [];let B:=FV.I (getD A 0 FV.N);VQ lv20 20 6 r q 3 ⟨Q94 0 0 3 (Q115 4 9) (Q115 8 10) (Q65 71 1 i) (Q23 72 s)<|Q23 73 h,[Q87 0 3 1 6 0 0 (Q2 j) k,Q99 1 6 e 7 f l m 8 a,Q133,Q134,Q22 4,Q61 5 u,Q137 6 v,Q126 7 w,Q113 8 x,Q131 9 4 n o p,Q34 10 4<|Q59 g b c 4 d],11⟩=
  (br (decide (h<s)) (((FV.L 1 (Q8 1 i)=true)/\(0<=h)/\(h<(length i:Int))/\(([(Q42 B)]:List FV)=A))/\∃t:Tm×Rd,Q122 20 0 3 0 0 B (Q144 3 1 6 0 0 j k 2 e 3 f l m 4 a v w x u) (aT t.1) (rSb t.2 [])/\((4:Nat)=4/\1<=1)/\∃y:Tm,Q96 15 [Q78 g b c 4 d,Q101 4 [(FT4 t.1)]] (aT y)/\Q81 20 6 r q 3 (Q94 0 0 3 (Q115 4 9) (Q115 8 10) (Q65 71 1 i) (Q23 72 s)<|Q23 73<|wrap .i64<|h+1) (numO 0<|rSb t.2 [Q9 4<|Q74 n o p,Q9 4<|cT y]) 11)<|RT (Q78 g b c 4 d) (Q130 (Q84 3 1 6 0 0 j k) (Q80 6 e 7 f l m 8 a) .gone (.mapz u) v w x) r q):=zh
theorem v21 (a:Int)(b:LU)(c:Int)(d:RW)(r:TV)(e:LA):VE lv3 21 0 r e [Q78 a b c 4 d] []=
  (∃f:Bool,Q103 23 [Q78 a b c 4 d] f/\br (!f) (RT (Q78 a b c 4 d) [] r e) (∃g:Tm,Q96 36 [Q78 a b c 4 d] (aT g)/\RT (aT g) [] r e)):=zg
theorem v22 (g h i j k:Int)(a c:Nat)(d e:Int)(b:Nat)(l n o:RW)(m:List MapZ)(r:TV)(f:LA):let A:=Q91 g h i j k;let B:=Q62 1 a 2 c d e 3 b 4 l n o m;let C:=Q86 (Q52 5 a 6 c d e 7 b 4) .gone .gone .gone m (Q35 l) (Q31 n) (Q27 o);let D:=a+1;VE lv8 22 5 r f (Q68 0 6 0 0 A) B=
  (∃p:Bool,Q75 37 0 6 0 0 A B (Q41 p) B/\br (!p) (Q100 0 1 C r f) (br (decide (((a:Int):Int)>=d)) (Q100 0 200 C r f)<|(1<=1)/\(a<=(length l)/\zS D 40)/\Q100 (wrap .i64<|((D:Nat):Int)-(1:Int)) 0 (Q86 (Q52 5 D 6 c d e 7 b 4) .gone .gone .gone m (Q35<|(take a l)++[[(Q42 g),(Q42 h),(Q42 i),(Q42 j),(Q42 k)]]) (Q31 n)<|Q27 o) r f)):=zh
def lv25:LV:=[(1,[0,3,9,10,11]),(5,[6,25,26,27])]
theorem v25 (a:RW)(r:TV)(b:LA):VE lv25 25 0 r b [Q101 1 a] []=
  ((FV.L 1 (Q8 1 a)=true)/\Q81 25 0 r b 1 [Q65 0 1 a,Q23 3 0,Q65 9 1 a,Q23 10 (length a:Int),Q23 11 0] [] 0):=zg
theorem v25_1a (e:RW)(g:Int)(f:RW)(d a:Int)(r:TV)(b:LA):let A:=getD f (toNat a) [];let B:=getD A 0 FV.N;let C:=wrap .i64 (g+(((length<|FV.ses B):Nat):Int));let D:=FV.L 1 (Q8 1 e)=true;let E:=(length e:Int);VQ lv25 25 0 r b 1 ⟨[Q65 0 1 e,Q23 3 g,Q65 9 1 f,Q23 10 d,Q23 11 a],[],0⟩=
  (br (decide (a<d)) (((FV.L 1 (Q8 1 f)=true)/\(0<=a)/\(a<(length f:Int))/\(([B]:List FV)=A))/\(FV.L 4 B=true)/\br (decide (C<0)) False (Q81 25 0 r b 1 [Q65 0 1 e,Q23 3 C,Q65 9 1 f,Q23 10 d,Q23 11<|wrap .i64<|a+1] [] 0))<|(∃_:Unit,Q96 44 [.c Q39,Q24 g] (.c Q39)/\D/\Q81 25 0 r b 5 (Q132 (Q105 6) (Q65 25 1 e) 26 E 27 0) [] 0)\/(∃_:Unit,Q95 44 [.c Q39,Q24 g] (.c<|Q3 0 4 0 0) [.arz 4 []]/\D/\Q81 25 0 r b 5 (Q132 (Q93 6 0 4 0 0) (Q65 25 1 e) 26 E 27 0) [Q12 0 4 []] 1)):=zh
theorem v25_5a (b:RW)(e a:Int)(r:TV)(d:LA):let A:=Q65 25 1 b;let B:=getD b (toNat a) [];let C:=getD B 0 FV.N;let D:=FV.ses C;let E:=wrap .i64 (a+1);VQ lv25 25 0 r d 5 ⟨Q132 (Q105 6) A 26 e 27 a,[],0⟩=
  (br (decide (a<e)) (((FV.L 1 (Q8 1 b)=true)/\(0<=a)/\(a<(length b:Int))/\(([C]:List FV)=B))/\(FV.L 4 C=true)/\br (List.isEmpty D) (Q81 25 0 r d 5 (Q132 (Q105 6) A 26 e 27 E) [] 0) (zS (length D) 56/\Q81 25 0 r d 5 (Q132 (Q93 6 0 4 0<|length D) A 26 e 27 E) [Q12 0 4 D] 1))<|RT (.c Q39) [] r d):=zh
theorem v25_5b (a:Nat)(c:RW)(e b:Int)(f:RW)(r:TV)(d:LA):let A:=getD c (toNat b) [];let B:=getD A 0 FV.N;let C:=a+(length<|FV.ses B);VQ lv25 25 0 r d 5 ⟨Q132 (Q93 6 0 4 0 a) (Q65 25 1 c) 26 e 27 b,[Q12 0 4 f],1⟩=
  (br (decide (b<e)) (((FV.L 1 (Q8 1 c)=true)/\(0<=b)/\(b<(length c:Int))/\(([B]:List FV)=A))/\(FV.L 4 B=true)/\(a<=(length f)/\zS C 56)/\Q81 25 0 r d 5 (Q132 (Q93 6 0 4 0 C) (Q65 25 1 c) 26 e 27<|wrap .i64<|b+1) [Q12 0 4<|(take a f)++(FV.ses B)] 1)<|((4:Nat)=4/\(0+a)<=(length f))/\RT (Q101 4<|take a<|drop 0 f) [] r d):=zh
theorem v23 (a:Int)(e:LU)(b:Int)(d:RW)(r:TV)(f:LA):let A:=b==0;let B:=FV.L 4 (Q8 4 d)=true;let C:=(length d:Int);let D:=(C:Int);let E:=D==(0:Int);let F:=Q90 [] r f;let G:=br A (B/\Q66 E [] r f) F;let H:=(e:LU)==[];let I:=(∃g:Bool,Q103 40 [Q101 4 d,.c<|.fn (.func 41) [] []] g/\Q66 (!g) [] r f);let J:=br H (B/\br E I F) F;let K:=br (decide (b>=0)) (br (decide (b<=4611686018427387904)) J F) F;let L:=getD d 0 [];VE lv3 23 0 r f [Q78 a e b 4 d] []=
  (br (a==0) (∃h:Bool,Q103 38 [Q143 e] h/\br h G (∃i:Bool,Q103 39 [Q143 e] i/\br i G F))<|br (a==1) (br (decide (b>=1)) J F)<|br (a==2) J<|br (a==3) K<|br (a==4) K<|br (a==5) (br A (br H (B/\br (D==(1:Int)) I F) F) F)<|br (a==6) (br A (B/\br (decide (D>=(2:Int))) ((B/\(0<=(0:Int))/\((0:Int)<C)/\(((rE L):List FV)=L))/\B/\br ((FV.I<|getD L 0 FV.N) !=6) (br H (B/\br (D==C) I F) F) F) (B/\F))<|B/\F) F):=zh
def lv24:LV:=[(5,[0,2,8,89,90,91]),(1000001,[1,2,3])]
theorem v24 (i:Int)(x:LU)(p:Int)(q:RW)(s b d:Nat)(f g:Int)(a:Nat)(u v w:RW)(t:List MapZ)(o:RW)(r:TV)(h:LA):let A:=Q3 5 1 0 (s+1);let B:=Q62 1 b 2 d f g 3 a 4 u v w t;let D:=Int×Int;let E:=FV.L 4 (Q8 4 q)=true;let F:=(length q:Int);let G:=getD q 0 [];let H:=drop 1 (take (toNat F) q);VE lv24 24 6 r h (Q85 0 6 0 0 (Q78 i x p 4 q)<|.c A) [Q52 1 b 2 d f g 3 a 4,Q35 u,Q31 v,Q27 w,.mapz t,Q27 o]=
  (br (i==0) (∃y:Int×Hp,Q75 42 0 6 0 0 (Q143 x) B (Q24 y.1) (hSb y.2 [])/\∃j:(Int×Int)×Hp,Q75 22 0 6 0 0 (Q91 0 y.1 0 0 0) (hOb y.2 []) (Q60 j.1.1 j.1.2) (hSb j.2 [])/\Q100 j.1.1 j.1.2 (Q130 (Q52 6 (length j.2.C) 7 (length j.2.T) j.2.M j.2.L 8 (length j.2.N) 4) .gone (.mapz<|NM j.2.N 0) (Q27 o) (CR j.2.C) (TR j.2.T)<|NR j.2.N) r h)<|br (i==1) (∃k:(Int×Int)×Hp,Q75 22 0 6 0 0 (Q91 1 p 0 0 0) B (Q60 k.1.1 k.1.2) (hSb k.2 [])/\Q100 k.1.1 k.1.2 (Q130 (Q52 6 (length k.2.C) 7 (length k.2.T) k.2.M k.2.L 8 (length k.2.N) 4) .gone (.mapz<|NM k.2.N 0) (Q27 o) (CR k.2.C) (TR k.2.T)<|NR k.2.N) r h)<|br (i==2) (∃l:(Int×Int)×Hp,Q75 22 0 6 0 0 (Q91 2 p 0 0 0) B (Q60 l.1.1 l.1.2) (hSb l.2 [])/\Q100 l.1.1 l.1.2 (Q130 (Q52 6 (length l.2.C) 7 (length l.2.T) l.2.M l.2.L 8 (length l.2.N) 4) .gone (.mapz<|NM l.2.N 0) (Q27 o) (CR l.2.C) (TR l.2.T)<|NR l.2.N) r h)<|br (i==3) (∃m:(Int×Int)×Hp,Q75 22 0 6 0 0 (Q91 3 p 0 0 0) B (Q60 m.1.1 m.1.2) (hSb m.2 [])/\Q100 m.1.1 m.1.2 (Q130 (Q52 6 (length m.2.C) 7 (length m.2.T) m.2.M m.2.L 8 (length m.2.N) 4) .gone (.mapz<|NM m.2.N 0) (Q27 o) (CR m.2.C) (TR m.2.T)<|NR m.2.N) r h)<|br (i==4) (∃z:Int×Int,Q124 43 0 6 0 0 (Q24 p) (.c A) [Q52 1 b 2 d f g 3 a 4,Q35 u,Q31 v,Q27 w,.mapz t,Q27 o] (Q60 z.1 z.2) [Q52 1 b 2 d f g 3 a 4,Q35 u,Q31 v,Q27 w,.mapz t,Q27 o]/\Q100 z.1 z.2 (Q130 (Q52 6 b 7 d f g 8 a 4) .gone (.mapz t) (Q27 o) u v w) r h) ((E/\(0<=(0:Int))/\((0:Int)<F)/\(((rE G):List FV)=G))/\∃e:(Int×Int)×Hp,let I:=Q130 (Q52 6 (length e.2.C) 7 (length e.2.T) e.2.M e.2.L 8 (length e.2.N) 4) .gone (.mapz<|NM e.2.N 0) (Q27 o) (CR e.2.C) (TR e.2.T) (NR e.2.N);Q124 24 0 6 0 0 (aE G) (.c A) [Q52 1 b 2 d f g 3 a 4,Q35 u,Q31 v,Q27 w,.mapz t,Q27 o] (Q60 e.1.1 e.1.2) I/\br (e.1.2 !=0) (Q100 0 e.1.2 I r h) (br (i==5) (∃n:(Int×Int)×Hp,Q75 22 0 6 0 0 (Q91 6 e.1.1 0 0 0) (hOb e.2 []) (Q60 n.1.1 n.1.2) (hSb n.2 [])/\Q100 n.1.1 n.1.2 (Q130 (Q52 6 (length n.2.C) 7 (length n.2.T) n.2.M n.2.L 8 (length n.2.N) 4) .gone (.mapz<|NM n.2.N 0) (Q27 o) (CR n.2.C) (TR n.2.T)<|NR n.2.N) r h)<|E/\((0<=(1:Int))/\((1:Int)<=F)/\(F<=F))/\(FV.L 4 (Q8 4 H)=true)/\Q81 24 6 r h 5 (Q94 0 0 6 (Q93 2 5 1 0<|s+1) (Q23 8 e.1.1) (Q65 89 4 H) (Q23 90 (((length H):Nat):Int))<|Q23 91 0) [(0,Q52 6 (length e.2.C) 7 (length e.2.T) e.2.M e.2.L 8 (length e.2.N) 4),Q22 1,Q133,Q134,Q61 4<|NM e.2.N 0,Q113 5 o,Q137 6<|CR e.2.C,Q126 7<|TR e.2.T,Q113 8<|NR e.2.N] 9))):=zh
theorem v24_5a (n:Nat)(o:Int)(h:RW)(l g:Int)(e f:Nat)(j k:Int)(b:Nat)(p:List MapZ)(m q s t:RW)(r:TV)(i:LA):let A:=Q93 2 5 1 0 n;let B:=getD h (toNat g) [];VQ lv24 24 6 r i 5 ⟨Q94 0 0 6 A (Q23 8 o) (Q65 89 4 h) (Q23 90 l)<|Q23 91 g,[(0,Q52 6 e 7 f j k 8 b 4),Q22 1,Q133,Q134,Q61 4 p,Q113 5 m,Q137 6 q,Q126 7 s,Q113 8 t],9⟩=
  (br (decide (g<l)) (((FV.L 4 (Q8 4 h)=true)/\(0<=g)/\(g<(length h:Int))/\(((rE B):List FV)=B))/\∃d:(Int×Int)×Hp,let D:=Q130 (Q52 6 (length d.2.C) 7 (length d.2.T) d.2.M d.2.L 8 (length d.2.N) 4) .gone (.mapz<|NM d.2.N 0) (Q27 m) (CR d.2.C) (TR d.2.T) (NR d.2.N);Q124 24 0 6 0 0 (aE B) (.c<|Q3 5 1 0 n) [Q52 1 e 2 f j k 3 b 4,Q35 q,Q31 s,Q27 t,.mapz p,Q27 m] (Q60 d.1.1 d.1.2) D/\br (d.1.2 !=0) (Q100 0 d.1.2 D r i) (∃a:(Int×Int)×Hp,Q75 22 0 6 0 0 (Q91 7 o d.1.1 0 0) (hOb d.2 []) (Q60 a.1.1 a.1.2) (hSb a.2 [])/\br (a.1.2 !=0) (Q100 0 a.1.2 (Q130 (Q52 6 (length a.2.C) 7 (length a.2.T) a.2.M a.2.L 8 (length a.2.N) 4) .gone (.mapz<|NM a.2.N 0) (Q27 m) (CR a.2.C) (TR a.2.T)<|NR a.2.N) r i) (Q81 24 6 r i 5 (Q94 0 0 6 A (Q23 8 a.1.1) (Q65 89 4 h) (Q23 90 l)<|Q23 91<|wrap .i64<|g+1) [(0,Q52 6 (length a.2.C) 7 (length a.2.T) a.2.M a.2.L 8 (length a.2.N) 4),Q22 1,Q133,Q134,Q61 4<|NM a.2.N 0,Q113 5 m,Q137 6<|CR a.2.C,Q126 7<|TR a.2.T,Q113 8<|NR a.2.N] 9)))<|Q100 o 0 (Q130 (Q52 6 e 7 f j k 8 b 4) .gone (.mapz p) (Q27 m) q s t) r i):=zh
theorem v24_i1 (b:Int)(q:LU)(d:Int)(e:RW)(g h:Nat)(j k:Int)(f:Nat)(v w x:RW)(u:List MapZ)(r:TV)(a:LA):let A:=Q62 1 g 2 h j k 3 f 4 v w x u;let B:=Int×Int;let C:=FV.L 4 (Q8 4 e)=true;let D:=(length e:Int);let E:=getD e 0 [];let F:=drop 1 (take (toNat D) e);VE lv24 24 5 r a (Q85 0 6 0 0 (Q78 b q d 4 e)<|.c Q39) A=
  (br (b==0) (∃s:Int×Hp,Q75 42 0 6 0 0 (Q143 q) A (Q24 s.1) (hSb s.2 [])/\∃l:(Int×Int)×Hp,Q75 22 0 6 0 0 (Q91 0 s.1 0 0 0) (hOb s.2 []) (Q60 l.1.1 l.1.2) (hSb l.2 [])/\Q100 l.1.1 l.1.2 (hSb l.2 []) r a)<|br (b==1) (∃m:(Int×Int)×Hp,Q75 22 0 6 0 0 (Q91 1 d 0 0 0) A (Q60 m.1.1 m.1.2) (hSb m.2 [])/\Q100 m.1.1 m.1.2 (hSb m.2 []) r a)<|br (b==2) (∃n:(Int×Int)×Hp,Q75 22 0 6 0 0 (Q91 2 d 0 0 0) A (Q60 n.1.1 n.1.2) (hSb n.2 [])/\Q100 n.1.1 n.1.2 (hSb n.2 []) r a)<|br (b==3) (∃o:(Int×Int)×Hp,Q75 22 0 6 0 0 (Q91 3 d 0 0 0) A (Q60 o.1.1 o.1.2) (hSb o.2 [])/\Q100 o.1.1 o.1.2 (hSb o.2 []) r a)<|br (b==4) (∃t:Int×Int,Q124 43 0 6 0 0 (Q24 d) (.c Q39) A (Q60 t.1 t.2) A/\Q100 t.1 t.2 (Q86 (Q52 5 g 6 h j k 7 f 4) .gone .gone .gone u (Q35 v) (Q31 w)<|Q27 x) r a) ((C/\(0<=(0:Int))/\((0:Int)<D)/\(((rE E):List FV)=E))/\∃i:(Int×Int)×Hp,let G:=hSb i.2 [];Q124 24 0 6 0 0 (aE E) (.c Q39) A (Q60 i.1.1 i.1.2) G/\br (i.1.2 !=0) (Q100 0 i.1.2 G r a) (br (b==5) (∃p:(Int×Int)×Hp,Q75 22 0 6 0 0 (Q91 6 i.1.1 0 0 0) (hOb i.2 []) (Q60 p.1.1 p.1.2) (hSb p.2 [])/\Q100 p.1.1 p.1.2 (hSb p.2 []) r a)<|C/\((0<=(1:Int))/\((1:Int)<=D)/\(D<=D))/\(FV.L 4 (Q8 4 F)=true)/\Q81 24 5 r a 5 (Q94 0 0 6 (Q105 2) (Q23 8 i.1.1) (Q65 89 4 F) (Q23 90 (((length F):Nat):Int))<|Q23 91 0) (numO 0 G) 8))):=zh
theorem gT (m:Int)(f:RW)(k e:Int)(b d:Nat)(h i:Int)(a:Nat)(n:List MapZ)(o p q:RW)(r:TV)(g:LA):let A:=getD f (toNat e) [];VQ lv24 24 5 r g 5 ⟨Q94 0 0 6 (Q105 2) (Q23 8 m) (Q65 89 4 f) (Q23 90 k)<|Q23 91 e,[(0,Q52 5 b 6 d h i 7 a 4),Q22 1,Q133,Q134,Q61 4 n,Q137 5 o,Q126 6 p,Q113 7 q],8⟩=
  (br (decide (e<k)) (((FV.L 4 (Q8 4 f)=true)/\(0<=e)/\(e<(length f:Int))/\(((rE A):List FV)=A))/\∃j:(Int×Int)×Hp,Q124 24 0 6 0 0 (aE A) (.c Q39) (Q62 1 b 2 d h i 3 a 4 o p q n) (Q60 j.1.1 j.1.2) (hSb j.2 [])/\br (j.1.2 !=0) (Q100 0 j.1.2 (hSb j.2 []) r g) (∃l:(Int×Int)×Hp,let B:=hSb l.2 [];Q75 22 0 6 0 0 (Q91 7 m j.1.1 0 0) (hOb j.2 []) (Q60 l.1.1 l.1.2) B/\br (l.1.2 !=0) (Q100 0 l.1.2 B r g) (Q81 24 5 r g 5 (Q94 0 0 6 (Q105 2) (Q23 8 l.1.1) (Q65 89 4 f) (Q23 90 k)<|Q23 91<|wrap .i64<|e+1) (numO 0 B) 8)))<|Q100 m 0 (Q86 (Q52 5 b 6 d h i 7 a 4) .gone .gone .gone n (Q35 o) (Q31 p)<|Q27 q) r g):=zh
def lv26:LV:=[(1,[2,5,6])]
theorem v26 (b:Int)(c:LU)(d:Int)(e:RW)(a:Int)(r:TV)(f:LA):VE lv26 26 0 r f [Q78 b c d 4 e,Q24 a] []=
  (Q81 26 0 r f 1 [Q115 2 0,Q23 5<|wrap .i64<|a-1,Q23 6 0] [Q34 0 4<|Q59 b c d 4 e] 1):=zg
theorem v26_1a (g c f:Int)(d:LU)(e:Int)(a:RW)(r:TV)(b:LA):let A:=Q59 f d e 4 a;let B:=FV.L 4 (Q8 4 a)=true;let C:=(length a:Int);let D:=getD a (toNat c) [];let E:=Q88 g [] r b;VQ lv26 26 0 r b 1 ⟨[Q115 2 0,Q23 5 g,Q23 6 c],[Q34 0 4 A],1⟩=
  (B/\br (decide ((c:Int)<C)) (br (decide (g>=0)) ((B/\(0<=c)/\(c<C)/\(((rE D):List FV)=D))/\∃h:Int,Q96 26 [(aE D),Q24 g] (Q24 h)/\Q81 26 0 r b 1 [Q115 2 0,Q23 5 h,Q23 6<|wrap .i64<|c+1] [Q34 0 4 A] 1) E) E):=zh
theorem v24_i2 (b:Int)(q:LU)(d:Int)(e:RW)(g h:Nat)(j k:Int)(f:Nat)(v w x:RW)(u:List MapZ)(r:TV)(a:LA):let A:=Q4 (.z0 true);let B:=Q62 1 g 2 h j k 3 f 4 v w x u;let C:=Int×Int;let D:=FV.L 4 (Q8 4 e)=true;let E:=(length e:Int);let F:=getD e 0 [];let G:=drop 1 (take (toNat E) e);VE lv24 24 5 r a (Q85 0 6 0 0 (Q78 b q d 4 e)<|.c A) B=
  (br (b==0) (∃s:Int×Hp,Q75 42 0 6 0 0 (Q143 q) B (Q24 s.1) (hSb s.2 [])/\∃l:(Int×Int)×Hp,Q75 22 0 6 0 0 (Q91 0 s.1 0 0 0) (hOb s.2 []) (Q60 l.1.1 l.1.2) (hSb l.2 [])/\Q100 l.1.1 l.1.2 (hSb l.2 []) r a)<|br (b==1) (∃m:(Int×Int)×Hp,Q75 22 0 6 0 0 (Q91 1 d 0 0 0) B (Q60 m.1.1 m.1.2) (hSb m.2 [])/\Q100 m.1.1 m.1.2 (hSb m.2 []) r a)<|br (b==2) (∃n:(Int×Int)×Hp,Q75 22 0 6 0 0 (Q91 2 d 0 0 0) B (Q60 n.1.1 n.1.2) (hSb n.2 [])/\Q100 n.1.1 n.1.2 (hSb n.2 []) r a)<|br (b==3) (∃o:(Int×Int)×Hp,Q75 22 0 6 0 0 (Q91 3 d 0 0 0) B (Q60 o.1.1 o.1.2) (hSb o.2 [])/\Q100 o.1.1 o.1.2 (hSb o.2 []) r a)<|br (b==4) (∃t:Int×Int,Q124 43 0 6 0 0 (Q24 d) (.c A) B (Q60 t.1 t.2) B/\Q100 t.1 t.2 (Q86 (Q52 5 g 6 h j k 7 f 4) .gone .gone .gone u (Q35 v) (Q31 w)<|Q27 x) r a) ((D/\(0<=(0:Int))/\((0:Int)<E)/\(((rE F):List FV)=F))/\∃i:(Int×Int)×Hp,let H:=hSb i.2 [];Q124 24 0 6 0 0 (aE F) (.c A) B (Q60 i.1.1 i.1.2) H/\br (i.1.2 !=0) (Q100 0 i.1.2 H r a) (br (b==5) (∃p:(Int×Int)×Hp,Q75 22 0 6 0 0 (Q91 6 i.1.1 0 0 0) (hOb i.2 []) (Q60 p.1.1 p.1.2) (hSb p.2 [])/\Q100 p.1.1 p.1.2 (hSb p.2 []) r a)<|D/\((0<=(1:Int))/\((1:Int)<=E)/\(E<=E))/\(FV.L 4 (Q8 4 G)=true)/\Q81 24 5 r a 5 (Q94 0 0 6 (Q6 2 A) (Q23 8 i.1.1) (Q65 89 4 G) (Q23 90 (((length G):Nat):Int))<|Q23 91 0) (numO 0 H) 8))):=zh
theorem Kq (m:Int)(f:RW)(k e:Int)(b d:Nat)(h i:Int)(a:Nat)(n:List MapZ)(o p q:RW)(r:TV)(g:LA):let A:=Q6 2 (Q4<|.z0 true);let B:=getD f (toNat e) [];VQ lv24 24 5 r g 5 ⟨Q94 0 0 6 A (Q23 8 m) (Q65 89 4 f) (Q23 90 k)<|Q23 91 e,[(0,Q52 5 b 6 d h i 7 a 4),Q22 1,Q133,Q134,Q61 4 n,Q137 5 o,Q126 6 p,Q113 7 q],8⟩=
  (br (decide (e<k)) (((FV.L 4 (Q8 4 f)=true)/\(0<=e)/\(e<(length f:Int))/\(((rE B):List FV)=B))/\∃j:(Int×Int)×Hp,Q124 24 0 6 0 0 (aE B) (.c<|Q4<|.z0 true) (Q62 1 b 2 d h i 3 a 4 o p q n) (Q60 j.1.1 j.1.2) (hSb j.2 [])/\br (j.1.2 !=0) (Q100 0 j.1.2 (hSb j.2 []) r g) (∃l:(Int×Int)×Hp,let C:=hSb l.2 [];Q75 22 0 6 0 0 (Q91 7 m j.1.1 0 0) (hOb j.2 []) (Q60 l.1.1 l.1.2) C/\br (l.1.2 !=0) (Q100 0 l.1.2 C r g) (Q81 24 5 r g 5 (Q94 0 0 6 A (Q23 8 l.1.1) (Q65 89 4 f) (Q23 90 k)<|Q23 91<|wrap .i64<|e+1) (numO 0 C) 8)))<|Q100 m 0 (Q86 (Q52 5 b 6 d h i 7 a 4) .gone .gone .gone n (Q35 o) (Q31 p)<|Q27 q) r g):=zh
theorem v29_F27 (s:RW)(b d:Nat)(f g:Int)(a:Nat)(j k l:RW)(i:List MapZ)(r:TV)(e:LA):let A:=Q92 (Q142 1 1 6) 2 b 3 d f g 4 a j k l i;VE lv3 29 6 r e [Q101 1 s,.c<|.fn (.func 27) [] [(false,[(.ep 0 1 0 0)])]] A=
  (∃h:Int,Q10 45 [Q101 1 s,.c<|.fn (.func 27) [] [(false,[(.ep 0 1 0 0)])]] A (Q24 h) A/\Q66 (decide (h>=0)) A r e):=zh
theorem v30 (a b:Nat)(e f:Int)(c:Nat)(h i j:RW)(g:List MapZ)(r:TV)(d:LA):let A:=Q62 1 a 2 b e f 3 c 4 h i j g;VE lv3 30 5 r d [Q43 0 6 0 0] A=
  (RT (.agg<|Q123 (a:Int)<|Q2 (b:Int)) A r d):=zh
theorem v31 (s:RW)(r:TV)(a:LA):VE lv3 31 0 r a [Q101 1 s] []=
  (RT (.c<|.fn (.func 46) [] [(false,[(.ep 0 1 0 0)])]) [Q9 1<|Q145 1 s] r a):=zg
def lv32:LV:=[(1,[0]),(1000001,[2,3,4])]
theorem v32 (d:Int)(b c:Nat)(e f:Int)(a:Nat)(i j k:RW)(h:List MapZ)(r:TV)(g:LA):VE lv32 32 6 r g [Q43 0 3 0 0] (Q92 (Q54 3 1 6 0 0 Q39 d) 2 b 3 c e f 4 a i j k h)=
  (Q81 32 6 r g 1 [Q64 0 0 3] [Q87 0 3 1 6 0 0 Q39 d,Q99 1 6 b 7 c e f 8 a,Q133,Q134,Q22 4,Q61 5 h,Q137 6 i,Q126 7 j,Q113 8 k] 9):=zg
theorem v32_1a (d:Int)(b c:Nat)(e f:Int)(a:Nat)(h:List MapZ)(i j k:RW)(r:TV)(g:LA):VQ lv32 32 6 r g 1 ⟨[Q64 0 0 3],[Q87 0 3 1 6 0 0 Q39 d,Q99 1 6 b 7 c e f 8 a,Q133,Q134,Q22 4,Q61 5 h,Q137 6 i,Q126 7 j,Q113 8 k],9⟩=
  ((FV.L 2 .N=true)/\Q88 0 (Q130 (Q54 3 1 6 0 0 Q39 d) (Q80 6 b 7 c e f 8 a) .gone (.mapz h) i j k) r g):=zg
def lv33:LV:=[(1,[0,3,4]),(1000001,[1,2,3])]
theorem v33 (g h:Int)(c a:Nat)(d e:Int)(b:Nat)(j k l:RW)(i:List MapZ)(r:TV)(f:LA):let A:=Q123 g (Q2 h);VE lv33 33 5 r f (Q68 0 6 0 0<|.agg A) (Q62 1 c 2 a d e 3 b 4 j k l i)=
  (Q81 33 5 r f 1 [Q64 0 0 6,Q64 3 8 2,Q23 4<|wrap .i64<|(a:Int)-(1:Int)] [(0,Q52 5 c 6 a d e 7 b 4),Q22 1,Q133,Q134,Q61 4 i,Q137 5 j,Q126 6 k,Q113 7 l,Q34 8 2 A] 9):=zh
theorem v33_1a (i:Int)(b a:Nat)(e f:Int)(d:Nat)(m:List MapZ)(l h n:RW)(j k:Int)(r:TV)(g:LA):let A:=Q123 j (Q2 k);let B:=0+(toNat i);let C:=getD h B [];let D:=FV.I (getD C 0 FV.N);let E:=Q42 (FV.I<|getD C 1 FV.N);let F:=Q42 (FV.I<|getD C 2 FV.N);let G:=Q42 (FV.I<|getD C 3 FV.N);let H:=Q42 (FV.I<|getD C 4 FV.N);let I:=Q42 (FV.I<|getD C 5 FV.N);let J:=0+(toNat D);let K:=0<=(0:Int);let L:=zE [j,(0:Int)];let M:=wrap .i64 ((a:Int)-(1:Int));let N:=getD h (0+(toNat M)) [];let O:=FV.I (getD N 6 FV.N);let P:=RT (.tup []) (Q86 (Q52 5 (toNat L) 6 a e f 7 d 4) .gone .gone .gone m (Q35 l) (Q31 h)<|Q27 n) r g;VQ lv33 33 5 r g 1 ⟨[Q64 0 0 6,Q64 3 8 2,Q23 4 i],[(0,Q52 5 b 6 a e f 7 d 4),Q22 1,Q133,Q134,Q61 4 m,Q137 5 l,Q126 6 h,Q113 7 n,Q34 8 2 A],9⟩=
  (br (decide ((i:Int)>=(zE [k,(0:Int)]))) ((0<=i/\i<(a:Int))/\((B<(length h))/\(([(Q42 D),E,F,G,H,I,(Q42<|FV.I<|getD C 6 FV.N)]:List FV)=(take 7<|drop 0 C))/\((7:Nat)=7))/\(0<=D/\D<(b:Int))/\(J<(length l)/\(length<|getD l J [])=5)/\(K/\((0:Int)<=i)/\(i<=(a:Int)))/\Q81 33 5 r g 1 [Q64 0 0 6,Q64 3 8 2,Q23 4<|wrap .i64<|i-1] [(0,Q52 5 b 6 (toNat i) e f 7 d 4),Q22 1,Q133,Q134,Q61 4 m,Q137 5<|List.set l J [E,F,G,H,I],Q126 6 h,Q113 7 n,Q34 8 2 A] 9)<|br (decide ((L:Int)<(b:Int))) ((K/\((0:Int)<=L)/\(L<=(b:Int)))/\br (decide (((a:Int):Int)>(0:Int))) ((0<=M/\M<(a:Int))/\(((0+(toNat M))<(length h))/\(([(Q42 O)]:List FV)=(take 1<|drop 6 N))/\((1:Nat)=1))/\br (decide ((O:Int)>=L)) (∃o:Nat,Q10 48 [.c<|Q3 0 7 0 a,.c<|.fn (.func 49) [] [(false,[(.ep 1 1 0 0)])]] [Q31 h,Q146 L] (.c<|Q3 0 7 0 o) [Q31 h,Q146 L]/\RT (.tup []) (Q86 (Q52 5 (toNat L) 6 o e f 7 d 4) .gone .gone .gone m (Q35 l) (Q31 h)<|Q27 n) r g) P) P)<|RT (.tup []) (Q86 (Q52 5 b 6 a e f 7 d 4) .gone .gone .gone m (Q35 l) (Q31 h)<|Q27 n) r g):=zh
def jk:LV:=[(1,[0]),(1000001,[2,3,4,6])]
theorem v32_i1 (a:Nat)(e:Int)(c d:Nat)(f g:Int)(b:Nat)(k l m:RW)(i:List MapZ)(j:RW)(r:TV)(h:LA):VE jk 32 7 r h [Q43 0 3 0 0] (Q125 (Q98 3 1 6 0 0 6 2 0 a e) (Q80 2 c 3 d f g 4 b) k l m i j)=
  (Q81 32 7 r h 1 [Q64 0 0 3] [Q87 0 3 1 6 0 0 (Q3 10 2 0 a) e,Q99 1 7 c 8 d f g 9 b,Q133,Q134,Q22 4,Q61 5 i,Q22 6,Q137 7 k,Q126 8 l,Q113 9 m,Q12 10 2 j] 11):=zg
theorem jI (a:Nat)(b:Int)(d e:Nat)(h i:Int)(c:Nat)(j:List MapZ)(l m n f:RW)(r:TV)(g:LA):let A:=wrap .i64 ((a:Int)-(1:Int));let B:=toNat A;let C:=getD f (0+B) [];let D:=FV.I (getD C 0 FV.N);let E:=FV.I (getD C 1 FV.N);let F:=Q80 7 d 8 e h i 9 c;VQ jk 32 7 r g 1 ⟨[Q64 0 0 3],[Q87 0 3 1 6 0 0 (Q3 10 2 0 a) b,Q99 1 7 d 8 e h i 9 c,Q133,Q134,Q22 4,Q61 5 j,Q22 6,Q137 7 l,Q126 8 m,Q113 9 n,Q12 10 2 f],11⟩=
  (br (decide (((a:Int):Int)>(0:Int))) ((0<=A/\A<(a:Int))/\(((0+B)<(length f))/\(([(Q42 D),(Q42 E)]:List FV)=(take 2<|drop 0 C))/\((2:Nat)=2))/\((0<=(0:Int))/\((0:Int)<=A)/\(A<=(a:Int)))/\br (decide (b<=0)) (Q88 80 (Q89 (Q98 3 1 6 0 0 10 2 0 B b) F .gone .gone (.mapz j) .gone (Q35 l) (Q31 m) (Q27 n)<|Q116 f) r g) (∃k:Int×Wk,let G:=wSb k.2 [];Q75 47 0 3 0 0 (.agg<|Q123 D<|Q2 E) (Q125 (Q98 3 1 6 0 0 6 2 0 B<|wrap .i64<|b-1) (Q80 2 d 3 e h i 4 c) l m n j f) (Q24 k.1) G/\br (k.1 !=0) (Q88 k.1 G r g) (Q81 32 7 r g 1 [Q64 0 0 3] (numO 0 G) 11)))<|Q88 0 (Q89 (Q98 3 1 6 0 0 10 2 0 a b) F .gone .gone (.mapz j) .gone (Q35 l) (Q31 m) (Q27 n)<|Q116 f) r g):=zh
def lv34:LV:=[(1,[0,1,4,5,6,7]),(7,[0,1,4,5,7,10,81,82,83]),(36,[0,1,4,5,6,7]),(1000001,[2,3,4])]
theorem v34 (b e f:Int)(c d:Nat)(g h:Int)(a:Nat)(k l m:RW)(j:List MapZ)(r:TV)(i:LA):VE lv34 34 6 r i (Q68 0 3 0 0<|Q24 b) (Q144 3 1 6 0 0 e f 2 c 3 d g h 4 a k l m j)=
  (Q81 34 6 r i 1 (Q94 0 0 3 (Q23 1 b) (Q64 4 9 2) (Q105 5) (Q6 6<|Q21 false)<|Q23 7 b) [Q87 0 3 1 6 0 0 (Q2 e) f,Q99 1 6 c 7 d g h 8 a,Q133,Q134,Q22 4,Q61 5 j,Q137 6 k,Q126 7 l,Q113 8 m,Q34 9 2<|Q138 0] 10):=zg
theorem We (s:Int)(t:Bool)(p i g:Int)(b c:Nat)(e f:Int)(a:Nat)(j:List MapZ)(k l m:RW)(n:Int)(r:TV)(h:LA):let A:=Q23 1 s;let B:=Q64 4 9 2;let C:=Q6 6 (Q21 t);let D:=Q138 n;VQ lv34 34 6 r h 1 ⟨Q94 0 0 3 A B (Q105 5) C<|Q23 7 p,[Q87 0 3 1 6 0 0 (Q2 i) g,Q99 1 6 b 7 c e f 8 a,Q133,Q134,Q22 4,Q61 5 j,Q137 6 k,Q126 7 l,Q113 8 m,Q34 9 2 D],10⟩=
  (br (g==0) (∃d:Int×Int×Int×Int×Int×Int×Int×Int,let E:=Q144 3 1 6 0 0 d.2.2.2.2.2.2.1 d.2.2.2.2.2.2.2 2 b 3 c e f 4 a k l m j;let F:=Q2 d.2.2.2.2.2.2.1;let G:=Q81 34 6 r h 36 (Q94 0 0 3 A B (Q105 5) C<|Q23 7 d.2.2.2.2.2.1) [Q87 0 3 1 6 0 0 F d.2.2.2.2.2.2.2,Q99 1 6 b 7 c e f 8 a,Q133,Q134,Q22 4,Q61 5 j,Q137 6 k,Q126 7 l,Q113 8 m,Q34 9 2 D] 10;Q122 50 0 3 0 0 p (Q144 3 1 6 0 0 i g 2 b 3 c e f 4 a k l m j) (Q114 (Q72 d.1 d.2.1 d.2.2.1 d.2.2.2.1 d.2.2.2.2.1) d.2.2.2.2.2.1) E/\br (d.2.2.2.2.2.2.2 !=0) G (br (d.1==7) ((1<=1)/\zS 1 8/\Q81 34 6 r h 1 (Q94 0 0 3 A B (Q93 5 10 1 0 1) C<|Q23 7 d.2.1) [Q87 0 3 1 6 0 0 F d.2.2.2.2.2.2.2,Q99 1 6 b 7 c e f 8 a,Q133,Q134,Q22 4,Q61 5 j,Q137 6 k,Q126 7 l,Q113 8 m,Q34 9 2 D,Q113 10 [[(Q42 d.2.2.1)]]] 11)<|br (d.1==8) (∃o:Int×Rd,Q75 51 0 3 0 0 (Q91 d.1 d.2.1 d.2.2.1 d.2.2.2.1 d.2.2.2.2.1) E (Q24 o.1) (rSb o.2 [])/\∃q:Rd,Q124 52 0 3 0 0 (Q24 d.2.2.2.2.2.1) (Q24 o.1) (rOb o.2 []) (.tup []) (rSb q [])/\Q81 34 6 r h 1 (Q94 0 0 3 A B (Q105 5) C<|Q23 7 o.1) (numO 0<|rSb q [Q9 2 D]) 10)<|br (d.1==6) ((FV.L 1 .N=true)/\G) G))<|Q81 34 6 r h 36 (Q94 0 0 3 A B (Q105 5) C<|Q23 7 p) [Q87 0 3 1 6 0 0 (Q2 i) g,Q99 1 6 b 7 c e f 8 a,Q133,Q134,Q22 4,Q61 5 j,Q137 6 k,Q126 7 l,Q113 8 m,Q34 9 2 D] 10):=zh
theorem v34_36a (p:Int)(q:Bool)(k e f:Int)(b d:Nat)(g h:Int)(a:Nat)(l:List MapZ)(m n o:RW)(i:Int)(r:TV)(j:LA):VQ lv34 34 6 r j 36 ⟨Q94 0 0 3 (Q23 1 p) (Q64 4 9 2) (Q105 5) (Q6 6<|Q21 q)<|Q23 7 k,[Q87 0 3 1 6 0 0 (Q2 e) f,Q99 1 6 b 7 d g h 8 a,Q133,Q134,Q22 4,Q61 5 l,Q137 6 m,Q126 7 n,Q113 8 o,Q34 9 2<|Q138 i],10⟩=
  (∃_:List Int,Q96 54 [.c Q39] (.tup [])/\br q ((FV.L 1 .N=true)/\Q81 34 6 r j 7 [Q64 0 0 3,Q23 1 p,Q64 4 9 2,Q105 5,Q23 7 k,Q23 10 k,Q105 81,Q23 82 0,Q23 83 0] [Q87 0 3 1 6 0 0 (Q2 e) f,Q99 1 6 b 7 d g h 8 a,Q133,Q134,Q22 4,Q61 5 l,Q137 6 m,Q126 7 n,Q113 8 o,Q34 9 2<|Q138 i] 10) (RT (.agg<|Q138 k) (Q130 (Q84 3 1 6 0 0 e f) (Q80 6 b 7 d g h 8 a) .gone (.mapz l) m n o) r j)):=zg
theorem ZZ (v:Int)(g:Nat)(w:Bool)(t k i:Int)(b c:Nat)(e f:Int)(a:Nat)(l:List MapZ)(m n o:RW)(p:Int)(h:RW)(r:TV)(j:LA):let A:=Q23 1 v;let B:=Q64 4 9 2;let C:=Q93 5 10 1 0 g;let D:=Q6 6 (Q21 w);let E:=Q138 p;let F:=wrap .i64 ((g:Int)-(1:Int));let G:=getD h (0+(toNat F)) [];let H:=FV.I (getD G 0 FV.N);VQ lv34 34 6 r j 1 ⟨Q94 0 0 3 A B C D<|Q23 7 t,[Q87 0 3 1 6 0 0 (Q2 k) i,Q99 1 6 b 7 c e f 8 a,Q133,Q134,Q22 4,Q61 5 l,Q137 6 m,Q126 7 n,Q113 8 o,Q34 9 2 E,Q113 10 h],11⟩=
  (br (i==0) (∃d:Int×Int×Int×Int×Int×Int×Int×Int,let I:=Q144 3 1 6 0 0 d.2.2.2.2.2.2.1 d.2.2.2.2.2.2.2 2 b 3 c e f 4 a m n o l;let J:=Q2 d.2.2.2.2.2.2.1;let K:=Q81 34 6 r j 36 (Q94 0 0 3 A B C D<|Q23 7 d.2.2.2.2.2.1) [Q87 0 3 1 6 0 0 J d.2.2.2.2.2.2.2,Q99 1 6 b 7 c e f 8 a,Q133,Q134,Q22 4,Q61 5 l,Q137 6 m,Q126 7 n,Q113 8 o,Q34 9 2 E,Q113 10 h] 11;let L:=Q91 d.1 d.2.1 d.2.2.1 d.2.2.2.1 d.2.2.2.2.1;Q122 50 0 3 0 0 t (Q144 3 1 6 0 0 k i 2 b 3 c e f 4 a m n o l) (Q114 (Q72 d.1 d.2.1 d.2.2.1 d.2.2.2.1 d.2.2.2.2.1) d.2.2.2.2.2.1) I/\br (d.2.2.2.2.2.2.2 !=0) K (br (d.1==7) ((1<=1)/\(g<=(length h)/\zS (g+1) 8)/\Q81 34 6 r j 1 (Q94 0 0 3 A B (Q93 5 10 1 0<|g+1) D<|Q23 7 d.2.1) [Q87 0 3 1 6 0 0 J d.2.2.2.2.2.2.2,Q99 1 6 b 7 c e f 8 a,Q133,Q134,Q22 4,Q61 5 l,Q137 6 m,Q126 7 n,Q113 8 o,Q34 9 2 E,Q113 10<|(take g h)++[[(Q42 d.2.2.1)]]] 11)<|br (d.1==8) (∃q:Int×Rd,Q75 51 0 3 0 0 L I (Q24 q.1) (rSb q.2 [])/\∃u:Rd,Q124 52 0 3 0 0 (Q24 d.2.2.2.2.2.1) (Q24 q.1) (rOb q.2 []) (.tup []) (rSb u [])/\Q81 34 6 r j 1 (Q94 0 0 3 A B C D<|Q23 7 q.1) (numO 0<|rSb u [Q9 2 E,Q27 h]) 11)<|br (d.1==6) (br (decide (((g:Int):Int)>(0:Int))) ((0<=F/\F<(g:Int))/\(((0+(toNat F))<(length h))/\(([(Q42 H)]:List FV)=(take 1<|drop 0 G))/\((1:Nat)=1))/\∃s:Int×Rd,Q124 53 0 3 0 0 L (Q24 H) I (Q24 s.1) (rSb s.2 [])/\((0<=(0:Int))/\((0:Int)<=F)/\(F<=(g:Int)))/\Q81 34 6 r j 1 (Q94 0 0 3 A B (Q93 5 10 1 0<|toNat F) (Q6 6<|Q21 true)<|Q23 7 s.1) (numO 0<|rSb s.2 [Q9 2 E,Q27 h]) 11) K) K))<|Q81 34 6 r j 36 (Q94 0 0 3 A B C D<|Q23 7 t) [Q87 0 3 1 6 0 0 (Q2 k) i,Q99 1 6 b 7 c e f 8 a,Q133,Q134,Q22 4,Q61 5 l,Q137 6 m,Q126 7 n,Q113 8 o,Q34 9 2 E,Q113 10 h] 11):=zh
theorem v34_7a (o p k l d h i:Int)(b c:Nat)(e f:Int)(a:Nat)(n:List MapZ)(q s t:RW)(g:Int)(r:TV)(j:LA):let A:=getD [] (toNat d) [];let B:=FV.I (getD A 0 FV.N);let C:=Q144 3 1 6 0 0 h i 2 b 3 c e f 4 a q s t n;let D:=Q62 1 b 2 c e f 3 a 4 q s t n;VQ lv34 34 6 r j 7 ⟨[Q64 0 0 3,Q23 1 o,Q64 4 9 2,Q105 5,Q23 7 p,Q23 10 k,Q105 81,Q23 82 l,Q23 83 d],[Q87 0 3 1 6 0 0 (Q2 h) i,Q99 1 6 b 7 c e f 8 a,Q133,Q134,Q22 4,Q61 5 n,Q137 6 q,Q126 7 s,Q113 8 t,Q34 9 2<|Q138 g],10⟩=
  (br (decide (d<l)) (((FV.L 1 .N=true)/\(0<=d)/\(d<((0:Nat):Int))/\(([(Q42 B)]:List FV)=A))/\∃m:Int×Rd,Q75 55 0 3 0 0 (Q91 7 k B 0 0) C (Q24 m.1) (rSb m.2 [])/\Q81 34 6 r j 7 [Q64 0 0 3,Q23 1 o,Q64 4 9 2,Q105 5,Q23 7 p,Q23 10 m.1,Q105 81,Q23 82 l,Q23 83<|wrap .i64<|d+1] (numO 0<|rSb m.2 [Q9 2<|Q138 g]) 10) (∃u:Int,Q122 56 0 6 0 0 o D (Q24 u) D/\∃v:Rd,Q124 52 0 3 0 0 (Q24 u) (Q24 k) C (.tup []) (rSb v [])/\RT (.agg<|Q138 p) (rSb v []) r j)):=zh
theorem v34_36b (t:Int)(a:Nat)(u:Bool)(n f g:Int)(d e:Nat)(h i:Int)(b:Nat)(o:List MapZ)(p q s:RW)(j:Int)(l:RW)(r:TV)(k:LA):VQ lv34 34 6 r k 36 ⟨Q94 0 0 3 (Q23 1 t) (Q64 4 9 2) (Q93 5 10 1 0 a) (Q6 6<|Q21 u)<|Q23 7 n,[Q87 0 3 1 6 0 0 (Q2 f) g,Q99 1 6 d 7 e h i 8 b,Q133,Q134,Q22 4,Q61 5 o,Q137 6 p,Q126 7 q,Q113 8 s,Q34 9 2<|Q138 j,Q113 10 l],11⟩=
  (∃m:List Int,Q10 54 [.c<|Q3 0 1 0 a] [Q27 l] (.tup []) [Q27<|IR m]/\br u (Q81 34 6 r k 7 [Q64 0 0 3,Q23 1 t,Q64 4 9 2,Q93 5 10 1 0 a,Q23 7 n,Q23 10 n,Q93 81 10 1 0 a,Q23 82 (a:Int),Q23 83 0] [Q87 0 3 1 6 0 0 (Q2 f) g,Q99 1 6 d 7 e h i 8 b,Q133,Q134,Q22 4,Q61 5 o,Q137 6 p,Q126 7 q,Q113 8 s,Q34 9 2<|Q138 j,Q113 10<|IR m] 11) (((1:Nat)=1/\(0+a)<=(length<|IR m))/\RT (.agg<|Q123 n<|Q20 1<|take a<|drop 0<|IR m) (Q130 (Q84 3 1 6 0 0 f g) (Q80 6 d 7 e h i 8 b) .gone (.mapz o) p q s) r k)):=zg
theorem v34_7b (q:Int)(i:Nat)(t n:Int)(f:Nat)(o e k l:Int)(c d:Nat)(g h:Int)(a:Nat)(s:List MapZ)(u v w:RW)(j:Int)(b:RW)(r:TV)(m:LA):let A:=0+(toNat e);let B:=FV.I (getD (getD b A []) 0 FV.N);let C:=Q144 3 1 6 0 0 k l 2 c 3 d g h 4 a u v w s;let D:=Q62 1 c 2 d g h 3 a 4 u v w s;VQ lv34 34 6 r m 7 ⟨[Q64 0 0 3,Q23 1 q,Q64 4 9 2,Q93 5 10 1 0 i,Q23 7 t,Q23 10 n,Q93 81 10 1 0 f,Q23 82 o,Q23 83 e],[Q87 0 3 1 6 0 0 (Q2 k) l,Q99 1 6 c 7 d g h 8 a,Q133,Q134,Q22 4,Q61 5 s,Q137 6 u,Q126 7 v,Q113 8 w,Q34 9 2<|Q138 j,Q113 10 b],11⟩=
  (br (decide (e<o)) ((0<=e/\e<(f:Int))/\((A<(length b))/\(([(Q42 B)]:List FV)=(take 1<|drop 0<|getD b A []))/\((1:Nat)=1))/\∃p:Int×Rd,Q75 55 0 3 0 0 (Q91 7 n B 0 0) C (Q24 p.1) (rSb p.2 [])/\Q81 34 6 r m 7 [Q64 0 0 3,Q23 1 q,Q64 4 9 2,Q93 5 10 1 0 i,Q23 7 t,Q23 10 p.1,Q93 81 10 1 0 f,Q23 82 o,Q23 83<|wrap .i64<|e+1] (numO 0<|rSb p.2 [Q9 2<|Q138 j,Q27 b]) 11) (∃x:Int,Q122 56 0 6 0 0 q D (Q24 x) D/\∃y:Rd,Q124 52 0 3 0 0 (Q24 x) (Q24 n) C (.tup []) (rSb y [])/\((1:Nat)=1/\(0+i)<=(length b))/\RT (.agg<|Q123 t<|Q20 1<|take i<|drop 0 b) (rSb y []) r m)):=zh
theorem v28 (a:Int)(b e:Nat)(f g:Int)(c:Nat)(h j k:RW)(i:List MapZ)(r:TV)(d:LA):let A:=Q62 1 b 2 e f g 3 c 4 h j k i;let B:=RT (Q120 (Q72 0 0 0 0 0) false) A r d;let C:=getD h (0+(toNat a)) [];let D:=FV.I (getD C 0 FV.N);let E:=FV.I (getD C 1 FV.N);let F:=FV.I (getD C 2 FV.N);let G:=FV.I (getD C 3 FV.N);let H:=FV.I (getD C 4 FV.N);VE lv3 28 5 r d (Q68 0 6 0 0<|Q24 a) A=
  (br (decide (a<0)) B<|br (decide ((a:Int)>=(b:Int))) B<|(0<=a/\a<(b:Int))/\(((0+(toNat a))<(length h))/\(([(Q42 D),(Q42 E),(Q42 F),(Q42 G),(Q42 H)]:List FV)=(take 5<|drop 0 C))/\((5:Nat)=5))/\RT (Q120 (Q72 D E F G H) true) A r d):=zh
theorem v35 (i:Int)(c d:Nat)(e f:Int)(a:Nat)(j k g:RW)(h:List MapZ)(r:TV)(b:LA):let A:=Q62 1 c 2 d e f 3 a 4 j k g h;let B:=RT (Q143 []) A r b;let C:=getD g (0+(toNat i)) [];let D:=FV.S (getD C 0 FV.N);VE lv3 35 5 r b (Q68 0 6 0 0<|Q24 i) A=
  (br (decide (i<0)) B<|br (decide ((i:Int)>=(a:Int))) B<|(0<=i/\i<(a:Int))/\(((0+(toNat i))<(length g))/\(([(.str D)]:List FV)=(take 1<|drop 0 C))/\((1:Nat)=1))/\RT (Q143 D) A r b):=zh
def lv36:LV:=[(3,[2,6,30,31,32])]
theorem v36 (c:Int)(d:LU)(e:Int)(a:RW)(r:TV)(b:LA):let A:=FV.L 4 (Q8 4 a)=true;let B:=(length a:Int);let C:=getD a 0 [];VE lv36 36 0 r b [Q78 c d e 4 a] []=
  (br (c==5) ((A/\(0<=(0:Int))/\((0:Int)<B)/\(((rE C):List FV)=C))/\∃g:Tm,Q96 36 [(aE C)] (aT g)/\∃f:Tm×Bool,Q96 57 [(aT g)] (Q120 (cT f.1) f.2)/\br f.2 (RT (aT f.1) [] r b) (∃h:Tm,Q96 14 [Q24 1,(aT g)] (aT h)/\RT (aT h) [] r b))<|br (c==6) (A/\Q81 36 0 r b 3 [Q115 2 0,Q105 6,Q65 30 4 a,Q23 31 B,Q23 32 0] [Q131 0 4 0 [] 0] 1)<|RT (Q78 c d e 4 a) [] r b):=zh
theorem v36_3a (b:RW)(h a f:Int)(d:LU)(e:Int)(r:TV)(g:LA):let A:=getD b (toNat a) [];let B:=FV.L 4 .N=true;let C:=((0:Nat):Int);VQ lv36 36 0 r g 3 ⟨[Q115 2 0,Q105 6,Q65 30 4 b,Q23 31 h,Q23 32 a],[Q131 0 4 f d e],1⟩=
  (br (decide (a<h)) (((FV.L 4 (Q8 4 b)=true)/\(0<=a)/\(a<(length b:Int))/\(((rE A):List FV)=A))/\∃i:Tm,Q96 36 [(aE A)] (aT i)/\(1<=1)/\zS 1 56/\Q81 36 0 r g 3 [Q115 2 0,Q93 6 1 4 0 1,Q65 30 4 b,Q23 31 h,Q23 32<|wrap .i64<|a+1] [Q131 0 4 f d e,Q12 1 4 [(FT4 i)]] 2) ((B/\(0<=(0:Int))/\((0:Int)<C)/\(([(Q42 0),(.str []),(Q42 0),.N]:List FV)=[]))/\B/\((0<=(1:Int))/\((1:Int)<=(0:Int))/\((0:Int)<=C))/\∃j:Tm,Q96 15 [.agg<|Q74 0 [] 0,.c Q39] (aT j)/\RT (aT j) [] r g)):=zh
theorem v36_3b (a:Nat)(c:RW)(h b f:Int)(d:LU)(e:Int)(i:RW)(r:TV)(g:LA):let A:=getD c (toNat b) [];let B:=length i;let C:=getD i 0 [];let D:=(toNat (a:Int))-1;VQ lv36 36 0 r g 3 ⟨[Q115 2 0,Q93 6 1 4 0 a,Q65 30 4 c,Q23 31 h,Q23 32 b],[Q131 0 4 f d e,Q12 1 4 i],2⟩=
  (br (decide (b<h)) (((FV.L 4 (Q8 4 c)=true)/\(0<=b)/\(b<(length c:Int))/\(((rE A):List FV)=A))/\∃j:Tm,Q96 36 [(aE A)] (aT j)/\(1<=1)/\(a<=B/\zS (a+1) 56)/\Q81 36 0 r g 3 [Q115 2 0,Q93 6 1 4 0<|a+1,Q65 30 4 c,Q23 31 h,Q23 32<|wrap .i64<|b+1] [Q131 0 4 f d e,Q12 1 4<|(take a i)++[(FT4 j)]] 2) ((0<=(0:Int)/\(0:Int)<(a:Int))/\((0<B)/\(((rE C):List FV)=(take 4<|drop 0 C))/\((4:Nat)=4))/\((0<=(1:Int))/\((1:Int)<=(a:Int))/\((a:Int)<=(a:Int)))/\((4:Nat)=4/\(1+D)<=B)/\∃k:Tm,Q96 15 [(aE C),Q101 4<|take D<|drop 1 i] (aT k)/\RT (aT k) [] r g)):=zh
abbrev w37_0 (a:Int)(b c:Nat)(d e:Int)(f:Nat)(g h i:RW)(j:List MapZ)(r:TV)(Hs':LA):Prop:=(∃b1:Bool,((Q122 58 0 6 0 0 a (Q62 1 b 2 c d e 3 f 4 g h i j) (Q41 b1)<|Q62 1 b 2 c d e 3 f 4 g h i j)/\(Q66 b1 (Q62 1 b 2 c d e 3 f 4 g h i j) r Hs')))
abbrev w37_1 (a:Bool)(b:Int)(r:TV)(c d:Nat)(e f:Int)(g:Nat)(h i j:RW)(k:List MapZ)(Hs':LA):Prop:=(br a (Q66 (decide (b>=0)) (Q62 1 c 2 d e f 3 g 4 h i j k) r Hs')<|Q90 (Q62 1 c 2 d e f 3 g 4 h i j k) r Hs')
theorem v37 (b f i j l:Int)(d e:Nat)(g h:Int)(a:Nat)(m n o:RW)(k:List MapZ)(r:TV)(c:LA):let A:=Q62 1 d 2 e g h 3 a 4 m n o k;let B:=Q90 A r c;let C:=Q66 true A r c;let D:=Q66 (decide (f>=0)) A r c;let E:=w37_0 f d e g h a m n o k r c;VE lv3 37 5 r c (Q68 0 6 0 0<|Q91 b f i j l) A=
  (br (b==0) (br (decide (0<=f)) (Q66 (decide ((f:Int)<(a:Int))) A r c) B)<|br (b==1) (Q66 (decide (f>=1)) A r c)<|br (b==2) C<|br (b==9) C<|br (b==3) D<|br (b==4) D<|br (b==5) E<|br (b==6) E<|br (b==7) (∃p:Bool,Q122 58 0 6 0 0 f A (Q41 p) A/\br p (w37_0 i d e g h a m n o k r c) B)<|br (b==8) (∃q:Bool,Q122 58 0 6 0 0 f A (Q41 q) A/\br q (∃s:Bool,Q122 59 0 6 0 0 i A (Q41 s) A/\br s (br (decide (j>=0)) (Q66 (decide (l>=0)) A r c) B) B) B)<|br (b==10) (∃t:Bool,Q122 59 0 6 0 0 f A (Q41 t) A/\w37_1 t i r d e g h a m n o k c)<|br (b==11) (∃u:Bool,Q122 59 0 6 0 0 f A (Q41 u) A/\br u (∃v:Bool,Q122 58 0 6 0 0 i A (Q41 v) A/\w37_1 v j r d e g h a m n o k c) B) B):=zh
theorem v44 (n:Int)(r:TV)(a:LA):let A:=FV.L 4 .N=true;let B:=wrap .i64 (n-0);let C:=0<=(0:Int);let D:=(0:Int)<=(0:Int);VE lv3 44 0 r a [.c Q39,Q24 n] []=
  (br (decide (n<0)) False<|A/\br (decide (B>0)) (A/\(C/\D/\((0:Int)<=((0:Nat):Int)))/\(0<B/\zS (toNat B) 56)/\A/\(C/\D/\((0:Int)<=(((toNat B):Nat):Int)))/\RT (.c<|Q3 0 4 0 0) [.arz 4 []] r a) (RT (.c Q39) [] r a)):=zh
theorem v38 (s:LU)(r:TV)(a:LA):let A:=(length s:Int);VE lv3 38 0 r a [Q143 s] []=
  (∃d:Bool,Q103 60 [Q143 s] d/\br d ((0<=(0:Int)/\(0:Int)<A)/\∃e:Bool,Q103 61 [.c<|Q1 .u8 ((UInt8.toNat (getD s 0 0):Nat):Int)] e/\br e (∃b:Int,Q96 62 [Q143 s,.c<|.fn (.func 63) [] []] (Q24 b)/\Q66 ((b:Int)==A) [] r a) (Q90 [] r a)) (Q90 [] r a)):=zh
theorem v39 (s:LU)(r:TV)(a:LA):let A:=(length s:Int);VE lv3 39 0 r a [Q143 s] []=
  (∃d:Bool,Q103 60 [Q143 s] d/\br d (∃b:Int,Q96 62 [Q143 s,.c<|.fn (.func 64) [] []] (Q24 b)/\br ((b:Int)==A) (Q66 true [] r a) (br ((A:Int)==(1:Int)) (∃e:Bool,Q103 65 [Q143 [44,59,33],Q143 s] e/\Q66 e [] r a)<|Q90 [] r a)) (Q90 [] r a)):=zh
theorem v40_F41 (s:RW)(r:TV)(a:LA):VE lv3 40 0 r a [Q101 4 s,.c<|.fn (.func 41) [] []] []=
  (∃b:Int,Q96 66 [Q101 4 s,.c<|.fn (.func 41) [] []] (Q24 b)/\Q66 (decide (b>=0)) [] r a):=zg
theorem v42 (b:LU)(c d:Nat)(e f:Int)(a:Nat)(j k i:RW)(h:List MapZ)(r:TV)(g:LA):VE lv8 42 5 r g (Q68 0 6 0 0<|Q143 b) (Q62 1 c 2 d e f 3 a 4 j k i h)=
  ((∃l:Int,(gH ((false,[EK.str]),(false,[(Q2 0)])) [(.str b)] h=some (some [(Q42 l)]))/\Q88 l (Q86 (Q52 5 c 6 d e f 7 a 4) .gone .gone .gone h (Q35 j) (Q31 k)<|Q27 i) r g)\/((gH ((false,[EK.str]),(false,[(Q2 0)])) [(.str b)] h=some none)/\∃m:List MapZ,(updZ ((false,[EK.str]),(false,[(Q2 0)])) [(.str b)] (false,[(Q42 (a:Int))]) h=some m)/\(1<=1)/\(a<=(length i)/\zS (a+1) 16)/\Q88 (a:Int) (Q86 (Q52 5 c 6 d e f 7 (a+1) 4) .gone .gone .gone m (Q35 j) (Q31 k)<|Q27<|(take a i)++[[(.str b)]]) r g)):=zg
theorem v43 (n:Int)(g b d:Nat)(e f:Int)(a:Nat)(k l m:RW)(j:List MapZ)(i:RW)(r:TV)(h:LA):let A:=(((g+1):Nat):Int);let B:=Q100 0 1 [Q52 1 b 2 d e f 3 a 4,Q35 k,Q31 l,Q27 m,.mapz j,Q27 i] r h;let C:=getD i (0+(toNat n)) [];let D:=FV.I (getD C 0 FV.N);let E:=Q62 1 b 2 d e f 3 a 4 k l m j;VE lv3 43 6 r h (Q85 0 6 0 0 (Q24 n)<|.c<|Q3 5 1 0<|g+1) [Q52 1 b 2 d e f 3 a 4,Q35 k,Q31 l,Q27 m,.mapz j,Q27 i]=
  (br (decide ((n:Int)>=A)) B ((0<=n/\n<A)/\(((0+(toNat n))<(length i))/\(([(Q42 D)]:List FV)=(take 1<|drop 0 C))/\((1:Nat)=1))/\∃o:Bool,Q122 58 0 6 0 0 D E (Q41 o) E/\br (!o) B (Q100 D 0 [Q52 1 b 2 d e f 3 a 4,Q35 k,Q31 l,Q27 m,.mapz j,Q27 i] r h))):=zh
theorem v43_i1 (n:Int)(d e:Nat)(f g:Int)(a:Nat)(j k l:RW)(i:List MapZ)(r:TV)(b:LA):let A:=Q62 1 d 2 e f g 3 a 4 j k l i;VE lv3 43 5 r b (Q85 0 6 0 0 (Q24 n)<|.c Q39) A=
  (∃h:Bool,Q122 58 0 6 0 0 n A (Q41 h) A/\br (!h) (Q100 0 1 A r b) (Q100 n 0 A r b)):=zh
theorem v43_i2 (n:Int)(d e:Nat)(f g:Int)(a:Nat)(j k l:RW)(i:List MapZ)(r:TV)(b:LA):let A:=Q62 1 d 2 e f g 3 a 4 j k l i;let B:=FV.L 1 (.z0 true)=true;let C:=Q100 0 1 A r b;let D:=getD [] (toNat n) [];let E:=FV.I (getD D 0 FV.N);VE lv3 43 5 r b (Q85 0 6 0 0 (Q24 n)<|.c<|Q4<|.z0 true) A=
  (B/\br (decide (n>=0)) C ((B/\(0<=n)/\(n<((0:Nat):Int))/\(([(Q42 E)]:List FV)=D))/\∃h:Bool,Q122 58 0 6 0 0 E A (Q41 h) A/\br (!h) C (Q100 E 0 A r b))):=zh
def lv45:LV:=[(1,[0,1,7,8])]
theorem v45_F27 (s:RW)(b d:Nat)(e f:Int)(a:Nat)(i j k:RW)(h:List MapZ)(r:TV)(g:LA):VE lv45 45 6 r g [Q101 1 s,.c<|.fn (.func 27) [] [(false,[(.ep 0 1 0 0)])]] (Q92 (Q142 1 1 6) 2 b 3 d e f 4 a i j k h)=
  ((FV.L 1 (Q8 1 s)=true)/\Q81 45 6 r g 1 (Q132 (Q65 0 1 s) (Q6 1<|.fn (.func 27) [] [(false,[(.ep 0 1 0 0)])]) 7 (length s:Int) 8 0) [Q34 0 1<|Q141 1 6,Q99 1 2 b 3 d e f 4 a,Q137 2 i,Q126 3 j,Q113 4 k,Q61 5 h] 6):=zg
theorem Wj (h:RW)(j g:Int)(b c:Nat)(d e:Int)(a:Nat)(k l m:RW)(i:List MapZ)(r:TV)(f:LA):let A:=Q6 1 (.fn (.func 27) [] [(false,[(.ep 0 1 0 0)])]);let B:=getD h (toNat g) [];let C:=FV.I (getD B 0 FV.N);let D:=Q92 (Q142 1 1 6) 2 b 3 c d e 4 a k l m i;VQ lv45 45 6 r f 1 ⟨Q132 (Q65 0 1 h) A 7 j 8 g,[Q34 0 1<|Q141 1 6,Q99 1 2 b 3 c d e 4 a,Q137 2 k,Q126 3 l,Q113 4 m,Q61 5 i],6⟩=
  (br (decide (g<j)) (((FV.L 1 (Q8 1 h)=true)/\(0<=g)/\(g<(length h:Int))/\(([(Q42 C)]:List FV)=B))/\∃n:Bool,Q10 27 [Q24 C,Q43 0 1 0 0] D (Q41 n) D/\br n (Q88 g D r f) (Q81 45 6 r f 1 (Q132 (Q65 0 1 h) A 7 j 8<|wrap .i64<|g+1) [Q34 0 1<|Q141 1 6,Q99 1 2 b 3 c d e 4 a,Q137 2 k,Q126 3 l,Q113 4 m,Q61 5 i] 6))<|Q88 (-1:Int) D r f):=zh
def lv47:LV:=[(3,[2,7,90]),(1000001,[2,3,4,6])]
abbrev w47_0 (a b:Int×List Int×Int×Int×Int×Int×Int×Int×Wk)(c d:Int)(r:TV)(Hs':LA):Prop:=(∃z3:Int×Wk,((Q10 68 [Q43 0 3 0 0,.agg<|Q111 a.1 1 (IR a.2.1) a.2.2.1 a.2.2.2.1 a.2.2.2.2.1 a.2.2.2.2.2.1 a.2.2.2.2.2.2.1,.agg<|Q111 b.1 1 (IR b.2.1) b.2.2.1 b.2.2.2.1 b.2.2.2.2.1 b.2.2.2.2.2.1 b.2.2.2.2.2.2.1,.agg<|Q123 c<|Q2 d] (wOb b.2.2.2.2.2.2.2.2 []) (Q24 z3.1)<|wSb z3.2 [])/\(Q88 z3.1 (wSb z3.2 []) r Hs')))
abbrev w47_1 (a:Int×List Int×Int×Int×Int×Int×Int×Int×Wk)(b:Int)(c:Int×List Int×Int×Int×Int×Int×Int×Int×Wk)(r:TV)(Hs':LA)(d:Int):Prop:=(∃b8:Bool,((Q103 69 [.agg<|Q111 a.1 1 (IR a.2.1) a.2.2.1 a.2.2.2.1 a.2.2.2.2.1 a.2.2.2.2.2.1 a.2.2.2.2.2.2.1] b8)/\(br b8 (∃z9:Int×Wk,((Q124 71 0 3 0 0 (.agg<|Q111 a.1 1 (IR a.2.1) a.2.2.1 a.2.2.2.1 a.2.2.2.2.1 a.2.2.2.2.2.1 a.2.2.2.2.2.2.1) (Q24 b) (wOb c.2.2.2.2.2.2.2.2 []) (Q24 z9.1)<|wSb z9.2 [])/\(Q88 z9.1 (wSb z9.2 []) r Hs'))) (∃b10:Bool,((Q103 69 [.agg<|Q111 c.1 1 (IR c.2.1) c.2.2.1 c.2.2.2.1 c.2.2.2.2.1 c.2.2.2.2.2.1 c.2.2.2.2.2.2.1] b10)/\(br b10 (∃z11:Int×Wk,((Q124 71 0 3 0 0 (.agg<|Q111 c.1 1 (IR c.2.1) c.2.2.1 c.2.2.2.1 c.2.2.2.2.1 c.2.2.2.2.2.1 c.2.2.2.2.2.2.1) (Q24 d) (wOb c.2.2.2.2.2.2.2.2 []) (Q24 z11.1)<|wSb z11.2 [])/\(Q88 z11.1 (wSb z11.2 []) r Hs'))) (∃b12:Bool,((Q103 72 [.agg<|Q111 a.1 1 (IR a.2.1) a.2.2.1 a.2.2.2.1 a.2.2.2.2.1 a.2.2.2.2.2.1 a.2.2.2.2.2.2.1,.agg<|Q111 c.1 1 (IR c.2.1) c.2.2.1 c.2.2.2.1 c.2.2.2.2.1 c.2.2.2.2.2.1 c.2.2.2.2.2.2.1] b12)/\(br b12 (Q88 170 (wSb c.2.2.2.2.2.2.2.2 []) r Hs') (∃z13:RW,((Q95 31 [Q101 1<|IR a.2.1] (.c<|.fn (.func 46) [] [(false,[(.ep 0 1 0 0)])]) [Q9 1<|Q145 1 z13])/\(Q81 47 7 r Hs' 3 [Q64 2 11 1,Q64 7 12 7,Q6 90<|.fn (.func 46) [] [(false,[(.ep 13 1 0 0)])]] (numO 0<|wSb c.2.2.2.2.2.2.2.2 [Q142 1 0 3,Q9 7<|Q111 c.1 1 (IR c.2.1) c.2.2.1 c.2.2.2.1 c.2.2.2.2.1 c.2.2.2.2.2.1 c.2.2.2.2.2.2.1,Q9 1<|Q145 1 z13]) 14))))))))))))
theorem v47 (d e:Int)(f:Nat)(j:Int)(h i:Nat)(k l:Int)(g:Nat)(s t u:RW)(p:List MapZ)(q:RW)(r:TV)(c:LA):let A:=Q125 (Q98 3 1 6 0 0 6 2 0 f j) (Q80 2 h 3 i k l 4 g) s t u p q;VE lv47 47 7 r c (Q68 0 3 0 0<|.agg<|Q123 d<|Q2 e) A=
  (∃a:Int×List Int×Int×Int×Int×Int×Int×Int×Wk,let B:=Q111 a.1 1 (IR a.2.1) a.2.2.1 a.2.2.2.1 a.2.2.2.2.1 a.2.2.2.2.2.1 a.2.2.2.2.2.2.1;let C:=wSb a.2.2.2.2.2.2.2.2 [];Q122 67 0 3 0 0 d A (Q114 B a.2.2.2.2.2.2.2.1) C/\br (a.2.2.2.2.2.2.2.1 !=0) (Q88 a.2.2.2.2.2.2.2.1 C r c) (∃b:Int×List Int×Int×Int×Int×Int×Int×Int×Wk,let D:=Q111 b.1 1 (IR b.2.1) b.2.2.1 b.2.2.2.1 b.2.2.2.2.1 b.2.2.2.2.2.1 b.2.2.2.2.2.2.1;let E:=wSb b.2.2.2.2.2.2.2.2 [];let F:=w47_0 a b d e r c;let G:=w47_1 a e b r c d;Q122 67 0 3 0 0 e (wOb a.2.2.2.2.2.2.2.2 []) (Q114 D b.2.2.2.2.2.2.2.1) E/\br (b.2.2.2.2.2.2.2.1 !=0) (Q88 b.2.2.2.2.2.2.2.1 E r c) (br (a.2.2.1==6) F<|br (b.2.2.1==6) F (∃n:Bool,Q103 69 [.agg B] n/\br n (∃o:Bool,Q103 69 [.agg D] o/\br o (br (a.1==b.1) (∃m:Int×Wk,Q124 70 0 3 0 0 (.agg B) (.agg D) (wOb b.2.2.2.2.2.2.2.2 []) (Q24 m.1) (wSb m.2 [])/\Q88 m.1 (wSb m.2 []) r c) G) G) G)))):=zh
theorem v47_3an (a:Nat)(m:Int)(b c:Nat)(n o:Int)(d:Nat)(q:List MapZ)(r s t p:RW)(e:Int)(f:RW)(g h i j k:Int)(l:RW)(K:St->Prop):prepV 14 [7,8,9,10] [2,7,90] K ⟨[Q64 2 11 1,Q64 7 12 7,Q6 90<|.fn (.func 46) [] [(false,[(.ep 13 1 0 0)])]],[Q87 0 3 1 6 0 0 (Q3 10 2 0 a) m,Q99 1 7 b 8 c n o 9 d,Q133,Q134,Q22 4,Q61 5 q,Q22 6,Q137 7 r,Q126 8 s,Q113 9 t,Q12 10 2 p,Q34 11 1<|Q141 0 3,Q34 12 7<|Q111 e 1 f g h i j k,Q34 13 1<|Q145 1 l],14⟩=
  (K ⟨[Q64 2 11 1,Q64 7 12 7,Q6 90<|.fn (.func 46) [] [(false,[(.ep 13 1 0 0)])]],[Q87 0 3 1 6 0 0 (Q3 17 2 0 a) m,Q99 1 14 b 15 c n o 16 d,Q133,Q134,Q22 4,Q61 5 q,Q22 6,Q22 7,Q22 8,Q22 9,Q22 10,Q34 11 1<|Q141 0 3,Q34 12 7<|Q111 e 1 f g h i j k,Q34 13 1<|Q145 1 l,Q137 14 r,Q126 15 s,Q113 16 t,Q12 17 2 p],18⟩):=zg
theorem v47_3ara (b:Nat)(o:Int)(d e:Nat)(p q:Int)(f:Nat)(w:List MapZ)(g:Int)(a:RW)(h i j l m:Int)(n s t u r:RW)(k v:Int)(R:AHeap->Nat->Prop):vcR rc sh 47 14 [7,8,9,10] 3 [(2,(Q43 11 1 0 0)),(7,(Q43 12 7 0 0)),(90,(.c<|.fn (.func 46) [] [(false,[(.ep 13 1 0 0)])]))] k (Q24 v) [(0,(Q98 3 1 6 0 0 17 2 0 b o)),(1,(Q80 14 d 15 e p q 16 f)),(2,.gone),(3,.gone),(4,.gone),(5,(.mapz w)),(6,.gone),(7,.gone),(8,.gone),(9,.gone),(10,.gone),(11,(Q142 1 0 3)),(12,(Q9 7<|Q111 g 1 a h i j l m)),(13,(Q9 1<|Q145 1 n)),(14,(Q35 s)),(15,(Q31 t)),(16,(Q27 u)),(17,(Q116 r))] 18 R=
  (((FV.L 1 (Q8 1 a)=true)/\((0<=k)/\((k<(length a:Int))/\(([(Q42<|FV.I<|getD (getD a (toNat k) []) 0 FV.N)]:List FV)=(getD a (toNat k) [])))))/\((1<=1)/\((b<=(length r)/\zS (b+1) 16)/\(R [(0,(Q98 3 1 6 0 0 17 2 0 (b+1) o)),(1,(Q80 14 d 15 e p q 16 f)),(2,.gone),(3,.gone),(4,.gone),(5,(.mapz w)),(6,.gone),(7,.gone),(8,.gone),(9,.gone),(10,.gone),(11,(Q142 1 0 3)),(12,(Q9 7<|Q111 g 1 a h i j l m)),(13,(Q9 1<|Q145 1 n)),(14,(Q35 s)),(15,(Q31 t)),(16,(Q27 u)),(17,(Q116<|(take b r)++[[(Q42 v),(Q42<|FV.I<|getD (getD a (toNat k) []) 0 FV.N)]]))] 18)))):=zg
theorem v47_3aza (a:Nat)(e:Int)(b c:Nat)(f g:Int)(d:Nat)(v:List MapZ)(h:Int)(i:RW)(j k l m n:Int)(o q s t u:RW)(r:TV)(p:LA):vcA rc sh lv47 47 7 (λr0 Hs0=>TV.Le r0 r/\Hs0=p) (RPt rc 47 7 r p) 3 ⟨[Q64 2 11 1,Q64 7 12 7,Q6 90<|.fn (.func 46) [] [(false,[(.ep 13 1 0 0)])]],[Q87 0 3 1 6 0 0 (Q3 17 2 0 a) e,Q99 1 14 b 15 c f g 16 d,Q133,Q134,Q22 4,Q61 5 v,Q22 6,Q22 7,Q22 8,Q22 9,Q22 10,Q34 11 1<|Q141 0 3,Q34 12 7<|Q111 h 1 i j k l m n,Q34 13 1<|Q145 1 o,Q137 14 q,Q126 15 s,Q113 16 t,Q12 17 2 u],18⟩=
  (Q88 0 (Q89 (Q98 3 1 6 0 0 10 2 0 a e) (Q80 7 b 8 c f g 9 d) .gone .gone (.mapz v) .gone (Q35 q) (Q31 s) (Q27 t)<|Q116 u) r p):=zg
abbrev w50_1 (a:Int×Int×Int)(r:TV)(b c:Nat)(d e:Int)(f:Nat)(g h i:RW)(j:List MapZ)(Hs':LA)(k l m n o p:Int):Prop:=(br (a.2.2 !=0) (RT (Q114 (Q72 2 0 0 0 0) 0) (Q144 3 1 6 0 0 a.2.1 a.2.2 2 b 3 c d e 4 f g h i j) r Hs')<|RT (Q114 (Q72 k l m n o) p) (Q144 3 1 6 0 0 (wrap .i64<|a.2.1-1) a.2.2 2 b 3 c d e 4 f g h i j) r Hs')
abbrev w50_0 (a b:Int)(c d:Nat)(e f:Int)(g:Nat)(h i j:RW)(k:List MapZ)(r:TV)(Hs':LA)(l m n o p q:Int):Prop:=(∃z8:Int×Int×Int,((Q122 74 0 3 0 0 1 (Q144 3 1 6 0 0 a b 2 c 3 d e f 4 g h i j k) (Q24 z8.1)<|Q144 3 1 6 0 0 z8.2.1 z8.2.2 2 c 3 d e f 4 g h i j k)/\(w50_1 z8 r c d e f g h i j k Hs' l m n o p q)))
theorem v50 (a g h:Int)(c d:Nat)(e f:Int)(b:Nat)(l m n:RW)(k:List MapZ)(r:TV)(i:LA):let A:=Q144 3 1 6 0 0 g h 2 c 3 d e f 4 b l m n k;let B:=Q62 1 c 2 d e f 3 b 4 l m n k;VE lv3 50 6 r i (Q68 0 3 0 0<|Q24 a) A=
  (∃o:Int,Q122 56 0 6 0 0 a B (Q24 o) B/\∃n2 n3:Int,∃n4 n5 n6:Int,let C:=Q72 n2 n3 n4 n5 n6;let D:=w50_0 g h c d e f b l m n k r i n2 n3 n4 n5 n6 o;∃p:Bool,Q122 28 0 6 0 0 o B (Q120 C p) B/\br (!p) D (br (decide (9<=n2)) D<|br (n2==5) D<|br (decide (g<=0)) (∃j:Int×Int×Int,Q122 74 0 3 0 0 80 A (Q24 j.1) (Q144 3 1 6 0 0 j.2.1 j.2.2 2 c 3 d e f 4 b l m n k)/\w50_1 j r c d e f b l m n k i n2 n3 n4 n5 n6 o)<|br (h !=0) (RT (Q114 (Q72 2 0 0 0 0) 0) A r i)<|RT (Q114 C o) (Q144 3 1 6 0 0 (wrap .i64<|g-1) h 2 c 3 d e f 4 b l m n k) r i)):=zh
def lv51:LV:=[(1,[2,3,5,6]),(12,[2,3,5,6]),(16,[2,3,5,6]),(1000001,[2,3,4])]
theorem v51 (i g j k l m n:Int)(b c:Nat)(e f:Int)(a:Nat)(p q s:RW)(o:List MapZ)(r:TV)(h:LA):let A:=Q144 3 1 6 0 0 m n 2 b 3 c e f 4 a p q s o;VE lv51 51 6 r h (Q68 0 3 0 0<|Q91 i g j k l) A=
  (∃d:Int×Int×Int×Int×Int×Int×Int×Int,let B:=Q72 d.1 d.2.1 d.2.2.1 d.2.2.2.1 d.2.2.2.2.1;Q122 50 0 3 0 0 g A (Q114 B d.2.2.2.2.2.1) (Q144 3 1 6 0 0 d.2.2.2.2.2.2.1 d.2.2.2.2.2.2.2 2 b 3 c e f 4 a p q s o)/\Q81 51 6 r h 1 (Q104 (Q64 2 9 1) (Q64 3 10 5) (Q64 5 11 5) 6 d.2.2.2.2.2.1) [Q87 0 3 1 6 0 0 (Q2 d.2.2.2.2.2.2.1) d.2.2.2.2.2.2.2,Q99 1 6 b 7 c e f 8 a,Q133,Q134,Q22 4,Q61 5 o,Q137 6 p,Q126 7 q,Q113 8 s,Q34 9 1<|Q141 0 3,Q34 10 5<|Q72 i g j k l,Q34 11 5 B] 12):=zh
theorem oM (y h f:Int)(c d:Nat)(i j:Int)(b:Nat)(x:List MapZ)(z J K:RW)(p q t u v e k l m n:Int)(r:TV)(o:LA):let A:=Q64 2 9 1;let B:=Q64 3 10 5;let D:=Q64 5 11 5;let E:=Q141 0 3;let F:=Q72 p q t u v;let G:=Q72 e k l m n;let H:=Q81 51 6 r o 12 (Q104 A B D 6 y) [Q87 0 3 1 6 0 0 (Q2 h) f,Q99 1 6 c 7 d i j 8 b,Q133,Q134,Q22 4,Q61 5 x,Q137 6 z,Q126 7 J,Q113 8 K,Q34 9 1 E,Q34 10 5 F,Q34 11 5 G] 12;VQ lv51 51 6 r o 1 ⟨Q104 A B D 6 y,[Q87 0 3 1 6 0 0 (Q2 h) f,Q99 1 6 c 7 d i j 8 b,Q133,Q134,Q22 4,Q61 5 x,Q137 6 z,Q126 7 J,Q113 8 K,Q34 9 1 E,Q34 10 5 F,Q34 11 5 G],12⟩=
  (br (f==0) (br (e==8) (∃w:Int×Rd,Q75 51 0 3 0 0 (Q91 e k l m n) (Q144 3 1 6 0 0 h f 2 c 3 d i j 4 b z J K x) (Q24 w.1) (rSb w.2 [])/\∃a:Rd,Q124 52 0 3 0 0 (Q24 y) (Q24 w.1) (rOb w.2 []) (.tup []) (rSb a [])/\∃g:Int×Int×Int×Int×Int×Int×Int×Int,let I:=Q72 g.1 g.2.1 g.2.2.1 g.2.2.2.1 g.2.2.2.2.1;Q122 50 0 3 0 0 w.1 (rOb a []) (Q114 I g.2.2.2.2.2.1) (Q144 3 1 6 0 0 g.2.2.2.2.2.2.1 g.2.2.2.2.2.2.2 2 (length a.s.C) 3 (length a.s.T) a.s.M a.s.L 4 (length a.s.N) (CR a.s.C) (TR a.s.T) (NR a.s.N)<|NM a.s.N 0)/\Q81 51 6 r o 1 (Q104 A B D 6 g.2.2.2.2.2.1) [Q87 0 3 1 6 0 0 (Q2 g.2.2.2.2.2.2.1) g.2.2.2.2.2.2.2,Q99 1 6 (length a.s.C) 7 (length a.s.T) a.s.M a.s.L 8<|length a.s.N,Q133,Q134,Q22 4,Q61 5<|NM a.s.N 0,Q137 6<|CR a.s.C,Q126 7<|TR a.s.T,Q113 8<|NR a.s.N,Q34 9 1 E,Q34 10 5 F,Q34 11 5 I] 12) H) H):=zh
theorem v51_12a (u e d:Int)(b c:Nat)(f g:Int)(a:Nat)(t:List MapZ)(v w x:RW)(k l m h i n o p q s:Int)(r:TV)(j:LA):let A:=Q72 k l m h i;let B:=Q72 n o p q s;let C:=Q88 u (Q130 (Q84 3 1 6 0 0 e d) (Q80 6 b 7 c f g 8 a) .gone (.mapz t) v w x) r j;let D:=Q81 51 6 r j 16 (Q104 (Q64 2 9 1) (Q64 3 10 5) (Q64 5 11 5) 6 u) [Q87 0 3 1 6 0 0 (Q2 e) d,Q99 1 6 b 7 c f g 8 a,Q133,Q134,Q22 4,Q61 5 t,Q137 6 v,Q126 7 w,Q113 8 x,Q34 9 1<|Q141 0 3,Q34 10 5 A,Q34 11 5 B] 12;VQ lv51 51 6 r j 12 ⟨Q104 (Q64 2 9 1) (Q64 3 10 5) (Q64 5 11 5) 6 u,[Q87 0 3 1 6 0 0 (Q2 e) d,Q99 1 6 b 7 c f g 8 a,Q133,Q134,Q22 4,Q61 5 t,Q137 6 v,Q126 7 w,Q113 8 x,Q34 9 1<|Q141 0 3,Q34 10 5 A,Q34 11 5 B],12⟩=
  (br (d !=0) C<|br (h==0) (br (i==0) C D) D):=zh
theorem v51_16a (U n o:Int)(d g:Nat)(p q:Int)(c:Nat)(H:List MapZ)(O P S:RW)(u v a w j h i x y z:Int)(r:TV)(t:LA):let A:=Q72 u v a w j;let B:=Q144 3 1 6 0 0 n o 2 d 3 g p q 4 c O P S H;let D:=Q142 1 1 3;VQ lv51 51 6 r t 16 ⟨Q104 (Q64 2 9 1) (Q64 3 10 5) (Q64 5 11 5) 6 U,[Q87 0 3 1 6 0 0 (Q2 n) o,Q99 1 6 d 7 g p q 8 c,Q133,Q134,Q22 4,Q61 5 H,Q137 6 O,Q126 7 P,Q113 8 S,Q34 9 1<|Q141 0 3,Q34 10 5 A,Q34 11 5<|Q72 h i x y z],12⟩=
  (br (h==3) (∃I:Int×Rd,Q124 76 0 3 0 0 (Q91 u v a w j) (Q24 i) B (Q24 I.1) (rSb I.2 [])/\Q88 I.1 (rSb I.2 []) r t)<|br (h==6) (∃k:Int×Rd,Q75 55 0 3 0 0 (Q91 10 a j 0 0) B (Q24 k.1) (rSb k.2 [])/\∃l:Int×Rd,Q10 75 [Q24 i,Q24 k.1,Q24 1,Q43 0 1 0 0,Q43 7 5 0 0] [Q142 1 1 3,Q84 3 2 6 0 0 k.2.f k.2.e,Q52 3 (length k.2.s.C) 4 (length k.2.s.T) k.2.s.M k.2.s.L 5 (length k.2.s.N) 6,Q35<|CR k.2.s.C,Q31<|TR k.2.s.T,Q27<|NR k.2.s.N,.mapz<|NM k.2.s.N 0,Q9 5 A] (Q24 l.1) (Q89 D (Q84 3 2 6 0 0 l.2.f l.2.e) (Q52 8 (length l.2.s.C) 9 (length l.2.s.T) l.2.s.M l.2.s.L 10 (length l.2.s.N) 6) .gone .gone (.mapz<|NM l.2.s.N 0) (Q9 5 A) (Q35<|CR l.2.s.C) (Q31<|TR l.2.s.T)<|Q27<|NR l.2.s.N)/\∃J:Int×Rd,Q75 55 0 3 0 0 (Q91 6 l.1 0 0 0) (rOb l.2 []) (Q24 J.1) (rSb J.2 [])/\Q88 J.1 (rSb J.2 []) r t)<|br (h==7) (∃b:Int×Rd,let E:=length b.2.s.C;let F:=length b.2.s.T;let G:=length b.2.s.N;Q10 75 [Q24 i,Q24 a,Q24 0,Q43 0 1 0 0,Q43 7 5 0 0] [Q142 1 1 3,Q84 3 2 6 0 0 n o,Q52 3 d 4 g p q 5 c 6,Q35 O,Q31 P,Q27 S,.mapz H,Q9 5 A] (Q24 b.1) (Q89 D (Q84 3 2 6 0 0 b.2.f b.2.e) (Q52 8 E 9 F b.2.s.M b.2.s.L 10 G 6) .gone .gone (.mapz<|NM b.2.s.N 0) (Q9 5 A) (Q35<|CR b.2.s.C) (Q31<|TR b.2.s.T)<|Q27<|NR b.2.s.N)/\∃m:Int×Rd,Q10 75 [Q24 x,Q24 a,Q24 0,Q43 0 1 0 0,Q43 7 5 0 0] [Q142 1 1 3,Q84 3 2 6 0 0 b.2.f b.2.e,Q52 3 E 4 F b.2.s.M b.2.s.L 5 G 6,Q35<|CR b.2.s.C,Q31<|TR b.2.s.T,Q27<|NR b.2.s.N,.mapz<|NM b.2.s.N 0,Q9 5 A] (Q24 m.1) (Q89 D (Q84 3 2 6 0 0 m.2.f m.2.e) (Q52 8 (length m.2.s.C) 9 (length m.2.s.T) m.2.s.M m.2.s.L 10 (length m.2.s.N) 6) .gone .gone (.mapz<|NM m.2.s.N 0) (Q9 5 A) (Q35<|CR m.2.s.C) (Q31<|TR m.2.s.T)<|Q27<|NR m.2.s.N)/\∃K:Int×Rd,Q75 55 0 3 0 0 (Q91 7 b.1 m.1 0 0) (rOb m.2 []) (Q24 K.1) (rSb K.2 [])/\Q88 K.1 (rSb K.2 []) r t)<|Q88 U (Q130 (Q84 3 1 6 0 0 n o) (Q80 6 d 7 g p q 8 c) .gone (.mapz H) O P S) r t):=zh
def lv52:LV:=[(1000001,[2,3,4])]
theorem v52 (a b h g:Int)(e f:Nat)(i j:Int)(d:Nat)(n o p:RW)(m:List MapZ)(r:TV)(k:LA):let A:=RT (.tup []) (Q130 (Q84 3 1 6 0 0 h g) (Q80 6 e 7 f i j 8 d) .gone (.mapz m) n o p) r k;VE lv52 52 6 r k (Q85 0 3 0 0 (Q24 a)<|Q24 b) (Q144 3 1 6 0 0 h g 2 e 3 f i j 4 d n o p m)=
  (br (g==0) (br (a !=b) (∃c:Int×Hp,let B:=length c.2.C;let D:=length c.2.T;let E:=length c.2.N;let F:=CR c.2.C;let G:=TR c.2.T;let H:=NR c.2.N;let I:=NM c.2.N 0;Q124 77 0 6 0 0 (Q24 a) (Q91 5 b 0 0 0) (Q62 1 e 2 f i j 3 d 4 n o p m) (Q24 c.1) (hSb c.2 [])/\∃l:Int×Int×Int,Q122 74 0 3 0 0 c.1 (Q144 3 1 6 0 0 h g 2 B 3 D c.2.M c.2.L 4 E F G H I) (Q24 l.1) (Q144 3 1 6 0 0 l.2.1 l.2.2 2 B 3 D c.2.M c.2.L 4 E F G H I)/\RT (.tup []) (Q130 (Q84 3 1 6 0 0 l.2.1 l.2.2) (Q80 6 B 7 D c.2.M c.2.L 8 E) .gone (.mapz I) F G H) r k) A) A):=zh
def lv54:LV:=[(1,[0,2,3])]
theorem v54 (s:RW)(r:TV)(a:LA):VE lv54 54 0 r a [Q101 1 s] []=
  ((FV.L 1 (Q8 1 s)=true)/\Q81 54 0 r a 1 [Q65 0 1 s,Q23 2 0,Q23 3<|wrap .i64<|(length s:Int)-(1:Int)] [] 0):=zg
theorem v54_1a (a:RW)(c d:Int)(r:TV)(b:LA):let A:=FV.L 1 (Q8 1 a)=true;let B:=(length a:Int);let C:=getD a (toNat d) [];let D:=getD a (toNat c) [];let E:=A/\(0<=c)/\(c<B)/\(([(Q42<|FV.I<|getD D 0 FV.N)]:List FV)=D);VQ lv54 54 0 r b 1 ⟨[Q65 0 1 a,Q23 2 c,Q23 3 d],[],0⟩=
  (br (decide (c<d)) ((A/\(0<=d)/\(d<B)/\(([(Q42<|FV.I<|getD C 0 FV.N)]:List FV)=C))/\E/\E/\False)<|RT (.tup []) [] r b):=zh
theorem v53 (c a d e f j k l:Int)(g h:Nat)(m n:Int)(b:Nat)(t u v:RW)(s:List MapZ)(r:TV)(i:LA):let A:=Q144 3 1 6 0 0 k l 2 g 3 h m n 4 b t u v s;VE lv52 53 6 r i (Q85 0 3 0 0 (Q91 c a d e f)<|Q24 j) A=
  (∃o:Int×Rd,Q75 55 0 3 0 0 (Q91 9 0 0 0 0) A (Q24 o.1) (rSb o.2 [])/\∃p:Int×Rd,Q75 55 0 3 0 0 (Q91 11 o.1 j 0 0) (rOb o.2 []) (Q24 p.1) (rSb p.2 [])/\∃q:Int×Rd,Q75 55 0 3 0 0 (Q91 8 a p.1 1 0) (rOb p.2 []) (Q24 q.1) (rSb q.2 [])/\Q88 q.1 (rSb q.2 []) r i):=zh
theorem v55 (l m n o p f e:Int)(c d:Nat)(g h:Int)(b:Nat)(q s t:RW)(k:List MapZ)(r:TV)(i:LA):let A:=Q91 l m n o p;VE lv52 55 6 r i (Q68 0 3 0 0 A) (Q144 3 1 6 0 0 f e 2 c 3 d g h 4 b q s t k)=
  (br (e !=0) (Q88 0 (Q130 (Q84 3 1 6 0 0 f e) (Q80 6 c 7 d g h 8 b) .gone (.mapz k) q s t) r i) (∃a:(Int×Int)×Hp,let B:=length a.2.C;let D:=length a.2.T;let E:=length a.2.N;let F:=CR a.2.C;let G:=TR a.2.T;let H:=NR a.2.N;let I:=NM a.2.N 0;Q75 22 0 6 0 0 A (Q62 1 c 2 d g h 3 b 4 q s t k) (Q60 a.1.1 a.1.2) (hSb a.2 [])/\∃j:Int×Int×Int,Q122 74 0 3 0 0 a.1.2 (Q144 3 1 6 0 0 f e 2 B 3 D a.2.M a.2.L 4 E F G H I) (Q24 j.1) (Q144 3 1 6 0 0 j.2.1 j.2.2 2 B 3 D a.2.M a.2.L 4 E F G H I)/\Q88 a.1.1 (Q130 (Q84 3 1 6 0 0 j.2.1 j.2.2) (Q80 6 B 7 D a.2.M a.2.L 8 E) .gone (.mapz I) F G H) r i)):=zh
def lv56:LV:=[(1,[0,1,11,12])]
theorem v56 (a:Int)(b d:Nat)(e f:Int)(c:Nat)(i j k:RW)(h:List MapZ)(r:TV)(g:LA):VE lv56 56 5 r g (Q68 0 6 0 0<|Q24 a) (Q62 1 b 2 d e f 3 c 4 i j k h)=
  (Q81 56 5 r g 1 (Q132 (Q64 0 0 6) (Q23 1 a) 11 (b:Int) 12 0) [(0,Q52 1 b 2 d e f 3 c 4),Q137 1 i,Q126 2 j,Q113 3 k,Q61 4 h] 5):=zg
theorem v56_1a (j g h:Int)(b c:Nat)(d e:Int)(a:Nat)(k l m:RW)(i:List MapZ)(r:TV)(f:LA):let A:=Q62 1 b 2 c d e 3 a 4 k l m i;let B:=Q88 j A r f;VQ lv56 56 5 r f 1 ⟨Q132 (Q64 0 0 6) (Q23 1 j) 11 g 12 h,[(0,Q52 1 b 2 c d e 3 a 4),Q137 1 k,Q126 2 l,Q113 3 m,Q61 4 i],5⟩=
  (br (decide (h<g)) (∃n1 n2:Int,∃n3 n4 n5:Int,∃n:Bool,Q122 28 0 6 0 0 j A (Q120 (Q72 n1 n2 n3 n4 n5) n) A/\br (!n) B (br (n1 !=5) B<|Q81 56 5 r f 1 (Q132 (Q64 0 0 6) (Q23 1 n2) 11 g 12<|wrap .i64<|h+1) [(0,Q52 1 b 2 c d e 3 a 4),Q137 1 k,Q126 2 l,Q113 3 m,Q61 4 i] 5)) B):=zh
theorem v54_i1 (b:Nat)(d:RW)(r:TV)(a:LA):VE lv54 54 1 r a [.c<|Q3 0 1 0 b] [Q27 d]=
  (Q81 54 1 r a 1 [Q93 0 0 1 0 b,Q23 2 0,Q23 3<|wrap .i64<|(b:Int)-(1:Int)] [Q113 0 d] 1):=zg
theorem YZ (a:Nat)(d e:Int)(b:RW)(r:TV)(c:LA):let A:=0<=e/\e<(a:Int);let B:=0+(toNat e);let C:=length b;let D:=Q42 (FV.I<|getD (getD b B []) 0 FV.N);let E:=0<=d/\d<(a:Int);let F:=0+(toNat d);let G:=getD b F [];let H:=Q42 (FV.I<|getD G 0 FV.N);let I:=List.set b F [D];VQ lv54 54 1 r c 1 ⟨[Q93 0 0 1 0 a,Q23 2 d,Q23 3 e],[Q113 0 b],1⟩=
  (br (decide (d<e)) (A/\((B<C)/\(([D]:List FV)=(take 1<|drop 0<|getD b B []))/\((1:Nat)=1))/\E/\((F<C)/\(([H]:List FV)=(take 1<|drop 0 G))/\((1:Nat)=1))/\E/\(F<C/\(length G)=1)/\A/\(B<(length I)/\(length<|getD I B [])=1)/\Q81 54 1 r c 1 [Q93 0 0 1 0 a,Q23 2<|wrap .i64<|d+1,Q23 3<|wrap .i64<|e-1] [Q113 0<|List.set I B [H]] 1)<|RT (.tup []) [Q27 b] r c):=zh
theorem v57 (b:Int)(c:LU)(d:Int)(a:RW)(r:TV)(e:LA):let A:=FV.L 4 (Q8 4 a)=true;let B:=RT (Q120 (Q74 0 [] 0) false) [] r e;let C:=(length a:Int);let D:=wrap .i64 (C-(1:Int));let E:=getD a (toNat D) [];let F:=A/\(0<=D)/\(D<C)/\(((rE E):List FV)=E);let G:=getD a 0 [];VE lv3 57 0 r e [Q78 b c d 4 a] []=
  (A/\br (b !=6) B (F/\br ((FV.I<|getD E 0 FV.N) !=3) B (F/\br ((FV.I<|getD E 2 FV.N) !=0) B ((A/\(0<=(0:Int))/\((0:Int)<C)/\(((rE G):List FV)=G))/\A/\((0<=(1:Int))/\((1:Int)<=D)/\(D<=C))/\∃f:Tm,Q96 15 [(aE G),Q101 4<|drop 1<|take (toNat D) a] (aT f)/\∃g:Bool,Q103 78 [(aT f),Q24 0] g/\br g B (∃h:Tm,Q96 79 [(aT f),Q24 0,Q24 (-1:Int)] (aT h)/\RT (Q120 (cT h) true) [] r e))))):=zh
theorem v58 (a:Int)(d e:Nat)(f g:Int)(b:Nat)(k l m:RW)(j:List MapZ)(r:TV)(c:LA):let A:=Q62 1 d 2 e f g 3 b 4 k l m j;VE lv3 58 5 r c (Q68 0 6 0 0<|Q24 a) A=
  (∃n1 n2:Int,∃n3 n4 n5:Int,∃h:Bool,Q122 28 0 6 0 0 a A (Q120 (Q72 n1 n2 n3 n4 n5) h) A/\br h (∃i:Bool,Q103 80 [Q91 n1 n2 n3 n4 n5] i/\Q66 (!i) A r c) (Q90 A r c)):=zh
theorem v59 (a:Int)(d e:Nat)(f g:Int)(b:Nat)(k l m:RW)(j:List MapZ)(r:TV)(c:LA):let A:=Q62 1 d 2 e f g 3 b 4 k l m j;VE lv3 59 5 r c (Q68 0 6 0 0<|Q24 a) A=
  (∃n1 n2:Int,∃n3 n4 n5:Int,∃h:Bool,Q122 28 0 6 0 0 a A (Q120 (Q72 n1 n2 n3 n4 n5) h) A/\br h (∃i:Bool,Q103 80 [Q91 n1 n2 n3 n4 n5] i/\Q66 i A r c) (Q90 A r c)):=zh
theorem v60 (s:LU)(r:TV)(a:LA):VE lv3 60 0 r a [Q143 s] []=
  (br (!((s:LU)==[])) (Q66 (decide (((length s:Int):Int)<=(32:Int))) [] r a)<|Q90 [] r a):=zg
theorem v61 (c:Int)(r:TV)(a:LA):VE lv3 61 0 r a [.c<|Q1 .u8 c] []=
  (br (decide (97<=c)) (Q66 (decide (c<=122)) [] r a)<|Q90 [] r a):=zg
theorem v62_F63 (s:LU)(r:TV)(a:LA):VE lv45 62 0 r a [Q143 s,.c<|.fn (.func 63) [] []] []=
  (Q81 62 0 r a 1 (Q132 (Q6 0<|Q25 s) (Q6 1<|.fn (.func 63) [] []) 7 (length s:Int) 8 0) [] 0):=zg
theorem W2 (d:LU)(e b:Int)(r:TV)(a:LA):let A:=Q6 1 (.fn (.func 63) [] []);let B:=(length d:Int);VQ lv45 62 0 r a 1 ⟨Q132 (Q6 0<|Q25 d) A 7 e 8 b,[],0⟩=
  (br (decide (b<e)) ((0<=b/\b<B)/\∃f:Bool,Q103 63 [.c<|Q1 .u8 ((UInt8.toNat (getD d (toNat b) 0):Nat):Int)] f/\br (!f) (Q88 b [] r a) (Q81 62 0 r a 1 (Q132 (Q6 0<|Q25 d) A 7 e 8<|wrap .i64<|b+1) [] 0))<|Q88 B [] r a):=zh
theorem v62_F64 (s:LU)(r:TV)(a:LA):VE lv45 62 0 r a [Q143 s,.c<|.fn (.func 64) [] []] []=
  (Q81 62 0 r a 1 (Q132 (Q6 0<|Q25 s) (Q6 1<|.fn (.func 64) [] []) 7 (length s:Int) 8 0) [] 0):=zg
theorem XP (d:LU)(e b:Int)(r:TV)(a:LA):let A:=Q6 1 (.fn (.func 64) [] []);let B:=(length d:Int);VQ lv45 62 0 r a 1 ⟨Q132 (Q6 0<|Q25 d) A 7 e 8 b,[],0⟩=
  (br (decide (b<e)) ((0<=b/\b<B)/\∃f:Bool,Q103 64 [.c<|Q1 .u8 ((UInt8.toNat (getD d (toNat b) 0):Nat):Int)] f/\br (!f) (Q88 b [] r a) (Q81 62 0 r a 1 (Q132 (Q6 0<|Q25 d) A 7 e 8<|wrap .i64<|b+1) [] 0))<|Q88 B [] r a):=zh
theorem v65 (s a:LU)(r:TV)(b:LA):VE lv3 65 0 r b [Q143 s,Q143 a] []=
  (∃c:Int,Q96 84 [Q143 s,Q143 a] (Q24 c)/\Q66 (decide (c>=0)) [] r b):=zg
theorem v66_F41 (s:RW)(r:TV)(a:LA):VE lv45 66 0 r a [Q101 4 s,.c<|.fn (.func 41) [] []] []=
  ((FV.L 4 (Q8 4 s)=true)/\Q81 66 0 r a 1 (Q132 (Q65 0 4 s) (Q6 1<|.fn (.func 41) [] []) 7 (length s:Int) 8 0) [] 0):=zg
theorem W0 (c:RW)(d b:Int)(r:TV)(a:LA):let A:=Q6 1 (.fn (.func 41) [] []);let B:=getD c (toNat b) [];VQ lv45 66 0 r a 1 ⟨Q132 (Q65 0 4 c) A 7 d 8 b,[],0⟩=
  (br (decide (b<d)) (((FV.L 4 (Q8 4 c)=true)/\(0<=b)/\(b<(length c:Int))/\(((rE B):List FV)=B))/\∃e:Bool,Q103 41 [(aE B)] e/\br e (Q88 b [] r a) (Q81 66 0 r a 1 (Q132 (Q65 0 4 c) A 7 d 8<|wrap .i64<|b+1) [] 0))<|Q88 (-1:Int) [] r a):=zh
theorem v27 (x:Int)(b c:Nat)(d e:Int)(a:Nat)(i j k:RW)(g:List MapZ)(r:TV)(f:LA):let A:=Q92 (Q142 1 1 6) 2 b 3 c d e 4 a i j k g;let B:=Q62 1 b 2 c d e 3 a 4 i j k g;VE lv3 27 6 r f [Q24 x,Q43 0 1 0 0] A=
  (∃n1 n2:Int,∃n3 n4 n5:Int,∃h:Bool,Q122 28 0 6 0 0 x B (Q120 (Q72 n1 n2 n3 n4 n5) h) B/\br (!h) (Q66 true A r f) (Q66 (decide (n1>=9)) A r f)):=zh
def lv67:LV:=[(1000001,[2,3,4,6])]
theorem v67 (a:Int)(c:Nat)(d:Int)(f g:Nat)(h i:Int)(e:Nat)(m n o:RW)(l:List MapZ)(k:RW)(r:TV)(j:LA):VE lv67 67 7 r j (Q68 0 3 0 0<|Q24 a) (Q125 (Q98 3 1 6 0 0 6 2 0 c d) (Q80 2 f 3 g h i 4 e) m n o l k)=
  (∃b:Int×List Int×Int×Int×Hp,let A:=Q80 7 (length b.2.2.2.2.C) 8 (length b.2.2.2.2.T) b.2.2.2.2.M b.2.2.2.2.L 9 (length b.2.2.2.2.N);let B:=NM b.2.2.2.2.N 0;let D:=Q35 (CR b.2.2.2.2.C);let E:=Q31 (TR b.2.2.2.2.T);let F:=Q27 (NR b.2.2.2.2.N);let G:=hOb b.2.2.2.2 [];Q124 85 0 6 0 0 (Q24 a) (Q24 d) (Q62 1 f 2 g h i 3 e 4 m n o l) (.tup [Q76<|Q123 b.1<|Q20 1<|IR b.2.1,Q38 b.2.2.1,Q38 b.2.2.2.1]) (hSb b.2.2.2.2 [])/\br (b.2.2.2.1 !=0) (RT (Q114 [Q2 0,Q39,Q2 0,Q2 0,Q2 0,Q2 0,Q2 0] b.2.2.2.1) (Q89 (Q98 3 1 6 0 0 10 2 0 c d) A .gone .gone (.mapz B) .gone D E F<|Q116 k) r j) (∃n2 n3:Int,∃n4 n5 n6:Int,∃p:Bool,Q122 28 0 6 0 0 b.1 G (Q120 (Q72 n2 n3 n4 n5 n6) p) G/\RT (Q114 (Q111 b.1 1 (IR b.2.1) n2 n3 n4 n5 n6) 0) (Q89 (Q98 3 1 6 0 0 10 2 0 c b.2.2.1) A .gone .gone (.mapz B) .gone D E F<|Q116 k) r j)):=zg
theorem v68 (o:Int)(p:RW)(t u v w x y:Int)(q:RW)(z E F G H j k:Int)(d:Nat)(i:Int)(g h:Nat)(l m:Int)(e:Nat)(K O P:RW)(I:List MapZ)(J:RW)(r:TV)(b:LA):let A:=Q111 o 1 p t u v w x;let B:=Q111 y 1 q z E F G H;let D:=Q125 (Q98 3 1 6 0 0 6 2 0 d i) (Q80 2 g 3 h l m 4 e) K O P I J;VE lv67 68 7 r b [Q43 0 3 0 0,.agg A,.agg B,.agg<|Q123 j<|Q2 k] D=
  (∃c:Int×Int×Wk,Q124 86 0 3 0 0 (.agg A) (Q24 j) D (Q60 c.1 c.2.1) (wSb c.2.2 [])/\br (c.2.1 !=0) (Q88 c.2.1 (wSb c.2.2 []) r b) (∃a:Int×Int×Wk,Q124 86 0 3 0 0 (.agg B) (Q24 k) (wOb c.2.2 []) (Q60 a.1 a.2.1) (wSb a.2.2 [])/\br (a.2.1 !=0) (Q88 a.2.1 (wSb a.2.2 []) r b) ((1<=1)/\(a.2.2.n<=(length a.2.2.R)/\zS (a.2.2.n+1) 16)/\Q88 0 (Q89 (Q98 3 1 6 0 0 10 2 0 (a.2.2.n+1) a.2.2.f) (Q80 7 (length a.2.2.s.C) 8 (length a.2.2.s.T) a.2.2.s.M a.2.2.s.L 9<|length a.2.2.s.N) .gone .gone (.mapz<|NM a.2.2.s.N 0) .gone (Q35<|CR a.2.2.s.C) (Q31<|TR a.2.2.s.T) (Q27<|NR a.2.2.s.N)<|Q116<|(take a.2.2.n a.2.2.R)++[[(Q42 c.1),(Q42 a.1)]]) r b))):=zh
theorem v69 (c:Int)(d:RW)(b e f g h:Int)(r:TV)(a:LA):VE lv3 69 0 r a [.agg<|Q111 c 1 d b e f g h] []=
  (Q66 (b==4) [] r a):=zg
def lv70:LV:=[(3,[0,4,7,9,10,48,49]),(1000001,[2,3,4,6])]
theorem v70 (o:Int)(h:RW)(p k q s t u:Int)(i:RW)(v l w x y:Int)(b:Nat)(j:Int)(e f:Nat)(m n:Int)(c:Nat)(I J K:RW)(z:List MapZ)(H:RW)(r:TV)(a:LA):let A:=Q111 o 1 h p k q s t;let B:=Q125 (Q98 3 1 6 0 0 6 2 0 b j) (Q80 2 e 3 f m n 4 c) I J K z H;VE lv70 70 7 r a (Q85 0 3 0 0 (.agg A)<|.agg<|Q111 u 1 i v l w x y) B=
  (∃d:List Tm×Int×Wk,let C:=FTs d.1;let D:=FV.L 4 (Q8 4 C)=true;let E:=(length C:Int);Q124 87 0 3 0 0 (Q24 k) (Q101 1 h) B (Q45 (Q11<|Q145 4 C) d.2.1) (wSb d.2.2 [])/\br (d.2.1 !=0) (Q88 d.2.1 (wSb d.2.2 []) r a) (∃g:List Tm×Int×Wk,let F:=FTs g.1;let G:=wSb g.2.2 [];Q124 87 0 3 0 0 (Q24 l) (Q101 1 i) (wOb d.2.2 []) (Q45 (Q11<|Q145 4 F) g.2.1) G/\br (g.2.1 !=0) (Q88 g.2.1 G r a) (D/\(FV.L 4 (Q8 4 F)=true)/\br ((E:Int) !=(length F:Int)) (Q88 171 G r a) (D/\Q81 70 7 r a 3 [Q64 0 0 3,Q64 4 11 7,Q65 7 4 C,Q65 9 4 F,Q105 10,Q23 48 E,Q23 49 0] (numO 0<|wSb g.2.2 [Q9 7 A]) 12)))):=zh
theorem v70_3a (u v:RW)(n e:Int)(i:Nat)(f:Int)(b d:Nat)(g h:Int)(a:Nat)(w:List MapZ)(y z H l:RW)(j:Int)(o:RW)(p m q s t:Int)(r:TV)(k:LA):let A:=Q3 10 2 0 i;let B:=Q111 j 1 o p m q s t;let C:=FV.L 4 (Q8 4 u)=true;let D:=(length u:Int);let E:=getD u (toNat e) [];let F:=getD v (toNat e) [];let G:=wrap .i64 (e+1);VQ lv70 70 7 r k 3 ⟨[Q64 0 0 3,Q64 4 11 7,Q65 7 4 u,Q65 9 4 v,Q105 10,Q23 48 n,Q23 49 e],[Q87 0 3 1 6 0 0 A f,Q99 1 7 b 8 d g h 9 a,Q133,Q134,Q22 4,Q61 5 w,Q22 6,Q137 7 y,Q126 8 z,Q113 9 H,Q12 10 2 l,Q34 11 7 B],12⟩=
  (br (decide (e<n)) ((C/\(0<=e)/\(e<D)/\(((rE E):List FV)=E))/\((FV.L 4 (Q8 4 v)=true)/\(0<=e)/\(e<(length v:Int))/\(((rE F):List FV)=F))/\∃I:Bool,Q103 88 [(aE E),(aE F)] I/\br I (C/\∃J:Tm,Q96 89 [Q24<|wrap .i64<|(wrap .i64<|D-(1:Int))-e] (aT J)/\(1<=1)/\zS 1 56/\Q81 70 7 r k 3 [Q64 0 0 3,Q64 4 11 7,Q65 7 4 u,Q65 9 4 v,Q93 10 12 4 0 1,Q23 48 n,Q23 49 G] [Q87 0 3 1 6 0 0 A f,Q99 1 7 b 8 d g h 9 a,Q133,Q134,Q22 4,Q61 5 w,Q22 6,Q137 7 y,Q126 8 z,Q113 9 H,Q12 10 2 l,Q34 11 7 B,Q12 12 4 [(FT4 J)]] 13) (Q81 70 7 r k 3 [Q64 0 0 3,Q64 4 11 7,Q65 7 4 u,Q65 9 4 v,Q105 10,Q23 48 n,Q23 49 G] [Q87 0 3 1 6 0 0 A f,Q99 1 7 b 8 d g h 9 a,Q133,Q134,Q22 4,Q61 5 w,Q22 6,Q137 7 y,Q126 8 z,Q113 9 H,Q12 10 2 l,Q34 11 7 B] 12))<|(FV.L 4 .N=true)/\C/\br (((0:Int):Int)==D) (Q88 0 (Q89 (Q98 3 1 6 0 0 10 2 0 i f) (Q80 7 b 8 d g h 9 a) .gone .gone (.mapz w) .gone (Q35 y) (Q31 z) (Q27 H)<|Q116 l) r k) (C/\∃x:Tm×Int×Wk,Q10 90 [Q43 0 3 0 0,Q24 j,Q24 m,Q24 D,.c Q39] (Q125 (Q98 3 1 6 0 0 6 2 0 i f) (Q80 2 b 3 d g h 4 a) y z H w l) (Q114 (cT x.1) x.2.1) (wSb x.2.2 [])/\Q88 x.2.1 (wSb x.2.2 []) r k)):=zh
theorem v70_3b (v w:RW)(a:Nat)(o e:Int)(i:Nat)(f:Int)(c d:Nat)(g h:Int)(b:Nat)(x:List MapZ)(z H I m:RW)(k:Int)(p:RW)(q n s t u:Int)(j:RW)(r:TV)(l:LA):let A:=Q3 10 2 0 i;let B:=Q111 k 1 p q n s t u;let C:=FV.L 4 (Q8 4 v)=true;let D:=(length v:Int);let E:=getD v (toNat e) [];let F:=getD w (toNat e) [];let G:=wrap .i64 (e+1);VQ lv70 70 7 r l 3 ⟨[Q64 0 0 3,Q64 4 11 7,Q65 7 4 v,Q65 9 4 w,Q93 10 12 4 0 a,Q23 48 o,Q23 49 e],[Q87 0 3 1 6 0 0 A f,Q99 1 7 c 8 d g h 9 b,Q133,Q134,Q22 4,Q61 5 x,Q22 6,Q137 7 z,Q126 8 H,Q113 9 I,Q12 10 2 m,Q34 11 7 B,Q12 12 4 j],13⟩=
  (br (decide (e<o)) ((C/\(0<=e)/\(e<D)/\(((rE E):List FV)=E))/\((FV.L 4 (Q8 4 w)=true)/\(0<=e)/\(e<(length w:Int))/\(((rE F):List FV)=F))/\∃J:Bool,Q103 88 [(aE E),(aE F)] J/\br J (C/\∃K:Tm,Q96 89 [Q24<|wrap .i64<|(wrap .i64<|D-(1:Int))-e] (aT K)/\(1<=1)/\(a<=(length j)/\zS (a+1) 56)/\Q81 70 7 r l 3 [Q64 0 0 3,Q64 4 11 7,Q65 7 4 v,Q65 9 4 w,Q93 10 12 4 0<|a+1,Q23 48 o,Q23 49 G] [Q87 0 3 1 6 0 0 A f,Q99 1 7 c 8 d g h 9 b,Q133,Q134,Q22 4,Q61 5 x,Q22 6,Q137 7 z,Q126 8 H,Q113 9 I,Q12 10 2 m,Q34 11 7 B,Q12 12 4<|(take a j)++[(FT4 K)]] 13) (Q81 70 7 r l 3 [Q64 0 0 3,Q64 4 11 7,Q65 7 4 v,Q65 9 4 w,Q93 10 12 4 0 a,Q23 48 o,Q23 49 G] [Q87 0 3 1 6 0 0 A f,Q99 1 7 c 8 d g h 9 b,Q133,Q134,Q22 4,Q61 5 x,Q22 6,Q137 7 z,Q126 8 H,Q113 9 I,Q12 10 2 m,Q34 11 7 B,Q12 12 4 j] 13))<|C/\br (((a:Int):Int)==D) (Q88 0 (Q89 (Q98 3 1 6 0 0 10 2 0 i f) (Q80 7 c 8 d g h 9 b) .gone .gone (.mapz x) .gone (Q35 z) (Q31 H) (Q27 I)<|Q116 m) r l) (C/\((4:Nat)=4/\(0+a)<=(length j))/\∃y:Tm×Int×Wk,Q10 90 [Q43 0 3 0 0,Q24 k,Q24 n,Q24 D,Q101 4<|take a<|drop 0 j] (Q125 (Q98 3 1 6 0 0 6 2 0 i f) (Q80 2 c 3 d g h 4 b) z H I x m) (Q114 (cT y.1) y.2.1) (wSb y.2.2 [])/\Q88 y.2.1 (wSb y.2.2 []) r l)):=zh
theorem v71 (d:Int)(k:RW)(p h q s t a:Int)(e:Nat)(l:Int)(i j:Nat)(m n:Int)(f:Nat)(x y z:RW)(v:List MapZ)(w:RW)(r:TV)(b:LA):let A:=Q125 (Q98 3 1 6 0 0 6 2 0 e l) (Q80 2 i 3 j m n 4 f) x y z v w;VE lv67 71 7 r b (Q85 0 3 0 0 (.agg<|Q111 d 1 k p h q s t)<|Q24 a) A=
  (∃g:List Tm×Int×Wk,let B:=FTs g.1;Q124 87 0 3 0 0 (Q24 h) (Q101 1 k) A (Q45 (Q11<|Q145 4 B) g.2.1) (wSb g.2.2 [])/\br (g.2.1 !=0) (Q88 g.2.1 (wSb g.2.2 []) r b) (∃c:Tm×Int×Wk,Q10 91 [.agg<|Q136 (Q5 0 3 0 0) d h 4 B,Q24 a,Q24 0] (wOb g.2.2 []) (Q114 (cT c.1) c.2.1) (wSb c.2.2 [])/\br (c.2.1 !=0) (Q88 c.2.1 (wSb c.2.2 []) r b) ((FV.L 4 (Q8 4 B)=true)/\∃u:Tm,Q96 14 [Q24 (length B:Int),(aT c.1)] (aT u)/\∃o:Int×Wk,Q124 92 0 3 0 0 (Q24 d) (aT u) (wOb c.2.2 []) (Q24 o.1) (wSb o.2 [])/\Q88 o.1 (wSb o.2 []) r b))):=zh
theorem v72 (h:Int)(a:RW)(d e i j k l:Int)(b:RW)(f g m n o:Int)(r:TV)(c:LA):let A:=Q66 true [] r c;VE lv3 72 0 r c [.agg<|Q111 h 1 a d e i j k,.agg<|Q111 l 1 b f g m n o] []=
  (br (d !=f) A<|br (e !=g) A<|(FV.L 1 (Q8 1 a)=true)/\(FV.L 1 (Q8 1 b)=true)/\Q66 (((length a:Int):Int) !=(length b:Int)) [] r c):=zh
theorem v74 (e d f:Int)(b c:Nat)(g h:Int)(a:Nat)(k l m:RW)(j:List MapZ)(r:TV)(i:LA):let A:=Q144 3 1 6 0 0 d f 2 b 3 c g h 4 a k l m j;VE lv3 74 6 r i (Q68 0 3 0 0<|Q24 e) A=
  (br (f==0) (Q88 0 (Q144 3 1 6 0 0 d e 2 b 3 c g h 4 a k l m j) r i)<|Q88 0 A r i):=zh
theorem v76 (s t k i f j l m:Int)(d e:Nat)(g h:Int)(b:Nat)(v w x:RW)(u:List MapZ)(r:TV)(c:LA):let A:=Q144 3 1 6 0 0 l m 2 d 3 e g h 4 b v w x u;let B:=Q91 3 (wrap .i64<|(wrap .i64<|j-i)+f) 0 0 0;VE lv52 76 6 r c (Q85 0 3 0 0 (Q91 s t k i f)<|Q24 j) A=
  (br (decide (j<i)) (∃a:Int×Int×Int×Int×Int×Bool×Int×Int,let C:=Q144 3 1 6 0 0 a.2.2.2.2.2.2.1 a.2.2.2.2.2.2.2 2 d 3 e g h 4 b v w x u;let D:=br a.2.2.2.2.2.1 (∃n:Int×Rd,Q124 94 0 3 0 0 (Q24 a.2.2.1) (Q24<|wrap .i64<|f-a.2.2.2.1) C (Q24 n.1) (rSb n.2 [])/\Q88 n.1 (rSb n.2 []) r c) (∃o:Int×Rd,Q75 55 0 3 0 0 B C (Q24 o.1) (rSb o.2 [])/\Q88 o.1 (rSb o.2 []) r c);Q124 93 0 3 0 0 (Q24 k) (Q24 j) A (Q120 (Q72 a.1 a.2.1 a.2.2.1 a.2.2.2.1 a.2.2.2.2.1) a.2.2.2.2.2.1) C/\br a.2.2.2.2.2.1 (br (a.1==10) (∃p:Int×Rd,Q75 55 0 3 0 0 (Q91 3 (wrap .i64<|(wrap .i64<|f-1)-a.2.2.1) 0 0 0) C (Q24 p.1) (rSb p.2 [])/\Q88 p.1 (rSb p.2 []) r c) D) D) (∃q:Int×Rd,Q75 55 0 3 0 0 B A (Q24 q.1) (rSb q.2 [])/\Q88 q.1 (rSb q.2 []) r c)):=zh
def lv75:LV:=[(1000001,[3,4,5])]
theorem v75 (a p d i j:Int)(g h:Nat)(k l:Int)(c:Nat)(w x y:RW)(v:List MapZ)(q t u m n:Int)(r:TV)(o:LA):let A:=Q72 q t u m n;VE lv75 75 8 r o [Q24 a,Q24 p,Q24 d,Q43 0 1 0 0,Q43 7 5 0 0] [Q142 1 1 3,Q84 3 2 6 0 0 i j,Q52 3 g 4 h k l 5 c 6,Q35 w,Q31 x,Q27 y,.mapz v,Q9 5 A]=
  (∃b:Int×Rd,Q75 55 0 3 0 0 (Q91 8 a p (wrap .i64<|m+d)<|wrap .i64<|n+d) (Q144 3 1 6 0 0 i j 2 g 3 h k l 4 c w x y v) (Q24 b.1) (rSb b.2 [])/\Q88 b.1 (Q89 (Q142 1 1 3) (Q84 3 2 6 0 0 b.2.f b.2.e) (Q52 8 (length b.2.s.C) 9 (length b.2.s.T) b.2.s.M b.2.s.L 10 (length b.2.s.N) 6) .gone .gone (.mapz<|NM b.2.s.N 0) (Q9 5 A) (Q35<|CR b.2.s.C) (Q31<|TR b.2.s.T)<|Q27<|NR b.2.s.N) r o):=zh
theorem v77 (a h i j k l:Int)(c b:Nat)(g e:Int)(d:Nat)(n m p:RW)(o:List MapZ)(r:TV)(f:LA):let A:=Q91 h i j k l;let B:=Q62 1 c 2 b g e 3 d 4 n m p o;let C:=Q86 (Q52 5 c 6 b g e 7 d 4) .gone .gone .gone o (Q35 n) (Q31 m) (Q27 p);let D:=Q88 1 C r f;let E:=((b:Int):Int);let F:=wrap .i64 ((b:Int)-(1:Int));let G:=getD m (0+(toNat F)) [];let H:=FV.I (getD G 6 FV.N);let I:=b<=(length m)/\zS (b+1) 56;let J:=0<=a/\a<(c:Int);let K:=0+(toNat a);let L:=K<(length n)/\(length<|getD n K [])=5;let M:=Q52 5 c 6 (b+1) g e 7 d 4;let N:=Q35 (List.set n K [(Q42 h),(Q42 i),(Q42 j),(Q42 k),(Q42 l)]);VE lv8 77 5 r f (Q85 0 6 0 0 (Q24 a) A) B=
  (∃n1 n2:Int,∃n3 n4 n5:Int,∃s:Bool,Q122 28 0 6 0 0 a B (Q120 (Q72 n1 n2 n3 n4 n5) s) B/\br (!s) D (∃t:Bool,Q75 37 0 6 0 0 A B (Q41 t) B/\br (!t) D (∃q:Bool,Q103 80 [Q91 n1 n2 n3 n4 n5] q/\∃u:Bool,Q103 80 [Q91 h i j k l] u/\br (!((q:Bool)==u)) D (br (decide (E>=e)) (Q88 201 C r f)<|br (decide (E>(0:Int))) ((0<=F/\F<(b:Int))/\(((0+(toNat F))<(length m))/\(([(Q42 H)]:List FV)=(take 1<|drop 6 G))/\((1:Nat)=1))/\(1<=1)/\I/\J/\L/\Q88 0 (Q86 M .gone .gone .gone o N (Q31<|(take b m)++[[(Q42 a),(Q42 n1),(Q42 n2),(Q42 n3),(Q42 n4),(Q42 n5),(Q42<|zE [a,H])]])<|Q27 p) r f)<|(1<=1)/\I/\J/\L/\Q88 0 (Q86 M .gone .gone .gone o N (Q31<|(take b m)++[[(Q42 a),(Q42 n1),(Q42 n2),(Q42 n3),(Q42 n4),(Q42 n5),(Q42 a)]])<|Q27 p) r f)))):=zh
theorem v78 (a:Int)(b:LU)(c:Int)(d:RW)(i:Int)(r:TV)(e:LA):VE lv3 78 0 r e [Q78 a b c 4 d,Q24 i] []=
  (∃f:Int,Q96 95 [Q78 a b c 4 d,Q24 i] (Q24 f)/\Q66 (decide (f>0)) [] r e):=zg
theorem v79 (a:Int)(b:LU)(c:Int)(d:RW)(f g:Int)(r:TV)(e:LA):VE lv3 79 0 r e [Q78 a b c 4 d,Q24 f,Q24 g] []=
  (∃h:Tm,Q10 98 [.agg [(.fn (.func 96) [] [(false,[(.ep 0 1 0 0)]),(false,[(.ep 1 1 0 0)])])],Q78 a b c 4 d,Q24 0] [Q146 f,Q146 g] (aT h) [Q146 f,Q146 g]/\RT (aT h) [] r e):=zg
theorem v80 (b c d e f:Int)(r:TV)(a:LA):VE lv3 80 0 r a [Q91 b c d e f] []=
  (br (decide (9<=b)) (Q66 (decide (b<=11)) [] r a)<|Q90 [] r a):=zg
theorem v63 (c:Int)(r:TV)(a:LA):let A:=Q1 .u8 c;let B:=Q66 true [] r a;VE lv3 63 0 r a [.c A] []=
  (∃b:Bool,Q103 61 [.c A] b/\br b B (∃d:Bool,Q103 81 [.c A] d/\br d B (∃e:Bool,Q103 82 [.c A] e/\br e B (Q66 (c==39) [] r a)))):=zh
theorem v64 (c:Int)(r:TV)(a:LA):VE lv3 64 0 r a [.c<|Q1 .u8 c] []=
  (∃b:Int,Q96 83 [Q143 [43,45,42,47,60,62,61,38,124,94,126,64,35,36,63,58],.c<|Q1 .u8 c] (Q24 b)/\Q66 (decide (b>=0)) [] r a):=zg
theorem v84 (s a:LU)(r:TV)(b:LA):VE lv3 84 0 r b [Q143 s,Q143 a] []=
  (∃c:Int,Q96 100 [Q143 s,Q143 a] (Q24 c)/\Q88 c [] r b):=zg
theorem v41 (a:Int)(b:LU)(c:Int)(d:RW)(r:TV)(e:LA):VE lv3 41 0 r e [Q78 a b c 4 d] []=
  (∃f:Bool,Q103 23 [Q78 a b c 4 d] f/\Q66 (!f) [] r e):=zg
theorem v85 (a g:Int)(c d:Nat)(h i:Int)(b:Nat)(m n o:RW)(l:List MapZ)(r:TV)(j:LA):VE lv8 85 5 r j (Q85 0 6 0 0 (Q24 a)<|Q24 g) (Q62 1 c 2 d h i 3 b 4 m n o l)=
  (∃k:Int×List Int×Rd,let A:=Q123 k.1 (Q20 1<|IR k.2.1);let B:=hSb k.2.2.s [];Q122 34 0 3 0 0 a (Q144 3 1 6 0 0 g 0 2 c 3 d h i 4 b m n o l) (.agg A) (rSb k.2.2 [])/\br ((k.2.2.e:Int) !=(0:Int)) (RT (.tup [Q76<|Q138 0,Q38 0,Q38 k.2.2.e]) B r j) (RT (.tup [Q76 A,Q38 k.2.2.f,Q38 0]) B r j)):=zg
theorem v86 (p:Int)(q:RW)(n o t u v a:Int)(h:Nat)(l:Int)(e f:Nat)(j k:Int)(d:Nat)(w x y:RW)(s:List MapZ)(m:RW)(r:TV)(i:LA):let A:=Q98 3 1 6 0 0 10 2 0 h l;VE lv67 86 7 r i (Q85 0 3 0 0 (.agg<|Q111 p 1 q n o t u v)<|Q24 a) (Q125 (Q98 3 1 6 0 0 6 2 0 h l) (Q80 2 e 3 f j k 4 d) w x y s m)=
  (br (n==6) (Q100 o 0 (Q89 A (Q80 7 e 8 f j k 9 d) .gone .gone (.mapz s) .gone (Q35 w) (Q31 x) (Q27 y)<|Q116 m) r i) (∃b:Int×Int×Hp,Q124 101 0 6 0 0 (Q24 a) (Q24 1) (Q62 1 e 2 f j k 3 d 4 w x y s) (Q60 b.1 b.2.1) (hSb b.2.2 [])/\br (b.2.1 !=0) (Q100 0 b.2.1 (Q89 A (Q80 7 (length b.2.2.C) 8 (length b.2.2.T) b.2.2.M b.2.2.L 9<|length b.2.2.N) .gone .gone (.mapz<|NM b.2.2.N 0) .gone (Q35<|CR b.2.2.C) (Q31<|TR b.2.2.T) (Q27<|NR b.2.2.N)<|Q116 m) r i) (∃c:(Int×Int)×Hp,Q75 22 0 6 0 0 (Q91 3 0 0 0 0) (hOb b.2.2 []) (Q60 c.1.1 c.1.2) (hSb c.2 [])/\br (c.1.2 !=0) (Q100 0 c.1.2 (Q89 A (Q80 7 (length c.2.C) 8 (length c.2.T) c.2.M c.2.L 9<|length c.2.N) .gone .gone (.mapz<|NM c.2.N 0) .gone (Q35<|CR c.2.C) (Q31<|TR c.2.T) (Q27<|NR c.2.N)<|Q116 m) r i) (∃g:(Int×Int)×Hp,Q75 22 0 6 0 0 (Q91 7 b.1 c.1.1 0 0) (hOb c.2 []) (Q60 g.1.1 g.1.2) (hSb g.2 [])/\Q100 g.1.1 g.1.2 (Q89 A (Q80 7 (length g.2.C) 8 (length g.2.T) g.2.M g.2.L 9<|length g.2.N) .gone .gone (.mapz<|NM g.2.N 0) .gone (Q35<|CR g.2.C) (Q31<|TR g.2.T) (Q27<|NR g.2.N)<|Q116 m) r i)))):=zh
def lv87:LV:=[(1,[0,1,8,16,17,18]),(1000001,[2,3,4,6])]
theorem v87 (b:Int)(a:RW)(c:Nat)(g:Int)(e f:Nat)(h i:Int)(d:Nat)(m n o:RW)(k:List MapZ)(l:RW)(r:TV)(j:LA):VE lv87 87 7 r j (Q85 0 3 0 0 (Q24 b)<|Q101 1 a) (Q125 (Q98 3 1 6 0 0 6 2 0 c g) (Q80 2 e 3 f h i 4 d) m n o k l)=
  ((FV.L 1 (Q8 1 a)=true)/\Q81 87 7 r j 1 (Q94 0 0 3 (Q23 1 b) (Q105 8) (Q65 16 1 a) (Q23 17 (length a:Int))<|Q23 18 0) [Q87 0 3 1 6 0 0 (Q3 10 2 0 c) g,Q99 1 7 e 8 f h i 9 d,Q133,Q134,Q22 4,Q61 5 k,Q22 6,Q137 7 m,Q126 8 n,Q113 9 o,Q12 10 2 l] 11):=zg
theorem v87_1a (s:Int)(g:RW)(p f:Int)(a:Nat)(h:Int)(d e:Nat)(j l:Int)(b:Nat)(t:List MapZ)(u v w q:RW)(r:TV)(i:LA):let A:=getD g (toNat f) [];let B:=FV.I (getD A 0 FV.N);let C:=Q11 [Q39];let D:=Q45 C 171;let E:=Q94 0 0 3 (Q23 1 s) (Q93 8 11 4 0 1) (Q65 16 1 g) (Q23 17 p) (Q23 18<|wrap .i64<|f+1);VQ lv87 87 7 r i 1 ⟨Q94 0 0 3 (Q23 1 s) (Q105 8) (Q65 16 1 g) (Q23 17 p)<|Q23 18 f,[Q87 0 3 1 6 0 0 (Q3 10 2 0 a) h,Q99 1 7 d 8 e j l 9 b,Q133,Q134,Q22 4,Q61 5 t,Q22 6,Q137 7 u,Q126 8 v,Q113 9 w,Q12 10 2 q],11⟩=
  (br (decide (f<p)) (((FV.L 1 (Q8 1 g)=true)/\(0<=f)/\(f<(length g:Int))/\(([(Q42 B)]:List FV)=A))/\∃o:Tm×Int×Wk,let F:=wSb o.2.2 [];let G:=RT D F r i;Q122 102 0 3 0 0 B (Q125 (Q98 3 1 6 0 0 6 2 0 a h) (Q80 2 d 3 e j l 4 b) u v w t q) (Q114 (cT o.1) o.2.1) F/\br (o.2.1 !=0) (RT (Q45 C o.2.1) F r i) (∃m:Tm×Bool,let H:=(∃x:Bool,Q10 40 [.c Q39,.c<|.fn (.func 104) [] [(false,[(.ep 0 4 0 0)])]] [Q9 4<|cT m.1] (Q41 x) [Q9 4<|cT m.1]/\br x G ((1<=1)/\zS 1 56/\Q81 87 7 r i 1 E (numO 0<|wSb o.2.2 [.arz 4 [(FT4 m.1)]]) 12));Q96 103 [(aT o.1)] (Q120 (cT m.1) m.2)/\br ((m.1.k:Int)==(1:Int)) (br (!m.2) G<|br (decide ((m.1.n:Int)<=s)) G H) (br (!m.2) G H)))<|RT (Q45 C 0) (Q89 (Q98 3 1 6 0 0 10 2 0 a h) (Q80 7 d 8 e j l 9 b) .gone .gone (.mapz t) .gone (Q35 u) (Q31 v) (Q27 w)<|Q116 q) r i):=zh
theorem v87_1b (u:Int)(a:Nat)(i:RW)(s h:Int)(b:Nat)(j:Int)(e f:Nat)(m o:Int)(d:Nat)(v:List MapZ)(w x y t g:RW)(r:TV)(l:LA):let A:=getD i (toNat h) [];let B:=FV.I (getD A 0 FV.N);let C:=Q45 (Q11 [Q39]) 171;let D:=a<=(length g)/\zS (a+1) 56;let E:=Q94 0 0 3 (Q23 1 u) (Q93 8 11 4 0<|a+1) (Q65 16 1 i) (Q23 17 s) (Q23 18<|wrap .i64<|h+1);VQ lv87 87 7 r l 1 ⟨Q94 0 0 3 (Q23 1 u) (Q93 8 11 4 0 a) (Q65 16 1 i) (Q23 17 s)<|Q23 18 h,[Q87 0 3 1 6 0 0 (Q3 10 2 0 b) j,Q99 1 7 e 8 f m o 9 d,Q133,Q134,Q22 4,Q61 5 v,Q22 6,Q137 7 w,Q126 8 x,Q113 9 y,Q12 10 2 t,Q12 11 4 g],12⟩=
  (br (decide (h<s)) (((FV.L 1 (Q8 1 i)=true)/\(0<=h)/\(h<(length i:Int))/\(([(Q42 B)]:List FV)=A))/\∃q:Tm×Int×Wk,let F:=wSb q.2.2 [];let G:=RT C F r l;Q122 102 0 3 0 0 B (Q125 (Q98 3 1 6 0 0 6 2 0 b j) (Q80 2 e 3 f m o 4 d) w x y v t) (Q114 (cT q.1) q.2.1) F/\br (q.2.1 !=0) (RT (Q45 (Q11 [Q39]) q.2.1) F r l) (∃p:Tm×Bool,let H:=(∃z:Bool,Q10 40 [.c<|Q3 0 4 0 a,.c<|.fn (.func 104) [] [(false,[(.ep 1 4 0 0)])]] [.arz 4 g,Q9 4<|cT p.1] (Q41 z) [.arz 4 g,Q9 4<|cT p.1]/\br z G ((1<=1)/\D/\Q81 87 7 r l 1 E (numO 0<|wSb q.2.2 [.arz 4<|(take a g)++[(FT4 p.1)]]) 12));Q96 103 [(aT q.1)] (Q120 (cT p.1) p.2)/\br ((p.1.k:Int)==(1:Int)) (br (!p.2) G<|br (decide ((p.1.n:Int)<=u)) G H) (br (!p.2) G H)))<|((4:Nat)=4/\(0+a)<=(length g))/\RT (Q45 (Q11<|Q145 4<|take a<|drop 0 g) 0) (Q89 (Q98 3 1 6 0 0 10 2 0 b j) (Q80 7 e 8 f m o 9 d) .gone .gone (.mapz v) .gone (Q35 w) (Q31 x) (Q27 y)<|Q116 t) r l):=zh
theorem v88 (b:Int)(f:LU)(c:Int)(g:RW)(d:Int)(h:LU)(e:Int)(i:RW)(r:TV)(a:LA):VE lv3 88 0 r a [Q78 b f c 4 g,Q78 d h e 4 i] []=
  (br (b==d) (Q66 (c==e) [] r a)<|Q90 [] r a):=zg
theorem v89 (n:Int)(r:TV)(a:LA):VE lv3 89 0 r a [Q24 n] []=
  (RT (.agg<|Q74 3 [] n) [] r a):=zg
theorem v90 (x d h:Int)(n:RW)(b:Nat)(g:Int)(e f:Nat)(i j:Int)(c:Nat)(s t u:RW)(o:List MapZ)(m:RW)(r:TV)(k:LA):let A:=Q98 3 1 6 0 0 6 2 0 b g;VE lv67 90 7 r k [Q43 0 3 0 0,Q24 x,Q24 d,Q24 h,Q101 4 n] (Q125 A (Q80 2 e 3 f i j 4 c) s t u o m)=
  (∃a:Int×Int×Hp,let B:=length a.2.2.C;let D:=length a.2.2.T;let E:=length a.2.2.N;Q122 12 0 6 0 0 d (Q62 1 e 2 f i j 3 c 4 s t u o) (Q60 a.1 a.2.1) (hSb a.2.2 [])/\br (a.2.1 !=0) (RT (Q114 (Q74 0 [] 0) a.2.1) (Q89 (Q98 3 1 6 0 0 10 2 0 b g) (Q80 7 B 8 D a.2.2.M a.2.2.L 9 E) .gone .gone (.mapz<|NM a.2.2.N 0) .gone (Q35<|CR a.2.2.C) (Q31<|TR a.2.2.T) (Q27<|NR a.2.2.N)<|Q116 m) r k) (∃p:Tm,Q96 15 [.agg<|Q74 4 [] a.1,Q101 4 n] (aT p)/\∃q:Tm,Q96 14 [Q24 h,(aT p)] (aT q)/\∃l:Int×Wk,Q124 92 0 3 0 0 (Q24 x) (aT q) (Q125 A (Q80 2 B 3 D a.2.2.M a.2.2.L 4 E) (CR a.2.2.C) (TR a.2.2.T) (NR a.2.2.N) (NM a.2.2.N 0) m) (Q24 l.1) (wSb l.2 [])/\RT (Q114 (Q74 4 [] a.1) l.1) (wSb l.2 []) r k)):=zh
def lv91:LV:=[(3,[2,3,6,12,81,82,83]),(1000001,[2,3,4,6])]
abbrev w91_0 (a:Int×List Int×Int×Int×Int×Int×Int×Int×Wk)(b c:Int)(d:RW)(e:Int)(r:TV)(Hs':LA):Prop:=(∃b5:Bool,((Q103 69 [.agg<|Q111 a.1 1 (IR a.2.1) a.2.2.1 a.2.2.2.1 a.2.2.2.2.1 a.2.2.2.2.2.1 a.2.2.2.2.2.2.1] b5)/\(br b5 (∃z6:Tm×Int×Wk,((Q10 105 [.agg<|Q136 (Q5 0 3 0 0) b c 4 d,.agg<|Q111 a.1 1 (IR a.2.1) a.2.2.1 a.2.2.2.1 a.2.2.2.2.1 a.2.2.2.2.2.1 a.2.2.2.2.2.2.1,Q24 e] (wOb a.2.2.2.2.2.2.2.2 []) (Q114 (cT z6.1) z6.2.1)<|wSb z6.2.2 [])/\(RT (Q114 (cT z6.1) z6.2.1) (wSb z6.2.2 []) r Hs'))) (∃z7:Tm×Bool,((Q10 106 [.agg<|Q136 (Q5 0 3 0 0) b c 4 d,.agg<|Q111 a.1 1 (IR a.2.1) a.2.2.1 a.2.2.2.1 a.2.2.2.2.1 a.2.2.2.2.2.1 a.2.2.2.2.2.2.1,Q24 e] (wOb a.2.2.2.2.2.2.2.2 []) (Q120 (cT z7.1) z7.2)<|wOb a.2.2.2.2.2.2.2.2 [])/\(br (!z7.2) (RT (Q114 (Q74 0 [] 0) 170) (wSb a.2.2.2.2.2.2.2.2 []) r Hs')<|(FV.L 1 (Q8 1<|IR a.2.1)=true)/\(Q81 91 7 r Hs' 3 [Q23 2 e,Q115 3 11,Q115 6 12,Q115 12 13,Q65 81 1<|IR a.2.1,Q23 82 (length (IR a.2.1):Int),Q23 83 0] (numO 0<|wSb a.2.2.2.2.2.2.2.2 [Q9 4<|Q136 (Q5 0 3 0 0) b c 4 d,Q9 4<|Q74 0 [] 0,Q9 4<|cT z7.1]) 14)))))))
theorem v91 (f m:Int)(j:RW)(a k:Int)(d:Nat)(l:Int)(g h:Nat)(n o:Int)(e:Nat)(u v w:RW)(s:List MapZ)(t:RW)(r:TV)(c:LA):let A:=Q136 (Q5 0 3 0 0) f m 4 j;let B:=Q125 (Q98 3 1 6 0 0 6 2 0 d l) (Q80 2 g 3 h n o 4 e) u v w s t;VE lv91 91 7 r c [.agg A,Q24 a,Q24 k] B=
  (∃b:Int×List Int×Int×Int×Int×Int×Int×Int×Wk,let C:=Q111 b.1 1 (IR b.2.1) b.2.2.1 b.2.2.2.1 b.2.2.2.2.1 b.2.2.2.2.2.1 b.2.2.2.2.2.2.1;let D:=wSb b.2.2.2.2.2.2.2.2 [];let E:=w91_0 b f m j k r c;Q122 67 0 3 0 0 a B (Q114 C b.2.2.2.2.2.2.2.1) D/\br (b.2.2.2.2.2.2.2.1 !=0) (RT (Q114 (Q74 0 [] 0) b.2.2.2.2.2.2.2.1) D r c) (br (b.2.2.1==6) (∃i:Tm×Int×Wk,Q10 91 [.agg A,Q24 b.2.2.2.1,Q24<|wrap .i64<|k+1] (wOb b.2.2.2.2.2.2.2.2 []) (Q114 (cT i.1) i.2.1) (wSb i.2.2 [])/\∃p:Tm,Q96 14 [Q24 1,(aT i.1)] (aT p)/\RT (Q114 (cT p) i.2.1) (wSb i.2.2 []) r c) (∃q:Bool,Q103 69 [.agg C] q/\br q (br (b.1==f) (RT (Q114 (Q74 0 [] 0) 170) D r c) E) E))):=zh
theorem v91_3a (y:Int)(f:RW)(u e:Int)(a:Nat)(g:Int)(c d:Nat)(m n:Int)(b:Nat)(z:List MapZ)(E F G v:RW)(w x:Int)(t:RW)(h:Int)(i:LU)(o p:Int)(j:LU)(k:Int)(l:RW)(r:TV)(q:LA):let A:=Q136 (Q5 0 3 0 0) w x 4 t;let B:=Q59 p j k 4 l;let C:=getD f (toNat e) [];let D:=FV.I (getD C 0 FV.N);VQ lv91 91 7 r q 3 ⟨[Q23 2 y,Q115 3 11,Q115 6 12,Q115 12 13,Q65 81 1 f,Q23 82 u,Q23 83 e],[Q87 0 3 1 6 0 0 (Q3 10 2 0 a) g,Q99 1 7 c 8 d m n 9 b,Q133,Q134,Q22 4,Q61 5 z,Q22 6,Q137 7 E,Q126 8 F,Q113 9 G,Q12 10 2 v,Q34 11 4 A,Q131 12 4 h i o,Q34 13 4 B],14⟩=
  (br (decide (e<u)) (((FV.L 1 (Q8 1 f)=true)/\(0<=e)/\(e<(length f:Int))/\(([(Q42 D)]:List FV)=C))/\∃s:Tm×Int×Wk,Q10 91 [.agg A,Q24 D,Q24 y] (Q125 (Q98 3 1 6 0 0 6 2 0 a g) (Q80 2 c 3 d m n 4 b) E F G z v) (Q114 (cT s.1) s.2.1) (wSb s.2.2 [])/\br (s.2.1 !=0) (RT (Q114 (Q74 0 [] 0) s.2.1) (wSb s.2.2 []) r q) (((4:Nat)=4/\1<=1)/\∃H:Tm,Q96 15 [Q78 p j k 4 l,Q101 4 [(FT4 s.1)]] (aT H)/\Q81 91 7 r q 3 [Q23 2 y,Q115 3 11,Q115 6 12,Q115 12 13,Q65 81 1 f,Q23 82 u,Q23 83<|wrap .i64<|e+1] (numO 0<|wSb s.2.2 [Q9 4 A,Q9 4<|Q74 h i o,Q9 4<|cT H]) 14))<|RT (Q114 B 0) (Q89 (Q98 3 1 6 0 0 10 2 0 a g) (Q80 7 c 8 d m n 9 b) .gone .gone (.mapz z) .gone (Q35 E) (Q31 F) (Q27 G)<|Q116 v) r q):=zh
theorem v92 (x p:Int)(l:LU)(m:Int)(n:RW)(d:Nat)(h:Int)(f g:Nat)(i j:Int)(e:Nat)(s t u:RW)(q:List MapZ)(o:RW)(r:TV)(k:LA):let A:=Q78 p l m 4 n;let B:=Q98 3 1 6 0 0 10 2 0 d h;VE lv67 92 7 r k (Q85 0 3 0 0 (Q24 x) A) (Q125 (Q98 3 1 6 0 0 6 2 0 d h) (Q80 2 f 3 g i j 4 e) s t u q o)=
  (∃a:(Int×Int)×Hp,Q124 13 0 6 0 0 A (.c Q39) (Q62 1 f 2 g i j 3 e 4 s t u q) (Q60 a.1.1 a.1.2) (hSb a.2 [])/\br (a.1.2 !=0) (Q88 a.1.2 (Q89 B (Q80 7 (length a.2.C) 8 (length a.2.T) a.2.M a.2.L 9<|length a.2.N) .gone .gone (.mapz<|NM a.2.N 0) .gone (Q35<|CR a.2.C) (Q31<|TR a.2.T) (Q27<|NR a.2.N)<|Q116 o) r k) (∃b:Int×Hp,Q124 77 0 6 0 0 (Q24 x) (Q91 5 a.1.1 0 0 0) (hOb a.2 []) (Q24 b.1) (hSb b.2 [])/\Q88 b.1 (Q89 B (Q80 7 (length b.2.C) 8 (length b.2.T) b.2.M b.2.L 9<|length b.2.N) .gone .gone (.mapz<|NM b.2.N 0) .gone (Q35<|CR b.2.C) (Q31<|TR b.2.T) (Q27<|NR b.2.N)<|Q116 o) r k)):=zh
def lv93:LV:=[(1,[0,1,2,6])]
theorem v93 (i j d e:Int)(b c:Nat)(f g:Int)(a:Nat)(l m n:RW)(k:List MapZ)(r:TV)(h:LA):VE lv93 93 6 r h (Q85 0 3 0 0 (Q24 i)<|Q24 j) (Q144 3 1 6 0 0 d e 2 b 3 c f g 4 a l m n k)=
  (Q81 93 6 r h 1 [Q64 0 0 3,Q23 1 i,Q23 2 j,Q64 6 6 5] [Q87 0 3 1 6 0 0 (Q2 d) e,Q99 1 2 b 3 c f g 4 a,Q137 2 l,Q126 3 m,Q113 4 n,Q61 5 k,Q34 6 5<|Q72 0 0 0 0 0] 7):=zg
theorem v93_1a (w u f h:Int)(b c:Nat)(d e:Int)(a:Nat)(j k l:RW)(i:List MapZ)(m n o p q:Int)(r:TV)(g:LA):let A:=Q72 m n o p q;let B:=Q62 1 b 2 c d e 3 a 4 j k l i;let C:=Q144 3 1 6 0 0 f h 2 b 3 c d e 4 a j k l i;let D:=Q120 (Q72 0 0 0 0 0) false;let F:=(∃s:Int×Int×Int,let E:=Q144 3 1 6 0 0 s.2.1 s.2.2 2 b 3 c d e 4 a j k l i;Q122 74 0 3 0 0 1 C (Q24 s.1) E/\RT D E r g);VQ lv93 93 6 r g 1 ⟨[Q64 0 0 3,Q23 1 w,Q23 2 u,Q64 6 6 5],[Q87 0 3 1 6 0 0 (Q2 f) h,Q99 1 2 b 3 c d e 4 a,Q137 2 j,Q126 3 k,Q113 4 l,Q61 5 i,Q34 6 5 A],7⟩=
  (∃n1 n2:Int,∃n3 n4 n5:Int,let G:=Q72 n1 n2 n3 n4 n5;∃v:Bool,Q122 28 0 6 0 0 w B (Q120 G v) B/\br (!v) F (br (decide (n1<9)) F<|br (n1==9) (RT D C r g)<|br (u==0) (RT (Q120 G true) C r g)<|br (decide (f<=0)) (∃t:Int×Int×Int,let H:=Q144 3 1 6 0 0 t.2.1 t.2.2 2 b 3 c d e 4 a j k l i;Q122 74 0 3 0 0 80 C (Q24 t.1) H/\RT D H r g)<|Q81 93 6 r g 1 [Q64 0 0 3,Q23 1 n2,Q23 2<|wrap .i64<|u-1,Q64 6 6 5] [Q87 0 3 1 6 0 0 (Q2<|wrap .i64<|f-1) h,Q99 1 2 b 3 c d e 4 a,Q137 2 j,Q126 3 k,Q113 4 l,Q61 5 i,Q34 6 5 A] 7)):=zh
theorem v94 (a l e f:Int)(c d:Nat)(g h:Int)(b:Nat)(n o p:RW)(m:List MapZ)(r:TV)(i:LA):let A:=Q144 3 1 6 0 0 e f 2 c 3 d g h 4 b n o p m;VE lv52 94 6 r i (Q85 0 3 0 0 (Q24 a)<|Q24 l) A=
  (br (l==0) (Q88 a (Q130 (Q84 3 1 6 0 0 e f) (Q80 6 c 7 d g h 8 b) .gone (.mapz m) n o p) r i) (∃j:Int×Rd,Q75 55 0 3 0 0 (Q91 9 0 0 0 0) A (Q24 j.1) (rSb j.2 [])/\∃k:Int×Rd,Q75 55 0 3 0 0 (Q91 8 a j.1 0 l) (rOb j.2 []) (Q24 k.1) (rSb k.2 [])/\Q88 k.1 (rSb k.2 []) r i)):=zh
theorem v95 (a:Int)(b:LU)(c:Int)(d:RW)(i:Int)(r:TV)(e:LA):VE lv3 95 0 r e [Q78 a b c 4 d,Q24 i] []=
  (∃f:Bool,Q103 23 [Q78 a b c 4 d] f/\br (!f) (Q88 0 [] r e) (∃g:Int,Q96 107 [Q78 a b c 4 d,Q24 i] (Q24 g)/\Q88 g [] r e)):=zg
def lv98:LV:=[(1,[2,3,4,6,7,8,9,30,31,32])]
theorem v98_F96 (c:Int)(d:LU)(e:Int)(f:RW)(k a b:Int)(r:TV)(g:LA):let A:=(∃h:FV,∃i:Int,Q96 108 [Q78 c d e 4 f] (Q45 (Q11 [Q4 h]) i)/\(FV.L 4 h=true)/\Q81 98 2 r g 1 [Q23 2 k,Q64 3 2 1,Q115 4 3,Q115 6 4,Q6 7<|Q4 h,Q23 8 i,Q105 9,Q6 30<|Q4 h,Q23 31 (length (FV.ses h):Int),Q23 32 0] [Q34 0 1<|Q37 a,Q34 1 1<|Q37 b,Q34 2 1 [(.fn (.func 96) [] [(false,[(.ep 0 1 0 0)]),(false,[(.ep 1 1 0 0)])])],Q34 3 4<|Q59 c d e 4 f,Q131 4 4 0 [] 0] 5);VE lv98 98 2 r g [.agg [(.fn (.func 96) [] [(false,[(.ep 0 1 0 0)]),(false,[(.ep 1 1 0 0)])])],Q78 c d e 4 f,Q24 k] [Q146 a,Q146 b]=
  (br (c !=5) (br (c !=6) (∃j:Tm,Q10 96 [Q78 c d e 4 f,Q24 k,Q43 0 1 0 0,Q43 1 1 0 0] [Q146 a,Q146 b] (aT j) [Q146 a,Q146 b]/\RT (aT j) [Q146 a,Q146 b] r g) A) A):=zh
theorem XL (n:Int)(p:FV)(o:Int)(d:FV)(l c a b e:Int)(f:LU)(g:Int)(m:RW)(h:Int)(i:LU)(j:Int)(r:TV)(k:LA):let A:=Q59 e f g 4 m;let B:=getD (FV.ses d) (toNat c) [];let C:=RT (.agg<|Q74 e f g) [Q146 a,Q146 b] r k;VQ lv98 98 2 r k 1 ⟨[Q23 2 n,Q64 3 2 1,Q115 4 3,Q115 6 4,Q6 7<|Q4 p,Q23 8 o,Q105 9,Q6 30<|Q4 d,Q23 31 l,Q23 32 c],[Q34 0 1<|Q37 a,Q34 1 1<|Q37 b,Q34 2 1 [(.fn (.func 96) [] [(false,[(.ep 0 1 0 0)]),(false,[(.ep 1 1 0 0)])])],Q34 3 4 A,Q131 4 4 h i j],5⟩=
  (br (decide (c<l)) (((FV.L 4 d=true)/\(0<=c)/\(c<(length (FV.ses d):Int))/\(((rE B):List FV)=B))/\∃q:Tm,Q10 98 [.agg [(.fn (.func 96) [] [(false,[(.ep 0 1 0 0)]),(false,[(.ep 1 1 0 0)])])],(aE B),Q24<|wrap .i64<|n+o] [Q146 a,Q146 b] (aT q) [Q146 a,Q146 b]/\(1<=1)/\zS 1 56/\Q81 98 2 r k 1 [Q23 2 n,Q64 3 2 1,Q115 4 3,Q115 6 4,Q6 7<|Q4 p,Q23 8 o,Q93 9 5 4 0 1,Q6 30<|Q4 d,Q23 31 l,Q23 32<|wrap .i64<|c+1] [Q34 0 1<|Q37 a,Q34 1 1<|Q37 b,Q34 2 1 [(.fn (.func 96) [] [(false,[(.ep 0 1 0 0)]),(false,[(.ep 1 1 0 0)])])],Q34 3 4 A,Q131 4 4 h i j,Q12 5 4 [(FT4 q)]] 6)<|br (e==6) ((FV.L 4 .N=true)/\C) C):=zh
theorem Wh (q:Int)(o:FV)(s:Int)(a:Nat)(e:FV)(m d b c f:Int)(h:LU)(i:Int)(p:RW)(j:Int)(k:LU)(l:Int)(n:RW)(r:TV)(g:LA):let A:=Q59 f h i 4 p;let B:=getD (FV.ses e) (toNat d) [];let C:=length n;let D:=0<=(0:Int)/\(0:Int)<(a:Int);let E:=getD n 0 [];let F:=FV.I (getD E 0 FV.N);let G:=getD (FV.ses o) 0 [];let H:=(toNat (a:Int))-1;let I:=((4:Nat)=4/\(0+a)<=C)/\RT (Q78 f h i 4<|take a<|drop 0 n) [Q146 b,Q146 c] r g;VQ lv98 98 2 r g 1 ⟨[Q23 2 q,Q64 3 2 1,Q115 4 3,Q115 6 4,Q6 7<|Q4 o,Q23 8 s,Q93 9 5 4 0 a,Q6 30<|Q4 e,Q23 31 m,Q23 32 d],[Q34 0 1<|Q37 b,Q34 1 1<|Q37 c,Q34 2 1 [(.fn (.func 96) [] [(false,[(.ep 0 1 0 0)]),(false,[(.ep 1 1 0 0)])])],Q34 3 4 A,Q131 4 4 j k l,Q12 5 4 n],6⟩=
  (br (decide (d<m)) (((FV.L 4 e=true)/\(0<=d)/\(d<(length (FV.ses e):Int))/\(((rE B):List FV)=B))/\∃t:Tm,Q10 98 [.agg [(.fn (.func 96) [] [(false,[(.ep 0 1 0 0)]),(false,[(.ep 1 1 0 0)])])],(aE B),Q24<|wrap .i64<|q+s] [Q146 b,Q146 c] (aT t) [Q146 b,Q146 c]/\(1<=1)/\(a<=C/\zS (a+1) 56)/\Q81 98 2 r g 1 [Q23 2 q,Q64 3 2 1,Q115 4 3,Q115 6 4,Q6 7<|Q4 o,Q23 8 s,Q93 9 5 4 0<|a+1,Q6 30<|Q4 e,Q23 31 m,Q23 32<|wrap .i64<|d+1] [Q34 0 1<|Q37 b,Q34 1 1<|Q37 c,Q34 2 1 [(.fn (.func 96) [] [(false,[(.ep 0 1 0 0)]),(false,[(.ep 1 1 0 0)])])],Q34 3 4 A,Q131 4 4 j k l,Q12 5 4<|(take a n)++[(FT4 t)]] 6)<|br (f==6) (br (decide (((a:Int):Int)>(1:Int))) (D/\((0<C)/\(([(Q42 F)]:List FV)=(take 1<|drop 0 E))/\((1:Nat)=1))/\br (F==6) (((FV.L 4 o=true)/\(0<=(0:Int))/\((0:Int)<(length (FV.ses o):Int))/\(((rE G):List FV)=G))/\br ((FV.I<|getD G 0 FV.N) !=6) (D/\((0<C)/\(((rE E):List FV)=(take 4<|drop 0 E))/\((4:Nat)=4))/\((0<=(1:Int))/\((1:Int)<=(a:Int))/\((a:Int)<=(a:Int)))/\((4:Nat)=4/\(1+H)<=C)/\∃u:Tm,Q96 15 [(aE E),Q101 4<|take H<|drop 1 n] (aT u)/\RT (aT u) [Q146 b,Q146 c] r g) I) I) I) I):=zh
theorem v81 (c:Int)(r:TV)(a:LA):let A:=Q66 (c==95) [] r a;VE lv3 81 0 r a [.c<|Q1 .u8 c] []=
  (br (decide (65<=c)) (br (decide (c<=90)) (Q66 true [] r a) A) A):=zh
theorem v82 (c:Int)(r:TV)(a:LA):VE lv3 82 0 r a [.c<|Q1 .u8 c] []=
  (br (decide (48<=c)) (Q66 (decide (c<=57)) [] r a)<|Q90 [] r a):=zg
def lv100:LV:=[(3,[0,1,5,6,7,8,9,10])]
theorem v100 (s a:LU)(r:TV)(b:LA):let A:=(length a:Int);let B:=(A:Int);let C:=Q88 0 [] r b;VE lv100 100 0 r b [Q143 s,Q143 a] []=
  (br (B==(0:Int)) C<|br ((a:LU)==s) C<|br (B==(1:Int)) ((0<=(0:Int)/\(0:Int)<A)/\∃d:Int,Q96 99 [Q143 s,.c<|Q1 .u8 ((UInt8.toNat (getD a 0 0):Nat):Int)] (Q24 d)/\Q88 d [] r b)<|br (decide (B>=(length s:Int))) (Q88 (-1:Int) [] r b) False):=zh
theorem v101 (a k:Int)(c d:Nat)(f g:Int)(b:Nat)(l m n:RW)(j:List MapZ)(r:TV)(h:LA):let A:=Q62 1 c 2 d f g 3 b 4 l m n j;let B:=Q100 0 1 (Q86 (Q52 5 c 6 d f g 7 b 4) .gone .gone .gone j (Q35 l) (Q31 m)<|Q27 n) r h;VE lv8 101 5 r h (Q85 0 6 0 0 (Q24 a)<|Q24 k) A=
  (∃n1 n2:Int,∃n3 n4 n5:Int,∃o:Bool,Q122 28 0 6 0 0 a A (Q120 (Q72 n1 n2 n3 n4 n5) o) A/\br (!o) B (br (decide (n1>=9)) B<|br (decide (k<0)) B (∃i:Int×Rd,Q124 94 0 3 0 0 (Q24 a) (Q24 k) (Q144 3 1 6 0 0 0 0 2 c 3 d f g 4 b l m n j) (Q24 i.1) (rSb i.2 [])/\br ((i.2.e:Int) !=(0:Int)) (Q100 0 i.2.e (hSb i.2.s []) r h) (Q100 i.1 0 (hSb i.2.s []) r h)))):=zh
theorem v102 (a:Int)(c:Nat)(d:Int)(f g:Nat)(h i:Int)(e:Nat)(m n o:RW)(l:List MapZ)(k:RW)(r:TV)(j:LA):VE lv67 102 7 r j (Q68 0 3 0 0<|Q24 a) (Q125 (Q98 3 1 6 0 0 6 2 0 c d) (Q80 2 f 3 g h i 4 e) m n o l k)=
  (∃b:Tm×Int×Int×Hp,let A:=Q114 (cT b.1) b.2.2.1;let B:=Q80 7 (length b.2.2.2.C) 8 (length b.2.2.2.T) b.2.2.2.M b.2.2.2.L 9 (length b.2.2.2.N);let D:=NM b.2.2.2.N 0;let E:=Q35 (CR b.2.2.2.C);let F:=Q31 (TR b.2.2.2.T);let G:=Q27 (NR b.2.2.2.N);Q124 9 0 6 0 0 (Q24 a) (Q24 d) (Q62 1 f 2 g h i 3 e 4 m n o l) (.tup [Q76<|cT b.1,Q38 b.2.1,Q38 b.2.2.1]) (hSb b.2.2.2 [])/\br (b.2.2.1==0) (RT A (Q89 (Q98 3 1 6 0 0 10 2 0 c b.2.1) B .gone .gone (.mapz D) .gone E F G<|Q116 k) r j) (RT A (Q89 (Q98 3 1 6 0 0 10 2 0 c d) B .gone .gone (.mapz D) .gone E F G<|Q116 k) r j)):=zg
theorem v103 (a:Int)(b:LU)(c:Int)(d:RW)(r:TV)(e:LA):let A:=RT (Q120 (Q74 0 [] 0) false) [] r e;VE lv3 103 0 r e [Q78 a b c 4 d] []=
  (∃g:Bool,Q103 23 [Q78 a b c 4 d] g/\br (!g) A (∃f:Tm,let B:=RT (Q120 (cT f) true) [] r e;Q96 36 [Q78 a b c 4 d] (aT f)/\br ((f.k:Int)==(3:Int)) B (br ((f.k:Int)==(1:Int)) B A))):=zh
theorem v40_F104 (s:RW)(a:Int)(b:LU)(d:Int)(e:RW)(r:TV)(f:LA):let A:=Q59 a b d 4 e;VE lv3 40 1 r f [Q101 4 s,.c<|.fn (.func 104) [] [(false,[(.ep 0 4 0 0)])]] [Q9 4 A]=
  (∃g:Int,Q10 66 [Q101 4 s,.c<|.fn (.func 104) [] [(false,[(.ep 0 4 0 0)])]] [Q9 4 A] (Q24 g) [Q9 4 A]/\Q66 (decide (g>=0)) [Q9 4 A] r f):=zh
theorem fe (h:Nat)(g:RW)(a:Int)(b:LU)(d:Int)(e:RW)(r:TV)(f:LA):let A:=Q59 a b d 4 e;VE lv3 40 2 r f [.c<|Q3 0 4 0 h,.c<|.fn (.func 104) [] [(false,[(.ep 1 4 0 0)])]] [.arz 4 g,Q9 4 A]=
  (∃i:Int,Q10 66 [.c<|Q3 0 4 0 h,.c<|.fn (.func 104) [] [(false,[(.ep 1 4 0 0)])]] [.arz 4 g,Q9 4 A] (Q24 i) [.arz 4 g,Q9 4 A]/\Q66 (decide (i>=0)) [.arz 4 g,Q9 4 A] r f):=zh
def i9:LV:=[(1,[2,3,4,6,8,10,11,12,39,40,41]),(5,[2,3,4,6,8,10,11,12,86,87,88]),(1000001,[2,3,4,6])]
theorem v105 (o p:Int)(m:RW)(n:Int)(h:RW)(q e s t u k:Int)(a:Nat)(i:Int)(f g:Nat)(j l:Int)(b:Nat)(x y z:RW)(v:List MapZ)(w:RW)(r:TV)(c:LA):let A:=Q136 (Q5 0 3 0 0) o p 4 m;let B:=Q111 n 1 h q e s t u;let C:=Q125 (Q98 3 1 6 0 0 6 2 0 a i) (Q80 2 f 3 g j l 4 b) x y z v w;VE i9 105 7 r c [.agg A,.agg B,Q24 k] C=
  (∃d:List Tm×Int×Wk,let D:=FTs d.1;Q124 87 0 3 0 0 (Q24 e) (Q101 1 h) C (Q45 (Q11<|Q145 4 D) d.2.1) (wSb d.2.2 [])/\br (d.2.1 !=0) (RT (Q114 (Q74 0 [] 0) d.2.1) (wSb d.2.2 []) r c) ((FV.L 4 (Q8 4 D)=true)/\Q81 105 7 r c 1 [Q23 2 k,Q115 3 11,Q64 4 12 7,Q115 6 13,Q65 8 4 D,Q23 10 e,Q105 11,Q105 12,Q65 39 4 D,Q23 40 (length D:Int),Q23 41 0] (numO 0<|wSb d.2.2 [Q9 4 A,Q9 7 B,Q9 4<|Q74 0 [] 0]) 14)):=zh
theorem ir (S:Int)(L:RW)(p:Int)(n:RW)(u m:Int)(l:Nat)(e:Int)(b d:Nat)(f g:Int)(a:Nat)(M:List MapZ)(N O P o:RW)(w t:Int)(h:RW)(q:Int)(v:RW)(x y z J K k:Int)(i:LU)(j:Int)(r:TV)(s:LA):let A:=Q3 10 2 0 l;let B:=Q136 (Q5 0 3 0 0) w t 4 h;let C:=Q111 q 1 v x y z J K;let D:=getD n (toNat m) [];let E:=Q125 (Q98 3 1 6 0 0 6 2 0 l e) (Q80 2 b 3 d f g 4 a) N O P M o;let F:=FV.L 4 (Q8 4 L)=true;let G:=(length L:Int);let H:=wrap .i64 (m+1);let I:=(FV.L 4 (Q8 4 h)=true)/\Q81 105 7 r s 5 [Q23 2 S,Q115 3 11,Q64 4 12 7,Q115 6 13,Q65 8 4 L,Q23 10 p,Q105 11,Q105 12,Q65 86 4 h,Q23 87 (length h:Int),Q23 88 0] [Q87 0 3 1 6 0 0 A e,Q99 1 7 b 8 d f g 9 a,Q133,Q134,Q22 4,Q61 5 M,Q22 6,Q137 7 N,Q126 8 O,Q113 9 P,Q12 10 2 o,Q34 11 4 B,Q34 12 7 C,Q131 13 4 k i j] 14;VQ i9 105 7 r s 1 ⟨[Q23 2 S,Q115 3 11,Q64 4 12 7,Q115 6 13,Q65 8 4 L,Q23 10 p,Q105 11,Q105 12,Q65 39 4 n,Q23 40 u,Q23 41 m],[Q87 0 3 1 6 0 0 A e,Q99 1 7 b 8 d f g 9 a,Q133,Q134,Q22 4,Q61 5 M,Q22 6,Q137 7 N,Q126 8 O,Q113 9 P,Q12 10 2 o,Q34 11 4 B,Q34 12 7 C,Q131 13 4 k i j],14⟩=
  (br (decide (m<u)) (((FV.L 4 (Q8 4 n)=true)/\(0<=m)/\(m<(length n:Int))/\(((rE D):List FV)=D))/\∃T:Tm×Bool,Q10 113 [.agg B,(aE D),Q24 S] E (Q120 (cT T.1) T.2) E/\br T.2 (F/\∃U:Tm,Q96 89 [Q24<|wrap .i64<|(wrap .i64<|G-(1:Int))-m] (aT U)/\(1<=1)/\zS 1 56/\(1<=1)/\zS 1 56/\Q81 105 7 r s 1 [Q23 2 S,Q115 3 11,Q64 4 12 7,Q115 6 13,Q65 8 4 L,Q23 10 p,Q93 11 14 4 0 1,Q93 12 15 4 0 1,Q65 39 4 n,Q23 40 u,Q23 41 H] [Q87 0 3 1 6 0 0 A e,Q99 1 7 b 8 d f g 9 a,Q133,Q134,Q22 4,Q61 5 M,Q22 6,Q137 7 N,Q126 8 O,Q113 9 P,Q12 10 2 o,Q34 11 4 B,Q34 12 7 C,Q131 13 4 k i j,Q12 14 4 [(FT4 U)],Q12 15 4 [(FT4 T.1)]] 16) (Q81 105 7 r s 1 [Q23 2 S,Q115 3 11,Q64 4 12 7,Q115 6 13,Q65 8 4 L,Q23 10 p,Q105 11,Q105 12,Q65 39 4 n,Q23 40 u,Q23 41 H] [Q87 0 3 1 6 0 0 A e,Q99 1 7 b 8 d f g 9 a,Q133,Q134,Q22 4,Q61 5 M,Q22 6,Q137 7 N,Q126 8 O,Q113 9 P,Q12 10 2 o,Q34 11 4 B,Q34 12 7 C,Q131 13 4 k i j] 14))<|(FV.L 4 .N=true)/\F/\br (((0:Int):Int)==G) (br (decide (p<=t)) (∃V:Tm,Q96 15 [.agg<|Q74 4 [] q,.c Q39] (aT V)/\RT (Q114 (cT V) 0) (Q89 (Q98 3 1 6 0 0 10 2 0 l e) (Q80 7 b 8 d f g 9 a) .gone .gone (.mapz M) .gone (Q35 N) (Q31 O) (Q27 P)<|Q116 o) r s) I) I):=zh
theorem iK (V:Int)(O:RW)(s:Int)(e a:Nat)(p:RW)(x n:Int)(m:Nat)(f:Int)(c d:Nat)(g h:Int)(b:Nat)(P:List MapZ)(S T U q:RW)(z v:Int)(i:RW)(t:Int)(y:RW)(J K L M N l:Int)(j:LU)(k:Int)(w o:RW)(r:TV)(u:LA):let A:=Q3 10 2 0 m;let B:=Q136 (Q5 0 3 0 0) z v 4 i;let C:=Q111 t 1 y J K L M N;let D:=getD p (toNat n) [];let E:=Q125 (Q98 3 1 6 0 0 6 2 0 m f) (Q80 2 c 3 d g h 4 b) S T U P q;let F:=FV.L 4 (Q8 4 O)=true;let G:=(length O:Int);let H:=wrap .i64 (n+1);let I:=(FV.L 4 (Q8 4 i)=true)/\Q81 105 7 r u 5 [Q23 2 V,Q115 3 11,Q64 4 12 7,Q115 6 13,Q65 8 4 O,Q23 10 s,Q93 11 14 4 0 e,Q93 12 15 4 0 a,Q65 86 4 i,Q23 87 (length i:Int),Q23 88 0] [Q87 0 3 1 6 0 0 A f,Q99 1 7 c 8 d g h 9 b,Q133,Q134,Q22 4,Q61 5 P,Q22 6,Q137 7 S,Q126 8 T,Q113 9 U,Q12 10 2 q,Q34 11 4 B,Q34 12 7 C,Q131 13 4 l j k,Q12 14 4 w,Q12 15 4 o] 16;VQ i9 105 7 r u 1 ⟨[Q23 2 V,Q115 3 11,Q64 4 12 7,Q115 6 13,Q65 8 4 O,Q23 10 s,Q93 11 14 4 0 e,Q93 12 15 4 0 a,Q65 39 4 p,Q23 40 x,Q23 41 n],[Q87 0 3 1 6 0 0 A f,Q99 1 7 c 8 d g h 9 b,Q133,Q134,Q22 4,Q61 5 P,Q22 6,Q137 7 S,Q126 8 T,Q113 9 U,Q12 10 2 q,Q34 11 4 B,Q34 12 7 C,Q131 13 4 l j k,Q12 14 4 w,Q12 15 4 o],16⟩=
  (br (decide (n<x)) (((FV.L 4 (Q8 4 p)=true)/\(0<=n)/\(n<(length p:Int))/\(((rE D):List FV)=D))/\∃W:Tm×Bool,Q10 113 [.agg B,(aE D),Q24 V] E (Q120 (cT W.1) W.2) E/\br W.2 (F/\∃X:Tm,Q96 89 [Q24<|wrap .i64<|(wrap .i64<|G-(1:Int))-n] (aT X)/\(1<=1)/\(e<=(length w)/\zS (e+1) 56)/\(1<=1)/\(a<=(length o)/\zS (a+1) 56)/\Q81 105 7 r u 1 [Q23 2 V,Q115 3 11,Q64 4 12 7,Q115 6 13,Q65 8 4 O,Q23 10 s,Q93 11 14 4 0<|e+1,Q93 12 15 4 0<|a+1,Q65 39 4 p,Q23 40 x,Q23 41 H] [Q87 0 3 1 6 0 0 A f,Q99 1 7 c 8 d g h 9 b,Q133,Q134,Q22 4,Q61 5 P,Q22 6,Q137 7 S,Q126 8 T,Q113 9 U,Q12 10 2 q,Q34 11 4 B,Q34 12 7 C,Q131 13 4 l j k,Q12 14 4<|(take e w)++[(FT4 X)],Q12 15 4<|(take a o)++[(FT4 W.1)]] 16) (Q81 105 7 r u 1 [Q23 2 V,Q115 3 11,Q64 4 12 7,Q115 6 13,Q65 8 4 O,Q23 10 s,Q93 11 14 4 0 e,Q93 12 15 4 0 a,Q65 39 4 p,Q23 40 x,Q23 41 H] [Q87 0 3 1 6 0 0 A f,Q99 1 7 c 8 d g h 9 b,Q133,Q134,Q22 4,Q61 5 P,Q22 6,Q137 7 S,Q126 8 T,Q113 9 U,Q12 10 2 q,Q34 11 4 B,Q34 12 7 C,Q131 13 4 l j k,Q12 14 4 w,Q12 15 4 o] 16))<|F/\br (((e:Int):Int)==G) (br (decide (s<=v)) (((4:Nat)=4/\(0+a)<=(length o))/\∃Y:Tm,Q96 15 [.agg<|Q74 4 [] t,Q101 4<|take a<|drop 0 o] (aT Y)/\RT (Q114 (cT Y) 0) (Q89 (Q98 3 1 6 0 0 10 2 0 m f) (Q80 7 c 8 d g h 9 b) .gone .gone (.mapz P) .gone (Q35 S) (Q31 T) (Q27 U)<|Q116 q) r u) I) I):=zh
theorem mr (K:Int)(J:RW)(n:Int)(o:RW)(t h:Int)(p:Nat)(k:Int)(b d:Nat)(l m:Int)(a:Nat)(L:List MapZ)(M N O u:RW)(w i:Int)(e:RW)(q:Int)(v:RW)(x y z G H j:Int)(f:LU)(g:Int)(r:TV)(s:LA):let A:=Q3 10 2 0 p;let B:=Q136 (Q5 0 3 0 0) w i 4 e;let C:=Q111 q 1 v x y z G H;let D:=getD o (toNat h) [];let E:=wrap .i64 (h+1);let F:=Q81 105 7 r s 5 [Q23 2 K,Q115 3 11,Q64 4 12 7,Q115 6 13,Q65 8 4 J,Q23 10 n,Q105 11,Q105 12,Q65 86 4 o,Q23 87 t,Q23 88 E] [Q87 0 3 1 6 0 0 A k,Q99 1 7 b 8 d l m 9 a,Q133,Q134,Q22 4,Q61 5 L,Q22 6,Q137 7 M,Q126 8 N,Q113 9 O,Q12 10 2 u,Q34 11 4 B,Q34 12 7 C,Q131 13 4 j f g] 14;VQ i9 105 7 r s 5 ⟨[Q23 2 K,Q115 3 11,Q64 4 12 7,Q115 6 13,Q65 8 4 J,Q23 10 n,Q105 11,Q105 12,Q65 86 4 o,Q23 87 t,Q23 88 h],[Q87 0 3 1 6 0 0 A k,Q99 1 7 b 8 d l m 9 a,Q133,Q134,Q22 4,Q61 5 L,Q22 6,Q137 7 M,Q126 8 N,Q113 9 O,Q12 10 2 u,Q34 11 4 B,Q34 12 7 C,Q131 13 4 j f g],14⟩=
  (br (decide (h<t)) (((FV.L 4 (Q8 4 o)=true)/\(0<=h)/\(h<(length o:Int))/\(((rE D):List FV)=D))/\br (decide (n>i)) (br ((FV.I<|getD D 0 FV.N)==1) (br (decide (((FV.I<|getD D 2 FV.N):Int)<=n)) ((1<=1)/\zS 1 56/\(FV.L 4 (Q8 4 e)=true)/\∃P:Tm,Q96 89 [Q24<|wrap .i64<|(wrap .i64<|(wrap .i64<|K+(length e:Int))-(1:Int))-h] (aT P)/\(1<=1)/\zS 1 56/\Q81 105 7 r s 5 [Q23 2 K,Q115 3 11,Q64 4 12 7,Q115 6 13,Q65 8 4 J,Q23 10 n,Q93 11 14 4 0 1,Q93 12 15 4 0 1,Q65 86 4 o,Q23 87 t,Q23 88 E] [Q87 0 3 1 6 0 0 A k,Q99 1 7 b 8 d l m 9 a,Q133,Q134,Q22 4,Q61 5 L,Q22 6,Q137 7 M,Q126 8 N,Q113 9 O,Q12 10 2 u,Q34 11 4 B,Q34 12 7 C,Q131 13 4 j f g,Q12 14 4 [(rE D)],Q12 15 4 [(FT4 P)]] 16) F) F) F) ((FV.L 4 (Q8 4 J)=true)/\∃I:Tm×Int×Wk,Q10 90 [Q43 0 3 0 0,Q24 q,Q24<|zO [i,n],Q24 (length J:Int),.c Q39] (Q125 (Q98 3 1 6 0 0 6 2 0 p k) (Q80 2 b 3 d l m 4 a) M N O L u) (Q114 (cT I.1) I.2.1) (wSb I.2.2 [])/\∃S:Tm,Q96 15 [(aT I.1),.c Q39] (aT S)/\RT (Q114 (cT S) I.2.1) (wSb I.2.2 []) r s)):=zh
theorem lE (N:Int)(M:RW)(o:Int)(a b:Nat)(p:RW)(w i:Int)(t:Nat)(l:Int)(d e:Nat)(m n:Int)(c:Nat)(O:List MapZ)(P S T x:RW)(z j:Int)(f:RW)(u:Int)(y:RW)(G H I J K k:Int)(g:LU)(h:Int)(q s:RW)(r:TV)(v:LA):let A:=Q3 10 2 0 t;let B:=Q136 (Q5 0 3 0 0) z j 4 f;let C:=Q111 u 1 y G H I J K;let D:=getD p (toNat i) [];let E:=wrap .i64 (i+1);let F:=Q81 105 7 r v 5 [Q23 2 N,Q115 3 11,Q64 4 12 7,Q115 6 13,Q65 8 4 M,Q23 10 o,Q93 11 14 4 0 a,Q93 12 15 4 0 b,Q65 86 4 p,Q23 87 w,Q23 88 E] [Q87 0 3 1 6 0 0 A l,Q99 1 7 d 8 e m n 9 c,Q133,Q134,Q22 4,Q61 5 O,Q22 6,Q137 7 P,Q126 8 S,Q113 9 T,Q12 10 2 x,Q34 11 4 B,Q34 12 7 C,Q131 13 4 k g h,Q12 14 4 q,Q12 15 4 s] 16;VQ i9 105 7 r v 5 ⟨[Q23 2 N,Q115 3 11,Q64 4 12 7,Q115 6 13,Q65 8 4 M,Q23 10 o,Q93 11 14 4 0 a,Q93 12 15 4 0 b,Q65 86 4 p,Q23 87 w,Q23 88 i],[Q87 0 3 1 6 0 0 A l,Q99 1 7 d 8 e m n 9 c,Q133,Q134,Q22 4,Q61 5 O,Q22 6,Q137 7 P,Q126 8 S,Q113 9 T,Q12 10 2 x,Q34 11 4 B,Q34 12 7 C,Q131 13 4 k g h,Q12 14 4 q,Q12 15 4 s],16⟩=
  (br (decide (i<w)) (((FV.L 4 (Q8 4 p)=true)/\(0<=i)/\(i<(length p:Int))/\(((rE D):List FV)=D))/\br (decide (o>j)) (br ((FV.I<|getD D 0 FV.N)==1) (br (decide (((FV.I<|getD D 2 FV.N):Int)<=o)) ((1<=1)/\(a<=(length q)/\zS (a+1) 56)/\(FV.L 4 (Q8 4 f)=true)/\∃U:Tm,Q96 89 [Q24<|wrap .i64<|(wrap .i64<|(wrap .i64<|N+(length f:Int))-(1:Int))-i] (aT U)/\(1<=1)/\(b<=(length s)/\zS (b+1) 56)/\Q81 105 7 r v 5 [Q23 2 N,Q115 3 11,Q64 4 12 7,Q115 6 13,Q65 8 4 M,Q23 10 o,Q93 11 14 4 0<|a+1,Q93 12 15 4 0<|b+1,Q65 86 4 p,Q23 87 w,Q23 88 E] [Q87 0 3 1 6 0 0 A l,Q99 1 7 d 8 e m n 9 c,Q133,Q134,Q22 4,Q61 5 O,Q22 6,Q137 7 P,Q126 8 S,Q113 9 T,Q12 10 2 x,Q34 11 4 B,Q34 12 7 C,Q131 13 4 k g h,Q12 14 4<|(take a q)++[(rE D)],Q12 15 4<|(take b s)++[(FT4 U)]] 16) F) F) F) ((FV.L 4 (Q8 4 M)=true)/\((4:Nat)=4/\(0+a)<=(length q))/\∃L:Tm×Int×Wk,Q10 90 [Q43 0 3 0 0,Q24 u,Q24<|zO [j,o],Q24 (length M:Int),Q101 4<|take a<|drop 0 q] (Q125 (Q98 3 1 6 0 0 6 2 0 t l) (Q80 2 d 3 e m n 4 c) P S T O x) (Q114 (cT L.1) L.2.1) (wSb L.2.2 [])/\((4:Nat)=4/\(0+b)<=(length s))/\∃V:Tm,Q96 15 [(aT L.1),Q101 4<|take b<|drop 0 s] (aT V)/\RT (Q114 (cT V) L.2.1) (wSb L.2.2 []) r v)):=zh
theorem v106 (o p:Int)(l:RW)(m:Int)(n:RW)(f c q s t k:Int)(i:Nat)(j:Int)(d e:Nat)(g h:Int)(a:Nat)(z F G:RW)(u:List MapZ)(H:RW)(r:TV)(b:LA):let A:=Q136 (Q5 0 3 0 0) o p 4 l;let B:=Q125 (Q98 3 1 6 0 0 6 2 0 i j) (Q80 2 d 3 e g h 4 a) z F G u H;let C:=Q62 1 d 2 e g h 3 a 4 z F G u;VE lv3 106 7 r b [.agg A,.agg<|Q111 m 1 n f c q s t,Q24 k] B=
  (br (f==0) (∃v:LU,Q122 35 0 6 0 0 c C (Q143 v) C/\RT (Q120 (Q74 0 v 0) true) B r b)<|br (f==2) (RT (Q120 (Q74 2 [] c) true) B r b)<|br (f==1) (∃w:Tm×Bool,let D:=Q120 (cT w.1) w.2;Q10 113 [.agg A,.agg<|Q74 1 [] c,Q24 k] B D B/\RT D B r b) (∃x:Tm,Q96 89 [Q24 c] (aT x)/\∃y:Tm×Bool,let E:=Q120 (cT y.1) y.2;Q10 113 [.agg A,(aT x),Q24 k] B E B/\RT E B r b)):=zh
def lv107:LV:=[(3,[1,5,21,22,23])]
theorem v107 (c:Int)(e:LU)(d:Int)(a:RW)(i:Int)(r:TV)(b:LA):let A:=FV.L 4 (Q8 4 a)=true;let B:=(length a:Int);let C:=A/\Q81 107 0 r b 3 [Q23 1 i,Q23 5 0,Q65 21 4 a,Q23 22 B,Q23 23 0] [] 0;VE lv107 107 0 r b [Q78 c e d 4 a,Q24 i] []=
  (br (c==3) (br (d==i) (Q88 1 [] r b) C)<|br (c==5) (A/\Q81 107 0 r b 3 [Q23 1<|wrap .i64<|i+1,Q23 5 0,Q65 21 4 a,Q23 22 B,Q23 23 0] [] 0) C):=zh
theorem m7 (e f:Int)(b:RW)(d a:Int)(r:TV)(c:LA):let A:=getD b (toNat a) [];VQ lv107 107 0 r c 3 ⟨[Q23 1 e,Q23 5 f,Q65 21 4 b,Q23 22 d,Q23 23 a],[],0⟩=
  (br (decide (a<d)) (((FV.L 4 (Q8 4 b)=true)/\(0<=a)/\(a<(length b:Int))/\(((rE A):List FV)=A))/\∃g:Int,Q96 107 [(aE A),Q24 e] (Q24 g)/\Q81 107 0 r c 3 [Q23 1 e,Q23 5<|wrap .i64<|f+g,Q65 21 4 b,Q23 22 d,Q23 23<|wrap .i64<|a+1] [] 0)<|Q88 f [] r c):=zh
theorem v96 (c:Int)(e:LU)(d:Int)(f:RW)(k a b:Int)(r:TV)(g:LA):let A:=RT (Q78 c e d 4 f) [Q146 a,Q146 b] r g;VE lv3 96 2 r g [Q78 c e d 4 f,Q24 k,Q43 0 1 0 0,Q43 1 1 0 0] [Q146 a,Q146 b]=
  (br (c==3) (br (decide ((d:Int)>=(wrap .i64<|k+a))) (∃h:Tm,Q96 97 [Q78 c e d 4 f,Q24 b] (aT h)/\RT (aT h) [Q146 a,Q146 b] r g) A) A):=zh
theorem v108 (b:Int)(d:LU)(e:Int)(c:RW)(r:TV)(a:LA):let A:=Q11 (Q145 4 c);VE lv3 108 0 r a [Q78 b d e 4 c] []=
  (br (b==5) (RT (Q45 A 1) [] r a)<|br (b==6) (RT (Q45 A 0) [] r a)<|RT (Q45 (Q11 [Q39]) 0) [] r a):=zh
theorem v66_F104 (s:RW)(a:Int)(b:LU)(d:Int)(e:RW)(r:TV)(f:LA):let A:=Q59 a b d 4 e;VE lv45 66 1 r f [Q101 4 s,.c<|.fn (.func 104) [] [(false,[(.ep 0 4 0 0)])]] [Q9 4 A]=
  ((FV.L 4 (Q8 4 s)=true)/\Q81 66 1 r f 1 (Q132 (Q65 0 4 s) (Q6 1<|.fn (.func 104) [] [(false,[(.ep 0 4 0 0)])]) 7 (length s:Int) 8 0) [Q34 0 4 A] 1):=zh
theorem dh (c:RW)(h b g:Int)(d:LU)(e:Int)(f:RW)(r:TV)(a:LA):let A:=Q6 1 (.fn (.func 104) [] [(false,[(.ep 0 4 0 0)])]);let B:=Q59 g d e 4 f;let C:=getD c (toNat b) [];VQ lv45 66 1 r a 1 ⟨Q132 (Q65 0 4 c) A 7 h 8 b,[Q34 0 4 B],1⟩=
  (br (decide (b<h)) (((FV.L 4 (Q8 4 c)=true)/\(0<=b)/\(b<(length c:Int))/\(((rE C):List FV)=C))/\∃i:Bool,Q10 104 [(aE C),Q43 0 4 0 0] [Q9 4 B] (Q41 i) [Q9 4 B]/\br i (Q88 b [Q9 4 B] r a) (Q81 66 1 r a 1 (Q132 (Q65 0 4 c) A 7 h 8<|wrap .i64<|b+1) [Q34 0 4 B] 1))<|Q88 (-1:Int) [Q9 4 B] r a):=zh
theorem dk (g:Nat)(h:RW)(a:Int)(b:LU)(d:Int)(e:RW)(r:TV)(f:LA):let A:=Q59 a b d 4 e;VE lv45 66 2 r f [.c<|Q3 0 4 0 g,.c<|.fn (.func 104) [] [(false,[(.ep 1 4 0 0)])]] [.arz 4 h,Q9 4 A]=
  (Q81 66 2 r f 1 (Q132 (Q93 0 0 4 0 g) (Q6 1<|.fn (.func 104) [] [(false,[(.ep 1 4 0 0)])]) 7 (g:Int) 8 0) [Q12 0 4 h,Q34 1 4 A] 2):=zh
theorem kW (d:Nat)(i b:Int)(c:RW)(e:Int)(f:LU)(g:Int)(h:RW)(r:TV)(a:LA):let A:=Q93 0 0 4 0 d;let B:=Q6 1 (.fn (.func 104) [] [(false,[(.ep 1 4 0 0)])]);let C:=Q59 e f g 4 h;let D:=0+(toNat b);let E:=getD c D [];VQ lv45 66 2 r a 1 ⟨Q132 A B 7 i 8 b,[Q12 0 4 c,Q34 1 4 C],2⟩=
  (br (decide (b<i)) ((0<=b/\b<(d:Int))/\((D<(length c))/\(((rE E):List FV)=(take 4<|drop 0 E))/\((4:Nat)=4))/\∃j:Bool,Q10 104 [(aE E),Q43 0 4 0 0] [Q9 4 C] (Q41 j) [Q9 4 C]/\br j (Q88 b [.arz 4 c,Q9 4 C] r a) (Q81 66 2 r a 1 (Q132 A B 7 i 8<|wrap .i64<|b+1) [Q12 0 4 c,Q34 1 4 C] 2))<|Q88 (-1:Int) [.arz 4 c,Q9 4 C] r a):=zh
def lv113:LV:=[(1,[2,3,4,6,8,31,32,33])]
abbrev w113_0 (a:Int)(b:RW)(r:TV)(Hs':LA)(c:Int)(d:Nat)(e:Int)(f g:Nat)(h i:Int)(j:Nat)(k l m:RW)(n:List MapZ)(o:RW)(p q:Int)(s:LU)(t:Int)(u:RW):Prop:=(br (a==3) ((FV.L 4 (Q8 4 b)=true)/\(Q81 113 7 r Hs' 1 [Q23 2 c,Q115 3 7,Q115 4 8,Q115 6 9,Q115 8 10,Q65 31 4 b,Q23 32 (length b:Int),Q23 33 0] [Q87 0 3 1 6 0 0 (Q3 6 2 0 d) e,Q99 1 2 f 3 g h i 4 j,Q137 2 k,Q126 3 l,Q113 4 m,Q61 5 n,Q12 6 2 o,Q34 7 4<|Q136 (Q5 0 3 0 0) p q 4 b,Q34 8 4<|Q59 a s t 4 u,Q131 9 4 0 [] 0,Q34 10 4<|Q59 a s (wrap .i64<|t-c) 4 u] 11))<|(FV.L 4 (Q8 4 b)=true)/\(Q81 113 7 r Hs' 1 [Q23 2 c,Q115 3 7,Q115 4 8,Q115 6 9,Q115 8 10,Q65 31 4 b,Q23 32 (length b:Int),Q23 33 0] [Q87 0 3 1 6 0 0 (Q3 6 2 0 d) e,Q99 1 2 f 3 g h i 4 j,Q137 2 k,Q126 3 l,Q113 4 m,Q61 5 n,Q12 6 2 o,Q34 7 4<|Q136 (Q5 0 3 0 0) p q 4 b,Q34 8 4<|Q59 a s t 4 u,Q131 9 4 0 [] 0,Q34 10 4<|Q59 a s t 4 u] 11))
theorem v113 (o p:Int)(n:RW)(e:Int)(j:LU)(f:Int)(l:RW)(k:Int)(a:Nat)(g:Int)(c d:Nat)(h i:Int)(b:Nat)(t u v:RW)(q:List MapZ)(s:RW)(r:TV)(m:LA):let A:=Q125 (Q98 3 1 6 0 0 6 2 0 a g) (Q80 2 c 3 d h i 4 b) t u v q s;let B:=w113_0 e n r m k a g c d h i b t u v q s o p j f l;VE lv113 113 7 r m [.agg<|Q136 (Q5 0 3 0 0) o p 4 n,Q78 e j f 4 l,Q24 k] A=
  (br (e==3) (br (decide (f<k)) (RT (Q120 (Q59 e j f 4 l) true) A r m) B) B):=zh
theorem oC (G:Int)(e:RW)(w b:Int)(f:Nat)(g:Int)(c d:Nat)(m n:Int)(a:Nat)(J K L:RW)(H:List MapZ)(I:RW)(z u:Int)(h:RW)(p:Int)(x:LU)(q:Int)(y:RW)(s:Int)(t:LU)(v o:Int)(i:LU)(j:Int)(k:RW)(r:TV)(l:LA):let A:=Q3 6 2 0 f;let B:=Q136 (Q5 0 3 0 0) z u 4 h;let C:=Q59 p x q 4 y;let D:=Q59 o i j 4 k;let E:=getD e (toNat b) [];let F:=Q125 (Q98 3 1 6 0 0 6 2 0 f g) (Q80 2 c 3 d m n 4 a) J K L H I;VQ lv113 113 7 r l 1 ⟨[Q23 2 G,Q115 3 7,Q115 4 8,Q115 6 9,Q115 8 10,Q65 31 4 e,Q23 32 w,Q23 33 b],[Q87 0 3 1 6 0 0 A g,Q99 1 2 c 3 d m n 4 a,Q137 2 J,Q126 3 K,Q113 4 L,Q61 5 H,Q12 6 2 I,Q34 7 4 B,Q34 8 4 C,Q131 9 4 s t v,Q34 10 4 D],11⟩=
  (br (decide (b<w)) (((FV.L 4 (Q8 4 e)=true)/\(0<=b)/\(b<(length e:Int))/\(((rE E):List FV)=E))/\∃M:Bool,Q103 88 [(aE E),Q78 o i j 4 k] M/\br M ((FV.L 4 (Q8 4 h)=true)/\∃N:Tm,Q96 89 [Q24<|wrap .i64<|(wrap .i64<|(wrap .i64<|G+(length h:Int))-(1:Int))-b] (aT N)/\RT (Q120 (cT N) true) F r l) (Q81 113 7 r l 1 [Q23 2 G,Q115 3 7,Q115 4 8,Q115 6 9,Q115 8 10,Q65 31 4 e,Q23 32 w,Q23 33<|wrap .i64<|b+1] [Q87 0 3 1 6 0 0 A g,Q99 1 2 c 3 d m n 4 a,Q137 2 J,Q126 3 K,Q113 4 L,Q61 5 H,Q12 6 2 I,Q34 7 4 B,Q34 8 4 C,Q131 9 4 s t v,Q34 10 4 D] 11))<|br (p==1) (RT (Q120 C (decide (q<=u))) F r l)<|RT (Q120 C false) F r l):=zh
theorem v97 (a:Int)(b:LU)(c:Int)(d:RW)(f:Int)(r:TV)(e:LA):VE lv3 97 0 r e [Q78 a b c 4 d,Q24 f] []=
  (RT (Q78 a b (wrap .i64<|c+f) 4 d) [] r e):=zg
theorem v104 (e:Int)(f:LU)(g:Int)(h:RW)(a:Int)(b:LU)(c:Int)(d:RW)(r:TV)(i:LA):let A:=Q59 a b c 4 d;VE lv3 104 1 r i [Q78 e f g 4 h,Q43 0 4 0 0] [Q9 4 A]=
  (∃j:Bool,Q103 88 [Q78 e f g 4 h,Q78 a b c 4 d] j/\Q66 j [Q9 4 A] r i):=zh
end Go.AM
namespace Go.AM
abbrev qi (x:Int):WV:=.a<|.fz<|.int .i64 x
abbrev qf (x:FV):WV:=.a<|.fz x
theorem rrl {a:TV}{H:List AObj}:TV.Le a a/\H=H:=⟨.refl _,rfl⟩
theorem bF {p:Prop}[Decidable p]{t f:Prop}(h:¬p)(y:f):br (decide p) t f:=zu (λw=>absurd (rA w) h) λ_=>y
theorem bT {p:Prop}[Decidable p]{t f:Prop}(h:p)(y:t):br (decide p) t f:=zu (λ_=>y) λw=>absurd h<|ri w
theorem bN {t f:Prop}(y:f):br false t f:=y
theorem bP {t f:Prop}(y:t):br true t f:=y
def dP (c:Int):Bool:=decide (97<=c)&&decide (c<=122)
def l7 (c:Int):Bool:=decide (65<=c)&&decide (c<=90)||c==95
def nF (c:Int):Bool:=decide (48<=c)&&decide (c<=57)
def kE (c:Int):Bool:=dP c||l7 c||nF c||c==39
def signs:List UInt8:=[43,45,42,47,60,62,61,38,124,94,126,64,35,36,63,58]
def dc (c:Int):Bool:=decide (Lib.indexByte signs c.toNat.toUInt8>=0)
theorem iN (c:Int):AC rc 61 [c8 c] [] (cb<|dP c) []:=by
 refine acv (v61 ..) ?_;refine zu (λh=>zH ?_) (λh=>zH ?_)<;>simp_all[dP]<;>omega
theorem c_great (c:Int):AC rc 81 [c8 c] [] (cb<|l7 c) []:=by
 refine acv (v81 ..) ?_;refine zu (λh=>zu (λh=>zH ?_) λh=>zH ?_) (λh=>zH ?_)<;>simp_all[l7]<;>omega
theorem c_digit (c:Int):AC rc 82 [c8 c] [] (cb<|nF c) []:=by
 refine acv (v82 ..) ?_;refine zu (λh=>zH ?_) (λh=>zH ?_)<;>simp_all[nF]<;>omega
theorem c_inside (c:Int):AC rc 63 [c8 c] [] (cb<|kE c) []:=by
 refine acv (v63 ..) ?_;refine⟨_,iN c,zu (λh=>zH ?_) λh=>⟨_,c_great c,zu (λh=>zH ?_) λh=>⟨_,c_digit c,zu (λh=>zH ?_) λh=>zH ?_⟩⟩⟩<;>simp_all[kE]
theorem JM (s:List UInt8)(c:Int):AC rc 99 [cs s,c8 c] [] (ci<|Lib.indexByte s c.toNat.toUInt8) []:=
 AC.str_u8 zg λw=>Tryz.stringslite_IndexByte ⟨s.toArray⟩ c w
theorem f7 (s:List UInt8)(c:Int):AC rc 83 [cs s,c8 c] [] (ci<|Lib.indexByte s c.toNat.toUInt8) []:=
 AC.str_u8 zg λw=>Tryz.strings_IndexByte ⟨s.toArray⟩ c w
theorem c_sign (c:Int):AC rc 64 [c8 c] [] (cb<|dc c) []:=by
 refine acv (v64 ..) ?_;exact⟨_,f7 _ c,zH rfl⟩
def runN (p:Int->Bool):List UInt8->Nat
 |[]=>0
 |c::s=>if p (c.toNat:Int) then runN p s+1 else 0
theorem iL (p:Int->Bool):∀s:List UInt8,runN p s<=s.length
 |[]=>r6 _
 |c::s=>by have:=iL p s;simp only[runN,r5];split<;>omega
theorem iv (a:List UInt8)(c:UInt8)(b:List UInt8):getD (a++c::b) (Int.toNat (a.length:Int)) 0=c:=by simp[getD]
theorem Zk:∀(b a:List UInt8),(a++b).length<=B->RPt rc 62 0 (ci<|(a.length:Int)+runN kE b) [] 1 ⟨[(0,cs<|a++b),(1,.c<|.fn (.func 63) [] []),(7,ci (((a++b).length:Nat):Int)),(8,ci a.length)],[],0⟩
 |[],a,hl=>by
  refine rpv (W2 ..) ?_;exact zu (λh=>absurd h zb) (λ_=>jn<|by simp[runN])
 |c::b,a,hl=>by
  refine rpv (W2 ..) ?_;have hl':=hl;simp only[re,r5,B] at hl';refine zu (λ_=>⟨⟨za,zj⟩,kE (c.toNat:Int),?_,zu (λh=>jn ?_) λh=>?_⟩) (λh=>absurd h zj)
  .rw[iv];exact c_inside _
  .simp_all[runN]
  .have:=Zk b (a++[c]) (zo hl);rw[w64 za za];simp only[rh,sk,rH,re,r5,rt,Int.natCast_add,Int.natCast_one,Int.natCast_zero,Int.zero_add] at this;simp only[Bool.not_eq_false'] at h;simp only[runN,h,rG,re,r5,Int.natCast_add,Int.natCast_one];rw[show(a.length:Int)+((runN kE b:Nat)+1:Int)=(a.length:Int)+1+(runN kE b:Nat) by omega];exact this
theorem gU (s:List UInt8)(h:s.length<=B):AC rc 62 [cs s,.c<|.fn (.func 63) [] []] [] (ci<|runN kE s) []:=by
 refine acv (v62_F63 ..) ?_;have:=Zk s [] (zo h);exact zo this
theorem Wd:∀(b a:List UInt8),(a++b).length<=B->RPt rc 62 0 (ci<|(a.length:Int)+runN dc b) [] 1 ⟨[(0,cs<|a++b),(1,.c<|.fn (.func 64) [] []),(7,ci (((a++b).length:Nat):Int)),(8,ci a.length)],[],0⟩
 |[],a,hl=>by
  refine rpv (XP ..) ?_;exact zu (λh=>absurd h zb) (λ_=>jn<|by simp[runN])
 |c::b,a,hl=>by
  refine rpv (XP ..) ?_;have hl':=hl;simp only[re,r5,B] at hl';refine zu (λ_=>⟨⟨za,zj⟩,dc (c.toNat:Int),?_,zu (λh=>jn ?_) λh=>?_⟩) (λh=>absurd h zj)
  .rw[iv];exact c_sign _
  .simp_all[runN]
  .have:=Wd b (a++[c]) (zo hl);rw[w64 za za];simp only[rh,sk,rH,re,r5,rt,Int.natCast_add,Int.natCast_one,Int.natCast_zero,Int.zero_add] at this;simp only[Bool.not_eq_false'] at h;simp only[runN,h,rG,re,r5,Int.natCast_add,Int.natCast_one];rw[show(a.length:Int)+((runN dc b:Nat)+1:Int)=(a.length:Int)+1+(runN dc b:Nat) by omega];exact this
theorem px (s:List UInt8)(h:s.length<=B):AC rc 62 [cs s,.c<|.fn (.func 64) [] []] [] (ci<|runN dc s) []:=by
 refine acv (v62_F64 ..) ?_;have:=Wd s [] (zo h);exact zo this
theorem qD (p:Int->Bool):∀s:List UInt8,(((runN p s:Nat):Int)==((s.length:Nat):Int))=s.all λc=>p (c.toNat:Int)
 |[]=>rfl
 |c::s=>by
  have ih:=qD p s;have:=iL p s;simp only[runN,tj,r5];cases h:p (c.toNat:Int) with
  |true=>rw[<-ih];simp only[rG,sr];rw[Bool.eq_iff_iff];simp<;>omega
  |false=>simp;omega
def aM (s:List UInt8):Bool:= !(s==[])&&decide ((s.length:Int)<=32)
theorem c_fits (s:List UInt8):AC rc 60 [cs s] [] (cb<|aM s) []:=by
 refine acv (v60 ..) ?_;refine zu (λh=>zH ?_) (λh=>zH ?_)<;>simp_all[aM]
def Y3 (s:List UInt8):Bool:=aM s&&dP ((s.getD 0 0).toNat:Int)&&s.all λc=>kE (c.toNat:Int)
theorem fb {s:List UInt8}(h:aM s=true):0<s.length/\s.length<=32:=by
 simp only[aM,oZ,sX,rL] at h;refine⟨?_,za⟩;cases s with
 |nil=>simp at h
 |cons c s=>simp
theorem c_isname (s:List UInt8):AC rc 38 [cs s] [] (cb<|Y3 s) []:=by
 refine acv (v38 ..) ?_;refine⟨_,c_fits s,zu (λh=>⟨⟨za,by have:=fb h;omega⟩,_,iN _,zu (λh2=>⟨_,gU s<|by have:=fb h;simp only[B];omega,zH ?_⟩) λh2=>zH ?_⟩) λh=>zH ?_⟩
 .rw[qD];simp only[Y3,h,h2,sr]
 .simp only[Y3,h,h2,tv,sQ]
 .simp only[Y3,h,sQ]
def di:List UInt8:=[44,59,33]
theorem gY (s:List UInt8)(c:UInt8)(hs:s.length<=B):AC rc 65 [cs s,cs [c]] [] (cb (decide (Lib.indexByte s c>=0))) []:=by
 have hb:(c.toNat:Int).toNat.toUInt8=c:=zb
 have h1:AC rc 100 [cs s,cs [c]] [] (ci (if [c]==s then 0 else Lib.indexByte s c)) []:=by
  refine acv (v100 ..) ?_;refine zu (λh=>absurd h zb) (λ_=>zu (λh=>jn<|by simp[h]) λh=>zu (λ_=>⟨⟨za,zb⟩,_,JM s _,jn ?_⟩) λh2=>absurd h2 zb);rw[h];simp
 have h2:AC rc 84 [cs s,cs [c]] [] (ci (if [c]==s then 0 else Lib.indexByte s c)) []:=by
  refine acv (v84 ..) ?_;exact⟨_,h1,jn rfl⟩
 refine acv (v65 ..) ?_;refine⟨_,h2,zH ?_⟩;by_cases e:[c]=s
 .subst e;simp[Lib.indexByte]
 .have:([c]==s)=false:=zo e
  rw[this];simp
def K7 (s:List UInt8):Bool:=aM s&&((s.all λc=>dc (c.toNat:Int))||((s.length:Int)==1&&decide (Lib.indexByte di (s.getD 0 0)>=0)))
theorem c_issym (s:List UInt8):AC rc 39 [cs s] [] (cb<|K7 s) []:=by
 refine acv (v39 ..) ?_;refine⟨_,c_fits s,zu (λh=>⟨_,px s<|by have:=fb h;simp only[B];omega,zu (λh2=>zH ?_) λh2=>zu (λh3=>?_) λh3=>zH ?_⟩) λh=>zH ?_⟩
 .rw[qD] at h2;simp only[K7,h,h2,sr,Bool.true_or]
 .rw[qD] at h2
  match s,h3 with
  |[c],h3=>
   refine⟨_,gY di c<|by simp[di,B],zH ?_⟩;simp only[K7,h,h2,h3,sr,tS,List.getD_cons_zero]
  |[],h3=>simp at h3
  |_::_::_,h3=>simp at h3;omega
 .rw[qD] at h2;simp only[K7,h,h2,h3,sQ,tS,tv]
 .simp only[K7,h,sQ]
mutual
def near (most:Int):Tm->Bool
 |.mk k _ n l=> !(k !=2&&(decide (n>most)||decide (n<0-most)))&&fP most l
def fP (most:Int):List Tm->Bool
 |[]=>true
 |t::l=>near most t&&fP most l
end
theorem l_near (most k:Int)(s:List UInt8)(n:Int):∀(b a:List Tm),(∀u∈b,AC rc 17 [aT u,ci most] [] (cb<|near most u) [])->(a++b).length<=B->
  RPt rc 17 0 (cb<|fP most b) [] 1 ⟨[(1,ci most),(2,(.c<|.a<|.ep 0 4 0 0)),(5,ci a.length)],[(0,(.arr 4 [fzs<|FT<|.mk k s n<|a++b]))],1⟩
 |[],a,_,hl=>by
  refine rpv (v17_1a ..) ?_;exact⟨rfl,bF (geI' a)<|zH rfl⟩
 |t::b,a,ih,hl=>by
  refine rpv (v17_1a ..) ?_;have hl':=hl;simp only[re,r5,B] at hl';refine⟨rfl,bT (ltI' a t b)<|?_⟩;have h1:=ih t r7;have h2:=l_near most k s n b (a++[t]) (λu hu=>ih u<|r9 _ hu) (by rw[ap];exact hl);have h3:=ltI' a t b;rw[ap,nx] at h2;rw[midI,w64 za za];obtain⟨k',s',n',l'⟩:=t;refine⟨⟨rfl,za,h3,rfl⟩,_,h1,zu (λh=>zH ?_) λh=>?_⟩
  .simp_all[fP]
  .simp only[fP,show near most (.mk k' s' n' l')=true by simpa using h,sr];exact h2
theorem c_near (most:Int)(h0:0<=most)(h1:most<=4611686018427387904):∀t:Tm,t.sz<=B->AC rc 17 [aT t,ci most] [] (cb<|near most t) []:=by
 refine Tm.ind λt ih hs=>?_;obtain⟨k,s,n,l⟩:=t;have hl:=Tm.szs_length l;simp only[Tm.sz,B] at hs;refine acv (v17 k s n (FTs l) most _ _) ?_;have key:=l_near most k s n l [] (λu hu=>ih u hu<|by have:=Tm.szs_mem hu;simp only[B];omega) (by simp only[rH,B];omega);rw[w64 za za];rw[near];refine zu (λh=>zu (λh2=>zH ?_) λh2=>zu (λh3=>zH ?_) λh3=>?_) λh=>?_
 .simp only[h,h2,Bool.true_or,ti,Bool.not_true,sQ]
 .simp only[h,h3,Bool.or_true,ti,Bool.not_true,sQ]
 .simp only[h2,h3,Bool.or_false,tv,Bool.not_false,sr];exact key
 .simp only[h,sQ,Bool.not_false,sr];exact key
mutual
def Z9:Tm->Int->Int
 |.mk _ _ _ l,most=>qG l<|most-1
def qG:List Tm->Int->Int
 |[],n=>n
 |t::l,n=>if n>=0 then qG l (Z9 t n) else n
end
mutual
theorem bX:∀(t:Tm) (n:Int),Z9 t n<=n-1/\(0<=n-> -1<=Z9 t n)
 |.mk _ _ _ l,n=>by
  have h:=Wz l<|n-1
  simp only[Z9];exact⟨h.1,λhn=>h.2 za⟩
theorem Wz:∀(l:List Tm) (n:Int),qG l n<=n/\(-1<=n-> -1<=qG l n)
 |[],n=>by simp[qG]
 |t::l,n=>by
  have h1:=bX t n;have h2:=Wz l<|Z9 t n
  simp only[qG];split
  next h=>exact⟨za,λ_=>h2.2<|h1.2 h⟩
  .exact⟨ru _,λh=>h⟩
end
theorem l_left (k:Int)(s:List UInt8)(n:Int):∀(b a:List Tm) (m:Int),(∀u∈b,∀m:Int,0<=m->m<=4611686018427387904->AC rc 26 [aT u,ci m] [] (ci<|Z9 u m) [])->(a++b).length<=B->m<=4611686018427387904->
  RPt rc 26 0 (ci<|qG b m) [] 1 ⟨[(2,(.c<|.a<|.ep 0 4 0 0)),(5,ci m),(6,ci a.length)],[(0,(.arr 4 [fzs<|FT<|.mk k s n<|a++b]))],1⟩
 |[],a,m,_,hl,hm=>by
  refine rpv (v26_1a ..) ?_;exact⟨rfl,bF (geI' a)<|jn rfl⟩
 |t::b,a,m,ih,hl,hm=>by
  refine rpv (v26_1a ..) ?_;have hl':=hl;simp only[re,r5,B] at hl';refine⟨rfl,bT (ltI' a t b)<|zu (λhm0=>?_) λhm0=>jn ?_⟩
  .have hm0:=rA hm0;have h1:=ih t r7 m hm0 hm;have hle:=bX t m;have h2:=l_left k s n b (a++[t]) (Z9 t m) (λu hu=>ih u<|r9 _ hu) (by rw[ap];exact hl) za;have h3:=ltI' a t b;rw[ap,nx] at h2;rw[midI,w64 za za];simp only[qG,hm0,rG];obtain⟨k',s',n',l'⟩:=t;exact⟨⟨rfl,za,h3,rfl⟩,_,h1,h2⟩
  .have hm0:=ri hm0;simp only[qG,hm0,rN]
theorem c_left:∀t:Tm,t.sz<=B->∀m:Int,0<=m->m<=4611686018427387904->AC rc 26 [aT t,ci m] [] (ci<|Z9 t m) []:=by
 refine Tm.ind λt ih hs m h0 h1=>?_;obtain⟨k,s,n,l⟩:=t;have hl:=Tm.szs_length l;simp only[Tm.sz,B] at hs;refine acv (v26 k s n (FTs l) m _ _) ?_;rw[w64 za za];exact l_left k s n l [] (m-1) (λu hu=>ih u hu<|by have:=Tm.szs_mem hu;simp only[B];omega) (by simp only[rH,B];omega) za
def large (t:Tm)(most:Int):Bool:=decide (Z9 t most<0)
theorem c_large (t:Tm)(hs:t.sz<=B)(m:Int)(h0:0<=m)(h1:m<=4611686018427387904):AC rc 16 [aT t,ci m] [] (cb<|large t m) []:=by
 have h:=c_left t hs m h0 h1;obtain⟨k,s,n,l⟩:=t;refine acv (v16 k s n (FTs l) m _ _) ?_;exact⟨_,h,zH rfl⟩
mutual
def qt:Tm->Tm->Bool
 |.mk k s n l,.mk k' s' n' l'=>k==k'&&(s==s'&&(n==n'&&Zx l l'))
def Zx:List Tm->List Tm->Bool
 |[],[]=>true
 |t::l,u::m=>qt t u&&Zx l m
 |_,_=>false
end
mutual
theorem YF:∀a b:Tm,qt a b=true↔a=b
 |.mk k s n l,.mk k' s' n' l'=>by simp only[qt,oZ,rT,Tm.mk.injEq,Kr l l']
theorem Kr:∀a b:List Tm,Zx a b=true↔a=b
 |[],[]=>by simp[Zx]
 |t::l,u::m=>by simp only[Zx,oZ,List.cons.injEq,YF t u,Kr l m]
 |[],_::_=>by simp[Zx]
 |_::_,[]=>by simp[Zx]
end
theorem KC:∀ {a b:List Tm},a.length≠b.length->Zx a b=false
 |[],[],h=>absurd rfl h
 |t::l,u::m,h=>by simp only[Zx,KC (a:=l) (b:=m) λe=>h<|by simp[e],tv]
 |[],_::_,_=>rfl
 |_::_,[],_=>rfl
theorem l_same (k:Int)(s:List UInt8)(n k':Int)(s':List UInt8)(n':Int):∀(b a b' a':List Tm),(∀u∈b,∀v∈b',AC rc 10 [aT u,aT v] [] (cb<|qt u v) [])->(a++b).length<=B->a.length=a'.length->b.length=b'.length->
  RPt rc 10 0 (cb<|Zx b b') [] 1 ⟨[(2,(.c<|.a<|.ep 0 4 0 0)),(3,(.c<|.a<|.ep 1 4 0 0)),(5,ci a.length)],[(0,(.arr 4 [fzs<|FT<|.mk k s n<|a++b])),(1,(.arr 4 [fzs<|FT<|.mk k' s' n'<|a'++b']))],2⟩
 |[],a,[],a',_,hl,_,_=>by
  refine rpv (v10_1a ..) ?_;exact⟨rfl,bF (geI' a)<|zH rfl⟩
 |t::b,a,u::b',a',ih,hl,ha,hb=>by
  refine rpv (v10_1a ..) ?_;have hl':=hl;simp only[re,r5,B] at hl';refine⟨rfl,bT (ltI' a t b)<|?_⟩;have h1:=ih t r7 u r7;have h2:=l_same k s n k' s' n' b (a++[t]) b' (a'++[u]) (λx hx y hy=>ih x (r9 _ hx) y<|r9 _ hy) (by rw[ap];exact hl) (by simp[ha]) (zo hb);have h3:=ltI' a t b;have h4:=ltI' a' u b';rw[<-ha] at h4;rw[ap,ap,nx] at h2;rw[midI,midI' a a' ha,w64 za za];obtain⟨k1,s1,n1,l1⟩:=t;obtain⟨k2,s2,n2,l2⟩:=u;refine⟨⟨rfl,za,h3,rfl⟩,⟨rfl,za,h4,rfl⟩,_,h1,zu (λh=>zH ?_) λh=>?_⟩
  .rw[Zx,show qt (.mk k1 s1 n1 l1) (.mk k2 s2 n2 l2)=false by simpa using h,sQ]
  .rw[Zx,show qt (.mk k1 s1 n1 l1) (.mk k2 s2 n2 l2)=true by simpa using h,sr];exact h2
theorem c_rsame:∀a:Tm,a.sz<=B->∀b:Tm,AC rc 10 [aT a,aT b] [] (cb<|qt a b) []:=by
 refine Tm.ind λa ih hs b=>?_;obtain⟨k,s,n,l⟩:=a;obtain⟨k',s',n',l'⟩:=b;have hl:=Tm.szs_length l;simp only[Tm.sz,B] at hs;refine acv (v10 k s n (FTs l) k' s' n' (FTs l') _ _) ?_;have key:=λhe=>l_same k s n k' s' n' l [] l' [] (λu hu v _=>ih u hu (by have:=Tm.szs_mem hu;simp only[B];omega) v) (by simp only[rH,B];omega) rfl he;rw[lenI,lenI];refine zu (λh=>zH ?_) λh=>zu (λh2=>zH ?_) λh2=>zu (λh3=>zH ?_) λh3=>⟨rfl,rfl,zu (λh4=>zH ?_) λh4=>?_⟩
 .simp only[qt,show(k==k')=false by simpa using h,sQ]
 .simp only[qt,show(s==s')=false by simpa using h2,sQ,tv]
 .simp only[qt,show(n==n')=false by simpa using h3,sQ,tv]
 .rw[qt,KC<|by intro e;simp[e] at h4];simp
 .simp only[qt,show(k==k')=true by simpa using h,show(s==s')=true by simpa using h2,show(n==n')=true by simpa using h3,sr]
  exact key (by have:(l.length:Int)=l'.length:=zo h4
                omega)
def Tm.inner (t:Tm):Bool:=t.k==5||t.k==6
def Tm.by (t:Tm):Int:=if t.k==5 then 1 else 0
inductive La where
 |con (k n:Int) (s:List UInt8)
 |var (x:Int)
 |bv (n:Nat)
 |lam (b:La)
 |app (f a:La)
namespace La
def size:La->Nat
 |con _ _ _=>1
 |var _=>1
 |bv _=>1
 |lam b=>b.size+1
 |app f a=>f.size+a.size+1
def lift:La->Nat->La
 |con k n s,_=>con k n s
 |var x,_=>var x
 |bv n,k=>if n<k then bv n else bv<|n+1
 |lam b,k=>lam<|b.lift<|k+1
 |app f a,k=>app (f.lift k)<|a.lift k
def sub:La->La->Nat->La
 |con k n s,_,_=>con k n s
 |var x,_,_=>var x
 |bv n,u,k=>if n<k then bv n else if n=k then u else bv<|n-1
 |lam b,u,k=>lam<|b.sub (u.lift 0)<|k+1
 |app f a,u,k=>app (f.sub u k)<|a.sub u k
theorem wG:∀(t:La) (k:Nat),(t.lift k).size=t.size
 |con _ _ _,_=>rfl
 |var _,_=>rfl
 |bv n,k=>by rw[lift];split<;>rfl
 |lam b,k=>by rw[lift,size,size,wG b]
 |app f a,k=>by rw[lift,size,size,wG f,wG a]
theorem lift_lift:∀(t:La) (i k:Nat),i<=k->(t.lift i).lift (k+1)=(t.lift k).lift i
 |con _ _ _,_,_,_=>rfl
 |var _,_,_,_=>rfl
 |bv n,i,k,h=>by
  by_cases h1:n<i
  .rw[lift,oX h1,lift,oX za,lift,oX za,lift,oX h1]
  .by_cases h2:n<k
   .rw[lift,oV h1,lift,oX za,lift,oX h2,lift,oV h1]
   .rw[lift,oV h1,lift,oV za,lift,oV h2,lift,oV za]
 |lam b,i,k,h=>by rw[lift,lift,lift,lift,lift_lift b (i+1) (k+1) za]
 |app f a,i,k,h=>by rw[lift,lift,lift,lift,lift_lift f i k h,lift_lift a i k h]
theorem jD:∀(t u:La) (i j:Nat),j<=i->(t.sub u j).lift i=(t.lift<|i+1).sub (u.lift i) j
 |con _ _ _,_,_,_,_=>rfl
 |var _,_,_,_,_=>rfl
 |bv n,u,i,j,h=>by
  by_cases h1:n<j
  .rw[sub,oX h1,lift,oX za,lift,oX za,sub,oX h1]
  .by_cases h2:n=j
   .rw[sub,oV h1,oX h2,lift,oX za,sub,oV h1,oX h2]
   .rw[sub,oV h1,oV h2];by_cases h3:n<i+1
    .rw[lift,oX za,lift,oX h3,sub,oV h1,oV h2]
    .rw[lift,oV za,lift,oV h3,sub,oV za,oV za];congr 1;omega
 |lam b,u,i,j,h=>by rw[sub,lift,lift,sub,jD b _ (i+1) (j+1) za,<-lift_lift u 0 i za]
 |app f a,u,i,j,h=>by rw[sub,lift,lift,sub,jD f u i j h,jD a u i j h]
theorem lift_sub_lt:∀(t u:La) (i j:Nat),i<=j->(t.sub u j).lift i=(t.lift i).sub (u.lift i) (j+1)
 |con _ _ _,_,_,_,_=>rfl
 |var _,_,_,_,_=>rfl
 |bv n,u,i,j,h=>by
  by_cases h1:n<i
  .rw[sub,oX za,lift,oX h1,sub,oX za]
  .rw[show(bv n).lift i=bv (n+1) by rw[lift,oV h1]];by_cases h2:n<j
   .rw[sub,oX h2,lift,oV h1,sub,oX za]
   .by_cases h3:n=j
    .rw[sub,oV h2,oX h3,sub,oV za,oX za]
    .rw[sub,oV h2,oV h3,sub,oV za,oV za,lift,oV za];congr 1;omega
 |lam b,u,i,j,h=>by rw[sub,lift,lift,sub,lift_sub_lt b _ (i+1) (j+1) za,<-lift_lift u 0 i za]
 |app f a,u,i,j,h=>by rw[sub,lift,lift,sub,lift_sub_lt f u i j h,lift_sub_lt a u i j h]
theorem sub_lift:∀(t u:La) (k:Nat),(t.lift k).sub u k=t
 |con _ _ _,_,_=>rfl
 |var _,_,_=>rfl
 |bv n,u,k=>by
  by_cases h:n<k
  .rw[lift,oX h,sub,oX h]
  .rw[lift,oV h,sub,oV za,oV za];rfl
 |lam b,u,k=>by rw[lift,sub,sub_lift b]
 |app f a,u,k=>by rw[lift,sub,sub_lift f,sub_lift a]
theorem sub_lift_bv:∀(t:La) (k:Nat),(t.lift<|k+1).sub (bv k) k=t
 |con _ _ _,_=>rfl
 |var _,_=>rfl
 |bv n,k=>by
  by_cases h:n<k+1
  .rw[lift,oX h,sub];by_cases h2:n<k
   .rw[oX h2]
   .rw[oV h2,oX za,(za:n=k)]
  .rw[lift,oV h,sub,oV za,oV za];rfl
 |lam b,k=>by rw[lift,sub,lift,oV za,sub_lift_bv b]
 |app f a,k=>by rw[lift,sub,sub_lift_bv f,sub_lift_bv a]
theorem Ww:∀(t u v:La) (i j:Nat),i<=j->(t.sub (v.lift i)<|j+1).sub (u.sub v j) i=(t.sub u i).sub v j
 |con _ _ _,_,_,_,_,_=>rfl
 |var _,_,_,_,_,_=>rfl
 |bv n,u,v,i,j,h=>by
  by_cases h1:n<i
  .rw[sub,oX za,sub,oX h1,sub,oX h1,sub,oX za]
  .by_cases h2:n=i
   .rw[sub,oX za,sub,oV h1,oX h2,sub,oV h1,oX h2]
   .rw[show(bv n).sub u i=bv (n-1) by rw[sub,oV h1,oV h2]];by_cases h3:n<j+1
    .rw[sub,oX h3,sub,oV h1,oV h2,sub,oX za]
    .by_cases h4:n=j+1
     .rw[sub,oV h3,oX h4,sub_lift,sub,oV za,oX za]
     .rw[sub,oV h3,oV h4,sub,oV za,oV za,sub,oV za,oV za]
 |lam b,u,v,i,j,h=>by
  rw[sub,sub,sub,sub,<-lift_lift v 0 i za,lift_sub_lt u v 0 j za,Ww b (u.lift 0) (v.lift 0) (i+1) (j+1) za]
 |app f a,u,v,i,j,h=>by rw[sub,sub,sub,sub,Ww f u v i j h,Ww a u v i j h]
theorem lift_inj:∀ {t u:La} {k:Nat},t.lift k=u.lift k->t=u:=λ{t u k} h=>by
 have:=t8 (λx=>La.sub x (bv 0) k) h;simpa only[sub_lift] using this
theorem jH:∀(f w:La) (i k:Nat),i<=k->f.lift (k+1)=w.lift i->∃g:La,f=g.lift i/\w=g.lift k
 |con a b c,w,i,k,h,e=>⟨con a b c,rfl,by
  cases w with
  |con _ _ _=>exact e.symm
  |var _=>cases e
  |bv n=>rw[lift,lift] at e;split at e<;>cases e
  |lam _=>cases e
  |app _ _=>cases e⟩
 |var x,w,i,k,h,e=>⟨var x,rfl,by
  cases w with
  |con _ _ _=>cases e
  |var _=>exact e.symm
  |bv n=>rw[lift,lift] at e;split at e<;>cases e
  |lam _=>cases e
  |app _ _=>cases e⟩
 |bv n,w,i,k,h,e=>by
  cases w with
  |con _ _ _=>rw[lift,lift] at e;split at e<;>cases e
  |var _=>rw[lift,lift] at e;split at e<;>cases e
  |lam _=>rw[lift,lift] at e;split at e<;>cases e
  |app _ _=>rw[lift,lift] at e;split at e<;>cases e
  |bv m=>
   rw[lift,lift] at e;by_cases h1:n<k+1
   .rw[oX h1] at e;by_cases h2:m<i
    .rw[oX h2] at e;injection e with e
     subst e;exact⟨bv n,by rw[lift,oX h2],by rw[lift,oX za]⟩
    .rw[oV h2] at e;injection e with e
     subst e;exact⟨bv m,by rw[lift,oV h2],by rw[lift,oX za]⟩
   .rw[oV h1] at e;by_cases h2:m<i
    .rw[oX h2] at e;injection e with e
     omega
    .rw[oV h2] at e;injection e with e
     have e:n=m:=za
     subst e;refine⟨bv<|n-1,?_,?_⟩
     .rw[lift,oV za];congr 1;omega
     .rw[lift,oV za];congr 1;omega
 |lam b,w,i,k,h,e=>by
  cases w with
  |con _ _ _=>cases e
  |var _=>cases e
  |bv n=>rw[lift,lift] at e;split at e<;>cases e
  |app _ _=>cases e
  |lam c=>
   rw[lift,lift] at e;injection e with e
   obtain⟨g,h1,h2⟩:=jH b c (i+1) (k+1) za e;exact⟨lam g,by rw[lift,h1],by rw[lift,h2]⟩
 |app f a,w,i,k,h,e=>by
  cases w with
  |con _ _ _=>cases e
  |var _=>cases e
  |bv n=>rw[lift,lift] at e;split at e<;>cases e
  |lam _=>cases e
  |app f2 a2=>
   rw[lift,lift] at e;injection e with e1 e2
   obtain⟨g,h1,h2⟩:=jH f f2 i k h e1;obtain⟨g2,h3,h4⟩:=jH a a2 i k h e2;exact⟨app g g2,by rw[lift,h1,h3],by rw[lift,h2,h4]⟩
theorem lift_bv0 {a:La}{k:Nat}(h:a.lift (k+1)=bv 0):a=bv 0:=by
 cases a with
 |con _ _ _=>cases h
 |var _=>cases h
 |lam _=>cases h
 |app _ _=>cases h
 |bv n=>
  rw[lift] at h;split at h
  .exact h
  .cases h
end La
open La
section
variable (V:Int->Option La)
inductive Be:La->La->Prop
 |con (k n:Int) (s:List UInt8):Be (.con k n s) (.con k n s)
 |var (x:Int):Be (.var x) (.var x)
 |bv (n:Nat):Be (.bv n) (.bv n)
 |del {x:Int} {v:La}:V x=some v->Be (.var x) v
 |lam {b b':La}:Be b b'->Be (.lam b) (.lam b')
 |app {f f' a a':La}:Be f f'->Be a a'->Be (.app f a) (.app f' a')
 |beta {b b' a a':La}:Be b b'->Be a a'->Be (.app (.lam b) a) (b'.sub a' 0)
end
inductive Et:La->La->Prop
 |con (k n:Int) (s:List UInt8):Et (.con k n s) (.con k n s)
 |var (x:Int):Et (.var x) (.var x)
 |bv (n:Nat):Et (.bv n) (.bv n)
 |lam {b b':La}:Et b b'->Et (.lam b) (.lam b')
 |app {f f' a a':La}:Et f f'->Et a a'->Et (.app f a) (.app f' a')
 |eta {u u':La}:Et u u'->Et (.lam (.app (u.lift 0) (.bv 0))) u'
def ClV (V:Int->Option La):Prop:=∀x v,V x=some v->∀k,v.lift k=v
section
variable {V:Int->Option La} (hV:ClV V)
theorem Be.refl:∀t:La,Be V t t
 |.con k n s=>.con k n s
 |.var x=>.var x
 |.bv n=>.bv n
 |.lam b=>.lam<|Be.refl b
 |.app f a=>.app (Be.refl f)<|Be.refl a
theorem Et.refl:∀t:La,Et t t
 |.con k n s=>.con k n s
 |.var x=>.var x
 |.bv n=>.bv n
 |.lam b=>.lam<|Et.refl b
 |.app f a=>.app (Et.refl f)<|Et.refl a
theorem Zh {f a n:La}(h:Be V (.app f a) n):(∃f' a',n=.app f' a'/\Be V f f'/\Be V a a')\/∃b b' a',f=.lam b/\n=b'.sub a' 0/\Be V b b'/\Be V a a':=by
 cases h with
 |app h1 h2=>exact .inl ⟨_,_,rfl,h1,h2⟩
 |beta h1 h2=>exact .inr ⟨_,_,_,rfl,rfl,h1,h2⟩
theorem Zj {b n:La}(h:Be V (.lam b) n):∃b',n=.lam b'/\Be V b b':=by
 cases h with
 |lam h=>exact⟨_,rfl,h⟩
theorem Ws {m:Nat}{n:La}(h:Be V (.bv m) n):n=.bv m:=by cases h;rfl
theorem Wa {k m:Int}{s:List UInt8}{n:La}(h:Be V (.con k m s) n):n=.con k m s:=by cases h;rfl
theorem KB {x:Int}{n:La}(h:Be V (.var x) n):n=.var x\/V x=some n:=by
 cases h with
 |var=>exact .inl rfl
 |del h=>exact .inr h
theorem X8 {f a n:La}(h:Et (.app f a) n):∃f' a',n=.app f' a'/\Et f f'/\Et a a':=by
 cases h with
 |app h1 h2=>exact⟨_,_,rfl,h1,h2⟩
theorem Yj {b n:La}(h:Et (.lam b) n):(∃b',n=.lam b'/\Et b b')\/∃u,b=.app (u.lift 0) (.bv 0)/\Et u n:=by
 cases h with
 |lam h=>exact .inl ⟨_,rfl,h⟩
 |eta h=>exact .inr ⟨_,rfl,h⟩
theorem KK {m:Nat}{n:La}(h:Et (.bv m) n):n=.bv m:=by cases h;rfl
theorem W4 {k m:Int}{s:List UInt8}{n:La}(h:Et (.con k m s) n):n=.con k m s:=by cases h;rfl
theorem XW {x:Int}{n:La}(h:Et (.var x) n):n=.var x:=by cases h;rfl
theorem oK {t t':La}(h:Et t t'):∀k:Nat,Et (t.lift k) (t'.lift k):=by
 induction h with
 |con k n s=>intro _;exact .con _ _ _
 |var x=>intro _;exact .var _
 |bv n=>intro _;exact .refl _
 |lam _ ih=>intro k;exact .lam<|ih<|k+1
 |app _ _ h1 h2=>intro k;exact .app (h1 k)<|h2 k
 |@eta u u' _ ih=>
  intro k
  have:La.lift (.lam<|.app (u.lift 0)<|.bv 0) k=.lam (.app ((u.lift k).lift 0)<|.bv 0):=by
   rw[La.lift,La.lift,lift_lift u 0 k za,La.lift,oX za]
  rw[this];exact .eta<|ih k
theorem et_sub {t t':La}(h:Et t t'):∀ {u u':La} (k:Nat),Et u u'->Et (t.sub u k) (t'.sub u' k):=by
 induction h with
 |con k n s=>intro _ _ _ _;exact .con _ _ _
 |var x=>intro _ _ _ _;exact .var _
 |bv n=>
  intro u u' k hu;rw[La.sub,La.sub];split
  .exact .bv _
  .split
   .exact hu
   .exact .bv _
 |lam _ ih=>intro u u' k hu;exact .lam<|ih (k+1)<|oK hu 0
 |app _ _ h1 h2=>intro u u' k hu;exact .app (h1 k hu)<|h2 k hu
 |@eta w w' _ ih=>
  intro u u' k hu
  have:La.sub (.lam<|.app (w.lift 0)<|.bv 0) u k=.lam (.app ((w.sub u k).lift 0)<|.bv 0):=by
   rw[La.sub,La.sub,lift_sub_lt w u 0 k za,La.sub,oX za]
  rw[this];exact .eta<|ih k hu
theorem Z0:∀(m:Nat) (u:La) (k:Nat) (n:La),u.size<=m->Et (u.lift k) n->∃n',n=n'.lift k/\Et u n'
 |0,u,_,_,hm,_=>by cases u<;>simp only[La.size] at hm<;>omega
 |m+1,u,k,n,hm,h=>by
  cases u with
  |con a b c=>exact⟨.con a b c,W4 h,.refl _⟩
  |var x=>exact⟨.var x,XW h,.refl _⟩
  |bv i=>
   refine⟨.bv i,?_,.refl _⟩;rw[La.lift] at h ⊢;split at h
   next q=>rw[oX q];exact KK h
   next q=>rw[oV q];exact KK h
  |app f a=>
   simp only[La.size] at hm;obtain⟨f',a',rfl,h1,h2⟩:=X8 h;obtain⟨f2,rfl,h3⟩:=Z0 m f k f' za h1;obtain⟨a2,rfl,h4⟩:=Z0 m a k a' za h2;exact⟨.app f2 a2,rfl,.app h3 h4⟩
  |lam b=>
   simp only[La.size] at hm;rcases Yj h with⟨b',rfl,h1⟩|⟨w,e,h1⟩
   .obtain⟨b2,rfl,h2⟩:=Z0 m b (k+1) b' za h1;exact⟨.lam b2,rfl,.lam h2⟩
   .cases b with
    |con _ _ _=>cases e
    |var _=>cases e
    |lam _=>cases e
    |bv i=>rw[La.lift] at e;split at e<;>cases e
    |app f a=>
     rw[La.lift] at e;injection e with e1 e2
     have ea:=lift_bv0 e2;obtain⟨g,rfl,rfl⟩:=jH f w 0 k za e1;subst ea;simp only[La.size,wG] at hm;obtain⟨n',rfl,h2⟩:=Z0 m g k n za h1;exact⟨n',rfl,.eta h2⟩
include hV
theorem f9 {t t':La}(h:Be V t t'):∀k:Nat,Be V (t.lift k) (t'.lift k):=by
 induction h with
 |con k n s=>intro _;exact .con _ _ _
 |var x=>intro _;exact .var _
 |bv n=>intro _;exact .refl _
 |@del x v h=>intro k;rw[hV x v h k];exact .del h
 |lam _ ih=>intro k;exact .lam<|ih<|k+1
 |app _ _ h1 h2=>intro k;exact .app (h1 k)<|h2 k
 |@beta b b' a a' _ _ h1 h2=>
  intro k;rw[jD b' a' k 0 za];exact .beta (h1<|k+1)<|h2 k
theorem bG {t t':La}(h:Be V t t'):∀ {u u':La} (k:Nat),Be V u u'->Be V (t.sub u k) (t'.sub u' k):=by
 induction h with
 |con k n s=>intro _ _ _ _;exact .con _ _ _
 |var x=>intro _ _ _ _;exact .var _
 |bv n=>
  intro u u' k hu;rw[La.sub,La.sub];split
  .exact .bv _
  .split
   .exact hu
   .exact .bv _
 |@del x v h=>
  intro u u' k hu;have e:=hV x v h k
  have:v.sub u' k=v:=by
   have:=sub_lift v u' k
   rwa [e] at this
  rw[this];exact .del h
 |lam _ ih=>intro u u' k hu;exact .lam<|ih (k+1)<|f9 hV hu 0
 |app _ _ h1 h2=>intro u u' k hu;exact .app (h1 k hu)<|h2 k hu
 |@beta b b' a a' _ _ h1 h2=>
  intro u u' k hu;rw[<-Ww b' a' u' 0 k za];exact .beta (h1 (k+1)<|f9 hV hu 0)<|h2 k hu
theorem uR:∀(u:La) (k:Nat) (n:La),Be V (u.lift k) n->∃n',n=n'.lift k/\Be V u n'
 |.con a b c,k,n,h=>⟨.con a b c,Wa h,.refl _⟩
 |.var x,k,n,h=>by
  rcases KB h with rfl|h
  .exact⟨.var x,rfl,.var x⟩
  .exact⟨n,(hV x n h k).symm,.del h⟩
 |.bv i,k,n,h=>by
  refine⟨.bv i,?_,.refl _⟩;rw[La.lift] at h ⊢;split at h
  next q=>rw[oX q];exact Ws h
  next q=>rw[oV q];exact Ws h
 |.lam b,k,n,h=>by
  obtain⟨b',rfl,h1⟩:=Zj h;obtain⟨b2,rfl,h2⟩:=uR b (k+1) b' h1;exact⟨.lam b2,rfl,.lam h2⟩
 |.app f a,k,n,h=>by
  rcases Zh h with⟨f',a',rfl,h1,h2⟩|⟨s,s',a',e,rfl,h1,h2⟩
  .obtain⟨f2,rfl,h3⟩:=uR f k f' h1;obtain⟨a2,rfl,h4⟩:=uR a k a' h2;exact⟨.app f2 a2,rfl,.app h3 h4⟩
  .obtain⟨a2,rfl,h4⟩:=uR a k a' h2;obtain⟨g,hg,h3⟩:=uR f k (.lam s') (by rw[e];exact .lam h1);cases f with
   |con _ _ _=>cases e
   |var _=>cases e
   |app _ _=>cases e
   |bv i=>rw[La.lift] at e;split at e<;>cases e
   |lam w=>
    obtain⟨w',rfl,h5⟩:=Zj h3;rw[La.lift] at hg;injection hg with hg
    subst hg;exact⟨w'.sub a2 0,(jD w' a2 k 0 za).symm,.beta h5 h4⟩
theorem iS {u n:La}(h:Be V (.app (u.lift 0)<|.bv 0) n):(∃u',n=.app (u'.lift 0) (.bv 0)/\Be V u u')\/∃w,u=.lam w/\Be V w n:=by
 rcases Zh h with⟨f',a',rfl,h1,h2⟩|⟨s,s',a',e,rfl,h1,h2⟩
 .obtain⟨u',rfl,h3⟩:=uR hV u 0 f' h1;rw[Ws h2];exact .inl ⟨u',rfl,h3⟩
 .rw[Ws h2];cases u with
  |con _ _ _=>cases e
  |var _=>cases e
  |app _ _=>cases e
  |bv i=>rw[La.lift] at e;split at e<;>cases e
  |lam w=>
   rw[La.lift] at e;injection e with e
   subst e;obtain⟨w',rfl,h3⟩:=uR hV w 1 s' h1;rw[sub_lift_bv w' 0];exact .inr ⟨w,rfl,h3⟩
theorem Xw:∀(m:Nat) (M N P:La),M.size<=m->Be V M N->Et M P->∃Q,Et N Q/\Be V P Q
 |0,M,_,_,hm,_,_=>by cases M<;>simp only[La.size] at hm<;>omega
 |m+1,M,N,P,hm,hb,he=>by
  cases M with
  |con a b c=>rw[Wa hb,W4 he];exact⟨_,.refl _,.refl _⟩
  |bv i=>rw[Ws hb,KK he];exact⟨_,.refl _,.refl _⟩
  |var x=>rw[XW he];exact⟨N,.refl _,hb⟩
  |lam b=>
   simp only[La.size] at hm;obtain⟨b1,rfl,h1⟩:=Zj hb;rcases Yj he with⟨b2,rfl,h2⟩|⟨u,rfl,h2⟩
   .obtain⟨q,q1,q2⟩:=Xw m b b1 b2 za h1 h2;exact⟨.lam q,.lam q1,.lam q2⟩
   .simp only[La.size,wG] at hm;rcases iS hV h1 with⟨u',rfl,h3⟩|⟨w,rfl,h3⟩
    .obtain⟨q,q1,q2⟩:=Xw m u u' P za h3 h2;exact⟨q,.eta q1,q2⟩
    .exact Xw m (.lam w) (.lam b1) P za (.lam h3) h2
  |app f a=>
   simp only[La.size] at hm;obtain⟨f2,a2,rfl,e1,e2⟩:=X8 he;rcases Zh hb with⟨f1,a1,rfl,h1,h2⟩|⟨s,s1,a1,rfl,rfl,h1,h2⟩
   .obtain⟨q,q1,q2⟩:=Xw m f f1 f2 za h1 e1;obtain⟨r,r1,r2⟩:=Xw m a a1 a2 za h2 e2;exact⟨.app q r,.app q1 r1,.app q2 r2⟩
   .simp only[La.size] at hm;rcases Yj e1 with⟨s2,rfl,e3⟩|⟨u,rfl,e3⟩
    .obtain⟨q,q1,q2⟩:=Xw m s s1 s2 za h1 e3;obtain⟨r,r1,r2⟩:=Xw m a a1 a2 za h2 e2;exact⟨q.sub r 0,et_sub q1 0 r1,.beta q2 r2⟩
    .simp only[La.size,wG] at hm
     have hM:Be V (.app u a) (s1.sub a1 0):=by
      rcases iS hV h1 with⟨u',rfl,h3⟩|⟨w,rfl,h3⟩
      .rw[La.sub,sub_lift,La.sub,oV za,oX rfl];exact .app h3 h2
      .exact .beta h3 h2
     exact Xw m (.app u a) _ _ (by simp only[La.size];omega) hM<|.app e3 e2
theorem Xr:∀(m:Nat) (M N P:La),M.size<=m->Be V M N->Be V M P->∃Q,Be V N Q/\Be V P Q
 |0,M,_,_,hm,_,_=>by cases M<;>simp only[La.size] at hm<;>omega
 |m+1,M,N,P,hm,hb,he=>by
  cases M with
  |con a b c=>rw[Wa hb,Wa he];exact⟨_,.refl _,.refl _⟩
  |bv i=>rw[Ws hb,Ws he];exact⟨_,.refl _,.refl _⟩
  |var x=>
   rcases KB hb with rfl|h1
   .exact⟨P,he,.refl _⟩
   .rcases KB he with rfl|h2
    .exact⟨N,.refl _,hb⟩
    .rw[h1] at h2;injection h2 with h2;subst h2;exact⟨N,.refl _,.refl _⟩
  |lam b=>
   simp only[La.size] at hm;obtain⟨b1,rfl,h1⟩:=Zj hb;obtain⟨b2,rfl,h2⟩:=Zj he;obtain⟨q,q1,q2⟩:=Xr m b b1 b2 za h1 h2;exact⟨.lam q,.lam q1,.lam q2⟩
  |app f a=>
   simp only[La.size] at hm;rcases Zh hb with⟨f1,a1,rfl,h1,h2⟩|⟨s,s1,a1,rfl,rfl,h1,h2⟩
   .rcases Zh he with⟨f2,a2,rfl,e1,e2⟩|⟨s,s2,a2,rfl,rfl,e1,e2⟩
    .obtain⟨q,q1,q2⟩:=Xr m f f1 f2 za h1 e1;obtain⟨r,r1,r2⟩:=Xr m a a1 a2 za h2 e2;exact⟨.app q r,.app q1 r1,.app q2 r2⟩
    .obtain⟨r,r1,r2⟩:=Xr m a a1 a2 za h2 e2;obtain⟨s1,rfl,h3⟩:=Zj h1;simp only[La.size] at hm;obtain⟨q,q1,q2⟩:=Xr m s s1 s2 za h3 e1;exact⟨q.sub r 0,.beta q1 r1,bG hV q2 0 r2⟩
   .simp only[La.size] at hm;rcases Zh he with⟨f2,a2,rfl,e1,e2⟩|⟨s',s2,a2,e,rfl,e1,e2⟩
    .obtain⟨r,r1,r2⟩:=Xr m a a1 a2 za h2 e2;obtain⟨s2,rfl,e3⟩:=Zj e1;obtain⟨q,q1,q2⟩:=Xr m s s1 s2 za h1 e3;exact⟨q.sub r 0,bG hV q1 0 r1,.beta q2 r2⟩
    .injection e with e
     subst e;obtain⟨r,r1,r2⟩:=Xr m a a1 a2 za h2 e2;obtain⟨q,q1,q2⟩:=Xr m s s1 s2 za h1 e1;exact⟨q.sub r 0,bG hV q1 0 r1,bG hV q2 0 r2⟩
omit hV in
theorem mB {u n:La}(h:Et (.app (u.lift 0)<|.bv 0) n):∃u',n=.app (u'.lift 0) (.bv 0)/\Et u u':=by
 obtain⟨f',a',rfl,h1,h2⟩:=X8 h;obtain⟨u',rfl,h3⟩:=Z0 u.size u 0 f' (r6 _) h1;rw[KK h2];exact⟨u',rfl,h3⟩
omit hV in
theorem da:∀(m:Nat) (M N P:La),M.size<=m->Et M N->Et M P->∃Q,Et N Q/\Et P Q
 |0,M,_,_,hm,_,_=>by cases M<;>simp only[La.size] at hm<;>omega
 |m+1,M,N,P,hm,hb,he=>by
  cases M with
  |con a b c=>rw[W4 hb,W4 he];exact⟨_,.refl _,.refl _⟩
  |bv i=>rw[KK hb,KK he];exact⟨_,.refl _,.refl _⟩
  |var x=>rw[XW hb,XW he];exact⟨_,.refl _,.refl _⟩
  |lam b=>
   simp only[La.size] at hm;rcases Yj hb with⟨b1,rfl,h1⟩|⟨u,rfl,h1⟩
   .rcases Yj he with⟨b2,rfl,h2⟩|⟨u,rfl,h2⟩
    .obtain⟨q,q1,q2⟩:=da m b b1 b2 za h1 h2;exact⟨.lam q,.lam q1,.lam q2⟩
    .simp only[La.size,wG] at hm;obtain⟨u',rfl,h3⟩:=mB h1;obtain⟨q,q1,q2⟩:=da m u u' P za h3 h2;exact⟨q,.eta q1,q2⟩
   .simp only[La.size,wG] at hm;rcases Yj he with⟨b2,rfl,h2⟩|⟨u2,e,h2⟩
    .obtain⟨u',rfl,h3⟩:=mB h2;obtain⟨q,q1,q2⟩:=da m u N u' za h1 h3;exact⟨q,q1,.eta q2⟩
    .injection e with e _
     have e:=lift_inj e;subst e;exact da m u N P za h1 h2
  |app f a=>
   simp only[La.size] at hm;obtain⟨f1,a1,rfl,h1,h2⟩:=X8 hb;obtain⟨f2,a2,rfl,e1,e2⟩:=X8 he;obtain⟨q,q1,q2⟩:=da m f f1 f2 za h1 e1;obtain⟨r,r1,r2⟩:=da m a a1 a2 za h2 e2;exact⟨.app q r,.app q1 r1,.app q2 r2⟩
end
def St1 (V:Int->Option La)(a b:La):Prop:=Be V a b\/Et a b
inductive Sts (V:Int->Option La):La->La->Prop
 |refl (a:La):Sts V a a
 |step {a b c:La}:St1 V a b->Sts V b c->Sts V a c
section
variable {V:Int->Option La}
theorem Sts.trans {a b c:La}(h1:Sts V a b)(h2:Sts V b c):Sts V a c:=by
 induction h1 with
 |refl=>exact h2
 |step h _ ih=>exact .step h<|ih h2
theorem Sts.one {a b:La}(h:St1 V a b):Sts V a b:=.step h<|.refl _
variable (hV:ClV V)
include hV
theorem st_dia {M N P:La}(h1:St1 V M N)(h2:St1 V M P):∃Q,St1 V N Q/\St1 V P Q:=by
 rcases h1 with h1|h1<;>rcases h2 with h2|h2
 .obtain⟨q,q1,q2⟩:=Xr hV _ M N P (r6 _) h1 h2;exact⟨q,.inl q1,.inl q2⟩
 .obtain⟨q,q1,q2⟩:=Xw hV _ M N P (r6 _) h1 h2;exact⟨q,.inr q1,.inl q2⟩
 .obtain⟨q,q1,q2⟩:=Xw hV _ M P N (r6 _) h2 h1;exact⟨q,.inl q2,.inr q1⟩
 .obtain⟨q,q1,q2⟩:=da _ M N P (r6 _) h1 h2;exact⟨q,.inr q1,.inr q2⟩
theorem st_strip {M N:La}(h1:Sts V M N):∀ {P:La},St1 V M P->∃Q,St1 V N Q/\Sts V P Q:=by
 induction h1 with
 |refl a=>intro P h;exact⟨P,h,.refl _⟩
 |step h _ ih=>
  intro P hp;obtain⟨q,q1,q2⟩:=st_dia hV h hp;obtain⟨r,r1,r2⟩:=ih q1;exact⟨r,r1,.step q2 r2⟩
theorem st_cr {M N:La}(h1:Sts V M N):∀ {P:La},Sts V M P->∃Q,Sts V N Q/\Sts V P Q:=by
 intro P h2
 induction h2 generalizing N with
 |refl a=>exact⟨N,.refl _,h1⟩
 |step h _ ih=>
  obtain⟨q,q1,q2⟩:=st_strip hV h1 h;obtain⟨r,r1,r2⟩:=ih q2;exact⟨r,.step q1 r1,r2⟩
end
def Eqv (V:Int->Option La)(a b:La):Prop:=∃c,Sts V a c/\Sts V b c
theorem Eqv.refl {V:Int->Option La}(a:La):Eqv V a a:=⟨a,.refl _,.refl _⟩
theorem Eqv.symm {V:Int->Option La}{a b:La}(h:Eqv V a b):Eqv V b a:=let ⟨c,h1,h2⟩:=h;⟨c,h2,h1⟩
theorem Eqv.trans {V:Int->Option La}(hV:ClV V){a b c:La}(h1:Eqv V a b)(h2:Eqv V b c):Eqv V a c:=by
 obtain⟨x,x1,x2⟩:=h1;obtain⟨y,y1,y2⟩:=h2;obtain⟨z,z1,z2⟩:=st_cr hV x2 y1;exact⟨z,x1.trans z1,y2.trans z2⟩
theorem Eqv.of {V:Int->Option La}{a b:La}(h:Sts V a b):Eqv V a b:=⟨b,h,.refl _⟩
def NfL (V:Int->Option La)(a:La):Prop:=∀b,St1 V a b->b=a
theorem NfL.sts {V:Int->Option La}{a b:La}(h:NfL V a)(hs:Sts V a b):b=a:=by
 induction hs with
 |refl=>rfl
 |step h1 _ ih=>have:=h _ h1;subst this;exact ih h
theorem Eqv.nf {V:Int->Option La}{a b:La}(h:Eqv V a b)(ha:NfL V a)(hb:NfL V b):a=b:=by
 obtain⟨c,h1,h2⟩:=h;rw[<-ha.sts h1,<-hb.sts h2]
theorem Sts.lam {V:Int->Option La}{a b:La}(h:Sts V a b):Sts V (.lam a) (.lam b):=by
 induction h with
 |refl=>exact .refl _
 |step h _ ih=>exact .step (h.imp .lam .lam) ih
theorem Sts.appL {V:Int->Option La}{a b:La}(h:Sts V a b)(c:La):Sts V (.app a c) (.app b c):=by
 induction h with
 |refl=>exact .refl _
 |step h _ ih=>exact .step (h.imp (λh=>.app h<|.refl _) λh=>.app h<|.refl _) ih
theorem Sts.appR {V:Int->Option La}(c:La){a b:La}(h:Sts V a b):Sts V (.app c a) (.app c b):=by
 induction h with
 |refl=>exact .refl _
 |step h _ ih=>exact .step (h.imp (λh=>.app (.refl _) h) λh=>.app (.refl _) h) ih
theorem Sts.app {V:Int->Option La}{f f' a a':La}(h1:Sts V f f')(h2:Sts V a a'):Sts V (.app f a) (.app f' a'):=(h1.appL a).trans<|h2.appR f'
theorem Eqv.lam {V:Int->Option La}{a b:La}(h:Eqv V a b):Eqv V (.lam a) (.lam b):=let ⟨c,h1,h2⟩:=h;⟨.lam c,h1.lam,h2.lam⟩
theorem Eqv.app {V:Int->Option La}{f f' a a':La}(h1:Eqv V f f')(h2:Eqv V a a'):Eqv V (.app f a) (.app f' a'):=by
 obtain⟨c,c1,c2⟩:=h1;obtain⟨d,d1,d2⟩:=h2;exact⟨.app c d,c1.app d1,c2.app d2⟩
theorem Sts.beta {V:Int->Option La}(b a:La):Sts V (.app (.lam b) a) (b.sub a 0):=.one<|.inl<|.beta (.refl _)<|.refl _
theorem Sts.eta {V:Int->Option La}(u:La):Sts V (.lam<|.app (u.lift 0)<|.bv 0) u:=.one<|.inr<|.eta<|.refl _
theorem Sts.del {V:Int->Option La}{x:Int}{v:La}(h:V x=some v):Sts V (.var x) v:=.one<|.inl<|.del h
def gC (t:Tm):FV:=if t.inner=true then .sl false 4 (FTs t.l) else .N
theorem c_within (t:Tm):AC rc 108 [aT t] [] (.tup [(false,[qf<|gC t]),(false,[qi t.by])]) []:=by
 obtain⟨k,s,n,l⟩:=t;refine acv (v108 k s n (FTs l) _ _) ?_;refine zu (λh=>⟨?_,rfl⟩) λh=>zu (λh2=>⟨?_,rfl⟩) λh2=>⟨?_,rfl⟩
 .have e1:gC (.mk k s n l)=.sl false 4 (FTs l):=by unfold gC Tm.inner;simp only[Tm.k,h,Bool.true_or,rG,Tm.l]
  have e2:Tm.by (.mk k s n l)=1:=by unfold Tm.by;simp only[Tm.k,h,rG]
  rw[e1,e2];exact .refl _
 .have e1:gC (.mk k s n l)=.sl false 4 (FTs l):=by unfold gC Tm.inner;simp only[Tm.k,h2,Bool.or_true,rG,Tm.l]
  have e2:Tm.by (.mk k s n l)=0:=by unfold Tm.by;simp only[Tm.k,h,rF,rN]
  rw[e1,e2];exact .refl _
 .have e1:gC (.mk k s n l)=.N:=by unfold gC Tm.inner;simp only[Tm.k,h,h2,Bool.or_self,rF,rN]
  have e2:Tm.by (.mk k s n l)=0:=by unfold Tm.by;simp only[Tm.k,h,rF,rN]
  rw[e1,e2];exact .refl _
mutual
def bd (M:Int):Tm->Prop
 |.mk k _ n l=>(k=3->0-M<=n/\n<=M)/\bds M l
def bds (M:Int):List Tm->Prop
 |[]=>True
 |t::l=>bd M t/\bds M l
end
theorem Y6 {M:Int}:∀ {l:List Tm} {t:Tm},bds M l->t∈l->bd M t
 |x::l,t,h,ht=>by
  rcases rx.1 ht with rfl|ht
  .exact h.1
  .exact Y6 h.2 ht
theorem bd_l {M:Int}{t:Tm}(h:bd M t):bds M t.l:=by cases t;exact h.2
def maxI (a b:Int):Int:=if a<=b then b else a
theorem foldMax2 (a b:Int):zE [a,b]=maxI a b:=by
 simp only[zE,List.foldl,maxI,max,maxOfLe]
abbrev obj1 (n:Int):AObj:=.arr 1 [[qi n]]
theorem c_grow (n:Int)(h0:0<=n)(h1:n<=2199023255552):(n=0->AC rc 44 [.c<|qf .N,ci n] [] (.c<|qf .N) [])/\
  (n≠0->AC rc 44 [.c<|qf .N,ci n] [] (.c<|.a<|.osl 0 4 0 0) [.arz 4 []]):=by
 constructor
 .intro hn;refine acv (v44 ..) ?_;refine bF za ⟨rfl,zu (λh=>?_) λ_=>KR<|.refl _⟩;rw[w64 za za] at h;exact absurd (rA h) za
 .intro hn;refine acv (v44 ..) ?_;rw[w64 za za];refine bF za ⟨rfl,zu (λh=>⟨rfl,⟨za,za,za⟩,⟨za,by unfold zS;omega⟩,rfl,⟨za,za,za⟩,.refl _,rfl⟩) λh=>absurd (ri h) za⟩
def FLs (ls:List<|List Tm):List (List FV):=ls.map λl=> [.sl false 4<|FTs l]
def vA (ls:List<|List Tm):Nat:=(ls.map List.length).foldr (· + ·) 0
theorem qZ (ls:List<|List Tm):(FLs ls).length=ls.length:=by simp[FLs]
theorem midL (a:List<|List Tm)(l:List Tm)(b:List<|List Tm):getD (FLs<|a++l::b) (Int.toNat (a.length:Int)) []=[.sl false 4<|FTs l]:=by
 rw[(za:Int.toNat (a.length:Int)=a.length)];simp[getD,FLs]
theorem ltL (a:List<|List Tm)(t:List Tm)(b:List<|List Tm):(a.length:Int)<(((FLs<|a++t::b).length:Nat):Int):=by rw[qZ];exact ltI a t b
theorem gD (a:List<|List Tm)(l:List Tm)(b:List<|List Tm):vA (a++l::b)=vA a+l.length+vA b:=by
 induction a with
 |nil=>simp[vA]
 |cons x a ih=>simp only[vA,sk,rO,List.foldr_cons] at ih ⊢;omega
theorem aP (a:List<|List Tm)(l:List Tm):vA (a++[l])=vA a+l.length:=by rw[gD];simp[vA]
abbrev aLs (ls:List<|List Tm):TV:=.c<|qf<|.sl false 1<|FLs ls
theorem uc {n:Nat}(h:n<=2199023255552):zS n 56:=by unfold zS;omega
theorem lP:∀(b a:List<|List Tm) (acc:List Tm),acc.length+vA b<=2199023255552->(a++b).length<=B->
  RPt rc 25 0 (aL<|acc++b.flatten) [] 5 ⟨[(6,(.c<|.a<|.osl 0 4 0 acc.length)),(25,aLs<|a++b),(26,ci (a++b).length),(27,ci a.length)],[(0,(.arz 4<|FTs acc))],1⟩
 |[],a,acc,ht,hl=>by
  refine rpv (v25_5b ..) ?_;refine bF zb ⟨⟨rfl,by rw[zq];omega⟩,KR ?_⟩;rw[sH,ro<|by rw[zq];omega,List.flatten_nil,rp];exact le_c leSl
 |l::b,a,acc,ht,hl=>by
  refine rpv (v25_5b ..) ?_;have hl':=hl;have h3:=ltL a l b;simp only[re,r5,B] at hl';have ht':acc.length+(l.length+vA b)<=2199023255552:=by simpa[vA] using ht
  have h2:=lP b (a++[l]) (acc++l) (by rw[re];omega) (by rw[ap];exact hl);rw[ap,nx] at h2;rw[midL,w64 za za];refine bT (ltI a l b) ⟨⟨rfl,za,h3,rfl⟩,rfl,⟨by rw[zq];omega,?_⟩,?_⟩
  .show zS (acc.length+(FTs l).length) 56;rw[zq];exact uc za
  .show RPt _ _ _ _ _ _ ⟨[(6,(.c<|.a<|.osl 0 4 0<|acc.length+(FTs l).length)),_,_,_],[(0,.arz 4<|take acc.length (FTs acc)++FTs l)],1⟩;rw[ro<|by rw[zq];omega,<-xB,zq,<-re];rw[(zb:acc++(l::b).flatten=acc++l++b.flatten)];exact h2
theorem l_cat2:∀(b a:List<|List Tm),vA b<=2199023255552->(a++b).length<=B->
  RPt rc 25 0 (aL b.flatten) [] 5 ⟨[(6,(.c<|qf .N)),(25,aLs<|a++b),(26,ci (a++b).length),(27,ci a.length)],[],0⟩
 |[],a,ht,hl=>by
  refine rpv (v25_5a ..) ?_;refine bF zb<|KR<|le_c xU
 |l::b,a,ht,hl=>by
  refine rpv (v25_5a ..) ?_;have hl':=hl;have h3:=ltL a l b;simp only[re,r5,B] at hl';have ht':l.length+vA b<=2199023255552:=by simpa[vA] using ht
  rw[midL,w64 za za];refine bT (ltI a l b) ⟨⟨rfl,za,h3,rfl⟩,rfl,?_⟩;show br (List.isEmpty<|FTs l) _ _;refine zu (λhe=>?_) λhe=>⟨?_,?_⟩
  .have h2:=l_cat2 b (a++[l]) za (by rw[ap];exact hl);rw[ap,nx] at h2
   have hnil:l=[]:=by cases l with
    |nil=>rfl
    |cons x l=>simp[FTs] at he
   rw[show(l::b).flatten=b.flatten by rw[hnil];simp];exact h2
  .show zS (FTs l).length 56;rw[zq];exact uc za
  .have h2:=lP b (a++[l]) l za (by rw[ap];exact hl);rw[ap,nx] at h2;show RPt _ _ _ _ _ _ ⟨[(6,(.c<|.a<|.osl 0 4 0 (FTs l).length)),_,_,_],[(0,.arz 4<|FTs l)],1⟩;rw[zq,List.flatten_cons];exact h2
theorem l_cat1:∀(b a:List<|List Tm),vA (a++b)<=2199023255552->(a++b).length<=B->
  RPt rc 25 0 (aL (a++b).flatten) [] 1 ⟨[(0,aLs<|a++b),(3,ci<|vA a),(9,aLs<|a++b),(10,ci (a++b).length),(11,ci a.length)],[],0⟩
 |[],a,ht,hl=>by
  refine rpv (v25_1a ..) ?_;have hg:=c_grow (vA a:Int) za (by simp only[rp] at ht;omega);refine bF zb<|?_
  have e:(((FLs<|a++[]).length:Nat):Int)=(((a++[]).length:Nat):Int):=by rw[qZ]
  rw[e];by_cases hz:vA a=0
  .have h2:=l_cat2 (a++[]) [] (zo ht) (zo hl);exact .inl ⟨(),hg.1 za,rfl,zo h2⟩
  .have h2:=lP (a++[]) [] [] (zo ht) (zo hl);exact .inr ⟨(),hg.2 za,rfl,by simpa[FTs] using h2⟩
 |l::b,a,ht,hl=>by
  refine rpv (v25_1a ..) ?_;have hl':=hl;have ht':=ht;have h3:=ltL a l b;rw[gD] at ht';simp only[re,r5,B] at hl';have h2:=l_cat1 b (a++[l]) (by rw[ap];exact ht) (by rw[ap];exact hl);rw[ap,nx,aP] at h2;rw[midL,w64 (x:=(a.length:Int)+1) za za];refine bT (ltI a l b) ⟨⟨rfl,za,h3,rfl⟩,rfl,?_⟩;show br (decide (wrap .i64 ((vA a:Int)+(((FTs l).length:Nat):Int))<0)) _<|RPt _ _ _ _ _ _ ⟨[_,(3,ci<|wrap .i64<|(vA a:Int)+(((FTs l).length:Nat):Int)),_,_,_],_,_⟩
  rw[zq,w64 za za];refine bF za<|?_
  exact zo h2
theorem c_concat (ls:List<|List Tm)(ht:vA ls<=2199023255552)(hl:ls.length<=B):AC rc 25 [aLs ls] [] (aL ls.flatten) []:=by
 refine acv (v25 ..) ?_;have:=l_cat1 ls [] (zo ht) (zo hl);have e:(((FLs ls).length:Nat):Int)=((ls.length:Nat):Int):=by rw[qZ]
 rw[e];exact⟨rfl,by simpa[vA] using this⟩
theorem Yk {x y:FV}{l m:List Tm}(hx:FV.Le x<|.sl false 4<|FTs l)(hy:FV.Le y<|.sl false 4<|FTs m)(ht:l.length+m.length<=2199023255552):AC rc 25 [.c<|qf<|.sl false 1 [[x],[y]]] [] (aL<|l++m) []:=by
 have h:=c_concat [l,m] (by simpa[vA] using ht) (by simp[B]);rw[show [l,m].flatten=l++m by simp] at h;refine h.args ⟨le_c<|.trans _ _ _ (.rows false 1 _ (FLs [l,m]) rfl (λi e e' he he'=>?_) λi j e e' f f' he he' hf hf'=>?_)<|.nn _ _ _,trivial⟩
 .match i,he,he' with
  |0,he,he'=>simp[FLs] at he he';subst he;subst he';rfl
  |1,he,he'=>simp[FLs] at he he';subst he;subst he';rfl
  |i+2,he,he'=>simp at he
 .match i,he,he' with
  |0,he,he'=>
   simp[FLs] at he he';subst he;subst he'
   match j,hf,hf' with
   |0,hf,hf'=>simp at hf hf';subst hf;subst hf';exact hx
   |j+1,hf,hf'=>simp at hf
  |1,he,he'=>
   simp[FLs] at he he';subst he;subst he'
   match j,hf,hf' with
   |0,hf,hf'=>simp at hf hf';subst hf;subst hf';exact hy
   |j+1,hf,hf'=>simp at hf
  |i+2,he,he'=>simp at he
def applyF (f:Tm)(args:List Tm):Tm:=
 match args with
 |[]=>f
 |_=>if (f.k==6)=true/\f.l≠[] then .mk 6 [] 0 (f.l++args) else .mk 6 [] 0<|f::args
theorem wX (f:Tm)(args:List Tm)(h:f.l.length+args.length<2199023255552):AC rc 15 [aT f,aL args] [] (aT<|applyF f args) []:=by
 obtain⟨k,s,n,l⟩:=f;simp only[Tm.l] at h;refine acv (v15 k s n (FTs l) (FTs args) _ _) ?_;refine⟨rfl,zu (λh1=>?_) λh1=>?_⟩
 .have:args=[]:=by cases args with
   |nil=>rfl
   |cons x l=>simp[FTs] at h1;omega
  subst this;exact KR<|.refl _
 .match args,h1,h with
  |[],h1,_=>simp[FTs] at h1
  |a::r,h1,h=>
   have one:FV.Le (.sl false 4 [[.int .i64 k,.str s,.int .i64 n,.sl false 4<|FTs l]]) (.sl false 4<|FTs [.mk k s n l]):=.nn _ _ _;have same:∀l:List Tm,FV.Le (.sl false 4<|FTs l) (.sl false 4<|FTs l):=λ_=>.refl _
   refine zu (λh2=>⟨rfl,zu (λh3=>⟨⟨rfl,za⟩,_,Yk (same l) (same<|a::r) za,KR ?_⟩) λh3=>⟨⟨rfl,za⟩,⟨rfl,za⟩,_,Yk one (same<|a::r)<|by simp only[r5,rt] at h ⊢;omega,KR ?_⟩⟩)
    (λh2=>⟨⟨rfl,za⟩,⟨rfl,za⟩,_,Yk one (same<|a::r)<|by simp only[r5,rt] at h ⊢;omega,KR ?_⟩)
   .have hl:l≠[]:=by intro e;subst e;simp[FTs] at h3
    rw[show applyF (.mk k s n l) (a::r)=.mk 6 [] 0 (l++a::r) from oX ⟨h2,hl⟩];exact .refl _
   .have hl:l=[]:=by cases l with
     |nil=>rfl
     |cons x l=>simp[FTs] at h3
    rw[show applyF (.mk k s n l) (a::r)=.mk 6 [] 0 (.mk k s n l::a::r) from oV λe=>e.2 hl];exact .refl _
   .rw[show applyF (.mk k s n l) (a::r)=.mk 6 [] 0 (.mk k s n l::a::r) from oV λe=>by have:=e.1;simp only[Tm.k,h2] at this;cases this];exact .refl _
def vq (t:Tm)(out:List Tm):Tm:=
 if (t.k==6)=true/\1<out.length/\((out.headD default).k==6)=true/\((t.l.headD default).k !=6)=true then applyF (out.headD default) out.tail else .mk t.k t.s t.n out
mutual
def yF (lf:Tm->Int->Tm):Tm->Int->Tm
 |.mk k s n l,d=>if (k==5||k==6)=true then vq (.mk k s n l) (yb lf l<|d+if (k==5)=true then 1 else 0) else lf (.mk k s n l) d
def yb (lf:Tm->Int->Tm):List Tm->Int->List Tm
 |[],_=> []
 |t::l,d=>yF lf t d::yb lf l d
end
abbrev cloSh:TV:=.agg [.fn (.func 96) [] [(false,[.ep 0 1 0 0]),(false,[.ep 1 1 0 0])]]
abbrev stSh (fr by1 k by_ kd:Int)(s:List UInt8)(n:Int)(l:List Tm)(w:AV)(i:Nat)(h:AHeap)(nx:Nat):St:=
 ⟨[(2,ci k),(3,.c<|.a<|.ep 2 1 0 0),(4,.c<|.a<|.ep 3 4 0 0),(6,.c<|.a<|.ep 4 4 0 0),(7,aL l),(8,ci by_),(9,.c<|.a w),(30,aL l),(31,ci l.length),(32,ci i)],
  [(0,(obj1 fr)),(1,(obj1 by1)),(2,.arr 1 [[.fn (.func 96) [] [(false,[.ep 0 1 0 0]),(false,[.ep 1 1 0 0])]]]),(3,.arr 4 [fzs<|FT<|.mk kd s n l]),(4,.arr 4 [[qi 0,qf<|.str [],qi 0,qf .N]])]++h,nx⟩
theorem l_w2Sh (fr by1:Int)(lf:Tm->Int->Tm)(k by_:Int)(h0:0<=k)(hk:k<=2305843009213693952)(hb0:0<=by_)(hb1:by_<=1)(kd:Int)(s:List UInt8)(n:Int)(hin:(kd==5||kd==6)=true):
  ∀(b a acc:List Tm),acc≠[]->acc.length=a.length->(a++b).length<=B->(∀u∈acc++yb lf b (k+by_),u.l.length<=2*B)->
  (∀u∈b,AC rc 98 [cloSh,aT u,ci<|k+by_] [(obj1 fr),(obj1 by1)] (aT<|yF lf u<|k+by_) [(obj1 fr),(obj1 by1)])->
  RPt rc 98 2 (aT<|vq (.mk kd s n<|a++b)<|acc++yb lf b (k+by_)) [(obj1 fr),(obj1 by1)] 1 (stSh fr by1 k by_ kd s n (a++b) (.osl 5 4 0 acc.length) a.length [(5,.arz 4<|FTs acc)] 6)
 |[],a,acc,hne,hlen,hl,hw,_=>by
  refine rpv (Wh ..) ?_
  match acc,a,hne,hlen with
  |o::r,u::a',_,hlen=>
  have e1:take (o::r).length (drop 0<|FTs<|o::r)=FTs (o::r):=by rw[sH,ro<|by rw[zq];omega]
  have e2:(0:Nat)+(o::r).length<=(FTs<|o::r).length:=by rw[zq];omega
  have hrest:∀(k':Int) (s':List UInt8) (n':Int),TV.Le (.agg [qi k',qf<|.str s',qi n',qf<|.sl false 4<|take (o::r).length<|drop 0<|FTs<|o::r]) (aT<|.mk k' s' n'<|o::r):=λk' s' n'=>by rw[e1];exact leT leSl
  refine bF zb<|zu (λh6=>zu (λh1=>⟨⟨za,zb⟩,⟨by rw[zq];simp,by cases o;rfl,rfl⟩,zu (λho=>⟨⟨rfl,za,by rw[rp];show(0:Int)<(((FTs<|u::a').length:Nat):Int);rw[zq];simp,by cases u;rfl⟩,zu (λhu=>?_) λhu=>⟨⟨rfl,e2⟩,?_,rfl⟩⟩) λho=>⟨⟨rfl,e2⟩,?_,rfl⟩⟩) λh1=>⟨⟨rfl,e2⟩,?_,rfl⟩) λh6=>⟨⟨rfl,e2⟩,?_,rfl⟩
  .
   have hap:=wX o r (by
    have:=hw o zb;simp only[r5,re,rt,B] at hl hlen this ⊢;omega)
   have e3:vq (.mk kd s n<|u::a'++[]) (o::r++yb lf [] (k+by_))=applyF o r:=by
    have c1:1<(o::r++yb lf [] (k+by_)).length:=by have:=rA h1;simp only[yb,rp];omega
    have c2:(o.k==6)=true:=by cases o;exact ho
    have c3:(u.k !=6)=true:=by cases u;exact hu
    unfold vq;rw[oX ⟨h6,c1,c2,c3⟩];simp[yb]
   have e4:take (Int.toNat ((o::r).length:Int)-1) (drop 1<|FTs<|o::r)=FTs r:=by
    rw[show Int.toNat ((o::r).length:Int)-1=r.length by simp only[r5];omega];show take r.length (FTs r)=FTs r;rw[ro<|by rw[zq];omega]
   have e5:(1:Nat)+(Int.toNat ((o::r).length:Int)-1)<=(FTs<|o::r).length:=by rw[zq];simp only[r5];omega
   rw[e3];refine⟨⟨za,zb⟩,⟨by rw[zq];simp,by cases o;rfl,rfl⟩,⟨za,zj,za⟩,⟨rfl,e5⟩,?_⟩;rw[e4];obtain⟨k1,s1,n1,l1⟩:=o;exact⟨_,hap.args ⟨.refl _,le_c leSl,trivial⟩,.refl _,rfl⟩
  .have e3:vq (.mk kd s n<|u::a'++[]) (o::r++yb lf [] (k+by_))=.mk kd s n (o::r):=by
    simp only[yb,rp]
    exact oV λe=>by
     have hu':(u.k !=6)=false:=by cases u;exact hu
     have:(u.k !=6)=true:=e.2.2.2;rw[hu'] at this;cases this
   rw[e3];exact hrest _ _ _
  .have e3:vq (.mk kd s n<|u::a'++[]) (o::r++yb lf [] (k+by_))=.mk kd s n (o::r):=by
    simp only[yb,rp]
    exact oV λe=>by
     have ho':(o.k==6)=false:=by cases o;exact ho
     have:(o.k==6)=true:=e.2.2.1;rw[ho'] at this;cases this
   rw[e3];exact hrest _ _ _
  .have e3:vq (.mk kd s n<|u::a'++[]) (o::r++yb lf [] (k+by_))=.mk kd s n (o::r):=by
    simp only[yb,rp];exact oV λe=>by have:=e.2.1;have:=ri h1;omega
   rw[e3];exact hrest _ _ _
  .have e3:vq (.mk kd s n<|u::a'++[]) (o::r++yb lf [] (k+by_))=.mk kd s n (o::r):=by
    simp only[yb,rp]
    exact oV λe=>by
     have h6':(kd==6)=false:=h6;have:(kd==6)=true:=e.1;rw[h6'] at this;cases this
   rw[e3];exact hrest _ _ _
 |t::b,a,acc,hne,hlen,hl,hw,ih=>by
  refine rpv (Wh ..) ?_;have hl':=hl;simp only[re,r5,B] at hl';have h1:=ih t r7
  have h2:=l_w2Sh fr by1 lf k by_ h0 hk hb0 hb1 kd s n hin b (a++[t]) (acc++[yF lf t<|k+by_]) zb (by simp[hlen]) (by rw[ap];exact hl)
   (by rw[rh];simpa[yb] using hw) λu hu=>ih u<|r9 _ hu
  have h3:=ltI' a t b;unfold stSh at h2;rw[ap,show(((a++[t]).length:Nat):Int)=(a.length:Int)+1 from nx a t] at h2;show br (decide ((a.length:Int)<(((a++t::b).length:Nat):Int))) ((FV.L 4 (.sl false 4<|FTs<|a++t::b)=true/\_/\_/\_)/\_) _;refine bT (ltI a t b)<|?_
  have hm:=midI a t b;rw[show FV.ses (.sl false 4<|FTs<|a++t::b)=FTs (a++t::b) from rfl,hm,w64 (x:=(a.length:Int)+1) za za,w64 (x:=k+by_) za za];obtain⟨k',s',n',l'⟩:=t;refine⟨⟨rfl,za,h3,rfl⟩,_,h1,r6 _,⟨by rw[zq];omega,uc za⟩,?_⟩;have e5:take acc.length (FTs acc)++FTs [yF lf (.mk k' s' n' l')<|k+by_]=FTs (acc++[yF lf (.mk k' s' n' l')<|k+by_]):=by rw[ro<|by rw[zq];omega,<-xB]
  have e6:FTs [yF lf (.mk k' s' n' l')<|k+by_]=[[.int .i64 (yF lf (.mk k' s' n' l')<|k+by_).k,.str (yF lf (.mk k' s' n' l')<|k+by_).s,.int .i64 (yF lf (.mk k' s' n' l')<|k+by_).n,.sl false 4<|FTs (yF lf (.mk k' s' n' l')<|k+by_).l]]:=by
   rw[FTs,FTs,cH]
  rw[e6] at e5;rw[e5];rw[show acc++yb lf (.mk k' s' n' l'::b) (k+by_)=acc++yF lf (.mk k' s' n' l') (k+by_)::yb lf b (k+by_) by simp[yb]];rw[show(acc++[yF lf (.mk k' s' n' l')<|k+by_]).length=acc.length+1 by simp,rh] at h2;exact h2
theorem l_w1Sh (fr by1:Int)(lf:Tm->Int->Tm)(k by_:Int)(h0:0<=k)(hk:k<=2305843009213693952)(hb0:0<=by_)(hb1:by_<=1)(kd:Int)(s:List UInt8)(n:Int)(hin:(kd==5||kd==6)=true):
  ∀(b:List Tm),b.length<=B->(∀u∈yb lf b (k+by_),u.l.length<=2*B)->
  (∀u∈b,AC rc 98 [cloSh,aT u,ci<|k+by_] [(obj1 fr),(obj1 by1)] (aT<|yF lf u<|k+by_) [(obj1 fr),(obj1 by1)])->
  RPt rc 98 2 (aT<|vq (.mk kd s n b)<|yb lf b<|k+by_) [(obj1 fr),(obj1 by1)] 1 (stSh fr by1 k by_ kd s n b (.fz .N) 0 [] 5)
 |[],hl,hw,_=>by
  refine rpv (XL ..) ?_;have e:vq (.mk kd s n []) (yb lf []<|k+by_)=.mk kd s n []:=oV λe=>by have:=e.2.1;simp[yb] at this
  rw[e];exact bF zb<|zu (λ_=>⟨rfl,leT xU,rfl⟩) λ_=>⟨leT xU,rfl⟩
 |t::b,hl,hw,ih=>by
  refine rpv (XL ..) ?_;have hl':=hl;simp only[r5,B] at hl';have h1:=ih t r7;have h2:=l_w2Sh fr by1 lf k by_ h0 hk hb0 hb1 kd s n hin b [t] [yF lf t<|k+by_] zb rfl (zo hl) (by simpa[yb] using hw) λu hu=>ih u<|r9 _ hu
  show br (decide ((0:Int)<(((t::b).length:Nat):Int))) ((FV.L 4 (.sl false 4<|FTs<|t::b)=true/\_/\_/\_)/\_) _;refine zu (λ_=>?_) (λh=>absurd (ri h) zb);rw[show FV.ses (.sl false 4<|FTs<|t::b)=FTs (t::b) from rfl,show getD (FTs<|t::b) (Int.toNat ((0:Nat):Int)) []=FT t from rfl,w64 (x:=k+by_) za za,w64 (x:=((0:Nat):Int)+1) za za];obtain⟨k',s',n',l'⟩:=t;have h3:(0:Int)<(((FTs<|.mk k' s' n' l'::b).length:Nat):Int):=by rw[zq];simp
  refine⟨⟨rfl,za,h3,rfl⟩,_,h1,r6 _,uc za,?_⟩
  have e6:FTs [yF lf (.mk k' s' n' l')<|k+by_]=[[.int .i64 (yF lf (.mk k' s' n' l')<|k+by_).k,.str (yF lf (.mk k' s' n' l')<|k+by_).s,.int .i64 (yF lf (.mk k' s' n' l')<|k+by_).n,.sl false 4<|FTs (yF lf (.mk k' s' n' l')<|k+by_).l]]:=by
   rw[FTs,FTs,cH]
  unfold stSh at h2;rw[e6] at h2;exact h2
theorem c_wSh (fr by1:Int) (lf:Tm->Int->Tm) (Q:Tm->Int->Prop)
  (hq:∀(kd:Int) (s:List UInt8) (n:Int) (l:List Tm) (d:Int),Q (.mk kd s n l) d->(kd==5||kd==6)=true->∀u∈l,Q u<|d+if (kd==5)=true then 1 else 0)
  (hleaf:∀(u:Tm) (d:Int),(u.k==5||u.k==6)=false->Q u d->0<=d->d<=2305843009213693952->AC rc 96 [aT u,ci d,.c<|.a<|.ep 0 1 0 0,.c<|.a<|.ep 1 1 0 0] [(obj1 fr),(obj1 by1)] (aT<|lf u d) [(obj1 fr),(obj1 by1)])
  (hwid:∀(u:Tm) (d:Int),Q u d->(yF lf u d).l.length<=2*B):
  ∀t:Tm,t.sz<=B->∀k:Int,Q t k->0<=k->k+t.sz<=2305843009213693952->AC rc 98 [cloSh,aT t,ci k] [(obj1 fr),(obj1 by1)] (aT<|yF lf t k) [(obj1 fr),(obj1 by1)]:=by
 refine Tm.ind λt ih hs k hQ h0 h1=>?_;have hlen:=Tm.szs_length t.l;obtain⟨kd,s,n,l⟩:=t;simp only[Tm.sz,B,Tm.l] at hs hlen;simp only[Tm.sz] at h1
 have key:∀by_:Int,0<=by_->by_<=1->(by_=if (kd==5)=true then 1 else 0)->(hin:(kd==5||kd==6)=true)->RPt rc 98 2 (aT<|yF lf (.mk kd s n l) k) [(obj1 fr),(obj1 by1)] 1 (stSh fr by1 k by_ kd s n l (.fz .N) 0 [] 5):=by
  intro by_ hb0 hb1 hby hin;have hQ':=hq kd s n l k hQ hin;rw[<-hby] at hQ'
  have:=l_w1Sh fr by1 lf k by_ h0 za hb0 hb1 kd s n hin l (by simp only[B];omega) (λu hu=>by
   have:∀ {m:List Tm},(∀v∈m,Q v<|k+by_)->∀u∈yb lf m (k+by_),u.l.length<=2*B:=by
    intro m
    induction m with
    |nil=>intro _ u hu;simp[yb] at hu
    |cons v m ihm=>
     intro hm u hu;simp only[yb,rx] at hu;rcases hu with rfl|hu
     .exact hwid v _ (hm v r7)
     .exact ihm (λx hx=>hm x<|r9 _ hx) u hu
   exact this hQ' u hu) (λu hu=>ih u hu (by have:=Tm.szs_mem hu;simp only[B];omega) (k+by_) (hQ' u hu) za<|by have:=Tm.szs_mem hu;omega)
  rw[yF,oX hin,<-hby];exact this
 refine acv (v98_F96 kd s n (FTs l) k fr by1 _ _) ?_
 have wi:(kd==5||kd==6)=true->AC rc 108 [aT<|.mk kd s n l] [] (.tup [(false,[qf<|.sl false 4<|FTs l]),(false,[qi (if (kd==5)=true then 1 else 0)])]) []:=λhin=>by
  have hw:=c_within<|.mk kd s n l
  rw[show gC (.mk kd s n l)=.sl false 4 (FTs l) from oX hin] at hw;exact hw
 refine zu (λh=>zu (λh2=>?_) λh2=>?_) λh=>?_
 .have e1:(kd==5)=false:=zo h
  have e2:(kd==6)=false:=zo h2
  have e:(kd==5||kd==6)=false:=by rw[e1,e2];rfl
  have hl:=hleaf (.mk kd s n l) k e hQ h0 za;rw[show yF lf (.mk kd s n l) k=lf (.mk kd s n l) k by rw[yF,oV<|by rw[e];simp]];exact⟨_,hl,.refl _,rfl⟩
 .have e1:(kd==5)=false:=zo h
  have e2:(kd==6)=true:=zo h2
  have hin:(kd==5||kd==6)=true:=by rw[e1,e2];rfl
  have hk:=key 0 za za (by rw[e1];rfl) hin;have hw:=wi hin;rw[e1] at hw;refine⟨_,_,hw,rfl,?_⟩;show RPt _ _ _ _ _ _ ⟨[_,_,_,_,_,_,_,_,(31,ci (((FTs l).length:Nat):Int)),_],_,_⟩;rw[zq];exact hk
 .have e1:(kd==5)=true:=zo h
  have hin:(kd==5||kd==6)=true:=by rw[e1];rfl
  have hk:=key 1 za za (by rw[e1];rfl) hin;have hw:=wi hin;rw[e1] at hw;refine⟨_,_,hw,rfl,?_⟩;show RPt _ _ _ _ _ _ ⟨[_,_,_,_,_,_,_,_,(31,ci (((FTs l).length:Nat):Int)),_],_,_⟩;rw[zq];exact hk
theorem xX (f:Tm)(l:List Tm):(applyF f l).sz<=1+f.sz+Tm.szs l:=by
 unfold applyF;split
 .simp only[Tm.szs];omega
 .split
  .have:=f.sz_eq;simp only[Tm.sz,Tm.szs_append,rt];omega
  .simp only[Tm.sz,Tm.szs,rt];omega
theorem withF_sz (t:Tm)(o:List Tm):(vq t o).sz<=1+Tm.szs o:=by
 unfold vq;split
 .rename_i h
  match o,h with
  |[],h=>simp at h
  |x::r,h=>
   simp only[List.headD_cons,List.tail_cons,Tm.szs] at h ⊢;have hx:(x.k==6)=true:=h.2.2.1;have hr:r≠[]:=by intro e;rw[e] at h;simp at h
   unfold applyF;split
   .exact absurd rfl hr
   .have:=x.sz_eq;by_cases hl:x.l=[]
    .rw[oV λe=>e.2 hl];simp only[Tm.sz,Tm.szs,rt];omega
    .rw[oX ⟨hx,hl⟩];simp only[Tm.sz,Tm.szs_append,rt];omega
 .simp only[Tm.sz];omega
mutual
def nd:Tm->Nat
 |.mk _ _ _ l=>1+nds l
def nds:List Tm->Nat
 |[]=>0
 |t::l=>nd t+nds l
end
mutual
theorem bQ (lf:Tm->Int->Tm)(S:Nat)(h:∀u d,(lf u d).sz<=u.sz+S):∀(t:Tm) (d:Int),(yF lf t d).sz<=t.sz+nd t*S
 |.mk k s n l,d=>by
  rw[yF];split
  .refine rS (withF_sz ..) ?_;have:=cz lf S h l<|d+if (k==5)=true then 1 else 0
   simp only[Tm.sz,Tm.s,nd,sL,Nat.one_mul];omega
  .refine rS (h _ _) ?_;simp only[nd,sL,Nat.one_mul];omega
theorem cz (lf:Tm->Int->Tm)(S:Nat)(h:∀u d,(lf u d).sz<=u.sz+S):∀(l:List Tm) (d:Int),Tm.szs (yb lf l d)<=Tm.szs l+nds l*S
 |[],_=>by simp[yb,Tm.szs]
 |t::l,d=>by
  have:=bQ lf S h t d;have:=cz lf S h l d;simp only[yb,Tm.szs,nds,sL];omega
end
theorem XZ {M:Int}:∀ {a b:List Tm},bds M a->bds M b->bds M (a++b)
 |[],_,_,h=>h
 |_::_,_,h,h'=>⟨h.1,XZ h.2 h'⟩
theorem bds_of {M:Int}:∀ {l:List Tm},(∀t∈l,bd M t)->bds M l
 |[],_=>trivial
 |t::_,h=>⟨h t r7,bds_of λu hu=>h u<|r9 _ hu⟩
theorem bd6 {M:Int}{s:List UInt8}{n:Int}{l:List Tm}(h:bds M l):bd M (.mk 6 s n l):=⟨λe=>absurd e za,h⟩
theorem Y0 {M:Int}{f:Tm}{l:List Tm}(hf:bd M f)(hl:bds M l):bd M (applyF f l):=by
 unfold applyF;split
 .exact hf
 .split
  .exact bd6<|XZ (bd_l hf) hl
  .exact bd6 ⟨hf,hl⟩
theorem withF_bd {M:Int}{t:Tm}{o:List Tm}(hk:t.k≠3)(ho:bds M o):bd M (vq t o):=by
 unfold vq;split
 .rename_i h
  match o,h,ho with
  |[],h,_=>simp at h
  |x::r,h,ho=>exact Y0 ho.1 ho.2
 .exact⟨λe=>absurd e hk,ho⟩
mutual
theorem dF (lf:Tm->Int->Tm)(M M' D:Int)(h:∀u d,bd M u->0<=d->d<=D->bd M' (lf u d)):∀(t:Tm) (d:Int),bd M t->0<=d->d+t.sz<=D->bd M' (yF lf t d)
 |.mk k s n l,d,hb,h0,h1=>by
  rw[yF];simp only[Tm.sz] at h1;split
  .rename_i hk;refine withF_bd (λe=>?_)<|cY lf M M' D h l _ hb.2 (by split<;>omega)<|by split<;>omega
   have e:k=3:=e;rw[e] at hk;exact absurd hk zc
  .exact h _ _ hb h0 za
theorem cY (lf:Tm->Int->Tm)(M M' D:Int)(h:∀u d,bd M u->0<=d->d<=D->bd M' (lf u d)):∀(l:List Tm) (d:Int),bds M l->0<=d->d+Tm.szs l<=D->bds M' (yb lf l d)
 |[],_,_,_,_=>trivial
 |t::l,d,hb,h0,h1=>by
  simp only[Tm.szs] at h1;exact⟨dF lf M M' D h t d hb.1 h0 za,cY lf M M' D h l d hb.2 h0 za⟩
end
theorem applyF_k {f:Tm}(l:List Tm)(h:(f.k==6)=true):(applyF f l).k=6:=by
 unfold applyF;split
 .exact zo h
 .split<;>rfl
theorem withF_k (t:Tm)(o:List Tm):(vq t o).k=t.k:=by
 unfold vq;split
 .rename_i h6;have e:t.k=6:=zo h6.1
  rw[applyF_k _ h6.2.2.1];exact e.symm
 .rfl
theorem i6 (lf:Tm->Int->Tm)(h:∀u d,(lf u d).k=u.k)(t:Tm)(d:Int):(yF lf t d).k=t.k:=by
 obtain⟨k,s,n,l⟩:=t;rw[yF];split
 .exact withF_k _ _
 .exact h _ _
theorem pm (lf:Tm->Int->Tm)(h:∀u d,(lf u d).k=u.k)(k:Int)(s:List UInt8)(n:Int)(l:List Tm)(d:Int)(hk:(k==5||k==6)=true):
  yF lf (.mk k s n l) d=.mk k s n (yb lf l<|d+if (k==5)=true then 1 else 0):=by
 rw[yF,oX hk,vq,oV λe=>?_];rfl
 match l,e with
 |[],e=>have:=e.2.1;simp[yb] at this
 |t::l,e=>
  have e1:=e.2.2.1;have e2:=e.2.2.2;rw[yb,List.headD_cons,i6 lf h] at e1;have e2:(t.k !=6)=true:=e2;rw[bne,e1] at e2;cases e2
theorem pz (lf:Tm->Int->Tm)(k:Int)(s:List UInt8)(n:Int)(l:List Tm)(d:Int)(hk:(k==5||k==6)=false):
  yF lf (.mk k s n l) d=lf (.mk k s n l) d:=by rw[yF,oV<|by rw[hk];simp]
theorem Zm (lf:Tm->Int->Tm):∀(l:List Tm) (d:Int),(yb lf l d).length=l.length
 |[],_=>rfl
 |_::l,d=>by simp only[yb,r5,Zm lf l d]
abbrev M61:Int:=2305843009213693952
def yh (fr by_:Int)(u:Tm)(d:Int):Tm:=if (u.k==3)=true/\d+fr<=u.n then .mk u.k u.s (u.n+by_) u.l else u
def shT (fr by_:Int)(t:Tm)(d:Int):Tm:=yF (yh fr by_) t d
theorem bM (fr by_:Int)(u:Tm)(d:Int):(yh fr by_ u d).k=u.k:=by unfold yh;split<;>rfl
theorem mO (fr by_:Int)(u:Tm)(d:Int):(yh fr by_ u d).sz=u.sz:=by
 unfold yh;split
 .cases u;rfl
 .rfl
theorem shT_sz (fr by_:Int)(t:Tm)(d:Int):(shT fr by_ t d).sz<=t.sz:=by
 have:=bQ (yh fr by_) 0 (λu d=>by rw[mO];omega) t d;rw[Nat.mul_zero] at this;exact this
theorem c_moved (t:Tm)(by_:Int)(h1: -9223372036854775808<=t.n+by_)(h2:t.n+by_<=9223372036854775807):AC rc 97 [aT t,ci by_] [] (aT<|.mk t.k t.s (t.n+by_) t.l) []:=by
 obtain⟨k,s,n,l⟩:=t;refine acv (v97 k s n (FTs l) by_ _ _) ?_;rw[w64 (x:=n+by_) h1 h2];exact rrl
def lamsF:Nat->Tm->Tm
 |0,t=>t
 |n+1,t=>lamsF n<|.mk 5 [] 0 [t]
theorem lM (N:Int)(hN:N<=4294967296):∀(m:Nat) (i k:Int) (s:List UInt8) (n:Int) (rows:List<|List FV) (l:List Tm),0<=i->i+m=N->FV.Le (.sl false 4 rows) (.sl false 4<|FTs l)->
  RPt rc 14 0 (aT<|lamsF m<|.mk k s n l) [] 1 ⟨[(3,.c<|.a<|.ep 0 4 0 0),(4,.c<|.a<|.ep 1 4 0 0),(6,ci N),(7,ci i)],[(0,.arr 4 [[qi k,qf<|.str s,qi n,qf<|.sl false 4 rows]]),(1,.arr 4 [[qi 0,qf<|.str [],qi 0,qf .N]])],2⟩
 |0,i,k,s,n,rows,l,h0,hi,hle=>by
  refine rpv (lg ..) ?_;refine bF za ⟨leT hle,rfl⟩
 |m+1,i,k,s,n,rows,l,h0,hi,hle=>by
  refine rpv (lg ..) ?_
  have h2:=lM N hN m (i+1) 5 [] 0 [[.int .i64 k,.str s,.int .i64 n,.sl false 4 rows]] [.mk k s n l] za za (cB rfl λj r t hr ht=>by
   match j,hr,ht with
   |0,hr,ht=>
    simp only[se,r8] at hr ht;subst hr;subst ht;exact leFT hle
   |j+1,hr,_=>simp at hr)
  rw[w64 (x:=i+1) za za];refine zu (λ_=>⟨⟨rfl,za⟩,?_⟩) (λh=>absurd (ri h) za);exact h2
theorem foldMax0 {n:Int}(h:0<=n):zE [n,0]=n:=by
 rw[foldMax2];unfold maxI;split<;>omega
theorem Yw (m:Nat)(t:Tm)(hm:m<=4294967296):AC rc 14 [ci m,aT t] [] (aT<|lamsF m t) []:=by
 obtain⟨k,s,n,l⟩:=t;refine acv (v14 m k s n (FTs l) _ _) ?_;rw[foldMax0 za];refine rpv (lg ..) ?_
 match m,hm with
 |0,_=>exact bF za rrl
 |m+1,hm=>
  refine zu (λ_=>⟨⟨rfl,za⟩,?_⟩) (λh=>absurd (ri h) za)
  exact lM ((m+1:Nat):Int) za m 1 5 [] 0 [[.int .i64 k,.str s,.int .i64 n,.sl false 4<|FTs l]] [.mk k s n l] za za (cB rfl λj r t hr ht=>by
   match j,hr,ht with
   |0,hr,ht=>
    simp only[se,r8] at hr ht;subst hr;subst ht;exact leFT (.refl _)
   |j+1,hr,_=>simp at hr)
mutual
def validB:Tm->Bool
 |.mk k s n l=>
  if (k==0)=true then(Y3 s||K7 s)&&n==0&&(((FTs l).length:Nat):Int)==0
  else if (k==1)=true then decide (n>=1)&&s==[]&&(((FTs l).length:Nat):Int)==0&&yp l
  else if (k==2)=true then s==[]&&(((FTs l).length:Nat):Int)==0&&yp l
  else if (k==3)=true then decide (n>=0)&&decide (n<=4611686018427387904)&&s==[]&&(((FTs l).length:Nat):Int)==0&&yp l
  else if (k==4)=true then decide (n>=0)&&decide (n<=4611686018427387904)&&s==[]&&(((FTs l).length:Nat):Int)==0&&yp l
  else if (k==5)=true then n==0&&s==[]&&(((FTs l).length:Nat):Int)==1&&yp l
  else if (k==6)=true then n==0&&decide ((((FTs l).length:Nat):Int)>=2)&&((l.headD default).k !=6)&&s==[]&&yp l
  else false
def yp:List Tm->Bool
 |[]=>true
 |t::l=>validB t&&yp l
end
def fG:List Tm->Int->Int
 |[],_=> -1
 |t::l,i=>if validB t=true then fG l (i+1) else i
theorem dI:∀(l:List Tm) (i:Int),0<=i->decide (fG l i>=0)= !yp l
 |[],_,_=>rfl
 |t::l,i,h=>by
  rw[fG,yp];split
  next e=>rw[dI l (i+1) za,e,sr]
  next e=>rw[show validB t=false by simpa using e];simp;omega
theorem mg:∀(b a:List Tm),(∀u∈b,AC rc 41 [aT u] [] (cb (!validB u)) [])->(a++b).length<=B->
  RPt rc 66 0 (ci<|fG b a.length) [] 1 ⟨[(0,aL<|a++b),(1,.c<|.fn (.func 41) [] []),(7,ci (((FTs<|a++b).length:Nat):Int)),(8,ci a.length)],[],0⟩
 |[],a,_,_=>by
  refine rpv (W0 ..) ?_;exact bF (geI' a)<|jn rfl
 |t::b,a,ih,hl=>by
  refine rpv (W0 ..) ?_;have hl':=hl;simp only[re,r5,B] at hl';have h1:=ih t r7;have h2:=mg b (a++[t]) (λu hu=>ih u<|r9 _ hu) (by rw[ap];exact hl);have h3:=ltI' a t b;rw[ap,nx] at h2;rw[midI,w64 (x:=(a.length:Int)+1) za za];refine bT h3<|?_
  obtain⟨k',s',n',l'⟩:=t;refine⟨⟨rfl,za,h3,rfl⟩,_,h1,zu (λh=>?_) λh=>?_⟩
  .rw[fG,oV<|zo h];exact jn rfl
  .rw[fG,oX<|zo h];exact h2
theorem c_contf (l:List Tm)(hl:l.length<=B)(ih:∀u∈l,AC rc 23 [aT u] [] (cb<|validB u) []):AC rc 40 [aL l,.c<|.fn (.func 41) [] []] [] (cb (!yp l)) []:=by
 have h1:∀u∈l,AC rc 41 [aT u] [] (cb (!validB u)) []:=λu hu=>by
  have h:=ih u hu;obtain⟨k,s,n,l⟩:=u;refine acv (v41 k s n (FTs l) _ _) ?_;exact⟨_,h,zH rfl⟩
 have h2:AC rc 66 [aL l,.c<|.fn (.func 41) [] []] [] (ci<|fG l 0) []:=by
  refine acv (v66_F41 ..) ?_;exact⟨rfl,mg l [] h1 hl⟩
 refine acv (v40_F41 ..) ?_;exact⟨_,h2,zH<|dI l 0<|ru _⟩
theorem head0:∀ {l:List Tm},2<=(((FTs l).length:Nat):Int)->getD (FTs l) 0 []=FT (l.headD default)
 |[],h=>by simp[FTs] at h
 |t::l,_=>rfl
theorem qH:∀t:Tm,t.sz<=B->AC rc 23 [aT t] [] (cb<|validB t) []:=by
 refine Tm.ind λt ih hs=>?_;have hlen:=Tm.szs_length t.l;obtain⟨k,s,n,l⟩:=t;simp only[Tm.sz,Tm.l] at hs hlen;have hc:=c_contf l za λu hu=>ih u hu (by have:=Tm.szs_mem hu;omega);refine acv (v23 k s n (FTs l) _ _) ?_
 refine zu (λh0=>⟨_,c_isname s,zu (λh1=>zu (λh2=>⟨rfl,zH ?_⟩) λh2=>zH ?_) λh1=>⟨_,c_issym s,zu (λh1'=>zu (λh2=>⟨rfl,zH ?_⟩) λh2=>zH ?_) λh1'=>zH ?_⟩⟩)
  (λh0=>zu (λh1=>zu (λh2=>zu (λh3=>⟨rfl,zu (λh4=>⟨_,hc,zH ?_⟩) λh4=>zH ?_⟩) λh3=>zH ?_) λh2=>zH ?_)
  (λh1=>zu (λh2=>zu (λh3=>⟨rfl,zu (λh4=>⟨_,hc,zH ?_⟩) λh4=>zH ?_⟩) λh3=>zH ?_)
  (λh2=>zu (λh3=>zu (λh4=>zu (λh5=>zu (λh6=>⟨rfl,zu (λh7=>⟨_,hc,zH ?_⟩) λh7=>zH ?_⟩) λh6=>zH ?_) λh5=>zH ?_) λh4=>zH ?_)
  (λh3=>zu (λh3'=>zu (λh4=>zu (λh5=>zu (λh6=>⟨rfl,zu (λh7=>⟨_,hc,zH ?_⟩) λh7=>zH ?_⟩) λh6=>zH ?_) λh5=>zH ?_) λh4=>zH ?_)
  (λh3'=>zu (λh5=>zu (λh6=>zu (λh7=>⟨rfl,zu (λh8=>⟨_,hc,zH ?_⟩) λh8=>zH ?_⟩) λh7=>zH ?_) λh6=>zH ?_)
  (λh5=>zu (λh6=>zu (λh7=>⟨rfl,zu (λh8=> ?app) λh8=>⟨rfl,zH ?_⟩⟩) λh7=>⟨rfl,zH ?_⟩) λh6=>zH ?_))))))
 case app=>
  have h8':=rA h8;rw[head0 h8',cH];refine⟨⟨rfl,za,za,rfl⟩,rfl,zu (λh9=>zu (λh10=>⟨rfl,zu (λh11=>⟨_,hc,zH ?_⟩) λh11=>zH ?_⟩) λh10=>zH ?_) λh9=>zH ?_⟩
  all_goals (have h9':((l.headD default).k !=6)=_:=h9;simp_all[validB])
 all_goals first
  |(simp_all[validB];done)
  |(simp_all[validB];intros;omega)
end Go.AM
namespace Go.AM
mutual
def occF:Tm->Int->Nat
 |.mk k _ n l,i=>if (k==3)=true/\(n==i)=true then 1 else occL l<|i+if (k==5)=true then 1 else 0
def occL:List Tm->Int->Nat
 |[],_=>0
 |t::l,i=>occF t i+occL l i
end
mutual
theorem occF_le:∀(t:Tm) (i:Int),occF t i<=t.sz
 |.mk k s n l,i=>by
  rw[occF];have:=dz l<|i+if (k==5)=true then 1 else 0
  split<;>simp only[Tm.sz]<;>omega
theorem dz:∀(l:List Tm) (i:Int),occL l i<=Tm.szs l
 |[],_=>r6 _
 |t::l,i=>by have:=occF_le t i;have:=dz l i;simp only[occL,Tm.szs];omega
end
theorem bq (i:Int):∀(b a:List Tm) (acc:Nat),(∀u∈b,AC rc 107 [aT u,ci i] [] (ci<|occF u i) [])->(a++b).length<=B->acc+occL b i<=2*B->
  RPt rc 107 0 (ci ((acc+occL b i:Nat):Int)) [] 3 ⟨[(1,ci i),(5,ci acc),(21,aL<|a++b),(22,ci (((FTs<|a++b).length:Nat):Int)),(23,ci a.length)],[],0⟩
 |[],a,acc,_,_,_=>by
  refine rpv (m7 ..) ?_;exact bF (geI' a)<|jn<|by simp[occL]
 |t::b,a,acc,ih,hl,ha=>by
  have hl':=hl;simp only[re,r5,B] at hl';simp only[occL,B] at ha;have h1:=ih t r7;have h2:=bq i b (a++[t]) (acc+occF t i) (λu hu=>ih u<|r9 _ hu) (by rw[ap];exact hl) (by simp only[B];omega);have h3:=ltI' a t b;rw[ap,nx] at h2;refine rpv (m7 ..) ?_;rw[midI,w64 (x:=(a.length:Int)+1) za za];refine bT h3<|?_
  rw[occL,<-tR];obtain⟨k',s',n',l'⟩:=t;refine⟨⟨rfl,za,h3,rfl⟩,_,h1,?_⟩;rw[w64 za za,show(acc:Int)+((occF (.mk k' s' n' l') i:Nat):Int)=((acc+occF (.mk k' s' n' l') i:Nat):Int) by omega];exact h2
theorem c_occurs:∀t:Tm,t.sz<=B->∀i:Int,0-2305843009213693952<=i->i+t.sz<=2305843009213693952->AC rc 107 [aT t,ci i] [] (ci<|occF t i) []:=by
 refine Tm.ind λt ih hs i h0 h1=>?_;have hlen:=Tm.szs_length t.l;obtain⟨k,s,n,l⟩:=t;simp only[Tm.sz,Tm.l,B] at hs hlen h1
 have loop:∀j:Int,0-2305843009213693952<=j->j+Tm.szs l<=2305843009213693952->RPt rc 107 0 (ci<|occL l j) [] 3 ⟨[(1,ci j),(5,ci 0),(21,aL l),(22,ci (((FTs l).length:Nat):Int)),(23,ci 0)],[],0⟩:=λj hj0 hj1=>by
  have hle:=dz l j;have:=bq j l [] 0 (λu hu=>ih u hu (by have:=Tm.szs_mem hu;simp only[B];omega) j hj0<|by have:=Tm.szs_mem hu;omega) (by simp only[rH,B];omega) (by simp only[B];omega);rw[rB] at this;exact this
 refine acv (v107 k s n (FTs l) i _ _) ?_;have no:∀(c:¬((k==3)=true/\(n==i)=true)),occF (.mk k s n l) i=occL l (i+if (k==5)=true then 1 else 0):=λc=>by rw[occF,oV c]
 refine zu (λh=>zu (λh2=>jn ?_) λh2=>⟨rfl,?_⟩) λh=>zu (λh2=>⟨rfl,?_⟩) λh2=>⟨rfl,?_⟩
 .rw[occF,oX ⟨h,h2⟩];rfl
 .have e:k=3:=zo h
  rw[no λc=>by rw[c.2] at h2;cases h2];subst e;rw[show(i+if ((3:Int)==5)=true then 1 else 0)=i by simp]
  exact loop i za za
 .rw[no (λc=>by rw[c.1] at h;cases h),oX h2,w64 za za];exact loop (i+1) za za
 .rw[no (λc=>by rw[c.1] at h;cases h),oV<|by rw[h2];simp,tu];exact loop i za za
theorem ib (t:Tm)(hs:t.sz<=B)(i:Int)(h0:0-2305843009213693952<=i)(h1:i+t.sz<=2305843009213693952):AC rc 95 [aT t,ci i] [] (ci (if validB t=true then(occF t i:Int) else 0)) []:=by
 have hv:=qH t hs;have ho:=c_occurs t hs i h0 h1;obtain⟨k,s,n,l⟩:=t;refine acv (v95 k s n (FTs l) i _ _) ?_;refine⟨_,hv,zu (λh=>jn ?_) λh=>⟨_,ho,jn ?_⟩⟩
 .rw[oV<|zo h]
 .rw[oX<|zo h]
abbrev aTE (t:Tm)(e:Int):TV:=.tup [(true,[qi t.k,qf<|.str t.s,qi t.n,qf<|.sl false 4<|FTs t.l]),(false,[qi e])]
abbrev noT:Tm:=.mk 0 [] 0 []
theorem leTE {k n e:Int}{s:List UInt8}{x:FV}{l:List Tm}(h:FV.Le x<|.sl false 4<|FTs l):TV.Le (.tup [(true,[qi k,qf<|.str s,qi n,qf x]),(false,[qi e])]) (aTE (.mk k s n l) e):=by
 refine .tup _ _ rfl λi p q hp hq=>?_
 match i,hp,hq with
 |0,hp,hq=>
  simp only[se,r8] at hp hq;subst hp;subst hq;refine⟨rfl,rfl,λj x y hx hy=>?_⟩
  match j,hx,hy with
  |0,hx,hy=>simp at hx hy;subst hx;subst hy;exact .refl _
  |1,hx,hy=>simp at hx hy;subst hx;subst hy;exact .refl _
  |2,hx,hy=>simp at hx hy;subst hx;subst hy;exact .refl _
  |3,hx,hy=>simp at hx hy;subst hx;subst hy;exact .a _ _<|.fz _ _ h
  |j+4,hx,_=>simp at hx
 |1,hp,hq=>
  simp only[se,sR,r8] at hp hq;subst hp;subst hq;refine⟨rfl,rfl,λj x y hx hy=>?_⟩
  match j,hx,hy with
  |0,hx,hy=>simp at hx hy;subst hx;subst hy;exact .refl _
  |j+1,hx,_=>simp at hx
 |i+2,hp,_=>simp at hp
def hd (l:List Tm):Tm:=l.headD default
def mi (t:Tm):Bool:=t.k==6&&(hd t.l).k==5
mutual
def okB:Tm->Bool
 |.mk k s n l=>(if (k==6)=true then decide (2<=l.length)&&(hd l).k !=6&&(s==[]&&n==0) else if (k==5)=true then decide (l.length=1)&&(s==[]&&n==0) else decide (l.length=0))&&okL l
def okL:List Tm->Bool
 |[]=>true
 |t::l=>okB t&&okL l
end
theorem um:∀ {l:List Tm} {t:Tm},okL l=true->t∈l->okB t=true
 |x::l,t,h,hm=>by
  simp only[okL,oZ] at h;rcases rx.1 hm with rfl|hm
  .exact h.1
  .exact um h.2 hm
theorem dO:∀ {l:List Tm},(∀t∈l,okB t=true)->okL l=true
 |[],_=>rfl
 |t::l,h=>by simp only[okL,h t r7,dO (l:=l) λu hu=>h u<|r9 _ hu,tq]
theorem okB6 {k n:Int}{s:List UInt8}{l:List Tm}(h:okB (.mk k s n l)=true)(hk:k=6):∃x y r,l=x::y::r/\x.k≠6/\okL l=true:=by
 subst hk;simp only[okB,oZ] at h
 match l,h with
 |[],h=>simp at h
 |[x],h=>simp at h
 |x::y::r,h=>exact⟨x,y,r,rfl,by have:=h.1;simp[hd] at this;exact this.1,h.2⟩
theorem okB5 {k n:Int}{s:List UInt8}{l:List Tm}(h:okB (.mk k s n l)=true)(hk:k=5):∃x,l=[x]/\okB x=true:=by
 subst hk;simp only[okB,oZ] at h
 match l,h with
 |[],h=>simp at h
 |[x],h=>exact⟨x,rfl,by have:=h.2;simpa[okL] using this⟩
 |x::y::r,h=>simp at h
theorem okB0 {k n:Int}{s:List UInt8}{l:List Tm}(h:okB (.mk k s n l)=true)(h5:k≠5)(h6:k≠6):l=[]:=by
 simp only[okB,oZ] at h;have:=h.1;rw[oV<|zo h6,oV<|zo h5] at this;exact rk (zo this)
theorem okB_sn {k n:Int}{s:List UInt8}{l:List Tm}(h:okB (.mk k s n l)=true)(hk:k=5\/k=6):s=[]/\n=0:=by
 simp only[okB,oZ] at h;have h:=h.1;rcases hk with rfl|rfl
 .simp at h;exact h.2
 .simp at h;exact h.2
theorem Ky {t:Tm}(h:okB t=true):okL t.l=true:=by
 obtain⟨k,s,n,l⟩:=t;simp only[okB,oZ] at h;exact h.2
mutual
theorem zG:∀t:Tm,validB t=true->okB t=true
 |.mk k s n l,h=>by
  rw[okB];have hl:=JQ l;rw[validB] at h;split at h
  .rename_i e;have e:k=0:=zo e
   subst e;rw[lenI] at h;have:l=[]:=by simp at h;exact h.2
   subst this;rfl
  split at h
  .rename_i e;have e:k=1:=zo e
   subst e;rw[lenI] at h;have:l=[]:=by simp at h;exact h.1.2
   subst this;rfl
  split at h
  .rename_i e;have e:k=2:=zo e
   subst e;rw[lenI] at h;have:l=[]:=by simp at h;exact h.1.2
   subst this;rfl
  split at h
  .rename_i e;have e:k=3:=zo e
   subst e;rw[lenI] at h;have:l=[]:=by simp at h;exact h.1.2
   subst this;rfl
  split at h
  .rename_i e;have e:k=4:=zo e
   subst e;rw[lenI] at h;have:l=[]:=by simp at h;exact h.1.2
   subst this;rfl
  split at h
  .rename_i e;have e:k=5:=zo e
   subst e;rw[lenI] at h;simp only[oZ,rT] at h;have h1:l.length=1:=by have:=h.1.2;omega
   rw[hl h.2];simp[h1,h.1.1.1,h.1.1.2]
  split at h
  .rename_i e;have e:k=6:=zo e
   subst e;rw[lenI] at h;simp only[oZ,rL,rT] at h;have h1:2<=l.length:=by have:=h.1.1.1.2;omega
   have h2:((hd l).k !=6)=true:=h.1.1.2;rw[hl h.2,h2];simp[h1,h.1.1.1.1,h.1.2]
  .cases h
theorem JQ:∀l:List Tm,yp l=true->okL l=true
 |[],_=>rfl
 |t::l,h=>by
  simp only[yp,oZ] at h;simp only[okL,zG t h.1,JQ l h.2,tq]
end
theorem ok_ne {t:Tm}(h:okB t=true):t.k=6->t.l≠[]:=by
 obtain⟨k,s,n,l⟩:=t;intro hk;obtain⟨x,y,r,e,_⟩:=okB6 h hk;show l≠[];rw[e];simp
mutual
def normB:Tm->Bool
 |.mk k s n l=> !mi (.mk k s n l)&&xp l
def xp:List Tm->Bool
 |[]=>true
 |t::l=>normB t&&xp l
end
abbrev zT:List WV:=[qi 0,qf<|.str [],qi 0,qf .N]
theorem kS (k:Int)(s:List UInt8)(n:Int)(l:List Tm)(a:Tm)(r:List Tm):applyF (.mk k s n l) (a::r)=if (k==6)=true/\l≠[] then .mk 6 [] 0 (l++a::r) else .mk 6 [] 0 (.mk k s n l::a::r):=rfl
def SZ:Nat:=130000000
theorem el0 (x:Tm)(l:List Tm):FV.L 4 (.sl false 4<|FTs<|x::l)=true/\((0:Int)<=0/\((0:Int)<(((FTs<|x::l).length:Nat):Int)/\(rE (getD (FTs<|x::l) 0 []):List FV)=getD (FTs<|x::l) 0 [])):=⟨rfl,ru _,by rw[lenI];simp only[r5];omega,uI x⟩
theorem leTB {k n:Int}{b:Bool}{s:List UInt8}{x:FV}{l:List Tm}(h:FV.Le x<|.sl false 4<|FTs l):TV.Le (.tup [(true,[qi k,qf<|.str s,qi n,qf x]),(false,[qf<|.bool b])]) (.tup [(true,cT<|.mk k s n l),(false,[qf<|.bool b])]):=by
 refine .tup _ _ rfl λi p q hp hq=>?_
 match i,hp,hq with
 |0,hp,hq=>
  simp only[se,r8] at hp hq;subst hp;subst hq;refine⟨rfl,rfl,λj x y hx hy=>?_⟩
  match j,hx,hy with
  |0,hx,hy=>simp at hx hy;subst hx;subst hy;exact .refl _
  |1,hx,hy=>simp at hx hy;subst hx;subst hy;exact .refl _
  |2,hx,hy=>simp at hx hy;subst hx;subst hy;exact .refl _
  |3,hx,hy=>simp at hx hy;subst hx;subst hy;exact .a _ _<|.fz _ _ h
  |j+4,hx,_=>simp at hx
 |1,hp,hq=>
  simp only[se,sR,r8] at hp hq;subst hp;subst hq;exact⟨rfl,rfl,λj x y hx hy=>by rw[hx] at hy;injection hy with hy;subst hy;exact .refl _⟩
 |i+2,hp,_=>simp at hp
theorem not_t {b:Bool}(h:(!b)=true):b=false:=by cases b<;>simp_all
theorem pH {b:Bool}(h:(!b)=false):b=true:=by cases b<;>simp_all
theorem k9 {f:Tm}{args:List Tm}(hf:okB f=true)(ha:okL args=true):okB (applyF f args)=true:=by
 match args,ha with
 |[],_=>exact hf
 |a::r,ha=>
  obtain⟨k,s,n,l⟩:=f;rw[kS];split
  .rename_i h;have hk:k=6:=zo h.1
   obtain⟨x,y,r',rfl,h6,hl⟩:=okB6 hf hk
   have hall:okL ((x::y::r')++a::r)=true:=dO λt ht=>by
    rcases rQ.1 ht with ht|ht
    .exact um hl ht
    .exact um ha ht
   have h6':(x.k !=6)=true:=zo h6
   rw[okB,hall];simp[hd,h6]
  .rename_i h;have h6:k≠6:=λe=>h ⟨zo e,ok_ne hf e⟩;have hall:okL (.mk k s n l::a::r)=true:=by simp only[okL,oZ] at ha ⊢;exact⟨hf,ha⟩
   rw[okB,hall];simp[hd,Tm.k,h6]
theorem withF_ok {k n:Int}{s:List UInt8}{l o:List Tm}(h:okB (.mk k s n l)=true)(hk:k=5\/k=6)(ho:okL o=true)(hlen:o.length=l.length):okB (vq (.mk k s n l) o)=true:=by
 obtain⟨rfl,rfl⟩:=okB_sn h hk;unfold vq;split
 .rename_i hc
  match o,ho,hc with
  |[],_,hc=>simp at hc
  |x::r,ho,hc=>
   simp only[okL,oZ] at ho;exact k9 ho.1 ho.2
 .rename_i hc;show okB (.mk k [] 0 o)=true;rcases hk with rfl|rfl
  .obtain⟨x,rfl,_⟩:=okB5 h rfl;rw[okB,ho];simp only[r5,rt] at hlen;simp[hlen]
  .obtain⟨x,y,r,rfl,h6,_⟩:=okB6 h rfl;have h1:¬(hd o).k=6:=λe=>hc ⟨rfl,by rw[hlen];simp,by simpa[hd] using e,show(x.k !=6)=true by simpa using h6⟩;rw[okB,ho];simp only[r5] at hlen;simp[hlen,h1]
mutual
theorem bC (lf:Tm->Int->Tm)(h:∀u d,okB u=true->u.k≠5->u.k≠6->okB (lf u d)=true):∀(t:Tm) (d:Int),okB t=true->okB (yF lf t d)=true
 |.mk k s n l,d,ho=>by
  rw[yF];split
  next hk=>exact withF_ok ho (zo hk) (ai lf h l _<|Ky ho)<|Zm ..
  next hk=>exact h _ _ ho (λe=>hk<|by simp[show k=5 from e]) (λe=>hk<|by simp[show k=6 from e])
theorem ai (lf:Tm->Int->Tm)(h:∀u d,okB u=true->u.k≠5->u.k≠6->okB (lf u d)=true):∀(l:List Tm) (d:Int),okL l=true->okL (yb lf l d)=true
 |[],_,_=>rfl
 |t::l,d,ho=>by
  simp only[okL,oZ] at ho;simp only[yb,okL,bC lf h t d ho.1,ai lf h l d ho.2,tq]
end
theorem okB_leaf {k n m:Int}{s:List UInt8}{l:List Tm}(h:okB (.mk k s n l)=true)(h5:k≠5)(h6:k≠6):okB (.mk k s m l)=true:=by
 have:l=[]:=okB0 h h5 h6;subst this;simp[okB,h5,h6,okL]
theorem shT_ok {fr by_:Int}{t:Tm}(d:Int)(h:okB t=true):okB (shT fr by_ t d)=true:=by
 refine bC _ (λu d hu h5 h6=>?_) t d h;unfold yh;split
 .obtain⟨k,s,n,l⟩:=u;exact okB_leaf hu h5 h6
 .exact hu
mutual
theorem iH:∀(t:Tm) (m:Int),0<=Z9 t m->(t.sz:Int)<=m-Z9 t m
 |.mk _ s _ l,m,h=>by
  simp only[Z9] at h ⊢;have:=bE l (m-1) h;simp only[Tm.sz];omega
theorem bE:∀(l:List Tm) (m:Int),0<=qG l m->(Tm.szs l:Int)<=m-qG l m
 |[],m,h=>by simp[qG,Tm.szs]
 |t::l,m,h=>by
  simp only[qG] at h ⊢;split at h
  next h0=>rw[oX h0];have h1:=bE l _ h;have h3:=(Wz l<|Z9 t m).1;have h2:=iH t m za;simp only[Tm.szs];omega
  next h0=>exact absurd h h0
end
theorem large_sz {t:Tm}{m:Int}(h:large t m=false):(t.sz:Int)<=m:=by
 have h:=ri h;have:=iH t m za;omega
theorem args1 {a:List FV}{x:Tm}(ha:LeR a<|FT x):TV.Le (.c<|qf<|.sl false 4 [a]) (aL [x]):=le_c (cB rfl λi r t hr ht=>by
 match i,hr,ht with
 |0,hr,ht=>simp only[se,r8] at hr ht;subst hr;subst ht;exact ha
 |i+1,hr,_=>simp at hr)
theorem args2 {a b:List FV}{x y:Tm}(ha:LeR a<|FT x)(hb:LeR b<|FT y):TV.Le (.c<|qf<|.sl false 4 [a,b]) (aL [x,y]):=le_c (cB rfl λi r t hr ht=>by
 match i,hr,ht with
 |0,hr,ht=>simp only[se,r8] at hr ht;subst hr;subst ht;exact ha
 |1,hr,ht=>simp only[se,sR,r8] at hr ht;subst hr;subst ht;exact hb
 |i+2,hr,_=>simp at hr)
mutual
def lvB:Tm->Bool
 |.mk k s n l=>if (k==5||k==6)=true then lvL l else validB<|.mk k s n l
def lvL:List Tm->Bool
 |[]=>true
 |t::l=>lvB t&&lvL l
end
theorem je:∀ {l:List Tm} {t:Tm},lvL l=true->t∈l->lvB t=true
 |x::l,t,h,hm=>by
  simp only[lvL,oZ] at h;rcases rx.1 hm with rfl|hm
  .exact h.1
  .exact je h.2 hm
theorem cR:∀ {l:List Tm},(∀t∈l,lvB t=true)->lvL l=true
 |[],_=>rfl
 |t::l,h=>by simp only[lvL,h t r7,cR (l:=l) λu hu=>h u<|r9 _ hu,tq]
theorem vz {k n:Int}{s:List UInt8}{l:List Tm}(hk:k=5\/k=6):lvB (.mk k s n l)=lvL l:=by
 rw[lvB,oX<|by rcases hk with rfl|rfl<;>rfl]
theorem fK {k n:Int}{s:List UInt8}{l:List Tm}(h5:k≠5)(h6:k≠6):lvB (.mk k s n l)=validB (.mk k s n l):=by
 rw[lvB,oV<|by simp[h5,h6]]
theorem aq {s:List UInt8}{n:Int}{l:List Tm}:validB (.mk 5 s n l)=(n==0&&s==[]&&decide (l.length=1)&&yp l):=by
 rw[validB,lenI];simp only[show((5:Int)==0)=false from rfl,show((5:Int)==1)=false from rfl,show((5:Int)==2)=false from rfl,show((5:Int)==3)=false from rfl,show((5:Int)==4)=false from rfl,rF,rN,show((5:Int)==5)=true from rfl,rG];congr 2;by_cases h:l.length=1
 .rw[h];rfl
 .rw[A2 h];simp;omega
theorem lH {s:List UInt8}{n:Int}{l:List Tm}:validB (.mk 6 s n l)=(n==0&&decide (2<=l.length)&&((hd l).k !=6)&&s==[]&&yp l):=by
 rw[validB,lenI];simp only[show((6:Int)==0)=false from rfl,show((6:Int)==1)=false from rfl,show((6:Int)==2)=false from rfl,show((6:Int)==3)=false from rfl,show((6:Int)==4)=false from rfl,show((6:Int)==5)=false from rfl,rF,rN,show((6:Int)==6)=true from rfl,rG];congr 4;by_cases h:2<=l.length
 .rw[decide_eq_true h,decide_eq_true za]
 .rw[A2 h,A2 za]
mutual
theorem wF:∀t:Tm,validB t=(okB t&&lvB t)
 |.mk k s n l=>by
  by_cases h5:k=5
  .subst h5;rw[aq,vz<|.inl rfl,Z1 l,okB];cases okL l<;>cases lvL l<;>simp[Bool.and_comm,Bool.and_assoc,Bool.and_left_comm]
  .by_cases h6:k=6
   .subst h6;rw[lH,vz<|.inr rfl,Z1 l,okB];cases okL l<;>cases lvL l<;>simp[Bool.and_comm,Bool.and_assoc,Bool.and_left_comm]
   .rw[fK h5 h6];cases hv:validB (.mk k s n l) with
    |false=>simp
    |true=>rw[zG _ hv];rfl
theorem Z1:∀l:List Tm,yp l=(okL l&&lvL l)
 |[]=>rfl
 |t::l=>by
  rw[yp,okL,lvL,wF t,Z1 l];cases okB t<;>cases lvB t<;>simp
end
theorem vB {t:Tm}(h:validB t=true):lvB t=true:=by rw[wF] at h;simp at h;exact h.2
theorem kF {f:Tm}{args:List Tm}(hf:lvB f=true)(ha:lvL args=true):lvB (applyF f args)=true:=by
 match args,ha with
 |[],_=>exact hf
 |a::r,ha=>
  obtain⟨k,s,n,l⟩:=f;rw[kS];split
  .rename_i h;have hk:k=6:=zo h.1
   rw[vz<|.inr hk] at hf;rw[vz<|.inr rfl]
   exact cR λt ht=>by
    rcases rQ.1 ht with ht|ht
    .exact je hf ht
    .exact je ha ht
  .rw[vz<|.inr rfl];simp only[lvL,oZ] at ha ⊢;exact⟨hf,ha⟩
theorem withF_lv {t:Tm}{o:List Tm}(hk:t.k=5\/t.k=6)(ho:lvL o=true):lvB (vq t o)=true:=by
 obtain⟨k,s,n,l⟩:=t;unfold vq;split
 .rename_i hc
  match o,ho,hc with
  |[],_,hc=>exact absurd hc.2.1 zb
  |x::r,ho,hc=>
   simp only[lvL,oZ] at ho;exact kF ho.1 ho.2
 .exact(vz hk).trans ho
mutual
theorem cd (lf:Tm->Int->Tm)(Q:Tm->Int->Prop)(hq:∀k s n l d,Q (.mk k s n l) d->∀u∈l,Q u<|d+if (k==5)=true then 1 else 0)(h:∀u d,lvB u=true->Q u d->u.k≠5->u.k≠6->lvB (lf u d)=true):∀(t:Tm) (d:Int),lvB t=true->Q t d->lvB (yF lf t d)=true
 |.mk k s n l,d,ho,hQ=>by
  rw[yF];split
  .rename_i hk;have hk:k=5\/k=6:=zo hk
   rw[vz hk] at ho;exact withF_lv hk<|cO lf Q hq h l _ ho<|hq k s n l d hQ
  next hk=>exact h _ _ ho hQ (λe=>hk<|by simp[show k=5 from e]) (λe=>hk<|by simp[show k=6 from e])
theorem cO (lf:Tm->Int->Tm)(Q:Tm->Int->Prop)(hq:∀k s n l d,Q (.mk k s n l) d->∀u∈l,Q u<|d+if (k==5)=true then 1 else 0)(h:∀u d,lvB u=true->Q u d->u.k≠5->u.k≠6->lvB (lf u d)=true):∀(l:List Tm) (d:Int),lvL l=true->(∀u∈l,Q u d)->lvL (yb lf l d)=true
 |[],_,_,_=>rfl
 |t::l,d,ho,hQ=>by
  simp only[lvL,oZ] at ho;simp only[yb,lvL,cd lf Q hq h t d ho.1<|hQ t r7,cO lf Q hq h l d ho.2 λu hu=>hQ u<|r9 _ hu,tq]
end
theorem Xx {s:List UInt8}{n:Int}{l:List Tm}:validB (.mk 3 s n l)=true↔0<=n/\n<=4611686018427387904/\s=[]/\l=[]:=by
 rw[validB,lenI];simp only[show((3:Int)==0)=false from rfl,show((3:Int)==1)=false from rfl,show((3:Int)==2)=false from rfl,rF,rN,show((3:Int)==3)=true from rfl,rG];simp only[oZ,rL,rT];constructor
 .rintro ⟨⟨⟨⟨h1,h2⟩,h3⟩,h4⟩,_⟩;exact⟨h1,h2,h3,rk za⟩
 .rintro ⟨h1,h2,rfl,rfl⟩;exact⟨⟨⟨⟨h1,h2⟩,rfl⟩,rfl⟩,rfl⟩
def uA (l:List Tm):Tm:=l.getLastD default
def uq (b:Tm):Tm:=applyF (hd b.l) b.l.tail.dropLast
def yT (b:Tm):Bool:=b.k==6&&(uA b.l).k==3&&(uA b.l).n==0&&occF (uq b) 0==0
def uJ (b:Tm):Tm:=if yT b=true then shT 0 (-1) (uq b) 0 else noT
mutual
def zy:Tm->Tm
 |.mk k s n l=>if (k==5)=true then(if yT (hd<|zU l)=true then uJ (hd<|zU l) else .mk 5 [] 0 [hd<|zU l]) else if (k==6)=true then applyF (hd<|zU l) (zU l).tail else .mk k s n l
def zU:List Tm->List Tm
 |[]=> []
 |t::l=>zy t::zU l
end
theorem vS {k n:Int}{s:List UInt8}{l:List Tm}(h:okB (.mk k s n l)=true)(hk:k=6):∃x a z,l=x::a++[z]/\x.k≠6/\okB x=true/\okL a=true/\okB z=true:=by
 obtain⟨x,y,r,rfl,h6,hl⟩:=okB6 h hk;refine⟨x,(y::r).dropLast,(y::r).getLast zb,by rw[sk,tz],h6,um hl r7,dO λu hu=>um hl<|r9 _<|List.dropLast_subset _ hu,um hl<|r9 _<|List.getLast_mem _⟩
theorem cM (x:Tm)(a:List Tm)(z:Tm):uA (x::a++[z])=z:=by
 rw[uA,List.getLastD_eq_getLast?,List.getLast?_append];rfl
theorem vJ (k n:Int)(s:List UInt8)(x:Tm)(a:List Tm)(z:Tm):uq (.mk k s n<|x::a++[z])=applyF x a:=by
 rw[uq];show applyF x ((a++[z]).dropLast)=_;rw[List.dropLast_concat]
theorem oz {b:Tm}(h:yT b=true):b.k=6:=by
 simp only[yT,oZ,rT] at h;exact h.1.1.1
theorem drop0 {b:Tm}(h:yT b=true):occF (uq b) 0=0:=by
 simp only[yT,oZ,rT] at h;exact h.2
theorem Wq {b:Tm}(h:okB b=true)(hk:b.k=6):okB (uq b)=true/\(lvB b=true->lvB (uq b)=true)/\(uq b).sz<=b.sz/\∀M,bd M b->bd M (uq b):=by
 obtain⟨k,s,n,l⟩:=b;have hk':k=6:=hk;obtain⟨x,a,z,rfl,h6,hx,ha,hz⟩:=vS h hk';rw[vJ];refine⟨k9 hx ha,λhl=>?_,?_,λM hb=>?_⟩
 .rw[vz<|.inr hk'] at hl;exact kF (je hl r7)<|cR λu hu=>je hl<|r9 _<|sE _ hu
 .have:=xX x a;simp only[Tm.sz,sk,Tm.szs,Tm.szs_append];omega
 .exact Y0 (Y6 hb.2 r7)<|bds_of λu hu=>Y6 hb.2<|r9 _<|sE _ hu
theorem jV:∀ {l:List Tm} {i:Int},occL l i=0->∀u∈l,occF u i=0
 |x::l,i,h,u,hu=>by
  simp only[occL] at h;rcases rx.1 hu with rfl|hu
  .omega
  .exact jV (l:=l) za u hu
theorem occ_kids {k n:Int}{s:List UInt8}{l:List Tm}{d:Int}(h:occF (.mk k s n l) d=0):∀u∈l,occF u (d+if (k==5)=true then 1 else 0)=0:=by
 rw[occF] at h;split at h
 .cases h
 .exact jV h
theorem nL {t:Tm}(h:lvB t=true)(d:Int)(h0:occF t d=0)(hd:0<=d):lvB (shT 0 (-1) t d)=true:=by
 refine cd _ (λu d=>occF u d=0/\0<=d) (λk s n l d hQ u hu=>⟨occ_kids hQ.1 u hu,by have:=hQ.2;split<;>omega⟩) (λu d hu hQ h5 h6=>?_) t d h ⟨h0,hd⟩;unfold yh;split
 .rename_i hc;obtain⟨k,s,n,l⟩:=u;have hk:k=3:=by have hc:=hc.1;have hc:(k==3)=true:=hc;exact zo hc
  subst hk;rw[fK zc zc,Xx] at hu
  have h1:n≠d:=λe=>by
   have:=hQ.1;rw[occF,oX ⟨rfl,by simp[e]⟩] at this;cases this
  have h2:d+0<=n:=hc.2;have:=hQ.2;show lvB (.mk 3 s (n+ -1) l)=true;rw[fK zc zc,Xx];exact⟨za,za,hu.2.2.1,hu.2.2.2⟩
 .exact hu
theorem og {M:Int}(hM:1<=M){t:Tm}(h:bd M t)(d:Int)(hd:0<=d):bd M (shT 0 (-1) t d):=by
 refine dF _ M M (d+t.sz) (λu d' hu h0 _=>?_) t d h hd<|ru _
 unfold yh;split
 next hc=>obtain⟨k,s,n,l⟩:=u;exact⟨λe=>by have:=hu.1 e;have h2:d'+0<=n:=hc.2;simp only[Tm.n];omega,hu.2⟩
 .exact hu
theorem dropF_ok {b:Tm}(h:okB b=true)(hd:yT b=true):okB (uJ b)=true/\(lvB b=true->lvB (uJ b)=true)/\(uJ b).sz<=b.sz/\∀M,1<=M->bd M b->bd M (uJ b):=by
 obtain⟨h1,h2,h3,h4⟩:=Wq h<|oz hd
 rw[uJ,oX hd];exact⟨shT_ok 0 h1,λhl=>nL (h2 hl) 0 (drop0 hd)<|ru _,rS (shT_sz ..) h3,λM hM hb=>og hM (h4 M hb) 0<|ru _⟩
mutual
theorem w6:∀t:Tm,okB t=true->okB (zy t)=true/\(lvB t=true->lvB (zy t)=true)/\(zy t).sz<=t.sz/\∀M,1<=M->bd M t->bd M (zy t)
 |.mk k s n l,h=>by
  have hl:=KA l<|Ky h
  rw[zy];split
  .rename_i h5;have h5:k=5:=zo h5
   obtain⟨x,rfl,hx⟩:=okB5 h h5;obtain⟨g1,g2,g3,g4⟩:=hl;simp only[zU,okL,lvL,ti,Tm.szs] at g1 g2 g3 g4;show okB (if yT (zy x)=true then uJ (zy x) else .mk 5 [] 0 [zy x])=true/\_
   rw[show hd (zU [x])=zy x from rfl];split
   next hd=>obtain⟨f1,f2,f3,f4⟩:=dropF_ok g1 hd;refine⟨f1,λhl=>f2<|g2 ?_,by simp only[Tm.sz,Tm.szs];omega,λM hM hb=>f4 M hM (g4 M hM hb.2).1⟩;rw[vz<|.inl h5] at hl;simpa[lvL] using hl
   .refine⟨by simp[okB,okL,g1],λhl=>?_,by simp only[Tm.sz,Tm.szs];omega,λM hM hb=>⟨λe=>za,g4 M hM hb.2⟩⟩;rw[vz<|.inl h5] at hl;rw[vz<|.inl rfl];simp only[lvL,ti] at hl ⊢;exact g2 hl
  .split
   .rename_i h6;have h6:k=6:=zo h6
    obtain⟨x,y,r,rfl,_,_⟩:=okB6 h h6;obtain⟨g1,g2,g3,g4⟩:=hl;rw[show hd (zU<|x::y::r)=zy x from rfl,show(zU<|x::y::r).tail=zU (y::r) from rfl];rw[show zU (x::y::r)=zy x::zU (y::r) from rfl] at g1 g2 g3 g4;simp only[okL,oZ] at g1;refine⟨k9 g1.1 g1.2,λhl=>?_,?_,λM hM hb=>?_⟩
    .rw[vz<|.inr h6] at hl;have:=g2 hl;simp only[lvL,oZ] at this;exact kF this.1 this.2
    .have:=xX (zy x)<|zU<|y::r
     simp only[Tm.szs] at g3;simp only[Tm.sz,Tm.szs];omega
    .have:=g4 M hM hb.2;exact Y0 this.1 this.2
   .exact⟨h,λhl=>hl,r6 _,λM _ hb=>hb⟩
theorem KA:∀l:List Tm,okL l=true->okL (zU l)=true/\(lvL l=true->lvL (zU l)=true)/\Tm.szs (zU l)<=Tm.szs l/\∀M,1<=M->bds M l->bds M (zU l)
 |[],_=>⟨rfl,λ_=>rfl,r6 _,λ_ _ _=>trivial⟩
 |t::l,h=>by
  simp only[okL,oZ] at h;obtain⟨a1,a2,a3,a4⟩:=w6 t h.1;obtain⟨b1,b2,b3,b4⟩:=KA l h.2;refine⟨by simp only[zU,okL,a1,b1,tq],λhl=>?_,by simp only[zU,Tm.szs];omega,λM hM hb=>⟨a4 M hM hb.1,b4 M hM hb.2⟩⟩;simp only[lvL,oZ] at hl;simp only[zU,lvL,a2 hl.1,b2 hl.2,tq]
end
theorem c_efree (t:Tm)(i:Int)(hs:t.sz<=B)(h0:0-2305843009213693952<=i)(h1:i+t.sz<=2305843009213693952):AC rc 78 [aT t,ci i] [] (cb<|validB t&&decide (occF t i>0)) []:=by
 have h:=ib t hs i h0 h1;obtain⟨k,s,n,l⟩:=t;refine acv (v78 k s n (FTs l) i _ _) ?_;refine⟨_,h,zH ?_⟩;cases validB (.mk k s n l) with
 |false=>rfl
 |true=>simp
theorem lastI (x:Tm)(a:List Tm)(z:Tm)(hl:a.length<=SZ):wrap .i64 ((((FTs<|x::a++[z]).length:Nat):Int)-1)=((x::a).length:Int):=by
 rw[zq];simp only[SZ] at hl;rw[w64 zj zj];simp
theorem KJ:∀(b a acc:List Tm),acc≠[]->acc.length=a.length->(∀u∈b,AC rc 36 [aT u] [] (aT<|zy u) [])->(a++b).length<=SZ->(hd<|acc++zU b).l.length<=B->
  RPt rc 36 0 (aT<|applyF (hd<|acc++zU b) (acc++zU b).tail) [] 3 ⟨[(2,.c<|.a<|.ep 0 4 0 0),(6,.c<|.a<|.osl 1 4 0 acc.length),(30,aL<|a++b),(31,ci (((FTs<|a++b).length:Nat):Int)),(32,ci a.length)],[(0,.arr 4 [zT]),(1,.arz 4<|FTs acc)],2⟩
 |[],a,acc,hne,hlen,_,hl,hh=>by
  simp only[zU,rp] at hh hl ⊢;refine rpv (v36_3b ..) ?_
  match acc,hne,hlen,hh with
  |x::r,_,hlen,hh=>
   simp only[SZ,B,r5] at hl hlen hh;have hh:x.l.length<=549755813888:=hh;have hap:=wX x r za
   have e2:take (Int.toNat ((x::r).length:Int)-1) (drop 1<|FTs<|x::r)=FTs r:=by
    rw[X3,bZ,ro<|by rw[zq];simp];rfl
   have e1:aE (getD (FTs<|x::r) 0 [])=aT x:=vP x;rw[e2,e1];refine bF (by rw[zq];omega) ⟨⟨za,zb⟩,⟨by rw[zq];simp,?_,rfl⟩,⟨za,zj,ru _⟩,⟨rfl,by rw[X3,zq];simp;omega⟩,_,hap.args ⟨.refl _,le_c leSl,trivial⟩,KR<|.refl _⟩;rw[show getD (FTs<|x::r) 0 []=FT x from rfl,uI,sH,ro<|by rw[Xb];exact r6 _]
 |t::b,a,acc,hne,hlen,ih,hl,hh=>by
  have hl':=hl;simp only[re,r5,SZ] at hl';have h1:=ih t r7;have h2:=KJ b (a++[t]) (acc++[zy t]) zb (by simp[hlen]) (λu hu=>ih u<|r9 _ hu) (by rw[ap];exact hl) (by rw[ap];exact hh);have h3:=ltI' a t b;rw[ap,ap,nx] at h2;rw[zU];refine rpv (v36_3b ..) ?_;rw[Kc,w64 (x:=(a.length:Int)+1) za za];refine bT h3 ⟨⟨rfl,za,h3,XI ..⟩,zy t,h1,r6 _,⟨by rw[zq];omega,uc za⟩,?_⟩;have e5:take acc.length (FTs acc)++[FT4<|zy t]=FTs (acc++[zy t]):=by rw[ro<|by rw[zq];omega,vT,xB];rfl
  rw[e5];rw[re] at h2;exact h2
theorem ym {k n:Int}{s:List UInt8}{l:List Tm}(h:validB (.mk k s n l)=true)(hk:k=5\/k=6):∀u∈l,validB u=true:=λu hu=>by
 rw[wF,oZ] at h ⊢;have h1:=Ky h.1;have h2:=h.2;rw[vz hk] at h2;exact⟨um h1 hu,je h2 hu⟩
abbrev noI:Inf:=⟨0,false,noT⟩
def iD (V:List Inf)(x:Int):Inf:=if 0<=x/\x<(V.length:Int) then(V[x.toNat]?).getD noI else noI
def laD:La:=.con 0 0 []
def apps (f:La)(l:List La):La:=l.foldl .app f
def mkL (k n:Int)(s:List UInt8)(l:List La):La:=
 if k=5 then .lam (l.headD laD) else if k=6 then apps (l.headD laD) l.tail else if k=3 then .bv n.toNat else if k=4 then .var n else .con k n s
mutual
def toL:Tm->La
 |.mk k s n l=>mkL k n s<|toLs l
def toLs:List Tm->List La
 |[]=> []
 |t::l=>toL t::toLs l
end
theorem y8:∀l:List Tm,toLs l=l.map toL
 |[]=>rfl
 |t::l=>by rw[toLs,y8 l];rfl
theorem xx (f:La)(a b:List La):apps f (a++b)=apps (apps f a) b:=by simp[apps]
theorem w9 (f a:La)(l:List La):apps f (a::l)=apps (.app f a) l:=rfl
theorem nK (l:List Tm):(toLs l).headD laD=toL (hd l):=by
 cases l with
 |nil=>rfl
 |cons t l=>rfl
theorem gF (l:List Tm):(toLs l).tail=toLs l.tail:=by cases l<;>rfl
theorem wb {s:List UInt8}{n:Int}{l:List Tm}:toL (.mk 6 s n l)=apps (toL<|hd l) (toLs l.tail):=by
 rw[toL,mkL,oV zc,oX rfl,nK,gF]
theorem yQ {s:List UInt8}{n:Int}{l:List Tm}:toL (.mk 5 s n l)=.lam (toL<|hd l):=by
 rw[toL,mkL,oX rfl,nK]
theorem yY {s:List UInt8}{n:Int}{l:List Tm}:toL (.mk 3 s n l)=.bv n.toNat:=by
 rw[toL,mkL,oV zc,oV zc,oX rfl]
theorem wO {s:List UInt8}{n:Int}{l:List Tm}:toL (.mk 4 s n l)=.var n:=by
 rw[toL,mkL,oV zc,oV zc,oV zc,oX rfl]
theorem Z5 {k n:Int}{s:List UInt8}{l:List Tm}(h5:k≠5)(h6:k≠6)(h3:k≠3):toL (.mk k s n l)=.var n\/toL (.mk k s n l)=.con k n s:=by
 rw[toL,mkL,oV h5,oV h6,oV h3];split
 .exact .inl rfl
 .exact .inr rfl
theorem WJ (a b:List Tm):toLs (a++b)=toLs a++toLs b:=by simp[y8]
theorem yL (f:Tm)(l:List Tm):toL (applyF f l)=apps (toL f) (toLs l):=by
 cases l with
 |nil=>rfl
 |cons x a=>
  by_cases h:(f.k==6)=true/\f.l≠[]
  .rw[show applyF f (x::a)=.mk 6 [] 0 (f.l++(x::a)) from oX h,wb];obtain⟨k,s,n,l⟩:=f;have h6:k=6:=rT.1 h.1;subst h6
   obtain⟨y,b,rfl⟩:∃y b,l=y::b:=by
    cases l with
    |nil=>exact absurd rfl h.2
    |cons y b=>exact⟨y,b,rfl⟩
   rw[wb,<-xx,<-WJ];rfl
  .rw[show applyF f (x::a)=.mk 6 [] 0 (f::(x::a)) from oV h,wb];rfl
theorem toL_with {t:Tm}{out:List Tm}(hk:t.k=5\/t.k=6):toL (vq t out)=mkL t.k t.n t.s (toLs out):=by
 unfold vq;split
 .rename_i q;have h6:t.k=6:=zo q.1
  rw[yL,mkL,h6,oV zc,oX rfl,nK,gF];rfl
 .rw[toL]
def La.sh:La->Nat->Nat->La
 |.con k n s,_,_=>.con k n s
 |.var x,_,_=>.var x
 |.bv n,j,k=>if n<k then .bv n else .bv<|n+j
 |.lam b,j,k=>.lam<|b.sh j<|k+1
 |.app f a,j,k=>.app (f.sh j k)<|a.sh j k
theorem La.sh_zero:∀(t:La) (k:Nat),t.sh 0 k=t
 |.con _ _ _,_=>rfl
 |.var _,_=>rfl
 |.bv n,k=>by rw[La.sh];split<;>rfl
 |.lam b,k=>by rw[La.sh,La.sh_zero b]
 |.app f a,k=>by rw[La.sh,La.sh_zero f,La.sh_zero a]
theorem La.sh_succ:∀(t:La) (j k e:Nat),k<=e->e<=k+j->(t.sh j k).lift e=t.sh (j+1) k
 |.con _ _ _,_,_,_,_,_=>rfl
 |.var _,_,_,_,_,_=>rfl
 |.bv n,j,k,e,h1,h2=>by
  rw[La.sh,La.sh];split
  .rw[La.lift,oX za]
  .rw[La.lift,oV za];rfl
 |.lam b,j,k,e,h1,h2=>by rw[La.sh,La.lift,La.sh,La.sh_succ b j (k+1) (e+1) za za]
 |.app f a,j,k,e,h1,h2=>by rw[La.sh,La.lift,La.sh,La.sh_succ f j k e h1 h2,La.sh_succ a j k e h1 h2]
theorem La.sh_one (t:La)(k:Nat):t.sh 1 k=t.lift k:=by
 have:=La.sh_succ t 0 k k (r6 _) za;rw[La.sh_zero] at this;exact this.symm
theorem w8 (k:Nat):∀(l:List La) (f:La),(apps f l).lift k=apps (f.lift k) (l.map λa=>a.lift k)
 |[],f=>rfl
 |a::l,f=>by rw[w9,w8 k l,rO,w9];rfl
theorem mkL_map (g g1:La->La)(hlam:∀b,g (.lam b)=.lam (g1 b))(happ:∀f l,g (apps f l)=apps (g f) (l.map g))(hd0:g laD=laD)(hd1:g1 laD=laD){k n:Int}{s:List UInt8}(hk:k=5\/k=6)(l:List La):
  g (mkL k n s l)=mkL k n s (l.map (if k=5 then g1 else g)):=by
 rcases hk with rfl|rfl
 .rw[mkL,oX rfl,hlam,mkL,oX rfl,oX rfl];cases l with
  |nil=>show La.lam (g1 laD)=.lam laD;rw[hd1]
  |cons a l=>rfl
 .rw[mkL,oV zc,oX rfl,happ,mkL,oV zc,oX rfl,oV zc];cases l with
  |nil=>show apps (g laD) []=apps laD [];rw[hd0]
  |cons a l=>rfl
theorem fQ {k n:Int}{s:List UInt8}{l:List Tm}(hv:validB (.mk k s n l)=true)(h3:k=3):0<=n:=by
 subst h3;rw[validB,oV zc,oV zc,oV zc,oX zc] at hv;simp only[oZ,rL] at hv;exact hv.1.1.1.1
theorem Sts.apps {V:Int->Option La}:∀(l:List La) {f g:La},Sts V f g->Sts V (apps f l) (apps g l)
 |[],_,_,h=>h
 |a::l,_,_,h=>Sts.apps l<|h.appL a
theorem dJ {V:Int->Option La}:∀(a b:List La) (f g:La),Sts V f g->All2 (Sts V) a b->Sts V (apps f a) (apps g b)
 |[],[],_,_,h,_=>h
 |x::a,y::b,f,g,h,h2=>dJ a b (.app f x) (.app g y) (h.app h2.1) h2.2
 |[],_::_,_,_,_,h2=>h2.elim
 |_::_,[],_,_,_,h2=>h2.elim
theorem cL {V:Int->Option La}:∀ {a b:List Tm},All2 (λx y=>Sts V (toL x)<|toL y) a b->All2 (Sts V) (toLs a) (toLs b)
 |[],[],_=>trivial
 |x::a,y::b,h=>⟨h.1,cL h.2⟩
 |[],_::_,h=>h.elim
 |_::_,[],h=>h.elim
theorem Ya {fr by_ k n:Int}{s:List UInt8}{l:List Tm}(d:Int)(hk:k=5\/k=6):shT fr by_ (.mk k s n l) d=.mk k s n (yb (yh fr by_) l<|d+if (k==5)=true then 1 else 0):=pm _ (bM fr by_) k s n l d (by rcases hk with rfl|rfl<;>rfl)
theorem Yq {fr by_ k n:Int}{s:List UInt8}{l:List Tm}(d:Int)(h5:k≠5)(h6:k≠6):shT fr by_ (.mk k s n l) d=yh fr by_ (.mk k s n l) d:=pz _ k s n l d (by simp[h5,h6])
theorem shT_k (fr by_:Int)(t:Tm)(d:Int):(shT fr by_ t d).k=t.k:=i6 _ (bM fr by_) t d
theorem walkL_hd (fr by_:Int)(l:List Tm)(d:Int):(hd<|yb (yh fr by_) l d).k=(hd l).k:=by
 cases l with
 |nil=>rfl
 |cons x l=>exact shT_k fr by_ x d
theorem JL (lf:Tm->Int->Tm)(d:Int):∀a b:List Tm,yb lf (a++b) d=yb lf a d++yb lf b d
 |[],_=>rfl
 |x::a,b=>by simp only[sk,yb,JL lf d a b]
mutual
theorem Wb (fr by_:Int):∀(t:Tm) (d:Int),normB (shT fr by_ t d)=normB t
 |.mk k s n l,d=>by
  by_cases hk:k=5\/k=6
  .rw[Ya d hk,normB,normB,Yz fr by_ l];congr 2;show(k==6&&(hd<|yb (yh fr by_) l<|d+if (k==5)=true then 1 else 0).k==5)=(k==6&&(hd l).k==5)
   rw[walkL_hd]
  .have h5:k≠5:=λe=>hk<|.inl e
   have h6:k≠6:=λe=>hk<|.inr e
   rw[Yq d h5 h6];unfold yh;split<;>rfl
theorem Yz (fr by_:Int):∀(l:List Tm) (d:Int),xp (yb (yh fr by_) l d)=xp l
 |[],_=>rfl
 |t::l,d=>by
  have:=Wb fr by_ t d;rw[yb,xp,xp,Yz fr by_ l d];exact t8 (· && _) this
end
mutual
theorem JX:∀(t:Tm) (e j:Int),occF t e=0->j<e->occF (shT 0 (-1) t e) j=occF t j
 |.mk k s n l,e,j,ho,hj=>by
  by_cases hk:k=5\/k=6
  .have h3:¬(k==3)=true:=by rcases hk with rfl|rfl<;>decide
   have a1:∀i,¬((k==3)=true/\(n==i)=true):=λi q=>h3 q.1;rw[occF,oV<|a1 e] at ho;rw[Ya e hk,occF,occF,oV<|a1 j,oV<|a1 j];exact qV l _ _ ho za
  .have h5:k≠5:=λe=>hk<|.inl e
   have h6:k≠6:=λe=>hk<|.inr e
   rw[Yq e h5 h6];by_cases h3:k=3
   .subst h3;have hne:n≠e:=λq=>by rw[occF,oX ⟨rfl,by simp[q]⟩] at ho;cases ho
    unfold yh;by_cases hc:e+0<=n
    .rw[oX ⟨rfl,hc⟩];show occF (.mk 3 s (n+ -1) l) j=_;have a1:¬(((3:Int)==3)=true/\(n+ -1==j)=true):=λq=>by have:=q.2;simp at this;omega
     have a2:¬(((3:Int)==3)=true/\(n==j)=true):=λq=>by have:=q.2;simp at this;omega
     rw[occF,occF,oV a1,oV a2]
    .rw[oV λq=>hc q.2]
   .have h3':¬(k==3)=true:=zo h3
    unfold yh;rw[oV λq=>h3' q.1]
theorem qV:∀(l:List Tm) (e j:Int),occL l e=0->j<e->occL (yb (yh 0 (-1)) l e) j=occL l j
 |[],_,_,_,_=>rfl
 |t::l,e,j,ho,hj=>by
  simp only[occL] at ho;have h1:=JX t e j za hj;have h2:=qV l e j za hj;rw[yb,occL,occL,h2];exact t8 (· +_) h1
end
theorem wU {x:Tm}(hx:x.k≠6)(a:List Tm):applyF x a=if a=[] then x else .mk 6 [] 0 (x::a):=by
 cases a with
 |nil=>rfl
 |cons y r=>
  obtain⟨k,s,n,l⟩:=x;rw[kS,oV λe=>hx (show k=6 by simpa using e.1)];rfl
theorem JW {x:Tm}(hx:x.k≠6)(a:List Tm)(i:Int):occF (applyF x a) i=occF x i+occL a i:=by
 rw[wU hx];split
 next h=>subst h;simp[occL]
 .rw[occF,oV<|by rintro ⟨h,_⟩;cases h];show occL (x::a) (i+0)=_;rw[tu];rfl
theorem ay (k n:Int)(s:List UInt8)(x:Tm)(a:List Tm)(z:Tm):yT (.mk k s n<|x::a++[z])=(k==6&&z.k==3&&z.n==0&&occF (applyF x a) 0==0):=by
 rw[yT,vJ,show Tm.l (.mk k s n<|x::a++[z])=x::a++[z] from rfl,cM];rfl
theorem cW {b:Tm}(h:b.k≠6):yT b=false:=by
 rw[yT,show(b.k==6)=false by simpa using h];rfl
theorem aZ {b:Tm}{e:Int}(hb:okB b=true)(ho:occF b e=0)(he:1<=e):yT (shT 0 (-1) b e)=yT b:=by
 by_cases h6:b.k=6
 .obtain⟨k,s,n,l⟩:=b;have h6:k=6:=h6;subst h6;obtain⟨x,a,z,rfl,hx6,hx,ha,hz⟩:=vS hb rfl;rw[occF,oV<|by rintro ⟨h,_⟩;cases h] at ho;have ho:occL (x::a++[z]) (e+0)=0:=ho;rw[tu] at ho;have hox:=jV ho x r7;have hoz:=jV ho z zb
  have hoa:occL a e=0:=by
   have:∀(p q:List Tm),occL (p++q) e=occL p e+occL q e:=λp q=>by
    induction p with
    |nil=>simp[occL]
    |cons y p ih=>simp only[sk,occL,ih];omega
   rw[this] at ho;simp only[occL] at ho;omega
  rw[Ya e<|.inr rfl];show yT (.mk 6 s n<|yb (yh 0 (-1)) (x::a++[z])<|e+0)=_;rw[tu,JL,yb,yb,yb,ay,ay]
  have e1:occF (applyF (yF (yh 0 (-1)) x e)<|yb (yh 0 (-1)) a e) 0=occF (applyF x a) 0:=by
   rw[JW hx6,JW<|by show(shT 0 (-1) x e).k≠6;rw[shT_k];exact hx6,qV a e 0 hoa za];exact t8 (· +_)<|JX x e 0 hox za
  rw[e1];congr 1;have e2:(yF (yh 0 (-1)) z e).k=z.k:=shT_k 0 (-1) z e;rw[e2];by_cases hz3:z.k=3
  .obtain⟨zk,zs,zn,zl⟩:=z;have hz3:zk=3:=hz3;subst hz3;have hne:zn≠e:=λq=>by rw[occF,oX ⟨rfl,by simp[q]⟩] at hoz;cases hoz
   congr 1;show((shT 0 (-1) (.mk 3 zs zn zl) e).n==0)=(zn==0);rw[Yq e zc zc];unfold yh;split
   next hc=>have hc:e+0<=zn:=hc.2;show(zn+ -1==0)=(zn==0);rw[show(zn+ -1==0)=false by simp;omega,show(zn==0)=false by simp;omega]
   .rfl
  .rw[show(z.k==3)=false by simpa using hz3];simp
 .rw[cW h6,cW<|by rw[shT_k];exact h6]
mutual
def shB:Tm->Bool
 |.mk k _ _ l=>(if (k==5)=true then !yT (hd l) else true)&&shL l
def shL:List Tm->Bool
 |[]=>true
 |t::l=>shB t&&shL l
end
theorem qP:∀ {l:List Tm} {t:Tm},shL l=true->t∈l->shB t=true
 |x::l,t,h,hm=>by
  simp only[shL,oZ] at h;rcases rx.1 hm with rfl|hm
  .exact h.1
  .exact qP h.2 hm
theorem nq:∀ {l:List Tm},(∀t∈l,shB t=true)->shL l=true
 |[],_=>rfl
 |t::l,h=>by simp only[shL,h t r7,nq (l:=l) λu hu=>h u<|r9 _ hu,tq]
theorem shB_l {t:Tm}(h:shB t=true):shL t.l=true:=by
 obtain⟨k,s,n,l⟩:=t;rw[shB,oZ] at h;exact h.2
theorem shB6 {s:List UInt8}{n:Int}{l:List Tm}:shB (.mk 6 s n l)=shL l:=by rw[shB];rfl
mutual
theorem cq:∀(t:Tm) (e:Int),okB t=true->shB t=true->occF t e=0->0<=e->shB (shT 0 (-1) t e)=true
 |.mk k s n l,e,hk,hs,ho,he=>by
  by_cases hin:k=5\/k=6
  .rw[Ya e hin];have h3:¬(k==3)=true:=by rcases hin with rfl|rfl<;>decide
   rw[occF,oV λq=>h3 q.1] at ho;have hb:(0:Int)<=if (k==5)=true then 1 else 0:=by split<;>omega
   have hl:=gL l (e+if (k==5)=true then 1 else 0) (Ky hk) (shB_l hs) ho za
   rw[shB,hl,ti];split
   .rename_i h5;have h5:k=5:=zo h5
    subst h5;obtain⟨x,rfl,hx⟩:=okB5 hk rfl;rw[shB,oZ] at hs;have hd:yT x=false:=not_t hs.1;have hox:occF x (e+1)=0:=jV ho x<|rJ.2 rfl
    show(!yT (shT 0 (-1) x<|e+1))=true;rw[aZ hx hox za,hd];rfl
   .rfl
  .have h5:k≠5:=λe=>hin<|.inl e
   have h6:k≠6:=λe=>hin<|.inr e
   rw[Yq e h5 h6];unfold yh;split
   .show shB (.mk k s (n+ -1) l)=true;rw[shB] at hs ⊢;exact hs
   .exact hs
theorem gL:∀(l:List Tm) (e:Int),okL l=true->shL l=true->occL l e=0->0<=e->shL (yb (yh 0 (-1)) l e)=true
 |[],_,_,_,_,_=>rfl
 |t::l,e,hk,hs,ho,he=>by
  simp only[okL,shL,occL,oZ] at hk hs ho;have h1:=cq t e hk.1 hs.1 za he;have h2:=gL l e hk.2 hs.2 za he;rw[yb,shL,h2,ti];exact h1
end
theorem JU {f:Tm}{a:List Tm}(hf:shB f=true)(ha:shL a=true):shB (applyF f a)=true:=by
 match a,ha with
 |[],_=>exact hf
 |y::r,ha=>
  obtain⟨k,s,n,l⟩:=f;rw[kS];split
  .rw[shB6]
   exact nq λt ht=>by
    rcases rQ.1 ht with ht|ht
    .exact qP (shB_l hf) ht
    .exact qP ha ht
  .rw[shB6];simp only[shL,oZ] at ha ⊢;exact⟨hf,ha⟩
theorem rest_sh {b:Tm}(hb:okB b=true)(hk:b.k=6)(h:shB b=true):shB (uq b)=true:=by
 obtain⟨k,s,n,l⟩:=b;obtain⟨x,a,z,rfl,_⟩:=vS hb hk;rw[vJ];have hl:shL (x::a++[z])=true:=shB_l h;exact JU (qP hl r7)<|nq λu hu=>qP hl<|r9 _<|sE _ hu
mutual
theorem bS:∀t:Tm,okB t=true->shB (zy t)=true
 |.mk k s n l,ho=>by
  have hl:=JY l<|Ky ho
  by_cases h5:k=5
  .subst h5;obtain⟨x,rfl,hx⟩:=okB5 ho rfl;have hsx:shB (zy x)=true:=by simpa[zU,shL] using hl
   have hox:=(w6 x hx).1;rw[zy,oX (show((5:Int)==5)=true from rfl),show hd (zU [x])=zy x from rfl];split
   next hd=>rw[uJ,oX hd];exact cq _ 0 (Wq hox<|oz hd).1 (rest_sh hox (oz hd) hsx) (drop0 hd)<|ru _
   next hd=>rw[shB];show((!yT (zy x))&&shL [zy x])=true;rw[show yT (zy x)=false by simpa using hd];simp[shL,hsx]
  .by_cases h6:k=6
   .subst h6;obtain⟨x,y,r,rfl,hx6,_⟩:=okB6 ho rfl;rw[zy,oV zc,oX (show((6:Int)==6)=true from rfl)];simp only[zU,shL,oZ] at hl;exact JU hl.1 (by simp only[zU,List.tail_cons,shL,oZ];exact hl.2)
   .have:l=[]:=okB0 ho h5 h6;subst this;rw[zy,oV<|zo h5,oV<|zo h6,shB,oV<|zo h5];rfl
theorem JY:∀l:List Tm,okL l=true->shL (zU l)=true
 |[],_=>rfl
 |t::l,ho=>by
  simp only[okL,oZ] at ho;rw[zU,shL,bS t ho.1,JY l ho.2];rfl
end
theorem norm6 {s:List UInt8}{n:Int}{x:Tm}{l:List Tm}(hx:x.k≠5)(h:xp (x::l)=true):normB (.mk 6 s n<|x::l)=true:=by
 rw[normB,h,ti];show(!(6==6&&x.k==5))=true;rw[show(x.k==5)=false by simpa using hx];rfl
theorem uS {s:List UInt8}{n:Int}{x:Tm}{l:List Tm}(h:normB (.mk 6 s n<|x::l)=true):x.k≠5/\xp (x::l)=true:=by
 rw[normB,oZ] at h;refine⟨λe=>?_,h.2⟩;have h1:(!(6==6&&x.k==5))=true:=h.1;rw[e] at h1;cases h1
theorem Y8:∀a b:List Tm,xp (a++b)=(xp a&&xp b)
 |[],_=>rfl
 |x::a,b=>by rw[sk,xp,xp,Y8 a b,Bool.and_assoc]
theorem mc {b:Tm}(hb:okB b=true)(hk:b.k=6)(h:normB b=true):normB (uq b)=true:=by
 obtain⟨k,s,n,l⟩:=b;have hk:k=6:=hk;subst hk;obtain⟨x,a,z,rfl,hx6,_⟩:=vS hb rfl;rw[vJ,wU hx6];obtain⟨h5,hl⟩:=uS (x:=x) (l:=a++[z]) h;rw[xp,Y8] at hl;simp only[oZ] at hl;split
 .exact hl.1
 .exact norm6 h5 (by rw[xp,hl.1,hl.2.1];rfl)
mutual
theorem qX:∀t:Tm,okB t=true->normB t=true->normB (zy t)=true
 |.mk k s n l,ho,hn=>by
  have hnl:xp l=true:=by rw[normB,oZ] at hn;exact hn.2
  have hl:=Ys l (Ky ho) hnl;by_cases h5:k=5
  .subst h5;obtain⟨x,rfl,hx⟩:=okB5 ho rfl;have hsx:normB (zy x)=true:=by simpa[zU,xp] using hl
   have hox:=(w6 x hx).1;rw[zy,oX (show((5:Int)==5)=true from rfl),show hd (zU [x])=zy x from rfl];split
   next hd=>rw[uJ,oX hd,Wb];exact mc hox (oz hd) hsx
   .rw[normB];simp[xp,hsx,mi,Tm.k]
  .by_cases h6:k=6
   .subst h6;obtain⟨x,y,r,rfl,hx6,hxl⟩:=okB6 ho rfl;obtain⟨hx5,_⟩:=uS hn
    have hx:zy x=x:=by
     obtain⟨xk,xs,xn,xl⟩:=x;have h5:xk≠5:=hx5;have h6:xk≠6:=hx6;rw[zy,oV<|zo h5,oV<|zo h6]
    rw[zy,oV zc,oX (show((6:Int)==6)=true from rfl)];rw[zU,hx] at hl ⊢;show normB (applyF x<|zU<|y::r)=true;rw[wU hx6,oV<|by simp[zU]];exact norm6 hx5 hl
   .rw[zy,oV<|zo h5,oV<|zo h6];exact hn
theorem Ys:∀l:List Tm,okL l=true->xp l=true->xp (zU l)=true
 |[],_,_=>rfl
 |t::l,ho,hn=>by
  simp only[okL,xp,oZ] at ho hn;rw[zU,xp,qX t ho.1 hn.1,Ys l ho.2 hn.2];rfl
end
mutual
def ubB (s:Sto):Tm->Bool
 |.mk k _ n l=> !(k==4&&(iD s.V n).bd)&&ubL s l
def ubL (s:Sto):List Tm->Bool
 |[]=>true
 |t::l=>ubB s t&&ubL s l
end
mutual
def vis:Tm->Nat
 |.mk k _ _ l=>1+visT (k==5) l
def visT:Bool->List Tm->Nat
 |_,[]=>0
 |b,t::l=>(if b=true then vis t else 0)+visT true l
end
theorem vis_pos (t:Tm):1<=vis t:=by cases t;rw[vis];omega
theorem visT_app (a b:List Tm):visT true (a++b)=visT true a+visT true b:=by
 induction a with
 |nil=>simp[visT]
 |cons x a ih=>rw[sk,visT,visT,ih];omega
theorem Kd (l:List Tm):visT false l=visT true (l.drop 1):=by
 cases l with
 |nil=>rfl
 |cons x l=>rw[visT];simp
theorem fZ (s:Sto):∀a b:List Tm,ubL s (a++b)=(ubL s a&&ubL s b)
 |[],_=>rfl
 |x::a,b=>by rw[sk,ubL,ubL,fZ s a b,Bool.and_assoc]
mutual
theorem dG (s:Sto)(fr by_:Int):∀(t:Tm) (d:Int),ubB s (shT fr by_ t d)=ubB s t/\vis (shT fr by_ t d)=vis t
 |.mk k str n l,d=>by
  by_cases hk:k=5\/k=6
  .have:=Ku s fr by_ l<|d+if (k==5)=true then 1 else 0
   rw[Ya d hk,ubB,ubB,vis,vis,this.1,this.2];exact⟨rfl,rfl⟩
  .have h5:k≠5:=λe=>hk<|.inl e
   have h6:k≠6:=λe=>hk<|.inr e
   rw[Yq d h5 h6];unfold yh;split
   .rename_i q;have h3:(k==3)=true:=q.1;have h3:k=3:=zo h3
    subst h3;exact⟨rfl,rfl⟩
   .exact⟨rfl,rfl⟩
theorem Ku (s:Sto)(fr by_:Int):∀(l:List Tm) (d:Int),ubL s (yb (yh fr by_) l d)=ubL s l/\∀b,visT b (yb (yh fr by_) l d)=visT b l
 |[],_=>⟨rfl,λ_=>rfl⟩
 |t::l,d=>by
  have h1:=dG s fr by_ t d;have h2:=Ku s fr by_ l d;have e1:ubB s (yF (yh fr by_) t d)=ubB s t:=h1.1;have e2:vis (yF (yh fr by_) t d)=vis t:=h1.2;refine⟨by rw[yb,ubL,ubL,e1,h2.1],λb=>by rw[yb,visT,visT,e2,h2.2]⟩
end
theorem ub_rest (s:Sto){b:Tm}(hb:okB b=true)(hk:b.k=6)(hn:normB b=true)(h:ubB s b=true):ubB s (uq b)=true/\vis (uq b)<=vis b:=by
 obtain⟨k,str,n,l⟩:=b;have hk:k=6:=hk;subst hk;obtain⟨x,a,z,rfl,hx6,hx,_⟩:=vS hb rfl;obtain⟨h5,_⟩:=uS (x:=x) (l:=a++[z]) hn;rw[vJ,wU hx6];rw[ubB,oZ] at h;have hl:ubL s ((x::a)++[z])=true:=h.2;rw[fZ,oZ] at hl
 have e:vis (.mk 6 str n<|x::a++[z])=1+(visT true a+vis z):=by
  rw[vis,show((6:Int)==5)=false from rfl,Kd];show 1+visT true (a++[z])=_;rw[visT_app];simp[visT]
 rw[e];have hz:=vis_pos z;split
 .have:=hl.1;rw[ubL,oZ] at this;refine⟨this.1,?_⟩;obtain⟨xk,xs,xn,xl⟩:=x;have h0:=okB0 hx h5 hx6;subst h0;rw[vis];simp only[visT];omega
 .refine⟨by rw[ubB,hl.1];rfl,?_⟩;rw[vis,show((6:Int)==5)=false from rfl,Kd];show 1+visT true a<=_;omega
mutual
theorem bh (s:Sto):∀t:Tm,okB t=true->normB t=true->ubB s t=true->ubB s (zy t)=true/\vis (zy t)<=vis t
 |.mk k str n l,ho,hn,hu=>by
  have hnl:xp l=true:=by rw[normB,oZ] at hn;exact hn.2
  have hul:ubL s l=true:=by rw[ubB,oZ] at hu;exact hu.2
  have hl:=KG s l (Ky ho) hnl hul;by_cases h5:k=5
  .subst h5;obtain⟨x,rfl,hx⟩:=okB5 ho rfl;have hsx:ubB s (zy x)=true:=by simpa[zU,ubL] using hl.1
   have hvx:vis (zy x)<=vis x:=by have:=hl.2;simpa[zU,visT] using this
   have hox:=(w6 x hx).1;have hnx:normB (zy x)=true:=qX x hx (by simpa[xp] using hnl);have e:vis (.mk 5 str n [x])=1+vis x:=by rw[vis];simp[visT]
   rw[zy,oX (show((5:Int)==5)=true from rfl),show hd (zU [x])=zy x from rfl,e];split
   next hd=>have hr:=ub_rest s hox (oz hd) hnx hsx;have hs:=dG s 0 (-1) (uq<|zy x) 0;rw[uJ,oX hd,hs.1,hs.2];exact⟨hr.1,za⟩
   .refine⟨by rw[ubB,ubL,ubL,hsx];rfl,?_⟩;rw[vis];simp only[visT,beq_self_eq_true,rG];omega
  .by_cases h6:k=6
   .subst h6;obtain⟨x,y,r,rfl,hx6,hxl⟩:=okB6 ho rfl;obtain⟨hx5,_⟩:=uS hn
    have hx:zy x=x:=by
     obtain⟨xk,xs,xn,xl⟩:=x;have h5:xk≠5:=hx5;have h6:xk≠6:=hx6;rw[zy,oV<|zo h5,oV<|zo h6]
    rw[zy,oV zc,oX (show((6:Int)==6)=true from rfl)];rw[zU,hx] at hl ⊢;show ubB s (applyF x<|zU<|y::r)=true/\vis (applyF x<|zU<|y::r)<=_;rw[wU hx6,oV<|by simp[zU]];refine⟨by rw[ubB,hl.1];rfl,?_⟩;have h2:=hl.2;rw[visT,visT] at h2;rw[vis,vis,visT,visT];simp only[show((6:Int)==5)=false from rfl,rG,rF,rN] at h2 ⊢;omega
   .rw[zy,oV<|zo h5,oV<|zo h6];exact⟨hu,r6 _⟩
theorem KG (s:Sto):∀l:List Tm,okL l=true->xp l=true->ubL s l=true->ubL s (zU l)=true/\visT true (zU l)<=visT true l
 |[],_,_,_=>⟨rfl,r6 _⟩
 |t::l,ho,hn,hu=>by
  simp only[okL,xp,ubL,oZ] at ho hn hu;have h1:=bh s t ho.1 hn.1 hu.1;have h2:=KG s l ho.2 hn.2 hu.2;refine⟨by rw[zU,ubL,h1.1,h2.1];rfl,?_⟩;rw[zU,visT,visT];simp only[rG];omega
end
theorem ubL_iff {s:Sto}{l:List Tm}:ubL s l=true↔∀u∈l,ubB s u=true:=by
 induction l with
 |nil=>exact⟨(λ_ u hu=>nomatch hu),λ_=>rfl⟩
 |cons x l ih=>
  rw[ubL,oZ,ih];exact⟨λh u hu=>(rx.1 hu).elim (λe=>e▸h.1)<|h.2 u,λh=>⟨h x r7,λu hu=>h u<|r9 _ hu⟩⟩
theorem mG {l:List Tm}:xp l=true↔∀u∈l,normB u=true:=by
 induction l with
 |nil=>exact⟨(λ_ u hu=>nomatch hu),λ_=>rfl⟩
 |cons x l ih=>
  rw[xp,oZ,ih];exact⟨λh u hu=>(rx.1 hu).elim (λe=>e▸h.1)<|h.2 u,λh=>⟨h x r7,λu hu=>h u<|r9 _ hu⟩⟩
theorem J6:∀ {l:List Tm},l≠[]->uA l∈l
 |[],h=>absurd rfl h
 |[a],_=>r7
 |a::b::l,_=>by
  have:=J6 (l:=b::l) zb;show uA (a::b::l)∈a::b::l;exact r9 _ this
end Go.AM
