/- Laws, part 3. No conditions. -/
import Derived.Test.YtbpjamookpnilaaGreatPart2
import Derived.Test.YtbpjamookpnilaaGreatShelf
set_option linter.all false
set_option maxRecDepth 100000
open Go Go.Proofs
open Go.IntKind (wrap)
open List (getD take drop)
namespace Go.AM
abbrev RW:=List<|List FV
abbrev LA:=List AObj
abbrev LU:=List UInt8
abbrev LV:=List<|Nat×List Nat
abbrev RT (a:TV)(b:List AObj)(r:TV)(H:List AObj):Prop:=TV.Le a r/\b=H
open List (getD length take drop)
open Int (toNat)
abbrev Q0 (a:FV):WV:=.a<|.fz a
abbrev Q1 (a:Int):FV:=.int .i64 a
abbrev Q2 (a:Int):WV:=Q0<|Q1 a
abbrev Q3 (a:Nat)(b:RW):FV:=.sl false a b
abbrev Q4 (a b c d:Nat):WV:=.a<|.osl a b c d
abbrev Q5 (a:Nat)(b:WV):Nat×TV:=(a,.c b)
abbrev Q6 (a:Bool):WV:=Q0<|.bool a
abbrev Q7 (a:LU):WV:=Q0<|.str a
abbrev Q8 (a:Nat)(b:RW):WV:=Q0<|Q3 a b
abbrev Q9 (a:Nat)(b:List TV)(c:LA)(d:TV)(e:LA):Prop:=AC tB a b c d e
abbrev Q10 (a:Nat)(b:List WV):AObj:=.arr a [b]
abbrev Q11 (a b c d:Nat):WV:=.a<|.ep a b c d
abbrev Q14 (a:Int)(b:LU)(c:Int)(d:WV):List WV:=[Q2 a,Q7 b,Q2 c,d]
abbrev Q15 (a:Nat)(b:Int):Nat×TV:=Q5 a<|Q2 b
abbrev Q16 (a b:Nat)(c:List WV):Nat×AObj:=(a,Q10 b c)
abbrev Q17 (a:List WV):Bool×(List WV):=(false,a)
abbrev Q18 (a:Int)(b:LU)(c:Int)(d:WV):TV:=.agg<|Q14 a b c d
abbrev Q20 (a:Int):TV:=.c<|Q2 a
abbrev Q22 (a:WV)(b c d e:Nat):List WV:=[a,Q4 b c d e]
abbrev Q23 (a:Nat)(b:WV)(c d e f:Nat):AObj:=Q10 a<|Q22 b c d e f
abbrev Q25 (a:Bool):TV:=.c<|Q6 a
abbrev Q26  :WV:=Q0 .N
abbrev Q27 (a b:Nat)(c:RW):Nat×AObj:=(a,.arz b c)
abbrev Q29 (a b:AObj)(c:Nat)(d:RW):LA:=[a,b,.arz c d]
abbrev Q30 (a:Bool)(b:LA)(c:TV)(d:LA):Prop:=RT (Q25 a) b c d
abbrev Q31 (a b:WV)(c:Int)(d:WV)(e:Int)(f:WV):List WV:=[a,b,Q2 c,d,Q2 e,f]
abbrev Q33 (a:List<|Bool×(List WV))(b:LA)(c:TV)(d:LA):Prop:=RT (.tup a) b c d
abbrev Q34 (a:Int):List WV:=[Q2 a]
abbrev Q35 (a b:Nat)(c:Int)(d:LU)(e:Int)(f:WV):Nat×AObj:=Q16 a b<|Q14 c d e f
abbrev Q36 (a:Int):Bool×(List WV):=Q17<|Q34 a
abbrev Q37 (a:WV)(b c:Int)(d:WV)(e:Int)(f:WV):List WV:=Q31 a (Q2 b) c d e f
abbrev Q39 (a:List WV):Bool×(List WV):=(true,a)
abbrev Q40 (a:RW):AObj:=.arz 6 a
abbrev Q42 (a b:Nat)(c:RW):Nat×TV:=Q5 a<|Q8 b c
abbrev Q43 (a:Nat)(b:List TV)(c:LA)(d:Bool)(e:LA):Prop:=Q9 a b c (Q25 d) e
abbrev Q44  :WV:=Q6 false
abbrev Q45 (a:Nat)(b:WV)(c d:Int)(e:WV)(f:Int)(g:WV):AObj:=Q10 a<|Q37 b c d e f g
abbrev Q47 (a b c:Nat):Nat×TV:=Q5 a<|Q11 b c 0 0
abbrev Q48 (a:List WV)(b:Bool×(List WV)):List (Bool×(List WV)):=[Q39 a,b]
abbrev Q49 (a:Nat):Nat×AObj:=(a,.gone)
abbrev Q50 (a:Bool)(b:TV)(c:LA):Prop:=Q30 a [] b c
abbrev Q51 (a b:Nat)(c:TV)(d:LA)(e:Nat)(f:List<|Nat×TV)(g:List<|Nat×AObj)(h:Nat):Prop:=RPt tB a b c d e ⟨f,g,h⟩
abbrev Q52 (a:RW):AObj:=.arz 1 a
abbrev Q53 (a:RW):WV:=Q8 4 a
abbrev Q54 (a:Int)(b:LA)(c:TV)(d:LA):Prop:=RT (Q20 a) b c d
abbrev Q55 (a b:List WV):List (Bool×(List WV)):=Q48 a<|Q17 b
abbrev Q56 (a:Int)(b c d e f g h i:WV):List WV:=[Q2 a,b,c,d,e,f,g,h,i]
abbrev Q57 (a:TV)(b:LA):Prop:=Q50 false a b
abbrev Q59 (a b:WV)(c:Int):List WV:=[a,b,Q2 c]
abbrev Q60 (a:Nat)(b:List TV)(c:LA)(d:List<|Bool×(List WV))(e:LA):Prop:=Q9 a b c (.tup d) e
abbrev Q65 (a b c d:Nat):AObj:=Q23 2 (Q4 a 6 0 b) c 1 0 d
abbrev Q66 (a:AObj)(b:Nat)(c:RW):LA:=Q29 a .gone b c
abbrev Q68 (a b c d:Nat)(e:WV)(f:Int):List WV:=Q59 (Q11 a b c d) e f
abbrev Q69 (a:RW):TV:=.c<|Q53 a
abbrev Q70 (a b c d:Nat)(e:RW)(f:Nat)(g:RW):LA:=Q29 (Q65 a b c d) (Q40 e) f g
abbrev Q71 (a:Int)(b:LU)(c:Int)(d:RW):TV:=Q18 a b c<|Q8 4 d
abbrev Q74 (a:Nat)(b:List TV)(c:LA)(d:Int)(e:LA):Prop:=Q9 a b c (Q20 d) e
abbrev Q75 (a b:Nat)(c:Int)(d:LU)(e:Int):Nat×AObj:=Q35 a b c d e Q26
abbrev Q76 (a b c d e:Nat)(f:WV)(g:Int):AObj:=Q10 a<|Q68 b c d e f g
abbrev Q77 (a:Nat)(b:Int)(c d e f:Nat):AObj:=Q23 a (Q2 b) c d e f
abbrev Q78 (a b:Nat)(c:WV)(d e f g:Nat):Nat×AObj:=Q16 a b<|Q22 c d e f g
abbrev Q79  :WV:=Q6 true
abbrev Q81 (a b:Nat):TV:=.c<|Q11 a b 0 0
abbrev Q82 (a b c d e:Nat):Nat×TV:=Q5 a<|Q4 b c d e
abbrev Q83 (a:Nat):TV:=Q81 0 a
abbrev Q84 (a b:List WV)(c:LA)(d:TV)(e:LA):Prop:=Q33 (Q55 a b) c d e
abbrev Q85 (a b:Nat×TV)(c:Nat)(d:Int)(e:Nat)(f:Int):List (Nat×TV):=[a,b,Q15 c d,Q15 e f]
abbrev Q87 (a b:Nat):Nat×TV:=Q47 a b 4
abbrev Q88 (a:AObj)(b:Nat)(c:RW):LA:=[a,.arz b c]
abbrev Q89 (a:TV)(b:WV):List TV:=[a,.c b]
abbrev Q91 (a:Nat)(b:List TV)(c:Bool):Prop:=Q43 a b [] c []
abbrev Q92 (a:Int)(b:LU)(c:Int)(d:RW):List WV:=Q14 a b c<|Q53 d
abbrev Q94 (a:TV)(b:Int):List TV:=[a,Q20 b]
abbrev Q95 (a:Nat)(b c:TV):List TV:=[Q83 a,b,c]
abbrev Q96 (a b c d e f g h i:Nat)(j:Int):AObj:=Q76 a b c d e (Q4 f g h i) j
abbrev Q97 (a b:Bool×(List WV))(c:Int):List (Bool×(List WV)):=[a,b,Q36 c]
abbrev Q100 (a:Int):AObj:=Q10 1<|Q34 a
abbrev Q101 (a:Int):LA:=[Q100 a]
abbrev Q105 (a:Nat):Nat×TV:=Q5 a Q26
abbrev Q107 (a b:Nat):AV:=.ep a b 0 0
abbrev Q108 (a:Nat):AV:=Q107 a 1
abbrev Q109 (a b c d e:Nat×TV)(f:Nat)(g:Int):List (Nat×TV):=[a,b,c,d,e,Q15 f g]
abbrev Q110 (a b c d e:Nat)(f g:Int)(h:RW)(i j:Int):AObj:=Q45 a (Q11 b c d e) f g (Q53 h) i<|Q2 j
abbrev Q111 (a:Nat)(b:Int)(c d e f g:Nat)(h:RW):LA:=Q66 (Q77 a b c d e f) g h
abbrev Q112 (a:Nat)(b:LU)(c d e f:Int)(g:Nat)(h:RW):LA:=[Q45 a (Q7 b) c d (Q2 e) f<|Q8 g h]
abbrev Q113 (a b c:WV):List WV:=[a,Q44,b,c]
abbrev Q114 (a b:WV):List WV:=Q113 a Q44 b
abbrev Q115 (a b c d:Nat×TV)(e:Nat)(f:Int):List (Nat×TV):=[a,b,c,d,Q15 e f]
abbrev Q116 (a b c d e f g h i j:Nat):Nat×AObj:=Q78 a b (Q4 c d e f) g h i j
abbrev Q117 (a:Int)(b c d e f g h:WV)(i:RW):List WV:=Q56 a b c d e f g h<|Q53 i
abbrev Q118 (a:Nat)(b:RW):Nat×TV:=Q42 a 4 b
abbrev Q119 (a:Nat)(b:Int)(c:LU)(d:Int)(e:RW):AObj:=Q10 a<|Q92 b c d e
abbrev Q120  :AV:=Q108 0
abbrev Q121 (a:Nat×TV)(b:Nat)(c:WV)(d:Nat)(e:Int)(f:Nat)(g:Int):List (Nat×TV):=Q85 a (Q5 b c) d e f g
abbrev Q122 (a:RW)(b:WV):List TV:=Q89 (Q69 a) b
abbrev Q125 (a:Int)(b:LU)(c:Int)(d:RW):List TV:=[Q71 a b c d]
abbrev Q126 (a b c d:Nat):List WV:=[Q4 a b c d]
abbrev Q127 (a b c d e:Nat):AObj:=Q10 a<|Q126 b c d e
abbrev Q129 (a b:Nat)(c:Int):Nat×AObj:=Q16 a b<|Q34 c
abbrev Q130 (a:Int)(b c d e f g h:WV)(i:RW):TV:=.agg<|Q117 a b c d e f g h i
abbrev Q137 (a:WV):Bool×(List WV):=Q17 [a]
abbrev Q138 (a:Int)(b:LU)(c:Int)(d:FV):TV:=Q18 a b c<|Q0 d
abbrev Q139 (a b:Nat)(c:WV)(d e:Int)(f:WV)(g:Int)(h:WV):Nat×AObj:=Q16 a b<|Q37 c d e f g h
abbrev Q140  :Bool×(List WV):=Q137 Q26
abbrev Q141 (a:WV):List WV:=Q114 a Q79
abbrev Q142 (a b c d e:Nat)(f g:Int)(h:RW)(i j:Int)(k l m n:Nat)(o p:RW):LA:=[Q110 a b c d e f g h i j,Q65 k l m n,Q40 o,Q52 p]
abbrev Q143 (a:TV)(b:Nat):List TV:=[a,Q83 b]
abbrev Q144 (a:Int)(b:AObj):LA:=[Q100 a,b]
abbrev Q145 (a b c d e f:Nat×TV)(g:Nat)(h:Int):List (Nat×TV):=[a,b,c,d,e,f,Q15 g h]
abbrev Q146 (a b:WV):List TV:=Q89 (.c a) b
abbrev Q147 (a b c d e:AObj):LA:=[a,b,.gone,c,d,e]
abbrev Q151 (a b c d e f:Nat)(g:RW):LA:=Q66 (Q127 a b c d e) f g
abbrev Q152 (a b:Nat)(c:TV)(d:LA)(e:List<|Nat×TV)(f:List<|Nat×AObj)(g:Nat):Prop:=Q51 a b c d 1 e f g
abbrev Q153 (a:Bool×(List WV))(b c:Int):List (Bool×(List WV)):=Q97 a (Q36 b) c
abbrev Q154 (a:AObj)(b c d e:Nat)(f g:RW)(h:Nat)(i:RW):LA:=[a,Q65 b c d e,.gone,.gone,.gone,Q40 f,Q52 g,.arz h i]
abbrev Q155 (a b c d:Nat)(e f:RW):LA:=[Q65 a b c d,.gone,.gone,Q40 e,Q52 f]
abbrev Q156 (a b:Nat):Nat×TV:=Q47 a 0 b
abbrev Q157 (a:Nat)(b:RW):LA:=[.arz a b]
abbrev Q158 (a b c:Nat×TV)(d:Nat)(e:Int)(f:Nat)(g:Int):List (Nat×TV):=Q115 a b c (Q15 d e) f g
abbrev Q159 (a:Int)(b c d e f g h:WV):List WV:=[Q2 a,b,c,d,e,f,g,h]
abbrev Q160 (a:Nat):Nat×TV:=Q156 0 a
abbrev Q161 (a:List WV)(b:Int):List (Bool×(List WV)):=Q48 a<|Q36 b
abbrev Q162 (a b:Nat)(c:TV)(d:LA)(e:Nat×TV)(f:Nat)(g:WV)(h:Nat)(i:Int)(j:Nat)(k:Int)(l:List<|Nat×AObj)(m:Nat):Prop:=Q152 a b c d (Q121 e f g h i j k) l m
abbrev Q164 (a:WV)(b:Int)(c:WV)(d e:Int):List WV:=[a,Q2 b,c,Q2 d,Q2 e]
abbrev Q165 (a:Int)(b c:WV):List WV:=[Q2 a,b,c]
abbrev Q166 (a:Int)(b c:WV):TV:=.agg<|Q165 a b c
abbrev Q167 (a:WV)(b:Int)(c:WV)(d e:Int):TV:=.agg<|Q164 a b c d e
abbrev Q168 (a b c d:Nat):Nat×TV:=Q82 a b c 0 d
abbrev Q169 (a b c:Nat):Nat×TV:=Q168 a b 4 c
abbrev Q170 (a:Int)(b:LU)(c:Int):TV:=Q18 a b c Q26
abbrev Q171  :List WV:=Q141 Q79
abbrev Q172 (a:Nat)(b:FV):Nat×TV:=Q5 a<|Q0 b
abbrev Q173 (a b:TV)(c:Int):List TV:=[a,b,Q20 c]
abbrev Q174 (a:RW):FV:=Q3 4 a
abbrev Q175 (a:Nat)(b:List TV)(c:TV)(d:LA):Prop:=Q9 a b [] c d
abbrev Q176 (a:Nat)(b:List TV)(c:TV):Prop:=Q175 a b c []
abbrev Q177 (a:Nat)(b:TV):List TV:=[Q83 a,b]
abbrev Q178 (a:Nat)(b:List WV):List TV:=Q177 a<|.agg b
abbrev Q179 (a:Int)(b:RW)(c:WV):TV:=Q166 a (Q53 b) c
abbrev Q180 (a:RW):List WV:=[Q53 a]
abbrev Q181 (a:Nat×TV)(b:Nat)(c:Int)(d e f g h i j k l:Nat×TV):List (Nat×TV):=[a,Q15 b c,d,e,f,g,h,i,j,k,l]
abbrev Q184 (a:Nat)(b:Int)(c d e f g:Nat)(h:RW):LA:=Q88 (Q77 a b c d e f) g h
abbrev Q187 (a:Bool×(List WV))(b:Int):List (Bool×(List WV)):=[a,Q36 b]
abbrev Q188 (a:WV)(b:Int):List (Bool×(List WV)):=Q187 (Q137 a) b
abbrev Q189 (a:Nat)(b:Int)(c:LU)(d:Int)(e:RW):Nat×AObj:=Q35 a 4 b c d<|Q53 e
abbrev Q190 (a:Int)(b:LU)(c:Int):List WV:=Q14 a b c Q26
abbrev Q191 (a:Int)(b:Bool)(c:Int)(d:LU)(e:Int)(f:RW):List WV:=Q31 (Q2 a) (Q6 b) c (Q7 d) e<|Q53 f
abbrev Q192 (a:Int)(b:TV)(c:LA):Prop:=Q54 a [] b c
abbrev Q193 (a:Nat)(b:TV)(c:Nat)(d:LA)(e:Bool)(f:LA):Prop:=Q43 a (Q143 b c) d e f
abbrev Q194 (a:Nat)(b:RW):Nat×AObj:=Q27 a 1 b
abbrev Q195 (a b:AObj)(c d:RW)(e:Nat)(f:RW):LA:=[a,b,Q40 c,Q52 d,.arz e f]
abbrev Q196 (a:Nat)(b:RW):Nat×AObj:=Q27 a 4 b
theorem hP:tB.follows .mixedOrders=true:=zg
def sh:FuncId->List Sh
 |9|68=> [⟨Tm×List Tm,λx=>(.tup<|Q55 (cT x.1)<|Q180<|FTs x.2),λ_ H=>H,true,false,[]⟩]
 |10=> [⟨Unit,λ_=>(Q83 2),λ_ _=>(Q70 1 0 2 0 [] 1 []),false,false,[]⟩]
 |11|158=> [⟨Int×Sto,λx=>(Q20 x.1),λx _=>(Q155 3 (length x.2.V) 4 (length x.2.T) (SR x.2.V)<|IR x.2.T),false,false,[]⟩]
 |12|28|167=> [⟨Tm×Int×Int,λx=>(.tup<|Q153 (Q39<|cT x.1) x.2.1 x.2.2),λ_ H=>H,true,false,[]⟩]
 |13|30=> [⟨(Int×Int)×Sto,λx=>(.tup<|Q187 (Q36 x.1.1) x.1.2),λx _=>(Q155 3 (length x.2.V) 4 (length x.2.T) (SR x.2.V)<|IR x.2.T),true,false,[]⟩]
 |14=> [⟨Tm,λx=>(aT x),λ_ H=>H,true,true,[]⟩]
 |15=> [⟨List Int,λx=>(.c<|Q8 1<|IR x),λ_ H=>H,true,false,[]⟩]
 |17|31|32|53|66|80|87|94|96|97|127|128|129|130|155|161|171|172|180|181=> [⟨Tm,λx=>(aT x),λ_ H=>H,true,false,[]⟩]
 |25|118=> [⟨Bool,λx=>(Q25 x),λ_ H=>H,true,true,[]⟩]
 |27|44=> [⟨Cd×Int,λx=>(.tup<|Q161 (Q37 (Q7 x.1.nm) x.1.ar x.1.fr (Q2 x.1.vs) x.1.sl<|Q8 8<|FIs x.1.ins) x.2),λ_ H=>H,true,false,[]⟩]
 |29|179=> [⟨Tm×Int×Int,λx=>(.tup<|Q161 (cT x.1) x.2.1),λx H=>List.set H 3<|Q100 x.2.2,true,false,[]⟩]
 |34=> [⟨List Tm,λx=>(Q69<|FTs x),λ_ H=>H,true,false,[]⟩]
 |42|108=> [⟨Int,λx=>(Q20 x),λ_ H=>H,true,true,[]⟩]
 |45=> [⟨Cd,λx=>(.agg<|Q37 (Q7 x.nm) x.ar x.fr (Q2 x.vs) x.sl<|Q8 8<|FIs x.ins),λ_ H=>H,true,false,[]⟩]
 |46=> [⟨Tm×Bool×Int,λx=>(.tup<|Q97 (Q39<|cT x.1) (Q137<|Q6 x.2.1) x.2.2),λ_ H=>H,true,false,[]⟩]
 |50=> [⟨RW,λ_=>(.c<|.fn (.func 74) [] [(false,[Q120])]),λx _=> [Q10 1 [Q8 8 x]],true,false,[]⟩]
 |51=> [⟨Int×Sto×Nat×RW×Int,λx=>(Q20 x.1),λx H=>bif Nat.beq H.length 5 then(Q154 (Q96 3 1 2 0 0 7 8 0 x.2.2.1 x.2.2.2.2) 5 (length x.2.1.V) 6 (length x.2.1.T) (SR x.2.1.V) (IR x.2.1.T) 8 x.2.2.2.1) else(Q147 (Q76 3 1 2 0 0 Q26 x.2.2.2.2) (Q65 4 (length x.2.1.V) 5<|length x.2.1.T) .gone (Q40<|SR x.2.1.V)<|Q52<|IR x.2.1.T),true,false,[]⟩]
 |52=> [⟨Sto,λ_=>(.tup []),λx _=>(Q155 3 (length x.V) 4 (length x.T) (SR x.V)<|IR x.T),false,false,[]⟩]
 |54=> [⟨Unit,λ_=>(.c Q26),λ_ _=> [],false,false,[]⟩,⟨Unit,λ_=>(.c<|Q4 0 4 0 0),λ_ _=>(Q157 4 []),false,false,[]⟩]
 |67=> [⟨Tm×Tm,λx=>(.tup<|Q48 (cT x.1)<|Q39<|cT x.2),λ_ H=>H,true,false,[]⟩]
 |69=> [⟨Int×Int×List In1,λx=>(Q20 x.1),λx _=>(Q111 2 x.2.1 2 8 0 (length x.2.2) 8<|FIs x.2.2),true,false,[]⟩]
 |70|99|131|133|151=> [⟨Int×List In1,λ_=>(.tup []),λx _=>(Q111 2 x.1 2 8 0 (length x.2) 8<|FIs x.2),true,false,[]⟩]
 |71|168|184|185=> [⟨Tm×Bool,λx=>(.tup<|Q55 (cT x.1) [Q6 x.2]),λ_ H=>H,true,false,[]⟩]
 |72|101=> [⟨Tm×Int,λx=>(.tup<|Q161 (cT x.1) x.2),λ_ H=>H,true,false,[]⟩]
 |75|105|106|139=> [⟨Int×Sto×Nat×RW×Int,λx=>(Q20 x.1),λx _=>(Q154 (Q96 3 1 2 0 0 7 8 0 x.2.2.1 x.2.2.2.2) 5 (length x.2.1.V) 6 (length x.2.1.T) (SR x.2.1.V) (IR x.2.1.T) 8 x.2.2.2.1),true,false,[]⟩]
 |76=> [⟨Nat,λx=>(.c<|Q4 0 1 0 x),λ_ H=>H,false,true,[]⟩]
 |85=> [⟨LU×Int,λx=>(.tup<|Q97 (Q137<|Q7 x.1) Q140 x.2),λ_ _=> [],false,false,[]⟩,⟨LU×List Tm×Int,λx=>(.tup<|Q97 (Q137<|Q7 x.1) (Q17<|Q126 0 4 0<|length x.2.1) x.2.2),λx _=>(Q157 4<|FTs x.2.1),false,false,[]⟩]
 |86|117|152=> [⟨List Cl×Int,λx=>(.tup<|Q188 (Q8 9<|CLs x.1) x.2),λ_ H=>H,true,false,[]⟩]
 |95=> [⟨List Tm,λ_=>(.c<|.fn (.func 126) [] [(false,[Q120])]),λx _=> [Q10 1<|Q180<|FTs x],true,false,[]⟩]
 |98=> [⟨Bool,λx=>(.c<|Q0<|.sl x 4 []),λ_ _=> [],false,false,[]⟩,⟨RW,λx=>(.c<|Q4 0 4 0<|length x),λx _=>(Q157 4 x),false,false,[]⟩]
 |100=> [⟨Int×Bool×Tm×Bool,λx=>(.tup<|Q55 (Q191 x.1 x.2.1 x.2.2.1.k x.2.2.1.s x.2.2.1.n<|FTs x.2.2.1.l) [Q6 x.2.2.2]),λ_ H=>H,true,false,[]⟩]
 |102=> [⟨Tm×Tm×List Tm×Int×Nat×Int,λx=>(.tup<|Q161 (Q117 x.1.k (Q7 x.1.s) (Q2 x.1.n) (Q53<|FTs x.1.l) (Q2 x.2.1.k) (Q7 x.2.1.s) (Q2 x.2.1.n) (Q53<|FTs x.2.1.l)<|FTs x.2.2.1) x.2.2.2.1),λx H=>List.set H 0<|Q96 3 1 2 0 0 4 8 0 x.2.2.2.2.1 x.2.2.2.2.2,true,false,[]⟩]
 |103=> [⟨Sto×Nat×RW×Int,λ_=>(.tup []),λx _=>(Q154 (Q96 3 1 2 0 0 7 8 0 x.2.1 x.2.2.2) 5 (length x.1.V) 6 (length x.1.T) (SR x.1.V) (IR x.1.T) 8 x.2.2.1),true,false,[]⟩]
 |114=> [⟨Int,λ_=>(.tup []),λx _=>(Q101 x),false,false,[]⟩,⟨Unit,λ_=>(.tup []),λ_ _=> [Q10 1 [Q26]],false,false,[]⟩,⟨Nat×RW,λ_=>(.tup []),λx _=> [Q127 1 1 1 0 x.1,Q52 x.2],false,false,[]⟩,⟨Nat×RW,λ_=>(.tup []),λx _=>(Q151 1 2 1 0 x.1 1 x.2),false,false,[]⟩]
 |115=> [⟨Int,λ_=>(.tup []),λx _=>(Q101 x),false,false,[]⟩]
 |124=> [⟨Bool×RW,λx=>(Q25 x.1),λx H=>List.set H 1<|.arz 3 x.2,true,true,[]⟩]
 |132=> [⟨Tm×Int×List In1,λx=>(aT x.1),λx _=>(Q111 2 x.2.1 2 8 0 (length x.2.2) 8<|FIs x.2.2),true,false,[]⟩]
 |136=> [⟨List Tm×Int×Nat×Int,λx=>(.tup<|Q188 (Q53<|FTs x.1) x.2.1),λx H=>List.set H 0<|Q96 3 1 2 0 0 4 8 0 x.2.2.1 x.2.2.2,true,false,[]⟩]
 |138=> [⟨Int×Sto,λx=>(Q20 x.1),λx _=>(Q155 3 (length x.2.V) 4 (length x.2.T) (SR x.2.V)<|IR x.2.T),true,false,[]⟩]
 |143=> [⟨Int×List Cl,λx=>(Q20 x.1),λx _=>(Q151 1 2 9 0 (length x.2) 9<|CLs x.2),true,false,[]⟩]
 |144=> [⟨List Cl,λ_=>(.tup []),λx _=>(Q151 1 2 9 0 (length x) 9<|CLs x),true,false,[]⟩]
 |153=> [⟨List Tm×Int×Int,λx=>(.tup<|Q153 (Q137<|Q53<|FTs x.1) x.2.1 x.2.2),λ_ H=>H,true,false,[]⟩]
 |156=> [⟨Tm×Sto,λx=>(aT x.1),λx _=>(Q155 3 (length x.2.V) 4 (length x.2.T) (SR x.2.V)<|IR x.2.T),true,false,[]⟩]
 |157=> [⟨(Tm×Int×Int)×Sto,λx=>(.tup<|Q153 (Q39<|cT x.1.1) x.1.2.1 x.1.2.2),λx _=>(Q155 3 (length x.2.V) 4 (length x.2.T) (SR x.2.V)<|IR x.2.T),true,false,[]⟩]
 |162|164=> [⟨Int×List Tm×Bool,λx=>(Q179 x.1 (FTs x.2.1)<|Q6 x.2.2),λ_ H=>H,true,false,[]⟩]
 |163=> [⟨List Tm,λ_=>(.tup []),λx H=>List.set H 0<|.arz 4<|FTs x,true,true,[]⟩]
 |175|183=> [⟨Tm×Sto×Int×Int×List Tm×Int×Int,λx=>(aT x.1),λx _=>(Q147 (Q110 6 1 2 0 0 x.2.2.1 x.2.2.2.1 (FTs x.2.2.2.2.1) x.2.2.2.2.2.1 x.2.2.2.2.2.2) (Q65 4 (length x.2.1.V) 5<|length x.2.1.T) .gone (Q40<|SR x.2.1.V)<|Q52<|IR x.2.1.T),true,false,[]⟩]
 |182=> [⟨Int×Int×List Tm×Int×Int,λ_=>(Q71 0 [] 0 []),λx H=>List.set H 0<|Q110 6 1 2 0 0 x.1 x.2.1 (FTs x.2.2.1) x.2.2.2.1 x.2.2.2.2,true,false,[]⟩]
 |_=> []
abbrev VQ (l:List<|Nat×List Nat)(f m:Nat)(r:TV)(H:LA)(p:Nat)(s:St):Prop:=vcP tB sh l f m (λr0 Hs0=>TV.Le r0 r/\Hs0=H) (RPt tB f m r H) p s
abbrev VE (l:List<|Nat×List Nat)(f m:Nat)(r:TV)(H:LA)(a:List TV)(h:LA):Prop:=vcE tB sh l f a h (λr0 Hs0=>TV.Le r0 r/\Hs0=H)<|RPt tB f m r H
theorem acv {lv:LV} {f:FuncId} {args:List TV} {Hs Hs':LA} {r:TV} {X:Prop} (e:vcE tB sh lv f args Hs (λr0 Hs0=>TV.Le r0 r/\Hs0=Hs') (RPt tB f Hs.length r Hs')=X) (h:X)
  (d:Hs.length<=Hs'.length:=by first|exact tJ _|simp) (g:∀x∈Hs,isLive x:=by simp[isLive,moO]) (b:∀x∈Hs'.drop Hs.length,isLive x:=by simp[isLive,moO]):AC tB f args Hs r Hs':=AC.vc hP sh lv d g b<|Eq.mpr e h
theorem rpv {lv:LV}{f m:Nat}{Hs':LA}{r:TV}{p:Nat}{s:St}{X:Prop}(e:vcP tB sh lv f m (λr0 Hs0=>TV.Le r0 r/\Hs0=Hs') (RPt tB f m r Hs') p s=X)(h:X):RPt tB f m r Hs' p s:=RPt.vc hP sh lv<|Eq.mpr e h
def shO:FuncId->List Sh
 |68=> [⟨Tm,λx=>(.tup<|Q55 (cT x) [Q26]),λ_ _=> [],false,false,[]⟩,⟨Tm×List Tm,λx=>(.tup<|Q55 (cT x.1)<|Q126 0 4 0<|length x.2),λx _=>(Q157 4<|FTs x.2),false,false,[]⟩]
 |f=>sh f
def lv3:LV:=[(1,[0,2,4,7,11]),(5,[0,2,4,7,14,16]),(9,[0,2,4,7,14,16,17,18,19,20]),(13,[0,2,4,7,14,16,17,18,19,21,22]),(17,[0,2,4,7,14,16,28,29,30])]
theorem v3 (l:RW)(d:Int)(e:LU)(f:Int)(g:RW)(a:Int)(r:TV)(b:LA):let A:=Q71 d e f g;VE lv3 3 0 r b (Q173 (.c<|Q8 9 l) A a) []=
  (∃h:Bool,let B:=Q50 h r b;Q91 4 [] h/\br (!h) (Q57 r b) (∃i:Bool,Q91 5 (Q94 A 40) i/\∃j:Bool,Q91 6 (Q94 A 1000) j/\∃k:Bool,Q91 7 (Q125 d e f g) k/\(FV.L 9 (Q3 9 l)=true)/\br (decide (((length l:Int):Int)>(8:Int))) B (br i B<|br (!j) B<|br (!k) B<|br (decide (a<0)) B<|br (decide (a>20)) B<|Q152 3 0 r b (Q115 (Q42 0 9 l) (Q15 2 a) (Q87 4 0) (Q5 7<|Q6 h) 11 0) [Q189 0 d e f g] 1))):=zh
theorem v3_1a (h:RW)(n:Int)(i:Bool)(a f:Int)(b:LU)(d:Int)(e:RW)(r:TV)(g:LA):let A:=Q42 0 9 h;let B:=Q15 2 n;let C:=Q5 7 (Q6 i);let D:=FV.L 9 (Q3 9 h)=true;let E:=(length h:Int);let F:=getD h (toNat a) [];let G:=FV.I (getD F 0 FV.N);let H:=FV.I (getD F 1 FV.N);let I:=FV.S (getD F 2 FV.N);let J:=FV.I (getD F 3 FV.N);let K:=getD F 4 FV.N;let L:=FV.I (getD F 5 FV.N);let M:=FV.S (getD F 6 FV.N);let N:=FV.I (getD F 7 FV.N);let O:=getD F 8 FV.N;let P:=D/\(0<=a)/\(a<E)/\(([(Q1 G),(Q1 H),(.str I),(Q1 J),K,(Q1 L),(.str M),(Q1 N),O]:List FV)=F);let Q:=Q50 i r g;VQ lv3 3 0 r g 1 ⟨Q115 A B (Q87 4 0) C 11 a,[Q189 0 f b d e],1⟩=
  (D/\br (decide ((a:Int)<E)) (P/\∃j:Bool,Q91 5 (Q94 (Q138 H I J K) 60) j/\P/\∃k:Bool,Q91 5 (Q94 (Q138 L M N O) 60) k/\br j Q (br k Q<|P/\br (decide (G>20)) Q (Q152 3 0 r g (Q115 A B (Q87 4 0) C 11<|wrap .i64<|a+1) [Q189 0 f b d e] 1))) (∃l:FV,∃m:Int,Q60 8 [.c<|Q8 9 h] [] (Q188 (Q0 l) m) []/\br (m !=0) Q (Q51 3 0 r g 5 (Q109 A B (Q87 4 0) C (Q172 14 l) 16 0) [Q189 0 f b d e] 1))):=zh
theorem v3_5a (h:RW)(j:Int)(i:Bool)(g:FV)(a e:Int)(b:LU)(c:Int)(d:RW)(r:TV)(f:LA):let A:=FV.L 9 (Q3 9 h)=true;let B:=(length h:Int);let C:=getD h (toNat a) [];let D:=FV.I (getD C 1 FV.N);let E:=FV.S (getD C 2 FV.N);let F:=FV.I (getD C 3 FV.N);let G:=getD C 4 FV.N;VQ lv3 3 0 r f 5 ⟨Q109 (Q42 0 9 h) (Q15 2 j) (Q87 4 0) (Q5 7<|Q6 i) (Q172 14 g) 16 a,[Q189 0 e b c d],1⟩=
  (A/\br (decide ((a:Int)<B)) ((A/\(0<=a)/\(a<B)/\(([(Q1<|FV.I<|getD C 0 FV.N),(Q1 D),(.str E),(Q1 F),G,(Q1<|FV.I<|getD C 5 FV.N),(.str<|FV.S<|getD C 6 FV.N),(Q1<|FV.I<|getD C 7 FV.N),(getD C 8 FV.N)]:List FV)=C))/\∃k:Tm×List Tm,let H:=FTs k.2;Q60 9 [Q138 D E F G] [] (Q55 (cT k.1)<|Q180 H) []/\(FV.L 4 (Q174 H)=true)/\br (((length H:Int):Int)==(0:Int)) (Q51 3 0 r f 5 (Q109 (Q42 0 9 h) (Q15 2 j) (Q87 4 0) (Q5 7<|Q6 i) (Q172 14 g) 16<|wrap .i64<|a+1) [Q189 0 e b c d] 1) (∃_:Unit,Q175 10 [] (Q83 2) (Q70 1 0 2 0 [] 1 [])/\Q51 3 0 r f 9 [Q42 0 9 h,Q15 2 j,Q87 4 0,Q5 7<|Q6 i,Q172 14 g,Q15 16 a,Q87 17 1,Q118 18 H,Q47 19 2 2,Q15 20 0] [Q189 0 e b c d,Q16 1 4<|cT k.1,Q116 2 2 3 6 0 0 4 1 0 0,Q27 3 6 [],Q194 4 []] 5)) (Q50 i r f)):=zh
theorem v3_9a (s:RW)(q:Int)(t:Bool)(l:FV)(m:Int)(n:RW)(p j:Int)(c:LU)(d:Int)(e:RW)(f:Int)(g:LU)(h:Int)(i:RW)(a b:Nat)(u v:RW)(r:TV)(o:LA):VQ lv3 3 0 r o 9 ⟨[Q42 0 9 s,Q15 2 q,Q87 4 0,Q5 7<|Q6 t,Q172 14 l,Q15 16 m,Q87 17 1,Q118 18 n,Q47 19 2 2,Q15 20 p],[Q189 0 j c d e,Q189 1 f g h i,Q116 2 2 3 6 0 a 4 1 0 b,Q27 3 6 u,Q194 4 v],5⟩=
  (br (decide (p<q)) (∃k:Int×Sto,Q74 11 (Q94 (Q83 2) 0) (Q70 1 a 2 b u 1 v) k.1 (Q155 3 (length k.2.V) 4 (length k.2.T) (SR k.2.V)<|IR k.2.T)/\Q51 3 0 r o 9 [Q42 0 9 s,Q15 2 q,Q87 4 0,Q5 7<|Q6 t,Q172 14 l,Q15 16 m,Q87 17 1,Q118 18 n,Q47 19 2 2,Q15 20<|wrap .i64<|p+1] [Q189 0 j c d e,Q189 1 f g h i,Q116 2 2 3 6 0 (length k.2.V) 4 1 0<|length k.2.T,Q27 3 6<|SR k.2.V,Q194 4<|IR k.2.T] 5)<|Q51 3 0 r o 13 (Q181 (Q42 0 9 s) 2 q (Q87 4 0) (Q5 7<|Q6 t) (Q172 14 l) (Q15 16 m) (Q87 17 1) (Q118 18 n) (Q47 19 2 2) (Q105 21)<|Q15 22 0) [Q189 0 j c d e,Q189 1 f g h i,Q116 2 2 3 6 0 a 4 1 0 b,Q27 3 6 u,Q194 4 v] 5):=zg
theorem v3_13a (t:RW)(w:Int)(x:Bool)(p:FV)(f:Int)(g:RW)(q e:Int)(a:LU)(b:Int)(d:RW)(m:Int)(h:LU)(n:Int)(o:RW)(j k:Nat)(L M:RW)(r:TV)(i:LA):let A:=Q42 0 9 t;let B:=Q5 7 (Q6 x);let C:=Q172 14 p;let D:=getD t (toNat f) [];let E:=FV.I (getD D 0 FV.N);let F:=Q70 1 j 2 k L 1 M;let G:=FV.L 4 (Q174 g)=true;let H:=(length g:Int);let I:=getD g 0 [];VQ lv3 3 0 r i 13 ⟨Q181 A 2 w (Q87 4 0) B C (Q15 16 f) (Q87 17 1) (Q118 18 g) (Q47 19 2 2) (Q105 21)<|Q15 22 q,[Q189 0 e a b d,Q189 1 m h n o,Q116 2 2 3 6 0 j 4 1 0 k,Q27 3 6 L,Q194 4 M],5⟩=
  (((FV.L 9 (Q3 9 t)=true)/\(0<=f)/\(f<(length t:Int))/\(([(Q1 E),(Q1<|FV.I<|getD D 1 FV.N),(.str<|FV.S<|getD D 2 FV.N),(Q1<|FV.I<|getD D 3 FV.N),(getD D 4 FV.N),(Q1<|FV.I<|getD D 5 FV.N),(.str<|FV.S<|getD D 6 FV.N),(Q1<|FV.I<|getD D 7 FV.N),(getD D 8 FV.N)]:List FV)=D))/\br (decide ((q:Int)<E)) (∃l:Int×Sto,Q74 11 (Q94 (Q83 2) 0) F l.1 (Q155 3 (length l.2.V) 4 (length l.2.T) (SR l.2.V)<|IR l.2.T)/\(1<=1)/\zI 1 56/\Q51 3 0 r i 13 (Q181 A 2 w (Q87 4 0) B C (Q15 16 f) (Q87 17 1) (Q118 18 g) (Q47 19 2 2) (Q169 21 5 1)<|Q15 22<|wrap .i64<|q+1) [Q189 0 e a b d,Q189 1 m h n o,Q116 2 2 3 6 0 (length l.2.V) 4 1 0<|length l.2.T,Q27 3 6<|SR l.2.V,Q194 4<|IR l.2.T,Q196 5 [[(Q1 4),(.str []),(Q1 l.1),.N]]] 6) (∃u:Tm×Int×Int,Q60 12 (Q95 2 (Q71 e a b d)<|Q20 50) F (Q153 (Q39<|cT u.1) u.2.1 u.2.2) F/\br (u.2.2 !=0) (Q50 x r i) ((G/\(0<=(0:Int))/\((0:Int)<H)/\(((rE I):List FV)=I))/\∃y:Tm,Q176 14 (Q173 (aE I) (.c Q26) 0) (aT y)/\∃s:(Int×Int)×Sto,Q60 13 [Q83 2,Q71 e a b d,(aT y),Q20 100] F (Q187 (Q36 s.1.1) s.1.2) (Q155 3 (length s.2.V) 4 (length s.2.T) (SR s.2.V)<|IR s.2.T)/\br (s.1.2==170) (Q51 3 0 r i 5 (Q109 A (Q15 2 w) (Q87 4 0) B C 16<|wrap .i64<|f+1) [Q189 0 e a b d] 1) (G/\∃z:Bool,∃J:Int,∃K:LU,∃n8 n9:Int,Q176 16 [(aT u.1)] (Q167 (Q6 z) J (Q7 K) n8 n9)/\∃v:List Int,Q176 15 [.c<|Q0 p,.c<|Q7 h,Q20 H,Q167 (Q6 z) J (Q7 K) n8 n9] (.c<|Q8 1<|IR v)/\Q51 3 0 r i 17 [Q42 0 9 t,Q15 2 w,Q87 4 0,Q5 7<|Q6 x,Q172 14 p,Q15 16 f,Q42 28 1<|IR v,Q5 29 Q44,Q15 30 0] [Q189 0 e a b d] 1)))):=zh
theorem v3_13b (u:RW)(y:Int)(z:Bool)(q:FV)(g:Int)(h:RW)(a:Nat)(s f:Int)(b:LU)(d:Int)(e:RW)(n:Int)(i:LU)(o:Int)(p:RW)(k l:Nat)(N O x:RW)(r:TV)(j:LA):let A:=Q42 0 9 u;let B:=Q5 7 (Q6 z);let C:=Q172 14 q;let D:=getD u (toNat g) [];let E:=FV.I (getD D 0 FV.N);let F:=Q70 1 k 2 l N 1 O;let G:=FV.L 4 (Q174 h)=true;let H:=(length h:Int);let I:=getD h 0 [];VQ lv3 3 0 r j 13 ⟨Q181 A 2 y (Q87 4 0) B C (Q15 16 g) (Q87 17 1) (Q118 18 h) (Q47 19 2 2) (Q169 21 5 a)<|Q15 22 s,[Q189 0 f b d e,Q189 1 n i o p,Q116 2 2 3 6 0 k 4 1 0 l,Q27 3 6 N,Q194 4 O,Q196 5 x],6⟩=
  (((FV.L 9 (Q3 9 u)=true)/\(0<=g)/\(g<(length u:Int))/\(([(Q1 E),(Q1<|FV.I<|getD D 1 FV.N),(.str<|FV.S<|getD D 2 FV.N),(Q1<|FV.I<|getD D 3 FV.N),(getD D 4 FV.N),(Q1<|FV.I<|getD D 5 FV.N),(.str<|FV.S<|getD D 6 FV.N),(Q1<|FV.I<|getD D 7 FV.N),(getD D 8 FV.N)]:List FV)=D))/\br (decide ((s:Int)<E)) (∃m:Int×Sto,Q74 11 (Q94 (Q83 2) 0) F m.1 (Q155 3 (length m.2.V) 4 (length m.2.T) (SR m.2.V)<|IR m.2.T)/\(1<=1)/\(a<=(length x)/\zI (a+1) 56)/\Q51 3 0 r j 13 (Q181 A 2 y (Q87 4 0) B C (Q15 16 g) (Q87 17 1) (Q118 18 h) (Q47 19 2 2) (Q169 21 5<|a+1)<|Q15 22<|wrap .i64<|s+1) [Q189 0 f b d e,Q189 1 n i o p,Q116 2 2 3 6 0 (length m.2.V) 4 1 0<|length m.2.T,Q27 3 6<|SR m.2.V,Q194 4<|IR m.2.T,Q196 5<|(take a x)++[[(Q1 4),(.str []),(Q1 m.1),.N]]] 6) (∃v:Tm×Int×Int,Q60 12 (Q95 2 (Q71 f b d e)<|Q20 50) F (Q153 (Q39<|cT v.1) v.2.1 v.2.2) F/\br (v.2.2 !=0) (Q50 z r j) ((G/\(0<=(0:Int))/\((0:Int)<H)/\(((rE I):List FV)=I))/\∃J:Tm,Q9 14 (Q173 (aE I) (.c<|Q4 0 4 0 a) 0) (Q157 4 x) (aT J) (Q157 4 x)/\∃t:(Int×Int)×Sto,Q60 13 [Q83 2,Q71 f b d e,(aT J),Q20 100] F (Q187 (Q36 t.1.1) t.1.2) (Q155 3 (length t.2.V) 4 (length t.2.T) (SR t.2.V)<|IR t.2.T)/\br (t.1.2==170) (Q51 3 0 r j 5 (Q109 A (Q15 2 y) (Q87 4 0) B C 16<|wrap .i64<|g+1) [Q189 0 f b d e] 1) (G/\∃K:Bool,∃L:Int,∃M:LU,∃n8 n9:Int,Q176 16 [(aT v.1)] (Q167 (Q6 K) L (Q7 M) n8 n9)/\∃w:List Int,Q176 15 [.c<|Q0 q,.c<|Q7 i,Q20 H,Q167 (Q6 K) L (Q7 M) n8 n9] (.c<|Q8 1<|IR w)/\Q51 3 0 r j 17 [Q42 0 9 u,Q15 2 y,Q87 4 0,Q5 7<|Q6 z,Q172 14 q,Q15 16 g,Q42 28 1<|IR w,Q5 29 Q44,Q15 30 0] [Q189 0 f b d e] 1)))):=zh
theorem v3_17a (k:RW)(l:Int)(m:Bool)(i:FV)(g:Int)(e:RW)(j:Bool)(f d:Int)(a:LU)(b:Int)(c:RW)(r:TV)(h:LA):let A:=FV.L 1 (Q3 1 e)=true;let B:=(length e:Int);let C:=wrap .i64 (f+1);let D:=getD e (toNat f) [];let E:=FV.I (getD D 0 FV.N);VQ lv3 3 0 r h 17 ⟨[Q42 0 9 k,Q15 2 l,Q87 4 0,Q5 7<|Q6 m,Q172 14 i,Q15 16 g,Q42 28 1 e,Q5 29<|Q6 j,Q15 30 f],[Q189 0 d a b c],1⟩=
  (A/\br (decide ((f:Int)<B)) (br j (Q51 3 0 r h 17 [Q42 0 9 k,Q15 2 l,Q87 4 0,Q5 7<|Q6 m,Q172 14 i,Q15 16 g,Q42 28 1 e,Q5 29 Q79,Q15 30 C] [Q189 0 d a b c] 1)<|(A/\(0<=f)/\(f<B)/\(([(Q1 E)]:List FV)=D))/\Q51 3 0 r h 17 [Q42 0 9 k,Q15 2 l,Q87 4 0,Q5 7<|Q6 m,Q172 14 i,Q15 16 g,Q42 28 1 e,Q5 29<|Q6<|(E:Int)==g,Q15 30 C] [Q189 0 d a b c] 1) (br (!j) (Q57 r h)<|Q51 3 0 r h 5 (Q109 (Q42 0 9 k) (Q15 2 l) (Q87 4 0) (Q5 7<|Q6 m) (Q172 14 i) 16<|wrap .i64<|g+1) [Q189 0 d a b c] 1)):=zh
def lv5:LV:=[]
theorem v5 (c:Int)(d:LU)(e:Int)(f:RW)(a:Int)(r:TV)(b:LA):let A:=Q94 (Q71 c d e f) a;VE lv5 5 0 r b A []=
  (∃g:Int,Q74 22 A [] g []/\Q50 (decide (g<0)) r b):=zh
def lv6:LV:=[(1,[1,2,5])]
theorem v6 (d:Int)(e:LU)(b:Int)(f:RW)(a:Int)(r:TV)(c:LA):let A:=Q152 6 0 r c [Q15 1 a,Q87 2 0,Q15 5 0] [Q189 0 d e b f] 1;VE lv6 6 0 r c (Q94 (Q71 d e b f) a) []=
  (br (d !=2) (br (decide (b>a)) (Q57 r c)<|br (decide ((b:Int)<(wrap .i64<|0-a))) (Q57 r c) A) A):=zh
theorem v6_1a (g f e:Int)(c:LU)(d:Int)(a:RW)(r:TV)(b:LA):let A:=FV.L 4 (Q174 a)=true;let B:=(length a:Int);let C:=getD a (toNat f) [];VQ lv6 6 0 r b 1 ⟨[Q15 1 g,Q87 2 0,Q15 5 f],[Q189 0 e c d a],1⟩=
  (A/\br (decide ((f:Int)<B)) ((A/\(0<=f)/\(f<B)/\(((rE C):List FV)=C))/\∃h:Bool,Q91 6 (Q94 (aE C) g) h/\br (!h) (Q57 r b) (Q152 6 0 r b [Q15 1 g,Q87 2 0,Q15 5<|wrap .i64<|f+1] [Q189 0 e c d a] 1)) (Q50 true r b)):=zh
theorem v7 (a:Int)(e:LU)(b:Int)(d:RW)(r:TV)(f:LA):let A:=b==0;let B:=FV.L 4 (Q174 d)=true;let C:=(length d:Int);let D:=(C:Int);let E:=D==(0:Int);let F:=Q57 r f;let G:=br A (B/\Q50 E r f) F;let H:=(e:LU)==[];let I:=(∃g:Bool,Q91 25 (Q122 d<|.fn (.func 26) [] []) g/\Q50 (!g) r f);let J:=br H (B/\br E I F) F;let K:=br (decide (b>=0)) (br (decide (b<=4611686018427387904)) J F) F;let L:=getD d 0 [];VE lv5 7 0 r f (Q125 a e b d) []=
  (br (a==0) (∃h:Bool,Q91 23 [.c<|Q7 e] h/\br h G (∃i:Bool,Q91 24 [.c<|Q7 e] i/\br i G F))<|br (a==1) (br (decide (b>=1)) J F)<|br (a==2) J<|br (a==3) K<|br (a==4) K<|br (a==5) (br A (br H (B/\br (D==(1:Int)) I F) F) F)<|br (a==6) (br A (B/\br (decide (D>=(2:Int))) ((B/\(0<=(0:Int))/\((0:Int)<C)/\(((rE L):List FV)=L))/\B/\br ((FV.I<|getD L 0 FV.N) !=6) (br H (B/\br (D==C) I F) F) F) (B/\F))<|B/\F) F):=zh
def lv8:LV:=[(1,[4,9,10,11])]
theorem v8 (l:RW)(r:TV)(a:LA):VE lv8 8 0 r a [.c<|Q8 9 l] []=
  ((FV.L 9 (Q3 9 l)=true)/\Q152 8 0 r a (Q85 (Q105 4) (Q42 9 9 l) 10 (length l:Int) 11 0) [] 0):=zg
theorem v8_1a (e:RW)(d b:Int)(r:TV)(c:LA):let A:=getD e (toNat b) [];let B:=FV.I (getD A 0 FV.N);let C:=FV.I (getD A 1 FV.N);let D:=FV.S (getD A 2 FV.N);let E:=FV.I (getD A 3 FV.N);let F:=getD A 4 FV.N;let G:=FV.I (getD A 5 FV.N);let H:=FV.S (getD A 6 FV.N);let I:=FV.I (getD A 7 FV.N);let J:=getD A 8 FV.N;VQ lv8 8 0 r c 1 ⟨Q85 (Q105 4) (Q42 9 9 e) 10 d 11 b,[],0⟩=
  (br (decide (b<d)) (((FV.L 9 (Q3 9 e)=true)/\(0<=b)/\(b<(length e:Int))/\(([(Q1 B),(Q1 C),(.str D),(Q1 E),F,(Q1 G),(.str H),(Q1 I),J]:List FV)=A))/\∃a:Cd×Int,Q60 27 [.agg<|Q56 B (Q2 C) (Q7 D) (Q2 E) (Q0 F) (Q2 G) (Q7 H) (Q2 I)<|Q0 J] [] (Q161 (Q37 (Q7 a.1.nm) a.1.ar a.1.fr (Q2 a.1.vs) a.1.sl<|Q8 8<|FIs a.1.ins) a.2) []/\br (a.2 !=0) (Q33 (Q187 Q140 a.2) [] r c) ((1<=1)/\zI 1 72/\Q152 8 0 r c (Q85 (Q168 4 0 6 1) (Q42 9 9 e) 10 d 11<|wrap .i64<|b+1) [Q27 0 6 [[(.str a.1.nm),(Q1 a.1.ar),(Q1 a.1.fr),(Q1 a.1.vs),(Q1 a.1.sl),(Q3 8<|FIs a.1.ins)]]] 1))<|Q33 (Q187 Q140 0) [] r c):=zh
theorem v8_1b (a:Nat)(f:RW)(e c:Int)(g:RW)(r:TV)(d:LA):let A:=getD f (toNat c) [];let B:=FV.I (getD A 0 FV.N);let C:=FV.I (getD A 1 FV.N);let D:=FV.S (getD A 2 FV.N);let E:=FV.I (getD A 3 FV.N);let F:=getD A 4 FV.N;let G:=FV.I (getD A 5 FV.N);let H:=FV.S (getD A 6 FV.N);let I:=FV.I (getD A 7 FV.N);let J:=getD A 8 FV.N;VQ lv8 8 0 r d 1 ⟨Q85 (Q168 4 0 6 a) (Q42 9 9 f) 10 e 11 c,[Q27 0 6 g],1⟩=
  (br (decide (c<e)) (((FV.L 9 (Q3 9 f)=true)/\(0<=c)/\(c<(length f:Int))/\(([(Q1 B),(Q1 C),(.str D),(Q1 E),F,(Q1 G),(.str H),(Q1 I),J]:List FV)=A))/\∃b:Cd×Int,Q60 27 [.agg<|Q56 B (Q2 C) (Q7 D) (Q2 E) (Q0 F) (Q2 G) (Q7 H) (Q2 I)<|Q0 J] [] (Q161 (Q37 (Q7 b.1.nm) b.1.ar b.1.fr (Q2 b.1.vs) b.1.sl<|Q8 8<|FIs b.1.ins) b.2) []/\br (b.2 !=0) (Q33 (Q187 Q140 b.2) [] r d) ((1<=1)/\(a<=(length g)/\zI (a+1) 72)/\Q152 8 0 r d (Q85 (Q168 4 0 6<|a+1) (Q42 9 9 f) 10 e 11<|wrap .i64<|c+1) [Q27 0 6<|(take a g)++[[(.str b.1.nm),(Q1 b.1.ar),(Q1 b.1.fr),(Q1 b.1.vs),(Q1 b.1.sl),(Q3 8<|FIs b.1.ins)]]] 1))<|((6:Nat)=6/\(0+a)<=(length g))/\Q33 (Q188 (Q8 6<|take a<|drop 0 g) 0) [] r d):=zh
theorem v9 (b:Int)(d:LU)(e:Int)(a:RW)(r:TV)(c:LA):let A:=FV.L 4 (Q174 a)=true;let B:=(length a:Int);let C:=getD a 0 [];VE lv5 9 0 r c (Q125 b d e a) []=
  (br (b==6) ((A/\(0<=(0:Int))/\((0:Int)<B)/\(((rE C):List FV)=C))/\A/\((0<=(1:Int))/\((1:Int)<=B)/\(B<=B))/\Q84 (cE C) (Q180<|drop 1<|take (toNat B) a) [] r c)<|Q84 (Q92 b d e a) [Q26] [] r c):=zh
theorem v10  (r:TV) (a:LA):VE lv5 10 0 r a [] []=
  (RT (Q83 2) (Q70 1 0 2 0 [] 1 []) r a):=zg
def lv11:LV:=[(1000001,[1,2])]
theorem v11 (b:Int)(a c:Nat)(e f:RW)(r:TV)(d:LA):let A:=a+1;VE lv11 11 3 r d (Q94 (Q83 2) b) (Q70 1 a 2 c e 1 f)=
  ((1<=1)/\(a<=(length e)/\zI A 72)/\Q54 (wrap .i64<|((A:Nat):Int)-(1:Int)) (Q155 3 A 4 c ((take a e)++[[(Q1<|xH [b,(0:Int)]),(.bool false),(Q1 0),(.str []),(Q1 0),.N]]) f) r d):=zh
theorem v12 (e:Int)(f:LU)(g:Int)(h:RW)(a:Int)(b d:Nat)(k l:RW)(r:TV)(i:LA):let A:=Q70 1 b 2 d k 1 l;VE lv5 12 3 r i (Q95 2 (Q71 e f g h)<|Q20 a) A=
  (∃j:Tm×Int×Int,let B:=Q153 (Q39<|cT j.1) j.2.1 j.2.2;Q60 28 [Q71 e f g h,Q20 a,.c<|.fn (.func 29) [(false,[(Q107 0 2)])] []] A B A/\Q33 B A r i):=zh
def lv14:LV:=[(1,[1,2,3,6,8,9])]
theorem v14 (b:Int)(d:LU)(a:Int)(e f:RW)(k:Int)(r:TV)(c:LA):let A:=Q71 b d a e;let B:=FV.L 4 (Q174 f)=true;let C:=(length f:Int);let D:=wrap .i64 ((wrap .i64<|C-(1:Int))-(wrap .i64<|a-k));let E:=getD f (toNat D) [];let F:=Q152 14 0 r c (Q109 (Q118 1 f) (Q15 2 k) (Q87 3 0) (Q87 6 1) (Q105 8) 9 0) [Q189 0 b d a e,Q75 1 4 0 [] 0] 2;let G:=br (b !=5) (br (b !=6) (RT A [] r c) F) F;VE lv14 14 0 r c (Q173 A (Q69 f) k) []=
  (B/\br (b==3) (br (decide (a>=k)) (br (decide ((a:Int)<(wrap .i64<|k+C))) ((B/\(0<=D)/\(D<C)/\(((rE E):List FV)=E))/\∃g:Tm,Q176 31 (Q173 (aE E) (Q20 0) k) (aT g)/\RT (aT g) [] r c)<|RT (Q170 3 []<|wrap .i64<|a-C) [] r c) G) G):=zh
theorem v14_1a (j:RW)(k i b:Int)(c:LU)(d:Int)(a:RW)(e:Int)(f:LU)(g:Int)(r:TV)(h:LA):let A:=FV.L 4 (Q174 a)=true;let B:=(length a:Int);let C:=getD a (toNat i) [];let D:=A/\(0<=i)/\(i<B)/\(((rE C):List FV)=C);let E:=Q109 (Q118 1 j) (Q15 2 k) (Q87 3 0) (Q87 6 1) (Q169 8 2 1) 9 (wrap .i64<|i+1);let F:=FV.L 4 .N=true;let G:=((0:Nat):Int);VQ lv14 14 0 r h 1 ⟨Q109 (Q118 1 j) (Q15 2 k) (Q87 3 0) (Q87 6 1) (Q105 8) 9 i,[Q189 0 b c d a,Q75 1 4 e f g],2⟩=
  (A/\br (decide ((i:Int)<B)) (br (b==5) (D/\∃l:Tm,Q176 14 (Q173 (aE C) (Q69 j)<|wrap .i64<|k+1) (aT l)/\(1<=1)/\zI 1 56/\Q152 14 0 r h E [Q189 0 b c d a,Q75 1 4 e f g,Q196 2 [(FT4 l)]] 3) (D/\∃m:Tm,Q176 14 (Q173 (aE C) (Q69 j) k) (aT m)/\(1<=1)/\zI 1 56/\Q152 14 0 r h E [Q189 0 b c d a,Q75 1 4 e f g,Q196 2 [(FT4 m)]] 3)) (br (b==6) ((F/\(0<=(0:Int))/\((0:Int)<G)/\(([(Q1 0),(.str []),(Q1 0),.N]:List FV)=[]))/\F/\((0<=(1:Int))/\((1:Int)<=(0:Int))/\((0:Int)<=G))/\∃n:Tm,Q176 32 (Q89 (Q170 0 [] 0) Q26) (aT n)/\RT (aT n) [] r h)<|RT (Q170 b [] 0) [] r h)):=zh
theorem v14_1b (l:RW)(m:Int)(a:Nat)(k c:Int)(d:LU)(e:Int)(b:RW)(f:Int)(g:LU)(h:Int)(j:RW)(r:TV)(i:LA):let A:=FV.L 4 (Q174 b)=true;let B:=(length b:Int);let C:=getD b (toNat k) [];let D:=A/\(0<=k)/\(k<B)/\(((rE C):List FV)=C);let E:=length j;let F:=a<=E/\zI (a+1) 56;let G:=Q109 (Q118 1 l) (Q15 2 m) (Q87 3 0) (Q87 6 1) (Q169 8 2<|a+1) 9 (wrap .i64<|k+1);let H:=getD j 0 [];let I:=(toNat (a:Int))-1;VQ lv14 14 0 r i 1 ⟨Q109 (Q118 1 l) (Q15 2 m) (Q87 3 0) (Q87 6 1) (Q169 8 2 a) 9 k,[Q189 0 c d e b,Q75 1 4 f g h,Q196 2 j],3⟩=
  (A/\br (decide ((k:Int)<B)) (br (c==5) (D/\∃n:Tm,Q176 14 (Q173 (aE C) (Q69 l)<|wrap .i64<|m+1) (aT n)/\(1<=1)/\F/\Q152 14 0 r i G [Q189 0 c d e b,Q75 1 4 f g h,Q196 2<|(take a j)++[(FT4 n)]] 3) (D/\∃o:Tm,Q176 14 (Q173 (aE C) (Q69 l) m) (aT o)/\(1<=1)/\F/\Q152 14 0 r i G [Q189 0 c d e b,Q75 1 4 f g h,Q196 2<|(take a j)++[(FT4 o)]] 3)) (br (c==6) ((0<=(0:Int)/\(0:Int)<(a:Int))/\((0<E)/\(((rE H):List FV)=(take 4<|drop 0 H))/\((4:Nat)=4))/\((0<=(1:Int))/\((1:Int)<=(a:Int))/\((a:Int)<=(a:Int)))/\((4:Nat)=4/\(1+I)<=E)/\∃p:Tm,Q176 32 [(aE H),Q69<|take I<|drop 1 j] (aT p)/\RT (aT p) [] r i)<|((4:Nat)=4/\(0+a)<=E)/\RT (Q71 c [] 0<|take a<|drop 0 j) [] r i)):=zh
theorem v13 (f:Int)(g:LU)(h:Int)(i:RW)(j:Int)(k:LU)(l:Int)(m:RW)(a:Int)(b d:Nat)(o p:RW)(r:TV)(n:LA):let A:=Q70 1 b 2 d o 1 p;VE lv11 13 3 r n [Q83 2,Q71 f g h i,Q71 j k l m,Q20 a] A=
  (((8:Nat)=8/\1<=1)/\∃e:(Int×Int)×Sto,let B:=Q187 (Q36 e.1.1) e.1.2;let C:=Q155 3 (length e.2.V) 4 (length e.2.T) (SR e.2.V) (IR e.2.T);Q60 30 (Q95 2 (.c<|Q8 8 [[(Q1 f),(.str g),(Q1 h),(Q174 i),(Q1 j),(.str k),(Q1 l),(Q174 m)]])<|Q20 a) A B C/\Q33 B C r n):=zh
theorem v16 (a:Int)(d:LU)(e:Int)(b:RW)(r:TV)(c:LA):let A:=FV.L 4 (Q174 b)=true;let B:=(length b:Int);let C:=getD b 0 [];let D:=FV.I (getD C 0 FV.N);let E:=RT (Q167 Q79 0 (Q7 []) 0 0) [] r c;let F:=br (a==5) E (br (a==4) E<|br (a==6) E<|RT (Q167 Q44 a (Q7 d) e 0) [] r c);VE lv5 16 0 r c (Q125 a d e b) []=
  (br (a==6) (A/\br (decide ((B:Int)>(0:Int))) ((A/\(0<=(0:Int))/\((0:Int)<B)/\(((rE C):List FV)=C))/\A/\br (D==5) E (br (D==4) E<|br (D==6) E<|RT (Q167 Q44 D (Q7<|FV.S<|getD C 1 FV.N) (FV.I<|getD C 2 FV.N)<|wrap .i64<|B-(1:Int)) [] r c)) F) F):=zh
def lv15:LV:=[(1,[1,2,7,9,12,13,14])]
theorem v15 (l:RW)(a:LU)(b:Int)(d:Bool)(e:Int)(f:LU)(h i:Int)(r:TV)(g:LA):VE lv15 15 0 r g [.c<|Q8 6 l,.c<|Q7 a,Q20 b,Q167 (Q6 d) e (Q7 f) h i] []=
  ((FV.L 6 (Q3 6 l)=true)/\Q152 15 0 r g (Q145 (Q5 1<|Q7 a) (Q15 2 b) (Q156 7 5) (Q105 9) (Q42 12 6 l) (Q15 13 (length l:Int)) 14 0) [Q16 0 5<|Q164 (Q6 d) e (Q7 f) h i] 1):=zg
theorem bg (k:LU)(l:Int)(b:RW)(j a:Int)(e:Bool)(f:Int)(g:LU)(h i:Int)(r:TV)(d:LA):let A:=Q5 1 (Q7 k);let B:=Q15 2 l;let C:=Q156 7 5;let D:=Q42 12 6 b;let E:=Q15 13 j;let F:=Q164 (Q6 e) f (Q7 g) h i;let G:=getD b (toNat a) [];let H:=FV.S (getD G 0 FV.N);let I:=FV.I (getD G 1 FV.N);let J:=FV.I (getD G 2 FV.N);let K:=FV.I (getD G 3 FV.N);let L:=FV.I (getD G 4 FV.N);let M:=getD G 5 FV.N;let N:=wrap .i64 (a+1);let O:=Q152 15 0 r d (Q145 A B C (Q105 9) D E 14 N) [Q16 0 5 F] 1;VQ lv15 15 0 r d 1 ⟨Q145 A B C (Q105 9) D E 14 a,[Q16 0 5 F],1⟩=
  (br (decide (a<j)) (((FV.L 6 (Q3 6 b)=true)/\(0<=a)/\(a<(length b:Int))/\(([(.str H),(Q1 I),(Q1 J),(Q1 K),(Q1 L),M]:List FV)=G))/\br ((H:LU)==k) (br ((I:Int)==l) (∃m:Bool,∃n:Int,∃o:LU,∃n4 n5:Int,Q176 21 [.agg<|Q37 (Q7 H) I J (Q2 K) L<|Q0 M] (Q167 (Q6 m) n (Q7 o) n4 n5)/\∃p:Bool,Q91 20 [Q167 (Q6 m) n (Q7 o) n4 n5,Q167 (Q6 e) f (Q7 g) h i] p/\br p ((1<=1)/\zI 1 8/\Q152 15 0 r d (Q145 A B C (Q168 9 1 1 1) D E 14 N) [Q16 0 5 F,Q194 1 [[(Q1 a)]]] 2) O) O) O) (∃q:FV,Q176 33 [.c Q26] (.c<|Q0 q)/\RT (.c<|Q0 q) [] r d)):=zh
theorem pe (m:LU)(n:Int)(a:Nat)(d:RW)(l b:Int)(f:Bool)(g:Int)(h:LU)(i j:Int)(k:RW)(r:TV)(e:LA):let A:=Q5 1 (Q7 m);let B:=Q15 2 n;let C:=Q156 7 5;let D:=Q168 9 1 1 a;let E:=Q42 12 6 d;let F:=Q15 13 l;let G:=Q164 (Q6 f) g (Q7 h) i j;let H:=getD d (toNat b) [];let I:=FV.S (getD H 0 FV.N);let J:=FV.I (getD H 1 FV.N);let K:=FV.I (getD H 2 FV.N);let L:=FV.I (getD H 3 FV.N);let M:=FV.I (getD H 4 FV.N);let N:=getD H 5 FV.N;let O:=wrap .i64 (b+1);let P:=Q152 15 0 r e (Q145 A B C D E F 14 O) [Q16 0 5 G,Q194 1 k] 2;VQ lv15 15 0 r e 1 ⟨Q145 A B C D E F 14 b,[Q16 0 5 G,Q194 1 k],2⟩=
  (br (decide (b<l)) (((FV.L 6 (Q3 6 d)=true)/\(0<=b)/\(b<(length d:Int))/\(([(.str I),(Q1 J),(Q1 K),(Q1 L),(Q1 M),N]:List FV)=H))/\br ((I:LU)==m) (br ((J:Int)==n) (∃o:Bool,∃p:Int,∃q:LU,∃n4 n5:Int,Q176 21 [.agg<|Q37 (Q7 I) J K (Q2 L) M<|Q0 N] (Q167 (Q6 o) p (Q7 q) n4 n5)/\∃s:Bool,Q91 20 [Q167 (Q6 o) p (Q7 q) n4 n5,Q167 (Q6 f) g (Q7 h) i j] s/\br s ((1<=1)/\(a<=(length k)/\zI (a+1) 8)/\Q152 15 0 r e (Q145 A B C (Q168 9 1 1<|a+1) E F 14 O) [Q16 0 5 G,Q194 1<|(take a k)++[[(Q1 b)]]] 2) P) P) P) (((1:Nat)=1/\(0+a)<=(length k))/\∃t:FV,Q176 33 [.c<|Q8 1<|take a<|drop 0 k] (.c<|Q0 t)/\RT (.c<|Q0 t) [] r e)):=zh
theorem KR (d:Int)(f:LU)(a:Int)(g:RW)(b:Nat)(k:Int)(h:RW)(r:TV)(e:LA):let A:=Q71 d f a g;let B:=Q157 4 h;let C:=wrap .i64 ((wrap .i64<|(b:Int)-(1:Int))-(wrap .i64<|a-k));let D:=getD h (0+(toNat C)) [];let E:=Q152 14 1 r e (Q109 (Q169 1 0 b) (Q15 2 k) (Q87 3 1) (Q87 6 2) (Q105 8) 9 0) [Q196 0 h,Q189 1 d f a g,Q75 2 4 0 [] 0] 3;let F:=br (d !=5) (br (d !=6) (RT A B r e) E) E;VE lv14 14 1 r e (Q173 A (.c<|Q4 0 4 0 b) k) B=
  (br (d==3) (br (decide (a>=k)) (br (decide ((a:Int)<(wrap .i64<|k+(b:Int)))) ((0<=C/\C<(b:Int))/\(((0+(toNat C))<(length h))/\(((rE D):List FV)=(take 4<|drop 0 D))/\((4:Nat)=4))/\∃i:Tm,Q176 31 (Q173 (aE D) (Q20 0) k) (aT i)/\RT (aT i) B r e)<|RT (Q170 3 []<|wrap .i64<|a-(b:Int)) B r e) F) F):=zh
theorem sL (j:Nat)(m k:Int)(l:RW)(a:Int)(d:LU)(e:Int)(b:RW)(f:Int)(g:LU)(h:Int)(r:TV)(i:LA):let A:=FV.L 4 (Q174 b)=true;let B:=(length b:Int);let C:=getD b (toNat k) [];let D:=A/\(0<=k)/\(k<B)/\(((rE C):List FV)=C);let E:=Q157 4 l;let F:=Q109 (Q169 1 0 j) (Q15 2 m) (Q87 3 1) (Q87 6 2) (Q169 8 3 1) 9 (wrap .i64<|k+1);let G:=FV.L 4 .N=true;let H:=((0:Nat):Int);VQ lv14 14 1 r i 1 ⟨Q109 (Q169 1 0 j) (Q15 2 m) (Q87 3 1) (Q87 6 2) (Q105 8) 9 k,[Q196 0 l,Q189 1 a d e b,Q75 2 4 f g h],3⟩=
  (A/\br (decide ((k:Int)<B)) (br (a==5) (D/\∃n:Tm,Q9 14 (Q173 (aE C) (.c<|Q4 0 4 0 j)<|wrap .i64<|m+1) E (aT n) E/\(1<=1)/\zI 1 56/\Q152 14 1 r i F [Q196 0 l,Q189 1 a d e b,Q75 2 4 f g h,Q196 3 [(FT4 n)]] 4) (D/\∃o:Tm,Q9 14 (Q173 (aE C) (.c<|Q4 0 4 0 j) m) E (aT o) E/\(1<=1)/\zI 1 56/\Q152 14 1 r i F [Q196 0 l,Q189 1 a d e b,Q75 2 4 f g h,Q196 3 [(FT4 o)]] 4)) (br (a==6) ((G/\(0<=(0:Int))/\((0:Int)<H)/\(([(Q1 0),(.str []),(Q1 0),.N]:List FV)=[]))/\G/\((0<=(1:Int))/\((1:Int)<=(0:Int))/\((0:Int)<=H))/\∃p:Tm,Q176 32 (Q89 (Q170 0 [] 0) Q26) (aT p)/\RT (aT p) E r i)<|RT (Q170 a [] 0) E r i)):=zh
theorem KK (k:Nat)(n:Int)(a:Nat)(m:Int)(o:RW)(b:Int)(e:LU)(f:Int)(d:RW)(g:Int)(h:LU)(i:Int)(l:RW)(r:TV)(j:LA):let A:=FV.L 4 (Q174 d)=true;let B:=(length d:Int);let C:=getD d (toNat m) [];let D:=A/\(0<=m)/\(m<B)/\(((rE C):List FV)=C);let E:=Q157 4 o;let F:=length l;let G:=a<=F/\zI (a+1) 56;let H:=Q109 (Q169 1 0 k) (Q15 2 n) (Q87 3 1) (Q87 6 2) (Q169 8 3<|a+1) 9 (wrap .i64<|m+1);let I:=getD l 0 [];let J:=(toNat (a:Int))-1;VQ lv14 14 1 r j 1 ⟨Q109 (Q169 1 0 k) (Q15 2 n) (Q87 3 1) (Q87 6 2) (Q169 8 3 a) 9 m,[Q196 0 o,Q189 1 b e f d,Q75 2 4 g h i,Q196 3 l],4⟩=
  (A/\br (decide ((m:Int)<B)) (br (b==5) (D/\∃p:Tm,Q9 14 (Q173 (aE C) (.c<|Q4 0 4 0 k)<|wrap .i64<|n+1) E (aT p) E/\(1<=1)/\G/\Q152 14 1 r j H [Q196 0 o,Q189 1 b e f d,Q75 2 4 g h i,Q196 3<|(take a l)++[(FT4 p)]] 4) (D/\∃q:Tm,Q9 14 (Q173 (aE C) (.c<|Q4 0 4 0 k) n) E (aT q) E/\(1<=1)/\G/\Q152 14 1 r j H [Q196 0 o,Q189 1 b e f d,Q75 2 4 g h i,Q196 3<|(take a l)++[(FT4 q)]] 4)) (br (b==6) ((0<=(0:Int)/\(0:Int)<(a:Int))/\((0<F)/\(((rE I):List FV)=(take 4<|drop 0 I))/\((4:Nat)=4))/\((0<=(1:Int))/\((1:Int)<=(a:Int))/\((a:Int)<=(a:Int)))/\((4:Nat)=4/\(1+J)<=F)/\∃s:Tm,Q176 32 [(aE I),Q69<|take J<|drop 1 l] (aT s)/\RT (aT s) E r j)<|((4:Nat)=4/\(0+a)<=F)/\RT (Q71 b [] 0<|take a<|drop 0 l) E r j)):=zh
def lv22:LV:=[(1,[2,5,6])]
theorem v22 (b:Int)(c:LU)(d:Int)(e:RW)(a:Int)(r:TV)(f:LA):VE lv22 22 0 r f (Q94 (Q71 b c d e) a) []=
  (Q152 22 0 r f [Q87 2 0,Q15 5<|wrap .i64<|a-1,Q15 6 0] [Q189 0 b c d e] 1):=zg
theorem v22_1a (g f e:Int)(c:LU)(d:Int)(a:RW)(r:TV)(b:LA):let A:=FV.L 4 (Q174 a)=true;let B:=(length a:Int);let C:=getD a (toNat f) [];VQ lv22 22 0 r b 1 ⟨[Q87 2 0,Q15 5 g,Q15 6 f],[Q189 0 e c d a],1⟩=
  (A/\br (decide ((f:Int)<B)) (br (decide (g>=0)) ((A/\(0<=f)/\(f<B)/\(((rE C):List FV)=C))/\∃h:Int,Q74 22 (Q94 (aE C) g) [] h []/\Q152 22 0 r b [Q87 2 0,Q15 5 h,Q15 6<|wrap .i64<|f+1] [Q189 0 e c d a] 1)<|Q192 g r b) (Q192 g r b)):=zh
theorem v23 (s:LU)(r:TV)(a:LA):let A:=(length s:Int);VE lv5 23 0 r a [.c<|Q7 s] []=
  (∃d:Bool,Q91 36 [.c<|Q7 s] d/\br d ((0<=(0:Int)/\(0:Int)<A)/\∃e:Bool,Q91 37 [.c<|Q0<|.int .u8 ((UInt8.toNat (getD s 0 0):Nat):Int)] e/\br e (∃b:Int,Q74 38 (Q146 (Q7 s)<|.fn (.func 39) [] []) [] b []/\Q50 ((b:Int)==A) r a) (Q57 r a)) (Q57 r a)):=zh
theorem v24 (s:LU)(r:TV)(a:LA):let A:=(length s:Int);VE lv5 24 0 r a [.c<|Q7 s] []=
  (∃d:Bool,Q91 36 [.c<|Q7 s] d/\br d (∃b:Int,Q74 38 (Q146 (Q7 s)<|.fn (.func 40) [] []) [] b []/\br ((b:Int)==A) (Q50 true r a) (br ((A:Int)==(1:Int)) (∃e:Bool,Q91 41 (Q146 (Q7 [44,59,33])<|Q7 s) e/\Q50 e r a)<|Q57 r a)) (Q57 r a)):=zh
theorem v25_F26 (s:RW)(r:TV)(a:LA):let A:=Q122 s (.fn (.func 26) [] []);VE lv5 25 0 r a A []=
  (∃b:Int,Q74 42 A [] b []/\Q50 (decide (b>=0)) r a):=zh
theorem v27 (k l:Int)(a:LU)(b:Int)(d:RW)(e:Int)(f:LU)(g:Int)(h:RW)(r:TV)(i:LA):VE lv5 27 0 r i [Q130 k (Q2 l) (Q7 a) (Q2 b) (Q53 d) (Q2 e) (Q7 f) (Q2 g) h] []=
  (((9:Nat)=9/\1<=1)/\∃n:Bool,Q91 43 (Q173 (.c<|Q8 9 [[(Q1 k),(Q1 l),(.str a),(Q1 b),(Q174 d),(Q1 e),(.str f),(Q1 g),(Q174 h)]]) (Q170 0 [116,114,117,101] 0) 0) n/\(true=true)/\br (!n) (Q33 (Q161 (Q37 (Q7 []) 0 0 (Q2 0) 0 Q26) 240) [] r i) (∃m:Cd,let A:=Q37 (Q7 m.nm) m.ar m.fr (Q2 m.vs) m.sl (Q8 8<|FIs m.ins);Q176 45 (Q94 (Q130 k (Q2 l) (Q7 a) (Q2 b) (Q53 d) (Q2 e) (Q7 f) (Q2 g) h) 0) (.agg A)/\∃j:Cd×Int,let B:=Q161 (Q37 (Q7 j.1.nm) j.1.ar j.1.fr (Q2 j.1.vs) j.1.sl<|Q8 8<|FIs j.1.ins) j.2;Q60 44 [.agg A] [] B []/\Q33 B [] r i)):=zg
theorem v28_F29 (f:Int)(g:LU)(h:Int)(i:RW)(e:Int)(a b:Nat)(k l:RW)(r:TV)(d:LA):let A:=Q70 1 a 2 b k 1 l;let B:=Q39 (Q190 0 [] 0);VE lv5 28 3 r d [Q71 f g h i,Q20 e,.c<|.fn (.func 29) [(false,[(Q107 0 2)])] []] A=
  (∃m:Bool,Q91 7 (Q125 f g h i) m/\br (!m) (Q33 (Q153 B 0 1) A r d) (∃j:Tm×Int×Int,Q60 29 (Q95 2 (Q71 f g h i)<|Q81 3 1) [Q65 1 a 2 b,Q40 k,Q52 l,Q100 e] (Q161 (cT j.1) j.2.1) [Q65 1 a 2 b,Q40 k,Q52 l,Q100 j.2.2]/\br (j.2.1 !=0) (Q33 (Q153 B 0 j.2.1) A r d) (Q33 (Q153 (Q39<|cT j.1) j.2.2 0) A r d))):=zh
theorem v31 (a:Int)(b:LU)(c:Int)(d:RW)(g h:Int)(r:TV)(e:LA):VE lv5 31 0 r e (Q173 (Q71 a b c d) (Q20 g) h) []=
  (∃f:Tm,Q176 53 [Q71 a b c d,Q20 g,Q20 h,Q20 0] (aT f)/\RT (aT f) [] r e):=zg
theorem v32 (d:Int)(e:LU)(f:Int)(b a:RW)(r:TV)(c:LA):let A:=FV.L 4 (Q174 a)=true;let B:=FV.L 4 (Q174 b)=true;let C:=length a;let D:=length b;let E:=(take D b)++a;let F:=[[(Q1 d),(.str e),(Q1 f),(Q174 b)]]++a;let G:=(1<=1)/\zI 1 56/\A/\(1<=1/\zI (1+C) 56)/\((4:Nat)=4/\(0+(1+C))<=(length F))/\RT (Q71 6 [] 0<|take (1+C)<|drop 0 F) [] r c;VE lv5 32 0 r c [Q71 d e f b,Q69 a] []=
  (A/\br (((length a:Int):Int)==(0:Int)) (RT (Q71 d e f b) [] r c) (br (d==6) (B/\br (decide (((length b:Int):Int)>(0:Int))) (B/\br (List.isEmpty b) (A/\br (List.isEmpty a) (RT (Q170 6 [] 0) [] r c) (zI C 56/\((4:Nat)=4/\(0+C)<=C)/\RT (Q71 6 [] 0<|take C<|drop 0 a) [] r c)) (zI D 56/\A/\(D<=D/\zI (D+C) 56)/\((4:Nat)=4/\(0+(D+C))<=(length E))/\RT (Q71 6 [] 0<|take (D+C)<|drop 0 E) [] r c)) G) G)):=zh
def lv30:LV:=[(1,[0,8,9,22]),(1000001,[1,2])]
theorem v30 (l:RW)(d:Int)(a b:Nat)(f g:RW)(r:TV)(e:LA):let A:=Q70 1 a 2 b f 1 g;VE lv30 30 3 r e (Q95 2 (.c<|Q8 8 l)<|Q20 d) A=
  (∃h:Bool,Q91 47 (Q146 (Q8 8 l)<|.fn (.func 48) [] []) h/\br h (Q33 (Q187 (Q36 0) 1) (Q155 3 a 4 b f g) r e) (∃n2 n3:Int,Q9 49 [Q83 2] A (.agg [Q2 n2,Q2 n3]) A/\∃i:RW,Q175 50 [.c<|Q8 8 l] (.c<|.fn (.func 74) [] [(false,[Q120])]) [Q10 1 [Q8 8 i]]/\Q152 30 3 r e [Q160 2,Q47 8 5 2,Q47 9 6 1,Q5 22<|.fn (.func 74) [] [(false,[(Q108 9)])]] [Q116 0 2 3 6 0 a 4 1 0 b,Q49 1,Q49 2,Q27 3 6 f,Q194 4 g,Q16 5 2 [Q2 n2,Q2 n3],Q16 6 1 [Q11 7 3 0 0],Q16 7 3<|Q68 0 2 0 0 (Q4 8 8 0 0) d,Q27 8 8 [],Q16 9 1 [Q8 8 i]] 10)):=zh
theorem v30_1an (a b:Nat)(h i:RW)(d e:Int)(c:Nat)(f:Int)(j g:RW)(K:St->Prop):mK 10 [3,4,8] [0,8,9,22] K ⟨[Q160 2,Q47 8 5 2,Q47 9 6 1,Q5 22<|.fn (.func 74) [] [(false,[(Q108 9)])]],[Q116 0 2 3 6 0 a 4 1 0 b,Q49 1,Q49 2,Q27 3 6 h,Q194 4 i,Q16 5 2 [Q2 d,Q2 e],Q16 6 1 [Q11 7 3 0 0],Q16 7 3<|Q68 0 2 0 0 (Q4 8 8 0 c) f,Q27 8 8 j,Q16 9 1 [Q8 8 g]],10⟩=
  (K ⟨[Q160 2,Q47 8 5 2,Q47 9 6 1,Q5 22<|.fn (.func 74) [] [(false,[(Q108 9)])]],[Q116 0 2 10 6 0 a 11 1 0 b,Q49 1,Q49 2,Q49 3,Q49 4,Q16 5 2 [Q2 d,Q2 e],Q16 6 1 [Q11 7 3 0 0],Q16 7 3<|Q68 0 2 0 0 (Q4 12 8 0 c) f,Q49 8,Q16 9 1 [Q8 8 g],Q27 10 6 h,Q194 11 i,Q27 12 8 j],13⟩):=zg
theorem v30_1ara (b d:Nat)(e f:Int)(a:Nat)(g:Int)(h j l i:RW)(k m:Int)(n:LU)(o:Int)(p:RW)(q:Int)(r:LU)(s:Int)(t:RW)(R:AHeap->Nat->Prop):vcR tB sh 30 10 [3,4,8] 1 [(0,(Q83 2)),(8,(Q81 5 2)),(9,(Q81 6 1)),(22,(.c<|.fn (.func 74) [] [(false,[(Q108 9)])]))] k (.agg<|Q159 m (Q7 n) (Q2 o) (Q53 p) (Q2 q) (Q7 r) (Q2 s)<|Q53 t) [(0,(Q65 10 b 11 d)),(1,.gone),(2,.gone),(3,.gone),(4,.gone),(5,(Q10 2 [Q2 e,Q2 f])),(6,(Q10 1 [Q11 7 3 0 0])),(7,(Q96 3 0 2 0 0 12 8 0 a g)),(8,.gone),(9,(Q10 1 [Q8 8 h])),(10,(Q40 j)),(11,(Q52 l)),(12,(.arz 8 i))] 13 R=
  ((1<=1)/\((a<=(length i)/\zI (a+1) 112)/\(R [(0,(Q65 10 b 11 d)),(1,.gone),(2,.gone),(3,.gone),(4,.gone),(5,(Q10 2 [Q2 e,Q2 f])),(6,(Q10 1 [Q11 7 3 0 0])),(7,(Q96 3 0 2 0 0 12 8 0 (a+1) g)),(8,.gone),(9,(Q10 1 [Q8 8 h])),(10,(Q40 j)),(11,(Q52 l)),(12,(.arz 8<|(take a i)++[[(Q1 m),(.str n),(Q1 o),(Q174 p),(Q1 q),(.str r),(Q1 s),(Q174 t)]]))] 13))):=zg
theorem v30_1aza (b c:Nat)(f g:Int)(d:Nat)(h:Int)(j k l m:RW)(r:TV)(e:LA):vcA tB sh lv30 30 3 (λr0 Hs0=>TV.Le r0 r/\Hs0=e) (RPt tB 30 3 r e) 1 ⟨[Q160 2,Q47 8 5 2,Q47 9 6 1,Q5 22<|.fn (.func 74) [] [(false,[(Q108 9)])]],[Q116 0 2 10 6 0 b 11 1 0 c,Q49 1,Q49 2,Q49 3,Q49 4,Q16 5 2 [Q2 f,Q2 g],Q16 6 1 [Q11 7 3 0 0],Q16 7 3<|Q68 0 2 0 0 (Q4 12 8 0 d) h,Q49 8,Q16 9 1 [Q8 8 j],Q27 10 6 k,Q194 11 l,Q27 12 8 m],13⟩=
  (∃a:Int×Sto×Nat×RW×Int,((Q74 51 [Q83 3] (Q195 (Q96 3 1 2 0 0 4 8 0 d h) (Q65 2 b 3 c) k l 8 m) a.1<|Q154 (Q96 3 1 2 0 0 7 8 0 a.2.2.1 a.2.2.2.2) 5 (length a.2.1.V) 6 (length a.2.1.T) (SR a.2.1.V) (IR a.2.1.T) 8 a.2.2.2.1)/\(br (a.1 !=0) (∃i:Sto,((Q60 52 (Q178 2 [Q2 f,Q2 g]) (Q70 1 (length a.2.1.V) 2 (length a.2.1.T) (SR a.2.1.V) 1<|IR a.2.1.T) []<|Q155 3 (length i.V) 4 (length i.T) (SR i.V)<|IR i.T)/\(Q33 (Q187 (Q36 0) a.1) (Q155 3 (length i.V) 4 (length i.T) (SR i.V)<|IR i.T) r e)))<|Q33 (Q187 (Q36 a.2.2.2.2) 0) (Q155 3 (length a.2.1.V) 4 (length a.2.1.T) (SR a.2.1.V)<|IR a.2.1.T) r e))):=zg
theorem v21 (c:LU)(d e f g:Int)(a:RW)(r:TV)(b:LA):let A:=FV.L 8 (Q3 8 a)=true;let B:=(length a:Int);let C:=RT (Q167 Q79 0 (Q7 []) 0 0) [] r b;let D:=getD a 0 [];let E:=FV.I (getD D 0 FV.N);let F:=FV.I (getD D 1 FV.N);let G:=FV.I (getD D 2 FV.N);let H:=FV.S (getD D 3 FV.N);let I:=FV.I (getD D 4 FV.N);let J:=getD D 5 FV.N;let K:=A/\(0<=(0:Int))/\((0:Int)<B)/\(([(Q1 E),(Q1 F),(Q1 G),(.str H),(Q1 I),J,(getD D 6 FV.N),(getD D 7 FV.N)]:List FV)=D);let M:=K/\∃h:Bool,∃i:Int,∃j:LU,∃k:Int,∃l:Int,let L:=Q167 (Q6 h) i (Q7 j) k l;Q176 16 [Q138 G H I J] L/\RT L [] r b;VE lv5 21 0 r b [.agg<|Q37 (Q7 c) d e (Q2 f) g<|Q8 8 a] []=
  (A/\br ((B:Int)==(0:Int)) C (K/\br (F !=0) C (K/\br (E==0) M (br (E==1) M C)))):=zh
theorem v20 (a:Bool)(d:Int)(e:LU)(h i:Int)(b:Bool)(f:Int)(g:LU)(j k:Int)(r:TV)(c:LA):let A:=Q50 true r c;VE lv5 20 0 r c [Q167 (Q6 a) d (Q7 e) h i,Q167 (Q6 b) f (Q7 g) j k] []=
  (br a A<|br b A<|Q50 (((a:Bool)==b)&&((d==f)&&(((e:LU)==g)&&((h==j)&&((i==k)&&true))))) r c):=zh
theorem v33 (s:RW)(r:TV)(a:LA):let A:=FV.L 1 (Q3 1 s)=true;let B:=(length s:Int);VE lv5 33 0 r a [.c<|Q8 1 s] []=
  (A/\A/\A/\((0<=(0:Int))/\((0:Int)<=B)/\(B<=B)/\(B<=B))/\br ((B:Int)==0) (RT (.c<|Q0<|.z0 false) [] r a) (RT (.c<|Q8 1<|drop 0<|take (toNat B) s) [] r a)):=zh
theorem v36 (s:LU)(r:TV)(a:LA):VE lv5 36 0 r a [.c<|Q7 s] []=
  (br (!((s:LU)==[])) (Q50 (decide (((length s:Int):Int)<=(32:Int))) r a)<|Q57 r a):=zg
theorem v37 (c:Int)(r:TV)(a:LA):VE lv5 37 0 r a [.c<|Q0<|.int .u8 c] []=
  (br (decide (97<=c)) (Q50 (decide (c<=122)) r a)<|Q57 r a):=zg
def lv38:LV:=[(1,[0,1,7,8])]
theorem v38_F39 (s:LU)(r:TV)(a:LA):VE lv38 38 0 r a (Q146 (Q7 s)<|.fn (.func 39) [] []) []=
  (Q162 38 0 r a (Q5 0<|Q7 s) 1 (.fn (.func 39) [] []) 7 (length s:Int) 8 0 [] 0):=zg
theorem W4 (d:LU)(e b:Int)(r:TV)(a:LA):let A:=(length d:Int);VQ lv38 38 0 r a 1 ⟨Q121 (Q5 0<|Q7 d) 1 (.fn (.func 39) [] []) 7 e 8 b,[],0⟩=
  (br (decide (b<e)) ((0<=b/\b<A)/\∃f:Bool,Q91 39 [.c<|Q0<|.int .u8 ((UInt8.toNat (getD d (toNat b) 0):Nat):Int)] f/\br (!f) (Q192 b r a) (Q162 38 0 r a (Q5 0<|Q7 d) 1 (.fn (.func 39) [] []) 7 e 8 (wrap .i64<|b+1) [] 0))<|Q192 A r a):=zh
theorem v38_F40 (s:LU)(r:TV)(a:LA):VE lv38 38 0 r a (Q146 (Q7 s)<|.fn (.func 40) [] []) []=
  (Q162 38 0 r a (Q5 0<|Q7 s) 1 (.fn (.func 40) [] []) 7 (length s:Int) 8 0 [] 0):=zg
theorem Wb (d:LU)(e b:Int)(r:TV)(a:LA):let A:=(length d:Int);VQ lv38 38 0 r a 1 ⟨Q121 (Q5 0<|Q7 d) 1 (.fn (.func 40) [] []) 7 e 8 b,[],0⟩=
  (br (decide (b<e)) ((0<=b/\b<A)/\∃f:Bool,Q91 40 [.c<|Q0<|.int .u8 ((UInt8.toNat (getD d (toNat b) 0):Nat):Int)] f/\br (!f) (Q192 b r a) (Q162 38 0 r a (Q5 0<|Q7 d) 1 (.fn (.func 40) [] []) 7 e 8 (wrap .i64<|b+1) [] 0))<|Q192 A r a):=zh
theorem v41 (s a:LU)(r:TV)(b:LA):let A:=Q146 (Q7 s) (Q7 a);VE lv5 41 0 r b A []=
  (∃c:Int,Q74 58 A [] c []/\Q50 (decide (c>=0)) r b):=zh
theorem v42_F26 (s:RW)(r:TV)(a:LA):VE lv38 42 0 r a (Q122 s<|.fn (.func 26) [] []) []=
  ((FV.L 4 (Q174 s)=true)/\Q162 42 0 r a (Q118 0 s) 1 (.fn (.func 26) [] []) 7 (length s:Int) 8 0 [] 0):=zg
theorem Wu (c:RW)(d b:Int)(r:TV)(a:LA):let A:=getD c (toNat b) [];VQ lv38 42 0 r a 1 ⟨Q121 (Q118 0 c) 1 (.fn (.func 26) [] []) 7 d 8 b,[],0⟩=
  (br (decide (b<d)) (((FV.L 4 (Q174 c)=true)/\(0<=b)/\(b<(length c:Int))/\(((rE A):List FV)=A))/\∃e:Bool,Q91 26 [(aE A)] e/\br e (Q192 b r a) (Q162 42 0 r a (Q118 0 c) 1 (.fn (.func 26) [] []) 7 d 8 (wrap .i64<|b+1) [] 0))<|Q192 (-1:Int) r a):=zh
theorem v43 (g:RW)(a:Int)(b:LU)(d:Int)(e:RW)(f:Int)(r:TV)(h:LA):let A:=Q71 a b d e;let B:=Q57 r h;VE lv5 43 0 r h (Q173 (.c<|Q8 9 g) A f) []=
  (∃i:Bool,Q91 59 [Q20 f] i/\br (!i) B (∃j:Bool,Q91 60 (Q173 A (Q20 f) 0) j/\br (!j) B (∃k:Int,Q74 61 (Q125 a b d e) [] k []/\br (k !=0) B (∃l:Bool,Q91 62 (Q146 (Q8 9 g)<|.fn (.func 63) [] []) l/\Q50 (!l) r h)))):=zh
def lv45:LV:=[(1,[1,2,4,5,16,17]),(5,[1,2,4,8,9,10,11,45,46,47])]
theorem v45 (a j:Int)(b:LU)(c:Int)(d:RW)(e:Int)(f:LU)(g:Int)(h:RW)(k:Int)(r:TV)(i:LA):VE lv45 45 0 r i (Q94 (Q130 a (Q2 j) (Q7 b) (Q2 c) (Q53 d) (Q2 e) (Q7 f) (Q2 g) h) k) []=
  (Q152 45 0 r i (Q109 (Q15 1 k) (Q156 2 9) (Q47 4 1 6) (Q105 5) (Q15 16 a) 17 0) [Q16 0 9<|Q117 a (Q2 j) (Q7 b) (Q2 c) (Q53 d) (Q2 e) (Q7 f) (Q2 g) h,Q139 1 6 (Q7 []) 0 0 (Q2 0) 0 Q26] 2):=zg
theorem v45_1a (s q g b o:Int)(h:LU)(i:Int)(j:RW)(k:Int)(l:LU)(m:Int)(n:RW)(a:LU)(c d e f:Int)(r:TV)(p:LA):let A:=Q117 b (Q2 o) (Q7 h) (Q2 i) (Q53 j) (Q2 k) (Q7 l) (Q2 m) n;VQ lv45 45 0 r p 1 ⟨Q109 (Q15 1 s) (Q156 2 9) (Q47 4 1 6) (Q105 5) (Q15 16 q) 17 g,[Q16 0 9 A,Q139 1 6 (Q7 a) c d (Q2 e) f Q26],2⟩=
  (br (decide (g<q)) (∃v:Tm,Q176 66 [Q20<|wrap .i64<|s+g] (aT v)/\(1<=1)/\zI 1 56/\Q152 45 0 r p (Q109 (Q15 1 s) (Q156 2 9) (Q47 4 1 6) (Q169 5 2 1) (Q15 16 q) 17<|wrap .i64<|g+1) [Q16 0 9 A,Q139 1 6 (Q7 a) c d (Q2 e) f Q26,Q196 2 [(FT4 v)]] 3) (∃t:Tm×Tm,Q60 67 (Q89 (Q130 b (Q2 o) (Q7 h) (Q2 i) (Q53 j) (Q2 k) (Q7 l) (Q2 m) n) Q26) [] (Q48 (cT t.1)<|Q39<|cT t.2) []/\∃u:Tm×List Tm,let B:=FTs u.2;Q60 68 [(aT t.1)] [] (Q55 (cT u.1)<|Q180 B) []/\(FV.L 4 (Q174 B)=true)/\Q51 45 0 r p 5 [Q15 1 s,Q156 2 9,Q47 4 1 6,Q87 8 2,Q87 9 3,Q118 10 B,Q47 11 4 2,Q118 45 B,Q15 46 (length B:Int),Q15 47 0] [Q16 0 9 A,Q139 1 6 (Q7 a) c d (Q2 e) f Q26,Q16 2 4<|cT t.2,Q16 3 4<|cT u.1,Q78 4 2 (Q2<|wrap .i64<|s+b) 5 8 0 0,Q27 5 8 []] 6)):=zh
theorem v45_1b (t:Int)(a:Nat)(s h c p:Int)(i:LU)(j:Int)(k:RW)(l:Int)(m:LU)(n:Int)(o:RW)(b:LU)(d e f g:Int)(u:RW)(r:TV)(q:LA):let A:=Q117 c (Q2 p) (Q7 i) (Q2 j) (Q53 k) (Q2 l) (Q7 m) (Q2 n) o;VQ lv45 45 0 r q 1 ⟨Q109 (Q15 1 t) (Q156 2 9) (Q47 4 1 6) (Q169 5 2 a) (Q15 16 s) 17 h,[Q16 0 9 A,Q139 1 6 (Q7 b) d e (Q2 f) g Q26,Q196 2 u],3⟩=
  (br (decide (h<s)) (∃x:Tm,Q176 66 [Q20<|wrap .i64<|t+h] (aT x)/\(1<=1)/\(a<=(length u)/\zI (a+1) 56)/\Q152 45 0 r q (Q109 (Q15 1 t) (Q156 2 9) (Q47 4 1 6) (Q169 5 2<|a+1) (Q15 16 s) 17<|wrap .i64<|h+1) [Q16 0 9 A,Q139 1 6 (Q7 b) d e (Q2 f) g Q26,Q196 2<|(take a u)++[(FT4 x)]] 3) (((4:Nat)=4/\(0+a)<=(length u))/\∃v:Tm×Tm,Q60 67 [Q130 c (Q2 p) (Q7 i) (Q2 j) (Q53 k) (Q2 l) (Q7 m) (Q2 n) o,Q69<|take a<|drop 0 u] [] (Q48 (cT v.1)<|Q39<|cT v.2) []/\∃w:Tm×List Tm,let B:=FTs w.2;Q60 68 [(aT v.1)] [] (Q55 (cT w.1)<|Q180 B) []/\(FV.L 4 (Q174 B)=true)/\Q51 45 0 r q 5 [Q15 1 t,Q156 2 9,Q47 4 1 6,Q87 8 2,Q87 9 3,Q118 10 B,Q47 11 4 2,Q118 45 B,Q15 46 (length B:Int),Q15 47 0] [Q16 0 9 A,Q139 1 6 (Q7 b) d e (Q2 f) g Q26,Q16 2 4<|cT v.2,Q16 3 4<|cT w.1,Q78 4 2 (Q2<|wrap .i64<|t+c) 5 8 0 0,Q27 5 8 []] 6)):=zh
theorem v45_5a (T:Int)(m g:RW)(t a v S:Int)(y:LU)(z:Int)(L:RW)(M:Int)(N:LU)(O:Int)(P:RW)(h:LU)(n o p q f:Int)(b:LU)(c:Int)(d:RW)(i:Int)(e:LU)(j:Int)(k:RW)(u:Int)(l:Nat)(V:RW)(r:TV)(s:LA):let A:=Q117 v (Q2 S) (Q7 y) (Q2 z) (Q53 L) (Q2 M) (Q7 N) (Q2 O) P;let B:=getD g (toNat a) [];let C:=FV.I (getD B 0 FV.N);let D:=Q7 (FV.S<|getD B 1 FV.N);let E:=Q2 (FV.I<|getD B 2 FV.N);let F:=Q0 (getD B 3 FV.N);let G:=Q184 2 u 1 8 0 l 8 V;let H:=wrap .i64 (a+1);let I:=(∃w:Int×Int×List In1,Q74 69 (Q178 2<|Q159 1 (Q2 a) (Q2 C) D E F Q26 Q26) G w.1 (Q111 2 w.2.1 2 8 0 (length w.2.2) 8<|FIs w.2.2)/\Q51 45 0 r s 5 [Q15 1 T,Q156 2 9,Q47 4 1 6,Q87 8 2,Q87 9 3,Q118 10 m,Q47 11 4 2,Q118 45 g,Q15 46 t,Q15 47 H] [Q16 0 9 A,Q139 1 6 (Q7 h) n o (Q2 p) q Q26,Q189 2 f b c d,Q189 3 i e j k,Q78 4 2 (Q2 w.2.1) 5 8 0<|length w.2.2,Q27 5 8<|FIs w.2.2] 6);VQ lv45 45 0 r s 5 ⟨[Q15 1 T,Q156 2 9,Q47 4 1 6,Q87 8 2,Q87 9 3,Q118 10 m,Q47 11 4 2,Q118 45 g,Q15 46 t,Q15 47 a],[Q16 0 9 A,Q139 1 6 (Q7 h) n o (Q2 p) q Q26,Q189 2 f b c d,Q189 3 i e j k,Q78 4 2 (Q2 u) 5 8 0 l,Q27 5 8 V],6⟩=
  (br (decide (a<t)) (((FV.L 4 (Q174 g)=true)/\(0<=a)/\(a<(length g:Int))/\(((rE B):List FV)=B))/\br (C==0) I (br (C==2) I (∃x:Int×Int×List In1,Q74 69 (Q178 2<|Q159 0 (Q2 a) (Q2 C) D E F Q26 Q26) G x.1 (Q111 2 x.2.1 2 8 0 (length x.2.2) 8<|FIs x.2.2)/\Q51 45 0 r s 5 [Q15 1 T,Q156 2 9,Q47 4 1 6,Q87 8 2,Q87 9 3,Q118 10 m,Q47 11 4 2,Q118 45 g,Q15 46 t,Q15 47 H] [Q16 0 9 A,Q139 1 6 (Q7 h) n o (Q2 p) q Q26,Q189 2 f b c d,Q189 3 i e j k,Q78 4 2 (Q2 x.2.1) 5 8 0<|length x.2.2,Q27 5 8<|FIs x.2.2] 6))) (∃U:Int×List In1,let J:=length U.2;let K:=FIs U.2;Q60 70 (Q177 2<|Q71 f b c d) G [] (Q111 2 U.1 2 8 0 J 8 K)/\(FV.L 4 (Q174 m)=true)/\((8:Nat)=8/\(0+J)<=(length K))/\RT (.agg<|Q37 (Q7 e) (length m:Int) T (Q2 v) U.1<|Q8 8<|take J<|drop 0 K) [] r s)):=zh
theorem v44 (b:LU)(d e f g:Int)(c:RW)(r:TV)(a:LA):let A:=Q37 (Q7 b) d e (Q2 f) g (Q8 8 c);VE lv5 44 0 r a [.agg A] []=
  (∃h:Bool,Q91 65 [.agg A] h/\br (!h) (Q33 (Q161 (Q37 (Q7 []) 0 0 (Q2 0) 0 Q26) 240) [] r a) (Q33 (Q161 A 0) [] r a)):=zh
def lv29:LV:=[(1,[0,2,4,6])]
theorem v29 (d:Int)(e:LU)(f:Int)(g:RW)(a b:Nat)(i j:RW)(c:Int)(r:TV)(h:LA):VE lv29 29 4 r h (Q95 2 (Q71 d e f g)<|Q81 3 1) [Q65 1 a 2 b,Q40 i,Q52 j,Q100 c]=
  (Q152 29 4 r h [Q160 2,Q47 2 3 1,Q87 4 4,Q87 6 5] [Q116 0 2 1 6 0 a 2 1 0 b,Q27 1 6 i,Q194 2 j,Q129 3 1 c,Q189 4 d e f g,Q75 5 4 0 [] 0] 6):=zg
theorem v29_1a (a b:Nat)(m n:RW)(c g:Int)(d:LU)(e:Int)(f:RW)(i:Int)(j:LU)(k:Int)(r:TV)(h:LA):let A:=Q70 1 a 2 b m 1 n;let B:=Q33 (Q161 (Q190 0 [] 0) 80) [Q65 1 a 2 b,Q40 m,Q52 n,Q100 c] r h;VQ lv29 29 4 r h 1 ⟨[Q160 2,Q47 2 3 1,Q87 4 4,Q87 6 5],[Q116 0 2 1 6 0 a 2 1 0 b,Q27 1 6 m,Q194 2 n,Q129 3 1 c,Q189 4 g d e f,Q75 5 4 i j k],6⟩=
  (∃l:Tm×Bool×Int,Q60 46 (Q177 2<|Q71 g d e f) A (Q97 (Q39<|cT l.1) (Q137<|Q6 l.2.1) l.2.2) A/\br (!l.2.1) (Q33 (Q161 (Q92 g d e f) 0) [Q65 1 a 2 b,Q40 m,Q52 n,Q100 c] r h) (br (l.2.2 !=0) B<|br (decide (c<=0)) B<|Q152 29 4 r h [Q160 2,Q47 2 3 1,Q87 4 4,Q87 6 5] [Q116 0 2 1 6 0 a 2 1 0 b,Q27 1 6 m,Q194 2 n,Q129 3 1<|wrap .i64<|c-1,Q16 4 4<|cT l.1,Q75 5 4 i j k] 6)):=zh
def lv53:LV:=[(1,[1,2,3,4,8,10,11])]
theorem v53 (a:Int)(c:LU)(b:Int)(d:RW)(f g k:Int)(r:TV)(e:LA):let A:=(∃h:Bool,Q91 78 (Q125 a c b d) h/\br (!h) (RT (Q71 a c b d) [] r e) (Q152 53 0 r e (Q145 (Q15 1 f) (Q15 2 g) (Q15 3 k) (Q87 4 0) (Q87 8 1) (Q105 10) 11 0) [Q189 0 a c b d,Q75 1 4 0 [] 0] 2));VE lv53 53 0 r e [Q71 a c b d,Q20 f,Q20 g,Q20 k] []=
  (br (a==3) (br (decide ((b:Int)>=(wrap .i64<|k+f))) (RT (Q71 a c (wrap .i64<|b+g) d) [] r e) A) A):=zh
theorem v53_1a (j k l b e:Int)(c:LU)(d:Int)(a:RW)(f:Int)(g:LU)(h:Int)(r:TV)(i:LA):let A:=FV.L 4 (Q174 a)=true;let B:=(length a:Int);let C:=getD a (toNat b) [];let D:=Q71 e c d a;VQ lv53 53 0 r i 1 ⟨Q145 (Q15 1 j) (Q15 2 k) (Q15 3 l) (Q87 4 0) (Q87 8 1) (Q105 10) 11 b,[Q189 0 e c d a,Q75 1 4 f g h],2⟩=
  (A/\br (decide ((b:Int)<B)) ((A/\(0<=b)/\(b<B)/\(((rE C):List FV)=C))/\∃m:Int,Q74 79 (Q94 D l) [] m []/\∃n:Tm,Q176 53 [(aE C),Q20 j,Q20 k,Q20 m] (aT n)/\(1<=1)/\zI 1 56/\Q152 53 0 r i (Q145 (Q15 1 j) (Q15 2 k) (Q15 3 l) (Q87 4 0) (Q87 8 1) (Q169 10 2 1) 11<|wrap .i64<|b+1) [Q189 0 e c d a,Q75 1 4 f g h,Q196 2 [(FT4 n)]] 3) (∃o:Tm,Q176 80 (Q89 D Q26) (aT o)/\RT (aT o) [] r i)):=zh
theorem v53_1b (l m n:Int)(a:Nat)(f e:Int)(c:LU)(d:Int)(b:RW)(g:Int)(h:LU)(i:Int)(k:RW)(r:TV)(j:LA):let A:=FV.L 4 (Q174 b)=true;let B:=(length b:Int);let C:=getD b (toNat f) [];VQ lv53 53 0 r j 1 ⟨Q145 (Q15 1 l) (Q15 2 m) (Q15 3 n) (Q87 4 0) (Q87 8 1) (Q169 10 2 a) 11 f,[Q189 0 e c d b,Q75 1 4 g h i,Q196 2 k],3⟩=
  (A/\br (decide ((f:Int)<B)) ((A/\(0<=f)/\(f<B)/\(((rE C):List FV)=C))/\∃o:Int,Q74 79 (Q94 (Q71 e c d b) n) [] o []/\∃p:Tm,Q176 53 [(aE C),Q20 l,Q20 m,Q20 o] (aT p)/\(1<=1)/\(a<=(length k)/\zI (a+1) 56)/\Q152 53 0 r j (Q145 (Q15 1 l) (Q15 2 m) (Q15 3 n) (Q87 4 0) (Q87 8 1) (Q169 10 2<|a+1) 11<|wrap .i64<|f+1) [Q189 0 e c d b,Q75 1 4 g h i,Q196 2<|(take a k)++[(FT4 p)]] 3) (((4:Nat)=4/\(0+a)<=(length k))/\∃q:Tm,Q176 80 [Q71 e c d b,Q69<|take a<|drop 0 k] (aT q)/\RT (aT q) [] r j)):=zh
theorem v47_F48 (s:RW)(r:TV)(a:LA):let A:=Q146 (Q8 8 s) (.fn (.func 48) [] []);VE lv5 47 0 r a A []=
  (∃b:Int,Q74 73 A [] b []/\Q50 (decide (b>=0)) r a):=zh
theorem v49 (b a:Nat)(d e:RW)(r:TV)(c:LA):let A:=Q70 1 b 2 a d 1 e;VE lv5 49 3 r c [Q83 2] A=
  (RT (.agg [Q2 (a:Int),Q2 (b:Int)]) A r c):=zh
theorem v50 (s:RW)(r:TV)(a:LA):VE lv5 50 0 r a [.c<|Q8 8 s] []=
  (RT (.c<|.fn (.func 74) [] [(false,[Q120])]) [Q10 1 [Q8 8 s]] r a):=zg
def lv51:LV:=[(1,[0]),(1000001,[2,3,4])]
theorem v51 (a:Nat)(d:Int)(b c:Nat)(f g h:RW)(r:TV)(e:LA):VE lv51 51 5 r e [Q83 3] (Q195 (Q96 3 1 2 0 0 4 8 0 a d) (Q65 2 b 3 c) f g 8 h)=
  (Q152 51 5 r e [Q160 3] [Q16 0 3<|Q68 1 2 0 0 (Q4 7 8 0 a) d,Q116 1 2 5 6 0 b 6 1 0 c,Q49 2,Q49 3,Q49 4,Q27 5 6 f,Q194 6 g,Q27 7 8 h] 8):=zg
theorem pm (a:Nat)(d:Int)(b c:Nat)(h i g:RW)(r:TV)(f:LA):let A:=wrap .i64 ((a:Int)-(1:Int));let B:=toNat A;let C:=getD g (0+B) [];let D:=FV.I (getD C 0 FV.N);let E:=FV.S (getD C 1 FV.N);let F:=FV.I (getD C 2 FV.N);let G:=getD C 3 FV.N;let H:=FV.I (getD C 4 FV.N);let I:=FV.S (getD C 5 FV.N);let J:=FV.I (getD C 6 FV.N);let K:=getD C 7 FV.N;VQ lv51 51 5 r f 1 ⟨[Q160 3],[Q16 0 3<|Q68 1 2 0 0 (Q4 7 8 0 a) d,Q116 1 2 5 6 0 b 6 1 0 c,Q49 2,Q49 3,Q49 4,Q27 5 6 h,Q194 6 i,Q27 7 8 g],8⟩=
  (br (decide (((a:Int):Int)>(0:Int))) ((0<=A/\A<(a:Int))/\(((0+B)<(length g))/\(([(Q1 D),(.str E),(Q1 F),G,(Q1 H),(.str I),(Q1 J),K]:List FV)=(take 8<|drop 0 C))/\((8:Nat)=8))/\((0<=(0:Int))/\((0:Int)<=A)/\(A<=(a:Int)))/\br (decide (d<=0)) (Q54 80 (Q154 (Q96 3 1 2 0 0 7 8 0 B d) 5 b 6 c h i 8 g) r f) (∃e:Int×Sto×Nat×RW×Int,let L:=length e.2.1.V;let M:=length e.2.1.T;let N:=Q154 (Q96 3 1 2 0 0 7 8 0 e.2.2.1 e.2.2.2.2) 5 L 6 M (SR e.2.1.V) (IR e.2.1.T) 8 e.2.2.2.1;Q74 75 (Q178 3<|Q159 D (Q7 E) (Q2 F) (Q0 G) (Q2 H) (Q7 I) (Q2 J)<|Q0 K) (Q195 (Q96 3 1 2 0 0 4 8 0 B<|wrap .i64<|d-1) (Q65 2 b 3 c) h i 8 g) e.1 N/\br (e.1 !=0) (Q54 e.1 N r f) (Q152 51 5 r f [Q160 3] [Q16 0 3<|Q68 1 2 0 0 (Q4 7 8 0 e.2.2.1) e.2.2.2.2,Q116 1 2 5 6 0 L 6 1 0 M,Q49 2,Q49 3,Q49 4,Q27 5 6<|SR e.2.1.V,Q194 6<|IR e.2.1.T,Q27 7 8 e.2.2.2.1] 8)))<|Q54 0 (Q154 (Q96 3 1 2 0 0 7 8 0 a d) 5 b 6 c h i 8 g) r f):=zh
def lv52:LV:=[(1,[0,3,4,22,23,24]),(1000001,[1,2])]
theorem v52 (c e:Int)(b a:Nat)(f g:RW)(r:TV)(d:LA):let A:=xI [(xH [c,(0:Int)]),(a:Int)];let B:=(toNat (a:Int))-(toNat A);VE lv52 52 3 r d (Q178 2 [Q2 c,Q2 e]) (Q70 1 b 2 a f 1 g)=
  (((0<=A)/\(A<=(a:Int))/\((a:Int)<=(a:Int)))/\Q152 52 3 r d (Q109 (Q160 2) (Q47 3 5 2) (Q15 4 A) (Q82 22 4 1 (0+(toNat A)) B) (Q15 23 ((B:Nat):Int)) 24 0) [Q116 0 2 3 6 0 b 4 1 0 a,Q49 1,Q49 2,Q27 3 6 f,Q194 4 g,Q16 5 2 [Q2 c,Q2 e]] 6):=zh
theorem v52_1a (m:Int)(g f:Nat)(k d:Int)(a b:Nat)(l h:RW)(i e:Int)(r:TV)(j:LA):let A:=Q82 22 4 1 g f;let B:=g+(toNat d);let C:=FV.I (getD (getD h B []) 0 FV.N);let D:=0<=C/\C<(a:Int);let E:=0+(toNat C);let F:=getD l E [];let G:=Q1 (FV.I<|getD F 0 FV.N);let H:=0<=(0:Int);let I:=xI [(xH [e,(0:Int)]),(a:Int)];VQ lv52 52 3 r j 1 ⟨Q109 (Q160 2) (Q47 3 5 2) (Q15 4 m) A (Q15 23 k) 24 d,[Q116 0 2 3 6 0 a 4 1 0 b,Q49 1,Q49 2,Q27 3 6 l,Q194 4 h,Q16 5 2 [Q2 i,Q2 e]],6⟩=
  (br (decide (d<k)) ((0<=d/\d<(f:Int))/\((B<(length h))/\(([(Q1 C)]:List FV)=(take 1<|drop 0<|getD h B []))/\((1:Nat)=1))/\D/\((E<(length l))/\(([G]:List FV)=(take 1<|drop 0 F))/\((1:Nat)=1))/\D/\(E<(length l)/\(length F)=6)/\Q152 52 3 r j (Q109 (Q160 2) (Q47 3 5 2) (Q15 4 m) A (Q15 23 k) 24<|wrap .i64<|d+1) [Q116 0 2 3 6 0 a 4 1 0 b,Q49 1,Q49 2,Q27 3 6<|List.set l E [G,(.bool false),(Q1 0),(.str []),(Q1 0),.N],Q194 4 h,Q16 5 2 [Q2 i,Q2 e]] 6) ((H/\((0:Int)<=I)/\(I<=(a:Int)))/\(H/\((0:Int)<=m)/\(m<=(b:Int)))/\∃n:Nat,Q9 76 (Q146 (Q4 0 1 0<|toNat m)<|.fn (.func 77) [] [(false,[(Q108 1)])]) [Q52 h,Q100 I] (.c<|Q4 0 1 0 n) [Q52 h,Q100 I]/\Q33 [] (Q155 3 (toNat I) 4 n l h) r j)):=zh
theorem v39 (c:Int)(r:TV)(a:LA):let A:=Q0 (.int .u8 c);let B:=Q50 true r a;VE lv5 39 0 r a [.c A] []=
  (∃b:Bool,Q91 37 [.c A] b/\br b B (∃d:Bool,Q91 55 [.c A] d/\br d B (∃e:Bool,Q91 56 [.c A] e/\br e B (Q50 (c==39) r a)))):=zh
theorem v40 (c:Int)(r:TV)(a:LA):let A:=Q0 (.int .u8 c);VE lv5 40 0 r a [.c A] []=
  (∃b:Int,Q74 57 (Q146 (Q7 [43,45,42,47,60,62,61,38,124,94,126,64,35,36,63,58]) A) [] b []/\Q50 (decide (b>=0)) r a):=zh
theorem v58 (s a:LU)(r:TV)(b:LA):let A:=Q146 (Q7 s) (Q7 a);VE lv5 58 0 r b A []=
  (∃c:Int,Q74 82 A [] c []/\Q192 c r b):=zh
theorem v26 (b:Int)(c:LU)(d:Int)(e:RW)(r:TV)(a:LA):let A:=Q125 b c d e;VE lv5 26 0 r a A []=
  (∃f:Bool,Q91 7 A f/\Q50 (!f) r a):=zh
theorem v59 (n:Int)(r:TV)(a:LA):VE lv5 59 0 r a [Q20 n] []=
  (br (decide (0<=n)) (Q50 (decide (n<=4096)) r a)<|Q57 r a):=zg
theorem v60 (d:Int)(e:LU)(f:Int)(g:RW)(c a:Int)(r:TV)(b:LA):let A:=Q71 d e f g;let B:=Q125 d e f g;VE lv5 60 0 r b (Q173 A (Q20 c) a) []=
  (∃h:Bool,Q91 7 B h/\br h (∃i:Bool,Q91 83 (Q94 A c) i/\br i (∃j:Int,Q74 84 B [] j []/\Q50 (decide (j<=a)) r b) (Q57 r b)) (Q57 r b)):=zh
theorem v61 (f:Int)(g:LU)(h:Int)(i:RW)(r:TV)(a:LA):let A:=Q125 f g h i;let B:=Q94 (Q71 f g h i) 133;let C:=Q192 130 r a;let D:=FV.L 4 .N=true;let E:=((0:Nat):Int);let F:=([(Q1 0),(.str []),(Q1 0),.N]:List FV)=[];let G:=D/\(0<=(0:Int))/\((0:Int)<E)/\F;let H:=(D/\(0<=(1:Int))/\((1:Int)<E)/\F)/\∃p:Int,Q74 61 [Q170 0 [] 0] [] p []/\Q192 p r a;let I:=G/\∃o:Int,Q74 61 [Q170 0 [] 0] [] o []/\br (o !=0) (Q192 o r a) H;let J:=G/\∃q:Tm,Q176 87 [Q170 0 [] 0] (aT q)/\∃j:Int,Q74 61 [(aT q)] [] j []/\Q192 j r a;let K:=(4:Nat)=4;VE lv5 61 0 r a A []=
  (∃s:Bool,Q91 7 A s/\br (!s) (Q192 1 r a) ((∃c:LU×Int,Q60 85 B [] (Q97 (Q137<|Q7 c.1) Q140 c.2) []/\br (c.2 !=0) (Q192 c.2 r a) (br ((c.1:LU)==[58,45]) C<|br ((c.1:LU)==[44]) I<|br ((c.1:LU)==[59]) I<|br ((c.1:LU)==[61,62]) (G/\∃n:List Cl×Int,Q60 86 [Q170 0 [] 0] [] (Q188 (Q8 9<|CLs n.1) n.2) []/\br (n.2 !=0) (Q192 n.2 r a) H)<|br ((c.1:LU)==[112,105]) J<|br ((c.1:LU)==[115,105,103,109,97]) J<|Q192 0 r a))\/(∃b:LU×List Tm×Int,let L:=length b.2.1;let M:=FTs b.2.1;let N:=((L:Nat):Int);let O:=0<=(0:Int)/\(0:Int)<N;let P:=getD M 0 [];let Q:=(0<(length M))/\(((rE P):List FV)=(take 4<|drop 0 P))/\K;let S:=getD M 1 [];let T:=(0<=(1:Int)/\(1:Int)<N)/\((1<(length M))/\(((rE S):List FV)=(take 4<|drop 0 S))/\K)/\∃k:Int,Q74 61 [(aE S)] [] k []/\Q192 k r a;let U:=O/\Q/\∃e:Int,Q74 61 [(aE P)] [] e []/\br (e !=0) (Q192 e r a) T;let V:=O/\Q/\∃l:Tm,Q176 87 [(aE P)] (aT l)/\∃m:Int,Q74 61 [(aT l)] [] m []/\Q192 m r a;Q60 85 B [] (Q97 (Q137<|Q7 b.1) (Q17<|Q126 0 4 0 L) b.2.2) (Q157 4 M)/\br (b.2.2 !=0) (Q192 b.2.2 r a) (br ((b.1:LU)==[58,45]) C<|br ((b.1:LU)==[44]) U<|br ((b.1:LU)==[59]) U<|br ((b.1:LU)==[61,62]) (O/\Q/\∃d:List Cl×Int,Q60 86 [(aE P)] [] (Q188 (Q8 9<|CLs d.1) d.2) []/\br (d.2 !=0) (Q192 d.2 r a) T)<|br ((b.1:LU)==[112,105]) V<|br ((b.1:LU)==[115,105,103,109,97]) V<|Q192 0 r a)))):=zh
theorem v62_F63 (s:RW)(r:TV)(a:LA):let A:=Q146 (Q8 9 s) (.fn (.func 63) [] []);VE lv5 62 0 r a A []=
  (∃b:Int,Q74 88 A [] b []/\Q50 (decide (b>=0)) r a):=zh
theorem v66 (n:Int)(r:TV)(a:LA):VE lv5 66 0 r a [Q20 n] []=
  (RT (Q170 4 [] n) [] r a):=zg
theorem v67 (k i:Int)(b:LU)(c:Int)(d:RW)(e:Int)(f:LU)(g:Int)(j a:RW)(r:TV)(h:LA):let A:=Q33 (Q48 (Q190 0 [] 0)<|Q39<|Q190 0 [] 0) [] r h;VE lv5 67 0 r h [Q130 k (Q2 i) (Q7 b) (Q2 c) (Q53 d) (Q2 e) (Q7 f) (Q2 g) j,Q69 a] []=
  ((FV.L 4 (Q174 a)=true)/\br ((k:Int) !=(length a:Int)) A (∃l:Bool,Q91 25 (Q122 a<|.fn (.func 93) [] []) l/\br l A (∃m:Bool,Q91 93 (Q125 i b c d) m/\br m A (∃n:Bool,Q91 93 (Q125 e f g j) n/\br n A (∃o:Tm,Q9 94 (Q143 (Q71 i b c d) 1) [Q10 1<|Q180 a] (aT o) [Q10 1<|Q180 a]/\∃p:Tm,Q9 94 (Q143 (Q71 e f g j) 1) [Q10 1<|Q180 a] (aT p) [Q10 1<|Q180 a]/\Q33 (Q48 (cT o)<|Q39<|cT p) [] r h))))):=zh
theorem v68 (d:Int)(e:LU)(f:Int)(a:RW)(r:TV)(b:LA):let A:=Q125 d e f a;let B:=Q84 (Q92 d e f a) [Q26] [] r b;let C:=FV.L 4 (Q174 a)=true;let D:=(length a:Int);let E:=getD a 0 [];let F:=drop 1 (take (toNat D) a);VE lv5 68 0 r b A []=
  (br (d !=6) B (∃h:Bool,Q91 7 A h/\br (!h) B ((C/\(0<=(0:Int))/\((0:Int)<D)/\(((rE E):List FV)=E))/\C/\((0<=(1:Int))/\((1:Int)<=D)/\(D<=D))/\((∃i:Bool,Q176 98 [Q69 F] (.c<|Q0<|.sl i 4 [])/\Q84 (cE E) [Q0<|.sl i 4 []] [] r b)\/(∃g:RW,let G:=length g;Q175 98 [Q69 F] (.c<|Q4 0 4 0 G) (Q157 4 g)/\((4:Nat)=4/\(0+G)<=G)/\Q84 (cE E) (Q180<|take G<|drop 0 g) [] r b))))):=zh
theorem v68_O (d:Int)(e:LU)(f:Int)(a:RW)(r:TV)(b:LA):let A:=Q125 d e f a;let B:=Q84 (Q92 d e f a) [Q26] [] r b;let C:=FV.L 4 (Q174 a)=true;let D:=(length a:Int);let E:=getD a 0 [];let F:=drop 1 (take (toNat D) a);vcE tB shO lv5 68 A [] (λr0 Hs0=>TV.Le r0 r/\Hs0=b) (RPt tB 68 0 r b)=
  (br (d !=6) B (∃h:Bool,Q91 7 A h/\br (!h) B ((C/\(0<=(0:Int))/\((0:Int)<D)/\(((rE E):List FV)=E))/\C/\((0<=(1:Int))/\((1:Int)<=D)/\(D<=D))/\((∃i:Bool,Q176 98 [Q69 F] (.c<|Q0<|.sl i 4 [])/\Q84 (cE E) [Q0<|.sl i 4 []] [] r b)\/(∃g:RW,Q175 98 [Q69 F] (.c<|Q4 0 4 0<|length g) (Q157 4 g)/\Q84 (cE E) (Q126 0 4 0<|length g) (Q157 4 g) r b))))):=zh
def lv69:LV:=[(1000001,[1])]
theorem v69 (f g h:Int)(c:LU)(d:Int)(i j k:RW)(b:Int)(a:Nat)(l:RW)(r:TV)(e:LA):let A:=a+1;VE lv69 69 2 r e (Q178 2<|Q159 f (Q2 g) (Q2 h) (Q7 c) (Q2 d) (Q53 i) (Q53 j)<|Q8 6 k) (Q184 2 b 1 8 0 a 8 l)=
  ((1<=1)/\(a<=(length l)/\zI A 120)/\Q54 (wrap .i64<|((A:Nat):Int)-(1:Int)) (Q111 2 b 2 8 0 A 8<|(take a l)++[[(Q1 f),(Q1 g),(Q1 h),(.str c),(Q1 d),(Q174 i),(Q174 j),(Q3 6 k)]]) r e):=zh
theorem v70 (f:Int)(g:LU)(h:Int)(i:RW)(c:Int)(a:Nat)(j:RW)(r:TV)(b:LA):let A:=Q71 f g h i;let B:=Q184 2 c 1 8 0 a 8 j;let C:=Q178 2 (Q159 4 (Q2 0) (Q2 0) (Q7 []) (Q2 0) Q26 Q26 Q26);VE lv69 70 2 r b (Q177 2 A) B=
  (∃d:Int×List In1,let D:=length d.2;let E:=FIs d.2;let F:=Q111 2 d.1 2 8 0 D 8 E;let G:=((D:Nat):Int);let I:=(∃e:Int×Int×List In1,let H:=Q111 2 e.2.1 2 8 0 (length e.2.2) 8 (FIs e.2.2);Q74 69 C (Q184 2 d.1 1 8 0 D 8 E) e.1 H/\Q33 [] H r b);let J:=wrap .i64 (G-(1:Int));let K:=getD E (0+(toNat J)) [];let L:=FV.I (getD K 0 FV.N);Q60 99 (Q95 2 A<|Q25 true) B [] F/\br ((G:Int)==(0:Int)) I ((0<=J/\J<G)/\(((0+(toNat J))<(length E))/\(([(Q1 L)]:List FV)=(take 1<|drop 0 K))/\((1:Nat)=1))/\br (L !=3) I (Q33 [] F r b))):=zh
def lv65:LV:=[(3,[5,68,69])]
theorem v65 (a:LU)(h d e f:Int)(b:RW)(r:TV)(g:LA):let A:=FV.L 8 (Q3 8 b)=true;let B:=Q57 r g;let C:=(length b:Int);let D:=wrap .i64 (C-(1:Int));let E:=getD b (toNat D) [];let F:=FV.I (getD E 0 FV.N);let G:=A/\Q51 65 0 r g 3 [Q156 5 6,Q15 68 C,Q15 69 0] [Q139 0 6 (Q7 a) h d (Q2 e) f<|Q8 8 b] 1;let H:=(∃i:Bool,Q91 89 [.c<|Q7 a] i/\br (!(!i)) B (((1:Nat)=1/\4<=4)/\∃j:Bool,Q91 90 [.c<|Q8 1 [[(Q1 h)],[(Q1 d)],[(Q1 e)],[(Q1 f)]]] j/\(true=true)/\br (!j) B (br (decide (((wrap .i64<|d+e):Int)>f)) B<|br ((C:Int)==(0:Int)) B<|(A/\(0<=D)/\(D<C)/\(([(Q1 F),(Q1<|FV.I<|getD E 1 FV.N),(Q1<|FV.I<|getD E 2 FV.N),(.str<|FV.S<|getD E 3 FV.N),(Q1<|FV.I<|getD E 4 FV.N),(getD E 5 FV.N),(getD E 6 FV.N),(getD E 7 FV.N)]:List FV)=E))/\br (F==4) G (br (F==3) G<|br (F==8) G B))));VE lv65 65 0 r g [.agg<|Q37 (Q7 a) h d (Q2 e) f<|Q8 8 b] []=
  (A/\∃k:Bool,Q91 23 [.c<|Q7 a] k/\br k H (∃l:Bool,Q91 24 [.c<|Q7 a] l/\br l H B)):=zh
theorem v65_3a (h g:Int)(a:LU)(b c d e:Int)(i:RW)(r:TV)(f:LA):let A:=Q8 8 i;let B:=Q37 (Q7 a) b c (Q2 d) e A;VQ lv65 65 0 r f 3 ⟨[Q156 5 6,Q15 68 h,Q15 69 g],[Q139 0 6 (Q7 a) b c (Q2 d) e A],1⟩=
  (br (decide (g<h)) (∃j:Bool,Q91 91 (Q94 (.agg B) g) j/\br (!j) (Q57 r f) (Q51 65 0 r f 3 [Q156 5 6,Q15 68 h,Q15 69<|wrap .i64<|g+1] [Q139 0 6 (Q7 a) b c (Q2 d) e A] 1)) (∃k:Bool,Q91 92 [.agg B] k/\Q50 k r f)):=zh
theorem v46 (c:Int)(f:LU)(g:Int)(a:RW)(d e:Nat)(m n:RW)(r:TV)(b:LA):let A:=Q177 2 (Q71 c f g a);let B:=Q70 1 d 2 e m 1 n;let C:=Q137 Q79;let D:=Q33 (Q97 (Q39<|Q92 c f g a) (Q137 Q44) 0) B r b;let E:=FV.L 4 (Q174 a)=true;let F:=0<=(0:Int);let G:=(length a:Int);let H:=getD a 0 [];let I:=E/\F/\((0:Int)<G)/\(((rE H):List FV)=H);let J:=0<=(1:Int);let K:=take (toNat G) a;let L:=getD H 3 FV.N;let M:=getD (FV.ses L) 0 [];let N:=getD a 1 [];VE lv5 46 3 r b A B=
  (∃h:Tm×Bool,Q60 71 A B (Q55 (cT h.1) [Q6 h.2]) B/\br h.2 (Q33 (Q97 (Q39<|cT h.1) C 0) B r b) (br (c !=6) D (I/\∃i:Tm×Bool,Q60 71 (Q177 2<|aE H) B (Q55 (cT i.1) [Q6 i.2]) B/\br i.2 (E/\(J/\((1:Int)<=G)/\(G<=G))/\∃k:Tm,Q176 17 [(aT i.1),Q69<|drop 1 K] (aT k)/\Q33 (Q97 (Q39<|cT k) C 0) B r b) (I/\br ((FV.I<|getD H 0 FV.N) !=5) D (I/\((FV.L 4 L=true)/\F/\((0:Int)<(((length<|FV.ses L):Nat):Int))/\(((rE M):List FV)=M))/\(E/\J/\((1:Int)<G)/\(((rE N):List FV)=N))/\∃j:Tm×Int,Q60 72 [(aE M),(aE N)] [] (Q161 (cT j.1) j.2) []/\E/\((0<=(2:Int))/\((2:Int)<=G)/\(G<=G))/\∃l:Tm,Q176 17 [(aT j.1),Q69<|drop 2 K] (aT l)/\Q33 (Q97 (Q39<|cT l) C j.2) B r b))))):=zh
theorem v78 (a:Int)(c:LU)(d:Int)(e:RW)(r:TV)(b:LA):VE lv5 78 0 r b (Q125 a c d e) []=
  (br (a==5) (Q50 true r b)<|Q50 (a==6) r b):=zg
theorem v79 (b:Int)(c:LU)(d:Int)(e:RW)(k:Int)(r:TV)(a:LA):VE lv5 79 0 r a (Q94 (Q71 b c d e) k) []=
  (br (b==5) (Q192 (wrap .i64<|k+1) r a)<|Q192 k r a):=zg
theorem v80 (b:Int)(d:LU)(e:Int)(a l:RW)(r:TV)(c:LA):let A:=FV.L 4 (Q174 l)=true;let B:=(length l:Int);let C:=0<=(0:Int);let D:=getD l 0 [];let E:=A/\C/\((0:Int)<B)/\(((rE D):List FV)=D);let F:=getD a 0 [];let G:=RT (Q71 b d e l) [] r c;VE lv5 80 0 r c [Q71 b d e a,Q69 l] []=
  (br (b==6) (A/\br (decide ((B:Int)>(1:Int))) (E/\br ((FV.I<|getD D 0 FV.N)==6) (((FV.L 4 (Q174 a)=true)/\C/\((0:Int)<(length a:Int))/\(((rE F):List FV)=F))/\br ((FV.I<|getD F 0 FV.N) !=6) (E/\A/\((0<=(1:Int))/\((1:Int)<=B)/\(B<=B))/\∃f:Tm,Q176 32 [(aE D),Q69<|drop 1<|take (toNat B) l] (aT f)/\RT (aT f) [] r c) G) G) G) G):=zh
theorem v73_F48 (s:RW)(r:TV)(a:LA):VE lv38 73 0 r a (Q146 (Q8 8 s)<|.fn (.func 48) [] []) []=
  ((FV.L 8 (Q3 8 s)=true)/\Q162 73 0 r a (Q42 0 8 s) 1 (.fn (.func 48) [] []) 7 (length s:Int) 8 0 [] 0):=zg
theorem W3 (c:RW)(d b:Int)(r:TV)(a:LA):let A:=getD c (toNat b) [];let B:=FV.I (getD A 0 FV.N);let C:=FV.S (getD A 1 FV.N);let D:=FV.I (getD A 2 FV.N);let E:=getD A 3 FV.N;let F:=FV.I (getD A 4 FV.N);let G:=FV.S (getD A 5 FV.N);let H:=FV.I (getD A 6 FV.N);let I:=getD A 7 FV.N;VQ lv38 73 0 r a 1 ⟨Q121 (Q42 0 8 c) 1 (.fn (.func 48) [] []) 7 d 8 b,[],0⟩=
  (br (decide (b<d)) (((FV.L 8 (Q3 8 c)=true)/\(0<=b)/\(b<(length c:Int))/\(([(Q1 B),(.str C),(Q1 D),E,(Q1 F),(.str G),(Q1 H),I]:List FV)=A))/\∃e:Bool,Q91 48 [.agg<|Q159 B (Q7 C) (Q2 D) (Q0 E) (Q2 F) (Q7 G) (Q2 H)<|Q0 I] e/\br e (Q192 b r a) (Q162 73 0 r a (Q42 0 8 c) 1 (.fn (.func 48) [] []) 7 d 8 (wrap .i64<|b+1) [] 0))<|Q192 (-1:Int) r a):=zh
def lv75:LV:=[(1000001,[2,3,4])]
theorem v75 (o:Int)(p:LU)(q:Int)(t:RW)(u:Int)(v:LU)(w:Int)(x:RW)(j:Nat)(y:Int)(h i:Nat)(o2 o3 o4:RW)(r:TV)(c:LA):let A:=Q65 2 h 3 i;let B:=Q195 (Q96 3 1 2 0 0 4 8 0 j y) A o2 o3 8 o4;let C:=(4:Nat)=4/\1<=1;VE lv75 75 5 r c (Q178 3<|Q159 o (Q7 p) (Q2 q) (Q53 t) (Q2 u) (Q7 v) (Q2 w)<|Q53 x) B=
  (∃a:Tm×Tm×List Tm×Int×Nat×Int,let D:=Q7 a.1.s;let E:=Q2 a.1.n;let F:=Q53 (FTs a.1.l);let G:=Q2 a.2.1.k;let H:=Q7 a.2.1.s;let I:=Q2 a.2.1.n;let J:=Q53 (FTs a.2.1.l);let K:=FTs a.2.2.1;let L:=Q195 (Q96 3 1 2 0 0 4 8 0 a.2.2.2.2.1 a.2.2.2.2.2) A o2 o3 8 o4;let M:=Q130 a.1.k D E F G H I J K;let N:=aT a.2.1;let O:=FV.L 4 (Q174 K)=true;let P:=((length K:Int):Int);Q60 102 (Q177 3<|Q71 o p q t) B (Q161 (Q117 a.1.k D E F G H I J K) a.2.2.2.1) L/\br (a.2.2.2.1 !=0) (Q54 a.2.2.2.1 (Q154 (Q96 3 1 2 0 0 7 8 0 a.2.2.2.2.1 a.2.2.2.2.2) 5 h 6 i o2 o3 8 o4) r c) (∃b:Tm×Tm×List Tm×Int×Nat×Int,let Q:=Q7 b.1.s;let S:=Q2 b.1.n;let U:=Q53 (FTs b.1.l);let W:=Q2 b.2.1.k;let X:=Q7 b.2.1.s;let Y:=Q2 b.2.1.n;let Z:=Q53 (FTs b.2.1.l);let Aa:=FTs b.2.2.1;let Ab:=Q195 (Q96 3 1 2 0 0 4 8 0 b.2.2.2.2.1 b.2.2.2.2.2) A o2 o3 8 o4;let Ac:=Q154 (Q96 3 1 2 0 0 7 8 0 b.2.2.2.2.1 b.2.2.2.2.2) 5 h 6 i o2 o3 8 o4;let Ae:=(∃z3:Tm,Q176 87 [(aT a.1)] (aT z3)/\∃z4:Tm,Q176 87 [(aT b.1)] (aT z4)/\C/\C/\∃m:Sto×Nat×RW×Int,let Ad:=Q154 (Q96 3 1 2 0 0 7 8 0 m.2.1 m.2.2.2) 5 (length m.1.V) 6 (length m.1.T) (SR m.1.V) (IR m.1.T) 8 m.2.2.1;Q60 103 (Q95 3 (Q69 [(FT4 z3)])<|Q69 [(FT4 z4)]) Ab [] Ad/\Q54 0 Ad r c);let Af:=Q130 b.1.k Q S U W X Y Z Aa;let Aj:=(∃z:Bool,Q91 104 [Q130 a.1.k D E F G H I J K] z/\br z (∃d:Int×Sto×Nat×RW×Int,let Ag:=Q154 (Q96 3 1 2 0 0 7 8 0 d.2.2.1 d.2.2.2.2) 5 (length d.2.1.V) 6 (length d.2.1.T) (SR d.2.1.V) (IR d.2.1.T) 8 d.2.2.2.1;Q74 106 (Q95 3 M Af) Ab d.1 Ag/\Q54 d.1 Ag r c) (∃a0:Bool,Q91 104 [Q130 b.1.k Q S U W X Y Z Aa] a0/\br a0 (∃e:Int×Sto×Nat×RW×Int,let Ah:=Q154 (Q96 3 1 2 0 0 7 8 0 e.2.2.1 e.2.2.2.2) 5 (length e.2.1.V) 6 (length e.2.1.T) (SR e.2.1.V) (IR e.2.1.T) 8 e.2.2.2.1;Q74 106 (Q95 3 Af M) Ab e.1 Ah/\Q54 e.1 Ah r c) (∃a1:Bool,Q91 107 [N,(aT b.2.1)] a1/\br (!a1) (Q54 170 Ac r c) (O/\(FV.L 4 (Q174 Aa)=true)/\br (P !=(length Aa:Int)) (Q54 170 Ac r c) (∃g:Sto×Nat×RW×Int,let Ai:=Q154 (Q96 3 1 2 0 0 7 8 0 g.2.1 g.2.2.2) 5 (length g.1.V) 6 (length g.1.T) (SR g.1.V) (IR g.1.T) 8 g.2.2.1;Q60 103 (Q95 3 (Q69 K)<|Q69 Aa) Ab [] Ai/\Q54 0 Ai r c)))));Q60 102 (Q177 3<|Q71 u v w x) L (Q161 (Q117 b.1.k Q S U W X Y Z Aa) b.2.2.2.1) Ab/\br (b.2.2.2.1 !=0) (Q54 b.2.2.2.1 Ac r c) (br ((a.1.k:Int)==(5:Int)) Ae<|br ((b.1.k:Int)==(5:Int)) Ae (∃b9:Bool,Q91 104 [Q130 a.1.k D E F G H I J K] b9/\br b9 (∃a2:Bool,Q91 104 [Q130 b.1.k Q S U W X Y Z Aa] a2/\br a2 (br ((a.2.1.n:Int)==b.2.1.n) (∃f:Int×Sto×Nat×RW×Int,let Ba:=Q154 (Q96 3 1 2 0 0 7 8 0 f.2.2.1 f.2.2.2.2) 5 (length f.2.1.V) 6 (length f.2.1.T) (SR f.2.1.V) (IR f.2.1.T) 8 f.2.2.2.1;Q74 105 (Q95 3 M Af) Ab f.1 Ba/\Q54 f.1 Ba r c) Aj) Aj) Aj)))):=zh
def lv76:LV:=[(1,[0,1,5,6])]
theorem v76_F77 (f:Nat)(d:RW)(a:Int)(r:TV)(b:LA):let A:=Q146 (Q4 0 1 0 f) (.fn (.func 77) [] [(false,[(Q108 1)])]);VE lv76 76 2 r b A [Q52 d,Q100 a]=
  (∃e:Int,Q74 108 A [Q52 d,Q100 a] e [Q52 d,Q100 a]/\br ((e:Int)==(-1:Int)) (RT (.c<|Q4 0 1 0 f) [Q52 d,Q100 a] r b) (Q162 76 2 r b (Q168 0 0 1 f) 1 (.fn (.func 77) [] [(false,[(Q108 1)])]) 5 e 6 (wrap .i64<|e+1) [Q194 0 d,Q129 1 1 a] 2)):=zh
theorem v55 (c:Int)(r:TV)(a:LA):let A:=Q50 (c==95) r a;VE lv5 55 0 r a [.c<|Q0<|.int .u8 c] []=
  (br (decide (65<=c)) (br (decide (c<=90)) (Q50 true r a) A) A):=zh
theorem v56 (c:Int)(r:TV)(a:LA):VE lv5 56 0 r a [.c<|Q0<|.int .u8 c] []=
  (br (decide (48<=c)) (Q50 (decide (c<=57)) r a)<|Q57 r a):=zg
def lv82:LV:=[(3,[0,1,5,6,7,8,9,10])]
theorem v82 (s a:LU)(r:TV)(b:LA):let A:=(length a:Int);let B:=(A:Int);VE lv82 82 0 r b (Q146 (Q7 s)<|Q7 a) []=
  (br (B==(0:Int)) (Q192 0 r b)<|br ((a:LU)==s) (Q192 0 r b)<|br (B==(1:Int)) ((0<=(0:Int)/\(0:Int)<A)/\∃c:Int,Q74 81 (Q146 (Q7 s)<|Q0<|.int .u8 ((UInt8.toNat (getD a 0 0):Nat):Int)) [] c []/\Q192 c r b)<|br (decide (B>=(length s:Int))) (Q192 (-1:Int) r b) False):=zh
theorem v83 (b:Int)(e:LU)(c:Int)(d:RW)(n:Int)(r:TV)(a:LA):let A:=(∃f:Bool,Q43 25 (Q122 d<|.fn (.func 113) [] [(false,[Q120])]) (Q101 n) f (Q101 n)/\Q50 (!f) r a);VE lv5 83 0 r a (Q94 (Q71 b e c d) n) []=
  (br (b==1) (Q57 r a)<|br (b==4) (br (decide (c>=n)) (Q57 r a) A) A):=zh
theorem v84 (a:Int)(b:LU)(d:Int)(e:RW)(r:TV)(f:LA):VE lv5 84 0 r f (Q125 a b d e) []=
  ((∃i:Int,Q60 114 [Q71 a b d e,Q20 0,.c<|.fn (.func 115) [] [(false,[Q120])]] (Q101 0) [] (Q101 i)/\Q192 i r f)\/((∃_:Unit,Q60 114 [Q71 a b d e,Q20 0,.c<|.fn (.func 115) [] [(false,[Q120])]] (Q101 0) [] [Q10 1 [Q26]]/\RT (.c Q26) [] r f)\/((∃g:Nat×RW,Q60 114 [Q71 a b d e,Q20 0,.c<|.fn (.func 115) [] [(false,[Q120])]] (Q101 0) [] [Q127 1 1 1 0 g.1,Q52 g.2]/\((1:Nat)=1/\(0+g.1)<=(length g.2))/\RT (.c<|Q8 1<|take g.1<|drop 0 g.2) [] r f)\/(∃h:Nat×RW,Q60 114 [Q71 a b d e,Q20 0,.c<|.fn (.func 115) [] [(false,[Q120])]] (Q101 0) [] (Q151 1 2 1 0 h.1 1 h.2)/\((1:Nat)=1/\(0+h.1)<=(length h.2))/\RT (.c<|Q8 1<|take h.1<|drop 0 h.2) [] r f)))):=zg
theorem v85 (f:Int)(g:LU)(h:Int)(i:RW)(b:Int)(r:TV)(a:LA):let A:=Q125 f g h i;let B:=Q137 (Q7 []);let C:=Q33 (Q97 B Q140 b) [] r a;let D:=Q33 (Q97 B Q140 130) [] r a;vcE tB shO lv5 85 (Q94 (Q71 f g h i) b) [] (λr0 Hs0=>TV.Le r0 r/\Hs0=a) (RPt tB 85 0 r a)=
  ((∃e:Tm,Q60 68 A [] (Q55 (cT e) [Q26]) []/\br ((e.k:Int)==(4:Int)) C (br ((e.k:Int)==(3:Int)) C<|br ((e.k:Int) !=(0:Int)) D (∃j:Bool,Q91 89 [.c<|Q7 e.s] j/\br (!j) (Q33 (Q97 B Q140 0) [] r a) ((FV.L 4 .N=true)/\∃l:Int,Q74 116 [.c<|Q7 e.s] [] l []/\br (0 !=l) D (Q33 (Q97 (Q137<|Q7 e.s) Q140 0) [] r a)))))\/(∃d:Tm×List Tm,let E:=Q126 0 4 0 (length d.2);let F:=Q157 4 (FTs d.2);let G:=Q7 d.1.s;Q60 68 A [] (Q55 (cT d.1) E) F/\br ((d.1.k:Int)==(4:Int)) C (br ((d.1.k:Int)==(3:Int)) C<|br ((d.1.k:Int) !=(0:Int)) D (∃m:Bool,Q91 89 [.c G] m/\br (!m) (Q33 (Q97 B (Q17 E) 0) F r a) (∃n:Int,Q74 116 [.c G] [] n []/\br (((((length d.2):Nat):Int):Int) !=n) D (Q33 (Q97 (Q137 G) (Q17 E) 0) F r a)))))):=zh
theorem v86 (b:Int)(c:LU)(d:Int)(e:RW)(r:TV)(a:LA):let A:=Q125 b c d e;VE lv5 86 0 r a A []=
  (∃f:Bool,Q91 7 A f/\br (!f) (Q33 (Q187 Q140 1) [] r a) (∃g:List Cl×Int,let B:=Q188 (Q8 9<|CLs g.1) g.2;Q60 117 [Q71 b c d e,Q166 0 Q26 Q44] [] B []/\Q33 B [] r a)):=zh
theorem v87 (c:Int)(d:LU)(e:Int)(a:RW)(r:TV)(b:LA):let A:=Q125 c d e a;let B:=Q71 c d e a;let C:=getD a 0 [];VE lv5 87 0 r b A []=
  (∃f:Bool,Q91 7 A f/\br (!f) (RT B [] r b) (br (c==5) (((FV.L 4 (Q174 a)=true)/\(0<=(0:Int))/\((0:Int)<(length a:Int))/\(((rE C):List FV)=C))/\RT (aE C) [] r b) (∃g:Tm,Q176 97 (Q173 B (Q20 0) 1) (aT g)/\((4:Nat)=4/\1<=1)/\∃h:Tm,Q176 17 [(aT g),Q69 [[(Q1 3),(.str []),(Q1 0),.N]]] (aT h)/\RT (aT h) [] r b))):=zh
theorem v88_F63 (s:RW)(r:TV)(a:LA):VE lv38 88 0 r a (Q146 (Q8 9 s)<|.fn (.func 63) [] []) []=
  ((FV.L 9 (Q3 9 s)=true)/\Q162 88 0 r a (Q42 0 9 s) 1 (.fn (.func 63) [] []) 7 (length s:Int) 8 0 [] 0):=zg
theorem Wi (c:RW)(d b:Int)(r:TV)(a:LA):let A:=getD c (toNat b) [];let B:=FV.I (getD A 0 FV.N);let C:=FV.I (getD A 1 FV.N);let D:=FV.S (getD A 2 FV.N);let E:=FV.I (getD A 3 FV.N);let F:=getD A 4 FV.N;let G:=FV.I (getD A 5 FV.N);let H:=FV.S (getD A 6 FV.N);let I:=FV.I (getD A 7 FV.N);let J:=getD A 8 FV.N;VQ lv38 88 0 r a 1 ⟨Q121 (Q42 0 9 c) 1 (.fn (.func 63) [] []) 7 d 8 b,[],0⟩=
  (br (decide (b<d)) (((FV.L 9 (Q3 9 c)=true)/\(0<=b)/\(b<(length c:Int))/\(([(Q1 B),(Q1 C),(.str D),(Q1 E),F,(Q1 G),(.str H),(Q1 I),J]:List FV)=A))/\∃e:Bool,Q91 63 [.agg<|Q56 B (Q2 C) (Q7 D) (Q2 E) (Q0 F) (Q2 G) (Q7 H) (Q2 I)<|Q0 J] e/\br e (Q192 b r a) (Q162 88 0 r a (Q42 0 9 c) 1 (.fn (.func 63) [] []) 7 d 8 (wrap .i64<|b+1) [] 0))<|Q192 (-1:Int) r a):=zh
theorem v25_F93 (s:RW)(r:TV)(a:LA):let A:=Q122 s (.fn (.func 93) [] []);VE lv5 25 0 r a A []=
  (∃b:Int,Q74 42 A [] b []/\Q50 (decide (b>=0)) r a):=zh
theorem v93 (b:Int)(c:LU)(d:Int)(e:RW)(r:TV)(a:LA):let A:=Q125 b c d e;VE lv5 93 0 r a A []=
  (∃f:Bool,Q91 7 A f/\Q50 (!f) r a):=zh
def lv94:LV:=[(1,[2,3,7])]
theorem v94 (b:Int)(d:LU)(e:Int)(g a:RW)(r:TV)(f:LA):VE lv94 94 1 r f (Q143 (Q71 b d e g) 1) [Q10 1<|Q180 a]=
  (∃h:List Tm,Q175 95 [Q69 a] (.c<|.fn (.func 126) [] [(false,[Q120])]) [Q10 1<|Q180<|FTs h]/\Q152 94 1 r f [Q87 2 1,Q87 3 2,Q5 7<|.fn (.func 126) [] [(false,[(Q108 3)])]] [Q16 0 1<|Q180 a,Q189 1 b d e g,Q75 2 4 0 [] 0,Q16 3 1<|Q180<|FTs h] 4):=zg
theorem v94_1an (a:RW)(b:Int)(c:LU)(d:Int)(e:RW)(f:Int)(g:LU)(h:Int)(i:RW)(K:St->Prop):mK 4 [] [2,3,7] K ⟨[Q87 2 1,Q87 3 2,Q5 7<|.fn (.func 126) [] [(false,[(Q108 3)])]],[Q16 0 1<|Q180 a,Q189 1 b c d e,Q75 2 4 f g h,Q16 3 1<|Q180 i],4⟩=
  (K ⟨[Q87 2 1,Q87 3 2,Q5 7<|.fn (.func 126) [] [(false,[(Q108 3)])]],[Q16 0 1<|Q180 a,Q189 1 b c d e,Q75 2 4 f g h,Q16 3 1<|Q180 i],4⟩):=zg
theorem v94_1ara (a:RW)(b:Int)(d:LU)(e:Int)(f:RW)(g:Int)(h:LU)(i:Int)(j:RW)(k l:Int)(m:LU)(n:Int)(o:RW)(R:AHeap->Nat->Prop):vcR tB sh 94 4 [] 1 [(2,(Q81 1 4)),(3,(Q81 2 4)),(7,(.c<|.fn (.func 126) [] [(false,[(Q108 3)])]))] k (Q71 l m n o) [(0,(Q10 1<|Q180 a)),(1,(Q119 4 b d e f)),(2,(Q10 4<|Q190 g h i)),(3,(Q10 1<|Q180 j))] 4 R=
  (∃p:Tm,((Q176 97 (Q173 (Q71 l m n o) (Q20 0) k)<|aT p)/\(∃q:Tm,((Q176 96 [Q71 b d e f,Q20 0,(aT p)]<|aT q)/\(R [(0,(Q10 1<|Q180 a)),(1,(Q10 4<|cT q)),(2,(Q10 4<|Q190 g h i)),(3,(Q10 1<|Q180 j))] 4))))):=zg
theorem v94_1aza (a:RW)(b:Int)(c:LU)(d:Int)(e:RW)(g:Int)(h:LU)(i:Int)(j:RW)(r:TV)(f:LA):vcA tB sh lv94 94 1 (λr0 Hs0=>TV.Le r0 r/\Hs0=f) (RPt tB 94 1 r f) 1 ⟨[Q87 2 1,Q87 3 2,Q5 7<|.fn (.func 126) [] [(false,[(Q108 3)])]],[Q16 0 1<|Q180 a,Q189 1 b c d e,Q75 2 4 g h i,Q16 3 1<|Q180 j],4⟩=
  (RT (Q71 b c d e) [Q10 1<|Q180 a] r f):=zg
theorem v98  (r:TV) (a:LA):VE lv5 98 0 r a [.c Q26] []=
  (RT (.c Q26) [] r a):=zg
theorem v98_i1 (s:RW)(r:TV)(a:LA):let A:=0+(length s);VE lv5 98 0 r a [.c<|Q0<|.sl true 4 s] []=
  ((FV.L 4 (.sl true 4 s)=true)/\(0<=0/\zI A 56)/\RT (.c<|Q4 0 4 0 A) (Q157 4<|[]++s) r a):=zh
theorem v99 (d:Int)(e:LU)(f:Int)(g:RW)(m:Bool)(n:Int)(h:Nat)(o1:RW)(r:TV)(a:LA):let A:=Q25 m;let B:=Q184 2 n 1 8 0 h 8 o1;let C:=0<=(0:Int);let D:=0<=(1:Int);let F:=(∃i:Int×Int×List In1,let E:=Q111 2 i.2.1 2 8 0 (length i.2.2) 8 (FIs i.2.2);Q74 69 (Q178 2<|Q159 6 (Q2 0) (Q2 d) (Q7 e) (Q2 f) (Q53 g) Q26 Q26) B i.1 E/\Q33 [] E r a);VE lv69 99 2 r a (Q95 2 (Q71 d e f g) A) B=
  (∃b:Tm×List Tm,let G:=FTs b.2;let H:=FV.L 4 (Q174 G)=true;let I:=(length G:Int);let J:=getD G 0 [];let K:=H/\C/\((0:Int)<I)/\(((rE J):List FV)=J);let L:=aE J;let M:=getD G 1 [];let N:=H/\D/\((1:Int)<I)/\(((rE M):List FV)=M);let O:=Q95 2 L (aE M);Q60 68 (Q125 d e f g) [] (Q55 (cT b.1)<|Q180 G) []/\br ((b.1.s:LU)==[116,114,117,101]) (Q33 [] (Q111 2 n 2 8 0 h 8 o1) r a) (br ((b.1.s:LU)==[102,97,105,108]) (∃v:Int×Int×List In1,let P:=Q111 2 v.2.1 2 8 0 (length v.2.2) 8 (FIs v.2.2);Q74 69 (Q178 2<|Q159 8 (Q2 0) (Q2 0) (Q7 []) (Q2 0) Q26 Q26 Q26) B v.1 P/\Q33 [] P r a)<|br ((b.1.s:LU)==[33]) (∃w:Int×Int×List In1,let Q:=Q111 2 w.2.1 2 8 0 (length w.2.2) 8 (FIs w.2.2);Q74 69 (Q178 2<|Q159 7 (Q2 0) (Q2 0) (Q7 []) (Q2 0) Q26 Q26 Q26) B w.1 Q/\Q33 [] Q r a)<|br ((b.1.s:LU)==[44]) (K/\∃t:Int×List In1,Q60 99 (Q95 2 L<|Q25 false) B [] (Q111 2 t.1 2 8 0 (length t.2) 8<|FIs t.2)/\N/\∃y:Int×List In1,let S:=Q111 2 y.1 2 8 0 (length y.2) 8 (FIs y.2);Q60 99 (Q95 2 (aE M) A) (Q184 2 t.1 1 8 0 (length t.2) 8<|FIs t.2) [] S/\Q33 [] S r a)<|br ((b.1.s:LU)==[59]) (K/\N/\∃z:Int×List In1,let T:=Q111 2 z.1 2 8 0 (length z.2) 8 (FIs z.2);Q60 131 O B [] T/\Q33 [] T r a)<|br ((b.1.s:LU)==[112,105]) (K/\∃o:Tm×Int×List In1,Q9 132 (Q95 2 (Q20 11) L) B (aT o.1) (Q111 2 o.2.1 2 8 0 (length o.2.2) 8<|FIs o.2.2)/\∃u:Int×List In1,Q60 99 (Q95 2 (aT o.1)<|Q25 false) (Q184 2 o.2.1 1 8 0 (length o.2.2) 8<|FIs o.2.2) [] (Q111 2 u.1 2 8 0 (length u.2) 8<|FIs u.2)/\∃x:Int×Int×List In1,let U:=Q111 2 x.2.1 2 8 0 (length x.2.2) 8 (FIs x.2.2);Q74 69 (Q178 2<|Q159 12 (Q2 0) (Q2 0) (Q7 []) (Q2 0) Q26 Q26 Q26) (Q184 2 u.1 1 8 0 (length u.2) 8<|FIs u.2) x.1 U/\Q33 [] U r a)<|br ((b.1.s:LU)==[115,105,103,109,97]) (K/\∃c:Tm×Int×List In1,let V:=length c.2.2;Q9 132 (Q95 2 (Q20 13) L) B (aT c.1) (Q111 2 c.2.1 2 8 0 V 8<|FIs c.2.2)/\∃p:Int×List In1,let W:=Q111 2 p.1 2 8 0 (length p.2) 8 (FIs p.2);Q60 99 (Q95 2 (aT c.1) A) (Q184 2 c.2.1 1 8 0 V 8<|FIs c.2.2) [] W/\Q33 [] W r a)<|br ((b.1.s:LU)==[61,62]) (K/\N/\∃q:Int×List In1,let X:=Q111 2 q.1 2 8 0 (length q.2) 8 (FIs q.2);Q60 133 O B [] X/\Q33 [] X r a)<|br ((b.1.s:LU)==[61]) (∃j:Int×Int×List In1,let Y:=Q111 2 j.2.1 2 8 0 (length j.2.2) 8 (FIs j.2.2);Q74 69 (Q178 2<|Q159 5 (Q2 0) (Q2 0) (Q7 []) (Q2 0) Q26 (Q53 G) Q26) B j.1 Y/\Q33 [] Y r a)<|br ((b.1.s:LU)==[105,115]) F<|br ((b.1.s:LU)==[60]) F<|br ((b.1.s:LU)==[61,60]) F<|br ((b.1.s:LU)==[62]) F<|br ((b.1.s:LU)==[62,61]) F<|br m (∃k:Int×Int×List In1,let Z:=Q111 2 k.2.1 2 8 0 (length k.2.2) 8 (FIs k.2.2);Q74 69 (Q178 2<|Q159 3 (Q2 0) (Q2 d) (Q7 e) (Q2 f) (Q53 g) Q26 Q26) B k.1 Z/\Q33 [] Z r a) (∃l:Int×Int×List In1,let Aa:=Q111 2 l.2.1 2 8 0 (length l.2.2) 8 (FIs l.2.2);Q74 69 (Q178 2<|Q159 2 (Q2 0) (Q2 d) (Q7 e) (Q2 f) (Q53 g) Q26 Q26) B l.1 Aa/\Q33 [] Aa r a))):=zh
theorem v89 (a:LU)(r:TV)(b:LA):let A:=Q50 true r b;VE lv5 89 0 r b [.c<|Q7 a] []=
  (br ((a:LU)==[58,45]) A<|br ((a:LU)==[44]) A<|br ((a:LU)==[59]) A<|br ((a:LU)==[61,62]) A<|br ((a:LU)==[61]) A<|br ((a:LU)==[105,115]) A<|br ((a:LU)==[60]) A<|br ((a:LU)==[61,60]) A<|br ((a:LU)==[62]) A<|br ((a:LU)==[62,61]) A<|br ((a:LU)==[116,114,117,101]) A<|br ((a:LU)==[102,97,105,108]) A<|br ((a:LU)==[33]) A<|br ((a:LU)==[112,105]) A<|br ((a:LU)==[115,105,103,109,97]) A<|Q57 r b):=zh
theorem v90 (l:RW)(r:TV)(a:LA):VE lv5 90 0 r a [.c<|Q8 1 l] []=
  (∃b:Bool,Q91 118 (Q146 (Q8 1 l)<|.fn (.func 119) [] []) b/\Q50 (!b) r a):=zg
theorem v91 (c:LU)(e f g h:Int)(a:RW)(i:Int)(r:TV)(b:LA):let A:=Q94 (.agg<|Q37 (Q7 c) e f (Q2 g) h<|Q8 8 a) i;let B:=getD a (toNat i) [];let C:=FV.I (getD B 0 FV.N);let D:=FV.I (getD B 1 FV.N);let E:=FV.I (getD B 2 FV.N);let F:=FV.S (getD B 3 FV.N);let G:=FV.I (getD B 4 FV.N);let H:=getD B 5 FV.N;let I:=getD B 6 FV.N;let J:=getD B 7 FV.N;let K:=Q112 6 c e f g h 8 a;let L:=Q57 r b;let M:=FV.L 6 J=true;let N:=decide (((((length<|FV.ses J):Nat):Int):Int)>(0:Int));let O:=FV.L 4 I=true;let P:=decide (((((length<|FV.ses I):Nat):Int):Int)>(0:Int));let Q:=(∃k:Bool,Q193 120 (Q138 E F G H) 6 K k K/\Q50 (!k) r b);let S:=(∃d:Bool,Q91 122 [Q138 E F G H] d/\Q50 d r b);let X:=(∃l:Bool,let T:=br l Q S;let U:=O/\br P L T;∃m:Bool,let V:=br (!m) U T;let W:=M/\br N L V;∃j:Bool,∃n:Bool,∃o:Bool,Q60 123 A [] (Q55 [Q6 l,Q6 m,Q6 j,Q6 n] [Q6 o]) []/\br (!o) L (br (!n) (br (D !=0) L<|br (!j) W V)<|br (!j) W V));let Y:=(∃p:Bool,Q43 25 (Q146 (Q0 I)<|.fn (.func 120) [] [(false,[(Q107 0 6)])]) K p K/\br p L X);VE lv5 91 0 r b A []=
  (((FV.L 8 (Q3 8 a)=true)/\(0<=i)/\(i<(length a:Int))/\(([(Q1 C),(Q1 D),(Q1 E),(.str F),(Q1 G),H,I,J]:List FV)=B))/\br (C !=14) (∃q:Bool,Q193 120 (Q138 E F G H) 6 K q K/\br q (∃s:Bool,Q91 122 [Q138 E F G H] s/\br (!s) L Y) Y) X):=zh
def lv92:LV:=[(1,[3,4,22,23,24])]
theorem v92 (c:LU)(d e f g:Int)(a:RW)(r:TV)(b:LA):let A:=FV.L 8 (Q3 8 a)=true;let B:=(length a:Int);let C:=toNat B;let D:=List.replicate C ([(.bool false),(Q1 0),(Q1 0)]:List FV);VE lv92 92 0 r b [.agg<|Q37 (Q7 c) d e (Q2 f) g<|Q8 8 a] []=
  (A/\((B=B)/\(0<=B)/\((3:Nat)=3)/\((0:Nat)<3)/\((0:Nat)<24)/\zI C 24)/\(0<=(0:Int)/\(0:Int)<((C:Nat):Int))/\(0<(length D)/\(length<|getD D 0 [])=3)/\A/\Q152 92 0 r b (Q158 (Q156 3 1) (Q5 4<|.fn (.func 124) [] [(false,[Q120])]) (Q42 22 8 a) 23 B 24 0) [Q16 0 1<|Q126 1 3 0 C,Q27 1 3<|List.set D 0<|u7 (getD D 0 []) 0 [(.bool true)]] 2):=zh
theorem v92_1a (d:RW)(f a:Int)(b:Nat)(g:RW)(r:TV)(c:LA):let A:=Q5 4 (.fn (.func 124) [] [(false,[Q120])]);let B:=Q126 1 3 0 b;let C:=getD d (toNat a) [];let D:=FV.I (getD C 0 FV.N);let E:=FV.I (getD C 1 FV.N);let F:=0<=a/\a<(b:Int);let G:=0+(toNat a);let H:=G<(length g);let I:=getD g G [];let J:=FV.asB (getD I 0 FV.N);let K:=wrap .i64 (a+1);let L:=Q158 (Q156 3 1) A (Q42 22 8 d) 23 f 24 K;let M:=Q152 92 0 r c L [Q16 0 1 B,Q27 1 3 g] 2;let N:=FV.I (getD I 1 FV.N);let O:=FV.I (getD I 2 FV.N);let P:=Q57 r c;let Q:=Q127 1 1 3 0 b;let S:=Q88 Q 3 g;let T:=D !=10;VQ lv92 92 0 r c 1 ⟨Q158 (Q156 3 1) A (Q42 22 8 d) 23 f 24 a,[Q16 0 1 B,Q27 1 3 g],2⟩=
  (br (decide (a<f)) (((FV.L 8 (Q3 8 d)=true)/\(0<=a)/\(a<(length d:Int))/\(([(Q1 D),(Q1 E),(Q1<|FV.I<|getD C 2 FV.N),(.str<|FV.S<|getD C 3 FV.N),(Q1<|FV.I<|getD C 4 FV.N),(getD C 5 FV.N),(getD C 6 FV.N),(getD C 7 FV.N)]:List FV)=C))/\F/\(H/\(([(.bool J)]:List FV)=(take 1<|drop 0 I))/\((1:Nat)=1))/\br (!J) M (F/\(H/\(([(.bool J),(Q1 N),(Q1 O)]:List FV)=(take 3<|drop 0 I))/\((3:Nat)=3))/\∃j:Bool,∃n2 n3:Int,let U:=Q59 (Q6 j) (Q2 n2) n3;let V:=(∃h:Bool×RW,Q43 124 [Q20 E,.agg U,Q83 1] S h.1 (Q88 Q 3 h.2)/\br (!h.1) P (br T (∃i:Bool×RW,Q43 124 [Q20 K,.agg U,Q83 1] (Q88 Q 3 h.2) i.1 (Q88 Q 3 i.2)/\br (!i.1) P (Q152 92 0 r c L [Q16 0 1 B,Q27 1 3 i.2] 2))<|Q152 92 0 r c L [Q16 0 1 B,Q27 1 3 h.2] 2));∃b4 b5:Bool,Q60 125 (Q94 (.agg<|Q59 (Q6 J) (Q2 N) O) D) [] [Q39 U,Q137<|Q6 b4,Q137<|Q6 b5] []/\br (!b5) P (br (D==9) (br b4 V M)<|br b4 (br (D==10) V<|br T (∃e:Bool×RW,Q43 124 [Q20 K,.agg U,Q83 1] S e.1 (Q88 Q 3 e.2)/\br (!e.1) P (Q152 92 0 r c L [Q16 0 1 B,Q27 1 3 e.2] 2)) M) M)))<|Q50 true r c):=zh
theorem v71 (e:Int)(g:LU)(f:Int)(h:RW)(c d:Nat)(i j:RW)(r:TV)(b:LA):let A:=Q70 1 c 2 d i 1 j;VE lv5 71 3 r b (Q177 2<|Q71 e g f h) A=
  (∃a:Int×Bool×Tm×Bool,let B:=Q84 (cT a.2.2.1) [Q44] A r b;Q60 100 (Q94 (Q83 2) f) A (Q55 (Q191 a.1 a.2.1 a.2.2.1.k a.2.2.1.s a.2.2.1.n<|FTs a.2.2.1.l) [Q6 a.2.2.2]) A/\br (e==4) (br a.2.2.2 (Q84 (cT a.2.2.1) [Q6 a.2.1] A r b) B) B):=zh
theorem v17 (b:Int)(f:LU)(g:Int)(e a:RW)(r:TV)(d:LA):let A:=Q174 a;let B:=Q174 e;let C:=(1:Nat)=1/\2<=2;let D:=((4:Nat)=4/\1<=1)/\C/\∃h:List Tm,Q176 34 [.c<|Q8 1 [[(Q174 [[(Q1 b),(.str f),(Q1 g),B]])],[A]]] (Q69<|FTs h)/\RT (Q71 6 [] 0<|FTs h) [] r d;VE lv5 17 0 r d [Q71 b f g e,Q69 a] []=
  ((FV.L 4 A=true)/\br (((length a:Int):Int)==(0:Int)) (RT (Q71 b f g e) [] r d) (br (b==6) ((FV.L 4 B=true)/\br (decide (((length e:Int):Int)>(0:Int))) (C/\∃i:List Tm,Q176 34 [.c<|Q8 1 [[B],[A]]] (Q69<|FTs i)/\RT (Q71 6 [] 0<|FTs i) [] r d) D) D)):=zh
theorem v72 (a:Int)(b:LU)(c:Int)(d:RW)(e:Int)(f:LU)(g:Int)(h:RW)(r:TV)(i:LA):let A:=Q33 (Q161 (Q190 0 [] 0) 1) [] r i;VE lv5 72 0 r i [Q71 a b c d,Q71 e f g h] []=
  (∃j:Bool,Q91 7 (Q125 a b c d) j/\br (!j) A (∃k:Bool,Q91 7 (Q125 e f g h) k/\br (!k) A (∃l:Tm×Int,let B:=Q161 (cT l.1) l.2;Q60 101 [Q71 a b c d,Q71 e f g h] [] B []/\Q33 B [] r i))):=zh
theorem v48 (b:Int)(c:LU)(d:Int)(e:RW)(f:Int)(g:LU)(h:Int)(i:RW)(r:TV)(a:LA):VE lv5 48 0 r a [.agg<|Q159 b (Q7 c) (Q2 d) (Q53 e) (Q2 f) (Q7 g) (Q2 h)<|Q53 i] []=
  (∃j:Bool,Q91 7 (Q125 b c d e) j/\br (!j) (Q50 true r a) (∃k:Bool,Q91 7 (Q125 f g h i) k/\Q50 (!k) r a)):=zg
theorem v102 (i:Int)(j:LU)(m:Int)(o:RW)(b:Nat)(f:Int)(d e:Nat)(p q t:RW)(r:TV)(c:LA):let A:=Q71 i j m o;let B:=Q65 2 d 3 e;let C:=Q195 (Q96 3 1 2 0 0 4 8 0 b f) B p q 8 t;let D:=Q70 1 d 2 e p 1 q;vcE tB shO lv5 102 (Q177 3 A) C (λr0 Hs0=>TV.Le r0 r/\Hs0=c) (RPt tB 102 5 r c)=
  (∃a:Tm×Int×Int,let E:=Q53 (FTs a.1.l);let F:=Q195 (Q96 3 1 2 0 0 4 8 0 b a.2.1) B p q 8 t;Q60 12 (Q95 2 A<|Q20 f) D (Q153 (Q39<|cT a.1) a.2.1 a.2.2) D/\br (a.2.2 !=0) (Q33 (Q161 (Q56 0 (Q7 []) (Q2 0) Q26 (Q2 0) (Q7 []) (Q2 0) Q26 Q26) a.2.2) C r c) ((∃h:Tm,Q60 68 [(aT a.1)] [] (Q55 (cT h) [Q26]) []/\Q33 (Q161 (Q56 a.1.k (Q7 a.1.s) (Q2 a.1.n) E (Q2 h.k) (Q7 h.s) (Q2 h.n) (Q53<|FTs h.l) Q26) 0) F r c)\/(∃g:Tm×List Tm,let G:=length g.2;let H:=FTs g.2;Q60 68 [(aT a.1)] [] (Q55 (cT g.1)<|Q126 0 4 0 G) (Q157 4 H)/\((4:Nat)=4/\(0+G)<=(length H))/\Q33 (Q161 (Q117 a.1.k (Q7 a.1.s) (Q2 a.1.n) E (Q2 g.1.k) (Q7 g.1.s) (Q2 g.1.n) (Q53<|FTs g.1.l)<|take G<|drop 0 H) 0) F r c))):=zh
def lv103:LV:=[(1,[3,4,5,8]),(1000001,[2,3,4])]
theorem v103 (a b:RW)(d:Nat)(g:Int)(e f:Nat)(j k l:RW)(r:TV)(h:LA):VE lv103 103 5 r h (Q95 3 (Q69 a)<|Q69 b) (Q195 (Q96 3 1 2 0 0 4 8 0 d g) (Q65 2 e 3 f) j k 8 l)=
  (∃i:List Tm,Q175 95 [Q69 a] (.c<|.fn (.func 126) [] [(false,[Q120])]) [Q10 1<|Q180<|FTs i]/\Q152 103 5 r h [Q47 3 8 1,Q47 4 9 1,Q47 5 10 1,Q5 8<|.fn (.func 126) [] [(false,[(Q108 11)])]] [Q16 0 3<|Q68 1 2 0 0 (Q4 7 8 0 d) g,Q116 1 2 5 6 0 e 6 1 0 f,Q49 2,Q49 3,Q49 4,Q27 5 6 j,Q194 6 k,Q27 7 8 l,Q16 8 1 [Q11 0 3 0 0],Q16 9 1<|Q180 a,Q16 10 1<|Q180 b,Q16 11 1<|Q180<|FTs i] 12):=zg
theorem v103_1an (a:Nat)(f:Int)(b c:Nat)(h i j g d e:RW)(K:St->Prop):mK 12 [5,6,7] [3,4,5,8] K ⟨[Q47 3 8 1,Q47 4 9 1,Q47 5 10 1,Q5 8<|.fn (.func 126) [] [(false,[(Q108 11)])]],[Q16 0 3<|Q68 1 2 0 0 (Q4 7 8 0 a) f,Q116 1 2 5 6 0 b 6 1 0 c,Q49 2,Q49 3,Q49 4,Q27 5 6 h,Q194 6 i,Q27 7 8 j,Q16 8 1 [Q11 0 3 0 0],Q16 9 1<|Q180 g,Q16 10 1<|Q180 d,Q16 11 1<|Q180 e],12⟩=
  (K ⟨[Q47 3 8 1,Q47 4 9 1,Q47 5 10 1,Q5 8<|.fn (.func 126) [] [(false,[(Q108 11)])]],[Q16 0 3<|Q68 1 2 0 0 (Q4 14 8 0 a) f,Q116 1 2 12 6 0 b 13 1 0 c,Q49 2,Q49 3,Q49 4,Q49 5,Q49 6,Q49 7,Q16 8 1 [Q11 0 3 0 0],Q16 9 1<|Q180 g,Q16 10 1<|Q180 d,Q16 11 1<|Q180 e,Q27 12 6 h,Q194 13 i,Q27 14 8 j],15⟩):=zg
theorem i5 (d:Nat)(h:Int)(e f:Nat)(b a g j l i:RW)(k m:Int)(n:LU)(o:Int)(p:RW)(R:AHeap->Nat->Prop):vcR tB sh 103 12 [5,6,7] 1 [(3,(Q81 8 1)),(4,(Q81 9 1)),(5,(Q81 10 1)),(8,(.c<|.fn (.func 126) [] [(false,[(Q108 11)])]))] k (Q71 m n o p) [(0,(Q96 3 1 2 0 0 14 8 0 d h)),(1,(Q65 12 e 13 f)),(2,.gone),(3,.gone),(4,.gone),(5,.gone),(6,.gone),(7,.gone),(8,(Q10 1 [Q11 0 3 0 0])),(9,(Q10 1<|Q180 b)),(10,(Q10 1<|Q180 a)),(11,(Q10 1<|Q180 g)),(12,(Q40 j)),(13,(Q52 l)),(14,(.arz 8 i))] 15 R=
  (((FV.L 4 (Q174 b)=true)/\((0<=k)/\((k<(length b:Int))/\(((rE<|getD b (toNat k) []):List FV)=(getD b (toNat k) [])))))/\(((FV.L 4 (Q174 a)=true)/\((0<=k)/\((k<(length a:Int))/\(((rE<|getD a (toNat k) []):List FV)=(getD a (toNat k) [])))))/\((1<=1)/\((d<=(length i)/\zI (d+1) 112)/\(R [(0,(Q96 3 1 2 0 0 14 8 0 (d+1) h)),(1,(Q65 12 e 13 f)),(2,.gone),(3,.gone),(4,.gone),(5,.gone),(6,.gone),(7,.gone),(8,(Q10 1 [Q11 0 3 0 0])),(9,(Q10 1<|Q180 b)),(10,(Q10 1<|Q180 a)),(11,(Q10 1<|Q180 g)),(12,(Q40 j)),(13,(Q52 l)),(14,(.arz 8<|(take d i)++[[(Q1<|FV.I<|getD (getD b (toNat k) []) 0 FV.N),(.str<|FV.S<|getD (getD b (toNat k) []) 1 FV.N),(Q1<|FV.I<|getD (getD b (toNat k) []) 2 FV.N),(getD (getD b (toNat k) []) 3 FV.N),(Q1<|FV.I<|getD (getD a (toNat k) []) 0 FV.N),(.str<|FV.S<|getD (getD a (toNat k) []) 1 FV.N),(Q1<|FV.I<|getD (getD a (toNat k) []) 2 FV.N),(getD (getD a (toNat k) []) 3 FV.N)]]))] 15))))):=zg
theorem m8 (a:Nat)(d:Int)(b c:Nat)(h e f i j k:RW)(r:TV)(g:LA):vcA tB sh lv103 103 5 (λr0 Hs0=>TV.Le r0 r/\Hs0=g) (RPt tB 103 5 r g) 1 ⟨[Q47 3 8 1,Q47 4 9 1,Q47 5 10 1,Q5 8<|.fn (.func 126) [] [(false,[(Q108 11)])]],[Q16 0 3<|Q68 1 2 0 0 (Q4 14 8 0 a) d,Q116 1 2 12 6 0 b 13 1 0 c,Q49 2,Q49 3,Q49 4,Q49 5,Q49 6,Q49 7,Q16 8 1 [Q11 0 3 0 0],Q16 9 1<|Q180 h,Q16 10 1<|Q180 e,Q16 11 1<|Q180 f,Q27 12 6 i,Q194 13 j,Q27 14 8 k],15⟩=
  (Q33 [] (Q154 (Q96 3 1 2 0 0 7 8 0 a d) 5 b 6 c i j 8 k) r g):=zg
theorem v104 (c:Int)(d:LU)(e:Int)(f:RW)(a:Int)(g:LU)(h:Int)(i j:RW)(r:TV)(b:LA):VE lv5 104 0 r b [Q130 c (Q7 d) (Q2 e) (Q53 f) (Q2 a) (Q7 g) (Q2 h) (Q53 i) j] []=
  (Q50 (a==4) r b):=zg
def lv105:LV:=[(3,[0,4,7,9,10,41,42]),(1000001,[2,3,4])]
theorem v105 (j:Int)(k:LU)(l:Int)(m:RW)(n:Int)(o:LU)(p:Int)(s t:RW)(u:Int)(v:LU)(w:Int)(x:RW)(y:Int)(z:LU)(L:Int)(M N:RW)(f:Nat)(q:Int)(a b:Nat)(g h i:RW)(r:TV)(c:LA):let A:=Q130 j (Q7 k) (Q2 l) (Q53 m) (Q2 n) (Q7 o) (Q2 p) (Q53 s) t;let B:=Q130 u (Q7 v) (Q2 w) (Q53 x) (Q2 y) (Q7 z) (Q2 L) (Q53 M) N;let C:=Q65 2 a 3 b;let D:=Q195 (Q96 3 1 2 0 0 4 8 0 f q) C g h 8 i;VE lv105 105 5 r c (Q95 3 A B) D=
  (∃e:List Tm×Int×Nat×Int,let E:=FTs e.1;let F:=Q195 (Q96 3 1 2 0 0 4 8 0 e.2.2.1 e.2.2.2) C g h 8 i;let G:=FV.L 4 (Q174 E)=true;let H:=(length E:Int);let I:=toNat H;Q60 136 (Q177 3 A) D (Q188 (Q53 E) e.2.1) F/\br (e.2.1 !=0) (Q54 e.2.1 (Q154 (Q96 3 1 2 0 0 7 8 0 e.2.2.1 e.2.2.2) 5 a 6 b g h 8 i) r c) (∃d:List Tm×Int×Nat×Int,let J:=FTs d.1;let K:=Q154 (Q96 3 1 2 0 0 7 8 0 d.2.2.1 d.2.2.2) 5 a 6 b g h 8 i;Q60 136 (Q177 3 B) F (Q188 (Q53 J) d.2.1) (Q195 (Q96 3 1 2 0 0 4 8 0 d.2.2.1 d.2.2.2) C g h 8 i)/\br (d.2.1 !=0) (Q54 d.2.1 K r c) (G/\(FV.L 4 (Q174 J)=true)/\br ((H:Int) !=(length J:Int)) (Q54 171 K r c) (G/\((H=H)/\(0<=H)/\((1:Nat)=1)/\((0:Nat)<1)/\((0:Nat)<1)/\zI I 1)/\G/\Q51 105 5 r c 3 (Q145 (Q160 3) (Q47 4 8 9) (Q118 7 E) (Q118 9 J) (Q168 10 9 1 I) (Q15 41 H) 42 0) [Q16 0 3<|Q68 1 2 0 0 (Q4 7 8 0 d.2.2.1) d.2.2.2,Q116 1 2 5 6 0 a 6 1 0 b,Q49 2,Q49 3,Q49 4,Q27 5 6 g,Q194 6 h,Q27 7 8 i,Q16 8 9<|Q117 j (Q7 k) (Q2 l) (Q53 m) (Q2 n) (Q7 o) (Q2 p) (Q53 s) t,Q194 9<|List.replicate I ([(.bool false)]:List FV)] 10)))):=zh
theorem lU (t u:RW)(e:Nat)(k a:Int)(f:Nat)(i:Int)(b d:Nat)(x y z:RW)(m:Int)(n:LU)(o:Int)(p:RW)(q:Int)(s:LU)(j:Int)(v w l:RW)(r:TV)(h:LA):let A:=Q168 10 9 1 e;let B:=Q68 1 2 0 0 (Q4 7 8 0 f) i;let C:=Q117 m (Q7 n) (Q2 o) (Q53 p) (Q2 q) (Q7 s) (Q2 j) (Q53 v) w;let D:=toNat a;let E:=getD t D [];let F:=getD u D [];let G:=(1:Nat)=1/\(0+e)<=(length l);let H:=Q8 1 (take e<|drop 0 l);let I:=Q96 3 1 2 0 0 7 8 0 f i;VQ lv105 105 5 r h 3 ⟨Q145 (Q160 3) (Q47 4 8 9) (Q118 7 t) (Q118 9 u) A (Q15 41 k) 42 a,[Q16 0 3 B,Q116 1 2 5 6 0 b 6 1 0 d,Q49 2,Q49 3,Q49 4,Q27 5 6 x,Q194 6 y,Q27 7 8 z,Q16 8 9 C,Q194 9 l],10⟩=
  (br (decide (a<k)) (((FV.L 4 (Q174 t)=true)/\(0<=a)/\(a<(length t:Int))/\(((rE E):List FV)=E))/\((FV.L 4 (Q174 u)=true)/\(0<=a)/\(a<(length u:Int))/\(((rE F):List FV)=F))/\∃J:Bool,Q91 107 [(aE E),(aE F)] J/\(0<=a/\a<(e:Int))/\((0+D)<(length l)/\(length<|getD l (0+D) [])=1)/\Q51 105 5 r h 3 (Q145 (Q160 3) (Q47 4 8 9) (Q118 7 t) (Q118 9 u) A (Q15 41 k) 42<|wrap .i64<|a+1) [Q16 0 3 B,Q116 1 2 5 6 0 b 6 1 0 d,Q49 2,Q49 3,Q49 4,Q27 5 6 x,Q194 6 y,Q27 7 8 z,Q16 8 9 C,Q194 9<|List.set l (0+D) [(.bool J)]] 10) (G/\∃K:Bool,Q91 137 [.c H,Q25 false] K/\(true=true)/\br (!K) (Q54 0 (Q154 I 5 b 6 d x y 8 z) r h) (G/\∃g:Int×Sto,Q74 138 (Q95 2 (Q20 j)<|.c H) (Q70 1 b 2 d x 1 y) g.1 (Q155 3 (length g.2.V) 4 (length g.2.T) (SR g.2.V)<|IR g.2.T)/\Q54 g.1 (Q154 I 5 (length g.2.V) 6 (length g.2.T) (SR g.2.V) (IR g.2.T) 8 z) r h))):=zh
theorem v106 (g:Int)(h:LU)(i:Int)(j:RW)(k:Int)(l:LU)(m:Int)(t u:RW)(n:Int)(o:LU)(p:Int)(q:RW)(v:Int)(w:LU)(x:Int)(y z:RW)(e:Nat)(s:Int)(a b:Nat)(F G H:RW)(r:TV)(f:LA):let A:=Q130 g (Q7 h) (Q2 i) (Q53 j) (Q2 k) (Q7 l) (Q2 m) (Q53 t) u;let B:=Q65 2 a 3 b;let C:=Q195 (Q96 3 1 2 0 0 4 8 0 e s) B F G 8 H;VE lv75 106 5 r f (Q95 3 A<|Q130 n (Q7 o) (Q2 p) (Q53 q) (Q2 v) (Q7 w) (Q2 x) (Q53 y) z) C=
  (∃c:List Tm×Int×Nat×Int,let D:=Q195 (Q96 3 1 2 0 0 4 8 0 c.2.2.1 c.2.2.2) B F G 8 H;Q60 136 (Q177 3 A) C (Q188 (Q53<|FTs c.1) c.2.1) D/\br (c.2.1 !=0) (Q54 c.2.1 (Q154 (Q96 3 1 2 0 0 7 8 0 c.2.2.1 c.2.2.2) 5 a 6 b F G 8 H) r f) (∃d:Int×Sto×Nat×RW×Int,let E:=Q154 (Q96 3 1 2 0 0 7 8 0 d.2.2.1 d.2.2.2.2) 5 (length d.2.1.V) 6 (length d.2.1.T) (SR d.2.1.V) (IR d.2.1.T) 8 d.2.2.2.1;Q74 139 [Q83 3,Q130 g (Q7 h) (Q2 i) (Q53 j) (Q2 k) (Q7 l) (Q2 m) (Q53 t) u,Q69<|FTs c.1,Q71 n o p q] D d.1 E/\Q54 d.1 E r f)):=zh
theorem v107 (b:Int)(d:LU)(e:Int)(f:RW)(g:Int)(h:LU)(i:Int)(j:RW)(r:TV)(a:LA):let A:=Q57 r a;VE lv5 107 0 r a [Q71 b d e f,Q71 g h i j] []=
  (br (b==g) (br ((d:LU)==h) (br (e==i) (∃k:Bool,Q91 140 [Q69 f,Q69 j,.c<|.fn (.func 107) [] []] k/\Q50 k r a) A) A) A):=zh
theorem v108_F77 (c:Nat)(d:RW)(a:Int)(r:TV)(b:LA):VE lv38 108 2 r b (Q146 (Q4 0 1 0 c)<|.fn (.func 77) [] [(false,[(Q108 1)])]) [Q52 d,Q100 a]=
  (Q162 108 2 r b (Q168 0 0 1 c) 1 (.fn (.func 77) [] [(false,[(Q108 1)])]) 7 (c:Int) 8 0 [Q194 0 d,Q129 1 1 a] 2):=zg
theorem YL (e:Nat)(f d:Int)(c:RW)(a:Int)(r:TV)(b:LA):let A:=Q168 0 0 1 e;let B:=0+(toNat d);let C:=FV.I (getD (getD c B []) 0 FV.N);VQ lv38 108 2 r b 1 ⟨Q121 A 1 (.fn (.func 77) [] [(false,[(Q108 1)])]) 7 f 8 d,[Q194 0 c,Q129 1 1 a],2⟩=
  (br (decide (d<f)) ((0<=d/\d<(e:Int))/\((B<(length c))/\(([(Q1 C)]:List FV)=(take 1<|drop 0<|getD c B []))/\((1:Nat)=1))/\∃g:Bool,Q193 77 (Q20 C) 1 (Q101 a) g (Q101 a)/\br g (Q54 d [Q52 c,Q100 a] r b) (Q162 108 2 r b A 1 (.fn (.func 77) [] [(false,[(Q108 1)])]) 7 f 8 (wrap .i64<|d+1) [Q194 0 c,Q129 1 1 a] 2))<|Q54 (-1:Int) [Q52 c,Q100 a] r b):=zh
theorem v77 (x a:Int)(r:TV)(b:LA):VE lv5 77 1 r b (Q143 (Q20 x) 1) (Q101 a)=
  (Q30 (decide (x>=a)) (Q101 a) r b):=zg
theorem v25_F113 (s:RW)(a:Int)(r:TV)(b:LA):let A:=Q122 s (.fn (.func 113) [] [(false,[Q120])]);let B:=Q101 a;VE lv5 25 1 r b A B=
  (∃c:Int,Q74 42 A B c B/\Q30 (decide (c>=0)) B r b):=zh
def lv114:LV:=[(1,[1,2,7,27,28,29])]
theorem iH (a:Int)(d:LU)(e:Int)(f:RW)(k b:Int)(r:TV)(g:LA):let A:=(∃h:FV,∃i:Int,Q60 142 (Q125 a d e f) [] (Q188 (Q0 h) i) []/\(FV.L 4 h=true)/\Q152 114 1 r g (Q109 (Q15 1 k) (Q5 2<|.fn (.func 115) [] [(false,[Q120])]) (Q15 7 i) (Q172 27 h) (Q15 28 (length (FV.ses h):Int)) 29 0) [Q129 0 1 b] 1);VE lv114 114 1 r g [Q71 a d e f,Q20 k,.c<|.fn (.func 115) [] [(false,[Q120])]] (Q101 b)=
  (br (a !=5) (br (a !=6) (∃j:Int,Q60 115 [Q71 a d e f,Q20 k,Q83 1] (Q101 b) [] (Q101 j)/\Q33 [] (Q101 j) r g) A) A):=zh
theorem Zt (i j:Int)(d:FV)(f b e:Int)(r:TV)(a:LA):let A:=Q5 2 (.fn (.func 115) [] [(false,[Q120])]);let B:=getD (FV.ses d) (toNat b) [];let C:=aE B;let D:=wrap .i64 (i+j);let E:=Q101 e;let F:=Q109 (Q15 1 i) A (Q15 7 j) (Q172 27 d) (Q15 28 f) 29 (wrap .i64<|b+1);VQ lv114 114 1 r a 1 ⟨Q109 (Q15 1 i) A (Q15 7 j) (Q172 27 d) (Q15 28 f) 29 b,[Q129 0 1 e],1⟩=
  (br (decide (b<f)) (((FV.L 4 d=true)/\(0<=b)/\(b<(length (FV.ses d):Int))/\(((rE B):List FV)=B))/\((∃k:Int,Q60 114 [C,Q20 D,.c<|.fn (.func 115) [] [(false,[Q120])]] E [] (Q101 k)/\Q152 114 1 r a F [Q129 0 1 k] 1)\/((∃_:Unit,Q60 114 [C,Q20 D,.c<|.fn (.func 115) [] [(false,[Q120])]] E [] [Q10 1 [Q26]]/\Q152 114 1 r a F [Q16 0 1 [Q26]] 1)\/((∃g:Nat×RW,Q60 114 [C,Q20 D,.c<|.fn (.func 115) [] [(false,[Q120])]] E [] [Q127 1 1 1 0 g.1,Q52 g.2]/\Q152 114 1 r a F [Q16 0 1<|Q126 1 1 0 g.1,Q194 1 g.2] 2)\/(∃h:Nat×RW,Q60 114 [C,Q20 D,.c<|.fn (.func 115) [] [(false,[Q120])]] E [] (Q151 1 2 1 0 h.1 1 h.2)/\Q152 114 1 r a F [Q16 0 1<|Q126 1 1 0 h.1,Q194 1 h.2] 2)))))<|Q33 [] E r a):=zh
theorem v116 (a:LU)(r:TV)(b:LA):let A:=Q192 0 r b;VE lv5 116 0 r b [.c<|Q7 a] []=
  (br ((a:LU)==[116,114,117,101]) A<|br ((a:LU)==[102,97,105,108]) A<|br ((a:LU)==[33]) A<|br ((a:LU)==[112,105]) (Q192 1 r b)<|br ((a:LU)==[115,105,103,109,97]) (Q192 1 r b)<|Q192 2 r b):=zh
theorem v117 (b:Int)(d:LU)(e:Int)(f:RW)(g:Int)(h:RW)(i:Bool)(r:TV)(a:LA):VE lv5 117 0 r a [Q71 b d e f,Q179 g h<|Q6 i] []=
  (∃j:Int×List Cl,let A:=length j.2;let B:=CLs j.2;Q74 143 [Q71 b d e f,Q179 g h<|Q6 i,.c<|.fn (.func 144) [] [(false,[Q120])]] (Q88 (Q127 1 1 9 0 0) 9 []) j.1 (Q151 1 2 9 0 A 9 B)/\br (j.1 !=0) (Q33 (Q187 Q140 j.1) [] r a) (((9:Nat)=9/\(0+A)<=(length B))/\Q33 (Q188 (Q8 9<|take A<|drop 0 B) 0) [] r a)):=zg
theorem v97 (b:Int)(c:LU)(d:Int)(e:RW)(g h:Int)(r:TV)(a:LA):let A:=Q71 b c d e;let B:=Q144 g (Q100 h);VE lv5 97 0 r a (Q173 A (Q20 g) h) []=
  (∃f:Tm,Q9 129 (Q173 (.agg [(.fn (.func 130) [] [(false,[Q120]),(false,[(Q108 1)])])]) A 0) B (aT f) B/\RT (aT f) [] r a):=zh
theorem v63 (a j:Int)(b:LU)(c:Int)(d:RW)(e:Int)(f:LU)(g:Int)(h:RW)(r:TV)(i:LA):let A:=Q50 true r i;VE lv5 63 0 r i [Q130 a (Q2 j) (Q7 b) (Q2 c) (Q53 d) (Q2 e) (Q7 f) (Q2 g) h] []=
  (∃p:LU,∃k:Bool,Q60 64 (Q125 j b c d) [] [Q137<|Q7 p,Q137<|Q6 k] []/\∃l:Bool,Q91 59 [Q20 a] l/\br (!l) A (∃m:Bool,Q91 60 (Q173 (Q71 j b c d) (Q20 0) a) m/\br (!m) A (∃n:Bool,Q91 60 (Q173 (Q71 e f g h) (Q20 0) a) n/\br (!n) A (br (!k) A (∃o:Int,Q74 61 (Q125 e f g h) [] o []/\Q50 (o !=0) r i))))):=zh
theorem v42_F93 (s:RW)(r:TV)(a:LA):VE lv38 42 0 r a (Q122 s<|.fn (.func 93) [] []) []=
  ((FV.L 4 (Q174 s)=true)/\Q162 42 0 r a (Q118 0 s) 1 (.fn (.func 93) [] []) 7 (length s:Int) 8 0 [] 0):=zg
theorem XU (c:RW)(d b:Int)(r:TV)(a:LA):let A:=getD c (toNat b) [];VQ lv38 42 0 r a 1 ⟨Q121 (Q118 0 c) 1 (.fn (.func 93) [] []) 7 d 8 b,[],0⟩=
  (br (decide (b<d)) (((FV.L 4 (Q174 c)=true)/\(0<=b)/\(b<(length c:Int))/\(((rE A):List FV)=A))/\∃e:Bool,Q91 93 [(aE A)] e/\br e (Q192 b r a) (Q162 42 0 r a (Q118 0 c) 1 (.fn (.func 93) [] []) 7 d 8 (wrap .i64<|b+1) [] 0))<|Q192 (-1:Int) r a):=zh
theorem v95 (s:RW)(r:TV)(a:LA):VE lv5 95 0 r a [Q69 s] []=
  (RT (.c<|.fn (.func 126) [] [(false,[Q120])]) [Q10 1<|Q180 s] r a):=zg
theorem v96 (a:Int)(b:LU)(c:Int)(d:RW)(i j:Int)(e:LU)(f:Int)(g:RW)(r:TV)(h:LA):let A:=Q144 i (Q119 4 j e f g);VE lv5 96 0 r h [Q71 a b c d,Q20 i,Q71 j e f g] []=
  (∃k:Tm,Q9 129 (Q173 (.agg [(.fn (.func 127) [] [(false,[Q120]),(false,[(Q107 1 4)])])]) (Q71 a b c d) 0) A (aT k) A/\RT (aT k) [] r h):=zh
theorem v131 (i:Int)(j:LU)(k:Int)(l:RW)(m:Int)(n:LU)(o:Int)(p:RW)(g:Int)(c:Nat)(s:RW)(r:TV)(h:LA):let A:=Q71 i j k l;let B:=Q71 m n o p;let C:=Q184 2 g 1 8 0 c 8 s;VE lv69 131 2 r h (Q95 2 A B) C=
  (∃a:Int×Int×List In1,Q74 69 (Q178 2<|Q159 9 (Q2 0) (Q2 0) (Q7 []) (Q2 0) Q26 Q26 Q26) C a.1 (Q111 2 a.2.1 2 8 0 (length a.2.2) 8<|FIs a.2.2)/\∃d:Int×List In1,Q60 99 (Q95 2 A<|Q25 false) (Q184 2 a.2.1 1 8 0 (length a.2.2) 8<|FIs a.2.2) [] (Q111 2 d.1 2 8 0 (length d.2) 8<|FIs d.2)/\∃b:Int×Int×List In1,Q74 69 (Q178 2<|Q159 10 (Q2 0) (Q2 0) (Q7 []) (Q2 0) Q26 Q26 Q26) (Q184 2 d.1 1 8 0 (length d.2) 8<|FIs d.2) b.1 (Q111 2 b.2.1 2 8 0 (length b.2.2) 8<|FIs b.2.2)/\∃e:Int×List In1,Q60 151 (Q94 (Q83 2) a.1) (Q184 2 b.2.1 1 8 0 (length b.2.2) 8<|FIs b.2.2) [] (Q111 2 e.1 2 8 0 (length e.2) 8<|FIs e.2)/\∃f:Int×List In1,Q60 99 (Q95 2 B<|Q25 false) (Q184 2 e.1 1 8 0 (length e.2) 8<|FIs e.2) [] (Q111 2 f.1 2 8 0 (length f.2) 8<|FIs f.2)/\∃q:Int×List In1,let D:=Q111 2 q.1 2 8 0 (length q.2) 8 (FIs q.2);Q60 151 (Q94 (Q83 2) b.1) (Q184 2 f.1 1 8 0 (length f.2) 8<|FIs f.2) [] D/\Q33 [] D r h):=zh
theorem v132 (k g:Int)(c:LU)(d:Int)(e:RW)(a:Int)(b:Nat)(j:RW)(r:TV)(f:LA):VE lv69 132 2 r f (Q95 2 (Q20 k)<|Q71 g c d e) (Q184 2 a 1 8 0 b 8 j)=
  (∃i:Tm,Q176 66 [Q20 a] (aT i)/\∃h:Int×Int×List In1,let A:=Q111 2 h.2.1 2 8 0 (length h.2.2) 8 (FIs h.2.2);Q74 69 (Q178 2<|Q159 k (Q2 i.n) (Q2 0) (Q7 []) (Q2 0) Q26 Q26 Q26) (Q184 2 (wrap .i64<|a+1) 1 8 0 b 8 j) h.1 A/\∃l:Tm,Q176 87 (Q125 g c d e) (aT l)/\∃m:Tm,Q176 96 [(aT l),Q20 0,(aT i)] (aT m)/\RT (aT m) A r f):=zg
def lv133:LV:=[(1,[0,5,8,16,17,18]),(1000001,[1])]
theorem v133 (c:Int)(d:LU)(e:Int)(f:RW)(g:Int)(h:LU)(i:Int)(j:RW)(b:Int)(a:Nat)(l:RW)(r:TV)(k:LA):VE lv133 133 2 r k (Q95 2 (Q71 c d e f)<|Q71 g h i j) (Q184 2 b 1 8 0 a 8 l)=
  (∃m:List Cl×Int,let A:=CLs m.1;Q60 152 (Q125 c d e f) [] (Q188 (Q8 9 A) m.2) []/\(FV.L 9 (Q3 9 A)=true)/\Q152 133 2 r k (Q109 (Q160 2) (Q87 5 3) (Q105 8) (Q42 16 9 A) (Q15 17 (length A:Int)) 18 0) [Q78 0 2 (Q2 b) 2 8 0 a,Q49 1,Q27 2 8 l,Q189 3 g h i j] 4):=zg
theorem v133_1a (e:RW)(l c b:Int)(a:Nat)(o:RW)(f:Int)(g:LU)(h:Int)(i:RW)(r:TV)(j:LA):let A:=getD e (toNat c) [];let B:=FV.I (getD A 0 FV.N);let C:=FV.I (getD A 1 FV.N);let D:=FV.S (getD A 2 FV.N);let E:=FV.I (getD A 3 FV.N);let F:=getD A 4 FV.N;let G:=FV.I (getD A 5 FV.N);let H:=FV.S (getD A 6 FV.N);let I:=FV.I (getD A 7 FV.N);let J:=getD A 8 FV.N;VQ lv133 133 2 r j 1 ⟨Q109 (Q160 2) (Q87 5 3) (Q105 8) (Q42 16 9 e) (Q15 17 l) 18 c,[Q78 0 2 (Q2 b) 2 8 0 a,Q49 1,Q27 2 8 o,Q189 3 f g h i],4⟩=
  (br (decide (c<l)) (((FV.L 9 (Q3 9 e)=true)/\(0<=c)/\(c<(length e:Int))/\(([(Q1 B),(Q1 C),(.str D),(Q1 E),F,(Q1 G),(.str H),(Q1 I),J]:List FV)=A))/\∃d:Cd,Q176 45 (Q94 (.agg<|Q56 B (Q2 C) (Q7 D) (Q2 E) (Q0 F) (Q2 G) (Q7 H) (Q2 I)<|Q0 J) b) (.agg<|Q37 (Q7 d.nm) d.ar d.fr (Q2 d.vs) d.sl<|Q8 8<|FIs d.ins)/\(1<=1)/\zI 1 72/\Q152 133 2 r j (Q109 (Q160 2) (Q87 5 3) (Q168 8 4 6 1) (Q42 16 9 e) (Q15 17 l) 18<|wrap .i64<|c+1) [Q78 0 2 (Q2 b) 2 8 0 a,Q49 1,Q27 2 8 o,Q189 3 f g h i,Q27 4 6 [[(.str d.nm),(Q1 d.ar),(Q1 d.fr),(Q1 d.vs),(Q1 d.sl),(Q3 8<|FIs d.ins)]]] 5) (∃k:Int×Int×List In1,Q74 69 (Q178 2<|Q159 14 (Q2 0) (Q2 0) (Q7 []) (Q2 0) Q26 Q26 Q26) (Q184 2 b 1 8 0 a 8 o) k.1 (Q111 2 k.2.1 2 8 0 (length k.2.2) 8<|FIs k.2.2)/\∃m:Int×List In1,Q60 99 (Q95 2 (Q71 f g h i)<|Q25 false) (Q184 2 k.2.1 1 8 0 (length k.2.2) 8<|FIs k.2.2) [] (Q111 2 m.1 2 8 0 (length m.2) 8<|FIs m.2)/\∃n:Int×Int×List In1,let K:=Q111 2 n.2.1 2 8 0 (length n.2.2) 8 (FIs n.2.2);Q74 69 (Q178 2<|Q159 15 (Q2 0) (Q2 0) (Q7 []) (Q2 0) Q26 Q26 Q26) (Q184 2 m.1 1 8 0 (length m.2) 8<|FIs m.2) n.1 K/\Q33 [] K r j)):=zh
theorem rv (a:Nat)(f:RW)(m d c:Int)(b:Nat)(q:RW)(g:Int)(h:LU)(i:Int)(j o:RW)(r:TV)(k:LA):let A:=getD f (toNat d) [];let B:=FV.I (getD A 0 FV.N);let C:=FV.I (getD A 1 FV.N);let D:=FV.S (getD A 2 FV.N);let E:=FV.I (getD A 3 FV.N);let F:=getD A 4 FV.N;let G:=FV.I (getD A 5 FV.N);let H:=FV.S (getD A 6 FV.N);let I:=FV.I (getD A 7 FV.N);let J:=getD A 8 FV.N;VQ lv133 133 2 r k 1 ⟨Q109 (Q160 2) (Q87 5 3) (Q168 8 4 6 a) (Q42 16 9 f) (Q15 17 m) 18 d,[Q78 0 2 (Q2 c) 2 8 0 b,Q49 1,Q27 2 8 q,Q189 3 g h i j,Q27 4 6 o],5⟩=
  (br (decide (d<m)) (((FV.L 9 (Q3 9 f)=true)/\(0<=d)/\(d<(length f:Int))/\(([(Q1 B),(Q1 C),(.str D),(Q1 E),F,(Q1 G),(.str H),(Q1 I),J]:List FV)=A))/\∃e:Cd,Q176 45 (Q94 (.agg<|Q56 B (Q2 C) (Q7 D) (Q2 E) (Q0 F) (Q2 G) (Q7 H) (Q2 I)<|Q0 J) c) (.agg<|Q37 (Q7 e.nm) e.ar e.fr (Q2 e.vs) e.sl<|Q8 8<|FIs e.ins)/\(1<=1)/\(a<=(length o)/\zI (a+1) 72)/\Q152 133 2 r k (Q109 (Q160 2) (Q87 5 3) (Q168 8 4 6<|a+1) (Q42 16 9 f) (Q15 17 m) 18<|wrap .i64<|d+1) [Q78 0 2 (Q2 c) 2 8 0 b,Q49 1,Q27 2 8 q,Q189 3 g h i j,Q27 4 6<|(take a o)++[[(.str e.nm),(Q1 e.ar),(Q1 e.fr),(Q1 e.vs),(Q1 e.sl),(Q3 8<|FIs e.ins)]]] 5) (((6:Nat)=6/\(0+a)<=(length o))/\∃l:Int×Int×List In1,Q74 69 (Q178 2<|Q159 14 (Q2 0) (Q2 0) (Q7 []) (Q2 0) Q26 Q26<|Q8 6<|take a<|drop 0 o) (Q184 2 c 1 8 0 b 8 q) l.1 (Q111 2 l.2.1 2 8 0 (length l.2.2) 8<|FIs l.2.2)/\∃n:Int×List In1,Q60 99 (Q95 2 (Q71 g h i j)<|Q25 false) (Q184 2 l.2.1 1 8 0 (length l.2.2) 8<|FIs l.2.2) [] (Q111 2 n.1 2 8 0 (length n.2) 8<|FIs n.2)/\∃p:Int×Int×List In1,let K:=Q111 2 p.2.1 2 8 0 (length p.2.2) 8 (FIs p.2.2);Q74 69 (Q178 2<|Q159 15 (Q2 0) (Q2 0) (Q7 []) (Q2 0) Q26 Q26 Q26) (Q184 2 n.1 1 8 0 (length n.2) 8<|FIs n.2) p.1 K/\Q33 [] K r k)):=zh
theorem iX (s:RW)(r:TV)(a:LA):let A:=Q146 (Q8 1 s) (.fn (.func 119) [] []);VE lv5 118 0 r a A []=
  (∃b:Int,Q74 108 A [] b []/\Q50 (decide (b>=0)) r a):=zh
theorem v120 (c:Int)(d:LU)(e:Int)(f:RW)(g:LU)(i j k a:Int)(h:RW)(r:TV)(b:LA):let A:=Q71 c d e f;let B:=Q112 6 g i j k a 8 h;let C:=Q125 c d e f;let D:=Q30 true B r b;VE lv5 120 1 r b (Q143 A 6) B=
  (∃l:Bool,Q91 7 C l/\br (!l) D (∃m:Int,Q74 84 C [] m []/\br (decide (m>0)) D (∃n:Bool,Q91 121 (Q94 A a) n/\Q30 (!n) B r b))):=zh
theorem v122 (a:Int)(b:LU)(c:Int)(d:RW)(r:TV)(e:LA):VE lv5 122 0 r e (Q125 a b c d) []=
  (∃f:Bool,Q91 107 [Q71 a b c d,Q170 0 [] 0] f/\Q50 f r e):=zg
theorem v25_F120 (s:RW)(a:LU)(d e f g:Int)(b:RW)(r:TV)(c:LA):let A:=Q122 s (.fn (.func 120) [] [(false,[(Q107 0 6)])]);let B:=Q112 6 a d e f g 8 b;VE lv5 25 1 r c A B=
  (∃h:Int,Q74 42 A B h B/\Q30 (decide (h>=0)) B r c):=zh
theorem v123 (h:LU)(d e f g:Int)(b:RW)(c:Int)(r:TV)(a:LA):let A:=FV.L 8 (Q3 8 b)=true;let B:=(length b:Int);let C:=getD b (toNat c) [];let D:=FV.I (getD C 0 FV.N);let E:=FV.I (getD C 1 FV.N);let F:=FV.I (getD C 2 FV.N);let G:=FV.S (getD C 3 FV.N);let H:=FV.I (getD C 4 FV.N);let I:=getD C 5 FV.N;let J:=getD C 6 FV.N;let K:=getD C 7 FV.N;let L:=(E:Int);let M:=decide (c>0);let N:=wrap .i64 (c-1);let O:=getD b (toNat N) [];let P:=FV.I (getD O 0 FV.N);let Q:=FV.I (getD O 1 FV.N);let S:=A/\(0<=N)/\(N<B)/\(([(Q1 P),(Q1 Q),(Q1<|FV.I<|getD O 2 FV.N),(.str<|FV.S<|getD O 3 FV.N),(Q1<|FV.I<|getD O 4 FV.N),(getD O 5 FV.N),(getD O 6 FV.N),(getD O 7 FV.N)]:List FV)=O);let T:=Q84 Q171 [Q44] [] r a;let U:=(∃j:Bool,Q91 146 [Q20 P] j/\br j (Q84 Q171 [Q6 (decide ((Q:Int)<E))] [] r a) T);let V:=br M (S/\U) (Q84 Q171 [Q79] [] r a);let W:=br M (S/\T) T;let X:=br (decide (((0:Int):Int)<=E)) (br (decide (L<d)) (br (D==0) V<|br (F==0) V<|br M (S/\br (F==2) U T)<|Q84 Q171 [Q6<|F==2] [] r a) W) W;let Y:=(∃k:Bool,Q91 147 [Q138 F G H I] k/\Q84 (Q114 Q79 Q44) [Q6 k] [] r a);let Z:=Q141 Q44;let Aa:=Q84 Z [Q44] [] r a;let Ab:=br (decide ((c:Int)<E)) (A/\Q84 Z [Q6 (decide (L<B))] [] r a) Aa;let Ac:=br (decide (((wrap .i64<|e+f):Int)<=E)) (Q84 Z [Q6 (decide (L<g))] [] r a) Aa;let Ad:=Q112 6 h d e f g 8 b;let Ae:=Q84 (Q114 Q44 Q44) [Q79] [] r a;VE lv5 123 0 r a (Q94 (.agg<|Q37 (Q7 h) d e (Q2 f) g<|Q8 8 b) c) []=
  ((A/\(0<=c)/\(c<B)/\(([(Q1 D),(Q1 E),(Q1 F),(.str G),(Q1 H),I,J,K]:List FV)=C))/\br (D==0) X (br (D==1) X<|br (D==2) Y<|br (D==3) Y<|br (D==5) ((FV.L 4 J=true)/\Q84 [Q44,Q79,Q44,Q44] [Q6<|((((length<|FV.ses J):Nat):Int):Int)==(2:Int)] [] r a)<|br (D==6) (∃l:Bool,Q91 148 [Q138 F G H I] l/\Q84 (Q114 Q79 Q44) [Q6 l] [] r a)<|br (D==9) Ab<|br (D==10) Ab<|br (D==11) Ac<|br (D==13) Ac<|br (D==14) (∃i:Bool,Q43 150 (Q146 (Q0 K)<|.fn (.func 149) [] [(false,[(Q107 0 6)])]) Ad i Ad/\Q84 (Q113 Q44 Q79 Q44) [Q6 (!i)] [] r a)<|br (D==4) Ae<|br (D==7) Ae<|br (D==8) Ae<|br (D==12) Ae<|br (D==15) Ae<|Q84 (Q114 Q44 Q44) [Q44] [] r a)):=zh
theorem v125 (d:Bool)(b c k:Int)(r:TV)(a:LA):let A:=Q59 (Q6 d) (Q2 b) c;let B:=br (b==0) (Q33 [Q39 A,Q137 Q44,Q137<|Q6<|c==0] [] r a) (Q33 [Q39 A,Q137 Q44,Q137 Q44] [] r a);let C:=wrap .i64 (b+1);let D:=Q59 (Q6 d) (Q2 C) c;let E:=Q6 (decide (c>=0));let F:=wrap .i64 (b-1);let G:=Q59 (Q6 d) (Q2 F) c;let H:=decide (b>=0);let I:=wrap .i64 (c+1);let J:=Q59 (Q6 d) (Q2 b) I;let K:=wrap .i64 (c-1);let L:=Q59 (Q6 d) (Q2 b) K;VE lv5 125 0 r a (Q94 (.agg A) k) []=
  (br (k==4) B<|br (k==3) B<|br (k==8) (Q33 [Q39 A,Q137 Q44,Q137 Q79] [] r a)<|br (k==11) (br (decide (C>=0)) (Q33 [Q39 D,Q137 Q79,Q137 E] [] r a)<|Q33 [Q39 D,Q137 Q79,Q137 Q44] [] r a)<|br (k==12) (br (decide (F>=0)) (Q33 [Q39 G,Q137 Q79,Q137 E] [] r a)<|Q33 [Q39 G,Q137 Q79,Q137 Q44] [] r a)<|br (k==14) (br H (Q33 [Q39 J,Q137 Q79,Q137<|Q6 (decide (I>=0))] [] r a)<|Q33 [Q39 J,Q137 Q79,Q137 Q44] [] r a)<|br (k==15) (br H (Q33 [Q39 L,Q137 Q79,Q137<|Q6 (decide (K>=0))] [] r a)<|Q33 [Q39 L,Q137 Q79,Q137 Q44] [] r a)<|br H (Q33 [Q39 A,Q137 Q79,Q137 E] [] r a)<|Q33 [Q39 A,Q137 Q79,Q137 Q44] [] r a):=zh
theorem v124 (f:Int)(b:Bool)(d e:Int)(a:Nat)(g:RW)(r:TV)(c:LA):let A:=Q127 1 1 3 0 a;let B:=Q88 A 3 g;let C:=0<=f/\f<(a:Int);let D:=0+(toNat f);let E:=D<(length g);let F:=getD g D [];let G:=FV.asB (getD F 0 FV.N);let H:=List.set g D [(.bool b),(Q1 d),(Q1 e)];let I:=getD H D [];let J:=FV.asB (getD I 0 FV.N);let K:=FV.I (getD I 1 FV.N);let L:=FV.I (getD I 2 FV.N);let M:=FV.I (getD F 1 FV.N);let N:=FV.I (getD F 2 FV.N);VE lv5 124 2 r c [Q20 f,.agg<|Q59 (Q6 b) (Q2 d) e,Q83 1] B=
  (br (decide ((f:Int)>=(a:Int))) (Q30 false B r c)<|C/\(E/\(([(.bool G)]:List FV)=(take 1<|drop 0 F))/\((1:Nat)=1))/\br (!G) (C/\(D<(length g)/\(length F)=3)/\C/\((D<(length H))/\(([(.bool J),(Q1 K),(Q1 L)]:List FV)=(take 3<|drop 0 I))/\((3:Nat)=3))/\Q30 (((J:Bool)==b)&&(((K:Int)==d)&&(((L:Int)==e)&&true))) (Q88 A 3 H) r c) (C/\(E/\(([(.bool G),(Q1 M),(Q1 N)]:List FV)=(take 3<|drop 0 F))/\((3:Nat)=3))/\Q30 (((G:Bool)==b)&&(((M:Int)==d)&&(((N:Int)==e)&&true))) B r c)):=zh
theorem v100 (x:Int)(a c:Nat)(d e:RW)(r:TV)(b:LA):let A:=Q70 1 a 2 c d 1 e;let B:=Q84 (Q31 (Q2 0) Q44 0 (Q7 []) 0 Q26) [Q44] A r b;let C:=getD d (0+(toNat x)) [];let D:=FV.I (getD C 0 FV.N);let E:=FV.asB (getD C 1 FV.N);let F:=FV.I (getD C 2 FV.N);let G:=FV.S (getD C 3 FV.N);let H:=FV.I (getD C 4 FV.N);let I:=getD C 5 FV.N;VE lv5 100 3 r b (Q94 (Q83 2) x) A=
  (br (decide (x<0)) B<|br (decide ((x:Int)>=(a:Int))) B<|(0<=x/\x<(a:Int))/\(((0+(toNat x))<(length d))/\(([(Q1 D),(.bool E),(Q1 F),(.str G),(Q1 H),I]:List FV)=(take 6<|drop 0 C))/\((6:Nat)=6))/\Q84 (Q31 (Q2 D) (Q6 E) F (Q7 G) H<|Q0 I) [Q79] A r b):=zh
def lv34:LV:=[(1,[0,3,9,10,11]),(5,[6,25,26,27])]
theorem v34 (a:RW)(r:TV)(b:LA):VE lv34 34 0 r b [.c<|Q8 1 a] []=
  ((FV.L 1 (Q3 1 a)=true)/\Q152 34 0 r b (Q158 (Q42 0 1 a) (Q15 3 0) (Q42 9 1 a) 10 (length a:Int) 11 0) [] 0):=zg
theorem v34_1a (e:RW)(g:Int)(f:RW)(d a:Int)(r:TV)(b:LA):let A:=getD f (toNat a) [];let B:=getD A 0 FV.N;let C:=wrap .i64 (g+(((length<|FV.ses B):Nat):Int));let D:=Q94 (.c Q26) g;let E:=FV.L 1 (Q3 1 e)=true;let F:=(length e:Int);VQ lv34 34 0 r b 1 ⟨Q158 (Q42 0 1 e) (Q15 3 g) (Q42 9 1 f) 10 d 11 a,[],0⟩=
  (br (decide (a<d)) (((FV.L 1 (Q3 1 f)=true)/\(0<=a)/\(a<(length f:Int))/\(([B]:List FV)=A))/\(FV.L 4 B=true)/\br (decide (C<0)) False (Q152 34 0 r b (Q158 (Q42 0 1 e) (Q15 3 C) (Q42 9 1 f) 10 d 11<|wrap .i64<|a+1) [] 0))<|(∃_:Unit,Q176 54 D (.c Q26)/\E/\Q51 34 0 r b 5 (Q85 (Q105 6) (Q42 25 1 e) 26 F 27 0) [] 0)\/(∃_:Unit,Q175 54 D (.c<|Q4 0 4 0 0) (Q157 4 [])/\E/\Q51 34 0 r b 5 (Q85 (Q169 6 0 0) (Q42 25 1 e) 26 F 27 0) [Q196 0 []] 1)):=zh
theorem v34_5a (b:RW)(e a:Int)(r:TV)(d:LA):let A:=Q42 25 1 b;let B:=getD b (toNat a) [];let C:=getD B 0 FV.N;let D:=FV.ses C;let E:=wrap .i64 (a+1);VQ lv34 34 0 r d 5 ⟨Q85 (Q105 6) A 26 e 27 a,[],0⟩=
  (br (decide (a<e)) (((FV.L 1 (Q3 1 b)=true)/\(0<=a)/\(a<(length b:Int))/\(([C]:List FV)=B))/\(FV.L 4 C=true)/\br (List.isEmpty D) (Q51 34 0 r d 5 (Q85 (Q105 6) A 26 e 27 E) [] 0) (zI (length D) 56/\Q51 34 0 r d 5 (Q85 (Q169 6 0<|length D) A 26 e 27 E) [Q196 0 D] 1))<|RT (.c Q26) [] r d):=zh
theorem v34_5b (a:Nat)(c:RW)(e b:Int)(f:RW)(r:TV)(d:LA):let A:=getD c (toNat b) [];let B:=getD A 0 FV.N;let C:=a+(length<|FV.ses B);VQ lv34 34 0 r d 5 ⟨Q85 (Q169 6 0 a) (Q42 25 1 c) 26 e 27 b,[Q196 0 f],1⟩=
  (br (decide (b<e)) (((FV.L 1 (Q3 1 c)=true)/\(0<=b)/\(b<(length c:Int))/\(([B]:List FV)=A))/\(FV.L 4 B=true)/\(a<=(length f)/\zI C 56)/\Q51 34 0 r d 5 (Q85 (Q169 6 0 C) (Q42 25 1 c) 26 e 27<|wrap .i64<|b+1) [Q196 0<|(take a f)++(FV.ses B)] 1)<|((4:Nat)=4/\(0+a)<=(length f))/\RT (Q69<|take a<|drop 0 f) [] r d):=zh
theorem v101 (a:Int)(b:LU)(c:Int)(d:RW)(e:Int)(f:LU)(g:Int)(h:RW)(r:TV)(i:LA):VE lv5 101 0 r i [Q71 a b c d,Q71 e f g h] []=
  (∃j:Int,Q74 134 (Q125 a b c d) [] j []/\∃k:Int,Q74 135 (Q94 (Q71 a b c d) 0) [] k []/\∃l:Int,Q74 134 (Q125 e f g h) [] l []/\br (decide ((wrap .i64<|j+(wrap .i64<|k*l))>4096)) (Q33 (Q161 (Q190 0 [] 0) 80) [] r i) (∃m:Tm,Q176 96 [Q71 a b c d,Q20 0,Q71 e f g h] (aT m)/\Q33 (Q161 (cT m) 0) [] r i)):=zg
theorem v136 (i:Int)(j:LU)(k:Int)(l:RW)(m:Int)(n:LU)(g:Int)(o h:RW)(a:Nat)(d:Int)(b c:Nat)(p q s:RW)(r:TV)(e:LA):let A:=Q65 2 b 3 c;let B:=Q195 (Q96 3 1 2 0 0 4 8 0 a d) A p q 8 s;let C:=Q70 1 b 2 c p 1 q;VE lv5 136 5 r e (Q177 3<|Q130 i (Q7 j) (Q2 k) (Q53 l) (Q2 m) (Q7 n) (Q2 g) (Q53 o) h) B=
  (∃f:List Tm×Int×Int,let D:=Q53 (FTs f.1);Q60 153 [Q83 2,Q20 g,Q69 h,Q20 d] C (Q153 (Q137 D) f.2.1 f.2.2) C/\br (f.2.2==0) (Q33 (Q188 D f.2.2) (Q195 (Q96 3 1 2 0 0 4 8 0 a f.2.1) A p q 8 s) r e) (Q33 (Q188 D f.2.2) B r e)):=zh
theorem v137 (s:RW)(v:Bool)(r:TV)(a:LA):VE lv5 137 0 r a [.c<|Q8 1 s,Q25 v] []=
  (∃b:Int,Q74 154 [.c<|Q8 1 s,Q25 v] [] b []/\Q50 (decide (b>=0)) r a):=zg
def lv138:LV:=[(1,[0,1,2,7,9,24,25,26]),(1000001,[1,2])]
theorem v138 (x:Int)(a:RW)(b d:Nat)(g h:RW)(r:TV)(f:LA):let A:=Q70 1 b 2 d g 1 h;let B:=Q54 1 (Q155 3 b 4 d g h) r f;VE lv138 138 3 r f (Q95 2 (Q20 x)<|.c<|Q8 1 a) A=
  (∃e:Int×Bool×Tm×Bool,let C:=Q191 e.1 e.2.1 e.2.2.1.k e.2.2.1.s e.2.2.1.n (FTs e.2.2.1.l);Q60 100 (Q94 (Q83 2) x) A (Q55 C [Q6 e.2.2.2]) A/\br (!e.2.2.2) B (br e.2.1 B<|(FV.L 1 (Q3 1 a)=true)/\Q152 138 3 r f [Q160 2,Q15 1 x,Q42 2 1 a,Q47 7 5 6,Q105 9,Q42 24 1 a,Q15 25 (length a:Int),Q15 26 0] [Q116 0 2 3 6 0 b 4 1 0 d,Q49 1,Q49 2,Q27 3 6 g,Q194 4 h,Q16 5 6 C] 6)):=zh
theorem tu (p:Int)(o e:RW)(g d:Int)(a b:Nat)(q s:RW)(h:Int)(i:Bool)(j:Int)(k:LU)(l:Int)(m:RW)(r:TV)(f:LA):let A:=Q191 h i j k l m;let B:=getD e (toNat d) [];let C:=FV.asB (getD B 0 FV.N);let D:=FV.L 1 (Q3 1 o)=true;let E:=(length o:Int);let F:=wrap .i64 (d+1);VQ lv138 138 3 r f 1 ⟨[Q160 2,Q15 1 p,Q42 2 1 o,Q47 7 5 6,Q105 9,Q42 24 1 e,Q15 25 g,Q15 26 d],[Q116 0 2 3 6 0 a 4 1 0 b,Q49 1,Q49 2,Q27 3 6 q,Q194 4 s,Q16 5 6 A],6⟩=
  (br (decide (d<g)) (((FV.L 1 (Q3 1 e)=true)/\(0<=d)/\(d<(length e:Int))/\(([(.bool C)]:List FV)=B))/\br C (D/\∃t:Tm,Q176 155 [Q20<|wrap .i64<|(wrap .i64<|E-(1:Int))-d] (aT t)/\(1<=1)/\zI 1 56/\Q152 138 3 r f [Q160 2,Q15 1 p,Q42 2 1 o,Q47 7 5 6,Q169 9 6 1,Q42 24 1 e,Q15 25 g,Q15 26 F] [Q116 0 2 3 6 0 a 4 1 0 b,Q49 1,Q49 2,Q27 3 6 q,Q194 4 s,Q16 5 6 A,Q196 6 [(FT4 t)]] 7) (Q152 138 3 r f [Q160 2,Q15 1 p,Q42 2 1 o,Q47 7 5 6,Q105 9,Q42 24 1 e,Q15 25 g,Q15 26 F] [Q116 0 2 3 6 0 a 4 1 0 b,Q49 1,Q49 2,Q27 3 6 q,Q194 4 s,Q16 5 6 A] 6)) (D/\∃n:Tm×Sto,let G:=Q155 3 (length n.2.V) 4 (length n.2.T) (SR n.2.V) (IR n.2.T);Q9 156 [Q83 2,Q20 p,Q20 h,Q20 E,.c Q26] (Q70 1 a 2 b q 1 s) (aT n.1) G/\Q54 0 G r f)):=zh
theorem ni (q:Int)(j:RW)(c:Nat)(e:RW)(g d:Int)(a b:Nat)(s t:RW)(h:Int)(k:Bool)(l:Int)(m:LU)(n:Int)(p i:RW)(r:TV)(f:LA):let A:=Q191 h k l m n p;let B:=getD e (toNat d) [];let C:=FV.asB (getD B 0 FV.N);let D:=FV.L 1 (Q3 1 j)=true;let E:=(length j:Int);let F:=wrap .i64 (d+1);VQ lv138 138 3 r f 1 ⟨[Q160 2,Q15 1 q,Q42 2 1 j,Q47 7 5 6,Q169 9 6 c,Q42 24 1 e,Q15 25 g,Q15 26 d],[Q116 0 2 3 6 0 a 4 1 0 b,Q49 1,Q49 2,Q27 3 6 s,Q194 4 t,Q16 5 6 A,Q196 6 i],7⟩=
  (br (decide (d<g)) (((FV.L 1 (Q3 1 e)=true)/\(0<=d)/\(d<(length e:Int))/\(([(.bool C)]:List FV)=B))/\br C (D/\∃u:Tm,Q176 155 [Q20<|wrap .i64<|(wrap .i64<|E-(1:Int))-d] (aT u)/\(1<=1)/\(c<=(length i)/\zI (c+1) 56)/\Q152 138 3 r f [Q160 2,Q15 1 q,Q42 2 1 j,Q47 7 5 6,Q169 9 6<|c+1,Q42 24 1 e,Q15 25 g,Q15 26 F] [Q116 0 2 3 6 0 a 4 1 0 b,Q49 1,Q49 2,Q27 3 6 s,Q194 4 t,Q16 5 6 A,Q196 6<|(take c i)++[(FT4 u)]] 7) (Q152 138 3 r f [Q160 2,Q15 1 q,Q42 2 1 j,Q47 7 5 6,Q169 9 6 c,Q42 24 1 e,Q15 25 g,Q15 26 F] [Q116 0 2 3 6 0 a 4 1 0 b,Q49 1,Q49 2,Q27 3 6 s,Q194 4 t,Q16 5 6 A,Q196 6 i] 7)) (D/\((4:Nat)=4/\(0+c)<=(length i))/\∃o:Tm×Sto,let G:=Q155 3 (length o.2.V) 4 (length o.2.T) (SR o.2.V) (IR o.2.T);Q9 156 [Q83 2,Q20 q,Q20 h,Q20 E,Q69<|take c<|drop 0 i] (Q70 1 a 2 b s 1 t) (aT o.1) G/\Q54 0 G r f)):=zh
theorem v139 (n:Int)(o:LU)(p:Int)(q:RW)(s:Int)(t:LU)(h:Int)(u v b:RW)(j:Int)(k:LU)(l:Int)(m:RW)(a:Nat)(c:Int)(e f:Nat)(x y w:RW)(r:TV)(i:LA):VE lv75 139 5 r i [Q83 3,Q130 n (Q7 o) (Q2 p) (Q53 q) (Q2 s) (Q7 t) (Q2 h) (Q53 u) v,Q69 b,Q71 j k l m] (Q195 (Q96 3 1 2 0 0 4 8 0 a c) (Q65 2 e 3 f) x y 8 w)=
  (∃d:(Tm×Int×Int)×Sto,let A:=length d.2.V;let B:=length d.2.T;let C:=SR d.2.V;let D:=IR d.2.T;Q60 157 [Q83 2,Q20 h,Q69 b,Q71 j k l m,Q20 c] (Q70 1 e 2 f x 1 y) (Q153 (Q39<|cT d.1.1) d.1.2.1 d.1.2.2) (Q155 3 A 4 B C D)/\br (d.1.2.2 !=0) (Q54 d.1.2.2 (Q154 (Q96 3 1 2 0 0 7 8 0 a c) 5 A 6 B C D 8 w) r i) (∃g:Int×Sto,Q74 158 (Q95 2 (Q20 h)<|aT d.1.1) (Q70 1 A 2 B C 1 D) g.1 (Q155 3 (length g.2.V) 4 (length g.2.T) (SR g.2.V)<|IR g.2.T)/\Q54 g.1 (Q154 (Q96 3 1 2 0 0 7 8 0 a d.1.2.1) 5 (length g.2.V) 6 (length g.2.T) (SR g.2.V) (IR g.2.T) 8 w) r i)):=zg
def lv140:LV:=[(1,[1,2,15,16,17])]
theorem se (b d:RW)(r:TV)(a:LA):let A:=FV.L 4 (Q174 b)=true;let B:=(length b:Int);VE lv140 140 0 r a [Q69 b,Q69 d,.c<|.fn (.func 107) [] []] []=
  (A/\(FV.L 4 (Q174 d)=true)/\br ((B:Int) !=(length d:Int)) (Q57 r a) (A/\Q152 140 0 r a (Q158 (Q118 1 d) (Q5 2<|.fn (.func 107) [] []) (Q118 15 b) 16 B 17 0) [] 0)):=zh
theorem Zm (e b:RW)(d a:Int)(r:TV)(c:LA):let A:=Q5 2 (.fn (.func 107) [] []);let B:=getD b (toNat a) [];let C:=getD e (toNat a) [];VQ lv140 140 0 r c 1 ⟨Q158 (Q118 1 e) A (Q118 15 b) 16 d 17 a,[],0⟩=
  (br (decide (a<d)) (((FV.L 4 (Q174 b)=true)/\(0<=a)/\(a<(length b:Int))/\(((rE B):List FV)=B))/\((FV.L 4 (Q174 e)=true)/\(0<=a)/\(a<(length e:Int))/\(((rE C):List FV)=C))/\∃f:Bool,Q91 107 [(aE B),(aE C)] f/\br (!f) (Q57 r c) (Q152 140 0 r c (Q158 (Q118 1 e) A (Q118 15 b) 16 d 17<|wrap .i64<|a+1) [] 0))<|Q50 true r c):=zh
theorem v42_F113 (s:RW)(a:Int)(r:TV)(b:LA):VE lv38 42 1 r b (Q122 s<|.fn (.func 113) [] [(false,[Q120])]) (Q101 a)=
  ((FV.L 4 (Q174 s)=true)/\Q162 42 1 r b (Q118 0 s) 1 (.fn (.func 113) [] [(false,[Q120])]) 7 (length s:Int) 8 0 [Q129 0 1 a] 1):=zg
theorem YU (d:RW)(e c a:Int)(r:TV)(b:LA):let A:=getD d (toNat c) [];let B:=Q101 a;VQ lv38 42 1 r b 1 ⟨Q121 (Q118 0 d) 1 (.fn (.func 113) [] [(false,[Q120])]) 7 e 8 c,[Q129 0 1 a],1⟩=
  (br (decide (c<e)) (((FV.L 4 (Q174 d)=true)/\(0<=c)/\(c<(length d:Int))/\(((rE A):List FV)=A))/\∃f:Bool,Q193 113 (aE A) 1 B f B/\br f (Q54 c B r b) (Q162 42 1 r b (Q118 0 d) 1 (.fn (.func 113) [] [(false,[Q120])]) 7 e 8 (wrap .i64<|c+1) [Q129 0 1 a] 1))<|Q54 (-1:Int) B r b):=zh
theorem v115 (c:Int)(e:LU)(d:Int)(f:RW)(k a:Int)(r:TV)(b:LA):VE lv5 115 1 r b [Q71 c e d f,Q20 k,Q83 1] (Q101 a)=
  (br (c==3) (Q33 [] (Q101<|xH [a,(wrap .i64<|(wrap .i64<|d-k)+(1:Int))]) r b)<|Q33 [] (Q101 a) r b):=zg
theorem v142 (b:Int)(d:LU)(e:Int)(c:RW)(r:TV)(a:LA):VE lv5 142 0 r a (Q125 b d e c) []=
  (br (b==5) (Q33 (Q188 (Q53 c) 1) [] r a)<|br (b==6) (Q33 (Q188 (Q53 c) 0) [] r a)<|Q33 (Q187 Q140 0) [] r a):=zg
theorem sW (a0:Int)(a1:LU)(a2:Int)(a3:RW)(d:Int)(e:RW)(b:Bool)(p:Nat)(o1:RW)(r:TV)(a:LA):let A:=Q88 (Q127 1 1 9 0 p) 9 o1;let B:=Q94 (Q71 a0 a1 a2 a3) 131;let C:=Q151 1 2 9 0 p 9 o1;let D:=Q54 132 C r a;let F:=(∃z3:Tm,Q176 161 [Q179 d e<|Q6 b] (aT z3)/\∃z4:List Cl,let E:=Q151 1 2 9 0 (length z4) 9 (CLs z4);Q60 144 (Q143 (Q130 d (Q2 a0) (Q7 a1) (Q2 a2) (Q53 a3) (Q2 z3.k) (Q7 z3.s) (Q2 z3.n)<|FTs z3.l) 1) A [] E/\Q54 0 E r a);let G:=FV.L 4 .N=true;let H:=((0:Nat):Int);let I:=([(Q1 0),(.str []),(Q1 0),.N]:List FV)=[];let J:=G/\(0<=(0:Int))/\((0:Int)<H)/\I;let K:=G/\(0<=(1:Int))/\((1:Int)<H)/\I;let M:=K/\∃a4:Int,Q74 61 [Q170 0 [] 0] [] a4 []/\br (a4 !=0) (Q54 a4 C r a) (J/\K/\∃h:Int×List Tm×Bool,Q176 164 [Q179 d e<|Q6 b,Q170 0 [] 0] (Q179 h.1 (FTs h.2.1)<|Q6 h.2.2)/\∃t:Int×List Cl,let L:=Q151 1 2 9 0 (length t.2) 9 (CLs t.2);Q74 143 [Q170 0 [] 0,Q179 h.1 (FTs h.2.1)<|Q6 h.2.2,.c<|.fn (.func 144) [] [(false,[Q120])]] A t.1 L/\Q54 t.1 L r a);let N:=Q54 131 C r a;let O:=(4:Nat)=4;VE lv69 143 2 r a [Q71 a0 a1 a2 a3,Q179 d e<|Q6 b,.c<|.fn (.func 144) [] [(false,[Q120])]] A=
  ((∃u:LU×Int,Q60 85 B [] (Q97 (Q137<|Q7 u.1) Q140 u.2) []/\br (u.2 !=0) (Q54 u.2 C r a) (br ((u.1:LU)==[]) (br (!b) (∃z2:Bool,Q91 25 (Q146 Q26<|.fn (.func 159) [] []) z2/\br z2 D F) F)<|br ((u.1:LU)==[44]) (J/\∃z7:Int×List Cl,let P:=Q151 1 2 9 0 (length z7.2) 9 (CLs z7.2);Q74 143 [Q170 0 [] 0,Q179 d e<|Q6 b,.c<|.fn (.func 144) [] [(false,[Q120])]] A z7.1 P/\br (z7.1 !=0) (Q54 z7.1 P r a) (K/\∃z8:Int×List Cl,let Q:=Q151 1 2 9 0 (length z8.2) 9 (CLs z8.2);Q74 143 [Q170 0 [] 0,Q179 d e<|Q6 b,.c<|.fn (.func 144) [] [(false,[Q120])]] (Q88 (Q127 1 1 9 0<|length z7.2) 9<|CLs z7.2) z8.1 Q/\Q54 z8.1 Q r a))<|br ((u.1:LU)==[112,105]) (J/\∃z9:Tm,Q176 87 [Q170 0 [] 0] (aT z9)/\∃i:Int×List Tm×Bool,Q176 162 [Q179 d e<|Q6 b] (Q179 i.1 (FTs i.2.1)<|Q6 i.2.2)/\∃v:Int×List Cl,let S:=Q151 1 2 9 0 (length v.2) 9 (CLs v.2);Q74 143 [(aT z9),Q179 i.1 (FTs i.2.1)<|Q6 i.2.2,.c<|.fn (.func 144) [] [(false,[Q120])]] A v.1 S/\Q54 v.1 S r a)<|br ((u.1:LU)==[61,62]) (∃_:List Tm,Q60 163 [.c Q26] [] [] []/\M)<|br ((u.1:LU)==[58,45]) M N))\/(∃f:LU×List Tm×Int,let T:=length f.2.1;let U:=FTs f.2.1;let V:=Q157 4 U;let W:=((T:Nat):Int);let X:=0<=(0:Int)/\(0:Int)<W;let Y:=getD U 0 [];let Z:=(0<(length U))/\(((rE Y):List FV)=(take 4<|drop 0 Y))/\O;let Aa:=0<=(1:Int)/\(1:Int)<W;let Ab:=getD U 1 [];let Ac:=(1<(length U))/\(((rE Ab):List FV)=(take 4<|drop 0 Ab))/\O;Q60 85 B [] (Q97 (Q137<|Q7 f.1) (Q17<|Q126 0 4 0 T) f.2.2) V/\br (f.2.2 !=0) (Q54 f.2.2 C r a) (br ((f.1:LU)==[]) (br (!b) (∃a9:Bool,Q43 25 (Q146 (Q4 0 4 0 T)<|.fn (.func 159) [] []) V a9 V/\br a9 D F) F)<|br ((f.1:LU)==[44]) (X/\Z/\∃g:Int×List Cl,let Ad:=Q151 1 2 9 0 (length g.2) 9 (CLs g.2);Q74 143 [(aE Y),Q179 d e<|Q6 b,.c<|.fn (.func 144) [] [(false,[Q120])]] A g.1 Ad/\br (g.1 !=0) (Q54 g.1 Ad r a) (Aa/\Ac/\∃w:Int×List Cl,let Ae:=Q151 1 2 9 0 (length w.2) 9 (CLs w.2);Q74 143 [(aE Ab),Q179 d e<|Q6 b,.c<|.fn (.func 144) [] [(false,[Q120])]] (Q88 (Q127 1 1 9 0<|length g.2) 9<|CLs g.2) w.1 Ae/\Q54 w.1 Ae r a))<|br ((f.1:LU)==[112,105]) (X/\Z/\∃aa:Tm,Q176 87 [(aE Y)] (aT aa)/\∃j:Int×List Tm×Bool,Q176 162 [Q179 d e<|Q6 b] (Q179 j.1 (FTs j.2.1)<|Q6 j.2.2)/\∃x:Int×List Cl,let Af:=Q151 1 2 9 0 (length x.2) 9 (CLs x.2);Q74 143 [(aT aa),Q179 j.1 (FTs j.2.1)<|Q6 j.2.2,.c<|.fn (.func 144) [] [(false,[Q120])]] A x.1 Af/\Q54 x.1 Af r a)<|br ((f.1:LU)==[61,62]) (∃q:List Tm,let Ag:=getD (FTs q) 1 [];let Ah:=(1<(length<|FTs q))/\(((rE Ag):List FV)=(take 4<|drop 0 Ag))/\O;let Ai:=getD (FTs q) 0 [];Q60 163 [.c<|Q4 0 4 0 T] V [] (Q157 4<|FTs q)/\Aa/\Ah/\∃a6:Int,Q74 61 [(aE Ag)] [] a6 []/\br (a6 !=0) (Q54 a6 C r a) (X/\((0<(length<|FTs q))/\(((rE Ai):List FV)=(take 4<|drop 0 Ai))/\O)/\Aa/\Ah/\∃m:Int×List Tm×Bool,Q176 164 [Q179 d e<|Q6 b,(aE Ag)] (Q179 m.1 (FTs m.2.1)<|Q6 m.2.2)/\∃y:Int×List Cl,let Aj:=Q151 1 2 9 0 (length y.2) 9 (CLs y.2);Q74 143 [(aE Ai),Q179 m.1 (FTs m.2.1)<|Q6 m.2.2,.c<|.fn (.func 144) [] [(false,[Q120])]] A y.1 Aj/\Q54 y.1 Aj r a))<|br ((f.1:LU)==[58,45]) (Aa/\Ac/\∃a7:Int,Q74 61 [(aE Ab)] [] a7 []/\br (a7 !=0) (Q54 a7 C r a) (X/\Z/\Aa/\Ac/\∃o:Int×List Tm×Bool,Q176 164 [Q179 d e<|Q6 b,(aE Ab)] (Q179 o.1 (FTs o.2.1)<|Q6 o.2.2)/\∃z:Int×List Cl,let Ba:=Q151 1 2 9 0 (length z.2) 9 (CLs z.2);Q74 143 [(aE Y),Q179 o.1 (FTs o.2.1)<|Q6 o.2.2,.c<|.fn (.func 144) [] [(false,[Q120])]] A z.1 Ba/\Q54 z.1 Ba r a)) N))):=zh
def pK:LV:=[(1,[2,3,4,6,7,8,9,30,31,32])]
theorem nj (a:Int)(b:LU)(c:Int)(d:RW)(k e f:Int)(r:TV)(g:LA):let A:=Q144 e (Q100 f);let B:=(∃h:FV,∃i:Int,Q60 142 (Q125 a b c d) [] (Q188 (Q0 h) i) []/\(FV.L 4 h=true)/\Q152 129 2 r g [Q15 2 k,Q47 3 2 1,Q87 4 3,Q87 6 4,Q172 7 h,Q15 8 i,Q105 9,Q172 30 h,Q15 31 (length (FV.ses h):Int),Q15 32 0] [Q129 0 1 e,Q129 1 1 f,Q16 2 1 [(.fn (.func 130) [] [(false,[Q120]),(false,[(Q108 1)])])],Q189 3 a b c d,Q75 4 4 0 [] 0] 5);VE pK 129 2 r g (Q173 (.agg [(.fn (.func 130) [] [(false,[Q120]),(false,[(Q108 1)])])]) (Q71 a b c d) k) A=
  (br (a !=5) (br (a !=6) (∃j:Tm,Q9 130 [Q71 a b c d,Q20 k,Q83 1,Q81 1 1] A (aT j) A/\RT (aT j) A r g) B) B):=zh
theorem Zw (n:Int)(p:FV)(o:Int)(c:FV)(m b f g a:Int)(d:LU)(e:Int)(h:RW)(i:Int)(j:LU)(k:Int)(r:TV)(l:LA):let A:=getD (FV.ses c) (toNat b) [];let B:=Q144 f (Q100 g);let C:=RT (Q170 a d e) B r l;VQ pK 129 2 r l 1 ⟨[Q15 2 n,Q47 3 2 1,Q87 4 3,Q87 6 4,Q172 7 p,Q15 8 o,Q105 9,Q172 30 c,Q15 31 m,Q15 32 b],[Q129 0 1 f,Q129 1 1 g,Q16 2 1 [(.fn (.func 130) [] [(false,[Q120]),(false,[(Q108 1)])])],Q189 3 a d e h,Q75 4 4 i j k],5⟩=
  (br (decide (b<m)) (((FV.L 4 c=true)/\(0<=b)/\(b<(length (FV.ses c):Int))/\(((rE A):List FV)=A))/\∃q:Tm,Q9 129 (Q173 (.agg [(.fn (.func 130) [] [(false,[Q120]),(false,[(Q108 1)])])]) (aE A)<|wrap .i64<|n+o) B (aT q) B/\(1<=1)/\zI 1 56/\Q152 129 2 r l [Q15 2 n,Q47 3 2 1,Q87 4 3,Q87 6 4,Q172 7 p,Q15 8 o,Q169 9 5 1,Q172 30 c,Q15 31 m,Q15 32<|wrap .i64<|b+1] [Q129 0 1 f,Q129 1 1 g,Q16 2 1 [(.fn (.func 130) [] [(false,[Q120]),(false,[(Q108 1)])])],Q189 3 a d e h,Q75 4 4 i j k,Q196 5 [(FT4 q)]] 6)<|br (a==6) ((FV.L 4 .N=true)/\C) C):=zh
theorem Zu (q:Int)(p:FV)(s:Int)(a:Nat)(d:FV)(n c g h b:Int)(e:LU)(f:Int)(j:RW)(k:Int)(l:LU)(m:Int)(o:RW)(r:TV)(i:LA):let A:=getD (FV.ses d) (toNat c) [];let B:=Q144 g (Q100 h);let C:=length o;let D:=0<=(0:Int)/\(0:Int)<(a:Int);let E:=getD o 0 [];let F:=FV.I (getD E 0 FV.N);let G:=getD (FV.ses p) 0 [];let H:=(toNat (a:Int))-1;let I:=((4:Nat)=4/\(0+a)<=C)/\RT (Q71 b e f<|take a<|drop 0 o) B r i;VQ pK 129 2 r i 1 ⟨[Q15 2 q,Q47 3 2 1,Q87 4 3,Q87 6 4,Q172 7 p,Q15 8 s,Q169 9 5 a,Q172 30 d,Q15 31 n,Q15 32 c],[Q129 0 1 g,Q129 1 1 h,Q16 2 1 [(.fn (.func 130) [] [(false,[Q120]),(false,[(Q108 1)])])],Q189 3 b e f j,Q75 4 4 k l m,Q196 5 o],6⟩=
  (br (decide (c<n)) (((FV.L 4 d=true)/\(0<=c)/\(c<(length (FV.ses d):Int))/\(((rE A):List FV)=A))/\∃t:Tm,Q9 129 (Q173 (.agg [(.fn (.func 130) [] [(false,[Q120]),(false,[(Q108 1)])])]) (aE A)<|wrap .i64<|q+s) B (aT t) B/\(1<=1)/\(a<=C/\zI (a+1) 56)/\Q152 129 2 r i [Q15 2 q,Q47 3 2 1,Q87 4 3,Q87 6 4,Q172 7 p,Q15 8 s,Q169 9 5<|a+1,Q172 30 d,Q15 31 n,Q15 32<|wrap .i64<|c+1] [Q129 0 1 g,Q129 1 1 h,Q16 2 1 [(.fn (.func 130) [] [(false,[Q120]),(false,[(Q108 1)])])],Q189 3 b e f j,Q75 4 4 k l m,Q196 5<|(take a o)++[(FT4 t)]] 6)<|br (b==6) (br (decide (((a:Int):Int)>(1:Int))) (D/\((0<C)/\(([(Q1 F)]:List FV)=(take 1<|drop 0 E))/\((1:Nat)=1))/\br (F==6) (((FV.L 4 p=true)/\(0<=(0:Int))/\((0:Int)<(length (FV.ses p):Int))/\(((rE G):List FV)=G))/\br ((FV.I<|getD G 0 FV.N) !=6) (D/\((0<C)/\(((rE E):List FV)=(take 4<|drop 0 E))/\((4:Nat)=4))/\((0<=(1:Int))/\((1:Int)<=(a:Int))/\((a:Int)<=(a:Int)))/\((4:Nat)=4/\(1+H)<=C)/\∃u:Tm,Q176 17 [(aE E),Q69<|take H<|drop 1 o] (aT u)/\RT (aT u) B r i) I) I) I) I):=zh
theorem v64 (d:Int)(e:LU)(f:Int)(g:RW)(r:TV)(a:LA):let A:=Q125 d e f g;VE lv5 64 0 r a A []=
  (∃b:Tm×List Tm,let B:=Q7 b.1.s;Q60 68 A [] (Q55 (cT b.1)<|Q180<|FTs b.2) []/\br ((b.1.k:Int)==(0:Int)) (∃h:Bool,Q91 89 [.c B] h/\Q33 [Q137 B,Q137<|Q6 (!h)] [] r a) (Q33 [Q137 B,Q137 Q44] [] r a)):=zh
theorem sw (a:Int)(b:LU)(c:Int)(d:RW)(k h i:Int)(e:LU)(f:Int)(g:RW)(r:TV)(j:LA):let A:=Q144 h (Q119 4 i e f g);let B:=(∃l:FV,∃m:Int,Q60 142 (Q125 a b c d) [] (Q188 (Q0 l) m) []/\(FV.L 4 l=true)/\Q152 129 2 r j [Q15 2 k,Q47 3 2 1,Q87 4 3,Q87 6 4,Q172 7 l,Q15 8 m,Q105 9,Q172 30 l,Q15 31 (length (FV.ses l):Int),Q15 32 0] [Q129 0 1 h,Q189 1 i e f g,Q16 2 1 [(.fn (.func 127) [] [(false,[Q120]),(false,[(Q107 1 4)])])],Q189 3 a b c d,Q75 4 4 0 [] 0] 5);VE pK 129 2 r j (Q173 (.agg [(.fn (.func 127) [] [(false,[Q120]),(false,[(Q107 1 4)])])]) (Q71 a b c d) k) A=
  (br (a !=5) (br (a !=6) (∃n:Tm,Q9 127 [Q71 a b c d,Q20 k,Q83 1,Q81 1 4] A (aT n) A/\RT (aT n) A r j) B) B):=zh
theorem Zs (q:Int)(t:FV)(s:Int)(c:FV)(p b i j:Int)(d:LU)(e:Int)(f:RW)(a:Int)(g:LU)(h:Int)(k:RW)(l:Int)(m:LU)(n:Int)(r:TV)(o:LA):let A:=Q107 1 4;let B:=getD (FV.ses c) (toNat b) [];let C:=Q144 i (Q119 4 j d e f);let D:=RT (Q170 a g h) C r o;VQ pK 129 2 r o 1 ⟨[Q15 2 q,Q47 3 2 1,Q87 4 3,Q87 6 4,Q172 7 t,Q15 8 s,Q105 9,Q172 30 c,Q15 31 p,Q15 32 b],[Q129 0 1 i,Q189 1 j d e f,Q16 2 1 [(.fn (.func 127) [] [(false,[Q120]),(false,[A])])],Q189 3 a g h k,Q75 4 4 l m n],5⟩=
  (br (decide (b<p)) (((FV.L 4 c=true)/\(0<=b)/\(b<(length (FV.ses c):Int))/\(((rE B):List FV)=B))/\∃u:Tm,Q9 129 (Q173 (.agg [(.fn (.func 127) [] [(false,[Q120]),(false,[A])])]) (aE B)<|wrap .i64<|q+s) C (aT u) C/\(1<=1)/\zI 1 56/\Q152 129 2 r o [Q15 2 q,Q47 3 2 1,Q87 4 3,Q87 6 4,Q172 7 t,Q15 8 s,Q169 9 5 1,Q172 30 c,Q15 31 p,Q15 32<|wrap .i64<|b+1] [Q129 0 1 i,Q189 1 j d e f,Q16 2 1 [(.fn (.func 127) [] [(false,[Q120]),(false,[A])])],Q189 3 a g h k,Q75 4 4 l m n,Q196 5 [(FT4 u)]] 6)<|br (a==6) ((FV.L 4 .N=true)/\D) D):=zh
theorem Zq (u:Int)(t:FV)(v:Int)(a:Nat)(d:FV)(q c j k:Int)(e:LU)(f:Int)(g:RW)(b:Int)(h:LU)(i:Int)(m:RW)(n:Int)(o:LU)(p:Int)(s:RW)(r:TV)(l:LA):let A:=Q107 1 4;let B:=getD (FV.ses d) (toNat c) [];let C:=Q144 j (Q119 4 k e f g);let D:=length s;let E:=0<=(0:Int)/\(0:Int)<(a:Int);let F:=getD s 0 [];let G:=FV.I (getD F 0 FV.N);let H:=getD (FV.ses t) 0 [];let I:=(toNat (a:Int))-1;let J:=((4:Nat)=4/\(0+a)<=D)/\RT (Q71 b h i<|take a<|drop 0 s) C r l;VQ pK 129 2 r l 1 ⟨[Q15 2 u,Q47 3 2 1,Q87 4 3,Q87 6 4,Q172 7 t,Q15 8 v,Q169 9 5 a,Q172 30 d,Q15 31 q,Q15 32 c],[Q129 0 1 j,Q189 1 k e f g,Q16 2 1 [(.fn (.func 127) [] [(false,[Q120]),(false,[A])])],Q189 3 b h i m,Q75 4 4 n o p,Q196 5 s],6⟩=
  (br (decide (c<q)) (((FV.L 4 d=true)/\(0<=c)/\(c<(length (FV.ses d):Int))/\(((rE B):List FV)=B))/\∃w:Tm,Q9 129 (Q173 (.agg [(.fn (.func 127) [] [(false,[Q120]),(false,[A])])]) (aE B)<|wrap .i64<|u+v) C (aT w) C/\(1<=1)/\(a<=D/\zI (a+1) 56)/\Q152 129 2 r l [Q15 2 u,Q47 3 2 1,Q87 4 3,Q87 6 4,Q172 7 t,Q15 8 v,Q169 9 5<|a+1,Q172 30 d,Q15 31 q,Q15 32<|wrap .i64<|c+1] [Q129 0 1 j,Q189 1 k e f g,Q16 2 1 [(.fn (.func 127) [] [(false,[Q120]),(false,[A])])],Q189 3 b h i m,Q75 4 4 n o p,Q196 5<|(take a s)++[(FT4 w)]] 6)<|br (b==6) (br (decide (((a:Int):Int)>(1:Int))) (E/\((0<D)/\(([(Q1 G)]:List FV)=(take 1<|drop 0 F))/\((1:Nat)=1))/\br (G==6) (((FV.L 4 t=true)/\(0<=(0:Int))/\((0:Int)<(length (FV.ses t):Int))/\(((rE H):List FV)=H))/\br ((FV.I<|getD H 0 FV.N) !=6) (E/\((0<D)/\(((rE F):List FV)=(take 4<|drop 0 F))/\((4:Nat)=4))/\((0<=(1:Int))/\((1:Int)<=(a:Int))/\((a:Int)<=(a:Int)))/\((4:Nat)=4/\(1+I)<=D)/\∃x:Tm,Q176 17 [(aE F),Q69<|take I<|drop 1 s] (aT x)/\RT (aT x) C r l) J) J) J) J):=zh
theorem v151 (e b:Int)(a:Nat)(c:RW)(r:TV)(d:LA):let A:=0+(toNat e);VE lv69 151 2 r d (Q94 (Q83 2) e) (Q184 2 b 1 8 0 a 8 c)=
  ((0<=e/\e<(a:Int))/\(A<(length c)/\(length<|getD c A [])=8)/\Q33 [] (Q111 2 b 2 8 0 a 8<|List.set c A<|u7 (getD c A []) 1 [(Q1 (a:Int))]) r d):=zh
theorem v152 (b:Int)(c:LU)(d:Int)(e:RW)(r:TV)(a:LA):let A:=Q125 b c d e;VE lv5 152 0 r a A []=
  (∃f:Bool,Q91 7 A f/\br (!f) (Q33 (Q187 Q140 1) [] r a) (∃g:List Cl×Int,let B:=Q188 (Q8 9<|CLs g.1) g.2;Q60 117 [Q71 b c d e,Q166 0 Q26 Q79] [] B []/\Q33 B [] r a)):=zh
theorem ic (s:RW)(r:TV)(a:LA):VE lv38 108 0 r a (Q146 (Q8 1 s)<|.fn (.func 119) [] []) []=
  ((FV.L 1 (Q3 1 s)=true)/\Q162 108 0 r a (Q42 0 1 s) 1 (.fn (.func 119) [] []) 7 (length s:Int) 8 0 [] 0):=zg
theorem ZA (c:RW)(d b:Int)(r:TV)(a:LA):let A:=getD c (toNat b) [];let B:=FV.I (getD A 0 FV.N);VQ lv38 108 0 r a 1 ⟨Q121 (Q42 0 1 c) 1 (.fn (.func 119) [] []) 7 d 8 b,[],0⟩=
  (br (decide (b<d)) (((FV.L 1 (Q3 1 c)=true)/\(0<=b)/\(b<(length c:Int))/\(([(Q1 B)]:List FV)=A))/\∃e:Bool,Q91 119 [Q20 B] e/\br e (Q192 b r a) (Q162 108 0 r a (Q42 0 1 c) 1 (.fn (.func 119) [] []) 7 d 8 (wrap .i64<|b+1) [] 0))<|Q192 (-1:Int) r a):=zh
theorem v121 (b:Int)(e:LU)(c:Int)(d:RW)(n:Int)(r:TV)(a:LA):let A:=(∃f:Bool,Q43 25 (Q122 d<|.fn (.func 145) [] [(false,[Q120])]) (Q101 n) f (Q101 n)/\Q50 (!f) r a);VE lv5 121 0 r a (Q94 (Q71 b e c d) n) []=
  (br (b==1) (Q57 r a)<|br (b==4) (br (decide (c>=n)) (Q57 r a) A) A):=zh
theorem v42_F120 (s:RW)(a:LU)(c d e f:Int)(b:RW)(r:TV)(g:LA):VE lv38 42 1 r g (Q122 s<|.fn (.func 120) [] [(false,[(Q107 0 6)])]) (Q112 6 a c d e f 8 b)=
  ((FV.L 4 (Q174 s)=true)/\Q162 42 1 r g (Q118 0 s) 1 (.fn (.func 120) [] [(false,[(Q107 0 6)])]) 7 (length s:Int) 8 0 [Q139 0 6 (Q7 a) c d (Q2 e) f<|Q8 8 b] 1):=zg
theorem YZ (i:RW)(j h:Int)(a:LU)(c d e f:Int)(b:RW)(r:TV)(g:LA):let A:=getD i (toNat h) [];let B:=Q112 6 a c d e f 8 b;VQ lv38 42 1 r g 1 ⟨Q121 (Q118 0 i) 1 (.fn (.func 120) [] [(false,[(Q107 0 6)])]) 7 j 8 h,[Q139 0 6 (Q7 a) c d (Q2 e) f<|Q8 8 b],1⟩=
  (br (decide (h<j)) (((FV.L 4 (Q174 i)=true)/\(0<=h)/\(h<(length i:Int))/\(((rE A):List FV)=A))/\∃k:Bool,Q193 120 (aE A) 6 B k B/\br k (Q54 h B r g) (Q162 42 1 r g (Q118 0 i) 1 (.fn (.func 120) [] [(false,[(Q107 0 6)])]) 7 j 8 (wrap .i64<|h+1) [Q139 0 6 (Q7 a) c d (Q2 e) f<|Q8 8 b] 1))<|Q54 (-1:Int) B r g):=zh
theorem v146 (k:Int)(r:TV)(a:LA):VE lv5 146 0 r a [Q20 k] []=
  (br (k==0) (Q50 true r a)<|Q50 (k==1) r a):=zg
theorem v147 (d:Int)(e:LU)(f:Int)(g:RW)(r:TV)(a:LA):let A:=Q125 d e f g;VE lv5 147 0 r a A []=
  (∃b:Tm×List Tm,Q60 68 A [] (Q55 (cT b.1)<|Q180<|FTs b.2) []/\br ((b.1.k:Int)==(0:Int)) (∃h:Bool,Q91 89 [.c<|Q7 b.1.s] h/\Q50 (!h) r a) (Q57 r a)):=zh
theorem v148 (c:Int)(d:LU)(e:Int)(f:RW)(r:TV)(b:LA):let A:=Q125 c d e f;let B:=Q57 r b;VE lv5 148 0 r b A []=
  (∃a:Tm×List Tm,let C:=FTs a.2;let D:=br ((a.1.k:Int)==(0:Int)) ((FV.L 4 (Q174 C)=true)/\Q50 (((length C:Int):Int)==(2:Int)) r b) B;Q60 68 A [] (Q55 (cT a.1)<|Q180 C) []/\br ((a.1.s:LU)==[105,115]) D (br ((a.1.s:LU)==[60]) D<|br ((a.1.s:LU)==[61,60]) D<|br ((a.1.s:LU)==[62]) D<|br ((a.1.s:LU)==[62,61]) D B)):=zh
theorem ng (s:RW)(a:LU)(d e f g:Int)(b:RW)(r:TV)(c:LA):let A:=Q146 (Q8 6 s) (.fn (.func 149) [] [(false,[(Q107 0 6)])]);let B:=Q112 6 a d e f g 8 b;VE lv5 150 1 r c A B=
  (∃h:Int,Q74 165 A B h B/\Q30 (decide (h>=0)) B r c):=zh
theorem v54 (n:Int)(r:TV)(a:LA):let A:=FV.L 4 .N=true;let B:=wrap .i64 (n-0);let C:=0<=(0:Int);let D:=(0:Int)<=(0:Int);VE lv5 54 0 r a (Q94 (.c Q26) n) []=
  (br (decide (n<0)) False<|A/\br (decide (B>0)) (A/\(C/\D/\((0:Int)<=((0:Nat):Int)))/\(0<B/\zI (toNat B) 56)/\A/\(C/\D/\((0:Int)<=(((toNat B):Nat):Int)))/\RT (.c<|Q4 0 4 0 0) (Q157 4 []) r a) (RT (.c Q26) [] r a)):=zh
def lv134:LV:=[(1,[3,13,14,15])]
theorem v134 (c:Int)(d:LU)(e:Int)(f:RW)(r:TV)(a:LA):let A:=Q125 c d e f;VE lv134 134 0 r a A []=
  (∃b:FV,∃g:Int,Q60 142 A [] (Q188 (Q0 b) g) []/\(FV.L 4 b=true)/\Q162 134 0 r a (Q15 3 1) 13 (Q0 b) 14 (length (FV.ses b):Int) 15 0 [] 0):=zh
theorem rQ (e:Int)(b:FV)(d a:Int)(r:TV)(c:LA):let A:=getD (FV.ses b) (toNat a) [];VQ lv134 134 0 r c 1 ⟨Q121 (Q15 3 e) 13 (Q0 b) 14 d 15 a,[],0⟩=
  (br (decide (a<d)) (((FV.L 4 b=true)/\(0<=a)/\(a<(length (FV.ses b):Int))/\(((rE A):List FV)=A))/\∃f:Int,Q74 134 [(aE A)] [] f []/\Q162 134 0 r c (Q15 3<|wrap .i64<|e+f) 13 (Q0 b) 14 d 15 (wrap .i64<|a+1) [] 0)<|Q192 e r c):=zh
def lv135:LV:=[(3,[1,5,21,22,23])]
theorem v135 (c:Int)(e:LU)(d:Int)(a:RW)(i:Int)(r:TV)(b:LA):let A:=FV.L 4 (Q174 a)=true;let B:=(length a:Int);let C:=A/\Q51 135 0 r b 3 (Q158 (Q15 1 i) (Q15 5 0) (Q118 21 a) 22 B 23 0) [] 0;VE lv135 135 0 r b (Q94 (Q71 c e d a) i) []=
  (br (c==3) (br (d==i) (Q192 1 r b) C)<|br (c==5) (A/\Q51 135 0 r b 3 (Q158 (Q15 1<|wrap .i64<|i+1) (Q15 5 0) (Q118 21 a) 22 B 23 0) [] 0) C):=zh
theorem ov (e f:Int)(b:RW)(d a:Int)(r:TV)(c:LA):let A:=getD b (toNat a) [];VQ lv135 135 0 r c 3 ⟨Q158 (Q15 1 e) (Q15 5 f) (Q118 21 b) 22 d 23 a,[],0⟩=
  (br (decide (a<d)) (((FV.L 4 (Q174 b)=true)/\(0<=a)/\(a<(length b:Int))/\(((rE A):List FV)=A))/\∃g:Int,Q74 135 (Q94 (aE A) e) [] g []/\Q51 135 0 r c 3 (Q158 (Q15 1 e) (Q15 5<|wrap .i64<|f+g) (Q118 21 b) 22 d 23<|wrap .i64<|a+1) [] 0)<|Q192 f r c):=zh
def lv153:LV:=[(1,[0,3,11,13,35,36,37])]
theorem v153 (x:Int)(l:RW)(c:Int)(a b:Nat)(g h:RW)(r:TV)(e:LA):let A:=Q70 1 a 2 b g 1 h;let B:=Q33 (Q153 Q140 0 1) A r e;VE lv153 153 3 r e [Q83 2,Q20 x,Q69 l,Q20 c] A=
  (∃d:Int×Bool×Tm×Bool,let C:=Q191 d.1 d.2.1 d.2.2.1.k d.2.2.1.s d.2.2.1.n (FTs d.2.2.1.l);Q60 100 (Q94 (Q83 2) x) A (Q55 C [Q6 d.2.2.2]) A/\br (!d.2.2.2) B (∃f:Bool,Q91 25 (Q122 l<|.fn (.func 166) [] []) f/\br f B ((FV.L 4 (Q174 l)=true)/\Q152 153 3 r e (Q145 (Q160 2) (Q15 3 c) (Q47 11 3 6) (Q105 13) (Q118 35 l) (Q15 36 (length l:Int)) 37 0) [Q116 0 2 1 6 0 a 2 1 0 b,Q27 1 6 g,Q194 2 h,Q16 3 6 C] 4))):=zh
theorem m7 (q:Int)(f:RW)(p c:Int)(a b:Nat)(s t:RW)(g:Int)(i:Bool)(j:Int)(l:LU)(m:Int)(o:RW)(r:TV)(d:LA):let A:=Q47 11 3 6;let B:=Q118 35 f;let C:=Q15 36 p;let D:=Q191 g i j l m o;let E:=getD f (toNat c) [];let F:=Q70 1 a 2 b s 1 t;let G:=Q146 Q26 (.fn (.func 169) [] [(false,[(Q107 0 4)])]);let H:=Q33 (Q153 Q140 0 171) F r d;let I:=wrap .i64 (c+1);VQ lv153 153 3 r d 1 ⟨Q145 (Q160 2) (Q15 3 q) A (Q105 13) B C 37 c,[Q116 0 2 1 6 0 a 2 1 0 b,Q27 1 6 s,Q194 2 t,Q16 3 6 D],4⟩=
  (br (decide (c<p)) (((FV.L 4 (Q174 f)=true)/\(0<=c)/\(c<(length f:Int))/\(((rE E):List FV)=E))/\∃h:Tm×Int×Int,let J:=Q145 (Q160 2) (Q15 3 h.2.1) A (Q169 13 4 1) B C 37 I;Q60 167 (Q95 2 (aE E)<|Q20 q) F (Q153 (Q39<|cT h.1) h.2.1 h.2.2) F/\br (h.2.2 !=0) (Q33 (Q153 Q140 0 h.2.2) F r d) (∃e:Tm×Bool,let K:=(1<=1)/\zI 1 56/\Q152 153 3 r d J [Q116 0 2 1 6 0 a 2 1 0 b,Q27 1 6 s,Q194 2 t,Q16 3 6 D,Q196 4 [(FT4 e.1)]] 5;Q60 168 [(aT h.1)] [] (Q55 (cT e.1) [Q6 e.2]) []/\br ((e.1.k:Int)==(1:Int)) (∃u:Bool,Q43 25 G [Q10 4<|cT e.1] u [Q10 4<|cT e.1]/\br (!e.2) H (br (decide ((e.1.n:Int)<=g)) H<|br u H K)) (∃v:Bool,Q43 25 G [Q10 4<|cT e.1] v [Q10 4<|cT e.1]/\br (!e.2) H (br v H K))))<|Q33 (Q153 Q140 q 0) F r d):=zh
theorem rt (t:Int)(a:Nat)(g:RW)(q d:Int)(b c:Nat)(u v:RW)(i:Int)(l:Bool)(m:Int)(o:LU)(p:Int)(s h:RW)(r:TV)(e:LA):let A:=Q47 11 3 6;let B:=Q118 35 g;let C:=Q15 36 q;let D:=Q191 i l m o p s;let E:=getD g (toNat d) [];let F:=Q70 1 b 2 c u 1 v;let G:=Q146 (Q4 0 4 0 a) (.fn (.func 169) [] [(false,[(Q107 1 4)])]);let H:=Q33 (Q153 Q140 0 171) F r e;let I:=a<=(length h)/\zI (a+1) 56;let J:=Q169 13 4 (a+1);let K:=wrap .i64 (d+1);VQ lv153 153 3 r e 1 ⟨Q145 (Q160 2) (Q15 3 t) A (Q169 13 4 a) B C 37 d,[Q116 0 2 1 6 0 b 2 1 0 c,Q27 1 6 u,Q194 2 v,Q16 3 6 D,Q196 4 h],5⟩=
  (br (decide (d<q)) (((FV.L 4 (Q174 g)=true)/\(0<=d)/\(d<(length g:Int))/\(((rE E):List FV)=E))/\∃j:Tm×Int×Int,let L:=Q145 (Q160 2) (Q15 3 j.2.1) A J B C 37 K;Q60 167 (Q95 2 (aE E)<|Q20 t) F (Q153 (Q39<|cT j.1) j.2.1 j.2.2) F/\br (j.2.2 !=0) (Q33 (Q153 Q140 0 j.2.2) F r e) (∃f:Tm×Bool,let M:=(1<=1)/\I/\Q152 153 3 r e L [Q116 0 2 1 6 0 b 2 1 0 c,Q27 1 6 u,Q194 2 v,Q16 3 6 D,Q196 4<|(take a h)++[(FT4 f.1)]] 5;Q60 168 [(aT j.1)] [] (Q55 (cT f.1) [Q6 f.2]) []/\br ((f.1.k:Int)==(1:Int)) (∃w:Bool,Q43 25 G [.arz 4 h,Q10 4<|cT f.1] w [.arz 4 h,Q10 4<|cT f.1]/\br (!f.2) H (br (decide ((f.1.n:Int)<=i)) H<|br w H M)) (∃x:Bool,Q43 25 G [.arz 4 h,Q10 4<|cT f.1] x [.arz 4 h,Q10 4<|cT f.1]/\br (!f.2) H (br x H M))))<|((4:Nat)=4/\(0+a)<=(length h))/\Q33 (Q153 (Q137<|Q53<|take a<|drop 0 h) t 0) F r e):=zh
theorem v154 (s:RW)(v:Bool)(r:TV)(a:LA):VE lv38 154 0 r a [.c<|Q8 1 s,Q25 v] []=
  ((FV.L 1 (Q3 1 s)=true)/\Q162 154 0 r a (Q42 0 1 s) 1 (Q6 v) 7 (length s:Int) 8 0 [] 0):=zg
theorem i7 (c:RW)(d:Bool)(e b:Int)(r:TV)(a:LA):let A:=getD c (toNat b) [];let B:=FV.asB (getD A 0 FV.N);VQ lv38 154 0 r a 1 ⟨Q121 (Q42 0 1 c) 1 (Q6 d) 7 e 8 b,[],0⟩=
  (br (decide (b<e)) (((FV.L 1 (Q3 1 c)=true)/\(0<=b)/\(b<(length c:Int))/\(([(.bool B)]:List FV)=A))/\br ((d:Bool)==B) (Q192 b r a) (Q162 154 0 r a (Q42 0 1 c) 1 (Q6 d) 7 e 8 (wrap .i64<|b+1) [] 0))<|Q192 (-1:Int) r a):=zh
theorem v155 (n:Int)(r:TV)(a:LA):VE lv5 155 0 r a [Q20 n] []=
  (RT (Q170 3 [] n) [] r a):=zg
theorem v156 (x a c:Int)(i:RW)(d e:Nat)(l m:RW)(r:TV)(f:LA):let A:=Q70 1 d 2 e l 1 m;VE lv11 156 3 r f [Q83 2,Q20 x,Q20 a,Q20 c,Q69 i] A=
  (∃b:Int×Sto,Q74 11 (Q94 (Q83 2) a) A b.1 (Q155 3 (length b.2.V) 4 (length b.2.T) (SR b.2.V)<|IR b.2.T)/\∃h:Tm,Q176 171 [Q20 b.1] (aT h)/\∃j:Tm,Q176 17 [(aT h),Q69 i] (aT j)/\∃k:Tm,Q176 172 [Q20 c,(aT j)] (aT k)/\∃g:Int×Sto,let B:=Q155 3 (length g.2.V) 4 (length g.2.T) (SR g.2.V) (IR g.2.T);Q74 158 (Q95 2 (Q20 x)<|aT k) (Q70 1 (length b.2.V) 2 (length b.2.T) (SR b.2.V) 1<|IR b.2.T) g.1 B/\RT (aT h) B r f):=zh
theorem v157 (x:Int)(l:RW)(g:Int)(h:LU)(i:Int)(j:RW)(f:Int)(b c:Nat)(m o:RW)(r:TV)(e:LA):let A:=Q70 1 b 2 c m 1 o;let B:=Q39 (Q190 0 [] 0);let C:=Q33 (Q153 B 0 1) (Q155 3 b 4 c m o) r e;VE lv11 157 3 r e [Q83 2,Q20 x,Q69 l,Q71 g h i j,Q20 f] A=
  (∃d:Int×Bool×Tm×Bool,Q60 100 (Q94 (Q83 2) x) A (Q55 (Q191 d.1 d.2.1 d.2.2.1.k d.2.2.1.s d.2.2.1.n<|FTs d.2.2.1.l) [Q6 d.2.2.2]) A/\br (!d.2.2.2) C (br d.2.1 C (∃p:Bool,Q91 166 (Q125 g h i j) p/\br p C (∃q:Bool,Q91 25 (Q122 l<|.fn (.func 173) [] []) q/\br q C (∃a:Tm×Sto×Int×Int×List Tm×Int×Int,let D:=length a.2.1.V;let E:=length a.2.1.T;let F:=Q155 3 D 4 E (SR a.2.1.V) (IR a.2.1.T);Q9 175 (Q95 6 (Q71 g h i j)<|Q20 0) (Q142 6 1 2 0 0 x d.1 l f 0 2 b 3 c m o) (aT a.1) (Q147 (Q110 6 1 2 0 0 a.2.2.1 a.2.2.2.1 (FTs a.2.2.2.2.1) a.2.2.2.2.2.1 a.2.2.2.2.2.2) (Q65 4 D 5 E) .gone (Q40<|SR a.2.1.V)<|Q52<|IR a.2.1.T)/\br (a.2.2.2.2.2.2 !=0) (Q33 (Q153 B 0 a.2.2.2.2.2.2) F r e) ((FV.L 4 (Q174 l)=true)/\∃t:Tm,Q176 172 [Q20 (length l:Int),(aT a.1)] (aT t)/\Q33 (Q153 (Q39<|cT t) a.2.2.2.2.2.1 0) F r e)))))):=zh
theorem v158 (x h:Int)(d:LU)(e:Int)(f:RW)(b a:Nat)(i j:RW)(r:TV)(g:LA):let A:=Q70 1 b 2 a i 1 j;let B:=Q54 1 (Q155 3 b 4 a i j) r g;let C:=Q125 h d e f;let D:=0+(toNat x);VE lv11 158 3 r g (Q95 2 (Q20 x)<|Q71 h d e f) A=
  (∃c:Int×Bool×Tm×Bool,Q60 100 (Q94 (Q83 2) x) A (Q55 (Q191 c.1 c.2.1 c.2.2.1.k c.2.2.1.s c.2.2.1.n<|FTs c.2.2.1.l) [Q6 c.2.2.2]) A/\br (!c.2.2.2) B (br c.2.1 B (∃m:Bool,Q91 7 C m/\br (!m) B (∃o:Int,Q74 84 C [] o []/\br (decide (o>0)) B ((0<=x/\x<(b:Int))/\(D<(length i)/\(length<|getD i D [])=6)/\(1<=1)/\(a<=(length j)/\zI (a+1) 8)/\Q54 0 (Q155 3 b 4 (a+1) (List.set i D [(Q1 c.1),(.bool true),(Q1 h),(.str d),(Q1 e),(Q174 f)])<|(take a j)++[[(Q1 x)]]) r g))))):=zh
theorem v113 (c:Int)(d:LU)(e:Int)(f:RW)(a:Int)(r:TV)(b:LA):let A:=Q71 c d e f;VE lv5 113 1 r b (Q143 A 1) (Q101 a)=
  (∃g:Bool,Q91 83 (Q94 A a) g/\Q30 (!g) (Q101 a) r b):=zh
theorem v25_F159 (s:RW)(r:TV)(a:LA):let A:=Q122 s (.fn (.func 159) [] []);VE lv5 25 0 r a A []=
  (∃b:Int,Q74 42 A [] b []/\Q50 (decide (b>=0)) r a):=zh
def lv161:LV:=[(1,[2,3,17,18,19])]
theorem v161 (c:Int)(a:RW)(d:Bool)(r:TV)(b:LA):let A:=FV.L 4 (Q174 a)=true;let B:=(length a:Int);let C:=getD a 0 [];let D:=drop 1 (take (toNat B) a);VE lv161 161 0 r b [Q179 c a<|Q6 d] []=
  (A/\br ((B:Int)==(0:Int)) (RT (Q170 0 [116,114,117,101] 0) [] r b) ((A/\(0<=(0:Int))/\((0:Int)<B)/\(((rE C):List FV)=C))/\A/\((0<=(1:Int))/\((1:Int)<=B)/\(B<=B))/\(FV.L 4 (Q174 D)=true)/\Q152 161 0 r b (Q158 (Q87 2 0) (Q87 3 1) (Q118 17 D) 18 (((length D):Nat):Int) 19 0) [Q75 0 4 0 [] 0,Q16 1 4<|cE C] 2)):=zh
theorem sX (b:RW)(k a h:Int)(g:LU)(i f:Int)(c:LU)(d:Int)(e:RW)(r:TV)(j:LA):let A:=getD b (toNat a) [];VQ lv161 161 0 r j 1 ⟨Q158 (Q87 2 0) (Q87 3 1) (Q118 17 b) 18 k 19 a,[Q75 0 4 h g i,Q189 1 f c d e],2⟩=
  (br (decide (a<k)) (((FV.L 4 (Q174 b)=true)/\(0<=a)/\(a<(length b:Int))/\(((rE A):List FV)=A))/\((4:Nat)=4/\2<=2)/\∃l:Tm,Q176 17 [Q170 0 [44] 0,Q69 [[(Q1 f),(.str c),(Q1 d),(Q174 e)],(rE A)]] (aT l)/\Q152 161 0 r j (Q158 (Q87 2 0) (Q87 3 1) (Q118 17 b) 18 k 19<|wrap .i64<|a+1) [Q75 0 4 h g i,Q16 1 4<|cT l] 2)<|RT (Q71 f c d e) [] r j):=zh
theorem v144 (j k:Int)(b:LU)(c:Int)(d:RW)(e:Int)(f:LU)(g:Int)(h:RW)(a:Nat)(l:RW)(r:TV)(i:LA):VE lv69 144 2 r i (Q143 (Q130 j (Q2 k) (Q7 b) (Q2 c) (Q53 d) (Q2 e) (Q7 f) (Q2 g) h) 1) (Q88 (Q127 1 1 9 0 a) 9 l)=
  ((1<=1)/\(a<=(length l)/\zI (a+1) 120)/\Q33 [] (Q151 1 2 9 0 (a+1) 9<|(take a l)++[[(Q1 j),(Q1 k),(.str b),(Q1 c),(Q174 d),(Q1 e),(.str f),(Q1 g),(Q174 h)]]) r i):=zg
def lv162:LV:=[(1,[2,3,13,14,15])]
theorem v162 (b:Int)(a:RW)(c:Bool)(r:TV)(d:LA):VE lv162 162 0 r d [Q179 b a<|Q6 c] []=
  ((FV.L 4 (Q174 a)=true)/\Q152 162 0 r d (Q158 (Q156 2 3) (Q47 3 1 3) (Q118 13 a) 14 (length a:Int) 15 0) [Q16 0 3<|Q165 0 Q26 Q44,Q16 1 3<|Q165 (wrap .i64<|b+1) Q26<|Q6 c] 2):=zg
theorem v162_1a (b:RW)(f a h:Int)(g:Bool)(c:Int)(d:Bool)(r:TV)(e:LA):let A:=Q165 h Q26 (Q6 g);let B:=getD b (toNat a) [];VQ lv162 162 0 r e 1 ⟨Q158 (Q156 2 3) (Q47 3 1 3) (Q118 13 b) 14 f 15 a,[Q16 0 3 A,Q16 1 3<|Q165 c Q26<|Q6 d],2⟩=
  (br (decide (a<f)) (((FV.L 4 (Q174 b)=true)/\(0<=a)/\(a<(length b:Int))/\(((rE B):List FV)=B))/\∃i:Tm,Q176 97 (Q173 (aE B) (Q20 0) 1) (aT i)/\(1<=1)/\zI 1 56/\Q152 162 0 r e (Q158 (Q156 2 3) (Q47 3 1 3) (Q118 13 b) 14 f 15<|wrap .i64<|a+1) [Q16 0 3 A,Q16 1 3<|Q165 c (Q4 2 4 0 1)<|Q6 d,Q196 2 [(FT4 i)]] 3)<|RT (Q166 c Q26<|Q6 d) [] r e):=zh
theorem iL (c:RW)(g b j:Int)(h:Bool)(d:Int)(a:Nat)(e:Bool)(i:RW)(r:TV)(f:LA):let A:=Q165 j Q26 (Q6 h);let B:=getD c (toNat b) [];VQ lv162 162 0 r f 1 ⟨Q158 (Q156 2 3) (Q47 3 1 3) (Q118 13 c) 14 g 15 b,[Q16 0 3 A,Q16 1 3<|Q165 d (Q4 2 4 0 a)<|Q6 e,Q196 2 i],3⟩=
  (br (decide (b<g)) (((FV.L 4 (Q174 c)=true)/\(0<=b)/\(b<(length c:Int))/\(((rE B):List FV)=B))/\∃k:Tm,Q176 97 (Q173 (aE B) (Q20 0) 1) (aT k)/\(1<=1)/\(a<=(length i)/\zI (a+1) 56)/\Q152 162 0 r f (Q158 (Q156 2 3) (Q47 3 1 3) (Q118 13 c) 14 g 15<|wrap .i64<|b+1) [Q16 0 3 A,Q16 1 3<|Q165 d (Q4 2 4 0<|a+1)<|Q6 e,Q196 2<|(take a i)++[(FT4 k)]] 3)<|(((4:Nat)=4/\(0+a)<=(length i))/\True)/\RT (Q179 d (take a<|drop 0 i)<|Q6 e) [] r f):=zh
def lv163:LV:=[(1,[0,2,3])]
theorem dh (c:Nat)(d:RW)(r:TV)(a:LA):let A:=Q146 (Q4 0 4 0 c) (.fn (.func 159) [] []);let B:=Q157 4 d;VE lv5 25 1 r a A B=
  (∃b:Int,Q74 42 A B b B/\Q30 (decide (b>=0)) B r a):=zh
theorem v163_i1 (b:Nat)(d:RW)(r:TV)(a:LA):VE lv163 163 1 r a [.c<|Q4 0 4 0 b] (Q157 4 d)=
  (Q152 163 1 r a [Q169 0 0 b,Q15 2 0,Q15 3<|wrap .i64<|(b:Int)-(1:Int)] [Q196 0 d] 1):=zg
theorem Wt (a:Nat)(d e:Int)(b:RW)(r:TV)(c:LA):let A:=0<=e/\e<(a:Int);let B:=0+(toNat e);let C:=length b;let D:=rE (getD b B []);let E:=0<=d/\d<(a:Int);let F:=0+(toNat d);let G:=getD b F [];let H:=List.set b F D;VQ lv163 163 1 r c 1 ⟨[Q169 0 0 a,Q15 2 d,Q15 3 e],[Q196 0 b],1⟩=
  (br (decide (d<e)) (A/\((B<C)/\((D:List FV)=(take 4<|drop 0<|getD b B []))/\((4:Nat)=4))/\E/\((F<C)/\(((rE G):List FV)=(take 4<|drop 0 G))/\((4:Nat)=4))/\E/\(F<C/\(length G)=4)/\A/\(B<(length H)/\(length<|getD H B [])=4)/\Q152 163 1 r c [Q169 0 0 a,Q15 2<|wrap .i64<|d+1,Q15 3<|wrap .i64<|e-1] [Q196 0<|List.set H B<|rE G] 1)<|Q33 [] (Q157 4 b) r c):=zh
theorem v130 (d:Int)(f:LU)(e:Int)(g:RW)(k b c:Int)(r:TV)(a:LA):let A:=Q144 b (Q100 c);let B:=Q71 d f e g;VE lv5 130 2 r a [Q71 d f e g,Q20 k,Q83 1,Q81 1 1] A=
  (br (d==3) (br (decide ((e:Int)>=(wrap .i64<|k+b))) (∃h:Tm,Q176 128 (Q94 B c) (aT h)/\RT (aT h) A r a)<|RT B A r a)<|RT B A r a):=zh
theorem v127 (h:Int)(i:LU)(b:Int)(j:RW)(k f g:Int)(c:LU)(d:Int)(e:RW)(r:TV)(a:LA):let A:=Q144 f (Q119 4 g c d e);let B:=Q71 h i b j;let C:=wrap .i64 (k+f);VE lv5 127 2 r a [Q71 h i b j,Q20 k,Q83 1,Q81 1 4] A=
  (br (h !=3) (RT B A r a)<|br (decide ((b:Int)<C)) (RT B A r a)<|br ((b:Int)==C) (∃l:Tm,Q176 97 (Q173 (Q71 g c d e) (Q20 0) k) (aT l)/\RT (aT l) A r a) (∃m:Tm,Q176 128 (Q94 B (-1:Int)) (aT m)/\RT (aT m) A r a)):=zh
theorem v119 (n:Int)(r:TV)(a:LA):VE lv5 119 0 r a [Q20 n] []=
  (br (decide (n<0)) (Q50 true r a)<|Q50 (decide (n>4096)) r a):=zg
theorem v25_F145 (s:RW)(a:Int)(r:TV)(b:LA):let A:=Q122 s (.fn (.func 145) [] [(false,[Q120])]);let B:=Q101 a;VE lv5 25 1 r b A B=
  (∃c:Int,Q74 42 A B c B/\Q30 (decide (c>=0)) B r b):=zh
theorem rG (s:RW)(a:LU)(c d e f:Int)(b:RW)(r:TV)(g:LA):VE lv38 165 1 r g (Q146 (Q8 6 s)<|.fn (.func 149) [] [(false,[(Q107 0 6)])]) (Q112 6 a c d e f 8 b)=
  ((FV.L 6 (Q3 6 s)=true)/\Q162 165 1 r g (Q42 0 6 s) 1 (.fn (.func 149) [] [(false,[(Q107 0 6)])]) 7 (length s:Int) 8 0 [Q139 0 6 (Q7 a) c d (Q2 e) f<|Q8 8 b] 1):=zg
theorem Zl (i:RW)(j h:Int)(a:LU)(c d e f:Int)(b:RW)(r:TV)(g:LA):let A:=getD i (toNat h) [];let B:=FV.S (getD A 0 FV.N);let C:=FV.I (getD A 1 FV.N);let D:=FV.I (getD A 2 FV.N);let E:=FV.I (getD A 3 FV.N);let F:=FV.I (getD A 4 FV.N);let G:=getD A 5 FV.N;let H:=Q112 6 a c d e f 8 b;VQ lv38 165 1 r g 1 ⟨Q121 (Q42 0 6 i) 1 (.fn (.func 149) [] [(false,[(Q107 0 6)])]) 7 j 8 h,[Q139 0 6 (Q7 a) c d (Q2 e) f<|Q8 8 b],1⟩=
  (br (decide (h<j)) (((FV.L 6 (Q3 6 i)=true)/\(0<=h)/\(h<(length i:Int))/\(([(.str B),(Q1 C),(Q1 D),(Q1 E),(Q1 F),G]:List FV)=A))/\∃k:Bool,Q193 149 (.agg<|Q37 (Q7 B) C D (Q2 E) F<|Q0 G) 6 H k H/\br k (Q54 h H r g) (Q162 165 1 r g (Q42 0 6 i) 1 (.fn (.func 149) [] [(false,[(Q107 0 6)])]) 7 j 8 (wrap .i64<|h+1) [Q139 0 6 (Q7 a) c d (Q2 e) f<|Q8 8 b] 1))<|Q54 (-1:Int) H r g):=zh
theorem v25_F166 (s:RW)(r:TV)(a:LA):let A:=Q122 s (.fn (.func 166) [] []);VE lv5 25 0 r a A []=
  (∃b:Int,Q74 42 A [] b []/\Q50 (decide (b>=0)) r a):=zh
theorem v167 (g:Int)(h:LU)(i:Int)(j:RW)(a:Int)(e f:Nat)(l m:RW)(r:TV)(b:LA):let A:=Q70 1 e 2 f l 1 m;VE lv5 167 3 r b (Q95 2 (Q71 g h i j)<|Q20 a) A=
  (∃d:Tm×Int×Int,Q60 28 [Q71 g h i j,Q20 a,.c<|.fn (.func 179) [(false,[(Q107 0 2)])] []] A (Q153 (Q39<|cT d.1) d.2.1 d.2.2) A/\br (d.2.2 !=0) (Q33 (Q153 (Q39<|Q190 0 [] 0) 0 d.2.2) A r b) (∃k:Tm,Q176 180 [(aT d.1)] (aT k)/\Q33 (Q153 (Q39<|cT k) d.2.1 0) A r b)):=zh
theorem v168 (c:Int)(d:LU)(e:Int)(f:RW)(r:TV)(a:LA):let A:=Q125 c d e f;let B:=Q84 (Q190 0 [] 0) [Q44] [] r a;VE lv5 168 0 r a A []=
  (∃g:Bool,Q91 7 A g/\br (!g) B (∃b:Tm,let C:=Q84 (cT b) [Q79] [] r a;Q176 181 A (aT b)/\br ((b.k:Int)==(3:Int)) C (br ((b.k:Int)==(1:Int)) C B))):=zh
theorem v25_F169 (s:RW)(a:Int)(b:LU)(c:Int)(d:RW)(r:TV)(e:LA):let A:=Q122 s (.fn (.func 169) [] [(false,[(Q107 0 4)])]);VE lv5 25 1 r e A [Q119 4 a b c d]=
  (∃f:Int,Q74 42 A [Q119 4 a b c d] f [Q119 4 a b c d]/\Q30 (decide (f>=0)) [Q119 4 a b c d] r e):=zh
theorem dP (h:Nat)(f:RW)(a:Int)(b:LU)(c:Int)(d:RW)(r:TV)(e:LA):let A:=Q146 (Q4 0 4 0 h) (.fn (.func 169) [] [(false,[(Q107 1 4)])]);VE lv5 25 2 r e A [.arz 4 f,Q119 4 a b c d]=
  (∃g:Int,Q74 42 A [.arz 4 f,Q119 4 a b c d] g [.arz 4 f,Q119 4 a b c d]/\Q30 (decide (g>=0)) [.arz 4 f,Q119 4 a b c d] r e):=zh
theorem v171 (x:Int)(r:TV)(a:LA):VE lv5 171 0 r a [Q20 x] []=
  (RT (Q170 4 [] x) [] r a):=zg
def lv172:LV:=[(1,[3,4,6,7])]
theorem v172 (n e:Int)(a:LU)(b:Int)(c:RW)(r:TV)(d:LA):VE lv172 172 0 r d [Q20 n,Q71 e a b c] []=
  (Q152 172 0 r d (Q85 (Q87 3 0) (Q87 4 1) 6 (xH [n,(0:Int)]) 7 0) [Q189 0 e a b c,Q75 1 4 0 [] 0] 2):=zg
theorem fD (i j d:Int)(a:LU)(b:Int)(c:RW)(e:Int)(f:LU)(g:Int)(r:TV)(h:LA):VQ lv172 172 0 r h 1 ⟨Q85 (Q87 3 0) (Q87 4 1) 6 i 7 j,[Q189 0 d a b c,Q75 1 4 e f g],2⟩=
  (br (decide (j<i)) (((4:Nat)=4/\1<=1)/\Q152 172 0 r h (Q85 (Q87 3 0) (Q87 4 1) 6 i 7<|wrap .i64<|j+1) [Q189 0 5 [] 0 [[(Q1 d),(.str a),(Q1 b),(Q174 c)]],Q75 1 4 e f g] 2)<|RT (Q71 d a b c) [] r h):=zg
theorem v166 (b:Int)(c:LU)(d:Int)(e:RW)(r:TV)(a:LA):let A:=Q125 b c d e;VE lv5 166 0 r a A []=
  (∃f:Bool,Q91 7 A f/\Q50 (!f) r a):=zh
theorem v25_F173 (s:RW)(r:TV)(a:LA):let A:=Q122 s (.fn (.func 173) [] []);VE lv5 25 0 r a A []=
  (∃b:Int,Q74 42 A [] b []/\Q50 (decide (b>=0)) r a):=zh
def XP:LV:=[(3,[0,2,6,9,10,102,103,104]),(1000001,[2,3])]
theorem v175 (a2:Int)(a3:LU)(a4:Int)(a5:RW)(k e j:Int)(m:RW)(o f:Int)(a b:Nat)(p q:RW)(r:TV)(d:LA):let A:=Q71 a2 a3 a4 a5;let B:=Q142 6 1 2 0 0 e j m o f 2 a 3 b p q;let C:=Q65 4 a 5 b;let D:=Q71 0 [] 0 [];let E:=Q70 1 a 2 b p 1 q;let F:=0<=(0:Int);let G:=Q20 (wrap .i64<|k+1);let H:=Q94 (Q83 6) 170;let I:=FV.L 4 .N=true;let J:=Q11 1 2 0 0;let K:=Q53 m;vcE tB shO XP 175 (Q95 6 A<|Q20 k) B (λr0 Hs0=>TV.Le r0 r/\Hs0=d) (RPt tB 175 4 r d)=
  (br (f !=0) (RT (Q170 0 [] 0) (Q147 (Q110 6 1 2 0 0 e j m o f) C .gone (Q40 p)<|Q52 q) r d)<|br (decide (o<=0)) (∃v:Int×Int×List Tm×Int×Int,Q9 182 (Q94 (Q83 6) 80) B D (Q142 6 1 2 0 0 v.1 v.2.1 (FTs v.2.2.1) v.2.2.2.1 v.2.2.2.2 2 a 3 b p q)/\RT D (Q147 (Q110 6 1 2 0 0 v.1 v.2.1 (FTs v.2.2.1) v.2.2.2.1 v.2.2.2.2) C .gone (Q40 p)<|Q52 q) r d) (∃s:Tm×Int×Int,let L:=Q142 6 1 2 0 0 e j m s.2.1 f 2 a 3 b p q;let M:=(∃w:Int×Int×List Tm×Int×Int,Q9 182 H L D (Q142 6 1 2 0 0 w.1 w.2.1 (FTs w.2.2.1) w.2.2.2.1 w.2.2.2.2 2 a 3 b p q)/\RT D (Q147 (Q110 6 1 2 0 0 w.1 w.2.1 (FTs w.2.2.1) w.2.2.2.1 w.2.2.2.2) C .gone (Q40 p)<|Q52 q) r d);Q60 12 (Q95 2 A<|Q20<|wrap .i64<|o-1) E (Q153 (Q39<|cT s.1) s.2.1 s.2.2) E/\br (s.2.2 !=0) (∃x:Int×Int×List Tm×Int×Int,Q9 182 (Q94 (Q83 6) s.2.2) B D (Q142 6 1 2 0 0 x.1 x.2.1 (FTs x.2.2.1) x.2.2.2.1 x.2.2.2.2 2 a 3 b p q)/\RT D (Q147 (Q110 6 1 2 0 0 x.1 x.2.1 (FTs x.2.2.1) x.2.2.2.1 x.2.2.2.2) C .gone (Q40 p)<|Q52 q) r d) ((∃y:Tm,let N:=FTs y.l;let O:=getD N 0 [];let P:=(∃z9:Tm×Bool,Q60 184 (Q95 6 (aT y)<|Q20 k) L (Q55 (cT z9.1) [Q6 z9.2]) L/\br (!z9.2) M (I/\Q51 175 4 r d 3 [Q160 6,Q15 2 k,Q87 6 6,Q87 9 7,Q105 10,Q105 102,Q15 103 0,Q15 104 0] [Q139 0 6 J e j K s.2.1<|Q2 f,Q116 1 2 4 6 0 a 5 1 0 b,Q49 2,Q49 3,Q27 4 6 p,Q194 5 q,Q75 6 4 0 [] 0,Q16 7 4<|cT z9.1] 8));Q60 68 [(aT s.1)] [] (Q55 (cT y) [Q26]) []/\br ((y.k:Int)==(5:Int)) (((FV.L 4 (Q174 N)=true)/\F/\((0:Int)<(length N:Int))/\(((rE O):List FV)=O))/\∃t:Tm×Sto×Int×Int×List Tm×Int×Int,let Q:=Q147 (Q110 6 1 2 0 0 t.2.2.1 t.2.2.2.1 (FTs t.2.2.2.2.1) t.2.2.2.2.2.1 t.2.2.2.2.2.2) (Q65 4 (length t.2.1.V) 5<|length t.2.1.T) .gone (Q40<|SR t.2.1.V) (Q52<|IR t.2.1.T);Q9 175 (Q95 6 (aE O) G) L (aT t.1) Q/\∃z6:Tm,Q176 172 [Q20 1,(aT t.1)] (aT z6)/\RT (aT z6) Q r d) (br ((y.k:Int)==(4:Int)) (br ((y.n:Int)==e) M (∃u:Tm×Sto×Int×Int×List Tm×Int×Int,let S:=Q147 (Q110 6 1 2 0 0 u.2.2.1 u.2.2.2.1 (FTs u.2.2.2.2.1) u.2.2.2.2.2.1 u.2.2.2.2.2.2) (Q65 4 (length u.2.1.V) 5<|length u.2.1.T) .gone (Q40<|SR u.2.1.V) (Q52<|IR u.2.1.T);Q9 183 [Q83 6,Q20 y.n,.c Q26,Q20 k] L (aT u.1) S/\RT (aT u.1) S r d))<|br ((y.k:Int)==(3:Int)) P<|br ((y.k:Int)==(1:Int)) P<|I/\Q51 175 4 r d 3 [Q160 6,Q15 2 k,Q87 6 6,Q87 9 7,Q105 10,Q105 102,Q15 103 0,Q15 104 0] [Q139 0 6 J e j K s.2.1<|Q2 f,Q116 1 2 4 6 0 a 5 1 0 b,Q49 2,Q49 3,Q27 4 6 p,Q194 5 q,Q75 6 4 0 [] 0,Q16 7 4<|cT y] 8))\/(∃g:Tm×List Tm,let U:=length g.2;let W:=FTs g.2;let X:=FTs g.1.l;let Y:=getD X 0 [];let Z:=((U:Nat):Int);let Aa:=(∃z:Tm×Bool,Q60 184 (Q95 6 (aT g.1)<|Q20 k) L (Q55 (cT z.1) [Q6 z.2]) L/\br (!z.2) M (Q51 175 4 r d 3 [Q160 6,Q15 2 k,Q87 6 6,Q87 9 7,Q169 10 8 U,Q169 102 8 U,Q15 103 Z,Q15 104 0] [Q139 0 6 J e j K s.2.1<|Q2 f,Q116 1 2 4 6 0 a 5 1 0 b,Q49 2,Q49 3,Q27 4 6 p,Q194 5 q,Q75 6 4 0 [] 0,Q16 7 4<|cT z.1,Q196 8 W] 9));Q60 68 [(aT s.1)] [] (Q55 (cT g.1)<|Q126 0 4 0 U) (Q157 4 W)/\br ((g.1.k:Int)==(5:Int)) (((FV.L 4 (Q174 X)=true)/\F/\((0:Int)<(length X:Int))/\(((rE Y):List FV)=Y))/\∃h:Tm×Sto×Int×Int×List Tm×Int×Int,let Ab:=Q147 (Q110 6 1 2 0 0 h.2.2.1 h.2.2.2.1 (FTs h.2.2.2.2.1) h.2.2.2.2.2.1 h.2.2.2.2.2.2) (Q65 4 (length h.2.1.V) 5<|length h.2.1.T) .gone (Q40<|SR h.2.1.V) (Q52<|IR h.2.1.T);Q9 175 (Q95 6 (aE Y) G) L (aT h.1) Ab/\∃a0:Tm,Q176 172 [Q20 1,(aT h.1)] (aT a0)/\RT (aT a0) Ab r d) (br ((g.1.k:Int)==(4:Int)) (br ((g.1.n:Int)==e) M (((4:Nat)=4/\(0+U)<=(length W))/\∃i:Tm×Sto×Int×Int×List Tm×Int×Int,let Ac:=Q147 (Q110 6 1 2 0 0 i.2.2.1 i.2.2.2.1 (FTs i.2.2.2.2.1) i.2.2.2.2.2.1 i.2.2.2.2.2.2) (Q65 4 (length i.2.1.V) 5<|length i.2.1.T) .gone (Q40<|SR i.2.1.V) (Q52<|IR i.2.1.T);Q9 183 [Q83 6,Q20 g.1.n,Q69<|take U<|drop 0 W,Q20 k] L (aT i.1) Ac/\RT (aT i.1) Ac r d))<|br ((g.1.k:Int)==(3:Int)) Aa<|br ((g.1.k:Int)==(1:Int)) Aa<|Q51 175 4 r d 3 [Q160 6,Q15 2 k,Q87 6 6,Q87 9 7,Q169 10 8 U,Q169 102 8 U,Q15 103 Z,Q15 104 0] [Q139 0 6 J e j K s.2.1<|Q2 f,Q116 1 2 4 6 0 a 5 1 0 b,Q49 2,Q49 3,Q27 4 6 p,Q194 5 q,Q75 6 4 0 [] 0,Q16 7 4<|cT g.1,Q196 8 W] 9))))):=zh
theorem v175_3a (w m a e f:Int)(d:RW)(g h:Int)(b c:Nat)(t u:RW)(p:Int)(q:LU)(s n:Int)(j:LU)(k:Int)(l:RW)(r:TV)(o:LA):let A:=getD [] (toNat a) [];let B:=(FV.L 4 .N=true)/\(0<=a)/\(a<((0:Nat):Int))/\(((rE A):List FV)=A);vcP tB shO XP 175 4 (λr0 Hs0=>TV.Le r0 r/\Hs0=o) (RPt tB 175 4 r o) 3 ⟨[Q160 6,Q15 2 w,Q87 6 6,Q87 9 7,Q105 10,Q105 102,Q15 103 m,Q15 104 a],[Q139 0 6 (Q11 1 2 0 0) e f (Q53 d) g<|Q2 h,Q116 1 2 4 6 0 b 5 1 0 c,Q49 2,Q49 3,Q27 4 6 t,Q194 5 u,Q75 6 4 p q s,Q189 7 n j k l],8⟩=
  (br (decide (a<m)) (B/\∃i:Tm×Sto×Int×Int×List Tm×Int×Int,Q9 175 (Q95 6 (aE A)<|Q20 w) (Q142 6 1 2 0 0 e f d g h 2 b 3 c t u) (aT i.1) (Q147 (Q110 6 1 2 0 0 i.2.2.1 i.2.2.2.1 (FTs i.2.2.2.2.1) i.2.2.2.2.2.1 i.2.2.2.2.2.2) (Q65 4 (length i.2.1.V) 5<|length i.2.1.T) .gone (Q40<|SR i.2.1.V)<|Q52<|IR i.2.1.T)/\B/\False) (∃v:Tm,Q176 17 (Q89 (Q71 n j k l) Q26) (aT v)/\RT (aT v) (Q147 (Q110 6 1 2 0 0 e f d g h) (Q65 4 b 5 c) .gone (Q40 t)<|Q52 u) r o)):=zh
theorem mQ (w:Int)(b d:Nat)(j a k l:Int)(g:RW)(m n:Int)(e f:Nat)(x y:RW)(s:Int)(t:LU)(u o:Int)(h:LU)(i:Int)(p v:RW)(r:TV)(q:LA):let A:=0+(toNat a);let B:=length v;let C:=getD v A [];vcP tB shO XP 175 4 (λr0 Hs0=>TV.Le r0 r/\Hs0=q) (RPt tB 175 4 r q) 3 ⟨[Q160 6,Q15 2 w,Q87 6 6,Q87 9 7,Q169 10 8 b,Q169 102 8 d,Q15 103 j,Q15 104 a],[Q139 0 6 (Q11 1 2 0 0) k l (Q53 g) m<|Q2 n,Q116 1 2 4 6 0 e 5 1 0 f,Q49 2,Q49 3,Q27 4 6 x,Q194 5 y,Q75 6 4 s t u,Q189 7 o h i p,Q196 8 v],9⟩=
  (br (decide (a<j)) ((0<=a/\a<(d:Int))/\((A<B)/\(((rE C):List FV)=(take 4<|drop 0 C))/\((4:Nat)=4))/\∃c:Tm×Sto×Int×Int×List Tm×Int×Int,let D:=FTs c.2.2.2.2.1;let E:=length c.2.1.V;let F:=length c.2.1.T;Q9 175 (Q95 6 (aE C)<|Q20 w) (Q142 6 1 2 0 0 k l g m n 2 e 3 f x y) (aT c.1) (Q147 (Q110 6 1 2 0 0 c.2.2.1 c.2.2.2.1 D c.2.2.2.2.2.1 c.2.2.2.2.2.2) (Q65 4 E 5 F) .gone (Q40<|SR c.2.1.V)<|Q52<|IR c.2.1.T)/\(0<=a/\a<(b:Int))/\(A<B/\(length C)=4)/\Q51 175 4 r q 3 [Q160 6,Q15 2 w,Q87 6 6,Q87 9 7,Q169 10 8 b,Q169 102 8 d,Q15 103 j,Q15 104<|wrap .i64<|a+1] [Q139 0 6 (Q11 1 2 0 0) c.2.2.1 c.2.2.2.1 (Q53 D) c.2.2.2.2.2.1<|Q2 c.2.2.2.2.2.2,Q116 1 2 4 6 0 E 5 1 0 F,Q49 2,Q49 3,Q27 4 6<|SR c.2.1.V,Q194 5<|IR c.2.1.T,Q75 6 4 s t u,Q189 7 o h i p,Q196 8<|List.set v A<|FT4 c.1] 9) (((4:Nat)=4/\(0+b)<=B)/\∃z:Tm,Q176 17 [Q71 o h i p,Q69<|take b<|drop 0 v] (aT z)/\RT (aT z) (Q147 (Q110 6 1 2 0 0 k l g m n) (Q65 4 e 5 f) .gone (Q40 x)<|Q52 y) r q)):=zh
theorem v42_F159 (s:RW)(r:TV)(a:LA):VE lv38 42 0 r a (Q122 s<|.fn (.func 159) [] []) []=
  ((FV.L 4 (Q174 s)=true)/\Q162 42 0 r a (Q118 0 s) 1 (.fn (.func 159) [] []) 7 (length s:Int) 8 0 [] 0):=zg
theorem fq (c:RW)(d b:Int)(r:TV)(a:LA):let A:=getD c (toNat b) [];VQ lv38 42 0 r a 1 ⟨Q121 (Q118 0 c) 1 (.fn (.func 159) [] []) 7 d 8 b,[],0⟩=
  (br (decide (b<d)) (((FV.L 4 (Q174 c)=true)/\(0<=b)/\(b<(length c:Int))/\(((rE A):List FV)=A))/\∃e:Bool,Q91 159 [(aE A)] e/\br e (Q192 b r a) (Q162 42 0 r a (Q118 0 c) 1 (.fn (.func 159) [] []) 7 d 8 (wrap .i64<|b+1) [] 0))<|Q192 (-1:Int) r a):=zh
theorem fS (b:Nat)(c:RW)(r:TV)(a:LA):VE lv38 42 1 r a (Q146 (Q4 0 4 0 b)<|.fn (.func 159) [] []) (Q157 4 c)=
  (Q162 42 1 r a (Q169 0 0 b) 1 (.fn (.func 159) [] []) 7 (b:Int) 8 0 [Q196 0 c] 1):=zg
theorem jf (b:Nat)(e c:Int)(d:RW)(r:TV)(a:LA):let A:=0+(toNat c);let B:=getD d A [];VQ lv38 42 1 r a 1 ⟨Q121 (Q169 0 0 b) 1 (.fn (.func 159) [] []) 7 e 8 c,[Q196 0 d],1⟩=
  (br (decide (c<e)) ((0<=c/\c<(b:Int))/\((A<(length d))/\(((rE B):List FV)=(take 4<|drop 0 B))/\((4:Nat)=4))/\∃f:Bool,Q91 159 [(aE B)] f/\br f (Q54 c (Q157 4 d) r a) (Q162 42 1 r a (Q169 0 0 b) 1 (.fn (.func 159) [] []) 7 e 8 (wrap .i64<|c+1) [Q196 0 d] 1))<|Q54 (-1:Int) (Q157 4 d) r a):=zh
theorem v128 (a:Int)(b:LU)(c:Int)(d:RW)(f:Int)(r:TV)(e:LA):VE lv5 128 0 r e (Q94 (Q71 a b c d) f) []=
  (RT (Q71 a b (wrap .i64<|c+f) d) [] r e):=zg
theorem v42_F145 (s:RW)(a:Int)(r:TV)(b:LA):VE lv38 42 1 r b (Q122 s<|.fn (.func 145) [] [(false,[Q120])]) (Q101 a)=
  ((FV.L 4 (Q174 s)=true)/\Q162 42 1 r b (Q118 0 s) 1 (.fn (.func 145) [] [(false,[Q120])]) 7 (length s:Int) 8 0 [Q129 0 1 a] 1):=zg
theorem Ye (d:RW)(e c a:Int)(r:TV)(b:LA):let A:=getD d (toNat c) [];let B:=Q101 a;VQ lv38 42 1 r b 1 ⟨Q121 (Q118 0 d) 1 (.fn (.func 145) [] [(false,[Q120])]) 7 e 8 c,[Q129 0 1 a],1⟩=
  (br (decide (c<e)) (((FV.L 4 (Q174 d)=true)/\(0<=c)/\(c<(length d:Int))/\(((rE A):List FV)=A))/\∃f:Bool,Q193 145 (aE A) 1 B f B/\br f (Q54 c B r b) (Q162 42 1 r b (Q118 0 d) 1 (.fn (.func 145) [] [(false,[Q120])]) 7 e 8 (wrap .i64<|c+1) [Q129 0 1 a] 1))<|Q54 (-1:Int) B r b):=zh
theorem v149 (i:LU)(k e l m:Int)(j:RW)(c:LU)(f g h a:Int)(d:RW)(r:TV)(b:LA):let A:=Q37 (Q7 i) k e (Q2 l) m (Q8 8 j);let B:=Q112 6 c f g h a 8 d;VE lv5 149 1 r b (Q143 (.agg A) 6) B=
  (br (decide (e>a)) (Q30 true B r b) (∃n:Bool,Q91 65 [.agg A] n/\Q30 (!n) B r b)):=zh
theorem v42_F166 (s:RW)(r:TV)(a:LA):VE lv38 42 0 r a (Q122 s<|.fn (.func 166) [] []) []=
  ((FV.L 4 (Q174 s)=true)/\Q162 42 0 r a (Q118 0 s) 1 (.fn (.func 166) [] []) 7 (length s:Int) 8 0 [] 0):=zg
theorem YP (c:RW)(d b:Int)(r:TV)(a:LA):let A:=getD c (toNat b) [];VQ lv38 42 0 r a 1 ⟨Q121 (Q118 0 c) 1 (.fn (.func 166) [] []) 7 d 8 b,[],0⟩=
  (br (decide (b<d)) (((FV.L 4 (Q174 c)=true)/\(0<=b)/\(b<(length c:Int))/\(((rE A):List FV)=A))/\∃e:Bool,Q91 166 [(aE A)] e/\br e (Q192 b r a) (Q162 42 0 r a (Q118 0 c) 1 (.fn (.func 166) [] []) 7 d 8 (wrap .i64<|b+1) [] 0))<|Q192 (-1:Int) r a):=zh
theorem v28_F179 (f:Int)(g:LU)(h:Int)(i:RW)(e:Int)(a b:Nat)(k l:RW)(r:TV)(d:LA):let A:=Q70 1 a 2 b k 1 l;let B:=Q39 (Q190 0 [] 0);VE lv5 28 3 r d [Q71 f g h i,Q20 e,.c<|.fn (.func 179) [(false,[(Q107 0 2)])] []] A=
  (∃m:Bool,Q91 7 (Q125 f g h i) m/\br (!m) (Q33 (Q153 B 0 1) A r d) (∃j:Tm×Int×Int,Q60 179 (Q95 2 (Q71 f g h i)<|Q81 3 1) [Q65 1 a 2 b,Q40 k,Q52 l,Q100 e] (Q161 (cT j.1) j.2.1) [Q65 1 a 2 b,Q40 k,Q52 l,Q100 j.2.2]/\br (j.2.1 !=0) (Q33 (Q153 B 0 j.2.1) A r d) (Q33 (Q153 (Q39<|cT j.1) j.2.2 0) A r d))):=zh
theorem v180 (b:Int)(c:LU)(d:Int)(e:RW)(r:TV)(a:LA):let A:=Q125 b c d e;VE lv5 180 0 r a A []=
  (∃f:Bool,Q91 7 A f/\br (!f) (RT (Q71 b c d e) [] r a) (∃g:Tm,Q176 181 A (aT g)/\RT (aT g) [] r a)):=zh
def lv181:LV:=[(3,[2,6,30,31,32])]
theorem v181 (c:Int)(d:LU)(e:Int)(a:RW)(r:TV)(b:LA):let A:=FV.L 4 (Q174 a)=true;let B:=(length a:Int);let C:=getD a 0 [];VE lv181 181 0 r b (Q125 c d e a) []=
  (br (c==5) ((A/\(0<=(0:Int))/\((0:Int)<B)/\(((rE C):List FV)=C))/\∃g:Tm,Q176 181 [(aE C)] (aT g)/\∃f:Tm×Bool,Q60 185 [(aT g)] [] (Q55 (cT f.1) [Q6 f.2]) []/\br f.2 (RT (aT f.1) [] r b) (∃h:Tm,Q176 172 [Q20 1,(aT g)] (aT h)/\RT (aT h) [] r b))<|br (c==6) (A/\Q51 181 0 r b 3 (Q158 (Q87 2 0) (Q105 6) (Q118 30 a) 31 B 32 0) [Q75 0 4 0 [] 0] 1)<|RT (Q71 c d e a) [] r b):=zh
theorem v181_3a (b:RW)(g a e:Int)(c:LU)(d:Int)(r:TV)(f:LA):let A:=getD b (toNat a) [];let B:=FV.L 4 .N=true;let C:=((0:Nat):Int);VQ lv181 181 0 r f 3 ⟨Q158 (Q87 2 0) (Q105 6) (Q118 30 b) 31 g 32 a,[Q75 0 4 e c d],1⟩=
  (br (decide (a<g)) (((FV.L 4 (Q174 b)=true)/\(0<=a)/\(a<(length b:Int))/\(((rE A):List FV)=A))/\∃h:Tm,Q176 181 [(aE A)] (aT h)/\(1<=1)/\zI 1 56/\Q51 181 0 r f 3 (Q158 (Q87 2 0) (Q169 6 1 1) (Q118 30 b) 31 g 32<|wrap .i64<|a+1) [Q75 0 4 e c d,Q196 1 [(FT4 h)]] 2) ((B/\(0<=(0:Int))/\((0:Int)<C)/\(([(Q1 0),(.str []),(Q1 0),.N]:List FV)=[]))/\B/\((0<=(1:Int))/\((1:Int)<=(0:Int))/\((0:Int)<=C))/\∃i:Tm,Q176 17 (Q89 (Q170 0 [] 0) Q26) (aT i)/\RT (aT i) [] r f)):=zh
theorem nE (a:Nat)(c:RW)(h b f:Int)(d:LU)(e:Int)(i:RW)(r:TV)(g:LA):let A:=getD c (toNat b) [];let B:=length i;let C:=getD i 0 [];let D:=(toNat (a:Int))-1;VQ lv181 181 0 r g 3 ⟨Q158 (Q87 2 0) (Q169 6 1 a) (Q118 30 c) 31 h 32 b,[Q75 0 4 f d e,Q196 1 i],2⟩=
  (br (decide (b<h)) (((FV.L 4 (Q174 c)=true)/\(0<=b)/\(b<(length c:Int))/\(((rE A):List FV)=A))/\∃j:Tm,Q176 181 [(aE A)] (aT j)/\(1<=1)/\(a<=B/\zI (a+1) 56)/\Q51 181 0 r g 3 (Q158 (Q87 2 0) (Q169 6 1<|a+1) (Q118 30 c) 31 h 32<|wrap .i64<|b+1) [Q75 0 4 f d e,Q196 1<|(take a i)++[(FT4 j)]] 2) ((0<=(0:Int)/\(0:Int)<(a:Int))/\((0<B)/\(((rE C):List FV)=(take 4<|drop 0 C))/\((4:Nat)=4))/\((0<=(1:Int))/\((1:Int)<=(a:Int))/\((a:Int)<=(a:Int)))/\((4:Nat)=4/\(1+D)<=B)/\∃k:Tm,Q176 17 [(aE C),Q69<|take D<|drop 1 i] (aT k)/\RT (aT k) [] r g)):=zh
theorem v42_F169 (s:RW)(a:Int)(b:LU)(c:Int)(d:RW)(r:TV)(e:LA):VE lv38 42 1 r e (Q122 s<|.fn (.func 169) [] [(false,[(Q107 0 4)])]) [Q119 4 a b c d]=
  ((FV.L 4 (Q174 s)=true)/\Q162 42 1 r e (Q118 0 s) 1 (.fn (.func 169) [] [(false,[(Q107 0 4)])]) 7 (length s:Int) 8 0 [Q189 0 a b c d] 1):=zg
theorem Xk (g:RW)(h f d:Int)(a:LU)(b:Int)(c:RW)(r:TV)(e:LA):let A:=getD g (toNat f) [];VQ lv38 42 1 r e 1 ⟨Q121 (Q118 0 g) 1 (.fn (.func 169) [] [(false,[(Q107 0 4)])]) 7 h 8 f,[Q189 0 d a b c],1⟩=
  (br (decide (f<h)) (((FV.L 4 (Q174 g)=true)/\(0<=f)/\(f<(length g:Int))/\(((rE A):List FV)=A))/\∃i:Bool,Q193 169 (aE A) 4 [Q119 4 d a b c] i [Q119 4 d a b c]/\br i (Q54 f [Q119 4 d a b c] r e) (Q162 42 1 r e (Q118 0 g) 1 (.fn (.func 169) [] [(false,[(Q107 0 4)])]) 7 h 8 (wrap .i64<|f+1) [Q189 0 d a b c] 1))<|Q54 (-1:Int) [Q119 4 d a b c] r e):=zh
theorem fG (f:Nat)(g:RW)(a:Int)(b:LU)(c:Int)(d:RW)(r:TV)(e:LA):VE lv38 42 2 r e (Q146 (Q4 0 4 0 f)<|.fn (.func 169) [] [(false,[(Q107 1 4)])]) [.arz 4 g,Q119 4 a b c d]=
  (Q162 42 2 r e (Q169 0 0 f) 1 (.fn (.func 169) [] [(false,[(Q107 1 4)])]) 7 (f:Int) 8 0 [Q196 0 g,Q189 1 a b c d] 2):=zg
theorem je (f:Nat)(i g:Int)(h:RW)(a:Int)(b:LU)(c:Int)(d:RW)(r:TV)(e:LA):let A:=0+(toNat g);let B:=getD h A [];VQ lv38 42 2 r e 1 ⟨Q121 (Q169 0 0 f) 1 (.fn (.func 169) [] [(false,[(Q107 1 4)])]) 7 i 8 g,[Q196 0 h,Q189 1 a b c d],2⟩=
  (br (decide (g<i)) ((0<=g/\g<(f:Int))/\((A<(length h))/\(((rE B):List FV)=(take 4<|drop 0 B))/\((4:Nat)=4))/\∃j:Bool,Q193 169 (aE B) 4 [Q119 4 a b c d] j [Q119 4 a b c d]/\br j (Q54 g [.arz 4 h,Q119 4 a b c d] r e) (Q162 42 2 r e (Q169 0 0 f) 1 (.fn (.func 169) [] [(false,[(Q107 1 4)])]) 7 i 8 (wrap .i64<|g+1) [Q196 0 h,Q189 1 a b c d] 2))<|Q54 (-1:Int) [.arz 4 h,Q119 4 a b c d] r e):=zh
theorem v42_F173 (s:RW)(r:TV)(a:LA):VE lv38 42 0 r a (Q122 s<|.fn (.func 173) [] []) []=
  ((FV.L 4 (Q174 s)=true)/\Q162 42 0 r a (Q118 0 s) 1 (.fn (.func 173) [] []) 7 (length s:Int) 8 0 [] 0):=zg
theorem YK (c:RW)(d b:Int)(r:TV)(a:LA):let A:=getD c (toNat b) [];VQ lv38 42 0 r a 1 ⟨Q121 (Q118 0 c) 1 (.fn (.func 173) [] []) 7 d 8 b,[],0⟩=
  (br (decide (b<d)) (((FV.L 4 (Q174 c)=true)/\(0<=b)/\(b<(length c:Int))/\(((rE A):List FV)=A))/\∃e:Bool,Q91 173 [(aE A)] e/\br e (Q192 b r a) (Q162 42 0 r a (Q118 0 c) 1 (.fn (.func 173) [] []) 7 d 8 (wrap .i64<|b+1) [] 0))<|Q192 (-1:Int) r a):=zh
theorem v182 (e d f:Int)(c:RW)(g h:Int)(a b:Nat)(j k:RW)(r:TV)(i:LA):let A:=Q142 6 1 2 0 0 d f c g h 2 a 3 b j k;VE lv5 182 4 r i (Q94 (Q83 6) e) A=
  (br (h==0) (RT (Q170 0 [] 0) (Q142 6 1 2 0 0 d f c g e 2 a 3 b j k) r i)<|RT (Q170 0 [] 0) A r i):=zh
def mX:LV:=[(1,[0,1,3,8,9,12,14,15,55,56,57]),(5,[0,1,3,8,9,12,14,15,105,106,107]),(1000001,[2,3])]
theorem v183 (y:Int)(l:RW)(k e f:Int)(d:RW)(g h:Int)(a b:Nat)(o p:RW)(r:TV)(i:LA):let A:=Q142 6 1 2 0 0 e f d g h 2 a 3 b o p;let B:=Q70 1 a 2 b o 1 p;VE mX 183 4 r i [Q83 6,Q20 y,Q69 l,Q20 k] A=
  (∃m:List Tm×Int×Int,let C:=FTs m.1;Q60 153 [Q83 2,Q20 y,Q69 l,Q20 g] B (Q153 (Q137<|Q53 C) m.2.1 m.2.2) B/\br (m.2.2 !=0) (∃c:Int×Int×List Tm×Int×Int,Q9 182 (Q94 (Q83 6) m.2.2) A (Q71 0 [] 0 []) (Q142 6 1 2 0 0 c.1 c.2.1 (FTs c.2.2.1) c.2.2.2.1 c.2.2.2.2 2 a 3 b o p)/\RT (Q71 0 [] 0 []) (Q147 (Q110 6 1 2 0 0 c.1 c.2.1 (FTs c.2.2.1) c.2.2.2.1 c.2.2.2.2) (Q65 4 a 5 b) .gone (Q40 o)<|Q52 p) r i) (∃j:Int×Bool×Tm×Bool,let D:=Q191 j.1 j.2.1 j.2.2.1.k j.2.2.1.s j.2.2.1.n (FTs j.2.2.1.l);Q60 100 (Q94 (Q83 2) y) B (Q55 D [Q6 j.2.2.2]) B/\(FV.L 4 (Q174 C)=true)/\Q152 183 4 r i (Q181 (Q160 6) 1 y (Q15 3 k) (Q87 8 6) (Q118 9 C) (Q47 12 7 6) (Q105 14) (Q105 15) (Q118 55 C) (Q15 56 (length C:Int))<|Q15 57 0) [Q139 0 6 (Q11 1 2 0 0) e f (Q53 d) m.2.1<|Q2 h,Q116 1 2 4 6 0 a 5 1 0 b,Q49 2,Q49 3,Q27 4 6 o,Q194 5 p,Q75 6 4 0 [] 0,Q16 7 6 D] 8)):=zh
theorem iY (w T:Int)(z m:RW)(x h e c:Int)(d:RW)(f g:Int)(a b:Nat)(o p:RW)(i:Int)(j:LU)(k n:Int)(q:Bool)(s:Int)(t:LU)(u:Int)(v:RW)(r:TV)(l:LA):let A:=Q15 3 T;let B:=Q118 9 z;let C:=Q47 12 7 6;let D:=Q118 55 m;let E:=Q15 56 x;let F:=Q11 1 2 0 0;let G:=Q53 d;let H:=Q191 n q s t u v;let I:=getD m (toNat h) [];let J:=Q142 6 1 2 0 0 e c d f g 2 a 3 b o p;let K:=FV.L 4 (Q174 z)=true;let L:=(length z:Int);let M:=Q15 57 (wrap .i64<|h+1);let N:=(FV.L 4 (Q174 d)=true)/\Q51 183 4 r l 5 (Q181 (Q160 6) 1 w A (Q87 8 6) B C (Q105 14) (Q105 15) (Q118 105 d) (Q15 106 (length d:Int))<|Q15 107 0) [Q139 0 6 F e c G f<|Q2 g,Q116 1 2 4 6 0 a 5 1 0 b,Q49 2,Q49 3,Q27 4 6 o,Q194 5 p,Q75 6 4 i j k,Q16 7 6 H] 8;VQ mX 183 4 r l 1 ⟨Q181 (Q160 6) 1 w A (Q87 8 6) B C (Q105 14) (Q105 15) D E<|Q15 57 h,[Q139 0 6 F e c G f<|Q2 g,Q116 1 2 4 6 0 a 5 1 0 b,Q49 2,Q49 3,Q27 4 6 o,Q194 5 p,Q75 6 4 i j k,Q16 7 6 H],8⟩=
  (br (decide (h<x)) (((FV.L 4 (Q174 m)=true)/\(0<=h)/\(h<(length m:Int))/\(((rE I):List FV)=I))/\∃y:Tm×Bool,Q60 184 (Q95 6 (aE I)<|Q20 T) J (Q55 (cT y.1) [Q6 y.2]) J/\br y.2 (K/\∃O:Tm,Q176 155 [Q20<|wrap .i64<|(wrap .i64<|L-(1:Int))-h] (aT O)/\(1<=1)/\zI 1 56/\(1<=1)/\zI 1 56/\Q152 183 4 r l (Q181 (Q160 6) 1 w A (Q87 8 6) B C (Q169 14 8 1) (Q169 15 9 1) D E M) [Q139 0 6 F e c G f<|Q2 g,Q116 1 2 4 6 0 a 5 1 0 b,Q49 2,Q49 3,Q27 4 6 o,Q194 5 p,Q75 6 4 i j k,Q16 7 6 H,Q196 8 [(FT4 O)],Q196 9 [(FT4 y.1)]] 10) (Q152 183 4 r l (Q181 (Q160 6) 1 w A (Q87 8 6) B C (Q105 14) (Q105 15) D E M) [Q139 0 6 F e c G f<|Q2 g,Q116 1 2 4 6 0 a 5 1 0 b,Q49 2,Q49 3,Q27 4 6 o,Q194 5 p,Q75 6 4 i j k,Q16 7 6 H] 8))<|(FV.L 4 .N=true)/\K/\br (((0:Int):Int)==L) (br (decide (n<=c)) (∃P:Tm,Q176 171 [Q20 w] (aT P)/\∃S:Tm,Q176 17 (Q89 (aT P) Q26) (aT S)/\RT (aT S) (Q147 (Q110 6 1 2 0 0 e c d f g) (Q65 4 a 5 b) .gone (Q40 o)<|Q52 p) r l) N) N):=zh
theorem ia (y Z:Int)(V:RW)(f c:Nat)(o:RW)(z j g d:Int)(e:RW)(h i:Int)(a b:Nat)(s t:RW)(k:Int)(l:LU)(m p:Int)(u:Bool)(v:Int)(w:LU)(x:Int)(S T q:RW)(r:TV)(n:LA):let A:=Q15 3 Z;let B:=Q118 9 V;let C:=Q47 12 7 6;let D:=Q169 14 8 f;let E:=Q169 15 9 c;let F:=Q118 55 o;let G:=Q15 56 z;let H:=Q11 1 2 0 0;let I:=Q53 e;let J:=Q191 p u v w x S;let K:=getD o (toNat j) [];let L:=Q142 6 1 2 0 0 g d e h i 2 a 3 b s t;let M:=FV.L 4 (Q174 V)=true;let N:=(length V:Int);let O:=Q15 57 (wrap .i64<|j+1);let P:=(FV.L 4 (Q174 e)=true)/\Q51 183 4 r n 5 (Q181 (Q160 6) 1 y A (Q87 8 6) B C D E (Q118 105 e) (Q15 106 (length e:Int))<|Q15 107 0) [Q139 0 6 H g d I h<|Q2 i,Q116 1 2 4 6 0 a 5 1 0 b,Q49 2,Q49 3,Q27 4 6 s,Q194 5 t,Q75 6 4 k l m,Q16 7 6 J,Q196 8 T,Q196 9 q] 10;VQ mX 183 4 r n 1 ⟨Q181 (Q160 6) 1 y A (Q87 8 6) B C D E F G<|Q15 57 j,[Q139 0 6 H g d I h<|Q2 i,Q116 1 2 4 6 0 a 5 1 0 b,Q49 2,Q49 3,Q27 4 6 s,Q194 5 t,Q75 6 4 k l m,Q16 7 6 J,Q196 8 T,Q196 9 q],10⟩=
  (br (decide (j<z)) (((FV.L 4 (Q174 o)=true)/\(0<=j)/\(j<(length o:Int))/\(((rE K):List FV)=K))/\∃U:Tm×Bool,Q60 184 (Q95 6 (aE K)<|Q20 Z) L (Q55 (cT U.1) [Q6 U.2]) L/\br U.2 (M/\∃W:Tm,Q176 155 [Q20<|wrap .i64<|(wrap .i64<|N-(1:Int))-j] (aT W)/\(1<=1)/\(f<=(length T)/\zI (f+1) 56)/\(1<=1)/\(c<=(length q)/\zI (c+1) 56)/\Q152 183 4 r n (Q181 (Q160 6) 1 y A (Q87 8 6) B C (Q169 14 8<|f+1) (Q169 15 9<|c+1) F G O) [Q139 0 6 H g d I h<|Q2 i,Q116 1 2 4 6 0 a 5 1 0 b,Q49 2,Q49 3,Q27 4 6 s,Q194 5 t,Q75 6 4 k l m,Q16 7 6 J,Q196 8<|(take f T)++[(FT4 W)],Q196 9<|(take c q)++[(FT4 U.1)]] 10) (Q152 183 4 r n (Q181 (Q160 6) 1 y A (Q87 8 6) B C D E F G O) [Q139 0 6 H g d I h<|Q2 i,Q116 1 2 4 6 0 a 5 1 0 b,Q49 2,Q49 3,Q27 4 6 s,Q194 5 t,Q75 6 4 k l m,Q16 7 6 J,Q196 8 T,Q196 9 q] 10))<|M/\br (((f:Int):Int)==N) (br (decide (p<=d)) (∃X:Tm,Q176 171 [Q20 y] (aT X)/\((4:Nat)=4/\(0+c)<=(length q))/\∃Y:Tm,Q176 17 [(aT X),Q69<|take c<|drop 0 q] (aT Y)/\RT (aT Y) (Q147 (Q110 6 1 2 0 0 g d e h i) (Q65 4 a 5 b) .gone (Q40 s)<|Q52 t) r n) P) P):=zh
theorem rm (x O:Int)(L g:RW)(q a h b:Int)(f:RW)(i j:Int)(d e:Nat)(y z:RW)(l:Int)(m:LU)(n k:Int)(s:Bool)(t:Int)(u:LU)(v:Int)(w:RW)(r:TV)(p:LA):let A:=Q15 3 O;let B:=Q118 9 L;let C:=Q47 12 7 6;let D:=Q118 105 g;let E:=Q15 106 q;let F:=Q11 1 2 0 0;let G:=Q53 f;let H:=Q191 k s t u v w;let I:=getD g (toNat a) [];let J:=Q15 107 (wrap .i64<|a+1);let K:=Q51 183 4 r p 5 (Q181 (Q160 6) 1 x A (Q87 8 6) B C (Q105 14) (Q105 15) D E J) [Q139 0 6 F h b G i<|Q2 j,Q116 1 2 4 6 0 d 5 1 0 e,Q49 2,Q49 3,Q27 4 6 y,Q194 5 z,Q75 6 4 l m n,Q16 7 6 H] 8;VQ mX 183 4 r p 5 ⟨Q181 (Q160 6) 1 x A (Q87 8 6) B C (Q105 14) (Q105 15) D E<|Q15 107 a,[Q139 0 6 F h b G i<|Q2 j,Q116 1 2 4 6 0 d 5 1 0 e,Q49 2,Q49 3,Q27 4 6 y,Q194 5 z,Q75 6 4 l m n,Q16 7 6 H],8⟩=
  (br (decide (a<q)) (((FV.L 4 (Q174 g)=true)/\(0<=a)/\(a<(length g:Int))/\(((rE I):List FV)=I))/\br (decide (k>b)) (br ((FV.I<|getD I 0 FV.N)==1) (br (decide (((FV.I<|getD I 2 FV.N):Int)<=k)) ((1<=1)/\zI 1 56/\(FV.L 4 (Q174 f)=true)/\∃M:Tm,Q176 155 [Q20<|wrap .i64<|(wrap .i64<|(wrap .i64<|O+(length f:Int))-(1:Int))-a] (aT M)/\(1<=1)/\zI 1 56/\Q51 183 4 r p 5 (Q181 (Q160 6) 1 x A (Q87 8 6) B C (Q169 14 8 1) (Q169 15 9 1) D E J) [Q139 0 6 F h b G i<|Q2 j,Q116 1 2 4 6 0 d 5 1 0 e,Q49 2,Q49 3,Q27 4 6 y,Q194 5 z,Q75 6 4 l m n,Q16 7 6 H,Q196 8 [(rE I)],Q196 9 [(FT4 M)]] 10) K) K) K) ((FV.L 4 (Q174 L)=true)/\∃o:Tm×Sto,Q9 156 [Q83 2,Q20 x,Q20<|xI [b,k],Q20 (length L:Int),.c Q26] (Q70 1 d 2 e y 1 z) (aT o.1) (Q155 3 (length o.2.V) 4 (length o.2.T) (SR o.2.V)<|IR o.2.T)/\∃N:Tm,Q176 17 (Q89 (aT o.1) Q26) (aT N)/\RT (aT N) (Q147 (Q110 6 1 2 0 0 h b f i j) (Q65 4 (length o.2.V) 5<|length o.2.T) .gone (Q40<|SR o.2.V)<|Q52<|IR o.2.T) r p)):=zh
theorem mr (N X:Int)(S:RW)(a b:Nat)(g:RW)(s c i d:Int)(h:RW)(j k:Int)(e f:Nat)(O P:RW)(m:Int)(n:LU)(o l:Int)(v:Bool)(w:Int)(x:LU)(y:Int)(z t u:RW)(r:TV)(q:LA):let A:=Q15 3 X;let B:=Q118 9 S;let C:=Q47 12 7 6;let D:=Q169 14 8 a;let E:=Q169 15 9 b;let F:=Q118 105 g;let G:=Q15 106 s;let H:=Q11 1 2 0 0;let I:=Q53 h;let J:=Q191 l v w x y z;let K:=getD g (toNat c) [];let L:=Q15 107 (wrap .i64<|c+1);let M:=Q51 183 4 r q 5 (Q181 (Q160 6) 1 N A (Q87 8 6) B C D E F G L) [Q139 0 6 H i d I j<|Q2 k,Q116 1 2 4 6 0 e 5 1 0 f,Q49 2,Q49 3,Q27 4 6 O,Q194 5 P,Q75 6 4 m n o,Q16 7 6 J,Q196 8 t,Q196 9 u] 10;VQ mX 183 4 r q 5 ⟨Q181 (Q160 6) 1 N A (Q87 8 6) B C D E F G<|Q15 107 c,[Q139 0 6 H i d I j<|Q2 k,Q116 1 2 4 6 0 e 5 1 0 f,Q49 2,Q49 3,Q27 4 6 O,Q194 5 P,Q75 6 4 m n o,Q16 7 6 J,Q196 8 t,Q196 9 u],10⟩=
  (br (decide (c<s)) (((FV.L 4 (Q174 g)=true)/\(0<=c)/\(c<(length g:Int))/\(((rE K):List FV)=K))/\br (decide (l>d)) (br ((FV.I<|getD K 0 FV.N)==1) (br (decide (((FV.I<|getD K 2 FV.N):Int)<=l)) ((1<=1)/\(a<=(length t)/\zI (a+1) 56)/\(FV.L 4 (Q174 h)=true)/\∃U:Tm,Q176 155 [Q20<|wrap .i64<|(wrap .i64<|(wrap .i64<|X+(length h:Int))-(1:Int))-c] (aT U)/\(1<=1)/\(b<=(length u)/\zI (b+1) 56)/\Q51 183 4 r q 5 (Q181 (Q160 6) 1 N A (Q87 8 6) B C (Q169 14 8<|a+1) (Q169 15 9<|b+1) F G L) [Q139 0 6 H i d I j<|Q2 k,Q116 1 2 4 6 0 e 5 1 0 f,Q49 2,Q49 3,Q27 4 6 O,Q194 5 P,Q75 6 4 m n o,Q16 7 6 J,Q196 8<|(take a t)++[(rE K)],Q196 9<|(take b u)++[(FT4 U)]] 10) M) M) M) ((FV.L 4 (Q174 S)=true)/\((4:Nat)=4/\(0+a)<=(length t))/\∃p:Tm×Sto,Q9 156 [Q83 2,Q20 N,Q20<|xI [d,l],Q20 (length S:Int),Q69<|take a<|drop 0 t] (Q70 1 e 2 f O 1 P) (aT p.1) (Q155 3 (length p.2.V) 4 (length p.2.T) (SR p.2.V)<|IR p.2.T)/\((4:Nat)=4/\(0+b)<=(length u))/\∃W:Tm,Q176 17 [(aT p.1),Q69<|take b<|drop 0 u] (aT W)/\RT (aT W) (Q147 (Q110 6 1 2 0 0 i d h j k) (Q65 4 (length p.2.V) 5<|length p.2.T) .gone (Q40<|SR p.2.V)<|Q52<|IR p.2.T) r q)):=zh
theorem v184 (a:Int)(d:LU)(b:Int)(e:RW)(k j g:Int)(c:RW)(l m:Int)(h i:Nat)(s t:RW)(r:TV)(f:LA):let A:=Q142 6 1 2 0 0 j g c l m 2 h 3 i s t;let B:=Q92 a d b e;let C:=Q122 c (.fn (.func 186) [] [(false,[(Q107 0 4)])]);let D:=wrap .i64 (b-k);let E:=FV.L 4 (Q174 c)=true;let F:=wrap .i64 ((wrap .i64<|k+(length c:Int))-(1:Int));let G:=br (a==1) (Q84 B [Q6 (decide (b<=g))] A r f) (Q84 B [Q44] A r f);let H:=br (a==3) (∃n:Int,Q74 42 C [Q119 4 a d D e] n [Q119 4 a d D e]/\br (decide (n>=0)) (E/\∃p:Tm,Q176 155 [Q20<|wrap .i64<|F-n] (aT p)/\Q84 (cT p) [Q79] A r f) G) (∃o:Int,Q74 42 C [Q119 4 a d b e] o [Q119 4 a d b e]/\br (decide (o>=0)) (E/\∃q:Tm,Q176 155 [Q20<|wrap .i64<|F-o] (aT q)/\Q84 (cT q) [Q79] A r f) G);VE lv5 184 4 r f (Q95 6 (Q71 a d b e)<|Q20 k) A=
  (br (a==3) (br (decide (b<k)) (Q84 B [Q79] A r f) H) H):=zh
theorem v159 (a:Int)(b:LU)(c:Int)(d:RW)(r:TV)(e:LA):VE lv5 159 0 r e (Q125 a b c d) []=
  (∃f:Bool,Q91 160 (Q94 (Q71 a b c d) 0) f/\Q50 (!f) r e):=zg
theorem v145 (c:Int)(d:LU)(e:Int)(f:RW)(a:Int)(r:TV)(b:LA):let A:=Q71 c d e f;VE lv5 145 1 r b (Q143 A 1) (Q101 a)=
  (∃g:Bool,Q91 121 (Q94 A a) g/\Q30 (!g) (Q101 a) r b):=zh
def lv179:LV:=[(1,[0,2,4,6,9,36,37])]
theorem v179 (j:Int)(k:LU)(m:Int)(n:RW)(a b:Nat)(g h:RW)(d:Int)(r:TV)(f:LA):let A:=Q95 2 (Q71 j k m n) (Q81 3 1);VE lv179 179 4 r f A [Q65 1 a 2 b,Q40 g,Q52 h,Q100 d]=
  (br (decide (d<=0)) (Q33 (Q161 (Q190 0 [] 0) 80) [Q65 1 a 2 b,Q40 g,Q52 h,Q100 d] r f) (∃e:Tm×Int×Int,Q60 29 A [Q65 1 a 2 b,Q40 g,Q52 h,Q100<|wrap .i64<|d-1] (Q161 (cT e.1) e.2.1) [Q65 1 a 2 b,Q40 g,Q52 h,Q100 e.2.2]/\br (e.2.1 !=0) (Q33 (Q161 (Q190 0 [] 0) e.2.1) [Q65 1 a 2 b,Q40 g,Q52 h,Q100 e.2.2] r f) ((∃o:Bool,Q176 98 [Q69<|FTs e.1.l] (.c<|Q0<|.sl o 4 [])/\(FV.L 4 (.sl o 4 [])=true)/\Q152 179 4 r f (Q145 (Q160 2) (Q47 2 3 1) (Q87 4 4) (Q87 6 5) (Q172 9<|.sl o 4 []) (Q15 36 0) 37 0) [Q116 0 2 1 6 0 a 2 1 0 b,Q27 1 6 g,Q194 2 h,Q129 3 1 e.2.2,Q16 4 4<|cT e.1,Q75 5 4 0 [] 0] 6)\/(∃i:RW,Q175 98 [Q69<|FTs e.1.l] (.c<|Q4 0 4 0<|length i) (Q157 4 i)/\Q152 179 4 r f (Q145 (Q160 2) (Q47 2 3 1) (Q87 4 4) (Q87 6 5) (Q169 9 6<|length i) (Q15 36 (length i:Int)) 37 0) [Q116 0 2 1 6 0 a 2 1 0 b,Q27 1 6 g,Q194 2 h,Q129 3 1 e.2.2,Q16 4 4<|cT e.1,Q75 5 4 0 [] 0,Q196 6 i] 7)))):=zh
theorem v179_1a (l:Bool)(o:RW)(n c:Int)(a b:Nat)(p q:RW)(d e:Int)(f:LU)(g:Int)(h:RW)(i:Int)(j:LU)(k:Int)(r:TV)(m:LA):let A:=Q172 9 (.sl l 4 o);let B:=getD o (toNat c) [];let C:=(FV.L 4 (.sl l 4 o)=true)/\(0<=c)/\(c<(length o:Int))/\(((rE B):List FV)=B);let D:=C/\∃s:Tm×Int×Int,Q60 179 (Q95 2 (aE B)<|Q81 3 1) [Q65 1 a 2 b,Q40 p,Q52 q,Q100 d] (Q161 (cT s.1) s.2.1) [Q65 1 a 2 b,Q40 p,Q52 q,Q100 s.2.2]/\C/\False;VQ lv179 179 4 r m 1 ⟨Q145 (Q160 2) (Q47 2 3 1) (Q87 4 4) (Q87 6 5) A (Q15 36 n) 37 c,[Q116 0 2 1 6 0 a 2 1 0 b,Q27 1 6 p,Q194 2 q,Q129 3 1 d,Q189 4 e f g h,Q75 5 4 i j k],6⟩=
  (br (decide (c<n)) (br (e==6) (br (c==0) (Q152 179 4 r m (Q145 (Q160 2) (Q47 2 3 1) (Q87 4 4) (Q87 6 5) A (Q15 36 n) 37<|wrap .i64<|c+1) [Q116 0 2 1 6 0 a 2 1 0 b,Q27 1 6 p,Q194 2 q,Q129 3 1 d,Q189 4 e f g h,Q75 5 4 i j k] 6) D) D)<|Q33 (Q161 (Q14 e f g<|Q0<|.sl l 4 o) 0) [Q65 1 a 2 b,Q40 p,Q52 q,Q100 d] r m):=zh
theorem rI (h:Nat)(o d:Int)(a b:Nat)(p q:RW)(g c:Int)(e:LU)(f:Int)(i:RW)(j:Int)(k:LU)(l:Int)(s:RW)(r:TV)(m:LA):let A:=Q145 (Q160 2) (Q47 2 3 1) (Q87 4 4) (Q87 6 5) (Q169 9 6 h) (Q15 36 o) 37 (wrap .i64<|d+1);let B:=0<=d/\d<(h:Int);let C:=0+(toNat d);let D:=length s;let E:=getD s C [];let F:=B/\((C<D)/\(((rE E):List FV)=(take 4<|drop 0 E))/\((4:Nat)=4))/\∃n:Tm×Int×Int,Q60 179 (Q95 2 (aE E)<|Q81 3 1) [Q65 1 a 2 b,Q40 p,Q52 q,Q100 g] (Q161 (cT n.1) n.2.1) [Q65 1 a 2 b,Q40 p,Q52 q,Q100 n.2.2]/\B/\(C<D/\(length E)=4)/\br (n.2.1 !=0) (Q33 (Q161 (Q190 0 [] 0) n.2.1) [Q65 1 a 2 b,Q40 p,Q52 q,Q100 n.2.2] r m) (Q152 179 4 r m A [Q116 0 2 1 6 0 a 2 1 0 b,Q27 1 6 p,Q194 2 q,Q129 3 1 n.2.2,Q189 4 c e f i,Q75 5 4 j k l,Q196 6<|List.set s C<|FT4 n.1] 7);VQ lv179 179 4 r m 1 ⟨Q145 (Q160 2) (Q47 2 3 1) (Q87 4 4) (Q87 6 5) (Q169 9 6 h) (Q15 36 o) 37 d,[Q116 0 2 1 6 0 a 2 1 0 b,Q27 1 6 p,Q194 2 q,Q129 3 1 g,Q189 4 c e f i,Q75 5 4 j k l,Q196 6 s],7⟩=
  (br (decide (d<o)) (br (c==6) (br (d==0) (Q152 179 4 r m A [Q116 0 2 1 6 0 a 2 1 0 b,Q27 1 6 p,Q194 2 q,Q129 3 1 g,Q189 4 c e f i,Q75 5 4 j k l,Q196 6 s] 7) F) F)<|(((4:Nat)=4/\(0+h)<=D)/\True)/\Q33 (Q161 (Q92 c e f<|take h<|drop 0 s) 0) [Q65 1 a 2 b,Q40 p,Q52 q,Q100 g] r m):=zh
theorem v185 (b:Int)(c:LU)(d:Int)(a:RW)(r:TV)(e:LA):let A:=FV.L 4 (Q174 a)=true;let B:=Q84 (Q190 0 [] 0) [Q44] [] r e;let C:=(length a:Int);let D:=wrap .i64 (C-(1:Int));let E:=getD a (toNat D) [];let F:=A/\(0<=D)/\(D<C)/\(((rE E):List FV)=E);let G:=getD a 0 [];VE lv5 185 0 r e (Q125 b c d a) []=
  (A/\br (b !=6) B (F/\br ((FV.I<|getD E 0 FV.N) !=3) B (F/\br ((FV.I<|getD E 2 FV.N) !=0) B ((A/\(0<=(0:Int))/\((0:Int)<C)/\(((rE G):List FV)=G))/\A/\((0<=(1:Int))/\((1:Int)<=D)/\(D<=C))/\∃f:Tm,Q176 17 [(aE G),Q69<|drop 1<|take (toNat D) a] (aT f)/\∃g:Bool,Q91 187 (Q94 (aT f) 0) g/\br g B (∃h:Tm,Q176 97 (Q173 (aT f) (Q20 0) (-1:Int)) (aT h)/\Q84 (cT h) [Q79] [] r e))))):=zh
theorem v169 (e:Int)(f:LU)(g:Int)(h:RW)(a:Int)(b:LU)(c:Int)(d:RW)(r:TV)(i:LA):VE lv5 169 1 r i (Q143 (Q71 e f g h) 4) [Q119 4 a b c d]=
  (∃j:Bool,Q91 170 [Q71 e f g h,Q71 a b c d] j/\Q30 j [Q119 4 a b c d] r i):=zg
theorem v173 (b:Int)(c:LU)(d:Int)(e:RW)(r:TV)(a:LA):let A:=Q125 b c d e;VE lv5 173 0 r a A []=
  (∃f:Bool,Q91 174 A f/\Q50 (!f) r a):=zh
theorem v42_F186 (s:RW)(a:Int)(b:LU)(c:Int)(d:RW)(r:TV)(e:LA):VE lv38 42 1 r e (Q122 s<|.fn (.func 186) [] [(false,[(Q107 0 4)])]) [Q119 4 a b c d]=
  ((FV.L 4 (Q174 s)=true)/\Q162 42 1 r e (Q118 0 s) 1 (.fn (.func 186) [] [(false,[(Q107 0 4)])]) 7 (length s:Int) 8 0 [Q189 0 a b c d] 1):=zg
theorem Xr (g:RW)(h f d:Int)(a:LU)(b:Int)(c:RW)(r:TV)(e:LA):let A:=getD g (toNat f) [];VQ lv38 42 1 r e 1 ⟨Q121 (Q118 0 g) 1 (.fn (.func 186) [] [(false,[(Q107 0 4)])]) 7 h 8 f,[Q189 0 d a b c],1⟩=
  (br (decide (f<h)) (((FV.L 4 (Q174 g)=true)/\(0<=f)/\(f<(length g:Int))/\(((rE A):List FV)=A))/\∃i:Bool,Q193 186 (aE A) 4 [Q119 4 d a b c] i [Q119 4 d a b c]/\br i (Q54 f [Q119 4 d a b c] r e) (Q162 42 1 r e (Q118 0 g) 1 (.fn (.func 186) [] [(false,[(Q107 0 4)])]) 7 h 8 (wrap .i64<|f+1) [Q189 0 d a b c] 1))<|Q54 (-1:Int) [Q119 4 d a b c] r e):=zh
theorem v160 (c:Int)(e:LU)(f:Int)(a:RW)(k:Int)(r:TV)(b:LA):let A:=getD a 0 [];VE lv5 160 0 r b (Q94 (Q71 c e f a) k) []=
  (br (c==5) (((FV.L 4 (Q174 a)=true)/\(0<=(0:Int))/\((0:Int)<(length a:Int))/\(((rE A):List FV)=A))/\∃g:Bool,Q91 160 (Q94 (aE A)<|wrap .i64<|k+1) g/\Q50 g r b) (∃d:Tm×List Tm,let B:=FTs d.2;let C:=(∃h:Bool,Q91 176 (Q94 (Q69 B) k) h/\Q50 h r b);let D:=(∃i:Bool,Q43 25 (Q122 B<|.fn (.func 177) [] [(false,[Q120])]) (Q101 k) i (Q101 k)/\Q50 (!i) r b);Q60 68 (Q125 c e f a) [] (Q55 (cT d.1)<|Q180 B) []/\br ((d.1.k:Int)==(5:Int)) (Q57 r b) (br ((d.1.k:Int)==(4:Int)) C<|br ((d.1.k:Int)==(3:Int)) (br (decide ((d.1.n:Int)>=k)) C D) D))):=zh
theorem v187 (b:Int)(c:LU)(d:Int)(e:RW)(i:Int)(r:TV)(a:LA):let A:=Q94 (Q71 b c d e) i;VE lv5 187 0 r a A []=
  (∃f:Int,Q74 188 A [] f []/\Q50 (decide (f>0)) r a):=zh
theorem v170 (b:Int)(f:LU)(c:Int)(g:RW)(d:Int)(h:LU)(e:Int)(i:RW)(r:TV)(a:LA):VE lv5 170 0 r a [Q71 b f c g,Q71 d h e i] []=
  (br (b==d) (Q50 (c==e) r a)<|Q57 r a):=zg
theorem v174 (b:Int)(c:LU)(d:Int)(e:RW)(r:TV)(a:LA):let A:=Q125 b c d e;VE lv5 174 0 r a A []=
  (∃f:Bool,Q91 7 A f/\br f (br (b==3) (Q50 true r a)<|Q50 (b==1) r a) (Q57 r a)):=zh
theorem v186 (e:Int)(f:LU)(g:Int)(h:RW)(a:Int)(b:LU)(c:Int)(d:RW)(r:TV)(i:LA):VE lv5 186 1 r i (Q143 (Q71 e f g h) 4) [Q119 4 a b c d]=
  (∃j:Bool,Q91 170 [Q71 e f g h,Q71 a b c d] j/\Q30 j [Q119 4 a b c d] r i):=zg
def lv176:LV:=[(1,[1,5,9,10,11])]
theorem v176 (l:RW)(k:Int)(r:TV)(b:LA):VE lv176 176 0 r b (Q94 (Q69 l) k) []=
  ((FV.L 4 (Q174 l)=true)/\Q152 176 0 r b (Q158 (Q15 1 k) (Q5 5<|.a<|.mp 0) (Q118 9 l) 10 (length l:Int) 11 0) [(0,.mapz [])] 1):=zg
theorem ie (g:Int)(e:RW)(d b:Int)(f:List MapZ)(r:TV)(c:LA):let A:=Q5 5 (.a<|.mp 0);let B:=getD e (toNat b) [];let C:=Q57 r c;let D:=FV.I (getD B 2 FV.N);let E:=(∃h:List MapZ,(updZ ((false,[EK.int]),(false,[Q44])) [(Q1 D)] (false,[(.bool true)]) f=some h)/\Q152 176 0 r c (Q158 (Q15 1 g) A (Q118 9 e) 10 d 11<|wrap .i64<|b+1) [(0,.mapz h)] 1);VQ lv176 176 0 r c 1 ⟨Q158 (Q15 1 g) A (Q118 9 e) 10 d 11 b,[(0,.mapz f)],1⟩=
  (br (decide (b<d)) (((FV.L 4 (Q174 e)=true)/\(0<=b)/\(b<(length e:Int))/\(((rE B):List FV)=B))/\br ((FV.I<|getD B 0 FV.N) !=3) C (br (decide ((D:Int)>=g)) C<|(∃i:Bool,(XH ((false,[EK.int]),(false,[Q44])) [(Q1 D)] f=some (some [(.bool i)]))/\br i C E)\/((XH ((false,[EK.int]),(false,[Q44])) [(Q1 D)] f=some none)/\E)))<|Q50 true r c):=zh
theorem v25_F177 (s:RW)(a:Int)(r:TV)(b:LA):let A:=Q122 s (.fn (.func 177) [] [(false,[Q120])]);let B:=Q101 a;VE lv5 25 1 r b A B=
  (∃c:Int,Q74 42 A B c B/\Q30 (decide (c>=0)) B r b):=zh
theorem v188 (b:Int)(c:LU)(d:Int)(e:RW)(i:Int)(r:TV)(a:LA):let A:=Q94 (Q71 b c d e) i;VE lv5 188 0 r a A []=
  (∃f:Bool,Q91 7 (Q125 b c d e) f/\br (!f) (Q192 0 r a) (∃g:Int,Q74 135 A [] g []/\Q192 g r a)):=zh
theorem v42_F177 (s:RW)(a:Int)(r:TV)(b:LA):VE lv38 42 1 r b (Q122 s<|.fn (.func 177) [] [(false,[Q120])]) (Q101 a)=
  ((FV.L 4 (Q174 s)=true)/\Q162 42 1 r b (Q118 0 s) 1 (.fn (.func 177) [] [(false,[Q120])]) 7 (length s:Int) 8 0 [Q129 0 1 a] 1):=zg
theorem Xq (d:RW)(e c a:Int)(r:TV)(b:LA):let A:=getD d (toNat c) [];let B:=Q101 a;VQ lv38 42 1 r b 1 ⟨Q121 (Q118 0 d) 1 (.fn (.func 177) [] [(false,[Q120])]) 7 e 8 c,[Q129 0 1 a],1⟩=
  (br (decide (c<e)) (((FV.L 4 (Q174 d)=true)/\(0<=c)/\(c<(length d:Int))/\(((rE A):List FV)=A))/\∃f:Bool,Q193 177 (aE A) 1 B f B/\br f (Q54 c B r b) (Q162 42 1 r b (Q118 0 d) 1 (.fn (.func 177) [] [(false,[Q120])]) 7 e 8 (wrap .i64<|c+1) [Q129 0 1 a] 1))<|Q54 (-1:Int) B r b):=zh
theorem v177 (c:Int)(d:LU)(e:Int)(f:RW)(a:Int)(r:TV)(b:LA):let A:=Q71 c d e f;VE lv5 177 1 r b (Q143 A 1) (Q101 a)=
  (∃g:Bool,Q91 160 (Q94 A a) g/\Q30 (!g) (Q101 a) r b):=zh
-- STUCK (164, '(lambent/clause.around).with', "append to ('c', ('a', ('fz', ('x', 'y1'))))",('(lambent/clause.around).with',5, 'clause.go:131', 'call'))
end Go.AM
namespace Go.AM
abbrev qi (x:Int):WV:=.a<|.fz<|.int .i64 x
abbrev qf (x:FV):WV:=.a<|.fz x
theorem rrl {a:TV}{H:List AObj}:TV.Le a a/\H=H:=⟨.refl _,rfl⟩
theorem bF {p:Prop}[Decidable p]{t f:Prop}(h:¬p)(y:f):br (decide p) t f:=zu (λw=>absurd (hU w) h) λ_=>y
theorem bT {p:Prop}[Decidable p]{t f:Prop}(h:p)(y:t):br (decide p) t f:=zu (λ_=>y) λw=>absurd h<|tP w
theorem bN {t f:Prop}(y:f):br false t f:=y
theorem bP {t f:Prop}(y:t):br true t f:=y
def cD (c:Int):Bool:=decide (97<=c)&&decide (c<=122)
def nh (c:Int):Bool:=decide (65<=c)&&decide (c<=90)||c==95
def mv (c:Int):Bool:=decide (48<=c)&&decide (c<=57)
def uP (c:Int):Bool:=cD c||nh c||mv c||c==39
def signs:List UInt8:=[43,45,42,47,60,62,61,38,124,94,126,64,35,36,63,58]
def ft (c:Int):Bool:=decide (Lib.indexByte signs c.toNat.toUInt8>=0)
theorem m6 (c:Int):AC tB 37 [c8 c] [] (cb<|cD c) []:=by refine acv (v37 ..) ?_;refine zu (λh=>zD ?_) (λh=>zD ?_)<;>simp_all[cD]<;>omega
theorem c_great (c:Int):AC tB 55 [c8 c] [] (cb<|nh c) []:=by refine acv (v55 ..) ?_;refine zu (λh=>zu (λh=>zD ?_) λh=>zD ?_) (λh=>zD ?_)<;>simp_all[nh]<;>omega
theorem c_digit (c:Int):AC tB 56 [c8 c] [] (cb<|mv c) []:=by refine acv (v56 ..) ?_;refine zu (λh=>zD ?_) (λh=>zD ?_)<;>simp_all[mv]<;>omega
theorem c_inside (c:Int):AC tB 39 [c8 c] [] (cb<|uP c) []:=by refine acv (v39 ..) ?_;refine⟨_,m6 c,zu (λh=>zD ?_) λh=>⟨_,c_great c,zu (λh=>zD ?_) λh=>⟨_,c_digit c,zu (λh=>zD ?_) λh=>zD ?_⟩⟩⟩<;>simp_all[uP]
theorem Kq (s:List UInt8)(c:Int):AC tB 81 [cs s,c8 c] [] (ci<|Lib.indexByte s c.toNat.toUInt8) []:=
 AC.str_u8 zg λw=>Tryz.stringslite_IndexByte ⟨s.toArray⟩ c w
theorem dF (s:List UInt8)(c:Int):AC tB 57 [cs s,c8 c] [] (ci<|Lib.indexByte s c.toNat.toUInt8) []:=
 AC.str_u8 zg λw=>Tryz.strings_IndexByte ⟨s.toArray⟩ c w
theorem c_sign (c:Int):AC tB 40 [c8 c] [] (cb<|ft c) []:=by refine acv (v40 ..) ?_;exact⟨_,dF _ c,zD rfl⟩
def runN (p:Int->Bool):List UInt8->Nat
 |[]=>0
 |c::s=>if p (c.toNat:Int) then runN p s+1 else 0
theorem r8 (p:Int->Bool):∀s:List UInt8,runN p s<=s.length
 |[]=>tJ _
 |c::s=>by have:=r8 p s;simp only[runN,tC];split<;>omega
theorem mi (a:List UInt8)(c:UInt8)(b:List UInt8):getD (a++c::b) (Int.toNat (a.length:Int)) 0=c:=by simp[getD]
theorem Zr:∀(b a:List UInt8),(a++b).length<=B->RPt tB 38 0 (ci<|(a.length:Int)+runN uP b) [] 1 ⟨[(0,cs<|a++b),(1,.c<|.fn (.func 39) [] []),(7,ci (((a++b).length:Nat):Int)),(8,ci a.length)],[],0⟩
 |[],a,d=>by refine rpv (W4 ..) ?_;exact zu (λh=>absurd h zb) (λ_=>yF<|by simp[runN])
 |c::b,a,d=>by
  refine rpv (W4 ..) ?_;have e:=d;simp only[tE,tC,B] at e;refine zu (λ_=>⟨⟨za,zj⟩,uP (c.toNat:Int),?_,zu (λh=>yF ?_) λh=>?_⟩) (λh=>absurd h zj)
  .rw[mi];exact c_inside _
  .simp_all[runN]
  .have:=Zr b (a++[c]) (zp d);rw[w64 za za];simp only[AB,AE,E0,tE,tC,tR,ER,S4,Int.natCast_zero,Int.zero_add] at this;simp only[Bool.not_eq_false'] at h;simp only[runN,h,tZ,tE,tC,ER,S4];rw[show(a.length:Int)+((runN uP b:Nat)+1:Int)=(a.length:Int)+1+(runN uP b:Nat) by omega];exact this
theorem KE (s:List UInt8)(h:s.length<=B):AC tB 38 [cs s,.c<|.fn (.func 39) [] []] [] (ci<|runN uP s) []:=by refine acv (v38_F39 ..) ?_;have:=Zr s [] (zp h);exact zp this
theorem Wm:∀(b a:List UInt8),(a++b).length<=B->RPt tB 38 0 (ci<|(a.length:Int)+runN ft b) [] 1 ⟨[(0,cs<|a++b),(1,.c<|.fn (.func 40) [] []),(7,ci (((a++b).length:Nat):Int)),(8,ci a.length)],[],0⟩
 |[],a,d=>by refine rpv (Wb ..) ?_;exact zu (λh=>absurd h zb) (λ_=>yF<|by simp[runN])
 |c::b,a,d=>by
  refine rpv (Wb ..) ?_;have e:=d;simp only[tE,tC,B] at e;refine zu (λ_=>⟨⟨za,zj⟩,ft (c.toNat:Int),?_,zu (λh=>yF ?_) λh=>?_⟩) (λh=>absurd h zj)
  .rw[mi];exact c_sign _
  .simp_all[runN]
  .have:=Wm b (a++[c]) (zp d);rw[w64 za za];simp only[AB,AE,E0,tE,tC,tR,ER,S4,Int.natCast_zero,Int.zero_add] at this;simp only[Bool.not_eq_false'] at h;simp only[runN,h,tZ,tE,tC,ER,S4];rw[show(a.length:Int)+((runN ft b:Nat)+1:Int)=(a.length:Int)+1+(runN ft b:Nat) by omega];exact this
theorem pz (s:List UInt8)(h:s.length<=B):AC tB 38 [cs s,.c<|.fn (.func 40) [] []] [] (ci<|runN ft s) []:=by refine acv (v38_F40 ..) ?_;have:=Wm s [] (zp h);exact zp this
theorem jI (p:Int->Bool):∀s:List UInt8,(((runN p s:Nat):Int)==((s.length:Nat):Int))=s.all λc=>p (c.toNat:Int)
 |[]=>rfl
 |c::s=>by
  have ih:=jI p s;have:=r8 p s;simp only[runN,AZ,tC];cases h:p (c.toNat:Int) with
  |true=>rw[<-ih];simp only[tZ,AS];rw[EF];simp<;>omega
  |false=>simp;omega
def lG (s:List UInt8):Bool:= !(s==[])&&decide ((s.length:Int)<=32)
theorem c_fits (s:List UInt8):AC tB 36 [cs s] [] (cb<|lG s) []:=by refine acv (v36 ..) ?_;refine zu (λh=>zD ?_) (λh=>zD ?_)<;>simp_all[lG]
def Yj (s:List UInt8):Bool:=lG s&&cD ((s.getD 0 0).toNat:Int)&&s.all λc=>uP (c.toNat:Int)
theorem dL {s:List UInt8}(h:lG s=true):0<s.length/\s.length<=32:=by
 simp only[lG,tF,AA,Ak] at h;refine⟨?_,za⟩;cases s with
 |nil=>simp at h
 |cons c s=>simp
theorem aH (s:List UInt8):AC tB 23 [cs s] [] (cb<|Yj s) []:=by
 refine acv (v23 ..) ?_;refine⟨_,c_fits s,zu (λh=>⟨⟨za,by have:=dL h;omega⟩,_,m6 _,zu (λb=>⟨_,KE s<|by have:=dL h;simp only[B];omega,zD ?_⟩) λb=>zD ?_⟩) λh=>zD ?_⟩
 .rw[jI];simp only[Yj,h,b,AS]
 .simp only[Yj,h,b,Ap,As]
 .simp only[Yj,h,As]
def fC:List UInt8:=[44,59,33]
theorem d9 (s:List UInt8)(c:UInt8)(f:s.length<=B):AC tB 41 [cs s,cs [c]] [] (cb (decide (Lib.indexByte s c>=0))) []:=by
 have g:(c.toNat:Int).toNat.toUInt8=c:=zb;have d:AC tB 82 [cs s,cs [c]] [] (ci (if [c]==s then 0 else Lib.indexByte s c)) []:=by refine acv (v82 ..) ?_;refine zu (λh=>absurd h zb) (λ_=>zu (λh=>yF<|by simp[h]) λh=>zu (λ_=>⟨⟨za,zb⟩,_,Kq s _,yF ?_⟩) λb=>absurd b zb);rw[h];simp
 have b:AC tB 58 [cs s,cs [c]] [] (ci (if [c]==s then 0 else Lib.indexByte s c)) []:=by refine acv (v58 ..) ?_;exact⟨_,d,yF rfl⟩
 refine acv (v41 ..) ?_;refine⟨_,b,zD ?_⟩;by_cases e:[c]=s
 .subst e;simp[Lib.indexByte]
 .have:([c]==s)=false:=zp e;rw[this];simp
def gu (s:List UInt8):Bool:=lG s&&((s.all λc=>ft (c.toNat:Int))||((s.length:Int)==1&&decide (Lib.indexByte fC (s.getD 0 0)>=0)))
theorem th (s:List UInt8):AC tB 24 [cs s] [] (cb<|gu s) []:=by
 refine acv (v24 ..) ?_;refine⟨_,c_fits s,zu (λh=>⟨_,pz s<|by have:=dL h;simp only[B];omega,zu (λd=>zD ?_) λd=>zu (λb=>?_) λb=>zD ?_⟩) λh=>zD ?_⟩
 .rw[jI] at d;simp only[gu,h,d,AS,EC]
 .rw[jI] at d
  match s,b with
  |[c],b=>refine⟨_,d9 fC c<|by simp[fC,B],zD ?_⟩;simp only[gu,h,d,b,AS,Ec,List.getD_cons_zero]
  |[],b=>simp at b
  |_::_::_,b=>simp at b;omega
 .rw[jI] at d;simp only[gu,h,d,b,As,Ec,Ap]
 .simp only[gu,h,As]
mutual
def near (most:Int):Tm->Bool
 |.mk k _ n l=> !(k !=2&&(decide (n>most)||decide (n<0-most)))&&dA most l
def dA (most:Int):List Tm->Bool
 |[]=>true
 |t::l=>near most t&&dA most l
end
theorem l_near (most k:Int)(s:List UInt8)(n:Int):∀(b a:List Tm),(∀u∈b,AC tB 6 [aT u,ci most] [] (cb<|near most u) [])->(a++b).length<=B->
  RPt tB 6 0 (cb<|dA most b) [] 1 ⟨[(1,ci most),(2,(.c<|.a<|.ep 0 4 0 0)),(5,ci a.length)],[(0,(.arr 4 [fzs<|FT<|.mk k s n<|a++b]))],1⟩
 |[],a,_,e=>by refine rpv (v6_1a ..) ?_;exact⟨rfl,bF (geI' a)<|zD rfl⟩
 |t::b,a,ih,e=>by
  refine rpv (v6_1a ..) ?_;have d:=e;simp only[tE,tC,B] at d;refine⟨rfl,bT (ltI' a t b)<|?_⟩;have g:=ih t tM;have f:=l_near most k s n b (a++[t]) (λu p=>ih u<|tK _ p) (by rw[ap];exact e);have o:=ltI' a t b;rw[ap,nx] at f;rw[midI,w64 za za];obtain⟨m,j,i,l'⟩:=t;refine⟨⟨rfl,za,o,rfl⟩,_,g,zu (λh=>zD ?_) λh=>?_⟩
  .simp_all[dA]
  .simp only[dA,show near most (.mk m j i l')=true by simpa using h,AS];exact f
theorem c_near (most:Int)(j:0<=most)(i:most<=4611686018427387904):∀t:Tm,t.sz<=B->AC tB 6 [aT t,ci most] [] (cb<|near most t) []:=by
 refine Tm.ind λt ih f=>?_;obtain⟨k,s,n,l⟩:=t;have g:=Tm.szs_length l;simp only[Tm.sz,B] at f;refine acv (v6 k s n (FTs l) most _ _) ?_;have key:=l_near most k s n l [] (λu e=>ih u e<|by have:=Tm.szs_mem e;simp only[B];omega) (by simp only[E0,B];omega);rw[w64 za za];rw[near];refine zu (λh=>zu (λb=>zD ?_) λb=>zu (λd=>zD ?_) λd=>?_) λh=>?_
 .simp only[h,b,EC,Eu,Bool.not_true,As]
 .simp only[h,d,Ee,Eu,Bool.not_true,As]
 .simp only[b,d,S0,Ap,EN,AS];exact key
 .simp only[h,As,EN,AS];exact key
mutual
def qX:Tm->Int->Int
 |.mk _ _ _ l,most=>qP l<|most-1
def qP:List Tm->Int->Int
 |[],n=>n
 |t::l,n=>if n>=0 then qP l (qX t n) else n
end
mutual
theorem aG:∀(t:Tm) (n:Int),qX t n<=n-1/\(0<=n-> -1<=qX t n)
 |.mk _ _ _ l,n=>by have h:=Ja l<|n-1;simp only[qX];exact⟨h.1,λhn=>h.2 za⟩
theorem Ja:∀(l:List Tm) (n:Int),qP l n<=n/\(-1<=n-> -1<=qP l n)
 |[],n=>by simp[qP]
 |t::l,n=>by
  have h1:=aG t n;have h2:=Ja l<|qX t n;simp only[qP];split;next h=>exact⟨za,λ_=>h2.2<|h1.2 h⟩
  .exact⟨tU _,λh=>h⟩
end
theorem l_left (k:Int)(s:List UInt8)(n:Int):∀(b a:List Tm) (m:Int),(∀u∈b,∀m:Int,0<=m->m<=4611686018427387904->AC tB 22 [aT u,ci m] [] (ci<|qX u m) [])->(a++b).length<=B->m<=4611686018427387904->
  RPt tB 22 0 (ci<|qP b m) [] 1 ⟨[(2,(.c<|.a<|.ep 0 4 0 0)),(5,ci m),(6,ci a.length)],[(0,(.arr 4 [fzs<|FT<|.mk k s n<|a++b]))],1⟩
 |[],a,m,_,f,g=>by refine rpv (v22_1a ..) ?_;exact⟨rfl,bF (geI' a)<|yF rfl⟩
 |t::b,a,m,ih,f,g=>by
  refine rpv (v22_1a ..) ?_;have e:=f;simp only[tE,tC,B] at e;refine⟨rfl,bT (ltI' a t b)<|zu (λd=>?_) λd=>yF ?_⟩
  .have d:=hU d;have i:=ih t tM m d g;have j:=aG t m;have h:=l_left k s n b (a++[t]) (qX t m) (λu p=>ih u<|tK _ p) (by rw[ap];exact f) za;have o:=ltI' a t b;rw[ap,nx] at h;rw[midI,w64 za za];simp only[qP,d,tZ];obtain⟨w,v,r,l'⟩:=t;exact⟨⟨rfl,za,o,rfl⟩,_,i,h⟩
  .have d:=tP d;simp only[qP,d,A6]
theorem c_left:∀t:Tm,t.sz<=B->∀m:Int,0<=m->m<=4611686018427387904->AC tB 22 [aT t,ci m] [] (ci<|qX t m) []:=by refine Tm.ind λt ih d m f g=>?_;obtain⟨k,s,n,l⟩:=t;have e:=Tm.szs_length l;simp only[Tm.sz,B] at d;refine acv (v22 k s n (FTs l) m _ _) ?_;rw[w64 za za];exact l_left k s n l [] (m-1) (λu b=>ih u b<|by have:=Tm.szs_mem b;simp only[B];omega) (by simp only[E0,B];omega) za
def jy (t:Tm)(most:Int):Bool:=decide (qX t most<0)
theorem fE (t:Tm)(e:t.sz<=B)(m:Int)(d:0<=m)(b:m<=4611686018427387904):AC tB 5 [aT t,ci m] [] (cb<|jy t m) []:=by have h:=c_left t e m d b;obtain⟨k,s,n,l⟩:=t;refine acv (v5 k s n (FTs l) m _ _) ?_;exact⟨_,h,zD rfl⟩
mutual
def xg:Tm->Tm->Bool
 |.mk k s n l,.mk k' s' n' l'=>k==k'&&(s==s'&&(n==n'&&jC l l'))
def jC:List Tm->List Tm->Bool
 |[],[]=>true
 |t::l,u::m=>xg t u&&jC l m
 |_,_=>false
end
mutual
theorem KP:∀a b:Tm,xg a b=true↔a=b
 |.mk k s n l,.mk k' s' n' l'=>by simp only[xg,tF,Al,Tm.mk.injEq,Kx l l']
theorem Kx:∀a b:List Tm,jC a b=true↔a=b
 |[],[]=>by simp[jC]
 |t::l,u::m=>by simp only[jC,tF,List.cons.injEq,KP t u,Kx l m]
 |[],_::_=>by simp[jC]
 |_::_,[]=>by simp[jC]
end
theorem K5:∀ {a b:List Tm},a.length≠b.length->jC a b=false
 |[],[],h=>absurd rfl h
 |t::l,u::m,h=>by simp only[jC,K5 (a:=l) (b:=m) λe=>h<|by simp[e],Ap]
 |[],_::_,_=>rfl
 |_::_,[],_=>rfl
def Tm.inner (t:Tm):Bool:=t.k==5||t.k==6
def Tm.kids (t:Tm):List Tm:=if t.inner=true then t.l else []
def Tm.by (t:Tm):Int:=if t.k==5 then 1 else 0
mutual
def zC:Cd->Prop
 |.mk nm _ _ _ _ ins=>nm.length<=B/\ins.length<=B/\zIs ins
def zIs:List In1->Prop
 |[]=>True
 |.mk _ _ t l c::r=>(t.bk<=B/\Tm.bks l<=B/\c.length<=B/\zCs c)/\zIs r
def zCs:List Cd->Prop
 |[]=>True
 |c::r=>zC c/\zCs r
end
theorem Jo:∀ {l:List In1} {x:In1},zIs l->x∈l->x.t.bk<=B/\Tm.bks x.l<=B/\x.c.length<=B/\zCs x.c
 |.mk k a t q c::r,x,h,hm=>by
  rw[zIs] at h;rcases A1.1 hm with rfl|hm
  .exact h.1
  .exact Jo h.2 hm
theorem iJ:∀ {l:List Cd} {d:Cd},zCs l->d∈l->zC d
 |c::r,d,h,hm=>by
  rw[zCs] at h;rcases A1.1 hm with rfl|hm
  .exact h.1
  .exact iJ h.2 hm
theorem gZ {c:Cd}(h:zC c):c.nm.length<=B/\c.ins.length<=B/\zIs c.ins:=by cases c;rw[zC] at h;exact h
theorem zIs_of:∀ {l:List In1},(∀x∈l,x.t.bk<=B/\Tm.bks x.l<=B/\x.c.length<=B/\zCs x.c)->zIs l
 |[],_=>by rw[zIs];trivial
 |.mk k a t q c::r,h=>by rw[zIs];exact⟨h _<|tM ..,zIs_of λx b=>h x<|tK _ b⟩
theorem zCs_of:∀ {l:List Cd},(∀d∈l,zC d)->zCs l
 |[],_=>by rw[zCs];trivial
 |c::r,h=>by rw[zCs];exact⟨h _<|tM ..,zCs_of λx b=>h x<|tK _ b⟩
theorem m5 (a:List Cd)(c:Cd)(b:List Cd):getD (FCs<|a++c::b) (Int.toNat (a.length:Int)) []=FC c:=by rw[(za:Int.toNat (a.length:Int)=a.length),jo];simp[getD]
theorem gC (a:List In1)(c:In1)(b:List In1):getD (FIs<|a++c::b) (Int.toNat (a.length:Int)) []=FI c:=by rw[(za:Int.toNat (a.length:Int)=a.length),uH];simp[getD]
abbrev aCr (r:List FV):TV:=.agg [qf<|.str<|FV.S<|getD r 0 FV.N,qi<|FV.I<|getD r 1 FV.N,qi<|FV.I<|getD r 2 FV.N,qi<|FV.I<|getD r 3 FV.N,qi<|FV.I<|getD r 4 FV.N,qf<|getD r 5 FV.N]
theorem aCr_FC (c:Cd):aCr (FC c)=aC c:=by cases c;rw[FC];rfl
abbrev fCr (r:List FV):List FV:=[.str<|FV.S<|getD r 0 FV.N,.int .i64<|FV.I<|getD r 1 FV.N,.int .i64<|FV.I<|getD r 2 FV.N,.int .i64<|FV.I<|getD r 3 FV.N,.int .i64<|FV.I<|getD r 4 FV.N,getD r 5 FV.N]
theorem fCr_FC (c:Cd):fCr (FC c)=FC c:=by cases c;rw[FC];rfl
abbrev fIr (r:List FV):List FV:=[.int .i64<|FV.I<|getD r 0 FV.N,.int .i64<|FV.I<|getD r 1 FV.N,.int .i64<|FV.I<|getD r 2 FV.N,.str<|FV.S<|getD r 3 FV.N,.int .i64<|FV.I<|getD r 4 FV.N,getD r 5 FV.N,getD r 6 FV.N,getD r 7 FV.N]
theorem fIr_FI (x:In1):fIr (FI x)=FI x:=by cases x;rw[FI];rfl
abbrev aIt (r:List FV):TV:=.agg [qi<|FV.I<|getD r 2 FV.N,qf<|.str<|FV.S<|getD r 3 FV.N,qi<|FV.I<|getD r 4 FV.N,qf<|getD r 5 FV.N]
theorem aIt_FI (x:In1):aIt (FI x)=aT x.t:=by cases x;rw[FI];rfl
theorem FI6 (x:In1):getD (FI x) 6 FV.N=.sl false 4 (FTs x.l):=by cases x;rw[FI];rfl
theorem FI7 (x:In1):getD (FI x) 7 FV.N=.sl false 6 (FCs x.c):=by cases x;rw[FI];rfl
theorem FI3 (x:In1):FV.S (getD (FI x) 3 FV.N)=x.t.s:=by cases x;rw[FI];rfl
theorem FI0 (x:In1):FV.I (getD (FI x) 0 FV.N)=x.k:=by cases x;rw[FI];rfl
theorem FI1 (x:In1):FV.I (getD (FI x) 1 FV.N)=x.a:=by cases x;rw[FI];rfl
abbrev cCd (c:Cd):List WV:=[qf<|.str c.nm,qi c.ar,qi c.fr,qi c.vs,qi c.sl,qf<|.sl false 8<|FIs c.ins]
def jn (t:Tm):FV:=if t.inner=true then .sl false 4 (FTs t.l) else .N
theorem KF (t:Tm):(jn t).ses=FTs t.kids/\(jn t).L 4=true:=by unfold jn Tm.kids;split<;>exact⟨rfl,rfl⟩
theorem ZX (t:Tm):AC tB 142 [aT t] [] (.tup [(false,[qf<|jn t]),(false,[qi t.by])]) []:=by
 obtain⟨k,s,n,l⟩:=t;refine acv (v142 k s n (FTs l) _ _) ?_;refine zu (λh=>⟨?_,rfl⟩) λh=>zu (λe=>⟨?_,rfl⟩) λe=>⟨?_,rfl⟩
 .have d:jn (.mk k s n l)=.sl false 4 (FTs l):=by unfold jn Tm.inner;simp only[Tm.k,h,EC,tZ,Tm.l]
  have b:Tm.by (.mk k s n l)=1:=by unfold Tm.by;simp only[Tm.k,h,tZ]
  rw[d,b];exact .refl _
 .have d:jn (.mk k s n l)=.sl false 4 (FTs l):=by unfold jn Tm.inner;simp only[Tm.k,e,Ee,tZ,Tm.l]
  have b:Tm.by (.mk k s n l)=0:=by unfold Tm.by;simp only[Tm.k,h,tX,A6]
  rw[d,b];exact .refl _
 .have d:jn (.mk k s n l)=.N:=by unfold jn Tm.inner;simp only[Tm.k,h,e,Bool.or_self,tX,A6]
  have b:Tm.by (.mk k s n l)=0:=by unfold Tm.by;simp only[Tm.k,h,tX,A6]
  rw[d,b];exact .refl _
mutual
def wr:Tm->Nat
 |.mk k _ _ l=>1+if (k==5||k==6)=true then jm l else 0
def jm:List Tm->Nat
 |[]=>0
 |t::l=>wr t+jm l
end
theorem sizeF_eq (t:Tm):wr t=1+jm t.kids:=by
 obtain⟨k,s,n,l⟩:=t;by_cases h:(k==5||k==6)=true
 .rw[show Tm.kids (.mk k s n l)=l from tG h,wr,tG h]
 .rw[show Tm.kids (.mk k s n l)=[] from tD h,wr,tD h];rfl
mutual
theorem ZU:∀t:Tm,wr t<=t.sz
 |.mk k s n l=>by have:=cp l;simp only[wr,Tm.sz];split<;>omega
theorem cp:∀l:List Tm,jm l<=Tm.szs l
 |[]=>tJ _
 |t::l=>by have:=ZU t;have:=cp l;simp only[jm,Tm.szs];omega
end
theorem l_size:∀(b a:List Tm) (v:FV) (acc:Nat),v.ses=FTs (a++b)->v.L 4=true->(∀u∈b,AC tB 134 [aT u] [] (ci<|wr u) [])->(a++b).length<=B->acc+jm b<=2*B->
  RPt tB 134 0 (ci ((acc+jm b:Nat):Int)) [] 1 ⟨[(3,ci acc),(13,.c<|qf v),(14,ci (a++b).length),(15,ci a.length)],[],0⟩
 |[],a,v,acc,hv,hs,_,hl,ha=>by refine rpv (rQ ..) ?_;exact bF zb<|yF<|by simp[jm]
 |t::b,a,v,acc,hv,hs,ih,hl,ha=>by refine rpv (rQ ..) ?_;have hl':=hl;simp only[tE,tC,B] at hl';simp only[jm,B] at ha;have h1:=ih t tM;have h2:=l_size b (a++[t]) v (acc+wr t) (by rw[ap];exact hv) hs (λu hu=>ih u<|tK _ hu) (by rw[ap];exact hl) (by simp only[B];omega);have h3:=ltI' a t b;rw[ap,nx] at h2;rw[hv,midI,w64 (x:=(a.length:Int)+1) za za];refine bT (ltI a t b)<|?_;rw[show acc+jm (t::b)=acc+wr t+jm b by simp only[jm];omega];obtain⟨k',s',n',l'⟩:=t;refine⟨⟨hs,za,h3,rfl⟩,_,h1,?_⟩;rw[w64 za za,show(acc:Int)+((wr (.mk k' s' n' l'):Nat):Int)=((acc+wr (.mk k' s' n' l'):Nat):Int) by omega];exact h2
theorem c_size:∀t:Tm,t.sz<=B->AC tB 134 [aT t] [] (ci<|wr t) []:=by
 refine Tm.ind λt ih hs=>?_;have hw:=ZX t;have hk:=KF t;have hsz:=sizeF_eq t;have hle:=ZU t;have hkl:t.kids.length<=B/\(∀u∈t.kids,u∈t.l):=by
  have:=Tm.szs_length t.l;rw[Tm.sz_eq] at hs;unfold Tm.kids;split
  .exact⟨by simp only[B] at*;omega,λu hu=>hu⟩
  .exact⟨by simp[B],λu hu=>by simp at hu⟩
 have key:=l_size t.kids [] (jn t) 1 (zp hk.1) hk.2 (λu hu=>ih u (hkl.2 u hu)<|by have:=Tm.szs_mem (hkl.2 u hu);rw[Tm.sz_eq] at hs;simp only[B] at*;omega) (zp hkl.1) (by simp only[B] at*;omega);refine acv (v134 ..) ?_;refine⟨_,_,hw,hk.2,?_⟩;rw[hk.1,hsz,lenI];exact zp key
mutual
def bd (M:Int):Tm->Prop
 |.mk k _ n l=>(k=3->0-M<=n/\n<=M)/\bds M l
def bds (M:Int):List Tm->Prop
 |[]=>True
 |t::l=>bd M t/\bds M l
end
theorem yN {M:Int}:∀ {l:List Tm} {t:Tm},bds M l->t∈l->bd M t
 |x::l,t,h,ht=>by
  rcases A1.1 ht with rfl|ht
  .exact h.1
  .exact yN h.2 ht
theorem bd_l {M:Int}{t:Tm}(h:bd M t):bds M t.l:=by cases t;exact h.2
def maxI (a b:Int):Int:=if a<=b then b else a
theorem aY (a b:Int):xH [a,b]=maxI a b:=by simp only[xH,List.foldl,maxI,max,maxOfLe]
mutual
def xf:Tm->Int->Int->Int
 |.mk kd _ n l,k,acc=>if (kd==5)=true then uu l (k+1) acc else if (kd==6)=true then uu l k acc else if (kd==3)=true then maxI acc (n-k+1) else acc
def uu:List Tm->Int->Int->Int
 |[],_,acc=>acc
 |t::l,k,acc=>uu l k<|xf t k acc
end
abbrev obj1 (n:Int):AObj:=.arr 1 [[qi n]]
theorem c_loose1 (u:Tm)(k acc:Int)(b:u.k=3->0-4611686018427387904<=u.n/\u.n<=4611686018427387904)(f:0<=k)(g:k<=2305843009213693952):
  AC tB 115 [aT u,ci k,.c<|.a<|.ep 0 1 0 0] [obj1 acc] (.tup []) [obj1 (if (u.k==3)=true then maxI acc (u.n-k+1) else acc)]:=by
 obtain⟨d,s,n,l⟩:=u;simp only[Tm.k,Tm.n] at b;refine acv (v115 d s n (FTs l) k acc _ _) ?_;refine zu (λh=>⟨.refl _,?_⟩) λh=>⟨.refl _,?_⟩
 .have e:d=3:=zp h;have:=b e;rw[w64 (x:=n-k) za za,w64 (x:=n-k+1) za za,aY];simp only[Tm.k,Tm.n,h,tZ]
 .simp only[Tm.k,h,tX,A6]
abbrev tellL:TV:=.c<|.fn (.func 115) [] [(false,[.ep 0 1 0 0])]
theorem l_each (k by_:Int)(p:0<=k)(i:0<=by_)(d:by_<=1):∀(b a:List Tm) (v:FV) (acc:Int),v.ses=FTs (a++b)->v.L 4=true->(∀u∈b,∀acc,AC tB 114 [aT u,ci<|k+by_,tellL] [obj1 acc] (.tup []) [obj1<|xf u (k+by_) acc])->(a++b).length<=B->k<=2305843009213693952->
  RPt tB 114 1 (.tup []) [obj1<|uu b (k+by_) acc] 1 ⟨[(1,ci k),(2,tellL),(7,ci by_),(27,.c<|qf v),(28,ci (a++b).length),(29,ci a.length)],[(0,obj1 acc)],1⟩
 |[],a,v,acc,f,g,_,e,j=>by refine rpv (Zt ..) ?_;exact bF zb rrl
 |t::b,a,v,acc,f,g,ih,e,j=>by refine rpv (Zt ..) ?_;have h:=e;simp only[tE,tC,B] at h;have r:=ih t tM acc;have m:=l_each k by_ p i d b (a++[t]) v (xf t (k+by_) acc) (by rw[ap];exact f) g (λu o=>ih u<|tK _ o) (by rw[ap];exact e) j;have w:=ltI' a t b;rw[ap,nx] at m;rw[f,midI,w64 (x:=(a.length:Int)+1) za za,w64 (x:=k+by_) za za];refine bT (ltI a t b)<|?_;obtain⟨z,A,y,l'⟩:=t;exact⟨⟨g,za,w,rfl⟩,.inl ⟨_,r,m⟩⟩
theorem c_each:∀t:Tm,t.sz<=B->bd 4611686018427387904 t->∀k acc:Int,0<=k->k+t.sz<=2305843009213693952->AC tB 114 [aT t,ci k,tellL] [obj1 acc] (.tup []) [obj1<|xf t k acc]:=by
 refine Tm.ind λt ih y w k acc v z=>?_;have x:=ZX t;have f:=KF t;have i:=Tm.szs_length t.l;obtain⟨b,s,n,l⟩:=t;simp only[Tm.sz,B,Tm.l] at y i;simp only[Tm.sz] at z;have key:∀by_:Int,0<=by_->by_<=1->Tm.kids (.mk b s n l)=l->RPt tB 114 1 (.tup []) [obj1<|uu l (k+by_) acc] 1 ⟨[(1,ci k),(2,tellL),(7,ci by_),(27,.c<|qf<|jn<|.mk b s n l),(28,ci l.length),(29,ci 0)],[(0,obj1 acc)],1⟩:=by intro by_ o p e;have:=l_each k by_ v o p l [] (jn<|.mk b s n l) acc (by rw[f.1,e];rfl) f.2 (λu j acc=>ih u j (by have:=Tm.szs_mem j;simp only[B];omega) (yN w.2 j) (k+by_) acc za<|by have:=Tm.szs_mem j;omega) (by simp only[E0,B];omega) za;exact zp this
 refine acv (iH b s n (FTs l) k acc _ _) ?_;refine zu (λh=>zu (λr=>⟨_,c_loose1 (.mk b s n l) k acc w.1 v za,.refl _,?_⟩) λr=>⟨_,_,x,f.2,?_⟩) λh=>⟨_,_,x,f.2,?_⟩
 .have d:(b==5)=false:=zp h;have m:(b==6)=false:=zp r;simp only[xf,Tm.k,Tm.n,d,m,tX,A6];rfl
 .have d:(b==5)=false:=zp h;have m:(b==6)=true:=zp r;have g:Tm.kids (.mk b s n l)=l:=by unfold Tm.kids Tm.inner;simp only[Tm.k,m,Ee,tZ,Tm.l]
  have:=key 0 za za g;rw[f.1,g,lenI,show Tm.by (.mk b s n l)=0 by unfold Tm.by;simp only[Tm.k,d,tX,A6]];simp only[xf,d,m,tX,A6,tZ];exact zp this
 .have d:(b==5)=true:=zp h;have g:Tm.kids (.mk b s n l)=l:=by unfold Tm.kids Tm.inner;simp only[Tm.k,d,EC,tZ,Tm.l]
  have:=key 1 za za g;rw[f.1,g,lenI,show Tm.by (.mk b s n l)=1 by unfold Tm.by;simp only[Tm.k,d,tZ]];simp only[xf,d,tZ];exact this
theorem dp (t:Tm)(b:t.sz<=B)(d:bd 4611686018427387904 t):AC tB 84 [aT t] [] (ci<|xf t 0 0) []:=by have h:=c_each t b d 0 0 (tU _) (by simp only[B] at b;omega);refine acv (v84 ..) ?_;exact .inl ⟨_,h,yF rfl⟩
theorem c_grow (n:Int)(d:0<=n)(e:n<=2199023255552):(n=0->AC tB 54 [.c<|qf .N,ci n] [] (.c<|qf .N) [])/\
  (n≠0->AC tB 54 [.c<|qf .N,ci n] [] (.c<|.a<|.osl 0 4 0 0) [.arz 4 []]):=by
 constructor
 .intro b;refine acv (v54 ..) ?_;refine bF za ⟨rfl,zu (λh=>?_) λ_=>uw<|.refl _⟩;rw[w64 za za] at h;exact absurd (hU h) za
 .intro b;refine acv (v54 ..) ?_;rw[w64 za za];refine bF za ⟨rfl,zu (λh=>⟨rfl,⟨za,za,za⟩,⟨za,by unfold zI;omega⟩,rfl,⟨za,za,za⟩,.refl _,rfl⟩) λh=>absurd (tP h) za⟩
def FLs (ls:List<|List Tm):List (List FV):=ls.map λl=> [.sl false 4<|FTs l]
def vj (ls:List<|List Tm):Nat:=(ls.map List.length).foldr (· + ·) 0
theorem Za (ls:List<|List Tm):(FLs ls).length=ls.length:=by simp[FLs]
theorem midL (a:List<|List Tm)(l:List Tm)(b:List<|List Tm):getD (FLs<|a++l::b) (Int.toNat (a.length:Int)) []=[.sl false 4<|FTs l]:=by rw[(za:Int.toNat (a.length:Int)=a.length)];simp[getD,FLs]
theorem ltL (a:List<|List Tm)(t:List Tm)(b:List<|List Tm):(a.length:Int)<(((FLs<|a++t::b).length:Nat):Int):=by rw[Za];exact ltI a t b
theorem KL (a:List<|List Tm)(l:List Tm)(b:List<|List Tm):vj (a++l::b)=vj a+l.length+vj b:=by
 induction a with
 |nil=>simp[vj]
 |cons x a ih=>simp only[vj,AE,Aw,List.foldr_cons] at ih ⊢;omega
theorem lw (a:List<|List Tm)(l:List Tm):vj (a++[l])=vj a+l.length:=by rw[KL];simp[vj]
abbrev aLs (ls:List<|List Tm):TV:=.c<|qf<|.sl false 1<|FLs ls
theorem wT {n:Nat}(h:n<=2199023255552):zI n 56:=by unfold zI;omega
theorem mh:∀(b a:List<|List Tm) (acc:List Tm),acc.length+vj b<=2199023255552->(a++b).length<=B->
  RPt tB 34 0 (aL<|acc++b.flatten) [] 5 ⟨[(6,(.c<|.a<|.osl 0 4 0 acc.length)),(25,aLs<|a++b),(26,ci (a++b).length),(27,ci a.length)],[(0,(.arz 4<|FTs acc))],1⟩
 |[],a,acc,f,d=>by refine rpv (v34_5b ..) ?_;refine bF zb ⟨⟨rfl,by rw[zq];omega⟩,uw ?_⟩;rw[A3,tN<|by rw[zq];omega,List.flatten_nil,tY];exact le_c leSl
 |l::b,a,acc,f,d=>by
  refine rpv (v34_5b ..) ?_;have e:=d;have i:=ltL a l b;simp only[tE,tC,B] at e;have h:acc.length+(l.length+vj b)<=2199023255552:=by simpa[vj] using f
  have g:=mh b (a++[l]) (acc++l) (by rw[tE];omega) (by rw[ap];exact d);rw[ap,nx] at g;rw[midL,w64 za za];refine bT (ltI a l b) ⟨⟨rfl,za,i,rfl⟩,rfl,⟨by rw[zq];omega,?_⟩,?_⟩
  .show zI (acc.length+(FTs l).length) 56;rw[zq];exact wT za
  .show RPt _ _ _ _ _ _ ⟨[(6,(.c<|.a<|.osl 0 4 0<|acc.length+(FTs l).length)),_,_,_],[(0,.arz 4<|take acc.length (FTs acc)++FTs l)],1⟩;rw[tN<|by rw[zq];omega,<-yh,zq,<-tE];rw[(zb:acc++(l::b).flatten=acc++l++b.flatten)];exact g
theorem l_cat2:∀(b a:List<|List Tm),vj b<=2199023255552->(a++b).length<=B->
  RPt tB 34 0 (aL b.flatten) [] 5 ⟨[(6,(.c<|qf .N)),(25,aLs<|a++b),(26,ci (a++b).length),(27,ci a.length)],[],0⟩
 |[],a,h,f=>by refine rpv (v34_5a ..) ?_;refine bF zb<|uw<|le_c zO
 |l::b,a,h,f=>by
  refine rpv (v34_5a ..) ?_;have g:=f;have m:=ltL a l b;simp only[tE,tC,B] at g;have j:l.length+vj b<=2199023255552:=by simpa[vj] using h
  rw[midL,w64 za za];refine bT (ltI a l b) ⟨⟨rfl,za,m,rfl⟩,rfl,?_⟩;show br (List.isEmpty<|FTs l) _ _;refine zu (λi=>?_) λi=>⟨?_,?_⟩
  .have e:=l_cat2 b (a++[l]) za (by rw[ap];exact f);rw[ap,nx] at e
   have d:l=[]:=by cases l with
    |nil=>rfl
    |cons x l=>simp[FTs] at i
   rw[show(l::b).flatten=b.flatten by rw[d];simp];exact e
  .show zI (FTs l).length 56;rw[zq];exact wT za
  .have e:=mh b (a++[l]) l za (by rw[ap];exact f);rw[ap,nx] at e;show RPt _ _ _ _ _ _ ⟨[(6,(.c<|.a<|.osl 0 4 0 (FTs l).length)),_,_,_],[(0,.arz 4<|FTs l)],1⟩;rw[zq,List.flatten_cons];exact e
theorem l_cat1:∀(b a:List<|List Tm),vj (a++b)<=2199023255552->(a++b).length<=B->
  RPt tB 34 0 (aL (a++b).flatten) [] 1 ⟨[(0,aLs<|a++b),(3,ci<|vj a),(9,aLs<|a++b),(10,ci (a++b).length),(11,ci a.length)],[],0⟩
 |[],a,d,g=>by
  refine rpv (v34_1a ..) ?_;have j:=c_grow (vj a:Int) za (by simp only[tY] at d;omega);refine bF zb<|?_;have e:(((FLs<|a++[]).length:Nat):Int)=(((a++[]).length:Nat):Int):=by rw[Za]
  rw[e];by_cases o:vj a=0
  .have f:=l_cat2 (a++[]) [] (zp d) (zp g);exact .inl ⟨(),j.1 za,rfl,zp f⟩
  .have f:=mh (a++[]) [] [] (zp d) (zp g);exact .inr ⟨(),j.2 za,rfl,by simpa[FTs] using f⟩
 |l::b,a,d,g=>by refine rpv (v34_1a ..) ?_;have i:=g;have h:=d;have m:=ltL a l b;rw[KL] at h;simp only[tE,tC,B] at i;have f:=l_cat1 b (a++[l]) (by rw[ap];exact d) (by rw[ap];exact g);rw[ap,nx,lw] at f;rw[midL,w64 (x:=(a.length:Int)+1) za za];refine bT (ltI a l b) ⟨⟨rfl,za,m,rfl⟩,rfl,?_⟩;show br (decide (wrap .i64 ((vj a:Int)+(((FTs l).length:Nat):Int))<0)) _<|RPt _ _ _ _ _ _ ⟨[_,(3,ci<|wrap .i64<|(vj a:Int)+(((FTs l).length:Nat):Int)),_,_,_],_,_⟩;rw[zq,w64 za za];refine bF za<|?_;exact zp f
theorem c_concat (ls:List<|List Tm)(b:vj ls<=2199023255552)(d:ls.length<=B):AC tB 34 [aLs ls] [] (aL ls.flatten) []:=by
 refine acv (v34 ..) ?_;have:=l_cat1 ls [] (zp b) (zp d);have e:(((FLs ls).length:Nat):Int)=((ls.length:Nat):Int):=by rw[Za]
 rw[e];exact⟨rfl,by simpa[vj] using this⟩
theorem X7 {x y:FV}{l m:List Tm}(u:FV.Le x<|.sl false 4<|FTs l)(v:FV.Le y<|.sl false 4<|FTs m)(r:l.length+m.length<=2199023255552):AC tB 34 [.c<|qf<|.sl false 1 [[x],[y]]] [] (aL<|l++m) []:=by
 have h:=c_concat [l,m] (by simpa[vj] using r) (by simp[B]);rw[show [l,m].flatten=l++m by simp] at h;refine h.args ⟨le_c<|.trans _ _ _ (.rows false 1 _ (FLs [l,m]) rfl (λi e p g b=>?_) λi j e p f f' g b o d=>?_)<|.nn _ _ _,trivial⟩
 .match i,g,b with
  |0,g,b=>simp[FLs] at g b;subst g;subst b;rfl
  |1,g,b=>simp[FLs] at g b;subst g;subst b;rfl
  |i+2,g,b=>simp at g
 .match i,g,b with
  |0,g,b=>
   simp[FLs] at g b;subst g;subst b
   match j,o,d with
   |0,o,d=>simp at o d;subst o;subst d;exact u
   |j+1,o,d=>simp at o
  |1,g,b=>
   simp[FLs] at g b;subst g;subst b
   match j,o,d with
   |0,o,d=>simp at o d;subst o;subst d;exact v
   |j+1,o,d=>simp at o
  |i+2,g,b=>simp at g
def zJ (f:Tm)(args:List Tm):Tm:=
 match args with
 |[]=>f
 |_=>if (f.k==6)=true/\f.l≠[] then .mk 6 [] 0 (f.l++args) else .mk 6 [] 0<|f::args
theorem w8 (f:Tm)(args:List Tm)(h:f.l.length+args.length<2199023255552):AC tB 17 [aT f,aL args] [] (aT<|zJ f args) []:=by
 obtain⟨k,s,n,l⟩:=f;simp only[Tm.l] at h;refine acv (v17 k s n (FTs l) (FTs args) _ _) ?_;refine⟨rfl,zu (λd=>?_) λd=>?_⟩
 .have:args=[]:=by cases args with
   |nil=>rfl
   |cons x l=>simp[FTs] at d;omega
  subst this;exact uw<|.refl _
 .match args,d,h with
  |[],d,_=>simp[FTs] at d
  |a::r,d,h=>
   have g:FV.Le (.sl false 4 [[.int .i64 k,.str s,.int .i64 n,.sl false 4<|FTs l]]) (.sl false 4<|FTs [.mk k s n l]):=.nn _ _ _;have b:∀l:List Tm,FV.Le (.sl false 4<|FTs l) (.sl false 4<|FTs l):=λ_=>.refl _
   refine zu (λj=>⟨rfl,zu (λi=>⟨⟨rfl,za⟩,_,X7 (b l) (b<|a::r) za,uw ?_⟩) λi=>⟨⟨rfl,za⟩,⟨rfl,za⟩,_,X7 g (b<|a::r)<|by simp only[tC,tR] at h ⊢;omega,uw ?_⟩⟩)
    (λj=>⟨⟨rfl,za⟩,⟨rfl,za⟩,_,X7 g (b<|a::r)<|by simp only[tC,tR] at h ⊢;omega,uw ?_⟩)
   .have m:l≠[]:=by intro e;subst e;simp[FTs] at i
    rw[show zJ (.mk k s n l) (a::r)=.mk 6 [] 0 (l++a::r) from tG ⟨j,m⟩];exact .refl _
   .have m:l=[]:=by cases l with
     |nil=>rfl
     |cons x l=>simp[FTs] at i
    rw[show zJ (.mk k s n l) (a::r)=.mk 6 [] 0 (.mk k s n l::a::r) from tD λe=>e.2 m];exact .refl _
   .rw[show zJ (.mk k s n l) (a::r)=.mk 6 [] 0 (.mk k s n l::a::r) from tD λe=>by have:=e.1;simp only[Tm.k,j] at this;cases this];exact .refl _
def xx (t:Tm)(out:List Tm):Tm:=
 if (t.k==6)=true/\1<out.length/\((out.headD default).k==6)=true/\((t.l.headD default).k !=6)=true then zJ (out.headD default) out.tail else .mk t.k t.s t.n out
mutual
def zG (lf:Tm->Int->Tm):Tm->Int->Tm
 |.mk k s n l,d=>if (k==5||k==6)=true then xx (.mk k s n l) (zF lf l<|d+if (k==5)=true then 1 else 0) else lf (.mk k s n l) d
def zF (lf:Tm->Int->Tm):List Tm->Int->List Tm
 |[],_=> []
 |t::l,d=>zG lf t d::zF lf l d
end
abbrev cloSh:TV:=.agg [.fn (.func 130) [] [(false,[.ep 0 1 0 0]),(false,[.ep 1 1 0 0])]]
abbrev stSh (fr by1 k by_ kd:Int)(s:List UInt8)(n:Int)(l:List Tm)(w:AV)(i:Nat)(h:AHeap)(nx:Nat):St:=
 ⟨[(2,ci k),(3,.c<|.a<|.ep 2 1 0 0),(4,.c<|.a<|.ep 3 4 0 0),(6,.c<|.a<|.ep 4 4 0 0),(7,aL l),(8,ci by_),(9,.c<|.a w),(30,aL l),(31,ci l.length),(32,ci i)],
  [(0,(obj1 fr)),(1,(obj1 by1)),(2,.arr 1 [[.fn (.func 130) [] [(false,[.ep 0 1 0 0]),(false,[.ep 1 1 0 0])]]]),(3,.arr 4 [fzs<|FT<|.mk kd s n l]),(4,.arr 4 [[qi 0,qf<|.str [],qi 0,qf .N]])]++h,nx⟩
theorem l_w2Sh (fr m:Int)(d:Tm->Int->Tm)(k by_:Int)(W:0<=k)(Z:k<=2305843009213693952)(N:0<=by_)(J:by_<=1)(kd:Int)(s:List UInt8)(n:Int)(O:(kd==5||kd==6)=true):
  ∀(b a acc:List Tm),acc≠[]->acc.length=a.length->(a++b).length<=B->(∀u∈acc++zF d b (k+by_),u.l.length<=2*B)->(∀u∈b,AC tB 129 [cloSh,aT u,ci<|k+by_] [(obj1 fr),(obj1 m)] (aT<|zG d u<|k+by_) [(obj1 fr),(obj1 m)])->
  RPt tB 129 2 (aT<|xx (.mk kd s n<|a++b)<|acc++zF d b (k+by_)) [(obj1 fr),(obj1 m)] 1 (stSh fr m k by_ kd s n (a++b) (.osl 5 4 0 acc.length) a.length [(5,.arz 4<|FTs acc)] 6)
 |[],a,acc,y,g,A,S,_=>by
  refine rpv (Zu ..) ?_
  match acc,a,y,g with
  |o::r,u::v,_,g=>
  have e1:take (o::r).length (drop 0<|FTs<|o::r)=FTs (o::r):=by rw[A3,tN<|by rw[zq];omega]
  have D:(0:Nat)+(o::r).length<=(FTs<|o::r).length:=by rw[zq];omega
  have f:∀(h:Int) (j:List UInt8) (i:Int),TV.Le (.agg [qi h,qf<|.str j,qi i,qf<|.sl false 4<|take (o::r).length<|drop 0<|FTs<|o::r]) (aT<|.mk h j i<|o::r):=λh j i=>by rw[e1];exact leT leSl
  refine bF zb<|zu (λI=>zu (λw=>⟨⟨za,zb⟩,⟨by rw[zq];simp,by cases o;rfl,rfl⟩,zu (λL=>⟨⟨rfl,za,by rw[tY];show(0:Int)<(((FTs<|u::v).length:Nat):Int);rw[zq];simp,by cases u;rfl⟩,zu (λz=>?_) λz=>⟨⟨rfl,D⟩,?_,rfl⟩⟩) λL=>⟨⟨rfl,D⟩,?_,rfl⟩⟩) λw=>⟨⟨rfl,D⟩,?_,rfl⟩) λI=>⟨⟨rfl,D⟩,?_,rfl⟩
  .
   have G:=w8 o r (by have:=S o zb;simp only[tC,tE,tR,B] at A g this ⊢;omega);have p:xx (.mk kd s n<|u::v++[]) (o::r++zF d [] (k+by_))=zJ o r:=by
    have Y:1<(o::r++zF d [] (k+by_)).length:=by have:=hU w;simp only[zF,tY];omega
    have V:(o.k==6)=true:=by cases o;exact L
    have c3:(u.k !=6)=true:=by cases u;exact z
    unfold xx;rw[tG ⟨I,Y,V,c3⟩];simp[zF]
   have T:take (Int.toNat ((o::r).length:Int)-1) (drop 1<|FTs<|o::r)=FTs r:=by rw[show Int.toNat ((o::r).length:Int)-1=r.length by simp only[tC];omega];show take r.length (FTs r)=FTs r;rw[tN<|by rw[zq];omega]
   have E:(1:Nat)+(Int.toNat ((o::r).length:Int)-1)<=(FTs<|o::r).length:=by rw[zq];simp only[tC];omega
   rw[p];refine⟨⟨za,zb⟩,⟨by rw[zq];simp,by cases o;rfl,rfl⟩,⟨za,zj,za⟩,⟨rfl,E⟩,?_⟩;rw[T];obtain⟨k1,s1,n1,l1⟩:=o;exact⟨_,G.args ⟨.refl _,le_c leSl,trivial⟩,.refl _,rfl⟩
  .have p:xx (.mk kd s n<|u::v++[]) (o::r++zF d [] (k+by_))=.mk kd s n (o::r):=by
    simp only[zF,tY]
    exact tD λe=>by
     have H:(u.k !=6)=false:=by cases u;exact z
     have:(u.k !=6)=true:=e.2.2.2;rw[H] at this;cases this
   rw[p];exact f _ _ _
  .have p:xx (.mk kd s n<|u::v++[]) (o::r++zF d [] (k+by_))=.mk kd s n (o::r):=by
    simp only[zF,tY]
    exact tD λe=>by
     have K:(o.k==6)=false:=by cases o;exact L
     have:(o.k==6)=true:=e.2.2.1;rw[K] at this;cases this
   rw[p];exact f _ _ _
  .have p:xx (.mk kd s n<|u::v++[]) (o::r++zF d [] (k+by_))=.mk kd s n (o::r):=by simp only[zF,tY];exact tD λe=>by have:=e.2.1;have:=tP w;omega
   rw[p];exact f _ _ _
  .have p:xx (.mk kd s n<|u::v++[]) (o::r++zF d [] (k+by_))=.mk kd s n (o::r):=by simp only[zF,tY];exact tD λe=>by have F:(kd==6)=false:=I;have:(kd==6)=true:=e.1;rw[F] at this;cases this
   rw[p];exact f _ _ _
 |t::b,a,acc,y,g,A,S,ih=>by
  refine rpv (Zu ..) ?_;have M:=A;simp only[tE,tC,B] at M;have w:=ih t tM
  have C:=l_w2Sh fr m d k by_ W Z N J kd s n O b (a++[t]) (acc++[zG d t<|k+by_]) zb (by simp[g]) (by rw[ap];exact A)
   (by rw[AB];simpa[zF] using S) λu z=>ih u<|tK _ z
  have U:=ltI' a t b;unfold stSh at C;rw[ap,show(((a++[t]).length:Nat):Int)=(a.length:Int)+1 from nx a t] at C;show br (decide ((a.length:Int)<(((a++t::b).length:Nat):Int))) ((FV.L 4 (.sl false 4<|FTs<|a++t::b)=true/\_/\_/\_)/\_) _;refine bT (ltI a t b)<|?_;have hm:=midI a t b;rw[show FV.ses (.sl false 4<|FTs<|a++t::b)=FTs (a++t::b) from rfl,hm,w64 (x:=(a.length:Int)+1) za za,w64 (x:=k+by_) za za];obtain⟨h,j,i,l'⟩:=t;refine⟨⟨rfl,za,U,rfl⟩,_,w,tJ _,⟨by rw[zq];omega,wT za⟩,?_⟩;have E:take acc.length (FTs acc)++FTs [zG d (.mk h j i l')<|k+by_]=FTs (acc++[zG d (.mk h j i l')<|k+by_]):=by rw[tN<|by rw[zq];omega,<-yh]
  have X:FTs [zG d (.mk h j i l')<|k+by_]=[[.int .i64 (zG d (.mk h j i l')<|k+by_).k,.str (zG d (.mk h j i l')<|k+by_).s,.int .i64 (zG d (.mk h j i l')<|k+by_).n,.sl false 4<|FTs (zG d (.mk h j i l')<|k+by_).l]]:=by rw[FTs,FTs,Zv]
  rw[X] at E;rw[E];rw[show acc++zF d (.mk h j i l'::b) (k+by_)=acc++zG d (.mk h j i l') (k+by_)::zF d b (k+by_) by simp[zF]];rw[show(acc++[zG d (.mk h j i l')<|k+by_]).length=acc.length+1 by simp,AB] at C;exact C
theorem l_w1Sh (fr f:Int)(d:Tm->Int->Tm)(k by_:Int)(C:0<=k)(E:k<=2305843009213693952)(v:0<=by_)(o:by_<=1)(kd:Int)(s:List UInt8)(n:Int)(w:(kd==5||kd==6)=true):
  ∀(b:List Tm),b.length<=B->(∀u∈zF d b (k+by_),u.l.length<=2*B)->(∀u∈b,AC tB 129 [cloSh,aT u,ci<|k+by_] [(obj1 fr),(obj1 f)] (aT<|zG d u<|k+by_) [(obj1 fr),(obj1 f)])->
  RPt tB 129 2 (aT<|xx (.mk kd s n b)<|zF d b<|k+by_) [(obj1 fr),(obj1 f)] 1 (stSh fr f k by_ kd s n b (.fz .N) 0 [] 5)
 |[],m,y,_=>by
  refine rpv (Zw ..) ?_;have e:xx (.mk kd s n []) (zF d []<|k+by_)=.mk kd s n []:=tD λe=>by have:=e.2.1;simp[zF] at this
  rw[e];exact bF zb<|zu (λ_=>⟨rfl,leT zO,rfl⟩) λ_=>⟨leT zO,rfl⟩
 |t::b,m,y,ih=>by
  refine rpv (Zw ..) ?_;have r:=m;simp only[tC,B] at r;have z:=ih t tM;have p:=l_w2Sh fr f d k by_ C E v o kd s n w b [t] [zG d t<|k+by_] zb rfl (zp m) (by simpa[zF] using y) λu F=>ih u<|tK _ F;show br (decide ((0:Int)<(((t::b).length:Nat):Int))) ((FV.L 4 (.sl false 4<|FTs<|t::b)=true/\_/\_/\_)/\_) _;refine zu (λ_=>?_) (λh=>absurd (tP h) zb);rw[show FV.ses (.sl false 4<|FTs<|t::b)=FTs (t::b) from rfl,show getD (FTs<|t::b) (Int.toNat ((0:Nat):Int)) []=FT t from rfl,w64 (x:=k+by_) za za,w64 (x:=((0:Nat):Int)+1) za za];obtain⟨g,j,i,l'⟩:=t;have A:(0:Int)<(((FTs<|.mk g j i l'::b).length:Nat):Int):=by rw[zq];simp
  refine⟨⟨rfl,za,A,rfl⟩,_,z,tJ _,wT za,?_⟩;have D:FTs [zG d (.mk g j i l')<|k+by_]=[[.int .i64 (zG d (.mk g j i l')<|k+by_).k,.str (zG d (.mk g j i l')<|k+by_).s,.int .i64 (zG d (.mk g j i l')<|k+by_).n,.sl false 4<|FTs (zG d (.mk g j i l')<|k+by_).l]]:=by rw[FTs,FTs,Zv]
  unfold stSh at p;rw[D] at p;exact p
theorem c_wSh (fr f:Int) (i:Tm->Int->Tm) (Q:Tm->Int->Prop)
  (M:∀(kd:Int) (s:List UInt8) (n:Int) (l:List Tm) (d:Int),Q (.mk kd s n l) d->(kd==5||kd==6)=true->∀u∈l,Q u<|d+if (kd==5)=true then 1 else 0)
  (p:∀(u:Tm) (d:Int),(u.k==5||u.k==6)=false->Q u d->0<=d->d<=2305843009213693952->AC tB 130 [aT u,ci d,.c<|.a<|.ep 0 1 0 0,.c<|.a<|.ep 1 1 0 0] [(obj1 fr),(obj1 f)] (aT<|i u d) [(obj1 fr),(obj1 f)])
  (r:∀(u:Tm) (d:Int),Q u d->(zG i u d).l.length<=2*B):
  ∀t:Tm,t.sz<=B->∀k:Int,Q t k->0<=k->k+t.sz<=2305843009213693952->AC tB 129 [cloSh,aT t,ci k] [(obj1 fr),(obj1 f)] (aT<|zG i t k) [(obj1 fr),(obj1 f)]:=by
 refine Tm.ind λt ih N k I G J=>?_;have w:=Tm.szs_length t.l;obtain⟨kd,s,n,l⟩:=t;simp only[Tm.sz,B,Tm.l] at N w;simp only[Tm.sz] at J;have key:∀by_:Int,0<=by_->by_<=1->(by_=if (kd==5)=true then 1 else 0)->(b:(kd==5||kd==6)=true)->RPt tB 129 2 (aT<|zG i (.mk kd s n l) k) [(obj1 fr),(obj1 f)] 1 (stSh fr f k by_ kd s n l (.fz .N) 0 [] 5):=by
  intro by_ D A y b;have o:=M kd s n l k I b;rw[<-y] at o
  have:=l_w1Sh fr f i k by_ G za D A kd s n b l (by simp only[B];omega) (λu hu=>by
   have:∀ {m:List Tm},(∀v∈m,Q v<|k+by_)->∀u∈zF i m (k+by_),u.l.length<=2*B:=by
    intro m
    induction m with
    |nil=>intro _ u hu;simp[zF] at hu
    |cons v m z=>
     intro H u hu;simp only[zF,A1] at hu;rcases hu with rfl|hu
     .exact r v _ (H v tM)
     .exact z (λx K=>H x<|tK _ K) u hu
   exact this o u hu) (λu hu=>ih u hu (by have:=Tm.szs_mem hu;simp only[B];omega) (k+by_) (o u hu) za<|by have:=Tm.szs_mem hu;omega)
  rw[zG,tG b,<-y];exact this
 refine acv (nj kd s n (FTs l) k fr f _ _) ?_;have wi:(kd==5||kd==6)=true->AC tB 142 [aT<|.mk kd s n l] [] (.tup [(false,[qf<|.sl false 4<|FTs l]),(false,[qi (if (kd==5)=true then 1 else 0)])]) []:=λb=>by have j:=ZX<|.mk kd s n l;rw[show jn (.mk kd s n l)=.sl false 4 (FTs l) from tG b] at j;exact j
 refine zu (λh=>zu (λC=>?_) λC=>?_) λh=>?_
 .have g:(kd==5)=false:=zp h;have F:(kd==6)=false:=zp C;have e:(kd==5||kd==6)=false:=by rw[g,F];rfl
  have L:=p (.mk kd s n l) k e I G za;rw[show zG i (.mk kd s n l) k=i (.mk kd s n l) k by rw[zG,tD<|by rw[e];simp]];exact⟨_,L,.refl _,rfl⟩
 .have g:(kd==5)=false:=zp h;have F:(kd==6)=true:=zp C;have b:(kd==5||kd==6)=true:=by rw[g,F];rfl
  have E:=key 0 za za (by rw[g];rfl) b;have j:=wi b;rw[g] at j;refine⟨_,_,j,rfl,?_⟩;show RPt _ _ _ _ _ _ ⟨[_,_,_,_,_,_,_,_,(31,ci (((FTs l).length:Nat):Int)),_],_,_⟩;rw[zq];exact E
 .have g:(kd==5)=true:=zp h;have b:(kd==5||kd==6)=true:=by rw[g];rfl
  have E:=key 1 za za (by rw[g];rfl) b;have j:=wi b;rw[g] at j;refine⟨_,_,j,rfl,?_⟩;show RPt _ _ _ _ _ _ ⟨[_,_,_,_,_,_,_,_,(31,ci (((FTs l).length:Nat):Int)),_],_,_⟩;rw[zq];exact E
abbrev cloSu:TV:=.agg [.fn (.func 127) [] [(false,[.ep 0 1 0 0]),(false,[.ep 1 4 0 0])]]
abbrev stSu (ix sk:Int)(ss:List UInt8)(sn:Int)(sl:List Tm)(k by_ kd:Int)(s:List UInt8)(n:Int)(l:List Tm)(w:AV)(i:Nat)(h:AHeap)(nx:Nat):St:=
 ⟨[(2,ci k),(3,.c<|.a<|.ep 2 1 0 0),(4,.c<|.a<|.ep 3 4 0 0),(6,.c<|.a<|.ep 4 4 0 0),(7,aL l),(8,ci by_),(9,.c<|.a w),(30,aL l),(31,ci l.length),(32,ci i)],
  [(0,(obj1 ix)),(1,(.arr 4 [fzs<|FT<|.mk sk ss sn sl])),(2,.arr 1 [[.fn (.func 127) [] [(false,[.ep 0 1 0 0]),(false,[.ep 1 4 0 0])]]]),(3,.arr 4 [fzs<|FT<|.mk kd s n l]),(4,.arr 4 [[qi 0,qf<|.str [],qi 0,qf .N]])]++h,nx⟩
theorem l_w2Su (y sk:Int)(z:List UInt8)(C:Int)(sl:List Tm)(d:Tm->Int->Tm)(k by_:Int)(V:0<=k)(X:k<=2305843009213693952)(T:0<=by_)(H:by_<=1)(kd:Int)(s:List UInt8)(n:Int)(O:(kd==5||kd==6)=true):
  ∀(b a acc:List Tm),acc≠[]->acc.length=a.length->(a++b).length<=B->(∀u∈acc++zF d b (k+by_),u.l.length<=2*B)->(∀u∈b,AC tB 129 [cloSu,aT u,ci<|k+by_] [(obj1 y),(.arr 4 [fzs<|FT<|.mk sk z C sl])] (aT<|zG d u<|k+by_) [(obj1 y),(.arr 4 [fzs<|FT<|.mk sk z C sl])])->
  RPt tB 129 2 (aT<|xx (.mk kd s n<|a++b)<|acc++zF d b (k+by_)) [(obj1 y),(.arr 4 [fzs<|FT<|.mk sk z C sl])] 1 (stSu y sk z C sl k by_ kd s n (a++b) (.osl 5 4 0 acc.length) a.length [(5,.arz 4<|FTs acc)] 6)
 |[],a,acc,A,g,E,S,_=>by
  refine rpv (Zq ..) ?_
  match acc,a,A,g with
  |o::r,u::p,_,g=>
  have e1:take (o::r).length (drop 0<|FTs<|o::r)=FTs (o::r):=by rw[A3,tN<|by rw[zq];omega]
  have F:(0:Nat)+(o::r).length<=(FTs<|o::r).length:=by rw[zq];omega
  have f:∀(j:Int) (h:List UInt8) (i:Int),TV.Le (.agg [qi j,qf<|.str h,qi i,qf<|.sl false 4<|take (o::r).length<|drop 0<|FTs<|o::r]) (aT<|.mk j h i<|o::r):=λj h i=>by rw[e1];exact leT leSl
  refine bF zb<|zu (λJ=>zu (λv=>⟨⟨za,zb⟩,⟨by rw[zq];simp,by cases o;rfl,rfl⟩,zu (λM=>⟨⟨rfl,za,by rw[tY];show(0:Int)<(((FTs<|u::p).length:Nat):Int);rw[zq];simp,by cases u;rfl⟩,zu (λw=>?_) λw=>⟨⟨rfl,F⟩,?_,rfl⟩⟩) λM=>⟨⟨rfl,F⟩,?_,rfl⟩⟩) λv=>⟨⟨rfl,F⟩,?_,rfl⟩) λJ=>⟨⟨rfl,F⟩,?_,rfl⟩
  .
   have K:=w8 o r (by have:=S o zb;simp only[tC,tE,tR,B] at E g this ⊢;omega);have m:xx (.mk kd s n<|u::p++[]) (o::r++zF d [] (k+by_))=zJ o r:=by
    have W:1<(o::r++zF d [] (k+by_)).length:=by have:=hU v;simp only[zF,tY];omega
    have c2:(o.k==6)=true:=by cases o;exact M
    have c3:(u.k !=6)=true:=by cases u;exact w
    unfold xx;rw[tG ⟨J,W,c2,c3⟩];simp[zF]
   have Y:take (Int.toNat ((o::r).length:Int)-1) (drop 1<|FTs<|o::r)=FTs r:=by rw[show Int.toNat ((o::r).length:Int)-1=r.length by simp only[tC];omega];show take r.length (FTs r)=FTs r;rw[tN<|by rw[zq];omega]
   have D:(1:Nat)+(Int.toNat ((o::r).length:Int)-1)<=(FTs<|o::r).length:=by rw[zq];simp only[tC];omega
   rw[m];refine⟨⟨za,zb⟩,⟨by rw[zq];simp,by cases o;rfl,rfl⟩,⟨za,zj,za⟩,⟨rfl,D⟩,?_⟩;rw[Y];obtain⟨k1,s1,n1,l1⟩:=o;exact⟨_,K.args ⟨.refl _,le_c leSl,trivial⟩,.refl _,rfl⟩
  .have m:xx (.mk kd s n<|u::p++[]) (o::r++zF d [] (k+by_))=.mk kd s n (o::r):=by
    simp only[zF,tY]
    exact tD λe=>by
     have L:(u.k !=6)=false:=by cases u;exact w
     have:(u.k !=6)=true:=e.2.2.2;rw[L] at this;cases this
   rw[m];exact f _ _ _
  .have m:xx (.mk kd s n<|u::p++[]) (o::r++zF d [] (k+by_))=.mk kd s n (o::r):=by
    simp only[zF,tY]
    exact tD λe=>by
     have U:(o.k==6)=false:=by cases o;exact M
     have:(o.k==6)=true:=e.2.2.1;rw[U] at this;cases this
   rw[m];exact f _ _ _
  .have m:xx (.mk kd s n<|u::p++[]) (o::r++zF d [] (k+by_))=.mk kd s n (o::r):=by simp only[zF,tY];exact tD λe=>by have:=e.2.1;have:=tP v;omega
   rw[m];exact f _ _ _
  .have m:xx (.mk kd s n<|u::p++[]) (o::r++zF d [] (k+by_))=.mk kd s n (o::r):=by simp only[zF,tY];exact tD λe=>by have I:(kd==6)=false:=J;have:(kd==6)=true:=e.1;rw[I] at this;cases this
   rw[m];exact f _ _ _
 |t::b,a,acc,A,g,E,S,ih=>by
  refine rpv (Zq ..) ?_;have N:=E;simp only[tE,tC,B] at N;have v:=ih t tM
  have G:=l_w2Su y sk z C sl d k by_ V X T H kd s n O b (a++[t]) (acc++[zG d t<|k+by_]) zb (by simp[g]) (by rw[ap];exact E)
   (by rw[AB];simpa[zF] using S) λu w=>ih u<|tK _ w
  have h3:=ltI' a t b;unfold stSu at G;rw[ap,show(((a++[t]).length:Nat):Int)=(a.length:Int)+1 from nx a t] at G;show br (decide ((a.length:Int)<(((a++t::b).length:Nat):Int))) ((FV.L 4 (.sl false 4<|FTs<|a++t::b)=true/\_/\_/\_)/\_) _;refine bT (ltI a t b)<|?_;have hm:=midI a t b;rw[show FV.ses (.sl false 4<|FTs<|a++t::b)=FTs (a++t::b) from rfl,hm,w64 (x:=(a.length:Int)+1) za za,w64 (x:=k+by_) za za];obtain⟨j,h,i,l'⟩:=t;refine⟨⟨rfl,za,h3,rfl⟩,_,v,tJ _,⟨by rw[zq];omega,wT za⟩,?_⟩;have D:take acc.length (FTs acc)++FTs [zG d (.mk j h i l')<|k+by_]=FTs (acc++[zG d (.mk j h i l')<|k+by_]):=by rw[tN<|by rw[zq];omega,<-yh]
  have Z:FTs [zG d (.mk j h i l')<|k+by_]=[[.int .i64 (zG d (.mk j h i l')<|k+by_).k,.str (zG d (.mk j h i l')<|k+by_).s,.int .i64 (zG d (.mk j h i l')<|k+by_).n,.sl false 4<|FTs (zG d (.mk j h i l')<|k+by_).l]]:=by rw[FTs,FTs,Zv]
  rw[Z] at D;rw[D];rw[show acc++zF d (.mk j h i l'::b) (k+by_)=acc++zG d (.mk j h i l') (k+by_)::zF d b (k+by_) by simp[zF]];rw[show(acc++[zG d (.mk j h i l')<|k+by_]).length=acc.length+1 by simp,AB] at G;exact G
theorem l_w1Su (j sk:Int)(m:List UInt8)(o:Int)(sl:List Tm)(d:Tm->Int->Tm)(k by_:Int)(D:0<=k)(F:k<=2305843009213693952)(y:0<=by_)(p:by_<=1)(kd:Int)(s:List UInt8)(n:Int)(w:(kd==5||kd==6)=true):
  ∀(b:List Tm),b.length<=B->(∀u∈zF d b (k+by_),u.l.length<=2*B)->(∀u∈b,AC tB 129 [cloSu,aT u,ci<|k+by_] [(obj1 j),(.arr 4 [fzs<|FT<|.mk sk m o sl])] (aT<|zG d u<|k+by_) [(obj1 j),(.arr 4 [fzs<|FT<|.mk sk m o sl])])->
  RPt tB 129 2 (aT<|xx (.mk kd s n b)<|zF d b<|k+by_) [(obj1 j),(.arr 4 [fzs<|FT<|.mk sk m o sl])] 1 (stSu j sk m o sl k by_ kd s n b (.fz .N) 0 [] 5)
 |[],r,A,_=>by
  refine rpv (Zs ..) ?_;have e:xx (.mk kd s n []) (zF d []<|k+by_)=.mk kd s n []:=tD λe=>by have:=e.2.1;simp[zF] at this
  rw[e];exact bF zb<|zu (λ_=>⟨rfl,leT zO,rfl⟩) λ_=>⟨leT zO,rfl⟩
 |t::b,r,A,ih=>by
  refine rpv (Zs ..) ?_;have v:=r;simp only[tC,B] at v;have C:=ih t tM;have z:=l_w2Su j sk m o sl d k by_ D F y p kd s n w b [t] [zG d t<|k+by_] zb rfl (zp r) (by simpa[zF] using A) λu E=>ih u<|tK _ E;show br (decide ((0:Int)<(((t::b).length:Nat):Int))) ((FV.L 4 (.sl false 4<|FTs<|t::b)=true/\_/\_/\_)/\_) _;refine zu (λ_=>?_) (λh=>absurd (tP h) zb);rw[show FV.ses (.sl false 4<|FTs<|t::b)=FTs (t::b) from rfl,show getD (FTs<|t::b) (Int.toNat ((0:Nat):Int)) []=FT t from rfl,w64 (x:=k+by_) za za,w64 (x:=((0:Nat):Int)+1) za za];obtain⟨i,f,g,l'⟩:=t;have H:(0:Int)<(((FTs<|.mk i f g l'::b).length:Nat):Int):=by rw[zq];simp
  refine⟨⟨rfl,za,H,rfl⟩,_,C,tJ _,wT za,?_⟩;have G:FTs [zG d (.mk i f g l')<|k+by_]=[[.int .i64 (zG d (.mk i f g l')<|k+by_).k,.str (zG d (.mk i f g l')<|k+by_).s,.int .i64 (zG d (.mk i f g l')<|k+by_).n,.sl false 4<|FTs (zG d (.mk i f g l')<|k+by_).l]]:=by rw[FTs,FTs,Zv]
  unfold stSu at z;rw[G] at z;exact z
theorem c_wSu (g sk:Int) (i:List UInt8) (p:Int) (sl:List Tm) (j:Tm->Int->Tm) (Q:Tm->Int->Prop)
  (N:∀(kd:Int) (s:List UInt8) (n:Int) (l:List Tm) (d:Int),Q (.mk kd s n l) d->(kd==5||kd==6)=true->∀u∈l,Q u<|d+if (kd==5)=true then 1 else 0)
  (w:∀(u:Tm) (d:Int),(u.k==5||u.k==6)=false->Q u d->0<=d->d<=2305843009213693952->AC tB 127 [aT u,ci d,.c<|.a<|.ep 0 1 0 0,.c<|.a<|.ep 1 4 0 0] [(obj1 g),(.arr 4 [fzs<|FT<|.mk sk i p sl])] (aT<|j u d) [(obj1 g),(.arr 4 [fzs<|FT<|.mk sk i p sl])])
  (y:∀(u:Tm) (d:Int),Q u d->(zG j u d).l.length<=2*B):
  ∀t:Tm,t.sz<=B->∀k:Int,Q t k->0<=k->k+t.sz<=2305843009213693952->AC tB 129 [cloSu,aT t,ci k] [(obj1 g),(.arr 4 [fzs<|FT<|.mk sk i p sl])] (aT<|zG j t k) [(obj1 g),(.arr 4 [fzs<|FT<|.mk sk i p sl])]:=by
 refine Tm.ind λt ih O k K I L=>?_;have z:=Tm.szs_length t.l;obtain⟨kd,s,n,l⟩:=t;simp only[Tm.sz,B,Tm.l] at O z;simp only[Tm.sz] at L;have key:∀by_:Int,0<=by_->by_<=1->(by_=if (kd==5)=true then 1 else 0)->(b:(kd==5||kd==6)=true)->RPt tB 129 2 (aT<|zG j (.mk kd s n l) k) [(obj1 g),(.arr 4 [fzs<|FT<|.mk sk i p sl])] 1 (stSu g sk i p sl k by_ kd s n l (.fz .N) 0 [] 5):=by
  intro by_ F D A b;have r:=N kd s n l k K b;rw[<-A] at r
  have:=l_w1Su g sk i p sl j k by_ I za F D kd s n b l (by simp only[B];omega) (λu hu=>by
   have:∀ {m:List Tm},(∀v∈m,Q v<|k+by_)->∀u∈zF j m (k+by_),u.l.length<=2*B:=by
    intro m
    induction m with
    |nil=>intro _ u hu;simp[zF] at hu
    |cons v m C=>
     intro J u hu;simp only[zF,A1] at hu;rcases hu with rfl|hu
     .exact y v _ (J v tM)
     .exact C (λx S=>J x<|tK _ S) u hu
   exact this r u hu) (λu hu=>ih u hu (by have:=Tm.szs_mem hu;simp only[B];omega) (k+by_) (r u hu) za<|by have:=Tm.szs_mem hu;omega)
  rw[zG,tG b,<-A];exact this
 refine acv (sw kd s n (FTs l) k g sk i p (FTs sl) _ _) ?_;have wi:(kd==5||kd==6)=true->AC tB 142 [aT<|.mk kd s n l] [] (.tup [(false,[qf<|.sl false 4<|FTs l]),(false,[qi (if (kd==5)=true then 1 else 0)])]) []:=λb=>by have o:=ZX<|.mk kd s n l;rw[show jn (.mk kd s n l)=.sl false 4 (FTs l) from tG b] at o;exact o
 refine zu (λh=>zu (λH=>?_) λH=>?_) λh=>?_
 .have f:(kd==5)=false:=zp h;have G:(kd==6)=false:=zp H;have e:(kd==5||kd==6)=false:=by rw[f,G];rfl
  have M:=w (.mk kd s n l) k e K I za;rw[show zG j (.mk kd s n l) k=j (.mk kd s n l) k by rw[zG,tD<|by rw[e];simp]];exact⟨_,M,.refl _,rfl⟩
 .have f:(kd==5)=false:=zp h;have G:(kd==6)=true:=zp H;have b:(kd==5||kd==6)=true:=by rw[f,G];rfl
  have E:=key 0 za za (by rw[f];rfl) b;have o:=wi b;rw[f] at o;refine⟨_,_,o,rfl,?_⟩;show RPt _ _ _ _ _ _ ⟨[_,_,_,_,_,_,_,_,(31,ci (((FTs l).length:Nat):Int)),_],_,_⟩;rw[zq];exact E
 .have f:(kd==5)=true:=zp h;have b:(kd==5||kd==6)=true:=by rw[f];rfl
  have E:=key 1 za za (by rw[f];rfl) b;have o:=wi b;rw[f] at o;refine⟨_,_,o,rfl,?_⟩;show RPt _ _ _ _ _ _ ⟨[_,_,_,_,_,_,_,_,(31,ci (((FTs l).length:Nat):Int)),_],_,_⟩;rw[zq];exact E
theorem xS (f:Tm)(l:List Tm):(zJ f l).sz<=1+f.sz+Tm.szs l:=by
 unfold zJ;split
 .simp only[Tm.szs];omega
 .split
  .have:=f.sz_eq;simp only[Tm.sz,Tm.szs_append,tR];omega
  .simp only[Tm.sz,Tm.szs,tR];omega
theorem bi (t:Tm)(o:List Tm):(xx t o).sz<=1+Tm.szs o:=by
 unfold xx;split
 .rename_i h
  match o,h with
  |[],h=>simp at h
  |x::r,h=>
   simp only[EI,List.tail_cons,Tm.szs] at h ⊢;have f:(x.k==6)=true:=h.2.2.1;have d:r≠[]:=by intro e;rw[e] at h;simp at h
   unfold zJ;split
   .exact absurd rfl d
   .have:=x.sz_eq;by_cases b:x.l=[]
    .rw[tD λe=>e.2 b];simp only[Tm.sz,Tm.szs,tR];omega
    .rw[tG ⟨f,b⟩];simp only[Tm.sz,Tm.szs_append,tR];omega
 .simp only[Tm.sz];omega
mutual
def nd:Tm->Nat
 |.mk _ _ _ l=>1+nds l
def nds:List Tm->Nat
 |[]=>0
 |t::l=>nd t+nds l
end
theorem nd_eq (t:Tm):nd t=1+nds t.l:=by cases t;rfl
theorem sR:∀ {l:List Tm} {t:Tm},t∈l->nd t<=nds l
 |x::l,t,h=>by
  rcases A1.1 h with rfl|h
  .simp only[nds];omega
  .have:=sR h;simp only[nds];omega
mutual
theorem WQ (lf:Tm->Int->Tm)(S:Nat)(h:∀u d,(lf u d).sz<=u.sz+S):∀(t:Tm) (d:Int),(zG lf t d).sz<=t.sz+nd t*S
 |.mk k s n l,d=>by
  rw[zG];split
  .refine AX (bi ..) ?_;have:=cN lf S h l<|d+if (k==5)=true then 1 else 0
   simp only[Tm.sz,Tm.s,nd,AG,Nat.one_mul];omega
  .refine AX (h _ _) ?_;simp only[nd,AG,Nat.one_mul];omega
theorem cN (lf:Tm->Int->Tm)(S:Nat)(h:∀u d,(lf u d).sz<=u.sz+S):∀(l:List Tm) (d:Int),Tm.szs (zF lf l d)<=Tm.szs l+nds l*S
 |[],_=>by simp[zF,Tm.szs]
 |t::l,d=>by have:=WQ lf S h t d;have:=cN lf S h l d;simp only[zF,Tm.szs,nds,AG];omega
end
theorem XX {M:Int}:∀ {a b:List Tm},bds M a->bds M b->bds M (a++b)
 |[],_,_,h=>h
 |_::_,_,h,h'=>⟨h.1,XX h.2 h'⟩
theorem jh {M:Int}:∀ {l:List Tm},(∀t∈l,bd M t)->bds M l
 |[],_=>trivial
 |t::_,h=>⟨h t tM,jh λu b=>h u<|tK _ b⟩
theorem bd6 {M:Int}{s:List UInt8}{n:Int}{l:List Tm}(h:bds M l):bd M (.mk 6 s n l):=⟨λe=>absurd e za,h⟩
theorem xB {M:Int}{f:Tm}{l:List Tm}(b:bd M f)(d:bds M l):bd M (zJ f l):=by
 unfold zJ;split
 .exact b
 .split
  .exact bd6<|XX (bd_l b) d
  .exact bd6 ⟨b,d⟩
theorem withF_bd {M:Int}{t:Tm}{o:List Tm}(d:t.k≠3)(b:bds M o):bd M (xx t o):=by
 unfold xx;split
 .rename_i h
  match o,h,b with
  |[],h,_=>simp at h
  |x::r,h,b=>exact xB b.1 b.2
 .exact⟨λe=>absurd e d,b⟩
mutual
theorem ZZ (lf:Tm->Int->Tm)(M M' D:Int)(h:∀u d,bd M u->0<=d->d<=D->bd M' (lf u d)):∀(t:Tm) (d:Int),bd M t->0<=d->d+t.sz<=D->bd M' (zG lf t d)
 |.mk k s n l,d,hb,h0,h1=>by
  rw[zG];simp only[Tm.sz] at h1;split
  .rename_i hk;refine withF_bd (λe=>?_)<|ct lf M M' D h l _ hb.2 (by split<;>omega)<|by split<;>omega
   have e:k=3:=e;rw[e] at hk;exact absurd hk zc
  .exact h _ _ hb h0 za
theorem ct (lf:Tm->Int->Tm)(M M' D:Int)(h:∀u d,bd M u->0<=d->d<=D->bd M' (lf u d)):∀(l:List Tm) (d:Int),bds M l->0<=d->d+Tm.szs l<=D->bds M' (zF lf l d)
 |[],_,_,_,_=>trivial
 |t::l,d,hb,h0,h1=>by simp only[Tm.szs] at h1;exact⟨ZZ lf M M' D h t d hb.1 h0 za,ct lf M M' D h l d hb.2 h0 za⟩
end
theorem applyF_k {f:Tm}(l:List Tm)(h:(f.k==6)=true):(zJ f l).k=6:=by
 unfold zJ;split
 .exact zp h
 .split<;>rfl
theorem withF_k (t:Tm)(o:List Tm):(xx t o).k=t.k:=by
 unfold xx;split
 .rename_i b;have e:t.k=6:=zp b.1;rw[applyF_k _ b.2.2.1];exact e.symm
 .rfl
theorem yq (b:Tm->Int->Tm)(k:Int)(s:List UInt8)(n:Int)(l:List Tm)(d:Int)(e:(k==5||k==6)=false):
  zG b (.mk k s n l) d=b (.mk k s n l) d:=by rw[zG,tD<|by rw[e];simp]
theorem vq (b:Tm->Int->Tm):∀(l:List Tm) (d:Int),(zF b l d).length=l.length
 |[],_=>rfl
 |_::l,d=>by simp only[zF,tC,vq b l d]
abbrev M61:Int:=2305843009213693952
def ye (fr by_:Int)(u:Tm)(d:Int):Tm:=if (u.k==3)=true/\d+fr<=u.n then .mk u.k u.s (u.n+by_) u.l else u
def shT (fr by_:Int)(t:Tm)(d:Int):Tm:=zG (ye fr by_) t d
theorem cI (fr by_:Int)(u:Tm)(d:Int):(ye fr by_ u d).k=u.k:=by unfold ye;split<;>rfl
theorem r9 (fr by_:Int)(u:Tm)(d:Int):(ye fr by_ u d).sz=u.sz:=by
 unfold ye;split
 .cases u;rfl
 .rfl
theorem jW (fr by_:Int)(t:Tm)(d:Int):(shT fr by_ t d).sz<=t.sz:=by have:=WQ (ye fr by_) 0 (λu d=>by rw[r9];omega) t d;rw[Nat.mul_zero] at this;exact this
theorem yQ {M M':Int}(h:M<=M'):∀t:Tm,bd M t->bd M' t:=by refine Tm.ind λt ih d=>?_;obtain⟨k,s,n,l⟩:=t;exact⟨λe=>by have:=d.1 e;omega,jh λu b=>ih u b<|yN d.2 b⟩
theorem md {fr by_ M:Int}(g:0<=by_)(u:Tm)(d:Int)(b:bd M u):bd (M+by_) (ye fr by_ u d):=by
 unfold ye;split
 .obtain⟨k,s,n,l⟩:=u;exact⟨λe=>by have:=b.1 e;simp only[Tm.n];omega,jh λu f=>yQ za u<|yN b.2 f⟩
 .exact yQ za u b
theorem aQ {fr by_ M:Int}(f:0<=by_)(t:Tm)(d:Int)(g:bd M t)(hd:0<=d):bd (M+by_) (shT fr by_ t d):=
 ZZ (ye fr by_) M (M+by_) (d+t.sz) (λu e b _ _=>md f u e b) t d g hd (tU _)
theorem sO (t:Tm)(by_:Int)(b: -9223372036854775808<=t.n+by_)(d:t.n+by_<=9223372036854775807):AC tB 128 [aT t,ci by_] [] (aT<|.mk t.k t.s (t.n+by_) t.l) []:=by obtain⟨k,s,n,l⟩:=t;refine acv (v128 k s n (FTs l) by_ _ _) ?_;rw[w64 (x:=n+by_) b d];exact rrl
theorem c_shift1 (fr by_ d:Int)(u:Tm)(j:u.k=3->0-M61<=u.n/\u.n<=M61)(g:0<=d)(m:d<=M61)(r:0<=fr)(o:fr<=M61)(p:0-1<=by_)(i:by_<=M61):
  AC tB 130 [aT u,ci d,.c<|.a<|.ep 0 1 0 0,.c<|.a<|.ep 1 1 0 0] [obj1 fr,obj1 by_] (aT<|ye fr by_ u d) [obj1 fr,obj1 by_]:=by
 obtain⟨k,s,n,l⟩:=u;simp only[M61,Tm.k,Tm.n] at*;refine acv (v130 k s n (FTs l) d fr by_ _ _) ?_;rw[w64 za za];refine zu (λh=>zu (λf=>?_) λf=>?_) λh=>?_
 .have v:k=3:=zp h;have b:d+fr<=n:=hU f;have:=j v;have e:ye fr by_ (.mk k s n l) d=.mk k s (n+by_) l:=tG ⟨h,b⟩;rw[e];exact⟨_,sO (.mk k s n l) by_ (by simp only[Tm.n];omega)<|by simp only[Tm.n];omega,.refl _,rfl⟩
 .have b:¬d+fr<=n:=tP f;have e:ye fr by_ (.mk k s n l) d=.mk k s n l:=tD λe=>b e.2;rw[e];exact rrl
 .have e:ye fr by_ (.mk k s n l) d=.mk k s n l:=tD λe=>by have:=e.1;rw[show Tm.k (.mk k s n l)=k from rfl,h] at this;cases this
  rw[e];exact rrl
theorem jE (t:Tm)(fr by_:Int)(f:t.sz<=B)(p:bd M61 t)(j:0<=fr)(g:fr<=M61)(i:0-1<=by_)(e:by_<=M61):
  AC tB 97 [aT t,ci fr,ci by_] [] (aT<|shT fr by_ t 0) []:=by
 have h:=c_wSh fr by_ (ye fr by_) (λu _=>bd M61 u/\u.sz<=B) (λw s n l d b r u o=>⟨yN b.1.2 o,by have:=Tm.szs_mem o;have:=b.2;simp only[Tm.sz] at this;omega⟩)
  (λu d r b v m=>c_shift1 fr by_ d u (by obtain⟨k,s,n,l⟩:=u;exact b.1.1) v m j g i e)
  (λu d b=>by have:=jW fr by_ u d;have m:=(shT fr by_ u d).sz_eq;have:=Tm.szs_length (shT fr by_ u d).l;have:=b.2;show(shT fr by_ u d).l.length<=_;omega)
  t f 0 ⟨p,f⟩ (tU _) (by simp only[B] at f;omega)
 obtain⟨k,s,n,l⟩:=t;refine acv (v97 k s n (FTs l) fr by_ _ _) ?_;exact⟨_,h,.refl _,rfl⟩
def xe (i:Int)(s u:Tm)(d:Int):Tm:=
 if (u.k==3)=true then(if u.n<d+i then u else if (u.n==d+i)=true then shT 0 d s 0 else .mk u.k u.s (u.n-1) u.l) else u
def suT (i:Int)(s t:Tm)(d:Int):Tm:=zG (xe i s) t d
theorem rP (i:Int)(s u:Tm)(d:Int):(xe i s u d).sz<=u.sz+s.sz:=by
 have b:=jW 0 d s 0;unfold xe;split
 .split
  .omega
  .split
   .omega
   .cases u;simp only[Tm.sz,Tm.s,Tm.l];omega
 .omega
theorem suT_sz (i:Int)(s t:Tm)(d:Int):(suT i s t d).sz<=t.sz+nd t*s.sz:=WQ _ _ (rP i s) t d
theorem suT_bd {i M M' D:Int}(s t:Tm)(d:Int)(o:bd M t)(r:bd M' s)(y:M'+D<=M)(hd:0<=d)(hD:d+t.sz<=D)(z:0<=i)(g:0<=M):bd M (suT i s t d):=by
 refine ZZ (xe i s) M M D (λu f b j x=>?_) t d o hd hD;unfold xe;split
 .split
  .exact b
  .split
   .exact yQ za _<|aQ j s 0 r<|tU _
   next h m=>obtain⟨k,w,n,l⟩:=u;have p:n≠f+i:=λe=>m (by rw[show Tm.n (.mk k w n l)=n from rfl,e];simp);have v:¬n<f+i:=h;exact⟨λe=>by have:=b.1 e;simp only[Tm.n];omega,b.2⟩
 .exact b
theorem c_subst1 (i d:Int)(s u:Tm)(r:s.sz<=B)(o:bd M61 s)(p:u.k=3->0-M61<=u.n/\u.n<=M61)(v:0<=d)(m:d<=M61)(w:0<=i)(x:i<=M61):
  AC tB 127 [aT u,ci d,.c<|.a<|.ep 0 1 0 0,.c<|.a<|.ep 1 4 0 0] [obj1 i,.arr 4 [fzs<|FT s]] (aT<|xe i s u d) [obj1 i,.arr 4 [fzs<|FT s]]:=by
 obtain⟨k,t,n,l⟩:=u;have g:=jE s 0 d r o (tU _) (by simp only[M61];omega) za m;rw[Zv];simp only[M61,Tm.k,Tm.n] at*;refine acv (v127 k t n (FTs l) d i s.k s.s s.n (FTs s.l) _ _) ?_;rw[w64 za za];refine zu (λh=>?_) λh=>zu (λf=>?_) λf=>zu (λj=>?_) λj=>?_
 .have e:xe i s (.mk k t n l) d=.mk k t n l:=tD λe=>by rw[show Tm.k (.mk k t n l)=k from rfl] at e;rw[bne,e] at h;cases h
  rw[e];exact rrl
 .have b:(k==3)=true:=by simpa[bne] using h
  have e:xe i s (.mk k t n l) d=.mk k t n l:=by rw[xe,tG (show(Tm.k (.mk k t n l)==3)=true from b),tG (show Tm.n (.mk k t n l)<d+i from hU f)]
  rw[e];exact rrl
 .have b:(k==3)=true:=by simpa[bne] using h
  have e:xe i s (.mk k t n l) d=shT 0 d s 0:=by rw[xe,tG (show(Tm.k (.mk k t n l)==3)=true from b),tD (show¬Tm.n (.mk k t n l)<d+i from tP f),tG (show(Tm.n (.mk k t n l)==d+i)=true from j)]
  rw[e];exact⟨_,g,.refl _,rfl⟩
 .have b:(k==3)=true:=by simpa[bne] using h
  have e:xe i s (.mk k t n l) d=.mk k t (n-1) l:=by rw[xe,tG (show(Tm.k (.mk k t n l)==3)=true from b),tD (show¬Tm.n (.mk k t n l)<d+i from tP f),tD<|by rw[show Tm.n (.mk k t n l)=n from rfl,j];simp];rfl
  have:=p (zp b);rw[e];exact⟨_,sO (.mk k t n l) (-1) (by simp only[Tm.n];omega)<|by simp only[Tm.n];omega,.refl _,rfl⟩
theorem dB (t s:Tm)(i:Int)(y:s.sz<=B)(C:t.sz+nd t*s.sz<=B)(x:bd M61 t)(o:bd M61 s)(m:0<=i)(p:i<=M61):
  AC tB 96 [aT t,ci i,aT s] [] (aT<|suT i s t 0) []:=by
 have g:t.sz<=B:=za;have A:=Zv s;obtain⟨sk,b,e,sl⟩:=s
 have h:=c_wSu i sk b e sl (xe i<|.mk sk b e sl) (λu _=>bd M61 u/\u.sz+nd u*(Tm.mk sk b e sl).sz<=B) (λr s n l d f z u j=>⟨yN f.1.2 j,by have v:=f.2;have:=Ar (Tm.mk sk b e sl).sz (sR j);have:=Tm.szs_mem j;rw[Tm.sz_eq<|.mk r s n l,nd_eq<|.mk r s n l,AG] at v;simp only[Tm.l,Tm.s] at v;omega⟩)
  (λu d z f D w=>c_subst1 i d (.mk sk b e sl) u y o (by obtain⟨k,s,n,l⟩:=u;exact f.1.1) D w m p)
  (λu d f=>by have:=suT_sz i (.mk sk b e sl) u d;have w:=(suT i (.mk sk b e sl) u d).sz_eq;have:=Tm.szs_length (suT i (.mk sk b e sl) u d).l;have:=f.2;show(suT i (.mk sk b e sl) u d).l.length<=_;omega)
  t g 0 ⟨x,C⟩ (tU _) (by simp only[B] at g;omega)
 obtain⟨k,s,n,l⟩:=t;refine acv (v96 k s n (FTs l) i sk b e (FTs sl) _ _) ?_;exact⟨_,h,.refl _,rfl⟩
def j7:Nat->Tm->Tm
 |0,t=>t
 |n+1,t=>j7 n<|.mk 5 [] 0 [t]
theorem nF (N:Int)(p:N<=4294967296):∀(m:Nat) (i k:Int) (s:List UInt8) (n:Int) (rows:List<|List FV) (l:List Tm),0<=i->i+m=N->FV.Le (.sl false 4 rows) (.sl false 4<|FTs l)->
  RPt tB 172 0 (aT<|j7 m<|.mk k s n l) [] 1 ⟨[(3,.c<|.a<|.ep 0 4 0 0),(4,.c<|.a<|.ep 1 4 0 0),(6,ci N),(7,ci i)],[(0,.arr 4 [[qi k,qf<|.str s,qi n,qf<|.sl false 4 rows]]),(1,.arr 4 [[qi 0,qf<|.str [],qi 0,qf .N]])],2⟩
 |0,i,k,s,n,rows,l,g,f,b=>by refine rpv (fD ..) ?_;refine bF za ⟨leT b,rfl⟩
 |m+1,i,k,s,n,rows,l,g,f,b=>by
  refine rpv (fD ..) ?_
  have o:=nF N p m (i+1) 5 [] 0 [[.int .i64 k,.str s,.int .i64 n,.sl false 4 rows]] [.mk k s n l] za za (au rfl λj r t d e=>by
   match j,d,e with
   |0,d,e=>simp only[AI,tL] at d e;subst d;subst e;exact leFT b
   |j+1,d,_=>simp at d)
  rw[w64 (x:=i+1) za za];refine zu (λ_=>⟨⟨rfl,za⟩,?_⟩) (λh=>absurd (tP h) za);exact o
theorem WR {n:Int}(h:0<=n):xH [n,0]=n:=by rw[aY];unfold maxI;split<;>omega
theorem pc (m:Nat)(t:Tm)(e:m<=4294967296):AC tB 172 [ci m,aT t] [] (aT<|j7 m t) []:=by
 obtain⟨k,s,n,l⟩:=t;refine acv (v172 m k s n (FTs l) _ _) ?_;rw[WR za];refine rpv (fD ..) ?_
 match m,e with
 |0,_=>exact bF za rrl
 |m+1,e=>
  refine zu (λ_=>⟨⟨rfl,za⟩,?_⟩) (λh=>absurd (tP h) za)
  exact nF ((m+1:Nat):Int) za m 1 5 [] 0 [[.int .i64 k,.str s,.int .i64 n,.sl false 4<|FTs l]] [.mk k s n l] za za (au rfl λj r t b d=>by
   match j,b,d with
   |0,b,d=>simp only[AI,tL] at b d;subst b;subst d;exact leFT (.refl _)
   |j+1,b,_=>simp at b)
mutual
def validB:Tm->Bool
 |.mk k s n l=>
  if (k==0)=true then(Yj s||gu s)&&n==0&&(((FTs l).length:Nat):Int)==0 else if (k==1)=true then decide (n>=1)&&s==[]&&(((FTs l).length:Nat):Int)==0&&yV l else if (k==2)=true then s==[]&&(((FTs l).length:Nat):Int)==0&&yV l else if (k==3)=true then decide (n>=0)&&decide (n<=4611686018427387904)&&s==[]&&(((FTs l).length:Nat):Int)==0&&yV l else if (k==4)=true then decide (n>=0)&&decide (n<=4611686018427387904)&&s==[]&&(((FTs l).length:Nat):Int)==0&&yV l else if (k==5)=true then n==0&&s==[]&&(((FTs l).length:Nat):Int)==1&&yV l else if (k==6)=true then n==0&&decide ((((FTs l).length:Nat):Int)>=2)&&((l.headD default).k !=6)&&s==[]&&yV l else false
def yV:List Tm->Bool
 |[]=>true
 |t::l=>validB t&&yV l
end
def dy:List Tm->Int->Int
 |[],_=> -1
 |t::l,i=>if validB t=true then dy l (i+1) else i
theorem cz:∀(l:List Tm) (i:Int),0<=i->decide (dy l i>=0)= !yV l
 |[],_,_=>rfl
 |t::l,i,h=>by
  rw[dy,yV];split;next e=>rw[cz l (i+1) za,e,AS]
  next e=>rw[show validB t=false by simpa using e];simp;omega
theorem sM:∀(b a:List Tm),(∀u∈b,AC tB 26 [aT u] [] (cb (!validB u)) [])->(a++b).length<=B->
  RPt tB 42 0 (ci<|dy b a.length) [] 1 ⟨[(0,aL<|a++b),(1,.c<|.fn (.func 26) [] []),(7,ci (((FTs<|a++b).length:Nat):Int)),(8,ci a.length)],[],0⟩
 |[],a,_,_=>by refine rpv (Wu ..) ?_;exact bF (geI' a)<|yF rfl
 |t::b,a,ih,g=>by
  refine rpv (Wu ..) ?_;have d:=g;simp only[tE,tC,B] at d;have j:=ih t tM;have e:=sM b (a++[t]) (λu i=>ih u<|tK _ i) (by rw[ap];exact g);have f:=ltI' a t b;rw[ap,nx] at e;rw[midI,w64 (x:=(a.length:Int)+1) za za];refine bT f<|?_;obtain⟨p,m,o,l'⟩:=t;refine⟨⟨rfl,za,f,rfl⟩,_,j,zu (λh=>?_) λh=>?_⟩
  .rw[dy,tD<|zp h];exact yF rfl
  .rw[dy,tG<|zp h];exact e
theorem c_contf (l:List Tm)(f:l.length<=B)(ih:∀u∈l,AC tB 7 [aT u] [] (cb<|validB u) []):AC tB 25 [aL l,.c<|.fn (.func 26) [] []] [] (cb (!yV l)) []:=by
 have d:∀u∈l,AC tB 26 [aT u] [] (cb (!validB u)) []:=λu b=>by have h:=ih u b;obtain⟨k,s,n,l⟩:=u;refine acv (v26 k s n (FTs l) _ _) ?_;exact⟨_,h,zD rfl⟩
 have e:AC tB 42 [aL l,.c<|.fn (.func 26) [] []] [] (ci<|dy l 0) []:=by refine acv (v42_F26 ..) ?_;exact⟨rfl,sM l [] d f⟩
 refine acv (v25_F26 ..) ?_;exact⟨_,e,zD<|cz l 0<|tU _⟩
theorem head0:∀ {l:List Tm},2<=(((FTs l).length:Nat):Int)->getD (FTs l) 0 []=FT (l.headD default)
 |[],h=>by simp[FTs] at h
 |t::l,_=>rfl
theorem yz:∀t:Tm,t.sz<=B->AC tB 7 [aT t] [] (cb<|validB t) []:=by
 refine Tm.ind λt ih D=>?_;have i:=Tm.szs_length t.l;obtain⟨k,s,n,l⟩:=t;simp only[Tm.sz,Tm.l] at D i;have g:=c_contf l za λu y=>ih u y (by have:=Tm.szs_mem y;omega);refine acv (v7 k s n (FTs l) _ _) ?_
 refine zu (λC=>⟨_,aH s,zu (λo=>zu (λe=>⟨rfl,zD ?_⟩) λe=>zD ?_) λo=>⟨_,th s,zu (λv=>zu (λe=>⟨rfl,zD ?_⟩) λe=>zD ?_) λv=>zD ?_⟩⟩)
  (λC=>zu (λo=>zu (λe=>zu (λj=>⟨rfl,zu (λf=>⟨_,g,zD ?_⟩) λf=>zD ?_⟩) λj=>zD ?_) λe=>zD ?_)
  (λo=>zu (λe=>zu (λj=>⟨rfl,zu (λf=>⟨_,g,zD ?_⟩) λf=>zD ?_⟩) λj=>zD ?_)
  (λe=>zu (λj=>zu (λf=>zu (λh=>zu (λd=>⟨rfl,zu (λb=>⟨_,g,zD ?_⟩) λb=>zD ?_⟩) λd=>zD ?_) λh=>zD ?_) λf=>zD ?_)
  (λj=>zu (λp=>zu (λf=>zu (λh=>zu (λd=>⟨rfl,zu (λb=>⟨_,g,zD ?_⟩) λb=>zD ?_⟩) λd=>zD ?_) λh=>zD ?_) λf=>zD ?_)
  (λp=>zu (λh=>zu (λd=>zu (λb=>⟨rfl,zu (λm=>⟨_,g,zD ?_⟩) λm=>zD ?_⟩) λb=>zD ?_) λd=>zD ?_)
  (λh=>zu (λd=>zu (λb=>⟨rfl,zu (λm=> ?app) λm=>⟨rfl,zD ?_⟩⟩) λb=>⟨rfl,zD ?_⟩) λd=>zD ?_))))))
 case app=>have r:=hU m;rw[head0 r,Zv];refine⟨⟨rfl,za,za,rfl⟩,rfl,zu (λz=>zu (λw=>⟨rfl,zu (λx=>⟨_,g,zD ?_⟩) λx=>zD ?_⟩) λw=>zD ?_) λz=>zD ?_⟩;all_goals (have A:((l.headD default).k !=6)=_:=z;simp_all[validB])
 all_goals first
  |(simp_all[validB];done)
  |(simp_all[validB];intros;omega)
mutual
theorem tq {M:Int}:∀t:Tm,near M t=true->bd M t
 |.mk k s n l,h=>by simp only[near,tF] at h;refine⟨λe=>?_,cH l h.2⟩;have:=h.1;rw[e] at this;simp at this;omega
theorem cH {M:Int}:∀l:List Tm,dA M l=true->bds M l
 |[],_=>trivial
 |t::l,h=>by simp only[dA,tF] at h;exact⟨tq t h.1,cH l h.2⟩
end
theorem c_rinner (t:Tm):AC tB 78 [aT t] [] (cb t.inner) []:=by
 obtain⟨k,s,n,l⟩:=t;refine acv (v78 k s n (FTs l) _ _) ?_;refine zu (λh=>zD ?_) λh=>zD ?_
 .unfold Tm.inner;simp only[Tm.k,h,EC]
 .unfold Tm.inner;simp only[Tm.k,h,Ec]
theorem bY (t:Tm)(k:Int)(d:0<=k)(e:k<=4611686018427387904):AC tB 79 [aT t,ci k] [] (ci<|k+t.by) []:=by
 obtain⟨b,s,n,l⟩:=t;refine acv (v79 b s n (FTs l) k _ _) ?_;rw[w64 (x:=k+1) za za];refine zu (λh=>yF ?_) λh=>yF ?_
 .unfold Tm.by;simp only[Tm.k,h,tZ]
 .unfold Tm.by;simp only[Tm.k,h,tX,A6];omega
theorem cL:∀(b a e d:List Tm),(∀u∈b,∀v:Tm,AC tB 107 [aT u,aT v] [] (cb<|xg u v) [])->(a++b).length<=B->a.length=d.length->b.length=e.length->
  RPt tB 140 0 (cb<|jC b e) [] 1 ⟨[(1,aL<|d++e),(2,.c<|.fn (.func 107) [] []),(15,aL<|a++b),(16,ci (((FTs<|a++b).length:Nat):Int)),(17,ci a.length)],[],0⟩
 |[],a,[],d,_,_,_,_=>by refine rpv (Zm ..) ?_;exact bF (geI' a)<|zD rfl
 |t::b,a,f::e,d,ih,j,i,E=>by
  refine rpv (Zm ..) ?_;have g:=j;simp only[tE,tC,B] at g;simp only[tC] at E;have F:=ih t tM f;have A:=cL b (a++[t]) e (d++[f]) (λu D=>ih u<|tK _ D) (by rw[ap];exact j) (by simp[i]) za;have w:=ltI' a t b;have r:=ltI' d f e;rw[<-i] at r;rw[ap,ap,nx] at A;rw[midI,midI' a d i,w64 (x:=(a.length:Int)+1) za za];refine bT w<|?_;obtain⟨y,m,z,l1⟩:=t;obtain⟨p,o,C,l2⟩:=f;refine⟨⟨rfl,za,w,rfl⟩,⟨rfl,za,r,rfl⟩,_,F,zu (λh=>zD ?_) λh=>?_⟩
  .rw[jC,show xg (.mk y m z l1) (.mk p o C l2)=false by simpa using h];rfl
  .rw[jC,show xg (.mk y m z l1) (.mk p o C l2)=true by simpa using h];exact A
theorem tx:∀a:Tm,a.sz<=B->∀b:Tm,AC tB 107 [aT a,aT b] [] (cb<|xg a b) []:=by
 refine Tm.ind λa ih g b=>?_;have d:=Tm.szs_length a.l;obtain⟨p,i,r,l1⟩:=a;obtain⟨m,j,y,l2⟩:=b;simp only[Tm.sz,Tm.l] at g d;have o:AC tB 140 [aL l1,aL l2,.c<|.fn (.func 107) [] []] [] (cb<|jC l1 l2) []:=by
  refine acv (se ..) ?_;refine⟨rfl,rfl,zu (λh=>zD ?_) λh=>⟨rfl,?_⟩⟩
  .rw[zq,zq] at h;exact(K5 λe=>by rw[e] at h;simp at h).symm
  .rw[zq,zq] at h
   exact cL l1 [] l2 [] (λu hu v=>ih u hu (by have:=Tm.szs_mem hu;omega) v) (by simp only[E0];omega) rfl (by have:(l1.length:Int)=l2.length:=zp h
                                                                                                             omega)
 refine acv (v107 p i r (FTs l1) m j y (FTs l2) _ _) ?_;refine zu (λh=>zu (λx=>zu (λw=>⟨_,o,zD ?_⟩) λw=>zD ?_) λx=>zD ?_) λh=>zD ?_;all_goals simp only[xg]
 all_goals simp_all
mutual
def vO:Tm->Int->Int
 |.mk kd _ n l,k=>if (kd==3)=true then maxI 0 (n-k+1) else if (kd==5||kd==6)=true then uj l (k+if (kd==5)=true then 1 else 0) else 0
def uj:List Tm->Int->Int
 |[],_=>0
 |t::l,k=>maxI (vO t k)<|uj l k
end
theorem Wr (a b c:Int):maxI (maxI a b) c=maxI a (maxI b c):=by unfold maxI;(repeat' split)<;>omega
theorem maxI0 {a:Int}(h:0<=a):maxI a 0=a:=by unfold maxI;split<;>omega
theorem maxI_ge2 (a b:Int):b<=maxI a b:=by unfold maxI;split<;>omega
theorem W8:∀(l:List Tm) (k:Int),0<=uj l k
 |[],_=>tU _
 |t::l,k=>by rw[uj];exact Int.le_trans (W8 l k)<|maxI_ge2 _ _
theorem sB (a b:Int):a<=maxI a b:=by unfold maxI;split<;>omega
mutual
theorem Ku:∀(t:Tm) (k acc:Int),0<=acc->xf t k acc=maxI acc (vO t k)
 |.mk kd _ n l,k,acc,h=>by
  simp only[xf,vO];by_cases h5:(kd==5)=true
  .have e:kd=5:=zp h5;subst e;simp[Z7 l _ acc h]
  .by_cases h6:(kd==6)=true
   .have e:kd=6:=zp h6;subst e;simp[Z7 l _ acc h]
   .have e5:(kd==5)=false:=zp h5;have e6:(kd==6)=false:=zp h6;rw[tD h5,tD h6];by_cases h3:(kd==3)=true
    .rw[tG h3,tG h3,<-Wr,maxI0 h]
    .rw[tD h3,tD h3,tD<|by rw[e5,e6];simp,maxI0 h]
theorem Z7:∀(l:List Tm) (k acc:Int),0<=acc->uu l k acc=maxI acc (uj l k)
 |[],_,acc,h=>by rw[uu,uj,maxI0 h]
 |t::l,k,acc,h=>by have h1:=Ku t k acc h;rw[uu,uj,h1,Z7 l k _<|Int.le_trans h<|sB _ _,Wr]
end
mutual
def occF:Tm->Int->Nat
 |.mk k _ n l,i=>if (k==3)=true/\(n==i)=true then 1 else occL l<|i+if (k==5)=true then 1 else 0
def occL:List Tm->Int->Nat
 |[],_=>0
 |t::l,i=>occF t i+occL l i
end
mutual
theorem iw:∀(t:Tm) (i:Int),occF t i<=t.sz
 |.mk k s n l,i=>by
  rw[occF];have:=cf l<|i+if (k==5)=true then 1 else 0
  split<;>simp only[Tm.sz]<;>omega
theorem cf:∀(l:List Tm) (i:Int),occL l i<=Tm.szs l
 |[],_=>tJ _
 |t::l,i=>by have:=iw t i;have:=cf l i;simp only[occL,Tm.szs];omega
end
theorem cA (i:Int):∀(b a:List Tm) (acc:Nat),(∀u∈b,AC tB 135 [aT u,ci i] [] (ci<|occF u i) [])->(a++b).length<=B->acc+occL b i<=2*B->
  RPt tB 135 0 (ci ((acc+occL b i:Nat):Int)) [] 3 ⟨[(1,ci i),(5,ci acc),(21,aL<|a++b),(22,ci (((FTs<|a++b).length:Nat):Int)),(23,ci a.length)],[],0⟩
 |[],a,acc,_,_,_=>by refine rpv (ov ..) ?_;exact bF (geI' a)<|yF<|by simp[occL]
 |t::b,a,acc,ih,j,r=>by have d:=j;simp only[tE,tC,B] at d;simp only[occL,B] at r;have p:=ih t tM;have h:=cA i b (a++[t]) (acc+occF t i) (λu o=>ih u<|tK _ o) (by rw[ap];exact j) (by simp only[B];omega);have f:=ltI' a t b;rw[ap,nx] at h;refine rpv (ov ..) ?_;rw[midI,w64 (x:=(a.length:Int)+1) za za];refine bT f<|?_;rw[occL,<-EA];obtain⟨m,e,g,l'⟩:=t;refine⟨⟨rfl,za,f,rfl⟩,_,p,?_⟩;rw[w64 za za,show(acc:Int)+((occF (.mk m e g l') i:Nat):Int)=((acc+occF (.mk m e g l') i:Nat):Int) by omega];exact h
theorem bS:∀t:Tm,t.sz<=B->∀i:Int,0-2305843009213693952<=i->i+t.sz<=2305843009213693952->AC tB 135 [aT t,ci i] [] (ci<|occF t i) []:=by
 refine Tm.ind λt ih r i x v=>?_;have f:=Tm.szs_length t.l;obtain⟨k,s,n,l⟩:=t;simp only[Tm.sz,Tm.l,B] at r f v;have b:∀j:Int,0-2305843009213693952<=j->j+Tm.szs l<=2305843009213693952->RPt tB 135 0 (ci<|occL l j) [] 3 ⟨[(1,ci j),(5,ci 0),(21,aL l),(22,ci (((FTs l).length:Nat):Int)),(23,ci 0)],[],0⟩:=λj g p=>by have w:=cf l j;have:=cA j l [] 0 (λu m=>ih u m (by have:=Tm.szs_mem m;simp only[B];omega) j g<|by have:=Tm.szs_mem m;omega) (by simp only[E0,B];omega) (by simp only[B];omega);rw[A4] at this;exact this
 refine acv (v135 k s n (FTs l) i _ _) ?_;have o:∀(c:¬((k==3)=true/\(n==i)=true)),occF (.mk k s n l) i=occL l (i+if (k==5)=true then 1 else 0):=λc=>by rw[occF,tD c]
 refine zu (λh=>zu (λd=>yF ?_) λd=>⟨rfl,?_⟩) λh=>zu (λd=>⟨rfl,?_⟩) λd=>⟨rfl,?_⟩
 .rw[occF,tG ⟨h,d⟩];rfl
 .have e:k=3:=zp h;rw[o λc=>by rw[c.2] at d;cases d];subst e;rw[show(i+if ((3:Int)==5)=true then 1 else 0)=i by simp];exact b i za za
 .rw[o (λc=>by rw[c.1] at h;cases h),tG d,w64 za za];exact b (i+1) za za
 .rw[o (λc=>by rw[c.1] at h;cases h),tD<|by rw[d];simp,Ef];exact b i za za
theorem Ji:(∀es:List<|List FV,es≠[]->es.length<=B->AC tB 98 [.c<|qf<|.sl false 4 es] [] (.c<|.a<|.osl 0 4 0 es.length) [.arz 4 es])/\AC tB 98 [.c<|qf<|.sl false 4 []] [] (.c<|qf<|.sl false 4 []) []:=by
 have b:AC tB 98 [.c<|qf .N] [] (.c<|qf .N) []:=by refine acv (v98 ..) ?_;exact rrl
 have e:∀es:List<|List FV,es.length<=B->AC tB 98 [.c<|qf<|.sl true 4 es] [] (.c<|.a<|.osl 0 4 0 es.length) [.arz 4 es]:=λes d=>by refine acv (v98_i1 ..) ?_;refine⟨rfl,⟨za,by rw[A4];exact wT<|by simp only[B] at d;omega⟩,?_⟩;rw[A4];exact rrl
 exact AC.clone_le b e
theorem rX (t:Tm)(b:t.sz<=B)(i:Int)(g:0-2305843009213693952<=i)(d:i+t.sz<=2305843009213693952):AC tB 188 [aT t,ci i] [] (ci (if validB t=true then(occF t i:Int) else 0)) []:=by
 have f:=yz t b;have e:=bS t b i g d;obtain⟨k,s,n,l⟩:=t;refine acv (v188 k s n (FTs l) i _ _) ?_;refine⟨_,f,zu (λh=>yF ?_) λh=>⟨_,e,yF ?_⟩⟩
 .rw[tD<|zp h]
 .rw[tG<|zp h]
abbrev aTE (t:Tm)(e:Int):TV:=.tup [(true,[qi t.k,qf<|.str t.s,qi t.n,qf<|.sl false 4<|FTs t.l]),(false,[qi e])]
abbrev noT:Tm:=.mk 0 [] 0 []
theorem leTE {k n e:Int}{s:List UInt8}{x:FV}{l:List Tm}(h:FV.Le x<|.sl false 4<|FTs l):TV.Le (.tup [(true,[qi k,qf<|.str s,qi n,qf x]),(false,[qi e])]) (aTE (.mk k s n l) e):=by
 refine .tup _ _ rfl λi p q f g=>?_
 match i,f,g with
 |0,f,g=>
  simp only[AI,tL] at f g;subst f;subst g;refine⟨rfl,rfl,λj x y b d=>?_⟩
  match j,b,d with
  |0,b,d=>simp at b d;subst b;subst d;exact .refl _
  |1,b,d=>simp at b d;subst b;subst d;exact .refl _
  |2,b,d=>simp at b d;subst b;subst d;exact .refl _
  |3,b,d=>simp at b d;subst b;subst d;exact .a _ _<|.fz _ _ h
  |j+4,b,_=>simp at b
 |1,f,g=>
  simp only[AI,EB,tL] at f g;subst f;subst g;refine⟨rfl,rfl,λj x y b d=>?_⟩
  match j,b,d with
  |0,b,d=>simp at b d;subst b;subst d;exact .refl _
  |j+1,b,_=>simp at b
 |i+2,f,_=>simp at f
def vT (body arg:Tm):Bool:= !decide ((wr body:Int)+(occF body 0:Int)*(wr arg:Int)>4096)
def conF (body arg:Tm):Tm:=if vT body arg=true then suT 0 arg body 0 else noT
def conE (body arg:Tm):Int:=if vT body arg=true then 0 else 80
end Go.AM
