/- A calculus of plain values for the model's code, what the code of each function asks (computed by the kernel), contracts of the functions, and plain laws (part 4). No conditions. -/
import Derived.Test.YtdpjhpfjmjhhkaaGreatPart3
import Derived.Test.YtdpjhpfjmjhhkaaGreatProg
import Derived.Test.YtdpjhpfjmjhhkaaGreatShelf
set_option maxRecDepth 100000
open Go Go.Proofs
namespace Go.AM
abbrev RW := List (List FV)
abbrev RT (a : TV) (b : List AObj) (r : TV) (H : List AObj) : Prop := TV.Le a r ∧ b = H
open List (getD length take drop)
open Int (toNat)
abbrev Q0 (a : FV) : WV := .a (.fz a)
abbrev Q1 (a : Int) : FV := .int .i64 a
abbrev Q2 (a : Int) : WV := Q0 (Q1 a)
abbrev Q3 (a b c d : Nat) : WV := .a (.osl a b c d)
abbrev Q4 (a : Nat) (b : RW) : FV := .sl false a b
abbrev Q5 (a : Nat) (b : WV) : Nat × TV := (a, .c b)
abbrev Q6 (a : Nat) (b : List WV) : AObj := .arr a [b]
abbrev Q7 (a : Nat) (b : RW) : WV := Q0 (Q4 a b)
abbrev Q8 (a : List UInt8) : WV := Q0 (.str a)
abbrev Q9 (a b c d : Nat) : WV := .a (.ep a b c d)
abbrev Q10 (a : Nat) (b : List TV) (c : List AObj) (d : TV) (e : List AObj) : Prop := AC Tryz.prog a b c d e
abbrev Q12 (a : Nat) (b : Int) : Nat × TV := Q5 a (Q2 b)
abbrev Q13 (a : Bool) : WV := Q0 (.bool a)
abbrev Q15 (a : Int) (b : List UInt8) (c : Int) (d : WV) : List WV := [Q2 a, Q8 b, Q2 c, d]
abbrev Q19 (a : RW) : AObj := .arz 1 a
abbrev Q20 (a : List WV) : Bool × (List WV) := (false, a)
abbrev Q22 (a : Int) (b : List UInt8) (c : Int) (d : Nat) (e : RW) : List WV := Q15 a b c (Q7 d e)
abbrev Q23 (a : RW) : AObj := .arz 6 a
abbrev Q24 (a : Int) : TV := .c (Q2 a)
abbrev Q25 (a b : Nat) (c : List WV) : Nat × AObj := (a, Q6 b c)
abbrev Q26  : WV := Q0 .nils
abbrev Q30 (a : Int) : List WV := [Q2 a]
abbrev Q31 (a : Int) : Bool × (List WV) := Q20 (Q30 a)
abbrev Q32 (a : Bool) : TV := .c (Q13 a)
abbrev Q37 (a b c d : Nat) : AObj := Q6 2 [Q3 a 6 0 b, Q3 c 1 0 d]
abbrev Q38 (a b : AObj) (c : RW) : List AObj := [a, b, Q19 c]
abbrev Q39 (a : Nat) : Nat × AObj := (a, .gone)
abbrev Q41 (a b : WV) (c : Int) (d : WV) (e : Int) (f : WV) : List WV := [a, b, Q2 c, d, Q2 e, f]
abbrev Q43 (a : Nat) (b : List TV) (c : List AObj) (d : List (Bool × (List WV))) (e : List AObj) : Prop := Q10 a b c (.tup d) e
abbrev Q44 (a : List WV) : Bool × (List WV) := (true, a)
abbrev Q46 (a : Nat) (b : RW) : Nat × AObj := (a, Q19 b)
abbrev Q47 (a : List (Bool × (List WV))) (b : List AObj) (c : TV) (d : List AObj) : Prop := RT (.tup a) b c d
abbrev Q49 (a : Int) (b : List UInt8) (c : Int) : List WV := Q15 a b c Q26
abbrev Q50 (a : Bool) (b : List AObj) (c : TV) (d : List AObj) : Prop := RT (Q32 a) b c d
abbrev Q52 (a b : Nat) (c : TV) (d : List AObj) (e : Nat) (f : List (Nat × TV)) (g : List (Nat × AObj)) (h : Nat) : Prop := RPt Tryz.prog a b c d e ⟨f, g, h⟩
abbrev Q54 (a b : Nat) (c : RW) : Nat × TV := Q5 a (Q7 b c)
abbrev Q55 (a b c d : Nat) (e : WV) (f : Int) : List WV := [Q9 a b c d, e, Q2 f]
abbrev Q57 (a b c : Nat) : Nat × TV := Q5 a (Q9 b c 0 0)
abbrev Q61 (a : Nat) (b : RW) : TV := .c (Q7 a b)
abbrev Q62 (a : Nat) (b : List TV) (c : TV) (d : List AObj) : Prop := Q10 a b [] c d
abbrev Q63 (a b c d : Nat) (e f : Int) (g : Nat) (h : RW) (i j : Int) : List WV := Q41 (Q9 a b c d) (Q2 e) f (Q7 g h) i (Q2 j)
abbrev Q64 (a : List WV) (b : Bool × (List WV)) : List (Bool × (List WV)) := [Q44 a, b]
abbrev Q65 (a : Nat) (b : List TV) (c : TV) : Prop := Q62 a b c []
abbrev Q66 (a b c d e f g h : Nat) (i : Int) : List WV := Q55 a b c d (Q3 e f g h) i
abbrev Q67 (a : Nat) (b : RW) : Nat × AObj := (a, Q23 b)
abbrev Q69 (a b c d e : Nat) : Nat × AObj := (a, Q37 b c d e)
abbrev Q70 (a : Nat) (b : List TV) (c : Bool) : Prop := Q65 a b (Q32 c)
abbrev Q71 (a b c d e f g h i : Nat) (j : Int) : AObj := Q6 a (Q66 b c d e f g h i j)
abbrev Q72 (a : TV) (b : Int) (c : TV) : List TV := [a, Q24 b, c]
abbrev Q73 (a b : Nat) (c : RW) : Nat × AObj := (a, .arz b c)
abbrev Q74 (a : Int) (b c d e f g h i : WV) : List WV := [Q2 a, b, c, d, e, f, g, h, i]
abbrev Q76 (a : Int) (b : List AObj) (c : TV) (d : List AObj) : Prop := RT (Q24 a) b c d
abbrev Q77 (a b : List WV) : List (Bool × (List WV)) := Q64 a (Q20 b)
abbrev Q78 (a b c : Nat × TV) (d : Nat) (e : Int) : List (Nat × TV) := [a, b, c, Q12 d e]
abbrev Q81 (a b : Nat) : AV := .ep a b 0 0
abbrev Q82 (a : List AObj) (b : TV) (c : List AObj) : Prop := Q50 false a b c
abbrev Q83 (a : Int) (b : List UInt8) (c : Int) (d : RW) : TV := .agg (Q22 a b c 4 d)
abbrev Q85 (a b : Nat) : TV := .c (Q9 a b 0 0)
abbrev Q86  : List WV := [Q26]
abbrev Q87 (a b : Nat) (c : Int) (d : List UInt8) (e : Int) : Nat × AObj := Q25 a b (Q49 c d e)
abbrev Q88 (a : Nat) : TV := Q85 0 a
abbrev Q89 (a b c d e : Nat) (f g : Int) (h : Nat) (i : RW) (j k : Int) : AObj := Q6 a (Q63 b c d e f g h i j k)
abbrev Q90 (a : Nat) (b : FV) : Nat × TV := Q5 a (Q0 b)
abbrev Q91 (a b : Bool × (List WV)) (c : Int) : List (Bool × (List WV)) := [a, b, Q31 c]
abbrev Q92 (a : Nat) : AV := Q81 a 1
abbrev Q95 (a b : Nat) (c : Int) (d : List UInt8) (e : Int) (f : Nat) (g : RW) : Nat × AObj := Q25 a b (Q22 c d e f g)
abbrev Q98 (a : Nat) (b c : TV) : List TV := [Q88 a, b, c]
abbrev Q101 (a : Bool × (List WV)) (b c : Int) : List (Bool × (List WV)) := Q91 a (Q31 b) c
abbrev Q102 (a : TV) (b : Int) : List TV := [a, Q24 b]
abbrev Q103 (a : Int) : AObj := Q6 1 (Q30 a)
abbrev Q105 (a b c d e : Nat) : Nat × TV := Q5 a (Q3 b c d e)
abbrev Q106 (a b : Nat) (c : Int) : Nat × AObj := Q25 a b (Q30 c)
abbrev Q107 (a : AObj) (b c d e : Nat) (f g : RW) : List AObj := [a, Q37 b c d e, Q23 f, Q19 g]
abbrev Q108 (a b : Nat × TV) (c : Nat) (d : Int) (e : Nat) (f : Int) : List (Nat × TV) := Q78 a b (Q12 c d) e f
abbrev Q109 (a : Bool) : List WV := [Q13 a]
abbrev Q110 (a : List WV) (b : Bool) : List (Bool × (List WV)) := Q77 a (Q109 b)
abbrev Q111 (a : Int) (b : AObj) : List AObj := [Q103 a, b]
abbrev Q112  : AV := Q92 0
abbrev Q113 (a b c d : Nat) (e f : RW) : List AObj := [Q37 a b c d, .gone, .gone, Q23 e, Q19 f]
abbrev Q118 (a : AObj) (b c d e : Nat) (f g : RW) (h : Nat) (i : RW) : List AObj := [a, Q37 b c d e, .gone, .gone, .gone, Q23 f, Q19 g, .arz h i]
abbrev Q121 (a : TV) (b : WV) : List TV := [a, .c b]
abbrev Q122 (a b c d : Nat) : List WV := [Q3 a b c d]
abbrev Q123 (a b c d e : Nat) : AObj := Q6 a (Q122 b c d e)
abbrev Q124 (a : Int) (b : Bool) (c : Int) (d : List UInt8) (e : Int) (f : WV) : List WV := Q41 (Q2 a) (Q13 b) c (Q8 d) e f
abbrev Q125 (a b : Nat) : Nat × TV := Q57 a b 4
abbrev Q127 (a b : Nat) (c d : RW) : List AObj := Q38 (Q37 1 a 2 b) (Q23 c) d
abbrev Q128 (a : Nat) (b : List WV) : List AObj := [Q6 a b]
abbrev Q129 (a : Nat) : List AObj := Q128 a Q86
abbrev Q130 (a : TV) (b : Int) (c : WV) : List TV := Q72 a b (.c c)
abbrev Q131 (a b : Nat × TV) (c : Nat) (d : Int) (e f : Nat × TV) (g : Nat) (h : Int) : List (Nat × TV) := [a, b, Q12 c d, e, f, Q12 g h]
abbrev Q132 (a b : Nat × TV) (c : Nat) (d : Int) (e : Nat × TV) (f : Nat) (g : Int) (h : Nat) (i : Int) : List (Nat × TV) := Q131 a b c d e (Q12 f g) h i
abbrev Q134 (a : Nat) : Nat × TV := Q5 a Q26
abbrev Q135 (a : Nat) (b : Int) (c : Nat × TV) (d : Nat) (e : Int) (f : Nat) (g : FV) (h : Nat) (i : Int) (j : Nat) (k : Int) : List (Nat × TV) := Q132 (Q12 a b) c d e (Q90 f g) h i j k
abbrev Q136 (a : AObj) (b : RW) : List AObj := [a, Q19 b]
abbrev Q137 (a b c d e : Nat) (f : RW) : List AObj := Q136 (Q123 a b c d e) f
abbrev Q138 (a : RW) : WV := Q7 4 a
abbrev Q139 (a : Int) (b : Bool) (c : Int) (d : List UInt8) (e : Int) (f : RW) : List WV := Q124 a b c d e (Q138 f)
abbrev Q140 (a : Nat) (b : TV) (c : Int) (d : WV) (e : List AObj) (f : List (Bool × (List WV))) (g : List AObj) : Prop := Q43 a (Q130 b c d) e f g
abbrev Q142 (a : Int) (b c : WV) (d : RW) (e f g : WV) (h : RW) (i : WV) : List WV := Q74 a b c (Q138 d) e f g (Q138 h) i
abbrev Q143 (a : Int) (b c : WV) (d : RW) (e f g : WV) (h i : RW) : List WV := Q142 a b c d e f g h (Q138 i)
abbrev Q144 (a : Nat) (b : RW) : Nat × TV := Q54 a 4 b
abbrev Q145 (a : List WV) (b c : Int) : List (Bool × (List WV)) := Q101 (Q44 a) b c
abbrev Q146 (a b c d : Nat) : Nat × TV := Q105 a b c 0 d
abbrev Q147 (a : List WV) (b : Int) : List (Bool × (List WV)) := Q64 a (Q31 b)
abbrev Q150 (a b c d e : Nat) (f g : Int) (h : Nat) (i : RW) (j k : Int) (l m n o : Nat) (p q : RW) : List AObj := Q107 (Q89 a b c d e f g h i j k) l m n o p q
abbrev Q151 (a b : AObj) (c : RW) (d : AObj) : List AObj := [a, b, .gone, .gone, Q23 c, d]
abbrev Q152 (a b : AObj) (c d : RW) (e : Nat) (f : RW) : List AObj := [a, b, Q23 c, Q19 d, .arz e f]
abbrev Q153 (a : RW) : TV := Q61 4 a
abbrev Q154 (a : RW) (b : WV) : List TV := Q121 (Q153 a) b
abbrev Q155 (a b : Nat) (c : TV) (d : List AObj) (e : List (Nat × TV)) (f : List (Nat × AObj)) (g : Nat) : Prop := Q52 a b c d 1 e f g
abbrev Q156 (a b c : Nat) : Nat × TV := Q146 a b 4 c
abbrev Q157 (a : Int) : List AObj := [Q103 a]
theorem hP : Tryz.prog.follows .mixedOrders = true := by kernel_rfl
def sh : FuncId → List Sh
 | 12 => [⟨Sto × Sto, fun _ => (.tup [Q20 [Q9 0 2 0 0], Q20 [Q9 3 2 0 0]]), fun x _ => [Q37 1 (length x.1.V) 2 (length x.1.T), Q23 (SR x.1.V), Q19 (IR x.1.T), Q37 4 (length x.2.V) 5 (length x.2.T), Q23 (SR x.2.V), Q19 (IR x.2.T)], false, false⟩]
 | 13 => [⟨List Tm × Int × Int, fun x => (.tup (Q101 (Q20 [Q138 (FTs x.1)]) x.2.1 x.2.2)), fun _ H => H, true, false⟩]
 | 14 => [⟨List Tm × Int × Int, fun x => (.tup (Q101 (Q20 [Q138 (FTs x.1)]) x.2.1 x.2.2)), fun _ H => H, true, false⟩]
 | 18 => [⟨(Tm × Int × Int) × Sto, fun x => (.tup (Q145 (cT x.1.1) x.1.2.1 x.1.2.2)), fun x _ => (Q113 3 (length x.2.V) 4 (length x.2.T) (SR x.2.V) (IR x.2.T)), true, false⟩]
 | 19 => [⟨Int × Bool × Tm × Bool, fun x => (.tup (Q110 (Q139 x.1 x.2.1 x.2.2.1.k x.2.2.1.s x.2.2.1.n (FTs x.2.2.1.l)) x.2.2.2)), fun _ H => H, true, false⟩]
 | 21 => [⟨Tm × Int × Int, fun x => (.tup (Q145 (cT x.1) x.2.1 x.2.2)), fun _ H => H, true, false⟩]
 | 24 => [⟨Tm, fun x => (aT x), fun _ H => H, true, false⟩]
 | 26 => [⟨Tm, fun x => (aT x), fun _ H => H, true, false⟩]
 | 30 => [⟨Sto × Sto, fun _ => (.tup [Q20 [Q9 0 2 0 0], Q20 [Q9 3 2 0 0]]), fun x _ => [Q37 1 (length x.1.V) 2 (length x.1.T), Q23 (SR x.1.V), Q19 (IR x.1.T), Q37 4 (length x.2.V) 5 (length x.2.T), Q23 (SR x.2.V), Q19 (IR x.2.T)], false, false⟩]
 | 32 => [⟨(Int × Int) × Sto, fun x => (.tup [Q31 x.1.1, Q31 x.1.2]), fun x _ => (Q113 3 (length x.2.V) 4 (length x.2.T) (SR x.2.V) (IR x.2.T)), true, false⟩]
 | 34 => [⟨Unit, fun _ => (Q88 2), fun _ _ => (Q127 0 0 [] []), false, false⟩]
 | 35 => [⟨Int × Sto, fun x => (Q24 x.1), fun x _ => (Q113 3 (length x.2.V) 4 (length x.2.T) (SR x.2.V) (IR x.2.T)), false, false⟩]
 | 36 => [⟨(Int × Int) × Sto, fun x => (.tup [Q31 x.1.1, Q31 x.1.2]), fun x _ => (Q113 3 (length x.2.V) 4 (length x.2.T) (SR x.2.V) (IR x.2.T)), true, false⟩]
 | 45 => [⟨Tm, fun x => (aT x), fun _ H => H, true, false⟩]
 | 46 => [⟨Int × Sto, fun x => (Q24 x.1), fun x _ => (Q113 3 (length x.2.V) 4 (length x.2.T) (SR x.2.V) (IR x.2.T)), false, false⟩]
 | 47 => [⟨Int × Sto, fun x => (Q24 x.1), fun x _ => (Q113 3 (length x.2.V) 4 (length x.2.T) (SR x.2.V) (IR x.2.T)), false, false⟩]
 | 48 => [⟨Int × Sto, fun x => (Q24 x.1), fun x _ => (Q113 3 (length x.2.V) 4 (length x.2.T) (SR x.2.V) (IR x.2.T)), false, false⟩]
 | 49 => [⟨Bool, fun x => (Q32 x), fun _ H => H, true, true⟩]
 | 51 => [⟨Tm × Bool, fun x => (.tup (Q110 (cT x.1) x.2)), fun _ H => H, true, false⟩]
 | 55 => [⟨Tm × Int × Int, fun x => (.tup (Q145 (cT x.1) x.2.1 x.2.2)), fun _ H => H, true, false⟩]
 | 56 => [⟨Tm × Bool, fun x => (.tup (Q110 (cT x.1) x.2)), fun _ H => H, true, false⟩]
 | 58 => [⟨Int, fun _ => (.tup []), fun x _ => (Q157 x), false, false⟩, ⟨Unit, fun _ => (.tup []), fun _ _ => (Q129 1), false, false⟩, ⟨Nat × RW, fun _ => (.tup []), fun x _ => (Q137 1 1 1 0 x.1 x.2), false, false⟩, ⟨Nat × RW, fun _ => (.tup []), fun x _ => (Q38 (Q123 1 2 1 0 x.1) .gone x.2), false, false⟩]
 | 59 => [⟨Unit, fun _ => (.tup []), fun _ _ => (Q129 1), false, false⟩, ⟨Nat × RW, fun _ => (.tup []), fun x _ => (Q137 1 1 1 0 x.1 x.2), false, false⟩, ⟨Nat × RW, fun _ => (.tup []), fun x _ => (Q38 (Q123 1 2 1 0 x.1) .gone x.2), false, false⟩]
 | 63 => [⟨Tm × Sto × Int × Int × List Tm × Int × Int, fun x => (aT x.1), fun x _ => (Q151 (Q89 6 1 2 0 0 x.2.2.1 x.2.2.2.1 4 (FTs x.2.2.2.2.1) x.2.2.2.2.2.1 x.2.2.2.2.2.2) (Q37 4 (length x.2.1.V) 5 (length x.2.1.T)) (SR x.2.1.V) (Q19 (IR x.2.1.T))), true, false⟩]
 | 67 => [⟨Tm × Int × Int, fun x => (.tup (Q145 (cT x.1) x.2.1 x.2.2)), fun _ H => H, true, false⟩]
 | 68 => [⟨Tm × Int × Int, fun x => (.tup (Q147 (cT x.1) x.2.1)), fun x H => List.set H 3 (Q103 x.2.2), true, false⟩]
 | 69 => [⟨Int, fun _ => (.tup []), fun x _ => (Q157 x), false, false⟩]
 | 70 => [⟨List Tm, fun x => (Q153 (FTs x)), fun _ H => H, true, false⟩]
 | 71 => [⟨Tm, fun x => (aT x), fun _ H => H, true, false⟩]
 | 72 => [⟨Sto, fun _ => (.tup []), fun x _ => (Q113 3 (length x.V) 4 (length x.T) (SR x.V) (IR x.T)), false, false⟩]
 | 75 => [⟨RW, fun _ => (.c (.fn (.func 108) [] [(false, [Q112])])), fun x _ => (Q128 1 [Q7 8 x]), true, false⟩]
 | 76 => [⟨Int × Sto × Nat × RW × Int, fun x => (Q24 x.1), fun x H => bif Nat.beq H.length 5 then (Q118 (Q71 3 1 2 0 0 7 8 0 x.2.2.1 x.2.2.2.2) 5 (length x.2.1.V) 6 (length x.2.1.T) (SR x.2.1.V) (IR x.2.1.T) 8 x.2.2.2.1) else (Q151 (Q6 3 (Q55 1 2 0 0 Q26 x.2.2.2.2)) (Q37 4 (length x.2.1.V) 5 (length x.2.1.T)) (SR x.2.1.V) (Q19 (IR x.2.1.T))), true, false⟩]
 | 77 => [⟨List Int, fun x => (Q61 1 (IR x)), fun _ H => H, true, false⟩]
 | 78 => [⟨List MapZ, fun _ => (Q88 1), fun x _ => [Q6 1 [.a (.mp 1)], .mapz x], true, false⟩]
 | 79 => [⟨List Int, fun x => (Q61 1 (IR x)), fun _ H => H, true, false⟩]
 | 83 => [⟨Int, fun x => (Q24 x), fun _ H => H, true, true⟩]
 | 86 => [⟨Tm × Int × Int, fun x => (.tup (Q145 (cT x.1) x.2.1 x.2.2)), fun _ H => H, true, false⟩]
 | 87 => [⟨Tm, fun x => (aT x), fun _ H => H, true, false⟩]
 | 90 => [⟨Int × Int × List Tm × Int × Int, fun _ => (Q83 0 [] 0 []), fun x H => List.set H 0 (Q89 6 1 2 0 0 x.1 x.2.1 4 (FTs x.2.2.1) x.2.2.2.1 x.2.2.2.2), true, false⟩]
 | 91 => [⟨Tm × Int × Int, fun x => (.tup (Q145 (cT x.1) x.2.1 x.2.2)), fun _ H => H, true, false⟩]
 | 92 => [⟨Tm, fun x => (.tup (Q77 (cT x) Q86)), fun _ _ => [], false, false⟩, ⟨Tm × List Tm, fun x => (.tup (Q77 (cT x.1) (Q122 0 4 0 (length x.2)))), fun x _ => [.arz 4 (FTs x.2)], false, false⟩]
 | 93 => [⟨Tm × Sto × Int × Int × List Tm × Int × Int, fun x => (aT x.1), fun x _ => (Q151 (Q89 6 1 2 0 0 x.2.2.1 x.2.2.2.1 4 (FTs x.2.2.2.2.1) x.2.2.2.2.2.1 x.2.2.2.2.2.2) (Q37 4 (length x.2.1.V) 5 (length x.2.1.T)) (SR x.2.1.V) (Q19 (IR x.2.1.T))), true, false⟩]
 | 94 => [⟨Tm × Bool, fun x => (.tup (Q110 (cT x.1) x.2)), fun _ H => H, true, false⟩]
 | 101 => [⟨Tm × Int × Int, fun x => (.tup (Q147 (cT x.1) x.2.1)), fun x H => List.set H 3 (Q103 x.2.2), true, false⟩]
 | 102 => [⟨Bool, fun x => (.c (Q0 (.sl x 4 []))), fun _ _ => [], false, false⟩, ⟨RW, fun x => (.c (Q3 0 4 0 (length x))), fun x _ => [.arz 4 x], false, false⟩]
 | 103 => [⟨Unit, fun _ => (.c Q26), fun _ _ => [], false, false⟩, ⟨Unit, fun _ => (.c (Q3 0 4 0 0)), fun _ _ => [.arz 4 []], false, false⟩]
 | 104 => [⟨Tm × Bool, fun x => (.tup (Q110 (cT x.1) x.2)), fun _ H => H, true, false⟩]
 | 105 => [⟨Nat, fun x => (.c (Q3 0 1 0 x)), fun _ H => H, false, true⟩]
 | 109 => [⟨Int × Sto × Nat × RW × Int, fun x => (Q24 x.1), fun x _ => (Q118 (Q71 3 1 2 0 0 7 8 0 x.2.2.1 x.2.2.2.2) 5 (length x.2.1.V) 6 (length x.2.1.T) (SR x.2.1.V) (IR x.2.1.T) 8 x.2.2.2.1), true, false⟩]
 | 111 => [⟨List Int, fun x => (Q61 1 (IR x)), fun _ H => H, true, false⟩]
 | 117 => [⟨Tm × Int × Int, fun x => (.tup (Q145 (cT x.1) x.2.1 x.2.2)), fun _ H => H, true, false⟩]
 | 118 => [⟨Tm, fun x => (aT x), fun _ H => H, true, false⟩]
 | 120 => [⟨Tm, fun x => (aT x), fun _ H => H, true, false⟩]
 | 121 => [⟨Tm, fun x => (aT x), fun _ H => H, true, false⟩]
 | 122 => [⟨Tm, fun x => (aT x), fun _ H => H, true, false⟩]
 | 123 => [⟨Tm × Sto, fun x => (aT x.1), fun x _ => (Q113 3 (length x.2.V) 4 (length x.2.T) (SR x.2.V) (IR x.2.T)), true, false⟩]
 | 129 => [⟨Tm × Bool × Int, fun x => (.tup (Q91 (Q44 (cT x.1)) (Q20 (Q109 x.2.1)) x.2.2)), fun _ H => H, true, false⟩]
 | 131 => [⟨Tm, fun x => (aT x), fun _ H => H, true, false⟩]
 | 132 => [⟨Int, fun x => (Q24 x), fun _ H => H, true, true⟩]
 | 133 => [⟨Tm × Tm × List Tm × Int × Nat × Int, fun x => (.tup (Q147 (Q143 x.1.k (Q8 x.1.s) (Q2 x.1.n) (FTs x.1.l) (Q2 x.2.1.k) (Q8 x.2.1.s) (Q2 x.2.1.n) (FTs x.2.1.l) (FTs x.2.2.1)) x.2.2.2.1)), fun x H => List.set H 0 (Q71 3 1 2 0 0 4 8 0 x.2.2.2.2.1 x.2.2.2.2.2), true, false⟩]
 | 134 => [⟨Sto × Nat × RW × Int, fun _ => (.tup []), fun x _ => (Q118 (Q71 3 1 2 0 0 7 8 0 x.2.1 x.2.2.2) 5 (length x.1.V) 6 (length x.1.T) (SR x.1.V) (IR x.1.T) 8 x.2.2.1), true, false⟩]
 | 135 => [⟨Tm, fun x => (aT x), fun _ H => H, true, false⟩]
 | 137 => [⟨Int × Sto × Nat × RW × Int, fun x => (Q24 x.1), fun x _ => (Q118 (Q71 3 1 2 0 0 7 8 0 x.2.2.1 x.2.2.2.2) 5 (length x.2.1.V) 6 (length x.2.1.T) (SR x.2.1.V) (IR x.2.1.T) 8 x.2.2.2.1), true, false⟩]
 | 138 => [⟨Int × Sto × Nat × RW × Int, fun x => (Q24 x.1), fun x _ => (Q118 (Q71 3 1 2 0 0 7 8 0 x.2.2.1 x.2.2.2.2) 5 (length x.2.1.V) 6 (length x.2.1.T) (SR x.2.1.V) (IR x.2.1.T) 8 x.2.2.2.1), true, false⟩]
 | 141 => [⟨Tm × Int, fun x => (.tup (Q147 (cT x.1) x.2)), fun _ H => H, true, false⟩]
 | 143 => [⟨Tm, fun x => (aT x), fun _ H => H, true, false⟩]
 | 146 => [⟨Tm × Bool, fun x => (.tup (Q110 (cT x.1) x.2)), fun _ H => H, true, false⟩]
 | 147 => [⟨Tm × Int, fun x => (.tup (Q147 (cT x.1) x.2)), fun _ H => H, true, false⟩]
 | 149 => [⟨Tm, fun x => (aT x), fun _ H => H, true, false⟩]
 | 150 => [⟨Tm, fun x => (aT x), fun _ H => H, true, false⟩]
 | 151 => [⟨Tm, fun x => (aT x), fun _ H => H, true, false⟩]
 | 152 => [⟨List Tm, fun _ => (.c (.fn (.func 167) [] [(false, [Q112])])), fun x _ => (Q128 1 [Q138 (FTs x)]), true, false⟩]
 | 153 => [⟨List Tm × Int × Nat × Int, fun x => (.tup [Q20 [Q138 (FTs x.1)], Q31 x.2.1]), fun x H => List.set H 0 (Q71 3 1 2 0 0 4 8 0 x.2.2.1 x.2.2.2), true, false⟩]
 | 155 => [⟨Int × Sto, fun x => (Q24 x.1), fun x _ => (Q113 3 (length x.2.V) 4 (length x.2.T) (SR x.2.V) (IR x.2.T)), true, false⟩]
 | 156 => [⟨Int × Sto × Nat × RW × Int, fun x => (Q24 x.1), fun x _ => (Q118 (Q71 3 1 2 0 0 7 8 0 x.2.2.1 x.2.2.2.2) 5 (length x.2.1.V) 6 (length x.2.1.T) (SR x.2.1.V) (IR x.2.1.T) 8 x.2.2.2.1), true, false⟩]
 | 159 => [⟨Tm × Bool, fun x => (.tup (Q110 (cT x.1) x.2)), fun _ H => H, true, false⟩]
 | 160 => [⟨Tm, fun x => (aT x), fun _ H => H, true, false⟩]
 | 165 => [⟨Tm × Int, fun x => (.tup (Q147 (cT x.1) x.2)), fun _ H => H, true, false⟩]
 | 170 => [⟨Tm, fun x => (aT x), fun _ H => H, true, false⟩]
 | 173 => [⟨Tm, fun x => (aT x), fun _ H => H, true, false⟩]
 | 175 => [⟨Tm, fun x => (aT x), fun _ H => H, true, false⟩]
 | 176 => [⟨Tm, fun x => (aT x), fun _ H => H, true, false⟩]
 | _ => []
abbrev VQ (l : List (Nat × List Nat)) (f m : Nat) (r : TV) (H : List AObj) (p : Nat) (s : St) : Prop := vcP Tryz.prog sh l f m (fun r0 Hs0 => TV.Le r0 r ∧ Hs0 = H) (RPt Tryz.prog f m r H) p s
abbrev VE (l : List (Nat × List Nat)) (f m : Nat) (r : TV) (H : List AObj) (a : List TV) (h : List AObj) : Prop := vcE Tryz.prog sh l f a h (fun r0 Hs0 => TV.Le r0 r ∧ Hs0 = H) (RPt Tryz.prog f m r H)
def lv7 : List (Nat × List Nat) := [(1, [0, 1, 2, 3, 9, 13, 14]), (5, [1, 2, 3, 9, 13, 17]), (9, [9, 13, 18])]
theorem v7 (v a b : RW) (fuel : Int) (r : TV) (Hs' : List AObj) : VE lv7 7 0 r Hs' [Q61 6 v, Q153 a, Q153 b, Q24 fuel] [] =
  (∃ b1 : Bool, ((Q70 27 [] b1) ∧ (br (!b1) (Q82 [] r Hs') (∃ b2 : Bool, ((Q70 28 [Q61 6 v] b2) ∧ (∃ b3 : Bool, ((Q70 29 [Q153 a] b3) ∧ (∃ b4 : Bool, ((Q70 29 [Q153 b] b4) ∧ (br b2 (Q50 b1 [] r Hs') (br b3 (Q50 b1 [] r Hs') (br b4 (Q50 b1 [] r Hs') ((FV.isSl 4 (Q4 4 a) = true) ∧ ((FV.isSl 4 (Q4 4 b) = true) ∧ (br (((length a : Int) : Int) != (length b : Int)) (Q50 b1 [] r Hs') (br (decide ((fuel : Int) > (150 : Int))) (Q50 b1 [] r Hs') (∃ _ : Unit, ((Q62 34 [] (Q88 2) (Q127 0 0 [] [])) ∧ (Q155 7 0 r Hs' [Q54 0 6 v, Q144 1 a, Q144 2 b, Q12 3 fuel, Q5 9 (Q13 b1), Q57 13 0 2, Q12 14 0] [Q69 0 1 0 2 0, Q67 1 [], Q46 2 []] 3))))))))))))))))))) := by kernel_rfl
theorem v7_1a (x0 x1 x2 : RW) (x3 : Int) (x9 : Bool) (x14 : Int) (h0_0l h0_1l : Nat) (h1 h2 : RW) (r : TV) (Hs' : List AObj) : VQ lv7 7 0 r Hs' 1 ⟨[Q54 0 6 x0, Q144 1 x1, Q144 2 x2, Q12 3 x3, Q5 9 (Q13 x9), Q57 13 0 2, Q12 14 x14], [Q69 0 1 h0_0l 2 h0_1l, Q67 1 h1, Q46 2 h2], 3⟩ =
  ((FV.isSl 6 (Q4 6 x0) = true) ∧ (br (decide ((x14 : Int) < (length x0 : Int))) (((FV.isSl 6 (Q4 6 x0) = true) ∧ ((0 ≤ x14) ∧ ((x14 < (length x0 : Int)) ∧ (([(Q1 (FV.asI (getD (getD x0 (toNat x14) []) 0 FV.nils))), (.bool (FV.asB (getD (getD x0 (toNat x14) []) 1 FV.nils))), (Q1 (FV.asI (getD (getD x0 (toNat x14) []) 2 FV.nils))), (.str (FV.asS (getD (getD x0 (toNat x14) []) 3 FV.nils))), (Q1 (FV.asI (getD (getD x0 (toNat x14) []) 4 FV.nils))), (getD (getD x0 (toNat x14) []) 5 FV.nils)] : List FV) = (getD x0 (toNat x14) []))))) ∧ (∃ z1 : Int × Sto, ((Q10 35 (Q102 (Q88 2) (FV.asI (getD (getD x0 (toNat x14) []) 0 FV.nils))) (Q127 h0_0l h0_1l h1 h2) (Q24 z1.1) (Q113 3 (length z1.2.V) 4 (length z1.2.T) (SR z1.2.V) (IR z1.2.T))) ∧ (Q155 7 0 r Hs' [Q54 0 6 x0, Q144 1 x1, Q144 2 x2, Q12 3 x3, Q5 9 (Q13 x9), Q57 13 0 2, Q12 14 (IntKind.wrap .i64 (x14 + 1))] [Q69 0 1 (length z1.2.V) 2 (length z1.2.T), Q67 1 (SR z1.2.V), Q46 2 (IR z1.2.T)] 3)))) ((FV.isSl 6 (Q4 6 x0) = true) ∧ (∃ b2 : Bool, ((Q70 37 (Q102 (Q153 x1) (length x0 : Int)) b2) ∧ ((FV.isSl 6 (Q4 6 x0) = true) ∧ (∃ b3 : Bool, ((Q70 37 (Q102 (Q153 x2) (length x0 : Int)) b3) ∧ (br (!b2) (Q50 x9 [] r Hs') (br (!b3) (Q50 x9 [] r Hs') (Q52 7 0 r Hs' 5 (Q131 (Q144 1 x1) (Q144 2 x2) 3 x3 (Q5 9 (Q13 x9)) (Q57 13 0 2) 17 0) [Q69 0 1 h0_0l 2 h0_1l, Q67 1 h1, Q46 2 h2] 3))))))))))) := by kernel_rfl
theorem v7_5a (x1 x2 : RW) (x3 : Int) (x9 : Bool) (x17 : Int) (h0_0l h0_1l : Nat) (h1 h2 : RW) (r : TV) (Hs' : List AObj) : VQ lv7 7 0 r Hs' 5 ⟨Q131 (Q144 1 x1) (Q144 2 x2) 3 x3 (Q5 9 (Q13 x9)) (Q57 13 0 2) 17 x17, [Q69 0 1 h0_0l 2 h0_1l, Q67 1 h1, Q46 2 h2], 3⟩ =
  ((FV.isSl 4 (Q4 4 x1) = true) ∧ (br (decide ((x17 : Int) < (length x1 : Int))) (((FV.isSl 4 (Q4 4 x1) = true) ∧ ((0 ≤ x17) ∧ ((x17 < (length x1 : Int)) ∧ (((rE (getD x1 (toNat x17) [])) : List FV) = (getD x1 (toNat x17) []))))) ∧ (((FV.isSl 4 (Q4 4 x2) = true) ∧ ((0 ≤ x17) ∧ ((x17 < (length x2 : Int)) ∧ (((rE (getD x2 (toNat x17) [])) : List FV) = (getD x2 (toNat x17) []))))) ∧ (∃ z1 : (Int × Int) × Sto, ((Q43 32 [Q88 2, (aE (getD x1 (toNat x17) [])), (aE (getD x2 (toNat x17) [])), Q24 x3] (Q127 h0_0l h0_1l h1 h2) [Q31 z1.1.1, Q31 z1.1.2] (Q113 3 (length z1.2.V) 4 (length z1.2.T) (SR z1.2.V) (IR z1.2.T))) ∧ (Q52 7 0 r Hs' 5 (Q131 (Q144 1 x1) (Q144 2 x2) 3 x3 (Q5 9 (Q13 x9)) (Q57 13 0 2) 17 (IntKind.wrap .i64 (x17 + 1))) [Q69 0 1 (length z1.2.V) 2 (length z1.2.T), Q67 1 (SR z1.2.V), Q46 2 (IR z1.2.T)] 3))))) (Q52 7 0 r Hs' 9 [Q5 9 (Q13 x9), Q57 13 0 2, Q12 18 0] [Q69 0 1 h0_0l 2 h0_1l, Q67 1 h1, Q46 2 h2] 3))) := by kernel_rfl
theorem v7_9a (x9 : Bool) (x18 : Int) (h0_0l h0_1l : Nat) (h1 h2 : RW) (r : TV) (Hs' : List AObj) : VQ lv7 7 0 r Hs' 9 ⟨[Q5 9 (Q13 x9), Q57 13 0 2, Q12 18 x18], [Q69 0 1 h0_0l 2 h0_1l, Q67 1 h1, Q46 2 h2], 3⟩ =
  (∃ n1 : Int, ((Q10 38 [Q88 2] (Q127 h0_0l h0_1l h1 h2) (Q24 n1) (Q127 h0_0l h0_1l h1 h2)) ∧ (br (decide ((x18 : Int) < n1)) (∃ z2 : Int × Bool × Tm × Bool, ((Q43 19 (Q102 (Q88 2) x18) (Q127 h0_0l h0_1l h1 h2) (Q110 (Q139 z2.1 z2.2.1 z2.2.2.1.k z2.2.2.1.s z2.2.2.1.n (FTs z2.2.2.1.l)) z2.2.2.2) (Q127 h0_0l h0_1l h1 h2)) ∧ (∃ z3 : Tm × Int × Int, ((Q43 21 (Q98 2 (.agg (Q49 4 [] x18)) (Q24 2000)) (Q127 h0_0l h0_1l h1 h2) (Q145 (cT z3.1) z3.2.1 z3.2.2) (Q127 h0_0l h0_1l h1 h2)) ∧ (br (!z2.2.2.2) (Q82 [] r Hs') (br ((z3.2.2 : Int) != (0 : Int)) (Q52 7 0 r Hs' 9 [Q5 9 (Q13 x9), Q57 13 0 2, Q12 18 (IntKind.wrap .i64 (x18 + 1))] [Q69 0 1 h0_0l 2 h0_1l, Q67 1 h1, Q46 2 h2] 3) (∃ b4 : Bool, ((Q10 39 (Q98 2 (aT z3.1) (Q24 z2.1)) (Q127 h0_0l h0_1l h1 h2) (Q32 b4) (Q127 h0_0l h0_1l h1 h2)) ∧ (br (!b4) (Q82 [] r Hs') (∃ n5 : Int, ((Q65 22 [(aT z3.1)] (Q24 n5)) ∧ (br ((n5 : Int) != (0 : Int)) (Q82 [] r Hs') (Q52 7 0 r Hs' 9 [Q5 9 (Q13 x9), Q57 13 0 2, Q12 18 (IntKind.wrap .i64 (x18 + 1))] [Q69 0 1 h0_0l 2 h0_1l, Q67 1 h1, Q46 2 h2] 3))))))))))))) (Q50 x9 [] r Hs')))) := by kernel_rfl
def lv27 : List (Nat × List Nat) := []
theorem v27  (r : TV) (Hs' : List AObj) : VE lv27 27 0 r Hs' [] [] =
  (∃ _ : Unit, ((Q62 34 [] (Q88 2) (Q127 0 0 [] [])) ∧ (∃ z2 : Int × Sto, ((Q10 35 (Q102 (Q88 2) 0) (Q127 0 0 [] []) (Q24 z2.1) (Q113 3 (length z2.2.V) 4 (length z2.2.T) (SR z2.2.V) (IR z2.2.T))) ∧ (∃ n3 : Int, (∃ n4 : Int, ((Q10 31 [Q88 2] (Q127 (length z2.2.V) (length z2.2.T) (SR z2.2.V) (IR z2.2.T)) (.agg [Q2 n3, Q2 n4]) (Q127 (length z2.2.V) (length z2.2.T) (SR z2.2.V) (IR z2.2.T))) ∧ (((4 : Nat) = 4 ∧ 1 ≤ 1) ∧ (∃ z5 : Tm, ((Q65 24 [.agg (Q49 0 [102] 0), Q153 [[(Q1 4), (.str []), (Q1 z2.1), .nils]]] (aT z5)) ∧ (((4 : Nat) = 4 ∧ 1 ≤ 1) ∧ (∃ z6 : Tm, ((Q65 24 [.agg (Q49 0 [102] 0), Q153 [[(Q1 0), (.str [97]), (Q1 0), .nils]]] (aT z6)) ∧ (((4 : Nat) = 4 ∧ 1 ≤ 1) ∧ (∃ z7 : Tm, ((Q65 24 [.agg (Q49 0 [102] 0), Q153 [(FT4 z6)]] (aT z7)) ∧ (∃ z8 : (Int × Int) × Sto, ((Q43 32 [Q88 2, (aT z5), (aT z7), Q24 20] (Q127 (length z2.2.V) (length z2.2.T) (SR z2.2.V) (IR z2.2.T)) [Q31 z8.1.1, Q31 z8.1.2] (Q113 3 (length z8.2.V) 4 (length z8.2.T) (SR z8.2.V) (IR z8.2.T))) ∧ (∃ z9 : Tm × Int × Int, ((Q43 21 (Q98 2 (.agg (Q49 4 [] z2.1)) (Q24 9)) (Q127 (length z8.2.V) (length z8.2.T) (SR z8.2.V) (IR z8.2.T)) (Q145 (cT z9.1) z9.2.1 z9.2.2) (Q127 (length z8.2.V) (length z8.2.T) (SR z8.2.V) (IR z8.2.T))) ∧ (((4 : Nat) = 4 ∧ 1 ≤ 1) ∧ (∃ z10 : Tm, ((Q65 24 [.agg (Q49 0 [102] 0), Q153 [[(Q1 0), (.str [97]), (Q1 0), .nils]]] (aT z10)) ∧ (∃ b11 : Bool, ((Q70 25 [(aT z9.1), (aT z10)] b11) ∧ (∃ z12 : Sto, ((Q43 72 [Q88 2, .agg [Q2 n3, Q2 n4]] (Q127 (length z8.2.V) (length z8.2.T) (SR z8.2.V) (IR z8.2.T)) [] (Q113 3 (length z12.V) 4 (length z12.T) (SR z12.V) (IR z12.T))) ∧ (∃ z13 : Tm, ((Q65 45 [Q24 1, .agg (Q49 4 [] z2.1)] (aT z13)) ∧ (((4 : Nat) = 4 ∧ 1 ≤ 1) ∧ (∃ z14 : Tm, ((Q65 24 [.agg (Q49 0 [102] 0), Q153 [[(Q1 3), (.str []), (Q1 0), .nils]]] (aT z14)) ∧ (∃ z15 : Tm, ((Q65 45 [Q24 1, (aT z14)] (aT z15)) ∧ (∃ z16 : (Int × Int) × Sto, ((Q43 32 [Q88 2, (aT z13), (aT z15), Q24 20] (Q127 (length z12.V) (length z12.T) (SR z12.V) (IR z12.T)) [Q31 z16.1.1, Q31 z16.1.2] (Q113 3 (length z16.2.V) 4 (length z16.2.T) (SR z16.2.V) (IR z16.2.T))) ∧ (((4 : Nat) = 4 ∧ 1 ≤ 1) ∧ (∃ z17 : Tm, ((Q65 24 [.agg (Q49 4 [] z2.1), Q153 [[(Q1 0), (.str [97]), (Q1 0), .nils]]] (aT z17)) ∧ (((4 : Nat) = 4 ∧ 1 ≤ 1) ∧ (∃ z18 : Tm, ((Q65 24 [.agg (Q49 0 [102] 0), Q153 [[(Q1 0), (.str [97]), (Q1 0), .nils]]] (aT z18)) ∧ (∃ z19 : (Int × Int) × Sto, ((Q43 32 [Q88 2, (aT z17), (aT z18), Q24 20] (Q127 (length z16.2.V) (length z16.2.T) (SR z16.2.V) (IR z16.2.T)) [Q31 z19.1.1, Q31 z19.1.2] (Q113 3 (length z19.2.V) 4 (length z19.2.T) (SR z19.2.V) (IR z19.2.T))) ∧ (br ((z8.1.2 : Int) == (0 : Int)) (br b11 (br ((z16.1.2 : Int) == (170 : Int)) (br ((z19.1.2 : Int) == (171 : Int)) (∃ n20 : Int, (∃ n21 : Int, ((Q10 31 [Q88 2] (Q127 (length z19.2.V) (length z19.2.T) (SR z19.2.V) (IR z19.2.T)) (.agg [Q2 n20, Q2 n21]) (Q127 (length z19.2.V) (length z19.2.T) (SR z19.2.V) (IR z19.2.T))) ∧ (Q50 (((n20 : Int) == n3) && (((n21 : Int) == n4) && true)) [] r Hs')))) (Q82 [] r Hs')) (Q82 [] r Hs')) (Q82 [] r Hs')) (Q82 [] r Hs')))))))))))))))))))))))))))))))))))))))))))))) := by kernel_rfl
def lv28 : List (Nat × List Nat) := [(1, [0, 3])]
theorem v28 (l : RW) (r : TV) (Hs' : List AObj) : VE lv28 28 0 r Hs' [Q61 6 l] [] =
  ((FV.isSl 6 (Q4 6 l) = true) ∧ (br (decide (((length l : Int) : Int) > (8 : Int))) (Q50 true [] r Hs') (Q155 28 0 r Hs' [Q54 0 6 l, Q12 3 0] [] 0))) := by kernel_rfl
theorem v28_1a (x0 : RW) (x3 : Int) (r : TV) (Hs' : List AObj) : VQ lv28 28 0 r Hs' 1 ⟨[Q54 0 6 x0, Q12 3 x3], [], 0⟩ =
  ((FV.isSl 6 (Q4 6 x0) = true) ∧ (br (decide ((x3 : Int) < (length x0 : Int))) (((FV.isSl 6 (Q4 6 x0) = true) ∧ ((0 ≤ x3) ∧ ((x3 < (length x0 : Int)) ∧ (([(Q1 (FV.asI (getD (getD x0 (toNat x3) []) 0 FV.nils))), (.bool (FV.asB (getD (getD x0 (toNat x3) []) 1 FV.nils))), (Q1 (FV.asI (getD (getD x0 (toNat x3) []) 2 FV.nils))), (.str (FV.asS (getD (getD x0 (toNat x3) []) 3 FV.nils))), (Q1 (FV.asI (getD (getD x0 (toNat x3) []) 4 FV.nils))), (getD (getD x0 (toNat x3) []) 5 FV.nils)] : List FV) = (getD x0 (toNat x3) []))))) ∧ (∃ b1 : Bool, ((Q70 41 (Q102 (.agg (Q15 (FV.asI (getD (getD x0 (toNat x3) []) 2 FV.nils)) (FV.asS (getD (getD x0 (toNat x3) []) 3 FV.nils)) (FV.asI (getD (getD x0 (toNat x3) []) 4 FV.nils)) (Q0 (getD (getD x0 (toNat x3) []) 5 FV.nils)))) 12) b1) ∧ (((FV.isSl 6 (Q4 6 x0) = true) ∧ ((0 ≤ x3) ∧ ((x3 < (length x0 : Int)) ∧ (([(Q1 (FV.asI (getD (getD x0 (toNat x3) []) 0 FV.nils))), (.bool (FV.asB (getD (getD x0 (toNat x3) []) 1 FV.nils))), (Q1 (FV.asI (getD (getD x0 (toNat x3) []) 2 FV.nils))), (.str (FV.asS (getD (getD x0 (toNat x3) []) 3 FV.nils))), (Q1 (FV.asI (getD (getD x0 (toNat x3) []) 4 FV.nils))), (getD (getD x0 (toNat x3) []) 5 FV.nils)] : List FV) = (getD x0 (toNat x3) []))))) ∧ (∃ b2 : Bool, ((Q70 42 (Q102 (.agg (Q15 (FV.asI (getD (getD x0 (toNat x3) []) 2 FV.nils)) (FV.asS (getD (getD x0 (toNat x3) []) 3 FV.nils)) (FV.asI (getD (getD x0 (toNat x3) []) 4 FV.nils)) (Q0 (getD (getD x0 (toNat x3) []) 5 FV.nils)))) 1000) b2) ∧ (br b1 (Q50 true [] r Hs') (br (!b2) (Q50 true [] r Hs') (Q155 28 0 r Hs' [Q54 0 6 x0, Q12 3 (IntKind.wrap .i64 (x3 + 1))] [] 0))))))))) (Q82 [] r Hs'))) := by kernel_rfl
def lv29 : List (Nat × List Nat) := [(1, [0, 3])]
theorem v29 (l : RW) (r : TV) (Hs' : List AObj) : VE lv29 29 0 r Hs' [Q153 l] [] =
  ((FV.isSl 4 (Q4 4 l) = true) ∧ (br (decide (((length l : Int) : Int) > (8 : Int))) (Q50 true [] r Hs') (Q155 29 0 r Hs' [Q144 0 l, Q12 3 0] [] 0))) := by kernel_rfl
theorem v29_1a (x0 : RW) (x3 : Int) (r : TV) (Hs' : List AObj) : VQ lv29 29 0 r Hs' 1 ⟨[Q144 0 x0, Q12 3 x3], [], 0⟩ =
  ((FV.isSl 4 (Q4 4 x0) = true) ∧ (br (decide ((x3 : Int) < (length x0 : Int))) (((FV.isSl 4 (Q4 4 x0) = true) ∧ ((0 ≤ x3) ∧ ((x3 < (length x0 : Int)) ∧ (((rE (getD x0 (toNat x3) [])) : List FV) = (getD x0 (toNat x3) []))))) ∧ (∃ b1 : Bool, ((Q70 41 (Q102 (aE (getD x0 (toNat x3) [])) 24) b1) ∧ (((FV.isSl 4 (Q4 4 x0) = true) ∧ ((0 ≤ x3) ∧ ((x3 < (length x0 : Int)) ∧ (((rE (getD x0 (toNat x3) [])) : List FV) = (getD x0 (toNat x3) []))))) ∧ (∃ b2 : Bool, ((Q70 42 (Q102 (aE (getD x0 (toNat x3) [])) 1000) b2) ∧ (br b1 (Q50 true [] r Hs') (br (!b2) (Q50 true [] r Hs') (Q155 29 0 r Hs' [Q144 0 x0, Q12 3 (IntKind.wrap .i64 (x3 + 1))] [] 0))))))))) (Q82 [] r Hs'))) := by kernel_rfl
def lv34 : List (Nat × List Nat) := []
theorem v34  (r : TV) (Hs' : List AObj) : VE lv34 34 0 r Hs' [] [] =
  (RT (Q88 2) (Q127 0 0 [] []) r Hs') := by kernel_rfl
def lv35 : List (Nat × List Nat) := [(1000001, [1, 2])]
theorem v35 (level : Int) (o0_0l o0_1l : Nat) (o1 o2 : RW) (r : TV) (Hs' : List AObj) : VE lv35 35 3 r Hs' (Q102 (Q88 2) level) (Q127 o0_0l o0_1l o1 o2) =
  ((1 ≤ 1) ∧ ((o0_0l ≤ (length o1) ∧ z0k (o0_0l + 1) 72) ∧ (Q76 (IntKind.wrap .i64 ((((o0_0l + 1) : Nat) : Int) - (1 : Int))) (Q113 3 (o0_0l + 1) 4 o0_1l ((take o0_0l o1) ++ [[(Q1 (z0f [level, (0 : Int)])), (.bool false), (Q1 0), (.str []), (Q1 0), .nils]]) o2) r Hs'))) := by kernel_rfl
def lv37 : List (Nat × List Nat) := [(1, [0, 1, 5]), (5, [0, 1, 5, 6, 7])]
theorem v37 (l : RW) (n : Int) (r : TV) (Hs' : List AObj) : VE lv37 37 0 r Hs' (Q102 (Q153 l) n) [] =
  (Q155 37 0 r Hs' [Q144 0 l, Q12 1 n, Q12 5 0] [] 0) := by kernel_rfl
theorem v37_1a (x0 : RW) (x1 x5 : Int) (r : TV) (Hs' : List AObj) : VQ lv37 37 0 r Hs' 1 ⟨[Q144 0 x0, Q12 1 x1, Q12 5 x5], [], 0⟩ =
  ((FV.isSl 4 (Q4 4 x0) = true) ∧ (br (decide ((x5 : Int) < (length x0 : Int))) (((FV.isSl 4 (Q4 4 x0) = true) ∧ ((0 ≤ x5) ∧ ((x5 < (length x0 : Int)) ∧ (((rE (getD x0 (toNat x5) [])) : List FV) = (getD x0 (toNat x5) []))))) ∧ (∃ y1 : FV, ((Q65 17 [(aE (getD x0 (toNat x5) []))] (.c (Q0 y1))) ∧ (Q52 37 0 r Hs' 5 [Q144 0 x0, Q12 1 x1, Q12 5 x5, Q90 6 y1, Q12 7 0] [] 0)))) (Q50 true [] r Hs'))) := by kernel_rfl
theorem v37_5a (x0 : RW) (x1 x5 : Int) (x6 : FV) (x7 : Int) (r : TV) (Hs' : List AObj) : VQ lv37 37 0 r Hs' 5 ⟨[Q144 0 x0, Q12 1 x1, Q12 5 x5, Q90 6 x6, Q12 7 x7], [], 0⟩ =
  ((FV.isSl 1 x6 = true) ∧ (br (decide ((x7 : Int) < (length (FV.ses x6) : Int))) (((FV.isSl 1 x6 = true) ∧ ((0 ≤ x7) ∧ ((x7 < (length (FV.ses x6) : Int)) ∧ (([(Q1 (FV.asI (getD (getD (FV.ses x6) (toNat x7) []) 0 FV.nils)))] : List FV) = (getD (FV.ses x6) (toNat x7) []))))) ∧ (br (decide (((FV.asI (getD (getD (FV.ses x6) (toNat x7) []) 0 FV.nils)) : Int) ≥ x1)) (Q82 [] r Hs') (Q52 37 0 r Hs' 5 [Q144 0 x0, Q12 1 x1, Q12 5 x5, Q90 6 x6, Q12 7 (IntKind.wrap .i64 (x7 + 1))] [] 0))) (Q155 37 0 r Hs' [Q144 0 x0, Q12 1 x1, Q12 5 (IntKind.wrap .i64 (x5 + 1))] [] 0))) := by kernel_rfl
def lv32 : List (Nat × List Nat) := [(1000001, [1, 2])]
theorem v32 (a_0 : Int) (a_1 : List UInt8) (a_2 : Int) (a_3 : RW) (b_0 : Int) (b_1 : List UInt8) (b_2 : Int) (b_3 : RW) (fuel : Int) (o0_0l o0_1l : Nat) (o1 o2 : RW) (r : TV) (Hs' : List AObj) : VE lv32 32 3 r Hs' [Q88 2, Q83 a_0 a_1 a_2 a_3, Q83 b_0 b_1 b_2 b_3, Q24 fuel] (Q127 o0_0l o0_1l o1 o2) =
  (((8 : Nat) = 8 ∧ 1 ≤ 1) ∧ (∃ z1 : (Int × Int) × Sto, ((Q43 36 (Q98 2 (Q61 8 [[(Q1 a_0), (.str a_1), (Q1 a_2), (Q4 4 a_3), (Q1 b_0), (.str b_1), (Q1 b_2), (Q4 4 b_3)]]) (Q24 fuel)) (Q127 o0_0l o0_1l o1 o2) [Q31 z1.1.1, Q31 z1.1.2] (Q113 3 (length z1.2.V) 4 (length z1.2.T) (SR z1.2.V) (IR z1.2.T))) ∧ (Q47 [Q31 z1.1.1, Q31 z1.1.2] (Q113 3 (length z1.2.V) 4 (length z1.2.T) (SR z1.2.V) (IR z1.2.T)) r Hs')))) := by kernel_rfl
def lv38 : List (Nat × List Nat) := []
theorem v38 (o0_0l o0_1l : Nat) (o1 o2 : RW) (r : TV) (Hs' : List AObj) : VE lv38 38 3 r Hs' [Q88 2] (Q127 o0_0l o0_1l o1 o2) =
  (Q76 (o0_0l : Int) (Q127 o0_0l o0_1l o1 o2) r Hs') := by kernel_rfl
def lv19 : List (Nat × List Nat) := []
theorem v19 (x : Int) (o0_0l o0_1l : Nat) (o1 o2 : RW) (r : TV) (Hs' : List AObj) : VE lv19 19 3 r Hs' (Q102 (Q88 2) x) (Q127 o0_0l o0_1l o1 o2) =
  (br (decide ((x : Int) < (0 : Int))) (Q47 (Q110 (Q124 0 false 0 [] 0 Q26) false) (Q127 o0_0l o0_1l o1 o2) r Hs') (br (decide ((x : Int) ≥ (o0_0l : Int))) (Q47 (Q110 (Q124 0 false 0 [] 0 Q26) false) (Q127 o0_0l o0_1l o1 o2) r Hs') ((0 ≤ x ∧ x < (o0_0l : Int)) ∧ ((((0 + (toNat x)) < (length o1)) ∧ ((([(Q1 (FV.asI (getD (getD o1 (0 + (toNat x)) []) 0 FV.nils))), (.bool (FV.asB (getD (getD o1 (0 + (toNat x)) []) 1 FV.nils))), (Q1 (FV.asI (getD (getD o1 (0 + (toNat x)) []) 2 FV.nils))), (.str (FV.asS (getD (getD o1 (0 + (toNat x)) []) 3 FV.nils))), (Q1 (FV.asI (getD (getD o1 (0 + (toNat x)) []) 4 FV.nils))), (getD (getD o1 (0 + (toNat x)) []) 5 FV.nils)] : List FV) = (take 6 (drop 0 (getD o1 (0 + (toNat x)) [])))) ∧ ((6 : Nat) = 6))) ∧ (Q47 (Q110 (Q124 (FV.asI (getD (getD o1 (0 + (toNat x)) []) 0 FV.nils)) (FV.asB (getD (getD o1 (0 + (toNat x)) []) 1 FV.nils)) (FV.asI (getD (getD o1 (0 + (toNat x)) []) 2 FV.nils)) (FV.asS (getD (getD o1 (0 + (toNat x)) []) 3 FV.nils)) (FV.asI (getD (getD o1 (0 + (toNat x)) []) 4 FV.nils)) (Q0 (getD (getD o1 (0 + (toNat x)) []) 5 FV.nils))) true) (Q127 o0_0l o0_1l o1 o2) r Hs'))))) := by kernel_rfl
def lv21 : List (Nat × List Nat) := []
theorem v21 (t_0 : Int) (t_1 : List UInt8) (t_2 : Int) (t_3 : RW) (fuel : Int) (o0_0l o0_1l : Nat) (o1 o2 : RW) (r : TV) (Hs' : List AObj) : VE lv21 21 3 r Hs' (Q98 2 (Q83 t_0 t_1 t_2 t_3) (Q24 fuel)) (Q127 o0_0l o0_1l o1 o2) =
  (∃ z1 : Tm × Int × Int, ((Q140 67 (Q83 t_0 t_1 t_2 t_3) fuel (.fn (.func 68) [(false, [(Q81 0 2)])] []) (Q127 o0_0l o0_1l o1 o2) (Q145 (cT z1.1) z1.2.1 z1.2.2) (Q127 o0_0l o0_1l o1 o2)) ∧ (br ((z1.2.2 : Int) != (0 : Int)) (Q47 (Q145 (Q49 0 [] 0) 0 z1.2.2) (Q127 o0_0l o0_1l o1 o2) r Hs') (∃ z2 : Tm, ((Q65 26 [(aT z1.1)] (aT z2)) ∧ (Q47 (Q145 (cT z2) z1.2.1 0) (Q127 o0_0l o0_1l o1 o2) r Hs')))))) := by kernel_rfl
def lv39 : List (Nat × List Nat) := [(1, [0, 2, 4, 9])]
theorem v39 (t_0 : Int) (t_1 : List UInt8) (t_2 : Int) (t_3 : RW) (level : Int) (o0_0l o0_1l : Nat) (o1 o2 : RW) (r : TV) (Hs' : List AObj) : VE lv39 39 3 r Hs' (Q98 2 (Q83 t_0 t_1 t_2 t_3) (Q24 level)) (Q127 o0_0l o0_1l o1 o2) =
  (br ((t_0 : Int) == (1 : Int)) (br (decide ((t_2 : Int) > level)) (Q82 (Q127 o0_0l o0_1l o1 o2) r Hs') (br ((t_0 : Int) == (4 : Int)) (∃ z1 : Int × Bool × Tm × Bool, ((Q43 19 (Q102 (Q88 2) t_2) (Q127 o0_0l o0_1l o1 o2) (Q110 (Q139 z1.1 z1.2.1 z1.2.2.1.k z1.2.2.1.s z1.2.2.1.n (FTs z1.2.2.1.l)) z1.2.2.2) (Q127 o0_0l o0_1l o1 o2)) ∧ (br z1.2.2.2 (br (decide ((z1.1 : Int) > level)) (Q82 (Q127 o0_0l o0_1l o1 o2) r Hs') (Q155 39 3 r Hs' (Q78 (Q57 0 0 2) (Q12 2 level) (Q125 4 3) 9 0) [Q69 0 1 o0_0l 2 o0_1l, Q67 1 o1, Q46 2 o2, Q95 3 4 t_0 t_1 t_2 4 t_3] 4)) (Q155 39 3 r Hs' (Q78 (Q57 0 0 2) (Q12 2 level) (Q125 4 3) 9 0) [Q69 0 1 o0_0l 2 o0_1l, Q67 1 o1, Q46 2 o2, Q95 3 4 t_0 t_1 t_2 4 t_3] 4)))) (Q155 39 3 r Hs' (Q78 (Q57 0 0 2) (Q12 2 level) (Q125 4 3) 9 0) [Q69 0 1 o0_0l 2 o0_1l, Q67 1 o1, Q46 2 o2, Q95 3 4 t_0 t_1 t_2 4 t_3] 4))) (br ((t_0 : Int) == (4 : Int)) (∃ z2 : Int × Bool × Tm × Bool, ((Q43 19 (Q102 (Q88 2) t_2) (Q127 o0_0l o0_1l o1 o2) (Q110 (Q139 z2.1 z2.2.1 z2.2.2.1.k z2.2.2.1.s z2.2.2.1.n (FTs z2.2.2.1.l)) z2.2.2.2) (Q127 o0_0l o0_1l o1 o2)) ∧ (br z2.2.2.2 (br (decide ((z2.1 : Int) > level)) (Q82 (Q127 o0_0l o0_1l o1 o2) r Hs') (Q155 39 3 r Hs' (Q78 (Q57 0 0 2) (Q12 2 level) (Q125 4 3) 9 0) [Q69 0 1 o0_0l 2 o0_1l, Q67 1 o1, Q46 2 o2, Q95 3 4 t_0 t_1 t_2 4 t_3] 4)) (Q155 39 3 r Hs' (Q78 (Q57 0 0 2) (Q12 2 level) (Q125 4 3) 9 0) [Q69 0 1 o0_0l 2 o0_1l, Q67 1 o1, Q46 2 o2, Q95 3 4 t_0 t_1 t_2 4 t_3] 4)))) (Q155 39 3 r Hs' (Q78 (Q57 0 0 2) (Q12 2 level) (Q125 4 3) 9 0) [Q69 0 1 o0_0l 2 o0_1l, Q67 1 o1, Q46 2 o2, Q95 3 4 t_0 t_1 t_2 4 t_3] 4))) := by kernel_rfl
theorem v39_1a (x2 x9 : Int) (h0_0l h0_1l : Nat) (h1 h2 : RW) (h3_0 : Int) (h3_1 : List UInt8) (h3_2 : Int) (h3_3 : RW) (r : TV) (Hs' : List AObj) : VQ lv39 39 3 r Hs' 1 ⟨Q78 (Q57 0 0 2) (Q12 2 x2) (Q125 4 3) 9 x9, [Q69 0 1 h0_0l 2 h0_1l, Q67 1 h1, Q46 2 h2, Q95 3 4 h3_0 h3_1 h3_2 4 h3_3], 4⟩ =
  ((FV.isSl 4 (Q4 4 h3_3) = true) ∧ (br (decide ((x9 : Int) < (length h3_3 : Int))) (((FV.isSl 4 (Q4 4 h3_3) = true) ∧ ((0 ≤ x9) ∧ ((x9 < (length h3_3 : Int)) ∧ (((rE (getD h3_3 (toNat x9) [])) : List FV) = (getD h3_3 (toNat x9) []))))) ∧ (∃ b1 : Bool, ((Q10 39 (Q98 2 (aE (getD h3_3 (toNat x9) [])) (Q24 x2)) (Q127 h0_0l h0_1l h1 h2) (Q32 b1) (Q127 h0_0l h0_1l h1 h2)) ∧ (br (!b1) (Q82 (Q127 h0_0l h0_1l h1 h2) r Hs') (Q155 39 3 r Hs' (Q78 (Q57 0 0 2) (Q12 2 x2) (Q125 4 3) 9 (IntKind.wrap .i64 (x9 + 1))) [Q69 0 1 h0_0l 2 h0_1l, Q67 1 h1, Q46 2 h2, Q95 3 4 h3_0 h3_1 h3_2 4 h3_3] 4))))) (Q50 true (Q127 h0_0l h0_1l h1 h2) r Hs'))) := by kernel_rfl
def lv22 : List (Nat × List Nat) := []
theorem v22 (t_0 : Int) (t_1 : List UInt8) (t_2 : Int) (t_3 : RW) (r : TV) (Hs' : List AObj) : VE lv22 22 0 r Hs' [Q83 t_0 t_1 t_2 t_3] [] =
  ((∃ z1 : Int, ((Q140 58 (Q83 t_0 t_1 t_2 t_3) 0 (.fn (.func 69) [] [(false, [Q112])]) (Q157 0) [] (Q157 z1)) ∧ (Q76 z1 [] r Hs'))) ∨ ((∃ _ : Unit, ((Q140 58 (Q83 t_0 t_1 t_2 t_3) 0 (.fn (.func 69) [] [(false, [Q112])]) (Q157 0) [] (Q129 1)) ∧ (RT (.c Q26) [] r Hs'))) ∨ ((∃ z3 : Nat × RW, ((Q140 58 (Q83 t_0 t_1 t_2 t_3) 0 (.fn (.func 69) [] [(false, [Q112])]) (Q157 0) [] (Q137 1 1 1 0 z3.1 z3.2)) ∧ (((1 : Nat) = 1 ∧ (0 + z3.1) ≤ (length z3.2)) ∧ (RT (Q61 1 (take z3.1 (drop 0 z3.2))) [] r Hs')))) ∨ (∃ z4 : Nat × RW, ((Q140 58 (Q83 t_0 t_1 t_2 t_3) 0 (.fn (.func 69) [] [(false, [Q112])]) (Q157 0) [] (Q38 (Q123 1 2 1 0 z4.1) .gone z4.2)) ∧ (((1 : Nat) = 1 ∧ (0 + z4.1) ≤ (length z4.2)) ∧ (RT (Q61 1 (take z4.1 (drop 0 z4.2))) [] r Hs'))))))) := by kernel_rfl
def lv31 : List (Nat × List Nat) := []
theorem v31 (o0_0l o0_1l : Nat) (o1 o2 : RW) (r : TV) (Hs' : List AObj) : VE lv31 31 3 r Hs' [Q88 2] (Q127 o0_0l o0_1l o1 o2) =
  (RT (.agg [Q2 (o0_1l : Int), Q2 (o0_0l : Int)]) (Q127 o0_0l o0_1l o1 o2) r Hs') := by kernel_rfl
def lv24 : List (Nat × List Nat) := []
theorem v24 (f_0 : Int) (f_1 : List UInt8) (f_2 : Int) (f_3 args : RW) (r : TV) (Hs' : List AObj) : VE lv24 24 0 r Hs' [Q83 f_0 f_1 f_2 f_3, Q153 args] [] =
  ((FV.isSl 4 (Q4 4 args) = true) ∧ (br (((length args : Int) : Int) == (0 : Int)) (RT (Q83 f_0 f_1 f_2 f_3) [] r Hs') (br ((f_0 : Int) == (6 : Int)) ((FV.isSl 4 (Q4 4 f_3) = true) ∧ (br (decide (((length f_3 : Int) : Int) > (0 : Int))) (((1 : Nat) = 1 ∧ 2 ≤ 2) ∧ (∃ z1 : List Tm, ((Q65 70 [Q61 1 [[(Q4 4 f_3)], [(Q4 4 args)]]] (Q153 (FTs z1))) ∧ (RT (Q83 6 [] 0 (FTs z1)) [] r Hs')))) (((4 : Nat) = 4 ∧ 1 ≤ 1) ∧ (((1 : Nat) = 1 ∧ 2 ≤ 2) ∧ (∃ z2 : List Tm, ((Q65 70 [Q61 1 [[(Q4 4 [[(Q1 f_0), (.str f_1), (Q1 f_2), (Q4 4 f_3)]])], [(Q4 4 args)]]] (Q153 (FTs z2))) ∧ (RT (Q83 6 [] 0 (FTs z2)) [] r Hs'))))))) (((4 : Nat) = 4 ∧ 1 ≤ 1) ∧ (((1 : Nat) = 1 ∧ 2 ≤ 2) ∧ (∃ z3 : List Tm, ((Q65 70 [Q61 1 [[(Q4 4 [[(Q1 f_0), (.str f_1), (Q1 f_2), (Q4 4 f_3)]])], [(Q4 4 args)]]] (Q153 (FTs z3))) ∧ (RT (Q83 6 [] 0 (FTs z3)) [] r Hs')))))))) := by kernel_rfl
def lv25 : List (Nat × List Nat) := [(1, [2, 3, 5])]
theorem v25 (a_0 : Int) (a_1 : List UInt8) (a_2 : Int) (a_3 : RW) (b_0 : Int) (b_1 : List UInt8) (b_2 : Int) (b_3 : RW) (r : TV) (Hs' : List AObj) : VE lv25 25 0 r Hs' [Q83 a_0 a_1 a_2 a_3, Q83 b_0 b_1 b_2 b_3] [] =
  (br ((a_0 : Int) != b_0) (Q82 [] r Hs') (br (!((a_1 : List UInt8) == b_1)) (Q82 [] r Hs') (br ((a_2 : Int) != b_2) (Q82 [] r Hs') ((FV.isSl 4 (Q4 4 a_3) = true) ∧ ((FV.isSl 4 (Q4 4 b_3) = true) ∧ (br (((length a_3 : Int) : Int) != (length b_3 : Int)) (Q82 [] r Hs') (Q155 25 0 r Hs' [Q125 2 0, Q125 3 1, Q12 5 0] [Q95 0 4 a_0 a_1 a_2 4 a_3, Q95 1 4 b_0 b_1 b_2 4 b_3] 2))))))) := by kernel_rfl
theorem v25_1a (x5 h0_0 : Int) (h0_1 : List UInt8) (h0_2 : Int) (h0_3 : RW) (h1_0 : Int) (h1_1 : List UInt8) (h1_2 : Int) (h1_3 : RW) (r : TV) (Hs' : List AObj) : VQ lv25 25 0 r Hs' 1 ⟨[Q125 2 0, Q125 3 1, Q12 5 x5], [Q95 0 4 h0_0 h0_1 h0_2 4 h0_3, Q95 1 4 h1_0 h1_1 h1_2 4 h1_3], 2⟩ =
  ((FV.isSl 4 (Q4 4 h0_3) = true) ∧ (br (decide ((x5 : Int) < (length h0_3 : Int))) (((FV.isSl 4 (Q4 4 h0_3) = true) ∧ ((0 ≤ x5) ∧ ((x5 < (length h0_3 : Int)) ∧ (((rE (getD h0_3 (toNat x5) [])) : List FV) = (getD h0_3 (toNat x5) []))))) ∧ (((FV.isSl 4 (Q4 4 h1_3) = true) ∧ ((0 ≤ x5) ∧ ((x5 < (length h1_3 : Int)) ∧ (((rE (getD h1_3 (toNat x5) [])) : List FV) = (getD h1_3 (toNat x5) []))))) ∧ (∃ b1 : Bool, ((Q70 25 [(aE (getD h0_3 (toNat x5) [])), (aE (getD h1_3 (toNat x5) []))] b1) ∧ (br (!b1) (Q82 [] r Hs') (Q155 25 0 r Hs' [Q125 2 0, Q125 3 1, Q12 5 (IntKind.wrap .i64 (x5 + 1))] [Q95 0 4 h0_0 h0_1 h0_2 4 h0_3, Q95 1 4 h1_0 h1_1 h1_2 4 h1_3] 2)))))) (Q50 true [] r Hs'))) := by kernel_rfl
def lv72 : List (Nat × List Nat) := [(1, [0, 3, 4, 22, 23, 24]), (1000001, [1, 2])]
theorem v72 (m_0 m_1 : Int) (o0_0l o0_1l : Nat) (o1 o2 : RW) (r : TV) (Hs' : List AObj) : VE lv72 72 3 r Hs' [Q88 2, .agg [Q2 m_0, Q2 m_1]] (Q127 o0_0l o0_1l o1 o2) =
  (((0 ≤ (z0j [(z0f [m_0, (0 : Int)]), (o0_1l : Int)])) ∧ (((z0j [(z0f [m_0, (0 : Int)]), (o0_1l : Int)]) ≤ (o0_1l : Int)) ∧ ((o0_1l : Int) ≤ (o0_1l : Int)))) ∧ (Q155 72 3 r Hs' (Q132 (Q57 0 0 2) (Q57 3 5 2) 4 (z0j [(z0f [m_0, (0 : Int)]), (o0_1l : Int)]) (Q105 22 4 1 (0 + (toNat (z0j [(z0f [m_0, (0 : Int)]), (o0_1l : Int)]))) ((toNat (o0_1l : Int)) - (toNat (z0j [(z0f [m_0, (0 : Int)]), (o0_1l : Int)])))) 23 ((((toNat (o0_1l : Int)) - (toNat (z0j [(z0f [m_0, (0 : Int)]), (o0_1l : Int)]))) : Nat) : Int) 24 0) [Q69 0 3 o0_0l 4 o0_1l, Q39 1, Q39 2, Q67 3 o1, Q46 4 o2, Q25 5 2 [Q2 m_0, Q2 m_1]] 6)) := by kernel_rfl
theorem v72_1a (x4 : Int) (x22o x22l : Nat) (x23 x24 : Int) (h0_0l h0_1l : Nat) (h3 h4 : RW) (h5_0 h5_1 : Int) (r : TV) (Hs' : List AObj) : VQ lv72 72 3 r Hs' 1 ⟨Q132 (Q57 0 0 2) (Q57 3 5 2) 4 x4 (Q105 22 4 1 x22o x22l) 23 x23 24 x24, [Q69 0 3 h0_0l 4 h0_1l, Q39 1, Q39 2, Q67 3 h3, Q46 4 h4, Q25 5 2 [Q2 h5_0, Q2 h5_1]], 6⟩ =
  (br (decide ((x24 : Int) < x23)) ((0 ≤ x24 ∧ x24 < (x22l : Int)) ∧ ((((x22o + (toNat x24)) < (length h4)) ∧ ((([(Q1 (FV.asI (getD (getD h4 (x22o + (toNat x24)) []) 0 FV.nils)))] : List FV) = (take 1 (drop 0 (getD h4 (x22o + (toNat x24)) [])))) ∧ ((1 : Nat) = 1))) ∧ ((0 ≤ (FV.asI (getD (getD h4 (x22o + (toNat x24)) []) 0 FV.nils)) ∧ (FV.asI (getD (getD h4 (x22o + (toNat x24)) []) 0 FV.nils)) < (h0_0l : Int)) ∧ ((((0 + (toNat (FV.asI (getD (getD h4 (x22o + (toNat x24)) []) 0 FV.nils)))) < (length h3)) ∧ ((([(Q1 (FV.asI (getD (getD h3 (0 + (toNat (FV.asI (getD (getD h4 (x22o + (toNat x24)) []) 0 FV.nils)))) []) 0 FV.nils)))] : List FV) = (take 1 (drop 0 (getD h3 (0 + (toNat (FV.asI (getD (getD h4 (x22o + (toNat x24)) []) 0 FV.nils)))) [])))) ∧ ((1 : Nat) = 1))) ∧ ((0 ≤ (FV.asI (getD (getD h4 (x22o + (toNat x24)) []) 0 FV.nils)) ∧ (FV.asI (getD (getD h4 (x22o + (toNat x24)) []) 0 FV.nils)) < (h0_0l : Int)) ∧ (((0 + (toNat (FV.asI (getD (getD h4 (x22o + (toNat x24)) []) 0 FV.nils)))) < (length h3) ∧ (length (getD h3 (0 + (toNat (FV.asI (getD (getD h4 (x22o + (toNat x24)) []) 0 FV.nils)))) [])) = 6) ∧ (Q155 72 3 r Hs' (Q132 (Q57 0 0 2) (Q57 3 5 2) 4 x4 (Q105 22 4 1 x22o x22l) 23 x23 24 (IntKind.wrap .i64 (x24 + 1))) [Q69 0 3 h0_0l 4 h0_1l, Q39 1, Q39 2, Q67 3 (List.set h3 (0 + (toNat (FV.asI (getD (getD h4 (x22o + (toNat x24)) []) 0 FV.nils)))) [(Q1 (FV.asI (getD (getD h3 (0 + (toNat (FV.asI (getD (getD h4 (x22o + (toNat x24)) []) 0 FV.nils)))) []) 0 FV.nils))), (.bool false), (Q1 0), (.str []), (Q1 0), .nils]), Q46 4 h4, Q25 5 2 [Q2 h5_0, Q2 h5_1]] 6))))))) (((0 ≤ (0 : Int)) ∧ (((0 : Int) ≤ (z0j [(z0f [h5_1, (0 : Int)]), (h0_0l : Int)])) ∧ ((z0j [(z0f [h5_1, (0 : Int)]), (h0_0l : Int)]) ≤ (h0_0l : Int)))) ∧ (((0 ≤ (0 : Int)) ∧ (((0 : Int) ≤ x4) ∧ (x4 ≤ (h0_1l : Int)))) ∧ (∃ z1 : Nat, ((Q10 105 (Q121 (.c (Q3 0 1 0 (toNat x4))) (.fn (.func 106) [] [(false, [(Q92 1)])])) [Q19 h4, Q103 (z0j [(z0f [h5_1, (0 : Int)]), (h0_0l : Int)])] (.c (Q3 0 1 0 z1)) [Q19 h4, Q103 (z0j [(z0f [h5_1, (0 : Int)]), (h0_0l : Int)])]) ∧ (Q47 [] (Q113 3 (toNat (z0j [(z0f [h5_1, (0 : Int)]), (h0_0l : Int)])) 4 z1 h3 h4) r Hs')))))) := by kernel_rfl
def lv45 : List (Nat × List Nat) := [(1, [3, 4, 6, 7])]
theorem v45 (n t_0 : Int) (t_1 : List UInt8) (t_2 : Int) (t_3 : RW) (r : TV) (Hs' : List AObj) : VE lv45 45 0 r Hs' [Q24 n, Q83 t_0 t_1 t_2 t_3] [] =
  (Q155 45 0 r Hs' (Q108 (Q125 3 0) (Q125 4 1) 6 (z0f [n, (0 : Int)]) 7 0) [Q95 0 4 t_0 t_1 t_2 4 t_3, Q87 1 4 0 [] 0] 2) := by kernel_rfl
theorem zrn (x6 x7 h0_0 : Int) (h0_1 : List UInt8) (h0_2 : Int) (h0_3 : RW) (h1_0 : Int) (h1_1 : List UInt8) (h1_2 : Int) (r : TV) (Hs' : List AObj) : VQ lv45 45 0 r Hs' 1 ⟨Q108 (Q125 3 0) (Q125 4 1) 6 x6 7 x7, [Q95 0 4 h0_0 h0_1 h0_2 4 h0_3, Q87 1 4 h1_0 h1_1 h1_2], 2⟩ =
  (br (decide ((x7 : Int) < x6)) (((4 : Nat) = 4 ∧ 1 ≤ 1) ∧ (Q155 45 0 r Hs' (Q108 (Q125 3 0) (Q125 4 1) 6 x6 7 (IntKind.wrap .i64 (x7 + 1))) [Q95 0 4 5 [] 0 4 [[(Q1 h0_0), (.str h0_1), (Q1 h0_2), (Q4 4 h0_3)]], Q87 1 4 h1_0 h1_1 h1_2] 2)) (RT (Q83 h0_0 h0_1 h0_2 h0_3) [] r Hs')) := by kernel_rfl
def lv41 : List (Nat × List Nat) := []
theorem v41 (t_0 : Int) (t_1 : List UInt8) (t_2 : Int) (t_3 : RW) (most : Int) (r : TV) (Hs' : List AObj) : VE lv41 41 0 r Hs' (Q102 (Q83 t_0 t_1 t_2 t_3) most) [] =
  (∃ n1 : Int, ((Q65 81 (Q102 (Q83 t_0 t_1 t_2 t_3) most) (Q24 n1)) ∧ (Q50 (decide ((n1 : Int) < (0 : Int))) [] r Hs'))) := by kernel_rfl
def lv42 : List (Nat × List Nat) := [(1, [1, 2, 5])]
theorem v42 (t_0 : Int) (t_1 : List UInt8) (t_2 : Int) (t_3 : RW) (most : Int) (r : TV) (Hs' : List AObj) : VE lv42 42 0 r Hs' (Q102 (Q83 t_0 t_1 t_2 t_3) most) [] =
  (br ((t_0 : Int) != (2 : Int)) (br (decide ((t_2 : Int) > most)) (Q82 [] r Hs') (br (decide ((t_2 : Int) < (IntKind.wrap .i64 (0 - most)))) (Q82 [] r Hs') (Q155 42 0 r Hs' [Q12 1 most, Q125 2 0, Q12 5 0] [Q95 0 4 t_0 t_1 t_2 4 t_3] 1))) (Q155 42 0 r Hs' [Q12 1 most, Q125 2 0, Q12 5 0] [Q95 0 4 t_0 t_1 t_2 4 t_3] 1)) := by kernel_rfl
theorem v42_1a (x1 x5 h0_0 : Int) (h0_1 : List UInt8) (h0_2 : Int) (h0_3 : RW) (r : TV) (Hs' : List AObj) : VQ lv42 42 0 r Hs' 1 ⟨[Q12 1 x1, Q125 2 0, Q12 5 x5], [Q95 0 4 h0_0 h0_1 h0_2 4 h0_3], 1⟩ =
  ((FV.isSl 4 (Q4 4 h0_3) = true) ∧ (br (decide ((x5 : Int) < (length h0_3 : Int))) (((FV.isSl 4 (Q4 4 h0_3) = true) ∧ ((0 ≤ x5) ∧ ((x5 < (length h0_3 : Int)) ∧ (((rE (getD h0_3 (toNat x5) [])) : List FV) = (getD h0_3 (toNat x5) []))))) ∧ (∃ b1 : Bool, ((Q70 42 (Q102 (aE (getD h0_3 (toNat x5) [])) x1) b1) ∧ (br (!b1) (Q82 [] r Hs') (Q155 42 0 r Hs' [Q12 1 x1, Q125 2 0, Q12 5 (IntKind.wrap .i64 (x5 + 1))] [Q95 0 4 h0_0 h0_1 h0_2 4 h0_3] 1))))) (Q50 true [] r Hs'))) := by kernel_rfl
def lv17 : List (Nat × List Nat) := []
theorem v17 (t_0 : Int) (t_1 : List UInt8) (t_2 : Int) (t_3 : RW) (r : TV) (Hs' : List AObj) : VE lv17 17 0 r Hs' [Q83 t_0 t_1 t_2 t_3] [] =
  ((∃ z1 : Int, ((Q140 58 (Q83 t_0 t_1 t_2 t_3) 0 (.fn (.func 59) [] [(false, [Q112])]) (Q129 1) [] (Q157 z1)) ∧ (Q76 z1 [] r Hs'))) ∨ ((∃ _ : Unit, ((Q140 58 (Q83 t_0 t_1 t_2 t_3) 0 (.fn (.func 59) [] [(false, [Q112])]) (Q129 1) [] (Q129 1)) ∧ (RT (.c Q26) [] r Hs'))) ∨ ((∃ z3 : Nat × RW, ((Q140 58 (Q83 t_0 t_1 t_2 t_3) 0 (.fn (.func 59) [] [(false, [Q112])]) (Q129 1) [] (Q137 1 1 1 0 z3.1 z3.2)) ∧ (((1 : Nat) = 1 ∧ (0 + z3.1) ≤ (length z3.2)) ∧ (RT (Q61 1 (take z3.1 (drop 0 z3.2))) [] r Hs')))) ∨ (∃ z4 : Nat × RW, ((Q140 58 (Q83 t_0 t_1 t_2 t_3) 0 (.fn (.func 59) [] [(false, [Q112])]) (Q129 1) [] (Q38 (Q123 1 2 1 0 z4.1) .gone z4.2)) ∧ (((1 : Nat) = 1 ∧ (0 + z4.1) ≤ (length z4.2)) ∧ (RT (Q61 1 (take z4.1 (drop 0 z4.2))) [] r Hs'))))))) := by kernel_rfl
def lv36 : List (Nat × List Nat) := [(1, [0, 8, 9, 22]), (1000001, [1, 2])]
theorem v36 (l : RW) (fuel : Int) (o0_0l o0_1l : Nat) (o1 o2 : RW) (r : TV) (Hs' : List AObj) : VE lv36 36 3 r Hs' (Q98 2 (Q61 8 l) (Q24 fuel)) (Q127 o0_0l o0_1l o1 o2) =
  (∃ b1 : Bool, ((Q70 73 (Q121 (Q61 8 l) (.fn (.func 74) [] [])) b1) ∧ (br b1 (Q47 [Q31 0, Q31 1] (Q113 3 o0_0l 4 o0_1l o1 o2) r Hs') (∃ n2 : Int, (∃ n3 : Int, ((Q10 31 [Q88 2] (Q127 o0_0l o0_1l o1 o2) (.agg [Q2 n2, Q2 n3]) (Q127 o0_0l o0_1l o1 o2)) ∧ (∃ z4 : RW, ((Q62 75 [Q61 8 l] (.c (.fn (.func 108) [] [(false, [Q112])])) (Q128 1 [Q7 8 z4])) ∧ (Q155 36 3 r Hs' [Q57 0 0 2, Q57 8 5 2, Q57 9 6 1, Q5 22 (.fn (.func 108) [] [(false, [(Q92 8)])])] [Q69 0 3 o0_0l 4 o0_1l, Q39 1, Q39 2, Q67 3 o1, Q46 4 o2, Q25 5 2 [Q2 n2, Q2 n3], Q25 6 1 [Q9 7 3 0 0], Q25 7 3 (Q55 0 2 0 0 Q26 fuel), Q25 8 1 [Q7 8 z4]] 9))))))))) := by kernel_rfl
theorem v36_1an (h0_0l : Nat) (h0_1l : Nat) (h3 : RW) (h4 : RW) (h5_0 : Int) (h5_1 : Int) (h7_2 : Int) (h8_0 : RW) (K : St → Prop) : prepV 9 [3, 4] [0, 8, 9, 22] K ⟨[Q57 0 0 2, Q57 8 5 2, Q57 9 6 1, Q5 22 (.fn (.func 108) [] [(false, [(Q92 8)])])], [Q69 0 3 h0_0l 4 h0_1l, Q39 1, Q39 2, Q67 3 h3, Q46 4 h4, Q25 5 2 [Q2 h5_0, Q2 h5_1], Q25 6 1 [Q9 7 3 0 0], Q25 7 3 (Q55 0 2 0 0 Q26 h7_2), Q25 8 1 [Q7 8 h8_0]], 9⟩ =
  (K ⟨[Q57 0 0 2, Q57 8 5 2, Q57 9 6 1, Q5 22 (.fn (.func 108) [] [(false, [(Q92 8)])])], [Q69 0 9 h0_0l 10 h0_1l, Q39 1, Q39 2, Q39 3, Q39 4, Q25 5 2 [Q2 h5_0, Q2 h5_1], Q25 6 1 [Q9 7 3 0 0], Q25 7 3 (Q55 0 2 0 0 Q26 h7_2), Q25 8 1 [Q7 8 h8_0], Q67 9 h3, Q46 10 h4], 11⟩) := by kernel_rfl
theorem v36_1ara (h0_0l : Nat) (h0_1l : Nat) (h5_0 : Int) (h5_1 : Int) (h7_2 : Int) (h8_0 : RW) (h9 : RW) (h10 : RW) (k : Int) (v_0 : Int) (v_1 : List UInt8) (v_2 : Int) (v_3 : RW) (v_4 : Int) (v_5 : List UInt8) (v_6 : Int) (v_7 : RW) (R : AHeap → Nat → Prop) : vcR Tryz.prog sh 36 9 [3, 4] 1 [(0, (Q88 2)), (8, (Q85 5 2)), (9, (Q85 6 1)), (22, (.c (.fn (.func 108) [] [(false, [(Q92 8)])])))] k (.agg [Q2 v_0, Q8 v_1, Q2 v_2, Q138 v_3, Q2 v_4, Q8 v_5, Q2 v_6, Q138 v_7]) [(0, (Q37 9 h0_0l 10 h0_1l)), (1, .gone), (2, .gone), (3, .gone), (4, .gone), (5, (Q6 2 [Q2 h5_0, Q2 h5_1])), (6, (Q6 1 [Q9 7 3 0 0])), (7, (Q6 3 (Q55 0 2 0 0 Q26 h7_2))), (8, (Q6 1 [Q7 8 h8_0])), (9, (Q23 h9)), (10, (Q19 h10))] 11 R =
  ((1 ≤ 1) ∧ ((z0k 1 112) ∧ (R [(0, (Q37 9 h0_0l 10 h0_1l)), (1, .gone), (2, .gone), (3, .gone), (4, .gone), (5, (Q6 2 [Q2 h5_0, Q2 h5_1])), (6, (Q6 1 [Q9 7 3 0 0])), (7, (Q71 3 0 2 0 0 11 8 0 1 h7_2)), (8, (Q6 1 [Q7 8 h8_0])), (9, (Q23 h9)), (10, (Q19 h10)), (11, (.arz 8 [[(Q1 v_0), (.str v_1), (Q1 v_2), (Q4 4 v_3), (Q1 v_4), (.str v_5), (Q1 v_6), (Q4 4 v_7)]]))] 12))) := by kernel_rfl
theorem v36_1aza (h0_0l : Nat) (h0_1l : Nat) (h5_0 : Int) (h5_1 : Int) (h7_2 : Int) (h8_0 : RW) (h9 : RW) (h10 : RW) (r : TV) (Hs' : List AObj) : vcA Tryz.prog sh lv36 36 3 (fun r0 Hs0 => TV.Le r0 r ∧ Hs0 = Hs') (RPt Tryz.prog 36 3 r Hs') 1 ⟨[Q57 0 0 2, Q57 8 5 2, Q57 9 6 1, Q5 22 (.fn (.func 108) [] [(false, [(Q92 8)])])], [Q69 0 9 h0_0l 10 h0_1l, Q39 1, Q39 2, Q39 3, Q39 4, Q25 5 2 [Q2 h5_0, Q2 h5_1], Q25 6 1 [Q9 7 3 0 0], Q25 7 3 (Q55 0 2 0 0 Q26 h7_2), Q25 8 1 [Q7 8 h8_0], Q67 9 h9, Q46 10 h10], 11⟩ =
  (∃ z1 : Int × Sto × Nat × RW × Int, ((Q10 76 [Q88 3] (Q107 (Q6 3 (Q55 1 2 0 0 Q26 h7_2)) 2 h0_0l 3 h0_1l h9 h10) (Q24 z1.1) (Q151 (Q6 3 (Q55 1 2 0 0 Q26 z1.2.2.2.2)) (Q37 4 (length z1.2.1.V) 5 (length z1.2.1.T)) (SR z1.2.1.V) (Q19 (IR z1.2.1.T)))) ∧ (br ((z1.1 : Int) != (0 : Int)) (∃ z2 : Sto, ((Q43 72 [Q88 2, .agg [Q2 h5_0, Q2 h5_1]] (Q127 (length z1.2.1.V) (length z1.2.1.T) (SR z1.2.1.V) (IR z1.2.1.T)) [] (Q113 3 (length z2.V) 4 (length z2.T) (SR z2.V) (IR z2.T))) ∧ (Q47 [Q31 0, Q31 z1.1] (Q113 3 (length z2.V) 4 (length z2.T) (SR z2.V) (IR z2.T)) r Hs'))) (Q47 [Q31 z1.2.2.2.2, Q31 0] (Q113 3 (length z1.2.1.V) 4 (length z1.2.1.T) (SR z1.2.1.V) (IR z1.2.1.T)) r Hs')))) := by kernel_rfl
theorem v36_1arb (h0_0l : Nat) (h0_1l : Nat) (h5_0 : Int) (h5_1 : Int) (h7_1l : Nat) (h7_2 : Int) (h8_0 : RW) (h9 : RW) (h10 : RW) (h11 : RW) (k : Int) (v_0 : Int) (v_1 : List UInt8) (v_2 : Int) (v_3 : RW) (v_4 : Int) (v_5 : List UInt8) (v_6 : Int) (v_7 : RW) (R : AHeap → Nat → Prop) : vcR Tryz.prog sh 36 9 [3, 4] 1 [(0, (Q88 2)), (8, (Q85 5 2)), (9, (Q85 6 1)), (22, (.c (.fn (.func 108) [] [(false, [(Q92 8)])])))] k (.agg [Q2 v_0, Q8 v_1, Q2 v_2, Q138 v_3, Q2 v_4, Q8 v_5, Q2 v_6, Q138 v_7]) [(0, (Q37 9 h0_0l 10 h0_1l)), (1, .gone), (2, .gone), (3, .gone), (4, .gone), (5, (Q6 2 [Q2 h5_0, Q2 h5_1])), (6, (Q6 1 [Q9 7 3 0 0])), (7, (Q71 3 0 2 0 0 11 8 0 h7_1l h7_2)), (8, (Q6 1 [Q7 8 h8_0])), (9, (Q23 h9)), (10, (Q19 h10)), (11, (.arz 8 h11))] 12 R =
  ((1 ≤ 1) ∧ ((h7_1l ≤ (length h11) ∧ z0k (h7_1l + 1) 112) ∧ (R [(0, (Q37 9 h0_0l 10 h0_1l)), (1, .gone), (2, .gone), (3, .gone), (4, .gone), (5, (Q6 2 [Q2 h5_0, Q2 h5_1])), (6, (Q6 1 [Q9 7 3 0 0])), (7, (Q71 3 0 2 0 0 11 8 0 (h7_1l + 1) h7_2)), (8, (Q6 1 [Q7 8 h8_0])), (9, (Q23 h9)), (10, (Q19 h10)), (11, (.arz 8 ((take h7_1l h11) ++ [[(Q1 v_0), (.str v_1), (Q1 v_2), (Q4 4 v_3), (Q1 v_4), (.str v_5), (Q1 v_6), (Q4 4 v_7)]])))] 12))) := by kernel_rfl
theorem v36_1azb (h0_0l : Nat) (h0_1l : Nat) (h5_0 : Int) (h5_1 : Int) (h7_1l : Nat) (h7_2 : Int) (h8_0 : RW) (h9 : RW) (h10 : RW) (h11 : RW) (r : TV) (Hs' : List AObj) : vcA Tryz.prog sh lv36 36 3 (fun r0 Hs0 => TV.Le r0 r ∧ Hs0 = Hs') (RPt Tryz.prog 36 3 r Hs') 1 ⟨[Q57 0 0 2, Q57 8 5 2, Q57 9 6 1, Q5 22 (.fn (.func 108) [] [(false, [(Q92 8)])])], [Q69 0 9 h0_0l 10 h0_1l, Q39 1, Q39 2, Q39 3, Q39 4, Q25 5 2 [Q2 h5_0, Q2 h5_1], Q25 6 1 [Q9 7 3 0 0], Q25 7 3 (Q66 0 2 0 0 11 8 0 h7_1l h7_2), Q25 8 1 [Q7 8 h8_0], Q67 9 h9, Q46 10 h10, Q73 11 8 h11], 12⟩ =
  (∃ z1 : Int × Sto × Nat × RW × Int, ((Q10 76 [Q88 3] (Q152 (Q71 3 1 2 0 0 4 8 0 h7_1l h7_2) (Q37 2 h0_0l 3 h0_1l) h9 h10 8 h11) (Q24 z1.1) (Q118 (Q71 3 1 2 0 0 7 8 0 z1.2.2.1 z1.2.2.2.2) 5 (length z1.2.1.V) 6 (length z1.2.1.T) (SR z1.2.1.V) (IR z1.2.1.T) 8 z1.2.2.2.1)) ∧ (br ((z1.1 : Int) != (0 : Int)) (∃ z2 : Sto, ((Q43 72 [Q88 2, .agg [Q2 h5_0, Q2 h5_1]] (Q127 (length z1.2.1.V) (length z1.2.1.T) (SR z1.2.1.V) (IR z1.2.1.T)) [] (Q113 3 (length z2.V) 4 (length z2.T) (SR z2.V) (IR z2.T))) ∧ (Q47 [Q31 0, Q31 z1.1] (Q113 3 (length z2.V) 4 (length z2.T) (SR z2.V) (IR z2.T)) r Hs'))) (Q47 [Q31 z1.2.2.2.2, Q31 0] (Q113 3 (length z1.2.1.V) 4 (length z1.2.1.T) (SR z1.2.1.V) (IR z1.2.1.T)) r Hs')))) := by kernel_rfl
def lv67 : List (Nat × List Nat) := []
theorem v67_F68 (t_0 : Int) (t_1 : List UInt8) (t_2 : Int) (t_3 : RW) (fuel : Int) (o0_0l o0_1l : Nat) (o1 o2 : RW) (r : TV) (Hs' : List AObj) : VE lv67 67 3 r Hs' (Q130 (Q83 t_0 t_1 t_2 t_3) fuel (.fn (.func 68) [(false, [(Q81 0 2)])] [])) (Q127 o0_0l o0_1l o1 o2) =
  (∃ b1 : Bool, ((Q70 20 [Q83 t_0 t_1 t_2 t_3] b1) ∧ (br (!b1) (Q47 (Q145 (Q49 0 [] 0) 0 1) (Q127 o0_0l o0_1l o1 o2) r Hs') (∃ z2 : Tm × Int × Int, ((Q43 68 (Q98 2 (Q83 t_0 t_1 t_2 t_3) (Q85 3 1)) [Q37 1 o0_0l 2 o0_1l, Q23 o1, Q19 o2, Q103 fuel] (Q147 (cT z2.1) z2.2.1) [Q37 1 o0_0l 2 o0_1l, Q23 o1, Q19 o2, Q103 z2.2.2]) ∧ (br ((z2.2.1 : Int) != (0 : Int)) (Q47 (Q145 (Q49 0 [] 0) 0 z2.2.1) (Q127 o0_0l o0_1l o1 o2) r Hs') (Q47 (Q145 (cT z2.1) z2.2.2 0) (Q127 o0_0l o0_1l o1 o2) r Hs'))))))) := by kernel_rfl
def lv26 : List (Nat × List Nat) := []
theorem v26 (t_0 : Int) (t_1 : List UInt8) (t_2 : Int) (t_3 : RW) (r : TV) (Hs' : List AObj) : VE lv26 26 0 r Hs' [Q83 t_0 t_1 t_2 t_3] [] =
  (∃ b1 : Bool, ((Q70 20 [Q83 t_0 t_1 t_2 t_3] b1) ∧ (br (!b1) (RT (Q83 t_0 t_1 t_2 t_3) [] r Hs') (∃ z2 : Tm, ((Q65 71 [Q83 t_0 t_1 t_2 t_3] (aT z2)) ∧ (RT (aT z2) [] r Hs')))))) := by kernel_rfl
def lv58 : List (Nat × List Nat) := [(1, [1, 2, 7, 27, 28, 29])]
theorem v58_F69 (t_0 : Int) (t_1 : List UInt8) (t_2 : Int) (t_3 : RW) (k o0_0 : Int) (r : TV) (Hs' : List AObj) : VE lv58 58 1 r Hs' (Q130 (Q83 t_0 t_1 t_2 t_3) k (.fn (.func 69) [] [(false, [Q112])])) (Q157 o0_0) =
  (br ((t_0 : Int) != (5 : Int)) (br ((t_0 : Int) != (6 : Int)) (∃ z1 : Int, ((Q43 69 (Q72 (Q83 t_0 t_1 t_2 t_3) k (Q88 1)) (Q157 o0_0) [] (Q157 z1)) ∧ (Q47 [] (Q157 z1) r Hs'))) (∃ y2 : FV, (∃ n3 : Int, ((Q43 88 [Q83 t_0 t_1 t_2 t_3] [] [Q20 [Q0 y2], Q31 n3] []) ∧ ((FV.isSl 4 y2 = true) ∧ (Q155 58 1 r Hs' (Q135 1 k (Q5 2 (.fn (.func 69) [] [(false, [Q112])])) 7 n3 27 y2 28 (length (FV.ses y2) : Int) 29 0) [Q106 0 1 o0_0] 1)))))) (∃ y4 : FV, (∃ n5 : Int, ((Q43 88 [Q83 t_0 t_1 t_2 t_3] [] [Q20 [Q0 y4], Q31 n5] []) ∧ ((FV.isSl 4 y4 = true) ∧ (Q155 58 1 r Hs' (Q135 1 k (Q5 2 (.fn (.func 69) [] [(false, [Q112])])) 7 n5 27 y4 28 (length (FV.ses y4) : Int) 29 0) [Q106 0 1 o0_0] 1)))))) := by kernel_rfl
theorem zdk (x1 x7 : Int) (x27 : FV) (x28 x29 h0_0 : Int) (r : TV) (Hs' : List AObj) : VQ lv58 58 1 r Hs' 1 ⟨Q135 1 x1 (Q5 2 (.fn (.func 69) [] [(false, [Q112])])) 7 x7 27 x27 28 x28 29 x29, [Q106 0 1 h0_0], 1⟩ =
  (br (decide ((x29 : Int) < x28)) (((FV.isSl 4 x27 = true) ∧ ((0 ≤ x29) ∧ ((x29 < (length (FV.ses x27) : Int)) ∧ (((rE (getD (FV.ses x27) (toNat x29) [])) : List FV) = (getD (FV.ses x27) (toNat x29) []))))) ∧ ((∃ z1 : Int, ((Q140 58 (aE (getD (FV.ses x27) (toNat x29) [])) (IntKind.wrap .i64 (x1 + x7)) (.fn (.func 69) [] [(false, [Q112])]) (Q157 h0_0) [] (Q157 z1)) ∧ (Q155 58 1 r Hs' (Q135 1 x1 (Q5 2 (.fn (.func 69) [] [(false, [Q112])])) 7 x7 27 x27 28 x28 29 (IntKind.wrap .i64 (x29 + 1))) [Q106 0 1 z1] 1))) ∨ ((∃ _ : Unit, ((Q140 58 (aE (getD (FV.ses x27) (toNat x29) [])) (IntKind.wrap .i64 (x1 + x7)) (.fn (.func 69) [] [(false, [Q112])]) (Q157 h0_0) [] (Q129 1)) ∧ (Q155 58 1 r Hs' (Q135 1 x1 (Q5 2 (.fn (.func 69) [] [(false, [Q112])])) 7 x7 27 x27 28 x28 29 (IntKind.wrap .i64 (x29 + 1))) [Q25 0 1 Q86] 1))) ∨ ((∃ z3 : Nat × RW, ((Q140 58 (aE (getD (FV.ses x27) (toNat x29) [])) (IntKind.wrap .i64 (x1 + x7)) (.fn (.func 69) [] [(false, [Q112])]) (Q157 h0_0) [] (Q137 1 1 1 0 z3.1 z3.2)) ∧ (Q155 58 1 r Hs' (Q135 1 x1 (Q5 2 (.fn (.func 69) [] [(false, [Q112])])) 7 x7 27 x27 28 x28 29 (IntKind.wrap .i64 (x29 + 1))) [Q25 0 1 (Q122 1 1 0 z3.1), Q46 1 z3.2] 2))) ∨ (∃ z4 : Nat × RW, ((Q140 58 (aE (getD (FV.ses x27) (toNat x29) [])) (IntKind.wrap .i64 (x1 + x7)) (.fn (.func 69) [] [(false, [Q112])]) (Q157 h0_0) [] (Q38 (Q123 1 2 1 0 z4.1) .gone z4.2)) ∧ (Q155 58 1 r Hs' (Q135 1 x1 (Q5 2 (.fn (.func 69) [] [(false, [Q112])])) 7 x7 27 x27 28 x28 29 (IntKind.wrap .i64 (x29 + 1))) [Q25 0 1 (Q122 1 1 0 z4.1), Q46 1 z4.2] 2))))))) (Q47 [] (Q157 h0_0) r Hs')) := by kernel_rfl
def lv70 : List (Nat × List Nat) := [(1, [0, 3, 9, 10, 11]), (5, [6, 25, 26, 27])]
theorem v70 (slices : RW) (r : TV) (Hs' : List AObj) : VE lv70 70 0 r Hs' [Q61 1 slices] [] =
  ((FV.isSl 1 (Q4 1 slices) = true) ∧ (Q155 70 0 r Hs' [Q54 0 1 slices, Q12 3 0, Q54 9 1 slices, Q12 10 (length slices : Int), Q12 11 0] [] 0)) := by kernel_rfl
theorem v70_1a (x0 : RW) (x3 : Int) (x9 : RW) (x10 x11 : Int) (r : TV) (Hs' : List AObj) : VQ lv70 70 0 r Hs' 1 ⟨[Q54 0 1 x0, Q12 3 x3, Q54 9 1 x9, Q12 10 x10, Q12 11 x11], [], 0⟩ =
  (br (decide ((x11 : Int) < x10)) (((FV.isSl 1 (Q4 1 x9) = true) ∧ ((0 ≤ x11) ∧ ((x11 < (length x9 : Int)) ∧ (([(getD (getD x9 (toNat x11) []) 0 FV.nils)] : List FV) = (getD x9 (toNat x11) []))))) ∧ ((FV.isSl 4 (getD (getD x9 (toNat x11) []) 0 FV.nils) = true) ∧ (br (decide (((IntKind.wrap .i64 (x3 + (((length (FV.ses (getD (getD x9 (toNat x11) []) 0 FV.nils))) : Nat) : Int))) : Int) < (0 : Int))) False (Q155 70 0 r Hs' [Q54 0 1 x0, Q12 3 (IntKind.wrap .i64 (x3 + (((length (FV.ses (getD (getD x9 (toNat x11) []) 0 FV.nils))) : Nat) : Int))), Q54 9 1 x9, Q12 10 x10, Q12 11 (IntKind.wrap .i64 (x11 + 1))] [] 0)))) ((∃ _ : Unit, ((Q65 103 (Q102 (.c Q26) x3) (.c Q26)) ∧ ((FV.isSl 1 (Q4 1 x0) = true) ∧ (Q52 70 0 r Hs' 5 (Q108 (Q134 6) (Q54 25 1 x0) 26 (length x0 : Int) 27 0) [] 0)))) ∨ (∃ _ : Unit, ((Q62 103 (Q102 (.c Q26) x3) (.c (Q3 0 4 0 0)) [.arz 4 []]) ∧ ((FV.isSl 1 (Q4 1 x0) = true) ∧ (Q52 70 0 r Hs' 5 (Q108 (Q156 6 0 0) (Q54 25 1 x0) 26 (length x0 : Int) 27 0) [Q73 0 4 []] 1)))))) := by kernel_rfl
theorem v70_5a (x25 : RW) (x26 x27 : Int) (r : TV) (Hs' : List AObj) : VQ lv70 70 0 r Hs' 5 ⟨Q108 (Q134 6) (Q54 25 1 x25) 26 x26 27 x27, [], 0⟩ =
  (br (decide ((x27 : Int) < x26)) (((FV.isSl 1 (Q4 1 x25) = true) ∧ ((0 ≤ x27) ∧ ((x27 < (length x25 : Int)) ∧ (([(getD (getD x25 (toNat x27) []) 0 FV.nils)] : List FV) = (getD x25 (toNat x27) []))))) ∧ ((FV.isSl 4 (getD (getD x25 (toNat x27) []) 0 FV.nils) = true) ∧ (br (List.isEmpty (FV.ses (getD (getD x25 (toNat x27) []) 0 FV.nils))) (Q52 70 0 r Hs' 5 (Q108 (Q134 6) (Q54 25 1 x25) 26 x26 27 (IntKind.wrap .i64 (x27 + 1))) [] 0) ((z0k (length (FV.ses (getD (getD x25 (toNat x27) []) 0 FV.nils))) 56) ∧ (Q52 70 0 r Hs' 5 (Q108 (Q156 6 0 (length (FV.ses (getD (getD x25 (toNat x27) []) 0 FV.nils)))) (Q54 25 1 x25) 26 x26 27 (IntKind.wrap .i64 (x27 + 1))) [Q73 0 4 (FV.ses (getD (getD x25 (toNat x27) []) 0 FV.nils))] 1))))) (RT (.c Q26) [] r Hs')) := by kernel_rfl
theorem v70_5b (x6l : Nat) (x25 : RW) (x26 x27 : Int) (h0 : RW) (r : TV) (Hs' : List AObj) : VQ lv70 70 0 r Hs' 5 ⟨Q108 (Q156 6 0 x6l) (Q54 25 1 x25) 26 x26 27 x27, [Q73 0 4 h0], 1⟩ =
  (br (decide ((x27 : Int) < x26)) (((FV.isSl 1 (Q4 1 x25) = true) ∧ ((0 ≤ x27) ∧ ((x27 < (length x25 : Int)) ∧ (([(getD (getD x25 (toNat x27) []) 0 FV.nils)] : List FV) = (getD x25 (toNat x27) []))))) ∧ ((FV.isSl 4 (getD (getD x25 (toNat x27) []) 0 FV.nils) = true) ∧ ((x6l ≤ (length h0) ∧ z0k (x6l + (length (FV.ses (getD (getD x25 (toNat x27) []) 0 FV.nils)))) 56) ∧ (Q52 70 0 r Hs' 5 (Q108 (Q156 6 0 (x6l + (length (FV.ses (getD (getD x25 (toNat x27) []) 0 FV.nils))))) (Q54 25 1 x25) 26 x26 27 (IntKind.wrap .i64 (x27 + 1))) [Q73 0 4 ((take x6l h0) ++ (FV.ses (getD (getD x25 (toNat x27) []) 0 FV.nils)))] 1)))) (((4 : Nat) = 4 ∧ (0 + x6l) ≤ (length h0)) ∧ (RT (Q153 (take x6l (drop 0 h0))) [] r Hs'))) := by kernel_rfl
def lv105 : List (Nat × List Nat) := [(1, [0, 1, 5, 6])]
theorem zsp (sl : Nat) (o0 : RW) (o1_0 : Int) (r : TV) (Hs' : List AObj) : VE lv105 105 2 r Hs' (Q121 (.c (Q3 0 1 0 sl)) (.fn (.func 106) [] [(false, [(Q92 1)])])) [Q19 o0, Q103 o1_0] =
  (∃ z1 : Int, ((Q10 132 (Q121 (.c (Q3 0 1 0 sl)) (.fn (.func 106) [] [(false, [(Q92 1)])])) [Q19 o0, Q103 o1_0] (Q24 z1) [Q19 o0, Q103 o1_0]) ∧ (br ((z1 : Int) == (-1 : Int)) (RT (.c (Q3 0 1 0 sl)) [Q19 o0, Q103 o1_0] r Hs') (Q155 105 2 r Hs' (Q108 (Q146 0 0 1 sl) (Q5 1 (.fn (.func 106) [] [(false, [(Q92 1)])])) 5 z1 6 (IntKind.wrap .i64 (z1 + 1))) [Q46 0 o0, Q106 1 1 o1_0] 2)))) := by kernel_rfl
def lv81 : List (Nat × List Nat) := [(1, [2, 5, 6])]
theorem v81 (t_0 : Int) (t_1 : List UInt8) (t_2 : Int) (t_3 : RW) (most : Int) (r : TV) (Hs' : List AObj) : VE lv81 81 0 r Hs' (Q102 (Q83 t_0 t_1 t_2 t_3) most) [] =
  (Q155 81 0 r Hs' [Q125 2 0, Q12 5 (IntKind.wrap .i64 (most - 1)), Q12 6 0] [Q95 0 4 t_0 t_1 t_2 4 t_3] 1) := by kernel_rfl
theorem v81_1a (x5 x6 h0_0 : Int) (h0_1 : List UInt8) (h0_2 : Int) (h0_3 : RW) (r : TV) (Hs' : List AObj) : VQ lv81 81 0 r Hs' 1 ⟨[Q125 2 0, Q12 5 x5, Q12 6 x6], [Q95 0 4 h0_0 h0_1 h0_2 4 h0_3], 1⟩ =
  ((FV.isSl 4 (Q4 4 h0_3) = true) ∧ (br (decide ((x6 : Int) < (length h0_3 : Int))) (br (decide ((x5 : Int) ≥ (0 : Int))) (((FV.isSl 4 (Q4 4 h0_3) = true) ∧ ((0 ≤ x6) ∧ ((x6 < (length h0_3 : Int)) ∧ (((rE (getD h0_3 (toNat x6) [])) : List FV) = (getD h0_3 (toNat x6) []))))) ∧ (∃ n1 : Int, ((Q65 81 (Q102 (aE (getD h0_3 (toNat x6) [])) x5) (Q24 n1)) ∧ (Q155 81 0 r Hs' [Q125 2 0, Q12 5 n1, Q12 6 (IntKind.wrap .i64 (x6 + 1))] [Q95 0 4 h0_0 h0_1 h0_2 4 h0_3] 1)))) (Q76 x5 [] r Hs')) (Q76 x5 [] r Hs'))) := by kernel_rfl
theorem v58_F59 (t_0 : Int) (t_1 : List UInt8) (t_2 : Int) (t_3 : RW) (k : Int) (r : TV) (Hs' : List AObj) : VE lv58 58 1 r Hs' (Q130 (Q83 t_0 t_1 t_2 t_3) k (.fn (.func 59) [] [(false, [Q112])])) (Q129 1) =
  (br ((t_0 : Int) != (5 : Int)) (br ((t_0 : Int) != (6 : Int)) ((∃ _ : Unit, ((Q43 59 (Q72 (Q83 t_0 t_1 t_2 t_3) k (Q88 1)) (Q129 1) [] (Q129 1)) ∧ (Q47 [] (Q129 1) r Hs'))) ∨ ((∃ z2 : Nat × RW, ((Q43 59 (Q72 (Q83 t_0 t_1 t_2 t_3) k (Q88 1)) (Q129 1) [] (Q137 1 1 1 0 z2.1 z2.2)) ∧ (Q47 [] (Q137 1 1 1 0 z2.1 z2.2) r Hs'))) ∨ (∃ z3 : Nat × RW, ((Q43 59 (Q72 (Q83 t_0 t_1 t_2 t_3) k (Q88 1)) (Q129 1) [] (Q38 (Q123 1 2 1 0 z3.1) .gone z3.2)) ∧ (Q47 [] (Q137 1 1 1 0 z3.1 z3.2) r Hs'))))) (∃ y4 : FV, (∃ n5 : Int, ((Q43 88 [Q83 t_0 t_1 t_2 t_3] [] [Q20 [Q0 y4], Q31 n5] []) ∧ ((FV.isSl 4 y4 = true) ∧ (Q155 58 1 r Hs' (Q135 1 k (Q5 2 (.fn (.func 59) [] [(false, [Q112])])) 7 n5 27 y4 28 (length (FV.ses y4) : Int) 29 0) [Q25 0 1 Q86] 1)))))) (∃ y6 : FV, (∃ n7 : Int, ((Q43 88 [Q83 t_0 t_1 t_2 t_3] [] [Q20 [Q0 y6], Q31 n7] []) ∧ ((FV.isSl 4 y6 = true) ∧ (Q155 58 1 r Hs' (Q135 1 k (Q5 2 (.fn (.func 59) [] [(false, [Q112])])) 7 n7 27 y6 28 (length (FV.ses y6) : Int) 29 0) [Q25 0 1 Q86] 1)))))) := by kernel_rfl
theorem zdp (x1 x7 : Int) (x27 : FV) (x28 x29 : Int) (r : TV) (Hs' : List AObj) : VQ lv58 58 1 r Hs' 1 ⟨Q135 1 x1 (Q5 2 (.fn (.func 59) [] [(false, [Q112])])) 7 x7 27 x27 28 x28 29 x29, [Q25 0 1 Q86], 1⟩ =
  (br (decide ((x29 : Int) < x28)) (((FV.isSl 4 x27 = true) ∧ ((0 ≤ x29) ∧ ((x29 < (length (FV.ses x27) : Int)) ∧ (((rE (getD (FV.ses x27) (toNat x29) [])) : List FV) = (getD (FV.ses x27) (toNat x29) []))))) ∧ ((∃ z1 : Int, ((Q140 58 (aE (getD (FV.ses x27) (toNat x29) [])) (IntKind.wrap .i64 (x1 + x7)) (.fn (.func 59) [] [(false, [Q112])]) (Q129 1) [] (Q157 z1)) ∧ (Q155 58 1 r Hs' (Q135 1 x1 (Q5 2 (.fn (.func 59) [] [(false, [Q112])])) 7 x7 27 x27 28 x28 29 (IntKind.wrap .i64 (x29 + 1))) [Q106 0 1 z1] 1))) ∨ ((∃ _ : Unit, ((Q140 58 (aE (getD (FV.ses x27) (toNat x29) [])) (IntKind.wrap .i64 (x1 + x7)) (.fn (.func 59) [] [(false, [Q112])]) (Q129 1) [] (Q129 1)) ∧ (Q155 58 1 r Hs' (Q135 1 x1 (Q5 2 (.fn (.func 59) [] [(false, [Q112])])) 7 x7 27 x27 28 x28 29 (IntKind.wrap .i64 (x29 + 1))) [Q25 0 1 Q86] 1))) ∨ ((∃ z3 : Nat × RW, ((Q140 58 (aE (getD (FV.ses x27) (toNat x29) [])) (IntKind.wrap .i64 (x1 + x7)) (.fn (.func 59) [] [(false, [Q112])]) (Q129 1) [] (Q137 1 1 1 0 z3.1 z3.2)) ∧ (Q155 58 1 r Hs' (Q135 1 x1 (Q5 2 (.fn (.func 59) [] [(false, [Q112])])) 7 x7 27 x27 28 x28 29 (IntKind.wrap .i64 (x29 + 1))) [Q25 0 1 (Q122 1 1 0 z3.1), Q46 1 z3.2] 2))) ∨ (∃ z4 : Nat × RW, ((Q140 58 (aE (getD (FV.ses x27) (toNat x29) [])) (IntKind.wrap .i64 (x1 + x7)) (.fn (.func 59) [] [(false, [Q112])]) (Q129 1) [] (Q38 (Q123 1 2 1 0 z4.1) .gone z4.2)) ∧ (Q155 58 1 r Hs' (Q135 1 x1 (Q5 2 (.fn (.func 59) [] [(false, [Q112])])) 7 x7 27 x27 28 x28 29 (IntKind.wrap .i64 (x29 + 1))) [Q25 0 1 (Q122 1 1 0 z4.1), Q46 1 z4.2] 2))))))) (Q47 [] (Q129 1) r Hs')) := by kernel_rfl
theorem ze0 (x1 x7 : Int) (x27 : FV) (x28 x29 : Int) (h0_0l : Nat) (h1 : RW) (r : TV) (Hs' : List AObj) : VQ lv58 58 1 r Hs' 1 ⟨Q135 1 x1 (Q5 2 (.fn (.func 59) [] [(false, [Q112])])) 7 x7 27 x27 28 x28 29 x29, [Q25 0 1 (Q122 1 1 0 h0_0l), Q46 1 h1], 2⟩ =
  (br (decide ((x29 : Int) < x28)) (((FV.isSl 4 x27 = true) ∧ ((0 ≤ x29) ∧ ((x29 < (length (FV.ses x27) : Int)) ∧ (((rE (getD (FV.ses x27) (toNat x29) [])) : List FV) = (getD (FV.ses x27) (toNat x29) []))))) ∧ ((∃ z1 : Int, ((Q140 58 (aE (getD (FV.ses x27) (toNat x29) [])) (IntKind.wrap .i64 (x1 + x7)) (.fn (.func 59) [] [(false, [Q112])]) (Q137 1 1 1 0 h0_0l h1) [] (Q157 z1)) ∧ (Q155 58 1 r Hs' (Q135 1 x1 (Q5 2 (.fn (.func 59) [] [(false, [Q112])])) 7 x7 27 x27 28 x28 29 (IntKind.wrap .i64 (x29 + 1))) [Q106 0 1 z1] 1))) ∨ ((∃ _ : Unit, ((Q140 58 (aE (getD (FV.ses x27) (toNat x29) [])) (IntKind.wrap .i64 (x1 + x7)) (.fn (.func 59) [] [(false, [Q112])]) (Q137 1 1 1 0 h0_0l h1) [] (Q129 1)) ∧ (Q155 58 1 r Hs' (Q135 1 x1 (Q5 2 (.fn (.func 59) [] [(false, [Q112])])) 7 x7 27 x27 28 x28 29 (IntKind.wrap .i64 (x29 + 1))) [Q25 0 1 Q86] 1))) ∨ ((∃ z3 : Nat × RW, ((Q140 58 (aE (getD (FV.ses x27) (toNat x29) [])) (IntKind.wrap .i64 (x1 + x7)) (.fn (.func 59) [] [(false, [Q112])]) (Q137 1 1 1 0 h0_0l h1) [] (Q137 1 1 1 0 z3.1 z3.2)) ∧ (Q155 58 1 r Hs' (Q135 1 x1 (Q5 2 (.fn (.func 59) [] [(false, [Q112])])) 7 x7 27 x27 28 x28 29 (IntKind.wrap .i64 (x29 + 1))) [Q25 0 1 (Q122 1 1 0 z3.1), Q46 1 z3.2] 2))) ∨ (∃ z4 : Nat × RW, ((Q140 58 (aE (getD (FV.ses x27) (toNat x29) [])) (IntKind.wrap .i64 (x1 + x7)) (.fn (.func 59) [] [(false, [Q112])]) (Q137 1 1 1 0 h0_0l h1) [] (Q38 (Q123 1 2 1 0 z4.1) .gone z4.2)) ∧ (Q155 58 1 r Hs' (Q135 1 x1 (Q5 2 (.fn (.func 59) [] [(false, [Q112])])) 7 x7 27 x27 28 x28 29 (IntKind.wrap .i64 (x29 + 1))) [Q25 0 1 (Q122 1 1 0 z4.1), Q46 1 z4.2] 2))))))) (Q47 [] (Q137 1 1 1 0 h0_0l h1) r Hs')) := by kernel_rfl
def lv73 : List (Nat × List Nat) := []
theorem v73_F74 (s : RW) (r : TV) (Hs' : List AObj) : VE lv73 73 0 r Hs' (Q121 (Q61 8 s) (.fn (.func 74) [] [])) [] =
  (∃ n1 : Int, ((Q65 107 (Q121 (Q61 8 s) (.fn (.func 74) [] [])) (Q24 n1)) ∧ (Q50 (decide ((n1 : Int) ≥ (0 : Int))) [] r Hs'))) := by kernel_rfl
def lv75 : List (Nat × List Nat) := []
theorem v75 (s : RW) (r : TV) (Hs' : List AObj) : VE lv75 75 0 r Hs' [Q61 8 s] [] =
  (RT (.c (.fn (.func 108) [] [(false, [Q112])])) (Q128 1 [Q7 8 s]) r Hs') := by kernel_rfl
def lv76 : List (Nat × List Nat) := [(1, [0]), (1000001, [2, 3])]
theorem v76 (o0_2 : Int) (o1_0l o1_1l : Nat) (o2 o3 : RW) (r : TV) (Hs' : List AObj) : VE lv76 76 4 r Hs' [Q88 3] (Q107 (Q6 3 (Q55 1 2 0 0 Q26 o0_2)) 2 o1_0l 3 o1_1l o2 o3) =
  (Q155 76 4 r Hs' [Q57 0 0 3] [Q25 0 3 (Q55 1 2 0 0 Q26 o0_2), Q69 1 4 o1_0l 5 o1_1l, Q39 2, Q39 3, Q67 4 o2, Q46 5 o3] 6) := by kernel_rfl
theorem v76_1a (h0_2 : Int) (h1_0l h1_1l : Nat) (h4 h5 : RW) (r : TV) (Hs' : List AObj) : VQ lv76 76 4 r Hs' 1 ⟨[Q57 0 0 3], [Q25 0 3 (Q55 1 2 0 0 Q26 h0_2), Q69 1 4 h1_0l 5 h1_1l, Q39 2, Q39 3, Q67 4 h4, Q46 5 h5], 6⟩ =
  ((FV.isSl 8 .nils = true) ∧ (Q76 0 (Q151 (Q6 3 (Q55 1 2 0 0 Q26 h0_2)) (Q37 4 h1_0l 5 h1_1l) h4 (Q19 h5)) r Hs')) := by kernel_rfl
def z7r : List (Nat × List Nat) := [(1, [0]), (1000001, [2, 3, 4])]
theorem v76_i1 (o0_1l : Nat) (o0_2 : Int) (o1_0l o1_1l : Nat) (o2 o3 o4 : RW) (r : TV) (Hs' : List AObj) : VE z7r 76 5 r Hs' [Q88 3] (Q152 (Q71 3 1 2 0 0 4 8 0 o0_1l o0_2) (Q37 2 o1_0l 3 o1_1l) o2 o3 8 o4) =
  (Q155 76 5 r Hs' [Q57 0 0 3] [Q25 0 3 (Q66 1 2 0 0 7 8 0 o0_1l o0_2), Q69 1 5 o1_0l 6 o1_1l, Q39 2, Q39 3, Q39 4, Q67 5 o2, Q46 6 o3, Q73 7 8 o4] 8) := by kernel_rfl
theorem z88 (h0_1l : Nat) (h0_2 : Int) (h1_0l h1_1l : Nat) (h5 h6 h7 : RW) (r : TV) (Hs' : List AObj) : VQ z7r 76 5 r Hs' 1 ⟨[Q57 0 0 3], [Q25 0 3 (Q66 1 2 0 0 7 8 0 h0_1l h0_2), Q69 1 5 h1_0l 6 h1_1l, Q39 2, Q39 3, Q39 4, Q67 5 h5, Q46 6 h6, Q73 7 8 h7], 8⟩ =
  (br (decide (((h0_1l : Int) : Int) > (0 : Int))) ((0 ≤ (IntKind.wrap .i64 ((h0_1l : Int) - (1 : Int))) ∧ (IntKind.wrap .i64 ((h0_1l : Int) - (1 : Int))) < (h0_1l : Int)) ∧ ((((0 + (toNat (IntKind.wrap .i64 ((h0_1l : Int) - (1 : Int))))) < (length h7)) ∧ ((([(Q1 (FV.asI (getD (getD h7 (0 + (toNat (IntKind.wrap .i64 ((h0_1l : Int) - (1 : Int))))) []) 0 FV.nils))), (.str (FV.asS (getD (getD h7 (0 + (toNat (IntKind.wrap .i64 ((h0_1l : Int) - (1 : Int))))) []) 1 FV.nils))), (Q1 (FV.asI (getD (getD h7 (0 + (toNat (IntKind.wrap .i64 ((h0_1l : Int) - (1 : Int))))) []) 2 FV.nils))), (getD (getD h7 (0 + (toNat (IntKind.wrap .i64 ((h0_1l : Int) - (1 : Int))))) []) 3 FV.nils), (Q1 (FV.asI (getD (getD h7 (0 + (toNat (IntKind.wrap .i64 ((h0_1l : Int) - (1 : Int))))) []) 4 FV.nils))), (.str (FV.asS (getD (getD h7 (0 + (toNat (IntKind.wrap .i64 ((h0_1l : Int) - (1 : Int))))) []) 5 FV.nils))), (Q1 (FV.asI (getD (getD h7 (0 + (toNat (IntKind.wrap .i64 ((h0_1l : Int) - (1 : Int))))) []) 6 FV.nils))), (getD (getD h7 (0 + (toNat (IntKind.wrap .i64 ((h0_1l : Int) - (1 : Int))))) []) 7 FV.nils)] : List FV) = (take 8 (drop 0 (getD h7 (0 + (toNat (IntKind.wrap .i64 ((h0_1l : Int) - (1 : Int))))) [])))) ∧ ((8 : Nat) = 8))) ∧ (((0 ≤ (0 : Int)) ∧ (((0 : Int) ≤ (IntKind.wrap .i64 ((h0_1l : Int) - (1 : Int)))) ∧ ((IntKind.wrap .i64 ((h0_1l : Int) - (1 : Int))) ≤ (h0_1l : Int)))) ∧ (br (decide ((h0_2 : Int) ≤ (0 : Int))) (Q76 80 (Q118 (Q71 3 1 2 0 0 7 8 0 (toNat (IntKind.wrap .i64 ((h0_1l : Int) - (1 : Int)))) h0_2) 5 h1_0l 6 h1_1l h5 h6 8 h7) r Hs') (∃ z1 : Int × Sto × Nat × RW × Int, ((Q10 109 [Q88 3, .agg [Q2 (FV.asI (getD (getD h7 (0 + (toNat (IntKind.wrap .i64 ((h0_1l : Int) - (1 : Int))))) []) 0 FV.nils)), Q8 (FV.asS (getD (getD h7 (0 + (toNat (IntKind.wrap .i64 ((h0_1l : Int) - (1 : Int))))) []) 1 FV.nils)), Q2 (FV.asI (getD (getD h7 (0 + (toNat (IntKind.wrap .i64 ((h0_1l : Int) - (1 : Int))))) []) 2 FV.nils)), Q0 (getD (getD h7 (0 + (toNat (IntKind.wrap .i64 ((h0_1l : Int) - (1 : Int))))) []) 3 FV.nils), Q2 (FV.asI (getD (getD h7 (0 + (toNat (IntKind.wrap .i64 ((h0_1l : Int) - (1 : Int))))) []) 4 FV.nils)), Q8 (FV.asS (getD (getD h7 (0 + (toNat (IntKind.wrap .i64 ((h0_1l : Int) - (1 : Int))))) []) 5 FV.nils)), Q2 (FV.asI (getD (getD h7 (0 + (toNat (IntKind.wrap .i64 ((h0_1l : Int) - (1 : Int))))) []) 6 FV.nils)), Q0 (getD (getD h7 (0 + (toNat (IntKind.wrap .i64 ((h0_1l : Int) - (1 : Int))))) []) 7 FV.nils)]] (Q152 (Q71 3 1 2 0 0 4 8 0 (toNat (IntKind.wrap .i64 ((h0_1l : Int) - (1 : Int)))) (IntKind.wrap .i64 (h0_2 - 1))) (Q37 2 h1_0l 3 h1_1l) h5 h6 8 h7) (Q24 z1.1) (Q118 (Q71 3 1 2 0 0 7 8 0 z1.2.2.1 z1.2.2.2.2) 5 (length z1.2.1.V) 6 (length z1.2.1.T) (SR z1.2.1.V) (IR z1.2.1.T) 8 z1.2.2.2.1)) ∧ (br ((z1.1 : Int) != (0 : Int)) (Q76 z1.1 (Q118 (Q71 3 1 2 0 0 7 8 0 z1.2.2.1 z1.2.2.2.2) 5 (length z1.2.1.V) 6 (length z1.2.1.T) (SR z1.2.1.V) (IR z1.2.1.T) 8 z1.2.2.2.1) r Hs') (Q155 76 5 r Hs' [Q57 0 0 3] [Q25 0 3 (Q66 1 2 0 0 7 8 0 z1.2.2.1 z1.2.2.2.2), Q69 1 5 (length z1.2.1.V) 6 (length z1.2.1.T), Q39 2, Q39 3, Q39 4, Q67 5 (SR z1.2.1.V), Q46 6 (IR z1.2.1.T), Q73 7 8 z1.2.2.2.1] 8)))))))) (Q76 0 (Q118 (Q71 3 1 2 0 0 7 8 0 h0_1l h0_2) 5 h1_0l 6 h1_1l h5 h6 8 h7) r Hs')) := by kernel_rfl
def lv20 : List (Nat × List Nat) := []
theorem v20 (t_0 : Int) (t_1 : List UInt8) (t_2 : Int) (t_3 : RW) (r : TV) (Hs' : List AObj) : VE lv20 20 0 r Hs' [Q83 t_0 t_1 t_2 t_3] [] =
  (br ((t_0 : Int) == (0 : Int)) (∃ b1 : Bool, ((Q70 64 [.c (Q8 t_1)] b1) ∧ (br b1 (br ((t_2 : Int) == (0 : Int)) ((FV.isSl 4 (Q4 4 t_3) = true) ∧ (Q50 (((length t_3 : Int) : Int) == (0 : Int)) [] r Hs')) (Q82 [] r Hs')) (∃ b2 : Bool, ((Q70 65 [.c (Q8 t_1)] b2) ∧ (br b2 (br ((t_2 : Int) == (0 : Int)) ((FV.isSl 4 (Q4 4 t_3) = true) ∧ (Q50 (((length t_3 : Int) : Int) == (0 : Int)) [] r Hs')) (Q82 [] r Hs')) (Q82 [] r Hs'))))))) (br ((t_0 : Int) == (1 : Int)) (br (decide ((t_2 : Int) ≥ (1 : Int))) (br ((t_1 : List UInt8) == []) ((FV.isSl 4 (Q4 4 t_3) = true) ∧ (br (((length t_3 : Int) : Int) == (0 : Int)) (∃ z3 : Bool, ((Q70 49 (Q154 t_3 (.fn (.func 66) [] [])) z3) ∧ (Q50 (!z3) [] r Hs'))) (Q82 [] r Hs'))) (Q82 [] r Hs')) (Q82 [] r Hs')) (br ((t_0 : Int) == (2 : Int)) (br ((t_1 : List UInt8) == []) ((FV.isSl 4 (Q4 4 t_3) = true) ∧ (br (((length t_3 : Int) : Int) == (0 : Int)) (∃ z4 : Bool, ((Q70 49 (Q154 t_3 (.fn (.func 66) [] [])) z4) ∧ (Q50 (!z4) [] r Hs'))) (Q82 [] r Hs'))) (Q82 [] r Hs')) (br ((t_0 : Int) == (3 : Int)) (br (decide ((t_2 : Int) ≥ (0 : Int))) (br (decide ((t_2 : Int) ≤ (4611686018427387904 : Int))) (br ((t_1 : List UInt8) == []) ((FV.isSl 4 (Q4 4 t_3) = true) ∧ (br (((length t_3 : Int) : Int) == (0 : Int)) (∃ z5 : Bool, ((Q70 49 (Q154 t_3 (.fn (.func 66) [] [])) z5) ∧ (Q50 (!z5) [] r Hs'))) (Q82 [] r Hs'))) (Q82 [] r Hs')) (Q82 [] r Hs')) (Q82 [] r Hs')) (br ((t_0 : Int) == (4 : Int)) (br (decide ((t_2 : Int) ≥ (0 : Int))) (br (decide ((t_2 : Int) ≤ (4611686018427387904 : Int))) (br ((t_1 : List UInt8) == []) ((FV.isSl 4 (Q4 4 t_3) = true) ∧ (br (((length t_3 : Int) : Int) == (0 : Int)) (∃ z6 : Bool, ((Q70 49 (Q154 t_3 (.fn (.func 66) [] [])) z6) ∧ (Q50 (!z6) [] r Hs'))) (Q82 [] r Hs'))) (Q82 [] r Hs')) (Q82 [] r Hs')) (Q82 [] r Hs')) (br ((t_0 : Int) == (5 : Int)) (br ((t_2 : Int) == (0 : Int)) (br ((t_1 : List UInt8) == []) ((FV.isSl 4 (Q4 4 t_3) = true) ∧ (br (((length t_3 : Int) : Int) == (1 : Int)) (∃ z7 : Bool, ((Q70 49 (Q154 t_3 (.fn (.func 66) [] [])) z7) ∧ (Q50 (!z7) [] r Hs'))) (Q82 [] r Hs'))) (Q82 [] r Hs')) (Q82 [] r Hs')) (br ((t_0 : Int) == (6 : Int)) (br ((t_2 : Int) == (0 : Int)) ((FV.isSl 4 (Q4 4 t_3) = true) ∧ (br (decide (((length t_3 : Int) : Int) ≥ (2 : Int))) (((FV.isSl 4 (Q4 4 t_3) = true) ∧ ((0 ≤ (0 : Int)) ∧ (((0 : Int) < (length t_3 : Int)) ∧ (((rE (getD t_3 0 [])) : List FV) = (getD t_3 0 []))))) ∧ ((FV.isSl 4 (Q4 4 t_3) = true) ∧ (br (((FV.asI (getD (getD t_3 0 []) 0 FV.nils)) : Int) != (6 : Int)) (br ((t_1 : List UInt8) == []) ((FV.isSl 4 (Q4 4 t_3) = true) ∧ (br (((length t_3 : Int) : Int) == (length t_3 : Int)) (∃ z8 : Bool, ((Q70 49 (Q154 t_3 (.fn (.func 66) [] [])) z8) ∧ (Q50 (!z8) [] r Hs'))) (Q82 [] r Hs'))) (Q82 [] r Hs')) (Q82 [] r Hs')))) ((FV.isSl 4 (Q4 4 t_3) = true) ∧ (Q82 [] r Hs')))) ((FV.isSl 4 (Q4 4 t_3) = true) ∧ (Q82 [] r Hs'))) (Q82 [] r Hs')))))))) := by kernel_rfl
def lv68 : List (Nat × List Nat) := [(1, [0, 2, 4, 6, 9, 36, 37])]
theorem v68 (t_0 : Int) (t_1 : List UInt8) (t_2 : Int) (t_3 : RW) (o0_0l o0_1l : Nat) (o1 o2 : RW) (o3_0 : Int) (r : TV) (Hs' : List AObj) : VE lv68 68 4 r Hs' (Q98 2 (Q83 t_0 t_1 t_2 t_3) (Q85 3 1)) [Q37 1 o0_0l 2 o0_1l, Q23 o1, Q19 o2, Q103 o3_0] =
  (br (decide ((o3_0 : Int) ≤ (0 : Int))) (Q47 (Q147 (Q49 0 [] 0) 80) [Q37 1 o0_0l 2 o0_1l, Q23 o1, Q19 o2, Q103 o3_0] r Hs') (∃ z1 : Tm × Int × Int, ((Q43 101 (Q98 2 (Q83 t_0 t_1 t_2 t_3) (Q85 3 1)) [Q37 1 o0_0l 2 o0_1l, Q23 o1, Q19 o2, Q103 (IntKind.wrap .i64 (o3_0 - 1))] (Q147 (cT z1.1) z1.2.1) [Q37 1 o0_0l 2 o0_1l, Q23 o1, Q19 o2, Q103 z1.2.2]) ∧ (br ((z1.2.1 : Int) != (0 : Int)) (Q47 (Q147 (Q49 0 [] 0) z1.2.1) [Q37 1 o0_0l 2 o0_1l, Q23 o1, Q19 o2, Q103 z1.2.2] r Hs') ((∃ z2 : Bool, ((Q65 102 [Q153 (FTs z1.1.l)] (.c (Q0 (.sl z2 4 [])))) ∧ ((FV.isSl 4 (.sl z2 4 []) = true) ∧ (Q155 68 4 r Hs' [Q57 0 0 2, Q57 2 3 1, Q125 4 4, Q125 6 5, Q90 9 (.sl z2 4 []), Q12 36 0, Q12 37 0] [Q69 0 1 o0_0l 2 o0_1l, Q67 1 o1, Q46 2 o2, Q106 3 1 z1.2.2, Q25 4 4 (cT z1.1), Q87 5 4 0 [] 0] 6)))) ∨ (∃ z3 : RW, ((Q62 102 [Q153 (FTs z1.1.l)] (.c (Q3 0 4 0 (length z3))) [.arz 4 z3]) ∧ (Q155 68 4 r Hs' [Q57 0 0 2, Q57 2 3 1, Q125 4 4, Q125 6 5, Q156 9 6 (length z3), Q12 36 (length z3 : Int), Q12 37 0] [Q69 0 1 o0_0l 2 o0_1l, Q67 1 o1, Q46 2 o2, Q106 3 1 z1.2.2, Q25 4 4 (cT z1.1), Q87 5 4 0 [] 0, Q73 6 4 z3] 7)))))))) := by kernel_rfl
theorem v68_1a (x9n : Bool) (x9 : RW) (x36 x37 : Int) (h0_0l h0_1l : Nat) (h1 h2 : RW) (h3_0 h4_0 : Int) (h4_1 : List UInt8) (h4_2 : Int) (h4_3 : RW) (h5_0 : Int) (h5_1 : List UInt8) (h5_2 : Int) (r : TV) (Hs' : List AObj) : VQ lv68 68 4 r Hs' 1 ⟨[Q57 0 0 2, Q57 2 3 1, Q125 4 4, Q125 6 5, Q90 9 (.sl x9n 4 x9), Q12 36 x36, Q12 37 x37], [Q69 0 1 h0_0l 2 h0_1l, Q67 1 h1, Q46 2 h2, Q106 3 1 h3_0, Q95 4 4 h4_0 h4_1 h4_2 4 h4_3, Q87 5 4 h5_0 h5_1 h5_2], 6⟩ =
  (br (decide ((x37 : Int) < x36)) (br ((h4_0 : Int) == (6 : Int)) (br ((x37 : Int) == (0 : Int)) (Q155 68 4 r Hs' [Q57 0 0 2, Q57 2 3 1, Q125 4 4, Q125 6 5, Q90 9 (.sl x9n 4 x9), Q12 36 x36, Q12 37 (IntKind.wrap .i64 (x37 + 1))] [Q69 0 1 h0_0l 2 h0_1l, Q67 1 h1, Q46 2 h2, Q106 3 1 h3_0, Q95 4 4 h4_0 h4_1 h4_2 4 h4_3, Q87 5 4 h5_0 h5_1 h5_2] 6) (((FV.isSl 4 (.sl x9n 4 x9) = true) ∧ ((0 ≤ x37) ∧ ((x37 < (length x9 : Int)) ∧ (((rE (getD x9 (toNat x37) [])) : List FV) = (getD x9 (toNat x37) []))))) ∧ (∃ z1 : Tm × Int × Int, ((Q43 68 (Q98 2 (aE (getD x9 (toNat x37) [])) (Q85 3 1)) [Q37 1 h0_0l 2 h0_1l, Q23 h1, Q19 h2, Q103 h3_0] (Q147 (cT z1.1) z1.2.1) [Q37 1 h0_0l 2 h0_1l, Q23 h1, Q19 h2, Q103 z1.2.2]) ∧ (((FV.isSl 4 (.sl x9n 4 x9) = true) ∧ ((0 ≤ x37) ∧ ((x37 < (length x9 : Int)) ∧ (((rE (getD x9 (toNat x37) [])) : List FV) = (getD x9 (toNat x37) []))))) ∧ False))))) (((FV.isSl 4 (.sl x9n 4 x9) = true) ∧ ((0 ≤ x37) ∧ ((x37 < (length x9 : Int)) ∧ (((rE (getD x9 (toNat x37) [])) : List FV) = (getD x9 (toNat x37) []))))) ∧ (∃ z2 : Tm × Int × Int, ((Q43 68 (Q98 2 (aE (getD x9 (toNat x37) [])) (Q85 3 1)) [Q37 1 h0_0l 2 h0_1l, Q23 h1, Q19 h2, Q103 h3_0] (Q147 (cT z2.1) z2.2.1) [Q37 1 h0_0l 2 h0_1l, Q23 h1, Q19 h2, Q103 z2.2.2]) ∧ (((FV.isSl 4 (.sl x9n 4 x9) = true) ∧ ((0 ≤ x37) ∧ ((x37 < (length x9 : Int)) ∧ (((rE (getD x9 (toNat x37) [])) : List FV) = (getD x9 (toNat x37) []))))) ∧ False))))) (Q47 (Q147 (Q15 h4_0 h4_1 h4_2 (Q0 (.sl x9n 4 x9))) 0) [Q37 1 h0_0l 2 h0_1l, Q23 h1, Q19 h2, Q103 h3_0] r Hs')) := by kernel_rfl
theorem v68_1b (x9l : Nat) (x36 x37 : Int) (h0_0l h0_1l : Nat) (h1 h2 : RW) (h3_0 h4_0 : Int) (h4_1 : List UInt8) (h4_2 : Int) (h4_3 : RW) (h5_0 : Int) (h5_1 : List UInt8) (h5_2 : Int) (h6 : RW) (r : TV) (Hs' : List AObj) : VQ lv68 68 4 r Hs' 1 ⟨[Q57 0 0 2, Q57 2 3 1, Q125 4 4, Q125 6 5, Q156 9 6 x9l, Q12 36 x36, Q12 37 x37], [Q69 0 1 h0_0l 2 h0_1l, Q67 1 h1, Q46 2 h2, Q106 3 1 h3_0, Q95 4 4 h4_0 h4_1 h4_2 4 h4_3, Q87 5 4 h5_0 h5_1 h5_2, Q73 6 4 h6], 7⟩ =
  (br (decide ((x37 : Int) < x36)) (br ((h4_0 : Int) == (6 : Int)) (br ((x37 : Int) == (0 : Int)) (Q155 68 4 r Hs' [Q57 0 0 2, Q57 2 3 1, Q125 4 4, Q125 6 5, Q156 9 6 x9l, Q12 36 x36, Q12 37 (IntKind.wrap .i64 (x37 + 1))] [Q69 0 1 h0_0l 2 h0_1l, Q67 1 h1, Q46 2 h2, Q106 3 1 h3_0, Q95 4 4 h4_0 h4_1 h4_2 4 h4_3, Q87 5 4 h5_0 h5_1 h5_2, Q73 6 4 h6] 7) ((0 ≤ x37 ∧ x37 < (x9l : Int)) ∧ ((((0 + (toNat x37)) < (length h6)) ∧ ((((rE (getD h6 (0 + (toNat x37)) [])) : List FV) = (take 4 (drop 0 (getD h6 (0 + (toNat x37)) [])))) ∧ ((4 : Nat) = 4))) ∧ (∃ z1 : Tm × Int × Int, ((Q43 68 (Q98 2 (aE (getD h6 (0 + (toNat x37)) [])) (Q85 3 1)) [Q37 1 h0_0l 2 h0_1l, Q23 h1, Q19 h2, Q103 h3_0] (Q147 (cT z1.1) z1.2.1) [Q37 1 h0_0l 2 h0_1l, Q23 h1, Q19 h2, Q103 z1.2.2]) ∧ ((0 ≤ x37 ∧ x37 < (x9l : Int)) ∧ (((0 + (toNat x37)) < (length h6) ∧ (length (getD h6 (0 + (toNat x37)) [])) = 4) ∧ (br ((z1.2.1 : Int) != (0 : Int)) (Q47 (Q147 (Q49 0 [] 0) z1.2.1) [Q37 1 h0_0l 2 h0_1l, Q23 h1, Q19 h2, Q103 z1.2.2] r Hs') (Q155 68 4 r Hs' [Q57 0 0 2, Q57 2 3 1, Q125 4 4, Q125 6 5, Q156 9 6 x9l, Q12 36 x36, Q12 37 (IntKind.wrap .i64 (x37 + 1))] [Q69 0 1 h0_0l 2 h0_1l, Q67 1 h1, Q46 2 h2, Q106 3 1 z1.2.2, Q95 4 4 h4_0 h4_1 h4_2 4 h4_3, Q87 5 4 h5_0 h5_1 h5_2, Q73 6 4 (List.set h6 (0 + (toNat x37)) (FT4 z1.1))] 7))))))))) ((0 ≤ x37 ∧ x37 < (x9l : Int)) ∧ ((((0 + (toNat x37)) < (length h6)) ∧ ((((rE (getD h6 (0 + (toNat x37)) [])) : List FV) = (take 4 (drop 0 (getD h6 (0 + (toNat x37)) [])))) ∧ ((4 : Nat) = 4))) ∧ (∃ z2 : Tm × Int × Int, ((Q43 68 (Q98 2 (aE (getD h6 (0 + (toNat x37)) [])) (Q85 3 1)) [Q37 1 h0_0l 2 h0_1l, Q23 h1, Q19 h2, Q103 h3_0] (Q147 (cT z2.1) z2.2.1) [Q37 1 h0_0l 2 h0_1l, Q23 h1, Q19 h2, Q103 z2.2.2]) ∧ ((0 ≤ x37 ∧ x37 < (x9l : Int)) ∧ (((0 + (toNat x37)) < (length h6) ∧ (length (getD h6 (0 + (toNat x37)) [])) = 4) ∧ (br ((z2.2.1 : Int) != (0 : Int)) (Q47 (Q147 (Q49 0 [] 0) z2.2.1) [Q37 1 h0_0l 2 h0_1l, Q23 h1, Q19 h2, Q103 z2.2.2] r Hs') (Q155 68 4 r Hs' [Q57 0 0 2, Q57 2 3 1, Q125 4 4, Q125 6 5, Q156 9 6 x9l, Q12 36 x36, Q12 37 (IntKind.wrap .i64 (x37 + 1))] [Q69 0 1 h0_0l 2 h0_1l, Q67 1 h1, Q46 2 h2, Q106 3 1 z2.2.2, Q95 4 4 h4_0 h4_1 h4_2 4 h4_3, Q87 5 4 h5_0 h5_1 h5_2, Q73 6 4 (List.set h6 (0 + (toNat x37)) (FT4 z2.1))] 7))))))))) ((((4 : Nat) = 4 ∧ (0 + x9l) ≤ (length h6)) ∧ True) ∧ (Q47 (Q147 (Q22 h4_0 h4_1 h4_2 4 (take x9l (drop 0 h6))) 0) [Q37 1 h0_0l 2 h0_1l, Q23 h1, Q19 h2, Q103 h3_0] r Hs'))) := by kernel_rfl
def lv71 : List (Nat × List Nat) := [(3, [2, 6, 30, 31, 32])]
theorem v71 (t_0 : Int) (t_1 : List UInt8) (t_2 : Int) (t_3 : RW) (r : TV) (Hs' : List AObj) : VE lv71 71 0 r Hs' [Q83 t_0 t_1 t_2 t_3] [] =
  (br ((t_0 : Int) == (5 : Int)) (((FV.isSl 4 (Q4 4 t_3) = true) ∧ ((0 ≤ (0 : Int)) ∧ (((0 : Int) < (length t_3 : Int)) ∧ (((rE (getD t_3 0 [])) : List FV) = (getD t_3 0 []))))) ∧ (∃ z1 : Tm, ((Q65 71 [(aE (getD t_3 0 []))] (aT z1)) ∧ (∃ z2 : Tm × Bool, ((Q43 104 [(aT z1)] [] (Q110 (cT z2.1) z2.2) []) ∧ (br z2.2 (RT (aT z2.1) [] r Hs') (∃ z3 : Tm, ((Q65 45 [Q24 1, (aT z1)] (aT z3)) ∧ (RT (aT z3) [] r Hs'))))))))) (br ((t_0 : Int) == (6 : Int)) ((FV.isSl 4 (Q4 4 t_3) = true) ∧ (Q52 71 0 r Hs' 3 [Q125 2 0, Q134 6, Q144 30 t_3, Q12 31 (length t_3 : Int), Q12 32 0] [Q87 0 4 0 [] 0] 1)) (RT (Q83 t_0 t_1 t_2 t_3) [] r Hs'))) := by kernel_rfl
theorem v71_3a (x30 : RW) (x31 x32 h0_0 : Int) (h0_1 : List UInt8) (h0_2 : Int) (r : TV) (Hs' : List AObj) : VQ lv71 71 0 r Hs' 3 ⟨[Q125 2 0, Q134 6, Q144 30 x30, Q12 31 x31, Q12 32 x32], [Q87 0 4 h0_0 h0_1 h0_2], 1⟩ =
  (br (decide ((x32 : Int) < x31)) (((FV.isSl 4 (Q4 4 x30) = true) ∧ ((0 ≤ x32) ∧ ((x32 < (length x30 : Int)) ∧ (((rE (getD x30 (toNat x32) [])) : List FV) = (getD x30 (toNat x32) []))))) ∧ (∃ z1 : Tm, ((Q65 71 [(aE (getD x30 (toNat x32) []))] (aT z1)) ∧ ((1 ≤ 1) ∧ ((z0k 1 56) ∧ (Q52 71 0 r Hs' 3 [Q125 2 0, Q156 6 1 1, Q144 30 x30, Q12 31 x31, Q12 32 (IntKind.wrap .i64 (x32 + 1))] [Q87 0 4 h0_0 h0_1 h0_2, Q73 1 4 [(FT4 z1)]] 2)))))) (((FV.isSl 4 .nils = true) ∧ ((0 ≤ (0 : Int)) ∧ (((0 : Int) < ((0 : Nat) : Int)) ∧ (([(Q1 0), (.str []), (Q1 0), .nils] : List FV) = [])))) ∧ ((FV.isSl 4 .nils = true) ∧ (((0 ≤ (1 : Int)) ∧ (((1 : Int) ≤ (0 : Int)) ∧ ((0 : Int) ≤ ((0 : Nat) : Int)))) ∧ (∃ z2 : Tm, ((Q65 24 (Q121 (.agg (Q49 0 [] 0)) Q26) (aT z2)) ∧ (RT (aT z2) [] r Hs'))))))) := by kernel_rfl
theorem v71_3b (x6l : Nat) (x30 : RW) (x31 x32 h0_0 : Int) (h0_1 : List UInt8) (h0_2 : Int) (h1 : RW) (r : TV) (Hs' : List AObj) : VQ lv71 71 0 r Hs' 3 ⟨[Q125 2 0, Q156 6 1 x6l, Q144 30 x30, Q12 31 x31, Q12 32 x32], [Q87 0 4 h0_0 h0_1 h0_2, Q73 1 4 h1], 2⟩ =
  (br (decide ((x32 : Int) < x31)) (((FV.isSl 4 (Q4 4 x30) = true) ∧ ((0 ≤ x32) ∧ ((x32 < (length x30 : Int)) ∧ (((rE (getD x30 (toNat x32) [])) : List FV) = (getD x30 (toNat x32) []))))) ∧ (∃ z1 : Tm, ((Q65 71 [(aE (getD x30 (toNat x32) []))] (aT z1)) ∧ ((1 ≤ 1) ∧ ((x6l ≤ (length h1) ∧ z0k (x6l + 1) 56) ∧ (Q52 71 0 r Hs' 3 [Q125 2 0, Q156 6 1 (x6l + 1), Q144 30 x30, Q12 31 x31, Q12 32 (IntKind.wrap .i64 (x32 + 1))] [Q87 0 4 h0_0 h0_1 h0_2, Q73 1 4 ((take x6l h1) ++ [(FT4 z1)])] 2)))))) ((0 ≤ (0 : Int) ∧ (0 : Int) < (x6l : Int)) ∧ (((0 < (length h1)) ∧ ((((rE (getD h1 0 [])) : List FV) = (take 4 (drop 0 (getD h1 0 [])))) ∧ ((4 : Nat) = 4))) ∧ (((0 ≤ (1 : Int)) ∧ (((1 : Int) ≤ (x6l : Int)) ∧ ((x6l : Int) ≤ (x6l : Int)))) ∧ (((4 : Nat) = 4 ∧ (1 + ((toNat (x6l : Int)) - 1)) ≤ (length h1)) ∧ (∃ z2 : Tm, ((Q65 24 [(aE (getD h1 0 [])), Q153 (take ((toNat (x6l : Int)) - 1) (drop 1 h1))] (aT z2)) ∧ (RT (aT z2) [] r Hs')))))))) := by kernel_rfl
def lv69 : List (Nat × List Nat) := []
theorem v69 (u_0 : Int) (u_1 : List UInt8) (u_2 : Int) (u_3 : RW) (k o0_0 : Int) (r : TV) (Hs' : List AObj) : VE lv69 69 1 r Hs' (Q72 (Q83 u_0 u_1 u_2 u_3) k (Q88 1)) (Q157 o0_0) =
  (br ((u_0 : Int) == (3 : Int)) (Q47 [] (Q157 (z0f [o0_0, (IntKind.wrap .i64 ((IntKind.wrap .i64 (u_2 - k)) + (1 : Int)))])) r Hs') (Q47 [] (Q157 o0_0) r Hs')) := by kernel_rfl
def lv88 : List (Nat × List Nat) := []
theorem v88 (t_0 : Int) (t_1 : List UInt8) (t_2 : Int) (t_3 : RW) (r : TV) (Hs' : List AObj) : VE lv88 88 0 r Hs' [Q83 t_0 t_1 t_2 t_3] [] =
  (br ((t_0 : Int) == (5 : Int)) (Q47 [Q20 [Q138 t_3], Q31 1] [] r Hs') (br ((t_0 : Int) == (6 : Int)) (Q47 [Q20 [Q138 t_3], Q31 0] [] r Hs') (Q47 [Q20 Q86, Q31 0] [] r Hs'))) := by kernel_rfl
def lv103 : List (Nat × List Nat) := []
theorem v103 (n : Int) (r : TV) (Hs' : List AObj) : VE lv103 103 0 r Hs' (Q102 (.c Q26) n) [] =
  (br (decide ((n : Int) < (0 : Int))) False ((FV.isSl 4 .nils = true) ∧ (br (decide (((IntKind.wrap .i64 (n - 0)) : Int) > (0 : Int))) ((FV.isSl 4 .nils = true) ∧ (((0 ≤ (0 : Int)) ∧ (((0 : Int) ≤ (0 : Int)) ∧ ((0 : Int) ≤ ((0 : Nat) : Int)))) ∧ ((0 < (IntKind.wrap .i64 (n - 0)) ∧ z0k (toNat (IntKind.wrap .i64 (n - 0))) 56) ∧ ((FV.isSl 4 .nils = true) ∧ (((0 ≤ (0 : Int)) ∧ (((0 : Int) ≤ (0 : Int)) ∧ ((0 : Int) ≤ (((toNat (IntKind.wrap .i64 (n - 0))) : Nat) : Int)))) ∧ (RT (.c (Q3 0 4 0 0)) [.arz 4 []] r Hs')))))) (RT (.c Q26) [] r Hs')))) := by kernel_rfl
def zq8 : List (Nat × List Nat) := [(1, [0, 1, 7, 8])]
theorem zr2 (sl : Nat) (o0 : RW) (o1_0 : Int) (r : TV) (Hs' : List AObj) : VE zq8 132 2 r Hs' (Q121 (.c (Q3 0 1 0 sl)) (.fn (.func 106) [] [(false, [(Q92 1)])])) [Q19 o0, Q103 o1_0] =
  (Q155 132 2 r Hs' (Q108 (Q146 0 0 1 sl) (Q5 1 (.fn (.func 106) [] [(false, [(Q92 1)])])) 7 (sl : Int) 8 0) [Q46 0 o0, Q106 1 1 o1_0] 2) := by kernel_rfl
theorem zab (x0l : Nat) (x7 x8 : Int) (h0 : RW) (h1_0 : Int) (r : TV) (Hs' : List AObj) : VQ zq8 132 2 r Hs' 1 ⟨Q108 (Q146 0 0 1 x0l) (Q5 1 (.fn (.func 106) [] [(false, [(Q92 1)])])) 7 x7 8 x8, [Q46 0 h0, Q106 1 1 h1_0], 2⟩ =
  (br (decide ((x8 : Int) < x7)) ((0 ≤ x8 ∧ x8 < (x0l : Int)) ∧ ((((0 + (toNat x8)) < (length h0)) ∧ ((([(Q1 (FV.asI (getD (getD h0 (0 + (toNat x8)) []) 0 FV.nils)))] : List FV) = (take 1 (drop 0 (getD h0 (0 + (toNat x8)) [])))) ∧ ((1 : Nat) = 1))) ∧ (∃ b1 : Bool, ((Q10 106 [Q24 (FV.asI (getD (getD h0 (0 + (toNat x8)) []) 0 FV.nils)), Q88 1] (Q157 h1_0) (Q32 b1) (Q157 h1_0)) ∧ (br b1 (Q76 x8 [Q19 h0, Q103 h1_0] r Hs') (Q155 132 2 r Hs' (Q108 (Q146 0 0 1 x0l) (Q5 1 (.fn (.func 106) [] [(false, [(Q92 1)])])) 7 x7 8 (IntKind.wrap .i64 (x8 + 1))) [Q46 0 h0, Q106 1 1 h1_0] 2)))))) (Q76 (-1 : Int) [Q19 h0, Q103 h1_0] r Hs')) := by kernel_rfl
def lv106 : List (Nat × List Nat) := []
theorem v106 (x o0_0 : Int) (r : TV) (Hs' : List AObj) : VE lv106 106 1 r Hs' [Q24 x, Q88 1] (Q157 o0_0) =
  (Q50 (decide ((x : Int) ≥ o0_0)) (Q157 o0_0) r Hs') := by kernel_rfl
def lv59 : List (Nat × List Nat) := []
theorem v59 (u_0 : Int) (u_1 : List UInt8) (u_2 : Int) (u_3 : RW) (a1 : Int) (r : TV) (Hs' : List AObj) : VE lv59 59 1 r Hs' (Q72 (Q83 u_0 u_1 u_2 u_3) a1 (Q88 1)) (Q129 1) =
  (br ((u_0 : Int) == (4 : Int)) (∃ b1 : Bool, ((Q70 60 (Q102 (.c Q26) u_2) b1) ∧ (br (!b1) ((1 ≤ 1) ∧ ((z0k 1 8) ∧ (Q47 [] (Q137 1 1 1 0 1 [[(Q1 u_2)]]) r Hs'))) (Q47 [] (Q129 1) r Hs')))) (Q47 [] (Q129 1) r Hs')) := by kernel_rfl
theorem znj (t_0 : Int) (t_1 : List UInt8) (t_2 : Int) (t_3 : RW) (k : Int) (o0_0l : Nat) (o1 : RW) (r : TV) (Hs' : List AObj) : VE lv58 58 2 r Hs' (Q130 (Q83 t_0 t_1 t_2 t_3) k (.fn (.func 59) [] [(false, [Q112])])) (Q137 1 1 1 0 o0_0l o1) =
  (br ((t_0 : Int) != (5 : Int)) (br ((t_0 : Int) != (6 : Int)) ((∃ _ : Unit, ((Q43 59 (Q72 (Q83 t_0 t_1 t_2 t_3) k (Q88 1)) (Q137 1 1 1 0 o0_0l o1) [] (Q129 1)) ∧ (Q47 [] (Q136 (Q6 1 Q86) o1) r Hs'))) ∨ ((∃ z2 : Nat × RW, ((Q43 59 (Q72 (Q83 t_0 t_1 t_2 t_3) k (Q88 1)) (Q137 1 1 1 0 o0_0l o1) [] (Q137 1 1 1 0 z2.1 z2.2)) ∧ (Q47 [] (Q137 1 1 1 0 z2.1 z2.2) r Hs'))) ∨ (∃ z3 : Nat × RW, ((Q43 59 (Q72 (Q83 t_0 t_1 t_2 t_3) k (Q88 1)) (Q137 1 1 1 0 o0_0l o1) [] (Q38 (Q123 1 2 1 0 z3.1) .gone z3.2)) ∧ (Q47 [] (Q38 (Q123 1 2 1 0 z3.1) .gone z3.2) r Hs'))))) (∃ y4 : FV, (∃ n5 : Int, ((Q43 88 [Q83 t_0 t_1 t_2 t_3] [] [Q20 [Q0 y4], Q31 n5] []) ∧ ((FV.isSl 4 y4 = true) ∧ (Q155 58 2 r Hs' (Q135 1 k (Q5 2 (.fn (.func 59) [] [(false, [Q112])])) 7 n5 27 y4 28 (length (FV.ses y4) : Int) 29 0) [Q25 0 1 (Q122 1 1 0 o0_0l), Q46 1 o1] 2)))))) (∃ y6 : FV, (∃ n7 : Int, ((Q43 88 [Q83 t_0 t_1 t_2 t_3] [] [Q20 [Q0 y6], Q31 n7] []) ∧ ((FV.isSl 4 y6 = true) ∧ (Q155 58 2 r Hs' (Q135 1 k (Q5 2 (.fn (.func 59) [] [(false, [Q112])])) 7 n7 27 y6 28 (length (FV.ses y6) : Int) 29 0) [Q25 0 1 (Q122 1 1 0 o0_0l), Q46 1 o1] 2)))))) := by kernel_rfl
theorem z8i (x1 x7 : Int) (x27 : FV) (x28 x29 : Int) (h0_0l : Nat) (h1 : RW) (r : TV) (Hs' : List AObj) : VQ lv58 58 2 r Hs' 1 ⟨Q135 1 x1 (Q5 2 (.fn (.func 59) [] [(false, [Q112])])) 7 x7 27 x27 28 x28 29 x29, [Q25 0 1 (Q122 1 1 0 h0_0l), Q46 1 h1], 2⟩ =
  (br (decide ((x29 : Int) < x28)) (((FV.isSl 4 x27 = true) ∧ ((0 ≤ x29) ∧ ((x29 < (length (FV.ses x27) : Int)) ∧ (((rE (getD (FV.ses x27) (toNat x29) [])) : List FV) = (getD (FV.ses x27) (toNat x29) []))))) ∧ ((∃ z1 : Int, ((Q140 58 (aE (getD (FV.ses x27) (toNat x29) [])) (IntKind.wrap .i64 (x1 + x7)) (.fn (.func 59) [] [(false, [Q112])]) (Q137 1 1 1 0 h0_0l h1) [] (Q157 z1)) ∧ (Q155 58 2 r Hs' (Q135 1 x1 (Q5 2 (.fn (.func 59) [] [(false, [Q112])])) 7 x7 27 x27 28 x28 29 (IntKind.wrap .i64 (x29 + 1))) [Q106 0 1 z1, Q46 1 h1] 2))) ∨ ((∃ _ : Unit, ((Q140 58 (aE (getD (FV.ses x27) (toNat x29) [])) (IntKind.wrap .i64 (x1 + x7)) (.fn (.func 59) [] [(false, [Q112])]) (Q137 1 1 1 0 h0_0l h1) [] (Q129 1)) ∧ (Q155 58 2 r Hs' (Q135 1 x1 (Q5 2 (.fn (.func 59) [] [(false, [Q112])])) 7 x7 27 x27 28 x28 29 (IntKind.wrap .i64 (x29 + 1))) [Q25 0 1 Q86, Q46 1 h1] 2))) ∨ ((∃ z3 : Nat × RW, ((Q140 58 (aE (getD (FV.ses x27) (toNat x29) [])) (IntKind.wrap .i64 (x1 + x7)) (.fn (.func 59) [] [(false, [Q112])]) (Q137 1 1 1 0 h0_0l h1) [] (Q137 1 1 1 0 z3.1 z3.2)) ∧ (Q155 58 2 r Hs' (Q135 1 x1 (Q5 2 (.fn (.func 59) [] [(false, [Q112])])) 7 x7 27 x27 28 x28 29 (IntKind.wrap .i64 (x29 + 1))) [Q25 0 1 (Q122 1 1 0 z3.1), Q46 1 z3.2] 2))) ∨ (∃ z4 : Nat × RW, ((Q140 58 (aE (getD (FV.ses x27) (toNat x29) [])) (IntKind.wrap .i64 (x1 + x7)) (.fn (.func 59) [] [(false, [Q112])]) (Q137 1 1 1 0 h0_0l h1) [] (Q38 (Q123 1 2 1 0 z4.1) .gone z4.2)) ∧ (Q155 58 2 r Hs' (Q135 1 x1 (Q5 2 (.fn (.func 59) [] [(false, [Q112])])) 7 x7 27 x27 28 x28 29 (IntKind.wrap .i64 (x29 + 1))) [Q25 0 1 (Q122 2 1 0 z4.1), Q39 1, Q46 2 z4.2] 3))))))) (Q47 [] (Q137 1 1 1 0 h0_0l h1) r Hs')) := by kernel_rfl
theorem z87 (x1 x7 : Int) (x27 : FV) (x28 x29 : Int) (h0_0l : Nat) (h2 : RW) (r : TV) (Hs' : List AObj) : VQ lv58 58 2 r Hs' 1 ⟨Q135 1 x1 (Q5 2 (.fn (.func 59) [] [(false, [Q112])])) 7 x7 27 x27 28 x28 29 x29, [Q25 0 1 (Q122 2 1 0 h0_0l), Q39 1, Q46 2 h2], 3⟩ =
  (br (decide ((x29 : Int) < x28)) (((FV.isSl 4 x27 = true) ∧ ((0 ≤ x29) ∧ ((x29 < (length (FV.ses x27) : Int)) ∧ (((rE (getD (FV.ses x27) (toNat x29) [])) : List FV) = (getD (FV.ses x27) (toNat x29) []))))) ∧ ((∃ z1 : Int, ((Q140 58 (aE (getD (FV.ses x27) (toNat x29) [])) (IntKind.wrap .i64 (x1 + x7)) (.fn (.func 59) [] [(false, [Q112])]) (Q137 1 1 1 0 h0_0l h2) [] (Q157 z1)) ∧ (Q155 58 2 r Hs' (Q135 1 x1 (Q5 2 (.fn (.func 59) [] [(false, [Q112])])) 7 x7 27 x27 28 x28 29 (IntKind.wrap .i64 (x29 + 1))) [Q106 0 1 z1, Q39 1] 2))) ∨ ((∃ _ : Unit, ((Q140 58 (aE (getD (FV.ses x27) (toNat x29) [])) (IntKind.wrap .i64 (x1 + x7)) (.fn (.func 59) [] [(false, [Q112])]) (Q137 1 1 1 0 h0_0l h2) [] (Q129 1)) ∧ (Q155 58 2 r Hs' (Q135 1 x1 (Q5 2 (.fn (.func 59) [] [(false, [Q112])])) 7 x7 27 x27 28 x28 29 (IntKind.wrap .i64 (x29 + 1))) [Q25 0 1 Q86, Q39 1] 2))) ∨ ((∃ z3 : Nat × RW, ((Q140 58 (aE (getD (FV.ses x27) (toNat x29) [])) (IntKind.wrap .i64 (x1 + x7)) (.fn (.func 59) [] [(false, [Q112])]) (Q137 1 1 1 0 h0_0l h2) [] (Q137 1 1 1 0 z3.1 z3.2)) ∧ (Q155 58 2 r Hs' (Q135 1 x1 (Q5 2 (.fn (.func 59) [] [(false, [Q112])])) 7 x7 27 x27 28 x28 29 (IntKind.wrap .i64 (x29 + 1))) [Q25 0 1 (Q122 2 1 0 z3.1), Q39 1, Q46 2 z3.2] 3))) ∨ (∃ z4 : Nat × RW, ((Q140 58 (aE (getD (FV.ses x27) (toNat x29) [])) (IntKind.wrap .i64 (x1 + x7)) (.fn (.func 59) [] [(false, [Q112])]) (Q137 1 1 1 0 h0_0l h2) [] (Q38 (Q123 1 2 1 0 z4.1) .gone z4.2)) ∧ (Q155 58 2 r Hs' (Q135 1 x1 (Q5 2 (.fn (.func 59) [] [(false, [Q112])])) 7 x7 27 x27 28 x28 29 (IntKind.wrap .i64 (x29 + 1))) [Q25 0 1 (Q122 2 1 0 z4.1), Q39 1, Q46 2 z4.2] 3))))))) (Q47 [] (Q38 (Q123 1 2 1 0 h0_0l) .gone h2) r Hs')) := by kernel_rfl
def zrg : List (Nat × List Nat) := [(1, [0, 1, 7, 8])]
theorem v107_F74 (s : RW) (r : TV) (Hs' : List AObj) : VE zrg 107 0 r Hs' (Q121 (Q61 8 s) (.fn (.func 74) [] [])) [] =
  ((FV.isSl 8 (Q4 8 s) = true) ∧ (Q155 107 0 r Hs' (Q108 (Q54 0 8 s) (Q5 1 (.fn (.func 74) [] [])) 7 (length s : Int) 8 0) [] 0)) := by kernel_rfl
theorem zbv (x0 : RW) (x7 x8 : Int) (r : TV) (Hs' : List AObj) : VQ zrg 107 0 r Hs' 1 ⟨Q108 (Q54 0 8 x0) (Q5 1 (.fn (.func 74) [] [])) 7 x7 8 x8, [], 0⟩ =
  (br (decide ((x8 : Int) < x7)) (((FV.isSl 8 (Q4 8 x0) = true) ∧ ((0 ≤ x8) ∧ ((x8 < (length x0 : Int)) ∧ (([(Q1 (FV.asI (getD (getD x0 (toNat x8) []) 0 FV.nils))), (.str (FV.asS (getD (getD x0 (toNat x8) []) 1 FV.nils))), (Q1 (FV.asI (getD (getD x0 (toNat x8) []) 2 FV.nils))), (getD (getD x0 (toNat x8) []) 3 FV.nils), (Q1 (FV.asI (getD (getD x0 (toNat x8) []) 4 FV.nils))), (.str (FV.asS (getD (getD x0 (toNat x8) []) 5 FV.nils))), (Q1 (FV.asI (getD (getD x0 (toNat x8) []) 6 FV.nils))), (getD (getD x0 (toNat x8) []) 7 FV.nils)] : List FV) = (getD x0 (toNat x8) []))))) ∧ (∃ b1 : Bool, ((Q70 74 [.agg [Q2 (FV.asI (getD (getD x0 (toNat x8) []) 0 FV.nils)), Q8 (FV.asS (getD (getD x0 (toNat x8) []) 1 FV.nils)), Q2 (FV.asI (getD (getD x0 (toNat x8) []) 2 FV.nils)), Q0 (getD (getD x0 (toNat x8) []) 3 FV.nils), Q2 (FV.asI (getD (getD x0 (toNat x8) []) 4 FV.nils)), Q8 (FV.asS (getD (getD x0 (toNat x8) []) 5 FV.nils)), Q2 (FV.asI (getD (getD x0 (toNat x8) []) 6 FV.nils)), Q0 (getD (getD x0 (toNat x8) []) 7 FV.nils)]] b1) ∧ (br b1 (Q76 x8 [] r Hs') (Q155 107 0 r Hs' (Q108 (Q54 0 8 x0) (Q5 1 (.fn (.func 74) [] [])) 7 x7 8 (IntKind.wrap .i64 (x8 + 1))) [] 0))))) (Q76 (-1 : Int) [] r Hs')) := by kernel_rfl
def lv109 : List (Nat × List Nat) := [(1000001, [2, 3, 4])]
theorem v109 (p_0 : Int) (p_1 : List UInt8) (p_2 : Int) (p_3 : RW) (p_4 : Int) (p_5 : List UInt8) (p_6 : Int) (p_7 : RW) (o0_1l : Nat) (o0_2 : Int) (o1_0l o1_1l : Nat) (o2 o3 o4 : RW) (r : TV) (Hs' : List AObj) : VE lv109 109 5 r Hs' [Q88 3, .agg [Q2 p_0, Q8 p_1, Q2 p_2, Q138 p_3, Q2 p_4, Q8 p_5, Q2 p_6, Q138 p_7]] (Q152 (Q71 3 1 2 0 0 4 8 0 o0_1l o0_2) (Q37 2 o1_0l 3 o1_1l) o2 o3 8 o4) =
  (∃ z1 : Tm × Tm × List Tm × Int × Nat × Int, ((Q43 133 [Q88 3, Q83 p_0 p_1 p_2 p_3] (Q152 (Q71 3 1 2 0 0 4 8 0 o0_1l o0_2) (Q37 2 o1_0l 3 o1_1l) o2 o3 8 o4) (Q147 (Q143 z1.1.k (Q8 z1.1.s) (Q2 z1.1.n) (FTs z1.1.l) (Q2 z1.2.1.k) (Q8 z1.2.1.s) (Q2 z1.2.1.n) (FTs z1.2.1.l) (FTs z1.2.2.1)) z1.2.2.2.1) (Q152 (Q71 3 1 2 0 0 4 8 0 z1.2.2.2.2.1 z1.2.2.2.2.2) (Q37 2 o1_0l 3 o1_1l) o2 o3 8 o4)) ∧ (br ((z1.2.2.2.1 : Int) != (0 : Int)) (Q76 z1.2.2.2.1 (Q118 (Q71 3 1 2 0 0 7 8 0 z1.2.2.2.2.1 z1.2.2.2.2.2) 5 o1_0l 6 o1_1l o2 o3 8 o4) r Hs') (∃ z2 : Tm × Tm × List Tm × Int × Nat × Int, ((Q43 133 [Q88 3, Q83 p_4 p_5 p_6 p_7] (Q152 (Q71 3 1 2 0 0 4 8 0 z1.2.2.2.2.1 z1.2.2.2.2.2) (Q37 2 o1_0l 3 o1_1l) o2 o3 8 o4) (Q147 (Q143 z2.1.k (Q8 z2.1.s) (Q2 z2.1.n) (FTs z2.1.l) (Q2 z2.2.1.k) (Q8 z2.2.1.s) (Q2 z2.2.1.n) (FTs z2.2.1.l) (FTs z2.2.2.1)) z2.2.2.2.1) (Q152 (Q71 3 1 2 0 0 4 8 0 z2.2.2.2.2.1 z2.2.2.2.2.2) (Q37 2 o1_0l 3 o1_1l) o2 o3 8 o4)) ∧ (br ((z2.2.2.2.1 : Int) != (0 : Int)) (Q76 z2.2.2.2.1 (Q118 (Q71 3 1 2 0 0 7 8 0 z2.2.2.2.2.1 z2.2.2.2.2.2) 5 o1_0l 6 o1_1l o2 o3 8 o4) r Hs') (br ((z1.1.k : Int) == (5 : Int)) (∃ z3 : Tm, ((Q65 135 [(aT z1.1)] (aT z3)) ∧ (∃ z4 : Tm, ((Q65 135 [(aT z2.1)] (aT z4)) ∧ (((4 : Nat) = 4 ∧ 1 ≤ 1) ∧ (((4 : Nat) = 4 ∧ 1 ≤ 1) ∧ (∃ z5 : Sto × Nat × RW × Int, ((Q43 134 (Q98 3 (Q153 [(FT4 z3)]) (Q153 [(FT4 z4)])) (Q152 (Q71 3 1 2 0 0 4 8 0 z2.2.2.2.2.1 z2.2.2.2.2.2) (Q37 2 o1_0l 3 o1_1l) o2 o3 8 o4) [] (Q118 (Q71 3 1 2 0 0 7 8 0 z5.2.1 z5.2.2.2) 5 (length z5.1.V) 6 (length z5.1.T) (SR z5.1.V) (IR z5.1.T) 8 z5.2.2.1)) ∧ (Q76 0 (Q118 (Q71 3 1 2 0 0 7 8 0 z5.2.1 z5.2.2.2) 5 (length z5.1.V) 6 (length z5.1.T) (SR z5.1.V) (IR z5.1.T) 8 z5.2.2.1) r Hs'))))))))) (br ((z2.1.k : Int) == (5 : Int)) (∃ z6 : Tm, ((Q65 135 [(aT z1.1)] (aT z6)) ∧ (∃ z7 : Tm, ((Q65 135 [(aT z2.1)] (aT z7)) ∧ (((4 : Nat) = 4 ∧ 1 ≤ 1) ∧ (((4 : Nat) = 4 ∧ 1 ≤ 1) ∧ (∃ z8 : Sto × Nat × RW × Int, ((Q43 134 (Q98 3 (Q153 [(FT4 z6)]) (Q153 [(FT4 z7)])) (Q152 (Q71 3 1 2 0 0 4 8 0 z2.2.2.2.2.1 z2.2.2.2.2.2) (Q37 2 o1_0l 3 o1_1l) o2 o3 8 o4) [] (Q118 (Q71 3 1 2 0 0 7 8 0 z8.2.1 z8.2.2.2) 5 (length z8.1.V) 6 (length z8.1.T) (SR z8.1.V) (IR z8.1.T) 8 z8.2.2.1)) ∧ (Q76 0 (Q118 (Q71 3 1 2 0 0 7 8 0 z8.2.1 z8.2.2.2) 5 (length z8.1.V) 6 (length z8.1.T) (SR z8.1.V) (IR z8.1.T) 8 z8.2.2.1) r Hs'))))))))) (∃ b9 : Bool, ((Q70 136 [.agg (Q143 z1.1.k (Q8 z1.1.s) (Q2 z1.1.n) (FTs z1.1.l) (Q2 z1.2.1.k) (Q8 z1.2.1.s) (Q2 z1.2.1.n) (FTs z1.2.1.l) (FTs z1.2.2.1))] b9) ∧ (br b9 (∃ b10 : Bool, ((Q70 136 [.agg (Q143 z2.1.k (Q8 z2.1.s) (Q2 z2.1.n) (FTs z2.1.l) (Q2 z2.2.1.k) (Q8 z2.2.1.s) (Q2 z2.2.1.n) (FTs z2.2.1.l) (FTs z2.2.2.1))] b10) ∧ (br b10 (br ((z1.2.1.n : Int) == z2.2.1.n) (∃ z11 : Int × Sto × Nat × RW × Int, ((Q10 137 (Q98 3 (.agg (Q143 z1.1.k (Q8 z1.1.s) (Q2 z1.1.n) (FTs z1.1.l) (Q2 z1.2.1.k) (Q8 z1.2.1.s) (Q2 z1.2.1.n) (FTs z1.2.1.l) (FTs z1.2.2.1))) (.agg (Q143 z2.1.k (Q8 z2.1.s) (Q2 z2.1.n) (FTs z2.1.l) (Q2 z2.2.1.k) (Q8 z2.2.1.s) (Q2 z2.2.1.n) (FTs z2.2.1.l) (FTs z2.2.2.1)))) (Q152 (Q71 3 1 2 0 0 4 8 0 z2.2.2.2.2.1 z2.2.2.2.2.2) (Q37 2 o1_0l 3 o1_1l) o2 o3 8 o4) (Q24 z11.1) (Q118 (Q71 3 1 2 0 0 7 8 0 z11.2.2.1 z11.2.2.2.2) 5 (length z11.2.1.V) 6 (length z11.2.1.T) (SR z11.2.1.V) (IR z11.2.1.T) 8 z11.2.2.2.1)) ∧ (Q76 z11.1 (Q118 (Q71 3 1 2 0 0 7 8 0 z11.2.2.1 z11.2.2.2.2) 5 (length z11.2.1.V) 6 (length z11.2.1.T) (SR z11.2.1.V) (IR z11.2.1.T) 8 z11.2.2.2.1) r Hs'))) (∃ b12 : Bool, ((Q70 136 [.agg (Q143 z1.1.k (Q8 z1.1.s) (Q2 z1.1.n) (FTs z1.1.l) (Q2 z1.2.1.k) (Q8 z1.2.1.s) (Q2 z1.2.1.n) (FTs z1.2.1.l) (FTs z1.2.2.1))] b12) ∧ (br b12 (∃ z13 : Int × Sto × Nat × RW × Int, ((Q10 138 (Q98 3 (.agg (Q143 z1.1.k (Q8 z1.1.s) (Q2 z1.1.n) (FTs z1.1.l) (Q2 z1.2.1.k) (Q8 z1.2.1.s) (Q2 z1.2.1.n) (FTs z1.2.1.l) (FTs z1.2.2.1))) (.agg (Q143 z2.1.k (Q8 z2.1.s) (Q2 z2.1.n) (FTs z2.1.l) (Q2 z2.2.1.k) (Q8 z2.2.1.s) (Q2 z2.2.1.n) (FTs z2.2.1.l) (FTs z2.2.2.1)))) (Q152 (Q71 3 1 2 0 0 4 8 0 z2.2.2.2.2.1 z2.2.2.2.2.2) (Q37 2 o1_0l 3 o1_1l) o2 o3 8 o4) (Q24 z13.1) (Q118 (Q71 3 1 2 0 0 7 8 0 z13.2.2.1 z13.2.2.2.2) 5 (length z13.2.1.V) 6 (length z13.2.1.T) (SR z13.2.1.V) (IR z13.2.1.T) 8 z13.2.2.2.1)) ∧ (Q76 z13.1 (Q118 (Q71 3 1 2 0 0 7 8 0 z13.2.2.1 z13.2.2.2.2) 5 (length z13.2.1.V) 6 (length z13.2.1.T) (SR z13.2.1.V) (IR z13.2.1.T) 8 z13.2.2.2.1) r Hs'))) (∃ b14 : Bool, ((Q70 136 [.agg (Q143 z2.1.k (Q8 z2.1.s) (Q2 z2.1.n) (FTs z2.1.l) (Q2 z2.2.1.k) (Q8 z2.2.1.s) (Q2 z2.2.1.n) (FTs z2.2.1.l) (FTs z2.2.2.1))] b14) ∧ (br b14 (∃ z15 : Int × Sto × Nat × RW × Int, ((Q10 138 (Q98 3 (.agg (Q143 z2.1.k (Q8 z2.1.s) (Q2 z2.1.n) (FTs z2.1.l) (Q2 z2.2.1.k) (Q8 z2.2.1.s) (Q2 z2.2.1.n) (FTs z2.2.1.l) (FTs z2.2.2.1))) (.agg (Q143 z1.1.k (Q8 z1.1.s) (Q2 z1.1.n) (FTs z1.1.l) (Q2 z1.2.1.k) (Q8 z1.2.1.s) (Q2 z1.2.1.n) (FTs z1.2.1.l) (FTs z1.2.2.1)))) (Q152 (Q71 3 1 2 0 0 4 8 0 z2.2.2.2.2.1 z2.2.2.2.2.2) (Q37 2 o1_0l 3 o1_1l) o2 o3 8 o4) (Q24 z15.1) (Q118 (Q71 3 1 2 0 0 7 8 0 z15.2.2.1 z15.2.2.2.2) 5 (length z15.2.1.V) 6 (length z15.2.1.T) (SR z15.2.1.V) (IR z15.2.1.T) 8 z15.2.2.2.1)) ∧ (Q76 z15.1 (Q118 (Q71 3 1 2 0 0 7 8 0 z15.2.2.1 z15.2.2.2.2) 5 (length z15.2.1.V) 6 (length z15.2.1.T) (SR z15.2.1.V) (IR z15.2.1.T) 8 z15.2.2.2.1) r Hs'))) (∃ b16 : Bool, ((Q70 139 [(aT z1.2.1), (aT z2.2.1)] b16) ∧ (br (!b16) (Q76 170 (Q118 (Q71 3 1 2 0 0 7 8 0 z2.2.2.2.2.1 z2.2.2.2.2.2) 5 o1_0l 6 o1_1l o2 o3 8 o4) r Hs') ((FV.isSl 4 (Q4 4 (FTs z1.2.2.1)) = true) ∧ ((FV.isSl 4 (Q4 4 (FTs z2.2.2.1)) = true) ∧ (br (((length (FTs z1.2.2.1) : Int) : Int) != (length (FTs z2.2.2.1) : Int)) (Q76 170 (Q118 (Q71 3 1 2 0 0 7 8 0 z2.2.2.2.2.1 z2.2.2.2.2.2) 5 o1_0l 6 o1_1l o2 o3 8 o4) r Hs') (∃ z17 : Sto × Nat × RW × Int, ((Q43 134 (Q98 3 (Q153 (FTs z1.2.2.1)) (Q153 (FTs z2.2.2.1))) (Q152 (Q71 3 1 2 0 0 4 8 0 z2.2.2.2.2.1 z2.2.2.2.2.2) (Q37 2 o1_0l 3 o1_1l) o2 o3 8 o4) [] (Q118 (Q71 3 1 2 0 0 7 8 0 z17.2.1 z17.2.2.2) 5 (length z17.1.V) 6 (length z17.1.T) (SR z17.1.V) (IR z17.1.T) 8 z17.2.2.1)) ∧ (Q76 0 (Q118 (Q71 3 1 2 0 0 7 8 0 z17.2.1 z17.2.2.2) 5 (length z17.1.V) 6 (length z17.1.T) (SR z17.1.V) (IR z17.1.T) 8 z17.2.2.1) r Hs')))))))))))))))) (∃ b18 : Bool, ((Q70 136 [.agg (Q143 z1.1.k (Q8 z1.1.s) (Q2 z1.1.n) (FTs z1.1.l) (Q2 z1.2.1.k) (Q8 z1.2.1.s) (Q2 z1.2.1.n) (FTs z1.2.1.l) (FTs z1.2.2.1))] b18) ∧ (br b18 (∃ z19 : Int × Sto × Nat × RW × Int, ((Q10 138 (Q98 3 (.agg (Q143 z1.1.k (Q8 z1.1.s) (Q2 z1.1.n) (FTs z1.1.l) (Q2 z1.2.1.k) (Q8 z1.2.1.s) (Q2 z1.2.1.n) (FTs z1.2.1.l) (FTs z1.2.2.1))) (.agg (Q143 z2.1.k (Q8 z2.1.s) (Q2 z2.1.n) (FTs z2.1.l) (Q2 z2.2.1.k) (Q8 z2.2.1.s) (Q2 z2.2.1.n) (FTs z2.2.1.l) (FTs z2.2.2.1)))) (Q152 (Q71 3 1 2 0 0 4 8 0 z2.2.2.2.2.1 z2.2.2.2.2.2) (Q37 2 o1_0l 3 o1_1l) o2 o3 8 o4) (Q24 z19.1) (Q118 (Q71 3 1 2 0 0 7 8 0 z19.2.2.1 z19.2.2.2.2) 5 (length z19.2.1.V) 6 (length z19.2.1.T) (SR z19.2.1.V) (IR z19.2.1.T) 8 z19.2.2.2.1)) ∧ (Q76 z19.1 (Q118 (Q71 3 1 2 0 0 7 8 0 z19.2.2.1 z19.2.2.2.2) 5 (length z19.2.1.V) 6 (length z19.2.1.T) (SR z19.2.1.V) (IR z19.2.1.T) 8 z19.2.2.2.1) r Hs'))) (∃ b20 : Bool, ((Q70 136 [.agg (Q143 z2.1.k (Q8 z2.1.s) (Q2 z2.1.n) (FTs z2.1.l) (Q2 z2.2.1.k) (Q8 z2.2.1.s) (Q2 z2.2.1.n) (FTs z2.2.1.l) (FTs z2.2.2.1))] b20) ∧ (br b20 (∃ z21 : Int × Sto × Nat × RW × Int, ((Q10 138 (Q98 3 (.agg (Q143 z2.1.k (Q8 z2.1.s) (Q2 z2.1.n) (FTs z2.1.l) (Q2 z2.2.1.k) (Q8 z2.2.1.s) (Q2 z2.2.1.n) (FTs z2.2.1.l) (FTs z2.2.2.1))) (.agg (Q143 z1.1.k (Q8 z1.1.s) (Q2 z1.1.n) (FTs z1.1.l) (Q2 z1.2.1.k) (Q8 z1.2.1.s) (Q2 z1.2.1.n) (FTs z1.2.1.l) (FTs z1.2.2.1)))) (Q152 (Q71 3 1 2 0 0 4 8 0 z2.2.2.2.2.1 z2.2.2.2.2.2) (Q37 2 o1_0l 3 o1_1l) o2 o3 8 o4) (Q24 z21.1) (Q118 (Q71 3 1 2 0 0 7 8 0 z21.2.2.1 z21.2.2.2.2) 5 (length z21.2.1.V) 6 (length z21.2.1.T) (SR z21.2.1.V) (IR z21.2.1.T) 8 z21.2.2.2.1)) ∧ (Q76 z21.1 (Q118 (Q71 3 1 2 0 0 7 8 0 z21.2.2.1 z21.2.2.2.2) 5 (length z21.2.1.V) 6 (length z21.2.1.T) (SR z21.2.1.V) (IR z21.2.1.T) 8 z21.2.2.2.1) r Hs'))) (∃ b22 : Bool, ((Q70 139 [(aT z1.2.1), (aT z2.2.1)] b22) ∧ (br (!b22) (Q76 170 (Q118 (Q71 3 1 2 0 0 7 8 0 z2.2.2.2.2.1 z2.2.2.2.2.2) 5 o1_0l 6 o1_1l o2 o3 8 o4) r Hs') ((FV.isSl 4 (Q4 4 (FTs z1.2.2.1)) = true) ∧ ((FV.isSl 4 (Q4 4 (FTs z2.2.2.1)) = true) ∧ (br (((length (FTs z1.2.2.1) : Int) : Int) != (length (FTs z2.2.2.1) : Int)) (Q76 170 (Q118 (Q71 3 1 2 0 0 7 8 0 z2.2.2.2.2.1 z2.2.2.2.2.2) 5 o1_0l 6 o1_1l o2 o3 8 o4) r Hs') (∃ z23 : Sto × Nat × RW × Int, ((Q43 134 (Q98 3 (Q153 (FTs z1.2.2.1)) (Q153 (FTs z2.2.2.1))) (Q152 (Q71 3 1 2 0 0 4 8 0 z2.2.2.2.2.1 z2.2.2.2.2.2) (Q37 2 o1_0l 3 o1_1l) o2 o3 8 o4) [] (Q118 (Q71 3 1 2 0 0 7 8 0 z23.2.1 z23.2.2.2) 5 (length z23.1.V) 6 (length z23.1.T) (SR z23.1.V) (IR z23.1.T) 8 z23.2.2.1)) ∧ (Q76 0 (Q118 (Q71 3 1 2 0 0 7 8 0 z23.2.1 z23.2.2.2) 5 (length z23.1.V) 6 (length z23.1.T) (SR z23.1.V) (IR z23.1.T) 8 z23.2.2.1) r Hs')))))))))))))))))) (∃ b24 : Bool, ((Q70 136 [.agg (Q143 z1.1.k (Q8 z1.1.s) (Q2 z1.1.n) (FTs z1.1.l) (Q2 z1.2.1.k) (Q8 z1.2.1.s) (Q2 z1.2.1.n) (FTs z1.2.1.l) (FTs z1.2.2.1))] b24) ∧ (br b24 (∃ z25 : Int × Sto × Nat × RW × Int, ((Q10 138 (Q98 3 (.agg (Q143 z1.1.k (Q8 z1.1.s) (Q2 z1.1.n) (FTs z1.1.l) (Q2 z1.2.1.k) (Q8 z1.2.1.s) (Q2 z1.2.1.n) (FTs z1.2.1.l) (FTs z1.2.2.1))) (.agg (Q143 z2.1.k (Q8 z2.1.s) (Q2 z2.1.n) (FTs z2.1.l) (Q2 z2.2.1.k) (Q8 z2.2.1.s) (Q2 z2.2.1.n) (FTs z2.2.1.l) (FTs z2.2.2.1)))) (Q152 (Q71 3 1 2 0 0 4 8 0 z2.2.2.2.2.1 z2.2.2.2.2.2) (Q37 2 o1_0l 3 o1_1l) o2 o3 8 o4) (Q24 z25.1) (Q118 (Q71 3 1 2 0 0 7 8 0 z25.2.2.1 z25.2.2.2.2) 5 (length z25.2.1.V) 6 (length z25.2.1.T) (SR z25.2.1.V) (IR z25.2.1.T) 8 z25.2.2.2.1)) ∧ (Q76 z25.1 (Q118 (Q71 3 1 2 0 0 7 8 0 z25.2.2.1 z25.2.2.2.2) 5 (length z25.2.1.V) 6 (length z25.2.1.T) (SR z25.2.1.V) (IR z25.2.1.T) 8 z25.2.2.2.1) r Hs'))) (∃ b26 : Bool, ((Q70 136 [.agg (Q143 z2.1.k (Q8 z2.1.s) (Q2 z2.1.n) (FTs z2.1.l) (Q2 z2.2.1.k) (Q8 z2.2.1.s) (Q2 z2.2.1.n) (FTs z2.2.1.l) (FTs z2.2.2.1))] b26) ∧ (br b26 (∃ z27 : Int × Sto × Nat × RW × Int, ((Q10 138 (Q98 3 (.agg (Q143 z2.1.k (Q8 z2.1.s) (Q2 z2.1.n) (FTs z2.1.l) (Q2 z2.2.1.k) (Q8 z2.2.1.s) (Q2 z2.2.1.n) (FTs z2.2.1.l) (FTs z2.2.2.1))) (.agg (Q143 z1.1.k (Q8 z1.1.s) (Q2 z1.1.n) (FTs z1.1.l) (Q2 z1.2.1.k) (Q8 z1.2.1.s) (Q2 z1.2.1.n) (FTs z1.2.1.l) (FTs z1.2.2.1)))) (Q152 (Q71 3 1 2 0 0 4 8 0 z2.2.2.2.2.1 z2.2.2.2.2.2) (Q37 2 o1_0l 3 o1_1l) o2 o3 8 o4) (Q24 z27.1) (Q118 (Q71 3 1 2 0 0 7 8 0 z27.2.2.1 z27.2.2.2.2) 5 (length z27.2.1.V) 6 (length z27.2.1.T) (SR z27.2.1.V) (IR z27.2.1.T) 8 z27.2.2.2.1)) ∧ (Q76 z27.1 (Q118 (Q71 3 1 2 0 0 7 8 0 z27.2.2.1 z27.2.2.2.2) 5 (length z27.2.1.V) 6 (length z27.2.1.T) (SR z27.2.1.V) (IR z27.2.1.T) 8 z27.2.2.2.1) r Hs'))) (∃ b28 : Bool, ((Q70 139 [(aT z1.2.1), (aT z2.2.1)] b28) ∧ (br (!b28) (Q76 170 (Q118 (Q71 3 1 2 0 0 7 8 0 z2.2.2.2.2.1 z2.2.2.2.2.2) 5 o1_0l 6 o1_1l o2 o3 8 o4) r Hs') ((FV.isSl 4 (Q4 4 (FTs z1.2.2.1)) = true) ∧ ((FV.isSl 4 (Q4 4 (FTs z2.2.2.1)) = true) ∧ (br (((length (FTs z1.2.2.1) : Int) : Int) != (length (FTs z2.2.2.1) : Int)) (Q76 170 (Q118 (Q71 3 1 2 0 0 7 8 0 z2.2.2.2.2.1 z2.2.2.2.2.2) 5 o1_0l 6 o1_1l o2 o3 8 o4) r Hs') (∃ z29 : Sto × Nat × RW × Int, ((Q43 134 (Q98 3 (Q153 (FTs z1.2.2.1)) (Q153 (FTs z2.2.2.1))) (Q152 (Q71 3 1 2 0 0 4 8 0 z2.2.2.2.2.1 z2.2.2.2.2.2) (Q37 2 o1_0l 3 o1_1l) o2 o3 8 o4) [] (Q118 (Q71 3 1 2 0 0 7 8 0 z29.2.1 z29.2.2.2) 5 (length z29.1.V) 6 (length z29.1.T) (SR z29.1.V) (IR z29.1.T) 8 z29.2.2.1)) ∧ (Q76 0 (Q118 (Q71 3 1 2 0 0 7 8 0 z29.2.1 z29.2.2.2) 5 (length z29.1.V) 6 (length z29.1.T) (SR z29.1.V) (IR z29.1.T) 8 z29.2.2.1) r Hs')))))))))))))))))))))))))) := by kernel_rfl
def lv64 : List (Nat × List Nat) := []
theorem v64 (s : List UInt8) (r : TV) (Hs' : List AObj) : VE lv64 64 0 r Hs' [.c (Q8 s)] [] =
  (∃ b1 : Bool, ((Q70 95 [.c (Q8 s)] b1) ∧ (br b1 ((0 ≤ (0 : Int) ∧ (0 : Int) < (length s : Int)) ∧ (∃ b2 : Bool, ((Q70 96 [.c (Q0 (.int .u8 ((UInt8.toNat (getD s 0 0) : Nat) : Int)))] b2) ∧ (br b2 (∃ n3 : Int, ((Q65 97 (Q121 (.c (Q8 s)) (.fn (.func 98) [] [])) (Q24 n3)) ∧ (Q50 ((n3 : Int) == (length s : Int)) [] r Hs'))) (Q82 [] r Hs'))))) (Q82 [] r Hs')))) := by kernel_rfl
def lv65 : List (Nat × List Nat) := []
theorem v65 (s : List UInt8) (r : TV) (Hs' : List AObj) : VE lv65 65 0 r Hs' [.c (Q8 s)] [] =
  (∃ b1 : Bool, ((Q70 95 [.c (Q8 s)] b1) ∧ (br b1 (∃ n2 : Int, ((Q65 97 (Q121 (.c (Q8 s)) (.fn (.func 99) [] [])) (Q24 n2)) ∧ (br ((n2 : Int) == (length s : Int)) (Q50 true [] r Hs') (br (((length s : Int) : Int) == (1 : Int)) (∃ b3 : Bool, ((Q70 100 (Q121 (.c (Q8 [44, 59, 33])) (Q8 s)) b3) ∧ (Q50 b3 [] r Hs'))) (Q82 [] r Hs'))))) (Q82 [] r Hs')))) := by kernel_rfl
def lv49 : List (Nat × List Nat) := []
theorem v49_F66 (s : RW) (r : TV) (Hs' : List AObj) : VE lv49 49 0 r Hs' (Q154 s (.fn (.func 66) [] [])) [] =
  (∃ z1 : Int, ((Q65 83 (Q154 s (.fn (.func 66) [] [])) (Q24 z1)) ∧ (Q50 (decide ((z1 : Int) ≥ (0 : Int))) [] r Hs'))) := by kernel_rfl
def ztc : List (Nat × List Nat) := [(1, [0, 2, 4, 6])]
theorem v101 (t_0 : Int) (t_1 : List UInt8) (t_2 : Int) (t_3 : RW) (o0_0l o0_1l : Nat) (o1 o2 : RW) (o3_0 : Int) (r : TV) (Hs' : List AObj) : VE ztc 101 4 r Hs' (Q98 2 (Q83 t_0 t_1 t_2 t_3) (Q85 3 1)) [Q37 1 o0_0l 2 o0_1l, Q23 o1, Q19 o2, Q103 o3_0] =
  (Q155 101 4 r Hs' [Q57 0 0 2, Q57 2 3 1, Q125 4 4, Q125 6 5] [Q69 0 1 o0_0l 2 o0_1l, Q67 1 o1, Q46 2 o2, Q106 3 1 o3_0, Q95 4 4 t_0 t_1 t_2 4 t_3, Q87 5 4 0 [] 0] 6) := by kernel_rfl
theorem zp5 (h0_0l h0_1l : Nat) (h1 h2 : RW) (h3_0 h4_0 : Int) (h4_1 : List UInt8) (h4_2 : Int) (h4_3 : RW) (h5_0 : Int) (h5_1 : List UInt8) (h5_2 : Int) (r : TV) (Hs' : List AObj) : VQ ztc 101 4 r Hs' 1 ⟨[Q57 0 0 2, Q57 2 3 1, Q125 4 4, Q125 6 5], [Q69 0 1 h0_0l 2 h0_1l, Q67 1 h1, Q46 2 h2, Q106 3 1 h3_0, Q95 4 4 h4_0 h4_1 h4_2 4 h4_3, Q87 5 4 h5_0 h5_1 h5_2], 6⟩ =
  (∃ z1 : Tm × Bool × Int, ((Q43 129 [Q88 2, Q83 h4_0 h4_1 h4_2 h4_3] (Q127 h0_0l h0_1l h1 h2) (Q91 (Q44 (cT z1.1)) (Q20 (Q109 z1.2.1)) z1.2.2) (Q127 h0_0l h0_1l h1 h2)) ∧ (br (!z1.2.1) (Q47 (Q147 (Q22 h4_0 h4_1 h4_2 4 h4_3) 0) [Q37 1 h0_0l 2 h0_1l, Q23 h1, Q19 h2, Q103 h3_0] r Hs') (br ((z1.2.2 : Int) != (0 : Int)) (Q47 (Q147 (Q49 0 [] 0) 80) [Q37 1 h0_0l 2 h0_1l, Q23 h1, Q19 h2, Q103 h3_0] r Hs') (br (decide ((h3_0 : Int) ≤ (0 : Int))) (Q47 (Q147 (Q49 0 [] 0) 80) [Q37 1 h0_0l 2 h0_1l, Q23 h1, Q19 h2, Q103 h3_0] r Hs') (Q155 101 4 r Hs' [Q57 0 0 2, Q57 2 3 1, Q125 4 4, Q125 6 5] [Q69 0 1 h0_0l 2 h0_1l, Q67 1 h1, Q46 2 h2, Q106 3 1 (IntKind.wrap .i64 (h3_0 - 1)), Q25 4 4 (cT z1.1), Q87 5 4 h5_0 h5_1 h5_2] 6)))))) := by kernel_rfl
def lv102 : List (Nat × List Nat) := []
theorem v102  (r : TV) (Hs' : List AObj) : VE lv102 102 0 r Hs' [.c Q26] [] =
  (RT (.c Q26) [] r Hs') := by kernel_rfl
theorem v102_i1 (s : RW) (r : TV) (Hs' : List AObj) : VE lv102 102 0 r Hs' [.c (Q0 (.sl true 4 s))] [] =
  ((FV.isSl 4 (.sl true 4 s) = true) ∧ ((0 ≤ 0 ∧ z0k (0 + (length s)) 56) ∧ (RT (.c (Q3 0 4 0 (0 + (length s)))) [.arz 4 ([] ++ s)] r Hs'))) := by kernel_rfl
def lv104 : List (Nat × List Nat) := []
theorem v104 (body_0 : Int) (body_1 : List UInt8) (body_2 : Int) (body_3 : RW) (r : TV) (Hs' : List AObj) : VE lv104 104 0 r Hs' [Q83 body_0 body_1 body_2 body_3] [] =
  ((FV.isSl 4 (Q4 4 body_3) = true) ∧ (br ((body_0 : Int) != (6 : Int)) (Q47 (Q110 (Q49 0 [] 0) false) [] r Hs') (((FV.isSl 4 (Q4 4 body_3) = true) ∧ ((0 ≤ (IntKind.wrap .i64 ((length body_3 : Int) - (1 : Int)))) ∧ (((IntKind.wrap .i64 ((length body_3 : Int) - (1 : Int))) < (length body_3 : Int)) ∧ (((rE (getD body_3 (toNat (IntKind.wrap .i64 ((length body_3 : Int) - (1 : Int)))) [])) : List FV) = (getD body_3 (toNat (IntKind.wrap .i64 ((length body_3 : Int) - (1 : Int)))) []))))) ∧ (br (((FV.asI (getD (getD body_3 (toNat (IntKind.wrap .i64 ((length body_3 : Int) - (1 : Int)))) []) 0 FV.nils)) : Int) != (3 : Int)) (Q47 (Q110 (Q49 0 [] 0) false) [] r Hs') (((FV.isSl 4 (Q4 4 body_3) = true) ∧ ((0 ≤ (IntKind.wrap .i64 ((length body_3 : Int) - (1 : Int)))) ∧ (((IntKind.wrap .i64 ((length body_3 : Int) - (1 : Int))) < (length body_3 : Int)) ∧ (((rE (getD body_3 (toNat (IntKind.wrap .i64 ((length body_3 : Int) - (1 : Int)))) [])) : List FV) = (getD body_3 (toNat (IntKind.wrap .i64 ((length body_3 : Int) - (1 : Int)))) []))))) ∧ (br (((FV.asI (getD (getD body_3 (toNat (IntKind.wrap .i64 ((length body_3 : Int) - (1 : Int)))) []) 2 FV.nils)) : Int) != (0 : Int)) (Q47 (Q110 (Q49 0 [] 0) false) [] r Hs') (((FV.isSl 4 (Q4 4 body_3) = true) ∧ ((0 ≤ (0 : Int)) ∧ (((0 : Int) < (length body_3 : Int)) ∧ (((rE (getD body_3 0 [])) : List FV) = (getD body_3 0 []))))) ∧ ((FV.isSl 4 (Q4 4 body_3) = true) ∧ (((0 ≤ (1 : Int)) ∧ (((1 : Int) ≤ (IntKind.wrap .i64 ((length body_3 : Int) - (1 : Int)))) ∧ ((IntKind.wrap .i64 ((length body_3 : Int) - (1 : Int))) ≤ (length body_3 : Int)))) ∧ (∃ z1 : Tm, ((Q65 24 [(aE (getD body_3 0 [])), Q153 (drop 1 (take (toNat (IntKind.wrap .i64 ((length body_3 : Int) - (1 : Int)))) body_3))] (aT z1)) ∧ (∃ b2 : Bool, ((Q70 130 (Q102 (aT z1) 0) b2) ∧ (br b2 (Q47 (Q110 (Q49 0 [] 0) false) [] r Hs') (∃ z3 : Tm, ((Q65 131 (Q72 (aT z1) 0 (Q24 (-1 : Int))) (aT z3)) ∧ (Q47 (Q110 (cT z3) true) [] r Hs'))))))))))))))))) := by kernel_rfl
def lv60 : List (Nat × List Nat) := []
theorem v60 (s : RW) (v : Int) (r : TV) (Hs' : List AObj) : VE lv60 60 0 r Hs' (Q102 (Q61 1 s) v) [] =
  (∃ n1 : Int, ((Q65 89 (Q102 (Q61 1 s) v) (Q24 n1)) ∧ (Q50 (decide ((n1 : Int) ≥ (0 : Int))) [] r Hs'))) := by kernel_rfl
theorem v59_i1 (u_0 : Int) (u_1 : List UInt8) (u_2 : Int) (u_3 : RW) (a1 : Int) (o0_0l : Nat) (o1 : RW) (r : TV) (Hs' : List AObj) : VE lv59 59 2 r Hs' (Q72 (Q83 u_0 u_1 u_2 u_3) a1 (Q88 1)) (Q137 1 1 1 0 o0_0l o1) =
  (br ((u_0 : Int) == (4 : Int)) (((1 : Nat) = 1 ∧ (0 + o0_0l) ≤ (length o1)) ∧ (∃ b1 : Bool, ((Q70 60 (Q102 (Q61 1 (take o0_0l (drop 0 o1))) u_2) b1) ∧ ((true = true) ∧ (br (!b1) ((1 ≤ 1) ∧ ((o0_0l ≤ (length o1) ∧ z0k (o0_0l + 1) 8) ∧ (Q47 [] (Q38 (Q123 1 2 1 0 (o0_0l + 1)) .gone ((take o0_0l o1) ++ [[(Q1 u_2)]])) r Hs'))) (Q47 [] (Q137 1 1 1 0 o0_0l o1) r Hs')))))) (Q47 [] (Q137 1 1 1 0 o0_0l o1) r Hs')) := by kernel_rfl
def lv74 : List (Nat × List Nat) := []
theorem v74 (p_0 : Int) (p_1 : List UInt8) (p_2 : Int) (p_3 : RW) (p_4 : Int) (p_5 : List UInt8) (p_6 : Int) (p_7 : RW) (r : TV) (Hs' : List AObj) : VE lv74 74 0 r Hs' [.agg [Q2 p_0, Q8 p_1, Q2 p_2, Q138 p_3, Q2 p_4, Q8 p_5, Q2 p_6, Q138 p_7]] [] =
  (∃ b1 : Bool, ((Q70 20 [Q83 p_0 p_1 p_2 p_3] b1) ∧ (br (!b1) (Q50 true [] r Hs') (∃ b2 : Bool, ((Q70 20 [Q83 p_4 p_5 p_6 p_7] b2) ∧ (Q50 (!b2) [] r Hs')))))) := by kernel_rfl
def lv133 : List (Nat × List Nat) := []
theorem v133 (t_0 : Int) (t_1 : List UInt8) (t_2 : Int) (t_3 : RW) (o0_1l : Nat) (o0_2 : Int) (o1_0l o1_1l : Nat) (o2 o3 o4 : RW) (r : TV) (Hs' : List AObj) : VE lv133 133 5 r Hs' [Q88 3, Q83 t_0 t_1 t_2 t_3] (Q152 (Q71 3 1 2 0 0 4 8 0 o0_1l o0_2) (Q37 2 o1_0l 3 o1_1l) o2 o3 8 o4) =
  (∃ z1 : Tm × Int × Int, ((Q43 91 (Q98 2 (Q83 t_0 t_1 t_2 t_3) (Q24 o0_2)) (Q127 o1_0l o1_1l o2 o3) (Q145 (cT z1.1) z1.2.1 z1.2.2) (Q127 o1_0l o1_1l o2 o3)) ∧ (br ((z1.2.2 : Int) != (0 : Int)) (Q47 (Q147 (Q74 0 (Q8 []) (Q2 0) Q26 (Q2 0) (Q8 []) (Q2 0) Q26 Q26) z1.2.2) (Q152 (Q71 3 1 2 0 0 4 8 0 o0_1l o0_2) (Q37 2 o1_0l 3 o1_1l) o2 o3 8 o4) r Hs') ((∃ z2 : Tm, ((Q43 92 [(aT z1.1)] [] (Q77 (cT z2) Q86) []) ∧ (Q47 (Q147 (Q142 z1.1.k (Q8 z1.1.s) (Q2 z1.1.n) (FTs z1.1.l) (Q2 z2.k) (Q8 z2.s) (Q2 z2.n) (FTs z2.l) Q26) 0) (Q152 (Q71 3 1 2 0 0 4 8 0 o0_1l z1.2.1) (Q37 2 o1_0l 3 o1_1l) o2 o3 8 o4) r Hs'))) ∨ (∃ z3 : Tm × List Tm, ((Q43 92 [(aT z1.1)] [] (Q77 (cT z3.1) (Q122 0 4 0 (length z3.2))) [.arz 4 (FTs z3.2)]) ∧ (((4 : Nat) = 4 ∧ (0 + (length z3.2)) ≤ (length (FTs z3.2))) ∧ (Q47 (Q147 (Q143 z1.1.k (Q8 z1.1.s) (Q2 z1.1.n) (FTs z1.1.l) (Q2 z3.1.k) (Q8 z3.1.s) (Q2 z3.1.n) (FTs z3.1.l) (take (length z3.2) (drop 0 (FTs z3.2)))) 0) (Q152 (Q71 3 1 2 0 0 4 8 0 o0_1l z1.2.1) (Q37 2 o1_0l 3 o1_1l) o2 o3 8 o4) r Hs')))))))) := by kernel_rfl
def lv135 : List (Nat × List Nat) := []
theorem v135 (t_0 : Int) (t_1 : List UInt8) (t_2 : Int) (t_3 : RW) (r : TV) (Hs' : List AObj) : VE lv135 135 0 r Hs' [Q83 t_0 t_1 t_2 t_3] [] =
  (∃ b1 : Bool, ((Q70 20 [Q83 t_0 t_1 t_2 t_3] b1) ∧ (br (!b1) (RT (Q83 t_0 t_1 t_2 t_3) [] r Hs') (br ((t_0 : Int) == (5 : Int)) (((FV.isSl 4 (Q4 4 t_3) = true) ∧ ((0 ≤ (0 : Int)) ∧ (((0 : Int) < (length t_3 : Int)) ∧ (((rE (getD t_3 0 [])) : List FV) = (getD t_3 0 []))))) ∧ (RT (aE (getD t_3 0 [])) [] r Hs')) (∃ z2 : Tm, ((Q65 131 (Q72 (Q83 t_0 t_1 t_2 t_3) 0 (Q24 1)) (aT z2)) ∧ (((4 : Nat) = 4 ∧ 1 ≤ 1) ∧ (∃ z3 : Tm, ((Q65 24 [(aT z2), Q153 [[(Q1 3), (.str []), (Q1 0), .nils]]] (aT z3)) ∧ (RT (aT z3) [] r Hs')))))))))) := by kernel_rfl
def lv134 : List (Nat × List Nat) := [(1, [3, 4, 5, 8]), (1000001, [2, 3, 4])]
theorem v134 (a b : RW) (o0_1l : Nat) (o0_2 : Int) (o1_0l o1_1l : Nat) (o2 o3 o4 : RW) (r : TV) (Hs' : List AObj) : VE lv134 134 5 r Hs' (Q98 3 (Q153 a) (Q153 b)) (Q152 (Q71 3 1 2 0 0 4 8 0 o0_1l o0_2) (Q37 2 o1_0l 3 o1_1l) o2 o3 8 o4) =
  (∃ z1 : List Tm, ((Q62 152 [Q153 a] (.c (.fn (.func 167) [] [(false, [Q112])])) (Q128 1 [Q138 (FTs z1)])) ∧ (Q155 134 5 r Hs' [Q57 3 8 1, Q57 4 9 1, Q57 5 10 1, Q5 8 (.fn (.func 167) [] [(false, [(Q92 11)])])] [Q25 0 3 (Q66 1 2 0 0 7 8 0 o0_1l o0_2), Q69 1 5 o1_0l 6 o1_1l, Q39 2, Q39 3, Q39 4, Q67 5 o2, Q46 6 o3, Q73 7 8 o4, Q25 8 1 [Q9 0 3 0 0], Q25 9 1 [Q138 a], Q25 10 1 [Q138 b], Q25 11 1 [Q138 (FTs z1)]] 12))) := by kernel_rfl
theorem v134_1an (h0_1l : Nat) (h0_2 : Int) (h1_0l : Nat) (h1_1l : Nat) (h5 : RW) (h6 : RW) (h7 : RW) (h9_0 : RW) (h10_0 : RW) (h11_0 : RW) (K : St → Prop) : prepV 12 [5, 6, 7] [3, 4, 5, 8] K ⟨[Q57 3 8 1, Q57 4 9 1, Q57 5 10 1, Q5 8 (.fn (.func 167) [] [(false, [(Q92 11)])])], [Q25 0 3 (Q66 1 2 0 0 7 8 0 h0_1l h0_2), Q69 1 5 h1_0l 6 h1_1l, Q39 2, Q39 3, Q39 4, Q67 5 h5, Q46 6 h6, Q73 7 8 h7, Q25 8 1 [Q9 0 3 0 0], Q25 9 1 [Q138 h9_0], Q25 10 1 [Q138 h10_0], Q25 11 1 [Q138 h11_0]], 12⟩ =
  (K ⟨[Q57 3 8 1, Q57 4 9 1, Q57 5 10 1, Q5 8 (.fn (.func 167) [] [(false, [(Q92 11)])])], [Q25 0 3 (Q66 1 2 0 0 14 8 0 h0_1l h0_2), Q69 1 12 h1_0l 13 h1_1l, Q39 2, Q39 3, Q39 4, Q39 5, Q39 6, Q39 7, Q25 8 1 [Q9 0 3 0 0], Q25 9 1 [Q138 h9_0], Q25 10 1 [Q138 h10_0], Q25 11 1 [Q138 h11_0], Q67 12 h5, Q46 13 h6, Q73 14 8 h7], 15⟩) := by kernel_rfl
theorem zsx (h0_1l : Nat) (h0_2 : Int) (h1_0l : Nat) (h1_1l : Nat) (h9_0 : RW) (h10_0 : RW) (h11_0 : RW) (h12 : RW) (h13 : RW) (h14 : RW) (k : Int) (v_0 : Int) (v_1 : List UInt8) (v_2 : Int) (v_3 : RW) (R : AHeap → Nat → Prop) : vcR Tryz.prog sh 134 12 [5, 6, 7] 1 [(3, (Q85 8 1)), (4, (Q85 9 1)), (5, (Q85 10 1)), (8, (.c (.fn (.func 167) [] [(false, [(Q92 11)])])))] k (Q83 v_0 v_1 v_2 v_3) [(0, (Q71 3 1 2 0 0 14 8 0 h0_1l h0_2)), (1, (Q37 12 h1_0l 13 h1_1l)), (2, .gone), (3, .gone), (4, .gone), (5, .gone), (6, .gone), (7, .gone), (8, (Q6 1 [Q9 0 3 0 0])), (9, (Q6 1 [Q138 h9_0])), (10, (Q6 1 [Q138 h10_0])), (11, (Q6 1 [Q138 h11_0])), (12, (Q23 h12)), (13, (Q19 h13)), (14, (.arz 8 h14))] 15 R =
  (((FV.isSl 4 (Q4 4 h9_0) = true) ∧ ((0 ≤ k) ∧ ((k < (length h9_0 : Int)) ∧ (((rE (getD h9_0 (toNat k) [])) : List FV) = (getD h9_0 (toNat k) []))))) ∧ (((FV.isSl 4 (Q4 4 h10_0) = true) ∧ ((0 ≤ k) ∧ ((k < (length h10_0 : Int)) ∧ (((rE (getD h10_0 (toNat k) [])) : List FV) = (getD h10_0 (toNat k) []))))) ∧ ((1 ≤ 1) ∧ ((h0_1l ≤ (length h14) ∧ z0k (h0_1l + 1) 112) ∧ (R [(0, (Q71 3 1 2 0 0 14 8 0 (h0_1l + 1) h0_2)), (1, (Q37 12 h1_0l 13 h1_1l)), (2, .gone), (3, .gone), (4, .gone), (5, .gone), (6, .gone), (7, .gone), (8, (Q6 1 [Q9 0 3 0 0])), (9, (Q6 1 [Q138 h9_0])), (10, (Q6 1 [Q138 h10_0])), (11, (Q6 1 [Q138 h11_0])), (12, (Q23 h12)), (13, (Q19 h13)), (14, (.arz 8 ((take h0_1l h14) ++ [[(Q1 (FV.asI (getD (getD h9_0 (toNat k) []) 0 FV.nils))), (.str (FV.asS (getD (getD h9_0 (toNat k) []) 1 FV.nils))), (Q1 (FV.asI (getD (getD h9_0 (toNat k) []) 2 FV.nils))), (getD (getD h9_0 (toNat k) []) 3 FV.nils), (Q1 (FV.asI (getD (getD h10_0 (toNat k) []) 0 FV.nils))), (.str (FV.asS (getD (getD h10_0 (toNat k) []) 1 FV.nils))), (Q1 (FV.asI (getD (getD h10_0 (toNat k) []) 2 FV.nils))), (getD (getD h10_0 (toNat k) []) 3 FV.nils)]])))] 15))))) := by kernel_rfl
theorem zpq (h0_1l : Nat) (h0_2 : Int) (h1_0l : Nat) (h1_1l : Nat) (h9_0 : RW) (h10_0 : RW) (h11_0 : RW) (h12 : RW) (h13 : RW) (h14 : RW) (r : TV) (Hs' : List AObj) : vcA Tryz.prog sh lv134 134 5 (fun r0 Hs0 => TV.Le r0 r ∧ Hs0 = Hs') (RPt Tryz.prog 134 5 r Hs') 1 ⟨[Q57 3 8 1, Q57 4 9 1, Q57 5 10 1, Q5 8 (.fn (.func 167) [] [(false, [(Q92 11)])])], [Q25 0 3 (Q66 1 2 0 0 14 8 0 h0_1l h0_2), Q69 1 12 h1_0l 13 h1_1l, Q39 2, Q39 3, Q39 4, Q39 5, Q39 6, Q39 7, Q25 8 1 [Q9 0 3 0 0], Q25 9 1 [Q138 h9_0], Q25 10 1 [Q138 h10_0], Q25 11 1 [Q138 h11_0], Q67 12 h12, Q46 13 h13, Q73 14 8 h14], 15⟩ =
  (Q47 [] (Q118 (Q71 3 1 2 0 0 7 8 0 h0_1l h0_2) 5 h1_0l 6 h1_1l h12 h13 8 h14) r Hs') := by kernel_rfl
def lv136 : List (Nat × List Nat) := []
theorem v136 (x_0 : Int) (x_1 : List UInt8) (x_2 : Int) (x_3 : RW) (x_4 : Int) (x_5 : List UInt8) (x_6 : Int) (x_7 x_8 : RW) (r : TV) (Hs' : List AObj) : VE lv136 136 0 r Hs' [.agg (Q143 x_0 (Q8 x_1) (Q2 x_2) x_3 (Q2 x_4) (Q8 x_5) (Q2 x_6) x_7 x_8)] [] =
  (Q50 ((x_4 : Int) == (4 : Int)) [] r Hs') := by kernel_rfl
def zq7 : List (Nat × List Nat) := [(3, [0, 4, 7, 9, 10, 41, 42]), (1000001, [2, 3, 4])]
theorem v137 (x_0 : Int) (x_1 : List UInt8) (x_2 : Int) (x_3 : RW) (x_4 : Int) (x_5 : List UInt8) (x_6 : Int) (x_7 x_8 : RW) (y_0 : Int) (y_1 : List UInt8) (y_2 : Int) (y_3 : RW) (y_4 : Int) (y_5 : List UInt8) (y_6 : Int) (y_7 y_8 : RW) (o0_1l : Nat) (o0_2 : Int) (o1_0l o1_1l : Nat) (o2 o3 o4 : RW) (r : TV) (Hs' : List AObj) : VE zq7 137 5 r Hs' (Q98 3 (.agg (Q143 x_0 (Q8 x_1) (Q2 x_2) x_3 (Q2 x_4) (Q8 x_5) (Q2 x_6) x_7 x_8)) (.agg (Q143 y_0 (Q8 y_1) (Q2 y_2) y_3 (Q2 y_4) (Q8 y_5) (Q2 y_6) y_7 y_8))) (Q152 (Q71 3 1 2 0 0 4 8 0 o0_1l o0_2) (Q37 2 o1_0l 3 o1_1l) o2 o3 8 o4) =
  (∃ z1 : List Tm × Int × Nat × Int, ((Q43 153 [Q88 3, .agg (Q143 x_0 (Q8 x_1) (Q2 x_2) x_3 (Q2 x_4) (Q8 x_5) (Q2 x_6) x_7 x_8)] (Q152 (Q71 3 1 2 0 0 4 8 0 o0_1l o0_2) (Q37 2 o1_0l 3 o1_1l) o2 o3 8 o4) [Q20 [Q138 (FTs z1.1)], Q31 z1.2.1] (Q152 (Q71 3 1 2 0 0 4 8 0 z1.2.2.1 z1.2.2.2) (Q37 2 o1_0l 3 o1_1l) o2 o3 8 o4)) ∧ (br ((z1.2.1 : Int) != (0 : Int)) (Q76 z1.2.1 (Q118 (Q71 3 1 2 0 0 7 8 0 z1.2.2.1 z1.2.2.2) 5 o1_0l 6 o1_1l o2 o3 8 o4) r Hs') (∃ z2 : List Tm × Int × Nat × Int, ((Q43 153 [Q88 3, .agg (Q143 y_0 (Q8 y_1) (Q2 y_2) y_3 (Q2 y_4) (Q8 y_5) (Q2 y_6) y_7 y_8)] (Q152 (Q71 3 1 2 0 0 4 8 0 z1.2.2.1 z1.2.2.2) (Q37 2 o1_0l 3 o1_1l) o2 o3 8 o4) [Q20 [Q138 (FTs z2.1)], Q31 z2.2.1] (Q152 (Q71 3 1 2 0 0 4 8 0 z2.2.2.1 z2.2.2.2) (Q37 2 o1_0l 3 o1_1l) o2 o3 8 o4)) ∧ (br ((z2.2.1 : Int) != (0 : Int)) (Q76 z2.2.1 (Q118 (Q71 3 1 2 0 0 7 8 0 z2.2.2.1 z2.2.2.2) 5 o1_0l 6 o1_1l o2 o3 8 o4) r Hs') ((FV.isSl 4 (Q4 4 (FTs z1.1)) = true) ∧ ((FV.isSl 4 (Q4 4 (FTs z2.1)) = true) ∧ (br (((length (FTs z1.1) : Int) : Int) != (length (FTs z2.1) : Int)) (Q76 171 (Q118 (Q71 3 1 2 0 0 7 8 0 z2.2.2.1 z2.2.2.2) 5 o1_0l 6 o1_1l o2 o3 8 o4) r Hs') ((FV.isSl 4 (Q4 4 (FTs z1.1)) = true) ∧ ((((length (FTs z1.1) : Int) = (length (FTs z1.1) : Int)) ∧ ((0 ≤ (length (FTs z1.1) : Int)) ∧ (((1 : Nat) = 1) ∧ (((0 : Nat) < 1) ∧ (((0 : Nat) < 1) ∧ (z0k (toNat (length (FTs z1.1) : Int)) 1)))))) ∧ ((FV.isSl 4 (Q4 4 (FTs z1.1)) = true) ∧ (Q52 137 5 r Hs' 3 [Q57 0 0 3, Q57 4 8 9, Q144 7 (FTs z1.1), Q144 9 (FTs z2.1), Q146 10 9 1 (toNat (length (FTs z1.1) : Int)), Q12 41 (length (FTs z1.1) : Int), Q12 42 0] [Q25 0 3 (Q66 1 2 0 0 7 8 0 z2.2.2.1 z2.2.2.2), Q69 1 5 o1_0l 6 o1_1l, Q39 2, Q39 3, Q39 4, Q67 5 o2, Q46 6 o3, Q73 7 8 o4, Q25 8 9 (Q143 x_0 (Q8 x_1) (Q2 x_2) x_3 (Q2 x_4) (Q8 x_5) (Q2 x_6) x_7 x_8), Q46 9 (List.replicate (toNat (length (FTs z1.1) : Int)) ([(.bool false)] : List FV))] 10))))))))))))) := by kernel_rfl
theorem zrq (x7 x9 : RW) (x10l : Nat) (x41 x42 : Int) (h0_1l : Nat) (h0_2 : Int) (h1_0l h1_1l : Nat) (h5 h6 h7 : RW) (h8_0 : Int) (h8_1 : List UInt8) (h8_2 : Int) (h8_3 : RW) (h8_4 : Int) (h8_5 : List UInt8) (h8_6 : Int) (h8_7 h8_8 h9 : RW) (r : TV) (Hs' : List AObj) : VQ zq7 137 5 r Hs' 3 ⟨[Q57 0 0 3, Q57 4 8 9, Q144 7 x7, Q144 9 x9, Q146 10 9 1 x10l, Q12 41 x41, Q12 42 x42], [Q25 0 3 (Q66 1 2 0 0 7 8 0 h0_1l h0_2), Q69 1 5 h1_0l 6 h1_1l, Q39 2, Q39 3, Q39 4, Q67 5 h5, Q46 6 h6, Q73 7 8 h7, Q25 8 9 (Q143 h8_0 (Q8 h8_1) (Q2 h8_2) h8_3 (Q2 h8_4) (Q8 h8_5) (Q2 h8_6) h8_7 h8_8), Q46 9 h9], 10⟩ =
  (br (decide ((x42 : Int) < x41)) (((FV.isSl 4 (Q4 4 x7) = true) ∧ ((0 ≤ x42) ∧ ((x42 < (length x7 : Int)) ∧ (((rE (getD x7 (toNat x42) [])) : List FV) = (getD x7 (toNat x42) []))))) ∧ (((FV.isSl 4 (Q4 4 x9) = true) ∧ ((0 ≤ x42) ∧ ((x42 < (length x9 : Int)) ∧ (((rE (getD x9 (toNat x42) [])) : List FV) = (getD x9 (toNat x42) []))))) ∧ (∃ b1 : Bool, ((Q70 139 [(aE (getD x7 (toNat x42) [])), (aE (getD x9 (toNat x42) []))] b1) ∧ ((0 ≤ x42 ∧ x42 < (x10l : Int)) ∧ (((0 + (toNat x42)) < (length h9) ∧ (length (getD h9 (0 + (toNat x42)) [])) = 1) ∧ (Q52 137 5 r Hs' 3 [Q57 0 0 3, Q57 4 8 9, Q144 7 x7, Q144 9 x9, Q146 10 9 1 x10l, Q12 41 x41, Q12 42 (IntKind.wrap .i64 (x42 + 1))] [Q25 0 3 (Q66 1 2 0 0 7 8 0 h0_1l h0_2), Q69 1 5 h1_0l 6 h1_1l, Q39 2, Q39 3, Q39 4, Q67 5 h5, Q46 6 h6, Q73 7 8 h7, Q25 8 9 (Q143 h8_0 (Q8 h8_1) (Q2 h8_2) h8_3 (Q2 h8_4) (Q8 h8_5) (Q2 h8_6) h8_7 h8_8), Q46 9 (List.set h9 (0 + (toNat x42)) [(.bool b1)])] 10))))))) (((1 : Nat) = 1 ∧ (0 + x10l) ≤ (length h9)) ∧ (∃ b2 : Bool, ((Q70 154 [Q61 1 (take x10l (drop 0 h9)), Q32 false] b2) ∧ ((true = true) ∧ (br (!b2) (Q76 0 (Q118 (Q71 3 1 2 0 0 7 8 0 h0_1l h0_2) 5 h1_0l 6 h1_1l h5 h6 8 h7) r Hs') (((1 : Nat) = 1 ∧ (0 + x10l) ≤ (length h9)) ∧ (∃ z3 : Int × Sto, ((Q10 155 (Q72 (Q88 2) h8_6 (Q61 1 (take x10l (drop 0 h9)))) (Q127 h1_0l h1_1l h5 h6) (Q24 z3.1) (Q113 3 (length z3.2.V) 4 (length z3.2.T) (SR z3.2.V) (IR z3.2.T))) ∧ (Q76 z3.1 (Q118 (Q71 3 1 2 0 0 7 8 0 h0_1l h0_2) 5 (length z3.2.V) 6 (length z3.2.T) (SR z3.2.V) (IR z3.2.T) 8 h7) r Hs')))))))))) := by kernel_rfl
def lv138 : List (Nat × List Nat) := [(1000001, [2, 3, 4])]
theorem v138 (x_0 : Int) (x_1 : List UInt8) (x_2 : Int) (x_3 : RW) (x_4 : Int) (x_5 : List UInt8) (x_6 : Int) (x_7 x_8 : RW) (y_0 : Int) (y_1 : List UInt8) (y_2 : Int) (y_3 : RW) (y_4 : Int) (y_5 : List UInt8) (y_6 : Int) (y_7 y_8 : RW) (o0_1l : Nat) (o0_2 : Int) (o1_0l o1_1l : Nat) (o2 o3 o4 : RW) (r : TV) (Hs' : List AObj) : VE lv138 138 5 r Hs' (Q98 3 (.agg (Q143 x_0 (Q8 x_1) (Q2 x_2) x_3 (Q2 x_4) (Q8 x_5) (Q2 x_6) x_7 x_8)) (.agg (Q143 y_0 (Q8 y_1) (Q2 y_2) y_3 (Q2 y_4) (Q8 y_5) (Q2 y_6) y_7 y_8))) (Q152 (Q71 3 1 2 0 0 4 8 0 o0_1l o0_2) (Q37 2 o1_0l 3 o1_1l) o2 o3 8 o4) =
  (∃ z1 : List Tm × Int × Nat × Int, ((Q43 153 [Q88 3, .agg (Q143 x_0 (Q8 x_1) (Q2 x_2) x_3 (Q2 x_4) (Q8 x_5) (Q2 x_6) x_7 x_8)] (Q152 (Q71 3 1 2 0 0 4 8 0 o0_1l o0_2) (Q37 2 o1_0l 3 o1_1l) o2 o3 8 o4) [Q20 [Q138 (FTs z1.1)], Q31 z1.2.1] (Q152 (Q71 3 1 2 0 0 4 8 0 z1.2.2.1 z1.2.2.2) (Q37 2 o1_0l 3 o1_1l) o2 o3 8 o4)) ∧ (br ((z1.2.1 : Int) != (0 : Int)) (Q76 z1.2.1 (Q118 (Q71 3 1 2 0 0 7 8 0 z1.2.2.1 z1.2.2.2) 5 o1_0l 6 o1_1l o2 o3 8 o4) r Hs') (∃ z2 : Int × Sto × Nat × RW × Int, ((Q10 156 [Q88 3, .agg (Q143 x_0 (Q8 x_1) (Q2 x_2) x_3 (Q2 x_4) (Q8 x_5) (Q2 x_6) x_7 x_8), Q153 (FTs z1.1), Q83 y_0 y_1 y_2 y_3] (Q152 (Q71 3 1 2 0 0 4 8 0 z1.2.2.1 z1.2.2.2) (Q37 2 o1_0l 3 o1_1l) o2 o3 8 o4) (Q24 z2.1) (Q118 (Q71 3 1 2 0 0 7 8 0 z2.2.2.1 z2.2.2.2.2) 5 (length z2.2.1.V) 6 (length z2.2.1.T) (SR z2.2.1.V) (IR z2.2.1.T) 8 z2.2.2.2.1)) ∧ (Q76 z2.1 (Q118 (Q71 3 1 2 0 0 7 8 0 z2.2.2.1 z2.2.2.2.2) 5 (length z2.2.1.V) 6 (length z2.2.1.T) (SR z2.2.1.V) (IR z2.2.1.T) 8 z2.2.2.2.1) r Hs')))))) := by kernel_rfl
def lv139 : List (Nat × List Nat) := []
theorem v139 (a_0 : Int) (a_1 : List UInt8) (a_2 : Int) (a_3 : RW) (b_0 : Int) (b_1 : List UInt8) (b_2 : Int) (b_3 : RW) (r : TV) (Hs' : List AObj) : VE lv139 139 0 r Hs' [Q83 a_0 a_1 a_2 a_3, Q83 b_0 b_1 b_2 b_3] [] =
  (br ((a_0 : Int) == b_0) (br ((a_1 : List UInt8) == b_1) (br ((a_2 : Int) == b_2) (∃ b1 : Bool, ((Q70 157 [Q153 a_3, Q153 b_3, .c (.fn (.func 139) [] [])] b1) ∧ (Q50 b1 [] r Hs'))) (Q82 [] r Hs')) (Q82 [] r Hs')) (Q82 [] r Hs')) := by kernel_rfl
def lv95 : List (Nat × List Nat) := []
theorem v95 (s : List UInt8) (r : TV) (Hs' : List AObj) : VE lv95 95 0 r Hs' [.c (Q8 s)] [] =
  (br (!((s : List UInt8) == [])) (Q50 (decide (((length s : Int) : Int) ≤ (32 : Int))) [] r Hs') (Q82 [] r Hs')) := by kernel_rfl
def lv96 : List (Nat × List Nat) := []
theorem v96 (c : Int) (r : TV) (Hs' : List AObj) : VE lv96 96 0 r Hs' [.c (Q0 (.int .u8 c))] [] =
  (br (decide (((97 : Int) : Int) ≤ c)) (Q50 (decide ((c : Int) ≤ (122 : Int))) [] r Hs') (Q82 [] r Hs')) := by kernel_rfl
def lv97 : List (Nat × List Nat) := [(1, [0, 1, 7, 8])]
theorem v97_F98 (s : List UInt8) (r : TV) (Hs' : List AObj) : VE lv97 97 0 r Hs' (Q121 (.c (Q8 s)) (.fn (.func 98) [] [])) [] =
  (Q155 97 0 r Hs' (Q108 (Q5 0 (Q8 s)) (Q5 1 (.fn (.func 98) [] [])) 7 (length s : Int) 8 0) [] 0) := by kernel_rfl
theorem zdh (x0 : List UInt8) (x7 x8 : Int) (r : TV) (Hs' : List AObj) : VQ lv97 97 0 r Hs' 1 ⟨Q108 (Q5 0 (Q8 x0)) (Q5 1 (.fn (.func 98) [] [])) 7 x7 8 x8, [], 0⟩ =
  (br (decide ((x8 : Int) < x7)) ((0 ≤ x8 ∧ x8 < (length x0 : Int)) ∧ (∃ b1 : Bool, ((Q70 98 [.c (Q0 (.int .u8 ((UInt8.toNat (getD x0 (toNat x8) 0) : Nat) : Int)))] b1) ∧ (br (!b1) (Q76 x8 [] r Hs') (Q155 97 0 r Hs' (Q108 (Q5 0 (Q8 x0)) (Q5 1 (.fn (.func 98) [] [])) 7 x7 8 (IntKind.wrap .i64 (x8 + 1))) [] 0))))) (Q76 (length x0 : Int) [] r Hs')) := by kernel_rfl
theorem v97_F99 (s : List UInt8) (r : TV) (Hs' : List AObj) : VE lv97 97 0 r Hs' (Q121 (.c (Q8 s)) (.fn (.func 99) [] [])) [] =
  (Q155 97 0 r Hs' (Q108 (Q5 0 (Q8 s)) (Q5 1 (.fn (.func 99) [] [])) 7 (length s : Int) 8 0) [] 0) := by kernel_rfl
theorem zdr (x0 : List UInt8) (x7 x8 : Int) (r : TV) (Hs' : List AObj) : VQ lv97 97 0 r Hs' 1 ⟨Q108 (Q5 0 (Q8 x0)) (Q5 1 (.fn (.func 99) [] [])) 7 x7 8 x8, [], 0⟩ =
  (br (decide ((x8 : Int) < x7)) ((0 ≤ x8 ∧ x8 < (length x0 : Int)) ∧ (∃ b1 : Bool, ((Q70 99 [.c (Q0 (.int .u8 ((UInt8.toNat (getD x0 (toNat x8) 0) : Nat) : Int)))] b1) ∧ (br (!b1) (Q76 x8 [] r Hs') (Q155 97 0 r Hs' (Q108 (Q5 0 (Q8 x0)) (Q5 1 (.fn (.func 99) [] [])) 7 x7 8 (IntKind.wrap .i64 (x8 + 1))) [] 0))))) (Q76 (length x0 : Int) [] r Hs')) := by kernel_rfl
def lv100 : List (Nat × List Nat) := []
theorem v100 (s substr : List UInt8) (r : TV) (Hs' : List AObj) : VE lv100 100 0 r Hs' (Q121 (.c (Q8 s)) (Q8 substr)) [] =
  (∃ n1 : Int, ((Q65 128 (Q121 (.c (Q8 s)) (Q8 substr)) (Q24 n1)) ∧ (Q50 (decide ((n1 : Int) ≥ (0 : Int))) [] r Hs'))) := by kernel_rfl
def lv83 : List (Nat × List Nat) := [(1, [0, 1, 7, 8])]
theorem v83_F66 (s : RW) (r : TV) (Hs' : List AObj) : VE lv83 83 0 r Hs' (Q154 s (.fn (.func 66) [] [])) [] =
  ((FV.isSl 4 (Q4 4 s) = true) ∧ (Q155 83 0 r Hs' (Q108 (Q144 0 s) (Q5 1 (.fn (.func 66) [] [])) 7 (length s : Int) 8 0) [] 0)) := by kernel_rfl
theorem zdn (x0 : RW) (x7 x8 : Int) (r : TV) (Hs' : List AObj) : VQ lv83 83 0 r Hs' 1 ⟨Q108 (Q144 0 x0) (Q5 1 (.fn (.func 66) [] [])) 7 x7 8 x8, [], 0⟩ =
  (br (decide ((x8 : Int) < x7)) (((FV.isSl 4 (Q4 4 x0) = true) ∧ ((0 ≤ x8) ∧ ((x8 < (length x0 : Int)) ∧ (((rE (getD x0 (toNat x8) [])) : List FV) = (getD x0 (toNat x8) []))))) ∧ (∃ b1 : Bool, ((Q70 66 [(aE (getD x0 (toNat x8) []))] b1) ∧ (br b1 (Q76 x8 [] r Hs') (Q155 83 0 r Hs' (Q108 (Q144 0 x0) (Q5 1 (.fn (.func 66) [] [])) 7 x7 8 (IntKind.wrap .i64 (x8 + 1))) [] 0))))) (Q76 (-1 : Int) [] r Hs')) := by kernel_rfl
def lv129 : List (Nat × List Nat) := []
theorem v129 (t_0 : Int) (t_1 : List UInt8) (t_2 : Int) (t_3 : RW) (o0_0l o0_1l : Nat) (o1 o2 : RW) (r : TV) (Hs' : List AObj) : VE lv129 129 3 r Hs' [Q88 2, Q83 t_0 t_1 t_2 t_3] (Q127 o0_0l o0_1l o1 o2) =
  (∃ z1 : Tm × Bool, ((Q43 146 [Q88 2, Q83 t_0 t_1 t_2 t_3] (Q127 o0_0l o0_1l o1 o2) (Q110 (cT z1.1) z1.2) (Q127 o0_0l o0_1l o1 o2)) ∧ (br z1.2 (Q47 (Q91 (Q44 (cT z1.1)) (Q20 (Q109 true)) 0) (Q127 o0_0l o0_1l o1 o2) r Hs') (br ((t_0 : Int) != (6 : Int)) (Q47 (Q91 (Q44 (Q22 t_0 t_1 t_2 4 t_3)) (Q20 (Q109 false)) 0) (Q127 o0_0l o0_1l o1 o2) r Hs') (((FV.isSl 4 (Q4 4 t_3) = true) ∧ ((0 ≤ (0 : Int)) ∧ (((0 : Int) < (length t_3 : Int)) ∧ (((rE (getD t_3 0 [])) : List FV) = (getD t_3 0 []))))) ∧ (∃ z2 : Tm × Bool, ((Q43 146 [Q88 2, (aE (getD t_3 0 []))] (Q127 o0_0l o0_1l o1 o2) (Q110 (cT z2.1) z2.2) (Q127 o0_0l o0_1l o1 o2)) ∧ (br z2.2 ((FV.isSl 4 (Q4 4 t_3) = true) ∧ (((0 ≤ (1 : Int)) ∧ (((1 : Int) ≤ (length t_3 : Int)) ∧ ((length t_3 : Int) ≤ (length t_3 : Int)))) ∧ (∃ z3 : Tm, ((Q65 24 [(aT z2.1), Q153 (drop 1 (take (toNat (length t_3 : Int)) t_3))] (aT z3)) ∧ (Q47 (Q91 (Q44 (cT z3)) (Q20 (Q109 true)) 0) (Q127 o0_0l o0_1l o1 o2) r Hs'))))) (((FV.isSl 4 (Q4 4 t_3) = true) ∧ ((0 ≤ (0 : Int)) ∧ (((0 : Int) < (length t_3 : Int)) ∧ (((rE (getD t_3 0 [])) : List FV) = (getD t_3 0 []))))) ∧ (br (((FV.asI (getD (getD t_3 0 []) 0 FV.nils)) : Int) != (5 : Int)) (Q47 (Q91 (Q44 (Q22 t_0 t_1 t_2 4 t_3)) (Q20 (Q109 false)) 0) (Q127 o0_0l o0_1l o1 o2) r Hs') (((FV.isSl 4 (Q4 4 t_3) = true) ∧ ((0 ≤ (0 : Int)) ∧ (((0 : Int) < (length t_3 : Int)) ∧ (((rE (getD t_3 0 [])) : List FV) = (getD t_3 0 []))))) ∧ (((FV.isSl 4 (getD (getD t_3 0 []) 3 FV.nils) = true) ∧ ((0 ≤ (0 : Int)) ∧ (((0 : Int) < (((length (FV.ses (getD (getD t_3 0 []) 3 FV.nils))) : Nat) : Int)) ∧ (((rE (getD (FV.ses (getD (getD t_3 0 []) 3 FV.nils)) 0 [])) : List FV) = (getD (FV.ses (getD (getD t_3 0 []) 3 FV.nils)) 0 []))))) ∧ (((FV.isSl 4 (Q4 4 t_3) = true) ∧ ((0 ≤ (1 : Int)) ∧ (((1 : Int) < (length t_3 : Int)) ∧ (((rE (getD t_3 1 [])) : List FV) = (getD t_3 1 []))))) ∧ (∃ z4 : Tm × Int, ((Q43 147 [(aE (getD (FV.ses (getD (getD t_3 0 []) 3 FV.nils)) 0 [])), (aE (getD t_3 1 []))] [] (Q147 (cT z4.1) z4.2) []) ∧ ((FV.isSl 4 (Q4 4 t_3) = true) ∧ (((0 ≤ (2 : Int)) ∧ (((2 : Int) ≤ (length t_3 : Int)) ∧ ((length t_3 : Int) ≤ (length t_3 : Int)))) ∧ (∃ z5 : Tm, ((Q65 24 [(aT z4.1), Q153 (drop 2 (take (toNat (length t_3 : Int)) t_3))] (aT z5)) ∧ (Q47 (Q91 (Q44 (cT z5)) (Q20 (Q109 true)) z4.2) (Q127 o0_0l o0_1l o1 o2) r Hs')))))))))))))))))))) := by kernel_rfl
def lv130 : List (Nat × List Nat) := []
theorem v130 (t_0 : Int) (t_1 : List UInt8) (t_2 : Int) (t_3 : RW) (i : Int) (r : TV) (Hs' : List AObj) : VE lv130 130 0 r Hs' (Q102 (Q83 t_0 t_1 t_2 t_3) i) [] =
  (∃ n1 : Int, ((Q65 148 (Q102 (Q83 t_0 t_1 t_2 t_3) i) (Q24 n1)) ∧ (Q50 (decide ((n1 : Int) > (0 : Int))) [] r Hs'))) := by kernel_rfl
def lv131 : List (Nat × List Nat) := []
theorem v131 (t_0 : Int) (t_1 : List UInt8) (t_2 : Int) (t_3 : RW) (a1 a2 : Int) (r : TV) (Hs' : List AObj) : VE lv131 131 0 r Hs' (Q72 (Q83 t_0 t_1 t_2 t_3) a1 (Q24 a2)) [] =
  (∃ z1 : Tm, ((Q10 151 [.agg [(.fn (.func 149) [] [(false, [Q112]), (false, [(Q92 1)])])], Q83 t_0 t_1 t_2 t_3, Q24 0] (Q111 a1 (Q103 a2)) (aT z1) (Q111 a1 (Q103 a2))) ∧ (RT (aT z1) [] r Hs'))) := by kernel_rfl
def lv89 : List (Nat × List Nat) := [(1, [0, 1, 7, 8])]
theorem v89 (s : RW) (v : Int) (r : TV) (Hs' : List AObj) : VE lv89 89 0 r Hs' (Q102 (Q61 1 s) v) [] =
  ((FV.isSl 1 (Q4 1 s) = true) ∧ (Q155 89 0 r Hs' (Q108 (Q54 0 1 s) (Q12 1 v) 7 (length s : Int) 8 0) [] 0)) := by kernel_rfl
theorem v89_1a (x0 : RW) (x1 x7 x8 : Int) (r : TV) (Hs' : List AObj) : VQ lv89 89 0 r Hs' 1 ⟨Q108 (Q54 0 1 x0) (Q12 1 x1) 7 x7 8 x8, [], 0⟩ =
  (br (decide ((x8 : Int) < x7)) (((FV.isSl 1 (Q4 1 x0) = true) ∧ ((0 ≤ x8) ∧ ((x8 < (length x0 : Int)) ∧ (([(Q1 (FV.asI (getD (getD x0 (toNat x8) []) 0 FV.nils)))] : List FV) = (getD x0 (toNat x8) []))))) ∧ (br ((x1 : Int) == (FV.asI (getD (getD x0 (toNat x8) []) 0 FV.nils))) (Q76 x8 [] r Hs') (Q155 89 0 r Hs' (Q108 (Q54 0 1 x0) (Q12 1 x1) 7 x7 8 (IntKind.wrap .i64 (x8 + 1))) [] 0))) (Q76 (-1 : Int) [] r Hs')) := by kernel_rfl
def lv91 : List (Nat × List Nat) := []
theorem v91 (t_0 : Int) (t_1 : List UInt8) (t_2 : Int) (t_3 : RW) (fuel : Int) (o0_0l o0_1l : Nat) (o1 o2 : RW) (r : TV) (Hs' : List AObj) : VE lv91 91 3 r Hs' (Q98 2 (Q83 t_0 t_1 t_2 t_3) (Q24 fuel)) (Q127 o0_0l o0_1l o1 o2) =
  (∃ z1 : Tm × Int × Int, ((Q140 67 (Q83 t_0 t_1 t_2 t_3) fuel (.fn (.func 101) [(false, [(Q81 0 2)])] []) (Q127 o0_0l o0_1l o1 o2) (Q145 (cT z1.1) z1.2.1 z1.2.2) (Q127 o0_0l o0_1l o1 o2)) ∧ (Q47 (Q145 (cT z1.1) z1.2.1 z1.2.2) (Q127 o0_0l o0_1l o1 o2) r Hs'))) := by kernel_rfl
def lv92 : List (Nat × List Nat) := []
theorem v92 (t_0 : Int) (t_1 : List UInt8) (t_2 : Int) (t_3 : RW) (r : TV) (Hs' : List AObj) : VE lv92 92 0 r Hs' [Q83 t_0 t_1 t_2 t_3] [] =
  (br ((t_0 : Int) != (6 : Int)) (Q47 (Q77 (Q22 t_0 t_1 t_2 4 t_3) Q86) [] r Hs') (∃ b1 : Bool, ((Q70 20 [Q83 t_0 t_1 t_2 t_3] b1) ∧ (br (!b1) (Q47 (Q77 (Q22 t_0 t_1 t_2 4 t_3) Q86) [] r Hs') (((FV.isSl 4 (Q4 4 t_3) = true) ∧ ((0 ≤ (0 : Int)) ∧ (((0 : Int) < (length t_3 : Int)) ∧ (((rE (getD t_3 0 [])) : List FV) = (getD t_3 0 []))))) ∧ ((FV.isSl 4 (Q4 4 t_3) = true) ∧ (((0 ≤ (1 : Int)) ∧ (((1 : Int) ≤ (length t_3 : Int)) ∧ ((length t_3 : Int) ≤ (length t_3 : Int)))) ∧ ((∃ z2 : Bool, ((Q65 102 [Q153 (drop 1 (take (toNat (length t_3 : Int)) t_3))] (.c (Q0 (.sl z2 4 [])))) ∧ (Q47 (Q77 (cE (getD t_3 0 [])) [Q0 (.sl z2 4 [])]) [] r Hs'))) ∨ (∃ z3 : RW, ((Q62 102 [Q153 (drop 1 (take (toNat (length t_3 : Int)) t_3))] (.c (Q3 0 4 0 (length z3))) [.arz 4 z3]) ∧ (Q47 (Q77 (cE (getD t_3 0 [])) (Q122 0 4 0 (length z3))) [.arz 4 z3] r Hs'))))))))))) := by kernel_rfl
def lv152 : List (Nat × List Nat) := []
theorem v152 (s : RW) (r : TV) (Hs' : List AObj) : VE lv152 152 0 r Hs' [Q153 s] [] =
  (RT (.c (.fn (.func 167) [] [(false, [Q112])])) (Q128 1 [Q138 s]) r Hs') := by kernel_rfl
def lv153 : List (Nat × List Nat) := []
theorem v153 (x_0 : Int) (x_1 : List UInt8) (x_2 : Int) (x_3 : RW) (x_4 : Int) (x_5 : List UInt8) (x_6 : Int) (x_7 x_8 : RW) (o0_1l : Nat) (o0_2 : Int) (o1_0l o1_1l : Nat) (o2 o3 o4 : RW) (r : TV) (Hs' : List AObj) : VE lv153 153 5 r Hs' [Q88 3, .agg (Q143 x_0 (Q8 x_1) (Q2 x_2) x_3 (Q2 x_4) (Q8 x_5) (Q2 x_6) x_7 x_8)] (Q152 (Q71 3 1 2 0 0 4 8 0 o0_1l o0_2) (Q37 2 o1_0l 3 o1_1l) o2 o3 8 o4) =
  (∃ z1 : List Tm × Int × Int, ((Q43 13 [Q88 2, Q24 x_6, Q153 x_8, Q24 o0_2] (Q127 o1_0l o1_1l o2 o3) (Q101 (Q20 [Q138 (FTs z1.1)]) z1.2.1 z1.2.2) (Q127 o1_0l o1_1l o2 o3)) ∧ (br ((z1.2.2 : Int) == (0 : Int)) (Q47 [Q20 [Q138 (FTs z1.1)], Q31 z1.2.2] (Q152 (Q71 3 1 2 0 0 4 8 0 o0_1l z1.2.1) (Q37 2 o1_0l 3 o1_1l) o2 o3 8 o4) r Hs') (Q47 [Q20 [Q138 (FTs z1.1)], Q31 z1.2.2] (Q152 (Q71 3 1 2 0 0 4 8 0 o0_1l o0_2) (Q37 2 o1_0l 3 o1_1l) o2 o3 8 o4) r Hs')))) := by kernel_rfl
def lv154 : List (Nat × List Nat) := []
theorem v154 (s : RW) (v : Bool) (r : TV) (Hs' : List AObj) : VE lv154 154 0 r Hs' [Q61 1 s, Q32 v] [] =
  (∃ n1 : Int, ((Q65 168 [Q61 1 s, Q32 v] (Q24 n1)) ∧ (Q50 (decide ((n1 : Int) ≥ (0 : Int))) [] r Hs'))) := by kernel_rfl
def zia : List (Nat × List Nat) := [(1, [0, 1, 2, 7, 9, 24, 25, 26]), (1000001, [1, 2])]
theorem v155 (x : Int) (keep : RW) (o0_0l o0_1l : Nat) (o1 o2 : RW) (r : TV) (Hs' : List AObj) : VE zia 155 3 r Hs' (Q72 (Q88 2) x (Q61 1 keep)) (Q127 o0_0l o0_1l o1 o2) =
  (∃ z1 : Int × Bool × Tm × Bool, ((Q43 19 (Q102 (Q88 2) x) (Q127 o0_0l o0_1l o1 o2) (Q110 (Q139 z1.1 z1.2.1 z1.2.2.1.k z1.2.2.1.s z1.2.2.1.n (FTs z1.2.2.1.l)) z1.2.2.2) (Q127 o0_0l o0_1l o1 o2)) ∧ (br (!z1.2.2.2) (Q76 1 (Q113 3 o0_0l 4 o0_1l o1 o2) r Hs') (br z1.2.1 (Q76 1 (Q113 3 o0_0l 4 o0_1l o1 o2) r Hs') ((FV.isSl 1 (Q4 1 keep) = true) ∧ (Q155 155 3 r Hs' [Q57 0 0 2, Q12 1 x, Q54 2 1 keep, Q57 7 5 6, Q134 9, Q54 24 1 keep, Q12 25 (length keep : Int), Q12 26 0] [Q69 0 3 o0_0l 4 o0_1l, Q39 1, Q39 2, Q67 3 o1, Q46 4 o2, Q25 5 6 (Q139 z1.1 z1.2.1 z1.2.2.1.k z1.2.2.1.s z1.2.2.1.n (FTs z1.2.2.1.l))] 6)))))) := by kernel_rfl
theorem zol (x1 : Int) (x2 x24 : RW) (x25 x26 : Int) (h0_0l h0_1l : Nat) (h3 h4 : RW) (h5_0 : Int) (h5_1 : Bool) (h5_2 : Int) (h5_3 : List UInt8) (h5_4 : Int) (h5_5 : RW) (r : TV) (Hs' : List AObj) : VQ zia 155 3 r Hs' 1 ⟨[Q57 0 0 2, Q12 1 x1, Q54 2 1 x2, Q57 7 5 6, Q134 9, Q54 24 1 x24, Q12 25 x25, Q12 26 x26], [Q69 0 3 h0_0l 4 h0_1l, Q39 1, Q39 2, Q67 3 h3, Q46 4 h4, Q25 5 6 (Q139 h5_0 h5_1 h5_2 h5_3 h5_4 h5_5)], 6⟩ =
  (br (decide ((x26 : Int) < x25)) (((FV.isSl 1 (Q4 1 x24) = true) ∧ ((0 ≤ x26) ∧ ((x26 < (length x24 : Int)) ∧ (([(.bool (FV.asB (getD (getD x24 (toNat x26) []) 0 FV.nils)))] : List FV) = (getD x24 (toNat x26) []))))) ∧ (br (FV.asB (getD (getD x24 (toNat x26) []) 0 FV.nils)) ((FV.isSl 1 (Q4 1 x2) = true) ∧ (∃ z1 : Tm, ((Q65 121 [Q24 (IntKind.wrap .i64 ((IntKind.wrap .i64 ((length x2 : Int) - (1 : Int))) - x26))] (aT z1)) ∧ ((1 ≤ 1) ∧ ((z0k 1 56) ∧ (Q155 155 3 r Hs' [Q57 0 0 2, Q12 1 x1, Q54 2 1 x2, Q57 7 5 6, Q156 9 6 1, Q54 24 1 x24, Q12 25 x25, Q12 26 (IntKind.wrap .i64 (x26 + 1))] [Q69 0 3 h0_0l 4 h0_1l, Q39 1, Q39 2, Q67 3 h3, Q46 4 h4, Q25 5 6 (Q139 h5_0 h5_1 h5_2 h5_3 h5_4 h5_5), Q73 6 4 [(FT4 z1)]] 7)))))) (Q155 155 3 r Hs' [Q57 0 0 2, Q12 1 x1, Q54 2 1 x2, Q57 7 5 6, Q134 9, Q54 24 1 x24, Q12 25 x25, Q12 26 (IntKind.wrap .i64 (x26 + 1))] [Q69 0 3 h0_0l 4 h0_1l, Q39 1, Q39 2, Q67 3 h3, Q46 4 h4, Q25 5 6 (Q139 h5_0 h5_1 h5_2 h5_3 h5_4 h5_5)] 6))) ((FV.isSl 1 (Q4 1 x2) = true) ∧ (∃ z2 : Tm × Sto, ((Q10 123 [Q88 2, Q24 x1, Q24 h5_0, Q24 (length x2 : Int), .c Q26] (Q127 h0_0l h0_1l h3 h4) (aT z2.1) (Q113 3 (length z2.2.V) 4 (length z2.2.T) (SR z2.2.V) (IR z2.2.T))) ∧ (Q76 0 (Q113 3 (length z2.2.V) 4 (length z2.2.T) (SR z2.2.V) (IR z2.2.T)) r Hs'))))) := by kernel_rfl
theorem zs7 (x1 : Int) (x2 : RW) (x9l : Nat) (x24 : RW) (x25 x26 : Int) (h0_0l h0_1l : Nat) (h3 h4 : RW) (h5_0 : Int) (h5_1 : Bool) (h5_2 : Int) (h5_3 : List UInt8) (h5_4 : Int) (h5_5 h6 : RW) (r : TV) (Hs' : List AObj) : VQ zia 155 3 r Hs' 1 ⟨[Q57 0 0 2, Q12 1 x1, Q54 2 1 x2, Q57 7 5 6, Q156 9 6 x9l, Q54 24 1 x24, Q12 25 x25, Q12 26 x26], [Q69 0 3 h0_0l 4 h0_1l, Q39 1, Q39 2, Q67 3 h3, Q46 4 h4, Q25 5 6 (Q139 h5_0 h5_1 h5_2 h5_3 h5_4 h5_5), Q73 6 4 h6], 7⟩ =
  (br (decide ((x26 : Int) < x25)) (((FV.isSl 1 (Q4 1 x24) = true) ∧ ((0 ≤ x26) ∧ ((x26 < (length x24 : Int)) ∧ (([(.bool (FV.asB (getD (getD x24 (toNat x26) []) 0 FV.nils)))] : List FV) = (getD x24 (toNat x26) []))))) ∧ (br (FV.asB (getD (getD x24 (toNat x26) []) 0 FV.nils)) ((FV.isSl 1 (Q4 1 x2) = true) ∧ (∃ z1 : Tm, ((Q65 121 [Q24 (IntKind.wrap .i64 ((IntKind.wrap .i64 ((length x2 : Int) - (1 : Int))) - x26))] (aT z1)) ∧ ((1 ≤ 1) ∧ ((x9l ≤ (length h6) ∧ z0k (x9l + 1) 56) ∧ (Q155 155 3 r Hs' [Q57 0 0 2, Q12 1 x1, Q54 2 1 x2, Q57 7 5 6, Q156 9 6 (x9l + 1), Q54 24 1 x24, Q12 25 x25, Q12 26 (IntKind.wrap .i64 (x26 + 1))] [Q69 0 3 h0_0l 4 h0_1l, Q39 1, Q39 2, Q67 3 h3, Q46 4 h4, Q25 5 6 (Q139 h5_0 h5_1 h5_2 h5_3 h5_4 h5_5), Q73 6 4 ((take x9l h6) ++ [(FT4 z1)])] 7)))))) (Q155 155 3 r Hs' [Q57 0 0 2, Q12 1 x1, Q54 2 1 x2, Q57 7 5 6, Q156 9 6 x9l, Q54 24 1 x24, Q12 25 x25, Q12 26 (IntKind.wrap .i64 (x26 + 1))] [Q69 0 3 h0_0l 4 h0_1l, Q39 1, Q39 2, Q67 3 h3, Q46 4 h4, Q25 5 6 (Q139 h5_0 h5_1 h5_2 h5_3 h5_4 h5_5), Q73 6 4 h6] 7))) ((FV.isSl 1 (Q4 1 x2) = true) ∧ (((4 : Nat) = 4 ∧ (0 + x9l) ≤ (length h6)) ∧ (∃ z2 : Tm × Sto, ((Q10 123 [Q88 2, Q24 x1, Q24 h5_0, Q24 (length x2 : Int), Q153 (take x9l (drop 0 h6))] (Q127 h0_0l h0_1l h3 h4) (aT z2.1) (Q113 3 (length z2.2.V) 4 (length z2.2.T) (SR z2.2.V) (IR z2.2.T))) ∧ (Q76 0 (Q113 3 (length z2.2.V) 4 (length z2.2.T) (SR z2.2.V) (IR z2.2.T)) r Hs')))))) := by kernel_rfl
def lv156 : List (Nat × List Nat) := [(1000001, [2, 3, 4])]
theorem v156 (x_0 : Int) (x_1 : List UInt8) (x_2 : Int) (x_3 : RW) (x_4 : Int) (x_5 : List UInt8) (x_6 : Int) (x_7 x_8 leaves : RW) (t_0 : Int) (t_1 : List UInt8) (t_2 : Int) (t_3 : RW) (o0_1l : Nat) (o0_2 : Int) (o1_0l o1_1l : Nat) (o2 o3 o4 : RW) (r : TV) (Hs' : List AObj) : VE lv156 156 5 r Hs' [Q88 3, .agg (Q143 x_0 (Q8 x_1) (Q2 x_2) x_3 (Q2 x_4) (Q8 x_5) (Q2 x_6) x_7 x_8), Q153 leaves, Q83 t_0 t_1 t_2 t_3] (Q152 (Q71 3 1 2 0 0 4 8 0 o0_1l o0_2) (Q37 2 o1_0l 3 o1_1l) o2 o3 8 o4) =
  (∃ z1 : (Tm × Int × Int) × Sto, ((Q43 18 [Q88 2, Q24 x_6, Q153 leaves, Q83 t_0 t_1 t_2 t_3, Q24 o0_2] (Q127 o1_0l o1_1l o2 o3) (Q145 (cT z1.1.1) z1.1.2.1 z1.1.2.2) (Q113 3 (length z1.2.V) 4 (length z1.2.T) (SR z1.2.V) (IR z1.2.T))) ∧ (br ((z1.1.2.2 : Int) != (0 : Int)) (Q76 z1.1.2.2 (Q118 (Q71 3 1 2 0 0 7 8 0 o0_1l o0_2) 5 (length z1.2.V) 6 (length z1.2.T) (SR z1.2.V) (IR z1.2.T) 8 o4) r Hs') (∃ z2 : Int × Sto, ((Q10 47 (Q72 (Q88 2) x_6 (aT z1.1.1)) (Q127 (length z1.2.V) (length z1.2.T) (SR z1.2.V) (IR z1.2.T)) (Q24 z2.1) (Q113 3 (length z2.2.V) 4 (length z2.2.T) (SR z2.2.V) (IR z2.2.T))) ∧ (Q76 z2.1 (Q118 (Q71 3 1 2 0 0 7 8 0 o0_1l z1.1.2.1) 5 (length z2.2.V) 6 (length z2.2.T) (SR z2.2.V) (IR z2.2.T) 8 o4) r Hs')))))) := by kernel_rfl
def zq3 : List (Nat × List Nat) := [(1, [1, 2, 15, 16, 17])]
theorem zrj (s1 s2 : RW) (r : TV) (Hs' : List AObj) : VE zq3 157 0 r Hs' [Q153 s1, Q153 s2, .c (.fn (.func 139) [] [])] [] =
  ((FV.isSl 4 (Q4 4 s1) = true) ∧ ((FV.isSl 4 (Q4 4 s2) = true) ∧ (br (((length s1 : Int) : Int) != (length s2 : Int)) (Q82 [] r Hs') ((FV.isSl 4 (Q4 4 s1) = true) ∧ (Q155 157 0 r Hs' [Q144 1 s2, Q5 2 (.fn (.func 139) [] []), Q144 15 s1, Q12 16 (length s1 : Int), Q12 17 0] [] 0))))) := by kernel_rfl
theorem za7 (x1 x15 : RW) (x16 x17 : Int) (r : TV) (Hs' : List AObj) : VQ zq3 157 0 r Hs' 1 ⟨[Q144 1 x1, Q5 2 (.fn (.func 139) [] []), Q144 15 x15, Q12 16 x16, Q12 17 x17], [], 0⟩ =
  (br (decide ((x17 : Int) < x16)) (((FV.isSl 4 (Q4 4 x15) = true) ∧ ((0 ≤ x17) ∧ ((x17 < (length x15 : Int)) ∧ (((rE (getD x15 (toNat x17) [])) : List FV) = (getD x15 (toNat x17) []))))) ∧ (((FV.isSl 4 (Q4 4 x1) = true) ∧ ((0 ≤ x17) ∧ ((x17 < (length x1 : Int)) ∧ (((rE (getD x1 (toNat x17) [])) : List FV) = (getD x1 (toNat x17) []))))) ∧ (∃ b1 : Bool, ((Q70 139 [(aE (getD x15 (toNat x17) [])), (aE (getD x1 (toNat x17) []))] b1) ∧ (br (!b1) (Q82 [] r Hs') (Q155 157 0 r Hs' [Q144 1 x1, Q5 2 (.fn (.func 139) [] []), Q144 15 x15, Q12 16 x16, Q12 17 (IntKind.wrap .i64 (x17 + 1))] [] 0)))))) (Q50 true [] r Hs')) := by kernel_rfl
def lv98 : List (Nat × List Nat) := []
theorem v98 (c : Int) (r : TV) (Hs' : List AObj) : VE lv98 98 0 r Hs' [.c (Q0 (.int .u8 c))] [] =
  (∃ b1 : Bool, ((Q70 96 [.c (Q0 (.int .u8 c))] b1) ∧ (br b1 (Q50 true [] r Hs') (∃ b2 : Bool, ((Q70 125 [.c (Q0 (.int .u8 c))] b2) ∧ (br b2 (Q50 true [] r Hs') (∃ b3 : Bool, ((Q70 126 [.c (Q0 (.int .u8 c))] b3) ∧ (br b3 (Q50 true [] r Hs') (Q50 ((c : Int) == (39 : Int)) [] r Hs')))))))))) := by kernel_rfl
def lv99 : List (Nat × List Nat) := []
theorem v99 (c : Int) (r : TV) (Hs' : List AObj) : VE lv99 99 0 r Hs' [.c (Q0 (.int .u8 c))] [] =
  (∃ n1 : Int, ((Q65 127 (Q121 (.c (Q8 [43, 45, 42, 47, 60, 62, 61, 38, 124, 94, 126, 64, 35, 36, 63, 58])) (Q0 (.int .u8 c))) (Q24 n1)) ∧ (Q50 (decide ((n1 : Int) ≥ (0 : Int))) [] r Hs'))) := by kernel_rfl
def lv128 : List (Nat × List Nat) := []
theorem v128 (s substr : List UInt8) (r : TV) (Hs' : List AObj) : VE lv128 128 0 r Hs' (Q121 (.c (Q8 s)) (Q8 substr)) [] =
  (∃ n1 : Int, ((Q65 145 (Q121 (.c (Q8 s)) (Q8 substr)) (Q24 n1)) ∧ (Q76 n1 [] r Hs'))) := by kernel_rfl
def lv66 : List (Nat × List Nat) := []
theorem v66 (u_0 : Int) (u_1 : List UInt8) (u_2 : Int) (u_3 : RW) (r : TV) (Hs' : List AObj) : VE lv66 66 0 r Hs' [Q83 u_0 u_1 u_2 u_3] [] =
  (∃ b1 : Bool, ((Q70 20 [Q83 u_0 u_1 u_2 u_3] b1) ∧ (Q50 (!b1) [] r Hs'))) := by kernel_rfl
def lv146 : List (Nat × List Nat) := []
theorem v146 (t_0 : Int) (t_1 : List UInt8) (t_2 : Int) (t_3 : RW) (o0_0l o0_1l : Nat) (o1 o2 : RW) (r : TV) (Hs' : List AObj) : VE lv146 146 3 r Hs' [Q88 2, Q83 t_0 t_1 t_2 t_3] (Q127 o0_0l o0_1l o1 o2) =
  (∃ z1 : Int × Bool × Tm × Bool, ((Q43 19 (Q102 (Q88 2) t_2) (Q127 o0_0l o0_1l o1 o2) (Q110 (Q139 z1.1 z1.2.1 z1.2.2.1.k z1.2.2.1.s z1.2.2.1.n (FTs z1.2.2.1.l)) z1.2.2.2) (Q127 o0_0l o0_1l o1 o2)) ∧ (br ((t_0 : Int) == (4 : Int)) (br z1.2.2.2 (Q47 (Q110 (cT z1.2.2.1) z1.2.1) (Q127 o0_0l o0_1l o1 o2) r Hs') (Q47 (Q110 (cT z1.2.2.1) false) (Q127 o0_0l o0_1l o1 o2) r Hs')) (Q47 (Q110 (cT z1.2.2.1) false) (Q127 o0_0l o0_1l o1 o2) r Hs')))) := by kernel_rfl
def lv147 : List (Nat × List Nat) := []
theorem v147 (body_0 : Int) (body_1 : List UInt8) (body_2 : Int) (body_3 : RW) (arg_0 : Int) (arg_1 : List UInt8) (arg_2 : Int) (arg_3 : RW) (r : TV) (Hs' : List AObj) : VE lv147 147 0 r Hs' [Q83 body_0 body_1 body_2 body_3, Q83 arg_0 arg_1 arg_2 arg_3] [] =
  (∃ b1 : Bool, ((Q70 20 [Q83 body_0 body_1 body_2 body_3] b1) ∧ (br (!b1) (Q47 (Q147 (Q49 0 [] 0) 1) [] r Hs') (∃ b2 : Bool, ((Q70 20 [Q83 arg_0 arg_1 arg_2 arg_3] b2) ∧ (br (!b2) (Q47 (Q147 (Q49 0 [] 0) 1) [] r Hs') (∃ z3 : Tm × Int, ((Q43 165 [Q83 body_0 body_1 body_2 body_3, Q83 arg_0 arg_1 arg_2 arg_3] [] (Q147 (cT z3.1) z3.2) []) ∧ (Q47 (Q147 (cT z3.1) z3.2) [] r Hs'))))))))) := by kernel_rfl
def lv148 : List (Nat × List Nat) := []
theorem v148 (t_0 : Int) (t_1 : List UInt8) (t_2 : Int) (t_3 : RW) (i : Int) (r : TV) (Hs' : List AObj) : VE lv148 148 0 r Hs' (Q102 (Q83 t_0 t_1 t_2 t_3) i) [] =
  (∃ b1 : Bool, ((Q70 20 [Q83 t_0 t_1 t_2 t_3] b1) ∧ (br (!b1) (Q76 0 [] r Hs') (∃ n2 : Int, ((Q65 166 (Q102 (Q83 t_0 t_1 t_2 t_3) i) (Q24 n2)) ∧ (Q76 n2 [] r Hs')))))) := by kernel_rfl
def z71 : List (Nat × List Nat) := [(1, [2, 3, 4, 6, 7, 8, 9, 30, 31, 32])]
theorem zrp (t_0 : Int) (t_1 : List UInt8) (t_2 : Int) (t_3 : RW) (k o0_0 o1_0 : Int) (r : TV) (Hs' : List AObj) : VE z71 151 2 r Hs' [.agg [(.fn (.func 149) [] [(false, [Q112]), (false, [(Q92 1)])])], Q83 t_0 t_1 t_2 t_3, Q24 k] (Q111 o0_0 (Q103 o1_0)) =
  (br ((t_0 : Int) != (5 : Int)) (br ((t_0 : Int) != (6 : Int)) (∃ z1 : Tm, ((Q10 149 [Q83 t_0 t_1 t_2 t_3, Q24 k, Q88 1, Q85 1 1] (Q111 o0_0 (Q103 o1_0)) (aT z1) (Q111 o0_0 (Q103 o1_0))) ∧ (RT (aT z1) (Q111 o0_0 (Q103 o1_0)) r Hs'))) (∃ y2 : FV, (∃ n3 : Int, ((Q43 88 [Q83 t_0 t_1 t_2 t_3] [] [Q20 [Q0 y2], Q31 n3] []) ∧ ((FV.isSl 4 y2 = true) ∧ (Q155 151 2 r Hs' [Q12 2 k, Q57 3 2 1, Q125 4 3, Q125 6 4, Q90 7 y2, Q12 8 n3, Q134 9, Q90 30 y2, Q12 31 (length (FV.ses y2) : Int), Q12 32 0] [Q106 0 1 o0_0, Q106 1 1 o1_0, Q25 2 1 [(.fn (.func 149) [] [(false, [Q112]), (false, [(Q92 1)])])], Q95 3 4 t_0 t_1 t_2 4 t_3, Q87 4 4 0 [] 0] 5)))))) (∃ y4 : FV, (∃ n5 : Int, ((Q43 88 [Q83 t_0 t_1 t_2 t_3] [] [Q20 [Q0 y4], Q31 n5] []) ∧ ((FV.isSl 4 y4 = true) ∧ (Q155 151 2 r Hs' [Q12 2 k, Q57 3 2 1, Q125 4 3, Q125 6 4, Q90 7 y4, Q12 8 n5, Q134 9, Q90 30 y4, Q12 31 (length (FV.ses y4) : Int), Q12 32 0] [Q106 0 1 o0_0, Q106 1 1 o1_0, Q25 2 1 [(.fn (.func 149) [] [(false, [Q112]), (false, [(Q92 1)])])], Q95 3 4 t_0 t_1 t_2 4 t_3, Q87 4 4 0 [] 0] 5)))))) := by kernel_rfl
theorem zae (x2 : Int) (x7 : FV) (x8 : Int) (x30 : FV) (x31 x32 h0_0 h1_0 h3_0 : Int) (h3_1 : List UInt8) (h3_2 : Int) (h3_3 : RW) (h4_0 : Int) (h4_1 : List UInt8) (h4_2 : Int) (r : TV) (Hs' : List AObj) : VQ z71 151 2 r Hs' 1 ⟨[Q12 2 x2, Q57 3 2 1, Q125 4 3, Q125 6 4, Q90 7 x7, Q12 8 x8, Q134 9, Q90 30 x30, Q12 31 x31, Q12 32 x32], [Q106 0 1 h0_0, Q106 1 1 h1_0, Q25 2 1 [(.fn (.func 149) [] [(false, [Q112]), (false, [(Q92 1)])])], Q95 3 4 h3_0 h3_1 h3_2 4 h3_3, Q87 4 4 h4_0 h4_1 h4_2], 5⟩ =
  (br (decide ((x32 : Int) < x31)) (((FV.isSl 4 x30 = true) ∧ ((0 ≤ x32) ∧ ((x32 < (length (FV.ses x30) : Int)) ∧ (((rE (getD (FV.ses x30) (toNat x32) [])) : List FV) = (getD (FV.ses x30) (toNat x32) []))))) ∧ (∃ z1 : Tm, ((Q10 151 [.agg [(.fn (.func 149) [] [(false, [Q112]), (false, [(Q92 1)])])], (aE (getD (FV.ses x30) (toNat x32) [])), Q24 (IntKind.wrap .i64 (x2 + x8))] (Q111 h0_0 (Q103 h1_0)) (aT z1) (Q111 h0_0 (Q103 h1_0))) ∧ ((1 ≤ 1) ∧ ((z0k 1 56) ∧ (Q155 151 2 r Hs' [Q12 2 x2, Q57 3 2 1, Q125 4 3, Q125 6 4, Q90 7 x7, Q12 8 x8, Q156 9 5 1, Q90 30 x30, Q12 31 x31, Q12 32 (IntKind.wrap .i64 (x32 + 1))] [Q106 0 1 h0_0, Q106 1 1 h1_0, Q25 2 1 [(.fn (.func 149) [] [(false, [Q112]), (false, [(Q92 1)])])], Q95 3 4 h3_0 h3_1 h3_2 4 h3_3, Q87 4 4 h4_0 h4_1 h4_2, Q73 5 4 [(FT4 z1)]] 6)))))) (br ((h3_0 : Int) == (6 : Int)) ((FV.isSl 4 .nils = true) ∧ (RT (.agg (Q49 h3_0 h3_1 h3_2)) (Q111 h0_0 (Q103 h1_0)) r Hs')) (RT (.agg (Q49 h3_0 h3_1 h3_2)) (Q111 h0_0 (Q103 h1_0)) r Hs'))) := by kernel_rfl
theorem za9 (x2 : Int) (x7 : FV) (x8 : Int) (x9l : Nat) (x30 : FV) (x31 x32 h0_0 h1_0 h3_0 : Int) (h3_1 : List UInt8) (h3_2 : Int) (h3_3 : RW) (h4_0 : Int) (h4_1 : List UInt8) (h4_2 : Int) (h5 : RW) (r : TV) (Hs' : List AObj) : VQ z71 151 2 r Hs' 1 ⟨[Q12 2 x2, Q57 3 2 1, Q125 4 3, Q125 6 4, Q90 7 x7, Q12 8 x8, Q156 9 5 x9l, Q90 30 x30, Q12 31 x31, Q12 32 x32], [Q106 0 1 h0_0, Q106 1 1 h1_0, Q25 2 1 [(.fn (.func 149) [] [(false, [Q112]), (false, [(Q92 1)])])], Q95 3 4 h3_0 h3_1 h3_2 4 h3_3, Q87 4 4 h4_0 h4_1 h4_2, Q73 5 4 h5], 6⟩ =
  (br (decide ((x32 : Int) < x31)) (((FV.isSl 4 x30 = true) ∧ ((0 ≤ x32) ∧ ((x32 < (length (FV.ses x30) : Int)) ∧ (((rE (getD (FV.ses x30) (toNat x32) [])) : List FV) = (getD (FV.ses x30) (toNat x32) []))))) ∧ (∃ z1 : Tm, ((Q10 151 [.agg [(.fn (.func 149) [] [(false, [Q112]), (false, [(Q92 1)])])], (aE (getD (FV.ses x30) (toNat x32) [])), Q24 (IntKind.wrap .i64 (x2 + x8))] (Q111 h0_0 (Q103 h1_0)) (aT z1) (Q111 h0_0 (Q103 h1_0))) ∧ ((1 ≤ 1) ∧ ((x9l ≤ (length h5) ∧ z0k (x9l + 1) 56) ∧ (Q155 151 2 r Hs' [Q12 2 x2, Q57 3 2 1, Q125 4 3, Q125 6 4, Q90 7 x7, Q12 8 x8, Q156 9 5 (x9l + 1), Q90 30 x30, Q12 31 x31, Q12 32 (IntKind.wrap .i64 (x32 + 1))] [Q106 0 1 h0_0, Q106 1 1 h1_0, Q25 2 1 [(.fn (.func 149) [] [(false, [Q112]), (false, [(Q92 1)])])], Q95 3 4 h3_0 h3_1 h3_2 4 h3_3, Q87 4 4 h4_0 h4_1 h4_2, Q73 5 4 ((take x9l h5) ++ [(FT4 z1)])] 6)))))) (br ((h3_0 : Int) == (6 : Int)) (br (decide (((x9l : Int) : Int) > (1 : Int))) ((0 ≤ (0 : Int) ∧ (0 : Int) < (x9l : Int)) ∧ (((0 < (length h5)) ∧ ((([(Q1 (FV.asI (getD (getD h5 0 []) 0 FV.nils)))] : List FV) = (take 1 (drop 0 (getD h5 0 [])))) ∧ ((1 : Nat) = 1))) ∧ (br (((FV.asI (getD (getD h5 0 []) 0 FV.nils)) : Int) == (6 : Int)) (((FV.isSl 4 x7 = true) ∧ ((0 ≤ (0 : Int)) ∧ (((0 : Int) < (length (FV.ses x7) : Int)) ∧ (((rE (getD (FV.ses x7) 0 [])) : List FV) = (getD (FV.ses x7) 0 []))))) ∧ (br (((FV.asI (getD (getD (FV.ses x7) 0 []) 0 FV.nils)) : Int) != (6 : Int)) ((0 ≤ (0 : Int) ∧ (0 : Int) < (x9l : Int)) ∧ (((0 < (length h5)) ∧ ((((rE (getD h5 0 [])) : List FV) = (take 4 (drop 0 (getD h5 0 [])))) ∧ ((4 : Nat) = 4))) ∧ (((0 ≤ (1 : Int)) ∧ (((1 : Int) ≤ (x9l : Int)) ∧ ((x9l : Int) ≤ (x9l : Int)))) ∧ (((4 : Nat) = 4 ∧ (1 + ((toNat (x9l : Int)) - 1)) ≤ (length h5)) ∧ (∃ z2 : Tm, ((Q65 24 [(aE (getD h5 0 [])), Q153 (take ((toNat (x9l : Int)) - 1) (drop 1 h5))] (aT z2)) ∧ (RT (aT z2) (Q111 h0_0 (Q103 h1_0)) r Hs'))))))) (((4 : Nat) = 4 ∧ (0 + x9l) ≤ (length h5)) ∧ (RT (Q83 h3_0 h3_1 h3_2 (take x9l (drop 0 h5))) (Q111 h0_0 (Q103 h1_0)) r Hs')))) (((4 : Nat) = 4 ∧ (0 + x9l) ≤ (length h5)) ∧ (RT (Q83 h3_0 h3_1 h3_2 (take x9l (drop 0 h5))) (Q111 h0_0 (Q103 h1_0)) r Hs'))))) (((4 : Nat) = 4 ∧ (0 + x9l) ≤ (length h5)) ∧ (RT (Q83 h3_0 h3_1 h3_2 (take x9l (drop 0 h5))) (Q111 h0_0 (Q103 h1_0)) r Hs'))) (((4 : Nat) = 4 ∧ (0 + x9l) ≤ (length h5)) ∧ (RT (Q83 h3_0 h3_1 h3_2 (take x9l (drop 0 h5))) (Q111 h0_0 (Q103 h1_0)) r Hs')))) := by kernel_rfl
theorem v67_F101 (t_0 : Int) (t_1 : List UInt8) (t_2 : Int) (t_3 : RW) (fuel : Int) (o0_0l o0_1l : Nat) (o1 o2 : RW) (r : TV) (Hs' : List AObj) : VE lv67 67 3 r Hs' (Q130 (Q83 t_0 t_1 t_2 t_3) fuel (.fn (.func 101) [(false, [(Q81 0 2)])] [])) (Q127 o0_0l o0_1l o1 o2) =
  (∃ b1 : Bool, ((Q70 20 [Q83 t_0 t_1 t_2 t_3] b1) ∧ (br (!b1) (Q47 (Q145 (Q49 0 [] 0) 0 1) (Q127 o0_0l o0_1l o1 o2) r Hs') (∃ z2 : Tm × Int × Int, ((Q43 101 (Q98 2 (Q83 t_0 t_1 t_2 t_3) (Q85 3 1)) [Q37 1 o0_0l 2 o0_1l, Q23 o1, Q19 o2, Q103 fuel] (Q147 (cT z2.1) z2.2.1) [Q37 1 o0_0l 2 o0_1l, Q23 o1, Q19 o2, Q103 z2.2.2]) ∧ (br ((z2.2.1 : Int) != (0 : Int)) (Q47 (Q145 (Q49 0 [] 0) 0 z2.2.1) (Q127 o0_0l o0_1l o1 o2) r Hs') (Q47 (Q145 (cT z2.1) z2.2.2 0) (Q127 o0_0l o0_1l o1 o2) r Hs'))))))) := by kernel_rfl
def lv13 : List (Nat × List Nat) := [(1, [0, 3, 11, 13, 35, 36, 37])]
theorem v13 (x : Int) (l : RW) (fuel : Int) (o0_0l o0_1l : Nat) (o1 o2 : RW) (r : TV) (Hs' : List AObj) : VE lv13 13 3 r Hs' [Q88 2, Q24 x, Q153 l, Q24 fuel] (Q127 o0_0l o0_1l o1 o2) =
  (∃ z1 : Int × Bool × Tm × Bool, ((Q43 19 (Q102 (Q88 2) x) (Q127 o0_0l o0_1l o1 o2) (Q110 (Q139 z1.1 z1.2.1 z1.2.2.1.k z1.2.2.1.s z1.2.2.1.n (FTs z1.2.2.1.l)) z1.2.2.2) (Q127 o0_0l o0_1l o1 o2)) ∧ (br (!z1.2.2.2) (Q47 (Q101 (Q20 Q86) 0 1) (Q127 o0_0l o0_1l o1 o2) r Hs') (∃ z2 : Bool, ((Q70 49 (Q154 l (.fn (.func 50) [] [])) z2) ∧ (br z2 (Q47 (Q101 (Q20 Q86) 0 1) (Q127 o0_0l o0_1l o1 o2) r Hs') ((FV.isSl 4 (Q4 4 l) = true) ∧ (Q155 13 3 r Hs' [Q57 0 0 2, Q12 3 fuel, Q57 11 3 6, Q134 13, Q144 35 l, Q12 36 (length l : Int), Q12 37 0] [Q69 0 1 o0_0l 2 o0_1l, Q67 1 o1, Q46 2 o2, Q25 3 6 (Q139 z1.1 z1.2.1 z1.2.2.1.k z1.2.2.1.s z1.2.2.1.n (FTs z1.2.2.1.l))] 4)))))))) := by kernel_rfl
theorem v13_1a (x3 : Int) (x35 : RW) (x36 x37 : Int) (h0_0l h0_1l : Nat) (h1 h2 : RW) (h3_0 : Int) (h3_1 : Bool) (h3_2 : Int) (h3_3 : List UInt8) (h3_4 : Int) (h3_5 : RW) (r : TV) (Hs' : List AObj) : VQ lv13 13 3 r Hs' 1 ⟨[Q57 0 0 2, Q12 3 x3, Q57 11 3 6, Q134 13, Q144 35 x35, Q12 36 x36, Q12 37 x37], [Q69 0 1 h0_0l 2 h0_1l, Q67 1 h1, Q46 2 h2, Q25 3 6 (Q139 h3_0 h3_1 h3_2 h3_3 h3_4 h3_5)], 4⟩ =
  (br (decide ((x37 : Int) < x36)) (((FV.isSl 4 (Q4 4 x35) = true) ∧ ((0 ≤ x37) ∧ ((x37 < (length x35 : Int)) ∧ (((rE (getD x35 (toNat x37) [])) : List FV) = (getD x35 (toNat x37) []))))) ∧ (∃ z1 : Tm × Int × Int, ((Q43 21 (Q98 2 (aE (getD x35 (toNat x37) [])) (Q24 x3)) (Q127 h0_0l h0_1l h1 h2) (Q145 (cT z1.1) z1.2.1 z1.2.2) (Q127 h0_0l h0_1l h1 h2)) ∧ (br ((z1.2.2 : Int) != (0 : Int)) (Q47 (Q101 (Q20 Q86) 0 z1.2.2) (Q127 h0_0l h0_1l h1 h2) r Hs') (∃ z2 : Tm × Bool, ((Q43 51 [(aT z1.1)] [] (Q110 (cT z2.1) z2.2) []) ∧ (br ((z2.1.k : Int) == (1 : Int)) (∃ z3 : Bool, ((Q10 49 (Q121 (.c Q26) (.fn (.func 52) [] [(false, [(Q81 0 4)])])) (Q128 4 (cT z2.1)) (Q32 z3) (Q128 4 (cT z2.1))) ∧ (br (!z2.2) (Q47 (Q101 (Q20 Q86) 0 171) (Q127 h0_0l h0_1l h1 h2) r Hs') (br (decide ((z2.1.n : Int) ≤ h3_0)) (Q47 (Q101 (Q20 Q86) 0 171) (Q127 h0_0l h0_1l h1 h2) r Hs') (br z3 (Q47 (Q101 (Q20 Q86) 0 171) (Q127 h0_0l h0_1l h1 h2) r Hs') ((1 ≤ 1) ∧ ((z0k 1 56) ∧ (Q155 13 3 r Hs' [Q57 0 0 2, Q12 3 z1.2.1, Q57 11 3 6, Q156 13 4 1, Q144 35 x35, Q12 36 x36, Q12 37 (IntKind.wrap .i64 (x37 + 1))] [Q69 0 1 h0_0l 2 h0_1l, Q67 1 h1, Q46 2 h2, Q25 3 6 (Q139 h3_0 h3_1 h3_2 h3_3 h3_4 h3_5), Q73 4 4 [(FT4 z2.1)]] 5)))))))) (∃ z4 : Bool, ((Q10 49 (Q121 (.c Q26) (.fn (.func 52) [] [(false, [(Q81 0 4)])])) (Q128 4 (cT z2.1)) (Q32 z4) (Q128 4 (cT z2.1))) ∧ (br (!z2.2) (Q47 (Q101 (Q20 Q86) 0 171) (Q127 h0_0l h0_1l h1 h2) r Hs') (br z4 (Q47 (Q101 (Q20 Q86) 0 171) (Q127 h0_0l h0_1l h1 h2) r Hs') ((1 ≤ 1) ∧ ((z0k 1 56) ∧ (Q155 13 3 r Hs' [Q57 0 0 2, Q12 3 z1.2.1, Q57 11 3 6, Q156 13 4 1, Q144 35 x35, Q12 36 x36, Q12 37 (IntKind.wrap .i64 (x37 + 1))] [Q69 0 1 h0_0l 2 h0_1l, Q67 1 h1, Q46 2 h2, Q25 3 6 (Q139 h3_0 h3_1 h3_2 h3_3 h3_4 h3_5), Q73 4 4 [(FT4 z2.1)]] 5)))))))))))))) (Q47 (Q101 (Q20 Q86) x3 0) (Q127 h0_0l h0_1l h1 h2) r Hs')) := by kernel_rfl
theorem v13_1b (x3 : Int) (x13l : Nat) (x35 : RW) (x36 x37 : Int) (h0_0l h0_1l : Nat) (h1 h2 : RW) (h3_0 : Int) (h3_1 : Bool) (h3_2 : Int) (h3_3 : List UInt8) (h3_4 : Int) (h3_5 h4 : RW) (r : TV) (Hs' : List AObj) : VQ lv13 13 3 r Hs' 1 ⟨[Q57 0 0 2, Q12 3 x3, Q57 11 3 6, Q156 13 4 x13l, Q144 35 x35, Q12 36 x36, Q12 37 x37], [Q69 0 1 h0_0l 2 h0_1l, Q67 1 h1, Q46 2 h2, Q25 3 6 (Q139 h3_0 h3_1 h3_2 h3_3 h3_4 h3_5), Q73 4 4 h4], 5⟩ =
  (br (decide ((x37 : Int) < x36)) (((FV.isSl 4 (Q4 4 x35) = true) ∧ ((0 ≤ x37) ∧ ((x37 < (length x35 : Int)) ∧ (((rE (getD x35 (toNat x37) [])) : List FV) = (getD x35 (toNat x37) []))))) ∧ (∃ z1 : Tm × Int × Int, ((Q43 21 (Q98 2 (aE (getD x35 (toNat x37) [])) (Q24 x3)) (Q127 h0_0l h0_1l h1 h2) (Q145 (cT z1.1) z1.2.1 z1.2.2) (Q127 h0_0l h0_1l h1 h2)) ∧ (br ((z1.2.2 : Int) != (0 : Int)) (Q47 (Q101 (Q20 Q86) 0 z1.2.2) (Q127 h0_0l h0_1l h1 h2) r Hs') (∃ z2 : Tm × Bool, ((Q43 51 [(aT z1.1)] [] (Q110 (cT z2.1) z2.2) []) ∧ (br ((z2.1.k : Int) == (1 : Int)) (∃ z3 : Bool, ((Q10 49 (Q121 (.c (Q3 0 4 0 x13l)) (.fn (.func 52) [] [(false, [(Q81 1 4)])])) [.arz 4 h4, Q6 4 (cT z2.1)] (Q32 z3) [.arz 4 h4, Q6 4 (cT z2.1)]) ∧ (br (!z2.2) (Q47 (Q101 (Q20 Q86) 0 171) (Q127 h0_0l h0_1l h1 h2) r Hs') (br (decide ((z2.1.n : Int) ≤ h3_0)) (Q47 (Q101 (Q20 Q86) 0 171) (Q127 h0_0l h0_1l h1 h2) r Hs') (br z3 (Q47 (Q101 (Q20 Q86) 0 171) (Q127 h0_0l h0_1l h1 h2) r Hs') ((1 ≤ 1) ∧ ((x13l ≤ (length h4) ∧ z0k (x13l + 1) 56) ∧ (Q155 13 3 r Hs' [Q57 0 0 2, Q12 3 z1.2.1, Q57 11 3 6, Q156 13 4 (x13l + 1), Q144 35 x35, Q12 36 x36, Q12 37 (IntKind.wrap .i64 (x37 + 1))] [Q69 0 1 h0_0l 2 h0_1l, Q67 1 h1, Q46 2 h2, Q25 3 6 (Q139 h3_0 h3_1 h3_2 h3_3 h3_4 h3_5), Q73 4 4 ((take x13l h4) ++ [(FT4 z2.1)])] 5)))))))) (∃ z4 : Bool, ((Q10 49 (Q121 (.c (Q3 0 4 0 x13l)) (.fn (.func 52) [] [(false, [(Q81 1 4)])])) [.arz 4 h4, Q6 4 (cT z2.1)] (Q32 z4) [.arz 4 h4, Q6 4 (cT z2.1)]) ∧ (br (!z2.2) (Q47 (Q101 (Q20 Q86) 0 171) (Q127 h0_0l h0_1l h1 h2) r Hs') (br z4 (Q47 (Q101 (Q20 Q86) 0 171) (Q127 h0_0l h0_1l h1 h2) r Hs') ((1 ≤ 1) ∧ ((x13l ≤ (length h4) ∧ z0k (x13l + 1) 56) ∧ (Q155 13 3 r Hs' [Q57 0 0 2, Q12 3 z1.2.1, Q57 11 3 6, Q156 13 4 (x13l + 1), Q144 35 x35, Q12 36 x36, Q12 37 (IntKind.wrap .i64 (x37 + 1))] [Q69 0 1 h0_0l 2 h0_1l, Q67 1 h1, Q46 2 h2, Q25 3 6 (Q139 h3_0 h3_1 h3_2 h3_3 h3_4 h3_5), Q73 4 4 ((take x13l h4) ++ [(FT4 z2.1)])] 5)))))))))))))) (((4 : Nat) = 4 ∧ (0 + x13l) ≤ (length h4)) ∧ (Q47 (Q101 (Q20 [Q138 (take x13l (drop 0 h4))]) x3 0) (Q127 h0_0l h0_1l h1 h2) r Hs'))) := by kernel_rfl
def zt9 : List (Nat × List Nat) := [(1, [0, 1, 7, 8])]
theorem v168 (s : RW) (v : Bool) (r : TV) (Hs' : List AObj) : VE zt9 168 0 r Hs' [Q61 1 s, Q32 v] [] =
  ((FV.isSl 1 (Q4 1 s) = true) ∧ (Q155 168 0 r Hs' (Q108 (Q54 0 1 s) (Q5 1 (Q13 v)) 7 (length s : Int) 8 0) [] 0)) := by kernel_rfl
theorem zr (x0 : RW) (x1 : Bool) (x7 x8 : Int) (r : TV) (Hs' : List AObj) : VQ zt9 168 0 r Hs' 1 ⟨Q108 (Q54 0 1 x0) (Q5 1 (Q13 x1)) 7 x7 8 x8, [], 0⟩ =
  (br (decide ((x8 : Int) < x7)) (((FV.isSl 1 (Q4 1 x0) = true) ∧ ((0 ≤ x8) ∧ ((x8 < (length x0 : Int)) ∧ (([(.bool (FV.asB (getD (getD x0 (toNat x8) []) 0 FV.nils)))] : List FV) = (getD x0 (toNat x8) []))))) ∧ (br ((x1 : Bool) == (FV.asB (getD (getD x0 (toNat x8) []) 0 FV.nils))) (Q76 x8 [] r Hs') (Q155 168 0 r Hs' (Q108 (Q54 0 1 x0) (Q5 1 (Q13 x1)) 7 x7 8 (IntKind.wrap .i64 (x8 + 1))) [] 0))) (Q76 (-1 : Int) [] r Hs')) := by kernel_rfl
def lv121 : List (Nat × List Nat) := []
theorem v121 (n : Int) (r : TV) (Hs' : List AObj) : VE lv121 121 0 r Hs' [Q24 n] [] =
  (RT (.agg (Q49 3 [] n)) [] r Hs') := by kernel_rfl
def lv123 : List (Nat × List Nat) := [(1000001, [1, 2])]
theorem v123 (x level lams : Int) (on : RW) (o0_0l o0_1l : Nat) (o1 o2 : RW) (r : TV) (Hs' : List AObj) : VE lv123 123 3 r Hs' [Q88 2, Q24 x, Q24 level, Q24 lams, Q153 on] (Q127 o0_0l o0_1l o1 o2) =
  (∃ z1 : Int × Sto, ((Q10 35 (Q102 (Q88 2) level) (Q127 o0_0l o0_1l o1 o2) (Q24 z1.1) (Q113 3 (length z1.2.V) 4 (length z1.2.T) (SR z1.2.V) (IR z1.2.T))) ∧ (∃ z2 : Tm, ((Q65 122 [Q24 z1.1] (aT z2)) ∧ (∃ z3 : Tm, ((Q65 24 [(aT z2), Q153 on] (aT z3)) ∧ (∃ z4 : Tm, ((Q65 45 [Q24 lams, (aT z3)] (aT z4)) ∧ (∃ z5 : Int × Sto, ((Q10 47 (Q72 (Q88 2) x (aT z4)) (Q127 (length z1.2.V) (length z1.2.T) (SR z1.2.V) (IR z1.2.T)) (Q24 z5.1) (Q113 3 (length z5.2.V) 4 (length z5.2.T) (SR z5.2.V) (IR z5.2.T))) ∧ (RT (aT z2) (Q113 3 (length z5.2.V) 4 (length z5.2.T) (SR z5.2.V) (IR z5.2.T)) r Hs'))))))))))) := by kernel_rfl
def lv18 : List (Nat × List Nat) := [(1000001, [1, 2])]
theorem v18 (x : Int) (l : RW) (t_0 : Int) (t_1 : List UInt8) (t_2 : Int) (t_3 : RW) (fuel : Int) (o0_0l o0_1l : Nat) (o1 o2 : RW) (r : TV) (Hs' : List AObj) : VE lv18 18 3 r Hs' [Q88 2, Q24 x, Q153 l, Q83 t_0 t_1 t_2 t_3, Q24 fuel] (Q127 o0_0l o0_1l o1 o2) =
  (∃ z1 : Int × Bool × Tm × Bool, ((Q43 19 (Q102 (Q88 2) x) (Q127 o0_0l o0_1l o1 o2) (Q110 (Q139 z1.1 z1.2.1 z1.2.2.1.k z1.2.2.1.s z1.2.2.1.n (FTs z1.2.2.1.l)) z1.2.2.2) (Q127 o0_0l o0_1l o1 o2)) ∧ (br (!z1.2.2.2) (Q47 (Q145 (Q49 0 [] 0) 0 1) (Q113 3 o0_0l 4 o0_1l o1 o2) r Hs') (br z1.2.1 (Q47 (Q145 (Q49 0 [] 0) 0 1) (Q113 3 o0_0l 4 o0_1l o1 o2) r Hs') (∃ b2 : Bool, ((Q70 50 [Q83 t_0 t_1 t_2 t_3] b2) ∧ (br b2 (Q47 (Q145 (Q49 0 [] 0) 0 1) (Q113 3 o0_0l 4 o0_1l o1 o2) r Hs') (∃ z3 : Bool, ((Q70 49 (Q154 l (.fn (.func 61) [] [])) z3) ∧ (br z3 (Q47 (Q145 (Q49 0 [] 0) 0 1) (Q113 3 o0_0l 4 o0_1l o1 o2) r Hs') (∃ z4 : Tm × Sto × Int × Int × List Tm × Int × Int, ((Q10 63 (Q98 6 (Q83 t_0 t_1 t_2 t_3) (Q24 0)) (Q150 6 1 2 0 0 x z1.1 4 l fuel 0 2 o0_0l 3 o0_1l o1 o2) (aT z4.1) (Q151 (Q89 6 1 2 0 0 z4.2.2.1 z4.2.2.2.1 4 (FTs z4.2.2.2.2.1) z4.2.2.2.2.2.1 z4.2.2.2.2.2.2) (Q37 4 (length z4.2.1.V) 5 (length z4.2.1.T)) (SR z4.2.1.V) (Q19 (IR z4.2.1.T)))) ∧ (br ((z4.2.2.2.2.2.2 : Int) != (0 : Int)) (Q47 (Q145 (Q49 0 [] 0) 0 z4.2.2.2.2.2.2) (Q113 3 (length z4.2.1.V) 4 (length z4.2.1.T) (SR z4.2.1.V) (IR z4.2.1.T)) r Hs') ((FV.isSl 4 (Q4 4 l) = true) ∧ (∃ z5 : Tm, ((Q65 45 [Q24 (length l : Int), (aT z4.1)] (aT z5)) ∧ (Q47 (Q145 (cT z5) z4.2.2.2.2.2.1 0) (Q113 3 (length z4.2.1.V) 4 (length z4.2.1.T) (SR z4.2.1.V) (IR z4.2.1.T)) r Hs'))))))))))))))))) := by kernel_rfl
def lv47 : List (Nat × List Nat) := [(1000001, [1, 2])]
theorem v47 (x t_0 : Int) (t_1 : List UInt8) (t_2 : Int) (t_3 : RW) (o0_0l o0_1l : Nat) (o1 o2 : RW) (r : TV) (Hs' : List AObj) : VE lv47 47 3 r Hs' (Q72 (Q88 2) x (Q83 t_0 t_1 t_2 t_3)) (Q127 o0_0l o0_1l o1 o2) =
  (∃ z1 : Int × Bool × Tm × Bool, ((Q43 19 (Q102 (Q88 2) x) (Q127 o0_0l o0_1l o1 o2) (Q110 (Q139 z1.1 z1.2.1 z1.2.2.1.k z1.2.2.1.s z1.2.2.1.n (FTs z1.2.2.1.l)) z1.2.2.2) (Q127 o0_0l o0_1l o1 o2)) ∧ (br (!z1.2.2.2) (Q76 1 (Q113 3 o0_0l 4 o0_1l o1 o2) r Hs') (br z1.2.1 (Q76 1 (Q113 3 o0_0l 4 o0_1l o1 o2) r Hs') (∃ b2 : Bool, ((Q70 20 [Q83 t_0 t_1 t_2 t_3] b2) ∧ (br (!b2) (Q76 1 (Q113 3 o0_0l 4 o0_1l o1 o2) r Hs') (∃ n3 : Int, ((Q65 22 [Q83 t_0 t_1 t_2 t_3] (Q24 n3)) ∧ (br (decide ((n3 : Int) > (0 : Int))) (Q76 1 (Q113 3 o0_0l 4 o0_1l o1 o2) r Hs') ((0 ≤ x ∧ x < (o0_0l : Int)) ∧ (((0 + (toNat x)) < (length o1) ∧ (length (getD o1 (0 + (toNat x)) [])) = 6) ∧ ((1 ≤ 1) ∧ ((o0_1l ≤ (length o2) ∧ z0k (o0_1l + 1) 8) ∧ (Q76 0 (Q113 3 o0_0l 4 (o0_1l + 1) (List.set o1 (0 + (toNat x)) [(Q1 z1.1), (.bool true), (Q1 t_0), (.str t_1), (Q1 t_2), (Q4 4 t_3)]) ((take o0_1l o2) ++ [[(Q1 x)]])) r Hs'))))))))))))))) := by kernel_rfl
def lv125 : List (Nat × List Nat) := []
theorem v125 (c : Int) (r : TV) (Hs' : List AObj) : VE lv125 125 0 r Hs' [.c (Q0 (.int .u8 c))] [] =
  (br (decide (((65 : Int) : Int) ≤ c)) (br (decide ((c : Int) ≤ (90 : Int))) (Q50 true [] r Hs') (Q50 ((c : Int) == (95 : Int)) [] r Hs')) (Q50 ((c : Int) == (95 : Int)) [] r Hs')) := by kernel_rfl
def lv126 : List (Nat × List Nat) := []
theorem v126 (c : Int) (r : TV) (Hs' : List AObj) : VE lv126 126 0 r Hs' [.c (Q0 (.int .u8 c))] [] =
  (br (decide (((48 : Int) : Int) ≤ c)) (Q50 (decide ((c : Int) ≤ (57 : Int))) [] r Hs') (Q82 [] r Hs')) := by kernel_rfl
def lv145 : List (Nat × List Nat) := [(3, [0, 1, 5, 6, 7, 8, 9, 10])]
theorem v145 (s substr : List UInt8) (r : TV) (Hs' : List AObj) : VE lv145 145 0 r Hs' (Q121 (.c (Q8 s)) (Q8 substr)) [] =
  (br (((length substr : Int) : Int) == (0 : Int)) (Q76 0 [] r Hs') (br ((substr : List UInt8) == s) (Q76 0 [] r Hs') (br (((length substr : Int) : Int) == (1 : Int)) ((0 ≤ (0 : Int) ∧ (0 : Int) < (length substr : Int)) ∧ (∃ n1 : Int, ((Q65 144 (Q121 (.c (Q8 s)) (Q0 (.int .u8 ((UInt8.toNat (getD substr 0 0) : Nat) : Int)))) (Q24 n1)) ∧ (Q76 n1 [] r Hs')))) (br (decide (((length substr : Int) : Int) ≥ (length s : Int))) (Q76 (-1 : Int) [] r Hs') False)))) := by kernel_rfl
def lv165 : List (Nat × List Nat) := []
theorem v165 (body_0 : Int) (body_1 : List UInt8) (body_2 : Int) (body_3 : RW) (arg_0 : Int) (arg_1 : List UInt8) (arg_2 : Int) (arg_3 : RW) (r : TV) (Hs' : List AObj) : VE lv165 165 0 r Hs' [Q83 body_0 body_1 body_2 body_3, Q83 arg_0 arg_1 arg_2 arg_3] [] =
  (∃ n1 : Int, ((Q65 172 [Q83 body_0 body_1 body_2 body_3] (Q24 n1)) ∧ (∃ n2 : Int, ((Q65 166 (Q102 (Q83 body_0 body_1 body_2 body_3) 0) (Q24 n2)) ∧ (∃ n3 : Int, ((Q65 172 [Q83 arg_0 arg_1 arg_2 arg_3] (Q24 n3)) ∧ (br (decide (((IntKind.wrap .i64 (n1 + (IntKind.wrap .i64 (n2 * n3)))) : Int) > (4096 : Int))) (Q47 (Q147 (Q49 0 [] 0) 80) [] r Hs') (∃ z4 : Tm, ((Q65 173 (Q72 (Q83 body_0 body_1 body_2 body_3) 0 (Q83 arg_0 arg_1 arg_2 arg_3)) (aT z4)) ∧ (Q47 (Q147 (cT z4) 0) [] r Hs')))))))))) := by kernel_rfl
def zq4 : List (Nat × List Nat) := [(3, [1, 5, 21, 22, 23])]
theorem v166 (t_0 : Int) (t_1 : List UInt8) (t_2 : Int) (t_3 : RW) (i : Int) (r : TV) (Hs' : List AObj) : VE zq4 166 0 r Hs' (Q102 (Q83 t_0 t_1 t_2 t_3) i) [] =
  (br ((t_0 : Int) == (3 : Int)) (br ((t_2 : Int) == i) (Q76 1 [] r Hs') ((FV.isSl 4 (Q4 4 t_3) = true) ∧ (Q52 166 0 r Hs' 3 [Q12 1 i, Q12 5 0, Q144 21 t_3, Q12 22 (length t_3 : Int), Q12 23 0] [] 0))) (br ((t_0 : Int) == (5 : Int)) ((FV.isSl 4 (Q4 4 t_3) = true) ∧ (Q52 166 0 r Hs' 3 [Q12 1 (IntKind.wrap .i64 (i + 1)), Q12 5 0, Q144 21 t_3, Q12 22 (length t_3 : Int), Q12 23 0] [] 0)) ((FV.isSl 4 (Q4 4 t_3) = true) ∧ (Q52 166 0 r Hs' 3 [Q12 1 i, Q12 5 0, Q144 21 t_3, Q12 22 (length t_3 : Int), Q12 23 0] [] 0)))) := by kernel_rfl
theorem zs6 (x1 x5 : Int) (x21 : RW) (x22 x23 : Int) (r : TV) (Hs' : List AObj) : VQ zq4 166 0 r Hs' 3 ⟨[Q12 1 x1, Q12 5 x5, Q144 21 x21, Q12 22 x22, Q12 23 x23], [], 0⟩ =
  (br (decide ((x23 : Int) < x22)) (((FV.isSl 4 (Q4 4 x21) = true) ∧ ((0 ≤ x23) ∧ ((x23 < (length x21 : Int)) ∧ (((rE (getD x21 (toNat x23) [])) : List FV) = (getD x21 (toNat x23) []))))) ∧ (∃ n1 : Int, ((Q65 166 (Q102 (aE (getD x21 (toNat x23) [])) x1) (Q24 n1)) ∧ (Q52 166 0 r Hs' 3 [Q12 1 x1, Q12 5 (IntKind.wrap .i64 (x5 + n1)), Q144 21 x21, Q12 22 x22, Q12 23 (IntKind.wrap .i64 (x23 + 1))] [] 0)))) (Q76 x5 [] r Hs')) := by kernel_rfl
def lv149 : List (Nat × List Nat) := []
theorem v149 (u_0 : Int) (u_1 : List UInt8) (u_2 : Int) (u_3 : RW) (k o0_0 o1_0 : Int) (r : TV) (Hs' : List AObj) : VE lv149 149 2 r Hs' [Q83 u_0 u_1 u_2 u_3, Q24 k, Q88 1, Q85 1 1] (Q111 o0_0 (Q103 o1_0)) =
  (br ((u_0 : Int) == (3 : Int)) (br (decide ((u_2 : Int) ≥ (IntKind.wrap .i64 (k + o0_0)))) (∃ z1 : Tm, ((Q65 150 (Q102 (Q83 u_0 u_1 u_2 u_3) o1_0) (aT z1)) ∧ (RT (aT z1) (Q111 o0_0 (Q103 o1_0)) r Hs'))) (RT (Q83 u_0 u_1 u_2 u_3) (Q111 o0_0 (Q103 o1_0)) r Hs')) (RT (Q83 u_0 u_1 u_2 u_3) (Q111 o0_0 (Q103 o1_0)) r Hs')) := by kernel_rfl
theorem v49_F50 (s : RW) (r : TV) (Hs' : List AObj) : VE lv49 49 0 r Hs' (Q154 s (.fn (.func 50) [] [])) [] =
  (∃ z1 : Int, ((Q65 83 (Q154 s (.fn (.func 50) [] [])) (Q24 z1)) ∧ (Q50 (decide ((z1 : Int) ≥ (0 : Int))) [] r Hs'))) := by kernel_rfl
def lv51 : List (Nat × List Nat) := []
theorem v51 (t_0 : Int) (t_1 : List UInt8) (t_2 : Int) (t_3 : RW) (r : TV) (Hs' : List AObj) : VE lv51 51 0 r Hs' [Q83 t_0 t_1 t_2 t_3] [] =
  (∃ b1 : Bool, ((Q70 20 [Q83 t_0 t_1 t_2 t_3] b1) ∧ (br (!b1) (Q47 (Q110 (Q49 0 [] 0) false) [] r Hs') (∃ z2 : Tm, ((Q65 71 [Q83 t_0 t_1 t_2 t_3] (aT z2)) ∧ (br ((z2.k : Int) == (3 : Int)) (Q47 (Q110 (cT z2) true) [] r Hs') (br ((z2.k : Int) == (1 : Int)) (Q47 (Q110 (cT z2) true) [] r Hs') (Q47 (Q110 (Q49 0 [] 0) false) [] r Hs')))))))) := by kernel_rfl
theorem v49_F52 (s : RW) (o0_0 : Int) (o0_1 : List UInt8) (o0_2 : Int) (o0_3 : RW) (r : TV) (Hs' : List AObj) : VE lv49 49 1 r Hs' (Q154 s (.fn (.func 52) [] [(false, [(Q81 0 4)])])) (Q128 4 (Q22 o0_0 o0_1 o0_2 4 o0_3)) =
  (∃ z1 : Int, ((Q10 83 (Q154 s (.fn (.func 52) [] [(false, [(Q81 0 4)])])) (Q128 4 (Q22 o0_0 o0_1 o0_2 4 o0_3)) (Q24 z1) (Q128 4 (Q22 o0_0 o0_1 o0_2 4 o0_3))) ∧ (Q50 (decide ((z1 : Int) ≥ (0 : Int))) (Q128 4 (Q22 o0_0 o0_1 o0_2 4 o0_3)) r Hs'))) := by kernel_rfl
theorem znf (sl : Nat) (o0 : RW) (o1_0 : Int) (o1_1 : List UInt8) (o1_2 : Int) (o1_3 : RW) (r : TV) (Hs' : List AObj) : VE lv49 49 2 r Hs' (Q121 (.c (Q3 0 4 0 sl)) (.fn (.func 52) [] [(false, [(Q81 1 4)])])) [.arz 4 o0, Q6 4 (Q22 o1_0 o1_1 o1_2 4 o1_3)] =
  (∃ z1 : Int, ((Q10 83 (Q121 (.c (Q3 0 4 0 sl)) (.fn (.func 52) [] [(false, [(Q81 1 4)])])) [.arz 4 o0, Q6 4 (Q22 o1_0 o1_1 o1_2 4 o1_3)] (Q24 z1) [.arz 4 o0, Q6 4 (Q22 o1_0 o1_1 o1_2 4 o1_3)]) ∧ (Q50 (decide ((z1 : Int) ≥ (0 : Int))) [.arz 4 o0, Q6 4 (Q22 o1_0 o1_1 o1_2 4 o1_3)] r Hs'))) := by kernel_rfl
def lv122 : List (Nat × List Nat) := []
theorem v122 (x : Int) (r : TV) (Hs' : List AObj) : VE lv122 122 0 r Hs' [Q24 x] [] =
  (RT (.agg (Q49 4 [] x)) [] r Hs') := by kernel_rfl
def lv50 : List (Nat × List Nat) := []
theorem v50 (t_0 : Int) (t_1 : List UInt8) (t_2 : Int) (t_3 : RW) (r : TV) (Hs' : List AObj) : VE lv50 50 0 r Hs' [Q83 t_0 t_1 t_2 t_3] [] =
  (∃ b1 : Bool, ((Q70 20 [Q83 t_0 t_1 t_2 t_3] b1) ∧ (Q50 (!b1) [] r Hs'))) := by kernel_rfl
theorem v49_F61 (s : RW) (r : TV) (Hs' : List AObj) : VE lv49 49 0 r Hs' (Q154 s (.fn (.func 61) [] [])) [] =
  (∃ z1 : Int, ((Q65 83 (Q154 s (.fn (.func 61) [] [])) (Q24 z1)) ∧ (Q50 (decide ((z1 : Int) ≥ (0 : Int))) [] r Hs'))) := by kernel_rfl
def lv63 : List (Nat × List Nat) := [(3, [0, 2, 6, 9, 10, 102, 103, 104]), (1000001, [2, 3])]
theorem v63 (t_0 : Int) (t_1 : List UInt8) (t_2 : Int) (t_3 : RW) (k o0_1 o0_2 : Int) (o0_3 : RW) (o0_4 o0_5 : Int) (o1_0l o1_1l : Nat) (o2 o3 : RW) (r : TV) (Hs' : List AObj) : VE lv63 63 4 r Hs' (Q98 6 (Q83 t_0 t_1 t_2 t_3) (Q24 k)) (Q150 6 1 2 0 0 o0_1 o0_2 4 o0_3 o0_4 o0_5 2 o1_0l 3 o1_1l o2 o3) =
  (br ((o0_5 : Int) != (0 : Int)) (RT (.agg (Q49 0 [] 0)) (Q151 (Q89 6 1 2 0 0 o0_1 o0_2 4 o0_3 o0_4 o0_5) (Q37 4 o1_0l 5 o1_1l) o2 (Q19 o3)) r Hs') (br (decide ((o0_4 : Int) ≤ (0 : Int))) (∃ z1 : Int × Int × List Tm × Int × Int, ((Q10 90 (Q102 (Q88 6) 80) (Q150 6 1 2 0 0 o0_1 o0_2 4 o0_3 o0_4 o0_5 2 o1_0l 3 o1_1l o2 o3) (Q83 0 [] 0 []) (Q150 6 1 2 0 0 z1.1 z1.2.1 4 (FTs z1.2.2.1) z1.2.2.2.1 z1.2.2.2.2 2 o1_0l 3 o1_1l o2 o3)) ∧ (RT (Q83 0 [] 0 []) (Q151 (Q89 6 1 2 0 0 z1.1 z1.2.1 4 (FTs z1.2.2.1) z1.2.2.2.1 z1.2.2.2.2) (Q37 4 o1_0l 5 o1_1l) o2 (Q19 o3)) r Hs'))) (∃ z2 : Tm × Int × Int, ((Q43 91 (Q98 2 (Q83 t_0 t_1 t_2 t_3) (Q24 (IntKind.wrap .i64 (o0_4 - 1)))) (Q127 o1_0l o1_1l o2 o3) (Q145 (cT z2.1) z2.2.1 z2.2.2) (Q127 o1_0l o1_1l o2 o3)) ∧ (br ((z2.2.2 : Int) != (0 : Int)) (∃ z3 : Int × Int × List Tm × Int × Int, ((Q10 90 (Q102 (Q88 6) z2.2.2) (Q150 6 1 2 0 0 o0_1 o0_2 4 o0_3 o0_4 o0_5 2 o1_0l 3 o1_1l o2 o3) (Q83 0 [] 0 []) (Q150 6 1 2 0 0 z3.1 z3.2.1 4 (FTs z3.2.2.1) z3.2.2.2.1 z3.2.2.2.2 2 o1_0l 3 o1_1l o2 o3)) ∧ (RT (Q83 0 [] 0 []) (Q151 (Q89 6 1 2 0 0 z3.1 z3.2.1 4 (FTs z3.2.2.1) z3.2.2.2.1 z3.2.2.2.2) (Q37 4 o1_0l 5 o1_1l) o2 (Q19 o3)) r Hs'))) ((∃ z4 : Tm, ((Q43 92 [(aT z2.1)] [] (Q77 (cT z4) Q86) []) ∧ (br ((z4.k : Int) == (5 : Int)) (((FV.isSl 4 (Q4 4 (FTs z4.l)) = true) ∧ ((0 ≤ (0 : Int)) ∧ (((0 : Int) < (length (FTs z4.l) : Int)) ∧ (((rE (getD (FTs z4.l) 0 [])) : List FV) = (getD (FTs z4.l) 0 []))))) ∧ (∃ z5 : Tm × Sto × Int × Int × List Tm × Int × Int, ((Q10 63 (Q98 6 (aE (getD (FTs z4.l) 0 [])) (Q24 (IntKind.wrap .i64 (k + 1)))) (Q150 6 1 2 0 0 o0_1 o0_2 4 o0_3 z2.2.1 o0_5 2 o1_0l 3 o1_1l o2 o3) (aT z5.1) (Q151 (Q89 6 1 2 0 0 z5.2.2.1 z5.2.2.2.1 4 (FTs z5.2.2.2.2.1) z5.2.2.2.2.2.1 z5.2.2.2.2.2.2) (Q37 4 (length z5.2.1.V) 5 (length z5.2.1.T)) (SR z5.2.1.V) (Q19 (IR z5.2.1.T)))) ∧ (∃ z6 : Tm, ((Q65 45 [Q24 1, (aT z5.1)] (aT z6)) ∧ (RT (aT z6) (Q151 (Q89 6 1 2 0 0 z5.2.2.1 z5.2.2.2.1 4 (FTs z5.2.2.2.2.1) z5.2.2.2.2.2.1 z5.2.2.2.2.2.2) (Q37 4 (length z5.2.1.V) 5 (length z5.2.1.T)) (SR z5.2.1.V) (Q19 (IR z5.2.1.T))) r Hs')))))) (br ((z4.k : Int) == (4 : Int)) (br ((z4.n : Int) == o0_1) (∃ z7 : Int × Int × List Tm × Int × Int, ((Q10 90 (Q102 (Q88 6) 170) (Q150 6 1 2 0 0 o0_1 o0_2 4 o0_3 z2.2.1 o0_5 2 o1_0l 3 o1_1l o2 o3) (Q83 0 [] 0 []) (Q150 6 1 2 0 0 z7.1 z7.2.1 4 (FTs z7.2.2.1) z7.2.2.2.1 z7.2.2.2.2 2 o1_0l 3 o1_1l o2 o3)) ∧ (RT (Q83 0 [] 0 []) (Q151 (Q89 6 1 2 0 0 z7.1 z7.2.1 4 (FTs z7.2.2.1) z7.2.2.2.1 z7.2.2.2.2) (Q37 4 o1_0l 5 o1_1l) o2 (Q19 o3)) r Hs'))) (∃ z8 : Tm × Sto × Int × Int × List Tm × Int × Int, ((Q10 93 [Q88 6, Q24 z4.n, .c Q26, Q24 k] (Q150 6 1 2 0 0 o0_1 o0_2 4 o0_3 z2.2.1 o0_5 2 o1_0l 3 o1_1l o2 o3) (aT z8.1) (Q151 (Q89 6 1 2 0 0 z8.2.2.1 z8.2.2.2.1 4 (FTs z8.2.2.2.2.1) z8.2.2.2.2.2.1 z8.2.2.2.2.2.2) (Q37 4 (length z8.2.1.V) 5 (length z8.2.1.T)) (SR z8.2.1.V) (Q19 (IR z8.2.1.T)))) ∧ (RT (aT z8.1) (Q151 (Q89 6 1 2 0 0 z8.2.2.1 z8.2.2.2.1 4 (FTs z8.2.2.2.2.1) z8.2.2.2.2.2.1 z8.2.2.2.2.2.2) (Q37 4 (length z8.2.1.V) 5 (length z8.2.1.T)) (SR z8.2.1.V) (Q19 (IR z8.2.1.T))) r Hs')))) (br ((z4.k : Int) == (3 : Int)) (∃ z9 : Tm × Bool, ((Q43 94 (Q98 6 (aT z4) (Q24 k)) (Q150 6 1 2 0 0 o0_1 o0_2 4 o0_3 z2.2.1 o0_5 2 o1_0l 3 o1_1l o2 o3) (Q110 (cT z9.1) z9.2) (Q150 6 1 2 0 0 o0_1 o0_2 4 o0_3 z2.2.1 o0_5 2 o1_0l 3 o1_1l o2 o3)) ∧ (br (!z9.2) (∃ z10 : Int × Int × List Tm × Int × Int, ((Q10 90 (Q102 (Q88 6) 170) (Q150 6 1 2 0 0 o0_1 o0_2 4 o0_3 z2.2.1 o0_5 2 o1_0l 3 o1_1l o2 o3) (Q83 0 [] 0 []) (Q150 6 1 2 0 0 z10.1 z10.2.1 4 (FTs z10.2.2.1) z10.2.2.2.1 z10.2.2.2.2 2 o1_0l 3 o1_1l o2 o3)) ∧ (RT (Q83 0 [] 0 []) (Q151 (Q89 6 1 2 0 0 z10.1 z10.2.1 4 (FTs z10.2.2.1) z10.2.2.2.1 z10.2.2.2.2) (Q37 4 o1_0l 5 o1_1l) o2 (Q19 o3)) r Hs'))) ((FV.isSl 4 .nils = true) ∧ (Q52 63 4 r Hs' 3 [Q57 0 0 6, Q12 2 k, Q125 6 6, Q125 9 7, Q134 10, Q134 102, Q12 103 0, Q12 104 0] [Q25 0 6 (Q63 1 2 0 0 o0_1 o0_2 4 o0_3 z2.2.1 o0_5), Q69 1 4 o1_0l 5 o1_1l, Q39 2, Q39 3, Q67 4 o2, Q46 5 o3, Q87 6 4 0 [] 0, Q25 7 4 (cT z9.1)] 8))))) (br ((z4.k : Int) == (1 : Int)) (∃ z11 : Tm × Bool, ((Q43 94 (Q98 6 (aT z4) (Q24 k)) (Q150 6 1 2 0 0 o0_1 o0_2 4 o0_3 z2.2.1 o0_5 2 o1_0l 3 o1_1l o2 o3) (Q110 (cT z11.1) z11.2) (Q150 6 1 2 0 0 o0_1 o0_2 4 o0_3 z2.2.1 o0_5 2 o1_0l 3 o1_1l o2 o3)) ∧ (br (!z11.2) (∃ z12 : Int × Int × List Tm × Int × Int, ((Q10 90 (Q102 (Q88 6) 170) (Q150 6 1 2 0 0 o0_1 o0_2 4 o0_3 z2.2.1 o0_5 2 o1_0l 3 o1_1l o2 o3) (Q83 0 [] 0 []) (Q150 6 1 2 0 0 z12.1 z12.2.1 4 (FTs z12.2.2.1) z12.2.2.2.1 z12.2.2.2.2 2 o1_0l 3 o1_1l o2 o3)) ∧ (RT (Q83 0 [] 0 []) (Q151 (Q89 6 1 2 0 0 z12.1 z12.2.1 4 (FTs z12.2.2.1) z12.2.2.2.1 z12.2.2.2.2) (Q37 4 o1_0l 5 o1_1l) o2 (Q19 o3)) r Hs'))) ((FV.isSl 4 .nils = true) ∧ (Q52 63 4 r Hs' 3 [Q57 0 0 6, Q12 2 k, Q125 6 6, Q125 9 7, Q134 10, Q134 102, Q12 103 0, Q12 104 0] [Q25 0 6 (Q63 1 2 0 0 o0_1 o0_2 4 o0_3 z2.2.1 o0_5), Q69 1 4 o1_0l 5 o1_1l, Q39 2, Q39 3, Q67 4 o2, Q46 5 o3, Q87 6 4 0 [] 0, Q25 7 4 (cT z11.1)] 8))))) ((FV.isSl 4 .nils = true) ∧ (Q52 63 4 r Hs' 3 [Q57 0 0 6, Q12 2 k, Q125 6 6, Q125 9 7, Q134 10, Q134 102, Q12 103 0, Q12 104 0] [Q25 0 6 (Q63 1 2 0 0 o0_1 o0_2 4 o0_3 z2.2.1 o0_5), Q69 1 4 o1_0l 5 o1_1l, Q39 2, Q39 3, Q67 4 o2, Q46 5 o3, Q87 6 4 0 [] 0, Q25 7 4 (cT z4)] 8)))))))) ∨ (∃ z13 : Tm × List Tm, ((Q43 92 [(aT z2.1)] [] (Q77 (cT z13.1) (Q122 0 4 0 (length z13.2))) [.arz 4 (FTs z13.2)]) ∧ (br ((z13.1.k : Int) == (5 : Int)) (((FV.isSl 4 (Q4 4 (FTs z13.1.l)) = true) ∧ ((0 ≤ (0 : Int)) ∧ (((0 : Int) < (length (FTs z13.1.l) : Int)) ∧ (((rE (getD (FTs z13.1.l) 0 [])) : List FV) = (getD (FTs z13.1.l) 0 []))))) ∧ (∃ z14 : Tm × Sto × Int × Int × List Tm × Int × Int, ((Q10 63 (Q98 6 (aE (getD (FTs z13.1.l) 0 [])) (Q24 (IntKind.wrap .i64 (k + 1)))) (Q150 6 1 2 0 0 o0_1 o0_2 4 o0_3 z2.2.1 o0_5 2 o1_0l 3 o1_1l o2 o3) (aT z14.1) (Q151 (Q89 6 1 2 0 0 z14.2.2.1 z14.2.2.2.1 4 (FTs z14.2.2.2.2.1) z14.2.2.2.2.2.1 z14.2.2.2.2.2.2) (Q37 4 (length z14.2.1.V) 5 (length z14.2.1.T)) (SR z14.2.1.V) (Q19 (IR z14.2.1.T)))) ∧ (∃ z15 : Tm, ((Q65 45 [Q24 1, (aT z14.1)] (aT z15)) ∧ (RT (aT z15) (Q151 (Q89 6 1 2 0 0 z14.2.2.1 z14.2.2.2.1 4 (FTs z14.2.2.2.2.1) z14.2.2.2.2.2.1 z14.2.2.2.2.2.2) (Q37 4 (length z14.2.1.V) 5 (length z14.2.1.T)) (SR z14.2.1.V) (Q19 (IR z14.2.1.T))) r Hs')))))) (br ((z13.1.k : Int) == (4 : Int)) (br ((z13.1.n : Int) == o0_1) (∃ z16 : Int × Int × List Tm × Int × Int, ((Q10 90 (Q102 (Q88 6) 170) (Q150 6 1 2 0 0 o0_1 o0_2 4 o0_3 z2.2.1 o0_5 2 o1_0l 3 o1_1l o2 o3) (Q83 0 [] 0 []) (Q150 6 1 2 0 0 z16.1 z16.2.1 4 (FTs z16.2.2.1) z16.2.2.2.1 z16.2.2.2.2 2 o1_0l 3 o1_1l o2 o3)) ∧ (RT (Q83 0 [] 0 []) (Q151 (Q89 6 1 2 0 0 z16.1 z16.2.1 4 (FTs z16.2.2.1) z16.2.2.2.1 z16.2.2.2.2) (Q37 4 o1_0l 5 o1_1l) o2 (Q19 o3)) r Hs'))) (((4 : Nat) = 4 ∧ (0 + (length z13.2)) ≤ (length (FTs z13.2))) ∧ (∃ z17 : Tm × Sto × Int × Int × List Tm × Int × Int, ((Q10 93 [Q88 6, Q24 z13.1.n, Q153 (take (length z13.2) (drop 0 (FTs z13.2))), Q24 k] (Q150 6 1 2 0 0 o0_1 o0_2 4 o0_3 z2.2.1 o0_5 2 o1_0l 3 o1_1l o2 o3) (aT z17.1) (Q151 (Q89 6 1 2 0 0 z17.2.2.1 z17.2.2.2.1 4 (FTs z17.2.2.2.2.1) z17.2.2.2.2.2.1 z17.2.2.2.2.2.2) (Q37 4 (length z17.2.1.V) 5 (length z17.2.1.T)) (SR z17.2.1.V) (Q19 (IR z17.2.1.T)))) ∧ (RT (aT z17.1) (Q151 (Q89 6 1 2 0 0 z17.2.2.1 z17.2.2.2.1 4 (FTs z17.2.2.2.2.1) z17.2.2.2.2.2.1 z17.2.2.2.2.2.2) (Q37 4 (length z17.2.1.V) 5 (length z17.2.1.T)) (SR z17.2.1.V) (Q19 (IR z17.2.1.T))) r Hs'))))) (br ((z13.1.k : Int) == (3 : Int)) (∃ z18 : Tm × Bool, ((Q43 94 (Q98 6 (aT z13.1) (Q24 k)) (Q150 6 1 2 0 0 o0_1 o0_2 4 o0_3 z2.2.1 o0_5 2 o1_0l 3 o1_1l o2 o3) (Q110 (cT z18.1) z18.2) (Q150 6 1 2 0 0 o0_1 o0_2 4 o0_3 z2.2.1 o0_5 2 o1_0l 3 o1_1l o2 o3)) ∧ (br (!z18.2) (∃ z19 : Int × Int × List Tm × Int × Int, ((Q10 90 (Q102 (Q88 6) 170) (Q150 6 1 2 0 0 o0_1 o0_2 4 o0_3 z2.2.1 o0_5 2 o1_0l 3 o1_1l o2 o3) (Q83 0 [] 0 []) (Q150 6 1 2 0 0 z19.1 z19.2.1 4 (FTs z19.2.2.1) z19.2.2.2.1 z19.2.2.2.2 2 o1_0l 3 o1_1l o2 o3)) ∧ (RT (Q83 0 [] 0 []) (Q151 (Q89 6 1 2 0 0 z19.1 z19.2.1 4 (FTs z19.2.2.1) z19.2.2.2.1 z19.2.2.2.2) (Q37 4 o1_0l 5 o1_1l) o2 (Q19 o3)) r Hs'))) (Q52 63 4 r Hs' 3 [Q57 0 0 6, Q12 2 k, Q125 6 6, Q125 9 7, Q156 10 8 (length z13.2), Q156 102 8 (length z13.2), Q12 103 (((length z13.2) : Nat) : Int), Q12 104 0] [Q25 0 6 (Q63 1 2 0 0 o0_1 o0_2 4 o0_3 z2.2.1 o0_5), Q69 1 4 o1_0l 5 o1_1l, Q39 2, Q39 3, Q67 4 o2, Q46 5 o3, Q87 6 4 0 [] 0, Q25 7 4 (cT z18.1), Q73 8 4 (FTs z13.2)] 9)))) (br ((z13.1.k : Int) == (1 : Int)) (∃ z20 : Tm × Bool, ((Q43 94 (Q98 6 (aT z13.1) (Q24 k)) (Q150 6 1 2 0 0 o0_1 o0_2 4 o0_3 z2.2.1 o0_5 2 o1_0l 3 o1_1l o2 o3) (Q110 (cT z20.1) z20.2) (Q150 6 1 2 0 0 o0_1 o0_2 4 o0_3 z2.2.1 o0_5 2 o1_0l 3 o1_1l o2 o3)) ∧ (br (!z20.2) (∃ z21 : Int × Int × List Tm × Int × Int, ((Q10 90 (Q102 (Q88 6) 170) (Q150 6 1 2 0 0 o0_1 o0_2 4 o0_3 z2.2.1 o0_5 2 o1_0l 3 o1_1l o2 o3) (Q83 0 [] 0 []) (Q150 6 1 2 0 0 z21.1 z21.2.1 4 (FTs z21.2.2.1) z21.2.2.2.1 z21.2.2.2.2 2 o1_0l 3 o1_1l o2 o3)) ∧ (RT (Q83 0 [] 0 []) (Q151 (Q89 6 1 2 0 0 z21.1 z21.2.1 4 (FTs z21.2.2.1) z21.2.2.2.1 z21.2.2.2.2) (Q37 4 o1_0l 5 o1_1l) o2 (Q19 o3)) r Hs'))) (Q52 63 4 r Hs' 3 [Q57 0 0 6, Q12 2 k, Q125 6 6, Q125 9 7, Q156 10 8 (length z13.2), Q156 102 8 (length z13.2), Q12 103 (((length z13.2) : Nat) : Int), Q12 104 0] [Q25 0 6 (Q63 1 2 0 0 o0_1 o0_2 4 o0_3 z2.2.1 o0_5), Q69 1 4 o1_0l 5 o1_1l, Q39 2, Q39 3, Q67 4 o2, Q46 5 o3, Q87 6 4 0 [] 0, Q25 7 4 (cT z20.1), Q73 8 4 (FTs z13.2)] 9)))) (Q52 63 4 r Hs' 3 [Q57 0 0 6, Q12 2 k, Q125 6 6, Q125 9 7, Q156 10 8 (length z13.2), Q156 102 8 (length z13.2), Q12 103 (((length z13.2) : Nat) : Int), Q12 104 0] [Q25 0 6 (Q63 1 2 0 0 o0_1 o0_2 4 o0_3 z2.2.1 o0_5), Q69 1 4 o1_0l 5 o1_1l, Q39 2, Q39 3, Q67 4 o2, Q46 5 o3, Q87 6 4 0 [] 0, Q25 7 4 (cT z13.1), Q73 8 4 (FTs z13.2)] 9))))))))))))) := by kernel_rfl
theorem v63_3a (x2 x103 x104 h0_1 h0_2 : Int) (h0_3 : RW) (h0_4 h0_5 : Int) (h1_0l h1_1l : Nat) (h4 h5 : RW) (h6_0 : Int) (h6_1 : List UInt8) (h6_2 h7_0 : Int) (h7_1 : List UInt8) (h7_2 : Int) (h7_3 : RW) (r : TV) (Hs' : List AObj) : VQ lv63 63 4 r Hs' 3 ⟨[Q57 0 0 6, Q12 2 x2, Q125 6 6, Q125 9 7, Q134 10, Q134 102, Q12 103 x103, Q12 104 x104], [Q25 0 6 (Q63 1 2 0 0 h0_1 h0_2 4 h0_3 h0_4 h0_5), Q69 1 4 h1_0l 5 h1_1l, Q39 2, Q39 3, Q67 4 h4, Q46 5 h5, Q87 6 4 h6_0 h6_1 h6_2, Q95 7 4 h7_0 h7_1 h7_2 4 h7_3], 8⟩ =
  (br (decide ((x104 : Int) < x103)) (((FV.isSl 4 .nils = true) ∧ ((0 ≤ x104) ∧ ((x104 < ((0 : Nat) : Int)) ∧ (((rE (getD [] (toNat x104) [])) : List FV) = (getD [] (toNat x104) []))))) ∧ (∃ z1 : Tm × Sto × Int × Int × List Tm × Int × Int, ((Q10 63 (Q98 6 (aE (getD [] (toNat x104) [])) (Q24 x2)) (Q150 6 1 2 0 0 h0_1 h0_2 4 h0_3 h0_4 h0_5 2 h1_0l 3 h1_1l h4 h5) (aT z1.1) (Q151 (Q89 6 1 2 0 0 z1.2.2.1 z1.2.2.2.1 4 (FTs z1.2.2.2.2.1) z1.2.2.2.2.2.1 z1.2.2.2.2.2.2) (Q37 4 (length z1.2.1.V) 5 (length z1.2.1.T)) (SR z1.2.1.V) (Q19 (IR z1.2.1.T)))) ∧ (((FV.isSl 4 .nils = true) ∧ ((0 ≤ x104) ∧ ((x104 < ((0 : Nat) : Int)) ∧ (((rE (getD [] (toNat x104) [])) : List FV) = (getD [] (toNat x104) []))))) ∧ False)))) (∃ z2 : Tm, ((Q65 24 (Q121 (Q83 h7_0 h7_1 h7_2 h7_3) Q26) (aT z2)) ∧ (RT (aT z2) (Q151 (Q89 6 1 2 0 0 h0_1 h0_2 4 h0_3 h0_4 h0_5) (Q37 4 h1_0l 5 h1_1l) h4 (Q19 h5)) r Hs')))) := by kernel_rfl
theorem v63_3b (x2 : Int) (x10l x102l : Nat) (x103 x104 h0_1 h0_2 : Int) (h0_3 : RW) (h0_4 h0_5 : Int) (h1_0l h1_1l : Nat) (h4 h5 : RW) (h6_0 : Int) (h6_1 : List UInt8) (h6_2 h7_0 : Int) (h7_1 : List UInt8) (h7_2 : Int) (h7_3 h8 : RW) (r : TV) (Hs' : List AObj) : VQ lv63 63 4 r Hs' 3 ⟨[Q57 0 0 6, Q12 2 x2, Q125 6 6, Q125 9 7, Q156 10 8 x10l, Q156 102 8 x102l, Q12 103 x103, Q12 104 x104], [Q25 0 6 (Q63 1 2 0 0 h0_1 h0_2 4 h0_3 h0_4 h0_5), Q69 1 4 h1_0l 5 h1_1l, Q39 2, Q39 3, Q67 4 h4, Q46 5 h5, Q87 6 4 h6_0 h6_1 h6_2, Q95 7 4 h7_0 h7_1 h7_2 4 h7_3, Q73 8 4 h8], 9⟩ =
  (br (decide ((x104 : Int) < x103)) ((0 ≤ x104 ∧ x104 < (x102l : Int)) ∧ ((((0 + (toNat x104)) < (length h8)) ∧ ((((rE (getD h8 (0 + (toNat x104)) [])) : List FV) = (take 4 (drop 0 (getD h8 (0 + (toNat x104)) [])))) ∧ ((4 : Nat) = 4))) ∧ (∃ z1 : Tm × Sto × Int × Int × List Tm × Int × Int, ((Q10 63 (Q98 6 (aE (getD h8 (0 + (toNat x104)) [])) (Q24 x2)) (Q150 6 1 2 0 0 h0_1 h0_2 4 h0_3 h0_4 h0_5 2 h1_0l 3 h1_1l h4 h5) (aT z1.1) (Q151 (Q89 6 1 2 0 0 z1.2.2.1 z1.2.2.2.1 4 (FTs z1.2.2.2.2.1) z1.2.2.2.2.2.1 z1.2.2.2.2.2.2) (Q37 4 (length z1.2.1.V) 5 (length z1.2.1.T)) (SR z1.2.1.V) (Q19 (IR z1.2.1.T)))) ∧ ((0 ≤ x104 ∧ x104 < (x10l : Int)) ∧ (((0 + (toNat x104)) < (length h8) ∧ (length (getD h8 (0 + (toNat x104)) [])) = 4) ∧ (Q52 63 4 r Hs' 3 [Q57 0 0 6, Q12 2 x2, Q125 6 6, Q125 9 7, Q156 10 8 x10l, Q156 102 8 x102l, Q12 103 x103, Q12 104 (IntKind.wrap .i64 (x104 + 1))] [Q25 0 6 (Q63 1 2 0 0 z1.2.2.1 z1.2.2.2.1 4 (FTs z1.2.2.2.2.1) z1.2.2.2.2.2.1 z1.2.2.2.2.2.2), Q69 1 4 (length z1.2.1.V) 5 (length z1.2.1.T), Q39 2, Q39 3, Q67 4 (SR z1.2.1.V), Q46 5 (IR z1.2.1.T), Q87 6 4 h6_0 h6_1 h6_2, Q95 7 4 h7_0 h7_1 h7_2 4 h7_3, Q73 8 4 (List.set h8 (0 + (toNat x104)) (FT4 z1.1))] 9))))))) (((4 : Nat) = 4 ∧ (0 + x10l) ≤ (length h8)) ∧ (∃ z2 : Tm, ((Q65 24 [Q83 h7_0 h7_1 h7_2 h7_3, Q153 (take x10l (drop 0 h8))] (aT z2)) ∧ (RT (aT z2) (Q151 (Q89 6 1 2 0 0 h0_1 h0_2 4 h0_3 h0_4 h0_5) (Q37 4 h1_0l 5 h1_1l) h4 (Q19 h5)) r Hs'))))) := by kernel_rfl
def zpo : List (Nat × List Nat) := [(1, [3, 13, 14, 15])]
theorem v172 (t_0 : Int) (t_1 : List UInt8) (t_2 : Int) (t_3 : RW) (r : TV) (Hs' : List AObj) : VE zpo 172 0 r Hs' [Q83 t_0 t_1 t_2 t_3] [] =
  (∃ y1 : FV, (∃ n2 : Int, ((Q43 88 [Q83 t_0 t_1 t_2 t_3] [] [Q20 [Q0 y1], Q31 n2] []) ∧ ((FV.isSl 4 y1 = true) ∧ (Q155 172 0 r Hs' (Q108 (Q12 3 1) (Q90 13 y1) 14 (length (FV.ses y1) : Int) 15 0) [] 0))))) := by kernel_rfl
theorem zt (x3 : Int) (x13 : FV) (x14 x15 : Int) (r : TV) (Hs' : List AObj) : VQ zpo 172 0 r Hs' 1 ⟨Q108 (Q12 3 x3) (Q90 13 x13) 14 x14 15 x15, [], 0⟩ =
  (br (decide ((x15 : Int) < x14)) (((FV.isSl 4 x13 = true) ∧ ((0 ≤ x15) ∧ ((x15 < (length (FV.ses x13) : Int)) ∧ (((rE (getD (FV.ses x13) (toNat x15) [])) : List FV) = (getD (FV.ses x13) (toNat x15) []))))) ∧ (∃ n1 : Int, ((Q65 172 [(aE (getD (FV.ses x13) (toNat x15) []))] (Q24 n1)) ∧ (Q155 172 0 r Hs' (Q108 (Q12 3 (IntKind.wrap .i64 (x3 + n1))) (Q90 13 x13) 14 x14 15 (IntKind.wrap .i64 (x15 + 1))) [] 0)))) (Q76 x3 [] r Hs')) := by kernel_rfl
def lv173 : List (Nat × List Nat) := []
theorem v173 (t_0 : Int) (t_1 : List UInt8) (t_2 : Int) (t_3 : RW) (i s_0 : Int) (s_1 : List UInt8) (s_2 : Int) (s_3 : RW) (r : TV) (Hs' : List AObj) : VE lv173 173 0 r Hs' (Q72 (Q83 t_0 t_1 t_2 t_3) i (Q83 s_0 s_1 s_2 s_3)) [] =
  (∃ z1 : Tm, ((Q10 151 [.agg [(.fn (.func 176) [] [(false, [Q112]), (false, [(Q81 1 4)])])], Q83 t_0 t_1 t_2 t_3, Q24 0] (Q111 i (Q6 4 (Q22 s_0 s_1 s_2 4 s_3))) (aT z1) (Q111 i (Q6 4 (Q22 s_0 s_1 s_2 4 s_3)))) ∧ (RT (aT z1) [] r Hs'))) := by kernel_rfl
def lv150 : List (Nat × List Nat) := []
theorem v150 (t_0 : Int) (t_1 : List UInt8) (t_2 : Int) (t_3 : RW) (a1 : Int) (r : TV) (Hs' : List AObj) : VE lv150 150 0 r Hs' (Q102 (Q83 t_0 t_1 t_2 t_3) a1) [] =
  (RT (Q83 t_0 t_1 (IntKind.wrap .i64 (t_2 + a1)) t_3) [] r Hs') := by kernel_rfl
theorem v83_F50 (s : RW) (r : TV) (Hs' : List AObj) : VE lv83 83 0 r Hs' (Q154 s (.fn (.func 50) [] [])) [] =
  ((FV.isSl 4 (Q4 4 s) = true) ∧ (Q155 83 0 r Hs' (Q108 (Q144 0 s) (Q5 1 (.fn (.func 50) [] [])) 7 (length s : Int) 8 0) [] 0)) := by kernel_rfl
theorem zd8 (x0 : RW) (x7 x8 : Int) (r : TV) (Hs' : List AObj) : VQ lv83 83 0 r Hs' 1 ⟨Q108 (Q144 0 x0) (Q5 1 (.fn (.func 50) [] [])) 7 x7 8 x8, [], 0⟩ =
  (br (decide ((x8 : Int) < x7)) (((FV.isSl 4 (Q4 4 x0) = true) ∧ ((0 ≤ x8) ∧ ((x8 < (length x0 : Int)) ∧ (((rE (getD x0 (toNat x8) [])) : List FV) = (getD x0 (toNat x8) []))))) ∧ (∃ b1 : Bool, ((Q70 50 [(aE (getD x0 (toNat x8) []))] b1) ∧ (br b1 (Q76 x8 [] r Hs') (Q155 83 0 r Hs' (Q108 (Q144 0 x0) (Q5 1 (.fn (.func 50) [] [])) 7 x7 8 (IntKind.wrap .i64 (x8 + 1))) [] 0))))) (Q76 (-1 : Int) [] r Hs')) := by kernel_rfl
theorem v83_F52 (s : RW) (o0_0 : Int) (o0_1 : List UInt8) (o0_2 : Int) (o0_3 : RW) (r : TV) (Hs' : List AObj) : VE lv83 83 1 r Hs' (Q154 s (.fn (.func 52) [] [(false, [(Q81 0 4)])])) (Q128 4 (Q22 o0_0 o0_1 o0_2 4 o0_3)) =
  ((FV.isSl 4 (Q4 4 s) = true) ∧ (Q155 83 1 r Hs' (Q108 (Q144 0 s) (Q5 1 (.fn (.func 52) [] [(false, [(Q81 0 4)])])) 7 (length s : Int) 8 0) [Q95 0 4 o0_0 o0_1 o0_2 4 o0_3] 1)) := by kernel_rfl
theorem zdx (x0 : RW) (x7 x8 h0_0 : Int) (h0_1 : List UInt8) (h0_2 : Int) (h0_3 : RW) (r : TV) (Hs' : List AObj) : VQ lv83 83 1 r Hs' 1 ⟨Q108 (Q144 0 x0) (Q5 1 (.fn (.func 52) [] [(false, [(Q81 0 4)])])) 7 x7 8 x8, [Q95 0 4 h0_0 h0_1 h0_2 4 h0_3], 1⟩ =
  (br (decide ((x8 : Int) < x7)) (((FV.isSl 4 (Q4 4 x0) = true) ∧ ((0 ≤ x8) ∧ ((x8 < (length x0 : Int)) ∧ (((rE (getD x0 (toNat x8) [])) : List FV) = (getD x0 (toNat x8) []))))) ∧ (∃ b1 : Bool, ((Q10 52 [(aE (getD x0 (toNat x8) [])), Q88 4] (Q128 4 (Q22 h0_0 h0_1 h0_2 4 h0_3)) (Q32 b1) (Q128 4 (Q22 h0_0 h0_1 h0_2 4 h0_3))) ∧ (br b1 (Q76 x8 (Q128 4 (Q22 h0_0 h0_1 h0_2 4 h0_3)) r Hs') (Q155 83 1 r Hs' (Q108 (Q144 0 x0) (Q5 1 (.fn (.func 52) [] [(false, [(Q81 0 4)])])) 7 x7 8 (IntKind.wrap .i64 (x8 + 1))) [Q95 0 4 h0_0 h0_1 h0_2 4 h0_3] 1))))) (Q76 (-1 : Int) (Q128 4 (Q22 h0_0 h0_1 h0_2 4 h0_3)) r Hs')) := by kernel_rfl
theorem znh (sl : Nat) (o0 : RW) (o1_0 : Int) (o1_1 : List UInt8) (o1_2 : Int) (o1_3 : RW) (r : TV) (Hs' : List AObj) : VE lv83 83 2 r Hs' (Q121 (.c (Q3 0 4 0 sl)) (.fn (.func 52) [] [(false, [(Q81 1 4)])])) [.arz 4 o0, Q6 4 (Q22 o1_0 o1_1 o1_2 4 o1_3)] =
  (Q155 83 2 r Hs' (Q108 (Q156 0 0 sl) (Q5 1 (.fn (.func 52) [] [(false, [(Q81 1 4)])])) 7 (sl : Int) 8 0) [Q73 0 4 o0, Q95 1 4 o1_0 o1_1 o1_2 4 o1_3] 2) := by kernel_rfl
theorem z8b (x0l : Nat) (x7 x8 : Int) (h0 : RW) (h1_0 : Int) (h1_1 : List UInt8) (h1_2 : Int) (h1_3 : RW) (r : TV) (Hs' : List AObj) : VQ lv83 83 2 r Hs' 1 ⟨Q108 (Q156 0 0 x0l) (Q5 1 (.fn (.func 52) [] [(false, [(Q81 1 4)])])) 7 x7 8 x8, [Q73 0 4 h0, Q95 1 4 h1_0 h1_1 h1_2 4 h1_3], 2⟩ =
  (br (decide ((x8 : Int) < x7)) ((0 ≤ x8 ∧ x8 < (x0l : Int)) ∧ ((((0 + (toNat x8)) < (length h0)) ∧ ((((rE (getD h0 (0 + (toNat x8)) [])) : List FV) = (take 4 (drop 0 (getD h0 (0 + (toNat x8)) [])))) ∧ ((4 : Nat) = 4))) ∧ (∃ b1 : Bool, ((Q10 52 [(aE (getD h0 (0 + (toNat x8)) [])), Q88 4] (Q128 4 (Q22 h1_0 h1_1 h1_2 4 h1_3)) (Q32 b1) (Q128 4 (Q22 h1_0 h1_1 h1_2 4 h1_3))) ∧ (br b1 (Q76 x8 [.arz 4 h0, Q6 4 (Q22 h1_0 h1_1 h1_2 4 h1_3)] r Hs') (Q155 83 2 r Hs' (Q108 (Q156 0 0 x0l) (Q5 1 (.fn (.func 52) [] [(false, [(Q81 1 4)])])) 7 x7 8 (IntKind.wrap .i64 (x8 + 1))) [Q73 0 4 h0, Q95 1 4 h1_0 h1_1 h1_2 4 h1_3] 2)))))) (Q76 (-1 : Int) [.arz 4 h0, Q6 4 (Q22 h1_0 h1_1 h1_2 4 h1_3)] r Hs')) := by kernel_rfl
theorem v83_F61 (s : RW) (r : TV) (Hs' : List AObj) : VE lv83 83 0 r Hs' (Q154 s (.fn (.func 61) [] [])) [] =
  ((FV.isSl 4 (Q4 4 s) = true) ∧ (Q155 83 0 r Hs' (Q108 (Q144 0 s) (Q5 1 (.fn (.func 61) [] [])) 7 (length s : Int) 8 0) [] 0)) := by kernel_rfl
theorem zd6 (x0 : RW) (x7 x8 : Int) (r : TV) (Hs' : List AObj) : VQ lv83 83 0 r Hs' 1 ⟨Q108 (Q144 0 x0) (Q5 1 (.fn (.func 61) [] [])) 7 x7 8 x8, [], 0⟩ =
  (br (decide ((x8 : Int) < x7)) (((FV.isSl 4 (Q4 4 x0) = true) ∧ ((0 ≤ x8) ∧ ((x8 < (length x0 : Int)) ∧ (((rE (getD x0 (toNat x8) [])) : List FV) = (getD x0 (toNat x8) []))))) ∧ (∃ b1 : Bool, ((Q70 61 [(aE (getD x0 (toNat x8) []))] b1) ∧ (br b1 (Q76 x8 [] r Hs') (Q155 83 0 r Hs' (Q108 (Q144 0 x0) (Q5 1 (.fn (.func 61) [] [])) 7 x7 8 (IntKind.wrap .i64 (x8 + 1))) [] 0))))) (Q76 (-1 : Int) [] r Hs')) := by kernel_rfl
def lv90 : List (Nat × List Nat) := []
theorem v90 (e o0_1 o0_2 : Int) (o0_3 : RW) (o0_4 o0_5 : Int) (o1_0l o1_1l : Nat) (o2 o3 : RW) (r : TV) (Hs' : List AObj) : VE lv90 90 4 r Hs' (Q102 (Q88 6) e) (Q150 6 1 2 0 0 o0_1 o0_2 4 o0_3 o0_4 o0_5 2 o1_0l 3 o1_1l o2 o3) =
  (br ((o0_5 : Int) == (0 : Int)) (RT (.agg (Q49 0 [] 0)) (Q150 6 1 2 0 0 o0_1 o0_2 4 o0_3 o0_4 e 2 o1_0l 3 o1_1l o2 o3) r Hs') (RT (.agg (Q49 0 [] 0)) (Q150 6 1 2 0 0 o0_1 o0_2 4 o0_3 o0_4 o0_5 2 o1_0l 3 o1_1l o2 o3) r Hs')) := by kernel_rfl
def lv93 : List (Nat × List Nat) := [(1, [0, 1, 3, 8, 9, 12, 14, 15, 55, 56, 57]), (5, [0, 1, 3, 8, 9, 12, 14, 15, 105, 106, 107]), (1000001, [2, 3])]
theorem v93 (y : Int) (l : RW) (k o0_1 o0_2 : Int) (o0_3 : RW) (o0_4 o0_5 : Int) (o1_0l o1_1l : Nat) (o2 o3 : RW) (r : TV) (Hs' : List AObj) : VE lv93 93 4 r Hs' [Q88 6, Q24 y, Q153 l, Q24 k] (Q150 6 1 2 0 0 o0_1 o0_2 4 o0_3 o0_4 o0_5 2 o1_0l 3 o1_1l o2 o3) =
  (∃ z1 : List Tm × Int × Int, ((Q43 13 [Q88 2, Q24 y, Q153 l, Q24 o0_4] (Q127 o1_0l o1_1l o2 o3) (Q101 (Q20 [Q138 (FTs z1.1)]) z1.2.1 z1.2.2) (Q127 o1_0l o1_1l o2 o3)) ∧ (br ((z1.2.2 : Int) != (0 : Int)) (∃ z2 : Int × Int × List Tm × Int × Int, ((Q10 90 (Q102 (Q88 6) z1.2.2) (Q150 6 1 2 0 0 o0_1 o0_2 4 o0_3 o0_4 o0_5 2 o1_0l 3 o1_1l o2 o3) (Q83 0 [] 0 []) (Q150 6 1 2 0 0 z2.1 z2.2.1 4 (FTs z2.2.2.1) z2.2.2.2.1 z2.2.2.2.2 2 o1_0l 3 o1_1l o2 o3)) ∧ (RT (Q83 0 [] 0 []) (Q151 (Q89 6 1 2 0 0 z2.1 z2.2.1 4 (FTs z2.2.2.1) z2.2.2.2.1 z2.2.2.2.2) (Q37 4 o1_0l 5 o1_1l) o2 (Q19 o3)) r Hs'))) (∃ z3 : Int × Bool × Tm × Bool, ((Q43 19 (Q102 (Q88 2) y) (Q127 o1_0l o1_1l o2 o3) (Q110 (Q139 z3.1 z3.2.1 z3.2.2.1.k z3.2.2.1.s z3.2.2.1.n (FTs z3.2.2.1.l)) z3.2.2.2) (Q127 o1_0l o1_1l o2 o3)) ∧ ((FV.isSl 4 (Q4 4 (FTs z1.1)) = true) ∧ (Q155 93 4 r Hs' [Q57 0 0 6, Q12 1 y, Q12 3 k, Q125 8 6, Q144 9 (FTs z1.1), Q57 12 7 6, Q134 14, Q134 15, Q144 55 (FTs z1.1), Q12 56 (length (FTs z1.1) : Int), Q12 57 0] [Q25 0 6 (Q63 1 2 0 0 o0_1 o0_2 4 o0_3 z1.2.1 o0_5), Q69 1 4 o1_0l 5 o1_1l, Q39 2, Q39 3, Q67 4 o2, Q46 5 o3, Q87 6 4 0 [] 0, Q25 7 6 (Q139 z3.1 z3.2.1 z3.2.2.1.k z3.2.2.1.s z3.2.2.1.n (FTs z3.2.2.1.l))] 8))))))) := by kernel_rfl
theorem v93_1a (x1 x3 : Int) (x9 x55 : RW) (x56 x57 h0_1 h0_2 : Int) (h0_3 : RW) (h0_4 h0_5 : Int) (h1_0l h1_1l : Nat) (h4 h5 : RW) (h6_0 : Int) (h6_1 : List UInt8) (h6_2 h7_0 : Int) (h7_1 : Bool) (h7_2 : Int) (h7_3 : List UInt8) (h7_4 : Int) (h7_5 : RW) (r : TV) (Hs' : List AObj) : VQ lv93 93 4 r Hs' 1 ⟨[Q57 0 0 6, Q12 1 x1, Q12 3 x3, Q125 8 6, Q144 9 x9, Q57 12 7 6, Q134 14, Q134 15, Q144 55 x55, Q12 56 x56, Q12 57 x57], [Q25 0 6 (Q63 1 2 0 0 h0_1 h0_2 4 h0_3 h0_4 h0_5), Q69 1 4 h1_0l 5 h1_1l, Q39 2, Q39 3, Q67 4 h4, Q46 5 h5, Q87 6 4 h6_0 h6_1 h6_2, Q25 7 6 (Q139 h7_0 h7_1 h7_2 h7_3 h7_4 h7_5)], 8⟩ =
  (br (decide ((x57 : Int) < x56)) (((FV.isSl 4 (Q4 4 x55) = true) ∧ ((0 ≤ x57) ∧ ((x57 < (length x55 : Int)) ∧ (((rE (getD x55 (toNat x57) [])) : List FV) = (getD x55 (toNat x57) []))))) ∧ (∃ z1 : Tm × Bool, ((Q43 94 (Q98 6 (aE (getD x55 (toNat x57) [])) (Q24 x3)) (Q150 6 1 2 0 0 h0_1 h0_2 4 h0_3 h0_4 h0_5 2 h1_0l 3 h1_1l h4 h5) (Q110 (cT z1.1) z1.2) (Q150 6 1 2 0 0 h0_1 h0_2 4 h0_3 h0_4 h0_5 2 h1_0l 3 h1_1l h4 h5)) ∧ (br z1.2 ((FV.isSl 4 (Q4 4 x9) = true) ∧ (∃ z2 : Tm, ((Q65 121 [Q24 (IntKind.wrap .i64 ((IntKind.wrap .i64 ((length x9 : Int) - (1 : Int))) - x57))] (aT z2)) ∧ ((1 ≤ 1) ∧ ((z0k 1 56) ∧ ((1 ≤ 1) ∧ ((z0k 1 56) ∧ (Q155 93 4 r Hs' [Q57 0 0 6, Q12 1 x1, Q12 3 x3, Q125 8 6, Q144 9 x9, Q57 12 7 6, Q156 14 8 1, Q156 15 9 1, Q144 55 x55, Q12 56 x56, Q12 57 (IntKind.wrap .i64 (x57 + 1))] [Q25 0 6 (Q63 1 2 0 0 h0_1 h0_2 4 h0_3 h0_4 h0_5), Q69 1 4 h1_0l 5 h1_1l, Q39 2, Q39 3, Q67 4 h4, Q46 5 h5, Q87 6 4 h6_0 h6_1 h6_2, Q25 7 6 (Q139 h7_0 h7_1 h7_2 h7_3 h7_4 h7_5), Q73 8 4 [(FT4 z2)], Q73 9 4 [(FT4 z1.1)]] 10)))))))) (Q155 93 4 r Hs' [Q57 0 0 6, Q12 1 x1, Q12 3 x3, Q125 8 6, Q144 9 x9, Q57 12 7 6, Q134 14, Q134 15, Q144 55 x55, Q12 56 x56, Q12 57 (IntKind.wrap .i64 (x57 + 1))] [Q25 0 6 (Q63 1 2 0 0 h0_1 h0_2 4 h0_3 h0_4 h0_5), Q69 1 4 h1_0l 5 h1_1l, Q39 2, Q39 3, Q67 4 h4, Q46 5 h5, Q87 6 4 h6_0 h6_1 h6_2, Q25 7 6 (Q139 h7_0 h7_1 h7_2 h7_3 h7_4 h7_5)] 8))))) ((FV.isSl 4 .nils = true) ∧ ((FV.isSl 4 (Q4 4 x9) = true) ∧ (br (((0 : Int) : Int) == (length x9 : Int)) (br (decide ((h7_0 : Int) ≤ h0_2)) (∃ z3 : Tm, ((Q65 122 [Q24 x1] (aT z3)) ∧ (∃ z4 : Tm, ((Q65 24 (Q121 (aT z3) Q26) (aT z4)) ∧ (RT (aT z4) (Q151 (Q89 6 1 2 0 0 h0_1 h0_2 4 h0_3 h0_4 h0_5) (Q37 4 h1_0l 5 h1_1l) h4 (Q19 h5)) r Hs'))))) ((FV.isSl 4 (Q4 4 h0_3) = true) ∧ (Q52 93 4 r Hs' 5 [Q57 0 0 6, Q12 1 x1, Q12 3 x3, Q125 8 6, Q144 9 x9, Q57 12 7 6, Q134 14, Q134 15, Q144 105 h0_3, Q12 106 (length h0_3 : Int), Q12 107 0] [Q25 0 6 (Q63 1 2 0 0 h0_1 h0_2 4 h0_3 h0_4 h0_5), Q69 1 4 h1_0l 5 h1_1l, Q39 2, Q39 3, Q67 4 h4, Q46 5 h5, Q87 6 4 h6_0 h6_1 h6_2, Q25 7 6 (Q139 h7_0 h7_1 h7_2 h7_3 h7_4 h7_5)] 8))) ((FV.isSl 4 (Q4 4 h0_3) = true) ∧ (Q52 93 4 r Hs' 5 [Q57 0 0 6, Q12 1 x1, Q12 3 x3, Q125 8 6, Q144 9 x9, Q57 12 7 6, Q134 14, Q134 15, Q144 105 h0_3, Q12 106 (length h0_3 : Int), Q12 107 0] [Q25 0 6 (Q63 1 2 0 0 h0_1 h0_2 4 h0_3 h0_4 h0_5), Q69 1 4 h1_0l 5 h1_1l, Q39 2, Q39 3, Q67 4 h4, Q46 5 h5, Q87 6 4 h6_0 h6_1 h6_2, Q25 7 6 (Q139 h7_0 h7_1 h7_2 h7_3 h7_4 h7_5)] 8)))))) := by kernel_rfl
theorem v93_1b (x1 x3 : Int) (x9 : RW) (x14l x15l : Nat) (x55 : RW) (x56 x57 h0_1 h0_2 : Int) (h0_3 : RW) (h0_4 h0_5 : Int) (h1_0l h1_1l : Nat) (h4 h5 : RW) (h6_0 : Int) (h6_1 : List UInt8) (h6_2 h7_0 : Int) (h7_1 : Bool) (h7_2 : Int) (h7_3 : List UInt8) (h7_4 : Int) (h7_5 h8 h9 : RW) (r : TV) (Hs' : List AObj) : VQ lv93 93 4 r Hs' 1 ⟨[Q57 0 0 6, Q12 1 x1, Q12 3 x3, Q125 8 6, Q144 9 x9, Q57 12 7 6, Q156 14 8 x14l, Q156 15 9 x15l, Q144 55 x55, Q12 56 x56, Q12 57 x57], [Q25 0 6 (Q63 1 2 0 0 h0_1 h0_2 4 h0_3 h0_4 h0_5), Q69 1 4 h1_0l 5 h1_1l, Q39 2, Q39 3, Q67 4 h4, Q46 5 h5, Q87 6 4 h6_0 h6_1 h6_2, Q25 7 6 (Q139 h7_0 h7_1 h7_2 h7_3 h7_4 h7_5), Q73 8 4 h8, Q73 9 4 h9], 10⟩ =
  (br (decide ((x57 : Int) < x56)) (((FV.isSl 4 (Q4 4 x55) = true) ∧ ((0 ≤ x57) ∧ ((x57 < (length x55 : Int)) ∧ (((rE (getD x55 (toNat x57) [])) : List FV) = (getD x55 (toNat x57) []))))) ∧ (∃ z1 : Tm × Bool, ((Q43 94 (Q98 6 (aE (getD x55 (toNat x57) [])) (Q24 x3)) (Q150 6 1 2 0 0 h0_1 h0_2 4 h0_3 h0_4 h0_5 2 h1_0l 3 h1_1l h4 h5) (Q110 (cT z1.1) z1.2) (Q150 6 1 2 0 0 h0_1 h0_2 4 h0_3 h0_4 h0_5 2 h1_0l 3 h1_1l h4 h5)) ∧ (br z1.2 ((FV.isSl 4 (Q4 4 x9) = true) ∧ (∃ z2 : Tm, ((Q65 121 [Q24 (IntKind.wrap .i64 ((IntKind.wrap .i64 ((length x9 : Int) - (1 : Int))) - x57))] (aT z2)) ∧ ((1 ≤ 1) ∧ ((x14l ≤ (length h8) ∧ z0k (x14l + 1) 56) ∧ ((1 ≤ 1) ∧ ((x15l ≤ (length h9) ∧ z0k (x15l + 1) 56) ∧ (Q155 93 4 r Hs' [Q57 0 0 6, Q12 1 x1, Q12 3 x3, Q125 8 6, Q144 9 x9, Q57 12 7 6, Q156 14 8 (x14l + 1), Q156 15 9 (x15l + 1), Q144 55 x55, Q12 56 x56, Q12 57 (IntKind.wrap .i64 (x57 + 1))] [Q25 0 6 (Q63 1 2 0 0 h0_1 h0_2 4 h0_3 h0_4 h0_5), Q69 1 4 h1_0l 5 h1_1l, Q39 2, Q39 3, Q67 4 h4, Q46 5 h5, Q87 6 4 h6_0 h6_1 h6_2, Q25 7 6 (Q139 h7_0 h7_1 h7_2 h7_3 h7_4 h7_5), Q73 8 4 ((take x14l h8) ++ [(FT4 z2)]), Q73 9 4 ((take x15l h9) ++ [(FT4 z1.1)])] 10)))))))) (Q155 93 4 r Hs' [Q57 0 0 6, Q12 1 x1, Q12 3 x3, Q125 8 6, Q144 9 x9, Q57 12 7 6, Q156 14 8 x14l, Q156 15 9 x15l, Q144 55 x55, Q12 56 x56, Q12 57 (IntKind.wrap .i64 (x57 + 1))] [Q25 0 6 (Q63 1 2 0 0 h0_1 h0_2 4 h0_3 h0_4 h0_5), Q69 1 4 h1_0l 5 h1_1l, Q39 2, Q39 3, Q67 4 h4, Q46 5 h5, Q87 6 4 h6_0 h6_1 h6_2, Q25 7 6 (Q139 h7_0 h7_1 h7_2 h7_3 h7_4 h7_5), Q73 8 4 h8, Q73 9 4 h9] 10))))) ((FV.isSl 4 (Q4 4 x9) = true) ∧ (br (((x14l : Int) : Int) == (length x9 : Int)) (br (decide ((h7_0 : Int) ≤ h0_2)) (∃ z3 : Tm, ((Q65 122 [Q24 x1] (aT z3)) ∧ (((4 : Nat) = 4 ∧ (0 + x15l) ≤ (length h9)) ∧ (∃ z4 : Tm, ((Q65 24 [(aT z3), Q153 (take x15l (drop 0 h9))] (aT z4)) ∧ (RT (aT z4) (Q151 (Q89 6 1 2 0 0 h0_1 h0_2 4 h0_3 h0_4 h0_5) (Q37 4 h1_0l 5 h1_1l) h4 (Q19 h5)) r Hs')))))) ((FV.isSl 4 (Q4 4 h0_3) = true) ∧ (Q52 93 4 r Hs' 5 [Q57 0 0 6, Q12 1 x1, Q12 3 x3, Q125 8 6, Q144 9 x9, Q57 12 7 6, Q156 14 8 x14l, Q156 15 9 x15l, Q144 105 h0_3, Q12 106 (length h0_3 : Int), Q12 107 0] [Q25 0 6 (Q63 1 2 0 0 h0_1 h0_2 4 h0_3 h0_4 h0_5), Q69 1 4 h1_0l 5 h1_1l, Q39 2, Q39 3, Q67 4 h4, Q46 5 h5, Q87 6 4 h6_0 h6_1 h6_2, Q25 7 6 (Q139 h7_0 h7_1 h7_2 h7_3 h7_4 h7_5), Q73 8 4 h8, Q73 9 4 h9] 10))) ((FV.isSl 4 (Q4 4 h0_3) = true) ∧ (Q52 93 4 r Hs' 5 [Q57 0 0 6, Q12 1 x1, Q12 3 x3, Q125 8 6, Q144 9 x9, Q57 12 7 6, Q156 14 8 x14l, Q156 15 9 x15l, Q144 105 h0_3, Q12 106 (length h0_3 : Int), Q12 107 0] [Q25 0 6 (Q63 1 2 0 0 h0_1 h0_2 4 h0_3 h0_4 h0_5), Q69 1 4 h1_0l 5 h1_1l, Q39 2, Q39 3, Q67 4 h4, Q46 5 h5, Q87 6 4 h6_0 h6_1 h6_2, Q25 7 6 (Q139 h7_0 h7_1 h7_2 h7_3 h7_4 h7_5), Q73 8 4 h8, Q73 9 4 h9] 10))))) := by kernel_rfl
theorem v93_5a (x1 x3 : Int) (x9 x105 : RW) (x106 x107 h0_1 h0_2 : Int) (h0_3 : RW) (h0_4 h0_5 : Int) (h1_0l h1_1l : Nat) (h4 h5 : RW) (h6_0 : Int) (h6_1 : List UInt8) (h6_2 h7_0 : Int) (h7_1 : Bool) (h7_2 : Int) (h7_3 : List UInt8) (h7_4 : Int) (h7_5 : RW) (r : TV) (Hs' : List AObj) : VQ lv93 93 4 r Hs' 5 ⟨[Q57 0 0 6, Q12 1 x1, Q12 3 x3, Q125 8 6, Q144 9 x9, Q57 12 7 6, Q134 14, Q134 15, Q144 105 x105, Q12 106 x106, Q12 107 x107], [Q25 0 6 (Q63 1 2 0 0 h0_1 h0_2 4 h0_3 h0_4 h0_5), Q69 1 4 h1_0l 5 h1_1l, Q39 2, Q39 3, Q67 4 h4, Q46 5 h5, Q87 6 4 h6_0 h6_1 h6_2, Q25 7 6 (Q139 h7_0 h7_1 h7_2 h7_3 h7_4 h7_5)], 8⟩ =
  (br (decide ((x107 : Int) < x106)) (((FV.isSl 4 (Q4 4 x105) = true) ∧ ((0 ≤ x107) ∧ ((x107 < (length x105 : Int)) ∧ (((rE (getD x105 (toNat x107) [])) : List FV) = (getD x105 (toNat x107) []))))) ∧ (br (decide ((h7_0 : Int) > h0_2)) (br (((FV.asI (getD (getD x105 (toNat x107) []) 0 FV.nils)) : Int) == (1 : Int)) (br (decide (((FV.asI (getD (getD x105 (toNat x107) []) 2 FV.nils)) : Int) ≤ h7_0)) ((1 ≤ 1) ∧ ((z0k 1 56) ∧ ((FV.isSl 4 (Q4 4 h0_3) = true) ∧ (∃ z1 : Tm, ((Q65 121 [Q24 (IntKind.wrap .i64 ((IntKind.wrap .i64 ((IntKind.wrap .i64 (x3 + (length h0_3 : Int))) - (1 : Int))) - x107))] (aT z1)) ∧ ((1 ≤ 1) ∧ ((z0k 1 56) ∧ (Q52 93 4 r Hs' 5 [Q57 0 0 6, Q12 1 x1, Q12 3 x3, Q125 8 6, Q144 9 x9, Q57 12 7 6, Q156 14 8 1, Q156 15 9 1, Q144 105 x105, Q12 106 x106, Q12 107 (IntKind.wrap .i64 (x107 + 1))] [Q25 0 6 (Q63 1 2 0 0 h0_1 h0_2 4 h0_3 h0_4 h0_5), Q69 1 4 h1_0l 5 h1_1l, Q39 2, Q39 3, Q67 4 h4, Q46 5 h5, Q87 6 4 h6_0 h6_1 h6_2, Q25 7 6 (Q139 h7_0 h7_1 h7_2 h7_3 h7_4 h7_5), Q73 8 4 [(rE (getD x105 (toNat x107) []))], Q73 9 4 [(FT4 z1)]] 10)))))))) (Q52 93 4 r Hs' 5 [Q57 0 0 6, Q12 1 x1, Q12 3 x3, Q125 8 6, Q144 9 x9, Q57 12 7 6, Q134 14, Q134 15, Q144 105 x105, Q12 106 x106, Q12 107 (IntKind.wrap .i64 (x107 + 1))] [Q25 0 6 (Q63 1 2 0 0 h0_1 h0_2 4 h0_3 h0_4 h0_5), Q69 1 4 h1_0l 5 h1_1l, Q39 2, Q39 3, Q67 4 h4, Q46 5 h5, Q87 6 4 h6_0 h6_1 h6_2, Q25 7 6 (Q139 h7_0 h7_1 h7_2 h7_3 h7_4 h7_5)] 8)) (Q52 93 4 r Hs' 5 [Q57 0 0 6, Q12 1 x1, Q12 3 x3, Q125 8 6, Q144 9 x9, Q57 12 7 6, Q134 14, Q134 15, Q144 105 x105, Q12 106 x106, Q12 107 (IntKind.wrap .i64 (x107 + 1))] [Q25 0 6 (Q63 1 2 0 0 h0_1 h0_2 4 h0_3 h0_4 h0_5), Q69 1 4 h1_0l 5 h1_1l, Q39 2, Q39 3, Q67 4 h4, Q46 5 h5, Q87 6 4 h6_0 h6_1 h6_2, Q25 7 6 (Q139 h7_0 h7_1 h7_2 h7_3 h7_4 h7_5)] 8)) (Q52 93 4 r Hs' 5 [Q57 0 0 6, Q12 1 x1, Q12 3 x3, Q125 8 6, Q144 9 x9, Q57 12 7 6, Q134 14, Q134 15, Q144 105 x105, Q12 106 x106, Q12 107 (IntKind.wrap .i64 (x107 + 1))] [Q25 0 6 (Q63 1 2 0 0 h0_1 h0_2 4 h0_3 h0_4 h0_5), Q69 1 4 h1_0l 5 h1_1l, Q39 2, Q39 3, Q67 4 h4, Q46 5 h5, Q87 6 4 h6_0 h6_1 h6_2, Q25 7 6 (Q139 h7_0 h7_1 h7_2 h7_3 h7_4 h7_5)] 8))) ((FV.isSl 4 (Q4 4 x9) = true) ∧ (∃ z2 : Tm × Sto, ((Q10 123 [Q88 2, Q24 x1, Q24 (z0j [h0_2, h7_0]), Q24 (length x9 : Int), .c Q26] (Q127 h1_0l h1_1l h4 h5) (aT z2.1) (Q113 3 (length z2.2.V) 4 (length z2.2.T) (SR z2.2.V) (IR z2.2.T))) ∧ (∃ z3 : Tm, ((Q65 24 (Q121 (aT z2.1) Q26) (aT z3)) ∧ (RT (aT z3) (Q151 (Q89 6 1 2 0 0 h0_1 h0_2 4 h0_3 h0_4 h0_5) (Q37 4 (length z2.2.V) 5 (length z2.2.T)) (SR z2.2.V) (Q19 (IR z2.2.T))) r Hs'))))))) := by kernel_rfl
theorem v93_5b (x1 x3 : Int) (x9 : RW) (x14l x15l : Nat) (x105 : RW) (x106 x107 h0_1 h0_2 : Int) (h0_3 : RW) (h0_4 h0_5 : Int) (h1_0l h1_1l : Nat) (h4 h5 : RW) (h6_0 : Int) (h6_1 : List UInt8) (h6_2 h7_0 : Int) (h7_1 : Bool) (h7_2 : Int) (h7_3 : List UInt8) (h7_4 : Int) (h7_5 h8 h9 : RW) (r : TV) (Hs' : List AObj) : VQ lv93 93 4 r Hs' 5 ⟨[Q57 0 0 6, Q12 1 x1, Q12 3 x3, Q125 8 6, Q144 9 x9, Q57 12 7 6, Q156 14 8 x14l, Q156 15 9 x15l, Q144 105 x105, Q12 106 x106, Q12 107 x107], [Q25 0 6 (Q63 1 2 0 0 h0_1 h0_2 4 h0_3 h0_4 h0_5), Q69 1 4 h1_0l 5 h1_1l, Q39 2, Q39 3, Q67 4 h4, Q46 5 h5, Q87 6 4 h6_0 h6_1 h6_2, Q25 7 6 (Q139 h7_0 h7_1 h7_2 h7_3 h7_4 h7_5), Q73 8 4 h8, Q73 9 4 h9], 10⟩ =
  (br (decide ((x107 : Int) < x106)) (((FV.isSl 4 (Q4 4 x105) = true) ∧ ((0 ≤ x107) ∧ ((x107 < (length x105 : Int)) ∧ (((rE (getD x105 (toNat x107) [])) : List FV) = (getD x105 (toNat x107) []))))) ∧ (br (decide ((h7_0 : Int) > h0_2)) (br (((FV.asI (getD (getD x105 (toNat x107) []) 0 FV.nils)) : Int) == (1 : Int)) (br (decide (((FV.asI (getD (getD x105 (toNat x107) []) 2 FV.nils)) : Int) ≤ h7_0)) ((1 ≤ 1) ∧ ((x14l ≤ (length h8) ∧ z0k (x14l + 1) 56) ∧ ((FV.isSl 4 (Q4 4 h0_3) = true) ∧ (∃ z1 : Tm, ((Q65 121 [Q24 (IntKind.wrap .i64 ((IntKind.wrap .i64 ((IntKind.wrap .i64 (x3 + (length h0_3 : Int))) - (1 : Int))) - x107))] (aT z1)) ∧ ((1 ≤ 1) ∧ ((x15l ≤ (length h9) ∧ z0k (x15l + 1) 56) ∧ (Q52 93 4 r Hs' 5 [Q57 0 0 6, Q12 1 x1, Q12 3 x3, Q125 8 6, Q144 9 x9, Q57 12 7 6, Q156 14 8 (x14l + 1), Q156 15 9 (x15l + 1), Q144 105 x105, Q12 106 x106, Q12 107 (IntKind.wrap .i64 (x107 + 1))] [Q25 0 6 (Q63 1 2 0 0 h0_1 h0_2 4 h0_3 h0_4 h0_5), Q69 1 4 h1_0l 5 h1_1l, Q39 2, Q39 3, Q67 4 h4, Q46 5 h5, Q87 6 4 h6_0 h6_1 h6_2, Q25 7 6 (Q139 h7_0 h7_1 h7_2 h7_3 h7_4 h7_5), Q73 8 4 ((take x14l h8) ++ [(rE (getD x105 (toNat x107) []))]), Q73 9 4 ((take x15l h9) ++ [(FT4 z1)])] 10)))))))) (Q52 93 4 r Hs' 5 [Q57 0 0 6, Q12 1 x1, Q12 3 x3, Q125 8 6, Q144 9 x9, Q57 12 7 6, Q156 14 8 x14l, Q156 15 9 x15l, Q144 105 x105, Q12 106 x106, Q12 107 (IntKind.wrap .i64 (x107 + 1))] [Q25 0 6 (Q63 1 2 0 0 h0_1 h0_2 4 h0_3 h0_4 h0_5), Q69 1 4 h1_0l 5 h1_1l, Q39 2, Q39 3, Q67 4 h4, Q46 5 h5, Q87 6 4 h6_0 h6_1 h6_2, Q25 7 6 (Q139 h7_0 h7_1 h7_2 h7_3 h7_4 h7_5), Q73 8 4 h8, Q73 9 4 h9] 10)) (Q52 93 4 r Hs' 5 [Q57 0 0 6, Q12 1 x1, Q12 3 x3, Q125 8 6, Q144 9 x9, Q57 12 7 6, Q156 14 8 x14l, Q156 15 9 x15l, Q144 105 x105, Q12 106 x106, Q12 107 (IntKind.wrap .i64 (x107 + 1))] [Q25 0 6 (Q63 1 2 0 0 h0_1 h0_2 4 h0_3 h0_4 h0_5), Q69 1 4 h1_0l 5 h1_1l, Q39 2, Q39 3, Q67 4 h4, Q46 5 h5, Q87 6 4 h6_0 h6_1 h6_2, Q25 7 6 (Q139 h7_0 h7_1 h7_2 h7_3 h7_4 h7_5), Q73 8 4 h8, Q73 9 4 h9] 10)) (Q52 93 4 r Hs' 5 [Q57 0 0 6, Q12 1 x1, Q12 3 x3, Q125 8 6, Q144 9 x9, Q57 12 7 6, Q156 14 8 x14l, Q156 15 9 x15l, Q144 105 x105, Q12 106 x106, Q12 107 (IntKind.wrap .i64 (x107 + 1))] [Q25 0 6 (Q63 1 2 0 0 h0_1 h0_2 4 h0_3 h0_4 h0_5), Q69 1 4 h1_0l 5 h1_1l, Q39 2, Q39 3, Q67 4 h4, Q46 5 h5, Q87 6 4 h6_0 h6_1 h6_2, Q25 7 6 (Q139 h7_0 h7_1 h7_2 h7_3 h7_4 h7_5), Q73 8 4 h8, Q73 9 4 h9] 10))) ((FV.isSl 4 (Q4 4 x9) = true) ∧ (((4 : Nat) = 4 ∧ (0 + x14l) ≤ (length h8)) ∧ (∃ z2 : Tm × Sto, ((Q10 123 [Q88 2, Q24 x1, Q24 (z0j [h0_2, h7_0]), Q24 (length x9 : Int), Q153 (take x14l (drop 0 h8))] (Q127 h1_0l h1_1l h4 h5) (aT z2.1) (Q113 3 (length z2.2.V) 4 (length z2.2.T) (SR z2.2.V) (IR z2.2.T))) ∧ (((4 : Nat) = 4 ∧ (0 + x15l) ≤ (length h9)) ∧ (∃ z3 : Tm, ((Q65 24 [(aT z2.1), Q153 (take x15l (drop 0 h9))] (aT z3)) ∧ (RT (aT z3) (Q151 (Q89 6 1 2 0 0 h0_1 h0_2 4 h0_3 h0_4 h0_5) (Q37 4 (length z2.2.V) 5 (length z2.2.T)) (SR z2.2.V) (Q19 (IR z2.2.T))) r Hs'))))))))) := by kernel_rfl
def lv94 : List (Nat × List Nat) := []
theorem v94 (t_0 : Int) (t_1 : List UInt8) (t_2 : Int) (t_3 : RW) (k o0_1 o0_2 : Int) (o0_3 : RW) (o0_4 o0_5 : Int) (o1_0l o1_1l : Nat) (o2 o3 : RW) (r : TV) (Hs' : List AObj) : VE lv94 94 4 r Hs' (Q98 6 (Q83 t_0 t_1 t_2 t_3) (Q24 k)) (Q150 6 1 2 0 0 o0_1 o0_2 4 o0_3 o0_4 o0_5 2 o1_0l 3 o1_1l o2 o3) =
  (br ((t_0 : Int) == (3 : Int)) (br (decide ((t_2 : Int) < k)) (Q47 (Q110 (Q22 t_0 t_1 t_2 4 t_3) true) (Q150 6 1 2 0 0 o0_1 o0_2 4 o0_3 o0_4 o0_5 2 o1_0l 3 o1_1l o2 o3) r Hs') (br ((t_0 : Int) == (3 : Int)) (∃ z1 : Int, ((Q10 83 (Q154 o0_3 (.fn (.func 124) [] [(false, [(Q81 0 4)])])) (Q128 4 (Q22 t_0 t_1 (IntKind.wrap .i64 (t_2 - k)) 4 t_3)) (Q24 z1) (Q128 4 (Q22 t_0 t_1 (IntKind.wrap .i64 (t_2 - k)) 4 t_3))) ∧ (br (decide ((z1 : Int) ≥ (0 : Int))) ((FV.isSl 4 (Q4 4 o0_3) = true) ∧ (∃ z2 : Tm, ((Q65 121 [Q24 (IntKind.wrap .i64 ((IntKind.wrap .i64 ((IntKind.wrap .i64 (k + (length o0_3 : Int))) - (1 : Int))) - z1))] (aT z2)) ∧ (Q47 (Q110 (cT z2) true) (Q150 6 1 2 0 0 o0_1 o0_2 4 o0_3 o0_4 o0_5 2 o1_0l 3 o1_1l o2 o3) r Hs')))) (br ((t_0 : Int) == (1 : Int)) (Q47 (Q110 (Q22 t_0 t_1 t_2 4 t_3) (decide ((t_2 : Int) ≤ o0_2))) (Q150 6 1 2 0 0 o0_1 o0_2 4 o0_3 o0_4 o0_5 2 o1_0l 3 o1_1l o2 o3) r Hs') (Q47 (Q110 (Q22 t_0 t_1 t_2 4 t_3) false) (Q150 6 1 2 0 0 o0_1 o0_2 4 o0_3 o0_4 o0_5 2 o1_0l 3 o1_1l o2 o3) r Hs'))))) (∃ z3 : Int, ((Q10 83 (Q154 o0_3 (.fn (.func 124) [] [(false, [(Q81 0 4)])])) (Q128 4 (Q22 t_0 t_1 t_2 4 t_3)) (Q24 z3) (Q128 4 (Q22 t_0 t_1 t_2 4 t_3))) ∧ (br (decide ((z3 : Int) ≥ (0 : Int))) ((FV.isSl 4 (Q4 4 o0_3) = true) ∧ (∃ z4 : Tm, ((Q65 121 [Q24 (IntKind.wrap .i64 ((IntKind.wrap .i64 ((IntKind.wrap .i64 (k + (length o0_3 : Int))) - (1 : Int))) - z3))] (aT z4)) ∧ (Q47 (Q110 (cT z4) true) (Q150 6 1 2 0 0 o0_1 o0_2 4 o0_3 o0_4 o0_5 2 o1_0l 3 o1_1l o2 o3) r Hs')))) (br ((t_0 : Int) == (1 : Int)) (Q47 (Q110 (Q22 t_0 t_1 t_2 4 t_3) (decide ((t_2 : Int) ≤ o0_2))) (Q150 6 1 2 0 0 o0_1 o0_2 4 o0_3 o0_4 o0_5 2 o1_0l 3 o1_1l o2 o3) r Hs') (Q47 (Q110 (Q22 t_0 t_1 t_2 4 t_3) false) (Q150 6 1 2 0 0 o0_1 o0_2 4 o0_3 o0_4 o0_5 2 o1_0l 3 o1_1l o2 o3) r Hs'))))))) (br ((t_0 : Int) == (3 : Int)) (∃ z5 : Int, ((Q10 83 (Q154 o0_3 (.fn (.func 124) [] [(false, [(Q81 0 4)])])) (Q128 4 (Q22 t_0 t_1 (IntKind.wrap .i64 (t_2 - k)) 4 t_3)) (Q24 z5) (Q128 4 (Q22 t_0 t_1 (IntKind.wrap .i64 (t_2 - k)) 4 t_3))) ∧ (br (decide ((z5 : Int) ≥ (0 : Int))) ((FV.isSl 4 (Q4 4 o0_3) = true) ∧ (∃ z6 : Tm, ((Q65 121 [Q24 (IntKind.wrap .i64 ((IntKind.wrap .i64 ((IntKind.wrap .i64 (k + (length o0_3 : Int))) - (1 : Int))) - z5))] (aT z6)) ∧ (Q47 (Q110 (cT z6) true) (Q150 6 1 2 0 0 o0_1 o0_2 4 o0_3 o0_4 o0_5 2 o1_0l 3 o1_1l o2 o3) r Hs')))) (br ((t_0 : Int) == (1 : Int)) (Q47 (Q110 (Q22 t_0 t_1 t_2 4 t_3) (decide ((t_2 : Int) ≤ o0_2))) (Q150 6 1 2 0 0 o0_1 o0_2 4 o0_3 o0_4 o0_5 2 o1_0l 3 o1_1l o2 o3) r Hs') (Q47 (Q110 (Q22 t_0 t_1 t_2 4 t_3) false) (Q150 6 1 2 0 0 o0_1 o0_2 4 o0_3 o0_4 o0_5 2 o1_0l 3 o1_1l o2 o3) r Hs'))))) (∃ z7 : Int, ((Q10 83 (Q154 o0_3 (.fn (.func 124) [] [(false, [(Q81 0 4)])])) (Q128 4 (Q22 t_0 t_1 t_2 4 t_3)) (Q24 z7) (Q128 4 (Q22 t_0 t_1 t_2 4 t_3))) ∧ (br (decide ((z7 : Int) ≥ (0 : Int))) ((FV.isSl 4 (Q4 4 o0_3) = true) ∧ (∃ z8 : Tm, ((Q65 121 [Q24 (IntKind.wrap .i64 ((IntKind.wrap .i64 ((IntKind.wrap .i64 (k + (length o0_3 : Int))) - (1 : Int))) - z7))] (aT z8)) ∧ (Q47 (Q110 (cT z8) true) (Q150 6 1 2 0 0 o0_1 o0_2 4 o0_3 o0_4 o0_5 2 o1_0l 3 o1_1l o2 o3) r Hs')))) (br ((t_0 : Int) == (1 : Int)) (Q47 (Q110 (Q22 t_0 t_1 t_2 4 t_3) (decide ((t_2 : Int) ≤ o0_2))) (Q150 6 1 2 0 0 o0_1 o0_2 4 o0_3 o0_4 o0_5 2 o1_0l 3 o1_1l o2 o3) r Hs') (Q47 (Q110 (Q22 t_0 t_1 t_2 4 t_3) false) (Q150 6 1 2 0 0 o0_1 o0_2 4 o0_3 o0_4 o0_5 2 o1_0l 3 o1_1l o2 o3) r Hs'))))))) := by kernel_rfl
theorem zpj (t_0 : Int) (t_1 : List UInt8) (t_2 : Int) (t_3 : RW) (k o0_0 o1_0 : Int) (o1_1 : List UInt8) (o1_2 : Int) (o1_3 : RW) (r : TV) (Hs' : List AObj) : VE z71 151 2 r Hs' [.agg [(.fn (.func 176) [] [(false, [Q112]), (false, [(Q81 1 4)])])], Q83 t_0 t_1 t_2 t_3, Q24 k] (Q111 o0_0 (Q6 4 (Q22 o1_0 o1_1 o1_2 4 o1_3))) =
  (br ((t_0 : Int) != (5 : Int)) (br ((t_0 : Int) != (6 : Int)) (∃ z1 : Tm, ((Q10 176 [Q83 t_0 t_1 t_2 t_3, Q24 k, Q88 1, Q85 1 4] (Q111 o0_0 (Q6 4 (Q22 o1_0 o1_1 o1_2 4 o1_3))) (aT z1) (Q111 o0_0 (Q6 4 (Q22 o1_0 o1_1 o1_2 4 o1_3)))) ∧ (RT (aT z1) (Q111 o0_0 (Q6 4 (Q22 o1_0 o1_1 o1_2 4 o1_3))) r Hs'))) (∃ y2 : FV, (∃ n3 : Int, ((Q43 88 [Q83 t_0 t_1 t_2 t_3] [] [Q20 [Q0 y2], Q31 n3] []) ∧ ((FV.isSl 4 y2 = true) ∧ (Q155 151 2 r Hs' [Q12 2 k, Q57 3 2 1, Q125 4 3, Q125 6 4, Q90 7 y2, Q12 8 n3, Q134 9, Q90 30 y2, Q12 31 (length (FV.ses y2) : Int), Q12 32 0] [Q106 0 1 o0_0, Q95 1 4 o1_0 o1_1 o1_2 4 o1_3, Q25 2 1 [(.fn (.func 176) [] [(false, [Q112]), (false, [(Q81 1 4)])])], Q95 3 4 t_0 t_1 t_2 4 t_3, Q87 4 4 0 [] 0] 5)))))) (∃ y4 : FV, (∃ n5 : Int, ((Q43 88 [Q83 t_0 t_1 t_2 t_3] [] [Q20 [Q0 y4], Q31 n5] []) ∧ ((FV.isSl 4 y4 = true) ∧ (Q155 151 2 r Hs' [Q12 2 k, Q57 3 2 1, Q125 4 3, Q125 6 4, Q90 7 y4, Q12 8 n5, Q134 9, Q90 30 y4, Q12 31 (length (FV.ses y4) : Int), Q12 32 0] [Q106 0 1 o0_0, Q95 1 4 o1_0 o1_1 o1_2 4 o1_3, Q25 2 1 [(.fn (.func 176) [] [(false, [Q112]), (false, [(Q81 1 4)])])], Q95 3 4 t_0 t_1 t_2 4 t_3, Q87 4 4 0 [] 0] 5)))))) := by kernel_rfl
theorem za (x2 : Int) (x7 : FV) (x8 : Int) (x30 : FV) (x31 x32 h0_0 h1_0 : Int) (h1_1 : List UInt8) (h1_2 : Int) (h1_3 : RW) (h3_0 : Int) (h3_1 : List UInt8) (h3_2 : Int) (h3_3 : RW) (h4_0 : Int) (h4_1 : List UInt8) (h4_2 : Int) (r : TV) (Hs' : List AObj) : VQ z71 151 2 r Hs' 1 ⟨[Q12 2 x2, Q57 3 2 1, Q125 4 3, Q125 6 4, Q90 7 x7, Q12 8 x8, Q134 9, Q90 30 x30, Q12 31 x31, Q12 32 x32], [Q106 0 1 h0_0, Q95 1 4 h1_0 h1_1 h1_2 4 h1_3, Q25 2 1 [(.fn (.func 176) [] [(false, [Q112]), (false, [(Q81 1 4)])])], Q95 3 4 h3_0 h3_1 h3_2 4 h3_3, Q87 4 4 h4_0 h4_1 h4_2], 5⟩ =
  (br (decide ((x32 : Int) < x31)) (((FV.isSl 4 x30 = true) ∧ ((0 ≤ x32) ∧ ((x32 < (length (FV.ses x30) : Int)) ∧ (((rE (getD (FV.ses x30) (toNat x32) [])) : List FV) = (getD (FV.ses x30) (toNat x32) []))))) ∧ (∃ z1 : Tm, ((Q10 151 [.agg [(.fn (.func 176) [] [(false, [Q112]), (false, [(Q81 1 4)])])], (aE (getD (FV.ses x30) (toNat x32) [])), Q24 (IntKind.wrap .i64 (x2 + x8))] (Q111 h0_0 (Q6 4 (Q22 h1_0 h1_1 h1_2 4 h1_3))) (aT z1) (Q111 h0_0 (Q6 4 (Q22 h1_0 h1_1 h1_2 4 h1_3)))) ∧ ((1 ≤ 1) ∧ ((z0k 1 56) ∧ (Q155 151 2 r Hs' [Q12 2 x2, Q57 3 2 1, Q125 4 3, Q125 6 4, Q90 7 x7, Q12 8 x8, Q156 9 5 1, Q90 30 x30, Q12 31 x31, Q12 32 (IntKind.wrap .i64 (x32 + 1))] [Q106 0 1 h0_0, Q95 1 4 h1_0 h1_1 h1_2 4 h1_3, Q25 2 1 [(.fn (.func 176) [] [(false, [Q112]), (false, [(Q81 1 4)])])], Q95 3 4 h3_0 h3_1 h3_2 4 h3_3, Q87 4 4 h4_0 h4_1 h4_2, Q73 5 4 [(FT4 z1)]] 6)))))) (br ((h3_0 : Int) == (6 : Int)) ((FV.isSl 4 .nils = true) ∧ (RT (.agg (Q49 h3_0 h3_1 h3_2)) (Q111 h0_0 (Q6 4 (Q22 h1_0 h1_1 h1_2 4 h1_3))) r Hs')) (RT (.agg (Q49 h3_0 h3_1 h3_2)) (Q111 h0_0 (Q6 4 (Q22 h1_0 h1_1 h1_2 4 h1_3))) r Hs'))) := by kernel_rfl
theorem za3 (x2 : Int) (x7 : FV) (x8 : Int) (x9l : Nat) (x30 : FV) (x31 x32 h0_0 h1_0 : Int) (h1_1 : List UInt8) (h1_2 : Int) (h1_3 : RW) (h3_0 : Int) (h3_1 : List UInt8) (h3_2 : Int) (h3_3 : RW) (h4_0 : Int) (h4_1 : List UInt8) (h4_2 : Int) (h5 : RW) (r : TV) (Hs' : List AObj) : VQ z71 151 2 r Hs' 1 ⟨[Q12 2 x2, Q57 3 2 1, Q125 4 3, Q125 6 4, Q90 7 x7, Q12 8 x8, Q156 9 5 x9l, Q90 30 x30, Q12 31 x31, Q12 32 x32], [Q106 0 1 h0_0, Q95 1 4 h1_0 h1_1 h1_2 4 h1_3, Q25 2 1 [(.fn (.func 176) [] [(false, [Q112]), (false, [(Q81 1 4)])])], Q95 3 4 h3_0 h3_1 h3_2 4 h3_3, Q87 4 4 h4_0 h4_1 h4_2, Q73 5 4 h5], 6⟩ =
  (br (decide ((x32 : Int) < x31)) (((FV.isSl 4 x30 = true) ∧ ((0 ≤ x32) ∧ ((x32 < (length (FV.ses x30) : Int)) ∧ (((rE (getD (FV.ses x30) (toNat x32) [])) : List FV) = (getD (FV.ses x30) (toNat x32) []))))) ∧ (∃ z1 : Tm, ((Q10 151 [.agg [(.fn (.func 176) [] [(false, [Q112]), (false, [(Q81 1 4)])])], (aE (getD (FV.ses x30) (toNat x32) [])), Q24 (IntKind.wrap .i64 (x2 + x8))] (Q111 h0_0 (Q6 4 (Q22 h1_0 h1_1 h1_2 4 h1_3))) (aT z1) (Q111 h0_0 (Q6 4 (Q22 h1_0 h1_1 h1_2 4 h1_3)))) ∧ ((1 ≤ 1) ∧ ((x9l ≤ (length h5) ∧ z0k (x9l + 1) 56) ∧ (Q155 151 2 r Hs' [Q12 2 x2, Q57 3 2 1, Q125 4 3, Q125 6 4, Q90 7 x7, Q12 8 x8, Q156 9 5 (x9l + 1), Q90 30 x30, Q12 31 x31, Q12 32 (IntKind.wrap .i64 (x32 + 1))] [Q106 0 1 h0_0, Q95 1 4 h1_0 h1_1 h1_2 4 h1_3, Q25 2 1 [(.fn (.func 176) [] [(false, [Q112]), (false, [(Q81 1 4)])])], Q95 3 4 h3_0 h3_1 h3_2 4 h3_3, Q87 4 4 h4_0 h4_1 h4_2, Q73 5 4 ((take x9l h5) ++ [(FT4 z1)])] 6)))))) (br ((h3_0 : Int) == (6 : Int)) (br (decide (((x9l : Int) : Int) > (1 : Int))) ((0 ≤ (0 : Int) ∧ (0 : Int) < (x9l : Int)) ∧ (((0 < (length h5)) ∧ ((([(Q1 (FV.asI (getD (getD h5 0 []) 0 FV.nils)))] : List FV) = (take 1 (drop 0 (getD h5 0 [])))) ∧ ((1 : Nat) = 1))) ∧ (br (((FV.asI (getD (getD h5 0 []) 0 FV.nils)) : Int) == (6 : Int)) (((FV.isSl 4 x7 = true) ∧ ((0 ≤ (0 : Int)) ∧ (((0 : Int) < (length (FV.ses x7) : Int)) ∧ (((rE (getD (FV.ses x7) 0 [])) : List FV) = (getD (FV.ses x7) 0 []))))) ∧ (br (((FV.asI (getD (getD (FV.ses x7) 0 []) 0 FV.nils)) : Int) != (6 : Int)) ((0 ≤ (0 : Int) ∧ (0 : Int) < (x9l : Int)) ∧ (((0 < (length h5)) ∧ ((((rE (getD h5 0 [])) : List FV) = (take 4 (drop 0 (getD h5 0 [])))) ∧ ((4 : Nat) = 4))) ∧ (((0 ≤ (1 : Int)) ∧ (((1 : Int) ≤ (x9l : Int)) ∧ ((x9l : Int) ≤ (x9l : Int)))) ∧ (((4 : Nat) = 4 ∧ (1 + ((toNat (x9l : Int)) - 1)) ≤ (length h5)) ∧ (∃ z2 : Tm, ((Q65 24 [(aE (getD h5 0 [])), Q153 (take ((toNat (x9l : Int)) - 1) (drop 1 h5))] (aT z2)) ∧ (RT (aT z2) (Q111 h0_0 (Q6 4 (Q22 h1_0 h1_1 h1_2 4 h1_3))) r Hs'))))))) (((4 : Nat) = 4 ∧ (0 + x9l) ≤ (length h5)) ∧ (RT (Q83 h3_0 h3_1 h3_2 (take x9l (drop 0 h5))) (Q111 h0_0 (Q6 4 (Q22 h1_0 h1_1 h1_2 4 h1_3))) r Hs')))) (((4 : Nat) = 4 ∧ (0 + x9l) ≤ (length h5)) ∧ (RT (Q83 h3_0 h3_1 h3_2 (take x9l (drop 0 h5))) (Q111 h0_0 (Q6 4 (Q22 h1_0 h1_1 h1_2 4 h1_3))) r Hs'))))) (((4 : Nat) = 4 ∧ (0 + x9l) ≤ (length h5)) ∧ (RT (Q83 h3_0 h3_1 h3_2 (take x9l (drop 0 h5))) (Q111 h0_0 (Q6 4 (Q22 h1_0 h1_1 h1_2 4 h1_3))) r Hs'))) (((4 : Nat) = 4 ∧ (0 + x9l) ≤ (length h5)) ∧ (RT (Q83 h3_0 h3_1 h3_2 (take x9l (drop 0 h5))) (Q111 h0_0 (Q6 4 (Q22 h1_0 h1_1 h1_2 4 h1_3))) r Hs')))) := by kernel_rfl
def lv52 : List (Nat × List Nat) := []
theorem v52 (v_0 : Int) (v_1 : List UInt8) (v_2 : Int) (v_3 : RW) (o0_0 : Int) (o0_1 : List UInt8) (o0_2 : Int) (o0_3 : RW) (r : TV) (Hs' : List AObj) : VE lv52 52 1 r Hs' [Q83 v_0 v_1 v_2 v_3, Q88 4] (Q128 4 (Q22 o0_0 o0_1 o0_2 4 o0_3)) =
  (∃ b1 : Bool, ((Q70 53 [Q83 v_0 v_1 v_2 v_3, Q83 o0_0 o0_1 o0_2 o0_3] b1) ∧ (Q50 b1 (Q128 4 (Q22 o0_0 o0_1 o0_2 4 o0_3)) r Hs'))) := by kernel_rfl
def lv61 : List (Nat × List Nat) := []
theorem v61 (u_0 : Int) (u_1 : List UInt8) (u_2 : Int) (u_3 : RW) (r : TV) (Hs' : List AObj) : VE lv61 61 0 r Hs' [Q83 u_0 u_1 u_2 u_3] [] =
  (∃ b1 : Bool, ((Q70 62 [Q83 u_0 u_1 u_2 u_3] b1) ∧ (Q50 (!b1) [] r Hs'))) := by kernel_rfl
theorem v83_F124 (s : RW) (o0_0 : Int) (o0_1 : List UInt8) (o0_2 : Int) (o0_3 : RW) (r : TV) (Hs' : List AObj) : VE lv83 83 1 r Hs' (Q154 s (.fn (.func 124) [] [(false, [(Q81 0 4)])])) (Q128 4 (Q22 o0_0 o0_1 o0_2 4 o0_3)) =
  ((FV.isSl 4 (Q4 4 s) = true) ∧ (Q155 83 1 r Hs' (Q108 (Q144 0 s) (Q5 1 (.fn (.func 124) [] [(false, [(Q81 0 4)])])) 7 (length s : Int) 8 0) [Q95 0 4 o0_0 o0_1 o0_2 4 o0_3] 1)) := by kernel_rfl
theorem zc0 (x0 : RW) (x7 x8 h0_0 : Int) (h0_1 : List UInt8) (h0_2 : Int) (h0_3 : RW) (r : TV) (Hs' : List AObj) : VQ lv83 83 1 r Hs' 1 ⟨Q108 (Q144 0 x0) (Q5 1 (.fn (.func 124) [] [(false, [(Q81 0 4)])])) 7 x7 8 x8, [Q95 0 4 h0_0 h0_1 h0_2 4 h0_3], 1⟩ =
  (br (decide ((x8 : Int) < x7)) (((FV.isSl 4 (Q4 4 x0) = true) ∧ ((0 ≤ x8) ∧ ((x8 < (length x0 : Int)) ∧ (((rE (getD x0 (toNat x8) [])) : List FV) = (getD x0 (toNat x8) []))))) ∧ (∃ b1 : Bool, ((Q10 124 [(aE (getD x0 (toNat x8) [])), Q88 4] (Q128 4 (Q22 h0_0 h0_1 h0_2 4 h0_3)) (Q32 b1) (Q128 4 (Q22 h0_0 h0_1 h0_2 4 h0_3))) ∧ (br b1 (Q76 x8 (Q128 4 (Q22 h0_0 h0_1 h0_2 4 h0_3)) r Hs') (Q155 83 1 r Hs' (Q108 (Q144 0 x0) (Q5 1 (.fn (.func 124) [] [(false, [(Q81 0 4)])])) 7 x7 8 (IntKind.wrap .i64 (x8 + 1))) [Q95 0 4 h0_0 h0_1 h0_2 4 h0_3] 1))))) (Q76 (-1 : Int) (Q128 4 (Q22 h0_0 h0_1 h0_2 4 h0_3)) r Hs')) := by kernel_rfl
def lv176 : List (Nat × List Nat) := []
theorem v176 (u_0 : Int) (u_1 : List UInt8) (u_2 : Int) (u_3 : RW) (k o0_0 o1_0 : Int) (o1_1 : List UInt8) (o1_2 : Int) (o1_3 : RW) (r : TV) (Hs' : List AObj) : VE lv176 176 2 r Hs' [Q83 u_0 u_1 u_2 u_3, Q24 k, Q88 1, Q85 1 4] (Q111 o0_0 (Q6 4 (Q22 o1_0 o1_1 o1_2 4 o1_3))) =
  (br ((u_0 : Int) != (3 : Int)) (RT (Q83 u_0 u_1 u_2 u_3) (Q111 o0_0 (Q6 4 (Q22 o1_0 o1_1 o1_2 4 o1_3))) r Hs') (br (decide ((u_2 : Int) < (IntKind.wrap .i64 (k + o0_0)))) (RT (Q83 u_0 u_1 u_2 u_3) (Q111 o0_0 (Q6 4 (Q22 o1_0 o1_1 o1_2 4 o1_3))) r Hs') (br ((u_2 : Int) == (IntKind.wrap .i64 (k + o0_0))) (∃ z1 : Tm, ((Q65 131 (Q72 (Q83 o1_0 o1_1 o1_2 o1_3) 0 (Q24 k)) (aT z1)) ∧ (RT (aT z1) (Q111 o0_0 (Q6 4 (Q22 o1_0 o1_1 o1_2 4 o1_3))) r Hs'))) (∃ z2 : Tm, ((Q65 150 (Q102 (Q83 u_0 u_1 u_2 u_3) (-1 : Int)) (aT z2)) ∧ (RT (aT z2) (Q111 o0_0 (Q6 4 (Q22 o1_0 o1_1 o1_2 4 o1_3))) r Hs')))))) := by kernel_rfl
def lv53 : List (Nat × List Nat) := []
theorem v53 (a_0 : Int) (a_1 : List UInt8) (a_2 : Int) (a_3 : RW) (b_0 : Int) (b_1 : List UInt8) (b_2 : Int) (b_3 : RW) (r : TV) (Hs' : List AObj) : VE lv53 53 0 r Hs' [Q83 a_0 a_1 a_2 a_3, Q83 b_0 b_1 b_2 b_3] [] =
  (br ((a_0 : Int) == b_0) (Q50 ((a_2 : Int) == b_2) [] r Hs') (Q82 [] r Hs')) := by kernel_rfl
def lv62 : List (Nat × List Nat) := []
theorem v62 (t_0 : Int) (t_1 : List UInt8) (t_2 : Int) (t_3 : RW) (r : TV) (Hs' : List AObj) : VE lv62 62 0 r Hs' [Q83 t_0 t_1 t_2 t_3] [] =
  (∃ b1 : Bool, ((Q70 20 [Q83 t_0 t_1 t_2 t_3] b1) ∧ (br b1 (br ((t_0 : Int) == (3 : Int)) (Q50 true [] r Hs') (Q50 ((t_0 : Int) == (1 : Int)) [] r Hs')) (Q82 [] r Hs')))) := by kernel_rfl
def lv124 : List (Nat × List Nat) := []
theorem v124 (u_0 : Int) (u_1 : List UInt8) (u_2 : Int) (u_3 : RW) (o0_0 : Int) (o0_1 : List UInt8) (o0_2 : Int) (o0_3 : RW) (r : TV) (Hs' : List AObj) : VE lv124 124 1 r Hs' [Q83 u_0 u_1 u_2 u_3, Q88 4] (Q128 4 (Q22 o0_0 o0_1 o0_2 4 o0_3)) =
  (∃ b1 : Bool, ((Q70 53 [Q83 u_0 u_1 u_2 u_3, Q83 o0_0 o0_1 o0_2 o0_3] b1) ∧ (Q50 b1 (Q128 4 (Q22 o0_0 o0_1 o0_2 4 o0_3)) r Hs'))) := by kernel_rfl
end Go.AM

set_option maxRecDepth 100000
open Go Go.Proofs

set_option maxRecDepth 100000
open Go Go.Proofs

set_option maxRecDepth 100000
open Go Go.Proofs
namespace Go.AM
def zkn (c : Int) : Bool := decide (97 ≤ c) && decide (c ≤ 122)
def zqv (c : Int) : Bool := decide (65 ≤ c) && decide (c ≤ 90) || c == 95
def zpl (c : Int) : Bool := decide (48 ≤ c) && decide (c ≤ 57)
def z6n (c : Int) : Bool := zkn c || zqv c || zpl c || c == 39
def signs : List UInt8 := [43, 45, 42, 47, 60, 62, 61, 38, 124, 94, 126, 64, 35, 36, 63, 58]
def zk7 (c : Int) : Bool := decide (Lib.indexByte signs c.toNat.toUInt8 ≥ 0)
theorem zsz (c : Int) : AC Tryz.prog 96 [c8 c] [] (cb (zkn c)) [] := by
 refine AC.vc hP sh lv96 (Nat.le_refl _) (by simp) (by simp) (Eq.mpr (v96 ..) ?_)
 refine z01 (fun h => z06 ?_) (fun h => z06 ?_) <;> simp_all [zkn] <;> omega
theorem c_great (c : Int) : AC Tryz.prog 125 [c8 c] [] (cb (zqv c)) [] := by
 refine AC.vc hP sh lv125 (Nat.le_refl _) (by simp) (by simp) (Eq.mpr (v125 ..) ?_)
 refine z01 (fun h => z01 (fun h => z06 ?_) (fun h => z06 ?_)) (fun h => z06 ?_) <;> simp_all [zqv] <;> omega
theorem c_digit (c : Int) : AC Tryz.prog 126 [c8 c] [] (cb (zpl c)) [] := by
 refine AC.vc hP sh lv126 (Nat.le_refl _) (by simp) (by simp) (Eq.mpr (v126 ..) ?_)
 refine z01 (fun h => z06 ?_) (fun h => z06 ?_) <;> simp_all [zpl] <;> omega
theorem c_inside (c : Int) : AC Tryz.prog 98 [c8 c] [] (cb (z6n c)) [] := by
 refine AC.vc hP sh lv98 (Nat.le_refl _) (by simp) (by simp) (Eq.mpr (v98 ..) ?_)
 refine ⟨_, zsz c, z01 (fun h => z06 ?_) (fun h => ⟨_, c_great c, z01 (fun h => z06 ?_) (fun h => ⟨_, c_digit c, z01 (fun h => z06 ?_) (fun h => z06 ?_)⟩)⟩)⟩ <;> simp_all [z6n]
theorem zic (s : List UInt8) (c : Int) : AC Tryz.prog 144 [cs s, c8 c] [] (ci (Lib.indexByte s c.toNat.toUInt8)) [] :=
 AC.str_u8 (by kernel_rfl) fun w => Tryz.stringslite_IndexByte ⟨s.toArray⟩ c w
theorem zix (s : List UInt8) (c : Int) : AC Tryz.prog 127 [cs s, c8 c] [] (ci (Lib.indexByte s c.toNat.toUInt8)) [] :=
 AC.str_u8 (by kernel_rfl) fun w => Tryz.strings_IndexByte ⟨s.toArray⟩ c w
theorem c_sign (c : Int) : AC Tryz.prog 99 [c8 c] [] (cb (zk7 c)) [] := by
 refine AC.vc hP sh lv99 (Nat.le_refl _) (by simp) (by simp) (Eq.mpr (v99 ..) ?_)
 exact ⟨_, zix _ c, z06 rfl⟩
def runN (p : Int → Bool) : List UInt8 → Nat
 | [] => 0
 | c :: s => if p (c.toNat : Int) then runN p s + 1 else 0
theorem zsq (p : Int → Bool) : ∀ s : List UInt8, runN p s ≤ s.length
 | [] => Nat.le_refl _
 | c :: s => by have := zsq p s; simp only [runN, List.length_cons]; split <;> omega
theorem zpw (a : List UInt8) (c : UInt8) (b : List UInt8) : List.getD (a ++ c :: b) (Int.toNat (a.length : Int)) 0 = c := by simp [List.getD]
theorem za1 : ∀ (b a : List UInt8), (a ++ b).length ≤ B → RPt Tryz.prog 97 0 (ci ((a.length : Int) + runN z6n b)) [] 1 ⟨[(0, cs (a ++ b)), (1, .c (.fn (.func 98) [] [])), (7, ci (((a ++ b).length : Nat) : Int)), (8, ci a.length)], [], 0⟩
 | [], a, hl => by
  refine RPt.vc hP sh lv97 (Eq.mpr (zdh ..) ?_)
  exact z01 (fun h => absurd h (by simp)) (fun _ => z3h (by simp [runN]))
 | c :: b, a, hl => by
  refine RPt.vc hP sh lv97 (Eq.mpr (zdh ..) ?_)
  have hl' := hl
  simp only [List.length_append, List.length_cons, B] at hl'
  refine z01 (fun _ => ⟨⟨by omega, by simp; omega⟩, z6n (c.toNat : Int), ?_, z01 (fun h => z3h ?_) (fun h => ?_)⟩) (fun h => absurd h (by simp; omega))
  · rw [zpw]; exact c_inside _
  · simp_all [runN]
  · have := za1 b (a ++ [c]) (by simpa using hl)
    rw [w64 (by omega) (by omega)]
    simp only [List.append_assoc, List.cons_append, List.nil_append, List.length_append, List.length_cons, List.length_nil, Int.natCast_add, Int.natCast_one, Int.natCast_zero, Int.zero_add] at this
    simp only [Bool.not_eq_false'] at h
    simp only [runN, h, if_true, List.length_append, List.length_cons, Int.natCast_add, Int.natCast_one]
    rw [show (a.length : Int) + ((runN z6n b : Nat) + 1 : Int) = (a.length : Int) + 1 + (runN z6n b : Nat) by omega]
    exact this
theorem zgj (s : List UInt8) (h : s.length ≤ B) : AC Tryz.prog 97 [cs s, .c (.fn (.func 98) [] [])] [] (ci (runN z6n s)) [] := by
 refine AC.vc hP sh lv97 (Nat.le_refl _) (by simp) (by simp) (Eq.mpr (v97_F98 ..) ?_)
 have := za1 s [] (by simpa using h)
 simpa using this
theorem ze6 : ∀ (b a : List UInt8), (a ++ b).length ≤ B → RPt Tryz.prog 97 0 (ci ((a.length : Int) + runN zk7 b)) [] 1 ⟨[(0, cs (a ++ b)), (1, .c (.fn (.func 99) [] [])), (7, ci (((a ++ b).length : Nat) : Int)), (8, ci a.length)], [], 0⟩
 | [], a, hl => by
  refine RPt.vc hP sh lv97 (Eq.mpr (zdr ..) ?_)
  exact z01 (fun h => absurd h (by simp)) (fun _ => z3h (by simp [runN]))
 | c :: b, a, hl => by
  refine RPt.vc hP sh lv97 (Eq.mpr (zdr ..) ?_)
  have hl' := hl
  simp only [List.length_append, List.length_cons, B] at hl'
  refine z01 (fun _ => ⟨⟨by omega, by simp; omega⟩, zk7 (c.toNat : Int), ?_, z01 (fun h => z3h ?_) (fun h => ?_)⟩) (fun h => absurd h (by simp; omega))
  · rw [zpw]; exact c_sign _
  · simp_all [runN]
  · have := ze6 b (a ++ [c]) (by simpa using hl)
    rw [w64 (by omega) (by omega)]
    simp only [List.append_assoc, List.cons_append, List.nil_append, List.length_append, List.length_cons, List.length_nil, Int.natCast_add, Int.natCast_one, Int.natCast_zero, Int.zero_add] at this
    simp only [Bool.not_eq_false'] at h
    simp only [runN, h, if_true, List.length_append, List.length_cons, Int.natCast_add, Int.natCast_one]
    rw [show (a.length : Int) + ((runN zk7 b : Nat) + 1 : Int) = (a.length : Int) + 1 + (runN zk7 b : Nat) by omega]
    exact this
theorem zo4 (s : List UInt8) (h : s.length ≤ B) : AC Tryz.prog 97 [cs s, .c (.fn (.func 99) [] [])] [] (ci (runN zk7 s)) [] := by
 refine AC.vc hP sh lv97 (Nat.le_refl _) (by simp) (by simp) (Eq.mpr (v97_F99 ..) ?_)
 have := ze6 s [] (by simpa using h)
 simpa using this
theorem z82 (p : Int → Bool) : ∀ s : List UInt8, (((runN p s : Nat) : Int) == ((s.length : Nat) : Int)) = s.all fun c => p (c.toNat : Int)
 | [] => rfl
 | c :: s => by
  have ih := z82 p s
  have := zsq p s
  simp only [runN, List.all_cons, List.length_cons]
  cases h : p (c.toNat : Int) with
  | true => rw [← ih]; simp only [if_true, Bool.true_and]; rw [Bool.eq_iff_iff]; simp <;> omega
  | false => simp; omega
def zmy (s : List UInt8) : Bool := !(s == []) && decide ((s.length : Int) ≤ 32)
theorem c_fits (s : List UInt8) : AC Tryz.prog 95 [cs s] [] (cb (zmy s)) [] := by
 refine AC.vc hP sh lv95 (Nat.le_refl _) (by simp) (by simp) (Eq.mpr (v95 ..) ?_)
 refine z01 (fun h => z06 ?_) (fun h => z06 ?_) <;> simp_all [zmy]
def zh (s : List UInt8) : Bool := zmy s && zkn ((s.getD 0 0).toNat : Int) && s.all fun c => z6n (c.toNat : Int)
theorem zk6 {s : List UInt8} (h : zmy s = true) : 0 < s.length ∧ s.length ≤ 32 := by
 simp only [zmy, Bool.and_eq_true, Bool.not_eq_true', decide_eq_true_eq] at h
 refine ⟨?_, by omega⟩
 cases s with
 | nil => simp at h
 | cons c s => simp
theorem c_isname (s : List UInt8) : AC Tryz.prog 64 [cs s] [] (cb (zh s)) [] := by
 refine AC.vc hP sh lv64 (Nat.le_refl _) (by simp) (by simp) (Eq.mpr (v64 ..) ?_)
 refine ⟨_, c_fits s, z01 (fun h => ⟨⟨by omega, by have := zk6 h; omega⟩, _, zsz _, z01 (fun h2 => ⟨_, zgj s (by have := zk6 h; simp only [B]; omega), z06 ?_⟩) (fun h2 => z06 ?_)⟩) (fun h => z06 ?_)⟩
 · rw [z82]; simp only [zh, h, h2, Bool.true_and]
 · simp only [zh, h, h2, Bool.and_false, Bool.false_and]
 · simp only [zh, h, Bool.false_and]
def zkd : List UInt8 := [44, 59, 33]
theorem zk5 (s : List UInt8) (c : UInt8) (hs : s.length ≤ B) : AC Tryz.prog 100 [cs s, cs [c]] [] (cb (decide (Lib.indexByte s c ≥ 0))) [] := by
 have hb : (c.toNat : Int).toNat.toUInt8 = c := by simp
 have h1 : AC Tryz.prog 145 [cs s, cs [c]] [] (ci (if [c] == s then 0 else Lib.indexByte s c)) [] := by
  refine AC.vc hP sh lv145 (Nat.le_refl _) (by simp) (by simp) (Eq.mpr (v145 ..) ?_)
  refine z01 (fun h => absurd h (by simp)) (fun _ => z01 (fun h => z3h (by simp [h])) (fun h => z01 (fun _ => ⟨⟨by omega, by simp⟩, _, zic s _, z3h ?_⟩) (fun h2 => absurd h2 (by simp))))
  rw [h]
  simp
 have h2 : AC Tryz.prog 128 [cs s, cs [c]] [] (ci (if [c] == s then 0 else Lib.indexByte s c)) [] := by
  refine AC.vc hP sh lv128 (Nat.le_refl _) (by simp) (by simp) (Eq.mpr (v128 ..) ?_)
  exact ⟨_, h1, z3h rfl⟩
 refine AC.vc hP sh lv100 (Nat.le_refl _) (by simp) (by simp) (Eq.mpr (v100 ..) ?_)
 refine ⟨_, h2, z06 ?_⟩
 by_cases e : [c] = s
 · subst e
   simp [Lib.indexByte]
 · have : ([c] == s) = false := by simpa using e
   rw [this]; simp
def znv (s : List UInt8) : Bool := zmy s && ((s.all fun c => zk7 (c.toNat : Int)) || ((s.length : Int) == 1 && decide (Lib.indexByte zkd (s.getD 0 0) ≥ 0)))
theorem c_issym (s : List UInt8) : AC Tryz.prog 65 [cs s] [] (cb (znv s)) [] := by
 refine AC.vc hP sh lv65 (Nat.le_refl _) (by simp) (by simp) (Eq.mpr (v65 ..) ?_)
 refine ⟨_, c_fits s, z01 (fun h => ⟨_, zo4 s (by have := zk6 h; simp only [B]; omega), z01 (fun h2 => z06 ?_) (fun h2 => z01 (fun h3 => ?_) (fun h3 => z06 ?_))⟩) (fun h => z06 ?_)⟩
 · rw [z82] at h2; simp only [znv, h, h2, Bool.true_and, Bool.true_or]
 · rw [z82] at h2
   match s, h3 with
   | [c], h3 =>
    refine ⟨_, zk5 zkd c (by simp [zkd, B]), z06 ?_⟩
    simp only [znv, h, h2, h3, Bool.true_and, Bool.false_or, List.getD_cons_zero]
   | [], h3 => simp at h3
   | _ :: _ :: _, h3 => simp at h3; omega
 · rw [z82] at h2; simp only [znv, h, h2, h3, Bool.false_and, Bool.false_or, Bool.and_false]
 · simp only [znv, h, Bool.false_and]
end Go.AM

set_option maxRecDepth 100000
open Go Go.Proofs
namespace Go.AM
mutual
def near (most : Int) : Tm → Bool
 | .mk k _ n l => !(k != 2 && (decide (n > most) || decide (n < 0 - most))) && zk3 most l
def zk3 (most : Int) : List Tm → Bool
 | [] => true
 | t :: l => near most t && zk3 most l
end
theorem l_near (most : Int) (k : Int) (s : List UInt8) (n : Int) : ∀ (b a : List Tm), (∀ u ∈ b, AC Tryz.prog 42 [aT u, ci most] [] (cb (near most u)) []) → (a ++ b).length ≤ B →
  RPt Tryz.prog 42 0 (cb (zk3 most b)) [] 1 ⟨[(1, ci most), (2, (.c (.a (.ep 0 4 0 0)))), (5, ci a.length)], [(0, (.arr 4 [fzs (FT (.mk k s n (a ++ b)))]))], 1⟩
 | [], a, _, hl => by
  refine RPt.vc hP sh lv42 (Eq.mpr (v42_1a ..) ?_)
  exact ⟨rfl, z01 (fun h => absurd (of_decide_eq_true h) (geI' a)) (fun _ => z06 rfl)⟩
 | t :: b, a, ih, hl => by
  refine RPt.vc hP sh lv42 (Eq.mpr (v42_1a ..) ?_)
  have hl' := hl
  simp only [List.length_append, List.length_cons, B] at hl'
  refine ⟨rfl, z01 (fun _ => ?_) (fun h => absurd (ltI' a t b) (of_decide_eq_false h))⟩
  have h1 := ih t List.mem_cons_self
  have h2 := l_near most k s n b (a ++ [t]) (fun u hu => ih u (List.mem_cons_of_mem _ hu)) (by rw [ap]; exact hl)
  have h3 := ltI' a t b
  rw [ap, nx] at h2
  rw [midI, w64 (by omega) (by omega)]
  obtain ⟨k', s', n', l'⟩ := t
  refine ⟨⟨rfl, by omega, h3, rfl⟩, _, h1, z01 (fun h => z06 ?_) (fun h => ?_)⟩
  · simp_all [zk3]
  · simp only [zk3, show near most (.mk k' s' n' l') = true by simpa using h, Bool.true_and]; exact h2
theorem c_near (most : Int) (h0 : 0 ≤ most) (h1 : most ≤ 4611686018427387904) : ∀ t : Tm, t.sz ≤ B → AC Tryz.prog 42 [aT t, ci most] [] (cb (near most t)) [] := by
 refine Tm.ind fun t ih hs => ?_
 obtain ⟨k, s, n, l⟩ := t
 have hl := Tm.szs_length l
 simp only [Tm.sz, B] at hs
 refine AC.vc hP sh lv42 (Nat.le_refl _) (by simp) (by simp) (Eq.mpr (v42 k s n (FTs l) most _ _) ?_)
 have key := l_near most k s n l [] (fun u hu => ih u hu (by have := Tm.szs_mem hu; simp only [B]; omega)) (by simp only [List.nil_append, B]; omega)
 rw [w64 (by omega) (by omega)]
 rw [near]
 refine z01 (fun h => z01 (fun h2 => z06 ?_) (fun h2 => z01 (fun h3 => z06 ?_) (fun h3 => ?_))) (fun h => ?_)
 · simp only [h, h2, Bool.true_or, Bool.and_true, Bool.not_true, Bool.false_and]
 · simp only [h, h3, Bool.or_true, Bool.and_true, Bool.not_true, Bool.false_and]
 · simp only [h2, h3, Bool.or_false, Bool.and_false, Bool.not_false, Bool.true_and]; exact key
 · simp only [h, Bool.false_and, Bool.not_false, Bool.true_and]; exact key
mutual
def z9g : Tm → Int → Int
 | .mk _ _ _ l, most => z9y l (most - 1)
def z9y : List Tm → Int → Int
 | [], n => n
 | t :: l, n => if n ≥ 0 then z9y l (z9g t n) else n
end
mutual
theorem zmv : ∀ (t : Tm) (n : Int), z9g t n ≤ n - 1 ∧ (0 ≤ n → -1 ≤ z9g t n)
 | .mk _ _ _ l, n => by
  have h := zen l (n - 1)
  simp only [z9g]
  exact ⟨h.1, fun hn => h.2 (by omega)⟩
theorem zen : ∀ (l : List Tm) (n : Int), z9y l n ≤ n ∧ (-1 ≤ n → -1 ≤ z9y l n)
 | [], n => by simp [z9y]
 | t :: l, n => by
  have h1 := zmv t n
  have h2 := zen l (z9g t n)
  simp only [z9y]
  split
  · rename_i h; exact ⟨by omega, fun _ => h2.2 (h1.2 h)⟩
  · exact ⟨Int.le_refl _, fun h => h⟩
end
theorem l_left (k : Int) (s : List UInt8) (n : Int) : ∀ (b a : List Tm) (m : Int), (∀ u ∈ b, ∀ m : Int, 0 ≤ m → m ≤ 4611686018427387904 → AC Tryz.prog 81 [aT u, ci m] [] (ci (z9g u m)) []) → (a ++ b).length ≤ B → m ≤ 4611686018427387904 →
  RPt Tryz.prog 81 0 (ci (z9y b m)) [] 1 ⟨[(2, (.c (.a (.ep 0 4 0 0)))), (5, ci m), (6, ci a.length)], [(0, (.arr 4 [fzs (FT (.mk k s n (a ++ b)))]))], 1⟩
 | [], a, m, _, hl, hm => by
  refine RPt.vc hP sh lv81 (Eq.mpr (v81_1a ..) ?_)
  exact ⟨rfl, z01 (fun h => absurd (of_decide_eq_true h) (geI' a)) (fun _ => z3h rfl)⟩
 | t :: b, a, m, ih, hl, hm => by
  refine RPt.vc hP sh lv81 (Eq.mpr (v81_1a ..) ?_)
  have hl' := hl
  simp only [List.length_append, List.length_cons, B] at hl'
  refine ⟨rfl, z01 (fun _ => z01 (fun hm0 => ?_) (fun hm0 => z3h ?_)) (fun h => absurd (ltI' a t b) (of_decide_eq_false h))⟩
  · have hm0 := of_decide_eq_true hm0
    have h1 := ih t List.mem_cons_self m hm0 hm
    have hle := zmv t m
    have h2 := l_left k s n b (a ++ [t]) (z9g t m) (fun u hu => ih u (List.mem_cons_of_mem _ hu)) (by rw [ap]; exact hl) (by omega)
    have h3 := ltI' a t b
    rw [ap, nx] at h2
    rw [midI, w64 (by omega) (by omega)]
    simp only [z9y, hm0, if_true]
    obtain ⟨k', s', n', l'⟩ := t
    exact ⟨⟨rfl, by omega, h3, rfl⟩, _, h1, h2⟩
  · have hm0 := of_decide_eq_false hm0
    simp only [z9y, hm0, if_false]
theorem c_left : ∀ t : Tm, t.sz ≤ B → ∀ m : Int, 0 ≤ m → m ≤ 4611686018427387904 → AC Tryz.prog 81 [aT t, ci m] [] (ci (z9g t m)) [] := by
 refine Tm.ind fun t ih hs m h0 h1 => ?_
 obtain ⟨k, s, n, l⟩ := t
 have hl := Tm.szs_length l
 simp only [Tm.sz, B] at hs
 refine AC.vc hP sh lv81 (Nat.le_refl _) (by simp) (by simp) (Eq.mpr (v81 k s n (FTs l) m _ _) ?_)
 rw [w64 (by omega) (by omega)]
 exact l_left k s n l [] (m - 1) (fun u hu => ih u hu (by have := Tm.szs_mem hu; simp only [B]; omega)) (by simp only [List.nil_append, B]; omega) (by omega)
def z9w (t : Tm) (most : Int) : Bool := decide (z9g t most < 0)
theorem zsg (t : Tm) (hs : t.sz ≤ B) (m : Int) (h0 : 0 ≤ m) (h1 : m ≤ 4611686018427387904) : AC Tryz.prog 41 [aT t, ci m] [] (cb (z9w t m)) [] := by
 have h := c_left t hs m h0 h1
 obtain ⟨k, s, n, l⟩ := t
 refine AC.vc hP sh lv41 (Nat.le_refl _) (by simp) (by simp) (Eq.mpr (v41 k s n (FTs l) m _ _) ?_)
 exact ⟨_, h, z06 rfl⟩
mutual
def z1n : Tm → Tm → Bool
 | .mk k s n l, .mk k' s' n' l' => k == k' && (s == s' && (n == n' && z74 l l'))
def z74 : List Tm → List Tm → Bool
 | [], [] => true
 | t :: l, u :: m => z1n t u && z74 l m
 | _, _ => false
end
mutual
theorem zhw : ∀ a b : Tm, z1n a b = true ↔ a = b
 | .mk k s n l, .mk k' s' n' l' => by simp only [z1n, Bool.and_eq_true, beq_iff_eq, Tm.mk.injEq, zh1 l l']
theorem zh1 : ∀ a b : List Tm, z74 a b = true ↔ a = b
 | [], [] => by simp [z74]
 | t :: l, u :: m => by simp only [z74, Bool.and_eq_true, List.cons.injEq, zhw t u, zh1 l m]
 | [], _ :: _ => by simp [z74]
 | _ :: _, [] => by simp [z74]
end
theorem zbq : ∀ {a b : List Tm}, a.length ≠ b.length → z74 a b = false
 | [], [], h => absurd rfl h
 | t :: l, u :: m, h => by simp only [z74, zbq (a := l) (b := m) (fun e => h (by simp [e])), Bool.and_false]
 | [], _ :: _, _ => rfl
 | _ :: _, [], _ => rfl
theorem l_same (k : Int) (s : List UInt8) (n : Int) (k' : Int) (s' : List UInt8) (n' : Int) : ∀ (b a b' a' : List Tm), (∀ u ∈ b, ∀ v ∈ b', AC Tryz.prog 25 [aT u, aT v] [] (cb (z1n u v)) []) → (a ++ b).length ≤ B → a.length = a'.length → b.length = b'.length →
  RPt Tryz.prog 25 0 (cb (z74 b b')) [] 1 ⟨[(2, (.c (.a (.ep 0 4 0 0)))), (3, (.c (.a (.ep 1 4 0 0)))), (5, ci a.length)], [(0, (.arr 4 [fzs (FT (.mk k s n (a ++ b)))])), (1, (.arr 4 [fzs (FT (.mk k' s' n' (a' ++ b')))]))], 2⟩
 | [], a, [], a', _, hl, _, _ => by
  refine RPt.vc hP sh lv25 (Eq.mpr (v25_1a ..) ?_)
  exact ⟨rfl, z01 (fun h => absurd (of_decide_eq_true h) (geI' a)) (fun _ => z06 rfl)⟩
 | t :: b, a, u :: b', a', ih, hl, ha, hb => by
  refine RPt.vc hP sh lv25 (Eq.mpr (v25_1a ..) ?_)
  have hl' := hl
  simp only [List.length_append, List.length_cons, B] at hl'
  refine ⟨rfl, z01 (fun _ => ?_) (fun h => absurd (ltI' a t b) (of_decide_eq_false h))⟩
  have h1 := ih t List.mem_cons_self u List.mem_cons_self
  have h2 := l_same k s n k' s' n' b (a ++ [t]) b' (a' ++ [u]) (fun x hx y hy => ih x (List.mem_cons_of_mem _ hx) y (List.mem_cons_of_mem _ hy)) (by rw [ap]; exact hl) (by simp [ha]) (by simpa using hb)
  have h3 := ltI' a t b
  have h4 := ltI' a' u b'
  rw [← ha] at h4
  rw [ap, ap, nx] at h2
  rw [midI, midI' a a' ha, w64 (by omega) (by omega)]
  obtain ⟨k1, s1, n1, l1⟩ := t
  obtain ⟨k2, s2, n2, l2⟩ := u
  refine ⟨⟨rfl, by omega, h3, rfl⟩, ⟨rfl, by omega, h4, rfl⟩, _, h1, z01 (fun h => z06 ?_) (fun h => ?_)⟩
  · rw [z74, show z1n (.mk k1 s1 n1 l1) (.mk k2 s2 n2 l2) = false by simpa using h, Bool.false_and]
  · rw [z74, show z1n (.mk k1 s1 n1 l1) (.mk k2 s2 n2 l2) = true by simpa using h, Bool.true_and]; exact h2
theorem c_rsame : ∀ a : Tm, a.sz ≤ B → ∀ b : Tm, AC Tryz.prog 25 [aT a, aT b] [] (cb (z1n a b)) [] := by
 refine Tm.ind fun a ih hs b => ?_
 obtain ⟨k, s, n, l⟩ := a
 obtain ⟨k', s', n', l'⟩ := b
 have hl := Tm.szs_length l
 simp only [Tm.sz, B] at hs
 refine AC.vc hP sh lv25 (Nat.le_refl _) (by simp) (by simp) (Eq.mpr (v25 k s n (FTs l) k' s' n' (FTs l') _ _) ?_)
 have key := fun he => l_same k s n k' s' n' l [] l' [] (fun u hu v _ => ih u hu (by have := Tm.szs_mem hu; simp only [B]; omega) v) (by simp only [List.nil_append, B]; omega) rfl he
 rw [lenI, lenI]
 refine z01 (fun h => z06 ?_) (fun h => z01 (fun h2 => z06 ?_) (fun h2 => z01 (fun h3 => z06 ?_) (fun h3 => ⟨rfl, rfl, z01 (fun h4 => z06 ?_) (fun h4 => ?_)⟩)))
 · simp only [z1n, show (k == k') = false by simpa using h, Bool.false_and]
 · simp only [z1n, show (s == s') = false by simpa using h2, Bool.false_and, Bool.and_false]
 · simp only [z1n, show (n == n') = false by simpa using h3, Bool.false_and, Bool.and_false]
 · rw [z1n, zbq (by intro e; simp [e] at h4)]; simp
 · simp only [z1n, show (k == k') = true by simpa using h, show (s == s') = true by simpa using h2, show (n == n') = true by simpa using h3, Bool.true_and]
   exact key (by have : (l.length : Int) = l'.length := by simpa using h4
                 omega)
def Tm.inner (t : Tm) : Bool := t.k == 5 || t.k == 6
def Tm.kids (t : Tm) : List Tm := if t.inner = true then t.l else []
def Tm.by (t : Tm) : Int := if t.k == 5 then 1 else 0
end Go.AM

set_option maxRecDepth 100000
open Go Go.Proofs
namespace Go.AM
def z5f (t : Tm) : FV := if t.inner = true then .sl false 4 (FTs t.l) else .nils
theorem zbl (t : Tm) : (z5f t).ses = FTs t.kids ∧ (z5f t).isSl 4 = true := by
 unfold z5f Tm.kids
 split <;> exact ⟨rfl, rfl⟩
theorem z86 (t : Tm) : AC Tryz.prog 88 [aT t] [] (.tup [(false, [.a (.fz (z5f t))]), (false, [.a (.fz (.int .i64 t.by))])]) [] := by
 obtain ⟨k, s, n, l⟩ := t
 refine AC.vc hP sh lv88 (Nat.le_refl _) (by simp) (by simp) (Eq.mpr (v88 k s n (FTs l) _ _) ?_)
 refine z01 (fun h => ⟨?_, rfl⟩) (fun h => z01 (fun h2 => ⟨?_, rfl⟩) (fun h2 => ⟨?_, rfl⟩))
 · have e1 : z5f (.mk k s n l) = .sl false 4 (FTs l) := by unfold z5f Tm.inner; simp only [Tm.k, h, Bool.true_or, if_true, Tm.l]
   have e2 : Tm.by (.mk k s n l) = 1 := by unfold Tm.by; simp only [Tm.k, h, if_true]
   rw [e1, e2]; exact .refl _
 · have e1 : z5f (.mk k s n l) = .sl false 4 (FTs l) := by unfold z5f Tm.inner; simp only [Tm.k, h2, Bool.or_true, if_true, Tm.l]
   have e2 : Tm.by (.mk k s n l) = 0 := by unfold Tm.by; simp only [Tm.k, h, Bool.false_eq_true, if_false]
   rw [e1, e2]; exact .refl _
 · have e1 : z5f (.mk k s n l) = .nils := by unfold z5f Tm.inner; simp only [Tm.k, h, h2, Bool.or_self, Bool.false_eq_true, if_false]
   have e2 : Tm.by (.mk k s n l) = 0 := by unfold Tm.by; simp only [Tm.k, h, Bool.false_eq_true, if_false]
   rw [e1, e2]; exact .refl _
mutual
def z3f : Tm → Nat
 | .mk k _ _ l => 1 + if (k == 5 || k == 6) = true then z7t l else 0
def z7t : List Tm → Nat
 | [] => 0
 | t :: l => z3f t + z7t l
end
theorem sizeF_eq (t : Tm) : z3f t = 1 + z7t t.kids := by
 obtain ⟨k, s, n, l⟩ := t
 by_cases h : (k == 5 || k == 6) = true
 · rw [show Tm.kids (.mk k s n l) = l from if_pos h, z3f, if_pos h]
 · rw [show Tm.kids (.mk k s n l) = [] from if_neg h, z3f, if_neg h]; rfl
mutual
theorem zap : ∀ t : Tm, z3f t ≤ t.sz
 | .mk k s n l => by have := zld l; simp only [z3f, Tm.sz]; split <;> omega
theorem zld : ∀ l : List Tm, z7t l ≤ Tm.szs l
 | [] => Nat.le_refl _
 | t :: l => by have := zap t; have := zld l; simp only [z7t, Tm.szs]; omega
end
theorem l_size : ∀ (b a : List Tm) (v : FV) (acc : Nat), v.ses = FTs (a ++ b) → v.isSl 4 = true → (∀ u ∈ b, AC Tryz.prog 172 [aT u] [] (ci (z3f u)) []) → (a ++ b).length ≤ B → acc + z7t b ≤ 2 * B →
  RPt Tryz.prog 172 0 (ci ((acc + z7t b : Nat) : Int)) [] 1 ⟨[(3, ci acc), (13, .c (.a (.fz v))), (14, ci (a ++ b).length), (15, ci a.length)], [], 0⟩
 | [], a, v, acc, hv, hs, _, hl, ha => by
  refine RPt.vc hP sh zpo (Eq.mpr (zt ..) ?_)
  exact z01 (fun h => absurd (of_decide_eq_true h) (by simp)) (fun _ => z3h (by simp [z7t]))
 | t :: b, a, v, acc, hv, hs, ih, hl, ha => by
  refine RPt.vc hP sh zpo (Eq.mpr (zt ..) ?_)
  have hl' := hl
  simp only [List.length_append, List.length_cons, B] at hl'
  simp only [z7t, B] at ha
  have h1 := ih t List.mem_cons_self
  have h2 := l_size b (a ++ [t]) v (acc + z3f t) (by rw [ap]; exact hv) hs (fun u hu => ih u (List.mem_cons_of_mem _ hu)) (by rw [ap]; exact hl) (by simp only [B]; omega)
  have h3 := ltI' a t b
  rw [ap, nx] at h2
  rw [hv, midI, w64 (x := (a.length : Int) + 1) (by omega) (by omega)]
  refine z01 (fun _ => ?_) (fun h => absurd (ltI a t b) (of_decide_eq_false h))
  rw [show acc + z7t (t :: b) = acc + z3f t + z7t b by simp only [z7t]; omega]
  obtain ⟨k', s', n', l'⟩ := t
  refine ⟨⟨hs, by omega, h3, rfl⟩, _, h1, ?_⟩
  rw [w64 (by omega) (by omega), show (acc : Int) + ((z3f (.mk k' s' n' l') : Nat) : Int) = ((acc + z3f (.mk k' s' n' l') : Nat) : Int) by omega]
  exact h2
theorem c_size : ∀ t : Tm, t.sz ≤ B → AC Tryz.prog 172 [aT t] [] (ci (z3f t)) [] := by
 refine Tm.ind fun t ih hs => ?_
 have hw := z86 t
 have hk := zbl t
 have hsz := sizeF_eq t
 have hle := zap t
 have hkl : t.kids.length ≤ B ∧ (∀ u ∈ t.kids, u ∈ t.l) := by
  have := Tm.szs_length t.l
  rw [Tm.sz_eq] at hs
  unfold Tm.kids
  split
  · exact ⟨by simp only [B] at *; omega, fun u hu => hu⟩
  · exact ⟨by simp [B], fun u hu => by simp at hu⟩
 have key := l_size t.kids [] (z5f t) 1 (by simpa using hk.1) hk.2 (fun u hu => ih u (hkl.2 u hu) (by have := Tm.szs_mem (hkl.2 u hu); rw [Tm.sz_eq] at hs; simp only [B] at *; omega)) (by simpa using hkl.1) (by simp only [B] at *; omega)
 refine AC.vc hP sh zpo (Nat.le_refl _) (by simp) (by simp) (Eq.mpr (v172 ..) ?_)
 refine ⟨_, _, hw, hk.2, ?_⟩
 rw [hk.1, hsz, lenI]
 simpa using key
mutual
def bd (M : Int) : Tm → Prop
 | .mk k _ n l => (k = 3 → 0 - M ≤ n ∧ n ≤ M) ∧ bds M l
def bds (M : Int) : List Tm → Prop
 | [] => True
 | t :: l => bd M t ∧ bds M l
end
theorem z2v {M : Int} : ∀ {l : List Tm} {t : Tm}, bds M l → t ∈ l → bd M t
 | x :: l, t, h, ht => by
  rcases List.mem_cons.1 ht with rfl | ht
  · exact h.1
  · exact z2v h.2 ht
theorem bd_l {M : Int} {t : Tm} (h : bd M t) : bds M t.l := by cases t; exact h.2
def maxI (a b : Int) : Int := if a ≤ b then b else a
theorem zme (a b : Int) : z0f [a, b] = maxI a b := by
 simp only [z0f, List.foldl, maxI, max, maxOfLe]
mutual
def z2x : Tm → Int → Int → Int
 | .mk kd _ n l, k, acc => if (kd == 5) = true then z64 l (k + 1) acc else if (kd == 6) = true then z64 l k acc else if (kd == 3) = true then maxI acc (n - k + 1) else acc
def z64 : List Tm → Int → Int → Int
 | [], _, acc => acc
 | t :: l, k, acc => z64 l k (z2x t k acc)
end
abbrev obj1 (n : Int) : AObj := .arr 1 [[.a (.fz (.int .i64 n))]]
theorem c_loose1 (u : Tm) (k acc : Int) (hb : u.k = 3 → 0 - 2305843009213693952 ≤ u.n ∧ u.n ≤ 2305843009213693952) (h0 : 0 ≤ k) (h1 : k ≤ 2305843009213693952) :
  AC Tryz.prog 69 [aT u, ci k, .c (.a (.ep 0 1 0 0))] [obj1 acc] (.tup []) [obj1 (if (u.k == 3) = true then maxI acc (u.n - k + 1) else acc)] := by
 obtain ⟨kd, s, n, l⟩ := u
 simp only [Tm.k, Tm.n] at hb
 refine AC.vc hP sh lv69 (Nat.le_refl _) (by simp [isLive]) (by simp) (Eq.mpr (v69 kd s n (FTs l) k acc _ _) ?_)
 refine z01 (fun h => ⟨.refl _, ?_⟩) (fun h => ⟨.refl _, ?_⟩)
 · have hk : kd = 3 := by simpa using h
   have := hb hk
   rw [w64 (x := n - k) (by omega) (by omega), w64 (x := n - k + 1) (by omega) (by omega), zme]
   simp only [Tm.k, Tm.n, h, if_true]
 · simp only [Tm.k, h, Bool.false_eq_true, if_false]
abbrev tellL : TV := .c (.fn (.func 69) [] [(false, [.ep 0 1 0 0])])
theorem l_each (k by_ : Int) (h0 : 0 ≤ k) (hby : 0 ≤ by_) (hby1 : by_ ≤ 1) : ∀ (b a : List Tm) (v : FV) (acc : Int), v.ses = FTs (a ++ b) → v.isSl 4 = true →
  (∀ u ∈ b, ∀ acc, AC Tryz.prog 58 [aT u, ci (k + by_), tellL] [obj1 acc] (.tup []) [obj1 (z2x u (k + by_) acc)]) → (a ++ b).length ≤ B → k ≤ 2305843009213693952 →
  RPt Tryz.prog 58 1 (.tup []) [obj1 (z64 b (k + by_) acc)] 1 ⟨[(1, ci k), (2, tellL), (7, ci by_), (27, .c (.a (.fz v))), (28, ci (a ++ b).length), (29, ci a.length)], [(0, obj1 acc)], 1⟩
 | [], a, v, acc, hv, hs, _, hl, hk => by
  refine RPt.vc hP sh lv58 (Eq.mpr (zdk ..) ?_)
  exact z01 (fun h => absurd (of_decide_eq_true h) (by simp)) (fun _ => ⟨.refl _, rfl⟩)
 | t :: b, a, v, acc, hv, hs, ih, hl, hk => by
  refine RPt.vc hP sh lv58 (Eq.mpr (zdk ..) ?_)
  have hl' := hl
  simp only [List.length_append, List.length_cons, B] at hl'
  have h1 := ih t List.mem_cons_self acc
  have h2 := l_each k by_ h0 hby hby1 b (a ++ [t]) v (z2x t (k + by_) acc) (by rw [ap]; exact hv) hs (fun u hu => ih u (List.mem_cons_of_mem _ hu)) (by rw [ap]; exact hl) hk
  have h3 := ltI' a t b
  rw [ap, nx] at h2
  rw [hv, midI, w64 (x := (a.length : Int) + 1) (by omega) (by omega), w64 (x := k + by_) (by omega) (by omega)]
  refine z01 (fun _ => ?_) (fun h => absurd (ltI a t b) (of_decide_eq_false h))
  obtain ⟨k', s', n', l'⟩ := t
  exact ⟨⟨hs, by omega, h3, rfl⟩, .inl ⟨_, h1, h2⟩⟩
theorem c_each : ∀ t : Tm, t.sz ≤ B → bd 2305843009213693952 t → ∀ k acc : Int, 0 ≤ k → k + t.sz ≤ 2305843009213693952 → AC Tryz.prog 58 [aT t, ci k, tellL] [obj1 acc] (.tup []) [obj1 (z2x t k acc)] := by
 refine Tm.ind fun t ih hs hb k acc h0 h1 => ?_
 have hw := z86 t
 have hk := zbl t
 have hlen := Tm.szs_length t.l
 obtain ⟨kd, s, n, l⟩ := t
 simp only [Tm.sz, B, Tm.l] at hs hlen
 simp only [Tm.sz] at h1
 have key : ∀ by_ : Int, 0 ≤ by_ → by_ ≤ 1 → Tm.kids (.mk kd s n l) = l → RPt Tryz.prog 58 1 (.tup []) [obj1 (z64 l (k + by_) acc)] 1 ⟨[(1, ci k), (2, tellL), (7, ci by_), (27, .c (.a (.fz (z5f (.mk kd s n l))))), (28, ci l.length), (29, ci 0)], [(0, obj1 acc)], 1⟩ := by
  intro by_ hb0 hb1 hkids
  have := l_each k by_ h0 hb0 hb1 l [] (z5f (.mk kd s n l)) acc (by rw [hk.1, hkids]; rfl) hk.2 (fun u hu acc => ih u hu (by have := Tm.szs_mem hu; simp only [B]; omega) (z2v hb.2 hu) (k + by_) acc (by omega) (by have := Tm.szs_mem hu; omega)) (by simp only [List.nil_append, B]; omega) (by omega)
  simpa using this
 refine AC.vc hP sh lv58 (Nat.le_refl _) (by simp [isLive]) (by simp) (Eq.mpr (v58_F69 kd s n (FTs l) k acc _ _) ?_)
 refine z01 (fun h => z01 (fun h2 => ⟨_, c_loose1 (.mk kd s n l) k acc hb.1 h0 (by omega), .refl _, ?_⟩) (fun h2 => ⟨_, _, hw, hk.2, ?_⟩)) (fun h => ⟨_, _, hw, hk.2, ?_⟩)
 · have e1 : (kd == 5) = false := by simpa using h
   have e2 : (kd == 6) = false := by simpa using h2
   simp only [z2x, Tm.k, Tm.n, e1, e2, Bool.false_eq_true, if_false]
   rfl
 · have e1 : (kd == 5) = false := by simpa using h
   have e2 : (kd == 6) = true := by simpa using h2
   have ek : Tm.kids (.mk kd s n l) = l := by unfold Tm.kids Tm.inner; simp only [Tm.k, e2, Bool.or_true, if_true, Tm.l]
   have := key 0 (by omega) (by omega) ek
   rw [hk.1, ek, lenI, show Tm.by (.mk kd s n l) = 0 by unfold Tm.by; simp only [Tm.k, e1, Bool.false_eq_true, if_false]]
   simp only [z2x, e1, e2, Bool.false_eq_true, if_false, if_true]
   simpa using this
 · have e1 : (kd == 5) = true := by simpa using h
   have ek : Tm.kids (.mk kd s n l) = l := by unfold Tm.kids Tm.inner; simp only [Tm.k, e1, Bool.true_or, if_true, Tm.l]
   have := key 1 (by omega) (by omega) ek
   rw [hk.1, ek, lenI, show Tm.by (.mk kd s n l) = 1 by unfold Tm.by; simp only [Tm.k, e1, if_true]]
   simp only [z2x, e1, if_true]
   exact this
theorem zq0 (t : Tm) (hs : t.sz ≤ B) (hb : bd 2305843009213693952 t) : AC Tryz.prog 22 [aT t] [] (ci (z2x t 0 0)) [] := by
 have h := c_each t hs hb 0 0 (Int.le_refl _) (by simp only [B] at hs; omega)
 refine AC.vc hP sh lv22 (Nat.le_refl _) (by simp) (by simp) (Eq.mpr (v22 ..) ?_)
 exact .inl ⟨_, h, z3h rfl⟩
end Go.AM

set_option maxRecDepth 100000
open Go Go.Proofs
namespace Go.AM
theorem c_grow (n : Int) (h0 : 0 ≤ n) (h1 : n ≤ 2199023255552) : (n = 0 → AC Tryz.prog 103 [.c (.a (.fz .nils)), ci n] [] (.c (.a (.fz .nils))) []) ∧
  (n ≠ 0 → AC Tryz.prog 103 [.c (.a (.fz .nils)), ci n] [] (.c (.a (.osl 0 4 0 0))) [.arz 4 []]) := by
 constructor
 · intro hn
   refine AC.vc hP sh lv103 (Nat.le_refl _) (by simp) (by simp) (Eq.mpr (v103 ..) ?_)
   refine z01 (fun h => absurd (of_decide_eq_true h) (by omega)) (fun _ => ⟨rfl, z01 (fun h => ?_) (fun _ => zh2 (.refl _))⟩)
   rw [w64 (by omega) (by omega)] at h
   exact absurd (of_decide_eq_true h) (by omega)
 · intro hn
   refine AC.vc hP sh lv103 (by simp) (by simp) (by simp [isLive]) (Eq.mpr (v103 ..) ?_)
   rw [w64 (by omega) (by omega)]
   refine z01 (fun h => absurd (of_decide_eq_true h) (by omega)) (fun _ => ⟨rfl, z01 (fun h => ⟨rfl, ⟨by omega, by omega, by omega⟩, ⟨by omega, by unfold z0k; omega⟩, rfl, ⟨by omega, by omega, by omega⟩, .refl _, rfl⟩) (fun h => absurd (of_decide_eq_false h) (by omega))⟩)
def FLs (ls : List (List Tm)) : List (List FV) := ls.map fun l => [.sl false 4 (FTs l)]
def z48 (ls : List (List Tm)) : Nat := (ls.map List.length).foldr (· + ·) 0
theorem z9h (ls : List (List Tm)) : (FLs ls).length = ls.length := by simp [FLs]
theorem midL (a : List (List Tm)) (l : List Tm) (b : List (List Tm)) : List.getD (FLs (a ++ l :: b)) (Int.toNat (a.length : Int)) [] = [.sl false 4 (FTs l)] := by
 rw [show Int.toNat (a.length : Int) = a.length by omega]
 simp [List.getD, FLs]
theorem ltL (a : List (List Tm)) (t : List Tm) (b : List (List Tm)) : (a.length : Int) < (((FLs (a ++ t :: b)).length : Nat) : Int) := by rw [z9h]; exact ltI a t b
theorem zgb (a : List (List Tm)) (l : List Tm) (b : List (List Tm)) : z48 (a ++ l :: b) = z48 a + l.length + z48 b := by
 induction a with
 | nil => simp [z48]
 | cons x a ih => simp only [z48, List.cons_append, List.map_cons, List.foldr_cons] at ih ⊢; omega
theorem zoc (a : List (List Tm)) (l : List Tm) : z48 (a ++ [l]) = z48 a + l.length := by rw [zgb]; simp [z48]
abbrev aLs (ls : List (List Tm)) : TV := .c (.a (.fz (.sl false 1 (FLs ls))))
theorem z5n {n : Nat} (h : n ≤ 2199023255552) : z0k n 56 := by unfold z0k; omega
theorem zrc : ∀ (b a : List (List Tm)) (acc : List Tm), acc.length + z48 b ≤ 2199023255552 → (a ++ b).length ≤ B →
  RPt Tryz.prog 70 0 (aL (acc ++ b.flatten)) [] 5 ⟨[(6, (.c (.a (.osl 0 4 0 acc.length)))), (25, aLs (a ++ b)), (26, ci (a ++ b).length), (27, ci a.length)], [(0, (.arz 4 (FTs acc)))], 1⟩
 | [], a, acc, ht, hl => by
  refine RPt.vc hP sh lv70 (Eq.mpr (v70_5b ..) ?_)
  refine z01 (fun h => absurd (of_decide_eq_true h) (by simp)) (fun _ => ⟨⟨rfl, by rw [z00]; omega⟩, zh2 ?_⟩)
  rw [List.drop_zero, List.take_of_length_le (by rw [z00]; omega), List.flatten_nil, List.append_nil]
  exact le_c leSl
 | l :: b, a, acc, ht, hl => by
  refine RPt.vc hP sh lv70 (Eq.mpr (v70_5b ..) ?_)
  have hl' := hl
  have h3 := ltL a l b
  simp only [List.length_append, List.length_cons, B] at hl'
  have ht' : acc.length + (l.length + z48 b) ≤ 2199023255552 := by simpa [z48] using ht
  have h2 := zrc b (a ++ [l]) (acc ++ l) (by rw [List.length_append]; omega) (by rw [ap]; exact hl)
  rw [ap, nx] at h2
  rw [midL, w64 (by omega) (by omega)]
  refine z01 (fun _ => ⟨⟨rfl, by omega, h3, rfl⟩, rfl, ⟨by rw [z00]; omega, ?_⟩, ?_⟩) (fun h => absurd (ltI a l b) (of_decide_eq_false h))
  · show z0k (acc.length + (FTs l).length) 56
    rw [z00]; exact z5n (by omega)
  · show RPt _ _ _ _ _ _ ⟨[(6, (.c (.a (.osl 0 4 0 (acc.length + (FTs l).length))))), _, _, _], [(0, .arz 4 (List.take acc.length (FTs acc) ++ FTs l))], 1⟩
    rw [List.take_of_length_le (by rw [z00]; omega), ← z1x, z00, ← List.length_append]
    rw [show acc ++ (l :: b).flatten = acc ++ l ++ b.flatten by simp]
    exact h2
theorem l_cat2 : ∀ (b a : List (List Tm)), z48 b ≤ 2199023255552 → (a ++ b).length ≤ B →
  RPt Tryz.prog 70 0 (aL b.flatten) [] 5 ⟨[(6, (.c (.a (.fz .nils)))), (25, aLs (a ++ b)), (26, ci (a ++ b).length), (27, ci a.length)], [], 0⟩
 | [], a, ht, hl => by
  refine RPt.vc hP sh lv70 (Eq.mpr (v70_5a ..) ?_)
  refine z01 (fun h => absurd (of_decide_eq_true h) (by simp)) (fun _ => zh2 (le_c z0c))
 | l :: b, a, ht, hl => by
  refine RPt.vc hP sh lv70 (Eq.mpr (v70_5a ..) ?_)
  have hl' := hl
  have h3 := ltL a l b
  simp only [List.length_append, List.length_cons, B] at hl'
  have ht' : l.length + z48 b ≤ 2199023255552 := by simpa [z48] using ht
  rw [midL, w64 (by omega) (by omega)]
  refine z01 (fun _ => ⟨⟨rfl, by omega, h3, rfl⟩, rfl, ?_⟩) (fun h => absurd (ltI a l b) (of_decide_eq_false h))
  show br (List.isEmpty (FTs l)) _ _
  refine z01 (fun he => ?_) (fun he => ⟨?_, ?_⟩)
  · have h2 := l_cat2 b (a ++ [l]) (by omega) (by rw [ap]; exact hl)
    rw [ap, nx] at h2
    have hnil : l = [] := by cases l with
     | nil => rfl
     | cons x l => simp [FTs] at he
    rw [show (l :: b).flatten = b.flatten by rw [hnil]; simp]
    exact h2
  · show z0k (FTs l).length 56
    rw [z00]; exact z5n (by omega)
  · have h2 := zrc b (a ++ [l]) l (by omega) (by rw [ap]; exact hl)
    rw [ap, nx] at h2
    show RPt _ _ _ _ _ _ ⟨[(6, (.c (.a (.osl 0 4 0 (FTs l).length)))), _, _, _], [(0, .arz 4 (FTs l))], 1⟩
    rw [z00, List.flatten_cons]
    exact h2
theorem l_cat1 : ∀ (b a : List (List Tm)), z48 (a ++ b) ≤ 2199023255552 → (a ++ b).length ≤ B →
  RPt Tryz.prog 70 0 (aL (a ++ b).flatten) [] 1 ⟨[(0, aLs (a ++ b)), (3, ci (z48 a)), (9, aLs (a ++ b)), (10, ci (a ++ b).length), (11, ci a.length)], [], 0⟩
 | [], a, ht, hl => by
  refine RPt.vc hP sh lv70 (Eq.mpr (v70_1a ..) ?_)
  have hg := c_grow (z48 a : Int) (by omega) (by simp only [List.append_nil] at ht; omega)
  refine z01 (fun h => absurd (of_decide_eq_true h) (by simp)) (fun _ => ?_)
  have e : (((FLs (a ++ [])).length : Nat) : Int) = (((a ++ []).length : Nat) : Int) := by rw [z9h]
  rw [e]
  by_cases hz : z48 a = 0
  · have h2 := l_cat2 (a ++ []) [] (by simpa using ht) (by simpa using hl)
    exact .inl ⟨(), hg.1 (by omega), rfl, by simpa using h2⟩
  · have h2 := zrc (a ++ []) [] [] (by simpa using ht) (by simpa using hl)
    exact .inr ⟨(), hg.2 (by omega), rfl, by simpa [FTs] using h2⟩
 | l :: b, a, ht, hl => by
  refine RPt.vc hP sh lv70 (Eq.mpr (v70_1a ..) ?_)
  have hl' := hl
  have ht' := ht
  have h3 := ltL a l b
  rw [zgb] at ht'
  simp only [List.length_append, List.length_cons, B] at hl'
  have h2 := l_cat1 b (a ++ [l]) (by rw [ap]; exact ht) (by rw [ap]; exact hl)
  rw [ap, nx, zoc] at h2
  rw [midL, w64 (x := (a.length : Int) + 1) (by omega) (by omega)]
  refine z01 (fun _ => ⟨⟨rfl, by omega, h3, rfl⟩, rfl, ?_⟩) (fun h => absurd (ltI a l b) (of_decide_eq_false h))
  show br (decide (IntKind.wrap .i64 ((z48 a : Int) + (((FTs l).length : Nat) : Int)) < 0)) _ (RPt _ _ _ _ _ _ ⟨[_, (3, ci (IntKind.wrap .i64 ((z48 a : Int) + (((FTs l).length : Nat) : Int)))), _, _, _], _, _⟩)
  rw [z00, w64 (by omega) (by omega)]
  refine z01 (fun h => absurd (of_decide_eq_true h) (by omega)) (fun _ => ?_)
  simpa using h2
theorem c_concat (ls : List (List Tm)) (ht : z48 ls ≤ 2199023255552) (hl : ls.length ≤ B) : AC Tryz.prog 70 [aLs ls] [] (aL ls.flatten) [] := by
 refine AC.vc hP sh lv70 (Nat.le_refl _) (by simp) (by simp) (Eq.mpr (v70 ..) ?_)
 have := l_cat1 ls [] (by simpa using ht) (by simpa using hl)
 have e : (((FLs ls).length : Nat) : Int) = ((ls.length : Nat) : Int) := by rw [z9h]
 rw [e]
 exact ⟨rfl, by simpa [z48] using this⟩
theorem zbo {x y : FV} {l m : List Tm} (hx : FV.Le x (.sl false 4 (FTs l))) (hy : FV.Le y (.sl false 4 (FTs m))) (ht : l.length + m.length ≤ 2199023255552) : AC Tryz.prog 70 [.c (.a (.fz (.sl false 1 [[x], [y]])))] [] (aL (l ++ m)) [] := by
 have h := c_concat [l, m] (by simpa [z48] using ht) (by simp [B])
 rw [show [l, m].flatten = l ++ m by simp] at h
 refine h.args ⟨le_c (.trans _ _ _ (.rows false 1 _ (FLs [l, m]) rfl (fun i e e' he he' => ?_) (fun i j e e' f f' he he' hf hf' => ?_)) (.nn _ _ _)), trivial⟩
 · match i, he, he' with
   | 0, he, he' => simp [FLs] at he he'; subst he; subst he'; rfl
   | 1, he, he' => simp [FLs] at he he'; subst he; subst he'; rfl
   | i + 2, he, he' => simp at he
 · match i, he, he' with
   | 0, he, he' =>
    simp [FLs] at he he'; subst he; subst he'
    match j, hf, hf' with
    | 0, hf, hf' => simp at hf hf'; subst hf; subst hf'; exact hx
    | j + 1, hf, hf' => simp at hf
   | 1, he, he' =>
    simp [FLs] at he he'; subst he; subst he'
    match j, hf, hf' with
    | 0, hf, hf' => simp at hf hf'; subst hf; subst hf'; exact hy
    | j + 1, hf, hf' => simp at hf
   | i + 2, he, he' => simp at he
def z07 (f : Tm) (args : List Tm) : Tm :=
 match args with
 | [] => f
 | _ => if (f.k == 6) = true ∧ f.l ≠ [] then .mk 6 [] 0 (f.l ++ args) else .mk 6 [] 0 (f :: args)
theorem z3d (f : Tm) (args : List Tm) (h : f.l.length + args.length < 2199023255552) : AC Tryz.prog 24 [aT f, aL args] [] (aT (z07 f args)) [] := by
 obtain ⟨k, s, n, l⟩ := f
 simp only [Tm.l] at h
 refine AC.vc hP sh lv24 (Nat.le_refl _) (by simp) (by simp) (Eq.mpr (v24 k s n (FTs l) (FTs args) _ _) ?_)
 refine ⟨rfl, z01 (fun h1 => ?_) (fun h1 => ?_)⟩
 · have : args = [] := by cases args with
    | nil => rfl
    | cons x l => simp [FTs] at h1; omega
   subst this
   exact zh2 (.refl _)
 · match args, h1, h with
   | [], h1, _ => simp [FTs] at h1
   | a :: r, h1, h =>
    have one : FV.Le (.sl false 4 [[.int .i64 k, .str s, .int .i64 n, .sl false 4 (FTs l)]]) (.sl false 4 (FTs [.mk k s n l])) := .nn _ _ _
    have same : ∀ l : List Tm, FV.Le (.sl false 4 (FTs l)) (.sl false 4 (FTs l)) := fun _ => .refl _
    refine z01 (fun h2 => ⟨rfl, z01 (fun h3 => ⟨⟨rfl, by omega⟩, _, zbo (same l) (same (a :: r)) (by omega), zh2 ?_⟩) (fun h3 => ⟨⟨rfl, by omega⟩, ⟨rfl, by omega⟩, _, zbo one (same (a :: r)) (by simp only [List.length_cons, List.length_nil] at h ⊢; omega), zh2 ?_⟩)⟩)
     (fun h2 => ⟨⟨rfl, by omega⟩, ⟨rfl, by omega⟩, _, zbo one (same (a :: r)) (by simp only [List.length_cons, List.length_nil] at h ⊢; omega), zh2 ?_⟩)
    · have hl : l ≠ [] := by intro e; subst e; simp [FTs] at h3
      rw [show z07 (.mk k s n l) (a :: r) = .mk 6 [] 0 (l ++ a :: r) from if_pos ⟨h2, hl⟩]
      exact .refl _
    · have hl : l = [] := by cases l with
       | nil => rfl
       | cons x l => simp [FTs] at h3
      rw [show z07 (.mk k s n l) (a :: r) = .mk 6 [] 0 (.mk k s n l :: a :: r) from if_neg (fun e => e.2 hl)]
      exact .refl _
    · rw [show z07 (.mk k s n l) (a :: r) = .mk 6 [] 0 (.mk k s n l :: a :: r) from if_neg (fun e => by have := e.1; simp only [Tm.k, h2] at this; cases this)]
      exact .refl _
end Go.AM
