/- A calculus of plain values for the model's code, what the code of each function asks (computed by the kernel), contracts of the functions, and plain laws (part 4). No conditions. -/
import Derived.Test.YtdpjhpfjmjhhkaaGreatPart3
import Derived.Test.YtdpjhpfjmjhhkaaGreatProg
import Derived.Test.YtdpjhpfjmjhhkaaGreatShelf
set_option maxRecDepth 100000
open Go Go.Proofs
namespace Go.AM
abbrev RW := List (List FV)
abbrev RT (a : TV) (b : List AObj) (r : TV) (H : List AObj) : Prop := TV.Le a r ∧ b = H
open List (getD length take drop)
open Int (toNat)
abbrev Q0 (a : FV) : WV := .a (.fz a)
abbrev Q1 (a : Int) : FV := .int .i64 a
abbrev Q2 (a : Int) : WV := Q0 (Q1 a)
abbrev Q3 (a b c d : Nat) : WV := .a (.osl a b c d)
abbrev Q4 (a : Nat) (b : RW) : FV := .sl false a b
abbrev Q5 (a : Nat) (b : WV) : Nat × TV := (a, .c b)
abbrev Q6 (a : List UInt8) : WV := Q0 (.str a)
abbrev Q7 (a : Nat) (b : List WV) : AObj := .arr a [b]
abbrev Q8 (a : Nat) (b : RW) : WV := Q0 (Q4 a b)
abbrev Q9 (a b c d : Nat) : WV := .a (.ep a b c d)
abbrev Q10 (a : Nat) (b : List TV) (c : List AObj) (d : TV) (e : List AObj) : Prop := AC Tryz.prog a b c d e
abbrev Q12 (a : Bool) : WV := Q0 (.bool a)
abbrev Q14 (a : Int) (b : List UInt8) (c : Int) (d : WV) : List WV := [Q2 a, Q6 b, Q2 c, d]
abbrev Q18 (a : Nat) (b : Int) : Nat × TV := Q5 a (Q2 b)
abbrev Q19 (a : List WV) : Bool × (List WV) := (false, a)
abbrev Q20 (a : Int) (b : List UInt8) (c : Int) (d : Nat) (e : RW) : List WV := Q14 a b c (Q8 d e)
abbrev Q21 (a : RW) : AObj := .arz 1 a
abbrev Q22 (a : RW) : AObj := .arz 6 a
abbrev Q25 (a : Int) : TV := .c (Q2 a)
abbrev Q26 (a b : Nat) (c : List WV) : Nat × AObj := (a, Q7 b c)
abbrev Q29 (a : Int) : List WV := [Q2 a]
abbrev Q30 (a : Int) : Bool × (List WV) := Q19 (Q29 a)
abbrev Q31  : WV := Q0 .nils
abbrev Q32 (a : Bool) : TV := .c (Q12 a)
abbrev Q37 (a b c d : Nat) : AObj := Q7 2 [Q3 a 6 0 b, Q3 c 1 0 d]
abbrev Q38 (a : Nat) : Nat × AObj := (a, .gone)
abbrev Q39 (a b : WV) (c : Int) (d : WV) (e : Int) (f : WV) : List WV := [a, b, Q2 c, d, Q2 e, f]
abbrev Q40 (a : List WV) : Bool × (List WV) := (true, a)
abbrev Q41 (a b : AObj) (c : RW) : List AObj := [a, b, Q21 c]
abbrev Q47 (a b c d : Nat) (e f : RW) : List AObj := Q41 (Q37 a b c d) (Q22 e) f
abbrev Q48 (a b c d : Nat) (e : WV) (f : Int) : List WV := [Q9 a b c d, e, Q2 f]
abbrev Q49 (a : List (Bool × (List WV))) (b : List AObj) (c : TV) (d : List AObj) : Prop := RT (.tup a) b c d
abbrev Q50 (a : Int) (b : List UInt8) (c : Int) : List WV := Q14 a b c Q31
abbrev Q54 (a b c : Nat) : Nat × TV := Q5 a (Q9 b c 0 0)
abbrev Q56 (a : Bool) (b : List AObj) (c : TV) (d : List AObj) : Prop := RT (Q32 a) b c d
abbrev Q57 (a : Nat) (b : List TV) (c : TV) (d : List AObj) : Prop := Q10 a b [] c d
abbrev Q58 (a b c d : Nat) (e f : Int) (g : Nat) (h : RW) (i j : Int) : List WV := Q39 (Q9 a b c d) (Q2 e) f (Q8 g h) i (Q2 j)
abbrev Q59 (a : Nat) (b : List TV) (c : TV) : Prop := Q57 a b c []
abbrev Q60 (a b c d e f g h : Nat) (i : Int) : List WV := Q48 a b c d (Q3 e f g h) i
abbrev Q61 (a : List WV) (b : Bool × (List WV)) : List (Bool × (List WV)) := [Q40 a, b]
abbrev Q62 (a b : Nat) (c : RW) : Nat × TV := Q5 a (Q8 b c)
abbrev Q63 (a : Nat) (b : RW) : Nat × AObj := (a, Q21 b)
abbrev Q64 (a b c d e f g h i : Nat) (j : Int) : AObj := Q7 a (Q60 b c d e f g h i j)
abbrev Q66 (a : Nat) (b : List TV) (c : Bool) : Prop := Q59 a b (Q32 c)
abbrev Q67 (a b : Nat) (c : RW) : Nat × AObj := (a, .arz b c)
abbrev Q68 (a : Int) (b c d e f g h i : WV) : List WV := [Q2 a, b, c, d, e, f, g, h, i]
abbrev Q69 (a : Nat) (b : RW) : TV := .c (Q8 a b)
abbrev Q70 (a : Nat) (b : RW) : Nat × AObj := (a, Q22 b)
abbrev Q71 (a b : Nat) (c : TV) (d : List AObj) (e : Nat) (f : List (Nat × TV)) (g : List (Nat × AObj)) (h : Nat) : Prop := RPt Tryz.prog a b c d e ⟨f, g, h⟩
abbrev Q73 (a : Int) (b : List AObj) (c : TV) (d : List AObj) : Prop := RT (Q25 a) b c d
abbrev Q74 (a b : List WV) : List (Bool × (List WV)) := Q61 a (Q19 b)
abbrev Q75 (a b c d e : Nat) : Nat × AObj := (a, Q37 b c d e)
abbrev Q76 (a : Int) (b : List UInt8) (c : Int) (d : RW) : TV := .agg (Q20 a b c 4 d)
abbrev Q77 (a b : Nat) (c : Int) (d : List UInt8) (e : Int) : Nat × AObj := Q26 a b (Q50 c d e)
abbrev Q78 (a b c d e : Nat) (f g : Int) (h : Nat) (i : RW) (j k : Int) : AObj := Q7 a (Q58 b c d e f g h i j k)
abbrev Q79 (a : Nat) (b : List TV) (c : List AObj) (d : List (Bool × (List WV))) (e : List AObj) : Prop := Q10 a b c (.tup d) e
abbrev Q82 (a b : Bool × (List WV)) (c : Int) : List (Bool × (List WV)) := [a, b, Q30 c]
abbrev Q85 (a b : Nat) : TV := .c (Q9 a b 0 0)
abbrev Q86 (a : Bool) (b : TV) (c : List AObj) : Prop := Q56 a [] b c
abbrev Q87 (a b c d : AObj) (e : Nat) (f : RW) : List AObj := [a, b, c, d, .arz e f]
abbrev Q88 (a b c d e : AObj) : List AObj := [a, b, .gone, c, d, e]
abbrev Q89 (a b : Nat) (c d : TV) : List TV := [Q85 a b, c, d]
abbrev Q90 (a b c d e : Nat) : Nat × TV := Q5 a (Q3 b c d e)
abbrev Q92 (a : Bool × (List WV)) (b c : Int) : List (Bool × (List WV)) := Q82 a (Q30 b) c
abbrev Q93 (a : AObj) (b c d e : Nat) (f g : RW) : List AObj := [a, Q37 b c d e, Q22 f, Q21 g]
abbrev Q94 (a : Int) : AObj := Q7 1 (Q29 a)
abbrev Q96 (a : TV) (b : List AObj) : Prop := Q86 false a b
abbrev Q102 (a : AObj) (b c d e : Nat) (f g : RW) (h : Nat) (i : RW) : List AObj := [a, Q37 b c d e, .gone, .gone, .gone, Q22 f, Q21 g, .arz h i]
abbrev Q103 (a b : Nat) (c : Int) (d : List UInt8) (e : Int) (f : Nat) (g : RW) : Nat × AObj := Q26 a b (Q20 c d e f g)
abbrev Q104 (a : Bool) : List WV := [Q12 a]
abbrev Q105 (a : List WV) (b : Bool) : List (Bool × (List WV)) := Q74 a (Q104 b)
abbrev Q106 (a b : Nat × TV) (c : Nat) (d : Int) (e : Nat) (f : Int) : List (Nat × TV) := [a, b, Q18 c d, Q18 e f]
abbrev Q107 (a : TV) (b : WV) : List TV := [a, .c b]
abbrev Q108 (a b : Nat) (c : Int) : Nat × AObj := Q26 a b (Q29 c)
abbrev Q111 (a : Nat) (b : Int) (c : List UInt8) (d : Int) (e : Nat) (f : RW) : AObj := Q7 a (Q20 b c d e f)
abbrev Q112 (a b c d : Nat) (e f : RW) : List AObj := [Q37 a b c d, .gone, .gone, Q22 e, Q21 f]
abbrev Q113 (a : TV) (b : Int) : List TV := [a, Q25 b]
abbrev Q114 (a : Nat) : Nat × TV := Q5 a Q31
abbrev Q115 (a b : Nat) : Nat × TV := Q54 a b 4
abbrev Q116 (a : Int) (b : Bool) (c : Int) (d : List UInt8) (e : Int) (f : WV) : List WV := Q39 (Q2 a) (Q12 b) c (Q6 d) e f
abbrev Q118 (a b : Nat) : AV := .ep a b 0 0
abbrev Q119 (a : Nat) : AV := Q118 a 1
abbrev Q120 (a : Int) (b : AObj) : List AObj := [Q94 a, b]
abbrev Q121 (a : RW) : WV := Q8 4 a
abbrev Q122 (a : Int) (b : Bool) (c : Int) (d : List UInt8) (e : Int) (f : RW) : List WV := Q116 a b c d e (Q121 f)
abbrev Q124 (a : Int) (b c : WV) (d : RW) (e f g : WV) (h : RW) (i : WV) : List WV := Q68 a b c (Q121 d) e f g (Q121 h) i
abbrev Q125 (a : Int) (b c : WV) (d : RW) (e f g : WV) (h i : RW) : List WV := Q124 a b c d e f g h (Q121 i)
abbrev Q126 (a : List WV) (b : Int) : List (Bool × (List WV)) := Q61 a (Q30 b)
abbrev Q127 (a : Nat) (b : RW) (c : WV) : List TV := Q107 (Q69 a b) c
abbrev Q128 (a : Nat × TV) (b : Nat) (c : WV) (d : Nat) (e : Int) (f : Nat) (g : Int) : List (Nat × TV) := Q106 a (Q5 b c) d e f g
theorem hP : Tryz.prog.follows .mixedOrders = true := by kernel_rfl
def sh : FuncId → List Sh
 | 12 => [⟨Sto × Sto, fun _ => (.tup [Q19 [Q9 0 2 0 0], Q19 [Q9 3 2 0 0]]), fun x _ => [Q37 1 (length x.1.V) 2 (length x.1.T), Q22 (SR x.1.V), Q21 (IR x.1.T), Q37 4 (length x.2.V) 5 (length x.2.T), Q22 (SR x.2.V), Q21 (IR x.2.T)], false, false⟩]
 | 13 => [⟨List Tm × Int × Int, fun x => (.tup (Q92 (Q19 [Q121 (FTs x.1)]) x.2.1 x.2.2)), fun _ H => H, true, false⟩]
 | 14 => [⟨List Tm × Int × Int, fun x => (.tup (Q92 (Q19 [Q121 (FTs x.1)]) x.2.1 x.2.2)), fun _ H => H, true, false⟩]
 | 18 => [⟨(Tm × Int × Int) × Sto, fun x => (.tup (Q92 (Q40 (cT x.1.1)) x.1.2.1 x.1.2.2)), fun x _ => (Q112 3 (length x.2.V) 4 (length x.2.T) (SR x.2.V) (IR x.2.T)), true, false⟩]
 | 19 => [⟨Int × Bool × Tm × Bool, fun x => (.tup (Q105 (Q122 x.1 x.2.1 x.2.2.1.k x.2.2.1.s x.2.2.1.n (FTs x.2.2.1.l)) x.2.2.2)), fun _ H => H, true, false⟩]
 | 21 => [⟨Tm × Int × Int, fun x => (.tup (Q92 (Q40 (cT x.1)) x.2.1 x.2.2)), fun _ H => H, true, false⟩]
 | 24 => [⟨Tm, fun x => (aT x), fun _ H => H, true, false⟩]
 | 26 => [⟨Tm, fun x => (aT x), fun _ H => H, true, false⟩]
 | 30 => [⟨Sto × Sto, fun _ => (.tup [Q19 [Q9 0 2 0 0], Q19 [Q9 3 2 0 0]]), fun x _ => [Q37 1 (length x.1.V) 2 (length x.1.T), Q22 (SR x.1.V), Q21 (IR x.1.T), Q37 4 (length x.2.V) 5 (length x.2.T), Q22 (SR x.2.V), Q21 (IR x.2.T)], false, false⟩]
 | 32 => [⟨(Int × Int) × Sto, fun x => (.tup [Q30 x.1.1, Q30 x.1.2]), fun x _ => (Q112 3 (length x.2.V) 4 (length x.2.T) (SR x.2.V) (IR x.2.T)), true, false⟩]
 | 34 => [⟨Unit, fun _ => (Q85 0 2), fun _ _ => (Q47 1 0 2 0 [] []), false, false⟩]
 | 35 => [⟨Int × Sto, fun x => (Q25 x.1), fun x _ => (Q112 3 (length x.2.V) 4 (length x.2.T) (SR x.2.V) (IR x.2.T)), false, false⟩]
 | 36 => [⟨(Int × Int) × Sto, fun x => (.tup [Q30 x.1.1, Q30 x.1.2]), fun x _ => (Q112 3 (length x.2.V) 4 (length x.2.T) (SR x.2.V) (IR x.2.T)), true, false⟩]
 | 45 => [⟨Tm, fun x => (aT x), fun _ H => H, true, false⟩]
 | 46 => [⟨Int × Sto, fun x => (Q25 x.1), fun x _ => (Q112 3 (length x.2.V) 4 (length x.2.T) (SR x.2.V) (IR x.2.T)), false, false⟩]
 | 47 => [⟨Int × Sto, fun x => (Q25 x.1), fun x _ => (Q112 3 (length x.2.V) 4 (length x.2.T) (SR x.2.V) (IR x.2.T)), false, false⟩]
 | 48 => [⟨Int × Sto, fun x => (Q25 x.1), fun x _ => (Q112 3 (length x.2.V) 4 (length x.2.T) (SR x.2.V) (IR x.2.T)), false, false⟩]
 | 49 => [⟨Bool, fun x => (Q32 x), fun _ H => H, true, true⟩]
 | 51 => [⟨Tm × Bool, fun x => (.tup (Q105 (cT x.1) x.2)), fun _ H => H, true, false⟩]
 | 55 => [⟨Tm × Int × Int, fun x => (.tup (Q92 (Q40 (cT x.1)) x.2.1 x.2.2)), fun _ H => H, true, false⟩]
 | 56 => [⟨Tm × Bool, fun x => (.tup (Q105 (cT x.1) x.2)), fun _ H => H, true, false⟩]
 | 58 => [⟨Int, fun _ => (.tup []), fun x _ => [Q94 x], false, false⟩, ⟨Unit, fun _ => (.tup []), fun _ _ => [Q7 1 [Q31]], false, false⟩, ⟨Nat × RW, fun _ => (.tup []), fun x _ => [Q7 1 [Q3 1 1 0 x.1], Q21 x.2], false, false⟩, ⟨Nat × RW, fun _ => (.tup []), fun x _ => (Q41 (Q7 1 [Q3 2 1 0 x.1]) .gone x.2), false, false⟩]
 | 59 => [⟨Unit, fun _ => (.tup []), fun _ _ => [Q7 1 [Q31]], false, false⟩, ⟨Nat × RW, fun _ => (.tup []), fun x _ => [Q7 1 [Q3 1 1 0 x.1], Q21 x.2], false, false⟩, ⟨Nat × RW, fun _ => (.tup []), fun x _ => (Q41 (Q7 1 [Q3 2 1 0 x.1]) .gone x.2), false, false⟩]
 | 63 => [⟨Tm × Sto × Int × Int × List Tm × Int × Int, fun x => (aT x.1), fun x _ => (Q88 (Q78 6 1 2 0 0 x.2.2.1 x.2.2.2.1 4 (FTs x.2.2.2.2.1) x.2.2.2.2.2.1 x.2.2.2.2.2.2) (Q37 4 (length x.2.1.V) 5 (length x.2.1.T)) .gone (Q22 (SR x.2.1.V)) (Q21 (IR x.2.1.T))), true, false⟩]
 | 67 => [⟨Tm × Int × Int, fun x => (.tup (Q92 (Q40 (cT x.1)) x.2.1 x.2.2)), fun _ H => H, true, false⟩]
 | 68 => [⟨Tm × Int × Int, fun x => (.tup (Q126 (cT x.1) x.2.1)), fun x H => List.set H 3 (Q94 x.2.2), true, false⟩]
 | 69 => [⟨Int, fun _ => (.tup []), fun x _ => [Q94 x], false, false⟩]
 | 70 => [⟨List Tm, fun x => (Q69 4 (FTs x)), fun _ H => H, true, false⟩]
 | 71 => [⟨Tm, fun x => (aT x), fun _ H => H, true, false⟩]
 | 72 => [⟨Sto, fun _ => (.tup []), fun x _ => (Q112 3 (length x.V) 4 (length x.T) (SR x.V) (IR x.T)), false, false⟩]
 | 75 => [⟨RW, fun _ => (.c (.fn (.func 108) [] [(false, [(Q119 0)])])), fun x _ => [Q7 1 [Q8 8 x]], true, false⟩]
 | 76 => [⟨Int × Sto × Nat × RW × Int, fun x => (Q25 x.1), fun x H => bif Nat.beq H.length 5 then (Q102 (Q64 3 1 2 0 0 7 8 0 x.2.2.1 x.2.2.2.2) 5 (length x.2.1.V) 6 (length x.2.1.T) (SR x.2.1.V) (IR x.2.1.T) 8 x.2.2.2.1) else (Q88 (Q7 3 (Q48 1 2 0 0 Q31 x.2.2.2.2)) (Q37 4 (length x.2.1.V) 5 (length x.2.1.T)) .gone (Q22 (SR x.2.1.V)) (Q21 (IR x.2.1.T))), true, false⟩]
 | 77 => [⟨List Int, fun x => (Q69 1 (IR x)), fun _ H => H, true, false⟩]
 | 78 => [⟨List MapZ, fun _ => (Q85 0 1), fun x _ => [Q7 1 [.a (.mp 1)], .mapz x], true, false⟩]
 | 79 => [⟨List Int, fun x => (Q69 1 (IR x)), fun _ H => H, true, false⟩]
 | 83 => [⟨Int, fun x => (Q25 x), fun _ H => H, true, true⟩]
 | 86 => [⟨Tm × Int × Int, fun x => (.tup (Q92 (Q40 (cT x.1)) x.2.1 x.2.2)), fun _ H => H, true, false⟩]
 | 87 => [⟨Tm, fun x => (aT x), fun _ H => H, true, false⟩]
 | 90 => [⟨Int × Int × List Tm × Int × Int, fun _ => (Q76 0 [] 0 []), fun x H => List.set H 0 (Q78 6 1 2 0 0 x.1 x.2.1 4 (FTs x.2.2.1) x.2.2.2.1 x.2.2.2.2), true, false⟩]
 | 91 => [⟨Tm × Int × Int, fun x => (.tup (Q92 (Q40 (cT x.1)) x.2.1 x.2.2)), fun _ H => H, true, false⟩]
 | 92 => [⟨Tm, fun x => (.tup (Q74 (cT x) [Q31])), fun _ _ => [], false, false⟩, ⟨Tm × List Tm, fun x => (.tup (Q74 (cT x.1) [Q3 0 4 0 (length x.2)])), fun x _ => [.arz 4 (FTs x.2)], false, false⟩]
 | 93 => [⟨Tm × Sto × Int × Int × List Tm × Int × Int, fun x => (aT x.1), fun x _ => (Q88 (Q78 6 1 2 0 0 x.2.2.1 x.2.2.2.1 4 (FTs x.2.2.2.2.1) x.2.2.2.2.2.1 x.2.2.2.2.2.2) (Q37 4 (length x.2.1.V) 5 (length x.2.1.T)) .gone (Q22 (SR x.2.1.V)) (Q21 (IR x.2.1.T))), true, false⟩]
 | 94 => [⟨Tm × Bool, fun x => (.tup (Q105 (cT x.1) x.2)), fun _ H => H, true, false⟩]
 | 101 => [⟨Tm × Int × Int, fun x => (.tup (Q126 (cT x.1) x.2.1)), fun x H => List.set H 3 (Q94 x.2.2), true, false⟩]
 | 102 => [⟨Bool, fun x => (.c (Q0 (.sl x 4 []))), fun _ _ => [], false, false⟩, ⟨RW, fun x => (.c (Q3 0 4 0 (length x))), fun x _ => [.arz 4 x], false, false⟩]
 | 103 => [⟨Unit, fun _ => (.c Q31), fun _ _ => [], false, false⟩, ⟨Unit, fun _ => (.c (Q3 0 4 0 0)), fun _ _ => [.arz 4 []], false, false⟩]
 | 104 => [⟨Tm × Bool, fun x => (.tup (Q105 (cT x.1) x.2)), fun _ H => H, true, false⟩]
 | 105 => [⟨Nat, fun x => (.c (Q3 0 1 0 x)), fun _ H => H, false, true⟩]
 | 109 => [⟨Int × Sto × Nat × RW × Int, fun x => (Q25 x.1), fun x _ => (Q102 (Q64 3 1 2 0 0 7 8 0 x.2.2.1 x.2.2.2.2) 5 (length x.2.1.V) 6 (length x.2.1.T) (SR x.2.1.V) (IR x.2.1.T) 8 x.2.2.2.1), true, false⟩]
 | 111 => [⟨List Int, fun x => (Q69 1 (IR x)), fun _ H => H, true, false⟩]
 | 117 => [⟨Tm × Int × Int, fun x => (.tup (Q92 (Q40 (cT x.1)) x.2.1 x.2.2)), fun _ H => H, true, false⟩]
 | 118 => [⟨Tm, fun x => (aT x), fun _ H => H, true, false⟩]
 | 120 => [⟨Tm, fun x => (aT x), fun _ H => H, true, false⟩]
 | 121 => [⟨Tm, fun x => (aT x), fun _ H => H, true, false⟩]
 | 122 => [⟨Tm, fun x => (aT x), fun _ H => H, true, false⟩]
 | 123 => [⟨Tm × Sto, fun x => (aT x.1), fun x _ => (Q112 3 (length x.2.V) 4 (length x.2.T) (SR x.2.V) (IR x.2.T)), true, false⟩]
 | 129 => [⟨Tm × Bool × Int, fun x => (.tup (Q82 (Q40 (cT x.1)) (Q19 (Q104 x.2.1)) x.2.2)), fun _ H => H, true, false⟩]
 | 131 => [⟨Tm, fun x => (aT x), fun _ H => H, true, false⟩]
 | 132 => [⟨Int, fun x => (Q25 x), fun _ H => H, true, true⟩]
 | 133 => [⟨Tm × Tm × List Tm × Int × Nat × Int, fun x => (.tup (Q126 (Q125 x.1.k (Q6 x.1.s) (Q2 x.1.n) (FTs x.1.l) (Q2 x.2.1.k) (Q6 x.2.1.s) (Q2 x.2.1.n) (FTs x.2.1.l) (FTs x.2.2.1)) x.2.2.2.1)), fun x H => List.set H 0 (Q64 3 1 2 0 0 4 8 0 x.2.2.2.2.1 x.2.2.2.2.2), true, false⟩]
 | 134 => [⟨Sto × Nat × RW × Int, fun _ => (.tup []), fun x _ => (Q102 (Q64 3 1 2 0 0 7 8 0 x.2.1 x.2.2.2) 5 (length x.1.V) 6 (length x.1.T) (SR x.1.V) (IR x.1.T) 8 x.2.2.1), true, false⟩]
 | 135 => [⟨Tm, fun x => (aT x), fun _ H => H, true, false⟩]
 | 137 => [⟨Int × Sto × Nat × RW × Int, fun x => (Q25 x.1), fun x _ => (Q102 (Q64 3 1 2 0 0 7 8 0 x.2.2.1 x.2.2.2.2) 5 (length x.2.1.V) 6 (length x.2.1.T) (SR x.2.1.V) (IR x.2.1.T) 8 x.2.2.2.1), true, false⟩]
 | 138 => [⟨Int × Sto × Nat × RW × Int, fun x => (Q25 x.1), fun x _ => (Q102 (Q64 3 1 2 0 0 7 8 0 x.2.2.1 x.2.2.2.2) 5 (length x.2.1.V) 6 (length x.2.1.T) (SR x.2.1.V) (IR x.2.1.T) 8 x.2.2.2.1), true, false⟩]
 | 141 => [⟨Tm × Int, fun x => (.tup (Q126 (cT x.1) x.2)), fun _ H => H, true, false⟩]
 | 143 => [⟨Tm, fun x => (aT x), fun _ H => H, true, false⟩]
 | 146 => [⟨Tm × Bool, fun x => (.tup (Q105 (cT x.1) x.2)), fun _ H => H, true, false⟩]
 | 147 => [⟨Tm × Int, fun x => (.tup (Q126 (cT x.1) x.2)), fun _ H => H, true, false⟩]
 | 149 => [⟨Tm, fun x => (aT x), fun _ H => H, true, false⟩]
 | 150 => [⟨Tm, fun x => (aT x), fun _ H => H, true, false⟩]
 | 151 => [⟨Tm, fun x => (aT x), fun _ H => H, true, false⟩]
 | 152 => [⟨List Tm, fun _ => (.c (.fn (.func 167) [] [(false, [(Q119 0)])])), fun x _ => [Q7 1 [Q121 (FTs x)]], true, false⟩]
 | 153 => [⟨List Tm × Int × Nat × Int, fun x => (.tup [Q19 [Q121 (FTs x.1)], Q30 x.2.1]), fun x H => List.set H 0 (Q64 3 1 2 0 0 4 8 0 x.2.2.1 x.2.2.2), true, false⟩]
 | 155 => [⟨Int × Sto, fun x => (Q25 x.1), fun x _ => (Q112 3 (length x.2.V) 4 (length x.2.T) (SR x.2.V) (IR x.2.T)), true, false⟩]
 | 156 => [⟨Int × Sto × Nat × RW × Int, fun x => (Q25 x.1), fun x _ => (Q102 (Q64 3 1 2 0 0 7 8 0 x.2.2.1 x.2.2.2.2) 5 (length x.2.1.V) 6 (length x.2.1.T) (SR x.2.1.V) (IR x.2.1.T) 8 x.2.2.2.1), true, false⟩]
 | 159 => [⟨Tm × Bool, fun x => (.tup (Q105 (cT x.1) x.2)), fun _ H => H, true, false⟩]
 | 160 => [⟨Tm, fun x => (aT x), fun _ H => H, true, false⟩]
 | 165 => [⟨Tm × Int, fun x => (.tup (Q126 (cT x.1) x.2)), fun _ H => H, true, false⟩]
 | 170 => [⟨Tm, fun x => (aT x), fun _ H => H, true, false⟩]
 | 173 => [⟨Tm, fun x => (aT x), fun _ H => H, true, false⟩]
 | 175 => [⟨Tm, fun x => (aT x), fun _ H => H, true, false⟩]
 | 176 => [⟨Tm, fun x => (aT x), fun _ H => H, true, false⟩]
 | _ => []
abbrev VQ (l : List (Nat × List Nat)) (f m : Nat) (r : TV) (H : List AObj) (p : Nat) (s : St) : Prop := vcP Tryz.prog sh l f m (fun r0 Hs0 => TV.Le r0 r ∧ Hs0 = H) (RPt Tryz.prog f m r H) p s
abbrev VE (l : List (Nat × List Nat)) (f m : Nat) (r : TV) (H : List AObj) (a : List TV) (h : List AObj) : Prop := vcE Tryz.prog sh l f a h (fun r0 Hs0 => TV.Le r0 r ∧ Hs0 = H) (RPt Tryz.prog f m r H)
def lv8 : List (Nat × List Nat) := [(1, [2, 3, 4, 7, 13, 14])]
theorem v8 (a_0 : Int) (a_1 : List UInt8) (a_2 : Int) (a_3 : RW) (b_0 : Int) (b_1 : List UInt8) (b_2 : Int) (b_3 : RW) (vars : Int) (r : TV) (Hs' : List AObj) : VE lv8 8 0 r Hs' [Q76 a_0 a_1 a_2 a_3, Q76 b_0 b_1 b_2 b_3, Q25 vars] [] =
  (∃ b1 : Bool, ((Q66 40 [] b1) ∧ (br (!b1) (Q96 r Hs') (∃ b2 : Bool, ((Q66 41 (Q113 (Q76 a_0 a_1 a_2 a_3) 40) b2) ∧ (∃ b3 : Bool, ((Q66 41 (Q113 (Q76 b_0 b_1 b_2 b_3) 40) b3) ∧ (∃ b4 : Bool, ((Q66 42 (Q113 (Q76 a_0 a_1 a_2 a_3) 1000) b4) ∧ (br b4 (∃ b5 : Bool, ((Q66 42 (Q113 (Q76 b_0 b_1 b_2 b_3) 1000) b5) ∧ (∃ b6 : Bool, ((Q66 20 [Q76 a_0 a_1 a_2 a_3] b6) ∧ (∃ b7 : Bool, ((Q66 20 [Q76 b_0 b_1 b_2 b_3] b7) ∧ (br b2 (Q86 b1 r Hs') (br b3 (Q86 b1 r Hs') (br (!b5) (Q86 b1 r Hs') (br (!b6) (Q86 b1 r Hs') (br (!b7) (Q86 b1 r Hs') (br (decide ((vars : Int) < (0 : Int))) (Q86 b1 r Hs') (br (decide ((vars : Int) > (20 : Int))) (Q86 b1 r Hs') (∃ b8 : Bool, (∃ n9 : Int, (∃ s10 : List UInt8, (∃ n11 : Int, (∃ n12 : Int, ((Q59 44 [Q76 a_0 a_1 a_2 a_3] (.agg [Q12 b8, Q2 n9, Q6 s10, Q2 n11, Q2 n12])) ∧ (∃ b13 : Bool, (∃ n14 : Int, (∃ s15 : List UInt8, (∃ n16 : Int, (∃ n17 : Int, ((Q59 44 [Q76 b_0 b_1 b_2 b_3] (.agg [Q12 b13, Q2 n14, Q6 s15, Q2 n16, Q2 n17])) ∧ (∃ b18 : Bool, ((Q66 43 [.agg [Q12 b8, Q2 n9, Q6 s10, Q2 n11, Q2 n12], .agg [Q12 b13, Q2 n14, Q6 s15, Q2 n16, Q2 n17]] b18) ∧ (br b18 (Q86 b1 r Hs') (∃ _ : Unit, ((Q57 34 [] (Q85 0 2) (Q47 1 0 2 0 [] [])) ∧ (Q71 8 0 r Hs' 1 [Q18 2 vars, Q115 3 0, Q115 4 1, Q5 7 (Q12 b1), Q54 13 2 2, Q18 14 0] [Q103 0 4 a_0 a_1 a_2 4 a_3, Q103 1 4 b_0 b_1 b_2 4 b_3, Q75 2 3 0 4 0, Q70 3 [], Q63 4 []] 5))))))))))))))))))))))))))))))) (∃ b20 : Bool, ((Q66 20 [Q76 a_0 a_1 a_2 a_3] b20) ∧ (∃ b21 : Bool, ((Q66 20 [Q76 b_0 b_1 b_2 b_3] b21) ∧ (br b2 (Q86 b1 r Hs') (br b3 (Q86 b1 r Hs') (Q86 b1 r Hs'))))))))))))))))) := by kernel_rfl
theorem v8_1a (x2 : Int) (x7 : Bool) (x14 h0_0 : Int) (h0_1 : List UInt8) (h0_2 : Int) (h0_3 : RW) (h1_0 : Int) (h1_1 : List UInt8) (h1_2 : Int) (h1_3 : RW) (h2_0l h2_1l : Nat) (h3 h4 : RW) (r : TV) (Hs' : List AObj) : VQ lv8 8 0 r Hs' 1 ⟨[Q18 2 x2, Q115 3 0, Q115 4 1, Q5 7 (Q12 x7), Q54 13 2 2, Q18 14 x14], [Q103 0 4 h0_0 h0_1 h0_2 4 h0_3, Q103 1 4 h1_0 h1_1 h1_2 4 h1_3, Q75 2 3 h2_0l 4 h2_1l, Q70 3 h3, Q63 4 h4], 5⟩ =
  (br (decide ((x14 : Int) < x2)) ((IntKind.i64 = IntKind.i64 ∧ (3 : Int) ≠ 0) ∧ (∃ z1 : Int × Sto, ((Q10 35 (Q113 (Q85 0 2) (Int.tmod x14 (3 : Int))) (Q47 1 h2_0l 2 h2_1l h3 h4) (Q25 z1.1) (Q112 3 (length z1.2.V) 4 (length z1.2.T) (SR z1.2.V) (IR z1.2.T))) ∧ (Q71 8 0 r Hs' 1 [Q18 2 x2, Q115 3 0, Q115 4 1, Q5 7 (Q12 x7), Q54 13 2 2, Q18 14 (IntKind.wrap .i64 (x14 + 1))] [Q103 0 4 h0_0 h0_1 h0_2 4 h0_3, Q103 1 4 h1_0 h1_1 h1_2 4 h1_3, Q75 2 3 (length z1.2.V) 4 (length z1.2.T), Q70 3 (SR z1.2.V), Q63 4 (IR z1.2.T)] 5)))) (∃ z2 : (Int × Int) × Sto, ((Q79 32 [Q85 0 2, Q76 h0_0 h0_1 h0_2 h0_3, Q76 h1_0 h1_1 h1_2 h1_3, Q25 50] (Q47 1 h2_0l 2 h2_1l h3 h4) [Q30 z2.1.1, Q30 z2.1.2] (Q112 3 (length z2.2.V) 4 (length z2.2.T) (SR z2.2.V) (IR z2.2.T))) ∧ (br x7 (br ((z2.1.1 : Int) == (0 : Int)) (Q86 ((z2.1.2 : Int) == (170 : Int)) r Hs') (Q96 r Hs')) (Q96 r Hs'))))) := by kernel_rfl
def lv41 : List (Nat × List Nat) := []
theorem v41 (t_0 : Int) (t_1 : List UInt8) (t_2 : Int) (t_3 : RW) (most : Int) (r : TV) (Hs' : List AObj) : VE lv41 41 0 r Hs' (Q113 (Q76 t_0 t_1 t_2 t_3) most) [] =
  (∃ n1 : Int, ((Q59 81 (Q113 (Q76 t_0 t_1 t_2 t_3) most) (Q25 n1)) ∧ (Q86 (decide ((n1 : Int) < (0 : Int))) r Hs'))) := by kernel_rfl
def lv42 : List (Nat × List Nat) := [(1, [1, 2, 5])]
theorem v42 (t_0 : Int) (t_1 : List UInt8) (t_2 : Int) (t_3 : RW) (most : Int) (r : TV) (Hs' : List AObj) : VE lv42 42 0 r Hs' (Q113 (Q76 t_0 t_1 t_2 t_3) most) [] =
  (br ((t_0 : Int) != (2 : Int)) (br (decide ((t_2 : Int) > most)) (Q96 r Hs') (br (decide ((t_2 : Int) < (IntKind.wrap .i64 (0 - most)))) (Q96 r Hs') (Q71 42 0 r Hs' 1 [Q18 1 most, Q115 2 0, Q18 5 0] [Q103 0 4 t_0 t_1 t_2 4 t_3] 1))) (Q71 42 0 r Hs' 1 [Q18 1 most, Q115 2 0, Q18 5 0] [Q103 0 4 t_0 t_1 t_2 4 t_3] 1)) := by kernel_rfl
theorem v42_1a (x1 x5 h0_0 : Int) (h0_1 : List UInt8) (h0_2 : Int) (h0_3 : RW) (r : TV) (Hs' : List AObj) : VQ lv42 42 0 r Hs' 1 ⟨[Q18 1 x1, Q115 2 0, Q18 5 x5], [Q103 0 4 h0_0 h0_1 h0_2 4 h0_3], 1⟩ =
  ((FV.isSl 4 (Q4 4 h0_3) = true) ∧ (br (decide ((x5 : Int) < (length h0_3 : Int))) (((FV.isSl 4 (Q4 4 h0_3) = true) ∧ ((0 ≤ x5) ∧ ((x5 < (length h0_3 : Int)) ∧ (((rE (getD h0_3 (toNat x5) [])) : List FV) = (getD h0_3 (toNat x5) []))))) ∧ (∃ b1 : Bool, ((Q66 42 (Q113 (aE (getD h0_3 (toNat x5) [])) x1) b1) ∧ (br (!b1) (Q96 r Hs') (Q71 42 0 r Hs' 1 [Q18 1 x1, Q115 2 0, Q18 5 (IntKind.wrap .i64 (x5 + 1))] [Q103 0 4 h0_0 h0_1 h0_2 4 h0_3] 1))))) (Q86 true r Hs'))) := by kernel_rfl
def lv20 : List (Nat × List Nat) := []
theorem v20 (t_0 : Int) (t_1 : List UInt8) (t_2 : Int) (t_3 : RW) (r : TV) (Hs' : List AObj) : VE lv20 20 0 r Hs' [Q76 t_0 t_1 t_2 t_3] [] =
  (br ((t_0 : Int) == (0 : Int)) (∃ b1 : Bool, ((Q66 64 [.c (Q6 t_1)] b1) ∧ (br b1 (br ((t_2 : Int) == (0 : Int)) ((FV.isSl 4 (Q4 4 t_3) = true) ∧ (Q86 (((length t_3 : Int) : Int) == (0 : Int)) r Hs')) (Q96 r Hs')) (∃ b2 : Bool, ((Q66 65 [.c (Q6 t_1)] b2) ∧ (br b2 (br ((t_2 : Int) == (0 : Int)) ((FV.isSl 4 (Q4 4 t_3) = true) ∧ (Q86 (((length t_3 : Int) : Int) == (0 : Int)) r Hs')) (Q96 r Hs')) (Q96 r Hs'))))))) (br ((t_0 : Int) == (1 : Int)) (br (decide ((t_2 : Int) ≥ (1 : Int))) (br ((t_1 : List UInt8) == []) ((FV.isSl 4 (Q4 4 t_3) = true) ∧ (br (((length t_3 : Int) : Int) == (0 : Int)) (∃ z3 : Bool, ((Q66 49 (Q127 4 t_3 (.fn (.func 66) [] [])) z3) ∧ (Q86 (!z3) r Hs'))) (Q96 r Hs'))) (Q96 r Hs')) (Q96 r Hs')) (br ((t_0 : Int) == (2 : Int)) (br ((t_1 : List UInt8) == []) ((FV.isSl 4 (Q4 4 t_3) = true) ∧ (br (((length t_3 : Int) : Int) == (0 : Int)) (∃ z4 : Bool, ((Q66 49 (Q127 4 t_3 (.fn (.func 66) [] [])) z4) ∧ (Q86 (!z4) r Hs'))) (Q96 r Hs'))) (Q96 r Hs')) (br ((t_0 : Int) == (3 : Int)) (br (decide ((t_2 : Int) ≥ (0 : Int))) (br (decide ((t_2 : Int) ≤ (4611686018427387904 : Int))) (br ((t_1 : List UInt8) == []) ((FV.isSl 4 (Q4 4 t_3) = true) ∧ (br (((length t_3 : Int) : Int) == (0 : Int)) (∃ z5 : Bool, ((Q66 49 (Q127 4 t_3 (.fn (.func 66) [] [])) z5) ∧ (Q86 (!z5) r Hs'))) (Q96 r Hs'))) (Q96 r Hs')) (Q96 r Hs')) (Q96 r Hs')) (br ((t_0 : Int) == (4 : Int)) (br (decide ((t_2 : Int) ≥ (0 : Int))) (br (decide ((t_2 : Int) ≤ (4611686018427387904 : Int))) (br ((t_1 : List UInt8) == []) ((FV.isSl 4 (Q4 4 t_3) = true) ∧ (br (((length t_3 : Int) : Int) == (0 : Int)) (∃ z6 : Bool, ((Q66 49 (Q127 4 t_3 (.fn (.func 66) [] [])) z6) ∧ (Q86 (!z6) r Hs'))) (Q96 r Hs'))) (Q96 r Hs')) (Q96 r Hs')) (Q96 r Hs')) (br ((t_0 : Int) == (5 : Int)) (br ((t_2 : Int) == (0 : Int)) (br ((t_1 : List UInt8) == []) ((FV.isSl 4 (Q4 4 t_3) = true) ∧ (br (((length t_3 : Int) : Int) == (1 : Int)) (∃ z7 : Bool, ((Q66 49 (Q127 4 t_3 (.fn (.func 66) [] [])) z7) ∧ (Q86 (!z7) r Hs'))) (Q96 r Hs'))) (Q96 r Hs')) (Q96 r Hs')) (br ((t_0 : Int) == (6 : Int)) (br ((t_2 : Int) == (0 : Int)) ((FV.isSl 4 (Q4 4 t_3) = true) ∧ (br (decide (((length t_3 : Int) : Int) ≥ (2 : Int))) (((FV.isSl 4 (Q4 4 t_3) = true) ∧ ((0 ≤ (0 : Int)) ∧ (((0 : Int) < (length t_3 : Int)) ∧ (((rE (getD t_3 0 [])) : List FV) = (getD t_3 0 []))))) ∧ ((FV.isSl 4 (Q4 4 t_3) = true) ∧ (br (((FV.asI (getD (getD t_3 0 []) 0 FV.nils)) : Int) != (6 : Int)) (br ((t_1 : List UInt8) == []) ((FV.isSl 4 (Q4 4 t_3) = true) ∧ (br (((length t_3 : Int) : Int) == (length t_3 : Int)) (∃ z8 : Bool, ((Q66 49 (Q127 4 t_3 (.fn (.func 66) [] [])) z8) ∧ (Q86 (!z8) r Hs'))) (Q96 r Hs'))) (Q96 r Hs')) (Q96 r Hs')))) ((FV.isSl 4 (Q4 4 t_3) = true) ∧ (Q96 r Hs')))) ((FV.isSl 4 (Q4 4 t_3) = true) ∧ (Q96 r Hs'))) (Q96 r Hs')))))))) := by kernel_rfl
def lv44 : List (Nat × List Nat) := []
theorem v44 (t_0 : Int) (t_1 : List UInt8) (t_2 : Int) (t_3 : RW) (r : TV) (Hs' : List AObj) : VE lv44 44 0 r Hs' [Q76 t_0 t_1 t_2 t_3] [] =
  (br ((t_0 : Int) == (6 : Int)) ((FV.isSl 4 (Q4 4 t_3) = true) ∧ (br (decide (((length t_3 : Int) : Int) > (0 : Int))) (((FV.isSl 4 (Q4 4 t_3) = true) ∧ ((0 ≤ (0 : Int)) ∧ (((0 : Int) < (length t_3 : Int)) ∧ (((rE (getD t_3 0 [])) : List FV) = (getD t_3 0 []))))) ∧ ((FV.isSl 4 (Q4 4 t_3) = true) ∧ (br (((FV.asI (getD (getD t_3 0 []) 0 FV.nils)) : Int) == (5 : Int)) (RT (.agg [Q12 true, Q2 0, Q6 [], Q2 0, Q2 0]) [] r Hs') (br (((FV.asI (getD (getD t_3 0 []) 0 FV.nils)) : Int) == (4 : Int)) (RT (.agg [Q12 true, Q2 0, Q6 [], Q2 0, Q2 0]) [] r Hs') (br (((FV.asI (getD (getD t_3 0 []) 0 FV.nils)) : Int) == (6 : Int)) (RT (.agg [Q12 true, Q2 0, Q6 [], Q2 0, Q2 0]) [] r Hs') (RT (.agg [Q12 false, Q2 (FV.asI (getD (getD t_3 0 []) 0 FV.nils)), Q6 (FV.asS (getD (getD t_3 0 []) 1 FV.nils)), Q2 (FV.asI (getD (getD t_3 0 []) 2 FV.nils)), Q2 (IntKind.wrap .i64 ((length t_3 : Int) - (1 : Int)))]) [] r Hs')))))) (br ((t_0 : Int) == (5 : Int)) (RT (.agg [Q12 true, Q2 0, Q6 [], Q2 0, Q2 0]) [] r Hs') (br ((t_0 : Int) == (4 : Int)) (RT (.agg [Q12 true, Q2 0, Q6 [], Q2 0, Q2 0]) [] r Hs') (br ((t_0 : Int) == (6 : Int)) (RT (.agg [Q12 true, Q2 0, Q6 [], Q2 0, Q2 0]) [] r Hs') (RT (.agg [Q12 false, Q2 t_0, Q6 t_1, Q2 t_2, Q2 0]) [] r Hs')))))) (br ((t_0 : Int) == (5 : Int)) (RT (.agg [Q12 true, Q2 0, Q6 [], Q2 0, Q2 0]) [] r Hs') (br ((t_0 : Int) == (4 : Int)) (RT (.agg [Q12 true, Q2 0, Q6 [], Q2 0, Q2 0]) [] r Hs') (br ((t_0 : Int) == (6 : Int)) (RT (.agg [Q12 true, Q2 0, Q6 [], Q2 0, Q2 0]) [] r Hs') (RT (.agg [Q12 false, Q2 t_0, Q6 t_1, Q2 t_2, Q2 0]) [] r Hs'))))) := by kernel_rfl
def lv43 : List (Nat × List Nat) := []
theorem v43 (a_0 : Bool) (a_1 : Int) (a_2 : List UInt8) (a_3 a_4 : Int) (b_0 : Bool) (b_1 : Int) (b_2 : List UInt8) (b_3 b_4 : Int) (r : TV) (Hs' : List AObj) : VE lv43 43 0 r Hs' [.agg [Q12 a_0, Q2 a_1, Q6 a_2, Q2 a_3, Q2 a_4], .agg [Q12 b_0, Q2 b_1, Q6 b_2, Q2 b_3, Q2 b_4]] [] =
  (br a_0 (Q86 true r Hs') (br b_0 (Q86 true r Hs') (Q86 (((a_0 : Bool) == b_0) && (((a_1 : Int) == b_1) && (((a_2 : List UInt8) == b_2) && (((a_3 : Int) == b_3) && (((a_4 : Int) == b_4) && true))))) r Hs'))) := by kernel_rfl
def lv34 : List (Nat × List Nat) := []
theorem v34  (r : TV) (Hs' : List AObj) : VE lv34 34 0 r Hs' [] [] =
  (RT (Q85 0 2) (Q47 1 0 2 0 [] []) r Hs') := by kernel_rfl
def lv35 : List (Nat × List Nat) := [(1000001, [1, 2])]
theorem v35 (level : Int) (o0_0l o0_1l : Nat) (o1 o2 : RW) (r : TV) (Hs' : List AObj) : VE lv35 35 3 r Hs' (Q113 (Q85 0 2) level) (Q47 1 o0_0l 2 o0_1l o1 o2) =
  ((1 ≤ 1) ∧ ((o0_0l ≤ (length o1) ∧ z0i (o0_0l + 1) 72) ∧ (Q73 (IntKind.wrap .i64 ((((o0_0l + 1) : Nat) : Int) - (1 : Int))) (Q112 3 (o0_0l + 1) 4 o0_1l ((take o0_0l o1) ++ [[(Q1 (z0o [level, (0 : Int)])), (.bool false), (Q1 0), (.str []), (Q1 0), .nils]]) o2) r Hs'))) := by kernel_rfl
def lv32 : List (Nat × List Nat) := [(1000001, [1, 2])]
theorem v32 (a_0 : Int) (a_1 : List UInt8) (a_2 : Int) (a_3 : RW) (b_0 : Int) (b_1 : List UInt8) (b_2 : Int) (b_3 : RW) (fuel : Int) (o0_0l o0_1l : Nat) (o1 o2 : RW) (r : TV) (Hs' : List AObj) : VE lv32 32 3 r Hs' [Q85 0 2, Q76 a_0 a_1 a_2 a_3, Q76 b_0 b_1 b_2 b_3, Q25 fuel] (Q47 1 o0_0l 2 o0_1l o1 o2) =
  (((8 : Nat) = 8 ∧ 1 ≤ 1) ∧ (∃ z1 : (Int × Int) × Sto, ((Q79 36 (Q89 0 2 (Q69 8 [[(Q1 a_0), (.str a_1), (Q1 a_2), (Q4 4 a_3), (Q1 b_0), (.str b_1), (Q1 b_2), (Q4 4 b_3)]]) (Q25 fuel)) (Q47 1 o0_0l 2 o0_1l o1 o2) [Q30 z1.1.1, Q30 z1.1.2] (Q112 3 (length z1.2.V) 4 (length z1.2.T) (SR z1.2.V) (IR z1.2.T))) ∧ (Q49 [Q30 z1.1.1, Q30 z1.1.2] (Q112 3 (length z1.2.V) 4 (length z1.2.T) (SR z1.2.V) (IR z1.2.T)) r Hs')))) := by kernel_rfl
def lv81 : List (Nat × List Nat) := [(1, [2, 5, 6])]
theorem v81 (t_0 : Int) (t_1 : List UInt8) (t_2 : Int) (t_3 : RW) (most : Int) (r : TV) (Hs' : List AObj) : VE lv81 81 0 r Hs' (Q113 (Q76 t_0 t_1 t_2 t_3) most) [] =
  (Q71 81 0 r Hs' 1 [Q115 2 0, Q18 5 (IntKind.wrap .i64 (most - 1)), Q18 6 0] [Q103 0 4 t_0 t_1 t_2 4 t_3] 1) := by kernel_rfl
theorem v81_1a (x5 x6 h0_0 : Int) (h0_1 : List UInt8) (h0_2 : Int) (h0_3 : RW) (r : TV) (Hs' : List AObj) : VQ lv81 81 0 r Hs' 1 ⟨[Q115 2 0, Q18 5 x5, Q18 6 x6], [Q103 0 4 h0_0 h0_1 h0_2 4 h0_3], 1⟩ =
  ((FV.isSl 4 (Q4 4 h0_3) = true) ∧ (br (decide ((x6 : Int) < (length h0_3 : Int))) (br (decide ((x5 : Int) ≥ (0 : Int))) (((FV.isSl 4 (Q4 4 h0_3) = true) ∧ ((0 ≤ x6) ∧ ((x6 < (length h0_3 : Int)) ∧ (((rE (getD h0_3 (toNat x6) [])) : List FV) = (getD h0_3 (toNat x6) []))))) ∧ (∃ n1 : Int, ((Q59 81 (Q113 (aE (getD h0_3 (toNat x6) [])) x5) (Q25 n1)) ∧ (Q71 81 0 r Hs' 1 [Q115 2 0, Q18 5 n1, Q18 6 (IntKind.wrap .i64 (x6 + 1))] [Q103 0 4 h0_0 h0_1 h0_2 4 h0_3] 1)))) (Q73 x5 [] r Hs')) (Q73 x5 [] r Hs'))) := by kernel_rfl
def lv64 : List (Nat × List Nat) := []
theorem v64 (s : List UInt8) (r : TV) (Hs' : List AObj) : VE lv64 64 0 r Hs' [.c (Q6 s)] [] =
  (∃ b1 : Bool, ((Q66 95 [.c (Q6 s)] b1) ∧ (br b1 ((0 ≤ (0 : Int) ∧ (0 : Int) < (length s : Int)) ∧ (∃ b2 : Bool, ((Q66 96 [.c (Q0 (.int .u8 ((UInt8.toNat (getD s 0 0) : Nat) : Int)))] b2) ∧ (br b2 (∃ n3 : Int, ((Q59 97 (Q107 (.c (Q6 s)) (.fn (.func 98) [] [])) (Q25 n3)) ∧ (Q86 ((n3 : Int) == (length s : Int)) r Hs'))) (Q96 r Hs'))))) (Q96 r Hs')))) := by kernel_rfl
def lv65 : List (Nat × List Nat) := []
theorem v65 (s : List UInt8) (r : TV) (Hs' : List AObj) : VE lv65 65 0 r Hs' [.c (Q6 s)] [] =
  (∃ b1 : Bool, ((Q66 95 [.c (Q6 s)] b1) ∧ (br b1 (∃ n2 : Int, ((Q59 97 (Q107 (.c (Q6 s)) (.fn (.func 99) [] [])) (Q25 n2)) ∧ (br ((n2 : Int) == (length s : Int)) (Q86 true r Hs') (br (((length s : Int) : Int) == (1 : Int)) (∃ b3 : Bool, ((Q66 100 (Q107 (.c (Q6 [44, 59, 33])) (Q6 s)) b3) ∧ (Q86 b3 r Hs'))) (Q96 r Hs'))))) (Q96 r Hs')))) := by kernel_rfl
def lv49 : List (Nat × List Nat) := []
theorem v49_F66 (s : RW) (r : TV) (Hs' : List AObj) : VE lv49 49 0 r Hs' (Q127 4 s (.fn (.func 66) [] [])) [] =
  (∃ z1 : Int, ((Q59 83 (Q127 4 s (.fn (.func 66) [] [])) (Q25 z1)) ∧ (Q86 (decide ((z1 : Int) ≥ (0 : Int))) r Hs'))) := by kernel_rfl
def lv36 : List (Nat × List Nat) := [(1, [0, 8, 9, 22]), (1000001, [1, 2])]
theorem v36 (l : RW) (fuel : Int) (o0_0l o0_1l : Nat) (o1 o2 : RW) (r : TV) (Hs' : List AObj) : VE lv36 36 3 r Hs' (Q89 0 2 (Q69 8 l) (Q25 fuel)) (Q47 1 o0_0l 2 o0_1l o1 o2) =
  (∃ b1 : Bool, ((Q66 73 (Q127 8 l (.fn (.func 74) [] [])) b1) ∧ (br b1 (Q49 [Q30 0, Q30 1] (Q112 3 o0_0l 4 o0_1l o1 o2) r Hs') (∃ n2 : Int, (∃ n3 : Int, ((Q10 31 [Q85 0 2] (Q47 1 o0_0l 2 o0_1l o1 o2) (.agg [Q2 n2, Q2 n3]) (Q47 1 o0_0l 2 o0_1l o1 o2)) ∧ (∃ z4 : RW, ((Q57 75 [Q69 8 l] (.c (.fn (.func 108) [] [(false, [(Q119 0)])])) [Q7 1 [Q8 8 z4]]) ∧ (Q71 36 3 r Hs' 1 [Q54 0 0 2, Q54 8 5 2, Q54 9 6 1, Q5 22 (.fn (.func 108) [] [(false, [(Q119 8)])])] [Q75 0 3 o0_0l 4 o0_1l, Q38 1, Q38 2, Q70 3 o1, Q63 4 o2, Q26 5 2 [Q2 n2, Q2 n3], Q26 6 1 [Q9 7 3 0 0], Q26 7 3 (Q48 0 2 0 0 Q31 fuel), Q26 8 1 [Q8 8 z4]] 9))))))))) := by kernel_rfl
theorem v36_1an (h0_0l : Nat) (h0_1l : Nat) (h3 : RW) (h4 : RW) (h5_0 : Int) (h5_1 : Int) (h7_2 : Int) (h8_0 : RW) (K : St → Prop) : prepV 9 [3, 4] [0, 8, 9, 22] K ⟨[Q54 0 0 2, Q54 8 5 2, Q54 9 6 1, Q5 22 (.fn (.func 108) [] [(false, [(Q119 8)])])], [Q75 0 3 h0_0l 4 h0_1l, Q38 1, Q38 2, Q70 3 h3, Q63 4 h4, Q26 5 2 [Q2 h5_0, Q2 h5_1], Q26 6 1 [Q9 7 3 0 0], Q26 7 3 (Q48 0 2 0 0 Q31 h7_2), Q26 8 1 [Q8 8 h8_0]], 9⟩ =
  (K ⟨[Q54 0 0 2, Q54 8 5 2, Q54 9 6 1, Q5 22 (.fn (.func 108) [] [(false, [(Q119 8)])])], [Q75 0 9 h0_0l 10 h0_1l, Q38 1, Q38 2, Q38 3, Q38 4, Q26 5 2 [Q2 h5_0, Q2 h5_1], Q26 6 1 [Q9 7 3 0 0], Q26 7 3 (Q48 0 2 0 0 Q31 h7_2), Q26 8 1 [Q8 8 h8_0], Q70 9 h3, Q63 10 h4], 11⟩) := by kernel_rfl
theorem v36_1ara (h0_0l : Nat) (h0_1l : Nat) (h5_0 : Int) (h5_1 : Int) (h7_2 : Int) (h8_0 : RW) (h9 : RW) (h10 : RW) (k : Int) (v_0 : Int) (v_1 : List UInt8) (v_2 : Int) (v_3 : RW) (v_4 : Int) (v_5 : List UInt8) (v_6 : Int) (v_7 : RW) (R : AHeap → Nat → Prop) : vcR Tryz.prog sh 36 9 [3, 4] 1 [(0, (Q85 0 2)), (8, (Q85 5 2)), (9, (Q85 6 1)), (22, (.c (.fn (.func 108) [] [(false, [(Q119 8)])])))] k (.agg [Q2 v_0, Q6 v_1, Q2 v_2, Q121 v_3, Q2 v_4, Q6 v_5, Q2 v_6, Q121 v_7]) [(0, (Q37 9 h0_0l 10 h0_1l)), (1, .gone), (2, .gone), (3, .gone), (4, .gone), (5, (Q7 2 [Q2 h5_0, Q2 h5_1])), (6, (Q7 1 [Q9 7 3 0 0])), (7, (Q7 3 (Q48 0 2 0 0 Q31 h7_2))), (8, (Q7 1 [Q8 8 h8_0])), (9, (Q22 h9)), (10, (Q21 h10))] 11 R =
  ((1 ≤ 1) ∧ ((z0i 1 112) ∧ (R [(0, (Q37 9 h0_0l 10 h0_1l)), (1, .gone), (2, .gone), (3, .gone), (4, .gone), (5, (Q7 2 [Q2 h5_0, Q2 h5_1])), (6, (Q7 1 [Q9 7 3 0 0])), (7, (Q64 3 0 2 0 0 11 8 0 1 h7_2)), (8, (Q7 1 [Q8 8 h8_0])), (9, (Q22 h9)), (10, (Q21 h10)), (11, (.arz 8 [[(Q1 v_0), (.str v_1), (Q1 v_2), (Q4 4 v_3), (Q1 v_4), (.str v_5), (Q1 v_6), (Q4 4 v_7)]]))] 12))) := by kernel_rfl
theorem v36_1aza (h0_0l : Nat) (h0_1l : Nat) (h5_0 : Int) (h5_1 : Int) (h7_2 : Int) (h8_0 : RW) (h9 : RW) (h10 : RW) (r : TV) (Hs' : List AObj) : vcA Tryz.prog sh lv36 36 3 (fun r0 Hs0 => TV.Le r0 r ∧ Hs0 = Hs') (RPt Tryz.prog 36 3 r Hs') 1 ⟨[Q54 0 0 2, Q54 8 5 2, Q54 9 6 1, Q5 22 (.fn (.func 108) [] [(false, [(Q119 8)])])], [Q75 0 9 h0_0l 10 h0_1l, Q38 1, Q38 2, Q38 3, Q38 4, Q26 5 2 [Q2 h5_0, Q2 h5_1], Q26 6 1 [Q9 7 3 0 0], Q26 7 3 (Q48 0 2 0 0 Q31 h7_2), Q26 8 1 [Q8 8 h8_0], Q70 9 h9, Q63 10 h10], 11⟩ =
  (∃ z1 : Int × Sto × Nat × RW × Int, ((Q10 76 [Q85 0 3] (Q93 (Q7 3 (Q48 1 2 0 0 Q31 h7_2)) 2 h0_0l 3 h0_1l h9 h10) (Q25 z1.1) (Q88 (Q7 3 (Q48 1 2 0 0 Q31 z1.2.2.2.2)) (Q37 4 (length z1.2.1.V) 5 (length z1.2.1.T)) .gone (Q22 (SR z1.2.1.V)) (Q21 (IR z1.2.1.T)))) ∧ (br ((z1.1 : Int) != (0 : Int)) (∃ z2 : Sto, ((Q79 72 [Q85 0 2, .agg [Q2 h5_0, Q2 h5_1]] (Q47 1 (length z1.2.1.V) 2 (length z1.2.1.T) (SR z1.2.1.V) (IR z1.2.1.T)) [] (Q112 3 (length z2.V) 4 (length z2.T) (SR z2.V) (IR z2.T))) ∧ (Q49 [Q30 0, Q30 z1.1] (Q112 3 (length z2.V) 4 (length z2.T) (SR z2.V) (IR z2.T)) r Hs'))) (Q49 [Q30 z1.2.2.2.2, Q30 0] (Q112 3 (length z1.2.1.V) 4 (length z1.2.1.T) (SR z1.2.1.V) (IR z1.2.1.T)) r Hs')))) := by kernel_rfl
theorem v36_1arb (h0_0l : Nat) (h0_1l : Nat) (h5_0 : Int) (h5_1 : Int) (h7_1l : Nat) (h7_2 : Int) (h8_0 : RW) (h9 : RW) (h10 : RW) (h11 : RW) (k : Int) (v_0 : Int) (v_1 : List UInt8) (v_2 : Int) (v_3 : RW) (v_4 : Int) (v_5 : List UInt8) (v_6 : Int) (v_7 : RW) (R : AHeap → Nat → Prop) : vcR Tryz.prog sh 36 9 [3, 4] 1 [(0, (Q85 0 2)), (8, (Q85 5 2)), (9, (Q85 6 1)), (22, (.c (.fn (.func 108) [] [(false, [(Q119 8)])])))] k (.agg [Q2 v_0, Q6 v_1, Q2 v_2, Q121 v_3, Q2 v_4, Q6 v_5, Q2 v_6, Q121 v_7]) [(0, (Q37 9 h0_0l 10 h0_1l)), (1, .gone), (2, .gone), (3, .gone), (4, .gone), (5, (Q7 2 [Q2 h5_0, Q2 h5_1])), (6, (Q7 1 [Q9 7 3 0 0])), (7, (Q64 3 0 2 0 0 11 8 0 h7_1l h7_2)), (8, (Q7 1 [Q8 8 h8_0])), (9, (Q22 h9)), (10, (Q21 h10)), (11, (.arz 8 h11))] 12 R =
  ((1 ≤ 1) ∧ ((h7_1l ≤ (length h11) ∧ z0i (h7_1l + 1) 112) ∧ (R [(0, (Q37 9 h0_0l 10 h0_1l)), (1, .gone), (2, .gone), (3, .gone), (4, .gone), (5, (Q7 2 [Q2 h5_0, Q2 h5_1])), (6, (Q7 1 [Q9 7 3 0 0])), (7, (Q64 3 0 2 0 0 11 8 0 (h7_1l + 1) h7_2)), (8, (Q7 1 [Q8 8 h8_0])), (9, (Q22 h9)), (10, (Q21 h10)), (11, (.arz 8 ((take h7_1l h11) ++ [[(Q1 v_0), (.str v_1), (Q1 v_2), (Q4 4 v_3), (Q1 v_4), (.str v_5), (Q1 v_6), (Q4 4 v_7)]])))] 12))) := by kernel_rfl
theorem v36_1azb (h0_0l : Nat) (h0_1l : Nat) (h5_0 : Int) (h5_1 : Int) (h7_1l : Nat) (h7_2 : Int) (h8_0 : RW) (h9 : RW) (h10 : RW) (h11 : RW) (r : TV) (Hs' : List AObj) : vcA Tryz.prog sh lv36 36 3 (fun r0 Hs0 => TV.Le r0 r ∧ Hs0 = Hs') (RPt Tryz.prog 36 3 r Hs') 1 ⟨[Q54 0 0 2, Q54 8 5 2, Q54 9 6 1, Q5 22 (.fn (.func 108) [] [(false, [(Q119 8)])])], [Q75 0 9 h0_0l 10 h0_1l, Q38 1, Q38 2, Q38 3, Q38 4, Q26 5 2 [Q2 h5_0, Q2 h5_1], Q26 6 1 [Q9 7 3 0 0], Q26 7 3 (Q60 0 2 0 0 11 8 0 h7_1l h7_2), Q26 8 1 [Q8 8 h8_0], Q70 9 h9, Q63 10 h10, Q67 11 8 h11], 12⟩ =
  (∃ z1 : Int × Sto × Nat × RW × Int, ((Q10 76 [Q85 0 3] (Q87 (Q64 3 1 2 0 0 4 8 0 h7_1l h7_2) (Q37 2 h0_0l 3 h0_1l) (Q22 h9) (Q21 h10) 8 h11) (Q25 z1.1) (Q102 (Q64 3 1 2 0 0 7 8 0 z1.2.2.1 z1.2.2.2.2) 5 (length z1.2.1.V) 6 (length z1.2.1.T) (SR z1.2.1.V) (IR z1.2.1.T) 8 z1.2.2.2.1)) ∧ (br ((z1.1 : Int) != (0 : Int)) (∃ z2 : Sto, ((Q79 72 [Q85 0 2, .agg [Q2 h5_0, Q2 h5_1]] (Q47 1 (length z1.2.1.V) 2 (length z1.2.1.T) (SR z1.2.1.V) (IR z1.2.1.T)) [] (Q112 3 (length z2.V) 4 (length z2.T) (SR z2.V) (IR z2.T))) ∧ (Q49 [Q30 0, Q30 z1.1] (Q112 3 (length z2.V) 4 (length z2.T) (SR z2.V) (IR z2.T)) r Hs'))) (Q49 [Q30 z1.2.2.2.2, Q30 0] (Q112 3 (length z1.2.1.V) 4 (length z1.2.1.T) (SR z1.2.1.V) (IR z1.2.1.T)) r Hs')))) := by kernel_rfl
def lv95 : List (Nat × List Nat) := []
theorem v95 (s : List UInt8) (r : TV) (Hs' : List AObj) : VE lv95 95 0 r Hs' [.c (Q6 s)] [] =
  (br (!((s : List UInt8) == [])) (Q86 (decide (((length s : Int) : Int) ≤ (32 : Int))) r Hs') (Q96 r Hs')) := by kernel_rfl
def lv96 : List (Nat × List Nat) := []
theorem v96 (c : Int) (r : TV) (Hs' : List AObj) : VE lv96 96 0 r Hs' [.c (Q0 (.int .u8 c))] [] =
  (br (decide (((97 : Int) : Int) ≤ c)) (Q86 (decide ((c : Int) ≤ (122 : Int))) r Hs') (Q96 r Hs')) := by kernel_rfl
def lv97 : List (Nat × List Nat) := [(1, [0, 1, 7, 8])]
theorem v97_F98 (s : List UInt8) (r : TV) (Hs' : List AObj) : VE lv97 97 0 r Hs' (Q107 (.c (Q6 s)) (.fn (.func 98) [] [])) [] =
  (Q71 97 0 r Hs' 1 (Q128 (Q5 0 (Q6 s)) 1 (.fn (.func 98) [] []) 7 (length s : Int) 8 0) [] 0) := by kernel_rfl
theorem zde (x0 : List UInt8) (x7 x8 : Int) (r : TV) (Hs' : List AObj) : VQ lv97 97 0 r Hs' 1 ⟨Q128 (Q5 0 (Q6 x0)) 1 (.fn (.func 98) [] []) 7 x7 8 x8, [], 0⟩ =
  (br (decide ((x8 : Int) < x7)) ((0 ≤ x8 ∧ x8 < (length x0 : Int)) ∧ (∃ b1 : Bool, ((Q66 98 [.c (Q0 (.int .u8 ((UInt8.toNat (getD x0 (toNat x8) 0) : Nat) : Int)))] b1) ∧ (br (!b1) (Q73 x8 [] r Hs') (Q71 97 0 r Hs' 1 (Q128 (Q5 0 (Q6 x0)) 1 (.fn (.func 98) [] []) 7 x7 8 (IntKind.wrap .i64 (x8 + 1))) [] 0))))) (Q73 (length x0 : Int) [] r Hs')) := by kernel_rfl
theorem v97_F99 (s : List UInt8) (r : TV) (Hs' : List AObj) : VE lv97 97 0 r Hs' (Q107 (.c (Q6 s)) (.fn (.func 99) [] [])) [] =
  (Q71 97 0 r Hs' 1 (Q128 (Q5 0 (Q6 s)) 1 (.fn (.func 99) [] []) 7 (length s : Int) 8 0) [] 0) := by kernel_rfl
theorem zd3 (x0 : List UInt8) (x7 x8 : Int) (r : TV) (Hs' : List AObj) : VQ lv97 97 0 r Hs' 1 ⟨Q128 (Q5 0 (Q6 x0)) 1 (.fn (.func 99) [] []) 7 x7 8 x8, [], 0⟩ =
  (br (decide ((x8 : Int) < x7)) ((0 ≤ x8 ∧ x8 < (length x0 : Int)) ∧ (∃ b1 : Bool, ((Q66 99 [.c (Q0 (.int .u8 ((UInt8.toNat (getD x0 (toNat x8) 0) : Nat) : Int)))] b1) ∧ (br (!b1) (Q73 x8 [] r Hs') (Q71 97 0 r Hs' 1 (Q128 (Q5 0 (Q6 x0)) 1 (.fn (.func 99) [] []) 7 x7 8 (IntKind.wrap .i64 (x8 + 1))) [] 0))))) (Q73 (length x0 : Int) [] r Hs')) := by kernel_rfl
def lv100 : List (Nat × List Nat) := []
theorem v100 (s substr : List UInt8) (r : TV) (Hs' : List AObj) : VE lv100 100 0 r Hs' (Q107 (.c (Q6 s)) (Q6 substr)) [] =
  (∃ n1 : Int, ((Q59 128 (Q107 (.c (Q6 s)) (Q6 substr)) (Q25 n1)) ∧ (Q86 (decide ((n1 : Int) ≥ (0 : Int))) r Hs'))) := by kernel_rfl
def lv83 : List (Nat × List Nat) := [(1, [0, 1, 7, 8])]
theorem v83_F66 (s : RW) (r : TV) (Hs' : List AObj) : VE lv83 83 0 r Hs' (Q127 4 s (.fn (.func 66) [] [])) [] =
  ((FV.isSl 4 (Q4 4 s) = true) ∧ (Q71 83 0 r Hs' 1 (Q128 (Q62 0 4 s) 1 (.fn (.func 66) [] []) 7 (length s : Int) 8 0) [] 0)) := by kernel_rfl
theorem zd4 (x0 : RW) (x7 x8 : Int) (r : TV) (Hs' : List AObj) : VQ lv83 83 0 r Hs' 1 ⟨Q128 (Q62 0 4 x0) 1 (.fn (.func 66) [] []) 7 x7 8 x8, [], 0⟩ =
  (br (decide ((x8 : Int) < x7)) (((FV.isSl 4 (Q4 4 x0) = true) ∧ ((0 ≤ x8) ∧ ((x8 < (length x0 : Int)) ∧ (((rE (getD x0 (toNat x8) [])) : List FV) = (getD x0 (toNat x8) []))))) ∧ (∃ b1 : Bool, ((Q66 66 [(aE (getD x0 (toNat x8) []))] b1) ∧ (br b1 (Q73 x8 [] r Hs') (Q71 83 0 r Hs' 1 (Q128 (Q62 0 4 x0) 1 (.fn (.func 66) [] []) 7 x7 8 (IntKind.wrap .i64 (x8 + 1))) [] 0))))) (Q73 (-1 : Int) [] r Hs')) := by kernel_rfl
def lv73 : List (Nat × List Nat) := []
theorem v73_F74 (s : RW) (r : TV) (Hs' : List AObj) : VE lv73 73 0 r Hs' (Q127 8 s (.fn (.func 74) [] [])) [] =
  (∃ n1 : Int, ((Q59 107 (Q127 8 s (.fn (.func 74) [] [])) (Q25 n1)) ∧ (Q86 (decide ((n1 : Int) ≥ (0 : Int))) r Hs'))) := by kernel_rfl
def lv31 : List (Nat × List Nat) := []
theorem v31 (o0_0l o0_1l : Nat) (o1 o2 : RW) (r : TV) (Hs' : List AObj) : VE lv31 31 3 r Hs' [Q85 0 2] (Q47 1 o0_0l 2 o0_1l o1 o2) =
  (RT (.agg [Q2 (o0_1l : Int), Q2 (o0_0l : Int)]) (Q47 1 o0_0l 2 o0_1l o1 o2) r Hs') := by kernel_rfl
def lv75 : List (Nat × List Nat) := []
theorem v75 (s : RW) (r : TV) (Hs' : List AObj) : VE lv75 75 0 r Hs' [Q69 8 s] [] =
  (RT (.c (.fn (.func 108) [] [(false, [(Q119 0)])])) [Q7 1 [Q8 8 s]] r Hs') := by kernel_rfl
def lv76 : List (Nat × List Nat) := [(1, [0]), (1000001, [2, 3])]
theorem v76 (o0_2 : Int) (o1_0l o1_1l : Nat) (o2 o3 : RW) (r : TV) (Hs' : List AObj) : VE lv76 76 4 r Hs' [Q85 0 3] (Q93 (Q7 3 (Q48 1 2 0 0 Q31 o0_2)) 2 o1_0l 3 o1_1l o2 o3) =
  (Q71 76 4 r Hs' 1 [Q54 0 0 3] [Q26 0 3 (Q48 1 2 0 0 Q31 o0_2), Q75 1 4 o1_0l 5 o1_1l, Q38 2, Q38 3, Q70 4 o2, Q63 5 o3] 6) := by kernel_rfl
theorem v76_1a (h0_2 : Int) (h1_0l h1_1l : Nat) (h4 h5 : RW) (r : TV) (Hs' : List AObj) : VQ lv76 76 4 r Hs' 1 ⟨[Q54 0 0 3], [Q26 0 3 (Q48 1 2 0 0 Q31 h0_2), Q75 1 4 h1_0l 5 h1_1l, Q38 2, Q38 3, Q70 4 h4, Q63 5 h5], 6⟩ =
  ((FV.isSl 8 .nils = true) ∧ (Q73 0 (Q88 (Q7 3 (Q48 1 2 0 0 Q31 h0_2)) (Q37 4 h1_0l 5 h1_1l) .gone (Q22 h4) (Q21 h5)) r Hs')) := by kernel_rfl
def lv72 : List (Nat × List Nat) := [(1, [0, 3, 4, 22, 23, 24]), (1000001, [1, 2])]
theorem v72 (m_0 m_1 : Int) (o0_0l o0_1l : Nat) (o1 o2 : RW) (r : TV) (Hs' : List AObj) : VE lv72 72 3 r Hs' [Q85 0 2, .agg [Q2 m_0, Q2 m_1]] (Q47 1 o0_0l 2 o0_1l o1 o2) =
  (((0 ≤ (z0t [(z0o [m_0, (0 : Int)]), (o0_1l : Int)])) ∧ (((z0t [(z0o [m_0, (0 : Int)]), (o0_1l : Int)]) ≤ (o0_1l : Int)) ∧ ((o0_1l : Int) ≤ (o0_1l : Int)))) ∧ (Q71 72 3 r Hs' 1 [Q54 0 0 2, Q54 3 5 2, Q18 4 (z0t [(z0o [m_0, (0 : Int)]), (o0_1l : Int)]), Q90 22 4 1 (0 + (toNat (z0t [(z0o [m_0, (0 : Int)]), (o0_1l : Int)]))) ((toNat (o0_1l : Int)) - (toNat (z0t [(z0o [m_0, (0 : Int)]), (o0_1l : Int)]))), Q18 23 ((((toNat (o0_1l : Int)) - (toNat (z0t [(z0o [m_0, (0 : Int)]), (o0_1l : Int)]))) : Nat) : Int), Q18 24 0] [Q75 0 3 o0_0l 4 o0_1l, Q38 1, Q38 2, Q70 3 o1, Q63 4 o2, Q26 5 2 [Q2 m_0, Q2 m_1]] 6)) := by kernel_rfl
theorem v72_1a (x4 : Int) (x22o x22l : Nat) (x23 x24 : Int) (h0_0l h0_1l : Nat) (h3 h4 : RW) (h5_0 h5_1 : Int) (r : TV) (Hs' : List AObj) : VQ lv72 72 3 r Hs' 1 ⟨[Q54 0 0 2, Q54 3 5 2, Q18 4 x4, Q90 22 4 1 x22o x22l, Q18 23 x23, Q18 24 x24], [Q75 0 3 h0_0l 4 h0_1l, Q38 1, Q38 2, Q70 3 h3, Q63 4 h4, Q26 5 2 [Q2 h5_0, Q2 h5_1]], 6⟩ =
  (br (decide ((x24 : Int) < x23)) ((0 ≤ x24 ∧ x24 < (x22l : Int)) ∧ ((((x22o + (toNat x24)) < (length h4)) ∧ ((([(Q1 (FV.asI (getD (getD h4 (x22o + (toNat x24)) []) 0 FV.nils)))] : List FV) = (take 1 (drop 0 (getD h4 (x22o + (toNat x24)) [])))) ∧ ((1 : Nat) = 1))) ∧ ((0 ≤ (FV.asI (getD (getD h4 (x22o + (toNat x24)) []) 0 FV.nils)) ∧ (FV.asI (getD (getD h4 (x22o + (toNat x24)) []) 0 FV.nils)) < (h0_0l : Int)) ∧ ((((0 + (toNat (FV.asI (getD (getD h4 (x22o + (toNat x24)) []) 0 FV.nils)))) < (length h3)) ∧ ((([(Q1 (FV.asI (getD (getD h3 (0 + (toNat (FV.asI (getD (getD h4 (x22o + (toNat x24)) []) 0 FV.nils)))) []) 0 FV.nils)))] : List FV) = (take 1 (drop 0 (getD h3 (0 + (toNat (FV.asI (getD (getD h4 (x22o + (toNat x24)) []) 0 FV.nils)))) [])))) ∧ ((1 : Nat) = 1))) ∧ ((0 ≤ (FV.asI (getD (getD h4 (x22o + (toNat x24)) []) 0 FV.nils)) ∧ (FV.asI (getD (getD h4 (x22o + (toNat x24)) []) 0 FV.nils)) < (h0_0l : Int)) ∧ (((0 + (toNat (FV.asI (getD (getD h4 (x22o + (toNat x24)) []) 0 FV.nils)))) < (length h3) ∧ (length (getD h3 (0 + (toNat (FV.asI (getD (getD h4 (x22o + (toNat x24)) []) 0 FV.nils)))) [])) = 6) ∧ (Q71 72 3 r Hs' 1 [Q54 0 0 2, Q54 3 5 2, Q18 4 x4, Q90 22 4 1 x22o x22l, Q18 23 x23, Q18 24 (IntKind.wrap .i64 (x24 + 1))] [Q75 0 3 h0_0l 4 h0_1l, Q38 1, Q38 2, Q70 3 (List.set h3 (0 + (toNat (FV.asI (getD (getD h4 (x22o + (toNat x24)) []) 0 FV.nils)))) [(Q1 (FV.asI (getD (getD h3 (0 + (toNat (FV.asI (getD (getD h4 (x22o + (toNat x24)) []) 0 FV.nils)))) []) 0 FV.nils))), (.bool false), (Q1 0), (.str []), (Q1 0), .nils]), Q63 4 h4, Q26 5 2 [Q2 h5_0, Q2 h5_1]] 6))))))) (((0 ≤ (0 : Int)) ∧ (((0 : Int) ≤ (z0t [(z0o [h5_1, (0 : Int)]), (h0_0l : Int)])) ∧ ((z0t [(z0o [h5_1, (0 : Int)]), (h0_0l : Int)]) ≤ (h0_0l : Int)))) ∧ (((0 ≤ (0 : Int)) ∧ (((0 : Int) ≤ x4) ∧ (x4 ≤ (h0_1l : Int)))) ∧ (∃ z1 : Nat, ((Q10 105 (Q107 (.c (Q3 0 1 0 (toNat x4))) (.fn (.func 106) [] [(false, [(Q119 1)])])) [Q21 h4, Q94 (z0t [(z0o [h5_1, (0 : Int)]), (h0_0l : Int)])] (.c (Q3 0 1 0 z1)) [Q21 h4, Q94 (z0t [(z0o [h5_1, (0 : Int)]), (h0_0l : Int)])]) ∧ (Q49 [] (Q112 3 (toNat (z0t [(z0o [h5_1, (0 : Int)]), (h0_0l : Int)])) 4 z1 h3 h4) r Hs')))))) := by kernel_rfl
def z79 : List (Nat × List Nat) := [(1, [0]), (1000001, [2, 3, 4])]
theorem v76_i1 (o0_1l : Nat) (o0_2 : Int) (o1_0l o1_1l : Nat) (o2 o3 o4 : RW) (r : TV) (Hs' : List AObj) : VE z79 76 5 r Hs' [Q85 0 3] (Q87 (Q64 3 1 2 0 0 4 8 0 o0_1l o0_2) (Q37 2 o1_0l 3 o1_1l) (Q22 o2) (Q21 o3) 8 o4) =
  (Q71 76 5 r Hs' 1 [Q54 0 0 3] [Q26 0 3 (Q60 1 2 0 0 7 8 0 o0_1l o0_2), Q75 1 5 o1_0l 6 o1_1l, Q38 2, Q38 3, Q38 4, Q70 5 o2, Q63 6 o3, Q67 7 8 o4] 8) := by kernel_rfl
theorem z7v (h0_1l : Nat) (h0_2 : Int) (h1_0l h1_1l : Nat) (h5 h6 h7 : RW) (r : TV) (Hs' : List AObj) : VQ z79 76 5 r Hs' 1 ⟨[Q54 0 0 3], [Q26 0 3 (Q60 1 2 0 0 7 8 0 h0_1l h0_2), Q75 1 5 h1_0l 6 h1_1l, Q38 2, Q38 3, Q38 4, Q70 5 h5, Q63 6 h6, Q67 7 8 h7], 8⟩ =
  (br (decide (((h0_1l : Int) : Int) > (0 : Int))) ((0 ≤ (IntKind.wrap .i64 ((h0_1l : Int) - (1 : Int))) ∧ (IntKind.wrap .i64 ((h0_1l : Int) - (1 : Int))) < (h0_1l : Int)) ∧ ((((0 + (toNat (IntKind.wrap .i64 ((h0_1l : Int) - (1 : Int))))) < (length h7)) ∧ ((([(Q1 (FV.asI (getD (getD h7 (0 + (toNat (IntKind.wrap .i64 ((h0_1l : Int) - (1 : Int))))) []) 0 FV.nils))), (.str (FV.asS (getD (getD h7 (0 + (toNat (IntKind.wrap .i64 ((h0_1l : Int) - (1 : Int))))) []) 1 FV.nils))), (Q1 (FV.asI (getD (getD h7 (0 + (toNat (IntKind.wrap .i64 ((h0_1l : Int) - (1 : Int))))) []) 2 FV.nils))), (getD (getD h7 (0 + (toNat (IntKind.wrap .i64 ((h0_1l : Int) - (1 : Int))))) []) 3 FV.nils), (Q1 (FV.asI (getD (getD h7 (0 + (toNat (IntKind.wrap .i64 ((h0_1l : Int) - (1 : Int))))) []) 4 FV.nils))), (.str (FV.asS (getD (getD h7 (0 + (toNat (IntKind.wrap .i64 ((h0_1l : Int) - (1 : Int))))) []) 5 FV.nils))), (Q1 (FV.asI (getD (getD h7 (0 + (toNat (IntKind.wrap .i64 ((h0_1l : Int) - (1 : Int))))) []) 6 FV.nils))), (getD (getD h7 (0 + (toNat (IntKind.wrap .i64 ((h0_1l : Int) - (1 : Int))))) []) 7 FV.nils)] : List FV) = (take 8 (drop 0 (getD h7 (0 + (toNat (IntKind.wrap .i64 ((h0_1l : Int) - (1 : Int))))) [])))) ∧ ((8 : Nat) = 8))) ∧ (((0 ≤ (0 : Int)) ∧ (((0 : Int) ≤ (IntKind.wrap .i64 ((h0_1l : Int) - (1 : Int)))) ∧ ((IntKind.wrap .i64 ((h0_1l : Int) - (1 : Int))) ≤ (h0_1l : Int)))) ∧ (br (decide ((h0_2 : Int) ≤ (0 : Int))) (Q73 80 (Q102 (Q64 3 1 2 0 0 7 8 0 (toNat (IntKind.wrap .i64 ((h0_1l : Int) - (1 : Int)))) h0_2) 5 h1_0l 6 h1_1l h5 h6 8 h7) r Hs') (∃ z1 : Int × Sto × Nat × RW × Int, ((Q10 109 [Q85 0 3, .agg [Q2 (FV.asI (getD (getD h7 (0 + (toNat (IntKind.wrap .i64 ((h0_1l : Int) - (1 : Int))))) []) 0 FV.nils)), Q6 (FV.asS (getD (getD h7 (0 + (toNat (IntKind.wrap .i64 ((h0_1l : Int) - (1 : Int))))) []) 1 FV.nils)), Q2 (FV.asI (getD (getD h7 (0 + (toNat (IntKind.wrap .i64 ((h0_1l : Int) - (1 : Int))))) []) 2 FV.nils)), Q0 (getD (getD h7 (0 + (toNat (IntKind.wrap .i64 ((h0_1l : Int) - (1 : Int))))) []) 3 FV.nils), Q2 (FV.asI (getD (getD h7 (0 + (toNat (IntKind.wrap .i64 ((h0_1l : Int) - (1 : Int))))) []) 4 FV.nils)), Q6 (FV.asS (getD (getD h7 (0 + (toNat (IntKind.wrap .i64 ((h0_1l : Int) - (1 : Int))))) []) 5 FV.nils)), Q2 (FV.asI (getD (getD h7 (0 + (toNat (IntKind.wrap .i64 ((h0_1l : Int) - (1 : Int))))) []) 6 FV.nils)), Q0 (getD (getD h7 (0 + (toNat (IntKind.wrap .i64 ((h0_1l : Int) - (1 : Int))))) []) 7 FV.nils)]] (Q87 (Q64 3 1 2 0 0 4 8 0 (toNat (IntKind.wrap .i64 ((h0_1l : Int) - (1 : Int)))) (IntKind.wrap .i64 (h0_2 - 1))) (Q37 2 h1_0l 3 h1_1l) (Q22 h5) (Q21 h6) 8 h7) (Q25 z1.1) (Q102 (Q64 3 1 2 0 0 7 8 0 z1.2.2.1 z1.2.2.2.2) 5 (length z1.2.1.V) 6 (length z1.2.1.T) (SR z1.2.1.V) (IR z1.2.1.T) 8 z1.2.2.2.1)) ∧ (br ((z1.1 : Int) != (0 : Int)) (Q73 z1.1 (Q102 (Q64 3 1 2 0 0 7 8 0 z1.2.2.1 z1.2.2.2.2) 5 (length z1.2.1.V) 6 (length z1.2.1.T) (SR z1.2.1.V) (IR z1.2.1.T) 8 z1.2.2.2.1) r Hs') (Q71 76 5 r Hs' 1 [Q54 0 0 3] [Q26 0 3 (Q60 1 2 0 0 7 8 0 z1.2.2.1 z1.2.2.2.2), Q75 1 5 (length z1.2.1.V) 6 (length z1.2.1.T), Q38 2, Q38 3, Q38 4, Q70 5 (SR z1.2.1.V), Q63 6 (IR z1.2.1.T), Q67 7 8 z1.2.2.2.1] 8)))))))) (Q73 0 (Q102 (Q64 3 1 2 0 0 7 8 0 h0_1l h0_2) 5 h1_0l 6 h1_1l h5 h6 8 h7) r Hs')) := by kernel_rfl
def lv98 : List (Nat × List Nat) := []
theorem v98 (c : Int) (r : TV) (Hs' : List AObj) : VE lv98 98 0 r Hs' [.c (Q0 (.int .u8 c))] [] =
  (∃ b1 : Bool, ((Q66 96 [.c (Q0 (.int .u8 c))] b1) ∧ (br b1 (Q86 true r Hs') (∃ b2 : Bool, ((Q66 125 [.c (Q0 (.int .u8 c))] b2) ∧ (br b2 (Q86 true r Hs') (∃ b3 : Bool, ((Q66 126 [.c (Q0 (.int .u8 c))] b3) ∧ (br b3 (Q86 true r Hs') (Q86 ((c : Int) == (39 : Int)) r Hs')))))))))) := by kernel_rfl
def lv99 : List (Nat × List Nat) := []
theorem v99 (c : Int) (r : TV) (Hs' : List AObj) : VE lv99 99 0 r Hs' [.c (Q0 (.int .u8 c))] [] =
  (∃ n1 : Int, ((Q59 127 (Q107 (.c (Q6 [43, 45, 42, 47, 60, 62, 61, 38, 124, 94, 126, 64, 35, 36, 63, 58])) (Q0 (.int .u8 c))) (Q25 n1)) ∧ (Q86 (decide ((n1 : Int) ≥ (0 : Int))) r Hs'))) := by kernel_rfl
def lv128 : List (Nat × List Nat) := []
theorem v128 (s substr : List UInt8) (r : TV) (Hs' : List AObj) : VE lv128 128 0 r Hs' (Q107 (.c (Q6 s)) (Q6 substr)) [] =
  (∃ n1 : Int, ((Q59 145 (Q107 (.c (Q6 s)) (Q6 substr)) (Q25 n1)) ∧ (Q73 n1 [] r Hs'))) := by kernel_rfl
def lv66 : List (Nat × List Nat) := []
theorem v66 (u_0 : Int) (u_1 : List UInt8) (u_2 : Int) (u_3 : RW) (r : TV) (Hs' : List AObj) : VE lv66 66 0 r Hs' [Q76 u_0 u_1 u_2 u_3] [] =
  (∃ b1 : Bool, ((Q66 20 [Q76 u_0 u_1 u_2 u_3] b1) ∧ (Q86 (!b1) r Hs'))) := by kernel_rfl
def zqf : List (Nat × List Nat) := [(1, [0, 1, 7, 8])]
theorem v107_F74 (s : RW) (r : TV) (Hs' : List AObj) : VE zqf 107 0 r Hs' (Q127 8 s (.fn (.func 74) [] [])) [] =
  ((FV.isSl 8 (Q4 8 s) = true) ∧ (Q71 107 0 r Hs' 1 (Q128 (Q62 0 8 s) 1 (.fn (.func 74) [] []) 7 (length s : Int) 8 0) [] 0)) := by kernel_rfl
theorem zbt (x0 : RW) (x7 x8 : Int) (r : TV) (Hs' : List AObj) : VQ zqf 107 0 r Hs' 1 ⟨Q128 (Q62 0 8 x0) 1 (.fn (.func 74) [] []) 7 x7 8 x8, [], 0⟩ =
  (br (decide ((x8 : Int) < x7)) (((FV.isSl 8 (Q4 8 x0) = true) ∧ ((0 ≤ x8) ∧ ((x8 < (length x0 : Int)) ∧ (([(Q1 (FV.asI (getD (getD x0 (toNat x8) []) 0 FV.nils))), (.str (FV.asS (getD (getD x0 (toNat x8) []) 1 FV.nils))), (Q1 (FV.asI (getD (getD x0 (toNat x8) []) 2 FV.nils))), (getD (getD x0 (toNat x8) []) 3 FV.nils), (Q1 (FV.asI (getD (getD x0 (toNat x8) []) 4 FV.nils))), (.str (FV.asS (getD (getD x0 (toNat x8) []) 5 FV.nils))), (Q1 (FV.asI (getD (getD x0 (toNat x8) []) 6 FV.nils))), (getD (getD x0 (toNat x8) []) 7 FV.nils)] : List FV) = (getD x0 (toNat x8) []))))) ∧ (∃ b1 : Bool, ((Q66 74 [.agg [Q2 (FV.asI (getD (getD x0 (toNat x8) []) 0 FV.nils)), Q6 (FV.asS (getD (getD x0 (toNat x8) []) 1 FV.nils)), Q2 (FV.asI (getD (getD x0 (toNat x8) []) 2 FV.nils)), Q0 (getD (getD x0 (toNat x8) []) 3 FV.nils), Q2 (FV.asI (getD (getD x0 (toNat x8) []) 4 FV.nils)), Q6 (FV.asS (getD (getD x0 (toNat x8) []) 5 FV.nils)), Q2 (FV.asI (getD (getD x0 (toNat x8) []) 6 FV.nils)), Q0 (getD (getD x0 (toNat x8) []) 7 FV.nils)]] b1) ∧ (br b1 (Q73 x8 [] r Hs') (Q71 107 0 r Hs' 1 (Q128 (Q62 0 8 x0) 1 (.fn (.func 74) [] []) 7 x7 8 (IntKind.wrap .i64 (x8 + 1))) [] 0))))) (Q73 (-1 : Int) [] r Hs')) := by kernel_rfl
def lv105 : List (Nat × List Nat) := [(1, [0, 1, 5, 6])]
theorem zou (sl : Nat) (o0 : RW) (o1_0 : Int) (r : TV) (Hs' : List AObj) : VE lv105 105 2 r Hs' (Q107 (.c (Q3 0 1 0 sl)) (.fn (.func 106) [] [(false, [(Q119 1)])])) [Q21 o0, Q94 o1_0] =
  (∃ z1 : Int, ((Q10 132 (Q107 (.c (Q3 0 1 0 sl)) (.fn (.func 106) [] [(false, [(Q119 1)])])) [Q21 o0, Q94 o1_0] (Q25 z1) [Q21 o0, Q94 o1_0]) ∧ (br ((z1 : Int) == (-1 : Int)) (RT (.c (Q3 0 1 0 sl)) [Q21 o0, Q94 o1_0] r Hs') (Q71 105 2 r Hs' 1 (Q128 (Q90 0 0 1 0 sl) 1 (.fn (.func 106) [] [(false, [(Q119 1)])]) 5 z1 6 (IntKind.wrap .i64 (z1 + 1))) [Q63 0 o0, Q108 1 1 o1_0] 2)))) := by kernel_rfl
def lv109 : List (Nat × List Nat) := [(1000001, [2, 3, 4])]
theorem v109 (p_0 : Int) (p_1 : List UInt8) (p_2 : Int) (p_3 : RW) (p_4 : Int) (p_5 : List UInt8) (p_6 : Int) (p_7 : RW) (o0_1l : Nat) (o0_2 : Int) (o1_0l o1_1l : Nat) (o2 o3 o4 : RW) (r : TV) (Hs' : List AObj) : VE lv109 109 5 r Hs' [Q85 0 3, .agg [Q2 p_0, Q6 p_1, Q2 p_2, Q121 p_3, Q2 p_4, Q6 p_5, Q2 p_6, Q121 p_7]] (Q87 (Q64 3 1 2 0 0 4 8 0 o0_1l o0_2) (Q37 2 o1_0l 3 o1_1l) (Q22 o2) (Q21 o3) 8 o4) =
  (∃ z1 : Tm × Tm × List Tm × Int × Nat × Int, ((Q79 133 [Q85 0 3, Q76 p_0 p_1 p_2 p_3] (Q87 (Q64 3 1 2 0 0 4 8 0 o0_1l o0_2) (Q37 2 o1_0l 3 o1_1l) (Q22 o2) (Q21 o3) 8 o4) (Q126 (Q125 z1.1.k (Q6 z1.1.s) (Q2 z1.1.n) (FTs z1.1.l) (Q2 z1.2.1.k) (Q6 z1.2.1.s) (Q2 z1.2.1.n) (FTs z1.2.1.l) (FTs z1.2.2.1)) z1.2.2.2.1) (Q87 (Q64 3 1 2 0 0 4 8 0 z1.2.2.2.2.1 z1.2.2.2.2.2) (Q37 2 o1_0l 3 o1_1l) (Q22 o2) (Q21 o3) 8 o4)) ∧ (br ((z1.2.2.2.1 : Int) != (0 : Int)) (Q73 z1.2.2.2.1 (Q102 (Q64 3 1 2 0 0 7 8 0 z1.2.2.2.2.1 z1.2.2.2.2.2) 5 o1_0l 6 o1_1l o2 o3 8 o4) r Hs') (∃ z2 : Tm × Tm × List Tm × Int × Nat × Int, ((Q79 133 [Q85 0 3, Q76 p_4 p_5 p_6 p_7] (Q87 (Q64 3 1 2 0 0 4 8 0 z1.2.2.2.2.1 z1.2.2.2.2.2) (Q37 2 o1_0l 3 o1_1l) (Q22 o2) (Q21 o3) 8 o4) (Q126 (Q125 z2.1.k (Q6 z2.1.s) (Q2 z2.1.n) (FTs z2.1.l) (Q2 z2.2.1.k) (Q6 z2.2.1.s) (Q2 z2.2.1.n) (FTs z2.2.1.l) (FTs z2.2.2.1)) z2.2.2.2.1) (Q87 (Q64 3 1 2 0 0 4 8 0 z2.2.2.2.2.1 z2.2.2.2.2.2) (Q37 2 o1_0l 3 o1_1l) (Q22 o2) (Q21 o3) 8 o4)) ∧ (br ((z2.2.2.2.1 : Int) != (0 : Int)) (Q73 z2.2.2.2.1 (Q102 (Q64 3 1 2 0 0 7 8 0 z2.2.2.2.2.1 z2.2.2.2.2.2) 5 o1_0l 6 o1_1l o2 o3 8 o4) r Hs') (br ((z1.1.k : Int) == (5 : Int)) (∃ z3 : Tm, ((Q59 135 [(aT z1.1)] (aT z3)) ∧ (∃ z4 : Tm, ((Q59 135 [(aT z2.1)] (aT z4)) ∧ (((4 : Nat) = 4 ∧ 1 ≤ 1) ∧ (((4 : Nat) = 4 ∧ 1 ≤ 1) ∧ (∃ z5 : Sto × Nat × RW × Int, ((Q79 134 (Q89 0 3 (Q69 4 [(FT4 z3)]) (Q69 4 [(FT4 z4)])) (Q87 (Q64 3 1 2 0 0 4 8 0 z2.2.2.2.2.1 z2.2.2.2.2.2) (Q37 2 o1_0l 3 o1_1l) (Q22 o2) (Q21 o3) 8 o4) [] (Q102 (Q64 3 1 2 0 0 7 8 0 z5.2.1 z5.2.2.2) 5 (length z5.1.V) 6 (length z5.1.T) (SR z5.1.V) (IR z5.1.T) 8 z5.2.2.1)) ∧ (Q73 0 (Q102 (Q64 3 1 2 0 0 7 8 0 z5.2.1 z5.2.2.2) 5 (length z5.1.V) 6 (length z5.1.T) (SR z5.1.V) (IR z5.1.T) 8 z5.2.2.1) r Hs'))))))))) (br ((z2.1.k : Int) == (5 : Int)) (∃ z6 : Tm, ((Q59 135 [(aT z1.1)] (aT z6)) ∧ (∃ z7 : Tm, ((Q59 135 [(aT z2.1)] (aT z7)) ∧ (((4 : Nat) = 4 ∧ 1 ≤ 1) ∧ (((4 : Nat) = 4 ∧ 1 ≤ 1) ∧ (∃ z8 : Sto × Nat × RW × Int, ((Q79 134 (Q89 0 3 (Q69 4 [(FT4 z6)]) (Q69 4 [(FT4 z7)])) (Q87 (Q64 3 1 2 0 0 4 8 0 z2.2.2.2.2.1 z2.2.2.2.2.2) (Q37 2 o1_0l 3 o1_1l) (Q22 o2) (Q21 o3) 8 o4) [] (Q102 (Q64 3 1 2 0 0 7 8 0 z8.2.1 z8.2.2.2) 5 (length z8.1.V) 6 (length z8.1.T) (SR z8.1.V) (IR z8.1.T) 8 z8.2.2.1)) ∧ (Q73 0 (Q102 (Q64 3 1 2 0 0 7 8 0 z8.2.1 z8.2.2.2) 5 (length z8.1.V) 6 (length z8.1.T) (SR z8.1.V) (IR z8.1.T) 8 z8.2.2.1) r Hs'))))))))) (∃ b9 : Bool, ((Q66 136 [.agg (Q125 z1.1.k (Q6 z1.1.s) (Q2 z1.1.n) (FTs z1.1.l) (Q2 z1.2.1.k) (Q6 z1.2.1.s) (Q2 z1.2.1.n) (FTs z1.2.1.l) (FTs z1.2.2.1))] b9) ∧ (br b9 (∃ b10 : Bool, ((Q66 136 [.agg (Q125 z2.1.k (Q6 z2.1.s) (Q2 z2.1.n) (FTs z2.1.l) (Q2 z2.2.1.k) (Q6 z2.2.1.s) (Q2 z2.2.1.n) (FTs z2.2.1.l) (FTs z2.2.2.1))] b10) ∧ (br b10 (br ((z1.2.1.n : Int) == z2.2.1.n) (∃ z11 : Int × Sto × Nat × RW × Int, ((Q10 137 (Q89 0 3 (.agg (Q125 z1.1.k (Q6 z1.1.s) (Q2 z1.1.n) (FTs z1.1.l) (Q2 z1.2.1.k) (Q6 z1.2.1.s) (Q2 z1.2.1.n) (FTs z1.2.1.l) (FTs z1.2.2.1))) (.agg (Q125 z2.1.k (Q6 z2.1.s) (Q2 z2.1.n) (FTs z2.1.l) (Q2 z2.2.1.k) (Q6 z2.2.1.s) (Q2 z2.2.1.n) (FTs z2.2.1.l) (FTs z2.2.2.1)))) (Q87 (Q64 3 1 2 0 0 4 8 0 z2.2.2.2.2.1 z2.2.2.2.2.2) (Q37 2 o1_0l 3 o1_1l) (Q22 o2) (Q21 o3) 8 o4) (Q25 z11.1) (Q102 (Q64 3 1 2 0 0 7 8 0 z11.2.2.1 z11.2.2.2.2) 5 (length z11.2.1.V) 6 (length z11.2.1.T) (SR z11.2.1.V) (IR z11.2.1.T) 8 z11.2.2.2.1)) ∧ (Q73 z11.1 (Q102 (Q64 3 1 2 0 0 7 8 0 z11.2.2.1 z11.2.2.2.2) 5 (length z11.2.1.V) 6 (length z11.2.1.T) (SR z11.2.1.V) (IR z11.2.1.T) 8 z11.2.2.2.1) r Hs'))) (∃ b12 : Bool, ((Q66 136 [.agg (Q125 z1.1.k (Q6 z1.1.s) (Q2 z1.1.n) (FTs z1.1.l) (Q2 z1.2.1.k) (Q6 z1.2.1.s) (Q2 z1.2.1.n) (FTs z1.2.1.l) (FTs z1.2.2.1))] b12) ∧ (br b12 (∃ z13 : Int × Sto × Nat × RW × Int, ((Q10 138 (Q89 0 3 (.agg (Q125 z1.1.k (Q6 z1.1.s) (Q2 z1.1.n) (FTs z1.1.l) (Q2 z1.2.1.k) (Q6 z1.2.1.s) (Q2 z1.2.1.n) (FTs z1.2.1.l) (FTs z1.2.2.1))) (.agg (Q125 z2.1.k (Q6 z2.1.s) (Q2 z2.1.n) (FTs z2.1.l) (Q2 z2.2.1.k) (Q6 z2.2.1.s) (Q2 z2.2.1.n) (FTs z2.2.1.l) (FTs z2.2.2.1)))) (Q87 (Q64 3 1 2 0 0 4 8 0 z2.2.2.2.2.1 z2.2.2.2.2.2) (Q37 2 o1_0l 3 o1_1l) (Q22 o2) (Q21 o3) 8 o4) (Q25 z13.1) (Q102 (Q64 3 1 2 0 0 7 8 0 z13.2.2.1 z13.2.2.2.2) 5 (length z13.2.1.V) 6 (length z13.2.1.T) (SR z13.2.1.V) (IR z13.2.1.T) 8 z13.2.2.2.1)) ∧ (Q73 z13.1 (Q102 (Q64 3 1 2 0 0 7 8 0 z13.2.2.1 z13.2.2.2.2) 5 (length z13.2.1.V) 6 (length z13.2.1.T) (SR z13.2.1.V) (IR z13.2.1.T) 8 z13.2.2.2.1) r Hs'))) (∃ b14 : Bool, ((Q66 136 [.agg (Q125 z2.1.k (Q6 z2.1.s) (Q2 z2.1.n) (FTs z2.1.l) (Q2 z2.2.1.k) (Q6 z2.2.1.s) (Q2 z2.2.1.n) (FTs z2.2.1.l) (FTs z2.2.2.1))] b14) ∧ (br b14 (∃ z15 : Int × Sto × Nat × RW × Int, ((Q10 138 (Q89 0 3 (.agg (Q125 z2.1.k (Q6 z2.1.s) (Q2 z2.1.n) (FTs z2.1.l) (Q2 z2.2.1.k) (Q6 z2.2.1.s) (Q2 z2.2.1.n) (FTs z2.2.1.l) (FTs z2.2.2.1))) (.agg (Q125 z1.1.k (Q6 z1.1.s) (Q2 z1.1.n) (FTs z1.1.l) (Q2 z1.2.1.k) (Q6 z1.2.1.s) (Q2 z1.2.1.n) (FTs z1.2.1.l) (FTs z1.2.2.1)))) (Q87 (Q64 3 1 2 0 0 4 8 0 z2.2.2.2.2.1 z2.2.2.2.2.2) (Q37 2 o1_0l 3 o1_1l) (Q22 o2) (Q21 o3) 8 o4) (Q25 z15.1) (Q102 (Q64 3 1 2 0 0 7 8 0 z15.2.2.1 z15.2.2.2.2) 5 (length z15.2.1.V) 6 (length z15.2.1.T) (SR z15.2.1.V) (IR z15.2.1.T) 8 z15.2.2.2.1)) ∧ (Q73 z15.1 (Q102 (Q64 3 1 2 0 0 7 8 0 z15.2.2.1 z15.2.2.2.2) 5 (length z15.2.1.V) 6 (length z15.2.1.T) (SR z15.2.1.V) (IR z15.2.1.T) 8 z15.2.2.2.1) r Hs'))) (∃ b16 : Bool, ((Q66 139 [(aT z1.2.1), (aT z2.2.1)] b16) ∧ (br (!b16) (Q73 170 (Q102 (Q64 3 1 2 0 0 7 8 0 z2.2.2.2.2.1 z2.2.2.2.2.2) 5 o1_0l 6 o1_1l o2 o3 8 o4) r Hs') ((FV.isSl 4 (Q4 4 (FTs z1.2.2.1)) = true) ∧ ((FV.isSl 4 (Q4 4 (FTs z2.2.2.1)) = true) ∧ (br (((length (FTs z1.2.2.1) : Int) : Int) != (length (FTs z2.2.2.1) : Int)) (Q73 170 (Q102 (Q64 3 1 2 0 0 7 8 0 z2.2.2.2.2.1 z2.2.2.2.2.2) 5 o1_0l 6 o1_1l o2 o3 8 o4) r Hs') (∃ z17 : Sto × Nat × RW × Int, ((Q79 134 (Q89 0 3 (Q69 4 (FTs z1.2.2.1)) (Q69 4 (FTs z2.2.2.1))) (Q87 (Q64 3 1 2 0 0 4 8 0 z2.2.2.2.2.1 z2.2.2.2.2.2) (Q37 2 o1_0l 3 o1_1l) (Q22 o2) (Q21 o3) 8 o4) [] (Q102 (Q64 3 1 2 0 0 7 8 0 z17.2.1 z17.2.2.2) 5 (length z17.1.V) 6 (length z17.1.T) (SR z17.1.V) (IR z17.1.T) 8 z17.2.2.1)) ∧ (Q73 0 (Q102 (Q64 3 1 2 0 0 7 8 0 z17.2.1 z17.2.2.2) 5 (length z17.1.V) 6 (length z17.1.T) (SR z17.1.V) (IR z17.1.T) 8 z17.2.2.1) r Hs')))))))))))))))) (∃ b18 : Bool, ((Q66 136 [.agg (Q125 z1.1.k (Q6 z1.1.s) (Q2 z1.1.n) (FTs z1.1.l) (Q2 z1.2.1.k) (Q6 z1.2.1.s) (Q2 z1.2.1.n) (FTs z1.2.1.l) (FTs z1.2.2.1))] b18) ∧ (br b18 (∃ z19 : Int × Sto × Nat × RW × Int, ((Q10 138 (Q89 0 3 (.agg (Q125 z1.1.k (Q6 z1.1.s) (Q2 z1.1.n) (FTs z1.1.l) (Q2 z1.2.1.k) (Q6 z1.2.1.s) (Q2 z1.2.1.n) (FTs z1.2.1.l) (FTs z1.2.2.1))) (.agg (Q125 z2.1.k (Q6 z2.1.s) (Q2 z2.1.n) (FTs z2.1.l) (Q2 z2.2.1.k) (Q6 z2.2.1.s) (Q2 z2.2.1.n) (FTs z2.2.1.l) (FTs z2.2.2.1)))) (Q87 (Q64 3 1 2 0 0 4 8 0 z2.2.2.2.2.1 z2.2.2.2.2.2) (Q37 2 o1_0l 3 o1_1l) (Q22 o2) (Q21 o3) 8 o4) (Q25 z19.1) (Q102 (Q64 3 1 2 0 0 7 8 0 z19.2.2.1 z19.2.2.2.2) 5 (length z19.2.1.V) 6 (length z19.2.1.T) (SR z19.2.1.V) (IR z19.2.1.T) 8 z19.2.2.2.1)) ∧ (Q73 z19.1 (Q102 (Q64 3 1 2 0 0 7 8 0 z19.2.2.1 z19.2.2.2.2) 5 (length z19.2.1.V) 6 (length z19.2.1.T) (SR z19.2.1.V) (IR z19.2.1.T) 8 z19.2.2.2.1) r Hs'))) (∃ b20 : Bool, ((Q66 136 [.agg (Q125 z2.1.k (Q6 z2.1.s) (Q2 z2.1.n) (FTs z2.1.l) (Q2 z2.2.1.k) (Q6 z2.2.1.s) (Q2 z2.2.1.n) (FTs z2.2.1.l) (FTs z2.2.2.1))] b20) ∧ (br b20 (∃ z21 : Int × Sto × Nat × RW × Int, ((Q10 138 (Q89 0 3 (.agg (Q125 z2.1.k (Q6 z2.1.s) (Q2 z2.1.n) (FTs z2.1.l) (Q2 z2.2.1.k) (Q6 z2.2.1.s) (Q2 z2.2.1.n) (FTs z2.2.1.l) (FTs z2.2.2.1))) (.agg (Q125 z1.1.k (Q6 z1.1.s) (Q2 z1.1.n) (FTs z1.1.l) (Q2 z1.2.1.k) (Q6 z1.2.1.s) (Q2 z1.2.1.n) (FTs z1.2.1.l) (FTs z1.2.2.1)))) (Q87 (Q64 3 1 2 0 0 4 8 0 z2.2.2.2.2.1 z2.2.2.2.2.2) (Q37 2 o1_0l 3 o1_1l) (Q22 o2) (Q21 o3) 8 o4) (Q25 z21.1) (Q102 (Q64 3 1 2 0 0 7 8 0 z21.2.2.1 z21.2.2.2.2) 5 (length z21.2.1.V) 6 (length z21.2.1.T) (SR z21.2.1.V) (IR z21.2.1.T) 8 z21.2.2.2.1)) ∧ (Q73 z21.1 (Q102 (Q64 3 1 2 0 0 7 8 0 z21.2.2.1 z21.2.2.2.2) 5 (length z21.2.1.V) 6 (length z21.2.1.T) (SR z21.2.1.V) (IR z21.2.1.T) 8 z21.2.2.2.1) r Hs'))) (∃ b22 : Bool, ((Q66 139 [(aT z1.2.1), (aT z2.2.1)] b22) ∧ (br (!b22) (Q73 170 (Q102 (Q64 3 1 2 0 0 7 8 0 z2.2.2.2.2.1 z2.2.2.2.2.2) 5 o1_0l 6 o1_1l o2 o3 8 o4) r Hs') ((FV.isSl 4 (Q4 4 (FTs z1.2.2.1)) = true) ∧ ((FV.isSl 4 (Q4 4 (FTs z2.2.2.1)) = true) ∧ (br (((length (FTs z1.2.2.1) : Int) : Int) != (length (FTs z2.2.2.1) : Int)) (Q73 170 (Q102 (Q64 3 1 2 0 0 7 8 0 z2.2.2.2.2.1 z2.2.2.2.2.2) 5 o1_0l 6 o1_1l o2 o3 8 o4) r Hs') (∃ z23 : Sto × Nat × RW × Int, ((Q79 134 (Q89 0 3 (Q69 4 (FTs z1.2.2.1)) (Q69 4 (FTs z2.2.2.1))) (Q87 (Q64 3 1 2 0 0 4 8 0 z2.2.2.2.2.1 z2.2.2.2.2.2) (Q37 2 o1_0l 3 o1_1l) (Q22 o2) (Q21 o3) 8 o4) [] (Q102 (Q64 3 1 2 0 0 7 8 0 z23.2.1 z23.2.2.2) 5 (length z23.1.V) 6 (length z23.1.T) (SR z23.1.V) (IR z23.1.T) 8 z23.2.2.1)) ∧ (Q73 0 (Q102 (Q64 3 1 2 0 0 7 8 0 z23.2.1 z23.2.2.2) 5 (length z23.1.V) 6 (length z23.1.T) (SR z23.1.V) (IR z23.1.T) 8 z23.2.2.1) r Hs')))))))))))))))))) (∃ b24 : Bool, ((Q66 136 [.agg (Q125 z1.1.k (Q6 z1.1.s) (Q2 z1.1.n) (FTs z1.1.l) (Q2 z1.2.1.k) (Q6 z1.2.1.s) (Q2 z1.2.1.n) (FTs z1.2.1.l) (FTs z1.2.2.1))] b24) ∧ (br b24 (∃ z25 : Int × Sto × Nat × RW × Int, ((Q10 138 (Q89 0 3 (.agg (Q125 z1.1.k (Q6 z1.1.s) (Q2 z1.1.n) (FTs z1.1.l) (Q2 z1.2.1.k) (Q6 z1.2.1.s) (Q2 z1.2.1.n) (FTs z1.2.1.l) (FTs z1.2.2.1))) (.agg (Q125 z2.1.k (Q6 z2.1.s) (Q2 z2.1.n) (FTs z2.1.l) (Q2 z2.2.1.k) (Q6 z2.2.1.s) (Q2 z2.2.1.n) (FTs z2.2.1.l) (FTs z2.2.2.1)))) (Q87 (Q64 3 1 2 0 0 4 8 0 z2.2.2.2.2.1 z2.2.2.2.2.2) (Q37 2 o1_0l 3 o1_1l) (Q22 o2) (Q21 o3) 8 o4) (Q25 z25.1) (Q102 (Q64 3 1 2 0 0 7 8 0 z25.2.2.1 z25.2.2.2.2) 5 (length z25.2.1.V) 6 (length z25.2.1.T) (SR z25.2.1.V) (IR z25.2.1.T) 8 z25.2.2.2.1)) ∧ (Q73 z25.1 (Q102 (Q64 3 1 2 0 0 7 8 0 z25.2.2.1 z25.2.2.2.2) 5 (length z25.2.1.V) 6 (length z25.2.1.T) (SR z25.2.1.V) (IR z25.2.1.T) 8 z25.2.2.2.1) r Hs'))) (∃ b26 : Bool, ((Q66 136 [.agg (Q125 z2.1.k (Q6 z2.1.s) (Q2 z2.1.n) (FTs z2.1.l) (Q2 z2.2.1.k) (Q6 z2.2.1.s) (Q2 z2.2.1.n) (FTs z2.2.1.l) (FTs z2.2.2.1))] b26) ∧ (br b26 (∃ z27 : Int × Sto × Nat × RW × Int, ((Q10 138 (Q89 0 3 (.agg (Q125 z2.1.k (Q6 z2.1.s) (Q2 z2.1.n) (FTs z2.1.l) (Q2 z2.2.1.k) (Q6 z2.2.1.s) (Q2 z2.2.1.n) (FTs z2.2.1.l) (FTs z2.2.2.1))) (.agg (Q125 z1.1.k (Q6 z1.1.s) (Q2 z1.1.n) (FTs z1.1.l) (Q2 z1.2.1.k) (Q6 z1.2.1.s) (Q2 z1.2.1.n) (FTs z1.2.1.l) (FTs z1.2.2.1)))) (Q87 (Q64 3 1 2 0 0 4 8 0 z2.2.2.2.2.1 z2.2.2.2.2.2) (Q37 2 o1_0l 3 o1_1l) (Q22 o2) (Q21 o3) 8 o4) (Q25 z27.1) (Q102 (Q64 3 1 2 0 0 7 8 0 z27.2.2.1 z27.2.2.2.2) 5 (length z27.2.1.V) 6 (length z27.2.1.T) (SR z27.2.1.V) (IR z27.2.1.T) 8 z27.2.2.2.1)) ∧ (Q73 z27.1 (Q102 (Q64 3 1 2 0 0 7 8 0 z27.2.2.1 z27.2.2.2.2) 5 (length z27.2.1.V) 6 (length z27.2.1.T) (SR z27.2.1.V) (IR z27.2.1.T) 8 z27.2.2.2.1) r Hs'))) (∃ b28 : Bool, ((Q66 139 [(aT z1.2.1), (aT z2.2.1)] b28) ∧ (br (!b28) (Q73 170 (Q102 (Q64 3 1 2 0 0 7 8 0 z2.2.2.2.2.1 z2.2.2.2.2.2) 5 o1_0l 6 o1_1l o2 o3 8 o4) r Hs') ((FV.isSl 4 (Q4 4 (FTs z1.2.2.1)) = true) ∧ ((FV.isSl 4 (Q4 4 (FTs z2.2.2.1)) = true) ∧ (br (((length (FTs z1.2.2.1) : Int) : Int) != (length (FTs z2.2.2.1) : Int)) (Q73 170 (Q102 (Q64 3 1 2 0 0 7 8 0 z2.2.2.2.2.1 z2.2.2.2.2.2) 5 o1_0l 6 o1_1l o2 o3 8 o4) r Hs') (∃ z29 : Sto × Nat × RW × Int, ((Q79 134 (Q89 0 3 (Q69 4 (FTs z1.2.2.1)) (Q69 4 (FTs z2.2.2.1))) (Q87 (Q64 3 1 2 0 0 4 8 0 z2.2.2.2.2.1 z2.2.2.2.2.2) (Q37 2 o1_0l 3 o1_1l) (Q22 o2) (Q21 o3) 8 o4) [] (Q102 (Q64 3 1 2 0 0 7 8 0 z29.2.1 z29.2.2.2) 5 (length z29.1.V) 6 (length z29.1.T) (SR z29.1.V) (IR z29.1.T) 8 z29.2.2.1)) ∧ (Q73 0 (Q102 (Q64 3 1 2 0 0 7 8 0 z29.2.1 z29.2.2.2) 5 (length z29.1.V) 6 (length z29.1.T) (SR z29.1.V) (IR z29.1.T) 8 z29.2.2.1) r Hs')))))))))))))))))))))))))) := by kernel_rfl
def lv125 : List (Nat × List Nat) := []
theorem v125 (c : Int) (r : TV) (Hs' : List AObj) : VE lv125 125 0 r Hs' [.c (Q0 (.int .u8 c))] [] =
  (br (decide (((65 : Int) : Int) ≤ c)) (br (decide ((c : Int) ≤ (90 : Int))) (Q86 true r Hs') (Q86 ((c : Int) == (95 : Int)) r Hs')) (Q86 ((c : Int) == (95 : Int)) r Hs')) := by kernel_rfl
def lv126 : List (Nat × List Nat) := []
theorem v126 (c : Int) (r : TV) (Hs' : List AObj) : VE lv126 126 0 r Hs' [.c (Q0 (.int .u8 c))] [] =
  (br (decide (((48 : Int) : Int) ≤ c)) (Q86 (decide ((c : Int) ≤ (57 : Int))) r Hs') (Q96 r Hs')) := by kernel_rfl
def lv145 : List (Nat × List Nat) := [(3, [0, 1, 5, 6, 7, 8, 9, 10])]
theorem v145 (s substr : List UInt8) (r : TV) (Hs' : List AObj) : VE lv145 145 0 r Hs' (Q107 (.c (Q6 s)) (Q6 substr)) [] =
  (br (((length substr : Int) : Int) == (0 : Int)) (Q73 0 [] r Hs') (br ((substr : List UInt8) == s) (Q73 0 [] r Hs') (br (((length substr : Int) : Int) == (1 : Int)) ((0 ≤ (0 : Int) ∧ (0 : Int) < (length substr : Int)) ∧ (∃ n1 : Int, ((Q59 144 (Q107 (.c (Q6 s)) (Q0 (.int .u8 ((UInt8.toNat (getD substr 0 0) : Nat) : Int)))) (Q25 n1)) ∧ (Q73 n1 [] r Hs')))) (br (decide (((length substr : Int) : Int) ≥ (length s : Int))) (Q73 (-1 : Int) [] r Hs') False)))) := by kernel_rfl
def lv74 : List (Nat × List Nat) := []
theorem v74 (p_0 : Int) (p_1 : List UInt8) (p_2 : Int) (p_3 : RW) (p_4 : Int) (p_5 : List UInt8) (p_6 : Int) (p_7 : RW) (r : TV) (Hs' : List AObj) : VE lv74 74 0 r Hs' [.agg [Q2 p_0, Q6 p_1, Q2 p_2, Q121 p_3, Q2 p_4, Q6 p_5, Q2 p_6, Q121 p_7]] [] =
  (∃ b1 : Bool, ((Q66 20 [Q76 p_0 p_1 p_2 p_3] b1) ∧ (br (!b1) (Q86 true r Hs') (∃ b2 : Bool, ((Q66 20 [Q76 p_4 p_5 p_6 p_7] b2) ∧ (Q86 (!b2) r Hs')))))) := by kernel_rfl
def zpo : List (Nat × List Nat) := [(1, [0, 1, 7, 8])]
theorem zqc (sl : Nat) (o0 : RW) (o1_0 : Int) (r : TV) (Hs' : List AObj) : VE zpo 132 2 r Hs' (Q107 (.c (Q3 0 1 0 sl)) (.fn (.func 106) [] [(false, [(Q119 1)])])) [Q21 o0, Q94 o1_0] =
  (Q71 132 2 r Hs' 1 (Q128 (Q90 0 0 1 0 sl) 1 (.fn (.func 106) [] [(false, [(Q119 1)])]) 7 (sl : Int) 8 0) [Q63 0 o0, Q108 1 1 o1_0] 2) := by kernel_rfl
theorem z9m (x0l : Nat) (x7 x8 : Int) (h0 : RW) (h1_0 : Int) (r : TV) (Hs' : List AObj) : VQ zpo 132 2 r Hs' 1 ⟨Q128 (Q90 0 0 1 0 x0l) 1 (.fn (.func 106) [] [(false, [(Q119 1)])]) 7 x7 8 x8, [Q63 0 h0, Q108 1 1 h1_0], 2⟩ =
  (br (decide ((x8 : Int) < x7)) ((0 ≤ x8 ∧ x8 < (x0l : Int)) ∧ ((((0 + (toNat x8)) < (length h0)) ∧ ((([(Q1 (FV.asI (getD (getD h0 (0 + (toNat x8)) []) 0 FV.nils)))] : List FV) = (take 1 (drop 0 (getD h0 (0 + (toNat x8)) [])))) ∧ ((1 : Nat) = 1))) ∧ (∃ b1 : Bool, ((Q10 106 [Q25 (FV.asI (getD (getD h0 (0 + (toNat x8)) []) 0 FV.nils)), Q85 0 1] [Q94 h1_0] (Q32 b1) [Q94 h1_0]) ∧ (br b1 (Q73 x8 [Q21 h0, Q94 h1_0] r Hs') (Q71 132 2 r Hs' 1 (Q128 (Q90 0 0 1 0 x0l) 1 (.fn (.func 106) [] [(false, [(Q119 1)])]) 7 x7 8 (IntKind.wrap .i64 (x8 + 1))) [Q63 0 h0, Q108 1 1 h1_0] 2)))))) (Q73 (-1 : Int) [Q21 h0, Q94 h1_0] r Hs')) := by kernel_rfl
def lv106 : List (Nat × List Nat) := []
theorem v106 (x o0_0 : Int) (r : TV) (Hs' : List AObj) : VE lv106 106 1 r Hs' [Q25 x, Q85 0 1] [Q94 o0_0] =
  (Q56 (decide ((x : Int) ≥ o0_0)) [Q94 o0_0] r Hs') := by kernel_rfl
def lv133 : List (Nat × List Nat) := []
theorem v133 (t_0 : Int) (t_1 : List UInt8) (t_2 : Int) (t_3 : RW) (o0_1l : Nat) (o0_2 : Int) (o1_0l o1_1l : Nat) (o2 o3 o4 : RW) (r : TV) (Hs' : List AObj) : VE lv133 133 5 r Hs' [Q85 0 3, Q76 t_0 t_1 t_2 t_3] (Q87 (Q64 3 1 2 0 0 4 8 0 o0_1l o0_2) (Q37 2 o1_0l 3 o1_1l) (Q22 o2) (Q21 o3) 8 o4) =
  (∃ z1 : Tm × Int × Int, ((Q79 91 (Q89 0 2 (Q76 t_0 t_1 t_2 t_3) (Q25 o0_2)) (Q47 1 o1_0l 2 o1_1l o2 o3) (Q92 (Q40 (cT z1.1)) z1.2.1 z1.2.2) (Q47 1 o1_0l 2 o1_1l o2 o3)) ∧ (br ((z1.2.2 : Int) != (0 : Int)) (Q49 (Q126 (Q68 0 (Q6 []) (Q2 0) Q31 (Q2 0) (Q6 []) (Q2 0) Q31 Q31) z1.2.2) (Q87 (Q64 3 1 2 0 0 4 8 0 o0_1l o0_2) (Q37 2 o1_0l 3 o1_1l) (Q22 o2) (Q21 o3) 8 o4) r Hs') ((∃ z2 : Tm, ((Q59 92 [(aT z1.1)] (.tup (Q74 (cT z2) [Q31]))) ∧ (Q49 (Q126 (Q124 z1.1.k (Q6 z1.1.s) (Q2 z1.1.n) (FTs z1.1.l) (Q2 z2.k) (Q6 z2.s) (Q2 z2.n) (FTs z2.l) Q31) 0) (Q87 (Q64 3 1 2 0 0 4 8 0 o0_1l z1.2.1) (Q37 2 o1_0l 3 o1_1l) (Q22 o2) (Q21 o3) 8 o4) r Hs'))) ∨ (∃ z3 : Tm × List Tm, ((Q57 92 [(aT z1.1)] (.tup (Q74 (cT z3.1) [Q3 0 4 0 (length z3.2)])) [.arz 4 (FTs z3.2)]) ∧ (((4 : Nat) = 4 ∧ (0 + (length z3.2)) ≤ (length (FTs z3.2))) ∧ (Q49 (Q126 (Q125 z1.1.k (Q6 z1.1.s) (Q2 z1.1.n) (FTs z1.1.l) (Q2 z3.1.k) (Q6 z3.1.s) (Q2 z3.1.n) (FTs z3.1.l) (take (length z3.2) (drop 0 (FTs z3.2)))) 0) (Q87 (Q64 3 1 2 0 0 4 8 0 o0_1l z1.2.1) (Q37 2 o1_0l 3 o1_1l) (Q22 o2) (Q21 o3) 8 o4) r Hs')))))))) := by kernel_rfl
def lv135 : List (Nat × List Nat) := []
theorem v135 (t_0 : Int) (t_1 : List UInt8) (t_2 : Int) (t_3 : RW) (r : TV) (Hs' : List AObj) : VE lv135 135 0 r Hs' [Q76 t_0 t_1 t_2 t_3] [] =
  (∃ b1 : Bool, ((Q66 20 [Q76 t_0 t_1 t_2 t_3] b1) ∧ (br (!b1) (RT (Q76 t_0 t_1 t_2 t_3) [] r Hs') (br ((t_0 : Int) == (5 : Int)) (((FV.isSl 4 (Q4 4 t_3) = true) ∧ ((0 ≤ (0 : Int)) ∧ (((0 : Int) < (length t_3 : Int)) ∧ (((rE (getD t_3 0 [])) : List FV) = (getD t_3 0 []))))) ∧ (RT (aE (getD t_3 0 [])) [] r Hs')) (∃ z2 : Tm, ((Q59 131 [Q76 t_0 t_1 t_2 t_3, Q25 0, Q25 1] (aT z2)) ∧ (((4 : Nat) = 4 ∧ 1 ≤ 1) ∧ (∃ z3 : Tm, ((Q59 24 [(aT z2), Q69 4 [[(Q1 3), (.str []), (Q1 0), .nils]]] (aT z3)) ∧ (RT (aT z3) [] r Hs')))))))))) := by kernel_rfl
def lv134 : List (Nat × List Nat) := [(1, [3, 4, 5, 8]), (1000001, [2, 3, 4])]
theorem v134 (a b : RW) (o0_1l : Nat) (o0_2 : Int) (o1_0l o1_1l : Nat) (o2 o3 o4 : RW) (r : TV) (Hs' : List AObj) : VE lv134 134 5 r Hs' (Q89 0 3 (Q69 4 a) (Q69 4 b)) (Q87 (Q64 3 1 2 0 0 4 8 0 o0_1l o0_2) (Q37 2 o1_0l 3 o1_1l) (Q22 o2) (Q21 o3) 8 o4) =
  (∃ z1 : List Tm, ((Q57 152 [Q69 4 a] (.c (.fn (.func 167) [] [(false, [(Q119 0)])])) [Q7 1 [Q121 (FTs z1)]]) ∧ (Q71 134 5 r Hs' 1 [Q54 3 8 1, Q54 4 9 1, Q54 5 10 1, Q5 8 (.fn (.func 167) [] [(false, [(Q119 11)])])] [Q26 0 3 (Q60 1 2 0 0 7 8 0 o0_1l o0_2), Q75 1 5 o1_0l 6 o1_1l, Q38 2, Q38 3, Q38 4, Q70 5 o2, Q63 6 o3, Q67 7 8 o4, Q26 8 1 [Q9 0 3 0 0], Q26 9 1 [Q121 a], Q26 10 1 [Q121 b], Q26 11 1 [Q121 (FTs z1)]] 12))) := by kernel_rfl
theorem v134_1an (h0_1l : Nat) (h0_2 : Int) (h1_0l : Nat) (h1_1l : Nat) (h5 : RW) (h6 : RW) (h7 : RW) (h9_0 : RW) (h10_0 : RW) (h11_0 : RW) (K : St → Prop) : prepV 12 [5, 6, 7] [3, 4, 5, 8] K ⟨[Q54 3 8 1, Q54 4 9 1, Q54 5 10 1, Q5 8 (.fn (.func 167) [] [(false, [(Q119 11)])])], [Q26 0 3 (Q60 1 2 0 0 7 8 0 h0_1l h0_2), Q75 1 5 h1_0l 6 h1_1l, Q38 2, Q38 3, Q38 4, Q70 5 h5, Q63 6 h6, Q67 7 8 h7, Q26 8 1 [Q9 0 3 0 0], Q26 9 1 [Q121 h9_0], Q26 10 1 [Q121 h10_0], Q26 11 1 [Q121 h11_0]], 12⟩ =
  (K ⟨[Q54 3 8 1, Q54 4 9 1, Q54 5 10 1, Q5 8 (.fn (.func 167) [] [(false, [(Q119 11)])])], [Q26 0 3 (Q60 1 2 0 0 14 8 0 h0_1l h0_2), Q75 1 12 h1_0l 13 h1_1l, Q38 2, Q38 3, Q38 4, Q38 5, Q38 6, Q38 7, Q26 8 1 [Q9 0 3 0 0], Q26 9 1 [Q121 h9_0], Q26 10 1 [Q121 h10_0], Q26 11 1 [Q121 h11_0], Q70 12 h5, Q63 13 h6, Q67 14 8 h7], 15⟩) := by kernel_rfl
theorem zqp (h0_1l : Nat) (h0_2 : Int) (h1_0l : Nat) (h1_1l : Nat) (h9_0 : RW) (h10_0 : RW) (h11_0 : RW) (h12 : RW) (h13 : RW) (h14 : RW) (k : Int) (v_0 : Int) (v_1 : List UInt8) (v_2 : Int) (v_3 : RW) (R : AHeap → Nat → Prop) : vcR Tryz.prog sh 134 12 [5, 6, 7] 1 [(3, (Q85 8 1)), (4, (Q85 9 1)), (5, (Q85 10 1)), (8, (.c (.fn (.func 167) [] [(false, [(Q119 11)])])))] k (Q76 v_0 v_1 v_2 v_3) [(0, (Q64 3 1 2 0 0 14 8 0 h0_1l h0_2)), (1, (Q37 12 h1_0l 13 h1_1l)), (2, .gone), (3, .gone), (4, .gone), (5, .gone), (6, .gone), (7, .gone), (8, (Q7 1 [Q9 0 3 0 0])), (9, (Q7 1 [Q121 h9_0])), (10, (Q7 1 [Q121 h10_0])), (11, (Q7 1 [Q121 h11_0])), (12, (Q22 h12)), (13, (Q21 h13)), (14, (.arz 8 h14))] 15 R =
  (((FV.isSl 4 (Q4 4 h9_0) = true) ∧ ((0 ≤ k) ∧ ((k < (length h9_0 : Int)) ∧ (((rE (getD h9_0 (toNat k) [])) : List FV) = (getD h9_0 (toNat k) []))))) ∧ (((FV.isSl 4 (Q4 4 h10_0) = true) ∧ ((0 ≤ k) ∧ ((k < (length h10_0 : Int)) ∧ (((rE (getD h10_0 (toNat k) [])) : List FV) = (getD h10_0 (toNat k) []))))) ∧ ((1 ≤ 1) ∧ ((h0_1l ≤ (length h14) ∧ z0i (h0_1l + 1) 112) ∧ (R [(0, (Q64 3 1 2 0 0 14 8 0 (h0_1l + 1) h0_2)), (1, (Q37 12 h1_0l 13 h1_1l)), (2, .gone), (3, .gone), (4, .gone), (5, .gone), (6, .gone), (7, .gone), (8, (Q7 1 [Q9 0 3 0 0])), (9, (Q7 1 [Q121 h9_0])), (10, (Q7 1 [Q121 h10_0])), (11, (Q7 1 [Q121 h11_0])), (12, (Q22 h12)), (13, (Q21 h13)), (14, (.arz 8 ((take h0_1l h14) ++ [[(Q1 (FV.asI (getD (getD h9_0 (toNat k) []) 0 FV.nils))), (.str (FV.asS (getD (getD h9_0 (toNat k) []) 1 FV.nils))), (Q1 (FV.asI (getD (getD h9_0 (toNat k) []) 2 FV.nils))), (getD (getD h9_0 (toNat k) []) 3 FV.nils), (Q1 (FV.asI (getD (getD h10_0 (toNat k) []) 0 FV.nils))), (.str (FV.asS (getD (getD h10_0 (toNat k) []) 1 FV.nils))), (Q1 (FV.asI (getD (getD h10_0 (toNat k) []) 2 FV.nils))), (getD (getD h10_0 (toNat k) []) 3 FV.nils)]])))] 15))))) := by kernel_rfl
theorem zq2 (h0_1l : Nat) (h0_2 : Int) (h1_0l : Nat) (h1_1l : Nat) (h9_0 : RW) (h10_0 : RW) (h11_0 : RW) (h12 : RW) (h13 : RW) (h14 : RW) (r : TV) (Hs' : List AObj) : vcA Tryz.prog sh lv134 134 5 (fun r0 Hs0 => TV.Le r0 r ∧ Hs0 = Hs') (RPt Tryz.prog 134 5 r Hs') 1 ⟨[Q54 3 8 1, Q54 4 9 1, Q54 5 10 1, Q5 8 (.fn (.func 167) [] [(false, [(Q119 11)])])], [Q26 0 3 (Q60 1 2 0 0 14 8 0 h0_1l h0_2), Q75 1 12 h1_0l 13 h1_1l, Q38 2, Q38 3, Q38 4, Q38 5, Q38 6, Q38 7, Q26 8 1 [Q9 0 3 0 0], Q26 9 1 [Q121 h9_0], Q26 10 1 [Q121 h10_0], Q26 11 1 [Q121 h11_0], Q70 12 h12, Q63 13 h13, Q67 14 8 h14], 15⟩ =
  (Q49 [] (Q102 (Q64 3 1 2 0 0 7 8 0 h0_1l h0_2) 5 h1_0l 6 h1_1l h12 h13 8 h14) r Hs') := by kernel_rfl
def lv136 : List (Nat × List Nat) := []
theorem v136 (x_0 : Int) (x_1 : List UInt8) (x_2 : Int) (x_3 : RW) (x_4 : Int) (x_5 : List UInt8) (x_6 : Int) (x_7 x_8 : RW) (r : TV) (Hs' : List AObj) : VE lv136 136 0 r Hs' [.agg (Q125 x_0 (Q6 x_1) (Q2 x_2) x_3 (Q2 x_4) (Q6 x_5) (Q2 x_6) x_7 x_8)] [] =
  (Q86 ((x_4 : Int) == (4 : Int)) r Hs') := by kernel_rfl
def zoq : List (Nat × List Nat) := [(3, [0, 4, 7, 9, 10, 41, 42]), (1000001, [2, 3, 4])]
theorem v137 (x_0 : Int) (x_1 : List UInt8) (x_2 : Int) (x_3 : RW) (x_4 : Int) (x_5 : List UInt8) (x_6 : Int) (x_7 x_8 : RW) (y_0 : Int) (y_1 : List UInt8) (y_2 : Int) (y_3 : RW) (y_4 : Int) (y_5 : List UInt8) (y_6 : Int) (y_7 y_8 : RW) (o0_1l : Nat) (o0_2 : Int) (o1_0l o1_1l : Nat) (o2 o3 o4 : RW) (r : TV) (Hs' : List AObj) : VE zoq 137 5 r Hs' (Q89 0 3 (.agg (Q125 x_0 (Q6 x_1) (Q2 x_2) x_3 (Q2 x_4) (Q6 x_5) (Q2 x_6) x_7 x_8)) (.agg (Q125 y_0 (Q6 y_1) (Q2 y_2) y_3 (Q2 y_4) (Q6 y_5) (Q2 y_6) y_7 y_8))) (Q87 (Q64 3 1 2 0 0 4 8 0 o0_1l o0_2) (Q37 2 o1_0l 3 o1_1l) (Q22 o2) (Q21 o3) 8 o4) =
  (∃ z1 : List Tm × Int × Nat × Int, ((Q79 153 [Q85 0 3, .agg (Q125 x_0 (Q6 x_1) (Q2 x_2) x_3 (Q2 x_4) (Q6 x_5) (Q2 x_6) x_7 x_8)] (Q87 (Q64 3 1 2 0 0 4 8 0 o0_1l o0_2) (Q37 2 o1_0l 3 o1_1l) (Q22 o2) (Q21 o3) 8 o4) [Q19 [Q121 (FTs z1.1)], Q30 z1.2.1] (Q87 (Q64 3 1 2 0 0 4 8 0 z1.2.2.1 z1.2.2.2) (Q37 2 o1_0l 3 o1_1l) (Q22 o2) (Q21 o3) 8 o4)) ∧ (br ((z1.2.1 : Int) != (0 : Int)) (Q73 z1.2.1 (Q102 (Q64 3 1 2 0 0 7 8 0 z1.2.2.1 z1.2.2.2) 5 o1_0l 6 o1_1l o2 o3 8 o4) r Hs') (∃ z2 : List Tm × Int × Nat × Int, ((Q79 153 [Q85 0 3, .agg (Q125 y_0 (Q6 y_1) (Q2 y_2) y_3 (Q2 y_4) (Q6 y_5) (Q2 y_6) y_7 y_8)] (Q87 (Q64 3 1 2 0 0 4 8 0 z1.2.2.1 z1.2.2.2) (Q37 2 o1_0l 3 o1_1l) (Q22 o2) (Q21 o3) 8 o4) [Q19 [Q121 (FTs z2.1)], Q30 z2.2.1] (Q87 (Q64 3 1 2 0 0 4 8 0 z2.2.2.1 z2.2.2.2) (Q37 2 o1_0l 3 o1_1l) (Q22 o2) (Q21 o3) 8 o4)) ∧ (br ((z2.2.1 : Int) != (0 : Int)) (Q73 z2.2.1 (Q102 (Q64 3 1 2 0 0 7 8 0 z2.2.2.1 z2.2.2.2) 5 o1_0l 6 o1_1l o2 o3 8 o4) r Hs') ((FV.isSl 4 (Q4 4 (FTs z1.1)) = true) ∧ ((FV.isSl 4 (Q4 4 (FTs z2.1)) = true) ∧ (br (((length (FTs z1.1) : Int) : Int) != (length (FTs z2.1) : Int)) (Q73 171 (Q102 (Q64 3 1 2 0 0 7 8 0 z2.2.2.1 z2.2.2.2) 5 o1_0l 6 o1_1l o2 o3 8 o4) r Hs') ((FV.isSl 4 (Q4 4 (FTs z1.1)) = true) ∧ ((((length (FTs z1.1) : Int) = (length (FTs z1.1) : Int)) ∧ ((0 ≤ (length (FTs z1.1) : Int)) ∧ (((1 : Nat) = 1) ∧ (((0 : Nat) < 1) ∧ (((0 : Nat) < 1) ∧ (z0i (toNat (length (FTs z1.1) : Int)) 1)))))) ∧ ((FV.isSl 4 (Q4 4 (FTs z1.1)) = true) ∧ (Q71 137 5 r Hs' 3 [Q54 0 0 3, Q54 4 8 9, Q62 7 4 (FTs z1.1), Q62 9 4 (FTs z2.1), Q90 10 9 1 0 (toNat (length (FTs z1.1) : Int)), Q18 41 (length (FTs z1.1) : Int), Q18 42 0] [Q26 0 3 (Q60 1 2 0 0 7 8 0 z2.2.2.1 z2.2.2.2), Q75 1 5 o1_0l 6 o1_1l, Q38 2, Q38 3, Q38 4, Q70 5 o2, Q63 6 o3, Q67 7 8 o4, Q26 8 9 (Q125 x_0 (Q6 x_1) (Q2 x_2) x_3 (Q2 x_4) (Q6 x_5) (Q2 x_6) x_7 x_8), Q63 9 (List.replicate (toNat (length (FTs z1.1) : Int)) ([(.bool false)] : List FV))] 10))))))))))))) := by kernel_rfl
theorem zpv (x7 x9 : RW) (x10l : Nat) (x41 x42 : Int) (h0_1l : Nat) (h0_2 : Int) (h1_0l h1_1l : Nat) (h5 h6 h7 : RW) (h8_0 : Int) (h8_1 : List UInt8) (h8_2 : Int) (h8_3 : RW) (h8_4 : Int) (h8_5 : List UInt8) (h8_6 : Int) (h8_7 h8_8 h9 : RW) (r : TV) (Hs' : List AObj) : VQ zoq 137 5 r Hs' 3 ⟨[Q54 0 0 3, Q54 4 8 9, Q62 7 4 x7, Q62 9 4 x9, Q90 10 9 1 0 x10l, Q18 41 x41, Q18 42 x42], [Q26 0 3 (Q60 1 2 0 0 7 8 0 h0_1l h0_2), Q75 1 5 h1_0l 6 h1_1l, Q38 2, Q38 3, Q38 4, Q70 5 h5, Q63 6 h6, Q67 7 8 h7, Q26 8 9 (Q125 h8_0 (Q6 h8_1) (Q2 h8_2) h8_3 (Q2 h8_4) (Q6 h8_5) (Q2 h8_6) h8_7 h8_8), Q63 9 h9], 10⟩ =
  (br (decide ((x42 : Int) < x41)) (((FV.isSl 4 (Q4 4 x7) = true) ∧ ((0 ≤ x42) ∧ ((x42 < (length x7 : Int)) ∧ (((rE (getD x7 (toNat x42) [])) : List FV) = (getD x7 (toNat x42) []))))) ∧ (((FV.isSl 4 (Q4 4 x9) = true) ∧ ((0 ≤ x42) ∧ ((x42 < (length x9 : Int)) ∧ (((rE (getD x9 (toNat x42) [])) : List FV) = (getD x9 (toNat x42) []))))) ∧ (∃ b1 : Bool, ((Q66 139 [(aE (getD x7 (toNat x42) [])), (aE (getD x9 (toNat x42) []))] b1) ∧ ((0 ≤ x42 ∧ x42 < (x10l : Int)) ∧ (((0 + (toNat x42)) < (length h9) ∧ (length (getD h9 (0 + (toNat x42)) [])) = 1) ∧ (Q71 137 5 r Hs' 3 [Q54 0 0 3, Q54 4 8 9, Q62 7 4 x7, Q62 9 4 x9, Q90 10 9 1 0 x10l, Q18 41 x41, Q18 42 (IntKind.wrap .i64 (x42 + 1))] [Q26 0 3 (Q60 1 2 0 0 7 8 0 h0_1l h0_2), Q75 1 5 h1_0l 6 h1_1l, Q38 2, Q38 3, Q38 4, Q70 5 h5, Q63 6 h6, Q67 7 8 h7, Q26 8 9 (Q125 h8_0 (Q6 h8_1) (Q2 h8_2) h8_3 (Q2 h8_4) (Q6 h8_5) (Q2 h8_6) h8_7 h8_8), Q63 9 (List.set h9 (0 + (toNat x42)) [(.bool b1)])] 10))))))) (((1 : Nat) = 1 ∧ (0 + x10l) ≤ (length h9)) ∧ (∃ b2 : Bool, ((Q66 154 [Q69 1 (take x10l (drop 0 h9)), Q32 false] b2) ∧ ((true = true) ∧ (br (!b2) (Q73 0 (Q102 (Q64 3 1 2 0 0 7 8 0 h0_1l h0_2) 5 h1_0l 6 h1_1l h5 h6 8 h7) r Hs') (((1 : Nat) = 1 ∧ (0 + x10l) ≤ (length h9)) ∧ (∃ z3 : Int × Sto, ((Q10 155 (Q89 0 2 (Q25 h8_6) (Q69 1 (take x10l (drop 0 h9)))) (Q47 1 h1_0l 2 h1_1l h5 h6) (Q25 z3.1) (Q112 3 (length z3.2.V) 4 (length z3.2.T) (SR z3.2.V) (IR z3.2.T))) ∧ (Q73 z3.1 (Q102 (Q64 3 1 2 0 0 7 8 0 h0_1l h0_2) 5 (length z3.2.V) 6 (length z3.2.T) (SR z3.2.V) (IR z3.2.T) 8 h7) r Hs')))))))))) := by kernel_rfl
def lv138 : List (Nat × List Nat) := [(1000001, [2, 3, 4])]
theorem v138 (x_0 : Int) (x_1 : List UInt8) (x_2 : Int) (x_3 : RW) (x_4 : Int) (x_5 : List UInt8) (x_6 : Int) (x_7 x_8 : RW) (y_0 : Int) (y_1 : List UInt8) (y_2 : Int) (y_3 : RW) (y_4 : Int) (y_5 : List UInt8) (y_6 : Int) (y_7 y_8 : RW) (o0_1l : Nat) (o0_2 : Int) (o1_0l o1_1l : Nat) (o2 o3 o4 : RW) (r : TV) (Hs' : List AObj) : VE lv138 138 5 r Hs' (Q89 0 3 (.agg (Q125 x_0 (Q6 x_1) (Q2 x_2) x_3 (Q2 x_4) (Q6 x_5) (Q2 x_6) x_7 x_8)) (.agg (Q125 y_0 (Q6 y_1) (Q2 y_2) y_3 (Q2 y_4) (Q6 y_5) (Q2 y_6) y_7 y_8))) (Q87 (Q64 3 1 2 0 0 4 8 0 o0_1l o0_2) (Q37 2 o1_0l 3 o1_1l) (Q22 o2) (Q21 o3) 8 o4) =
  (∃ z1 : List Tm × Int × Nat × Int, ((Q79 153 [Q85 0 3, .agg (Q125 x_0 (Q6 x_1) (Q2 x_2) x_3 (Q2 x_4) (Q6 x_5) (Q2 x_6) x_7 x_8)] (Q87 (Q64 3 1 2 0 0 4 8 0 o0_1l o0_2) (Q37 2 o1_0l 3 o1_1l) (Q22 o2) (Q21 o3) 8 o4) [Q19 [Q121 (FTs z1.1)], Q30 z1.2.1] (Q87 (Q64 3 1 2 0 0 4 8 0 z1.2.2.1 z1.2.2.2) (Q37 2 o1_0l 3 o1_1l) (Q22 o2) (Q21 o3) 8 o4)) ∧ (br ((z1.2.1 : Int) != (0 : Int)) (Q73 z1.2.1 (Q102 (Q64 3 1 2 0 0 7 8 0 z1.2.2.1 z1.2.2.2) 5 o1_0l 6 o1_1l o2 o3 8 o4) r Hs') (∃ z2 : Int × Sto × Nat × RW × Int, ((Q10 156 [Q85 0 3, .agg (Q125 x_0 (Q6 x_1) (Q2 x_2) x_3 (Q2 x_4) (Q6 x_5) (Q2 x_6) x_7 x_8), Q69 4 (FTs z1.1), Q76 y_0 y_1 y_2 y_3] (Q87 (Q64 3 1 2 0 0 4 8 0 z1.2.2.1 z1.2.2.2) (Q37 2 o1_0l 3 o1_1l) (Q22 o2) (Q21 o3) 8 o4) (Q25 z2.1) (Q102 (Q64 3 1 2 0 0 7 8 0 z2.2.2.1 z2.2.2.2.2) 5 (length z2.2.1.V) 6 (length z2.2.1.T) (SR z2.2.1.V) (IR z2.2.1.T) 8 z2.2.2.2.1)) ∧ (Q73 z2.1 (Q102 (Q64 3 1 2 0 0 7 8 0 z2.2.2.1 z2.2.2.2.2) 5 (length z2.2.1.V) 6 (length z2.2.1.T) (SR z2.2.1.V) (IR z2.2.1.T) 8 z2.2.2.2.1) r Hs')))))) := by kernel_rfl
def lv139 : List (Nat × List Nat) := []
theorem v139 (a_0 : Int) (a_1 : List UInt8) (a_2 : Int) (a_3 : RW) (b_0 : Int) (b_1 : List UInt8) (b_2 : Int) (b_3 : RW) (r : TV) (Hs' : List AObj) : VE lv139 139 0 r Hs' [Q76 a_0 a_1 a_2 a_3, Q76 b_0 b_1 b_2 b_3] [] =
  (br ((a_0 : Int) == b_0) (br ((a_1 : List UInt8) == b_1) (br ((a_2 : Int) == b_2) (∃ b1 : Bool, ((Q66 157 [Q69 4 a_3, Q69 4 b_3, .c (.fn (.func 139) [] [])] b1) ∧ (Q86 b1 r Hs'))) (Q96 r Hs')) (Q96 r Hs')) (Q96 r Hs')) := by kernel_rfl
def lv91 : List (Nat × List Nat) := []
theorem v91 (t_0 : Int) (t_1 : List UInt8) (t_2 : Int) (t_3 : RW) (fuel : Int) (o0_0l o0_1l : Nat) (o1 o2 : RW) (r : TV) (Hs' : List AObj) : VE lv91 91 3 r Hs' (Q89 0 2 (Q76 t_0 t_1 t_2 t_3) (Q25 fuel)) (Q47 1 o0_0l 2 o0_1l o1 o2) =
  (∃ z1 : Tm × Int × Int, ((Q79 67 [Q76 t_0 t_1 t_2 t_3, Q25 fuel, .c (.fn (.func 101) [(false, [(Q118 0 2)])] [])] (Q47 1 o0_0l 2 o0_1l o1 o2) (Q92 (Q40 (cT z1.1)) z1.2.1 z1.2.2) (Q47 1 o0_0l 2 o0_1l o1 o2)) ∧ (Q49 (Q92 (Q40 (cT z1.1)) z1.2.1 z1.2.2) (Q47 1 o0_0l 2 o0_1l o1 o2) r Hs'))) := by kernel_rfl
def lv92 : List (Nat × List Nat) := []
theorem v92 (t_0 : Int) (t_1 : List UInt8) (t_2 : Int) (t_3 : RW) (r : TV) (Hs' : List AObj) : VE lv92 92 0 r Hs' [Q76 t_0 t_1 t_2 t_3] [] =
  (br ((t_0 : Int) != (6 : Int)) (Q49 (Q74 (Q20 t_0 t_1 t_2 4 t_3) [Q31]) [] r Hs') (∃ b1 : Bool, ((Q66 20 [Q76 t_0 t_1 t_2 t_3] b1) ∧ (br (!b1) (Q49 (Q74 (Q20 t_0 t_1 t_2 4 t_3) [Q31]) [] r Hs') (((FV.isSl 4 (Q4 4 t_3) = true) ∧ ((0 ≤ (0 : Int)) ∧ (((0 : Int) < (length t_3 : Int)) ∧ (((rE (getD t_3 0 [])) : List FV) = (getD t_3 0 []))))) ∧ ((FV.isSl 4 (Q4 4 t_3) = true) ∧ (((0 ≤ (1 : Int)) ∧ (((1 : Int) ≤ (length t_3 : Int)) ∧ ((length t_3 : Int) ≤ (length t_3 : Int)))) ∧ ((∃ z2 : Bool, ((Q59 102 [Q69 4 (drop 1 (take (toNat (length t_3 : Int)) t_3))] (.c (Q0 (.sl z2 4 [])))) ∧ (Q49 (Q74 (cE (getD t_3 0 [])) [Q0 (.sl z2 4 [])]) [] r Hs'))) ∨ (∃ z3 : RW, ((Q57 102 [Q69 4 (drop 1 (take (toNat (length t_3 : Int)) t_3))] (.c (Q3 0 4 0 (length z3))) [.arz 4 z3]) ∧ (Q49 (Q74 (cE (getD t_3 0 [])) [Q3 0 4 0 (length z3)]) [.arz 4 z3] r Hs'))))))))))) := by kernel_rfl
def lv131 : List (Nat × List Nat) := []
theorem v131 (t_0 : Int) (t_1 : List UInt8) (t_2 : Int) (t_3 : RW) (a1 a2 : Int) (r : TV) (Hs' : List AObj) : VE lv131 131 0 r Hs' [Q76 t_0 t_1 t_2 t_3, Q25 a1, Q25 a2] [] =
  (∃ z1 : Tm, ((Q10 151 [.agg [(.fn (.func 149) [] [(false, [(Q119 0)]), (false, [(Q119 1)])])], Q76 t_0 t_1 t_2 t_3, Q25 0] (Q120 a1 (Q94 a2)) (aT z1) (Q120 a1 (Q94 a2))) ∧ (RT (aT z1) [] r Hs'))) := by kernel_rfl
def lv24 : List (Nat × List Nat) := []
theorem v24 (f_0 : Int) (f_1 : List UInt8) (f_2 : Int) (f_3 args : RW) (r : TV) (Hs' : List AObj) : VE lv24 24 0 r Hs' [Q76 f_0 f_1 f_2 f_3, Q69 4 args] [] =
  ((FV.isSl 4 (Q4 4 args) = true) ∧ (br (((length args : Int) : Int) == (0 : Int)) (RT (Q76 f_0 f_1 f_2 f_3) [] r Hs') (br ((f_0 : Int) == (6 : Int)) ((FV.isSl 4 (Q4 4 f_3) = true) ∧ (br (decide (((length f_3 : Int) : Int) > (0 : Int))) (((1 : Nat) = 1 ∧ 2 ≤ 2) ∧ (∃ z1 : List Tm, ((Q59 70 [Q69 1 [[(Q4 4 f_3)], [(Q4 4 args)]]] (Q69 4 (FTs z1))) ∧ (RT (Q76 6 [] 0 (FTs z1)) [] r Hs')))) (((4 : Nat) = 4 ∧ 1 ≤ 1) ∧ (((1 : Nat) = 1 ∧ 2 ≤ 2) ∧ (∃ z2 : List Tm, ((Q59 70 [Q69 1 [[(Q4 4 [[(Q1 f_0), (.str f_1), (Q1 f_2), (Q4 4 f_3)]])], [(Q4 4 args)]]] (Q69 4 (FTs z2))) ∧ (RT (Q76 6 [] 0 (FTs z2)) [] r Hs'))))))) (((4 : Nat) = 4 ∧ 1 ≤ 1) ∧ (((1 : Nat) = 1 ∧ 2 ≤ 2) ∧ (∃ z3 : List Tm, ((Q59 70 [Q69 1 [[(Q4 4 [[(Q1 f_0), (.str f_1), (Q1 f_2), (Q4 4 f_3)]])], [(Q4 4 args)]]] (Q69 4 (FTs z3))) ∧ (RT (Q76 6 [] 0 (FTs z3)) [] r Hs')))))))) := by kernel_rfl
def lv152 : List (Nat × List Nat) := []
theorem v152 (s : RW) (r : TV) (Hs' : List AObj) : VE lv152 152 0 r Hs' [Q69 4 s] [] =
  (RT (.c (.fn (.func 167) [] [(false, [(Q119 0)])])) [Q7 1 [Q121 s]] r Hs') := by kernel_rfl
def lv153 : List (Nat × List Nat) := []
theorem v153 (x_0 : Int) (x_1 : List UInt8) (x_2 : Int) (x_3 : RW) (x_4 : Int) (x_5 : List UInt8) (x_6 : Int) (x_7 x_8 : RW) (o0_1l : Nat) (o0_2 : Int) (o1_0l o1_1l : Nat) (o2 o3 o4 : RW) (r : TV) (Hs' : List AObj) : VE lv153 153 5 r Hs' [Q85 0 3, .agg (Q125 x_0 (Q6 x_1) (Q2 x_2) x_3 (Q2 x_4) (Q6 x_5) (Q2 x_6) x_7 x_8)] (Q87 (Q64 3 1 2 0 0 4 8 0 o0_1l o0_2) (Q37 2 o1_0l 3 o1_1l) (Q22 o2) (Q21 o3) 8 o4) =
  (∃ z1 : List Tm × Int × Int, ((Q79 13 [Q85 0 2, Q25 x_6, Q69 4 x_8, Q25 o0_2] (Q47 1 o1_0l 2 o1_1l o2 o3) (Q92 (Q19 [Q121 (FTs z1.1)]) z1.2.1 z1.2.2) (Q47 1 o1_0l 2 o1_1l o2 o3)) ∧ (br ((z1.2.2 : Int) == (0 : Int)) (Q49 [Q19 [Q121 (FTs z1.1)], Q30 z1.2.2] (Q87 (Q64 3 1 2 0 0 4 8 0 o0_1l z1.2.1) (Q37 2 o1_0l 3 o1_1l) (Q22 o2) (Q21 o3) 8 o4) r Hs') (Q49 [Q19 [Q121 (FTs z1.1)], Q30 z1.2.2] (Q87 (Q64 3 1 2 0 0 4 8 0 o0_1l o0_2) (Q37 2 o1_0l 3 o1_1l) (Q22 o2) (Q21 o3) 8 o4) r Hs')))) := by kernel_rfl
def lv154 : List (Nat × List Nat) := []
theorem v154 (s : RW) (v : Bool) (r : TV) (Hs' : List AObj) : VE lv154 154 0 r Hs' [Q69 1 s, Q32 v] [] =
  (∃ n1 : Int, ((Q59 168 [Q69 1 s, Q32 v] (Q25 n1)) ∧ (Q86 (decide ((n1 : Int) ≥ (0 : Int))) r Hs'))) := by kernel_rfl
def zfy : List (Nat × List Nat) := [(1, [0, 1, 2, 7, 9, 24, 25, 26]), (1000001, [1, 2])]
theorem v155 (x : Int) (keep : RW) (o0_0l o0_1l : Nat) (o1 o2 : RW) (r : TV) (Hs' : List AObj) : VE zfy 155 3 r Hs' (Q89 0 2 (Q25 x) (Q69 1 keep)) (Q47 1 o0_0l 2 o0_1l o1 o2) =
  (∃ z1 : Int × Bool × Tm × Bool, ((Q79 19 (Q113 (Q85 0 2) x) (Q47 1 o0_0l 2 o0_1l o1 o2) (Q105 (Q122 z1.1 z1.2.1 z1.2.2.1.k z1.2.2.1.s z1.2.2.1.n (FTs z1.2.2.1.l)) z1.2.2.2) (Q47 1 o0_0l 2 o0_1l o1 o2)) ∧ (br (!z1.2.2.2) (Q73 1 (Q112 3 o0_0l 4 o0_1l o1 o2) r Hs') (br z1.2.1 (Q73 1 (Q112 3 o0_0l 4 o0_1l o1 o2) r Hs') ((FV.isSl 1 (Q4 1 keep) = true) ∧ (Q71 155 3 r Hs' 1 [Q54 0 0 2, Q18 1 x, Q62 2 1 keep, Q54 7 5 6, Q114 9, Q62 24 1 keep, Q18 25 (length keep : Int), Q18 26 0] [Q75 0 3 o0_0l 4 o0_1l, Q38 1, Q38 2, Q70 3 o1, Q63 4 o2, Q26 5 6 (Q122 z1.1 z1.2.1 z1.2.2.1.k z1.2.2.1.s z1.2.2.1.n (FTs z1.2.2.1.l))] 6)))))) := by kernel_rfl
theorem zow (x1 : Int) (x2 x24 : RW) (x25 x26 : Int) (h0_0l h0_1l : Nat) (h3 h4 : RW) (h5_0 : Int) (h5_1 : Bool) (h5_2 : Int) (h5_3 : List UInt8) (h5_4 : Int) (h5_5 : RW) (r : TV) (Hs' : List AObj) : VQ zfy 155 3 r Hs' 1 ⟨[Q54 0 0 2, Q18 1 x1, Q62 2 1 x2, Q54 7 5 6, Q114 9, Q62 24 1 x24, Q18 25 x25, Q18 26 x26], [Q75 0 3 h0_0l 4 h0_1l, Q38 1, Q38 2, Q70 3 h3, Q63 4 h4, Q26 5 6 (Q122 h5_0 h5_1 h5_2 h5_3 h5_4 h5_5)], 6⟩ =
  (br (decide ((x26 : Int) < x25)) (((FV.isSl 1 (Q4 1 x24) = true) ∧ ((0 ≤ x26) ∧ ((x26 < (length x24 : Int)) ∧ (([(.bool (FV.asB (getD (getD x24 (toNat x26) []) 0 FV.nils)))] : List FV) = (getD x24 (toNat x26) []))))) ∧ (br (FV.asB (getD (getD x24 (toNat x26) []) 0 FV.nils)) ((FV.isSl 1 (Q4 1 x2) = true) ∧ (∃ z1 : Tm, ((Q59 121 [Q25 (IntKind.wrap .i64 ((IntKind.wrap .i64 ((length x2 : Int) - (1 : Int))) - x26))] (aT z1)) ∧ ((1 ≤ 1) ∧ ((z0i 1 56) ∧ (Q71 155 3 r Hs' 1 [Q54 0 0 2, Q18 1 x1, Q62 2 1 x2, Q54 7 5 6, Q90 9 6 4 0 1, Q62 24 1 x24, Q18 25 x25, Q18 26 (IntKind.wrap .i64 (x26 + 1))] [Q75 0 3 h0_0l 4 h0_1l, Q38 1, Q38 2, Q70 3 h3, Q63 4 h4, Q26 5 6 (Q122 h5_0 h5_1 h5_2 h5_3 h5_4 h5_5), Q67 6 4 [(FT4 z1)]] 7)))))) (Q71 155 3 r Hs' 1 [Q54 0 0 2, Q18 1 x1, Q62 2 1 x2, Q54 7 5 6, Q114 9, Q62 24 1 x24, Q18 25 x25, Q18 26 (IntKind.wrap .i64 (x26 + 1))] [Q75 0 3 h0_0l 4 h0_1l, Q38 1, Q38 2, Q70 3 h3, Q63 4 h4, Q26 5 6 (Q122 h5_0 h5_1 h5_2 h5_3 h5_4 h5_5)] 6))) ((FV.isSl 1 (Q4 1 x2) = true) ∧ (∃ z2 : Tm × Sto, ((Q10 123 [Q85 0 2, Q25 x1, Q25 h5_0, Q25 (length x2 : Int), .c Q31] (Q47 1 h0_0l 2 h0_1l h3 h4) (aT z2.1) (Q112 3 (length z2.2.V) 4 (length z2.2.T) (SR z2.2.V) (IR z2.2.T))) ∧ (Q73 0 (Q112 3 (length z2.2.V) 4 (length z2.2.T) (SR z2.2.V) (IR z2.2.T)) r Hs'))))) := by kernel_rfl
theorem znx (x1 : Int) (x2 : RW) (x9l : Nat) (x24 : RW) (x25 x26 : Int) (h0_0l h0_1l : Nat) (h3 h4 : RW) (h5_0 : Int) (h5_1 : Bool) (h5_2 : Int) (h5_3 : List UInt8) (h5_4 : Int) (h5_5 h6 : RW) (r : TV) (Hs' : List AObj) : VQ zfy 155 3 r Hs' 1 ⟨[Q54 0 0 2, Q18 1 x1, Q62 2 1 x2, Q54 7 5 6, Q90 9 6 4 0 x9l, Q62 24 1 x24, Q18 25 x25, Q18 26 x26], [Q75 0 3 h0_0l 4 h0_1l, Q38 1, Q38 2, Q70 3 h3, Q63 4 h4, Q26 5 6 (Q122 h5_0 h5_1 h5_2 h5_3 h5_4 h5_5), Q67 6 4 h6], 7⟩ =
  (br (decide ((x26 : Int) < x25)) (((FV.isSl 1 (Q4 1 x24) = true) ∧ ((0 ≤ x26) ∧ ((x26 < (length x24 : Int)) ∧ (([(.bool (FV.asB (getD (getD x24 (toNat x26) []) 0 FV.nils)))] : List FV) = (getD x24 (toNat x26) []))))) ∧ (br (FV.asB (getD (getD x24 (toNat x26) []) 0 FV.nils)) ((FV.isSl 1 (Q4 1 x2) = true) ∧ (∃ z1 : Tm, ((Q59 121 [Q25 (IntKind.wrap .i64 ((IntKind.wrap .i64 ((length x2 : Int) - (1 : Int))) - x26))] (aT z1)) ∧ ((1 ≤ 1) ∧ ((x9l ≤ (length h6) ∧ z0i (x9l + 1) 56) ∧ (Q71 155 3 r Hs' 1 [Q54 0 0 2, Q18 1 x1, Q62 2 1 x2, Q54 7 5 6, Q90 9 6 4 0 (x9l + 1), Q62 24 1 x24, Q18 25 x25, Q18 26 (IntKind.wrap .i64 (x26 + 1))] [Q75 0 3 h0_0l 4 h0_1l, Q38 1, Q38 2, Q70 3 h3, Q63 4 h4, Q26 5 6 (Q122 h5_0 h5_1 h5_2 h5_3 h5_4 h5_5), Q67 6 4 ((take x9l h6) ++ [(FT4 z1)])] 7)))))) (Q71 155 3 r Hs' 1 [Q54 0 0 2, Q18 1 x1, Q62 2 1 x2, Q54 7 5 6, Q90 9 6 4 0 x9l, Q62 24 1 x24, Q18 25 x25, Q18 26 (IntKind.wrap .i64 (x26 + 1))] [Q75 0 3 h0_0l 4 h0_1l, Q38 1, Q38 2, Q70 3 h3, Q63 4 h4, Q26 5 6 (Q122 h5_0 h5_1 h5_2 h5_3 h5_4 h5_5), Q67 6 4 h6] 7))) ((FV.isSl 1 (Q4 1 x2) = true) ∧ (((4 : Nat) = 4 ∧ (0 + x9l) ≤ (length h6)) ∧ (∃ z2 : Tm × Sto, ((Q10 123 [Q85 0 2, Q25 x1, Q25 h5_0, Q25 (length x2 : Int), Q69 4 (take x9l (drop 0 h6))] (Q47 1 h0_0l 2 h0_1l h3 h4) (aT z2.1) (Q112 3 (length z2.2.V) 4 (length z2.2.T) (SR z2.2.V) (IR z2.2.T))) ∧ (Q73 0 (Q112 3 (length z2.2.V) 4 (length z2.2.T) (SR z2.2.V) (IR z2.2.T)) r Hs')))))) := by kernel_rfl
def lv156 : List (Nat × List Nat) := [(1000001, [2, 3, 4])]
theorem v156 (x_0 : Int) (x_1 : List UInt8) (x_2 : Int) (x_3 : RW) (x_4 : Int) (x_5 : List UInt8) (x_6 : Int) (x_7 x_8 leaves : RW) (t_0 : Int) (t_1 : List UInt8) (t_2 : Int) (t_3 : RW) (o0_1l : Nat) (o0_2 : Int) (o1_0l o1_1l : Nat) (o2 o3 o4 : RW) (r : TV) (Hs' : List AObj) : VE lv156 156 5 r Hs' [Q85 0 3, .agg (Q125 x_0 (Q6 x_1) (Q2 x_2) x_3 (Q2 x_4) (Q6 x_5) (Q2 x_6) x_7 x_8), Q69 4 leaves, Q76 t_0 t_1 t_2 t_3] (Q87 (Q64 3 1 2 0 0 4 8 0 o0_1l o0_2) (Q37 2 o1_0l 3 o1_1l) (Q22 o2) (Q21 o3) 8 o4) =
  (∃ z1 : (Tm × Int × Int) × Sto, ((Q79 18 [Q85 0 2, Q25 x_6, Q69 4 leaves, Q76 t_0 t_1 t_2 t_3, Q25 o0_2] (Q47 1 o1_0l 2 o1_1l o2 o3) (Q92 (Q40 (cT z1.1.1)) z1.1.2.1 z1.1.2.2) (Q112 3 (length z1.2.V) 4 (length z1.2.T) (SR z1.2.V) (IR z1.2.T))) ∧ (br ((z1.1.2.2 : Int) != (0 : Int)) (Q73 z1.1.2.2 (Q102 (Q64 3 1 2 0 0 7 8 0 o0_1l o0_2) 5 (length z1.2.V) 6 (length z1.2.T) (SR z1.2.V) (IR z1.2.T) 8 o4) r Hs') (∃ z2 : Int × Sto, ((Q10 47 (Q89 0 2 (Q25 x_6) (aT z1.1.1)) (Q47 1 (length z1.2.V) 2 (length z1.2.T) (SR z1.2.V) (IR z1.2.T)) (Q25 z2.1) (Q112 3 (length z2.2.V) 4 (length z2.2.T) (SR z2.2.V) (IR z2.2.T))) ∧ (Q73 z2.1 (Q102 (Q64 3 1 2 0 0 7 8 0 o0_1l z1.1.2.1) 5 (length z2.2.V) 6 (length z2.2.T) (SR z2.2.V) (IR z2.2.T) 8 o4) r Hs')))))) := by kernel_rfl
def zot : List (Nat × List Nat) := [(1, [1, 2, 15, 16, 17])]
theorem zqy (s1 s2 : RW) (r : TV) (Hs' : List AObj) : VE zot 157 0 r Hs' [Q69 4 s1, Q69 4 s2, .c (.fn (.func 139) [] [])] [] =
  ((FV.isSl 4 (Q4 4 s1) = true) ∧ ((FV.isSl 4 (Q4 4 s2) = true) ∧ (br (((length s1 : Int) : Int) != (length s2 : Int)) (Q96 r Hs') ((FV.isSl 4 (Q4 4 s1) = true) ∧ (Q71 157 0 r Hs' 1 [Q62 1 4 s2, Q5 2 (.fn (.func 139) [] []), Q62 15 4 s1, Q18 16 (length s1 : Int), Q18 17 0] [] 0))))) := by kernel_rfl
theorem z9r (x1 x15 : RW) (x16 x17 : Int) (r : TV) (Hs' : List AObj) : VQ zot 157 0 r Hs' 1 ⟨[Q62 1 4 x1, Q5 2 (.fn (.func 139) [] []), Q62 15 4 x15, Q18 16 x16, Q18 17 x17], [], 0⟩ =
  (br (decide ((x17 : Int) < x16)) (((FV.isSl 4 (Q4 4 x15) = true) ∧ ((0 ≤ x17) ∧ ((x17 < (length x15 : Int)) ∧ (((rE (getD x15 (toNat x17) [])) : List FV) = (getD x15 (toNat x17) []))))) ∧ (((FV.isSl 4 (Q4 4 x1) = true) ∧ ((0 ≤ x17) ∧ ((x17 < (length x1 : Int)) ∧ (((rE (getD x1 (toNat x17) [])) : List FV) = (getD x1 (toNat x17) []))))) ∧ (∃ b1 : Bool, ((Q66 139 [(aE (getD x15 (toNat x17) [])), (aE (getD x1 (toNat x17) []))] b1) ∧ (br (!b1) (Q96 r Hs') (Q71 157 0 r Hs' 1 [Q62 1 4 x1, Q5 2 (.fn (.func 139) [] []), Q62 15 4 x15, Q18 16 x16, Q18 17 (IntKind.wrap .i64 (x17 + 1))] [] 0)))))) (Q86 true r Hs')) := by kernel_rfl
def lv67 : List (Nat × List Nat) := []
theorem v67_F101 (t_0 : Int) (t_1 : List UInt8) (t_2 : Int) (t_3 : RW) (fuel : Int) (o0_0l o0_1l : Nat) (o1 o2 : RW) (r : TV) (Hs' : List AObj) : VE lv67 67 3 r Hs' [Q76 t_0 t_1 t_2 t_3, Q25 fuel, .c (.fn (.func 101) [(false, [(Q118 0 2)])] [])] (Q47 1 o0_0l 2 o0_1l o1 o2) =
  (∃ b1 : Bool, ((Q66 20 [Q76 t_0 t_1 t_2 t_3] b1) ∧ (br (!b1) (Q49 (Q92 (Q40 (Q50 0 [] 0)) 0 1) (Q47 1 o0_0l 2 o0_1l o1 o2) r Hs') (∃ z2 : Tm × Int × Int, ((Q79 101 (Q89 0 2 (Q76 t_0 t_1 t_2 t_3) (Q85 3 1)) [Q37 1 o0_0l 2 o0_1l, Q22 o1, Q21 o2, Q94 fuel] (Q126 (cT z2.1) z2.2.1) [Q37 1 o0_0l 2 o0_1l, Q22 o1, Q21 o2, Q94 z2.2.2]) ∧ (br ((z2.2.1 : Int) != (0 : Int)) (Q49 (Q92 (Q40 (Q50 0 [] 0)) 0 z2.2.1) (Q47 1 o0_0l 2 o0_1l o1 o2) r Hs') (Q49 (Q92 (Q40 (cT z2.1)) z2.2.2 0) (Q47 1 o0_0l 2 o0_1l o1 o2) r Hs'))))))) := by kernel_rfl
def lv102 : List (Nat × List Nat) := []
theorem v102  (r : TV) (Hs' : List AObj) : VE lv102 102 0 r Hs' [.c Q31] [] =
  (RT (.c Q31) [] r Hs') := by kernel_rfl
theorem v102_i1 (s : RW) (r : TV) (Hs' : List AObj) : VE lv102 102 0 r Hs' [.c (Q0 (.sl true 4 s))] [] =
  ((FV.isSl 4 (.sl true 4 s) = true) ∧ ((0 ≤ 0 ∧ z0i (0 + (length s)) 56) ∧ (RT (.c (Q3 0 4 0 (0 + (length s)))) [.arz 4 ([] ++ s)] r Hs'))) := by kernel_rfl
def z6p : List (Nat × List Nat) := [(1, [2, 3, 4, 6, 7, 8, 9, 30, 31, 32])]
theorem zrb (t_0 : Int) (t_1 : List UInt8) (t_2 : Int) (t_3 : RW) (k o0_0 o1_0 : Int) (r : TV) (Hs' : List AObj) : VE z6p 151 2 r Hs' [.agg [(.fn (.func 149) [] [(false, [(Q119 0)]), (false, [(Q119 1)])])], Q76 t_0 t_1 t_2 t_3, Q25 k] (Q120 o0_0 (Q94 o1_0)) =
  (br ((t_0 : Int) != (5 : Int)) (br ((t_0 : Int) != (6 : Int)) (∃ z1 : Tm, ((Q10 149 [Q76 t_0 t_1 t_2 t_3, Q25 k, Q85 0 1, Q85 1 1] (Q120 o0_0 (Q94 o1_0)) (aT z1) (Q120 o0_0 (Q94 o1_0))) ∧ (RT (aT z1) (Q120 o0_0 (Q94 o1_0)) r Hs'))) (∃ y2 : FV, (∃ n3 : Int, ((Q59 88 [Q76 t_0 t_1 t_2 t_3] (.tup [Q19 [Q0 y2], Q30 n3])) ∧ ((FV.isSl 4 y2 = true) ∧ (Q71 151 2 r Hs' 1 [Q18 2 k, Q54 3 2 1, Q115 4 3, Q115 6 4, Q5 7 (Q0 y2), Q18 8 n3, Q114 9, Q5 30 (Q0 y2), Q18 31 (length (FV.ses y2) : Int), Q18 32 0] [Q108 0 1 o0_0, Q108 1 1 o1_0, Q26 2 1 [(.fn (.func 149) [] [(false, [(Q119 0)]), (false, [(Q119 1)])])], Q103 3 4 t_0 t_1 t_2 4 t_3, Q77 4 4 0 [] 0] 5)))))) (∃ y4 : FV, (∃ n5 : Int, ((Q59 88 [Q76 t_0 t_1 t_2 t_3] (.tup [Q19 [Q0 y4], Q30 n5])) ∧ ((FV.isSl 4 y4 = true) ∧ (Q71 151 2 r Hs' 1 [Q18 2 k, Q54 3 2 1, Q115 4 3, Q115 6 4, Q5 7 (Q0 y4), Q18 8 n5, Q114 9, Q5 30 (Q0 y4), Q18 31 (length (FV.ses y4) : Int), Q18 32 0] [Q108 0 1 o0_0, Q108 1 1 o1_0, Q26 2 1 [(.fn (.func 149) [] [(false, [(Q119 0)]), (false, [(Q119 1)])])], Q103 3 4 t_0 t_1 t_2 4 t_3, Q77 4 4 0 [] 0] 5)))))) := by kernel_rfl
theorem z9p (x2 : Int) (x7 : FV) (x8 : Int) (x30 : FV) (x31 x32 h0_0 h1_0 h3_0 : Int) (h3_1 : List UInt8) (h3_2 : Int) (h3_3 : RW) (h4_0 : Int) (h4_1 : List UInt8) (h4_2 : Int) (r : TV) (Hs' : List AObj) : VQ z6p 151 2 r Hs' 1 ⟨[Q18 2 x2, Q54 3 2 1, Q115 4 3, Q115 6 4, Q5 7 (Q0 x7), Q18 8 x8, Q114 9, Q5 30 (Q0 x30), Q18 31 x31, Q18 32 x32], [Q108 0 1 h0_0, Q108 1 1 h1_0, Q26 2 1 [(.fn (.func 149) [] [(false, [(Q119 0)]), (false, [(Q119 1)])])], Q103 3 4 h3_0 h3_1 h3_2 4 h3_3, Q77 4 4 h4_0 h4_1 h4_2], 5⟩ =
  (br (decide ((x32 : Int) < x31)) (((FV.isSl 4 x30 = true) ∧ ((0 ≤ x32) ∧ ((x32 < (length (FV.ses x30) : Int)) ∧ (((rE (getD (FV.ses x30) (toNat x32) [])) : List FV) = (getD (FV.ses x30) (toNat x32) []))))) ∧ (∃ z1 : Tm, ((Q10 151 [.agg [(.fn (.func 149) [] [(false, [(Q119 0)]), (false, [(Q119 1)])])], (aE (getD (FV.ses x30) (toNat x32) [])), Q25 (IntKind.wrap .i64 (x2 + x8))] (Q120 h0_0 (Q94 h1_0)) (aT z1) (Q120 h0_0 (Q94 h1_0))) ∧ ((1 ≤ 1) ∧ ((z0i 1 56) ∧ (Q71 151 2 r Hs' 1 [Q18 2 x2, Q54 3 2 1, Q115 4 3, Q115 6 4, Q5 7 (Q0 x7), Q18 8 x8, Q90 9 5 4 0 1, Q5 30 (Q0 x30), Q18 31 x31, Q18 32 (IntKind.wrap .i64 (x32 + 1))] [Q108 0 1 h0_0, Q108 1 1 h1_0, Q26 2 1 [(.fn (.func 149) [] [(false, [(Q119 0)]), (false, [(Q119 1)])])], Q103 3 4 h3_0 h3_1 h3_2 4 h3_3, Q77 4 4 h4_0 h4_1 h4_2, Q67 5 4 [(FT4 z1)]] 6)))))) (br ((h3_0 : Int) == (6 : Int)) ((FV.isSl 4 .nils = true) ∧ (RT (.agg (Q50 h3_0 h3_1 h3_2)) (Q120 h0_0 (Q94 h1_0)) r Hs')) (RT (.agg (Q50 h3_0 h3_1 h3_2)) (Q120 h0_0 (Q94 h1_0)) r Hs'))) := by kernel_rfl
theorem z9k (x2 : Int) (x7 : FV) (x8 : Int) (x9l : Nat) (x30 : FV) (x31 x32 h0_0 h1_0 h3_0 : Int) (h3_1 : List UInt8) (h3_2 : Int) (h3_3 : RW) (h4_0 : Int) (h4_1 : List UInt8) (h4_2 : Int) (h5 : RW) (r : TV) (Hs' : List AObj) : VQ z6p 151 2 r Hs' 1 ⟨[Q18 2 x2, Q54 3 2 1, Q115 4 3, Q115 6 4, Q5 7 (Q0 x7), Q18 8 x8, Q90 9 5 4 0 x9l, Q5 30 (Q0 x30), Q18 31 x31, Q18 32 x32], [Q108 0 1 h0_0, Q108 1 1 h1_0, Q26 2 1 [(.fn (.func 149) [] [(false, [(Q119 0)]), (false, [(Q119 1)])])], Q103 3 4 h3_0 h3_1 h3_2 4 h3_3, Q77 4 4 h4_0 h4_1 h4_2, Q67 5 4 h5], 6⟩ =
  (br (decide ((x32 : Int) < x31)) (((FV.isSl 4 x30 = true) ∧ ((0 ≤ x32) ∧ ((x32 < (length (FV.ses x30) : Int)) ∧ (((rE (getD (FV.ses x30) (toNat x32) [])) : List FV) = (getD (FV.ses x30) (toNat x32) []))))) ∧ (∃ z1 : Tm, ((Q10 151 [.agg [(.fn (.func 149) [] [(false, [(Q119 0)]), (false, [(Q119 1)])])], (aE (getD (FV.ses x30) (toNat x32) [])), Q25 (IntKind.wrap .i64 (x2 + x8))] (Q120 h0_0 (Q94 h1_0)) (aT z1) (Q120 h0_0 (Q94 h1_0))) ∧ ((1 ≤ 1) ∧ ((x9l ≤ (length h5) ∧ z0i (x9l + 1) 56) ∧ (Q71 151 2 r Hs' 1 [Q18 2 x2, Q54 3 2 1, Q115 4 3, Q115 6 4, Q5 7 (Q0 x7), Q18 8 x8, Q90 9 5 4 0 (x9l + 1), Q5 30 (Q0 x30), Q18 31 x31, Q18 32 (IntKind.wrap .i64 (x32 + 1))] [Q108 0 1 h0_0, Q108 1 1 h1_0, Q26 2 1 [(.fn (.func 149) [] [(false, [(Q119 0)]), (false, [(Q119 1)])])], Q103 3 4 h3_0 h3_1 h3_2 4 h3_3, Q77 4 4 h4_0 h4_1 h4_2, Q67 5 4 ((take x9l h5) ++ [(FT4 z1)])] 6)))))) (br ((h3_0 : Int) == (6 : Int)) (br (decide (((x9l : Int) : Int) > (1 : Int))) ((0 ≤ (0 : Int) ∧ (0 : Int) < (x9l : Int)) ∧ (((0 < (length h5)) ∧ ((([(Q1 (FV.asI (getD (getD h5 0 []) 0 FV.nils)))] : List FV) = (take 1 (drop 0 (getD h5 0 [])))) ∧ ((1 : Nat) = 1))) ∧ (br (((FV.asI (getD (getD h5 0 []) 0 FV.nils)) : Int) == (6 : Int)) (((FV.isSl 4 x7 = true) ∧ ((0 ≤ (0 : Int)) ∧ (((0 : Int) < (length (FV.ses x7) : Int)) ∧ (((rE (getD (FV.ses x7) 0 [])) : List FV) = (getD (FV.ses x7) 0 []))))) ∧ (br (((FV.asI (getD (getD (FV.ses x7) 0 []) 0 FV.nils)) : Int) != (6 : Int)) ((0 ≤ (0 : Int) ∧ (0 : Int) < (x9l : Int)) ∧ (((0 < (length h5)) ∧ ((((rE (getD h5 0 [])) : List FV) = (take 4 (drop 0 (getD h5 0 [])))) ∧ ((4 : Nat) = 4))) ∧ (((0 ≤ (1 : Int)) ∧ (((1 : Int) ≤ (x9l : Int)) ∧ ((x9l : Int) ≤ (x9l : Int)))) ∧ (((4 : Nat) = 4 ∧ (1 + ((toNat (x9l : Int)) - 1)) ≤ (length h5)) ∧ (∃ z2 : Tm, ((Q59 24 [(aE (getD h5 0 [])), Q69 4 (take ((toNat (x9l : Int)) - 1) (drop 1 h5))] (aT z2)) ∧ (RT (aT z2) (Q120 h0_0 (Q94 h1_0)) r Hs'))))))) (((4 : Nat) = 4 ∧ (0 + x9l) ≤ (length h5)) ∧ (RT (Q76 h3_0 h3_1 h3_2 (take x9l (drop 0 h5))) (Q120 h0_0 (Q94 h1_0)) r Hs')))) (((4 : Nat) = 4 ∧ (0 + x9l) ≤ (length h5)) ∧ (RT (Q76 h3_0 h3_1 h3_2 (take x9l (drop 0 h5))) (Q120 h0_0 (Q94 h1_0)) r Hs'))))) (((4 : Nat) = 4 ∧ (0 + x9l) ≤ (length h5)) ∧ (RT (Q76 h3_0 h3_1 h3_2 (take x9l (drop 0 h5))) (Q120 h0_0 (Q94 h1_0)) r Hs'))) (((4 : Nat) = 4 ∧ (0 + x9l) ≤ (length h5)) ∧ (RT (Q76 h3_0 h3_1 h3_2 (take x9l (drop 0 h5))) (Q120 h0_0 (Q94 h1_0)) r Hs')))) := by kernel_rfl
def lv70 : List (Nat × List Nat) := [(1, [0, 3, 9, 10, 11]), (5, [6, 25, 26, 27])]
theorem v70 (slices : RW) (r : TV) (Hs' : List AObj) : VE lv70 70 0 r Hs' [Q69 1 slices] [] =
  ((FV.isSl 1 (Q4 1 slices) = true) ∧ (Q71 70 0 r Hs' 1 [Q62 0 1 slices, Q18 3 0, Q62 9 1 slices, Q18 10 (length slices : Int), Q18 11 0] [] 0)) := by kernel_rfl
theorem v70_1a (x0 : RW) (x3 : Int) (x9 : RW) (x10 x11 : Int) (r : TV) (Hs' : List AObj) : VQ lv70 70 0 r Hs' 1 ⟨[Q62 0 1 x0, Q18 3 x3, Q62 9 1 x9, Q18 10 x10, Q18 11 x11], [], 0⟩ =
  (br (decide ((x11 : Int) < x10)) (((FV.isSl 1 (Q4 1 x9) = true) ∧ ((0 ≤ x11) ∧ ((x11 < (length x9 : Int)) ∧ (([(getD (getD x9 (toNat x11) []) 0 FV.nils)] : List FV) = (getD x9 (toNat x11) []))))) ∧ ((FV.isSl 4 (getD (getD x9 (toNat x11) []) 0 FV.nils) = true) ∧ (br (decide (((IntKind.wrap .i64 (x3 + (((length (FV.ses (getD (getD x9 (toNat x11) []) 0 FV.nils))) : Nat) : Int))) : Int) < (0 : Int))) False (Q71 70 0 r Hs' 1 [Q62 0 1 x0, Q18 3 (IntKind.wrap .i64 (x3 + (((length (FV.ses (getD (getD x9 (toNat x11) []) 0 FV.nils))) : Nat) : Int))), Q62 9 1 x9, Q18 10 x10, Q18 11 (IntKind.wrap .i64 (x11 + 1))] [] 0)))) ((∃ _ : Unit, ((Q59 103 (Q113 (.c Q31) x3) (.c Q31)) ∧ ((FV.isSl 1 (Q4 1 x0) = true) ∧ (Q71 70 0 r Hs' 5 (Q106 (Q114 6) (Q62 25 1 x0) 26 (length x0 : Int) 27 0) [] 0)))) ∨ (∃ _ : Unit, ((Q57 103 (Q113 (.c Q31) x3) (.c (Q3 0 4 0 0)) [.arz 4 []]) ∧ ((FV.isSl 1 (Q4 1 x0) = true) ∧ (Q71 70 0 r Hs' 5 (Q106 (Q90 6 0 4 0 0) (Q62 25 1 x0) 26 (length x0 : Int) 27 0) [Q67 0 4 []] 1)))))) := by kernel_rfl
theorem v70_5a (x25 : RW) (x26 x27 : Int) (r : TV) (Hs' : List AObj) : VQ lv70 70 0 r Hs' 5 ⟨Q106 (Q114 6) (Q62 25 1 x25) 26 x26 27 x27, [], 0⟩ =
  (br (decide ((x27 : Int) < x26)) (((FV.isSl 1 (Q4 1 x25) = true) ∧ ((0 ≤ x27) ∧ ((x27 < (length x25 : Int)) ∧ (([(getD (getD x25 (toNat x27) []) 0 FV.nils)] : List FV) = (getD x25 (toNat x27) []))))) ∧ ((FV.isSl 4 (getD (getD x25 (toNat x27) []) 0 FV.nils) = true) ∧ (br (List.isEmpty (FV.ses (getD (getD x25 (toNat x27) []) 0 FV.nils))) (Q71 70 0 r Hs' 5 (Q106 (Q114 6) (Q62 25 1 x25) 26 x26 27 (IntKind.wrap .i64 (x27 + 1))) [] 0) ((z0i (length (FV.ses (getD (getD x25 (toNat x27) []) 0 FV.nils))) 56) ∧ (Q71 70 0 r Hs' 5 (Q106 (Q90 6 0 4 0 (length (FV.ses (getD (getD x25 (toNat x27) []) 0 FV.nils)))) (Q62 25 1 x25) 26 x26 27 (IntKind.wrap .i64 (x27 + 1))) [Q67 0 4 (FV.ses (getD (getD x25 (toNat x27) []) 0 FV.nils))] 1))))) (RT (.c Q31) [] r Hs')) := by kernel_rfl
theorem v70_5b (x6l : Nat) (x25 : RW) (x26 x27 : Int) (h0 : RW) (r : TV) (Hs' : List AObj) : VQ lv70 70 0 r Hs' 5 ⟨Q106 (Q90 6 0 4 0 x6l) (Q62 25 1 x25) 26 x26 27 x27, [Q67 0 4 h0], 1⟩ =
  (br (decide ((x27 : Int) < x26)) (((FV.isSl 1 (Q4 1 x25) = true) ∧ ((0 ≤ x27) ∧ ((x27 < (length x25 : Int)) ∧ (([(getD (getD x25 (toNat x27) []) 0 FV.nils)] : List FV) = (getD x25 (toNat x27) []))))) ∧ ((FV.isSl 4 (getD (getD x25 (toNat x27) []) 0 FV.nils) = true) ∧ ((x6l ≤ (length h0) ∧ z0i (x6l + (length (FV.ses (getD (getD x25 (toNat x27) []) 0 FV.nils)))) 56) ∧ (Q71 70 0 r Hs' 5 (Q106 (Q90 6 0 4 0 (x6l + (length (FV.ses (getD (getD x25 (toNat x27) []) 0 FV.nils))))) (Q62 25 1 x25) 26 x26 27 (IntKind.wrap .i64 (x27 + 1))) [Q67 0 4 ((take x6l h0) ++ (FV.ses (getD (getD x25 (toNat x27) []) 0 FV.nils)))] 1)))) (((4 : Nat) = 4 ∧ (0 + x6l) ≤ (length h0)) ∧ (RT (Q69 4 (take x6l (drop 0 h0))) [] r Hs'))) := by kernel_rfl
def lv13 : List (Nat × List Nat) := [(1, [0, 3, 11, 13, 35, 36, 37])]
theorem v13 (x : Int) (l : RW) (fuel : Int) (o0_0l o0_1l : Nat) (o1 o2 : RW) (r : TV) (Hs' : List AObj) : VE lv13 13 3 r Hs' [Q85 0 2, Q25 x, Q69 4 l, Q25 fuel] (Q47 1 o0_0l 2 o0_1l o1 o2) =
  (∃ z1 : Int × Bool × Tm × Bool, ((Q79 19 (Q113 (Q85 0 2) x) (Q47 1 o0_0l 2 o0_1l o1 o2) (Q105 (Q122 z1.1 z1.2.1 z1.2.2.1.k z1.2.2.1.s z1.2.2.1.n (FTs z1.2.2.1.l)) z1.2.2.2) (Q47 1 o0_0l 2 o0_1l o1 o2)) ∧ (br (!z1.2.2.2) (Q49 (Q92 (Q19 [Q31]) 0 1) (Q47 1 o0_0l 2 o0_1l o1 o2) r Hs') (∃ z2 : Bool, ((Q66 49 (Q127 4 l (.fn (.func 50) [] [])) z2) ∧ (br z2 (Q49 (Q92 (Q19 [Q31]) 0 1) (Q47 1 o0_0l 2 o0_1l o1 o2) r Hs') ((FV.isSl 4 (Q4 4 l) = true) ∧ (Q71 13 3 r Hs' 1 [Q54 0 0 2, Q18 3 fuel, Q54 11 3 6, Q114 13, Q62 35 4 l, Q18 36 (length l : Int), Q18 37 0] [Q75 0 1 o0_0l 2 o0_1l, Q70 1 o1, Q63 2 o2, Q26 3 6 (Q122 z1.1 z1.2.1 z1.2.2.1.k z1.2.2.1.s z1.2.2.1.n (FTs z1.2.2.1.l))] 4)))))))) := by kernel_rfl
theorem v13_1a (x3 : Int) (x35 : RW) (x36 x37 : Int) (h0_0l h0_1l : Nat) (h1 h2 : RW) (h3_0 : Int) (h3_1 : Bool) (h3_2 : Int) (h3_3 : List UInt8) (h3_4 : Int) (h3_5 : RW) (r : TV) (Hs' : List AObj) : VQ lv13 13 3 r Hs' 1 ⟨[Q54 0 0 2, Q18 3 x3, Q54 11 3 6, Q114 13, Q62 35 4 x35, Q18 36 x36, Q18 37 x37], [Q75 0 1 h0_0l 2 h0_1l, Q70 1 h1, Q63 2 h2, Q26 3 6 (Q122 h3_0 h3_1 h3_2 h3_3 h3_4 h3_5)], 4⟩ =
  (br (decide ((x37 : Int) < x36)) (((FV.isSl 4 (Q4 4 x35) = true) ∧ ((0 ≤ x37) ∧ ((x37 < (length x35 : Int)) ∧ (((rE (getD x35 (toNat x37) [])) : List FV) = (getD x35 (toNat x37) []))))) ∧ (∃ z1 : Tm × Int × Int, ((Q79 21 (Q89 0 2 (aE (getD x35 (toNat x37) [])) (Q25 x3)) (Q47 1 h0_0l 2 h0_1l h1 h2) (Q92 (Q40 (cT z1.1)) z1.2.1 z1.2.2) (Q47 1 h0_0l 2 h0_1l h1 h2)) ∧ (br ((z1.2.2 : Int) != (0 : Int)) (Q49 (Q92 (Q19 [Q31]) 0 z1.2.2) (Q47 1 h0_0l 2 h0_1l h1 h2) r Hs') (∃ z2 : Tm × Bool, ((Q59 51 [(aT z1.1)] (.tup (Q105 (cT z2.1) z2.2))) ∧ (br ((z2.1.k : Int) == (1 : Int)) (∃ z3 : Bool, ((Q10 49 (Q107 (.c Q31) (.fn (.func 52) [] [(false, [(Q118 0 4)])])) [Q7 4 (cT z2.1)] (Q32 z3) [Q7 4 (cT z2.1)]) ∧ (br (!z2.2) (Q49 (Q92 (Q19 [Q31]) 0 171) (Q47 1 h0_0l 2 h0_1l h1 h2) r Hs') (br (decide ((z2.1.n : Int) ≤ h3_0)) (Q49 (Q92 (Q19 [Q31]) 0 171) (Q47 1 h0_0l 2 h0_1l h1 h2) r Hs') (br z3 (Q49 (Q92 (Q19 [Q31]) 0 171) (Q47 1 h0_0l 2 h0_1l h1 h2) r Hs') ((1 ≤ 1) ∧ ((z0i 1 56) ∧ (Q71 13 3 r Hs' 1 [Q54 0 0 2, Q18 3 z1.2.1, Q54 11 3 6, Q90 13 4 4 0 1, Q62 35 4 x35, Q18 36 x36, Q18 37 (IntKind.wrap .i64 (x37 + 1))] [Q75 0 1 h0_0l 2 h0_1l, Q70 1 h1, Q63 2 h2, Q26 3 6 (Q122 h3_0 h3_1 h3_2 h3_3 h3_4 h3_5), Q67 4 4 [(FT4 z2.1)]] 5)))))))) (∃ z4 : Bool, ((Q10 49 (Q107 (.c Q31) (.fn (.func 52) [] [(false, [(Q118 0 4)])])) [Q7 4 (cT z2.1)] (Q32 z4) [Q7 4 (cT z2.1)]) ∧ (br (!z2.2) (Q49 (Q92 (Q19 [Q31]) 0 171) (Q47 1 h0_0l 2 h0_1l h1 h2) r Hs') (br z4 (Q49 (Q92 (Q19 [Q31]) 0 171) (Q47 1 h0_0l 2 h0_1l h1 h2) r Hs') ((1 ≤ 1) ∧ ((z0i 1 56) ∧ (Q71 13 3 r Hs' 1 [Q54 0 0 2, Q18 3 z1.2.1, Q54 11 3 6, Q90 13 4 4 0 1, Q62 35 4 x35, Q18 36 x36, Q18 37 (IntKind.wrap .i64 (x37 + 1))] [Q75 0 1 h0_0l 2 h0_1l, Q70 1 h1, Q63 2 h2, Q26 3 6 (Q122 h3_0 h3_1 h3_2 h3_3 h3_4 h3_5), Q67 4 4 [(FT4 z2.1)]] 5)))))))))))))) (Q49 (Q92 (Q19 [Q31]) x3 0) (Q47 1 h0_0l 2 h0_1l h1 h2) r Hs')) := by kernel_rfl
theorem v13_1b (x3 : Int) (x13l : Nat) (x35 : RW) (x36 x37 : Int) (h0_0l h0_1l : Nat) (h1 h2 : RW) (h3_0 : Int) (h3_1 : Bool) (h3_2 : Int) (h3_3 : List UInt8) (h3_4 : Int) (h3_5 h4 : RW) (r : TV) (Hs' : List AObj) : VQ lv13 13 3 r Hs' 1 ⟨[Q54 0 0 2, Q18 3 x3, Q54 11 3 6, Q90 13 4 4 0 x13l, Q62 35 4 x35, Q18 36 x36, Q18 37 x37], [Q75 0 1 h0_0l 2 h0_1l, Q70 1 h1, Q63 2 h2, Q26 3 6 (Q122 h3_0 h3_1 h3_2 h3_3 h3_4 h3_5), Q67 4 4 h4], 5⟩ =
  (br (decide ((x37 : Int) < x36)) (((FV.isSl 4 (Q4 4 x35) = true) ∧ ((0 ≤ x37) ∧ ((x37 < (length x35 : Int)) ∧ (((rE (getD x35 (toNat x37) [])) : List FV) = (getD x35 (toNat x37) []))))) ∧ (∃ z1 : Tm × Int × Int, ((Q79 21 (Q89 0 2 (aE (getD x35 (toNat x37) [])) (Q25 x3)) (Q47 1 h0_0l 2 h0_1l h1 h2) (Q92 (Q40 (cT z1.1)) z1.2.1 z1.2.2) (Q47 1 h0_0l 2 h0_1l h1 h2)) ∧ (br ((z1.2.2 : Int) != (0 : Int)) (Q49 (Q92 (Q19 [Q31]) 0 z1.2.2) (Q47 1 h0_0l 2 h0_1l h1 h2) r Hs') (∃ z2 : Tm × Bool, ((Q59 51 [(aT z1.1)] (.tup (Q105 (cT z2.1) z2.2))) ∧ (br ((z2.1.k : Int) == (1 : Int)) (∃ z3 : Bool, ((Q10 49 (Q107 (.c (Q3 0 4 0 x13l)) (.fn (.func 52) [] [(false, [(Q118 1 4)])])) [.arz 4 h4, Q7 4 (cT z2.1)] (Q32 z3) [.arz 4 h4, Q7 4 (cT z2.1)]) ∧ (br (!z2.2) (Q49 (Q92 (Q19 [Q31]) 0 171) (Q47 1 h0_0l 2 h0_1l h1 h2) r Hs') (br (decide ((z2.1.n : Int) ≤ h3_0)) (Q49 (Q92 (Q19 [Q31]) 0 171) (Q47 1 h0_0l 2 h0_1l h1 h2) r Hs') (br z3 (Q49 (Q92 (Q19 [Q31]) 0 171) (Q47 1 h0_0l 2 h0_1l h1 h2) r Hs') ((1 ≤ 1) ∧ ((x13l ≤ (length h4) ∧ z0i (x13l + 1) 56) ∧ (Q71 13 3 r Hs' 1 [Q54 0 0 2, Q18 3 z1.2.1, Q54 11 3 6, Q90 13 4 4 0 (x13l + 1), Q62 35 4 x35, Q18 36 x36, Q18 37 (IntKind.wrap .i64 (x37 + 1))] [Q75 0 1 h0_0l 2 h0_1l, Q70 1 h1, Q63 2 h2, Q26 3 6 (Q122 h3_0 h3_1 h3_2 h3_3 h3_4 h3_5), Q67 4 4 ((take x13l h4) ++ [(FT4 z2.1)])] 5)))))))) (∃ z4 : Bool, ((Q10 49 (Q107 (.c (Q3 0 4 0 x13l)) (.fn (.func 52) [] [(false, [(Q118 1 4)])])) [.arz 4 h4, Q7 4 (cT z2.1)] (Q32 z4) [.arz 4 h4, Q7 4 (cT z2.1)]) ∧ (br (!z2.2) (Q49 (Q92 (Q19 [Q31]) 0 171) (Q47 1 h0_0l 2 h0_1l h1 h2) r Hs') (br z4 (Q49 (Q92 (Q19 [Q31]) 0 171) (Q47 1 h0_0l 2 h0_1l h1 h2) r Hs') ((1 ≤ 1) ∧ ((x13l ≤ (length h4) ∧ z0i (x13l + 1) 56) ∧ (Q71 13 3 r Hs' 1 [Q54 0 0 2, Q18 3 z1.2.1, Q54 11 3 6, Q90 13 4 4 0 (x13l + 1), Q62 35 4 x35, Q18 36 x36, Q18 37 (IntKind.wrap .i64 (x37 + 1))] [Q75 0 1 h0_0l 2 h0_1l, Q70 1 h1, Q63 2 h2, Q26 3 6 (Q122 h3_0 h3_1 h3_2 h3_3 h3_4 h3_5), Q67 4 4 ((take x13l h4) ++ [(FT4 z2.1)])] 5)))))))))))))) (((4 : Nat) = 4 ∧ (0 + x13l) ≤ (length h4)) ∧ (Q49 (Q92 (Q19 [Q121 (take x13l (drop 0 h4))]) x3 0) (Q47 1 h0_0l 2 h0_1l h1 h2) r Hs'))) := by kernel_rfl
def zn8 : List (Nat × List Nat) := [(1, [0, 1, 7, 8])]
theorem v168 (s : RW) (v : Bool) (r : TV) (Hs' : List AObj) : VE zn8 168 0 r Hs' [Q69 1 s, Q32 v] [] =
  ((FV.isSl 1 (Q4 1 s) = true) ∧ (Q71 168 0 r Hs' 1 (Q128 (Q62 0 1 s) 1 (Q12 v) 7 (length s : Int) 8 0) [] 0)) := by kernel_rfl
theorem zn7 (x0 : RW) (x1 : Bool) (x7 x8 : Int) (r : TV) (Hs' : List AObj) : VQ zn8 168 0 r Hs' 1 ⟨Q128 (Q62 0 1 x0) 1 (Q12 x1) 7 x7 8 x8, [], 0⟩ =
  (br (decide ((x8 : Int) < x7)) (((FV.isSl 1 (Q4 1 x0) = true) ∧ ((0 ≤ x8) ∧ ((x8 < (length x0 : Int)) ∧ (([(.bool (FV.asB (getD (getD x0 (toNat x8) []) 0 FV.nils)))] : List FV) = (getD x0 (toNat x8) []))))) ∧ (br ((x1 : Bool) == (FV.asB (getD (getD x0 (toNat x8) []) 0 FV.nils))) (Q73 x8 [] r Hs') (Q71 168 0 r Hs' 1 (Q128 (Q62 0 1 x0) 1 (Q12 x1) 7 x7 8 (IntKind.wrap .i64 (x8 + 1))) [] 0))) (Q73 (-1 : Int) [] r Hs')) := by kernel_rfl
def lv19 : List (Nat × List Nat) := []
theorem v19 (x : Int) (o0_0l o0_1l : Nat) (o1 o2 : RW) (r : TV) (Hs' : List AObj) : VE lv19 19 3 r Hs' (Q113 (Q85 0 2) x) (Q47 1 o0_0l 2 o0_1l o1 o2) =
  (br (decide ((x : Int) < (0 : Int))) (Q49 (Q105 (Q116 0 false 0 [] 0 Q31) false) (Q47 1 o0_0l 2 o0_1l o1 o2) r Hs') (br (decide ((x : Int) ≥ (o0_0l : Int))) (Q49 (Q105 (Q116 0 false 0 [] 0 Q31) false) (Q47 1 o0_0l 2 o0_1l o1 o2) r Hs') ((0 ≤ x ∧ x < (o0_0l : Int)) ∧ ((((0 + (toNat x)) < (length o1)) ∧ ((([(Q1 (FV.asI (getD (getD o1 (0 + (toNat x)) []) 0 FV.nils))), (.bool (FV.asB (getD (getD o1 (0 + (toNat x)) []) 1 FV.nils))), (Q1 (FV.asI (getD (getD o1 (0 + (toNat x)) []) 2 FV.nils))), (.str (FV.asS (getD (getD o1 (0 + (toNat x)) []) 3 FV.nils))), (Q1 (FV.asI (getD (getD o1 (0 + (toNat x)) []) 4 FV.nils))), (getD (getD o1 (0 + (toNat x)) []) 5 FV.nils)] : List FV) = (take 6 (drop 0 (getD o1 (0 + (toNat x)) [])))) ∧ ((6 : Nat) = 6))) ∧ (Q49 (Q105 (Q116 (FV.asI (getD (getD o1 (0 + (toNat x)) []) 0 FV.nils)) (FV.asB (getD (getD o1 (0 + (toNat x)) []) 1 FV.nils)) (FV.asI (getD (getD o1 (0 + (toNat x)) []) 2 FV.nils)) (FV.asS (getD (getD o1 (0 + (toNat x)) []) 3 FV.nils)) (FV.asI (getD (getD o1 (0 + (toNat x)) []) 4 FV.nils)) (Q0 (getD (getD o1 (0 + (toNat x)) []) 5 FV.nils))) true) (Q47 1 o0_0l 2 o0_1l o1 o2) r Hs'))))) := by kernel_rfl
def lv121 : List (Nat × List Nat) := []
theorem v121 (n : Int) (r : TV) (Hs' : List AObj) : VE lv121 121 0 r Hs' [Q25 n] [] =
  (RT (.agg (Q50 3 [] n)) [] r Hs') := by kernel_rfl
def lv123 : List (Nat × List Nat) := [(1000001, [1, 2])]
theorem v123 (x level lams : Int) (on : RW) (o0_0l o0_1l : Nat) (o1 o2 : RW) (r : TV) (Hs' : List AObj) : VE lv123 123 3 r Hs' [Q85 0 2, Q25 x, Q25 level, Q25 lams, Q69 4 on] (Q47 1 o0_0l 2 o0_1l o1 o2) =
  (∃ z1 : Int × Sto, ((Q10 35 (Q113 (Q85 0 2) level) (Q47 1 o0_0l 2 o0_1l o1 o2) (Q25 z1.1) (Q112 3 (length z1.2.V) 4 (length z1.2.T) (SR z1.2.V) (IR z1.2.T))) ∧ (∃ z2 : Tm, ((Q59 122 [Q25 z1.1] (aT z2)) ∧ (∃ z3 : Tm, ((Q59 24 [(aT z2), Q69 4 on] (aT z3)) ∧ (∃ z4 : Tm, ((Q59 45 [Q25 lams, (aT z3)] (aT z4)) ∧ (∃ z5 : Int × Sto, ((Q10 47 (Q89 0 2 (Q25 x) (aT z4)) (Q47 1 (length z1.2.V) 2 (length z1.2.T) (SR z1.2.V) (IR z1.2.T)) (Q25 z5.1) (Q112 3 (length z5.2.V) 4 (length z5.2.T) (SR z5.2.V) (IR z5.2.T))) ∧ (RT (aT z2) (Q112 3 (length z5.2.V) 4 (length z5.2.T) (SR z5.2.V) (IR z5.2.T)) r Hs'))))))))))) := by kernel_rfl
def lv18 : List (Nat × List Nat) := [(1000001, [1, 2])]
theorem v18 (x : Int) (l : RW) (t_0 : Int) (t_1 : List UInt8) (t_2 : Int) (t_3 : RW) (fuel : Int) (o0_0l o0_1l : Nat) (o1 o2 : RW) (r : TV) (Hs' : List AObj) : VE lv18 18 3 r Hs' [Q85 0 2, Q25 x, Q69 4 l, Q76 t_0 t_1 t_2 t_3, Q25 fuel] (Q47 1 o0_0l 2 o0_1l o1 o2) =
  (∃ z1 : Int × Bool × Tm × Bool, ((Q79 19 (Q113 (Q85 0 2) x) (Q47 1 o0_0l 2 o0_1l o1 o2) (Q105 (Q122 z1.1 z1.2.1 z1.2.2.1.k z1.2.2.1.s z1.2.2.1.n (FTs z1.2.2.1.l)) z1.2.2.2) (Q47 1 o0_0l 2 o0_1l o1 o2)) ∧ (br (!z1.2.2.2) (Q49 (Q92 (Q40 (Q50 0 [] 0)) 0 1) (Q112 3 o0_0l 4 o0_1l o1 o2) r Hs') (br z1.2.1 (Q49 (Q92 (Q40 (Q50 0 [] 0)) 0 1) (Q112 3 o0_0l 4 o0_1l o1 o2) r Hs') (∃ b2 : Bool, ((Q66 50 [Q76 t_0 t_1 t_2 t_3] b2) ∧ (br b2 (Q49 (Q92 (Q40 (Q50 0 [] 0)) 0 1) (Q112 3 o0_0l 4 o0_1l o1 o2) r Hs') (∃ z3 : Bool, ((Q66 49 (Q127 4 l (.fn (.func 61) [] [])) z3) ∧ (br z3 (Q49 (Q92 (Q40 (Q50 0 [] 0)) 0 1) (Q112 3 o0_0l 4 o0_1l o1 o2) r Hs') (∃ z4 : Tm × Sto × Int × Int × List Tm × Int × Int, ((Q10 63 (Q89 0 6 (Q76 t_0 t_1 t_2 t_3) (Q25 0)) (Q93 (Q78 6 1 2 0 0 x z1.1 4 l fuel 0) 2 o0_0l 3 o0_1l o1 o2) (aT z4.1) (Q88 (Q78 6 1 2 0 0 z4.2.2.1 z4.2.2.2.1 4 (FTs z4.2.2.2.2.1) z4.2.2.2.2.2.1 z4.2.2.2.2.2.2) (Q37 4 (length z4.2.1.V) 5 (length z4.2.1.T)) .gone (Q22 (SR z4.2.1.V)) (Q21 (IR z4.2.1.T)))) ∧ (br ((z4.2.2.2.2.2.2 : Int) != (0 : Int)) (Q49 (Q92 (Q40 (Q50 0 [] 0)) 0 z4.2.2.2.2.2.2) (Q112 3 (length z4.2.1.V) 4 (length z4.2.1.T) (SR z4.2.1.V) (IR z4.2.1.T)) r Hs') ((FV.isSl 4 (Q4 4 l) = true) ∧ (∃ z5 : Tm, ((Q59 45 [Q25 (length l : Int), (aT z4.1)] (aT z5)) ∧ (Q49 (Q92 (Q40 (cT z5)) z4.2.2.2.2.2.1 0) (Q112 3 (length z4.2.1.V) 4 (length z4.2.1.T) (SR z4.2.1.V) (IR z4.2.1.T)) r Hs'))))))))))))))))) := by kernel_rfl
def lv47 : List (Nat × List Nat) := [(1000001, [1, 2])]
theorem v47 (x t_0 : Int) (t_1 : List UInt8) (t_2 : Int) (t_3 : RW) (o0_0l o0_1l : Nat) (o1 o2 : RW) (r : TV) (Hs' : List AObj) : VE lv47 47 3 r Hs' (Q89 0 2 (Q25 x) (Q76 t_0 t_1 t_2 t_3)) (Q47 1 o0_0l 2 o0_1l o1 o2) =
  (∃ z1 : Int × Bool × Tm × Bool, ((Q79 19 (Q113 (Q85 0 2) x) (Q47 1 o0_0l 2 o0_1l o1 o2) (Q105 (Q122 z1.1 z1.2.1 z1.2.2.1.k z1.2.2.1.s z1.2.2.1.n (FTs z1.2.2.1.l)) z1.2.2.2) (Q47 1 o0_0l 2 o0_1l o1 o2)) ∧ (br (!z1.2.2.2) (Q73 1 (Q112 3 o0_0l 4 o0_1l o1 o2) r Hs') (br z1.2.1 (Q73 1 (Q112 3 o0_0l 4 o0_1l o1 o2) r Hs') (∃ b2 : Bool, ((Q66 20 [Q76 t_0 t_1 t_2 t_3] b2) ∧ (br (!b2) (Q73 1 (Q112 3 o0_0l 4 o0_1l o1 o2) r Hs') (∃ n3 : Int, ((Q59 22 [Q76 t_0 t_1 t_2 t_3] (Q25 n3)) ∧ (br (decide ((n3 : Int) > (0 : Int))) (Q73 1 (Q112 3 o0_0l 4 o0_1l o1 o2) r Hs') ((0 ≤ x ∧ x < (o0_0l : Int)) ∧ (((0 + (toNat x)) < (length o1) ∧ (length (getD o1 (0 + (toNat x)) [])) = 6) ∧ ((1 ≤ 1) ∧ ((o0_1l ≤ (length o2) ∧ z0i (o0_1l + 1) 8) ∧ (Q73 0 (Q112 3 o0_0l 4 (o0_1l + 1) (List.set o1 (0 + (toNat x)) [(Q1 z1.1), (.bool true), (Q1 t_0), (.str t_1), (Q1 t_2), (Q4 4 t_3)]) ((take o0_1l o2) ++ [[(Q1 x)]])) r Hs'))))))))))))))) := by kernel_rfl
def zpq : List (Nat × List Nat) := [(1, [0, 2, 4, 6])]
theorem v101 (t_0 : Int) (t_1 : List UInt8) (t_2 : Int) (t_3 : RW) (o0_0l o0_1l : Nat) (o1 o2 : RW) (o3_0 : Int) (r : TV) (Hs' : List AObj) : VE zpq 101 4 r Hs' (Q89 0 2 (Q76 t_0 t_1 t_2 t_3) (Q85 3 1)) [Q37 1 o0_0l 2 o0_1l, Q22 o1, Q21 o2, Q94 o3_0] =
  (Q71 101 4 r Hs' 1 [Q54 0 0 2, Q54 2 3 1, Q115 4 4, Q115 6 5] [Q75 0 1 o0_0l 2 o0_1l, Q70 1 o1, Q63 2 o2, Q108 3 1 o3_0, Q103 4 4 t_0 t_1 t_2 4 t_3, Q77 5 4 0 [] 0] 6) := by kernel_rfl
theorem zqn (h0_0l h0_1l : Nat) (h1 h2 : RW) (h3_0 h4_0 : Int) (h4_1 : List UInt8) (h4_2 : Int) (h4_3 : RW) (h5_0 : Int) (h5_1 : List UInt8) (h5_2 : Int) (r : TV) (Hs' : List AObj) : VQ zpq 101 4 r Hs' 1 ⟨[Q54 0 0 2, Q54 2 3 1, Q115 4 4, Q115 6 5], [Q75 0 1 h0_0l 2 h0_1l, Q70 1 h1, Q63 2 h2, Q108 3 1 h3_0, Q103 4 4 h4_0 h4_1 h4_2 4 h4_3, Q77 5 4 h5_0 h5_1 h5_2], 6⟩ =
  (∃ z1 : Tm × Bool × Int, ((Q79 129 [Q85 0 2, Q76 h4_0 h4_1 h4_2 h4_3] (Q47 1 h0_0l 2 h0_1l h1 h2) (Q82 (Q40 (cT z1.1)) (Q19 (Q104 z1.2.1)) z1.2.2) (Q47 1 h0_0l 2 h0_1l h1 h2)) ∧ (br (!z1.2.1) (Q49 (Q126 (Q20 h4_0 h4_1 h4_2 4 h4_3) 0) [Q37 1 h0_0l 2 h0_1l, Q22 h1, Q21 h2, Q94 h3_0] r Hs') (br ((z1.2.2 : Int) != (0 : Int)) (Q49 (Q126 (Q50 0 [] 0) 80) [Q37 1 h0_0l 2 h0_1l, Q22 h1, Q21 h2, Q94 h3_0] r Hs') (br (decide ((h3_0 : Int) ≤ (0 : Int))) (Q49 (Q126 (Q50 0 [] 0) 80) [Q37 1 h0_0l 2 h0_1l, Q22 h1, Q21 h2, Q94 h3_0] r Hs') (Q71 101 4 r Hs' 1 [Q54 0 0 2, Q54 2 3 1, Q115 4 4, Q115 6 5] [Q75 0 1 h0_0l 2 h0_1l, Q70 1 h1, Q63 2 h2, Q108 3 1 (IntKind.wrap .i64 (h3_0 - 1)), Q26 4 4 (cT z1.1), Q77 5 4 h5_0 h5_1 h5_2] 6)))))) := by kernel_rfl
def lv149 : List (Nat × List Nat) := []
theorem v149 (u_0 : Int) (u_1 : List UInt8) (u_2 : Int) (u_3 : RW) (k o0_0 o1_0 : Int) (r : TV) (Hs' : List AObj) : VE lv149 149 2 r Hs' [Q76 u_0 u_1 u_2 u_3, Q25 k, Q85 0 1, Q85 1 1] (Q120 o0_0 (Q94 o1_0)) =
  (br ((u_0 : Int) == (3 : Int)) (br (decide ((u_2 : Int) ≥ (IntKind.wrap .i64 (k + o0_0)))) (∃ z1 : Tm, ((Q59 150 (Q113 (Q76 u_0 u_1 u_2 u_3) o1_0) (aT z1)) ∧ (RT (aT z1) (Q120 o0_0 (Q94 o1_0)) r Hs'))) (RT (Q76 u_0 u_1 u_2 u_3) (Q120 o0_0 (Q94 o1_0)) r Hs')) (RT (Q76 u_0 u_1 u_2 u_3) (Q120 o0_0 (Q94 o1_0)) r Hs')) := by kernel_rfl
def lv88 : List (Nat × List Nat) := []
theorem v88 (t_0 : Int) (t_1 : List UInt8) (t_2 : Int) (t_3 : RW) (r : TV) (Hs' : List AObj) : VE lv88 88 0 r Hs' [Q76 t_0 t_1 t_2 t_3] [] =
  (br ((t_0 : Int) == (5 : Int)) (Q49 [Q19 [Q121 t_3], Q30 1] [] r Hs') (br ((t_0 : Int) == (6 : Int)) (Q49 [Q19 [Q121 t_3], Q30 0] [] r Hs') (Q49 [Q19 [Q31], Q30 0] [] r Hs'))) := by kernel_rfl
def lv103 : List (Nat × List Nat) := []
theorem v103 (n : Int) (r : TV) (Hs' : List AObj) : VE lv103 103 0 r Hs' (Q113 (.c Q31) n) [] =
  (br (decide ((n : Int) < (0 : Int))) False ((FV.isSl 4 .nils = true) ∧ (br (decide (((IntKind.wrap .i64 (n - 0)) : Int) > (0 : Int))) ((FV.isSl 4 .nils = true) ∧ (((0 ≤ (0 : Int)) ∧ (((0 : Int) ≤ (0 : Int)) ∧ ((0 : Int) ≤ ((0 : Nat) : Int)))) ∧ ((0 < (IntKind.wrap .i64 (n - 0)) ∧ z0i (toNat (IntKind.wrap .i64 (n - 0))) 56) ∧ ((FV.isSl 4 .nils = true) ∧ (((0 ≤ (0 : Int)) ∧ (((0 : Int) ≤ (0 : Int)) ∧ ((0 : Int) ≤ (((toNat (IntKind.wrap .i64 (n - 0))) : Nat) : Int)))) ∧ (RT (.c (Q3 0 4 0 0)) [.arz 4 []] r Hs')))))) (RT (.c Q31) [] r Hs')))) := by kernel_rfl
theorem v49_F50 (s : RW) (r : TV) (Hs' : List AObj) : VE lv49 49 0 r Hs' (Q127 4 s (.fn (.func 50) [] [])) [] =
  (∃ z1 : Int, ((Q59 83 (Q127 4 s (.fn (.func 50) [] [])) (Q25 z1)) ∧ (Q86 (decide ((z1 : Int) ≥ (0 : Int))) r Hs'))) := by kernel_rfl
def lv21 : List (Nat × List Nat) := []
theorem v21 (t_0 : Int) (t_1 : List UInt8) (t_2 : Int) (t_3 : RW) (fuel : Int) (o0_0l o0_1l : Nat) (o1 o2 : RW) (r : TV) (Hs' : List AObj) : VE lv21 21 3 r Hs' (Q89 0 2 (Q76 t_0 t_1 t_2 t_3) (Q25 fuel)) (Q47 1 o0_0l 2 o0_1l o1 o2) =
  (∃ z1 : Tm × Int × Int, ((Q79 67 [Q76 t_0 t_1 t_2 t_3, Q25 fuel, .c (.fn (.func 68) [(false, [(Q118 0 2)])] [])] (Q47 1 o0_0l 2 o0_1l o1 o2) (Q92 (Q40 (cT z1.1)) z1.2.1 z1.2.2) (Q47 1 o0_0l 2 o0_1l o1 o2)) ∧ (br ((z1.2.2 : Int) != (0 : Int)) (Q49 (Q92 (Q40 (Q50 0 [] 0)) 0 z1.2.2) (Q47 1 o0_0l 2 o0_1l o1 o2) r Hs') (∃ z2 : Tm, ((Q59 26 [(aT z1.1)] (aT z2)) ∧ (Q49 (Q92 (Q40 (cT z2)) z1.2.1 0) (Q47 1 o0_0l 2 o0_1l o1 o2) r Hs')))))) := by kernel_rfl
def lv51 : List (Nat × List Nat) := []
theorem v51 (t_0 : Int) (t_1 : List UInt8) (t_2 : Int) (t_3 : RW) (r : TV) (Hs' : List AObj) : VE lv51 51 0 r Hs' [Q76 t_0 t_1 t_2 t_3] [] =
  (∃ b1 : Bool, ((Q66 20 [Q76 t_0 t_1 t_2 t_3] b1) ∧ (br (!b1) (Q49 (Q105 (Q50 0 [] 0) false) [] r Hs') (∃ z2 : Tm, ((Q59 71 [Q76 t_0 t_1 t_2 t_3] (aT z2)) ∧ (br ((z2.k : Int) == (3 : Int)) (Q49 (Q105 (cT z2) true) [] r Hs') (br ((z2.k : Int) == (1 : Int)) (Q49 (Q105 (cT z2) true) [] r Hs') (Q49 (Q105 (Q50 0 [] 0) false) [] r Hs')))))))) := by kernel_rfl
theorem v49_F52 (s : RW) (o0_0 : Int) (o0_1 : List UInt8) (o0_2 : Int) (o0_3 : RW) (r : TV) (Hs' : List AObj) : VE lv49 49 1 r Hs' (Q127 4 s (.fn (.func 52) [] [(false, [(Q118 0 4)])])) [Q111 4 o0_0 o0_1 o0_2 4 o0_3] =
  (∃ z1 : Int, ((Q10 83 (Q127 4 s (.fn (.func 52) [] [(false, [(Q118 0 4)])])) [Q111 4 o0_0 o0_1 o0_2 4 o0_3] (Q25 z1) [Q111 4 o0_0 o0_1 o0_2 4 o0_3]) ∧ (Q56 (decide ((z1 : Int) ≥ (0 : Int))) [Q111 4 o0_0 o0_1 o0_2 4 o0_3] r Hs'))) := by kernel_rfl
theorem zmo (sl : Nat) (o0 : RW) (o1_0 : Int) (o1_1 : List UInt8) (o1_2 : Int) (o1_3 : RW) (r : TV) (Hs' : List AObj) : VE lv49 49 2 r Hs' (Q107 (.c (Q3 0 4 0 sl)) (.fn (.func 52) [] [(false, [(Q118 1 4)])])) [.arz 4 o0, Q111 4 o1_0 o1_1 o1_2 4 o1_3] =
  (∃ z1 : Int, ((Q10 83 (Q107 (.c (Q3 0 4 0 sl)) (.fn (.func 52) [] [(false, [(Q118 1 4)])])) [.arz 4 o0, Q111 4 o1_0 o1_1 o1_2 4 o1_3] (Q25 z1) [.arz 4 o0, Q111 4 o1_0 o1_1 o1_2 4 o1_3]) ∧ (Q56 (decide ((z1 : Int) ≥ (0 : Int))) [.arz 4 o0, Q111 4 o1_0 o1_1 o1_2 4 o1_3] r Hs'))) := by kernel_rfl
def lv122 : List (Nat × List Nat) := []
theorem v122 (x : Int) (r : TV) (Hs' : List AObj) : VE lv122 122 0 r Hs' [Q25 x] [] =
  (RT (.agg (Q50 4 [] x)) [] r Hs') := by kernel_rfl
def lv45 : List (Nat × List Nat) := [(1, [3, 4, 6, 7])]
theorem v45 (n t_0 : Int) (t_1 : List UInt8) (t_2 : Int) (t_3 : RW) (r : TV) (Hs' : List AObj) : VE lv45 45 0 r Hs' [Q25 n, Q76 t_0 t_1 t_2 t_3] [] =
  (Q71 45 0 r Hs' 1 (Q106 (Q115 3 0) (Q115 4 1) 6 (z0o [n, (0 : Int)]) 7 0) [Q103 0 4 t_0 t_1 t_2 4 t_3, Q77 1 4 0 [] 0] 2) := by kernel_rfl
theorem zr (x6 x7 h0_0 : Int) (h0_1 : List UInt8) (h0_2 : Int) (h0_3 : RW) (h1_0 : Int) (h1_1 : List UInt8) (h1_2 : Int) (r : TV) (Hs' : List AObj) : VQ lv45 45 0 r Hs' 1 ⟨Q106 (Q115 3 0) (Q115 4 1) 6 x6 7 x7, [Q103 0 4 h0_0 h0_1 h0_2 4 h0_3, Q77 1 4 h1_0 h1_1 h1_2], 2⟩ =
  (br (decide ((x7 : Int) < x6)) (((4 : Nat) = 4 ∧ 1 ≤ 1) ∧ (Q71 45 0 r Hs' 1 (Q106 (Q115 3 0) (Q115 4 1) 6 x6 7 (IntKind.wrap .i64 (x7 + 1))) [Q103 0 4 5 [] 0 4 [[(Q1 h0_0), (.str h0_1), (Q1 h0_2), (Q4 4 h0_3)]], Q77 1 4 h1_0 h1_1 h1_2] 2)) (RT (Q76 h0_0 h0_1 h0_2 h0_3) [] r Hs')) := by kernel_rfl
def lv50 : List (Nat × List Nat) := []
theorem v50 (t_0 : Int) (t_1 : List UInt8) (t_2 : Int) (t_3 : RW) (r : TV) (Hs' : List AObj) : VE lv50 50 0 r Hs' [Q76 t_0 t_1 t_2 t_3] [] =
  (∃ b1 : Bool, ((Q66 20 [Q76 t_0 t_1 t_2 t_3] b1) ∧ (Q86 (!b1) r Hs'))) := by kernel_rfl
theorem v49_F61 (s : RW) (r : TV) (Hs' : List AObj) : VE lv49 49 0 r Hs' (Q127 4 s (.fn (.func 61) [] [])) [] =
  (∃ z1 : Int, ((Q59 83 (Q127 4 s (.fn (.func 61) [] [])) (Q25 z1)) ∧ (Q86 (decide ((z1 : Int) ≥ (0 : Int))) r Hs'))) := by kernel_rfl
def lv63 : List (Nat × List Nat) := [(3, [0, 2, 6, 9, 10, 102, 103, 104]), (1000001, [2, 3])]
theorem v63 (t_0 : Int) (t_1 : List UInt8) (t_2 : Int) (t_3 : RW) (k o0_1 o0_2 : Int) (o0_3 : RW) (o0_4 o0_5 : Int) (o1_0l o1_1l : Nat) (o2 o3 : RW) (r : TV) (Hs' : List AObj) : VE lv63 63 4 r Hs' (Q89 0 6 (Q76 t_0 t_1 t_2 t_3) (Q25 k)) (Q93 (Q78 6 1 2 0 0 o0_1 o0_2 4 o0_3 o0_4 o0_5) 2 o1_0l 3 o1_1l o2 o3) =
  (br ((o0_5 : Int) != (0 : Int)) (RT (.agg (Q50 0 [] 0)) (Q88 (Q78 6 1 2 0 0 o0_1 o0_2 4 o0_3 o0_4 o0_5) (Q37 4 o1_0l 5 o1_1l) .gone (Q22 o2) (Q21 o3)) r Hs') (br (decide ((o0_4 : Int) ≤ (0 : Int))) (∃ z1 : Int × Int × List Tm × Int × Int, ((Q10 90 (Q113 (Q85 0 6) 80) (Q93 (Q78 6 1 2 0 0 o0_1 o0_2 4 o0_3 o0_4 o0_5) 2 o1_0l 3 o1_1l o2 o3) (Q76 0 [] 0 []) (Q93 (Q78 6 1 2 0 0 z1.1 z1.2.1 4 (FTs z1.2.2.1) z1.2.2.2.1 z1.2.2.2.2) 2 o1_0l 3 o1_1l o2 o3)) ∧ (RT (Q76 0 [] 0 []) (Q88 (Q78 6 1 2 0 0 z1.1 z1.2.1 4 (FTs z1.2.2.1) z1.2.2.2.1 z1.2.2.2.2) (Q37 4 o1_0l 5 o1_1l) .gone (Q22 o2) (Q21 o3)) r Hs'))) (∃ z2 : Tm × Int × Int, ((Q79 91 (Q89 0 2 (Q76 t_0 t_1 t_2 t_3) (Q25 (IntKind.wrap .i64 (o0_4 - 1)))) (Q47 1 o1_0l 2 o1_1l o2 o3) (Q92 (Q40 (cT z2.1)) z2.2.1 z2.2.2) (Q47 1 o1_0l 2 o1_1l o2 o3)) ∧ (br ((z2.2.2 : Int) != (0 : Int)) (∃ z3 : Int × Int × List Tm × Int × Int, ((Q10 90 (Q113 (Q85 0 6) z2.2.2) (Q93 (Q78 6 1 2 0 0 o0_1 o0_2 4 o0_3 o0_4 o0_5) 2 o1_0l 3 o1_1l o2 o3) (Q76 0 [] 0 []) (Q93 (Q78 6 1 2 0 0 z3.1 z3.2.1 4 (FTs z3.2.2.1) z3.2.2.2.1 z3.2.2.2.2) 2 o1_0l 3 o1_1l o2 o3)) ∧ (RT (Q76 0 [] 0 []) (Q88 (Q78 6 1 2 0 0 z3.1 z3.2.1 4 (FTs z3.2.2.1) z3.2.2.2.1 z3.2.2.2.2) (Q37 4 o1_0l 5 o1_1l) .gone (Q22 o2) (Q21 o3)) r Hs'))) ((∃ z4 : Tm, ((Q59 92 [(aT z2.1)] (.tup (Q74 (cT z4) [Q31]))) ∧ (br ((z4.k : Int) == (5 : Int)) (((FV.isSl 4 (Q4 4 (FTs z4.l)) = true) ∧ ((0 ≤ (0 : Int)) ∧ (((0 : Int) < (length (FTs z4.l) : Int)) ∧ (((rE (getD (FTs z4.l) 0 [])) : List FV) = (getD (FTs z4.l) 0 []))))) ∧ (∃ z5 : Tm × Sto × Int × Int × List Tm × Int × Int, ((Q10 63 (Q89 0 6 (aE (getD (FTs z4.l) 0 [])) (Q25 (IntKind.wrap .i64 (k + 1)))) (Q93 (Q78 6 1 2 0 0 o0_1 o0_2 4 o0_3 z2.2.1 o0_5) 2 o1_0l 3 o1_1l o2 o3) (aT z5.1) (Q88 (Q78 6 1 2 0 0 z5.2.2.1 z5.2.2.2.1 4 (FTs z5.2.2.2.2.1) z5.2.2.2.2.2.1 z5.2.2.2.2.2.2) (Q37 4 (length z5.2.1.V) 5 (length z5.2.1.T)) .gone (Q22 (SR z5.2.1.V)) (Q21 (IR z5.2.1.T)))) ∧ (∃ z6 : Tm, ((Q59 45 [Q25 1, (aT z5.1)] (aT z6)) ∧ (RT (aT z6) (Q88 (Q78 6 1 2 0 0 z5.2.2.1 z5.2.2.2.1 4 (FTs z5.2.2.2.2.1) z5.2.2.2.2.2.1 z5.2.2.2.2.2.2) (Q37 4 (length z5.2.1.V) 5 (length z5.2.1.T)) .gone (Q22 (SR z5.2.1.V)) (Q21 (IR z5.2.1.T))) r Hs')))))) (br ((z4.k : Int) == (4 : Int)) (br ((z4.n : Int) == o0_1) (∃ z7 : Int × Int × List Tm × Int × Int, ((Q10 90 (Q113 (Q85 0 6) 170) (Q93 (Q78 6 1 2 0 0 o0_1 o0_2 4 o0_3 z2.2.1 o0_5) 2 o1_0l 3 o1_1l o2 o3) (Q76 0 [] 0 []) (Q93 (Q78 6 1 2 0 0 z7.1 z7.2.1 4 (FTs z7.2.2.1) z7.2.2.2.1 z7.2.2.2.2) 2 o1_0l 3 o1_1l o2 o3)) ∧ (RT (Q76 0 [] 0 []) (Q88 (Q78 6 1 2 0 0 z7.1 z7.2.1 4 (FTs z7.2.2.1) z7.2.2.2.1 z7.2.2.2.2) (Q37 4 o1_0l 5 o1_1l) .gone (Q22 o2) (Q21 o3)) r Hs'))) (∃ z8 : Tm × Sto × Int × Int × List Tm × Int × Int, ((Q10 93 [Q85 0 6, Q25 z4.n, .c Q31, Q25 k] (Q93 (Q78 6 1 2 0 0 o0_1 o0_2 4 o0_3 z2.2.1 o0_5) 2 o1_0l 3 o1_1l o2 o3) (aT z8.1) (Q88 (Q78 6 1 2 0 0 z8.2.2.1 z8.2.2.2.1 4 (FTs z8.2.2.2.2.1) z8.2.2.2.2.2.1 z8.2.2.2.2.2.2) (Q37 4 (length z8.2.1.V) 5 (length z8.2.1.T)) .gone (Q22 (SR z8.2.1.V)) (Q21 (IR z8.2.1.T)))) ∧ (RT (aT z8.1) (Q88 (Q78 6 1 2 0 0 z8.2.2.1 z8.2.2.2.1 4 (FTs z8.2.2.2.2.1) z8.2.2.2.2.2.1 z8.2.2.2.2.2.2) (Q37 4 (length z8.2.1.V) 5 (length z8.2.1.T)) .gone (Q22 (SR z8.2.1.V)) (Q21 (IR z8.2.1.T))) r Hs')))) (br ((z4.k : Int) == (3 : Int)) (∃ z9 : Tm × Bool, ((Q79 94 (Q89 0 6 (aT z4) (Q25 k)) (Q93 (Q78 6 1 2 0 0 o0_1 o0_2 4 o0_3 z2.2.1 o0_5) 2 o1_0l 3 o1_1l o2 o3) (Q105 (cT z9.1) z9.2) (Q93 (Q78 6 1 2 0 0 o0_1 o0_2 4 o0_3 z2.2.1 o0_5) 2 o1_0l 3 o1_1l o2 o3)) ∧ (br (!z9.2) (∃ z10 : Int × Int × List Tm × Int × Int, ((Q10 90 (Q113 (Q85 0 6) 170) (Q93 (Q78 6 1 2 0 0 o0_1 o0_2 4 o0_3 z2.2.1 o0_5) 2 o1_0l 3 o1_1l o2 o3) (Q76 0 [] 0 []) (Q93 (Q78 6 1 2 0 0 z10.1 z10.2.1 4 (FTs z10.2.2.1) z10.2.2.2.1 z10.2.2.2.2) 2 o1_0l 3 o1_1l o2 o3)) ∧ (RT (Q76 0 [] 0 []) (Q88 (Q78 6 1 2 0 0 z10.1 z10.2.1 4 (FTs z10.2.2.1) z10.2.2.2.1 z10.2.2.2.2) (Q37 4 o1_0l 5 o1_1l) .gone (Q22 o2) (Q21 o3)) r Hs'))) ((FV.isSl 4 .nils = true) ∧ (Q71 63 4 r Hs' 3 [Q54 0 0 6, Q18 2 k, Q115 6 6, Q115 9 7, Q114 10, Q114 102, Q18 103 0, Q18 104 0] [Q26 0 6 (Q58 1 2 0 0 o0_1 o0_2 4 o0_3 z2.2.1 o0_5), Q75 1 4 o1_0l 5 o1_1l, Q38 2, Q38 3, Q70 4 o2, Q63 5 o3, Q77 6 4 0 [] 0, Q26 7 4 (cT z9.1)] 8))))) (br ((z4.k : Int) == (1 : Int)) (∃ z11 : Tm × Bool, ((Q79 94 (Q89 0 6 (aT z4) (Q25 k)) (Q93 (Q78 6 1 2 0 0 o0_1 o0_2 4 o0_3 z2.2.1 o0_5) 2 o1_0l 3 o1_1l o2 o3) (Q105 (cT z11.1) z11.2) (Q93 (Q78 6 1 2 0 0 o0_1 o0_2 4 o0_3 z2.2.1 o0_5) 2 o1_0l 3 o1_1l o2 o3)) ∧ (br (!z11.2) (∃ z12 : Int × Int × List Tm × Int × Int, ((Q10 90 (Q113 (Q85 0 6) 170) (Q93 (Q78 6 1 2 0 0 o0_1 o0_2 4 o0_3 z2.2.1 o0_5) 2 o1_0l 3 o1_1l o2 o3) (Q76 0 [] 0 []) (Q93 (Q78 6 1 2 0 0 z12.1 z12.2.1 4 (FTs z12.2.2.1) z12.2.2.2.1 z12.2.2.2.2) 2 o1_0l 3 o1_1l o2 o3)) ∧ (RT (Q76 0 [] 0 []) (Q88 (Q78 6 1 2 0 0 z12.1 z12.2.1 4 (FTs z12.2.2.1) z12.2.2.2.1 z12.2.2.2.2) (Q37 4 o1_0l 5 o1_1l) .gone (Q22 o2) (Q21 o3)) r Hs'))) ((FV.isSl 4 .nils = true) ∧ (Q71 63 4 r Hs' 3 [Q54 0 0 6, Q18 2 k, Q115 6 6, Q115 9 7, Q114 10, Q114 102, Q18 103 0, Q18 104 0] [Q26 0 6 (Q58 1 2 0 0 o0_1 o0_2 4 o0_3 z2.2.1 o0_5), Q75 1 4 o1_0l 5 o1_1l, Q38 2, Q38 3, Q70 4 o2, Q63 5 o3, Q77 6 4 0 [] 0, Q26 7 4 (cT z11.1)] 8))))) ((FV.isSl 4 .nils = true) ∧ (Q71 63 4 r Hs' 3 [Q54 0 0 6, Q18 2 k, Q115 6 6, Q115 9 7, Q114 10, Q114 102, Q18 103 0, Q18 104 0] [Q26 0 6 (Q58 1 2 0 0 o0_1 o0_2 4 o0_3 z2.2.1 o0_5), Q75 1 4 o1_0l 5 o1_1l, Q38 2, Q38 3, Q70 4 o2, Q63 5 o3, Q77 6 4 0 [] 0, Q26 7 4 (cT z4)] 8)))))))) ∨ (∃ z13 : Tm × List Tm, ((Q57 92 [(aT z2.1)] (.tup (Q74 (cT z13.1) [Q3 0 4 0 (length z13.2)])) [.arz 4 (FTs z13.2)]) ∧ (br ((z13.1.k : Int) == (5 : Int)) (((FV.isSl 4 (Q4 4 (FTs z13.1.l)) = true) ∧ ((0 ≤ (0 : Int)) ∧ (((0 : Int) < (length (FTs z13.1.l) : Int)) ∧ (((rE (getD (FTs z13.1.l) 0 [])) : List FV) = (getD (FTs z13.1.l) 0 []))))) ∧ (∃ z14 : Tm × Sto × Int × Int × List Tm × Int × Int, ((Q10 63 (Q89 0 6 (aE (getD (FTs z13.1.l) 0 [])) (Q25 (IntKind.wrap .i64 (k + 1)))) (Q93 (Q78 6 1 2 0 0 o0_1 o0_2 4 o0_3 z2.2.1 o0_5) 2 o1_0l 3 o1_1l o2 o3) (aT z14.1) (Q88 (Q78 6 1 2 0 0 z14.2.2.1 z14.2.2.2.1 4 (FTs z14.2.2.2.2.1) z14.2.2.2.2.2.1 z14.2.2.2.2.2.2) (Q37 4 (length z14.2.1.V) 5 (length z14.2.1.T)) .gone (Q22 (SR z14.2.1.V)) (Q21 (IR z14.2.1.T)))) ∧ (∃ z15 : Tm, ((Q59 45 [Q25 1, (aT z14.1)] (aT z15)) ∧ (RT (aT z15) (Q88 (Q78 6 1 2 0 0 z14.2.2.1 z14.2.2.2.1 4 (FTs z14.2.2.2.2.1) z14.2.2.2.2.2.1 z14.2.2.2.2.2.2) (Q37 4 (length z14.2.1.V) 5 (length z14.2.1.T)) .gone (Q22 (SR z14.2.1.V)) (Q21 (IR z14.2.1.T))) r Hs')))))) (br ((z13.1.k : Int) == (4 : Int)) (br ((z13.1.n : Int) == o0_1) (∃ z16 : Int × Int × List Tm × Int × Int, ((Q10 90 (Q113 (Q85 0 6) 170) (Q93 (Q78 6 1 2 0 0 o0_1 o0_2 4 o0_3 z2.2.1 o0_5) 2 o1_0l 3 o1_1l o2 o3) (Q76 0 [] 0 []) (Q93 (Q78 6 1 2 0 0 z16.1 z16.2.1 4 (FTs z16.2.2.1) z16.2.2.2.1 z16.2.2.2.2) 2 o1_0l 3 o1_1l o2 o3)) ∧ (RT (Q76 0 [] 0 []) (Q88 (Q78 6 1 2 0 0 z16.1 z16.2.1 4 (FTs z16.2.2.1) z16.2.2.2.1 z16.2.2.2.2) (Q37 4 o1_0l 5 o1_1l) .gone (Q22 o2) (Q21 o3)) r Hs'))) (((4 : Nat) = 4 ∧ (0 + (length z13.2)) ≤ (length (FTs z13.2))) ∧ (∃ z17 : Tm × Sto × Int × Int × List Tm × Int × Int, ((Q10 93 [Q85 0 6, Q25 z13.1.n, Q69 4 (take (length z13.2) (drop 0 (FTs z13.2))), Q25 k] (Q93 (Q78 6 1 2 0 0 o0_1 o0_2 4 o0_3 z2.2.1 o0_5) 2 o1_0l 3 o1_1l o2 o3) (aT z17.1) (Q88 (Q78 6 1 2 0 0 z17.2.2.1 z17.2.2.2.1 4 (FTs z17.2.2.2.2.1) z17.2.2.2.2.2.1 z17.2.2.2.2.2.2) (Q37 4 (length z17.2.1.V) 5 (length z17.2.1.T)) .gone (Q22 (SR z17.2.1.V)) (Q21 (IR z17.2.1.T)))) ∧ (RT (aT z17.1) (Q88 (Q78 6 1 2 0 0 z17.2.2.1 z17.2.2.2.1 4 (FTs z17.2.2.2.2.1) z17.2.2.2.2.2.1 z17.2.2.2.2.2.2) (Q37 4 (length z17.2.1.V) 5 (length z17.2.1.T)) .gone (Q22 (SR z17.2.1.V)) (Q21 (IR z17.2.1.T))) r Hs'))))) (br ((z13.1.k : Int) == (3 : Int)) (∃ z18 : Tm × Bool, ((Q79 94 (Q89 0 6 (aT z13.1) (Q25 k)) (Q93 (Q78 6 1 2 0 0 o0_1 o0_2 4 o0_3 z2.2.1 o0_5) 2 o1_0l 3 o1_1l o2 o3) (Q105 (cT z18.1) z18.2) (Q93 (Q78 6 1 2 0 0 o0_1 o0_2 4 o0_3 z2.2.1 o0_5) 2 o1_0l 3 o1_1l o2 o3)) ∧ (br (!z18.2) (∃ z19 : Int × Int × List Tm × Int × Int, ((Q10 90 (Q113 (Q85 0 6) 170) (Q93 (Q78 6 1 2 0 0 o0_1 o0_2 4 o0_3 z2.2.1 o0_5) 2 o1_0l 3 o1_1l o2 o3) (Q76 0 [] 0 []) (Q93 (Q78 6 1 2 0 0 z19.1 z19.2.1 4 (FTs z19.2.2.1) z19.2.2.2.1 z19.2.2.2.2) 2 o1_0l 3 o1_1l o2 o3)) ∧ (RT (Q76 0 [] 0 []) (Q88 (Q78 6 1 2 0 0 z19.1 z19.2.1 4 (FTs z19.2.2.1) z19.2.2.2.1 z19.2.2.2.2) (Q37 4 o1_0l 5 o1_1l) .gone (Q22 o2) (Q21 o3)) r Hs'))) (Q71 63 4 r Hs' 3 [Q54 0 0 6, Q18 2 k, Q115 6 6, Q115 9 7, Q90 10 8 4 0 (length z13.2), Q90 102 8 4 0 (length z13.2), Q18 103 (((length z13.2) : Nat) : Int), Q18 104 0] [Q26 0 6 (Q58 1 2 0 0 o0_1 o0_2 4 o0_3 z2.2.1 o0_5), Q75 1 4 o1_0l 5 o1_1l, Q38 2, Q38 3, Q70 4 o2, Q63 5 o3, Q77 6 4 0 [] 0, Q26 7 4 (cT z18.1), Q67 8 4 (FTs z13.2)] 9)))) (br ((z13.1.k : Int) == (1 : Int)) (∃ z20 : Tm × Bool, ((Q79 94 (Q89 0 6 (aT z13.1) (Q25 k)) (Q93 (Q78 6 1 2 0 0 o0_1 o0_2 4 o0_3 z2.2.1 o0_5) 2 o1_0l 3 o1_1l o2 o3) (Q105 (cT z20.1) z20.2) (Q93 (Q78 6 1 2 0 0 o0_1 o0_2 4 o0_3 z2.2.1 o0_5) 2 o1_0l 3 o1_1l o2 o3)) ∧ (br (!z20.2) (∃ z21 : Int × Int × List Tm × Int × Int, ((Q10 90 (Q113 (Q85 0 6) 170) (Q93 (Q78 6 1 2 0 0 o0_1 o0_2 4 o0_3 z2.2.1 o0_5) 2 o1_0l 3 o1_1l o2 o3) (Q76 0 [] 0 []) (Q93 (Q78 6 1 2 0 0 z21.1 z21.2.1 4 (FTs z21.2.2.1) z21.2.2.2.1 z21.2.2.2.2) 2 o1_0l 3 o1_1l o2 o3)) ∧ (RT (Q76 0 [] 0 []) (Q88 (Q78 6 1 2 0 0 z21.1 z21.2.1 4 (FTs z21.2.2.1) z21.2.2.2.1 z21.2.2.2.2) (Q37 4 o1_0l 5 o1_1l) .gone (Q22 o2) (Q21 o3)) r Hs'))) (Q71 63 4 r Hs' 3 [Q54 0 0 6, Q18 2 k, Q115 6 6, Q115 9 7, Q90 10 8 4 0 (length z13.2), Q90 102 8 4 0 (length z13.2), Q18 103 (((length z13.2) : Nat) : Int), Q18 104 0] [Q26 0 6 (Q58 1 2 0 0 o0_1 o0_2 4 o0_3 z2.2.1 o0_5), Q75 1 4 o1_0l 5 o1_1l, Q38 2, Q38 3, Q70 4 o2, Q63 5 o3, Q77 6 4 0 [] 0, Q26 7 4 (cT z20.1), Q67 8 4 (FTs z13.2)] 9)))) (Q71 63 4 r Hs' 3 [Q54 0 0 6, Q18 2 k, Q115 6 6, Q115 9 7, Q90 10 8 4 0 (length z13.2), Q90 102 8 4 0 (length z13.2), Q18 103 (((length z13.2) : Nat) : Int), Q18 104 0] [Q26 0 6 (Q58 1 2 0 0 o0_1 o0_2 4 o0_3 z2.2.1 o0_5), Q75 1 4 o1_0l 5 o1_1l, Q38 2, Q38 3, Q70 4 o2, Q63 5 o3, Q77 6 4 0 [] 0, Q26 7 4 (cT z13.1), Q67 8 4 (FTs z13.2)] 9))))))))))))) := by kernel_rfl
theorem v63_3a (x2 x103 x104 h0_1 h0_2 : Int) (h0_3 : RW) (h0_4 h0_5 : Int) (h1_0l h1_1l : Nat) (h4 h5 : RW) (h6_0 : Int) (h6_1 : List UInt8) (h6_2 h7_0 : Int) (h7_1 : List UInt8) (h7_2 : Int) (h7_3 : RW) (r : TV) (Hs' : List AObj) : VQ lv63 63 4 r Hs' 3 ⟨[Q54 0 0 6, Q18 2 x2, Q115 6 6, Q115 9 7, Q114 10, Q114 102, Q18 103 x103, Q18 104 x104], [Q26 0 6 (Q58 1 2 0 0 h0_1 h0_2 4 h0_3 h0_4 h0_5), Q75 1 4 h1_0l 5 h1_1l, Q38 2, Q38 3, Q70 4 h4, Q63 5 h5, Q77 6 4 h6_0 h6_1 h6_2, Q103 7 4 h7_0 h7_1 h7_2 4 h7_3], 8⟩ =
  (br (decide ((x104 : Int) < x103)) (((FV.isSl 4 .nils = true) ∧ ((0 ≤ x104) ∧ ((x104 < ((0 : Nat) : Int)) ∧ (((rE (getD [] (toNat x104) [])) : List FV) = (getD [] (toNat x104) []))))) ∧ (∃ z1 : Tm × Sto × Int × Int × List Tm × Int × Int, ((Q10 63 (Q89 0 6 (aE (getD [] (toNat x104) [])) (Q25 x2)) (Q93 (Q78 6 1 2 0 0 h0_1 h0_2 4 h0_3 h0_4 h0_5) 2 h1_0l 3 h1_1l h4 h5) (aT z1.1) (Q88 (Q78 6 1 2 0 0 z1.2.2.1 z1.2.2.2.1 4 (FTs z1.2.2.2.2.1) z1.2.2.2.2.2.1 z1.2.2.2.2.2.2) (Q37 4 (length z1.2.1.V) 5 (length z1.2.1.T)) .gone (Q22 (SR z1.2.1.V)) (Q21 (IR z1.2.1.T)))) ∧ (((FV.isSl 4 .nils = true) ∧ ((0 ≤ x104) ∧ ((x104 < ((0 : Nat) : Int)) ∧ (((rE (getD [] (toNat x104) [])) : List FV) = (getD [] (toNat x104) []))))) ∧ False)))) (∃ z2 : Tm, ((Q59 24 (Q107 (Q76 h7_0 h7_1 h7_2 h7_3) Q31) (aT z2)) ∧ (RT (aT z2) (Q88 (Q78 6 1 2 0 0 h0_1 h0_2 4 h0_3 h0_4 h0_5) (Q37 4 h1_0l 5 h1_1l) .gone (Q22 h4) (Q21 h5)) r Hs')))) := by kernel_rfl
theorem v63_3b (x2 : Int) (x10l x102l : Nat) (x103 x104 h0_1 h0_2 : Int) (h0_3 : RW) (h0_4 h0_5 : Int) (h1_0l h1_1l : Nat) (h4 h5 : RW) (h6_0 : Int) (h6_1 : List UInt8) (h6_2 h7_0 : Int) (h7_1 : List UInt8) (h7_2 : Int) (h7_3 h8 : RW) (r : TV) (Hs' : List AObj) : VQ lv63 63 4 r Hs' 3 ⟨[Q54 0 0 6, Q18 2 x2, Q115 6 6, Q115 9 7, Q90 10 8 4 0 x10l, Q90 102 8 4 0 x102l, Q18 103 x103, Q18 104 x104], [Q26 0 6 (Q58 1 2 0 0 h0_1 h0_2 4 h0_3 h0_4 h0_5), Q75 1 4 h1_0l 5 h1_1l, Q38 2, Q38 3, Q70 4 h4, Q63 5 h5, Q77 6 4 h6_0 h6_1 h6_2, Q103 7 4 h7_0 h7_1 h7_2 4 h7_3, Q67 8 4 h8], 9⟩ =
  (br (decide ((x104 : Int) < x103)) ((0 ≤ x104 ∧ x104 < (x102l : Int)) ∧ ((((0 + (toNat x104)) < (length h8)) ∧ ((((rE (getD h8 (0 + (toNat x104)) [])) : List FV) = (take 4 (drop 0 (getD h8 (0 + (toNat x104)) [])))) ∧ ((4 : Nat) = 4))) ∧ (∃ z1 : Tm × Sto × Int × Int × List Tm × Int × Int, ((Q10 63 (Q89 0 6 (aE (getD h8 (0 + (toNat x104)) [])) (Q25 x2)) (Q93 (Q78 6 1 2 0 0 h0_1 h0_2 4 h0_3 h0_4 h0_5) 2 h1_0l 3 h1_1l h4 h5) (aT z1.1) (Q88 (Q78 6 1 2 0 0 z1.2.2.1 z1.2.2.2.1 4 (FTs z1.2.2.2.2.1) z1.2.2.2.2.2.1 z1.2.2.2.2.2.2) (Q37 4 (length z1.2.1.V) 5 (length z1.2.1.T)) .gone (Q22 (SR z1.2.1.V)) (Q21 (IR z1.2.1.T)))) ∧ ((0 ≤ x104 ∧ x104 < (x10l : Int)) ∧ (((0 + (toNat x104)) < (length h8) ∧ (length (getD h8 (0 + (toNat x104)) [])) = 4) ∧ (Q71 63 4 r Hs' 3 [Q54 0 0 6, Q18 2 x2, Q115 6 6, Q115 9 7, Q90 10 8 4 0 x10l, Q90 102 8 4 0 x102l, Q18 103 x103, Q18 104 (IntKind.wrap .i64 (x104 + 1))] [Q26 0 6 (Q58 1 2 0 0 z1.2.2.1 z1.2.2.2.1 4 (FTs z1.2.2.2.2.1) z1.2.2.2.2.2.1 z1.2.2.2.2.2.2), Q75 1 4 (length z1.2.1.V) 5 (length z1.2.1.T), Q38 2, Q38 3, Q70 4 (SR z1.2.1.V), Q63 5 (IR z1.2.1.T), Q77 6 4 h6_0 h6_1 h6_2, Q103 7 4 h7_0 h7_1 h7_2 4 h7_3, Q67 8 4 (List.set h8 (0 + (toNat x104)) (FT4 z1.1))] 9))))))) (((4 : Nat) = 4 ∧ (0 + x10l) ≤ (length h8)) ∧ (∃ z2 : Tm, ((Q59 24 [Q76 h7_0 h7_1 h7_2 h7_3, Q69 4 (take x10l (drop 0 h8))] (aT z2)) ∧ (RT (aT z2) (Q88 (Q78 6 1 2 0 0 h0_1 h0_2 4 h0_3 h0_4 h0_5) (Q37 4 h1_0l 5 h1_1l) .gone (Q22 h4) (Q21 h5)) r Hs'))))) := by kernel_rfl
def lv22 : List (Nat × List Nat) := []
theorem v22 (t_0 : Int) (t_1 : List UInt8) (t_2 : Int) (t_3 : RW) (r : TV) (Hs' : List AObj) : VE lv22 22 0 r Hs' [Q76 t_0 t_1 t_2 t_3] [] =
  ((∃ z1 : Int, ((Q79 58 [Q76 t_0 t_1 t_2 t_3, Q25 0, .c (.fn (.func 69) [] [(false, [(Q119 0)])])] [Q94 0] [] [Q94 z1]) ∧ (Q73 z1 [] r Hs'))) ∨ ((∃ _ : Unit, ((Q79 58 [Q76 t_0 t_1 t_2 t_3, Q25 0, .c (.fn (.func 69) [] [(false, [(Q119 0)])])] [Q94 0] [] [Q7 1 [Q31]]) ∧ (RT (.c Q31) [] r Hs'))) ∨ ((∃ z3 : Nat × RW, ((Q79 58 [Q76 t_0 t_1 t_2 t_3, Q25 0, .c (.fn (.func 69) [] [(false, [(Q119 0)])])] [Q94 0] [] [Q7 1 [Q3 1 1 0 z3.1], Q21 z3.2]) ∧ (((1 : Nat) = 1 ∧ (0 + z3.1) ≤ (length z3.2)) ∧ (RT (Q69 1 (take z3.1 (drop 0 z3.2))) [] r Hs')))) ∨ (∃ z4 : Nat × RW, ((Q79 58 [Q76 t_0 t_1 t_2 t_3, Q25 0, .c (.fn (.func 69) [] [(false, [(Q119 0)])])] [Q94 0] [] (Q41 (Q7 1 [Q3 2 1 0 z4.1]) .gone z4.2)) ∧ (((1 : Nat) = 1 ∧ (0 + z4.1) ≤ (length z4.2)) ∧ (RT (Q69 1 (take z4.1 (drop 0 z4.2))) [] r Hs'))))))) := by kernel_rfl
def lv129 : List (Nat × List Nat) := []
theorem v129 (t_0 : Int) (t_1 : List UInt8) (t_2 : Int) (t_3 : RW) (o0_0l o0_1l : Nat) (o1 o2 : RW) (r : TV) (Hs' : List AObj) : VE lv129 129 3 r Hs' [Q85 0 2, Q76 t_0 t_1 t_2 t_3] (Q47 1 o0_0l 2 o0_1l o1 o2) =
  (∃ z1 : Tm × Bool, ((Q79 146 [Q85 0 2, Q76 t_0 t_1 t_2 t_3] (Q47 1 o0_0l 2 o0_1l o1 o2) (Q105 (cT z1.1) z1.2) (Q47 1 o0_0l 2 o0_1l o1 o2)) ∧ (br z1.2 (Q49 (Q82 (Q40 (cT z1.1)) (Q19 (Q104 true)) 0) (Q47 1 o0_0l 2 o0_1l o1 o2) r Hs') (br ((t_0 : Int) != (6 : Int)) (Q49 (Q82 (Q40 (Q20 t_0 t_1 t_2 4 t_3)) (Q19 (Q104 false)) 0) (Q47 1 o0_0l 2 o0_1l o1 o2) r Hs') (((FV.isSl 4 (Q4 4 t_3) = true) ∧ ((0 ≤ (0 : Int)) ∧ (((0 : Int) < (length t_3 : Int)) ∧ (((rE (getD t_3 0 [])) : List FV) = (getD t_3 0 []))))) ∧ (∃ z2 : Tm × Bool, ((Q79 146 [Q85 0 2, (aE (getD t_3 0 []))] (Q47 1 o0_0l 2 o0_1l o1 o2) (Q105 (cT z2.1) z2.2) (Q47 1 o0_0l 2 o0_1l o1 o2)) ∧ (br z2.2 ((FV.isSl 4 (Q4 4 t_3) = true) ∧ (((0 ≤ (1 : Int)) ∧ (((1 : Int) ≤ (length t_3 : Int)) ∧ ((length t_3 : Int) ≤ (length t_3 : Int)))) ∧ (∃ z3 : Tm, ((Q59 24 [(aT z2.1), Q69 4 (drop 1 (take (toNat (length t_3 : Int)) t_3))] (aT z3)) ∧ (Q49 (Q82 (Q40 (cT z3)) (Q19 (Q104 true)) 0) (Q47 1 o0_0l 2 o0_1l o1 o2) r Hs'))))) (((FV.isSl 4 (Q4 4 t_3) = true) ∧ ((0 ≤ (0 : Int)) ∧ (((0 : Int) < (length t_3 : Int)) ∧ (((rE (getD t_3 0 [])) : List FV) = (getD t_3 0 []))))) ∧ (br (((FV.asI (getD (getD t_3 0 []) 0 FV.nils)) : Int) != (5 : Int)) (Q49 (Q82 (Q40 (Q20 t_0 t_1 t_2 4 t_3)) (Q19 (Q104 false)) 0) (Q47 1 o0_0l 2 o0_1l o1 o2) r Hs') (((FV.isSl 4 (Q4 4 t_3) = true) ∧ ((0 ≤ (0 : Int)) ∧ (((0 : Int) < (length t_3 : Int)) ∧ (((rE (getD t_3 0 [])) : List FV) = (getD t_3 0 []))))) ∧ (((FV.isSl 4 (getD (getD t_3 0 []) 3 FV.nils) = true) ∧ ((0 ≤ (0 : Int)) ∧ (((0 : Int) < (((length (FV.ses (getD (getD t_3 0 []) 3 FV.nils))) : Nat) : Int)) ∧ (((rE (getD (FV.ses (getD (getD t_3 0 []) 3 FV.nils)) 0 [])) : List FV) = (getD (FV.ses (getD (getD t_3 0 []) 3 FV.nils)) 0 []))))) ∧ (((FV.isSl 4 (Q4 4 t_3) = true) ∧ ((0 ≤ (1 : Int)) ∧ (((1 : Int) < (length t_3 : Int)) ∧ (((rE (getD t_3 1 [])) : List FV) = (getD t_3 1 []))))) ∧ (∃ z4 : Tm × Int, ((Q59 147 [(aE (getD (FV.ses (getD (getD t_3 0 []) 3 FV.nils)) 0 [])), (aE (getD t_3 1 []))] (.tup (Q126 (cT z4.1) z4.2))) ∧ ((FV.isSl 4 (Q4 4 t_3) = true) ∧ (((0 ≤ (2 : Int)) ∧ (((2 : Int) ≤ (length t_3 : Int)) ∧ ((length t_3 : Int) ≤ (length t_3 : Int)))) ∧ (∃ z5 : Tm, ((Q59 24 [(aT z4.1), Q69 4 (drop 2 (take (toNat (length t_3 : Int)) t_3))] (aT z5)) ∧ (Q49 (Q82 (Q40 (cT z5)) (Q19 (Q104 true)) z4.2) (Q47 1 o0_0l 2 o0_1l o1 o2) r Hs')))))))))))))))))))) := by kernel_rfl
def lv150 : List (Nat × List Nat) := []
theorem v150 (t_0 : Int) (t_1 : List UInt8) (t_2 : Int) (t_3 : RW) (a1 : Int) (r : TV) (Hs' : List AObj) : VE lv150 150 0 r Hs' (Q113 (Q76 t_0 t_1 t_2 t_3) a1) [] =
  (RT (Q76 t_0 t_1 (IntKind.wrap .i64 (t_2 + a1)) t_3) [] r Hs') := by kernel_rfl
theorem v83_F50 (s : RW) (r : TV) (Hs' : List AObj) : VE lv83 83 0 r Hs' (Q127 4 s (.fn (.func 50) [] [])) [] =
  ((FV.isSl 4 (Q4 4 s) = true) ∧ (Q71 83 0 r Hs' 1 (Q128 (Q62 0 4 s) 1 (.fn (.func 50) [] []) 7 (length s : Int) 8 0) [] 0)) := by kernel_rfl
theorem zcz (x0 : RW) (x7 x8 : Int) (r : TV) (Hs' : List AObj) : VQ lv83 83 0 r Hs' 1 ⟨Q128 (Q62 0 4 x0) 1 (.fn (.func 50) [] []) 7 x7 8 x8, [], 0⟩ =
  (br (decide ((x8 : Int) < x7)) (((FV.isSl 4 (Q4 4 x0) = true) ∧ ((0 ≤ x8) ∧ ((x8 < (length x0 : Int)) ∧ (((rE (getD x0 (toNat x8) [])) : List FV) = (getD x0 (toNat x8) []))))) ∧ (∃ b1 : Bool, ((Q66 50 [(aE (getD x0 (toNat x8) []))] b1) ∧ (br b1 (Q73 x8 [] r Hs') (Q71 83 0 r Hs' 1 (Q128 (Q62 0 4 x0) 1 (.fn (.func 50) [] []) 7 x7 8 (IntKind.wrap .i64 (x8 + 1))) [] 0))))) (Q73 (-1 : Int) [] r Hs')) := by kernel_rfl
theorem v67_F68 (t_0 : Int) (t_1 : List UInt8) (t_2 : Int) (t_3 : RW) (fuel : Int) (o0_0l o0_1l : Nat) (o1 o2 : RW) (r : TV) (Hs' : List AObj) : VE lv67 67 3 r Hs' [Q76 t_0 t_1 t_2 t_3, Q25 fuel, .c (.fn (.func 68) [(false, [(Q118 0 2)])] [])] (Q47 1 o0_0l 2 o0_1l o1 o2) =
  (∃ b1 : Bool, ((Q66 20 [Q76 t_0 t_1 t_2 t_3] b1) ∧ (br (!b1) (Q49 (Q92 (Q40 (Q50 0 [] 0)) 0 1) (Q47 1 o0_0l 2 o0_1l o1 o2) r Hs') (∃ z2 : Tm × Int × Int, ((Q79 68 (Q89 0 2 (Q76 t_0 t_1 t_2 t_3) (Q85 3 1)) [Q37 1 o0_0l 2 o0_1l, Q22 o1, Q21 o2, Q94 fuel] (Q126 (cT z2.1) z2.2.1) [Q37 1 o0_0l 2 o0_1l, Q22 o1, Q21 o2, Q94 z2.2.2]) ∧ (br ((z2.2.1 : Int) != (0 : Int)) (Q49 (Q92 (Q40 (Q50 0 [] 0)) 0 z2.2.1) (Q47 1 o0_0l 2 o0_1l o1 o2) r Hs') (Q49 (Q92 (Q40 (cT z2.1)) z2.2.2 0) (Q47 1 o0_0l 2 o0_1l o1 o2) r Hs'))))))) := by kernel_rfl
def lv26 : List (Nat × List Nat) := []
theorem v26 (t_0 : Int) (t_1 : List UInt8) (t_2 : Int) (t_3 : RW) (r : TV) (Hs' : List AObj) : VE lv26 26 0 r Hs' [Q76 t_0 t_1 t_2 t_3] [] =
  (∃ b1 : Bool, ((Q66 20 [Q76 t_0 t_1 t_2 t_3] b1) ∧ (br (!b1) (RT (Q76 t_0 t_1 t_2 t_3) [] r Hs') (∃ z2 : Tm, ((Q59 71 [Q76 t_0 t_1 t_2 t_3] (aT z2)) ∧ (RT (aT z2) [] r Hs')))))) := by kernel_rfl
def lv71 : List (Nat × List Nat) := [(3, [2, 6, 30, 31, 32])]
theorem v71 (t_0 : Int) (t_1 : List UInt8) (t_2 : Int) (t_3 : RW) (r : TV) (Hs' : List AObj) : VE lv71 71 0 r Hs' [Q76 t_0 t_1 t_2 t_3] [] =
  (br ((t_0 : Int) == (5 : Int)) (((FV.isSl 4 (Q4 4 t_3) = true) ∧ ((0 ≤ (0 : Int)) ∧ (((0 : Int) < (length t_3 : Int)) ∧ (((rE (getD t_3 0 [])) : List FV) = (getD t_3 0 []))))) ∧ (∃ z1 : Tm, ((Q59 71 [(aE (getD t_3 0 []))] (aT z1)) ∧ (∃ z2 : Tm × Bool, ((Q59 104 [(aT z1)] (.tup (Q105 (cT z2.1) z2.2))) ∧ (br z2.2 (RT (aT z2.1) [] r Hs') (∃ z3 : Tm, ((Q59 45 [Q25 1, (aT z1)] (aT z3)) ∧ (RT (aT z3) [] r Hs'))))))))) (br ((t_0 : Int) == (6 : Int)) ((FV.isSl 4 (Q4 4 t_3) = true) ∧ (Q71 71 0 r Hs' 3 [Q115 2 0, Q114 6, Q62 30 4 t_3, Q18 31 (length t_3 : Int), Q18 32 0] [Q77 0 4 0 [] 0] 1)) (RT (Q76 t_0 t_1 t_2 t_3) [] r Hs'))) := by kernel_rfl
theorem v71_3a (x30 : RW) (x31 x32 h0_0 : Int) (h0_1 : List UInt8) (h0_2 : Int) (r : TV) (Hs' : List AObj) : VQ lv71 71 0 r Hs' 3 ⟨[Q115 2 0, Q114 6, Q62 30 4 x30, Q18 31 x31, Q18 32 x32], [Q77 0 4 h0_0 h0_1 h0_2], 1⟩ =
  (br (decide ((x32 : Int) < x31)) (((FV.isSl 4 (Q4 4 x30) = true) ∧ ((0 ≤ x32) ∧ ((x32 < (length x30 : Int)) ∧ (((rE (getD x30 (toNat x32) [])) : List FV) = (getD x30 (toNat x32) []))))) ∧ (∃ z1 : Tm, ((Q59 71 [(aE (getD x30 (toNat x32) []))] (aT z1)) ∧ ((1 ≤ 1) ∧ ((z0i 1 56) ∧ (Q71 71 0 r Hs' 3 [Q115 2 0, Q90 6 1 4 0 1, Q62 30 4 x30, Q18 31 x31, Q18 32 (IntKind.wrap .i64 (x32 + 1))] [Q77 0 4 h0_0 h0_1 h0_2, Q67 1 4 [(FT4 z1)]] 2)))))) (((FV.isSl 4 .nils = true) ∧ ((0 ≤ (0 : Int)) ∧ (((0 : Int) < ((0 : Nat) : Int)) ∧ (([(Q1 0), (.str []), (Q1 0), .nils] : List FV) = [])))) ∧ ((FV.isSl 4 .nils = true) ∧ (((0 ≤ (1 : Int)) ∧ (((1 : Int) ≤ (0 : Int)) ∧ ((0 : Int) ≤ ((0 : Nat) : Int)))) ∧ (∃ z2 : Tm, ((Q59 24 (Q107 (.agg (Q50 0 [] 0)) Q31) (aT z2)) ∧ (RT (aT z2) [] r Hs'))))))) := by kernel_rfl
theorem v71_3b (x6l : Nat) (x30 : RW) (x31 x32 h0_0 : Int) (h0_1 : List UInt8) (h0_2 : Int) (h1 : RW) (r : TV) (Hs' : List AObj) : VQ lv71 71 0 r Hs' 3 ⟨[Q115 2 0, Q90 6 1 4 0 x6l, Q62 30 4 x30, Q18 31 x31, Q18 32 x32], [Q77 0 4 h0_0 h0_1 h0_2, Q67 1 4 h1], 2⟩ =
  (br (decide ((x32 : Int) < x31)) (((FV.isSl 4 (Q4 4 x30) = true) ∧ ((0 ≤ x32) ∧ ((x32 < (length x30 : Int)) ∧ (((rE (getD x30 (toNat x32) [])) : List FV) = (getD x30 (toNat x32) []))))) ∧ (∃ z1 : Tm, ((Q59 71 [(aE (getD x30 (toNat x32) []))] (aT z1)) ∧ ((1 ≤ 1) ∧ ((x6l ≤ (length h1) ∧ z0i (x6l + 1) 56) ∧ (Q71 71 0 r Hs' 3 [Q115 2 0, Q90 6 1 4 0 (x6l + 1), Q62 30 4 x30, Q18 31 x31, Q18 32 (IntKind.wrap .i64 (x32 + 1))] [Q77 0 4 h0_0 h0_1 h0_2, Q67 1 4 ((take x6l h1) ++ [(FT4 z1)])] 2)))))) ((0 ≤ (0 : Int) ∧ (0 : Int) < (x6l : Int)) ∧ (((0 < (length h1)) ∧ ((((rE (getD h1 0 [])) : List FV) = (take 4 (drop 0 (getD h1 0 [])))) ∧ ((4 : Nat) = 4))) ∧ (((0 ≤ (1 : Int)) ∧ (((1 : Int) ≤ (x6l : Int)) ∧ ((x6l : Int) ≤ (x6l : Int)))) ∧ (((4 : Nat) = 4 ∧ (1 + ((toNat (x6l : Int)) - 1)) ≤ (length h1)) ∧ (∃ z2 : Tm, ((Q59 24 [(aE (getD h1 0 [])), Q69 4 (take ((toNat (x6l : Int)) - 1) (drop 1 h1))] (aT z2)) ∧ (RT (aT z2) [] r Hs')))))))) := by kernel_rfl
theorem v83_F52 (s : RW) (o0_0 : Int) (o0_1 : List UInt8) (o0_2 : Int) (o0_3 : RW) (r : TV) (Hs' : List AObj) : VE lv83 83 1 r Hs' (Q127 4 s (.fn (.func 52) [] [(false, [(Q118 0 4)])])) [Q111 4 o0_0 o0_1 o0_2 4 o0_3] =
  ((FV.isSl 4 (Q4 4 s) = true) ∧ (Q71 83 1 r Hs' 1 (Q128 (Q62 0 4 s) 1 (.fn (.func 52) [] [(false, [(Q118 0 4)])]) 7 (length s : Int) 8 0) [Q103 0 4 o0_0 o0_1 o0_2 4 o0_3] 1)) := by kernel_rfl
theorem zco (x0 : RW) (x7 x8 h0_0 : Int) (h0_1 : List UInt8) (h0_2 : Int) (h0_3 : RW) (r : TV) (Hs' : List AObj) : VQ lv83 83 1 r Hs' 1 ⟨Q128 (Q62 0 4 x0) 1 (.fn (.func 52) [] [(false, [(Q118 0 4)])]) 7 x7 8 x8, [Q103 0 4 h0_0 h0_1 h0_2 4 h0_3], 1⟩ =
  (br (decide ((x8 : Int) < x7)) (((FV.isSl 4 (Q4 4 x0) = true) ∧ ((0 ≤ x8) ∧ ((x8 < (length x0 : Int)) ∧ (((rE (getD x0 (toNat x8) [])) : List FV) = (getD x0 (toNat x8) []))))) ∧ (∃ b1 : Bool, ((Q10 52 [(aE (getD x0 (toNat x8) [])), Q85 0 4] [Q111 4 h0_0 h0_1 h0_2 4 h0_3] (Q32 b1) [Q111 4 h0_0 h0_1 h0_2 4 h0_3]) ∧ (br b1 (Q73 x8 [Q111 4 h0_0 h0_1 h0_2 4 h0_3] r Hs') (Q71 83 1 r Hs' 1 (Q128 (Q62 0 4 x0) 1 (.fn (.func 52) [] [(false, [(Q118 0 4)])]) 7 x7 8 (IntKind.wrap .i64 (x8 + 1))) [Q103 0 4 h0_0 h0_1 h0_2 4 h0_3] 1))))) (Q73 (-1 : Int) [Q111 4 h0_0 h0_1 h0_2 4 h0_3] r Hs')) := by kernel_rfl
theorem zlk (sl : Nat) (o0 : RW) (o1_0 : Int) (o1_1 : List UInt8) (o1_2 : Int) (o1_3 : RW) (r : TV) (Hs' : List AObj) : VE lv83 83 2 r Hs' (Q107 (.c (Q3 0 4 0 sl)) (.fn (.func 52) [] [(false, [(Q118 1 4)])])) [.arz 4 o0, Q111 4 o1_0 o1_1 o1_2 4 o1_3] =
  (Q71 83 2 r Hs' 1 (Q128 (Q90 0 0 4 0 sl) 1 (.fn (.func 52) [] [(false, [(Q118 1 4)])]) 7 (sl : Int) 8 0) [Q67 0 4 o0, Q103 1 4 o1_0 o1_1 o1_2 4 o1_3] 2) := by kernel_rfl
theorem z7l (x0l : Nat) (x7 x8 : Int) (h0 : RW) (h1_0 : Int) (h1_1 : List UInt8) (h1_2 : Int) (h1_3 : RW) (r : TV) (Hs' : List AObj) : VQ lv83 83 2 r Hs' 1 ⟨Q128 (Q90 0 0 4 0 x0l) 1 (.fn (.func 52) [] [(false, [(Q118 1 4)])]) 7 x7 8 x8, [Q67 0 4 h0, Q103 1 4 h1_0 h1_1 h1_2 4 h1_3], 2⟩ =
  (br (decide ((x8 : Int) < x7)) ((0 ≤ x8 ∧ x8 < (x0l : Int)) ∧ ((((0 + (toNat x8)) < (length h0)) ∧ ((((rE (getD h0 (0 + (toNat x8)) [])) : List FV) = (take 4 (drop 0 (getD h0 (0 + (toNat x8)) [])))) ∧ ((4 : Nat) = 4))) ∧ (∃ b1 : Bool, ((Q10 52 [(aE (getD h0 (0 + (toNat x8)) [])), Q85 0 4] [Q111 4 h1_0 h1_1 h1_2 4 h1_3] (Q32 b1) [Q111 4 h1_0 h1_1 h1_2 4 h1_3]) ∧ (br b1 (Q73 x8 [.arz 4 h0, Q111 4 h1_0 h1_1 h1_2 4 h1_3] r Hs') (Q71 83 2 r Hs' 1 (Q128 (Q90 0 0 4 0 x0l) 1 (.fn (.func 52) [] [(false, [(Q118 1 4)])]) 7 x7 8 (IntKind.wrap .i64 (x8 + 1))) [Q67 0 4 h0, Q103 1 4 h1_0 h1_1 h1_2 4 h1_3] 2)))))) (Q73 (-1 : Int) [.arz 4 h0, Q111 4 h1_0 h1_1 h1_2 4 h1_3] r Hs')) := by kernel_rfl
theorem v83_F61 (s : RW) (r : TV) (Hs' : List AObj) : VE lv83 83 0 r Hs' (Q127 4 s (.fn (.func 61) [] [])) [] =
  ((FV.isSl 4 (Q4 4 s) = true) ∧ (Q71 83 0 r Hs' 1 (Q128 (Q62 0 4 s) 1 (.fn (.func 61) [] []) 7 (length s : Int) 8 0) [] 0)) := by kernel_rfl
theorem zda (x0 : RW) (x7 x8 : Int) (r : TV) (Hs' : List AObj) : VQ lv83 83 0 r Hs' 1 ⟨Q128 (Q62 0 4 x0) 1 (.fn (.func 61) [] []) 7 x7 8 x8, [], 0⟩ =
  (br (decide ((x8 : Int) < x7)) (((FV.isSl 4 (Q4 4 x0) = true) ∧ ((0 ≤ x8) ∧ ((x8 < (length x0 : Int)) ∧ (((rE (getD x0 (toNat x8) [])) : List FV) = (getD x0 (toNat x8) []))))) ∧ (∃ b1 : Bool, ((Q66 61 [(aE (getD x0 (toNat x8) []))] b1) ∧ (br b1 (Q73 x8 [] r Hs') (Q71 83 0 r Hs' 1 (Q128 (Q62 0 4 x0) 1 (.fn (.func 61) [] []) 7 x7 8 (IntKind.wrap .i64 (x8 + 1))) [] 0))))) (Q73 (-1 : Int) [] r Hs')) := by kernel_rfl
def lv90 : List (Nat × List Nat) := []
theorem v90 (e o0_1 o0_2 : Int) (o0_3 : RW) (o0_4 o0_5 : Int) (o1_0l o1_1l : Nat) (o2 o3 : RW) (r : TV) (Hs' : List AObj) : VE lv90 90 4 r Hs' (Q113 (Q85 0 6) e) (Q93 (Q78 6 1 2 0 0 o0_1 o0_2 4 o0_3 o0_4 o0_5) 2 o1_0l 3 o1_1l o2 o3) =
  (br ((o0_5 : Int) == (0 : Int)) (RT (.agg (Q50 0 [] 0)) (Q93 (Q78 6 1 2 0 0 o0_1 o0_2 4 o0_3 o0_4 e) 2 o1_0l 3 o1_1l o2 o3) r Hs') (RT (.agg (Q50 0 [] 0)) (Q93 (Q78 6 1 2 0 0 o0_1 o0_2 4 o0_3 o0_4 o0_5) 2 o1_0l 3 o1_1l o2 o3) r Hs')) := by kernel_rfl
def lv93 : List (Nat × List Nat) := [(1, [0, 1, 3, 8, 9, 12, 14, 15, 55, 56, 57]), (5, [0, 1, 3, 8, 9, 12, 14, 15, 105, 106, 107]), (1000001, [2, 3])]
theorem v93 (y : Int) (l : RW) (k o0_1 o0_2 : Int) (o0_3 : RW) (o0_4 o0_5 : Int) (o1_0l o1_1l : Nat) (o2 o3 : RW) (r : TV) (Hs' : List AObj) : VE lv93 93 4 r Hs' [Q85 0 6, Q25 y, Q69 4 l, Q25 k] (Q93 (Q78 6 1 2 0 0 o0_1 o0_2 4 o0_3 o0_4 o0_5) 2 o1_0l 3 o1_1l o2 o3) =
  (∃ z1 : List Tm × Int × Int, ((Q79 13 [Q85 0 2, Q25 y, Q69 4 l, Q25 o0_4] (Q47 1 o1_0l 2 o1_1l o2 o3) (Q92 (Q19 [Q121 (FTs z1.1)]) z1.2.1 z1.2.2) (Q47 1 o1_0l 2 o1_1l o2 o3)) ∧ (br ((z1.2.2 : Int) != (0 : Int)) (∃ z2 : Int × Int × List Tm × Int × Int, ((Q10 90 (Q113 (Q85 0 6) z1.2.2) (Q93 (Q78 6 1 2 0 0 o0_1 o0_2 4 o0_3 o0_4 o0_5) 2 o1_0l 3 o1_1l o2 o3) (Q76 0 [] 0 []) (Q93 (Q78 6 1 2 0 0 z2.1 z2.2.1 4 (FTs z2.2.2.1) z2.2.2.2.1 z2.2.2.2.2) 2 o1_0l 3 o1_1l o2 o3)) ∧ (RT (Q76 0 [] 0 []) (Q88 (Q78 6 1 2 0 0 z2.1 z2.2.1 4 (FTs z2.2.2.1) z2.2.2.2.1 z2.2.2.2.2) (Q37 4 o1_0l 5 o1_1l) .gone (Q22 o2) (Q21 o3)) r Hs'))) (∃ z3 : Int × Bool × Tm × Bool, ((Q79 19 (Q113 (Q85 0 2) y) (Q47 1 o1_0l 2 o1_1l o2 o3) (Q105 (Q122 z3.1 z3.2.1 z3.2.2.1.k z3.2.2.1.s z3.2.2.1.n (FTs z3.2.2.1.l)) z3.2.2.2) (Q47 1 o1_0l 2 o1_1l o2 o3)) ∧ ((FV.isSl 4 (Q4 4 (FTs z1.1)) = true) ∧ (Q71 93 4 r Hs' 1 [Q54 0 0 6, Q18 1 y, Q18 3 k, Q115 8 6, Q62 9 4 (FTs z1.1), Q54 12 7 6, Q114 14, Q114 15, Q62 55 4 (FTs z1.1), Q18 56 (length (FTs z1.1) : Int), Q18 57 0] [Q26 0 6 (Q58 1 2 0 0 o0_1 o0_2 4 o0_3 z1.2.1 o0_5), Q75 1 4 o1_0l 5 o1_1l, Q38 2, Q38 3, Q70 4 o2, Q63 5 o3, Q77 6 4 0 [] 0, Q26 7 6 (Q122 z3.1 z3.2.1 z3.2.2.1.k z3.2.2.1.s z3.2.2.1.n (FTs z3.2.2.1.l))] 8))))))) := by kernel_rfl
theorem v93_1a (x1 x3 : Int) (x9 x55 : RW) (x56 x57 h0_1 h0_2 : Int) (h0_3 : RW) (h0_4 h0_5 : Int) (h1_0l h1_1l : Nat) (h4 h5 : RW) (h6_0 : Int) (h6_1 : List UInt8) (h6_2 h7_0 : Int) (h7_1 : Bool) (h7_2 : Int) (h7_3 : List UInt8) (h7_4 : Int) (h7_5 : RW) (r : TV) (Hs' : List AObj) : VQ lv93 93 4 r Hs' 1 ⟨[Q54 0 0 6, Q18 1 x1, Q18 3 x3, Q115 8 6, Q62 9 4 x9, Q54 12 7 6, Q114 14, Q114 15, Q62 55 4 x55, Q18 56 x56, Q18 57 x57], [Q26 0 6 (Q58 1 2 0 0 h0_1 h0_2 4 h0_3 h0_4 h0_5), Q75 1 4 h1_0l 5 h1_1l, Q38 2, Q38 3, Q70 4 h4, Q63 5 h5, Q77 6 4 h6_0 h6_1 h6_2, Q26 7 6 (Q122 h7_0 h7_1 h7_2 h7_3 h7_4 h7_5)], 8⟩ =
  (br (decide ((x57 : Int) < x56)) (((FV.isSl 4 (Q4 4 x55) = true) ∧ ((0 ≤ x57) ∧ ((x57 < (length x55 : Int)) ∧ (((rE (getD x55 (toNat x57) [])) : List FV) = (getD x55 (toNat x57) []))))) ∧ (∃ z1 : Tm × Bool, ((Q79 94 (Q89 0 6 (aE (getD x55 (toNat x57) [])) (Q25 x3)) (Q93 (Q78 6 1 2 0 0 h0_1 h0_2 4 h0_3 h0_4 h0_5) 2 h1_0l 3 h1_1l h4 h5) (Q105 (cT z1.1) z1.2) (Q93 (Q78 6 1 2 0 0 h0_1 h0_2 4 h0_3 h0_4 h0_5) 2 h1_0l 3 h1_1l h4 h5)) ∧ (br z1.2 ((FV.isSl 4 (Q4 4 x9) = true) ∧ (∃ z2 : Tm, ((Q59 121 [Q25 (IntKind.wrap .i64 ((IntKind.wrap .i64 ((length x9 : Int) - (1 : Int))) - x57))] (aT z2)) ∧ ((1 ≤ 1) ∧ ((z0i 1 56) ∧ ((1 ≤ 1) ∧ ((z0i 1 56) ∧ (Q71 93 4 r Hs' 1 [Q54 0 0 6, Q18 1 x1, Q18 3 x3, Q115 8 6, Q62 9 4 x9, Q54 12 7 6, Q90 14 8 4 0 1, Q90 15 9 4 0 1, Q62 55 4 x55, Q18 56 x56, Q18 57 (IntKind.wrap .i64 (x57 + 1))] [Q26 0 6 (Q58 1 2 0 0 h0_1 h0_2 4 h0_3 h0_4 h0_5), Q75 1 4 h1_0l 5 h1_1l, Q38 2, Q38 3, Q70 4 h4, Q63 5 h5, Q77 6 4 h6_0 h6_1 h6_2, Q26 7 6 (Q122 h7_0 h7_1 h7_2 h7_3 h7_4 h7_5), Q67 8 4 [(FT4 z2)], Q67 9 4 [(FT4 z1.1)]] 10)))))))) (Q71 93 4 r Hs' 1 [Q54 0 0 6, Q18 1 x1, Q18 3 x3, Q115 8 6, Q62 9 4 x9, Q54 12 7 6, Q114 14, Q114 15, Q62 55 4 x55, Q18 56 x56, Q18 57 (IntKind.wrap .i64 (x57 + 1))] [Q26 0 6 (Q58 1 2 0 0 h0_1 h0_2 4 h0_3 h0_4 h0_5), Q75 1 4 h1_0l 5 h1_1l, Q38 2, Q38 3, Q70 4 h4, Q63 5 h5, Q77 6 4 h6_0 h6_1 h6_2, Q26 7 6 (Q122 h7_0 h7_1 h7_2 h7_3 h7_4 h7_5)] 8))))) ((FV.isSl 4 .nils = true) ∧ ((FV.isSl 4 (Q4 4 x9) = true) ∧ (br (((0 : Int) : Int) == (length x9 : Int)) (br (decide ((h7_0 : Int) ≤ h0_2)) (∃ z3 : Tm, ((Q59 122 [Q25 x1] (aT z3)) ∧ (∃ z4 : Tm, ((Q59 24 (Q107 (aT z3) Q31) (aT z4)) ∧ (RT (aT z4) (Q88 (Q78 6 1 2 0 0 h0_1 h0_2 4 h0_3 h0_4 h0_5) (Q37 4 h1_0l 5 h1_1l) .gone (Q22 h4) (Q21 h5)) r Hs'))))) ((FV.isSl 4 (Q4 4 h0_3) = true) ∧ (Q71 93 4 r Hs' 5 [Q54 0 0 6, Q18 1 x1, Q18 3 x3, Q115 8 6, Q62 9 4 x9, Q54 12 7 6, Q114 14, Q114 15, Q62 105 4 h0_3, Q18 106 (length h0_3 : Int), Q18 107 0] [Q26 0 6 (Q58 1 2 0 0 h0_1 h0_2 4 h0_3 h0_4 h0_5), Q75 1 4 h1_0l 5 h1_1l, Q38 2, Q38 3, Q70 4 h4, Q63 5 h5, Q77 6 4 h6_0 h6_1 h6_2, Q26 7 6 (Q122 h7_0 h7_1 h7_2 h7_3 h7_4 h7_5)] 8))) ((FV.isSl 4 (Q4 4 h0_3) = true) ∧ (Q71 93 4 r Hs' 5 [Q54 0 0 6, Q18 1 x1, Q18 3 x3, Q115 8 6, Q62 9 4 x9, Q54 12 7 6, Q114 14, Q114 15, Q62 105 4 h0_3, Q18 106 (length h0_3 : Int), Q18 107 0] [Q26 0 6 (Q58 1 2 0 0 h0_1 h0_2 4 h0_3 h0_4 h0_5), Q75 1 4 h1_0l 5 h1_1l, Q38 2, Q38 3, Q70 4 h4, Q63 5 h5, Q77 6 4 h6_0 h6_1 h6_2, Q26 7 6 (Q122 h7_0 h7_1 h7_2 h7_3 h7_4 h7_5)] 8)))))) := by kernel_rfl
theorem v93_1b (x1 x3 : Int) (x9 : RW) (x14l x15l : Nat) (x55 : RW) (x56 x57 h0_1 h0_2 : Int) (h0_3 : RW) (h0_4 h0_5 : Int) (h1_0l h1_1l : Nat) (h4 h5 : RW) (h6_0 : Int) (h6_1 : List UInt8) (h6_2 h7_0 : Int) (h7_1 : Bool) (h7_2 : Int) (h7_3 : List UInt8) (h7_4 : Int) (h7_5 h8 h9 : RW) (r : TV) (Hs' : List AObj) : VQ lv93 93 4 r Hs' 1 ⟨[Q54 0 0 6, Q18 1 x1, Q18 3 x3, Q115 8 6, Q62 9 4 x9, Q54 12 7 6, Q90 14 8 4 0 x14l, Q90 15 9 4 0 x15l, Q62 55 4 x55, Q18 56 x56, Q18 57 x57], [Q26 0 6 (Q58 1 2 0 0 h0_1 h0_2 4 h0_3 h0_4 h0_5), Q75 1 4 h1_0l 5 h1_1l, Q38 2, Q38 3, Q70 4 h4, Q63 5 h5, Q77 6 4 h6_0 h6_1 h6_2, Q26 7 6 (Q122 h7_0 h7_1 h7_2 h7_3 h7_4 h7_5), Q67 8 4 h8, Q67 9 4 h9], 10⟩ =
  (br (decide ((x57 : Int) < x56)) (((FV.isSl 4 (Q4 4 x55) = true) ∧ ((0 ≤ x57) ∧ ((x57 < (length x55 : Int)) ∧ (((rE (getD x55 (toNat x57) [])) : List FV) = (getD x55 (toNat x57) []))))) ∧ (∃ z1 : Tm × Bool, ((Q79 94 (Q89 0 6 (aE (getD x55 (toNat x57) [])) (Q25 x3)) (Q93 (Q78 6 1 2 0 0 h0_1 h0_2 4 h0_3 h0_4 h0_5) 2 h1_0l 3 h1_1l h4 h5) (Q105 (cT z1.1) z1.2) (Q93 (Q78 6 1 2 0 0 h0_1 h0_2 4 h0_3 h0_4 h0_5) 2 h1_0l 3 h1_1l h4 h5)) ∧ (br z1.2 ((FV.isSl 4 (Q4 4 x9) = true) ∧ (∃ z2 : Tm, ((Q59 121 [Q25 (IntKind.wrap .i64 ((IntKind.wrap .i64 ((length x9 : Int) - (1 : Int))) - x57))] (aT z2)) ∧ ((1 ≤ 1) ∧ ((x14l ≤ (length h8) ∧ z0i (x14l + 1) 56) ∧ ((1 ≤ 1) ∧ ((x15l ≤ (length h9) ∧ z0i (x15l + 1) 56) ∧ (Q71 93 4 r Hs' 1 [Q54 0 0 6, Q18 1 x1, Q18 3 x3, Q115 8 6, Q62 9 4 x9, Q54 12 7 6, Q90 14 8 4 0 (x14l + 1), Q90 15 9 4 0 (x15l + 1), Q62 55 4 x55, Q18 56 x56, Q18 57 (IntKind.wrap .i64 (x57 + 1))] [Q26 0 6 (Q58 1 2 0 0 h0_1 h0_2 4 h0_3 h0_4 h0_5), Q75 1 4 h1_0l 5 h1_1l, Q38 2, Q38 3, Q70 4 h4, Q63 5 h5, Q77 6 4 h6_0 h6_1 h6_2, Q26 7 6 (Q122 h7_0 h7_1 h7_2 h7_3 h7_4 h7_5), Q67 8 4 ((take x14l h8) ++ [(FT4 z2)]), Q67 9 4 ((take x15l h9) ++ [(FT4 z1.1)])] 10)))))))) (Q71 93 4 r Hs' 1 [Q54 0 0 6, Q18 1 x1, Q18 3 x3, Q115 8 6, Q62 9 4 x9, Q54 12 7 6, Q90 14 8 4 0 x14l, Q90 15 9 4 0 x15l, Q62 55 4 x55, Q18 56 x56, Q18 57 (IntKind.wrap .i64 (x57 + 1))] [Q26 0 6 (Q58 1 2 0 0 h0_1 h0_2 4 h0_3 h0_4 h0_5), Q75 1 4 h1_0l 5 h1_1l, Q38 2, Q38 3, Q70 4 h4, Q63 5 h5, Q77 6 4 h6_0 h6_1 h6_2, Q26 7 6 (Q122 h7_0 h7_1 h7_2 h7_3 h7_4 h7_5), Q67 8 4 h8, Q67 9 4 h9] 10))))) ((FV.isSl 4 (Q4 4 x9) = true) ∧ (br (((x14l : Int) : Int) == (length x9 : Int)) (br (decide ((h7_0 : Int) ≤ h0_2)) (∃ z3 : Tm, ((Q59 122 [Q25 x1] (aT z3)) ∧ (((4 : Nat) = 4 ∧ (0 + x15l) ≤ (length h9)) ∧ (∃ z4 : Tm, ((Q59 24 [(aT z3), Q69 4 (take x15l (drop 0 h9))] (aT z4)) ∧ (RT (aT z4) (Q88 (Q78 6 1 2 0 0 h0_1 h0_2 4 h0_3 h0_4 h0_5) (Q37 4 h1_0l 5 h1_1l) .gone (Q22 h4) (Q21 h5)) r Hs')))))) ((FV.isSl 4 (Q4 4 h0_3) = true) ∧ (Q71 93 4 r Hs' 5 [Q54 0 0 6, Q18 1 x1, Q18 3 x3, Q115 8 6, Q62 9 4 x9, Q54 12 7 6, Q90 14 8 4 0 x14l, Q90 15 9 4 0 x15l, Q62 105 4 h0_3, Q18 106 (length h0_3 : Int), Q18 107 0] [Q26 0 6 (Q58 1 2 0 0 h0_1 h0_2 4 h0_3 h0_4 h0_5), Q75 1 4 h1_0l 5 h1_1l, Q38 2, Q38 3, Q70 4 h4, Q63 5 h5, Q77 6 4 h6_0 h6_1 h6_2, Q26 7 6 (Q122 h7_0 h7_1 h7_2 h7_3 h7_4 h7_5), Q67 8 4 h8, Q67 9 4 h9] 10))) ((FV.isSl 4 (Q4 4 h0_3) = true) ∧ (Q71 93 4 r Hs' 5 [Q54 0 0 6, Q18 1 x1, Q18 3 x3, Q115 8 6, Q62 9 4 x9, Q54 12 7 6, Q90 14 8 4 0 x14l, Q90 15 9 4 0 x15l, Q62 105 4 h0_3, Q18 106 (length h0_3 : Int), Q18 107 0] [Q26 0 6 (Q58 1 2 0 0 h0_1 h0_2 4 h0_3 h0_4 h0_5), Q75 1 4 h1_0l 5 h1_1l, Q38 2, Q38 3, Q70 4 h4, Q63 5 h5, Q77 6 4 h6_0 h6_1 h6_2, Q26 7 6 (Q122 h7_0 h7_1 h7_2 h7_3 h7_4 h7_5), Q67 8 4 h8, Q67 9 4 h9] 10))))) := by kernel_rfl
theorem v93_5a (x1 x3 : Int) (x9 x105 : RW) (x106 x107 h0_1 h0_2 : Int) (h0_3 : RW) (h0_4 h0_5 : Int) (h1_0l h1_1l : Nat) (h4 h5 : RW) (h6_0 : Int) (h6_1 : List UInt8) (h6_2 h7_0 : Int) (h7_1 : Bool) (h7_2 : Int) (h7_3 : List UInt8) (h7_4 : Int) (h7_5 : RW) (r : TV) (Hs' : List AObj) : VQ lv93 93 4 r Hs' 5 ⟨[Q54 0 0 6, Q18 1 x1, Q18 3 x3, Q115 8 6, Q62 9 4 x9, Q54 12 7 6, Q114 14, Q114 15, Q62 105 4 x105, Q18 106 x106, Q18 107 x107], [Q26 0 6 (Q58 1 2 0 0 h0_1 h0_2 4 h0_3 h0_4 h0_5), Q75 1 4 h1_0l 5 h1_1l, Q38 2, Q38 3, Q70 4 h4, Q63 5 h5, Q77 6 4 h6_0 h6_1 h6_2, Q26 7 6 (Q122 h7_0 h7_1 h7_2 h7_3 h7_4 h7_5)], 8⟩ =
  (br (decide ((x107 : Int) < x106)) (((FV.isSl 4 (Q4 4 x105) = true) ∧ ((0 ≤ x107) ∧ ((x107 < (length x105 : Int)) ∧ (((rE (getD x105 (toNat x107) [])) : List FV) = (getD x105 (toNat x107) []))))) ∧ (br (decide ((h7_0 : Int) > h0_2)) (br (((FV.asI (getD (getD x105 (toNat x107) []) 0 FV.nils)) : Int) == (1 : Int)) (br (decide (((FV.asI (getD (getD x105 (toNat x107) []) 2 FV.nils)) : Int) ≤ h7_0)) ((1 ≤ 1) ∧ ((z0i 1 56) ∧ ((FV.isSl 4 (Q4 4 h0_3) = true) ∧ (∃ z1 : Tm, ((Q59 121 [Q25 (IntKind.wrap .i64 ((IntKind.wrap .i64 ((IntKind.wrap .i64 (x3 + (length h0_3 : Int))) - (1 : Int))) - x107))] (aT z1)) ∧ ((1 ≤ 1) ∧ ((z0i 1 56) ∧ (Q71 93 4 r Hs' 5 [Q54 0 0 6, Q18 1 x1, Q18 3 x3, Q115 8 6, Q62 9 4 x9, Q54 12 7 6, Q90 14 8 4 0 1, Q90 15 9 4 0 1, Q62 105 4 x105, Q18 106 x106, Q18 107 (IntKind.wrap .i64 (x107 + 1))] [Q26 0 6 (Q58 1 2 0 0 h0_1 h0_2 4 h0_3 h0_4 h0_5), Q75 1 4 h1_0l 5 h1_1l, Q38 2, Q38 3, Q70 4 h4, Q63 5 h5, Q77 6 4 h6_0 h6_1 h6_2, Q26 7 6 (Q122 h7_0 h7_1 h7_2 h7_3 h7_4 h7_5), Q67 8 4 [(rE (getD x105 (toNat x107) []))], Q67 9 4 [(FT4 z1)]] 10)))))))) (Q71 93 4 r Hs' 5 [Q54 0 0 6, Q18 1 x1, Q18 3 x3, Q115 8 6, Q62 9 4 x9, Q54 12 7 6, Q114 14, Q114 15, Q62 105 4 x105, Q18 106 x106, Q18 107 (IntKind.wrap .i64 (x107 + 1))] [Q26 0 6 (Q58 1 2 0 0 h0_1 h0_2 4 h0_3 h0_4 h0_5), Q75 1 4 h1_0l 5 h1_1l, Q38 2, Q38 3, Q70 4 h4, Q63 5 h5, Q77 6 4 h6_0 h6_1 h6_2, Q26 7 6 (Q122 h7_0 h7_1 h7_2 h7_3 h7_4 h7_5)] 8)) (Q71 93 4 r Hs' 5 [Q54 0 0 6, Q18 1 x1, Q18 3 x3, Q115 8 6, Q62 9 4 x9, Q54 12 7 6, Q114 14, Q114 15, Q62 105 4 x105, Q18 106 x106, Q18 107 (IntKind.wrap .i64 (x107 + 1))] [Q26 0 6 (Q58 1 2 0 0 h0_1 h0_2 4 h0_3 h0_4 h0_5), Q75 1 4 h1_0l 5 h1_1l, Q38 2, Q38 3, Q70 4 h4, Q63 5 h5, Q77 6 4 h6_0 h6_1 h6_2, Q26 7 6 (Q122 h7_0 h7_1 h7_2 h7_3 h7_4 h7_5)] 8)) (Q71 93 4 r Hs' 5 [Q54 0 0 6, Q18 1 x1, Q18 3 x3, Q115 8 6, Q62 9 4 x9, Q54 12 7 6, Q114 14, Q114 15, Q62 105 4 x105, Q18 106 x106, Q18 107 (IntKind.wrap .i64 (x107 + 1))] [Q26 0 6 (Q58 1 2 0 0 h0_1 h0_2 4 h0_3 h0_4 h0_5), Q75 1 4 h1_0l 5 h1_1l, Q38 2, Q38 3, Q70 4 h4, Q63 5 h5, Q77 6 4 h6_0 h6_1 h6_2, Q26 7 6 (Q122 h7_0 h7_1 h7_2 h7_3 h7_4 h7_5)] 8))) ((FV.isSl 4 (Q4 4 x9) = true) ∧ (∃ z2 : Tm × Sto, ((Q10 123 [Q85 0 2, Q25 x1, Q25 (z0t [h0_2, h7_0]), Q25 (length x9 : Int), .c Q31] (Q47 1 h1_0l 2 h1_1l h4 h5) (aT z2.1) (Q112 3 (length z2.2.V) 4 (length z2.2.T) (SR z2.2.V) (IR z2.2.T))) ∧ (∃ z3 : Tm, ((Q59 24 (Q107 (aT z2.1) Q31) (aT z3)) ∧ (RT (aT z3) (Q88 (Q78 6 1 2 0 0 h0_1 h0_2 4 h0_3 h0_4 h0_5) (Q37 4 (length z2.2.V) 5 (length z2.2.T)) .gone (Q22 (SR z2.2.V)) (Q21 (IR z2.2.T))) r Hs'))))))) := by kernel_rfl
theorem v93_5b (x1 x3 : Int) (x9 : RW) (x14l x15l : Nat) (x105 : RW) (x106 x107 h0_1 h0_2 : Int) (h0_3 : RW) (h0_4 h0_5 : Int) (h1_0l h1_1l : Nat) (h4 h5 : RW) (h6_0 : Int) (h6_1 : List UInt8) (h6_2 h7_0 : Int) (h7_1 : Bool) (h7_2 : Int) (h7_3 : List UInt8) (h7_4 : Int) (h7_5 h8 h9 : RW) (r : TV) (Hs' : List AObj) : VQ lv93 93 4 r Hs' 5 ⟨[Q54 0 0 6, Q18 1 x1, Q18 3 x3, Q115 8 6, Q62 9 4 x9, Q54 12 7 6, Q90 14 8 4 0 x14l, Q90 15 9 4 0 x15l, Q62 105 4 x105, Q18 106 x106, Q18 107 x107], [Q26 0 6 (Q58 1 2 0 0 h0_1 h0_2 4 h0_3 h0_4 h0_5), Q75 1 4 h1_0l 5 h1_1l, Q38 2, Q38 3, Q70 4 h4, Q63 5 h5, Q77 6 4 h6_0 h6_1 h6_2, Q26 7 6 (Q122 h7_0 h7_1 h7_2 h7_3 h7_4 h7_5), Q67 8 4 h8, Q67 9 4 h9], 10⟩ =
  (br (decide ((x107 : Int) < x106)) (((FV.isSl 4 (Q4 4 x105) = true) ∧ ((0 ≤ x107) ∧ ((x107 < (length x105 : Int)) ∧ (((rE (getD x105 (toNat x107) [])) : List FV) = (getD x105 (toNat x107) []))))) ∧ (br (decide ((h7_0 : Int) > h0_2)) (br (((FV.asI (getD (getD x105 (toNat x107) []) 0 FV.nils)) : Int) == (1 : Int)) (br (decide (((FV.asI (getD (getD x105 (toNat x107) []) 2 FV.nils)) : Int) ≤ h7_0)) ((1 ≤ 1) ∧ ((x14l ≤ (length h8) ∧ z0i (x14l + 1) 56) ∧ ((FV.isSl 4 (Q4 4 h0_3) = true) ∧ (∃ z1 : Tm, ((Q59 121 [Q25 (IntKind.wrap .i64 ((IntKind.wrap .i64 ((IntKind.wrap .i64 (x3 + (length h0_3 : Int))) - (1 : Int))) - x107))] (aT z1)) ∧ ((1 ≤ 1) ∧ ((x15l ≤ (length h9) ∧ z0i (x15l + 1) 56) ∧ (Q71 93 4 r Hs' 5 [Q54 0 0 6, Q18 1 x1, Q18 3 x3, Q115 8 6, Q62 9 4 x9, Q54 12 7 6, Q90 14 8 4 0 (x14l + 1), Q90 15 9 4 0 (x15l + 1), Q62 105 4 x105, Q18 106 x106, Q18 107 (IntKind.wrap .i64 (x107 + 1))] [Q26 0 6 (Q58 1 2 0 0 h0_1 h0_2 4 h0_3 h0_4 h0_5), Q75 1 4 h1_0l 5 h1_1l, Q38 2, Q38 3, Q70 4 h4, Q63 5 h5, Q77 6 4 h6_0 h6_1 h6_2, Q26 7 6 (Q122 h7_0 h7_1 h7_2 h7_3 h7_4 h7_5), Q67 8 4 ((take x14l h8) ++ [(rE (getD x105 (toNat x107) []))]), Q67 9 4 ((take x15l h9) ++ [(FT4 z1)])] 10)))))))) (Q71 93 4 r Hs' 5 [Q54 0 0 6, Q18 1 x1, Q18 3 x3, Q115 8 6, Q62 9 4 x9, Q54 12 7 6, Q90 14 8 4 0 x14l, Q90 15 9 4 0 x15l, Q62 105 4 x105, Q18 106 x106, Q18 107 (IntKind.wrap .i64 (x107 + 1))] [Q26 0 6 (Q58 1 2 0 0 h0_1 h0_2 4 h0_3 h0_4 h0_5), Q75 1 4 h1_0l 5 h1_1l, Q38 2, Q38 3, Q70 4 h4, Q63 5 h5, Q77 6 4 h6_0 h6_1 h6_2, Q26 7 6 (Q122 h7_0 h7_1 h7_2 h7_3 h7_4 h7_5), Q67 8 4 h8, Q67 9 4 h9] 10)) (Q71 93 4 r Hs' 5 [Q54 0 0 6, Q18 1 x1, Q18 3 x3, Q115 8 6, Q62 9 4 x9, Q54 12 7 6, Q90 14 8 4 0 x14l, Q90 15 9 4 0 x15l, Q62 105 4 x105, Q18 106 x106, Q18 107 (IntKind.wrap .i64 (x107 + 1))] [Q26 0 6 (Q58 1 2 0 0 h0_1 h0_2 4 h0_3 h0_4 h0_5), Q75 1 4 h1_0l 5 h1_1l, Q38 2, Q38 3, Q70 4 h4, Q63 5 h5, Q77 6 4 h6_0 h6_1 h6_2, Q26 7 6 (Q122 h7_0 h7_1 h7_2 h7_3 h7_4 h7_5), Q67 8 4 h8, Q67 9 4 h9] 10)) (Q71 93 4 r Hs' 5 [Q54 0 0 6, Q18 1 x1, Q18 3 x3, Q115 8 6, Q62 9 4 x9, Q54 12 7 6, Q90 14 8 4 0 x14l, Q90 15 9 4 0 x15l, Q62 105 4 x105, Q18 106 x106, Q18 107 (IntKind.wrap .i64 (x107 + 1))] [Q26 0 6 (Q58 1 2 0 0 h0_1 h0_2 4 h0_3 h0_4 h0_5), Q75 1 4 h1_0l 5 h1_1l, Q38 2, Q38 3, Q70 4 h4, Q63 5 h5, Q77 6 4 h6_0 h6_1 h6_2, Q26 7 6 (Q122 h7_0 h7_1 h7_2 h7_3 h7_4 h7_5), Q67 8 4 h8, Q67 9 4 h9] 10))) ((FV.isSl 4 (Q4 4 x9) = true) ∧ (((4 : Nat) = 4 ∧ (0 + x14l) ≤ (length h8)) ∧ (∃ z2 : Tm × Sto, ((Q10 123 [Q85 0 2, Q25 x1, Q25 (z0t [h0_2, h7_0]), Q25 (length x9 : Int), Q69 4 (take x14l (drop 0 h8))] (Q47 1 h1_0l 2 h1_1l h4 h5) (aT z2.1) (Q112 3 (length z2.2.V) 4 (length z2.2.T) (SR z2.2.V) (IR z2.2.T))) ∧ (((4 : Nat) = 4 ∧ (0 + x15l) ≤ (length h9)) ∧ (∃ z3 : Tm, ((Q59 24 [(aT z2.1), Q69 4 (take x15l (drop 0 h9))] (aT z3)) ∧ (RT (aT z3) (Q88 (Q78 6 1 2 0 0 h0_1 h0_2 4 h0_3 h0_4 h0_5) (Q37 4 (length z2.2.V) 5 (length z2.2.T)) .gone (Q22 (SR z2.2.V)) (Q21 (IR z2.2.T))) r Hs'))))))))) := by kernel_rfl
def lv94 : List (Nat × List Nat) := []
theorem v94 (t_0 : Int) (t_1 : List UInt8) (t_2 : Int) (t_3 : RW) (k o0_1 o0_2 : Int) (o0_3 : RW) (o0_4 o0_5 : Int) (o1_0l o1_1l : Nat) (o2 o3 : RW) (r : TV) (Hs' : List AObj) : VE lv94 94 4 r Hs' (Q89 0 6 (Q76 t_0 t_1 t_2 t_3) (Q25 k)) (Q93 (Q78 6 1 2 0 0 o0_1 o0_2 4 o0_3 o0_4 o0_5) 2 o1_0l 3 o1_1l o2 o3) =
  (br ((t_0 : Int) == (3 : Int)) (br (decide ((t_2 : Int) < k)) (Q49 (Q105 (Q20 t_0 t_1 t_2 4 t_3) true) (Q93 (Q78 6 1 2 0 0 o0_1 o0_2 4 o0_3 o0_4 o0_5) 2 o1_0l 3 o1_1l o2 o3) r Hs') (br ((t_0 : Int) == (3 : Int)) (∃ z1 : Int, ((Q10 83 (Q127 4 o0_3 (.fn (.func 124) [] [(false, [(Q118 0 4)])])) [Q111 4 t_0 t_1 (IntKind.wrap .i64 (t_2 - k)) 4 t_3] (Q25 z1) [Q111 4 t_0 t_1 (IntKind.wrap .i64 (t_2 - k)) 4 t_3]) ∧ (br (decide ((z1 : Int) ≥ (0 : Int))) ((FV.isSl 4 (Q4 4 o0_3) = true) ∧ (∃ z2 : Tm, ((Q59 121 [Q25 (IntKind.wrap .i64 ((IntKind.wrap .i64 ((IntKind.wrap .i64 (k + (length o0_3 : Int))) - (1 : Int))) - z1))] (aT z2)) ∧ (Q49 (Q105 (cT z2) true) (Q93 (Q78 6 1 2 0 0 o0_1 o0_2 4 o0_3 o0_4 o0_5) 2 o1_0l 3 o1_1l o2 o3) r Hs')))) (br ((t_0 : Int) == (1 : Int)) (Q49 (Q105 (Q20 t_0 t_1 t_2 4 t_3) (decide ((t_2 : Int) ≤ o0_2))) (Q93 (Q78 6 1 2 0 0 o0_1 o0_2 4 o0_3 o0_4 o0_5) 2 o1_0l 3 o1_1l o2 o3) r Hs') (Q49 (Q105 (Q20 t_0 t_1 t_2 4 t_3) false) (Q93 (Q78 6 1 2 0 0 o0_1 o0_2 4 o0_3 o0_4 o0_5) 2 o1_0l 3 o1_1l o2 o3) r Hs'))))) (∃ z3 : Int, ((Q10 83 (Q127 4 o0_3 (.fn (.func 124) [] [(false, [(Q118 0 4)])])) [Q111 4 t_0 t_1 t_2 4 t_3] (Q25 z3) [Q111 4 t_0 t_1 t_2 4 t_3]) ∧ (br (decide ((z3 : Int) ≥ (0 : Int))) ((FV.isSl 4 (Q4 4 o0_3) = true) ∧ (∃ z4 : Tm, ((Q59 121 [Q25 (IntKind.wrap .i64 ((IntKind.wrap .i64 ((IntKind.wrap .i64 (k + (length o0_3 : Int))) - (1 : Int))) - z3))] (aT z4)) ∧ (Q49 (Q105 (cT z4) true) (Q93 (Q78 6 1 2 0 0 o0_1 o0_2 4 o0_3 o0_4 o0_5) 2 o1_0l 3 o1_1l o2 o3) r Hs')))) (br ((t_0 : Int) == (1 : Int)) (Q49 (Q105 (Q20 t_0 t_1 t_2 4 t_3) (decide ((t_2 : Int) ≤ o0_2))) (Q93 (Q78 6 1 2 0 0 o0_1 o0_2 4 o0_3 o0_4 o0_5) 2 o1_0l 3 o1_1l o2 o3) r Hs') (Q49 (Q105 (Q20 t_0 t_1 t_2 4 t_3) false) (Q93 (Q78 6 1 2 0 0 o0_1 o0_2 4 o0_3 o0_4 o0_5) 2 o1_0l 3 o1_1l o2 o3) r Hs'))))))) (br ((t_0 : Int) == (3 : Int)) (∃ z5 : Int, ((Q10 83 (Q127 4 o0_3 (.fn (.func 124) [] [(false, [(Q118 0 4)])])) [Q111 4 t_0 t_1 (IntKind.wrap .i64 (t_2 - k)) 4 t_3] (Q25 z5) [Q111 4 t_0 t_1 (IntKind.wrap .i64 (t_2 - k)) 4 t_3]) ∧ (br (decide ((z5 : Int) ≥ (0 : Int))) ((FV.isSl 4 (Q4 4 o0_3) = true) ∧ (∃ z6 : Tm, ((Q59 121 [Q25 (IntKind.wrap .i64 ((IntKind.wrap .i64 ((IntKind.wrap .i64 (k + (length o0_3 : Int))) - (1 : Int))) - z5))] (aT z6)) ∧ (Q49 (Q105 (cT z6) true) (Q93 (Q78 6 1 2 0 0 o0_1 o0_2 4 o0_3 o0_4 o0_5) 2 o1_0l 3 o1_1l o2 o3) r Hs')))) (br ((t_0 : Int) == (1 : Int)) (Q49 (Q105 (Q20 t_0 t_1 t_2 4 t_3) (decide ((t_2 : Int) ≤ o0_2))) (Q93 (Q78 6 1 2 0 0 o0_1 o0_2 4 o0_3 o0_4 o0_5) 2 o1_0l 3 o1_1l o2 o3) r Hs') (Q49 (Q105 (Q20 t_0 t_1 t_2 4 t_3) false) (Q93 (Q78 6 1 2 0 0 o0_1 o0_2 4 o0_3 o0_4 o0_5) 2 o1_0l 3 o1_1l o2 o3) r Hs'))))) (∃ z7 : Int, ((Q10 83 (Q127 4 o0_3 (.fn (.func 124) [] [(false, [(Q118 0 4)])])) [Q111 4 t_0 t_1 t_2 4 t_3] (Q25 z7) [Q111 4 t_0 t_1 t_2 4 t_3]) ∧ (br (decide ((z7 : Int) ≥ (0 : Int))) ((FV.isSl 4 (Q4 4 o0_3) = true) ∧ (∃ z8 : Tm, ((Q59 121 [Q25 (IntKind.wrap .i64 ((IntKind.wrap .i64 ((IntKind.wrap .i64 (k + (length o0_3 : Int))) - (1 : Int))) - z7))] (aT z8)) ∧ (Q49 (Q105 (cT z8) true) (Q93 (Q78 6 1 2 0 0 o0_1 o0_2 4 o0_3 o0_4 o0_5) 2 o1_0l 3 o1_1l o2 o3) r Hs')))) (br ((t_0 : Int) == (1 : Int)) (Q49 (Q105 (Q20 t_0 t_1 t_2 4 t_3) (decide ((t_2 : Int) ≤ o0_2))) (Q93 (Q78 6 1 2 0 0 o0_1 o0_2 4 o0_3 o0_4 o0_5) 2 o1_0l 3 o1_1l o2 o3) r Hs') (Q49 (Q105 (Q20 t_0 t_1 t_2 4 t_3) false) (Q93 (Q78 6 1 2 0 0 o0_1 o0_2 4 o0_3 o0_4 o0_5) 2 o1_0l 3 o1_1l o2 o3) r Hs'))))))) := by kernel_rfl
def lv58 : List (Nat × List Nat) := [(1, [1, 2, 7, 27, 28, 29])]
theorem v58_F69 (t_0 : Int) (t_1 : List UInt8) (t_2 : Int) (t_3 : RW) (k o0_0 : Int) (r : TV) (Hs' : List AObj) : VE lv58 58 1 r Hs' [Q76 t_0 t_1 t_2 t_3, Q25 k, .c (.fn (.func 69) [] [(false, [(Q119 0)])])] [Q94 o0_0] =
  (br ((t_0 : Int) != (5 : Int)) (br ((t_0 : Int) != (6 : Int)) (∃ z1 : Int, ((Q79 69 [Q76 t_0 t_1 t_2 t_3, Q25 k, Q85 0 1] [Q94 o0_0] [] [Q94 z1]) ∧ (Q49 [] [Q94 z1] r Hs'))) (∃ y2 : FV, (∃ n3 : Int, ((Q59 88 [Q76 t_0 t_1 t_2 t_3] (.tup [Q19 [Q0 y2], Q30 n3])) ∧ ((FV.isSl 4 y2 = true) ∧ (Q71 58 1 r Hs' 1 [Q18 1 k, Q5 2 (.fn (.func 69) [] [(false, [(Q119 0)])]), Q18 7 n3, Q5 27 (Q0 y2), Q18 28 (length (FV.ses y2) : Int), Q18 29 0] [Q108 0 1 o0_0] 1)))))) (∃ y4 : FV, (∃ n5 : Int, ((Q59 88 [Q76 t_0 t_1 t_2 t_3] (.tup [Q19 [Q0 y4], Q30 n5])) ∧ ((FV.isSl 4 y4 = true) ∧ (Q71 58 1 r Hs' 1 [Q18 1 k, Q5 2 (.fn (.func 69) [] [(false, [(Q119 0)])]), Q18 7 n5, Q5 27 (Q0 y4), Q18 28 (length (FV.ses y4) : Int), Q18 29 0] [Q108 0 1 o0_0] 1)))))) := by kernel_rfl
theorem zd9 (x1 x7 : Int) (x27 : FV) (x28 x29 h0_0 : Int) (r : TV) (Hs' : List AObj) : VQ lv58 58 1 r Hs' 1 ⟨[Q18 1 x1, Q5 2 (.fn (.func 69) [] [(false, [(Q119 0)])]), Q18 7 x7, Q5 27 (Q0 x27), Q18 28 x28, Q18 29 x29], [Q108 0 1 h0_0], 1⟩ =
  (br (decide ((x29 : Int) < x28)) (((FV.isSl 4 x27 = true) ∧ ((0 ≤ x29) ∧ ((x29 < (length (FV.ses x27) : Int)) ∧ (((rE (getD (FV.ses x27) (toNat x29) [])) : List FV) = (getD (FV.ses x27) (toNat x29) []))))) ∧ ((∃ z1 : Int, ((Q79 58 [(aE (getD (FV.ses x27) (toNat x29) [])), Q25 (IntKind.wrap .i64 (x1 + x7)), .c (.fn (.func 69) [] [(false, [(Q119 0)])])] [Q94 h0_0] [] [Q94 z1]) ∧ (Q71 58 1 r Hs' 1 [Q18 1 x1, Q5 2 (.fn (.func 69) [] [(false, [(Q119 0)])]), Q18 7 x7, Q5 27 (Q0 x27), Q18 28 x28, Q18 29 (IntKind.wrap .i64 (x29 + 1))] [Q108 0 1 z1] 1))) ∨ ((∃ _ : Unit, ((Q79 58 [(aE (getD (FV.ses x27) (toNat x29) [])), Q25 (IntKind.wrap .i64 (x1 + x7)), .c (.fn (.func 69) [] [(false, [(Q119 0)])])] [Q94 h0_0] [] [Q7 1 [Q31]]) ∧ (Q71 58 1 r Hs' 1 [Q18 1 x1, Q5 2 (.fn (.func 69) [] [(false, [(Q119 0)])]), Q18 7 x7, Q5 27 (Q0 x27), Q18 28 x28, Q18 29 (IntKind.wrap .i64 (x29 + 1))] [Q26 0 1 [Q31]] 1))) ∨ ((∃ z3 : Nat × RW, ((Q79 58 [(aE (getD (FV.ses x27) (toNat x29) [])), Q25 (IntKind.wrap .i64 (x1 + x7)), .c (.fn (.func 69) [] [(false, [(Q119 0)])])] [Q94 h0_0] [] [Q7 1 [Q3 1 1 0 z3.1], Q21 z3.2]) ∧ (Q71 58 1 r Hs' 1 [Q18 1 x1, Q5 2 (.fn (.func 69) [] [(false, [(Q119 0)])]), Q18 7 x7, Q5 27 (Q0 x27), Q18 28 x28, Q18 29 (IntKind.wrap .i64 (x29 + 1))] [Q26 0 1 [Q3 1 1 0 z3.1], Q63 1 z3.2] 2))) ∨ (∃ z4 : Nat × RW, ((Q79 58 [(aE (getD (FV.ses x27) (toNat x29) [])), Q25 (IntKind.wrap .i64 (x1 + x7)), .c (.fn (.func 69) [] [(false, [(Q119 0)])])] [Q94 h0_0] [] (Q41 (Q7 1 [Q3 2 1 0 z4.1]) .gone z4.2)) ∧ (Q71 58 1 r Hs' 1 [Q18 1 x1, Q5 2 (.fn (.func 69) [] [(false, [(Q119 0)])]), Q18 7 x7, Q5 27 (Q0 x27), Q18 28 x28, Q18 29 (IntKind.wrap .i64 (x29 + 1))] [Q26 0 1 [Q3 1 1 0 z4.1], Q63 1 z4.2] 2))))))) (Q49 [] [Q94 h0_0] r Hs')) := by kernel_rfl
def lv146 : List (Nat × List Nat) := []
theorem v146 (t_0 : Int) (t_1 : List UInt8) (t_2 : Int) (t_3 : RW) (o0_0l o0_1l : Nat) (o1 o2 : RW) (r : TV) (Hs' : List AObj) : VE lv146 146 3 r Hs' [Q85 0 2, Q76 t_0 t_1 t_2 t_3] (Q47 1 o0_0l 2 o0_1l o1 o2) =
  (∃ z1 : Int × Bool × Tm × Bool, ((Q79 19 (Q113 (Q85 0 2) t_2) (Q47 1 o0_0l 2 o0_1l o1 o2) (Q105 (Q122 z1.1 z1.2.1 z1.2.2.1.k z1.2.2.1.s z1.2.2.1.n (FTs z1.2.2.1.l)) z1.2.2.2) (Q47 1 o0_0l 2 o0_1l o1 o2)) ∧ (br ((t_0 : Int) == (4 : Int)) (br z1.2.2.2 (Q49 (Q105 (cT z1.2.2.1) z1.2.1) (Q47 1 o0_0l 2 o0_1l o1 o2) r Hs') (Q49 (Q105 (cT z1.2.2.1) false) (Q47 1 o0_0l 2 o0_1l o1 o2) r Hs')) (Q49 (Q105 (cT z1.2.2.1) false) (Q47 1 o0_0l 2 o0_1l o1 o2) r Hs')))) := by kernel_rfl
def lv147 : List (Nat × List Nat) := []
theorem v147 (body_0 : Int) (body_1 : List UInt8) (body_2 : Int) (body_3 : RW) (arg_0 : Int) (arg_1 : List UInt8) (arg_2 : Int) (arg_3 : RW) (r : TV) (Hs' : List AObj) : VE lv147 147 0 r Hs' [Q76 body_0 body_1 body_2 body_3, Q76 arg_0 arg_1 arg_2 arg_3] [] =
  (∃ b1 : Bool, ((Q66 20 [Q76 body_0 body_1 body_2 body_3] b1) ∧ (br (!b1) (Q49 (Q126 (Q50 0 [] 0) 1) [] r Hs') (∃ b2 : Bool, ((Q66 20 [Q76 arg_0 arg_1 arg_2 arg_3] b2) ∧ (br (!b2) (Q49 (Q126 (Q50 0 [] 0) 1) [] r Hs') (∃ z3 : Tm × Int, ((Q59 165 [Q76 body_0 body_1 body_2 body_3, Q76 arg_0 arg_1 arg_2 arg_3] (.tup (Q126 (cT z3.1) z3.2))) ∧ (Q49 (Q126 (cT z3.1) z3.2) [] r Hs'))))))))) := by kernel_rfl
def lv68 : List (Nat × List Nat) := [(1, [0, 2, 4, 6, 9, 36, 37])]
theorem v68 (t_0 : Int) (t_1 : List UInt8) (t_2 : Int) (t_3 : RW) (o0_0l o0_1l : Nat) (o1 o2 : RW) (o3_0 : Int) (r : TV) (Hs' : List AObj) : VE lv68 68 4 r Hs' (Q89 0 2 (Q76 t_0 t_1 t_2 t_3) (Q85 3 1)) [Q37 1 o0_0l 2 o0_1l, Q22 o1, Q21 o2, Q94 o3_0] =
  (br (decide ((o3_0 : Int) ≤ (0 : Int))) (Q49 (Q126 (Q50 0 [] 0) 80) [Q37 1 o0_0l 2 o0_1l, Q22 o1, Q21 o2, Q94 o3_0] r Hs') (∃ z1 : Tm × Int × Int, ((Q79 101 (Q89 0 2 (Q76 t_0 t_1 t_2 t_3) (Q85 3 1)) [Q37 1 o0_0l 2 o0_1l, Q22 o1, Q21 o2, Q94 (IntKind.wrap .i64 (o3_0 - 1))] (Q126 (cT z1.1) z1.2.1) [Q37 1 o0_0l 2 o0_1l, Q22 o1, Q21 o2, Q94 z1.2.2]) ∧ (br ((z1.2.1 : Int) != (0 : Int)) (Q49 (Q126 (Q50 0 [] 0) z1.2.1) [Q37 1 o0_0l 2 o0_1l, Q22 o1, Q21 o2, Q94 z1.2.2] r Hs') ((∃ z2 : Bool, ((Q59 102 [Q69 4 (FTs z1.1.l)] (.c (Q0 (.sl z2 4 [])))) ∧ ((FV.isSl 4 (.sl z2 4 []) = true) ∧ (Q71 68 4 r Hs' 1 [Q54 0 0 2, Q54 2 3 1, Q115 4 4, Q115 6 5, Q5 9 (Q0 (.sl z2 4 [])), Q18 36 0, Q18 37 0] [Q75 0 1 o0_0l 2 o0_1l, Q70 1 o1, Q63 2 o2, Q108 3 1 z1.2.2, Q26 4 4 (cT z1.1), Q77 5 4 0 [] 0] 6)))) ∨ (∃ z3 : RW, ((Q57 102 [Q69 4 (FTs z1.1.l)] (.c (Q3 0 4 0 (length z3))) [.arz 4 z3]) ∧ (Q71 68 4 r Hs' 1 [Q54 0 0 2, Q54 2 3 1, Q115 4 4, Q115 6 5, Q90 9 6 4 0 (length z3), Q18 36 (length z3 : Int), Q18 37 0] [Q75 0 1 o0_0l 2 o0_1l, Q70 1 o1, Q63 2 o2, Q108 3 1 z1.2.2, Q26 4 4 (cT z1.1), Q77 5 4 0 [] 0, Q67 6 4 z3] 7)))))))) := by kernel_rfl
theorem v68_1a (x9n : Bool) (x9 : RW) (x36 x37 : Int) (h0_0l h0_1l : Nat) (h1 h2 : RW) (h3_0 h4_0 : Int) (h4_1 : List UInt8) (h4_2 : Int) (h4_3 : RW) (h5_0 : Int) (h5_1 : List UInt8) (h5_2 : Int) (r : TV) (Hs' : List AObj) : VQ lv68 68 4 r Hs' 1 ⟨[Q54 0 0 2, Q54 2 3 1, Q115 4 4, Q115 6 5, Q5 9 (Q0 (.sl x9n 4 x9)), Q18 36 x36, Q18 37 x37], [Q75 0 1 h0_0l 2 h0_1l, Q70 1 h1, Q63 2 h2, Q108 3 1 h3_0, Q103 4 4 h4_0 h4_1 h4_2 4 h4_3, Q77 5 4 h5_0 h5_1 h5_2], 6⟩ =
  (br (decide ((x37 : Int) < x36)) (br ((h4_0 : Int) == (6 : Int)) (br ((x37 : Int) == (0 : Int)) (Q71 68 4 r Hs' 1 [Q54 0 0 2, Q54 2 3 1, Q115 4 4, Q115 6 5, Q5 9 (Q0 (.sl x9n 4 x9)), Q18 36 x36, Q18 37 (IntKind.wrap .i64 (x37 + 1))] [Q75 0 1 h0_0l 2 h0_1l, Q70 1 h1, Q63 2 h2, Q108 3 1 h3_0, Q103 4 4 h4_0 h4_1 h4_2 4 h4_3, Q77 5 4 h5_0 h5_1 h5_2] 6) (((FV.isSl 4 (.sl x9n 4 x9) = true) ∧ ((0 ≤ x37) ∧ ((x37 < (length x9 : Int)) ∧ (((rE (getD x9 (toNat x37) [])) : List FV) = (getD x9 (toNat x37) []))))) ∧ (∃ z1 : Tm × Int × Int, ((Q79 68 (Q89 0 2 (aE (getD x9 (toNat x37) [])) (Q85 3 1)) [Q37 1 h0_0l 2 h0_1l, Q22 h1, Q21 h2, Q94 h3_0] (Q126 (cT z1.1) z1.2.1) [Q37 1 h0_0l 2 h0_1l, Q22 h1, Q21 h2, Q94 z1.2.2]) ∧ (((FV.isSl 4 (.sl x9n 4 x9) = true) ∧ ((0 ≤ x37) ∧ ((x37 < (length x9 : Int)) ∧ (((rE (getD x9 (toNat x37) [])) : List FV) = (getD x9 (toNat x37) []))))) ∧ False))))) (((FV.isSl 4 (.sl x9n 4 x9) = true) ∧ ((0 ≤ x37) ∧ ((x37 < (length x9 : Int)) ∧ (((rE (getD x9 (toNat x37) [])) : List FV) = (getD x9 (toNat x37) []))))) ∧ (∃ z2 : Tm × Int × Int, ((Q79 68 (Q89 0 2 (aE (getD x9 (toNat x37) [])) (Q85 3 1)) [Q37 1 h0_0l 2 h0_1l, Q22 h1, Q21 h2, Q94 h3_0] (Q126 (cT z2.1) z2.2.1) [Q37 1 h0_0l 2 h0_1l, Q22 h1, Q21 h2, Q94 z2.2.2]) ∧ (((FV.isSl 4 (.sl x9n 4 x9) = true) ∧ ((0 ≤ x37) ∧ ((x37 < (length x9 : Int)) ∧ (((rE (getD x9 (toNat x37) [])) : List FV) = (getD x9 (toNat x37) []))))) ∧ False))))) (Q49 (Q126 (Q14 h4_0 h4_1 h4_2 (Q0 (.sl x9n 4 x9))) 0) [Q37 1 h0_0l 2 h0_1l, Q22 h1, Q21 h2, Q94 h3_0] r Hs')) := by kernel_rfl
theorem v68_1b (x9l : Nat) (x36 x37 : Int) (h0_0l h0_1l : Nat) (h1 h2 : RW) (h3_0 h4_0 : Int) (h4_1 : List UInt8) (h4_2 : Int) (h4_3 : RW) (h5_0 : Int) (h5_1 : List UInt8) (h5_2 : Int) (h6 : RW) (r : TV) (Hs' : List AObj) : VQ lv68 68 4 r Hs' 1 ⟨[Q54 0 0 2, Q54 2 3 1, Q115 4 4, Q115 6 5, Q90 9 6 4 0 x9l, Q18 36 x36, Q18 37 x37], [Q75 0 1 h0_0l 2 h0_1l, Q70 1 h1, Q63 2 h2, Q108 3 1 h3_0, Q103 4 4 h4_0 h4_1 h4_2 4 h4_3, Q77 5 4 h5_0 h5_1 h5_2, Q67 6 4 h6], 7⟩ =
  (br (decide ((x37 : Int) < x36)) (br ((h4_0 : Int) == (6 : Int)) (br ((x37 : Int) == (0 : Int)) (Q71 68 4 r Hs' 1 [Q54 0 0 2, Q54 2 3 1, Q115 4 4, Q115 6 5, Q90 9 6 4 0 x9l, Q18 36 x36, Q18 37 (IntKind.wrap .i64 (x37 + 1))] [Q75 0 1 h0_0l 2 h0_1l, Q70 1 h1, Q63 2 h2, Q108 3 1 h3_0, Q103 4 4 h4_0 h4_1 h4_2 4 h4_3, Q77 5 4 h5_0 h5_1 h5_2, Q67 6 4 h6] 7) ((0 ≤ x37 ∧ x37 < (x9l : Int)) ∧ ((((0 + (toNat x37)) < (length h6)) ∧ ((((rE (getD h6 (0 + (toNat x37)) [])) : List FV) = (take 4 (drop 0 (getD h6 (0 + (toNat x37)) [])))) ∧ ((4 : Nat) = 4))) ∧ (∃ z1 : Tm × Int × Int, ((Q79 68 (Q89 0 2 (aE (getD h6 (0 + (toNat x37)) [])) (Q85 3 1)) [Q37 1 h0_0l 2 h0_1l, Q22 h1, Q21 h2, Q94 h3_0] (Q126 (cT z1.1) z1.2.1) [Q37 1 h0_0l 2 h0_1l, Q22 h1, Q21 h2, Q94 z1.2.2]) ∧ ((0 ≤ x37 ∧ x37 < (x9l : Int)) ∧ (((0 + (toNat x37)) < (length h6) ∧ (length (getD h6 (0 + (toNat x37)) [])) = 4) ∧ (br ((z1.2.1 : Int) != (0 : Int)) (Q49 (Q126 (Q50 0 [] 0) z1.2.1) [Q37 1 h0_0l 2 h0_1l, Q22 h1, Q21 h2, Q94 z1.2.2] r Hs') (Q71 68 4 r Hs' 1 [Q54 0 0 2, Q54 2 3 1, Q115 4 4, Q115 6 5, Q90 9 6 4 0 x9l, Q18 36 x36, Q18 37 (IntKind.wrap .i64 (x37 + 1))] [Q75 0 1 h0_0l 2 h0_1l, Q70 1 h1, Q63 2 h2, Q108 3 1 z1.2.2, Q103 4 4 h4_0 h4_1 h4_2 4 h4_3, Q77 5 4 h5_0 h5_1 h5_2, Q67 6 4 (List.set h6 (0 + (toNat x37)) (FT4 z1.1))] 7))))))))) ((0 ≤ x37 ∧ x37 < (x9l : Int)) ∧ ((((0 + (toNat x37)) < (length h6)) ∧ ((((rE (getD h6 (0 + (toNat x37)) [])) : List FV) = (take 4 (drop 0 (getD h6 (0 + (toNat x37)) [])))) ∧ ((4 : Nat) = 4))) ∧ (∃ z2 : Tm × Int × Int, ((Q79 68 (Q89 0 2 (aE (getD h6 (0 + (toNat x37)) [])) (Q85 3 1)) [Q37 1 h0_0l 2 h0_1l, Q22 h1, Q21 h2, Q94 h3_0] (Q126 (cT z2.1) z2.2.1) [Q37 1 h0_0l 2 h0_1l, Q22 h1, Q21 h2, Q94 z2.2.2]) ∧ ((0 ≤ x37 ∧ x37 < (x9l : Int)) ∧ (((0 + (toNat x37)) < (length h6) ∧ (length (getD h6 (0 + (toNat x37)) [])) = 4) ∧ (br ((z2.2.1 : Int) != (0 : Int)) (Q49 (Q126 (Q50 0 [] 0) z2.2.1) [Q37 1 h0_0l 2 h0_1l, Q22 h1, Q21 h2, Q94 z2.2.2] r Hs') (Q71 68 4 r Hs' 1 [Q54 0 0 2, Q54 2 3 1, Q115 4 4, Q115 6 5, Q90 9 6 4 0 x9l, Q18 36 x36, Q18 37 (IntKind.wrap .i64 (x37 + 1))] [Q75 0 1 h0_0l 2 h0_1l, Q70 1 h1, Q63 2 h2, Q108 3 1 z2.2.2, Q103 4 4 h4_0 h4_1 h4_2 4 h4_3, Q77 5 4 h5_0 h5_1 h5_2, Q67 6 4 (List.set h6 (0 + (toNat x37)) (FT4 z2.1))] 7))))))))) ((((4 : Nat) = 4 ∧ (0 + x9l) ≤ (length h6)) ∧ True) ∧ (Q49 (Q126 (Q20 h4_0 h4_1 h4_2 4 (take x9l (drop 0 h6))) 0) [Q37 1 h0_0l 2 h0_1l, Q22 h1, Q21 h2, Q94 h3_0] r Hs'))) := by kernel_rfl
def lv104 : List (Nat × List Nat) := []
theorem v104 (body_0 : Int) (body_1 : List UInt8) (body_2 : Int) (body_3 : RW) (r : TV) (Hs' : List AObj) : VE lv104 104 0 r Hs' [Q76 body_0 body_1 body_2 body_3] [] =
  ((FV.isSl 4 (Q4 4 body_3) = true) ∧ (br ((body_0 : Int) != (6 : Int)) (Q49 (Q105 (Q50 0 [] 0) false) [] r Hs') (((FV.isSl 4 (Q4 4 body_3) = true) ∧ ((0 ≤ (IntKind.wrap .i64 ((length body_3 : Int) - (1 : Int)))) ∧ (((IntKind.wrap .i64 ((length body_3 : Int) - (1 : Int))) < (length body_3 : Int)) ∧ (((rE (getD body_3 (toNat (IntKind.wrap .i64 ((length body_3 : Int) - (1 : Int)))) [])) : List FV) = (getD body_3 (toNat (IntKind.wrap .i64 ((length body_3 : Int) - (1 : Int)))) []))))) ∧ (br (((FV.asI (getD (getD body_3 (toNat (IntKind.wrap .i64 ((length body_3 : Int) - (1 : Int)))) []) 0 FV.nils)) : Int) != (3 : Int)) (Q49 (Q105 (Q50 0 [] 0) false) [] r Hs') (((FV.isSl 4 (Q4 4 body_3) = true) ∧ ((0 ≤ (IntKind.wrap .i64 ((length body_3 : Int) - (1 : Int)))) ∧ (((IntKind.wrap .i64 ((length body_3 : Int) - (1 : Int))) < (length body_3 : Int)) ∧ (((rE (getD body_3 (toNat (IntKind.wrap .i64 ((length body_3 : Int) - (1 : Int)))) [])) : List FV) = (getD body_3 (toNat (IntKind.wrap .i64 ((length body_3 : Int) - (1 : Int)))) []))))) ∧ (br (((FV.asI (getD (getD body_3 (toNat (IntKind.wrap .i64 ((length body_3 : Int) - (1 : Int)))) []) 2 FV.nils)) : Int) != (0 : Int)) (Q49 (Q105 (Q50 0 [] 0) false) [] r Hs') (((FV.isSl 4 (Q4 4 body_3) = true) ∧ ((0 ≤ (0 : Int)) ∧ (((0 : Int) < (length body_3 : Int)) ∧ (((rE (getD body_3 0 [])) : List FV) = (getD body_3 0 []))))) ∧ ((FV.isSl 4 (Q4 4 body_3) = true) ∧ (((0 ≤ (1 : Int)) ∧ (((1 : Int) ≤ (IntKind.wrap .i64 ((length body_3 : Int) - (1 : Int)))) ∧ ((IntKind.wrap .i64 ((length body_3 : Int) - (1 : Int))) ≤ (length body_3 : Int)))) ∧ (∃ z1 : Tm, ((Q59 24 [(aE (getD body_3 0 [])), Q69 4 (drop 1 (take (toNat (IntKind.wrap .i64 ((length body_3 : Int) - (1 : Int)))) body_3))] (aT z1)) ∧ (∃ b2 : Bool, ((Q66 130 (Q113 (aT z1) 0) b2) ∧ (br b2 (Q49 (Q105 (Q50 0 [] 0) false) [] r Hs') (∃ z3 : Tm, ((Q59 131 [(aT z1), Q25 0, Q25 (-1 : Int)] (aT z3)) ∧ (Q49 (Q105 (cT z3) true) [] r Hs'))))))))))))))))) := by kernel_rfl
def lv52 : List (Nat × List Nat) := []
theorem v52 (v_0 : Int) (v_1 : List UInt8) (v_2 : Int) (v_3 : RW) (o0_0 : Int) (o0_1 : List UInt8) (o0_2 : Int) (o0_3 : RW) (r : TV) (Hs' : List AObj) : VE lv52 52 1 r Hs' [Q76 v_0 v_1 v_2 v_3, Q85 0 4] [Q111 4 o0_0 o0_1 o0_2 4 o0_3] =
  (∃ b1 : Bool, ((Q66 53 [Q76 v_0 v_1 v_2 v_3, Q76 o0_0 o0_1 o0_2 o0_3] b1) ∧ (Q56 b1 [Q111 4 o0_0 o0_1 o0_2 4 o0_3] r Hs'))) := by kernel_rfl
def lv61 : List (Nat × List Nat) := []
theorem v61 (u_0 : Int) (u_1 : List UInt8) (u_2 : Int) (u_3 : RW) (r : TV) (Hs' : List AObj) : VE lv61 61 0 r Hs' [Q76 u_0 u_1 u_2 u_3] [] =
  (∃ b1 : Bool, ((Q66 62 [Q76 u_0 u_1 u_2 u_3] b1) ∧ (Q86 (!b1) r Hs'))) := by kernel_rfl
theorem v83_F124 (s : RW) (o0_0 : Int) (o0_1 : List UInt8) (o0_2 : Int) (o0_3 : RW) (r : TV) (Hs' : List AObj) : VE lv83 83 1 r Hs' (Q127 4 s (.fn (.func 124) [] [(false, [(Q118 0 4)])])) [Q111 4 o0_0 o0_1 o0_2 4 o0_3] =
  ((FV.isSl 4 (Q4 4 s) = true) ∧ (Q71 83 1 r Hs' 1 (Q128 (Q62 0 4 s) 1 (.fn (.func 124) [] [(false, [(Q118 0 4)])]) 7 (length s : Int) 8 0) [Q103 0 4 o0_0 o0_1 o0_2 4 o0_3] 1)) := by kernel_rfl
theorem zbe (x0 : RW) (x7 x8 h0_0 : Int) (h0_1 : List UInt8) (h0_2 : Int) (h0_3 : RW) (r : TV) (Hs' : List AObj) : VQ lv83 83 1 r Hs' 1 ⟨Q128 (Q62 0 4 x0) 1 (.fn (.func 124) [] [(false, [(Q118 0 4)])]) 7 x7 8 x8, [Q103 0 4 h0_0 h0_1 h0_2 4 h0_3], 1⟩ =
  (br (decide ((x8 : Int) < x7)) (((FV.isSl 4 (Q4 4 x0) = true) ∧ ((0 ≤ x8) ∧ ((x8 < (length x0 : Int)) ∧ (((rE (getD x0 (toNat x8) [])) : List FV) = (getD x0 (toNat x8) []))))) ∧ (∃ b1 : Bool, ((Q10 124 [(aE (getD x0 (toNat x8) [])), Q85 0 4] [Q111 4 h0_0 h0_1 h0_2 4 h0_3] (Q32 b1) [Q111 4 h0_0 h0_1 h0_2 4 h0_3]) ∧ (br b1 (Q73 x8 [Q111 4 h0_0 h0_1 h0_2 4 h0_3] r Hs') (Q71 83 1 r Hs' 1 (Q128 (Q62 0 4 x0) 1 (.fn (.func 124) [] [(false, [(Q118 0 4)])]) 7 x7 8 (IntKind.wrap .i64 (x8 + 1))) [Q103 0 4 h0_0 h0_1 h0_2 4 h0_3] 1))))) (Q73 (-1 : Int) [Q111 4 h0_0 h0_1 h0_2 4 h0_3] r Hs')) := by kernel_rfl
def lv69 : List (Nat × List Nat) := []
theorem v69 (u_0 : Int) (u_1 : List UInt8) (u_2 : Int) (u_3 : RW) (k o0_0 : Int) (r : TV) (Hs' : List AObj) : VE lv69 69 1 r Hs' [Q76 u_0 u_1 u_2 u_3, Q25 k, Q85 0 1] [Q94 o0_0] =
  (br ((u_0 : Int) == (3 : Int)) (Q49 [] [Q94 (z0o [o0_0, (IntKind.wrap .i64 ((IntKind.wrap .i64 (u_2 - k)) + (1 : Int)))])] r Hs') (Q49 [] [Q94 o0_0] r Hs')) := by kernel_rfl
def lv165 : List (Nat × List Nat) := []
theorem v165 (body_0 : Int) (body_1 : List UInt8) (body_2 : Int) (body_3 : RW) (arg_0 : Int) (arg_1 : List UInt8) (arg_2 : Int) (arg_3 : RW) (r : TV) (Hs' : List AObj) : VE lv165 165 0 r Hs' [Q76 body_0 body_1 body_2 body_3, Q76 arg_0 arg_1 arg_2 arg_3] [] =
  (∃ n1 : Int, ((Q59 172 [Q76 body_0 body_1 body_2 body_3] (Q25 n1)) ∧ (∃ n2 : Int, ((Q59 166 (Q113 (Q76 body_0 body_1 body_2 body_3) 0) (Q25 n2)) ∧ (∃ n3 : Int, ((Q59 172 [Q76 arg_0 arg_1 arg_2 arg_3] (Q25 n3)) ∧ (br (decide (((IntKind.wrap .i64 (n1 + (IntKind.wrap .i64 (n2 * n3)))) : Int) > (4096 : Int))) (Q49 (Q126 (Q50 0 [] 0) 80) [] r Hs') (∃ z4 : Tm, ((Q59 173 [Q76 body_0 body_1 body_2 body_3, Q25 0, Q76 arg_0 arg_1 arg_2 arg_3] (aT z4)) ∧ (Q49 (Q126 (cT z4) 0) [] r Hs')))))))))) := by kernel_rfl
def lv130 : List (Nat × List Nat) := []
theorem v130 (t_0 : Int) (t_1 : List UInt8) (t_2 : Int) (t_3 : RW) (i : Int) (r : TV) (Hs' : List AObj) : VE lv130 130 0 r Hs' (Q113 (Q76 t_0 t_1 t_2 t_3) i) [] =
  (∃ n1 : Int, ((Q59 148 (Q113 (Q76 t_0 t_1 t_2 t_3) i) (Q25 n1)) ∧ (Q86 (decide ((n1 : Int) > (0 : Int))) r Hs'))) := by kernel_rfl
def lv53 : List (Nat × List Nat) := []
theorem v53 (a_0 : Int) (a_1 : List UInt8) (a_2 : Int) (a_3 : RW) (b_0 : Int) (b_1 : List UInt8) (b_2 : Int) (b_3 : RW) (r : TV) (Hs' : List AObj) : VE lv53 53 0 r Hs' [Q76 a_0 a_1 a_2 a_3, Q76 b_0 b_1 b_2 b_3] [] =
  (br ((a_0 : Int) == b_0) (Q86 ((a_2 : Int) == b_2) r Hs') (Q96 r Hs')) := by kernel_rfl
def lv62 : List (Nat × List Nat) := []
theorem v62 (t_0 : Int) (t_1 : List UInt8) (t_2 : Int) (t_3 : RW) (r : TV) (Hs' : List AObj) : VE lv62 62 0 r Hs' [Q76 t_0 t_1 t_2 t_3] [] =
  (∃ b1 : Bool, ((Q66 20 [Q76 t_0 t_1 t_2 t_3] b1) ∧ (br b1 (br ((t_0 : Int) == (3 : Int)) (Q86 true r Hs') (Q86 ((t_0 : Int) == (1 : Int)) r Hs')) (Q96 r Hs')))) := by kernel_rfl
def lv124 : List (Nat × List Nat) := []
theorem v124 (u_0 : Int) (u_1 : List UInt8) (u_2 : Int) (u_3 : RW) (o0_0 : Int) (o0_1 : List UInt8) (o0_2 : Int) (o0_3 : RW) (r : TV) (Hs' : List AObj) : VE lv124 124 1 r Hs' [Q76 u_0 u_1 u_2 u_3, Q85 0 4] [Q111 4 o0_0 o0_1 o0_2 4 o0_3] =
  (∃ b1 : Bool, ((Q66 53 [Q76 u_0 u_1 u_2 u_3, Q76 o0_0 o0_1 o0_2 o0_3] b1) ∧ (Q56 b1 [Q111 4 o0_0 o0_1 o0_2 4 o0_3] r Hs'))) := by kernel_rfl
def zpx : List (Nat × List Nat) := [(1, [3, 13, 14, 15])]
theorem v172 (t_0 : Int) (t_1 : List UInt8) (t_2 : Int) (t_3 : RW) (r : TV) (Hs' : List AObj) : VE zpx 172 0 r Hs' [Q76 t_0 t_1 t_2 t_3] [] =
  (∃ y1 : FV, (∃ n2 : Int, ((Q59 88 [Q76 t_0 t_1 t_2 t_3] (.tup [Q19 [Q0 y1], Q30 n2])) ∧ ((FV.isSl 4 y1 = true) ∧ (Q71 172 0 r Hs' 1 (Q128 (Q18 3 1) 13 (Q0 y1) 14 (length (FV.ses y1) : Int) 15 0) [] 0))))) := by kernel_rfl
theorem zqa (x3 : Int) (x13 : FV) (x14 x15 : Int) (r : TV) (Hs' : List AObj) : VQ zpx 172 0 r Hs' 1 ⟨Q128 (Q18 3 x3) 13 (Q0 x13) 14 x14 15 x15, [], 0⟩ =
  (br (decide ((x15 : Int) < x14)) (((FV.isSl 4 x13 = true) ∧ ((0 ≤ x15) ∧ ((x15 < (length (FV.ses x13) : Int)) ∧ (((rE (getD (FV.ses x13) (toNat x15) [])) : List FV) = (getD (FV.ses x13) (toNat x15) []))))) ∧ (∃ n1 : Int, ((Q59 172 [(aE (getD (FV.ses x13) (toNat x15) []))] (Q25 n1)) ∧ (Q71 172 0 r Hs' 1 (Q128 (Q18 3 (IntKind.wrap .i64 (x3 + n1))) 13 (Q0 x13) 14 x14 15 (IntKind.wrap .i64 (x15 + 1))) [] 0)))) (Q73 x3 [] r Hs')) := by kernel_rfl
def zp8 : List (Nat × List Nat) := [(3, [1, 5, 21, 22, 23])]
theorem v166 (t_0 : Int) (t_1 : List UInt8) (t_2 : Int) (t_3 : RW) (i : Int) (r : TV) (Hs' : List AObj) : VE zp8 166 0 r Hs' (Q113 (Q76 t_0 t_1 t_2 t_3) i) [] =
  (br ((t_0 : Int) == (3 : Int)) (br ((t_2 : Int) == i) (Q73 1 [] r Hs') ((FV.isSl 4 (Q4 4 t_3) = true) ∧ (Q71 166 0 r Hs' 3 [Q18 1 i, Q18 5 0, Q62 21 4 t_3, Q18 22 (length t_3 : Int), Q18 23 0] [] 0))) (br ((t_0 : Int) == (5 : Int)) ((FV.isSl 4 (Q4 4 t_3) = true) ∧ (Q71 166 0 r Hs' 3 [Q18 1 (IntKind.wrap .i64 (i + 1)), Q18 5 0, Q62 21 4 t_3, Q18 22 (length t_3 : Int), Q18 23 0] [] 0)) ((FV.isSl 4 (Q4 4 t_3) = true) ∧ (Q71 166 0 r Hs' 3 [Q18 1 i, Q18 5 0, Q62 21 4 t_3, Q18 22 (length t_3 : Int), Q18 23 0] [] 0)))) := by kernel_rfl
theorem zr8 (x1 x5 : Int) (x21 : RW) (x22 x23 : Int) (r : TV) (Hs' : List AObj) : VQ zp8 166 0 r Hs' 3 ⟨[Q18 1 x1, Q18 5 x5, Q62 21 4 x21, Q18 22 x22, Q18 23 x23], [], 0⟩ =
  (br (decide ((x23 : Int) < x22)) (((FV.isSl 4 (Q4 4 x21) = true) ∧ ((0 ≤ x23) ∧ ((x23 < (length x21 : Int)) ∧ (((rE (getD x21 (toNat x23) [])) : List FV) = (getD x21 (toNat x23) []))))) ∧ (∃ n1 : Int, ((Q59 166 (Q113 (aE (getD x21 (toNat x23) [])) x1) (Q25 n1)) ∧ (Q71 166 0 r Hs' 3 [Q18 1 x1, Q18 5 (IntKind.wrap .i64 (x5 + n1)), Q62 21 4 x21, Q18 22 x22, Q18 23 (IntKind.wrap .i64 (x23 + 1))] [] 0)))) (Q73 x5 [] r Hs')) := by kernel_rfl
def lv173 : List (Nat × List Nat) := []
theorem v173 (t_0 : Int) (t_1 : List UInt8) (t_2 : Int) (t_3 : RW) (i s_0 : Int) (s_1 : List UInt8) (s_2 : Int) (s_3 : RW) (r : TV) (Hs' : List AObj) : VE lv173 173 0 r Hs' [Q76 t_0 t_1 t_2 t_3, Q25 i, Q76 s_0 s_1 s_2 s_3] [] =
  (∃ z1 : Tm, ((Q10 151 [.agg [(.fn (.func 176) [] [(false, [(Q119 0)]), (false, [(Q118 1 4)])])], Q76 t_0 t_1 t_2 t_3, Q25 0] (Q120 i (Q111 4 s_0 s_1 s_2 4 s_3)) (aT z1) (Q120 i (Q111 4 s_0 s_1 s_2 4 s_3))) ∧ (RT (aT z1) [] r Hs'))) := by kernel_rfl
def lv148 : List (Nat × List Nat) := []
theorem v148 (t_0 : Int) (t_1 : List UInt8) (t_2 : Int) (t_3 : RW) (i : Int) (r : TV) (Hs' : List AObj) : VE lv148 148 0 r Hs' (Q113 (Q76 t_0 t_1 t_2 t_3) i) [] =
  (∃ b1 : Bool, ((Q66 20 [Q76 t_0 t_1 t_2 t_3] b1) ∧ (br (!b1) (Q73 0 [] r Hs') (∃ n2 : Int, ((Q59 166 (Q113 (Q76 t_0 t_1 t_2 t_3) i) (Q25 n2)) ∧ (Q73 n2 [] r Hs')))))) := by kernel_rfl
theorem zr5 (t_0 : Int) (t_1 : List UInt8) (t_2 : Int) (t_3 : RW) (k o0_0 o1_0 : Int) (o1_1 : List UInt8) (o1_2 : Int) (o1_3 : RW) (r : TV) (Hs' : List AObj) : VE z6p 151 2 r Hs' [.agg [(.fn (.func 176) [] [(false, [(Q119 0)]), (false, [(Q118 1 4)])])], Q76 t_0 t_1 t_2 t_3, Q25 k] (Q120 o0_0 (Q111 4 o1_0 o1_1 o1_2 4 o1_3)) =
  (br ((t_0 : Int) != (5 : Int)) (br ((t_0 : Int) != (6 : Int)) (∃ z1 : Tm, ((Q10 176 [Q76 t_0 t_1 t_2 t_3, Q25 k, Q85 0 1, Q85 1 4] (Q120 o0_0 (Q111 4 o1_0 o1_1 o1_2 4 o1_3)) (aT z1) (Q120 o0_0 (Q111 4 o1_0 o1_1 o1_2 4 o1_3))) ∧ (RT (aT z1) (Q120 o0_0 (Q111 4 o1_0 o1_1 o1_2 4 o1_3)) r Hs'))) (∃ y2 : FV, (∃ n3 : Int, ((Q59 88 [Q76 t_0 t_1 t_2 t_3] (.tup [Q19 [Q0 y2], Q30 n3])) ∧ ((FV.isSl 4 y2 = true) ∧ (Q71 151 2 r Hs' 1 [Q18 2 k, Q54 3 2 1, Q115 4 3, Q115 6 4, Q5 7 (Q0 y2), Q18 8 n3, Q114 9, Q5 30 (Q0 y2), Q18 31 (length (FV.ses y2) : Int), Q18 32 0] [Q108 0 1 o0_0, Q103 1 4 o1_0 o1_1 o1_2 4 o1_3, Q26 2 1 [(.fn (.func 176) [] [(false, [(Q119 0)]), (false, [(Q118 1 4)])])], Q103 3 4 t_0 t_1 t_2 4 t_3, Q77 4 4 0 [] 0] 5)))))) (∃ y4 : FV, (∃ n5 : Int, ((Q59 88 [Q76 t_0 t_1 t_2 t_3] (.tup [Q19 [Q0 y4], Q30 n5])) ∧ ((FV.isSl 4 y4 = true) ∧ (Q71 151 2 r Hs' 1 [Q18 2 k, Q54 3 2 1, Q115 4 3, Q115 6 4, Q5 7 (Q0 y4), Q18 8 n5, Q114 9, Q5 30 (Q0 y4), Q18 31 (length (FV.ses y4) : Int), Q18 32 0] [Q108 0 1 o0_0, Q103 1 4 o1_0 o1_1 o1_2 4 o1_3, Q26 2 1 [(.fn (.func 176) [] [(false, [(Q119 0)]), (false, [(Q118 1 4)])])], Q103 3 4 t_0 t_1 t_2 4 t_3, Q77 4 4 0 [] 0] 5)))))) := by kernel_rfl
theorem z9l (x2 : Int) (x7 : FV) (x8 : Int) (x30 : FV) (x31 x32 h0_0 h1_0 : Int) (h1_1 : List UInt8) (h1_2 : Int) (h1_3 : RW) (h3_0 : Int) (h3_1 : List UInt8) (h3_2 : Int) (h3_3 : RW) (h4_0 : Int) (h4_1 : List UInt8) (h4_2 : Int) (r : TV) (Hs' : List AObj) : VQ z6p 151 2 r Hs' 1 ⟨[Q18 2 x2, Q54 3 2 1, Q115 4 3, Q115 6 4, Q5 7 (Q0 x7), Q18 8 x8, Q114 9, Q5 30 (Q0 x30), Q18 31 x31, Q18 32 x32], [Q108 0 1 h0_0, Q103 1 4 h1_0 h1_1 h1_2 4 h1_3, Q26 2 1 [(.fn (.func 176) [] [(false, [(Q119 0)]), (false, [(Q118 1 4)])])], Q103 3 4 h3_0 h3_1 h3_2 4 h3_3, Q77 4 4 h4_0 h4_1 h4_2], 5⟩ =
  (br (decide ((x32 : Int) < x31)) (((FV.isSl 4 x30 = true) ∧ ((0 ≤ x32) ∧ ((x32 < (length (FV.ses x30) : Int)) ∧ (((rE (getD (FV.ses x30) (toNat x32) [])) : List FV) = (getD (FV.ses x30) (toNat x32) []))))) ∧ (∃ z1 : Tm, ((Q10 151 [.agg [(.fn (.func 176) [] [(false, [(Q119 0)]), (false, [(Q118 1 4)])])], (aE (getD (FV.ses x30) (toNat x32) [])), Q25 (IntKind.wrap .i64 (x2 + x8))] (Q120 h0_0 (Q111 4 h1_0 h1_1 h1_2 4 h1_3)) (aT z1) (Q120 h0_0 (Q111 4 h1_0 h1_1 h1_2 4 h1_3))) ∧ ((1 ≤ 1) ∧ ((z0i 1 56) ∧ (Q71 151 2 r Hs' 1 [Q18 2 x2, Q54 3 2 1, Q115 4 3, Q115 6 4, Q5 7 (Q0 x7), Q18 8 x8, Q90 9 5 4 0 1, Q5 30 (Q0 x30), Q18 31 x31, Q18 32 (IntKind.wrap .i64 (x32 + 1))] [Q108 0 1 h0_0, Q103 1 4 h1_0 h1_1 h1_2 4 h1_3, Q26 2 1 [(.fn (.func 176) [] [(false, [(Q119 0)]), (false, [(Q118 1 4)])])], Q103 3 4 h3_0 h3_1 h3_2 4 h3_3, Q77 4 4 h4_0 h4_1 h4_2, Q67 5 4 [(FT4 z1)]] 6)))))) (br ((h3_0 : Int) == (6 : Int)) ((FV.isSl 4 .nils = true) ∧ (RT (.agg (Q50 h3_0 h3_1 h3_2)) (Q120 h0_0 (Q111 4 h1_0 h1_1 h1_2 4 h1_3)) r Hs')) (RT (.agg (Q50 h3_0 h3_1 h3_2)) (Q120 h0_0 (Q111 4 h1_0 h1_1 h1_2 4 h1_3)) r Hs'))) := by kernel_rfl
theorem z9g (x2 : Int) (x7 : FV) (x8 : Int) (x9l : Nat) (x30 : FV) (x31 x32 h0_0 h1_0 : Int) (h1_1 : List UInt8) (h1_2 : Int) (h1_3 : RW) (h3_0 : Int) (h3_1 : List UInt8) (h3_2 : Int) (h3_3 : RW) (h4_0 : Int) (h4_1 : List UInt8) (h4_2 : Int) (h5 : RW) (r : TV) (Hs' : List AObj) : VQ z6p 151 2 r Hs' 1 ⟨[Q18 2 x2, Q54 3 2 1, Q115 4 3, Q115 6 4, Q5 7 (Q0 x7), Q18 8 x8, Q90 9 5 4 0 x9l, Q5 30 (Q0 x30), Q18 31 x31, Q18 32 x32], [Q108 0 1 h0_0, Q103 1 4 h1_0 h1_1 h1_2 4 h1_3, Q26 2 1 [(.fn (.func 176) [] [(false, [(Q119 0)]), (false, [(Q118 1 4)])])], Q103 3 4 h3_0 h3_1 h3_2 4 h3_3, Q77 4 4 h4_0 h4_1 h4_2, Q67 5 4 h5], 6⟩ =
  (br (decide ((x32 : Int) < x31)) (((FV.isSl 4 x30 = true) ∧ ((0 ≤ x32) ∧ ((x32 < (length (FV.ses x30) : Int)) ∧ (((rE (getD (FV.ses x30) (toNat x32) [])) : List FV) = (getD (FV.ses x30) (toNat x32) []))))) ∧ (∃ z1 : Tm, ((Q10 151 [.agg [(.fn (.func 176) [] [(false, [(Q119 0)]), (false, [(Q118 1 4)])])], (aE (getD (FV.ses x30) (toNat x32) [])), Q25 (IntKind.wrap .i64 (x2 + x8))] (Q120 h0_0 (Q111 4 h1_0 h1_1 h1_2 4 h1_3)) (aT z1) (Q120 h0_0 (Q111 4 h1_0 h1_1 h1_2 4 h1_3))) ∧ ((1 ≤ 1) ∧ ((x9l ≤ (length h5) ∧ z0i (x9l + 1) 56) ∧ (Q71 151 2 r Hs' 1 [Q18 2 x2, Q54 3 2 1, Q115 4 3, Q115 6 4, Q5 7 (Q0 x7), Q18 8 x8, Q90 9 5 4 0 (x9l + 1), Q5 30 (Q0 x30), Q18 31 x31, Q18 32 (IntKind.wrap .i64 (x32 + 1))] [Q108 0 1 h0_0, Q103 1 4 h1_0 h1_1 h1_2 4 h1_3, Q26 2 1 [(.fn (.func 176) [] [(false, [(Q119 0)]), (false, [(Q118 1 4)])])], Q103 3 4 h3_0 h3_1 h3_2 4 h3_3, Q77 4 4 h4_0 h4_1 h4_2, Q67 5 4 ((take x9l h5) ++ [(FT4 z1)])] 6)))))) (br ((h3_0 : Int) == (6 : Int)) (br (decide (((x9l : Int) : Int) > (1 : Int))) ((0 ≤ (0 : Int) ∧ (0 : Int) < (x9l : Int)) ∧ (((0 < (length h5)) ∧ ((([(Q1 (FV.asI (getD (getD h5 0 []) 0 FV.nils)))] : List FV) = (take 1 (drop 0 (getD h5 0 [])))) ∧ ((1 : Nat) = 1))) ∧ (br (((FV.asI (getD (getD h5 0 []) 0 FV.nils)) : Int) == (6 : Int)) (((FV.isSl 4 x7 = true) ∧ ((0 ≤ (0 : Int)) ∧ (((0 : Int) < (length (FV.ses x7) : Int)) ∧ (((rE (getD (FV.ses x7) 0 [])) : List FV) = (getD (FV.ses x7) 0 []))))) ∧ (br (((FV.asI (getD (getD (FV.ses x7) 0 []) 0 FV.nils)) : Int) != (6 : Int)) ((0 ≤ (0 : Int) ∧ (0 : Int) < (x9l : Int)) ∧ (((0 < (length h5)) ∧ ((((rE (getD h5 0 [])) : List FV) = (take 4 (drop 0 (getD h5 0 [])))) ∧ ((4 : Nat) = 4))) ∧ (((0 ≤ (1 : Int)) ∧ (((1 : Int) ≤ (x9l : Int)) ∧ ((x9l : Int) ≤ (x9l : Int)))) ∧ (((4 : Nat) = 4 ∧ (1 + ((toNat (x9l : Int)) - 1)) ≤ (length h5)) ∧ (∃ z2 : Tm, ((Q59 24 [(aE (getD h5 0 [])), Q69 4 (take ((toNat (x9l : Int)) - 1) (drop 1 h5))] (aT z2)) ∧ (RT (aT z2) (Q120 h0_0 (Q111 4 h1_0 h1_1 h1_2 4 h1_3)) r Hs'))))))) (((4 : Nat) = 4 ∧ (0 + x9l) ≤ (length h5)) ∧ (RT (Q76 h3_0 h3_1 h3_2 (take x9l (drop 0 h5))) (Q120 h0_0 (Q111 4 h1_0 h1_1 h1_2 4 h1_3)) r Hs')))) (((4 : Nat) = 4 ∧ (0 + x9l) ≤ (length h5)) ∧ (RT (Q76 h3_0 h3_1 h3_2 (take x9l (drop 0 h5))) (Q120 h0_0 (Q111 4 h1_0 h1_1 h1_2 4 h1_3)) r Hs'))))) (((4 : Nat) = 4 ∧ (0 + x9l) ≤ (length h5)) ∧ (RT (Q76 h3_0 h3_1 h3_2 (take x9l (drop 0 h5))) (Q120 h0_0 (Q111 4 h1_0 h1_1 h1_2 4 h1_3)) r Hs'))) (((4 : Nat) = 4 ∧ (0 + x9l) ≤ (length h5)) ∧ (RT (Q76 h3_0 h3_1 h3_2 (take x9l (drop 0 h5))) (Q120 h0_0 (Q111 4 h1_0 h1_1 h1_2 4 h1_3)) r Hs')))) := by kernel_rfl
def lv176 : List (Nat × List Nat) := []
theorem v176 (u_0 : Int) (u_1 : List UInt8) (u_2 : Int) (u_3 : RW) (k o0_0 o1_0 : Int) (o1_1 : List UInt8) (o1_2 : Int) (o1_3 : RW) (r : TV) (Hs' : List AObj) : VE lv176 176 2 r Hs' [Q76 u_0 u_1 u_2 u_3, Q25 k, Q85 0 1, Q85 1 4] (Q120 o0_0 (Q111 4 o1_0 o1_1 o1_2 4 o1_3)) =
  (br ((u_0 : Int) != (3 : Int)) (RT (Q76 u_0 u_1 u_2 u_3) (Q120 o0_0 (Q111 4 o1_0 o1_1 o1_2 4 o1_3)) r Hs') (br (decide ((u_2 : Int) < (IntKind.wrap .i64 (k + o0_0)))) (RT (Q76 u_0 u_1 u_2 u_3) (Q120 o0_0 (Q111 4 o1_0 o1_1 o1_2 4 o1_3)) r Hs') (br ((u_2 : Int) == (IntKind.wrap .i64 (k + o0_0))) (∃ z1 : Tm, ((Q59 131 [Q76 o1_0 o1_1 o1_2 o1_3, Q25 0, Q25 k] (aT z1)) ∧ (RT (aT z1) (Q120 o0_0 (Q111 4 o1_0 o1_1 o1_2 4 o1_3)) r Hs'))) (∃ z2 : Tm, ((Q59 150 (Q113 (Q76 u_0 u_1 u_2 u_3) (-1 : Int)) (aT z2)) ∧ (RT (aT z2) (Q120 o0_0 (Q111 4 o1_0 o1_1 o1_2 4 o1_3)) r Hs')))))) := by kernel_rfl
end Go.AM

set_option maxRecDepth 100000
open Go Go.Proofs

set_option maxRecDepth 100000
open Go Go.Proofs

set_option maxRecDepth 100000
open Go Go.Proofs
namespace Go.AM
def zjy (c : Int) : Bool := decide (97 ≤ c) && decide (c ≤ 122)
def zno (c : Int) : Bool := decide (65 ≤ c) && decide (c ≤ 90) || c == 95
def zod (c : Int) : Bool := decide (48 ≤ c) && decide (c ≤ 57)
def z5w (c : Int) : Bool := zjy c || zno c || zod c || c == 39
def signs : List UInt8 := [43, 45, 42, 47, 60, 62, 61, 38, 124, 94, 126, 64, 35, 36, 63, 58]
def zif (c : Int) : Bool := decide (Lib.indexByte signs c.toNat.toUInt8 ≥ 0)
theorem zn6 (c : Int) : AC Tryz.prog 96 [c8 c] [] (cb (zjy c)) [] := by
 refine AC.vc hP sh lv96 (Nat.le_refl _) (by simp) (by simp) (Eq.mpr (v96 ..) ?_)
 refine z01 (fun h => z06 ?_) (fun h => z06 ?_) <;> simp_all [zjy] <;> omega
theorem c_great (c : Int) : AC Tryz.prog 125 [c8 c] [] (cb (zno c)) [] := by
 refine AC.vc hP sh lv125 (Nat.le_refl _) (by simp) (by simp) (Eq.mpr (v125 ..) ?_)
 refine z01 (fun h => z01 (fun h => z06 ?_) (fun h => z06 ?_)) (fun h => z06 ?_) <;> simp_all [zno] <;> omega
theorem c_digit (c : Int) : AC Tryz.prog 126 [c8 c] [] (cb (zod c)) [] := by
 refine AC.vc hP sh lv126 (Nat.le_refl _) (by simp) (by simp) (Eq.mpr (v126 ..) ?_)
 refine z01 (fun h => z06 ?_) (fun h => z06 ?_) <;> simp_all [zod] <;> omega
theorem c_inside (c : Int) : AC Tryz.prog 98 [c8 c] [] (cb (z5w c)) [] := by
 refine AC.vc hP sh lv98 (Nat.le_refl _) (by simp) (by simp) (Eq.mpr (v98 ..) ?_)
 refine ⟨_, zn6 c, z01 (fun h => z06 ?_) (fun h => ⟨_, c_great c, z01 (fun h => z06 ?_) (fun h => ⟨_, c_digit c, z01 (fun h => z06 ?_) (fun h => z06 ?_)⟩)⟩)⟩ <;> simp_all [z5w]
theorem zgl (s : List UInt8) (c : Int) : AC Tryz.prog 144 [cs s, c8 c] [] (ci (Lib.indexByte s c.toNat.toUInt8)) [] :=
 AC.str_u8 (by kernel_rfl) fun w => Tryz.stringslite_IndexByte ⟨s.toArray⟩ c w
theorem zis (s : List UInt8) (c : Int) : AC Tryz.prog 127 [cs s, c8 c] [] (ci (Lib.indexByte s c.toNat.toUInt8)) [] :=
 AC.str_u8 (by kernel_rfl) fun w => Tryz.strings_IndexByte ⟨s.toArray⟩ c w
theorem c_sign (c : Int) : AC Tryz.prog 99 [c8 c] [] (cb (zif c)) [] := by
 refine AC.vc hP sh lv99 (Nat.le_refl _) (by simp) (by simp) (Eq.mpr (v99 ..) ?_)
 exact ⟨_, zis _ c, z06 rfl⟩
def runN (p : Int → Bool) : List UInt8 → Nat
 | [] => 0
 | c :: s => if p (c.toNat : Int) then runN p s + 1 else 0
theorem zp5 (p : Int → Bool) : ∀ s : List UInt8, runN p s ≤ s.length
 | [] => Nat.le_refl _
 | c :: s => by have := zp5 p s; simp only [runN, List.length_cons]; split <;> omega
theorem zn0 (a : List UInt8) (c : UInt8) (b : List UInt8) : List.getD (a ++ c :: b) (Int.toNat (a.length : Int)) 0 = c := by simp [List.getD]
theorem z9s : ∀ (b a : List UInt8), (a ++ b).length ≤ B → RPt Tryz.prog 97 0 (ci ((a.length : Int) + runN z5w b)) [] 1 ⟨[(0, cs (a ++ b)), (1, .c (.fn (.func 98) [] [])), (7, ci (((a ++ b).length : Nat) : Int)), (8, ci a.length)], [], 0⟩
 | [], a, hl => by
  refine RPt.vc hP sh lv97 (Eq.mpr (zde ..) ?_)
  exact z01 (fun h => absurd h (by simp)) (fun _ => z3o (by simp [runN]))
 | c :: b, a, hl => by
  refine RPt.vc hP sh lv97 (Eq.mpr (zde ..) ?_)
  have hl' := hl
  simp only [List.length_append, List.length_cons, B] at hl'
  refine z01 (fun _ => ⟨⟨by omega, by simp; omega⟩, z5w (c.toNat : Int), ?_, z01 (fun h => z3o ?_) (fun h => ?_)⟩) (fun h => absurd h (by simp; omega))
  · rw [zn0]; exact c_inside _
  · simp_all [runN]
  · have := z9s b (a ++ [c]) (by simpa using hl)
    rw [w64 (by omega) (by omega)]
    simp only [List.append_assoc, List.cons_append, List.nil_append, List.length_append, List.length_cons, List.length_nil, Int.natCast_add, Int.natCast_one, Int.natCast_zero, Int.zero_add] at this
    simp only [Bool.not_eq_false'] at h
    simp only [runN, h, if_true, List.length_append, List.length_cons, Int.natCast_add, Int.natCast_one]
    rw [show (a.length : Int) + ((runN z5w b : Nat) + 1 : Int) = (a.length : Int) + 1 + (runN z5w b : Nat) by omega]
    exact this
theorem zg1 (s : List UInt8) (h : s.length ≤ B) : AC Tryz.prog 97 [cs s, .c (.fn (.func 98) [] [])] [] (ci (runN z5w s)) [] := by
 refine AC.vc hP sh lv97 (Nat.le_refl _) (by simp) (by simp) (Eq.mpr (v97_F98 ..) ?_)
 have := z9s s [] (by simpa using h)
 simpa using this
theorem zcm : ∀ (b a : List UInt8), (a ++ b).length ≤ B → RPt Tryz.prog 97 0 (ci ((a.length : Int) + runN zif b)) [] 1 ⟨[(0, cs (a ++ b)), (1, .c (.fn (.func 99) [] [])), (7, ci (((a ++ b).length : Nat) : Int)), (8, ci a.length)], [], 0⟩
 | [], a, hl => by
  refine RPt.vc hP sh lv97 (Eq.mpr (zd3 ..) ?_)
  exact z01 (fun h => absurd h (by simp)) (fun _ => z3o (by simp [runN]))
 | c :: b, a, hl => by
  refine RPt.vc hP sh lv97 (Eq.mpr (zd3 ..) ?_)
  have hl' := hl
  simp only [List.length_append, List.length_cons, B] at hl'
  refine z01 (fun _ => ⟨⟨by omega, by simp; omega⟩, zif (c.toNat : Int), ?_, z01 (fun h => z3o ?_) (fun h => ?_)⟩) (fun h => absurd h (by simp; omega))
  · rw [zn0]; exact c_sign _
  · simp_all [runN]
  · have := zcm b (a ++ [c]) (by simpa using hl)
    rw [w64 (by omega) (by omega)]
    simp only [List.append_assoc, List.cons_append, List.nil_append, List.length_append, List.length_cons, List.length_nil, Int.natCast_add, Int.natCast_one, Int.natCast_zero, Int.zero_add] at this
    simp only [Bool.not_eq_false'] at h
    simp only [runN, h, if_true, List.length_append, List.length_cons, Int.natCast_add, Int.natCast_one]
    rw [show (a.length : Int) + ((runN zif b : Nat) + 1 : Int) = (a.length : Int) + 1 + (runN zif b : Nat) by omega]
    exact this
theorem zmu (s : List UInt8) (h : s.length ≤ B) : AC Tryz.prog 97 [cs s, .c (.fn (.func 99) [] [])] [] (ci (runN zif s)) [] := by
 refine AC.vc hP sh lv97 (Nat.le_refl _) (by simp) (by simp) (Eq.mpr (v97_F99 ..) ?_)
 have := zcm s [] (by simpa using h)
 simpa using this
theorem z7r (p : Int → Bool) : ∀ s : List UInt8, (((runN p s : Nat) : Int) == ((s.length : Nat) : Int)) = s.all fun c => p (c.toNat : Int)
 | [] => rfl
 | c :: s => by
  have ih := z7r p s
  have := zp5 p s
  simp only [runN, List.all_cons, List.length_cons]
  cases h : p (c.toNat : Int) with
  | true => rw [← ih]; simp only [if_true, Bool.true_and]; rw [Bool.eq_iff_iff]; simp <;> omega
  | false => simp; omega
def zmc (s : List UInt8) : Bool := !(s == []) && decide ((s.length : Int) ≤ 32)
theorem c_fits (s : List UInt8) : AC Tryz.prog 95 [cs s] [] (cb (zmc s)) [] := by
 refine AC.vc hP sh lv95 (Nat.le_refl _) (by simp) (by simp) (Eq.mpr (v95 ..) ?_)
 refine z01 (fun h => z06 ?_) (fun h => z06 ?_) <;> simp_all [zmc]
def zff (s : List UInt8) : Bool := zmc s && zjy ((s.getD 0 0).toNat : Int) && s.all fun c => z5w (c.toNat : Int)
theorem zi3 {s : List UInt8} (h : zmc s = true) : 0 < s.length ∧ s.length ≤ 32 := by
 simp only [zmc, Bool.and_eq_true, Bool.not_eq_true', decide_eq_true_eq] at h
 refine ⟨?_, by omega⟩
 cases s with
 | nil => simp at h
 | cons c s => simp
theorem c_isname (s : List UInt8) : AC Tryz.prog 64 [cs s] [] (cb (zff s)) [] := by
 refine AC.vc hP sh lv64 (Nat.le_refl _) (by simp) (by simp) (Eq.mpr (v64 ..) ?_)
 refine ⟨_, c_fits s, z01 (fun h => ⟨⟨by omega, by have := zi3 h; omega⟩, _, zn6 _, z01 (fun h2 => ⟨_, zg1 s (by have := zi3 h; simp only [B]; omega), z06 ?_⟩) (fun h2 => z06 ?_)⟩) (fun h => z06 ?_)⟩
 · rw [z7r]; simp only [zff, h, h2, Bool.true_and]
 · simp only [zff, h, h2, Bool.and_false, Bool.false_and]
 · simp only [zff, h, Bool.false_and]
def zj5 : List UInt8 := [44, 59, 33]
theorem zim (s : List UInt8) (c : UInt8) (hs : s.length ≤ B) : AC Tryz.prog 100 [cs s, cs [c]] [] (cb (decide (Lib.indexByte s c ≥ 0))) [] := by
 have hb : (c.toNat : Int).toNat.toUInt8 = c := by simp
 have h1 : AC Tryz.prog 145 [cs s, cs [c]] [] (ci (if [c] == s then 0 else Lib.indexByte s c)) [] := by
  refine AC.vc hP sh lv145 (Nat.le_refl _) (by simp) (by simp) (Eq.mpr (v145 ..) ?_)
  refine z01 (fun h => absurd h (by simp)) (fun _ => z01 (fun h => z3o (by simp [h])) (fun h => z01 (fun _ => ⟨⟨by omega, by simp⟩, _, zgl s _, z3o ?_⟩) (fun h2 => absurd h2 (by simp))))
  rw [h]
  simp
 have h2 : AC Tryz.prog 128 [cs s, cs [c]] [] (ci (if [c] == s then 0 else Lib.indexByte s c)) [] := by
  refine AC.vc hP sh lv128 (Nat.le_refl _) (by simp) (by simp) (Eq.mpr (v128 ..) ?_)
  exact ⟨_, h1, z3o rfl⟩
 refine AC.vc hP sh lv100 (Nat.le_refl _) (by simp) (by simp) (Eq.mpr (v100 ..) ?_)
 refine ⟨_, h2, z06 ?_⟩
 by_cases e : [c] = s
 · subst e
   simp [Lib.indexByte]
 · have : ([c] == s) = false := by simpa using e
   rw [this]; simp
def zm0 (s : List UInt8) : Bool := zmc s && ((s.all fun c => zif (c.toNat : Int)) || ((s.length : Int) == 1 && decide (Lib.indexByte zj5 (s.getD 0 0) ≥ 0)))
theorem c_issym (s : List UInt8) : AC Tryz.prog 65 [cs s] [] (cb (zm0 s)) [] := by
 refine AC.vc hP sh lv65 (Nat.le_refl _) (by simp) (by simp) (Eq.mpr (v65 ..) ?_)
 refine ⟨_, c_fits s, z01 (fun h => ⟨_, zmu s (by have := zi3 h; simp only [B]; omega), z01 (fun h2 => z06 ?_) (fun h2 => z01 (fun h3 => ?_) (fun h3 => z06 ?_))⟩) (fun h => z06 ?_)⟩
 · rw [z7r] at h2; simp only [zm0, h, h2, Bool.true_and, Bool.true_or]
 · rw [z7r] at h2
   match s, h3 with
   | [c], h3 =>
    refine ⟨_, zim zj5 c (by simp [zj5, B]), z06 ?_⟩
    simp only [zm0, h, h2, h3, Bool.true_and, Bool.false_or, List.getD_cons_zero]
   | [], h3 => simp at h3
   | _ :: _ :: _, h3 => simp at h3; omega
 · rw [z7r] at h2; simp only [zm0, h, h2, h3, Bool.false_and, Bool.false_or, Bool.and_false]
 · simp only [zm0, h, Bool.false_and]
end Go.AM

set_option maxRecDepth 100000
open Go Go.Proofs
namespace Go.AM
mutual
def near (most : Int) : Tm → Bool
 | .mk k _ n l => !(k != 2 && (decide (n > most) || decide (n < 0 - most))) && ziu most l
def ziu (most : Int) : List Tm → Bool
 | [] => true
 | t :: l => near most t && ziu most l
end
theorem l_near (most : Int) (k : Int) (s : List UInt8) (n : Int) : ∀ (b a : List Tm), (∀ u ∈ b, AC Tryz.prog 42 [aT u, ci most] [] (cb (near most u)) []) → (a ++ b).length ≤ B →
  RPt Tryz.prog 42 0 (cb (ziu most b)) [] 1 ⟨[(1, ci most), (2, (.c (.a (.ep 0 4 0 0)))), (5, ci a.length)], [(0, (.arr 4 [fzs (FT (.mk k s n (a ++ b)))]))], 1⟩
 | [], a, _, hl => by
  refine RPt.vc hP sh lv42 (Eq.mpr (v42_1a ..) ?_)
  exact ⟨rfl, z01 (fun h => absurd (of_decide_eq_true h) (geI' a)) (fun _ => z06 rfl)⟩
 | t :: b, a, ih, hl => by
  refine RPt.vc hP sh lv42 (Eq.mpr (v42_1a ..) ?_)
  have hl' := hl
  simp only [List.length_append, List.length_cons, B] at hl'
  refine ⟨rfl, z01 (fun _ => ?_) (fun h => absurd (ltI' a t b) (of_decide_eq_false h))⟩
  have h1 := ih t List.mem_cons_self
  have h2 := l_near most k s n b (a ++ [t]) (fun u hu => ih u (List.mem_cons_of_mem _ hu)) (by rw [ap]; exact hl)
  have h3 := ltI' a t b
  rw [ap, nx] at h2
  rw [midI, w64 (by omega) (by omega)]
  obtain ⟨k', s', n', l'⟩ := t
  refine ⟨⟨rfl, by omega, h3, rfl⟩, _, h1, z01 (fun h => z06 ?_) (fun h => ?_)⟩
  · simp_all [ziu]
  · simp only [ziu, show near most (.mk k' s' n' l') = true by simpa using h, Bool.true_and]; exact h2
theorem c_near (most : Int) (h0 : 0 ≤ most) (h1 : most ≤ 4611686018427387904) : ∀ t : Tm, t.sz ≤ B → AC Tryz.prog 42 [aT t, ci most] [] (cb (near most t)) [] := by
 refine Tm.ind fun t ih hs => ?_
 obtain ⟨k, s, n, l⟩ := t
 have hl := Tm.szs_length l
 simp only [Tm.sz, B] at hs
 refine AC.vc hP sh lv42 (Nat.le_refl _) (by simp) (by simp) (Eq.mpr (v42 k s n (FTs l) most _ _) ?_)
 have key := l_near most k s n l [] (fun u hu => ih u hu (by have := Tm.szs_mem hu; simp only [B]; omega)) (by simp only [List.nil_append, B]; omega)
 rw [w64 (by omega) (by omega)]
 rw [near]
 refine z01 (fun h => z01 (fun h2 => z06 ?_) (fun h2 => z01 (fun h3 => z06 ?_) (fun h3 => ?_))) (fun h => ?_)
 · simp only [h, h2, Bool.true_or, Bool.and_true, Bool.not_true, Bool.false_and]
 · simp only [h, h3, Bool.or_true, Bool.and_true, Bool.not_true, Bool.false_and]
 · simp only [h2, h3, Bool.or_false, Bool.and_false, Bool.not_false, Bool.true_and]; exact key
 · simp only [h, Bool.false_and, Bool.not_false, Bool.true_and]; exact key
mutual
def z8w : Tm → Int → Int
 | .mk _ _ _ l, most => z8p l (most - 1)
def z8p : List Tm → Int → Int
 | [], n => n
 | t :: l, n => if n ≥ 0 then z8p l (z8w t n) else n
end
mutual
theorem zle : ∀ (t : Tm) (n : Int), z8w t n ≤ n - 1 ∧ (0 ≤ n → -1 ≤ z8w t n)
 | .mk _ _ _ l, n => by
  have h := zdl l (n - 1)
  simp only [z8w]
  exact ⟨h.1, fun hn => h.2 (by omega)⟩
theorem zdl : ∀ (l : List Tm) (n : Int), z8p l n ≤ n ∧ (-1 ≤ n → -1 ≤ z8p l n)
 | [], n => by simp [z8p]
 | t :: l, n => by
  have h1 := zle t n
  have h2 := zdl l (z8w t n)
  simp only [z8p]
  split
  · rename_i h; exact ⟨by omega, fun _ => h2.2 (h1.2 h)⟩
  · exact ⟨Int.le_refl _, fun h => h⟩
end
theorem l_left (k : Int) (s : List UInt8) (n : Int) : ∀ (b a : List Tm) (m : Int), (∀ u ∈ b, ∀ m : Int, 0 ≤ m → m ≤ 4611686018427387904 → AC Tryz.prog 81 [aT u, ci m] [] (ci (z8w u m)) []) → (a ++ b).length ≤ B → m ≤ 4611686018427387904 →
  RPt Tryz.prog 81 0 (ci (z8p b m)) [] 1 ⟨[(2, (.c (.a (.ep 0 4 0 0)))), (5, ci m), (6, ci a.length)], [(0, (.arr 4 [fzs (FT (.mk k s n (a ++ b)))]))], 1⟩
 | [], a, m, _, hl, hm => by
  refine RPt.vc hP sh lv81 (Eq.mpr (v81_1a ..) ?_)
  exact ⟨rfl, z01 (fun h => absurd (of_decide_eq_true h) (geI' a)) (fun _ => z3o rfl)⟩
 | t :: b, a, m, ih, hl, hm => by
  refine RPt.vc hP sh lv81 (Eq.mpr (v81_1a ..) ?_)
  have hl' := hl
  simp only [List.length_append, List.length_cons, B] at hl'
  refine ⟨rfl, z01 (fun _ => z01 (fun hm0 => ?_) (fun hm0 => z3o ?_)) (fun h => absurd (ltI' a t b) (of_decide_eq_false h))⟩
  · have hm0 := of_decide_eq_true hm0
    have h1 := ih t List.mem_cons_self m hm0 hm
    have hle := zle t m
    have h2 := l_left k s n b (a ++ [t]) (z8w t m) (fun u hu => ih u (List.mem_cons_of_mem _ hu)) (by rw [ap]; exact hl) (by omega)
    have h3 := ltI' a t b
    rw [ap, nx] at h2
    rw [midI, w64 (by omega) (by omega)]
    simp only [z8p, hm0, if_true]
    obtain ⟨k', s', n', l'⟩ := t
    exact ⟨⟨rfl, by omega, h3, rfl⟩, _, h1, h2⟩
  · have hm0 := of_decide_eq_false hm0
    simp only [z8p, hm0, if_false]
theorem c_left : ∀ t : Tm, t.sz ≤ B → ∀ m : Int, 0 ≤ m → m ≤ 4611686018427387904 → AC Tryz.prog 81 [aT t, ci m] [] (ci (z8w t m)) [] := by
 refine Tm.ind fun t ih hs m h0 h1 => ?_
 obtain ⟨k, s, n, l⟩ := t
 have hl := Tm.szs_length l
 simp only [Tm.sz, B] at hs
 refine AC.vc hP sh lv81 (Nat.le_refl _) (by simp) (by simp) (Eq.mpr (v81 k s n (FTs l) m _ _) ?_)
 rw [w64 (by omega) (by omega)]
 exact l_left k s n l [] (m - 1) (fun u hu => ih u hu (by have := Tm.szs_mem hu; simp only [B]; omega)) (by simp only [List.nil_append, B]; omega) (by omega)
def z9w (t : Tm) (most : Int) : Bool := decide (z8w t most < 0)
theorem zqj (t : Tm) (hs : t.sz ≤ B) (m : Int) (h0 : 0 ≤ m) (h1 : m ≤ 4611686018427387904) : AC Tryz.prog 41 [aT t, ci m] [] (cb (z9w t m)) [] := by
 have h := c_left t hs m h0 h1
 obtain ⟨k, s, n, l⟩ := t
 refine AC.vc hP sh lv41 (Nat.le_refl _) (by simp) (by simp) (Eq.mpr (v41 k s n (FTs l) m _ _) ?_)
 exact ⟨_, h, z06 rfl⟩
mutual
def z2d : Tm → Tm → Bool
 | .mk k s n l, .mk k' s' n' l' => k == k' && (s == s' && (n == n' && z9e l l'))
def z9e : List Tm → List Tm → Bool
 | [], [] => true
 | t :: l, u :: m => z2d t u && z9e l m
 | _, _ => false
end
mutual
theorem zgh : ∀ a b : Tm, z2d a b = true ↔ a = b
 | .mk k s n l, .mk k' s' n' l' => by simp only [z2d, Bool.and_eq_true, beq_iff_eq, Tm.mk.injEq, zgi l l']
theorem zgi : ∀ a b : List Tm, z9e a b = true ↔ a = b
 | [], [] => by simp [z9e]
 | t :: l, u :: m => by simp only [z9e, Bool.and_eq_true, List.cons.injEq, zgh t u, zgi l m]
 | [], _ :: _ => by simp [z9e]
 | _ :: _, [] => by simp [z9e]
end
theorem zh0 : ∀ {a b : List Tm}, a.length ≠ b.length → z9e a b = false
 | [], [], h => absurd rfl h
 | t :: l, u :: m, h => by simp only [z9e, zh0 (a := l) (b := m) (fun e => h (by simp [e])), Bool.and_false]
 | [], _ :: _, _ => rfl
 | _ :: _, [], _ => rfl
def Tm.inner (t : Tm) : Bool := t.k == 5 || t.k == 6
def Tm.kids (t : Tm) : List Tm := if t.inner = true then t.l else []
def Tm.by (t : Tm) : Int := if t.k == 5 then 1 else 0
end Go.AM

set_option maxRecDepth 100000
open Go Go.Proofs
namespace Go.AM
def z75 (t : Tm) : FV := if t.inner = true then .sl false 4 (FTs t.l) else .nils
theorem zgn (t : Tm) : (z75 t).ses = FTs t.kids ∧ (z75 t).isSl 4 = true := by
 unfold z75 Tm.kids
 split <;> exact ⟨rfl, rfl⟩
theorem za9 (t : Tm) : AC Tryz.prog 88 [aT t] [] (.tup [(false, [.a (.fz (z75 t))]), (false, [.a (.fz (.int .i64 t.by))])]) [] := by
 obtain ⟨k, s, n, l⟩ := t
 refine AC.vc hP sh lv88 (Nat.le_refl _) (by simp) (by simp) (Eq.mpr (v88 k s n (FTs l) _ _) ?_)
 refine z01 (fun h => ⟨?_, rfl⟩) (fun h => z01 (fun h2 => ⟨?_, rfl⟩) (fun h2 => ⟨?_, rfl⟩))
 · have e1 : z75 (.mk k s n l) = .sl false 4 (FTs l) := by unfold z75 Tm.inner; simp only [Tm.k, h, Bool.true_or, if_true, Tm.l]
   have e2 : Tm.by (.mk k s n l) = 1 := by unfold Tm.by; simp only [Tm.k, h, if_true]
   rw [e1, e2]; exact .refl _
 · have e1 : z75 (.mk k s n l) = .sl false 4 (FTs l) := by unfold z75 Tm.inner; simp only [Tm.k, h2, Bool.or_true, if_true, Tm.l]
   have e2 : Tm.by (.mk k s n l) = 0 := by unfold Tm.by; simp only [Tm.k, h, Bool.false_eq_true, if_false]
   rw [e1, e2]; exact .refl _
 · have e1 : z75 (.mk k s n l) = .nils := by unfold z75 Tm.inner; simp only [Tm.k, h, h2, Bool.or_self, Bool.false_eq_true, if_false]
   have e2 : Tm.by (.mk k s n l) = 0 := by unfold Tm.by; simp only [Tm.k, h, Bool.false_eq_true, if_false]
   rw [e1, e2]; exact .refl _
mutual
def z3c : Tm → Nat
 | .mk k _ _ l => 1 + if (k == 5 || k == 6) = true then z7d l else 0
def z7d : List Tm → Nat
 | [] => 0
 | t :: l => z3c t + z7d l
end
theorem sizeF_eq (t : Tm) : z3c t = 1 + z7d t.kids := by
 obtain ⟨k, s, n, l⟩ := t
 by_cases h : (k == 5 || k == 6) = true
 · rw [show Tm.kids (.mk k s n l) = l from if_pos h, z3c, if_pos h]
 · rw [show Tm.kids (.mk k s n l) = [] from if_neg h, z3c, if_neg h]; rfl
mutual
theorem zaf : ∀ t : Tm, z3c t ≤ t.sz
 | .mk k s n l => by have := zkw l; simp only [z3c, Tm.sz]; split <;> omega
theorem zkw : ∀ l : List Tm, z7d l ≤ Tm.szs l
 | [] => Nat.le_refl _
 | t :: l => by have := zaf t; have := zkw l; simp only [z7d, Tm.szs]; omega
end
theorem l_size : ∀ (b a : List Tm) (v : FV) (acc : Nat), v.ses = FTs (a ++ b) → v.isSl 4 = true → (∀ u ∈ b, AC Tryz.prog 172 [aT u] [] (ci (z3c u)) []) → (a ++ b).length ≤ B → acc + z7d b ≤ 2 * B →
  RPt Tryz.prog 172 0 (ci ((acc + z7d b : Nat) : Int)) [] 1 ⟨[(3, ci acc), (13, .c (.a (.fz v))), (14, ci (a ++ b).length), (15, ci a.length)], [], 0⟩
 | [], a, v, acc, hv, hs, _, hl, ha => by
  refine RPt.vc hP sh zpx (Eq.mpr (zqa ..) ?_)
  exact z01 (fun h => absurd (of_decide_eq_true h) (by simp)) (fun _ => z3o (by simp [z7d]))
 | t :: b, a, v, acc, hv, hs, ih, hl, ha => by
  refine RPt.vc hP sh zpx (Eq.mpr (zqa ..) ?_)
  have hl' := hl
  simp only [List.length_append, List.length_cons, B] at hl'
  simp only [z7d, B] at ha
  have h1 := ih t List.mem_cons_self
  have h2 := l_size b (a ++ [t]) v (acc + z3c t) (by rw [ap]; exact hv) hs (fun u hu => ih u (List.mem_cons_of_mem _ hu)) (by rw [ap]; exact hl) (by simp only [B]; omega)
  have h3 := ltI' a t b
  rw [ap, nx] at h2
  rw [hv, midI, w64 (x := (a.length : Int) + 1) (by omega) (by omega)]
  refine z01 (fun _ => ?_) (fun h => absurd (ltI a t b) (of_decide_eq_false h))
  rw [show acc + z7d (t :: b) = acc + z3c t + z7d b by simp only [z7d]; omega]
  obtain ⟨k', s', n', l'⟩ := t
  refine ⟨⟨hs, by omega, h3, rfl⟩, _, h1, ?_⟩
  rw [w64 (by omega) (by omega), show (acc : Int) + ((z3c (.mk k' s' n' l') : Nat) : Int) = ((acc + z3c (.mk k' s' n' l') : Nat) : Int) by omega]
  exact h2
theorem c_size : ∀ t : Tm, t.sz ≤ B → AC Tryz.prog 172 [aT t] [] (ci (z3c t)) [] := by
 refine Tm.ind fun t ih hs => ?_
 have hw := za9 t
 have hk := zgn t
 have hsz := sizeF_eq t
 have hle := zaf t
 have hkl : t.kids.length ≤ B ∧ (∀ u ∈ t.kids, u ∈ t.l) := by
  have := Tm.szs_length t.l
  rw [Tm.sz_eq] at hs
  unfold Tm.kids
  split
  · exact ⟨by simp only [B] at *; omega, fun u hu => hu⟩
  · exact ⟨by simp [B], fun u hu => by simp at hu⟩
 have key := l_size t.kids [] (z75 t) 1 (by simpa using hk.1) hk.2 (fun u hu => ih u (hkl.2 u hu) (by have := Tm.szs_mem (hkl.2 u hu); rw [Tm.sz_eq] at hs; simp only [B] at *; omega)) (by simpa using hkl.1) (by simp only [B] at *; omega)
 refine AC.vc hP sh zpx (Nat.le_refl _) (by simp) (by simp) (Eq.mpr (v172 ..) ?_)
 refine ⟨_, _, hw, hk.2, ?_⟩
 rw [hk.1, hsz, lenI]
 simpa using key
mutual
def bd (M : Int) : Tm → Prop
 | .mk k _ n l => (k = 3 → 0 - M ≤ n ∧ n ≤ M) ∧ bds M l
def bds (M : Int) : List Tm → Prop
 | [] => True
 | t :: l => bd M t ∧ bds M l
end
theorem z2v {M : Int} : ∀ {l : List Tm} {t : Tm}, bds M l → t ∈ l → bd M t
 | x :: l, t, h, ht => by
  rcases List.mem_cons.1 ht with rfl | ht
  · exact h.1
  · exact z2v h.2 ht
theorem bd_l {M : Int} {t : Tm} (h : bd M t) : bds M t.l := by cases t; exact h.2
def maxI (a b : Int) : Int := if a ≤ b then b else a
theorem zl5 (a b : Int) : z0o [a, b] = maxI a b := by
 simp only [z0o, List.foldl, maxI, max, maxOfLe]
mutual
def z32 : Tm → Int → Int → Int
 | .mk kd _ n l, k, acc => if (kd == 5) = true then z7u l (k + 1) acc else if (kd == 6) = true then z7u l k acc else if (kd == 3) = true then maxI acc (n - k + 1) else acc
def z7u : List Tm → Int → Int → Int
 | [], _, acc => acc
 | t :: l, k, acc => z7u l k (z32 t k acc)
end
abbrev obj1 (n : Int) : AObj := .arr 1 [[.a (.fz (.int .i64 n))]]
theorem c_loose1 (u : Tm) (k acc : Int) (hb : u.k = 3 → 0 - 2305843009213693952 ≤ u.n ∧ u.n ≤ 2305843009213693952) (h0 : 0 ≤ k) (h1 : k ≤ 2305843009213693952) :
  AC Tryz.prog 69 [aT u, ci k, .c (.a (.ep 0 1 0 0))] [obj1 acc] (.tup []) [obj1 (if (u.k == 3) = true then maxI acc (u.n - k + 1) else acc)] := by
 obtain ⟨kd, s, n, l⟩ := u
 simp only [Tm.k, Tm.n] at hb
 refine AC.vc hP sh lv69 (Nat.le_refl _) (by simp [isLive]) (by simp) (Eq.mpr (v69 kd s n (FTs l) k acc _ _) ?_)
 refine z01 (fun h => ⟨.refl _, ?_⟩) (fun h => ⟨.refl _, ?_⟩)
 · have hk : kd = 3 := by simpa using h
   have := hb hk
   rw [w64 (x := n - k) (by omega) (by omega), w64 (x := n - k + 1) (by omega) (by omega), zl5]
   simp only [Tm.k, Tm.n, h, if_true]
 · simp only [Tm.k, h, Bool.false_eq_true, if_false]
abbrev tellL : TV := .c (.fn (.func 69) [] [(false, [.ep 0 1 0 0])])
theorem l_each (k by_ : Int) (h0 : 0 ≤ k) (hby : 0 ≤ by_) (hby1 : by_ ≤ 1) : ∀ (b a : List Tm) (v : FV) (acc : Int), v.ses = FTs (a ++ b) → v.isSl 4 = true →
  (∀ u ∈ b, ∀ acc, AC Tryz.prog 58 [aT u, ci (k + by_), tellL] [obj1 acc] (.tup []) [obj1 (z32 u (k + by_) acc)]) → (a ++ b).length ≤ B → k ≤ 2305843009213693952 →
  RPt Tryz.prog 58 1 (.tup []) [obj1 (z7u b (k + by_) acc)] 1 ⟨[(1, ci k), (2, tellL), (7, ci by_), (27, .c (.a (.fz v))), (28, ci (a ++ b).length), (29, ci a.length)], [(0, obj1 acc)], 1⟩
 | [], a, v, acc, hv, hs, _, hl, hk => by
  refine RPt.vc hP sh lv58 (Eq.mpr (zd9 ..) ?_)
  exact z01 (fun h => absurd (of_decide_eq_true h) (by simp)) (fun _ => ⟨.refl _, rfl⟩)
 | t :: b, a, v, acc, hv, hs, ih, hl, hk => by
  refine RPt.vc hP sh lv58 (Eq.mpr (zd9 ..) ?_)
  have hl' := hl
  simp only [List.length_append, List.length_cons, B] at hl'
  have h1 := ih t List.mem_cons_self acc
  have h2 := l_each k by_ h0 hby hby1 b (a ++ [t]) v (z32 t (k + by_) acc) (by rw [ap]; exact hv) hs (fun u hu => ih u (List.mem_cons_of_mem _ hu)) (by rw [ap]; exact hl) hk
  have h3 := ltI' a t b
  rw [ap, nx] at h2
  rw [hv, midI, w64 (x := (a.length : Int) + 1) (by omega) (by omega), w64 (x := k + by_) (by omega) (by omega)]
  refine z01 (fun _ => ?_) (fun h => absurd (ltI a t b) (of_decide_eq_false h))
  obtain ⟨k', s', n', l'⟩ := t
  exact ⟨⟨hs, by omega, h3, rfl⟩, .inl ⟨_, h1, h2⟩⟩
theorem c_each : ∀ t : Tm, t.sz ≤ B → bd 2305843009213693952 t → ∀ k acc : Int, 0 ≤ k → k + t.sz ≤ 2305843009213693952 → AC Tryz.prog 58 [aT t, ci k, tellL] [obj1 acc] (.tup []) [obj1 (z32 t k acc)] := by
 refine Tm.ind fun t ih hs hb k acc h0 h1 => ?_
 have hw := za9 t
 have hk := zgn t
 have hlen := Tm.szs_length t.l
 obtain ⟨kd, s, n, l⟩ := t
 simp only [Tm.sz, B, Tm.l] at hs hlen
 simp only [Tm.sz] at h1
 have key : ∀ by_ : Int, 0 ≤ by_ → by_ ≤ 1 → Tm.kids (.mk kd s n l) = l → RPt Tryz.prog 58 1 (.tup []) [obj1 (z7u l (k + by_) acc)] 1 ⟨[(1, ci k), (2, tellL), (7, ci by_), (27, .c (.a (.fz (z75 (.mk kd s n l))))), (28, ci l.length), (29, ci 0)], [(0, obj1 acc)], 1⟩ := by
  intro by_ hb0 hb1 hkids
  have := l_each k by_ h0 hb0 hb1 l [] (z75 (.mk kd s n l)) acc (by rw [hk.1, hkids]; rfl) hk.2 (fun u hu acc => ih u hu (by have := Tm.szs_mem hu; simp only [B]; omega) (z2v hb.2 hu) (k + by_) acc (by omega) (by have := Tm.szs_mem hu; omega)) (by simp only [List.nil_append, B]; omega) (by omega)
  simpa using this
 refine AC.vc hP sh lv58 (Nat.le_refl _) (by simp [isLive]) (by simp) (Eq.mpr (v58_F69 kd s n (FTs l) k acc _ _) ?_)
 refine z01 (fun h => z01 (fun h2 => ⟨_, c_loose1 (.mk kd s n l) k acc hb.1 h0 (by omega), .refl _, ?_⟩) (fun h2 => ⟨_, _, hw, hk.2, ?_⟩)) (fun h => ⟨_, _, hw, hk.2, ?_⟩)
 · have e1 : (kd == 5) = false := by simpa using h
   have e2 : (kd == 6) = false := by simpa using h2
   simp only [z32, Tm.k, Tm.n, e1, e2, Bool.false_eq_true, if_false]
   rfl
 · have e1 : (kd == 5) = false := by simpa using h
   have e2 : (kd == 6) = true := by simpa using h2
   have ek : Tm.kids (.mk kd s n l) = l := by unfold Tm.kids Tm.inner; simp only [Tm.k, e2, Bool.or_true, if_true, Tm.l]
   have := key 0 (by omega) (by omega) ek
   rw [hk.1, ek, lenI, show Tm.by (.mk kd s n l) = 0 by unfold Tm.by; simp only [Tm.k, e1, Bool.false_eq_true, if_false]]
   simp only [z32, e1, e2, Bool.false_eq_true, if_false, if_true]
   simpa using this
 · have e1 : (kd == 5) = true := by simpa using h
   have ek : Tm.kids (.mk kd s n l) = l := by unfold Tm.kids Tm.inner; simp only [Tm.k, e1, Bool.true_or, if_true, Tm.l]
   have := key 1 (by omega) (by omega) ek
   rw [hk.1, ek, lenI, show Tm.by (.mk kd s n l) = 1 by unfold Tm.by; simp only [Tm.k, e1, if_true]]
   simp only [z32, e1, if_true]
   exact this
theorem c_loose (t : Tm) (hs : t.sz ≤ B) (hb : bd 2305843009213693952 t) : AC Tryz.prog 22 [aT t] [] (ci (z32 t 0 0)) [] := by
 have h := c_each t hs hb 0 0 (Int.le_refl _) (by simp only [B] at hs; omega)
 refine AC.vc hP sh lv22 (Nat.le_refl _) (by simp) (by simp) (Eq.mpr (v22 ..) ?_)
 exact .inl ⟨_, h, z3o rfl⟩
end Go.AM

set_option maxRecDepth 100000
open Go Go.Proofs
namespace Go.AM
theorem c_grow (n : Int) (h0 : 0 ≤ n) (h1 : n ≤ 2199023255552) : (n = 0 → AC Tryz.prog 103 [.c (.a (.fz .nils)), ci n] [] (.c (.a (.fz .nils))) []) ∧
  (n ≠ 0 → AC Tryz.prog 103 [.c (.a (.fz .nils)), ci n] [] (.c (.a (.osl 0 4 0 0))) [.arz 4 []]) := by
 constructor
 · intro hn
   refine AC.vc hP sh lv103 (Nat.le_refl _) (by simp) (by simp) (Eq.mpr (v103 ..) ?_)
   refine z01 (fun h => absurd (of_decide_eq_true h) (by omega)) (fun _ => ⟨rfl, z01 (fun h => ?_) (fun _ => zfz (.refl _))⟩)
   rw [w64 (by omega) (by omega)] at h
   exact absurd (of_decide_eq_true h) (by omega)
 · intro hn
   refine AC.vc hP sh lv103 (by simp) (by simp) (by simp [isLive]) (Eq.mpr (v103 ..) ?_)
   rw [w64 (by omega) (by omega)]
   refine z01 (fun h => absurd (of_decide_eq_true h) (by omega)) (fun _ => ⟨rfl, z01 (fun h => ⟨rfl, ⟨by omega, by omega, by omega⟩, ⟨by omega, by unfold z0i; omega⟩, rfl, ⟨by omega, by omega, by omega⟩, .refl _, rfl⟩) (fun h => absurd (of_decide_eq_false h) (by omega))⟩)
def FLs (ls : List (List Tm)) : List (List FV) := ls.map fun l => [.sl false 4 (FTs l)]
def z44 (ls : List (List Tm)) : Nat := (ls.map List.length).foldr (· + ·) 0
theorem z91 (ls : List (List Tm)) : (FLs ls).length = ls.length := by simp [FLs]
theorem midL (a : List (List Tm)) (l : List Tm) (b : List (List Tm)) : List.getD (FLs (a ++ l :: b)) (Int.toNat (a.length : Int)) [] = [.sl false 4 (FTs l)] := by
 rw [show Int.toNat (a.length : Int) = a.length by omega]
 simp [List.getD, FLs]
theorem ltL (a : List (List Tm)) (t : List Tm) (b : List (List Tm)) : (a.length : Int) < (((FLs (a ++ t :: b)).length : Nat) : Int) := by rw [z91]; exact ltI a t b
theorem zho (a : List (List Tm)) (l : List Tm) (b : List (List Tm)) : z44 (a ++ l :: b) = z44 a + l.length + z44 b := by
 induction a with
 | nil => simp [z44]
 | cons x a ih => simp only [z44, List.cons_append, List.map_cons, List.foldr_cons] at ih ⊢; omega
theorem zmq (a : List (List Tm)) (l : List Tm) : z44 (a ++ [l]) = z44 a + l.length := by rw [zho]; simp [z44]
abbrev aLs (ls : List (List Tm)) : TV := .c (.a (.fz (.sl false 1 (FLs ls))))
theorem z57 {n : Nat} (h : n ≤ 2199023255552) : z0i n 56 := by unfold z0i; omega
theorem zpw : ∀ (b a : List (List Tm)) (acc : List Tm), acc.length + z44 b ≤ 2199023255552 → (a ++ b).length ≤ B →
  RPt Tryz.prog 70 0 (aL (acc ++ b.flatten)) [] 5 ⟨[(6, (.c (.a (.osl 0 4 0 acc.length)))), (25, aLs (a ++ b)), (26, ci (a ++ b).length), (27, ci a.length)], [(0, (.arz 4 (FTs acc)))], 1⟩
 | [], a, acc, ht, hl => by
  refine RPt.vc hP sh lv70 (Eq.mpr (v70_5b ..) ?_)
  refine z01 (fun h => absurd (of_decide_eq_true h) (by simp)) (fun _ => ⟨⟨rfl, by rw [z00]; omega⟩, zfz ?_⟩)
  rw [List.drop_zero, List.take_of_length_le (by rw [z00]; omega), List.flatten_nil, List.append_nil]
  exact le_c leSl
 | l :: b, a, acc, ht, hl => by
  refine RPt.vc hP sh lv70 (Eq.mpr (v70_5b ..) ?_)
  have hl' := hl
  have h3 := ltL a l b
  simp only [List.length_append, List.length_cons, B] at hl'
  have ht' : acc.length + (l.length + z44 b) ≤ 2199023255552 := by simpa [z44] using ht
  have h2 := zpw b (a ++ [l]) (acc ++ l) (by rw [List.length_append]; omega) (by rw [ap]; exact hl)
  rw [ap, nx] at h2
  rw [midL, w64 (by omega) (by omega)]
  refine z01 (fun _ => ⟨⟨rfl, by omega, h3, rfl⟩, rfl, ⟨by rw [z00]; omega, ?_⟩, ?_⟩) (fun h => absurd (ltI a l b) (of_decide_eq_false h))
  · show z0i (acc.length + (FTs l).length) 56
    rw [z00]; exact z57 (by omega)
  · show RPt _ _ _ _ _ _ ⟨[(6, (.c (.a (.osl 0 4 0 (acc.length + (FTs l).length))))), _, _, _], [(0, .arz 4 (List.take acc.length (FTs acc) ++ FTs l))], 1⟩
    rw [List.take_of_length_le (by rw [z00]; omega), ← z1t, z00, ← List.length_append]
    rw [show acc ++ (l :: b).flatten = acc ++ l ++ b.flatten by simp]
    exact h2
theorem l_cat2 : ∀ (b a : List (List Tm)), z44 b ≤ 2199023255552 → (a ++ b).length ≤ B →
  RPt Tryz.prog 70 0 (aL b.flatten) [] 5 ⟨[(6, (.c (.a (.fz .nils)))), (25, aLs (a ++ b)), (26, ci (a ++ b).length), (27, ci a.length)], [], 0⟩
 | [], a, ht, hl => by
  refine RPt.vc hP sh lv70 (Eq.mpr (v70_5a ..) ?_)
  refine z01 (fun h => absurd (of_decide_eq_true h) (by simp)) (fun _ => zfz (le_c z0l))
 | l :: b, a, ht, hl => by
  refine RPt.vc hP sh lv70 (Eq.mpr (v70_5a ..) ?_)
  have hl' := hl
  have h3 := ltL a l b
  simp only [List.length_append, List.length_cons, B] at hl'
  have ht' : l.length + z44 b ≤ 2199023255552 := by simpa [z44] using ht
  rw [midL, w64 (by omega) (by omega)]
  refine z01 (fun _ => ⟨⟨rfl, by omega, h3, rfl⟩, rfl, ?_⟩) (fun h => absurd (ltI a l b) (of_decide_eq_false h))
  show br (List.isEmpty (FTs l)) _ _
  refine z01 (fun he => ?_) (fun he => ⟨?_, ?_⟩)
  · have h2 := l_cat2 b (a ++ [l]) (by omega) (by rw [ap]; exact hl)
    rw [ap, nx] at h2
    have hnil : l = [] := by cases l with
     | nil => rfl
     | cons x l => simp [FTs] at he
    rw [show (l :: b).flatten = b.flatten by rw [hnil]; simp]
    exact h2
  · show z0i (FTs l).length 56
    rw [z00]; exact z57 (by omega)
  · have h2 := zpw b (a ++ [l]) l (by omega) (by rw [ap]; exact hl)
    rw [ap, nx] at h2
    show RPt _ _ _ _ _ _ ⟨[(6, (.c (.a (.osl 0 4 0 (FTs l).length)))), _, _, _], [(0, .arz 4 (FTs l))], 1⟩
    rw [z00, List.flatten_cons]
    exact h2
theorem l_cat1 : ∀ (b a : List (List Tm)), z44 (a ++ b) ≤ 2199023255552 → (a ++ b).length ≤ B →
  RPt Tryz.prog 70 0 (aL (a ++ b).flatten) [] 1 ⟨[(0, aLs (a ++ b)), (3, ci (z44 a)), (9, aLs (a ++ b)), (10, ci (a ++ b).length), (11, ci a.length)], [], 0⟩
 | [], a, ht, hl => by
  refine RPt.vc hP sh lv70 (Eq.mpr (v70_1a ..) ?_)
  have hg := c_grow (z44 a : Int) (by omega) (by simp only [List.append_nil] at ht; omega)
  refine z01 (fun h => absurd (of_decide_eq_true h) (by simp)) (fun _ => ?_)
  have e : (((FLs (a ++ [])).length : Nat) : Int) = (((a ++ []).length : Nat) : Int) := by rw [z91]
  rw [e]
  by_cases hz : z44 a = 0
  · have h2 := l_cat2 (a ++ []) [] (by simpa using ht) (by simpa using hl)
    exact .inl ⟨(), hg.1 (by omega), rfl, by simpa using h2⟩
  · have h2 := zpw (a ++ []) [] [] (by simpa using ht) (by simpa using hl)
    exact .inr ⟨(), hg.2 (by omega), rfl, by simpa [FTs] using h2⟩
 | l :: b, a, ht, hl => by
  refine RPt.vc hP sh lv70 (Eq.mpr (v70_1a ..) ?_)
  have hl' := hl
  have ht' := ht
  have h3 := ltL a l b
  rw [zho] at ht'
  simp only [List.length_append, List.length_cons, B] at hl'
  have h2 := l_cat1 b (a ++ [l]) (by rw [ap]; exact ht) (by rw [ap]; exact hl)
  rw [ap, nx, zmq] at h2
  rw [midL, w64 (x := (a.length : Int) + 1) (by omega) (by omega)]
  refine z01 (fun _ => ⟨⟨rfl, by omega, h3, rfl⟩, rfl, ?_⟩) (fun h => absurd (ltI a l b) (of_decide_eq_false h))
  show br (decide (IntKind.wrap .i64 ((z44 a : Int) + (((FTs l).length : Nat) : Int)) < 0)) _ (RPt _ _ _ _ _ _ ⟨[_, (3, ci (IntKind.wrap .i64 ((z44 a : Int) + (((FTs l).length : Nat) : Int)))), _, _, _], _, _⟩)
  rw [z00, w64 (by omega) (by omega)]
  refine z01 (fun h => absurd (of_decide_eq_true h) (by omega)) (fun _ => ?_)
  simpa using h2
theorem c_concat (ls : List (List Tm)) (ht : z44 ls ≤ 2199023255552) (hl : ls.length ≤ B) : AC Tryz.prog 70 [aLs ls] [] (aL ls.flatten) [] := by
 refine AC.vc hP sh lv70 (Nat.le_refl _) (by simp) (by simp) (Eq.mpr (v70 ..) ?_)
 have := l_cat1 ls [] (by simpa using ht) (by simpa using hl)
 have e : (((FLs ls).length : Nat) : Int) = ((ls.length : Nat) : Int) := by rw [z91]
 rw [e]
 exact ⟨rfl, by simpa [z44] using this⟩
theorem zby {x y : FV} {l m : List Tm} (hx : FV.Le x (.sl false 4 (FTs l))) (hy : FV.Le y (.sl false 4 (FTs m))) (ht : l.length + m.length ≤ 2199023255552) : AC Tryz.prog 70 [.c (.a (.fz (.sl false 1 [[x], [y]])))] [] (aL (l ++ m)) [] := by
 have h := c_concat [l, m] (by simpa [z44] using ht) (by simp [B])
 rw [show [l, m].flatten = l ++ m by simp] at h
 refine h.args ⟨le_c (.trans _ _ _ (.rows false 1 _ (FLs [l, m]) rfl (fun i e e' he he' => ?_) (fun i j e e' f f' he he' hf hf' => ?_)) (.nn _ _ _)), trivial⟩
 · match i, he, he' with
   | 0, he, he' => simp [FLs] at he he'; subst he; subst he'; rfl
   | 1, he, he' => simp [FLs] at he he'; subst he; subst he'; rfl
   | i + 2, he, he' => simp at he
 · match i, he, he' with
   | 0, he, he' =>
    simp [FLs] at he he'; subst he; subst he'
    match j, hf, hf' with
    | 0, hf, hf' => simp at hf hf'; subst hf; subst hf'; exact hx
    | j + 1, hf, hf' => simp at hf
   | 1, he, he' =>
    simp [FLs] at he he'; subst he; subst he'
    match j, hf, hf' with
    | 0, hf, hf' => simp at hf hf'; subst hf; subst hf'; exact hy
    | j + 1, hf, hf' => simp at hf
   | i + 2, he, he' => simp at he
def z07 (f : Tm) (args : List Tm) : Tm :=
 match args with
 | [] => f
 | _ => if (f.k == 6) = true ∧ f.l ≠ [] then .mk 6 [] 0 (f.l ++ args) else .mk 6 [] 0 (f :: args)
theorem z3p (f : Tm) (args : List Tm) (h : f.l.length + args.length < 2199023255552) : AC Tryz.prog 24 [aT f, aL args] [] (aT (z07 f args)) [] := by
 obtain ⟨k, s, n, l⟩ := f
 simp only [Tm.l] at h
 refine AC.vc hP sh lv24 (Nat.le_refl _) (by simp) (by simp) (Eq.mpr (v24 k s n (FTs l) (FTs args) _ _) ?_)
 refine ⟨rfl, z01 (fun h1 => ?_) (fun h1 => ?_)⟩
 · have : args = [] := by cases args with
    | nil => rfl
    | cons x l => simp [FTs] at h1; omega
   subst this
   exact zfz (.refl _)
 · match args, h1, h with
   | [], h1, _ => simp [FTs] at h1
   | a :: r, h1, h =>
    have one : FV.Le (.sl false 4 [[.int .i64 k, .str s, .int .i64 n, .sl false 4 (FTs l)]]) (.sl false 4 (FTs [.mk k s n l])) := .nn _ _ _
    have same : ∀ l : List Tm, FV.Le (.sl false 4 (FTs l)) (.sl false 4 (FTs l)) := fun _ => .refl _
    refine z01 (fun h2 => ⟨rfl, z01 (fun h3 => ⟨⟨rfl, by omega⟩, _, zby (same l) (same (a :: r)) (by omega), zfz ?_⟩) (fun h3 => ⟨⟨rfl, by omega⟩, ⟨rfl, by omega⟩, _, zby one (same (a :: r)) (by simp only [List.length_cons, List.length_nil] at h ⊢; omega), zfz ?_⟩)⟩)
     (fun h2 => ⟨⟨rfl, by omega⟩, ⟨rfl, by omega⟩, _, zby one (same (a :: r)) (by simp only [List.length_cons, List.length_nil] at h ⊢; omega), zfz ?_⟩)
    · have hl : l ≠ [] := by intro e; subst e; simp [FTs] at h3
      rw [show z07 (.mk k s n l) (a :: r) = .mk 6 [] 0 (l ++ a :: r) from if_pos ⟨h2, hl⟩]
      exact .refl _
    · have hl : l = [] := by cases l with
       | nil => rfl
       | cons x l => simp [FTs] at h3
      rw [show z07 (.mk k s n l) (a :: r) = .mk 6 [] 0 (.mk k s n l :: a :: r) from if_neg (fun e => e.2 hl)]
      exact .refl _
    · rw [show z07 (.mk k s n l) (a :: r) = .mk 6 [] 0 (.mk k s n l :: a :: r) from if_neg (fun e => by have := e.1; simp only [Tm.k, h2] at this; cases this)]
      exact .refl _
end Go.AM

set_option maxRecDepth 100000
open Go Go.Proofs
namespace Go.AM
def z3a (t : Tm) (out : List Tm) : Tm :=
 if (t.k == 6) = true ∧ 1 < out.length ∧ ((out.headD default).k == 6) = true ∧ ((t.l.headD default).k != 6) = true then z07 (out.headD default) out.tail else .mk t.k t.s t.n out
mutual
def z0j (lf : Tm → Int → Tm) : Tm → Int → Tm
 | .mk k s n l, d => if (k == 5 || k == 6) = true then z3a (.mk k s n l) (z0f lf l (d + if (k == 5) = true then 1 else 0)) else lf (.mk k s n l) d
def z0f (lf : Tm → Int → Tm) : List Tm → Int → List Tm
 | [], _ => []
 | t :: l, d => z0j lf t d :: z0f lf l d
end
abbrev cloSh : TV := .agg [.fn (.func 149) [] [(false, [.ep 0 1 0 0]), (false, [.ep 1 1 0 0])]]
abbrev stSh (fr by1 : Int) (k by_ : Int) (kd : Int) (s : List UInt8) (n : Int) (l : List Tm) (w : AV) (i : Nat) (h : AHeap) (nx : Nat) : St :=
 ⟨[(2, ci k), (3, .c (.a (.ep 2 1 0 0))), (4, .c (.a (.ep 3 4 0 0))), (6, .c (.a (.ep 4 4 0 0))), (7, aL l), (8, ci by_), (9, .c (.a w)), (30, aL l), (31, ci l.length), (32, ci i)],
  [(0, (obj1 fr)), (1, (obj1 by1)), (2, .arr 1 [[.fn (.func 149) [] [(false, [.ep 0 1 0 0]), (false, [.ep 1 1 0 0])]]]), (3, .arr 4 [fzs (FT (.mk kd s n l))]), (4, .arr 4 [[.a (.fz (.int .i64 0)), .a (.fz (.str [])), .a (.fz (.int .i64 0)), .a (.fz .nils)]])] ++ h, nx⟩
theorem l_w2Sh (fr by1 : Int) (lf : Tm → Int → Tm) (k by_ : Int) (h0 : 0 ≤ k) (hk : k ≤ 2305843009213693952) (hb0 : 0 ≤ by_) (hb1 : by_ ≤ 1) (kd : Int) (s : List UInt8) (n : Int) (hin : (kd == 5 || kd == 6) = true) :
  ∀ (b a acc : List Tm), acc ≠ [] → acc.length = a.length → (a ++ b).length ≤ B → (∀ u ∈ acc ++ z0f lf b (k + by_), u.l.length ≤ 2 * B) →
  (∀ u ∈ b, AC Tryz.prog 151 [cloSh, aT u, ci (k + by_)] [(obj1 fr), (obj1 by1)] (aT (z0j lf u (k + by_))) [(obj1 fr), (obj1 by1)]) →
  RPt Tryz.prog 151 2 (aT (z3a (.mk kd s n (a ++ b)) (acc ++ z0f lf b (k + by_)))) [(obj1 fr), (obj1 by1)] 1 (stSh fr by1 k by_ kd s n (a ++ b) (.osl 5 4 0 acc.length) a.length [(5, .arz 4 (FTs acc))] 6)
 | [], a, acc, hne, hlen, hl, hw, _ => by
  refine RPt.vc hP sh z6p (Eq.mpr (z9k ..) ?_)
  match acc, a, hne, hlen with
  | o :: r, u :: a', _, hlen =>
  have e1 : List.take (o :: r).length (List.drop 0 (FTs (o :: r))) = FTs (o :: r) := by rw [List.drop_zero, List.take_of_length_le (by rw [z00]; omega)]
  have e2 : (0 : Nat) + (o :: r).length ≤ (FTs (o :: r)).length := by rw [z00]; omega
  have hrest : ∀ (k' : Int) (s' : List UInt8) (n' : Int), TV.Le (.agg [.a (.fz (.int .i64 k')), .a (.fz (.str s')), .a (.fz (.int .i64 n')), .a (.fz (.sl false 4 (List.take (o :: r).length (List.drop 0 (FTs (o :: r))))))]) (aT (.mk k' s' n' (o :: r))) := fun k' s' n' => by rw [e1]; exact leT leSl
  refine z01 (fun h => absurd (of_decide_eq_true h) (by simp)) (fun _ => z01 (fun h6 => z01 (fun h1 => ⟨⟨by omega, by simp⟩, ⟨by rw [z00]; simp, by cases o; rfl, rfl⟩, z01 (fun ho => ⟨⟨rfl, by omega, by rw [List.append_nil]; show (0 : Int) < (((FTs (u :: a')).length : Nat) : Int); rw [z00]; simp, by cases u; rfl⟩, z01 (fun hu => ?_) (fun hu => ⟨⟨rfl, e2⟩, ?_, rfl⟩)⟩) (fun ho => ⟨⟨rfl, e2⟩, ?_, rfl⟩)⟩) (fun h1 => ⟨⟨rfl, e2⟩, ?_, rfl⟩)) (fun h6 => ⟨⟨rfl, e2⟩, ?_, rfl⟩))
  ·
   have hap := z3p o r (by
    have := hw o (by simp)
    simp only [List.length_cons, List.length_append, List.length_nil, B] at hl hlen this ⊢; omega)
   have e3 : z3a (.mk kd s n (u :: a' ++ [])) (o :: r ++ z0f lf [] (k + by_)) = z07 o r := by
    have c1 : 1 < (o :: r ++ z0f lf [] (k + by_)).length := by have := of_decide_eq_true h1; simp only [z0f, List.append_nil]; omega
    have c2 : (o.k == 6) = true := by cases o; exact ho
    have c3 : (u.k != 6) = true := by cases u; exact hu
    unfold z3a
    rw [if_pos ⟨h6, c1, c2, c3⟩]
    simp [z0f]
   have e4 : List.take (Int.toNat ((o :: r).length : Int) - 1) (List.drop 1 (FTs (o :: r))) = FTs r := by
    rw [show Int.toNat ((o :: r).length : Int) - 1 = r.length by simp only [List.length_cons]; omega]
    show List.take r.length (FTs r) = FTs r
    rw [List.take_of_length_le (by rw [z00]; omega)]
   have e5 : (1 : Nat) + (Int.toNat ((o :: r).length : Int) - 1) ≤ (FTs (o :: r)).length := by rw [z00]; simp only [List.length_cons]; omega
   rw [e3]
   refine ⟨⟨by omega, by simp⟩, ⟨by rw [z00]; simp, by cases o; rfl, rfl⟩, ⟨by omega, by simp; omega, by omega⟩, ⟨rfl, e5⟩, ?_⟩
   rw [e4]
   obtain ⟨k1, s1, n1, l1⟩ := o
   exact ⟨_, hap.args ⟨.refl _, le_c leSl, trivial⟩, .refl _, rfl⟩
  · have e3 : z3a (.mk kd s n (u :: a' ++ [])) (o :: r ++ z0f lf [] (k + by_)) = .mk kd s n (o :: r) := by
     simp only [z0f, List.append_nil]
     exact if_neg fun e => by
      have hu' : (u.k != 6) = false := by cases u; exact hu
      have : (u.k != 6) = true := e.2.2.2
      rw [hu'] at this; cases this
    rw [e3]; exact hrest _ _ _
  · have e3 : z3a (.mk kd s n (u :: a' ++ [])) (o :: r ++ z0f lf [] (k + by_)) = .mk kd s n (o :: r) := by
     simp only [z0f, List.append_nil]
     exact if_neg fun e => by
      have ho' : (o.k == 6) = false := by cases o; exact ho
      have : (o.k == 6) = true := e.2.2.1
      rw [ho'] at this; cases this
    rw [e3]; exact hrest _ _ _
  · have e3 : z3a (.mk kd s n (u :: a' ++ [])) (o :: r ++ z0f lf [] (k + by_)) = .mk kd s n (o :: r) := by
     simp only [z0f, List.append_nil]
     exact if_neg fun e => by have := e.2.1; have := of_decide_eq_false h1; omega
    rw [e3]; exact hrest _ _ _
  · have e3 : z3a (.mk kd s n (u :: a' ++ [])) (o :: r ++ z0f lf [] (k + by_)) = .mk kd s n (o :: r) := by
     simp only [z0f, List.append_nil]
     exact if_neg fun e => by
      have h6' : (kd == 6) = false := h6
      have : (kd == 6) = true := e.1
      rw [h6'] at this; cases this
    rw [e3]; exact hrest _ _ _
 | t :: b, a, acc, hne, hlen, hl, hw, ih => by
  refine RPt.vc hP sh z6p (Eq.mpr (z9k ..) ?_)
  have hl' := hl
  simp only [List.length_append, List.length_cons, B] at hl'
  have h1 := ih t List.mem_cons_self
  have h2 := l_w2Sh fr by1 lf k by_ h0 hk hb0 hb1 kd s n hin b (a ++ [t]) (acc ++ [z0j lf t (k + by_)]) (by simp) (by simp [hlen]) (by rw [ap]; exact hl)
   (by rw [List.append_assoc]; simpa [z0f] using hw) (fun u hu => ih u (List.mem_cons_of_mem _ hu))
  have h3 := ltI' a t b
  unfold stSh at h2
  rw [ap, show (((a ++ [t]).length : Nat) : Int) = (a.length : Int) + 1 from nx a t] at h2
  show br (decide ((a.length : Int) < (((a ++ t :: b).length : Nat) : Int))) ((FV.isSl 4 (.sl false 4 (FTs (a ++ t :: b))) = true ∧ _ ∧ _ ∧ _) ∧ _) _
  refine z01 (fun _ => ?_) (fun h => absurd (ltI a t b) (of_decide_eq_false h))
  have hm := midI a t b
  rw [show FV.ses (.sl false 4 (FTs (a ++ t :: b))) = FTs (a ++ t :: b) from rfl, hm, w64 (x := (a.length : Int) + 1) (by omega) (by omega), w64 (x := k + by_) (by omega) (by omega)]
  obtain ⟨k', s', n', l'⟩ := t
  refine ⟨⟨rfl, by omega, h3, rfl⟩, _, h1, Nat.le_refl _, ⟨by rw [z00]; omega, z57 (by omega)⟩, ?_⟩
  have e5 : List.take acc.length (FTs acc) ++ FTs [z0j lf (.mk k' s' n' l') (k + by_)] = FTs (acc ++ [z0j lf (.mk k' s' n' l') (k + by_)]) := by rw [List.take_of_length_le (by rw [z00]; omega), ← z1t]
  have e6 : FTs [z0j lf (.mk k' s' n' l') (k + by_)] = [[.int .i64 (z0j lf (.mk k' s' n' l') (k + by_)).k, .str (z0j lf (.mk k' s' n' l') (k + by_)).s, .int .i64 (z0j lf (.mk k' s' n' l') (k + by_)).n, .sl false 4 (FTs (z0j lf (.mk k' s' n' l') (k + by_)).l)]] := by
   rw [FTs, FTs, z9u]
  rw [e6] at e5
  rw [e5]
  rw [show acc ++ z0f lf (.mk k' s' n' l' :: b) (k + by_) = acc ++ z0j lf (.mk k' s' n' l') (k + by_) :: z0f lf b (k + by_) by simp [z0f]]
  rw [show (acc ++ [z0j lf (.mk k' s' n' l') (k + by_)]).length = acc.length + 1 by simp, List.append_assoc] at h2
  exact h2
theorem l_w1Sh (fr by1 : Int) (lf : Tm → Int → Tm) (k by_ : Int) (h0 : 0 ≤ k) (hk : k ≤ 2305843009213693952) (hb0 : 0 ≤ by_) (hb1 : by_ ≤ 1) (kd : Int) (s : List UInt8) (n : Int) (hin : (kd == 5 || kd == 6) = true) :
  ∀ (b : List Tm), b.length ≤ B → (∀ u ∈ z0f lf b (k + by_), u.l.length ≤ 2 * B) →
  (∀ u ∈ b, AC Tryz.prog 151 [cloSh, aT u, ci (k + by_)] [(obj1 fr), (obj1 by1)] (aT (z0j lf u (k + by_))) [(obj1 fr), (obj1 by1)]) →
  RPt Tryz.prog 151 2 (aT (z3a (.mk kd s n b) (z0f lf b (k + by_)))) [(obj1 fr), (obj1 by1)] 1 (stSh fr by1 k by_ kd s n b (.fz .nils) 0 [] 5)
 | [], hl, hw, _ => by
  refine RPt.vc hP sh z6p (Eq.mpr (z9p ..) ?_)
  have e : z3a (.mk kd s n []) (z0f lf [] (k + by_)) = .mk kd s n [] := if_neg fun e => by have := e.2.1; simp [z0f] at this
  rw [e]
  exact z01 (fun h => absurd (of_decide_eq_true h) (by simp)) (fun _ => z01 (fun _ => ⟨rfl, leT z0l, rfl⟩) (fun _ => ⟨leT z0l, rfl⟩))
 | t :: b, hl, hw, ih => by
  refine RPt.vc hP sh z6p (Eq.mpr (z9p ..) ?_)
  have hl' := hl
  simp only [List.length_cons, B] at hl'
  have h1 := ih t List.mem_cons_self
  have h2 := l_w2Sh fr by1 lf k by_ h0 hk hb0 hb1 kd s n hin b [t] [z0j lf t (k + by_)] (by simp) rfl (by simpa using hl) (by simpa [z0f] using hw) (fun u hu => ih u (List.mem_cons_of_mem _ hu))
  show br (decide ((0 : Int) < (((t :: b).length : Nat) : Int))) ((FV.isSl 4 (.sl false 4 (FTs (t :: b))) = true ∧ _ ∧ _ ∧ _) ∧ _) _
  refine z01 (fun _ => ?_) (fun h => absurd (of_decide_eq_false h) (by simp))
  rw [show FV.ses (.sl false 4 (FTs (t :: b))) = FTs (t :: b) from rfl, show List.getD (FTs (t :: b)) (Int.toNat ((0 : Nat) : Int)) [] = FT t from rfl, w64 (x := k + by_) (by omega) (by omega), w64 (x := ((0 : Nat) : Int) + 1) (by omega) (by omega)]
  obtain ⟨k', s', n', l'⟩ := t
  have h3 : (0 : Int) < (((FTs (.mk k' s' n' l' :: b)).length : Nat) : Int) := by rw [z00]; simp
  refine ⟨⟨rfl, by omega, h3, rfl⟩, _, h1, Nat.le_refl _, z57 (by omega), ?_⟩
  have e6 : FTs [z0j lf (.mk k' s' n' l') (k + by_)] = [[.int .i64 (z0j lf (.mk k' s' n' l') (k + by_)).k, .str (z0j lf (.mk k' s' n' l') (k + by_)).s, .int .i64 (z0j lf (.mk k' s' n' l') (k + by_)).n, .sl false 4 (FTs (z0j lf (.mk k' s' n' l') (k + by_)).l)]] := by
   rw [FTs, FTs, z9u]
  unfold stSh at h2
  rw [e6] at h2
  exact h2
theorem c_wSh (fr by1 : Int) (lf : Tm → Int → Tm) (Q : Tm → Int → Prop)
  (hq : ∀ (kd : Int) (s : List UInt8) (n : Int) (l : List Tm) (d : Int), Q (.mk kd s n l) d → (kd == 5 || kd == 6) = true → ∀ u ∈ l, Q u (d + if (kd == 5) = true then 1 else 0))
  (hleaf : ∀ (u : Tm) (d : Int), (u.k == 5 || u.k == 6) = false → Q u d → 0 ≤ d → d ≤ 2305843009213693952 → AC Tryz.prog 149 [aT u, ci d, .c (.a (.ep 0 1 0 0)), .c (.a (.ep 1 1 0 0))] [(obj1 fr), (obj1 by1)] (aT (lf u d)) [(obj1 fr), (obj1 by1)])
  (hwid : ∀ (u : Tm) (d : Int), Q u d → (z0j lf u d).l.length ≤ 2 * B) :
  ∀ t : Tm, t.sz ≤ B → ∀ k : Int, Q t k → 0 ≤ k → k + t.sz ≤ 2305843009213693952 → AC Tryz.prog 151 [cloSh, aT t, ci k] [(obj1 fr), (obj1 by1)] (aT (z0j lf t k)) [(obj1 fr), (obj1 by1)] := by
 refine Tm.ind fun t ih hs k hQ h0 h1 => ?_
 have hlen := Tm.szs_length t.l
 obtain ⟨kd, s, n, l⟩ := t
 simp only [Tm.sz, B, Tm.l] at hs hlen
 simp only [Tm.sz] at h1
 have key : ∀ by_ : Int, 0 ≤ by_ → by_ ≤ 1 → (by_ = if (kd == 5) = true then 1 else 0) → (hin : (kd == 5 || kd == 6) = true) → RPt Tryz.prog 151 2 (aT (z0j lf (.mk kd s n l) k)) [(obj1 fr), (obj1 by1)] 1 (stSh fr by1 k by_ kd s n l (.fz .nils) 0 [] 5) := by
  intro by_ hb0 hb1 hby hin
  have hQ' := hq kd s n l k hQ hin
  rw [← hby] at hQ'
  have := l_w1Sh fr by1 lf k by_ h0 (by omega) hb0 hb1 kd s n hin l (by simp only [B]; omega) (fun u hu => by
   have : ∀ {m : List Tm}, (∀ v ∈ m, Q v (k + by_)) → ∀ u ∈ z0f lf m (k + by_), u.l.length ≤ 2 * B := by
    intro m
    induction m with
    | nil => intro _ u hu; simp [z0f] at hu
    | cons v m ihm =>
     intro hm u hu
     simp only [z0f, List.mem_cons] at hu
     rcases hu with rfl | hu
     · exact hwid v _ (hm v List.mem_cons_self)
     · exact ihm (fun x hx => hm x (List.mem_cons_of_mem _ hx)) u hu
   exact this hQ' u hu) (fun u hu => ih u hu (by have := Tm.szs_mem hu; simp only [B]; omega) (k + by_) (hQ' u hu) (by omega) (by have := Tm.szs_mem hu; omega))
  rw [z0j, if_pos hin, ← hby]
  exact this
 refine AC.vc hP sh z6p (Nat.le_refl _) (by simp [isLive]) (by simp) (Eq.mpr (zrb kd s n (FTs l) k fr by1 _ _) ?_)
 have wi : (kd == 5 || kd == 6) = true → AC Tryz.prog 88 [aT (.mk kd s n l)] [] (.tup [(false, [.a (.fz (.sl false 4 (FTs l)))]), (false, [.a (.fz (.int .i64 (if (kd == 5) = true then 1 else 0)))])]) [] := fun hin => by
  have hw := za9 (.mk kd s n l)
  rw [show z75 (.mk kd s n l) = .sl false 4 (FTs l) from if_pos hin] at hw
  exact hw
 refine z01 (fun h => z01 (fun h2 => ?_) (fun h2 => ?_)) (fun h => ?_)
 · have e1 : (kd == 5) = false := by simpa using h
   have e2 : (kd == 6) = false := by simpa using h2
   have e : (kd == 5 || kd == 6) = false := by rw [e1, e2]; rfl
   have hl := hleaf (.mk kd s n l) k e hQ h0 (by omega)
   rw [show z0j lf (.mk kd s n l) k = lf (.mk kd s n l) k by rw [z0j, if_neg (by rw [e]; simp)]]
   exact ⟨_, hl, .refl _, rfl⟩
 · have e1 : (kd == 5) = false := by simpa using h
   have e2 : (kd == 6) = true := by simpa using h2
   have hin : (kd == 5 || kd == 6) = true := by rw [e1, e2]; rfl
   have hk := key 0 (by omega) (by omega) (by rw [e1]; rfl) hin
   have hw := wi hin
   rw [e1] at hw
   refine ⟨_, _, hw, rfl, ?_⟩
   show RPt _ _ _ _ _ _ ⟨[_, _, _, _, _, _, _, _, (31, ci (((FTs l).length : Nat) : Int)), _], _, _⟩
   rw [z00]
   exact hk
 · have e1 : (kd == 5) = true := by simpa using h
   have hin : (kd == 5 || kd == 6) = true := by rw [e1]; rfl
   have hk := key 1 (by omega) (by omega) (by rw [e1]; rfl) hin
   have hw := wi hin
   rw [e1] at hw
   refine ⟨_, _, hw, rfl, ?_⟩
   show RPt _ _ _ _ _ _ ⟨[_, _, _, _, _, _, _, _, (31, ci (((FTs l).length : Nat) : Int)), _], _, _⟩
   rw [z00]
   exact hk
abbrev cloSu : TV := .agg [.fn (.func 176) [] [(false, [.ep 0 1 0 0]), (false, [.ep 1 4 0 0])]]
abbrev stSu (ix : Int) (sk : Int) (ss : List UInt8) (sn : Int) (sl : List Tm) (k by_ : Int) (kd : Int) (s : List UInt8) (n : Int) (l : List Tm) (w : AV) (i : Nat) (h : AHeap) (nx : Nat) : St :=
 ⟨[(2, ci k), (3, .c (.a (.ep 2 1 0 0))), (4, .c (.a (.ep 3 4 0 0))), (6, .c (.a (.ep 4 4 0 0))), (7, aL l), (8, ci by_), (9, .c (.a w)), (30, aL l), (31, ci l.length), (32, ci i)],
  [(0, (obj1 ix)), (1, (.arr 4 [fzs (FT (.mk sk ss sn sl))])), (2, .arr 1 [[.fn (.func 176) [] [(false, [.ep 0 1 0 0]), (false, [.ep 1 4 0 0])]]]), (3, .arr 4 [fzs (FT (.mk kd s n l))]), (4, .arr 4 [[.a (.fz (.int .i64 0)), .a (.fz (.str [])), .a (.fz (.int .i64 0)), .a (.fz .nils)]])] ++ h, nx⟩
theorem l_w2Su (ix : Int) (sk : Int) (ss : List UInt8) (sn : Int) (sl : List Tm) (lf : Tm → Int → Tm) (k by_ : Int) (h0 : 0 ≤ k) (hk : k ≤ 2305843009213693952) (hb0 : 0 ≤ by_) (hb1 : by_ ≤ 1) (kd : Int) (s : List UInt8) (n : Int) (hin : (kd == 5 || kd == 6) = true) :
  ∀ (b a acc : List Tm), acc ≠ [] → acc.length = a.length → (a ++ b).length ≤ B → (∀ u ∈ acc ++ z0f lf b (k + by_), u.l.length ≤ 2 * B) →
  (∀ u ∈ b, AC Tryz.prog 151 [cloSu, aT u, ci (k + by_)] [(obj1 ix), (.arr 4 [fzs (FT (.mk sk ss sn sl))])] (aT (z0j lf u (k + by_))) [(obj1 ix), (.arr 4 [fzs (FT (.mk sk ss sn sl))])]) →
  RPt Tryz.prog 151 2 (aT (z3a (.mk kd s n (a ++ b)) (acc ++ z0f lf b (k + by_)))) [(obj1 ix), (.arr 4 [fzs (FT (.mk sk ss sn sl))])] 1 (stSu ix sk ss sn sl k by_ kd s n (a ++ b) (.osl 5 4 0 acc.length) a.length [(5, .arz 4 (FTs acc))] 6)
 | [], a, acc, hne, hlen, hl, hw, _ => by
  refine RPt.vc hP sh z6p (Eq.mpr (z9g ..) ?_)
  match acc, a, hne, hlen with
  | o :: r, u :: a', _, hlen =>
  have e1 : List.take (o :: r).length (List.drop 0 (FTs (o :: r))) = FTs (o :: r) := by rw [List.drop_zero, List.take_of_length_le (by rw [z00]; omega)]
  have e2 : (0 : Nat) + (o :: r).length ≤ (FTs (o :: r)).length := by rw [z00]; omega
  have hrest : ∀ (k' : Int) (s' : List UInt8) (n' : Int), TV.Le (.agg [.a (.fz (.int .i64 k')), .a (.fz (.str s')), .a (.fz (.int .i64 n')), .a (.fz (.sl false 4 (List.take (o :: r).length (List.drop 0 (FTs (o :: r))))))]) (aT (.mk k' s' n' (o :: r))) := fun k' s' n' => by rw [e1]; exact leT leSl
  refine z01 (fun h => absurd (of_decide_eq_true h) (by simp)) (fun _ => z01 (fun h6 => z01 (fun h1 => ⟨⟨by omega, by simp⟩, ⟨by rw [z00]; simp, by cases o; rfl, rfl⟩, z01 (fun ho => ⟨⟨rfl, by omega, by rw [List.append_nil]; show (0 : Int) < (((FTs (u :: a')).length : Nat) : Int); rw [z00]; simp, by cases u; rfl⟩, z01 (fun hu => ?_) (fun hu => ⟨⟨rfl, e2⟩, ?_, rfl⟩)⟩) (fun ho => ⟨⟨rfl, e2⟩, ?_, rfl⟩)⟩) (fun h1 => ⟨⟨rfl, e2⟩, ?_, rfl⟩)) (fun h6 => ⟨⟨rfl, e2⟩, ?_, rfl⟩))
  ·
   have hap := z3p o r (by
    have := hw o (by simp)
    simp only [List.length_cons, List.length_append, List.length_nil, B] at hl hlen this ⊢; omega)
   have e3 : z3a (.mk kd s n (u :: a' ++ [])) (o :: r ++ z0f lf [] (k + by_)) = z07 o r := by
    have c1 : 1 < (o :: r ++ z0f lf [] (k + by_)).length := by have := of_decide_eq_true h1; simp only [z0f, List.append_nil]; omega
    have c2 : (o.k == 6) = true := by cases o; exact ho
    have c3 : (u.k != 6) = true := by cases u; exact hu
    unfold z3a
    rw [if_pos ⟨h6, c1, c2, c3⟩]
    simp [z0f]
   have e4 : List.take (Int.toNat ((o :: r).length : Int) - 1) (List.drop 1 (FTs (o :: r))) = FTs r := by
    rw [show Int.toNat ((o :: r).length : Int) - 1 = r.length by simp only [List.length_cons]; omega]
    show List.take r.length (FTs r) = FTs r
    rw [List.take_of_length_le (by rw [z00]; omega)]
   have e5 : (1 : Nat) + (Int.toNat ((o :: r).length : Int) - 1) ≤ (FTs (o :: r)).length := by rw [z00]; simp only [List.length_cons]; omega
   rw [e3]
   refine ⟨⟨by omega, by simp⟩, ⟨by rw [z00]; simp, by cases o; rfl, rfl⟩, ⟨by omega, by simp; omega, by omega⟩, ⟨rfl, e5⟩, ?_⟩
   rw [e4]
   obtain ⟨k1, s1, n1, l1⟩ := o
   exact ⟨_, hap.args ⟨.refl _, le_c leSl, trivial⟩, .refl _, rfl⟩
  · have e3 : z3a (.mk kd s n (u :: a' ++ [])) (o :: r ++ z0f lf [] (k + by_)) = .mk kd s n (o :: r) := by
     simp only [z0f, List.append_nil]
     exact if_neg fun e => by
      have hu' : (u.k != 6) = false := by cases u; exact hu
      have : (u.k != 6) = true := e.2.2.2
      rw [hu'] at this; cases this
    rw [e3]; exact hrest _ _ _
  · have e3 : z3a (.mk kd s n (u :: a' ++ [])) (o :: r ++ z0f lf [] (k + by_)) = .mk kd s n (o :: r) := by
     simp only [z0f, List.append_nil]
     exact if_neg fun e => by
      have ho' : (o.k == 6) = false := by cases o; exact ho
      have : (o.k == 6) = true := e.2.2.1
      rw [ho'] at this; cases this
    rw [e3]; exact hrest _ _ _
  · have e3 : z3a (.mk kd s n (u :: a' ++ [])) (o :: r ++ z0f lf [] (k + by_)) = .mk kd s n (o :: r) := by
     simp only [z0f, List.append_nil]
     exact if_neg fun e => by have := e.2.1; have := of_decide_eq_false h1; omega
    rw [e3]; exact hrest _ _ _
  · have e3 : z3a (.mk kd s n (u :: a' ++ [])) (o :: r ++ z0f lf [] (k + by_)) = .mk kd s n (o :: r) := by
     simp only [z0f, List.append_nil]
     exact if_neg fun e => by
      have h6' : (kd == 6) = false := h6
      have : (kd == 6) = true := e.1
      rw [h6'] at this; cases this
    rw [e3]; exact hrest _ _ _
 | t :: b, a, acc, hne, hlen, hl, hw, ih => by
  refine RPt.vc hP sh z6p (Eq.mpr (z9g ..) ?_)
  have hl' := hl
  simp only [List.length_append, List.length_cons, B] at hl'
  have h1 := ih t List.mem_cons_self
  have h2 := l_w2Su ix sk ss sn sl lf k by_ h0 hk hb0 hb1 kd s n hin b (a ++ [t]) (acc ++ [z0j lf t (k + by_)]) (by simp) (by simp [hlen]) (by rw [ap]; exact hl)
   (by rw [List.append_assoc]; simpa [z0f] using hw) (fun u hu => ih u (List.mem_cons_of_mem _ hu))
  have h3 := ltI' a t b
  unfold stSu at h2
  rw [ap, show (((a ++ [t]).length : Nat) : Int) = (a.length : Int) + 1 from nx a t] at h2
  show br (decide ((a.length : Int) < (((a ++ t :: b).length : Nat) : Int))) ((FV.isSl 4 (.sl false 4 (FTs (a ++ t :: b))) = true ∧ _ ∧ _ ∧ _) ∧ _) _
  refine z01 (fun _ => ?_) (fun h => absurd (ltI a t b) (of_decide_eq_false h))
  have hm := midI a t b
  rw [show FV.ses (.sl false 4 (FTs (a ++ t :: b))) = FTs (a ++ t :: b) from rfl, hm, w64 (x := (a.length : Int) + 1) (by omega) (by omega), w64 (x := k + by_) (by omega) (by omega)]
  obtain ⟨k', s', n', l'⟩ := t
  refine ⟨⟨rfl, by omega, h3, rfl⟩, _, h1, Nat.le_refl _, ⟨by rw [z00]; omega, z57 (by omega)⟩, ?_⟩
  have e5 : List.take acc.length (FTs acc) ++ FTs [z0j lf (.mk k' s' n' l') (k + by_)] = FTs (acc ++ [z0j lf (.mk k' s' n' l') (k + by_)]) := by rw [List.take_of_length_le (by rw [z00]; omega), ← z1t]
  have e6 : FTs [z0j lf (.mk k' s' n' l') (k + by_)] = [[.int .i64 (z0j lf (.mk k' s' n' l') (k + by_)).k, .str (z0j lf (.mk k' s' n' l') (k + by_)).s, .int .i64 (z0j lf (.mk k' s' n' l') (k + by_)).n, .sl false 4 (FTs (z0j lf (.mk k' s' n' l') (k + by_)).l)]] := by
   rw [FTs, FTs, z9u]
  rw [e6] at e5
  rw [e5]
  rw [show acc ++ z0f lf (.mk k' s' n' l' :: b) (k + by_) = acc ++ z0j lf (.mk k' s' n' l') (k + by_) :: z0f lf b (k + by_) by simp [z0f]]
  rw [show (acc ++ [z0j lf (.mk k' s' n' l') (k + by_)]).length = acc.length + 1 by simp, List.append_assoc] at h2
  exact h2
theorem l_w1Su (ix : Int) (sk : Int) (ss : List UInt8) (sn : Int) (sl : List Tm) (lf : Tm → Int → Tm) (k by_ : Int) (h0 : 0 ≤ k) (hk : k ≤ 2305843009213693952) (hb0 : 0 ≤ by_) (hb1 : by_ ≤ 1) (kd : Int) (s : List UInt8) (n : Int) (hin : (kd == 5 || kd == 6) = true) :
  ∀ (b : List Tm), b.length ≤ B → (∀ u ∈ z0f lf b (k + by_), u.l.length ≤ 2 * B) →
  (∀ u ∈ b, AC Tryz.prog 151 [cloSu, aT u, ci (k + by_)] [(obj1 ix), (.arr 4 [fzs (FT (.mk sk ss sn sl))])] (aT (z0j lf u (k + by_))) [(obj1 ix), (.arr 4 [fzs (FT (.mk sk ss sn sl))])]) →
  RPt Tryz.prog 151 2 (aT (z3a (.mk kd s n b) (z0f lf b (k + by_)))) [(obj1 ix), (.arr 4 [fzs (FT (.mk sk ss sn sl))])] 1 (stSu ix sk ss sn sl k by_ kd s n b (.fz .nils) 0 [] 5)
 | [], hl, hw, _ => by
  refine RPt.vc hP sh z6p (Eq.mpr (z9l ..) ?_)
  have e : z3a (.mk kd s n []) (z0f lf [] (k + by_)) = .mk kd s n [] := if_neg fun e => by have := e.2.1; simp [z0f] at this
  rw [e]
  exact z01 (fun h => absurd (of_decide_eq_true h) (by simp)) (fun _ => z01 (fun _ => ⟨rfl, leT z0l, rfl⟩) (fun _ => ⟨leT z0l, rfl⟩))
 | t :: b, hl, hw, ih => by
  refine RPt.vc hP sh z6p (Eq.mpr (z9l ..) ?_)
  have hl' := hl
  simp only [List.length_cons, B] at hl'
  have h1 := ih t List.mem_cons_self
  have h2 := l_w2Su ix sk ss sn sl lf k by_ h0 hk hb0 hb1 kd s n hin b [t] [z0j lf t (k + by_)] (by simp) rfl (by simpa using hl) (by simpa [z0f] using hw) (fun u hu => ih u (List.mem_cons_of_mem _ hu))
  show br (decide ((0 : Int) < (((t :: b).length : Nat) : Int))) ((FV.isSl 4 (.sl false 4 (FTs (t :: b))) = true ∧ _ ∧ _ ∧ _) ∧ _) _
  refine z01 (fun _ => ?_) (fun h => absurd (of_decide_eq_false h) (by simp))
  rw [show FV.ses (.sl false 4 (FTs (t :: b))) = FTs (t :: b) from rfl, show List.getD (FTs (t :: b)) (Int.toNat ((0 : Nat) : Int)) [] = FT t from rfl, w64 (x := k + by_) (by omega) (by omega), w64 (x := ((0 : Nat) : Int) + 1) (by omega) (by omega)]
  obtain ⟨k', s', n', l'⟩ := t
  have h3 : (0 : Int) < (((FTs (.mk k' s' n' l' :: b)).length : Nat) : Int) := by rw [z00]; simp
  refine ⟨⟨rfl, by omega, h3, rfl⟩, _, h1, Nat.le_refl _, z57 (by omega), ?_⟩
  have e6 : FTs [z0j lf (.mk k' s' n' l') (k + by_)] = [[.int .i64 (z0j lf (.mk k' s' n' l') (k + by_)).k, .str (z0j lf (.mk k' s' n' l') (k + by_)).s, .int .i64 (z0j lf (.mk k' s' n' l') (k + by_)).n, .sl false 4 (FTs (z0j lf (.mk k' s' n' l') (k + by_)).l)]] := by
   rw [FTs, FTs, z9u]
  unfold stSu at h2
  rw [e6] at h2
  exact h2
theorem c_wSu (ix : Int) (sk : Int) (ss : List UInt8) (sn : Int) (sl : List Tm) (lf : Tm → Int → Tm) (Q : Tm → Int → Prop)
  (hq : ∀ (kd : Int) (s : List UInt8) (n : Int) (l : List Tm) (d : Int), Q (.mk kd s n l) d → (kd == 5 || kd == 6) = true → ∀ u ∈ l, Q u (d + if (kd == 5) = true then 1 else 0))
  (hleaf : ∀ (u : Tm) (d : Int), (u.k == 5 || u.k == 6) = false → Q u d → 0 ≤ d → d ≤ 2305843009213693952 → AC Tryz.prog 176 [aT u, ci d, .c (.a (.ep 0 1 0 0)), .c (.a (.ep 1 4 0 0))] [(obj1 ix), (.arr 4 [fzs (FT (.mk sk ss sn sl))])] (aT (lf u d)) [(obj1 ix), (.arr 4 [fzs (FT (.mk sk ss sn sl))])])
  (hwid : ∀ (u : Tm) (d : Int), Q u d → (z0j lf u d).l.length ≤ 2 * B) :
  ∀ t : Tm, t.sz ≤ B → ∀ k : Int, Q t k → 0 ≤ k → k + t.sz ≤ 2305843009213693952 → AC Tryz.prog 151 [cloSu, aT t, ci k] [(obj1 ix), (.arr 4 [fzs (FT (.mk sk ss sn sl))])] (aT (z0j lf t k)) [(obj1 ix), (.arr 4 [fzs (FT (.mk sk ss sn sl))])] := by
 refine Tm.ind fun t ih hs k hQ h0 h1 => ?_
 have hlen := Tm.szs_length t.l
 obtain ⟨kd, s, n, l⟩ := t
 simp only [Tm.sz, B, Tm.l] at hs hlen
 simp only [Tm.sz] at h1
 have key : ∀ by_ : Int, 0 ≤ by_ → by_ ≤ 1 → (by_ = if (kd == 5) = true then 1 else 0) → (hin : (kd == 5 || kd == 6) = true) → RPt Tryz.prog 151 2 (aT (z0j lf (.mk kd s n l) k)) [(obj1 ix), (.arr 4 [fzs (FT (.mk sk ss sn sl))])] 1 (stSu ix sk ss sn sl k by_ kd s n l (.fz .nils) 0 [] 5) := by
  intro by_ hb0 hb1 hby hin
  have hQ' := hq kd s n l k hQ hin
  rw [← hby] at hQ'
  have := l_w1Su ix sk ss sn sl lf k by_ h0 (by omega) hb0 hb1 kd s n hin l (by simp only [B]; omega) (fun u hu => by
   have : ∀ {m : List Tm}, (∀ v ∈ m, Q v (k + by_)) → ∀ u ∈ z0f lf m (k + by_), u.l.length ≤ 2 * B := by
    intro m
    induction m with
    | nil => intro _ u hu; simp [z0f] at hu
    | cons v m ihm =>
     intro hm u hu
     simp only [z0f, List.mem_cons] at hu
     rcases hu with rfl | hu
     · exact hwid v _ (hm v List.mem_cons_self)
     · exact ihm (fun x hx => hm x (List.mem_cons_of_mem _ hx)) u hu
   exact this hQ' u hu) (fun u hu => ih u hu (by have := Tm.szs_mem hu; simp only [B]; omega) (k + by_) (hQ' u hu) (by omega) (by have := Tm.szs_mem hu; omega))
  rw [z0j, if_pos hin, ← hby]
  exact this
 refine AC.vc hP sh z6p (Nat.le_refl _) (by simp [isLive]) (by simp) (Eq.mpr (zr5 kd s n (FTs l) k ix sk ss sn (FTs sl) _ _) ?_)
 have wi : (kd == 5 || kd == 6) = true → AC Tryz.prog 88 [aT (.mk kd s n l)] [] (.tup [(false, [.a (.fz (.sl false 4 (FTs l)))]), (false, [.a (.fz (.int .i64 (if (kd == 5) = true then 1 else 0)))])]) [] := fun hin => by
  have hw := za9 (.mk kd s n l)
  rw [show z75 (.mk kd s n l) = .sl false 4 (FTs l) from if_pos hin] at hw
  exact hw
 refine z01 (fun h => z01 (fun h2 => ?_) (fun h2 => ?_)) (fun h => ?_)
 · have e1 : (kd == 5) = false := by simpa using h
   have e2 : (kd == 6) = false := by simpa using h2
   have e : (kd == 5 || kd == 6) = false := by rw [e1, e2]; rfl
   have hl := hleaf (.mk kd s n l) k e hQ h0 (by omega)
   rw [show z0j lf (.mk kd s n l) k = lf (.mk kd s n l) k by rw [z0j, if_neg (by rw [e]; simp)]]
   exact ⟨_, hl, .refl _, rfl⟩
 · have e1 : (kd == 5) = false := by simpa using h
   have e2 : (kd == 6) = true := by simpa using h2
   have hin : (kd == 5 || kd == 6) = true := by rw [e1, e2]; rfl
   have hk := key 0 (by omega) (by omega) (by rw [e1]; rfl) hin
   have hw := wi hin
   rw [e1] at hw
   refine ⟨_, _, hw, rfl, ?_⟩
   show RPt _ _ _ _ _ _ ⟨[_, _, _, _, _, _, _, _, (31, ci (((FTs l).length : Nat) : Int)), _], _, _⟩
   rw [z00]
   exact hk
 · have e1 : (kd == 5) = true := by simpa using h
   have hin : (kd == 5 || kd == 6) = true := by rw [e1]; rfl
   have hk := key 1 (by omega) (by omega) (by rw [e1]; rfl) hin
   have hw := wi hin
   rw [e1] at hw
   refine ⟨_, _, hw, rfl, ?_⟩
   show RPt _ _ _ _ _ _ ⟨[_, _, _, _, _, _, _, _, (31, ci (((FTs l).length : Nat) : Int)), _], _, _⟩
   rw [z00]
   exact hk
end Go.AM
