/- A calculus of plain values for the model's code, what the code of each function asks (computed by the kernel), contracts of the functions, and plain laws (part 3). No conditions. -/
import Derived.Test.YtcnpljfigfbpcaaPart2
import Derived.Test.YtcnpljfigfbpcaaProg
import Derived.Test.YtcnpljfigfbpcaaShelf
set_option maxRecDepth 100000
open Go Go.Proofs
namespace Go.AM
theorem hP : Try.prog.follows .mixedOrders = true := by kernel_rfl
def sh : FuncId → List Sh
  | 14 => [⟨Unit, fun _ => (.c (.a (.ep 0 2 0 0))), fun _ _ => [(.arr 2 [[(.a (.osl 1 6 0 0)), (.a (.osl 2 1 0 0))]]), (.arz 6 []), (.arz 1 [])], false⟩]
  | 16 => [⟨Tm, fun x => (aT x), fun _ H => H, true⟩]
  | 28 => [⟨Tm × Int × Int, fun x => (.tup [(true, (cT x.1)), (false, [(.a (.fz (.int .i64 x.2.1)))]), (false, [(.a (.fz (.int .i64 x.2.2)))])]), fun _ H => H, true⟩]
  | 29 => [⟨Tm × List Tm, fun x => (.tup [(true, (cT x.1)), (false, [(.a (.fz (.sl false 4 (FTs x.2))))])]), fun _ H => H, true⟩]
  | 31 => [⟨List Tm, fun x => (.c (.a (.fz (.sl false 4 (FTs x))))), fun _ H => H, true⟩]
  | 39 => [⟨Tm × Int × Int, fun x => (.tup [(true, (cT x.1)), (false, [(.a (.fz (.int .i64 x.2.1)))]), (false, [(.a (.fz (.int .i64 x.2.2)))])]), fun _ H => H, true⟩]
  | 40 => [⟨Tm × Int × Int, fun x => (.tup [(true, (cT x.1)), (false, [(.a (.fz (.int .i64 x.2.1)))])]), fun x H => List.set H 3 (.arr 1 [[(.a (.fz (.int .i64 x.2.2)))]]), true⟩]
  | 41 => [⟨Bool, fun x => (.c (.a (.fz (.sl x 4 [])))), fun _ _ => [], false⟩, ⟨List (List FV), fun x => (.c (.a (.osl 0 4 0 (List.length x)))), fun x _ => [(.arz 4 x)], false⟩]
  | 42 => [⟨Unit, fun _ => (.c (.a (.fz .nils))), fun _ _ => [], false⟩, ⟨Unit, fun _ => (.c (.a (.osl 0 4 0 0))), fun _ _ => [(.arz 4 [])], false⟩]
  | 47 => [⟨Tm × Bool × Int, fun x => (.tup [(true, (cT x.1)), (false, [(.a (.fz (.bool x.2.1)))]), (false, [(.a (.fz (.int .i64 x.2.2)))])]), fun _ H => H, true⟩]
  | 50 => [⟨Tm × Bool, fun x => (.tup [(true, (cT x.1)), (false, [(.a (.fz (.bool x.2)))])]), fun _ H => H, true⟩]
  | 51 => [⟨Tm × Int, fun x => (.tup [(true, (cT x.1)), (false, [(.a (.fz (.int .i64 x.2)))])]), fun _ H => H, true⟩]
  | 56 => [⟨Int × Bool × Tm × Bool, fun x => (.tup [(true, [(.a (.fz (.int .i64 x.1))), (.a (.fz (.bool x.2.1))), (.a (.fz (.int .i64 x.2.2.1.k))), (.a (.fz (.str x.2.2.1.s))), (.a (.fz (.int .i64 x.2.2.1.n))), (.a (.fz (.sl false 4 (FTs x.2.2.1.l))))]), (false, [(.a (.fz (.bool x.2.2.2)))])]), fun _ H => H, true⟩]
  | 57 => [⟨Tm × Int, fun x => (.tup [(true, (cT x.1)), (false, [(.a (.fz (.int .i64 x.2)))])]), fun _ H => H, true⟩]
  | 61 => [⟨Tm, fun x => (aT x), fun _ H => H, true⟩]
  | 63 => [⟨Tm, fun x => (aT x), fun _ H => H, true⟩]
  | 64 => [⟨Tm, fun x => (aT x), fun _ H => H, true⟩]
  | 65 => [⟨Tm, fun x => (aT x), fun _ H => H, true⟩]
  | 66 => [⟨Tm, fun x => (aT x), fun _ H => H, true⟩]
  | 67 => [⟨Tm, fun x => (aT x), fun _ H => H, true⟩]
  | _ => []
/-- lambent/lambentlaw18.ArithDoes -/
def lv3 : List (Nat × List Nat) := []
theorem v3 (op : List UInt8) (a : Int) (b : Int) (r : TV) (Hs' : List AObj) : vcE Try.prog sh lv3 3 [(.c (.a (.fz (.str op)))), (.c (.a (.fz (.int .i64 a)))), (.c (.a (.fz (.int .i64 b))))] [] (fun r0 Hs0 => TV.Le r0 r ∧ Hs0 = Hs') (RPt Try.prog 3 0 r Hs') =
    (∃ b1 : Bool, ((AC Try.prog 6 [] [] (.c (.a (.fz (.bool b1)))) []) ∧ (br (!b1) (TV.Le (.c (.a (.fz (.bool false)))) r ∧ [] = Hs') (br (decide (((((List.length op) : Nat) : Int) : Int) > (30 : Int))) (TV.Le (.c (.a (.fz (.bool b1)))) r ∧ [] = Hs') (∃ n2 : Int, (∃ n3 : Int, ((AC Try.prog 7 [(.c (.a (.fz (.str op)))), (.c (.a (.fz (.int .i64 a)))), (.c (.a (.fz (.int .i64 b))))] [] (.tup [(false, [(.a (.fz (.int .i64 n2)))]), (false, [(.a (.fz (.int .i64 n3)))])]) []) ∧ (∃ n4 : Int, (∃ n5 : Int, ((AC Try.prog 8 [(.c (.a (.fz (.str op)))), (.c (.a (.fz (.int .i64 a)))), (.c (.a (.fz (.int .i64 b))))] [] (.tup [(false, [(.a (.fz (.int .i64 n4)))]), (false, [(.a (.fz (.int .i64 n5)))])]) []) ∧ (∃ b6 : Bool, (∃ n7 : Int, ((AC Try.prog 9 [(.c (.a (.fz (.str op)))), (.c (.a (.fz (.int .i64 a)))), (.c (.a (.fz (.int .i64 b))))] [] (.tup [(false, [(.a (.fz (.bool b6)))]), (false, [(.a (.fz (.int .i64 n7)))])]) []) ∧ (∃ b8 : Bool, (∃ n9 : Int, ((AC Try.prog 10 [(.c (.a (.fz (.str op)))), (.c (.a (.fz (.int .i64 a)))), (.c (.a (.fz (.int .i64 b))))] [] (.tup [(false, [(.a (.fz (.bool b8)))]), (false, [(.a (.fz (.int .i64 n9)))])]) []) ∧ (br b1 (br ((n2 : Int) == n4) (br ((n3 : Int) == n5) (br ((b6 : Bool) == b8) (TV.Le (.c (.a (.fz (.bool ((n7 : Int) == n9))))) r ∧ [] = Hs') (TV.Le (.c (.a (.fz (.bool false)))) r ∧ [] = Hs')) (TV.Le (.c (.a (.fz (.bool false)))) r ∧ [] = Hs')) (TV.Le (.c (.a (.fz (.bool false)))) r ∧ [] = Hs')) (TV.Le (.c (.a (.fz (.bool false)))) r ∧ [] = Hs')))))))))))))))))) := by kernel_rfl
/-- lambent/lambentlaw18.works -/
def lv6 : List (Nat × List Nat) := []
theorem v6  (r : TV) (Hs' : List AObj) : vcE Try.prog sh lv6 6 [] [] (fun r0 Hs0 => TV.Le r0 r ∧ Hs0 = Hs') (RPt Try.prog 6 0 r Hs') =
    (∃ n1 : Int, (∃ n2 : Int, ((AC Try.prog 7 [(.c (.a (.fz (.str [100, 105, 118])))), (.c (.a (.fz (.int .i64 (-7 : Int))))), (.c (.a (.fz (.int .i64 (2 : Int)))))] [] (.tup [(false, [(.a (.fz (.int .i64 n1)))]), (false, [(.a (.fz (.int .i64 n2)))])]) []) ∧ (∃ n3 : Int, (∃ n4 : Int, ((AC Try.prog 7 [(.c (.a (.fz (.str [109, 111, 100])))), (.c (.a (.fz (.int .i64 (-7 : Int))))), (.c (.a (.fz (.int .i64 (2 : Int)))))] [] (.tup [(false, [(.a (.fz (.int .i64 n3)))]), (false, [(.a (.fz (.int .i64 n4)))])]) []) ∧ (∃ n5 : Int, (∃ n6 : Int, ((AC Try.prog 7 [(.c (.a (.fz (.str [126])))), (.c (.a (.fz (.int .i64 (-9223372036854775808 : Int))))), (.c (.a (.fz (.int .i64 (0 : Int)))))] [] (.tup [(false, [(.a (.fz (.int .i64 n5)))]), (false, [(.a (.fz (.int .i64 n6)))])]) []) ∧ (∃ _ : Unit, ((AC Try.prog 14 [] [] (.c (.a (.ep 0 2 0 0))) [(.arr 2 [[(.a (.osl 1 6 0 0)), (.a (.osl 2 1 0 0))]]), (.arz 6 []), (.arz 1 [])]) ∧ (((4 : Nat) = 4 ∧ 2 ≤ 2) ∧ (∃ z8 : Tm, ((AC Try.prog 16 [(.agg [(.a (.fz (.int .i64 (0 : Int)))), (.a (.fz (.str [42]))), (.a (.fz (.int .i64 (0 : Int)))), (.a (.fz .nils))]), (.c (.a (.fz (.sl false 4 [[(.int .i64 (2 : Int)), (.str []), (.int .i64 (2 : Int)), .nils], [(.int .i64 (2 : Int)), (.str []), (.int .i64 (3 : Int)), .nils]]))))] [] (aT z8) []) ∧ (((4 : Nat) = 4 ∧ 2 ≤ 2) ∧ (∃ z9 : Tm, ((AC Try.prog 16 [(.agg [(.a (.fz (.int .i64 (0 : Int)))), (.a (.fz (.str [43]))), (.a (.fz (.int .i64 (0 : Int)))), (.a (.fz .nils))]), (.c (.a (.fz (.sl false 4 [[(.int .i64 (2 : Int)), (.str []), (.int .i64 (1 : Int)), .nils], (FT4 z8)]))))] [] (aT z9) []) ∧ (∃ n10 : Int, (∃ n11 : Int, (∃ n12 : Int, ((AC Try.prog 15 [(.c (.a (.ep 0 2 0 0))), (aT z9), (.c (.a (.fz (.int .i64 (5 : Int)))))] [(.arr 2 [[(.a (.osl 1 6 0 0)), (.a (.osl 2 1 0 0))]]), (.arz 6 []), (.arz 1 [])] (.tup [(false, [(.a (.fz (.int .i64 n10)))]), (false, [(.a (.fz (.int .i64 n11)))]), (false, [(.a (.fz (.int .i64 n12)))])]) [(.arr 2 [[(.a (.osl 1 6 0 0)), (.a (.osl 2 1 0 0))]]), (.arz 6 []), (.arz 1 [])]) ∧ (∃ b13 : Bool, (∃ n14 : Int, ((AC Try.prog 9 [(.c (.a (.fz (.str [61, 60])))), (.c (.a (.fz (.int .i64 (3 : Int))))), (.c (.a (.fz (.int .i64 (3 : Int)))))] [] (.tup [(false, [(.a (.fz (.bool b13)))]), (false, [(.a (.fz (.int .i64 n14)))])]) []) ∧ (br ((n1 : Int) == (-3 : Int)) (br ((n2 : Int) == (0 : Int)) (br ((n3 : Int) == (-1 : Int)) (br ((n4 : Int) == (0 : Int)) (br ((n6 : Int) == (182 : Int)) (br ((n10 : Int) == (7 : Int)) (br ((n11 : Int) == (5 : Int)) (br ((n12 : Int) == (0 : Int)) (br b13 (TV.Le (.c (.a (.fz (.bool ((n14 : Int) == (0 : Int)))))) r ∧ [] = Hs') (TV.Le (.c (.a (.fz (.bool false)))) r ∧ [] = Hs')) (TV.Le (.c (.a (.fz (.bool false)))) r ∧ [] = Hs')) (TV.Le (.c (.a (.fz (.bool false)))) r ∧ [] = Hs')) (TV.Le (.c (.a (.fz (.bool false)))) r ∧ [] = Hs')) (TV.Le (.c (.a (.fz (.bool false)))) r ∧ [] = Hs')) (TV.Le (.c (.a (.fz (.bool false)))) r ∧ [] = Hs')) (TV.Le (.c (.a (.fz (.bool false)))) r ∧ [] = Hs')) (TV.Le (.c (.a (.fz (.bool false)))) r ∧ [] = Hs')) (TV.Le (.c (.a (.fz (.bool false)))) r ∧ [] = Hs')))))))))))))))))))))))))) := by kernel_rfl
/-- lambent/arith.Do -/
def lv7 : List (Nat × List Nat) := []
theorem v7 (op : List UInt8) (a : Int) (b : Int) (r : TV) (Hs' : List AObj) : vcE Try.prog sh lv7 7 [(.c (.a (.fz (.str op)))), (.c (.a (.fz (.int .i64 a)))), (.c (.a (.fz (.int .i64 b))))] [] (fun r0 Hs0 => TV.Le r0 r ∧ Hs0 = Hs') (RPt Try.prog 7 0 r Hs') =
    (br ((op : List UInt8) == [43]) (∃ n1 : Int, (∃ n2 : Int, ((AC Try.prog 17 [(.c (.a (.fz (.int .i64 a)))), (.c (.a (.fz (.int .i64 b))))] [] (.tup [(false, [(.a (.fz (.int .i64 n1)))]), (false, [(.a (.fz (.int .i64 n2)))])]) []) ∧ (TV.Le (.tup [(false, [(.a (.fz (.int .i64 n1)))]), (false, [(.a (.fz (.int .i64 n2)))])]) r ∧ [] = Hs')))) (br ((op : List UInt8) == [126]) (∃ n3 : Int, ((AC Try.prog 19 [(.c (.a (.fz (.int .i64 a))))] [] (.c (.a (.fz (.int .u64 n3)))) []) ∧ (∃ n4 : Int, (∃ n5 : Int, ((AC Try.prog 18 [(.c (.a (.fz (.bool (decide ((a : Int) > (0 : Int))))))), (.c (.a (.fz (.int .u64 (0 : Int))))), (.c (.a (.fz (.int .u64 n3))))] [] (.tup [(false, [(.a (.fz (.int .i64 n4)))]), (false, [(.a (.fz (.int .i64 n5)))])]) []) ∧ (TV.Le (.tup [(false, [(.a (.fz (.int .i64 n4)))]), (false, [(.a (.fz (.int .i64 n5)))])]) r ∧ [] = Hs')))))) (br ((op : List UInt8) == [45]) (br ((b : Int) != (-9223372036854775808 : Int)) (∃ n6 : Int, (∃ n7 : Int, ((AC Try.prog 17 [(.c (.a (.fz (.int .i64 a)))), (.c (.a (.fz (.int .i64 (IntKind.wrap .i64 (0 - b))))))] [] (.tup [(false, [(.a (.fz (.int .i64 n6)))]), (false, [(.a (.fz (.int .i64 n7)))])]) []) ∧ (TV.Le (.tup [(false, [(.a (.fz (.int .i64 n6)))]), (false, [(.a (.fz (.int .i64 n7)))])]) r ∧ [] = Hs')))) (∃ n8 : Int, (∃ n9 : Int, ((AC Try.prog 17 [(.c (.a (.fz (.int .i64 a)))), (.c (.a (.fz (.int .i64 (9223372036854775807 : Int)))))] [] (.tup [(false, [(.a (.fz (.int .i64 n8)))]), (false, [(.a (.fz (.int .i64 n9)))])]) []) ∧ (br ((n9 : Int) != (0 : Int)) (TV.Le (.tup [(false, [(.a (.fz (.int .i64 (0 : Int))))]), (false, [(.a (.fz (.int .i64 n9)))])]) r ∧ [] = Hs') (∃ n10 : Int, (∃ n11 : Int, ((AC Try.prog 17 [(.c (.a (.fz (.int .i64 n8)))), (.c (.a (.fz (.int .i64 (1 : Int)))))] [] (.tup [(false, [(.a (.fz (.int .i64 n10)))]), (false, [(.a (.fz (.int .i64 n11)))])]) []) ∧ (TV.Le (.tup [(false, [(.a (.fz (.int .i64 n10)))]), (false, [(.a (.fz (.int .i64 n11)))])]) r ∧ [] = Hs'))))))))) (br ((op : List UInt8) == [42]) (∃ n12 : Int, ((AC Try.prog 19 [(.c (.a (.fz (.int .i64 a))))] [] (.c (.a (.fz (.int .u64 n12)))) []) ∧ (∃ n13 : Int, ((AC Try.prog 19 [(.c (.a (.fz (.int .i64 b))))] [] (.c (.a (.fz (.int .u64 n13)))) []) ∧ (∃ n14 : Int, (∃ n15 : Int, ((AC Try.prog 20 [(.c (.a (.fz (.int .u64 n12)))), (.c (.a (.fz (.int .u64 n13))))] [] (.tup [(false, [(.a (.fz (.int .u64 n14)))]), (false, [(.a (.fz (.int .u64 n15)))])]) []) ∧ (∃ n16 : Int, (∃ n17 : Int, ((AC Try.prog 18 [(.c (.a (.fz (.bool (!(((decide ((a : Int) < (0 : Int))) : Bool) == (decide ((b : Int) < (0 : Int))))))))), (.c (.a (.fz (.int .u64 n14)))), (.c (.a (.fz (.int .u64 n15))))] [] (.tup [(false, [(.a (.fz (.int .i64 n16)))]), (false, [(.a (.fz (.int .i64 n17)))])]) []) ∧ (TV.Le (.tup [(false, [(.a (.fz (.int .i64 n16)))]), (false, [(.a (.fz (.int .i64 n17)))])]) r ∧ [] = Hs'))))))))))) (br ((op : List UInt8) == [100, 105, 118]) (br ((b : Int) == (0 : Int)) (TV.Le (.tup [(false, [(.a (.fz (.int .i64 (0 : Int))))]), (false, [(.a (.fz (.int .i64 (181 : Int))))])]) r ∧ [] = Hs') (br ((op : List UInt8) == [109, 111, 100]) ((IntKind.i64 = IntKind.i64 ∧ b ≠ 0) ∧ (TV.Le (.tup [(false, [(.a (.fz (.int .i64 (Int.tmod a b))))]), (false, [(.a (.fz (.int .i64 (0 : Int))))])]) r ∧ [] = Hs')) (∃ n18 : Int, ((AC Try.prog 19 [(.c (.a (.fz (.int .i64 a))))] [] (.c (.a (.fz (.int .u64 n18)))) []) ∧ (∃ n19 : Int, ((AC Try.prog 19 [(.c (.a (.fz (.int .i64 b))))] [] (.c (.a (.fz (.int .u64 n19)))) []) ∧ ((IntKind.u64 = IntKind.u64 ∧ n19 ≠ 0) ∧ (∃ n20 : Int, (∃ n21 : Int, ((AC Try.prog 18 [(.c (.a (.fz (.bool (!(((decide ((a : Int) < (0 : Int))) : Bool) == (decide ((b : Int) < (0 : Int))))))))), (.c (.a (.fz (.int .u64 (0 : Int))))), (.c (.a (.fz (.int .u64 (IntKind.wrap .u64 (Int.tdiv n18 n19))))))] [] (.tup [(false, [(.a (.fz (.int .i64 n20)))]), (false, [(.a (.fz (.int .i64 n21)))])]) []) ∧ (TV.Le (.tup [(false, [(.a (.fz (.int .i64 n20)))]), (false, [(.a (.fz (.int .i64 n21)))])]) r ∧ [] = Hs'))))))))))) (br ((op : List UInt8) == [109, 111, 100]) (br ((b : Int) == (0 : Int)) (TV.Le (.tup [(false, [(.a (.fz (.int .i64 (0 : Int))))]), (false, [(.a (.fz (.int .i64 (181 : Int))))])]) r ∧ [] = Hs') (br ((op : List UInt8) == [109, 111, 100]) ((IntKind.i64 = IntKind.i64 ∧ b ≠ 0) ∧ (TV.Le (.tup [(false, [(.a (.fz (.int .i64 (Int.tmod a b))))]), (false, [(.a (.fz (.int .i64 (0 : Int))))])]) r ∧ [] = Hs')) (∃ n22 : Int, ((AC Try.prog 19 [(.c (.a (.fz (.int .i64 a))))] [] (.c (.a (.fz (.int .u64 n22)))) []) ∧ (∃ n23 : Int, ((AC Try.prog 19 [(.c (.a (.fz (.int .i64 b))))] [] (.c (.a (.fz (.int .u64 n23)))) []) ∧ ((IntKind.u64 = IntKind.u64 ∧ n23 ≠ 0) ∧ (∃ n24 : Int, (∃ n25 : Int, ((AC Try.prog 18 [(.c (.a (.fz (.bool (!(((decide ((a : Int) < (0 : Int))) : Bool) == (decide ((b : Int) < (0 : Int))))))))), (.c (.a (.fz (.int .u64 (0 : Int))))), (.c (.a (.fz (.int .u64 (IntKind.wrap .u64 (Int.tdiv n22 n23))))))] [] (.tup [(false, [(.a (.fz (.int .i64 n24)))]), (false, [(.a (.fz (.int .i64 n25)))])]) []) ∧ (TV.Le (.tup [(false, [(.a (.fz (.int .i64 n24)))]), (false, [(.a (.fz (.int .i64 n25)))])]) r ∧ [] = Hs'))))))))))) (TV.Le (.tup [(false, [(.a (.fz (.int .i64 (0 : Int))))]), (false, [(.a (.fz (.int .i64 (180 : Int))))])]) r ∧ [] = Hs'))))))) := by kernel_rfl
/-- lambent/lambentref18.Do -/
def lv8 : List (Nat × List Nat) := []
theorem v8 (op : List UInt8) (a : Int) (b : Int) (r : TV) (Hs' : List AObj) : vcE Try.prog sh lv8 8 [(.c (.a (.fz (.str op)))), (.c (.a (.fz (.int .i64 a)))), (.c (.a (.fz (.int .i64 b))))] [] (fun r0 Hs0 => TV.Le r0 r ∧ Hs0 = Hs') (RPt Try.prog 8 0 r Hs') =
    (br ((op : List UInt8) == [126]) (br ((a : Int) == (-9223372036854775808 : Int)) (TV.Le (.tup [(false, [(.a (.fz (.int .i64 (0 : Int))))]), (false, [(.a (.fz (.int .i64 (182 : Int))))])]) r ∧ [] = Hs') (∃ b1 : Bool, ((AC Try.prog 21 [(.c (.a (.fz (.int .i64 (0 : Int))))), (.c (.a (.fz (.int .i64 (IntKind.wrap .i64 (0 - a))))))] [] (.c (.a (.fz (.bool b1)))) []) ∧ (br (!b1) (TV.Le (.tup [(false, [(.a (.fz (.int .i64 (0 : Int))))]), (false, [(.a (.fz (.int .i64 (182 : Int))))])]) r ∧ [] = Hs') (TV.Le (.tup [(false, [(.a (.fz (.int .i64 (IntKind.wrap .i64 ((0 : Int) - a)))))]), (false, [(.a (.fz (.int .i64 (0 : Int))))])]) r ∧ [] = Hs'))))) (br ((op : List UInt8) == [43]) (∃ b2 : Bool, ((AC Try.prog 21 [(.c (.a (.fz (.int .i64 a)))), (.c (.a (.fz (.int .i64 b))))] [] (.c (.a (.fz (.bool b2)))) []) ∧ (br (!b2) (TV.Le (.tup [(false, [(.a (.fz (.int .i64 (0 : Int))))]), (false, [(.a (.fz (.int .i64 (182 : Int))))])]) r ∧ [] = Hs') (TV.Le (.tup [(false, [(.a (.fz (.int .i64 (IntKind.wrap .i64 (a + b)))))]), (false, [(.a (.fz (.int .i64 (0 : Int))))])]) r ∧ [] = Hs')))) (br ((op : List UInt8) == [45]) (br ((b : Int) == (-9223372036854775808 : Int)) (br (decide ((a : Int) ≥ (0 : Int))) (TV.Le (.tup [(false, [(.a (.fz (.int .i64 (0 : Int))))]), (false, [(.a (.fz (.int .i64 (182 : Int))))])]) r ∧ [] = Hs') (TV.Le (.tup [(false, [(.a (.fz (.int .i64 (IntKind.wrap .i64 ((IntKind.wrap .i64 (a + (9223372036854775807 : Int))) + (1 : Int))))))]), (false, [(.a (.fz (.int .i64 (0 : Int))))])]) r ∧ [] = Hs')) (∃ b3 : Bool, ((AC Try.prog 21 [(.c (.a (.fz (.int .i64 a)))), (.c (.a (.fz (.int .i64 (IntKind.wrap .i64 (0 - b))))))] [] (.c (.a (.fz (.bool b3)))) []) ∧ (br (!b3) (TV.Le (.tup [(false, [(.a (.fz (.int .i64 (0 : Int))))]), (false, [(.a (.fz (.int .i64 (182 : Int))))])]) r ∧ [] = Hs') (TV.Le (.tup [(false, [(.a (.fz (.int .i64 (IntKind.wrap .i64 (a - b)))))]), (false, [(.a (.fz (.int .i64 (0 : Int))))])]) r ∧ [] = Hs'))))) (br ((op : List UInt8) == [42]) (∃ n4 : Int, (∃ b5 : Bool, ((AC Try.prog 22 [(.c (.a (.fz (.int .i64 a)))), (.c (.a (.fz (.int .i64 b))))] [] (.tup [(false, [(.a (.fz (.int .i64 n4)))]), (false, [(.a (.fz (.bool b5)))])]) []) ∧ (br (!b5) (TV.Le (.tup [(false, [(.a (.fz (.int .i64 (0 : Int))))]), (false, [(.a (.fz (.int .i64 (182 : Int))))])]) r ∧ [] = Hs') (TV.Le (.tup [(false, [(.a (.fz (.int .i64 n4)))]), (false, [(.a (.fz (.int .i64 (0 : Int))))])]) r ∧ [] = Hs'))))) (br ((op : List UInt8) == [100, 105, 118]) (br ((b : Int) == (0 : Int)) (TV.Le (.tup [(false, [(.a (.fz (.int .i64 (0 : Int))))]), (false, [(.a (.fz (.int .i64 (181 : Int))))])]) r ∧ [] = Hs') (br ((op : List UInt8) == [109, 111, 100]) ((IntKind.i64 = IntKind.i64 ∧ b ≠ 0) ∧ (TV.Le (.tup [(false, [(.a (.fz (.int .i64 (Int.tmod a b))))]), (false, [(.a (.fz (.int .i64 (0 : Int))))])]) r ∧ [] = Hs')) (br ((a : Int) == (-9223372036854775808 : Int)) (br ((b : Int) == (-1 : Int)) (TV.Le (.tup [(false, [(.a (.fz (.int .i64 (0 : Int))))]), (false, [(.a (.fz (.int .i64 (182 : Int))))])]) r ∧ [] = Hs') ((IntKind.i64 = IntKind.i64 ∧ b ≠ 0) ∧ (TV.Le (.tup [(false, [(.a (.fz (.int .i64 (IntKind.wrap .i64 (Int.tdiv a b)))))]), (false, [(.a (.fz (.int .i64 (0 : Int))))])]) r ∧ [] = Hs'))) ((IntKind.i64 = IntKind.i64 ∧ b ≠ 0) ∧ (TV.Le (.tup [(false, [(.a (.fz (.int .i64 (IntKind.wrap .i64 (Int.tdiv a b)))))]), (false, [(.a (.fz (.int .i64 (0 : Int))))])]) r ∧ [] = Hs'))))) (br ((op : List UInt8) == [109, 111, 100]) (br ((b : Int) == (0 : Int)) (TV.Le (.tup [(false, [(.a (.fz (.int .i64 (0 : Int))))]), (false, [(.a (.fz (.int .i64 (181 : Int))))])]) r ∧ [] = Hs') (br ((op : List UInt8) == [109, 111, 100]) ((IntKind.i64 = IntKind.i64 ∧ b ≠ 0) ∧ (TV.Le (.tup [(false, [(.a (.fz (.int .i64 (Int.tmod a b))))]), (false, [(.a (.fz (.int .i64 (0 : Int))))])]) r ∧ [] = Hs')) (br ((a : Int) == (-9223372036854775808 : Int)) (br ((b : Int) == (-1 : Int)) (TV.Le (.tup [(false, [(.a (.fz (.int .i64 (0 : Int))))]), (false, [(.a (.fz (.int .i64 (182 : Int))))])]) r ∧ [] = Hs') ((IntKind.i64 = IntKind.i64 ∧ b ≠ 0) ∧ (TV.Le (.tup [(false, [(.a (.fz (.int .i64 (IntKind.wrap .i64 (Int.tdiv a b)))))]), (false, [(.a (.fz (.int .i64 (0 : Int))))])]) r ∧ [] = Hs'))) ((IntKind.i64 = IntKind.i64 ∧ b ≠ 0) ∧ (TV.Le (.tup [(false, [(.a (.fz (.int .i64 (IntKind.wrap .i64 (Int.tdiv a b)))))]), (false, [(.a (.fz (.int .i64 (0 : Int))))])]) r ∧ [] = Hs'))))) (TV.Le (.tup [(false, [(.a (.fz (.int .i64 (0 : Int))))]), (false, [(.a (.fz (.int .i64 (180 : Int))))])]) r ∧ [] = Hs'))))))) := by kernel_rfl
/-- lambent/arith.Test -/
def lv9 : List (Nat × List Nat) := []
theorem v9 (op : List UInt8) (a : Int) (b : Int) (r : TV) (Hs' : List AObj) : vcE Try.prog sh lv9 9 [(.c (.a (.fz (.str op)))), (.c (.a (.fz (.int .i64 a)))), (.c (.a (.fz (.int .i64 b))))] [] (fun r0 Hs0 => TV.Le r0 r ∧ Hs0 = Hs') (RPt Try.prog 9 0 r Hs') =
    (br ((op : List UInt8) == [60]) (TV.Le (.tup [(false, [(.a (.fz (.bool (decide ((a : Int) < b)))))]), (false, [(.a (.fz (.int .i64 (0 : Int))))])]) r ∧ [] = Hs') (br ((op : List UInt8) == [61, 60]) (TV.Le (.tup [(false, [(.a (.fz (.bool (decide ((a : Int) ≤ b)))))]), (false, [(.a (.fz (.int .i64 (0 : Int))))])]) r ∧ [] = Hs') (br ((op : List UInt8) == [62]) (TV.Le (.tup [(false, [(.a (.fz (.bool (decide ((a : Int) > b)))))]), (false, [(.a (.fz (.int .i64 (0 : Int))))])]) r ∧ [] = Hs') (br ((op : List UInt8) == [62, 61]) (TV.Le (.tup [(false, [(.a (.fz (.bool (decide ((a : Int) ≥ b)))))]), (false, [(.a (.fz (.int .i64 (0 : Int))))])]) r ∧ [] = Hs') (TV.Le (.tup [(false, [(.a (.fz (.bool false)))]), (false, [(.a (.fz (.int .i64 (180 : Int))))])]) r ∧ [] = Hs'))))) := by kernel_rfl
/-- lambent/lambentref18.Test -/
def lv10 : List (Nat × List Nat) := []
theorem v10 (op : List UInt8) (a : Int) (b : Int) (r : TV) (Hs' : List AObj) : vcE Try.prog sh lv10 10 [(.c (.a (.fz (.str op)))), (.c (.a (.fz (.int .i64 a)))), (.c (.a (.fz (.int .i64 b))))] [] (fun r0 Hs0 => TV.Le r0 r ∧ Hs0 = Hs') (RPt Try.prog 10 0 r Hs') =
    (br ((op : List UInt8) == [60]) (TV.Le (.tup [(false, [(.a (.fz (.bool (decide ((a : Int) < b)))))]), (false, [(.a (.fz (.int .i64 (0 : Int))))])]) r ∧ [] = Hs') (br ((op : List UInt8) == [61, 60]) (TV.Le (.tup [(false, [(.a (.fz (.bool (decide ((a : Int) ≤ b)))))]), (false, [(.a (.fz (.int .i64 (0 : Int))))])]) r ∧ [] = Hs') (br ((op : List UInt8) == [62]) (TV.Le (.tup [(false, [(.a (.fz (.bool (decide ((a : Int) > b)))))]), (false, [(.a (.fz (.int .i64 (0 : Int))))])]) r ∧ [] = Hs') (br ((op : List UInt8) == [62, 61]) (TV.Le (.tup [(false, [(.a (.fz (.bool (decide ((a : Int) ≥ b)))))]), (false, [(.a (.fz (.int .i64 (0 : Int))))])]) r ∧ [] = Hs') (TV.Le (.tup [(false, [(.a (.fz (.bool false)))]), (false, [(.a (.fz (.int .i64 (180 : Int))))])]) r ∧ [] = Hs'))))) := by kernel_rfl
/-- lambent/store.New -/
def lv14 : List (Nat × List Nat) := []
theorem v14  (r : TV) (Hs' : List AObj) : vcE Try.prog sh lv14 14 [] [] (fun r0 Hs0 => TV.Le r0 r ∧ Hs0 = Hs') (RPt Try.prog 14 0 r Hs') =
    (TV.Le (.c (.a (.ep 0 2 0 0))) r ∧ [(.arr 2 [[(.a (.osl 1 6 0 0)), (.a (.osl 2 1 0 0))]]), (.arz 6 []), (.arz 1 [])] = Hs') := by kernel_rfl
/-- lambent/term.Apply -/
def lv16 : List (Nat × List Nat) := []
theorem v16 (f_0 : Int) (f_1 : List UInt8) (f_2 : Int) (f_3 : List (List FV)) (args : List (List FV)) (r : TV) (Hs' : List AObj) : vcE Try.prog sh lv16 16 [(.agg [(.a (.fz (.int .i64 f_0))), (.a (.fz (.str f_1))), (.a (.fz (.int .i64 f_2))), (.a (.fz (.sl false 4 f_3)))]), (.c (.a (.fz (.sl false 4 args))))] [] (fun r0 Hs0 => TV.Le r0 r ∧ Hs0 = Hs') (RPt Try.prog 16 0 r Hs') =
    ((FV.isSl 4 (.sl false 4 args) = true) ∧ (br (((((List.length args) : Nat) : Int) : Int) == (0 : Int)) (TV.Le (.agg [(.a (.fz (.int .i64 f_0))), (.a (.fz (.str f_1))), (.a (.fz (.int .i64 f_2))), (.a (.fz (.sl false 4 f_3)))]) r ∧ [] = Hs') (br ((f_0 : Int) == (6 : Int)) ((FV.isSl 4 (.sl false 4 f_3) = true) ∧ (br (decide (((((List.length f_3) : Nat) : Int) : Int) > (0 : Int))) (((1 : Nat) = 1 ∧ 2 ≤ 2) ∧ (∃ z1 : List Tm, ((AC Try.prog 31 [(.c (.a (.fz (.sl false 1 [[(.sl false 4 f_3)], [(.sl false 4 args)]]))))] [] (.c (.a (.fz (.sl false 4 (FTs z1))))) []) ∧ (TV.Le (.agg [(.a (.fz (.int .i64 (6 : Int)))), (.a (.fz (.str []))), (.a (.fz (.int .i64 (0 : Int)))), (.a (.fz (.sl false 4 (FTs z1))))]) r ∧ [] = Hs')))) (((4 : Nat) = 4 ∧ 1 ≤ 1) ∧ (((1 : Nat) = 1 ∧ 2 ≤ 2) ∧ (∃ z2 : List Tm, ((AC Try.prog 31 [(.c (.a (.fz (.sl false 1 [[(.sl false 4 [[(.int .i64 f_0), (.str f_1), (.int .i64 f_2), (.sl false 4 f_3)]])], [(.sl false 4 args)]]))))] [] (.c (.a (.fz (.sl false 4 (FTs z2))))) []) ∧ (TV.Le (.agg [(.a (.fz (.int .i64 (6 : Int)))), (.a (.fz (.str []))), (.a (.fz (.int .i64 (0 : Int)))), (.a (.fz (.sl false 4 (FTs z2))))]) r ∧ [] = Hs'))))))) (((4 : Nat) = 4 ∧ 1 ≤ 1) ∧ (((1 : Nat) = 1 ∧ 2 ≤ 2) ∧ (∃ z3 : List Tm, ((AC Try.prog 31 [(.c (.a (.fz (.sl false 1 [[(.sl false 4 [[(.int .i64 f_0), (.str f_1), (.int .i64 f_2), (.sl false 4 f_3)]])], [(.sl false 4 args)]]))))] [] (.c (.a (.fz (.sl false 4 (FTs z3))))) []) ∧ (TV.Le (.agg [(.a (.fz (.int .i64 (6 : Int)))), (.a (.fz (.str []))), (.a (.fz (.int .i64 (0 : Int)))), (.a (.fz (.sl false 4 (FTs z3))))]) r ∧ [] = Hs')))))))) := by kernel_rfl
/-- lambent/arith.Eval -/
def lv15 : List (Nat × List Nat) := [(1, [0, 2, 10, 13, 55, 56, 57])]
theorem v15 (t_0 : Int) (t_1 : List UInt8) (t_2 : Int) (t_3 : List (List FV)) (fuel : Int) (o0_0l : Nat) (o0_1l : Nat) (o1 : List (List FV)) (o2 : List (List FV)) (r : TV) (Hs' : List AObj) : vcE Try.prog sh lv15 15 [(.c (.a (.ep 0 2 0 0))), (.agg [(.a (.fz (.int .i64 t_0))), (.a (.fz (.str t_1))), (.a (.fz (.int .i64 t_2))), (.a (.fz (.sl false 4 t_3)))]), (.c (.a (.fz (.int .i64 fuel))))] [(.arr 2 [[(.a (.osl 1 6 0 o0_0l)), (.a (.osl 2 1 0 o0_1l))]]), (.arz 6 o1), (.arz 1 o2)] (fun r0 Hs0 => TV.Le r0 r ∧ Hs0 = Hs') (RPt Try.prog 15 3 r Hs') =
    (∃ z1 : Tm × Int × Int, ((AC Try.prog 28 [(.c (.a (.ep 0 2 0 0))), (.agg [(.a (.fz (.int .i64 t_0))), (.a (.fz (.str t_1))), (.a (.fz (.int .i64 t_2))), (.a (.fz (.sl false 4 t_3)))]), (.c (.a (.fz (.int .i64 fuel))))] [(.arr 2 [[(.a (.osl 1 6 0 o0_0l)), (.a (.osl 2 1 0 o0_1l))]]), (.arz 6 o1), (.arz 1 o2)] (.tup [(true, (cT z1.1)), (false, [(.a (.fz (.int .i64 z1.2.1)))]), (false, [(.a (.fz (.int .i64 z1.2.2)))])]) [(.arr 2 [[(.a (.osl 1 6 0 o0_0l)), (.a (.osl 2 1 0 o0_1l))]]), (.arz 6 o1), (.arz 1 o2)]) ∧ (br ((z1.2.2 : Int) != (0 : Int)) (TV.Le (.tup [(false, [(.a (.fz (.int .i64 (0 : Int))))]), (false, [(.a (.fz (.int .i64 (0 : Int))))]), (false, [(.a (.fz (.int .i64 z1.2.2)))])]) r ∧ [(.arr 2 [[(.a (.osl 1 6 0 o0_0l)), (.a (.osl 2 1 0 o0_1l))]]), (.arz 6 o1), (.arz 1 o2)] = Hs') (br ((z1.1.k : Int) == (2 : Int)) (TV.Le (.tup [(false, [(.a (.fz (.int .i64 z1.1.n)))]), (false, [(.a (.fz (.int .i64 z1.2.1)))]), (false, [(.a (.fz (.int .i64 (0 : Int))))])]) r ∧ [(.arr 2 [[(.a (.osl 1 6 0 o0_0l)), (.a (.osl 2 1 0 o0_1l))]]), (.arz 6 o1), (.arz 1 o2)] = Hs') (∃ z2 : Tm × List Tm, ((AC Try.prog 29 [(aT z1.1)] [] (.tup [(true, (cT z2.1)), (false, [(.a (.fz (.sl false 4 (FTs z2.2))))])]) []) ∧ (∃ n3 : Int, ((AC Try.prog 30 [(.c (.a (.fz (.str z2.1.s))))] [] (.c (.a (.fz (.int .i64 n3)))) []) ∧ (br ((z2.1.k : Int) != (0 : Int)) (TV.Le (.tup [(false, [(.a (.fz (.int .i64 (0 : Int))))]), (false, [(.a (.fz (.int .i64 (0 : Int))))]), (false, [(.a (.fz (.int .i64 (180 : Int))))])]) r ∧ [(.arr 2 [[(.a (.osl 1 6 0 o0_0l)), (.a (.osl 2 1 0 o0_1l))]]), (.arz 6 o1), (.arz 1 o2)] = Hs') (br ((n3 : Int) == (0 : Int)) (TV.Le (.tup [(false, [(.a (.fz (.int .i64 (0 : Int))))]), (false, [(.a (.fz (.int .i64 (0 : Int))))]), (false, [(.a (.fz (.int .i64 (180 : Int))))])]) r ∧ [(.arr 2 [[(.a (.osl 1 6 0 o0_0l)), (.a (.osl 2 1 0 o0_1l))]]), (.arz 6 o1), (.arz 1 o2)] = Hs') ((FV.isSl 4 (.sl false 4 (FTs z2.2)) = true) ∧ (br ((n3 : Int) != (((List.length (FTs z2.2)) : Nat) : Int)) (TV.Le (.tup [(false, [(.a (.fz (.int .i64 (0 : Int))))]), (false, [(.a (.fz (.int .i64 (0 : Int))))]), (false, [(.a (.fz (.int .i64 (180 : Int))))])]) r ∧ [(.arr 2 [[(.a (.osl 1 6 0 o0_0l)), (.a (.osl 2 1 0 o0_1l))]]), (.arz 6 o1), (.arz 1 o2)] = Hs') ((FV.isSl 4 (.sl false 4 (FTs z2.2)) = true) ∧ (RPt Try.prog 15 3 r Hs' 1 ⟨[(0, (.c (.a (.ep 0 2 0 0)))), (2, (.c (.a (.fz (.int .i64 z1.2.1))))), (10, (.c (.a (.ep 3 4 0 0)))), (13, (.c (.a (.ep 4 2 0 0)))), (55, (.c (.a (.fz (.sl false 4 (FTs z2.2)))))), (56, (.c (.a (.fz (.int .i64 (((List.length (FTs z2.2)) : Nat) : Int)))))), (57, (.c (.a (.fz (.int .i64 (0 : Int))))))], [(0, (.arr 2 [[(.a (.osl 1 6 0 o0_0l)), (.a (.osl 2 1 0 o0_1l))]])), (1, (.arz 6 o1)), (2, (.arz 1 o2)), (3, (.arr 4 [(cT z2.1)])), (4, (.arr 2 [[(.a (.fz (.int .i64 (0 : Int)))), (.a (.fz (.int .i64 (0 : Int))))]]))], 5⟩)))))))))))))) := by kernel_rfl
theorem v15_1a (x2 : Int) (x55 : List (List FV)) (x56 : Int) (h0_0l : Nat) (h0_1l : Nat) (h1 : List (List FV)) (h2 : List (List FV)) (h3_0 : Int) (h3_1 : List UInt8) (h3_2 : Int) (h3_3 : List (List FV)) (h4_0 : Int) (h4_1 : Int) (r : TV) (Hs' : List AObj) : vcP Try.prog sh lv15 15 3 (fun r0 Hs0 => TV.Le r0 r ∧ Hs0 = Hs') (RPt Try.prog 15 3 r Hs') 1 ⟨[(0, (.c (.a (.ep 0 2 0 0)))), (2, (.c (.a (.fz (.int .i64 x2))))), (10, (.c (.a (.ep 3 4 0 0)))), (13, (.c (.a (.ep 4 2 0 0)))), (55, (.c (.a (.fz (.sl false 4 x55))))), (56, (.c (.a (.fz (.int .i64 x56))))), (57, (.c (.a (.fz (.int .i64 (0 : Int))))))], [(0, (.arr 2 [[(.a (.osl 1 6 0 h0_0l)), (.a (.osl 2 1 0 h0_1l))]])), (1, (.arz 6 h1)), (2, (.arz 1 h2)), (3, (.arr 4 [[(.a (.fz (.int .i64 h3_0))), (.a (.fz (.str h3_1))), (.a (.fz (.int .i64 h3_2))), (.a (.fz (.sl false 4 h3_3)))]])), (4, (.arr 2 [[(.a (.fz (.int .i64 h4_0))), (.a (.fz (.int .i64 h4_1)))]]))], 5⟩ =
    (br (decide (((0 : Int) : Int) < x56)) (((FV.isSl 4 (.sl false 4 x55) = true) ∧ ((0 ≤ (0 : Int)) ∧ (((0 : Int) < (((List.length x55) : Nat) : Int)) ∧ (((rE (List.getD x55 0 [])) : List FV) = (List.getD x55 0 []))))) ∧ (∃ n1 : Int, (∃ n2 : Int, (∃ n3 : Int, ((AC Try.prog 15 [(.c (.a (.ep 0 2 0 0))), (aE (List.getD x55 0 [])), (.c (.a (.fz (.int .i64 x2))))] [(.arr 2 [[(.a (.osl 1 6 0 h0_0l)), (.a (.osl 2 1 0 h0_1l))]]), (.arz 6 h1), (.arz 1 h2)] (.tup [(false, [(.a (.fz (.int .i64 n1)))]), (false, [(.a (.fz (.int .i64 n2)))]), (false, [(.a (.fz (.int .i64 n3)))])]) [(.arr 2 [[(.a (.osl 1 6 0 h0_0l)), (.a (.osl 2 1 0 h0_1l))]]), (.arz 6 h1), (.arz 1 h2)]) ∧ ((0 ≤ (0 : Int) ∧ (0 : Int) < ((2 : Nat) : Int)) ∧ (br ((n3 : Int) != (0 : Int)) (TV.Le (.tup [(false, [(.a (.fz (.int .i64 (0 : Int))))]), (false, [(.a (.fz (.int .i64 (0 : Int))))]), (false, [(.a (.fz (.int .i64 n3)))])]) r ∧ [(.arr 2 [[(.a (.osl 1 6 0 h0_0l)), (.a (.osl 2 1 0 h0_1l))]]), (.arz 6 h1), (.arz 1 h2)] = Hs') (RPt Try.prog 15 3 r Hs' 1 ⟨[(0, (.c (.a (.ep 0 2 0 0)))), (2, (.c (.a (.fz (.int .i64 n2))))), (10, (.c (.a (.ep 3 4 0 0)))), (13, (.c (.a (.ep 4 2 0 0)))), (55, (.c (.a (.fz (.sl false 4 x55))))), (56, (.c (.a (.fz (.int .i64 x56))))), (57, (.c (.a (.fz (.int .i64 (1 : Int))))))], [(0, (.arr 2 [[(.a (.osl 1 6 0 h0_0l)), (.a (.osl 2 1 0 h0_1l))]])), (1, (.arz 6 h1)), (2, (.arz 1 h2)), (3, (.arr 4 [[(.a (.fz (.int .i64 h3_0))), (.a (.fz (.str h3_1))), (.a (.fz (.int .i64 h3_2))), (.a (.fz (.sl false 4 h3_3)))]])), (4, (.arr 2 [[(.a (.fz (.int .i64 n1))), (.a (.fz (.int .i64 h4_1)))]]))], 5⟩)))))))) ((0 ≤ (0 : Int) ∧ (0 : Int) < ((2 : Nat) : Int)) ∧ ((0 ≤ (1 : Int) ∧ (1 : Int) < ((2 : Nat) : Int)) ∧ (∃ n4 : Int, (∃ n5 : Int, ((AC Try.prog 7 [(.c (.a (.fz (.str h3_1)))), (.c (.a (.fz (.int .i64 h4_0)))), (.c (.a (.fz (.int .i64 h4_1))))] [] (.tup [(false, [(.a (.fz (.int .i64 n4)))]), (false, [(.a (.fz (.int .i64 n5)))])]) []) ∧ (br ((n5 : Int) != (0 : Int)) (TV.Le (.tup [(false, [(.a (.fz (.int .i64 (0 : Int))))]), (false, [(.a (.fz (.int .i64 (0 : Int))))]), (false, [(.a (.fz (.int .i64 n5)))])]) r ∧ [(.arr 2 [[(.a (.osl 1 6 0 h0_0l)), (.a (.osl 2 1 0 h0_1l))]]), (.arz 6 h1), (.arz 1 h2)] = Hs') (TV.Le (.tup [(false, [(.a (.fz (.int .i64 n4)))]), (false, [(.a (.fz (.int .i64 x2)))]), (false, [(.a (.fz (.int .i64 (0 : Int))))])]) r ∧ [(.arr 2 [[(.a (.osl 1 6 0 h0_0l)), (.a (.osl 2 1 0 h0_1l))]]), (.arz 6 h1), (.arz 1 h2)] = Hs')))))))) := by kernel_rfl
theorem v15_1b (x2 : Int) (x55 : List (List FV)) (x56 : Int) (h0_0l : Nat) (h0_1l : Nat) (h1 : List (List FV)) (h2 : List (List FV)) (h3_0 : Int) (h3_1 : List UInt8) (h3_2 : Int) (h3_3 : List (List FV)) (h4_0 : Int) (h4_1 : Int) (r : TV) (Hs' : List AObj) : vcP Try.prog sh lv15 15 3 (fun r0 Hs0 => TV.Le r0 r ∧ Hs0 = Hs') (RPt Try.prog 15 3 r Hs') 1 ⟨[(0, (.c (.a (.ep 0 2 0 0)))), (2, (.c (.a (.fz (.int .i64 x2))))), (10, (.c (.a (.ep 3 4 0 0)))), (13, (.c (.a (.ep 4 2 0 0)))), (55, (.c (.a (.fz (.sl false 4 x55))))), (56, (.c (.a (.fz (.int .i64 x56))))), (57, (.c (.a (.fz (.int .i64 (1 : Int))))))], [(0, (.arr 2 [[(.a (.osl 1 6 0 h0_0l)), (.a (.osl 2 1 0 h0_1l))]])), (1, (.arz 6 h1)), (2, (.arz 1 h2)), (3, (.arr 4 [[(.a (.fz (.int .i64 h3_0))), (.a (.fz (.str h3_1))), (.a (.fz (.int .i64 h3_2))), (.a (.fz (.sl false 4 h3_3)))]])), (4, (.arr 2 [[(.a (.fz (.int .i64 h4_0))), (.a (.fz (.int .i64 h4_1)))]]))], 5⟩ =
    (br (decide (((1 : Int) : Int) < x56)) (((FV.isSl 4 (.sl false 4 x55) = true) ∧ ((0 ≤ (1 : Int)) ∧ (((1 : Int) < (((List.length x55) : Nat) : Int)) ∧ (((rE (List.getD x55 1 [])) : List FV) = (List.getD x55 1 []))))) ∧ (∃ n1 : Int, (∃ n2 : Int, (∃ n3 : Int, ((AC Try.prog 15 [(.c (.a (.ep 0 2 0 0))), (aE (List.getD x55 1 [])), (.c (.a (.fz (.int .i64 x2))))] [(.arr 2 [[(.a (.osl 1 6 0 h0_0l)), (.a (.osl 2 1 0 h0_1l))]]), (.arz 6 h1), (.arz 1 h2)] (.tup [(false, [(.a (.fz (.int .i64 n1)))]), (false, [(.a (.fz (.int .i64 n2)))]), (false, [(.a (.fz (.int .i64 n3)))])]) [(.arr 2 [[(.a (.osl 1 6 0 h0_0l)), (.a (.osl 2 1 0 h0_1l))]]), (.arz 6 h1), (.arz 1 h2)]) ∧ ((0 ≤ (1 : Int) ∧ (1 : Int) < ((2 : Nat) : Int)) ∧ (br ((n3 : Int) != (0 : Int)) (TV.Le (.tup [(false, [(.a (.fz (.int .i64 (0 : Int))))]), (false, [(.a (.fz (.int .i64 (0 : Int))))]), (false, [(.a (.fz (.int .i64 n3)))])]) r ∧ [(.arr 2 [[(.a (.osl 1 6 0 h0_0l)), (.a (.osl 2 1 0 h0_1l))]]), (.arz 6 h1), (.arz 1 h2)] = Hs') (RPt Try.prog 15 3 r Hs' 1 ⟨[(0, (.c (.a (.ep 0 2 0 0)))), (2, (.c (.a (.fz (.int .i64 n2))))), (10, (.c (.a (.ep 3 4 0 0)))), (13, (.c (.a (.ep 4 2 0 0)))), (55, (.c (.a (.fz (.sl false 4 x55))))), (56, (.c (.a (.fz (.int .i64 x56))))), (57, (.c (.a (.fz (.int .i64 (2 : Int))))))], [(0, (.arr 2 [[(.a (.osl 1 6 0 h0_0l)), (.a (.osl 2 1 0 h0_1l))]])), (1, (.arz 6 h1)), (2, (.arz 1 h2)), (3, (.arr 4 [[(.a (.fz (.int .i64 h3_0))), (.a (.fz (.str h3_1))), (.a (.fz (.int .i64 h3_2))), (.a (.fz (.sl false 4 h3_3)))]])), (4, (.arr 2 [[(.a (.fz (.int .i64 h4_0))), (.a (.fz (.int .i64 n1)))]]))], 5⟩)))))))) ((0 ≤ (0 : Int) ∧ (0 : Int) < ((2 : Nat) : Int)) ∧ ((0 ≤ (1 : Int) ∧ (1 : Int) < ((2 : Nat) : Int)) ∧ (∃ n4 : Int, (∃ n5 : Int, ((AC Try.prog 7 [(.c (.a (.fz (.str h3_1)))), (.c (.a (.fz (.int .i64 h4_0)))), (.c (.a (.fz (.int .i64 h4_1))))] [] (.tup [(false, [(.a (.fz (.int .i64 n4)))]), (false, [(.a (.fz (.int .i64 n5)))])]) []) ∧ (br ((n5 : Int) != (0 : Int)) (TV.Le (.tup [(false, [(.a (.fz (.int .i64 (0 : Int))))]), (false, [(.a (.fz (.int .i64 (0 : Int))))]), (false, [(.a (.fz (.int .i64 n5)))])]) r ∧ [(.arr 2 [[(.a (.osl 1 6 0 h0_0l)), (.a (.osl 2 1 0 h0_1l))]]), (.arz 6 h1), (.arz 1 h2)] = Hs') (TV.Le (.tup [(false, [(.a (.fz (.int .i64 n4)))]), (false, [(.a (.fz (.int .i64 x2)))]), (false, [(.a (.fz (.int .i64 (0 : Int))))])]) r ∧ [(.arr 2 [[(.a (.osl 1 6 0 h0_0l)), (.a (.osl 2 1 0 h0_1l))]]), (.arz 6 h1), (.arz 1 h2)] = Hs')))))))) := by kernel_rfl
theorem v15_1c (x2 : Int) (x55 : List (List FV)) (x56 : Int) (h0_0l : Nat) (h0_1l : Nat) (h1 : List (List FV)) (h2 : List (List FV)) (h3_0 : Int) (h3_1 : List UInt8) (h3_2 : Int) (h3_3 : List (List FV)) (h4_0 : Int) (h4_1 : Int) (r : TV) (Hs' : List AObj) : vcP Try.prog sh lv15 15 3 (fun r0 Hs0 => TV.Le r0 r ∧ Hs0 = Hs') (RPt Try.prog 15 3 r Hs') 1 ⟨[(0, (.c (.a (.ep 0 2 0 0)))), (2, (.c (.a (.fz (.int .i64 x2))))), (10, (.c (.a (.ep 3 4 0 0)))), (13, (.c (.a (.ep 4 2 0 0)))), (55, (.c (.a (.fz (.sl false 4 x55))))), (56, (.c (.a (.fz (.int .i64 x56))))), (57, (.c (.a (.fz (.int .i64 (2 : Int))))))], [(0, (.arr 2 [[(.a (.osl 1 6 0 h0_0l)), (.a (.osl 2 1 0 h0_1l))]])), (1, (.arz 6 h1)), (2, (.arz 1 h2)), (3, (.arr 4 [[(.a (.fz (.int .i64 h3_0))), (.a (.fz (.str h3_1))), (.a (.fz (.int .i64 h3_2))), (.a (.fz (.sl false 4 h3_3)))]])), (4, (.arr 2 [[(.a (.fz (.int .i64 h4_0))), (.a (.fz (.int .i64 h4_1)))]]))], 5⟩ =
    (br (decide (((2 : Int) : Int) < x56)) (((FV.isSl 4 (.sl false 4 x55) = true) ∧ ((0 ≤ (2 : Int)) ∧ (((2 : Int) < (((List.length x55) : Nat) : Int)) ∧ (((rE (List.getD x55 2 [])) : List FV) = (List.getD x55 2 []))))) ∧ (∃ n1 : Int, (∃ n2 : Int, (∃ n3 : Int, ((AC Try.prog 15 [(.c (.a (.ep 0 2 0 0))), (aE (List.getD x55 2 [])), (.c (.a (.fz (.int .i64 x2))))] [(.arr 2 [[(.a (.osl 1 6 0 h0_0l)), (.a (.osl 2 1 0 h0_1l))]]), (.arz 6 h1), (.arz 1 h2)] (.tup [(false, [(.a (.fz (.int .i64 n1)))]), (false, [(.a (.fz (.int .i64 n2)))]), (false, [(.a (.fz (.int .i64 n3)))])]) [(.arr 2 [[(.a (.osl 1 6 0 h0_0l)), (.a (.osl 2 1 0 h0_1l))]]), (.arz 6 h1), (.arz 1 h2)]) ∧ ((0 ≤ (2 : Int) ∧ (2 : Int) < ((2 : Nat) : Int)) ∧ False)))))) ((0 ≤ (0 : Int) ∧ (0 : Int) < ((2 : Nat) : Int)) ∧ ((0 ≤ (1 : Int) ∧ (1 : Int) < ((2 : Nat) : Int)) ∧ (∃ n4 : Int, (∃ n5 : Int, ((AC Try.prog 7 [(.c (.a (.fz (.str h3_1)))), (.c (.a (.fz (.int .i64 h4_0)))), (.c (.a (.fz (.int .i64 h4_1))))] [] (.tup [(false, [(.a (.fz (.int .i64 n4)))]), (false, [(.a (.fz (.int .i64 n5)))])]) []) ∧ (br ((n5 : Int) != (0 : Int)) (TV.Le (.tup [(false, [(.a (.fz (.int .i64 (0 : Int))))]), (false, [(.a (.fz (.int .i64 (0 : Int))))]), (false, [(.a (.fz (.int .i64 n5)))])]) r ∧ [(.arr 2 [[(.a (.osl 1 6 0 h0_0l)), (.a (.osl 2 1 0 h0_1l))]]), (.arz 6 h1), (.arz 1 h2)] = Hs') (TV.Le (.tup [(false, [(.a (.fz (.int .i64 n4)))]), (false, [(.a (.fz (.int .i64 x2)))]), (false, [(.a (.fz (.int .i64 (0 : Int))))])]) r ∧ [(.arr 2 [[(.a (.osl 1 6 0 h0_0l)), (.a (.osl 2 1 0 h0_1l))]]), (.arz 6 h1), (.arz 1 h2)] = Hs')))))))) := by kernel_rfl
/-- lambent/arith.sum -/
def lv17 : List (Nat × List Nat) := []
theorem v17 (a : Int) (b : Int) (r : TV) (Hs' : List AObj) : vcE Try.prog sh lv17 17 [(.c (.a (.fz (.int .i64 a)))), (.c (.a (.fz (.int .i64 b))))] [] (fun r0 Hs0 => TV.Le r0 r ∧ Hs0 = Hs') (RPt Try.prog 17 0 r Hs') =
    (br (!(((decide (((IntKind.wrap .i64 (a + b)) : Int) > a)) : Bool) == (decide ((b : Int) > (0 : Int))))) (br ((b : Int) != (0 : Int)) (TV.Le (.tup [(false, [(.a (.fz (.int .i64 (0 : Int))))]), (false, [(.a (.fz (.int .i64 (182 : Int))))])]) r ∧ [] = Hs') (TV.Le (.tup [(false, [(.a (.fz (.int .i64 (IntKind.wrap .i64 (a + b)))))]), (false, [(.a (.fz (.int .i64 (0 : Int))))])]) r ∧ [] = Hs')) (TV.Le (.tup [(false, [(.a (.fz (.int .i64 (IntKind.wrap .i64 (a + b)))))]), (false, [(.a (.fz (.int .i64 (0 : Int))))])]) r ∧ [] = Hs')) := by kernel_rfl
/-- lambent/arith.size -/
def lv19 : List (Nat × List Nat) := []
theorem v19 (a : Int) (r : TV) (Hs' : List AObj) : vcE Try.prog sh lv19 19 [(.c (.a (.fz (.int .i64 a))))] [] (fun r0 Hs0 => TV.Le r0 r ∧ Hs0 = Hs') (RPt Try.prog 19 0 r Hs') =
    (br (decide ((a : Int) < (0 : Int))) (TV.Le (.c (.a (.fz (.int .u64 (IntKind.wrap .u64 (0 - (IntKind.wrap .u64 a))))))) r ∧ [] = Hs') (TV.Le (.c (.a (.fz (.int .u64 (IntKind.wrap .u64 a))))) r ∧ [] = Hs')) := by kernel_rfl
/-- lambent/arith.signed -/
def lv18 : List (Nat × List Nat) := []
theorem v18 (minus : Bool) (high : Int) (low : Int) (r : TV) (Hs' : List AObj) : vcE Try.prog sh lv18 18 [(.c (.a (.fz (.bool minus)))), (.c (.a (.fz (.int .u64 high)))), (.c (.a (.fz (.int .u64 low))))] [] (fun r0 Hs0 => TV.Le r0 r ∧ Hs0 = Hs') (RPt Try.prog 18 0 r Hs') =
    (br minus (br (decide ((high : Int) > (0 : Int))) (TV.Le (.tup [(false, [(.a (.fz (.int .i64 (0 : Int))))]), (false, [(.a (.fz (.int .i64 (182 : Int))))])]) r ∧ [] = Hs') (br (decide ((low : Int) > (9223372036854775808 : Int))) (TV.Le (.tup [(false, [(.a (.fz (.int .i64 (0 : Int))))]), (false, [(.a (.fz (.int .i64 (182 : Int))))])]) r ∧ [] = Hs') (br minus (TV.Le (.tup [(false, [(.a (.fz (.int .i64 (IntKind.wrap .i64 (IntKind.wrap .u64 (0 - low))))))]), (false, [(.a (.fz (.int .i64 (0 : Int))))])]) r ∧ [] = Hs') (TV.Le (.tup [(false, [(.a (.fz (.int .i64 (IntKind.wrap .i64 low))))]), (false, [(.a (.fz (.int .i64 (0 : Int))))])]) r ∧ [] = Hs')))) (br (decide ((high : Int) > (0 : Int))) (TV.Le (.tup [(false, [(.a (.fz (.int .i64 (0 : Int))))]), (false, [(.a (.fz (.int .i64 (182 : Int))))])]) r ∧ [] = Hs') (br (decide ((low : Int) > (9223372036854775807 : Int))) (TV.Le (.tup [(false, [(.a (.fz (.int .i64 (0 : Int))))]), (false, [(.a (.fz (.int .i64 (182 : Int))))])]) r ∧ [] = Hs') (br minus (TV.Le (.tup [(false, [(.a (.fz (.int .i64 (IntKind.wrap .i64 (IntKind.wrap .u64 (0 - low))))))]), (false, [(.a (.fz (.int .i64 (0 : Int))))])]) r ∧ [] = Hs') (TV.Le (.tup [(false, [(.a (.fz (.int .i64 (IntKind.wrap .i64 low))))]), (false, [(.a (.fz (.int .i64 (0 : Int))))])]) r ∧ [] = Hs'))))) := by kernel_rfl
/-- lambent/lambentref18.fits -/
def lv21 : List (Nat × List Nat) := []
theorem v21 (a : Int) (b : Int) (r : TV) (Hs' : List AObj) : vcE Try.prog sh lv21 21 [(.c (.a (.fz (.int .i64 a)))), (.c (.a (.fz (.int .i64 b))))] [] (fun r0 Hs0 => TV.Le r0 r ∧ Hs0 = Hs') (RPt Try.prog 21 0 r Hs') =
    (br (decide ((b : Int) > (0 : Int))) (TV.Le (.c (.a (.fz (.bool (decide ((a : Int) ≤ (IntKind.wrap .i64 ((9223372036854775807 : Int) - b)))))))) r ∧ [] = Hs') (TV.Le (.c (.a (.fz (.bool (decide ((a : Int) ≥ (IntKind.wrap .i64 ((-9223372036854775808 : Int) - b)))))))) r ∧ [] = Hs')) := by kernel_rfl
/-- lambent/lambentref18.Times -/
def lv22 : List (Nat × List Nat) := []
theorem v22 (a : Int) (b : Int) (r : TV) (Hs' : List AObj) : vcE Try.prog sh lv22 22 [(.c (.a (.fz (.int .i64 a)))), (.c (.a (.fz (.int .i64 b))))] [] (fun r0 Hs0 => TV.Le r0 r ∧ Hs0 = Hs') (RPt Try.prog 22 0 r Hs') =
    (br ((a : Int) == (0 : Int)) (TV.Le (.tup [(false, [(.a (.fz (.int .i64 (0 : Int))))]), (false, [(.a (.fz (.bool true)))])]) r ∧ [] = Hs') (br ((b : Int) == (0 : Int)) (TV.Le (.tup [(false, [(.a (.fz (.int .i64 (0 : Int))))]), (false, [(.a (.fz (.bool true)))])]) r ∧ [] = Hs') (br ((a : Int) == (-1 : Int)) (TV.Le (.tup [(false, [(.a (.fz (.int .i64 (IntKind.wrap .i64 (a * b)))))]), (false, [(.a (.fz (.bool ((b : Int) != (-9223372036854775808 : Int)))))])]) r ∧ [] = Hs') (br ((b : Int) == (-1 : Int)) (TV.Le (.tup [(false, [(.a (.fz (.int .i64 (IntKind.wrap .i64 (a * b)))))]), (false, [(.a (.fz (.bool ((a : Int) != (-9223372036854775808 : Int)))))])]) r ∧ [] = Hs') ((IntKind.i64 = IntKind.i64 ∧ b ≠ 0) ∧ (br (((IntKind.wrap .i64 (Int.tdiv (IntKind.wrap .i64 (a * b)) b)) : Int) == a) ((IntKind.i64 = IntKind.i64 ∧ b ≠ 0) ∧ (TV.Le (.tup [(false, [(.a (.fz (.int .i64 (IntKind.wrap .i64 (a * b)))))]), (false, [(.a (.fz (.bool (((Int.tmod (IntKind.wrap .i64 (a * b)) b) : Int) == (0 : Int)))))])]) r ∧ [] = Hs')) (TV.Le (.tup [(false, [(.a (.fz (.int .i64 (IntKind.wrap .i64 (a * b)))))]), (false, [(.a (.fz (.bool false)))])]) r ∧ [] = Hs'))))))) := by kernel_rfl
/-- slices.Concat[[]lambent/api.Term,lambent/api.Term] -/
def lv31 : List (Nat × List Nat) := [(1, [0, 3, 9, 10, 11]), (5, [6, 25, 26, 27])]
theorem v31 (slices : List (List FV)) (r : TV) (Hs' : List AObj) : vcE Try.prog sh lv31 31 [(.c (.a (.fz (.sl false 1 slices))))] [] (fun r0 Hs0 => TV.Le r0 r ∧ Hs0 = Hs') (RPt Try.prog 31 0 r Hs') =
    ((FV.isSl 1 (.sl false 1 slices) = true) ∧ (RPt Try.prog 31 0 r Hs' 1 ⟨[(0, (.c (.a (.fz (.sl false 1 slices))))), (3, (.c (.a (.fz (.int .i64 (0 : Int)))))), (9, (.c (.a (.fz (.sl false 1 slices))))), (10, (.c (.a (.fz (.int .i64 (((List.length slices) : Nat) : Int)))))), (11, (.c (.a (.fz (.int .i64 (0 : Int))))))], [], 0⟩)) := by kernel_rfl
theorem v31_1a (x0 : List (List FV)) (x3 : Int) (x9 : List (List FV)) (x10 : Int) (x11 : Int) (r : TV) (Hs' : List AObj) : vcP Try.prog sh lv31 31 0 (fun r0 Hs0 => TV.Le r0 r ∧ Hs0 = Hs') (RPt Try.prog 31 0 r Hs') 1 ⟨[(0, (.c (.a (.fz (.sl false 1 x0))))), (3, (.c (.a (.fz (.int .i64 x3))))), (9, (.c (.a (.fz (.sl false 1 x9))))), (10, (.c (.a (.fz (.int .i64 x10))))), (11, (.c (.a (.fz (.int .i64 x11)))))], [], 0⟩ =
    (br (decide ((x11 : Int) < x10)) (((FV.isSl 1 (.sl false 1 x9) = true) ∧ ((0 ≤ x11) ∧ ((x11 < (((List.length x9) : Nat) : Int)) ∧ (([(List.getD (List.getD x9 (Int.toNat x11) []) 0 FV.nils)] : List FV) = (List.getD x9 (Int.toNat x11) []))))) ∧ ((FV.isSl 4 (List.getD (List.getD x9 (Int.toNat x11) []) 0 FV.nils) = true) ∧ (br (decide (((IntKind.wrap .i64 (x3 + (((List.length (FV.ses (List.getD (List.getD x9 (Int.toNat x11) []) 0 FV.nils))) : Nat) : Int))) : Int) < (0 : Int))) False (RPt Try.prog 31 0 r Hs' 1 ⟨[(0, (.c (.a (.fz (.sl false 1 x0))))), (3, (.c (.a (.fz (.int .i64 (IntKind.wrap .i64 (x3 + (((List.length (FV.ses (List.getD (List.getD x9 (Int.toNat x11) []) 0 FV.nils))) : Nat) : Int)))))))), (9, (.c (.a (.fz (.sl false 1 x9))))), (10, (.c (.a (.fz (.int .i64 x10))))), (11, (.c (.a (.fz (.int .i64 (IntKind.wrap .i64 (x11 + (1 : Int))))))))], [], 0⟩)))) ((∃ _ : Unit, ((AC Try.prog 42 [(.c (.a (.fz .nils))), (.c (.a (.fz (.int .i64 x3))))] [] (.c (.a (.fz .nils))) []) ∧ ((FV.isSl 1 (.sl false 1 x0) = true) ∧ (RPt Try.prog 31 0 r Hs' 5 ⟨[(6, (.c (.a (.fz .nils)))), (25, (.c (.a (.fz (.sl false 1 x0))))), (26, (.c (.a (.fz (.int .i64 (((List.length x0) : Nat) : Int)))))), (27, (.c (.a (.fz (.int .i64 (0 : Int))))))], [], 0⟩)))) ∨ (∃ _ : Unit, ((AC Try.prog 42 [(.c (.a (.fz .nils))), (.c (.a (.fz (.int .i64 x3))))] [] (.c (.a (.osl 0 4 0 0))) [(.arz 4 [])]) ∧ ((FV.isSl 1 (.sl false 1 x0) = true) ∧ (RPt Try.prog 31 0 r Hs' 5 ⟨[(6, (.c (.a (.osl 0 4 0 0)))), (25, (.c (.a (.fz (.sl false 1 x0))))), (26, (.c (.a (.fz (.int .i64 (((List.length x0) : Nat) : Int)))))), (27, (.c (.a (.fz (.int .i64 (0 : Int))))))], [(0, (.arz 4 []))], 1⟩)))))) := by kernel_rfl
theorem v31_5a (x25 : List (List FV)) (x26 : Int) (x27 : Int) (r : TV) (Hs' : List AObj) : vcP Try.prog sh lv31 31 0 (fun r0 Hs0 => TV.Le r0 r ∧ Hs0 = Hs') (RPt Try.prog 31 0 r Hs') 5 ⟨[(6, (.c (.a (.fz .nils)))), (25, (.c (.a (.fz (.sl false 1 x25))))), (26, (.c (.a (.fz (.int .i64 x26))))), (27, (.c (.a (.fz (.int .i64 x27)))))], [], 0⟩ =
    (br (decide ((x27 : Int) < x26)) (((FV.isSl 1 (.sl false 1 x25) = true) ∧ ((0 ≤ x27) ∧ ((x27 < (((List.length x25) : Nat) : Int)) ∧ (([(List.getD (List.getD x25 (Int.toNat x27) []) 0 FV.nils)] : List FV) = (List.getD x25 (Int.toNat x27) []))))) ∧ ((FV.isSl 4 (List.getD (List.getD x25 (Int.toNat x27) []) 0 FV.nils) = true) ∧ (br (List.isEmpty (FV.ses (List.getD (List.getD x25 (Int.toNat x27) []) 0 FV.nils))) (RPt Try.prog 31 0 r Hs' 5 ⟨[(6, (.c (.a (.fz .nils)))), (25, (.c (.a (.fz (.sl false 1 x25))))), (26, (.c (.a (.fz (.int .i64 x26))))), (27, (.c (.a (.fz (.int .i64 (IntKind.wrap .i64 (x27 + (1 : Int))))))))], [], 0⟩) ((roomB (List.length (FV.ses (List.getD (List.getD x25 (Int.toNat x27) []) 0 FV.nils))) 56) ∧ (RPt Try.prog 31 0 r Hs' 5 ⟨[(6, (.c (.a (.osl 0 4 0 (List.length (FV.ses (List.getD (List.getD x25 (Int.toNat x27) []) 0 FV.nils))))))), (25, (.c (.a (.fz (.sl false 1 x25))))), (26, (.c (.a (.fz (.int .i64 x26))))), (27, (.c (.a (.fz (.int .i64 (IntKind.wrap .i64 (x27 + (1 : Int))))))))], [(0, (.arz 4 (FV.ses (List.getD (List.getD x25 (Int.toNat x27) []) 0 FV.nils))))], 1⟩))))) (TV.Le (.c (.a (.fz .nils))) r ∧ [] = Hs')) := by kernel_rfl
theorem v31_5b (x6l : Nat) (x25 : List (List FV)) (x26 : Int) (x27 : Int) (h0 : List (List FV)) (r : TV) (Hs' : List AObj) : vcP Try.prog sh lv31 31 0 (fun r0 Hs0 => TV.Le r0 r ∧ Hs0 = Hs') (RPt Try.prog 31 0 r Hs') 5 ⟨[(6, (.c (.a (.osl 0 4 0 x6l)))), (25, (.c (.a (.fz (.sl false 1 x25))))), (26, (.c (.a (.fz (.int .i64 x26))))), (27, (.c (.a (.fz (.int .i64 x27)))))], [(0, (.arz 4 h0))], 1⟩ =
    (br (decide ((x27 : Int) < x26)) (((FV.isSl 1 (.sl false 1 x25) = true) ∧ ((0 ≤ x27) ∧ ((x27 < (((List.length x25) : Nat) : Int)) ∧ (([(List.getD (List.getD x25 (Int.toNat x27) []) 0 FV.nils)] : List FV) = (List.getD x25 (Int.toNat x27) []))))) ∧ ((FV.isSl 4 (List.getD (List.getD x25 (Int.toNat x27) []) 0 FV.nils) = true) ∧ ((x6l ≤ (List.length h0) ∧ roomB (x6l + (List.length (FV.ses (List.getD (List.getD x25 (Int.toNat x27) []) 0 FV.nils)))) 56) ∧ (RPt Try.prog 31 0 r Hs' 5 ⟨[(6, (.c (.a (.osl 0 4 0 (x6l + (List.length (FV.ses (List.getD (List.getD x25 (Int.toNat x27) []) 0 FV.nils)))))))), (25, (.c (.a (.fz (.sl false 1 x25))))), (26, (.c (.a (.fz (.int .i64 x26))))), (27, (.c (.a (.fz (.int .i64 (IntKind.wrap .i64 (x27 + (1 : Int))))))))], [(0, (.arz 4 ((List.take x6l h0) ++ (FV.ses (List.getD (List.getD x25 (Int.toNat x27) []) 0 FV.nils)))))], 1⟩)))) (((4 : Nat) = 4 ∧ (0 + x6l) ≤ (List.length h0)) ∧ (TV.Le (.c (.a (.fz (.sl false 4 (List.take x6l (List.drop 0 h0)))))) r ∧ [] = Hs'))) := by kernel_rfl
/-- (*lambent/store.Store).Head -/
def lv28 : List (Nat × List Nat) := []
theorem v28 (t_0 : Int) (t_1 : List UInt8) (t_2 : Int) (t_3 : List (List FV)) (fuel : Int) (o0_0l : Nat) (o0_1l : Nat) (o1 : List (List FV)) (o2 : List (List FV)) (r : TV) (Hs' : List AObj) : vcE Try.prog sh lv28 28 [(.c (.a (.ep 0 2 0 0))), (.agg [(.a (.fz (.int .i64 t_0))), (.a (.fz (.str t_1))), (.a (.fz (.int .i64 t_2))), (.a (.fz (.sl false 4 t_3)))]), (.c (.a (.fz (.int .i64 fuel))))] [(.arr 2 [[(.a (.osl 1 6 0 o0_0l)), (.a (.osl 2 1 0 o0_1l))]]), (.arz 6 o1), (.arz 1 o2)] (fun r0 Hs0 => TV.Le r0 r ∧ Hs0 = Hs') (RPt Try.prog 28 3 r Hs') =
    (∃ z1 : Tm × Int × Int, ((AC Try.prog 39 [(.agg [(.a (.fz (.int .i64 t_0))), (.a (.fz (.str t_1))), (.a (.fz (.int .i64 t_2))), (.a (.fz (.sl false 4 t_3)))]), (.c (.a (.fz (.int .i64 fuel)))), (.c (.fn (.func 40) [(false, [(.ep 0 2 0 0)])] []))] [(.arr 2 [[(.a (.osl 1 6 0 o0_0l)), (.a (.osl 2 1 0 o0_1l))]]), (.arz 6 o1), (.arz 1 o2)] (.tup [(true, (cT z1.1)), (false, [(.a (.fz (.int .i64 z1.2.1)))]), (false, [(.a (.fz (.int .i64 z1.2.2)))])]) [(.arr 2 [[(.a (.osl 1 6 0 o0_0l)), (.a (.osl 2 1 0 o0_1l))]]), (.arz 6 o1), (.arz 1 o2)]) ∧ (TV.Le (.tup [(true, (cT z1.1)), (false, [(.a (.fz (.int .i64 z1.2.1)))]), (false, [(.a (.fz (.int .i64 z1.2.2)))])]) r ∧ [(.arr 2 [[(.a (.osl 1 6 0 o0_0l)), (.a (.osl 2 1 0 o0_1l))]]), (.arz 6 o1), (.arz 1 o2)] = Hs'))) := by kernel_rfl
/-- lambent/clause.Split -/
def lv29 : List (Nat × List Nat) := []
theorem v29 (t_0 : Int) (t_1 : List UInt8) (t_2 : Int) (t_3 : List (List FV)) (r : TV) (Hs' : List AObj) : vcE Try.prog sh lv29 29 [(.agg [(.a (.fz (.int .i64 t_0))), (.a (.fz (.str t_1))), (.a (.fz (.int .i64 t_2))), (.a (.fz (.sl false 4 t_3)))])] [] (fun r0 Hs0 => TV.Le r0 r ∧ Hs0 = Hs') (RPt Try.prog 29 0 r Hs') =
    (br ((t_0 : Int) != (6 : Int)) (TV.Le (.tup [(true, [(.a (.fz (.int .i64 t_0))), (.a (.fz (.str t_1))), (.a (.fz (.int .i64 t_2))), (.a (.fz (.sl false 4 t_3)))]), (false, [(.a (.fz .nils))])]) r ∧ [] = Hs') (∃ b1 : Bool, ((AC Try.prog 13 [(.agg [(.a (.fz (.int .i64 t_0))), (.a (.fz (.str t_1))), (.a (.fz (.int .i64 t_2))), (.a (.fz (.sl false 4 t_3)))])] [] (.c (.a (.fz (.bool b1)))) []) ∧ (br (!b1) (TV.Le (.tup [(true, [(.a (.fz (.int .i64 t_0))), (.a (.fz (.str t_1))), (.a (.fz (.int .i64 t_2))), (.a (.fz (.sl false 4 t_3)))]), (false, [(.a (.fz .nils))])]) r ∧ [] = Hs') (((FV.isSl 4 (.sl false 4 t_3) = true) ∧ ((0 ≤ (0 : Int)) ∧ (((0 : Int) < (((List.length t_3) : Nat) : Int)) ∧ (((rE (List.getD t_3 0 [])) : List FV) = (List.getD t_3 0 []))))) ∧ ((FV.isSl 4 (.sl false 4 t_3) = true) ∧ (((0 ≤ (1 : Int)) ∧ (((1 : Int) ≤ (((List.length t_3) : Nat) : Int)) ∧ ((((List.length t_3) : Nat) : Int) ≤ (((List.length t_3) : Nat) : Int)))) ∧ ((∃ z2 : Bool, ((AC Try.prog 41 [(.c (.a (.fz (.sl false 4 (List.drop 1 (List.take (Int.toNat (((List.length t_3) : Nat) : Int)) t_3))))))] [] (.c (.a (.fz (.sl z2 4 [])))) []) ∧ (TV.Le (.tup [(true, (cE (List.getD t_3 0 []))), (false, [(.a (.fz (.sl z2 4 [])))])]) r ∧ [] = Hs'))) ∨ (∃ z3 : List (List FV), ((AC Try.prog 41 [(.c (.a (.fz (.sl false 4 (List.drop 1 (List.take (Int.toNat (((List.length t_3) : Nat) : Int)) t_3))))))] [] (.c (.a (.osl 0 4 0 (List.length z3)))) [(.arz 4 z3)]) ∧ (((4 : Nat) = 4 ∧ (0 + (List.length z3)) ≤ (List.length z3)) ∧ (TV.Le (.tup [(true, (cE (List.getD t_3 0 []))), (false, [(.a (.fz (.sl false 4 (List.take (List.length z3) (List.drop 0 z3)))))])]) r ∧ [] = Hs')))))))))))) := by kernel_rfl
/-- lambent/arith.args -/
def lv30 : List (Nat × List Nat) := []
theorem v30 (op : List UInt8) (r : TV) (Hs' : List AObj) : vcE Try.prog sh lv30 30 [(.c (.a (.fz (.str op))))] [] (fun r0 Hs0 => TV.Le r0 r ∧ Hs0 = Hs') (RPt Try.prog 30 0 r Hs') =
    (br ((op : List UInt8) == [43]) (TV.Le (.c (.a (.fz (.int .i64 (2 : Int))))) r ∧ [] = Hs') (br ((op : List UInt8) == [45]) (TV.Le (.c (.a (.fz (.int .i64 (2 : Int))))) r ∧ [] = Hs') (br ((op : List UInt8) == [42]) (TV.Le (.c (.a (.fz (.int .i64 (2 : Int))))) r ∧ [] = Hs') (br ((op : List UInt8) == [100, 105, 118]) (TV.Le (.c (.a (.fz (.int .i64 (2 : Int))))) r ∧ [] = Hs') (br ((op : List UInt8) == [109, 111, 100]) (TV.Le (.c (.a (.fz (.int .i64 (2 : Int))))) r ∧ [] = Hs') (br ((op : List UInt8) == [126]) (TV.Le (.c (.a (.fz (.int .i64 (1 : Int))))) r ∧ [] = Hs') (TV.Le (.c (.a (.fz (.int .i64 (0 : Int))))) r ∧ [] = Hs'))))))) := by kernel_rfl
/-- slices.Grow[[]lambent/api.Term,lambent/api.Term] -/
def lv42 : List (Nat × List Nat) := []
theorem v42 (n : Int) (r : TV) (Hs' : List AObj) : vcE Try.prog sh lv42 42 [(.c (.a (.fz .nils))), (.c (.a (.fz (.int .i64 n))))] [] (fun r0 Hs0 => TV.Le r0 r ∧ Hs0 = Hs') (RPt Try.prog 42 0 r Hs') =
    (br (decide ((n : Int) < (0 : Int))) False ((FV.isSl 4 .nils = true) ∧ (br (decide (((IntKind.wrap .i64 (n - (0 : Int))) : Int) > (0 : Int))) ((FV.isSl 4 .nils = true) ∧ (((0 ≤ (0 : Int)) ∧ (((0 : Int) ≤ (0 : Int)) ∧ ((0 : Int) ≤ ((0 : Nat) : Int)))) ∧ ((0 < (IntKind.wrap .i64 (n - (0 : Int))) ∧ roomB (Int.toNat (IntKind.wrap .i64 (n - (0 : Int)))) 56) ∧ ((FV.isSl 4 .nils = true) ∧ (((0 ≤ (0 : Int)) ∧ (((0 : Int) ≤ (0 : Int)) ∧ ((0 : Int) ≤ (((Int.toNat (IntKind.wrap .i64 (n - (0 : Int)))) : Nat) : Int)))) ∧ (TV.Le (.c (.a (.osl 0 4 0 0))) r ∧ [(.arz 4 [])] = Hs')))))) (TV.Le (.c (.a (.fz .nils))) r ∧ [] = Hs')))) := by kernel_rfl
/-- lambent/store.run -/
def lv39 : List (Nat × List Nat) := []
theorem v39_F40 (t_0 : Int) (t_1 : List UInt8) (t_2 : Int) (t_3 : List (List FV)) (fuel : Int) (o0_0l : Nat) (o0_1l : Nat) (o1 : List (List FV)) (o2 : List (List FV)) (r : TV) (Hs' : List AObj) : vcE Try.prog sh lv39 39 [(.agg [(.a (.fz (.int .i64 t_0))), (.a (.fz (.str t_1))), (.a (.fz (.int .i64 t_2))), (.a (.fz (.sl false 4 t_3)))]), (.c (.a (.fz (.int .i64 fuel)))), (.c (.fn (.func 40) [(false, [(.ep 0 2 0 0)])] []))] [(.arr 2 [[(.a (.osl 1 6 0 o0_0l)), (.a (.osl 2 1 0 o0_1l))]]), (.arz 6 o1), (.arz 1 o2)] (fun r0 Hs0 => TV.Le r0 r ∧ Hs0 = Hs') (RPt Try.prog 39 3 r Hs') =
    (∃ b1 : Bool, ((AC Try.prog 13 [(.agg [(.a (.fz (.int .i64 t_0))), (.a (.fz (.str t_1))), (.a (.fz (.int .i64 t_2))), (.a (.fz (.sl false 4 t_3)))])] [] (.c (.a (.fz (.bool b1)))) []) ∧ (br (!b1) (TV.Le (.tup [(true, [(.a (.fz (.int .i64 (0 : Int)))), (.a (.fz (.str []))), (.a (.fz (.int .i64 (0 : Int)))), (.a (.fz .nils))]), (false, [(.a (.fz (.int .i64 (0 : Int))))]), (false, [(.a (.fz (.int .i64 (1 : Int))))])]) r ∧ [(.arr 2 [[(.a (.osl 1 6 0 o0_0l)), (.a (.osl 2 1 0 o0_1l))]]), (.arz 6 o1), (.arz 1 o2)] = Hs') (∃ z2 : Tm × Int × Int, ((AC Try.prog 40 [(.c (.a (.ep 0 2 0 0))), (.agg [(.a (.fz (.int .i64 t_0))), (.a (.fz (.str t_1))), (.a (.fz (.int .i64 t_2))), (.a (.fz (.sl false 4 t_3)))]), (.c (.a (.ep 3 1 0 0)))] [(.arr 2 [[(.a (.osl 1 6 0 o0_0l)), (.a (.osl 2 1 0 o0_1l))]]), (.arz 6 o1), (.arz 1 o2), (.arr 1 [[(.a (.fz (.int .i64 fuel)))]])] (.tup [(true, (cT z2.1)), (false, [(.a (.fz (.int .i64 z2.2.1)))])]) [(.arr 2 [[(.a (.osl 1 6 0 o0_0l)), (.a (.osl 2 1 0 o0_1l))]]), (.arz 6 o1), (.arz 1 o2), (.arr 1 [[(.a (.fz (.int .i64 z2.2.2)))]])]) ∧ (br ((z2.2.1 : Int) != (0 : Int)) (TV.Le (.tup [(true, [(.a (.fz (.int .i64 (0 : Int)))), (.a (.fz (.str []))), (.a (.fz (.int .i64 (0 : Int)))), (.a (.fz .nils))]), (false, [(.a (.fz (.int .i64 (0 : Int))))]), (false, [(.a (.fz (.int .i64 z2.2.1)))])]) r ∧ [(.arr 2 [[(.a (.osl 1 6 0 o0_0l)), (.a (.osl 2 1 0 o0_1l))]]), (.arz 6 o1), (.arz 1 o2)] = Hs') (TV.Le (.tup [(true, (cT z2.1)), (false, [(.a (.fz (.int .i64 z2.2.2)))]), (false, [(.a (.fz (.int .i64 (0 : Int))))])]) r ∧ [(.arr 2 [[(.a (.osl 1 6 0 o0_0l)), (.a (.osl 2 1 0 o0_1l))]]), (.arz 6 o1), (.arz 1 o2)] = Hs'))))))) := by kernel_rfl
/-- lambent/term.Valid -/
def lv13 : List (Nat × List Nat) := []
theorem v13 (t_0 : Int) (t_1 : List UInt8) (t_2 : Int) (t_3 : List (List FV)) (r : TV) (Hs' : List AObj) : vcE Try.prog sh lv13 13 [(.agg [(.a (.fz (.int .i64 t_0))), (.a (.fz (.str t_1))), (.a (.fz (.int .i64 t_2))), (.a (.fz (.sl false 4 t_3)))])] [] (fun r0 Hs0 => TV.Le r0 r ∧ Hs0 = Hs') (RPt Try.prog 13 0 r Hs') =
    (br ((t_0 : Int) == (0 : Int)) (∃ b1 : Bool, ((AC Try.prog 24 [(.c (.a (.fz (.str t_1))))] [] (.c (.a (.fz (.bool b1)))) []) ∧ (br b1 (br ((t_2 : Int) == (0 : Int)) ((FV.isSl 4 (.sl false 4 t_3) = true) ∧ (TV.Le (.c (.a (.fz (.bool (((((List.length t_3) : Nat) : Int) : Int) == (0 : Int)))))) r ∧ [] = Hs')) (TV.Le (.c (.a (.fz (.bool false)))) r ∧ [] = Hs')) (∃ b2 : Bool, ((AC Try.prog 25 [(.c (.a (.fz (.str t_1))))] [] (.c (.a (.fz (.bool b2)))) []) ∧ (br b2 (br ((t_2 : Int) == (0 : Int)) ((FV.isSl 4 (.sl false 4 t_3) = true) ∧ (TV.Le (.c (.a (.fz (.bool (((((List.length t_3) : Nat) : Int) : Int) == (0 : Int)))))) r ∧ [] = Hs')) (TV.Le (.c (.a (.fz (.bool false)))) r ∧ [] = Hs')) (TV.Le (.c (.a (.fz (.bool false)))) r ∧ [] = Hs'))))))) (br ((t_0 : Int) == (1 : Int)) (br (decide ((t_2 : Int) ≥ (1 : Int))) (br ((t_1 : List UInt8) == []) ((FV.isSl 4 (.sl false 4 t_3) = true) ∧ (br (((((List.length t_3) : Nat) : Int) : Int) == (0 : Int)) (∃ b3 : Bool, ((AC Try.prog 26 [(.c (.a (.fz (.sl false 4 t_3)))), (.c (.fn (.func 27) [] []))] [] (.c (.a (.fz (.bool b3)))) []) ∧ (TV.Le (.c (.a (.fz (.bool (!b3))))) r ∧ [] = Hs'))) (TV.Le (.c (.a (.fz (.bool false)))) r ∧ [] = Hs'))) (TV.Le (.c (.a (.fz (.bool false)))) r ∧ [] = Hs')) (TV.Le (.c (.a (.fz (.bool false)))) r ∧ [] = Hs')) (br ((t_0 : Int) == (2 : Int)) (br ((t_1 : List UInt8) == []) ((FV.isSl 4 (.sl false 4 t_3) = true) ∧ (br (((((List.length t_3) : Nat) : Int) : Int) == (0 : Int)) (∃ b4 : Bool, ((AC Try.prog 26 [(.c (.a (.fz (.sl false 4 t_3)))), (.c (.fn (.func 27) [] []))] [] (.c (.a (.fz (.bool b4)))) []) ∧ (TV.Le (.c (.a (.fz (.bool (!b4))))) r ∧ [] = Hs'))) (TV.Le (.c (.a (.fz (.bool false)))) r ∧ [] = Hs'))) (TV.Le (.c (.a (.fz (.bool false)))) r ∧ [] = Hs')) (br ((t_0 : Int) == (3 : Int)) (br (decide ((t_2 : Int) ≥ (0 : Int))) (br (decide ((t_2 : Int) ≤ (4611686018427387904 : Int))) (br ((t_1 : List UInt8) == []) ((FV.isSl 4 (.sl false 4 t_3) = true) ∧ (br (((((List.length t_3) : Nat) : Int) : Int) == (0 : Int)) (∃ b5 : Bool, ((AC Try.prog 26 [(.c (.a (.fz (.sl false 4 t_3)))), (.c (.fn (.func 27) [] []))] [] (.c (.a (.fz (.bool b5)))) []) ∧ (TV.Le (.c (.a (.fz (.bool (!b5))))) r ∧ [] = Hs'))) (TV.Le (.c (.a (.fz (.bool false)))) r ∧ [] = Hs'))) (TV.Le (.c (.a (.fz (.bool false)))) r ∧ [] = Hs')) (TV.Le (.c (.a (.fz (.bool false)))) r ∧ [] = Hs')) (TV.Le (.c (.a (.fz (.bool false)))) r ∧ [] = Hs')) (br ((t_0 : Int) == (4 : Int)) (br (decide ((t_2 : Int) ≥ (0 : Int))) (br (decide ((t_2 : Int) ≤ (4611686018427387904 : Int))) (br ((t_1 : List UInt8) == []) ((FV.isSl 4 (.sl false 4 t_3) = true) ∧ (br (((((List.length t_3) : Nat) : Int) : Int) == (0 : Int)) (∃ b6 : Bool, ((AC Try.prog 26 [(.c (.a (.fz (.sl false 4 t_3)))), (.c (.fn (.func 27) [] []))] [] (.c (.a (.fz (.bool b6)))) []) ∧ (TV.Le (.c (.a (.fz (.bool (!b6))))) r ∧ [] = Hs'))) (TV.Le (.c (.a (.fz (.bool false)))) r ∧ [] = Hs'))) (TV.Le (.c (.a (.fz (.bool false)))) r ∧ [] = Hs')) (TV.Le (.c (.a (.fz (.bool false)))) r ∧ [] = Hs')) (TV.Le (.c (.a (.fz (.bool false)))) r ∧ [] = Hs')) (br ((t_0 : Int) == (5 : Int)) (br ((t_2 : Int) == (0 : Int)) (br ((t_1 : List UInt8) == []) ((FV.isSl 4 (.sl false 4 t_3) = true) ∧ (br (((((List.length t_3) : Nat) : Int) : Int) == (1 : Int)) (∃ b7 : Bool, ((AC Try.prog 26 [(.c (.a (.fz (.sl false 4 t_3)))), (.c (.fn (.func 27) [] []))] [] (.c (.a (.fz (.bool b7)))) []) ∧ (TV.Le (.c (.a (.fz (.bool (!b7))))) r ∧ [] = Hs'))) (TV.Le (.c (.a (.fz (.bool false)))) r ∧ [] = Hs'))) (TV.Le (.c (.a (.fz (.bool false)))) r ∧ [] = Hs')) (TV.Le (.c (.a (.fz (.bool false)))) r ∧ [] = Hs')) (br ((t_0 : Int) == (6 : Int)) (br ((t_2 : Int) == (0 : Int)) ((FV.isSl 4 (.sl false 4 t_3) = true) ∧ (br (decide (((((List.length t_3) : Nat) : Int) : Int) ≥ (2 : Int))) (((FV.isSl 4 (.sl false 4 t_3) = true) ∧ ((0 ≤ (0 : Int)) ∧ (((0 : Int) < (((List.length t_3) : Nat) : Int)) ∧ (((rE (List.getD t_3 0 [])) : List FV) = (List.getD t_3 0 []))))) ∧ ((FV.isSl 4 (.sl false 4 t_3) = true) ∧ (br (((FV.asI (List.getD (List.getD t_3 0 []) 0 FV.nils)) : Int) != (6 : Int)) (br ((t_1 : List UInt8) == []) ((FV.isSl 4 (.sl false 4 t_3) = true) ∧ (br (((((List.length t_3) : Nat) : Int) : Int) == (((List.length t_3) : Nat) : Int)) (∃ b8 : Bool, ((AC Try.prog 26 [(.c (.a (.fz (.sl false 4 t_3)))), (.c (.fn (.func 27) [] []))] [] (.c (.a (.fz (.bool b8)))) []) ∧ (TV.Le (.c (.a (.fz (.bool (!b8))))) r ∧ [] = Hs'))) (TV.Le (.c (.a (.fz (.bool false)))) r ∧ [] = Hs'))) (TV.Le (.c (.a (.fz (.bool false)))) r ∧ [] = Hs')) (TV.Le (.c (.a (.fz (.bool false)))) r ∧ [] = Hs')))) ((FV.isSl 4 (.sl false 4 t_3) = true) ∧ (TV.Le (.c (.a (.fz (.bool false)))) r ∧ [] = Hs')))) ((FV.isSl 4 (.sl false 4 t_3) = true) ∧ (TV.Le (.c (.a (.fz (.bool false)))) r ∧ [] = Hs'))) (TV.Le (.c (.a (.fz (.bool false)))) r ∧ [] = Hs')))))))) := by kernel_rfl
/-- slices.Clone[[]lambent/api.Term,lambent/api.Term] -/
def lv41 : List (Nat × List Nat) := []
theorem v41  (r : TV) (Hs' : List AObj) : vcE Try.prog sh lv41 41 [(.c (.a (.fz .nils)))] [] (fun r0 Hs0 => TV.Le r0 r ∧ Hs0 = Hs') (RPt Try.prog 41 0 r Hs') =
    (TV.Le (.c (.a (.fz .nils))) r ∧ [] = Hs') := by kernel_rfl
/-- slices.Clone[[]lambent/api.Term,lambent/api.Term] -/
theorem v41_i1 (s : List (List FV)) (r : TV) (Hs' : List AObj) : vcE Try.prog sh lv41 41 [(.c (.a (.fz (.sl true 4 s))))] [] (fun r0 Hs0 => TV.Le r0 r ∧ Hs0 = Hs') (RPt Try.prog 41 0 r Hs') =
    ((FV.isSl 4 (.sl true 4 s) = true) ∧ ((0 ≤ 0 ∧ roomB (0 + (List.length s)) 56) ∧ (TV.Le (.c (.a (.osl 0 4 0 (0 + (List.length s))))) r ∧ [(.arz 4 ([] ++ s))] = Hs'))) := by kernel_rfl
/-- (*lambent/store.Store).head -/
def lv40 : List (Nat × List Nat) := [(1, [0, 2, 4, 6])]
theorem v40 (t_0 : Int) (t_1 : List UInt8) (t_2 : Int) (t_3 : List (List FV)) (o0_0l : Nat) (o0_1l : Nat) (o1 : List (List FV)) (o2 : List (List FV)) (o3_0 : Int) (r : TV) (Hs' : List AObj) : vcE Try.prog sh lv40 40 [(.c (.a (.ep 0 2 0 0))), (.agg [(.a (.fz (.int .i64 t_0))), (.a (.fz (.str t_1))), (.a (.fz (.int .i64 t_2))), (.a (.fz (.sl false 4 t_3)))]), (.c (.a (.ep 3 1 0 0)))] [(.arr 2 [[(.a (.osl 1 6 0 o0_0l)), (.a (.osl 2 1 0 o0_1l))]]), (.arz 6 o1), (.arz 1 o2), (.arr 1 [[(.a (.fz (.int .i64 o3_0)))]])] (fun r0 Hs0 => TV.Le r0 r ∧ Hs0 = Hs') (RPt Try.prog 40 4 r Hs') =
    (RPt Try.prog 40 4 r Hs' 1 ⟨[(0, (.c (.a (.ep 0 2 0 0)))), (2, (.c (.a (.ep 3 1 0 0)))), (4, (.c (.a (.ep 4 4 0 0)))), (6, (.c (.a (.ep 5 4 0 0))))], [(0, (.arr 2 [[(.a (.osl 1 6 0 o0_0l)), (.a (.osl 2 1 0 o0_1l))]])), (1, (.arz 6 o1)), (2, (.arz 1 o2)), (3, (.arr 1 [[(.a (.fz (.int .i64 o3_0)))]])), (4, (.arr 4 [[(.a (.fz (.int .i64 t_0))), (.a (.fz (.str t_1))), (.a (.fz (.int .i64 t_2))), (.a (.fz (.sl false 4 t_3)))]])), (5, (.arr 4 [[(.a (.fz (.int .i64 (0 : Int)))), (.a (.fz (.str []))), (.a (.fz (.int .i64 (0 : Int)))), (.a (.fz .nils))]]))], 6⟩) := by kernel_rfl
theorem v40_1a (h0_0l : Nat) (h0_1l : Nat) (h1 : List (List FV)) (h2 : List (List FV)) (h3_0 : Int) (h4_0 : Int) (h4_1 : List UInt8) (h4_2 : Int) (h4_3 : List (List FV)) (h5_0 : Int) (h5_1 : List UInt8) (h5_2 : Int) (r : TV) (Hs' : List AObj) : vcP Try.prog sh lv40 40 4 (fun r0 Hs0 => TV.Le r0 r ∧ Hs0 = Hs') (RPt Try.prog 40 4 r Hs') 1 ⟨[(0, (.c (.a (.ep 0 2 0 0)))), (2, (.c (.a (.ep 3 1 0 0)))), (4, (.c (.a (.ep 4 4 0 0)))), (6, (.c (.a (.ep 5 4 0 0))))], [(0, (.arr 2 [[(.a (.osl 1 6 0 h0_0l)), (.a (.osl 2 1 0 h0_1l))]])), (1, (.arz 6 h1)), (2, (.arz 1 h2)), (3, (.arr 1 [[(.a (.fz (.int .i64 h3_0)))]])), (4, (.arr 4 [[(.a (.fz (.int .i64 h4_0))), (.a (.fz (.str h4_1))), (.a (.fz (.int .i64 h4_2))), (.a (.fz (.sl false 4 h4_3)))]])), (5, (.arr 4 [[(.a (.fz (.int .i64 h5_0))), (.a (.fz (.str h5_1))), (.a (.fz (.int .i64 h5_2))), (.a (.fz .nils))]]))], 6⟩ =
    (∃ z1 : Tm × Bool × Int, ((AC Try.prog 47 [(.c (.a (.ep 0 2 0 0))), (.agg [(.a (.fz (.int .i64 h4_0))), (.a (.fz (.str h4_1))), (.a (.fz (.int .i64 h4_2))), (.a (.fz (.sl false 4 h4_3)))])] [(.arr 2 [[(.a (.osl 1 6 0 h0_0l)), (.a (.osl 2 1 0 h0_1l))]]), (.arz 6 h1), (.arz 1 h2)] (.tup [(true, (cT z1.1)), (false, [(.a (.fz (.bool z1.2.1)))]), (false, [(.a (.fz (.int .i64 z1.2.2)))])]) [(.arr 2 [[(.a (.osl 1 6 0 h0_0l)), (.a (.osl 2 1 0 h0_1l))]]), (.arz 6 h1), (.arz 1 h2)]) ∧ (br (!z1.2.1) (TV.Le (.tup [(true, [(.a (.fz (.int .i64 h4_0))), (.a (.fz (.str h4_1))), (.a (.fz (.int .i64 h4_2))), (.a (.fz (.sl false 4 h4_3)))]), (false, [(.a (.fz (.int .i64 (0 : Int))))])]) r ∧ [(.arr 2 [[(.a (.osl 1 6 0 h0_0l)), (.a (.osl 2 1 0 h0_1l))]]), (.arz 6 h1), (.arz 1 h2), (.arr 1 [[(.a (.fz (.int .i64 h3_0)))]])] = Hs') (br ((z1.2.2 : Int) != (0 : Int)) (TV.Le (.tup [(true, [(.a (.fz (.int .i64 (0 : Int)))), (.a (.fz (.str []))), (.a (.fz (.int .i64 (0 : Int)))), (.a (.fz .nils))]), (false, [(.a (.fz (.int .i64 (80 : Int))))])]) r ∧ [(.arr 2 [[(.a (.osl 1 6 0 h0_0l)), (.a (.osl 2 1 0 h0_1l))]]), (.arz 6 h1), (.arz 1 h2), (.arr 1 [[(.a (.fz (.int .i64 h3_0)))]])] = Hs') (br (decide ((h3_0 : Int) ≤ (0 : Int))) (TV.Le (.tup [(true, [(.a (.fz (.int .i64 (0 : Int)))), (.a (.fz (.str []))), (.a (.fz (.int .i64 (0 : Int)))), (.a (.fz .nils))]), (false, [(.a (.fz (.int .i64 (80 : Int))))])]) r ∧ [(.arr 2 [[(.a (.osl 1 6 0 h0_0l)), (.a (.osl 2 1 0 h0_1l))]]), (.arz 6 h1), (.arz 1 h2), (.arr 1 [[(.a (.fz (.int .i64 h3_0)))]])] = Hs') (RPt Try.prog 40 4 r Hs' 1 ⟨[(0, (.c (.a (.ep 0 2 0 0)))), (2, (.c (.a (.ep 3 1 0 0)))), (4, (.c (.a (.ep 4 4 0 0)))), (6, (.c (.a (.ep 5 4 0 0))))], [(0, (.arr 2 [[(.a (.osl 1 6 0 h0_0l)), (.a (.osl 2 1 0 h0_1l))]])), (1, (.arz 6 h1)), (2, (.arz 1 h2)), (3, (.arr 1 [[(.a (.fz (.int .i64 (IntKind.wrap .i64 (h3_0 - (1 : Int))))))]])), (4, (.arr 4 [(cT z1.1)])), (5, (.arr 4 [[(.a (.fz (.int .i64 h5_0))), (.a (.fz (.str h5_1))), (.a (.fz (.int .i64 h5_2))), (.a (.fz .nils))]]))], 6⟩)))))) := by kernel_rfl
/-- lambent/lex.IsName -/
def lv24 : List (Nat × List Nat) := []
theorem v24 (s : List UInt8) (r : TV) (Hs' : List AObj) : vcE Try.prog sh lv24 24 [(.c (.a (.fz (.str s))))] [] (fun r0 Hs0 => TV.Le r0 r ∧ Hs0 = Hs') (RPt Try.prog 24 0 r Hs') =
    (∃ b1 : Bool, ((AC Try.prog 32 [(.c (.a (.fz (.str s))))] [] (.c (.a (.fz (.bool b1)))) []) ∧ (br b1 ((0 ≤ (0 : Int) ∧ (0 : Int) < (((List.length s) : Nat) : Int)) ∧ (∃ b2 : Bool, ((AC Try.prog 33 [(.c (.a (.fz (.int .u8 ((UInt8.toNat (List.getD s 0 0) : Nat) : Int)))))] [] (.c (.a (.fz (.bool b2)))) []) ∧ (br b2 (∃ n3 : Int, ((AC Try.prog 34 [(.c (.a (.fz (.str s)))), (.c (.fn (.func 35) [] []))] [] (.c (.a (.fz (.int .i64 n3)))) []) ∧ (TV.Le (.c (.a (.fz (.bool ((n3 : Int) == (((List.length s) : Nat) : Int)))))) r ∧ [] = Hs'))) (TV.Le (.c (.a (.fz (.bool false)))) r ∧ [] = Hs'))))) (TV.Le (.c (.a (.fz (.bool false)))) r ∧ [] = Hs')))) := by kernel_rfl
/-- lambent/lex.IsSym -/
def lv25 : List (Nat × List Nat) := []
theorem v25 (s : List UInt8) (r : TV) (Hs' : List AObj) : vcE Try.prog sh lv25 25 [(.c (.a (.fz (.str s))))] [] (fun r0 Hs0 => TV.Le r0 r ∧ Hs0 = Hs') (RPt Try.prog 25 0 r Hs') =
    (∃ b1 : Bool, ((AC Try.prog 32 [(.c (.a (.fz (.str s))))] [] (.c (.a (.fz (.bool b1)))) []) ∧ (br b1 (∃ n2 : Int, ((AC Try.prog 34 [(.c (.a (.fz (.str s)))), (.c (.fn (.func 36) [] []))] [] (.c (.a (.fz (.int .i64 n2)))) []) ∧ (br ((n2 : Int) == (((List.length s) : Nat) : Int)) (TV.Le (.c (.a (.fz (.bool true)))) r ∧ [] = Hs') (br (((((List.length s) : Nat) : Int) : Int) == (1 : Int)) (∃ b3 : Bool, ((AC Try.prog 37 [(.c (.a (.fz (.str [44, 59, 33])))), (.c (.a (.fz (.str s))))] [] (.c (.a (.fz (.bool b3)))) []) ∧ (TV.Le (.c (.a (.fz (.bool b3)))) r ∧ [] = Hs'))) (TV.Le (.c (.a (.fz (.bool false)))) r ∧ [] = Hs'))))) (TV.Le (.c (.a (.fz (.bool false)))) r ∧ [] = Hs')))) := by kernel_rfl
/-- slices.ContainsFunc[[]lambent/api.Term,lambent/api.Term] -/
def lv26 : List (Nat × List Nat) := []
theorem v26_F27 (s : List (List FV)) (r : TV) (Hs' : List AObj) : vcE Try.prog sh lv26 26 [(.c (.a (.fz (.sl false 4 s)))), (.c (.fn (.func 27) [] []))] [] (fun r0 Hs0 => TV.Le r0 r ∧ Hs0 = Hs') (RPt Try.prog 26 0 r Hs') =
    (∃ n1 : Int, ((AC Try.prog 38 [(.c (.a (.fz (.sl false 4 s)))), (.c (.fn (.func 27) [] []))] [] (.c (.a (.fz (.int .i64 n1)))) []) ∧ (TV.Le (.c (.a (.fz (.bool (decide ((n1 : Int) ≥ (0 : Int))))))) r ∧ [] = Hs'))) := by kernel_rfl
/-- (*lambent/store.Store).step -/
def lv47 : List (Nat × List Nat) := []
theorem v47 (t_0 : Int) (t_1 : List UInt8) (t_2 : Int) (t_3 : List (List FV)) (o0_0l : Nat) (o0_1l : Nat) (o1 : List (List FV)) (o2 : List (List FV)) (r : TV) (Hs' : List AObj) : vcE Try.prog sh lv47 47 [(.c (.a (.ep 0 2 0 0))), (.agg [(.a (.fz (.int .i64 t_0))), (.a (.fz (.str t_1))), (.a (.fz (.int .i64 t_2))), (.a (.fz (.sl false 4 t_3)))])] [(.arr 2 [[(.a (.osl 1 6 0 o0_0l)), (.a (.osl 2 1 0 o0_1l))]]), (.arz 6 o1), (.arz 1 o2)] (fun r0 Hs0 => TV.Le r0 r ∧ Hs0 = Hs') (RPt Try.prog 47 3 r Hs') =
    (∃ z1 : Tm × Bool, ((AC Try.prog 50 [(.c (.a (.ep 0 2 0 0))), (.agg [(.a (.fz (.int .i64 t_0))), (.a (.fz (.str t_1))), (.a (.fz (.int .i64 t_2))), (.a (.fz (.sl false 4 t_3)))])] [(.arr 2 [[(.a (.osl 1 6 0 o0_0l)), (.a (.osl 2 1 0 o0_1l))]]), (.arz 6 o1), (.arz 1 o2)] (.tup [(true, (cT z1.1)), (false, [(.a (.fz (.bool z1.2)))])]) [(.arr 2 [[(.a (.osl 1 6 0 o0_0l)), (.a (.osl 2 1 0 o0_1l))]]), (.arz 6 o1), (.arz 1 o2)]) ∧ (br z1.2 (TV.Le (.tup [(true, (cT z1.1)), (false, [(.a (.fz (.bool true)))]), (false, [(.a (.fz (.int .i64 (0 : Int))))])]) r ∧ [(.arr 2 [[(.a (.osl 1 6 0 o0_0l)), (.a (.osl 2 1 0 o0_1l))]]), (.arz 6 o1), (.arz 1 o2)] = Hs') (br ((t_0 : Int) != (6 : Int)) (TV.Le (.tup [(true, [(.a (.fz (.int .i64 t_0))), (.a (.fz (.str t_1))), (.a (.fz (.int .i64 t_2))), (.a (.fz (.sl false 4 t_3)))]), (false, [(.a (.fz (.bool false)))]), (false, [(.a (.fz (.int .i64 (0 : Int))))])]) r ∧ [(.arr 2 [[(.a (.osl 1 6 0 o0_0l)), (.a (.osl 2 1 0 o0_1l))]]), (.arz 6 o1), (.arz 1 o2)] = Hs') (((FV.isSl 4 (.sl false 4 t_3) = true) ∧ ((0 ≤ (0 : Int)) ∧ (((0 : Int) < (((List.length t_3) : Nat) : Int)) ∧ (((rE (List.getD t_3 0 [])) : List FV) = (List.getD t_3 0 []))))) ∧ (∃ z2 : Tm × Bool, ((AC Try.prog 50 [(.c (.a (.ep 0 2 0 0))), (aE (List.getD t_3 0 []))] [(.arr 2 [[(.a (.osl 1 6 0 o0_0l)), (.a (.osl 2 1 0 o0_1l))]]), (.arz 6 o1), (.arz 1 o2)] (.tup [(true, (cT z2.1)), (false, [(.a (.fz (.bool z2.2)))])]) [(.arr 2 [[(.a (.osl 1 6 0 o0_0l)), (.a (.osl 2 1 0 o0_1l))]]), (.arz 6 o1), (.arz 1 o2)]) ∧ (br z2.2 ((FV.isSl 4 (.sl false 4 t_3) = true) ∧ (((0 ≤ (1 : Int)) ∧ (((1 : Int) ≤ (((List.length t_3) : Nat) : Int)) ∧ ((((List.length t_3) : Nat) : Int) ≤ (((List.length t_3) : Nat) : Int)))) ∧ (∃ z3 : Tm, ((AC Try.prog 16 [(aT z2.1), (.c (.a (.fz (.sl false 4 (List.drop 1 (List.take (Int.toNat (((List.length t_3) : Nat) : Int)) t_3))))))] [] (aT z3) []) ∧ (TV.Le (.tup [(true, (cT z3)), (false, [(.a (.fz (.bool true)))]), (false, [(.a (.fz (.int .i64 (0 : Int))))])]) r ∧ [(.arr 2 [[(.a (.osl 1 6 0 o0_0l)), (.a (.osl 2 1 0 o0_1l))]]), (.arz 6 o1), (.arz 1 o2)] = Hs'))))) (((FV.isSl 4 (.sl false 4 t_3) = true) ∧ ((0 ≤ (0 : Int)) ∧ (((0 : Int) < (((List.length t_3) : Nat) : Int)) ∧ (((rE (List.getD t_3 0 [])) : List FV) = (List.getD t_3 0 []))))) ∧ (br (((FV.asI (List.getD (List.getD t_3 0 []) 0 FV.nils)) : Int) != (5 : Int)) (TV.Le (.tup [(true, [(.a (.fz (.int .i64 t_0))), (.a (.fz (.str t_1))), (.a (.fz (.int .i64 t_2))), (.a (.fz (.sl false 4 t_3)))]), (false, [(.a (.fz (.bool false)))]), (false, [(.a (.fz (.int .i64 (0 : Int))))])]) r ∧ [(.arr 2 [[(.a (.osl 1 6 0 o0_0l)), (.a (.osl 2 1 0 o0_1l))]]), (.arz 6 o1), (.arz 1 o2)] = Hs') (((FV.isSl 4 (.sl false 4 t_3) = true) ∧ ((0 ≤ (0 : Int)) ∧ (((0 : Int) < (((List.length t_3) : Nat) : Int)) ∧ (((rE (List.getD t_3 0 [])) : List FV) = (List.getD t_3 0 []))))) ∧ (((FV.isSl 4 (List.getD (List.getD t_3 0 []) 3 FV.nils) = true) ∧ ((0 ≤ (0 : Int)) ∧ (((0 : Int) < (((List.length (FV.ses (List.getD (List.getD t_3 0 []) 3 FV.nils))) : Nat) : Int)) ∧ (((rE (List.getD (FV.ses (List.getD (List.getD t_3 0 []) 3 FV.nils)) 0 [])) : List FV) = (List.getD (FV.ses (List.getD (List.getD t_3 0 []) 3 FV.nils)) 0 []))))) ∧ (((FV.isSl 4 (.sl false 4 t_3) = true) ∧ ((0 ≤ (1 : Int)) ∧ (((1 : Int) < (((List.length t_3) : Nat) : Int)) ∧ (((rE (List.getD t_3 1 [])) : List FV) = (List.getD t_3 1 []))))) ∧ (∃ z4 : Tm × Int, ((AC Try.prog 51 [(aE (List.getD (FV.ses (List.getD (List.getD t_3 0 []) 3 FV.nils)) 0 [])), (aE (List.getD t_3 1 []))] [] (.tup [(true, (cT z4.1)), (false, [(.a (.fz (.int .i64 z4.2)))])]) []) ∧ ((FV.isSl 4 (.sl false 4 t_3) = true) ∧ (((0 ≤ (2 : Int)) ∧ (((2 : Int) ≤ (((List.length t_3) : Nat) : Int)) ∧ ((((List.length t_3) : Nat) : Int) ≤ (((List.length t_3) : Nat) : Int)))) ∧ (∃ z5 : Tm, ((AC Try.prog 16 [(aT z4.1), (.c (.a (.fz (.sl false 4 (List.drop 2 (List.take (Int.toNat (((List.length t_3) : Nat) : Int)) t_3))))))] [] (aT z5) []) ∧ (TV.Le (.tup [(true, (cT z5)), (false, [(.a (.fz (.bool true)))]), (false, [(.a (.fz (.int .i64 z4.2)))])]) r ∧ [(.arr 2 [[(.a (.osl 1 6 0 o0_0l)), (.a (.osl 2 1 0 o0_1l))]]), (.arz 6 o1), (.arz 1 o2)] = Hs')))))))))))))))))))) := by kernel_rfl
/-- lambent/lex.fits -/
def lv32 : List (Nat × List Nat) := []
theorem v32 (s : List UInt8) (r : TV) (Hs' : List AObj) : vcE Try.prog sh lv32 32 [(.c (.a (.fz (.str s))))] [] (fun r0 Hs0 => TV.Le r0 r ∧ Hs0 = Hs') (RPt Try.prog 32 0 r Hs') =
    (br (!((s : List UInt8) == [])) (TV.Le (.c (.a (.fz (.bool (decide (((((List.length s) : Nat) : Int) : Int) ≤ (32 : Int))))))) r ∧ [] = Hs') (TV.Le (.c (.a (.fz (.bool false)))) r ∧ [] = Hs')) := by kernel_rfl
/-- lambent/lex.small -/
def lv33 : List (Nat × List Nat) := []
theorem v33 (c : Int) (r : TV) (Hs' : List AObj) : vcE Try.prog sh lv33 33 [(.c (.a (.fz (.int .u8 c))))] [] (fun r0 Hs0 => TV.Le r0 r ∧ Hs0 = Hs') (RPt Try.prog 33 0 r Hs') =
    (br (decide (((97 : Int) : Int) ≤ c)) (TV.Le (.c (.a (.fz (.bool (decide ((c : Int) ≤ (122 : Int))))))) r ∧ [] = Hs') (TV.Le (.c (.a (.fz (.bool false)))) r ∧ [] = Hs')) := by kernel_rfl
/-- lambent/lex.run -/
def lv34 : List (Nat × List Nat) := [(1, [0, 1, 7, 8])]
theorem v34_F35 (s : List UInt8) (r : TV) (Hs' : List AObj) : vcE Try.prog sh lv34 34 [(.c (.a (.fz (.str s)))), (.c (.fn (.func 35) [] []))] [] (fun r0 Hs0 => TV.Le r0 r ∧ Hs0 = Hs') (RPt Try.prog 34 0 r Hs') =
    (RPt Try.prog 34 0 r Hs' 1 ⟨[(0, (.c (.a (.fz (.str s))))), (1, (.c (.fn (.func 35) [] []))), (7, (.c (.a (.fz (.int .i64 (((List.length s) : Nat) : Int)))))), (8, (.c (.a (.fz (.int .i64 (0 : Int))))))], [], 0⟩) := by kernel_rfl
theorem v34_F35_1a (x0 : List UInt8) (x7 : Int) (x8 : Int) (r : TV) (Hs' : List AObj) : vcP Try.prog sh lv34 34 0 (fun r0 Hs0 => TV.Le r0 r ∧ Hs0 = Hs') (RPt Try.prog 34 0 r Hs') 1 ⟨[(0, (.c (.a (.fz (.str x0))))), (1, (.c (.fn (.func 35) [] []))), (7, (.c (.a (.fz (.int .i64 x7))))), (8, (.c (.a (.fz (.int .i64 x8)))))], [], 0⟩ =
    (br (decide ((x8 : Int) < x7)) ((0 ≤ x8 ∧ x8 < (((List.length x0) : Nat) : Int)) ∧ (∃ b1 : Bool, ((AC Try.prog 35 [(.c (.a (.fz (.int .u8 ((UInt8.toNat (List.getD x0 (Int.toNat x8) 0) : Nat) : Int)))))] [] (.c (.a (.fz (.bool b1)))) []) ∧ (br (!b1) (TV.Le (.c (.a (.fz (.int .i64 x8)))) r ∧ [] = Hs') (RPt Try.prog 34 0 r Hs' 1 ⟨[(0, (.c (.a (.fz (.str x0))))), (1, (.c (.fn (.func 35) [] []))), (7, (.c (.a (.fz (.int .i64 x7))))), (8, (.c (.a (.fz (.int .i64 (IntKind.wrap .i64 (x8 + (1 : Int))))))))], [], 0⟩))))) (TV.Le (.c (.a (.fz (.int .i64 (((List.length x0) : Nat) : Int))))) r ∧ [] = Hs')) := by kernel_rfl
/-- lambent/lex.run -/
theorem v34_F36 (s : List UInt8) (r : TV) (Hs' : List AObj) : vcE Try.prog sh lv34 34 [(.c (.a (.fz (.str s)))), (.c (.fn (.func 36) [] []))] [] (fun r0 Hs0 => TV.Le r0 r ∧ Hs0 = Hs') (RPt Try.prog 34 0 r Hs') =
    (RPt Try.prog 34 0 r Hs' 1 ⟨[(0, (.c (.a (.fz (.str s))))), (1, (.c (.fn (.func 36) [] []))), (7, (.c (.a (.fz (.int .i64 (((List.length s) : Nat) : Int)))))), (8, (.c (.a (.fz (.int .i64 (0 : Int))))))], [], 0⟩) := by kernel_rfl
theorem v34_F36_1a (x0 : List UInt8) (x7 : Int) (x8 : Int) (r : TV) (Hs' : List AObj) : vcP Try.prog sh lv34 34 0 (fun r0 Hs0 => TV.Le r0 r ∧ Hs0 = Hs') (RPt Try.prog 34 0 r Hs') 1 ⟨[(0, (.c (.a (.fz (.str x0))))), (1, (.c (.fn (.func 36) [] []))), (7, (.c (.a (.fz (.int .i64 x7))))), (8, (.c (.a (.fz (.int .i64 x8)))))], [], 0⟩ =
    (br (decide ((x8 : Int) < x7)) ((0 ≤ x8 ∧ x8 < (((List.length x0) : Nat) : Int)) ∧ (∃ b1 : Bool, ((AC Try.prog 36 [(.c (.a (.fz (.int .u8 ((UInt8.toNat (List.getD x0 (Int.toNat x8) 0) : Nat) : Int)))))] [] (.c (.a (.fz (.bool b1)))) []) ∧ (br (!b1) (TV.Le (.c (.a (.fz (.int .i64 x8)))) r ∧ [] = Hs') (RPt Try.prog 34 0 r Hs' 1 ⟨[(0, (.c (.a (.fz (.str x0))))), (1, (.c (.fn (.func 36) [] []))), (7, (.c (.a (.fz (.int .i64 x7))))), (8, (.c (.a (.fz (.int .i64 (IntKind.wrap .i64 (x8 + (1 : Int))))))))], [], 0⟩))))) (TV.Le (.c (.a (.fz (.int .i64 (((List.length x0) : Nat) : Int))))) r ∧ [] = Hs')) := by kernel_rfl
/-- strings.Contains -/
def lv37 : List (Nat × List Nat) := []
theorem v37 (s : List UInt8) (substr : List UInt8) (r : TV) (Hs' : List AObj) : vcE Try.prog sh lv37 37 [(.c (.a (.fz (.str s)))), (.c (.a (.fz (.str substr))))] [] (fun r0 Hs0 => TV.Le r0 r ∧ Hs0 = Hs') (RPt Try.prog 37 0 r Hs') =
    (∃ n1 : Int, ((AC Try.prog 46 [(.c (.a (.fz (.str s)))), (.c (.a (.fz (.str substr))))] [] (.c (.a (.fz (.int .i64 n1)))) []) ∧ (TV.Le (.c (.a (.fz (.bool (decide ((n1 : Int) ≥ (0 : Int))))))) r ∧ [] = Hs'))) := by kernel_rfl
/-- slices.IndexFunc[[]lambent/api.Term,lambent/api.Term] -/
def lv38 : List (Nat × List Nat) := [(1, [0, 1, 7, 8])]
theorem v38_F27 (s : List (List FV)) (r : TV) (Hs' : List AObj) : vcE Try.prog sh lv38 38 [(.c (.a (.fz (.sl false 4 s)))), (.c (.fn (.func 27) [] []))] [] (fun r0 Hs0 => TV.Le r0 r ∧ Hs0 = Hs') (RPt Try.prog 38 0 r Hs') =
    ((FV.isSl 4 (.sl false 4 s) = true) ∧ (RPt Try.prog 38 0 r Hs' 1 ⟨[(0, (.c (.a (.fz (.sl false 4 s))))), (1, (.c (.fn (.func 27) [] []))), (7, (.c (.a (.fz (.int .i64 (((List.length s) : Nat) : Int)))))), (8, (.c (.a (.fz (.int .i64 (0 : Int))))))], [], 0⟩)) := by kernel_rfl
theorem v38_F27_1a (x0 : List (List FV)) (x7 : Int) (x8 : Int) (r : TV) (Hs' : List AObj) : vcP Try.prog sh lv38 38 0 (fun r0 Hs0 => TV.Le r0 r ∧ Hs0 = Hs') (RPt Try.prog 38 0 r Hs') 1 ⟨[(0, (.c (.a (.fz (.sl false 4 x0))))), (1, (.c (.fn (.func 27) [] []))), (7, (.c (.a (.fz (.int .i64 x7))))), (8, (.c (.a (.fz (.int .i64 x8)))))], [], 0⟩ =
    (br (decide ((x8 : Int) < x7)) (((FV.isSl 4 (.sl false 4 x0) = true) ∧ ((0 ≤ x8) ∧ ((x8 < (((List.length x0) : Nat) : Int)) ∧ (((rE (List.getD x0 (Int.toNat x8) [])) : List FV) = (List.getD x0 (Int.toNat x8) []))))) ∧ (∃ b1 : Bool, ((AC Try.prog 27 [(aE (List.getD x0 (Int.toNat x8) []))] [] (.c (.a (.fz (.bool b1)))) []) ∧ (br b1 (TV.Le (.c (.a (.fz (.int .i64 x8)))) r ∧ [] = Hs') (RPt Try.prog 38 0 r Hs' 1 ⟨[(0, (.c (.a (.fz (.sl false 4 x0))))), (1, (.c (.fn (.func 27) [] []))), (7, (.c (.a (.fz (.int .i64 x7))))), (8, (.c (.a (.fz (.int .i64 (IntKind.wrap .i64 (x8 + (1 : Int))))))))], [], 0⟩))))) (TV.Le (.c (.a (.fz (.int .i64 (-1 : Int))))) r ∧ [] = Hs')) := by kernel_rfl
/-- (*lambent/store.Store).value -/
def lv50 : List (Nat × List Nat) := []
theorem v50 (t_0 : Int) (t_1 : List UInt8) (t_2 : Int) (t_3 : List (List FV)) (o0_0l : Nat) (o0_1l : Nat) (o1 : List (List FV)) (o2 : List (List FV)) (r : TV) (Hs' : List AObj) : vcE Try.prog sh lv50 50 [(.c (.a (.ep 0 2 0 0))), (.agg [(.a (.fz (.int .i64 t_0))), (.a (.fz (.str t_1))), (.a (.fz (.int .i64 t_2))), (.a (.fz (.sl false 4 t_3)))])] [(.arr 2 [[(.a (.osl 1 6 0 o0_0l)), (.a (.osl 2 1 0 o0_1l))]]), (.arz 6 o1), (.arz 1 o2)] (fun r0 Hs0 => TV.Le r0 r ∧ Hs0 = Hs') (RPt Try.prog 50 3 r Hs') =
    (∃ z1 : Int × Bool × Tm × Bool, ((AC Try.prog 56 [(.c (.a (.ep 0 2 0 0))), (.c (.a (.fz (.int .i64 t_2))))] [(.arr 2 [[(.a (.osl 1 6 0 o0_0l)), (.a (.osl 2 1 0 o0_1l))]]), (.arz 6 o1), (.arz 1 o2)] (.tup [(true, [(.a (.fz (.int .i64 z1.1))), (.a (.fz (.bool z1.2.1))), (.a (.fz (.int .i64 z1.2.2.1.k))), (.a (.fz (.str z1.2.2.1.s))), (.a (.fz (.int .i64 z1.2.2.1.n))), (.a (.fz (.sl false 4 (FTs z1.2.2.1.l))))]), (false, [(.a (.fz (.bool z1.2.2.2)))])]) [(.arr 2 [[(.a (.osl 1 6 0 o0_0l)), (.a (.osl 2 1 0 o0_1l))]]), (.arz 6 o1), (.arz 1 o2)]) ∧ (br ((t_0 : Int) == (4 : Int)) (br z1.2.2.2 (TV.Le (.tup [(true, (cT z1.2.2.1)), (false, [(.a (.fz (.bool z1.2.1)))])]) r ∧ [(.arr 2 [[(.a (.osl 1 6 0 o0_0l)), (.a (.osl 2 1 0 o0_1l))]]), (.arz 6 o1), (.arz 1 o2)] = Hs') (TV.Le (.tup [(true, (cT z1.2.2.1)), (false, [(.a (.fz (.bool false)))])]) r ∧ [(.arr 2 [[(.a (.osl 1 6 0 o0_0l)), (.a (.osl 2 1 0 o0_1l))]]), (.arz 6 o1), (.arz 1 o2)] = Hs')) (TV.Le (.tup [(true, (cT z1.2.2.1)), (false, [(.a (.fz (.bool false)))])]) r ∧ [(.arr 2 [[(.a (.osl 1 6 0 o0_0l)), (.a (.osl 2 1 0 o0_1l))]]), (.arz 6 o1), (.arz 1 o2)] = Hs')))) := by kernel_rfl
/-- lambent/beta.Contract -/
def lv51 : List (Nat × List Nat) := []
theorem v51 (body_0 : Int) (body_1 : List UInt8) (body_2 : Int) (body_3 : List (List FV)) (arg_0 : Int) (arg_1 : List UInt8) (arg_2 : Int) (arg_3 : List (List FV)) (r : TV) (Hs' : List AObj) : vcE Try.prog sh lv51 51 [(.agg [(.a (.fz (.int .i64 body_0))), (.a (.fz (.str body_1))), (.a (.fz (.int .i64 body_2))), (.a (.fz (.sl false 4 body_3)))]), (.agg [(.a (.fz (.int .i64 arg_0))), (.a (.fz (.str arg_1))), (.a (.fz (.int .i64 arg_2))), (.a (.fz (.sl false 4 arg_3)))])] [] (fun r0 Hs0 => TV.Le r0 r ∧ Hs0 = Hs') (RPt Try.prog 51 0 r Hs') =
    (∃ b1 : Bool, ((AC Try.prog 13 [(.agg [(.a (.fz (.int .i64 body_0))), (.a (.fz (.str body_1))), (.a (.fz (.int .i64 body_2))), (.a (.fz (.sl false 4 body_3)))])] [] (.c (.a (.fz (.bool b1)))) []) ∧ (br (!b1) (TV.Le (.tup [(true, [(.a (.fz (.int .i64 (0 : Int)))), (.a (.fz (.str []))), (.a (.fz (.int .i64 (0 : Int)))), (.a (.fz .nils))]), (false, [(.a (.fz (.int .i64 (1 : Int))))])]) r ∧ [] = Hs') (∃ b2 : Bool, ((AC Try.prog 13 [(.agg [(.a (.fz (.int .i64 arg_0))), (.a (.fz (.str arg_1))), (.a (.fz (.int .i64 arg_2))), (.a (.fz (.sl false 4 arg_3)))])] [] (.c (.a (.fz (.bool b2)))) []) ∧ (br (!b2) (TV.Le (.tup [(true, [(.a (.fz (.int .i64 (0 : Int)))), (.a (.fz (.str []))), (.a (.fz (.int .i64 (0 : Int)))), (.a (.fz .nils))]), (false, [(.a (.fz (.int .i64 (1 : Int))))])]) r ∧ [] = Hs') (∃ z3 : Tm × Int, ((AC Try.prog 57 [(.agg [(.a (.fz (.int .i64 body_0))), (.a (.fz (.str body_1))), (.a (.fz (.int .i64 body_2))), (.a (.fz (.sl false 4 body_3)))]), (.agg [(.a (.fz (.int .i64 arg_0))), (.a (.fz (.str arg_1))), (.a (.fz (.int .i64 arg_2))), (.a (.fz (.sl false 4 arg_3)))])] [] (.tup [(true, (cT z3.1)), (false, [(.a (.fz (.int .i64 z3.2)))])]) []) ∧ (TV.Le (.tup [(true, (cT z3.1)), (false, [(.a (.fz (.int .i64 z3.2)))])]) r ∧ [] = Hs'))))))))) := by kernel_rfl
/-- lambent/lex.inside -/
def lv35 : List (Nat × List Nat) := []
theorem v35 (c : Int) (r : TV) (Hs' : List AObj) : vcE Try.prog sh lv35 35 [(.c (.a (.fz (.int .u8 c))))] [] (fun r0 Hs0 => TV.Le r0 r ∧ Hs0 = Hs') (RPt Try.prog 35 0 r Hs') =
    (∃ b1 : Bool, ((AC Try.prog 33 [(.c (.a (.fz (.int .u8 c))))] [] (.c (.a (.fz (.bool b1)))) []) ∧ (br b1 (TV.Le (.c (.a (.fz (.bool true)))) r ∧ [] = Hs') (∃ b2 : Bool, ((AC Try.prog 43 [(.c (.a (.fz (.int .u8 c))))] [] (.c (.a (.fz (.bool b2)))) []) ∧ (br b2 (TV.Le (.c (.a (.fz (.bool true)))) r ∧ [] = Hs') (∃ b3 : Bool, ((AC Try.prog 44 [(.c (.a (.fz (.int .u8 c))))] [] (.c (.a (.fz (.bool b3)))) []) ∧ (br b3 (TV.Le (.c (.a (.fz (.bool true)))) r ∧ [] = Hs') (TV.Le (.c (.a (.fz (.bool ((c : Int) == (39 : Int)))))) r ∧ [] = Hs')))))))))) := by kernel_rfl
/-- lambent/lex.sign -/
def lv36 : List (Nat × List Nat) := []
theorem v36 (c : Int) (r : TV) (Hs' : List AObj) : vcE Try.prog sh lv36 36 [(.c (.a (.fz (.int .u8 c))))] [] (fun r0 Hs0 => TV.Le r0 r ∧ Hs0 = Hs') (RPt Try.prog 36 0 r Hs') =
    (∃ n1 : Int, ((AC Try.prog 45 [(.c (.a (.fz (.str [43, 45, 42, 47, 60, 62, 61, 38, 124, 94, 126, 64, 35, 36, 63, 58])))), (.c (.a (.fz (.int .u8 c))))] [] (.c (.a (.fz (.int .i64 n1)))) []) ∧ (TV.Le (.c (.a (.fz (.bool (decide ((n1 : Int) ≥ (0 : Int))))))) r ∧ [] = Hs'))) := by kernel_rfl
/-- strings.Index -/
def lv46 : List (Nat × List Nat) := []
theorem v46 (s : List UInt8) (substr : List UInt8) (r : TV) (Hs' : List AObj) : vcE Try.prog sh lv46 46 [(.c (.a (.fz (.str s)))), (.c (.a (.fz (.str substr))))] [] (fun r0 Hs0 => TV.Le r0 r ∧ Hs0 = Hs') (RPt Try.prog 46 0 r Hs') =
    (∃ n1 : Int, ((AC Try.prog 49 [(.c (.a (.fz (.str s)))), (.c (.a (.fz (.str substr))))] [] (.c (.a (.fz (.int .i64 n1)))) []) ∧ (TV.Le (.c (.a (.fz (.int .i64 n1)))) r ∧ [] = Hs'))) := by kernel_rfl
/-- lambent/term.Valid$1 -/
def lv27 : List (Nat × List Nat) := []
theorem v27 (u_0 : Int) (u_1 : List UInt8) (u_2 : Int) (u_3 : List (List FV)) (r : TV) (Hs' : List AObj) : vcE Try.prog sh lv27 27 [(.agg [(.a (.fz (.int .i64 u_0))), (.a (.fz (.str u_1))), (.a (.fz (.int .i64 u_2))), (.a (.fz (.sl false 4 u_3)))])] [] (fun r0 Hs0 => TV.Le r0 r ∧ Hs0 = Hs') (RPt Try.prog 27 0 r Hs') =
    (∃ b1 : Bool, ((AC Try.prog 13 [(.agg [(.a (.fz (.int .i64 u_0))), (.a (.fz (.str u_1))), (.a (.fz (.int .i64 u_2))), (.a (.fz (.sl false 4 u_3)))])] [] (.c (.a (.fz (.bool b1)))) []) ∧ (TV.Le (.c (.a (.fz (.bool (!b1))))) r ∧ [] = Hs'))) := by kernel_rfl
/-- (*lambent/store.Store).Info -/
def lv56 : List (Nat × List Nat) := []
theorem v56 (x : Int) (o0_0l : Nat) (o0_1l : Nat) (o1 : List (List FV)) (o2 : List (List FV)) (r : TV) (Hs' : List AObj) : vcE Try.prog sh lv56 56 [(.c (.a (.ep 0 2 0 0))), (.c (.a (.fz (.int .i64 x))))] [(.arr 2 [[(.a (.osl 1 6 0 o0_0l)), (.a (.osl 2 1 0 o0_1l))]]), (.arz 6 o1), (.arz 1 o2)] (fun r0 Hs0 => TV.Le r0 r ∧ Hs0 = Hs') (RPt Try.prog 56 3 r Hs') =
    (br (decide ((x : Int) < (0 : Int))) (TV.Le (.tup [(true, [(.a (.fz (.int .i64 (0 : Int)))), (.a (.fz (.bool false))), (.a (.fz (.int .i64 (0 : Int)))), (.a (.fz (.str []))), (.a (.fz (.int .i64 (0 : Int)))), (.a (.fz .nils))]), (false, [(.a (.fz (.bool false)))])]) r ∧ [(.arr 2 [[(.a (.osl 1 6 0 o0_0l)), (.a (.osl 2 1 0 o0_1l))]]), (.arz 6 o1), (.arz 1 o2)] = Hs') (br (decide ((x : Int) ≥ ((o0_0l : Nat) : Int))) (TV.Le (.tup [(true, [(.a (.fz (.int .i64 (0 : Int)))), (.a (.fz (.bool false))), (.a (.fz (.int .i64 (0 : Int)))), (.a (.fz (.str []))), (.a (.fz (.int .i64 (0 : Int)))), (.a (.fz .nils))]), (false, [(.a (.fz (.bool false)))])]) r ∧ [(.arr 2 [[(.a (.osl 1 6 0 o0_0l)), (.a (.osl 2 1 0 o0_1l))]]), (.arz 6 o1), (.arz 1 o2)] = Hs') ((0 ≤ x ∧ x < ((o0_0l : Nat) : Int)) ∧ ((((0 + (Int.toNat x)) < (List.length o1)) ∧ ((([(.int .i64 (FV.asI (List.getD (List.getD o1 (0 + (Int.toNat x)) []) 0 FV.nils))), (.bool (FV.asB (List.getD (List.getD o1 (0 + (Int.toNat x)) []) 1 FV.nils))), (.int .i64 (FV.asI (List.getD (List.getD o1 (0 + (Int.toNat x)) []) 2 FV.nils))), (.str (FV.asS (List.getD (List.getD o1 (0 + (Int.toNat x)) []) 3 FV.nils))), (.int .i64 (FV.asI (List.getD (List.getD o1 (0 + (Int.toNat x)) []) 4 FV.nils))), (List.getD (List.getD o1 (0 + (Int.toNat x)) []) 5 FV.nils)] : List FV) = (List.take 6 (List.drop 0 (List.getD o1 (0 + (Int.toNat x)) [])))) ∧ ((6 : Nat) = 6))) ∧ (TV.Le (.tup [(true, [(.a (.fz (.int .i64 (FV.asI (List.getD (List.getD o1 (0 + (Int.toNat x)) []) 0 FV.nils))))), (.a (.fz (.bool (FV.asB (List.getD (List.getD o1 (0 + (Int.toNat x)) []) 1 FV.nils))))), (.a (.fz (.int .i64 (FV.asI (List.getD (List.getD o1 (0 + (Int.toNat x)) []) 2 FV.nils))))), (.a (.fz (.str (FV.asS (List.getD (List.getD o1 (0 + (Int.toNat x)) []) 3 FV.nils))))), (.a (.fz (.int .i64 (FV.asI (List.getD (List.getD o1 (0 + (Int.toNat x)) []) 4 FV.nils))))), (.a (.fz (List.getD (List.getD o1 (0 + (Int.toNat x)) []) 5 FV.nils)))]), (false, [(.a (.fz (.bool true)))])]) r ∧ [(.arr 2 [[(.a (.osl 1 6 0 o0_0l)), (.a (.osl 2 1 0 o0_1l))]]), (.arz 6 o1), (.arz 1 o2)] = Hs'))))) := by kernel_rfl
/-- lambent/beta.contract -/
def lv57 : List (Nat × List Nat) := []
theorem v57 (body_0 : Int) (body_1 : List UInt8) (body_2 : Int) (body_3 : List (List FV)) (arg_0 : Int) (arg_1 : List UInt8) (arg_2 : Int) (arg_3 : List (List FV)) (r : TV) (Hs' : List AObj) : vcE Try.prog sh lv57 57 [(.agg [(.a (.fz (.int .i64 body_0))), (.a (.fz (.str body_1))), (.a (.fz (.int .i64 body_2))), (.a (.fz (.sl false 4 body_3)))]), (.agg [(.a (.fz (.int .i64 arg_0))), (.a (.fz (.str arg_1))), (.a (.fz (.int .i64 arg_2))), (.a (.fz (.sl false 4 arg_3)))])] [] (fun r0 Hs0 => TV.Le r0 r ∧ Hs0 = Hs') (RPt Try.prog 57 0 r Hs') =
    (∃ n1 : Int, ((AC Try.prog 59 [(.agg [(.a (.fz (.int .i64 body_0))), (.a (.fz (.str body_1))), (.a (.fz (.int .i64 body_2))), (.a (.fz (.sl false 4 body_3)))])] [] (.c (.a (.fz (.int .i64 n1)))) []) ∧ (∃ n2 : Int, ((AC Try.prog 60 [(.agg [(.a (.fz (.int .i64 body_0))), (.a (.fz (.str body_1))), (.a (.fz (.int .i64 body_2))), (.a (.fz (.sl false 4 body_3)))]), (.c (.a (.fz (.int .i64 (0 : Int)))))] [] (.c (.a (.fz (.int .i64 n2)))) []) ∧ (∃ n3 : Int, ((AC Try.prog 59 [(.agg [(.a (.fz (.int .i64 arg_0))), (.a (.fz (.str arg_1))), (.a (.fz (.int .i64 arg_2))), (.a (.fz (.sl false 4 arg_3)))])] [] (.c (.a (.fz (.int .i64 n3)))) []) ∧ (br (decide (((IntKind.wrap .i64 (n1 + (IntKind.wrap .i64 (n2 * n3)))) : Int) > (4096 : Int))) (TV.Le (.tup [(true, [(.a (.fz (.int .i64 (0 : Int)))), (.a (.fz (.str []))), (.a (.fz (.int .i64 (0 : Int)))), (.a (.fz .nils))]), (false, [(.a (.fz (.int .i64 (80 : Int))))])]) r ∧ [] = Hs') (∃ z4 : Tm, ((AC Try.prog 61 [(.agg [(.a (.fz (.int .i64 body_0))), (.a (.fz (.str body_1))), (.a (.fz (.int .i64 body_2))), (.a (.fz (.sl false 4 body_3)))]), (.c (.a (.fz (.int .i64 (0 : Int))))), (.agg [(.a (.fz (.int .i64 arg_0))), (.a (.fz (.str arg_1))), (.a (.fz (.int .i64 arg_2))), (.a (.fz (.sl false 4 arg_3)))])] [] (aT z4) []) ∧ (TV.Le (.tup [(true, (cT z4)), (false, [(.a (.fz (.int .i64 (0 : Int))))])]) r ∧ [] = Hs')))))))))) := by kernel_rfl
/-- lambent/lex.great -/
def lv43 : List (Nat × List Nat) := []
theorem v43 (c : Int) (r : TV) (Hs' : List AObj) : vcE Try.prog sh lv43 43 [(.c (.a (.fz (.int .u8 c))))] [] (fun r0 Hs0 => TV.Le r0 r ∧ Hs0 = Hs') (RPt Try.prog 43 0 r Hs') =
    (br (decide (((65 : Int) : Int) ≤ c)) (br (decide ((c : Int) ≤ (90 : Int))) (TV.Le (.c (.a (.fz (.bool true)))) r ∧ [] = Hs') (TV.Le (.c (.a (.fz (.bool ((c : Int) == (95 : Int)))))) r ∧ [] = Hs')) (TV.Le (.c (.a (.fz (.bool ((c : Int) == (95 : Int)))))) r ∧ [] = Hs')) := by kernel_rfl
/-- lambent/lex.digit -/
def lv44 : List (Nat × List Nat) := []
theorem v44 (c : Int) (r : TV) (Hs' : List AObj) : vcE Try.prog sh lv44 44 [(.c (.a (.fz (.int .u8 c))))] [] (fun r0 Hs0 => TV.Le r0 r ∧ Hs0 = Hs') (RPt Try.prog 44 0 r Hs') =
    (br (decide (((48 : Int) : Int) ≤ c)) (TV.Le (.c (.a (.fz (.bool (decide ((c : Int) ≤ (57 : Int))))))) r ∧ [] = Hs') (TV.Le (.c (.a (.fz (.bool false)))) r ∧ [] = Hs')) := by kernel_rfl
/-- strings.IndexByte -/
def lv45 : List (Nat × List Nat) := []
theorem v45 (s : List UInt8) (c : Int) (r : TV) (Hs' : List AObj) : vcE Try.prog sh lv45 45 [(.c (.a (.fz (.str s)))), (.c (.a (.fz (.int .u8 c))))] [] (fun r0 Hs0 => TV.Le r0 r ∧ Hs0 = Hs') (RPt Try.prog 45 0 r Hs') =
    (∃ n1 : Int, ((AC Try.prog 48 [(.c (.a (.fz (.str s)))), (.c (.a (.fz (.int .u8 c))))] [] (.c (.a (.fz (.int .i64 n1)))) []) ∧ (TV.Le (.c (.a (.fz (.int .i64 n1)))) r ∧ [] = Hs'))) := by kernel_rfl
/-- internal/stringslite.Index -/
def lv49 : List (Nat × List Nat) := [(3, [0, 1, 5, 6, 7, 8, 9, 10])]
theorem v49 (s : List UInt8) (substr : List UInt8) (r : TV) (Hs' : List AObj) : vcE Try.prog sh lv49 49 [(.c (.a (.fz (.str s)))), (.c (.a (.fz (.str substr))))] [] (fun r0 Hs0 => TV.Le r0 r ∧ Hs0 = Hs') (RPt Try.prog 49 0 r Hs') =
    (br (((((List.length substr) : Nat) : Int) : Int) == (0 : Int)) (TV.Le (.c (.a (.fz (.int .i64 (0 : Int))))) r ∧ [] = Hs') (br ((substr : List UInt8) == s) (TV.Le (.c (.a (.fz (.int .i64 (0 : Int))))) r ∧ [] = Hs') (br (((((List.length substr) : Nat) : Int) : Int) == (1 : Int)) ((0 ≤ (0 : Int) ∧ (0 : Int) < (((List.length substr) : Nat) : Int)) ∧ (∃ n1 : Int, ((AC Try.prog 48 [(.c (.a (.fz (.str s)))), (.c (.a (.fz (.int .u8 ((UInt8.toNat (List.getD substr 0 0) : Nat) : Int)))))] [] (.c (.a (.fz (.int .i64 n1)))) []) ∧ (TV.Le (.c (.a (.fz (.int .i64 n1)))) r ∧ [] = Hs')))) (br (decide (((((List.length substr) : Nat) : Int) : Int) ≥ (((List.length s) : Nat) : Int))) (TV.Le (.c (.a (.fz (.int .i64 (-1 : Int))))) r ∧ [] = Hs') False)))) := by kernel_rfl
/-- lambent/term.Size -/
def lv59 : List (Nat × List Nat) := [(1, [3, 13, 14, 15])]
theorem v59 (t_0 : Int) (t_1 : List UInt8) (t_2 : Int) (t_3 : List (List FV)) (r : TV) (Hs' : List AObj) : vcE Try.prog sh lv59 59 [(.agg [(.a (.fz (.int .i64 t_0))), (.a (.fz (.str t_1))), (.a (.fz (.int .i64 t_2))), (.a (.fz (.sl false 4 t_3)))])] [] (fun r0 Hs0 => TV.Le r0 r ∧ Hs0 = Hs') (RPt Try.prog 59 0 r Hs') =
    (∃ y1 : FV, (∃ n2 : Int, ((AC Try.prog 62 [(.agg [(.a (.fz (.int .i64 t_0))), (.a (.fz (.str t_1))), (.a (.fz (.int .i64 t_2))), (.a (.fz (.sl false 4 t_3)))])] [] (.tup [(false, [(.a (.fz y1))]), (false, [(.a (.fz (.int .i64 n2)))])]) []) ∧ ((FV.isSl 4 y1 = true) ∧ (RPt Try.prog 59 0 r Hs' 1 ⟨[(3, (.c (.a (.fz (.int .i64 (1 : Int)))))), (13, (.c (.a (.fz y1)))), (14, (.c (.a (.fz (.int .i64 (((List.length (FV.ses y1)) : Nat) : Int)))))), (15, (.c (.a (.fz (.int .i64 (0 : Int))))))], [], 0⟩))))) := by kernel_rfl
theorem v59_1a (x3 : Int) (x13 : FV) (x14 : Int) (x15 : Int) (r : TV) (Hs' : List AObj) : vcP Try.prog sh lv59 59 0 (fun r0 Hs0 => TV.Le r0 r ∧ Hs0 = Hs') (RPt Try.prog 59 0 r Hs') 1 ⟨[(3, (.c (.a (.fz (.int .i64 x3))))), (13, (.c (.a (.fz x13)))), (14, (.c (.a (.fz (.int .i64 x14))))), (15, (.c (.a (.fz (.int .i64 x15)))))], [], 0⟩ =
    (br (decide ((x15 : Int) < x14)) (((FV.isSl 4 x13 = true) ∧ ((0 ≤ x15) ∧ ((x15 < (((List.length (FV.ses x13)) : Nat) : Int)) ∧ (((rE (List.getD (FV.ses x13) (Int.toNat x15) [])) : List FV) = (List.getD (FV.ses x13) (Int.toNat x15) []))))) ∧ (∃ n1 : Int, ((AC Try.prog 59 [(aE (List.getD (FV.ses x13) (Int.toNat x15) []))] [] (.c (.a (.fz (.int .i64 n1)))) []) ∧ (RPt Try.prog 59 0 r Hs' 1 ⟨[(3, (.c (.a (.fz (.int .i64 (IntKind.wrap .i64 (x3 + n1))))))), (13, (.c (.a (.fz x13)))), (14, (.c (.a (.fz (.int .i64 x14))))), (15, (.c (.a (.fz (.int .i64 (IntKind.wrap .i64 (x15 + (1 : Int))))))))], [], 0⟩)))) (TV.Le (.c (.a (.fz (.int .i64 x3)))) r ∧ [] = Hs')) := by kernel_rfl
/-- lambent/beta.occurs -/
def lv60 : List (Nat × List Nat) := [(3, [1, 5, 21, 22, 23])]
theorem v60 (t_0 : Int) (t_1 : List UInt8) (t_2 : Int) (t_3 : List (List FV)) (i : Int) (r : TV) (Hs' : List AObj) : vcE Try.prog sh lv60 60 [(.agg [(.a (.fz (.int .i64 t_0))), (.a (.fz (.str t_1))), (.a (.fz (.int .i64 t_2))), (.a (.fz (.sl false 4 t_3)))]), (.c (.a (.fz (.int .i64 i))))] [] (fun r0 Hs0 => TV.Le r0 r ∧ Hs0 = Hs') (RPt Try.prog 60 0 r Hs') =
    (br ((t_0 : Int) == (3 : Int)) (br ((t_2 : Int) == i) (TV.Le (.c (.a (.fz (.int .i64 (1 : Int))))) r ∧ [] = Hs') ((FV.isSl 4 (.sl false 4 t_3) = true) ∧ (RPt Try.prog 60 0 r Hs' 3 ⟨[(1, (.c (.a (.fz (.int .i64 i))))), (5, (.c (.a (.fz (.int .i64 (0 : Int)))))), (21, (.c (.a (.fz (.sl false 4 t_3))))), (22, (.c (.a (.fz (.int .i64 (((List.length t_3) : Nat) : Int)))))), (23, (.c (.a (.fz (.int .i64 (0 : Int))))))], [], 0⟩))) (br ((t_0 : Int) == (5 : Int)) ((FV.isSl 4 (.sl false 4 t_3) = true) ∧ (RPt Try.prog 60 0 r Hs' 3 ⟨[(1, (.c (.a (.fz (.int .i64 (IntKind.wrap .i64 (i + (1 : Int)))))))), (5, (.c (.a (.fz (.int .i64 (0 : Int)))))), (21, (.c (.a (.fz (.sl false 4 t_3))))), (22, (.c (.a (.fz (.int .i64 (((List.length t_3) : Nat) : Int)))))), (23, (.c (.a (.fz (.int .i64 (0 : Int))))))], [], 0⟩)) ((FV.isSl 4 (.sl false 4 t_3) = true) ∧ (RPt Try.prog 60 0 r Hs' 3 ⟨[(1, (.c (.a (.fz (.int .i64 i))))), (5, (.c (.a (.fz (.int .i64 (0 : Int)))))), (21, (.c (.a (.fz (.sl false 4 t_3))))), (22, (.c (.a (.fz (.int .i64 (((List.length t_3) : Nat) : Int)))))), (23, (.c (.a (.fz (.int .i64 (0 : Int))))))], [], 0⟩)))) := by kernel_rfl
theorem v60_3a (x1 : Int) (x5 : Int) (x21 : List (List FV)) (x22 : Int) (x23 : Int) (r : TV) (Hs' : List AObj) : vcP Try.prog sh lv60 60 0 (fun r0 Hs0 => TV.Le r0 r ∧ Hs0 = Hs') (RPt Try.prog 60 0 r Hs') 3 ⟨[(1, (.c (.a (.fz (.int .i64 x1))))), (5, (.c (.a (.fz (.int .i64 x5))))), (21, (.c (.a (.fz (.sl false 4 x21))))), (22, (.c (.a (.fz (.int .i64 x22))))), (23, (.c (.a (.fz (.int .i64 x23)))))], [], 0⟩ =
    (br (decide ((x23 : Int) < x22)) (((FV.isSl 4 (.sl false 4 x21) = true) ∧ ((0 ≤ x23) ∧ ((x23 < (((List.length x21) : Nat) : Int)) ∧ (((rE (List.getD x21 (Int.toNat x23) [])) : List FV) = (List.getD x21 (Int.toNat x23) []))))) ∧ (∃ n1 : Int, ((AC Try.prog 60 [(aE (List.getD x21 (Int.toNat x23) [])), (.c (.a (.fz (.int .i64 x1))))] [] (.c (.a (.fz (.int .i64 n1)))) []) ∧ (RPt Try.prog 60 0 r Hs' 3 ⟨[(1, (.c (.a (.fz (.int .i64 x1))))), (5, (.c (.a (.fz (.int .i64 (IntKind.wrap .i64 (x5 + n1))))))), (21, (.c (.a (.fz (.sl false 4 x21))))), (22, (.c (.a (.fz (.int .i64 x22))))), (23, (.c (.a (.fz (.int .i64 (IntKind.wrap .i64 (x23 + (1 : Int))))))))], [], 0⟩)))) (TV.Le (.c (.a (.fz (.int .i64 x5)))) r ∧ [] = Hs')) := by kernel_rfl
/-- lambent/term.Subst -/
def lv61 : List (Nat × List Nat) := []
theorem v61 (t_0 : Int) (t_1 : List UInt8) (t_2 : Int) (t_3 : List (List FV)) (i : Int) (s_0 : Int) (s_1 : List UInt8) (s_2 : Int) (s_3 : List (List FV)) (r : TV) (Hs' : List AObj) : vcE Try.prog sh lv61 61 [(.agg [(.a (.fz (.int .i64 t_0))), (.a (.fz (.str t_1))), (.a (.fz (.int .i64 t_2))), (.a (.fz (.sl false 4 t_3)))]), (.c (.a (.fz (.int .i64 i)))), (.agg [(.a (.fz (.int .i64 s_0))), (.a (.fz (.str s_1))), (.a (.fz (.int .i64 s_2))), (.a (.fz (.sl false 4 s_3)))])] [] (fun r0 Hs0 => TV.Le r0 r ∧ Hs0 = Hs') (RPt Try.prog 61 0 r Hs') =
    (∃ z1 : Tm, ((AC Try.prog 66 [(.agg [(.fn (.func 63) [] [(false, [(.ep 0 1 0 0)]), (false, [(.ep 1 4 0 0)])])]), (.agg [(.a (.fz (.int .i64 t_0))), (.a (.fz (.str t_1))), (.a (.fz (.int .i64 t_2))), (.a (.fz (.sl false 4 t_3)))]), (.c (.a (.fz (.int .i64 (0 : Int)))))] [(.arr 1 [[(.a (.fz (.int .i64 i)))]]), (.arr 4 [[(.a (.fz (.int .i64 s_0))), (.a (.fz (.str s_1))), (.a (.fz (.int .i64 s_2))), (.a (.fz (.sl false 4 s_3)))]])] (aT z1) [(.arr 1 [[(.a (.fz (.int .i64 i)))]]), (.arr 4 [[(.a (.fz (.int .i64 s_0))), (.a (.fz (.str s_1))), (.a (.fz (.int .i64 s_2))), (.a (.fz (.sl false 4 s_3)))]])]) ∧ (TV.Le (aT z1) r ∧ [] = Hs'))) := by kernel_rfl
/-- internal/stringslite.IndexByte -/
def lv48 : List (Nat × List Nat) := []
theorem v48 (s : List UInt8) (c : Int) (r : TV) (Hs' : List AObj) : vcE Try.prog sh lv48 48 [(.c (.a (.fz (.str s)))), (.c (.a (.fz (.int .u8 c))))] [] (fun r0 Hs0 => TV.Le r0 r ∧ Hs0 = Hs') (RPt Try.prog 48 0 r Hs') =
    (∃ n1 : Int, ((AC Try.prog 52 [(.c (.a (.fz (.str s)))), (.c (.a (.fz (.int .u8 c))))] [] (.c (.a (.fz (.int .i64 n1)))) []) ∧ (TV.Le (.c (.a (.fz (.int .i64 n1)))) r ∧ [] = Hs'))) := by kernel_rfl
/-- lambent/term.within -/
def lv62 : List (Nat × List Nat) := []
theorem v62 (t_0 : Int) (t_1 : List UInt8) (t_2 : Int) (t_3 : List (List FV)) (r : TV) (Hs' : List AObj) : vcE Try.prog sh lv62 62 [(.agg [(.a (.fz (.int .i64 t_0))), (.a (.fz (.str t_1))), (.a (.fz (.int .i64 t_2))), (.a (.fz (.sl false 4 t_3)))])] [] (fun r0 Hs0 => TV.Le r0 r ∧ Hs0 = Hs') (RPt Try.prog 62 0 r Hs') =
    (br ((t_0 : Int) == (5 : Int)) (TV.Le (.tup [(false, [(.a (.fz (.sl false 4 t_3)))]), (false, [(.a (.fz (.int .i64 (1 : Int))))])]) r ∧ [] = Hs') (br ((t_0 : Int) == (6 : Int)) (TV.Le (.tup [(false, [(.a (.fz (.sl false 4 t_3)))]), (false, [(.a (.fz (.int .i64 (0 : Int))))])]) r ∧ [] = Hs') (TV.Le (.tup [(false, [(.a (.fz .nils))]), (false, [(.a (.fz (.int .i64 (0 : Int))))])]) r ∧ [] = Hs'))) := by kernel_rfl
/-- (lambent/term.walk).term -/
def lv66 : List (Nat × List Nat) := [(1, [2, 3, 4, 6, 7, 8, 9, 30, 31, 32])]
theorem v66_F63 (t_0 : Int) (t_1 : List UInt8) (t_2 : Int) (t_3 : List (List FV)) (k : Int) (o0_0 : Int) (o1_0 : Int) (o1_1 : List UInt8) (o1_2 : Int) (o1_3 : List (List FV)) (r : TV) (Hs' : List AObj) : vcE Try.prog sh lv66 66 [(.agg [(.fn (.func 63) [] [(false, [(.ep 0 1 0 0)]), (false, [(.ep 1 4 0 0)])])]), (.agg [(.a (.fz (.int .i64 t_0))), (.a (.fz (.str t_1))), (.a (.fz (.int .i64 t_2))), (.a (.fz (.sl false 4 t_3)))]), (.c (.a (.fz (.int .i64 k))))] [(.arr 1 [[(.a (.fz (.int .i64 o0_0)))]]), (.arr 4 [[(.a (.fz (.int .i64 o1_0))), (.a (.fz (.str o1_1))), (.a (.fz (.int .i64 o1_2))), (.a (.fz (.sl false 4 o1_3)))]])] (fun r0 Hs0 => TV.Le r0 r ∧ Hs0 = Hs') (RPt Try.prog 66 2 r Hs') =
    (br ((t_0 : Int) != (5 : Int)) (br ((t_0 : Int) != (6 : Int)) (∃ z1 : Tm, ((AC Try.prog 63 [(.agg [(.a (.fz (.int .i64 t_0))), (.a (.fz (.str t_1))), (.a (.fz (.int .i64 t_2))), (.a (.fz (.sl false 4 t_3)))]), (.c (.a (.fz (.int .i64 k)))), (.c (.a (.ep 0 1 0 0))), (.c (.a (.ep 1 4 0 0)))] [(.arr 1 [[(.a (.fz (.int .i64 o0_0)))]]), (.arr 4 [[(.a (.fz (.int .i64 o1_0))), (.a (.fz (.str o1_1))), (.a (.fz (.int .i64 o1_2))), (.a (.fz (.sl false 4 o1_3)))]])] (aT z1) [(.arr 1 [[(.a (.fz (.int .i64 o0_0)))]]), (.arr 4 [[(.a (.fz (.int .i64 o1_0))), (.a (.fz (.str o1_1))), (.a (.fz (.int .i64 o1_2))), (.a (.fz (.sl false 4 o1_3)))]])]) ∧ (TV.Le (aT z1) r ∧ [(.arr 1 [[(.a (.fz (.int .i64 o0_0)))]]), (.arr 4 [[(.a (.fz (.int .i64 o1_0))), (.a (.fz (.str o1_1))), (.a (.fz (.int .i64 o1_2))), (.a (.fz (.sl false 4 o1_3)))]])] = Hs'))) (∃ y2 : FV, (∃ n3 : Int, ((AC Try.prog 62 [(.agg [(.a (.fz (.int .i64 t_0))), (.a (.fz (.str t_1))), (.a (.fz (.int .i64 t_2))), (.a (.fz (.sl false 4 t_3)))])] [] (.tup [(false, [(.a (.fz y2))]), (false, [(.a (.fz (.int .i64 n3)))])]) []) ∧ ((FV.isSl 4 y2 = true) ∧ (RPt Try.prog 66 2 r Hs' 1 ⟨[(2, (.c (.a (.fz (.int .i64 k))))), (3, (.c (.a (.ep 2 1 0 0)))), (4, (.c (.a (.ep 3 4 0 0)))), (6, (.c (.a (.ep 4 4 0 0)))), (7, (.c (.a (.fz y2)))), (8, (.c (.a (.fz (.int .i64 n3))))), (9, (.c (.a (.fz .nils)))), (30, (.c (.a (.fz y2)))), (31, (.c (.a (.fz (.int .i64 (((List.length (FV.ses y2)) : Nat) : Int)))))), (32, (.c (.a (.fz (.int .i64 (0 : Int))))))], [(0, (.arr 1 [[(.a (.fz (.int .i64 o0_0)))]])), (1, (.arr 4 [[(.a (.fz (.int .i64 o1_0))), (.a (.fz (.str o1_1))), (.a (.fz (.int .i64 o1_2))), (.a (.fz (.sl false 4 o1_3)))]])), (2, (.arr 1 [[(.fn (.func 63) [] [(false, [(.ep 0 1 0 0)]), (false, [(.ep 1 4 0 0)])])]])), (3, (.arr 4 [[(.a (.fz (.int .i64 t_0))), (.a (.fz (.str t_1))), (.a (.fz (.int .i64 t_2))), (.a (.fz (.sl false 4 t_3)))]])), (4, (.arr 4 [[(.a (.fz (.int .i64 (0 : Int)))), (.a (.fz (.str []))), (.a (.fz (.int .i64 (0 : Int)))), (.a (.fz .nils))]]))], 5⟩)))))) (∃ y4 : FV, (∃ n5 : Int, ((AC Try.prog 62 [(.agg [(.a (.fz (.int .i64 t_0))), (.a (.fz (.str t_1))), (.a (.fz (.int .i64 t_2))), (.a (.fz (.sl false 4 t_3)))])] [] (.tup [(false, [(.a (.fz y4))]), (false, [(.a (.fz (.int .i64 n5)))])]) []) ∧ ((FV.isSl 4 y4 = true) ∧ (RPt Try.prog 66 2 r Hs' 1 ⟨[(2, (.c (.a (.fz (.int .i64 k))))), (3, (.c (.a (.ep 2 1 0 0)))), (4, (.c (.a (.ep 3 4 0 0)))), (6, (.c (.a (.ep 4 4 0 0)))), (7, (.c (.a (.fz y4)))), (8, (.c (.a (.fz (.int .i64 n5))))), (9, (.c (.a (.fz .nils)))), (30, (.c (.a (.fz y4)))), (31, (.c (.a (.fz (.int .i64 (((List.length (FV.ses y4)) : Nat) : Int)))))), (32, (.c (.a (.fz (.int .i64 (0 : Int))))))], [(0, (.arr 1 [[(.a (.fz (.int .i64 o0_0)))]])), (1, (.arr 4 [[(.a (.fz (.int .i64 o1_0))), (.a (.fz (.str o1_1))), (.a (.fz (.int .i64 o1_2))), (.a (.fz (.sl false 4 o1_3)))]])), (2, (.arr 1 [[(.fn (.func 63) [] [(false, [(.ep 0 1 0 0)]), (false, [(.ep 1 4 0 0)])])]])), (3, (.arr 4 [[(.a (.fz (.int .i64 t_0))), (.a (.fz (.str t_1))), (.a (.fz (.int .i64 t_2))), (.a (.fz (.sl false 4 t_3)))]])), (4, (.arr 4 [[(.a (.fz (.int .i64 (0 : Int)))), (.a (.fz (.str []))), (.a (.fz (.int .i64 (0 : Int)))), (.a (.fz .nils))]]))], 5⟩)))))) := by kernel_rfl
theorem v66_F63_1a (x2 : Int) (x7 : FV) (x8 : Int) (x30 : FV) (x31 : Int) (x32 : Int) (h0_0 : Int) (h1_0 : Int) (h1_1 : List UInt8) (h1_2 : Int) (h1_3 : List (List FV)) (h3_0 : Int) (h3_1 : List UInt8) (h3_2 : Int) (h3_3 : List (List FV)) (h4_0 : Int) (h4_1 : List UInt8) (h4_2 : Int) (r : TV) (Hs' : List AObj) : vcP Try.prog sh lv66 66 2 (fun r0 Hs0 => TV.Le r0 r ∧ Hs0 = Hs') (RPt Try.prog 66 2 r Hs') 1 ⟨[(2, (.c (.a (.fz (.int .i64 x2))))), (3, (.c (.a (.ep 2 1 0 0)))), (4, (.c (.a (.ep 3 4 0 0)))), (6, (.c (.a (.ep 4 4 0 0)))), (7, (.c (.a (.fz x7)))), (8, (.c (.a (.fz (.int .i64 x8))))), (9, (.c (.a (.fz .nils)))), (30, (.c (.a (.fz x30)))), (31, (.c (.a (.fz (.int .i64 x31))))), (32, (.c (.a (.fz (.int .i64 x32)))))], [(0, (.arr 1 [[(.a (.fz (.int .i64 h0_0)))]])), (1, (.arr 4 [[(.a (.fz (.int .i64 h1_0))), (.a (.fz (.str h1_1))), (.a (.fz (.int .i64 h1_2))), (.a (.fz (.sl false 4 h1_3)))]])), (2, (.arr 1 [[(.fn (.func 63) [] [(false, [(.ep 0 1 0 0)]), (false, [(.ep 1 4 0 0)])])]])), (3, (.arr 4 [[(.a (.fz (.int .i64 h3_0))), (.a (.fz (.str h3_1))), (.a (.fz (.int .i64 h3_2))), (.a (.fz (.sl false 4 h3_3)))]])), (4, (.arr 4 [[(.a (.fz (.int .i64 h4_0))), (.a (.fz (.str h4_1))), (.a (.fz (.int .i64 h4_2))), (.a (.fz .nils))]]))], 5⟩ =
    (br (decide ((x32 : Int) < x31)) (((FV.isSl 4 x30 = true) ∧ ((0 ≤ x32) ∧ ((x32 < (((List.length (FV.ses x30)) : Nat) : Int)) ∧ (((rE (List.getD (FV.ses x30) (Int.toNat x32) [])) : List FV) = (List.getD (FV.ses x30) (Int.toNat x32) []))))) ∧ (∃ z1 : Tm, ((AC Try.prog 66 [(.agg [(.fn (.func 63) [] [(false, [(.ep 0 1 0 0)]), (false, [(.ep 1 4 0 0)])])]), (aE (List.getD (FV.ses x30) (Int.toNat x32) [])), (.c (.a (.fz (.int .i64 (IntKind.wrap .i64 (x2 + x8))))))] [(.arr 1 [[(.a (.fz (.int .i64 h0_0)))]]), (.arr 4 [[(.a (.fz (.int .i64 h1_0))), (.a (.fz (.str h1_1))), (.a (.fz (.int .i64 h1_2))), (.a (.fz (.sl false 4 h1_3)))]])] (aT z1) [(.arr 1 [[(.a (.fz (.int .i64 h0_0)))]]), (.arr 4 [[(.a (.fz (.int .i64 h1_0))), (.a (.fz (.str h1_1))), (.a (.fz (.int .i64 h1_2))), (.a (.fz (.sl false 4 h1_3)))]])]) ∧ ((1 ≤ 1) ∧ ((roomB 1 56) ∧ (RPt Try.prog 66 2 r Hs' 1 ⟨[(2, (.c (.a (.fz (.int .i64 x2))))), (3, (.c (.a (.ep 2 1 0 0)))), (4, (.c (.a (.ep 3 4 0 0)))), (6, (.c (.a (.ep 4 4 0 0)))), (7, (.c (.a (.fz x7)))), (8, (.c (.a (.fz (.int .i64 x8))))), (9, (.c (.a (.osl 5 4 0 1)))), (30, (.c (.a (.fz x30)))), (31, (.c (.a (.fz (.int .i64 x31))))), (32, (.c (.a (.fz (.int .i64 (IntKind.wrap .i64 (x32 + (1 : Int))))))))], [(0, (.arr 1 [[(.a (.fz (.int .i64 h0_0)))]])), (1, (.arr 4 [[(.a (.fz (.int .i64 h1_0))), (.a (.fz (.str h1_1))), (.a (.fz (.int .i64 h1_2))), (.a (.fz (.sl false 4 h1_3)))]])), (2, (.arr 1 [[(.fn (.func 63) [] [(false, [(.ep 0 1 0 0)]), (false, [(.ep 1 4 0 0)])])]])), (3, (.arr 4 [[(.a (.fz (.int .i64 h3_0))), (.a (.fz (.str h3_1))), (.a (.fz (.int .i64 h3_2))), (.a (.fz (.sl false 4 h3_3)))]])), (4, (.arr 4 [[(.a (.fz (.int .i64 h4_0))), (.a (.fz (.str h4_1))), (.a (.fz (.int .i64 h4_2))), (.a (.fz .nils))]])), (5, (.arz 4 [(FT4 z1)]))], 6⟩)))))) (br ((h3_0 : Int) == (6 : Int)) ((FV.isSl 4 .nils = true) ∧ (TV.Le (.agg [(.a (.fz (.int .i64 h3_0))), (.a (.fz (.str h3_1))), (.a (.fz (.int .i64 h3_2))), (.a (.fz .nils))]) r ∧ [(.arr 1 [[(.a (.fz (.int .i64 h0_0)))]]), (.arr 4 [[(.a (.fz (.int .i64 h1_0))), (.a (.fz (.str h1_1))), (.a (.fz (.int .i64 h1_2))), (.a (.fz (.sl false 4 h1_3)))]])] = Hs')) (TV.Le (.agg [(.a (.fz (.int .i64 h3_0))), (.a (.fz (.str h3_1))), (.a (.fz (.int .i64 h3_2))), (.a (.fz .nils))]) r ∧ [(.arr 1 [[(.a (.fz (.int .i64 h0_0)))]]), (.arr 4 [[(.a (.fz (.int .i64 h1_0))), (.a (.fz (.str h1_1))), (.a (.fz (.int .i64 h1_2))), (.a (.fz (.sl false 4 h1_3)))]])] = Hs'))) := by kernel_rfl
theorem v66_F63_1b (x2 : Int) (x7 : FV) (x8 : Int) (x9l : Nat) (x30 : FV) (x31 : Int) (x32 : Int) (h0_0 : Int) (h1_0 : Int) (h1_1 : List UInt8) (h1_2 : Int) (h1_3 : List (List FV)) (h3_0 : Int) (h3_1 : List UInt8) (h3_2 : Int) (h3_3 : List (List FV)) (h4_0 : Int) (h4_1 : List UInt8) (h4_2 : Int) (h5 : List (List FV)) (r : TV) (Hs' : List AObj) : vcP Try.prog sh lv66 66 2 (fun r0 Hs0 => TV.Le r0 r ∧ Hs0 = Hs') (RPt Try.prog 66 2 r Hs') 1 ⟨[(2, (.c (.a (.fz (.int .i64 x2))))), (3, (.c (.a (.ep 2 1 0 0)))), (4, (.c (.a (.ep 3 4 0 0)))), (6, (.c (.a (.ep 4 4 0 0)))), (7, (.c (.a (.fz x7)))), (8, (.c (.a (.fz (.int .i64 x8))))), (9, (.c (.a (.osl 5 4 0 x9l)))), (30, (.c (.a (.fz x30)))), (31, (.c (.a (.fz (.int .i64 x31))))), (32, (.c (.a (.fz (.int .i64 x32)))))], [(0, (.arr 1 [[(.a (.fz (.int .i64 h0_0)))]])), (1, (.arr 4 [[(.a (.fz (.int .i64 h1_0))), (.a (.fz (.str h1_1))), (.a (.fz (.int .i64 h1_2))), (.a (.fz (.sl false 4 h1_3)))]])), (2, (.arr 1 [[(.fn (.func 63) [] [(false, [(.ep 0 1 0 0)]), (false, [(.ep 1 4 0 0)])])]])), (3, (.arr 4 [[(.a (.fz (.int .i64 h3_0))), (.a (.fz (.str h3_1))), (.a (.fz (.int .i64 h3_2))), (.a (.fz (.sl false 4 h3_3)))]])), (4, (.arr 4 [[(.a (.fz (.int .i64 h4_0))), (.a (.fz (.str h4_1))), (.a (.fz (.int .i64 h4_2))), (.a (.fz .nils))]])), (5, (.arz 4 h5))], 6⟩ =
    (br (decide ((x32 : Int) < x31)) (((FV.isSl 4 x30 = true) ∧ ((0 ≤ x32) ∧ ((x32 < (((List.length (FV.ses x30)) : Nat) : Int)) ∧ (((rE (List.getD (FV.ses x30) (Int.toNat x32) [])) : List FV) = (List.getD (FV.ses x30) (Int.toNat x32) []))))) ∧ (∃ z1 : Tm, ((AC Try.prog 66 [(.agg [(.fn (.func 63) [] [(false, [(.ep 0 1 0 0)]), (false, [(.ep 1 4 0 0)])])]), (aE (List.getD (FV.ses x30) (Int.toNat x32) [])), (.c (.a (.fz (.int .i64 (IntKind.wrap .i64 (x2 + x8))))))] [(.arr 1 [[(.a (.fz (.int .i64 h0_0)))]]), (.arr 4 [[(.a (.fz (.int .i64 h1_0))), (.a (.fz (.str h1_1))), (.a (.fz (.int .i64 h1_2))), (.a (.fz (.sl false 4 h1_3)))]])] (aT z1) [(.arr 1 [[(.a (.fz (.int .i64 h0_0)))]]), (.arr 4 [[(.a (.fz (.int .i64 h1_0))), (.a (.fz (.str h1_1))), (.a (.fz (.int .i64 h1_2))), (.a (.fz (.sl false 4 h1_3)))]])]) ∧ ((1 ≤ 1) ∧ ((x9l ≤ (List.length h5) ∧ roomB (x9l + 1) 56) ∧ (RPt Try.prog 66 2 r Hs' 1 ⟨[(2, (.c (.a (.fz (.int .i64 x2))))), (3, (.c (.a (.ep 2 1 0 0)))), (4, (.c (.a (.ep 3 4 0 0)))), (6, (.c (.a (.ep 4 4 0 0)))), (7, (.c (.a (.fz x7)))), (8, (.c (.a (.fz (.int .i64 x8))))), (9, (.c (.a (.osl 5 4 0 (x9l + 1))))), (30, (.c (.a (.fz x30)))), (31, (.c (.a (.fz (.int .i64 x31))))), (32, (.c (.a (.fz (.int .i64 (IntKind.wrap .i64 (x32 + (1 : Int))))))))], [(0, (.arr 1 [[(.a (.fz (.int .i64 h0_0)))]])), (1, (.arr 4 [[(.a (.fz (.int .i64 h1_0))), (.a (.fz (.str h1_1))), (.a (.fz (.int .i64 h1_2))), (.a (.fz (.sl false 4 h1_3)))]])), (2, (.arr 1 [[(.fn (.func 63) [] [(false, [(.ep 0 1 0 0)]), (false, [(.ep 1 4 0 0)])])]])), (3, (.arr 4 [[(.a (.fz (.int .i64 h3_0))), (.a (.fz (.str h3_1))), (.a (.fz (.int .i64 h3_2))), (.a (.fz (.sl false 4 h3_3)))]])), (4, (.arr 4 [[(.a (.fz (.int .i64 h4_0))), (.a (.fz (.str h4_1))), (.a (.fz (.int .i64 h4_2))), (.a (.fz .nils))]])), (5, (.arz 4 ((List.take x9l h5) ++ [(FT4 z1)])))], 6⟩)))))) (br ((h3_0 : Int) == (6 : Int)) (br (decide ((((x9l : Nat) : Int) : Int) > (1 : Int))) ((0 ≤ (0 : Int) ∧ (0 : Int) < ((x9l : Nat) : Int)) ∧ (((0 < (List.length h5)) ∧ ((([(.int .i64 (FV.asI (List.getD (List.getD h5 0 []) 0 FV.nils)))] : List FV) = (List.take 1 (List.drop 0 (List.getD h5 0 [])))) ∧ ((1 : Nat) = 1))) ∧ (br (((FV.asI (List.getD (List.getD h5 0 []) 0 FV.nils)) : Int) == (6 : Int)) (((FV.isSl 4 x7 = true) ∧ ((0 ≤ (0 : Int)) ∧ (((0 : Int) < (((List.length (FV.ses x7)) : Nat) : Int)) ∧ (((rE (List.getD (FV.ses x7) 0 [])) : List FV) = (List.getD (FV.ses x7) 0 []))))) ∧ (br (((FV.asI (List.getD (List.getD (FV.ses x7) 0 []) 0 FV.nils)) : Int) != (6 : Int)) ((0 ≤ (0 : Int) ∧ (0 : Int) < ((x9l : Nat) : Int)) ∧ (((0 < (List.length h5)) ∧ ((((rE (List.getD h5 0 [])) : List FV) = (List.take 4 (List.drop 0 (List.getD h5 0 [])))) ∧ ((4 : Nat) = 4))) ∧ (((0 ≤ (1 : Int)) ∧ (((1 : Int) ≤ ((x9l : Nat) : Int)) ∧ (((x9l : Nat) : Int) ≤ ((x9l : Nat) : Int)))) ∧ (((4 : Nat) = 4 ∧ (1 + ((Int.toNat ((x9l : Nat) : Int)) - 1)) ≤ (List.length h5)) ∧ (∃ z2 : Tm, ((AC Try.prog 16 [(aE (List.getD h5 0 [])), (.c (.a (.fz (.sl false 4 (List.take ((Int.toNat ((x9l : Nat) : Int)) - 1) (List.drop 1 h5))))))] [] (aT z2) []) ∧ (TV.Le (aT z2) r ∧ [(.arr 1 [[(.a (.fz (.int .i64 h0_0)))]]), (.arr 4 [[(.a (.fz (.int .i64 h1_0))), (.a (.fz (.str h1_1))), (.a (.fz (.int .i64 h1_2))), (.a (.fz (.sl false 4 h1_3)))]])] = Hs'))))))) (((4 : Nat) = 4 ∧ (0 + x9l) ≤ (List.length h5)) ∧ (TV.Le (.agg [(.a (.fz (.int .i64 h3_0))), (.a (.fz (.str h3_1))), (.a (.fz (.int .i64 h3_2))), (.a (.fz (.sl false 4 (List.take x9l (List.drop 0 h5)))))]) r ∧ [(.arr 1 [[(.a (.fz (.int .i64 h0_0)))]]), (.arr 4 [[(.a (.fz (.int .i64 h1_0))), (.a (.fz (.str h1_1))), (.a (.fz (.int .i64 h1_2))), (.a (.fz (.sl false 4 h1_3)))]])] = Hs')))) (((4 : Nat) = 4 ∧ (0 + x9l) ≤ (List.length h5)) ∧ (TV.Le (.agg [(.a (.fz (.int .i64 h3_0))), (.a (.fz (.str h3_1))), (.a (.fz (.int .i64 h3_2))), (.a (.fz (.sl false 4 (List.take x9l (List.drop 0 h5)))))]) r ∧ [(.arr 1 [[(.a (.fz (.int .i64 h0_0)))]]), (.arr 4 [[(.a (.fz (.int .i64 h1_0))), (.a (.fz (.str h1_1))), (.a (.fz (.int .i64 h1_2))), (.a (.fz (.sl false 4 h1_3)))]])] = Hs'))))) (((4 : Nat) = 4 ∧ (0 + x9l) ≤ (List.length h5)) ∧ (TV.Le (.agg [(.a (.fz (.int .i64 h3_0))), (.a (.fz (.str h3_1))), (.a (.fz (.int .i64 h3_2))), (.a (.fz (.sl false 4 (List.take x9l (List.drop 0 h5)))))]) r ∧ [(.arr 1 [[(.a (.fz (.int .i64 h0_0)))]]), (.arr 4 [[(.a (.fz (.int .i64 h1_0))), (.a (.fz (.str h1_1))), (.a (.fz (.int .i64 h1_2))), (.a (.fz (.sl false 4 h1_3)))]])] = Hs'))) (((4 : Nat) = 4 ∧ (0 + x9l) ≤ (List.length h5)) ∧ (TV.Le (.agg [(.a (.fz (.int .i64 h3_0))), (.a (.fz (.str h3_1))), (.a (.fz (.int .i64 h3_2))), (.a (.fz (.sl false 4 (List.take x9l (List.drop 0 h5)))))]) r ∧ [(.arr 1 [[(.a (.fz (.int .i64 h0_0)))]]), (.arr 4 [[(.a (.fz (.int .i64 h1_0))), (.a (.fz (.str h1_1))), (.a (.fz (.int .i64 h1_2))), (.a (.fz (.sl false 4 h1_3)))]])] = Hs')))) := by kernel_rfl
/-- lambent/term.Subst$1 -/
def lv63 : List (Nat × List Nat) := []
theorem v63 (u_0 : Int) (u_1 : List UInt8) (u_2 : Int) (u_3 : List (List FV)) (k : Int) (o0_0 : Int) (o1_0 : Int) (o1_1 : List UInt8) (o1_2 : Int) (o1_3 : List (List FV)) (r : TV) (Hs' : List AObj) : vcE Try.prog sh lv63 63 [(.agg [(.a (.fz (.int .i64 u_0))), (.a (.fz (.str u_1))), (.a (.fz (.int .i64 u_2))), (.a (.fz (.sl false 4 u_3)))]), (.c (.a (.fz (.int .i64 k)))), (.c (.a (.ep 0 1 0 0))), (.c (.a (.ep 1 4 0 0)))] [(.arr 1 [[(.a (.fz (.int .i64 o0_0)))]]), (.arr 4 [[(.a (.fz (.int .i64 o1_0))), (.a (.fz (.str o1_1))), (.a (.fz (.int .i64 o1_2))), (.a (.fz (.sl false 4 o1_3)))]])] (fun r0 Hs0 => TV.Le r0 r ∧ Hs0 = Hs') (RPt Try.prog 63 2 r Hs') =
    (br ((u_0 : Int) != (3 : Int)) (TV.Le (.agg [(.a (.fz (.int .i64 u_0))), (.a (.fz (.str u_1))), (.a (.fz (.int .i64 u_2))), (.a (.fz (.sl false 4 u_3)))]) r ∧ [(.arr 1 [[(.a (.fz (.int .i64 o0_0)))]]), (.arr 4 [[(.a (.fz (.int .i64 o1_0))), (.a (.fz (.str o1_1))), (.a (.fz (.int .i64 o1_2))), (.a (.fz (.sl false 4 o1_3)))]])] = Hs') (br (decide ((u_2 : Int) < (IntKind.wrap .i64 (k + o0_0)))) (TV.Le (.agg [(.a (.fz (.int .i64 u_0))), (.a (.fz (.str u_1))), (.a (.fz (.int .i64 u_2))), (.a (.fz (.sl false 4 u_3)))]) r ∧ [(.arr 1 [[(.a (.fz (.int .i64 o0_0)))]]), (.arr 4 [[(.a (.fz (.int .i64 o1_0))), (.a (.fz (.str o1_1))), (.a (.fz (.int .i64 o1_2))), (.a (.fz (.sl false 4 o1_3)))]])] = Hs') (br ((u_2 : Int) == (IntKind.wrap .i64 (k + o0_0))) (∃ z1 : Tm, ((AC Try.prog 64 [(.agg [(.a (.fz (.int .i64 o1_0))), (.a (.fz (.str o1_1))), (.a (.fz (.int .i64 o1_2))), (.a (.fz (.sl false 4 o1_3)))]), (.c (.a (.fz (.int .i64 (0 : Int))))), (.c (.a (.fz (.int .i64 k))))] [] (aT z1) []) ∧ (TV.Le (aT z1) r ∧ [(.arr 1 [[(.a (.fz (.int .i64 o0_0)))]]), (.arr 4 [[(.a (.fz (.int .i64 o1_0))), (.a (.fz (.str o1_1))), (.a (.fz (.int .i64 o1_2))), (.a (.fz (.sl false 4 o1_3)))]])] = Hs'))) (∃ z2 : Tm, ((AC Try.prog 65 [(.agg [(.a (.fz (.int .i64 u_0))), (.a (.fz (.str u_1))), (.a (.fz (.int .i64 u_2))), (.a (.fz (.sl false 4 u_3)))]), (.c (.a (.fz (.int .i64 (-1 : Int)))))] [] (aT z2) []) ∧ (TV.Le (aT z2) r ∧ [(.arr 1 [[(.a (.fz (.int .i64 o0_0)))]]), (.arr 4 [[(.a (.fz (.int .i64 o1_0))), (.a (.fz (.str o1_1))), (.a (.fz (.int .i64 o1_2))), (.a (.fz (.sl false 4 o1_3)))]])] = Hs')))))) := by kernel_rfl
/-- lambent/term.Shift -/
def lv64 : List (Nat × List Nat) := []
theorem v64 (t_0 : Int) (t_1 : List UInt8) (t_2 : Int) (t_3 : List (List FV)) (a1 : Int) (a2 : Int) (r : TV) (Hs' : List AObj) : vcE Try.prog sh lv64 64 [(.agg [(.a (.fz (.int .i64 t_0))), (.a (.fz (.str t_1))), (.a (.fz (.int .i64 t_2))), (.a (.fz (.sl false 4 t_3)))]), (.c (.a (.fz (.int .i64 a1)))), (.c (.a (.fz (.int .i64 a2))))] [] (fun r0 Hs0 => TV.Le r0 r ∧ Hs0 = Hs') (RPt Try.prog 64 0 r Hs') =
    (∃ z1 : Tm, ((AC Try.prog 66 [(.agg [(.fn (.func 67) [] [(false, [(.ep 0 1 0 0)]), (false, [(.ep 1 1 0 0)])])]), (.agg [(.a (.fz (.int .i64 t_0))), (.a (.fz (.str t_1))), (.a (.fz (.int .i64 t_2))), (.a (.fz (.sl false 4 t_3)))]), (.c (.a (.fz (.int .i64 (0 : Int)))))] [(.arr 1 [[(.a (.fz (.int .i64 a1)))]]), (.arr 1 [[(.a (.fz (.int .i64 a2)))]])] (aT z1) [(.arr 1 [[(.a (.fz (.int .i64 a1)))]]), (.arr 1 [[(.a (.fz (.int .i64 a2)))]])]) ∧ (TV.Le (aT z1) r ∧ [] = Hs'))) := by kernel_rfl
/-- lambent/term.moved -/
def lv65 : List (Nat × List Nat) := []
theorem v65 (t_0 : Int) (t_1 : List UInt8) (t_2 : Int) (t_3 : List (List FV)) (a1 : Int) (r : TV) (Hs' : List AObj) : vcE Try.prog sh lv65 65 [(.agg [(.a (.fz (.int .i64 t_0))), (.a (.fz (.str t_1))), (.a (.fz (.int .i64 t_2))), (.a (.fz (.sl false 4 t_3)))]), (.c (.a (.fz (.int .i64 a1))))] [] (fun r0 Hs0 => TV.Le r0 r ∧ Hs0 = Hs') (RPt Try.prog 65 0 r Hs') =
    (TV.Le (.agg [(.a (.fz (.int .i64 t_0))), (.a (.fz (.str t_1))), (.a (.fz (.int .i64 (IntKind.wrap .i64 (t_2 + a1))))), (.a (.fz (.sl false 4 t_3)))]) r ∧ [] = Hs') := by kernel_rfl
/-- (lambent/term.walk).term -/
theorem v66_F67 (t_0 : Int) (t_1 : List UInt8) (t_2 : Int) (t_3 : List (List FV)) (k : Int) (o0_0 : Int) (o1_0 : Int) (r : TV) (Hs' : List AObj) : vcE Try.prog sh lv66 66 [(.agg [(.fn (.func 67) [] [(false, [(.ep 0 1 0 0)]), (false, [(.ep 1 1 0 0)])])]), (.agg [(.a (.fz (.int .i64 t_0))), (.a (.fz (.str t_1))), (.a (.fz (.int .i64 t_2))), (.a (.fz (.sl false 4 t_3)))]), (.c (.a (.fz (.int .i64 k))))] [(.arr 1 [[(.a (.fz (.int .i64 o0_0)))]]), (.arr 1 [[(.a (.fz (.int .i64 o1_0)))]])] (fun r0 Hs0 => TV.Le r0 r ∧ Hs0 = Hs') (RPt Try.prog 66 2 r Hs') =
    (br ((t_0 : Int) != (5 : Int)) (br ((t_0 : Int) != (6 : Int)) (∃ z1 : Tm, ((AC Try.prog 67 [(.agg [(.a (.fz (.int .i64 t_0))), (.a (.fz (.str t_1))), (.a (.fz (.int .i64 t_2))), (.a (.fz (.sl false 4 t_3)))]), (.c (.a (.fz (.int .i64 k)))), (.c (.a (.ep 0 1 0 0))), (.c (.a (.ep 1 1 0 0)))] [(.arr 1 [[(.a (.fz (.int .i64 o0_0)))]]), (.arr 1 [[(.a (.fz (.int .i64 o1_0)))]])] (aT z1) [(.arr 1 [[(.a (.fz (.int .i64 o0_0)))]]), (.arr 1 [[(.a (.fz (.int .i64 o1_0)))]])]) ∧ (TV.Le (aT z1) r ∧ [(.arr 1 [[(.a (.fz (.int .i64 o0_0)))]]), (.arr 1 [[(.a (.fz (.int .i64 o1_0)))]])] = Hs'))) (∃ y2 : FV, (∃ n3 : Int, ((AC Try.prog 62 [(.agg [(.a (.fz (.int .i64 t_0))), (.a (.fz (.str t_1))), (.a (.fz (.int .i64 t_2))), (.a (.fz (.sl false 4 t_3)))])] [] (.tup [(false, [(.a (.fz y2))]), (false, [(.a (.fz (.int .i64 n3)))])]) []) ∧ ((FV.isSl 4 y2 = true) ∧ (RPt Try.prog 66 2 r Hs' 1 ⟨[(2, (.c (.a (.fz (.int .i64 k))))), (3, (.c (.a (.ep 2 1 0 0)))), (4, (.c (.a (.ep 3 4 0 0)))), (6, (.c (.a (.ep 4 4 0 0)))), (7, (.c (.a (.fz y2)))), (8, (.c (.a (.fz (.int .i64 n3))))), (9, (.c (.a (.fz .nils)))), (30, (.c (.a (.fz y2)))), (31, (.c (.a (.fz (.int .i64 (((List.length (FV.ses y2)) : Nat) : Int)))))), (32, (.c (.a (.fz (.int .i64 (0 : Int))))))], [(0, (.arr 1 [[(.a (.fz (.int .i64 o0_0)))]])), (1, (.arr 1 [[(.a (.fz (.int .i64 o1_0)))]])), (2, (.arr 1 [[(.fn (.func 67) [] [(false, [(.ep 0 1 0 0)]), (false, [(.ep 1 1 0 0)])])]])), (3, (.arr 4 [[(.a (.fz (.int .i64 t_0))), (.a (.fz (.str t_1))), (.a (.fz (.int .i64 t_2))), (.a (.fz (.sl false 4 t_3)))]])), (4, (.arr 4 [[(.a (.fz (.int .i64 (0 : Int)))), (.a (.fz (.str []))), (.a (.fz (.int .i64 (0 : Int)))), (.a (.fz .nils))]]))], 5⟩)))))) (∃ y4 : FV, (∃ n5 : Int, ((AC Try.prog 62 [(.agg [(.a (.fz (.int .i64 t_0))), (.a (.fz (.str t_1))), (.a (.fz (.int .i64 t_2))), (.a (.fz (.sl false 4 t_3)))])] [] (.tup [(false, [(.a (.fz y4))]), (false, [(.a (.fz (.int .i64 n5)))])]) []) ∧ ((FV.isSl 4 y4 = true) ∧ (RPt Try.prog 66 2 r Hs' 1 ⟨[(2, (.c (.a (.fz (.int .i64 k))))), (3, (.c (.a (.ep 2 1 0 0)))), (4, (.c (.a (.ep 3 4 0 0)))), (6, (.c (.a (.ep 4 4 0 0)))), (7, (.c (.a (.fz y4)))), (8, (.c (.a (.fz (.int .i64 n5))))), (9, (.c (.a (.fz .nils)))), (30, (.c (.a (.fz y4)))), (31, (.c (.a (.fz (.int .i64 (((List.length (FV.ses y4)) : Nat) : Int)))))), (32, (.c (.a (.fz (.int .i64 (0 : Int))))))], [(0, (.arr 1 [[(.a (.fz (.int .i64 o0_0)))]])), (1, (.arr 1 [[(.a (.fz (.int .i64 o1_0)))]])), (2, (.arr 1 [[(.fn (.func 67) [] [(false, [(.ep 0 1 0 0)]), (false, [(.ep 1 1 0 0)])])]])), (3, (.arr 4 [[(.a (.fz (.int .i64 t_0))), (.a (.fz (.str t_1))), (.a (.fz (.int .i64 t_2))), (.a (.fz (.sl false 4 t_3)))]])), (4, (.arr 4 [[(.a (.fz (.int .i64 (0 : Int)))), (.a (.fz (.str []))), (.a (.fz (.int .i64 (0 : Int)))), (.a (.fz .nils))]]))], 5⟩)))))) := by kernel_rfl
theorem v66_F67_1a (x2 : Int) (x7 : FV) (x8 : Int) (x30 : FV) (x31 : Int) (x32 : Int) (h0_0 : Int) (h1_0 : Int) (h3_0 : Int) (h3_1 : List UInt8) (h3_2 : Int) (h3_3 : List (List FV)) (h4_0 : Int) (h4_1 : List UInt8) (h4_2 : Int) (r : TV) (Hs' : List AObj) : vcP Try.prog sh lv66 66 2 (fun r0 Hs0 => TV.Le r0 r ∧ Hs0 = Hs') (RPt Try.prog 66 2 r Hs') 1 ⟨[(2, (.c (.a (.fz (.int .i64 x2))))), (3, (.c (.a (.ep 2 1 0 0)))), (4, (.c (.a (.ep 3 4 0 0)))), (6, (.c (.a (.ep 4 4 0 0)))), (7, (.c (.a (.fz x7)))), (8, (.c (.a (.fz (.int .i64 x8))))), (9, (.c (.a (.fz .nils)))), (30, (.c (.a (.fz x30)))), (31, (.c (.a (.fz (.int .i64 x31))))), (32, (.c (.a (.fz (.int .i64 x32)))))], [(0, (.arr 1 [[(.a (.fz (.int .i64 h0_0)))]])), (1, (.arr 1 [[(.a (.fz (.int .i64 h1_0)))]])), (2, (.arr 1 [[(.fn (.func 67) [] [(false, [(.ep 0 1 0 0)]), (false, [(.ep 1 1 0 0)])])]])), (3, (.arr 4 [[(.a (.fz (.int .i64 h3_0))), (.a (.fz (.str h3_1))), (.a (.fz (.int .i64 h3_2))), (.a (.fz (.sl false 4 h3_3)))]])), (4, (.arr 4 [[(.a (.fz (.int .i64 h4_0))), (.a (.fz (.str h4_1))), (.a (.fz (.int .i64 h4_2))), (.a (.fz .nils))]]))], 5⟩ =
    (br (decide ((x32 : Int) < x31)) (((FV.isSl 4 x30 = true) ∧ ((0 ≤ x32) ∧ ((x32 < (((List.length (FV.ses x30)) : Nat) : Int)) ∧ (((rE (List.getD (FV.ses x30) (Int.toNat x32) [])) : List FV) = (List.getD (FV.ses x30) (Int.toNat x32) []))))) ∧ (∃ z1 : Tm, ((AC Try.prog 66 [(.agg [(.fn (.func 67) [] [(false, [(.ep 0 1 0 0)]), (false, [(.ep 1 1 0 0)])])]), (aE (List.getD (FV.ses x30) (Int.toNat x32) [])), (.c (.a (.fz (.int .i64 (IntKind.wrap .i64 (x2 + x8))))))] [(.arr 1 [[(.a (.fz (.int .i64 h0_0)))]]), (.arr 1 [[(.a (.fz (.int .i64 h1_0)))]])] (aT z1) [(.arr 1 [[(.a (.fz (.int .i64 h0_0)))]]), (.arr 1 [[(.a (.fz (.int .i64 h1_0)))]])]) ∧ ((1 ≤ 1) ∧ ((roomB 1 56) ∧ (RPt Try.prog 66 2 r Hs' 1 ⟨[(2, (.c (.a (.fz (.int .i64 x2))))), (3, (.c (.a (.ep 2 1 0 0)))), (4, (.c (.a (.ep 3 4 0 0)))), (6, (.c (.a (.ep 4 4 0 0)))), (7, (.c (.a (.fz x7)))), (8, (.c (.a (.fz (.int .i64 x8))))), (9, (.c (.a (.osl 5 4 0 1)))), (30, (.c (.a (.fz x30)))), (31, (.c (.a (.fz (.int .i64 x31))))), (32, (.c (.a (.fz (.int .i64 (IntKind.wrap .i64 (x32 + (1 : Int))))))))], [(0, (.arr 1 [[(.a (.fz (.int .i64 h0_0)))]])), (1, (.arr 1 [[(.a (.fz (.int .i64 h1_0)))]])), (2, (.arr 1 [[(.fn (.func 67) [] [(false, [(.ep 0 1 0 0)]), (false, [(.ep 1 1 0 0)])])]])), (3, (.arr 4 [[(.a (.fz (.int .i64 h3_0))), (.a (.fz (.str h3_1))), (.a (.fz (.int .i64 h3_2))), (.a (.fz (.sl false 4 h3_3)))]])), (4, (.arr 4 [[(.a (.fz (.int .i64 h4_0))), (.a (.fz (.str h4_1))), (.a (.fz (.int .i64 h4_2))), (.a (.fz .nils))]])), (5, (.arz 4 [(FT4 z1)]))], 6⟩)))))) (br ((h3_0 : Int) == (6 : Int)) ((FV.isSl 4 .nils = true) ∧ (TV.Le (.agg [(.a (.fz (.int .i64 h3_0))), (.a (.fz (.str h3_1))), (.a (.fz (.int .i64 h3_2))), (.a (.fz .nils))]) r ∧ [(.arr 1 [[(.a (.fz (.int .i64 h0_0)))]]), (.arr 1 [[(.a (.fz (.int .i64 h1_0)))]])] = Hs')) (TV.Le (.agg [(.a (.fz (.int .i64 h3_0))), (.a (.fz (.str h3_1))), (.a (.fz (.int .i64 h3_2))), (.a (.fz .nils))]) r ∧ [(.arr 1 [[(.a (.fz (.int .i64 h0_0)))]]), (.arr 1 [[(.a (.fz (.int .i64 h1_0)))]])] = Hs'))) := by kernel_rfl
theorem v66_F67_1b (x2 : Int) (x7 : FV) (x8 : Int) (x9l : Nat) (x30 : FV) (x31 : Int) (x32 : Int) (h0_0 : Int) (h1_0 : Int) (h3_0 : Int) (h3_1 : List UInt8) (h3_2 : Int) (h3_3 : List (List FV)) (h4_0 : Int) (h4_1 : List UInt8) (h4_2 : Int) (h5 : List (List FV)) (r : TV) (Hs' : List AObj) : vcP Try.prog sh lv66 66 2 (fun r0 Hs0 => TV.Le r0 r ∧ Hs0 = Hs') (RPt Try.prog 66 2 r Hs') 1 ⟨[(2, (.c (.a (.fz (.int .i64 x2))))), (3, (.c (.a (.ep 2 1 0 0)))), (4, (.c (.a (.ep 3 4 0 0)))), (6, (.c (.a (.ep 4 4 0 0)))), (7, (.c (.a (.fz x7)))), (8, (.c (.a (.fz (.int .i64 x8))))), (9, (.c (.a (.osl 5 4 0 x9l)))), (30, (.c (.a (.fz x30)))), (31, (.c (.a (.fz (.int .i64 x31))))), (32, (.c (.a (.fz (.int .i64 x32)))))], [(0, (.arr 1 [[(.a (.fz (.int .i64 h0_0)))]])), (1, (.arr 1 [[(.a (.fz (.int .i64 h1_0)))]])), (2, (.arr 1 [[(.fn (.func 67) [] [(false, [(.ep 0 1 0 0)]), (false, [(.ep 1 1 0 0)])])]])), (3, (.arr 4 [[(.a (.fz (.int .i64 h3_0))), (.a (.fz (.str h3_1))), (.a (.fz (.int .i64 h3_2))), (.a (.fz (.sl false 4 h3_3)))]])), (4, (.arr 4 [[(.a (.fz (.int .i64 h4_0))), (.a (.fz (.str h4_1))), (.a (.fz (.int .i64 h4_2))), (.a (.fz .nils))]])), (5, (.arz 4 h5))], 6⟩ =
    (br (decide ((x32 : Int) < x31)) (((FV.isSl 4 x30 = true) ∧ ((0 ≤ x32) ∧ ((x32 < (((List.length (FV.ses x30)) : Nat) : Int)) ∧ (((rE (List.getD (FV.ses x30) (Int.toNat x32) [])) : List FV) = (List.getD (FV.ses x30) (Int.toNat x32) []))))) ∧ (∃ z1 : Tm, ((AC Try.prog 66 [(.agg [(.fn (.func 67) [] [(false, [(.ep 0 1 0 0)]), (false, [(.ep 1 1 0 0)])])]), (aE (List.getD (FV.ses x30) (Int.toNat x32) [])), (.c (.a (.fz (.int .i64 (IntKind.wrap .i64 (x2 + x8))))))] [(.arr 1 [[(.a (.fz (.int .i64 h0_0)))]]), (.arr 1 [[(.a (.fz (.int .i64 h1_0)))]])] (aT z1) [(.arr 1 [[(.a (.fz (.int .i64 h0_0)))]]), (.arr 1 [[(.a (.fz (.int .i64 h1_0)))]])]) ∧ ((1 ≤ 1) ∧ ((x9l ≤ (List.length h5) ∧ roomB (x9l + 1) 56) ∧ (RPt Try.prog 66 2 r Hs' 1 ⟨[(2, (.c (.a (.fz (.int .i64 x2))))), (3, (.c (.a (.ep 2 1 0 0)))), (4, (.c (.a (.ep 3 4 0 0)))), (6, (.c (.a (.ep 4 4 0 0)))), (7, (.c (.a (.fz x7)))), (8, (.c (.a (.fz (.int .i64 x8))))), (9, (.c (.a (.osl 5 4 0 (x9l + 1))))), (30, (.c (.a (.fz x30)))), (31, (.c (.a (.fz (.int .i64 x31))))), (32, (.c (.a (.fz (.int .i64 (IntKind.wrap .i64 (x32 + (1 : Int))))))))], [(0, (.arr 1 [[(.a (.fz (.int .i64 h0_0)))]])), (1, (.arr 1 [[(.a (.fz (.int .i64 h1_0)))]])), (2, (.arr 1 [[(.fn (.func 67) [] [(false, [(.ep 0 1 0 0)]), (false, [(.ep 1 1 0 0)])])]])), (3, (.arr 4 [[(.a (.fz (.int .i64 h3_0))), (.a (.fz (.str h3_1))), (.a (.fz (.int .i64 h3_2))), (.a (.fz (.sl false 4 h3_3)))]])), (4, (.arr 4 [[(.a (.fz (.int .i64 h4_0))), (.a (.fz (.str h4_1))), (.a (.fz (.int .i64 h4_2))), (.a (.fz .nils))]])), (5, (.arz 4 ((List.take x9l h5) ++ [(FT4 z1)])))], 6⟩)))))) (br ((h3_0 : Int) == (6 : Int)) (br (decide ((((x9l : Nat) : Int) : Int) > (1 : Int))) ((0 ≤ (0 : Int) ∧ (0 : Int) < ((x9l : Nat) : Int)) ∧ (((0 < (List.length h5)) ∧ ((([(.int .i64 (FV.asI (List.getD (List.getD h5 0 []) 0 FV.nils)))] : List FV) = (List.take 1 (List.drop 0 (List.getD h5 0 [])))) ∧ ((1 : Nat) = 1))) ∧ (br (((FV.asI (List.getD (List.getD h5 0 []) 0 FV.nils)) : Int) == (6 : Int)) (((FV.isSl 4 x7 = true) ∧ ((0 ≤ (0 : Int)) ∧ (((0 : Int) < (((List.length (FV.ses x7)) : Nat) : Int)) ∧ (((rE (List.getD (FV.ses x7) 0 [])) : List FV) = (List.getD (FV.ses x7) 0 []))))) ∧ (br (((FV.asI (List.getD (List.getD (FV.ses x7) 0 []) 0 FV.nils)) : Int) != (6 : Int)) ((0 ≤ (0 : Int) ∧ (0 : Int) < ((x9l : Nat) : Int)) ∧ (((0 < (List.length h5)) ∧ ((((rE (List.getD h5 0 [])) : List FV) = (List.take 4 (List.drop 0 (List.getD h5 0 [])))) ∧ ((4 : Nat) = 4))) ∧ (((0 ≤ (1 : Int)) ∧ (((1 : Int) ≤ ((x9l : Nat) : Int)) ∧ (((x9l : Nat) : Int) ≤ ((x9l : Nat) : Int)))) ∧ (((4 : Nat) = 4 ∧ (1 + ((Int.toNat ((x9l : Nat) : Int)) - 1)) ≤ (List.length h5)) ∧ (∃ z2 : Tm, ((AC Try.prog 16 [(aE (List.getD h5 0 [])), (.c (.a (.fz (.sl false 4 (List.take ((Int.toNat ((x9l : Nat) : Int)) - 1) (List.drop 1 h5))))))] [] (aT z2) []) ∧ (TV.Le (aT z2) r ∧ [(.arr 1 [[(.a (.fz (.int .i64 h0_0)))]]), (.arr 1 [[(.a (.fz (.int .i64 h1_0)))]])] = Hs'))))))) (((4 : Nat) = 4 ∧ (0 + x9l) ≤ (List.length h5)) ∧ (TV.Le (.agg [(.a (.fz (.int .i64 h3_0))), (.a (.fz (.str h3_1))), (.a (.fz (.int .i64 h3_2))), (.a (.fz (.sl false 4 (List.take x9l (List.drop 0 h5)))))]) r ∧ [(.arr 1 [[(.a (.fz (.int .i64 h0_0)))]]), (.arr 1 [[(.a (.fz (.int .i64 h1_0)))]])] = Hs')))) (((4 : Nat) = 4 ∧ (0 + x9l) ≤ (List.length h5)) ∧ (TV.Le (.agg [(.a (.fz (.int .i64 h3_0))), (.a (.fz (.str h3_1))), (.a (.fz (.int .i64 h3_2))), (.a (.fz (.sl false 4 (List.take x9l (List.drop 0 h5)))))]) r ∧ [(.arr 1 [[(.a (.fz (.int .i64 h0_0)))]]), (.arr 1 [[(.a (.fz (.int .i64 h1_0)))]])] = Hs'))))) (((4 : Nat) = 4 ∧ (0 + x9l) ≤ (List.length h5)) ∧ (TV.Le (.agg [(.a (.fz (.int .i64 h3_0))), (.a (.fz (.str h3_1))), (.a (.fz (.int .i64 h3_2))), (.a (.fz (.sl false 4 (List.take x9l (List.drop 0 h5)))))]) r ∧ [(.arr 1 [[(.a (.fz (.int .i64 h0_0)))]]), (.arr 1 [[(.a (.fz (.int .i64 h1_0)))]])] = Hs'))) (((4 : Nat) = 4 ∧ (0 + x9l) ≤ (List.length h5)) ∧ (TV.Le (.agg [(.a (.fz (.int .i64 h3_0))), (.a (.fz (.str h3_1))), (.a (.fz (.int .i64 h3_2))), (.a (.fz (.sl false 4 (List.take x9l (List.drop 0 h5)))))]) r ∧ [(.arr 1 [[(.a (.fz (.int .i64 h0_0)))]]), (.arr 1 [[(.a (.fz (.int .i64 h1_0)))]])] = Hs')))) := by kernel_rfl
/-- lambent/term.Shift$1 -/
def lv67 : List (Nat × List Nat) := []
theorem v67 (u_0 : Int) (u_1 : List UInt8) (u_2 : Int) (u_3 : List (List FV)) (k : Int) (o0_0 : Int) (o1_0 : Int) (r : TV) (Hs' : List AObj) : vcE Try.prog sh lv67 67 [(.agg [(.a (.fz (.int .i64 u_0))), (.a (.fz (.str u_1))), (.a (.fz (.int .i64 u_2))), (.a (.fz (.sl false 4 u_3)))]), (.c (.a (.fz (.int .i64 k)))), (.c (.a (.ep 0 1 0 0))), (.c (.a (.ep 1 1 0 0)))] [(.arr 1 [[(.a (.fz (.int .i64 o0_0)))]]), (.arr 1 [[(.a (.fz (.int .i64 o1_0)))]])] (fun r0 Hs0 => TV.Le r0 r ∧ Hs0 = Hs') (RPt Try.prog 67 2 r Hs') =
    (br ((u_0 : Int) == (3 : Int)) (br (decide ((u_2 : Int) ≥ (IntKind.wrap .i64 (k + o0_0)))) (∃ z1 : Tm, ((AC Try.prog 65 [(.agg [(.a (.fz (.int .i64 u_0))), (.a (.fz (.str u_1))), (.a (.fz (.int .i64 u_2))), (.a (.fz (.sl false 4 u_3)))]), (.c (.a (.fz (.int .i64 o1_0))))] [] (aT z1) []) ∧ (TV.Le (aT z1) r ∧ [(.arr 1 [[(.a (.fz (.int .i64 o0_0)))]]), (.arr 1 [[(.a (.fz (.int .i64 o1_0)))]])] = Hs'))) (TV.Le (.agg [(.a (.fz (.int .i64 u_0))), (.a (.fz (.str u_1))), (.a (.fz (.int .i64 u_2))), (.a (.fz (.sl false 4 u_3)))]) r ∧ [(.arr 1 [[(.a (.fz (.int .i64 o0_0)))]]), (.arr 1 [[(.a (.fz (.int .i64 o1_0)))]])] = Hs')) (TV.Le (.agg [(.a (.fz (.int .i64 u_0))), (.a (.fz (.str u_1))), (.a (.fz (.int .i64 u_2))), (.a (.fz (.sl false 4 u_3)))]) r ∧ [(.arr 1 [[(.a (.fz (.int .i64 o0_0)))]]), (.arr 1 [[(.a (.fz (.int .i64 o1_0)))]])] = Hs')) := by kernel_rfl
/-- lambent/lambentlaw18.ArithLaws -/
def lv4 : List (Nat × List Nat) := [(24, [0, 1, 5]), (40, [0, 1, 5]), (58, [0, 1, 5])]
theorem v4 (a : Int) (b : Int) (r : TV) (Hs' : List AObj) : vcE Try.prog sh lv4 4 [(.c (.a (.fz (.int .i64 a)))), (.c (.a (.fz (.int .i64 b))))] [] (fun r0 Hs0 => TV.Le r0 r ∧ Hs0 = Hs') (RPt Try.prog 4 0 r Hs') =
    (∃ b1 : Bool, ((AC Try.prog 6 [] [] (.c (.a (.fz (.bool b1)))) []) ∧ (br (!b1) (TV.Le (.c (.a (.fz (.bool false)))) r ∧ [] = Hs') (∃ n2 : Int, (∃ n3 : Int, ((AC Try.prog 7 [(.c (.a (.fz (.str [43])))), (.c (.a (.fz (.int .i64 a)))), (.c (.a (.fz (.int .i64 b))))] [] (.tup [(false, [(.a (.fz (.int .i64 n2)))]), (false, [(.a (.fz (.int .i64 n3)))])]) []) ∧ (∃ n4 : Int, (∃ n5 : Int, ((AC Try.prog 7 [(.c (.a (.fz (.str [43])))), (.c (.a (.fz (.int .i64 b)))), (.c (.a (.fz (.int .i64 a))))] [] (.tup [(false, [(.a (.fz (.int .i64 n4)))]), (false, [(.a (.fz (.int .i64 n5)))])]) []) ∧ (br ((n2 : Int) != n4) (TV.Le (.c (.a (.fz (.bool false)))) r ∧ [] = Hs') (br ((n3 : Int) != n5) (TV.Le (.c (.a (.fz (.bool false)))) r ∧ [] = Hs') (br ((n3 : Int) == (0 : Int)) (∃ n6 : Int, (∃ n7 : Int, ((AC Try.prog 7 [(.c (.a (.fz (.str [45])))), (.c (.a (.fz (.int .i64 n2)))), (.c (.a (.fz (.int .i64 b))))] [] (.tup [(false, [(.a (.fz (.int .i64 n6)))]), (false, [(.a (.fz (.int .i64 n7)))])]) []) ∧ (br ((n6 : Int) != a) (TV.Le (.c (.a (.fz (.bool false)))) r ∧ [] = Hs') (br ((n7 : Int) != (0 : Int)) (TV.Le (.c (.a (.fz (.bool false)))) r ∧ [] = Hs') (RPt Try.prog 4 0 r Hs' 24 ⟨[(0, (.c (.a (.fz (.int .i64 a))))), (1, (.c (.a (.fz (.int .i64 b))))), (5, (.c (.a (.fz (.bool b1)))))], [], 0⟩)))))) (RPt Try.prog 4 0 r Hs' 24 ⟨[(0, (.c (.a (.fz (.int .i64 a))))), (1, (.c (.a (.fz (.int .i64 b))))), (5, (.c (.a (.fz (.bool b1)))))], [], 0⟩))))))))))))) := by kernel_rfl
theorem v4_24a (x0 : Int) (x1 : Int) (x5 : Bool) (r : TV) (Hs' : List AObj) : vcP Try.prog sh lv4 4 0 (fun r0 Hs0 => TV.Le r0 r ∧ Hs0 = Hs') (RPt Try.prog 4 0 r Hs') 24 ⟨[(0, (.c (.a (.fz (.int .i64 x0))))), (1, (.c (.a (.fz (.int .i64 x1))))), (5, (.c (.a (.fz (.bool x5)))))], [], 0⟩ =
    (∃ n1 : Int, (∃ n2 : Int, ((AC Try.prog 7 [(.c (.a (.fz (.str [42])))), (.c (.a (.fz (.int .i64 x0)))), (.c (.a (.fz (.int .i64 x1))))] [] (.tup [(false, [(.a (.fz (.int .i64 n1)))]), (false, [(.a (.fz (.int .i64 n2)))])]) []) ∧ (∃ n3 : Int, (∃ n4 : Int, ((AC Try.prog 7 [(.c (.a (.fz (.str [42])))), (.c (.a (.fz (.int .i64 x1)))), (.c (.a (.fz (.int .i64 x0))))] [] (.tup [(false, [(.a (.fz (.int .i64 n3)))]), (false, [(.a (.fz (.int .i64 n4)))])]) []) ∧ (br ((n1 : Int) != n3) (TV.Le (.c (.a (.fz (.bool false)))) r ∧ [] = Hs') (br ((n2 : Int) != n4) (TV.Le (.c (.a (.fz (.bool false)))) r ∧ [] = Hs') (br ((n2 : Int) == (0 : Int)) (br ((x1 : Int) != (0 : Int)) (∃ n5 : Int, (∃ n6 : Int, ((AC Try.prog 7 [(.c (.a (.fz (.str [100, 105, 118])))), (.c (.a (.fz (.int .i64 n1)))), (.c (.a (.fz (.int .i64 x1))))] [] (.tup [(false, [(.a (.fz (.int .i64 n5)))]), (false, [(.a (.fz (.int .i64 n6)))])]) []) ∧ (br ((n6 : Int) == (0 : Int)) (br ((n5 : Int) != x0) (TV.Le (.c (.a (.fz (.bool false)))) r ∧ [] = Hs') (br ((n6 : Int) != (0 : Int)) (br ((n6 : Int) != (182 : Int)) (TV.Le (.c (.a (.fz (.bool false)))) r ∧ [] = Hs') (RPt Try.prog 4 0 r Hs' 40 ⟨[(0, (.c (.a (.fz (.int .i64 x0))))), (1, (.c (.a (.fz (.int .i64 x1))))), (5, (.c (.a (.fz (.bool x5)))))], [], 0⟩)) (RPt Try.prog 4 0 r Hs' 40 ⟨[(0, (.c (.a (.fz (.int .i64 x0))))), (1, (.c (.a (.fz (.int .i64 x1))))), (5, (.c (.a (.fz (.bool x5)))))], [], 0⟩))) (br ((n6 : Int) != (0 : Int)) (br ((n6 : Int) != (182 : Int)) (TV.Le (.c (.a (.fz (.bool false)))) r ∧ [] = Hs') (RPt Try.prog 4 0 r Hs' 40 ⟨[(0, (.c (.a (.fz (.int .i64 x0))))), (1, (.c (.a (.fz (.int .i64 x1))))), (5, (.c (.a (.fz (.bool x5)))))], [], 0⟩)) (RPt Try.prog 4 0 r Hs' 40 ⟨[(0, (.c (.a (.fz (.int .i64 x0))))), (1, (.c (.a (.fz (.int .i64 x1))))), (5, (.c (.a (.fz (.bool x5)))))], [], 0⟩)))))) (RPt Try.prog 4 0 r Hs' 40 ⟨[(0, (.c (.a (.fz (.int .i64 x0))))), (1, (.c (.a (.fz (.int .i64 x1))))), (5, (.c (.a (.fz (.bool x5)))))], [], 0⟩)) (RPt Try.prog 4 0 r Hs' 40 ⟨[(0, (.c (.a (.fz (.int .i64 x0))))), (1, (.c (.a (.fz (.int .i64 x1))))), (5, (.c (.a (.fz (.bool x5)))))], [], 0⟩)))))))))) := by kernel_rfl
theorem v4_40a (x0 : Int) (x1 : Int) (x5 : Bool) (r : TV) (Hs' : List AObj) : vcP Try.prog sh lv4 4 0 (fun r0 Hs0 => TV.Le r0 r ∧ Hs0 = Hs') (RPt Try.prog 4 0 r Hs') 40 ⟨[(0, (.c (.a (.fz (.int .i64 x0))))), (1, (.c (.a (.fz (.int .i64 x1))))), (5, (.c (.a (.fz (.bool x5)))))], [], 0⟩ =
    (∃ n1 : Int, (∃ n2 : Int, ((AC Try.prog 7 [(.c (.a (.fz (.str [100, 105, 118])))), (.c (.a (.fz (.int .i64 x0)))), (.c (.a (.fz (.int .i64 x1))))] [] (.tup [(false, [(.a (.fz (.int .i64 n1)))]), (false, [(.a (.fz (.int .i64 n2)))])]) []) ∧ (∃ n3 : Int, (∃ n4 : Int, ((AC Try.prog 7 [(.c (.a (.fz (.str [109, 111, 100])))), (.c (.a (.fz (.int .i64 x0)))), (.c (.a (.fz (.int .i64 x1))))] [] (.tup [(false, [(.a (.fz (.int .i64 n3)))]), (false, [(.a (.fz (.int .i64 n4)))])]) []) ∧ (br (!((((n4 : Int) == (181 : Int)) : Bool) == ((x1 : Int) == (0 : Int)))) (TV.Le (.c (.a (.fz (.bool false)))) r ∧ [] = Hs') (br (!((((n2 : Int) == (181 : Int)) : Bool) == ((x1 : Int) == (0 : Int)))) (TV.Le (.c (.a (.fz (.bool false)))) r ∧ [] = Hs') (br ((n2 : Int) == (0 : Int)) (∃ n5 : Int, (∃ n6 : Int, ((AC Try.prog 7 [(.c (.a (.fz (.str [42])))), (.c (.a (.fz (.int .i64 n1)))), (.c (.a (.fz (.int .i64 x1))))] [] (.tup [(false, [(.a (.fz (.int .i64 n5)))]), (false, [(.a (.fz (.int .i64 n6)))])]) []) ∧ (∃ n7 : Int, (∃ n8 : Int, ((AC Try.prog 7 [(.c (.a (.fz (.str [43])))), (.c (.a (.fz (.int .i64 n5)))), (.c (.a (.fz (.int .i64 n3))))] [] (.tup [(false, [(.a (.fz (.int .i64 n7)))]), (false, [(.a (.fz (.int .i64 n8)))])]) []) ∧ (br ((n6 : Int) != (0 : Int)) (TV.Le (.c (.a (.fz (.bool false)))) r ∧ [] = Hs') (br ((n8 : Int) != (0 : Int)) (TV.Le (.c (.a (.fz (.bool false)))) r ∧ [] = Hs') (br ((n7 : Int) != x0) (TV.Le (.c (.a (.fz (.bool false)))) r ∧ [] = Hs') (RPt Try.prog 4 0 r Hs' 58 ⟨[(0, (.c (.a (.fz (.int .i64 x0))))), (1, (.c (.a (.fz (.int .i64 x1))))), (5, (.c (.a (.fz (.bool x5)))))], [], 0⟩)))))))))) (RPt Try.prog 4 0 r Hs' 58 ⟨[(0, (.c (.a (.fz (.int .i64 x0))))), (1, (.c (.a (.fz (.int .i64 x1))))), (5, (.c (.a (.fz (.bool x5)))))], [], 0⟩)))))))))) := by kernel_rfl
theorem v4_58a (x0 : Int) (x1 : Int) (x5 : Bool) (r : TV) (Hs' : List AObj) : vcP Try.prog sh lv4 4 0 (fun r0 Hs0 => TV.Le r0 r ∧ Hs0 = Hs') (RPt Try.prog 4 0 r Hs') 58 ⟨[(0, (.c (.a (.fz (.int .i64 x0))))), (1, (.c (.a (.fz (.int .i64 x1))))), (5, (.c (.a (.fz (.bool x5)))))], [], 0⟩ =
    (∃ b1 : Bool, (∃ n2 : Int, ((AC Try.prog 9 [(.c (.a (.fz (.str [60])))), (.c (.a (.fz (.int .i64 x0)))), (.c (.a (.fz (.int .i64 x1))))] [] (.tup [(false, [(.a (.fz (.bool b1)))]), (false, [(.a (.fz (.int .i64 n2)))])]) []) ∧ (∃ b3 : Bool, (∃ n4 : Int, ((AC Try.prog 9 [(.c (.a (.fz (.str [62])))), (.c (.a (.fz (.int .i64 x0)))), (.c (.a (.fz (.int .i64 x1))))] [] (.tup [(false, [(.a (.fz (.bool b3)))]), (false, [(.a (.fz (.int .i64 n4)))])]) []) ∧ (∃ b5 : Bool, (∃ n6 : Int, ((AC Try.prog 9 [(.c (.a (.fz (.str [61, 60])))), (.c (.a (.fz (.int .i64 x0)))), (.c (.a (.fz (.int .i64 x1))))] [] (.tup [(false, [(.a (.fz (.bool b5)))]), (false, [(.a (.fz (.int .i64 n6)))])]) []) ∧ (∃ b7 : Bool, (∃ n8 : Int, ((AC Try.prog 9 [(.c (.a (.fz (.str [62, 61])))), (.c (.a (.fz (.int .i64 x0)))), (.c (.a (.fz (.int .i64 x1))))] [] (.tup [(false, [(.a (.fz (.bool b7)))]), (false, [(.a (.fz (.int .i64 n8)))])]) []) ∧ (br x5 (br ((b1 : Bool) == (!b7)) (br ((b3 : Bool) == (!b5)) (br b1 (br (!b3) (br b5 (TV.Le (.c (.a (.fz (.bool ((((x0 : Int) == x1) : Bool) == b7))))) r ∧ [] = Hs') (TV.Le (.c (.a (.fz (.bool ((((x0 : Int) == x1) : Bool) == false))))) r ∧ [] = Hs')) (TV.Le (.c (.a (.fz (.bool false)))) r ∧ [] = Hs')) (br b5 (TV.Le (.c (.a (.fz (.bool ((((x0 : Int) == x1) : Bool) == b7))))) r ∧ [] = Hs') (TV.Le (.c (.a (.fz (.bool ((((x0 : Int) == x1) : Bool) == false))))) r ∧ [] = Hs'))) (TV.Le (.c (.a (.fz (.bool false)))) r ∧ [] = Hs')) (TV.Le (.c (.a (.fz (.bool false)))) r ∧ [] = Hs')) (TV.Le (.c (.a (.fz (.bool false)))) r ∧ [] = Hs')))))))))))))) := by kernel_rfl
/-- lambent/lambentlaw18.ArithNests -/
def lv5 : List (Nat × List Nat) := [(16, [0, 4, 5, 7, 8, 9, 10, 11]), (24, [0, 4, 5, 7])]
theorem v5 (op : List UInt8) (a_0 : Int) (a_1 : List UInt8) (a_2 : Int) (a_3 : List (List FV)) (b_0 : Int) (b_1 : List UInt8) (b_2 : Int) (b_3 : List (List FV)) (r : TV) (Hs' : List AObj) : vcE Try.prog sh lv5 5 [(.c (.a (.fz (.str op)))), (.agg [(.a (.fz (.int .i64 a_0))), (.a (.fz (.str a_1))), (.a (.fz (.int .i64 a_2))), (.a (.fz (.sl false 4 a_3)))]), (.agg [(.a (.fz (.int .i64 b_0))), (.a (.fz (.str b_1))), (.a (.fz (.int .i64 b_2))), (.a (.fz (.sl false 4 b_3)))])] [] (fun r0 Hs0 => TV.Le r0 r ∧ Hs0 = Hs') (RPt Try.prog 5 0 r Hs') =
    (∃ b1 : Bool, ((AC Try.prog 6 [] [] (.c (.a (.fz (.bool b1)))) []) ∧ (br (!b1) (TV.Le (.c (.a (.fz (.bool false)))) r ∧ [] = Hs') (∃ b2 : Bool, ((AC Try.prog 11 [(.agg [(.a (.fz (.int .i64 a_0))), (.a (.fz (.str a_1))), (.a (.fz (.int .i64 a_2))), (.a (.fz (.sl false 4 a_3)))]), (.c (.a (.fz (.int .i64 (30 : Int)))))] [] (.c (.a (.fz (.bool b2)))) []) ∧ (∃ b3 : Bool, ((AC Try.prog 11 [(.agg [(.a (.fz (.int .i64 b_0))), (.a (.fz (.str b_1))), (.a (.fz (.int .i64 b_2))), (.a (.fz (.sl false 4 b_3)))]), (.c (.a (.fz (.int .i64 (30 : Int)))))] [] (.c (.a (.fz (.bool b3)))) []) ∧ (∃ b4 : Bool, ((AC Try.prog 12 [(.agg [(.a (.fz (.int .i64 a_0))), (.a (.fz (.str a_1))), (.a (.fz (.int .i64 a_2))), (.a (.fz (.sl false 4 a_3)))]), (.c (.a (.fz (.int .i64 (1000 : Int)))))] [] (.c (.a (.fz (.bool b4)))) []) ∧ (br b4 (∃ b5 : Bool, ((AC Try.prog 12 [(.agg [(.a (.fz (.int .i64 b_0))), (.a (.fz (.str b_1))), (.a (.fz (.int .i64 b_2))), (.a (.fz (.sl false 4 b_3)))]), (.c (.a (.fz (.int .i64 (1000 : Int)))))] [] (.c (.a (.fz (.bool b5)))) []) ∧ (br ((op : List UInt8) == [43]) (RPt Try.prog 5 0 r Hs' 16 ⟨[(0, (.c (.a (.fz (.str op))))), (4, (.c (.a (.ep 0 4 0 0)))), (5, (.c (.a (.ep 1 4 0 0)))), (7, (.c (.a (.fz (.bool b1))))), (8, (.c (.a (.fz (.bool b2))))), (9, (.c (.a (.fz (.bool b3))))), (10, (.c (.a (.fz (.bool b5))))), (11, (.c (.a (.fz (.bool true)))))], [(0, (.arr 4 [[(.a (.fz (.int .i64 a_0))), (.a (.fz (.str a_1))), (.a (.fz (.int .i64 a_2))), (.a (.fz (.sl false 4 a_3)))]])), (1, (.arr 4 [[(.a (.fz (.int .i64 b_0))), (.a (.fz (.str b_1))), (.a (.fz (.int .i64 b_2))), (.a (.fz (.sl false 4 b_3)))]]))], 2⟩) (br ((op : List UInt8) == [45]) (RPt Try.prog 5 0 r Hs' 16 ⟨[(0, (.c (.a (.fz (.str op))))), (4, (.c (.a (.ep 0 4 0 0)))), (5, (.c (.a (.ep 1 4 0 0)))), (7, (.c (.a (.fz (.bool b1))))), (8, (.c (.a (.fz (.bool b2))))), (9, (.c (.a (.fz (.bool b3))))), (10, (.c (.a (.fz (.bool b5))))), (11, (.c (.a (.fz (.bool true)))))], [(0, (.arr 4 [[(.a (.fz (.int .i64 a_0))), (.a (.fz (.str a_1))), (.a (.fz (.int .i64 a_2))), (.a (.fz (.sl false 4 a_3)))]])), (1, (.arr 4 [[(.a (.fz (.int .i64 b_0))), (.a (.fz (.str b_1))), (.a (.fz (.int .i64 b_2))), (.a (.fz (.sl false 4 b_3)))]]))], 2⟩) (br ((op : List UInt8) == [42]) (RPt Try.prog 5 0 r Hs' 16 ⟨[(0, (.c (.a (.fz (.str op))))), (4, (.c (.a (.ep 0 4 0 0)))), (5, (.c (.a (.ep 1 4 0 0)))), (7, (.c (.a (.fz (.bool b1))))), (8, (.c (.a (.fz (.bool b2))))), (9, (.c (.a (.fz (.bool b3))))), (10, (.c (.a (.fz (.bool b5))))), (11, (.c (.a (.fz (.bool true)))))], [(0, (.arr 4 [[(.a (.fz (.int .i64 a_0))), (.a (.fz (.str a_1))), (.a (.fz (.int .i64 a_2))), (.a (.fz (.sl false 4 a_3)))]])), (1, (.arr 4 [[(.a (.fz (.int .i64 b_0))), (.a (.fz (.str b_1))), (.a (.fz (.int .i64 b_2))), (.a (.fz (.sl false 4 b_3)))]]))], 2⟩) (br ((op : List UInt8) == [100, 105, 118]) (RPt Try.prog 5 0 r Hs' 16 ⟨[(0, (.c (.a (.fz (.str op))))), (4, (.c (.a (.ep 0 4 0 0)))), (5, (.c (.a (.ep 1 4 0 0)))), (7, (.c (.a (.fz (.bool b1))))), (8, (.c (.a (.fz (.bool b2))))), (9, (.c (.a (.fz (.bool b3))))), (10, (.c (.a (.fz (.bool b5))))), (11, (.c (.a (.fz (.bool true)))))], [(0, (.arr 4 [[(.a (.fz (.int .i64 a_0))), (.a (.fz (.str a_1))), (.a (.fz (.int .i64 a_2))), (.a (.fz (.sl false 4 a_3)))]])), (1, (.arr 4 [[(.a (.fz (.int .i64 b_0))), (.a (.fz (.str b_1))), (.a (.fz (.int .i64 b_2))), (.a (.fz (.sl false 4 b_3)))]]))], 2⟩) (RPt Try.prog 5 0 r Hs' 16 ⟨[(0, (.c (.a (.fz (.str op))))), (4, (.c (.a (.ep 0 4 0 0)))), (5, (.c (.a (.ep 1 4 0 0)))), (7, (.c (.a (.fz (.bool b1))))), (8, (.c (.a (.fz (.bool b2))))), (9, (.c (.a (.fz (.bool b3))))), (10, (.c (.a (.fz (.bool b5))))), (11, (.c (.a (.fz (.bool ((op : List UInt8) == [109, 111, 100]))))))], [(0, (.arr 4 [[(.a (.fz (.int .i64 a_0))), (.a (.fz (.str a_1))), (.a (.fz (.int .i64 a_2))), (.a (.fz (.sl false 4 a_3)))]])), (1, (.arr 4 [[(.a (.fz (.int .i64 b_0))), (.a (.fz (.str b_1))), (.a (.fz (.int .i64 b_2))), (.a (.fz (.sl false 4 b_3)))]]))], 2⟩))))))) (br ((op : List UInt8) == [43]) (RPt Try.prog 5 0 r Hs' 16 ⟨[(0, (.c (.a (.fz (.str op))))), (4, (.c (.a (.ep 0 4 0 0)))), (5, (.c (.a (.ep 1 4 0 0)))), (7, (.c (.a (.fz (.bool b1))))), (8, (.c (.a (.fz (.bool b2))))), (9, (.c (.a (.fz (.bool b3))))), (10, (.c (.a (.fz (.bool false))))), (11, (.c (.a (.fz (.bool true)))))], [(0, (.arr 4 [[(.a (.fz (.int .i64 a_0))), (.a (.fz (.str a_1))), (.a (.fz (.int .i64 a_2))), (.a (.fz (.sl false 4 a_3)))]])), (1, (.arr 4 [[(.a (.fz (.int .i64 b_0))), (.a (.fz (.str b_1))), (.a (.fz (.int .i64 b_2))), (.a (.fz (.sl false 4 b_3)))]]))], 2⟩) (br ((op : List UInt8) == [45]) (RPt Try.prog 5 0 r Hs' 16 ⟨[(0, (.c (.a (.fz (.str op))))), (4, (.c (.a (.ep 0 4 0 0)))), (5, (.c (.a (.ep 1 4 0 0)))), (7, (.c (.a (.fz (.bool b1))))), (8, (.c (.a (.fz (.bool b2))))), (9, (.c (.a (.fz (.bool b3))))), (10, (.c (.a (.fz (.bool false))))), (11, (.c (.a (.fz (.bool true)))))], [(0, (.arr 4 [[(.a (.fz (.int .i64 a_0))), (.a (.fz (.str a_1))), (.a (.fz (.int .i64 a_2))), (.a (.fz (.sl false 4 a_3)))]])), (1, (.arr 4 [[(.a (.fz (.int .i64 b_0))), (.a (.fz (.str b_1))), (.a (.fz (.int .i64 b_2))), (.a (.fz (.sl false 4 b_3)))]]))], 2⟩) (br ((op : List UInt8) == [42]) (RPt Try.prog 5 0 r Hs' 16 ⟨[(0, (.c (.a (.fz (.str op))))), (4, (.c (.a (.ep 0 4 0 0)))), (5, (.c (.a (.ep 1 4 0 0)))), (7, (.c (.a (.fz (.bool b1))))), (8, (.c (.a (.fz (.bool b2))))), (9, (.c (.a (.fz (.bool b3))))), (10, (.c (.a (.fz (.bool false))))), (11, (.c (.a (.fz (.bool true)))))], [(0, (.arr 4 [[(.a (.fz (.int .i64 a_0))), (.a (.fz (.str a_1))), (.a (.fz (.int .i64 a_2))), (.a (.fz (.sl false 4 a_3)))]])), (1, (.arr 4 [[(.a (.fz (.int .i64 b_0))), (.a (.fz (.str b_1))), (.a (.fz (.int .i64 b_2))), (.a (.fz (.sl false 4 b_3)))]]))], 2⟩) (br ((op : List UInt8) == [100, 105, 118]) (RPt Try.prog 5 0 r Hs' 16 ⟨[(0, (.c (.a (.fz (.str op))))), (4, (.c (.a (.ep 0 4 0 0)))), (5, (.c (.a (.ep 1 4 0 0)))), (7, (.c (.a (.fz (.bool b1))))), (8, (.c (.a (.fz (.bool b2))))), (9, (.c (.a (.fz (.bool b3))))), (10, (.c (.a (.fz (.bool false))))), (11, (.c (.a (.fz (.bool true)))))], [(0, (.arr 4 [[(.a (.fz (.int .i64 a_0))), (.a (.fz (.str a_1))), (.a (.fz (.int .i64 a_2))), (.a (.fz (.sl false 4 a_3)))]])), (1, (.arr 4 [[(.a (.fz (.int .i64 b_0))), (.a (.fz (.str b_1))), (.a (.fz (.int .i64 b_2))), (.a (.fz (.sl false 4 b_3)))]]))], 2⟩) (RPt Try.prog 5 0 r Hs' 16 ⟨[(0, (.c (.a (.fz (.str op))))), (4, (.c (.a (.ep 0 4 0 0)))), (5, (.c (.a (.ep 1 4 0 0)))), (7, (.c (.a (.fz (.bool b1))))), (8, (.c (.a (.fz (.bool b2))))), (9, (.c (.a (.fz (.bool b3))))), (10, (.c (.a (.fz (.bool false))))), (11, (.c (.a (.fz (.bool ((op : List UInt8) == [109, 111, 100]))))))], [(0, (.arr 4 [[(.a (.fz (.int .i64 a_0))), (.a (.fz (.str a_1))), (.a (.fz (.int .i64 a_2))), (.a (.fz (.sl false 4 a_3)))]])), (1, (.arr 4 [[(.a (.fz (.int .i64 b_0))), (.a (.fz (.str b_1))), (.a (.fz (.int .i64 b_2))), (.a (.fz (.sl false 4 b_3)))]]))], 2⟩))))))))))))))) := by kernel_rfl
theorem v5_16a (x0 : List UInt8) (x7 : Bool) (x8 : Bool) (x9 : Bool) (x10 : Bool) (x11 : Bool) (h0_0 : Int) (h0_1 : List UInt8) (h0_2 : Int) (h0_3 : List (List FV)) (h1_0 : Int) (h1_1 : List UInt8) (h1_2 : Int) (h1_3 : List (List FV)) (r : TV) (Hs' : List AObj) : vcP Try.prog sh lv5 5 0 (fun r0 Hs0 => TV.Le r0 r ∧ Hs0 = Hs') (RPt Try.prog 5 0 r Hs') 16 ⟨[(0, (.c (.a (.fz (.str x0))))), (4, (.c (.a (.ep 0 4 0 0)))), (5, (.c (.a (.ep 1 4 0 0)))), (7, (.c (.a (.fz (.bool x7))))), (8, (.c (.a (.fz (.bool x8))))), (9, (.c (.a (.fz (.bool x9))))), (10, (.c (.a (.fz (.bool x10))))), (11, (.c (.a (.fz (.bool x11)))))], [(0, (.arr 4 [[(.a (.fz (.int .i64 h0_0))), (.a (.fz (.str h0_1))), (.a (.fz (.int .i64 h0_2))), (.a (.fz (.sl false 4 h0_3)))]])), (1, (.arr 4 [[(.a (.fz (.int .i64 h1_0))), (.a (.fz (.str h1_1))), (.a (.fz (.int .i64 h1_2))), (.a (.fz (.sl false 4 h1_3)))]]))], 2⟩ =
    (∃ b1 : Bool, ((AC Try.prog 13 [(.agg [(.a (.fz (.int .i64 h0_0))), (.a (.fz (.str h0_1))), (.a (.fz (.int .i64 h0_2))), (.a (.fz (.sl false 4 h0_3)))])] [] (.c (.a (.fz (.bool b1)))) []) ∧ (∃ b2 : Bool, ((AC Try.prog 13 [(.agg [(.a (.fz (.int .i64 h1_0))), (.a (.fz (.str h1_1))), (.a (.fz (.int .i64 h1_2))), (.a (.fz (.sl false 4 h1_3)))])] [] (.c (.a (.fz (.bool b2)))) []) ∧ (br x8 (TV.Le (.c (.a (.fz (.bool x7)))) r ∧ [] = Hs') (br x9 (TV.Le (.c (.a (.fz (.bool x7)))) r ∧ [] = Hs') (br (!x10) (TV.Le (.c (.a (.fz (.bool x7)))) r ∧ [] = Hs') (br (!x11) (TV.Le (.c (.a (.fz (.bool x7)))) r ∧ [] = Hs') (br (!b1) (TV.Le (.c (.a (.fz (.bool x7)))) r ∧ [] = Hs') (br (!b2) (TV.Le (.c (.a (.fz (.bool x7)))) r ∧ [] = Hs') (RPt Try.prog 5 0 r Hs' 24 ⟨[(0, (.c (.a (.fz (.str x0))))), (4, (.c (.a (.ep 0 4 0 0)))), (5, (.c (.a (.ep 1 4 0 0)))), (7, (.c (.a (.fz (.bool x7)))))], [(0, (.arr 4 [[(.a (.fz (.int .i64 h0_0))), (.a (.fz (.str h0_1))), (.a (.fz (.int .i64 h0_2))), (.a (.fz (.sl false 4 h0_3)))]])), (1, (.arr 4 [[(.a (.fz (.int .i64 h1_0))), (.a (.fz (.str h1_1))), (.a (.fz (.int .i64 h1_2))), (.a (.fz (.sl false 4 h1_3)))]]))], 2⟩))))))))))) := by kernel_rfl
theorem v5_24a (x0 : List UInt8) (x7 : Bool) (h0_0 : Int) (h0_1 : List UInt8) (h0_2 : Int) (h0_3 : List (List FV)) (h1_0 : Int) (h1_1 : List UInt8) (h1_2 : Int) (h1_3 : List (List FV)) (r : TV) (Hs' : List AObj) : vcP Try.prog sh lv5 5 0 (fun r0 Hs0 => TV.Le r0 r ∧ Hs0 = Hs') (RPt Try.prog 5 0 r Hs') 24 ⟨[(0, (.c (.a (.fz (.str x0))))), (4, (.c (.a (.ep 0 4 0 0)))), (5, (.c (.a (.ep 1 4 0 0)))), (7, (.c (.a (.fz (.bool x7)))))], [(0, (.arr 4 [[(.a (.fz (.int .i64 h0_0))), (.a (.fz (.str h0_1))), (.a (.fz (.int .i64 h0_2))), (.a (.fz (.sl false 4 h0_3)))]])), (1, (.arr 4 [[(.a (.fz (.int .i64 h1_0))), (.a (.fz (.str h1_1))), (.a (.fz (.int .i64 h1_2))), (.a (.fz (.sl false 4 h1_3)))]]))], 2⟩ =
    (∃ _ : Unit, ((AC Try.prog 14 [] [] (.c (.a (.ep 0 2 0 0))) [(.arr 2 [[(.a (.osl 1 6 0 0)), (.a (.osl 2 1 0 0))]]), (.arz 6 []), (.arz 1 [])]) ∧ (∃ n2 : Int, (∃ n3 : Int, (∃ n4 : Int, ((AC Try.prog 15 [(.c (.a (.ep 0 2 0 0))), (.agg [(.a (.fz (.int .i64 h0_0))), (.a (.fz (.str h0_1))), (.a (.fz (.int .i64 h0_2))), (.a (.fz (.sl false 4 h0_3)))]), (.c (.a (.fz (.int .i64 (100 : Int)))))] [(.arr 2 [[(.a (.osl 1 6 0 0)), (.a (.osl 2 1 0 0))]]), (.arz 6 []), (.arz 1 [])] (.tup [(false, [(.a (.fz (.int .i64 n2)))]), (false, [(.a (.fz (.int .i64 n3)))]), (false, [(.a (.fz (.int .i64 n4)))])]) [(.arr 2 [[(.a (.osl 1 6 0 0)), (.a (.osl 2 1 0 0))]]), (.arz 6 []), (.arz 1 [])]) ∧ (∃ n5 : Int, (∃ n6 : Int, (∃ n7 : Int, ((AC Try.prog 15 [(.c (.a (.ep 0 2 0 0))), (.agg [(.a (.fz (.int .i64 h1_0))), (.a (.fz (.str h1_1))), (.a (.fz (.int .i64 h1_2))), (.a (.fz (.sl false 4 h1_3)))]), (.c (.a (.fz (.int .i64 (100 : Int)))))] [(.arr 2 [[(.a (.osl 1 6 0 0)), (.a (.osl 2 1 0 0))]]), (.arz 6 []), (.arz 1 [])] (.tup [(false, [(.a (.fz (.int .i64 n5)))]), (false, [(.a (.fz (.int .i64 n6)))]), (false, [(.a (.fz (.int .i64 n7)))])]) [(.arr 2 [[(.a (.osl 1 6 0 0)), (.a (.osl 2 1 0 0))]]), (.arz 6 []), (.arz 1 [])]) ∧ (((4 : Nat) = 4 ∧ 2 ≤ 2) ∧ (∃ z8 : Tm, ((AC Try.prog 16 [(.agg [(.a (.fz (.int .i64 (0 : Int)))), (.a (.fz (.str x0))), (.a (.fz (.int .i64 (0 : Int)))), (.a (.fz .nils))]), (.c (.a (.fz (.sl false 4 [[(.int .i64 h0_0), (.str h0_1), (.int .i64 h0_2), (.sl false 4 h0_3)], [(.int .i64 h1_0), (.str h1_1), (.int .i64 h1_2), (.sl false 4 h1_3)]]))))] [] (aT z8) []) ∧ (∃ n9 : Int, (∃ n10 : Int, (∃ n11 : Int, ((AC Try.prog 15 [(.c (.a (.ep 0 2 0 0))), (aT z8), (.c (.a (.fz (.int .i64 (300 : Int)))))] [(.arr 2 [[(.a (.osl 1 6 0 0)), (.a (.osl 2 1 0 0))]]), (.arz 6 []), (.arz 1 [])] (.tup [(false, [(.a (.fz (.int .i64 n9)))]), (false, [(.a (.fz (.int .i64 n10)))]), (false, [(.a (.fz (.int .i64 n11)))])]) [(.arr 2 [[(.a (.osl 1 6 0 0)), (.a (.osl 2 1 0 0))]]), (.arz 6 []), (.arz 1 [])]) ∧ (br ((n4 : Int) == (80 : Int)) (TV.Le (.c (.a (.fz (.bool x7)))) r ∧ [] = Hs') (br ((n7 : Int) == (80 : Int)) (TV.Le (.c (.a (.fz (.bool x7)))) r ∧ [] = Hs') (br ((n4 : Int) != (0 : Int)) (br x7 (br ((n11 : Int) == n4) (TV.Le (.c (.a (.fz (.bool ((n9 : Int) == (0 : Int)))))) r ∧ [] = Hs') (TV.Le (.c (.a (.fz (.bool false)))) r ∧ [] = Hs')) (TV.Le (.c (.a (.fz (.bool false)))) r ∧ [] = Hs')) (br ((n7 : Int) != (0 : Int)) (br x7 (br ((n11 : Int) == n7) (TV.Le (.c (.a (.fz (.bool ((n9 : Int) == (0 : Int)))))) r ∧ [] = Hs') (TV.Le (.c (.a (.fz (.bool false)))) r ∧ [] = Hs')) (TV.Le (.c (.a (.fz (.bool false)))) r ∧ [] = Hs')) (∃ n12 : Int, (∃ n13 : Int, ((AC Try.prog 7 [(.c (.a (.fz (.str x0)))), (.c (.a (.fz (.int .i64 n2)))), (.c (.a (.fz (.int .i64 n5))))] [] (.tup [(false, [(.a (.fz (.int .i64 n12)))]), (false, [(.a (.fz (.int .i64 n13)))])]) []) ∧ (br x7 (br ((n9 : Int) == n12) (TV.Le (.c (.a (.fz (.bool ((n11 : Int) == n13))))) r ∧ [] = Hs') (TV.Le (.c (.a (.fz (.bool false)))) r ∧ [] = Hs')) (TV.Le (.c (.a (.fz (.bool false)))) r ∧ [] = Hs')))))))))))))))))))))))))) := by kernel_rfl
/-- lambent/lambentref07.Large -/
def lv11 : List (Nat × List Nat) := []
theorem v11 (t_0 : Int) (t_1 : List UInt8) (t_2 : Int) (t_3 : List (List FV)) (most : Int) (r : TV) (Hs' : List AObj) : vcE Try.prog sh lv11 11 [(.agg [(.a (.fz (.int .i64 t_0))), (.a (.fz (.str t_1))), (.a (.fz (.int .i64 t_2))), (.a (.fz (.sl false 4 t_3)))]), (.c (.a (.fz (.int .i64 most))))] [] (fun r0 Hs0 => TV.Le r0 r ∧ Hs0 = Hs') (RPt Try.prog 11 0 r Hs') =
    (∃ n1 : Int, ((AC Try.prog 23 [(.agg [(.a (.fz (.int .i64 t_0))), (.a (.fz (.str t_1))), (.a (.fz (.int .i64 t_2))), (.a (.fz (.sl false 4 t_3)))]), (.c (.a (.fz (.int .i64 most))))] [] (.c (.a (.fz (.int .i64 n1)))) []) ∧ (TV.Le (.c (.a (.fz (.bool (decide ((n1 : Int) < (0 : Int))))))) r ∧ [] = Hs'))) := by kernel_rfl
/-- lambent/lambentref07.Near -/
def lv12 : List (Nat × List Nat) := [(1, [1, 2, 5])]
theorem v12 (t_0 : Int) (t_1 : List UInt8) (t_2 : Int) (t_3 : List (List FV)) (most : Int) (r : TV) (Hs' : List AObj) : vcE Try.prog sh lv12 12 [(.agg [(.a (.fz (.int .i64 t_0))), (.a (.fz (.str t_1))), (.a (.fz (.int .i64 t_2))), (.a (.fz (.sl false 4 t_3)))]), (.c (.a (.fz (.int .i64 most))))] [] (fun r0 Hs0 => TV.Le r0 r ∧ Hs0 = Hs') (RPt Try.prog 12 0 r Hs') =
    (br ((t_0 : Int) != (2 : Int)) (br (decide ((t_2 : Int) > most)) (TV.Le (.c (.a (.fz (.bool false)))) r ∧ [] = Hs') (br (decide ((t_2 : Int) < (IntKind.wrap .i64 (0 - most)))) (TV.Le (.c (.a (.fz (.bool false)))) r ∧ [] = Hs') (RPt Try.prog 12 0 r Hs' 1 ⟨[(1, (.c (.a (.fz (.int .i64 most))))), (2, (.c (.a (.ep 0 4 0 0)))), (5, (.c (.a (.fz (.int .i64 (0 : Int))))))], [(0, (.arr 4 [[(.a (.fz (.int .i64 t_0))), (.a (.fz (.str t_1))), (.a (.fz (.int .i64 t_2))), (.a (.fz (.sl false 4 t_3)))]]))], 1⟩))) (RPt Try.prog 12 0 r Hs' 1 ⟨[(1, (.c (.a (.fz (.int .i64 most))))), (2, (.c (.a (.ep 0 4 0 0)))), (5, (.c (.a (.fz (.int .i64 (0 : Int))))))], [(0, (.arr 4 [[(.a (.fz (.int .i64 t_0))), (.a (.fz (.str t_1))), (.a (.fz (.int .i64 t_2))), (.a (.fz (.sl false 4 t_3)))]]))], 1⟩)) := by kernel_rfl
theorem v12_1a (x1 : Int) (x5 : Int) (h0_0 : Int) (h0_1 : List UInt8) (h0_2 : Int) (h0_3 : List (List FV)) (r : TV) (Hs' : List AObj) : vcP Try.prog sh lv12 12 0 (fun r0 Hs0 => TV.Le r0 r ∧ Hs0 = Hs') (RPt Try.prog 12 0 r Hs') 1 ⟨[(1, (.c (.a (.fz (.int .i64 x1))))), (2, (.c (.a (.ep 0 4 0 0)))), (5, (.c (.a (.fz (.int .i64 x5)))))], [(0, (.arr 4 [[(.a (.fz (.int .i64 h0_0))), (.a (.fz (.str h0_1))), (.a (.fz (.int .i64 h0_2))), (.a (.fz (.sl false 4 h0_3)))]]))], 1⟩ =
    ((FV.isSl 4 (.sl false 4 h0_3) = true) ∧ (br (decide ((x5 : Int) < (((List.length h0_3) : Nat) : Int))) (((FV.isSl 4 (.sl false 4 h0_3) = true) ∧ ((0 ≤ x5) ∧ ((x5 < (((List.length h0_3) : Nat) : Int)) ∧ (((rE (List.getD h0_3 (Int.toNat x5) [])) : List FV) = (List.getD h0_3 (Int.toNat x5) []))))) ∧ (∃ b1 : Bool, ((AC Try.prog 12 [(aE (List.getD h0_3 (Int.toNat x5) [])), (.c (.a (.fz (.int .i64 x1))))] [] (.c (.a (.fz (.bool b1)))) []) ∧ (br (!b1) (TV.Le (.c (.a (.fz (.bool false)))) r ∧ [] = Hs') (RPt Try.prog 12 0 r Hs' 1 ⟨[(1, (.c (.a (.fz (.int .i64 x1))))), (2, (.c (.a (.ep 0 4 0 0)))), (5, (.c (.a (.fz (.int .i64 (IntKind.wrap .i64 (x5 + (1 : Int))))))))], [(0, (.arr 4 [[(.a (.fz (.int .i64 h0_0))), (.a (.fz (.str h0_1))), (.a (.fz (.int .i64 h0_2))), (.a (.fz (.sl false 4 h0_3)))]]))], 1⟩))))) (TV.Le (.c (.a (.fz (.bool true)))) r ∧ [] = Hs'))) := by kernel_rfl
/-- lambent/lambentref07.left -/
def lv23 : List (Nat × List Nat) := [(1, [2, 5, 6])]
theorem v23 (t_0 : Int) (t_1 : List UInt8) (t_2 : Int) (t_3 : List (List FV)) (most : Int) (r : TV) (Hs' : List AObj) : vcE Try.prog sh lv23 23 [(.agg [(.a (.fz (.int .i64 t_0))), (.a (.fz (.str t_1))), (.a (.fz (.int .i64 t_2))), (.a (.fz (.sl false 4 t_3)))]), (.c (.a (.fz (.int .i64 most))))] [] (fun r0 Hs0 => TV.Le r0 r ∧ Hs0 = Hs') (RPt Try.prog 23 0 r Hs') =
    (RPt Try.prog 23 0 r Hs' 1 ⟨[(2, (.c (.a (.ep 0 4 0 0)))), (5, (.c (.a (.fz (.int .i64 (IntKind.wrap .i64 (most - (1 : Int)))))))), (6, (.c (.a (.fz (.int .i64 (0 : Int))))))], [(0, (.arr 4 [[(.a (.fz (.int .i64 t_0))), (.a (.fz (.str t_1))), (.a (.fz (.int .i64 t_2))), (.a (.fz (.sl false 4 t_3)))]]))], 1⟩) := by kernel_rfl
theorem v23_1a (x5 : Int) (x6 : Int) (h0_0 : Int) (h0_1 : List UInt8) (h0_2 : Int) (h0_3 : List (List FV)) (r : TV) (Hs' : List AObj) : vcP Try.prog sh lv23 23 0 (fun r0 Hs0 => TV.Le r0 r ∧ Hs0 = Hs') (RPt Try.prog 23 0 r Hs') 1 ⟨[(2, (.c (.a (.ep 0 4 0 0)))), (5, (.c (.a (.fz (.int .i64 x5))))), (6, (.c (.a (.fz (.int .i64 x6)))))], [(0, (.arr 4 [[(.a (.fz (.int .i64 h0_0))), (.a (.fz (.str h0_1))), (.a (.fz (.int .i64 h0_2))), (.a (.fz (.sl false 4 h0_3)))]]))], 1⟩ =
    ((FV.isSl 4 (.sl false 4 h0_3) = true) ∧ (br (decide ((x6 : Int) < (((List.length h0_3) : Nat) : Int))) (br (decide ((x5 : Int) ≥ (0 : Int))) (((FV.isSl 4 (.sl false 4 h0_3) = true) ∧ ((0 ≤ x6) ∧ ((x6 < (((List.length h0_3) : Nat) : Int)) ∧ (((rE (List.getD h0_3 (Int.toNat x6) [])) : List FV) = (List.getD h0_3 (Int.toNat x6) []))))) ∧ (∃ n1 : Int, ((AC Try.prog 23 [(aE (List.getD h0_3 (Int.toNat x6) [])), (.c (.a (.fz (.int .i64 x5))))] [] (.c (.a (.fz (.int .i64 n1)))) []) ∧ (RPt Try.prog 23 0 r Hs' 1 ⟨[(2, (.c (.a (.ep 0 4 0 0)))), (5, (.c (.a (.fz (.int .i64 n1))))), (6, (.c (.a (.fz (.int .i64 (IntKind.wrap .i64 (x6 + (1 : Int))))))))], [(0, (.arr 4 [[(.a (.fz (.int .i64 h0_0))), (.a (.fz (.str h0_1))), (.a (.fz (.int .i64 h0_2))), (.a (.fz (.sl false 4 h0_3)))]]))], 1⟩)))) (TV.Le (.c (.a (.fz (.int .i64 x5)))) r ∧ [] = Hs')) (TV.Le (.c (.a (.fz (.int .i64 x5)))) r ∧ [] = Hs'))) := by kernel_rfl
-- STUCK (20, 'math/bits.Mul64', "binop and ('c', ('a', ('fz', ('int', 'u64', 'x')))) ('c', ('a', ('fz', ('int', 'u64', 4294967295))))", ('math/bits.Mul64', 1, 'bits.go:472', 'binOp'))
end Go.AM

set_option maxRecDepth 100000
open Go Go.Proofs
namespace Go.AM

/-! ### Package lex -/
def smallB (c : Int) : Bool := decide (97 ≤ c) && decide (c ≤ 122)
def greatB (c : Int) : Bool := decide (65 ≤ c) && decide (c ≤ 90) || c == 95
def digitB (c : Int) : Bool := decide (48 ≤ c) && decide (c ≤ 57)
def insideB (c : Int) : Bool := smallB c || greatB c || digitB c || c == 39
def signs : List UInt8 := [43, 45, 42, 47, 60, 62, 61, 38, 124, 94, 126, 64, 35, 36, 63, 58]
def signB (c : Int) : Bool := decide (Lib.indexByte signs c.toNat.toUInt8 ≥ 0)

theorem c_small (c : Int) : AC Try.prog 33 [c8 c] [] (cb (smallB c)) [] := by
  refine AC.vc hP sh lv33 (Nat.le_refl _) (by simp) (by simp) (Eq.mpr (v33 ..) ?_)
  refine br_of (fun h => ret_b ?_) (fun h => ret_b ?_) <;> simp_all [smallB] <;> omega
theorem c_great (c : Int) : AC Try.prog 43 [c8 c] [] (cb (greatB c)) [] := by
  refine AC.vc hP sh lv43 (Nat.le_refl _) (by simp) (by simp) (Eq.mpr (v43 ..) ?_)
  refine br_of (fun h => br_of (fun h => ret_b ?_) (fun h => ret_b ?_)) (fun h => ret_b ?_) <;> simp_all [greatB] <;> omega
theorem c_digit (c : Int) : AC Try.prog 44 [c8 c] [] (cb (digitB c)) [] := by
  refine AC.vc hP sh lv44 (Nat.le_refl _) (by simp) (by simp) (Eq.mpr (v44 ..) ?_)
  refine br_of (fun h => ret_b ?_) (fun h => ret_b ?_) <;> simp_all [digitB] <;> omega
theorem c_inside (c : Int) : AC Try.prog 35 [c8 c] [] (cb (insideB c)) [] := by
  refine AC.vc hP sh lv35 (Nat.le_refl _) (by simp) (by simp) (Eq.mpr (v35 ..) ?_)
  refine ⟨_, c_small c, br_of (fun h => ret_b ?_) (fun h => ⟨_, c_great c, br_of (fun h => ret_b ?_) (fun h => ⟨_, c_digit c, br_of (fun h => ret_b ?_) (fun h => ret_b ?_)⟩)⟩)⟩ <;> simp_all [insideB]
theorem c_lindexbyte (s : List UInt8) (c : Int) : AC Try.prog 48 [cs s, c8 c] [] (ci (Lib.indexByte s c.toNat.toUInt8)) [] :=
  AC.str_u8 (by kernel_rfl) fun w => Try.stringslite_IndexByte ⟨s.toArray⟩ c w
theorem c_indexbyte (s : List UInt8) (c : Int) : AC Try.prog 45 [cs s, c8 c] [] (ci (Lib.indexByte s c.toNat.toUInt8)) [] :=
  AC.str_u8 (by kernel_rfl) fun w => Try.strings_IndexByte ⟨s.toArray⟩ c w
theorem c_sign (c : Int) : AC Try.prog 36 [c8 c] [] (cb (signB c)) [] := by
  refine AC.vc hP sh lv36 (Nat.le_refl _) (by simp) (by simp) (Eq.mpr (v36 ..) ?_)
  exact ⟨_, c_indexbyte _ c, ret_b rfl⟩

/-- How many bytes a text begins with that are such. -/
def runN (p : Int → Bool) : List UInt8 → Nat
  | [] => 0
  | c :: s => if p (c.toNat : Int) then runN p s + 1 else 0
theorem runN_le (p : Int → Bool) : ∀ s : List UInt8, runN p s ≤ s.length
  | [] => Nat.le_refl _
  | c :: s => by have := runN_le p s; simp only [runN, List.length_cons]; split <;> omega
theorem gD_mid8 (a : List UInt8) (c : UInt8) (b : List UInt8) : List.getD (a ++ c :: b) (Int.toNat (a.length : Int)) 0 = c := by simp [List.getD]
theorem l_run_inside : ∀ (b a : List UInt8), (a ++ b).length ≤ B → RPt Try.prog 34 0 (ci ((a.length : Int) + runN insideB b)) [] 1 ⟨[(0, cs (a ++ b)), (1, .c (.fn (.func 35) [] [])), (7, ci (((a ++ b).length : Nat) : Int)), (8, ci a.length)], [], 0⟩
  | [], a, hl => by
    refine RPt.vc hP sh lv34 (Eq.mpr (v34_F35_1a ..) ?_)
    exact br_of (fun h => absurd h (by simp)) (fun _ => ret_i (by simp [runN]))
  | c :: b, a, hl => by
    refine RPt.vc hP sh lv34 (Eq.mpr (v34_F35_1a ..) ?_)
    have hl' := hl
    simp only [List.length_append, List.length_cons, B] at hl'
    refine br_of (fun _ => ⟨⟨by omega, by simp; omega⟩, insideB (c.toNat : Int), ?_, br_of (fun h => ret_i ?_) (fun h => ?_)⟩) (fun h => absurd h (by simp; omega))
    · rw [gD_mid8]; exact c_inside _
    · simp_all [runN]
    · have := l_run_inside b (a ++ [c]) (by simpa using hl)
      rw [w64 (by omega) (by omega)]
      simp only [List.append_assoc, List.cons_append, List.nil_append, List.length_append, List.length_cons, List.length_nil, Int.natCast_add, Int.natCast_one, Int.natCast_zero, Int.zero_add] at this
      simp only [Bool.not_eq_false'] at h
      simp only [runN, h, if_true, List.length_append, List.length_cons, Int.natCast_add, Int.natCast_one]
      rw [show (a.length : Int) + ((runN insideB b : Nat) + 1 : Int) = (a.length : Int) + 1 + (runN insideB b : Nat) by omega]
      exact this
theorem c_run_inside (s : List UInt8) (h : s.length ≤ B) : AC Try.prog 34 [cs s, .c (.fn (.func 35) [] [])] [] (ci (runN insideB s)) [] := by
  refine AC.vc hP sh lv34 (Nat.le_refl _) (by simp) (by simp) (Eq.mpr (v34_F35 ..) ?_)
  have := l_run_inside s [] (by simpa using h)
  simpa using this
theorem l_run_sign : ∀ (b a : List UInt8), (a ++ b).length ≤ B → RPt Try.prog 34 0 (ci ((a.length : Int) + runN signB b)) [] 1 ⟨[(0, cs (a ++ b)), (1, .c (.fn (.func 36) [] [])), (7, ci (((a ++ b).length : Nat) : Int)), (8, ci a.length)], [], 0⟩
  | [], a, hl => by
    refine RPt.vc hP sh lv34 (Eq.mpr (v34_F36_1a ..) ?_)
    exact br_of (fun h => absurd h (by simp)) (fun _ => ret_i (by simp [runN]))
  | c :: b, a, hl => by
    refine RPt.vc hP sh lv34 (Eq.mpr (v34_F36_1a ..) ?_)
    have hl' := hl
    simp only [List.length_append, List.length_cons, B] at hl'
    refine br_of (fun _ => ⟨⟨by omega, by simp; omega⟩, signB (c.toNat : Int), ?_, br_of (fun h => ret_i ?_) (fun h => ?_)⟩) (fun h => absurd h (by simp; omega))
    · rw [gD_mid8]; exact c_sign _
    · simp_all [runN]
    · have := l_run_sign b (a ++ [c]) (by simpa using hl)
      rw [w64 (by omega) (by omega)]
      simp only [List.append_assoc, List.cons_append, List.nil_append, List.length_append, List.length_cons, List.length_nil, Int.natCast_add, Int.natCast_one, Int.natCast_zero, Int.zero_add] at this
      simp only [Bool.not_eq_false'] at h
      simp only [runN, h, if_true, List.length_append, List.length_cons, Int.natCast_add, Int.natCast_one]
      rw [show (a.length : Int) + ((runN signB b : Nat) + 1 : Int) = (a.length : Int) + 1 + (runN signB b : Nat) by omega]
      exact this
theorem c_run_sign (s : List UInt8) (h : s.length ≤ B) : AC Try.prog 34 [cs s, .c (.fn (.func 36) [] [])] [] (ci (runN signB s)) [] := by
  refine AC.vc hP sh lv34 (Nat.le_refl _) (by simp) (by simp) (Eq.mpr (v34_F36 ..) ?_)
  have := l_run_sign s [] (by simpa using h)
  simpa using this

theorem runN_all (p : Int → Bool) : ∀ s : List UInt8, (((runN p s : Nat) : Int) == ((s.length : Nat) : Int)) = s.all fun c => p (c.toNat : Int)
  | [] => rfl
  | c :: s => by
    have ih := runN_all p s
    have := runN_le p s
    simp only [runN, List.all_cons, List.length_cons]
    cases h : p (c.toNat : Int) with
    | true => rw [← ih]; simp only [if_true, Bool.true_and]; rw [Bool.eq_iff_iff]; simp <;> omega
    | false => simp; omega
def fitsB (s : List UInt8) : Bool := !(s == []) && decide ((s.length : Int) ≤ 32)
theorem c_fits (s : List UInt8) : AC Try.prog 32 [cs s] [] (cb (fitsB s)) [] := by
  refine AC.vc hP sh lv32 (Nat.le_refl _) (by simp) (by simp) (Eq.mpr (v32 ..) ?_)
  refine br_of (fun h => ret_b ?_) (fun h => ret_b ?_) <;> simp_all [fitsB]
/-- A name. -/
def isName (s : List UInt8) : Bool := fitsB s && smallB ((s.getD 0 0).toNat : Int) && s.all fun c => insideB (c.toNat : Int)
theorem fits_le {s : List UInt8} (h : fitsB s = true) : 0 < s.length ∧ s.length ≤ 32 := by
  simp only [fitsB, Bool.and_eq_true, Bool.not_eq_true', decide_eq_true_eq] at h
  refine ⟨?_, by omega⟩
  cases s with
  | nil => simp at h
  | cons c s => simp
theorem c_isname (s : List UInt8) : AC Try.prog 24 [cs s] [] (cb (isName s)) [] := by
  refine AC.vc hP sh lv24 (Nat.le_refl _) (by simp) (by simp) (Eq.mpr (v24 ..) ?_)
  refine ⟨_, c_fits s, br_of (fun h => ⟨⟨by omega, by have := fits_le h; omega⟩, _, c_small _, br_of (fun h2 => ⟨_, c_run_inside s (by have := fits_le h; simp only [B]; omega), ret_b ?_⟩) (fun h2 => ret_b ?_)⟩) (fun h => ret_b ?_)⟩
  · rw [runN_all]; simp only [isName, h, h2, Bool.true_and]
  · simp only [isName, h, h2, Bool.and_false, Bool.false_and]
  · simp only [isName, h, Bool.false_and]
def singles : List UInt8 := [44, 59, 33]
theorem c_contains1 (s : List UInt8) (c : UInt8) (hs : s.length ≤ B) : AC Try.prog 37 [cs s, cs [c]] [] (cb (decide (Lib.indexByte s c ≥ 0))) [] := by
  have hb : (c.toNat : Int).toNat.toUInt8 = c := by simp
  have h1 : AC Try.prog 49 [cs s, cs [c]] [] (ci (if [c] == s then 0 else Lib.indexByte s c)) [] := by
    refine AC.vc hP sh lv49 (Nat.le_refl _) (by simp) (by simp) (Eq.mpr (v49 ..) ?_)
    refine br_of (fun h => absurd h (by simp)) (fun _ => br_of (fun h => ret_i (by simp [h])) (fun h => br_of (fun _ => ⟨⟨by omega, by simp⟩, _, c_lindexbyte s _, ret_i ?_⟩) (fun h2 => absurd h2 (by simp))))
    rw [h]
    simp
  have h2 : AC Try.prog 46 [cs s, cs [c]] [] (ci (if [c] == s then 0 else Lib.indexByte s c)) [] := by
    refine AC.vc hP sh lv46 (Nat.le_refl _) (by simp) (by simp) (Eq.mpr (v46 ..) ?_)
    exact ⟨_, h1, ret_i rfl⟩
  refine AC.vc hP sh lv37 (Nat.le_refl _) (by simp) (by simp) (Eq.mpr (v37 ..) ?_)
  refine ⟨_, h2, ret_b ?_⟩
  by_cases e : [c] = s
  · subst e
    simp [Lib.indexByte]
  · have : ([c] == s) = false := by simpa using e
    rw [this]; simp
def isSym (s : List UInt8) : Bool := fitsB s && ((s.all fun c => signB (c.toNat : Int)) || ((s.length : Int) == 1 && decide (Lib.indexByte singles (s.getD 0 0) ≥ 0)))
theorem c_issym (s : List UInt8) : AC Try.prog 25 [cs s] [] (cb (isSym s)) [] := by
  refine AC.vc hP sh lv25 (Nat.le_refl _) (by simp) (by simp) (Eq.mpr (v25 ..) ?_)
  refine ⟨_, c_fits s, br_of (fun h => ⟨_, c_run_sign s (by have := fits_le h; simp only [B]; omega), br_of (fun h2 => ret_b ?_) (fun h2 => br_of (fun h3 => ?_) (fun h3 => ret_b ?_))⟩) (fun h => ret_b ?_)⟩
  · rw [runN_all] at h2; simp only [isSym, h, h2, Bool.true_and, Bool.true_or]
  · rw [runN_all] at h2
    match s, h3 with
    | [c], h3 =>
      refine ⟨_, c_contains1 singles c (by simp [singles, B]), ret_b ?_⟩
      simp only [isSym, h, h2, h3, Bool.true_and, Bool.false_or, List.getD_cons_zero]
    | [], h3 => simp at h3
    | _ :: _ :: _, h3 => simp at h3; omega
  · rw [runN_all] at h2; simp only [isSym, h, h2, h3, Bool.false_and, Bool.false_or, Bool.and_false]
  · simp only [isSym, h, Bool.false_and]

end Go.AM

set_option maxRecDepth 100000
open Go Go.Proofs
namespace Go.AM

/-! ### What is looked at -/
mutual
def near (most : Int) : Tm → Bool
  | .mk k _ n l => !(k != 2 && (decide (n > most) || decide (n < 0 - most))) && nears most l
def nears (most : Int) : List Tm → Bool
  | [] => true
  | t :: l => near most t && nears most l
end
theorem l_near (most : Int) (k : Int) (s : List UInt8) (n : Int) : ∀ (b a : List Tm), (∀ u ∈ b, AC Try.prog 12 [aT u, ci most] [] (cb (near most u)) []) → (a ++ b).length ≤ B →
    RPt Try.prog 12 0 (cb (nears most b)) [] 1 ⟨[(1, ci most), (2, (.c (.a (.ep 0 4 0 0)))), (5, ci a.length)], [(0, (.arr 4 [fzs (FT (.mk k s n (a ++ b)))]))], 1⟩
  | [], a, _, hl => by
    refine RPt.vc hP sh lv12 (Eq.mpr (v12_1a ..) ?_)
    exact ⟨rfl, br_of (fun h => absurd (of_decide_eq_true h) (geI' a)) (fun _ => ret_b rfl)⟩
  | t :: b, a, ih, hl => by
    refine RPt.vc hP sh lv12 (Eq.mpr (v12_1a ..) ?_)
    have hl' := hl
    simp only [List.length_append, List.length_cons, B] at hl'
    refine ⟨rfl, br_of (fun _ => ?_) (fun h => absurd (ltI' a t b) (of_decide_eq_false h))⟩
    have h1 := ih t List.mem_cons_self
    have h2 := l_near most k s n b (a ++ [t]) (fun u hu => ih u (List.mem_cons_of_mem _ hu)) (by rw [ap]; exact hl)
    have h3 := ltI' a t b
    rw [ap, nx] at h2
    rw [midI, w64 (by omega) (by omega)]
    obtain ⟨k', s', n', l'⟩ := t
    refine ⟨⟨rfl, by omega, h3, rfl⟩, _, h1, br_of (fun h => ret_b ?_) (fun h => ?_)⟩
    · simp_all [nears]
    · simp only [nears, show near most (.mk k' s' n' l') = true by simpa using h, Bool.true_and]; exact h2
theorem c_near (most : Int) (h0 : 0 ≤ most) (h1 : most ≤ 4611686018427387904) : ∀ t : Tm, t.sz ≤ B → AC Try.prog 12 [aT t, ci most] [] (cb (near most t)) [] := by
  refine Tm.ind fun t ih hs => ?_
  obtain ⟨k, s, n, l⟩ := t
  have hl := Tm.szs_length l
  simp only [Tm.sz, B] at hs
  refine AC.vc hP sh lv12 (Nat.le_refl _) (by simp) (by simp) (Eq.mpr (v12 k s n (FTs l) most _ _) ?_)
  have key := l_near most k s n l [] (fun u hu => ih u hu (by have := Tm.szs_mem hu; simp only [B]; omega)) (by simp only [List.nil_append, B]; omega)
  rw [w64 (by omega) (by omega)]
  rw [near]
  refine br_of (fun h => br_of (fun h2 => ret_b ?_) (fun h2 => br_of (fun h3 => ret_b ?_) (fun h3 => ?_))) (fun h => ?_)
  · simp only [h, h2, Bool.true_or, Bool.and_true, Bool.not_true, Bool.false_and]
  · simp only [h, h3, Bool.or_true, Bool.and_true, Bool.not_true, Bool.false_and]
  · simp only [h2, h3, Bool.or_false, Bool.and_false, Bool.not_false, Bool.true_and]; exact key
  · simp only [h, Bool.false_and, Bool.not_false, Bool.true_and]; exact key

mutual
def leftF : Tm → Int → Int
  | .mk _ _ _ l, most => leftL l (most - 1)
def leftL : List Tm → Int → Int
  | [], n => n
  | t :: l, n => if n ≥ 0 then leftL l (leftF t n) else n
end
mutual
theorem leftF_le : ∀ (t : Tm) (n : Int), leftF t n ≤ n - 1 ∧ (0 ≤ n → -1 ≤ leftF t n)
  | .mk _ _ _ l, n => by
    have h := leftL_le l (n - 1)
    simp only [leftF]
    exact ⟨h.1, fun hn => h.2 (by omega)⟩
theorem leftL_le : ∀ (l : List Tm) (n : Int), leftL l n ≤ n ∧ (-1 ≤ n → -1 ≤ leftL l n)
  | [], n => by simp [leftL]
  | t :: l, n => by
    have h1 := leftF_le t n
    have h2 := leftL_le l (leftF t n)
    simp only [leftL]
    split
    · rename_i h; exact ⟨by omega, fun _ => h2.2 (h1.2 h)⟩
    · exact ⟨Int.le_refl _, fun h => h⟩
end
theorem l_left (k : Int) (s : List UInt8) (n : Int) : ∀ (b a : List Tm) (m : Int), (∀ u ∈ b, ∀ m : Int, 0 ≤ m → m ≤ 4611686018427387904 → AC Try.prog 23 [aT u, ci m] [] (ci (leftF u m)) []) → (a ++ b).length ≤ B → m ≤ 4611686018427387904 →
    RPt Try.prog 23 0 (ci (leftL b m)) [] 1 ⟨[(2, (.c (.a (.ep 0 4 0 0)))), (5, ci m), (6, ci a.length)], [(0, (.arr 4 [fzs (FT (.mk k s n (a ++ b)))]))], 1⟩
  | [], a, m, _, hl, hm => by
    refine RPt.vc hP sh lv23 (Eq.mpr (v23_1a ..) ?_)
    exact ⟨rfl, br_of (fun h => absurd (of_decide_eq_true h) (geI' a)) (fun _ => ret_i rfl)⟩
  | t :: b, a, m, ih, hl, hm => by
    refine RPt.vc hP sh lv23 (Eq.mpr (v23_1a ..) ?_)
    have hl' := hl
    simp only [List.length_append, List.length_cons, B] at hl'
    refine ⟨rfl, br_of (fun _ => br_of (fun hm0 => ?_) (fun hm0 => ret_i ?_)) (fun h => absurd (ltI' a t b) (of_decide_eq_false h))⟩
    · have hm0 := of_decide_eq_true hm0
      have h1 := ih t List.mem_cons_self m hm0 hm
      have hle := leftF_le t m
      have h2 := l_left k s n b (a ++ [t]) (leftF t m) (fun u hu => ih u (List.mem_cons_of_mem _ hu)) (by rw [ap]; exact hl) (by omega)
      have h3 := ltI' a t b
      rw [ap, nx] at h2
      rw [midI, w64 (by omega) (by omega)]
      simp only [leftL, hm0, if_true]
      obtain ⟨k', s', n', l'⟩ := t
      exact ⟨⟨rfl, by omega, h3, rfl⟩, _, h1, h2⟩
    · have hm0 := of_decide_eq_false hm0
      simp only [leftL, hm0, if_false]
theorem c_left : ∀ t : Tm, t.sz ≤ B → ∀ m : Int, 0 ≤ m → m ≤ 4611686018427387904 → AC Try.prog 23 [aT t, ci m] [] (ci (leftF t m)) [] := by
  refine Tm.ind fun t ih hs m h0 h1 => ?_
  obtain ⟨k, s, n, l⟩ := t
  have hl := Tm.szs_length l
  simp only [Tm.sz, B] at hs
  refine AC.vc hP sh lv23 (Nat.le_refl _) (by simp) (by simp) (Eq.mpr (v23 k s n (FTs l) m _ _) ?_)
  rw [w64 (by omega) (by omega)]
  exact l_left k s n l [] (m - 1) (fun u hu => ih u hu (by have := Tm.szs_mem hu; simp only [B]; omega)) (by simp only [List.nil_append, B]; omega) (by omega)
def large (t : Tm) (most : Int) : Bool := decide (leftF t most < 0)
theorem c_large (t : Tm) (hs : t.sz ≤ B) (m : Int) (h0 : 0 ≤ m) (h1 : m ≤ 4611686018427387904) : AC Try.prog 11 [aT t, ci m] [] (cb (large t m)) [] := by
  have h := c_left t hs m h0 h1
  obtain ⟨k, s, n, l⟩ := t
  refine AC.vc hP sh lv11 (Nat.le_refl _) (by simp) (by simp) (Eq.mpr (v11 k s n (FTs l) m _ _) ?_)
  exact ⟨_, h, ret_b rfl⟩

mutual
def longB : Tm → Bool
  | .mk _ s _ l => decide (60 < (s.length : Int)) || longL l
def longL : List Tm → Bool
  | [] => false
  | t :: l => longB t || longL l
end
def overB (t : Tm) : Bool := large t 80 || longB t || !near 1099511627776 t
def rowL (l : List Tm) : Bool := decide ((l.length : Int) > 8) || l.any overB
/-! ### The same -/
mutual
def sameB : Tm → Tm → Bool
  | .mk k s n l, .mk k' s' n' l' => k == k' && (s == s' && (n == n' && sameL l l'))
def sameL : List Tm → List Tm → Bool
  | [], [] => true
  | t :: l, u :: m => sameB t u && sameL l m
  | _, _ => false
end
mutual
theorem sameB_iff : ∀ a b : Tm, sameB a b = true ↔ a = b
  | .mk k s n l, .mk k' s' n' l' => by simp only [sameB, Bool.and_eq_true, beq_iff_eq, Tm.mk.injEq, sameL_iff l l']
theorem sameL_iff : ∀ a b : List Tm, sameL a b = true ↔ a = b
  | [], [] => by simp [sameL]
  | t :: l, u :: m => by simp only [sameL, Bool.and_eq_true, List.cons.injEq, sameB_iff t u, sameL_iff l m]
  | [], _ :: _ => by simp [sameL]
  | _ :: _, [] => by simp [sameL]
end
theorem sameL_len : ∀ {a b : List Tm}, a.length ≠ b.length → sameL a b = false
  | [], [], h => absurd rfl h
  | t :: l, u :: m, h => by simp only [sameL, sameL_len (a := l) (b := m) (fun e => h (by simp [e])), Bool.and_false]
  | [], _ :: _, _ => rfl
  | _ :: _, [], _ => rfl
/-! ### What is within; how large -/
def Tm.inner (t : Tm) : Bool := t.k == 5 || t.k == 6
def Tm.kids (t : Tm) : List Tm := if t.inner = true then t.l else []
def Tm.by (t : Tm) : Int := if t.k == 5 then 1 else 0

end Go.AM

set_option maxRecDepth 100000
open Go Go.Proofs
namespace Go.AM

/-! ### What is within -/
def kidsV (t : Tm) : FV := if t.inner = true then .sl false 4 (FTs t.l) else .nils
theorem kidsV_ses (t : Tm) : (kidsV t).ses = FTs t.kids ∧ (kidsV t).isSl 4 = true := by
  unfold kidsV Tm.kids
  split <;> exact ⟨rfl, rfl⟩
theorem c_within (t : Tm) : AC Try.prog 62 [aT t] [] (.tup [(false, [.a (.fz (kidsV t))]), (false, [.a (.fz (.int .i64 t.by))])]) [] := by
  obtain ⟨k, s, n, l⟩ := t
  refine AC.vc hP sh lv62 (Nat.le_refl _) (by simp) (by simp) (Eq.mpr (v62 k s n (FTs l) _ _) ?_)
  refine br_of (fun h => ⟨?_, rfl⟩) (fun h => br_of (fun h2 => ⟨?_, rfl⟩) (fun h2 => ⟨?_, rfl⟩))
  · have e1 : kidsV (.mk k s n l) = .sl false 4 (FTs l) := by unfold kidsV Tm.inner; simp only [Tm.k, h, Bool.true_or, if_true, Tm.l]
    have e2 : Tm.by (.mk k s n l) = 1 := by unfold Tm.by; simp only [Tm.k, h, if_true]
    rw [e1, e2]; exact .refl _
  · have e1 : kidsV (.mk k s n l) = .sl false 4 (FTs l) := by unfold kidsV Tm.inner; simp only [Tm.k, h2, Bool.or_true, if_true, Tm.l]
    have e2 : Tm.by (.mk k s n l) = 0 := by unfold Tm.by; simp only [Tm.k, h, Bool.false_eq_true, if_false]
    rw [e1, e2]; exact .refl _
  · have e1 : kidsV (.mk k s n l) = .nils := by unfold kidsV Tm.inner; simp only [Tm.k, h, h2, Bool.or_self, Bool.false_eq_true, if_false]
    have e2 : Tm.by (.mk k s n l) = 0 := by unfold Tm.by; simp only [Tm.k, h, Bool.false_eq_true, if_false]
    rw [e1, e2]; exact .refl _
mutual
def sizeF : Tm → Nat
  | .mk k _ _ l => 1 + if (k == 5 || k == 6) = true then sizeL l else 0
def sizeL : List Tm → Nat
  | [] => 0
  | t :: l => sizeF t + sizeL l
end
theorem sizeF_eq (t : Tm) : sizeF t = 1 + sizeL t.kids := by
  obtain ⟨k, s, n, l⟩ := t
  by_cases h : (k == 5 || k == 6) = true
  · rw [show Tm.kids (.mk k s n l) = l from if_pos h, sizeF, if_pos h]
  · rw [show Tm.kids (.mk k s n l) = [] from if_neg h, sizeF, if_neg h]; rfl
mutual
theorem sizeF_le : ∀ t : Tm, sizeF t ≤ t.sz
  | .mk k s n l => by have := sizeL_le l; simp only [sizeF, Tm.sz]; split <;> omega
theorem sizeL_le : ∀ l : List Tm, sizeL l ≤ Tm.szs l
  | [] => Nat.le_refl _
  | t :: l => by have := sizeF_le t; have := sizeL_le l; simp only [sizeL, Tm.szs]; omega
end
theorem l_size : ∀ (b a : List Tm) (v : FV) (acc : Nat), v.ses = FTs (a ++ b) → v.isSl 4 = true → (∀ u ∈ b, AC Try.prog 59 [aT u] [] (ci (sizeF u)) []) → (a ++ b).length ≤ B → acc + sizeL b ≤ 2 * B →
    RPt Try.prog 59 0 (ci ((acc + sizeL b : Nat) : Int)) [] 1 ⟨[(3, ci acc), (13, .c (.a (.fz v))), (14, ci (a ++ b).length), (15, ci a.length)], [], 0⟩
  | [], a, v, acc, hv, hs, _, hl, ha => by
    refine RPt.vc hP sh lv59 (Eq.mpr (v59_1a ..) ?_)
    exact br_of (fun h => absurd (of_decide_eq_true h) (by simp)) (fun _ => ret_i (by simp [sizeL]))
  | t :: b, a, v, acc, hv, hs, ih, hl, ha => by
    refine RPt.vc hP sh lv59 (Eq.mpr (v59_1a ..) ?_)
    have hl' := hl
    simp only [List.length_append, List.length_cons, B] at hl'
    simp only [sizeL, B] at ha
    have h1 := ih t List.mem_cons_self
    have h2 := l_size b (a ++ [t]) v (acc + sizeF t) (by rw [ap]; exact hv) hs (fun u hu => ih u (List.mem_cons_of_mem _ hu)) (by rw [ap]; exact hl) (by simp only [B]; omega)
    have h3 := ltI' a t b
    rw [ap, nx] at h2
    rw [hv, midI, w64 (x := (a.length : Int) + 1) (by omega) (by omega)]
    refine br_of (fun _ => ?_) (fun h => absurd (ltI a t b) (of_decide_eq_false h))
    rw [show acc + sizeL (t :: b) = acc + sizeF t + sizeL b by simp only [sizeL]; omega]
    obtain ⟨k', s', n', l'⟩ := t
    refine ⟨⟨hs, by omega, h3, rfl⟩, _, h1, ?_⟩
    rw [w64 (by omega) (by omega), show (acc : Int) + ((sizeF (.mk k' s' n' l') : Nat) : Int) = ((acc + sizeF (.mk k' s' n' l') : Nat) : Int) by omega]
    exact h2
theorem c_size : ∀ t : Tm, t.sz ≤ B → AC Try.prog 59 [aT t] [] (ci (sizeF t)) [] := by
  refine Tm.ind fun t ih hs => ?_
  have hw := c_within t
  have hk := kidsV_ses t
  have hsz := sizeF_eq t
  have hle := sizeF_le t
  have hkl : t.kids.length ≤ B ∧ (∀ u ∈ t.kids, u ∈ t.l) := by
    have := Tm.szs_length t.l
    rw [Tm.sz_eq] at hs
    unfold Tm.kids
    split
    · exact ⟨by simp only [B] at *; omega, fun u hu => hu⟩
    · exact ⟨by simp [B], fun u hu => by simp at hu⟩
  have key := l_size t.kids [] (kidsV t) 1 (by simpa using hk.1) hk.2 (fun u hu => ih u (hkl.2 u hu) (by have := Tm.szs_mem (hkl.2 u hu); rw [Tm.sz_eq] at hs; simp only [B] at *; omega)) (by simpa using hkl.1) (by simp only [B] at *; omega)
  refine AC.vc hP sh lv59 (Nat.le_refl _) (by simp) (by simp) (Eq.mpr (v59 ..) ?_)
  refine ⟨_, _, hw, hk.2, ?_⟩
  rw [hk.1, hsz, lenI]
  simpa using key

/-! ### How loose -/
mutual
/-- Numbers of what is bound, up to M. -/
def bd (M : Int) : Tm → Prop
  | .mk k _ n l => (k = 3 → 0 - M ≤ n ∧ n ≤ M) ∧ bds M l
def bds (M : Int) : List Tm → Prop
  | [] => True
  | t :: l => bd M t ∧ bds M l
end
theorem bds_mem {M : Int} : ∀ {l : List Tm} {t : Tm}, bds M l → t ∈ l → bd M t
  | x :: l, t, h, ht => by
    rcases List.mem_cons.1 ht with rfl | ht
    · exact h.1
    · exact bds_mem h.2 ht
theorem bd_l {M : Int} {t : Tm} (h : bd M t) : bds M t.l := by cases t; exact h.2
def maxI (a b : Int) : Int := if a ≤ b then b else a
theorem foldMax2 (a b : Int) : foldMax [a, b] = maxI a b := by
  simp only [foldMax, List.foldl, maxI, max, maxOfLe]
mutual
def looseF : Tm → Int → Int → Int
  | .mk kd _ n l, k, acc => if (kd == 5) = true then looseL l (k + 1) acc else if (kd == 6) = true then looseL l k acc else if (kd == 3) = true then maxI acc (n - k + 1) else acc
def looseL : List Tm → Int → Int → Int
  | [], _, acc => acc
  | t :: l, k, acc => looseL l k (looseF t k acc)
end
abbrev obj1 (n : Int) : AObj := .arr 1 [[.a (.fz (.int .i64 n))]]
end Go.AM

set_option maxRecDepth 100000
open Go Go.Proofs
namespace Go.AM

/-! ### Rows put together -/
theorem c_grow (n : Int) (h0 : 0 ≤ n) (h1 : n ≤ 2199023255552) : (n = 0 → AC Try.prog 42 [.c (.a (.fz .nils)), ci n] [] (.c (.a (.fz .nils))) []) ∧
    (n ≠ 0 → AC Try.prog 42 [.c (.a (.fz .nils)), ci n] [] (.c (.a (.osl 0 4 0 0))) [.arz 4 []]) := by
  constructor
  · intro hn
    refine AC.vc hP sh lv42 (Nat.le_refl _) (by simp) (by simp) (Eq.mpr (v42 ..) ?_)
    refine br_of (fun h => absurd (of_decide_eq_true h) (by omega)) (fun _ => ⟨rfl, br_of (fun h => ?_) (fun _ => ret_r (.refl _))⟩)
    rw [w64 (by omega) (by omega)] at h
    exact absurd (of_decide_eq_true h) (by omega)
  · intro hn
    refine AC.vc hP sh lv42 (by simp) (by simp) (by simp [isLive]) (Eq.mpr (v42 ..) ?_)
    rw [w64 (by omega) (by omega)]
    refine br_of (fun h => absurd (of_decide_eq_true h) (by omega)) (fun _ => ⟨rfl, br_of (fun h => ⟨rfl, ⟨by omega, by omega, by omega⟩, ⟨by omega, by unfold roomB; omega⟩, rfl, ⟨by omega, by omega, by omega⟩, .refl _, rfl⟩) (fun h => absurd (of_decide_eq_false h) (by omega))⟩)
/-- Rows of rows. -/
def FLs (ls : List (List Tm)) : List (List FV) := ls.map fun l => [.sl false 4 (FTs l)]
def total (ls : List (List Tm)) : Nat := (ls.map List.length).foldr (· + ·) 0
theorem FLs_length (ls : List (List Tm)) : (FLs ls).length = ls.length := by simp [FLs]
theorem midL (a : List (List Tm)) (l : List Tm) (b : List (List Tm)) : List.getD (FLs (a ++ l :: b)) (Int.toNat (a.length : Int)) [] = [.sl false 4 (FTs l)] := by
  rw [show Int.toNat (a.length : Int) = a.length by omega]
  simp [List.getD, FLs]
theorem ltL (a : List (List Tm)) (t : List Tm) (b : List (List Tm)) : (a.length : Int) < (((FLs (a ++ t :: b)).length : Nat) : Int) := by rw [FLs_length]; exact ltI a t b
theorem total_mid (a : List (List Tm)) (l : List Tm) (b : List (List Tm)) : total (a ++ l :: b) = total a + l.length + total b := by
  induction a with
  | nil => simp [total]
  | cons x a ih => simp only [total, List.cons_append, List.map_cons, List.foldr_cons] at ih ⊢; omega
theorem total_snoc (a : List (List Tm)) (l : List Tm) : total (a ++ [l]) = total a + l.length := by rw [total_mid]; simp [total]
abbrev aLs (ls : List (List Tm)) : TV := .c (.a (.fz (.sl false 1 (FLs ls))))
theorem roomI {n : Nat} (h : n ≤ 2199023255552) : roomB n 56 := by unfold roomB; omega
theorem l_cat3 : ∀ (b a : List (List Tm)) (acc : List Tm), acc.length + total b ≤ 2199023255552 → (a ++ b).length ≤ B →
    RPt Try.prog 31 0 (aL (acc ++ b.flatten)) [] 5 ⟨[(6, (.c (.a (.osl 0 4 0 acc.length)))), (25, aLs (a ++ b)), (26, ci (a ++ b).length), (27, ci a.length)], [(0, (.arz 4 (FTs acc)))], 1⟩
  | [], a, acc, ht, hl => by
    refine RPt.vc hP sh lv31 (Eq.mpr (v31_5b ..) ?_)
    refine br_of (fun h => absurd (of_decide_eq_true h) (by simp)) (fun _ => ⟨⟨rfl, by rw [FTs_length]; omega⟩, ret_r ?_⟩)
    rw [List.drop_zero, List.take_of_length_le (by rw [FTs_length]; omega), List.flatten_nil, List.append_nil]
    exact le_c leSl
  | l :: b, a, acc, ht, hl => by
    refine RPt.vc hP sh lv31 (Eq.mpr (v31_5b ..) ?_)
    have hl' := hl
    have h3 := ltL a l b
    simp only [List.length_append, List.length_cons, B] at hl'
    have ht' : acc.length + (l.length + total b) ≤ 2199023255552 := by simpa [total] using ht
    have h2 := l_cat3 b (a ++ [l]) (acc ++ l) (by rw [List.length_append]; omega) (by rw [ap]; exact hl)
    rw [ap, nx] at h2
    rw [midL, w64 (by omega) (by omega)]
    refine br_of (fun _ => ⟨⟨rfl, by omega, h3, rfl⟩, rfl, ⟨by rw [FTs_length]; omega, ?_⟩, ?_⟩) (fun h => absurd (ltI a l b) (of_decide_eq_false h))
    · show roomB (acc.length + (FTs l).length) 56
      rw [FTs_length]; exact roomI (by omega)
    · show RPt _ _ _ _ _ _ ⟨[(6, (.c (.a (.osl 0 4 0 (acc.length + (FTs l).length))))), _, _, _], [(0, .arz 4 (List.take acc.length (FTs acc) ++ FTs l))], 1⟩
      rw [List.take_of_length_le (by rw [FTs_length]; omega), ← FTs_append, FTs_length, ← List.length_append]
      rw [show acc ++ (l :: b).flatten = acc ++ l ++ b.flatten by simp]
      exact h2
theorem l_cat2 : ∀ (b a : List (List Tm)), total b ≤ 2199023255552 → (a ++ b).length ≤ B →
    RPt Try.prog 31 0 (aL b.flatten) [] 5 ⟨[(6, (.c (.a (.fz .nils)))), (25, aLs (a ++ b)), (26, ci (a ++ b).length), (27, ci a.length)], [], 0⟩
  | [], a, ht, hl => by
    refine RPt.vc hP sh lv31 (Eq.mpr (v31_5a ..) ?_)
    refine br_of (fun h => absurd (of_decide_eq_true h) (by simp)) (fun _ => ret_r (le_c leNil))
  | l :: b, a, ht, hl => by
    refine RPt.vc hP sh lv31 (Eq.mpr (v31_5a ..) ?_)
    have hl' := hl
    have h3 := ltL a l b
    simp only [List.length_append, List.length_cons, B] at hl'
    have ht' : l.length + total b ≤ 2199023255552 := by simpa [total] using ht
    rw [midL, w64 (by omega) (by omega)]
    refine br_of (fun _ => ⟨⟨rfl, by omega, h3, rfl⟩, rfl, ?_⟩) (fun h => absurd (ltI a l b) (of_decide_eq_false h))
    show br (List.isEmpty (FTs l)) _ _
    refine br_of (fun he => ?_) (fun he => ⟨?_, ?_⟩)
    · have h2 := l_cat2 b (a ++ [l]) (by omega) (by rw [ap]; exact hl)
      rw [ap, nx] at h2
      have hnil : l = [] := by cases l with
        | nil => rfl
        | cons x l => simp [FTs] at he
      rw [show (l :: b).flatten = b.flatten by rw [hnil]; simp]
      exact h2
    · show roomB (FTs l).length 56
      rw [FTs_length]; exact roomI (by omega)
    · have h2 := l_cat3 b (a ++ [l]) l (by omega) (by rw [ap]; exact hl)
      rw [ap, nx] at h2
      show RPt _ _ _ _ _ _ ⟨[(6, (.c (.a (.osl 0 4 0 (FTs l).length)))), _, _, _], [(0, .arz 4 (FTs l))], 1⟩
      rw [FTs_length, List.flatten_cons]
      exact h2
theorem l_cat1 : ∀ (b a : List (List Tm)), total (a ++ b) ≤ 2199023255552 → (a ++ b).length ≤ B →
    RPt Try.prog 31 0 (aL (a ++ b).flatten) [] 1 ⟨[(0, aLs (a ++ b)), (3, ci (total a)), (9, aLs (a ++ b)), (10, ci (a ++ b).length), (11, ci a.length)], [], 0⟩
  | [], a, ht, hl => by
    refine RPt.vc hP sh lv31 (Eq.mpr (v31_1a ..) ?_)
    have hg := c_grow (total a : Int) (by omega) (by simp only [List.append_nil] at ht; omega)
    refine br_of (fun h => absurd (of_decide_eq_true h) (by simp)) (fun _ => ?_)
    have e : (((FLs (a ++ [])).length : Nat) : Int) = (((a ++ []).length : Nat) : Int) := by rw [FLs_length]
    rw [e]
    by_cases hz : total a = 0
    · have h2 := l_cat2 (a ++ []) [] (by simpa using ht) (by simpa using hl)
      exact .inl ⟨(), hg.1 (by omega), rfl, by simpa using h2⟩
    · have h2 := l_cat3 (a ++ []) [] [] (by simpa using ht) (by simpa using hl)
      exact .inr ⟨(), hg.2 (by omega), rfl, by simpa [FTs] using h2⟩
  | l :: b, a, ht, hl => by
    refine RPt.vc hP sh lv31 (Eq.mpr (v31_1a ..) ?_)
    have hl' := hl
    have ht' := ht
    have h3 := ltL a l b
    rw [total_mid] at ht'
    simp only [List.length_append, List.length_cons, B] at hl'
    have h2 := l_cat1 b (a ++ [l]) (by rw [ap]; exact ht) (by rw [ap]; exact hl)
    rw [ap, nx, total_snoc] at h2
    rw [midL, w64 (x := (a.length : Int) + 1) (by omega) (by omega)]
    refine br_of (fun _ => ⟨⟨rfl, by omega, h3, rfl⟩, rfl, ?_⟩) (fun h => absurd (ltI a l b) (of_decide_eq_false h))
    show br (decide (IntKind.wrap .i64 ((total a : Int) + (((FTs l).length : Nat) : Int)) < 0)) _ (RPt _ _ _ _ _ _ ⟨[_, (3, ci (IntKind.wrap .i64 ((total a : Int) + (((FTs l).length : Nat) : Int)))), _, _, _], _, _⟩)
    rw [FTs_length, w64 (by omega) (by omega)]
    refine br_of (fun h => absurd (of_decide_eq_true h) (by omega)) (fun _ => ?_)
    simpa using h2
theorem c_concat (ls : List (List Tm)) (ht : total ls ≤ 2199023255552) (hl : ls.length ≤ B) : AC Try.prog 31 [aLs ls] [] (aL ls.flatten) [] := by
  refine AC.vc hP sh lv31 (Nat.le_refl _) (by simp) (by simp) (Eq.mpr (v31 ..) ?_)
  have := l_cat1 ls [] (by simpa using ht) (by simpa using hl)
  have e : (((FLs ls).length : Nat) : Int) = ((ls.length : Nat) : Int) := by rw [FLs_length]
  rw [e]
  exact ⟨rfl, by simpa [total] using this⟩
/-- Two rows, each as it may come. -/
theorem c_concat2 {x y : FV} {l m : List Tm} (hx : FV.Le x (.sl false 4 (FTs l))) (hy : FV.Le y (.sl false 4 (FTs m))) (ht : l.length + m.length ≤ 2199023255552) : AC Try.prog 31 [.c (.a (.fz (.sl false 1 [[x], [y]])))] [] (aL (l ++ m)) [] := by
  have h := c_concat [l, m] (by simpa [total] using ht) (by simp [B])
  rw [show [l, m].flatten = l ++ m by simp] at h
  refine h.args ⟨le_c (.trans _ _ _ (.rows false 1 _ (FLs [l, m]) rfl (fun i e e' he he' => ?_) (fun i j e e' f f' he he' hf hf' => ?_)) (.nn _ _ _)), trivial⟩
  · match i, he, he' with
    | 0, he, he' => simp [FLs] at he he'; subst he; subst he'; rfl
    | 1, he, he' => simp [FLs] at he he'; subst he; subst he'; rfl
    | i + 2, he, he' => simp at he
  · match i, he, he' with
    | 0, he, he' =>
      simp [FLs] at he he'; subst he; subst he'
      match j, hf, hf' with
      | 0, hf, hf' => simp at hf hf'; subst hf; subst hf'; exact hx
      | j + 1, hf, hf' => simp at hf
    | 1, he, he' =>
      simp [FLs] at he he'; subst he; subst he'
      match j, hf, hf' with
      | 0, hf, hf' => simp at hf hf'; subst hf; subst hf'; exact hy
      | j + 1, hf, hf' => simp at hf
    | i + 2, he, he' => simp at he
/-- Applied. -/
def applyF (f : Tm) (args : List Tm) : Tm :=
  match args with
  | [] => f
  | _ => if (f.k == 6) = true ∧ f.l ≠ [] then .mk 6 [] 0 (f.l ++ args) else .mk 6 [] 0 (f :: args)
theorem c_apply (f : Tm) (args : List Tm) (h : f.l.length + args.length < 2199023255552) : AC Try.prog 16 [aT f, aL args] [] (aT (applyF f args)) [] := by
  obtain ⟨k, s, n, l⟩ := f
  simp only [Tm.l] at h
  refine AC.vc hP sh lv16 (Nat.le_refl _) (by simp) (by simp) (Eq.mpr (v16 k s n (FTs l) (FTs args) _ _) ?_)
  refine ⟨rfl, br_of (fun h1 => ?_) (fun h1 => ?_)⟩
  · have : args = [] := by cases args with
      | nil => rfl
      | cons x l => simp [FTs] at h1; omega
    subst this
    exact ret_r (.refl _)
  · match args, h1, h with
    | [], h1, _ => simp [FTs] at h1
    | a :: r, h1, h =>
      have one : FV.Le (.sl false 4 [[.int .i64 k, .str s, .int .i64 n, .sl false 4 (FTs l)]]) (.sl false 4 (FTs [.mk k s n l])) := .nn _ _ _
      have same : ∀ l : List Tm, FV.Le (.sl false 4 (FTs l)) (.sl false 4 (FTs l)) := fun _ => .refl _
      refine br_of (fun h2 => ⟨rfl, br_of (fun h3 => ⟨⟨rfl, by omega⟩, _, c_concat2 (same l) (same (a :: r)) (by omega), ret_r ?_⟩) (fun h3 => ⟨⟨rfl, by omega⟩, ⟨rfl, by omega⟩, _, c_concat2 one (same (a :: r)) (by simp only [List.length_cons, List.length_nil] at h ⊢; omega), ret_r ?_⟩)⟩)
        (fun h2 => ⟨⟨rfl, by omega⟩, ⟨rfl, by omega⟩, _, c_concat2 one (same (a :: r)) (by simp only [List.length_cons, List.length_nil] at h ⊢; omega), ret_r ?_⟩)
      · have hl : l ≠ [] := by intro e; subst e; simp [FTs] at h3
        rw [show applyF (.mk k s n l) (a :: r) = .mk 6 [] 0 (l ++ a :: r) from if_pos ⟨h2, hl⟩]
        exact .refl _
      · have hl : l = [] := by cases l with
          | nil => rfl
          | cons x l => simp [FTs] at h3
        rw [show applyF (.mk k s n l) (a :: r) = .mk 6 [] 0 (.mk k s n l :: a :: r) from if_neg (fun e => e.2 hl)]
        exact .refl _
      · rw [show applyF (.mk k s n l) (a :: r) = .mk 6 [] 0 (.mk k s n l :: a :: r) from if_neg (fun e => by have := e.1; simp only [Tm.k, h2] at this; cases this)]
        exact .refl _

end Go.AM

set_option maxRecDepth 100000
open Go Go.Proofs
namespace Go.AM


/-! ### Through a term -/
def withF (t : Tm) (out : List Tm) : Tm :=
  if (t.k == 6) = true ∧ 1 < out.length ∧ ((out.headD default).k == 6) = true ∧ ((t.l.headD default).k != 6) = true then applyF (out.headD default) out.tail else .mk t.k t.s t.n out
mutual
def walkF (lf : Tm → Int → Tm) : Tm → Int → Tm
  | .mk k s n l, d => if (k == 5 || k == 6) = true then withF (.mk k s n l) (walkL lf l (d + if (k == 5) = true then 1 else 0)) else lf (.mk k s n l) d
def walkL (lf : Tm → Int → Tm) : List Tm → Int → List Tm
  | [], _ => []
  | t :: l, d => walkF lf t d :: walkL lf l d
end


/-! walk.term for Sh -/
abbrev cloSh : TV := .agg [.fn (.func 67) [] [(false, [.ep 0 1 0 0]), (false, [.ep 1 1 0 0])]]
abbrev stSh (fr by1 : Int) (k by_ : Int) (kd : Int) (s : List UInt8) (n : Int) (l : List Tm) (w : AV) (i : Nat) (h : AHeap) (nx : Nat) : St :=
  ⟨[(2, ci k), (3, .c (.a (.ep 2 1 0 0))), (4, .c (.a (.ep 3 4 0 0))), (6, .c (.a (.ep 4 4 0 0))), (7, aL l), (8, ci by_), (9, .c (.a w)), (30, aL l), (31, ci l.length), (32, ci i)],
   [(0, (obj1 fr)), (1, (obj1 by1)), (2, .arr 1 [[.fn (.func 67) [] [(false, [.ep 0 1 0 0]), (false, [.ep 1 1 0 0])]]]), (3, .arr 4 [fzs (FT (.mk kd s n l))]), (4, .arr 4 [[.a (.fz (.int .i64 0)), .a (.fz (.str [])), .a (.fz (.int .i64 0)), .a (.fz .nils)]])] ++ h, nx⟩
theorem l_w2Sh (fr by1 : Int) (lf : Tm → Int → Tm) (k by_ : Int) (h0 : 0 ≤ k) (hk : k ≤ 2305843009213693952) (hb0 : 0 ≤ by_) (hb1 : by_ ≤ 1) (kd : Int) (s : List UInt8) (n : Int) (hin : (kd == 5 || kd == 6) = true) :
    ∀ (b a acc : List Tm), acc ≠ [] → acc.length = a.length → (a ++ b).length ≤ B → (∀ u ∈ acc ++ walkL lf b (k + by_), u.l.length ≤ 2 * B) →
    (∀ u ∈ b, AC Try.prog 66 [cloSh, aT u, ci (k + by_)] [(obj1 fr), (obj1 by1)] (aT (walkF lf u (k + by_))) [(obj1 fr), (obj1 by1)]) →
    RPt Try.prog 66 2 (aT (withF (.mk kd s n (a ++ b)) (acc ++ walkL lf b (k + by_)))) [(obj1 fr), (obj1 by1)] 1 (stSh fr by1 k by_ kd s n (a ++ b) (.osl 5 4 0 acc.length) a.length [(5, .arz 4 (FTs acc))] 6)
  | [], a, acc, hne, hlen, hl, hw, _ => by
    refine RPt.vc hP sh lv66 (Eq.mpr (v66_F67_1b ..) ?_)
    match acc, a, hne, hlen with
    | o :: r, u :: a', _, hlen =>
    have e1 : List.take (o :: r).length (List.drop 0 (FTs (o :: r))) = FTs (o :: r) := by rw [List.drop_zero, List.take_of_length_le (by rw [FTs_length]; omega)]
    have e2 : (0 : Nat) + (o :: r).length ≤ (FTs (o :: r)).length := by rw [FTs_length]; omega
    have hrest : ∀ (k' : Int) (s' : List UInt8) (n' : Int), TV.Le (.agg [.a (.fz (.int .i64 k')), .a (.fz (.str s')), .a (.fz (.int .i64 n')), .a (.fz (.sl false 4 (List.take (o :: r).length (List.drop 0 (FTs (o :: r))))))]) (aT (.mk k' s' n' (o :: r))) := fun k' s' n' => by rw [e1]; exact leT leSl
    refine br_of (fun h => absurd (of_decide_eq_true h) (by simp)) (fun _ => br_of (fun h6 => br_of (fun h1 => ⟨⟨by omega, by simp⟩, ⟨by rw [FTs_length]; simp, by cases o; rfl, rfl⟩, br_of (fun ho => ⟨⟨rfl, by omega, by rw [List.append_nil]; show (0 : Int) < (((FTs (u :: a')).length : Nat) : Int); rw [FTs_length]; simp, by cases u; rfl⟩, br_of (fun hu => ?_) (fun hu => ⟨⟨rfl, e2⟩, ?_, rfl⟩)⟩) (fun ho => ⟨⟨rfl, e2⟩, ?_, rfl⟩)⟩) (fun h1 => ⟨⟨rfl, e2⟩, ?_, rfl⟩)) (fun h6 => ⟨⟨rfl, e2⟩, ?_, rfl⟩))
    · -- flat
      have hap := c_apply o r (by
        have := hw o (by simp)
        simp only [List.length_cons, List.length_append, List.length_nil, B] at hl hlen this ⊢; omega)
      have e3 : withF (.mk kd s n (u :: a' ++ [])) (o :: r ++ walkL lf [] (k + by_)) = applyF o r := by
        have c1 : 1 < (o :: r ++ walkL lf [] (k + by_)).length := by have := of_decide_eq_true h1; simp only [walkL, List.append_nil]; omega
        have c2 : (o.k == 6) = true := by cases o; exact ho
        have c3 : (u.k != 6) = true := by cases u; exact hu
        unfold withF
        rw [if_pos ⟨h6, c1, c2, c3⟩]
        simp [walkL]
      have e4 : List.take (Int.toNat ((o :: r).length : Int) - 1) (List.drop 1 (FTs (o :: r))) = FTs r := by
        rw [show Int.toNat ((o :: r).length : Int) - 1 = r.length by simp only [List.length_cons]; omega]
        show List.take r.length (FTs r) = FTs r
        rw [List.take_of_length_le (by rw [FTs_length]; omega)]
      have e5 : (1 : Nat) + (Int.toNat ((o :: r).length : Int) - 1) ≤ (FTs (o :: r)).length := by rw [FTs_length]; simp only [List.length_cons]; omega
      rw [e3]
      refine ⟨⟨by omega, by simp⟩, ⟨by rw [FTs_length]; simp, by cases o; rfl, rfl⟩, ⟨by omega, by simp; omega, by omega⟩, ⟨rfl, e5⟩, ?_⟩
      rw [e4]
      obtain ⟨k1, s1, n1, l1⟩ := o
      exact ⟨_, hap.args ⟨.refl _, le_c leSl, trivial⟩, .refl _, rfl⟩
    · have e3 : withF (.mk kd s n (u :: a' ++ [])) (o :: r ++ walkL lf [] (k + by_)) = .mk kd s n (o :: r) := by
        simp only [walkL, List.append_nil]
        exact if_neg fun e => by
          have hu' : (u.k != 6) = false := by cases u; exact hu
          have : (u.k != 6) = true := e.2.2.2
          rw [hu'] at this; cases this
      rw [e3]; exact hrest _ _ _
    · have e3 : withF (.mk kd s n (u :: a' ++ [])) (o :: r ++ walkL lf [] (k + by_)) = .mk kd s n (o :: r) := by
        simp only [walkL, List.append_nil]
        exact if_neg fun e => by
          have ho' : (o.k == 6) = false := by cases o; exact ho
          have : (o.k == 6) = true := e.2.2.1
          rw [ho'] at this; cases this
      rw [e3]; exact hrest _ _ _
    · have e3 : withF (.mk kd s n (u :: a' ++ [])) (o :: r ++ walkL lf [] (k + by_)) = .mk kd s n (o :: r) := by
        simp only [walkL, List.append_nil]
        exact if_neg fun e => by have := e.2.1; have := of_decide_eq_false h1; omega
      rw [e3]; exact hrest _ _ _
    · have e3 : withF (.mk kd s n (u :: a' ++ [])) (o :: r ++ walkL lf [] (k + by_)) = .mk kd s n (o :: r) := by
        simp only [walkL, List.append_nil]
        exact if_neg fun e => by
          have h6' : (kd == 6) = false := h6
          have : (kd == 6) = true := e.1
          rw [h6'] at this; cases this
      rw [e3]; exact hrest _ _ _
  | t :: b, a, acc, hne, hlen, hl, hw, ih => by
    refine RPt.vc hP sh lv66 (Eq.mpr (v66_F67_1b ..) ?_)
    have hl' := hl
    simp only [List.length_append, List.length_cons, B] at hl'
    have h1 := ih t List.mem_cons_self
    have h2 := l_w2Sh fr by1 lf k by_ h0 hk hb0 hb1 kd s n hin b (a ++ [t]) (acc ++ [walkF lf t (k + by_)]) (by simp) (by simp [hlen]) (by rw [ap]; exact hl)
      (by rw [List.append_assoc]; simpa [walkL] using hw) (fun u hu => ih u (List.mem_cons_of_mem _ hu))
    have h3 := ltI' a t b
    unfold stSh at h2
    rw [ap, show (((a ++ [t]).length : Nat) : Int) = (a.length : Int) + 1 from nx a t] at h2
    show br (decide ((a.length : Int) < (((a ++ t :: b).length : Nat) : Int))) ((FV.isSl 4 (.sl false 4 (FTs (a ++ t :: b))) = true ∧ _ ∧ _ ∧ _) ∧ _) _
    refine br_of (fun _ => ?_) (fun h => absurd (ltI a t b) (of_decide_eq_false h))
    have hm := midI a t b
    rw [show FV.ses (.sl false 4 (FTs (a ++ t :: b))) = FTs (a ++ t :: b) from rfl, hm, w64 (x := (a.length : Int) + 1) (by omega) (by omega), w64 (x := k + by_) (by omega) (by omega)]
    obtain ⟨k', s', n', l'⟩ := t
    refine ⟨⟨rfl, by omega, h3, rfl⟩, _, h1, Nat.le_refl _, ⟨by rw [FTs_length]; omega, roomI (by omega)⟩, ?_⟩
    have e5 : List.take acc.length (FTs acc) ++ FTs [walkF lf (.mk k' s' n' l') (k + by_)] = FTs (acc ++ [walkF lf (.mk k' s' n' l') (k + by_)]) := by rw [List.take_of_length_le (by rw [FTs_length]; omega), ← FTs_append]
    have e6 : FTs [walkF lf (.mk k' s' n' l') (k + by_)] = [[.int .i64 (walkF lf (.mk k' s' n' l') (k + by_)).k, .str (walkF lf (.mk k' s' n' l') (k + by_)).s, .int .i64 (walkF lf (.mk k' s' n' l') (k + by_)).n, .sl false 4 (FTs (walkF lf (.mk k' s' n' l') (k + by_)).l)]] := by
      rw [FTs, FTs, FT_eta]
    rw [e6] at e5
    rw [e5]
    rw [show acc ++ walkL lf (.mk k' s' n' l' :: b) (k + by_) = acc ++ walkF lf (.mk k' s' n' l') (k + by_) :: walkL lf b (k + by_) by simp [walkL]]
    rw [show (acc ++ [walkF lf (.mk k' s' n' l') (k + by_)]).length = acc.length + 1 by simp, List.append_assoc] at h2
    exact h2
theorem l_w1Sh (fr by1 : Int) (lf : Tm → Int → Tm) (k by_ : Int) (h0 : 0 ≤ k) (hk : k ≤ 2305843009213693952) (hb0 : 0 ≤ by_) (hb1 : by_ ≤ 1) (kd : Int) (s : List UInt8) (n : Int) (hin : (kd == 5 || kd == 6) = true) :
    ∀ (b : List Tm), b.length ≤ B → (∀ u ∈ walkL lf b (k + by_), u.l.length ≤ 2 * B) →
    (∀ u ∈ b, AC Try.prog 66 [cloSh, aT u, ci (k + by_)] [(obj1 fr), (obj1 by1)] (aT (walkF lf u (k + by_))) [(obj1 fr), (obj1 by1)]) →
    RPt Try.prog 66 2 (aT (withF (.mk kd s n b) (walkL lf b (k + by_)))) [(obj1 fr), (obj1 by1)] 1 (stSh fr by1 k by_ kd s n b (.fz .nils) 0 [] 5)
  | [], hl, hw, _ => by
    refine RPt.vc hP sh lv66 (Eq.mpr (v66_F67_1a ..) ?_)
    have e : withF (.mk kd s n []) (walkL lf [] (k + by_)) = .mk kd s n [] := if_neg fun e => by have := e.2.1; simp [walkL] at this
    rw [e]
    exact br_of (fun h => absurd (of_decide_eq_true h) (by simp)) (fun _ => br_of (fun _ => ⟨rfl, leT leNil, rfl⟩) (fun _ => ⟨leT leNil, rfl⟩))
  | t :: b, hl, hw, ih => by
    refine RPt.vc hP sh lv66 (Eq.mpr (v66_F67_1a ..) ?_)
    have hl' := hl
    simp only [List.length_cons, B] at hl'
    have h1 := ih t List.mem_cons_self
    have h2 := l_w2Sh fr by1 lf k by_ h0 hk hb0 hb1 kd s n hin b [t] [walkF lf t (k + by_)] (by simp) rfl (by simpa using hl) (by simpa [walkL] using hw) (fun u hu => ih u (List.mem_cons_of_mem _ hu))
    show br (decide ((0 : Int) < (((t :: b).length : Nat) : Int))) ((FV.isSl 4 (.sl false 4 (FTs (t :: b))) = true ∧ _ ∧ _ ∧ _) ∧ _) _
    refine br_of (fun _ => ?_) (fun h => absurd (of_decide_eq_false h) (by simp))
    rw [show FV.ses (.sl false 4 (FTs (t :: b))) = FTs (t :: b) from rfl, show List.getD (FTs (t :: b)) (Int.toNat ((0 : Nat) : Int)) [] = FT t from rfl, w64 (x := k + by_) (by omega) (by omega), w64 (x := ((0 : Nat) : Int) + 1) (by omega) (by omega)]
    obtain ⟨k', s', n', l'⟩ := t
    have h3 : (0 : Int) < (((FTs (.mk k' s' n' l' :: b)).length : Nat) : Int) := by rw [FTs_length]; simp
    refine ⟨⟨rfl, by omega, h3, rfl⟩, _, h1, Nat.le_refl _, roomI (by omega), ?_⟩
    have e6 : FTs [walkF lf (.mk k' s' n' l') (k + by_)] = [[.int .i64 (walkF lf (.mk k' s' n' l') (k + by_)).k, .str (walkF lf (.mk k' s' n' l') (k + by_)).s, .int .i64 (walkF lf (.mk k' s' n' l') (k + by_)).n, .sl false 4 (FTs (walkF lf (.mk k' s' n' l') (k + by_)).l)]] := by
      rw [FTs, FTs, FT_eta]
    unfold stSh at h2
    rw [e6] at h2
    exact h2
/-- THE CONTRACT: from the leaf function's. -/
theorem c_wSh (fr by1 : Int) (lf : Tm → Int → Tm) (Q : Tm → Int → Prop)
    (hq : ∀ (kd : Int) (s : List UInt8) (n : Int) (l : List Tm) (d : Int), Q (.mk kd s n l) d → (kd == 5 || kd == 6) = true → ∀ u ∈ l, Q u (d + if (kd == 5) = true then 1 else 0))
    (hleaf : ∀ (u : Tm) (d : Int), (u.k == 5 || u.k == 6) = false → Q u d → 0 ≤ d → d ≤ 2305843009213693952 → AC Try.prog 67 [aT u, ci d, .c (.a (.ep 0 1 0 0)), .c (.a (.ep 1 1 0 0))] [(obj1 fr), (obj1 by1)] (aT (lf u d)) [(obj1 fr), (obj1 by1)])
    (hwid : ∀ (u : Tm) (d : Int), Q u d → (walkF lf u d).l.length ≤ 2 * B) :
    ∀ t : Tm, t.sz ≤ B → ∀ k : Int, Q t k → 0 ≤ k → k + t.sz ≤ 2305843009213693952 → AC Try.prog 66 [cloSh, aT t, ci k] [(obj1 fr), (obj1 by1)] (aT (walkF lf t k)) [(obj1 fr), (obj1 by1)] := by
  refine Tm.ind fun t ih hs k hQ h0 h1 => ?_
  have hlen := Tm.szs_length t.l
  obtain ⟨kd, s, n, l⟩ := t
  simp only [Tm.sz, B, Tm.l] at hs hlen
  simp only [Tm.sz] at h1
  have key : ∀ by_ : Int, 0 ≤ by_ → by_ ≤ 1 → (by_ = if (kd == 5) = true then 1 else 0) → (hin : (kd == 5 || kd == 6) = true) → RPt Try.prog 66 2 (aT (walkF lf (.mk kd s n l) k)) [(obj1 fr), (obj1 by1)] 1 (stSh fr by1 k by_ kd s n l (.fz .nils) 0 [] 5) := by
    intro by_ hb0 hb1 hby hin
    have hQ' := hq kd s n l k hQ hin
    rw [← hby] at hQ'
    have := l_w1Sh fr by1 lf k by_ h0 (by omega) hb0 hb1 kd s n hin l (by simp only [B]; omega) (fun u hu => by
      have : ∀ {m : List Tm}, (∀ v ∈ m, Q v (k + by_)) → ∀ u ∈ walkL lf m (k + by_), u.l.length ≤ 2 * B := by
        intro m
        induction m with
        | nil => intro _ u hu; simp [walkL] at hu
        | cons v m ihm =>
          intro hm u hu
          simp only [walkL, List.mem_cons] at hu
          rcases hu with rfl | hu
          · exact hwid v _ (hm v List.mem_cons_self)
          · exact ihm (fun x hx => hm x (List.mem_cons_of_mem _ hx)) u hu
      exact this hQ' u hu) (fun u hu => ih u hu (by have := Tm.szs_mem hu; simp only [B]; omega) (k + by_) (hQ' u hu) (by omega) (by have := Tm.szs_mem hu; omega))
    rw [walkF, if_pos hin, ← hby]
    exact this
  refine AC.vc hP sh lv66 (Nat.le_refl _) (by simp [isLive]) (by simp) (Eq.mpr (v66_F67 kd s n (FTs l) k fr by1 _ _) ?_)
  have wi : (kd == 5 || kd == 6) = true → AC Try.prog 62 [aT (.mk kd s n l)] [] (.tup [(false, [.a (.fz (.sl false 4 (FTs l)))]), (false, [.a (.fz (.int .i64 (if (kd == 5) = true then 1 else 0)))])]) [] := fun hin => by
    have hw := c_within (.mk kd s n l)
    rw [show kidsV (.mk kd s n l) = .sl false 4 (FTs l) from if_pos hin] at hw
    exact hw
  refine br_of (fun h => br_of (fun h2 => ?_) (fun h2 => ?_)) (fun h => ?_)
  · have e1 : (kd == 5) = false := by simpa using h
    have e2 : (kd == 6) = false := by simpa using h2
    have e : (kd == 5 || kd == 6) = false := by rw [e1, e2]; rfl
    have hl := hleaf (.mk kd s n l) k e hQ h0 (by omega)
    rw [show walkF lf (.mk kd s n l) k = lf (.mk kd s n l) k by rw [walkF, if_neg (by rw [e]; simp)]]
    exact ⟨_, hl, .refl _, rfl⟩
  · have e1 : (kd == 5) = false := by simpa using h
    have e2 : (kd == 6) = true := by simpa using h2
    have hin : (kd == 5 || kd == 6) = true := by rw [e1, e2]; rfl
    have hk := key 0 (by omega) (by omega) (by rw [e1]; rfl) hin
    have hw := wi hin
    rw [e1] at hw
    refine ⟨_, _, hw, rfl, ?_⟩
    show RPt _ _ _ _ _ _ ⟨[_, _, _, _, _, _, _, _, (31, ci (((FTs l).length : Nat) : Int)), _], _, _⟩
    rw [FTs_length]
    exact hk
  · have e1 : (kd == 5) = true := by simpa using h
    have hin : (kd == 5 || kd == 6) = true := by rw [e1]; rfl
    have hk := key 1 (by omega) (by omega) (by rw [e1]; rfl) hin
    have hw := wi hin
    rw [e1] at hw
    refine ⟨_, _, hw, rfl, ?_⟩
    show RPt _ _ _ _ _ _ ⟨[_, _, _, _, _, _, _, _, (31, ci (((FTs l).length : Nat) : Int)), _], _, _⟩
    rw [FTs_length]
    exact hk


/-! walk.term for Su -/
abbrev cloSu : TV := .agg [.fn (.func 63) [] [(false, [.ep 0 1 0 0]), (false, [.ep 1 4 0 0])]]
abbrev stSu (ix : Int) (sk : Int) (ss : List UInt8) (sn : Int) (sl : List Tm) (k by_ : Int) (kd : Int) (s : List UInt8) (n : Int) (l : List Tm) (w : AV) (i : Nat) (h : AHeap) (nx : Nat) : St :=
  ⟨[(2, ci k), (3, .c (.a (.ep 2 1 0 0))), (4, .c (.a (.ep 3 4 0 0))), (6, .c (.a (.ep 4 4 0 0))), (7, aL l), (8, ci by_), (9, .c (.a w)), (30, aL l), (31, ci l.length), (32, ci i)],
   [(0, (obj1 ix)), (1, (.arr 4 [fzs (FT (.mk sk ss sn sl))])), (2, .arr 1 [[.fn (.func 63) [] [(false, [.ep 0 1 0 0]), (false, [.ep 1 4 0 0])]]]), (3, .arr 4 [fzs (FT (.mk kd s n l))]), (4, .arr 4 [[.a (.fz (.int .i64 0)), .a (.fz (.str [])), .a (.fz (.int .i64 0)), .a (.fz .nils)]])] ++ h, nx⟩
theorem l_w2Su (ix : Int) (sk : Int) (ss : List UInt8) (sn : Int) (sl : List Tm) (lf : Tm → Int → Tm) (k by_ : Int) (h0 : 0 ≤ k) (hk : k ≤ 2305843009213693952) (hb0 : 0 ≤ by_) (hb1 : by_ ≤ 1) (kd : Int) (s : List UInt8) (n : Int) (hin : (kd == 5 || kd == 6) = true) :
    ∀ (b a acc : List Tm), acc ≠ [] → acc.length = a.length → (a ++ b).length ≤ B → (∀ u ∈ acc ++ walkL lf b (k + by_), u.l.length ≤ 2 * B) →
    (∀ u ∈ b, AC Try.prog 66 [cloSu, aT u, ci (k + by_)] [(obj1 ix), (.arr 4 [fzs (FT (.mk sk ss sn sl))])] (aT (walkF lf u (k + by_))) [(obj1 ix), (.arr 4 [fzs (FT (.mk sk ss sn sl))])]) →
    RPt Try.prog 66 2 (aT (withF (.mk kd s n (a ++ b)) (acc ++ walkL lf b (k + by_)))) [(obj1 ix), (.arr 4 [fzs (FT (.mk sk ss sn sl))])] 1 (stSu ix sk ss sn sl k by_ kd s n (a ++ b) (.osl 5 4 0 acc.length) a.length [(5, .arz 4 (FTs acc))] 6)
  | [], a, acc, hne, hlen, hl, hw, _ => by
    refine RPt.vc hP sh lv66 (Eq.mpr (v66_F63_1b ..) ?_)
    match acc, a, hne, hlen with
    | o :: r, u :: a', _, hlen =>
    have e1 : List.take (o :: r).length (List.drop 0 (FTs (o :: r))) = FTs (o :: r) := by rw [List.drop_zero, List.take_of_length_le (by rw [FTs_length]; omega)]
    have e2 : (0 : Nat) + (o :: r).length ≤ (FTs (o :: r)).length := by rw [FTs_length]; omega
    have hrest : ∀ (k' : Int) (s' : List UInt8) (n' : Int), TV.Le (.agg [.a (.fz (.int .i64 k')), .a (.fz (.str s')), .a (.fz (.int .i64 n')), .a (.fz (.sl false 4 (List.take (o :: r).length (List.drop 0 (FTs (o :: r))))))]) (aT (.mk k' s' n' (o :: r))) := fun k' s' n' => by rw [e1]; exact leT leSl
    refine br_of (fun h => absurd (of_decide_eq_true h) (by simp)) (fun _ => br_of (fun h6 => br_of (fun h1 => ⟨⟨by omega, by simp⟩, ⟨by rw [FTs_length]; simp, by cases o; rfl, rfl⟩, br_of (fun ho => ⟨⟨rfl, by omega, by rw [List.append_nil]; show (0 : Int) < (((FTs (u :: a')).length : Nat) : Int); rw [FTs_length]; simp, by cases u; rfl⟩, br_of (fun hu => ?_) (fun hu => ⟨⟨rfl, e2⟩, ?_, rfl⟩)⟩) (fun ho => ⟨⟨rfl, e2⟩, ?_, rfl⟩)⟩) (fun h1 => ⟨⟨rfl, e2⟩, ?_, rfl⟩)) (fun h6 => ⟨⟨rfl, e2⟩, ?_, rfl⟩))
    · -- flat
      have hap := c_apply o r (by
        have := hw o (by simp)
        simp only [List.length_cons, List.length_append, List.length_nil, B] at hl hlen this ⊢; omega)
      have e3 : withF (.mk kd s n (u :: a' ++ [])) (o :: r ++ walkL lf [] (k + by_)) = applyF o r := by
        have c1 : 1 < (o :: r ++ walkL lf [] (k + by_)).length := by have := of_decide_eq_true h1; simp only [walkL, List.append_nil]; omega
        have c2 : (o.k == 6) = true := by cases o; exact ho
        have c3 : (u.k != 6) = true := by cases u; exact hu
        unfold withF
        rw [if_pos ⟨h6, c1, c2, c3⟩]
        simp [walkL]
      have e4 : List.take (Int.toNat ((o :: r).length : Int) - 1) (List.drop 1 (FTs (o :: r))) = FTs r := by
        rw [show Int.toNat ((o :: r).length : Int) - 1 = r.length by simp only [List.length_cons]; omega]
        show List.take r.length (FTs r) = FTs r
        rw [List.take_of_length_le (by rw [FTs_length]; omega)]
      have e5 : (1 : Nat) + (Int.toNat ((o :: r).length : Int) - 1) ≤ (FTs (o :: r)).length := by rw [FTs_length]; simp only [List.length_cons]; omega
      rw [e3]
      refine ⟨⟨by omega, by simp⟩, ⟨by rw [FTs_length]; simp, by cases o; rfl, rfl⟩, ⟨by omega, by simp; omega, by omega⟩, ⟨rfl, e5⟩, ?_⟩
      rw [e4]
      obtain ⟨k1, s1, n1, l1⟩ := o
      exact ⟨_, hap.args ⟨.refl _, le_c leSl, trivial⟩, .refl _, rfl⟩
    · have e3 : withF (.mk kd s n (u :: a' ++ [])) (o :: r ++ walkL lf [] (k + by_)) = .mk kd s n (o :: r) := by
        simp only [walkL, List.append_nil]
        exact if_neg fun e => by
          have hu' : (u.k != 6) = false := by cases u; exact hu
          have : (u.k != 6) = true := e.2.2.2
          rw [hu'] at this; cases this
      rw [e3]; exact hrest _ _ _
    · have e3 : withF (.mk kd s n (u :: a' ++ [])) (o :: r ++ walkL lf [] (k + by_)) = .mk kd s n (o :: r) := by
        simp only [walkL, List.append_nil]
        exact if_neg fun e => by
          have ho' : (o.k == 6) = false := by cases o; exact ho
          have : (o.k == 6) = true := e.2.2.1
          rw [ho'] at this; cases this
      rw [e3]; exact hrest _ _ _
    · have e3 : withF (.mk kd s n (u :: a' ++ [])) (o :: r ++ walkL lf [] (k + by_)) = .mk kd s n (o :: r) := by
        simp only [walkL, List.append_nil]
        exact if_neg fun e => by have := e.2.1; have := of_decide_eq_false h1; omega
      rw [e3]; exact hrest _ _ _
    · have e3 : withF (.mk kd s n (u :: a' ++ [])) (o :: r ++ walkL lf [] (k + by_)) = .mk kd s n (o :: r) := by
        simp only [walkL, List.append_nil]
        exact if_neg fun e => by
          have h6' : (kd == 6) = false := h6
          have : (kd == 6) = true := e.1
          rw [h6'] at this; cases this
      rw [e3]; exact hrest _ _ _
  | t :: b, a, acc, hne, hlen, hl, hw, ih => by
    refine RPt.vc hP sh lv66 (Eq.mpr (v66_F63_1b ..) ?_)
    have hl' := hl
    simp only [List.length_append, List.length_cons, B] at hl'
    have h1 := ih t List.mem_cons_self
    have h2 := l_w2Su ix sk ss sn sl lf k by_ h0 hk hb0 hb1 kd s n hin b (a ++ [t]) (acc ++ [walkF lf t (k + by_)]) (by simp) (by simp [hlen]) (by rw [ap]; exact hl)
      (by rw [List.append_assoc]; simpa [walkL] using hw) (fun u hu => ih u (List.mem_cons_of_mem _ hu))
    have h3 := ltI' a t b
    unfold stSu at h2
    rw [ap, show (((a ++ [t]).length : Nat) : Int) = (a.length : Int) + 1 from nx a t] at h2
    show br (decide ((a.length : Int) < (((a ++ t :: b).length : Nat) : Int))) ((FV.isSl 4 (.sl false 4 (FTs (a ++ t :: b))) = true ∧ _ ∧ _ ∧ _) ∧ _) _
    refine br_of (fun _ => ?_) (fun h => absurd (ltI a t b) (of_decide_eq_false h))
    have hm := midI a t b
    rw [show FV.ses (.sl false 4 (FTs (a ++ t :: b))) = FTs (a ++ t :: b) from rfl, hm, w64 (x := (a.length : Int) + 1) (by omega) (by omega), w64 (x := k + by_) (by omega) (by omega)]
    obtain ⟨k', s', n', l'⟩ := t
    refine ⟨⟨rfl, by omega, h3, rfl⟩, _, h1, Nat.le_refl _, ⟨by rw [FTs_length]; omega, roomI (by omega)⟩, ?_⟩
    have e5 : List.take acc.length (FTs acc) ++ FTs [walkF lf (.mk k' s' n' l') (k + by_)] = FTs (acc ++ [walkF lf (.mk k' s' n' l') (k + by_)]) := by rw [List.take_of_length_le (by rw [FTs_length]; omega), ← FTs_append]
    have e6 : FTs [walkF lf (.mk k' s' n' l') (k + by_)] = [[.int .i64 (walkF lf (.mk k' s' n' l') (k + by_)).k, .str (walkF lf (.mk k' s' n' l') (k + by_)).s, .int .i64 (walkF lf (.mk k' s' n' l') (k + by_)).n, .sl false 4 (FTs (walkF lf (.mk k' s' n' l') (k + by_)).l)]] := by
      rw [FTs, FTs, FT_eta]
    rw [e6] at e5
    rw [e5]
    rw [show acc ++ walkL lf (.mk k' s' n' l' :: b) (k + by_) = acc ++ walkF lf (.mk k' s' n' l') (k + by_) :: walkL lf b (k + by_) by simp [walkL]]
    rw [show (acc ++ [walkF lf (.mk k' s' n' l') (k + by_)]).length = acc.length + 1 by simp, List.append_assoc] at h2
    exact h2
theorem l_w1Su (ix : Int) (sk : Int) (ss : List UInt8) (sn : Int) (sl : List Tm) (lf : Tm → Int → Tm) (k by_ : Int) (h0 : 0 ≤ k) (hk : k ≤ 2305843009213693952) (hb0 : 0 ≤ by_) (hb1 : by_ ≤ 1) (kd : Int) (s : List UInt8) (n : Int) (hin : (kd == 5 || kd == 6) = true) :
    ∀ (b : List Tm), b.length ≤ B → (∀ u ∈ walkL lf b (k + by_), u.l.length ≤ 2 * B) →
    (∀ u ∈ b, AC Try.prog 66 [cloSu, aT u, ci (k + by_)] [(obj1 ix), (.arr 4 [fzs (FT (.mk sk ss sn sl))])] (aT (walkF lf u (k + by_))) [(obj1 ix), (.arr 4 [fzs (FT (.mk sk ss sn sl))])]) →
    RPt Try.prog 66 2 (aT (withF (.mk kd s n b) (walkL lf b (k + by_)))) [(obj1 ix), (.arr 4 [fzs (FT (.mk sk ss sn sl))])] 1 (stSu ix sk ss sn sl k by_ kd s n b (.fz .nils) 0 [] 5)
  | [], hl, hw, _ => by
    refine RPt.vc hP sh lv66 (Eq.mpr (v66_F63_1a ..) ?_)
    have e : withF (.mk kd s n []) (walkL lf [] (k + by_)) = .mk kd s n [] := if_neg fun e => by have := e.2.1; simp [walkL] at this
    rw [e]
    exact br_of (fun h => absurd (of_decide_eq_true h) (by simp)) (fun _ => br_of (fun _ => ⟨rfl, leT leNil, rfl⟩) (fun _ => ⟨leT leNil, rfl⟩))
  | t :: b, hl, hw, ih => by
    refine RPt.vc hP sh lv66 (Eq.mpr (v66_F63_1a ..) ?_)
    have hl' := hl
    simp only [List.length_cons, B] at hl'
    have h1 := ih t List.mem_cons_self
    have h2 := l_w2Su ix sk ss sn sl lf k by_ h0 hk hb0 hb1 kd s n hin b [t] [walkF lf t (k + by_)] (by simp) rfl (by simpa using hl) (by simpa [walkL] using hw) (fun u hu => ih u (List.mem_cons_of_mem _ hu))
    show br (decide ((0 : Int) < (((t :: b).length : Nat) : Int))) ((FV.isSl 4 (.sl false 4 (FTs (t :: b))) = true ∧ _ ∧ _ ∧ _) ∧ _) _
    refine br_of (fun _ => ?_) (fun h => absurd (of_decide_eq_false h) (by simp))
    rw [show FV.ses (.sl false 4 (FTs (t :: b))) = FTs (t :: b) from rfl, show List.getD (FTs (t :: b)) (Int.toNat ((0 : Nat) : Int)) [] = FT t from rfl, w64 (x := k + by_) (by omega) (by omega), w64 (x := ((0 : Nat) : Int) + 1) (by omega) (by omega)]
    obtain ⟨k', s', n', l'⟩ := t
    have h3 : (0 : Int) < (((FTs (.mk k' s' n' l' :: b)).length : Nat) : Int) := by rw [FTs_length]; simp
    refine ⟨⟨rfl, by omega, h3, rfl⟩, _, h1, Nat.le_refl _, roomI (by omega), ?_⟩
    have e6 : FTs [walkF lf (.mk k' s' n' l') (k + by_)] = [[.int .i64 (walkF lf (.mk k' s' n' l') (k + by_)).k, .str (walkF lf (.mk k' s' n' l') (k + by_)).s, .int .i64 (walkF lf (.mk k' s' n' l') (k + by_)).n, .sl false 4 (FTs (walkF lf (.mk k' s' n' l') (k + by_)).l)]] := by
      rw [FTs, FTs, FT_eta]
    unfold stSu at h2
    rw [e6] at h2
    exact h2
/-- THE CONTRACT: from the leaf function's. -/
theorem c_wSu (ix : Int) (sk : Int) (ss : List UInt8) (sn : Int) (sl : List Tm) (lf : Tm → Int → Tm) (Q : Tm → Int → Prop)
    (hq : ∀ (kd : Int) (s : List UInt8) (n : Int) (l : List Tm) (d : Int), Q (.mk kd s n l) d → (kd == 5 || kd == 6) = true → ∀ u ∈ l, Q u (d + if (kd == 5) = true then 1 else 0))
    (hleaf : ∀ (u : Tm) (d : Int), (u.k == 5 || u.k == 6) = false → Q u d → 0 ≤ d → d ≤ 2305843009213693952 → AC Try.prog 63 [aT u, ci d, .c (.a (.ep 0 1 0 0)), .c (.a (.ep 1 4 0 0))] [(obj1 ix), (.arr 4 [fzs (FT (.mk sk ss sn sl))])] (aT (lf u d)) [(obj1 ix), (.arr 4 [fzs (FT (.mk sk ss sn sl))])])
    (hwid : ∀ (u : Tm) (d : Int), Q u d → (walkF lf u d).l.length ≤ 2 * B) :
    ∀ t : Tm, t.sz ≤ B → ∀ k : Int, Q t k → 0 ≤ k → k + t.sz ≤ 2305843009213693952 → AC Try.prog 66 [cloSu, aT t, ci k] [(obj1 ix), (.arr 4 [fzs (FT (.mk sk ss sn sl))])] (aT (walkF lf t k)) [(obj1 ix), (.arr 4 [fzs (FT (.mk sk ss sn sl))])] := by
  refine Tm.ind fun t ih hs k hQ h0 h1 => ?_
  have hlen := Tm.szs_length t.l
  obtain ⟨kd, s, n, l⟩ := t
  simp only [Tm.sz, B, Tm.l] at hs hlen
  simp only [Tm.sz] at h1
  have key : ∀ by_ : Int, 0 ≤ by_ → by_ ≤ 1 → (by_ = if (kd == 5) = true then 1 else 0) → (hin : (kd == 5 || kd == 6) = true) → RPt Try.prog 66 2 (aT (walkF lf (.mk kd s n l) k)) [(obj1 ix), (.arr 4 [fzs (FT (.mk sk ss sn sl))])] 1 (stSu ix sk ss sn sl k by_ kd s n l (.fz .nils) 0 [] 5) := by
    intro by_ hb0 hb1 hby hin
    have hQ' := hq kd s n l k hQ hin
    rw [← hby] at hQ'
    have := l_w1Su ix sk ss sn sl lf k by_ h0 (by omega) hb0 hb1 kd s n hin l (by simp only [B]; omega) (fun u hu => by
      have : ∀ {m : List Tm}, (∀ v ∈ m, Q v (k + by_)) → ∀ u ∈ walkL lf m (k + by_), u.l.length ≤ 2 * B := by
        intro m
        induction m with
        | nil => intro _ u hu; simp [walkL] at hu
        | cons v m ihm =>
          intro hm u hu
          simp only [walkL, List.mem_cons] at hu
          rcases hu with rfl | hu
          · exact hwid v _ (hm v List.mem_cons_self)
          · exact ihm (fun x hx => hm x (List.mem_cons_of_mem _ hx)) u hu
      exact this hQ' u hu) (fun u hu => ih u hu (by have := Tm.szs_mem hu; simp only [B]; omega) (k + by_) (hQ' u hu) (by omega) (by have := Tm.szs_mem hu; omega))
    rw [walkF, if_pos hin, ← hby]
    exact this
  refine AC.vc hP sh lv66 (Nat.le_refl _) (by simp [isLive]) (by simp) (Eq.mpr (v66_F63 kd s n (FTs l) k ix sk ss sn (FTs sl) _ _) ?_)
  have wi : (kd == 5 || kd == 6) = true → AC Try.prog 62 [aT (.mk kd s n l)] [] (.tup [(false, [.a (.fz (.sl false 4 (FTs l)))]), (false, [.a (.fz (.int .i64 (if (kd == 5) = true then 1 else 0)))])]) [] := fun hin => by
    have hw := c_within (.mk kd s n l)
    rw [show kidsV (.mk kd s n l) = .sl false 4 (FTs l) from if_pos hin] at hw
    exact hw
  refine br_of (fun h => br_of (fun h2 => ?_) (fun h2 => ?_)) (fun h => ?_)
  · have e1 : (kd == 5) = false := by simpa using h
    have e2 : (kd == 6) = false := by simpa using h2
    have e : (kd == 5 || kd == 6) = false := by rw [e1, e2]; rfl
    have hl := hleaf (.mk kd s n l) k e hQ h0 (by omega)
    rw [show walkF lf (.mk kd s n l) k = lf (.mk kd s n l) k by rw [walkF, if_neg (by rw [e]; simp)]]
    exact ⟨_, hl, .refl _, rfl⟩
  · have e1 : (kd == 5) = false := by simpa using h
    have e2 : (kd == 6) = true := by simpa using h2
    have hin : (kd == 5 || kd == 6) = true := by rw [e1, e2]; rfl
    have hk := key 0 (by omega) (by omega) (by rw [e1]; rfl) hin
    have hw := wi hin
    rw [e1] at hw
    refine ⟨_, _, hw, rfl, ?_⟩
    show RPt _ _ _ _ _ _ ⟨[_, _, _, _, _, _, _, _, (31, ci (((FTs l).length : Nat) : Int)), _], _, _⟩
    rw [FTs_length]
    exact hk
  · have e1 : (kd == 5) = true := by simpa using h
    have hin : (kd == 5 || kd == 6) = true := by rw [e1]; rfl
    have hk := key 1 (by omega) (by omega) (by rw [e1]; rfl) hin
    have hw := wi hin
    rw [e1] at hw
    refine ⟨_, _, hw, rfl, ?_⟩
    show RPt _ _ _ _ _ _ ⟨[_, _, _, _, _, _, _, _, (31, ci (((FTs l).length : Nat) : Int)), _], _, _⟩
    rw [FTs_length]
    exact hk


end Go.AM

set_option maxRecDepth 100000
open Go Go.Proofs
namespace Go.AM

/-! ### What walk makes: size, numbers, kinds -/
theorem applyF_sz (f : Tm) (l : List Tm) : (applyF f l).sz ≤ 1 + f.sz + Tm.szs l := by
  unfold applyF
  split
  · simp only [Tm.szs]; omega
  · split
    · have := f.sz_eq; simp only [Tm.sz, Tm.szs_append, List.length_nil]; omega
    · simp only [Tm.sz, Tm.szs, List.length_nil]; omega
theorem withF_sz (t : Tm) (o : List Tm) : (withF t o).sz ≤ 1 + Tm.szs o := by
  unfold withF
  split
  · rename_i h
    match o, h with
    | [], h => simp at h
    | x :: r, h =>
      simp only [List.headD_cons, List.tail_cons, Tm.szs] at h ⊢
      have hx : (x.k == 6) = true := h.2.2.1
      have hr : r ≠ [] := by intro e; rw [e] at h; simp at h
      unfold applyF
      split
      · exact absurd rfl hr
      · have := x.sz_eq
        by_cases hl : x.l = []
        · rw [if_neg (fun e => e.2 hl)]
          simp only [Tm.sz, Tm.szs, List.length_nil]; omega
        · rw [if_pos ⟨hx, hl⟩]
          simp only [Tm.sz, Tm.szs_append, List.length_nil]; omega
  · simp only [Tm.sz]; omega
mutual
/-- How many. -/
def nd : Tm → Nat
  | .mk _ _ _ l => 1 + nds l
def nds : List Tm → Nat
  | [] => 0
  | t :: l => nd t + nds l
end
theorem nd_eq (t : Tm) : nd t = 1 + nds t.l := by cases t; rfl
theorem nd_pos (t : Tm) : 1 ≤ nd t := by rw [nd_eq]; omega
theorem nds_append : ∀ (a b : List Tm), nds (a ++ b) = nds a + nds b
  | [], b => by simp [nds]
  | t :: a, b => by simp only [List.cons_append, nds, nds_append a b]; omega
theorem nds_mem : ∀ {l : List Tm} {t : Tm}, t ∈ l → nd t ≤ nds l
  | x :: l, t, h => by
    rcases List.mem_cons.1 h with rfl | h
    · simp only [nds]; omega
    · have := nds_mem h; simp only [nds]; omega
theorem withF_nd (t : Tm) (o : List Tm) : nd (withF t o) ≤ 1 + nds o := by
  unfold withF
  split
  · rename_i h
    match o, h with
    | [], h => simp at h
    | x :: r, h =>
      simp only [List.headD_cons, List.tail_cons, nds] at h ⊢
      have hx : (x.k == 6) = true := h.2.2.1
      have hr : r ≠ [] := by intro e; rw [e] at h; simp at h
      unfold applyF
      split
      · exact absurd rfl hr
      · have := nd_eq x
        by_cases hl : x.l = []
        · rw [if_neg (fun e => e.2 hl)]
          simp only [nd, nds]; omega
        · rw [if_pos ⟨hx, hl⟩]
          simp only [nd, nds_append]; omega
  · simp only [nd]; omega
mutual
theorem walkF_sz (lf : Tm → Int → Tm) (S : Nat) (h : ∀ u d, (lf u d).sz ≤ u.sz + S) : ∀ (t : Tm) (d : Int), (walkF lf t d).sz ≤ t.sz + nd t * S
  | .mk k s n l, d => by
    rw [walkF]
    split
    · refine Nat.le_trans (withF_sz ..) ?_
      have := walkL_sz lf S h l (d + if (k == 5) = true then 1 else 0)
      simp only [Tm.sz, Tm.s, nd, Nat.add_mul, Nat.one_mul]
      omega
    · refine Nat.le_trans (h _ _) ?_
      simp only [nd, Nat.add_mul, Nat.one_mul]; omega
theorem walkL_sz (lf : Tm → Int → Tm) (S : Nat) (h : ∀ u d, (lf u d).sz ≤ u.sz + S) : ∀ (l : List Tm) (d : Int), Tm.szs (walkL lf l d) ≤ Tm.szs l + nds l * S
  | [], _ => by simp [walkL, Tm.szs]
  | t :: l, d => by
    have := walkF_sz lf S h t d
    have := walkL_sz lf S h l d
    simp only [walkL, Tm.szs, nds, Nat.add_mul]; omega
end
mutual
theorem walkF_nd (lf : Tm → Int → Tm) (N : Nat) (hN : 1 ≤ N) (h : ∀ u d, nd (lf u d) ≤ nd u * N) : ∀ (t : Tm) (d : Int), nd (walkF lf t d) ≤ nd t * N
  | .mk k s n l, d => by
    rw [walkF]
    split
    · refine Nat.le_trans (withF_nd ..) ?_
      have := walkL_nd lf N hN h l (d + if (k == 5) = true then 1 else 0)
      simp only [nd, Nat.add_mul, Nat.one_mul]
      omega
    · exact h _ _
theorem walkL_nd (lf : Tm → Int → Tm) (N : Nat) (hN : 1 ≤ N) (h : ∀ u d, nd (lf u d) ≤ nd u * N) : ∀ (l : List Tm) (d : Int), nds (walkL lf l d) ≤ nds l * N
  | [], _ => by simp [walkL, nds]
  | t :: l, d => by
    have := walkF_nd lf N hN h t d
    have := walkL_nd lf N hN h l d
    simp only [walkL, nds, Nat.add_mul]; omega
end
theorem bds_append {M : Int} : ∀ {a b : List Tm}, bds M a → bds M b → bds M (a ++ b)
  | [], _, _, h => h
  | _ :: _, _, h, h' => ⟨h.1, bds_append h.2 h'⟩
theorem bds_of {M : Int} : ∀ {l : List Tm}, (∀ t ∈ l, bd M t) → bds M l
  | [], _ => trivial
  | t :: _, h => ⟨h t List.mem_cons_self, bds_of fun u hu => h u (List.mem_cons_of_mem _ hu)⟩
theorem bd6 {M : Int} {s : List UInt8} {n : Int} {l : List Tm} (h : bds M l) : bd M (.mk 6 s n l) := ⟨fun e => absurd e (by omega), h⟩
theorem applyF_bd {M : Int} {f : Tm} {l : List Tm} (hf : bd M f) (hl : bds M l) : bd M (applyF f l) := by
  unfold applyF
  split
  · exact hf
  · split
    · exact bd6 (bds_append (bd_l hf) hl)
    · exact bd6 ⟨hf, hl⟩
theorem withF_bd {M : Int} {t : Tm} {o : List Tm} (hk : t.k ≠ 3) (ho : bds M o) : bd M (withF t o) := by
  unfold withF
  split
  · rename_i h
    match o, h, ho with
    | [], h, _ => simp at h
    | x :: r, h, ho => exact applyF_bd ho.1 ho.2
  · exact ⟨fun e => absurd e hk, ho⟩
mutual
theorem walkF_bd (lf : Tm → Int → Tm) (M M' D : Int) (h : ∀ u d, bd M u → 0 ≤ d → d ≤ D → bd M' (lf u d)) : ∀ (t : Tm) (d : Int), bd M t → 0 ≤ d → d + t.sz ≤ D → bd M' (walkF lf t d)
  | .mk k s n l, d, hb, h0, h1 => by
    rw [walkF]
    simp only [Tm.sz] at h1
    split
    · rename_i hk
      refine withF_bd (fun e => ?_) (walkL_bd lf M M' D h l _ hb.2 (by split <;> omega) (by split <;> omega))
      have e : k = 3 := e
      rw [e] at hk; exact absurd hk (by decide)
    · exact h _ _ hb h0 (by omega)
theorem walkL_bd (lf : Tm → Int → Tm) (M M' D : Int) (h : ∀ u d, bd M u → 0 ≤ d → d ≤ D → bd M' (lf u d)) : ∀ (l : List Tm) (d : Int), bds M l → 0 ≤ d → d + Tm.szs l ≤ D → bds M' (walkL lf l d)
  | [], _, _, _, _ => trivial
  | t :: l, d, hb, h0, h1 => by
    simp only [Tm.szs] at h1
    exact ⟨walkF_bd lf M M' D h t d hb.1 h0 (by omega), walkL_bd lf M M' D h l d hb.2 h0 (by omega)⟩
end
theorem applyF_k {f : Tm} (l : List Tm) (h : (f.k == 6) = true) : (applyF f l).k = 6 := by
  unfold applyF
  split
  · simpa using h
  · split <;> rfl
theorem withF_k (t : Tm) (o : List Tm) : (withF t o).k = t.k := by
  unfold withF
  split
  · rename_i h6
    have e : t.k = 6 := by simpa using h6.1
    rw [applyF_k _ h6.2.2.1]; exact e.symm
  · rfl
theorem walkF_k (lf : Tm → Int → Tm) (h : ∀ u d, (lf u d).k = u.k) (t : Tm) (d : Int) : (walkF lf t d).k = t.k := by
  obtain ⟨k, s, n, l⟩ := t
  rw [walkF]
  split
  · exact withF_k _ _
  · exact h _ _
/-- Where leaves keep their kinds, nothing is made flat. -/
theorem walkF_keep (lf : Tm → Int → Tm) (h : ∀ u d, (lf u d).k = u.k) (k : Int) (s : List UInt8) (n : Int) (l : List Tm) (d : Int) (hk : (k == 5 || k == 6) = true) :
    walkF lf (.mk k s n l) d = .mk k s n (walkL lf l (d + if (k == 5) = true then 1 else 0)) := by
  rw [walkF, if_pos hk, withF, if_neg fun e => ?_]; rfl
  match l, e with
  | [], e => have := e.2.1; simp [walkL] at this
  | t :: l, e =>
    have e1 := e.2.2.1
    have e2 := e.2.2.2
    rw [walkL, List.headD_cons, walkF_k lf h] at e1
    have e2 : (t.k != 6) = true := e2
    rw [bne, e1] at e2; cases e2
theorem walkF_leaf (lf : Tm → Int → Tm) (k : Int) (s : List UInt8) (n : Int) (l : List Tm) (d : Int) (hk : (k == 5 || k == 6) = false) :
    walkF lf (.mk k s n l) d = lf (.mk k s n l) d := by rw [walkF, if_neg (by rw [hk]; simp)]
theorem walkL_length (lf : Tm → Int → Tm) : ∀ (l : List Tm) (d : Int), (walkL lf l d).length = l.length
  | [], _ => rfl
  | _ :: l, d => by simp only [walkL, List.length_cons, walkL_length lf l d]

/-! ### Shift -/
abbrev M61 : Int := 2305843009213693952
def shLeaf (fr by_ : Int) (u : Tm) (d : Int) : Tm := if (u.k == 3) = true ∧ d + fr ≤ u.n then .mk u.k u.s (u.n + by_) u.l else u
def shT (fr by_ : Int) (t : Tm) (d : Int) : Tm := walkF (shLeaf fr by_) t d
theorem shLeaf_k (fr by_ : Int) (u : Tm) (d : Int) : (shLeaf fr by_ u d).k = u.k := by unfold shLeaf; split <;> rfl
theorem shLeaf_sz (fr by_ : Int) (u : Tm) (d : Int) : (shLeaf fr by_ u d).sz = u.sz := by
  unfold shLeaf; split
  · cases u; rfl
  · rfl
theorem shT_sz (fr by_ : Int) (t : Tm) (d : Int) : (shT fr by_ t d).sz ≤ t.sz := by
  have := walkF_sz (shLeaf fr by_) 0 (fun u d => by rw [shLeaf_sz]; omega) t d
  rw [Nat.mul_zero] at this; exact this
theorem shLeaf_nd (fr by_ : Int) (u : Tm) (d : Int) : nd (shLeaf fr by_ u d) = nd u := by
  unfold shLeaf; split
  · cases u; rfl
  · rfl
theorem shT_nd (fr by_ : Int) (t : Tm) (d : Int) : nd (shT fr by_ t d) ≤ nd t := by
  have := walkF_nd (shLeaf fr by_) 1 (Nat.le_refl _) (fun u d => by rw [shLeaf_nd]; omega) t d
  rw [Nat.mul_one] at this; exact this
theorem bd_le {M M' : Int} (h : M ≤ M') : ∀ t : Tm, bd M t → bd M' t := by
  refine Tm.ind fun t ih hb => ?_
  obtain ⟨k, s, n, l⟩ := t
  exact ⟨fun e => by have := hb.1 e; omega, bds_of fun u hu => ih u hu (bds_mem hb.2 hu)⟩
theorem shLeaf_bd {fr by_ M : Int} (h0 : 0 ≤ by_) (u : Tm) (d : Int) (hb : bd M u) : bd (M + by_) (shLeaf fr by_ u d) := by
  unfold shLeaf
  split
  · obtain ⟨k, s, n, l⟩ := u
    exact ⟨fun e => by have := hb.1 e; simp only [Tm.n]; omega, bds_of fun u hu => bd_le (by omega) u (bds_mem hb.2 hu)⟩
  · exact bd_le (by omega) u hb
theorem shT_bd {fr by_ M : Int} (h0 : 0 ≤ by_) (t : Tm) (d : Int) (hb : bd M t) (hd : 0 ≤ d) : bd (M + by_) (shT fr by_ t d) :=
  walkF_bd (shLeaf fr by_) M (M + by_) (d + t.sz) (fun u d' hu _ _ => shLeaf_bd h0 u d' hu) t d hb hd (Int.le_refl _)
theorem c_moved (t : Tm) (by_ : Int) (h1 : -9223372036854775808 ≤ t.n + by_) (h2 : t.n + by_ ≤ 9223372036854775807) : AC Try.prog 65 [aT t, ci by_] [] (aT (.mk t.k t.s (t.n + by_) t.l)) [] := by
  obtain ⟨k, s, n, l⟩ := t
  refine AC.vc hP sh lv65 (Nat.le_refl _) (by simp) (by simp) (Eq.mpr (v65 k s n (FTs l) by_ _ _) ?_)
  rw [w64 (x := n + by_) h1 h2]
  exact ⟨.refl _, rfl⟩
theorem c_shift1 (fr by_ d : Int) (u : Tm) (hb : u.k = 3 → 0 - M61 ≤ u.n ∧ u.n ≤ M61) (hd0 : 0 ≤ d) (hd1 : d ≤ M61) (hf0 : 0 ≤ fr) (hf1 : fr ≤ M61) (hb0 : 0 - 1 ≤ by_) (hb1 : by_ ≤ M61) :
    AC Try.prog 67 [aT u, ci d, .c (.a (.ep 0 1 0 0)), .c (.a (.ep 1 1 0 0))] [obj1 fr, obj1 by_] (aT (shLeaf fr by_ u d)) [obj1 fr, obj1 by_] := by
  obtain ⟨k, s, n, l⟩ := u
  simp only [M61, Tm.k, Tm.n] at *
  refine AC.vc hP sh lv67 (Nat.le_refl _) (by simp [isLive]) (by simp) (Eq.mpr (v67 k s n (FTs l) d fr by_ _ _) ?_)
  rw [w64 (by omega) (by omega)]
  refine br_of (fun h => br_of (fun h2 => ?_) (fun h2 => ?_)) (fun h => ?_)
  · have hk : k = 3 := by simpa using h
    have h3 : d + fr ≤ n := of_decide_eq_true h2
    have := hb hk
    have e : shLeaf fr by_ (.mk k s n l) d = .mk k s (n + by_) l := if_pos ⟨h, h3⟩
    rw [e]
    exact ⟨_, c_moved (.mk k s n l) by_ (by simp only [Tm.n]; omega) (by simp only [Tm.n]; omega), .refl _, rfl⟩
  · have h3 : ¬ d + fr ≤ n := of_decide_eq_false h2
    have e : shLeaf fr by_ (.mk k s n l) d = .mk k s n l := if_neg fun e => h3 e.2
    rw [e]; exact ⟨.refl _, rfl⟩
  · have e : shLeaf fr by_ (.mk k s n l) d = .mk k s n l := if_neg fun e => by have := e.1; rw [show Tm.k (.mk k s n l) = k from rfl, h] at this; cases this
    rw [e]; exact ⟨.refl _, rfl⟩
theorem c_shift (t : Tm) (fr by_ : Int) (hs : t.sz ≤ B) (hb : bd M61 t) (hf0 : 0 ≤ fr) (hf1 : fr ≤ M61) (hb0 : 0 - 1 ≤ by_) (hb1 : by_ ≤ M61) :
    AC Try.prog 64 [aT t, ci fr, ci by_] [] (aT (shT fr by_ t 0)) [] := by
  have h := c_wSh fr by_ (shLeaf fr by_) (fun u _ => bd M61 u ∧ u.sz ≤ B) (fun kd s n l d hq hk u hu => ⟨bds_mem hq.1.2 hu, by have := Tm.szs_mem hu; have := hq.2; simp only [Tm.sz] at this; omega⟩)
    (fun u d hk hq h0 h1 => c_shift1 fr by_ d u (by obtain ⟨k, s, n, l⟩ := u; exact hq.1.1) h0 h1 hf0 hf1 hb0 hb1)
    (fun u d hq => by have := shT_sz fr by_ u d; have h1 := (shT fr by_ u d).sz_eq; have := Tm.szs_length (shT fr by_ u d).l; have := hq.2; show (shT fr by_ u d).l.length ≤ _; omega)
    t hs 0 ⟨hb, hs⟩ (Int.le_refl _) (by simp only [B] at hs; omega)
  obtain ⟨k, s, n, l⟩ := t
  refine AC.vc hP sh lv64 (Nat.le_refl _) (by simp) (by simp) (Eq.mpr (v64 k s n (FTs l) fr by_ _ _) ?_)
  exact ⟨_, h, .refl _, rfl⟩

/-! ### Subst -/
def suLeaf (i : Int) (s : Tm) (u : Tm) (d : Int) : Tm :=
  if (u.k == 3) = true then (if u.n < d + i then u else if (u.n == d + i) = true then shT 0 d s 0 else .mk u.k u.s (u.n - 1) u.l) else u
def suT (i : Int) (s t : Tm) (d : Int) : Tm := walkF (suLeaf i s) t d
theorem suLeaf_sz (i : Int) (s u : Tm) (d : Int) : (suLeaf i s u d).sz ≤ u.sz + s.sz := by
  have h3 := shT_sz 0 d s 0
  unfold suLeaf
  split
  · split
    · omega
    · split
      · omega
      · cases u; simp only [Tm.sz, Tm.s, Tm.l]; omega
  · omega
theorem suT_sz (i : Int) (s t : Tm) (d : Int) : (suT i s t d).sz ≤ t.sz + nd t * s.sz := walkF_sz _ _ (suLeaf_sz i s) t d
theorem suLeaf_nd (i : Int) (s u : Tm) (d : Int) : nd (suLeaf i s u d) ≤ nd u * nd s := by
  have h1 : nd u ≤ nd u * nd s := Nat.le_mul_of_pos_right _ (nd_pos s)
  have h2 : nd s ≤ nd u * nd s := Nat.le_mul_of_pos_left _ (nd_pos u)
  have h3 := shT_nd 0 d s 0
  unfold suLeaf
  split
  · split
    · exact h1
    · split
      · omega
      · cases u; exact h1
  · exact h1
theorem suT_nd (i : Int) (s t : Tm) (d : Int) : nd (suT i s t d) ≤ nd t * nd s := walkF_nd _ _ (nd_pos s) (suLeaf_nd i s) t d
theorem suT_bd {i M M' D : Int} (s t : Tm) (d : Int) (hb : bd M t) (hs : bd M' s) (hM : M' + D ≤ M) (hd : 0 ≤ d) (hD : d + t.sz ≤ D) (hi : 0 ≤ i) (hM' : 0 ≤ M): bd M (suT i s t d) := by
  refine walkF_bd (suLeaf i s) M M D (fun u d' hu h0 h1 => ?_) t d hb hd hD
  unfold suLeaf
  split
  · split
    · exact hu
    · split
      · exact bd_le (by omega) _ (shT_bd h0 s 0 hs (Int.le_refl _))
      · rename_i h2 h3
        obtain ⟨k, s', n, l⟩ := u
        have h3' : n ≠ d' + i := fun e => h3 (by rw [show Tm.n (.mk k s' n l) = n from rfl, e]; simp)
        have h2' : ¬ n < d' + i := h2
        exact ⟨fun e => by have := hu.1 e; simp only [Tm.n]; omega, hu.2⟩
  · exact hu
theorem c_subst1 (i d : Int) (s u : Tm) (hs : s.sz ≤ B) (hbs : bd M61 s) (hb : u.k = 3 → 0 - M61 ≤ u.n ∧ u.n ≤ M61) (hd0 : 0 ≤ d) (hd1 : d ≤ M61) (hi0 : 0 ≤ i) (hi1 : i ≤ M61) :
    AC Try.prog 63 [aT u, ci d, .c (.a (.ep 0 1 0 0)), .c (.a (.ep 1 4 0 0))] [obj1 i, .arr 4 [fzs (FT s)]] (aT (suLeaf i s u d)) [obj1 i, .arr 4 [fzs (FT s)]] := by
  obtain ⟨k, t, n, l⟩ := u
  have hsh := c_shift s 0 d hs hbs (Int.le_refl _) (by simp only [M61]; omega) (by omega) hd1
  rw [FT_eta]
  simp only [M61, Tm.k, Tm.n] at *
  refine AC.vc hP sh lv63 (Nat.le_refl _) (by simp [isLive]) (by simp) (Eq.mpr (v63 k t n (FTs l) d i s.k s.s s.n (FTs s.l) _ _) ?_)
  rw [w64 (by omega) (by omega)]
  refine br_of (fun h => ?_) (fun h => br_of (fun h2 => ?_) (fun h2 => br_of (fun h3 => ?_) (fun h3 => ?_)))
  · have e : suLeaf i s (.mk k t n l) d = .mk k t n l := if_neg fun e => by rw [show Tm.k (.mk k t n l) = k from rfl] at e; rw [bne, e] at h; cases h
    rw [e]; exact ⟨.refl _, rfl⟩
  · have hk : (k == 3) = true := by simpa [bne] using h
    have e : suLeaf i s (.mk k t n l) d = .mk k t n l := by rw [suLeaf, if_pos (show (Tm.k (.mk k t n l) == 3) = true from hk), if_pos (show Tm.n (.mk k t n l) < d + i from of_decide_eq_true h2)]
    rw [e]; exact ⟨.refl _, rfl⟩
  · have hk : (k == 3) = true := by simpa [bne] using h
    have e : suLeaf i s (.mk k t n l) d = shT 0 d s 0 := by rw [suLeaf, if_pos (show (Tm.k (.mk k t n l) == 3) = true from hk), if_neg (show ¬ Tm.n (.mk k t n l) < d + i from of_decide_eq_false h2), if_pos (show (Tm.n (.mk k t n l) == d + i) = true from h3)]
    rw [e]; exact ⟨_, hsh, .refl _, rfl⟩
  · have hk : (k == 3) = true := by simpa [bne] using h
    have e : suLeaf i s (.mk k t n l) d = .mk k t (n - 1) l := by rw [suLeaf, if_pos (show (Tm.k (.mk k t n l) == 3) = true from hk), if_neg (show ¬ Tm.n (.mk k t n l) < d + i from of_decide_eq_false h2), if_neg (by rw [show Tm.n (.mk k t n l) = n from rfl, h3]; simp)]; rfl
    have := hb (by simpa using hk)
    rw [e]; exact ⟨_, c_moved (.mk k t n l) (-1) (by simp only [Tm.n]; omega) (by simp only [Tm.n]; omega), .refl _, rfl⟩
theorem c_subst (t s : Tm) (i : Int) (hs : s.sz ≤ B) (ht : t.sz + nd t * s.sz ≤ B) (hb : bd M61 t) (hbs : bd M61 s) (hi0 : 0 ≤ i) (hi1 : i ≤ M61) :
    AC Try.prog 61 [aT t, ci i, aT s] [] (aT (suT i s t 0)) [] := by
  have ht' : t.sz ≤ B := by omega
  have hFT := FT_eta s
  obtain ⟨sk, ss, sn, sl⟩ := s
  have h := c_wSu i sk ss sn sl (suLeaf i (.mk sk ss sn sl)) (fun u _ => bd M61 u ∧ u.sz + nd u * (Tm.mk sk ss sn sl).sz ≤ B) (fun kd s n l d hq hk u hu => ⟨bds_mem hq.1.2 hu, by have h2 := hq.2; have := Nat.mul_le_mul_right (Tm.mk sk ss sn sl).sz (nds_mem hu); have := Tm.szs_mem hu; rw [Tm.sz_eq (.mk kd s n l), nd_eq (.mk kd s n l), Nat.add_mul] at h2; simp only [Tm.l, Tm.s] at h2; omega⟩)
    (fun u d hk hq h0 h1 => c_subst1 i d (.mk sk ss sn sl) u hs hbs (by obtain ⟨k, s, n, l⟩ := u; exact hq.1.1) h0 h1 hi0 hi1)
    (fun u d hq => by have := suT_sz i (.mk sk ss sn sl) u d; have h1 := (suT i (.mk sk ss sn sl) u d).sz_eq; have := Tm.szs_length (suT i (.mk sk ss sn sl) u d).l; have := hq.2; show (suT i (.mk sk ss sn sl) u d).l.length ≤ _; omega)
    t ht' 0 ⟨hb, ht⟩ (Int.le_refl _) (by simp only [B] at ht'; omega)
  obtain ⟨k, s, n, l⟩ := t
  refine AC.vc hP sh lv61 (Nat.le_refl _) (by simp) (by simp) (Eq.mpr (v61 k s n (FTs l) i sk ss sn (FTs sl) _ _) ?_)
  exact ⟨_, h, .refl _, rfl⟩

end Go.AM

set_option maxRecDepth 100000
open Go Go.Proofs
namespace Go.AM

/-! ### Below abstractions -/
def lamsF : Nat → Tm → Tm
  | 0, t => t
  | n + 1, t => lamsF n (.mk 5 [] 0 [t])
theorem foldMax0 {n : Int} (h : 0 ≤ n) : foldMax [n, 0] = n := by
  rw [foldMax2]; unfold maxI; split <;> omega
/-! ### What may be -/
mutual
def validB : Tm → Bool
  | .mk k s n l =>
    if (k == 0) = true then (isName s || isSym s) && n == 0 && (((FTs l).length : Nat) : Int) == 0
    else if (k == 1) = true then decide (n ≥ 1) && s == [] && (((FTs l).length : Nat) : Int) == 0 && validL l
    else if (k == 2) = true then s == [] && (((FTs l).length : Nat) : Int) == 0 && validL l
    else if (k == 3) = true then decide (n ≥ 0) && decide (n ≤ 4611686018427387904) && s == [] && (((FTs l).length : Nat) : Int) == 0 && validL l
    else if (k == 4) = true then decide (n ≥ 0) && decide (n ≤ 4611686018427387904) && s == [] && (((FTs l).length : Nat) : Int) == 0 && validL l
    else if (k == 5) = true then n == 0 && s == [] && (((FTs l).length : Nat) : Int) == 1 && validL l
    else if (k == 6) = true then n == 0 && decide ((((FTs l).length : Nat) : Int) ≥ 2) && ((l.headD default).k != 6) && s == [] && validL l
    else false
def validL : List Tm → Bool
  | [] => true
  | t :: l => validB t && validL l
end
def badAt : List Tm → Int → Int
  | [], _ => -1
  | t :: l, i => if validB t = true then badAt l (i + 1) else i
theorem badAt_ge : ∀ (l : List Tm) (i : Int), 0 ≤ i → decide (badAt l i ≥ 0) = !validL l
  | [], _, _ => rfl
  | t :: l, i, h => by
    rw [badAt, validL]
    split
    · rename_i e; rw [badAt_ge l (i + 1) (by omega), e, Bool.true_and]
    · rename_i e; rw [show validB t = false by simpa using e]; simp; omega
theorem l_index : ∀ (b a : List Tm), (∀ u ∈ b, AC Try.prog 27 [aT u] [] (cb (!validB u)) []) → (a ++ b).length ≤ B →
    RPt Try.prog 38 0 (ci (badAt b a.length)) [] 1 ⟨[(0, aL (a ++ b)), (1, .c (.fn (.func 27) [] [])), (7, ci (((FTs (a ++ b)).length : Nat) : Int)), (8, ci a.length)], [], 0⟩
  | [], a, _, _ => by
    refine RPt.vc hP sh lv38 (Eq.mpr (v38_F27_1a ..) ?_)
    exact br_of (fun h => absurd (of_decide_eq_true h) (geI' a)) (fun _ => ret_i rfl)
  | t :: b, a, ih, hl => by
    refine RPt.vc hP sh lv38 (Eq.mpr (v38_F27_1a ..) ?_)
    have hl' := hl
    simp only [List.length_append, List.length_cons, B] at hl'
    have h1 := ih t List.mem_cons_self
    have h2 := l_index b (a ++ [t]) (fun u hu => ih u (List.mem_cons_of_mem _ hu)) (by rw [ap]; exact hl)
    have h3 := ltI' a t b
    rw [ap, nx] at h2
    rw [midI, w64 (x := (a.length : Int) + 1) (by omega) (by omega)]
    refine br_of (fun _ => ?_) (fun h => absurd h3 (of_decide_eq_false h))
    obtain ⟨k', s', n', l'⟩ := t
    refine ⟨⟨rfl, by omega, h3, rfl⟩, _, h1, br_of (fun h => ?_) (fun h => ?_)⟩
    · rw [badAt, if_neg (by simpa using h)]; exact ret_i rfl
    · rw [badAt, if_pos (by simpa using h)]; exact h2
theorem c_contf (l : List Tm) (hl : l.length ≤ B) (ih : ∀ u ∈ l, AC Try.prog 13 [aT u] [] (cb (validB u)) []) : AC Try.prog 26 [aL l, .c (.fn (.func 27) [] [])] [] (cb (!validL l)) [] := by
  have h1 : ∀ u ∈ l, AC Try.prog 27 [aT u] [] (cb (!validB u)) [] := fun u hu => by
    have h := ih u hu
    obtain ⟨k, s, n, l⟩ := u
    refine AC.vc hP sh lv27 (Nat.le_refl _) (by simp) (by simp) (Eq.mpr (v27 k s n (FTs l) _ _) ?_)
    exact ⟨_, h, ret_b rfl⟩
  have h2 : AC Try.prog 38 [aL l, .c (.fn (.func 27) [] [])] [] (ci (badAt l 0)) [] := by
    refine AC.vc hP sh lv38 (Nat.le_refl _) (by simp) (by simp) (Eq.mpr (v38_F27 ..) ?_)
    exact ⟨rfl, l_index l [] h1 hl⟩
  refine AC.vc hP sh lv26 (Nat.le_refl _) (by simp) (by simp) (Eq.mpr (v26_F27 ..) ?_)
  exact ⟨_, h2, ret_b (badAt_ge l 0 (Int.le_refl _))⟩
theorem head0 : ∀ {l : List Tm}, 2 ≤ (((FTs l).length : Nat) : Int) → List.getD (FTs l) 0 [] = FT (l.headD default)
  | [], h => by simp [FTs] at h
  | t :: l, _ => rfl
theorem c_valid : ∀ t : Tm, t.sz ≤ B → AC Try.prog 13 [aT t] [] (cb (validB t)) [] := by
  refine Tm.ind fun t ih hs => ?_
  have hlen := Tm.szs_length t.l
  obtain ⟨k, s, n, l⟩ := t
  simp only [Tm.sz, Tm.l] at hs hlen
  have hc := c_contf l (by omega) fun u hu => ih u hu (by have := Tm.szs_mem hu; omega)
  refine AC.vc hP sh lv13 (Nat.le_refl _) (by simp) (by simp) (Eq.mpr (v13 k s n (FTs l) _ _) ?_)
  refine br_of (fun h0 => ⟨_, c_isname s, br_of (fun h1 => br_of (fun h2 => ⟨rfl, ret_b ?_⟩) (fun h2 => ret_b ?_)) (fun h1 => ⟨_, c_issym s, br_of (fun h1' => br_of (fun h2 => ⟨rfl, ret_b ?_⟩) (fun h2 => ret_b ?_)) (fun h1' => ret_b ?_)⟩)⟩)
    (fun h0 => br_of (fun h1 => br_of (fun h2 => br_of (fun h3 => ⟨rfl, br_of (fun h4 => ⟨_, hc, ret_b ?_⟩) (fun h4 => ret_b ?_)⟩) (fun h3 => ret_b ?_)) (fun h2 => ret_b ?_))
    (fun h1 => br_of (fun h2 => br_of (fun h3 => ⟨rfl, br_of (fun h4 => ⟨_, hc, ret_b ?_⟩) (fun h4 => ret_b ?_)⟩) (fun h3 => ret_b ?_))
    (fun h2 => br_of (fun h3 => br_of (fun h4 => br_of (fun h5 => br_of (fun h6 => ⟨rfl, br_of (fun h7 => ⟨_, hc, ret_b ?_⟩) (fun h7 => ret_b ?_)⟩) (fun h6 => ret_b ?_)) (fun h5 => ret_b ?_)) (fun h4 => ret_b ?_))
    (fun h3 => br_of (fun h3' => br_of (fun h4 => br_of (fun h5 => br_of (fun h6 => ⟨rfl, br_of (fun h7 => ⟨_, hc, ret_b ?_⟩) (fun h7 => ret_b ?_)⟩) (fun h6 => ret_b ?_)) (fun h5 => ret_b ?_)) (fun h4 => ret_b ?_))
    (fun h3' => br_of (fun h5 => br_of (fun h6 => br_of (fun h7 => ⟨rfl, br_of (fun h8 => ⟨_, hc, ret_b ?_⟩) (fun h8 => ret_b ?_)⟩) (fun h7 => ret_b ?_)) (fun h6 => ret_b ?_))
    (fun h5 => br_of (fun h6 => br_of (fun h7 => ⟨rfl, br_of (fun h8 => ?app) (fun h8 => ⟨rfl, ret_b ?_⟩)⟩) (fun h7 => ⟨rfl, ret_b ?_⟩)) (fun h6 => ret_b ?_)))))))
  case app =>
    have h8' := of_decide_eq_true h8
    rw [head0 h8', FT_eta]
    refine ⟨⟨rfl, by omega, by omega, rfl⟩, rfl, br_of (fun h9 => br_of (fun h10 => ⟨rfl, br_of (fun h11 => ⟨_, hc, ret_b ?_⟩) (fun h11 => ret_b ?_)⟩) (fun h10 => ret_b ?_)) (fun h9 => ret_b ?_)⟩
    all_goals (have h9' : ((l.headD default).k != 6) = _ := h9; simp_all [validB])
  all_goals first
    | (simp_all [validB]; done)
    | (simp_all [validB]; intros; omega)

end Go.AM

set_option maxRecDepth 100000
open Go Go.Proofs
namespace Go.AM

/-! ### What is not more than is looked at -/
mutual
theorem left_sz : ∀ (t : Tm) (m : Int), 0 ≤ leftF t m → longB t = false → (nd t : Int) ≤ m - leftF t m ∧ t.sz ≤ 61 * nd t
  | .mk _ s _ l, m, h, hl => by
    simp only [longB, Bool.or_eq_false_iff] at hl
    simp only [leftF] at h ⊢
    have := left_szs l (m - 1) h hl.2
    have := of_decide_eq_false hl.1
    simp only [nd, Tm.sz]; omega
theorem left_szs : ∀ (l : List Tm) (m : Int), 0 ≤ leftL l m → longL l = false → (nds l : Int) ≤ m - leftL l m ∧ Tm.szs l ≤ 61 * nds l
  | [], m, h, _ => by simp [nds, leftL, Tm.szs]
  | t :: l, m, h, hl => by
    simp only [longL, Bool.or_eq_false_iff] at hl
    simp only [leftL] at h ⊢
    split at h
    · rename_i h0
      rw [if_pos h0]
      have h1 := left_szs l _ h hl.2
      have h3 := (leftL_le l (leftF t m)).1
      have h2 := left_sz t m (by omega) hl.1
      simp only [nds, Tm.szs]; omega
    · rename_i h0; exact absurd h h0
end
mutual
theorem near_bd {M : Int} : ∀ t : Tm, near M t = true → bd M t
  | .mk k s n l, h => by
    simp only [near, Bool.and_eq_true] at h
    refine ⟨fun e => ?_, nears_bd l h.2⟩
    have := h.1
    rw [e] at this
    simp at this; omega
theorem nears_bd {M : Int} : ∀ l : List Tm, nears M l = true → bds M l
  | [], _ => trivial
  | t :: l, h => by
    simp only [nears, Bool.and_eq_true] at h
    exact ⟨near_bd t h.1, nears_bd l h.2⟩
end
/-- What is looked at. -/
structure Okay (t : Tm) : Prop where
  nodes : nd t ≤ 80
  size : t.sz ≤ 4880
  nums : bd 1099511627776 t
theorem okay {t : Tm} (h : overB t = false) : Okay t := by
  simp only [overB, Bool.or_eq_false_iff, large] at h
  have h1 := of_decide_eq_false h.1.1
  have h2 := left_sz t 80 (by omega) h.1.2
  exact ⟨by omega, by omega, near_bd t (by simpa using h.2)⟩

/-! ### The document's example -/
abbrev exF : Tm := .mk 0 [102] 0 []
abbrev exA : Tm := .mk 0 [97] 0 []
abbrev exB : Tm := applyF exF [.mk 3 [] 0 [], lamsF 1 (.mk 3 [] 1 [])]
end Go.AM

set_option maxRecDepth 100000
open Go Go.Proofs
namespace Go.AM

/-! ### How often something is bound -/
mutual
def occF : Tm → Int → Nat
  | .mk k _ n l, i => if (k == 3) = true ∧ (n == i) = true then 1 else occL l (i + if (k == 5) = true then 1 else 0)
def occL : List Tm → Int → Nat
  | [], _ => 0
  | t :: l, i => occF t i + occL l i
end
mutual
theorem occF_le : ∀ (t : Tm) (i : Int), occF t i ≤ t.sz
  | .mk k s n l, i => by
    rw [occF]
    have := occL_le l (i + if (k == 5) = true then 1 else 0)
    split <;> simp only [Tm.sz] <;> omega
theorem occL_le : ∀ (l : List Tm) (i : Int), occL l i ≤ Tm.szs l
  | [], _ => Nat.le_refl _
  | t :: l, i => by have := occF_le t i; have := occL_le l i; simp only [occL, Tm.szs]; omega
end
theorem l_occurs (i : Int) : ∀ (b a : List Tm) (acc : Nat), (∀ u ∈ b, AC Try.prog 60 [aT u, ci i] [] (ci (occF u i)) []) → (a ++ b).length ≤ B → acc + occL b i ≤ 2 * B →
    RPt Try.prog 60 0 (ci ((acc + occL b i : Nat) : Int)) [] 3 ⟨[(1, ci i), (5, ci acc), (21, aL (a ++ b)), (22, ci (((FTs (a ++ b)).length : Nat) : Int)), (23, ci a.length)], [], 0⟩
  | [], a, acc, _, _, _ => by
    refine RPt.vc hP sh lv60 (Eq.mpr (v60_3a ..) ?_)
    exact br_of (fun h => absurd (of_decide_eq_true h) (geI' a)) (fun _ => ret_i (by simp [occL]))
  | t :: b, a, acc, ih, hl, ha => by
    have hl' := hl
    simp only [List.length_append, List.length_cons, B] at hl'
    simp only [occL, B] at ha
    have h1 := ih t List.mem_cons_self
    have h2 := l_occurs i b (a ++ [t]) (acc + occF t i) (fun u hu => ih u (List.mem_cons_of_mem _ hu)) (by rw [ap]; exact hl) (by simp only [B]; omega)
    have h3 := ltI' a t b
    rw [ap, nx] at h2
    refine RPt.vc hP sh lv60 (Eq.mpr (v60_3a ..) ?_)
    rw [midI, w64 (x := (a.length : Int) + 1) (by omega) (by omega)]
    refine br_of (fun _ => ?_) (fun h => absurd h3 (of_decide_eq_false h))
    rw [occL, ← Nat.add_assoc]
    obtain ⟨k', s', n', l'⟩ := t
    refine ⟨⟨rfl, by omega, h3, rfl⟩, _, h1, ?_⟩
    rw [w64 (by omega) (by omega), show (acc : Int) + ((occF (.mk k' s' n' l') i : Nat) : Int) = ((acc + occF (.mk k' s' n' l') i : Nat) : Int) by omega]
    exact h2
theorem c_occurs : ∀ t : Tm, t.sz ≤ B → ∀ i : Int, 0 - 2305843009213693952 ≤ i → i + t.sz ≤ 2305843009213693952 → AC Try.prog 60 [aT t, ci i] [] (ci (occF t i)) [] := by
  refine Tm.ind fun t ih hs i h0 h1 => ?_
  have hlen := Tm.szs_length t.l
  obtain ⟨k, s, n, l⟩ := t
  simp only [Tm.sz, Tm.l, B] at hs hlen h1
  have loop : ∀ j : Int, 0 - 2305843009213693952 ≤ j → j + Tm.szs l ≤ 2305843009213693952 → RPt Try.prog 60 0 (ci (occL l j)) [] 3 ⟨[(1, ci j), (5, ci 0), (21, aL l), (22, ci (((FTs l).length : Nat) : Int)), (23, ci 0)], [], 0⟩ := fun j hj0 hj1 => by
    have hle := occL_le l j
    have := l_occurs j l [] 0 (fun u hu => ih u hu (by have := Tm.szs_mem hu; simp only [B]; omega) j hj0 (by have := Tm.szs_mem hu; omega)) (by simp only [List.nil_append, B]; omega) (by simp only [B]; omega)
    rw [Nat.zero_add] at this
    exact this
  refine AC.vc hP sh lv60 (Nat.le_refl _) (by simp) (by simp) (Eq.mpr (v60 k s n (FTs l) i _ _) ?_)
  have no : ∀ (c : ¬ ((k == 3) = true ∧ (n == i) = true)), occF (.mk k s n l) i = occL l (i + if (k == 5) = true then 1 else 0) := fun c => by rw [occF, if_neg c]
  refine br_of (fun h => br_of (fun h2 => ret_i ?_) (fun h2 => ⟨rfl, ?_⟩)) (fun h => br_of (fun h2 => ⟨rfl, ?_⟩) (fun h2 => ⟨rfl, ?_⟩))
  · rw [occF, if_pos ⟨h, h2⟩]; rfl
  · have e : k = 3 := by simpa using h
    rw [no (fun c => by rw [c.2] at h2; cases h2)]
    subst e
    rw [show (i + if ((3 : Int) == 5) = true then 1 else 0) = i by simp]
    exact loop i (by omega) (by omega)
  · rw [no (fun c => by rw [c.1] at h; cases h), if_pos h2, w64 (by omega) (by omega)]
    exact loop (i + 1) (by omega) (by omega)
  · rw [no (fun c => by rw [c.1] at h; cases h), if_neg (by rw [h2]; simp), Int.add_zero]
    exact loop i (by omega) (by omega)
/-! Copies. -/
theorem c_clone : (∀ es : List (List FV), es ≠ [] → es.length ≤ B → AC Try.prog 41 [.c (.a (.fz (.sl false 4 es)))] [] (.c (.a (.osl 0 4 0 es.length))) [.arz 4 es]) ∧ AC Try.prog 41 [.c (.a (.fz (.sl false 4 [])))] [] (.c (.a (.fz (.sl false 4 [])))) [] := by
  have h0 : AC Try.prog 41 [.c (.a (.fz .nils))] [] (.c (.a (.fz .nils))) [] := by
    refine AC.vc hP sh lv41 (Nat.le_refl _) (by simp) (by simp) (Eq.mpr (v41 ..) ?_)
    exact ⟨.refl _, rfl⟩
  have h1 : ∀ es : List (List FV), es.length ≤ B → AC Try.prog 41 [.c (.a (.fz (.sl true 4 es)))] [] (.c (.a (.osl 0 4 0 es.length))) [.arz 4 es] := fun es hl => by
    refine AC.vc hP sh lv41 (by simp) (by simp) (by simp [isLive]) (Eq.mpr (v41_i1 ..) ?_)
    refine ⟨rfl, ⟨by omega, by rw [Nat.zero_add]; exact roomI (by simp only [B] at hl; omega)⟩, ?_⟩
    rw [Nat.zero_add]
    exact ⟨.refl _, rfl⟩
  exact AC.clone_le h0 h1
/-! The document's. -/
end Go.AM

set_option maxRecDepth 100000
open Go Go.Proofs
namespace Go.AM

/-! ### A body with an argument -/
/-- A term and an error's number. -/
abbrev aTE (t : Tm) (e : Int) : TV := .tup [(true, [.a (.fz (.int .i64 t.k)), .a (.fz (.str t.s)), .a (.fz (.int .i64 t.n)), .a (.fz (.sl false 4 (FTs t.l)))]), (false, [.a (.fz (.int .i64 e))])]
abbrev noT : Tm := .mk 0 [] 0 []
theorem leTE {k n e : Int} {s : List UInt8} {x : FV} {l : List Tm} (h : FV.Le x (.sl false 4 (FTs l))) : TV.Le (.tup [(true, [.a (.fz (.int .i64 k)), .a (.fz (.str s)), .a (.fz (.int .i64 n)), .a (.fz x)]), (false, [.a (.fz (.int .i64 e))])]) (aTE (.mk k s n l) e) := by
  refine .tup _ _ rfl fun i p q hp hq => ?_
  match i, hp, hq with
  | 0, hp, hq =>
    simp only [List.getElem?_cons_zero, Option.some.injEq] at hp hq
    subst hp; subst hq
    refine ⟨rfl, rfl, fun j x y hx hy => ?_⟩
    match j, hx, hy with
    | 0, hx, hy => simp at hx hy; subst hx; subst hy; exact .refl _
    | 1, hx, hy => simp at hx hy; subst hx; subst hy; exact .refl _
    | 2, hx, hy => simp at hx hy; subst hx; subst hy; exact .refl _
    | 3, hx, hy => simp at hx hy; subst hx; subst hy; exact .a _ _ (.fz _ _ h)
    | j + 4, hx, _ => simp at hx
  | 1, hp, hq =>
    simp only [List.getElem?_cons_zero, List.getElem?_cons_succ, Option.some.injEq] at hp hq
    subst hp; subst hq
    refine ⟨rfl, rfl, fun j x y hx hy => ?_⟩
    match j, hx, hy with
    | 0, hx, hy => simp at hx hy; subst hx; subst hy; exact .refl _
    | j + 1, hx, _ => simp at hx
  | i + 2, hp, _ => simp at hp
/-- Is there room? -/
def roomT (body arg : Tm) : Bool := !decide ((sizeF body : Int) + (occF body 0 : Int) * (sizeF arg : Int) > 4096)
def conF (body arg : Tm) : Tm := if roomT body arg = true then suT 0 arg body 0 else noT
def conE (body arg : Tm) : Int := if roomT body arg = true then 0 else 80

end Go.AM

set_option maxRecDepth 100000
open Go Go.Proofs
namespace Go.AM

/-! ### Redexes -/
def hd (l : List Tm) : Tm := l.headD default
def redexB (t : Tm) : Bool := t.k == 6 && (hd t.l).k == 5
mutual
/-- Its kinds have as many within as they must. -/
def okB : Tm → Bool
  | .mk k s n l => (if (k == 6) = true then decide (2 ≤ l.length) && (hd l).k != 6 && (s == [] && n == 0) else if (k == 5) = true then decide (l.length = 1) && (s == [] && n == 0) else decide (l.length = 0)) && okL l
def okL : List Tm → Bool
  | [] => true
  | t :: l => okB t && okL l
end
theorem okL_mem : ∀ {l : List Tm} {t : Tm}, okL l = true → t ∈ l → okB t = true
  | x :: l, t, h, hm => by
    simp only [okL, Bool.and_eq_true] at h
    rcases List.mem_cons.1 hm with rfl | hm
    · exact h.1
    · exact okL_mem h.2 hm
theorem okL_of : ∀ {l : List Tm}, (∀ t ∈ l, okB t = true) → okL l = true
  | [], _ => rfl
  | t :: l, h => by simp only [okL, h t List.mem_cons_self, okL_of (l := l) fun u hu => h u (List.mem_cons_of_mem _ hu), Bool.and_self]
theorem okB6 {k n : Int} {s : List UInt8} {l : List Tm} (h : okB (.mk k s n l) = true) (hk : k = 6) : ∃ x y r, l = x :: y :: r ∧ x.k ≠ 6 ∧ okL l = true := by
  subst hk
  simp only [okB, Bool.and_eq_true] at h
  match l, h with
  | [], h => simp at h
  | [x], h => simp at h
  | x :: y :: r, h => exact ⟨x, y, r, rfl, by have := h.1; simp [hd] at this; exact this.1, h.2⟩
theorem okB5 {k n : Int} {s : List UInt8} {l : List Tm} (h : okB (.mk k s n l) = true) (hk : k = 5) : ∃ x, l = [x] ∧ okB x = true := by
  subst hk
  simp only [okB, Bool.and_eq_true] at h
  match l, h with
  | [], h => simp at h
  | [x], h => exact ⟨x, rfl, by have := h.2; simpa [okL] using this⟩
  | x :: y :: r, h => simp at h
theorem okB0 {k n : Int} {s : List UInt8} {l : List Tm} (h : okB (.mk k s n l) = true) (h5 : k ≠ 5) (h6 : k ≠ 6) : l = [] := by
  simp only [okB, Bool.and_eq_true] at h
  have := h.1
  rw [if_neg (by simpa using h6), if_neg (by simpa using h5)] at this
  exact List.eq_nil_of_length_eq_zero (by simpa using this)
theorem okB_sn {k n : Int} {s : List UInt8} {l : List Tm} (h : okB (.mk k s n l) = true) (hk : k = 5 ∨ k = 6) : s = [] ∧ n = 0 := by
  simp only [okB, Bool.and_eq_true] at h
  have h := h.1
  rcases hk with rfl | rfl
  · simp at h; exact h.2
  · simp at h; exact h.2
theorem okB_l {t : Tm} (h : okB t = true) : okL t.l = true := by
  obtain ⟨k, s, n, l⟩ := t
  simp only [okB, Bool.and_eq_true] at h; exact h.2
mutual
theorem valid_ok : ∀ t : Tm, validB t = true → okB t = true
  | .mk k s n l, h => by
    rw [okB]
    have hl := valid_okL l
    rw [validB] at h
    split at h
    · rename_i e
      have e : k = 0 := by simpa using e
      subst e
      rw [lenI] at h
      have : l = [] := by simp at h; exact h.2
      subst this; rfl
    split at h
    · rename_i e
      have e : k = 1 := by simpa using e
      subst e
      rw [lenI] at h
      have : l = [] := by simp at h; exact h.1.2
      subst this; rfl
    split at h
    · rename_i e
      have e : k = 2 := by simpa using e
      subst e
      rw [lenI] at h
      have : l = [] := by simp at h; exact h.1.2
      subst this; rfl
    split at h
    · rename_i e
      have e : k = 3 := by simpa using e
      subst e
      rw [lenI] at h
      have : l = [] := by simp at h; exact h.1.2
      subst this; rfl
    split at h
    · rename_i e
      have e : k = 4 := by simpa using e
      subst e
      rw [lenI] at h
      have : l = [] := by simp at h; exact h.1.2
      subst this; rfl
    split at h
    · rename_i e
      have e : k = 5 := by simpa using e
      subst e
      rw [lenI] at h
      simp only [Bool.and_eq_true, beq_iff_eq] at h
      have h1 : l.length = 1 := by have := h.1.2; omega
      rw [hl h.2]
      simp [h1, h.1.1.1, h.1.1.2]
    split at h
    · rename_i e
      have e : k = 6 := by simpa using e
      subst e
      rw [lenI] at h
      simp only [Bool.and_eq_true, decide_eq_true_eq, beq_iff_eq] at h
      have h1 : 2 ≤ l.length := by have := h.1.1.1.2; omega
      have h2 : ((hd l).k != 6) = true := h.1.1.2
      rw [hl h.2, h2]
      simp [h1, h.1.1.1.1, h.1.2]
    · cases h
theorem valid_okL : ∀ l : List Tm, validL l = true → okL l = true
  | [], _ => rfl
  | t :: l, h => by
    simp only [validL, Bool.and_eq_true] at h
    simp only [okL, valid_ok t h.1, valid_okL l h.2, Bool.and_self]
end
theorem ok_ne {t : Tm} (h : okB t = true) : t.k = 6 → t.l ≠ [] := by
  obtain ⟨k, s, n, l⟩ := t
  intro hk
  obtain ⟨x, y, r, e, _⟩ := okB6 h hk
  show l ≠ []
  rw [e]; simp
/-! ### Normal -/
mutual
def normB : Tm → Bool
  | .mk k s n l => !redexB (.mk k s n l) && normL l
def normL : List Tm → Bool
  | [] => true
  | t :: l => normB t && normL l
end
def rednAt : List Tm → Int → Int
  | [], _ => -1
  | t :: l, i => if normB t = true then rednAt l (i + 1) else i
theorem rednAt_ge : ∀ (l : List Tm) (i : Int), 0 ≤ i → decide (rednAt l i ≥ 0) = !normL l
  | [], _, _ => rfl
  | t :: l, i, h => by
    rw [rednAt, normL]
    split
    · rename_i e; rw [rednAt_ge l (i + 1) (by omega), e, Bool.true_and]
    · rename_i e; rw [show normB t = false by simpa using e]; simp; omega
end Go.AM

set_option maxRecDepth 100000
open Go Go.Proofs
namespace Go.AM

/-! ### The document's: applied, with others within, shifted, put in -/
/-- No term's cells. -/
abbrev zT : List WV := [.a (.fz (.int .i64 0)), .a (.fz (.str [])), .a (.fz (.int .i64 0)), .a (.fz .nils)]
theorem apply_some (k : Int) (s : List UInt8) (n : Int) (l : List Tm) (a : Tm) (r : List Tm) : applyF (.mk k s n l) (a :: r) = if (k == 6) = true ∧ l ≠ [] then .mk 6 [] 0 (l ++ a :: r) else .mk 6 [] 0 (.mk k s n l :: a :: r) := rfl
end Go.AM
