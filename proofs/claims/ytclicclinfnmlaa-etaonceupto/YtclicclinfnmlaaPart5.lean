/- A calculus of plain values for the model's code, what the code of each function asks (computed by the kernel), contracts of the functions, and plain laws (part 5). No conditions. -/
import Derived.Test.YtclicclinfnmlaaPart3
import Derived.Test.YtclicclinfnmlaaPart4
set_option maxRecDepth 100000
open Go Go.Proofs
namespace Go.AM
/-- lambent/beta.occurs -/
def lv83 : List (Nat × List Nat) := [(3, [1, 5, 21, 22, 23])]
theorem v83 (t_0 : Int) (t_1 : List UInt8) (t_2 : Int) (t_3 : List (List FV)) (i : Int) (r : TV) (Hs' : List AObj) : vcE Try.prog sh lv83 83 [(.agg [(.a (.fz (.int .i64 t_0))), (.a (.fz (.str t_1))), (.a (.fz (.int .i64 t_2))), (.a (.fz (.sl false 4 t_3)))]), (.c (.a (.fz (.int .i64 i))))] [] (fun r0 Hs0 => TV.Le r0 r ∧ Hs0 = Hs') (RPt Try.prog 83 0 r Hs') =
    (br ((t_0 : Int) == (3 : Int)) (br ((t_2 : Int) == i) (TV.Le (.c (.a (.fz (.int .i64 (1 : Int))))) r ∧ [] = Hs') ((FV.isSl 4 (.sl false 4 t_3) = true) ∧ (RPt Try.prog 83 0 r Hs' 3 ⟨[(1, (.c (.a (.fz (.int .i64 i))))), (5, (.c (.a (.fz (.int .i64 (0 : Int)))))), (21, (.c (.a (.fz (.sl false 4 t_3))))), (22, (.c (.a (.fz (.int .i64 (((List.length t_3) : Nat) : Int)))))), (23, (.c (.a (.fz (.int .i64 (0 : Int))))))], [], 0⟩))) (br ((t_0 : Int) == (5 : Int)) ((FV.isSl 4 (.sl false 4 t_3) = true) ∧ (RPt Try.prog 83 0 r Hs' 3 ⟨[(1, (.c (.a (.fz (.int .i64 (IntKind.wrap .i64 (i + (1 : Int)))))))), (5, (.c (.a (.fz (.int .i64 (0 : Int)))))), (21, (.c (.a (.fz (.sl false 4 t_3))))), (22, (.c (.a (.fz (.int .i64 (((List.length t_3) : Nat) : Int)))))), (23, (.c (.a (.fz (.int .i64 (0 : Int))))))], [], 0⟩)) ((FV.isSl 4 (.sl false 4 t_3) = true) ∧ (RPt Try.prog 83 0 r Hs' 3 ⟨[(1, (.c (.a (.fz (.int .i64 i))))), (5, (.c (.a (.fz (.int .i64 (0 : Int)))))), (21, (.c (.a (.fz (.sl false 4 t_3))))), (22, (.c (.a (.fz (.int .i64 (((List.length t_3) : Nat) : Int)))))), (23, (.c (.a (.fz (.int .i64 (0 : Int))))))], [], 0⟩)))) := by kernel_rfl
theorem v83_3a (x1 : Int) (x5 : Int) (x21 : List (List FV)) (x22 : Int) (x23 : Int) (r : TV) (Hs' : List AObj) : vcP Try.prog sh lv83 83 0 (fun r0 Hs0 => TV.Le r0 r ∧ Hs0 = Hs') (RPt Try.prog 83 0 r Hs') 3 ⟨[(1, (.c (.a (.fz (.int .i64 x1))))), (5, (.c (.a (.fz (.int .i64 x5))))), (21, (.c (.a (.fz (.sl false 4 x21))))), (22, (.c (.a (.fz (.int .i64 x22))))), (23, (.c (.a (.fz (.int .i64 x23)))))], [], 0⟩ =
    (br (decide ((x23 : Int) < x22)) (((FV.isSl 4 (.sl false 4 x21) = true) ∧ ((0 ≤ x23) ∧ ((x23 < (((List.length x21) : Nat) : Int)) ∧ (((rE (List.getD x21 (Int.toNat x23) [])) : List FV) = (List.getD x21 (Int.toNat x23) []))))) ∧ (∃ n1 : Int, ((AC Try.prog 83 [(aE (List.getD x21 (Int.toNat x23) [])), (.c (.a (.fz (.int .i64 x1))))] [] (.c (.a (.fz (.int .i64 n1)))) []) ∧ (RPt Try.prog 83 0 r Hs' 3 ⟨[(1, (.c (.a (.fz (.int .i64 x1))))), (5, (.c (.a (.fz (.int .i64 (IntKind.wrap .i64 (x5 + n1))))))), (21, (.c (.a (.fz (.sl false 4 x21))))), (22, (.c (.a (.fz (.int .i64 x22))))), (23, (.c (.a (.fz (.int .i64 (IntKind.wrap .i64 (x23 + (1 : Int))))))))], [], 0⟩)))) (TV.Le (.c (.a (.fz (.int .i64 x5)))) r ∧ [] = Hs')) := by kernel_rfl
/-- lambent/beta.normal -/
def lv84 : List (Nat × List Nat) := []
theorem v84 (t_0 : Int) (t_1 : List UInt8) (t_2 : Int) (t_3 : List (List FV)) (r : TV) (Hs' : List AObj) : vcE Try.prog sh lv84 84 [(.agg [(.a (.fz (.int .i64 t_0))), (.a (.fz (.str t_1))), (.a (.fz (.int .i64 t_2))), (.a (.fz (.sl false 4 t_3)))])] [] (fun r0 Hs0 => TV.Le r0 r ∧ Hs0 = Hs') (RPt Try.prog 84 0 r Hs') =
    (∃ b1 : Bool, ((AC Try.prog 110 [(.agg [(.a (.fz (.int .i64 t_0))), (.a (.fz (.str t_1))), (.a (.fz (.int .i64 t_2))), (.a (.fz (.sl false 4 t_3)))])] [] (.c (.a (.fz (.bool b1)))) []) ∧ (br (!b1) (∃ b2 : Bool, ((AC Try.prog 60 [(.c (.a (.fz (.sl false 4 t_3)))), (.c (.fn (.func 113) [] []))] [] (.c (.a (.fz (.bool b2)))) []) ∧ (TV.Le (.c (.a (.fz (.bool (!b2))))) r ∧ [] = Hs'))) (TV.Le (.c (.a (.fz (.bool false)))) r ∧ [] = Hs')))) := by kernel_rfl
/-- lambent/lambentref08.redex -/
def lv85 : List (Nat × List Nat) := []
theorem v85 (t_0 : Int) (t_1 : List UInt8) (t_2 : Int) (t_3 : List (List FV)) (r : TV) (Hs' : List AObj) : vcE Try.prog sh lv85 85 [(.agg [(.a (.fz (.int .i64 t_0))), (.a (.fz (.str t_1))), (.a (.fz (.int .i64 t_2))), (.a (.fz (.sl false 4 t_3)))])] [] (fun r0 Hs0 => TV.Le r0 r ∧ Hs0 = Hs') (RPt Try.prog 85 0 r Hs') =
    (br ((t_0 : Int) == (6 : Int)) (((FV.isSl 4 (.sl false 4 t_3) = true) ∧ ((0 ≤ (0 : Int)) ∧ (((0 : Int) < (((List.length t_3) : Nat) : Int)) ∧ (((rE (List.getD t_3 0 [])) : List FV) = (List.getD t_3 0 []))))) ∧ (TV.Le (.c (.a (.fz (.bool (((FV.asI (List.getD (List.getD t_3 0 []) 0 FV.nils)) : Int) == (5 : Int)))))) r ∧ [] = Hs')) (TV.Le (.c (.a (.fz (.bool false)))) r ∧ [] = Hs')) := by kernel_rfl
/-- lambent/lambentref08.Contract -/
def lv86 : List (Nat × List Nat) := []
theorem v86 (t_0 : Int) (t_1 : List UInt8) (t_2 : Int) (t_3 : List (List FV)) (r : TV) (Hs' : List AObj) : vcE Try.prog sh lv86 86 [(.agg [(.a (.fz (.int .i64 t_0))), (.a (.fz (.str t_1))), (.a (.fz (.int .i64 t_2))), (.a (.fz (.sl false 4 t_3)))])] [] (fun r0 Hs0 => TV.Le r0 r ∧ Hs0 = Hs') (RPt Try.prog 86 0 r Hs') =
    (((FV.isSl 4 (.sl false 4 t_3) = true) ∧ ((0 ≤ (0 : Int)) ∧ (((0 : Int) < (((List.length t_3) : Nat) : Int)) ∧ (((rE (List.getD t_3 0 [])) : List FV) = (List.getD t_3 0 []))))) ∧ (((FV.isSl 4 (List.getD (List.getD t_3 0 []) 3 FV.nils) = true) ∧ ((0 ≤ (0 : Int)) ∧ (((0 : Int) < (((List.length (FV.ses (List.getD (List.getD t_3 0 []) 3 FV.nils))) : Nat) : Int)) ∧ (((rE (List.getD (FV.ses (List.getD (List.getD t_3 0 []) 3 FV.nils)) 0 [])) : List FV) = (List.getD (FV.ses (List.getD (List.getD t_3 0 []) 3 FV.nils)) 0 []))))) ∧ (((FV.isSl 4 (.sl false 4 t_3) = true) ∧ ((0 ≤ (1 : Int)) ∧ (((1 : Int) < (((List.length t_3) : Nat) : Int)) ∧ (((rE (List.getD t_3 1 [])) : List FV) = (List.getD t_3 1 []))))) ∧ (∃ b1 : Bool, ((AC Try.prog 35 [(aE (List.getD (FV.ses (List.getD (List.getD t_3 0 []) 3 FV.nils)) 0 [])), (aE (List.getD t_3 1 []))] [] (.c (.a (.fz (.bool b1)))) []) ∧ (br (!b1) (TV.Le (.tup [(true, [(.a (.fz (.int .i64 (0 : Int)))), (.a (.fz (.str []))), (.a (.fz (.int .i64 (0 : Int)))), (.a (.fz .nils))]), (false, [(.a (.fz (.bool false)))])]) r ∧ [] = Hs') (((FV.isSl 4 (.sl false 4 t_3) = true) ∧ ((0 ≤ (1 : Int)) ∧ (((1 : Int) < (((List.length t_3) : Nat) : Int)) ∧ (((rE (List.getD t_3 1 [])) : List FV) = (List.getD t_3 1 []))))) ∧ (∃ z2 : Tm, ((AC Try.prog 36 [(aE (List.getD (FV.ses (List.getD (List.getD t_3 0 []) 3 FV.nils)) 0 [])), (.c (.a (.fz (.int .i64 (0 : Int))))), (aE (List.getD t_3 1 []))] [] (aT z2) []) ∧ ((FV.isSl 4 (.sl false 4 t_3) = true) ∧ (((0 ≤ (2 : Int)) ∧ (((2 : Int) ≤ (((List.length t_3) : Nat) : Int)) ∧ ((((List.length t_3) : Nat) : Int) ≤ (((List.length t_3) : Nat) : Int)))) ∧ (∃ z3 : Tm, ((AC Try.prog 91 [(aT z2), (.c (.a (.fz (.sl false 4 (List.drop 2 (List.take (Int.toNat (((List.length t_3) : Nat) : Int)) t_3))))))] [] (aT z3) []) ∧ (TV.Le (.tup [(true, (cT z3)), (false, [(.a (.fz (.bool true)))])]) r ∧ [] = Hs')))))))))))))) := by kernel_rfl
/-- lambent/lambentref08.put -/
def lv87 : List (Nat × List Nat) := []
theorem v87 (t_0 : Int) (t_1 : List UInt8) (t_2 : Int) (t_3 : List (List FV)) (i : Int) (u_0 : Int) (u_1 : List UInt8) (u_2 : Int) (u_3 : List (List FV)) (r : TV) (Hs' : List AObj) : vcE Try.prog sh lv87 87 [(.agg [(.a (.fz (.int .i64 t_0))), (.a (.fz (.str t_1))), (.a (.fz (.int .i64 t_2))), (.a (.fz (.sl false 4 t_3)))]), (.c (.a (.fz (.int .i64 i)))), (.agg [(.a (.fz (.int .i64 u_0))), (.a (.fz (.str u_1))), (.a (.fz (.int .i64 u_2))), (.a (.fz (.sl false 4 u_3)))])] [] (fun r0 Hs0 => TV.Le r0 r ∧ Hs0 = Hs') (RPt Try.prog 87 0 r Hs') =
    ((FV.isSl 4 (.sl false 4 t_3) = true) ∧ (br (List.isEmpty t_3) (((FV.isSl 4 .nils = true) ∧ ((0 ≤ i) ∧ ((i < ((0 : Nat) : Int)) ∧ (((rE (List.getD [] (Int.toNat i) [])) : List FV) = (List.getD [] (Int.toNat i) []))))) ∧ False) ((roomB (List.length t_3) 56) ∧ ((0 ≤ i ∧ i < (((List.length t_3) : Nat) : Int)) ∧ (((0 + (Int.toNat i)) < (List.length t_3) ∧ (List.length (List.getD t_3 (0 + (Int.toNat i)) [])) = 4) ∧ (br ((t_0 : Int) == (6 : Int)) (br ((i : Int) == (0 : Int)) (((0 ≤ (1 : Int)) ∧ (((1 : Int) ≤ (((List.length t_3) : Nat) : Int)) ∧ ((((List.length t_3) : Nat) : Int) ≤ (((List.length t_3) : Nat) : Int)))) ∧ (((4 : Nat) = 4 ∧ (1 + ((Int.toNat (((List.length t_3) : Nat) : Int)) - 1)) ≤ (List.length (List.set t_3 (0 + (Int.toNat i)) [(.int .i64 u_0), (.str u_1), (.int .i64 u_2), (.sl false 4 u_3)]))) ∧ (∃ z1 : Tm, ((AC Try.prog 91 [(.agg [(.a (.fz (.int .i64 u_0))), (.a (.fz (.str u_1))), (.a (.fz (.int .i64 u_2))), (.a (.fz (.sl false 4 u_3)))]), (.c (.a (.fz (.sl true 4 (List.take ((Int.toNat (((List.length t_3) : Nat) : Int)) - 1) (List.drop 1 (List.set t_3 (0 + (Int.toNat i)) [(.int .i64 u_0), (.str u_1), (.int .i64 u_2), (.sl false 4 u_3)])))))))] [] (aT z1) []) ∧ (TV.Le (aT z1) r ∧ [] = Hs'))))) (((4 : Nat) = 4 ∧ (0 + (List.length t_3)) ≤ (List.length (List.set t_3 (0 + (Int.toNat i)) [(.int .i64 u_0), (.str u_1), (.int .i64 u_2), (.sl false 4 u_3)]))) ∧ (TV.Le (.agg [(.a (.fz (.int .i64 t_0))), (.a (.fz (.str []))), (.a (.fz (.int .i64 (0 : Int)))), (.a (.fz (.sl true 4 (List.take (List.length t_3) (List.drop 0 (List.set t_3 (0 + (Int.toNat i)) [(.int .i64 u_0), (.str u_1), (.int .i64 u_2), (.sl false 4 u_3)]))))))]) r ∧ [] = Hs'))) (((4 : Nat) = 4 ∧ (0 + (List.length t_3)) ≤ (List.length (List.set t_3 (0 + (Int.toNat i)) [(.int .i64 u_0), (.str u_1), (.int .i64 u_2), (.sl false 4 u_3)]))) ∧ (TV.Le (.agg [(.a (.fz (.int .i64 t_0))), (.a (.fz (.str []))), (.a (.fz (.int .i64 (0 : Int)))), (.a (.fz (.sl true 4 (List.take (List.length t_3) (List.drop 0 (List.set t_3 (0 + (Int.toNat i)) [(.int .i64 u_0), (.str u_1), (.int .i64 u_2), (.sl false 4 u_3)]))))))]) r ∧ [] = Hs')))))))) := by kernel_rfl
/-- lambent/beta.run -/
def lv107 : List (Nat × List Nat) := []
theorem v107 (t_0 : Int) (t_1 : List UInt8) (t_2 : Int) (t_3 : List (List FV)) (fuel : Int) (r : TV) (Hs' : List AObj) : vcE Try.prog sh lv107 107 [(.agg [(.a (.fz (.int .i64 t_0))), (.a (.fz (.str t_1))), (.a (.fz (.int .i64 t_2))), (.a (.fz (.sl false 4 t_3)))]), (.c (.a (.fz (.int .i64 fuel)))), (.c (.fn (.func 108) [] []))] [] (fun r0 Hs0 => TV.Le r0 r ∧ Hs0 = Hs') (RPt Try.prog 107 0 r Hs') =
    (∃ b1 : Bool, ((AC Try.prog 15 [(.agg [(.a (.fz (.int .i64 t_0))), (.a (.fz (.str t_1))), (.a (.fz (.int .i64 t_2))), (.a (.fz (.sl false 4 t_3)))])] [] (.c (.a (.fz (.bool b1)))) []) ∧ (br (!b1) (TV.Le (.tup [(true, [(.a (.fz (.int .i64 (0 : Int)))), (.a (.fz (.str []))), (.a (.fz (.int .i64 (0 : Int)))), (.a (.fz .nils))]), (false, [(.a (.fz (.int .i64 (0 : Int))))]), (false, [(.a (.fz (.int .i64 (1 : Int))))])]) r ∧ [] = Hs') (∃ z2 : Tm × Int × Int, ((AC Try.prog 108 [(.agg [(.a (.fz (.int .i64 t_0))), (.a (.fz (.str t_1))), (.a (.fz (.int .i64 t_2))), (.a (.fz (.sl false 4 t_3)))]), (.c (.a (.ep 0 1 0 0)))] [(.arr 1 [[(.a (.fz (.int .i64 fuel)))]])] (.tup [(true, (cT z2.1)), (false, [(.a (.fz (.int .i64 z2.2.1)))])]) [(.arr 1 [[(.a (.fz (.int .i64 z2.2.2)))]])]) ∧ (br ((z2.2.1 : Int) != (0 : Int)) (TV.Le (.tup [(true, [(.a (.fz (.int .i64 (0 : Int)))), (.a (.fz (.str []))), (.a (.fz (.int .i64 (0 : Int)))), (.a (.fz .nils))]), (false, [(.a (.fz (.int .i64 (0 : Int))))]), (false, [(.a (.fz (.int .i64 z2.2.1)))])]) r ∧ [] = Hs') (TV.Le (.tup [(true, (cT z2.1)), (false, [(.a (.fz (.int .i64 z2.2.2)))]), (false, [(.a (.fz (.int .i64 (0 : Int))))])]) r ∧ [] = Hs'))))))) := by kernel_rfl
/-- lambent/beta.run -/
theorem v107_i1 (t_0 : Int) (t_1 : List UInt8) (t_2 : Int) (t_3 : List (List FV)) (fuel : Int) (r : TV) (Hs' : List AObj) : vcE Try.prog sh lv107 107 [(.agg [(.a (.fz (.int .i64 t_0))), (.a (.fz (.str t_1))), (.a (.fz (.int .i64 t_2))), (.a (.fz (.sl false 4 t_3)))]), (.c (.a (.fz (.int .i64 fuel)))), (.c (.fn (.func 109) [] []))] [] (fun r0 Hs0 => TV.Le r0 r ∧ Hs0 = Hs') (RPt Try.prog 107 0 r Hs') =
    (∃ b1 : Bool, ((AC Try.prog 15 [(.agg [(.a (.fz (.int .i64 t_0))), (.a (.fz (.str t_1))), (.a (.fz (.int .i64 t_2))), (.a (.fz (.sl false 4 t_3)))])] [] (.c (.a (.fz (.bool b1)))) []) ∧ (br (!b1) (TV.Le (.tup [(true, [(.a (.fz (.int .i64 (0 : Int)))), (.a (.fz (.str []))), (.a (.fz (.int .i64 (0 : Int)))), (.a (.fz .nils))]), (false, [(.a (.fz (.int .i64 (0 : Int))))]), (false, [(.a (.fz (.int .i64 (1 : Int))))])]) r ∧ [] = Hs') (∃ z2 : Tm × Int × Int, ((AC Try.prog 109 [(.agg [(.a (.fz (.int .i64 t_0))), (.a (.fz (.str t_1))), (.a (.fz (.int .i64 t_2))), (.a (.fz (.sl false 4 t_3)))]), (.c (.a (.ep 0 1 0 0)))] [(.arr 1 [[(.a (.fz (.int .i64 fuel)))]])] (.tup [(true, (cT z2.1)), (false, [(.a (.fz (.int .i64 z2.2.1)))])]) [(.arr 1 [[(.a (.fz (.int .i64 z2.2.2)))]])]) ∧ (br ((z2.2.1 : Int) != (0 : Int)) (TV.Le (.tup [(true, [(.a (.fz (.int .i64 (0 : Int)))), (.a (.fz (.str []))), (.a (.fz (.int .i64 (0 : Int)))), (.a (.fz .nils))]), (false, [(.a (.fz (.int .i64 (0 : Int))))]), (false, [(.a (.fz (.int .i64 z2.2.1)))])]) r ∧ [] = Hs') (TV.Le (.tup [(true, (cT z2.1)), (false, [(.a (.fz (.int .i64 z2.2.2)))]), (false, [(.a (.fz (.int .i64 (0 : Int))))])]) r ∧ [] = Hs'))))))) := by kernel_rfl
/-- lambent/beta.redex -/
def lv110 : List (Nat × List Nat) := []
theorem v110 (t_0 : Int) (t_1 : List UInt8) (t_2 : Int) (t_3 : List (List FV)) (r : TV) (Hs' : List AObj) : vcE Try.prog sh lv110 110 [(.agg [(.a (.fz (.int .i64 t_0))), (.a (.fz (.str t_1))), (.a (.fz (.int .i64 t_2))), (.a (.fz (.sl false 4 t_3)))])] [] (fun r0 Hs0 => TV.Le r0 r ∧ Hs0 = Hs') (RPt Try.prog 110 0 r Hs') =
    (br ((t_0 : Int) == (6 : Int)) (((FV.isSl 4 (.sl false 4 t_3) = true) ∧ ((0 ≤ (0 : Int)) ∧ (((0 : Int) < (((List.length t_3) : Nat) : Int)) ∧ (((rE (List.getD t_3 0 [])) : List FV) = (List.getD t_3 0 []))))) ∧ (TV.Le (.c (.a (.fz (.bool (((FV.asI (List.getD (List.getD t_3 0 []) 0 FV.nils)) : Int) == (5 : Int)))))) r ∧ [] = Hs')) (TV.Le (.c (.a (.fz (.bool false)))) r ∧ [] = Hs')) := by kernel_rfl
/-- slices.Clone[[]lambent/api.Term,lambent/api.Term] -/
def lv111 : List (Nat × List Nat) := []
theorem v111  (r : TV) (Hs' : List AObj) : vcE Try.prog sh lv111 111 [(.c (.a (.fz .nils)))] [] (fun r0 Hs0 => TV.Le r0 r ∧ Hs0 = Hs') (RPt Try.prog 111 0 r Hs') =
    (TV.Le (.c (.a (.fz .nils))) r ∧ [] = Hs') := by kernel_rfl
/-- slices.Clone[[]lambent/api.Term,lambent/api.Term] -/
theorem v111_i1 (s : List (List FV)) (r : TV) (Hs' : List AObj) : vcE Try.prog sh lv111 111 [(.c (.a (.fz (.sl true 4 s))))] [] (fun r0 Hs0 => TV.Le r0 r ∧ Hs0 = Hs') (RPt Try.prog 111 0 r Hs') =
    ((FV.isSl 4 (.sl true 4 s) = true) ∧ ((0 ≤ 0 ∧ roomB (0 + (List.length s)) 56) ∧ (TV.Le (.c (.a (.osl 0 4 0 (0 + (List.length s))))) r ∧ [(.arz 4 ([] ++ s))] = Hs'))) := by kernel_rfl
/-- lambent/lambentref07.Shift -/
def lv92 : List (Nat × List Nat) := []
theorem v92 (t_0 : Int) (t_1 : List UInt8) (t_2 : Int) (t_3 : List (List FV)) (a1 : Int) (a2 : Int) (r : TV) (Hs' : List AObj) : vcE Try.prog sh lv92 92 [(.agg [(.a (.fz (.int .i64 t_0))), (.a (.fz (.str t_1))), (.a (.fz (.int .i64 t_2))), (.a (.fz (.sl false 4 t_3)))]), (.c (.a (.fz (.int .i64 a1)))), (.c (.a (.fz (.int .i64 a2))))] [] (fun r0 Hs0 => TV.Le r0 r ∧ Hs0 = Hs') (RPt Try.prog 92 0 r Hs') =
    (∃ z1 : Tm, ((AC Try.prog 115 [(.agg [(.a (.fz (.int .i64 t_0))), (.a (.fz (.str t_1))), (.a (.fz (.int .i64 t_2))), (.a (.fz (.sl false 4 t_3)))]), (.c (.a (.fz (.int .i64 a1)))), (.c (.a (.fz (.int .i64 a2)))), (.c (.a (.fz (.int .i64 (0 : Int)))))] [] (aT z1) []) ∧ (TV.Le (aT z1) r ∧ [] = Hs'))) := by kernel_rfl
/-- lambent/lambentref07.with -/
def lv112 : List (Nat × List Nat) := []
theorem v112 (t_0 : Int) (t_1 : List UInt8) (t_2 : Int) (t_3 : List (List FV)) (l : List (List FV)) (r : TV) (Hs' : List AObj) : vcE Try.prog sh lv112 112 [(.agg [(.a (.fz (.int .i64 t_0))), (.a (.fz (.str t_1))), (.a (.fz (.int .i64 t_2))), (.a (.fz (.sl false 4 t_3)))]), (.c (.a (.fz (.sl false 4 l))))] [] (fun r0 Hs0 => TV.Le r0 r ∧ Hs0 = Hs') (RPt Try.prog 112 0 r Hs') =
    (br ((t_0 : Int) == (6 : Int)) ((FV.isSl 4 (.sl false 4 l) = true) ∧ (br (decide (((((List.length l) : Nat) : Int) : Int) > (1 : Int))) (((FV.isSl 4 (.sl false 4 l) = true) ∧ ((0 ≤ (0 : Int)) ∧ (((0 : Int) < (((List.length l) : Nat) : Int)) ∧ (((rE (List.getD l 0 [])) : List FV) = (List.getD l 0 []))))) ∧ (br (((FV.asI (List.getD (List.getD l 0 []) 0 FV.nils)) : Int) == (6 : Int)) (((FV.isSl 4 (.sl false 4 t_3) = true) ∧ ((0 ≤ (0 : Int)) ∧ (((0 : Int) < (((List.length t_3) : Nat) : Int)) ∧ (((rE (List.getD t_3 0 [])) : List FV) = (List.getD t_3 0 []))))) ∧ (br (((FV.asI (List.getD (List.getD t_3 0 []) 0 FV.nils)) : Int) != (6 : Int)) (((FV.isSl 4 (.sl false 4 l) = true) ∧ ((0 ≤ (0 : Int)) ∧ (((0 : Int) < (((List.length l) : Nat) : Int)) ∧ (((rE (List.getD l 0 [])) : List FV) = (List.getD l 0 []))))) ∧ ((FV.isSl 4 (.sl false 4 l) = true) ∧ (((0 ≤ (1 : Int)) ∧ (((1 : Int) ≤ (((List.length l) : Nat) : Int)) ∧ ((((List.length l) : Nat) : Int) ≤ (((List.length l) : Nat) : Int)))) ∧ (∃ z1 : Tm, ((AC Try.prog 91 [(aE (List.getD l 0 [])), (.c (.a (.fz (.sl false 4 (List.drop 1 (List.take (Int.toNat (((List.length l) : Nat) : Int)) l))))))] [] (aT z1) []) ∧ (TV.Le (aT z1) r ∧ [] = Hs')))))) (TV.Le (.agg [(.a (.fz (.int .i64 t_0))), (.a (.fz (.str t_1))), (.a (.fz (.int .i64 t_2))), (.a (.fz (.sl false 4 l)))]) r ∧ [] = Hs'))) (TV.Le (.agg [(.a (.fz (.int .i64 t_0))), (.a (.fz (.str t_1))), (.a (.fz (.int .i64 t_2))), (.a (.fz (.sl false 4 l)))]) r ∧ [] = Hs'))) (TV.Le (.agg [(.a (.fz (.int .i64 t_0))), (.a (.fz (.str t_1))), (.a (.fz (.int .i64 t_2))), (.a (.fz (.sl false 4 l)))]) r ∧ [] = Hs'))) (TV.Le (.agg [(.a (.fz (.int .i64 t_0))), (.a (.fz (.str t_1))), (.a (.fz (.int .i64 t_2))), (.a (.fz (.sl false 4 l)))]) r ∧ [] = Hs')) := by kernel_rfl
/-- slices.ContainsFunc[[]lambent/api.Term,lambent/api.Term] -/
theorem v60_i1 (s : List (List FV)) (r : TV) (Hs' : List AObj) : vcE Try.prog sh lv60 60 [(.c (.a (.fz (.sl false 4 s)))), (.c (.fn (.func 113) [] []))] [] (fun r0 Hs0 => TV.Le r0 r ∧ Hs0 = Hs') (RPt Try.prog 60 0 r Hs') =
    (∃ n1 : Int, ((AC Try.prog 101 [(.c (.a (.fz (.sl false 4 s)))), (.c (.fn (.func 113) [] []))] [] (.c (.a (.fz (.int .i64 n1)))) []) ∧ (TV.Le (.c (.a (.fz (.bool (decide ((n1 : Int) ≥ (0 : Int))))))) r ∧ [] = Hs'))) := by kernel_rfl
/-- lambent/lambentref07.Apply -/
def lv91 : List (Nat × List Nat) := []
theorem v91 (f_0 : Int) (f_1 : List UInt8) (f_2 : Int) (f_3 : List (List FV)) (args : List (List FV)) (r : TV) (Hs' : List AObj) : vcE Try.prog sh lv91 91 [(.agg [(.a (.fz (.int .i64 f_0))), (.a (.fz (.str f_1))), (.a (.fz (.int .i64 f_2))), (.a (.fz (.sl false 4 f_3)))]), (.c (.a (.fz (.sl false 4 args))))] [] (fun r0 Hs0 => TV.Le r0 r ∧ Hs0 = Hs') (RPt Try.prog 91 0 r Hs') =
    ((FV.isSl 4 (.sl false 4 args) = true) ∧ (br (((((List.length args) : Nat) : Int) : Int) == (0 : Int)) (TV.Le (.agg [(.a (.fz (.int .i64 f_0))), (.a (.fz (.str f_1))), (.a (.fz (.int .i64 f_2))), (.a (.fz (.sl false 4 f_3)))]) r ∧ [] = Hs') (br ((f_0 : Int) == (6 : Int)) ((FV.isSl 4 (.sl false 4 f_3) = true) ∧ (br (decide (((((List.length f_3) : Nat) : Int) : Int) > (0 : Int))) ((FV.isSl 4 (.sl false 4 f_3) = true) ∧ (br (List.isEmpty f_3) ((FV.isSl 4 (.sl false 4 args) = true) ∧ (br (List.isEmpty args) (TV.Le (.agg [(.a (.fz (.int .i64 (6 : Int)))), (.a (.fz (.str []))), (.a (.fz (.int .i64 (0 : Int)))), (.a (.fz .nils))]) r ∧ [] = Hs') ((roomB (List.length args) 56) ∧ (((4 : Nat) = 4 ∧ (0 + (List.length args)) ≤ (List.length args)) ∧ (TV.Le (.agg [(.a (.fz (.int .i64 (6 : Int)))), (.a (.fz (.str []))), (.a (.fz (.int .i64 (0 : Int)))), (.a (.fz (.sl true 4 (List.take (List.length args) (List.drop 0 args)))))]) r ∧ [] = Hs'))))) ((roomB (List.length f_3) 56) ∧ ((FV.isSl 4 (.sl false 4 args) = true) ∧ (((List.length f_3) ≤ (List.length f_3) ∧ roomB ((List.length f_3) + (List.length args)) 56) ∧ (((4 : Nat) = 4 ∧ (0 + ((List.length f_3) + (List.length args))) ≤ (List.length ((List.take (List.length f_3) f_3) ++ args))) ∧ (TV.Le (.agg [(.a (.fz (.int .i64 (6 : Int)))), (.a (.fz (.str []))), (.a (.fz (.int .i64 (0 : Int)))), (.a (.fz (.sl true 4 (List.take ((List.length f_3) + (List.length args)) (List.drop 0 ((List.take (List.length f_3) f_3) ++ args))))))]) r ∧ [] = Hs'))))))) ((1 ≤ 1) ∧ ((roomB 1 56) ∧ ((FV.isSl 4 (.sl false 4 args) = true) ∧ ((1 ≤ 1 ∧ roomB (1 + (List.length args)) 56) ∧ (((4 : Nat) = 4 ∧ (0 + (1 + (List.length args))) ≤ (List.length ([[(.int .i64 f_0), (.str f_1), (.int .i64 f_2), (.sl false 4 f_3)]] ++ args))) ∧ (TV.Le (.agg [(.a (.fz (.int .i64 (6 : Int)))), (.a (.fz (.str []))), (.a (.fz (.int .i64 (0 : Int)))), (.a (.fz (.sl true 4 (List.take (1 + (List.length args)) (List.drop 0 ([[(.int .i64 f_0), (.str f_1), (.int .i64 f_2), (.sl false 4 f_3)]] ++ args))))))]) r ∧ [] = Hs')))))))) ((1 ≤ 1) ∧ ((roomB 1 56) ∧ ((FV.isSl 4 (.sl false 4 args) = true) ∧ ((1 ≤ 1 ∧ roomB (1 + (List.length args)) 56) ∧ (((4 : Nat) = 4 ∧ (0 + (1 + (List.length args))) ≤ (List.length ([[(.int .i64 f_0), (.str f_1), (.int .i64 f_2), (.sl false 4 f_3)]] ++ args))) ∧ (TV.Le (.agg [(.a (.fz (.int .i64 (6 : Int)))), (.a (.fz (.str []))), (.a (.fz (.int .i64 (0 : Int)))), (.a (.fz (.sl true 4 (List.take (1 + (List.length args)) (List.drop 0 ([[(.int .i64 f_0), (.str f_1), (.int .i64 f_2), (.sl false 4 f_3)]] ++ args))))))]) r ∧ [] = Hs'))))))))) := by kernel_rfl
/-- lambent/beta.norm -/
def lv108 : List (Nat × List Nat) := [(1, [1, 2, 4, 9, 43, 44, 45])]
theorem v108 (t_0 : Int) (t_1 : List UInt8) (t_2 : Int) (t_3 : List (List FV)) (o0_0 : Int) (r : TV) (Hs' : List AObj) : vcE Try.prog sh lv108 108 [(.agg [(.a (.fz (.int .i64 t_0))), (.a (.fz (.str t_1))), (.a (.fz (.int .i64 t_2))), (.a (.fz (.sl false 4 t_3)))]), (.c (.a (.ep 0 1 0 0)))] [(.arr 1 [[(.a (.fz (.int .i64 o0_0)))]])] (fun r0 Hs0 => TV.Le r0 r ∧ Hs0 = Hs') (RPt Try.prog 108 1 r Hs') =
    (∃ z1 : Tm × Int × Int, ((AC Try.prog 109 [(.agg [(.a (.fz (.int .i64 t_0))), (.a (.fz (.str t_1))), (.a (.fz (.int .i64 t_2))), (.a (.fz (.sl false 4 t_3)))]), (.c (.a (.ep 0 1 0 0)))] [(.arr 1 [[(.a (.fz (.int .i64 o0_0)))]])] (.tup [(true, (cT z1.1)), (false, [(.a (.fz (.int .i64 z1.2.1)))])]) [(.arr 1 [[(.a (.fz (.int .i64 z1.2.2)))]])]) ∧ (br ((z1.2.1 : Int) != (0 : Int)) (TV.Le (.tup [(true, [(.a (.fz (.int .i64 (0 : Int)))), (.a (.fz (.str []))), (.a (.fz (.int .i64 (0 : Int)))), (.a (.fz .nils))]), (false, [(.a (.fz (.int .i64 z1.2.1)))])]) r ∧ [(.arr 1 [[(.a (.fz (.int .i64 z1.2.2)))]])] = Hs') (br ((z1.1.k : Int) == (5 : Int)) (((FV.isSl 4 (.sl false 4 (FTs z1.1.l)) = true) ∧ ((0 ≤ (0 : Int)) ∧ (((0 : Int) < (((List.length (FTs z1.1.l)) : Nat) : Int)) ∧ (((rE (List.getD (FTs z1.1.l) 0 [])) : List FV) = (List.getD (FTs z1.1.l) 0 []))))) ∧ (∃ z2 : Tm × Int × Int, ((AC Try.prog 108 [(aE (List.getD (FTs z1.1.l) 0 [])), (.c (.a (.ep 0 1 0 0)))] [(.arr 1 [[(.a (.fz (.int .i64 z1.2.2)))]])] (.tup [(true, (cT z2.1)), (false, [(.a (.fz (.int .i64 z2.2.1)))])]) [(.arr 1 [[(.a (.fz (.int .i64 z2.2.2)))]])]) ∧ (br ((z2.2.1 : Int) != (0 : Int)) (TV.Le (.tup [(true, [(.a (.fz (.int .i64 (0 : Int)))), (.a (.fz (.str []))), (.a (.fz (.int .i64 (0 : Int)))), (.a (.fz .nils))]), (false, [(.a (.fz (.int .i64 z2.2.1)))])]) r ∧ [(.arr 1 [[(.a (.fz (.int .i64 z2.2.2)))]])] = Hs') (∃ z3 : Tm, ((AC Try.prog 22 [(.c (.a (.fz (.int .i64 (1 : Int))))), (aT z2.1)] [] (aT z3) []) ∧ (TV.Le (.tup [(true, (cT z3)), (false, [(.a (.fz (.int .i64 (0 : Int))))])]) r ∧ [(.arr 1 [[(.a (.fz (.int .i64 z2.2.2)))]])] = Hs'))))))) ((∃ z4 : Bool, ((AC Try.prog 111 [(.c (.a (.fz (.sl false 4 (FTs z1.1.l)))))] [] (.c (.a (.fz (.sl z4 4 [])))) []) ∧ ((FV.isSl 4 (.sl z4 4 []) = true) ∧ (RPt Try.prog 108 1 r Hs' 1 ⟨[(1, (.c (.a (.ep 0 1 0 0)))), (2, (.c (.a (.ep 1 4 0 0)))), (4, (.c (.a (.ep 2 4 0 0)))), (9, (.c (.a (.fz (.sl z4 4 []))))), (43, (.c (.a (.fz (.sl z4 4 []))))), (44, (.c (.a (.fz (.int .i64 (0 : Int)))))), (45, (.c (.a (.fz (.int .i64 (0 : Int))))))], [(0, (.arr 1 [[(.a (.fz (.int .i64 z1.2.2)))]])), (1, (.arr 4 [(cT z1.1)])), (2, (.arr 4 [[(.a (.fz (.int .i64 (0 : Int)))), (.a (.fz (.str []))), (.a (.fz (.int .i64 (0 : Int)))), (.a (.fz .nils))]]))], 3⟩)))) ∨ (∃ z5 : List (List FV), ((AC Try.prog 111 [(.c (.a (.fz (.sl false 4 (FTs z1.1.l)))))] [] (.c (.a (.osl 0 4 0 (List.length z5)))) [(.arz 4 z5)]) ∧ (RPt Try.prog 108 1 r Hs' 1 ⟨[(1, (.c (.a (.ep 0 1 0 0)))), (2, (.c (.a (.ep 1 4 0 0)))), (4, (.c (.a (.ep 2 4 0 0)))), (9, (.c (.a (.osl 3 4 0 (List.length z5))))), (43, (.c (.a (.osl 3 4 0 (List.length z5))))), (44, (.c (.a (.fz (.int .i64 (((List.length z5) : Nat) : Int)))))), (45, (.c (.a (.fz (.int .i64 (0 : Int))))))], [(0, (.arr 1 [[(.a (.fz (.int .i64 z1.2.2)))]])), (1, (.arr 4 [(cT z1.1)])), (2, (.arr 4 [[(.a (.fz (.int .i64 (0 : Int)))), (.a (.fz (.str []))), (.a (.fz (.int .i64 (0 : Int)))), (.a (.fz .nils))]])), (3, (.arz 4 z5))], 4⟩)))))))) := by kernel_rfl
theorem v108_1a (x9n : Bool) (x9 : List (List FV)) (x43n : Bool) (x43 : List (List FV)) (x44 : Int) (x45 : Int) (h0_0 : Int) (h1_0 : Int) (h1_1 : List UInt8) (h1_2 : Int) (h1_3 : List (List FV)) (h2_0 : Int) (h2_1 : List UInt8) (h2_2 : Int) (r : TV) (Hs' : List AObj) : vcP Try.prog sh lv108 108 1 (fun r0 Hs0 => TV.Le r0 r ∧ Hs0 = Hs') (RPt Try.prog 108 1 r Hs') 1 ⟨[(1, (.c (.a (.ep 0 1 0 0)))), (2, (.c (.a (.ep 1 4 0 0)))), (4, (.c (.a (.ep 2 4 0 0)))), (9, (.c (.a (.fz (.sl x9n 4 x9))))), (43, (.c (.a (.fz (.sl x43n 4 x43))))), (44, (.c (.a (.fz (.int .i64 x44))))), (45, (.c (.a (.fz (.int .i64 x45)))))], [(0, (.arr 1 [[(.a (.fz (.int .i64 h0_0)))]])), (1, (.arr 4 [[(.a (.fz (.int .i64 h1_0))), (.a (.fz (.str h1_1))), (.a (.fz (.int .i64 h1_2))), (.a (.fz (.sl false 4 h1_3)))]])), (2, (.arr 4 [[(.a (.fz (.int .i64 h2_0))), (.a (.fz (.str h2_1))), (.a (.fz (.int .i64 h2_2))), (.a (.fz .nils))]]))], 3⟩ =
    (br (decide ((x45 : Int) < x44)) (((FV.isSl 4 (.sl x43n 4 x43) = true) ∧ ((0 ≤ x45) ∧ ((x45 < (((List.length x43) : Nat) : Int)) ∧ (((rE (List.getD x43 (Int.toNat x45) [])) : List FV) = (List.getD x43 (Int.toNat x45) []))))) ∧ (∃ z1 : Tm × Int × Int, ((AC Try.prog 108 [(aE (List.getD x43 (Int.toNat x45) [])), (.c (.a (.ep 0 1 0 0)))] [(.arr 1 [[(.a (.fz (.int .i64 h0_0)))]])] (.tup [(true, (cT z1.1)), (false, [(.a (.fz (.int .i64 z1.2.1)))])]) [(.arr 1 [[(.a (.fz (.int .i64 z1.2.2)))]])]) ∧ (((FV.isSl 4 (.sl x9n 4 x9) = true) ∧ ((0 ≤ x45) ∧ ((x45 < (((List.length x9) : Nat) : Int)) ∧ (((rE (List.getD x9 (Int.toNat x45) [])) : List FV) = (List.getD x9 (Int.toNat x45) []))))) ∧ False)))) (TV.Le (.tup [(true, [(.a (.fz (.int .i64 h1_0))), (.a (.fz (.str h1_1))), (.a (.fz (.int .i64 h1_2))), (.a (.fz (.sl x9n 4 x9)))]), (false, [(.a (.fz (.int .i64 (0 : Int))))])]) r ∧ [(.arr 1 [[(.a (.fz (.int .i64 h0_0)))]])] = Hs')) := by kernel_rfl
theorem v108_1b (x9l : Nat) (x43l : Nat) (x44 : Int) (x45 : Int) (h0_0 : Int) (h1_0 : Int) (h1_1 : List UInt8) (h1_2 : Int) (h1_3 : List (List FV)) (h2_0 : Int) (h2_1 : List UInt8) (h2_2 : Int) (h3 : List (List FV)) (r : TV) (Hs' : List AObj) : vcP Try.prog sh lv108 108 1 (fun r0 Hs0 => TV.Le r0 r ∧ Hs0 = Hs') (RPt Try.prog 108 1 r Hs') 1 ⟨[(1, (.c (.a (.ep 0 1 0 0)))), (2, (.c (.a (.ep 1 4 0 0)))), (4, (.c (.a (.ep 2 4 0 0)))), (9, (.c (.a (.osl 3 4 0 x9l)))), (43, (.c (.a (.osl 3 4 0 x43l)))), (44, (.c (.a (.fz (.int .i64 x44))))), (45, (.c (.a (.fz (.int .i64 x45)))))], [(0, (.arr 1 [[(.a (.fz (.int .i64 h0_0)))]])), (1, (.arr 4 [[(.a (.fz (.int .i64 h1_0))), (.a (.fz (.str h1_1))), (.a (.fz (.int .i64 h1_2))), (.a (.fz (.sl false 4 h1_3)))]])), (2, (.arr 4 [[(.a (.fz (.int .i64 h2_0))), (.a (.fz (.str h2_1))), (.a (.fz (.int .i64 h2_2))), (.a (.fz .nils))]])), (3, (.arz 4 h3))], 4⟩ =
    (br (decide ((x45 : Int) < x44)) ((0 ≤ x45 ∧ x45 < ((x43l : Nat) : Int)) ∧ ((((0 + (Int.toNat x45)) < (List.length h3)) ∧ ((((rE (List.getD h3 (0 + (Int.toNat x45)) [])) : List FV) = (List.take 4 (List.drop 0 (List.getD h3 (0 + (Int.toNat x45)) [])))) ∧ ((4 : Nat) = 4))) ∧ (∃ z1 : Tm × Int × Int, ((AC Try.prog 108 [(aE (List.getD h3 (0 + (Int.toNat x45)) [])), (.c (.a (.ep 0 1 0 0)))] [(.arr 1 [[(.a (.fz (.int .i64 h0_0)))]])] (.tup [(true, (cT z1.1)), (false, [(.a (.fz (.int .i64 z1.2.1)))])]) [(.arr 1 [[(.a (.fz (.int .i64 z1.2.2)))]])]) ∧ ((0 ≤ x45 ∧ x45 < ((x9l : Nat) : Int)) ∧ (((0 + (Int.toNat x45)) < (List.length h3) ∧ (List.length (List.getD h3 (0 + (Int.toNat x45)) [])) = 4) ∧ (br ((z1.2.1 : Int) != (0 : Int)) (TV.Le (.tup [(true, [(.a (.fz (.int .i64 (0 : Int)))), (.a (.fz (.str []))), (.a (.fz (.int .i64 (0 : Int)))), (.a (.fz .nils))]), (false, [(.a (.fz (.int .i64 z1.2.1)))])]) r ∧ [(.arr 1 [[(.a (.fz (.int .i64 z1.2.2)))]])] = Hs') (RPt Try.prog 108 1 r Hs' 1 ⟨[(1, (.c (.a (.ep 0 1 0 0)))), (2, (.c (.a (.ep 1 4 0 0)))), (4, (.c (.a (.ep 2 4 0 0)))), (9, (.c (.a (.osl 3 4 0 x9l)))), (43, (.c (.a (.osl 3 4 0 x43l)))), (44, (.c (.a (.fz (.int .i64 x44))))), (45, (.c (.a (.fz (.int .i64 (IntKind.wrap .i64 (x45 + (1 : Int))))))))], [(0, (.arr 1 [[(.a (.fz (.int .i64 z1.2.2)))]])), (1, (.arr 4 [[(.a (.fz (.int .i64 h1_0))), (.a (.fz (.str h1_1))), (.a (.fz (.int .i64 h1_2))), (.a (.fz (.sl false 4 h1_3)))]])), (2, (.arr 4 [[(.a (.fz (.int .i64 h2_0))), (.a (.fz (.str h2_1))), (.a (.fz (.int .i64 h2_2))), (.a (.fz .nils))]])), (3, (.arz 4 (List.set h3 (0 + (Int.toNat x45)) (FT4 z1.1))))], 4⟩)))))))) ((((4 : Nat) = 4 ∧ (0 + x9l) ≤ (List.length h3)) ∧ True) ∧ (TV.Le (.tup [(true, [(.a (.fz (.int .i64 h1_0))), (.a (.fz (.str h1_1))), (.a (.fz (.int .i64 h1_2))), (.a (.fz (.sl true 4 (List.take x9l (List.drop 0 h3)))))]), (false, [(.a (.fz (.int .i64 (0 : Int))))])]) r ∧ [(.arr 1 [[(.a (.fz (.int .i64 h0_0)))]])] = Hs'))) := by kernel_rfl
/-- lambent/beta.head -/
def lv109 : List (Nat × List Nat) := [(1, [1, 2, 4])]
theorem v109 (t_0 : Int) (t_1 : List UInt8) (t_2 : Int) (t_3 : List (List FV)) (o0_0 : Int) (r : TV) (Hs' : List AObj) : vcE Try.prog sh lv109 109 [(.agg [(.a (.fz (.int .i64 t_0))), (.a (.fz (.str t_1))), (.a (.fz (.int .i64 t_2))), (.a (.fz (.sl false 4 t_3)))]), (.c (.a (.ep 0 1 0 0)))] [(.arr 1 [[(.a (.fz (.int .i64 o0_0)))]])] (fun r0 Hs0 => TV.Le r0 r ∧ Hs0 = Hs') (RPt Try.prog 109 1 r Hs') =
    (RPt Try.prog 109 1 r Hs' 1 ⟨[(1, (.c (.a (.ep 0 1 0 0)))), (2, (.c (.a (.ep 1 4 0 0)))), (4, (.c (.a (.ep 2 4 0 0))))], [(0, (.arr 1 [[(.a (.fz (.int .i64 o0_0)))]])), (1, (.arr 4 [[(.a (.fz (.int .i64 t_0))), (.a (.fz (.str t_1))), (.a (.fz (.int .i64 t_2))), (.a (.fz (.sl false 4 t_3)))]])), (2, (.arr 4 [[(.a (.fz (.int .i64 (0 : Int)))), (.a (.fz (.str []))), (.a (.fz (.int .i64 (0 : Int)))), (.a (.fz .nils))]]))], 3⟩) := by kernel_rfl
theorem v109_1a (h0_0 : Int) (h1_0 : Int) (h1_1 : List UInt8) (h1_2 : Int) (h1_3 : List (List FV)) (h2_0 : Int) (h2_1 : List UInt8) (h2_2 : Int) (r : TV) (Hs' : List AObj) : vcP Try.prog sh lv109 109 1 (fun r0 Hs0 => TV.Le r0 r ∧ Hs0 = Hs') (RPt Try.prog 109 1 r Hs') 1 ⟨[(1, (.c (.a (.ep 0 1 0 0)))), (2, (.c (.a (.ep 1 4 0 0)))), (4, (.c (.a (.ep 2 4 0 0))))], [(0, (.arr 1 [[(.a (.fz (.int .i64 h0_0)))]])), (1, (.arr 4 [[(.a (.fz (.int .i64 h1_0))), (.a (.fz (.str h1_1))), (.a (.fz (.int .i64 h1_2))), (.a (.fz (.sl false 4 h1_3)))]])), (2, (.arr 4 [[(.a (.fz (.int .i64 h2_0))), (.a (.fz (.str h2_1))), (.a (.fz (.int .i64 h2_2))), (.a (.fz .nils))]]))], 3⟩ =
    (∃ b1 : Bool, ((AC Try.prog 110 [(.agg [(.a (.fz (.int .i64 h1_0))), (.a (.fz (.str h1_1))), (.a (.fz (.int .i64 h1_2))), (.a (.fz (.sl false 4 h1_3)))])] [] (.c (.a (.fz (.bool b1)))) []) ∧ (br b1 (br (decide ((h0_0 : Int) ≤ (0 : Int))) (TV.Le (.tup [(true, [(.a (.fz (.int .i64 (0 : Int)))), (.a (.fz (.str []))), (.a (.fz (.int .i64 (0 : Int)))), (.a (.fz .nils))]), (false, [(.a (.fz (.int .i64 (80 : Int))))])]) r ∧ [(.arr 1 [[(.a (.fz (.int .i64 h0_0)))]])] = Hs') (((FV.isSl 4 (.sl false 4 h1_3) = true) ∧ ((0 ≤ (0 : Int)) ∧ (((0 : Int) < (((List.length h1_3) : Nat) : Int)) ∧ (((rE (List.getD h1_3 0 [])) : List FV) = (List.getD h1_3 0 []))))) ∧ (((FV.isSl 4 (List.getD (List.getD h1_3 0 []) 3 FV.nils) = true) ∧ ((0 ≤ (0 : Int)) ∧ (((0 : Int) < (((List.length (FV.ses (List.getD (List.getD h1_3 0 []) 3 FV.nils))) : Nat) : Int)) ∧ (((rE (List.getD (FV.ses (List.getD (List.getD h1_3 0 []) 3 FV.nils)) 0 [])) : List FV) = (List.getD (FV.ses (List.getD (List.getD h1_3 0 []) 3 FV.nils)) 0 []))))) ∧ (((FV.isSl 4 (.sl false 4 h1_3) = true) ∧ ((0 ≤ (1 : Int)) ∧ (((1 : Int) < (((List.length h1_3) : Nat) : Int)) ∧ (((rE (List.getD h1_3 1 [])) : List FV) = (List.getD h1_3 1 []))))) ∧ (∃ z2 : Tm × Int, ((AC Try.prog 81 [(aE (List.getD (FV.ses (List.getD (List.getD h1_3 0 []) 3 FV.nils)) 0 [])), (aE (List.getD h1_3 1 []))] [] (.tup [(true, (cT z2.1)), (false, [(.a (.fz (.int .i64 z2.2)))])]) []) ∧ (br ((z2.2 : Int) != (0 : Int)) (TV.Le (.tup [(true, [(.a (.fz (.int .i64 (0 : Int)))), (.a (.fz (.str []))), (.a (.fz (.int .i64 (0 : Int)))), (.a (.fz .nils))]), (false, [(.a (.fz (.int .i64 z2.2)))])]) r ∧ [(.arr 1 [[(.a (.fz (.int .i64 h0_0)))]])] = Hs') ((FV.isSl 4 (.sl false 4 h1_3) = true) ∧ (((0 ≤ (2 : Int)) ∧ (((2 : Int) ≤ (((List.length h1_3) : Nat) : Int)) ∧ ((((List.length h1_3) : Nat) : Int) ≤ (((List.length h1_3) : Nat) : Int)))) ∧ (∃ z3 : Tm, ((AC Try.prog 21 [(aT z2.1), (.c (.a (.fz (.sl false 4 (List.drop 2 (List.take (Int.toNat (((List.length h1_3) : Nat) : Int)) h1_3))))))] [] (aT z3) []) ∧ (RPt Try.prog 109 1 r Hs' 1 ⟨[(1, (.c (.a (.ep 0 1 0 0)))), (2, (.c (.a (.ep 1 4 0 0)))), (4, (.c (.a (.ep 2 4 0 0))))], [(0, (.arr 1 [[(.a (.fz (.int .i64 (IntKind.wrap .i64 (h0_0 - (1 : Int))))))]])), (1, (.arr 4 [(cT z3)])), (2, (.arr 4 [[(.a (.fz (.int .i64 h2_0))), (.a (.fz (.str h2_1))), (.a (.fz (.int .i64 h2_2))), (.a (.fz .nils))]]))], 3⟩)))))))))))) (br ((h1_0 : Int) != (5 : Int)) (TV.Le (.tup [(true, [(.a (.fz (.int .i64 h1_0))), (.a (.fz (.str h1_1))), (.a (.fz (.int .i64 h1_2))), (.a (.fz (.sl false 4 h1_3)))]), (false, [(.a (.fz (.int .i64 (0 : Int))))])]) r ∧ [(.arr 1 [[(.a (.fz (.int .i64 h0_0)))]])] = Hs') (((FV.isSl 4 (.sl false 4 h1_3) = true) ∧ ((0 ≤ (0 : Int)) ∧ (((0 : Int) < (((List.length h1_3) : Nat) : Int)) ∧ (((rE (List.getD h1_3 0 [])) : List FV) = (List.getD h1_3 0 []))))) ∧ (∃ z4 : Tm × Int × Int, ((AC Try.prog 109 [(aE (List.getD h1_3 0 [])), (.c (.a (.ep 0 1 0 0)))] [(.arr 1 [[(.a (.fz (.int .i64 h0_0)))]])] (.tup [(true, (cT z4.1)), (false, [(.a (.fz (.int .i64 z4.2.1)))])]) [(.arr 1 [[(.a (.fz (.int .i64 z4.2.2)))]])]) ∧ (br ((z4.2.1 : Int) != (0 : Int)) (TV.Le (.tup [(true, [(.a (.fz (.int .i64 (0 : Int)))), (.a (.fz (.str []))), (.a (.fz (.int .i64 (0 : Int)))), (.a (.fz .nils))]), (false, [(.a (.fz (.int .i64 z4.2.1)))])]) r ∧ [(.arr 1 [[(.a (.fz (.int .i64 z4.2.2)))]])] = Hs') (∃ z5 : Tm, ((AC Try.prog 22 [(.c (.a (.fz (.int .i64 (1 : Int))))), (aT z4.1)] [] (aT z5) []) ∧ (TV.Le (.tup [(true, (cT z5)), (false, [(.a (.fz (.int .i64 (0 : Int))))])]) r ∧ [(.arr 1 [[(.a (.fz (.int .i64 z4.2.2)))]])] = Hs'))))))))))) := by kernel_rfl
/-- lambent/lambentref07.shift -/
def lv115 : List (Nat × List Nat) := [(1, [1, 2, 3, 4, 8, 10, 11])]
theorem v115 (t_0 : Int) (t_1 : List UInt8) (t_2 : Int) (t_3 : List (List FV)) (a1 : Int) (a2 : Int) (k : Int) (r : TV) (Hs' : List AObj) : vcE Try.prog sh lv115 115 [(.agg [(.a (.fz (.int .i64 t_0))), (.a (.fz (.str t_1))), (.a (.fz (.int .i64 t_2))), (.a (.fz (.sl false 4 t_3)))]), (.c (.a (.fz (.int .i64 a1)))), (.c (.a (.fz (.int .i64 a2)))), (.c (.a (.fz (.int .i64 k))))] [] (fun r0 Hs0 => TV.Le r0 r ∧ Hs0 = Hs') (RPt Try.prog 115 0 r Hs') =
    (br ((t_0 : Int) == (3 : Int)) (br (decide ((t_2 : Int) ≥ (IntKind.wrap .i64 (k + a1)))) (TV.Le (.agg [(.a (.fz (.int .i64 t_0))), (.a (.fz (.str t_1))), (.a (.fz (.int .i64 (IntKind.wrap .i64 (t_2 + a2))))), (.a (.fz (.sl false 4 t_3)))]) r ∧ [] = Hs') (∃ b1 : Bool, ((AC Try.prog 73 [(.agg [(.a (.fz (.int .i64 t_0))), (.a (.fz (.str t_1))), (.a (.fz (.int .i64 t_2))), (.a (.fz (.sl false 4 t_3)))])] [] (.c (.a (.fz (.bool b1)))) []) ∧ (br (!b1) (TV.Le (.agg [(.a (.fz (.int .i64 t_0))), (.a (.fz (.str t_1))), (.a (.fz (.int .i64 t_2))), (.a (.fz (.sl false 4 t_3)))]) r ∧ [] = Hs') (RPt Try.prog 115 0 r Hs' 1 ⟨[(1, (.c (.a (.fz (.int .i64 a1))))), (2, (.c (.a (.fz (.int .i64 a2))))), (3, (.c (.a (.fz (.int .i64 k))))), (4, (.c (.a (.ep 0 4 0 0)))), (8, (.c (.a (.ep 1 4 0 0)))), (10, (.c (.a (.fz .nils)))), (11, (.c (.a (.fz (.int .i64 (0 : Int))))))], [(0, (.arr 4 [[(.a (.fz (.int .i64 t_0))), (.a (.fz (.str t_1))), (.a (.fz (.int .i64 t_2))), (.a (.fz (.sl false 4 t_3)))]])), (1, (.arr 4 [[(.a (.fz (.int .i64 (0 : Int)))), (.a (.fz (.str []))), (.a (.fz (.int .i64 (0 : Int)))), (.a (.fz .nils))]]))], 2⟩))))) (∃ b2 : Bool, ((AC Try.prog 73 [(.agg [(.a (.fz (.int .i64 t_0))), (.a (.fz (.str t_1))), (.a (.fz (.int .i64 t_2))), (.a (.fz (.sl false 4 t_3)))])] [] (.c (.a (.fz (.bool b2)))) []) ∧ (br (!b2) (TV.Le (.agg [(.a (.fz (.int .i64 t_0))), (.a (.fz (.str t_1))), (.a (.fz (.int .i64 t_2))), (.a (.fz (.sl false 4 t_3)))]) r ∧ [] = Hs') (RPt Try.prog 115 0 r Hs' 1 ⟨[(1, (.c (.a (.fz (.int .i64 a1))))), (2, (.c (.a (.fz (.int .i64 a2))))), (3, (.c (.a (.fz (.int .i64 k))))), (4, (.c (.a (.ep 0 4 0 0)))), (8, (.c (.a (.ep 1 4 0 0)))), (10, (.c (.a (.fz .nils)))), (11, (.c (.a (.fz (.int .i64 (0 : Int))))))], [(0, (.arr 4 [[(.a (.fz (.int .i64 t_0))), (.a (.fz (.str t_1))), (.a (.fz (.int .i64 t_2))), (.a (.fz (.sl false 4 t_3)))]])), (1, (.arr 4 [[(.a (.fz (.int .i64 (0 : Int)))), (.a (.fz (.str []))), (.a (.fz (.int .i64 (0 : Int)))), (.a (.fz .nils))]]))], 2⟩))))) := by kernel_rfl
theorem v115_1a (x1 : Int) (x2 : Int) (x3 : Int) (x11 : Int) (h0_0 : Int) (h0_1 : List UInt8) (h0_2 : Int) (h0_3 : List (List FV)) (h1_0 : Int) (h1_1 : List UInt8) (h1_2 : Int) (r : TV) (Hs' : List AObj) : vcP Try.prog sh lv115 115 0 (fun r0 Hs0 => TV.Le r0 r ∧ Hs0 = Hs') (RPt Try.prog 115 0 r Hs') 1 ⟨[(1, (.c (.a (.fz (.int .i64 x1))))), (2, (.c (.a (.fz (.int .i64 x2))))), (3, (.c (.a (.fz (.int .i64 x3))))), (4, (.c (.a (.ep 0 4 0 0)))), (8, (.c (.a (.ep 1 4 0 0)))), (10, (.c (.a (.fz .nils)))), (11, (.c (.a (.fz (.int .i64 x11)))))], [(0, (.arr 4 [[(.a (.fz (.int .i64 h0_0))), (.a (.fz (.str h0_1))), (.a (.fz (.int .i64 h0_2))), (.a (.fz (.sl false 4 h0_3)))]])), (1, (.arr 4 [[(.a (.fz (.int .i64 h1_0))), (.a (.fz (.str h1_1))), (.a (.fz (.int .i64 h1_2))), (.a (.fz .nils))]]))], 2⟩ =
    ((FV.isSl 4 (.sl false 4 h0_3) = true) ∧ (br (decide ((x11 : Int) < (((List.length h0_3) : Nat) : Int))) (((FV.isSl 4 (.sl false 4 h0_3) = true) ∧ ((0 ≤ x11) ∧ ((x11 < (((List.length h0_3) : Nat) : Int)) ∧ (((rE (List.getD h0_3 (Int.toNat x11) [])) : List FV) = (List.getD h0_3 (Int.toNat x11) []))))) ∧ (∃ n1 : Int, ((AC Try.prog 77 [(.agg [(.a (.fz (.int .i64 h0_0))), (.a (.fz (.str h0_1))), (.a (.fz (.int .i64 h0_2))), (.a (.fz (.sl false 4 h0_3)))]), (.c (.a (.fz (.int .i64 x3))))] [] (.c (.a (.fz (.int .i64 n1)))) []) ∧ (∃ z2 : Tm, ((AC Try.prog 115 [(aE (List.getD h0_3 (Int.toNat x11) [])), (.c (.a (.fz (.int .i64 x1)))), (.c (.a (.fz (.int .i64 x2)))), (.c (.a (.fz (.int .i64 n1))))] [] (aT z2) []) ∧ ((1 ≤ 1) ∧ ((roomB 1 56) ∧ (RPt Try.prog 115 0 r Hs' 1 ⟨[(1, (.c (.a (.fz (.int .i64 x1))))), (2, (.c (.a (.fz (.int .i64 x2))))), (3, (.c (.a (.fz (.int .i64 x3))))), (4, (.c (.a (.ep 0 4 0 0)))), (8, (.c (.a (.ep 1 4 0 0)))), (10, (.c (.a (.osl 2 4 0 1)))), (11, (.c (.a (.fz (.int .i64 (IntKind.wrap .i64 (x11 + (1 : Int))))))))], [(0, (.arr 4 [[(.a (.fz (.int .i64 h0_0))), (.a (.fz (.str h0_1))), (.a (.fz (.int .i64 h0_2))), (.a (.fz (.sl false 4 h0_3)))]])), (1, (.arr 4 [[(.a (.fz (.int .i64 h1_0))), (.a (.fz (.str h1_1))), (.a (.fz (.int .i64 h1_2))), (.a (.fz .nils))]])), (2, (.arz 4 [(FT4 z2)]))], 3⟩)))))))) (∃ z3 : Tm, ((AC Try.prog 112 [(.agg [(.a (.fz (.int .i64 h0_0))), (.a (.fz (.str h0_1))), (.a (.fz (.int .i64 h0_2))), (.a (.fz (.sl false 4 h0_3)))]), (.c (.a (.fz .nils)))] [] (aT z3) []) ∧ (TV.Le (aT z3) r ∧ [] = Hs'))))) := by kernel_rfl
theorem v115_1b (x1 : Int) (x2 : Int) (x3 : Int) (x10l : Nat) (x11 : Int) (h0_0 : Int) (h0_1 : List UInt8) (h0_2 : Int) (h0_3 : List (List FV)) (h1_0 : Int) (h1_1 : List UInt8) (h1_2 : Int) (h2 : List (List FV)) (r : TV) (Hs' : List AObj) : vcP Try.prog sh lv115 115 0 (fun r0 Hs0 => TV.Le r0 r ∧ Hs0 = Hs') (RPt Try.prog 115 0 r Hs') 1 ⟨[(1, (.c (.a (.fz (.int .i64 x1))))), (2, (.c (.a (.fz (.int .i64 x2))))), (3, (.c (.a (.fz (.int .i64 x3))))), (4, (.c (.a (.ep 0 4 0 0)))), (8, (.c (.a (.ep 1 4 0 0)))), (10, (.c (.a (.osl 2 4 0 x10l)))), (11, (.c (.a (.fz (.int .i64 x11)))))], [(0, (.arr 4 [[(.a (.fz (.int .i64 h0_0))), (.a (.fz (.str h0_1))), (.a (.fz (.int .i64 h0_2))), (.a (.fz (.sl false 4 h0_3)))]])), (1, (.arr 4 [[(.a (.fz (.int .i64 h1_0))), (.a (.fz (.str h1_1))), (.a (.fz (.int .i64 h1_2))), (.a (.fz .nils))]])), (2, (.arz 4 h2))], 3⟩ =
    ((FV.isSl 4 (.sl false 4 h0_3) = true) ∧ (br (decide ((x11 : Int) < (((List.length h0_3) : Nat) : Int))) (((FV.isSl 4 (.sl false 4 h0_3) = true) ∧ ((0 ≤ x11) ∧ ((x11 < (((List.length h0_3) : Nat) : Int)) ∧ (((rE (List.getD h0_3 (Int.toNat x11) [])) : List FV) = (List.getD h0_3 (Int.toNat x11) []))))) ∧ (∃ n1 : Int, ((AC Try.prog 77 [(.agg [(.a (.fz (.int .i64 h0_0))), (.a (.fz (.str h0_1))), (.a (.fz (.int .i64 h0_2))), (.a (.fz (.sl false 4 h0_3)))]), (.c (.a (.fz (.int .i64 x3))))] [] (.c (.a (.fz (.int .i64 n1)))) []) ∧ (∃ z2 : Tm, ((AC Try.prog 115 [(aE (List.getD h0_3 (Int.toNat x11) [])), (.c (.a (.fz (.int .i64 x1)))), (.c (.a (.fz (.int .i64 x2)))), (.c (.a (.fz (.int .i64 n1))))] [] (aT z2) []) ∧ ((1 ≤ 1) ∧ ((x10l ≤ (List.length h2) ∧ roomB (x10l + 1) 56) ∧ (RPt Try.prog 115 0 r Hs' 1 ⟨[(1, (.c (.a (.fz (.int .i64 x1))))), (2, (.c (.a (.fz (.int .i64 x2))))), (3, (.c (.a (.fz (.int .i64 x3))))), (4, (.c (.a (.ep 0 4 0 0)))), (8, (.c (.a (.ep 1 4 0 0)))), (10, (.c (.a (.osl 2 4 0 (x10l + 1))))), (11, (.c (.a (.fz (.int .i64 (IntKind.wrap .i64 (x11 + (1 : Int))))))))], [(0, (.arr 4 [[(.a (.fz (.int .i64 h0_0))), (.a (.fz (.str h0_1))), (.a (.fz (.int .i64 h0_2))), (.a (.fz (.sl false 4 h0_3)))]])), (1, (.arr 4 [[(.a (.fz (.int .i64 h1_0))), (.a (.fz (.str h1_1))), (.a (.fz (.int .i64 h1_2))), (.a (.fz .nils))]])), (2, (.arz 4 ((List.take x10l h2) ++ [(FT4 z2)])))], 3⟩)))))))) (((4 : Nat) = 4 ∧ (0 + x10l) ≤ (List.length h2)) ∧ (∃ z3 : Tm, ((AC Try.prog 112 [(.agg [(.a (.fz (.int .i64 h0_0))), (.a (.fz (.str h0_1))), (.a (.fz (.int .i64 h0_2))), (.a (.fz (.sl false 4 h0_3)))]), (.c (.a (.fz (.sl true 4 (List.take x10l (List.drop 0 h2))))))] [] (aT z3) []) ∧ (TV.Le (aT z3) r ∧ [] = Hs')))))) := by kernel_rfl
/-- slices.IndexFunc[[]lambent/api.Term,lambent/api.Term] -/
theorem v101_i1 (s : List (List FV)) (r : TV) (Hs' : List AObj) : vcE Try.prog sh lv101 101 [(.c (.a (.fz (.sl false 4 s)))), (.c (.fn (.func 113) [] []))] [] (fun r0 Hs0 => TV.Le r0 r ∧ Hs0 = Hs') (RPt Try.prog 101 0 r Hs') =
    ((FV.isSl 4 (.sl false 4 s) = true) ∧ (RPt Try.prog 101 0 r Hs' 1 ⟨[(0, (.c (.a (.fz (.sl false 4 s))))), (1, (.c (.fn (.func 113) [] []))), (7, (.c (.a (.fz (.int .i64 (((List.length s) : Nat) : Int)))))), (8, (.c (.a (.fz (.int .i64 (0 : Int))))))], [], 0⟩)) := by kernel_rfl
theorem v101_i1_1a (x0 : List (List FV)) (x7 : Int) (x8 : Int) (r : TV) (Hs' : List AObj) : vcP Try.prog sh lv101 101 0 (fun r0 Hs0 => TV.Le r0 r ∧ Hs0 = Hs') (RPt Try.prog 101 0 r Hs') 1 ⟨[(0, (.c (.a (.fz (.sl false 4 x0))))), (1, (.c (.fn (.func 113) [] []))), (7, (.c (.a (.fz (.int .i64 x7))))), (8, (.c (.a (.fz (.int .i64 x8)))))], [], 0⟩ =
    (br (decide ((x8 : Int) < x7)) (((FV.isSl 4 (.sl false 4 x0) = true) ∧ ((0 ≤ x8) ∧ ((x8 < (((List.length x0) : Nat) : Int)) ∧ (((rE (List.getD x0 (Int.toNat x8) [])) : List FV) = (List.getD x0 (Int.toNat x8) []))))) ∧ (∃ b1 : Bool, ((AC Try.prog 113 [(aE (List.getD x0 (Int.toNat x8) []))] [] (.c (.a (.fz (.bool b1)))) []) ∧ (br b1 (TV.Le (.c (.a (.fz (.int .i64 x8)))) r ∧ [] = Hs') (RPt Try.prog 101 0 r Hs' 1 ⟨[(0, (.c (.a (.fz (.sl false 4 x0))))), (1, (.c (.fn (.func 113) [] []))), (7, (.c (.a (.fz (.int .i64 x7))))), (8, (.c (.a (.fz (.int .i64 (IntKind.wrap .i64 (x8 + (1 : Int))))))))], [], 0⟩))))) (TV.Le (.c (.a (.fz (.int .i64 (-1 : Int))))) r ∧ [] = Hs')) := by kernel_rfl
/-- lambent/beta.normal$1 -/
def lv113 : List (Nat × List Nat) := []
theorem v113 (u_0 : Int) (u_1 : List UInt8) (u_2 : Int) (u_3 : List (List FV)) (r : TV) (Hs' : List AObj) : vcE Try.prog sh lv113 113 [(.agg [(.a (.fz (.int .i64 u_0))), (.a (.fz (.str u_1))), (.a (.fz (.int .i64 u_2))), (.a (.fz (.sl false 4 u_3)))])] [] (fun r0 Hs0 => TV.Le r0 r ∧ Hs0 = Hs') (RPt Try.prog 113 0 r Hs') =
    (∃ b1 : Bool, ((AC Try.prog 84 [(.agg [(.a (.fz (.int .i64 u_0))), (.a (.fz (.str u_1))), (.a (.fz (.int .i64 u_2))), (.a (.fz (.sl false 4 u_3)))])] [] (.c (.a (.fz (.bool b1)))) []) ∧ (TV.Le (.c (.a (.fz (.bool (!b1))))) r ∧ [] = Hs'))) := by kernel_rfl
/-- lambent/lambentlaw09.EtaCanons -/
def lv9 : List (Nat × List Nat) := []
theorem v9 (t_0 : Int) (t_1 : List UInt8) (t_2 : Int) (t_3 : List (List FV)) (u_0 : Int) (u_1 : List UInt8) (u_2 : Int) (u_3 : List (List FV)) (fuel : Int) (r : TV) (Hs' : List AObj) : vcE Try.prog sh lv9 9 [(.agg [(.a (.fz (.int .i64 t_0))), (.a (.fz (.str t_1))), (.a (.fz (.int .i64 t_2))), (.a (.fz (.sl false 4 t_3)))]), (.agg [(.a (.fz (.int .i64 u_0))), (.a (.fz (.str u_1))), (.a (.fz (.int .i64 u_2))), (.a (.fz (.sl false 4 u_3)))]), (.c (.a (.fz (.int .i64 fuel))))] [] (fun r0 Hs0 => TV.Le r0 r ∧ Hs0 = Hs') (RPt Try.prog 9 0 r Hs') =
    (∃ b1 : Bool, ((AC Try.prog 42 [] [] (.c (.a (.fz (.bool b1)))) []) ∧ (br (!b1) (TV.Le (.c (.a (.fz (.bool false)))) r ∧ [] = Hs') (∃ b2 : Bool, ((AC Try.prog 43 [(.agg [(.a (.fz (.int .i64 t_0))), (.a (.fz (.str t_1))), (.a (.fz (.int .i64 t_2))), (.a (.fz (.sl false 4 t_3)))])] [] (.c (.a (.fz (.bool b2)))) []) ∧ (∃ b3 : Bool, ((AC Try.prog 43 [(.agg [(.a (.fz (.int .i64 u_0))), (.a (.fz (.str u_1))), (.a (.fz (.int .i64 u_2))), (.a (.fz (.sl false 4 u_3)))])] [] (.c (.a (.fz (.bool b3)))) []) ∧ (br b2 (TV.Le (.c (.a (.fz (.bool b1)))) r ∧ [] = Hs') (br b3 (TV.Le (.c (.a (.fz (.bool b1)))) r ∧ [] = Hs') (br (decide ((fuel : Int) > (40 : Int))) (TV.Le (.c (.a (.fz (.bool b1)))) r ∧ [] = Hs') (∃ z4 : Tm × Int × Int, ((AC Try.prog 44 [(.agg [(.a (.fz (.int .i64 t_0))), (.a (.fz (.str t_1))), (.a (.fz (.int .i64 t_2))), (.a (.fz (.sl false 4 t_3)))]), (.c (.a (.fz (.int .i64 fuel))))] [] (.tup [(true, (cT z4.1)), (false, [(.a (.fz (.int .i64 z4.2.1)))]), (false, [(.a (.fz (.int .i64 z4.2.2)))])]) []) ∧ (∃ b5 : Bool, (∃ n6 : Int, ((AC Try.prog 45 [(.agg [(.a (.fz (.int .i64 t_0))), (.a (.fz (.str t_1))), (.a (.fz (.int .i64 t_2))), (.a (.fz (.sl false 4 t_3)))]), (.agg [(.a (.fz (.int .i64 u_0))), (.a (.fz (.str u_1))), (.a (.fz (.int .i64 u_2))), (.a (.fz (.sl false 4 u_3)))]), (.c (.a (.fz (.int .i64 fuel))))] [] (.tup [(false, [(.a (.fz (.bool b5)))]), (false, [(.a (.fz (.int .i64 n6)))])]) []) ∧ (∃ b7 : Bool, ((AC Try.prog 27 [(.agg [(.a (.fz (.int .i64 t_0))), (.a (.fz (.str t_1))), (.a (.fz (.int .i64 t_2))), (.a (.fz (.sl false 4 t_3)))])] [] (.c (.a (.fz (.bool b7)))) []) ∧ (∃ b8 : Bool, ((AC Try.prog 27 [(.agg [(.a (.fz (.int .i64 u_0))), (.a (.fz (.str u_1))), (.a (.fz (.int .i64 u_2))), (.a (.fz (.sl false 4 u_3)))])] [] (.c (.a (.fz (.bool b8)))) []) ∧ (br (!b7) (∃ b9 : Bool, ((AC Try.prog 16 [(aT z4.1), (.agg [(.a (.fz (.int .i64 (0 : Int)))), (.a (.fz (.str []))), (.a (.fz (.int .i64 (0 : Int)))), (.a (.fz .nils))])] [] (.c (.a (.fz (.bool b9)))) []) ∧ (br b1 (br b9 (br ((z4.2.1 : Int) == (0 : Int)) (br ((z4.2.2 : Int) == (1 : Int)) (br (!b5) (TV.Le (.c (.a (.fz (.bool ((n6 : Int) == (1 : Int)))))) r ∧ [] = Hs') (TV.Le (.c (.a (.fz (.bool false)))) r ∧ [] = Hs')) (TV.Le (.c (.a (.fz (.bool false)))) r ∧ [] = Hs')) (TV.Le (.c (.a (.fz (.bool false)))) r ∧ [] = Hs')) (TV.Le (.c (.a (.fz (.bool false)))) r ∧ [] = Hs')) (TV.Le (.c (.a (.fz (.bool false)))) r ∧ [] = Hs')))) (∃ z10 : Tm × Int × Int, ((AC Try.prog 46 [(.agg [(.a (.fz (.int .i64 t_0))), (.a (.fz (.str t_1))), (.a (.fz (.int .i64 t_2))), (.a (.fz (.sl false 4 t_3)))]), (.c (.a (.fz (.int .i64 fuel))))] [] (.tup [(true, (cT z10.1)), (false, [(.a (.fz (.int .i64 z10.2.1)))]), (false, [(.a (.fz (.int .i64 z10.2.2)))])]) []) ∧ (∃ b11 : Bool, ((AC Try.prog 16 [(aT z4.1), (aT z10.1)] [] (.c (.a (.fz (.bool b11)))) []) ∧ (br (!b11) (TV.Le (.c (.a (.fz (.bool false)))) r ∧ [] = Hs') (br ((z4.2.1 : Int) != z10.2.1) (TV.Le (.c (.a (.fz (.bool false)))) r ∧ [] = Hs') (br ((z4.2.2 : Int) != z10.2.2) (TV.Le (.c (.a (.fz (.bool false)))) r ∧ [] = Hs') (br (!b8) (br b1 (br (!b5) (br ((n6 : Int) == (1 : Int)) (TV.Le (.c (.a (.fz (.bool true)))) r ∧ [] = Hs') (br ((z10.2.2 : Int) != (0 : Int)) (TV.Le (.c (.a (.fz (.bool ((n6 : Int) == z10.2.2))))) r ∧ [] = Hs') (TV.Le (.c (.a (.fz (.bool false)))) r ∧ [] = Hs'))) (TV.Le (.c (.a (.fz (.bool false)))) r ∧ [] = Hs')) (TV.Le (.c (.a (.fz (.bool false)))) r ∧ [] = Hs')) (∃ z12 : Tm × Int × Int, ((AC Try.prog 46 [(.agg [(.a (.fz (.int .i64 u_0))), (.a (.fz (.str u_1))), (.a (.fz (.int .i64 u_2))), (.a (.fz (.sl false 4 u_3)))]), (.c (.a (.fz (.int .i64 fuel))))] [] (.tup [(true, (cT z12.1)), (false, [(.a (.fz (.int .i64 z12.2.1)))]), (false, [(.a (.fz (.int .i64 z12.2.2)))])]) []) ∧ (br ((z10.2.2 : Int) != (0 : Int)) (br b1 (br (!b5) (TV.Le (.c (.a (.fz (.bool ((n6 : Int) == z10.2.2))))) r ∧ [] = Hs') (TV.Le (.c (.a (.fz (.bool false)))) r ∧ [] = Hs')) (TV.Le (.c (.a (.fz (.bool false)))) r ∧ [] = Hs')) (br ((z12.2.2 : Int) != (0 : Int)) (br b1 (br (!b5) (TV.Le (.c (.a (.fz (.bool ((n6 : Int) == z12.2.2))))) r ∧ [] = Hs') (TV.Le (.c (.a (.fz (.bool false)))) r ∧ [] = Hs')) (TV.Le (.c (.a (.fz (.bool false)))) r ∧ [] = Hs')) (br b1 (br ((n6 : Int) == (0 : Int)) (∃ b13 : Bool, ((AC Try.prog 16 [(aT z10.1), (aT z12.1)] [] (.c (.a (.fz (.bool b13)))) []) ∧ (TV.Le (.c (.a (.fz (.bool ((b5 : Bool) == b13))))) r ∧ [] = Hs'))) (TV.Le (.c (.a (.fz (.bool false)))) r ∧ [] = Hs')) (TV.Le (.c (.a (.fz (.bool false)))) r ∧ [] = Hs')))))))))))))))))))))))))))))))))) := by kernel_rfl
/-- lambent/lambentlaw09.works -/
def lv42 : List (Nat × List Nat) := []
theorem v42  (r : TV) (Hs' : List AObj) : vcE Try.prog sh lv42 42 [] [] (fun r0 Hs0 => TV.Le r0 r ∧ Hs0 = Hs') (RPt Try.prog 42 0 r Hs') =
    (((4 : Nat) = 4 ∧ 2 ≤ 2) ∧ (∃ z1 : Tm, ((AC Try.prog 21 [(.agg [(.a (.fz (.int .i64 (0 : Int)))), (.a (.fz (.str [102]))), (.a (.fz (.int .i64 (0 : Int)))), (.a (.fz .nils))]), (.c (.a (.fz (.sl true 4 [[(.int .i64 (0 : Int)), (.str [97]), (.int .i64 (0 : Int)), .nils], [(.int .i64 (3 : Int)), (.str []), (.int .i64 (0 : Int)), .nils]]))))] [] (aT z1) []) ∧ (∃ z2 : Tm, ((AC Try.prog 22 [(.c (.a (.fz (.int .i64 (1 : Int))))), (aT z1)] [] (aT z2) []) ∧ (∃ z3 : Tm, ((AC Try.prog 47 [(aT z2)] [] (aT z3) []) ∧ (((4 : Nat) = 4 ∧ 1 ≤ 1) ∧ (∃ z4 : Tm, ((AC Try.prog 21 [(.agg [(.a (.fz (.int .i64 (0 : Int)))), (.a (.fz (.str [102]))), (.a (.fz (.int .i64 (0 : Int)))), (.a (.fz .nils))]), (.c (.a (.fz (.sl true 4 [[(.int .i64 (0 : Int)), (.str [97]), (.int .i64 (0 : Int)), .nils]]))))] [] (aT z4) []) ∧ (∃ b5 : Bool, ((AC Try.prog 16 [(aT z3), (aT z4)] [] (.c (.a (.fz (.bool b5)))) []) ∧ (((4 : Nat) = 4 ∧ 2 ≤ 2) ∧ (∃ z6 : Tm, ((AC Try.prog 21 [(.agg [(.a (.fz (.int .i64 (0 : Int)))), (.a (.fz (.str [102]))), (.a (.fz (.int .i64 (0 : Int)))), (.a (.fz .nils))]), (.c (.a (.fz (.sl true 4 [[(.int .i64 (3 : Int)), (.str []), (.int .i64 (1 : Int)), .nils], [(.int .i64 (3 : Int)), (.str []), (.int .i64 (0 : Int)), .nils]]))))] [] (aT z6) []) ∧ (∃ z7 : Tm, ((AC Try.prog 22 [(.c (.a (.fz (.int .i64 (2 : Int))))), (aT z6)] [] (aT z7) []) ∧ (∃ z8 : Tm, ((AC Try.prog 47 [(aT z7)] [] (aT z8) []) ∧ (∃ b9 : Bool, ((AC Try.prog 16 [(aT z8), (.agg [(.a (.fz (.int .i64 (0 : Int)))), (.a (.fz (.str [102]))), (.a (.fz (.int .i64 (0 : Int)))), (.a (.fz .nils))])] [] (.c (.a (.fz (.bool b9)))) []) ∧ (((4 : Nat) = 4 ∧ 2 ≤ 2) ∧ (∃ z10 : Tm, ((AC Try.prog 21 [(.agg [(.a (.fz (.int .i64 (0 : Int)))), (.a (.fz (.str [102]))), (.a (.fz (.int .i64 (0 : Int)))), (.a (.fz .nils))]), (.c (.a (.fz (.sl true 4 [[(.int .i64 (3 : Int)), (.str []), (.int .i64 (0 : Int)), .nils], [(.int .i64 (3 : Int)), (.str []), (.int .i64 (0 : Int)), .nils]]))))] [] (aT z10) []) ∧ (∃ z11 : Tm, ((AC Try.prog 22 [(.c (.a (.fz (.int .i64 (1 : Int))))), (aT z10)] [] (aT z11) []) ∧ (∃ z12 : Tm, ((AC Try.prog 47 [(aT z11)] [] (aT z12) []) ∧ (∃ b13 : Bool, ((AC Try.prog 16 [(aT z12), (aT z11)] [] (.c (.a (.fz (.bool b13)))) []) ∧ (((4 : Nat) = 4 ∧ 1 ≤ 1) ∧ (∃ z14 : Tm, ((AC Try.prog 21 [(.agg [(.a (.fz (.int .i64 (3 : Int)))), (.a (.fz (.str []))), (.a (.fz (.int .i64 (1 : Int)))), (.a (.fz .nils))]), (.c (.a (.fz (.sl true 4 [[(.int .i64 (3 : Int)), (.str []), (.int .i64 (0 : Int)), .nils]]))))] [] (aT z14) []) ∧ (∃ z15 : Tm, ((AC Try.prog 22 [(.c (.a (.fz (.int .i64 (1 : Int))))), (aT z14)] [] (aT z15) []) ∧ (∃ z16 : Tm × Bool, ((AC Try.prog 49 [(aT z15)] [] (.tup [(true, (cT z16.1)), (false, [(.a (.fz (.bool z16.2)))])]) []) ∧ (((4 : Nat) = 4 ∧ 1 ≤ 1) ∧ (∃ z17 : Tm, ((AC Try.prog 21 [(.agg [(.a (.fz (.int .i64 (0 : Int)))), (.a (.fz (.str [102]))), (.a (.fz (.int .i64 (0 : Int)))), (.a (.fz .nils))]), (.c (.a (.fz (.sl true 4 [[(.int .i64 (3 : Int)), (.str []), (.int .i64 (0 : Int)), .nils]]))))] [] (aT z17) []) ∧ (∃ z18 : Tm, ((AC Try.prog 22 [(.c (.a (.fz (.int .i64 (1 : Int))))), (aT z17)] [] (aT z18) []) ∧ (∃ b19 : Bool, (∃ n20 : Int, ((AC Try.prog 45 [(aT z18), (.agg [(.a (.fz (.int .i64 (0 : Int)))), (.a (.fz (.str [102]))), (.a (.fz (.int .i64 (0 : Int)))), (.a (.fz .nils))]), (.c (.a (.fz (.int .i64 (5 : Int)))))] [] (.tup [(false, [(.a (.fz (.bool b19)))]), (false, [(.a (.fz (.int .i64 n20)))])]) []) ∧ (br b5 (br b9 (br b13 (br ((z16.1.k : Int) == (3 : Int)) (br ((z16.1.n : Int) == (0 : Int)) (br z16.2 (br b19 (TV.Le (.c (.a (.fz (.bool ((n20 : Int) == (0 : Int)))))) r ∧ [] = Hs') (TV.Le (.c (.a (.fz (.bool false)))) r ∧ [] = Hs')) (TV.Le (.c (.a (.fz (.bool false)))) r ∧ [] = Hs')) (TV.Le (.c (.a (.fz (.bool false)))) r ∧ [] = Hs')) (TV.Le (.c (.a (.fz (.bool false)))) r ∧ [] = Hs')) (TV.Le (.c (.a (.fz (.bool false)))) r ∧ [] = Hs')) (TV.Le (.c (.a (.fz (.bool false)))) r ∧ [] = Hs')) (TV.Le (.c (.a (.fz (.bool false)))) r ∧ [] = Hs'))))))))))))))))))))))))))))))))))))))))))))))) := by kernel_rfl
/-- lambent/lambentlaw09.over -/
def lv43 : List (Nat × List Nat) := []
theorem v43 (t_0 : Int) (t_1 : List UInt8) (t_2 : Int) (t_3 : List (List FV)) (r : TV) (Hs' : List AObj) : vcE Try.prog sh lv43 43 [(.agg [(.a (.fz (.int .i64 t_0))), (.a (.fz (.str t_1))), (.a (.fz (.int .i64 t_2))), (.a (.fz (.sl false 4 t_3)))])] [] (fun r0 Hs0 => TV.Le r0 r ∧ Hs0 = Hs') (RPt Try.prog 43 0 r Hs') =
    (∃ b1 : Bool, ((AC Try.prog 55 [(.agg [(.a (.fz (.int .i64 t_0))), (.a (.fz (.str t_1))), (.a (.fz (.int .i64 t_2))), (.a (.fz (.sl false 4 t_3)))]), (.c (.a (.fz (.int .i64 (1099511627776 : Int)))))] [] (.c (.a (.fz (.bool b1)))) []) ∧ (∃ b2 : Bool, ((AC Try.prog 56 [(.agg [(.a (.fz (.int .i64 t_0))), (.a (.fz (.str t_1))), (.a (.fz (.int .i64 t_2))), (.a (.fz (.sl false 4 t_3)))]), (.c (.a (.fz (.int .i64 (60 : Int)))))] [] (.c (.a (.fz (.bool b2)))) []) ∧ (br b2 (TV.Le (.c (.a (.fz (.bool true)))) r ∧ [] = Hs') (TV.Le (.c (.a (.fz (.bool (!b1))))) r ∧ [] = Hs')))))) := by kernel_rfl
/-- lambent/eta.Canon -/
def lv44 : List (Nat × List Nat) := []
theorem v44 (t_0 : Int) (t_1 : List UInt8) (t_2 : Int) (t_3 : List (List FV)) (fuel : Int) (r : TV) (Hs' : List AObj) : vcE Try.prog sh lv44 44 [(.agg [(.a (.fz (.int .i64 t_0))), (.a (.fz (.str t_1))), (.a (.fz (.int .i64 t_2))), (.a (.fz (.sl false 4 t_3)))]), (.c (.a (.fz (.int .i64 fuel))))] [] (fun r0 Hs0 => TV.Le r0 r ∧ Hs0 = Hs') (RPt Try.prog 44 0 r Hs') =
    (∃ z1 : Tm × Int × Int, ((AC Try.prog 78 [(.agg [(.a (.fz (.int .i64 t_0))), (.a (.fz (.str t_1))), (.a (.fz (.int .i64 t_2))), (.a (.fz (.sl false 4 t_3)))]), (.c (.a (.fz (.int .i64 fuel))))] [] (.tup [(true, (cT z1.1)), (false, [(.a (.fz (.int .i64 z1.2.1)))]), (false, [(.a (.fz (.int .i64 z1.2.2)))])]) []) ∧ (br ((z1.2.2 : Int) != (0 : Int)) (TV.Le (.tup [(true, [(.a (.fz (.int .i64 (0 : Int)))), (.a (.fz (.str []))), (.a (.fz (.int .i64 (0 : Int)))), (.a (.fz .nils))]), (false, [(.a (.fz (.int .i64 (0 : Int))))]), (false, [(.a (.fz (.int .i64 z1.2.2)))])]) r ∧ [] = Hs') (∃ z2 : Tm, ((AC Try.prog 88 [(aT z1.1)] [] (aT z2) []) ∧ (TV.Le (.tup [(true, (cT z2)), (false, [(.a (.fz (.int .i64 z1.2.1)))]), (false, [(.a (.fz (.int .i64 (0 : Int))))])]) r ∧ [] = Hs')))))) := by kernel_rfl
/-- lambent/eta.Equal -/
def lv45 : List (Nat × List Nat) := [(1, [2, 8, 16, 17])]
theorem v45 (a_0 : Int) (a_1 : List UInt8) (a_2 : Int) (a_3 : List (List FV)) (b_0 : Int) (b_1 : List UInt8) (b_2 : Int) (b_3 : List (List FV)) (fuel : Int) (r : TV) (Hs' : List AObj) : vcE Try.prog sh lv45 45 [(.agg [(.a (.fz (.int .i64 a_0))), (.a (.fz (.str a_1))), (.a (.fz (.int .i64 a_2))), (.a (.fz (.sl false 4 a_3)))]), (.agg [(.a (.fz (.int .i64 b_0))), (.a (.fz (.str b_1))), (.a (.fz (.int .i64 b_2))), (.a (.fz (.sl false 4 b_3)))]), (.c (.a (.fz (.int .i64 fuel))))] [] (fun r0 Hs0 => TV.Le r0 r ∧ Hs0 = Hs') (RPt Try.prog 45 0 r Hs') =
    (RPt Try.prog 45 0 r Hs' 1 ⟨[(2, (.c (.a (.fz (.int .i64 fuel))))), (8, (.c (.a (.ep 0 8 0 0)))), (16, (.agg [(.a (.fz (.int .i64 a_0))), (.a (.fz (.str a_1))), (.a (.fz (.int .i64 a_2))), (.a (.fz (.sl false 4 a_3))), (.a (.fz (.int .i64 b_0))), (.a (.fz (.str b_1))), (.a (.fz (.int .i64 b_2))), (.a (.fz (.sl false 4 b_3)))])), (17, (.c (.a (.fz (.int .i64 (0 : Int))))))], [(0, (.arr 8 [[(.a (.fz (.int .i64 (0 : Int)))), (.a (.fz (.str []))), (.a (.fz (.int .i64 (0 : Int)))), (.a (.fz .nils)), (.a (.fz (.int .i64 (0 : Int)))), (.a (.fz (.str []))), (.a (.fz (.int .i64 (0 : Int)))), (.a (.fz .nils))]]))], 1⟩) := by kernel_rfl
theorem v45_1a (x2 : Int) (x16_0 : Int) (x16_1 : List UInt8) (x16_2 : Int) (x16_3 : List (List FV)) (x16_4 : Int) (x16_5 : List UInt8) (x16_6 : Int) (x16_7 : List (List FV)) (h0_0 : Int) (h0_1 : List UInt8) (h0_2 : Int) (h0_4 : Int) (h0_5 : List UInt8) (h0_6 : Int) (r : TV) (Hs' : List AObj) : vcP Try.prog sh lv45 45 0 (fun r0 Hs0 => TV.Le r0 r ∧ Hs0 = Hs') (RPt Try.prog 45 0 r Hs') 1 ⟨[(2, (.c (.a (.fz (.int .i64 x2))))), (8, (.c (.a (.ep 0 8 0 0)))), (16, (.agg [(.a (.fz (.int .i64 x16_0))), (.a (.fz (.str x16_1))), (.a (.fz (.int .i64 x16_2))), (.a (.fz (.sl false 4 x16_3))), (.a (.fz (.int .i64 x16_4))), (.a (.fz (.str x16_5))), (.a (.fz (.int .i64 x16_6))), (.a (.fz (.sl false 4 x16_7)))])), (17, (.c (.a (.fz (.int .i64 (0 : Int))))))], [(0, (.arr 8 [[(.a (.fz (.int .i64 h0_0))), (.a (.fz (.str h0_1))), (.a (.fz (.int .i64 h0_2))), (.a (.fz .nils)), (.a (.fz (.int .i64 h0_4))), (.a (.fz (.str h0_5))), (.a (.fz (.int .i64 h0_6))), (.a (.fz .nils))]]))], 1⟩ =
    (∃ z1 : Tm × Int × Int, ((AC Try.prog 44 [(.agg [(.a (.fz (.int .i64 x16_0))), (.a (.fz (.str x16_1))), (.a (.fz (.int .i64 x16_2))), (.a (.fz (.sl false 4 x16_3)))]), (.c (.a (.fz (.int .i64 x2))))] [] (.tup [(true, (cT z1.1)), (false, [(.a (.fz (.int .i64 z1.2.1)))]), (false, [(.a (.fz (.int .i64 z1.2.2)))])]) []) ∧ (br ((z1.2.2 : Int) != (0 : Int)) (TV.Le (.tup [(false, [(.a (.fz (.bool false)))]), (false, [(.a (.fz (.int .i64 z1.2.2)))])]) r ∧ [] = Hs') ((0 ≤ (0 : Int) ∧ (0 : Int) < ((2 : Nat) : Int)) ∧ (RPt Try.prog 45 0 r Hs' 1 ⟨[(2, (.c (.a (.fz (.int .i64 x2))))), (8, (.c (.a (.ep 0 8 0 0)))), (16, (.agg [(.a (.fz (.int .i64 x16_0))), (.a (.fz (.str x16_1))), (.a (.fz (.int .i64 x16_2))), (.a (.fz (.sl false 4 x16_3))), (.a (.fz (.int .i64 x16_4))), (.a (.fz (.str x16_5))), (.a (.fz (.int .i64 x16_6))), (.a (.fz (.sl false 4 x16_7)))])), (17, (.c (.a (.fz (.int .i64 (1 : Int))))))], [(0, (.arr 8 [[(.a (.fz (.int .i64 z1.1.k))), (.a (.fz (.str z1.1.s))), (.a (.fz (.int .i64 z1.1.n))), (.a (.fz (.sl false 4 (FTs z1.1.l)))), (.a (.fz (.int .i64 h0_4))), (.a (.fz (.str h0_5))), (.a (.fz (.int .i64 h0_6))), (.a (.fz .nils))]]))], 1⟩))))) := by kernel_rfl
theorem v45_1b (x2 : Int) (x16_0 : Int) (x16_1 : List UInt8) (x16_2 : Int) (x16_3 : List (List FV)) (x16_4 : Int) (x16_5 : List UInt8) (x16_6 : Int) (x16_7 : List (List FV)) (h0_0 : Int) (h0_1 : List UInt8) (h0_2 : Int) (h0_3 : List (List FV)) (h0_4 : Int) (h0_5 : List UInt8) (h0_6 : Int) (r : TV) (Hs' : List AObj) : vcP Try.prog sh lv45 45 0 (fun r0 Hs0 => TV.Le r0 r ∧ Hs0 = Hs') (RPt Try.prog 45 0 r Hs') 1 ⟨[(2, (.c (.a (.fz (.int .i64 x2))))), (8, (.c (.a (.ep 0 8 0 0)))), (16, (.agg [(.a (.fz (.int .i64 x16_0))), (.a (.fz (.str x16_1))), (.a (.fz (.int .i64 x16_2))), (.a (.fz (.sl false 4 x16_3))), (.a (.fz (.int .i64 x16_4))), (.a (.fz (.str x16_5))), (.a (.fz (.int .i64 x16_6))), (.a (.fz (.sl false 4 x16_7)))])), (17, (.c (.a (.fz (.int .i64 (1 : Int))))))], [(0, (.arr 8 [[(.a (.fz (.int .i64 h0_0))), (.a (.fz (.str h0_1))), (.a (.fz (.int .i64 h0_2))), (.a (.fz (.sl false 4 h0_3))), (.a (.fz (.int .i64 h0_4))), (.a (.fz (.str h0_5))), (.a (.fz (.int .i64 h0_6))), (.a (.fz .nils))]]))], 1⟩ =
    (∃ z1 : Tm × Int × Int, ((AC Try.prog 44 [(.agg [(.a (.fz (.int .i64 x16_4))), (.a (.fz (.str x16_5))), (.a (.fz (.int .i64 x16_6))), (.a (.fz (.sl false 4 x16_7)))]), (.c (.a (.fz (.int .i64 x2))))] [] (.tup [(true, (cT z1.1)), (false, [(.a (.fz (.int .i64 z1.2.1)))]), (false, [(.a (.fz (.int .i64 z1.2.2)))])]) []) ∧ (br ((z1.2.2 : Int) != (0 : Int)) (TV.Le (.tup [(false, [(.a (.fz (.bool false)))]), (false, [(.a (.fz (.int .i64 z1.2.2)))])]) r ∧ [] = Hs') ((0 ≤ (1 : Int) ∧ (1 : Int) < ((2 : Nat) : Int)) ∧ (RPt Try.prog 45 0 r Hs' 1 ⟨[(2, (.c (.a (.fz (.int .i64 x2))))), (8, (.c (.a (.ep 0 8 0 0)))), (16, (.agg [(.a (.fz (.int .i64 x16_0))), (.a (.fz (.str x16_1))), (.a (.fz (.int .i64 x16_2))), (.a (.fz (.sl false 4 x16_3))), (.a (.fz (.int .i64 x16_4))), (.a (.fz (.str x16_5))), (.a (.fz (.int .i64 x16_6))), (.a (.fz (.sl false 4 x16_7)))])), (17, (.c (.a (.fz (.int .i64 (2 : Int))))))], [(0, (.arr 8 [[(.a (.fz (.int .i64 h0_0))), (.a (.fz (.str h0_1))), (.a (.fz (.int .i64 h0_2))), (.a (.fz (.sl false 4 h0_3))), (.a (.fz (.int .i64 z1.1.k))), (.a (.fz (.str z1.1.s))), (.a (.fz (.int .i64 z1.1.n))), (.a (.fz (.sl false 4 (FTs z1.1.l))))]]))], 1⟩))))) := by kernel_rfl
theorem v45_1c (x2 : Int) (x16_0 : Int) (x16_1 : List UInt8) (x16_2 : Int) (x16_3 : List (List FV)) (x16_4 : Int) (x16_5 : List UInt8) (x16_6 : Int) (x16_7 : List (List FV)) (h0_0 : Int) (h0_1 : List UInt8) (h0_2 : Int) (h0_3 : List (List FV)) (h0_4 : Int) (h0_5 : List UInt8) (h0_6 : Int) (h0_7 : List (List FV)) (r : TV) (Hs' : List AObj) : vcP Try.prog sh lv45 45 0 (fun r0 Hs0 => TV.Le r0 r ∧ Hs0 = Hs') (RPt Try.prog 45 0 r Hs') 1 ⟨[(2, (.c (.a (.fz (.int .i64 x2))))), (8, (.c (.a (.ep 0 8 0 0)))), (16, (.agg [(.a (.fz (.int .i64 x16_0))), (.a (.fz (.str x16_1))), (.a (.fz (.int .i64 x16_2))), (.a (.fz (.sl false 4 x16_3))), (.a (.fz (.int .i64 x16_4))), (.a (.fz (.str x16_5))), (.a (.fz (.int .i64 x16_6))), (.a (.fz (.sl false 4 x16_7)))])), (17, (.c (.a (.fz (.int .i64 (2 : Int))))))], [(0, (.arr 8 [[(.a (.fz (.int .i64 h0_0))), (.a (.fz (.str h0_1))), (.a (.fz (.int .i64 h0_2))), (.a (.fz (.sl false 4 h0_3))), (.a (.fz (.int .i64 h0_4))), (.a (.fz (.str h0_5))), (.a (.fz (.int .i64 h0_6))), (.a (.fz (.sl false 4 h0_7)))]]))], 1⟩ =
    ((0 ≤ (0 : Int) ∧ (0 : Int) < ((2 : Nat) : Int)) ∧ ((0 ≤ (1 : Int) ∧ (1 : Int) < ((2 : Nat) : Int)) ∧ (∃ b1 : Bool, ((AC Try.prog 28 [(.agg [(.a (.fz (.int .i64 h0_0))), (.a (.fz (.str h0_1))), (.a (.fz (.int .i64 h0_2))), (.a (.fz (.sl false 4 h0_3)))]), (.agg [(.a (.fz (.int .i64 h0_4))), (.a (.fz (.str h0_5))), (.a (.fz (.int .i64 h0_6))), (.a (.fz (.sl false 4 h0_7)))])] [] (.c (.a (.fz (.bool b1)))) []) ∧ (TV.Le (.tup [(false, [(.a (.fz (.bool b1)))]), (false, [(.a (.fz (.int .i64 (0 : Int))))])]) r ∧ [] = Hs'))))) := by kernel_rfl
/-- lambent/lambentref09.Canon -/
def lv46 : List (Nat × List Nat) := []
theorem v46 (t_0 : Int) (t_1 : List UInt8) (t_2 : Int) (t_3 : List (List FV)) (fuel : Int) (r : TV) (Hs' : List AObj) : vcE Try.prog sh lv46 46 [(.agg [(.a (.fz (.int .i64 t_0))), (.a (.fz (.str t_1))), (.a (.fz (.int .i64 t_2))), (.a (.fz (.sl false 4 t_3)))]), (.c (.a (.fz (.int .i64 fuel))))] [] (fun r0 Hs0 => TV.Le r0 r ∧ Hs0 = Hs') (RPt Try.prog 46 0 r Hs') =
    (∃ z1 : Tm × Int × Int, ((AC Try.prog 89 [(.agg [(.a (.fz (.int .i64 t_0))), (.a (.fz (.str t_1))), (.a (.fz (.int .i64 t_2))), (.a (.fz (.sl false 4 t_3)))]), (.c (.a (.fz (.int .i64 fuel)))), (.c (.a (.fz (.bool false))))] [] (.tup [(true, (cT z1.1)), (false, [(.a (.fz (.int .i64 z1.2.1)))]), (false, [(.a (.fz (.int .i64 z1.2.2)))])]) []) ∧ (br ((z1.2.2 : Int) != (0 : Int)) (TV.Le (.tup [(true, [(.a (.fz (.int .i64 (0 : Int)))), (.a (.fz (.str []))), (.a (.fz (.int .i64 (0 : Int)))), (.a (.fz .nils))]), (false, [(.a (.fz (.int .i64 (0 : Int))))]), (false, [(.a (.fz (.int .i64 z1.2.2)))])]) r ∧ [] = Hs') (∃ z2 : Tm, ((AC Try.prog 52 [(aT z1.1)] [] (aT z2) []) ∧ (TV.Le (.tup [(true, (cT z2)), (false, [(.a (.fz (.int .i64 z1.2.1)))]), (false, [(.a (.fz (.int .i64 (0 : Int))))])]) r ∧ [] = Hs')))))) := by kernel_rfl
/-- lambent/eta.Short -/
def lv47 : List (Nat × List Nat) := []
theorem v47 (t_0 : Int) (t_1 : List UInt8) (t_2 : Int) (t_3 : List (List FV)) (r : TV) (Hs' : List AObj) : vcE Try.prog sh lv47 47 [(.agg [(.a (.fz (.int .i64 t_0))), (.a (.fz (.str t_1))), (.a (.fz (.int .i64 t_2))), (.a (.fz (.sl false 4 t_3)))])] [] (fun r0 Hs0 => TV.Le r0 r ∧ Hs0 = Hs') (RPt Try.prog 47 0 r Hs') =
    (∃ b1 : Bool, ((AC Try.prog 15 [(.agg [(.a (.fz (.int .i64 t_0))), (.a (.fz (.str t_1))), (.a (.fz (.int .i64 t_2))), (.a (.fz (.sl false 4 t_3)))])] [] (.c (.a (.fz (.bool b1)))) []) ∧ (br (!b1) (TV.Le (.agg [(.a (.fz (.int .i64 t_0))), (.a (.fz (.str t_1))), (.a (.fz (.int .i64 t_2))), (.a (.fz (.sl false 4 t_3)))]) r ∧ [] = Hs') (∃ z2 : Tm, ((AC Try.prog 88 [(.agg [(.a (.fz (.int .i64 t_0))), (.a (.fz (.str t_1))), (.a (.fz (.int .i64 t_2))), (.a (.fz (.sl false 4 t_3)))])] [] (aT z2) []) ∧ (TV.Le (aT z2) r ∧ [] = Hs')))))) := by kernel_rfl
/-- lambent/eta.Leaf -/
def lv49 : List (Nat × List Nat) := []
theorem v49 (t_0 : Int) (t_1 : List UInt8) (t_2 : Int) (t_3 : List (List FV)) (r : TV) (Hs' : List AObj) : vcE Try.prog sh lv49 49 [(.agg [(.a (.fz (.int .i64 t_0))), (.a (.fz (.str t_1))), (.a (.fz (.int .i64 t_2))), (.a (.fz (.sl false 4 t_3)))])] [] (fun r0 Hs0 => TV.Le r0 r ∧ Hs0 = Hs') (RPt Try.prog 49 0 r Hs') =
    (∃ b1 : Bool, ((AC Try.prog 15 [(.agg [(.a (.fz (.int .i64 t_0))), (.a (.fz (.str t_1))), (.a (.fz (.int .i64 t_2))), (.a (.fz (.sl false 4 t_3)))])] [] (.c (.a (.fz (.bool b1)))) []) ∧ (br (!b1) (TV.Le (.tup [(true, [(.a (.fz (.int .i64 (0 : Int)))), (.a (.fz (.str []))), (.a (.fz (.int .i64 (0 : Int)))), (.a (.fz .nils))]), (false, [(.a (.fz (.bool false)))])]) r ∧ [] = Hs') (∃ z2 : Tm, ((AC Try.prog 88 [(.agg [(.a (.fz (.int .i64 t_0))), (.a (.fz (.str t_1))), (.a (.fz (.int .i64 t_2))), (.a (.fz (.sl false 4 t_3)))])] [] (aT z2) []) ∧ (br ((z2.k : Int) == (3 : Int)) (TV.Le (.tup [(true, (cT z2)), (false, [(.a (.fz (.bool true)))])]) r ∧ [] = Hs') (br ((z2.k : Int) == (1 : Int)) (TV.Le (.tup [(true, (cT z2)), (false, [(.a (.fz (.bool true)))])]) r ∧ [] = Hs') (TV.Le (.tup [(true, [(.a (.fz (.int .i64 (0 : Int)))), (.a (.fz (.str []))), (.a (.fz (.int .i64 (0 : Int)))), (.a (.fz .nils))]), (false, [(.a (.fz (.bool false)))])]) r ∧ [] = Hs')))))))) := by kernel_rfl
/-- lambent/eta.short -/
def lv88 : List (Nat × List Nat) := [(3, [2, 6, 30, 31, 32])]
theorem v88 (t_0 : Int) (t_1 : List UInt8) (t_2 : Int) (t_3 : List (List FV)) (r : TV) (Hs' : List AObj) : vcE Try.prog sh lv88 88 [(.agg [(.a (.fz (.int .i64 t_0))), (.a (.fz (.str t_1))), (.a (.fz (.int .i64 t_2))), (.a (.fz (.sl false 4 t_3)))])] [] (fun r0 Hs0 => TV.Le r0 r ∧ Hs0 = Hs') (RPt Try.prog 88 0 r Hs') =
    (br ((t_0 : Int) == (5 : Int)) (((FV.isSl 4 (.sl false 4 t_3) = true) ∧ ((0 ≤ (0 : Int)) ∧ (((0 : Int) < (((List.length t_3) : Nat) : Int)) ∧ (((rE (List.getD t_3 0 [])) : List FV) = (List.getD t_3 0 []))))) ∧ (∃ z1 : Tm, ((AC Try.prog 88 [(aE (List.getD t_3 0 []))] [] (aT z1) []) ∧ (∃ z2 : Tm × Bool, ((AC Try.prog 114 [(aT z1)] [] (.tup [(true, (cT z2.1)), (false, [(.a (.fz (.bool z2.2)))])]) []) ∧ (br z2.2 (TV.Le (aT z2.1) r ∧ [] = Hs') (∃ z3 : Tm, ((AC Try.prog 22 [(.c (.a (.fz (.int .i64 (1 : Int))))), (aT z1)] [] (aT z3) []) ∧ (TV.Le (aT z3) r ∧ [] = Hs'))))))))) (br ((t_0 : Int) == (6 : Int)) ((FV.isSl 4 (.sl false 4 t_3) = true) ∧ (RPt Try.prog 88 0 r Hs' 3 ⟨[(2, (.c (.a (.ep 0 4 0 0)))), (6, (.c (.a (.fz .nils)))), (30, (.c (.a (.fz (.sl false 4 t_3))))), (31, (.c (.a (.fz (.int .i64 (((List.length t_3) : Nat) : Int)))))), (32, (.c (.a (.fz (.int .i64 (0 : Int))))))], [(0, (.arr 4 [[(.a (.fz (.int .i64 (0 : Int)))), (.a (.fz (.str []))), (.a (.fz (.int .i64 (0 : Int)))), (.a (.fz .nils))]]))], 1⟩)) (TV.Le (.agg [(.a (.fz (.int .i64 t_0))), (.a (.fz (.str t_1))), (.a (.fz (.int .i64 t_2))), (.a (.fz (.sl false 4 t_3)))]) r ∧ [] = Hs'))) := by kernel_rfl
theorem v88_3a (x30 : List (List FV)) (x31 : Int) (x32 : Int) (h0_0 : Int) (h0_1 : List UInt8) (h0_2 : Int) (r : TV) (Hs' : List AObj) : vcP Try.prog sh lv88 88 0 (fun r0 Hs0 => TV.Le r0 r ∧ Hs0 = Hs') (RPt Try.prog 88 0 r Hs') 3 ⟨[(2, (.c (.a (.ep 0 4 0 0)))), (6, (.c (.a (.fz .nils)))), (30, (.c (.a (.fz (.sl false 4 x30))))), (31, (.c (.a (.fz (.int .i64 x31))))), (32, (.c (.a (.fz (.int .i64 x32)))))], [(0, (.arr 4 [[(.a (.fz (.int .i64 h0_0))), (.a (.fz (.str h0_1))), (.a (.fz (.int .i64 h0_2))), (.a (.fz .nils))]]))], 1⟩ =
    (br (decide ((x32 : Int) < x31)) (((FV.isSl 4 (.sl false 4 x30) = true) ∧ ((0 ≤ x32) ∧ ((x32 < (((List.length x30) : Nat) : Int)) ∧ (((rE (List.getD x30 (Int.toNat x32) [])) : List FV) = (List.getD x30 (Int.toNat x32) []))))) ∧ (∃ z1 : Tm, ((AC Try.prog 88 [(aE (List.getD x30 (Int.toNat x32) []))] [] (aT z1) []) ∧ ((1 ≤ 1) ∧ ((roomB 1 56) ∧ (RPt Try.prog 88 0 r Hs' 3 ⟨[(2, (.c (.a (.ep 0 4 0 0)))), (6, (.c (.a (.osl 1 4 0 1)))), (30, (.c (.a (.fz (.sl false 4 x30))))), (31, (.c (.a (.fz (.int .i64 x31))))), (32, (.c (.a (.fz (.int .i64 (IntKind.wrap .i64 (x32 + (1 : Int))))))))], [(0, (.arr 4 [[(.a (.fz (.int .i64 h0_0))), (.a (.fz (.str h0_1))), (.a (.fz (.int .i64 h0_2))), (.a (.fz .nils))]])), (1, (.arz 4 [(FT4 z1)]))], 2⟩)))))) (((FV.isSl 4 .nils = true) ∧ ((0 ≤ (0 : Int)) ∧ (((0 : Int) < ((0 : Nat) : Int)) ∧ (([(.int .i64 (0 : Int)), (.str []), (.int .i64 (0 : Int)), .nils] : List FV) = [])))) ∧ ((FV.isSl 4 .nils = true) ∧ (((0 ≤ (1 : Int)) ∧ (((1 : Int) ≤ (0 : Int)) ∧ ((0 : Int) ≤ ((0 : Nat) : Int)))) ∧ (∃ z2 : Tm, ((AC Try.prog 21 [(.agg [(.a (.fz (.int .i64 (0 : Int)))), (.a (.fz (.str []))), (.a (.fz (.int .i64 (0 : Int)))), (.a (.fz .nils))]), (.c (.a (.fz .nils)))] [] (aT z2) []) ∧ (TV.Le (aT z2) r ∧ [] = Hs'))))))) := by kernel_rfl
theorem v88_3b (x6l : Nat) (x30 : List (List FV)) (x31 : Int) (x32 : Int) (h0_0 : Int) (h0_1 : List UInt8) (h0_2 : Int) (h1 : List (List FV)) (r : TV) (Hs' : List AObj) : vcP Try.prog sh lv88 88 0 (fun r0 Hs0 => TV.Le r0 r ∧ Hs0 = Hs') (RPt Try.prog 88 0 r Hs') 3 ⟨[(2, (.c (.a (.ep 0 4 0 0)))), (6, (.c (.a (.osl 1 4 0 x6l)))), (30, (.c (.a (.fz (.sl false 4 x30))))), (31, (.c (.a (.fz (.int .i64 x31))))), (32, (.c (.a (.fz (.int .i64 x32)))))], [(0, (.arr 4 [[(.a (.fz (.int .i64 h0_0))), (.a (.fz (.str h0_1))), (.a (.fz (.int .i64 h0_2))), (.a (.fz .nils))]])), (1, (.arz 4 h1))], 2⟩ =
    (br (decide ((x32 : Int) < x31)) (((FV.isSl 4 (.sl false 4 x30) = true) ∧ ((0 ≤ x32) ∧ ((x32 < (((List.length x30) : Nat) : Int)) ∧ (((rE (List.getD x30 (Int.toNat x32) [])) : List FV) = (List.getD x30 (Int.toNat x32) []))))) ∧ (∃ z1 : Tm, ((AC Try.prog 88 [(aE (List.getD x30 (Int.toNat x32) []))] [] (aT z1) []) ∧ ((1 ≤ 1) ∧ ((x6l ≤ (List.length h1) ∧ roomB (x6l + 1) 56) ∧ (RPt Try.prog 88 0 r Hs' 3 ⟨[(2, (.c (.a (.ep 0 4 0 0)))), (6, (.c (.a (.osl 1 4 0 (x6l + 1))))), (30, (.c (.a (.fz (.sl false 4 x30))))), (31, (.c (.a (.fz (.int .i64 x31))))), (32, (.c (.a (.fz (.int .i64 (IntKind.wrap .i64 (x32 + (1 : Int))))))))], [(0, (.arr 4 [[(.a (.fz (.int .i64 h0_0))), (.a (.fz (.str h0_1))), (.a (.fz (.int .i64 h0_2))), (.a (.fz .nils))]])), (1, (.arz 4 ((List.take x6l h1) ++ [(FT4 z1)])))], 2⟩)))))) ((0 ≤ (0 : Int) ∧ (0 : Int) < ((x6l : Nat) : Int)) ∧ (((0 < (List.length h1)) ∧ ((((rE (List.getD h1 0 [])) : List FV) = (List.take 4 (List.drop 0 (List.getD h1 0 [])))) ∧ ((4 : Nat) = 4))) ∧ (((0 ≤ (1 : Int)) ∧ (((1 : Int) ≤ ((x6l : Nat) : Int)) ∧ (((x6l : Nat) : Int) ≤ ((x6l : Nat) : Int)))) ∧ (((4 : Nat) = 4 ∧ (1 + ((Int.toNat ((x6l : Nat) : Int)) - 1)) ≤ (List.length h1)) ∧ (∃ z2 : Tm, ((AC Try.prog 21 [(aE (List.getD h1 0 [])), (.c (.a (.fz (.sl true 4 (List.take ((Int.toNat ((x6l : Nat) : Int)) - 1) (List.drop 1 h1))))))] [] (aT z2) []) ∧ (TV.Le (aT z2) r ∧ [] = Hs')))))))) := by kernel_rfl
/-- lambent/lambentref08.Run -/
def lv89 : List (Nat × List Nat) := [(1, [1, 2, 3, 6])]
theorem v89 (t_0 : Int) (t_1 : List UInt8) (t_2 : Int) (t_3 : List (List FV)) (fuel : Int) (head : Bool) (r : TV) (Hs' : List AObj) : vcE Try.prog sh lv89 89 [(.agg [(.a (.fz (.int .i64 t_0))), (.a (.fz (.str t_1))), (.a (.fz (.int .i64 t_2))), (.a (.fz (.sl false 4 t_3)))]), (.c (.a (.fz (.int .i64 fuel)))), (.c (.a (.fz (.bool head))))] [] (fun r0 Hs0 => TV.Le r0 r ∧ Hs0 = Hs') (RPt Try.prog 89 0 r Hs') =
    (RPt Try.prog 89 0 r Hs' 1 ⟨[(1, (.c (.a (.fz (.int .i64 fuel))))), (2, (.c (.a (.fz (.bool head))))), (3, (.c (.a (.ep 0 4 0 0)))), (6, (.c (.a (.ep 1 4 0 0))))], [(0, (.arr 4 [[(.a (.fz (.int .i64 t_0))), (.a (.fz (.str t_1))), (.a (.fz (.int .i64 t_2))), (.a (.fz (.sl false 4 t_3)))]])), (1, (.arr 4 [[(.a (.fz (.int .i64 (0 : Int)))), (.a (.fz (.str []))), (.a (.fz (.int .i64 (0 : Int)))), (.a (.fz .nils))]]))], 2⟩) := by kernel_rfl
theorem v89_1a (x1 : Int) (x2 : Bool) (h0_0 : Int) (h0_1 : List UInt8) (h0_2 : Int) (h0_3 : List (List FV)) (h1_0 : Int) (h1_1 : List UInt8) (h1_2 : Int) (r : TV) (Hs' : List AObj) : vcP Try.prog sh lv89 89 0 (fun r0 Hs0 => TV.Le r0 r ∧ Hs0 = Hs') (RPt Try.prog 89 0 r Hs') 1 ⟨[(1, (.c (.a (.fz (.int .i64 x1))))), (2, (.c (.a (.fz (.bool x2))))), (3, (.c (.a (.ep 0 4 0 0)))), (6, (.c (.a (.ep 1 4 0 0))))], [(0, (.arr 4 [[(.a (.fz (.int .i64 h0_0))), (.a (.fz (.str h0_1))), (.a (.fz (.int .i64 h0_2))), (.a (.fz (.sl false 4 h0_3)))]])), (1, (.arr 4 [[(.a (.fz (.int .i64 h1_0))), (.a (.fz (.str h1_1))), (.a (.fz (.int .i64 h1_2))), (.a (.fz .nils))]]))], 2⟩ =
    (∃ z1 : Tm × Int, ((AC Try.prog 39 [(.agg [(.a (.fz (.int .i64 h0_0))), (.a (.fz (.str h0_1))), (.a (.fz (.int .i64 h0_2))), (.a (.fz (.sl false 4 h0_3)))]), (.c (.a (.fz (.bool x2))))] [] (.tup [(true, (cT z1.1)), (false, [(.a (.fz (.int .i64 z1.2)))])]) []) ∧ (br ((z1.2 : Int) == (0 : Int)) (TV.Le (.tup [(true, [(.a (.fz (.int .i64 h0_0))), (.a (.fz (.str h0_1))), (.a (.fz (.int .i64 h0_2))), (.a (.fz (.sl false 4 h0_3)))]), (false, [(.a (.fz (.int .i64 x1)))]), (false, [(.a (.fz (.int .i64 (0 : Int))))])]) r ∧ [] = Hs') (br ((z1.2 : Int) == (2 : Int)) (TV.Le (.tup [(true, [(.a (.fz (.int .i64 (0 : Int)))), (.a (.fz (.str []))), (.a (.fz (.int .i64 (0 : Int)))), (.a (.fz .nils))]), (false, [(.a (.fz (.int .i64 (0 : Int))))]), (false, [(.a (.fz (.int .i64 (80 : Int))))])]) r ∧ [] = Hs') (br (decide ((x1 : Int) ≤ (0 : Int))) (TV.Le (.tup [(true, [(.a (.fz (.int .i64 (0 : Int)))), (.a (.fz (.str []))), (.a (.fz (.int .i64 (0 : Int)))), (.a (.fz .nils))]), (false, [(.a (.fz (.int .i64 (0 : Int))))]), (false, [(.a (.fz (.int .i64 (80 : Int))))])]) r ∧ [] = Hs') (RPt Try.prog 89 0 r Hs' 1 ⟨[(1, (.c (.a (.fz (.int .i64 (IntKind.wrap .i64 (x1 - (1 : Int)))))))), (2, (.c (.a (.fz (.bool x2))))), (3, (.c (.a (.ep 0 4 0 0)))), (6, (.c (.a (.ep 1 4 0 0))))], [(0, (.arr 4 [(cT z1.1)])), (1, (.arr 4 [[(.a (.fz (.int .i64 h1_0))), (.a (.fz (.str h1_1))), (.a (.fz (.int .i64 h1_2))), (.a (.fz .nils))]]))], 2⟩)))))) := by kernel_rfl
/-- lambent/lambentref09.Short -/
def lv52 : List (Nat × List Nat) := [(1, [1, 2, 3, 4])]
theorem v52 (t_0 : Int) (t_1 : List UInt8) (t_2 : Int) (t_3 : List (List FV)) (r : TV) (Hs' : List AObj) : vcE Try.prog sh lv52 52 [(.agg [(.a (.fz (.int .i64 t_0))), (.a (.fz (.str t_1))), (.a (.fz (.int .i64 t_2))), (.a (.fz (.sl false 4 t_3)))])] [] (fun r0 Hs0 => TV.Le r0 r ∧ Hs0 = Hs') (RPt Try.prog 52 0 r Hs') =
    (RPt Try.prog 52 0 r Hs' 1 ⟨[(1, (.c (.a (.ep 0 4 0 0)))), (2, (.c (.a (.ep 1 4 0 0)))), (3, (.c (.a (.fz .nils)))), (4, (.c (.a (.fz (.int .i64 (0 : Int))))))], [(0, (.arr 4 [[(.a (.fz (.int .i64 t_0))), (.a (.fz (.str t_1))), (.a (.fz (.int .i64 t_2))), (.a (.fz (.sl false 4 t_3)))]])), (1, (.arr 4 [[(.a (.fz (.int .i64 (0 : Int)))), (.a (.fz (.str []))), (.a (.fz (.int .i64 (0 : Int)))), (.a (.fz .nils))]]))], 2⟩) := by kernel_rfl
theorem v52_1a (x4 : Int) (h0_0 : Int) (h0_1 : List UInt8) (h0_2 : Int) (h0_3 : List (List FV)) (h1_0 : Int) (h1_1 : List UInt8) (h1_2 : Int) (r : TV) (Hs' : List AObj) : vcP Try.prog sh lv52 52 0 (fun r0 Hs0 => TV.Le r0 r ∧ Hs0 = Hs') (RPt Try.prog 52 0 r Hs') 1 ⟨[(1, (.c (.a (.ep 0 4 0 0)))), (2, (.c (.a (.ep 1 4 0 0)))), (3, (.c (.a (.fz .nils)))), (4, (.c (.a (.fz (.int .i64 x4)))))], [(0, (.arr 4 [[(.a (.fz (.int .i64 h0_0))), (.a (.fz (.str h0_1))), (.a (.fz (.int .i64 h0_2))), (.a (.fz (.sl false 4 h0_3)))]])), (1, (.arr 4 [[(.a (.fz (.int .i64 h1_0))), (.a (.fz (.str h1_1))), (.a (.fz (.int .i64 h1_2))), (.a (.fz .nils))]]))], 2⟩ =
    ((FV.isSl 4 (.sl false 4 h0_3) = true) ∧ (br (decide ((x4 : Int) < (((List.length h0_3) : Nat) : Int))) (((FV.isSl 4 (.sl false 4 h0_3) = true) ∧ ((0 ≤ x4) ∧ ((x4 < (((List.length h0_3) : Nat) : Int)) ∧ (((rE (List.getD h0_3 (Int.toNat x4) [])) : List FV) = (List.getD h0_3 (Int.toNat x4) []))))) ∧ (∃ z1 : Tm, ((AC Try.prog 52 [(aE (List.getD h0_3 (Int.toNat x4) []))] [] (aT z1) []) ∧ ((1 ≤ 1) ∧ ((roomB 1 56) ∧ (RPt Try.prog 52 0 r Hs' 1 ⟨[(1, (.c (.a (.ep 0 4 0 0)))), (2, (.c (.a (.ep 1 4 0 0)))), (3, (.c (.a (.osl 2 4 0 1)))), (4, (.c (.a (.fz (.int .i64 (IntKind.wrap .i64 (x4 + (1 : Int))))))))], [(0, (.arr 4 [[(.a (.fz (.int .i64 h0_0))), (.a (.fz (.str h0_1))), (.a (.fz (.int .i64 h0_2))), (.a (.fz (.sl false 4 h0_3)))]])), (1, (.arr 4 [[(.a (.fz (.int .i64 h1_0))), (.a (.fz (.str h1_1))), (.a (.fz (.int .i64 h1_2))), (.a (.fz .nils))]])), (2, (.arz 4 [(FT4 z1)]))], 3⟩)))))) (br ((h0_0 : Int) == (6 : Int)) (((FV.isSl 4 .nils = true) ∧ ((0 ≤ (0 : Int)) ∧ (((0 : Int) < ((0 : Nat) : Int)) ∧ (([(.int .i64 (0 : Int)), (.str []), (.int .i64 (0 : Int)), .nils] : List FV) = [])))) ∧ ((FV.isSl 4 .nils = true) ∧ (((0 ≤ (1 : Int)) ∧ (((1 : Int) ≤ (0 : Int)) ∧ ((0 : Int) ≤ ((0 : Nat) : Int)))) ∧ (∃ z2 : Tm, ((AC Try.prog 91 [(.agg [(.a (.fz (.int .i64 (0 : Int)))), (.a (.fz (.str []))), (.a (.fz (.int .i64 (0 : Int)))), (.a (.fz .nils))]), (.c (.a (.fz .nils)))] [] (aT z2) []) ∧ (TV.Le (aT z2) r ∧ [] = Hs')))))) (br ((h0_0 : Int) != (5 : Int)) (TV.Le (.agg [(.a (.fz (.int .i64 h0_0))), (.a (.fz (.str h0_1))), (.a (.fz (.int .i64 h0_2))), (.a (.fz (.sl false 4 h0_3)))]) r ∧ [] = Hs') (((FV.isSl 4 .nils = true) ∧ ((0 ≤ (0 : Int)) ∧ (((0 : Int) < ((0 : Nat) : Int)) ∧ (([(.int .i64 (0 : Int)), (.str []), (.int .i64 (0 : Int)), .nils] : List FV) = [])))) ∧ (TV.Le (.agg [(.a (.fz (.int .i64 (5 : Int)))), (.a (.fz (.str []))), (.a (.fz (.int .i64 (0 : Int)))), (.a (.fz .nils))]) r ∧ [] = Hs')))))) := by kernel_rfl
theorem v52_1b (x3l : Nat) (x4 : Int) (h0_0 : Int) (h0_1 : List UInt8) (h0_2 : Int) (h0_3 : List (List FV)) (h1_0 : Int) (h1_1 : List UInt8) (h1_2 : Int) (h2 : List (List FV)) (r : TV) (Hs' : List AObj) : vcP Try.prog sh lv52 52 0 (fun r0 Hs0 => TV.Le r0 r ∧ Hs0 = Hs') (RPt Try.prog 52 0 r Hs') 1 ⟨[(1, (.c (.a (.ep 0 4 0 0)))), (2, (.c (.a (.ep 1 4 0 0)))), (3, (.c (.a (.osl 2 4 0 x3l)))), (4, (.c (.a (.fz (.int .i64 x4)))))], [(0, (.arr 4 [[(.a (.fz (.int .i64 h0_0))), (.a (.fz (.str h0_1))), (.a (.fz (.int .i64 h0_2))), (.a (.fz (.sl false 4 h0_3)))]])), (1, (.arr 4 [[(.a (.fz (.int .i64 h1_0))), (.a (.fz (.str h1_1))), (.a (.fz (.int .i64 h1_2))), (.a (.fz .nils))]])), (2, (.arz 4 h2))], 3⟩ =
    ((FV.isSl 4 (.sl false 4 h0_3) = true) ∧ (br (decide ((x4 : Int) < (((List.length h0_3) : Nat) : Int))) (((FV.isSl 4 (.sl false 4 h0_3) = true) ∧ ((0 ≤ x4) ∧ ((x4 < (((List.length h0_3) : Nat) : Int)) ∧ (((rE (List.getD h0_3 (Int.toNat x4) [])) : List FV) = (List.getD h0_3 (Int.toNat x4) []))))) ∧ (∃ z1 : Tm, ((AC Try.prog 52 [(aE (List.getD h0_3 (Int.toNat x4) []))] [] (aT z1) []) ∧ ((1 ≤ 1) ∧ ((x3l ≤ (List.length h2) ∧ roomB (x3l + 1) 56) ∧ (RPt Try.prog 52 0 r Hs' 1 ⟨[(1, (.c (.a (.ep 0 4 0 0)))), (2, (.c (.a (.ep 1 4 0 0)))), (3, (.c (.a (.osl 2 4 0 (x3l + 1))))), (4, (.c (.a (.fz (.int .i64 (IntKind.wrap .i64 (x4 + (1 : Int))))))))], [(0, (.arr 4 [[(.a (.fz (.int .i64 h0_0))), (.a (.fz (.str h0_1))), (.a (.fz (.int .i64 h0_2))), (.a (.fz (.sl false 4 h0_3)))]])), (1, (.arr 4 [[(.a (.fz (.int .i64 h1_0))), (.a (.fz (.str h1_1))), (.a (.fz (.int .i64 h1_2))), (.a (.fz .nils))]])), (2, (.arz 4 ((List.take x3l h2) ++ [(FT4 z1)])))], 3⟩)))))) (br ((h0_0 : Int) == (6 : Int)) ((0 ≤ (0 : Int) ∧ (0 : Int) < ((x3l : Nat) : Int)) ∧ (((0 < (List.length h2)) ∧ ((((rE (List.getD h2 0 [])) : List FV) = (List.take 4 (List.drop 0 (List.getD h2 0 [])))) ∧ ((4 : Nat) = 4))) ∧ (((0 ≤ (1 : Int)) ∧ (((1 : Int) ≤ ((x3l : Nat) : Int)) ∧ (((x3l : Nat) : Int) ≤ ((x3l : Nat) : Int)))) ∧ (((4 : Nat) = 4 ∧ (1 + ((Int.toNat ((x3l : Nat) : Int)) - 1)) ≤ (List.length h2)) ∧ (∃ z2 : Tm, ((AC Try.prog 91 [(aE (List.getD h2 0 [])), (.c (.a (.fz (.sl true 4 (List.take ((Int.toNat ((x3l : Nat) : Int)) - 1) (List.drop 1 h2))))))] [] (aT z2) []) ∧ (TV.Le (aT z2) r ∧ [] = Hs'))))))) (br ((h0_0 : Int) != (5 : Int)) (TV.Le (.agg [(.a (.fz (.int .i64 h0_0))), (.a (.fz (.str h0_1))), (.a (.fz (.int .i64 h0_2))), (.a (.fz (.sl false 4 h0_3)))]) r ∧ [] = Hs') ((0 ≤ (0 : Int) ∧ (0 : Int) < ((x3l : Nat) : Int)) ∧ (((0 < (List.length h2)) ∧ ((((rE (List.getD h2 0 [])) : List FV) = (List.take 4 (List.drop 0 (List.getD h2 0 [])))) ∧ ((4 : Nat) = 4))) ∧ (((4 : Nat) = 4 ∧ (0 + x3l) ≤ (List.length h2)) ∧ (br (((FV.asI (List.getD (List.getD h2 0 []) 0 FV.nils)) : Int) != (6 : Int)) (TV.Le (.agg [(.a (.fz (.int .i64 (5 : Int)))), (.a (.fz (.str []))), (.a (.fz (.int .i64 (0 : Int)))), (.a (.fz (.sl true 4 (List.take x3l (List.drop 0 h2)))))]) r ∧ [] = Hs') ((FV.isSl 4 (List.getD (List.getD h2 0 []) 3 FV.nils) = true) ∧ (((FV.isSl 4 (List.getD (List.getD h2 0 []) 3 FV.nils) = true) ∧ ((0 ≤ (IntKind.wrap .i64 ((((List.length (FV.ses (List.getD (List.getD h2 0 []) 3 FV.nils))) : Nat) : Int) - (1 : Int)))) ∧ (((IntKind.wrap .i64 ((((List.length (FV.ses (List.getD (List.getD h2 0 []) 3 FV.nils))) : Nat) : Int) - (1 : Int))) < (((List.length (FV.ses (List.getD (List.getD h2 0 []) 3 FV.nils))) : Nat) : Int)) ∧ (((rE (List.getD (FV.ses (List.getD (List.getD h2 0 []) 3 FV.nils)) (Int.toNat (IntKind.wrap .i64 ((((List.length (FV.ses (List.getD (List.getD h2 0 []) 3 FV.nils))) : Nat) : Int) - (1 : Int)))) [])) : List FV) = (List.getD (FV.ses (List.getD (List.getD h2 0 []) 3 FV.nils)) (Int.toNat (IntKind.wrap .i64 ((((List.length (FV.ses (List.getD (List.getD h2 0 []) 3 FV.nils))) : Nat) : Int) - (1 : Int)))) []))))) ∧ (br (((FV.asI (List.getD (List.getD (FV.ses (List.getD (List.getD h2 0 []) 3 FV.nils)) (Int.toNat (IntKind.wrap .i64 ((((List.length (FV.ses (List.getD (List.getD h2 0 []) 3 FV.nils))) : Nat) : Int) - (1 : Int)))) []) 0 FV.nils)) : Int) != (3 : Int)) (TV.Le (.agg [(.a (.fz (.int .i64 (5 : Int)))), (.a (.fz (.str []))), (.a (.fz (.int .i64 (0 : Int)))), (.a (.fz (.sl true 4 (List.take x3l (List.drop 0 h2)))))]) r ∧ [] = Hs') (((FV.isSl 4 (List.getD (List.getD h2 0 []) 3 FV.nils) = true) ∧ ((0 ≤ (IntKind.wrap .i64 ((((List.length (FV.ses (List.getD (List.getD h2 0 []) 3 FV.nils))) : Nat) : Int) - (1 : Int)))) ∧ (((IntKind.wrap .i64 ((((List.length (FV.ses (List.getD (List.getD h2 0 []) 3 FV.nils))) : Nat) : Int) - (1 : Int))) < (((List.length (FV.ses (List.getD (List.getD h2 0 []) 3 FV.nils))) : Nat) : Int)) ∧ (((rE (List.getD (FV.ses (List.getD (List.getD h2 0 []) 3 FV.nils)) (Int.toNat (IntKind.wrap .i64 ((((List.length (FV.ses (List.getD (List.getD h2 0 []) 3 FV.nils))) : Nat) : Int) - (1 : Int)))) [])) : List FV) = (List.getD (FV.ses (List.getD (List.getD h2 0 []) 3 FV.nils)) (Int.toNat (IntKind.wrap .i64 ((((List.length (FV.ses (List.getD (List.getD h2 0 []) 3 FV.nils))) : Nat) : Int) - (1 : Int)))) []))))) ∧ (br (((FV.asI (List.getD (List.getD (FV.ses (List.getD (List.getD h2 0 []) 3 FV.nils)) (Int.toNat (IntKind.wrap .i64 ((((List.length (FV.ses (List.getD (List.getD h2 0 []) 3 FV.nils))) : Nat) : Int) - (1 : Int)))) []) 2 FV.nils)) : Int) != (0 : Int)) (TV.Le (.agg [(.a (.fz (.int .i64 (5 : Int)))), (.a (.fz (.str []))), (.a (.fz (.int .i64 (0 : Int)))), (.a (.fz (.sl true 4 (List.take x3l (List.drop 0 h2)))))]) r ∧ [] = Hs') (((FV.isSl 4 (List.getD (List.getD h2 0 []) 3 FV.nils) = true) ∧ ((0 ≤ (0 : Int)) ∧ (((0 : Int) < (((List.length (FV.ses (List.getD (List.getD h2 0 []) 3 FV.nils))) : Nat) : Int)) ∧ (((rE (List.getD (FV.ses (List.getD (List.getD h2 0 []) 3 FV.nils)) 0 [])) : List FV) = (List.getD (FV.ses (List.getD (List.getD h2 0 []) 3 FV.nils)) 0 []))))) ∧ (br (decide (((IntKind.wrap .i64 ((((List.length (FV.ses (List.getD (List.getD h2 0 []) 3 FV.nils))) : Nat) : Int) - (1 : Int))) : Int) > (1 : Int))) ((FV.isSl 4 (List.getD (List.getD h2 0 []) 3 FV.nils) = true) ∧ (((0 ≤ (0 : Int)) ∧ (((0 : Int) ≤ (IntKind.wrap .i64 ((((List.length (FV.ses (List.getD (List.getD h2 0 []) 3 FV.nils))) : Nat) : Int) - (1 : Int)))) ∧ ((IntKind.wrap .i64 ((((List.length (FV.ses (List.getD (List.getD h2 0 []) 3 FV.nils))) : Nat) : Int) - (1 : Int))) ≤ (((List.length (FV.ses (List.getD (List.getD h2 0 []) 3 FV.nils))) : Nat) : Int)))) ∧ (∃ b3 : Bool, ((AC Try.prog 54 [(.agg [(.a (.fz (.int .i64 (6 : Int)))), (.a (.fz (.str []))), (.a (.fz (.int .i64 (0 : Int)))), (.a (.fz (FV.cut (List.getD (List.getD h2 0 []) 3 FV.nils) 0 (Int.toNat (IntKind.wrap .i64 ((((List.length (FV.ses (List.getD (List.getD h2 0 []) 3 FV.nils))) : Nat) : Int) - (1 : Int)))))))]), (.c (.a (.fz (.int .i64 (0 : Int)))))] [] (.c (.a (.fz (.bool b3)))) []) ∧ (br b3 (TV.Le (.agg [(.a (.fz (.int .i64 (5 : Int)))), (.a (.fz (.str []))), (.a (.fz (.int .i64 (0 : Int)))), (.a (.fz (.sl true 4 (List.take x3l (List.drop 0 h2)))))]) r ∧ [] = Hs') (∃ z4 : Tm, ((AC Try.prog 92 [(.agg [(.a (.fz (.int .i64 (6 : Int)))), (.a (.fz (.str []))), (.a (.fz (.int .i64 (0 : Int)))), (.a (.fz (FV.cut (List.getD (List.getD h2 0 []) 3 FV.nils) 0 (Int.toNat (IntKind.wrap .i64 ((((List.length (FV.ses (List.getD (List.getD h2 0 []) 3 FV.nils))) : Nat) : Int) - (1 : Int)))))))]), (.c (.a (.fz (.int .i64 (0 : Int))))), (.c (.a (.fz (.int .i64 (-1 : Int)))))] [] (aT z4) []) ∧ (TV.Le (aT z4) r ∧ [] = Hs')))))))) (∃ b5 : Bool, ((AC Try.prog 54 [(aE (List.getD (FV.ses (List.getD (List.getD h2 0 []) 3 FV.nils)) 0 [])), (.c (.a (.fz (.int .i64 (0 : Int)))))] [] (.c (.a (.fz (.bool b5)))) []) ∧ (br b5 (TV.Le (.agg [(.a (.fz (.int .i64 (5 : Int)))), (.a (.fz (.str []))), (.a (.fz (.int .i64 (0 : Int)))), (.a (.fz (.sl true 4 (List.take x3l (List.drop 0 h2)))))]) r ∧ [] = Hs') (∃ z6 : Tm, ((AC Try.prog 92 [(aE (List.getD (FV.ses (List.getD (List.getD h2 0 []) 3 FV.nils)) 0 [])), (.c (.a (.fz (.int .i64 (0 : Int))))), (.c (.a (.fz (.int .i64 (-1 : Int)))))] [] (aT z6) []) ∧ (TV.Le (aT z6) r ∧ [] = Hs'))))))))))))))))))))) := by kernel_rfl
/-- lambent/eta.drop -/
def lv114 : List (Nat × List Nat) := []
theorem v114 (body_0 : Int) (body_1 : List UInt8) (body_2 : Int) (body_3 : List (List FV)) (r : TV) (Hs' : List AObj) : vcE Try.prog sh lv114 114 [(.agg [(.a (.fz (.int .i64 body_0))), (.a (.fz (.str body_1))), (.a (.fz (.int .i64 body_2))), (.a (.fz (.sl false 4 body_3)))])] [] (fun r0 Hs0 => TV.Le r0 r ∧ Hs0 = Hs') (RPt Try.prog 114 0 r Hs') =
    ((FV.isSl 4 (.sl false 4 body_3) = true) ∧ (br ((body_0 : Int) != (6 : Int)) (TV.Le (.tup [(true, [(.a (.fz (.int .i64 (0 : Int)))), (.a (.fz (.str []))), (.a (.fz (.int .i64 (0 : Int)))), (.a (.fz .nils))]), (false, [(.a (.fz (.bool false)))])]) r ∧ [] = Hs') (((FV.isSl 4 (.sl false 4 body_3) = true) ∧ ((0 ≤ (IntKind.wrap .i64 ((((List.length body_3) : Nat) : Int) - (1 : Int)))) ∧ (((IntKind.wrap .i64 ((((List.length body_3) : Nat) : Int) - (1 : Int))) < (((List.length body_3) : Nat) : Int)) ∧ (((rE (List.getD body_3 (Int.toNat (IntKind.wrap .i64 ((((List.length body_3) : Nat) : Int) - (1 : Int)))) [])) : List FV) = (List.getD body_3 (Int.toNat (IntKind.wrap .i64 ((((List.length body_3) : Nat) : Int) - (1 : Int)))) []))))) ∧ (br (((FV.asI (List.getD (List.getD body_3 (Int.toNat (IntKind.wrap .i64 ((((List.length body_3) : Nat) : Int) - (1 : Int)))) []) 0 FV.nils)) : Int) != (3 : Int)) (TV.Le (.tup [(true, [(.a (.fz (.int .i64 (0 : Int)))), (.a (.fz (.str []))), (.a (.fz (.int .i64 (0 : Int)))), (.a (.fz .nils))]), (false, [(.a (.fz (.bool false)))])]) r ∧ [] = Hs') (((FV.isSl 4 (.sl false 4 body_3) = true) ∧ ((0 ≤ (IntKind.wrap .i64 ((((List.length body_3) : Nat) : Int) - (1 : Int)))) ∧ (((IntKind.wrap .i64 ((((List.length body_3) : Nat) : Int) - (1 : Int))) < (((List.length body_3) : Nat) : Int)) ∧ (((rE (List.getD body_3 (Int.toNat (IntKind.wrap .i64 ((((List.length body_3) : Nat) : Int) - (1 : Int)))) [])) : List FV) = (List.getD body_3 (Int.toNat (IntKind.wrap .i64 ((((List.length body_3) : Nat) : Int) - (1 : Int)))) []))))) ∧ (br (((FV.asI (List.getD (List.getD body_3 (Int.toNat (IntKind.wrap .i64 ((((List.length body_3) : Nat) : Int) - (1 : Int)))) []) 2 FV.nils)) : Int) != (0 : Int)) (TV.Le (.tup [(true, [(.a (.fz (.int .i64 (0 : Int)))), (.a (.fz (.str []))), (.a (.fz (.int .i64 (0 : Int)))), (.a (.fz .nils))]), (false, [(.a (.fz (.bool false)))])]) r ∧ [] = Hs') (((FV.isSl 4 (.sl false 4 body_3) = true) ∧ ((0 ≤ (0 : Int)) ∧ (((0 : Int) < (((List.length body_3) : Nat) : Int)) ∧ (((rE (List.getD body_3 0 [])) : List FV) = (List.getD body_3 0 []))))) ∧ ((FV.isSl 4 (.sl false 4 body_3) = true) ∧ (((0 ≤ (1 : Int)) ∧ (((1 : Int) ≤ (IntKind.wrap .i64 ((((List.length body_3) : Nat) : Int) - (1 : Int)))) ∧ ((IntKind.wrap .i64 ((((List.length body_3) : Nat) : Int) - (1 : Int))) ≤ (((List.length body_3) : Nat) : Int)))) ∧ (∃ z1 : Tm, ((AC Try.prog 21 [(aE (List.getD body_3 0 [])), (.c (.a (.fz (.sl false 4 (List.drop 1 (List.take (Int.toNat (IntKind.wrap .i64 ((((List.length body_3) : Nat) : Int) - (1 : Int)))) body_3))))))] [] (aT z1) []) ∧ (∃ b2 : Bool, ((AC Try.prog 50 [(aT z1), (.c (.a (.fz (.int .i64 (0 : Int)))))] [] (.c (.a (.fz (.bool b2)))) []) ∧ (br b2 (TV.Le (.tup [(true, [(.a (.fz (.int .i64 (0 : Int)))), (.a (.fz (.str []))), (.a (.fz (.int .i64 (0 : Int)))), (.a (.fz .nils))]), (false, [(.a (.fz (.bool false)))])]) r ∧ [] = Hs') (∃ z3 : Tm, ((AC Try.prog 17 [(aT z1), (.c (.a (.fz (.int .i64 (0 : Int))))), (.c (.a (.fz (.int .i64 (-1 : Int)))))] [] (aT z3) []) ∧ (TV.Le (.tup [(true, (cT z3)), (false, [(.a (.fz (.bool true)))])]) r ∧ [] = Hs'))))))))))))))))) := by kernel_rfl
/-- lambent/lambentref09.Free -/
def lv54 : List (Nat × List Nat) := []
theorem v54 (t_0 : Int) (t_1 : List UInt8) (t_2 : Int) (t_3 : List (List FV)) (i : Int) (r : TV) (Hs' : List AObj) : vcE Try.prog sh lv54 54 [(.agg [(.a (.fz (.int .i64 t_0))), (.a (.fz (.str t_1))), (.a (.fz (.int .i64 t_2))), (.a (.fz (.sl false 4 t_3)))]), (.c (.a (.fz (.int .i64 i))))] [] (fun r0 Hs0 => TV.Le r0 r ∧ Hs0 = Hs') (RPt Try.prog 54 0 r Hs') =
    (∃ n1 : Int, ((AC Try.prog 40 [(.agg [(.a (.fz (.int .i64 t_0))), (.a (.fz (.str t_1))), (.a (.fz (.int .i64 t_2))), (.a (.fz (.sl false 4 t_3)))]), (.c (.a (.fz (.int .i64 i))))] [] (.c (.a (.fz (.int .i64 n1)))) []) ∧ (TV.Le (.c (.a (.fz (.bool (decide ((n1 : Int) > (0 : Int))))))) r ∧ [] = Hs'))) := by kernel_rfl
/-- lambent/eta.Free -/
def lv50 : List (Nat × List Nat) := []
theorem v50 (t_0 : Int) (t_1 : List UInt8) (t_2 : Int) (t_3 : List (List FV)) (i : Int) (r : TV) (Hs' : List AObj) : vcE Try.prog sh lv50 50 [(.agg [(.a (.fz (.int .i64 t_0))), (.a (.fz (.str t_1))), (.a (.fz (.int .i64 t_2))), (.a (.fz (.sl false 4 t_3)))]), (.c (.a (.fz (.int .i64 i))))] [] (fun r0 Hs0 => TV.Le r0 r ∧ Hs0 = Hs') (RPt Try.prog 50 0 r Hs') =
    (∃ n1 : Int, ((AC Try.prog 37 [(.agg [(.a (.fz (.int .i64 t_0))), (.a (.fz (.str t_1))), (.a (.fz (.int .i64 t_2))), (.a (.fz (.sl false 4 t_3)))]), (.c (.a (.fz (.int .i64 i))))] [] (.c (.a (.fz (.int .i64 n1)))) []) ∧ (TV.Le (.c (.a (.fz (.bool (decide ((n1 : Int) > (0 : Int))))))) r ∧ [] = Hs'))) := by kernel_rfl
/-- lambent/lambentlaw09.EtaEqual -/
def lv10 : List (Nat × List Nat) := [(36, [])]
theorem v10 (a_0 : Int) (a_1 : List UInt8) (a_2 : Int) (a_3 : List (List FV)) (b_0 : Int) (b_1 : List UInt8) (b_2 : Int) (b_3 : List (List FV)) (c_0 : Int) (c_1 : List UInt8) (c_2 : Int) (c_3 : List (List FV)) (fuel : Int) (more : Int) (r : TV) (Hs' : List AObj) : vcE Try.prog sh lv10 10 [(.agg [(.a (.fz (.int .i64 a_0))), (.a (.fz (.str a_1))), (.a (.fz (.int .i64 a_2))), (.a (.fz (.sl false 4 a_3)))]), (.agg [(.a (.fz (.int .i64 b_0))), (.a (.fz (.str b_1))), (.a (.fz (.int .i64 b_2))), (.a (.fz (.sl false 4 b_3)))]), (.agg [(.a (.fz (.int .i64 c_0))), (.a (.fz (.str c_1))), (.a (.fz (.int .i64 c_2))), (.a (.fz (.sl false 4 c_3)))]), (.c (.a (.fz (.int .i64 fuel)))), (.c (.a (.fz (.int .i64 more))))] [] (fun r0 Hs0 => TV.Le r0 r ∧ Hs0 = Hs') (RPt Try.prog 10 0 r Hs') =
    (∃ b1 : Bool, ((AC Try.prog 42 [] [] (.c (.a (.fz (.bool b1)))) []) ∧ (br (!b1) (TV.Le (.c (.a (.fz (.bool false)))) r ∧ [] = Hs') (∃ b2 : Bool, ((AC Try.prog 43 [(.agg [(.a (.fz (.int .i64 a_0))), (.a (.fz (.str a_1))), (.a (.fz (.int .i64 a_2))), (.a (.fz (.sl false 4 a_3)))])] [] (.c (.a (.fz (.bool b2)))) []) ∧ (∃ b3 : Bool, ((AC Try.prog 43 [(.agg [(.a (.fz (.int .i64 b_0))), (.a (.fz (.str b_1))), (.a (.fz (.int .i64 b_2))), (.a (.fz (.sl false 4 b_3)))])] [] (.c (.a (.fz (.bool b3)))) []) ∧ (∃ b4 : Bool, ((AC Try.prog 43 [(.agg [(.a (.fz (.int .i64 c_0))), (.a (.fz (.str c_1))), (.a (.fz (.int .i64 c_2))), (.a (.fz (.sl false 4 c_3)))])] [] (.c (.a (.fz (.bool b4)))) []) ∧ (∃ b5 : Bool, ((AC Try.prog 15 [(.agg [(.a (.fz (.int .i64 a_0))), (.a (.fz (.str a_1))), (.a (.fz (.int .i64 a_2))), (.a (.fz (.sl false 4 a_3)))])] [] (.c (.a (.fz (.bool b5)))) []) ∧ (∃ b6 : Bool, ((AC Try.prog 15 [(.agg [(.a (.fz (.int .i64 b_0))), (.a (.fz (.str b_1))), (.a (.fz (.int .i64 b_2))), (.a (.fz (.sl false 4 b_3)))])] [] (.c (.a (.fz (.bool b6)))) []) ∧ (∃ b7 : Bool, ((AC Try.prog 15 [(.agg [(.a (.fz (.int .i64 c_0))), (.a (.fz (.str c_1))), (.a (.fz (.int .i64 c_2))), (.a (.fz (.sl false 4 c_3)))])] [] (.c (.a (.fz (.bool b7)))) []) ∧ (br b2 (TV.Le (.c (.a (.fz (.bool b1)))) r ∧ [] = Hs') (br b3 (TV.Le (.c (.a (.fz (.bool b1)))) r ∧ [] = Hs') (br b4 (TV.Le (.c (.a (.fz (.bool b1)))) r ∧ [] = Hs') (br (!b5) (TV.Le (.c (.a (.fz (.bool b1)))) r ∧ [] = Hs') (br (!b6) (TV.Le (.c (.a (.fz (.bool b1)))) r ∧ [] = Hs') (br (!b7) (TV.Le (.c (.a (.fz (.bool b1)))) r ∧ [] = Hs') (br (decide ((fuel : Int) > (40 : Int))) (TV.Le (.c (.a (.fz (.bool b1)))) r ∧ [] = Hs') (br (decide ((more : Int) < (0 : Int))) (TV.Le (.c (.a (.fz (.bool b1)))) r ∧ [] = Hs') (br (decide ((more : Int) > (40 : Int))) (TV.Le (.c (.a (.fz (.bool b1)))) r ∧ [] = Hs') (∃ b8 : Bool, (∃ n9 : Int, ((AC Try.prog 45 [(.agg [(.a (.fz (.int .i64 a_0))), (.a (.fz (.str a_1))), (.a (.fz (.int .i64 a_2))), (.a (.fz (.sl false 4 a_3)))]), (.agg [(.a (.fz (.int .i64 a_0))), (.a (.fz (.str a_1))), (.a (.fz (.int .i64 a_2))), (.a (.fz (.sl false 4 a_3)))]), (.c (.a (.fz (.int .i64 fuel))))] [] (.tup [(false, [(.a (.fz (.bool b8)))]), (false, [(.a (.fz (.int .i64 n9)))])]) []) ∧ (∃ b10 : Bool, (∃ n11 : Int, ((AC Try.prog 45 [(.agg [(.a (.fz (.int .i64 a_0))), (.a (.fz (.str a_1))), (.a (.fz (.int .i64 a_2))), (.a (.fz (.sl false 4 a_3)))]), (.agg [(.a (.fz (.int .i64 b_0))), (.a (.fz (.str b_1))), (.a (.fz (.int .i64 b_2))), (.a (.fz (.sl false 4 b_3)))]), (.c (.a (.fz (.int .i64 fuel))))] [] (.tup [(false, [(.a (.fz (.bool b10)))]), (false, [(.a (.fz (.int .i64 n11)))])]) []) ∧ (∃ b12 : Bool, (∃ n13 : Int, ((AC Try.prog 45 [(.agg [(.a (.fz (.int .i64 b_0))), (.a (.fz (.str b_1))), (.a (.fz (.int .i64 b_2))), (.a (.fz (.sl false 4 b_3)))]), (.agg [(.a (.fz (.int .i64 a_0))), (.a (.fz (.str a_1))), (.a (.fz (.int .i64 a_2))), (.a (.fz (.sl false 4 a_3)))]), (.c (.a (.fz (.int .i64 fuel))))] [] (.tup [(false, [(.a (.fz (.bool b12)))]), (false, [(.a (.fz (.int .i64 n13)))])]) []) ∧ (∃ b14 : Bool, (∃ n15 : Int, ((AC Try.prog 45 [(.agg [(.a (.fz (.int .i64 b_0))), (.a (.fz (.str b_1))), (.a (.fz (.int .i64 b_2))), (.a (.fz (.sl false 4 b_3)))]), (.agg [(.a (.fz (.int .i64 c_0))), (.a (.fz (.str c_1))), (.a (.fz (.int .i64 c_2))), (.a (.fz (.sl false 4 c_3)))]), (.c (.a (.fz (.int .i64 fuel))))] [] (.tup [(false, [(.a (.fz (.bool b14)))]), (false, [(.a (.fz (.int .i64 n15)))])]) []) ∧ (∃ b16 : Bool, (∃ n17 : Int, ((AC Try.prog 45 [(.agg [(.a (.fz (.int .i64 a_0))), (.a (.fz (.str a_1))), (.a (.fz (.int .i64 a_2))), (.a (.fz (.sl false 4 a_3)))]), (.agg [(.a (.fz (.int .i64 c_0))), (.a (.fz (.str c_1))), (.a (.fz (.int .i64 c_2))), (.a (.fz (.sl false 4 c_3)))]), (.c (.a (.fz (.int .i64 fuel))))] [] (.tup [(false, [(.a (.fz (.bool b16)))]), (false, [(.a (.fz (.int .i64 n17)))])]) []) ∧ (br ((n9 : Int) == (0 : Int)) (br (!b8) (RPt Try.prog 10 0 r Hs' 36 ⟨[], [], 0⟩) (br ((n11 : Int) == (0 : Int)) (br ((n13 : Int) != (0 : Int)) (RPt Try.prog 10 0 r Hs' 36 ⟨[], [], 0⟩) (br (!((b10 : Bool) == b12)) (RPt Try.prog 10 0 r Hs' 36 ⟨[], [], 0⟩) (br ((n11 : Int) == (0 : Int)) (br ((n15 : Int) == (0 : Int)) (br ((n17 : Int) != (0 : Int)) (TV.Le (.c (.a (.fz (.bool false)))) r ∧ [] = Hs') (br b10 (br b14 (br (!b16) (TV.Le (.c (.a (.fz (.bool false)))) r ∧ [] = Hs') (∃ b18 : Bool, (∃ n19 : Int, ((AC Try.prog 45 [(.agg [(.a (.fz (.int .i64 a_0))), (.a (.fz (.str a_1))), (.a (.fz (.int .i64 a_2))), (.a (.fz (.sl false 4 a_3)))]), (.agg [(.a (.fz (.int .i64 b_0))), (.a (.fz (.str b_1))), (.a (.fz (.int .i64 b_2))), (.a (.fz (.sl false 4 b_3)))]), (.c (.a (.fz (.int .i64 (IntKind.wrap .i64 (fuel + more))))))] [] (.tup [(false, [(.a (.fz (.bool b18)))]), (false, [(.a (.fz (.int .i64 n19)))])]) []) ∧ (br b1 (br ((n11 : Int) != (0 : Int)) (TV.Le (.c (.a (.fz (.bool true)))) r ∧ [] = Hs') (br ((n19 : Int) == (0 : Int)) (TV.Le (.c (.a (.fz (.bool ((b18 : Bool) == b10))))) r ∧ [] = Hs') (TV.Le (.c (.a (.fz (.bool false)))) r ∧ [] = Hs'))) (TV.Le (.c (.a (.fz (.bool false)))) r ∧ [] = Hs')))))) (∃ b20 : Bool, (∃ n21 : Int, ((AC Try.prog 45 [(.agg [(.a (.fz (.int .i64 a_0))), (.a (.fz (.str a_1))), (.a (.fz (.int .i64 a_2))), (.a (.fz (.sl false 4 a_3)))]), (.agg [(.a (.fz (.int .i64 b_0))), (.a (.fz (.str b_1))), (.a (.fz (.int .i64 b_2))), (.a (.fz (.sl false 4 b_3)))]), (.c (.a (.fz (.int .i64 (IntKind.wrap .i64 (fuel + more))))))] [] (.tup [(false, [(.a (.fz (.bool b20)))]), (false, [(.a (.fz (.int .i64 n21)))])]) []) ∧ (br b1 (br ((n11 : Int) != (0 : Int)) (TV.Le (.c (.a (.fz (.bool true)))) r ∧ [] = Hs') (br ((n21 : Int) == (0 : Int)) (TV.Le (.c (.a (.fz (.bool ((b20 : Bool) == b10))))) r ∧ [] = Hs') (TV.Le (.c (.a (.fz (.bool false)))) r ∧ [] = Hs'))) (TV.Le (.c (.a (.fz (.bool false)))) r ∧ [] = Hs')))))) (∃ b22 : Bool, (∃ n23 : Int, ((AC Try.prog 45 [(.agg [(.a (.fz (.int .i64 a_0))), (.a (.fz (.str a_1))), (.a (.fz (.int .i64 a_2))), (.a (.fz (.sl false 4 a_3)))]), (.agg [(.a (.fz (.int .i64 b_0))), (.a (.fz (.str b_1))), (.a (.fz (.int .i64 b_2))), (.a (.fz (.sl false 4 b_3)))]), (.c (.a (.fz (.int .i64 (IntKind.wrap .i64 (fuel + more))))))] [] (.tup [(false, [(.a (.fz (.bool b22)))]), (false, [(.a (.fz (.int .i64 n23)))])]) []) ∧ (br b1 (br ((n11 : Int) != (0 : Int)) (TV.Le (.c (.a (.fz (.bool true)))) r ∧ [] = Hs') (br ((n23 : Int) == (0 : Int)) (TV.Le (.c (.a (.fz (.bool ((b22 : Bool) == b10))))) r ∧ [] = Hs') (TV.Le (.c (.a (.fz (.bool false)))) r ∧ [] = Hs'))) (TV.Le (.c (.a (.fz (.bool false)))) r ∧ [] = Hs'))))))) (∃ b24 : Bool, (∃ n25 : Int, ((AC Try.prog 45 [(.agg [(.a (.fz (.int .i64 a_0))), (.a (.fz (.str a_1))), (.a (.fz (.int .i64 a_2))), (.a (.fz (.sl false 4 a_3)))]), (.agg [(.a (.fz (.int .i64 b_0))), (.a (.fz (.str b_1))), (.a (.fz (.int .i64 b_2))), (.a (.fz (.sl false 4 b_3)))]), (.c (.a (.fz (.int .i64 (IntKind.wrap .i64 (fuel + more))))))] [] (.tup [(false, [(.a (.fz (.bool b24)))]), (false, [(.a (.fz (.int .i64 n25)))])]) []) ∧ (br b1 (br ((n11 : Int) != (0 : Int)) (TV.Le (.c (.a (.fz (.bool true)))) r ∧ [] = Hs') (br ((n25 : Int) == (0 : Int)) (TV.Le (.c (.a (.fz (.bool ((b24 : Bool) == b10))))) r ∧ [] = Hs') (TV.Le (.c (.a (.fz (.bool false)))) r ∧ [] = Hs'))) (TV.Le (.c (.a (.fz (.bool false)))) r ∧ [] = Hs')))))) (∃ b26 : Bool, (∃ n27 : Int, ((AC Try.prog 45 [(.agg [(.a (.fz (.int .i64 a_0))), (.a (.fz (.str a_1))), (.a (.fz (.int .i64 a_2))), (.a (.fz (.sl false 4 a_3)))]), (.agg [(.a (.fz (.int .i64 b_0))), (.a (.fz (.str b_1))), (.a (.fz (.int .i64 b_2))), (.a (.fz (.sl false 4 b_3)))]), (.c (.a (.fz (.int .i64 (IntKind.wrap .i64 (fuel + more))))))] [] (.tup [(false, [(.a (.fz (.bool b26)))]), (false, [(.a (.fz (.int .i64 n27)))])]) []) ∧ (br b1 (br ((n11 : Int) != (0 : Int)) (TV.Le (.c (.a (.fz (.bool true)))) r ∧ [] = Hs') (br ((n27 : Int) == (0 : Int)) (TV.Le (.c (.a (.fz (.bool ((b26 : Bool) == b10))))) r ∧ [] = Hs') (TV.Le (.c (.a (.fz (.bool false)))) r ∧ [] = Hs'))) (TV.Le (.c (.a (.fz (.bool false)))) r ∧ [] = Hs')))))))) (br ((n11 : Int) == (0 : Int)) (br ((n15 : Int) == (0 : Int)) (br ((n17 : Int) != (0 : Int)) (TV.Le (.c (.a (.fz (.bool false)))) r ∧ [] = Hs') (br b10 (br b14 (br (!b16) (TV.Le (.c (.a (.fz (.bool false)))) r ∧ [] = Hs') (∃ b28 : Bool, (∃ n29 : Int, ((AC Try.prog 45 [(.agg [(.a (.fz (.int .i64 a_0))), (.a (.fz (.str a_1))), (.a (.fz (.int .i64 a_2))), (.a (.fz (.sl false 4 a_3)))]), (.agg [(.a (.fz (.int .i64 b_0))), (.a (.fz (.str b_1))), (.a (.fz (.int .i64 b_2))), (.a (.fz (.sl false 4 b_3)))]), (.c (.a (.fz (.int .i64 (IntKind.wrap .i64 (fuel + more))))))] [] (.tup [(false, [(.a (.fz (.bool b28)))]), (false, [(.a (.fz (.int .i64 n29)))])]) []) ∧ (br b1 (br ((n11 : Int) != (0 : Int)) (TV.Le (.c (.a (.fz (.bool true)))) r ∧ [] = Hs') (br ((n29 : Int) == (0 : Int)) (TV.Le (.c (.a (.fz (.bool ((b28 : Bool) == b10))))) r ∧ [] = Hs') (TV.Le (.c (.a (.fz (.bool false)))) r ∧ [] = Hs'))) (TV.Le (.c (.a (.fz (.bool false)))) r ∧ [] = Hs')))))) (∃ b30 : Bool, (∃ n31 : Int, ((AC Try.prog 45 [(.agg [(.a (.fz (.int .i64 a_0))), (.a (.fz (.str a_1))), (.a (.fz (.int .i64 a_2))), (.a (.fz (.sl false 4 a_3)))]), (.agg [(.a (.fz (.int .i64 b_0))), (.a (.fz (.str b_1))), (.a (.fz (.int .i64 b_2))), (.a (.fz (.sl false 4 b_3)))]), (.c (.a (.fz (.int .i64 (IntKind.wrap .i64 (fuel + more))))))] [] (.tup [(false, [(.a (.fz (.bool b30)))]), (false, [(.a (.fz (.int .i64 n31)))])]) []) ∧ (br b1 (br ((n11 : Int) != (0 : Int)) (TV.Le (.c (.a (.fz (.bool true)))) r ∧ [] = Hs') (br ((n31 : Int) == (0 : Int)) (TV.Le (.c (.a (.fz (.bool ((b30 : Bool) == b10))))) r ∧ [] = Hs') (TV.Le (.c (.a (.fz (.bool false)))) r ∧ [] = Hs'))) (TV.Le (.c (.a (.fz (.bool false)))) r ∧ [] = Hs')))))) (∃ b32 : Bool, (∃ n33 : Int, ((AC Try.prog 45 [(.agg [(.a (.fz (.int .i64 a_0))), (.a (.fz (.str a_1))), (.a (.fz (.int .i64 a_2))), (.a (.fz (.sl false 4 a_3)))]), (.agg [(.a (.fz (.int .i64 b_0))), (.a (.fz (.str b_1))), (.a (.fz (.int .i64 b_2))), (.a (.fz (.sl false 4 b_3)))]), (.c (.a (.fz (.int .i64 (IntKind.wrap .i64 (fuel + more))))))] [] (.tup [(false, [(.a (.fz (.bool b32)))]), (false, [(.a (.fz (.int .i64 n33)))])]) []) ∧ (br b1 (br ((n11 : Int) != (0 : Int)) (TV.Le (.c (.a (.fz (.bool true)))) r ∧ [] = Hs') (br ((n33 : Int) == (0 : Int)) (TV.Le (.c (.a (.fz (.bool ((b32 : Bool) == b10))))) r ∧ [] = Hs') (TV.Le (.c (.a (.fz (.bool false)))) r ∧ [] = Hs'))) (TV.Le (.c (.a (.fz (.bool false)))) r ∧ [] = Hs'))))))) (∃ b34 : Bool, (∃ n35 : Int, ((AC Try.prog 45 [(.agg [(.a (.fz (.int .i64 a_0))), (.a (.fz (.str a_1))), (.a (.fz (.int .i64 a_2))), (.a (.fz (.sl false 4 a_3)))]), (.agg [(.a (.fz (.int .i64 b_0))), (.a (.fz (.str b_1))), (.a (.fz (.int .i64 b_2))), (.a (.fz (.sl false 4 b_3)))]), (.c (.a (.fz (.int .i64 (IntKind.wrap .i64 (fuel + more))))))] [] (.tup [(false, [(.a (.fz (.bool b34)))]), (false, [(.a (.fz (.int .i64 n35)))])]) []) ∧ (br b1 (br ((n11 : Int) != (0 : Int)) (TV.Le (.c (.a (.fz (.bool true)))) r ∧ [] = Hs') (br ((n35 : Int) == (0 : Int)) (TV.Le (.c (.a (.fz (.bool ((b34 : Bool) == b10))))) r ∧ [] = Hs') (TV.Le (.c (.a (.fz (.bool false)))) r ∧ [] = Hs'))) (TV.Le (.c (.a (.fz (.bool false)))) r ∧ [] = Hs')))))) (∃ b36 : Bool, (∃ n37 : Int, ((AC Try.prog 45 [(.agg [(.a (.fz (.int .i64 a_0))), (.a (.fz (.str a_1))), (.a (.fz (.int .i64 a_2))), (.a (.fz (.sl false 4 a_3)))]), (.agg [(.a (.fz (.int .i64 b_0))), (.a (.fz (.str b_1))), (.a (.fz (.int .i64 b_2))), (.a (.fz (.sl false 4 b_3)))]), (.c (.a (.fz (.int .i64 (IntKind.wrap .i64 (fuel + more))))))] [] (.tup [(false, [(.a (.fz (.bool b36)))]), (false, [(.a (.fz (.int .i64 n37)))])]) []) ∧ (br b1 (br ((n11 : Int) != (0 : Int)) (TV.Le (.c (.a (.fz (.bool true)))) r ∧ [] = Hs') (br ((n37 : Int) == (0 : Int)) (TV.Le (.c (.a (.fz (.bool ((b36 : Bool) == b10))))) r ∧ [] = Hs') (TV.Le (.c (.a (.fz (.bool false)))) r ∧ [] = Hs'))) (TV.Le (.c (.a (.fz (.bool false)))) r ∧ [] = Hs')))))))) (br ((n11 : Int) == (0 : Int)) (br ((n13 : Int) != (0 : Int)) (RPt Try.prog 10 0 r Hs' 36 ⟨[], [], 0⟩) (br (!((b10 : Bool) == b12)) (RPt Try.prog 10 0 r Hs' 36 ⟨[], [], 0⟩) (br ((n11 : Int) == (0 : Int)) (br ((n15 : Int) == (0 : Int)) (br ((n17 : Int) != (0 : Int)) (TV.Le (.c (.a (.fz (.bool false)))) r ∧ [] = Hs') (br b10 (br b14 (br (!b16) (TV.Le (.c (.a (.fz (.bool false)))) r ∧ [] = Hs') (∃ b38 : Bool, (∃ n39 : Int, ((AC Try.prog 45 [(.agg [(.a (.fz (.int .i64 a_0))), (.a (.fz (.str a_1))), (.a (.fz (.int .i64 a_2))), (.a (.fz (.sl false 4 a_3)))]), (.agg [(.a (.fz (.int .i64 b_0))), (.a (.fz (.str b_1))), (.a (.fz (.int .i64 b_2))), (.a (.fz (.sl false 4 b_3)))]), (.c (.a (.fz (.int .i64 (IntKind.wrap .i64 (fuel + more))))))] [] (.tup [(false, [(.a (.fz (.bool b38)))]), (false, [(.a (.fz (.int .i64 n39)))])]) []) ∧ (br b1 (br ((n11 : Int) != (0 : Int)) (TV.Le (.c (.a (.fz (.bool true)))) r ∧ [] = Hs') (br ((n39 : Int) == (0 : Int)) (TV.Le (.c (.a (.fz (.bool ((b38 : Bool) == b10))))) r ∧ [] = Hs') (TV.Le (.c (.a (.fz (.bool false)))) r ∧ [] = Hs'))) (TV.Le (.c (.a (.fz (.bool false)))) r ∧ [] = Hs')))))) (∃ b40 : Bool, (∃ n41 : Int, ((AC Try.prog 45 [(.agg [(.a (.fz (.int .i64 a_0))), (.a (.fz (.str a_1))), (.a (.fz (.int .i64 a_2))), (.a (.fz (.sl false 4 a_3)))]), (.agg [(.a (.fz (.int .i64 b_0))), (.a (.fz (.str b_1))), (.a (.fz (.int .i64 b_2))), (.a (.fz (.sl false 4 b_3)))]), (.c (.a (.fz (.int .i64 (IntKind.wrap .i64 (fuel + more))))))] [] (.tup [(false, [(.a (.fz (.bool b40)))]), (false, [(.a (.fz (.int .i64 n41)))])]) []) ∧ (br b1 (br ((n11 : Int) != (0 : Int)) (TV.Le (.c (.a (.fz (.bool true)))) r ∧ [] = Hs') (br ((n41 : Int) == (0 : Int)) (TV.Le (.c (.a (.fz (.bool ((b40 : Bool) == b10))))) r ∧ [] = Hs') (TV.Le (.c (.a (.fz (.bool false)))) r ∧ [] = Hs'))) (TV.Le (.c (.a (.fz (.bool false)))) r ∧ [] = Hs')))))) (∃ b42 : Bool, (∃ n43 : Int, ((AC Try.prog 45 [(.agg [(.a (.fz (.int .i64 a_0))), (.a (.fz (.str a_1))), (.a (.fz (.int .i64 a_2))), (.a (.fz (.sl false 4 a_3)))]), (.agg [(.a (.fz (.int .i64 b_0))), (.a (.fz (.str b_1))), (.a (.fz (.int .i64 b_2))), (.a (.fz (.sl false 4 b_3)))]), (.c (.a (.fz (.int .i64 (IntKind.wrap .i64 (fuel + more))))))] [] (.tup [(false, [(.a (.fz (.bool b42)))]), (false, [(.a (.fz (.int .i64 n43)))])]) []) ∧ (br b1 (br ((n11 : Int) != (0 : Int)) (TV.Le (.c (.a (.fz (.bool true)))) r ∧ [] = Hs') (br ((n43 : Int) == (0 : Int)) (TV.Le (.c (.a (.fz (.bool ((b42 : Bool) == b10))))) r ∧ [] = Hs') (TV.Le (.c (.a (.fz (.bool false)))) r ∧ [] = Hs'))) (TV.Le (.c (.a (.fz (.bool false)))) r ∧ [] = Hs'))))))) (∃ b44 : Bool, (∃ n45 : Int, ((AC Try.prog 45 [(.agg [(.a (.fz (.int .i64 a_0))), (.a (.fz (.str a_1))), (.a (.fz (.int .i64 a_2))), (.a (.fz (.sl false 4 a_3)))]), (.agg [(.a (.fz (.int .i64 b_0))), (.a (.fz (.str b_1))), (.a (.fz (.int .i64 b_2))), (.a (.fz (.sl false 4 b_3)))]), (.c (.a (.fz (.int .i64 (IntKind.wrap .i64 (fuel + more))))))] [] (.tup [(false, [(.a (.fz (.bool b44)))]), (false, [(.a (.fz (.int .i64 n45)))])]) []) ∧ (br b1 (br ((n11 : Int) != (0 : Int)) (TV.Le (.c (.a (.fz (.bool true)))) r ∧ [] = Hs') (br ((n45 : Int) == (0 : Int)) (TV.Le (.c (.a (.fz (.bool ((b44 : Bool) == b10))))) r ∧ [] = Hs') (TV.Le (.c (.a (.fz (.bool false)))) r ∧ [] = Hs'))) (TV.Le (.c (.a (.fz (.bool false)))) r ∧ [] = Hs')))))) (∃ b46 : Bool, (∃ n47 : Int, ((AC Try.prog 45 [(.agg [(.a (.fz (.int .i64 a_0))), (.a (.fz (.str a_1))), (.a (.fz (.int .i64 a_2))), (.a (.fz (.sl false 4 a_3)))]), (.agg [(.a (.fz (.int .i64 b_0))), (.a (.fz (.str b_1))), (.a (.fz (.int .i64 b_2))), (.a (.fz (.sl false 4 b_3)))]), (.c (.a (.fz (.int .i64 (IntKind.wrap .i64 (fuel + more))))))] [] (.tup [(false, [(.a (.fz (.bool b46)))]), (false, [(.a (.fz (.int .i64 n47)))])]) []) ∧ (br b1 (br ((n11 : Int) != (0 : Int)) (TV.Le (.c (.a (.fz (.bool true)))) r ∧ [] = Hs') (br ((n47 : Int) == (0 : Int)) (TV.Le (.c (.a (.fz (.bool ((b46 : Bool) == b10))))) r ∧ [] = Hs') (TV.Le (.c (.a (.fz (.bool false)))) r ∧ [] = Hs'))) (TV.Le (.c (.a (.fz (.bool false)))) r ∧ [] = Hs')))))))) (br ((n11 : Int) == (0 : Int)) (br ((n15 : Int) == (0 : Int)) (br ((n17 : Int) != (0 : Int)) (TV.Le (.c (.a (.fz (.bool false)))) r ∧ [] = Hs') (br b10 (br b14 (br (!b16) (TV.Le (.c (.a (.fz (.bool false)))) r ∧ [] = Hs') (∃ b48 : Bool, (∃ n49 : Int, ((AC Try.prog 45 [(.agg [(.a (.fz (.int .i64 a_0))), (.a (.fz (.str a_1))), (.a (.fz (.int .i64 a_2))), (.a (.fz (.sl false 4 a_3)))]), (.agg [(.a (.fz (.int .i64 b_0))), (.a (.fz (.str b_1))), (.a (.fz (.int .i64 b_2))), (.a (.fz (.sl false 4 b_3)))]), (.c (.a (.fz (.int .i64 (IntKind.wrap .i64 (fuel + more))))))] [] (.tup [(false, [(.a (.fz (.bool b48)))]), (false, [(.a (.fz (.int .i64 n49)))])]) []) ∧ (br b1 (br ((n11 : Int) != (0 : Int)) (TV.Le (.c (.a (.fz (.bool true)))) r ∧ [] = Hs') (br ((n49 : Int) == (0 : Int)) (TV.Le (.c (.a (.fz (.bool ((b48 : Bool) == b10))))) r ∧ [] = Hs') (TV.Le (.c (.a (.fz (.bool false)))) r ∧ [] = Hs'))) (TV.Le (.c (.a (.fz (.bool false)))) r ∧ [] = Hs')))))) (∃ b50 : Bool, (∃ n51 : Int, ((AC Try.prog 45 [(.agg [(.a (.fz (.int .i64 a_0))), (.a (.fz (.str a_1))), (.a (.fz (.int .i64 a_2))), (.a (.fz (.sl false 4 a_3)))]), (.agg [(.a (.fz (.int .i64 b_0))), (.a (.fz (.str b_1))), (.a (.fz (.int .i64 b_2))), (.a (.fz (.sl false 4 b_3)))]), (.c (.a (.fz (.int .i64 (IntKind.wrap .i64 (fuel + more))))))] [] (.tup [(false, [(.a (.fz (.bool b50)))]), (false, [(.a (.fz (.int .i64 n51)))])]) []) ∧ (br b1 (br ((n11 : Int) != (0 : Int)) (TV.Le (.c (.a (.fz (.bool true)))) r ∧ [] = Hs') (br ((n51 : Int) == (0 : Int)) (TV.Le (.c (.a (.fz (.bool ((b50 : Bool) == b10))))) r ∧ [] = Hs') (TV.Le (.c (.a (.fz (.bool false)))) r ∧ [] = Hs'))) (TV.Le (.c (.a (.fz (.bool false)))) r ∧ [] = Hs')))))) (∃ b52 : Bool, (∃ n53 : Int, ((AC Try.prog 45 [(.agg [(.a (.fz (.int .i64 a_0))), (.a (.fz (.str a_1))), (.a (.fz (.int .i64 a_2))), (.a (.fz (.sl false 4 a_3)))]), (.agg [(.a (.fz (.int .i64 b_0))), (.a (.fz (.str b_1))), (.a (.fz (.int .i64 b_2))), (.a (.fz (.sl false 4 b_3)))]), (.c (.a (.fz (.int .i64 (IntKind.wrap .i64 (fuel + more))))))] [] (.tup [(false, [(.a (.fz (.bool b52)))]), (false, [(.a (.fz (.int .i64 n53)))])]) []) ∧ (br b1 (br ((n11 : Int) != (0 : Int)) (TV.Le (.c (.a (.fz (.bool true)))) r ∧ [] = Hs') (br ((n53 : Int) == (0 : Int)) (TV.Le (.c (.a (.fz (.bool ((b52 : Bool) == b10))))) r ∧ [] = Hs') (TV.Le (.c (.a (.fz (.bool false)))) r ∧ [] = Hs'))) (TV.Le (.c (.a (.fz (.bool false)))) r ∧ [] = Hs'))))))) (∃ b54 : Bool, (∃ n55 : Int, ((AC Try.prog 45 [(.agg [(.a (.fz (.int .i64 a_0))), (.a (.fz (.str a_1))), (.a (.fz (.int .i64 a_2))), (.a (.fz (.sl false 4 a_3)))]), (.agg [(.a (.fz (.int .i64 b_0))), (.a (.fz (.str b_1))), (.a (.fz (.int .i64 b_2))), (.a (.fz (.sl false 4 b_3)))]), (.c (.a (.fz (.int .i64 (IntKind.wrap .i64 (fuel + more))))))] [] (.tup [(false, [(.a (.fz (.bool b54)))]), (false, [(.a (.fz (.int .i64 n55)))])]) []) ∧ (br b1 (br ((n11 : Int) != (0 : Int)) (TV.Le (.c (.a (.fz (.bool true)))) r ∧ [] = Hs') (br ((n55 : Int) == (0 : Int)) (TV.Le (.c (.a (.fz (.bool ((b54 : Bool) == b10))))) r ∧ [] = Hs') (TV.Le (.c (.a (.fz (.bool false)))) r ∧ [] = Hs'))) (TV.Le (.c (.a (.fz (.bool false)))) r ∧ [] = Hs')))))) (∃ b56 : Bool, (∃ n57 : Int, ((AC Try.prog 45 [(.agg [(.a (.fz (.int .i64 a_0))), (.a (.fz (.str a_1))), (.a (.fz (.int .i64 a_2))), (.a (.fz (.sl false 4 a_3)))]), (.agg [(.a (.fz (.int .i64 b_0))), (.a (.fz (.str b_1))), (.a (.fz (.int .i64 b_2))), (.a (.fz (.sl false 4 b_3)))]), (.c (.a (.fz (.int .i64 (IntKind.wrap .i64 (fuel + more))))))] [] (.tup [(false, [(.a (.fz (.bool b56)))]), (false, [(.a (.fz (.int .i64 n57)))])]) []) ∧ (br b1 (br ((n11 : Int) != (0 : Int)) (TV.Le (.c (.a (.fz (.bool true)))) r ∧ [] = Hs') (br ((n57 : Int) == (0 : Int)) (TV.Le (.c (.a (.fz (.bool ((b56 : Bool) == b10))))) r ∧ [] = Hs') (TV.Le (.c (.a (.fz (.bool false)))) r ∧ [] = Hs'))) (TV.Le (.c (.a (.fz (.bool false)))) r ∧ [] = Hs'))))))))))))))))))))))))))))))))))))))))))))))) := by kernel_rfl
theorem v10_36a  (r : TV) (Hs' : List AObj) : vcP Try.prog sh lv10 10 0 (fun r0 Hs0 => TV.Le r0 r ∧ Hs0 = Hs') (RPt Try.prog 10 0 r Hs') 36 ⟨[], [], 0⟩ =
    (TV.Le (.c (.a (.fz (.bool false)))) r ∧ [] = Hs') := by kernel_rfl
/-- lambent/lambentlaw09.EtaShorts -/
def lv11 : List (Nat × List Nat) := []
theorem v11 (t_0 : Int) (t_1 : List UInt8) (t_2 : Int) (t_3 : List (List FV)) (i : Int) (r : TV) (Hs' : List AObj) : vcE Try.prog sh lv11 11 [(.agg [(.a (.fz (.int .i64 t_0))), (.a (.fz (.str t_1))), (.a (.fz (.int .i64 t_2))), (.a (.fz (.sl false 4 t_3)))]), (.c (.a (.fz (.int .i64 i))))] [] (fun r0 Hs0 => TV.Le r0 r ∧ Hs0 = Hs') (RPt Try.prog 11 0 r Hs') =
    (∃ b1 : Bool, ((AC Try.prog 42 [] [] (.c (.a (.fz (.bool b1)))) []) ∧ (br (!b1) (TV.Le (.c (.a (.fz (.bool false)))) r ∧ [] = Hs') (∃ b2 : Bool, ((AC Try.prog 43 [(.agg [(.a (.fz (.int .i64 t_0))), (.a (.fz (.str t_1))), (.a (.fz (.int .i64 t_2))), (.a (.fz (.sl false 4 t_3)))])] [] (.c (.a (.fz (.bool b2)))) []) ∧ (br b2 (TV.Le (.c (.a (.fz (.bool b1)))) r ∧ [] = Hs') (br (decide ((i : Int) > (1000 : Int))) (TV.Le (.c (.a (.fz (.bool b1)))) r ∧ [] = Hs') (br (decide ((i : Int) < (-1000 : Int))) (TV.Le (.c (.a (.fz (.bool b1)))) r ∧ [] = Hs') (∃ z3 : Tm, ((AC Try.prog 47 [(.agg [(.a (.fz (.int .i64 t_0))), (.a (.fz (.str t_1))), (.a (.fz (.int .i64 t_2))), (.a (.fz (.sl false 4 t_3)))])] [] (aT z3) []) ∧ (∃ z4 : Tm, ((AC Try.prog 48 [(.agg [(.a (.fz (.int .i64 t_0))), (.a (.fz (.str t_1))), (.a (.fz (.int .i64 t_2))), (.a (.fz (.sl false 4 t_3)))])] [] (aT z4) []) ∧ (∃ z5 : Tm × Bool, ((AC Try.prog 49 [(.agg [(.a (.fz (.int .i64 t_0))), (.a (.fz (.str t_1))), (.a (.fz (.int .i64 t_2))), (.a (.fz (.sl false 4 t_3)))])] [] (.tup [(true, (cT z5.1)), (false, [(.a (.fz (.bool z5.2)))])]) []) ∧ (∃ b6 : Bool, ((AC Try.prog 27 [(.agg [(.a (.fz (.int .i64 t_0))), (.a (.fz (.str t_1))), (.a (.fz (.int .i64 t_2))), (.a (.fz (.sl false 4 t_3)))])] [] (.c (.a (.fz (.bool b6)))) []) ∧ (br (!b6) (∃ b7 : Bool, ((AC Try.prog 16 [(aT z3), (.agg [(.a (.fz (.int .i64 t_0))), (.a (.fz (.str t_1))), (.a (.fz (.int .i64 t_2))), (.a (.fz (.sl false 4 t_3)))])] [] (.c (.a (.fz (.bool b7)))) []) ∧ (∃ b8 : Bool, ((AC Try.prog 16 [(aT z4), (.agg [(.a (.fz (.int .i64 t_0))), (.a (.fz (.str t_1))), (.a (.fz (.int .i64 t_2))), (.a (.fz (.sl false 4 t_3)))])] [] (.c (.a (.fz (.bool b8)))) []) ∧ (∃ b9 : Bool, ((AC Try.prog 16 [(aT z5.1), (.agg [(.a (.fz (.int .i64 (0 : Int)))), (.a (.fz (.str []))), (.a (.fz (.int .i64 (0 : Int)))), (.a (.fz .nils))])] [] (.c (.a (.fz (.bool b9)))) []) ∧ (br b1 (br b7 (br b8 (br b9 (br (!z5.2) (∃ b10 : Bool, ((AC Try.prog 50 [(.agg [(.a (.fz (.int .i64 t_0))), (.a (.fz (.str t_1))), (.a (.fz (.int .i64 t_2))), (.a (.fz (.sl false 4 t_3)))]), (.c (.a (.fz (.int .i64 i))))] [] (.c (.a (.fz (.bool b10)))) []) ∧ (TV.Le (.c (.a (.fz (.bool (!b10))))) r ∧ [] = Hs'))) (TV.Le (.c (.a (.fz (.bool false)))) r ∧ [] = Hs')) (TV.Le (.c (.a (.fz (.bool false)))) r ∧ [] = Hs')) (TV.Le (.c (.a (.fz (.bool false)))) r ∧ [] = Hs')) (TV.Le (.c (.a (.fz (.bool false)))) r ∧ [] = Hs')) (TV.Le (.c (.a (.fz (.bool false)))) r ∧ [] = Hs')))))))) (∃ z11 : Tm × Bool, ((AC Try.prog 51 [(.agg [(.a (.fz (.int .i64 t_0))), (.a (.fz (.str t_1))), (.a (.fz (.int .i64 t_2))), (.a (.fz (.sl false 4 t_3)))])] [] (.tup [(true, (cT z11.1)), (false, [(.a (.fz (.bool z11.2)))])]) []) ∧ (∃ z12 : Tm, ((AC Try.prog 52 [(.agg [(.a (.fz (.int .i64 t_0))), (.a (.fz (.str t_1))), (.a (.fz (.int .i64 t_2))), (.a (.fz (.sl false 4 t_3)))])] [] (aT z12) []) ∧ (∃ b13 : Bool, ((AC Try.prog 16 [(aT z3), (aT z12)] [] (.c (.a (.fz (.bool b13)))) []) ∧ (∃ z14 : Tm, ((AC Try.prog 53 [(.agg [(.a (.fz (.int .i64 t_0))), (.a (.fz (.str t_1))), (.a (.fz (.int .i64 t_2))), (.a (.fz (.sl false 4 t_3)))])] [] (aT z14) []) ∧ (∃ b15 : Bool, ((AC Try.prog 16 [(aT z4), (aT z14)] [] (.c (.a (.fz (.bool b15)))) []) ∧ (∃ b16 : Bool, ((AC Try.prog 16 [(aT z5.1), (aT z11.1)] [] (.c (.a (.fz (.bool b16)))) []) ∧ (br b1 (br b13 (br b15 (br b16 (br ((z5.2 : Bool) == z11.2) (∃ b17 : Bool, ((AC Try.prog 50 [(.agg [(.a (.fz (.int .i64 t_0))), (.a (.fz (.str t_1))), (.a (.fz (.int .i64 t_2))), (.a (.fz (.sl false 4 t_3)))]), (.c (.a (.fz (.int .i64 i))))] [] (.c (.a (.fz (.bool b17)))) []) ∧ (∃ b18 : Bool, ((AC Try.prog 54 [(.agg [(.a (.fz (.int .i64 t_0))), (.a (.fz (.str t_1))), (.a (.fz (.int .i64 t_2))), (.a (.fz (.sl false 4 t_3)))]), (.c (.a (.fz (.int .i64 i))))] [] (.c (.a (.fz (.bool b18)))) []) ∧ (TV.Le (.c (.a (.fz (.bool ((b17 : Bool) == b18))))) r ∧ [] = Hs'))))) (TV.Le (.c (.a (.fz (.bool false)))) r ∧ [] = Hs')) (TV.Le (.c (.a (.fz (.bool false)))) r ∧ [] = Hs')) (TV.Le (.c (.a (.fz (.bool false)))) r ∧ [] = Hs')) (TV.Le (.c (.a (.fz (.bool false)))) r ∧ [] = Hs')) (TV.Le (.c (.a (.fz (.bool false)))) r ∧ [] = Hs'))))))))))))))))))))))))))))))) := by kernel_rfl
/-- lambent/eta.Expand -/
def lv48 : List (Nat × List Nat) := []
theorem v48 (t_0 : Int) (t_1 : List UInt8) (t_2 : Int) (t_3 : List (List FV)) (r : TV) (Hs' : List AObj) : vcE Try.prog sh lv48 48 [(.agg [(.a (.fz (.int .i64 t_0))), (.a (.fz (.str t_1))), (.a (.fz (.int .i64 t_2))), (.a (.fz (.sl false 4 t_3)))])] [] (fun r0 Hs0 => TV.Le r0 r ∧ Hs0 = Hs') (RPt Try.prog 48 0 r Hs') =
    (∃ b1 : Bool, ((AC Try.prog 15 [(.agg [(.a (.fz (.int .i64 t_0))), (.a (.fz (.str t_1))), (.a (.fz (.int .i64 t_2))), (.a (.fz (.sl false 4 t_3)))])] [] (.c (.a (.fz (.bool b1)))) []) ∧ (br (!b1) (TV.Le (.agg [(.a (.fz (.int .i64 t_0))), (.a (.fz (.str t_1))), (.a (.fz (.int .i64 t_2))), (.a (.fz (.sl false 4 t_3)))]) r ∧ [] = Hs') (∃ z2 : Tm, ((AC Try.prog 17 [(.agg [(.a (.fz (.int .i64 t_0))), (.a (.fz (.str t_1))), (.a (.fz (.int .i64 t_2))), (.a (.fz (.sl false 4 t_3)))]), (.c (.a (.fz (.int .i64 (0 : Int))))), (.c (.a (.fz (.int .i64 (1 : Int)))))] [] (aT z2) []) ∧ (∃ z3 : Tm, ((AC Try.prog 90 [] [] (aT z3) []) ∧ (((4 : Nat) = 4 ∧ 1 ≤ 1) ∧ (∃ z4 : Tm, ((AC Try.prog 21 [(aT z2), (.c (.a (.fz (.sl true 4 [(FT4 z3)]))))] [] (aT z4) []) ∧ (∃ z5 : Tm, ((AC Try.prog 22 [(.c (.a (.fz (.int .i64 (1 : Int))))), (aT z4)] [] (aT z5) []) ∧ (TV.Le (aT z5) r ∧ [] = Hs'))))))))))))) := by kernel_rfl
/-- lambent/lambentref09.Leaf -/
def lv51 : List (Nat × List Nat) := []
theorem v51 (t_0 : Int) (t_1 : List UInt8) (t_2 : Int) (t_3 : List (List FV)) (r : TV) (Hs' : List AObj) : vcE Try.prog sh lv51 51 [(.agg [(.a (.fz (.int .i64 t_0))), (.a (.fz (.str t_1))), (.a (.fz (.int .i64 t_2))), (.a (.fz (.sl false 4 t_3)))])] [] (fun r0 Hs0 => TV.Le r0 r ∧ Hs0 = Hs') (RPt Try.prog 51 0 r Hs') =
    (∃ z1 : Tm, ((AC Try.prog 52 [(.agg [(.a (.fz (.int .i64 t_0))), (.a (.fz (.str t_1))), (.a (.fz (.int .i64 t_2))), (.a (.fz (.sl false 4 t_3)))])] [] (aT z1) []) ∧ (br ((z1.k : Int) == (3 : Int)) (TV.Le (.tup [(true, (cT z1)), (false, [(.a (.fz (.bool true)))])]) r ∧ [] = Hs') (br ((z1.k : Int) == (1 : Int)) (TV.Le (.tup [(true, (cT z1)), (false, [(.a (.fz (.bool true)))])]) r ∧ [] = Hs') (TV.Le (.tup [(true, [(.a (.fz (.int .i64 (0 : Int)))), (.a (.fz (.str []))), (.a (.fz (.int .i64 (0 : Int)))), (.a (.fz .nils))]), (false, [(.a (.fz (.bool false)))])]) r ∧ [] = Hs'))))) := by kernel_rfl
/-- lambent/lambentref09.Expand -/
def lv53 : List (Nat × List Nat) := []
theorem v53 (t_0 : Int) (t_1 : List UInt8) (t_2 : Int) (t_3 : List (List FV)) (r : TV) (Hs' : List AObj) : vcE Try.prog sh lv53 53 [(.agg [(.a (.fz (.int .i64 t_0))), (.a (.fz (.str t_1))), (.a (.fz (.int .i64 t_2))), (.a (.fz (.sl false 4 t_3)))])] [] (fun r0 Hs0 => TV.Le r0 r ∧ Hs0 = Hs') (RPt Try.prog 53 0 r Hs') =
    (∃ z1 : Tm, ((AC Try.prog 92 [(.agg [(.a (.fz (.int .i64 t_0))), (.a (.fz (.str t_1))), (.a (.fz (.int .i64 t_2))), (.a (.fz (.sl false 4 t_3)))]), (.c (.a (.fz (.int .i64 (0 : Int))))), (.c (.a (.fz (.int .i64 (1 : Int)))))] [] (aT z1) []) ∧ (((4 : Nat) = 4 ∧ 1 ≤ 1) ∧ (∃ z2 : Tm, ((AC Try.prog 91 [(aT z1), (.c (.a (.fz (.sl true 4 [[(.int .i64 (3 : Int)), (.str []), (.int .i64 (0 : Int)), .nils]]))))] [] (aT z2) []) ∧ (∃ z3 : Tm, ((AC Try.prog 93 [(.c (.a (.fz (.int .i64 (1 : Int))))), (aT z2)] [] (aT z3) []) ∧ (TV.Le (aT z3) r ∧ [] = Hs')))))))) := by kernel_rfl
/-- lambent/eta.zero -/
def lv90 : List (Nat × List Nat) := []
theorem v90  (r : TV) (Hs' : List AObj) : vcE Try.prog sh lv90 90 [] [] (fun r0 Hs0 => TV.Le r0 r ∧ Hs0 = Hs') (RPt Try.prog 90 0 r Hs') =
    (TV.Le (.agg [(.a (.fz (.int .i64 (3 : Int)))), (.a (.fz (.str []))), (.a (.fz (.int .i64 (0 : Int)))), (.a (.fz .nils))]) r ∧ [] = Hs') := by kernel_rfl
/-- lambent/lambentref07.Lams -/
def lv93 : List (Nat × List Nat) := [(1, [0, 3, 4, 5])]
theorem v93 (n : Int) (t_0 : Int) (t_1 : List UInt8) (t_2 : Int) (t_3 : List (List FV)) (r : TV) (Hs' : List AObj) : vcE Try.prog sh lv93 93 [(.c (.a (.fz (.int .i64 n)))), (.agg [(.a (.fz (.int .i64 t_0))), (.a (.fz (.str t_1))), (.a (.fz (.int .i64 t_2))), (.a (.fz (.sl false 4 t_3)))])] [] (fun r0 Hs0 => TV.Le r0 r ∧ Hs0 = Hs') (RPt Try.prog 93 0 r Hs') =
    (RPt Try.prog 93 0 r Hs' 1 ⟨[(0, (.c (.a (.fz (.int .i64 n))))), (3, (.c (.a (.ep 0 4 0 0)))), (4, (.c (.a (.ep 1 4 0 0)))), (5, (.c (.a (.fz (.int .i64 (0 : Int))))))], [(0, (.arr 4 [[(.a (.fz (.int .i64 t_0))), (.a (.fz (.str t_1))), (.a (.fz (.int .i64 t_2))), (.a (.fz (.sl false 4 t_3)))]])), (1, (.arr 4 [[(.a (.fz (.int .i64 (0 : Int)))), (.a (.fz (.str []))), (.a (.fz (.int .i64 (0 : Int)))), (.a (.fz .nils))]]))], 2⟩) := by kernel_rfl
theorem v93_1a (x0 : Int) (x5 : Int) (h0_0 : Int) (h0_1 : List UInt8) (h0_2 : Int) (h0_3 : List (List FV)) (h1_0 : Int) (h1_1 : List UInt8) (h1_2 : Int) (r : TV) (Hs' : List AObj) : vcP Try.prog sh lv93 93 0 (fun r0 Hs0 => TV.Le r0 r ∧ Hs0 = Hs') (RPt Try.prog 93 0 r Hs') 1 ⟨[(0, (.c (.a (.fz (.int .i64 x0))))), (3, (.c (.a (.ep 0 4 0 0)))), (4, (.c (.a (.ep 1 4 0 0)))), (5, (.c (.a (.fz (.int .i64 x5)))))], [(0, (.arr 4 [[(.a (.fz (.int .i64 h0_0))), (.a (.fz (.str h0_1))), (.a (.fz (.int .i64 h0_2))), (.a (.fz (.sl false 4 h0_3)))]])), (1, (.arr 4 [[(.a (.fz (.int .i64 h1_0))), (.a (.fz (.str h1_1))), (.a (.fz (.int .i64 h1_2))), (.a (.fz .nils))]]))], 2⟩ =
    (br (decide ((x5 : Int) < x0)) (((4 : Nat) = 4 ∧ 1 ≤ 1) ∧ (RPt Try.prog 93 0 r Hs' 1 ⟨[(0, (.c (.a (.fz (.int .i64 x0))))), (3, (.c (.a (.ep 0 4 0 0)))), (4, (.c (.a (.ep 1 4 0 0)))), (5, (.c (.a (.fz (.int .i64 (IntKind.wrap .i64 (x5 + (1 : Int))))))))], [(0, (.arr 4 [[(.a (.fz (.int .i64 (5 : Int)))), (.a (.fz (.str []))), (.a (.fz (.int .i64 (0 : Int)))), (.a (.fz (.sl true 4 [[(.int .i64 h0_0), (.str h0_1), (.int .i64 h0_2), (.sl false 4 h0_3)]])))]])), (1, (.arr 4 [[(.a (.fz (.int .i64 h1_0))), (.a (.fz (.str h1_1))), (.a (.fz (.int .i64 h1_2))), (.a (.fz .nils))]]))], 2⟩)) (TV.Le (.agg [(.a (.fz (.int .i64 h0_0))), (.a (.fz (.str h0_1))), (.a (.fz (.int .i64 h0_2))), (.a (.fz (.sl false 4 h0_3)))]) r ∧ [] = Hs')) := by kernel_rfl
theorem v93_1b (x0 : Int) (x5 : Int) (h0_0 : Int) (h0_1 : List UInt8) (h0_2 : Int) (h0_3 : List (List FV)) (h1_0 : Int) (h1_1 : List UInt8) (h1_2 : Int) (r : TV) (Hs' : List AObj) : vcP Try.prog sh lv93 93 0 (fun r0 Hs0 => TV.Le r0 r ∧ Hs0 = Hs') (RPt Try.prog 93 0 r Hs') 1 ⟨[(0, (.c (.a (.fz (.int .i64 x0))))), (3, (.c (.a (.ep 0 4 0 0)))), (4, (.c (.a (.ep 1 4 0 0)))), (5, (.c (.a (.fz (.int .i64 x5)))))], [(0, (.arr 4 [[(.a (.fz (.int .i64 h0_0))), (.a (.fz (.str h0_1))), (.a (.fz (.int .i64 h0_2))), (.a (.fz (.sl true 4 h0_3)))]])), (1, (.arr 4 [[(.a (.fz (.int .i64 h1_0))), (.a (.fz (.str h1_1))), (.a (.fz (.int .i64 h1_2))), (.a (.fz .nils))]]))], 2⟩ =
    (br (decide ((x5 : Int) < x0)) (((4 : Nat) = 4 ∧ 1 ≤ 1) ∧ (RPt Try.prog 93 0 r Hs' 1 ⟨[(0, (.c (.a (.fz (.int .i64 x0))))), (3, (.c (.a (.ep 0 4 0 0)))), (4, (.c (.a (.ep 1 4 0 0)))), (5, (.c (.a (.fz (.int .i64 (IntKind.wrap .i64 (x5 + (1 : Int))))))))], [(0, (.arr 4 [[(.a (.fz (.int .i64 (5 : Int)))), (.a (.fz (.str []))), (.a (.fz (.int .i64 (0 : Int)))), (.a (.fz (.sl true 4 [[(.int .i64 h0_0), (.str h0_1), (.int .i64 h0_2), (.sl true 4 h0_3)]])))]])), (1, (.arr 4 [[(.a (.fz (.int .i64 h1_0))), (.a (.fz (.str h1_1))), (.a (.fz (.int .i64 h1_2))), (.a (.fz .nils))]]))], 2⟩)) (TV.Le (.agg [(.a (.fz (.int .i64 h0_0))), (.a (.fz (.str h0_1))), (.a (.fz (.int .i64 h0_2))), (.a (.fz (.sl true 4 h0_3)))]) r ∧ [] = Hs')) := by kernel_rfl
/-- lambent/lambentlaw09.EtaOnce -/
def lv12 : List (Nat × List Nat) := []
theorem v12 (t_0 : Int) (t_1 : List UInt8) (t_2 : Int) (t_3 : List (List FV)) (r : TV) (Hs' : List AObj) : vcE Try.prog sh lv12 12 [(.agg [(.a (.fz (.int .i64 t_0))), (.a (.fz (.str t_1))), (.a (.fz (.int .i64 t_2))), (.a (.fz (.sl false 4 t_3)))])] [] (fun r0 Hs0 => TV.Le r0 r ∧ Hs0 = Hs') (RPt Try.prog 12 0 r Hs') =
    (∃ b1 : Bool, ((AC Try.prog 42 [] [] (.c (.a (.fz (.bool b1)))) []) ∧ (br (!b1) (TV.Le (.c (.a (.fz (.bool false)))) r ∧ [] = Hs') (∃ b2 : Bool, ((AC Try.prog 43 [(.agg [(.a (.fz (.int .i64 t_0))), (.a (.fz (.str t_1))), (.a (.fz (.int .i64 t_2))), (.a (.fz (.sl false 4 t_3)))])] [] (.c (.a (.fz (.bool b2)))) []) ∧ (∃ b3 : Bool, ((AC Try.prog 15 [(.agg [(.a (.fz (.int .i64 t_0))), (.a (.fz (.str t_1))), (.a (.fz (.int .i64 t_2))), (.a (.fz (.sl false 4 t_3)))])] [] (.c (.a (.fz (.bool b3)))) []) ∧ (br b2 (TV.Le (.c (.a (.fz (.bool b1)))) r ∧ [] = Hs') (br (!b3) (TV.Le (.c (.a (.fz (.bool b1)))) r ∧ [] = Hs') (∃ z4 : Tm, ((AC Try.prog 47 [(.agg [(.a (.fz (.int .i64 t_0))), (.a (.fz (.str t_1))), (.a (.fz (.int .i64 t_2))), (.a (.fz (.sl false 4 t_3)))])] [] (aT z4) []) ∧ (∃ b5 : Bool, ((AC Try.prog 15 [(aT z4)] [] (.c (.a (.fz (.bool b5)))) []) ∧ (∃ z6 : Tm, ((AC Try.prog 47 [(aT z4)] [] (aT z6) []) ∧ (∃ b7 : Bool, ((AC Try.prog 16 [(aT z6), (aT z4)] [] (.c (.a (.fz (.bool b7)))) []) ∧ (∃ b8 : Bool, ((AC Try.prog 38 [(.agg [(.a (.fz (.int .i64 t_0))), (.a (.fz (.str t_1))), (.a (.fz (.int .i64 t_2))), (.a (.fz (.sl false 4 t_3)))])] [] (.c (.a (.fz (.bool b8)))) []) ∧ (∃ b9 : Bool, ((AC Try.prog 38 [(aT z4)] [] (.c (.a (.fz (.bool b9)))) []) ∧ (br b1 (br b5 (∃ n10 : Int, ((AC Try.prog 23 [(aT z4)] [] (.c (.a (.fz (.int .i64 n10)))) []) ∧ (∃ n11 : Int, ((AC Try.prog 23 [(.agg [(.a (.fz (.int .i64 t_0))), (.a (.fz (.str t_1))), (.a (.fz (.int .i64 t_2))), (.a (.fz (.sl false 4 t_3)))])] [] (.c (.a (.fz (.int .i64 n11)))) []) ∧ (br (decide ((n10 : Int) ≤ n11)) (∃ n12 : Int, ((AC Try.prog 19 [(aT z4)] [] (.c (.a (.fz (.int .i64 n12)))) []) ∧ (∃ n13 : Int, ((AC Try.prog 19 [(.agg [(.a (.fz (.int .i64 t_0))), (.a (.fz (.str t_1))), (.a (.fz (.int .i64 t_2))), (.a (.fz (.sl false 4 t_3)))])] [] (.c (.a (.fz (.int .i64 n13)))) []) ∧ (br (decide ((n12 : Int) ≤ n13)) (br (!b8) (TV.Le (.c (.a (.fz (.bool true)))) r ∧ [] = Hs') (br b9 (TV.Le (.c (.a (.fz (.bool b7)))) r ∧ [] = Hs') (TV.Le (.c (.a (.fz (.bool false)))) r ∧ [] = Hs'))) (TV.Le (.c (.a (.fz (.bool false)))) r ∧ [] = Hs')))))) (TV.Le (.c (.a (.fz (.bool false)))) r ∧ [] = Hs')))))) (TV.Le (.c (.a (.fz (.bool false)))) r ∧ [] = Hs')) (TV.Le (.c (.a (.fz (.bool false)))) r ∧ [] = Hs'))))))))))))))))))))))) := by kernel_rfl
end Go.AM

set_option maxRecDepth 100000
open Go Go.Proofs
namespace Go.AM
/-! ### How often something is bound -/
mutual
def occF : Tm → Int → Nat
  | .mk k _ n l, i => if (k == 3) = true ∧ (n == i) = true then 1 else occL l (i + if (k == 5) = true then 1 else 0)
def occL : List Tm → Int → Nat
  | [], _ => 0
  | t :: l, i => occF t i + occL l i
end
mutual
theorem occF_le : ∀ (t : Tm) (i : Int), occF t i ≤ t.sz
  | .mk k s n l, i => by
    rw [occF]
    have := occL_le l (i + if (k == 5) = true then 1 else 0)
    split <;> simp only [Tm.sz] <;> omega
theorem occL_le : ∀ (l : List Tm) (i : Int), occL l i ≤ Tm.szs l
  | [], _ => Nat.le_refl _
  | t :: l, i => by have := occF_le t i; have := occL_le l i; simp only [occL, Tm.szs]; omega
end
theorem l_occurs (i : Int) : ∀ (b a : List Tm) (acc : Nat), (∀ u ∈ b, AC Try.prog 83 [aT u, ci i] [] (ci (occF u i)) []) → (a ++ b).length ≤ B → acc + occL b i ≤ 2 * B →
    RPt Try.prog 83 0 (ci ((acc + occL b i : Nat) : Int)) [] 3 ⟨[(1, ci i), (5, ci acc), (21, aL (a ++ b)), (22, ci (((FTs (a ++ b)).length : Nat) : Int)), (23, ci a.length)], [], 0⟩
  | [], a, acc, _, _, _ => by
    refine RPt.vc hP sh lv83 (Eq.mpr (v83_3a ..) ?_)
    exact br_of (fun h => absurd (of_decide_eq_true h) (geI' a)) (fun _ => ret_i (by simp [occL]))
  | t :: b, a, acc, ih, hl, ha => by
    have hl' := hl
    simp only [List.length_append, List.length_cons, B] at hl'
    simp only [occL, B] at ha
    have h1 := ih t List.mem_cons_self
    have h2 := l_occurs i b (a ++ [t]) (acc + occF t i) (fun u hu => ih u (List.mem_cons_of_mem _ hu)) (by rw [ap]; exact hl) (by simp only [B]; omega)
    have h3 := ltI' a t b
    rw [ap, nx] at h2
    refine RPt.vc hP sh lv83 (Eq.mpr (v83_3a ..) ?_)
    rw [midI, w64 (x := (a.length : Int) + 1) (by omega) (by omega)]
    refine br_of (fun _ => ?_) (fun h => absurd h3 (of_decide_eq_false h))
    rw [occL, ← Nat.add_assoc]
    obtain ⟨k', s', n', l'⟩ := t
    refine ⟨⟨rfl, by omega, h3, rfl⟩, _, h1, ?_⟩
    rw [w64 (by omega) (by omega), show (acc : Int) + ((occF (.mk k' s' n' l') i : Nat) : Int) = ((acc + occF (.mk k' s' n' l') i : Nat) : Int) by omega]
    exact h2
theorem c_occurs : ∀ t : Tm, t.sz ≤ B → ∀ i : Int, 0 - 2305843009213693952 ≤ i → i + t.sz ≤ 2305843009213693952 → AC Try.prog 83 [aT t, ci i] [] (ci (occF t i)) [] := by
  refine Tm.ind fun t ih hs i h0 h1 => ?_
  have hlen := Tm.szs_length t.l
  obtain ⟨k, s, n, l⟩ := t
  simp only [Tm.sz, Tm.l, B] at hs hlen h1
  have loop : ∀ j : Int, 0 - 2305843009213693952 ≤ j → j + Tm.szs l ≤ 2305843009213693952 → RPt Try.prog 83 0 (ci (occL l j)) [] 3 ⟨[(1, ci j), (5, ci 0), (21, aL l), (22, ci (((FTs l).length : Nat) : Int)), (23, ci 0)], [], 0⟩ := fun j hj0 hj1 => by
    have hle := occL_le l j
    have := l_occurs j l [] 0 (fun u hu => ih u hu (by have := Tm.szs_mem hu; simp only [B]; omega) j hj0 (by have := Tm.szs_mem hu; omega)) (by simp only [List.nil_append, B]; omega) (by simp only [B]; omega)
    rw [Nat.zero_add] at this
    exact this
  refine AC.vc hP sh lv83 (Nat.le_refl _) (by simp) (by simp) (Eq.mpr (v83 k s n (FTs l) i _ _) ?_)
  have no : ∀ (c : ¬ ((k == 3) = true ∧ (n == i) = true)), occF (.mk k s n l) i = occL l (i + if (k == 5) = true then 1 else 0) := fun c => by rw [occF, if_neg c]
  refine br_of (fun h => br_of (fun h2 => ret_i ?_) (fun h2 => ⟨rfl, ?_⟩)) (fun h => br_of (fun h2 => ⟨rfl, ?_⟩) (fun h2 => ⟨rfl, ?_⟩))
  · rw [occF, if_pos ⟨h, h2⟩]; rfl
  · have e : k = 3 := by simpa using h
    rw [no (fun c => by rw [c.2] at h2; cases h2)]
    subst e
    rw [show (i + if ((3 : Int) == 5) = true then 1 else 0) = i by simp]
    exact loop i (by omega) (by omega)
  · rw [no (fun c => by rw [c.1] at h; cases h), if_pos h2, w64 (by omega) (by omega)]
    exact loop (i + 1) (by omega) (by omega)
  · rw [no (fun c => by rw [c.1] at h; cases h), if_neg (by rw [h2]; simp), Int.add_zero]
    exact loop i (by omega) (by omega)
/-! Copies. -/
theorem c_clone : (∀ es : List (List FV), es ≠ [] → es.length ≤ B → AC Try.prog 111 [.c (.a (.fz (.sl false 4 es)))] [] (.c (.a (.osl 0 4 0 es.length))) [.arz 4 es]) ∧ AC Try.prog 111 [.c (.a (.fz (.sl false 4 [])))] [] (.c (.a (.fz (.sl false 4 [])))) [] := by
  have h0 : AC Try.prog 111 [.c (.a (.fz .nils))] [] (.c (.a (.fz .nils))) [] := by
    refine AC.vc hP sh lv111 (Nat.le_refl _) (by simp) (by simp) (Eq.mpr (v111 ..) ?_)
    exact ⟨.refl _, rfl⟩
  have h1 : ∀ es : List (List FV), es.length ≤ B → AC Try.prog 111 [.c (.a (.fz (.sl true 4 es)))] [] (.c (.a (.osl 0 4 0 es.length))) [.arz 4 es] := fun es hl => by
    refine AC.vc hP sh lv111 (by simp) (by simp) (by simp [isLive]) (Eq.mpr (v111_i1 ..) ?_)
    refine ⟨rfl, ⟨by omega, by rw [Nat.zero_add]; exact roomI (by simp only [B] at hl; omega)⟩, ?_⟩
    rw [Nat.zero_add]
    exact ⟨.refl _, rfl⟩
  exact AC.clone_le h0 h1
/-! The document's. -/
theorem l_roccurs (k : Int) (s : List UInt8) (n i : Int) (h0 : 0 - 2305843009213693952 ≤ i) (h1 : i ≤ 2305843009213693952) : ∀ (b a : List Tm) (acc : Nat), (∀ u ∈ b, AC Try.prog 40 [aT u, ci (i + if (k == 5) = true then 1 else 0)] [] (ci (occF u (i + if (k == 5) = true then 1 else 0))) []) → (a ++ b).length ≤ B → acc + occL b (i + if (k == 5) = true then 1 else 0) ≤ 2 * B →
    RPt Try.prog 40 0 (ci ((acc + occL b (i + if (k == 5) = true then 1 else 0) : Nat) : Int)) [] 1 ⟨[(1, ci i), (2, .c (.a (.ep 0 4 0 0))), (5, ci acc), (6, ci a.length)], [(0, .arr 4 [fzs (FT (.mk k s n (a ++ b)))])], 1⟩
  | [], a, acc, _, _, _ => by
    refine RPt.vc hP sh lv40 (Eq.mpr (v40_1a ..) ?_)
    exact ⟨rfl, br_of (fun h => absurd (of_decide_eq_true h) (geI' a)) (fun _ => ret_i (by simp [occL]))⟩
  | t :: b, a, acc, ih, hl, ha => by
    have hl' := hl
    simp only [List.length_append, List.length_cons, B] at hl'
    simp only [occL, B] at ha
    have g1 := ih t List.mem_cons_self
    have g2 := l_roccurs k s n i h0 h1 b (a ++ [t]) (acc + occF t (i + if (k == 5) = true then 1 else 0)) (fun u hu => ih u (List.mem_cons_of_mem _ hu)) (by rw [ap]; exact hl) (by simp only [B]; omega)
    have h3 := ltI' a t b
    rw [ap, nx] at g2
    refine RPt.vc hP sh lv40 (Eq.mpr (v40_1a ..) ?_)
    rw [midI, w64 (x := (a.length : Int) + 1) (by omega) (by omega), w64 (x := i + 1) (by omega) (by omega)]
    rw [occL, ← Nat.add_assoc]
    obtain ⟨k', s', n', l'⟩ := t
    refine ⟨rfl, br_of (fun _ => br_of (fun h => ?_) (fun h => ?_)) (fun h => absurd h3 (of_decide_eq_false h))⟩
    · have h : (k == 5) = true := h
      rw [if_pos h] at g1 g2 ha ⊢
      refine ⟨⟨rfl, by omega, h3, rfl⟩, _, g1, ?_⟩
      rw [w64 (by omega) (by omega), show (acc : Int) + ((occF (.mk k' s' n' l') (i + 1) : Nat) : Int) = ((acc + occF (.mk k' s' n' l') (i + 1) : Nat) : Int) by omega]
      exact g2
    · have h : (k == 5) = false := h
      rw [if_neg (by rw [h]; simp), Int.add_zero] at g1 g2 ha ⊢
      refine ⟨⟨rfl, by omega, h3, rfl⟩, _, g1, ?_⟩
      rw [w64 (by omega) (by omega), show (acc : Int) + ((occF (.mk k' s' n' l') i : Nat) : Int) = ((acc + occF (.mk k' s' n' l') i : Nat) : Int) by omega]
      exact g2
theorem c_roccurs : ∀ t : Tm, t.sz ≤ B → ∀ i : Int, 0 - 2305843009213693952 ≤ i → i + t.sz ≤ 2305843009213693952 → AC Try.prog 40 [aT t, ci i] [] (ci (occF t i)) [] := by
  refine Tm.ind fun t ih hs i h0 h1 => ?_
  have hlen := Tm.szs_length t.l
  obtain ⟨k, s, n, l⟩ := t
  simp only [Tm.sz, Tm.l, B] at hs hlen h1
  have hby : (0 : Int) ≤ (if (k == 5) = true then 1 else 0) ∧ (if (k == 5) = true then (1 : Int) else 0) ≤ 1 := by split <;> omega
  have hle := occL_le l (i + if (k == 5) = true then 1 else 0)
  have loop := l_roccurs k s n i h0 (by omega) l [] 0 (fun u hu => ih u hu (by have := Tm.szs_mem hu; simp only [B]; omega) _ (by omega) (by have := Tm.szs_mem hu; omega)) (by simp only [List.nil_append, B]; omega) (by simp only [B]; omega)
  rw [Nat.zero_add] at loop
  refine AC.vc hP sh lv40 (Nat.le_refl _) (by simp) (by simp) (Eq.mpr (v40 k s n (FTs l) i _ _) ?_)
  refine br_of (fun h => br_of (fun h2 => ret_i ?_) (fun h2 => ?_)) (fun h => ?_)
  · rw [occF, if_pos ⟨h, h2⟩]; rfl
  · rw [occF, if_neg (fun c => by rw [c.2] at h2; cases h2)]; exact loop
  · rw [occF, if_neg (fun c => by rw [c.1] at h; cases h)]; exact loop
theorem c_boccurs (t : Tm) (hs : t.sz ≤ B) (i : Int) (h0 : 0 - 2305843009213693952 ≤ i) (h1 : i + t.sz ≤ 2305843009213693952) : AC Try.prog 37 [aT t, ci i] [] (ci (if validB t = true then (occF t i : Int) else 0)) [] := by
  have hv := c_valid t hs
  have ho := c_occurs t hs i h0 h1
  obtain ⟨k, s, n, l⟩ := t
  refine AC.vc hP sh lv37 (Nat.le_refl _) (by simp) (by simp) (Eq.mpr (v37 k s n (FTs l) i _ _) ?_)
  refine ⟨_, hv, br_of (fun h => ret_i ?_) (fun h => ⟨_, ho, ret_i ?_⟩)⟩
  · rw [if_neg (by simpa using h)]
  · rw [if_pos (by simpa using h)]
end Go.AM

set_option maxRecDepth 100000
open Go Go.Proofs
namespace Go.AM
/-! ### A body with an argument -/
/-- A term and an error's number. -/
abbrev aTE (t : Tm) (e : Int) : TV := .tup [(true, [.a (.fz (.int .i64 t.k)), .a (.fz (.str t.s)), .a (.fz (.int .i64 t.n)), .a (.fz (.sl false 4 (FTs t.l)))]), (false, [.a (.fz (.int .i64 e))])]
abbrev noT : Tm := .mk 0 [] 0 []
theorem leTE {k n e : Int} {s : List UInt8} {x : FV} {l : List Tm} (h : FV.Le x (.sl false 4 (FTs l))) : TV.Le (.tup [(true, [.a (.fz (.int .i64 k)), .a (.fz (.str s)), .a (.fz (.int .i64 n)), .a (.fz x)]), (false, [.a (.fz (.int .i64 e))])]) (aTE (.mk k s n l) e) := by
  refine .tup _ _ rfl fun i p q hp hq => ?_
  match i, hp, hq with
  | 0, hp, hq =>
    simp only [List.getElem?_cons_zero, Option.some.injEq] at hp hq
    subst hp; subst hq
    refine ⟨rfl, rfl, fun j x y hx hy => ?_⟩
    match j, hx, hy with
    | 0, hx, hy => simp at hx hy; subst hx; subst hy; exact .refl _
    | 1, hx, hy => simp at hx hy; subst hx; subst hy; exact .refl _
    | 2, hx, hy => simp at hx hy; subst hx; subst hy; exact .refl _
    | 3, hx, hy => simp at hx hy; subst hx; subst hy; exact .a _ _ (.fz _ _ h)
    | j + 4, hx, _ => simp at hx
  | 1, hp, hq =>
    simp only [List.getElem?_cons_zero, List.getElem?_cons_succ, Option.some.injEq] at hp hq
    subst hp; subst hq
    refine ⟨rfl, rfl, fun j x y hx hy => ?_⟩
    match j, hx, hy with
    | 0, hx, hy => simp at hx hy; subst hx; subst hy; exact .refl _
    | j + 1, hx, _ => simp at hx
  | i + 2, hp, _ => simp at hp
/-- Is there room? -/
def roomT (body arg : Tm) : Bool := !decide ((sizeF body : Int) + (occF body 0 : Int) * (sizeF arg : Int) > 4096)
def conF (body arg : Tm) : Tm := if roomT body arg = true then suT 0 arg body 0 else noT
def conE (body arg : Tm) : Int := if roomT body arg = true then 0 else 80
end Go.AM

set_option maxRecDepth 100000
open Go Go.Proofs
namespace Go.AM
/-! ### Redexes -/
def hd (l : List Tm) : Tm := l.headD default
def redexB (t : Tm) : Bool := t.k == 6 && (hd t.l).k == 5
mutual
/-- Its kinds have as many within as they must. -/
def okB : Tm → Bool
  | .mk k s n l => (if (k == 6) = true then decide (2 ≤ l.length) && (hd l).k != 6 && (s == [] && n == 0) else if (k == 5) = true then decide (l.length = 1) && (s == [] && n == 0) else decide (l.length = 0)) && okL l
def okL : List Tm → Bool
  | [] => true
  | t :: l => okB t && okL l
end
theorem okL_mem : ∀ {l : List Tm} {t : Tm}, okL l = true → t ∈ l → okB t = true
  | x :: l, t, h, hm => by
    simp only [okL, Bool.and_eq_true] at h
    rcases List.mem_cons.1 hm with rfl | hm
    · exact h.1
    · exact okL_mem h.2 hm
theorem okL_of : ∀ {l : List Tm}, (∀ t ∈ l, okB t = true) → okL l = true
  | [], _ => rfl
  | t :: l, h => by simp only [okL, h t List.mem_cons_self, okL_of (l := l) fun u hu => h u (List.mem_cons_of_mem _ hu), Bool.and_self]
theorem okB6 {k n : Int} {s : List UInt8} {l : List Tm} (h : okB (.mk k s n l) = true) (hk : k = 6) : ∃ x y r, l = x :: y :: r ∧ x.k ≠ 6 ∧ okL l = true := by
  subst hk
  simp only [okB, Bool.and_eq_true] at h
  match l, h with
  | [], h => simp at h
  | [x], h => simp at h
  | x :: y :: r, h => exact ⟨x, y, r, rfl, by have := h.1; simp [hd] at this; exact this.1, h.2⟩
theorem okB5 {k n : Int} {s : List UInt8} {l : List Tm} (h : okB (.mk k s n l) = true) (hk : k = 5) : ∃ x, l = [x] ∧ okB x = true := by
  subst hk
  simp only [okB, Bool.and_eq_true] at h
  match l, h with
  | [], h => simp at h
  | [x], h => exact ⟨x, rfl, by have := h.2; simpa [okL] using this⟩
  | x :: y :: r, h => simp at h
theorem okB0 {k n : Int} {s : List UInt8} {l : List Tm} (h : okB (.mk k s n l) = true) (h5 : k ≠ 5) (h6 : k ≠ 6) : l = [] := by
  simp only [okB, Bool.and_eq_true] at h
  have := h.1
  rw [if_neg (by simpa using h6), if_neg (by simpa using h5)] at this
  exact List.eq_nil_of_length_eq_zero (by simpa using this)
theorem okB_sn {k n : Int} {s : List UInt8} {l : List Tm} (h : okB (.mk k s n l) = true) (hk : k = 5 ∨ k = 6) : s = [] ∧ n = 0 := by
  simp only [okB, Bool.and_eq_true] at h
  have h := h.1
  rcases hk with rfl | rfl
  · simp at h; exact h.2
  · simp at h; exact h.2
theorem okB_l {t : Tm} (h : okB t = true) : okL t.l = true := by
  obtain ⟨k, s, n, l⟩ := t
  simp only [okB, Bool.and_eq_true] at h; exact h.2
mutual
theorem valid_ok : ∀ t : Tm, validB t = true → okB t = true
  | .mk k s n l, h => by
    rw [okB]
    have hl := valid_okL l
    rw [validB] at h
    split at h
    · rename_i e
      have e : k = 0 := by simpa using e
      subst e
      rw [lenI] at h
      have : l = [] := by simp at h; exact h.2
      subst this; rfl
    split at h
    · rename_i e
      have e : k = 1 := by simpa using e
      subst e
      rw [lenI] at h
      have : l = [] := by simp at h; exact h.1.2
      subst this; rfl
    split at h
    · rename_i e
      have e : k = 2 := by simpa using e
      subst e
      rw [lenI] at h
      have : l = [] := by simp at h; exact h.1.2
      subst this; rfl
    split at h
    · rename_i e
      have e : k = 3 := by simpa using e
      subst e
      rw [lenI] at h
      have : l = [] := by simp at h; exact h.1.2
      subst this; rfl
    split at h
    · rename_i e
      have e : k = 4 := by simpa using e
      subst e
      rw [lenI] at h
      have : l = [] := by simp at h; exact h.1.2
      subst this; rfl
    split at h
    · rename_i e
      have e : k = 5 := by simpa using e
      subst e
      rw [lenI] at h
      simp only [Bool.and_eq_true, beq_iff_eq] at h
      have h1 : l.length = 1 := by have := h.1.2; omega
      rw [hl h.2]
      simp [h1, h.1.1.1, h.1.1.2]
    split at h
    · rename_i e
      have e : k = 6 := by simpa using e
      subst e
      rw [lenI] at h
      simp only [Bool.and_eq_true, decide_eq_true_eq, beq_iff_eq] at h
      have h1 : 2 ≤ l.length := by have := h.1.1.1.2; omega
      have h2 : ((hd l).k != 6) = true := h.1.1.2
      rw [hl h.2, h2]
      simp [h1, h.1.1.1.1, h.1.2]
    · cases h
theorem valid_okL : ∀ l : List Tm, validL l = true → okL l = true
  | [], _ => rfl
  | t :: l, h => by
    simp only [validL, Bool.and_eq_true] at h
    simp only [okL, valid_ok t h.1, valid_okL l h.2, Bool.and_self]
end
theorem c_redex (t : Tm) (h : t.k = 6 → t.l ≠ []) : AC Try.prog 110 [aT t] [] (cb (redexB t)) [] := by
  obtain ⟨k, s, n, l⟩ := t
  refine AC.vc hP sh lv110 (Nat.le_refl _) (by simp) (by simp) (Eq.mpr (v110 k s n (FTs l) _ _) ?_)
  refine br_of (fun e => ?_) (fun e => ret_b ?_)
  · have e' : k = 6 := by simpa using e
    match l, h e' with
    | [], h => exact absurd rfl h
    | ⟨k', s', n', l'⟩ :: r, _ =>
      refine ⟨⟨rfl, by omega, by simp [FTs], rfl⟩, ret_b ?_⟩
      show (k' == 5) = (k == 6 && k' == 5)
      rw [show (k == 6) = true from e, Bool.true_and]
  · show false = (k == 6 && _)
    rw [show (k == 6) = false from e, Bool.false_and]
theorem c_rredex (t : Tm) (h : t.k = 6 → t.l ≠ []) : AC Try.prog 85 [aT t] [] (cb (redexB t)) [] := by
  obtain ⟨k, s, n, l⟩ := t
  refine AC.vc hP sh lv85 (Nat.le_refl _) (by simp) (by simp) (Eq.mpr (v85 k s n (FTs l) _ _) ?_)
  refine br_of (fun e => ?_) (fun e => ret_b ?_)
  · have e' : k = 6 := by simpa using e
    match l, h e' with
    | [], h => exact absurd rfl h
    | ⟨k', s', n', l'⟩ :: r, _ =>
      refine ⟨⟨rfl, by omega, by simp [FTs], rfl⟩, ret_b ?_⟩
      show (k' == 5) = (k == 6 && k' == 5)
      rw [show (k == 6) = true from e, Bool.true_and]
  · show false = (k == 6 && _)
    rw [show (k == 6) = false from e, Bool.false_and]
theorem ok_ne {t : Tm} (h : okB t = true) : t.k = 6 → t.l ≠ [] := by
  obtain ⟨k, s, n, l⟩ := t
  intro hk
  obtain ⟨x, y, r, e, _⟩ := okB6 h hk
  show l ≠ []
  rw [e]; simp
/-! ### Normal -/
mutual
def normB : Tm → Bool
  | .mk k s n l => !redexB (.mk k s n l) && normL l
def normL : List Tm → Bool
  | [] => true
  | t :: l => normB t && normL l
end
def rednAt : List Tm → Int → Int
  | [], _ => -1
  | t :: l, i => if normB t = true then rednAt l (i + 1) else i
theorem rednAt_ge : ∀ (l : List Tm) (i : Int), 0 ≤ i → decide (rednAt l i ≥ 0) = !normL l
  | [], _, _ => rfl
  | t :: l, i, h => by
    rw [rednAt, normL]
    split
    · rename_i e; rw [rednAt_ge l (i + 1) (by omega), e, Bool.true_and]
    · rename_i e; rw [show normB t = false by simpa using e]; simp; omega
theorem l_nindex : ∀ (b a : List Tm), (∀ u ∈ b, AC Try.prog 113 [aT u] [] (cb (!normB u)) []) → (a ++ b).length ≤ B →
    RPt Try.prog 101 0 (ci (rednAt b a.length)) [] 1 ⟨[(0, aL (a ++ b)), (1, .c (.fn (.func 113) [] [])), (7, ci (((FTs (a ++ b)).length : Nat) : Int)), (8, ci a.length)], [], 0⟩
  | [], a, _, _ => by
    refine RPt.vc hP sh lv101 (Eq.mpr (v101_i1_1a ..) ?_)
    exact br_of (fun h => absurd (of_decide_eq_true h) (geI' a)) (fun _ => ret_i rfl)
  | t :: b, a, ih, hl => by
    refine RPt.vc hP sh lv101 (Eq.mpr (v101_i1_1a ..) ?_)
    have hl' := hl
    simp only [List.length_append, List.length_cons, B] at hl'
    have h1 := ih t List.mem_cons_self
    have h2 := l_nindex b (a ++ [t]) (fun u hu => ih u (List.mem_cons_of_mem _ hu)) (by rw [ap]; exact hl)
    have h3 := ltI' a t b
    rw [ap, nx] at h2
    rw [aE_mid, w64 (x := (a.length : Int) + 1) (by omega) (by omega)]
    refine br_of (fun _ => ?_) (fun h => absurd h3 (of_decide_eq_false h))
    refine ⟨⟨rfl, by omega, h3, rE_mid ..⟩, _, h1, br_of (fun h => ?_) (fun h => ?_)⟩
    · rw [rednAt, if_neg (by simpa using h)]; exact ret_i rfl
    · rw [rednAt, if_pos (by simpa using h)]; exact h2
theorem c_normal : ∀ t : Tm, t.sz ≤ B → okB t = true → AC Try.prog 84 [aT t] [] (cb (normB t)) [] := by
  refine Tm.ind fun t ih hs ho => ?_
  have hr := c_redex t (ok_ne ho)
  have hlen := Tm.szs_length t.l
  have hol := okB_l ho
  obtain ⟨k, s, n, l⟩ := t
  simp only [Tm.sz, Tm.l] at hs hlen hol
  have h1 : ∀ u ∈ l, AC Try.prog 113 [aT u] [] (cb (!normB u)) [] := fun u hu => by
    have h := ih u hu (by have := Tm.szs_mem hu; omega) (okL_mem hol hu)
    obtain ⟨k, s, n, l⟩ := u
    refine AC.vc hP sh lv113 (Nat.le_refl _) (by simp) (by simp) (Eq.mpr (v113 k s n (FTs l) _ _) ?_)
    exact ⟨_, h, ret_b rfl⟩
  have h2 : AC Try.prog 101 [aL l, .c (.fn (.func 113) [] [])] [] (ci (rednAt l 0)) [] := by
    refine AC.vc hP sh lv101 (Nat.le_refl _) (by simp) (by simp) (Eq.mpr (v101_i1 ..) ?_)
    exact ⟨rfl, l_nindex l [] h1 (by show l.length ≤ B; omega)⟩
  have h3 : AC Try.prog 60 [aL l, .c (.fn (.func 113) [] [])] [] (cb (!normL l)) [] := by
    refine AC.vc hP sh lv60 (Nat.le_refl _) (by simp) (by simp) (Eq.mpr (v60_i1 ..) ?_)
    exact ⟨_, h2, ret_b (rednAt_ge l 0 (Int.le_refl _))⟩
  refine AC.vc hP sh lv84 (Nat.le_refl _) (by simp) (by simp) (Eq.mpr (v84 k s n (FTs l) _ _) ?_)
  refine ⟨_, hr, br_of (fun h => ⟨_, h3, ret_b ?_⟩) (fun h => ret_b ?_)⟩
  · rw [normB, h, Bool.true_and, Bool.not_not]
  · rw [normB, h, Bool.false_and]
theorem c_bNormal (t : Tm) (hs : t.sz ≤ B) : AC Try.prog 38 [aT t] [] (cb (validB t && normB t)) [] := by
  have hv := c_valid t hs
  have hn := fun h => c_normal t hs (valid_ok t h)
  obtain ⟨k, s, n, l⟩ := t
  refine AC.vc hP sh lv38 (Nat.le_refl _) (by simp) (by simp) (Eq.mpr (v38 k s n (FTs l) _ _) ?_)
  refine ⟨_, hv, br_of (fun h => ⟨_, hn h, ret_b ?_⟩) (fun h => ret_b ?_)⟩
  · rw [h, Bool.true_and]
  · rw [h, Bool.false_and]
theorem l_rnormal (k : Int) (s : List UInt8) (n : Int) : ∀ (b a : List Tm), (∀ u ∈ b, AC Try.prog 41 [aT u] [] (cb (normB u)) []) → (a ++ b).length ≤ B →
    RPt Try.prog 41 0 (cb (normL b)) [] 1 ⟨[(1, (.c (.a (.ep 0 4 0 0)))), (3, ci a.length)], [(0, (.arr 4 [fzs (FT (.mk k s n (a ++ b)))]))], 1⟩
  | [], a, _, hl => by
    refine RPt.vc hP sh lv41 (Eq.mpr (v41_1a ..) ?_)
    exact ⟨rfl, br_of (fun h => absurd (of_decide_eq_true h) (geI' a)) (fun _ => ret_b rfl)⟩
  | t :: b, a, ih, hl => by
    refine RPt.vc hP sh lv41 (Eq.mpr (v41_1a ..) ?_)
    have hl' := hl
    simp only [List.length_append, List.length_cons, B] at hl'
    refine ⟨rfl, br_of (fun _ => ?_) (fun h => absurd (ltI' a t b) (of_decide_eq_false h))⟩
    have h1 := ih t List.mem_cons_self
    have h2 := l_rnormal k s n b (a ++ [t]) (fun u hu => ih u (List.mem_cons_of_mem _ hu)) (by rw [ap]; exact hl)
    have h3 := ltI' a t b
    rw [ap, nx] at h2
    rw [aE_mid, w64 (by omega) (by omega)]
    refine ⟨⟨rfl, by omega, h3, rE_mid ..⟩, _, h1, br_of (fun h => ret_b ?_) (fun h => ?_)⟩
    · rw [normL, show normB t = false by simpa using h, Bool.false_and]
    · rw [normL, show normB t = true by simpa using h, Bool.true_and]; exact h2
theorem c_rnormal : ∀ t : Tm, t.sz ≤ B → okB t = true → AC Try.prog 41 [aT t] [] (cb (normB t)) [] := by
  refine Tm.ind fun t ih hs ho => ?_
  have hr := c_rredex t (ok_ne ho)
  have hlen := Tm.szs_length t.l
  have hol := okB_l ho
  obtain ⟨k, s, n, l⟩ := t
  simp only [Tm.sz, Tm.l] at hs hlen hol
  have key := l_rnormal k s n l [] (fun u hu => ih u hu (by have := Tm.szs_mem hu; omega) (okL_mem hol hu)) (by show l.length ≤ B; omega)
  refine AC.vc hP sh lv41 (Nat.le_refl _) (by simp) (by simp) (Eq.mpr (v41 k s n (FTs l) _ _) ?_)
  refine ⟨_, hr, br_of (fun h => ret_b ?_) (fun h => ?_)⟩
  · rw [normB, h]; rfl
  · rw [normB, h, Bool.not_false, Bool.true_and]; exact key
end Go.AM

set_option maxRecDepth 100000
open Go Go.Proofs
namespace Go.AM
/-! ### The document's: applied, with others within, shifted, put in -/
/-- No term's cells. -/
abbrev zT : List WV := [.a (.fz (.int .i64 0)), .a (.fz (.str [])), .a (.fz (.int .i64 0)), .a (.fz .nils)]
theorem apply_some (k : Int) (s : List UInt8) (n : Int) (l : List Tm) (a : Tm) (r : List Tm) : applyF (.mk k s n l) (a :: r) = if (k == 6) = true ∧ l ≠ [] then .mk 6 [] 0 (l ++ a :: r) else .mk 6 [] 0 (.mk k s n l :: a :: r) := rfl
theorem c_rapply (f : Tm) (args : List Tm) (h : f.l.length + args.length < 2199023255551) : AC Try.prog 91 [aT f, aL args] [] (aT (applyF f args)) [] := by
  obtain ⟨k, s, n, l⟩ := f
  simp only [Tm.l] at h
  refine AC.vc hP sh lv91 (Nat.le_refl _) (by simp) (by simp) (Eq.mpr (v91 k s n (FTs l) (FTs args) _ _) ?_)
  match args, h with
  | [], h => exact ⟨rfl, br_of (fun _ => ret_r (.refl _)) (fun h1 => absurd h1 (by simp [FTs]))⟩
  | a :: r, h =>
    have e0 : List.isEmpty (FTs (a :: r)) = false := rfl
    have one : ∀ (h2 : ¬ ((k == 6) = true ∧ l ≠ [])), (1 ≤ 1 ∧ roomB 1 56 ∧ (FV.isSl 4 (.sl false 4 (FTs (a :: r))) = true ∧ ((1 ≤ 1 ∧ roomB (1 + (FTs (a :: r)).length) 56) ∧ (((4 : Nat) = 4 ∧ (0 + (1 + (FTs (a :: r)).length)) ≤ (([[.int .i64 k, .str s, .int .i64 n, .sl false 4 (FTs l)]] : List (List FV)) ++ FTs (a :: r)).length) ∧
        (TV.Le (.agg [.a (.fz (.int .i64 6)), .a (.fz (.str [])), .a (.fz (.int .i64 0)), .a (.fz (.sl true 4 (List.take (1 + (FTs (a :: r)).length) (List.drop 0 ([[.int .i64 k, .str s, .int .i64 n, .sl false 4 (FTs l)]] ++ FTs (a :: r))))))]) (aT (applyF (.mk k s n l) (a :: r))) ∧ ([] : List AObj) = []))))) := fun h2 => by
      refine ⟨Nat.le_refl _, by unfold roomB; omega, rfl, ⟨Nat.le_refl _, ?_⟩, ⟨rfl, by simp; omega⟩, ?_, rfl⟩
      · rw [FTs_length]; exact roomI (by omega)
      · rw [take_cons, apply_some, if_neg h2]
        exact leT (leSl (l := .mk k s n l :: a :: r))
    refine ⟨rfl, br_of (fun h1 => absurd h1 (by simp [FTs]; omega)) (fun _ => br_of (fun h2 => ⟨rfl, br_of (fun h3 => ⟨rfl, br_of (fun h4 => ?_) (fun h4 => ?_)⟩) (fun h3 => one ?_)⟩) (fun h2 => one ?_))⟩
    · rw [lenI] at h3
      have h3 := of_decide_eq_true h3
      match l, h3, h4 with
      | [], h3, _ => simp at h3
      | x :: l, _, h4 => cases h4
    · have hl : l ≠ [] := by rintro rfl; cases h4
      refine ⟨?_, rfl, ⟨Nat.le_refl _, ?_⟩, ⟨rfl, ?_⟩, ?_, rfl⟩
      · rw [FTs_length]; exact roomI (by omega)
      · rw [FTs_length, FTs_length]; exact roomI (by omega)
      · rw [List.take_of_length_le (Nat.le_refl _), List.length_append]; omega
      · rw [take_app, ← FTs_append, apply_some, if_pos ⟨h2, hl⟩]
        exact leT leSl
    · rintro ⟨_, hl⟩
      rw [lenI] at h3
      have h3 := of_decide_eq_false h3
      exact hl (List.eq_nil_of_length_eq_zero (by omega))
    · rintro ⟨h2', _⟩
      have h2 : (k == 6) = false := h2
      have h2' : (k == 6) = true := h2'
      rw [h2] at h2'; cases h2'
theorem c_rwith (t : Tm) (o : List Tm) (ho : o.length ≤ B) (ht : o.length = t.l.length) (hl : (hd o).l.length ≤ B) : AC Try.prog 112 [aT t, aL o] [] (aT (withF t o)) [] := by
  obtain ⟨k, s, n, l⟩ := t
  simp only [Tm.l] at ht
  refine AC.vc hP sh lv112 (Nat.le_refl _) (by simp) (by simp) (Eq.mpr (v112 k s n (FTs l) (FTs o) _ _) ?_)
  have no : ¬ ((k == 6) = true ∧ 1 < o.length ∧ ((o.headD default).k == 6) = true ∧ ((l.headD default).k != 6) = true) → withF (.mk k s n l) o = .mk k s n o := fun h => if_neg h
  rw [lenI]
  refine br_of (fun h1 => ⟨rfl, br_of (fun h2 => ?_) (fun h2 => ?_)⟩) (fun h1 => ?_)
  · have h2' := of_decide_eq_true h2
    match o, l, ht, ho, hl, h2' with
    | x :: y :: r, [], ht, _, _, _ => simp at ht
    | x :: y :: r, u :: l, ht, ho, hl, _ =>
      have hx : aE (List.getD (FTs (x :: y :: r)) 0 []) = aT x := aE_FT x
      have hx0 : FV.asI (List.getD (List.getD (FTs (x :: y :: r)) 0 []) 0 FV.nils) = x.k := by cases x; rfl
      have hu0 : FV.asI (List.getD (List.getD (FTs (u :: l)) 0 []) 0 FV.nils) = u.k := by cases u; rfl
      have el : ∀ (z : Tm) (w : List Tm), FV.isSl 4 (.sl false 4 (FTs (z :: w))) = true ∧ ((0 : Int) ≤ 0 ∧ ((0 : Int) < (((z :: w).length : Nat) : Int) ∧ (rE (List.getD (FTs (z :: w)) 0 []) : List FV) = List.getD (FTs (z :: w)) 0 [])) := fun z w => ⟨rfl, Int.le_refl _, by simp only [List.length_cons]; omega, rE_FT z⟩
      rw [hx0, hu0, hx]
      simp only [List.length_cons, B, hd, List.headD_cons] at ho hl
      refine ⟨el x (y :: r), br_of (fun h3 => ⟨by rw [lenI]; exact el u l, br_of (fun h4 => ⟨el x (y :: r), rfl, ⟨by omega, by simp; omega, Int.le_refl _⟩, ?_⟩) (fun h4 => ret_t (no ?_).symm)⟩) (fun h3 => ret_t (no ?_).symm)⟩
      · have ha := c_rapply x (y :: r) (by simp only [List.length_cons]; omega)
        have e : List.drop 1 (List.take (Int.toNat ((x :: y :: r).length : Int)) (FTs (x :: y :: r))) = FTs (y :: r) := by
          rw [toNat_len, List.take_of_length_le (by rw [FTs_length]; exact Nat.le_refl _)]; rfl
        rw [e]
        refine ⟨_, ha, ret_t ?_⟩
        rw [withF, if_pos ⟨h1, by simp, h3, h4⟩]; rfl
      · rintro ⟨_, _, _, h⟩
        have h4 : (u.k != 6) = false := h4
        rw [show (List.headD (u :: l) default) = u from rfl, h4] at h; cases h
      · rintro ⟨_, _, h, _⟩
        have h3 : (x.k == 6) = false := h3
        rw [show (List.headD (x :: y :: r) default) = x from rfl, h3] at h; cases h
  · exact ret_t (no (fun h => absurd (of_decide_eq_false h2) (by have := h.2.1; omega))).symm
  · exact ret_t (no (fun h => by have h0 := h.1; have h1 : (k == 6) = false := h1; rw [h1] at h0; cases h0)).symm
theorem l_rshb (x1 x2 : Int) (k : Int) (kd : Int) (s : List UInt8) (n : Int) (hk0 : 0 ≤ k) (hk1 : k ≤ M61) (e : Int) (he : e = k + (if (kd == 5) = true then 1 else 0)) : ∀ (b a acc : List Tm), acc.length = a.length → (∀ u ∈ b, AC Try.prog 115 [aT u, ci x1, ci x2, ci e] [] (aT (walkF (shLeaf x1 x2) u e)) []) → (a ++ b).length ≤ B → (hd (acc ++ walkL (shLeaf x1 x2) b e)).l.length ≤ B →
    RPt Try.prog 115 0 (aT (withF (.mk kd s n (a ++ b)) (acc ++ walkL (shLeaf x1 x2) b e))) [] 1 ⟨[(1, ci x1), (2, ci x2), (3, ci k), (4, .c (.a (.ep 0 4 0 0))), (8, .c (.a (.ep 1 4 0 0))), (10, .c (.a (.osl 2 4 0 acc.length))), (11, ci a.length)], [(0, .arr 4 [fzs (FT (.mk kd s n (a ++ b)))]),  (1, .arr 4 [zT]), (2, .arz 4 (FTs acc))], 3⟩
  | [], a, acc, hlen, _, hl, hh => by
    simp only [walkL, List.append_nil] at hh hl ⊢
    have hw := c_rwith (.mk kd s n a) acc (by omega) hlen hh
    refine RPt.vc hP sh lv115 (Eq.mpr (v115_1b ..) ?_)
    refine ⟨rfl, br_of (fun h => absurd (of_decide_eq_true h) (by rw [FTs_length]; omega)) (fun _ => ⟨⟨rfl, by rw [FTs_length]; omega⟩, _, hw.args ⟨.refl _, ?_, trivial⟩, ret_r (.refl _)⟩)⟩
    rw [show List.take acc.length (List.drop 0 (FTs acc)) = FTs acc by rw [List.drop_zero, List.take_of_length_le (by rw [FTs_length]; omega)]]
    exact le_c leSl
  | t :: b, a, acc, hlen, ih, hl, hh => by
    have hl' := hl
    simp only [List.length_append, List.length_cons, B] at hl'
    have h1 := ih t List.mem_cons_self
    have h2 := l_rshb x1 x2 k kd s n hk0 hk1 e he b (a ++ [t]) (acc ++ [walkF (shLeaf x1 x2) t e]) (by simp [hlen]) (fun u hu => ih u (List.mem_cons_of_mem _ hu)) (by rw [ap]; exact hl) (by rw [ap]; exact hh)
    have h3 := ltI' a t b
    have hu := c_runder (.mk kd s n (a ++ t :: b)) k hk0 (by simp only [M61] at hk1; omega)
    rw [ap, ap, nx] at h2
    rw [walkL]
    refine RPt.vc hP sh lv115 (Eq.mpr (v115_1b ..) ?_)
    rw [aE_mid, w64 (x := (a.length : Int) + 1) (by omega) (by omega)]
    refine ⟨rfl, br_of (fun _ => ⟨⟨rfl, by omega, h3, rE_mid ..⟩, _, hu, walkF (shLeaf x1 x2) t e, ?_, Nat.le_refl _, ⟨by rw [FTs_length]; omega, roomI (by omega)⟩, ?_⟩) (fun h => absurd h3 (of_decide_eq_false h))⟩
    · rw [show k + Tm.by (.mk kd s n (a ++ t :: b)) = e from he.symm]; exact h1
    · have e5 : List.take acc.length (FTs acc) ++ [FT4 (walkF (shLeaf x1 x2) t e)] = FTs (acc ++ [walkF (shLeaf x1 x2) t e]) := by rw [List.take_of_length_le (by rw [FTs_length]; omega), FT4_eq, FTs_append]; rfl
      rw [e5]
      rw [List.length_append] at h2
      exact h2
theorem l_rsha (x1 x2 : Int) (k : Int) (kd : Int) (s : List UInt8) (n : Int) (hk0 : 0 ≤ k) (hk1 : k ≤ M61) (e : Int) (he : e = k + (if (kd == 5) = true then 1 else 0)) (b : List Tm) (ih : ∀ u ∈ b, AC Try.prog 115 [aT u, ci x1, ci x2, ci e] [] (aT (walkF (shLeaf x1 x2) u e)) []) (hl : b.length ≤ B) (hh : (hd (walkL (shLeaf x1 x2) b e)).l.length ≤ B) :
    RPt Try.prog 115 0 (aT (withF (.mk kd s n b) (walkL (shLeaf x1 x2) b e))) [] 1 ⟨[(1, ci x1), (2, ci x2), (3, ci k), (4, .c (.a (.ep 0 4 0 0))), (8, .c (.a (.ep 1 4 0 0))), (10, .c (.a (.fz .nils))), (11, ci 0)], [(0, .arr 4 [fzs (FT (.mk kd s n b))]),  (1, .arr 4 [zT])], 2⟩ := by
  refine RPt.vc hP sh lv115 (Eq.mpr (v115_1a ..) ?_)
  match b, ih, hl, hh with
  | [], ih, hl, hh =>
    have hw := c_rwith (.mk kd s n []) [] (by simp) rfl hh
    exact ⟨rfl, br_of (fun h => absurd (of_decide_eq_true h) (by rw [FTs_length]; simp)) (fun _ => ⟨_, hw.args ⟨.refl _, le_c leNil, trivial⟩, ret_r (.refl _)⟩)⟩
  | t :: b, ih, hl, hh =>
    have hl' := hl
    simp only [List.length_cons, B] at hl'
    have h1 := ih t List.mem_cons_self
    have h2 := l_rshb x1 x2 k kd s n hk0 hk1 e he b [t] [walkF (shLeaf x1 x2) t e] rfl (fun u hu => ih u (List.mem_cons_of_mem _ hu)) hl hh
    have h3 := ltI' [] t b
    have hu := c_runder (.mk kd s n (t :: b)) k hk0 (by simp only [M61] at hk1; omega)
    rw [show aE (List.getD (FTs (t :: b)) (Int.toNat 0) []) = aT t from aE_FT t, w64 (by omega) (by omega)]
    refine ⟨rfl, br_of (fun _ => ⟨⟨rfl, by omega, h3, rE_FT t⟩, _, hu, walkF (shLeaf x1 x2) t e, ?_, Nat.le_refl _, roomI (by omega), ?_⟩) (fun h => absurd h3 (of_decide_eq_false h))⟩
    · rw [show k + Tm.by (.mk kd s n (t :: b)) = e from he.symm]; exact h1
    · rw [FT4_eq]; exact h2
theorem l_rsub (x1 : Int) (st : Tm) (k : Int) (kd : Int) (s : List UInt8) (n : Int) (hk0 : 0 ≤ k) (hk1 : k ≤ M61) (e : Int) (he : e = k + (if (kd == 5) = true then 1 else 0)) : ∀ (b a acc : List Tm), acc.length = a.length → (∀ u ∈ b, AC Try.prog 82 [aT u, ci x1, aT st, ci e] [] (aT (walkF (suLeaf x1 st) u e)) []) → (a ++ b).length ≤ B → (hd (acc ++ walkL (suLeaf x1 st) b e)).l.length ≤ B →
    RPt Try.prog 82 0 (aT (withF (.mk kd s n (a ++ b)) (acc ++ walkL (suLeaf x1 st) b e))) [] 1 ⟨[(1, ci x1), (3, ci k), (4, .c (.a (.ep 0 4 0 0))), (6, .c (.a (.ep 1 4 0 0))), (8, .c (.a (.ep 2 4 0 0))), (10, .c (.a (.osl 3 4 0 acc.length))), (11, ci a.length)], [(0, .arr 4 [fzs (FT (.mk kd s n (a ++ b)))]), (1, .arr 4 [cT st]), (2, .arr 4 [zT]), (3, .arz 4 (FTs acc))], 4⟩
  | [], a, acc, hlen, _, hl, hh => by
    simp only [walkL, List.append_nil] at hh hl ⊢
    have hw := c_rwith (.mk kd s n a) acc (by omega) hlen hh
    refine RPt.vc hP sh lv82 (Eq.mpr (v82_1b ..) ?_)
    refine ⟨rfl, br_of (fun h => absurd (of_decide_eq_true h) (by rw [FTs_length]; omega)) (fun _ => ⟨⟨rfl, by rw [FTs_length]; omega⟩, _, hw.args ⟨.refl _, ?_, trivial⟩, ret_r (.refl _)⟩)⟩
    rw [show List.take acc.length (List.drop 0 (FTs acc)) = FTs acc by rw [List.drop_zero, List.take_of_length_le (by rw [FTs_length]; omega)]]
    exact le_c leSl
  | t :: b, a, acc, hlen, ih, hl, hh => by
    have hl' := hl
    simp only [List.length_append, List.length_cons, B] at hl'
    have h1 := ih t List.mem_cons_self
    have h2 := l_rsub x1 st k kd s n hk0 hk1 e he b (a ++ [t]) (acc ++ [walkF (suLeaf x1 st) t e]) (by simp [hlen]) (fun u hu => ih u (List.mem_cons_of_mem _ hu)) (by rw [ap]; exact hl) (by rw [ap]; exact hh)
    have h3 := ltI' a t b
    have hu := c_runder (.mk kd s n (a ++ t :: b)) k hk0 (by simp only [M61] at hk1; omega)
    rw [ap, ap, nx] at h2
    rw [walkL]
    refine RPt.vc hP sh lv82 (Eq.mpr (v82_1b ..) ?_)
    rw [aE_mid, w64 (x := (a.length : Int) + 1) (by omega) (by omega)]
    refine ⟨rfl, br_of (fun _ => ⟨⟨rfl, by omega, h3, rE_mid ..⟩, _, hu, walkF (suLeaf x1 st) t e, ?_, Nat.le_refl _, ⟨by rw [FTs_length]; omega, roomI (by omega)⟩, ?_⟩) (fun h => absurd h3 (of_decide_eq_false h))⟩
    · rw [show k + Tm.by (.mk kd s n (a ++ t :: b)) = e from he.symm]; exact h1
    · have e5 : List.take acc.length (FTs acc) ++ [FT4 (walkF (suLeaf x1 st) t e)] = FTs (acc ++ [walkF (suLeaf x1 st) t e]) := by rw [List.take_of_length_le (by rw [FTs_length]; omega), FT4_eq, FTs_append]; rfl
      rw [e5]
      rw [List.length_append] at h2
      exact h2
theorem l_rsua (x1 : Int) (st : Tm) (k : Int) (kd : Int) (s : List UInt8) (n : Int) (hk0 : 0 ≤ k) (hk1 : k ≤ M61) (e : Int) (he : e = k + (if (kd == 5) = true then 1 else 0)) (b : List Tm) (ih : ∀ u ∈ b, AC Try.prog 82 [aT u, ci x1, aT st, ci e] [] (aT (walkF (suLeaf x1 st) u e)) []) (hl : b.length ≤ B) (hh : (hd (walkL (suLeaf x1 st) b e)).l.length ≤ B) :
    RPt Try.prog 82 0 (aT (withF (.mk kd s n b) (walkL (suLeaf x1 st) b e))) [] 1 ⟨[(1, ci x1), (3, ci k), (4, .c (.a (.ep 0 4 0 0))), (6, .c (.a (.ep 1 4 0 0))), (8, .c (.a (.ep 2 4 0 0))), (10, .c (.a (.fz .nils))), (11, ci 0)], [(0, .arr 4 [fzs (FT (.mk kd s n b))]), (1, .arr 4 [cT st]), (2, .arr 4 [zT])], 3⟩ := by
  refine RPt.vc hP sh lv82 (Eq.mpr (v82_1a ..) ?_)
  match b, ih, hl, hh with
  | [], ih, hl, hh =>
    have hw := c_rwith (.mk kd s n []) [] (by simp) rfl hh
    exact ⟨rfl, br_of (fun h => absurd (of_decide_eq_true h) (by rw [FTs_length]; simp)) (fun _ => ⟨_, hw.args ⟨.refl _, le_c leNil, trivial⟩, ret_r (.refl _)⟩)⟩
  | t :: b, ih, hl, hh =>
    have hl' := hl
    simp only [List.length_cons, B] at hl'
    have h1 := ih t List.mem_cons_self
    have h2 := l_rsub x1 st k kd s n hk0 hk1 e he b [t] [walkF (suLeaf x1 st) t e] rfl (fun u hu => ih u (List.mem_cons_of_mem _ hu)) hl hh
    have h3 := ltI' [] t b
    have hu := c_runder (.mk kd s n (t :: b)) k hk0 (by simp only [M61] at hk1; omega)
    rw [show aE (List.getD (FTs (t :: b)) (Int.toNat 0) []) = aT t from aE_FT t, w64 (by omega) (by omega)]
    refine ⟨rfl, br_of (fun _ => ⟨⟨rfl, by omega, h3, rE_FT t⟩, _, hu, walkF (suLeaf x1 st) t e, ?_, Nat.le_refl _, roomI (by omega), ?_⟩) (fun h => absurd h3 (of_decide_eq_false h))⟩
    · rw [show k + Tm.by (.mk kd s n (t :: b)) = e from he.symm]; exact h1
    · rw [FT4_eq]; exact h2

theorem c_rshift (fr by_ : Int) (hf0 : 0 ≤ fr) (hf1 : fr ≤ M61) (hb0 : 0 - 1 ≤ by_) (hb1 : by_ ≤ M61) : ∀ (t : Tm) (k : Int), t.sz ≤ B → bd M61 t → 0 ≤ k → k + t.sz ≤ M61 → AC Try.prog 115 [aT t, ci fr, ci by_, ci k] [] (aT (shT fr by_ t k)) [] := by
  refine Tm.ind fun t ih k hs hb h0 h1 => ?_
  have hlen := Tm.szs_length t.l
  have hi := c_rinner t
  have hsz := shT_sz fr by_
  obtain ⟨kd, s, n, l⟩ := t
  simp only [Tm.sz, Tm.l, M61, B] at hs hlen h1 hf1 hb1
  have hin : Tm.inner (.mk kd s n l) = (kd == 5 || kd == 6) := rfl
  have leaf : (kd == 5 || kd == 6) = false → shT fr by_ (.mk kd s n l) k = shLeaf fr by_ (.mk kd s n l) k := fun h => walkF_leaf _ kd s n l k h
  refine AC.vc hP sh lv115 (Nat.le_refl _) (by simp) (by simp) (Eq.mpr (v115 kd s n (FTs l) fr by_ k _ _) ?_)
  rw [w64 (x := k + fr) (by omega) (by omega)]
  have go : kd ≠ 3 → (kd == 5 || kd == 6) = true → RPt Try.prog 115 0 (aT (shT fr by_ (.mk kd s n l) k)) [] 1 ⟨[(1, ci fr), (2, ci by_), (3, ci k), (4, .c (.a (.ep 0 4 0 0))), (8, .c (.a (.ep 1 4 0 0))), (10, .c (.a (.fz .nils))), (11, ci 0)], [(0, .arr 4 [fzs (FT (.mk kd s n l))]), (1, .arr 4 [zT])], 2⟩ := fun _ h => by
    rw [shT, walkF, if_pos h]
    have hk5 : (0 : Int) ≤ (if (kd == 5) = true then 1 else 0) ∧ (if (kd == 5) = true then (1 : Int) else 0) ≤ 1 := by split <;> omega
    refine l_rsha fr by_ k kd s n h0 (by simp only [M61]; omega) _ rfl l (fun u hu => ?_) (by simp only [B]; omega) ?_
    · have := Tm.szs_mem hu
      exact ih u hu _ (by simp only [B]; omega) (bds_mem hb.2 hu) (by omega) (by simp only [M61]; omega)
    · match l, hs with
      | [], _ => simp [walkL, hd]; exact Nat.zero_le _
      | u :: r, hs =>
        simp only [Tm.szs] at hs
        have h2 := hsz u (k + if (kd == 5) = true then 1 else 0)
        have h3 := Tm.szs_length (shT fr by_ u (k + if (kd == 5) = true then 1 else 0)).l
        have h4 := (shT fr by_ u (k + if (kd == 5) = true then 1 else 0)).sz_eq
        show (shT fr by_ u (k + if (kd == 5) = true then 1 else 0)).l.length ≤ B
        simp only [B]; omega
  refine br_of (fun e3 => br_of (fun h2 => ?_) (fun h2 => ⟨_, hi, br_of (fun h3 => ?_) (fun h3 => ?_)⟩)) (fun e3 => ⟨_, hi, br_of (fun h3 => ?_) (fun h3 => ?_)⟩)
  · have e : kd = 3 := by simpa using e3
    have := hb.1 e
    have h2 := of_decide_eq_true h2
    rw [w64 (by simp only [M61] at this; omega) (by simp only [M61] at this; omega)]
    rw [leaf (by subst e; rfl), shLeaf, if_pos ⟨e3, h2⟩]
    exact ret_r (.refl _)
  · rw [leaf (by rw [← hin]; simpa using h3), shLeaf, if_neg (fun q => absurd q.2 (of_decide_eq_false h2))]
    exact ret_r (.refl _)
  · rw [hin] at h3
    have e : kd = 3 := by simpa using e3
    subst e; cases h3
  · rw [leaf (by rw [← hin]; simpa using h3), shLeaf, if_neg (fun q => by have q1 := q.1; have e3 : (kd == 3) = false := e3; rw [show Tm.k (.mk kd s n l) = kd from rfl, e3] at q1; cases q1)]
    exact ret_r (.refl _)
  · exact go (fun e => by subst e; cases e3) (by rw [← hin]; simpa using h3)
theorem c_rShift (t : Tm) (fr by_ : Int) (hs : t.sz ≤ B) (hb : bd M61 t) (hf0 : 0 ≤ fr) (hf1 : fr ≤ M61) (hb0 : 0 - 1 ≤ by_) (hb1 : by_ ≤ M61) : AC Try.prog 92 [aT t, ci fr, ci by_] [] (aT (shT fr by_ t 0)) [] := by
  have h := c_rshift fr by_ hf0 hf1 hb0 hb1 t 0 hs hb (Int.le_refl _) (by simp only [M61, B] at *; omega)
  obtain ⟨k, s, n, l⟩ := t
  refine AC.vc hP sh lv92 (Nat.le_refl _) (by simp) (by simp) (Eq.mpr (v92 k s n (FTs l) fr by_ _ _) ?_)
  exact ⟨_, h, ret_r (.refl _)⟩
theorem c_rsubst (i : Int) (st : Tm) (hst : st.sz ≤ B) (hbs : bd M61 st) (hi0 : 0 ≤ i) (hi1 : i ≤ M61) : ∀ (t : Tm) (k : Int), t.sz + nd t * st.sz ≤ B → bd M61 t → 0 ≤ k → k + t.sz ≤ M61 → AC Try.prog 82 [aT t, ci i, aT st, ci k] [] (aT (suT i st t k)) [] := by
  refine Tm.ind fun t ih k hs hb h0 h1 => ?_
  have hlen := Tm.szs_length t.l
  have hi := c_rinner t
  have hsz := suT_sz i st
  have hsh := c_rShift st 0 k hst hbs (Int.le_refl _) (by simp only [M61]; omega) (by omega) (by omega)
  obtain ⟨kd, s, n, l⟩ := t
  rw [nd_eq] at hs
  simp only [Tm.sz, Tm.l, M61, B, Nat.add_mul, Nat.one_mul] at hs hlen h1 hi1
  have hin : Tm.inner (.mk kd s n l) = (kd == 5 || kd == 6) := rfl
  have leaf : (kd == 5 || kd == 6) = false → suT i st (.mk kd s n l) k = suLeaf i st (.mk kd s n l) k := fun h => walkF_leaf _ kd s n l k h
  have hgo : (kd == 5 || kd == 6) = true → RPt Try.prog 82 0 (aT (suT i st (.mk kd s n l) k)) [] 1 ⟨[(1, ci i), (3, ci k), (4, .c (.a (.ep 0 4 0 0))), (6, .c (.a (.ep 1 4 0 0))), (8, .c (.a (.ep 2 4 0 0))), (10, .c (.a (.fz .nils))), (11, ci 0)], [(0, .arr 4 [fzs (FT (.mk kd s n l))]), (1, .arr 4 [cT st]), (2, .arr 4 [zT])], 3⟩ := fun h => by
    rw [suT, walkF, if_pos h]
    have hk5 : (0 : Int) ≤ (if (kd == 5) = true then 1 else 0) ∧ (if (kd == 5) = true then (1 : Int) else 0) ≤ 1 := by split <;> omega
    refine l_rsua i st k kd s n h0 (by simp only [M61]; omega) _ rfl l (fun u hu => ?_) (by simp only [B]; omega) ?_
    · have := Tm.szs_mem hu
      have h7 := Nat.mul_le_mul_right st.sz (nds_mem hu)
      exact ih u hu _ (by simp only [B]; omega) (bds_mem hb.2 hu) (by omega) (by simp only [M61]; omega)
    · match l, hs with
      | [], _ => simp [walkL, hd]; exact Nat.zero_le _
      | u :: r, hs =>
        simp only [Tm.szs, nds, Nat.add_mul] at hs
        have h2 := hsz u (k + if (kd == 5) = true then 1 else 0)
        have h3 := Tm.szs_length (suT i st u (k + if (kd == 5) = true then 1 else 0)).l
        have h4 := (suT i st u (k + if (kd == 5) = true then 1 else 0)).sz_eq
        show (suT i st u (k + if (kd == 5) = true then 1 else 0)).l.length ≤ B
        simp only [B]; omega
  refine AC.vc hP sh lv82 (Nat.le_refl _) (by simp) (by simp) (Eq.mpr (v82 kd s n (FTs l) i st.k st.s st.n (FTs st.l) k _ _) ?_)
  rw [w64 (x := k + i) (by omega) (by omega)]
  refine br_of (fun e3 => br_of (fun h2 => ?_) (fun h2 => br_of (fun h3 => ?_) (fun h3 => ?_))) (fun e3 => ⟨_, hi, br_of (fun h3 => ?_) (fun h3 => ?_)⟩)
  · have e : kd = 3 := by simpa using e3
    have e2 : n = k + i := by simpa using h2
    rw [leaf (by subst e; rfl), suLeaf, if_pos (show (Tm.k (.mk kd s n l) == 3) = true from e3), if_neg (show ¬ Tm.n (.mk kd s n l) < k + i by show ¬ n < k + i; omega), if_pos (show (Tm.n (.mk kd s n l) == k + i) = true from h2)]
    exact ⟨_, hsh, ret_r (.refl _)⟩
  · have e : kd = 3 := by simpa using e3
    have := hb.1 e
    have h3 := of_decide_eq_true h3
    rw [w64 (by simp only [M61] at this; omega) (by simp only [M61] at this; omega)]
    rw [leaf (by subst e; rfl), suLeaf, if_pos (show (Tm.k (.mk kd s n l) == 3) = true from e3), if_neg (show ¬ Tm.n (.mk kd s n l) < k + i by show ¬ n < k + i; omega), if_neg (by rw [show (Tm.n (.mk kd s n l) == k + i) = false from h2]; simp)]
    exact ret_r (.refl _)
  · have e : kd = 3 := by simpa using e3
    have h3 := of_decide_eq_false h3
    have h2' : n ≠ k + i := by simpa using h2
    rw [leaf (by subst e; rfl), suLeaf, if_pos (show (Tm.k (.mk kd s n l) == 3) = true from e3), if_pos (show Tm.n (.mk kd s n l) < k + i by show n < k + i; omega)]
    exact ret_r (.refl _)
  · rw [leaf (by rw [← hin]; simpa using h3), suLeaf, if_neg (by rw [show (Tm.k (.mk kd s n l) == 3) = false from e3]; simp)]
    exact ret_r (.refl _)
  · exact hgo (by rw [← hin]; simpa using h3)
theorem c_rSubst (t st : Tm) (i : Int) (hst : st.sz ≤ B) (ht : t.sz + nd t * st.sz ≤ B) (hb : bd M61 t) (hbs : bd M61 st) (hi0 : 0 ≤ i) (hi1 : i ≤ M61) : AC Try.prog 36 [aT t, ci i, aT st] [] (aT (suT i st t 0)) [] := by
  have h := c_rsubst i st hst hbs hi0 hi1 t 0 ht hb (Int.le_refl _) (by simp only [M61, B] at *; omega)
  obtain ⟨k, s, n, l⟩ := t
  obtain ⟨k', s', n', l'⟩ := st
  refine AC.vc hP sh lv36 (Nat.le_refl _) (by simp) (by simp) (Eq.mpr (v36 k s n (FTs l) i k' s' n' (FTs l') _ _) ?_)
  exact ⟨_, h, ret_r (.refl _)⟩
end Go.AM

set_option maxRecDepth 100000
open Go Go.Proofs
namespace Go.AM
mutual
theorem nd_sz : ∀ t : Tm, nd t = t.sz
  | .mk _ _ _ l => by simp only [nd, Tm.sz, nds_szs l]
theorem nds_szs : ∀ l : List Tm, nds l = Tm.szs l
  | [] => rfl
  | t :: l => by simp only [nds, Tm.szs, nd_sz t, nds_szs l]
end
mutual
theorem ok_size : ∀ t : Tm, okB t = true → sizeF t = t.sz
  | .mk k s n l, h => by
    have hl := ok_sizes l (okB_l h)
    by_cases h6 : k = 6
    · subst h6; simp [sizeF, Tm.sz, hl]
    · by_cases h5 : k = 5
      · subst h5; simp [sizeF, Tm.sz, hl]
      · have : l = [] := okB0 h h5 h6
        subst this
        simp [sizeF, Tm.sz, sizeL, Tm.szs]
theorem ok_sizes : ∀ l : List Tm, okL l = true → sizeL l = Tm.szs l
  | [], _ => rfl
  | t :: l, h => by
    simp only [okL, Bool.and_eq_true] at h
    simp only [sizeL, Tm.szs, ok_size t h.1, ok_sizes l h.2]
end
/-- How large a term may be in what follows. -/
def SZ : Nat := 67108864
theorem room_sz {body arg : Tm} (ob : okB body = true) (oa : okB arg = true) (hr : roomT body arg = true) (ha : arg.sz ≤ SZ) : body.sz + nd body * arg.sz ≤ B ∧ body.sz + occF body 0 * arg.sz ≤ 4096 := by
  have h1 : ((sizeF body : Int) + (occF body 0 : Int) * (sizeF arg : Int) ≤ 4096) := by
    have : (!decide ((sizeF body : Int) + (occF body 0 : Int) * (sizeF arg : Int) > 4096)) = true := hr
    simp only [Bool.not_eq_true', decide_eq_false_iff_not] at this
    omega
  rw [ok_size body ob, ok_size arg oa, nd_sz] at *
  have h0 : body.sz + occF body 0 * arg.sz ≤ 4096 := by
    have : ((body.sz + occF body 0 * arg.sz : Nat) : Int) ≤ 4096 := by rw [Int.natCast_add, Int.natCast_mul]; exact h1
    omega
  have h2 : body.sz ≤ 4096 := by omega
  have h3 := Nat.mul_le_mul h2 ha
  simp only [SZ] at h3
  exact ⟨by simp only [B]; omega, h0⟩
theorem zm_le {body arg : Tm} (hb : body.sz ≤ 1073741824) (ha : arg.sz ≤ 1073741824) : 0 ≤ (occF body 0 : Int) * (sizeF arg : Int) ∧ (occF body 0 : Int) * (sizeF arg : Int) ≤ 1152921504606846976 := by
  have := Nat.mul_le_mul (Nat.le_trans (occF_le body 0) hb) (Nat.le_trans (sizeF_le arg) ha)
  exact ⟨Int.mul_nonneg (by omega) (by omega), by omega⟩
theorem c_bcontr (body arg : Tm) (ob : okB body = true) (oa : okB arg = true) (hb : body.sz ≤ SZ) (ha : arg.sz ≤ SZ) (db : bd M61 body) (da : bd M61 arg) : AC Try.prog 81 [aT body, aT arg] [] (aTE (conF body arg) (conE body arg)) [] := by
  simp only [SZ] at hb ha
  have h1 := c_size body (by simp only [B]; omega)
  have h2 := c_occurs body (by simp only [B]; omega) 0 (by omega) (by omega)
  have h3 := c_size arg (by simp only [B]; omega)
  have h4 := fun hr => c_subst body arg 0 (by simp only [B]; omega) (room_sz ob oa hr (by simp only [SZ]; omega)).1 db da (by omega) (by simp only [M61]; omega)
  have z1 := sizeF_le body
  have z2 := zm_le (body := body) (arg := arg) (by omega) (by omega)
  have cF : ∀ b, roomT body arg = b → conF body arg = (if b = true then suT 0 arg body 0 else noT) ∧ conE body arg = (if b = true then 0 else 80) := fun b h => by unfold conF conE; rw [h]; exact ⟨rfl, rfl⟩
  have hf : roomT body arg = !decide ((sizeF body : Int) + (occF body 0 : Int) * (sizeF arg : Int) > 4096) := rfl
  obtain ⟨k, s, n, l⟩ := body
  obtain ⟨k', s', n', l'⟩ := arg
  refine AC.vc hP sh lv81 (Nat.le_refl _) (by simp) (by simp) (Eq.mpr (v81 k s n (FTs l) k' s' n' (FTs l') _ _) ?_)
  refine ⟨_, h1, _, h2, _, h3, ?_⟩
  rw [w64 (x := (occF (.mk k s n l) 0 : Int) * (sizeF (.mk k' s' n' l') : Int)) (by omega) (by omega), w64 (by omega) (by omega)]
  refine br_of (fun h => ?_) (fun h => ?_)
  · obtain ⟨e1, e2⟩ := cF false (by rw [hf, h]; rfl)
    rw [e1, e2]
    exact ⟨leTE leNil, rfl⟩
  · obtain ⟨e1, e2⟩ := cF true (by rw [hf, h]; rfl)
    rw [e1, e2]
    exact ⟨_, h4 (by rw [hf, h]; rfl), .refl _, rfl⟩
theorem c_bcontract (body arg : Tm) (hb : body.sz ≤ SZ) (ha : arg.sz ≤ SZ) (db : bd M61 body) (da : bd M61 arg) : AC Try.prog 34 [aT body, aT arg] [] (if (validB body && validB arg) = true then aTE (conF body arg) (conE body arg) else aTE noT 1) [] := by
  have h1 := c_valid body (by simp only [SZ, B] at *; omega)
  have h2 := c_valid arg (by simp only [SZ, B] at *; omega)
  have h3 := fun ob oa => c_bcontr body arg (valid_ok body ob) (valid_ok arg oa) hb ha db da
  obtain ⟨k, s, n, l⟩ := body
  obtain ⟨k', s', n', l'⟩ := arg
  refine AC.vc hP sh lv34 (Nat.le_refl _) (by simp) (by simp) (Eq.mpr (v34 k s n (FTs l) k' s' n' (FTs l') _ _) ?_)
  refine ⟨_, h1, br_of (fun h => ?_) (fun h => ⟨_, h2, br_of (fun h' => ?_) (fun h' => ?_)⟩)⟩
  · rw [if_neg (by rw [show validB (.mk k s n l) = false by simpa using h]; simp)]
    exact ⟨leTE leNil, rfl⟩
  · rw [if_neg (by rw [show validB (.mk k' s' n' l') = false by simpa using h']; simp)]
    exact ⟨leTE leNil, rfl⟩
  · have e1 : validB (.mk k s n l) = true := by simpa using h
    have e2 : validB (.mk k' s' n' l') = true := by simpa using h'
    rw [if_pos (by rw [e1, e2]; rfl)]
    exact ⟨(_, _), h3 e1 e2, .refl _, rfl⟩
theorem c_rfits (body arg : Tm) (hb : body.sz ≤ SZ) (ha : arg.sz ≤ SZ) : AC Try.prog 35 [aT body, aT arg] [] (cb (roomT body arg)) [] := by
  simp only [SZ] at hb ha
  have h1 := c_rsize body (by simp only [B]; omega)
  have h2 := c_roccurs body (by simp only [B]; omega) 0 (by omega) (by omega)
  have h3 := c_rsize arg (by simp only [B]; omega)
  have z1 := sizeF_le body
  have z2 := zm_le (body := body) (arg := arg) (by omega) (by omega)
  have hf : roomT body arg = !decide ((sizeF body : Int) + (occF body 0 : Int) * (sizeF arg : Int) > 4096) := rfl
  obtain ⟨k, s, n, l⟩ := body
  obtain ⟨k', s', n', l'⟩ := arg
  refine AC.vc hP sh lv35 (Nat.le_refl _) (by simp) (by simp) (Eq.mpr (v35 k s n (FTs l) k' s' n' (FTs l') _ _) ?_)
  refine ⟨_, h1, _, h2, _, h3, ?_⟩
  rw [w64 (x := (occF (.mk k s n l) 0 : Int) * (sizeF (.mk k' s' n' l') : Int)) (by omega) (by omega), w64 (by omega) (by omega)]
  refine ret_b ?_
  rw [hf]
  by_cases q : (sizeF (.mk k s n l) : Int) + (occF (.mk k s n l) 0 : Int) * (sizeF (.mk k' s' n' l') : Int) ≤ 4096
  · rw [decide_eq_true q, decide_eq_false (by omega)]; rfl
  · rw [decide_eq_false q, decide_eq_true (by omega)]; rfl
/-! ### One step -/
theorem redex_shape {t : Tm} (ho : okB t = true) (hr : redexB t = true) : ∃ s n s1 n1 body arg rest, t = .mk 6 s n (.mk 5 s1 n1 [body] :: arg :: rest) ∧ okB body = true ∧ okB arg = true ∧ okL rest = true := by
  obtain ⟨k, s, n, l⟩ := t
  simp only [redexB, Tm.k, Tm.l, Bool.and_eq_true, beq_iff_eq] at hr
  obtain ⟨rfl, h5⟩ := hr
  obtain ⟨x, y, r, rfl, _, hl⟩ := okB6 ho rfl
  simp only [okL, Bool.and_eq_true] at hl
  obtain ⟨k', s', n', l'⟩ := x
  have h5 : k' = 5 := h5
  subst h5
  obtain ⟨b, rfl, hb⟩ := okB5 hl.1 rfl
  exact ⟨s, n, s', n', b, y, r, rfl, hb, hl.2.1, hl.2.2⟩
mutual
def stepF : Tm → Tm × Int
  | .mk k s n l => if redexB (.mk k s n l) = true then (if roomT (hd (hd l).l) (hd l.tail) = true then (applyF (suT 0 (hd l.tail) (hd (hd l).l) 0) (l.drop 2), 1) else (noT, 2))
    else if (stepL l).2 = 0 then (.mk k s n l, 0) else if (stepL l).2 = 1 then (.mk k [] 0 (stepL l).1, 1) else (noT, 2)
def stepL : List Tm → List Tm × Int
  | [] => ([], 0)
  | t :: l => if (stepF t).2 = 0 then (t :: (stepL l).1, (stepL l).2) else ((stepF t).1 :: l, (stepF t).2)
end
mutual
theorem stepF_n : ∀ t : Tm, (stepF t).2 = 0 ∨ (stepF t).2 = 1 ∨ (stepF t).2 = 2
  | .mk k s n l => by
    rw [stepF]
    split
    · split
      · exact .inr (.inl rfl)
      · exact .inr (.inr rfl)
    · split
      · exact .inl rfl
      · split
        · exact .inr (.inl rfl)
        · exact .inr (.inr rfl)
theorem stepL_n : ∀ l : List Tm, (stepL l).2 = 0 ∨ (stepL l).2 = 1 ∨ (stepL l).2 = 2
  | [] => .inl rfl
  | t :: l => by
    rw [stepL]
    split
    · exact stepL_n l
    · exact stepF_n t
end
theorem stepF_leaf {t : Tm} (ho : okB t = true) (h5 : t.k ≠ 5) (h6 : t.k ≠ 6) : stepF t = (t, 0) := by
  obtain ⟨k, s, n, l⟩ := t
  have : l = [] := okB0 ho h5 h6
  subst this
  rw [stepF, if_neg (by simp only [redexB, Tm.k, Bool.and_eq_true, beq_iff_eq]; exact fun e => h6 e.1)]
  rfl
/-- The head of what is no redex has no step. -/
theorem stepF_hd {k n : Int} {s : List UInt8} {x : Tm} {l : List Tm} (ho : okB (.mk k s n (x :: l)) = true) (hr : redexB (.mk k s n (x :: l)) = false) (hk : k = 6) : stepF x = (x, 0) := by
  obtain ⟨y, z, r, e, h6, hl⟩ := okB6 ho hk
  injection e with e1 e2
  subst e1
  subst hk
  simp only [okL, Bool.and_eq_true] at hl
  refine stepF_leaf hl.1 (fun e => ?_) h6
  have : redexB (.mk 6 s n (x :: l)) = true := by simp only [redexB, Tm.k, Tm.l, hd, List.headD_cons, Bool.and_eq_true, beq_iff_eq]; exact ⟨trivial, e⟩
  rw [hr] at this; cases this
abbrev aSt (u : Tm) (n : Int) : TV := .tup [(true, cT u), (false, [.a (.fz (.bool (n != 0)))]), (false, [.a (.fz (.int .i64 (if n = 2 then 80 else 0)))])]
theorem leSt {k n e : Int} {b : Bool} {s : List UInt8} {x : FV} {l : List Tm} (h : FV.Le x (.sl false 4 (FTs l))) : TV.Le (.tup [(true, [.a (.fz (.int .i64 k)), .a (.fz (.str s)), .a (.fz (.int .i64 n)), .a (.fz x)]), (false, [.a (.fz (.bool b))]), (false, [.a (.fz (.int .i64 e))])]) (.tup [(true, cT (.mk k s n l)), (false, [.a (.fz (.bool b))]), (false, [.a (.fz (.int .i64 e))])]) := by
  refine .tup _ _ rfl fun i p q hp hq => ?_
  match i, hp, hq with
  | 0, hp, hq =>
    simp only [List.getElem?_cons_zero, Option.some.injEq] at hp hq
    subst hp; subst hq
    refine ⟨rfl, rfl, fun j x y hx hy => ?_⟩
    match j, hx, hy with
    | 0, hx, hy => simp at hx hy; subst hx; subst hy; exact .refl _
    | 1, hx, hy => simp at hx hy; subst hx; subst hy; exact .refl _
    | 2, hx, hy => simp at hx hy; subst hx; subst hy; exact .refl _
    | 3, hx, hy => simp at hx hy; subst hx; subst hy; exact .a _ _ (.fz _ _ h)
    | j + 4, hx, _ => simp at hx
  | 1, hp, hq =>
    simp only [List.getElem?_cons_zero, List.getElem?_cons_succ, Option.some.injEq] at hp hq
    subst hp; subst hq
    exact ⟨rfl, rfl, fun j x y hx hy => by rw [hx] at hy; injection hy with hy; subst hy; exact .refl _⟩
  | 2, hp, hq =>
    simp only [List.getElem?_cons_zero, List.getElem?_cons_succ, Option.some.injEq] at hp hq
    subst hp; subst hq
    exact ⟨rfl, rfl, fun j x y hx hy => by rw [hx] at hy; injection hy with hy; subst hy; exact .refl _⟩
  | i + 3, hp, _ => simp at hp
theorem el0 (x : Tm) (l : List Tm) : FV.isSl 4 (.sl false 4 (FTs (x :: l))) = true ∧ ((0 : Int) ≤ 0 ∧ ((0 : Int) < (((FTs (x :: l)).length : Nat) : Int) ∧ (rE (List.getD (FTs (x :: l)) 0 []) : List FV) = List.getD (FTs (x :: l)) 0 [])) := ⟨rfl, Int.le_refl _, by rw [lenI]; simp only [List.length_cons]; omega, rE_FT x⟩
theorem el1 (x y : Tm) (l : List Tm) : FV.isSl 4 (.sl false 4 (FTs (x :: y :: l))) = true ∧ ((0 : Int) ≤ 1 ∧ ((1 : Int) < (((FTs (x :: y :: l)).length : Nat) : Int) ∧ (rE (List.getD (FTs (x :: y :: l)) 1 []) : List FV) = List.getD (FTs (x :: y :: l)) 1 [])) := ⟨rfl, by omega, by rw [lenI]; simp only [List.length_cons]; omega, rE_FT y⟩
theorem set_mid (a : List Tm) (t : Tm) (b : List Tm) (u : Tm) : List.set (FTs (a ++ t :: b)) (0 + Int.toNat (a.length : Int)) (FT4 u) = FTs (a ++ u :: b) := by
  rw [Nat.zero_add, toNat_len, FT4_eq, FTs_set]
  congr 1
  simp
theorem l_step (k : Int) (s : List UInt8) (n : Int) (l0 : List Tm) (hr : redexB (.mk k s n l0) = false) (ho : okB (.mk k s n l0) = true) : ∀ (b a : List Tm), a ++ b = l0 → (∀ u ∈ b, AC Try.prog 80 [aT u] [] (aSt (stepF u).1 (stepF u).2) []) → l0.length ≤ SZ → stepL l0 = (a ++ (stepL b).1, (stepL b).2) → (∀ u ∈ a, (stepF u).2 = 0) →
    RPt Try.prog 80 0 (aSt (stepF (.mk k s n l0)).1 (stepF (.mk k s n l0)).2) [] 1 ⟨[(1, .c (.a (.ep 0 4 0 0))), (2, .c (.a (.ep 1 4 0 0))), (40, aL l0), (41, ci (((FTs l0).length : Nat) : Int)), (42, ci a.length)], [(0, .arr 4 [fzs (FT (.mk k s n l0))]), (1, .arr 4 [zT])], 2⟩
  | [], a, hab, _, hl, hs, ha => by
    rw [List.append_nil] at hab; subst hab
    refine RPt.vc hP sh lv80 (Eq.mpr (v80_1a ..) ?_)
    refine br_of (fun h => absurd (of_decide_eq_true h) (by rw [lenI]; omega)) (fun _ => ?_)
    rw [show stepF (.mk k s n a) = (.mk k s n a, 0) by rw [stepF, if_neg (by rw [hr]; simp), hs]; simp [stepL]]
    exact ⟨.refl _, rfl⟩
  | t :: b, a, hab, ih, hl, hs, ha => by
    have hl' := hl
    subst hab
    simp only [List.length_append, List.length_cons, SZ] at hl'
    have h1 := ih t List.mem_cons_self
    have h3 := ltI' a t b
    have hcl := c_clone.1 (FTs (a ++ t :: b)) (by rw [FTs_map]; simp) (by rw [FTs_length]; simp only [SZ, B] at *; omega)
    refine RPt.vc hP sh lv80 (Eq.mpr (v80_1a ..) ?_)
    rw [aE_mid, w64 (x := (a.length : Int) + 1) (by omega) (by omega)]
    have hF : stepF (.mk k s n (a ++ t :: b)) = (if (stepL (a ++ t :: b)).2 = 0 then (.mk k s n (a ++ t :: b), 0) else if (stepL (a ++ t :: b)).2 = 1 then (.mk k [] 0 (stepL (a ++ t :: b)).1, 1) else (noT, 2)) := by rw [stepF, if_neg (by rw [hr]; simp)]
    refine br_of (fun _ => ⟨⟨rfl, by omega, h3, rE_mid ..⟩, (_, _, _), h1, br_of (fun h => ?_) (fun h => br_of (fun h' => ?_) (fun h' => .inr ⟨_, hcl, ?_⟩))⟩) (fun h => absurd h3 (of_decide_eq_false h))
    · have h : (((if (stepF t).2 = 2 then 80 else 0 : Int)) != 0) = true := h
      have h2 : (stepF t).2 = 2 := by
        by_cases q : (stepF t).2 = 2
        · exact q
        · rw [if_neg q] at h; cases h
      have hs2 : stepL (a ++ t :: b) = (a ++ ((stepF t).1 :: b), 2) := by rw [hs, stepL, if_neg (by rw [h2]; omega), h2]
      rw [hF, hs2, if_neg (by omega), if_neg (by omega)]
      show TV.Le (.tup [(true, zT), (false, [.a (.fz (.bool true))]), (false, [.a (.fz (.int .i64 (if (stepF t).2 = 2 then 80 else 0)))])]) _ ∧ _
      rw [if_pos h2]
      exact ⟨leSt (l := []) leNil, rfl⟩
    · have h2 : (stepF t).2 = 0 := by
        have h' : (!((stepF t).2 != 0)) = true := h'
        simpa using h'
      have hs2 : stepL (a ++ t :: b) = ((a ++ [t]) ++ (stepL b).1, (stepL b).2) := by rw [hs, stepL, if_pos h2]; simp
      have := l_step k s n _ hr ho b (a ++ [t]) (by simp) (fun u hu => ih u (List.mem_cons_of_mem _ hu)) hl hs2 (fun u hu => by
        rcases List.mem_append.1 hu with hu | hu
        · exact ha u hu
        · rw [List.mem_singleton.1 hu]; exact h2)
      rw [nx] at this
      exact this
    · have h2 : (stepF t).2 = 1 := by
        have h : (((if (stepF t).2 = 2 then 80 else 0 : Int)) != 0) = false := h
        have h' : (!((stepF t).2 != 0)) = false := h'
        rcases stepF_n t with q | q | q
        · rw [q] at h'; cases h'
        · exact q
        · rw [q] at h; cases h
      have hs2 : stepL (a ++ t :: b) = (a ++ ((stepF t).1 :: b), 1) := by rw [hs, stepL, if_neg (by rw [h2]; omega), h2]
      have hE : List.take (FTs (a ++ t :: b)).length (List.drop 0 (FTs (a ++ (stepF t).1 :: b))) = FTs (a ++ (stepF t).1 :: b) := by
        rw [List.drop_zero, List.take_of_length_le (by rw [FTs_length, FTs_length]; simp)]
      have len4 : (List.getD (FTs (a ++ t :: b)) (0 + Int.toNat (a.length : Int)) []).length = 4 := by rw [Nat.zero_add, midI]; exact FT_length t
      rw [set_mid, hE, hF, hs2, if_neg (by omega), if_pos rfl]
      refine ⟨⟨by omega, h3⟩, ⟨by rw [Nat.zero_add, toNat_len]; omega, len4⟩, br_of (fun h6 => br_of (fun h0 => ?_) (fun h0 => ⟨⟨rfl, by rw [FTs_length, FTs_length]; simp⟩, leSt leSl, rfl⟩)) (fun h6 => ⟨⟨rfl, by rw [FTs_length, FTs_length]; simp⟩, leSt leSl, rfl⟩)⟩
      have h0 : ((a.length : Int) == 0) = true := h0
      have : a = [] := List.eq_nil_of_length_eq_zero (by simpa using h0)
      subst this
      have := stepF_hd ho hr (by simpa using h6)
      rw [this] at h2; cases h2
theorem c_step : ∀ t : Tm, t.sz ≤ SZ → okB t = true → bd M61 t → AC Try.prog 80 [aT t] [] (aSt (stepF t).1 (stepF t).2) [] := by
  refine Tm.ind fun t ih hs ho hb => ?_
  have hr := c_redex t (ok_ne ho)
  have hlen := Tm.szs_length t.l
  have hsz := t.sz_eq
  by_cases q : redexB t = true
  · obtain ⟨s, n, s1, n1, body, arg, rest, rfl, ob, oa, orr⟩ := redex_shape ho q
    simp only [Tm.sz, Tm.szs, Tm.l, List.length_cons, SZ] at hs hlen
    have hc := c_bcontr body arg ob oa (by simp only [SZ]; omega) (by simp only [SZ]; omega) hb.2.1.2.1 hb.2.2.1
    have hap := fun h => c_apply (suT 0 arg body 0) rest (h : _ < 2199023255552)
    refine AC.vc hP sh lv80 (Nat.le_refl _) (by simp) (by simp) (Eq.mpr (v80 6 s n (FTs (.mk 5 s1 n1 [body] :: arg :: rest)) _ _) ?_)
    rw [show aE (List.getD (FV.ses (List.getD (List.getD (FTs (.mk 5 s1 n1 [body] :: arg :: rest)) 0 []) 3 FV.nils)) 0 []) = aT body from aE_FT body, show aE (List.getD (FTs (.mk 5 s1 n1 [body] :: arg :: rest)) 1 []) = aT arg from aE_FT arg]
    have hF : stepF (.mk 6 s n (.mk 5 s1 n1 [body] :: arg :: rest)) = if roomT body arg = true then (applyF (suT 0 arg body 0) rest, 1) else (noT, 2) := by rw [stepF, if_pos q]; rfl
    rw [hF]
    refine ⟨_, hr, br_of (fun _ => ⟨el0 _ _, el0 body [], el1 _ _ _, (_, _), hc, br_of (fun h => ?_) (fun h => ⟨rfl, ⟨by omega, by rw [lenI]; simp only [List.length_cons]; omega, Int.le_refl _⟩, ?_⟩)⟩) (fun h => absurd q (by rw [h]; simp))⟩
    · have h : (conE body arg != 0) = true := h
      have h2 : ¬ roomT body arg = true := fun e => by rw [conE, if_pos e] at h; cases h
      show TV.Le (.tup [(true, zT), (false, [.a (.fz (.bool true))]), (false, [.a (.fz (.int .i64 (conE body arg)))])]) _ ∧ _
      rw [if_neg h2, conE, if_neg h2]
      exact ⟨leSt (l := []) leNil, rfl⟩
    · have h : (conE body arg != 0) = false := h
      have h2 : roomT body arg = true := by
        by_cases e : roomT body arg = true
        · exact e
        · rw [conE, if_neg e] at h; cases h
      have hz := suT_sz 0 arg body 0
      have h5 := (room_sz ob oa h2 (by simp only [SZ]; omega)).1
      have h6 := Tm.szs_length (suT 0 arg body 0).l
      have h7 := (suT 0 arg body 0).sz_eq
      simp only [B] at h5
      rw [if_pos h2]
      have e : List.drop 2 (List.take (Int.toNat (((FTs (.mk 5 s1 n1 [body] :: arg :: rest)).length : Nat) : Int)) (FTs (.mk 5 s1 n1 [body] :: arg :: rest))) = FTs rest := by
        rw [Int.toNat_natCast, List.take_of_length_le (Nat.le_refl _)]; rfl
      rw [e]
      refine ⟨_, ?_, .refl _, rfl⟩
      show AC _ _ [aT (conF body arg), _] _ _ _
      rw [conF, if_pos h2]; exact hap (by omega)
  · have q : redexB t = false := by simpa using q
    have hol := okB_l ho
    obtain ⟨k, s, n, l⟩ := t
    simp only [Tm.sz, Tm.l, SZ] at hs hlen hol
    have loop := l_step k s n l q ho l [] rfl (fun u hu => ih u hu (by have := Tm.szs_mem hu; simp only [SZ]; omega) (okL_mem hol hu) (bds_mem hb.2 hu)) (by simp only [SZ]; omega) (by simp) (fun u hu => by cases hu)
    refine AC.vc hP sh lv80 (Nat.le_refl _) (by simp) (by simp) (Eq.mpr (v80 k s n (FTs l) _ _) ?_)
    exact ⟨_, hr, br_of (fun h => absurd h (by rw [q]; simp)) (fun _ => ⟨rfl, loop⟩)⟩
theorem c_bStep (t : Tm) (hs : t.sz ≤ SZ) (hb : bd M61 t) : AC Try.prog 33 [aT t] [] (if validB t = true then aSt (stepF t).1 (stepF t).2 else .tup [(true, cT noT), (false, [.a (.fz (.bool false))]), (false, [.a (.fz (.int .i64 1))])]) [] := by
  have h1 := c_valid t (by simp only [SZ, B] at *; omega)
  have h2 := fun h => c_step t hs (valid_ok t h) hb
  obtain ⟨k, s, n, l⟩ := t
  refine AC.vc hP sh lv33 (Nat.le_refl _) (by simp) (by simp) (Eq.mpr (v33 k s n (FTs l) _ _) ?_)
  refine ⟨_, h1, br_of (fun h => ?_) (fun h => ?_)⟩
  · rw [if_neg (by rw [show validB (.mk k s n l) = false by simpa using h]; simp)]
    exact ⟨leSt (l := []) leNil, rfl⟩
  · have e : validB (.mk k s n l) = true := by simpa using h
    rw [if_pos e]
    exact ⟨(_, _, _), h2 e, .refl _, rfl⟩
theorem leTB {k n : Int} {b : Bool} {s : List UInt8} {x : FV} {l : List Tm} (h : FV.Le x (.sl false 4 (FTs l))) : TV.Le (.tup [(true, [.a (.fz (.int .i64 k)), .a (.fz (.str s)), .a (.fz (.int .i64 n)), .a (.fz x)]), (false, [.a (.fz (.bool b))])]) (.tup [(true, cT (.mk k s n l)), (false, [.a (.fz (.bool b))])]) := by
  refine .tup _ _ rfl fun i p q hp hq => ?_
  match i, hp, hq with
  | 0, hp, hq =>
    simp only [List.getElem?_cons_zero, Option.some.injEq] at hp hq
    subst hp; subst hq
    refine ⟨rfl, rfl, fun j x y hx hy => ?_⟩
    match j, hx, hy with
    | 0, hx, hy => simp at hx hy; subst hx; subst hy; exact .refl _
    | 1, hx, hy => simp at hx hy; subst hx; subst hy; exact .refl _
    | 2, hx, hy => simp at hx hy; subst hx; subst hy; exact .refl _
    | 3, hx, hy => simp at hx hy; subst hx; subst hy; exact .a _ _ (.fz _ _ h)
    | j + 4, hx, _ => simp at hx
  | 1, hp, hq =>
    simp only [List.getElem?_cons_zero, List.getElem?_cons_succ, Option.some.injEq] at hp hq
    subst hp; subst hq
    exact ⟨rfl, rfl, fun j x y hx hy => by rw [hx] at hy; injection hy with hy; subst hy; exact .refl _⟩
  | i + 2, hp, _ => simp at hp
/-! The document's. -/
theorem c_rcontract (s : List UInt8) (n : Int) (s1 : List UInt8) (n1 : Int) (body arg : Tm) (rest : List Tm) (ob : okB body = true) (oa : okB arg = true) (hb : body.sz ≤ SZ) (ha : arg.sz ≤ SZ) (hrs : rest.length ≤ SZ) (db : bd M61 body) (da : bd M61 arg) :
    AC Try.prog 86 [aT (.mk 6 s n (.mk 5 s1 n1 [body] :: arg :: rest))] [] (.tup [(true, cT (if roomT body arg = true then applyF (suT 0 arg body 0) rest else noT)), (false, [.a (.fz (.bool (roomT body arg)))])]) [] := by
  have h1 := c_rfits body arg hb ha
  have h2 := fun hr => c_rSubst body arg 0 (by simp only [SZ, B] at *; omega) (room_sz ob oa hr ha).1 db da (Int.le_refl _) (by simp only [M61]; omega)
  refine AC.vc hP sh lv86 (Nat.le_refl _) (by simp) (by simp) (Eq.mpr (v86 6 s n (FTs (.mk 5 s1 n1 [body] :: arg :: rest)) _ _) ?_)
  rw [show aE (List.getD (FV.ses (List.getD (List.getD (FTs (.mk 5 s1 n1 [body] :: arg :: rest)) 0 []) 3 FV.nils)) 0 []) = aT body from aE_FT body, show aE (List.getD (FTs (.mk 5 s1 n1 [body] :: arg :: rest)) 1 []) = aT arg from aE_FT arg]
  refine ⟨el0 _ _, el0 body [], el1 _ _ _, _, h1, br_of (fun h => ?_) (fun h => ⟨el1 _ _ _, _, h2 (by simpa using h), rfl, ⟨by omega, by rw [lenI]; simp only [List.length_cons]; omega, Int.le_refl _⟩, ?_⟩)⟩
  · have h : roomT body arg = false := by simpa using h
    rw [h]
    exact ⟨leTB (l := []) leNil, rfl⟩
  · have h : roomT body arg = true := by simpa using h
    have hz := suT_sz 0 arg body 0
    have h5 := (room_sz ob oa h ha).1
    have h6 := Tm.szs_length (suT 0 arg body 0).l
    have h7 := (suT 0 arg body 0).sz_eq
    simp only [B, SZ] at h5 hrs
    have hap := c_rapply (suT 0 arg body 0) rest (by omega)
    have e : List.drop 2 (List.take (Int.toNat (((FTs (.mk 5 s1 n1 [body] :: arg :: rest)).length : Nat) : Int)) (FTs (.mk 5 s1 n1 [body] :: arg :: rest))) = FTs rest := by
      rw [Int.toNat_natCast, List.take_of_length_le (Nat.le_refl _)]; rfl
    rw [e, h, if_pos rfl]
    exact ⟨_, hap, .refl _, rfl⟩
theorem c_rput (k : Int) (s : List UInt8) (n : Int) (a : List Tm) (t : Tm) (b : List Tm) (u : Tm) (hl : (a ++ t :: b).length ≤ SZ) (h : ¬ (k = 6 ∧ a = [])) : AC Try.prog 87 [aT (.mk k s n (a ++ t :: b)), ci a.length, aT u] [] (aT (.mk k [] 0 (a ++ u :: b))) [] := by
  have h3 := ltI' a t b
  simp only [SZ, List.length_append, List.length_cons] at hl
  obtain ⟨uk, us, un, ul⟩ := u
  refine AC.vc hP sh lv87 (Nat.le_refl _) (by simp) (by simp) (Eq.mpr (v87 k s n (FTs (a ++ t :: b)) a.length uk us un (FTs ul) _ _) ?_)
  have hE : List.take (FTs (a ++ t :: b)).length (List.drop 0 (FTs (a ++ .mk uk us un ul :: b))) = FTs (a ++ .mk uk us un ul :: b) := by
    rw [List.drop_zero, List.take_of_length_le (by rw [FTs_length, FTs_length]; simp)]
  have len4 : (List.getD (FTs (a ++ t :: b)) (0 + Int.toNat (a.length : Int)) []).length = 4 := by rw [Nat.zero_add, midI]; exact FT_length t
  have hst := set_mid a t b (.mk uk us un ul)
  rw [show List.set (FTs (a ++ t :: b)) (0 + Int.toNat (a.length : Int)) [.int .i64 uk, .str us, .int .i64 un, .sl false 4 (FTs ul)] = FTs (a ++ .mk uk us un ul :: b) from hst, hE]
  refine ⟨rfl, br_of (fun e => ?_) (fun _ => ⟨by rw [FTs_length]; exact roomI (by simp; omega), ⟨by omega, h3⟩, ⟨by rw [Nat.zero_add, toNat_len]; omega, len4⟩, br_of (fun h6 => br_of (fun h0 => ?_) (fun h0 => ⟨⟨rfl, by rw [FTs_length, FTs_length]; simp⟩, leT leSl, rfl⟩)) (fun h6 => ⟨⟨rfl, by rw [FTs_length, FTs_length]; simp⟩, leT leSl, rfl⟩)⟩)⟩
  · rw [FTs_map] at e; simp at e
  · have h0 : ((a.length : Int) == 0) = true := h0
    have : a = [] := List.eq_nil_of_length_eq_zero (by simpa using h0)
    exact absurd ⟨by simpa using h6, this⟩ h
theorem not_t {b : Bool} (h : (!b) = true) : b = false := by cases b <;> simp_all
theorem not_f {b : Bool} (h : (!b) = false) : b = true := by cases b <;> simp_all
abbrev aRs (u : Tm) (n : Int) : TV := .tup [(true, cT u), (false, [.a (.fz (.int .i64 n))])]
theorem l_rstep (k : Int) (s : List UInt8) (n : Int) (l0 : List Tm) (hr : redexB (.mk k s n l0) = false) (ho : okB (.mk k s n l0) = true) : ∀ (b a : List Tm), a ++ b = l0 → (∀ u ∈ b, AC Try.prog 39 [aT u, cb false] [] (aRs (stepF u).1 (stepF u).2) []) → l0.length ≤ SZ → stepL l0 = (a ++ (stepL b).1, (stepL b).2) →
    RPt Try.prog 39 0 (aRs (stepF (.mk k s n l0)).1 (stepF (.mk k s n l0)).2) [] 1 ⟨[(1, cb false), (2, .c (.a (.ep 0 4 0 0))), (4, .c (.a (.ep 1 4 0 0))), (8, ci a.length)], [(0, .arr 4 [fzs (FT (.mk k s n l0))]), (1, .arr 4 [zT])], 2⟩
  | [], a, hab, _, hl, hs => by
    rw [List.append_nil] at hab; subst hab
    refine RPt.vc hP sh lv39 (Eq.mpr (v39_1a ..) ?_)
    refine ⟨rfl, br_of (fun h => absurd (of_decide_eq_true h) (by rw [lenI]; omega)) (fun _ => ?_)⟩
    rw [show stepF (.mk k s n a) = (.mk k s n a, 0) by rw [stepF, if_neg (by rw [hr]; simp), hs]; simp [stepL]]
    exact ⟨.refl _, rfl⟩
  | t :: b, a, hab, ih, hl, hs => by
    have hl' := hl
    subst hab
    simp only [List.length_append, List.length_cons, SZ] at hl'
    have h1 := ih t List.mem_cons_self
    have h3 := ltI' a t b
    refine RPt.vc hP sh lv39 (Eq.mpr (v39_1a ..) ?_)
    rw [aE_mid, w64 (x := (a.length : Int) + 1) (by omega) (by omega)]
    have hF : stepF (.mk k s n (a ++ t :: b)) = (if (stepL (a ++ t :: b)).2 = 0 then (.mk k s n (a ++ t :: b), 0) else if (stepL (a ++ t :: b)).2 = 1 then (.mk k [] 0 (stepL (a ++ t :: b)).1, 1) else (noT, 2)) := by rw [stepF, if_neg (by rw [hr]; simp)]
    refine ⟨rfl, br_of (fun _ => ⟨⟨rfl, by omega, h3, rE_mid ..⟩, (_, _), h1, br_of (fun h => ?_) (fun h => br_of (fun h' => ?_) (fun h' => ?_))⟩) (fun h => absurd h3 (of_decide_eq_false h))⟩
    · have h : ((stepF t).2 == 2) = true := h
      have h2 : (stepF t).2 = 2 := by simpa using h
      have hs2 : stepL (a ++ t :: b) = (a ++ ((stepF t).1 :: b), 2) := by rw [hs, stepL, if_neg (by rw [h2]; omega), h2]
      rw [hF, hs2, if_neg (by omega), if_neg (by omega)]
      exact ⟨leTE (l := []) leNil, rfl⟩
    · have h' : ((stepF t).2 == 1) = true := h'
      have h2 : (stepF t).2 = 1 := by simpa using h'
      have hs2 : stepL (a ++ t :: b) = (a ++ ((stepF t).1 :: b), 1) := by rw [hs, stepL, if_neg (by rw [h2]; omega), h2]
      have hp := c_rput k s n a t b (stepF t).1 hl (by
        rintro ⟨h6, rfl⟩
        have := stepF_hd ho hr h6
        rw [this] at h2; cases h2)
      rw [hF, hs2, if_neg (by omega), if_pos rfl]
      exact ⟨_, hp, .refl _, rfl⟩
    · have h2 : (stepF t).2 = 0 := by
        have h : ((stepF t).2 == 2) = false := h
        have h' : ((stepF t).2 == 1) = false := h'
        rcases stepF_n t with q | q | q
        · exact q
        · rw [q] at h'; cases h'
        · rw [q] at h; cases h
      have hs2 : stepL (a ++ t :: b) = ((a ++ [t]) ++ (stepL b).1, (stepL b).2) := by rw [hs, stepL, if_pos h2]; simp
      have := l_rstep k s n _ hr ho b (a ++ [t]) (by simp) (fun u hu => ih u (List.mem_cons_of_mem _ hu)) hl hs2
      rw [nx] at this
      exact this
theorem c_rStep : ∀ t : Tm, t.sz ≤ SZ → okB t = true → bd M61 t → AC Try.prog 39 [aT t, cb false] [] (aRs (stepF t).1 (stepF t).2) [] := by
  refine Tm.ind fun t ih hs ho hb => ?_
  have hr := c_rredex t (ok_ne ho)
  have hlen := Tm.szs_length t.l
  have hsz := t.sz_eq
  by_cases q : redexB t = true
  · obtain ⟨s, n, s1, n1, body, arg, rest, rfl, ob, oa, orr⟩ := redex_shape ho q
    simp only [Tm.sz, Tm.szs, Tm.l, List.length_cons, SZ] at hs hlen
    have hc := c_rcontract s n s1 n1 body arg rest ob oa (by simp only [SZ]; omega) (by simp only [SZ]; omega) (by simp only [SZ]; omega) hb.2.1.2.1 hb.2.2.1
    refine AC.vc hP sh lv39 (Nat.le_refl _) (by simp) (by simp) (Eq.mpr (v39 6 s n (FTs (.mk 5 s1 n1 [body] :: arg :: rest)) false _ _) ?_)
    have hF : stepF (.mk 6 s n (.mk 5 s1 n1 [body] :: arg :: rest)) = if roomT body arg = true then (applyF (suT 0 arg body 0) rest, 1) else (noT, 2) := by rw [stepF, if_pos q]; rfl
    rw [hF]
    refine ⟨_, hr, br_of (fun _ => ⟨(_, _), hc, br_of (fun h => ?_) (fun h => ?_)⟩) (fun h => absurd q (by rw [h]; simp))⟩
    · have h : roomT body arg = false := not_t h
      rw [h]
      exact ⟨leTE (l := []) leNil, rfl⟩
    · have h : roomT body arg = true := not_f h
      rw [h]
      exact ⟨.refl _, rfl⟩
  · have q : redexB t = false := by simpa using q
    have hol := okB_l ho
    obtain ⟨k, s, n, l⟩ := t
    simp only [Tm.sz, Tm.l, SZ] at hs hlen hol
    have loop := l_rstep k s n l q ho l [] rfl (fun u hu => ih u hu (by have := Tm.szs_mem hu; simp only [SZ]; omega) (okL_mem hol hu) (bds_mem hb.2 hu)) (by simp only [SZ]; omega) (by simp)
    refine AC.vc hP sh lv39 (Nat.le_refl _) (by simp) (by simp) (Eq.mpr (v39 k s n (FTs l) false _ _) ?_)
    exact ⟨_, hr, br_of (fun h => absurd h (by rw [q]; simp)) (fun _ => br_of (fun h => by cases h) (fun _ => loop))⟩
end Go.AM

set_option maxRecDepth 100000
open Go Go.Proofs
namespace Go.AM
/-! ### What steps make: kinds, sizes, numbers -/
theorem applyF_ok {f : Tm} {args : List Tm} (hf : okB f = true) (ha : okL args = true) : okB (applyF f args) = true := by
  match args, ha with
  | [], _ => exact hf
  | a :: r, ha =>
    obtain ⟨k, s, n, l⟩ := f
    rw [apply_some]
    split
    · rename_i h
      have hk : k = 6 := by simpa using h.1
      obtain ⟨x, y, r', rfl, h6, hl⟩ := okB6 hf hk
      have hall : okL ((x :: y :: r') ++ a :: r) = true := okL_of fun t ht => by
        rcases List.mem_append.1 ht with ht | ht
        · exact okL_mem hl ht
        · exact okL_mem ha ht
      have h6' : (x.k != 6) = true := by simpa using h6
      rw [okB, hall]
      simp [hd, h6]
    · rename_i h
      have h6 : k ≠ 6 := fun e => h ⟨by simpa using e, ok_ne hf e⟩
      have hall : okL (.mk k s n l :: a :: r) = true := by simp only [okL, Bool.and_eq_true] at ha ⊢; exact ⟨hf, ha⟩
      rw [okB, hall]
      simp [hd, Tm.k, h6]
theorem withF_ok {k n : Int} {s : List UInt8} {l o : List Tm} (h : okB (.mk k s n l) = true) (hk : k = 5 ∨ k = 6) (ho : okL o = true) (hlen : o.length = l.length) : okB (withF (.mk k s n l) o) = true := by
  obtain ⟨rfl, rfl⟩ := okB_sn h hk
  unfold withF
  split
  · rename_i hc
    match o, ho, hc with
    | [], _, hc => simp at hc
    | x :: r, ho, hc =>
      simp only [okL, Bool.and_eq_true] at ho
      exact applyF_ok ho.1 ho.2
  · rename_i hc
    show okB (.mk k [] 0 o) = true
    rcases hk with rfl | rfl
    · obtain ⟨x, rfl, _⟩ := okB5 h rfl
      rw [okB, ho]; simp only [List.length_cons, List.length_nil] at hlen; simp [hlen]
    · obtain ⟨x, y, r, rfl, h6, _⟩ := okB6 h rfl
      have h1 : ¬ (hd o).k = 6 := fun e => hc ⟨rfl, by rw [hlen]; simp, by simpa [hd] using e, show (x.k != 6) = true by simpa using h6⟩
      rw [okB, ho]; simp only [List.length_cons] at hlen; simp [hlen, h1]
mutual
theorem walkF_ok (lf : Tm → Int → Tm) (h : ∀ u d, okB u = true → u.k ≠ 5 → u.k ≠ 6 → okB (lf u d) = true) : ∀ (t : Tm) (d : Int), okB t = true → okB (walkF lf t d) = true
  | .mk k s n l, d, ho => by
    rw [walkF]
    split
    · rename_i hk
      exact withF_ok ho (by simpa using hk) (walkL_ok lf h l _ (okB_l ho)) (walkL_length ..)
    · rename_i hk
      exact h _ _ ho (fun e => hk (by simp [show k = 5 from e])) (fun e => hk (by simp [show k = 6 from e]))
theorem walkL_ok (lf : Tm → Int → Tm) (h : ∀ u d, okB u = true → u.k ≠ 5 → u.k ≠ 6 → okB (lf u d) = true) : ∀ (l : List Tm) (d : Int), okL l = true → okL (walkL lf l d) = true
  | [], _, _ => rfl
  | t :: l, d, ho => by
    simp only [okL, Bool.and_eq_true] at ho
    simp only [walkL, okL, walkF_ok lf h t d ho.1, walkL_ok lf h l d ho.2, Bool.and_self]
end
theorem okB_leaf {k n m : Int} {s : List UInt8} {l : List Tm} (h : okB (.mk k s n l) = true) (h5 : k ≠ 5) (h6 : k ≠ 6) : okB (.mk k s m l) = true := by
  have : l = [] := okB0 h h5 h6
  subst this
  simp [okB, h5, h6, okL]
theorem shT_ok {fr by_ : Int} {t : Tm} (d : Int) (h : okB t = true) : okB (shT fr by_ t d) = true := by
  refine walkF_ok _ (fun u d hu h5 h6 => ?_) t d h
  unfold shLeaf
  split
  · obtain ⟨k, s, n, l⟩ := u; exact okB_leaf hu h5 h6
  · exact hu
theorem suT_ok {i : Int} {s t : Tm} (d : Int) (hs : okB s = true) (h : okB t = true) : okB (suT i s t d) = true := by
  refine walkF_ok _ (fun u d hu h5 h6 => ?_) t d h
  unfold suLeaf
  split
  · split
    · exact hu
    · split
      · exact shT_ok _ hs
      · obtain ⟨k, s, n, l⟩ := u; exact okB_leaf hu h5 h6
  · exact hu
mutual
theorem suT_occ (i : Int) (s : Tm) : ∀ (t : Tm) (d : Int), (suT i s t d).sz ≤ t.sz + occF t (d + i) * s.sz
  | .mk k s' n l, d => by
    rw [suT, walkF]
    split
    · rename_i hk
      have h1 := suT_occs i s l (d + if (k == 5) = true then 1 else 0)
      have h2 := withF_sz (.mk k s' n l) (walkL (suLeaf i s) l (d + if (k == 5) = true then 1 else 0))
      have h3 : occF (.mk k s' n l) (d + i) = occL l (d + (if (k == 5) = true then 1 else 0) + i) := by
        rw [occF, if_neg (by rintro ⟨e, _⟩; have : k = 3 := by simpa using e
                             subst this; simp at hk)]
        congr 1; omega
      rw [h3]
      simp only [Tm.sz]; omega
    · unfold suLeaf
      rw [occF]
      split
      · rename_i h3
        split
        · omega
        · split
          · rename_i h4
            have h5 := shT_sz 0 d s 0
            rw [if_pos ⟨h3, h4⟩]; omega
          · simp only [Tm.sz, Tm.l]; omega
      · omega
theorem suT_occs (i : Int) (s : Tm) : ∀ (l : List Tm) (d : Int), Tm.szs (walkL (suLeaf i s) l d) ≤ Tm.szs l + occL l (d + i) * s.sz
  | [], _ => by simp [walkL, Tm.szs]
  | t :: l, d => by
    have h1 := suT_occ i s t d
    have h2 := suT_occs i s l d
    have h1 : (walkF (suLeaf i s) t d).sz ≤ t.sz + occF t (d + i) * s.sz := h1
    simp only [walkL, Tm.szs, occL, Nat.add_mul]; omega
end
theorem stepL_app : ∀ (a b : List Tm), (∀ u ∈ a, (stepF u).2 = 0) → stepL (a ++ b) = (a ++ (stepL b).1, (stepL b).2)
  | [], b, _ => rfl
  | x :: a, b, h => by
    have := stepL_app a b fun u hu => h u (List.mem_cons_of_mem _ hu)
    rw [List.cons_append, stepL, if_pos (h x List.mem_cons_self), this]; rfl
theorem stepL_hit {t : Tm} (b : List Tm) (h : (stepF t).2 ≠ 0) : stepL (t :: b) = ((stepF t).1 :: b, (stepF t).2) := by rw [stepL, if_neg h]
theorem stepF_non {k n : Int} {s : List UInt8} {l : List Tm} (h : redexB (.mk k s n l) = false) : stepF (.mk k s n l) = (if (stepL l).2 = 0 then (.mk k s n l, 0) else if (stepL l).2 = 1 then (.mk k [] 0 (stepL l).1, 1) else (noT, 2)) := by rw [stepF, if_neg (by rw [h]; simp)]
mutual
theorem stepF_fit (M : Int) (hM : 0 ≤ M) : ∀ t : Tm, okB t = true → t.sz ≤ SZ → bd M t → (stepF t).2 = 1 → okB (stepF t).1 = true ∧ (stepF t).1.sz ≤ t.sz + 4200 ∧ bd (M + SZ) (stepF t).1
  | .mk k s n l, ho, hs, hb, h1 => by
    by_cases q : redexB (.mk k s n l) = true
    · obtain ⟨s', n', s1, n1, body, arg, rest, e, ob, oa, orr⟩ := redex_shape ho q
      injection e with e1 e2 e3 e4
      subst e1; subst e2; subst e3; subst e4
      have hF : stepF (.mk 6 s n (.mk 5 s1 n1 [body] :: arg :: rest)) = if roomT body arg = true then (applyF (suT 0 arg body 0) rest, 1) else (noT, 2) := by rw [stepF, if_pos q]; rfl
      rw [hF] at h1 ⊢
      by_cases hr : roomT body arg = true
      · simp only [Tm.sz, Tm.szs] at hs
        have h2 := (room_sz ob oa hr (by omega)).2
        have h3 := suT_occ 0 arg body 0
        have h4 := applyF_sz (suT 0 arg body 0) rest
        rw [Int.zero_add] at h3
        rw [if_pos hr]
        refine ⟨applyF_ok (suT_ok 0 oa ob) orr, by simp only [Tm.sz, Tm.szs]; omega, applyF_bd ?_ ?_⟩
        · exact suT_bd (M := M + SZ) (M' := M) (D := SZ) arg body 0 (bd_le (by omega) _ hb.2.1.2.1) hb.2.2.1 (Int.le_refl _) (Int.le_refl _) (by omega) (Int.le_refl _) (by omega)
        · exact bds_of fun u hu => bd_le (by omega) _ (bds_mem hb.2.2.2 hu)
      · rw [if_neg hr] at h1; cases h1
    · have q : redexB (.mk k s n l) = false := by simpa using q
      have hl := okB_l ho
      rw [stepF_non q] at h1 ⊢
      split at h1
      · cases h1
      split at h1
      · rename_i h0 h2
        rw [if_neg h0, if_pos h2]
        simp only [Tm.sz] at hs
        obtain ⟨g1, g2, g3, g4, g5⟩ := stepL_fit M hM l hl (by omega) hb.2 h2
        have hk : k = 5 ∨ k = 6 := by
          by_cases k5 : k = 5
          · exact .inl k5
          · by_cases k6 : k = 6
            · exact .inr k6
            · have : l = [] := okB0 ho k5 k6
              subst this
              exact absurd rfl h0
        refine ⟨?_, by simp only [Tm.sz]; omega, ⟨fun e => by omega, g4⟩⟩
        rcases hk with rfl | rfl
        · obtain ⟨x, rfl, _⟩ := okB5 ho rfl
          rw [okB, g1]; simp only [List.length_cons, List.length_nil] at g2; simp [g2]
        · obtain ⟨x, y, r, rfl, h6, _⟩ := okB6 ho rfl
          have hx := stepF_hd ho q rfl
          rw [okB, g1]; simp only [List.length_cons] at g2
          have : (hd (stepL (x :: y :: r)).1).k ≠ 6 := by rw [stepL, if_pos (by rw [hx])]; exact h6
          simp [g2, this]
      · cases h1
theorem stepL_fit (M : Int) (hM : 0 ≤ M) : ∀ l : List Tm, okL l = true → Tm.szs l ≤ SZ → bds M l → (stepL l).2 = 1 → okL (stepL l).1 = true ∧ (stepL l).1.length = l.length ∧ Tm.szs (stepL l).1 ≤ Tm.szs l + 4200 ∧ bds (M + SZ) (stepL l).1 ∧ True
  | [], _, _, _, h => by cases h
  | t :: l, ho, hs, hb, h => by
    simp only [okL, Bool.and_eq_true] at ho
    simp only [Tm.szs] at hs
    rw [stepL] at h ⊢
    split at h
    · rename_i h0
      rw [if_pos h0]
      obtain ⟨g1, g2, g3, g4, _⟩ := stepL_fit M hM l ho.2 (by omega) hb.2 h
      exact ⟨by simp only [okL, ho.1, g1, Bool.and_self], by simp [g2], by simp only [Tm.szs]; omega, ⟨bd_le (by omega) _ hb.1, g4⟩, trivial⟩
    · rename_i h0
      rw [if_neg h0]
      obtain ⟨g1, g2, g3⟩ := stepF_fit M hM t ho.1 (by omega) hb.1 h
      exact ⟨by simp only [okL, ho.2, g1, Bool.and_self], rfl, by simp only [Tm.szs]; omega, ⟨g3, bds_of fun u hu => bd_le (by omega) _ (bds_mem hb.2 hu)⟩, trivial⟩
end
/-! ### Step by step -/
def runS : Nat → Tm → Option (Tm × Nat)
  | 0, t => if (stepF t).2 = 0 then some (t, 0) else none
  | F + 1, t => if (stepF t).2 = 0 then some (t, F + 1) else if (stepF t).2 = 1 then runS F (stepF t).1 else none
def runL : Nat → List Tm → Option (List Tm × Nat)
  | F, [] => some ([], F)
  | F, t :: l => (runS F t).bind fun p => (runL p.2 l).map fun q => (p.1 :: q.1, q.2)
theorem runS_zero {F : Nat} {t : Tm} (h : (stepF t).2 = 0) : runS F t = some (t, F) := by
  cases F with
  | zero => rw [runS, if_pos h]
  | succ F => rw [runS, if_pos h]
theorem runS_end : ∀ {F : Nat} {t u : Tm} {G : Nat}, runS F t = some (u, G) → (stepF u).2 = 0 ∧ G ≤ F
  | 0, t, u, G, h => by
    rw [runS] at h
    split at h
    · rename_i h0; injection h with h; injection h with h1 h2; subst h1; subst h2; exact ⟨h0, Nat.le_refl _⟩
    · cases h
  | F + 1, t, u, G, h => by
    rw [runS] at h
    split at h
    · rename_i h0; injection h with h; injection h with h1 h2; subst h1; subst h2; exact ⟨h0, Nat.le_refl _⟩
    · split at h
      · have := runS_end h; exact ⟨this.1, by omega⟩
      · cases h
/-- How large what is run may become. -/
def Fit (F : Nat) (t : Tm) : Prop := okB t = true ∧ t.sz + 4200 * F ≤ SZ ∧ bd (M61 - SZ - SZ * F) t ∧ F ≤ 5000
theorem Fit.next {F : Nat} {t : Tm} (h : Fit (F + 1) t) (h1 : (stepF t).2 = 1) : Fit F (stepF t).1 := by
  obtain ⟨g1, g2, g3, g4⟩ := h
  have := stepF_fit (M61 - SZ - SZ * ((F + 1 : Nat) : Int)) (by simp only [M61, SZ]; omega) t g1 (by omega) g3 h1
  refine ⟨this.1, by have := this.2.1; omega, bd_le ?_ _ this.2.2, by omega⟩
  simp only [SZ]; omega
theorem Fit.mono {F G : Nat} {t : Tm} (h : Fit F t) (hg : G ≤ F) : Fit G t := ⟨h.1, by have := h.2.1; have := Nat.mul_le_mul_left 4200 hg; omega, bd_le (by simp only [SZ]; omega) _ h.2.2.1, by have := h.2.2.2; omega⟩
theorem Fit.kid {F : Nat} {t u : Tm} (h : Fit F t) (hu : u ∈ t.l) : Fit F u := by
  have h1 := Tm.szs_mem hu
  have h2 := t.sz_eq
  refine ⟨okL_mem (okB_l h.1) hu, by have := h.2.1; omega, ?_, h.2.2.2⟩
  obtain ⟨k, s, n, l⟩ := t
  exact bds_mem h.2.2.1.2 hu
theorem Fit.sz {F : Nat} {t : Tm} (h : Fit F t) : t.sz ≤ SZ := by have := h.2.1; omega
theorem Fit.bd {F : Nat} {t : Tm} (h : Fit F t) : bd M61 t := bd_le (by simp only [SZ]; omega) _ h.2.2.1
theorem Fit.ok {F : Nat} {t : Tm} (h : Fit F t) : okB t = true := h.1
theorem runS_fit : ∀ {F : Nat} {t u : Tm} {G : Nat}, Fit F t → runS F t = some (u, G) → Fit G u
  | 0, t, u, G, hf, h => by
    rw [runS] at h
    split at h
    · injection h with h; injection h with h1 h2; subst h1; subst h2; exact hf
    · cases h
  | F + 1, t, u, G, hf, h => by
    rw [runS] at h
    split at h
    · injection h with h; injection h with h1 h2; subst h1; subst h2; exact hf
    · split at h
      · rename_i h1; exact runS_fit (hf.next h1) h
      · cases h
/-- One of many goes on. -/
theorem run_mid (k : Int) (a b : List Tm) (hk : k ≠ 6 ∨ ∃ x a', a = x :: a' ∧ x.k ≠ 5) (ha : ∀ u ∈ a, (stepF u).2 = 0) : ∀ (F : Nat) (t : Tm), runS F (.mk k [] 0 (a ++ t :: b)) = (runS F t).bind fun p => runS p.2 (.mk k [] 0 (a ++ p.1 :: b)) := by
  have nr : ∀ t, redexB (.mk k [] 0 (a ++ t :: b)) = false := fun t => by
    rcases hk with hk | ⟨x, a', rfl, hx⟩
    · simp [redexB, Tm.k, hk]
    · simp [redexB, Tm.l, hd, hx]
  have st : ∀ t, (stepF t).2 = 1 → stepF (.mk k [] 0 (a ++ t :: b)) = (.mk k [] 0 (a ++ (stepF t).1 :: b), 1) := fun t h => by
    rw [stepF_non (nr t), stepL_app a _ ha, stepL_hit b (by omega), h]; simp
  have st2 : ∀ t, (stepF t).2 = 2 → (stepF (.mk k [] 0 (a ++ t :: b))).2 = 2 := fun t h => by
    rw [stepF_non (nr t), stepL_app a _ ha, stepL_hit b (by omega), h]; simp
  intro F
  induction F with
  | zero =>
    intro t
    rcases stepF_n t with h | h | h
    · rw [runS_zero h]; rfl
    · simp [runS, st t h, h]
    · simp [runS, st2 t h, h]
  | succ F ih =>
    intro t
    rcases stepF_n t with h | h | h
    · rw [runS_zero h]; rfl
    · rw [runS, st t h, if_neg (by simp), if_pos rfl, ih]
      conv => rhs; rw [runS, if_neg (by rw [h]; omega), if_pos h]
    · rw [runS, st2 t h, if_neg (by omega), if_neg (by omega)]
      conv => rhs; rw [runS, if_neg (by rw [h]; omega), if_neg (by rw [h]; omega)]
      rfl
theorem run_list (k : Int) : ∀ (b a : List Tm) (F : Nat), (k ≠ 6 ∨ ∃ x a', a = x :: a' ∧ x.k ≠ 5) → (∀ u ∈ a, (stepF u).2 = 0) → runS F (.mk k [] 0 (a ++ b)) = (runL F b).map fun q => (.mk k [] 0 (a ++ q.1), q.2)
  | [], a, F, hk, ha => by
    have nr : redexB (.mk k [] 0 a) = false := by
      rcases hk with hk | ⟨x, a', rfl, hx⟩
      · simp [redexB, Tm.k, hk]
      · simp [redexB, Tm.l, hd, hx]
    have h2 := stepL_app a [] ha
    rw [List.append_nil] at h2 ⊢
    have h0 : (stepF (.mk k [] 0 a)).2 = 0 := by rw [stepF_non nr, h2]; simp [stepL]
    rw [runS_zero h0, runL]; simp
  | t :: b, a, F, hk, ha => by
    rw [run_mid k a b hk ha F t, runL]
    cases h : runS F t with
    | none => rfl
    | some p =>
      have h0 := (runS_end h).1
      have := run_list k b (a ++ [p.1]) p.2 (hk.imp id fun ⟨x, a', e, hx⟩ => ⟨x, a' ++ [p.1], by rw [e]; rfl, hx⟩) (fun u hu => by
        rcases List.mem_append.1 hu with hu | hu
        · exact ha u hu
        · rw [List.mem_singleton.1 hu]; exact h0)
      rw [ap] at this
      simp only [Option.bind_some, this]
      cases runL p.2 b with
      | none => rfl
      | some q => simp
/-- What is no redex runs within. -/
theorem run_kids {k n : Int} {s : List UInt8} {l : List Tm} (ho : okB (.mk k s n l) = true) (hr : redexB (.mk k s n l) = false) (F : Nat) : runS F (.mk k s n l) = (runL F l).map fun q => (.mk k s n q.1, q.2) := by
  by_cases h5 : k = 5
  · obtain ⟨rfl, rfl⟩ := okB_sn ho (.inl h5)
    exact run_list k l [] F (.inl (by omega)) (fun u hu => by cases hu)
  · by_cases h6 : k = 6
    · obtain ⟨rfl, rfl⟩ := okB_sn ho (.inr h6)
      obtain ⟨x, y, r, rfl, hx6, _⟩ := okB6 ho h6
      have hx := stepF_hd ho hr h6
      have hx5 : x.k ≠ 5 := fun e => by
        have : redexB (.mk k [] 0 (x :: y :: r)) = true := by show (k == 6 && x.k == 5) = true; rw [h6, e]; rfl
        rw [hr] at this; cases this
      have := run_list k (y :: r) [x] F (.inr ⟨x, [], rfl, hx5⟩) (fun u hu => by rw [List.mem_singleton.1 hu, hx])
      rw [show x :: y :: r = [x] ++ y :: r from rfl, this, show [x] ++ y :: r = x :: y :: r from rfl]
      conv => rhs; rw [runL, runS_zero (by rw [hx])]
      simp only [Option.bind_some]
      cases runL F (y :: r) with
      | none => rfl
      | some q => rfl
    · have : l = [] := okB0 ho h5 h6
      subst this
      rw [runS_zero (by rw [stepF_non hr]; rfl)]; rfl
/-- A step at the root. -/
theorem redex_mk (s s1 : List UInt8) (n n1 : Int) (body arg : Tm) (rest : List Tm) : redexB (.mk 6 s n (.mk 5 s1 n1 [body] :: arg :: rest)) = true := rfl
theorem run_redex0 {s s1 : List UInt8} {n n1 : Int} {body arg : Tm} {rest : List Tm} : runS 0 (.mk 6 s n (.mk 5 s1 n1 [body] :: arg :: rest)) = none := by
  have hF : stepF (.mk 6 s n (.mk 5 s1 n1 [body] :: arg :: rest)) = if roomT body arg = true then (applyF (suT 0 arg body 0) rest, 1) else (noT, 2) := by rw [stepF, if_pos (redex_mk ..)]; rfl
  rw [runS, hF]; split <;> simp
theorem run_redex {s s1 : List UInt8} {n n1 : Int} {body arg : Tm} {rest : List Tm} (F : Nat) : runS (F + 1) (.mk 6 s n (.mk 5 s1 n1 [body] :: arg :: rest)) = if roomT body arg = true then runS F (applyF (suT 0 arg body 0) rest) else none := by
  have hF : stepF (.mk 6 s n (.mk 5 s1 n1 [body] :: arg :: rest)) = if roomT body arg = true then (applyF (suT 0 arg body 0) rest, 1) else (noT, 2) := by rw [stepF, if_pos (redex_mk ..)]; rfl
  rw [runS, hF]
  by_cases h : roomT body arg = true
  · rw [if_pos h, if_neg (by simp), if_pos rfl, if_pos h]
  · rw [if_neg h, if_neg (by simp), if_neg (by simp), if_neg h]
theorem run_noroom {s s1 : List UInt8} {n n1 : Int} {body arg : Tm} {rest : List Tm} (F : Nat) (h : ¬ roomT body arg = true) : runS F (.mk 6 s n (.mk 5 s1 n1 [body] :: arg :: rest)) = none := by
  cases F with
  | zero => exact run_redex0
  | succ F => rw [run_redex, if_neg h]
/-! Normal: there is no step. -/
mutual
theorem norm_step : ∀ t : Tm, normB t = true ↔ (stepF t).2 = 0
  | .mk k s n l => by
    by_cases q : redexB (.mk k s n l) = true
    · rw [normB, q, stepF, if_pos q]
      constructor
      · intro h; cases h
      · intro h; split at h <;> cases h
    · have q : redexB (.mk k s n l) = false := by simpa using q
      rw [normB, q, stepF_non q, Bool.not_false, Bool.true_and, norm_steps l]
      constructor
      · intro h; rw [if_pos h]
      · intro h
        split at h
        · assumption
        · split at h <;> cases h
theorem norm_steps : ∀ l : List Tm, normL l = true ↔ (stepL l).2 = 0
  | [] => by simp [normL, stepL]
  | t :: l => by
    rw [normL, Bool.and_eq_true, norm_step t, norm_steps l, stepL]
    constructor
    · rintro ⟨h1, h2⟩; rw [if_pos h1]; exact h2
    · intro h
      split at h
      · rename_i h0; exact ⟨h0, h⟩
      · rename_i h0; exact absurd h h0
end
end Go.AM

set_option maxRecDepth 100000
open Go Go.Proofs
namespace Go.AM
/-! ### At the head -/
mutual
def hnB : Tm → Bool
  | .mk k s n l => !redexB (.mk k s n l) && (if (k == 5) = true then hnL l else true)
def hnL : List Tm → Bool
  | [] => true
  | t :: l => hnB t && hnL l
end
theorem hn_redex {t : Tm} (h : hnB t = true) : redexB t = false := by
  obtain ⟨k, s, n, l⟩ := t
  rw [hnB, Bool.and_eq_true] at h
  simpa using h.1
/-- What a run of head comes to. -/
def HeadR (F : Nat) (f : Int) (t : Tm) (A : Tm → Int → Int → Prop) : Prop :=
  (∃ h G, hnB h = true ∧ runS F t = runS G h ∧ G ≤ F ∧ (G = F → h = t) ∧ (hnB t = true → h = t ∧ G = F) ∧ Fit G h ∧ h.sz + 4200 * G ≤ t.sz + 4200 * F ∧ A h 0 (f - (F - G : Nat))) ∨ (runS F t = none ∧ hnB t = false ∧ ∃ f', A noT 80 f')
def pH (f : Int) (t : Tm) (r : TV) (Hs : List AObj) : Prop := RPt Try.prog 109 1 r Hs 1 ⟨[(1, .c (.a (.ep 0 1 0 0))), (2, .c (.a (.ep 1 4 0 0))), (4, .c (.a (.ep 2 4 0 0)))], [(0, obj1 f), (1, .arr 4 [cT t]), (2, .arr 4 [zT])], 3⟩
theorem c_head_of {f : Int} {t : Tm} {r : TV} {o : AObj} (h : pH f t r [o]) : AC Try.prog 109 [aT t, .c (.a (.ep 0 1 0 0))] [obj1 f] r [o] := by
  obtain ⟨k, s, n, l⟩ := t
  exact AC.vc hP sh lv109 (Nat.le_refl _) (by simp [isLive]) (by simp) (Eq.mpr (v109 k s n (FTs l) f _ _) h)
theorem hd_redex (F : Nat) (f : Int) (hf : f.toNat = F) (s s1 : List UInt8) (n n1 : Int) (body arg : Tm) (rest : List Tm) (hfit : Fit F (.mk 6 s n (.mk 5 s1 n1 [body] :: arg :: rest)))
    (ih : ∀ F' f' t', F' + 1 = F → f' = f - 1 → t' = applyF (suT 0 arg body 0) rest → Fit F' t' → HeadR F' f' t' (fun u e g => pH f' t' (aTE u e) [obj1 g])) :
    HeadR F f (.mk 6 s n (.mk 5 s1 n1 [body] :: arg :: rest)) (fun u e g => pH f (.mk 6 s n (.mk 5 s1 n1 [body] :: arg :: rest)) (aTE u e) [obj1 g]) := by
  have hr := c_redex _ (ok_ne hfit.ok)
  have q := redex_mk s s1 n n1 body arg rest
  have hsz := hfit.sz
  have ob : okB body = true := by have := okB_l hfit.ok; simp only [Tm.l, okL, Bool.and_eq_true] at this; have := okB_l this.1; simp only [Tm.l, okL, Bool.and_eq_true] at this; exact this.1
  have oa : okB arg = true := by have := okB_l hfit.ok; simp only [Tm.l, okL, Bool.and_eq_true] at this; exact this.2.1
  simp only [SZ] at hsz
  have hsz' := hsz
  simp only [Tm.sz, Tm.szs] at hsz
  have hb := hfit.bd
  have hc := c_bcontr body arg ob oa (by simp only [SZ]; omega) (by simp only [SZ]; omega) hb.2.1.2.1 hb.2.2.1
  have nh : hnB (.mk 6 s n (.mk 5 s1 n1 [body] :: arg :: rest)) = false := by rw [hnB, q]; rfl
  by_cases h0 : f ≤ 0
  · have : F = 0 := by omega
    subst this
    refine .inr ⟨run_redex0, nh, f, ?_⟩
    refine RPt.vc hP sh lv109 (Eq.mpr (v109_1a f 6 s n (FTs (.mk 5 s1 n1 [body] :: arg :: rest)) 0 [] 0 _ _) ?_)
    exact ⟨_, hr, br_of (fun _ => br_of (fun _ => ⟨leTE (l := []) leNil, rfl⟩) (fun h => absurd h0 (of_decide_eq_false h))) (fun h => absurd q (by rw [h]; simp))⟩
  · obtain ⟨F', rfl⟩ : ∃ F', F = F' + 1 := ⟨F - 1, by omega⟩
    by_cases hroom : roomT body arg = true
    · have hz := suT_sz 0 arg body 0
      have h5 := (room_sz ob oa hroom (by simp only [SZ]; omega)).1
      have h6 := Tm.szs_length (suT 0 arg body 0).l
      have h7 := (suT 0 arg body 0).sz_eq
      have h8 := Tm.szs_length rest
      simp only [B] at h5
      have hap := c_apply (suT 0 arg body 0) rest (by omega)
      have hstep : stepF (.mk 6 s n (.mk 5 s1 n1 [body] :: arg :: rest)) = (applyF (suT 0 arg body 0) rest, 1) := by rw [stepF, if_pos q]; exact if_pos hroom
      have hfit' : Fit F' (applyF (suT 0 arg body 0) rest) := by have := hfit.next (by rw [hstep]); rw [hstep] at this; exact this
      have e : List.drop 2 (List.take (Int.toNat (((FTs (.mk 5 s1 n1 [body] :: arg :: rest)).length : Nat) : Int)) (FTs (.mk 5 s1 n1 [body] :: arg :: rest))) = FTs rest := by
        rw [Int.toNat_natCast, List.take_of_length_le (Nat.le_refl _)]; rfl
      have hf1 := hfit.2.2.2
      have go : ∀ (r : TV) (o : AObj), pH (f - 1) (applyF (suT 0 arg body 0) rest) r [o] → pH f (.mk 6 s n (.mk 5 s1 n1 [body] :: arg :: rest)) r [o] := fun r o h => by
        refine RPt.vc hP sh lv109 (Eq.mpr (v109_1a f 6 s n (FTs (.mk 5 s1 n1 [body] :: arg :: rest)) 0 [] 0 _ _) ?_)
        rw [show aE (List.getD (FV.ses (List.getD (List.getD (FTs (.mk 5 s1 n1 [body] :: arg :: rest)) 0 []) 3 FV.nils)) 0 []) = aT body from aE_FT body, show aE (List.getD (FTs (.mk 5 s1 n1 [body] :: arg :: rest)) 1 []) = aT arg from aE_FT arg, w64 (x := f - 1) (by omega) (by omega)]
        refine ⟨_, hr, br_of (fun _ => br_of (fun h0' => absurd (of_decide_eq_true h0') h0) (fun _ => ⟨el0 _ _, el0 body [], el1 _ _ _, (_, _), hc, br_of (fun h => ?_) (fun _ => ⟨rfl, ⟨by omega, by rw [lenI]; simp only [List.length_cons]; omega, Int.le_refl _⟩, ?_⟩)⟩)) (fun h => absurd q (by rw [h]; simp))⟩
        · have h : (conE body arg != 0) = true := h
          rw [conE, if_pos hroom] at h; cases h
        · rw [e]
          refine ⟨_, ?_, h⟩
          show AC _ _ [aT (conF body arg), _] _ _ _
          rw [conF, if_pos hroom]; exact hap
      have hrun : runS (F' + 1) (.mk 6 s n (.mk 5 s1 n1 [body] :: arg :: rest)) = runS F' (applyF (suT 0 arg body 0) rest) := by rw [run_redex, if_pos hroom]
      rcases ih F' (f - 1) _ rfl rfl rfl hfit' with ⟨h, G, a1, a2, a3, a4, a5, a6, a8, a7⟩ | ⟨a1, a2, f', a3⟩
      · refine .inl ⟨h, G, a1, hrun.trans a2, by omega, fun e => by omega, fun e => (by rw [nh] at e; cases e), a6, ?_, ?_⟩
        · have := (stepF_fit M61 (by simp only [M61]; omega) _ hfit.ok hfit.sz hfit.bd (by rw [hstep])).2.1
          rw [hstep] at this
          have this : (applyF (suT 0 arg body 0) rest).sz ≤ _ := this
          omega
        have e2 : f - ((F' + 1 - G : Nat) : Int) = f - 1 - ((F' - G : Nat) : Int) := by omega
        simp only [e2]
        exact go _ _ a7
      · exact .inr ⟨hrun.trans a1, nh, f', go _ _ a3⟩
    · refine .inr ⟨run_noroom _ hroom, nh, f, ?_⟩
      refine RPt.vc hP sh lv109 (Eq.mpr (v109_1a f 6 s n (FTs (.mk 5 s1 n1 [body] :: arg :: rest)) 0 [] 0 _ _) ?_)
      rw [show aE (List.getD (FV.ses (List.getD (List.getD (FTs (.mk 5 s1 n1 [body] :: arg :: rest)) 0 []) 3 FV.nils)) 0 []) = aT body from aE_FT body, show aE (List.getD (FTs (.mk 5 s1 n1 [body] :: arg :: rest)) 1 []) = aT arg from aE_FT arg]
      refine ⟨_, hr, br_of (fun _ => br_of (fun h0' => absurd (of_decide_eq_true h0') h0) (fun _ => ⟨el0 _ _, el0 body [], el1 _ _ _, (_, _), hc, br_of (fun h => ?_) (fun h => ?_)⟩)) (fun h => absurd q (by rw [h]; simp))⟩
      · have : conE body arg = 80 := by rw [conE, if_neg hroom]
        show TV.Le (.tup [(true, zT), (false, [.a (.fz (.int .i64 (conE body arg)))])]) _ ∧ _
        rw [this]
        exact ⟨leTE (l := []) leNil, rfl⟩
      · have h : (conE body arg != 0) = false := h
        rw [conE, if_neg hroom] at h; cases h
theorem p_head : ∀ (F : Nat) (t : Tm) (f : Int), f.toNat = F → Fit F t → HeadR F f t (fun u e g => pH f t (aTE u e) [obj1 g]) := by
  intro F
  induction F using Nat.strongRecOn with
  | ind F ihF =>
    refine Tm.ind fun t ih f hf hfit => ?_
    have ho := hfit.ok
    by_cases q : redexB t = true
    · obtain ⟨s, n, s1, n1, body, arg, rest, rfl, ob, oa, orr⟩ := redex_shape ho q
      exact hd_redex F f hf s s1 n n1 body arg rest hfit fun F' f' t' h1 h2 h3 h4 => ihF F' (by omega) t' f' (by omega) h4
    · have q : redexB t = false := by simpa using q
      have hr := c_redex t (ok_ne ho)
      by_cases h5 : t.k = 5
      · have hkid := fun u hu => (hfit.kid (u := u) hu)
        obtain ⟨k, s, n, l⟩ := t
        have h5 : k = 5 := h5
        subst h5
        obtain ⟨b, rfl, hob⟩ := okB5 ho rfl
        obtain ⟨rfl, rfl⟩ := okB_sn ho (.inl rfl)
        have hb := ih b (List.mem_singleton.2 rfl) f hf (hkid b (List.mem_singleton.2 rfl))
        have hl := fun u => c_lams 1 u (by omega)
        have eh : hnB (.mk 5 [] 0 [b]) = hnB b := by rw [hnB, q]; simp [hnL]
        have run5 : ∀ G u, okB u = true → runS G (.mk 5 [] 0 [u]) = (runS G u).map fun p => (.mk 5 [] 0 [p.1], p.2) := fun G u hu => by
          rw [run_kids (by simp [okB, okL, hu]) rfl, runL]
          cases runS G u with
          | none => rfl
          | some p => rfl
        rcases hb with ⟨h, G, a1, a2, a3, a4, a5, a6, a8, a7⟩ | ⟨a1, a2, f', a3⟩
        · refine .inl ⟨.mk 5 [] 0 [h], G, by rw [hnB, show redexB (.mk 5 [] 0 [h]) = false from rfl]; simp [hnL, a1], by rw [run5 F b hob, run5 G h a6.ok, a2], a3, fun e => by rw [a4 e], fun e => by rw [eh] at e; exact ⟨by rw [(a5 e).1], (a5 e).2⟩, ?_, by simp only [Tm.sz, Tm.szs]; omega, ?_⟩
          · by_cases e : G = F
            · rw [e, a4 e]; exact hfit
            · obtain ⟨g1, g2, g3, g4⟩ := a6
              have g0 := hfit.2.1
              exact ⟨by simp [okB, okL, g1], by simp only [Tm.sz, Tm.szs] at g0 ⊢; omega, ⟨fun e => by omega, g3, trivial⟩, g4⟩
          · refine RPt.vc hP sh lv109 (Eq.mpr (v109_1a f 5 [] 0 (FTs [b]) 0 [] 0 _ _) ?_)
            refine ⟨_, hr, br_of (fun h => absurd h (by rw [q]; simp)) (fun _ => br_of (fun h => by cases h) (fun _ => ⟨el0 _ _, (h, 0, f - ((F - G : Nat) : Int)), ?_, br_of (fun h => by cases h) (fun _ => ⟨_, hl h, ?_, rfl⟩)⟩))⟩
            · rw [show aE (List.getD (FTs [b]) 0 []) = aT b from aE_FT b]
              exact c_head_of a7
            · exact .refl _
        · refine .inr ⟨by rw [run5 F b hob, a1]; rfl, by rw [eh]; exact a2, f', ?_⟩
          refine RPt.vc hP sh lv109 (Eq.mpr (v109_1a f 5 [] 0 (FTs [b]) 0 [] 0 _ _) ?_)
          refine ⟨_, hr, br_of (fun h => absurd h (by rw [q]; simp)) (fun _ => br_of (fun h => by cases h) (fun _ => ⟨el0 _ _, (noT, 80, f'), ?_, br_of (fun _ => ⟨leTE (l := []) leNil, rfl⟩) (fun h => by cases h)⟩))⟩
          rw [show aE (List.getD (FTs [b]) 0 []) = aT b from aE_FT b]
          exact c_head_of a3
      · have hh : hnB t = true := by
          obtain ⟨k, s, n, l⟩ := t
          have h5 : k ≠ 5 := h5
          rw [hnB, q]; simp [h5]
        refine .inl ⟨t, F, hh, rfl, Nat.le_refl _, fun _ => rfl, fun _ => ⟨rfl, rfl⟩, hfit, Nat.le_refl _, ?_⟩
        obtain ⟨k, s, n, l⟩ := t
        have h5 : k ≠ 5 := h5
        have h5 : (k != 5) = true := by simpa using h5
        refine RPt.vc hP sh lv109 (Eq.mpr (v109_1a f k s n (FTs l) 0 [] 0 _ _) ?_)
        refine ⟨_, hr, br_of (fun h => absurd h (by rw [q]; simp)) (fun _ => br_of (fun _ => ?_) (fun h => by have h : (k != 5) = false := h; rw [h5] at h; cases h))⟩
        rw [Nat.sub_self, show f - ((0 : Nat) : Int) = f by omega]
        exact ⟨.refl _, rfl⟩
theorem c_bhead (F : Nat) (t : Tm) (f : Int) (hf : f.toNat = F) (hfit : Fit F t) : HeadR F f t (fun u e g => AC Try.prog 109 [aT t, .c (.a (.ep 0 1 0 0))] [obj1 f] (aTE u e) [obj1 g]) := by
  rcases p_head F t f hf hfit with ⟨h, G, a1, a2, a3, a4, a5, a6, a8, a7⟩ | ⟨a1, a2, f', a3⟩
  · exact .inl ⟨h, G, a1, a2, a3, a4, a5, a6, a8, c_head_of a7⟩
  · exact .inr ⟨a1, a2, f', c_head_of a3⟩
/-! ### All steps -/
def NormR (F : Nat) (f : Int) (t : Tm) (A : Tm → Int → Int → Prop) : Prop :=
  (∃ u G, runS F t = some (u, G) ∧ G ≤ F ∧ A u 0 (f - (F - G : Nat))) ∨ (runS F t = none ∧ ∃ f', A noT 80 f')
def NormL (F : Nat) (f : Int) (l : List Tm) (A : List Tm → Int → Prop) (N : Prop) : Prop :=
  (∃ u G, runL F l = some (u, G) ∧ G ≤ F ∧ A u (f - (F - G : Nat))) ∨ (runL F l = none ∧ N)
theorem l_norm (k : Int) (s : List UInt8) (n : Int) (l0 : List Tm) (hl0 : l0.length ≤ SZ) (F0 : Nat) : ∀ (b a : List Tm) (F : Nat) (f : Int), F ≤ F0 → f.toNat = F → a.length + b.length = l0.length →
    (∀ u ∈ b, ∀ G ≤ F0, ∀ g : Int, g.toNat = G → NormR G g u (fun v e g' => AC Try.prog 108 [aT u, .c (.a (.ep 0 1 0 0))] [obj1 g] (aTE v e) [obj1 g'])) →
    ∀ (st : Int → List Tm → Nat → St), (∀ g l i, st g l i = ⟨[(1, .c (.a (.ep 0 1 0 0))), (2, .c (.a (.ep 1 4 0 0))), (4, .c (.a (.ep 2 4 0 0))), (9, .c (.a (.osl 3 4 0 l0.length))), (43, .c (.a (.osl 3 4 0 l0.length))), (44, ci l0.length), (45, ci i)], [(0, obj1 g), (1, .arr 4 [fzs (FT (.mk k s n l0))]), (2, .arr 4 [zT]), (3, .arz 4 (FTs l))], 4⟩) →
    NormL F f b (fun us g => RPt Try.prog 108 1 (aTE (.mk k s n (a ++ us)) 0) [obj1 g] 1 (st f (a ++ b) a.length)) (∃ g, RPt Try.prog 108 1 (aTE noT 80) [obj1 g] 1 (st f (a ++ b) a.length))
  | [], a, F, f, hF, hf, hlen, _, st, hst => by
    refine .inl ⟨[], F, rfl, Nat.le_refl _, ?_⟩
    rw [hst]
    simp only [List.length_nil, Nat.add_zero] at hlen
    refine RPt.vc hP sh lv108 (Eq.mpr (v108_1b l0.length l0.length l0.length a.length f k s n (FTs l0) 0 [] 0 (FTs (a ++ [])) _ _) ?_)
    refine br_of (fun h => absurd (of_decide_eq_true h) (by omega)) (fun _ => ⟨⟨⟨rfl, by rw [FTs_length]; simp; omega⟩, trivial⟩, ?_, ?_⟩)
    · rw [List.drop_zero, List.take_of_length_le (by rw [FTs_length]; simp; omega)]
      exact leTE leSl
    · rw [Nat.sub_self, show f - ((0 : Nat) : Int) = f by omega]
  | t :: b, a, F, f, hF, hf, hlen, ih, st, hst => by
    have hlen' := hlen
    simp only [List.length_cons, SZ] at hlen' hl0
    have h1 := ih t List.mem_cons_self F hF f hf
    have h3 := ltI' a t b
    have em := rE_mid a t b
    have el : (0 + Int.toNat (a.length : Int)) < (FTs (a ++ t :: b)).length ∧ ((rE (List.getD (FTs (a ++ t :: b)) (0 + Int.toNat (a.length : Int)) []) : List FV) = List.take 4 (List.drop 0 (List.getD (FTs (a ++ t :: b)) (0 + Int.toNat (a.length : Int)) [])) ∧ (4 : Nat) = 4) := by
      rw [Nat.zero_add, em]
      refine ⟨by omega, ?_, rfl⟩
      rw [midI, List.drop_zero, List.take_of_length_le (by rw [FT_length]; exact Nat.le_refl _)]
    have el2 : (0 + Int.toNat (a.length : Int)) < (FTs (a ++ t :: b)).length ∧ (List.getD (FTs (a ++ t :: b)) (0 + Int.toNat (a.length : Int)) []).length = 4 := ⟨el.1, by rw [Nat.zero_add, midI]; exact FT_length t⟩
    have ea : aE (List.getD (FTs (a ++ t :: b)) (0 + Int.toNat (a.length : Int)) []) = aT t := by rw [Nat.zero_add, aE_mid]
    rw [hst]
    rcases h1 with ⟨u, G, r1, r2, r3⟩ | ⟨r1, f', r2⟩
    · have h2 := l_norm k s n l0 hl0 F0 b (a ++ [u]) G (f - ((F - G : Nat) : Int)) (by omega) (by omega) (by simp; omega) (fun v hv => ih v (List.mem_cons_of_mem _ hv)) st hst
      have go : ∀ (r : TV) (o : AObj), RPt Try.prog 108 1 r [o] 1 (st (f - ((F - G : Nat) : Int)) (a ++ [u] ++ b) (a ++ [u]).length) → RPt Try.prog 108 1 r [o] 1 ⟨[(1, .c (.a (.ep 0 1 0 0))), (2, .c (.a (.ep 1 4 0 0))), (4, .c (.a (.ep 2 4 0 0))), (9, .c (.a (.osl 3 4 0 l0.length))), (43, .c (.a (.osl 3 4 0 l0.length))), (44, ci l0.length), (45, ci a.length)], [(0, obj1 f), (1, .arr 4 [fzs (FT (.mk k s n l0))]), (2, .arr 4 [zT]), (3, .arz 4 (FTs (a ++ t :: b)))], 4⟩ := fun r o h => by
        rw [hst, ap] at h
        refine RPt.vc hP sh lv108 (Eq.mpr (v108_1b l0.length l0.length l0.length a.length f k s n (FTs l0) 0 [] 0 (FTs (a ++ t :: b)) _ _) ?_)
        rw [ea, w64 (x := (a.length : Int) + 1) (by omega) (by omega)]
        refine br_of (fun _ => ⟨⟨by omega, by omega⟩, el, (u, 0, f - ((F - G : Nat) : Int)), r3, ⟨by omega, by omega⟩, el2, br_of (fun h => by cases h) (fun _ => ?_)⟩) (fun h => absurd (of_decide_eq_false h) (by omega))
        rw [set_mid, ← nx]
        exact h
      rcases h2 with ⟨us, G', q1, q2, q3⟩ | ⟨q1, g, q2⟩
      · refine .inl ⟨u :: us, G', by rw [runL, r1]; simp only [Option.bind_some, q1, Option.map_some], by omega, ?_⟩
        have e2 : f - ((F - G' : Nat) : Int) = f - ((F - G : Nat) : Int) - ((G - G' : Nat) : Int) := by omega
        have h9 := go _ _ q3
        rw [ap a u us] at h9
        rw [e2]
        exact h9
      · exact .inr ⟨by rw [runL, r1]; simp only [Option.bind_some, q1, Option.map_none], g, go _ _ q2⟩
    · refine .inr ⟨by rw [runL, r1]; rfl, f', ?_⟩
      refine RPt.vc hP sh lv108 (Eq.mpr (v108_1b l0.length l0.length l0.length a.length f k s n (FTs l0) 0 [] 0 (FTs (a ++ t :: b)) _ _) ?_)
      rw [ea]
      exact br_of (fun _ => ⟨⟨by omega, by omega⟩, el, (noT, 80, f'), r2, ⟨by omega, by omega⟩, el2, br_of (fun _ => ⟨leTE (l := []) leNil, rfl⟩) (fun h => by cases h)⟩) (fun h => absurd (of_decide_eq_false h) (by omega))
theorem c_bnorm : ∀ (F : Nat) (t : Tm) (f : Int), f.toNat = F → Fit F t → NormR F f t (fun u e g => AC Try.prog 108 [aT t, .c (.a (.ep 0 1 0 0))] [obj1 f] (aTE u e) [obj1 g]) := by
  intro F
  induction F using Nat.strongRecOn with
  | ind F ihF =>
    refine Tm.ind fun t ih f hf hfit => ?_
    have hh := c_bhead F t f hf hfit
    rcases hh with ⟨h, G, a1, a2, a3, a4, a5, a6, a8, a7⟩ | ⟨a1, a2, f', a3⟩
    · have kid : ∀ u ∈ h.l, ∀ G' ≤ G, ∀ g : Int, g.toNat = G' → NormR G' g u (fun v e g' => AC Try.prog 108 [aT u, .c (.a (.ep 0 1 0 0))] [obj1 g] (aTE v e) [obj1 g']) := fun u hu G' hG g hg => by
        have hku := (a6.kid hu).mono hG
        by_cases e : G' = F
        · have e2 : G = F := by omega
          rw [a4 e2] at hu
          subst e
          exact ih u hu g hg hku
        · exact ihF G' (by omega) u g hg hku
      have hq := hn_redex a1
      have hg : (f - ((F - G : Nat) : Int)).toNat = G := by omega
      have kk : ∀ F' , runS F' h = (runL F' h.l).map fun q => (.mk h.k h.s h.n q.1, q.2) := fun F' => by
        obtain ⟨k, s, n, l⟩ := h
        exact run_kids a6.ok hq F'
      obtain ⟨tk, ts, tn, tl⟩ := t
      by_cases h5 : h.k = 5
      · obtain ⟨hk, hs, hn, hl⟩ := h
        have h5 : hk = 5 := h5
        subst h5
        obtain ⟨b, rfl, hob⟩ := okB5 a6.ok rfl
        obtain ⟨rfl, rfl⟩ := okB_sn a6.ok (.inl rfl)
        have hl := fun u => c_lams 1 u (by omega)
        have run5 : runS F (.mk tk ts tn tl) = (runS G b).map fun p => (.mk 5 [] 0 [p.1], p.2) := by
          rw [a2, kk G, show Tm.l (.mk 5 [] 0 [b]) = [b] from rfl, runL]
          cases runS G b with
          | none => rfl
          | some p => rfl
        rcases kid b (List.mem_singleton.2 rfl) G (Nat.le_refl _) _ hg with ⟨u, G', r1, r2, r3⟩ | ⟨r1, f', r2⟩
        · refine .inl ⟨.mk 5 [] 0 [u], G', by rw [run5, r1]; rfl, by omega, ?_⟩
          refine AC.vc hP sh lv108 (Nat.le_refl _) (by simp [isLive]) (by simp) (Eq.mpr (v108 tk ts tn (FTs tl) f _ _) ?_)
          refine ⟨(.mk 5 [] 0 [b], 0, f - ((F - G : Nat) : Int)), a7, br_of (fun h => by cases h) (fun _ => br_of (fun _ => ⟨el0 b [], (u, 0, f - ((F - G : Nat) : Int) - ((G - G' : Nat) : Int)), ?_, br_of (fun h => by cases h) (fun _ => ⟨_, hl u, .refl _, ?_⟩)⟩) (fun h => by cases h))⟩
          · rw [show aE (List.getD (FTs (Tm.l (.mk 5 [] 0 [b]))) 0 []) = aT b from aE_FT b]; exact r3
          · have e2 : f - ((F - G' : Nat) : Int) = f - ((F - G : Nat) : Int) - ((G - G' : Nat) : Int) := by omega
            rw [e2]
        · refine .inr ⟨by rw [run5, r1]; rfl, f', ?_⟩
          refine AC.vc hP sh lv108 (Nat.le_refl _) (by simp [isLive]) (by simp) (Eq.mpr (v108 tk ts tn (FTs tl) f _ _) ?_)
          refine ⟨(.mk 5 [] 0 [b], 0, f - ((F - G : Nat) : Int)), a7, br_of (fun h => by cases h) (fun _ => br_of (fun _ => ⟨el0 b [], (noT, 80, f'), ?_, br_of (fun _ => ⟨leTE (l := []) leNil, rfl⟩) (fun h => by cases h)⟩) (fun h => by cases h))⟩
          rw [show aE (List.getD (FTs (Tm.l (.mk 5 [] 0 [b]))) 0 []) = aT b from aE_FT b]; exact r2
      · have hls : h.l.length ≤ SZ := by have := a6.sz; have := h.sz_eq; have := Tm.szs_length h.l; omega
        obtain ⟨hk, hs, hn, hl⟩ := h
        have h5' : (hk == 5) = false := by have h5 : hk ≠ 5 := h5; simpa using h5
        have hls : hl.length ≤ SZ := hls
        have kk : runS F (.mk tk ts tn tl) = (runL G hl).map fun q => (.mk hk hs hn q.1, q.2) := by rw [a2]; exact kk G
        by_cases hnil : hl = []
        · subst hnil
          refine .inl ⟨.mk hk hs hn [], G, by rw [kk]; rfl, a3, ?_⟩
          refine AC.vc hP sh lv108 (Nat.le_refl _) (by simp [isLive]) (by simp) (Eq.mpr (v108 tk ts tn (FTs tl) f _ _) ?_)
          refine ⟨(.mk hk hs hn [], 0, f - ((F - G : Nat) : Int)), a7, br_of (fun h => by cases h) (fun _ => br_of (fun h => by have h : (hk == 5) = true := h; rw [h5'] at h; cases h) (fun _ => .inl ⟨false, c_clone.2, rfl, ?_⟩))⟩
          refine RPt.vc hP sh lv108 (Eq.mpr (v108_1a false [] false [] 0 0 (f - ((F - G : Nat) : Int)) hk hs hn (FTs []) 0 [] 0 _ _) ?_)
          exact br_of (fun h => by cases h) (fun _ => ⟨.refl _, rfl⟩)
        · have hcl := c_clone.1 (FTs hl) (by rw [FTs_map]; simp [hnil]) (by rw [FTs_length]; simp only [SZ, B] at *; omega)
          have loop := l_norm hk hs hn hl hls G hl [] G (f - ((F - G : Nat) : Int)) (Nat.le_refl _) hg (by simp) (fun u hu G' hG g hg => kid u hu G' hG g hg) (fun g l i => ⟨[(1, .c (.a (.ep 0 1 0 0))), (2, .c (.a (.ep 1 4 0 0))), (4, .c (.a (.ep 2 4 0 0))), (9, .c (.a (.osl 3 4 0 hl.length))), (43, .c (.a (.osl 3 4 0 hl.length))), (44, ci hl.length), (45, ci i)], [(0, obj1 g), (1, .arr 4 [fzs (FT (.mk hk hs hn hl))]), (2, .arr 4 [zT]), (3, .arz 4 (FTs l))], 4⟩) (fun g l i => rfl)
          have go : ∀ (r : TV) (o : AObj), RPt Try.prog 108 1 r [o] 1 ⟨[(1, .c (.a (.ep 0 1 0 0))), (2, .c (.a (.ep 1 4 0 0))), (4, .c (.a (.ep 2 4 0 0))), (9, .c (.a (.osl 3 4 0 hl.length))), (43, .c (.a (.osl 3 4 0 hl.length))), (44, ci hl.length), (45, ci 0)], [(0, obj1 (f - ((F - G : Nat) : Int))), (1, .arr 4 [fzs (FT (.mk hk hs hn hl))]), (2, .arr 4 [zT]), (3, .arz 4 (FTs hl))], 4⟩ → AC Try.prog 108 [aT (.mk tk ts tn tl), .c (.a (.ep 0 1 0 0))] [obj1 f] r [o] := fun r o h => by
            refine AC.vc hP sh lv108 (Nat.le_refl _) (by simp [isLive]) (by simp) (Eq.mpr (v108 tk ts tn (FTs tl) f _ _) ?_)
            refine ⟨(.mk hk hs hn hl, 0, f - ((F - G : Nat) : Int)), a7, br_of (fun h => by cases h) (fun _ => br_of (fun h => by have h : (hk == 5) = true := h; rw [h5'] at h; cases h) (fun _ => .inr ⟨FTs hl, hcl, ?_⟩))⟩
            rw [FTs_length]
            exact h
          rcases loop with ⟨us, G', q1, q2, q3⟩ | ⟨q1, g, q2⟩
          · refine .inl ⟨.mk hk hs hn us, G', by rw [kk, q1]; rfl, by omega, ?_⟩
            have e2 : f - ((F - G' : Nat) : Int) = f - ((F - G : Nat) : Int) - ((G - G' : Nat) : Int) := by omega
            rw [e2]
            exact go _ _ q3
          · exact .inr ⟨by rw [kk, q1]; rfl, g, go _ _ q2⟩
    · refine .inr ⟨a1, f', ?_⟩
      obtain ⟨tk, ts, tn, tl⟩ := t
      refine AC.vc hP sh lv108 (Nat.le_refl _) (by simp [isLive]) (by simp) (Eq.mpr (v108 tk ts tn (FTs tl) f _ _) ?_)
      exact ⟨(noT, 80, f'), a3, br_of (fun _ => ⟨leTE (l := []) leNil, rfl⟩) (fun h => by cases h)⟩
end Go.AM

set_option maxRecDepth 100000
open Go Go.Proofs
namespace Go.AM
abbrev aTNE (t : Tm) (n e : Int) : TV := .tup [(true, cT t), (false, [.a (.fz (.int .i64 n))]), (false, [.a (.fz (.int .i64 e))])]
theorem leTNE {k n e m : Int} {s : List UInt8} {x : FV} {l : List Tm} (h : FV.Le x (.sl false 4 (FTs l))) : TV.Le (.tup [(true, [.a (.fz (.int .i64 k)), .a (.fz (.str s)), .a (.fz (.int .i64 n)), .a (.fz x)]), (false, [.a (.fz (.int .i64 m))]), (false, [.a (.fz (.int .i64 e))])]) (aTNE (.mk k s n l) m e) := by
  refine .tup _ _ rfl fun i p q hp hq => ?_
  match i, hp, hq with
  | 0, hp, hq =>
    simp only [List.getElem?_cons_zero, Option.some.injEq] at hp hq
    subst hp; subst hq
    refine ⟨rfl, rfl, fun j x y hx hy => ?_⟩
    match j, hx, hy with
    | 0, hx, hy => simp at hx hy; subst hx; subst hy; exact .refl _
    | 1, hx, hy => simp at hx hy; subst hx; subst hy; exact .refl _
    | 2, hx, hy => simp at hx hy; subst hx; subst hy; exact .refl _
    | 3, hx, hy => simp at hx hy; subst hx; subst hy; exact .a _ _ (.fz _ _ h)
    | j + 4, hx, _ => simp at hx
  | 1, hp, hq =>
    simp only [List.getElem?_cons_zero, List.getElem?_cons_succ, Option.some.injEq] at hp hq
    subst hp; subst hq
    exact ⟨rfl, rfl, fun j x y hx hy => by rw [hx] at hy; injection hy with hy; subst hy; exact .refl _⟩
  | 2, hp, hq =>
    simp only [List.getElem?_cons_zero, List.getElem?_cons_succ, Option.some.injEq] at hp hq
    subst hp; subst hq
    exact ⟨rfl, rfl, fun j x y hx hy => by rw [hx] at hy; injection hy with hy; subst hy; exact .refl _⟩
  | i + 3, hp, _ => simp at hp
/-- What Norm comes to. -/
def normV (F : Nat) (f : Int) (t : Tm) : Tm × Int × Int :=
  if validB t = true then (match runS F t with | some (u, G) => (u, f - ((F - G : Nat) : Int), 0) | none => (noT, 0, 80)) else (noT, 0, 1)
theorem c_brunN (F : Nat) (t : Tm) (f : Int) (hf : f.toNat = F) (hs : t.sz ≤ B) (hfit : validB t = true → Fit F t) : AC Try.prog 107 [aT t, ci f, .c (.fn (.func 108) [] [])] [] (aTNE (normV F f t).1 (normV F f t).2.1 (normV F f t).2.2) [] := by
  have h1 := c_valid t hs
  have h2 := fun h => c_bnorm F t f hf (hfit h)
  have e1 : ∀ h : validB t = true, normV F f t = (match runS F t with | some (u, G) => (u, f - ((F - G : Nat) : Int), 0) | none => (noT, 0, 80)) := fun h => if_pos h
  have e0 : ∀ h : validB t = false, normV F f t = (noT, 0, 1) := fun h => if_neg (by rw [h]; simp)
  obtain ⟨k, s, n, l⟩ := t
  refine AC.vc hP sh lv107 (Nat.le_refl _) (by simp) (by simp) (Eq.mpr (v107 k s n (FTs l) f _ _) ?_)
  refine ⟨_, h1, br_of (fun h => ?_) (fun h => ?_)⟩
  · rw [e0 (not_t h)]
    exact ⟨leTNE (l := []) leNil, rfl⟩
  · have hv := not_f h
    rw [e1 hv]
    rcases h2 hv with ⟨u, G, r1, r2, r3⟩ | ⟨r1, g, r2⟩
    · rw [r1]
      exact ⟨(u, 0, f - ((F - G : Nat) : Int)), r3, br_of (fun h => by cases h) (fun _ => ⟨.refl _, rfl⟩)⟩
    · rw [r1]
      exact ⟨(noT, 80, g), r2, br_of (fun _ => ⟨leTNE (l := []) leNil, rfl⟩) (fun h => by cases h)⟩
theorem c_bNorm (F : Nat) (t : Tm) (f : Int) (hf : f.toNat = F) (hs : t.sz ≤ B) (hfit : validB t = true → Fit F t) : AC Try.prog 78 [aT t, ci f] [] (aTNE (normV F f t).1 (normV F f t).2.1 (normV F f t).2.2) [] := by
  have h := c_brunN F t f hf hs hfit
  obtain ⟨k, s, n, l⟩ := t
  refine AC.vc hP sh lv78 (Nat.le_refl _) (by simp) (by simp) (Eq.mpr (v78 k s n (FTs l) f _ _) ?_)
  exact ⟨(_, _, _), h, .refl _, rfl⟩
/-- Head, where there is nothing to do. -/
theorem c_bHead0 (F : Nat) (t : Tm) (f : Int) (hf : f.toNat = F) (hs : t.sz ≤ B) (hv : validB t = true) (hfit : Fit F t) (hn : hnB t = true) : AC Try.prog 79 [aT t, ci f] [] (aTNE t f 0) [] := by
  have h1 := c_valid t hs
  rw [hv] at h1
  have h2 : AC Try.prog 109 [aT t, .c (.a (.ep 0 1 0 0))] [obj1 f] (aTE t 0) [obj1 f] := by
    rcases c_bhead F t f hf hfit with ⟨h, G, a1, a2, a3, a4, a5, a6, a8, a7⟩ | ⟨a1, a2, f', a3⟩
    · obtain ⟨rfl, rfl⟩ := a5 hn
      rw [Nat.sub_self, show f - ((0 : Nat) : Int) = f by omega] at a7
      exact a7
    · rw [hn] at a2; cases a2
  have h3 : AC Try.prog 107 [aT t, ci f, .c (.fn (.func 109) [] [])] [] (aTNE t f 0) [] := by
    obtain ⟨k, s, n, l⟩ := t
    refine AC.vc hP sh lv107 (Nat.le_refl _) (by simp) (by simp) (Eq.mpr (v107_i1 k s n (FTs l) f _ _) ?_)
    exact ⟨_, h1, br_of (fun h => by cases h) (fun _ => ⟨(_, 0, f), h2, br_of (fun h => by cases h) (fun _ => ⟨.refl _, rfl⟩)⟩)⟩
  obtain ⟨k, s, n, l⟩ := t
  refine AC.vc hP sh lv79 (Nat.le_refl _) (by simp) (by simp) (Eq.mpr (v79 k s n (FTs l) f _ _) ?_)
  exact ⟨(_, _, _), h3, .refl _, rfl⟩
/-! ### What is looked at -/
mutual
theorem left_nd : ∀ (t : Tm) (m : Int), 0 ≤ leftF t m → (t.sz : Int) ≤ m - leftF t m
  | .mk _ s _ l, m, h => by
    simp only [leftF] at h ⊢
    have := left_nds l (m - 1) h
    simp only [Tm.sz]; omega
theorem left_nds : ∀ (l : List Tm) (m : Int), 0 ≤ leftL l m → (Tm.szs l : Int) ≤ m - leftL l m
  | [], m, h => by simp [leftL, Tm.szs]
  | t :: l, m, h => by
    simp only [leftL] at h ⊢
    split at h
    · rename_i h0
      rw [if_pos h0]
      have h1 := left_nds l _ h
      have h3 := (leftL_le l (leftF t m)).1
      have h2 := left_nd t m (by omega)
      simp only [Tm.szs]; omega
    · rename_i h0; exact absurd h h0
end
theorem large_sz {t : Tm} {m : Int} (h : large t m = false) : (t.sz : Int) ≤ m := by
  have h := of_decide_eq_false h
  have := left_nd t m (by omega)
  omega
def over60 (t : Tm) : Bool := large t 60 || !near 1099511627776 t
theorem c_over8 (t : Tm) (hs : t.sz ≤ B) : AC Try.prog 32 [aT t] [] (cb (over60 t)) [] := by
  have h1 := c_near 1099511627776 (by omega) (by omega) t hs
  have h2 := c_large t hs 60 (by omega) (by omega)
  obtain ⟨k, s, n, l⟩ := t
  refine AC.vc hP sh lv32 (Nat.le_refl _) (by simp) (by simp) (Eq.mpr (v32 k s n (FTs l) _ _) ?_)
  refine ⟨_, h1, _, h2, br_of (fun h => ret_b ?_) (fun h => ret_b ?_)⟩
  · simp only [over60, h, Bool.true_or]
  · simp only [over60, h, Bool.false_or]
theorem okay60 {t : Tm} (h : over60 t = false) : t.sz ≤ 60 ∧ bd 1099511627776 t := by
  simp only [over60, Bool.or_eq_false_iff] at h
  have := large_sz h.1
  exact ⟨by omega, near_bd t (by simpa using h.2)⟩
theorem fit60 {t : Tm} (h : over60 t = false) (hv : validB t = true) {F : Nat} (hF : F ≤ 5000) : Fit F t := by
  obtain ⟨h1, h2⟩ := okay60 h
  exact ⟨valid_ok t hv, by simp only [SZ]; omega, bd_le (by simp only [M61, SZ]; omega) _ h2, hF⟩
/-! ### The document's examples -/
theorem args1 {a : List FV} {x : Tm} (ha : LeR a (FT x)) : TV.Le (.c (.a (.fz (.sl true 4 [a])))) (aL [x]) := le_c (leRows rfl fun i r t hr ht => by
  match i, hr, ht with
  | 0, hr, ht => simp only [List.getElem?_cons_zero, Option.some.injEq] at hr ht; subst hr; subst ht; exact ha
  | i + 1, hr, _ => simp at hr)
theorem args2 {a b : List FV} {x y : Tm} (ha : LeR a (FT x)) (hb : LeR b (FT y)) : TV.Le (.c (.a (.fz (.sl true 4 [a, b])))) (aL [x, y]) := le_c (leRows rfl fun i r t hr ht => by
  match i, hr, ht with
  | 0, hr, ht => simp only [List.getElem?_cons_zero, Option.some.injEq] at hr ht; subst hr; subst ht; exact ha
  | 1, hr, ht => simp only [List.getElem?_cons_zero, List.getElem?_cons_succ, Option.some.injEq] at hr ht; subst hr; subst ht; exact hb
  | i + 2, hr, _ => simp at hr)
theorem e0 {k n : Int} {s : List UInt8} : TV.Le (.agg [.a (.fz (.int .i64 k)), .a (.fz (.str s)), .a (.fz (.int .i64 n)), .a (.fz .nils)]) (aT (.mk k s n [])) := leT leNil
abbrev exZ : Tm := .mk 3 [] 0 []
/-- Of terms that are written out. -/
def fitD (F : Nat) (t : Tm) : Bool := okB t && decide (t.sz ≤ 60) && near 1099511627776 t && decide (F ≤ 5000)
theorem fit_of {F : Nat} {t : Tm} (h : fitD F t = true) : Fit F t := by
  simp only [fitD, Bool.and_eq_true, decide_eq_true_eq] at h
  exact ⟨h.1.1.1, by simp only [SZ]; omega, bd_le (by simp only [M61, SZ]; omega) _ (near_bd t h.1.2), h.2⟩
theorem c_works8 : AC Try.prog 31 [] [] (cb true) [] := by
  refine AC.vc hP sh lv31 (Nat.le_refl _) (by simp) (by simp) (Eq.mpr (v31 ..) ?_)
  refine ⟨⟨rfl, by omega⟩, applyF exF [exZ, exZ], (c_apply exF [exZ, exZ] (by decide)).args ⟨e0, args2 (leFT leNil) (leFT leNil), trivial⟩,
    lamsF 1 (applyF exF [exZ, exZ]), c_lams 1 _ (by omega), ⟨rfl, by omega⟩,
    applyF (lamsF 1 (applyF exF [exZ, exZ])) [exA], (c_apply _ [exA] (by decide)).args ⟨.refl _, args1 (leFT leNil), trivial⟩,
    (_, _, _), c_bNorm 5 _ 5 rfl (by decide) (fun _ => fit_of (by decide)), ⟨rfl, by omega⟩,
    applyF exF [exA, exA], (c_apply exF [exA, exA] (by decide)).args ⟨e0, args2 (leFT leNil) (leFT leNil), trivial⟩,
    _, c_rsame _ (by decide) _,
    lamsF 1 exZ, (c_lams 1 exZ (by omega)).args ⟨.refl _, e0, trivial⟩, ⟨rfl, by omega⟩,
    applyF (lamsF 1 exZ) [exA], (c_apply _ [exA] (by decide)).args ⟨.refl _, args1 (leFT leNil), trivial⟩, ⟨rfl, by omega⟩,
    applyF exF [applyF (lamsF 1 exZ) [exA]], (c_apply exF [applyF (lamsF 1 exZ) [exA]] (by decide)).args ⟨e0, args1 (by rw [FT4_eq]; exact LeR.refl _), trivial⟩,
    (_, _, _), c_bHead0 5 _ 5 rfl (by decide) (by decide) (fit_of (by decide)) (by decide),
    _, c_rsame _ (by decide) _, ⟨rfl, by omega⟩,
    applyF (lamsF 1 (applyF exF [exZ, exZ])) [exA], (c_apply _ [exA] (by decide)).args ⟨.refl _, args1 (leFT leNil), trivial⟩,
    (_, _, _), c_bNorm 0 _ 0 rfl (by decide) (fun _ => fit_of (by decide)),
    (_, _, _), (c_bNorm 5 noT 5 rfl (by decide) (fun h => absurd h (by decide))).args ⟨e0, .refl _, trivial⟩,
    _, c_bNormal _ (by decide), ?_⟩
  exact br_of (fun _ => br_of (fun _ => br_of (fun _ => br_of (fun _ => br_of (fun _ => br_of (fun _ => br_of (fun _ => br_of (fun _ => ret_b (by decide)) (fun h => absurd h (by decide))) (fun h => absurd h (by decide))) (fun h => absurd h (by decide))) (fun h => absurd h (by decide))) (fun h => absurd h (by decide))) (fun h => absurd h (by decide))) (fun h => absurd h (by decide))) (fun h => absurd h (by decide))
end Go.AM

set_option maxRecDepth 100000
open Go Go.Proofs
namespace Go.AM
/-! ### Leaves that may be -/
mutual
def lvB : Tm → Bool
  | .mk k s n l => if (k == 5 || k == 6) = true then lvL l else validB (.mk k s n l)
def lvL : List Tm → Bool
  | [] => true
  | t :: l => lvB t && lvL l
end
theorem lvL_mem : ∀ {l : List Tm} {t : Tm}, lvL l = true → t ∈ l → lvB t = true
  | x :: l, t, h, hm => by
    simp only [lvL, Bool.and_eq_true] at h
    rcases List.mem_cons.1 hm with rfl | hm
    · exact h.1
    · exact lvL_mem h.2 hm
theorem lvL_of : ∀ {l : List Tm}, (∀ t ∈ l, lvB t = true) → lvL l = true
  | [], _ => rfl
  | t :: l, h => by simp only [lvL, h t List.mem_cons_self, lvL_of (l := l) fun u hu => h u (List.mem_cons_of_mem _ hu), Bool.and_self]
theorem lvB_in {k n : Int} {s : List UInt8} {l : List Tm} (hk : k = 5 ∨ k = 6) : lvB (.mk k s n l) = lvL l := by
  rw [lvB, if_pos (by rcases hk with rfl | rfl <;> rfl)]
theorem lvB_out {k n : Int} {s : List UInt8} {l : List Tm} (h5 : k ≠ 5) (h6 : k ≠ 6) : lvB (.mk k s n l) = validB (.mk k s n l) := by
  rw [lvB, if_neg (by simp [h5, h6])]
theorem valid5 {s : List UInt8} {n : Int} {l : List Tm} : validB (.mk 5 s n l) = (n == 0 && s == [] && decide (l.length = 1) && validL l) := by
  rw [validB, lenI]
  simp only [show ((5 : Int) == 0) = false from rfl, show ((5 : Int) == 1) = false from rfl, show ((5 : Int) == 2) = false from rfl, show ((5 : Int) == 3) = false from rfl, show ((5 : Int) == 4) = false from rfl, Bool.false_eq_true, if_false, show ((5 : Int) == 5) = true from rfl, if_true]
  congr 2
  by_cases h : l.length = 1
  · rw [h]; rfl
  · rw [decide_eq_false h]; simp; omega
theorem valid6 {s : List UInt8} {n : Int} {l : List Tm} : validB (.mk 6 s n l) = (n == 0 && decide (2 ≤ l.length) && ((hd l).k != 6) && s == [] && validL l) := by
  rw [validB, lenI]
  simp only [show ((6 : Int) == 0) = false from rfl, show ((6 : Int) == 1) = false from rfl, show ((6 : Int) == 2) = false from rfl, show ((6 : Int) == 3) = false from rfl, show ((6 : Int) == 4) = false from rfl, show ((6 : Int) == 5) = false from rfl, Bool.false_eq_true, if_false, show ((6 : Int) == 6) = true from rfl, if_true]
  congr 4
  by_cases h : 2 ≤ l.length
  · rw [decide_eq_true h, decide_eq_true (by omega)]
  · rw [decide_eq_false h, decide_eq_false (by omega)]
mutual
theorem valid_iff : ∀ t : Tm, validB t = (okB t && lvB t)
  | .mk k s n l => by
    by_cases h5 : k = 5
    · subst h5
      rw [valid5, lvB_in (.inl rfl), valid_iffL l, okB]
      cases okL l <;> cases lvL l <;> simp [Bool.and_comm, Bool.and_assoc, Bool.and_left_comm]
    · by_cases h6 : k = 6
      · subst h6
        rw [valid6, lvB_in (.inr rfl), valid_iffL l, okB]
        cases okL l <;> cases lvL l <;> simp [Bool.and_comm, Bool.and_assoc, Bool.and_left_comm]
      · rw [lvB_out h5 h6]
        cases hv : validB (.mk k s n l) with
        | false => simp
        | true => rw [valid_ok _ hv]; rfl
theorem valid_iffL : ∀ l : List Tm, validL l = (okL l && lvL l)
  | [] => rfl
  | t :: l => by
    rw [validL, okL, lvL, valid_iff t, valid_iffL l]
    cases okB t <;> cases lvB t <;> simp
end
theorem valid_lv {t : Tm} (h : validB t = true) : lvB t = true := by rw [valid_iff] at h; simp at h; exact h.2
theorem applyF_lv {f : Tm} {args : List Tm} (hf : lvB f = true) (ha : lvL args = true) : lvB (applyF f args) = true := by
  match args, ha with
  | [], _ => exact hf
  | a :: r, ha =>
    obtain ⟨k, s, n, l⟩ := f
    rw [apply_some]
    split
    · rename_i h
      have hk : k = 6 := by simpa using h.1
      rw [lvB_in (.inr hk)] at hf
      rw [lvB_in (.inr rfl)]
      exact lvL_of fun t ht => by
        rcases List.mem_append.1 ht with ht | ht
        · exact lvL_mem hf ht
        · exact lvL_mem ha ht
    · rw [lvB_in (.inr rfl)]
      simp only [lvL, Bool.and_eq_true] at ha ⊢
      exact ⟨hf, ha⟩
theorem withF_lv {t : Tm} {o : List Tm} (hk : t.k = 5 ∨ t.k = 6) (ho : lvL o = true) : lvB (withF t o) = true := by
  obtain ⟨k, s, n, l⟩ := t
  unfold withF
  split
  · rename_i hc
    match o, ho, hc with
    | [], _, hc => exact absurd hc.2.1 (by simp)
    | x :: r, ho, hc =>
      simp only [lvL, Bool.and_eq_true] at ho
      exact applyF_lv ho.1 ho.2
  · exact (lvB_in hk).trans ho
mutual
theorem walkF_lv (lf : Tm → Int → Tm) (Q : Tm → Int → Prop) (hq : ∀ k s n l d, Q (.mk k s n l) d → ∀ u ∈ l, Q u (d + if (k == 5) = true then 1 else 0)) (h : ∀ u d, lvB u = true → Q u d → u.k ≠ 5 → u.k ≠ 6 → lvB (lf u d) = true) : ∀ (t : Tm) (d : Int), lvB t = true → Q t d → lvB (walkF lf t d) = true
  | .mk k s n l, d, ho, hQ => by
    rw [walkF]
    split
    · rename_i hk
      have hk : k = 5 ∨ k = 6 := by simpa using hk
      rw [lvB_in hk] at ho
      exact withF_lv hk (walkL_lv lf Q hq h l _ ho (hq k s n l d hQ))
    · rename_i hk
      exact h _ _ ho hQ (fun e => hk (by simp [show k = 5 from e])) (fun e => hk (by simp [show k = 6 from e]))
theorem walkL_lv (lf : Tm → Int → Tm) (Q : Tm → Int → Prop) (hq : ∀ k s n l d, Q (.mk k s n l) d → ∀ u ∈ l, Q u (d + if (k == 5) = true then 1 else 0)) (h : ∀ u d, lvB u = true → Q u d → u.k ≠ 5 → u.k ≠ 6 → lvB (lf u d) = true) : ∀ (l : List Tm) (d : Int), lvL l = true → (∀ u ∈ l, Q u d) → lvL (walkL lf l d) = true
  | [], _, _, _ => rfl
  | t :: l, d, ho, hQ => by
    simp only [lvL, Bool.and_eq_true] at ho
    simp only [walkL, lvL, walkF_lv lf Q hq h t d ho.1 (hQ t List.mem_cons_self), walkL_lv lf Q hq h l d ho.2 (fun u hu => hQ u (List.mem_cons_of_mem _ hu)), Bool.and_self]
end
theorem valid3 {s : List UInt8} {n : Int} {l : List Tm} : validB (.mk 3 s n l) = true ↔ 0 ≤ n ∧ n ≤ 4611686018427387904 ∧ s = [] ∧ l = [] := by
  rw [validB, lenI]
  simp only [show ((3 : Int) == 0) = false from rfl, show ((3 : Int) == 1) = false from rfl, show ((3 : Int) == 2) = false from rfl, Bool.false_eq_true, if_false, show ((3 : Int) == 3) = true from rfl, if_true]
  simp only [Bool.and_eq_true, decide_eq_true_eq, beq_iff_eq]
  constructor
  · rintro ⟨⟨⟨⟨h1, h2⟩, h3⟩, h4⟩, _⟩
    exact ⟨h1, h2, h3, List.eq_nil_of_length_eq_zero (by omega)⟩
  · rintro ⟨h1, h2, rfl, rfl⟩
    exact ⟨⟨⟨⟨h1, h2⟩, rfl⟩, rfl⟩, rfl⟩
/-- Shifted upwards. -/
theorem shT_lv {by_ M D : Int} (h0 : 0 ≤ by_) (hM : M + by_ ≤ 4611686018427387904) (t : Tm) (d : Int) (fr : Int) (hb : bd M t) (h : lvB t = true) (_ : d ≤ D) : lvB (shT fr by_ t d) = true := by
  refine walkF_lv _ (fun u _ => bd M u) (fun k s n l d hQ u hu => bds_mem hQ.2 hu) (fun u d hu hQ h5 h6 => ?_) t d h hb
  unfold shLeaf
  split
  · rename_i hc
    obtain ⟨k, s, n, l⟩ := u
    have hk : k = 3 := by have hc := hc.1; have hc : (k == 3) = true := hc; simpa using hc
    subst hk
    rw [lvB_out (by decide) (by decide), valid3] at hu
    have hb := hQ.1 rfl
    show lvB (.mk 3 s (n + by_) l) = true
    rw [lvB_out (by decide) (by decide), valid3]
    exact ⟨by omega, by omega, hu.2.2.1, hu.2.2.2⟩
  · exact hu
theorem suT_lv {i M : Int} {s t : Tm} {D : Int} (hi : 0 ≤ i) (hM : M + D ≤ 4611686018427387904) (hbs : bd M s) (hs : lvB s = true) (hl : lvB t = true) (d : Int) (h0 : 0 ≤ d) (hD : d + t.sz ≤ D) : lvB (suT i s t d) = true := by
  refine walkF_lv _ (fun u d => 0 ≤ d ∧ d + u.sz ≤ D) (fun k s n l d hQ u hu => ?_) (fun u d hu hQ h5 h6 => ?_) t d hl ⟨h0, hD⟩
  · have := Tm.szs_mem hu
    simp only [Tm.sz] at hQ
    constructor
    · have := hQ.1; split <;> omega
    · have := hQ.2; split <;> omega
  · unfold suLeaf
    split
    · rename_i hc
      split
      · exact hu
      · rename_i hlt
        split
        · have := hQ.2
          exact shT_lv hQ.1 (D := 0) (by omega) s 0 0 hbs hs (Int.le_refl _)
        · rename_i hne
          obtain ⟨k, s', n, l⟩ := u
          have hk : k = 3 := by have hc : (k == 3) = true := hc; simpa using hc
          subst hk
          rw [lvB_out (by decide) (by decide), valid3] at hu
          have h1 : ¬ n < d + i := hlt
          have h2 : n ≠ d + i := fun e => hne (by rw [show Tm.n (.mk 3 s' n l) = n from rfl, e]; simp)
          show lvB (.mk 3 s' (n - 1) l) = true
          rw [lvB_out (by decide) (by decide), valid3]
          have := hQ.1
          exact ⟨by omega, by omega, hu.2.2.1, hu.2.2.2⟩
    · exact hu
mutual
theorem stepF_lv (M : Int) (hM : M + SZ ≤ 4611686018427387904) : ∀ t : Tm, okB t = true → t.sz ≤ SZ → bd M t → lvB t = true → (stepF t).2 = 1 → lvB (stepF t).1 = true
  | .mk k s n l, ho, hs, hb, hl, h1 => by
    by_cases q : redexB (.mk k s n l) = true
    · obtain ⟨s', n', s1, n1, body, arg, rest, e, ob, oa, orr⟩ := redex_shape ho q
      injection e with e1 e2 e3 e4
      subst e1; subst e2; subst e3; subst e4
      have hF : stepF (.mk 6 s n (.mk 5 s1 n1 [body] :: arg :: rest)) = if roomT body arg = true then (applyF (suT 0 arg body 0) rest, 1) else (noT, 2) := by rw [stepF, if_pos q]; rfl
      rw [hF] at h1 ⊢
      by_cases hr : roomT body arg = true
      · rw [if_pos hr]
        rw [lvB_in (.inr rfl)] at hl
        simp only [lvL, Bool.and_eq_true] at hl
        have hb0 : lvB body = true := by have := hl.1; rw [lvB_in (.inl rfl)] at this; simpa [lvL] using this
        simp only [Tm.sz, Tm.szs] at hs
        exact applyF_lv (suT_lv (M := M) (D := SZ) (Int.le_refl _) hM hb.2.2.1 hl.2.1 hb0 0 (Int.le_refl _) (by omega)) hl.2.2
      · rw [if_neg hr] at h1; cases h1
    · have q : redexB (.mk k s n l) = false := by simpa using q
      rw [stepF_non q] at h1 ⊢
      split at h1
      · cases h1
      split at h1
      · rename_i h0 h2
        rw [if_neg h0, if_pos h2]
        simp only [Tm.sz] at hs
        have hk : k = 5 ∨ k = 6 := by
          by_cases k5 : k = 5
          · exact .inl k5
          · by_cases k6 : k = 6
            · exact .inr k6
            · have : l = [] := okB0 ho k5 k6
              subst this
              exact absurd rfl h0
        rw [lvB_in hk] at hl
        show lvB (.mk k [] 0 (stepL l).1) = true
        rw [lvB_in hk]
        exact stepL_lv M hM l (okB_l ho) (by omega) hb.2 hl h2
      · cases h1
theorem stepL_lv (M : Int) (hM : M + SZ ≤ 4611686018427387904) : ∀ l : List Tm, okL l = true → Tm.szs l ≤ SZ → bds M l → lvL l = true → (stepL l).2 = 1 → lvL (stepL l).1 = true
  | [], _, _, _, _, h => by cases h
  | t :: l, ho, hs, hb, hl, h => by
    simp only [okL, Bool.and_eq_true] at ho
    simp only [Tm.szs] at hs
    simp only [lvL, Bool.and_eq_true] at hl
    rw [stepL] at h ⊢
    split at h
    · rename_i h0
      rw [if_pos h0]
      simp only [lvL, hl.1, stepL_lv M hM l ho.2 (by omega) hb.2 hl.2 h, Bool.and_self]
    · rename_i h0
      rw [if_neg h0]
      simp only [lvL, hl.2, stepF_lv M hM t ho.1 (by omega) hb.1 hl.1 h, Bool.and_self]
end
theorem runS_lv : ∀ {F : Nat} {t u : Tm} {G : Nat}, Fit F t → lvB t = true → runS F t = some (u, G) → lvB u = true
  | 0, t, u, G, hf, hl, h => by
    rw [runS] at h
    split at h
    · injection h with h; injection h with h1 h2; subst h1; exact hl
    · cases h
  | F + 1, t, u, G, hf, hl, h => by
    rw [runS] at h
    split at h
    · injection h with h; injection h with h1 h2; subst h1; exact hl
    · split at h
      · rename_i h1
        exact runS_lv (hf.next h1) (stepF_lv M61 (by simp only [M61, SZ]; omega) t hf.ok hf.sz hf.bd hl h1) h
      · cases h
end Go.AM
