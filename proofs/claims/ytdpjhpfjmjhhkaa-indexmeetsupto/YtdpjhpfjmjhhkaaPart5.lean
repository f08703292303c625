/- A calculus of plain values for the model's code, what the code of each function asks (computed by the kernel), contracts of the functions, and plain laws (part 5). No conditions. -/
import Derived.Test.YtdpjhpfjmjhhkaaPart4
import Derived.Test.YtdpjhpfjmjhhkaaShelf
import Derived.Test.YtdpjhpfjmjhhkaaPart3
import Derived.ProofKit
import Derived.OpenShut
import Derived.JoinedCond
import Derived.WalkKit
set_option maxRecDepth 100000
open Go Go.Proofs
namespace Go.AM
/-- lambent/lambentref07.Near -/
def lv44 : List (Nat × List Nat) := [(1, [1, 2, 5])]
theorem v44 (t_0 : Int) (t_1 : List UInt8) (t_2 : Int) (t_3 : List (List FV)) (most : Int) (r : TV) (Hs' : List AObj) : vcE Try.prog sh lv44 44 [(.agg [(.a (.fz (.int .i64 t_0))), (.a (.fz (.str t_1))), (.a (.fz (.int .i64 t_2))), (.a (.fz (.sl false 4 t_3)))]), (.c (.a (.fz (.int .i64 most))))] [] (fun r0 Hs0 => TV.Le r0 r ∧ Hs0 = Hs') (RPt Try.prog 44 0 r Hs') =
    (br ((t_0 : Int) != (2 : Int)) (br (decide ((t_2 : Int) > most)) (TV.Le (.c (.a (.fz (.bool false)))) r ∧ [] = Hs') (br (decide ((t_2 : Int) < (IntKind.wrap .i64 (0 - most)))) (TV.Le (.c (.a (.fz (.bool false)))) r ∧ [] = Hs') (RPt Try.prog 44 0 r Hs' 1 ⟨[(1, (.c (.a (.fz (.int .i64 most))))), (2, (.c (.a (.ep 0 4 0 0)))), (5, (.c (.a (.fz (.int .i64 (0 : Int))))))], [(0, (.arr 4 [[(.a (.fz (.int .i64 t_0))), (.a (.fz (.str t_1))), (.a (.fz (.int .i64 t_2))), (.a (.fz (.sl false 4 t_3)))]]))], 1⟩))) (RPt Try.prog 44 0 r Hs' 1 ⟨[(1, (.c (.a (.fz (.int .i64 most))))), (2, (.c (.a (.ep 0 4 0 0)))), (5, (.c (.a (.fz (.int .i64 (0 : Int))))))], [(0, (.arr 4 [[(.a (.fz (.int .i64 t_0))), (.a (.fz (.str t_1))), (.a (.fz (.int .i64 t_2))), (.a (.fz (.sl false 4 t_3)))]]))], 1⟩)) := by kernel_rfl
theorem v44_1a (x1 : Int) (x5 : Int) (h0_0 : Int) (h0_1 : List UInt8) (h0_2 : Int) (h0_3 : List (List FV)) (r : TV) (Hs' : List AObj) : vcP Try.prog sh lv44 44 0 (fun r0 Hs0 => TV.Le r0 r ∧ Hs0 = Hs') (RPt Try.prog 44 0 r Hs') 1 ⟨[(1, (.c (.a (.fz (.int .i64 x1))))), (2, (.c (.a (.ep 0 4 0 0)))), (5, (.c (.a (.fz (.int .i64 x5)))))], [(0, (.arr 4 [[(.a (.fz (.int .i64 h0_0))), (.a (.fz (.str h0_1))), (.a (.fz (.int .i64 h0_2))), (.a (.fz (.sl false 4 h0_3)))]]))], 1⟩ =
    ((FV.isSl 4 (.sl false 4 h0_3) = true) ∧ (br (decide ((x5 : Int) < (((List.length h0_3) : Nat) : Int))) (((FV.isSl 4 (.sl false 4 h0_3) = true) ∧ ((0 ≤ x5) ∧ ((x5 < (((List.length h0_3) : Nat) : Int)) ∧ (((rE (List.getD h0_3 (Int.toNat x5) [])) : List FV) = (List.getD h0_3 (Int.toNat x5) []))))) ∧ (∃ b1 : Bool, ((AC Try.prog 44 [(aE (List.getD h0_3 (Int.toNat x5) [])), (.c (.a (.fz (.int .i64 x1))))] [] (.c (.a (.fz (.bool b1)))) []) ∧ (br (!b1) (TV.Le (.c (.a (.fz (.bool false)))) r ∧ [] = Hs') (RPt Try.prog 44 0 r Hs' 1 ⟨[(1, (.c (.a (.fz (.int .i64 x1))))), (2, (.c (.a (.ep 0 4 0 0)))), (5, (.c (.a (.fz (.int .i64 (IntKind.wrap .i64 (x5 + (1 : Int))))))))], [(0, (.arr 4 [[(.a (.fz (.int .i64 h0_0))), (.a (.fz (.str h0_1))), (.a (.fz (.int .i64 h0_2))), (.a (.fz (.sl false 4 h0_3)))]]))], 1⟩))))) (TV.Le (.c (.a (.fz (.bool true)))) r ∧ [] = Hs'))) := by kernel_rfl
/-- lambent/lambentlaw25.IndexSelects -/
def lv4 : List (Nat × List Nat) := []
theorem v4 (l : List (List FV)) (name : List UInt8) (args : Int) (k_0 : Bool) (k_1 : Int) (k_2 : List UInt8) (k_3 : Int) (k_4 : Int) (r : TV) (Hs' : List AObj) : vcE Try.prog sh lv4 4 [(.c (.a (.fz (.sl false 6 l)))), (.c (.a (.fz (.str name)))), (.c (.a (.fz (.int .i64 args)))), (.agg [(.a (.fz (.bool k_0))), (.a (.fz (.int .i64 k_1))), (.a (.fz (.str k_2))), (.a (.fz (.int .i64 k_3))), (.a (.fz (.int .i64 k_4)))])] [] (fun r0 Hs0 => TV.Le r0 r ∧ Hs0 = Hs') (RPt Try.prog 4 0 r Hs') =
    (∃ b1 : Bool, ((AC Try.prog 8 [] [] (.c (.a (.fz (.bool b1)))) []) ∧ (br (!b1) (TV.Le (.c (.a (.fz (.bool false)))) r ∧ [] = Hs') (∃ b2 : Bool, ((AC Try.prog 10 [(.c (.a (.fz (.sl false 6 l))))] [] (.c (.a (.fz (.bool b2)))) []) ∧ (br b2 (TV.Le (.c (.a (.fz (.bool b1)))) r ∧ [] = Hs') (br (decide (((((List.length name) : Nat) : Int) : Int) > (60 : Int))) (TV.Le (.c (.a (.fz (.bool b1)))) r ∧ [] = Hs') (br (decide (((((List.length k_2) : Nat) : Int) : Int) > (60 : Int))) (TV.Le (.c (.a (.fz (.bool b1)))) r ∧ [] = Hs') (∃ b3 : Bool, (∃ n4 : Int, (∃ s5 : List UInt8, (∃ n6 : Int, (∃ n7 : Int, ((AC Try.prog 11 [(.agg [(.a (.fz (.bool k_0))), (.a (.fz (.int .i64 k_1))), (.a (.fz (.str k_2))), (.a (.fz (.int .i64 k_3))), (.a (.fz (.int .i64 k_4)))])] [] (.agg [(.a (.fz (.bool b3))), (.a (.fz (.int .i64 n4))), (.a (.fz (.str s5))), (.a (.fz (.int .i64 n6))), (.a (.fz (.int .i64 n7)))]) []) ∧ (∃ z8 : List Int, ((AC Try.prog 18 [(.c (.a (.fz (.sl false 6 l)))), (.c (.a (.fz (.str name)))), (.c (.a (.fz (.int .i64 args)))), (.agg [(.a (.fz (.bool b3))), (.a (.fz (.int .i64 n4))), (.a (.fz (.str s5))), (.a (.fz (.int .i64 n6))), (.a (.fz (.int .i64 n7)))])] [] (.c (.a (.fz (.sl false 1 (IR z8))))) []) ∧ (∃ z9 : List MapZ, ((AC Try.prog 19 [(.c (.a (.fz (.sl false 6 l))))] [] (.c (.a (.ep 0 1 0 0))) [(.arr 1 [[(.a (.mp 1))]]), (.mapz z9)]) ∧ (∃ z10 : List Int, ((AC Try.prog 21 [(.c (.a (.fz (.sl false 6 l)))), (.c (.a (.fz (.str name)))), (.c (.a (.fz (.int .i64 args)))), (.agg [(.a (.fz (.bool k_0))), (.a (.fz (.int .i64 k_1))), (.a (.fz (.str k_2))), (.a (.fz (.int .i64 k_3))), (.a (.fz (.int .i64 k_4)))])] [] (.c (.a (.fz (.sl false 1 (IR z10))))) []) ∧ (∃ b11 : Bool, ((AC Try.prog 20 [(.c (.a (.fz (.sl false 1 (IR z10))))), (.c (.a (.fz (.sl false 1 (IR z8)))))] [] (.c (.a (.fz (.bool b11)))) []) ∧ (∃ z12 : List Int, ((AC Try.prog 22 [(.c (.a (.ep 0 1 0 0))), (.c (.a (.fz (.str name)))), (.c (.a (.fz (.int .i64 args)))), (.agg [(.a (.fz (.bool k_0))), (.a (.fz (.int .i64 k_1))), (.a (.fz (.str k_2))), (.a (.fz (.int .i64 k_3))), (.a (.fz (.int .i64 k_4)))])] [(.arr 1 [[(.a (.mp 1))]]), (.mapz z9)] (.c (.a (.fz (.sl false 1 (IR z12))))) [(.arr 1 [[(.a (.mp 1))]]), (.mapz z9)]) ∧ (∃ b13 : Bool, ((AC Try.prog 20 [(.c (.a (.fz (.sl false 1 (IR z12))))), (.c (.a (.fz (.sl false 1 (IR z8)))))] [] (.c (.a (.fz (.bool b13)))) []) ∧ (∃ z14 : List Int, ((AC Try.prog 22 [(.c (.a (.ep 0 1 0 0))), (.c (.a (.fz (.str name)))), (.c (.a (.fz (.int .i64 args)))), (.agg [(.a (.fz (.bool k_0))), (.a (.fz (.int .i64 k_1))), (.a (.fz (.str k_2))), (.a (.fz (.int .i64 k_3))), (.a (.fz (.int .i64 k_4)))])] [(.arr 1 [[(.a (.mp 1))]]), (.mapz z9)] (.c (.a (.fz (.sl false 1 (IR z14))))) [(.arr 1 [[(.a (.mp 1))]]), (.mapz z9)]) ∧ (∃ b15 : Bool, ((AC Try.prog 20 [(.c (.a (.fz (.sl false 1 (IR z14))))), (.c (.a (.fz (.sl false 1 (IR z8)))))] [] (.c (.a (.fz (.bool b15)))) []) ∧ (br b1 (br b11 (br b13 (TV.Le (.c (.a (.fz (.bool b15)))) r ∧ [] = Hs') (TV.Le (.c (.a (.fz (.bool false)))) r ∧ [] = Hs')) (TV.Le (.c (.a (.fz (.bool false)))) r ∧ [] = Hs')) (TV.Le (.c (.a (.fz (.bool false)))) r ∧ [] = Hs')))))))))))))))))))))))))))))))) := by kernel_rfl
/-- lambent/lambentref25.Select -/
def lv18 : List (Nat × List Nat) := [(1, [0, 1, 2, 7, 9, 10])]
theorem v18 (l : List (List FV)) (name : List UInt8) (args : Int) (k_0 : Bool) (k_1 : Int) (k_2 : List UInt8) (k_3 : Int) (k_4 : Int) (r : TV) (Hs' : List AObj) : vcE Try.prog sh lv18 18 [(.c (.a (.fz (.sl false 6 l)))), (.c (.a (.fz (.str name)))), (.c (.a (.fz (.int .i64 args)))), (.agg [(.a (.fz (.bool k_0))), (.a (.fz (.int .i64 k_1))), (.a (.fz (.str k_2))), (.a (.fz (.int .i64 k_3))), (.a (.fz (.int .i64 k_4)))])] [] (fun r0 Hs0 => TV.Le r0 r ∧ Hs0 = Hs') (RPt Try.prog 18 0 r Hs') =
    (RPt Try.prog 18 0 r Hs' 1 ⟨[(0, (.c (.a (.fz (.sl false 6 l))))), (1, (.c (.a (.fz (.str name))))), (2, (.c (.a (.fz (.int .i64 args))))), (7, (.c (.a (.ep 0 5 0 0)))), (9, (.c (.a (.fz .nils)))), (10, (.c (.a (.fz (.int .i64 (0 : Int))))))], [(0, (.arr 5 [[(.a (.fz (.bool k_0))), (.a (.fz (.int .i64 k_1))), (.a (.fz (.str k_2))), (.a (.fz (.int .i64 k_3))), (.a (.fz (.int .i64 k_4)))]]))], 1⟩) := by kernel_rfl
theorem v18_1a (x0 : List (List FV)) (x1 : List UInt8) (x2 : Int) (x10 : Int) (h0_0 : Bool) (h0_1 : Int) (h0_2 : List UInt8) (h0_3 : Int) (h0_4 : Int) (r : TV) (Hs' : List AObj) : vcP Try.prog sh lv18 18 0 (fun r0 Hs0 => TV.Le r0 r ∧ Hs0 = Hs') (RPt Try.prog 18 0 r Hs') 1 ⟨[(0, (.c (.a (.fz (.sl false 6 x0))))), (1, (.c (.a (.fz (.str x1))))), (2, (.c (.a (.fz (.int .i64 x2))))), (7, (.c (.a (.ep 0 5 0 0)))), (9, (.c (.a (.fz .nils)))), (10, (.c (.a (.fz (.int .i64 x10)))))], [(0, (.arr 5 [[(.a (.fz (.bool h0_0))), (.a (.fz (.int .i64 h0_1))), (.a (.fz (.str h0_2))), (.a (.fz (.int .i64 h0_3))), (.a (.fz (.int .i64 h0_4)))]]))], 1⟩ =
    ((FV.isSl 6 (.sl false 6 x0) = true) ∧ (br (decide ((x10 : Int) < (((List.length x0) : Nat) : Int))) (((FV.isSl 6 (.sl false 6 x0) = true) ∧ ((0 ≤ x10) ∧ ((x10 < (((List.length x0) : Nat) : Int)) ∧ (([(.str (FV.asS (List.getD (List.getD x0 (Int.toNat x10) []) 0 FV.nils))), (.int .i64 (FV.asI (List.getD (List.getD x0 (Int.toNat x10) []) 1 FV.nils))), (.int .i64 (FV.asI (List.getD (List.getD x0 (Int.toNat x10) []) 2 FV.nils))), (.int .i64 (FV.asI (List.getD (List.getD x0 (Int.toNat x10) []) 3 FV.nils))), (.int .i64 (FV.asI (List.getD (List.getD x0 (Int.toNat x10) []) 4 FV.nils))), (List.getD (List.getD x0 (Int.toNat x10) []) 5 FV.nils)] : List FV) = (List.getD x0 (Int.toNat x10) []))))) ∧ (br (((FV.asS (List.getD (List.getD x0 (Int.toNat x10) []) 0 FV.nils)) : List UInt8) == x1) (((FV.isSl 6 (.sl false 6 x0) = true) ∧ ((0 ≤ x10) ∧ ((x10 < (((List.length x0) : Nat) : Int)) ∧ (([(.str (FV.asS (List.getD (List.getD x0 (Int.toNat x10) []) 0 FV.nils))), (.int .i64 (FV.asI (List.getD (List.getD x0 (Int.toNat x10) []) 1 FV.nils))), (.int .i64 (FV.asI (List.getD (List.getD x0 (Int.toNat x10) []) 2 FV.nils))), (.int .i64 (FV.asI (List.getD (List.getD x0 (Int.toNat x10) []) 3 FV.nils))), (.int .i64 (FV.asI (List.getD (List.getD x0 (Int.toNat x10) []) 4 FV.nils))), (List.getD (List.getD x0 (Int.toNat x10) []) 5 FV.nils)] : List FV) = (List.getD x0 (Int.toNat x10) []))))) ∧ (br (((FV.asI (List.getD (List.getD x0 (Int.toNat x10) []) 1 FV.nils)) : Int) == x2) (((FV.isSl 6 (.sl false 6 x0) = true) ∧ ((0 ≤ x10) ∧ ((x10 < (((List.length x0) : Nat) : Int)) ∧ (([(.str (FV.asS (List.getD (List.getD x0 (Int.toNat x10) []) 0 FV.nils))), (.int .i64 (FV.asI (List.getD (List.getD x0 (Int.toNat x10) []) 1 FV.nils))), (.int .i64 (FV.asI (List.getD (List.getD x0 (Int.toNat x10) []) 2 FV.nils))), (.int .i64 (FV.asI (List.getD (List.getD x0 (Int.toNat x10) []) 3 FV.nils))), (.int .i64 (FV.asI (List.getD (List.getD x0 (Int.toNat x10) []) 4 FV.nils))), (List.getD (List.getD x0 (Int.toNat x10) []) 5 FV.nils)] : List FV) = (List.getD x0 (Int.toNat x10) []))))) ∧ (∃ b1 : Bool, (∃ n2 : Int, (∃ s3 : List UInt8, (∃ n4 : Int, (∃ n5 : Int, ((AC Try.prog 15 [(.agg [(.a (.fz (.str (FV.asS (List.getD (List.getD x0 (Int.toNat x10) []) 0 FV.nils))))), (.a (.fz (.int .i64 (FV.asI (List.getD (List.getD x0 (Int.toNat x10) []) 1 FV.nils))))), (.a (.fz (.int .i64 (FV.asI (List.getD (List.getD x0 (Int.toNat x10) []) 2 FV.nils))))), (.a (.fz (.int .i64 (FV.asI (List.getD (List.getD x0 (Int.toNat x10) []) 3 FV.nils))))), (.a (.fz (.int .i64 (FV.asI (List.getD (List.getD x0 (Int.toNat x10) []) 4 FV.nils))))), (.a (.fz (List.getD (List.getD x0 (Int.toNat x10) []) 5 FV.nils)))])] [] (.agg [(.a (.fz (.bool b1))), (.a (.fz (.int .i64 n2))), (.a (.fz (.str s3))), (.a (.fz (.int .i64 n4))), (.a (.fz (.int .i64 n5)))]) []) ∧ (∃ b6 : Bool, ((AC Try.prog 17 [(.agg [(.a (.fz (.bool b1))), (.a (.fz (.int .i64 n2))), (.a (.fz (.str s3))), (.a (.fz (.int .i64 n4))), (.a (.fz (.int .i64 n5)))]), (.agg [(.a (.fz (.bool h0_0))), (.a (.fz (.int .i64 h0_1))), (.a (.fz (.str h0_2))), (.a (.fz (.int .i64 h0_3))), (.a (.fz (.int .i64 h0_4)))])] [] (.c (.a (.fz (.bool b6)))) []) ∧ (br b6 ((1 ≤ 1) ∧ ((roomB 1 8) ∧ (RPt Try.prog 18 0 r Hs' 1 ⟨[(0, (.c (.a (.fz (.sl false 6 x0))))), (1, (.c (.a (.fz (.str x1))))), (2, (.c (.a (.fz (.int .i64 x2))))), (7, (.c (.a (.ep 0 5 0 0)))), (9, (.c (.a (.osl 1 1 0 1)))), (10, (.c (.a (.fz (.int .i64 (IntKind.wrap .i64 (x10 + (1 : Int))))))))], [(0, (.arr 5 [[(.a (.fz (.bool h0_0))), (.a (.fz (.int .i64 h0_1))), (.a (.fz (.str h0_2))), (.a (.fz (.int .i64 h0_3))), (.a (.fz (.int .i64 h0_4)))]])), (1, (.arz 1 [[(.int .i64 x10)]]))], 2⟩))) (RPt Try.prog 18 0 r Hs' 1 ⟨[(0, (.c (.a (.fz (.sl false 6 x0))))), (1, (.c (.a (.fz (.str x1))))), (2, (.c (.a (.fz (.int .i64 x2))))), (7, (.c (.a (.ep 0 5 0 0)))), (9, (.c (.a (.fz .nils)))), (10, (.c (.a (.fz (.int .i64 (IntKind.wrap .i64 (x10 + (1 : Int))))))))], [(0, (.arr 5 [[(.a (.fz (.bool h0_0))), (.a (.fz (.int .i64 h0_1))), (.a (.fz (.str h0_2))), (.a (.fz (.int .i64 h0_3))), (.a (.fz (.int .i64 h0_4)))]]))], 1⟩))))))))))) (RPt Try.prog 18 0 r Hs' 1 ⟨[(0, (.c (.a (.fz (.sl false 6 x0))))), (1, (.c (.a (.fz (.str x1))))), (2, (.c (.a (.fz (.int .i64 x2))))), (7, (.c (.a (.ep 0 5 0 0)))), (9, (.c (.a (.fz .nils)))), (10, (.c (.a (.fz (.int .i64 (IntKind.wrap .i64 (x10 + (1 : Int))))))))], [(0, (.arr 5 [[(.a (.fz (.bool h0_0))), (.a (.fz (.int .i64 h0_1))), (.a (.fz (.str h0_2))), (.a (.fz (.int .i64 h0_3))), (.a (.fz (.int .i64 h0_4)))]]))], 1⟩))) (RPt Try.prog 18 0 r Hs' 1 ⟨[(0, (.c (.a (.fz (.sl false 6 x0))))), (1, (.c (.a (.fz (.str x1))))), (2, (.c (.a (.fz (.int .i64 x2))))), (7, (.c (.a (.ep 0 5 0 0)))), (9, (.c (.a (.fz .nils)))), (10, (.c (.a (.fz (.int .i64 (IntKind.wrap .i64 (x10 + (1 : Int))))))))], [(0, (.arr 5 [[(.a (.fz (.bool h0_0))), (.a (.fz (.int .i64 h0_1))), (.a (.fz (.str h0_2))), (.a (.fz (.int .i64 h0_3))), (.a (.fz (.int .i64 h0_4)))]]))], 1⟩))) (TV.Le (.c (.a (.fz .nils))) r ∧ [] = Hs'))) := by kernel_rfl
theorem v18_1b (x0 : List (List FV)) (x1 : List UInt8) (x2 : Int) (x9l : Nat) (x10 : Int) (h0_0 : Bool) (h0_1 : Int) (h0_2 : List UInt8) (h0_3 : Int) (h0_4 : Int) (h1 : List (List FV)) (r : TV) (Hs' : List AObj) : vcP Try.prog sh lv18 18 0 (fun r0 Hs0 => TV.Le r0 r ∧ Hs0 = Hs') (RPt Try.prog 18 0 r Hs') 1 ⟨[(0, (.c (.a (.fz (.sl false 6 x0))))), (1, (.c (.a (.fz (.str x1))))), (2, (.c (.a (.fz (.int .i64 x2))))), (7, (.c (.a (.ep 0 5 0 0)))), (9, (.c (.a (.osl 1 1 0 x9l)))), (10, (.c (.a (.fz (.int .i64 x10)))))], [(0, (.arr 5 [[(.a (.fz (.bool h0_0))), (.a (.fz (.int .i64 h0_1))), (.a (.fz (.str h0_2))), (.a (.fz (.int .i64 h0_3))), (.a (.fz (.int .i64 h0_4)))]])), (1, (.arz 1 h1))], 2⟩ =
    ((FV.isSl 6 (.sl false 6 x0) = true) ∧ (br (decide ((x10 : Int) < (((List.length x0) : Nat) : Int))) (((FV.isSl 6 (.sl false 6 x0) = true) ∧ ((0 ≤ x10) ∧ ((x10 < (((List.length x0) : Nat) : Int)) ∧ (([(.str (FV.asS (List.getD (List.getD x0 (Int.toNat x10) []) 0 FV.nils))), (.int .i64 (FV.asI (List.getD (List.getD x0 (Int.toNat x10) []) 1 FV.nils))), (.int .i64 (FV.asI (List.getD (List.getD x0 (Int.toNat x10) []) 2 FV.nils))), (.int .i64 (FV.asI (List.getD (List.getD x0 (Int.toNat x10) []) 3 FV.nils))), (.int .i64 (FV.asI (List.getD (List.getD x0 (Int.toNat x10) []) 4 FV.nils))), (List.getD (List.getD x0 (Int.toNat x10) []) 5 FV.nils)] : List FV) = (List.getD x0 (Int.toNat x10) []))))) ∧ (br (((FV.asS (List.getD (List.getD x0 (Int.toNat x10) []) 0 FV.nils)) : List UInt8) == x1) (((FV.isSl 6 (.sl false 6 x0) = true) ∧ ((0 ≤ x10) ∧ ((x10 < (((List.length x0) : Nat) : Int)) ∧ (([(.str (FV.asS (List.getD (List.getD x0 (Int.toNat x10) []) 0 FV.nils))), (.int .i64 (FV.asI (List.getD (List.getD x0 (Int.toNat x10) []) 1 FV.nils))), (.int .i64 (FV.asI (List.getD (List.getD x0 (Int.toNat x10) []) 2 FV.nils))), (.int .i64 (FV.asI (List.getD (List.getD x0 (Int.toNat x10) []) 3 FV.nils))), (.int .i64 (FV.asI (List.getD (List.getD x0 (Int.toNat x10) []) 4 FV.nils))), (List.getD (List.getD x0 (Int.toNat x10) []) 5 FV.nils)] : List FV) = (List.getD x0 (Int.toNat x10) []))))) ∧ (br (((FV.asI (List.getD (List.getD x0 (Int.toNat x10) []) 1 FV.nils)) : Int) == x2) (((FV.isSl 6 (.sl false 6 x0) = true) ∧ ((0 ≤ x10) ∧ ((x10 < (((List.length x0) : Nat) : Int)) ∧ (([(.str (FV.asS (List.getD (List.getD x0 (Int.toNat x10) []) 0 FV.nils))), (.int .i64 (FV.asI (List.getD (List.getD x0 (Int.toNat x10) []) 1 FV.nils))), (.int .i64 (FV.asI (List.getD (List.getD x0 (Int.toNat x10) []) 2 FV.nils))), (.int .i64 (FV.asI (List.getD (List.getD x0 (Int.toNat x10) []) 3 FV.nils))), (.int .i64 (FV.asI (List.getD (List.getD x0 (Int.toNat x10) []) 4 FV.nils))), (List.getD (List.getD x0 (Int.toNat x10) []) 5 FV.nils)] : List FV) = (List.getD x0 (Int.toNat x10) []))))) ∧ (∃ b1 : Bool, (∃ n2 : Int, (∃ s3 : List UInt8, (∃ n4 : Int, (∃ n5 : Int, ((AC Try.prog 15 [(.agg [(.a (.fz (.str (FV.asS (List.getD (List.getD x0 (Int.toNat x10) []) 0 FV.nils))))), (.a (.fz (.int .i64 (FV.asI (List.getD (List.getD x0 (Int.toNat x10) []) 1 FV.nils))))), (.a (.fz (.int .i64 (FV.asI (List.getD (List.getD x0 (Int.toNat x10) []) 2 FV.nils))))), (.a (.fz (.int .i64 (FV.asI (List.getD (List.getD x0 (Int.toNat x10) []) 3 FV.nils))))), (.a (.fz (.int .i64 (FV.asI (List.getD (List.getD x0 (Int.toNat x10) []) 4 FV.nils))))), (.a (.fz (List.getD (List.getD x0 (Int.toNat x10) []) 5 FV.nils)))])] [] (.agg [(.a (.fz (.bool b1))), (.a (.fz (.int .i64 n2))), (.a (.fz (.str s3))), (.a (.fz (.int .i64 n4))), (.a (.fz (.int .i64 n5)))]) []) ∧ (∃ b6 : Bool, ((AC Try.prog 17 [(.agg [(.a (.fz (.bool b1))), (.a (.fz (.int .i64 n2))), (.a (.fz (.str s3))), (.a (.fz (.int .i64 n4))), (.a (.fz (.int .i64 n5)))]), (.agg [(.a (.fz (.bool h0_0))), (.a (.fz (.int .i64 h0_1))), (.a (.fz (.str h0_2))), (.a (.fz (.int .i64 h0_3))), (.a (.fz (.int .i64 h0_4)))])] [] (.c (.a (.fz (.bool b6)))) []) ∧ (br b6 ((1 ≤ 1) ∧ ((x9l ≤ (List.length h1) ∧ roomB (x9l + 1) 8) ∧ (RPt Try.prog 18 0 r Hs' 1 ⟨[(0, (.c (.a (.fz (.sl false 6 x0))))), (1, (.c (.a (.fz (.str x1))))), (2, (.c (.a (.fz (.int .i64 x2))))), (7, (.c (.a (.ep 0 5 0 0)))), (9, (.c (.a (.osl 1 1 0 (x9l + 1))))), (10, (.c (.a (.fz (.int .i64 (IntKind.wrap .i64 (x10 + (1 : Int))))))))], [(0, (.arr 5 [[(.a (.fz (.bool h0_0))), (.a (.fz (.int .i64 h0_1))), (.a (.fz (.str h0_2))), (.a (.fz (.int .i64 h0_3))), (.a (.fz (.int .i64 h0_4)))]])), (1, (.arz 1 ((List.take x9l h1) ++ [[(.int .i64 x10)]])))], 2⟩))) (RPt Try.prog 18 0 r Hs' 1 ⟨[(0, (.c (.a (.fz (.sl false 6 x0))))), (1, (.c (.a (.fz (.str x1))))), (2, (.c (.a (.fz (.int .i64 x2))))), (7, (.c (.a (.ep 0 5 0 0)))), (9, (.c (.a (.osl 1 1 0 x9l)))), (10, (.c (.a (.fz (.int .i64 (IntKind.wrap .i64 (x10 + (1 : Int))))))))], [(0, (.arr 5 [[(.a (.fz (.bool h0_0))), (.a (.fz (.int .i64 h0_1))), (.a (.fz (.str h0_2))), (.a (.fz (.int .i64 h0_3))), (.a (.fz (.int .i64 h0_4)))]])), (1, (.arz 1 h1))], 2⟩))))))))))) (RPt Try.prog 18 0 r Hs' 1 ⟨[(0, (.c (.a (.fz (.sl false 6 x0))))), (1, (.c (.a (.fz (.str x1))))), (2, (.c (.a (.fz (.int .i64 x2))))), (7, (.c (.a (.ep 0 5 0 0)))), (9, (.c (.a (.osl 1 1 0 x9l)))), (10, (.c (.a (.fz (.int .i64 (IntKind.wrap .i64 (x10 + (1 : Int))))))))], [(0, (.arr 5 [[(.a (.fz (.bool h0_0))), (.a (.fz (.int .i64 h0_1))), (.a (.fz (.str h0_2))), (.a (.fz (.int .i64 h0_3))), (.a (.fz (.int .i64 h0_4)))]])), (1, (.arz 1 h1))], 2⟩))) (RPt Try.prog 18 0 r Hs' 1 ⟨[(0, (.c (.a (.fz (.sl false 6 x0))))), (1, (.c (.a (.fz (.str x1))))), (2, (.c (.a (.fz (.int .i64 x2))))), (7, (.c (.a (.ep 0 5 0 0)))), (9, (.c (.a (.osl 1 1 0 x9l)))), (10, (.c (.a (.fz (.int .i64 (IntKind.wrap .i64 (x10 + (1 : Int))))))))], [(0, (.arr 5 [[(.a (.fz (.bool h0_0))), (.a (.fz (.int .i64 h0_1))), (.a (.fz (.str h0_2))), (.a (.fz (.int .i64 h0_3))), (.a (.fz (.int .i64 h0_4)))]])), (1, (.arz 1 h1))], 2⟩))) (((1 : Nat) = 1 ∧ (0 + x9l) ≤ (List.length h1)) ∧ (TV.Le (.c (.a (.fz (.sl false 1 (List.take x9l (List.drop 0 h1)))))) r ∧ [] = Hs')))) := by kernel_rfl
/-- lambent/lambentref25.Same -/
def lv20 : List (Nat × List Nat) := [(1, [0, 1, 5])]
theorem v20 (a : List (List FV)) (b : List (List FV)) (r : TV) (Hs' : List AObj) : vcE Try.prog sh lv20 20 [(.c (.a (.fz (.sl false 1 a)))), (.c (.a (.fz (.sl false 1 b))))] [] (fun r0 Hs0 => TV.Le r0 r ∧ Hs0 = Hs') (RPt Try.prog 20 0 r Hs') =
    ((FV.isSl 1 (.sl false 1 a) = true) ∧ ((FV.isSl 1 (.sl false 1 b) = true) ∧ (br (((((List.length a) : Nat) : Int) : Int) != (((List.length b) : Nat) : Int)) (TV.Le (.c (.a (.fz (.bool false)))) r ∧ [] = Hs') (RPt Try.prog 20 0 r Hs' 1 ⟨[(0, (.c (.a (.fz (.sl false 1 a))))), (1, (.c (.a (.fz (.sl false 1 b))))), (5, (.c (.a (.fz (.int .i64 (0 : Int))))))], [], 0⟩)))) := by kernel_rfl
theorem v20_1a (x0 : List (List FV)) (x1 : List (List FV)) (x5 : Int) (r : TV) (Hs' : List AObj) : vcP Try.prog sh lv20 20 0 (fun r0 Hs0 => TV.Le r0 r ∧ Hs0 = Hs') (RPt Try.prog 20 0 r Hs') 1 ⟨[(0, (.c (.a (.fz (.sl false 1 x0))))), (1, (.c (.a (.fz (.sl false 1 x1))))), (5, (.c (.a (.fz (.int .i64 x5)))))], [], 0⟩ =
    ((FV.isSl 1 (.sl false 1 x0) = true) ∧ (br (decide ((x5 : Int) < (((List.length x0) : Nat) : Int))) (((FV.isSl 1 (.sl false 1 x0) = true) ∧ ((0 ≤ x5) ∧ ((x5 < (((List.length x0) : Nat) : Int)) ∧ (([(.int .i64 (FV.asI (List.getD (List.getD x0 (Int.toNat x5) []) 0 FV.nils)))] : List FV) = (List.getD x0 (Int.toNat x5) []))))) ∧ (((FV.isSl 1 (.sl false 1 x1) = true) ∧ ((0 ≤ x5) ∧ ((x5 < (((List.length x1) : Nat) : Int)) ∧ (([(.int .i64 (FV.asI (List.getD (List.getD x1 (Int.toNat x5) []) 0 FV.nils)))] : List FV) = (List.getD x1 (Int.toNat x5) []))))) ∧ (br (((FV.asI (List.getD (List.getD x0 (Int.toNat x5) []) 0 FV.nils)) : Int) != (FV.asI (List.getD (List.getD x1 (Int.toNat x5) []) 0 FV.nils))) (TV.Le (.c (.a (.fz (.bool false)))) r ∧ [] = Hs') (RPt Try.prog 20 0 r Hs' 1 ⟨[(0, (.c (.a (.fz (.sl false 1 x0))))), (1, (.c (.a (.fz (.sl false 1 x1))))), (5, (.c (.a (.fz (.int .i64 (IntKind.wrap .i64 (x5 + (1 : Int))))))))], [], 0⟩)))) (TV.Le (.c (.a (.fz (.bool true)))) r ∧ [] = Hs'))) := by kernel_rfl
/-- lambent/lambentlaw25.IndexMeets -/
def lv5 : List (Nat × List Nat) := [(1, [2, 3, 4, 5, 11, 15, 16, 17, 18])]
theorem v5 (a_0 : Bool) (a_1 : Int) (a_2 : List UInt8) (a_3 : Int) (a_4 : Int) (b_0 : Bool) (b_1 : Int) (b_2 : List UInt8) (b_3 : Int) (b_4 : Int) (l : List (List FV)) (name : List UInt8) (args : Int) (r : TV) (Hs' : List AObj) : vcE Try.prog sh lv5 5 [(.agg [(.a (.fz (.bool a_0))), (.a (.fz (.int .i64 a_1))), (.a (.fz (.str a_2))), (.a (.fz (.int .i64 a_3))), (.a (.fz (.int .i64 a_4)))]), (.agg [(.a (.fz (.bool b_0))), (.a (.fz (.int .i64 b_1))), (.a (.fz (.str b_2))), (.a (.fz (.int .i64 b_3))), (.a (.fz (.int .i64 b_4)))]), (.c (.a (.fz (.sl false 6 l)))), (.c (.a (.fz (.str name)))), (.c (.a (.fz (.int .i64 args))))] [] (fun r0 Hs0 => TV.Le r0 r ∧ Hs0 = Hs') (RPt Try.prog 5 0 r Hs') =
    (∃ b1 : Bool, ((AC Try.prog 8 [] [] (.c (.a (.fz (.bool b1)))) []) ∧ (br (!b1) (TV.Le (.c (.a (.fz (.bool false)))) r ∧ [] = Hs') (∃ b2 : Bool, ((AC Try.prog 10 [(.c (.a (.fz (.sl false 6 l))))] [] (.c (.a (.fz (.bool b2)))) []) ∧ (br b2 (TV.Le (.c (.a (.fz (.bool b1)))) r ∧ [] = Hs') (br (decide (((((List.length name) : Nat) : Int) : Int) > (60 : Int))) (TV.Le (.c (.a (.fz (.bool b1)))) r ∧ [] = Hs') (br (decide (((((List.length a_2) : Nat) : Int) : Int) > (60 : Int))) (TV.Le (.c (.a (.fz (.bool b1)))) r ∧ [] = Hs') (br (decide (((((List.length b_2) : Nat) : Int) : Int) > (60 : Int))) (TV.Le (.c (.a (.fz (.bool b1)))) r ∧ [] = Hs') (∃ z3 : List MapZ, ((AC Try.prog 19 [(.c (.a (.fz (.sl false 6 l))))] [] (.c (.a (.ep 0 1 0 0))) [(.arr 1 [[(.a (.mp 1))]]), (.mapz z3)]) ∧ (∃ b4 : Bool, ((AC Try.prog 16 [(.agg [(.a (.fz (.bool a_0))), (.a (.fz (.int .i64 a_1))), (.a (.fz (.str a_2))), (.a (.fz (.int .i64 a_3))), (.a (.fz (.int .i64 a_4)))]), (.agg [(.a (.fz (.bool b_0))), (.a (.fz (.int .i64 b_1))), (.a (.fz (.str b_2))), (.a (.fz (.int .i64 b_3))), (.a (.fz (.int .i64 b_4)))])] [] (.c (.a (.fz (.bool b4)))) []) ∧ (∃ b5 : Bool, ((AC Try.prog 16 [(.agg [(.a (.fz (.bool b_0))), (.a (.fz (.int .i64 b_1))), (.a (.fz (.str b_2))), (.a (.fz (.int .i64 b_3))), (.a (.fz (.int .i64 b_4)))]), (.agg [(.a (.fz (.bool a_0))), (.a (.fz (.int .i64 a_1))), (.a (.fz (.str a_2))), (.a (.fz (.int .i64 a_3))), (.a (.fz (.int .i64 a_4)))])] [] (.c (.a (.fz (.bool b5)))) []) ∧ (br (!((b4 : Bool) == b5)) (TV.Le (.c (.a (.fz (.bool false)))) r ∧ [] = Hs') (∃ b6 : Bool, ((AC Try.prog 16 [(.agg [(.a (.fz (.bool a_0))), (.a (.fz (.int .i64 a_1))), (.a (.fz (.str a_2))), (.a (.fz (.int .i64 a_3))), (.a (.fz (.int .i64 a_4)))]), (.agg [(.a (.fz (.bool a_0))), (.a (.fz (.int .i64 a_1))), (.a (.fz (.str a_2))), (.a (.fz (.int .i64 a_3))), (.a (.fz (.int .i64 a_4)))])] [] (.c (.a (.fz (.bool b6)))) []) ∧ (br (!b6) (TV.Le (.c (.a (.fz (.bool false)))) r ∧ [] = Hs') (∃ b7 : Bool, ((AC Try.prog 16 [(.agg [(.a (.fz (.bool true))), (.a (.fz (.int .i64 (0 : Int)))), (.a (.fz (.str []))), (.a (.fz (.int .i64 (0 : Int)))), (.a (.fz (.int .i64 (0 : Int))))]), (.agg [(.a (.fz (.bool b_0))), (.a (.fz (.int .i64 b_1))), (.a (.fz (.str b_2))), (.a (.fz (.int .i64 b_3))), (.a (.fz (.int .i64 b_4)))])] [] (.c (.a (.fz (.bool b7)))) []) ∧ (br (!b7) (TV.Le (.c (.a (.fz (.bool false)))) r ∧ [] = Hs') (∃ z8 : List Int, ((AC Try.prog 22 [(.c (.a (.ep 0 1 0 0))), (.c (.a (.fz (.str name)))), (.c (.a (.fz (.int .i64 args)))), (.agg [(.a (.fz (.bool a_0))), (.a (.fz (.int .i64 a_1))), (.a (.fz (.str a_2))), (.a (.fz (.int .i64 a_3))), (.a (.fz (.int .i64 a_4)))])] [(.arr 1 [[(.a (.mp 1))]]), (.mapz z3)] (.c (.a (.fz (.sl false 1 (IR z8))))) [(.arr 1 [[(.a (.mp 1))]]), (.mapz z3)]) ∧ (∃ z9 : List Int, ((AC Try.prog 22 [(.c (.a (.ep 0 1 0 0))), (.c (.a (.fz (.str name)))), (.c (.a (.fz (.int .i64 args)))), (.agg [(.a (.fz (.bool true))), (.a (.fz (.int .i64 (0 : Int)))), (.a (.fz (.str []))), (.a (.fz (.int .i64 (0 : Int)))), (.a (.fz (.int .i64 (0 : Int))))])] [(.arr 1 [[(.a (.mp 1))]]), (.mapz z3)] (.c (.a (.fz (.sl false 1 (IR z9))))) [(.arr 1 [[(.a (.mp 1))]]), (.mapz z3)]) ∧ (RPt Try.prog 5 0 r Hs' 1 ⟨[(2, (.c (.a (.fz (.sl false 6 l))))), (3, (.c (.a (.fz (.str name))))), (4, (.c (.a (.fz (.int .i64 args))))), (5, (.c (.a (.ep 0 5 0 0)))), (11, (.c (.a (.fz (.bool b1))))), (15, (.c (.a (.fz (.sl false 1 (IR z8)))))), (16, (.c (.a (.fz (.sl false 1 (IR z9)))))), (17, (.c (.a (.fz (.int .i64 (0 : Int)))))), (18, (.c (.a (.fz (.int .i64 (0 : Int))))))], [(0, (.arr 5 [[(.a (.fz (.bool a_0))), (.a (.fz (.int .i64 a_1))), (.a (.fz (.str a_2))), (.a (.fz (.int .i64 a_3))), (.a (.fz (.int .i64 a_4)))]]))], 1⟩))))))))))))))))))))))))))) := by kernel_rfl
theorem v5_1a (x2 : List (List FV)) (x3 : List UInt8) (x4 : Int) (x11 : Bool) (x15 : List (List FV)) (x16 : List (List FV)) (x17 : Int) (x18 : Int) (h0_0 : Bool) (h0_1 : Int) (h0_2 : List UInt8) (h0_3 : Int) (h0_4 : Int) (r : TV) (Hs' : List AObj) : vcP Try.prog sh lv5 5 0 (fun r0 Hs0 => TV.Le r0 r ∧ Hs0 = Hs') (RPt Try.prog 5 0 r Hs') 1 ⟨[(2, (.c (.a (.fz (.sl false 6 x2))))), (3, (.c (.a (.fz (.str x3))))), (4, (.c (.a (.fz (.int .i64 x4))))), (5, (.c (.a (.ep 0 5 0 0)))), (11, (.c (.a (.fz (.bool x11))))), (15, (.c (.a (.fz (.sl false 1 x15))))), (16, (.c (.a (.fz (.sl false 1 x16))))), (17, (.c (.a (.fz (.int .i64 x17))))), (18, (.c (.a (.fz (.int .i64 x18)))))], [(0, (.arr 5 [[(.a (.fz (.bool h0_0))), (.a (.fz (.int .i64 h0_1))), (.a (.fz (.str h0_2))), (.a (.fz (.int .i64 h0_3))), (.a (.fz (.int .i64 h0_4)))]]))], 1⟩ =
    ((FV.isSl 1 (.sl false 1 x16) = true) ∧ (br (decide ((x18 : Int) < (((List.length x16) : Nat) : Int))) (((FV.isSl 1 (.sl false 1 x16) = true) ∧ ((0 ≤ x18) ∧ ((x18 < (((List.length x16) : Nat) : Int)) ∧ (([(.int .i64 (FV.asI (List.getD (List.getD x16 (Int.toNat x18) []) 0 FV.nils)))] : List FV) = (List.getD x16 (Int.toNat x18) []))))) ∧ (((FV.isSl 1 (.sl false 1 x16) = true) ∧ ((0 ≤ x18) ∧ ((x18 < (((List.length x16) : Nat) : Int)) ∧ (([(.int .i64 (FV.asI (List.getD (List.getD x16 (Int.toNat x18) []) 0 FV.nils)))] : List FV) = (List.getD x16 (Int.toNat x18) []))))) ∧ ((FV.isSl 6 (.sl false 6 x2) = true) ∧ (((0 ≤ (FV.asI (List.getD (List.getD x16 (Int.toNat x18) []) 0 FV.nils))) ∧ (((FV.asI (List.getD (List.getD x16 (Int.toNat x18) []) 0 FV.nils)) ≤ (IntKind.wrap .i64 ((FV.asI (List.getD (List.getD x16 (Int.toNat x18) []) 0 FV.nils)) + (1 : Int)))) ∧ ((IntKind.wrap .i64 ((FV.asI (List.getD (List.getD x16 (Int.toNat x18) []) 0 FV.nils)) + (1 : Int))) ≤ (((List.length x2) : Nat) : Int)))) ∧ (∃ z1 : List Int, ((AC Try.prog 21 [(.c (.a (.fz (.sl false 6 (List.drop (Int.toNat (FV.asI (List.getD (List.getD x16 (Int.toNat x18) []) 0 FV.nils))) (List.take (Int.toNat (IntKind.wrap .i64 ((FV.asI (List.getD (List.getD x16 (Int.toNat x18) []) 0 FV.nils)) + (1 : Int)))) x2)))))), (.c (.a (.fz (.str x3)))), (.c (.a (.fz (.int .i64 x4)))), (.agg [(.a (.fz (.bool h0_0))), (.a (.fz (.int .i64 h0_1))), (.a (.fz (.str h0_2))), (.a (.fz (.int .i64 h0_3))), (.a (.fz (.int .i64 h0_4)))])] [] (.c (.a (.fz (.sl false 1 (IR z1))))) []) ∧ ((FV.isSl 1 (.sl false 1 (IR z1)) = true) ∧ (br (((((List.length (IR z1)) : Nat) : Int) : Int) == (0 : Int)) (RPt Try.prog 5 0 r Hs' 1 ⟨[(2, (.c (.a (.fz (.sl false 6 x2))))), (3, (.c (.a (.fz (.str x3))))), (4, (.c (.a (.fz (.int .i64 x4))))), (5, (.c (.a (.ep 0 5 0 0)))), (11, (.c (.a (.fz (.bool x11))))), (15, (.c (.a (.fz (.sl false 1 x15))))), (16, (.c (.a (.fz (.sl false 1 x16))))), (17, (.c (.a (.fz (.int .i64 x17))))), (18, (.c (.a (.fz (.int .i64 (IntKind.wrap .i64 (x18 + (1 : Int))))))))], [(0, (.arr 5 [[(.a (.fz (.bool h0_0))), (.a (.fz (.int .i64 h0_1))), (.a (.fz (.str h0_2))), (.a (.fz (.int .i64 h0_3))), (.a (.fz (.int .i64 h0_4)))]]))], 1⟩) ((FV.isSl 1 (.sl false 1 x15) = true) ∧ (br (decide ((x17 : Int) ≥ (((List.length x15) : Nat) : Int))) (TV.Le (.c (.a (.fz (.bool false)))) r ∧ [] = Hs') (((FV.isSl 1 (.sl false 1 x15) = true) ∧ ((0 ≤ x17) ∧ ((x17 < (((List.length x15) : Nat) : Int)) ∧ (([(.int .i64 (FV.asI (List.getD (List.getD x15 (Int.toNat x17) []) 0 FV.nils)))] : List FV) = (List.getD x15 (Int.toNat x17) []))))) ∧ (((FV.isSl 1 (.sl false 1 x16) = true) ∧ ((0 ≤ x18) ∧ ((x18 < (((List.length x16) : Nat) : Int)) ∧ (([(.int .i64 (FV.asI (List.getD (List.getD x16 (Int.toNat x18) []) 0 FV.nils)))] : List FV) = (List.getD x16 (Int.toNat x18) []))))) ∧ (br (((FV.asI (List.getD (List.getD x15 (Int.toNat x17) []) 0 FV.nils)) : Int) != (FV.asI (List.getD (List.getD x16 (Int.toNat x18) []) 0 FV.nils))) (TV.Le (.c (.a (.fz (.bool false)))) r ∧ [] = Hs') (RPt Try.prog 5 0 r Hs' 1 ⟨[(2, (.c (.a (.fz (.sl false 6 x2))))), (3, (.c (.a (.fz (.str x3))))), (4, (.c (.a (.fz (.int .i64 x4))))), (5, (.c (.a (.ep 0 5 0 0)))), (11, (.c (.a (.fz (.bool x11))))), (15, (.c (.a (.fz (.sl false 1 x15))))), (16, (.c (.a (.fz (.sl false 1 x16))))), (17, (.c (.a (.fz (.int .i64 (IntKind.wrap .i64 (x17 + (1 : Int)))))))), (18, (.c (.a (.fz (.int .i64 (IntKind.wrap .i64 (x18 + (1 : Int))))))))], [(0, (.arr 5 [[(.a (.fz (.bool h0_0))), (.a (.fz (.int .i64 h0_1))), (.a (.fz (.str h0_2))), (.a (.fz (.int .i64 h0_3))), (.a (.fz (.int .i64 h0_4)))]]))], 1⟩)))))))))))))) (br x11 ((FV.isSl 1 (.sl false 1 x15) = true) ∧ (TV.Le (.c (.a (.fz (.bool ((x17 : Int) == (((List.length x15) : Nat) : Int)))))) r ∧ [] = Hs')) (TV.Le (.c (.a (.fz (.bool false)))) r ∧ [] = Hs')))) := by kernel_rfl
-- COV 3 4 5 8 9 10 11 12 13 14 15 16 17 18 19 20 21 22 32 38 39 40 41 44 57 65 83
end Go.AM

set_option maxRecDepth 100000
open Go Go.Proofs
namespace Go.AM

/-! ### Package lex -/
def smallB (c : Int) : Bool := decide (97 ≤ c) && decide (c ≤ 122)
def greatB (c : Int) : Bool := decide (65 ≤ c) && decide (c ≤ 90) || c == 95
def digitB (c : Int) : Bool := decide (48 ≤ c) && decide (c ≤ 57)
def insideB (c : Int) : Bool := smallB c || greatB c || digitB c || c == 39
def signs : List UInt8 := [43, 45, 42, 47, 60, 62, 61, 38, 124, 94, 126, 64, 35, 36, 63, 58]
def signB (c : Int) : Bool := decide (Lib.indexByte signs c.toNat.toUInt8 ≥ 0)

/-- How many bytes a text begins with that are such. -/
def runN (p : Int → Bool) : List UInt8 → Nat
  | [] => 0
  | c :: s => if p (c.toNat : Int) then runN p s + 1 else 0
theorem runN_le (p : Int → Bool) : ∀ s : List UInt8, runN p s ≤ s.length
  | [] => Nat.le_refl _
  | c :: s => by have := runN_le p s; simp only [runN, List.length_cons]; split <;> omega
theorem gD_mid8 (a : List UInt8) (c : UInt8) (b : List UInt8) : List.getD (a ++ c :: b) (Int.toNat (a.length : Int)) 0 = c := by simp [List.getD]
theorem runN_all (p : Int → Bool) : ∀ s : List UInt8, (((runN p s : Nat) : Int) == ((s.length : Nat) : Int)) = s.all fun c => p (c.toNat : Int)
  | [] => rfl
  | c :: s => by
    have ih := runN_all p s
    have := runN_le p s
    simp only [runN, List.all_cons, List.length_cons]
    cases h : p (c.toNat : Int) with
    | true => rw [← ih]; simp only [if_true, Bool.true_and]; rw [Bool.eq_iff_iff]; simp <;> omega
    | false => simp; omega
def fitsB (s : List UInt8) : Bool := !(s == []) && decide ((s.length : Int) ≤ 32)
/-- A name. -/
def isName (s : List UInt8) : Bool := fitsB s && smallB ((s.getD 0 0).toNat : Int) && s.all fun c => insideB (c.toNat : Int)
theorem fits_le {s : List UInt8} (h : fitsB s = true) : 0 < s.length ∧ s.length ≤ 32 := by
  simp only [fitsB, Bool.and_eq_true, Bool.not_eq_true', decide_eq_true_eq] at h
  refine ⟨?_, by omega⟩
  cases s with
  | nil => simp at h
  | cons c s => simp
def singles : List UInt8 := [44, 59, 33]
def isSym (s : List UInt8) : Bool := fitsB s && ((s.all fun c => signB (c.toNat : Int)) || ((s.length : Int) == 1 && decide (Lib.indexByte singles (s.getD 0 0) ≥ 0)))
end Go.AM

set_option maxRecDepth 100000
open Go Go.Proofs
namespace Go.AM

/-! ### What is looked at -/
mutual
def near (most : Int) : Tm → Bool
  | .mk k _ n l => !(k != 2 && (decide (n > most) || decide (n < 0 - most))) && nears most l
def nears (most : Int) : List Tm → Bool
  | [] => true
  | t :: l => near most t && nears most l
end
theorem l_near (most : Int) (k : Int) (s : List UInt8) (n : Int) : ∀ (b a : List Tm), (∀ u ∈ b, AC Try.prog 44 [aT u, ci most] [] (cb (near most u)) []) → (a ++ b).length ≤ B →
    RPt Try.prog 44 0 (cb (nears most b)) [] 1 ⟨[(1, ci most), (2, (.c (.a (.ep 0 4 0 0)))), (5, ci a.length)], [(0, (.arr 4 [fzs (FT (.mk k s n (a ++ b)))]))], 1⟩
  | [], a, _, hl => by
    refine RPt.vc hP sh lv44 (Eq.mpr (v44_1a ..) ?_)
    exact ⟨rfl, br_of (fun h => absurd (of_decide_eq_true h) (geI' a)) (fun _ => ret_b rfl)⟩
  | t :: b, a, ih, hl => by
    refine RPt.vc hP sh lv44 (Eq.mpr (v44_1a ..) ?_)
    have hl' := hl
    simp only [List.length_append, List.length_cons, B] at hl'
    refine ⟨rfl, br_of (fun _ => ?_) (fun h => absurd (ltI' a t b) (of_decide_eq_false h))⟩
    have h1 := ih t List.mem_cons_self
    have h2 := l_near most k s n b (a ++ [t]) (fun u hu => ih u (List.mem_cons_of_mem _ hu)) (by rw [ap]; exact hl)
    have h3 := ltI' a t b
    rw [ap, nx] at h2
    rw [midI, w64 (by omega) (by omega)]
    obtain ⟨k', s', n', l'⟩ := t
    refine ⟨⟨rfl, by omega, h3, rfl⟩, _, h1, br_of (fun h => ret_b ?_) (fun h => ?_)⟩
    · simp_all [nears]
    · simp only [nears, show near most (.mk k' s' n' l') = true by simpa using h, Bool.true_and]; exact h2
theorem c_near (most : Int) (h0 : 0 ≤ most) (h1 : most ≤ 4611686018427387904) : ∀ t : Tm, t.sz ≤ B → AC Try.prog 44 [aT t, ci most] [] (cb (near most t)) [] := by
  refine Tm.ind fun t ih hs => ?_
  obtain ⟨k, s, n, l⟩ := t
  have hl := Tm.szs_length l
  simp only [Tm.sz, B] at hs
  refine AC.vc hP sh lv44 (Nat.le_refl _) (by simp) (by simp) (Eq.mpr (v44 k s n (FTs l) most _ _) ?_)
  have key := l_near most k s n l [] (fun u hu => ih u hu (by have := Tm.szs_mem hu; simp only [B]; omega)) (by simp only [List.nil_append, B]; omega)
  rw [w64 (by omega) (by omega)]
  rw [near]
  refine br_of (fun h => br_of (fun h2 => ret_b ?_) (fun h2 => br_of (fun h3 => ret_b ?_) (fun h3 => ?_))) (fun h => ?_)
  · simp only [h, h2, Bool.true_or, Bool.and_true, Bool.not_true, Bool.false_and]
  · simp only [h, h3, Bool.or_true, Bool.and_true, Bool.not_true, Bool.false_and]
  · simp only [h2, h3, Bool.or_false, Bool.and_false, Bool.not_false, Bool.true_and]; exact key
  · simp only [h, Bool.false_and, Bool.not_false, Bool.true_and]; exact key

mutual
def leftF : Tm → Int → Int
  | .mk _ _ _ l, most => leftL l (most - 1)
def leftL : List Tm → Int → Int
  | [], n => n
  | t :: l, n => if n ≥ 0 then leftL l (leftF t n) else n
end
mutual
theorem leftF_le : ∀ (t : Tm) (n : Int), leftF t n ≤ n - 1 ∧ (0 ≤ n → -1 ≤ leftF t n)
  | .mk _ _ _ l, n => by
    have h := leftL_le l (n - 1)
    simp only [leftF]
    exact ⟨h.1, fun hn => h.2 (by omega)⟩
theorem leftL_le : ∀ (l : List Tm) (n : Int), leftL l n ≤ n ∧ (-1 ≤ n → -1 ≤ leftL l n)
  | [], n => by simp [leftL]
  | t :: l, n => by
    have h1 := leftF_le t n
    have h2 := leftL_le l (leftF t n)
    simp only [leftL]
    split
    · rename_i h; exact ⟨by omega, fun _ => h2.2 (h1.2 h)⟩
    · exact ⟨Int.le_refl _, fun h => h⟩
end
theorem l_left (k : Int) (s : List UInt8) (n : Int) : ∀ (b a : List Tm) (m : Int), (∀ u ∈ b, ∀ m : Int, 0 ≤ m → m ≤ 4611686018427387904 → AC Try.prog 38 [aT u, ci m] [] (ci (leftF u m)) []) → (a ++ b).length ≤ B → m ≤ 4611686018427387904 →
    RPt Try.prog 38 0 (ci (leftL b m)) [] 1 ⟨[(2, (.c (.a (.ep 0 4 0 0)))), (5, ci m), (6, ci a.length)], [(0, (.arr 4 [fzs (FT (.mk k s n (a ++ b)))]))], 1⟩
  | [], a, m, _, hl, hm => by
    refine RPt.vc hP sh lv38 (Eq.mpr (v38_1a ..) ?_)
    exact ⟨rfl, br_of (fun h => absurd (of_decide_eq_true h) (geI' a)) (fun _ => ret_i rfl)⟩
  | t :: b, a, m, ih, hl, hm => by
    refine RPt.vc hP sh lv38 (Eq.mpr (v38_1a ..) ?_)
    have hl' := hl
    simp only [List.length_append, List.length_cons, B] at hl'
    refine ⟨rfl, br_of (fun _ => br_of (fun hm0 => ?_) (fun hm0 => ret_i ?_)) (fun h => absurd (ltI' a t b) (of_decide_eq_false h))⟩
    · have hm0 := of_decide_eq_true hm0
      have h1 := ih t List.mem_cons_self m hm0 hm
      have hle := leftF_le t m
      have h2 := l_left k s n b (a ++ [t]) (leftF t m) (fun u hu => ih u (List.mem_cons_of_mem _ hu)) (by rw [ap]; exact hl) (by omega)
      have h3 := ltI' a t b
      rw [ap, nx] at h2
      rw [midI, w64 (by omega) (by omega)]
      simp only [leftL, hm0, if_true]
      obtain ⟨k', s', n', l'⟩ := t
      exact ⟨⟨rfl, by omega, h3, rfl⟩, _, h1, h2⟩
    · have hm0 := of_decide_eq_false hm0
      simp only [leftL, hm0, if_false]
theorem c_left : ∀ t : Tm, t.sz ≤ B → ∀ m : Int, 0 ≤ m → m ≤ 4611686018427387904 → AC Try.prog 38 [aT t, ci m] [] (ci (leftF t m)) [] := by
  refine Tm.ind fun t ih hs m h0 h1 => ?_
  obtain ⟨k, s, n, l⟩ := t
  have hl := Tm.szs_length l
  simp only [Tm.sz, B] at hs
  refine AC.vc hP sh lv38 (Nat.le_refl _) (by simp) (by simp) (Eq.mpr (v38 k s n (FTs l) m _ _) ?_)
  rw [w64 (by omega) (by omega)]
  exact l_left k s n l [] (m - 1) (fun u hu => ih u hu (by have := Tm.szs_mem hu; simp only [B]; omega)) (by simp only [List.nil_append, B]; omega) (by omega)
def large (t : Tm) (most : Int) : Bool := decide (leftF t most < 0)
theorem c_large (t : Tm) (hs : t.sz ≤ B) (m : Int) (h0 : 0 ≤ m) (h1 : m ≤ 4611686018427387904) : AC Try.prog 9 [aT t, ci m] [] (cb (large t m)) [] := by
  have h := c_left t hs m h0 h1
  obtain ⟨k, s, n, l⟩ := t
  refine AC.vc hP sh lv9 (Nat.le_refl _) (by simp) (by simp) (Eq.mpr (v9 k s n (FTs l) m _ _) ?_)
  exact ⟨_, h, ret_b rfl⟩

mutual
def longB : Tm → Bool
  | .mk _ s _ l => decide (60 < (s.length : Int)) || longL l
def longL : List Tm → Bool
  | [] => false
  | t :: l => longB t || longL l
end
def overB (t : Tm) : Bool := large t 80 || longB t || !near 1099511627776 t
def rowL (l : List Tm) : Bool := decide ((l.length : Int) > 8) || l.any overB
/-! ### The same -/
mutual
def sameB : Tm → Tm → Bool
  | .mk k s n l, .mk k' s' n' l' => k == k' && (s == s' && (n == n' && sameL l l'))
def sameL : List Tm → List Tm → Bool
  | [], [] => true
  | t :: l, u :: m => sameB t u && sameL l m
  | _, _ => false
end
mutual
theorem sameB_iff : ∀ a b : Tm, sameB a b = true ↔ a = b
  | .mk k s n l, .mk k' s' n' l' => by simp only [sameB, Bool.and_eq_true, beq_iff_eq, Tm.mk.injEq, sameL_iff l l']
theorem sameL_iff : ∀ a b : List Tm, sameL a b = true ↔ a = b
  | [], [] => by simp [sameL]
  | t :: l, u :: m => by simp only [sameL, Bool.and_eq_true, List.cons.injEq, sameB_iff t u, sameL_iff l m]
  | [], _ :: _ => by simp [sameL]
  | _ :: _, [] => by simp [sameL]
end
theorem sameL_len : ∀ {a b : List Tm}, a.length ≠ b.length → sameL a b = false
  | [], [], h => absurd rfl h
  | t :: l, u :: m, h => by simp only [sameL, sameL_len (a := l) (b := m) (fun e => h (by simp [e])), Bool.and_false]
  | [], _ :: _, _ => rfl
  | _ :: _, [], _ => rfl
/-! ### What is within; how large -/
def Tm.inner (t : Tm) : Bool := t.k == 5 || t.k == 6
def Tm.kids (t : Tm) : List Tm := if t.inner = true then t.l else []
def Tm.by (t : Tm) : Int := if t.k == 5 then 1 else 0

end Go.AM

namespace Go.AM
open Go.ChangeShapes Go.WideShapes Go.ChangeAt Go.RowKit

section
variable {H : Type} {enc : TypeId × Value → H} {P : Program} {w : World}

/-- Nothing is shut out. -/
abbrev none1 : Nat → Prop := fun _ => False
/-- Whatever reads (with so much fuel) at type t is some F a, of size at most that of what was read. -/
def RdN (enc : TypeId × Value → H) (P : Program) (w : World) (b : DataW H → Nat) (fuel : Nat) (t : TypeId) {α : Type} (F : α → List FV) (sz : α → Nat) : Prop :=
  ∀ cs x, DataW.trod enc P w 0 (fun _ => true) true fuel t cs = some x → ∃ a, LRep (FRep w none1) (F a) cs ∧ sz a ≤ b x.1

theorem rd_int {b : DataW H → Nat} {t : TypeId} {k : IntKind} (ht : P.underlying t = some (.int k)) (hb : ∀ d, 1 ≤ b d) (fuel : Nat) : RdN enc P w b fuel t (fun n : Int => [.int k n]) (fun _ => 1) := by
  intro cs x h
  obtain ⟨n, rfl, rfl, _⟩ := DataW.trod_int ht h
  exact ⟨n, .cons (.int k n) .nil, hb _⟩
/-- A number within its kind. -/
def Num (k : IntKind) := { n : Int // (Lit.int k n).wf = true }
theorem rd_num {b : DataW H → Nat} {t : TypeId} {k : IntKind} (ht : P.underlying t = some (.int k)) (hb : ∀ d, 1 ≤ b d) (fuel : Nat) : RdN enc P w b fuel t (fun n : Num k => [.int k n.1]) (fun _ => 1) := by
  intro cs x h
  obtain ⟨n, rfl, rfl, hw⟩ := DataW.trod_int ht h
  exact ⟨⟨n, hw⟩, .cons (.int k n) .nil, hb _⟩
theorem rd_bool {b : DataW H → Nat} {t : TypeId} (ht : P.underlying t = some .bool) (hb : ∀ d, 1 ≤ b d) (fuel : Nat) : RdN enc P w b fuel t (fun n : Bool => [.bool n]) (fun _ => 1) := by
  intro cs x h
  obtain ⟨n, rfl, rfl⟩ := DataW.trod_bool ht h
  exact ⟨n, .cons (.bool n) .nil, hb _⟩
theorem rd_str {b : DataW H → Nat} {t : TypeId} (ht : P.underlying t = some .string) (hb : ∀ l : List UInt8, l.length + 1 ≤ b (.lit (.string l))) (fuel : Nat) : RdN enc P w b fuel t (fun l : List UInt8 => [.str l]) (fun l => l.length + 1) := by
  intro cs x h
  obtain ⟨s, rfl, rfl, _⟩ := DataW.trod_string ht h
  refine ⟨s.data.toList, .cons ?_ .nil, hb _⟩
  have : (⟨s.data.toList.toArray⟩ : ByteArray) = s := by simp
  have h2 := FRep.str (w := w) (X := none1) s.data.toList
  rw [this] at h2
  exact h2

def sumBy {α : Type} (sz : α → Nat) : List α → Nat
  | [] => 0
  | a :: l => sz a + sumBy sz l
theorem sumBy_mem {α : Type} {sz : α → Nat} : ∀ {l : List α} {a : α}, a ∈ l → sz a ≤ sumBy sz l
  | x :: l, a, h => by
    rcases List.mem_cons.1 h with rfl | h
    · simp [sumBy]
    · have := sumBy_mem (sz := sz) h; simp only [sumBy]; omega
theorem sumBy_length {α : Type} {sz : α → Nat} (h : ∀ a, 1 ≤ sz a) : ∀ l : List α, l.length ≤ sumBy sz l
  | [] => Nat.le_refl _
  | a :: l => by have := sumBy_length h l; have := h a; simp only [sumBy, List.length_cons]; omega

theorem choose_list {α β : Type} {R : α → β → Prop} : ∀ {l : List β}, (∀ (i : Nat) (y : β), l[i]? = some y → ∃ x, R x y) → ∃ xs : List α, xs.length = l.length ∧ ∀ (i : Nat) (x : α) (y : β), xs[i]? = some x → l[i]? = some y → R x y
  | [], _ => ⟨[], rfl, fun i x y h => by simp at h⟩
  | y :: l, h => by
    obtain ⟨x, hx⟩ := h 0 y rfl
    obtain ⟨xs, h1, h2⟩ := choose_list (l := l) fun i y' hy => h (i + 1) y' (by simpa using hy)
    refine ⟨x :: xs, by simp [h1], fun i x' y' hx' hy' => ?_⟩
    cases i with
    | zero => simp at hx' hy'; subst hx'; subst hy'; exact hx
    | succ i => exact h2 i x' y' (by simpa using hx') (by simpa using hy')

theorem sum_le {α : Type} {sz : α → Nat} {b : DataW H → Nat} {bs : List (DataW H) → Nat} (hbs : ∀ d l, bs (d :: l) = b d + bs l) : ∀ {xs : List α} {es : List (DataW H × List MemPlace)}, xs.length = es.length → (∀ (i : Nat) (x : α) (y : DataW H × List MemPlace), xs[i]? = some x → es[i]? = some y → sz x ≤ b y.1) → sumBy sz xs ≤ bs (es.map (·.1))
  | [], _, _, _ => by simp [sumBy]
  | x :: xs, [], h, _ => by simp at h
  | x :: xs, e :: es, h, hr => by
    have h1 := hr 0 x e rfl rfl
    have h2 := sum_le (sz := sz) hbs (xs := xs) (es := es) (by simpa using h) fun i x y hx hy => hr (i + 1) x y (by simpa using hx) (by simpa using hy)
    simp only [sumBy, List.map_cons, hbs]
    omega

theorem cells_get {a : Addr} {n : Nat} {cs : List Value} (h : w.cells? 0 a n = some cs) : cs.length = n ∧ ∀ j u, cs[j]? = some u → w.cell? (a.add j) = some u := by
  unfold World.cells? at h
  rw [if_pos (Nat.zero_le _)] at h
  refine ⟨by have := mapM_some_length h; simpa using this, fun j u hu => ?_⟩
  have hj : j < n := by
    have h1 := (List.getElem?_eq_some_iff.1 hu).1
    have := mapM_some_length h; simp at this; omega
  have := mapM_some_get h j j (by simp [hj])
  rw [this, hu]

theorem cell_lt {b off : Nat} {u : Value} (h : w.cell? ⟨b, off, none⟩ = some u) : b < w.heap.size := by
  apply Decidable.byContradiction
  intro hn
  have : w.heap[b]? = none := by simp; omega
  simp [World.cell?, this] at h

theorem cell_spot {a : Addr} {u : Value} (h : w.cell? a = some u) : a.spot = none := by
  unfold World.cell? at h
  split at h
  · split at h
    · cases h
    · rename_i hs; simpa using hs
  · cases h
theorem cell_blk {a : Addr} {u : Value} (h : w.cell? a = some u) : a.block < w.heap.size := by
  apply Decidable.byContradiction
  intro hn
  have : w.heap[a.block]? = none := by simp; omega
  simp [World.cell?, this] at h

theorem add_zero (a : Addr) : a.add 0 = a := rfl
theorem add_none (b o k : Nat) : (Addr.mk b o none).add k = ⟨b, o + k, none⟩ := by
  unfold Addr.add
  split
  · rename_i h; rw [h]; rfl
  · rfl
/-- Slices. -/
theorem rd_slice {b : DataW H → Nat} {bs : List (DataW H) → Nat} (hbs : ∀ d l, bs (d :: l) = b d + bs l) (hb0 : ∀ d, 1 ≤ b d) (hb : ∀ es sp, bs es + 1 ≤ b (.slice es sp)) {t e : TypeId} (ht : P.underlying t = some (.slice e)) {n : Nat} (hn : P.cellsOf e = n) (hn0 : 0 < n)
    {α : Type} {F : α → List FV} {sz : α → Nat} (hF : ∀ a, (F a).length = n) {fuel : Nat} (ih : ∀ k, k < fuel → RdN enc P w b k e F sz) : RdN enc P w b fuel t (fun l : List α => [.sl false n (l.map F)]) (fun l => sumBy sz l + 1) := by
  intro cs x h
  rcases DataW.trod_slice ht h with ⟨rfl, rfl⟩ | ⟨a, len, cap, elems, rest, k, rfl, rfl, rfl, _, hlc, _, hlen, hel, hrest, _⟩
  · exact ⟨[], .cons (.slnil n) .nil, by simpa [sumBy] using hb0 _⟩
  · rw [hn] at hel
    have key : ∀ (i : Nat) (y : DataW H × List MemPlace), elems[i]? = some y → ∃ x : α, (∃ cs, w.cells? 0 (a.add (i * n)) n = some cs ∧ LRep (FRep w none1) (F x) cs) ∧ sz x ≤ b y.1 := by
      intro i y hy
      have hi : i < len := by rw [← hlen]; exact (List.getElem?_eq_some_iff.1 hy).1
      have h1 := hel i hi
      rw [hy] at h1
      obtain ⟨cs, h2, h3⟩ := Option.bind_eq_some_iff.1 h1
      obtain ⟨x, h4, h5⟩ := ih k (Nat.lt_succ_self _) cs y h3
      exact ⟨x, ⟨cs, h2, h4⟩, h5⟩
    -- the element at i, with its place
    have key2 : ∃ xs : List α, xs.length = elems.length ∧ ∀ (i : Nat) (x : α), xs[i]? = some x → (∃ cs, w.cells? 0 (a.add (i * n)) n = some cs ∧ LRep (FRep w none1) (F x) cs) ∧ ∀ y, elems[i]? = some y → sz x ≤ b y.1 := by
      have : ∀ (l : List (DataW H × List MemPlace)) (o : Nat), (∀ i, l[i]? = elems[o + i]?) → ∃ xs : List α, xs.length = l.length ∧ ∀ (i : Nat) (x : α), xs[i]? = some x → (∃ cs, w.cells? 0 (a.add ((o + i) * n)) n = some cs ∧ LRep (FRep w none1) (F x) cs) ∧ ∀ y, l[i]? = some y → sz x ≤ b y.1 := by
        intro l
        induction l with
        | nil => exact fun o _ => ⟨[], rfl, fun i x h => by simp at h⟩
        | cons y l ih =>
          intro o ho
          obtain ⟨x, hx1, hx2⟩ := key o y (by have := ho 0; simpa using this.symm)
          obtain ⟨xs, h1, h2⟩ := ih (o + 1) (fun i => by have := ho (i + 1); rw [show o + 1 + i = o + (i + 1) by omega]; simpa using this)
          refine ⟨x :: xs, by simp [h1], fun i x' hx' => ?_⟩
          cases i with
          | zero => simp at hx'; subst hx'; exact ⟨by simpa using hx1, fun y' hy' => by simp at hy'; subst hy'; exact hx2⟩
          | succ i =>
            have := h2 i x' (by simpa using hx')
            rw [show o + 1 + i = o + (i + 1) by omega] at this
            exact ⟨this.1, fun y' hy' => this.2 y' (by simpa using hy')⟩
      obtain ⟨xs, h1, h2⟩ := this elems 0 (fun i => by simp)
      exact ⟨xs, h1, fun i x hx => by simpa using h2 i x hx⟩
    obtain ⟨xs, hxl, hx⟩ := key2
    have hsum := sum_le (sz := sz) (b := b) hbs hxl (fun i x y h1 h2 => (hx i x h1).2 y h2)
    have hb' := hb (elems.map (·.1)) (rest.map (·.1))
    refine ⟨xs, ?_, show sumBy sz xs + 1 ≤ b (.slice (elems.map (·.1)) (rest.map (·.1))) by omega⟩
    by_cases hc0 : cap = 0
    · have h0 : len = 0 := by omega
      subst hc0; subst h0
      have : xs = [] := List.length_eq_zero_iff.1 (by omega)
      subst this
      exact .cons (.sl0 false n a) .nil
    · have hone : ∃ cs, w.cells? 0 a n = some cs := by
        by_cases h0 : len = 0
        · have hr := (hrest rfl).2 0 (by omega)
          have hr' : rest[0]? ≠ none := by
            rw [List.getElem?_eq_getElem (by rw [(hrest rfl).1]; omega)]; simp
          rw [hn] at hr
          rw [h0, show (0 + 0) * n = 0 by simp, add_zero] at hr
          cases hcl : w.cells? 0 a n with
          | none => rw [hcl] at hr; exact absurd hr.symm hr'
          | some cs => exact ⟨cs, rfl⟩
        · have : 0 < xs.length := by omega
          obtain ⟨⟨cs, h1, _⟩, _⟩ := hx 0 xs[0] (by simp [this])
          rw [show 0 * n = 0 by simp, add_zero] at h1
          exact ⟨cs, h1⟩
      obtain ⟨cs0, hq⟩ := hone
      obtain ⟨hl0, hq'⟩ := cells_get hq
      have hq0 := hq' 0 (cs0[0]'(by omega)) (by simp)
      rw [add_zero] at hq0
      have hsp : a.spot = none := cell_spot hq0
      have hbl : a.block < w.heap.size := cell_blk hq0
      obtain ⟨blk, off, sp⟩ := a
      have hsp : sp = none := hsp
      subst hsp
      refine .cons (.sl false n (xs.map F) blk off cap len (fun i j => (w.cell? ⟨blk, off + i * n + j, none⟩).getD (.bool false)) (by rw [List.length_map]; omega) (by rw [List.length_map]; omega) (fun h => h) hbl (fun i e he => ?_) (fun i j e f he hf => ?_) (fun i j e f he hf => ?_)) .nil
      · rw [List.getElem?_map] at he
        obtain ⟨x, _, rfl⟩ := Option.map_eq_some_iff.1 he
        exact hF x
      all_goals
        rw [List.getElem?_map] at he
        obtain ⟨x, hxi, rfl⟩ := Option.map_eq_some_iff.1 he
        obtain ⟨⟨cs, h1, h2⟩, _⟩ := hx i x hxi
        obtain ⟨h3, h4⟩ := cells_get h1
        have hj : j < cs.length := by rw [← h2.1]; exact (List.getElem?_eq_some_iff.1 hf).1
        have h5 := h4 j cs[j] (by simp)
        rw [add_none, add_none] at h5
      · rw [h5]; rfl
      · rw [h5]
        exact h2.2 j f cs[j] hf (by simp)

/-- Terms. -/
theorem FT_sum : ∀ l : List Tm, Tm.bks l = sumBy Tm.bk l
  | [] => rfl
  | t :: l => by rw [Tm.bks, sumBy, FT_sum l]
/-- How a term lies. -/
structure TmTy (P : Program) (T : TypeId) (f0 f1 f2 f3 : Field) : Prop where
  str : P.underlying T = some (.struct #[f0, f1, f2, f3])
  u0 : P.underlying f0.type = some (.int .i64)
  u1 : P.underlying f1.type = some .string
  u2 : P.underlying f2.type = some (.int .i64)
  u3 : P.underlying f3.type = some (.slice T)
  o0 : f0.offset = 0
  o1 : f1.offset = 1
  o2 : f2.offset = 2
  o3 : f3.offset = 3
  c0 : P.cellsOf f0.type = 1
  c1 : P.cellsOf f1.type = 1
  c2 : P.cellsOf f2.type = 1
  c3 : P.cellsOf f3.type = 1
  cT : P.cellsOf T = 4
/-- How much a reading holds. -/
structure Bulk (b : DataW H → Nat) (bs : List (DataW H) → Nat) : Prop where
  nil : bs [] = 0
  cons : ∀ d l, bs (d :: l) = b d + bs l
  one : ∀ d, 1 ≤ b d
  slice : ∀ es sp, bs es + 1 ≤ b (.slice es sp)
  str : ∀ l : List UInt8, l.length + 1 ≤ b (.lit (.string l))
  agg : ∀ l, bs l + 1 ≤ b (.agg l)
theorem LRep.one {α : Type} {R : α → Value → Prop} {c : α} {u : Value} (h : LRep R [c] [u]) : R c u := h.2 0 c u rfl rfl
theorem rd_term {b : DataW H → Nat} {bs : List (DataW H) → Nat} (hb : Bulk b bs) {T : TypeId} {f0 f1 f2 f3 : Field} (hT : TmTy P T f0 f1 f2 f3) : ∀ fuel, RdN enc P w b fuel T FT Tm.bk := by
  intro fuel
  induction fuel using Nat.strongRecOn with
  | _ fuel ih =>
    intro cs x h
    obtain ⟨xs, n, rfl, rfl, hl, hxl, hf⟩ := DataW.trod_struct hT.str h
    rw [hT.cT] at hl
    match cs, hl with
    | [v0, v1, v2, v3], _ =>
    match xs, hxl with
    | [x0, x1, x2, x3], _ =>
    have g0 := hf 0 f0 rfl
    have g1 := hf 1 f1 rfl
    have g2 := hf 2 f2 rfl
    have g3 := hf 3 f3 rfl
    rw [hT.o0, hT.c0] at g0
    rw [hT.o1, hT.c1] at g1
    rw [hT.o2, hT.c2] at g2
    rw [hT.o3, hT.c3] at g3
    obtain ⟨k, r0, _⟩ := rd_int (b := b) hT.u0 hb.one n _ _ g0
    obtain ⟨s, r1, z1⟩ := rd_str (b := b) hT.u1 hb.str n _ _ g1
    have z1 : s.length + 1 ≤ b x1.1 := z1
    obtain ⟨m, r2, _⟩ := rd_int (b := b) hT.u2 hb.one n _ _ g2
    obtain ⟨l, r3, z3⟩ := rd_slice (F := FT) (sz := Tm.bk) hb.cons hb.one hb.slice hT.u3 hT.cT (by omega) FT_length (fun k hk => ih k (by omega)) _ _ g3
    have z3 : sumBy Tm.bk l + 1 ≤ b x3.1 := z3
    refine ⟨.mk k s m l, ?_, ?_⟩
    · rw [FT, FTs_map]
      exact .cons (LRep.one r0) (.cons (LRep.one r1) (.cons (LRep.one r2) (.cons (LRep.one r3) .nil)))
    · have := hb.one x0.1
      simp only [Tm.bk, FT_sum]
      show _ ≤ b (.agg [x0.1, x1.1, x2.1, x3.1])
      have h9 := hb.agg [x0.1, x1.1, x2.1, x3.1]
      simp only [hb.cons, hb.nil] at h9
      omega

/-! ### Arguments -/
theorem none_own {Y : Nat → Prop} (hY : ∀ b, ¬ Y b) {Hs : List AObj} : (fun b => Y b ∨ Own (fun o => Hs.getD o .gone) (fun _ => none) b) = none1 := by
  funext b
  refine propext ⟨fun h => ?_, fun h => h.elim⟩
  rcases h with h | ⟨o, _, h⟩
  · exact (hY b h).elim
  · cases h
abbrev β0 : Nat → Option Nat := fun _ => none
theorem open_term {b : DataW H → Nat} {bs : List (DataW H) → Nat} (hb : Bulk b bs) {T : TypeId} {f0 f1 f2 f3 : Field} (hT : TmTy P T f0 f1 f2 f3) {r : Reach} {base : Nat} {v : Value} {d : DataW H} {ps : List MemPlace}
    (hv : Value.okWide P w r base T v) (hd : DataW.Trod enc P w 0 (fun _ => true) true T v d ps) : ∃ t : Tm, TRep w none1 β0 (aT t) v ∧ t.bk ≤ b d := by
  obtain ⟨cs, rfl, _⟩ := okWide_struct hT.str hv
  obtain ⟨fuel, hf⟩ := hd
  obtain ⟨t, h1, h2⟩ := rd_term hb hT fuel _ _ hf
  refine ⟨t, ⟨cs.toList, by simp, ?_⟩, h2⟩
  rw [FT_eta] at h1
  have h1 : LRep (FRep w none1) [.int .i64 t.k, .str t.s, .int .i64 t.n, .sl false 4 (FTs t.l)] cs.toList := h1
  exact h1.map (g := fun x => WV.a (.fz x)) fun c u _ h => .a _ _ (.fz _ _ h)
theorem open_terms {b : DataW H → Nat} {bs : List (DataW H) → Nat} (hb : Bulk b bs) {T S : TypeId} {f0 f1 f2 f3 : Field} (hT : TmTy P T f0 f1 f2 f3) (hS : P.underlying S = some (.slice T)) {r : Reach} {base : Nat} {v : Value} {d : DataW H} {ps : List MemPlace}
    (hv : Value.okWide P w r base S v) (hd : DataW.Trod enc P w 0 (fun _ => true) true S v d ps) : ∃ l : List Tm, TRep w none1 β0 (aL l) v ∧ Tm.bks l + 1 ≤ b d := by
  obtain ⟨a, len, cap, rfl⟩ := okWide_slice hS hv
  obtain ⟨fuel, hf⟩ := hd
  obtain ⟨l, h1, h2⟩ := rd_slice (F := FT) (sz := Tm.bk) hb.cons hb.one hb.slice hS hT.cT (by omega) FT_length (fun k _ => rd_term hb hT k) _ _ hf
  have h2 : sumBy Tm.bk l + 1 ≤ b d := h2
  rw [← FT_sum] at h2
  have h1 : LRep (FRep w none1) [.sl false 4 (l.map FT)] [_] := h1
  rw [← FTs_map] at h1
  exact ⟨l, .a _ _ (.fz _ _ h1.one), h2⟩
theorem open_num {t : TypeId} {k : IntKind} (ht : P.underlying t = some (.int k)) {r : Reach} {base : Nat} {v : Value} {d : DataW H} {ps : List MemPlace}
    (hv : Value.okWide P w r base t v) (hd : DataW.Trod enc P w 0 (fun _ => true) true t v d ps) : ∃ n : Int, TRep w none1 β0 (.c (.a (.fz (.int k n)))) v ∧ (Lit.int k n).wf = true := by
  obtain ⟨n, rfl, _, _, hw⟩ := open_int ht hv hd
  exact ⟨n, .a _ _ (.fz _ _ (.int k n)), hw⟩
theorem open_str {t : TypeId} (ht : P.underlying t = some .string) {b : DataW H → Nat} {bs : List (DataW H) → Nat} (hb : Bulk b bs) {r : Reach} {base : Nat} {v : Value} {d : DataW H} {ps : List MemPlace}
    (hv : Value.okWide P w r base t v) (hd : DataW.Trod enc P w 0 (fun _ => true) true t v d ps) : ∃ s : List UInt8, TRep w none1 β0 (cs s) v ∧ s.length + 1 ≤ b d := by
  obtain ⟨s, rfl⟩ := okWide_string ht hv
  obtain ⟨fuel, hf⟩ := hd
  obtain ⟨l, h1, h2⟩ := rd_str (b := b) ht hb.str fuel _ _ hf
  exact ⟨l, .a _ _ (.fz _ _ h1.one), h2⟩

/-! ### The end -/
theorem kept_good {w' : World} {foot : Nat → Prop} (g : Good w foot w') (hf : ∀ b, ¬ foot b) (may : MemPlace → Prop) : w.keptBut w' may := by
  refine ⟨g.os, g.output, fun i hi => ?_⟩
  rw [g.blk i hi (hf i)]
  exact (World.keptBut_refl w may).2.2 i hi
theorem same_good {w' : World} {foot : Nat → Prop} (g : Good w foot w') (hf : ∀ b, ¬ foot b) {p : MemPlace} (hp : p.block < w.heap.size) : w.sameAt w' p := by
  cases p with
  | cell b o => exact World.cell?_of_block (a := ⟨b, o, none⟩) (g.blk b hp (hf b))
  | map b => exact g.blk b hp (hf b)
theorem trodAll_stays (hl : laidOutB P = true) {w' : World} {sp : Nat → Bool} : ∀ {ts : List TypeId} {vs : List Value} {ds : List (DataW H)} {p : List MemPlace}, DataW.TrodAll enc P w 0 (fun _ => true) true ts vs ds p →
    (∀ t ∈ ts, P.readableRec t = true ∧ t < P.types.size) → (∀ x ∈ p, w.sameAt w' x) → (∀ x ∈ p, sp x.block = true) → DataW.TrodAll enc P w' 0 sp true ts vs ds p
  | [], _, _, _, h, _, _, _ => by
    obtain ⟨rfl, rfl, rfl⟩ := trodAll_nil h
    exact trodAll_mk0
  | t :: ts, _, _, _, h, ht, hs, hsp => by
    obtain ⟨v, vs', d, ds', p, q, rfl, rfl, rfl, ⟨n, h1⟩, h2⟩ := trodAll_cons h
    have hr := (ht t List.mem_cons_self).1
    exact ⟨p, q, ⟨n, DataW.trod_stays (kids_book hl hr) (book_sized hr) (fun h => by cases h) ⟨(ht t List.mem_cons_self).2, book_self t⟩ h1 (fun x hx => hs x (List.mem_append_left _ hx)) (fun x hx => hsp x (List.mem_append_left _ hx))⟩,
      trodAll_stays hl h2 (fun u hu => ht u (List.mem_cons_of_mem _ hu)) (fun x hx => hs x (List.mem_append_right _ hx)) (fun x hx => hsp x (List.mem_append_right _ hx)), rfl⟩
/-- A law's end: it returns true, and what was read reads as before. -/
theorem post_good (hl : laidOutB P = true) {f : Func} {s : ChangeSpec} {apart fresh handsOn again : Bool} {w' : World} {args : Array Value} {ds gs : List (DataW H)} {before : List MemPlace} {foot : Nat → Prop} {tb : TypeId}
    (hW : DataW.Whole enc P f.params.toList s.vars apart w args.toList ds gs before) (hv : s.vars = []) (hs : ∀ ds' : List (DataW H), ds'.length = ds.length → s.fn H ds' = { results := [.lit (.bool true)], args := ds' })
    (ht : ∀ t ∈ f.params.toList, P.readableRec t = true ∧ t < P.types.size) (hr : f.resultTypes = #[tb]) (hb : P.underlying tb = some .bool) (g : Good w foot w') (hf : ∀ b, ¬ foot b) :
    s.post enc P f apart fresh handsOn again w args (.bool true) w' := by
  have hlt := hW.lt
  obtain ⟨p, q, h1, h2, he, hz, hn⟩ := hW
  rw [hv] at h2
  obtain ⟨rfl, rfl⟩ := trodVars_none h2
  rw [List.append_nil] at he
  subst he
  have hold : ∀ x ∈ before, (fun b => decide (b < w.heap.size)) x.block = true := fun x hx => by simpa using hlt x hx
  have hfn := hs (ds ++ []) (by simp)
  have hargs : ∀ sp : Nat → Bool, (∀ x ∈ before, sp x.block = true) → DataW.TrodAll enc P w' 0 sp true f.params.toList args.toList (s.fn H (ds ++ [])).args before := fun sp hsp => by
    rw [hfn, List.append_nil]
    exact trodAll_stays hl h1 ht (fun x hx => same_good g hf (hlt x hx)) hsp
  have hres : ∀ (b : Nat) (sp : Nat → Bool) (hd : Bool), DataW.TrodAll enc P w' b sp hd f.resultTypes.toList ((Value.bool true).resultList f.resultTypes.size) (s.fn H (ds ++ [])).results [] := fun b sp hd => by
    rw [hfn, hr]
    exact trodAll_mk1 ⟨1, by simp [DataW.trod, Value.cells, hb]⟩
  have hvars : ∀ sp : Nat → Bool, DataW.TrodVars enc P w' sp s.vars (s.fn H (ds ++ [])).vars [] := fun sp => by
    rw [hfn, hv]
    rfl
  refine ⟨ds, [], before, [], before, [], ⟨before, [], h1, by rw [hv]; rfl, by simp, hz, hn⟩, hres _ _ _, hargs _ hold, hvars _, World.keptBut_mono (fun x hx => ⟨hx, ?_⟩) (kept_good g hf (· ∈ before)), fun _ => ?_⟩
  · simpa using hx
  · refine ⟨ok_one hr rfl (okWide_bool_mk hb _), _, _, ([] ++ before) ++ [], ⟨[] ++ before, [], trodAll_append (hargs _ (fun _ _ => rfl)) (hres _ _ _), hvars _, rfl, ?_, ?_⟩, ?_⟩
    · intro b off hp
      have hp : MemPlace.cell b off ∈ before := by simpa using hp
      have hb := hlt _ hp
      have : w'.frozen? ⟨b, off, none⟩ = w.frozen? ⟨b, off, none⟩ := by
        unfold World.frozen?
        rw [g.blk b hb (hf b)]
      rw [this]
      exact hz b off hp
    · intro ha
      simpa using hn ha
    · intro x hx _
      simpa using hx
/-- A contract that a law's function answers: true. -/
theorem law_true {f : FuncId} {args : List TV} (hgl : Gl P w none1) (h : AC P f args [] (cb true) []) {vals : List Value} (hv : LRep (TRep w none1 β0) args vals) :
    Calls P f vals.toArray w fun e w' => e = .returned (.bool true) ∧ ∃ foot, (∀ b, ¬ foot b) ∧ Good w foot w' := by
  have hX : (fun b => (fun _ : Nat => False) b ∨ Own (fun o => ([] : List AObj).getD o .gone) β0 b) = none1 := none_own (fun _ h => h)
  refine (h.2.2 w vals β0 (fun _ => False) (fun o b h => by cases h) (fun b h => h.elim) (hgl.sub fun b ⟨o, h5, _⟩ => by simp [isLive] at h5) ⟨fun o b h _ => by simp [isLive] at h, fun o h => by simp [isLive] at h, fun o o' b h => by simp [isLive] at h, fun o b h => by cases h⟩ (by rw [hX]; exact hv)).mono fun e w' ⟨v, β', h1, h2, h3, h4, _⟩ => ?_
  subst h1
  cases h4 with
  | a _ _ h4 =>
    cases h4 with
    | fz _ _ h4 =>
      cases h4
      exact ⟨rfl, _, fun b ⟨o, h5, _⟩ => by simp [isLive] at h5, h2⟩
end
end Go.AM

namespace Go.AM
open Go.ChangeShapes Go.WideShapes Go.ChangeAt Go.RowKit

section
variable {H : Type} {enc : TypeId × Value → H} {P : Program} {w : World}
theorem wf_range {n : Int} (h : (Lit.int .i64 n).wf = true) : -9223372036854775808 ≤ n ∧ n ≤ 9223372036854775807 := by
  simp only [Lit.wf, IntKind.min, IntKind.max, IntKind.signed, IntKind.bits, Bool.and_eq_true, decide_eq_true_eq, if_true] at h; omega
abbrev TmI := { t : Tm // okI t }
theorem sumBy_val : ∀ l : List TmI, Tm.bks (l.map (·.1)) = sumBy (fun t : TmI => t.1.bk) l
  | [] => rfl
  | t :: l => by rw [List.map_cons, Tm.bks, sumBy, sumBy_val l]
theorem okIs_val (l : List TmI) : okIs (l.map (·.1)) := okIs_of fun t ht => by
  obtain ⟨u, _, rfl⟩ := List.mem_map.1 ht
  exact u.2
theorem rd_termI {b : DataW H → Nat} {bs : List (DataW H) → Nat} (hb : Bulk b bs) {T : TypeId} {f0 f1 f2 f3 : Field} (hT : TmTy P T f0 f1 f2 f3) : ∀ fuel, RdN enc P w b fuel T (fun t : TmI => FT t.1) (fun t => t.1.bk) := by
  intro fuel
  induction fuel using Nat.strongRecOn with
  | _ fuel ih =>
    intro cs x h
    obtain ⟨xs, n, rfl, rfl, hl, hxl, hf⟩ := DataW.trod_struct hT.str h
    rw [hT.cT] at hl
    match cs, hl with
    | [v0, v1, v2, v3], _ =>
    match xs, hxl with
    | [x0, x1, x2, x3], _ =>
    have g0 := hf 0 f0 rfl
    have g1 := hf 1 f1 rfl
    have g2 := hf 2 f2 rfl
    have g3 := hf 3 f3 rfl
    rw [hT.o0, hT.c0] at g0
    rw [hT.o1, hT.c1] at g1
    rw [hT.o2, hT.c2] at g2
    rw [hT.o3, hT.c3] at g3
    obtain ⟨k, r0, _⟩ := rd_int (b := b) hT.u0 hb.one n _ _ g0
    obtain ⟨s, r1, z1⟩ := rd_str (b := b) hT.u1 hb.str n _ _ g1
    have z1 : s.length + 1 ≤ b x1.1 := z1
    obtain ⟨m, r2, _⟩ := rd_num (b := b) hT.u2 hb.one n _ _ g2
    obtain ⟨l, r3, z3⟩ := rd_slice (F := fun t : TmI => FT t.1) (sz := fun t : TmI => t.1.bk) hb.cons hb.one hb.slice hT.u3 hT.cT (by omega) (fun t => FT_length t.1) (fun k hk => ih k (by omega)) _ _ g3
    have z3 : sumBy (fun t : TmI => t.1.bk) l + 1 ≤ b x3.1 := z3
    refine ⟨⟨.mk k s m.1 (l.map (·.1)), wf_range m.2, okIs_val l⟩, ?_, ?_⟩
    · have e : FTs (l.map (·.1)) = l.map fun t : TmI => FT t.1 := by rw [FTs_map, List.map_map]; rfl
      show LRep (FRep w none1) (FT (.mk k s m.1 (l.map (·.1)))) _
      rw [FT, e]
      exact .cons (LRep.one r0) (.cons (LRep.one r1) (.cons (LRep.one r2) (.cons (LRep.one r3) .nil)))
    · have := hb.one x0.1
      show Tm.bk (.mk k s m.1 (l.map (·.1))) ≤ b (.agg [x0.1, x1.1, x2.1, x3.1])
      simp only [Tm.bk, sumBy_val]
      have h9 := hb.agg [x0.1, x1.1, x2.1, x3.1]
      simp only [hb.cons, hb.nil] at h9
      omega
theorem open_termI {b : DataW H → Nat} {bs : List (DataW H) → Nat} (hb : Bulk b bs) {T : TypeId} {f0 f1 f2 f3 : Field} (hT : TmTy P T f0 f1 f2 f3) {r : Reach} {base : Nat} {v : Value} {d : DataW H} {ps : List MemPlace}
    (hv : Value.okWide P w r base T v) (hd : DataW.Trod enc P w 0 (fun _ => true) true T v d ps) : ∃ t : Tm, TRep w none1 β0 (aT t) v ∧ t.bk ≤ b d ∧ okI t := by
  obtain ⟨cs, rfl, _⟩ := okWide_struct hT.str hv
  obtain ⟨fuel, hf⟩ := hd
  obtain ⟨t, h1, h2⟩ := rd_termI hb hT fuel _ _ hf
  refine ⟨t.1, ⟨cs.toList, by simp, ?_⟩, h2, t.2⟩
  have h1 : LRep (FRep w none1) (FT t.1) cs.toList := h1
  rw [FT_eta] at h1
  exact h1.map (g := fun x => WV.a (.fz x)) fun c u _ h => .a _ _ (.fz _ _ h)
end
end Go.AM

namespace Go.AM
open Go.ChangeShapes Go.WideShapes Go.ChangeAt Go.RowKit

section
variable {H : Type} {enc : TypeId × Value → H} {P : Program} {w : World}
/-- A row of structs, from what one is. -/
theorem open_rows {b : DataW H → Nat} {bs : List (DataW H) → Nat} (hb : Bulk b bs) {T S : TypeId} {n : Nat} {α : Type} {F : α → List FV} {sz : α → Nat} (hF : ∀ a, (F a).length = n) (hn : P.cellsOf T = n) (hn0 : 0 < n) (hz : ∀ a, 1 ≤ sz a)
    (h1 : ∀ k, RdN enc P w b k T F sz) (hS : P.underlying S = some (.slice T)) {r : Reach} {base : Nat} {v : Value} {d : DataW H} {ps : List MemPlace}
    (hv : Value.okWide P w r base S v) (hd : DataW.Trod enc P w 0 (fun _ => true) true S v d ps) : ∃ l : List α, TRep w none1 β0 (.c (.a (.fz (.sl false n (l.map F))))) v ∧ sumBy sz l + 1 ≤ b d := by
  obtain ⟨a, len, cap, rfl⟩ := okWide_slice hS hv
  obtain ⟨fuel, hf⟩ := hd
  obtain ⟨l, h1, h2⟩ := rd_slice hb.cons hb.one hb.slice hS hn hn0 hF (fun k _ => h1 k) _ _ hf
  have h1 : LRep (FRep w none1) [.sl false n (l.map F)] [_] := h1
  exact ⟨l, .a _ _ (.fz _ _ h1.one), h2⟩
/-- A truth value and a term. -/
abbrev FBT (v : Bool × TmI) : List FV := .bool v.1 :: FT v.2.1
structure BTTy (P : Program) (T Tt : TypeId) (f0 f1 : Field) : Prop where
  str : P.underlying T = some (.struct #[f0, f1])
  u0 : P.underlying f0.type = some .bool
  t1 : f1.type = Tt
  o0 : f0.offset = 0
  o1 : f1.offset = 1
  c0 : P.cellsOf f0.type = 1
  cT : P.cellsOf T = 5
theorem rd_bt {b : DataW H → Nat} {bs : List (DataW H) → Nat} (hb : Bulk b bs) {T Tt : TypeId} {g0 g1 g2 g3 f0 f1 : Field} (hT : TmTy P Tt g0 g1 g2 g3) (hV : BTTy P T Tt f0 f1) (fuel : Nat) :
    RdN enc P w b fuel T FBT (fun v => v.2.1.bk + 1) := by
  intro cs x h
  obtain ⟨xs, n, rfl, rfl, hl, hxl, hf⟩ := DataW.trod_struct hV.str h
  rw [hV.cT] at hl
  match cs, hl with
  | [v0, v1, v2, v3, v4], _ =>
  match xs, hxl with
  | [x0, x1], _ =>
  have q0 := hf 0 f0 rfl
  have q1 := hf 1 f1 rfl
  rw [hV.o0, hV.c0] at q0
  rw [hV.o1, hV.t1, hT.cT] at q1
  obtain ⟨p, r0, _⟩ := rd_bool (b := b) hV.u0 hb.one n _ _ q0
  obtain ⟨t, r1, z1⟩ := rd_termI hb hT n _ _ q1
  have z1 : t.1.bk ≤ b x1.1 := z1
  refine ⟨(p, t), .cons (LRep.one r0) r1, ?_⟩
  show t.1.bk + 1 ≤ b (.agg [x0.1, x1.1])
  have h9 := hb.agg [x0.1, x1.1]
  simp only [hb.cons, hb.nil] at h9
  omega
/-- A number, a truth value and a term. -/
abbrev IBT := { n : Int // -9223372036854775808 ≤ n ∧ n ≤ 9223372036854775807 } × Bool × TmI
abbrev FIBT (v : IBT) : List FV := .int .i64 v.1.1 :: .bool v.2.1 :: FT v.2.2.1
structure IBTTy (P : Program) (T Tt : TypeId) (f0 f1 f2 : Field) : Prop where
  str : P.underlying T = some (.struct #[f0, f1, f2])
  u0 : P.underlying f0.type = some (.int .i64)
  u1 : P.underlying f1.type = some .bool
  t2 : f2.type = Tt
  o0 : f0.offset = 0
  o1 : f1.offset = 1
  o2 : f2.offset = 2
  c0 : P.cellsOf f0.type = 1
  c1 : P.cellsOf f1.type = 1
  cT : P.cellsOf T = 6
theorem rd_ibt {b : DataW H → Nat} {bs : List (DataW H) → Nat} (hb : Bulk b bs) {T Tt : TypeId} {g0 g1 g2 g3 f0 f1 f2 : Field} (hT : TmTy P Tt g0 g1 g2 g3) (hV : IBTTy P T Tt f0 f1 f2) (fuel : Nat) :
    RdN enc P w b fuel T FIBT (fun v => v.2.2.1.bk + 2) := by
  intro cs x h
  obtain ⟨xs, n, rfl, rfl, hl, hxl, hf⟩ := DataW.trod_struct hV.str h
  rw [hV.cT] at hl
  match cs, hl with
  | [v0, v1, v2, v3, v4, v5], _ =>
  match xs, hxl with
  | [x0, x1, x2], _ =>
  have q0 := hf 0 f0 rfl
  have q1 := hf 1 f1 rfl
  have q2 := hf 2 f2 rfl
  rw [hV.o0, hV.c0] at q0
  rw [hV.o1, hV.c1] at q1
  rw [hV.o2, hV.t2, hT.cT] at q2
  obtain ⟨i, r0, z0⟩ := rd_num (b := b) hV.u0 hb.one n _ _ q0
  obtain ⟨p, r1, z1⟩ := rd_bool (b := b) hV.u1 hb.one n _ _ q1
  obtain ⟨t, r2, z2⟩ := rd_termI hb hT n _ _ q2
  have z2 : t.1.bk ≤ b x2.1 := z2
  have z0 : 1 ≤ b x0.1 := z0
  refine ⟨(⟨i.1, wf_range i.2⟩, p, t), .cons (LRep.one r0) (.cons (LRep.one r1) r2), ?_⟩
  show t.1.bk + 2 ≤ b (.agg [x0.1, x1.1, x2.1])
  have h9 := hb.agg [x0.1, x1.1, x2.1]
  simp only [hb.cons, hb.nil] at h9
  omega
/-- Three numbers and a term. -/
abbrev I3T := { n : Int × Int × Int // (-9223372036854775808 ≤ n.1 ∧ n.1 ≤ 9223372036854775807) ∧ (-9223372036854775808 ≤ n.2.1 ∧ n.2.1 ≤ 9223372036854775807) ∧ (-9223372036854775808 ≤ n.2.2 ∧ n.2.2 ≤ 9223372036854775807) } × TmI
abbrev FI3T (v : I3T) : List FV := .int .i64 v.1.1.1 :: .int .i64 v.1.1.2.1 :: .int .i64 v.1.1.2.2 :: FT v.2.1
structure I3TTy (P : Program) (T Tt : TypeId) (f0 f1 f2 f3 : Field) : Prop where
  str : P.underlying T = some (.struct #[f0, f1, f2, f3])
  u0 : P.underlying f0.type = some (.int .i64)
  u1 : P.underlying f1.type = some (.int .i64)
  u2 : P.underlying f2.type = some (.int .i64)
  t3 : f3.type = Tt
  o0 : f0.offset = 0
  o1 : f1.offset = 1
  o2 : f2.offset = 2
  o3 : f3.offset = 3
  c0 : P.cellsOf f0.type = 1
  c1 : P.cellsOf f1.type = 1
  c2 : P.cellsOf f2.type = 1
  cT : P.cellsOf T = 7
theorem rd_i3t {b : DataW H → Nat} {bs : List (DataW H) → Nat} (hb : Bulk b bs) {T Tt : TypeId} {g0 g1 g2 g3 f0 f1 f2 f3 : Field} (hT : TmTy P Tt g0 g1 g2 g3) (hV : I3TTy P T Tt f0 f1 f2 f3) (fuel : Nat) :
    RdN enc P w b fuel T FI3T (fun v => v.2.1.bk + 3) := by
  intro cs x h
  obtain ⟨xs, n, rfl, rfl, hl, hxl, hf⟩ := DataW.trod_struct hV.str h
  rw [hV.cT] at hl
  match cs, hl with
  | [v0, v1, v2, v3, v4, v5, v6], _ =>
  match xs, hxl with
  | [x0, x1, x2, x3], _ =>
  have q0 := hf 0 f0 rfl
  have q1 := hf 1 f1 rfl
  have q2 := hf 2 f2 rfl
  have q3 := hf 3 f3 rfl
  rw [hV.o0, hV.c0] at q0
  rw [hV.o1, hV.c1] at q1
  rw [hV.o2, hV.c2] at q2
  rw [hV.o3, hV.t3, hT.cT] at q3
  obtain ⟨i, r0, z0⟩ := rd_num (b := b) hV.u0 hb.one n _ _ q0
  obtain ⟨j, r1, z1⟩ := rd_num (b := b) hV.u1 hb.one n _ _ q1
  obtain ⟨k, r2, z2⟩ := rd_num (b := b) hV.u2 hb.one n _ _ q2
  obtain ⟨t, r3, z3⟩ := rd_termI hb hT n _ _ q3
  have z0 : 1 ≤ b x0.1 := z0
  have z1 : 1 ≤ b x1.1 := z1
  have z3 : t.1.bk ≤ b x3.1 := z3
  refine ⟨(⟨(i.1, j.1, k.1), wf_range i.2, wf_range j.2, wf_range k.2⟩, t), .cons (LRep.one r0) (.cons (LRep.one r1) (.cons (LRep.one r2) r3)), ?_⟩
  show t.1.bk + 3 ≤ b (.agg [x0.1, x1.1, x2.1, x3.1])
  have h9 := hb.agg [x0.1, x1.1, x2.1, x3.1]
  simp only [hb.cons, hb.nil] at h9
  omega
end
end Go.AM

namespace Go.AM
open Go.ChangeShapes Go.WideShapes Go.ChangeAt Go.RowKit
mutual
inductive Cd where
  | mk (nm : List UInt8) (ar fr vs sl : Int) (ins : List In1)
inductive In1 where
  | mk (k a : Int) (t : Tm) (l : List Tm) (c : List Cd)
end
namespace Cd
def nm : Cd → List UInt8 | .mk x _ _ _ _ _ => x
def ar : Cd → Int | .mk _ x _ _ _ _ => x
def fr : Cd → Int | .mk _ _ x _ _ _ => x
def vs : Cd → Int | .mk _ _ _ x _ _ => x
def sl : Cd → Int | .mk _ _ _ _ x _ => x
def ins : Cd → List In1 | .mk _ _ _ _ _ x => x
end Cd
namespace In1
def k : In1 → Int | .mk x _ _ _ _ => x
def a : In1 → Int | .mk _ x _ _ _ => x
def t : In1 → Tm | .mk _ _ x _ _ => x
def l : In1 → List Tm | .mk _ _ _ x _ => x
def c : In1 → List Cd | .mk _ _ _ _ x => x
end In1
instance : Inhabited Cd := ⟨.mk [] 0 0 0 0 []⟩
instance : Inhabited In1 := ⟨.mk 0 0 default [] []⟩
mutual
def FC : Cd → List FV
  | .mk nm ar fr vs sl ins => [.str nm, .int .i64 ar, .int .i64 fr, .int .i64 vs, .int .i64 sl, .sl false 8 (FIs ins)]
def FI : In1 → List FV
  | .mk k a t l c => [.int .i64 k, .int .i64 a, .int .i64 t.k, .str t.s, .int .i64 t.n, .sl false 4 (FTs t.l), .sl false 4 (FTs l), .sl false 6 (FCs c)]
def FIs : List In1 → List (List FV)
  | [] => []
  | x :: l => FI x :: FIs l
def FCs : List Cd → List (List FV)
  | [] => []
  | x :: l => FC x :: FCs l
end
theorem FIs_map : ∀ l : List In1, FIs l = l.map FI
  | [] => by rw [FIs]; rfl
  | x :: l => by rw [FIs, FIs_map l]; rfl
theorem FCs_map : ∀ l : List Cd, FCs l = l.map FC
  | [] => by rw [FCs]; rfl
  | x :: l => by rw [FCs, FCs_map l]; rfl
theorem FC_length (c : Cd) : (FC c).length = 6 := by cases c; simp [FC]
theorem FI_length (x : In1) : (FI x).length = 8 := by cases x; simp [FI]
theorem FIs_length (l : List In1) : (FIs l).length = l.length := by rw [FIs_map, List.length_map]
theorem FCs_length (l : List Cd) : (FCs l).length = l.length := by rw [FCs_map, List.length_map]
mutual
/-- How much there is. -/
def Cd.sz : Cd → Nat
  | .mk nm _ _ _ _ ins => 1 + nm.length + In1.szs ins
def In1.sz1 : In1 → Nat
  | .mk _ _ t l c => 1 + t.bk + Tm.bks l + Cd.szs c
def In1.szs : List In1 → Nat
  | [] => 0
  | x :: l => In1.sz1 x + In1.szs l
def Cd.szs : List Cd → Nat
  | [] => 0
  | x :: l => Cd.sz x + Cd.szs l
end
theorem Cd.szs_mem : ∀ {l : List Cd} {c : Cd}, c ∈ l → c.sz ≤ Cd.szs l
  | x :: l, c, h => by
    rcases List.mem_cons.1 h with rfl | h
    · simp only [Cd.szs]; omega
    · have := Cd.szs_mem h; simp only [Cd.szs]; omega
theorem In1.szs_mem : ∀ {l : List In1} {c : In1}, c ∈ l → c.sz1 ≤ In1.szs l
  | x :: l, c, h => by
    rcases List.mem_cons.1 h with rfl | h
    · simp only [In1.szs]; omega
    · have := In1.szs_mem h; simp only [In1.szs]; omega
theorem In1.szs_length : ∀ l : List In1, l.length ≤ In1.szs l
  | [] => Nat.le_refl _
  | x :: l => by have := In1.szs_length l; cases x; simp only [List.length_cons, In1.szs, In1.sz1]; omega
theorem Cd.szs_length : ∀ l : List Cd, l.length ≤ Cd.szs l
  | [] => Nat.le_refl _
  | x :: l => by have := Cd.szs_length l; cases x; simp only [List.length_cons, Cd.szs, Cd.sz]; omega
/-- By what is within. -/
theorem Cd.ind {P : Cd → Prop} (h : ∀ c, (∀ x ∈ c.ins, ∀ d ∈ x.c, P d) → P c) : ∀ c, P c := by
  have key : ∀ n c, Cd.sz c ≤ n → P c := by
    intro n
    induction n with
    | zero => intro c hc; cases c; simp only [Cd.sz] at hc; omega
    | succ n ih =>
      intro c hc
      refine h c fun x hx d hd => ih d ?_
      have h1 := In1.szs_mem hx
      have h2 := Cd.szs_mem hd
      cases c; cases x
      simp only [Cd.sz, Cd.ins, In1.sz1, In1.c] at *
      omega
  exact fun c => key _ c (Nat.le_refl _)
mutual
/-- Numbers within 64 bits. -/
def okCd : Cd → Prop
  | .mk _ ar fr vs sl ins => (-9223372036854775808 ≤ ar ∧ ar ≤ 9223372036854775807) ∧ (-9223372036854775808 ≤ fr ∧ fr ≤ 9223372036854775807) ∧ (-9223372036854775808 ≤ vs ∧ vs ≤ 9223372036854775807) ∧ (-9223372036854775808 ≤ sl ∧ sl ≤ 9223372036854775807) ∧ okIns ins
def okIn : In1 → Prop
  | .mk k a t l c => (-9223372036854775808 ≤ k ∧ k ≤ 9223372036854775807) ∧ (-9223372036854775808 ≤ a ∧ a ≤ 9223372036854775807) ∧ okI t ∧ okIs l ∧ okCds c
def okIns : List In1 → Prop
  | [] => True
  | x :: l => okIn x ∧ okIns l
def okCds : List Cd → Prop
  | [] => True
  | x :: l => okCd x ∧ okCds l
end
theorem okIns_of : ∀ {l : List In1}, (∀ x ∈ l, okIn x) → okIns l
  | [], _ => by rw [okIns]; trivial
  | x :: l, h => by rw [okIns]; exact ⟨h x List.mem_cons_self, okIns_of fun u hu => h u (List.mem_cons_of_mem _ hu)⟩
theorem okCds_of : ∀ {l : List Cd}, (∀ x ∈ l, okCd x) → okCds l
  | [], _ => by rw [okCds]; trivial
  | x :: l, h => by rw [okCds]; exact ⟨h x List.mem_cons_self, okCds_of fun u hu => h u (List.mem_cons_of_mem _ hu)⟩
theorem okIns_mem : ∀ {l : List In1} {x : In1}, okIns l → x ∈ l → okIn x
  | y :: l, x, h, hm => by
    rw [okIns] at h
    rcases List.mem_cons.1 hm with rfl | hm
    · exact h.1
    · exact okIns_mem h.2 hm
theorem okCds_mem : ∀ {l : List Cd} {x : Cd}, okCds l → x ∈ l → okCd x
  | y :: l, x, h, hm => by
    rw [okCds] at h
    rcases List.mem_cons.1 hm with rfl | hm
    · exact h.1
    · exact okCds_mem h.2 hm
abbrev CdI := { c : Cd // okCd c }
abbrev InI := { x : In1 // okIn x }
/-- A code as an argument. -/
abbrev aC (c : Cd) : TV := .agg [.a (.fz (.str c.nm)), .a (.fz (.int .i64 c.ar)), .a (.fz (.int .i64 c.fr)), .a (.fz (.int .i64 c.vs)), .a (.fz (.int .i64 c.sl)), .a (.fz (.sl false 8 (FIs c.ins)))]
abbrev aCs (l : List Cd) : TV := .c (.a (.fz (.sl false 6 (FCs l))))
theorem FC_eta (c : Cd) : FC c = [.str c.nm, .int .i64 c.ar, .int .i64 c.fr, .int .i64 c.vs, .int .i64 c.sl, .sl false 8 (FIs c.ins)] := by cases c; rw [FC]; rfl
theorem FI_eta (x : In1) : FI x = [.int .i64 x.k, .int .i64 x.a, .int .i64 x.t.k, .str x.t.s, .int .i64 x.t.n, .sl false 4 (FTs x.t.l), .sl false 4 (FTs x.l), .sl false 6 (FCs x.c)] := by cases x; rw [FI]; rfl
section
variable {H : Type} {enc : TypeId × Value → H} {P : Program} {w : World}
structure CdTy (P : Program) (TC TI TT : TypeId) (f0 f1 f2 f3 f4 f5 g0 g1 g2 g3 g4 : Field) : Prop where
  str : P.underlying TC = some (.struct #[f0, f1, f2, f3, f4, f5])
  u0 : P.underlying f0.type = some .string
  u1 : P.underlying f1.type = some (.int .i64)
  u2 : P.underlying f2.type = some (.int .i64)
  u3 : P.underlying f3.type = some (.int .i64)
  u4 : P.underlying f4.type = some (.int .i64)
  u5 : P.underlying f5.type = some (.slice TI)
  o : f0.offset = 0 ∧ f1.offset = 1 ∧ f2.offset = 2 ∧ f3.offset = 3 ∧ f4.offset = 4 ∧ f5.offset = 5
  c : P.cellsOf f0.type = 1 ∧ P.cellsOf f1.type = 1 ∧ P.cellsOf f2.type = 1 ∧ P.cellsOf f3.type = 1 ∧ P.cellsOf f4.type = 1 ∧ P.cellsOf f5.type = 1
  cT : P.cellsOf TC = 6
  istr : P.underlying TI = some (.struct #[g0, g1, g2, g3, g4])
  v0 : P.underlying g0.type = some (.int .i64)
  v1 : P.underlying g1.type = some (.int .i64)
  v2 : g2.type = TT
  v3 : P.underlying g3.type = some (.slice TT)
  v4 : P.underlying g4.type = some (.slice TC)
  io : g0.offset = 0 ∧ g1.offset = 1 ∧ g2.offset = 2 ∧ g3.offset = 6 ∧ g4.offset = 7
  ic : P.cellsOf g0.type = 1 ∧ P.cellsOf g1.type = 1 ∧ P.cellsOf g3.type = 1 ∧ P.cellsOf g4.type = 1
  icT : P.cellsOf TI = 8
theorem bks_val : ∀ l : List TmI, sumBy (fun t : TmI => t.1.bk) l = Tm.bks (l.map (·.1)) := fun l => (sumBy_val l).symm
theorem inszs_val : ∀ l : List InI, In1.szs (l.map (·.1)) = sumBy (fun x : InI => x.1.sz1) l
  | [] => by simp [In1.szs, sumBy]
  | t :: l => by rw [List.map_cons, In1.szs, sumBy, inszs_val l]
theorem cdszs_val : ∀ l : List CdI, Cd.szs (l.map (·.1)) = sumBy (fun x : CdI => x.1.sz) l
  | [] => by simp [Cd.szs, sumBy]
  | t :: l => by rw [List.map_cons, Cd.szs, sumBy, cdszs_val l]
theorem rd_cd {b : DataW H → Nat} {bs : List (DataW H) → Nat} (hb : Bulk b bs) {TC TI TT : TypeId} {h0 h1 h2 h3 f0 f1 f2 f3 f4 f5 g0 g1 g2 g3 g4 : Field} (hT : TmTy P TT h0 h1 h2 h3) (hC : CdTy P TC TI TT f0 f1 f2 f3 f4 f5 g0 g1 g2 g3 g4) :
    ∀ fuel, RdN enc P w b fuel TC (fun c : CdI => FC c.1) (fun c => c.1.sz) ∧ RdN enc P w b fuel TI (fun x : InI => FI x.1) (fun x => x.1.sz1) := by
  intro fuel
  induction fuel using Nat.strongRecOn with
  | _ fuel ih =>
    refine ⟨fun cs x h => ?_, fun cs x h => ?_⟩
    · obtain ⟨xs, n, rfl, rfl, hl, hxl, hf⟩ := DataW.trod_struct hC.str h
      rw [hC.cT] at hl
      match cs, hl with
      | [v0, v1, v2, v3, v4, v5], _ =>
      match xs, hxl with
      | [x0, x1, x2, x3, x4, x5], _ =>
      have q0 := hf 0 f0 rfl
      have q1 := hf 1 f1 rfl
      have q2 := hf 2 f2 rfl
      have q3 := hf 3 f3 rfl
      have q4 := hf 4 f4 rfl
      have q5 := hf 5 f5 rfl
      rw [hC.o.1, hC.c.1] at q0
      rw [hC.o.2.1, hC.c.2.1] at q1
      rw [hC.o.2.2.1, hC.c.2.2.1] at q2
      rw [hC.o.2.2.2.1, hC.c.2.2.2.1] at q3
      rw [hC.o.2.2.2.2.1, hC.c.2.2.2.2.1] at q4
      rw [hC.o.2.2.2.2.2, hC.c.2.2.2.2.2] at q5
      obtain ⟨s, r0, z0⟩ := rd_str (b := b) hC.u0 hb.str n _ _ q0
      obtain ⟨i1, r1, z1⟩ := rd_num (b := b) hC.u1 hb.one n _ _ q1
      obtain ⟨i2, r2, z2⟩ := rd_num (b := b) hC.u2 hb.one n _ _ q2
      obtain ⟨i3, r3, z3⟩ := rd_num (b := b) hC.u3 hb.one n _ _ q3
      obtain ⟨i4, r4, z4⟩ := rd_num (b := b) hC.u4 hb.one n _ _ q4
      obtain ⟨l, r5, z5⟩ := rd_slice (F := fun x : InI => FI x.1) (sz := fun x : InI => x.1.sz1) hb.cons hb.one hb.slice hC.u5 hC.icT (by omega) (fun x => FI_length x.1) (fun k hk => (ih k (by omega)).2) _ _ q5
      have z0 : s.length + 1 ≤ b x0.1 := z0
      have z5 : sumBy (fun x : InI => x.1.sz1) l + 1 ≤ b x5.1 := z5
      refine ⟨⟨.mk s i1.1 i2.1 i3.1 i4.1 (l.map (·.1)), by rw [okCd]; exact ⟨wf_range i1.2, wf_range i2.2, wf_range i3.2, wf_range i4.2, okIns_of fun x hx => by obtain ⟨u, _, rfl⟩ := List.mem_map.1 hx; exact u.2⟩⟩, ?_, ?_⟩
      · have e : FIs (l.map (·.1)) = l.map fun x : InI => FI x.1 := by rw [FIs_map, List.map_map]; rfl
        show LRep (FRep w none1) (FC (.mk s i1.1 i2.1 i3.1 i4.1 (l.map (·.1)))) _
        rw [FC, e]
        exact .cons (LRep.one r0) (.cons (LRep.one r1) (.cons (LRep.one r2) (.cons (LRep.one r3) (.cons (LRep.one r4) (.cons (LRep.one r5) .nil)))))
      · show Cd.sz (.mk s i1.1 i2.1 i3.1 i4.1 (l.map (·.1))) ≤ b (.agg [x0.1, x1.1, x2.1, x3.1, x4.1, x5.1])
        have h9 := hb.agg [x0.1, x1.1, x2.1, x3.1, x4.1, x5.1]
        simp only [hb.cons, hb.nil] at h9
        rw [Cd.sz, inszs_val]
        omega
    · obtain ⟨xs, n, rfl, rfl, hl, hxl, hf⟩ := DataW.trod_struct hC.istr h
      rw [hC.icT] at hl
      match cs, hl with
      | [v0, v1, v2, v3, v4, v5, v6, v7], _ =>
      match xs, hxl with
      | [x0, x1, x2, x3, x4], _ =>
      have q0 := hf 0 g0 rfl
      have q1 := hf 1 g1 rfl
      have q2 := hf 2 g2 rfl
      have q3 := hf 3 g3 rfl
      have q4 := hf 4 g4 rfl
      rw [hC.io.1, hC.ic.1] at q0
      rw [hC.io.2.1, hC.ic.2.1] at q1
      rw [hC.io.2.2.1, hC.v2, hT.cT] at q2
      rw [hC.io.2.2.2.1, hC.ic.2.2.1] at q3
      rw [hC.io.2.2.2.2, hC.ic.2.2.2] at q4
      obtain ⟨k, r0, z0⟩ := rd_num (b := b) hC.v0 hb.one n _ _ q0
      obtain ⟨a, r1, z1⟩ := rd_num (b := b) hC.v1 hb.one n _ _ q1
      obtain ⟨t, r2, z2⟩ := rd_termI hb hT n _ _ q2
      obtain ⟨l, r3, z3⟩ := rd_slice (F := fun x : TmI => FT x.1) (sz := fun x : TmI => x.1.bk) hb.cons hb.one hb.slice hC.v3 hT.cT (by omega) (fun x => FT_length x.1) (fun k hk => rd_termI hb hT k) _ _ q3
      obtain ⟨c, r4, z4⟩ := rd_slice (F := fun x : CdI => FC x.1) (sz := fun x : CdI => x.1.sz) hb.cons hb.one hb.slice hC.v4 hC.cT (by omega) (fun x => FC_length x.1) (fun k hk => (ih k (by omega)).1) _ _ q4
      have z2 : t.1.bk ≤ b x2.1 := z2
      have z3 : sumBy (fun x : TmI => x.1.bk) l + 1 ≤ b x3.1 := z3
      have z4 : sumBy (fun x : CdI => x.1.sz) c + 1 ≤ b x4.1 := z4
      refine ⟨⟨.mk k.1 a.1 t.1 (l.map (·.1)) (c.map (·.1)), by rw [okIn]; exact ⟨wf_range k.2, wf_range a.2, t.2, okIs_val l, okCds_of fun x hx => by obtain ⟨u, _, rfl⟩ := List.mem_map.1 hx; exact u.2⟩⟩, ?_, ?_⟩
      · have e : FTs (l.map (·.1)) = l.map fun x : TmI => FT x.1 := by rw [FTs_map, List.map_map]; rfl
        have e2 : FCs (c.map (·.1)) = c.map fun x : CdI => FC x.1 := by rw [FCs_map, List.map_map]; rfl
        have r2 : LRep (FRep w none1) (FT t.1) [v2, v3, v4, v5] := r2
        rw [FT_eta] at r2
        show LRep (FRep w none1) (FI (.mk k.1 a.1 t.1 (l.map (·.1)) (c.map (·.1)))) _
        rw [FI, e, e2]
        obtain ⟨w2, ws2, e3, s2, r2⟩ := r2.cons_inv
        obtain ⟨w3, ws3, e4, s3, r2⟩ := r2.cons_inv
        obtain ⟨w4, ws4, e5, s4, r2⟩ := r2.cons_inv
        obtain ⟨w5, ws5, e6, s5, r2⟩ := r2.cons_inv
        simp only [List.cons.injEq] at e3
        obtain ⟨rfl, rfl⟩ := e3
        simp only [List.cons.injEq] at e4
        obtain ⟨rfl, rfl⟩ := e4
        simp only [List.cons.injEq] at e5
        obtain ⟨rfl, rfl⟩ := e5
        simp only [List.cons.injEq] at e6
        obtain ⟨rfl, _⟩ := e6
        exact .cons (LRep.one r0) (.cons (LRep.one r1) (.cons s2 (.cons s3 (.cons s4 (.cons s5 (.cons (LRep.one r3) (.cons (LRep.one r4) .nil)))))))
      · show In1.sz1 (.mk k.1 a.1 t.1 (l.map (·.1)) (c.map (·.1))) ≤ b (.agg [x0.1, x1.1, x2.1, x3.1, x4.1])
        have h9 := hb.agg [x0.1, x1.1, x2.1, x3.1, x4.1]
        simp only [hb.cons, hb.nil] at h9
        rw [In1.sz1, cdszs_val, sumBy_val]
        have := hb.one x0.1
        omega
theorem open_cd {b : DataW H → Nat} {bs : List (DataW H) → Nat} (hb : Bulk b bs) {TC TI TT : TypeId} {h0 h1 h2 h3 f0 f1 f2 f3 f4 f5 g0 g1 g2 g3 g4 : Field} (hT : TmTy P TT h0 h1 h2 h3) (hC : CdTy P TC TI TT f0 f1 f2 f3 f4 f5 g0 g1 g2 g3 g4) {r : Reach} {base : Nat} {v : Value} {d : DataW H} {ps : List MemPlace}
    (hv : Value.okWide P w r base TC v) (hd : DataW.Trod enc P w 0 (fun _ => true) true TC v d ps) : ∃ c : Cd, TRep w none1 β0 (aC c) v ∧ c.sz ≤ b d ∧ okCd c := by
  obtain ⟨cs, rfl, _⟩ := okWide_struct hC.str hv
  obtain ⟨fuel, hf⟩ := hd
  obtain ⟨c, h1, h2⟩ := (rd_cd hb hT hC fuel).1 _ _ hf
  refine ⟨c.1, ⟨cs.toList, by simp, ?_⟩, h2, c.2⟩
  have h1 : LRep (FRep w none1) (FC c.1) cs.toList := h1
  rw [FC_eta] at h1
  exact h1.map (g := fun x => WV.a (.fz x)) fun c u _ h => .a _ _ (.fz _ _ h)
theorem open_cds {b : DataW H → Nat} {bs : List (DataW H) → Nat} (hb : Bulk b bs) {TS TC TI TT : TypeId} {h0 h1 h2 h3 f0 f1 f2 f3 f4 f5 g0 g1 g2 g3 g4 : Field} (hT : TmTy P TT h0 h1 h2 h3) (hC : CdTy P TC TI TT f0 f1 f2 f3 f4 f5 g0 g1 g2 g3 g4) (hS : P.underlying TS = some (.slice TC)) {r : Reach} {base : Nat} {v : Value} {d : DataW H} {ps : List MemPlace}
    (hv : Value.okWide P w r base TS v) (hd : DataW.Trod enc P w 0 (fun _ => true) true TS v d ps) : ∃ l : List Cd, TRep w none1 β0 (aCs l) v ∧ Cd.szs l + 1 ≤ b d ∧ okCds l := by
  obtain ⟨a, len, cap, rfl⟩ := okWide_slice hS hv
  obtain ⟨fuel, hf⟩ := hd
  obtain ⟨l, h1, h2⟩ := rd_slice (F := fun x : CdI => FC x.1) (sz := fun x : CdI => x.1.sz) hb.cons hb.one hb.slice hS hC.cT (by omega) (fun x => FC_length x.1) (fun k _ => (rd_cd hb hT hC k).1) _ _ hf
  have h2 : sumBy (fun x : CdI => x.1.sz) l + 1 ≤ b d := h2
  have h1 : LRep (FRep w none1) [.sl false 6 (l.map fun x : CdI => FC x.1)] [_] := h1
  refine ⟨l.map (·.1), ?_, by rw [cdszs_val]; exact h2, okCds_of fun x hx => by obtain ⟨u, _, rfl⟩ := List.mem_map.1 hx; exact u.2⟩
  have e2 : FCs (l.map (·.1)) = l.map fun x : CdI => FC x.1 := by rw [FCs_map, List.map_map]; rfl
  show TRep w none1 β0 (.c (.a (.fz (.sl false 6 (FCs (l.map (·.1))))))) _
  rw [e2]
  exact .a _ _ (.fz _ _ h1.one)
/-- What a term begins with. -/
structure Key where
  any : Bool
  k : Int
  nm : List UInt8
  n : Int
  ar : Int
  deriving DecidableEq
abbrev aK (k : Key) : TV := .agg [.a (.fz (.bool k.any)), .a (.fz (.int .i64 k.k)), .a (.fz (.str k.nm)), .a (.fz (.int .i64 k.n)), .a (.fz (.int .i64 k.ar))]
structure KeyTy (P : Program) (T : TypeId) (f0 f1 f2 f3 f4 : Field) : Prop where
  str : P.underlying T = some (.struct #[f0, f1, f2, f3, f4])
  u0 : P.underlying f0.type = some .bool
  u1 : P.underlying f1.type = some (.int .i64)
  u2 : P.underlying f2.type = some .string
  u3 : P.underlying f3.type = some (.int .i64)
  u4 : P.underlying f4.type = some (.int .i64)
  o : f0.offset = 0 ∧ f1.offset = 1 ∧ f2.offset = 2 ∧ f3.offset = 3 ∧ f4.offset = 4
  c : P.cellsOf f0.type = 1 ∧ P.cellsOf f1.type = 1 ∧ P.cellsOf f2.type = 1 ∧ P.cellsOf f3.type = 1 ∧ P.cellsOf f4.type = 1
  cT : P.cellsOf T = 5
theorem open_key {b : DataW H → Nat} {bs : List (DataW H) → Nat} (hb : Bulk b bs) {T : TypeId} {f0 f1 f2 f3 f4 : Field} (hT : KeyTy P T f0 f1 f2 f3 f4) {r : Reach} {base : Nat} {v : Value} {d : DataW H} {ps : List MemPlace}
    (hv : Value.okWide P w r base T v) (hd : DataW.Trod enc P w 0 (fun _ => true) true T v d ps) : ∃ k : Key, TRep w none1 β0 (aK k) v := by
  obtain ⟨cs, rfl, _⟩ := okWide_struct hT.str hv
  obtain ⟨fuel, hf⟩ := hd
  obtain ⟨xs, n, hcs, _, hl, hxl, hf⟩ := DataW.trod_struct hT.str hf
  rw [hT.cT] at hl
  obtain ⟨cs⟩ := cs
  try dsimp only at *
  match cs, hl with
  | [v0, v1, v2, v3, v4], _ =>
  match xs, hxl with
  | [x0, x1, x2, x3, x4], _ =>
  have q0 := hf 0 f0 rfl
  have q1 := hf 1 f1 rfl
  have q2 := hf 2 f2 rfl
  have q3 := hf 3 f3 rfl
  have q4 := hf 4 f4 rfl
  rw [hT.o.1, hT.c.1] at q0
  rw [hT.o.2.1, hT.c.2.1] at q1
  rw [hT.o.2.2.1, hT.c.2.2.1] at q2
  rw [hT.o.2.2.2.1, hT.c.2.2.2.1] at q3
  rw [hT.o.2.2.2.2, hT.c.2.2.2.2] at q4
  obtain ⟨p, r0, _⟩ := rd_bool (b := b) hT.u0 hb.one n _ _ q0
  obtain ⟨k, r1, _⟩ := rd_int (b := b) hT.u1 hb.one n _ _ q1
  obtain ⟨s, r2, _⟩ := rd_str (b := b) hT.u2 hb.str n _ _ q2
  obtain ⟨m, r3, _⟩ := rd_int (b := b) hT.u3 hb.one n _ _ q3
  obtain ⟨a, r4, _⟩ := rd_int (b := b) hT.u4 hb.one n _ _ q4
  have h1 : LRep (FRep w none1) [.bool p, .int .i64 k, .str s, .int .i64 m, .int .i64 a] [v0, v1, v2, v3, v4] := .cons (LRep.one r0) (.cons (LRep.one r1) (.cons (LRep.one r2) (.cons (LRep.one r3) (.cons (LRep.one r4) .nil))))
  exact ⟨⟨p, k, s, m, a⟩, ⟨_, rfl, h1.map (g := fun x => WV.a (.fz x)) fun c u _ h => .a _ _ (.fz _ _ h)⟩⟩
end
end Go.AM

set_option maxRecDepth 100000
open Go Go.Proofs
namespace Go.AM

/-! ### How large a code is -/
theorem fc_mid (a : List Cd) (c : Cd) (b : List Cd) : List.getD (FCs (a ++ c :: b)) (Int.toNat (a.length : Int)) [] = FC c := by
  rw [show Int.toNat (a.length : Int) = a.length by omega, FCs_map]; simp [List.getD]
theorem fi_mid (a : List In1) (c : In1) (b : List In1) : List.getD (FIs (a ++ c :: b)) (Int.toNat (a.length : Int)) [] = FI c := by
  rw [show Int.toNat (a.length : Int) = a.length by omega, FIs_map]; simp [List.getD]
/-- A row of cells as a code's, as an instruction's. -/
abbrev aCr (r : List FV) : TV := .agg [.a (.fz (.str (FV.asS (List.getD r 0 FV.nils)))), .a (.fz (.int .i64 (FV.asI (List.getD r 1 FV.nils)))), .a (.fz (.int .i64 (FV.asI (List.getD r 2 FV.nils)))), .a (.fz (.int .i64 (FV.asI (List.getD r 3 FV.nils)))), .a (.fz (.int .i64 (FV.asI (List.getD r 4 FV.nils)))), .a (.fz (List.getD r 5 FV.nils))]
theorem aCr_FC (c : Cd) : aCr (FC c) = aC c := by cases c; rw [FC]; rfl
abbrev fCr (r : List FV) : List FV := [.str (FV.asS (List.getD r 0 FV.nils)), .int .i64 (FV.asI (List.getD r 1 FV.nils)), .int .i64 (FV.asI (List.getD r 2 FV.nils)), .int .i64 (FV.asI (List.getD r 3 FV.nils)), .int .i64 (FV.asI (List.getD r 4 FV.nils)), List.getD r 5 FV.nils]
theorem fCr_FC (c : Cd) : fCr (FC c) = FC c := by cases c; rw [FC]; rfl
abbrev fIr (r : List FV) : List FV := [.int .i64 (FV.asI (List.getD r 0 FV.nils)), .int .i64 (FV.asI (List.getD r 1 FV.nils)), .int .i64 (FV.asI (List.getD r 2 FV.nils)), .str (FV.asS (List.getD r 3 FV.nils)), .int .i64 (FV.asI (List.getD r 4 FV.nils)), List.getD r 5 FV.nils, List.getD r 6 FV.nils, List.getD r 7 FV.nils]
theorem fIr_FI (x : In1) : fIr (FI x) = FI x := by cases x; rw [FI]; rfl
abbrev aIt (r : List FV) : TV := .agg [.a (.fz (.int .i64 (FV.asI (List.getD r 2 FV.nils)))), .a (.fz (.str (FV.asS (List.getD r 3 FV.nils)))), .a (.fz (.int .i64 (FV.asI (List.getD r 4 FV.nils)))), .a (.fz (List.getD r 5 FV.nils))]
theorem aIt_FI (x : In1) : aIt (FI x) = aT x.t := by cases x; rw [FI]; rfl
theorem FI6 (x : In1) : List.getD (FI x) 6 FV.nils = .sl false 4 (FTs x.l) := by cases x; rw [FI]; rfl
theorem FI7 (x : In1) : List.getD (FI x) 7 FV.nils = .sl false 6 (FCs x.c) := by cases x; rw [FI]; rfl
theorem FI3 (x : In1) : FV.asS (List.getD (FI x) 3 FV.nils) = x.t.s := by cases x; rw [FI]; rfl
theorem FI0 (x : In1) : FV.asI (List.getD (FI x) 0 FV.nils) = x.k := by cases x; rw [FI]; rfl
theorem FI1 (x : In1) : FV.asI (List.getD (FI x) 1 FV.nils) = x.a := by cases x; rw [FI]; rfl
abbrev cCd (c : Cd) : List WV := [.a (.fz (.str c.nm)), .a (.fz (.int .i64 c.ar)), .a (.fz (.int .i64 c.fr)), .a (.fz (.int .i64 c.vs)), .a (.fz (.int .i64 c.sl)), .a (.fz (.sl false 8 (FIs c.ins)))]
abbrev cIn (x : In1) : List WV := [.a (.fz (.int .i64 x.k)), .a (.fz (.int .i64 x.a)), .a (.fz (.int .i64 x.t.k)), .a (.fz (.str x.t.s)), .a (.fz (.int .i64 x.t.n)), .a (.fz (.sl false 4 (FTs x.t.l))), .a (.fz (.sl false 4 (FTs x.l))), .a (.fz (.sl false 6 (FCs x.c)))]
abbrev cIr (r : List FV) : List WV := [.a (.fz (.int .i64 (FV.asI (List.getD r 0 FV.nils)))), .a (.fz (.int .i64 (FV.asI (List.getD r 1 FV.nils)))), .a (.fz (.int .i64 (FV.asI (List.getD r 2 FV.nils)))), .a (.fz (.str (FV.asS (List.getD r 3 FV.nils)))), .a (.fz (.int .i64 (FV.asI (List.getD r 4 FV.nils)))), .a (.fz (List.getD r 5 FV.nils)), .a (.fz (List.getD r 6 FV.nils)), .a (.fz (List.getD r 7 FV.nils))]
theorem cIr_FI (x : In1) : cIr (FI x) = cIn x := by cases x; rw [FI]; rfl
def badL (l : List Tm) : Bool := l.any fun t => large t 40 || !near 1048576 t
def badIn (t : Tm) (l : List Tm) : Bool := large t 40 || (!near 1048576 t || (decide ((l.length : Int) > 4) || (decide ((t.s.length : Int) > 60) || badL l)))
mutual
def leftC : Cd → Int → Int
  | .mk _ _ _ _ _ ins, m => leftIs ins (m - 1)
def leftIs : List In1 → Int → Int
  | [], n => n
  | .mk _ _ t l c :: is, n => if n < 0 then n else if badIn t l = true then 0 - 1 else leftIs is (leftCs c (n - 1))
def leftCs : List Cd → Int → Int
  | [], n => n
  | c :: cs, n => if n < 0 then n else leftCs cs (leftC c n)
end
theorem leftC_eq (c : Cd) (m : Int) : leftC c m = leftIs c.ins (m - 1) := by cases c; rw [leftC]; rfl
theorem leftIs_cons (x : In1) (is : List In1) (n : Int) : leftIs (x :: is) n = if n < 0 then n else if badIn x.t x.l = true then 0 - 1 else leftIs is (leftCs x.c (n - 1)) := by cases x; rw [leftIs]; rfl
mutual
theorem leftC_b : ∀ (c : Cd) (m : Int), 0 ≤ m → 0 - 1 ≤ leftC c m ∧ leftC c m ≤ m
  | .mk _ _ _ _ _ ins, m, h => by
    have := leftIs_b ins (m - 1) (by omega)
    rw [leftC]; omega
theorem leftIs_b : ∀ (l : List In1) (n : Int), 0 - 1 ≤ n → 0 - 1 ≤ leftIs l n ∧ leftIs l n ≤ n
  | [], n, h => by rw [leftIs]; omega
  | .mk _ _ t l c :: is, n, h => by
    rw [leftIs]
    split
    · omega
    · split
      · omega
      · have h1 := leftCs_b c (n - 1) (by omega)
        have h2 := leftIs_b is (leftCs c (n - 1)) h1.1
        omega
theorem leftCs_b : ∀ (l : List Cd) (n : Int), 0 - 1 ≤ n → 0 - 1 ≤ leftCs l n ∧ leftCs l n ≤ n
  | [], n, h => by rw [leftCs]; omega
  | c :: cs, n, h => by
    rw [leftCs]
    split
    · omega
    · have h1 := leftC_b c n (by omega)
      have h2 := leftCs_b cs (leftC c n) h1.1
      omega
end
theorem leftIs_neg {n : Int} (h : n < 0) : ∀ l : List In1, leftIs l n = n
  | [] => by rw [leftIs]
  | x :: l => by rw [leftIs_cons, if_pos h]
theorem l_cleft9 (c : Cd) (x : In1) (i : Int) (r : TV) : ∀ (b a : List Cd) (n : Int), x.c = a ++ b → x.c.length ≤ B → (∀ d ∈ b, ∀ m : Int, 0 ≤ m → m ≤ 4611686018427387904 → AC Try.prog 65 [aC d, ci m] [] (ci (leftC d m)) []) → 0 - 1 ≤ n → n ≤ 4611686018427387904 → 0 ≤ i → i ≤ B →
    RPt Try.prog 65 0 r [] 1 ⟨[(2, .c (.a (.ep 0 6 0 0))), (5, ci (leftCs b n)), (6, ci (i + 1))], [(0, .arr 6 [cCd c])], 1⟩ →
    RPt Try.prog 65 0 r [] 9 ⟨[(2, .c (.a (.ep 0 6 0 0))), (5, ci n), (6, ci i), (7, .c (.a (.ep 1 8 0 0))), (11, ci a.length)], [(0, .arr 6 [cCd c]), (1, .arr 8 [cIn x])], 2⟩
  | [], a, n, hx, hB, ih, h0, h1, hi, hi2, hk => by
    refine RPt.vc hP sh lv65 (Eq.mpr (v65_9a n i a.length ..) ?_)
    rw [leftCs] at hk
    simp only [B] at hi2
    rw [w64 (x := i + 1) (by omega) (by omega)]
    refine ⟨rfl, br_of (fun h => absurd (of_decide_eq_true h) ?_) (fun _ => ?_)⟩
    · show ¬ (a.length : Int) < (((FCs x.c).length : Nat) : Int)
      rw [hx, FCs_length]; simp
    · exact hk
  | d :: b, a, n, hx, hB, ih, h0, h1, hi, hi2, hk => by
    refine RPt.vc hP sh lv65 (Eq.mpr (v65_9a n i a.length ..) ?_)
    rw [leftCs] at hk
    simp only [B] at hi2 hB
    rw [hx, List.length_append, List.length_cons] at hB
    have hlt : (a.length : Int) < (((FV.ses (.sl false 6 (FCs x.c))).length : Nat) : Int) := by show (a.length : Int) < (((FCs x.c).length : Nat) : Int); rw [hx, FCs_length, List.length_append, List.length_cons]; omega
    rw [w64 (x := i + 1) (by omega) (by omega), w64 (x := (a.length : Int) + 1) (by omega) (by omega)]
    refine ⟨rfl, br_of (fun _ => br_of (fun hn => ?_) (fun hn => ?_)) (fun h => absurd hlt (of_decide_eq_false h))⟩
    · have hn := of_decide_eq_true hn
      have e : List.getD (FV.ses (.sl false 6 (FCs x.c))) (Int.toNat (a.length : Int)) [] = FC d := by rw [hx]; exact fc_mid a d b
      rw [e]
      have hc := ih d List.mem_cons_self n (by omega) h1
      have hb := leftC_b d n (by omega)
      rw [if_neg (by omega)] at hk
      refine ⟨⟨rfl, by omega, hlt, fCr_FC d⟩, _, by rw [show (TV.agg [.a (.fz (.str (FV.asS (List.getD (FC d) 0 FV.nils)))), .a (.fz (.int .i64 (FV.asI (List.getD (FC d) 1 FV.nils)))), .a (.fz (.int .i64 (FV.asI (List.getD (FC d) 2 FV.nils)))), .a (.fz (.int .i64 (FV.asI (List.getD (FC d) 3 FV.nils)))), .a (.fz (.int .i64 (FV.asI (List.getD (FC d) 4 FV.nils)))), .a (.fz (List.getD (FC d) 5 FV.nils))]) = aC d from aCr_FC d]; exact hc, ?_⟩
      have := l_cleft9 c x i r b (a ++ [d]) (leftC d n) (by rw [hx]; simp) (by rw [hx]; simp only [List.length_append, List.length_cons, B]; omega) (fun u hu => ih u (List.mem_cons_of_mem _ hu)) hb.1 (by omega) hi (by simp only [B]; omega) hk
      rw [nx] at this
      exact this
    · have hn := of_decide_eq_false hn
      rw [if_pos (by omega)] at hk
      exact hk
theorem l_cleft5 (c : Cd) (x : In1) (i n : Int) (r : TV) : ∀ (b a : List Tm), x.l = a ++ b → (∀ t ∈ x.l, t.sz ≤ B) → x.l.length ≤ B →
    (badL b = true → TV.Le (ci (0 - 1)) r) → (badL b = false → RPt Try.prog 65 0 r [] 9 ⟨[(2, .c (.a (.ep 0 6 0 0))), (5, ci n), (6, ci i), (7, .c (.a (.ep 1 8 0 0))), (11, ci 0)], [(0, .arr 6 [cCd c]), (1, .arr 8 [cIn x])], 2⟩) →
    RPt Try.prog 65 0 r [] 5 ⟨[(2, .c (.a (.ep 0 6 0 0))), (5, ci n), (6, ci i), (7, .c (.a (.ep 1 8 0 0))), (10, ci a.length)], [(0, .arr 6 [cCd c]), (1, .arr 8 [cIn x])], 2⟩
  | [], a, hx, hs, hB, hb, hk => by
    refine RPt.vc hP sh lv65 (Eq.mpr (v65_5a n i a.length ..) ?_)
    refine ⟨rfl, br_of (fun h => absurd (of_decide_eq_true h) ?_) (fun _ => hk rfl)⟩
    show ¬ (a.length : Int) < (((FTs x.l).length : Nat) : Int)
    rw [hx]; exact geI' a
  | t :: b, a, hx, hs, hB, hb, hk => by
    refine RPt.vc hP sh lv65 (Eq.mpr (v65_5a n i a.length ..) ?_)
    have ht : t ∈ x.l := by rw [hx]; simp
    have hz := hs t ht
    have c1 := c_large t hz 40 (by omega) (by omega)
    have c2 := c_near 1048576 (by omega) (by omega) t hz
    have hB' := hB
    rw [hx, List.length_append, List.length_cons] at hB'
    simp only [B] at hB'
    have hlt : (a.length : Int) < (((FV.ses (.sl false 4 (FTs x.l))).length : Nat) : Int) := by show (a.length : Int) < (((FTs x.l).length : Nat) : Int); rw [hx]; exact ltI' a t b
    have next := l_cleft5 c x i n r b (a ++ [t]) (by rw [hx]; simp) hs hB
    rw [nx] at next
    rw [w64 (x := (a.length : Int) + 1) (by omega) (by omega)]
    have em : rE (List.getD (FV.ses (.sl false 4 (FTs x.l))) (Int.toNat (a.length : Int)) []) = List.getD (FV.ses (.sl false 4 (FTs x.l))) (Int.toNat (a.length : Int)) [] := by rw [hx]; exact rE_mid a t b
    have ea : aE (List.getD (FV.ses (.sl false 4 (FTs x.l))) (Int.toNat (a.length : Int)) []) = aT t := by rw [hx]; exact aE_mid a t b
    rw [ea]
    have eb : badL (t :: b) = ((large t 40 || !near 1048576 t) || badL b) := rfl
    refine ⟨rfl, br_of (fun _ => ⟨⟨rfl, by omega, hlt, em⟩, _, c1, ⟨rfl, by omega, hlt, em⟩, _, c2, br_of (fun h => ⟨hb (by rw [eb, h]; rfl), rfl⟩) (fun h => br_of (fun h' => ⟨hb (by rw [eb, h, h']; rfl), rfl⟩) (fun h' => ?_))⟩) (fun h => absurd hlt (of_decide_eq_false h))⟩
    have e2 : badL (t :: b) = badL b := by rw [eb, h, h']; rfl
    exact next (fun q => hb (e2.trans q)) (fun q => hk (e2.trans q))
theorem l_cleft1 (c : Cd) : ∀ (b a : List In1) (n : Int), c.ins = a ++ b → c.sz ≤ B → (∀ x ∈ b, ∀ d ∈ x.c, ∀ m : Int, 0 ≤ m → m ≤ 4611686018427387904 → AC Try.prog 65 [aC d, ci m] [] (ci (leftC d m)) []) → 0 - 1 ≤ n → n ≤ 4611686018427387904 →
    RPt Try.prog 65 0 (ci (leftIs b n)) [] 1 ⟨[(2, .c (.a (.ep 0 6 0 0))), (5, ci n), (6, ci a.length)], [(0, .arr 6 [cCd c])], 1⟩
  | [], a, n, hx, hz, ih, h0, h1 => by
    refine RPt.vc hP sh lv65 (Eq.mpr (v65_1a n a.length ..) ?_)
    rw [leftIs]
    refine ⟨rfl, br_of (fun h => absurd (of_decide_eq_true h) ?_) (fun _ => ret_i rfl)⟩
    rw [hx, FIs_length]; simp
  | x :: b, a, n, hx, hz, ih, h0, h1 => by
    have hxm : x ∈ c.ins := by rw [hx]; simp
    have z1 := In1.szs_mem hxm
    have z2 := In1.szs_length c.ins
    have z3 : In1.szs c.ins ≤ B := by cases c; simp only [Cd.sz, Cd.ins, B] at *; omega
    have z4 : x.t.bk ≤ B ∧ Tm.bks x.l ≤ B ∧ Cd.szs x.c ≤ B := by cases x; simp only [In1.sz1, In1.t, In1.l, In1.c, B] at *; omega
    have z5 := Tm.sz_bk x.t
    have c1 := c_large x.t (by omega) 40 (by omega) (by omega)
    have c2 := c_near 1048576 (by omega) (by omega) x.t (by omega)
    have hl : (c.ins.length : Int) ≤ B := by omega
    rw [hx, List.length_append, List.length_cons] at hl
    simp only [B] at hl
    have hlt : (a.length : Int) < (((FIs c.ins).length : Nat) : Int) := by rw [hx, FIs_length, List.length_append, List.length_cons]; omega
    rw [leftIs_cons]
    by_cases hn : n < 0
    · rw [if_pos hn]
      refine RPt.vc hP sh lv65 (Eq.mpr (v65_1a n a.length ..) ?_)
      exact ⟨rfl, br_of (fun _ => br_of (fun h => absurd (of_decide_eq_true h) (by omega)) (fun _ => ret_i rfl)) (fun _ => ret_i rfl)⟩
    rw [if_neg hn]
    have hcs := leftCs_b x.c (n - 1) (by omega)
    have next : badIn x.t x.l = false → RPt Try.prog 65 0 (ci (leftIs b (leftCs x.c (n - 1)))) [] 1 ⟨[(2, .c (.a (.ep 0 6 0 0))), (5, ci (leftCs x.c (n - 1))), (6, ci ((a.length : Int) + 1))], [(0, .arr 6 [cCd c])], 1⟩ := fun _ => by
      have := l_cleft1 c b (a ++ [x]) (leftCs x.c (n - 1)) (by rw [hx]; simp) hz (fun y hy => ih y (List.mem_cons_of_mem _ hy)) hcs.1 (by omega)
      rw [nx] at this
      exact this
    have h5 : ∀ r : TV, (badL x.l = true → TV.Le (ci (0 - 1)) r) → (badL x.l = false → RPt Try.prog 65 0 r [] 1 ⟨[(2, .c (.a (.ep 0 6 0 0))), (5, ci (leftCs x.c (n - 1))), (6, ci ((a.length : Int) + 1))], [(0, .arr 6 [cCd c])], 1⟩) →
        RPt Try.prog 65 0 r [] 5 ⟨[(2, .c (.a (.ep 0 6 0 0))), (5, ci (n - 1)), (6, ci a.length), (7, .c (.a (.ep 1 8 0 0))), (10, ci 0)], [(0, .arr 6 [cCd c]), (1, .arr 8 [cIn x])], 2⟩ := fun r q1 q2 => by
      have z6 := Tm.szs_bks x.l
      have z7 := Tm.szs_length x.l
      have z8 := Cd.szs_length x.c
      refine l_cleft5 c x a.length (n - 1) r x.l [] (by simp) (fun t ht => by have := Tm.szs_mem ht; omega) (by omega) q1 (fun q => ?_)
      exact l_cleft9 c x a.length r x.c [] (n - 1) (by simp) (by omega) (ih x List.mem_cons_self) (by omega) (by omega) (by omega) (by simp only [B]; omega) (q2 q)
    refine RPt.vc hP sh lv65 (Eq.mpr (v65_1a n a.length ..) ?_)
    rw [w64 (x := n - 1) (by omega) (by omega)]
    have e : List.getD (FIs c.ins) (Int.toNat (a.length : Int)) [] = FI x := by rw [hx]; exact fi_mid a x b
    rw [e]
    have eb : badIn x.t x.l = (large x.t 40 || (!near 1048576 x.t || (decide ((x.l.length : Int) > 4) || (decide ((x.t.s.length : Int) > 60) || badL x.l)))) := rfl
    have bad : badIn x.t x.l = true → TV.Le (ci (0 - 1)) (ci (if badIn x.t x.l = true then 0 - 1 else leftIs b (leftCs x.c (n - 1)))) := fun q => by rw [if_pos q]; exact .refl _
    have e6 : ((((FV.ses (List.getD (FI x) 6 FV.nils)).length : Nat) : Int)) = (x.l.length : Int) := by rw [FI6]; exact lenI x.l
    have e3 := FI3 x
    refine ⟨rfl, br_of (fun _ => br_of (fun _ => ⟨⟨rfl, by omega, hlt, fIr_FI x⟩, large x.t 40, by rw [show (TV.agg [.a (.fz (.int .i64 (FV.asI (List.getD (FI x) 2 FV.nils)))), .a (.fz (.str (FV.asS (List.getD (FI x) 3 FV.nils)))), .a (.fz (.int .i64 (FV.asI (List.getD (FI x) 4 FV.nils)))), .a (.fz (List.getD (FI x) 5 FV.nils))]) = aT x.t from aIt_FI x]; exact c1,
      near 1048576 x.t, by rw [show (TV.agg [.a (.fz (.int .i64 (FV.asI (List.getD (FI x) 2 FV.nils)))), .a (.fz (.str (FV.asS (List.getD (FI x) 3 FV.nils)))), .a (.fz (.int .i64 (FV.asI (List.getD (FI x) 4 FV.nils)))), .a (.fz (List.getD (FI x) 5 FV.nils))]) = aT x.t from aIt_FI x]; exact c2,
      br_of (fun h => ⟨bad (by rw [eb, h]; rfl), rfl⟩) (fun h => br_of (fun h2 => ⟨bad (by rw [eb, h, h2]; rfl), rfl⟩) (fun h2 => ⟨by rw [FI6]; rfl, br_of (fun h3 => ⟨bad ?_, rfl⟩) (fun h3 => br_of (fun h4 => ⟨bad ?_, rfl⟩) (fun h4 => ?_))⟩))⟩)
      (fun h => absurd (of_decide_eq_false h) (by omega))) (fun h => absurd hlt (of_decide_eq_false h))⟩
    · rw [e6] at h3; rw [eb, h, h2, h3]; rfl
    · rw [e6] at h3; rw [e3] at h4; rw [eb, h, h2, h3, h4]; rfl
    · rw [e6] at h3; rw [e3] at h4
      have e7 : badIn x.t x.l = badL x.l := by rw [eb, h, h2, h3, h4]; rfl
      rw [e7]
      have := h5 (ci (if badL x.l = true then 0 - 1 else leftIs b (leftCs x.c (n - 1)))) (fun q => by rw [if_pos q]; exact .refl _) (fun q => by rw [if_neg (by rw [q]; simp)]; exact next (e7.trans q))
      rw [← cIr_FI x] at this
      exact this
theorem c_cleft : ∀ c : Cd, c.sz ≤ B → ∀ m : Int, 0 ≤ m → m ≤ 4611686018427387904 → AC Try.prog 65 [aC c, ci m] [] (ci (leftC c m)) [] := by
  refine Cd.ind fun c ih hz m h0 h1 => ?_
  have h := l_cleft1 c c.ins [] (m - 1) (by simp) hz (fun x hx d hd m h0 h1 => ih x hx d hd (by
    have a1 := In1.szs_mem hx
    have a2 := Cd.szs_mem hd
    cases c; cases x
    simp only [Cd.sz, Cd.ins, In1.sz1, In1.c] at *
    omega) m h0 h1) (by omega) (by omega)
  rw [← leftC_eq] at h
  refine AC.vc hP sh lv65 (Nat.le_refl _) (by simp) (by simp) (Eq.mpr (v65 ..) ?_)
  rw [w64 (x := m - 1) (by omega) (by omega)]
  exact h
def largeC (c : Cd) (m : Int) : Bool := decide (leftC c m < 0)
theorem c_clarge (c : Cd) (hz : c.sz ≤ B) (m : Int) (h0 : 0 ≤ m) (h1 : m ≤ 4611686018427387904) : AC Try.prog 39 [aC c, ci m] [] (cb (largeC c m)) [] := by
  have h := c_cleft c hz m h0 h1
  refine AC.vc hP sh lv39 (Nat.le_refl _) (by simp) (by simp) (Eq.mpr (v39 ..) ?_)
  exact ⟨_, h, ret_b rfl⟩

end Go.AM

set_option maxRecDepth 100000
open Go Go.Proofs
namespace Go.AM

/-! ### Keys -/
abbrev anyK : Key := ⟨true, 0, [], 0, 0⟩
def keyH (h : Tm) (n : Int) : Key := if h.k = 5 then anyK else if h.k = 4 then anyK else if h.k = 6 then anyK else ⟨false, h.k, h.s, h.n, n⟩
def keyOf (t : Tm) : Key := if t.k = 6 then (match t.l with | [] => anyK | h :: l => keyH h l.length) else keyH t 0
def firstK (c : Cd) : Key := match c.ins with
  | [] => anyK
  | x :: _ => if x.a ≠ 0 then anyK else if x.k = 0 then keyOf x.t else if x.k = 1 then keyOf x.t else anyK
def meetsB (a b : Key) : Bool := if a.any = true then true else if b.any = true then true else ((a.any == b.any) && ((a.k == b.k) && ((a.nm == b.nm) && ((a.n == b.n) && ((a.ar == b.ar) && true)))))
theorem tsz_l (t : Tm) (hz : t.sz ≤ B) : t.l.length ≤ B := by have := Tm.szs_length t.l; have := t.sz_eq; omega
theorem c_kof (t : Tm) (hz : t.sz ≤ B) : AC Try.prog 12 [aT t] [] (aK (keyOf t)) [] := by
  have hl := tsz_l t hz
  obtain ⟨k, s, n, l⟩ := t
  simp only [Tm.l, B] at hl
  refine AC.vc hP sh lv12 (Nat.le_refl _) (by simp) (by simp) (Eq.mpr (v12 k s n (FTs l) _ _) ?_)
  have plain : ∀ {u : Tm} {m : Int}, ∀ K : Key, K = keyH u m → br (u.k == 5) (TV.Le (aK anyK) (aK K) ∧ ([] : List AObj) = []) (br (u.k == 4) (TV.Le (aK anyK) (aK K) ∧ ([] : List AObj) = []) (br (u.k == 6) (TV.Le (aK anyK) (aK K) ∧ ([] : List AObj) = []) (TV.Le (aK ⟨false, u.k, u.s, u.n, m⟩) (aK K) ∧ ([] : List AObj) = []))) := fun {u m} K hK => by
    subst hK
    unfold keyH
    refine br_of (fun h => ?_) (fun h => br_of (fun h2 => ?_) (fun h2 => br_of (fun h3 => ?_) (fun h3 => ?_)))
    · rw [if_pos (by simpa using h)]; exact ⟨.refl _, rfl⟩
    · rw [if_neg (by simpa using h), if_pos (by simpa using h2)]; exact ⟨.refl _, rfl⟩
    · rw [if_neg (by simpa using h), if_neg (by simpa using h2), if_pos (by simpa using h3)]; exact ⟨.refl _, rfl⟩
    · rw [if_neg (by simpa using h), if_neg (by simpa using h2), if_neg (by simpa using h3)]; exact ⟨.refl _, rfl⟩
  refine br_of (fun h6 => ?_) (fun h6 => ?_)
  · have h6 : k = 6 := by simpa using h6
    subst h6
    cases l with
    | nil =>
      rw [show keyOf (.mk 6 s n []) = anyK by unfold keyOf; rw [if_pos (show Tm.k (.mk 6 s n []) = 6 from rfl)]; rfl]
      first | exact ⟨rfl, br_of (fun h => absurd (of_decide_eq_true h) (by simp [FTs])) (fun _ => plain (u := .mk 6 s n []) (m := 0) anyK rfl)⟩ | exact ⟨rfl, br_of (fun _ => ⟨.refl _, rfl⟩) (fun h => by simp [FTs] at h)⟩
    | cons x l =>
      rw [show keyOf (.mk 6 s n (x :: l)) = keyH x l.length by unfold keyOf; rw [if_pos (show Tm.k (.mk 6 s n (x :: l)) = 6 from rfl)]; rfl]
      have e0 : FV.asI (List.getD (List.getD (FTs (x :: l)) 0 []) 0 FV.nils) = x.k := by cases x; rfl
      have e2 : FV.asS (List.getD (List.getD (FTs (x :: l)) 0 []) 1 FV.nils) = x.s := by cases x; rfl
      have e3 : FV.asI (List.getD (List.getD (FTs (x :: l)) 0 []) 2 FV.nils) = x.n := by cases x; rfl
      have e4 : IntKind.wrap .i64 ((((FTs (x :: l)).length : Nat) : Int) - 1) = (l.length : Int) := by
        rw [FTs_length]; simp only [List.length_cons] at hl ⊢
        rw [w64 (by omega) (by omega)]; omega
      have hel : FV.isSl 4 (.sl false 4 (FTs (x :: l))) = true ∧ ((0 : Int) ≤ 0 ∧ ((0 : Int) < (((FTs (x :: l)).length : Nat) : Int) ∧ (rE (List.getD (FTs (x :: l)) 0 []) : List FV) = List.getD (FTs (x :: l)) 0 [])) := ⟨rfl, by omega, by rw [FTs_length]; simp only [List.length_cons]; omega, rE_FT x⟩
      have go := plain (u := x) (m := l.length) (keyH x l.length) rfl
      rw [← e4, ← e0, ← e2, ← e3] at go
      rw [← e4]
      first
        | exact ⟨rfl, br_of (fun _ => ⟨hel, rfl, go⟩) (fun h => absurd (of_decide_eq_false h) (by rw [FTs_length]; simp only [List.length_cons]; omega))⟩
        | exact ⟨rfl, br_of (fun h => by rw [FTs_length] at h; simp at h; omega) (fun _ => ⟨hel, rfl, go⟩)⟩
  · have eK : keyOf (.mk k s n l) = keyH (.mk k s n l) 0 := by unfold keyOf; rw [if_neg (show ¬ Tm.k (.mk k s n l) = 6 from (by simpa using h6 : ¬ k = 6))]
    exact plain (u := .mk k s n l) (m := 0) _ eK
theorem c_krof (t : Tm) (hz : t.sz ≤ B) : AC Try.prog 13 [aT t] [] (aK (keyOf t)) [] := by
  have hl := tsz_l t hz
  obtain ⟨k, s, n, l⟩ := t
  simp only [Tm.l, B] at hl
  refine AC.vc hP sh lv13 (Nat.le_refl _) (by simp) (by simp) (Eq.mpr (v13 k s n (FTs l) _ _) ?_)
  have plain : ∀ {u : Tm} {m : Int}, ∀ K : Key, K = keyH u m → br (u.k == 5) (TV.Le (aK anyK) (aK K) ∧ ([] : List AObj) = []) (br (u.k == 4) (TV.Le (aK anyK) (aK K) ∧ ([] : List AObj) = []) (br (u.k == 6) (TV.Le (aK anyK) (aK K) ∧ ([] : List AObj) = []) (TV.Le (aK ⟨false, u.k, u.s, u.n, m⟩) (aK K) ∧ ([] : List AObj) = []))) := fun {u m} K hK => by
    subst hK
    unfold keyH
    refine br_of (fun h => ?_) (fun h => br_of (fun h2 => ?_) (fun h2 => br_of (fun h3 => ?_) (fun h3 => ?_)))
    · rw [if_pos (by simpa using h)]; exact ⟨.refl _, rfl⟩
    · rw [if_neg (by simpa using h), if_pos (by simpa using h2)]; exact ⟨.refl _, rfl⟩
    · rw [if_neg (by simpa using h), if_neg (by simpa using h2), if_pos (by simpa using h3)]; exact ⟨.refl _, rfl⟩
    · rw [if_neg (by simpa using h), if_neg (by simpa using h2), if_neg (by simpa using h3)]; exact ⟨.refl _, rfl⟩
  refine br_of (fun h6 => ?_) (fun h6 => ?_)
  · have h6 : k = 6 := by simpa using h6
    subst h6
    cases l with
    | nil =>
      rw [show keyOf (.mk 6 s n []) = anyK by unfold keyOf; rw [if_pos (show Tm.k (.mk 6 s n []) = 6 from rfl)]; rfl]
      first | exact ⟨rfl, br_of (fun h => absurd (of_decide_eq_true h) (by simp [FTs])) (fun _ => plain (u := .mk 6 s n []) (m := 0) anyK rfl)⟩ | exact ⟨rfl, br_of (fun _ => ⟨.refl _, rfl⟩) (fun h => by simp [FTs] at h)⟩
    | cons x l =>
      rw [show keyOf (.mk 6 s n (x :: l)) = keyH x l.length by unfold keyOf; rw [if_pos (show Tm.k (.mk 6 s n (x :: l)) = 6 from rfl)]; rfl]
      have e0 : FV.asI (List.getD (List.getD (FTs (x :: l)) 0 []) 0 FV.nils) = x.k := by cases x; rfl
      have e2 : FV.asS (List.getD (List.getD (FTs (x :: l)) 0 []) 1 FV.nils) = x.s := by cases x; rfl
      have e3 : FV.asI (List.getD (List.getD (FTs (x :: l)) 0 []) 2 FV.nils) = x.n := by cases x; rfl
      have e4 : IntKind.wrap .i64 ((((FTs (x :: l)).length : Nat) : Int) - 1) = (l.length : Int) := by
        rw [FTs_length]; simp only [List.length_cons] at hl ⊢
        rw [w64 (by omega) (by omega)]; omega
      have hel : FV.isSl 4 (.sl false 4 (FTs (x :: l))) = true ∧ ((0 : Int) ≤ 0 ∧ ((0 : Int) < (((FTs (x :: l)).length : Nat) : Int) ∧ (rE (List.getD (FTs (x :: l)) 0 []) : List FV) = List.getD (FTs (x :: l)) 0 [])) := ⟨rfl, by omega, by rw [FTs_length]; simp only [List.length_cons]; omega, rE_FT x⟩
      have go := plain (u := x) (m := l.length) (keyH x l.length) rfl
      rw [← e4, ← e0, ← e2, ← e3] at go
      rw [← e4]
      first
        | exact ⟨rfl, br_of (fun _ => ⟨hel, rfl, go⟩) (fun h => absurd (of_decide_eq_false h) (by rw [FTs_length]; simp only [List.length_cons]; omega))⟩
        | exact ⟨rfl, br_of (fun h => by rw [FTs_length] at h; simp at h; omega) (fun _ => ⟨hel, rfl, go⟩)⟩
  · have eK : keyOf (.mk k s n l) = keyH (.mk k s n l) 0 := by unfold keyOf; rw [if_neg (show ¬ Tm.k (.mk k s n l) = 6 from (by simpa using h6 : ¬ k = 6))]
    exact plain (u := .mk k s n l) (m := 0) _ eK
theorem insz (c : Cd) (hz : c.sz ≤ B) {x : In1} {l : List In1} (h : c.ins = x :: l) : x.t.sz ≤ B := by
  have h1 := In1.szs_mem (show x ∈ c.ins by rw [h]; simp)
  have h2 := Tm.sz_bk x.t
  cases c; cases x
  simp only [Cd.sz, Cd.ins, In1.sz1, In1.t] at *
  omega
theorem fi_elem (x : In1) (l : List In1) : FV.isSl 8 (.sl false 8 (FIs (x :: l))) = true ∧ ((0 : Int) ≤ 0 ∧ ((0 : Int) < (((FIs (x :: l)).length : Nat) : Int) ∧ (fIr (List.getD (FIs (x :: l)) 0 []) : List FV) = List.getD (FIs (x :: l)) 0 [])) := by
  refine ⟨rfl, by omega, by rw [FIs_length]; simp only [List.length_cons]; omega, ?_⟩
  rw [show List.getD (FIs (x :: l)) 0 [] = FI x by rw [FIs]; rfl]
  exact fIr_FI x
theorem c_first (c : Cd) (hz : c.sz ≤ B) : AC Try.prog 14 [aC c] [] (aK (firstK c)) [] := by
  cases hi : c.ins with
  | nil =>
    have hf : firstK c = anyK := by rw [firstK, hi]
    rw [hf]
    refine AC.vc hP sh lv14 (Nat.le_refl _) (by simp) (by simp) (Eq.mpr (v14 ..) ?_)
    rw [hi]
    exact ⟨rfl, br_of (fun _ => ⟨.refl _, rfl⟩) (fun h => by simp [FIs] at h)⟩
  | cons x l =>
    have hc := c_kof x.t (insz c hz hi)
    have hf : firstK c = if x.a ≠ 0 then anyK else if x.k = 0 then keyOf x.t else if x.k = 1 then keyOf x.t else anyK := by rw [firstK, hi]
    have el := fi_elem x l
    have e : List.getD (FIs (x :: l)) 0 [] = FI x := by rw [FIs]; rfl
    rw [e] at el
    rw [hf]
    refine AC.vc hP sh lv14 (Nat.le_refl _) (by simp) (by simp) (Eq.mpr (v14 ..) ?_)
    rw [hi, e, show (TV.agg [.a (.fz (.int .i64 (FV.asI (List.getD (FI x) 2 FV.nils)))), .a (.fz (.str (FV.asS (List.getD (FI x) 3 FV.nils)))), .a (.fz (.int .i64 (FV.asI (List.getD (FI x) 4 FV.nils)))), .a (.fz (List.getD (FI x) 5 FV.nils))]) = aT x.t from aIt_FI x]
    refine ⟨rfl, br_of (fun h => by rw [FIs_length] at h; simp at h; omega) (fun _ => ⟨el, br_of (fun h => ?_) (fun h => ⟨el, br_of (fun h2 => ⟨el, _, _, _, _, _, hc, ?_⟩) (fun h2 => br_of (fun h3 => ⟨el, _, _, _, _, _, hc, ?_⟩) (fun h3 => ?_))⟩)⟩)⟩
    · rw [if_pos (by rw [FI1 x] at h; simpa using h)]; exact ⟨.refl _, rfl⟩
    · rw [if_neg (by rw [FI1 x] at h; simpa using h), if_pos (by rw [FI0 x] at h2; simpa using h2)]; exact ⟨.refl _, rfl⟩
    · rw [if_neg (by rw [FI1 x] at h; simpa using h), if_neg (by rw [FI0 x] at h2; simpa using h2), if_pos (by rw [FI0 x] at h3; simpa using h3)]; exact ⟨.refl _, rfl⟩
    · rw [if_neg (by rw [FI1 x] at h; simpa using h), if_neg (by rw [FI0 x] at h2; simpa using h2), if_neg (by rw [FI0 x] at h3; simpa using h3)]; exact ⟨.refl _, rfl⟩
theorem c_rfirst (c : Cd) (hz : c.sz ≤ B) : AC Try.prog 15 [aC c] [] (aK (firstK c)) [] := by
  cases hi : c.ins with
  | nil =>
    have hf : firstK c = anyK := by rw [firstK, hi]
    rw [hf]
    refine AC.vc hP sh lv15 (Nat.le_refl _) (by simp) (by simp) (Eq.mpr (v15 ..) ?_)
    rw [hi]
    exact ⟨rfl, br_of (fun _ => ⟨.refl _, rfl⟩) (fun h => by simp [FIs] at h)⟩
  | cons x l =>
    have hc := c_krof x.t (insz c hz hi)
    have hf : firstK c = if x.a ≠ 0 then anyK else if x.k = 0 then keyOf x.t else if x.k = 1 then keyOf x.t else anyK := by rw [firstK, hi]
    have el := fi_elem x l
    have e : List.getD (FIs (x :: l)) 0 [] = FI x := by rw [FIs]; rfl
    rw [e] at el
    rw [hf]
    refine AC.vc hP sh lv15 (Nat.le_refl _) (by simp) (by simp) (Eq.mpr (v15 ..) ?_)
    rw [hi, e, show (TV.agg [.a (.fz (.int .i64 (FV.asI (List.getD (FI x) 2 FV.nils)))), .a (.fz (.str (FV.asS (List.getD (FI x) 3 FV.nils)))), .a (.fz (.int .i64 (FV.asI (List.getD (FI x) 4 FV.nils)))), .a (.fz (List.getD (FI x) 5 FV.nils))]) = aT x.t from aIt_FI x]
    refine ⟨rfl, br_of (fun h => by rw [FIs_length] at h; simp at h; omega) (fun _ => ⟨el, br_of (fun h => br_of (fun h2 => ?_) (fun h2 => br_of (fun h3 => ?_) (fun h3 => ⟨_, _, _, _, _, hc, ?_⟩))) (fun h => br_of (fun h3 => ?_) (fun h3 => ⟨_, _, _, _, _, hc, ?_⟩))⟩)⟩
    · have h : x.k ≠ 0 := by rw [FI0 x] at h; simpa using h
      have h2 : x.k ≠ 1 := by rw [FI0 x] at h2; simpa using h2
      rw [if_neg h, if_neg h2]; split <;> exact ⟨.refl _, rfl⟩
    · rw [if_pos (by rw [FI1 x] at h3; simpa using h3)]; exact ⟨.refl _, rfl⟩
    · have h : x.k ≠ 0 := by rw [FI0 x] at h; simpa using h
      have h2 : x.k = 1 := by rw [FI0 x] at h2; simpa using h2
      rw [if_neg (by rw [FI1 x] at h3; simpa using h3), if_neg h, if_pos h2]; exact ⟨.refl _, rfl⟩
    · rw [if_pos (by rw [FI1 x] at h3; simpa using h3)]; exact ⟨.refl _, rfl⟩
    · rw [if_neg (by rw [FI1 x] at h3; simpa using h3), if_pos (by rw [FI0 x] at h; simpa using h)]; exact ⟨.refl _, rfl⟩
theorem c_meets (a b : Key) : AC Try.prog 16 [aK a, aK b] [] (cb (meetsB a b)) [] := by
  refine AC.vc hP sh lv16 (Nat.le_refl _) (by simp) (by simp) (Eq.mpr (v16 ..) ?_)
  unfold meetsB
  refine br_of (fun h => ?_) (fun h => br_of (fun h2 => ?_) (fun h2 => ?_))
  · rw [if_pos h]; exact ret_b rfl
  · rw [if_neg (by rw [h]; simp), if_pos h2]; exact ret_b rfl
  · rw [if_neg (by rw [h]; simp), if_neg (by rw [h2]; simp)]; exact ret_b rfl
theorem c_rmeets (a b : Key) : AC Try.prog 17 [aK a, aK b] [] (cb (meetsB a b)) [] := by
  refine AC.vc hP sh lv17 (Nat.le_refl _) (by simp) (by simp) (Eq.mpr (v17 ..) ?_)
  unfold meetsB
  refine br_of (fun h => ?_) (fun h => br_of (fun h2 => ?_) (fun h2 => ?_))
  · rw [if_pos h]; exact ret_b rfl
  · rw [if_neg (by rw [h]; simp), if_pos h2]; exact ret_b rfl
  · rw [if_neg (by rw [h]; simp), if_neg (by rw [h2]; simp)]; exact ret_b rfl
theorem c_kof25 (k : Key) : AC Try.prog 11 [aK k] [] (aK k) [] := by
  refine AC.vc hP sh lv11 (Nat.le_refl _) (by simp) (by simp) (Eq.mpr (v11 ..) ?_)
  exact ⟨.refl _, rfl⟩

end Go.AM

set_option maxRecDepth 100000
open Go Go.Proofs
namespace Go.AM

/-! ### A table of codes: the loop, at each number of names -/
abbrev Ent := List UInt8 × Int × List (Int × Key)
def kRow (x : Int × Key) : List FV := [.int .i64 x.1, .bool x.2.any, .int .i64 x.2.k, .str x.2.nm, .int .i64 x.2.n, .int .i64 x.2.ar]
def ER (l : List (Int × Key)) : List (List FV) := l.map kRow
def insT (p : List UInt8 × Int) (x : Int × Key) : List Ent → List Ent
  | [] => [(p.1, p.2, [x])]
  | e :: E => if (((p.1 : List UInt8) == e.1) && (((p.2 : Int) == e.2.1) && true)) = true then (p.1, p.2, e.2.2 ++ [x]) :: E else e :: insT p x E
def entsO : List Ent → Nat → List MapE
  | [], _ => []
  | e :: E, o => ((true, [.str e.1, .int .i64 e.2.1]), (false, [.a (.osl o 6 0 e.2.2.length)])) :: entsO E (o + 1)
def rowsO (E : List Ent) : List AObj := E.map fun e => .arz 6 (ER e.2.2)
def numR : List Ent → Nat → AHeap
  | [], _ => []
  | e :: E, o => (o, .arz 6 (ER e.2.2)) :: numR E (o + 1)
def tabZ (E : List Ent) : List MapZ := E.map fun e => ((true, [.str e.1, .int .i64 e.2.1]), (false, [.sl false 6 (ER e.2.2)]))
abbrev evN (l : List Cd) (i : Int) : Env := [(3, .c (.a (.ep 0 1 0 0))), (10, aCs l), (11, ci (((FCs l).length : Nat) : Int)), (12, ci i)]
abbrev tab0 : AObj := .arr 1 [[.a (.mp 1)]]
def mapO (E : List Ent) : AObj := match E with | [] => .mapz [] | e :: E => .mapo (entsO (e :: E) 2)
def stN (l : List Cd) (E : List Ent) (i : Int) : St := ⟨evN l i, (0, tab0) :: (1, mapO E) :: numR E 2, 2 + E.length⟩
def outN (E : List Ent) : List AObj := tab0 :: mapO E :: rowsO E
theorem ER_take (l : List (Int × Key)) (x : Int × Key) : List.take l.length (ER l) ++ [kRow x] = ER (l ++ [x]) := by
  rw [List.take_of_length_le (by simp [ER])]; simp [ER]
theorem ER_len (l : List (Int × Key)) : l.length ≤ (ER l).length := by simp [ER]
theorem len1 (l : List (Int × Key)) (x : Int × Key) : (l ++ [x]).length = l.length + 1 := by simp
theorem exitN_0 (l : List Cd)  : RPt Try.prog 19 0 (.c (.a (.ep 0 1 0 0))) (outN []) 1 (stN l [] (((FCs l).length : Nat) : Int)) := by
  refine RPt.vc hP sh lv19 (Eq.mpr (v19_1a (FCs l) (((FCs l).length : Nat) : Int) (((FCs l).length : Nat) : Int) _ _) ?_)
  exact br_of (fun h => absurd (of_decide_eq_true h) (Int.lt_irrefl _)) (fun _ => ⟨.refl _, rfl⟩)
theorem stepN_0 (l a b : List Cd) (c : Cd) (hl : l = a ++ c :: b) (hB : l.length ≤ 12) (hz : c.sz ≤ B)  (hL : ∀ e ∈ ([] : List Ent), e.2.2.length ≤ 12) (r : TV) (Hs : List AObj) (hk : RPt Try.prog 19 0 r Hs 1 (stN l (insT (c.nm, c.ar) (a.length, firstK c) []) ((a.length : Int) + 1))) :
    RPt Try.prog 19 0 r Hs 1 (stN l [] a.length) := by
  have hf := c_first c hz
  have hlt : (a.length : Int) < (((FCs l).length : Nat) : Int) := by rw [FCs_length, hl]; simp; omega
  have hB' := hB
  rw [hl, List.length_append, List.length_cons] at hB'
  have em := fc_mid a c b
  rw [← hl] at em
  have e0 : FV.asS (List.getD (FC c) 0 FV.nils) = c.nm := by cases c; rw [FC]; rfl
  have e1_ : FV.asI (List.getD (FC c) 1 FV.nils) = c.ar := by cases c; rw [FC]; rfl
  refine RPt.vc hP sh lv19 (Eq.mpr (v19_1a (FCs l) (((FCs l).length : Nat) : Int) a.length _ _) ?_)
  rw [w64 (x := (a.length : Int) + 1) (by omega) (by omega), em]
  refine br_of (fun _ => ⟨⟨rfl, by omega, hlt, fCr_FC c⟩, _, _, _, _, _, by rw [show (TV.agg [.a (.fz (.str (FV.asS (List.getD (FC c) 0 FV.nils)))), .a (.fz (.int .i64 (FV.asI (List.getD (FC c) 1 FV.nils)))), .a (.fz (.int .i64 (FV.asI (List.getD (FC c) 2 FV.nils)))), .a (.fz (.int .i64 (FV.asI (List.getD (FC c) 3 FV.nils)))), .a (.fz (.int .i64 (FV.asI (List.getD (FC c) 4 FV.nils)))), .a (.fz (List.getD (FC c) 5 FV.nils))]) = aC c from aCr_FC c]; exact hf, ?_⟩) (fun h => absurd hlt (of_decide_eq_false h))
  rw [e0, e1_]
  have ei : insT (c.nm, c.ar) ((a.length : Int), firstK c) [] = [(c.nm, c.ar, [((a.length : Int), firstK c)])] := by simp only [insT, Bool.false_eq_true, if_false, if_true]
  rw [ei] at hk
  exact ⟨Nat.le_refl _, by unfold roomB; omega, hk⟩
theorem exitN_1 (l : List Cd) (e1 : Ent) : RPt Try.prog 19 0 (.c (.a (.ep 0 1 0 0))) (outN [e1]) 1 (stN l [e1] (((FCs l).length : Nat) : Int)) := by
  obtain ⟨n1, g1, x1⟩ := e1
  refine RPt.vc hP sh lv19 (Eq.mpr (v19_1b (FCs l) (((FCs l).length : Nat) : Int) (((FCs l).length : Nat) : Int) n1 g1 x1.length (ER x1) _ _) ?_)
  exact br_of (fun h => absurd (of_decide_eq_true h) (Int.lt_irrefl _)) (fun _ => ⟨.refl _, rfl⟩)
theorem stepN_1 (l a b : List Cd) (c : Cd) (hl : l = a ++ c :: b) (hB : l.length ≤ 12) (hz : c.sz ≤ B) (e1 : Ent) (hL : ∀ e ∈ ([e1] : List Ent), e.2.2.length ≤ 12) (r : TV) (Hs : List AObj) (hk : RPt Try.prog 19 0 r Hs 1 (stN l (insT (c.nm, c.ar) (a.length, firstK c) [e1]) ((a.length : Int) + 1))) :
    RPt Try.prog 19 0 r Hs 1 (stN l [e1] a.length) := by
  have hf := c_first c hz
  have hlt : (a.length : Int) < (((FCs l).length : Nat) : Int) := by rw [FCs_length, hl]; simp; omega
  have hB' := hB
  rw [hl, List.length_append, List.length_cons] at hB'
  have em := fc_mid a c b
  rw [← hl] at em
  have e0 : FV.asS (List.getD (FC c) 0 FV.nils) = c.nm := by cases c; rw [FC]; rfl
  have e1_ : FV.asI (List.getD (FC c) 1 FV.nils) = c.ar := by cases c; rw [FC]; rfl
  have q1 : e1.2.2.length ≤ 12 := hL e1 (by simp)
  obtain ⟨n1, g1, x1⟩ := e1
  refine RPt.vc hP sh lv19 (Eq.mpr (v19_1b (FCs l) (((FCs l).length : Nat) : Int) a.length n1 g1 x1.length (ER x1) _ _) ?_)
  rw [w64 (x := (a.length : Int) + 1) (by omega) (by omega), em]
  refine br_of (fun _ => ⟨⟨rfl, by omega, hlt, fCr_FC c⟩, _, _, _, _, _, by rw [show (TV.agg [.a (.fz (.str (FV.asS (List.getD (FC c) 0 FV.nils)))), .a (.fz (.int .i64 (FV.asI (List.getD (FC c) 1 FV.nils)))), .a (.fz (.int .i64 (FV.asI (List.getD (FC c) 2 FV.nils)))), .a (.fz (.int .i64 (FV.asI (List.getD (FC c) 3 FV.nils)))), .a (.fz (.int .i64 (FV.asI (List.getD (FC c) 4 FV.nils)))), .a (.fz (List.getD (FC c) 5 FV.nils))]) = aC c from aCr_FC c]; exact hf, ?_⟩) (fun h => absurd hlt (of_decide_eq_false h))
  rw [e0, e1_]
  refine br_of (fun h1 => ?_) (fun h1 => ?_)
  · have ei : insT (c.nm, c.ar) ((a.length : Int), firstK c) [(n1, g1, x1)] = [(c.nm, c.ar, x1 ++ [((a.length : Int), firstK c)])] := by simp only [insT, h1, Bool.false_eq_true, if_false, if_true]
    rw [ei] at hk
    refine ⟨Nat.le_refl _, ⟨ER_len x1, by unfold roomB; have : x1.length ≤ 12 := q1; omega⟩, ?_⟩
    have et := ER_take x1 ((a.length : Int), firstK c)
    rw [show (List.take x1.length (ER x1) ++ [[FV.int .i64 (a.length : Int), .bool (firstK c).any, .int .i64 (firstK c).k, .str (firstK c).nm, .int .i64 (firstK c).n, .int .i64 (firstK c).ar]]) = ER (x1 ++ [((a.length : Int), firstK c)]) from et, ← len1 x1 ((a.length : Int), firstK c)]
    exact hk
  have ei : insT (c.nm, c.ar) ((a.length : Int), firstK c) [(n1, g1, x1)] = [(n1, g1, x1), (c.nm, c.ar, [((a.length : Int), firstK c)])] := by simp only [insT, h1, Bool.false_eq_true, if_false, if_true]
  rw [ei] at hk
  exact ⟨Nat.le_refl _, by unfold roomB; omega, hk⟩
theorem exitN_2 (l : List Cd) (e1 : Ent) (e2 : Ent) : RPt Try.prog 19 0 (.c (.a (.ep 0 1 0 0))) (outN [e1, e2]) 1 (stN l [e1, e2] (((FCs l).length : Nat) : Int)) := by
  obtain ⟨n1, g1, x1⟩ := e1
  obtain ⟨n2, g2, x2⟩ := e2
  refine RPt.vc hP sh lv19 (Eq.mpr (v19_1c (FCs l) (((FCs l).length : Nat) : Int) (((FCs l).length : Nat) : Int) n1 g1 x1.length n2 g2 x2.length (ER x1) (ER x2) _ _) ?_)
  exact br_of (fun h => absurd (of_decide_eq_true h) (Int.lt_irrefl _)) (fun _ => ⟨.refl _, rfl⟩)
theorem stepN_2 (l a b : List Cd) (c : Cd) (hl : l = a ++ c :: b) (hB : l.length ≤ 12) (hz : c.sz ≤ B) (e1 : Ent) (e2 : Ent) (hL : ∀ e ∈ ([e1, e2] : List Ent), e.2.2.length ≤ 12) (r : TV) (Hs : List AObj) (hk : RPt Try.prog 19 0 r Hs 1 (stN l (insT (c.nm, c.ar) (a.length, firstK c) [e1, e2]) ((a.length : Int) + 1))) :
    RPt Try.prog 19 0 r Hs 1 (stN l [e1, e2] a.length) := by
  have hf := c_first c hz
  have hlt : (a.length : Int) < (((FCs l).length : Nat) : Int) := by rw [FCs_length, hl]; simp; omega
  have hB' := hB
  rw [hl, List.length_append, List.length_cons] at hB'
  have em := fc_mid a c b
  rw [← hl] at em
  have e0 : FV.asS (List.getD (FC c) 0 FV.nils) = c.nm := by cases c; rw [FC]; rfl
  have e1_ : FV.asI (List.getD (FC c) 1 FV.nils) = c.ar := by cases c; rw [FC]; rfl
  have q1 : e1.2.2.length ≤ 12 := hL e1 (by simp)
  have q2 : e2.2.2.length ≤ 12 := hL e2 (by simp)
  obtain ⟨n1, g1, x1⟩ := e1
  obtain ⟨n2, g2, x2⟩ := e2
  refine RPt.vc hP sh lv19 (Eq.mpr (v19_1c (FCs l) (((FCs l).length : Nat) : Int) a.length n1 g1 x1.length n2 g2 x2.length (ER x1) (ER x2) _ _) ?_)
  rw [w64 (x := (a.length : Int) + 1) (by omega) (by omega), em]
  refine br_of (fun _ => ⟨⟨rfl, by omega, hlt, fCr_FC c⟩, _, _, _, _, _, by rw [show (TV.agg [.a (.fz (.str (FV.asS (List.getD (FC c) 0 FV.nils)))), .a (.fz (.int .i64 (FV.asI (List.getD (FC c) 1 FV.nils)))), .a (.fz (.int .i64 (FV.asI (List.getD (FC c) 2 FV.nils)))), .a (.fz (.int .i64 (FV.asI (List.getD (FC c) 3 FV.nils)))), .a (.fz (.int .i64 (FV.asI (List.getD (FC c) 4 FV.nils)))), .a (.fz (List.getD (FC c) 5 FV.nils))]) = aC c from aCr_FC c]; exact hf, ?_⟩) (fun h => absurd hlt (of_decide_eq_false h))
  rw [e0, e1_]
  refine br_of (fun h1 => ?_) (fun h1 => ?_)
  · have ei : insT (c.nm, c.ar) ((a.length : Int), firstK c) [(n1, g1, x1), (n2, g2, x2)] = [(c.nm, c.ar, x1 ++ [((a.length : Int), firstK c)]), (n2, g2, x2)] := by simp only [insT, h1, Bool.false_eq_true, if_false, if_true]
    rw [ei] at hk
    refine ⟨Nat.le_refl _, ⟨ER_len x1, by unfold roomB; have : x1.length ≤ 12 := q1; omega⟩, ?_⟩
    have et := ER_take x1 ((a.length : Int), firstK c)
    rw [show (List.take x1.length (ER x1) ++ [[FV.int .i64 (a.length : Int), .bool (firstK c).any, .int .i64 (firstK c).k, .str (firstK c).nm, .int .i64 (firstK c).n, .int .i64 (firstK c).ar]]) = ER (x1 ++ [((a.length : Int), firstK c)]) from et, ← len1 x1 ((a.length : Int), firstK c)]
    exact hk
  refine br_of (fun h2 => ?_) (fun h2 => ?_)
  · have ei : insT (c.nm, c.ar) ((a.length : Int), firstK c) [(n1, g1, x1), (n2, g2, x2)] = [(n1, g1, x1), (c.nm, c.ar, x2 ++ [((a.length : Int), firstK c)])] := by simp only [insT, h1, h2, Bool.false_eq_true, if_false, if_true]
    rw [ei] at hk
    refine ⟨Nat.le_refl _, ⟨ER_len x2, by unfold roomB; have : x2.length ≤ 12 := q2; omega⟩, ?_⟩
    have et := ER_take x2 ((a.length : Int), firstK c)
    rw [show (List.take x2.length (ER x2) ++ [[FV.int .i64 (a.length : Int), .bool (firstK c).any, .int .i64 (firstK c).k, .str (firstK c).nm, .int .i64 (firstK c).n, .int .i64 (firstK c).ar]]) = ER (x2 ++ [((a.length : Int), firstK c)]) from et, ← len1 x2 ((a.length : Int), firstK c)]
    exact hk
  have ei : insT (c.nm, c.ar) ((a.length : Int), firstK c) [(n1, g1, x1), (n2, g2, x2)] = [(n1, g1, x1), (n2, g2, x2), (c.nm, c.ar, [((a.length : Int), firstK c)])] := by simp only [insT, h1, h2, Bool.false_eq_true, if_false, if_true]
  rw [ei] at hk
  exact ⟨Nat.le_refl _, by unfold roomB; omega, hk⟩
theorem exitN_3 (l : List Cd) (e1 : Ent) (e2 : Ent) (e3 : Ent) : RPt Try.prog 19 0 (.c (.a (.ep 0 1 0 0))) (outN [e1, e2, e3]) 1 (stN l [e1, e2, e3] (((FCs l).length : Nat) : Int)) := by
  obtain ⟨n1, g1, x1⟩ := e1
  obtain ⟨n2, g2, x2⟩ := e2
  obtain ⟨n3, g3, x3⟩ := e3
  refine RPt.vc hP sh lv19 (Eq.mpr (v19_1d (FCs l) (((FCs l).length : Nat) : Int) (((FCs l).length : Nat) : Int) n1 g1 x1.length n2 g2 x2.length n3 g3 x3.length (ER x1) (ER x2) (ER x3) _ _) ?_)
  exact br_of (fun h => absurd (of_decide_eq_true h) (Int.lt_irrefl _)) (fun _ => ⟨.refl _, rfl⟩)
theorem stepN_3 (l a b : List Cd) (c : Cd) (hl : l = a ++ c :: b) (hB : l.length ≤ 12) (hz : c.sz ≤ B) (e1 : Ent) (e2 : Ent) (e3 : Ent) (hL : ∀ e ∈ ([e1, e2, e3] : List Ent), e.2.2.length ≤ 12) (r : TV) (Hs : List AObj) (hk : RPt Try.prog 19 0 r Hs 1 (stN l (insT (c.nm, c.ar) (a.length, firstK c) [e1, e2, e3]) ((a.length : Int) + 1))) :
    RPt Try.prog 19 0 r Hs 1 (stN l [e1, e2, e3] a.length) := by
  have hf := c_first c hz
  have hlt : (a.length : Int) < (((FCs l).length : Nat) : Int) := by rw [FCs_length, hl]; simp; omega
  have hB' := hB
  rw [hl, List.length_append, List.length_cons] at hB'
  have em := fc_mid a c b
  rw [← hl] at em
  have e0 : FV.asS (List.getD (FC c) 0 FV.nils) = c.nm := by cases c; rw [FC]; rfl
  have e1_ : FV.asI (List.getD (FC c) 1 FV.nils) = c.ar := by cases c; rw [FC]; rfl
  have q1 : e1.2.2.length ≤ 12 := hL e1 (by simp)
  have q2 : e2.2.2.length ≤ 12 := hL e2 (by simp)
  have q3 : e3.2.2.length ≤ 12 := hL e3 (by simp)
  obtain ⟨n1, g1, x1⟩ := e1
  obtain ⟨n2, g2, x2⟩ := e2
  obtain ⟨n3, g3, x3⟩ := e3
  refine RPt.vc hP sh lv19 (Eq.mpr (v19_1d (FCs l) (((FCs l).length : Nat) : Int) a.length n1 g1 x1.length n2 g2 x2.length n3 g3 x3.length (ER x1) (ER x2) (ER x3) _ _) ?_)
  rw [w64 (x := (a.length : Int) + 1) (by omega) (by omega), em]
  refine br_of (fun _ => ⟨⟨rfl, by omega, hlt, fCr_FC c⟩, _, _, _, _, _, by rw [show (TV.agg [.a (.fz (.str (FV.asS (List.getD (FC c) 0 FV.nils)))), .a (.fz (.int .i64 (FV.asI (List.getD (FC c) 1 FV.nils)))), .a (.fz (.int .i64 (FV.asI (List.getD (FC c) 2 FV.nils)))), .a (.fz (.int .i64 (FV.asI (List.getD (FC c) 3 FV.nils)))), .a (.fz (.int .i64 (FV.asI (List.getD (FC c) 4 FV.nils)))), .a (.fz (List.getD (FC c) 5 FV.nils))]) = aC c from aCr_FC c]; exact hf, ?_⟩) (fun h => absurd hlt (of_decide_eq_false h))
  rw [e0, e1_]
  refine br_of (fun h1 => ?_) (fun h1 => ?_)
  · have ei : insT (c.nm, c.ar) ((a.length : Int), firstK c) [(n1, g1, x1), (n2, g2, x2), (n3, g3, x3)] = [(c.nm, c.ar, x1 ++ [((a.length : Int), firstK c)]), (n2, g2, x2), (n3, g3, x3)] := by simp only [insT, h1, Bool.false_eq_true, if_false, if_true]
    rw [ei] at hk
    refine ⟨Nat.le_refl _, ⟨ER_len x1, by unfold roomB; have : x1.length ≤ 12 := q1; omega⟩, ?_⟩
    have et := ER_take x1 ((a.length : Int), firstK c)
    rw [show (List.take x1.length (ER x1) ++ [[FV.int .i64 (a.length : Int), .bool (firstK c).any, .int .i64 (firstK c).k, .str (firstK c).nm, .int .i64 (firstK c).n, .int .i64 (firstK c).ar]]) = ER (x1 ++ [((a.length : Int), firstK c)]) from et, ← len1 x1 ((a.length : Int), firstK c)]
    exact hk
  refine br_of (fun h2 => ?_) (fun h2 => ?_)
  · have ei : insT (c.nm, c.ar) ((a.length : Int), firstK c) [(n1, g1, x1), (n2, g2, x2), (n3, g3, x3)] = [(n1, g1, x1), (c.nm, c.ar, x2 ++ [((a.length : Int), firstK c)]), (n3, g3, x3)] := by simp only [insT, h1, h2, Bool.false_eq_true, if_false, if_true]
    rw [ei] at hk
    refine ⟨Nat.le_refl _, ⟨ER_len x2, by unfold roomB; have : x2.length ≤ 12 := q2; omega⟩, ?_⟩
    have et := ER_take x2 ((a.length : Int), firstK c)
    rw [show (List.take x2.length (ER x2) ++ [[FV.int .i64 (a.length : Int), .bool (firstK c).any, .int .i64 (firstK c).k, .str (firstK c).nm, .int .i64 (firstK c).n, .int .i64 (firstK c).ar]]) = ER (x2 ++ [((a.length : Int), firstK c)]) from et, ← len1 x2 ((a.length : Int), firstK c)]
    exact hk
  refine br_of (fun h3 => ?_) (fun h3 => ?_)
  · have ei : insT (c.nm, c.ar) ((a.length : Int), firstK c) [(n1, g1, x1), (n2, g2, x2), (n3, g3, x3)] = [(n1, g1, x1), (n2, g2, x2), (c.nm, c.ar, x3 ++ [((a.length : Int), firstK c)])] := by simp only [insT, h1, h2, h3, Bool.false_eq_true, if_false, if_true]
    rw [ei] at hk
    refine ⟨Nat.le_refl _, ⟨ER_len x3, by unfold roomB; have : x3.length ≤ 12 := q3; omega⟩, ?_⟩
    have et := ER_take x3 ((a.length : Int), firstK c)
    rw [show (List.take x3.length (ER x3) ++ [[FV.int .i64 (a.length : Int), .bool (firstK c).any, .int .i64 (firstK c).k, .str (firstK c).nm, .int .i64 (firstK c).n, .int .i64 (firstK c).ar]]) = ER (x3 ++ [((a.length : Int), firstK c)]) from et, ← len1 x3 ((a.length : Int), firstK c)]
    exact hk
  have ei : insT (c.nm, c.ar) ((a.length : Int), firstK c) [(n1, g1, x1), (n2, g2, x2), (n3, g3, x3)] = [(n1, g1, x1), (n2, g2, x2), (n3, g3, x3), (c.nm, c.ar, [((a.length : Int), firstK c)])] := by simp only [insT, h1, h2, h3, Bool.false_eq_true, if_false, if_true]
  rw [ei] at hk
  exact ⟨Nat.le_refl _, by unfold roomB; omega, hk⟩
theorem exitN_4 (l : List Cd) (e1 : Ent) (e2 : Ent) (e3 : Ent) (e4 : Ent) : RPt Try.prog 19 0 (.c (.a (.ep 0 1 0 0))) (outN [e1, e2, e3, e4]) 1 (stN l [e1, e2, e3, e4] (((FCs l).length : Nat) : Int)) := by
  obtain ⟨n1, g1, x1⟩ := e1
  obtain ⟨n2, g2, x2⟩ := e2
  obtain ⟨n3, g3, x3⟩ := e3
  obtain ⟨n4, g4, x4⟩ := e4
  refine RPt.vc hP sh lv19 (Eq.mpr (v19_1e (FCs l) (((FCs l).length : Nat) : Int) (((FCs l).length : Nat) : Int) n1 g1 x1.length n2 g2 x2.length n3 g3 x3.length n4 g4 x4.length (ER x1) (ER x2) (ER x3) (ER x4) _ _) ?_)
  exact br_of (fun h => absurd (of_decide_eq_true h) (Int.lt_irrefl _)) (fun _ => ⟨.refl _, rfl⟩)
theorem stepN_4 (l a b : List Cd) (c : Cd) (hl : l = a ++ c :: b) (hB : l.length ≤ 12) (hz : c.sz ≤ B) (e1 : Ent) (e2 : Ent) (e3 : Ent) (e4 : Ent) (hL : ∀ e ∈ ([e1, e2, e3, e4] : List Ent), e.2.2.length ≤ 12) (r : TV) (Hs : List AObj) (hk : RPt Try.prog 19 0 r Hs 1 (stN l (insT (c.nm, c.ar) (a.length, firstK c) [e1, e2, e3, e4]) ((a.length : Int) + 1))) :
    RPt Try.prog 19 0 r Hs 1 (stN l [e1, e2, e3, e4] a.length) := by
  have hf := c_first c hz
  have hlt : (a.length : Int) < (((FCs l).length : Nat) : Int) := by rw [FCs_length, hl]; simp; omega
  have hB' := hB
  rw [hl, List.length_append, List.length_cons] at hB'
  have em := fc_mid a c b
  rw [← hl] at em
  have e0 : FV.asS (List.getD (FC c) 0 FV.nils) = c.nm := by cases c; rw [FC]; rfl
  have e1_ : FV.asI (List.getD (FC c) 1 FV.nils) = c.ar := by cases c; rw [FC]; rfl
  have q1 : e1.2.2.length ≤ 12 := hL e1 (by simp)
  have q2 : e2.2.2.length ≤ 12 := hL e2 (by simp)
  have q3 : e3.2.2.length ≤ 12 := hL e3 (by simp)
  have q4 : e4.2.2.length ≤ 12 := hL e4 (by simp)
  obtain ⟨n1, g1, x1⟩ := e1
  obtain ⟨n2, g2, x2⟩ := e2
  obtain ⟨n3, g3, x3⟩ := e3
  obtain ⟨n4, g4, x4⟩ := e4
  refine RPt.vc hP sh lv19 (Eq.mpr (v19_1e (FCs l) (((FCs l).length : Nat) : Int) a.length n1 g1 x1.length n2 g2 x2.length n3 g3 x3.length n4 g4 x4.length (ER x1) (ER x2) (ER x3) (ER x4) _ _) ?_)
  rw [w64 (x := (a.length : Int) + 1) (by omega) (by omega), em]
  refine br_of (fun _ => ⟨⟨rfl, by omega, hlt, fCr_FC c⟩, _, _, _, _, _, by rw [show (TV.agg [.a (.fz (.str (FV.asS (List.getD (FC c) 0 FV.nils)))), .a (.fz (.int .i64 (FV.asI (List.getD (FC c) 1 FV.nils)))), .a (.fz (.int .i64 (FV.asI (List.getD (FC c) 2 FV.nils)))), .a (.fz (.int .i64 (FV.asI (List.getD (FC c) 3 FV.nils)))), .a (.fz (.int .i64 (FV.asI (List.getD (FC c) 4 FV.nils)))), .a (.fz (List.getD (FC c) 5 FV.nils))]) = aC c from aCr_FC c]; exact hf, ?_⟩) (fun h => absurd hlt (of_decide_eq_false h))
  rw [e0, e1_]
  refine br_of (fun h1 => ?_) (fun h1 => ?_)
  · have ei : insT (c.nm, c.ar) ((a.length : Int), firstK c) [(n1, g1, x1), (n2, g2, x2), (n3, g3, x3), (n4, g4, x4)] = [(c.nm, c.ar, x1 ++ [((a.length : Int), firstK c)]), (n2, g2, x2), (n3, g3, x3), (n4, g4, x4)] := by simp only [insT, h1, Bool.false_eq_true, if_false, if_true]
    rw [ei] at hk
    refine ⟨Nat.le_refl _, ⟨ER_len x1, by unfold roomB; have : x1.length ≤ 12 := q1; omega⟩, ?_⟩
    have et := ER_take x1 ((a.length : Int), firstK c)
    rw [show (List.take x1.length (ER x1) ++ [[FV.int .i64 (a.length : Int), .bool (firstK c).any, .int .i64 (firstK c).k, .str (firstK c).nm, .int .i64 (firstK c).n, .int .i64 (firstK c).ar]]) = ER (x1 ++ [((a.length : Int), firstK c)]) from et, ← len1 x1 ((a.length : Int), firstK c)]
    exact hk
  refine br_of (fun h2 => ?_) (fun h2 => ?_)
  · have ei : insT (c.nm, c.ar) ((a.length : Int), firstK c) [(n1, g1, x1), (n2, g2, x2), (n3, g3, x3), (n4, g4, x4)] = [(n1, g1, x1), (c.nm, c.ar, x2 ++ [((a.length : Int), firstK c)]), (n3, g3, x3), (n4, g4, x4)] := by simp only [insT, h1, h2, Bool.false_eq_true, if_false, if_true]
    rw [ei] at hk
    refine ⟨Nat.le_refl _, ⟨ER_len x2, by unfold roomB; have : x2.length ≤ 12 := q2; omega⟩, ?_⟩
    have et := ER_take x2 ((a.length : Int), firstK c)
    rw [show (List.take x2.length (ER x2) ++ [[FV.int .i64 (a.length : Int), .bool (firstK c).any, .int .i64 (firstK c).k, .str (firstK c).nm, .int .i64 (firstK c).n, .int .i64 (firstK c).ar]]) = ER (x2 ++ [((a.length : Int), firstK c)]) from et, ← len1 x2 ((a.length : Int), firstK c)]
    exact hk
  refine br_of (fun h3 => ?_) (fun h3 => ?_)
  · have ei : insT (c.nm, c.ar) ((a.length : Int), firstK c) [(n1, g1, x1), (n2, g2, x2), (n3, g3, x3), (n4, g4, x4)] = [(n1, g1, x1), (n2, g2, x2), (c.nm, c.ar, x3 ++ [((a.length : Int), firstK c)]), (n4, g4, x4)] := by simp only [insT, h1, h2, h3, Bool.false_eq_true, if_false, if_true]
    rw [ei] at hk
    refine ⟨Nat.le_refl _, ⟨ER_len x3, by unfold roomB; have : x3.length ≤ 12 := q3; omega⟩, ?_⟩
    have et := ER_take x3 ((a.length : Int), firstK c)
    rw [show (List.take x3.length (ER x3) ++ [[FV.int .i64 (a.length : Int), .bool (firstK c).any, .int .i64 (firstK c).k, .str (firstK c).nm, .int .i64 (firstK c).n, .int .i64 (firstK c).ar]]) = ER (x3 ++ [((a.length : Int), firstK c)]) from et, ← len1 x3 ((a.length : Int), firstK c)]
    exact hk
  refine br_of (fun h4 => ?_) (fun h4 => ?_)
  · have ei : insT (c.nm, c.ar) ((a.length : Int), firstK c) [(n1, g1, x1), (n2, g2, x2), (n3, g3, x3), (n4, g4, x4)] = [(n1, g1, x1), (n2, g2, x2), (n3, g3, x3), (c.nm, c.ar, x4 ++ [((a.length : Int), firstK c)])] := by simp only [insT, h1, h2, h3, h4, Bool.false_eq_true, if_false, if_true]
    rw [ei] at hk
    refine ⟨Nat.le_refl _, ⟨ER_len x4, by unfold roomB; have : x4.length ≤ 12 := q4; omega⟩, ?_⟩
    have et := ER_take x4 ((a.length : Int), firstK c)
    rw [show (List.take x4.length (ER x4) ++ [[FV.int .i64 (a.length : Int), .bool (firstK c).any, .int .i64 (firstK c).k, .str (firstK c).nm, .int .i64 (firstK c).n, .int .i64 (firstK c).ar]]) = ER (x4 ++ [((a.length : Int), firstK c)]) from et, ← len1 x4 ((a.length : Int), firstK c)]
    exact hk
  have ei : insT (c.nm, c.ar) ((a.length : Int), firstK c) [(n1, g1, x1), (n2, g2, x2), (n3, g3, x3), (n4, g4, x4)] = [(n1, g1, x1), (n2, g2, x2), (n3, g3, x3), (n4, g4, x4), (c.nm, c.ar, [((a.length : Int), firstK c)])] := by simp only [insT, h1, h2, h3, h4, Bool.false_eq_true, if_false, if_true]
  rw [ei] at hk
  exact ⟨Nat.le_refl _, by unfold roomB; omega, hk⟩
theorem exitN_5 (l : List Cd) (e1 : Ent) (e2 : Ent) (e3 : Ent) (e4 : Ent) (e5 : Ent) : RPt Try.prog 19 0 (.c (.a (.ep 0 1 0 0))) (outN [e1, e2, e3, e4, e5]) 1 (stN l [e1, e2, e3, e4, e5] (((FCs l).length : Nat) : Int)) := by
  obtain ⟨n1, g1, x1⟩ := e1
  obtain ⟨n2, g2, x2⟩ := e2
  obtain ⟨n3, g3, x3⟩ := e3
  obtain ⟨n4, g4, x4⟩ := e4
  obtain ⟨n5, g5, x5⟩ := e5
  refine RPt.vc hP sh lv19 (Eq.mpr (v19_1f (FCs l) (((FCs l).length : Nat) : Int) (((FCs l).length : Nat) : Int) n1 g1 x1.length n2 g2 x2.length n3 g3 x3.length n4 g4 x4.length n5 g5 x5.length (ER x1) (ER x2) (ER x3) (ER x4) (ER x5) _ _) ?_)
  exact br_of (fun h => absurd (of_decide_eq_true h) (Int.lt_irrefl _)) (fun _ => ⟨.refl _, rfl⟩)
theorem stepN_5 (l a b : List Cd) (c : Cd) (hl : l = a ++ c :: b) (hB : l.length ≤ 12) (hz : c.sz ≤ B) (e1 : Ent) (e2 : Ent) (e3 : Ent) (e4 : Ent) (e5 : Ent) (hL : ∀ e ∈ ([e1, e2, e3, e4, e5] : List Ent), e.2.2.length ≤ 12) (r : TV) (Hs : List AObj) (hk : RPt Try.prog 19 0 r Hs 1 (stN l (insT (c.nm, c.ar) (a.length, firstK c) [e1, e2, e3, e4, e5]) ((a.length : Int) + 1))) :
    RPt Try.prog 19 0 r Hs 1 (stN l [e1, e2, e3, e4, e5] a.length) := by
  have hf := c_first c hz
  have hlt : (a.length : Int) < (((FCs l).length : Nat) : Int) := by rw [FCs_length, hl]; simp; omega
  have hB' := hB
  rw [hl, List.length_append, List.length_cons] at hB'
  have em := fc_mid a c b
  rw [← hl] at em
  have e0 : FV.asS (List.getD (FC c) 0 FV.nils) = c.nm := by cases c; rw [FC]; rfl
  have e1_ : FV.asI (List.getD (FC c) 1 FV.nils) = c.ar := by cases c; rw [FC]; rfl
  have q1 : e1.2.2.length ≤ 12 := hL e1 (by simp)
  have q2 : e2.2.2.length ≤ 12 := hL e2 (by simp)
  have q3 : e3.2.2.length ≤ 12 := hL e3 (by simp)
  have q4 : e4.2.2.length ≤ 12 := hL e4 (by simp)
  have q5 : e5.2.2.length ≤ 12 := hL e5 (by simp)
  obtain ⟨n1, g1, x1⟩ := e1
  obtain ⟨n2, g2, x2⟩ := e2
  obtain ⟨n3, g3, x3⟩ := e3
  obtain ⟨n4, g4, x4⟩ := e4
  obtain ⟨n5, g5, x5⟩ := e5
  refine RPt.vc hP sh lv19 (Eq.mpr (v19_1f (FCs l) (((FCs l).length : Nat) : Int) a.length n1 g1 x1.length n2 g2 x2.length n3 g3 x3.length n4 g4 x4.length n5 g5 x5.length (ER x1) (ER x2) (ER x3) (ER x4) (ER x5) _ _) ?_)
  rw [w64 (x := (a.length : Int) + 1) (by omega) (by omega), em]
  refine br_of (fun _ => ⟨⟨rfl, by omega, hlt, fCr_FC c⟩, _, _, _, _, _, by rw [show (TV.agg [.a (.fz (.str (FV.asS (List.getD (FC c) 0 FV.nils)))), .a (.fz (.int .i64 (FV.asI (List.getD (FC c) 1 FV.nils)))), .a (.fz (.int .i64 (FV.asI (List.getD (FC c) 2 FV.nils)))), .a (.fz (.int .i64 (FV.asI (List.getD (FC c) 3 FV.nils)))), .a (.fz (.int .i64 (FV.asI (List.getD (FC c) 4 FV.nils)))), .a (.fz (List.getD (FC c) 5 FV.nils))]) = aC c from aCr_FC c]; exact hf, ?_⟩) (fun h => absurd hlt (of_decide_eq_false h))
  rw [e0, e1_]
  refine br_of (fun h1 => ?_) (fun h1 => ?_)
  · have ei : insT (c.nm, c.ar) ((a.length : Int), firstK c) [(n1, g1, x1), (n2, g2, x2), (n3, g3, x3), (n4, g4, x4), (n5, g5, x5)] = [(c.nm, c.ar, x1 ++ [((a.length : Int), firstK c)]), (n2, g2, x2), (n3, g3, x3), (n4, g4, x4), (n5, g5, x5)] := by simp only [insT, h1, Bool.false_eq_true, if_false, if_true]
    rw [ei] at hk
    refine ⟨Nat.le_refl _, ⟨ER_len x1, by unfold roomB; have : x1.length ≤ 12 := q1; omega⟩, ?_⟩
    have et := ER_take x1 ((a.length : Int), firstK c)
    rw [show (List.take x1.length (ER x1) ++ [[FV.int .i64 (a.length : Int), .bool (firstK c).any, .int .i64 (firstK c).k, .str (firstK c).nm, .int .i64 (firstK c).n, .int .i64 (firstK c).ar]]) = ER (x1 ++ [((a.length : Int), firstK c)]) from et, ← len1 x1 ((a.length : Int), firstK c)]
    exact hk
  refine br_of (fun h2 => ?_) (fun h2 => ?_)
  · have ei : insT (c.nm, c.ar) ((a.length : Int), firstK c) [(n1, g1, x1), (n2, g2, x2), (n3, g3, x3), (n4, g4, x4), (n5, g5, x5)] = [(n1, g1, x1), (c.nm, c.ar, x2 ++ [((a.length : Int), firstK c)]), (n3, g3, x3), (n4, g4, x4), (n5, g5, x5)] := by simp only [insT, h1, h2, Bool.false_eq_true, if_false, if_true]
    rw [ei] at hk
    refine ⟨Nat.le_refl _, ⟨ER_len x2, by unfold roomB; have : x2.length ≤ 12 := q2; omega⟩, ?_⟩
    have et := ER_take x2 ((a.length : Int), firstK c)
    rw [show (List.take x2.length (ER x2) ++ [[FV.int .i64 (a.length : Int), .bool (firstK c).any, .int .i64 (firstK c).k, .str (firstK c).nm, .int .i64 (firstK c).n, .int .i64 (firstK c).ar]]) = ER (x2 ++ [((a.length : Int), firstK c)]) from et, ← len1 x2 ((a.length : Int), firstK c)]
    exact hk
  refine br_of (fun h3 => ?_) (fun h3 => ?_)
  · have ei : insT (c.nm, c.ar) ((a.length : Int), firstK c) [(n1, g1, x1), (n2, g2, x2), (n3, g3, x3), (n4, g4, x4), (n5, g5, x5)] = [(n1, g1, x1), (n2, g2, x2), (c.nm, c.ar, x3 ++ [((a.length : Int), firstK c)]), (n4, g4, x4), (n5, g5, x5)] := by simp only [insT, h1, h2, h3, Bool.false_eq_true, if_false, if_true]
    rw [ei] at hk
    refine ⟨Nat.le_refl _, ⟨ER_len x3, by unfold roomB; have : x3.length ≤ 12 := q3; omega⟩, ?_⟩
    have et := ER_take x3 ((a.length : Int), firstK c)
    rw [show (List.take x3.length (ER x3) ++ [[FV.int .i64 (a.length : Int), .bool (firstK c).any, .int .i64 (firstK c).k, .str (firstK c).nm, .int .i64 (firstK c).n, .int .i64 (firstK c).ar]]) = ER (x3 ++ [((a.length : Int), firstK c)]) from et, ← len1 x3 ((a.length : Int), firstK c)]
    exact hk
  refine br_of (fun h4 => ?_) (fun h4 => ?_)
  · have ei : insT (c.nm, c.ar) ((a.length : Int), firstK c) [(n1, g1, x1), (n2, g2, x2), (n3, g3, x3), (n4, g4, x4), (n5, g5, x5)] = [(n1, g1, x1), (n2, g2, x2), (n3, g3, x3), (c.nm, c.ar, x4 ++ [((a.length : Int), firstK c)]), (n5, g5, x5)] := by simp only [insT, h1, h2, h3, h4, Bool.false_eq_true, if_false, if_true]
    rw [ei] at hk
    refine ⟨Nat.le_refl _, ⟨ER_len x4, by unfold roomB; have : x4.length ≤ 12 := q4; omega⟩, ?_⟩
    have et := ER_take x4 ((a.length : Int), firstK c)
    rw [show (List.take x4.length (ER x4) ++ [[FV.int .i64 (a.length : Int), .bool (firstK c).any, .int .i64 (firstK c).k, .str (firstK c).nm, .int .i64 (firstK c).n, .int .i64 (firstK c).ar]]) = ER (x4 ++ [((a.length : Int), firstK c)]) from et, ← len1 x4 ((a.length : Int), firstK c)]
    exact hk
  refine br_of (fun h5 => ?_) (fun h5 => ?_)
  · have ei : insT (c.nm, c.ar) ((a.length : Int), firstK c) [(n1, g1, x1), (n2, g2, x2), (n3, g3, x3), (n4, g4, x4), (n5, g5, x5)] = [(n1, g1, x1), (n2, g2, x2), (n3, g3, x3), (n4, g4, x4), (c.nm, c.ar, x5 ++ [((a.length : Int), firstK c)])] := by simp only [insT, h1, h2, h3, h4, h5, Bool.false_eq_true, if_false, if_true]
    rw [ei] at hk
    refine ⟨Nat.le_refl _, ⟨ER_len x5, by unfold roomB; have : x5.length ≤ 12 := q5; omega⟩, ?_⟩
    have et := ER_take x5 ((a.length : Int), firstK c)
    rw [show (List.take x5.length (ER x5) ++ [[FV.int .i64 (a.length : Int), .bool (firstK c).any, .int .i64 (firstK c).k, .str (firstK c).nm, .int .i64 (firstK c).n, .int .i64 (firstK c).ar]]) = ER (x5 ++ [((a.length : Int), firstK c)]) from et, ← len1 x5 ((a.length : Int), firstK c)]
    exact hk
  have ei : insT (c.nm, c.ar) ((a.length : Int), firstK c) [(n1, g1, x1), (n2, g2, x2), (n3, g3, x3), (n4, g4, x4), (n5, g5, x5)] = [(n1, g1, x1), (n2, g2, x2), (n3, g3, x3), (n4, g4, x4), (n5, g5, x5), (c.nm, c.ar, [((a.length : Int), firstK c)])] := by simp only [insT, h1, h2, h3, h4, h5, Bool.false_eq_true, if_false, if_true]
  rw [ei] at hk
  exact ⟨Nat.le_refl _, by unfold roomB; omega, hk⟩
theorem exitN_6 (l : List Cd) (e1 : Ent) (e2 : Ent) (e3 : Ent) (e4 : Ent) (e5 : Ent) (e6 : Ent) : RPt Try.prog 19 0 (.c (.a (.ep 0 1 0 0))) (outN [e1, e2, e3, e4, e5, e6]) 1 (stN l [e1, e2, e3, e4, e5, e6] (((FCs l).length : Nat) : Int)) := by
  obtain ⟨n1, g1, x1⟩ := e1
  obtain ⟨n2, g2, x2⟩ := e2
  obtain ⟨n3, g3, x3⟩ := e3
  obtain ⟨n4, g4, x4⟩ := e4
  obtain ⟨n5, g5, x5⟩ := e5
  obtain ⟨n6, g6, x6⟩ := e6
  refine RPt.vc hP sh lv19 (Eq.mpr (v19_1g (FCs l) (((FCs l).length : Nat) : Int) (((FCs l).length : Nat) : Int) n1 g1 x1.length n2 g2 x2.length n3 g3 x3.length n4 g4 x4.length n5 g5 x5.length n6 g6 x6.length (ER x1) (ER x2) (ER x3) (ER x4) (ER x5) (ER x6) _ _) ?_)
  exact br_of (fun h => absurd (of_decide_eq_true h) (Int.lt_irrefl _)) (fun _ => ⟨.refl _, rfl⟩)
theorem stepN_6 (l a b : List Cd) (c : Cd) (hl : l = a ++ c :: b) (hB : l.length ≤ 12) (hz : c.sz ≤ B) (e1 : Ent) (e2 : Ent) (e3 : Ent) (e4 : Ent) (e5 : Ent) (e6 : Ent) (hL : ∀ e ∈ ([e1, e2, e3, e4, e5, e6] : List Ent), e.2.2.length ≤ 12) (r : TV) (Hs : List AObj) (hk : RPt Try.prog 19 0 r Hs 1 (stN l (insT (c.nm, c.ar) (a.length, firstK c) [e1, e2, e3, e4, e5, e6]) ((a.length : Int) + 1))) :
    RPt Try.prog 19 0 r Hs 1 (stN l [e1, e2, e3, e4, e5, e6] a.length) := by
  have hf := c_first c hz
  have hlt : (a.length : Int) < (((FCs l).length : Nat) : Int) := by rw [FCs_length, hl]; simp; omega
  have hB' := hB
  rw [hl, List.length_append, List.length_cons] at hB'
  have em := fc_mid a c b
  rw [← hl] at em
  have e0 : FV.asS (List.getD (FC c) 0 FV.nils) = c.nm := by cases c; rw [FC]; rfl
  have e1_ : FV.asI (List.getD (FC c) 1 FV.nils) = c.ar := by cases c; rw [FC]; rfl
  have q1 : e1.2.2.length ≤ 12 := hL e1 (by simp)
  have q2 : e2.2.2.length ≤ 12 := hL e2 (by simp)
  have q3 : e3.2.2.length ≤ 12 := hL e3 (by simp)
  have q4 : e4.2.2.length ≤ 12 := hL e4 (by simp)
  have q5 : e5.2.2.length ≤ 12 := hL e5 (by simp)
  have q6 : e6.2.2.length ≤ 12 := hL e6 (by simp)
  obtain ⟨n1, g1, x1⟩ := e1
  obtain ⟨n2, g2, x2⟩ := e2
  obtain ⟨n3, g3, x3⟩ := e3
  obtain ⟨n4, g4, x4⟩ := e4
  obtain ⟨n5, g5, x5⟩ := e5
  obtain ⟨n6, g6, x6⟩ := e6
  refine RPt.vc hP sh lv19 (Eq.mpr (v19_1g (FCs l) (((FCs l).length : Nat) : Int) a.length n1 g1 x1.length n2 g2 x2.length n3 g3 x3.length n4 g4 x4.length n5 g5 x5.length n6 g6 x6.length (ER x1) (ER x2) (ER x3) (ER x4) (ER x5) (ER x6) _ _) ?_)
  rw [w64 (x := (a.length : Int) + 1) (by omega) (by omega), em]
  refine br_of (fun _ => ⟨⟨rfl, by omega, hlt, fCr_FC c⟩, _, _, _, _, _, by rw [show (TV.agg [.a (.fz (.str (FV.asS (List.getD (FC c) 0 FV.nils)))), .a (.fz (.int .i64 (FV.asI (List.getD (FC c) 1 FV.nils)))), .a (.fz (.int .i64 (FV.asI (List.getD (FC c) 2 FV.nils)))), .a (.fz (.int .i64 (FV.asI (List.getD (FC c) 3 FV.nils)))), .a (.fz (.int .i64 (FV.asI (List.getD (FC c) 4 FV.nils)))), .a (.fz (List.getD (FC c) 5 FV.nils))]) = aC c from aCr_FC c]; exact hf, ?_⟩) (fun h => absurd hlt (of_decide_eq_false h))
  rw [e0, e1_]
  refine br_of (fun h1 => ?_) (fun h1 => ?_)
  · have ei : insT (c.nm, c.ar) ((a.length : Int), firstK c) [(n1, g1, x1), (n2, g2, x2), (n3, g3, x3), (n4, g4, x4), (n5, g5, x5), (n6, g6, x6)] = [(c.nm, c.ar, x1 ++ [((a.length : Int), firstK c)]), (n2, g2, x2), (n3, g3, x3), (n4, g4, x4), (n5, g5, x5), (n6, g6, x6)] := by simp only [insT, h1, Bool.false_eq_true, if_false, if_true]
    rw [ei] at hk
    refine ⟨Nat.le_refl _, ⟨ER_len x1, by unfold roomB; have : x1.length ≤ 12 := q1; omega⟩, ?_⟩
    have et := ER_take x1 ((a.length : Int), firstK c)
    rw [show (List.take x1.length (ER x1) ++ [[FV.int .i64 (a.length : Int), .bool (firstK c).any, .int .i64 (firstK c).k, .str (firstK c).nm, .int .i64 (firstK c).n, .int .i64 (firstK c).ar]]) = ER (x1 ++ [((a.length : Int), firstK c)]) from et, ← len1 x1 ((a.length : Int), firstK c)]
    exact hk
  refine br_of (fun h2 => ?_) (fun h2 => ?_)
  · have ei : insT (c.nm, c.ar) ((a.length : Int), firstK c) [(n1, g1, x1), (n2, g2, x2), (n3, g3, x3), (n4, g4, x4), (n5, g5, x5), (n6, g6, x6)] = [(n1, g1, x1), (c.nm, c.ar, x2 ++ [((a.length : Int), firstK c)]), (n3, g3, x3), (n4, g4, x4), (n5, g5, x5), (n6, g6, x6)] := by simp only [insT, h1, h2, Bool.false_eq_true, if_false, if_true]
    rw [ei] at hk
    refine ⟨Nat.le_refl _, ⟨ER_len x2, by unfold roomB; have : x2.length ≤ 12 := q2; omega⟩, ?_⟩
    have et := ER_take x2 ((a.length : Int), firstK c)
    rw [show (List.take x2.length (ER x2) ++ [[FV.int .i64 (a.length : Int), .bool (firstK c).any, .int .i64 (firstK c).k, .str (firstK c).nm, .int .i64 (firstK c).n, .int .i64 (firstK c).ar]]) = ER (x2 ++ [((a.length : Int), firstK c)]) from et, ← len1 x2 ((a.length : Int), firstK c)]
    exact hk
  refine br_of (fun h3 => ?_) (fun h3 => ?_)
  · have ei : insT (c.nm, c.ar) ((a.length : Int), firstK c) [(n1, g1, x1), (n2, g2, x2), (n3, g3, x3), (n4, g4, x4), (n5, g5, x5), (n6, g6, x6)] = [(n1, g1, x1), (n2, g2, x2), (c.nm, c.ar, x3 ++ [((a.length : Int), firstK c)]), (n4, g4, x4), (n5, g5, x5), (n6, g6, x6)] := by simp only [insT, h1, h2, h3, Bool.false_eq_true, if_false, if_true]
    rw [ei] at hk
    refine ⟨Nat.le_refl _, ⟨ER_len x3, by unfold roomB; have : x3.length ≤ 12 := q3; omega⟩, ?_⟩
    have et := ER_take x3 ((a.length : Int), firstK c)
    rw [show (List.take x3.length (ER x3) ++ [[FV.int .i64 (a.length : Int), .bool (firstK c).any, .int .i64 (firstK c).k, .str (firstK c).nm, .int .i64 (firstK c).n, .int .i64 (firstK c).ar]]) = ER (x3 ++ [((a.length : Int), firstK c)]) from et, ← len1 x3 ((a.length : Int), firstK c)]
    exact hk
  refine br_of (fun h4 => ?_) (fun h4 => ?_)
  · have ei : insT (c.nm, c.ar) ((a.length : Int), firstK c) [(n1, g1, x1), (n2, g2, x2), (n3, g3, x3), (n4, g4, x4), (n5, g5, x5), (n6, g6, x6)] = [(n1, g1, x1), (n2, g2, x2), (n3, g3, x3), (c.nm, c.ar, x4 ++ [((a.length : Int), firstK c)]), (n5, g5, x5), (n6, g6, x6)] := by simp only [insT, h1, h2, h3, h4, Bool.false_eq_true, if_false, if_true]
    rw [ei] at hk
    refine ⟨Nat.le_refl _, ⟨ER_len x4, by unfold roomB; have : x4.length ≤ 12 := q4; omega⟩, ?_⟩
    have et := ER_take x4 ((a.length : Int), firstK c)
    rw [show (List.take x4.length (ER x4) ++ [[FV.int .i64 (a.length : Int), .bool (firstK c).any, .int .i64 (firstK c).k, .str (firstK c).nm, .int .i64 (firstK c).n, .int .i64 (firstK c).ar]]) = ER (x4 ++ [((a.length : Int), firstK c)]) from et, ← len1 x4 ((a.length : Int), firstK c)]
    exact hk
  refine br_of (fun h5 => ?_) (fun h5 => ?_)
  · have ei : insT (c.nm, c.ar) ((a.length : Int), firstK c) [(n1, g1, x1), (n2, g2, x2), (n3, g3, x3), (n4, g4, x4), (n5, g5, x5), (n6, g6, x6)] = [(n1, g1, x1), (n2, g2, x2), (n3, g3, x3), (n4, g4, x4), (c.nm, c.ar, x5 ++ [((a.length : Int), firstK c)]), (n6, g6, x6)] := by simp only [insT, h1, h2, h3, h4, h5, Bool.false_eq_true, if_false, if_true]
    rw [ei] at hk
    refine ⟨Nat.le_refl _, ⟨ER_len x5, by unfold roomB; have : x5.length ≤ 12 := q5; omega⟩, ?_⟩
    have et := ER_take x5 ((a.length : Int), firstK c)
    rw [show (List.take x5.length (ER x5) ++ [[FV.int .i64 (a.length : Int), .bool (firstK c).any, .int .i64 (firstK c).k, .str (firstK c).nm, .int .i64 (firstK c).n, .int .i64 (firstK c).ar]]) = ER (x5 ++ [((a.length : Int), firstK c)]) from et, ← len1 x5 ((a.length : Int), firstK c)]
    exact hk
  refine br_of (fun h6 => ?_) (fun h6 => ?_)
  · have ei : insT (c.nm, c.ar) ((a.length : Int), firstK c) [(n1, g1, x1), (n2, g2, x2), (n3, g3, x3), (n4, g4, x4), (n5, g5, x5), (n6, g6, x6)] = [(n1, g1, x1), (n2, g2, x2), (n3, g3, x3), (n4, g4, x4), (n5, g5, x5), (c.nm, c.ar, x6 ++ [((a.length : Int), firstK c)])] := by simp only [insT, h1, h2, h3, h4, h5, h6, Bool.false_eq_true, if_false, if_true]
    rw [ei] at hk
    refine ⟨Nat.le_refl _, ⟨ER_len x6, by unfold roomB; have : x6.length ≤ 12 := q6; omega⟩, ?_⟩
    have et := ER_take x6 ((a.length : Int), firstK c)
    rw [show (List.take x6.length (ER x6) ++ [[FV.int .i64 (a.length : Int), .bool (firstK c).any, .int .i64 (firstK c).k, .str (firstK c).nm, .int .i64 (firstK c).n, .int .i64 (firstK c).ar]]) = ER (x6 ++ [((a.length : Int), firstK c)]) from et, ← len1 x6 ((a.length : Int), firstK c)]
    exact hk
  have ei : insT (c.nm, c.ar) ((a.length : Int), firstK c) [(n1, g1, x1), (n2, g2, x2), (n3, g3, x3), (n4, g4, x4), (n5, g5, x5), (n6, g6, x6)] = [(n1, g1, x1), (n2, g2, x2), (n3, g3, x3), (n4, g4, x4), (n5, g5, x5), (n6, g6, x6), (c.nm, c.ar, [((a.length : Int), firstK c)])] := by simp only [insT, h1, h2, h3, h4, h5, h6, Bool.false_eq_true, if_false, if_true]
  rw [ei] at hk
  exact ⟨Nat.le_refl _, by unfold roomB; omega, hk⟩
theorem exitN_7 (l : List Cd) (e1 : Ent) (e2 : Ent) (e3 : Ent) (e4 : Ent) (e5 : Ent) (e6 : Ent) (e7 : Ent) : RPt Try.prog 19 0 (.c (.a (.ep 0 1 0 0))) (outN [e1, e2, e3, e4, e5, e6, e7]) 1 (stN l [e1, e2, e3, e4, e5, e6, e7] (((FCs l).length : Nat) : Int)) := by
  obtain ⟨n1, g1, x1⟩ := e1
  obtain ⟨n2, g2, x2⟩ := e2
  obtain ⟨n3, g3, x3⟩ := e3
  obtain ⟨n4, g4, x4⟩ := e4
  obtain ⟨n5, g5, x5⟩ := e5
  obtain ⟨n6, g6, x6⟩ := e6
  obtain ⟨n7, g7, x7⟩ := e7
  refine RPt.vc hP sh lv19 (Eq.mpr (v19_1h (FCs l) (((FCs l).length : Nat) : Int) (((FCs l).length : Nat) : Int) n1 g1 x1.length n2 g2 x2.length n3 g3 x3.length n4 g4 x4.length n5 g5 x5.length n6 g6 x6.length n7 g7 x7.length (ER x1) (ER x2) (ER x3) (ER x4) (ER x5) (ER x6) (ER x7) _ _) ?_)
  exact br_of (fun h => absurd (of_decide_eq_true h) (Int.lt_irrefl _)) (fun _ => ⟨.refl _, rfl⟩)
theorem stepN_7 (l a b : List Cd) (c : Cd) (hl : l = a ++ c :: b) (hB : l.length ≤ 12) (hz : c.sz ≤ B) (e1 : Ent) (e2 : Ent) (e3 : Ent) (e4 : Ent) (e5 : Ent) (e6 : Ent) (e7 : Ent) (hL : ∀ e ∈ ([e1, e2, e3, e4, e5, e6, e7] : List Ent), e.2.2.length ≤ 12) (r : TV) (Hs : List AObj) (hk : RPt Try.prog 19 0 r Hs 1 (stN l (insT (c.nm, c.ar) (a.length, firstK c) [e1, e2, e3, e4, e5, e6, e7]) ((a.length : Int) + 1))) :
    RPt Try.prog 19 0 r Hs 1 (stN l [e1, e2, e3, e4, e5, e6, e7] a.length) := by
  have hf := c_first c hz
  have hlt : (a.length : Int) < (((FCs l).length : Nat) : Int) := by rw [FCs_length, hl]; simp; omega
  have hB' := hB
  rw [hl, List.length_append, List.length_cons] at hB'
  have em := fc_mid a c b
  rw [← hl] at em
  have e0 : FV.asS (List.getD (FC c) 0 FV.nils) = c.nm := by cases c; rw [FC]; rfl
  have e1_ : FV.asI (List.getD (FC c) 1 FV.nils) = c.ar := by cases c; rw [FC]; rfl
  have q1 : e1.2.2.length ≤ 12 := hL e1 (by simp)
  have q2 : e2.2.2.length ≤ 12 := hL e2 (by simp)
  have q3 : e3.2.2.length ≤ 12 := hL e3 (by simp)
  have q4 : e4.2.2.length ≤ 12 := hL e4 (by simp)
  have q5 : e5.2.2.length ≤ 12 := hL e5 (by simp)
  have q6 : e6.2.2.length ≤ 12 := hL e6 (by simp)
  have q7 : e7.2.2.length ≤ 12 := hL e7 (by simp)
  obtain ⟨n1, g1, x1⟩ := e1
  obtain ⟨n2, g2, x2⟩ := e2
  obtain ⟨n3, g3, x3⟩ := e3
  obtain ⟨n4, g4, x4⟩ := e4
  obtain ⟨n5, g5, x5⟩ := e5
  obtain ⟨n6, g6, x6⟩ := e6
  obtain ⟨n7, g7, x7⟩ := e7
  refine RPt.vc hP sh lv19 (Eq.mpr (v19_1h (FCs l) (((FCs l).length : Nat) : Int) a.length n1 g1 x1.length n2 g2 x2.length n3 g3 x3.length n4 g4 x4.length n5 g5 x5.length n6 g6 x6.length n7 g7 x7.length (ER x1) (ER x2) (ER x3) (ER x4) (ER x5) (ER x6) (ER x7) _ _) ?_)
  rw [w64 (x := (a.length : Int) + 1) (by omega) (by omega), em]
  refine br_of (fun _ => ⟨⟨rfl, by omega, hlt, fCr_FC c⟩, _, _, _, _, _, by rw [show (TV.agg [.a (.fz (.str (FV.asS (List.getD (FC c) 0 FV.nils)))), .a (.fz (.int .i64 (FV.asI (List.getD (FC c) 1 FV.nils)))), .a (.fz (.int .i64 (FV.asI (List.getD (FC c) 2 FV.nils)))), .a (.fz (.int .i64 (FV.asI (List.getD (FC c) 3 FV.nils)))), .a (.fz (.int .i64 (FV.asI (List.getD (FC c) 4 FV.nils)))), .a (.fz (List.getD (FC c) 5 FV.nils))]) = aC c from aCr_FC c]; exact hf, ?_⟩) (fun h => absurd hlt (of_decide_eq_false h))
  rw [e0, e1_]
  refine br_of (fun h1 => ?_) (fun h1 => ?_)
  · have ei : insT (c.nm, c.ar) ((a.length : Int), firstK c) [(n1, g1, x1), (n2, g2, x2), (n3, g3, x3), (n4, g4, x4), (n5, g5, x5), (n6, g6, x6), (n7, g7, x7)] = [(c.nm, c.ar, x1 ++ [((a.length : Int), firstK c)]), (n2, g2, x2), (n3, g3, x3), (n4, g4, x4), (n5, g5, x5), (n6, g6, x6), (n7, g7, x7)] := by simp only [insT, h1, Bool.false_eq_true, if_false, if_true]
    rw [ei] at hk
    refine ⟨Nat.le_refl _, ⟨ER_len x1, by unfold roomB; have : x1.length ≤ 12 := q1; omega⟩, ?_⟩
    have et := ER_take x1 ((a.length : Int), firstK c)
    rw [show (List.take x1.length (ER x1) ++ [[FV.int .i64 (a.length : Int), .bool (firstK c).any, .int .i64 (firstK c).k, .str (firstK c).nm, .int .i64 (firstK c).n, .int .i64 (firstK c).ar]]) = ER (x1 ++ [((a.length : Int), firstK c)]) from et, ← len1 x1 ((a.length : Int), firstK c)]
    exact hk
  refine br_of (fun h2 => ?_) (fun h2 => ?_)
  · have ei : insT (c.nm, c.ar) ((a.length : Int), firstK c) [(n1, g1, x1), (n2, g2, x2), (n3, g3, x3), (n4, g4, x4), (n5, g5, x5), (n6, g6, x6), (n7, g7, x7)] = [(n1, g1, x1), (c.nm, c.ar, x2 ++ [((a.length : Int), firstK c)]), (n3, g3, x3), (n4, g4, x4), (n5, g5, x5), (n6, g6, x6), (n7, g7, x7)] := by simp only [insT, h1, h2, Bool.false_eq_true, if_false, if_true]
    rw [ei] at hk
    refine ⟨Nat.le_refl _, ⟨ER_len x2, by unfold roomB; have : x2.length ≤ 12 := q2; omega⟩, ?_⟩
    have et := ER_take x2 ((a.length : Int), firstK c)
    rw [show (List.take x2.length (ER x2) ++ [[FV.int .i64 (a.length : Int), .bool (firstK c).any, .int .i64 (firstK c).k, .str (firstK c).nm, .int .i64 (firstK c).n, .int .i64 (firstK c).ar]]) = ER (x2 ++ [((a.length : Int), firstK c)]) from et, ← len1 x2 ((a.length : Int), firstK c)]
    exact hk
  refine br_of (fun h3 => ?_) (fun h3 => ?_)
  · have ei : insT (c.nm, c.ar) ((a.length : Int), firstK c) [(n1, g1, x1), (n2, g2, x2), (n3, g3, x3), (n4, g4, x4), (n5, g5, x5), (n6, g6, x6), (n7, g7, x7)] = [(n1, g1, x1), (n2, g2, x2), (c.nm, c.ar, x3 ++ [((a.length : Int), firstK c)]), (n4, g4, x4), (n5, g5, x5), (n6, g6, x6), (n7, g7, x7)] := by simp only [insT, h1, h2, h3, Bool.false_eq_true, if_false, if_true]
    rw [ei] at hk
    refine ⟨Nat.le_refl _, ⟨ER_len x3, by unfold roomB; have : x3.length ≤ 12 := q3; omega⟩, ?_⟩
    have et := ER_take x3 ((a.length : Int), firstK c)
    rw [show (List.take x3.length (ER x3) ++ [[FV.int .i64 (a.length : Int), .bool (firstK c).any, .int .i64 (firstK c).k, .str (firstK c).nm, .int .i64 (firstK c).n, .int .i64 (firstK c).ar]]) = ER (x3 ++ [((a.length : Int), firstK c)]) from et, ← len1 x3 ((a.length : Int), firstK c)]
    exact hk
  refine br_of (fun h4 => ?_) (fun h4 => ?_)
  · have ei : insT (c.nm, c.ar) ((a.length : Int), firstK c) [(n1, g1, x1), (n2, g2, x2), (n3, g3, x3), (n4, g4, x4), (n5, g5, x5), (n6, g6, x6), (n7, g7, x7)] = [(n1, g1, x1), (n2, g2, x2), (n3, g3, x3), (c.nm, c.ar, x4 ++ [((a.length : Int), firstK c)]), (n5, g5, x5), (n6, g6, x6), (n7, g7, x7)] := by simp only [insT, h1, h2, h3, h4, Bool.false_eq_true, if_false, if_true]
    rw [ei] at hk
    refine ⟨Nat.le_refl _, ⟨ER_len x4, by unfold roomB; have : x4.length ≤ 12 := q4; omega⟩, ?_⟩
    have et := ER_take x4 ((a.length : Int), firstK c)
    rw [show (List.take x4.length (ER x4) ++ [[FV.int .i64 (a.length : Int), .bool (firstK c).any, .int .i64 (firstK c).k, .str (firstK c).nm, .int .i64 (firstK c).n, .int .i64 (firstK c).ar]]) = ER (x4 ++ [((a.length : Int), firstK c)]) from et, ← len1 x4 ((a.length : Int), firstK c)]
    exact hk
  refine br_of (fun h5 => ?_) (fun h5 => ?_)
  · have ei : insT (c.nm, c.ar) ((a.length : Int), firstK c) [(n1, g1, x1), (n2, g2, x2), (n3, g3, x3), (n4, g4, x4), (n5, g5, x5), (n6, g6, x6), (n7, g7, x7)] = [(n1, g1, x1), (n2, g2, x2), (n3, g3, x3), (n4, g4, x4), (c.nm, c.ar, x5 ++ [((a.length : Int), firstK c)]), (n6, g6, x6), (n7, g7, x7)] := by simp only [insT, h1, h2, h3, h4, h5, Bool.false_eq_true, if_false, if_true]
    rw [ei] at hk
    refine ⟨Nat.le_refl _, ⟨ER_len x5, by unfold roomB; have : x5.length ≤ 12 := q5; omega⟩, ?_⟩
    have et := ER_take x5 ((a.length : Int), firstK c)
    rw [show (List.take x5.length (ER x5) ++ [[FV.int .i64 (a.length : Int), .bool (firstK c).any, .int .i64 (firstK c).k, .str (firstK c).nm, .int .i64 (firstK c).n, .int .i64 (firstK c).ar]]) = ER (x5 ++ [((a.length : Int), firstK c)]) from et, ← len1 x5 ((a.length : Int), firstK c)]
    exact hk
  refine br_of (fun h6 => ?_) (fun h6 => ?_)
  · have ei : insT (c.nm, c.ar) ((a.length : Int), firstK c) [(n1, g1, x1), (n2, g2, x2), (n3, g3, x3), (n4, g4, x4), (n5, g5, x5), (n6, g6, x6), (n7, g7, x7)] = [(n1, g1, x1), (n2, g2, x2), (n3, g3, x3), (n4, g4, x4), (n5, g5, x5), (c.nm, c.ar, x6 ++ [((a.length : Int), firstK c)]), (n7, g7, x7)] := by simp only [insT, h1, h2, h3, h4, h5, h6, Bool.false_eq_true, if_false, if_true]
    rw [ei] at hk
    refine ⟨Nat.le_refl _, ⟨ER_len x6, by unfold roomB; have : x6.length ≤ 12 := q6; omega⟩, ?_⟩
    have et := ER_take x6 ((a.length : Int), firstK c)
    rw [show (List.take x6.length (ER x6) ++ [[FV.int .i64 (a.length : Int), .bool (firstK c).any, .int .i64 (firstK c).k, .str (firstK c).nm, .int .i64 (firstK c).n, .int .i64 (firstK c).ar]]) = ER (x6 ++ [((a.length : Int), firstK c)]) from et, ← len1 x6 ((a.length : Int), firstK c)]
    exact hk
  refine br_of (fun h7 => ?_) (fun h7 => ?_)
  · have ei : insT (c.nm, c.ar) ((a.length : Int), firstK c) [(n1, g1, x1), (n2, g2, x2), (n3, g3, x3), (n4, g4, x4), (n5, g5, x5), (n6, g6, x6), (n7, g7, x7)] = [(n1, g1, x1), (n2, g2, x2), (n3, g3, x3), (n4, g4, x4), (n5, g5, x5), (n6, g6, x6), (c.nm, c.ar, x7 ++ [((a.length : Int), firstK c)])] := by simp only [insT, h1, h2, h3, h4, h5, h6, h7, Bool.false_eq_true, if_false, if_true]
    rw [ei] at hk
    refine ⟨Nat.le_refl _, ⟨ER_len x7, by unfold roomB; have : x7.length ≤ 12 := q7; omega⟩, ?_⟩
    have et := ER_take x7 ((a.length : Int), firstK c)
    rw [show (List.take x7.length (ER x7) ++ [[FV.int .i64 (a.length : Int), .bool (firstK c).any, .int .i64 (firstK c).k, .str (firstK c).nm, .int .i64 (firstK c).n, .int .i64 (firstK c).ar]]) = ER (x7 ++ [((a.length : Int), firstK c)]) from et, ← len1 x7 ((a.length : Int), firstK c)]
    exact hk
  have ei : insT (c.nm, c.ar) ((a.length : Int), firstK c) [(n1, g1, x1), (n2, g2, x2), (n3, g3, x3), (n4, g4, x4), (n5, g5, x5), (n6, g6, x6), (n7, g7, x7)] = [(n1, g1, x1), (n2, g2, x2), (n3, g3, x3), (n4, g4, x4), (n5, g5, x5), (n6, g6, x6), (n7, g7, x7), (c.nm, c.ar, [((a.length : Int), firstK c)])] := by simp only [insT, h1, h2, h3, h4, h5, h6, h7, Bool.false_eq_true, if_false, if_true]
  rw [ei] at hk
  exact ⟨Nat.le_refl _, by unfold roomB; omega, hk⟩
theorem exitN_8 (l : List Cd) (e1 : Ent) (e2 : Ent) (e3 : Ent) (e4 : Ent) (e5 : Ent) (e6 : Ent) (e7 : Ent) (e8 : Ent) : RPt Try.prog 19 0 (.c (.a (.ep 0 1 0 0))) (outN [e1, e2, e3, e4, e5, e6, e7, e8]) 1 (stN l [e1, e2, e3, e4, e5, e6, e7, e8] (((FCs l).length : Nat) : Int)) := by
  obtain ⟨n1, g1, x1⟩ := e1
  obtain ⟨n2, g2, x2⟩ := e2
  obtain ⟨n3, g3, x3⟩ := e3
  obtain ⟨n4, g4, x4⟩ := e4
  obtain ⟨n5, g5, x5⟩ := e5
  obtain ⟨n6, g6, x6⟩ := e6
  obtain ⟨n7, g7, x7⟩ := e7
  obtain ⟨n8, g8, x8⟩ := e8
  refine RPt.vc hP sh lv19 (Eq.mpr (v19_1i (FCs l) (((FCs l).length : Nat) : Int) (((FCs l).length : Nat) : Int) n1 g1 x1.length n2 g2 x2.length n3 g3 x3.length n4 g4 x4.length n5 g5 x5.length n6 g6 x6.length n7 g7 x7.length n8 g8 x8.length (ER x1) (ER x2) (ER x3) (ER x4) (ER x5) (ER x6) (ER x7) (ER x8) _ _) ?_)
  exact br_of (fun h => absurd (of_decide_eq_true h) (Int.lt_irrefl _)) (fun _ => ⟨.refl _, rfl⟩)
theorem stepN_8 (l a b : List Cd) (c : Cd) (hl : l = a ++ c :: b) (hB : l.length ≤ 12) (hz : c.sz ≤ B) (e1 : Ent) (e2 : Ent) (e3 : Ent) (e4 : Ent) (e5 : Ent) (e6 : Ent) (e7 : Ent) (e8 : Ent) (hL : ∀ e ∈ ([e1, e2, e3, e4, e5, e6, e7, e8] : List Ent), e.2.2.length ≤ 12) (r : TV) (Hs : List AObj) (hk : RPt Try.prog 19 0 r Hs 1 (stN l (insT (c.nm, c.ar) (a.length, firstK c) [e1, e2, e3, e4, e5, e6, e7, e8]) ((a.length : Int) + 1))) :
    RPt Try.prog 19 0 r Hs 1 (stN l [e1, e2, e3, e4, e5, e6, e7, e8] a.length) := by
  have hf := c_first c hz
  have hlt : (a.length : Int) < (((FCs l).length : Nat) : Int) := by rw [FCs_length, hl]; simp; omega
  have hB' := hB
  rw [hl, List.length_append, List.length_cons] at hB'
  have em := fc_mid a c b
  rw [← hl] at em
  have e0 : FV.asS (List.getD (FC c) 0 FV.nils) = c.nm := by cases c; rw [FC]; rfl
  have e1_ : FV.asI (List.getD (FC c) 1 FV.nils) = c.ar := by cases c; rw [FC]; rfl
  have q1 : e1.2.2.length ≤ 12 := hL e1 (by simp)
  have q2 : e2.2.2.length ≤ 12 := hL e2 (by simp)
  have q3 : e3.2.2.length ≤ 12 := hL e3 (by simp)
  have q4 : e4.2.2.length ≤ 12 := hL e4 (by simp)
  have q5 : e5.2.2.length ≤ 12 := hL e5 (by simp)
  have q6 : e6.2.2.length ≤ 12 := hL e6 (by simp)
  have q7 : e7.2.2.length ≤ 12 := hL e7 (by simp)
  have q8 : e8.2.2.length ≤ 12 := hL e8 (by simp)
  obtain ⟨n1, g1, x1⟩ := e1
  obtain ⟨n2, g2, x2⟩ := e2
  obtain ⟨n3, g3, x3⟩ := e3
  obtain ⟨n4, g4, x4⟩ := e4
  obtain ⟨n5, g5, x5⟩ := e5
  obtain ⟨n6, g6, x6⟩ := e6
  obtain ⟨n7, g7, x7⟩ := e7
  obtain ⟨n8, g8, x8⟩ := e8
  refine RPt.vc hP sh lv19 (Eq.mpr (v19_1i (FCs l) (((FCs l).length : Nat) : Int) a.length n1 g1 x1.length n2 g2 x2.length n3 g3 x3.length n4 g4 x4.length n5 g5 x5.length n6 g6 x6.length n7 g7 x7.length n8 g8 x8.length (ER x1) (ER x2) (ER x3) (ER x4) (ER x5) (ER x6) (ER x7) (ER x8) _ _) ?_)
  rw [w64 (x := (a.length : Int) + 1) (by omega) (by omega), em]
  refine br_of (fun _ => ⟨⟨rfl, by omega, hlt, fCr_FC c⟩, _, _, _, _, _, by rw [show (TV.agg [.a (.fz (.str (FV.asS (List.getD (FC c) 0 FV.nils)))), .a (.fz (.int .i64 (FV.asI (List.getD (FC c) 1 FV.nils)))), .a (.fz (.int .i64 (FV.asI (List.getD (FC c) 2 FV.nils)))), .a (.fz (.int .i64 (FV.asI (List.getD (FC c) 3 FV.nils)))), .a (.fz (.int .i64 (FV.asI (List.getD (FC c) 4 FV.nils)))), .a (.fz (List.getD (FC c) 5 FV.nils))]) = aC c from aCr_FC c]; exact hf, ?_⟩) (fun h => absurd hlt (of_decide_eq_false h))
  rw [e0, e1_]
  refine br_of (fun h1 => ?_) (fun h1 => ?_)
  · have ei : insT (c.nm, c.ar) ((a.length : Int), firstK c) [(n1, g1, x1), (n2, g2, x2), (n3, g3, x3), (n4, g4, x4), (n5, g5, x5), (n6, g6, x6), (n7, g7, x7), (n8, g8, x8)] = [(c.nm, c.ar, x1 ++ [((a.length : Int), firstK c)]), (n2, g2, x2), (n3, g3, x3), (n4, g4, x4), (n5, g5, x5), (n6, g6, x6), (n7, g7, x7), (n8, g8, x8)] := by simp only [insT, h1, Bool.false_eq_true, if_false, if_true]
    rw [ei] at hk
    refine ⟨Nat.le_refl _, ⟨ER_len x1, by unfold roomB; have : x1.length ≤ 12 := q1; omega⟩, ?_⟩
    have et := ER_take x1 ((a.length : Int), firstK c)
    rw [show (List.take x1.length (ER x1) ++ [[FV.int .i64 (a.length : Int), .bool (firstK c).any, .int .i64 (firstK c).k, .str (firstK c).nm, .int .i64 (firstK c).n, .int .i64 (firstK c).ar]]) = ER (x1 ++ [((a.length : Int), firstK c)]) from et, ← len1 x1 ((a.length : Int), firstK c)]
    exact hk
  refine br_of (fun h2 => ?_) (fun h2 => ?_)
  · have ei : insT (c.nm, c.ar) ((a.length : Int), firstK c) [(n1, g1, x1), (n2, g2, x2), (n3, g3, x3), (n4, g4, x4), (n5, g5, x5), (n6, g6, x6), (n7, g7, x7), (n8, g8, x8)] = [(n1, g1, x1), (c.nm, c.ar, x2 ++ [((a.length : Int), firstK c)]), (n3, g3, x3), (n4, g4, x4), (n5, g5, x5), (n6, g6, x6), (n7, g7, x7), (n8, g8, x8)] := by simp only [insT, h1, h2, Bool.false_eq_true, if_false, if_true]
    rw [ei] at hk
    refine ⟨Nat.le_refl _, ⟨ER_len x2, by unfold roomB; have : x2.length ≤ 12 := q2; omega⟩, ?_⟩
    have et := ER_take x2 ((a.length : Int), firstK c)
    rw [show (List.take x2.length (ER x2) ++ [[FV.int .i64 (a.length : Int), .bool (firstK c).any, .int .i64 (firstK c).k, .str (firstK c).nm, .int .i64 (firstK c).n, .int .i64 (firstK c).ar]]) = ER (x2 ++ [((a.length : Int), firstK c)]) from et, ← len1 x2 ((a.length : Int), firstK c)]
    exact hk
  refine br_of (fun h3 => ?_) (fun h3 => ?_)
  · have ei : insT (c.nm, c.ar) ((a.length : Int), firstK c) [(n1, g1, x1), (n2, g2, x2), (n3, g3, x3), (n4, g4, x4), (n5, g5, x5), (n6, g6, x6), (n7, g7, x7), (n8, g8, x8)] = [(n1, g1, x1), (n2, g2, x2), (c.nm, c.ar, x3 ++ [((a.length : Int), firstK c)]), (n4, g4, x4), (n5, g5, x5), (n6, g6, x6), (n7, g7, x7), (n8, g8, x8)] := by simp only [insT, h1, h2, h3, Bool.false_eq_true, if_false, if_true]
    rw [ei] at hk
    refine ⟨Nat.le_refl _, ⟨ER_len x3, by unfold roomB; have : x3.length ≤ 12 := q3; omega⟩, ?_⟩
    have et := ER_take x3 ((a.length : Int), firstK c)
    rw [show (List.take x3.length (ER x3) ++ [[FV.int .i64 (a.length : Int), .bool (firstK c).any, .int .i64 (firstK c).k, .str (firstK c).nm, .int .i64 (firstK c).n, .int .i64 (firstK c).ar]]) = ER (x3 ++ [((a.length : Int), firstK c)]) from et, ← len1 x3 ((a.length : Int), firstK c)]
    exact hk
  refine br_of (fun h4 => ?_) (fun h4 => ?_)
  · have ei : insT (c.nm, c.ar) ((a.length : Int), firstK c) [(n1, g1, x1), (n2, g2, x2), (n3, g3, x3), (n4, g4, x4), (n5, g5, x5), (n6, g6, x6), (n7, g7, x7), (n8, g8, x8)] = [(n1, g1, x1), (n2, g2, x2), (n3, g3, x3), (c.nm, c.ar, x4 ++ [((a.length : Int), firstK c)]), (n5, g5, x5), (n6, g6, x6), (n7, g7, x7), (n8, g8, x8)] := by simp only [insT, h1, h2, h3, h4, Bool.false_eq_true, if_false, if_true]
    rw [ei] at hk
    refine ⟨Nat.le_refl _, ⟨ER_len x4, by unfold roomB; have : x4.length ≤ 12 := q4; omega⟩, ?_⟩
    have et := ER_take x4 ((a.length : Int), firstK c)
    rw [show (List.take x4.length (ER x4) ++ [[FV.int .i64 (a.length : Int), .bool (firstK c).any, .int .i64 (firstK c).k, .str (firstK c).nm, .int .i64 (firstK c).n, .int .i64 (firstK c).ar]]) = ER (x4 ++ [((a.length : Int), firstK c)]) from et, ← len1 x4 ((a.length : Int), firstK c)]
    exact hk
  refine br_of (fun h5 => ?_) (fun h5 => ?_)
  · have ei : insT (c.nm, c.ar) ((a.length : Int), firstK c) [(n1, g1, x1), (n2, g2, x2), (n3, g3, x3), (n4, g4, x4), (n5, g5, x5), (n6, g6, x6), (n7, g7, x7), (n8, g8, x8)] = [(n1, g1, x1), (n2, g2, x2), (n3, g3, x3), (n4, g4, x4), (c.nm, c.ar, x5 ++ [((a.length : Int), firstK c)]), (n6, g6, x6), (n7, g7, x7), (n8, g8, x8)] := by simp only [insT, h1, h2, h3, h4, h5, Bool.false_eq_true, if_false, if_true]
    rw [ei] at hk
    refine ⟨Nat.le_refl _, ⟨ER_len x5, by unfold roomB; have : x5.length ≤ 12 := q5; omega⟩, ?_⟩
    have et := ER_take x5 ((a.length : Int), firstK c)
    rw [show (List.take x5.length (ER x5) ++ [[FV.int .i64 (a.length : Int), .bool (firstK c).any, .int .i64 (firstK c).k, .str (firstK c).nm, .int .i64 (firstK c).n, .int .i64 (firstK c).ar]]) = ER (x5 ++ [((a.length : Int), firstK c)]) from et, ← len1 x5 ((a.length : Int), firstK c)]
    exact hk
  refine br_of (fun h6 => ?_) (fun h6 => ?_)
  · have ei : insT (c.nm, c.ar) ((a.length : Int), firstK c) [(n1, g1, x1), (n2, g2, x2), (n3, g3, x3), (n4, g4, x4), (n5, g5, x5), (n6, g6, x6), (n7, g7, x7), (n8, g8, x8)] = [(n1, g1, x1), (n2, g2, x2), (n3, g3, x3), (n4, g4, x4), (n5, g5, x5), (c.nm, c.ar, x6 ++ [((a.length : Int), firstK c)]), (n7, g7, x7), (n8, g8, x8)] := by simp only [insT, h1, h2, h3, h4, h5, h6, Bool.false_eq_true, if_false, if_true]
    rw [ei] at hk
    refine ⟨Nat.le_refl _, ⟨ER_len x6, by unfold roomB; have : x6.length ≤ 12 := q6; omega⟩, ?_⟩
    have et := ER_take x6 ((a.length : Int), firstK c)
    rw [show (List.take x6.length (ER x6) ++ [[FV.int .i64 (a.length : Int), .bool (firstK c).any, .int .i64 (firstK c).k, .str (firstK c).nm, .int .i64 (firstK c).n, .int .i64 (firstK c).ar]]) = ER (x6 ++ [((a.length : Int), firstK c)]) from et, ← len1 x6 ((a.length : Int), firstK c)]
    exact hk
  refine br_of (fun h7 => ?_) (fun h7 => ?_)
  · have ei : insT (c.nm, c.ar) ((a.length : Int), firstK c) [(n1, g1, x1), (n2, g2, x2), (n3, g3, x3), (n4, g4, x4), (n5, g5, x5), (n6, g6, x6), (n7, g7, x7), (n8, g8, x8)] = [(n1, g1, x1), (n2, g2, x2), (n3, g3, x3), (n4, g4, x4), (n5, g5, x5), (n6, g6, x6), (c.nm, c.ar, x7 ++ [((a.length : Int), firstK c)]), (n8, g8, x8)] := by simp only [insT, h1, h2, h3, h4, h5, h6, h7, Bool.false_eq_true, if_false, if_true]
    rw [ei] at hk
    refine ⟨Nat.le_refl _, ⟨ER_len x7, by unfold roomB; have : x7.length ≤ 12 := q7; omega⟩, ?_⟩
    have et := ER_take x7 ((a.length : Int), firstK c)
    rw [show (List.take x7.length (ER x7) ++ [[FV.int .i64 (a.length : Int), .bool (firstK c).any, .int .i64 (firstK c).k, .str (firstK c).nm, .int .i64 (firstK c).n, .int .i64 (firstK c).ar]]) = ER (x7 ++ [((a.length : Int), firstK c)]) from et, ← len1 x7 ((a.length : Int), firstK c)]
    exact hk
  refine br_of (fun h8 => ?_) (fun h8 => ?_)
  · have ei : insT (c.nm, c.ar) ((a.length : Int), firstK c) [(n1, g1, x1), (n2, g2, x2), (n3, g3, x3), (n4, g4, x4), (n5, g5, x5), (n6, g6, x6), (n7, g7, x7), (n8, g8, x8)] = [(n1, g1, x1), (n2, g2, x2), (n3, g3, x3), (n4, g4, x4), (n5, g5, x5), (n6, g6, x6), (n7, g7, x7), (c.nm, c.ar, x8 ++ [((a.length : Int), firstK c)])] := by simp only [insT, h1, h2, h3, h4, h5, h6, h7, h8, Bool.false_eq_true, if_false, if_true]
    rw [ei] at hk
    refine ⟨Nat.le_refl _, ⟨ER_len x8, by unfold roomB; have : x8.length ≤ 12 := q8; omega⟩, ?_⟩
    have et := ER_take x8 ((a.length : Int), firstK c)
    rw [show (List.take x8.length (ER x8) ++ [[FV.int .i64 (a.length : Int), .bool (firstK c).any, .int .i64 (firstK c).k, .str (firstK c).nm, .int .i64 (firstK c).n, .int .i64 (firstK c).ar]]) = ER (x8 ++ [((a.length : Int), firstK c)]) from et, ← len1 x8 ((a.length : Int), firstK c)]
    exact hk
  have ei : insT (c.nm, c.ar) ((a.length : Int), firstK c) [(n1, g1, x1), (n2, g2, x2), (n3, g3, x3), (n4, g4, x4), (n5, g5, x5), (n6, g6, x6), (n7, g7, x7), (n8, g8, x8)] = [(n1, g1, x1), (n2, g2, x2), (n3, g3, x3), (n4, g4, x4), (n5, g5, x5), (n6, g6, x6), (n7, g7, x7), (n8, g8, x8), (c.nm, c.ar, [((a.length : Int), firstK c)])] := by simp only [insT, h1, h2, h3, h4, h5, h6, h7, h8, Bool.false_eq_true, if_false, if_true]
  rw [ei] at hk
  exact ⟨Nat.le_refl _, by unfold roomB; omega, hk⟩
theorem exitN_9 (l : List Cd) (e1 : Ent) (e2 : Ent) (e3 : Ent) (e4 : Ent) (e5 : Ent) (e6 : Ent) (e7 : Ent) (e8 : Ent) (e9 : Ent) : RPt Try.prog 19 0 (.c (.a (.ep 0 1 0 0))) (outN [e1, e2, e3, e4, e5, e6, e7, e8, e9]) 1 (stN l [e1, e2, e3, e4, e5, e6, e7, e8, e9] (((FCs l).length : Nat) : Int)) := by
  obtain ⟨n1, g1, x1⟩ := e1
  obtain ⟨n2, g2, x2⟩ := e2
  obtain ⟨n3, g3, x3⟩ := e3
  obtain ⟨n4, g4, x4⟩ := e4
  obtain ⟨n5, g5, x5⟩ := e5
  obtain ⟨n6, g6, x6⟩ := e6
  obtain ⟨n7, g7, x7⟩ := e7
  obtain ⟨n8, g8, x8⟩ := e8
  obtain ⟨n9, g9, x9⟩ := e9
  refine RPt.vc hP sh lv19 (Eq.mpr (v19_1j (FCs l) (((FCs l).length : Nat) : Int) (((FCs l).length : Nat) : Int) n1 g1 x1.length n2 g2 x2.length n3 g3 x3.length n4 g4 x4.length n5 g5 x5.length n6 g6 x6.length n7 g7 x7.length n8 g8 x8.length n9 g9 x9.length (ER x1) (ER x2) (ER x3) (ER x4) (ER x5) (ER x6) (ER x7) (ER x8) (ER x9) _ _) ?_)
  exact br_of (fun h => absurd (of_decide_eq_true h) (Int.lt_irrefl _)) (fun _ => ⟨.refl _, rfl⟩)
theorem stepN_9 (l a b : List Cd) (c : Cd) (hl : l = a ++ c :: b) (hB : l.length ≤ 12) (hz : c.sz ≤ B) (e1 : Ent) (e2 : Ent) (e3 : Ent) (e4 : Ent) (e5 : Ent) (e6 : Ent) (e7 : Ent) (e8 : Ent) (e9 : Ent) (hL : ∀ e ∈ ([e1, e2, e3, e4, e5, e6, e7, e8, e9] : List Ent), e.2.2.length ≤ 12) (r : TV) (Hs : List AObj) (hk : RPt Try.prog 19 0 r Hs 1 (stN l (insT (c.nm, c.ar) (a.length, firstK c) [e1, e2, e3, e4, e5, e6, e7, e8, e9]) ((a.length : Int) + 1))) :
    RPt Try.prog 19 0 r Hs 1 (stN l [e1, e2, e3, e4, e5, e6, e7, e8, e9] a.length) := by
  have hf := c_first c hz
  have hlt : (a.length : Int) < (((FCs l).length : Nat) : Int) := by rw [FCs_length, hl]; simp; omega
  have hB' := hB
  rw [hl, List.length_append, List.length_cons] at hB'
  have em := fc_mid a c b
  rw [← hl] at em
  have e0 : FV.asS (List.getD (FC c) 0 FV.nils) = c.nm := by cases c; rw [FC]; rfl
  have e1_ : FV.asI (List.getD (FC c) 1 FV.nils) = c.ar := by cases c; rw [FC]; rfl
  have q1 : e1.2.2.length ≤ 12 := hL e1 (by simp)
  have q2 : e2.2.2.length ≤ 12 := hL e2 (by simp)
  have q3 : e3.2.2.length ≤ 12 := hL e3 (by simp)
  have q4 : e4.2.2.length ≤ 12 := hL e4 (by simp)
  have q5 : e5.2.2.length ≤ 12 := hL e5 (by simp)
  have q6 : e6.2.2.length ≤ 12 := hL e6 (by simp)
  have q7 : e7.2.2.length ≤ 12 := hL e7 (by simp)
  have q8 : e8.2.2.length ≤ 12 := hL e8 (by simp)
  have q9 : e9.2.2.length ≤ 12 := hL e9 (by simp)
  obtain ⟨n1, g1, x1⟩ := e1
  obtain ⟨n2, g2, x2⟩ := e2
  obtain ⟨n3, g3, x3⟩ := e3
  obtain ⟨n4, g4, x4⟩ := e4
  obtain ⟨n5, g5, x5⟩ := e5
  obtain ⟨n6, g6, x6⟩ := e6
  obtain ⟨n7, g7, x7⟩ := e7
  obtain ⟨n8, g8, x8⟩ := e8
  obtain ⟨n9, g9, x9⟩ := e9
  refine RPt.vc hP sh lv19 (Eq.mpr (v19_1j (FCs l) (((FCs l).length : Nat) : Int) a.length n1 g1 x1.length n2 g2 x2.length n3 g3 x3.length n4 g4 x4.length n5 g5 x5.length n6 g6 x6.length n7 g7 x7.length n8 g8 x8.length n9 g9 x9.length (ER x1) (ER x2) (ER x3) (ER x4) (ER x5) (ER x6) (ER x7) (ER x8) (ER x9) _ _) ?_)
  rw [w64 (x := (a.length : Int) + 1) (by omega) (by omega), em]
  refine br_of (fun _ => ⟨⟨rfl, by omega, hlt, fCr_FC c⟩, _, _, _, _, _, by rw [show (TV.agg [.a (.fz (.str (FV.asS (List.getD (FC c) 0 FV.nils)))), .a (.fz (.int .i64 (FV.asI (List.getD (FC c) 1 FV.nils)))), .a (.fz (.int .i64 (FV.asI (List.getD (FC c) 2 FV.nils)))), .a (.fz (.int .i64 (FV.asI (List.getD (FC c) 3 FV.nils)))), .a (.fz (.int .i64 (FV.asI (List.getD (FC c) 4 FV.nils)))), .a (.fz (List.getD (FC c) 5 FV.nils))]) = aC c from aCr_FC c]; exact hf, ?_⟩) (fun h => absurd hlt (of_decide_eq_false h))
  rw [e0, e1_]
  refine br_of (fun h1 => ?_) (fun h1 => ?_)
  · have ei : insT (c.nm, c.ar) ((a.length : Int), firstK c) [(n1, g1, x1), (n2, g2, x2), (n3, g3, x3), (n4, g4, x4), (n5, g5, x5), (n6, g6, x6), (n7, g7, x7), (n8, g8, x8), (n9, g9, x9)] = [(c.nm, c.ar, x1 ++ [((a.length : Int), firstK c)]), (n2, g2, x2), (n3, g3, x3), (n4, g4, x4), (n5, g5, x5), (n6, g6, x6), (n7, g7, x7), (n8, g8, x8), (n9, g9, x9)] := by simp only [insT, h1, Bool.false_eq_true, if_false, if_true]
    rw [ei] at hk
    refine ⟨Nat.le_refl _, ⟨ER_len x1, by unfold roomB; have : x1.length ≤ 12 := q1; omega⟩, ?_⟩
    have et := ER_take x1 ((a.length : Int), firstK c)
    rw [show (List.take x1.length (ER x1) ++ [[FV.int .i64 (a.length : Int), .bool (firstK c).any, .int .i64 (firstK c).k, .str (firstK c).nm, .int .i64 (firstK c).n, .int .i64 (firstK c).ar]]) = ER (x1 ++ [((a.length : Int), firstK c)]) from et, ← len1 x1 ((a.length : Int), firstK c)]
    exact hk
  refine br_of (fun h2 => ?_) (fun h2 => ?_)
  · have ei : insT (c.nm, c.ar) ((a.length : Int), firstK c) [(n1, g1, x1), (n2, g2, x2), (n3, g3, x3), (n4, g4, x4), (n5, g5, x5), (n6, g6, x6), (n7, g7, x7), (n8, g8, x8), (n9, g9, x9)] = [(n1, g1, x1), (c.nm, c.ar, x2 ++ [((a.length : Int), firstK c)]), (n3, g3, x3), (n4, g4, x4), (n5, g5, x5), (n6, g6, x6), (n7, g7, x7), (n8, g8, x8), (n9, g9, x9)] := by simp only [insT, h1, h2, Bool.false_eq_true, if_false, if_true]
    rw [ei] at hk
    refine ⟨Nat.le_refl _, ⟨ER_len x2, by unfold roomB; have : x2.length ≤ 12 := q2; omega⟩, ?_⟩
    have et := ER_take x2 ((a.length : Int), firstK c)
    rw [show (List.take x2.length (ER x2) ++ [[FV.int .i64 (a.length : Int), .bool (firstK c).any, .int .i64 (firstK c).k, .str (firstK c).nm, .int .i64 (firstK c).n, .int .i64 (firstK c).ar]]) = ER (x2 ++ [((a.length : Int), firstK c)]) from et, ← len1 x2 ((a.length : Int), firstK c)]
    exact hk
  refine br_of (fun h3 => ?_) (fun h3 => ?_)
  · have ei : insT (c.nm, c.ar) ((a.length : Int), firstK c) [(n1, g1, x1), (n2, g2, x2), (n3, g3, x3), (n4, g4, x4), (n5, g5, x5), (n6, g6, x6), (n7, g7, x7), (n8, g8, x8), (n9, g9, x9)] = [(n1, g1, x1), (n2, g2, x2), (c.nm, c.ar, x3 ++ [((a.length : Int), firstK c)]), (n4, g4, x4), (n5, g5, x5), (n6, g6, x6), (n7, g7, x7), (n8, g8, x8), (n9, g9, x9)] := by simp only [insT, h1, h2, h3, Bool.false_eq_true, if_false, if_true]
    rw [ei] at hk
    refine ⟨Nat.le_refl _, ⟨ER_len x3, by unfold roomB; have : x3.length ≤ 12 := q3; omega⟩, ?_⟩
    have et := ER_take x3 ((a.length : Int), firstK c)
    rw [show (List.take x3.length (ER x3) ++ [[FV.int .i64 (a.length : Int), .bool (firstK c).any, .int .i64 (firstK c).k, .str (firstK c).nm, .int .i64 (firstK c).n, .int .i64 (firstK c).ar]]) = ER (x3 ++ [((a.length : Int), firstK c)]) from et, ← len1 x3 ((a.length : Int), firstK c)]
    exact hk
  refine br_of (fun h4 => ?_) (fun h4 => ?_)
  · have ei : insT (c.nm, c.ar) ((a.length : Int), firstK c) [(n1, g1, x1), (n2, g2, x2), (n3, g3, x3), (n4, g4, x4), (n5, g5, x5), (n6, g6, x6), (n7, g7, x7), (n8, g8, x8), (n9, g9, x9)] = [(n1, g1, x1), (n2, g2, x2), (n3, g3, x3), (c.nm, c.ar, x4 ++ [((a.length : Int), firstK c)]), (n5, g5, x5), (n6, g6, x6), (n7, g7, x7), (n8, g8, x8), (n9, g9, x9)] := by simp only [insT, h1, h2, h3, h4, Bool.false_eq_true, if_false, if_true]
    rw [ei] at hk
    refine ⟨Nat.le_refl _, ⟨ER_len x4, by unfold roomB; have : x4.length ≤ 12 := q4; omega⟩, ?_⟩
    have et := ER_take x4 ((a.length : Int), firstK c)
    rw [show (List.take x4.length (ER x4) ++ [[FV.int .i64 (a.length : Int), .bool (firstK c).any, .int .i64 (firstK c).k, .str (firstK c).nm, .int .i64 (firstK c).n, .int .i64 (firstK c).ar]]) = ER (x4 ++ [((a.length : Int), firstK c)]) from et, ← len1 x4 ((a.length : Int), firstK c)]
    exact hk
  refine br_of (fun h5 => ?_) (fun h5 => ?_)
  · have ei : insT (c.nm, c.ar) ((a.length : Int), firstK c) [(n1, g1, x1), (n2, g2, x2), (n3, g3, x3), (n4, g4, x4), (n5, g5, x5), (n6, g6, x6), (n7, g7, x7), (n8, g8, x8), (n9, g9, x9)] = [(n1, g1, x1), (n2, g2, x2), (n3, g3, x3), (n4, g4, x4), (c.nm, c.ar, x5 ++ [((a.length : Int), firstK c)]), (n6, g6, x6), (n7, g7, x7), (n8, g8, x8), (n9, g9, x9)] := by simp only [insT, h1, h2, h3, h4, h5, Bool.false_eq_true, if_false, if_true]
    rw [ei] at hk
    refine ⟨Nat.le_refl _, ⟨ER_len x5, by unfold roomB; have : x5.length ≤ 12 := q5; omega⟩, ?_⟩
    have et := ER_take x5 ((a.length : Int), firstK c)
    rw [show (List.take x5.length (ER x5) ++ [[FV.int .i64 (a.length : Int), .bool (firstK c).any, .int .i64 (firstK c).k, .str (firstK c).nm, .int .i64 (firstK c).n, .int .i64 (firstK c).ar]]) = ER (x5 ++ [((a.length : Int), firstK c)]) from et, ← len1 x5 ((a.length : Int), firstK c)]
    exact hk
  refine br_of (fun h6 => ?_) (fun h6 => ?_)
  · have ei : insT (c.nm, c.ar) ((a.length : Int), firstK c) [(n1, g1, x1), (n2, g2, x2), (n3, g3, x3), (n4, g4, x4), (n5, g5, x5), (n6, g6, x6), (n7, g7, x7), (n8, g8, x8), (n9, g9, x9)] = [(n1, g1, x1), (n2, g2, x2), (n3, g3, x3), (n4, g4, x4), (n5, g5, x5), (c.nm, c.ar, x6 ++ [((a.length : Int), firstK c)]), (n7, g7, x7), (n8, g8, x8), (n9, g9, x9)] := by simp only [insT, h1, h2, h3, h4, h5, h6, Bool.false_eq_true, if_false, if_true]
    rw [ei] at hk
    refine ⟨Nat.le_refl _, ⟨ER_len x6, by unfold roomB; have : x6.length ≤ 12 := q6; omega⟩, ?_⟩
    have et := ER_take x6 ((a.length : Int), firstK c)
    rw [show (List.take x6.length (ER x6) ++ [[FV.int .i64 (a.length : Int), .bool (firstK c).any, .int .i64 (firstK c).k, .str (firstK c).nm, .int .i64 (firstK c).n, .int .i64 (firstK c).ar]]) = ER (x6 ++ [((a.length : Int), firstK c)]) from et, ← len1 x6 ((a.length : Int), firstK c)]
    exact hk
  refine br_of (fun h7 => ?_) (fun h7 => ?_)
  · have ei : insT (c.nm, c.ar) ((a.length : Int), firstK c) [(n1, g1, x1), (n2, g2, x2), (n3, g3, x3), (n4, g4, x4), (n5, g5, x5), (n6, g6, x6), (n7, g7, x7), (n8, g8, x8), (n9, g9, x9)] = [(n1, g1, x1), (n2, g2, x2), (n3, g3, x3), (n4, g4, x4), (n5, g5, x5), (n6, g6, x6), (c.nm, c.ar, x7 ++ [((a.length : Int), firstK c)]), (n8, g8, x8), (n9, g9, x9)] := by simp only [insT, h1, h2, h3, h4, h5, h6, h7, Bool.false_eq_true, if_false, if_true]
    rw [ei] at hk
    refine ⟨Nat.le_refl _, ⟨ER_len x7, by unfold roomB; have : x7.length ≤ 12 := q7; omega⟩, ?_⟩
    have et := ER_take x7 ((a.length : Int), firstK c)
    rw [show (List.take x7.length (ER x7) ++ [[FV.int .i64 (a.length : Int), .bool (firstK c).any, .int .i64 (firstK c).k, .str (firstK c).nm, .int .i64 (firstK c).n, .int .i64 (firstK c).ar]]) = ER (x7 ++ [((a.length : Int), firstK c)]) from et, ← len1 x7 ((a.length : Int), firstK c)]
    exact hk
  refine br_of (fun h8 => ?_) (fun h8 => ?_)
  · have ei : insT (c.nm, c.ar) ((a.length : Int), firstK c) [(n1, g1, x1), (n2, g2, x2), (n3, g3, x3), (n4, g4, x4), (n5, g5, x5), (n6, g6, x6), (n7, g7, x7), (n8, g8, x8), (n9, g9, x9)] = [(n1, g1, x1), (n2, g2, x2), (n3, g3, x3), (n4, g4, x4), (n5, g5, x5), (n6, g6, x6), (n7, g7, x7), (c.nm, c.ar, x8 ++ [((a.length : Int), firstK c)]), (n9, g9, x9)] := by simp only [insT, h1, h2, h3, h4, h5, h6, h7, h8, Bool.false_eq_true, if_false, if_true]
    rw [ei] at hk
    refine ⟨Nat.le_refl _, ⟨ER_len x8, by unfold roomB; have : x8.length ≤ 12 := q8; omega⟩, ?_⟩
    have et := ER_take x8 ((a.length : Int), firstK c)
    rw [show (List.take x8.length (ER x8) ++ [[FV.int .i64 (a.length : Int), .bool (firstK c).any, .int .i64 (firstK c).k, .str (firstK c).nm, .int .i64 (firstK c).n, .int .i64 (firstK c).ar]]) = ER (x8 ++ [((a.length : Int), firstK c)]) from et, ← len1 x8 ((a.length : Int), firstK c)]
    exact hk
  refine br_of (fun h9 => ?_) (fun h9 => ?_)
  · have ei : insT (c.nm, c.ar) ((a.length : Int), firstK c) [(n1, g1, x1), (n2, g2, x2), (n3, g3, x3), (n4, g4, x4), (n5, g5, x5), (n6, g6, x6), (n7, g7, x7), (n8, g8, x8), (n9, g9, x9)] = [(n1, g1, x1), (n2, g2, x2), (n3, g3, x3), (n4, g4, x4), (n5, g5, x5), (n6, g6, x6), (n7, g7, x7), (n8, g8, x8), (c.nm, c.ar, x9 ++ [((a.length : Int), firstK c)])] := by simp only [insT, h1, h2, h3, h4, h5, h6, h7, h8, h9, Bool.false_eq_true, if_false, if_true]
    rw [ei] at hk
    refine ⟨Nat.le_refl _, ⟨ER_len x9, by unfold roomB; have : x9.length ≤ 12 := q9; omega⟩, ?_⟩
    have et := ER_take x9 ((a.length : Int), firstK c)
    rw [show (List.take x9.length (ER x9) ++ [[FV.int .i64 (a.length : Int), .bool (firstK c).any, .int .i64 (firstK c).k, .str (firstK c).nm, .int .i64 (firstK c).n, .int .i64 (firstK c).ar]]) = ER (x9 ++ [((a.length : Int), firstK c)]) from et, ← len1 x9 ((a.length : Int), firstK c)]
    exact hk
  have ei : insT (c.nm, c.ar) ((a.length : Int), firstK c) [(n1, g1, x1), (n2, g2, x2), (n3, g3, x3), (n4, g4, x4), (n5, g5, x5), (n6, g6, x6), (n7, g7, x7), (n8, g8, x8), (n9, g9, x9)] = [(n1, g1, x1), (n2, g2, x2), (n3, g3, x3), (n4, g4, x4), (n5, g5, x5), (n6, g6, x6), (n7, g7, x7), (n8, g8, x8), (n9, g9, x9), (c.nm, c.ar, [((a.length : Int), firstK c)])] := by simp only [insT, h1, h2, h3, h4, h5, h6, h7, h8, h9, Bool.false_eq_true, if_false, if_true]
  rw [ei] at hk
  exact ⟨Nat.le_refl _, by unfold roomB; omega, hk⟩
theorem exitN_10 (l : List Cd) (e1 : Ent) (e2 : Ent) (e3 : Ent) (e4 : Ent) (e5 : Ent) (e6 : Ent) (e7 : Ent) (e8 : Ent) (e9 : Ent) (e10 : Ent) : RPt Try.prog 19 0 (.c (.a (.ep 0 1 0 0))) (outN [e1, e2, e3, e4, e5, e6, e7, e8, e9, e10]) 1 (stN l [e1, e2, e3, e4, e5, e6, e7, e8, e9, e10] (((FCs l).length : Nat) : Int)) := by
  obtain ⟨n1, g1, x1⟩ := e1
  obtain ⟨n2, g2, x2⟩ := e2
  obtain ⟨n3, g3, x3⟩ := e3
  obtain ⟨n4, g4, x4⟩ := e4
  obtain ⟨n5, g5, x5⟩ := e5
  obtain ⟨n6, g6, x6⟩ := e6
  obtain ⟨n7, g7, x7⟩ := e7
  obtain ⟨n8, g8, x8⟩ := e8
  obtain ⟨n9, g9, x9⟩ := e9
  obtain ⟨n10, g10, x10⟩ := e10
  refine RPt.vc hP sh lv19 (Eq.mpr (v19_1k (FCs l) (((FCs l).length : Nat) : Int) (((FCs l).length : Nat) : Int) n1 g1 x1.length n2 g2 x2.length n3 g3 x3.length n4 g4 x4.length n5 g5 x5.length n6 g6 x6.length n7 g7 x7.length n8 g8 x8.length n9 g9 x9.length n10 g10 x10.length (ER x1) (ER x2) (ER x3) (ER x4) (ER x5) (ER x6) (ER x7) (ER x8) (ER x9) (ER x10) _ _) ?_)
  exact br_of (fun h => absurd (of_decide_eq_true h) (Int.lt_irrefl _)) (fun _ => ⟨.refl _, rfl⟩)
theorem stepN_10 (l a b : List Cd) (c : Cd) (hl : l = a ++ c :: b) (hB : l.length ≤ 12) (hz : c.sz ≤ B) (e1 : Ent) (e2 : Ent) (e3 : Ent) (e4 : Ent) (e5 : Ent) (e6 : Ent) (e7 : Ent) (e8 : Ent) (e9 : Ent) (e10 : Ent) (hL : ∀ e ∈ ([e1, e2, e3, e4, e5, e6, e7, e8, e9, e10] : List Ent), e.2.2.length ≤ 12) (r : TV) (Hs : List AObj) (hk : RPt Try.prog 19 0 r Hs 1 (stN l (insT (c.nm, c.ar) (a.length, firstK c) [e1, e2, e3, e4, e5, e6, e7, e8, e9, e10]) ((a.length : Int) + 1))) :
    RPt Try.prog 19 0 r Hs 1 (stN l [e1, e2, e3, e4, e5, e6, e7, e8, e9, e10] a.length) := by
  have hf := c_first c hz
  have hlt : (a.length : Int) < (((FCs l).length : Nat) : Int) := by rw [FCs_length, hl]; simp; omega
  have hB' := hB
  rw [hl, List.length_append, List.length_cons] at hB'
  have em := fc_mid a c b
  rw [← hl] at em
  have e0 : FV.asS (List.getD (FC c) 0 FV.nils) = c.nm := by cases c; rw [FC]; rfl
  have e1_ : FV.asI (List.getD (FC c) 1 FV.nils) = c.ar := by cases c; rw [FC]; rfl
  have q1 : e1.2.2.length ≤ 12 := hL e1 (by simp)
  have q2 : e2.2.2.length ≤ 12 := hL e2 (by simp)
  have q3 : e3.2.2.length ≤ 12 := hL e3 (by simp)
  have q4 : e4.2.2.length ≤ 12 := hL e4 (by simp)
  have q5 : e5.2.2.length ≤ 12 := hL e5 (by simp)
  have q6 : e6.2.2.length ≤ 12 := hL e6 (by simp)
  have q7 : e7.2.2.length ≤ 12 := hL e7 (by simp)
  have q8 : e8.2.2.length ≤ 12 := hL e8 (by simp)
  have q9 : e9.2.2.length ≤ 12 := hL e9 (by simp)
  have q10 : e10.2.2.length ≤ 12 := hL e10 (by simp)
  obtain ⟨n1, g1, x1⟩ := e1
  obtain ⟨n2, g2, x2⟩ := e2
  obtain ⟨n3, g3, x3⟩ := e3
  obtain ⟨n4, g4, x4⟩ := e4
  obtain ⟨n5, g5, x5⟩ := e5
  obtain ⟨n6, g6, x6⟩ := e6
  obtain ⟨n7, g7, x7⟩ := e7
  obtain ⟨n8, g8, x8⟩ := e8
  obtain ⟨n9, g9, x9⟩ := e9
  obtain ⟨n10, g10, x10⟩ := e10
  refine RPt.vc hP sh lv19 (Eq.mpr (v19_1k (FCs l) (((FCs l).length : Nat) : Int) a.length n1 g1 x1.length n2 g2 x2.length n3 g3 x3.length n4 g4 x4.length n5 g5 x5.length n6 g6 x6.length n7 g7 x7.length n8 g8 x8.length n9 g9 x9.length n10 g10 x10.length (ER x1) (ER x2) (ER x3) (ER x4) (ER x5) (ER x6) (ER x7) (ER x8) (ER x9) (ER x10) _ _) ?_)
  rw [w64 (x := (a.length : Int) + 1) (by omega) (by omega), em]
  refine br_of (fun _ => ⟨⟨rfl, by omega, hlt, fCr_FC c⟩, _, _, _, _, _, by rw [show (TV.agg [.a (.fz (.str (FV.asS (List.getD (FC c) 0 FV.nils)))), .a (.fz (.int .i64 (FV.asI (List.getD (FC c) 1 FV.nils)))), .a (.fz (.int .i64 (FV.asI (List.getD (FC c) 2 FV.nils)))), .a (.fz (.int .i64 (FV.asI (List.getD (FC c) 3 FV.nils)))), .a (.fz (.int .i64 (FV.asI (List.getD (FC c) 4 FV.nils)))), .a (.fz (List.getD (FC c) 5 FV.nils))]) = aC c from aCr_FC c]; exact hf, ?_⟩) (fun h => absurd hlt (of_decide_eq_false h))
  rw [e0, e1_]
  refine br_of (fun h1 => ?_) (fun h1 => ?_)
  · have ei : insT (c.nm, c.ar) ((a.length : Int), firstK c) [(n1, g1, x1), (n2, g2, x2), (n3, g3, x3), (n4, g4, x4), (n5, g5, x5), (n6, g6, x6), (n7, g7, x7), (n8, g8, x8), (n9, g9, x9), (n10, g10, x10)] = [(c.nm, c.ar, x1 ++ [((a.length : Int), firstK c)]), (n2, g2, x2), (n3, g3, x3), (n4, g4, x4), (n5, g5, x5), (n6, g6, x6), (n7, g7, x7), (n8, g8, x8), (n9, g9, x9), (n10, g10, x10)] := by simp only [insT, h1, Bool.false_eq_true, if_false, if_true]
    rw [ei] at hk
    refine ⟨Nat.le_refl _, ⟨ER_len x1, by unfold roomB; have : x1.length ≤ 12 := q1; omega⟩, ?_⟩
    have et := ER_take x1 ((a.length : Int), firstK c)
    rw [show (List.take x1.length (ER x1) ++ [[FV.int .i64 (a.length : Int), .bool (firstK c).any, .int .i64 (firstK c).k, .str (firstK c).nm, .int .i64 (firstK c).n, .int .i64 (firstK c).ar]]) = ER (x1 ++ [((a.length : Int), firstK c)]) from et, ← len1 x1 ((a.length : Int), firstK c)]
    exact hk
  refine br_of (fun h2 => ?_) (fun h2 => ?_)
  · have ei : insT (c.nm, c.ar) ((a.length : Int), firstK c) [(n1, g1, x1), (n2, g2, x2), (n3, g3, x3), (n4, g4, x4), (n5, g5, x5), (n6, g6, x6), (n7, g7, x7), (n8, g8, x8), (n9, g9, x9), (n10, g10, x10)] = [(n1, g1, x1), (c.nm, c.ar, x2 ++ [((a.length : Int), firstK c)]), (n3, g3, x3), (n4, g4, x4), (n5, g5, x5), (n6, g6, x6), (n7, g7, x7), (n8, g8, x8), (n9, g9, x9), (n10, g10, x10)] := by simp only [insT, h1, h2, Bool.false_eq_true, if_false, if_true]
    rw [ei] at hk
    refine ⟨Nat.le_refl _, ⟨ER_len x2, by unfold roomB; have : x2.length ≤ 12 := q2; omega⟩, ?_⟩
    have et := ER_take x2 ((a.length : Int), firstK c)
    rw [show (List.take x2.length (ER x2) ++ [[FV.int .i64 (a.length : Int), .bool (firstK c).any, .int .i64 (firstK c).k, .str (firstK c).nm, .int .i64 (firstK c).n, .int .i64 (firstK c).ar]]) = ER (x2 ++ [((a.length : Int), firstK c)]) from et, ← len1 x2 ((a.length : Int), firstK c)]
    exact hk
  refine br_of (fun h3 => ?_) (fun h3 => ?_)
  · have ei : insT (c.nm, c.ar) ((a.length : Int), firstK c) [(n1, g1, x1), (n2, g2, x2), (n3, g3, x3), (n4, g4, x4), (n5, g5, x5), (n6, g6, x6), (n7, g7, x7), (n8, g8, x8), (n9, g9, x9), (n10, g10, x10)] = [(n1, g1, x1), (n2, g2, x2), (c.nm, c.ar, x3 ++ [((a.length : Int), firstK c)]), (n4, g4, x4), (n5, g5, x5), (n6, g6, x6), (n7, g7, x7), (n8, g8, x8), (n9, g9, x9), (n10, g10, x10)] := by simp only [insT, h1, h2, h3, Bool.false_eq_true, if_false, if_true]
    rw [ei] at hk
    refine ⟨Nat.le_refl _, ⟨ER_len x3, by unfold roomB; have : x3.length ≤ 12 := q3; omega⟩, ?_⟩
    have et := ER_take x3 ((a.length : Int), firstK c)
    rw [show (List.take x3.length (ER x3) ++ [[FV.int .i64 (a.length : Int), .bool (firstK c).any, .int .i64 (firstK c).k, .str (firstK c).nm, .int .i64 (firstK c).n, .int .i64 (firstK c).ar]]) = ER (x3 ++ [((a.length : Int), firstK c)]) from et, ← len1 x3 ((a.length : Int), firstK c)]
    exact hk
  refine br_of (fun h4 => ?_) (fun h4 => ?_)
  · have ei : insT (c.nm, c.ar) ((a.length : Int), firstK c) [(n1, g1, x1), (n2, g2, x2), (n3, g3, x3), (n4, g4, x4), (n5, g5, x5), (n6, g6, x6), (n7, g7, x7), (n8, g8, x8), (n9, g9, x9), (n10, g10, x10)] = [(n1, g1, x1), (n2, g2, x2), (n3, g3, x3), (c.nm, c.ar, x4 ++ [((a.length : Int), firstK c)]), (n5, g5, x5), (n6, g6, x6), (n7, g7, x7), (n8, g8, x8), (n9, g9, x9), (n10, g10, x10)] := by simp only [insT, h1, h2, h3, h4, Bool.false_eq_true, if_false, if_true]
    rw [ei] at hk
    refine ⟨Nat.le_refl _, ⟨ER_len x4, by unfold roomB; have : x4.length ≤ 12 := q4; omega⟩, ?_⟩
    have et := ER_take x4 ((a.length : Int), firstK c)
    rw [show (List.take x4.length (ER x4) ++ [[FV.int .i64 (a.length : Int), .bool (firstK c).any, .int .i64 (firstK c).k, .str (firstK c).nm, .int .i64 (firstK c).n, .int .i64 (firstK c).ar]]) = ER (x4 ++ [((a.length : Int), firstK c)]) from et, ← len1 x4 ((a.length : Int), firstK c)]
    exact hk
  refine br_of (fun h5 => ?_) (fun h5 => ?_)
  · have ei : insT (c.nm, c.ar) ((a.length : Int), firstK c) [(n1, g1, x1), (n2, g2, x2), (n3, g3, x3), (n4, g4, x4), (n5, g5, x5), (n6, g6, x6), (n7, g7, x7), (n8, g8, x8), (n9, g9, x9), (n10, g10, x10)] = [(n1, g1, x1), (n2, g2, x2), (n3, g3, x3), (n4, g4, x4), (c.nm, c.ar, x5 ++ [((a.length : Int), firstK c)]), (n6, g6, x6), (n7, g7, x7), (n8, g8, x8), (n9, g9, x9), (n10, g10, x10)] := by simp only [insT, h1, h2, h3, h4, h5, Bool.false_eq_true, if_false, if_true]
    rw [ei] at hk
    refine ⟨Nat.le_refl _, ⟨ER_len x5, by unfold roomB; have : x5.length ≤ 12 := q5; omega⟩, ?_⟩
    have et := ER_take x5 ((a.length : Int), firstK c)
    rw [show (List.take x5.length (ER x5) ++ [[FV.int .i64 (a.length : Int), .bool (firstK c).any, .int .i64 (firstK c).k, .str (firstK c).nm, .int .i64 (firstK c).n, .int .i64 (firstK c).ar]]) = ER (x5 ++ [((a.length : Int), firstK c)]) from et, ← len1 x5 ((a.length : Int), firstK c)]
    exact hk
  refine br_of (fun h6 => ?_) (fun h6 => ?_)
  · have ei : insT (c.nm, c.ar) ((a.length : Int), firstK c) [(n1, g1, x1), (n2, g2, x2), (n3, g3, x3), (n4, g4, x4), (n5, g5, x5), (n6, g6, x6), (n7, g7, x7), (n8, g8, x8), (n9, g9, x9), (n10, g10, x10)] = [(n1, g1, x1), (n2, g2, x2), (n3, g3, x3), (n4, g4, x4), (n5, g5, x5), (c.nm, c.ar, x6 ++ [((a.length : Int), firstK c)]), (n7, g7, x7), (n8, g8, x8), (n9, g9, x9), (n10, g10, x10)] := by simp only [insT, h1, h2, h3, h4, h5, h6, Bool.false_eq_true, if_false, if_true]
    rw [ei] at hk
    refine ⟨Nat.le_refl _, ⟨ER_len x6, by unfold roomB; have : x6.length ≤ 12 := q6; omega⟩, ?_⟩
    have et := ER_take x6 ((a.length : Int), firstK c)
    rw [show (List.take x6.length (ER x6) ++ [[FV.int .i64 (a.length : Int), .bool (firstK c).any, .int .i64 (firstK c).k, .str (firstK c).nm, .int .i64 (firstK c).n, .int .i64 (firstK c).ar]]) = ER (x6 ++ [((a.length : Int), firstK c)]) from et, ← len1 x6 ((a.length : Int), firstK c)]
    exact hk
  refine br_of (fun h7 => ?_) (fun h7 => ?_)
  · have ei : insT (c.nm, c.ar) ((a.length : Int), firstK c) [(n1, g1, x1), (n2, g2, x2), (n3, g3, x3), (n4, g4, x4), (n5, g5, x5), (n6, g6, x6), (n7, g7, x7), (n8, g8, x8), (n9, g9, x9), (n10, g10, x10)] = [(n1, g1, x1), (n2, g2, x2), (n3, g3, x3), (n4, g4, x4), (n5, g5, x5), (n6, g6, x6), (c.nm, c.ar, x7 ++ [((a.length : Int), firstK c)]), (n8, g8, x8), (n9, g9, x9), (n10, g10, x10)] := by simp only [insT, h1, h2, h3, h4, h5, h6, h7, Bool.false_eq_true, if_false, if_true]
    rw [ei] at hk
    refine ⟨Nat.le_refl _, ⟨ER_len x7, by unfold roomB; have : x7.length ≤ 12 := q7; omega⟩, ?_⟩
    have et := ER_take x7 ((a.length : Int), firstK c)
    rw [show (List.take x7.length (ER x7) ++ [[FV.int .i64 (a.length : Int), .bool (firstK c).any, .int .i64 (firstK c).k, .str (firstK c).nm, .int .i64 (firstK c).n, .int .i64 (firstK c).ar]]) = ER (x7 ++ [((a.length : Int), firstK c)]) from et, ← len1 x7 ((a.length : Int), firstK c)]
    exact hk
  refine br_of (fun h8 => ?_) (fun h8 => ?_)
  · have ei : insT (c.nm, c.ar) ((a.length : Int), firstK c) [(n1, g1, x1), (n2, g2, x2), (n3, g3, x3), (n4, g4, x4), (n5, g5, x5), (n6, g6, x6), (n7, g7, x7), (n8, g8, x8), (n9, g9, x9), (n10, g10, x10)] = [(n1, g1, x1), (n2, g2, x2), (n3, g3, x3), (n4, g4, x4), (n5, g5, x5), (n6, g6, x6), (n7, g7, x7), (c.nm, c.ar, x8 ++ [((a.length : Int), firstK c)]), (n9, g9, x9), (n10, g10, x10)] := by simp only [insT, h1, h2, h3, h4, h5, h6, h7, h8, Bool.false_eq_true, if_false, if_true]
    rw [ei] at hk
    refine ⟨Nat.le_refl _, ⟨ER_len x8, by unfold roomB; have : x8.length ≤ 12 := q8; omega⟩, ?_⟩
    have et := ER_take x8 ((a.length : Int), firstK c)
    rw [show (List.take x8.length (ER x8) ++ [[FV.int .i64 (a.length : Int), .bool (firstK c).any, .int .i64 (firstK c).k, .str (firstK c).nm, .int .i64 (firstK c).n, .int .i64 (firstK c).ar]]) = ER (x8 ++ [((a.length : Int), firstK c)]) from et, ← len1 x8 ((a.length : Int), firstK c)]
    exact hk
  refine br_of (fun h9 => ?_) (fun h9 => ?_)
  · have ei : insT (c.nm, c.ar) ((a.length : Int), firstK c) [(n1, g1, x1), (n2, g2, x2), (n3, g3, x3), (n4, g4, x4), (n5, g5, x5), (n6, g6, x6), (n7, g7, x7), (n8, g8, x8), (n9, g9, x9), (n10, g10, x10)] = [(n1, g1, x1), (n2, g2, x2), (n3, g3, x3), (n4, g4, x4), (n5, g5, x5), (n6, g6, x6), (n7, g7, x7), (n8, g8, x8), (c.nm, c.ar, x9 ++ [((a.length : Int), firstK c)]), (n10, g10, x10)] := by simp only [insT, h1, h2, h3, h4, h5, h6, h7, h8, h9, Bool.false_eq_true, if_false, if_true]
    rw [ei] at hk
    refine ⟨Nat.le_refl _, ⟨ER_len x9, by unfold roomB; have : x9.length ≤ 12 := q9; omega⟩, ?_⟩
    have et := ER_take x9 ((a.length : Int), firstK c)
    rw [show (List.take x9.length (ER x9) ++ [[FV.int .i64 (a.length : Int), .bool (firstK c).any, .int .i64 (firstK c).k, .str (firstK c).nm, .int .i64 (firstK c).n, .int .i64 (firstK c).ar]]) = ER (x9 ++ [((a.length : Int), firstK c)]) from et, ← len1 x9 ((a.length : Int), firstK c)]
    exact hk
  refine br_of (fun h10 => ?_) (fun h10 => ?_)
  · have ei : insT (c.nm, c.ar) ((a.length : Int), firstK c) [(n1, g1, x1), (n2, g2, x2), (n3, g3, x3), (n4, g4, x4), (n5, g5, x5), (n6, g6, x6), (n7, g7, x7), (n8, g8, x8), (n9, g9, x9), (n10, g10, x10)] = [(n1, g1, x1), (n2, g2, x2), (n3, g3, x3), (n4, g4, x4), (n5, g5, x5), (n6, g6, x6), (n7, g7, x7), (n8, g8, x8), (n9, g9, x9), (c.nm, c.ar, x10 ++ [((a.length : Int), firstK c)])] := by simp only [insT, h1, h2, h3, h4, h5, h6, h7, h8, h9, h10, Bool.false_eq_true, if_false, if_true]
    rw [ei] at hk
    refine ⟨Nat.le_refl _, ⟨ER_len x10, by unfold roomB; have : x10.length ≤ 12 := q10; omega⟩, ?_⟩
    have et := ER_take x10 ((a.length : Int), firstK c)
    rw [show (List.take x10.length (ER x10) ++ [[FV.int .i64 (a.length : Int), .bool (firstK c).any, .int .i64 (firstK c).k, .str (firstK c).nm, .int .i64 (firstK c).n, .int .i64 (firstK c).ar]]) = ER (x10 ++ [((a.length : Int), firstK c)]) from et, ← len1 x10 ((a.length : Int), firstK c)]
    exact hk
  have ei : insT (c.nm, c.ar) ((a.length : Int), firstK c) [(n1, g1, x1), (n2, g2, x2), (n3, g3, x3), (n4, g4, x4), (n5, g5, x5), (n6, g6, x6), (n7, g7, x7), (n8, g8, x8), (n9, g9, x9), (n10, g10, x10)] = [(n1, g1, x1), (n2, g2, x2), (n3, g3, x3), (n4, g4, x4), (n5, g5, x5), (n6, g6, x6), (n7, g7, x7), (n8, g8, x8), (n9, g9, x9), (n10, g10, x10), (c.nm, c.ar, [((a.length : Int), firstK c)])] := by simp only [insT, h1, h2, h3, h4, h5, h6, h7, h8, h9, h10, Bool.false_eq_true, if_false, if_true]
  rw [ei] at hk
  exact ⟨Nat.le_refl _, by unfold roomB; omega, hk⟩
theorem exitN_11 (l : List Cd) (e1 : Ent) (e2 : Ent) (e3 : Ent) (e4 : Ent) (e5 : Ent) (e6 : Ent) (e7 : Ent) (e8 : Ent) (e9 : Ent) (e10 : Ent) (e11 : Ent) : RPt Try.prog 19 0 (.c (.a (.ep 0 1 0 0))) (outN [e1, e2, e3, e4, e5, e6, e7, e8, e9, e10, e11]) 1 (stN l [e1, e2, e3, e4, e5, e6, e7, e8, e9, e10, e11] (((FCs l).length : Nat) : Int)) := by
  obtain ⟨n1, g1, x1⟩ := e1
  obtain ⟨n2, g2, x2⟩ := e2
  obtain ⟨n3, g3, x3⟩ := e3
  obtain ⟨n4, g4, x4⟩ := e4
  obtain ⟨n5, g5, x5⟩ := e5
  obtain ⟨n6, g6, x6⟩ := e6
  obtain ⟨n7, g7, x7⟩ := e7
  obtain ⟨n8, g8, x8⟩ := e8
  obtain ⟨n9, g9, x9⟩ := e9
  obtain ⟨n10, g10, x10⟩ := e10
  obtain ⟨n11, g11, x11⟩ := e11
  refine RPt.vc hP sh lv19 (Eq.mpr (v19_1l (FCs l) (((FCs l).length : Nat) : Int) (((FCs l).length : Nat) : Int) n1 g1 x1.length n2 g2 x2.length n3 g3 x3.length n4 g4 x4.length n5 g5 x5.length n6 g6 x6.length n7 g7 x7.length n8 g8 x8.length n9 g9 x9.length n10 g10 x10.length n11 g11 x11.length (ER x1) (ER x2) (ER x3) (ER x4) (ER x5) (ER x6) (ER x7) (ER x8) (ER x9) (ER x10) (ER x11) _ _) ?_)
  exact br_of (fun h => absurd (of_decide_eq_true h) (Int.lt_irrefl _)) (fun _ => ⟨.refl _, rfl⟩)
theorem stepN_11 (l a b : List Cd) (c : Cd) (hl : l = a ++ c :: b) (hB : l.length ≤ 12) (hz : c.sz ≤ B) (e1 : Ent) (e2 : Ent) (e3 : Ent) (e4 : Ent) (e5 : Ent) (e6 : Ent) (e7 : Ent) (e8 : Ent) (e9 : Ent) (e10 : Ent) (e11 : Ent) (hL : ∀ e ∈ ([e1, e2, e3, e4, e5, e6, e7, e8, e9, e10, e11] : List Ent), e.2.2.length ≤ 12) (r : TV) (Hs : List AObj) (hk : RPt Try.prog 19 0 r Hs 1 (stN l (insT (c.nm, c.ar) (a.length, firstK c) [e1, e2, e3, e4, e5, e6, e7, e8, e9, e10, e11]) ((a.length : Int) + 1))) :
    RPt Try.prog 19 0 r Hs 1 (stN l [e1, e2, e3, e4, e5, e6, e7, e8, e9, e10, e11] a.length) := by
  have hf := c_first c hz
  have hlt : (a.length : Int) < (((FCs l).length : Nat) : Int) := by rw [FCs_length, hl]; simp; omega
  have hB' := hB
  rw [hl, List.length_append, List.length_cons] at hB'
  have em := fc_mid a c b
  rw [← hl] at em
  have e0 : FV.asS (List.getD (FC c) 0 FV.nils) = c.nm := by cases c; rw [FC]; rfl
  have e1_ : FV.asI (List.getD (FC c) 1 FV.nils) = c.ar := by cases c; rw [FC]; rfl
  have q1 : e1.2.2.length ≤ 12 := hL e1 (by simp)
  have q2 : e2.2.2.length ≤ 12 := hL e2 (by simp)
  have q3 : e3.2.2.length ≤ 12 := hL e3 (by simp)
  have q4 : e4.2.2.length ≤ 12 := hL e4 (by simp)
  have q5 : e5.2.2.length ≤ 12 := hL e5 (by simp)
  have q6 : e6.2.2.length ≤ 12 := hL e6 (by simp)
  have q7 : e7.2.2.length ≤ 12 := hL e7 (by simp)
  have q8 : e8.2.2.length ≤ 12 := hL e8 (by simp)
  have q9 : e9.2.2.length ≤ 12 := hL e9 (by simp)
  have q10 : e10.2.2.length ≤ 12 := hL e10 (by simp)
  have q11 : e11.2.2.length ≤ 12 := hL e11 (by simp)
  obtain ⟨n1, g1, x1⟩ := e1
  obtain ⟨n2, g2, x2⟩ := e2
  obtain ⟨n3, g3, x3⟩ := e3
  obtain ⟨n4, g4, x4⟩ := e4
  obtain ⟨n5, g5, x5⟩ := e5
  obtain ⟨n6, g6, x6⟩ := e6
  obtain ⟨n7, g7, x7⟩ := e7
  obtain ⟨n8, g8, x8⟩ := e8
  obtain ⟨n9, g9, x9⟩ := e9
  obtain ⟨n10, g10, x10⟩ := e10
  obtain ⟨n11, g11, x11⟩ := e11
  refine RPt.vc hP sh lv19 (Eq.mpr (v19_1l (FCs l) (((FCs l).length : Nat) : Int) a.length n1 g1 x1.length n2 g2 x2.length n3 g3 x3.length n4 g4 x4.length n5 g5 x5.length n6 g6 x6.length n7 g7 x7.length n8 g8 x8.length n9 g9 x9.length n10 g10 x10.length n11 g11 x11.length (ER x1) (ER x2) (ER x3) (ER x4) (ER x5) (ER x6) (ER x7) (ER x8) (ER x9) (ER x10) (ER x11) _ _) ?_)
  rw [w64 (x := (a.length : Int) + 1) (by omega) (by omega), em]
  refine br_of (fun _ => ⟨⟨rfl, by omega, hlt, fCr_FC c⟩, _, _, _, _, _, by rw [show (TV.agg [.a (.fz (.str (FV.asS (List.getD (FC c) 0 FV.nils)))), .a (.fz (.int .i64 (FV.asI (List.getD (FC c) 1 FV.nils)))), .a (.fz (.int .i64 (FV.asI (List.getD (FC c) 2 FV.nils)))), .a (.fz (.int .i64 (FV.asI (List.getD (FC c) 3 FV.nils)))), .a (.fz (.int .i64 (FV.asI (List.getD (FC c) 4 FV.nils)))), .a (.fz (List.getD (FC c) 5 FV.nils))]) = aC c from aCr_FC c]; exact hf, ?_⟩) (fun h => absurd hlt (of_decide_eq_false h))
  rw [e0, e1_]
  refine br_of (fun h1 => ?_) (fun h1 => ?_)
  · have ei : insT (c.nm, c.ar) ((a.length : Int), firstK c) [(n1, g1, x1), (n2, g2, x2), (n3, g3, x3), (n4, g4, x4), (n5, g5, x5), (n6, g6, x6), (n7, g7, x7), (n8, g8, x8), (n9, g9, x9), (n10, g10, x10), (n11, g11, x11)] = [(c.nm, c.ar, x1 ++ [((a.length : Int), firstK c)]), (n2, g2, x2), (n3, g3, x3), (n4, g4, x4), (n5, g5, x5), (n6, g6, x6), (n7, g7, x7), (n8, g8, x8), (n9, g9, x9), (n10, g10, x10), (n11, g11, x11)] := by simp only [insT, h1, Bool.false_eq_true, if_false, if_true]
    rw [ei] at hk
    refine ⟨Nat.le_refl _, ⟨ER_len x1, by unfold roomB; have : x1.length ≤ 12 := q1; omega⟩, ?_⟩
    have et := ER_take x1 ((a.length : Int), firstK c)
    rw [show (List.take x1.length (ER x1) ++ [[FV.int .i64 (a.length : Int), .bool (firstK c).any, .int .i64 (firstK c).k, .str (firstK c).nm, .int .i64 (firstK c).n, .int .i64 (firstK c).ar]]) = ER (x1 ++ [((a.length : Int), firstK c)]) from et, ← len1 x1 ((a.length : Int), firstK c)]
    exact hk
  refine br_of (fun h2 => ?_) (fun h2 => ?_)
  · have ei : insT (c.nm, c.ar) ((a.length : Int), firstK c) [(n1, g1, x1), (n2, g2, x2), (n3, g3, x3), (n4, g4, x4), (n5, g5, x5), (n6, g6, x6), (n7, g7, x7), (n8, g8, x8), (n9, g9, x9), (n10, g10, x10), (n11, g11, x11)] = [(n1, g1, x1), (c.nm, c.ar, x2 ++ [((a.length : Int), firstK c)]), (n3, g3, x3), (n4, g4, x4), (n5, g5, x5), (n6, g6, x6), (n7, g7, x7), (n8, g8, x8), (n9, g9, x9), (n10, g10, x10), (n11, g11, x11)] := by simp only [insT, h1, h2, Bool.false_eq_true, if_false, if_true]
    rw [ei] at hk
    refine ⟨Nat.le_refl _, ⟨ER_len x2, by unfold roomB; have : x2.length ≤ 12 := q2; omega⟩, ?_⟩
    have et := ER_take x2 ((a.length : Int), firstK c)
    rw [show (List.take x2.length (ER x2) ++ [[FV.int .i64 (a.length : Int), .bool (firstK c).any, .int .i64 (firstK c).k, .str (firstK c).nm, .int .i64 (firstK c).n, .int .i64 (firstK c).ar]]) = ER (x2 ++ [((a.length : Int), firstK c)]) from et, ← len1 x2 ((a.length : Int), firstK c)]
    exact hk
  refine br_of (fun h3 => ?_) (fun h3 => ?_)
  · have ei : insT (c.nm, c.ar) ((a.length : Int), firstK c) [(n1, g1, x1), (n2, g2, x2), (n3, g3, x3), (n4, g4, x4), (n5, g5, x5), (n6, g6, x6), (n7, g7, x7), (n8, g8, x8), (n9, g9, x9), (n10, g10, x10), (n11, g11, x11)] = [(n1, g1, x1), (n2, g2, x2), (c.nm, c.ar, x3 ++ [((a.length : Int), firstK c)]), (n4, g4, x4), (n5, g5, x5), (n6, g6, x6), (n7, g7, x7), (n8, g8, x8), (n9, g9, x9), (n10, g10, x10), (n11, g11, x11)] := by simp only [insT, h1, h2, h3, Bool.false_eq_true, if_false, if_true]
    rw [ei] at hk
    refine ⟨Nat.le_refl _, ⟨ER_len x3, by unfold roomB; have : x3.length ≤ 12 := q3; omega⟩, ?_⟩
    have et := ER_take x3 ((a.length : Int), firstK c)
    rw [show (List.take x3.length (ER x3) ++ [[FV.int .i64 (a.length : Int), .bool (firstK c).any, .int .i64 (firstK c).k, .str (firstK c).nm, .int .i64 (firstK c).n, .int .i64 (firstK c).ar]]) = ER (x3 ++ [((a.length : Int), firstK c)]) from et, ← len1 x3 ((a.length : Int), firstK c)]
    exact hk
  refine br_of (fun h4 => ?_) (fun h4 => ?_)
  · have ei : insT (c.nm, c.ar) ((a.length : Int), firstK c) [(n1, g1, x1), (n2, g2, x2), (n3, g3, x3), (n4, g4, x4), (n5, g5, x5), (n6, g6, x6), (n7, g7, x7), (n8, g8, x8), (n9, g9, x9), (n10, g10, x10), (n11, g11, x11)] = [(n1, g1, x1), (n2, g2, x2), (n3, g3, x3), (c.nm, c.ar, x4 ++ [((a.length : Int), firstK c)]), (n5, g5, x5), (n6, g6, x6), (n7, g7, x7), (n8, g8, x8), (n9, g9, x9), (n10, g10, x10), (n11, g11, x11)] := by simp only [insT, h1, h2, h3, h4, Bool.false_eq_true, if_false, if_true]
    rw [ei] at hk
    refine ⟨Nat.le_refl _, ⟨ER_len x4, by unfold roomB; have : x4.length ≤ 12 := q4; omega⟩, ?_⟩
    have et := ER_take x4 ((a.length : Int), firstK c)
    rw [show (List.take x4.length (ER x4) ++ [[FV.int .i64 (a.length : Int), .bool (firstK c).any, .int .i64 (firstK c).k, .str (firstK c).nm, .int .i64 (firstK c).n, .int .i64 (firstK c).ar]]) = ER (x4 ++ [((a.length : Int), firstK c)]) from et, ← len1 x4 ((a.length : Int), firstK c)]
    exact hk
  refine br_of (fun h5 => ?_) (fun h5 => ?_)
  · have ei : insT (c.nm, c.ar) ((a.length : Int), firstK c) [(n1, g1, x1), (n2, g2, x2), (n3, g3, x3), (n4, g4, x4), (n5, g5, x5), (n6, g6, x6), (n7, g7, x7), (n8, g8, x8), (n9, g9, x9), (n10, g10, x10), (n11, g11, x11)] = [(n1, g1, x1), (n2, g2, x2), (n3, g3, x3), (n4, g4, x4), (c.nm, c.ar, x5 ++ [((a.length : Int), firstK c)]), (n6, g6, x6), (n7, g7, x7), (n8, g8, x8), (n9, g9, x9), (n10, g10, x10), (n11, g11, x11)] := by simp only [insT, h1, h2, h3, h4, h5, Bool.false_eq_true, if_false, if_true]
    rw [ei] at hk
    refine ⟨Nat.le_refl _, ⟨ER_len x5, by unfold roomB; have : x5.length ≤ 12 := q5; omega⟩, ?_⟩
    have et := ER_take x5 ((a.length : Int), firstK c)
    rw [show (List.take x5.length (ER x5) ++ [[FV.int .i64 (a.length : Int), .bool (firstK c).any, .int .i64 (firstK c).k, .str (firstK c).nm, .int .i64 (firstK c).n, .int .i64 (firstK c).ar]]) = ER (x5 ++ [((a.length : Int), firstK c)]) from et, ← len1 x5 ((a.length : Int), firstK c)]
    exact hk
  refine br_of (fun h6 => ?_) (fun h6 => ?_)
  · have ei : insT (c.nm, c.ar) ((a.length : Int), firstK c) [(n1, g1, x1), (n2, g2, x2), (n3, g3, x3), (n4, g4, x4), (n5, g5, x5), (n6, g6, x6), (n7, g7, x7), (n8, g8, x8), (n9, g9, x9), (n10, g10, x10), (n11, g11, x11)] = [(n1, g1, x1), (n2, g2, x2), (n3, g3, x3), (n4, g4, x4), (n5, g5, x5), (c.nm, c.ar, x6 ++ [((a.length : Int), firstK c)]), (n7, g7, x7), (n8, g8, x8), (n9, g9, x9), (n10, g10, x10), (n11, g11, x11)] := by simp only [insT, h1, h2, h3, h4, h5, h6, Bool.false_eq_true, if_false, if_true]
    rw [ei] at hk
    refine ⟨Nat.le_refl _, ⟨ER_len x6, by unfold roomB; have : x6.length ≤ 12 := q6; omega⟩, ?_⟩
    have et := ER_take x6 ((a.length : Int), firstK c)
    rw [show (List.take x6.length (ER x6) ++ [[FV.int .i64 (a.length : Int), .bool (firstK c).any, .int .i64 (firstK c).k, .str (firstK c).nm, .int .i64 (firstK c).n, .int .i64 (firstK c).ar]]) = ER (x6 ++ [((a.length : Int), firstK c)]) from et, ← len1 x6 ((a.length : Int), firstK c)]
    exact hk
  refine br_of (fun h7 => ?_) (fun h7 => ?_)
  · have ei : insT (c.nm, c.ar) ((a.length : Int), firstK c) [(n1, g1, x1), (n2, g2, x2), (n3, g3, x3), (n4, g4, x4), (n5, g5, x5), (n6, g6, x6), (n7, g7, x7), (n8, g8, x8), (n9, g9, x9), (n10, g10, x10), (n11, g11, x11)] = [(n1, g1, x1), (n2, g2, x2), (n3, g3, x3), (n4, g4, x4), (n5, g5, x5), (n6, g6, x6), (c.nm, c.ar, x7 ++ [((a.length : Int), firstK c)]), (n8, g8, x8), (n9, g9, x9), (n10, g10, x10), (n11, g11, x11)] := by simp only [insT, h1, h2, h3, h4, h5, h6, h7, Bool.false_eq_true, if_false, if_true]
    rw [ei] at hk
    refine ⟨Nat.le_refl _, ⟨ER_len x7, by unfold roomB; have : x7.length ≤ 12 := q7; omega⟩, ?_⟩
    have et := ER_take x7 ((a.length : Int), firstK c)
    rw [show (List.take x7.length (ER x7) ++ [[FV.int .i64 (a.length : Int), .bool (firstK c).any, .int .i64 (firstK c).k, .str (firstK c).nm, .int .i64 (firstK c).n, .int .i64 (firstK c).ar]]) = ER (x7 ++ [((a.length : Int), firstK c)]) from et, ← len1 x7 ((a.length : Int), firstK c)]
    exact hk
  refine br_of (fun h8 => ?_) (fun h8 => ?_)
  · have ei : insT (c.nm, c.ar) ((a.length : Int), firstK c) [(n1, g1, x1), (n2, g2, x2), (n3, g3, x3), (n4, g4, x4), (n5, g5, x5), (n6, g6, x6), (n7, g7, x7), (n8, g8, x8), (n9, g9, x9), (n10, g10, x10), (n11, g11, x11)] = [(n1, g1, x1), (n2, g2, x2), (n3, g3, x3), (n4, g4, x4), (n5, g5, x5), (n6, g6, x6), (n7, g7, x7), (c.nm, c.ar, x8 ++ [((a.length : Int), firstK c)]), (n9, g9, x9), (n10, g10, x10), (n11, g11, x11)] := by simp only [insT, h1, h2, h3, h4, h5, h6, h7, h8, Bool.false_eq_true, if_false, if_true]
    rw [ei] at hk
    refine ⟨Nat.le_refl _, ⟨ER_len x8, by unfold roomB; have : x8.length ≤ 12 := q8; omega⟩, ?_⟩
    have et := ER_take x8 ((a.length : Int), firstK c)
    rw [show (List.take x8.length (ER x8) ++ [[FV.int .i64 (a.length : Int), .bool (firstK c).any, .int .i64 (firstK c).k, .str (firstK c).nm, .int .i64 (firstK c).n, .int .i64 (firstK c).ar]]) = ER (x8 ++ [((a.length : Int), firstK c)]) from et, ← len1 x8 ((a.length : Int), firstK c)]
    exact hk
  refine br_of (fun h9 => ?_) (fun h9 => ?_)
  · have ei : insT (c.nm, c.ar) ((a.length : Int), firstK c) [(n1, g1, x1), (n2, g2, x2), (n3, g3, x3), (n4, g4, x4), (n5, g5, x5), (n6, g6, x6), (n7, g7, x7), (n8, g8, x8), (n9, g9, x9), (n10, g10, x10), (n11, g11, x11)] = [(n1, g1, x1), (n2, g2, x2), (n3, g3, x3), (n4, g4, x4), (n5, g5, x5), (n6, g6, x6), (n7, g7, x7), (n8, g8, x8), (c.nm, c.ar, x9 ++ [((a.length : Int), firstK c)]), (n10, g10, x10), (n11, g11, x11)] := by simp only [insT, h1, h2, h3, h4, h5, h6, h7, h8, h9, Bool.false_eq_true, if_false, if_true]
    rw [ei] at hk
    refine ⟨Nat.le_refl _, ⟨ER_len x9, by unfold roomB; have : x9.length ≤ 12 := q9; omega⟩, ?_⟩
    have et := ER_take x9 ((a.length : Int), firstK c)
    rw [show (List.take x9.length (ER x9) ++ [[FV.int .i64 (a.length : Int), .bool (firstK c).any, .int .i64 (firstK c).k, .str (firstK c).nm, .int .i64 (firstK c).n, .int .i64 (firstK c).ar]]) = ER (x9 ++ [((a.length : Int), firstK c)]) from et, ← len1 x9 ((a.length : Int), firstK c)]
    exact hk
  refine br_of (fun h10 => ?_) (fun h10 => ?_)
  · have ei : insT (c.nm, c.ar) ((a.length : Int), firstK c) [(n1, g1, x1), (n2, g2, x2), (n3, g3, x3), (n4, g4, x4), (n5, g5, x5), (n6, g6, x6), (n7, g7, x7), (n8, g8, x8), (n9, g9, x9), (n10, g10, x10), (n11, g11, x11)] = [(n1, g1, x1), (n2, g2, x2), (n3, g3, x3), (n4, g4, x4), (n5, g5, x5), (n6, g6, x6), (n7, g7, x7), (n8, g8, x8), (n9, g9, x9), (c.nm, c.ar, x10 ++ [((a.length : Int), firstK c)]), (n11, g11, x11)] := by simp only [insT, h1, h2, h3, h4, h5, h6, h7, h8, h9, h10, Bool.false_eq_true, if_false, if_true]
    rw [ei] at hk
    refine ⟨Nat.le_refl _, ⟨ER_len x10, by unfold roomB; have : x10.length ≤ 12 := q10; omega⟩, ?_⟩
    have et := ER_take x10 ((a.length : Int), firstK c)
    rw [show (List.take x10.length (ER x10) ++ [[FV.int .i64 (a.length : Int), .bool (firstK c).any, .int .i64 (firstK c).k, .str (firstK c).nm, .int .i64 (firstK c).n, .int .i64 (firstK c).ar]]) = ER (x10 ++ [((a.length : Int), firstK c)]) from et, ← len1 x10 ((a.length : Int), firstK c)]
    exact hk
  refine br_of (fun h11 => ?_) (fun h11 => ?_)
  · have ei : insT (c.nm, c.ar) ((a.length : Int), firstK c) [(n1, g1, x1), (n2, g2, x2), (n3, g3, x3), (n4, g4, x4), (n5, g5, x5), (n6, g6, x6), (n7, g7, x7), (n8, g8, x8), (n9, g9, x9), (n10, g10, x10), (n11, g11, x11)] = [(n1, g1, x1), (n2, g2, x2), (n3, g3, x3), (n4, g4, x4), (n5, g5, x5), (n6, g6, x6), (n7, g7, x7), (n8, g8, x8), (n9, g9, x9), (n10, g10, x10), (c.nm, c.ar, x11 ++ [((a.length : Int), firstK c)])] := by simp only [insT, h1, h2, h3, h4, h5, h6, h7, h8, h9, h10, h11, Bool.false_eq_true, if_false, if_true]
    rw [ei] at hk
    refine ⟨Nat.le_refl _, ⟨ER_len x11, by unfold roomB; have : x11.length ≤ 12 := q11; omega⟩, ?_⟩
    have et := ER_take x11 ((a.length : Int), firstK c)
    rw [show (List.take x11.length (ER x11) ++ [[FV.int .i64 (a.length : Int), .bool (firstK c).any, .int .i64 (firstK c).k, .str (firstK c).nm, .int .i64 (firstK c).n, .int .i64 (firstK c).ar]]) = ER (x11 ++ [((a.length : Int), firstK c)]) from et, ← len1 x11 ((a.length : Int), firstK c)]
    exact hk
  have ei : insT (c.nm, c.ar) ((a.length : Int), firstK c) [(n1, g1, x1), (n2, g2, x2), (n3, g3, x3), (n4, g4, x4), (n5, g5, x5), (n6, g6, x6), (n7, g7, x7), (n8, g8, x8), (n9, g9, x9), (n10, g10, x10), (n11, g11, x11)] = [(n1, g1, x1), (n2, g2, x2), (n3, g3, x3), (n4, g4, x4), (n5, g5, x5), (n6, g6, x6), (n7, g7, x7), (n8, g8, x8), (n9, g9, x9), (n10, g10, x10), (n11, g11, x11), (c.nm, c.ar, [((a.length : Int), firstK c)])] := by simp only [insT, h1, h2, h3, h4, h5, h6, h7, h8, h9, h10, h11, Bool.false_eq_true, if_false, if_true]
  rw [ei] at hk
  exact ⟨Nat.le_refl _, by unfold roomB; omega, hk⟩
theorem exitN_12 (l : List Cd) (e1 : Ent) (e2 : Ent) (e3 : Ent) (e4 : Ent) (e5 : Ent) (e6 : Ent) (e7 : Ent) (e8 : Ent) (e9 : Ent) (e10 : Ent) (e11 : Ent) (e12 : Ent) : RPt Try.prog 19 0 (.c (.a (.ep 0 1 0 0))) (outN [e1, e2, e3, e4, e5, e6, e7, e8, e9, e10, e11, e12]) 1 (stN l [e1, e2, e3, e4, e5, e6, e7, e8, e9, e10, e11, e12] (((FCs l).length : Nat) : Int)) := by
  obtain ⟨n1, g1, x1⟩ := e1
  obtain ⟨n2, g2, x2⟩ := e2
  obtain ⟨n3, g3, x3⟩ := e3
  obtain ⟨n4, g4, x4⟩ := e4
  obtain ⟨n5, g5, x5⟩ := e5
  obtain ⟨n6, g6, x6⟩ := e6
  obtain ⟨n7, g7, x7⟩ := e7
  obtain ⟨n8, g8, x8⟩ := e8
  obtain ⟨n9, g9, x9⟩ := e9
  obtain ⟨n10, g10, x10⟩ := e10
  obtain ⟨n11, g11, x11⟩ := e11
  obtain ⟨n12, g12, x12⟩ := e12
  refine RPt.vc hP sh lv19 (Eq.mpr (v19_1m (FCs l) (((FCs l).length : Nat) : Int) (((FCs l).length : Nat) : Int) n1 g1 x1.length n2 g2 x2.length n3 g3 x3.length n4 g4 x4.length n5 g5 x5.length n6 g6 x6.length n7 g7 x7.length n8 g8 x8.length n9 g9 x9.length n10 g10 x10.length n11 g11 x11.length n12 g12 x12.length (ER x1) (ER x2) (ER x3) (ER x4) (ER x5) (ER x6) (ER x7) (ER x8) (ER x9) (ER x10) (ER x11) (ER x12) _ _) ?_)
  exact br_of (fun h => absurd (of_decide_eq_true h) (Int.lt_irrefl _)) (fun _ => ⟨.refl _, rfl⟩)
theorem exitN (l : List Cd) : ∀ E : List Ent, E.length ≤ 12 → RPt Try.prog 19 0 (.c (.a (.ep 0 1 0 0))) (outN E) 1 (stN l E (((FCs l).length : Nat) : Int))
  | [], _ => exitN_0 l 
  | [e1], _ => exitN_1 l e1
  | [e1, e2], _ => exitN_2 l e1 e2
  | [e1, e2, e3], _ => exitN_3 l e1 e2 e3
  | [e1, e2, e3, e4], _ => exitN_4 l e1 e2 e3 e4
  | [e1, e2, e3, e4, e5], _ => exitN_5 l e1 e2 e3 e4 e5
  | [e1, e2, e3, e4, e5, e6], _ => exitN_6 l e1 e2 e3 e4 e5 e6
  | [e1, e2, e3, e4, e5, e6, e7], _ => exitN_7 l e1 e2 e3 e4 e5 e6 e7
  | [e1, e2, e3, e4, e5, e6, e7, e8], _ => exitN_8 l e1 e2 e3 e4 e5 e6 e7 e8
  | [e1, e2, e3, e4, e5, e6, e7, e8, e9], _ => exitN_9 l e1 e2 e3 e4 e5 e6 e7 e8 e9
  | [e1, e2, e3, e4, e5, e6, e7, e8, e9, e10], _ => exitN_10 l e1 e2 e3 e4 e5 e6 e7 e8 e9 e10
  | [e1, e2, e3, e4, e5, e6, e7, e8, e9, e10, e11], _ => exitN_11 l e1 e2 e3 e4 e5 e6 e7 e8 e9 e10 e11
  | [e1, e2, e3, e4, e5, e6, e7, e8, e9, e10, e11, e12], _ => exitN_12 l e1 e2 e3 e4 e5 e6 e7 e8 e9 e10 e11 e12
  | _ :: _ :: _ :: _ :: _ :: _ :: _ :: _ :: _ :: _ :: _ :: _ :: _ :: _, h => absurd h (by simp only [List.length_cons]; omega)
theorem stepN (l a b : List Cd) (c : Cd) (hl : l = a ++ c :: b) (hB : l.length ≤ 12) (hz : c.sz ≤ B) (r : TV) (Hs : List AObj) : ∀ E : List Ent, E.length ≤ 11 → (∀ e ∈ E, e.2.2.length ≤ 12) → RPt Try.prog 19 0 r Hs 1 (stN l (insT (c.nm, c.ar) (a.length, firstK c) E) ((a.length : Int) + 1)) → RPt Try.prog 19 0 r Hs 1 (stN l E a.length)
  | [], _, hL, hk => stepN_0 l a b c hl hB hz  hL r Hs hk
  | [e1], _, hL, hk => stepN_1 l a b c hl hB hz e1 hL r Hs hk
  | [e1, e2], _, hL, hk => stepN_2 l a b c hl hB hz e1 e2 hL r Hs hk
  | [e1, e2, e3], _, hL, hk => stepN_3 l a b c hl hB hz e1 e2 e3 hL r Hs hk
  | [e1, e2, e3, e4], _, hL, hk => stepN_4 l a b c hl hB hz e1 e2 e3 e4 hL r Hs hk
  | [e1, e2, e3, e4, e5], _, hL, hk => stepN_5 l a b c hl hB hz e1 e2 e3 e4 e5 hL r Hs hk
  | [e1, e2, e3, e4, e5, e6], _, hL, hk => stepN_6 l a b c hl hB hz e1 e2 e3 e4 e5 e6 hL r Hs hk
  | [e1, e2, e3, e4, e5, e6, e7], _, hL, hk => stepN_7 l a b c hl hB hz e1 e2 e3 e4 e5 e6 e7 hL r Hs hk
  | [e1, e2, e3, e4, e5, e6, e7, e8], _, hL, hk => stepN_8 l a b c hl hB hz e1 e2 e3 e4 e5 e6 e7 e8 hL r Hs hk
  | [e1, e2, e3, e4, e5, e6, e7, e8, e9], _, hL, hk => stepN_9 l a b c hl hB hz e1 e2 e3 e4 e5 e6 e7 e8 e9 hL r Hs hk
  | [e1, e2, e3, e4, e5, e6, e7, e8, e9, e10], _, hL, hk => stepN_10 l a b c hl hB hz e1 e2 e3 e4 e5 e6 e7 e8 e9 e10 hL r Hs hk
  | [e1, e2, e3, e4, e5, e6, e7, e8, e9, e10, e11], _, hL, hk => stepN_11 l a b c hl hB hz e1 e2 e3 e4 e5 e6 e7 e8 e9 e10 e11 hL r Hs hk
  | _ :: _ :: _ :: _ :: _ :: _ :: _ :: _ :: _ :: _ :: _ :: _ :: _, h, _, _ => absurd h (by simp only [List.length_cons]; omega)

end Go.AM

namespace Go.AM
theorem AC.freeze {P : Program} {f : FuncId} {args : List TV} {es : List MapE} {rows : List AObj} {zs : List MapZ} (h : AC P f args [] (.c (.a (.ep 0 1 0 0))) (.arr 1 [[.a (.mp 1)]] :: .mapo es :: rows)) (hlen : zs.length = es.length)
    (hz : ∀ (i : Nat) (e : MapE) (z : MapZ), es[i]? = some e → zs[i]? = some z → e.1 = z.1 ∧ ∃ (n len : Nat) (fs : List (List FV)), e.2 = (false, [.a (.osl (2 + i) n 0 len)]) ∧ rows[i]? = some (.arz n fs) ∧ len ≤ fs.length ∧ z.2 = (false, [.sl false n (fs.take len)])) :
    AC P f args [] (.c (.a (.ep 0 1 0 0))) [.arr 1 [[.a (.mp 1)]], .mapz zs] := by
  refine ⟨h.1, Nat.zero_le _, fun w vals β Y h1 h2 hgl h3 h4 => ?_⟩
  refine (h.2.2 w vals β Y h1 h2 hgl h3 h4).mono fun e w' ⟨v, β', k1, k2, k3, k4, k5, k6, k7⟩ => ?_
  have hβ : ∀ o b, (if o < 2 then β' o else none) = some b → o < 2 ∧ β' o = some b := by
    intro o b hb
    split at hb
    · rename_i q; exact ⟨q, hb⟩
    · cases hb
  have l0 : isLive ((AObj.arr 1 [[.a (.mp 1)]] :: .mapo es :: rows).getD 0 .gone) := trivial
  have l1 : isLive ((AObj.arr 1 [[.a (.mp 1)]] :: .mapo es :: rows).getD 1 .gone) := trivial
  have hX : ∀ b, (Y b ∨ Own (fun o => [AObj.arr 1 [[.a (.mp 1)]], .mapz zs].getD o .gone) (fun o => if o < 2 then β' o else none) b) → Y b ∨ Own (fun o => (AObj.arr 1 [[.a (.mp 1)]] :: .mapo es :: rows).getD o .gone) β' b := by
    intro b hb
    rcases hb with hb | ⟨o, _, ho⟩
    · exact .inl hb
    · obtain ⟨q, ho⟩ := hβ o b ho
      match o, q, ho with
      | 0, _, ho => exact .inr ⟨0, l0, ho⟩
      | 1, _, ho => exact .inr ⟨1, l1, ho⟩
  have mono : ∀ {x : FV} {u : Value}, FRep w' (fun b => Y b ∨ Own (fun o => (AObj.arr 1 [[.a (.mp 1)]] :: .mapo es :: rows).getD o .gone) β' b) x u → FRep w' (fun b => Y b ∨ Own (fun o => [AObj.arr 1 [[.a (.mp 1)]], .mapz zs].getD o .gone) (fun o => if o < 2 then β' o else none) b) x u :=
    fun hr => hr.mono (Nat.le_refl _) fun b hb _ => ⟨rfl, fun hb' => hb (hX b hb')⟩
  refine ⟨v, fun o => if o < 2 then β' o else none, k1, ⟨k2.size, fun b hb hno => k2.blk b hb hno, k2.shp, k2.os, k2.tape, k2.output⟩, ⟨fun o b hl hb => ?_, fun o hl => ?_, fun o o' b hl hl' hb hb' => ?_, fun o b hb => k3.lt o b (hβ o b hb).2⟩, ?_, fun o b hb => (hβ o b hb).1, fun o ho => absurd ho (Nat.not_lt_zero _), fun o b _ hb => ?_⟩
  · obtain ⟨q, hb⟩ := hβ o b hb
    match o, q, hb with
    | 0, _, hb =>
      have hr := k3.rep 0 b l0 hb
      obtain ⟨us, t, g1, g2, g3, g4⟩ := hr
      refine ⟨us, t, g1, g2, g3, fun i j e c he hc => ?_⟩
      obtain ⟨u, hu, hr⟩ := g4 i j e c he hc
      refine ⟨u, hu, ?_⟩
      have hc : c = .a (.mp 1) := by
        cases i with
        | zero => simp at he; subst he; cases j with
          | zero => simp at hc; exact hc.symm
          | succ j => simp at hc
        | succ i => simp at he
      subst hc
      cases hr with
      | a _ _ hr => cases hr with
        | mp _ b1 hb1 => exact .a _ _ (.mp _ _ hb1)
    | 1, _, hb =>
      have hr := k3.rep 1 b l1 hb
      obtain ⟨ms, ck, g1, g2, g3, g4, g5⟩ := hr
      refine ⟨ms, ck, g1, by rw [g2, List.length_map, hlen], fun i e m he hm => ?_, g4, g5⟩
      rw [List.getElem?_map] at he
      obtain ⟨z, hzi, rfl⟩ := Option.map_eq_some_iff.1 he
      have hi : i < es.length := by rw [← hlen]; exact (List.getElem?_eq_some_iff.1 hzi).1
      have hei := List.getElem?_eq_getElem hi
      obtain ⟨e1, n, len, fs, e2, e3, e4, e5⟩ := hz i _ z hei hzi
      obtain ⟨p1, p2⟩ := g3 i _ m hei hm
      refine ⟨?_, ?_⟩
      · show PRep _ z.1 m.key
        rw [← e1]
        exact p1.imp fun c u _ hr => mono hr
      · show PRep _ (z.2.1, fzs z.2.2) m.val
        rw [e5]
        rw [e2] at p2
        obtain ⟨us, hus, p3, _⟩ := p2
        have hul := p3.1
        match us, hul with
        | [u], _ =>
        have hu := p3.2 0 _ u rfl rfl
        refine ⟨[u], hus, ⟨rfl, fun j c v hc hv => ?_⟩, fun _ => rfl⟩
        cases j with
        | succ j => simp [fzs] at hc
        | zero =>
          simp [fzs] at hc hv
          subst hc; subst hv
          refine .a _ _ (.fz _ _ ?_)
          cases hu with
          | a _ _ hu =>
            cases hu with
            | oslN => simpa using FRep.slnil n
            | osl _ _ _ _ b2 q2 cap sz t hb2 hs hlc hcs hq =>
              by_cases hc0 : cap = 0
              · have : len = 0 := by omega
                subst hc0; subst this
                simpa using FRep.sl0 false n _
              · have hq : q2 = 0 := by
                  rcases hq with hq | hq
                  · simpa using hq
                  · exact absurd hq hc0
                subst hq
                have hget : (AObj.arr 1 [[.a (.mp 1)]] :: .mapo es :: rows).getD (2 + i) .gone = .arz n fs := by
                  rw [show 2 + i = i + 1 + 1 by omega, List.getD_cons_succ, List.getD_cons_succ, List.getD, e3]; rfl
                have hl2 : isLive ((AObj.arr 1 [[.a (.mp 1)]] :: .mapo es :: rows).getD (2 + i) .gone) := by rw [hget]; trivial
                have hr := k3.rep (2 + i) b2 hl2 hb2
                simp only [hget] at hr
                obtain ⟨us2, t2, r1, r2, r3, r4⟩ := hr
                have hny : ¬ (Y b2 ∨ Own (fun o => [AObj.arr 1 [[.a (.mp 1)]], .mapz zs].getD o .gone) (fun o => if o < 2 then β' o else none) b2) := by
                  intro hb'
                  rcases hb' with hb' | ⟨o, _, ho⟩
                  · exact (k3.here hl2 hb2).2 hb'
                  · obtain ⟨q, ho⟩ := hβ o b2 ho
                    match o, q, ho with
                    | 0, _, ho => have := k3.inj 0 (2 + i) b2 l0 hl2 ho hb2; omega
                    | 1, _, ho => have := k3.inj 1 (2 + i) b2 l1 hl2 ho hb2; omega
                have key : ∀ (a j : Nat) (e : List FV) (f : FV), (fs.take len)[a]? = some e → e[j]? = some f → ∃ u, us2[a * n + j]? = some u ∧ FRep w' (fun b => Y b ∨ Own (fun o => (AObj.arr 1 [[.a (.mp 1)]] :: .mapo es :: rows).getD o .gone) β' b) f u := by
                  intro a j e f he hf
                  have he : fs[a]? = some e := by
                    rw [List.getElem?_take] at he
                    split at he
                    · exact he
                    · cases he
                  obtain ⟨u, hu, hr⟩ := r4 a j (fzs e) (cell f) (by rw [List.getElem?_map, he]; rfl) (by rw [fzs, List.getElem?_map, hf]; rfl)
                  refine ⟨u, hu, ?_⟩
                  cases hr with
                  | a _ _ hr => cases hr with
                    | fz _ _ hr => exact hr
                refine FRep.sl false n (fs.take len) b2 0 cap len (fun a j => us2.getD (a * n + j) (.bool false)) (by rw [List.length_take]; omega) (by rw [List.length_take]; omega) hny (k3.lt _ _ hb2) (fun a e he => ?_) (fun a j e f he hf => ?_) (fun a j e f he hf => ?_)
                · have he : fs[a]? = some e := by
                    rw [List.getElem?_take] at he
                    split at he
                    · exact he
                    · cases he
                  have := r3 (fzs e) (List.mem_map.2 ⟨e, List.mem_of_getElem? he, rfl⟩)
                  simpa [fzs] using this
                · obtain ⟨u, hu, _⟩ := key a j e f he hf
                  simp only [World.cell?, r1, Nat.zero_add]
                  simp [List.getD, hu]
                · obtain ⟨u, hu, hr⟩ := key a j e f he hf
                  simp only [List.getD, hu, Option.getD_some]
                  exact mono hr
  · match o, hl with
    | 0, _ =>
      rcases k3.has 0 l0 with ⟨b, p1, p2, p3⟩ | ⟨p1, p2⟩
      · exact .inl ⟨b, by simpa using p1, p2, p3⟩
      · exfalso; obtain ⟨n, hn⟩ := p1; simp [flat] at hn
    | 1, _ =>
      rcases k3.has 1 l1 with ⟨b, p1, p2, p3⟩ | ⟨p1, p2⟩
      · exact .inl ⟨b, by simpa using p1, p2, p3⟩
      · exfalso; obtain ⟨n, hn⟩ := p1; simp [flat] at hn
    | o + 2, hl => simp [isLive] at hl
  · obtain ⟨q, hb⟩ := hβ o b hb
    obtain ⟨q', hb'⟩ := hβ o' b hb'
    have live : ∀ o, o < 2 → isLive ((AObj.arr 1 [[.a (.mp 1)]] :: .mapo es :: rows).getD o .gone) := fun o q => by
      match o, q with
      | 0, _ => exact l0
      | 1, _ => exact l1
    exact k3.inj o o' b (live o q) (live o' q') hb hb'
  · have k4 : WRep w' _ β' (.a (.ep 0 1 0 0)) v := k4
    cases k4 with
    | a _ _ k4 => cases k4 with
      | ep _ _ _ _ b hb => exact .a _ _ (.ep _ _ _ _ _ (by simpa using hb))
  · obtain ⟨_, hb⟩ := hβ o b hb
    exact k7 o b (Nat.zero_le _) hb
end Go.AM
