/- A calculus of plain values for the model's code, what the code of each function asks (computed by the kernel), contracts of the functions, and plain laws (part 5). No conditions. -/
import Derived.Test.YtmeolnpbbhinjaaGreatDoorPart4
import Derived.Test.YtmeolnpbbhinjaaGreatDoorShelf
import Derived.Test.YtmeolnpbbhinjaaGreatDoorPart3
set_option maxRecDepth 100000
open Go Go.Proofs
namespace Go.AM
def lv30 : List (Nat × List Nat) := []
theorem v30 (s : List UInt8) (r : TV) (Hs' : List AObj) : vcE Tryz.prog sh lv30 30 [(.c (.a (.fz (.str s))))] [] (fun r0 Hs0 => TV.Le r0 r ∧ Hs0 = Hs') (RPt Tryz.prog 30 0 r Hs') =
  (br (!((s : List UInt8) == [])) (TV.Le (.c (.a (.fz (.bool (decide (((((List.length s) : Nat) : Int) : Int) ≤ (32 : Int))))))) r ∧ [] = Hs') (TV.Le (.c (.a (.fz (.bool false)))) r ∧ [] = Hs')) := by kernel_rfl
def lv31 : List (Nat × List Nat) := []
theorem v31 (c : Int) (r : TV) (Hs' : List AObj) : vcE Tryz.prog sh lv31 31 [(.c (.a (.fz (.int .u8 c))))] [] (fun r0 Hs0 => TV.Le r0 r ∧ Hs0 = Hs') (RPt Tryz.prog 31 0 r Hs') =
  (br (decide (((97 : Int) : Int) ≤ c)) (TV.Le (.c (.a (.fz (.bool (decide ((c : Int) ≤ (122 : Int))))))) r ∧ [] = Hs') (TV.Le (.c (.a (.fz (.bool false)))) r ∧ [] = Hs')) := by kernel_rfl
def lv32 : List (Nat × List Nat) := [(1, [0, 1, 7, 8])]
theorem v32_F33 (s : List UInt8) (r : TV) (Hs' : List AObj) : vcE Tryz.prog sh lv32 32 [(.c (.a (.fz (.str s)))), (.c (.fn (.func 33) [] []))] [] (fun r0 Hs0 => TV.Le r0 r ∧ Hs0 = Hs') (RPt Tryz.prog 32 0 r Hs') =
  (RPt Tryz.prog 32 0 r Hs' 1 ⟨[(0, (.c (.a (.fz (.str s))))), (1, (.c (.fn (.func 33) [] []))), (7, (.c (.a (.fz (.int .i64 (((List.length s) : Nat) : Int)))))), (8, (.c (.a (.fz (.int .i64 (0 : Int))))))], [], 0⟩) := by kernel_rfl
theorem z8v (x0 : List UInt8) (x7 : Int) (x8 : Int) (r : TV) (Hs' : List AObj) : vcP Tryz.prog sh lv32 32 0 (fun r0 Hs0 => TV.Le r0 r ∧ Hs0 = Hs') (RPt Tryz.prog 32 0 r Hs') 1 ⟨[(0, (.c (.a (.fz (.str x0))))), (1, (.c (.fn (.func 33) [] []))), (7, (.c (.a (.fz (.int .i64 x7))))), (8, (.c (.a (.fz (.int .i64 x8)))))], [], 0⟩ =
  (br (decide ((x8 : Int) < x7)) ((0 ≤ x8 ∧ x8 < (((List.length x0) : Nat) : Int)) ∧ (∃ b1 : Bool, ((AC Tryz.prog 33 [(.c (.a (.fz (.int .u8 ((UInt8.toNat (List.getD x0 (Int.toNat x8) 0) : Nat) : Int)))))] [] (.c (.a (.fz (.bool b1)))) []) ∧ (br (!b1) (TV.Le (.c (.a (.fz (.int .i64 x8)))) r ∧ [] = Hs') (RPt Tryz.prog 32 0 r Hs' 1 ⟨[(0, (.c (.a (.fz (.str x0))))), (1, (.c (.fn (.func 33) [] []))), (7, (.c (.a (.fz (.int .i64 x7))))), (8, (.c (.a (.fz (.int .i64 (IntKind.wrap .i64 (x8 + (1 : Int))))))))], [], 0⟩))))) (TV.Le (.c (.a (.fz (.int .i64 (((List.length x0) : Nat) : Int))))) r ∧ [] = Hs')) := by kernel_rfl
def lv36 : List (Nat × List Nat) := []
theorem v36_F37 (s : List (List FV)) (r : TV) (Hs' : List AObj) : vcE Tryz.prog sh lv36 36 [(.c (.a (.fz (.sl false 1 s)))), (.c (.fn (.func 37) [] []))] [] (fun r0 Hs0 => TV.Le r0 r ∧ Hs0 = Hs') (RPt Tryz.prog 36 0 r Hs') =
  (∃ z1 : Int, ((AC Tryz.prog 63 [(.c (.a (.fz (.sl false 1 s)))), (.c (.fn (.func 37) [] []))] [] (.c (.a (.fz (.int .i64 z1)))) []) ∧ (TV.Le (.c (.a (.fz (.bool (decide ((z1 : Int) ≥ (0 : Int))))))) r ∧ [] = Hs'))) := by kernel_rfl
theorem v32_F34 (s : List UInt8) (r : TV) (Hs' : List AObj) : vcE Tryz.prog sh lv32 32 [(.c (.a (.fz (.str s)))), (.c (.fn (.func 34) [] []))] [] (fun r0 Hs0 => TV.Le r0 r ∧ Hs0 = Hs') (RPt Tryz.prog 32 0 r Hs') =
  (RPt Tryz.prog 32 0 r Hs' 1 ⟨[(0, (.c (.a (.fz (.str s))))), (1, (.c (.fn (.func 34) [] []))), (7, (.c (.a (.fz (.int .i64 (((List.length s) : Nat) : Int)))))), (8, (.c (.a (.fz (.int .i64 (0 : Int))))))], [], 0⟩) := by kernel_rfl
theorem za (x0 : List UInt8) (x7 : Int) (x8 : Int) (r : TV) (Hs' : List AObj) : vcP Tryz.prog sh lv32 32 0 (fun r0 Hs0 => TV.Le r0 r ∧ Hs0 = Hs') (RPt Tryz.prog 32 0 r Hs') 1 ⟨[(0, (.c (.a (.fz (.str x0))))), (1, (.c (.fn (.func 34) [] []))), (7, (.c (.a (.fz (.int .i64 x7))))), (8, (.c (.a (.fz (.int .i64 x8)))))], [], 0⟩ =
  (br (decide ((x8 : Int) < x7)) ((0 ≤ x8 ∧ x8 < (((List.length x0) : Nat) : Int)) ∧ (∃ b1 : Bool, ((AC Tryz.prog 34 [(.c (.a (.fz (.int .u8 ((UInt8.toNat (List.getD x0 (Int.toNat x8) 0) : Nat) : Int)))))] [] (.c (.a (.fz (.bool b1)))) []) ∧ (br (!b1) (TV.Le (.c (.a (.fz (.int .i64 x8)))) r ∧ [] = Hs') (RPt Tryz.prog 32 0 r Hs' 1 ⟨[(0, (.c (.a (.fz (.str x0))))), (1, (.c (.fn (.func 34) [] []))), (7, (.c (.a (.fz (.int .i64 x7))))), (8, (.c (.a (.fz (.int .i64 (IntKind.wrap .i64 (x8 + (1 : Int))))))))], [], 0⟩))))) (TV.Le (.c (.a (.fz (.int .i64 (((List.length x0) : Nat) : Int))))) r ∧ [] = Hs')) := by kernel_rfl
def lv35 : List (Nat × List Nat) := []
theorem v35 (s : List UInt8) (substr : List UInt8) (r : TV) (Hs' : List AObj) : vcE Tryz.prog sh lv35 35 [(.c (.a (.fz (.str s)))), (.c (.a (.fz (.str substr))))] [] (fun r0 Hs0 => TV.Le r0 r ∧ Hs0 = Hs') (RPt Tryz.prog 35 0 r Hs') =
  (∃ n1 : Int, ((AC Tryz.prog 62 [(.c (.a (.fz (.str s)))), (.c (.a (.fz (.str substr))))] [] (.c (.a (.fz (.int .i64 n1)))) []) ∧ (TV.Le (.c (.a (.fz (.bool (decide ((n1 : Int) ≥ (0 : Int))))))) r ∧ [] = Hs'))) := by kernel_rfl
def lv38 : List (Nat × List Nat) := []
theorem v38 (t_0 : Int) (t_1 : List UInt8) (t_2 : Int) (t_3 : List (List FV)) (o0_0 : List UInt8) (o0_1 : Int) (o0_2 : Int) (o0_3 : Int) (o0_4 : Int) (o0_5 : List (List FV)) (r : TV) (Hs' : List AObj) : vcE Tryz.prog sh lv38 38 [(.agg [(.a (.fz (.int .i64 t_0))), (.a (.fz (.str t_1))), (.a (.fz (.int .i64 t_2))), (.a (.fz (.sl false 4 t_3)))]), (.c (.a (.ep 0 6 0 0)))] [(.arr 6 [[(.a (.fz (.str o0_0))), (.a (.fz (.int .i64 o0_1))), (.a (.fz (.int .i64 o0_2))), (.a (.fz (.int .i64 o0_3))), (.a (.fz (.int .i64 o0_4))), (.a (.fz (.sl false 8 o0_5)))]])] (fun r0 Hs0 => TV.Le r0 r ∧ Hs0 = Hs') (RPt Tryz.prog 38 1 r Hs') =
  (∃ b1 : Bool, ((AC Tryz.prog 39 [(.agg [(.a (.fz (.int .i64 t_0))), (.a (.fz (.str t_1))), (.a (.fz (.int .i64 t_2))), (.a (.fz (.sl false 4 t_3)))])] [] (.c (.a (.fz (.bool b1)))) []) ∧ (br (!b1) (TV.Le (.c (.a (.fz (.bool true)))) r ∧ [(.arr 6 [[(.a (.fz (.str o0_0))), (.a (.fz (.int .i64 o0_1))), (.a (.fz (.int .i64 o0_2))), (.a (.fz (.int .i64 o0_3))), (.a (.fz (.int .i64 o0_4))), (.a (.fz (.sl false 8 o0_5)))]])] = Hs') (∃ n2 : Int, ((AC Tryz.prog 40 [(.agg [(.a (.fz (.int .i64 t_0))), (.a (.fz (.str t_1))), (.a (.fz (.int .i64 t_2))), (.a (.fz (.sl false 4 t_3)))])] [] (.c (.a (.fz (.int .i64 n2)))) []) ∧ (br (decide ((n2 : Int) > (0 : Int))) (TV.Le (.c (.a (.fz (.bool true)))) r ∧ [(.arr 6 [[(.a (.fz (.str o0_0))), (.a (.fz (.int .i64 o0_1))), (.a (.fz (.int .i64 o0_2))), (.a (.fz (.int .i64 o0_3))), (.a (.fz (.int .i64 o0_4))), (.a (.fz (.sl false 8 o0_5)))]])] = Hs') (∃ b3 : Bool, ((AC Tryz.prog 41 [(.agg [(.a (.fz (.int .i64 t_0))), (.a (.fz (.str t_1))), (.a (.fz (.int .i64 t_2))), (.a (.fz (.sl false 4 t_3)))]), (.c (.a (.fz (.int .i64 o0_4))))] [] (.c (.a (.fz (.bool b3)))) []) ∧ (TV.Le (.c (.a (.fz (.bool (!b3))))) r ∧ [(.arr 6 [[(.a (.fz (.str o0_0))), (.a (.fz (.int .i64 o0_1))), (.a (.fz (.int .i64 o0_2))), (.a (.fz (.int .i64 o0_3))), (.a (.fz (.int .i64 o0_4))), (.a (.fz (.sl false 8 o0_5)))]])] = Hs'))))))))) := by kernel_rfl
def lv42 : List (Nat × List Nat) := []
theorem v42 (t_0 : Int) (t_1 : List UInt8) (t_2 : Int) (t_3 : List (List FV)) (r : TV) (Hs' : List AObj) : vcE Tryz.prog sh lv42 42 [(.agg [(.a (.fz (.int .i64 t_0))), (.a (.fz (.str t_1))), (.a (.fz (.int .i64 t_2))), (.a (.fz (.sl false 4 t_3)))])] [] (fun r0 Hs0 => TV.Le r0 r ∧ Hs0 = Hs') (RPt Tryz.prog 42 0 r Hs') =
  (∃ b1 : Bool, ((AC Tryz.prog 68 [(.agg [(.a (.fz (.int .i64 t_0))), (.a (.fz (.str t_1))), (.a (.fz (.int .i64 t_2))), (.a (.fz (.sl false 4 t_3)))]), (.agg [(.a (.fz (.int .i64 (0 : Int)))), (.a (.fz (.str []))), (.a (.fz (.int .i64 (0 : Int)))), (.a (.fz .nils))])] [] (.c (.a (.fz (.bool b1)))) []) ∧ (TV.Le (.c (.a (.fz (.bool b1)))) r ∧ [] = Hs'))) := by kernel_rfl
def lv43 : List (Nat × List Nat) := []
theorem v43_F38 (s : List (List FV)) (o0_0 : List UInt8) (o0_1 : Int) (o0_2 : Int) (o0_3 : Int) (o0_4 : Int) (o0_5 : List (List FV)) (r : TV) (Hs' : List AObj) : vcE Tryz.prog sh lv43 43 [(.c (.a (.fz (.sl false 4 s)))), (.c (.fn (.func 38) [] [(false, [(.ep 0 6 0 0)])]))] [(.arr 6 [[(.a (.fz (.str o0_0))), (.a (.fz (.int .i64 o0_1))), (.a (.fz (.int .i64 o0_2))), (.a (.fz (.int .i64 o0_3))), (.a (.fz (.int .i64 o0_4))), (.a (.fz (.sl false 8 o0_5)))]])] (fun r0 Hs0 => TV.Le r0 r ∧ Hs0 = Hs') (RPt Tryz.prog 43 1 r Hs') =
  (∃ z1 : Int, ((AC Tryz.prog 69 [(.c (.a (.fz (.sl false 4 s)))), (.c (.fn (.func 38) [] [(false, [(.ep 0 6 0 0)])]))] [(.arr 6 [[(.a (.fz (.str o0_0))), (.a (.fz (.int .i64 o0_1))), (.a (.fz (.int .i64 o0_2))), (.a (.fz (.int .i64 o0_3))), (.a (.fz (.int .i64 o0_4))), (.a (.fz (.sl false 8 o0_5)))]])] (.c (.a (.fz (.int .i64 z1)))) [(.arr 6 [[(.a (.fz (.str o0_0))), (.a (.fz (.int .i64 o0_1))), (.a (.fz (.int .i64 o0_2))), (.a (.fz (.int .i64 o0_3))), (.a (.fz (.int .i64 o0_4))), (.a (.fz (.sl false 8 o0_5)))]])]) ∧ (TV.Le (.c (.a (.fz (.bool (decide ((z1 : Int) ≥ (0 : Int))))))) r ∧ [(.arr 6 [[(.a (.fz (.str o0_0))), (.a (.fz (.int .i64 o0_1))), (.a (.fz (.int .i64 o0_2))), (.a (.fz (.int .i64 o0_3))), (.a (.fz (.int .i64 o0_4))), (.a (.fz (.sl false 8 o0_5)))]])] = Hs'))) := by kernel_rfl
def lv44 : List (Nat × List Nat) := []
theorem v44 (c_0 : List UInt8) (c_1 : Int) (c_2 : Int) (c_3 : Int) (c_4 : Int) (c_5 : List (List FV)) (a1 : Int) (r : TV) (Hs' : List AObj) : vcE Tryz.prog sh lv44 44 [(.agg [(.a (.fz (.str c_0))), (.a (.fz (.int .i64 c_1))), (.a (.fz (.int .i64 c_2))), (.a (.fz (.int .i64 c_3))), (.a (.fz (.int .i64 c_4))), (.a (.fz (.sl false 8 c_5)))]), (.c (.a (.fz (.int .i64 a1))))] [] (fun r0 Hs0 => TV.Le r0 r ∧ Hs0 = Hs') (RPt Tryz.prog 44 0 r Hs') =
  (((FV.isSl 8 (.sl false 8 c_5) = true) ∧ ((0 ≤ a1) ∧ ((a1 < (((List.length c_5) : Nat) : Int)) ∧ (([(.int .i64 (FV.asI (List.getD (List.getD c_5 (Int.toNat a1) []) 0 FV.nils))), (.int .i64 (FV.asI (List.getD (List.getD c_5 (Int.toNat a1) []) 1 FV.nils))), (.int .i64 (FV.asI (List.getD (List.getD c_5 (Int.toNat a1) []) 2 FV.nils))), (.str (FV.asS (List.getD (List.getD c_5 (Int.toNat a1) []) 3 FV.nils))), (.int .i64 (FV.asI (List.getD (List.getD c_5 (Int.toNat a1) []) 4 FV.nils))), (List.getD (List.getD c_5 (Int.toNat a1) []) 5 FV.nils), (List.getD (List.getD c_5 (Int.toNat a1) []) 6 FV.nils), (List.getD (List.getD c_5 (Int.toNat a1) []) 7 FV.nils)] : List FV) = (List.getD c_5 (Int.toNat a1) []))))) ∧ (br (((FV.asI (List.getD (List.getD c_5 (Int.toNat a1) []) 0 FV.nils)) : Int) == (0 : Int)) (br (decide (((0 : Int) : Int) ≤ (FV.asI (List.getD (List.getD c_5 (Int.toNat a1) []) 1 FV.nils)))) (br (decide (((FV.asI (List.getD (List.getD c_5 (Int.toNat a1) []) 1 FV.nils)) : Int) < c_1)) (br (((FV.asI (List.getD (List.getD c_5 (Int.toNat a1) []) 0 FV.nils)) : Int) == (0 : Int)) (br (decide ((a1 : Int) > (0 : Int))) (((FV.isSl 8 (.sl false 8 c_5) = true) ∧ ((0 ≤ (IntKind.wrap .i64 (a1 - (1 : Int)))) ∧ (((IntKind.wrap .i64 (a1 - (1 : Int))) < (((List.length c_5) : Nat) : Int)) ∧ (([(.int .i64 (FV.asI (List.getD (List.getD c_5 (Int.toNat (IntKind.wrap .i64 (a1 - (1 : Int)))) []) 0 FV.nils))), (.int .i64 (FV.asI (List.getD (List.getD c_5 (Int.toNat (IntKind.wrap .i64 (a1 - (1 : Int)))) []) 1 FV.nils))), (.int .i64 (FV.asI (List.getD (List.getD c_5 (Int.toNat (IntKind.wrap .i64 (a1 - (1 : Int)))) []) 2 FV.nils))), (.str (FV.asS (List.getD (List.getD c_5 (Int.toNat (IntKind.wrap .i64 (a1 - (1 : Int)))) []) 3 FV.nils))), (.int .i64 (FV.asI (List.getD (List.getD c_5 (Int.toNat (IntKind.wrap .i64 (a1 - (1 : Int)))) []) 4 FV.nils))), (List.getD (List.getD c_5 (Int.toNat (IntKind.wrap .i64 (a1 - (1 : Int)))) []) 5 FV.nils), (List.getD (List.getD c_5 (Int.toNat (IntKind.wrap .i64 (a1 - (1 : Int)))) []) 6 FV.nils), (List.getD (List.getD c_5 (Int.toNat (IntKind.wrap .i64 (a1 - (1 : Int)))) []) 7 FV.nils)] : List FV) = (List.getD c_5 (Int.toNat (IntKind.wrap .i64 (a1 - (1 : Int)))) []))))) ∧ (∃ b1 : Bool, ((AC Tryz.prog 70 [(.c (.a (.fz (.int .i64 (FV.asI (List.getD (List.getD c_5 (Int.toNat (IntKind.wrap .i64 (a1 - (1 : Int)))) []) 0 FV.nils))))))] [] (.c (.a (.fz (.bool b1)))) []) ∧ (br b1 (TV.Le (.tup [(true, [(.a (.fz (.bool true))), (.a (.fz (.bool false))), (.a (.fz (.bool false))), (.a (.fz (.bool true)))]), (false, [(.a (.fz (.bool (decide (((FV.asI (List.getD (List.getD c_5 (Int.toNat (IntKind.wrap .i64 (a1 - (1 : Int)))) []) 1 FV.nils)) : Int) < (FV.asI (List.getD (List.getD c_5 (Int.toNat a1) []) 1 FV.nils)))))))])]) r ∧ [] = Hs') (TV.Le (.tup [(true, [(.a (.fz (.bool true))), (.a (.fz (.bool false))), (.a (.fz (.bool false))), (.a (.fz (.bool true)))]), (false, [(.a (.fz (.bool false)))])]) r ∧ [] = Hs'))))) (TV.Le (.tup [(true, [(.a (.fz (.bool true))), (.a (.fz (.bool false))), (.a (.fz (.bool false))), (.a (.fz (.bool true)))]), (false, [(.a (.fz (.bool true)))])]) r ∧ [] = Hs')) (br (((FV.asI (List.getD (List.getD c_5 (Int.toNat a1) []) 2 FV.nils)) : Int) == (0 : Int)) (br (decide ((a1 : Int) > (0 : Int))) (((FV.isSl 8 (.sl false 8 c_5) = true) ∧ ((0 ≤ (IntKind.wrap .i64 (a1 - (1 : Int)))) ∧ (((IntKind.wrap .i64 (a1 - (1 : Int))) < (((List.length c_5) : Nat) : Int)) ∧ (([(.int .i64 (FV.asI (List.getD (List.getD c_5 (Int.toNat (IntKind.wrap .i64 (a1 - (1 : Int)))) []) 0 FV.nils))), (.int .i64 (FV.asI (List.getD (List.getD c_5 (Int.toNat (IntKind.wrap .i64 (a1 - (1 : Int)))) []) 1 FV.nils))), (.int .i64 (FV.asI (List.getD (List.getD c_5 (Int.toNat (IntKind.wrap .i64 (a1 - (1 : Int)))) []) 2 FV.nils))), (.str (FV.asS (List.getD (List.getD c_5 (Int.toNat (IntKind.wrap .i64 (a1 - (1 : Int)))) []) 3 FV.nils))), (.int .i64 (FV.asI (List.getD (List.getD c_5 (Int.toNat (IntKind.wrap .i64 (a1 - (1 : Int)))) []) 4 FV.nils))), (List.getD (List.getD c_5 (Int.toNat (IntKind.wrap .i64 (a1 - (1 : Int)))) []) 5 FV.nils), (List.getD (List.getD c_5 (Int.toNat (IntKind.wrap .i64 (a1 - (1 : Int)))) []) 6 FV.nils), (List.getD (List.getD c_5 (Int.toNat (IntKind.wrap .i64 (a1 - (1 : Int)))) []) 7 FV.nils)] : List FV) = (List.getD c_5 (Int.toNat (IntKind.wrap .i64 (a1 - (1 : Int)))) []))))) ∧ (∃ b2 : Bool, ((AC Tryz.prog 70 [(.c (.a (.fz (.int .i64 (FV.asI (List.getD (List.getD c_5 (Int.toNat (IntKind.wrap .i64 (a1 - (1 : Int)))) []) 0 FV.nils))))))] [] (.c (.a (.fz (.bool b2)))) []) ∧ (br b2 (TV.Le (.tup [(true, [(.a (.fz (.bool true))), (.a (.fz (.bool false))), (.a (.fz (.bool false))), (.a (.fz (.bool true)))]), (false, [(.a (.fz (.bool (decide (((FV.asI (List.getD (List.getD c_5 (Int.toNat (IntKind.wrap .i64 (a1 - (1 : Int)))) []) 1 FV.nils)) : Int) < (FV.asI (List.getD (List.getD c_5 (Int.toNat a1) []) 1 FV.nils)))))))])]) r ∧ [] = Hs') (TV.Le (.tup [(true, [(.a (.fz (.bool true))), (.a (.fz (.bool false))), (.a (.fz (.bool false))), (.a (.fz (.bool true)))]), (false, [(.a (.fz (.bool false)))])]) r ∧ [] = Hs'))))) (TV.Le (.tup [(true, [(.a (.fz (.bool true))), (.a (.fz (.bool false))), (.a (.fz (.bool false))), (.a (.fz (.bool true)))]), (false, [(.a (.fz (.bool true)))])]) r ∧ [] = Hs')) (br (decide ((a1 : Int) > (0 : Int))) (((FV.isSl 8 (.sl false 8 c_5) = true) ∧ ((0 ≤ (IntKind.wrap .i64 (a1 - (1 : Int)))) ∧ (((IntKind.wrap .i64 (a1 - (1 : Int))) < (((List.length c_5) : Nat) : Int)) ∧ (([(.int .i64 (FV.asI (List.getD (List.getD c_5 (Int.toNat (IntKind.wrap .i64 (a1 - (1 : Int)))) []) 0 FV.nils))), (.int .i64 (FV.asI (List.getD (List.getD c_5 (Int.toNat (IntKind.wrap .i64 (a1 - (1 : Int)))) []) 1 FV.nils))), (.int .i64 (FV.asI (List.getD (List.getD c_5 (Int.toNat (IntKind.wrap .i64 (a1 - (1 : Int)))) []) 2 FV.nils))), (.str (FV.asS (List.getD (List.getD c_5 (Int.toNat (IntKind.wrap .i64 (a1 - (1 : Int)))) []) 3 FV.nils))), (.int .i64 (FV.asI (List.getD (List.getD c_5 (Int.toNat (IntKind.wrap .i64 (a1 - (1 : Int)))) []) 4 FV.nils))), (List.getD (List.getD c_5 (Int.toNat (IntKind.wrap .i64 (a1 - (1 : Int)))) []) 5 FV.nils), (List.getD (List.getD c_5 (Int.toNat (IntKind.wrap .i64 (a1 - (1 : Int)))) []) 6 FV.nils), (List.getD (List.getD c_5 (Int.toNat (IntKind.wrap .i64 (a1 - (1 : Int)))) []) 7 FV.nils)] : List FV) = (List.getD c_5 (Int.toNat (IntKind.wrap .i64 (a1 - (1 : Int)))) []))))) ∧ (br (((FV.asI (List.getD (List.getD c_5 (Int.toNat a1) []) 2 FV.nils)) : Int) == (2 : Int)) (∃ b3 : Bool, ((AC Tryz.prog 70 [(.c (.a (.fz (.int .i64 (FV.asI (List.getD (List.getD c_5 (Int.toNat (IntKind.wrap .i64 (a1 - (1 : Int)))) []) 0 FV.nils))))))] [] (.c (.a (.fz (.bool b3)))) []) ∧ (br b3 (TV.Le (.tup [(true, [(.a (.fz (.bool true))), (.a (.fz (.bool false))), (.a (.fz (.bool false))), (.a (.fz (.bool true)))]), (false, [(.a (.fz (.bool (decide (((FV.asI (List.getD (List.getD c_5 (Int.toNat (IntKind.wrap .i64 (a1 - (1 : Int)))) []) 1 FV.nils)) : Int) < (FV.asI (List.getD (List.getD c_5 (Int.toNat a1) []) 1 FV.nils)))))))])]) r ∧ [] = Hs') (TV.Le (.tup [(true, [(.a (.fz (.bool true))), (.a (.fz (.bool false))), (.a (.fz (.bool false))), (.a (.fz (.bool true)))]), (false, [(.a (.fz (.bool false)))])]) r ∧ [] = Hs')))) (TV.Le (.tup [(true, [(.a (.fz (.bool true))), (.a (.fz (.bool false))), (.a (.fz (.bool false))), (.a (.fz (.bool true)))]), (false, [(.a (.fz (.bool false)))])]) r ∧ [] = Hs'))) (TV.Le (.tup [(true, [(.a (.fz (.bool true))), (.a (.fz (.bool false))), (.a (.fz (.bool false))), (.a (.fz (.bool true)))]), (false, [(.a (.fz (.bool (((FV.asI (List.getD (List.getD c_5 (Int.toNat a1) []) 2 FV.nils)) : Int) == (2 : Int)))))])]) r ∧ [] = Hs')))) (br (decide ((a1 : Int) > (0 : Int))) (((FV.isSl 8 (.sl false 8 c_5) = true) ∧ ((0 ≤ (IntKind.wrap .i64 (a1 - (1 : Int)))) ∧ (((IntKind.wrap .i64 (a1 - (1 : Int))) < (((List.length c_5) : Nat) : Int)) ∧ (([(.int .i64 (FV.asI (List.getD (List.getD c_5 (Int.toNat (IntKind.wrap .i64 (a1 - (1 : Int)))) []) 0 FV.nils))), (.int .i64 (FV.asI (List.getD (List.getD c_5 (Int.toNat (IntKind.wrap .i64 (a1 - (1 : Int)))) []) 1 FV.nils))), (.int .i64 (FV.asI (List.getD (List.getD c_5 (Int.toNat (IntKind.wrap .i64 (a1 - (1 : Int)))) []) 2 FV.nils))), (.str (FV.asS (List.getD (List.getD c_5 (Int.toNat (IntKind.wrap .i64 (a1 - (1 : Int)))) []) 3 FV.nils))), (.int .i64 (FV.asI (List.getD (List.getD c_5 (Int.toNat (IntKind.wrap .i64 (a1 - (1 : Int)))) []) 4 FV.nils))), (List.getD (List.getD c_5 (Int.toNat (IntKind.wrap .i64 (a1 - (1 : Int)))) []) 5 FV.nils), (List.getD (List.getD c_5 (Int.toNat (IntKind.wrap .i64 (a1 - (1 : Int)))) []) 6 FV.nils), (List.getD (List.getD c_5 (Int.toNat (IntKind.wrap .i64 (a1 - (1 : Int)))) []) 7 FV.nils)] : List FV) = (List.getD c_5 (Int.toNat (IntKind.wrap .i64 (a1 - (1 : Int)))) []))))) ∧ (TV.Le (.tup [(true, [(.a (.fz (.bool true))), (.a (.fz (.bool false))), (.a (.fz (.bool false))), (.a (.fz (.bool true)))]), (false, [(.a (.fz (.bool false)))])]) r ∧ [] = Hs')) (TV.Le (.tup [(true, [(.a (.fz (.bool true))), (.a (.fz (.bool false))), (.a (.fz (.bool false))), (.a (.fz (.bool true)))]), (false, [(.a (.fz (.bool false)))])]) r ∧ [] = Hs'))) (br (decide ((a1 : Int) > (0 : Int))) (((FV.isSl 8 (.sl false 8 c_5) = true) ∧ ((0 ≤ (IntKind.wrap .i64 (a1 - (1 : Int)))) ∧ (((IntKind.wrap .i64 (a1 - (1 : Int))) < (((List.length c_5) : Nat) : Int)) ∧ (([(.int .i64 (FV.asI (List.getD (List.getD c_5 (Int.toNat (IntKind.wrap .i64 (a1 - (1 : Int)))) []) 0 FV.nils))), (.int .i64 (FV.asI (List.getD (List.getD c_5 (Int.toNat (IntKind.wrap .i64 (a1 - (1 : Int)))) []) 1 FV.nils))), (.int .i64 (FV.asI (List.getD (List.getD c_5 (Int.toNat (IntKind.wrap .i64 (a1 - (1 : Int)))) []) 2 FV.nils))), (.str (FV.asS (List.getD (List.getD c_5 (Int.toNat (IntKind.wrap .i64 (a1 - (1 : Int)))) []) 3 FV.nils))), (.int .i64 (FV.asI (List.getD (List.getD c_5 (Int.toNat (IntKind.wrap .i64 (a1 - (1 : Int)))) []) 4 FV.nils))), (List.getD (List.getD c_5 (Int.toNat (IntKind.wrap .i64 (a1 - (1 : Int)))) []) 5 FV.nils), (List.getD (List.getD c_5 (Int.toNat (IntKind.wrap .i64 (a1 - (1 : Int)))) []) 6 FV.nils), (List.getD (List.getD c_5 (Int.toNat (IntKind.wrap .i64 (a1 - (1 : Int)))) []) 7 FV.nils)] : List FV) = (List.getD c_5 (Int.toNat (IntKind.wrap .i64 (a1 - (1 : Int)))) []))))) ∧ (TV.Le (.tup [(true, [(.a (.fz (.bool true))), (.a (.fz (.bool false))), (.a (.fz (.bool false))), (.a (.fz (.bool true)))]), (false, [(.a (.fz (.bool false)))])]) r ∧ [] = Hs')) (TV.Le (.tup [(true, [(.a (.fz (.bool true))), (.a (.fz (.bool false))), (.a (.fz (.bool false))), (.a (.fz (.bool true)))]), (false, [(.a (.fz (.bool false)))])]) r ∧ [] = Hs'))) (br (((FV.asI (List.getD (List.getD c_5 (Int.toNat a1) []) 0 FV.nils)) : Int) == (1 : Int)) (br (decide (((0 : Int) : Int) ≤ (FV.asI (List.getD (List.getD c_5 (Int.toNat a1) []) 1 FV.nils)))) (br (decide (((FV.asI (List.getD (List.getD c_5 (Int.toNat a1) []) 1 FV.nils)) : Int) < c_1)) (br (((FV.asI (List.getD (List.getD c_5 (Int.toNat a1) []) 0 FV.nils)) : Int) == (0 : Int)) (br (decide ((a1 : Int) > (0 : Int))) (((FV.isSl 8 (.sl false 8 c_5) = true) ∧ ((0 ≤ (IntKind.wrap .i64 (a1 - (1 : Int)))) ∧ (((IntKind.wrap .i64 (a1 - (1 : Int))) < (((List.length c_5) : Nat) : Int)) ∧ (([(.int .i64 (FV.asI (List.getD (List.getD c_5 (Int.toNat (IntKind.wrap .i64 (a1 - (1 : Int)))) []) 0 FV.nils))), (.int .i64 (FV.asI (List.getD (List.getD c_5 (Int.toNat (IntKind.wrap .i64 (a1 - (1 : Int)))) []) 1 FV.nils))), (.int .i64 (FV.asI (List.getD (List.getD c_5 (Int.toNat (IntKind.wrap .i64 (a1 - (1 : Int)))) []) 2 FV.nils))), (.str (FV.asS (List.getD (List.getD c_5 (Int.toNat (IntKind.wrap .i64 (a1 - (1 : Int)))) []) 3 FV.nils))), (.int .i64 (FV.asI (List.getD (List.getD c_5 (Int.toNat (IntKind.wrap .i64 (a1 - (1 : Int)))) []) 4 FV.nils))), (List.getD (List.getD c_5 (Int.toNat (IntKind.wrap .i64 (a1 - (1 : Int)))) []) 5 FV.nils), (List.getD (List.getD c_5 (Int.toNat (IntKind.wrap .i64 (a1 - (1 : Int)))) []) 6 FV.nils), (List.getD (List.getD c_5 (Int.toNat (IntKind.wrap .i64 (a1 - (1 : Int)))) []) 7 FV.nils)] : List FV) = (List.getD c_5 (Int.toNat (IntKind.wrap .i64 (a1 - (1 : Int)))) []))))) ∧ (∃ b4 : Bool, ((AC Tryz.prog 70 [(.c (.a (.fz (.int .i64 (FV.asI (List.getD (List.getD c_5 (Int.toNat (IntKind.wrap .i64 (a1 - (1 : Int)))) []) 0 FV.nils))))))] [] (.c (.a (.fz (.bool b4)))) []) ∧ (br b4 (TV.Le (.tup [(true, [(.a (.fz (.bool true))), (.a (.fz (.bool false))), (.a (.fz (.bool false))), (.a (.fz (.bool true)))]), (false, [(.a (.fz (.bool (decide (((FV.asI (List.getD (List.getD c_5 (Int.toNat (IntKind.wrap .i64 (a1 - (1 : Int)))) []) 1 FV.nils)) : Int) < (FV.asI (List.getD (List.getD c_5 (Int.toNat a1) []) 1 FV.nils)))))))])]) r ∧ [] = Hs') (TV.Le (.tup [(true, [(.a (.fz (.bool true))), (.a (.fz (.bool false))), (.a (.fz (.bool false))), (.a (.fz (.bool true)))]), (false, [(.a (.fz (.bool false)))])]) r ∧ [] = Hs'))))) (TV.Le (.tup [(true, [(.a (.fz (.bool true))), (.a (.fz (.bool false))), (.a (.fz (.bool false))), (.a (.fz (.bool true)))]), (false, [(.a (.fz (.bool true)))])]) r ∧ [] = Hs')) (br (((FV.asI (List.getD (List.getD c_5 (Int.toNat a1) []) 2 FV.nils)) : Int) == (0 : Int)) (br (decide ((a1 : Int) > (0 : Int))) (((FV.isSl 8 (.sl false 8 c_5) = true) ∧ ((0 ≤ (IntKind.wrap .i64 (a1 - (1 : Int)))) ∧ (((IntKind.wrap .i64 (a1 - (1 : Int))) < (((List.length c_5) : Nat) : Int)) ∧ (([(.int .i64 (FV.asI (List.getD (List.getD c_5 (Int.toNat (IntKind.wrap .i64 (a1 - (1 : Int)))) []) 0 FV.nils))), (.int .i64 (FV.asI (List.getD (List.getD c_5 (Int.toNat (IntKind.wrap .i64 (a1 - (1 : Int)))) []) 1 FV.nils))), (.int .i64 (FV.asI (List.getD (List.getD c_5 (Int.toNat (IntKind.wrap .i64 (a1 - (1 : Int)))) []) 2 FV.nils))), (.str (FV.asS (List.getD (List.getD c_5 (Int.toNat (IntKind.wrap .i64 (a1 - (1 : Int)))) []) 3 FV.nils))), (.int .i64 (FV.asI (List.getD (List.getD c_5 (Int.toNat (IntKind.wrap .i64 (a1 - (1 : Int)))) []) 4 FV.nils))), (List.getD (List.getD c_5 (Int.toNat (IntKind.wrap .i64 (a1 - (1 : Int)))) []) 5 FV.nils), (List.getD (List.getD c_5 (Int.toNat (IntKind.wrap .i64 (a1 - (1 : Int)))) []) 6 FV.nils), (List.getD (List.getD c_5 (Int.toNat (IntKind.wrap .i64 (a1 - (1 : Int)))) []) 7 FV.nils)] : List FV) = (List.getD c_5 (Int.toNat (IntKind.wrap .i64 (a1 - (1 : Int)))) []))))) ∧ (∃ b5 : Bool, ((AC Tryz.prog 70 [(.c (.a (.fz (.int .i64 (FV.asI (List.getD (List.getD c_5 (Int.toNat (IntKind.wrap .i64 (a1 - (1 : Int)))) []) 0 FV.nils))))))] [] (.c (.a (.fz (.bool b5)))) []) ∧ (br b5 (TV.Le (.tup [(true, [(.a (.fz (.bool true))), (.a (.fz (.bool false))), (.a (.fz (.bool false))), (.a (.fz (.bool true)))]), (false, [(.a (.fz (.bool (decide (((FV.asI (List.getD (List.getD c_5 (Int.toNat (IntKind.wrap .i64 (a1 - (1 : Int)))) []) 1 FV.nils)) : Int) < (FV.asI (List.getD (List.getD c_5 (Int.toNat a1) []) 1 FV.nils)))))))])]) r ∧ [] = Hs') (TV.Le (.tup [(true, [(.a (.fz (.bool true))), (.a (.fz (.bool false))), (.a (.fz (.bool false))), (.a (.fz (.bool true)))]), (false, [(.a (.fz (.bool false)))])]) r ∧ [] = Hs'))))) (TV.Le (.tup [(true, [(.a (.fz (.bool true))), (.a (.fz (.bool false))), (.a (.fz (.bool false))), (.a (.fz (.bool true)))]), (false, [(.a (.fz (.bool true)))])]) r ∧ [] = Hs')) (br (decide ((a1 : Int) > (0 : Int))) (((FV.isSl 8 (.sl false 8 c_5) = true) ∧ ((0 ≤ (IntKind.wrap .i64 (a1 - (1 : Int)))) ∧ (((IntKind.wrap .i64 (a1 - (1 : Int))) < (((List.length c_5) : Nat) : Int)) ∧ (([(.int .i64 (FV.asI (List.getD (List.getD c_5 (Int.toNat (IntKind.wrap .i64 (a1 - (1 : Int)))) []) 0 FV.nils))), (.int .i64 (FV.asI (List.getD (List.getD c_5 (Int.toNat (IntKind.wrap .i64 (a1 - (1 : Int)))) []) 1 FV.nils))), (.int .i64 (FV.asI (List.getD (List.getD c_5 (Int.toNat (IntKind.wrap .i64 (a1 - (1 : Int)))) []) 2 FV.nils))), (.str (FV.asS (List.getD (List.getD c_5 (Int.toNat (IntKind.wrap .i64 (a1 - (1 : Int)))) []) 3 FV.nils))), (.int .i64 (FV.asI (List.getD (List.getD c_5 (Int.toNat (IntKind.wrap .i64 (a1 - (1 : Int)))) []) 4 FV.nils))), (List.getD (List.getD c_5 (Int.toNat (IntKind.wrap .i64 (a1 - (1 : Int)))) []) 5 FV.nils), (List.getD (List.getD c_5 (Int.toNat (IntKind.wrap .i64 (a1 - (1 : Int)))) []) 6 FV.nils), (List.getD (List.getD c_5 (Int.toNat (IntKind.wrap .i64 (a1 - (1 : Int)))) []) 7 FV.nils)] : List FV) = (List.getD c_5 (Int.toNat (IntKind.wrap .i64 (a1 - (1 : Int)))) []))))) ∧ (br (((FV.asI (List.getD (List.getD c_5 (Int.toNat a1) []) 2 FV.nils)) : Int) == (2 : Int)) (∃ b6 : Bool, ((AC Tryz.prog 70 [(.c (.a (.fz (.int .i64 (FV.asI (List.getD (List.getD c_5 (Int.toNat (IntKind.wrap .i64 (a1 - (1 : Int)))) []) 0 FV.nils))))))] [] (.c (.a (.fz (.bool b6)))) []) ∧ (br b6 (TV.Le (.tup [(true, [(.a (.fz (.bool true))), (.a (.fz (.bool false))), (.a (.fz (.bool false))), (.a (.fz (.bool true)))]), (false, [(.a (.fz (.bool (decide (((FV.asI (List.getD (List.getD c_5 (Int.toNat (IntKind.wrap .i64 (a1 - (1 : Int)))) []) 1 FV.nils)) : Int) < (FV.asI (List.getD (List.getD c_5 (Int.toNat a1) []) 1 FV.nils)))))))])]) r ∧ [] = Hs') (TV.Le (.tup [(true, [(.a (.fz (.bool true))), (.a (.fz (.bool false))), (.a (.fz (.bool false))), (.a (.fz (.bool true)))]), (false, [(.a (.fz (.bool false)))])]) r ∧ [] = Hs')))) (TV.Le (.tup [(true, [(.a (.fz (.bool true))), (.a (.fz (.bool false))), (.a (.fz (.bool false))), (.a (.fz (.bool true)))]), (false, [(.a (.fz (.bool false)))])]) r ∧ [] = Hs'))) (TV.Le (.tup [(true, [(.a (.fz (.bool true))), (.a (.fz (.bool false))), (.a (.fz (.bool false))), (.a (.fz (.bool true)))]), (false, [(.a (.fz (.bool (((FV.asI (List.getD (List.getD c_5 (Int.toNat a1) []) 2 FV.nils)) : Int) == (2 : Int)))))])]) r ∧ [] = Hs')))) (br (decide ((a1 : Int) > (0 : Int))) (((FV.isSl 8 (.sl false 8 c_5) = true) ∧ ((0 ≤ (IntKind.wrap .i64 (a1 - (1 : Int)))) ∧ (((IntKind.wrap .i64 (a1 - (1 : Int))) < (((List.length c_5) : Nat) : Int)) ∧ (([(.int .i64 (FV.asI (List.getD (List.getD c_5 (Int.toNat (IntKind.wrap .i64 (a1 - (1 : Int)))) []) 0 FV.nils))), (.int .i64 (FV.asI (List.getD (List.getD c_5 (Int.toNat (IntKind.wrap .i64 (a1 - (1 : Int)))) []) 1 FV.nils))), (.int .i64 (FV.asI (List.getD (List.getD c_5 (Int.toNat (IntKind.wrap .i64 (a1 - (1 : Int)))) []) 2 FV.nils))), (.str (FV.asS (List.getD (List.getD c_5 (Int.toNat (IntKind.wrap .i64 (a1 - (1 : Int)))) []) 3 FV.nils))), (.int .i64 (FV.asI (List.getD (List.getD c_5 (Int.toNat (IntKind.wrap .i64 (a1 - (1 : Int)))) []) 4 FV.nils))), (List.getD (List.getD c_5 (Int.toNat (IntKind.wrap .i64 (a1 - (1 : Int)))) []) 5 FV.nils), (List.getD (List.getD c_5 (Int.toNat (IntKind.wrap .i64 (a1 - (1 : Int)))) []) 6 FV.nils), (List.getD (List.getD c_5 (Int.toNat (IntKind.wrap .i64 (a1 - (1 : Int)))) []) 7 FV.nils)] : List FV) = (List.getD c_5 (Int.toNat (IntKind.wrap .i64 (a1 - (1 : Int)))) []))))) ∧ (TV.Le (.tup [(true, [(.a (.fz (.bool true))), (.a (.fz (.bool false))), (.a (.fz (.bool false))), (.a (.fz (.bool true)))]), (false, [(.a (.fz (.bool false)))])]) r ∧ [] = Hs')) (TV.Le (.tup [(true, [(.a (.fz (.bool true))), (.a (.fz (.bool false))), (.a (.fz (.bool false))), (.a (.fz (.bool true)))]), (false, [(.a (.fz (.bool false)))])]) r ∧ [] = Hs'))) (br (decide ((a1 : Int) > (0 : Int))) (((FV.isSl 8 (.sl false 8 c_5) = true) ∧ ((0 ≤ (IntKind.wrap .i64 (a1 - (1 : Int)))) ∧ (((IntKind.wrap .i64 (a1 - (1 : Int))) < (((List.length c_5) : Nat) : Int)) ∧ (([(.int .i64 (FV.asI (List.getD (List.getD c_5 (Int.toNat (IntKind.wrap .i64 (a1 - (1 : Int)))) []) 0 FV.nils))), (.int .i64 (FV.asI (List.getD (List.getD c_5 (Int.toNat (IntKind.wrap .i64 (a1 - (1 : Int)))) []) 1 FV.nils))), (.int .i64 (FV.asI (List.getD (List.getD c_5 (Int.toNat (IntKind.wrap .i64 (a1 - (1 : Int)))) []) 2 FV.nils))), (.str (FV.asS (List.getD (List.getD c_5 (Int.toNat (IntKind.wrap .i64 (a1 - (1 : Int)))) []) 3 FV.nils))), (.int .i64 (FV.asI (List.getD (List.getD c_5 (Int.toNat (IntKind.wrap .i64 (a1 - (1 : Int)))) []) 4 FV.nils))), (List.getD (List.getD c_5 (Int.toNat (IntKind.wrap .i64 (a1 - (1 : Int)))) []) 5 FV.nils), (List.getD (List.getD c_5 (Int.toNat (IntKind.wrap .i64 (a1 - (1 : Int)))) []) 6 FV.nils), (List.getD (List.getD c_5 (Int.toNat (IntKind.wrap .i64 (a1 - (1 : Int)))) []) 7 FV.nils)] : List FV) = (List.getD c_5 (Int.toNat (IntKind.wrap .i64 (a1 - (1 : Int)))) []))))) ∧ (TV.Le (.tup [(true, [(.a (.fz (.bool true))), (.a (.fz (.bool false))), (.a (.fz (.bool false))), (.a (.fz (.bool true)))]), (false, [(.a (.fz (.bool false)))])]) r ∧ [] = Hs')) (TV.Le (.tup [(true, [(.a (.fz (.bool true))), (.a (.fz (.bool false))), (.a (.fz (.bool false))), (.a (.fz (.bool true)))]), (false, [(.a (.fz (.bool false)))])]) r ∧ [] = Hs'))) (br (((FV.asI (List.getD (List.getD c_5 (Int.toNat a1) []) 0 FV.nils)) : Int) == (2 : Int)) (∃ b7 : Bool, ((AC Tryz.prog 71 [(.agg [(.a (.fz (.int .i64 (FV.asI (List.getD (List.getD c_5 (Int.toNat a1) []) 2 FV.nils))))), (.a (.fz (.str (FV.asS (List.getD (List.getD c_5 (Int.toNat a1) []) 3 FV.nils))))), (.a (.fz (.int .i64 (FV.asI (List.getD (List.getD c_5 (Int.toNat a1) []) 4 FV.nils))))), (.a (.fz (List.getD (List.getD c_5 (Int.toNat a1) []) 5 FV.nils)))])] [] (.c (.a (.fz (.bool b7)))) []) ∧ (TV.Le (.tup [(true, [(.a (.fz (.bool true))), (.a (.fz (.bool false))), (.a (.fz (.bool false))), (.a (.fz (.bool false)))]), (false, [(.a (.fz (.bool b7)))])]) r ∧ [] = Hs'))) (br (((FV.asI (List.getD (List.getD c_5 (Int.toNat a1) []) 0 FV.nils)) : Int) == (3 : Int)) (∃ b8 : Bool, ((AC Tryz.prog 71 [(.agg [(.a (.fz (.int .i64 (FV.asI (List.getD (List.getD c_5 (Int.toNat a1) []) 2 FV.nils))))), (.a (.fz (.str (FV.asS (List.getD (List.getD c_5 (Int.toNat a1) []) 3 FV.nils))))), (.a (.fz (.int .i64 (FV.asI (List.getD (List.getD c_5 (Int.toNat a1) []) 4 FV.nils))))), (.a (.fz (List.getD (List.getD c_5 (Int.toNat a1) []) 5 FV.nils)))])] [] (.c (.a (.fz (.bool b8)))) []) ∧ (TV.Le (.tup [(true, [(.a (.fz (.bool true))), (.a (.fz (.bool false))), (.a (.fz (.bool false))), (.a (.fz (.bool false)))]), (false, [(.a (.fz (.bool b8)))])]) r ∧ [] = Hs'))) (br (((FV.asI (List.getD (List.getD c_5 (Int.toNat a1) []) 0 FV.nils)) : Int) == (5 : Int)) ((FV.isSl 4 (List.getD (List.getD c_5 (Int.toNat a1) []) 6 FV.nils) = true) ∧ (TV.Le (.tup [(true, [(.a (.fz (.bool false))), (.a (.fz (.bool true))), (.a (.fz (.bool false))), (.a (.fz (.bool false)))]), (false, [(.a (.fz (.bool (((((List.length (FV.ses (List.getD (List.getD c_5 (Int.toNat a1) []) 6 FV.nils))) : Nat) : Int) : Int) == (2 : Int)))))])]) r ∧ [] = Hs')) (br (((FV.asI (List.getD (List.getD c_5 (Int.toNat a1) []) 0 FV.nils)) : Int) == (6 : Int)) (∃ b9 : Bool, ((AC Tryz.prog 72 [(.agg [(.a (.fz (.int .i64 (FV.asI (List.getD (List.getD c_5 (Int.toNat a1) []) 2 FV.nils))))), (.a (.fz (.str (FV.asS (List.getD (List.getD c_5 (Int.toNat a1) []) 3 FV.nils))))), (.a (.fz (.int .i64 (FV.asI (List.getD (List.getD c_5 (Int.toNat a1) []) 4 FV.nils))))), (.a (.fz (List.getD (List.getD c_5 (Int.toNat a1) []) 5 FV.nils)))])] [] (.c (.a (.fz (.bool b9)))) []) ∧ (TV.Le (.tup [(true, [(.a (.fz (.bool true))), (.a (.fz (.bool false))), (.a (.fz (.bool false))), (.a (.fz (.bool false)))]), (false, [(.a (.fz (.bool b9)))])]) r ∧ [] = Hs'))) (br (((FV.asI (List.getD (List.getD c_5 (Int.toNat a1) []) 0 FV.nils)) : Int) == (9 : Int)) (br (decide ((a1 : Int) < (FV.asI (List.getD (List.getD c_5 (Int.toNat a1) []) 1 FV.nils)))) ((FV.isSl 8 (.sl false 8 c_5) = true) ∧ (TV.Le (.tup [(true, [(.a (.fz (.bool false))), (.a (.fz (.bool false))), (.a (.fz (.bool false))), (.a (.fz (.bool true)))]), (false, [(.a (.fz (.bool (decide (((FV.asI (List.getD (List.getD c_5 (Int.toNat a1) []) 1 FV.nils)) : Int) < (((List.length c_5) : Nat) : Int))))))])]) r ∧ [] = Hs')) (TV.Le (.tup [(true, [(.a (.fz (.bool false))), (.a (.fz (.bool false))), (.a (.fz (.bool false))), (.a (.fz (.bool true)))]), (false, [(.a (.fz (.bool false)))])]) r ∧ [] = Hs')) (br (((FV.asI (List.getD (List.getD c_5 (Int.toNat a1) []) 0 FV.nils)) : Int) == (10 : Int)) (br (decide ((a1 : Int) < (FV.asI (List.getD (List.getD c_5 (Int.toNat a1) []) 1 FV.nils)))) ((FV.isSl 8 (.sl false 8 c_5) = true) ∧ (TV.Le (.tup [(true, [(.a (.fz (.bool false))), (.a (.fz (.bool false))), (.a (.fz (.bool false))), (.a (.fz (.bool true)))]), (false, [(.a (.fz (.bool (decide (((FV.asI (List.getD (List.getD c_5 (Int.toNat a1) []) 1 FV.nils)) : Int) < (((List.length c_5) : Nat) : Int))))))])]) r ∧ [] = Hs')) (TV.Le (.tup [(true, [(.a (.fz (.bool false))), (.a (.fz (.bool false))), (.a (.fz (.bool false))), (.a (.fz (.bool true)))]), (false, [(.a (.fz (.bool false)))])]) r ∧ [] = Hs')) (br (((FV.asI (List.getD (List.getD c_5 (Int.toNat a1) []) 0 FV.nils)) : Int) == (11 : Int)) (br (decide (((IntKind.wrap .i64 (c_2 + c_3)) : Int) ≤ (FV.asI (List.getD (List.getD c_5 (Int.toNat a1) []) 1 FV.nils)))) (TV.Le (.tup [(true, [(.a (.fz (.bool false))), (.a (.fz (.bool false))), (.a (.fz (.bool false))), (.a (.fz (.bool true)))]), (false, [(.a (.fz (.bool (decide (((FV.asI (List.getD (List.getD c_5 (Int.toNat a1) []) 1 FV.nils)) : Int) < c_4)))))])]) r ∧ [] = Hs') (TV.Le (.tup [(true, [(.a (.fz (.bool false))), (.a (.fz (.bool false))), (.a (.fz (.bool false))), (.a (.fz (.bool true)))]), (false, [(.a (.fz (.bool false)))])]) r ∧ [] = Hs')) (br (((FV.asI (List.getD (List.getD c_5 (Int.toNat a1) []) 0 FV.nils)) : Int) == (13 : Int)) (br (decide (((IntKind.wrap .i64 (c_2 + c_3)) : Int) ≤ (FV.asI (List.getD (List.getD c_5 (Int.toNat a1) []) 1 FV.nils)))) (TV.Le (.tup [(true, [(.a (.fz (.bool false))), (.a (.fz (.bool false))), (.a (.fz (.bool false))), (.a (.fz (.bool true)))]), (false, [(.a (.fz (.bool (decide (((FV.asI (List.getD (List.getD c_5 (Int.toNat a1) []) 1 FV.nils)) : Int) < c_4)))))])]) r ∧ [] = Hs') (TV.Le (.tup [(true, [(.a (.fz (.bool false))), (.a (.fz (.bool false))), (.a (.fz (.bool false))), (.a (.fz (.bool true)))]), (false, [(.a (.fz (.bool false)))])]) r ∧ [] = Hs')) (br (((FV.asI (List.getD (List.getD c_5 (Int.toNat a1) []) 0 FV.nils)) : Int) == (14 : Int)) (∃ b10 : Bool, ((AC Tryz.prog 74 [(.c (.a (.fz (List.getD (List.getD c_5 (Int.toNat a1) []) 7 FV.nils)))), (.c (.fn (.func 73) [] [(false, [(.ep 0 6 0 0)])]))] [(.arr 6 [[(.a (.fz (.str c_0))), (.a (.fz (.int .i64 c_1))), (.a (.fz (.int .i64 c_2))), (.a (.fz (.int .i64 c_3))), (.a (.fz (.int .i64 c_4))), (.a (.fz (.sl false 8 c_5)))]])] (.c (.a (.fz (.bool b10)))) [(.arr 6 [[(.a (.fz (.str c_0))), (.a (.fz (.int .i64 c_1))), (.a (.fz (.int .i64 c_2))), (.a (.fz (.int .i64 c_3))), (.a (.fz (.int .i64 c_4))), (.a (.fz (.sl false 8 c_5)))]])]) ∧ (TV.Le (.tup [(true, [(.a (.fz (.bool false))), (.a (.fz (.bool false))), (.a (.fz (.bool true))), (.a (.fz (.bool false)))]), (false, [(.a (.fz (.bool (!b10))))])]) r ∧ [] = Hs'))) (br (((FV.asI (List.getD (List.getD c_5 (Int.toNat a1) []) 0 FV.nils)) : Int) == (4 : Int)) (TV.Le (.tup [(true, [(.a (.fz (.bool false))), (.a (.fz (.bool false))), (.a (.fz (.bool false))), (.a (.fz (.bool false)))]), (false, [(.a (.fz (.bool true)))])]) r ∧ [] = Hs') (br (((FV.asI (List.getD (List.getD c_5 (Int.toNat a1) []) 0 FV.nils)) : Int) == (7 : Int)) (TV.Le (.tup [(true, [(.a (.fz (.bool false))), (.a (.fz (.bool false))), (.a (.fz (.bool false))), (.a (.fz (.bool false)))]), (false, [(.a (.fz (.bool true)))])]) r ∧ [] = Hs') (br (((FV.asI (List.getD (List.getD c_5 (Int.toNat a1) []) 0 FV.nils)) : Int) == (8 : Int)) (TV.Le (.tup [(true, [(.a (.fz (.bool false))), (.a (.fz (.bool false))), (.a (.fz (.bool false))), (.a (.fz (.bool false)))]), (false, [(.a (.fz (.bool true)))])]) r ∧ [] = Hs') (br (((FV.asI (List.getD (List.getD c_5 (Int.toNat a1) []) 0 FV.nils)) : Int) == (12 : Int)) (TV.Le (.tup [(true, [(.a (.fz (.bool false))), (.a (.fz (.bool false))), (.a (.fz (.bool false))), (.a (.fz (.bool false)))]), (false, [(.a (.fz (.bool true)))])]) r ∧ [] = Hs') (br (((FV.asI (List.getD (List.getD c_5 (Int.toNat a1) []) 0 FV.nils)) : Int) == (15 : Int)) (TV.Le (.tup [(true, [(.a (.fz (.bool false))), (.a (.fz (.bool false))), (.a (.fz (.bool false))), (.a (.fz (.bool false)))]), (false, [(.a (.fz (.bool true)))])]) r ∧ [] = Hs') (TV.Le (.tup [(true, [(.a (.fz (.bool false))), (.a (.fz (.bool false))), (.a (.fz (.bool false))), (.a (.fz (.bool false)))]), (false, [(.a (.fz (.bool false)))])]) r ∧ [] = Hs')))))))))))))))))) := by kernel_rfl
def lv46 : List (Nat × List Nat) := []
theorem v46 (p_0 : Bool) (p_1 : Int) (p_2 : Int) (k : Int) (r : TV) (Hs' : List AObj) : vcE Tryz.prog sh lv46 46 [(.agg [(.a (.fz (.bool p_0))), (.a (.fz (.int .i64 p_1))), (.a (.fz (.int .i64 p_2)))]), (.c (.a (.fz (.int .i64 k))))] [] (fun r0 Hs0 => TV.Le r0 r ∧ Hs0 = Hs') (RPt Tryz.prog 46 0 r Hs') =
  (br ((k : Int) == (4 : Int)) (br ((p_1 : Int) == (0 : Int)) (TV.Le (.tup [(true, [(.a (.fz (.bool p_0))), (.a (.fz (.int .i64 p_1))), (.a (.fz (.int .i64 p_2)))]), (false, [(.a (.fz (.bool false)))]), (false, [(.a (.fz (.bool ((p_2 : Int) == (0 : Int)))))])]) r ∧ [] = Hs') (TV.Le (.tup [(true, [(.a (.fz (.bool p_0))), (.a (.fz (.int .i64 p_1))), (.a (.fz (.int .i64 p_2)))]), (false, [(.a (.fz (.bool false)))]), (false, [(.a (.fz (.bool false)))])]) r ∧ [] = Hs')) (br ((k : Int) == (3 : Int)) (br ((p_1 : Int) == (0 : Int)) (TV.Le (.tup [(true, [(.a (.fz (.bool p_0))), (.a (.fz (.int .i64 p_1))), (.a (.fz (.int .i64 p_2)))]), (false, [(.a (.fz (.bool false)))]), (false, [(.a (.fz (.bool ((p_2 : Int) == (0 : Int)))))])]) r ∧ [] = Hs') (TV.Le (.tup [(true, [(.a (.fz (.bool p_0))), (.a (.fz (.int .i64 p_1))), (.a (.fz (.int .i64 p_2)))]), (false, [(.a (.fz (.bool false)))]), (false, [(.a (.fz (.bool false)))])]) r ∧ [] = Hs')) (br ((k : Int) == (8 : Int)) (TV.Le (.tup [(true, [(.a (.fz (.bool p_0))), (.a (.fz (.int .i64 p_1))), (.a (.fz (.int .i64 p_2)))]), (false, [(.a (.fz (.bool false)))]), (false, [(.a (.fz (.bool true)))])]) r ∧ [] = Hs') (br ((k : Int) == (11 : Int)) (br (decide (((IntKind.wrap .i64 (p_1 + (1 : Int))) : Int) ≥ (0 : Int))) (TV.Le (.tup [(true, [(.a (.fz (.bool p_0))), (.a (.fz (.int .i64 (IntKind.wrap .i64 (p_1 + (1 : Int)))))), (.a (.fz (.int .i64 p_2)))]), (false, [(.a (.fz (.bool true)))]), (false, [(.a (.fz (.bool (decide ((p_2 : Int) ≥ (0 : Int))))))])]) r ∧ [] = Hs') (TV.Le (.tup [(true, [(.a (.fz (.bool p_0))), (.a (.fz (.int .i64 (IntKind.wrap .i64 (p_1 + (1 : Int)))))), (.a (.fz (.int .i64 p_2)))]), (false, [(.a (.fz (.bool true)))]), (false, [(.a (.fz (.bool false)))])]) r ∧ [] = Hs')) (br ((k : Int) == (12 : Int)) (br (decide (((IntKind.wrap .i64 (p_1 - (1 : Int))) : Int) ≥ (0 : Int))) (TV.Le (.tup [(true, [(.a (.fz (.bool p_0))), (.a (.fz (.int .i64 (IntKind.wrap .i64 (p_1 - (1 : Int)))))), (.a (.fz (.int .i64 p_2)))]), (false, [(.a (.fz (.bool true)))]), (false, [(.a (.fz (.bool (decide ((p_2 : Int) ≥ (0 : Int))))))])]) r ∧ [] = Hs') (TV.Le (.tup [(true, [(.a (.fz (.bool p_0))), (.a (.fz (.int .i64 (IntKind.wrap .i64 (p_1 - (1 : Int)))))), (.a (.fz (.int .i64 p_2)))]), (false, [(.a (.fz (.bool true)))]), (false, [(.a (.fz (.bool false)))])]) r ∧ [] = Hs')) (br ((k : Int) == (14 : Int)) (br (decide ((p_1 : Int) ≥ (0 : Int))) (TV.Le (.tup [(true, [(.a (.fz (.bool p_0))), (.a (.fz (.int .i64 p_1))), (.a (.fz (.int .i64 (IntKind.wrap .i64 (p_2 + (1 : Int))))))]), (false, [(.a (.fz (.bool true)))]), (false, [(.a (.fz (.bool (decide (((IntKind.wrap .i64 (p_2 + (1 : Int))) : Int) ≥ (0 : Int))))))])]) r ∧ [] = Hs') (TV.Le (.tup [(true, [(.a (.fz (.bool p_0))), (.a (.fz (.int .i64 p_1))), (.a (.fz (.int .i64 (IntKind.wrap .i64 (p_2 + (1 : Int))))))]), (false, [(.a (.fz (.bool true)))]), (false, [(.a (.fz (.bool false)))])]) r ∧ [] = Hs')) (br ((k : Int) == (15 : Int)) (br (decide ((p_1 : Int) ≥ (0 : Int))) (TV.Le (.tup [(true, [(.a (.fz (.bool p_0))), (.a (.fz (.int .i64 p_1))), (.a (.fz (.int .i64 (IntKind.wrap .i64 (p_2 - (1 : Int))))))]), (false, [(.a (.fz (.bool true)))]), (false, [(.a (.fz (.bool (decide (((IntKind.wrap .i64 (p_2 - (1 : Int))) : Int) ≥ (0 : Int))))))])]) r ∧ [] = Hs') (TV.Le (.tup [(true, [(.a (.fz (.bool p_0))), (.a (.fz (.int .i64 p_1))), (.a (.fz (.int .i64 (IntKind.wrap .i64 (p_2 - (1 : Int))))))]), (false, [(.a (.fz (.bool true)))]), (false, [(.a (.fz (.bool false)))])]) r ∧ [] = Hs')) (br (decide ((p_1 : Int) ≥ (0 : Int))) (TV.Le (.tup [(true, [(.a (.fz (.bool p_0))), (.a (.fz (.int .i64 p_1))), (.a (.fz (.int .i64 p_2)))]), (false, [(.a (.fz (.bool true)))]), (false, [(.a (.fz (.bool (decide ((p_2 : Int) ≥ (0 : Int))))))])]) r ∧ [] = Hs') (TV.Le (.tup [(true, [(.a (.fz (.bool p_0))), (.a (.fz (.int .i64 p_1))), (.a (.fz (.int .i64 p_2)))]), (false, [(.a (.fz (.bool true)))]), (false, [(.a (.fz (.bool false)))])]) r ∧ [] = Hs'))))))))) := by kernel_rfl
def lv45 : List (Nat × List Nat) := []
theorem v45 (a0 : Int) (p_0 : Bool) (p_1 : Int) (p_2 : Int) (o0_0l : Nat) (o1 : List (List FV)) (r : TV) (Hs' : List AObj) : vcE Tryz.prog sh lv45 45 [(.c (.a (.fz (.int .i64 a0)))), (.agg [(.a (.fz (.bool p_0))), (.a (.fz (.int .i64 p_1))), (.a (.fz (.int .i64 p_2)))]), (.c (.a (.ep 0 1 0 0)))] [(.arr 1 [[(.a (.osl 1 3 0 o0_0l))]]), (.arz 3 o1)] (fun r0 Hs0 => TV.Le r0 r ∧ Hs0 = Hs') (RPt Tryz.prog 45 2 r Hs') =
  (br (decide ((a0 : Int) ≥ ((o0_0l : Nat) : Int))) (TV.Le (.c (.a (.fz (.bool false)))) r ∧ [(.arr 1 [[(.a (.osl 1 3 0 o0_0l))]]), (.arz 3 o1)] = Hs') ((0 ≤ a0 ∧ a0 < ((o0_0l : Nat) : Int)) ∧ ((((0 + (Int.toNat a0)) < (List.length o1)) ∧ ((([(.bool (FV.asB (List.getD (List.getD o1 (0 + (Int.toNat a0)) []) 0 FV.nils)))] : List FV) = (List.take 1 (List.drop 0 (List.getD o1 (0 + (Int.toNat a0)) [])))) ∧ ((1 : Nat) = 1))) ∧ (br (!(FV.asB (List.getD (List.getD o1 (0 + (Int.toNat a0)) []) 0 FV.nils))) ((0 ≤ a0 ∧ a0 < ((o0_0l : Nat) : Int)) ∧ (((0 + (Int.toNat a0)) < (List.length o1) ∧ (List.length (List.getD o1 (0 + (Int.toNat a0)) [])) = 3) ∧ ((0 ≤ a0 ∧ a0 < ((o0_0l : Nat) : Int)) ∧ ((((0 + (Int.toNat a0)) < (List.length (List.set o1 (0 + (Int.toNat a0)) [(.bool p_0), (.int .i64 p_1), (.int .i64 p_2)]))) ∧ ((([(.bool (FV.asB (List.getD (List.getD (List.set o1 (0 + (Int.toNat a0)) [(.bool p_0), (.int .i64 p_1), (.int .i64 p_2)]) (0 + (Int.toNat a0)) []) 0 FV.nils))), (.int .i64 (FV.asI (List.getD (List.getD (List.set o1 (0 + (Int.toNat a0)) [(.bool p_0), (.int .i64 p_1), (.int .i64 p_2)]) (0 + (Int.toNat a0)) []) 1 FV.nils))), (.int .i64 (FV.asI (List.getD (List.getD (List.set o1 (0 + (Int.toNat a0)) [(.bool p_0), (.int .i64 p_1), (.int .i64 p_2)]) (0 + (Int.toNat a0)) []) 2 FV.nils)))] : List FV) = (List.take 3 (List.drop 0 (List.getD (List.set o1 (0 + (Int.toNat a0)) [(.bool p_0), (.int .i64 p_1), (.int .i64 p_2)]) (0 + (Int.toNat a0)) [])))) ∧ ((3 : Nat) = 3))) ∧ (TV.Le (.c (.a (.fz (.bool ((((FV.asB (List.getD (List.getD (List.set o1 (0 + (Int.toNat a0)) [(.bool p_0), (.int .i64 p_1), (.int .i64 p_2)]) (0 + (Int.toNat a0)) []) 0 FV.nils)) : Bool) == p_0) && ((((FV.asI (List.getD (List.getD (List.set o1 (0 + (Int.toNat a0)) [(.bool p_0), (.int .i64 p_1), (.int .i64 p_2)]) (0 + (Int.toNat a0)) []) 1 FV.nils)) : Int) == p_1) && ((((FV.asI (List.getD (List.getD (List.set o1 (0 + (Int.toNat a0)) [(.bool p_0), (.int .i64 p_1), (.int .i64 p_2)]) (0 + (Int.toNat a0)) []) 2 FV.nils)) : Int) == p_2) && true))))))) r ∧ [(.arr 1 [[(.a (.osl 1 3 0 o0_0l))]]), (.arz 3 (List.set o1 (0 + (Int.toNat a0)) [(.bool p_0), (.int .i64 p_1), (.int .i64 p_2)]))] = Hs'))))) ((0 ≤ a0 ∧ a0 < ((o0_0l : Nat) : Int)) ∧ ((((0 + (Int.toNat a0)) < (List.length o1)) ∧ ((([(.bool (FV.asB (List.getD (List.getD o1 (0 + (Int.toNat a0)) []) 0 FV.nils))), (.int .i64 (FV.asI (List.getD (List.getD o1 (0 + (Int.toNat a0)) []) 1 FV.nils))), (.int .i64 (FV.asI (List.getD (List.getD o1 (0 + (Int.toNat a0)) []) 2 FV.nils)))] : List FV) = (List.take 3 (List.drop 0 (List.getD o1 (0 + (Int.toNat a0)) [])))) ∧ ((3 : Nat) = 3))) ∧ (TV.Le (.c (.a (.fz (.bool ((((FV.asB (List.getD (List.getD o1 (0 + (Int.toNat a0)) []) 0 FV.nils)) : Bool) == p_0) && ((((FV.asI (List.getD (List.getD o1 (0 + (Int.toNat a0)) []) 1 FV.nils)) : Int) == p_1) && ((((FV.asI (List.getD (List.getD o1 (0 + (Int.toNat a0)) []) 2 FV.nils)) : Int) == p_2) && true))))))) r ∧ [(.arr 1 [[(.a (.osl 1 3 0 o0_0l))]]), (.arz 3 o1)] = Hs'))))))) := by kernel_rfl
def lv47 : List (Nat × List Nat) := [(1, [0, 3])]
theorem v47 (s : List UInt8) (r : TV) (Hs' : List AObj) : vcE Tryz.prog sh lv47 47 [(.c (.a (.fz (.str s))))] [] (fun r0 Hs0 => TV.Le r0 r ∧ Hs0 = Hs') (RPt Tryz.prog 47 0 r Hs') =
  (br (decide (((((List.length s) : Nat) : Int) : Int) < (1 : Int))) (TV.Le (.c (.a (.fz (.bool false)))) r ∧ [] = Hs') (br (decide (((((List.length s) : Nat) : Int) : Int) > (32 : Int))) (TV.Le (.c (.a (.fz (.bool false)))) r ∧ [] = Hs') ((0 ≤ (0 : Int) ∧ (0 : Int) < (((List.length s) : Nat) : Int)) ∧ (∃ b1 : Bool, ((AC Tryz.prog 75 [(.c (.a (.fz (.int .u8 ((UInt8.toNat (List.getD s 0 0) : Nat) : Int)))))] [] (.c (.a (.fz (.bool b1)))) []) ∧ (br (!b1) (TV.Le (.c (.a (.fz (.bool false)))) r ∧ [] = Hs') (RPt Tryz.prog 47 0 r Hs' 1 ⟨[(0, (.c (.a (.fz (.str s))))), (3, (.c (.a (.fz (.int .i64 (0 : Int))))))], [], 0⟩))))))) := by kernel_rfl
theorem v47_1a (x0 : List UInt8) (x3 : Int) (r : TV) (Hs' : List AObj) : vcP Tryz.prog sh lv47 47 0 (fun r0 Hs0 => TV.Le r0 r ∧ Hs0 = Hs') (RPt Tryz.prog 47 0 r Hs') 1 ⟨[(0, (.c (.a (.fz (.str x0))))), (3, (.c (.a (.fz (.int .i64 x3)))))], [], 0⟩ =
  (br (decide ((x3 : Int) < (((List.length x0) : Nat) : Int))) ((0 ≤ x3 ∧ x3 < (((List.length x0) : Nat) : Int)) ∧ (∃ b1 : Bool, ((AC Tryz.prog 76 [(.c (.a (.fz (.int .u8 ((UInt8.toNat (List.getD x0 (Int.toNat x3) 0) : Nat) : Int)))))] [] (.c (.a (.fz (.bool b1)))) []) ∧ (br (!b1) (TV.Le (.c (.a (.fz (.bool false)))) r ∧ [] = Hs') (RPt Tryz.prog 47 0 r Hs' 1 ⟨[(0, (.c (.a (.fz (.str x0))))), (3, (.c (.a (.fz (.int .i64 (IntKind.wrap .i64 (x3 + (1 : Int))))))))], [], 0⟩))))) (TV.Le (.c (.a (.fz (.bool true)))) r ∧ [] = Hs')) := by kernel_rfl
def lv48 : List (Nat × List Nat) := [(1, [0, 3])]
theorem v48 (s : List UInt8) (r : TV) (Hs' : List AObj) : vcE Tryz.prog sh lv48 48 [(.c (.a (.fz (.str s))))] [] (fun r0 Hs0 => TV.Le r0 r ∧ Hs0 = Hs') (RPt Tryz.prog 48 0 r Hs') =
  (br ((s : List UInt8) == [44]) (TV.Le (.c (.a (.fz (.bool true)))) r ∧ [] = Hs') (br ((s : List UInt8) == [59]) (TV.Le (.c (.a (.fz (.bool true)))) r ∧ [] = Hs') (br ((s : List UInt8) == [33]) (TV.Le (.c (.a (.fz (.bool true)))) r ∧ [] = Hs') (RPt Tryz.prog 48 0 r Hs' 1 ⟨[(0, (.c (.a (.fz (.str s))))), (3, (.c (.a (.fz (.int .i64 (0 : Int))))))], [], 0⟩)))) := by kernel_rfl
theorem v48_1a (x0 : List UInt8) (x3 : Int) (r : TV) (Hs' : List AObj) : vcP Tryz.prog sh lv48 48 0 (fun r0 Hs0 => TV.Le r0 r ∧ Hs0 = Hs') (RPt Tryz.prog 48 0 r Hs') 1 ⟨[(0, (.c (.a (.fz (.str x0))))), (3, (.c (.a (.fz (.int .i64 x3)))))], [], 0⟩ =
  (br (decide ((x3 : Int) < (((List.length x0) : Nat) : Int))) ((0 ≤ x3 ∧ x3 < (((List.length x0) : Nat) : Int)) ∧ (∃ b1 : Bool, ((AC Tryz.prog 77 [(.c (.a (.fz (.int .u8 ((UInt8.toNat (List.getD x0 (Int.toNat x3) 0) : Nat) : Int)))))] [] (.c (.a (.fz (.bool b1)))) []) ∧ (br (!b1) (TV.Le (.c (.a (.fz (.bool false)))) r ∧ [] = Hs') (RPt Tryz.prog 48 0 r Hs' 1 ⟨[(0, (.c (.a (.fz (.str x0))))), (3, (.c (.a (.fz (.int .i64 (IntKind.wrap .i64 (x3 + (1 : Int))))))))], [], 0⟩))))) (br (decide (((((List.length x0) : Nat) : Int) : Int) ≥ (1 : Int))) (TV.Le (.c (.a (.fz (.bool (decide (((((List.length x0) : Nat) : Int) : Int) ≤ (32 : Int))))))) r ∧ [] = Hs') (TV.Le (.c (.a (.fz (.bool false)))) r ∧ [] = Hs'))) := by kernel_rfl
def lv49 : List (Nat × List Nat) := [(1, [0, 3, 4])]
theorem v49 (name : List UInt8) (r : TV) (Hs' : List AObj) : vcE Tryz.prog sh lv49 49 [(.c (.a (.fz (.str name))))] [] (fun r0 Hs0 => TV.Le r0 r ∧ Hs0 = Hs') (RPt Tryz.prog 49 0 r Hs') =
  (RPt Tryz.prog 49 0 r Hs' 1 ⟨[(0, (.c (.a (.fz (.str name))))), (3, (.c (.a (.osl 0 1 0 15)))), (4, (.c (.a (.fz (.int .i64 (0 : Int))))))], [(0, (.arz 1 [[(.str [58, 45])], [(.str [44])], [(.str [59])], [(.str [61, 62])], [(.str [61])], [(.str [105, 115])], [(.str [60])], [(.str [61, 60])], [(.str [62])], [(.str [62, 61])], [(.str [116, 114, 117, 101])], [(.str [102, 97, 105, 108])], [(.str [33])], [(.str [112, 105])], [(.str [115, 105, 103, 109, 97])]]))], 1⟩) := by kernel_rfl
theorem v49_1a (x0 : List UInt8) (x3l : Nat) (x4 : Int) (h0 : List (List FV)) (r : TV) (Hs' : List AObj) : vcP Tryz.prog sh lv49 49 0 (fun r0 Hs0 => TV.Le r0 r ∧ Hs0 = Hs') (RPt Tryz.prog 49 0 r Hs') 1 ⟨[(0, (.c (.a (.fz (.str x0))))), (3, (.c (.a (.osl 0 1 0 x3l)))), (4, (.c (.a (.fz (.int .i64 x4)))))], [(0, (.arz 1 h0))], 1⟩ =
  (br (decide ((x4 : Int) < ((x3l : Nat) : Int))) ((0 ≤ x4 ∧ x4 < ((x3l : Nat) : Int)) ∧ ((((0 + (Int.toNat x4)) < (List.length h0)) ∧ ((([(.str (FV.asS (List.getD (List.getD h0 (0 + (Int.toNat x4)) []) 0 FV.nils)))] : List FV) = (List.take 1 (List.drop 0 (List.getD h0 (0 + (Int.toNat x4)) [])))) ∧ ((1 : Nat) = 1))) ∧ (br (((FV.asS (List.getD (List.getD h0 (0 + (Int.toNat x4)) []) 0 FV.nils)) : List UInt8) == x0) (TV.Le (.c (.a (.fz (.bool true)))) r ∧ [] = Hs') (RPt Tryz.prog 49 0 r Hs' 1 ⟨[(0, (.c (.a (.fz (.str x0))))), (3, (.c (.a (.osl 0 1 0 x3l)))), (4, (.c (.a (.fz (.int .i64 (IntKind.wrap .i64 (x4 + (1 : Int))))))))], [(0, (.arz 1 h0))], 1⟩)))) (TV.Le (.c (.a (.fz (.bool false)))) r ∧ [] = Hs')) := by kernel_rfl
def lv50 : List (Nat × List Nat) := []
theorem v50 (t_0 : Int) (t_1 : List UInt8) (t_2 : Int) (t_3 : List (List FV)) (r : TV) (Hs' : List AObj) : vcE Tryz.prog sh lv50 50 [(.agg [(.a (.fz (.int .i64 t_0))), (.a (.fz (.str t_1))), (.a (.fz (.int .i64 t_2))), (.a (.fz (.sl false 4 t_3)))])] [] (fun r0 Hs0 => TV.Le r0 r ∧ Hs0 = Hs') (RPt Tryz.prog 50 0 r Hs') =
  (br ((t_0 : Int) == (0 : Int)) (br ((t_1 : List UInt8) == []) (br ((t_2 : Int) == (0 : Int)) ((FV.isSl 4 (.sl false 4 t_3) = true) ∧ (TV.Le (.c (.a (.fz (.bool (((((List.length t_3) : Nat) : Int) : Int) == (0 : Int)))))) r ∧ [] = Hs')) (TV.Le (.c (.a (.fz (.bool false)))) r ∧ [] = Hs')) (TV.Le (.c (.a (.fz (.bool false)))) r ∧ [] = Hs')) (TV.Le (.c (.a (.fz (.bool false)))) r ∧ [] = Hs')) := by kernel_rfl
def lv51 : List (Nat × List Nat) := [(3, [1, 3, 7])]
theorem v51 (t_0 : Int) (t_1 : List UInt8) (t_2 : Int) (t_3 : List (List FV)) (r : TV) (Hs' : List AObj) : vcE Tryz.prog sh lv51 51 [(.agg [(.a (.fz (.int .i64 t_0))), (.a (.fz (.str t_1))), (.a (.fz (.int .i64 t_2))), (.a (.fz (.sl false 4 t_3)))])] [] (fun r0 Hs0 => TV.Le r0 r ∧ Hs0 = Hs') (RPt Tryz.prog 51 0 r Hs') =
  (br ((t_0 : Int) == (0 : Int)) (∃ b1 : Bool, ((AC Tryz.prog 47 [(.c (.a (.fz (.str t_1))))] [] (.c (.a (.fz (.bool b1)))) []) ∧ (∃ b2 : Bool, ((AC Tryz.prog 48 [(.c (.a (.fz (.str t_1))))] [] (.c (.a (.fz (.bool b2)))) []) ∧ (br b1 (br ((t_2 : Int) == (0 : Int)) ((FV.isSl 4 (.sl false 4 t_3) = true) ∧ (TV.Le (.c (.a (.fz (.bool (((((List.length t_3) : Nat) : Int) : Int) == (0 : Int)))))) r ∧ [] = Hs')) (TV.Le (.c (.a (.fz (.bool false)))) r ∧ [] = Hs')) (br b2 (br ((t_2 : Int) == (0 : Int)) ((FV.isSl 4 (.sl false 4 t_3) = true) ∧ (TV.Le (.c (.a (.fz (.bool (((((List.length t_3) : Nat) : Int) : Int) == (0 : Int)))))) r ∧ [] = Hs')) (TV.Le (.c (.a (.fz (.bool false)))) r ∧ [] = Hs')) (TV.Le (.c (.a (.fz (.bool false)))) r ∧ [] = Hs'))))))) (br ((t_0 : Int) == (1 : Int)) (br (decide ((t_2 : Int) ≥ (1 : Int))) (br ((t_1 : List UInt8) == []) ((FV.isSl 4 (.sl false 4 t_3) = true) ∧ (RPt Tryz.prog 51 0 r Hs' 3 ⟨[(1, (.c (.a (.ep 0 4 0 0)))), (3, (.c (.a (.fz (.bool (((((List.length t_3) : Nat) : Int) : Int) == (0 : Int))))))), (7, (.c (.a (.fz (.int .i64 (0 : Int))))))], [(0, (.arr 4 [[(.a (.fz (.int .i64 t_0))), (.a (.fz (.str t_1))), (.a (.fz (.int .i64 t_2))), (.a (.fz (.sl false 4 t_3)))]]))], 1⟩)) (RPt Tryz.prog 51 0 r Hs' 3 ⟨[(1, (.c (.a (.ep 0 4 0 0)))), (3, (.c (.a (.fz (.bool false))))), (7, (.c (.a (.fz (.int .i64 (0 : Int))))))], [(0, (.arr 4 [[(.a (.fz (.int .i64 t_0))), (.a (.fz (.str t_1))), (.a (.fz (.int .i64 t_2))), (.a (.fz (.sl false 4 t_3)))]]))], 1⟩)) (RPt Tryz.prog 51 0 r Hs' 3 ⟨[(1, (.c (.a (.ep 0 4 0 0)))), (3, (.c (.a (.fz (.bool false))))), (7, (.c (.a (.fz (.int .i64 (0 : Int))))))], [(0, (.arr 4 [[(.a (.fz (.int .i64 t_0))), (.a (.fz (.str t_1))), (.a (.fz (.int .i64 t_2))), (.a (.fz (.sl false 4 t_3)))]]))], 1⟩)) (br ((t_0 : Int) == (2 : Int)) (br ((t_1 : List UInt8) == []) ((FV.isSl 4 (.sl false 4 t_3) = true) ∧ (RPt Tryz.prog 51 0 r Hs' 3 ⟨[(1, (.c (.a (.ep 0 4 0 0)))), (3, (.c (.a (.fz (.bool (((((List.length t_3) : Nat) : Int) : Int) == (0 : Int))))))), (7, (.c (.a (.fz (.int .i64 (0 : Int))))))], [(0, (.arr 4 [[(.a (.fz (.int .i64 t_0))), (.a (.fz (.str t_1))), (.a (.fz (.int .i64 t_2))), (.a (.fz (.sl false 4 t_3)))]]))], 1⟩)) (RPt Tryz.prog 51 0 r Hs' 3 ⟨[(1, (.c (.a (.ep 0 4 0 0)))), (3, (.c (.a (.fz (.bool false))))), (7, (.c (.a (.fz (.int .i64 (0 : Int))))))], [(0, (.arr 4 [[(.a (.fz (.int .i64 t_0))), (.a (.fz (.str t_1))), (.a (.fz (.int .i64 t_2))), (.a (.fz (.sl false 4 t_3)))]]))], 1⟩)) (br ((t_0 : Int) == (3 : Int)) (br (decide ((t_2 : Int) ≥ (0 : Int))) (br (decide ((t_2 : Int) ≤ (4611686018427387904 : Int))) (br ((t_1 : List UInt8) == []) ((FV.isSl 4 (.sl false 4 t_3) = true) ∧ (RPt Tryz.prog 51 0 r Hs' 3 ⟨[(1, (.c (.a (.ep 0 4 0 0)))), (3, (.c (.a (.fz (.bool (((((List.length t_3) : Nat) : Int) : Int) == (0 : Int))))))), (7, (.c (.a (.fz (.int .i64 (0 : Int))))))], [(0, (.arr 4 [[(.a (.fz (.int .i64 t_0))), (.a (.fz (.str t_1))), (.a (.fz (.int .i64 t_2))), (.a (.fz (.sl false 4 t_3)))]]))], 1⟩)) (RPt Tryz.prog 51 0 r Hs' 3 ⟨[(1, (.c (.a (.ep 0 4 0 0)))), (3, (.c (.a (.fz (.bool false))))), (7, (.c (.a (.fz (.int .i64 (0 : Int))))))], [(0, (.arr 4 [[(.a (.fz (.int .i64 t_0))), (.a (.fz (.str t_1))), (.a (.fz (.int .i64 t_2))), (.a (.fz (.sl false 4 t_3)))]]))], 1⟩)) (RPt Tryz.prog 51 0 r Hs' 3 ⟨[(1, (.c (.a (.ep 0 4 0 0)))), (3, (.c (.a (.fz (.bool false))))), (7, (.c (.a (.fz (.int .i64 (0 : Int))))))], [(0, (.arr 4 [[(.a (.fz (.int .i64 t_0))), (.a (.fz (.str t_1))), (.a (.fz (.int .i64 t_2))), (.a (.fz (.sl false 4 t_3)))]]))], 1⟩)) (RPt Tryz.prog 51 0 r Hs' 3 ⟨[(1, (.c (.a (.ep 0 4 0 0)))), (3, (.c (.a (.fz (.bool false))))), (7, (.c (.a (.fz (.int .i64 (0 : Int))))))], [(0, (.arr 4 [[(.a (.fz (.int .i64 t_0))), (.a (.fz (.str t_1))), (.a (.fz (.int .i64 t_2))), (.a (.fz (.sl false 4 t_3)))]]))], 1⟩)) (br ((t_0 : Int) == (4 : Int)) (br (decide ((t_2 : Int) ≥ (0 : Int))) (br (decide ((t_2 : Int) ≤ (4611686018427387904 : Int))) (br ((t_1 : List UInt8) == []) ((FV.isSl 4 (.sl false 4 t_3) = true) ∧ (RPt Tryz.prog 51 0 r Hs' 3 ⟨[(1, (.c (.a (.ep 0 4 0 0)))), (3, (.c (.a (.fz (.bool (((((List.length t_3) : Nat) : Int) : Int) == (0 : Int))))))), (7, (.c (.a (.fz (.int .i64 (0 : Int))))))], [(0, (.arr 4 [[(.a (.fz (.int .i64 t_0))), (.a (.fz (.str t_1))), (.a (.fz (.int .i64 t_2))), (.a (.fz (.sl false 4 t_3)))]]))], 1⟩)) (RPt Tryz.prog 51 0 r Hs' 3 ⟨[(1, (.c (.a (.ep 0 4 0 0)))), (3, (.c (.a (.fz (.bool false))))), (7, (.c (.a (.fz (.int .i64 (0 : Int))))))], [(0, (.arr 4 [[(.a (.fz (.int .i64 t_0))), (.a (.fz (.str t_1))), (.a (.fz (.int .i64 t_2))), (.a (.fz (.sl false 4 t_3)))]]))], 1⟩)) (RPt Tryz.prog 51 0 r Hs' 3 ⟨[(1, (.c (.a (.ep 0 4 0 0)))), (3, (.c (.a (.fz (.bool false))))), (7, (.c (.a (.fz (.int .i64 (0 : Int))))))], [(0, (.arr 4 [[(.a (.fz (.int .i64 t_0))), (.a (.fz (.str t_1))), (.a (.fz (.int .i64 t_2))), (.a (.fz (.sl false 4 t_3)))]]))], 1⟩)) (RPt Tryz.prog 51 0 r Hs' 3 ⟨[(1, (.c (.a (.ep 0 4 0 0)))), (3, (.c (.a (.fz (.bool false))))), (7, (.c (.a (.fz (.int .i64 (0 : Int))))))], [(0, (.arr 4 [[(.a (.fz (.int .i64 t_0))), (.a (.fz (.str t_1))), (.a (.fz (.int .i64 t_2))), (.a (.fz (.sl false 4 t_3)))]]))], 1⟩)) (br ((t_0 : Int) == (5 : Int)) (br ((t_2 : Int) == (0 : Int)) (br ((t_1 : List UInt8) == []) ((FV.isSl 4 (.sl false 4 t_3) = true) ∧ (RPt Tryz.prog 51 0 r Hs' 3 ⟨[(1, (.c (.a (.ep 0 4 0 0)))), (3, (.c (.a (.fz (.bool (((((List.length t_3) : Nat) : Int) : Int) == (1 : Int))))))), (7, (.c (.a (.fz (.int .i64 (0 : Int))))))], [(0, (.arr 4 [[(.a (.fz (.int .i64 t_0))), (.a (.fz (.str t_1))), (.a (.fz (.int .i64 t_2))), (.a (.fz (.sl false 4 t_3)))]]))], 1⟩)) (RPt Tryz.prog 51 0 r Hs' 3 ⟨[(1, (.c (.a (.ep 0 4 0 0)))), (3, (.c (.a (.fz (.bool false))))), (7, (.c (.a (.fz (.int .i64 (0 : Int))))))], [(0, (.arr 4 [[(.a (.fz (.int .i64 t_0))), (.a (.fz (.str t_1))), (.a (.fz (.int .i64 t_2))), (.a (.fz (.sl false 4 t_3)))]]))], 1⟩)) (RPt Tryz.prog 51 0 r Hs' 3 ⟨[(1, (.c (.a (.ep 0 4 0 0)))), (3, (.c (.a (.fz (.bool false))))), (7, (.c (.a (.fz (.int .i64 (0 : Int))))))], [(0, (.arr 4 [[(.a (.fz (.int .i64 t_0))), (.a (.fz (.str t_1))), (.a (.fz (.int .i64 t_2))), (.a (.fz (.sl false 4 t_3)))]]))], 1⟩)) (br ((t_0 : Int) == (6 : Int)) (br ((t_2 : Int) == (0 : Int)) ((FV.isSl 4 (.sl false 4 t_3) = true) ∧ (br (decide (((((List.length t_3) : Nat) : Int) : Int) ≥ (2 : Int))) (((FV.isSl 4 (.sl false 4 t_3) = true) ∧ ((0 ≤ (0 : Int)) ∧ (((0 : Int) < (((List.length t_3) : Nat) : Int)) ∧ (((rE (List.getD t_3 0 [])) : List FV) = (List.getD t_3 0 []))))) ∧ ((FV.isSl 4 (.sl false 4 t_3) = true) ∧ (br (((FV.asI (List.getD (List.getD t_3 0 []) 0 FV.nils)) : Int) != (6 : Int)) (br ((t_1 : List UInt8) == []) ((FV.isSl 4 (.sl false 4 t_3) = true) ∧ (RPt Tryz.prog 51 0 r Hs' 3 ⟨[(1, (.c (.a (.ep 0 4 0 0)))), (3, (.c (.a (.fz (.bool (((((List.length t_3) : Nat) : Int) : Int) == (((List.length t_3) : Nat) : Int))))))), (7, (.c (.a (.fz (.int .i64 (0 : Int))))))], [(0, (.arr 4 [[(.a (.fz (.int .i64 t_0))), (.a (.fz (.str t_1))), (.a (.fz (.int .i64 t_2))), (.a (.fz (.sl false 4 t_3)))]]))], 1⟩)) (RPt Tryz.prog 51 0 r Hs' 3 ⟨[(1, (.c (.a (.ep 0 4 0 0)))), (3, (.c (.a (.fz (.bool false))))), (7, (.c (.a (.fz (.int .i64 (0 : Int))))))], [(0, (.arr 4 [[(.a (.fz (.int .i64 t_0))), (.a (.fz (.str t_1))), (.a (.fz (.int .i64 t_2))), (.a (.fz (.sl false 4 t_3)))]]))], 1⟩)) (RPt Tryz.prog 51 0 r Hs' 3 ⟨[(1, (.c (.a (.ep 0 4 0 0)))), (3, (.c (.a (.fz (.bool false))))), (7, (.c (.a (.fz (.int .i64 (0 : Int))))))], [(0, (.arr 4 [[(.a (.fz (.int .i64 t_0))), (.a (.fz (.str t_1))), (.a (.fz (.int .i64 t_2))), (.a (.fz (.sl false 4 t_3)))]]))], 1⟩)))) ((FV.isSl 4 (.sl false 4 t_3) = true) ∧ (RPt Tryz.prog 51 0 r Hs' 3 ⟨[(1, (.c (.a (.ep 0 4 0 0)))), (3, (.c (.a (.fz (.bool false))))), (7, (.c (.a (.fz (.int .i64 (0 : Int))))))], [(0, (.arr 4 [[(.a (.fz (.int .i64 t_0))), (.a (.fz (.str t_1))), (.a (.fz (.int .i64 t_2))), (.a (.fz (.sl false 4 t_3)))]]))], 1⟩)))) ((FV.isSl 4 (.sl false 4 t_3) = true) ∧ (RPt Tryz.prog 51 0 r Hs' 3 ⟨[(1, (.c (.a (.ep 0 4 0 0)))), (3, (.c (.a (.fz (.bool false))))), (7, (.c (.a (.fz (.int .i64 (0 : Int))))))], [(0, (.arr 4 [[(.a (.fz (.int .i64 t_0))), (.a (.fz (.str t_1))), (.a (.fz (.int .i64 t_2))), (.a (.fz (.sl false 4 t_3)))]]))], 1⟩))) (RPt Tryz.prog 51 0 r Hs' 3 ⟨[(1, (.c (.a (.ep 0 4 0 0)))), (3, (.c (.a (.fz (.bool false))))), (7, (.c (.a (.fz (.int .i64 (0 : Int))))))], [(0, (.arr 4 [[(.a (.fz (.int .i64 t_0))), (.a (.fz (.str t_1))), (.a (.fz (.int .i64 t_2))), (.a (.fz (.sl false 4 t_3)))]]))], 1⟩)))))))) := by kernel_rfl
theorem v51_3a (x3 : Bool) (x7 : Int) (h0_0 : Int) (h0_1 : List UInt8) (h0_2 : Int) (h0_3 : List (List FV)) (r : TV) (Hs' : List AObj) : vcP Tryz.prog sh lv51 51 0 (fun r0 Hs0 => TV.Le r0 r ∧ Hs0 = Hs') (RPt Tryz.prog 51 0 r Hs') 3 ⟨[(1, (.c (.a (.ep 0 4 0 0)))), (3, (.c (.a (.fz (.bool x3))))), (7, (.c (.a (.fz (.int .i64 x7)))))], [(0, (.arr 4 [[(.a (.fz (.int .i64 h0_0))), (.a (.fz (.str h0_1))), (.a (.fz (.int .i64 h0_2))), (.a (.fz (.sl false 4 h0_3)))]]))], 1⟩ =
  ((FV.isSl 4 (.sl false 4 h0_3) = true) ∧ (br (decide ((x7 : Int) < (((List.length h0_3) : Nat) : Int))) (br x3 (((FV.isSl 4 (.sl false 4 h0_3) = true) ∧ ((0 ≤ x7) ∧ ((x7 < (((List.length h0_3) : Nat) : Int)) ∧ (((rE (List.getD h0_3 (Int.toNat x7) [])) : List FV) = (List.getD h0_3 (Int.toNat x7) []))))) ∧ (∃ b1 : Bool, ((AC Tryz.prog 51 [(aE (List.getD h0_3 (Int.toNat x7) []))] [] (.c (.a (.fz (.bool b1)))) []) ∧ (RPt Tryz.prog 51 0 r Hs' 3 ⟨[(1, (.c (.a (.ep 0 4 0 0)))), (3, (.c (.a (.fz (.bool b1))))), (7, (.c (.a (.fz (.int .i64 (IntKind.wrap .i64 (x7 + (1 : Int))))))))], [(0, (.arr 4 [[(.a (.fz (.int .i64 h0_0))), (.a (.fz (.str h0_1))), (.a (.fz (.int .i64 h0_2))), (.a (.fz (.sl false 4 h0_3)))]]))], 1⟩)))) (TV.Le (.c (.a (.fz (.bool x3)))) r ∧ [] = Hs')) (TV.Le (.c (.a (.fz (.bool x3)))) r ∧ [] = Hs'))) := by kernel_rfl
def lv52 : List (Nat × List Nat) := []
theorem v52 (t_0 : Int) (t_1 : List UInt8) (t_2 : Int) (t_3 : List (List FV)) (r : TV) (Hs' : List AObj) : vcE Tryz.prog sh lv52 52 [(.agg [(.a (.fz (.int .i64 t_0))), (.a (.fz (.str t_1))), (.a (.fz (.int .i64 t_2))), (.a (.fz (.sl false 4 t_3)))])] [] (fun r0 Hs0 => TV.Le r0 r ∧ Hs0 = Hs') (RPt Tryz.prog 52 0 r Hs') =
  (br ((t_0 : Int) == (6 : Int)) (((FV.isSl 4 (.sl false 4 t_3) = true) ∧ ((0 ≤ (0 : Int)) ∧ (((0 : Int) < (((List.length t_3) : Nat) : Int)) ∧ (((rE (List.getD t_3 0 [])) : List FV) = (List.getD t_3 0 []))))) ∧ ((FV.isSl 4 (.sl false 4 t_3) = true) ∧ (((0 ≤ (1 : Int)) ∧ (((1 : Int) ≤ (((List.length t_3) : Nat) : Int)) ∧ ((((List.length t_3) : Nat) : Int) ≤ (((List.length t_3) : Nat) : Int)))) ∧ (TV.Le (.tup [(true, (cE (List.getD t_3 0 []))), (false, [(.a (.fz (.sl false 4 (List.drop 1 (List.take (Int.toNat (((List.length t_3) : Nat) : Int)) t_3)))))])]) r ∧ [] = Hs')))) (TV.Le (.tup [(true, [(.a (.fz (.int .i64 t_0))), (.a (.fz (.str t_1))), (.a (.fz (.int .i64 t_2))), (.a (.fz (.sl false 4 t_3)))]), (false, [(.a (.fz .nils))])]) r ∧ [] = Hs')) := by kernel_rfl
def lv53 : List (Nat × List Nat) := []
theorem v53 (t_0 : Int) (t_1 : List UInt8) (t_2 : Int) (t_3 : List (List FV)) (n : Int) (r : TV) (Hs' : List AObj) : vcE Tryz.prog sh lv53 53 [(.agg [(.a (.fz (.int .i64 t_0))), (.a (.fz (.str t_1))), (.a (.fz (.int .i64 t_2))), (.a (.fz (.sl false 4 t_3)))]), (.c (.a (.fz (.int .i64 n))))] [] (fun r0 Hs0 => TV.Le r0 r ∧ Hs0 = Hs') (RPt Tryz.prog 53 0 r Hs') =
  (∃ b1 : Bool, ((AC Tryz.prog 51 [(.agg [(.a (.fz (.int .i64 t_0))), (.a (.fz (.str t_1))), (.a (.fz (.int .i64 t_2))), (.a (.fz (.sl false 4 t_3)))])] [] (.c (.a (.fz (.bool b1)))) []) ∧ (br b1 (∃ n2 : Int, ((AC Tryz.prog 78 [(.agg [(.a (.fz (.int .i64 t_0))), (.a (.fz (.str t_1))), (.a (.fz (.int .i64 t_2))), (.a (.fz (.sl false 4 t_3)))]), (.c (.a (.fz (.int .i64 (0 : Int)))))] [] (.c (.a (.fz (.int .i64 n2)))) []) ∧ (br ((n2 : Int) == (0 : Int)) (∃ b3 : Bool, ((AC Tryz.prog 79 [(.agg [(.a (.fz (.int .i64 t_0))), (.a (.fz (.str t_1))), (.a (.fz (.int .i64 t_2))), (.a (.fz (.sl false 4 t_3)))]), (.c (.a (.fz (.int .i64 n))))] [] (.c (.a (.fz (.bool b3)))) []) ∧ (TV.Le (.c (.a (.fz (.bool b3)))) r ∧ [] = Hs'))) (TV.Le (.c (.a (.fz (.bool false)))) r ∧ [] = Hs')))) (TV.Le (.c (.a (.fz (.bool false)))) r ∧ [] = Hs')))) := by kernel_rfl
def lv54 : List (Nat × List Nat) := []
theorem v54 (ll : Nat) (a1 : Int) (p_0 : Bool) (p_1 : Int) (p_2 : Int) (o0 : List (List FV)) (r : TV) (Hs' : List AObj) : vcE Tryz.prog sh lv54 54 [(.c (.a (.osl 0 3 0 ll))), (.c (.a (.fz (.int .i64 a1)))), (.agg [(.a (.fz (.bool p_0))), (.a (.fz (.int .i64 p_1))), (.a (.fz (.int .i64 p_2)))])] [(.arz 3 o0)] (fun r0 Hs0 => TV.Le r0 r ∧ Hs0 = Hs') (RPt Tryz.prog 54 1 r Hs') =
  (br (decide ((a1 : Int) ≥ ((ll : Nat) : Int))) (TV.Le (.c (.a (.fz (.bool false)))) r ∧ [(.arz 3 o0)] = Hs') ((0 ≤ a1 ∧ a1 < ((ll : Nat) : Int)) ∧ ((((0 + (Int.toNat a1)) < (List.length o0)) ∧ ((([(.bool (FV.asB (List.getD (List.getD o0 (0 + (Int.toNat a1)) []) 0 FV.nils)))] : List FV) = (List.take 1 (List.drop 0 (List.getD o0 (0 + (Int.toNat a1)) [])))) ∧ ((1 : Nat) = 1))) ∧ (br (!(FV.asB (List.getD (List.getD o0 (0 + (Int.toNat a1)) []) 0 FV.nils))) ((0 ≤ a1 ∧ a1 < ((ll : Nat) : Int)) ∧ (((0 + (Int.toNat a1)) < (List.length o0) ∧ (List.length (List.getD o0 (0 + (Int.toNat a1)) [])) = 3) ∧ (TV.Le (.c (.a (.fz (.bool true)))) r ∧ [(.arz 3 (List.set o0 (0 + (Int.toNat a1)) [(.bool p_0), (.int .i64 p_1), (.int .i64 p_2)]))] = Hs'))) ((0 ≤ a1 ∧ a1 < ((ll : Nat) : Int)) ∧ ((((0 + (Int.toNat a1)) < (List.length o0)) ∧ ((([(.bool (FV.asB (List.getD (List.getD o0 (0 + (Int.toNat a1)) []) 0 FV.nils))), (.int .i64 (FV.asI (List.getD (List.getD o0 (0 + (Int.toNat a1)) []) 1 FV.nils))), (.int .i64 (FV.asI (List.getD (List.getD o0 (0 + (Int.toNat a1)) []) 2 FV.nils)))] : List FV) = (List.take 3 (List.drop 0 (List.getD o0 (0 + (Int.toNat a1)) [])))) ∧ ((3 : Nat) = 3))) ∧ (TV.Le (.c (.a (.fz (.bool ((((FV.asB (List.getD (List.getD o0 (0 + (Int.toNat a1)) []) 0 FV.nils)) : Bool) == p_0) && ((((FV.asI (List.getD (List.getD o0 (0 + (Int.toNat a1)) []) 1 FV.nils)) : Int) == p_1) && ((((FV.asI (List.getD (List.getD o0 (0 + (Int.toNat a1)) []) 2 FV.nils)) : Int) == p_2) && true))))))) r ∧ [(.arz 3 o0)] = Hs'))))))) := by kernel_rfl
def lv23 : List (Nat × List Nat) := []
theorem v23 (d_0 : List UInt8) (d_1 : Int) (d_2 : Int) (d_3 : Int) (d_4 : Int) (d_5 : List (List FV)) (o0_0 : Int) (r : TV) (Hs' : List AObj) : vcE Tryz.prog sh lv23 23 [(.agg [(.a (.fz (.str d_0))), (.a (.fz (.int .i64 d_1))), (.a (.fz (.int .i64 d_2))), (.a (.fz (.int .i64 d_3))), (.a (.fz (.int .i64 d_4))), (.a (.fz (.sl false 8 d_5)))]), (.c (.a (.ep 0 1 0 0)))] [(.arr 1 [[(.a (.fz (.int .i64 o0_0)))]])] (fun r0 Hs0 => TV.Le r0 r ∧ Hs0 = Hs') (RPt Tryz.prog 23 1 r Hs') =
  ((FV.isSl 8 (.sl false 8 d_5) = true) ∧ (TV.Le (.tup []) r ∧ [(.arr 1 [[(.a (.fz (.int .i64 (IntKind.wrap .i64 (o0_0 + (((List.length d_5) : Nat) : Int))))))]])] = Hs')) := by kernel_rfl
def lv24 : List (Nat × List Nat) := []
theorem v24 (d_0 : List UInt8) (d_1 : Int) (d_2 : Int) (d_3 : Int) (d_4 : Int) (d_5 : List (List FV)) (o0_0 : Int) (r : TV) (Hs' : List AObj) : vcE Tryz.prog sh lv24 24 [(.agg [(.a (.fz (.str d_0))), (.a (.fz (.int .i64 d_1))), (.a (.fz (.int .i64 d_2))), (.a (.fz (.int .i64 d_3))), (.a (.fz (.int .i64 d_4))), (.a (.fz (.sl false 8 d_5)))]), (.c (.a (.ep 0 1 0 0)))] [(.arr 1 [[(.a (.fz (.int .i64 o0_0)))]])] (fun r0 Hs0 => TV.Le r0 r ∧ Hs0 = Hs') (RPt Tryz.prog 24 1 r Hs') =
  (TV.Le (.tup []) r ∧ [(.arr 1 [[(.a (.fz (.int .i64 (z1p [o0_0, d_4]))))]])] = Hs') := by kernel_rfl
def lv57 : List (Nat × List Nat) := []
theorem v57 (t_0 : Int) (t_1 : List UInt8) (t_2 : Int) (t_3 : List (List FV)) (most : Int) (r : TV) (Hs' : List AObj) : vcE Tryz.prog sh lv57 57 [(.agg [(.a (.fz (.int .i64 t_0))), (.a (.fz (.str t_1))), (.a (.fz (.int .i64 t_2))), (.a (.fz (.sl false 4 t_3)))]), (.c (.a (.fz (.int .i64 most))))] [] (fun r0 Hs0 => TV.Le r0 r ∧ Hs0 = Hs') (RPt Tryz.prog 57 0 r Hs') =
  (∃ n1 : Int, ((AC Tryz.prog 82 [(.agg [(.a (.fz (.int .i64 t_0))), (.a (.fz (.str t_1))), (.a (.fz (.int .i64 t_2))), (.a (.fz (.sl false 4 t_3)))]), (.c (.a (.fz (.int .i64 most))))] [] (.c (.a (.fz (.int .i64 n1)))) []) ∧ (TV.Le (.c (.a (.fz (.bool (decide ((n1 : Int) < (0 : Int))))))) r ∧ [] = Hs'))) := by kernel_rfl
def lv58 : List (Nat × List Nat) := [(1, [1, 2, 5])]
theorem v58 (t_0 : Int) (t_1 : List UInt8) (t_2 : Int) (t_3 : List (List FV)) (most : Int) (r : TV) (Hs' : List AObj) : vcE Tryz.prog sh lv58 58 [(.agg [(.a (.fz (.int .i64 t_0))), (.a (.fz (.str t_1))), (.a (.fz (.int .i64 t_2))), (.a (.fz (.sl false 4 t_3)))]), (.c (.a (.fz (.int .i64 most))))] [] (fun r0 Hs0 => TV.Le r0 r ∧ Hs0 = Hs') (RPt Tryz.prog 58 0 r Hs') =
  (br ((t_0 : Int) != (2 : Int)) (br (decide ((t_2 : Int) > most)) (TV.Le (.c (.a (.fz (.bool false)))) r ∧ [] = Hs') (br (decide ((t_2 : Int) < (IntKind.wrap .i64 (0 - most)))) (TV.Le (.c (.a (.fz (.bool false)))) r ∧ [] = Hs') (RPt Tryz.prog 58 0 r Hs' 1 ⟨[(1, (.c (.a (.fz (.int .i64 most))))), (2, (.c (.a (.ep 0 4 0 0)))), (5, (.c (.a (.fz (.int .i64 (0 : Int))))))], [(0, (.arr 4 [[(.a (.fz (.int .i64 t_0))), (.a (.fz (.str t_1))), (.a (.fz (.int .i64 t_2))), (.a (.fz (.sl false 4 t_3)))]]))], 1⟩))) (RPt Tryz.prog 58 0 r Hs' 1 ⟨[(1, (.c (.a (.fz (.int .i64 most))))), (2, (.c (.a (.ep 0 4 0 0)))), (5, (.c (.a (.fz (.int .i64 (0 : Int))))))], [(0, (.arr 4 [[(.a (.fz (.int .i64 t_0))), (.a (.fz (.str t_1))), (.a (.fz (.int .i64 t_2))), (.a (.fz (.sl false 4 t_3)))]]))], 1⟩)) := by kernel_rfl
theorem v58_1a (x1 : Int) (x5 : Int) (h0_0 : Int) (h0_1 : List UInt8) (h0_2 : Int) (h0_3 : List (List FV)) (r : TV) (Hs' : List AObj) : vcP Tryz.prog sh lv58 58 0 (fun r0 Hs0 => TV.Le r0 r ∧ Hs0 = Hs') (RPt Tryz.prog 58 0 r Hs') 1 ⟨[(1, (.c (.a (.fz (.int .i64 x1))))), (2, (.c (.a (.ep 0 4 0 0)))), (5, (.c (.a (.fz (.int .i64 x5)))))], [(0, (.arr 4 [[(.a (.fz (.int .i64 h0_0))), (.a (.fz (.str h0_1))), (.a (.fz (.int .i64 h0_2))), (.a (.fz (.sl false 4 h0_3)))]]))], 1⟩ =
  ((FV.isSl 4 (.sl false 4 h0_3) = true) ∧ (br (decide ((x5 : Int) < (((List.length h0_3) : Nat) : Int))) (((FV.isSl 4 (.sl false 4 h0_3) = true) ∧ ((0 ≤ x5) ∧ ((x5 < (((List.length h0_3) : Nat) : Int)) ∧ (((rE (List.getD h0_3 (Int.toNat x5) [])) : List FV) = (List.getD h0_3 (Int.toNat x5) []))))) ∧ (∃ b1 : Bool, ((AC Tryz.prog 58 [(aE (List.getD h0_3 (Int.toNat x5) [])), (.c (.a (.fz (.int .i64 x1))))] [] (.c (.a (.fz (.bool b1)))) []) ∧ (br (!b1) (TV.Le (.c (.a (.fz (.bool false)))) r ∧ [] = Hs') (RPt Tryz.prog 58 0 r Hs' 1 ⟨[(1, (.c (.a (.fz (.int .i64 x1))))), (2, (.c (.a (.ep 0 4 0 0)))), (5, (.c (.a (.fz (.int .i64 (IntKind.wrap .i64 (x5 + (1 : Int))))))))], [(0, (.arr 4 [[(.a (.fz (.int .i64 h0_0))), (.a (.fz (.str h0_1))), (.a (.fz (.int .i64 h0_2))), (.a (.fz (.sl false 4 h0_3)))]]))], 1⟩))))) (TV.Le (.c (.a (.fz (.bool true)))) r ∧ [] = Hs'))) := by kernel_rfl
def lv33 : List (Nat × List Nat) := []
theorem v33 (c : Int) (r : TV) (Hs' : List AObj) : vcE Tryz.prog sh lv33 33 [(.c (.a (.fz (.int .u8 c))))] [] (fun r0 Hs0 => TV.Le r0 r ∧ Hs0 = Hs') (RPt Tryz.prog 33 0 r Hs') =
  (∃ b1 : Bool, ((AC Tryz.prog 31 [(.c (.a (.fz (.int .u8 c))))] [] (.c (.a (.fz (.bool b1)))) []) ∧ (br b1 (TV.Le (.c (.a (.fz (.bool true)))) r ∧ [] = Hs') (∃ b2 : Bool, ((AC Tryz.prog 59 [(.c (.a (.fz (.int .u8 c))))] [] (.c (.a (.fz (.bool b2)))) []) ∧ (br b2 (TV.Le (.c (.a (.fz (.bool true)))) r ∧ [] = Hs') (∃ b3 : Bool, ((AC Tryz.prog 60 [(.c (.a (.fz (.int .u8 c))))] [] (.c (.a (.fz (.bool b3)))) []) ∧ (br b3 (TV.Le (.c (.a (.fz (.bool true)))) r ∧ [] = Hs') (TV.Le (.c (.a (.fz (.bool ((c : Int) == (39 : Int)))))) r ∧ [] = Hs')))))))))) := by kernel_rfl
def lv63 : List (Nat × List Nat) := [(1, [0, 1, 7, 8])]
theorem v63_F37 (s : List (List FV)) (r : TV) (Hs' : List AObj) : vcE Tryz.prog sh lv63 63 [(.c (.a (.fz (.sl false 1 s)))), (.c (.fn (.func 37) [] []))] [] (fun r0 Hs0 => TV.Le r0 r ∧ Hs0 = Hs') (RPt Tryz.prog 63 0 r Hs') =
  ((FV.isSl 1 (.sl false 1 s) = true) ∧ (RPt Tryz.prog 63 0 r Hs' 1 ⟨[(0, (.c (.a (.fz (.sl false 1 s))))), (1, (.c (.fn (.func 37) [] []))), (7, (.c (.a (.fz (.int .i64 (((List.length s) : Nat) : Int)))))), (8, (.c (.a (.fz (.int .i64 (0 : Int))))))], [], 0⟩)) := by kernel_rfl
theorem z8w (x0 : List (List FV)) (x7 : Int) (x8 : Int) (r : TV) (Hs' : List AObj) : vcP Tryz.prog sh lv63 63 0 (fun r0 Hs0 => TV.Le r0 r ∧ Hs0 = Hs') (RPt Tryz.prog 63 0 r Hs') 1 ⟨[(0, (.c (.a (.fz (.sl false 1 x0))))), (1, (.c (.fn (.func 37) [] []))), (7, (.c (.a (.fz (.int .i64 x7))))), (8, (.c (.a (.fz (.int .i64 x8)))))], [], 0⟩ =
  (br (decide ((x8 : Int) < x7)) (((FV.isSl 1 (.sl false 1 x0) = true) ∧ ((0 ≤ x8) ∧ ((x8 < (((List.length x0) : Nat) : Int)) ∧ (([(.int .i64 (FV.asI (List.getD (List.getD x0 (Int.toNat x8) []) 0 FV.nils)))] : List FV) = (List.getD x0 (Int.toNat x8) []))))) ∧ (∃ b1 : Bool, ((AC Tryz.prog 37 [(.c (.a (.fz (.int .i64 (FV.asI (List.getD (List.getD x0 (Int.toNat x8) []) 0 FV.nils))))))] [] (.c (.a (.fz (.bool b1)))) []) ∧ (br b1 (TV.Le (.c (.a (.fz (.int .i64 x8)))) r ∧ [] = Hs') (RPt Tryz.prog 63 0 r Hs' 1 ⟨[(0, (.c (.a (.fz (.sl false 1 x0))))), (1, (.c (.fn (.func 37) [] []))), (7, (.c (.a (.fz (.int .i64 x7))))), (8, (.c (.a (.fz (.int .i64 (IntKind.wrap .i64 (x8 + (1 : Int))))))))], [], 0⟩))))) (TV.Le (.c (.a (.fz (.int .i64 (-1 : Int))))) r ∧ [] = Hs')) := by kernel_rfl
def lv34 : List (Nat × List Nat) := []
theorem v34 (c : Int) (r : TV) (Hs' : List AObj) : vcE Tryz.prog sh lv34 34 [(.c (.a (.fz (.int .u8 c))))] [] (fun r0 Hs0 => TV.Le r0 r ∧ Hs0 = Hs') (RPt Tryz.prog 34 0 r Hs') =
  (∃ n1 : Int, ((AC Tryz.prog 61 [(.c (.a (.fz (.str [43, 45, 42, 47, 60, 62, 61, 38, 124, 94, 126, 64, 35, 36, 63, 58])))), (.c (.a (.fz (.int .u8 c))))] [] (.c (.a (.fz (.int .i64 n1)))) []) ∧ (TV.Le (.c (.a (.fz (.bool (decide ((n1 : Int) ≥ (0 : Int))))))) r ∧ [] = Hs'))) := by kernel_rfl
def lv62 : List (Nat × List Nat) := []
theorem v62 (s : List UInt8) (substr : List UInt8) (r : TV) (Hs' : List AObj) : vcE Tryz.prog sh lv62 62 [(.c (.a (.fz (.str s)))), (.c (.a (.fz (.str substr))))] [] (fun r0 Hs0 => TV.Le r0 r ∧ Hs0 = Hs') (RPt Tryz.prog 62 0 r Hs') =
  (∃ n1 : Int, ((AC Tryz.prog 84 [(.c (.a (.fz (.str s)))), (.c (.a (.fz (.str substr))))] [] (.c (.a (.fz (.int .i64 n1)))) []) ∧ (TV.Le (.c (.a (.fz (.int .i64 n1)))) r ∧ [] = Hs'))) := by kernel_rfl
def lv39 : List (Nat × List Nat) := []
theorem v39 (t_0 : Int) (t_1 : List UInt8) (t_2 : Int) (t_3 : List (List FV)) (r : TV) (Hs' : List AObj) : vcE Tryz.prog sh lv39 39 [(.agg [(.a (.fz (.int .i64 t_0))), (.a (.fz (.str t_1))), (.a (.fz (.int .i64 t_2))), (.a (.fz (.sl false 4 t_3)))])] [] (fun r0 Hs0 => TV.Le r0 r ∧ Hs0 = Hs') (RPt Tryz.prog 39 0 r Hs') =
  (br ((t_0 : Int) == (0 : Int)) (∃ b1 : Bool, ((AC Tryz.prog 12 [(.c (.a (.fz (.str t_1))))] [] (.c (.a (.fz (.bool b1)))) []) ∧ (br b1 (br ((t_2 : Int) == (0 : Int)) ((FV.isSl 4 (.sl false 4 t_3) = true) ∧ (TV.Le (.c (.a (.fz (.bool (((((List.length t_3) : Nat) : Int) : Int) == (0 : Int)))))) r ∧ [] = Hs')) (TV.Le (.c (.a (.fz (.bool false)))) r ∧ [] = Hs')) (∃ b2 : Bool, ((AC Tryz.prog 13 [(.c (.a (.fz (.str t_1))))] [] (.c (.a (.fz (.bool b2)))) []) ∧ (br b2 (br ((t_2 : Int) == (0 : Int)) ((FV.isSl 4 (.sl false 4 t_3) = true) ∧ (TV.Le (.c (.a (.fz (.bool (((((List.length t_3) : Nat) : Int) : Int) == (0 : Int)))))) r ∧ [] = Hs')) (TV.Le (.c (.a (.fz (.bool false)))) r ∧ [] = Hs')) (TV.Le (.c (.a (.fz (.bool false)))) r ∧ [] = Hs'))))))) (br ((t_0 : Int) == (1 : Int)) (br (decide ((t_2 : Int) ≥ (1 : Int))) (br ((t_1 : List UInt8) == []) ((FV.isSl 4 (.sl false 4 t_3) = true) ∧ (br (((((List.length t_3) : Nat) : Int) : Int) == (0 : Int)) (∃ z3 : Bool, ((AC Tryz.prog 43 [(.c (.a (.fz (.sl false 4 t_3)))), (.c (.fn (.func 64) [] []))] [] (.c (.a (.fz (.bool z3)))) []) ∧ (TV.Le (.c (.a (.fz (.bool (!z3))))) r ∧ [] = Hs'))) (TV.Le (.c (.a (.fz (.bool false)))) r ∧ [] = Hs'))) (TV.Le (.c (.a (.fz (.bool false)))) r ∧ [] = Hs')) (TV.Le (.c (.a (.fz (.bool false)))) r ∧ [] = Hs')) (br ((t_0 : Int) == (2 : Int)) (br ((t_1 : List UInt8) == []) ((FV.isSl 4 (.sl false 4 t_3) = true) ∧ (br (((((List.length t_3) : Nat) : Int) : Int) == (0 : Int)) (∃ z4 : Bool, ((AC Tryz.prog 43 [(.c (.a (.fz (.sl false 4 t_3)))), (.c (.fn (.func 64) [] []))] [] (.c (.a (.fz (.bool z4)))) []) ∧ (TV.Le (.c (.a (.fz (.bool (!z4))))) r ∧ [] = Hs'))) (TV.Le (.c (.a (.fz (.bool false)))) r ∧ [] = Hs'))) (TV.Le (.c (.a (.fz (.bool false)))) r ∧ [] = Hs')) (br ((t_0 : Int) == (3 : Int)) (br (decide ((t_2 : Int) ≥ (0 : Int))) (br (decide ((t_2 : Int) ≤ (4611686018427387904 : Int))) (br ((t_1 : List UInt8) == []) ((FV.isSl 4 (.sl false 4 t_3) = true) ∧ (br (((((List.length t_3) : Nat) : Int) : Int) == (0 : Int)) (∃ z5 : Bool, ((AC Tryz.prog 43 [(.c (.a (.fz (.sl false 4 t_3)))), (.c (.fn (.func 64) [] []))] [] (.c (.a (.fz (.bool z5)))) []) ∧ (TV.Le (.c (.a (.fz (.bool (!z5))))) r ∧ [] = Hs'))) (TV.Le (.c (.a (.fz (.bool false)))) r ∧ [] = Hs'))) (TV.Le (.c (.a (.fz (.bool false)))) r ∧ [] = Hs')) (TV.Le (.c (.a (.fz (.bool false)))) r ∧ [] = Hs')) (TV.Le (.c (.a (.fz (.bool false)))) r ∧ [] = Hs')) (br ((t_0 : Int) == (4 : Int)) (br (decide ((t_2 : Int) ≥ (0 : Int))) (br (decide ((t_2 : Int) ≤ (4611686018427387904 : Int))) (br ((t_1 : List UInt8) == []) ((FV.isSl 4 (.sl false 4 t_3) = true) ∧ (br (((((List.length t_3) : Nat) : Int) : Int) == (0 : Int)) (∃ z6 : Bool, ((AC Tryz.prog 43 [(.c (.a (.fz (.sl false 4 t_3)))), (.c (.fn (.func 64) [] []))] [] (.c (.a (.fz (.bool z6)))) []) ∧ (TV.Le (.c (.a (.fz (.bool (!z6))))) r ∧ [] = Hs'))) (TV.Le (.c (.a (.fz (.bool false)))) r ∧ [] = Hs'))) (TV.Le (.c (.a (.fz (.bool false)))) r ∧ [] = Hs')) (TV.Le (.c (.a (.fz (.bool false)))) r ∧ [] = Hs')) (TV.Le (.c (.a (.fz (.bool false)))) r ∧ [] = Hs')) (br ((t_0 : Int) == (5 : Int)) (br ((t_2 : Int) == (0 : Int)) (br ((t_1 : List UInt8) == []) ((FV.isSl 4 (.sl false 4 t_3) = true) ∧ (br (((((List.length t_3) : Nat) : Int) : Int) == (1 : Int)) (∃ z7 : Bool, ((AC Tryz.prog 43 [(.c (.a (.fz (.sl false 4 t_3)))), (.c (.fn (.func 64) [] []))] [] (.c (.a (.fz (.bool z7)))) []) ∧ (TV.Le (.c (.a (.fz (.bool (!z7))))) r ∧ [] = Hs'))) (TV.Le (.c (.a (.fz (.bool false)))) r ∧ [] = Hs'))) (TV.Le (.c (.a (.fz (.bool false)))) r ∧ [] = Hs')) (TV.Le (.c (.a (.fz (.bool false)))) r ∧ [] = Hs')) (br ((t_0 : Int) == (6 : Int)) (br ((t_2 : Int) == (0 : Int)) ((FV.isSl 4 (.sl false 4 t_3) = true) ∧ (br (decide (((((List.length t_3) : Nat) : Int) : Int) ≥ (2 : Int))) (((FV.isSl 4 (.sl false 4 t_3) = true) ∧ ((0 ≤ (0 : Int)) ∧ (((0 : Int) < (((List.length t_3) : Nat) : Int)) ∧ (((rE (List.getD t_3 0 [])) : List FV) = (List.getD t_3 0 []))))) ∧ ((FV.isSl 4 (.sl false 4 t_3) = true) ∧ (br (((FV.asI (List.getD (List.getD t_3 0 []) 0 FV.nils)) : Int) != (6 : Int)) (br ((t_1 : List UInt8) == []) ((FV.isSl 4 (.sl false 4 t_3) = true) ∧ (br (((((List.length t_3) : Nat) : Int) : Int) == (((List.length t_3) : Nat) : Int)) (∃ z8 : Bool, ((AC Tryz.prog 43 [(.c (.a (.fz (.sl false 4 t_3)))), (.c (.fn (.func 64) [] []))] [] (.c (.a (.fz (.bool z8)))) []) ∧ (TV.Le (.c (.a (.fz (.bool (!z8))))) r ∧ [] = Hs'))) (TV.Le (.c (.a (.fz (.bool false)))) r ∧ [] = Hs'))) (TV.Le (.c (.a (.fz (.bool false)))) r ∧ [] = Hs')) (TV.Le (.c (.a (.fz (.bool false)))) r ∧ [] = Hs')))) ((FV.isSl 4 (.sl false 4 t_3) = true) ∧ (TV.Le (.c (.a (.fz (.bool false)))) r ∧ [] = Hs')))) ((FV.isSl 4 (.sl false 4 t_3) = true) ∧ (TV.Le (.c (.a (.fz (.bool false)))) r ∧ [] = Hs'))) (TV.Le (.c (.a (.fz (.bool false)))) r ∧ [] = Hs')))))))) := by kernel_rfl
def lv40 : List (Nat × List Nat) := []
theorem v40 (t_0 : Int) (t_1 : List UInt8) (t_2 : Int) (t_3 : List (List FV)) (r : TV) (Hs' : List AObj) : vcE Tryz.prog sh lv40 40 [(.agg [(.a (.fz (.int .i64 t_0))), (.a (.fz (.str t_1))), (.a (.fz (.int .i64 t_2))), (.a (.fz (.sl false 4 t_3)))])] [] (fun r0 Hs0 => TV.Le r0 r ∧ Hs0 = Hs') (RPt Tryz.prog 40 0 r Hs') =
  ((∃ z1 : Int, ((AC Tryz.prog 65 [(.agg [(.a (.fz (.int .i64 t_0))), (.a (.fz (.str t_1))), (.a (.fz (.int .i64 t_2))), (.a (.fz (.sl false 4 t_3)))]), (.c (.a (.fz (.int .i64 (0 : Int))))), (.c (.fn (.func 66) [] [(false, [(.ep 0 1 0 0)])]))] [(.arr 1 [[(.a (.fz (.int .i64 (0 : Int))))]])] (.tup []) [(.arr 1 [[(.a (.fz (.int .i64 z1)))]])]) ∧ (TV.Le (.c (.a (.fz (.int .i64 z1)))) r ∧ [] = Hs'))) ∨ ((∃ _ : Unit, ((AC Tryz.prog 65 [(.agg [(.a (.fz (.int .i64 t_0))), (.a (.fz (.str t_1))), (.a (.fz (.int .i64 t_2))), (.a (.fz (.sl false 4 t_3)))]), (.c (.a (.fz (.int .i64 (0 : Int))))), (.c (.fn (.func 66) [] [(false, [(.ep 0 1 0 0)])]))] [(.arr 1 [[(.a (.fz (.int .i64 (0 : Int))))]])] (.tup []) [(.arr 1 [[(.a (.fz .nils))]])]) ∧ (TV.Le (.c (.a (.fz .nils))) r ∧ [] = Hs'))) ∨ ((∃ z3 : Nat × List (List FV), ((AC Tryz.prog 65 [(.agg [(.a (.fz (.int .i64 t_0))), (.a (.fz (.str t_1))), (.a (.fz (.int .i64 t_2))), (.a (.fz (.sl false 4 t_3)))]), (.c (.a (.fz (.int .i64 (0 : Int))))), (.c (.fn (.func 66) [] [(false, [(.ep 0 1 0 0)])]))] [(.arr 1 [[(.a (.fz (.int .i64 (0 : Int))))]])] (.tup []) [(.arr 1 [[(.a (.osl 1 1 0 z3.1))]]), (.arz 1 z3.2)]) ∧ (((1 : Nat) = 1 ∧ (0 + z3.1) ≤ (List.length z3.2)) ∧ (TV.Le (.c (.a (.fz (.sl false 1 (List.take z3.1 (List.drop 0 z3.2)))))) r ∧ [] = Hs')))) ∨ (∃ z4 : Nat × List (List FV), ((AC Tryz.prog 65 [(.agg [(.a (.fz (.int .i64 t_0))), (.a (.fz (.str t_1))), (.a (.fz (.int .i64 t_2))), (.a (.fz (.sl false 4 t_3)))]), (.c (.a (.fz (.int .i64 (0 : Int))))), (.c (.fn (.func 66) [] [(false, [(.ep 0 1 0 0)])]))] [(.arr 1 [[(.a (.fz (.int .i64 (0 : Int))))]])] (.tup []) [(.arr 1 [[(.a (.osl 2 1 0 z4.1))]]), .gone, (.arz 1 z4.2)]) ∧ (((1 : Nat) = 1 ∧ (0 + z4.1) ≤ (List.length z4.2)) ∧ (TV.Le (.c (.a (.fz (.sl false 1 (List.take z4.1 (List.drop 0 z4.2)))))) r ∧ [] = Hs'))))))) := by kernel_rfl
def lv41 : List (Nat × List Nat) := []
theorem v41 (t_0 : Int) (t_1 : List UInt8) (t_2 : Int) (t_3 : List (List FV)) (n : Int) (r : TV) (Hs' : List AObj) : vcE Tryz.prog sh lv41 41 [(.agg [(.a (.fz (.int .i64 t_0))), (.a (.fz (.str t_1))), (.a (.fz (.int .i64 t_2))), (.a (.fz (.sl false 4 t_3)))]), (.c (.a (.fz (.int .i64 n))))] [] (fun r0 Hs0 => TV.Le r0 r ∧ Hs0 = Hs') (RPt Tryz.prog 41 0 r Hs') =
  (br ((t_0 : Int) == (1 : Int)) (TV.Le (.c (.a (.fz (.bool false)))) r ∧ [] = Hs') (br ((t_0 : Int) == (4 : Int)) (br (decide ((t_2 : Int) ≥ n)) (TV.Le (.c (.a (.fz (.bool false)))) r ∧ [] = Hs') (∃ z1 : Bool, ((AC Tryz.prog 43 [(.c (.a (.fz (.sl false 4 t_3)))), (.c (.fn (.func 67) [] [(false, [(.ep 0 1 0 0)])]))] [(.arr 1 [[(.a (.fz (.int .i64 n)))]])] (.c (.a (.fz (.bool z1)))) [(.arr 1 [[(.a (.fz (.int .i64 n)))]])]) ∧ (TV.Le (.c (.a (.fz (.bool (!z1))))) r ∧ [] = Hs')))) (∃ z2 : Bool, ((AC Tryz.prog 43 [(.c (.a (.fz (.sl false 4 t_3)))), (.c (.fn (.func 67) [] [(false, [(.ep 0 1 0 0)])]))] [(.arr 1 [[(.a (.fz (.int .i64 n)))]])] (.c (.a (.fz (.bool z2)))) [(.arr 1 [[(.a (.fz (.int .i64 n)))]])]) ∧ (TV.Le (.c (.a (.fz (.bool (!z2))))) r ∧ [] = Hs'))))) := by kernel_rfl
def lv68 : List (Nat × List Nat) := []
theorem v68 (a_0 : Int) (a_1 : List UInt8) (a_2 : Int) (a_3 : List (List FV)) (b_0 : Int) (b_1 : List UInt8) (b_2 : Int) (b_3 : List (List FV)) (r : TV) (Hs' : List AObj) : vcE Tryz.prog sh lv68 68 [(.agg [(.a (.fz (.int .i64 a_0))), (.a (.fz (.str a_1))), (.a (.fz (.int .i64 a_2))), (.a (.fz (.sl false 4 a_3)))]), (.agg [(.a (.fz (.int .i64 b_0))), (.a (.fz (.str b_1))), (.a (.fz (.int .i64 b_2))), (.a (.fz (.sl false 4 b_3)))])] [] (fun r0 Hs0 => TV.Le r0 r ∧ Hs0 = Hs') (RPt Tryz.prog 68 0 r Hs') =
  (br ((a_0 : Int) == b_0) (br ((a_1 : List UInt8) == b_1) (br ((a_2 : Int) == b_2) (∃ b1 : Bool, ((AC Tryz.prog 86 [(.c (.a (.fz (.sl false 4 a_3)))), (.c (.a (.fz (.sl false 4 b_3)))), (.c (.fn (.func 68) [] []))] [] (.c (.a (.fz (.bool b1)))) []) ∧ (TV.Le (.c (.a (.fz (.bool b1)))) r ∧ [] = Hs'))) (TV.Le (.c (.a (.fz (.bool false)))) r ∧ [] = Hs')) (TV.Le (.c (.a (.fz (.bool false)))) r ∧ [] = Hs')) (TV.Le (.c (.a (.fz (.bool false)))) r ∧ [] = Hs')) := by kernel_rfl
def lv69 : List (Nat × List Nat) := [(1, [0, 1, 7, 8])]
theorem v69_F38 (s : List (List FV)) (o0_0 : List UInt8) (o0_1 : Int) (o0_2 : Int) (o0_3 : Int) (o0_4 : Int) (o0_5 : List (List FV)) (r : TV) (Hs' : List AObj) : vcE Tryz.prog sh lv69 69 [(.c (.a (.fz (.sl false 4 s)))), (.c (.fn (.func 38) [] [(false, [(.ep 0 6 0 0)])]))] [(.arr 6 [[(.a (.fz (.str o0_0))), (.a (.fz (.int .i64 o0_1))), (.a (.fz (.int .i64 o0_2))), (.a (.fz (.int .i64 o0_3))), (.a (.fz (.int .i64 o0_4))), (.a (.fz (.sl false 8 o0_5)))]])] (fun r0 Hs0 => TV.Le r0 r ∧ Hs0 = Hs') (RPt Tryz.prog 69 1 r Hs') =
  ((FV.isSl 4 (.sl false 4 s) = true) ∧ (RPt Tryz.prog 69 1 r Hs' 1 ⟨[(0, (.c (.a (.fz (.sl false 4 s))))), (1, (.c (.fn (.func 38) [] [(false, [(.ep 0 6 0 0)])]))), (7, (.c (.a (.fz (.int .i64 (((List.length s) : Nat) : Int)))))), (8, (.c (.a (.fz (.int .i64 (0 : Int))))))], [(0, (.arr 6 [[(.a (.fz (.str o0_0))), (.a (.fz (.int .i64 o0_1))), (.a (.fz (.int .i64 o0_2))), (.a (.fz (.int .i64 o0_3))), (.a (.fz (.int .i64 o0_4))), (.a (.fz (.sl false 8 o0_5)))]]))], 1⟩)) := by kernel_rfl
theorem z9y (x0 : List (List FV)) (x7 : Int) (x8 : Int) (h0_0 : List UInt8) (h0_1 : Int) (h0_2 : Int) (h0_3 : Int) (h0_4 : Int) (h0_5 : List (List FV)) (r : TV) (Hs' : List AObj) : vcP Tryz.prog sh lv69 69 1 (fun r0 Hs0 => TV.Le r0 r ∧ Hs0 = Hs') (RPt Tryz.prog 69 1 r Hs') 1 ⟨[(0, (.c (.a (.fz (.sl false 4 x0))))), (1, (.c (.fn (.func 38) [] [(false, [(.ep 0 6 0 0)])]))), (7, (.c (.a (.fz (.int .i64 x7))))), (8, (.c (.a (.fz (.int .i64 x8)))))], [(0, (.arr 6 [[(.a (.fz (.str h0_0))), (.a (.fz (.int .i64 h0_1))), (.a (.fz (.int .i64 h0_2))), (.a (.fz (.int .i64 h0_3))), (.a (.fz (.int .i64 h0_4))), (.a (.fz (.sl false 8 h0_5)))]]))], 1⟩ =
  (br (decide ((x8 : Int) < x7)) (((FV.isSl 4 (.sl false 4 x0) = true) ∧ ((0 ≤ x8) ∧ ((x8 < (((List.length x0) : Nat) : Int)) ∧ (((rE (List.getD x0 (Int.toNat x8) [])) : List FV) = (List.getD x0 (Int.toNat x8) []))))) ∧ (∃ b1 : Bool, ((AC Tryz.prog 38 [(aE (List.getD x0 (Int.toNat x8) [])), (.c (.a (.ep 0 6 0 0)))] [(.arr 6 [[(.a (.fz (.str h0_0))), (.a (.fz (.int .i64 h0_1))), (.a (.fz (.int .i64 h0_2))), (.a (.fz (.int .i64 h0_3))), (.a (.fz (.int .i64 h0_4))), (.a (.fz (.sl false 8 h0_5)))]])] (.c (.a (.fz (.bool b1)))) [(.arr 6 [[(.a (.fz (.str h0_0))), (.a (.fz (.int .i64 h0_1))), (.a (.fz (.int .i64 h0_2))), (.a (.fz (.int .i64 h0_3))), (.a (.fz (.int .i64 h0_4))), (.a (.fz (.sl false 8 h0_5)))]])]) ∧ (br b1 (TV.Le (.c (.a (.fz (.int .i64 x8)))) r ∧ [(.arr 6 [[(.a (.fz (.str h0_0))), (.a (.fz (.int .i64 h0_1))), (.a (.fz (.int .i64 h0_2))), (.a (.fz (.int .i64 h0_3))), (.a (.fz (.int .i64 h0_4))), (.a (.fz (.sl false 8 h0_5)))]])] = Hs') (RPt Tryz.prog 69 1 r Hs' 1 ⟨[(0, (.c (.a (.fz (.sl false 4 x0))))), (1, (.c (.fn (.func 38) [] [(false, [(.ep 0 6 0 0)])]))), (7, (.c (.a (.fz (.int .i64 x7))))), (8, (.c (.a (.fz (.int .i64 (IntKind.wrap .i64 (x8 + (1 : Int))))))))], [(0, (.arr 6 [[(.a (.fz (.str h0_0))), (.a (.fz (.int .i64 h0_1))), (.a (.fz (.int .i64 h0_2))), (.a (.fz (.int .i64 h0_3))), (.a (.fz (.int .i64 h0_4))), (.a (.fz (.sl false 8 h0_5)))]]))], 1⟩))))) (TV.Le (.c (.a (.fz (.int .i64 (-1 : Int))))) r ∧ [(.arr 6 [[(.a (.fz (.str h0_0))), (.a (.fz (.int .i64 h0_1))), (.a (.fz (.int .i64 h0_2))), (.a (.fz (.int .i64 h0_3))), (.a (.fz (.int .i64 h0_4))), (.a (.fz (.sl false 8 h0_5)))]])] = Hs')) := by kernel_rfl
def lv70 : List (Nat × List Nat) := []
theorem v70 (k : Int) (r : TV) (Hs' : List AObj) : vcE Tryz.prog sh lv70 70 [(.c (.a (.fz (.int .i64 k))))] [] (fun r0 Hs0 => TV.Le r0 r ∧ Hs0 = Hs') (RPt Tryz.prog 70 0 r Hs') =
  (br ((k : Int) == (0 : Int)) (TV.Le (.c (.a (.fz (.bool true)))) r ∧ [] = Hs') (TV.Le (.c (.a (.fz (.bool ((k : Int) == (1 : Int)))))) r ∧ [] = Hs')) := by kernel_rfl
def lv71 : List (Nat × List Nat) := []
theorem v71 (t_0 : Int) (t_1 : List UInt8) (t_2 : Int) (t_3 : List (List FV)) (r : TV) (Hs' : List AObj) : vcE Tryz.prog sh lv71 71 [(.agg [(.a (.fz (.int .i64 t_0))), (.a (.fz (.str t_1))), (.a (.fz (.int .i64 t_2))), (.a (.fz (.sl false 4 t_3)))])] [] (fun r0 Hs0 => TV.Le r0 r ∧ Hs0 = Hs') (RPt Tryz.prog 71 0 r Hs') =
  (∃ z1 : Tm × List Tm, ((AC Tryz.prog 87 [(.agg [(.a (.fz (.int .i64 t_0))), (.a (.fz (.str t_1))), (.a (.fz (.int .i64 t_2))), (.a (.fz (.sl false 4 t_3)))])] [] (.tup [(true, (cT z1.1)), (false, [(.a (.fz (.sl false 4 (FTs z1.2))))])]) []) ∧ (br ((z1.1.k : Int) == (0 : Int)) (∃ b2 : Bool, ((AC Tryz.prog 14 [(.c (.a (.fz (.str z1.1.s))))] [] (.c (.a (.fz (.bool b2)))) []) ∧ (TV.Le (.c (.a (.fz (.bool (!b2))))) r ∧ [] = Hs'))) (TV.Le (.c (.a (.fz (.bool false)))) r ∧ [] = Hs')))) := by kernel_rfl
def lv72 : List (Nat × List Nat) := []
theorem v72 (t_0 : Int) (t_1 : List UInt8) (t_2 : Int) (t_3 : List (List FV)) (r : TV) (Hs' : List AObj) : vcE Tryz.prog sh lv72 72 [(.agg [(.a (.fz (.int .i64 t_0))), (.a (.fz (.str t_1))), (.a (.fz (.int .i64 t_2))), (.a (.fz (.sl false 4 t_3)))])] [] (fun r0 Hs0 => TV.Le r0 r ∧ Hs0 = Hs') (RPt Tryz.prog 72 0 r Hs') =
  (∃ z1 : Tm × List Tm, ((AC Tryz.prog 87 [(.agg [(.a (.fz (.int .i64 t_0))), (.a (.fz (.str t_1))), (.a (.fz (.int .i64 t_2))), (.a (.fz (.sl false 4 t_3)))])] [] (.tup [(true, (cT z1.1)), (false, [(.a (.fz (.sl false 4 (FTs z1.2))))])]) []) ∧ (br ((z1.1.s : List UInt8) == [105, 115]) (br ((z1.1.k : Int) == (0 : Int)) ((FV.isSl 4 (.sl false 4 (FTs z1.2)) = true) ∧ (TV.Le (.c (.a (.fz (.bool (((((List.length (FTs z1.2)) : Nat) : Int) : Int) == (2 : Int)))))) r ∧ [] = Hs')) (TV.Le (.c (.a (.fz (.bool false)))) r ∧ [] = Hs')) (br ((z1.1.s : List UInt8) == [60]) (br ((z1.1.k : Int) == (0 : Int)) ((FV.isSl 4 (.sl false 4 (FTs z1.2)) = true) ∧ (TV.Le (.c (.a (.fz (.bool (((((List.length (FTs z1.2)) : Nat) : Int) : Int) == (2 : Int)))))) r ∧ [] = Hs')) (TV.Le (.c (.a (.fz (.bool false)))) r ∧ [] = Hs')) (br ((z1.1.s : List UInt8) == [61, 60]) (br ((z1.1.k : Int) == (0 : Int)) ((FV.isSl 4 (.sl false 4 (FTs z1.2)) = true) ∧ (TV.Le (.c (.a (.fz (.bool (((((List.length (FTs z1.2)) : Nat) : Int) : Int) == (2 : Int)))))) r ∧ [] = Hs')) (TV.Le (.c (.a (.fz (.bool false)))) r ∧ [] = Hs')) (br ((z1.1.s : List UInt8) == [62]) (br ((z1.1.k : Int) == (0 : Int)) ((FV.isSl 4 (.sl false 4 (FTs z1.2)) = true) ∧ (TV.Le (.c (.a (.fz (.bool (((((List.length (FTs z1.2)) : Nat) : Int) : Int) == (2 : Int)))))) r ∧ [] = Hs')) (TV.Le (.c (.a (.fz (.bool false)))) r ∧ [] = Hs')) (br ((z1.1.s : List UInt8) == [62, 61]) (br ((z1.1.k : Int) == (0 : Int)) ((FV.isSl 4 (.sl false 4 (FTs z1.2)) = true) ∧ (TV.Le (.c (.a (.fz (.bool (((((List.length (FTs z1.2)) : Nat) : Int) : Int) == (2 : Int)))))) r ∧ [] = Hs')) (TV.Le (.c (.a (.fz (.bool false)))) r ∧ [] = Hs')) (TV.Le (.c (.a (.fz (.bool false)))) r ∧ [] = Hs')))))))) := by kernel_rfl
def lv74 : List (Nat × List Nat) := []
theorem v74_F73 (s : List (List FV)) (o0_0 : List UInt8) (o0_1 : Int) (o0_2 : Int) (o0_3 : Int) (o0_4 : Int) (o0_5 : List (List FV)) (r : TV) (Hs' : List AObj) : vcE Tryz.prog sh lv74 74 [(.c (.a (.fz (.sl false 6 s)))), (.c (.fn (.func 73) [] [(false, [(.ep 0 6 0 0)])]))] [(.arr 6 [[(.a (.fz (.str o0_0))), (.a (.fz (.int .i64 o0_1))), (.a (.fz (.int .i64 o0_2))), (.a (.fz (.int .i64 o0_3))), (.a (.fz (.int .i64 o0_4))), (.a (.fz (.sl false 8 o0_5)))]])] (fun r0 Hs0 => TV.Le r0 r ∧ Hs0 = Hs') (RPt Tryz.prog 74 1 r Hs') =
  (∃ n1 : Int, ((AC Tryz.prog 88 [(.c (.a (.fz (.sl false 6 s)))), (.c (.fn (.func 73) [] [(false, [(.ep 0 6 0 0)])]))] [(.arr 6 [[(.a (.fz (.str o0_0))), (.a (.fz (.int .i64 o0_1))), (.a (.fz (.int .i64 o0_2))), (.a (.fz (.int .i64 o0_3))), (.a (.fz (.int .i64 o0_4))), (.a (.fz (.sl false 8 o0_5)))]])] (.c (.a (.fz (.int .i64 n1)))) [(.arr 6 [[(.a (.fz (.str o0_0))), (.a (.fz (.int .i64 o0_1))), (.a (.fz (.int .i64 o0_2))), (.a (.fz (.int .i64 o0_3))), (.a (.fz (.int .i64 o0_4))), (.a (.fz (.sl false 8 o0_5)))]])]) ∧ (TV.Le (.c (.a (.fz (.bool (decide ((n1 : Int) ≥ (0 : Int))))))) r ∧ [(.arr 6 [[(.a (.fz (.str o0_0))), (.a (.fz (.int .i64 o0_1))), (.a (.fz (.int .i64 o0_2))), (.a (.fz (.int .i64 o0_3))), (.a (.fz (.int .i64 o0_4))), (.a (.fz (.sl false 8 o0_5)))]])] = Hs'))) := by kernel_rfl
def lv75 : List (Nat × List Nat) := []
theorem v75 (c : Int) (r : TV) (Hs' : List AObj) : vcE Tryz.prog sh lv75 75 [(.c (.a (.fz (.int .u8 c))))] [] (fun r0 Hs0 => TV.Le r0 r ∧ Hs0 = Hs') (RPt Tryz.prog 75 0 r Hs') =
  (br (decide ((c : Int) ≥ (97 : Int))) (TV.Le (.c (.a (.fz (.bool (decide ((c : Int) ≤ (122 : Int))))))) r ∧ [] = Hs') (TV.Le (.c (.a (.fz (.bool false)))) r ∧ [] = Hs')) := by kernel_rfl
def lv76 : List (Nat × List Nat) := []
theorem v76 (c : Int) (r : TV) (Hs' : List AObj) : vcE Tryz.prog sh lv76 76 [(.c (.a (.fz (.int .u8 c))))] [] (fun r0 Hs0 => TV.Le r0 r ∧ Hs0 = Hs') (RPt Tryz.prog 76 0 r Hs') =
  (∃ b1 : Bool, ((AC Tryz.prog 75 [(.c (.a (.fz (.int .u8 c))))] [] (.c (.a (.fz (.bool b1)))) []) ∧ (br b1 (TV.Le (.c (.a (.fz (.bool true)))) r ∧ [] = Hs') (br (decide ((c : Int) ≥ (65 : Int))) (br (decide ((c : Int) ≤ (90 : Int))) (TV.Le (.c (.a (.fz (.bool true)))) r ∧ [] = Hs') (∃ b2 : Bool, ((AC Tryz.prog 89 [(.c (.a (.fz (.int .u8 c))))] [] (.c (.a (.fz (.bool b2)))) []) ∧ (br b2 (TV.Le (.c (.a (.fz (.bool true)))) r ∧ [] = Hs') (br ((c : Int) == (95 : Int)) (TV.Le (.c (.a (.fz (.bool true)))) r ∧ [] = Hs') (TV.Le (.c (.a (.fz (.bool ((c : Int) == (39 : Int)))))) r ∧ [] = Hs')))))) (∃ b3 : Bool, ((AC Tryz.prog 89 [(.c (.a (.fz (.int .u8 c))))] [] (.c (.a (.fz (.bool b3)))) []) ∧ (br b3 (TV.Le (.c (.a (.fz (.bool true)))) r ∧ [] = Hs') (br ((c : Int) == (95 : Int)) (TV.Le (.c (.a (.fz (.bool true)))) r ∧ [] = Hs') (TV.Le (.c (.a (.fz (.bool ((c : Int) == (39 : Int)))))) r ∧ [] = Hs'))))))))) := by kernel_rfl
def lv77 : List (Nat × List Nat) := [(1, [0, 3])]
theorem v77 (c : Int) (r : TV) (Hs' : List AObj) : vcE Tryz.prog sh lv77 77 [(.c (.a (.fz (.int .u8 c))))] [] (fun r0 Hs0 => TV.Le r0 r ∧ Hs0 = Hs') (RPt Tryz.prog 77 0 r Hs') =
  (RPt Tryz.prog 77 0 r Hs' 1 ⟨[(0, (.c (.a (.fz (.int .u8 c))))), (3, (.c (.a (.fz (.int .i64 (0 : Int))))))], [], 0⟩) := by kernel_rfl
theorem v77_1a (x0 : Int) (x3 : Int) (r : TV) (Hs' : List AObj) : vcP Tryz.prog sh lv77 77 0 (fun r0 Hs0 => TV.Le r0 r ∧ Hs0 = Hs') (RPt Tryz.prog 77 0 r Hs') 1 ⟨[(0, (.c (.a (.fz (.int .u8 x0))))), (3, (.c (.a (.fz (.int .i64 x3)))))], [], 0⟩ =
  (br (decide ((x3 : Int) < (16 : Int))) ((0 ≤ x3 ∧ x3 < ((16 : Nat) : Int)) ∧ (br ((((UInt8.toNat (List.getD [43, 45, 42, 47, 60, 62, 61, 38, 124, 94, 126, 64, 35, 36, 63, 58] (Int.toNat x3) 0) : Nat) : Int) : Int) == x0) (TV.Le (.c (.a (.fz (.bool true)))) r ∧ [] = Hs') (RPt Tryz.prog 77 0 r Hs' 1 ⟨[(0, (.c (.a (.fz (.int .u8 x0))))), (3, (.c (.a (.fz (.int .i64 (IntKind.wrap .i64 (x3 + (1 : Int))))))))], [], 0⟩))) (TV.Le (.c (.a (.fz (.bool false)))) r ∧ [] = Hs')) := by kernel_rfl
def lv78 : List (Nat × List Nat) := [(1, [1, 2, 5, 6, 7])]
theorem v78 (t_0 : Int) (t_1 : List UInt8) (t_2 : Int) (t_3 : List (List FV)) (k : Int) (r : TV) (Hs' : List AObj) : vcE Tryz.prog sh lv78 78 [(.agg [(.a (.fz (.int .i64 t_0))), (.a (.fz (.str t_1))), (.a (.fz (.int .i64 t_2))), (.a (.fz (.sl false 4 t_3)))]), (.c (.a (.fz (.int .i64 k))))] [] (fun r0 Hs0 => TV.Le r0 r ∧ Hs0 = Hs') (RPt Tryz.prog 78 0 r Hs') =
  (br ((t_0 : Int) == (3 : Int)) (TV.Le (.c (.a (.fz (.int .i64 (z1p [(0 : Int), (IntKind.wrap .i64 ((IntKind.wrap .i64 (t_2 - k)) + (1 : Int)))]))))) r ∧ [] = Hs') (∃ b1 : Bool, ((AC Tryz.prog 90 [(.agg [(.a (.fz (.int .i64 t_0))), (.a (.fz (.str t_1))), (.a (.fz (.int .i64 t_2))), (.a (.fz (.sl false 4 t_3)))])] [] (.c (.a (.fz (.bool b1)))) []) ∧ (RPt Tryz.prog 78 0 r Hs' 1 ⟨[(1, (.c (.a (.fz (.int .i64 k))))), (2, (.c (.a (.ep 0 4 0 0)))), (5, (.c (.a (.fz (.int .i64 (0 : Int)))))), (6, (.c (.a (.fz (.bool b1))))), (7, (.c (.a (.fz (.int .i64 (0 : Int))))))], [(0, (.arr 4 [[(.a (.fz (.int .i64 t_0))), (.a (.fz (.str t_1))), (.a (.fz (.int .i64 t_2))), (.a (.fz (.sl false 4 t_3)))]]))], 1⟩)))) := by kernel_rfl
theorem v78_1a (x1 : Int) (x5 : Int) (x6 : Bool) (x7 : Int) (h0_0 : Int) (h0_1 : List UInt8) (h0_2 : Int) (h0_3 : List (List FV)) (r : TV) (Hs' : List AObj) : vcP Tryz.prog sh lv78 78 0 (fun r0 Hs0 => TV.Le r0 r ∧ Hs0 = Hs') (RPt Tryz.prog 78 0 r Hs') 1 ⟨[(1, (.c (.a (.fz (.int .i64 x1))))), (2, (.c (.a (.ep 0 4 0 0)))), (5, (.c (.a (.fz (.int .i64 x5))))), (6, (.c (.a (.fz (.bool x6))))), (7, (.c (.a (.fz (.int .i64 x7)))))], [(0, (.arr 4 [[(.a (.fz (.int .i64 h0_0))), (.a (.fz (.str h0_1))), (.a (.fz (.int .i64 h0_2))), (.a (.fz (.sl false 4 h0_3)))]]))], 1⟩ =
  ((FV.isSl 4 (.sl false 4 h0_3) = true) ∧ (br (decide ((x7 : Int) < (((List.length h0_3) : Nat) : Int))) (br x6 (((FV.isSl 4 (.sl false 4 h0_3) = true) ∧ ((0 ≤ x7) ∧ ((x7 < (((List.length h0_3) : Nat) : Int)) ∧ (((rE (List.getD h0_3 (Int.toNat x7) [])) : List FV) = (List.getD h0_3 (Int.toNat x7) []))))) ∧ (∃ n1 : Int, ((AC Tryz.prog 91 [(.agg [(.a (.fz (.int .i64 h0_0))), (.a (.fz (.str h0_1))), (.a (.fz (.int .i64 h0_2))), (.a (.fz (.sl false 4 h0_3)))]), (.c (.a (.fz (.int .i64 x1))))] [] (.c (.a (.fz (.int .i64 n1)))) []) ∧ (∃ n2 : Int, ((AC Tryz.prog 78 [(aE (List.getD h0_3 (Int.toNat x7) [])), (.c (.a (.fz (.int .i64 n1))))] [] (.c (.a (.fz (.int .i64 n2)))) []) ∧ (RPt Tryz.prog 78 0 r Hs' 1 ⟨[(1, (.c (.a (.fz (.int .i64 x1))))), (2, (.c (.a (.ep 0 4 0 0)))), (5, (.c (.a (.fz (.int .i64 (z1p [x5, n2])))))), (6, (.c (.a (.fz (.bool x6))))), (7, (.c (.a (.fz (.int .i64 (IntKind.wrap .i64 (x7 + (1 : Int))))))))], [(0, (.arr 4 [[(.a (.fz (.int .i64 h0_0))), (.a (.fz (.str h0_1))), (.a (.fz (.int .i64 h0_2))), (.a (.fz (.sl false 4 h0_3)))]]))], 1⟩)))))) (TV.Le (.c (.a (.fz (.int .i64 x5)))) r ∧ [] = Hs')) (TV.Le (.c (.a (.fz (.int .i64 x5)))) r ∧ [] = Hs'))) := by kernel_rfl
def lv79 : List (Nat × List Nat) := [(1, [1, 2, 5])]
theorem v79 (t_0 : Int) (t_1 : List UInt8) (t_2 : Int) (t_3 : List (List FV)) (n : Int) (r : TV) (Hs' : List AObj) : vcE Tryz.prog sh lv79 79 [(.agg [(.a (.fz (.int .i64 t_0))), (.a (.fz (.str t_1))), (.a (.fz (.int .i64 t_2))), (.a (.fz (.sl false 4 t_3)))]), (.c (.a (.fz (.int .i64 n))))] [] (fun r0 Hs0 => TV.Le r0 r ∧ Hs0 = Hs') (RPt Tryz.prog 79 0 r Hs') =
  (br ((t_0 : Int) == (1 : Int)) (TV.Le (.c (.a (.fz (.bool false)))) r ∧ [] = Hs') (br ((t_0 : Int) == (4 : Int)) (br (decide ((t_2 : Int) ≥ n)) (TV.Le (.c (.a (.fz (.bool false)))) r ∧ [] = Hs') (RPt Tryz.prog 79 0 r Hs' 1 ⟨[(1, (.c (.a (.fz (.int .i64 n))))), (2, (.c (.a (.ep 0 4 0 0)))), (5, (.c (.a (.fz (.int .i64 (0 : Int))))))], [(0, (.arr 4 [[(.a (.fz (.int .i64 t_0))), (.a (.fz (.str t_1))), (.a (.fz (.int .i64 t_2))), (.a (.fz (.sl false 4 t_3)))]]))], 1⟩)) (RPt Tryz.prog 79 0 r Hs' 1 ⟨[(1, (.c (.a (.fz (.int .i64 n))))), (2, (.c (.a (.ep 0 4 0 0)))), (5, (.c (.a (.fz (.int .i64 (0 : Int))))))], [(0, (.arr 4 [[(.a (.fz (.int .i64 t_0))), (.a (.fz (.str t_1))), (.a (.fz (.int .i64 t_2))), (.a (.fz (.sl false 4 t_3)))]]))], 1⟩))) := by kernel_rfl
theorem v79_1a (x1 : Int) (x5 : Int) (h0_0 : Int) (h0_1 : List UInt8) (h0_2 : Int) (h0_3 : List (List FV)) (r : TV) (Hs' : List AObj) : vcP Tryz.prog sh lv79 79 0 (fun r0 Hs0 => TV.Le r0 r ∧ Hs0 = Hs') (RPt Tryz.prog 79 0 r Hs') 1 ⟨[(1, (.c (.a (.fz (.int .i64 x1))))), (2, (.c (.a (.ep 0 4 0 0)))), (5, (.c (.a (.fz (.int .i64 x5)))))], [(0, (.arr 4 [[(.a (.fz (.int .i64 h0_0))), (.a (.fz (.str h0_1))), (.a (.fz (.int .i64 h0_2))), (.a (.fz (.sl false 4 h0_3)))]]))], 1⟩ =
  ((FV.isSl 4 (.sl false 4 h0_3) = true) ∧ (br (decide ((x5 : Int) < (((List.length h0_3) : Nat) : Int))) (((FV.isSl 4 (.sl false 4 h0_3) = true) ∧ ((0 ≤ x5) ∧ ((x5 < (((List.length h0_3) : Nat) : Int)) ∧ (((rE (List.getD h0_3 (Int.toNat x5) [])) : List FV) = (List.getD h0_3 (Int.toNat x5) []))))) ∧ (∃ b1 : Bool, ((AC Tryz.prog 79 [(aE (List.getD h0_3 (Int.toNat x5) [])), (.c (.a (.fz (.int .i64 x1))))] [] (.c (.a (.fz (.bool b1)))) []) ∧ (br (!b1) (TV.Le (.c (.a (.fz (.bool false)))) r ∧ [] = Hs') (RPt Tryz.prog 79 0 r Hs' 1 ⟨[(1, (.c (.a (.fz (.int .i64 x1))))), (2, (.c (.a (.ep 0 4 0 0)))), (5, (.c (.a (.fz (.int .i64 (IntKind.wrap .i64 (x5 + (1 : Int))))))))], [(0, (.arr 4 [[(.a (.fz (.int .i64 h0_0))), (.a (.fz (.str h0_1))), (.a (.fz (.int .i64 h0_2))), (.a (.fz (.sl false 4 h0_3)))]]))], 1⟩))))) (TV.Le (.c (.a (.fz (.bool true)))) r ∧ [] = Hs'))) := by kernel_rfl
def lv82 : List (Nat × List Nat) := [(1, [2, 5, 6])]
theorem v82 (t_0 : Int) (t_1 : List UInt8) (t_2 : Int) (t_3 : List (List FV)) (most : Int) (r : TV) (Hs' : List AObj) : vcE Tryz.prog sh lv82 82 [(.agg [(.a (.fz (.int .i64 t_0))), (.a (.fz (.str t_1))), (.a (.fz (.int .i64 t_2))), (.a (.fz (.sl false 4 t_3)))]), (.c (.a (.fz (.int .i64 most))))] [] (fun r0 Hs0 => TV.Le r0 r ∧ Hs0 = Hs') (RPt Tryz.prog 82 0 r Hs') =
  (RPt Tryz.prog 82 0 r Hs' 1 ⟨[(2, (.c (.a (.ep 0 4 0 0)))), (5, (.c (.a (.fz (.int .i64 (IntKind.wrap .i64 (most - (1 : Int)))))))), (6, (.c (.a (.fz (.int .i64 (0 : Int))))))], [(0, (.arr 4 [[(.a (.fz (.int .i64 t_0))), (.a (.fz (.str t_1))), (.a (.fz (.int .i64 t_2))), (.a (.fz (.sl false 4 t_3)))]]))], 1⟩) := by kernel_rfl
theorem v82_1a (x5 : Int) (x6 : Int) (h0_0 : Int) (h0_1 : List UInt8) (h0_2 : Int) (h0_3 : List (List FV)) (r : TV) (Hs' : List AObj) : vcP Tryz.prog sh lv82 82 0 (fun r0 Hs0 => TV.Le r0 r ∧ Hs0 = Hs') (RPt Tryz.prog 82 0 r Hs') 1 ⟨[(2, (.c (.a (.ep 0 4 0 0)))), (5, (.c (.a (.fz (.int .i64 x5))))), (6, (.c (.a (.fz (.int .i64 x6)))))], [(0, (.arr 4 [[(.a (.fz (.int .i64 h0_0))), (.a (.fz (.str h0_1))), (.a (.fz (.int .i64 h0_2))), (.a (.fz (.sl false 4 h0_3)))]]))], 1⟩ =
  ((FV.isSl 4 (.sl false 4 h0_3) = true) ∧ (br (decide ((x6 : Int) < (((List.length h0_3) : Nat) : Int))) (br (decide ((x5 : Int) ≥ (0 : Int))) (((FV.isSl 4 (.sl false 4 h0_3) = true) ∧ ((0 ≤ x6) ∧ ((x6 < (((List.length h0_3) : Nat) : Int)) ∧ (((rE (List.getD h0_3 (Int.toNat x6) [])) : List FV) = (List.getD h0_3 (Int.toNat x6) []))))) ∧ (∃ n1 : Int, ((AC Tryz.prog 82 [(aE (List.getD h0_3 (Int.toNat x6) [])), (.c (.a (.fz (.int .i64 x5))))] [] (.c (.a (.fz (.int .i64 n1)))) []) ∧ (RPt Tryz.prog 82 0 r Hs' 1 ⟨[(2, (.c (.a (.ep 0 4 0 0)))), (5, (.c (.a (.fz (.int .i64 n1))))), (6, (.c (.a (.fz (.int .i64 (IntKind.wrap .i64 (x6 + (1 : Int))))))))], [(0, (.arr 4 [[(.a (.fz (.int .i64 h0_0))), (.a (.fz (.str h0_1))), (.a (.fz (.int .i64 h0_2))), (.a (.fz (.sl false 4 h0_3)))]]))], 1⟩)))) (TV.Le (.c (.a (.fz (.int .i64 x5)))) r ∧ [] = Hs')) (TV.Le (.c (.a (.fz (.int .i64 x5)))) r ∧ [] = Hs'))) := by kernel_rfl
def lv59 : List (Nat × List Nat) := []
theorem v59 (c : Int) (r : TV) (Hs' : List AObj) : vcE Tryz.prog sh lv59 59 [(.c (.a (.fz (.int .u8 c))))] [] (fun r0 Hs0 => TV.Le r0 r ∧ Hs0 = Hs') (RPt Tryz.prog 59 0 r Hs') =
  (br (decide (((65 : Int) : Int) ≤ c)) (br (decide ((c : Int) ≤ (90 : Int))) (TV.Le (.c (.a (.fz (.bool true)))) r ∧ [] = Hs') (TV.Le (.c (.a (.fz (.bool ((c : Int) == (95 : Int)))))) r ∧ [] = Hs')) (TV.Le (.c (.a (.fz (.bool ((c : Int) == (95 : Int)))))) r ∧ [] = Hs')) := by kernel_rfl
def lv60 : List (Nat × List Nat) := []
theorem v60 (c : Int) (r : TV) (Hs' : List AObj) : vcE Tryz.prog sh lv60 60 [(.c (.a (.fz (.int .u8 c))))] [] (fun r0 Hs0 => TV.Le r0 r ∧ Hs0 = Hs') (RPt Tryz.prog 60 0 r Hs') =
  (br (decide (((48 : Int) : Int) ≤ c)) (TV.Le (.c (.a (.fz (.bool (decide ((c : Int) ≤ (57 : Int))))))) r ∧ [] = Hs') (TV.Le (.c (.a (.fz (.bool false)))) r ∧ [] = Hs')) := by kernel_rfl
def lv37 : List (Nat × List Nat) := []
theorem v37 (n : Int) (r : TV) (Hs' : List AObj) : vcE Tryz.prog sh lv37 37 [(.c (.a (.fz (.int .i64 n))))] [] (fun r0 Hs0 => TV.Le r0 r ∧ Hs0 = Hs') (RPt Tryz.prog 37 0 r Hs') =
  (br (decide ((n : Int) < (0 : Int))) (TV.Le (.c (.a (.fz (.bool true)))) r ∧ [] = Hs') (TV.Le (.c (.a (.fz (.bool (decide ((n : Int) > (4096 : Int))))))) r ∧ [] = Hs')) := by kernel_rfl
def lv84 : List (Nat × List Nat) := [(3, [0, 1, 5, 6, 7, 8, 9, 10])]
theorem v84 (s : List UInt8) (substr : List UInt8) (r : TV) (Hs' : List AObj) : vcE Tryz.prog sh lv84 84 [(.c (.a (.fz (.str s)))), (.c (.a (.fz (.str substr))))] [] (fun r0 Hs0 => TV.Le r0 r ∧ Hs0 = Hs') (RPt Tryz.prog 84 0 r Hs') =
  (br (((((List.length substr) : Nat) : Int) : Int) == (0 : Int)) (TV.Le (.c (.a (.fz (.int .i64 (0 : Int))))) r ∧ [] = Hs') (br ((substr : List UInt8) == s) (TV.Le (.c (.a (.fz (.int .i64 (0 : Int))))) r ∧ [] = Hs') (br (((((List.length substr) : Nat) : Int) : Int) == (1 : Int)) ((0 ≤ (0 : Int) ∧ (0 : Int) < (((List.length substr) : Nat) : Int)) ∧ (∃ n1 : Int, ((AC Tryz.prog 83 [(.c (.a (.fz (.str s)))), (.c (.a (.fz (.int .u8 ((UInt8.toNat (List.getD substr 0 0) : Nat) : Int)))))] [] (.c (.a (.fz (.int .i64 n1)))) []) ∧ (TV.Le (.c (.a (.fz (.int .i64 n1)))) r ∧ [] = Hs')))) (br (decide (((((List.length substr) : Nat) : Int) : Int) ≥ (((List.length s) : Nat) : Int))) (TV.Le (.c (.a (.fz (.int .i64 (-1 : Int))))) r ∧ [] = Hs') False)))) := by kernel_rfl
theorem v43_F64 (s : List (List FV)) (r : TV) (Hs' : List AObj) : vcE Tryz.prog sh lv43 43 [(.c (.a (.fz (.sl false 4 s)))), (.c (.fn (.func 64) [] []))] [] (fun r0 Hs0 => TV.Le r0 r ∧ Hs0 = Hs') (RPt Tryz.prog 43 0 r Hs') =
  (∃ z1 : Int, ((AC Tryz.prog 69 [(.c (.a (.fz (.sl false 4 s)))), (.c (.fn (.func 64) [] []))] [] (.c (.a (.fz (.int .i64 z1)))) []) ∧ (TV.Le (.c (.a (.fz (.bool (decide ((z1 : Int) ≥ (0 : Int))))))) r ∧ [] = Hs'))) := by kernel_rfl
def lv65 : List (Nat × List Nat) := [(1, [1, 2, 7, 27, 28, 29])]
theorem v65_F66 (t_0 : Int) (t_1 : List UInt8) (t_2 : Int) (t_3 : List (List FV)) (k : Int) (o0_0 : Int) (r : TV) (Hs' : List AObj) : vcE Tryz.prog sh lv65 65 [(.agg [(.a (.fz (.int .i64 t_0))), (.a (.fz (.str t_1))), (.a (.fz (.int .i64 t_2))), (.a (.fz (.sl false 4 t_3)))]), (.c (.a (.fz (.int .i64 k)))), (.c (.fn (.func 66) [] [(false, [(.ep 0 1 0 0)])]))] [(.arr 1 [[(.a (.fz (.int .i64 o0_0)))]])] (fun r0 Hs0 => TV.Le r0 r ∧ Hs0 = Hs') (RPt Tryz.prog 65 1 r Hs') =
  (br ((t_0 : Int) != (5 : Int)) (br ((t_0 : Int) != (6 : Int)) (∃ z1 : Int, ((AC Tryz.prog 66 [(.agg [(.a (.fz (.int .i64 t_0))), (.a (.fz (.str t_1))), (.a (.fz (.int .i64 t_2))), (.a (.fz (.sl false 4 t_3)))]), (.c (.a (.fz (.int .i64 k)))), (.c (.a (.ep 0 1 0 0)))] [(.arr 1 [[(.a (.fz (.int .i64 o0_0)))]])] (.tup []) [(.arr 1 [[(.a (.fz (.int .i64 z1)))]])]) ∧ (TV.Le (.tup []) r ∧ [(.arr 1 [[(.a (.fz (.int .i64 z1)))]])] = Hs'))) (∃ y2 : FV, (∃ n3 : Int, ((AC Tryz.prog 85 [(.agg [(.a (.fz (.int .i64 t_0))), (.a (.fz (.str t_1))), (.a (.fz (.int .i64 t_2))), (.a (.fz (.sl false 4 t_3)))])] [] (.tup [(false, [(.a (.fz y2))]), (false, [(.a (.fz (.int .i64 n3)))])]) []) ∧ ((FV.isSl 4 y2 = true) ∧ (RPt Tryz.prog 65 1 r Hs' 1 ⟨[(1, (.c (.a (.fz (.int .i64 k))))), (2, (.c (.fn (.func 66) [] [(false, [(.ep 0 1 0 0)])]))), (7, (.c (.a (.fz (.int .i64 n3))))), (27, (.c (.a (.fz y2)))), (28, (.c (.a (.fz (.int .i64 (((List.length (FV.ses y2)) : Nat) : Int)))))), (29, (.c (.a (.fz (.int .i64 (0 : Int))))))], [(0, (.arr 1 [[(.a (.fz (.int .i64 o0_0)))]]))], 1⟩)))))) (∃ y4 : FV, (∃ n5 : Int, ((AC Tryz.prog 85 [(.agg [(.a (.fz (.int .i64 t_0))), (.a (.fz (.str t_1))), (.a (.fz (.int .i64 t_2))), (.a (.fz (.sl false 4 t_3)))])] [] (.tup [(false, [(.a (.fz y4))]), (false, [(.a (.fz (.int .i64 n5)))])]) []) ∧ ((FV.isSl 4 y4 = true) ∧ (RPt Tryz.prog 65 1 r Hs' 1 ⟨[(1, (.c (.a (.fz (.int .i64 k))))), (2, (.c (.fn (.func 66) [] [(false, [(.ep 0 1 0 0)])]))), (7, (.c (.a (.fz (.int .i64 n5))))), (27, (.c (.a (.fz y4)))), (28, (.c (.a (.fz (.int .i64 (((List.length (FV.ses y4)) : Nat) : Int)))))), (29, (.c (.a (.fz (.int .i64 (0 : Int))))))], [(0, (.arr 1 [[(.a (.fz (.int .i64 o0_0)))]]))], 1⟩)))))) := by kernel_rfl
theorem z9v (x1 : Int) (x7 : Int) (x27 : FV) (x28 : Int) (x29 : Int) (h0_0 : Int) (r : TV) (Hs' : List AObj) : vcP Tryz.prog sh lv65 65 1 (fun r0 Hs0 => TV.Le r0 r ∧ Hs0 = Hs') (RPt Tryz.prog 65 1 r Hs') 1 ⟨[(1, (.c (.a (.fz (.int .i64 x1))))), (2, (.c (.fn (.func 66) [] [(false, [(.ep 0 1 0 0)])]))), (7, (.c (.a (.fz (.int .i64 x7))))), (27, (.c (.a (.fz x27)))), (28, (.c (.a (.fz (.int .i64 x28))))), (29, (.c (.a (.fz (.int .i64 x29)))))], [(0, (.arr 1 [[(.a (.fz (.int .i64 h0_0)))]]))], 1⟩ =
  (br (decide ((x29 : Int) < x28)) (((FV.isSl 4 x27 = true) ∧ ((0 ≤ x29) ∧ ((x29 < (((List.length (FV.ses x27)) : Nat) : Int)) ∧ (((rE (List.getD (FV.ses x27) (Int.toNat x29) [])) : List FV) = (List.getD (FV.ses x27) (Int.toNat x29) []))))) ∧ ((∃ z1 : Int, ((AC Tryz.prog 65 [(aE (List.getD (FV.ses x27) (Int.toNat x29) [])), (.c (.a (.fz (.int .i64 (IntKind.wrap .i64 (x1 + x7)))))), (.c (.fn (.func 66) [] [(false, [(.ep 0 1 0 0)])]))] [(.arr 1 [[(.a (.fz (.int .i64 h0_0)))]])] (.tup []) [(.arr 1 [[(.a (.fz (.int .i64 z1)))]])]) ∧ (RPt Tryz.prog 65 1 r Hs' 1 ⟨[(1, (.c (.a (.fz (.int .i64 x1))))), (2, (.c (.fn (.func 66) [] [(false, [(.ep 0 1 0 0)])]))), (7, (.c (.a (.fz (.int .i64 x7))))), (27, (.c (.a (.fz x27)))), (28, (.c (.a (.fz (.int .i64 x28))))), (29, (.c (.a (.fz (.int .i64 (IntKind.wrap .i64 (x29 + (1 : Int))))))))], [(0, (.arr 1 [[(.a (.fz (.int .i64 z1)))]]))], 1⟩))) ∨ ((∃ _ : Unit, ((AC Tryz.prog 65 [(aE (List.getD (FV.ses x27) (Int.toNat x29) [])), (.c (.a (.fz (.int .i64 (IntKind.wrap .i64 (x1 + x7)))))), (.c (.fn (.func 66) [] [(false, [(.ep 0 1 0 0)])]))] [(.arr 1 [[(.a (.fz (.int .i64 h0_0)))]])] (.tup []) [(.arr 1 [[(.a (.fz .nils))]])]) ∧ (RPt Tryz.prog 65 1 r Hs' 1 ⟨[(1, (.c (.a (.fz (.int .i64 x1))))), (2, (.c (.fn (.func 66) [] [(false, [(.ep 0 1 0 0)])]))), (7, (.c (.a (.fz (.int .i64 x7))))), (27, (.c (.a (.fz x27)))), (28, (.c (.a (.fz (.int .i64 x28))))), (29, (.c (.a (.fz (.int .i64 (IntKind.wrap .i64 (x29 + (1 : Int))))))))], [(0, (.arr 1 [[(.a (.fz .nils))]]))], 1⟩))) ∨ ((∃ z3 : Nat × List (List FV), ((AC Tryz.prog 65 [(aE (List.getD (FV.ses x27) (Int.toNat x29) [])), (.c (.a (.fz (.int .i64 (IntKind.wrap .i64 (x1 + x7)))))), (.c (.fn (.func 66) [] [(false, [(.ep 0 1 0 0)])]))] [(.arr 1 [[(.a (.fz (.int .i64 h0_0)))]])] (.tup []) [(.arr 1 [[(.a (.osl 1 1 0 z3.1))]]), (.arz 1 z3.2)]) ∧ (RPt Tryz.prog 65 1 r Hs' 1 ⟨[(1, (.c (.a (.fz (.int .i64 x1))))), (2, (.c (.fn (.func 66) [] [(false, [(.ep 0 1 0 0)])]))), (7, (.c (.a (.fz (.int .i64 x7))))), (27, (.c (.a (.fz x27)))), (28, (.c (.a (.fz (.int .i64 x28))))), (29, (.c (.a (.fz (.int .i64 (IntKind.wrap .i64 (x29 + (1 : Int))))))))], [(0, (.arr 1 [[(.a (.osl 1 1 0 z3.1))]])), (1, (.arz 1 z3.2))], 2⟩))) ∨ (∃ z4 : Nat × List (List FV), ((AC Tryz.prog 65 [(aE (List.getD (FV.ses x27) (Int.toNat x29) [])), (.c (.a (.fz (.int .i64 (IntKind.wrap .i64 (x1 + x7)))))), (.c (.fn (.func 66) [] [(false, [(.ep 0 1 0 0)])]))] [(.arr 1 [[(.a (.fz (.int .i64 h0_0)))]])] (.tup []) [(.arr 1 [[(.a (.osl 2 1 0 z4.1))]]), .gone, (.arz 1 z4.2)]) ∧ (RPt Tryz.prog 65 1 r Hs' 1 ⟨[(1, (.c (.a (.fz (.int .i64 x1))))), (2, (.c (.fn (.func 66) [] [(false, [(.ep 0 1 0 0)])]))), (7, (.c (.a (.fz (.int .i64 x7))))), (27, (.c (.a (.fz x27)))), (28, (.c (.a (.fz (.int .i64 x28))))), (29, (.c (.a (.fz (.int .i64 (IntKind.wrap .i64 (x29 + (1 : Int))))))))], [(0, (.arr 1 [[(.a (.osl 1 1 0 z4.1))]])), (1, (.arz 1 z4.2))], 2⟩))))))) (TV.Le (.tup []) r ∧ [(.arr 1 [[(.a (.fz (.int .i64 h0_0)))]])] = Hs')) := by kernel_rfl
theorem v43_F67 (s : List (List FV)) (o0_0 : Int) (r : TV) (Hs' : List AObj) : vcE Tryz.prog sh lv43 43 [(.c (.a (.fz (.sl false 4 s)))), (.c (.fn (.func 67) [] [(false, [(.ep 0 1 0 0)])]))] [(.arr 1 [[(.a (.fz (.int .i64 o0_0)))]])] (fun r0 Hs0 => TV.Le r0 r ∧ Hs0 = Hs') (RPt Tryz.prog 43 1 r Hs') =
  (∃ z1 : Int, ((AC Tryz.prog 69 [(.c (.a (.fz (.sl false 4 s)))), (.c (.fn (.func 67) [] [(false, [(.ep 0 1 0 0)])]))] [(.arr 1 [[(.a (.fz (.int .i64 o0_0)))]])] (.c (.a (.fz (.int .i64 z1)))) [(.arr 1 [[(.a (.fz (.int .i64 o0_0)))]])]) ∧ (TV.Le (.c (.a (.fz (.bool (decide ((z1 : Int) ≥ (0 : Int))))))) r ∧ [(.arr 1 [[(.a (.fz (.int .i64 o0_0)))]])] = Hs'))) := by kernel_rfl
def lv86 : List (Nat × List Nat) := [(1, [1, 2, 15, 16, 17])]
theorem v86_F68 (s1 : List (List FV)) (s2 : List (List FV)) (r : TV) (Hs' : List AObj) : vcE Tryz.prog sh lv86 86 [(.c (.a (.fz (.sl false 4 s1)))), (.c (.a (.fz (.sl false 4 s2)))), (.c (.fn (.func 68) [] []))] [] (fun r0 Hs0 => TV.Le r0 r ∧ Hs0 = Hs') (RPt Tryz.prog 86 0 r Hs') =
  ((FV.isSl 4 (.sl false 4 s1) = true) ∧ ((FV.isSl 4 (.sl false 4 s2) = true) ∧ (br (((((List.length s1) : Nat) : Int) : Int) != (((List.length s2) : Nat) : Int)) (TV.Le (.c (.a (.fz (.bool false)))) r ∧ [] = Hs') ((FV.isSl 4 (.sl false 4 s1) = true) ∧ (RPt Tryz.prog 86 0 r Hs' 1 ⟨[(1, (.c (.a (.fz (.sl false 4 s2))))), (2, (.c (.fn (.func 68) [] []))), (15, (.c (.a (.fz (.sl false 4 s1))))), (16, (.c (.a (.fz (.int .i64 (((List.length s1) : Nat) : Int)))))), (17, (.c (.a (.fz (.int .i64 (0 : Int))))))], [], 0⟩))))) := by kernel_rfl
theorem z9i (x1 : List (List FV)) (x15 : List (List FV)) (x16 : Int) (x17 : Int) (r : TV) (Hs' : List AObj) : vcP Tryz.prog sh lv86 86 0 (fun r0 Hs0 => TV.Le r0 r ∧ Hs0 = Hs') (RPt Tryz.prog 86 0 r Hs') 1 ⟨[(1, (.c (.a (.fz (.sl false 4 x1))))), (2, (.c (.fn (.func 68) [] []))), (15, (.c (.a (.fz (.sl false 4 x15))))), (16, (.c (.a (.fz (.int .i64 x16))))), (17, (.c (.a (.fz (.int .i64 x17)))))], [], 0⟩ =
  (br (decide ((x17 : Int) < x16)) (((FV.isSl 4 (.sl false 4 x15) = true) ∧ ((0 ≤ x17) ∧ ((x17 < (((List.length x15) : Nat) : Int)) ∧ (((rE (List.getD x15 (Int.toNat x17) [])) : List FV) = (List.getD x15 (Int.toNat x17) []))))) ∧ (((FV.isSl 4 (.sl false 4 x1) = true) ∧ ((0 ≤ x17) ∧ ((x17 < (((List.length x1) : Nat) : Int)) ∧ (((rE (List.getD x1 (Int.toNat x17) [])) : List FV) = (List.getD x1 (Int.toNat x17) []))))) ∧ (∃ b1 : Bool, ((AC Tryz.prog 68 [(aE (List.getD x15 (Int.toNat x17) [])), (aE (List.getD x1 (Int.toNat x17) []))] [] (.c (.a (.fz (.bool b1)))) []) ∧ (br (!b1) (TV.Le (.c (.a (.fz (.bool false)))) r ∧ [] = Hs') (RPt Tryz.prog 86 0 r Hs' 1 ⟨[(1, (.c (.a (.fz (.sl false 4 x1))))), (2, (.c (.fn (.func 68) [] []))), (15, (.c (.a (.fz (.sl false 4 x15))))), (16, (.c (.a (.fz (.int .i64 x16))))), (17, (.c (.a (.fz (.int .i64 (IntKind.wrap .i64 (x17 + (1 : Int))))))))], [], 0⟩)))))) (TV.Le (.c (.a (.fz (.bool true)))) r ∧ [] = Hs')) := by kernel_rfl
def lv87 : List (Nat × List Nat) := []
theorem v87 (t_0 : Int) (t_1 : List UInt8) (t_2 : Int) (t_3 : List (List FV)) (r : TV) (Hs' : List AObj) : vcE Tryz.prog sh lv87 87 [(.agg [(.a (.fz (.int .i64 t_0))), (.a (.fz (.str t_1))), (.a (.fz (.int .i64 t_2))), (.a (.fz (.sl false 4 t_3)))])] [] (fun r0 Hs0 => TV.Le r0 r ∧ Hs0 = Hs') (RPt Tryz.prog 87 0 r Hs') =
  (br ((t_0 : Int) != (6 : Int)) (TV.Le (.tup [(true, [(.a (.fz (.int .i64 t_0))), (.a (.fz (.str t_1))), (.a (.fz (.int .i64 t_2))), (.a (.fz (.sl false 4 t_3)))]), (false, [(.a (.fz .nils))])]) r ∧ [] = Hs') (∃ b1 : Bool, ((AC Tryz.prog 39 [(.agg [(.a (.fz (.int .i64 t_0))), (.a (.fz (.str t_1))), (.a (.fz (.int .i64 t_2))), (.a (.fz (.sl false 4 t_3)))])] [] (.c (.a (.fz (.bool b1)))) []) ∧ (br (!b1) (TV.Le (.tup [(true, [(.a (.fz (.int .i64 t_0))), (.a (.fz (.str t_1))), (.a (.fz (.int .i64 t_2))), (.a (.fz (.sl false 4 t_3)))]), (false, [(.a (.fz .nils))])]) r ∧ [] = Hs') (((FV.isSl 4 (.sl false 4 t_3) = true) ∧ ((0 ≤ (0 : Int)) ∧ (((0 : Int) < (((List.length t_3) : Nat) : Int)) ∧ (((rE (List.getD t_3 0 [])) : List FV) = (List.getD t_3 0 []))))) ∧ ((FV.isSl 4 (.sl false 4 t_3) = true) ∧ (((0 ≤ (1 : Int)) ∧ (((1 : Int) ≤ (((List.length t_3) : Nat) : Int)) ∧ ((((List.length t_3) : Nat) : Int) ≤ (((List.length t_3) : Nat) : Int)))) ∧ ((∃ z2 : Bool, ((AC Tryz.prog 97 [(.c (.a (.fz (.sl false 4 (List.drop 1 (List.take (Int.toNat (((List.length t_3) : Nat) : Int)) t_3))))))] [] (.c (.a (.fz (.sl z2 4 [])))) []) ∧ (TV.Le (.tup [(true, (cE (List.getD t_3 0 []))), (false, [(.a (.fz (.sl z2 4 [])))])]) r ∧ [] = Hs'))) ∨ (∃ z3 : List (List FV), ((AC Tryz.prog 97 [(.c (.a (.fz (.sl false 4 (List.drop 1 (List.take (Int.toNat (((List.length t_3) : Nat) : Int)) t_3))))))] [] (.c (.a (.osl 0 4 0 (List.length z3)))) [(.arz 4 z3)]) ∧ (((4 : Nat) = 4 ∧ (0 + (List.length z3)) ≤ (List.length z3)) ∧ (TV.Le (.tup [(true, (cE (List.getD t_3 0 []))), (false, [(.a (.fz (.sl false 4 (List.take (List.length z3) (List.drop 0 z3)))))])]) r ∧ [] = Hs')))))))))))) := by kernel_rfl
def lv88 : List (Nat × List Nat) := [(1, [0, 1, 7, 8])]
theorem v88_F73 (s : List (List FV)) (o0_0 : List UInt8) (o0_1 : Int) (o0_2 : Int) (o0_3 : Int) (o0_4 : Int) (o0_5 : List (List FV)) (r : TV) (Hs' : List AObj) : vcE Tryz.prog sh lv88 88 [(.c (.a (.fz (.sl false 6 s)))), (.c (.fn (.func 73) [] [(false, [(.ep 0 6 0 0)])]))] [(.arr 6 [[(.a (.fz (.str o0_0))), (.a (.fz (.int .i64 o0_1))), (.a (.fz (.int .i64 o0_2))), (.a (.fz (.int .i64 o0_3))), (.a (.fz (.int .i64 o0_4))), (.a (.fz (.sl false 8 o0_5)))]])] (fun r0 Hs0 => TV.Le r0 r ∧ Hs0 = Hs') (RPt Tryz.prog 88 1 r Hs') =
  ((FV.isSl 6 (.sl false 6 s) = true) ∧ (RPt Tryz.prog 88 1 r Hs' 1 ⟨[(0, (.c (.a (.fz (.sl false 6 s))))), (1, (.c (.fn (.func 73) [] [(false, [(.ep 0 6 0 0)])]))), (7, (.c (.a (.fz (.int .i64 (((List.length s) : Nat) : Int)))))), (8, (.c (.a (.fz (.int .i64 (0 : Int))))))], [(0, (.arr 6 [[(.a (.fz (.str o0_0))), (.a (.fz (.int .i64 o0_1))), (.a (.fz (.int .i64 o0_2))), (.a (.fz (.int .i64 o0_3))), (.a (.fz (.int .i64 o0_4))), (.a (.fz (.sl false 8 o0_5)))]]))], 1⟩)) := by kernel_rfl
theorem z9x (x0 : List (List FV)) (x7 : Int) (x8 : Int) (h0_0 : List UInt8) (h0_1 : Int) (h0_2 : Int) (h0_3 : Int) (h0_4 : Int) (h0_5 : List (List FV)) (r : TV) (Hs' : List AObj) : vcP Tryz.prog sh lv88 88 1 (fun r0 Hs0 => TV.Le r0 r ∧ Hs0 = Hs') (RPt Tryz.prog 88 1 r Hs') 1 ⟨[(0, (.c (.a (.fz (.sl false 6 x0))))), (1, (.c (.fn (.func 73) [] [(false, [(.ep 0 6 0 0)])]))), (7, (.c (.a (.fz (.int .i64 x7))))), (8, (.c (.a (.fz (.int .i64 x8)))))], [(0, (.arr 6 [[(.a (.fz (.str h0_0))), (.a (.fz (.int .i64 h0_1))), (.a (.fz (.int .i64 h0_2))), (.a (.fz (.int .i64 h0_3))), (.a (.fz (.int .i64 h0_4))), (.a (.fz (.sl false 8 h0_5)))]]))], 1⟩ =
  (br (decide ((x8 : Int) < x7)) (((FV.isSl 6 (.sl false 6 x0) = true) ∧ ((0 ≤ x8) ∧ ((x8 < (((List.length x0) : Nat) : Int)) ∧ (([(.str (FV.asS (List.getD (List.getD x0 (Int.toNat x8) []) 0 FV.nils))), (.int .i64 (FV.asI (List.getD (List.getD x0 (Int.toNat x8) []) 1 FV.nils))), (.int .i64 (FV.asI (List.getD (List.getD x0 (Int.toNat x8) []) 2 FV.nils))), (.int .i64 (FV.asI (List.getD (List.getD x0 (Int.toNat x8) []) 3 FV.nils))), (.int .i64 (FV.asI (List.getD (List.getD x0 (Int.toNat x8) []) 4 FV.nils))), (List.getD (List.getD x0 (Int.toNat x8) []) 5 FV.nils)] : List FV) = (List.getD x0 (Int.toNat x8) []))))) ∧ (∃ b1 : Bool, ((AC Tryz.prog 73 [(.agg [(.a (.fz (.str (FV.asS (List.getD (List.getD x0 (Int.toNat x8) []) 0 FV.nils))))), (.a (.fz (.int .i64 (FV.asI (List.getD (List.getD x0 (Int.toNat x8) []) 1 FV.nils))))), (.a (.fz (.int .i64 (FV.asI (List.getD (List.getD x0 (Int.toNat x8) []) 2 FV.nils))))), (.a (.fz (.int .i64 (FV.asI (List.getD (List.getD x0 (Int.toNat x8) []) 3 FV.nils))))), (.a (.fz (.int .i64 (FV.asI (List.getD (List.getD x0 (Int.toNat x8) []) 4 FV.nils))))), (.a (.fz (List.getD (List.getD x0 (Int.toNat x8) []) 5 FV.nils)))]), (.c (.a (.ep 0 6 0 0)))] [(.arr 6 [[(.a (.fz (.str h0_0))), (.a (.fz (.int .i64 h0_1))), (.a (.fz (.int .i64 h0_2))), (.a (.fz (.int .i64 h0_3))), (.a (.fz (.int .i64 h0_4))), (.a (.fz (.sl false 8 h0_5)))]])] (.c (.a (.fz (.bool b1)))) [(.arr 6 [[(.a (.fz (.str h0_0))), (.a (.fz (.int .i64 h0_1))), (.a (.fz (.int .i64 h0_2))), (.a (.fz (.int .i64 h0_3))), (.a (.fz (.int .i64 h0_4))), (.a (.fz (.sl false 8 h0_5)))]])]) ∧ (br b1 (TV.Le (.c (.a (.fz (.int .i64 x8)))) r ∧ [(.arr 6 [[(.a (.fz (.str h0_0))), (.a (.fz (.int .i64 h0_1))), (.a (.fz (.int .i64 h0_2))), (.a (.fz (.int .i64 h0_3))), (.a (.fz (.int .i64 h0_4))), (.a (.fz (.sl false 8 h0_5)))]])] = Hs') (RPt Tryz.prog 88 1 r Hs' 1 ⟨[(0, (.c (.a (.fz (.sl false 6 x0))))), (1, (.c (.fn (.func 73) [] [(false, [(.ep 0 6 0 0)])]))), (7, (.c (.a (.fz (.int .i64 x7))))), (8, (.c (.a (.fz (.int .i64 (IntKind.wrap .i64 (x8 + (1 : Int))))))))], [(0, (.arr 6 [[(.a (.fz (.str h0_0))), (.a (.fz (.int .i64 h0_1))), (.a (.fz (.int .i64 h0_2))), (.a (.fz (.int .i64 h0_3))), (.a (.fz (.int .i64 h0_4))), (.a (.fz (.sl false 8 h0_5)))]]))], 1⟩))))) (TV.Le (.c (.a (.fz (.int .i64 (-1 : Int))))) r ∧ [(.arr 6 [[(.a (.fz (.str h0_0))), (.a (.fz (.int .i64 h0_1))), (.a (.fz (.int .i64 h0_2))), (.a (.fz (.int .i64 h0_3))), (.a (.fz (.int .i64 h0_4))), (.a (.fz (.sl false 8 h0_5)))]])] = Hs')) := by kernel_rfl
def lv89 : List (Nat × List Nat) := []
theorem v89 (c : Int) (r : TV) (Hs' : List AObj) : vcE Tryz.prog sh lv89 89 [(.c (.a (.fz (.int .u8 c))))] [] (fun r0 Hs0 => TV.Le r0 r ∧ Hs0 = Hs') (RPt Tryz.prog 89 0 r Hs') =
  (br (decide ((c : Int) ≥ (48 : Int))) (TV.Le (.c (.a (.fz (.bool (decide ((c : Int) ≤ (57 : Int))))))) r ∧ [] = Hs') (TV.Le (.c (.a (.fz (.bool false)))) r ∧ [] = Hs')) := by kernel_rfl
def lv90 : List (Nat × List Nat) := []
theorem v90 (t_0 : Int) (t_1 : List UInt8) (t_2 : Int) (t_3 : List (List FV)) (r : TV) (Hs' : List AObj) : vcE Tryz.prog sh lv90 90 [(.agg [(.a (.fz (.int .i64 t_0))), (.a (.fz (.str t_1))), (.a (.fz (.int .i64 t_2))), (.a (.fz (.sl false 4 t_3)))])] [] (fun r0 Hs0 => TV.Le r0 r ∧ Hs0 = Hs') (RPt Tryz.prog 90 0 r Hs') =
  (br ((t_0 : Int) == (5 : Int)) (TV.Le (.c (.a (.fz (.bool true)))) r ∧ [] = Hs') (TV.Le (.c (.a (.fz (.bool ((t_0 : Int) == (6 : Int)))))) r ∧ [] = Hs')) := by kernel_rfl
def lv91 : List (Nat × List Nat) := []
theorem v91 (t_0 : Int) (t_1 : List UInt8) (t_2 : Int) (t_3 : List (List FV)) (k : Int) (r : TV) (Hs' : List AObj) : vcE Tryz.prog sh lv91 91 [(.agg [(.a (.fz (.int .i64 t_0))), (.a (.fz (.str t_1))), (.a (.fz (.int .i64 t_2))), (.a (.fz (.sl false 4 t_3)))]), (.c (.a (.fz (.int .i64 k))))] [] (fun r0 Hs0 => TV.Le r0 r ∧ Hs0 = Hs') (RPt Tryz.prog 91 0 r Hs') =
  (br ((t_0 : Int) == (5 : Int)) (TV.Le (.c (.a (.fz (.int .i64 (IntKind.wrap .i64 (k + (1 : Int))))))) r ∧ [] = Hs') (TV.Le (.c (.a (.fz (.int .i64 k)))) r ∧ [] = Hs')) := by kernel_rfl
theorem v69_F64 (s : List (List FV)) (r : TV) (Hs' : List AObj) : vcE Tryz.prog sh lv69 69 [(.c (.a (.fz (.sl false 4 s)))), (.c (.fn (.func 64) [] []))] [] (fun r0 Hs0 => TV.Le r0 r ∧ Hs0 = Hs') (RPt Tryz.prog 69 0 r Hs') =
  ((FV.isSl 4 (.sl false 4 s) = true) ∧ (RPt Tryz.prog 69 0 r Hs' 1 ⟨[(0, (.c (.a (.fz (.sl false 4 s))))), (1, (.c (.fn (.func 64) [] []))), (7, (.c (.a (.fz (.int .i64 (((List.length s) : Nat) : Int)))))), (8, (.c (.a (.fz (.int .i64 (0 : Int))))))], [], 0⟩)) := by kernel_rfl
theorem z9t (x0 : List (List FV)) (x7 : Int) (x8 : Int) (r : TV) (Hs' : List AObj) : vcP Tryz.prog sh lv69 69 0 (fun r0 Hs0 => TV.Le r0 r ∧ Hs0 = Hs') (RPt Tryz.prog 69 0 r Hs') 1 ⟨[(0, (.c (.a (.fz (.sl false 4 x0))))), (1, (.c (.fn (.func 64) [] []))), (7, (.c (.a (.fz (.int .i64 x7))))), (8, (.c (.a (.fz (.int .i64 x8)))))], [], 0⟩ =
  (br (decide ((x8 : Int) < x7)) (((FV.isSl 4 (.sl false 4 x0) = true) ∧ ((0 ≤ x8) ∧ ((x8 < (((List.length x0) : Nat) : Int)) ∧ (((rE (List.getD x0 (Int.toNat x8) [])) : List FV) = (List.getD x0 (Int.toNat x8) []))))) ∧ (∃ b1 : Bool, ((AC Tryz.prog 64 [(aE (List.getD x0 (Int.toNat x8) []))] [] (.c (.a (.fz (.bool b1)))) []) ∧ (br b1 (TV.Le (.c (.a (.fz (.int .i64 x8)))) r ∧ [] = Hs') (RPt Tryz.prog 69 0 r Hs' 1 ⟨[(0, (.c (.a (.fz (.sl false 4 x0))))), (1, (.c (.fn (.func 64) [] []))), (7, (.c (.a (.fz (.int .i64 x7))))), (8, (.c (.a (.fz (.int .i64 (IntKind.wrap .i64 (x8 + (1 : Int))))))))], [], 0⟩))))) (TV.Le (.c (.a (.fz (.int .i64 (-1 : Int))))) r ∧ [] = Hs')) := by kernel_rfl
def lv66 : List (Nat × List Nat) := []
theorem v66 (u_0 : Int) (u_1 : List UInt8) (u_2 : Int) (u_3 : List (List FV)) (k : Int) (o0_0 : Int) (r : TV) (Hs' : List AObj) : vcE Tryz.prog sh lv66 66 [(.agg [(.a (.fz (.int .i64 u_0))), (.a (.fz (.str u_1))), (.a (.fz (.int .i64 u_2))), (.a (.fz (.sl false 4 u_3)))]), (.c (.a (.fz (.int .i64 k)))), (.c (.a (.ep 0 1 0 0)))] [(.arr 1 [[(.a (.fz (.int .i64 o0_0)))]])] (fun r0 Hs0 => TV.Le r0 r ∧ Hs0 = Hs') (RPt Tryz.prog 66 1 r Hs') =
  (br ((u_0 : Int) == (3 : Int)) (TV.Le (.tup []) r ∧ [(.arr 1 [[(.a (.fz (.int .i64 (z1p [o0_0, (IntKind.wrap .i64 ((IntKind.wrap .i64 (u_2 - k)) + (1 : Int)))]))))]])] = Hs') (TV.Le (.tup []) r ∧ [(.arr 1 [[(.a (.fz (.int .i64 o0_0)))]])] = Hs')) := by kernel_rfl
def lv85 : List (Nat × List Nat) := []
theorem v85 (t_0 : Int) (t_1 : List UInt8) (t_2 : Int) (t_3 : List (List FV)) (r : TV) (Hs' : List AObj) : vcE Tryz.prog sh lv85 85 [(.agg [(.a (.fz (.int .i64 t_0))), (.a (.fz (.str t_1))), (.a (.fz (.int .i64 t_2))), (.a (.fz (.sl false 4 t_3)))])] [] (fun r0 Hs0 => TV.Le r0 r ∧ Hs0 = Hs') (RPt Tryz.prog 85 0 r Hs') =
  (br ((t_0 : Int) == (5 : Int)) (TV.Le (.tup [(false, [(.a (.fz (.sl false 4 t_3)))]), (false, [(.a (.fz (.int .i64 (1 : Int))))])]) r ∧ [] = Hs') (br ((t_0 : Int) == (6 : Int)) (TV.Le (.tup [(false, [(.a (.fz (.sl false 4 t_3)))]), (false, [(.a (.fz (.int .i64 (0 : Int))))])]) r ∧ [] = Hs') (TV.Le (.tup [(false, [(.a (.fz .nils))]), (false, [(.a (.fz (.int .i64 (0 : Int))))])]) r ∧ [] = Hs'))) := by kernel_rfl
theorem v69_F67 (s : List (List FV)) (o0_0 : Int) (r : TV) (Hs' : List AObj) : vcE Tryz.prog sh lv69 69 [(.c (.a (.fz (.sl false 4 s)))), (.c (.fn (.func 67) [] [(false, [(.ep 0 1 0 0)])]))] [(.arr 1 [[(.a (.fz (.int .i64 o0_0)))]])] (fun r0 Hs0 => TV.Le r0 r ∧ Hs0 = Hs') (RPt Tryz.prog 69 1 r Hs') =
  ((FV.isSl 4 (.sl false 4 s) = true) ∧ (RPt Tryz.prog 69 1 r Hs' 1 ⟨[(0, (.c (.a (.fz (.sl false 4 s))))), (1, (.c (.fn (.func 67) [] [(false, [(.ep 0 1 0 0)])]))), (7, (.c (.a (.fz (.int .i64 (((List.length s) : Nat) : Int)))))), (8, (.c (.a (.fz (.int .i64 (0 : Int))))))], [(0, (.arr 1 [[(.a (.fz (.int .i64 o0_0)))]]))], 1⟩)) := by kernel_rfl
theorem z9n (x0 : List (List FV)) (x7 : Int) (x8 : Int) (h0_0 : Int) (r : TV) (Hs' : List AObj) : vcP Tryz.prog sh lv69 69 1 (fun r0 Hs0 => TV.Le r0 r ∧ Hs0 = Hs') (RPt Tryz.prog 69 1 r Hs') 1 ⟨[(0, (.c (.a (.fz (.sl false 4 x0))))), (1, (.c (.fn (.func 67) [] [(false, [(.ep 0 1 0 0)])]))), (7, (.c (.a (.fz (.int .i64 x7))))), (8, (.c (.a (.fz (.int .i64 x8)))))], [(0, (.arr 1 [[(.a (.fz (.int .i64 h0_0)))]]))], 1⟩ =
  (br (decide ((x8 : Int) < x7)) (((FV.isSl 4 (.sl false 4 x0) = true) ∧ ((0 ≤ x8) ∧ ((x8 < (((List.length x0) : Nat) : Int)) ∧ (((rE (List.getD x0 (Int.toNat x8) [])) : List FV) = (List.getD x0 (Int.toNat x8) []))))) ∧ (∃ b1 : Bool, ((AC Tryz.prog 67 [(aE (List.getD x0 (Int.toNat x8) [])), (.c (.a (.ep 0 1 0 0)))] [(.arr 1 [[(.a (.fz (.int .i64 h0_0)))]])] (.c (.a (.fz (.bool b1)))) [(.arr 1 [[(.a (.fz (.int .i64 h0_0)))]])]) ∧ (br b1 (TV.Le (.c (.a (.fz (.int .i64 x8)))) r ∧ [(.arr 1 [[(.a (.fz (.int .i64 h0_0)))]])] = Hs') (RPt Tryz.prog 69 1 r Hs' 1 ⟨[(0, (.c (.a (.fz (.sl false 4 x0))))), (1, (.c (.fn (.func 67) [] [(false, [(.ep 0 1 0 0)])]))), (7, (.c (.a (.fz (.int .i64 x7))))), (8, (.c (.a (.fz (.int .i64 (IntKind.wrap .i64 (x8 + (1 : Int))))))))], [(0, (.arr 1 [[(.a (.fz (.int .i64 h0_0)))]]))], 1⟩))))) (TV.Le (.c (.a (.fz (.int .i64 (-1 : Int))))) r ∧ [(.arr 1 [[(.a (.fz (.int .i64 h0_0)))]])] = Hs')) := by kernel_rfl
def lv97 : List (Nat × List Nat) := []
theorem v97  (r : TV) (Hs' : List AObj) : vcE Tryz.prog sh lv97 97 [(.c (.a (.fz .nils)))] [] (fun r0 Hs0 => TV.Le r0 r ∧ Hs0 = Hs') (RPt Tryz.prog 97 0 r Hs') =
  (TV.Le (.c (.a (.fz .nils))) r ∧ [] = Hs') := by kernel_rfl
theorem v97_i1 (s : List (List FV)) (r : TV) (Hs' : List AObj) : vcE Tryz.prog sh lv97 97 [(.c (.a (.fz (.sl true 4 s))))] [] (fun r0 Hs0 => TV.Le r0 r ∧ Hs0 = Hs') (RPt Tryz.prog 97 0 r Hs') =
  ((FV.isSl 4 (.sl true 4 s) = true) ∧ ((0 ≤ 0 ∧ z2s (0 + (List.length s)) 56) ∧ (TV.Le (.c (.a (.osl 0 4 0 (0 + (List.length s))))) r ∧ [(.arz 4 ([] ++ s))] = Hs'))) := by kernel_rfl
def lv73 : List (Nat × List Nat) := []
theorem v73 (d_0 : List UInt8) (d_1 : Int) (d_2 : Int) (d_3 : Int) (d_4 : Int) (d_5 : List (List FV)) (o0_0 : List UInt8) (o0_1 : Int) (o0_2 : Int) (o0_3 : Int) (o0_4 : Int) (o0_5 : List (List FV)) (r : TV) (Hs' : List AObj) : vcE Tryz.prog sh lv73 73 [(.agg [(.a (.fz (.str d_0))), (.a (.fz (.int .i64 d_1))), (.a (.fz (.int .i64 d_2))), (.a (.fz (.int .i64 d_3))), (.a (.fz (.int .i64 d_4))), (.a (.fz (.sl false 8 d_5)))]), (.c (.a (.ep 0 6 0 0)))] [(.arr 6 [[(.a (.fz (.str o0_0))), (.a (.fz (.int .i64 o0_1))), (.a (.fz (.int .i64 o0_2))), (.a (.fz (.int .i64 o0_3))), (.a (.fz (.int .i64 o0_4))), (.a (.fz (.sl false 8 o0_5)))]])] (fun r0 Hs0 => TV.Le r0 r ∧ Hs0 = Hs') (RPt Tryz.prog 73 1 r Hs') =
  (br (decide ((d_2 : Int) > o0_4)) (TV.Le (.c (.a (.fz (.bool true)))) r ∧ [(.arr 6 [[(.a (.fz (.str o0_0))), (.a (.fz (.int .i64 o0_1))), (.a (.fz (.int .i64 o0_2))), (.a (.fz (.int .i64 o0_3))), (.a (.fz (.int .i64 o0_4))), (.a (.fz (.sl false 8 o0_5)))]])] = Hs') (∃ b1 : Bool, ((AC Tryz.prog 6 [(.agg [(.a (.fz (.str d_0))), (.a (.fz (.int .i64 d_1))), (.a (.fz (.int .i64 d_2))), (.a (.fz (.int .i64 d_3))), (.a (.fz (.int .i64 d_4))), (.a (.fz (.sl false 8 d_5)))])] [] (.c (.a (.fz (.bool b1)))) []) ∧ (TV.Le (.c (.a (.fz (.bool (!b1))))) r ∧ [(.arr 6 [[(.a (.fz (.str o0_0))), (.a (.fz (.int .i64 o0_1))), (.a (.fz (.int .i64 o0_2))), (.a (.fz (.int .i64 o0_3))), (.a (.fz (.int .i64 o0_4))), (.a (.fz (.sl false 8 o0_5)))]])] = Hs')))) := by kernel_rfl
def lv64 : List (Nat × List Nat) := []
theorem v64 (u_0 : Int) (u_1 : List UInt8) (u_2 : Int) (u_3 : List (List FV)) (r : TV) (Hs' : List AObj) : vcE Tryz.prog sh lv64 64 [(.agg [(.a (.fz (.int .i64 u_0))), (.a (.fz (.str u_1))), (.a (.fz (.int .i64 u_2))), (.a (.fz (.sl false 4 u_3)))])] [] (fun r0 Hs0 => TV.Le r0 r ∧ Hs0 = Hs') (RPt Tryz.prog 64 0 r Hs') =
  (∃ b1 : Bool, ((AC Tryz.prog 39 [(.agg [(.a (.fz (.int .i64 u_0))), (.a (.fz (.str u_1))), (.a (.fz (.int .i64 u_2))), (.a (.fz (.sl false 4 u_3)))])] [] (.c (.a (.fz (.bool b1)))) []) ∧ (TV.Le (.c (.a (.fz (.bool (!b1))))) r ∧ [] = Hs'))) := by kernel_rfl
def lv67 : List (Nat × List Nat) := []
theorem v67 (u_0 : Int) (u_1 : List UInt8) (u_2 : Int) (u_3 : List (List FV)) (o0_0 : Int) (r : TV) (Hs' : List AObj) : vcE Tryz.prog sh lv67 67 [(.agg [(.a (.fz (.int .i64 u_0))), (.a (.fz (.str u_1))), (.a (.fz (.int .i64 u_2))), (.a (.fz (.sl false 4 u_3)))]), (.c (.a (.ep 0 1 0 0)))] [(.arr 1 [[(.a (.fz (.int .i64 o0_0)))]])] (fun r0 Hs0 => TV.Le r0 r ∧ Hs0 = Hs') (RPt Tryz.prog 67 1 r Hs') =
  (∃ b1 : Bool, ((AC Tryz.prog 41 [(.agg [(.a (.fz (.int .i64 u_0))), (.a (.fz (.str u_1))), (.a (.fz (.int .i64 u_2))), (.a (.fz (.sl false 4 u_3)))]), (.c (.a (.fz (.int .i64 o0_0))))] [] (.c (.a (.fz (.bool b1)))) []) ∧ (TV.Le (.c (.a (.fz (.bool (!b1))))) r ∧ [(.arr 1 [[(.a (.fz (.int .i64 o0_0)))]])] = Hs'))) := by kernel_rfl
-- STUCK (25, '(*strings.Builder).WriteString', "int wanted: ('c', ('a', ('fz', ('str', 's'))))", ('(*strings.Builder).WriteString', 6, 'builder.go:114', 'call'))
-- STUCK (25, '(*strings.Builder).WriteString', "int wanted: ('c', ('a', ('fz', ('str', 's'))))", ('(*strings.Builder).WriteString', 6, 'builder.go:114', 'call'))
-- STUCK (92, 'internal/strconv.FormatInt', "slice ('c', ('a', ('ep', 288, 24, 0, 0)))", ('internal/strconv.FormatInt', 2, 'itoa.go:40', 'slice'))
end Go.AM

set_option maxRecDepth 100000
open Go Go.Proofs

set_option maxRecDepth 100000
open Go Go.Proofs
namespace Go.AM
def z4g (c : Int) : Bool := decide (97 ≤ c) && decide (c ≤ 122)
def z5a (c : Int) : Bool := decide (65 ≤ c) && decide (c ≤ 90) || c == 95
def z8g (c : Int) : Bool := decide (48 ≤ c) && decide (c ≤ 57)
def z0i (c : Int) : Bool := z4g c || z5a c || z8g c || c == 39
def za4 : List UInt8 := [43, 45, 42, 47, 60, 62, 61, 38, 124, 94, 126, 64, 35, 36, 63, 58]
def z4t (c : Int) : Bool := decide (Lib.indexByte za4 c.toNat.toUInt8 ≥ 0)
theorem zi (c : Int) : AC Tryz.prog 31 [c8 c] [] (cb (z4g c)) [] := by
 refine AC.vc hP sh lv31 (Nat.le_refl _) (by simp) (by simp) (Eq.mpr (v31 ..) ?_)
 refine z00 (fun h => z01 ?_) (fun h => z01 ?_) <;> simp_all [z4g] <;> omega
theorem c_great (c : Int) : AC Tryz.prog 59 [c8 c] [] (cb (z5a c)) [] := by
 refine AC.vc hP sh lv59 (Nat.le_refl _) (by simp) (by simp) (Eq.mpr (v59 ..) ?_)
 refine z00 (fun h => z00 (fun h => z01 ?_) (fun h => z01 ?_)) (fun h => z01 ?_) <;> simp_all [z5a] <;> omega
theorem c_digit (c : Int) : AC Tryz.prog 60 [c8 c] [] (cb (z8g c)) [] := by
 refine AC.vc hP sh lv60 (Nat.le_refl _) (by simp) (by simp) (Eq.mpr (v60 ..) ?_)
 refine z00 (fun h => z01 ?_) (fun h => z01 ?_) <;> simp_all [z8g] <;> omega
theorem c_inside (c : Int) : AC Tryz.prog 33 [c8 c] [] (cb (z0i c)) [] := by
 refine AC.vc hP sh lv33 (Nat.le_refl _) (by simp) (by simp) (Eq.mpr (v33 ..) ?_)
 refine ⟨_, zi c, z00 (fun h => z01 ?_) (fun h => ⟨_, c_great c, z00 (fun h => z01 ?_) (fun h => ⟨_, c_digit c, z00 (fun h => z01 ?_) (fun h => z01 ?_)⟩)⟩)⟩ <;> simp_all [z0i]
theorem zdl (s : List UInt8) (c : Int) : AC Tryz.prog 83 [cs s, c8 c] [] (ci (Lib.indexByte s c.toNat.toUInt8)) [] :=
 AC.str_u8 (by kernel_rfl) fun w => Tryz.stringslite_IndexByte ⟨s.toArray⟩ c w
theorem zev (s : List UInt8) (c : Int) : AC Tryz.prog 61 [cs s, c8 c] [] (ci (Lib.indexByte s c.toNat.toUInt8)) [] :=
 AC.str_u8 (by kernel_rfl) fun w => Tryz.strings_IndexByte ⟨s.toArray⟩ c w
theorem c_sign (c : Int) : AC Tryz.prog 34 [c8 c] [] (cb (z4t c)) [] := by
 refine AC.vc hP sh lv34 (Nat.le_refl _) (by simp) (by simp) (Eq.mpr (v34 ..) ?_)
 exact ⟨_, zev _ c, z01 rfl⟩
def runN (p : Int → Bool) : List UInt8 → Nat
 | [] => 0
 | c :: s => if p (c.toNat : Int) then runN p s + 1 else 0
theorem zi4 (p : Int → Bool) : ∀ s : List UInt8, runN p s ≤ s.length
 | [] => Nat.le_refl _
 | c :: s => by have := zi4 p s; simp only [runN, List.length_cons]; split <;> omega
theorem z7s (a : List UInt8) (c : UInt8) (b : List UInt8) : List.getD (a ++ c :: b) (Int.toNat (a.length : Int)) 0 = c := by simp [List.getD]
theorem z6f : ∀ (b a : List UInt8), (a ++ b).length ≤ B → RPt Tryz.prog 32 0 (ci ((a.length : Int) + runN z0i b)) [] 1 ⟨[(0, cs (a ++ b)), (1, .c (.fn (.func 33) [] [])), (7, ci (((a ++ b).length : Nat) : Int)), (8, ci a.length)], [], 0⟩
 | [], a, hl => by
  refine RPt.vc hP sh lv32 (Eq.mpr (z8v ..) ?_)
  exact z00 (fun h => absurd h (by simp)) (fun _ => z2f (by simp [runN]))
 | c :: b, a, hl => by
  refine RPt.vc hP sh lv32 (Eq.mpr (z8v ..) ?_)
  have hl' := hl
  simp only [List.length_append, List.length_cons, B] at hl'
  refine z00 (fun _ => ⟨⟨by omega, by simp; omega⟩, z0i (c.toNat : Int), ?_, z00 (fun h => z2f ?_) (fun h => ?_)⟩) (fun h => absurd h (by simp; omega))
  · rw [z7s]; exact c_inside _
  · simp_all [runN]
  · have := z6f b (a ++ [c]) (by simpa using hl)
    rw [w64 (by omega) (by omega)]
    simp only [List.append_assoc, List.cons_append, List.nil_append, List.length_append, List.length_cons, List.length_nil, Int.natCast_add, Int.natCast_one, Int.natCast_zero, Int.zero_add] at this
    simp only [Bool.not_eq_false'] at h
    simp only [runN, h, if_true, List.length_append, List.length_cons, Int.natCast_add, Int.natCast_one]
    rw [show (a.length : Int) + ((runN z0i b : Nat) + 1 : Int) = (a.length : Int) + 1 + (runN z0i b : Nat) by omega]
    exact this
theorem zdm (s : List UInt8) (h : s.length ≤ B) : AC Tryz.prog 32 [cs s, .c (.fn (.func 33) [] [])] [] (ci (runN z0i s)) [] := by
 refine AC.vc hP sh lv32 (Nat.le_refl _) (by simp) (by simp) (Eq.mpr (v32_F33 ..) ?_)
 have := z6f s [] (by simpa using h)
 simpa using this
theorem z97 : ∀ (b a : List UInt8), (a ++ b).length ≤ B → RPt Tryz.prog 32 0 (ci ((a.length : Int) + runN z4t b)) [] 1 ⟨[(0, cs (a ++ b)), (1, .c (.fn (.func 34) [] [])), (7, ci (((a ++ b).length : Nat) : Int)), (8, ci a.length)], [], 0⟩
 | [], a, hl => by
  refine RPt.vc hP sh lv32 (Eq.mpr (za ..) ?_)
  exact z00 (fun h => absurd h (by simp)) (fun _ => z2f (by simp [runN]))
 | c :: b, a, hl => by
  refine RPt.vc hP sh lv32 (Eq.mpr (za ..) ?_)
  have hl' := hl
  simp only [List.length_append, List.length_cons, B] at hl'
  refine z00 (fun _ => ⟨⟨by omega, by simp; omega⟩, z4t (c.toNat : Int), ?_, z00 (fun h => z2f ?_) (fun h => ?_)⟩) (fun h => absurd h (by simp; omega))
  · rw [z7s]; exact c_sign _
  · simp_all [runN]
  · have := z97 b (a ++ [c]) (by simpa using hl)
    rw [w64 (by omega) (by omega)]
    simp only [List.append_assoc, List.cons_append, List.nil_append, List.length_append, List.length_cons, List.length_nil, Int.natCast_add, Int.natCast_one, Int.natCast_zero, Int.zero_add] at this
    simp only [Bool.not_eq_false'] at h
    simp only [runN, h, if_true, List.length_append, List.length_cons, Int.natCast_add, Int.natCast_one]
    rw [show (a.length : Int) + ((runN z4t b : Nat) + 1 : Int) = (a.length : Int) + 1 + (runN z4t b : Nat) by omega]
    exact this
theorem zh6 (s : List UInt8) (h : s.length ≤ B) : AC Tryz.prog 32 [cs s, .c (.fn (.func 34) [] [])] [] (ci (runN z4t s)) [] := by
 refine AC.vc hP sh lv32 (Nat.le_refl _) (by simp) (by simp) (Eq.mpr (v32_F34 ..) ?_)
 have := z97 s [] (by simpa using h)
 simpa using this
theorem z5c (p : Int → Bool) : ∀ s : List UInt8, (((runN p s : Nat) : Int) == ((s.length : Nat) : Int)) = s.all fun c => p (c.toNat : Int)
 | [] => rfl
 | c :: s => by
  have ih := z5c p s
  have := zi4 p s
  simp only [runN, List.all_cons, List.length_cons]
  cases h : p (c.toNat : Int) with
  | true => rw [← ih]; simp only [if_true, Bool.true_and]; rw [Bool.eq_iff_iff]; simp <;> omega
  | false => simp; omega
def z7k (s : List UInt8) : Bool := !(s == []) && decide ((s.length : Int) ≤ 32)
theorem c_fits (s : List UInt8) : AC Tryz.prog 30 [cs s] [] (cb (z7k s)) [] := by
 refine AC.vc hP sh lv30 (Nat.le_refl _) (by simp) (by simp) (Eq.mpr (v30 ..) ?_)
 refine z00 (fun h => z01 ?_) (fun h => z01 ?_) <;> simp_all [z7k]
def z3l (s : List UInt8) : Bool := z7k s && z4g ((s.getD 0 0).toNat : Int) && s.all fun c => z0i (c.toNat : Int)
theorem ze9 {s : List UInt8} (h : z7k s = true) : 0 < s.length ∧ s.length ≤ 32 := by
 simp only [z7k, Bool.and_eq_true, Bool.not_eq_true', decide_eq_true_eq] at h
 refine ⟨?_, by omega⟩
 cases s with
 | nil => simp at h
 | cons c s => simp
theorem zf8 (s : List UInt8) : AC Tryz.prog 12 [cs s] [] (cb (z3l s)) [] := by
 refine AC.vc hP sh lv12 (Nat.le_refl _) (by simp) (by simp) (Eq.mpr (v12 ..) ?_)
 refine ⟨_, c_fits s, z00 (fun h => ⟨⟨by omega, by have := ze9 h; omega⟩, _, zi _, z00 (fun h2 => ⟨_, zdm s (by have := ze9 h; simp only [B]; omega), z01 ?_⟩) (fun h2 => z01 ?_)⟩) (fun h => z01 ?_)⟩
 · rw [z5c]; simp only [z3l, h, h2, Bool.true_and]
 · simp only [z3l, h, h2, Bool.and_false, Bool.false_and]
 · simp only [z3l, h, Bool.false_and]
def ze : List UInt8 := [44, 59, 33]
theorem zee (s : List UInt8) (c : UInt8) (hs : s.length ≤ B) : AC Tryz.prog 35 [cs s, cs [c]] [] (cb (decide (Lib.indexByte s c ≥ 0))) [] := by
 have hb : (c.toNat : Int).toNat.toUInt8 = c := by simp
 have h1 : AC Tryz.prog 84 [cs s, cs [c]] [] (ci (if [c] == s then 0 else Lib.indexByte s c)) [] := by
  refine AC.vc hP sh lv84 (Nat.le_refl _) (by simp) (by simp) (Eq.mpr (v84 ..) ?_)
  refine z00 (fun h => absurd h (by simp)) (fun _ => z00 (fun h => z2f (by simp [h])) (fun h => z00 (fun _ => ⟨⟨by omega, by simp⟩, _, zdl s _, z2f ?_⟩) (fun h2 => absurd h2 (by simp))))
  rw [h]
  simp
 have h2 : AC Tryz.prog 62 [cs s, cs [c]] [] (ci (if [c] == s then 0 else Lib.indexByte s c)) [] := by
  refine AC.vc hP sh lv62 (Nat.le_refl _) (by simp) (by simp) (Eq.mpr (v62 ..) ?_)
  exact ⟨_, h1, z2f rfl⟩
 refine AC.vc hP sh lv35 (Nat.le_refl _) (by simp) (by simp) (Eq.mpr (v35 ..) ?_)
 refine ⟨_, h2, z01 ?_⟩
 by_cases e : [c] = s
 · subst e
   simp [Lib.indexByte]
 · have : ([c] == s) = false := by simpa using e
   rw [this]; simp
def z6r (s : List UInt8) : Bool := z7k s && ((s.all fun c => z4t (c.toNat : Int)) || ((s.length : Int) == 1 && decide (Lib.indexByte ze (s.getD 0 0) ≥ 0)))
theorem zjn (s : List UInt8) : AC Tryz.prog 13 [cs s] [] (cb (z6r s)) [] := by
 refine AC.vc hP sh lv13 (Nat.le_refl _) (by simp) (by simp) (Eq.mpr (v13 ..) ?_)
 refine ⟨_, c_fits s, z00 (fun h => ⟨_, zh6 s (by have := ze9 h; simp only [B]; omega), z00 (fun h2 => z01 ?_) (fun h2 => z00 (fun h3 => ?_) (fun h3 => z01 ?_))⟩) (fun h => z01 ?_)⟩
 · rw [z5c] at h2; simp only [z6r, h, h2, Bool.true_and, Bool.true_or]
 · rw [z5c] at h2
   match s, h3 with
   | [c], h3 =>
    refine ⟨_, zee ze c (by simp [ze, B]), z01 ?_⟩
    simp only [z6r, h, h2, h3, Bool.true_and, Bool.false_or, List.getD_cons_zero]
   | [], h3 => simp at h3
   | _ :: _ :: _, h3 => simp at h3; omega
 · rw [z5c] at h2; simp only [z6r, h, h2, h3, Bool.false_and, Bool.false_or, Bool.and_false]
 · simp only [z6r, h, Bool.false_and]
end Go.AM

set_option maxRecDepth 100000
open Go Go.Proofs
namespace Go.AM
mutual
def near (most : Int) : Tm → Bool
 | .mk k _ n l => !(k != 2 && (decide (n > most) || decide (n < 0 - most))) && zdr most l
def zdr (most : Int) : List Tm → Bool
 | [] => true
 | t :: l => near most t && zdr most l
end
theorem l_near (most : Int) (k : Int) (s : List UInt8) (n : Int) : ∀ (b a : List Tm), (∀ u ∈ b, AC Tryz.prog 58 [aT u, ci most] [] (cb (near most u)) []) → (a ++ b).length ≤ B →
  RPt Tryz.prog 58 0 (cb (zdr most b)) [] 1 ⟨[(1, ci most), (2, (.c (.a (.ep 0 4 0 0)))), (5, ci a.length)], [(0, (.arr 4 [fzs (FT (.mk k s n (a ++ b)))]))], 1⟩
 | [], a, _, hl => by
  refine RPt.vc hP sh lv58 (Eq.mpr (v58_1a ..) ?_)
  exact ⟨rfl, z00 (fun h => absurd (of_decide_eq_true h) (geI' a)) (fun _ => z01 rfl)⟩
 | t :: b, a, ih, hl => by
  refine RPt.vc hP sh lv58 (Eq.mpr (v58_1a ..) ?_)
  have hl' := hl
  simp only [List.length_append, List.length_cons, B] at hl'
  refine ⟨rfl, z00 (fun _ => ?_) (fun h => absurd (ltI' a t b) (of_decide_eq_false h))⟩
  have h1 := ih t List.mem_cons_self
  have h2 := l_near most k s n b (a ++ [t]) (fun u hu => ih u (List.mem_cons_of_mem _ hu)) (by rw [ap]; exact hl)
  have h3 := ltI' a t b
  rw [ap, nx] at h2
  rw [midI, w64 (by omega) (by omega)]
  obtain ⟨k', s', n', l'⟩ := t
  refine ⟨⟨rfl, by omega, h3, rfl⟩, _, h1, z00 (fun h => z01 ?_) (fun h => ?_)⟩
  · simp_all [zdr]
  · simp only [zdr, show near most (.mk k' s' n' l') = true by simpa using h, Bool.true_and]; exact h2
theorem c_near (most : Int) (h0 : 0 ≤ most) (h1 : most ≤ 4611686018427387904) : ∀ t : Tm, t.sz ≤ B → AC Tryz.prog 58 [aT t, ci most] [] (cb (near most t)) [] := by
 refine Tm.ind fun t ih hs => ?_
 obtain ⟨k, s, n, l⟩ := t
 have hl := Tm.szs_length l
 simp only [Tm.sz, B] at hs
 refine AC.vc hP sh lv58 (Nat.le_refl _) (by simp) (by simp) (Eq.mpr (v58 k s n (FTs l) most _ _) ?_)
 have key := l_near most k s n l [] (fun u hu => ih u hu (by have := Tm.szs_mem hu; simp only [B]; omega)) (by simp only [List.nil_append, B]; omega)
 rw [w64 (by omega) (by omega)]
 rw [near]
 refine z00 (fun h => z00 (fun h2 => z01 ?_) (fun h2 => z00 (fun h3 => z01 ?_) (fun h3 => ?_))) (fun h => ?_)
 · simp only [h, h2, Bool.true_or, Bool.and_true, Bool.not_true, Bool.false_and]
 · simp only [h, h3, Bool.or_true, Bool.and_true, Bool.not_true, Bool.false_and]
 · simp only [h2, h3, Bool.or_false, Bool.and_false, Bool.not_false, Bool.true_and]; exact key
 · simp only [h, Bool.false_and, Bool.not_false, Bool.true_and]; exact key
mutual
def zap : Tm → Int → Int
 | .mk _ _ _ l, most => zag l (most - 1)
def zag : List Tm → Int → Int
 | [], n => n
 | t :: l, n => if n ≥ 0 then zag l (zap t n) else n
end
mutual
theorem zfb : ∀ (t : Tm) (n : Int), zap t n ≤ n - 1 ∧ (0 ≤ n → -1 ≤ zap t n)
 | .mk _ _ _ l, n => by
  have h := zfi l (n - 1)
  simp only [zap]
  exact ⟨h.1, fun hn => h.2 (by omega)⟩
theorem zfi : ∀ (l : List Tm) (n : Int), zag l n ≤ n ∧ (-1 ≤ n → -1 ≤ zag l n)
 | [], n => by simp [zag]
 | t :: l, n => by
  have h1 := zfb t n
  have h2 := zfi l (zap t n)
  simp only [zag]
  split
  · rename_i h; exact ⟨by omega, fun _ => h2.2 (h1.2 h)⟩
  · exact ⟨Int.le_refl _, fun h => h⟩
end
theorem l_left (k : Int) (s : List UInt8) (n : Int) : ∀ (b a : List Tm) (m : Int), (∀ u ∈ b, ∀ m : Int, 0 ≤ m → m ≤ 4611686018427387904 → AC Tryz.prog 82 [aT u, ci m] [] (ci (zap u m)) []) → (a ++ b).length ≤ B → m ≤ 4611686018427387904 →
  RPt Tryz.prog 82 0 (ci (zag b m)) [] 1 ⟨[(2, (.c (.a (.ep 0 4 0 0)))), (5, ci m), (6, ci a.length)], [(0, (.arr 4 [fzs (FT (.mk k s n (a ++ b)))]))], 1⟩
 | [], a, m, _, hl, hm => by
  refine RPt.vc hP sh lv82 (Eq.mpr (v82_1a ..) ?_)
  exact ⟨rfl, z00 (fun h => absurd (of_decide_eq_true h) (geI' a)) (fun _ => z2f rfl)⟩
 | t :: b, a, m, ih, hl, hm => by
  refine RPt.vc hP sh lv82 (Eq.mpr (v82_1a ..) ?_)
  have hl' := hl
  simp only [List.length_append, List.length_cons, B] at hl'
  refine ⟨rfl, z00 (fun _ => z00 (fun hm0 => ?_) (fun hm0 => z2f ?_)) (fun h => absurd (ltI' a t b) (of_decide_eq_false h))⟩
  · have hm0 := of_decide_eq_true hm0
    have h1 := ih t List.mem_cons_self m hm0 hm
    have hle := zfb t m
    have h2 := l_left k s n b (a ++ [t]) (zap t m) (fun u hu => ih u (List.mem_cons_of_mem _ hu)) (by rw [ap]; exact hl) (by omega)
    have h3 := ltI' a t b
    rw [ap, nx] at h2
    rw [midI, w64 (by omega) (by omega)]
    simp only [zag, hm0, if_true]
    obtain ⟨k', s', n', l'⟩ := t
    exact ⟨⟨rfl, by omega, h3, rfl⟩, _, h1, h2⟩
  · have hm0 := of_decide_eq_false hm0
    simp only [zag, hm0, if_false]
theorem c_left : ∀ t : Tm, t.sz ≤ B → ∀ m : Int, 0 ≤ m → m ≤ 4611686018427387904 → AC Tryz.prog 82 [aT t, ci m] [] (ci (zap t m)) [] := by
 refine Tm.ind fun t ih hs m h0 h1 => ?_
 obtain ⟨k, s, n, l⟩ := t
 have hl := Tm.szs_length l
 simp only [Tm.sz, B] at hs
 refine AC.vc hP sh lv82 (Nat.le_refl _) (by simp) (by simp) (Eq.mpr (v82 k s n (FTs l) m _ _) ?_)
 rw [w64 (by omega) (by omega)]
 exact l_left k s n l [] (m - 1) (fun u hu => ih u hu (by have := Tm.szs_mem hu; simp only [B]; omega)) (by simp only [List.nil_append, B]; omega) (by omega)
def z8i (t : Tm) (most : Int) : Bool := decide (zap t most < 0)
theorem zhr (t : Tm) (hs : t.sz ≤ B) (m : Int) (h0 : 0 ≤ m) (h1 : m ≤ 4611686018427387904) : AC Tryz.prog 57 [aT t, ci m] [] (cb (z8i t m)) [] := by
 have h := c_left t hs m h0 h1
 obtain ⟨k, s, n, l⟩ := t
 refine AC.vc hP sh lv57 (Nat.le_refl _) (by simp) (by simp) (Eq.mpr (v57 k s n (FTs l) m _ _) ?_)
 exact ⟨_, h, z01 rfl⟩
mutual
def zba : Tm → Tm → Bool
 | .mk k s n l, .mk k' s' n' l' => k == k' && (s == s' && (n == n' && z8q l l'))
def z8q : List Tm → List Tm → Bool
 | [], [] => true
 | t :: l, u :: m => zba t u && z8q l m
 | _, _ => false
end
theorem zdh : ∀ {a b : List Tm}, a.length ≠ b.length → z8q a b = false
 | [], [], h => absurd rfl h
 | t :: l, u :: m, h => by simp only [z8q, zdh (a := l) (b := m) (fun e => h (by simp [e])), Bool.and_false]
 | [], _ :: _, _ => rfl
 | _ :: _, [], _ => rfl
def Tm.inner (t : Tm) : Bool := t.k == 5 || t.k == 6
def Tm.kids (t : Tm) : List Tm := if t.inner = true then t.l else []
def Tm.by (t : Tm) : Int := if t.k == 5 then 1 else 0
end Go.AM

namespace Go.AM
open Go.ChangeShapes Go.WideShapes Go.ChangeAt Go.RowKit
section
variable {H : Type} {enc : TypeId × Value → H} {P : Program} {w : World}
theorem z36 {n : Int} (h : (Lit.int .i64 n).wf = true) : -9223372036854775808 ≤ n ∧ n ≤ 9223372036854775807 := by
 simp only [Lit.wf, IntKind.min, IntKind.max, IntKind.signed, IntKind.bits, Bool.and_eq_true, decide_eq_true_eq, if_true] at h; omega
abbrev TmI := { t : Tm // okI t }
theorem z8c : ∀ l : List TmI, Tm.bks (l.map (·.1)) = z37 (fun t : TmI => t.1.bk) l
 | [] => rfl
 | t :: l => by rw [List.map_cons, Tm.bks, z37, z8c l]
theorem zfc (l : List TmI) : okIs (l.map (·.1)) := zi8 fun t ht => by
 obtain ⟨u, _, rfl⟩ := List.mem_map.1 ht
 exact u.2
theorem zf4 {b : DataW H → Nat} {bs : List (DataW H) → Nat} (hb : Bulk b bs) {T : TypeId} {f0 f1 f2 f3 : Field} (hT : TmTy P T f0 f1 f2 f3) : ∀ fuel, RdN enc P w b fuel T (fun t : TmI => FT t.1) (fun t => t.1.bk) := by
 intro fuel
 induction fuel using Nat.strongRecOn with
 | _ fuel ih =>
  intro cs x h
  obtain ⟨xs, n, rfl, rfl, hl, hxl, hf⟩ := DataW.trod_struct hT.str h
  rw [hT.cT] at hl
  match cs, hl with
  | [v0, v1, v2, v3], _ =>
  match xs, hxl with
  | [x0, x1, x2, x3], _ =>
  have g0 := hf 0 f0 rfl
  have g1 := hf 1 f1 rfl
  have g2 := hf 2 f2 rfl
  have g3 := hf 3 f3 rfl
  rw [hT.o0, hT.c0] at g0
  rw [hT.o1, hT.c1] at g1
  rw [hT.o2, hT.c2] at g2
  rw [hT.o3, hT.c3] at g3
  obtain ⟨k, r0, _⟩ := rd_int (b := b) hT.u0 hb.one n _ _ g0
  obtain ⟨s, r1, z1⟩ := rd_str (b := b) hT.u1 hb.str n _ _ g1
  have z1 : s.length + 1 ≤ b x1.1 := z1
  obtain ⟨m, r2, _⟩ := z78 (b := b) hT.u2 hb.one n _ _ g2
  obtain ⟨l, r3, z3⟩ := z71 (F := fun t : TmI => FT t.1) (sz := fun t : TmI => t.1.bk) hb.cons hb.one hb.slice hT.u3 hT.cT (by omega) (fun t => zd8 t.1) (fun k hk => ih k (by omega)) _ _ g3
  have z3 : z37 (fun t : TmI => t.1.bk) l + 1 ≤ b x3.1 := z3
  refine ⟨⟨.mk k s m.1 (l.map (·.1)), z36 m.2, zfc l⟩, ?_, ?_⟩
  · have e : FTs (l.map (·.1)) = l.map fun t : TmI => FT t.1 := by rw [z7c, List.map_map]; rfl
    show LRep (FRep w z4f) (FT (.mk k s m.1 (l.map (·.1)))) _
    rw [FT, e]
    exact .cons (LRep.one r0) (.cons (LRep.one r1) (.cons (LRep.one r2) (.cons (LRep.one r3) .nil)))
  · have := hb.one x0.1
    show Tm.bk (.mk k s m.1 (l.map (·.1))) ≤ b (.agg [x0.1, x1.1, x2.1, x3.1])
    simp only [Tm.bk, z8c]
    have h9 := hb.agg [x0.1, x1.1, x2.1, x3.1]
    simp only [hb.cons, hb.nil] at h9
    omega
end
end Go.AM

namespace Go.AM
open Go.ChangeShapes Go.WideShapes Go.ChangeAt Go.RowKit
end Go.AM

namespace Go.AM
open Go.ChangeShapes Go.WideShapes Go.ChangeAt Go.RowKit
mutual
inductive Cd where
 | mk (nm : List UInt8) (ar fr vs sl : Int) (ins : List In1)
inductive In1 where
 | mk (k a : Int) (t : Tm) (l : List Tm) (c : List Cd)
end
namespace Cd
def nm : Cd → List UInt8 | .mk x _ _ _ _ _ => x
def ar : Cd → Int | .mk _ x _ _ _ _ => x
def fr : Cd → Int | .mk _ _ x _ _ _ => x
def vs : Cd → Int | .mk _ _ _ x _ _ => x
def sl : Cd → Int | .mk _ _ _ _ x _ => x
def ins : Cd → List In1 | .mk _ _ _ _ _ x => x
end Cd
namespace In1
def k : In1 → Int | .mk x _ _ _ _ => x
def a : In1 → Int | .mk _ x _ _ _ => x
def t : In1 → Tm | .mk _ _ x _ _ => x
def l : In1 → List Tm | .mk _ _ _ x _ => x
def c : In1 → List Cd | .mk _ _ _ _ x => x
end In1
instance : Inhabited Cd := ⟨.mk [] 0 0 0 0 []⟩
instance : Inhabited In1 := ⟨.mk 0 0 default [] []⟩
mutual
def FC : Cd → List FV
 | .mk nm ar fr vs sl ins => [.str nm, .int .i64 ar, .int .i64 fr, .int .i64 vs, .int .i64 sl, .sl false 8 (FIs ins)]
def FI : In1 → List FV
 | .mk k a t l c => [.int .i64 k, .int .i64 a, .int .i64 t.k, .str t.s, .int .i64 t.n, .sl false 4 (FTs t.l), .sl false 4 (FTs l), .sl false 6 (FCs c)]
def FIs : List In1 → List (List FV)
 | [] => []
 | x :: l => FI x :: FIs l
def FCs : List Cd → List (List FV)
 | [] => []
 | x :: l => FC x :: FCs l
end
theorem za9 : ∀ l : List In1, FIs l = l.map FI
 | [] => by rw [FIs]; rfl
 | x :: l => by rw [FIs, za9 l]; rfl
theorem zan : ∀ l : List Cd, FCs l = l.map FC
 | [] => by rw [FCs]; rfl
 | x :: l => by rw [FCs, zan l]; rfl
theorem zjm (c : Cd) : (FC c).length = 6 := by cases c; simp [FC]
theorem zk (x : In1) : (FI x).length = 8 := by cases x; simp [FI]
theorem z02 (l : List In1) : (FIs l).length = l.length := by rw [za9, List.length_map]
theorem z08 (l : List Cd) : (FCs l).length = l.length := by rw [zan, List.length_map]
mutual
def Cd.sz : Cd → Nat
 | .mk nm _ _ _ _ ins => 1 + nm.length + In1.szs ins
def In1.sz1 : In1 → Nat
 | .mk _ _ t l c => 1 + t.bk + Tm.bks l + Cd.szs c
def In1.szs : List In1 → Nat
 | [] => 0
 | x :: l => In1.sz1 x + In1.szs l
def Cd.szs : List Cd → Nat
 | [] => 0
 | x :: l => Cd.sz x + Cd.szs l
end
theorem Cd.szs_mem : ∀ {l : List Cd} {c : Cd}, c ∈ l → c.sz ≤ Cd.szs l
 | x :: l, c, h => by
  rcases List.mem_cons.1 h with rfl | h
  · simp only [Cd.szs]; omega
  · have := Cd.szs_mem h; simp only [Cd.szs]; omega
theorem In1.szs_mem : ∀ {l : List In1} {c : In1}, c ∈ l → c.sz1 ≤ In1.szs l
 | x :: l, c, h => by
  rcases List.mem_cons.1 h with rfl | h
  · simp only [In1.szs]; omega
  · have := In1.szs_mem h; simp only [In1.szs]; omega
theorem In1.szs_length : ∀ l : List In1, l.length ≤ In1.szs l
 | [] => Nat.le_refl _
 | x :: l => by have := In1.szs_length l; cases x; simp only [List.length_cons, In1.szs, In1.sz1]; omega
theorem Cd.szs_length : ∀ l : List Cd, l.length ≤ Cd.szs l
 | [] => Nat.le_refl _
 | x :: l => by have := Cd.szs_length l; cases x; simp only [List.length_cons, Cd.szs, Cd.sz]; omega
theorem Cd.ind {P : Cd → Prop} (h : ∀ c, (∀ x ∈ c.ins, ∀ d ∈ x.c, P d) → P c) : ∀ c, P c := by
 have key : ∀ n c, Cd.sz c ≤ n → P c := by
  intro n
  induction n with
  | zero => intro c hc; cases c; simp only [Cd.sz] at hc; omega
  | succ n ih =>
   intro c hc
   refine h c fun x hx d hd => ih d ?_
   have h1 := In1.szs_mem hx
   have h2 := Cd.szs_mem hd
   cases c; cases x
   simp only [Cd.sz, Cd.ins, In1.sz1, In1.c] at *
   omega
 exact fun c => key _ c (Nat.le_refl _)
mutual
def okCd : Cd → Prop
 | .mk _ ar fr vs sl ins => (-9223372036854775808 ≤ ar ∧ ar ≤ 9223372036854775807) ∧ (-9223372036854775808 ≤ fr ∧ fr ≤ 9223372036854775807) ∧ (-9223372036854775808 ≤ vs ∧ vs ≤ 9223372036854775807) ∧ (-9223372036854775808 ≤ sl ∧ sl ≤ 9223372036854775807) ∧ z8m ins
def okIn : In1 → Prop
 | .mk k a t l c => (-9223372036854775808 ≤ k ∧ k ≤ 9223372036854775807) ∧ (-9223372036854775808 ≤ a ∧ a ≤ 9223372036854775807) ∧ okI t ∧ okIs l ∧ zcc c
def z8m : List In1 → Prop
 | [] => True
 | x :: l => okIn x ∧ z8m l
def zcc : List Cd → Prop
 | [] => True
 | x :: l => okCd x ∧ zcc l
end
theorem zfe : ∀ {l : List In1}, (∀ x ∈ l, okIn x) → z8m l
 | [], _ => by rw [z8m]; trivial
 | x :: l, h => by rw [z8m]; exact ⟨h x List.mem_cons_self, zfe fun u hu => h u (List.mem_cons_of_mem _ hu)⟩
theorem zfu : ∀ {l : List Cd}, (∀ x ∈ l, okCd x) → zcc l
 | [], _ => by rw [zcc]; trivial
 | x :: l, h => by rw [zcc]; exact ⟨h x List.mem_cons_self, zfu fun u hu => h u (List.mem_cons_of_mem _ hu)⟩
theorem z7r : ∀ {l : List In1} {x : In1}, z8m l → x ∈ l → okIn x
 | y :: l, x, h, hm => by
  rw [z8m] at h
  rcases List.mem_cons.1 hm with rfl | hm
  · exact h.1
  · exact z7r h.2 hm
theorem zc8 : ∀ {l : List Cd} {x : Cd}, zcc l → x ∈ l → okCd x
 | y :: l, x, h, hm => by
  rw [zcc] at h
  rcases List.mem_cons.1 hm with rfl | hm
  · exact h.1
  · exact zc8 h.2 hm
abbrev CdI := { c : Cd // okCd c }
abbrev InI := { x : In1 // okIn x }
abbrev aC (c : Cd) : TV := .agg [.a (.fz (.str c.nm)), .a (.fz (.int .i64 c.ar)), .a (.fz (.int .i64 c.fr)), .a (.fz (.int .i64 c.vs)), .a (.fz (.int .i64 c.sl)), .a (.fz (.sl false 8 (FIs c.ins)))]
abbrev aCs (l : List Cd) : TV := .c (.a (.fz (.sl false 6 (FCs l))))
theorem FC_eta (c : Cd) : FC c = [.str c.nm, .int .i64 c.ar, .int .i64 c.fr, .int .i64 c.vs, .int .i64 c.sl, .sl false 8 (FIs c.ins)] := by cases c; rw [FC]; rfl
theorem FI_eta (x : In1) : FI x = [.int .i64 x.k, .int .i64 x.a, .int .i64 x.t.k, .str x.t.s, .int .i64 x.t.n, .sl false 4 (FTs x.t.l), .sl false 4 (FTs x.l), .sl false 6 (FCs x.c)] := by cases x; rw [FI]; rfl
section
variable {H : Type} {enc : TypeId × Value → H} {P : Program} {w : World}
structure CdTy (P : Program) (TC TI TT : TypeId) (f0 f1 f2 f3 f4 f5 g0 g1 g2 g3 g4 : Field) : Prop where
 str : P.underlying TC = some (.struct #[f0, f1, f2, f3, f4, f5])
 u0 : P.underlying f0.type = some .string
 u1 : P.underlying f1.type = some (.int .i64)
 u2 : P.underlying f2.type = some (.int .i64)
 u3 : P.underlying f3.type = some (.int .i64)
 u4 : P.underlying f4.type = some (.int .i64)
 u5 : P.underlying f5.type = some (.slice TI)
 o : f0.offset = 0 ∧ f1.offset = 1 ∧ f2.offset = 2 ∧ f3.offset = 3 ∧ f4.offset = 4 ∧ f5.offset = 5
 c : P.cellsOf f0.type = 1 ∧ P.cellsOf f1.type = 1 ∧ P.cellsOf f2.type = 1 ∧ P.cellsOf f3.type = 1 ∧ P.cellsOf f4.type = 1 ∧ P.cellsOf f5.type = 1
 cT : P.cellsOf TC = 6
 istr : P.underlying TI = some (.struct #[g0, g1, g2, g3, g4])
 v0 : P.underlying g0.type = some (.int .i64)
 v1 : P.underlying g1.type = some (.int .i64)
 v2 : g2.type = TT
 v3 : P.underlying g3.type = some (.slice TT)
 v4 : P.underlying g4.type = some (.slice TC)
 io : g0.offset = 0 ∧ g1.offset = 1 ∧ g2.offset = 2 ∧ g3.offset = 6 ∧ g4.offset = 7
 ic : P.cellsOf g0.type = 1 ∧ P.cellsOf g1.type = 1 ∧ P.cellsOf g3.type = 1 ∧ P.cellsOf g4.type = 1
 icT : P.cellsOf TI = 8
theorem zbv : ∀ l : List InI, In1.szs (l.map (·.1)) = z37 (fun x : InI => x.1.sz1) l
 | [] => by simp [In1.szs, z37]
 | t :: l => by rw [List.map_cons, In1.szs, z37, zbv l]
theorem zdj : ∀ l : List CdI, Cd.szs (l.map (·.1)) = z37 (fun x : CdI => x.1.sz) l
 | [] => by simp [Cd.szs, z37]
 | t :: l => by rw [List.map_cons, Cd.szs, z37, zdj l]
theorem rd_cd {b : DataW H → Nat} {bs : List (DataW H) → Nat} (hb : Bulk b bs) {TC TI TT : TypeId} {h0 h1 h2 h3 f0 f1 f2 f3 f4 f5 g0 g1 g2 g3 g4 : Field} (hT : TmTy P TT h0 h1 h2 h3) (hC : CdTy P TC TI TT f0 f1 f2 f3 f4 f5 g0 g1 g2 g3 g4) :
  ∀ fuel, RdN enc P w b fuel TC (fun c : CdI => FC c.1) (fun c => c.1.sz) ∧ RdN enc P w b fuel TI (fun x : InI => FI x.1) (fun x => x.1.sz1) := by
 intro fuel
 induction fuel using Nat.strongRecOn with
 | _ fuel ih =>
  refine ⟨fun cs x h => ?_, fun cs x h => ?_⟩
  · obtain ⟨xs, n, rfl, rfl, hl, hxl, hf⟩ := DataW.trod_struct hC.str h
    rw [hC.cT] at hl
    match cs, hl with
    | [v0, v1, v2, v3, v4, v5], _ =>
    match xs, hxl with
    | [x0, x1, x2, x3, x4, x5], _ =>
    have q0 := hf 0 f0 rfl
    have q1 := hf 1 f1 rfl
    have q2 := hf 2 f2 rfl
    have q3 := hf 3 f3 rfl
    have q4 := hf 4 f4 rfl
    have q5 := hf 5 f5 rfl
    rw [hC.o.1, hC.c.1] at q0
    rw [hC.o.2.1, hC.c.2.1] at q1
    rw [hC.o.2.2.1, hC.c.2.2.1] at q2
    rw [hC.o.2.2.2.1, hC.c.2.2.2.1] at q3
    rw [hC.o.2.2.2.2.1, hC.c.2.2.2.2.1] at q4
    rw [hC.o.2.2.2.2.2, hC.c.2.2.2.2.2] at q5
    obtain ⟨s, r0, z0⟩ := rd_str (b := b) hC.u0 hb.str n _ _ q0
    obtain ⟨i1, r1, z1⟩ := z78 (b := b) hC.u1 hb.one n _ _ q1
    obtain ⟨i2, r2, z2⟩ := z78 (b := b) hC.u2 hb.one n _ _ q2
    obtain ⟨i3, r3, z3⟩ := z78 (b := b) hC.u3 hb.one n _ _ q3
    obtain ⟨i4, r4, z4⟩ := z78 (b := b) hC.u4 hb.one n _ _ q4
    obtain ⟨l, r5, z5⟩ := z71 (F := fun x : InI => FI x.1) (sz := fun x : InI => x.1.sz1) hb.cons hb.one hb.slice hC.u5 hC.icT (by omega) (fun x => zk x.1) (fun k hk => (ih k (by omega)).2) _ _ q5
    have z0 : s.length + 1 ≤ b x0.1 := z0
    have z5 : z37 (fun x : InI => x.1.sz1) l + 1 ≤ b x5.1 := z5
    refine ⟨⟨.mk s i1.1 i2.1 i3.1 i4.1 (l.map (·.1)), by rw [okCd]; exact ⟨z36 i1.2, z36 i2.2, z36 i3.2, z36 i4.2, zfe fun x hx => by obtain ⟨u, _, rfl⟩ := List.mem_map.1 hx; exact u.2⟩⟩, ?_, ?_⟩
    · have e : FIs (l.map (·.1)) = l.map fun x : InI => FI x.1 := by rw [za9, List.map_map]; rfl
      show LRep (FRep w z4f) (FC (.mk s i1.1 i2.1 i3.1 i4.1 (l.map (·.1)))) _
      rw [FC, e]
      exact .cons (LRep.one r0) (.cons (LRep.one r1) (.cons (LRep.one r2) (.cons (LRep.one r3) (.cons (LRep.one r4) (.cons (LRep.one r5) .nil)))))
    · show Cd.sz (.mk s i1.1 i2.1 i3.1 i4.1 (l.map (·.1))) ≤ b (.agg [x0.1, x1.1, x2.1, x3.1, x4.1, x5.1])
      have h9 := hb.agg [x0.1, x1.1, x2.1, x3.1, x4.1, x5.1]
      simp only [hb.cons, hb.nil] at h9
      rw [Cd.sz, zbv]
      omega
  · obtain ⟨xs, n, rfl, rfl, hl, hxl, hf⟩ := DataW.trod_struct hC.istr h
    rw [hC.icT] at hl
    match cs, hl with
    | [v0, v1, v2, v3, v4, v5, v6, v7], _ =>
    match xs, hxl with
    | [x0, x1, x2, x3, x4], _ =>
    have q0 := hf 0 g0 rfl
    have q1 := hf 1 g1 rfl
    have q2 := hf 2 g2 rfl
    have q3 := hf 3 g3 rfl
    have q4 := hf 4 g4 rfl
    rw [hC.io.1, hC.ic.1] at q0
    rw [hC.io.2.1, hC.ic.2.1] at q1
    rw [hC.io.2.2.1, hC.v2, hT.cT] at q2
    rw [hC.io.2.2.2.1, hC.ic.2.2.1] at q3
    rw [hC.io.2.2.2.2, hC.ic.2.2.2] at q4
    obtain ⟨k, r0, z0⟩ := z78 (b := b) hC.v0 hb.one n _ _ q0
    obtain ⟨a, r1, z1⟩ := z78 (b := b) hC.v1 hb.one n _ _ q1
    obtain ⟨t, r2, z2⟩ := zf4 hb hT n _ _ q2
    obtain ⟨l, r3, z3⟩ := z71 (F := fun x : TmI => FT x.1) (sz := fun x : TmI => x.1.bk) hb.cons hb.one hb.slice hC.v3 hT.cT (by omega) (fun x => zd8 x.1) (fun k hk => zf4 hb hT k) _ _ q3
    obtain ⟨c, r4, z4⟩ := z71 (F := fun x : CdI => FC x.1) (sz := fun x : CdI => x.1.sz) hb.cons hb.one hb.slice hC.v4 hC.cT (by omega) (fun x => zjm x.1) (fun k hk => (ih k (by omega)).1) _ _ q4
    have z2 : t.1.bk ≤ b x2.1 := z2
    have z3 : z37 (fun x : TmI => x.1.bk) l + 1 ≤ b x3.1 := z3
    have z4 : z37 (fun x : CdI => x.1.sz) c + 1 ≤ b x4.1 := z4
    refine ⟨⟨.mk k.1 a.1 t.1 (l.map (·.1)) (c.map (·.1)), by rw [okIn]; exact ⟨z36 k.2, z36 a.2, t.2, zfc l, zfu fun x hx => by obtain ⟨u, _, rfl⟩ := List.mem_map.1 hx; exact u.2⟩⟩, ?_, ?_⟩
    · have e : FTs (l.map (·.1)) = l.map fun x : TmI => FT x.1 := by rw [z7c, List.map_map]; rfl
      have e2 : FCs (c.map (·.1)) = c.map fun x : CdI => FC x.1 := by rw [zan, List.map_map]; rfl
      have r2 : LRep (FRep w z4f) (FT t.1) [v2, v3, v4, v5] := r2
      rw [zjf] at r2
      show LRep (FRep w z4f) (FI (.mk k.1 a.1 t.1 (l.map (·.1)) (c.map (·.1)))) _
      rw [FI, e, e2]
      obtain ⟨w2, ws2, e3, s2, r2⟩ := r2.cons_inv
      obtain ⟨w3, ws3, e4, s3, r2⟩ := r2.cons_inv
      obtain ⟨w4, ws4, e5, s4, r2⟩ := r2.cons_inv
      obtain ⟨w5, ws5, e6, s5, r2⟩ := r2.cons_inv
      simp only [List.cons.injEq] at e3
      obtain ⟨rfl, rfl⟩ := e3
      simp only [List.cons.injEq] at e4
      obtain ⟨rfl, rfl⟩ := e4
      simp only [List.cons.injEq] at e5
      obtain ⟨rfl, rfl⟩ := e5
      simp only [List.cons.injEq] at e6
      obtain ⟨rfl, _⟩ := e6
      exact .cons (LRep.one r0) (.cons (LRep.one r1) (.cons s2 (.cons s3 (.cons s4 (.cons s5 (.cons (LRep.one r3) (.cons (LRep.one r4) .nil)))))))
    · show In1.sz1 (.mk k.1 a.1 t.1 (l.map (·.1)) (c.map (·.1))) ≤ b (.agg [x0.1, x1.1, x2.1, x3.1, x4.1])
      have h9 := hb.agg [x0.1, x1.1, x2.1, x3.1, x4.1]
      simp only [hb.cons, hb.nil] at h9
      rw [In1.sz1, zdj, z8c]
      have := hb.one x0.1
      omega
theorem open_cd {b : DataW H → Nat} {bs : List (DataW H) → Nat} (hb : Bulk b bs) {TC TI TT : TypeId} {h0 h1 h2 h3 f0 f1 f2 f3 f4 f5 g0 g1 g2 g3 g4 : Field} (hT : TmTy P TT h0 h1 h2 h3) (hC : CdTy P TC TI TT f0 f1 f2 f3 f4 f5 g0 g1 g2 g3 g4) {r : Reach} {base : Nat} {v : Value} {d : DataW H} {ps : List MemPlace}
  (hv : Value.okWide P w r base TC v) (hd : DataW.Trod enc P w 0 (fun _ => true) true TC v d ps) : ∃ c : Cd, TRep w z4f β0 (aC c) v ∧ c.sz ≤ b d ∧ okCd c := by
 obtain ⟨cs, rfl, _⟩ := okWide_struct hC.str hv
 obtain ⟨fuel, hf⟩ := hd
 obtain ⟨c, h1, h2⟩ := (rd_cd hb hT hC fuel).1 _ _ hf
 refine ⟨c.1, ⟨cs.toList, by simp, ?_⟩, h2, c.2⟩
 have h1 : LRep (FRep w z4f) (FC c.1) cs.toList := h1
 rw [FC_eta] at h1
 exact h1.map (g := fun x => WV.a (.fz x)) fun c u _ h => .a _ _ (.fz _ _ h)
end
end Go.AM

set_option maxRecDepth 100000
open Go Go.Proofs
namespace Go.AM
theorem z9w (a : List Cd) (c : Cd) (b : List Cd) : List.getD (FCs (a ++ c :: b)) (Int.toNat (a.length : Int)) [] = FC c := by
 rw [show Int.toNat (a.length : Int) = a.length by omega, zan]; simp [List.getD]
theorem z30 (a : List In1) (c : In1) (b : List In1) : List.getD (FIs (a ++ c :: b)) (Int.toNat (a.length : Int)) [] = FI c := by
 rw [show Int.toNat (a.length : Int) = a.length by omega, za9]; simp [List.getD]
abbrev aCr (r : List FV) : TV := .agg [.a (.fz (.str (FV.asS (List.getD r 0 FV.nils)))), .a (.fz (.int .i64 (FV.asI (List.getD r 1 FV.nils)))), .a (.fz (.int .i64 (FV.asI (List.getD r 2 FV.nils)))), .a (.fz (.int .i64 (FV.asI (List.getD r 3 FV.nils)))), .a (.fz (.int .i64 (FV.asI (List.getD r 4 FV.nils)))), .a (.fz (List.getD r 5 FV.nils))]
theorem z81 (c : Cd) : aCr (FC c) = aC c := by cases c; rw [FC]; rfl
abbrev fCr (r : List FV) : List FV := [.str (FV.asS (List.getD r 0 FV.nils)), .int .i64 (FV.asI (List.getD r 1 FV.nils)), .int .i64 (FV.asI (List.getD r 2 FV.nils)), .int .i64 (FV.asI (List.getD r 3 FV.nils)), .int .i64 (FV.asI (List.getD r 4 FV.nils)), List.getD r 5 FV.nils]
theorem z8y (c : Cd) : fCr (FC c) = FC c := by cases c; rw [FC]; rfl
abbrev fIr (r : List FV) : List FV := [.int .i64 (FV.asI (List.getD r 0 FV.nils)), .int .i64 (FV.asI (List.getD r 1 FV.nils)), .int .i64 (FV.asI (List.getD r 2 FV.nils)), .str (FV.asS (List.getD r 3 FV.nils)), .int .i64 (FV.asI (List.getD r 4 FV.nils)), List.getD r 5 FV.nils, List.getD r 6 FV.nils, List.getD r 7 FV.nils]
theorem fIr_FI (x : In1) : fIr (FI x) = FI x := by cases x; rw [FI]; rfl
abbrev aIt (r : List FV) : TV := .agg [.a (.fz (.int .i64 (FV.asI (List.getD r 2 FV.nils)))), .a (.fz (.str (FV.asS (List.getD r 3 FV.nils)))), .a (.fz (.int .i64 (FV.asI (List.getD r 4 FV.nils)))), .a (.fz (List.getD r 5 FV.nils))]
theorem aIt_FI (x : In1) : aIt (FI x) = aT x.t := by cases x; rw [FI]; rfl
theorem FI6 (x : In1) : List.getD (FI x) 6 FV.nils = .sl false 4 (FTs x.l) := by cases x; rw [FI]; rfl
theorem FI7 (x : In1) : List.getD (FI x) 7 FV.nils = .sl false 6 (FCs x.c) := by cases x; rw [FI]; rfl
theorem FI3 (x : In1) : FV.asS (List.getD (FI x) 3 FV.nils) = x.t.s := by cases x; rw [FI]; rfl
theorem FI0 (x : In1) : FV.asI (List.getD (FI x) 0 FV.nils) = x.k := by cases x; rw [FI]; rfl
theorem FI1 (x : In1) : FV.asI (List.getD (FI x) 1 FV.nils) = x.a := by cases x; rw [FI]; rfl
abbrev cCd (c : Cd) : List WV := [.a (.fz (.str c.nm)), .a (.fz (.int .i64 c.ar)), .a (.fz (.int .i64 c.fr)), .a (.fz (.int .i64 c.vs)), .a (.fz (.int .i64 c.sl)), .a (.fz (.sl false 8 (FIs c.ins)))]
abbrev cIn (x : In1) : List WV := [.a (.fz (.int .i64 x.k)), .a (.fz (.int .i64 x.a)), .a (.fz (.int .i64 x.t.k)), .a (.fz (.str x.t.s)), .a (.fz (.int .i64 x.t.n)), .a (.fz (.sl false 4 (FTs x.t.l))), .a (.fz (.sl false 4 (FTs x.l))), .a (.fz (.sl false 6 (FCs x.c)))]
abbrev cIr (r : List FV) : List WV := [.a (.fz (.int .i64 (FV.asI (List.getD r 0 FV.nils)))), .a (.fz (.int .i64 (FV.asI (List.getD r 1 FV.nils)))), .a (.fz (.int .i64 (FV.asI (List.getD r 2 FV.nils)))), .a (.fz (.str (FV.asS (List.getD r 3 FV.nils)))), .a (.fz (.int .i64 (FV.asI (List.getD r 4 FV.nils)))), .a (.fz (List.getD r 5 FV.nils)), .a (.fz (List.getD r 6 FV.nils)), .a (.fz (List.getD r 7 FV.nils))]
theorem cIr_FI (x : In1) : cIr (FI x) = cIn x := by cases x; rw [FI]; rfl
def badL (l : List Tm) : Bool := l.any fun t => z8i t 40 || !near 1048576 t
def z8k (t : Tm) (l : List Tm) : Bool := z8i t 40 || (!near 1048576 t || (decide ((l.length : Int) > 4) || (decide ((t.s.length : Int) > 60) || badL l)))
mutual
def z44 : Cd → Int → Int
 | .mk _ _ _ _ _ ins, m => z1m ins (m - 1)
def z1m : List In1 → Int → Int
 | [], n => n
 | .mk _ _ t l c :: is, n => if n < 0 then n else if z8k t l = true then 0 - 1 else z1m is (z0q c (n - 1))
def z0q : List Cd → Int → Int
 | [], n => n
 | c :: cs, n => if n < 0 then n else z0q cs (z44 c n)
end
theorem leftC_eq (c : Cd) (m : Int) : z44 c m = z1m c.ins (m - 1) := by cases c; rw [z44]; rfl
theorem z76 (x : In1) (is : List In1) (n : Int) : z1m (x :: is) n = if n < 0 then n else if z8k x.t x.l = true then 0 - 1 else z1m is (z0q x.c (n - 1)) := by cases x; rw [z1m]; rfl
mutual
theorem ze0 : ∀ (c : Cd) (m : Int), 0 ≤ m → 0 - 1 ≤ z44 c m ∧ z44 c m ≤ m
 | .mk _ _ _ _ _ ins, m, h => by
  have := zfa ins (m - 1) (by omega)
  rw [z44]; omega
theorem zfa : ∀ (l : List In1) (n : Int), 0 - 1 ≤ n → 0 - 1 ≤ z1m l n ∧ z1m l n ≤ n
 | [], n, h => by rw [z1m]; omega
 | .mk _ _ t l c :: is, n, h => by
  rw [z1m]
  split
  · omega
  · split
    · omega
    · have h1 := z6y c (n - 1) (by omega)
      have h2 := zfa is (z0q c (n - 1)) h1.1
      omega
theorem z6y : ∀ (l : List Cd) (n : Int), 0 - 1 ≤ n → 0 - 1 ≤ z0q l n ∧ z0q l n ≤ n
 | [], n, h => by rw [z0q]; omega
 | c :: cs, n, h => by
  rw [z0q]
  split
  · omega
  · have h1 := ze0 c n (by omega)
    have h2 := z6y cs (z44 c n) h1.1
    omega
end
theorem zho {n : Int} (h : n < 0) : ∀ l : List In1, z1m l n = n
 | [] => by rw [z1m]
 | x :: l => by rw [z76, if_pos h]
theorem zg5 (c : Cd) (x : In1) (i : Int) (r : TV) : ∀ (b a : List Cd) (n : Int), x.c = a ++ b → x.c.length ≤ B → (∀ d ∈ b, ∀ m : Int, 0 ≤ m → m ≤ 4611686018427387904 → AC Tryz.prog 29 [aC d, ci m] [] (ci (z44 d m)) []) → 0 - 1 ≤ n → n ≤ 4611686018427387904 → 0 ≤ i → i ≤ B →
  RPt Tryz.prog 29 0 r [] 1 ⟨[(2, .c (.a (.ep 0 6 0 0))), (5, ci (z0q b n)), (6, ci (i + 1))], [(0, .arr 6 [cCd c])], 1⟩ →
  RPt Tryz.prog 29 0 r [] 9 ⟨[(2, .c (.a (.ep 0 6 0 0))), (5, ci n), (6, ci i), (7, .c (.a (.ep 1 8 0 0))), (11, ci a.length)], [(0, .arr 6 [cCd c]), (1, .arr 8 [cIn x])], 2⟩
 | [], a, n, hx, hB, ih, h0, h1, hi, hi2, hk => by
  refine RPt.vc hP sh lv29 (Eq.mpr (v29_9a n i a.length ..) ?_)
  rw [z0q] at hk
  simp only [B] at hi2
  rw [w64 (x := i + 1) (by omega) (by omega)]
  refine ⟨rfl, z00 (fun h => absurd (of_decide_eq_true h) ?_) (fun _ => ?_)⟩
  · show ¬ (a.length : Int) < (((FCs x.c).length : Nat) : Int)
    rw [hx, z08]; simp
  · exact hk
 | d :: b, a, n, hx, hB, ih, h0, h1, hi, hi2, hk => by
  refine RPt.vc hP sh lv29 (Eq.mpr (v29_9a n i a.length ..) ?_)
  rw [z0q] at hk
  simp only [B] at hi2 hB
  rw [hx, List.length_append, List.length_cons] at hB
  have hlt : (a.length : Int) < (((FV.ses (.sl false 6 (FCs x.c))).length : Nat) : Int) := by show (a.length : Int) < (((FCs x.c).length : Nat) : Int); rw [hx, z08, List.length_append, List.length_cons]; omega
  rw [w64 (x := i + 1) (by omega) (by omega), w64 (x := (a.length : Int) + 1) (by omega) (by omega)]
  refine ⟨rfl, z00 (fun _ => z00 (fun hn => ?_) (fun hn => ?_)) (fun h => absurd hlt (of_decide_eq_false h))⟩
  · have hn := of_decide_eq_true hn
    have e : List.getD (FV.ses (.sl false 6 (FCs x.c))) (Int.toNat (a.length : Int)) [] = FC d := by rw [hx]; exact z9w a d b
    rw [e]
    have hc := ih d List.mem_cons_self n (by omega) h1
    have hb := ze0 d n (by omega)
    rw [if_neg (by omega)] at hk
    refine ⟨⟨rfl, by omega, hlt, z8y d⟩, _, by rw [show (TV.agg [.a (.fz (.str (FV.asS (List.getD (FC d) 0 FV.nils)))), .a (.fz (.int .i64 (FV.asI (List.getD (FC d) 1 FV.nils)))), .a (.fz (.int .i64 (FV.asI (List.getD (FC d) 2 FV.nils)))), .a (.fz (.int .i64 (FV.asI (List.getD (FC d) 3 FV.nils)))), .a (.fz (.int .i64 (FV.asI (List.getD (FC d) 4 FV.nils)))), .a (.fz (List.getD (FC d) 5 FV.nils))]) = aC d from z81 d]; exact hc, ?_⟩
    have := zg5 c x i r b (a ++ [d]) (z44 d n) (by rw [hx]; simp) (by rw [hx]; simp only [List.length_append, List.length_cons, B]; omega) (fun u hu => ih u (List.mem_cons_of_mem _ hu)) hb.1 (by omega) hi (by simp only [B]; omega) hk
    rw [nx] at this
    exact this
  · have hn := of_decide_eq_false hn
    rw [if_pos (by omega)] at hk
    exact hk
theorem zf2 (c : Cd) (x : In1) (i n : Int) (r : TV) : ∀ (b a : List Tm), x.l = a ++ b → (∀ t ∈ x.l, t.sz ≤ B) → x.l.length ≤ B →
  (badL b = true → TV.Le (ci (0 - 1)) r) → (badL b = false → RPt Tryz.prog 29 0 r [] 9 ⟨[(2, .c (.a (.ep 0 6 0 0))), (5, ci n), (6, ci i), (7, .c (.a (.ep 1 8 0 0))), (11, ci 0)], [(0, .arr 6 [cCd c]), (1, .arr 8 [cIn x])], 2⟩) →
  RPt Tryz.prog 29 0 r [] 5 ⟨[(2, .c (.a (.ep 0 6 0 0))), (5, ci n), (6, ci i), (7, .c (.a (.ep 1 8 0 0))), (10, ci a.length)], [(0, .arr 6 [cCd c]), (1, .arr 8 [cIn x])], 2⟩
 | [], a, hx, hs, hB, hb, hk => by
  refine RPt.vc hP sh lv29 (Eq.mpr (v29_5a n i a.length ..) ?_)
  refine ⟨rfl, z00 (fun h => absurd (of_decide_eq_true h) ?_) (fun _ => hk rfl)⟩
  show ¬ (a.length : Int) < (((FTs x.l).length : Nat) : Int)
  rw [hx]; exact geI' a
 | t :: b, a, hx, hs, hB, hb, hk => by
  refine RPt.vc hP sh lv29 (Eq.mpr (v29_5a n i a.length ..) ?_)
  have ht : t ∈ x.l := by rw [hx]; simp
  have hz := hs t ht
  have c1 := zhr t hz 40 (by omega) (by omega)
  have c2 := c_near 1048576 (by omega) (by omega) t hz
  have hB' := hB
  rw [hx, List.length_append, List.length_cons] at hB'
  simp only [B] at hB'
  have hlt : (a.length : Int) < (((FV.ses (.sl false 4 (FTs x.l))).length : Nat) : Int) := by show (a.length : Int) < (((FTs x.l).length : Nat) : Int); rw [hx]; exact ltI' a t b
  have next := zf2 c x i n r b (a ++ [t]) (by rw [hx]; simp) hs hB
  rw [nx] at next
  rw [w64 (x := (a.length : Int) + 1) (by omega) (by omega)]
  have em : rE (List.getD (FV.ses (.sl false 4 (FTs x.l))) (Int.toNat (a.length : Int)) []) = List.getD (FV.ses (.sl false 4 (FTs x.l))) (Int.toNat (a.length : Int)) [] := by rw [hx]; exact zbo a t b
  have ea : aE (List.getD (FV.ses (.sl false 4 (FTs x.l))) (Int.toNat (a.length : Int)) []) = aT t := by rw [hx]; exact zc5 a t b
  rw [ea]
  have eb : badL (t :: b) = ((z8i t 40 || !near 1048576 t) || badL b) := rfl
  refine ⟨rfl, z00 (fun _ => ⟨⟨rfl, by omega, hlt, em⟩, _, c1, ⟨rfl, by omega, hlt, em⟩, _, c2, z00 (fun h => ⟨hb (by rw [eb, h]; rfl), rfl⟩) (fun h => z00 (fun h' => ⟨hb (by rw [eb, h, h']; rfl), rfl⟩) (fun h' => ?_))⟩) (fun h => absurd hlt (of_decide_eq_false h))⟩
  have e2 : badL (t :: b) = badL b := by rw [eb, h, h']; rfl
  exact next (fun q => hb (e2.trans q)) (fun q => hk (e2.trans q))
theorem zg3 (c : Cd) : ∀ (b a : List In1) (n : Int), c.ins = a ++ b → c.sz ≤ B → (∀ x ∈ b, ∀ d ∈ x.c, ∀ m : Int, 0 ≤ m → m ≤ 4611686018427387904 → AC Tryz.prog 29 [aC d, ci m] [] (ci (z44 d m)) []) → 0 - 1 ≤ n → n ≤ 4611686018427387904 →
  RPt Tryz.prog 29 0 (ci (z1m b n)) [] 1 ⟨[(2, .c (.a (.ep 0 6 0 0))), (5, ci n), (6, ci a.length)], [(0, .arr 6 [cCd c])], 1⟩
 | [], a, n, hx, hz, ih, h0, h1 => by
  refine RPt.vc hP sh lv29 (Eq.mpr (zjk n a.length ..) ?_)
  rw [z1m]
  refine ⟨rfl, z00 (fun h => absurd (of_decide_eq_true h) ?_) (fun _ => z2f rfl)⟩
  rw [hx, z02]; simp
 | x :: b, a, n, hx, hz, ih, h0, h1 => by
  have hxm : x ∈ c.ins := by rw [hx]; simp
  have z1 := In1.szs_mem hxm
  have z2 := In1.szs_length c.ins
  have z3 : In1.szs c.ins ≤ B := by cases c; simp only [Cd.sz, Cd.ins, B] at *; omega
  have z4 : x.t.bk ≤ B ∧ Tm.bks x.l ≤ B ∧ Cd.szs x.c ≤ B := by cases x; simp only [In1.sz1, In1.t, In1.l, In1.c, B] at *; omega
  have z5 := Tm.sz_bk x.t
  have c1 := zhr x.t (by omega) 40 (by omega) (by omega)
  have c2 := c_near 1048576 (by omega) (by omega) x.t (by omega)
  have hl : (c.ins.length : Int) ≤ B := by omega
  rw [hx, List.length_append, List.length_cons] at hl
  simp only [B] at hl
  have hlt : (a.length : Int) < (((FIs c.ins).length : Nat) : Int) := by rw [hx, z02, List.length_append, List.length_cons]; omega
  rw [z76]
  by_cases hn : n < 0
  · rw [if_pos hn]
    refine RPt.vc hP sh lv29 (Eq.mpr (zjk n a.length ..) ?_)
    exact ⟨rfl, z00 (fun _ => z00 (fun h => absurd (of_decide_eq_true h) (by omega)) (fun _ => z2f rfl)) (fun _ => z2f rfl)⟩
  rw [if_neg hn]
  have hcs := z6y x.c (n - 1) (by omega)
  have next : z8k x.t x.l = false → RPt Tryz.prog 29 0 (ci (z1m b (z0q x.c (n - 1)))) [] 1 ⟨[(2, .c (.a (.ep 0 6 0 0))), (5, ci (z0q x.c (n - 1))), (6, ci ((a.length : Int) + 1))], [(0, .arr 6 [cCd c])], 1⟩ := fun _ => by
   have := zg3 c b (a ++ [x]) (z0q x.c (n - 1)) (by rw [hx]; simp) hz (fun y hy => ih y (List.mem_cons_of_mem _ hy)) hcs.1 (by omega)
   rw [nx] at this
   exact this
  have h5 : ∀ r : TV, (badL x.l = true → TV.Le (ci (0 - 1)) r) → (badL x.l = false → RPt Tryz.prog 29 0 r [] 1 ⟨[(2, .c (.a (.ep 0 6 0 0))), (5, ci (z0q x.c (n - 1))), (6, ci ((a.length : Int) + 1))], [(0, .arr 6 [cCd c])], 1⟩) →
    RPt Tryz.prog 29 0 r [] 5 ⟨[(2, .c (.a (.ep 0 6 0 0))), (5, ci (n - 1)), (6, ci a.length), (7, .c (.a (.ep 1 8 0 0))), (10, ci 0)], [(0, .arr 6 [cCd c]), (1, .arr 8 [cIn x])], 2⟩ := fun r q1 q2 => by
   have z6 := Tm.szs_bks x.l
   have z7 := Tm.szs_length x.l
   have z8 := Cd.szs_length x.c
   refine zf2 c x a.length (n - 1) r x.l [] (by simp) (fun t ht => by have := Tm.szs_mem ht; omega) (by omega) q1 (fun q => ?_)
   exact zg5 c x a.length r x.c [] (n - 1) (by simp) (by omega) (ih x List.mem_cons_self) (by omega) (by omega) (by omega) (by simp only [B]; omega) (q2 q)
  refine RPt.vc hP sh lv29 (Eq.mpr (zjk n a.length ..) ?_)
  rw [w64 (x := n - 1) (by omega) (by omega)]
  have e : List.getD (FIs c.ins) (Int.toNat (a.length : Int)) [] = FI x := by rw [hx]; exact z30 a x b
  rw [e]
  have eb : z8k x.t x.l = (z8i x.t 40 || (!near 1048576 x.t || (decide ((x.l.length : Int) > 4) || (decide ((x.t.s.length : Int) > 60) || badL x.l)))) := rfl
  have bad : z8k x.t x.l = true → TV.Le (ci (0 - 1)) (ci (if z8k x.t x.l = true then 0 - 1 else z1m b (z0q x.c (n - 1)))) := fun q => by rw [if_pos q]; exact .refl _
  have e6 : ((((FV.ses (List.getD (FI x) 6 FV.nils)).length : Nat) : Int)) = (x.l.length : Int) := by rw [FI6]; exact lenI x.l
  have e3 := FI3 x
  refine ⟨rfl, z00 (fun _ => z00 (fun _ => ⟨⟨rfl, by omega, hlt, fIr_FI x⟩, z8i x.t 40, by rw [show (TV.agg [.a (.fz (.int .i64 (FV.asI (List.getD (FI x) 2 FV.nils)))), .a (.fz (.str (FV.asS (List.getD (FI x) 3 FV.nils)))), .a (.fz (.int .i64 (FV.asI (List.getD (FI x) 4 FV.nils)))), .a (.fz (List.getD (FI x) 5 FV.nils))]) = aT x.t from aIt_FI x]; exact c1,
   near 1048576 x.t, by rw [show (TV.agg [.a (.fz (.int .i64 (FV.asI (List.getD (FI x) 2 FV.nils)))), .a (.fz (.str (FV.asS (List.getD (FI x) 3 FV.nils)))), .a (.fz (.int .i64 (FV.asI (List.getD (FI x) 4 FV.nils)))), .a (.fz (List.getD (FI x) 5 FV.nils))]) = aT x.t from aIt_FI x]; exact c2,
   z00 (fun h => ⟨bad (by rw [eb, h]; rfl), rfl⟩) (fun h => z00 (fun h2 => ⟨bad (by rw [eb, h, h2]; rfl), rfl⟩) (fun h2 => ⟨by rw [FI6]; rfl, z00 (fun h3 => ⟨bad ?_, rfl⟩) (fun h3 => z00 (fun h4 => ⟨bad ?_, rfl⟩) (fun h4 => ?_))⟩))⟩)
   (fun h => absurd (of_decide_eq_false h) (by omega))) (fun h => absurd hlt (of_decide_eq_false h))⟩
  · rw [e6] at h3; rw [eb, h, h2, h3]; rfl
  · rw [e6] at h3; rw [e3] at h4; rw [eb, h, h2, h3, h4]; rfl
  · rw [e6] at h3; rw [e3] at h4
    have e7 : z8k x.t x.l = badL x.l := by rw [eb, h, h2, h3, h4]; rfl
    rw [e7]
    have := h5 (ci (if badL x.l = true then 0 - 1 else z1m b (z0q x.c (n - 1)))) (fun q => by rw [if_pos q]; exact .refl _) (fun q => by rw [if_neg (by rw [q]; simp)]; exact next (e7.trans q))
    rw [← cIr_FI x] at this
    exact this
theorem c_cleft : ∀ c : Cd, c.sz ≤ B → ∀ m : Int, 0 ≤ m → m ≤ 4611686018427387904 → AC Tryz.prog 29 [aC c, ci m] [] (ci (z44 c m)) [] := by
 refine Cd.ind fun c ih hz m h0 h1 => ?_
 have h := zg3 c c.ins [] (m - 1) (by simp) hz (fun x hx d hd m h0 h1 => ih x hx d hd (by
  have a1 := In1.szs_mem hx
  have a2 := Cd.szs_mem hd
  cases c; cases x
  simp only [Cd.sz, Cd.ins, In1.sz1, In1.c] at *
  omega) m h0 h1) (by omega) (by omega)
 rw [← leftC_eq] at h
 refine AC.vc hP sh lv29 (Nat.le_refl _) (by simp) (by simp) (Eq.mpr (v29 ..) ?_)
 rw [w64 (x := m - 1) (by omega) (by omega)]
 exact h
def zjs (c : Cd) (m : Int) : Bool := decide (z44 c m < 0)
theorem c_clarge (c : Cd) (hz : c.sz ≤ B) (m : Int) (h0 : 0 ≤ m) (h1 : m ≤ 4611686018427387904) : AC Tryz.prog 11 [aC c, ci m] [] (cb (zjs c m)) [] := by
 have h := c_cleft c hz m h0 h1
 refine AC.vc hP sh lv11 (Nat.le_refl _) (by simp) (by simp) (Eq.mpr (v11 ..) ?_)
 exact ⟨_, h, z01 rfl⟩
end Go.AM

set_option maxRecDepth 100000
open Go Go.Proofs
namespace Go.AM
def z6l (t : Tm) : FV := if t.inner = true then .sl false 4 (FTs t.l) else .nils
theorem zi2 (t : Tm) : (z6l t).ses = FTs t.kids ∧ (z6l t).isSl 4 = true := by
 unfold z6l Tm.kids
 split <;> exact ⟨rfl, rfl⟩
theorem c_within (t : Tm) : AC Tryz.prog 85 [aT t] [] (.tup [(false, [.a (.fz (z6l t))]), (false, [.a (.fz (.int .i64 t.by))])]) [] := by
 obtain ⟨k, s, n, l⟩ := t
 refine AC.vc hP sh lv85 (Nat.le_refl _) (by simp) (by simp) (Eq.mpr (v85 k s n (FTs l) _ _) ?_)
 refine z00 (fun h => ⟨?_, rfl⟩) (fun h => z00 (fun h2 => ⟨?_, rfl⟩) (fun h2 => ⟨?_, rfl⟩))
 · have e1 : z6l (.mk k s n l) = .sl false 4 (FTs l) := by unfold z6l Tm.inner; simp only [Tm.k, h, Bool.true_or, if_true, Tm.l]
   have e2 : Tm.by (.mk k s n l) = 1 := by unfold Tm.by; simp only [Tm.k, h, if_true]
   rw [e1, e2]; exact .refl _
 · have e1 : z6l (.mk k s n l) = .sl false 4 (FTs l) := by unfold z6l Tm.inner; simp only [Tm.k, h2, Bool.or_true, if_true, Tm.l]
   have e2 : Tm.by (.mk k s n l) = 0 := by unfold Tm.by; simp only [Tm.k, h, Bool.false_eq_true, if_false]
   rw [e1, e2]; exact .refl _
 · have e1 : z6l (.mk k s n l) = .nils := by unfold z6l Tm.inner; simp only [Tm.k, h, h2, Bool.or_self, Bool.false_eq_true, if_false]
   have e2 : Tm.by (.mk k s n l) = 0 := by unfold Tm.by; simp only [Tm.k, h, Bool.false_eq_true, if_false]
   rw [e1, e2]; exact .refl _
mutual
def bd (M : Int) : Tm → Prop
 | .mk k _ n l => (k = 3 → 0 - M ≤ n ∧ n ≤ M) ∧ bds M l
def bds (M : Int) : List Tm → Prop
 | [] => True
 | t :: l => bd M t ∧ bds M l
end
theorem zaa {M : Int} : ∀ {l : List Tm} {t : Tm}, bds M l → t ∈ l → bd M t
 | x :: l, t, h, ht => by
  rcases List.mem_cons.1 ht with rfl | ht
  · exact h.1
  · exact zaa h.2 ht
def maxI (a b : Int) : Int := if a ≤ b then b else a
theorem za2 (a b : Int) : z1p [a, b] = maxI a b := by
 simp only [z1p, List.foldl, maxI, max, maxOfLe]
mutual
def z2d : Tm → Int → Int → Int
 | .mk kd _ n l, k, acc => if (kd == 5) = true then z6b l (k + 1) acc else if (kd == 6) = true then z6b l k acc else if (kd == 3) = true then maxI acc (n - k + 1) else acc
def z6b : List Tm → Int → Int → Int
 | [], _, acc => acc
 | t :: l, k, acc => z6b l k (z2d t k acc)
end
abbrev obj1 (n : Int) : AObj := .arr 1 [[.a (.fz (.int .i64 n))]]
theorem c_loose1 (u : Tm) (k acc : Int) (hb : u.k = 3 → 0 - 2305843009213693952 ≤ u.n ∧ u.n ≤ 2305843009213693952) (h0 : 0 ≤ k) (h1 : k ≤ 2305843009213693952) :
  AC Tryz.prog 66 [aT u, ci k, .c (.a (.ep 0 1 0 0))] [obj1 acc] (.tup []) [obj1 (if (u.k == 3) = true then maxI acc (u.n - k + 1) else acc)] := by
 obtain ⟨kd, s, n, l⟩ := u
 simp only [Tm.k, Tm.n] at hb
 refine AC.vc hP sh lv66 (Nat.le_refl _) (by simp [isLive]) (by simp) (Eq.mpr (v66 kd s n (FTs l) k acc _ _) ?_)
 refine z00 (fun h => ⟨.refl _, ?_⟩) (fun h => ⟨.refl _, ?_⟩)
 · have hk : kd = 3 := by simpa using h
   have := hb hk
   rw [w64 (x := n - k) (by omega) (by omega), w64 (x := n - k + 1) (by omega) (by omega), za2]
   simp only [Tm.k, Tm.n, h, if_true]
 · simp only [Tm.k, h, Bool.false_eq_true, if_false]
abbrev tellL : TV := .c (.fn (.func 66) [] [(false, [.ep 0 1 0 0])])
theorem l_each (k by_ : Int) (h0 : 0 ≤ k) (hby : 0 ≤ by_) (hby1 : by_ ≤ 1) : ∀ (b a : List Tm) (v : FV) (acc : Int), v.ses = FTs (a ++ b) → v.isSl 4 = true →
  (∀ u ∈ b, ∀ acc, AC Tryz.prog 65 [aT u, ci (k + by_), tellL] [obj1 acc] (.tup []) [obj1 (z2d u (k + by_) acc)]) → (a ++ b).length ≤ B → k ≤ 2305843009213693952 →
  RPt Tryz.prog 65 1 (.tup []) [obj1 (z6b b (k + by_) acc)] 1 ⟨[(1, ci k), (2, tellL), (7, ci by_), (27, .c (.a (.fz v))), (28, ci (a ++ b).length), (29, ci a.length)], [(0, obj1 acc)], 1⟩
 | [], a, v, acc, hv, hs, _, hl, hk => by
  refine RPt.vc hP sh lv65 (Eq.mpr (z9v ..) ?_)
  exact z00 (fun h => absurd (of_decide_eq_true h) (by simp)) (fun _ => ⟨.refl _, rfl⟩)
 | t :: b, a, v, acc, hv, hs, ih, hl, hk => by
  refine RPt.vc hP sh lv65 (Eq.mpr (z9v ..) ?_)
  have hl' := hl
  simp only [List.length_append, List.length_cons, B] at hl'
  have h1 := ih t List.mem_cons_self acc
  have h2 := l_each k by_ h0 hby hby1 b (a ++ [t]) v (z2d t (k + by_) acc) (by rw [ap]; exact hv) hs (fun u hu => ih u (List.mem_cons_of_mem _ hu)) (by rw [ap]; exact hl) hk
  have h3 := ltI' a t b
  rw [ap, nx] at h2
  rw [hv, midI, w64 (x := (a.length : Int) + 1) (by omega) (by omega), w64 (x := k + by_) (by omega) (by omega)]
  refine z00 (fun _ => ?_) (fun h => absurd (ltI a t b) (of_decide_eq_false h))
  obtain ⟨k', s', n', l'⟩ := t
  exact ⟨⟨hs, by omega, h3, rfl⟩, .inl ⟨_, h1, h2⟩⟩
theorem c_each : ∀ t : Tm, t.sz ≤ B → bd 2305843009213693952 t → ∀ k acc : Int, 0 ≤ k → k + t.sz ≤ 2305843009213693952 → AC Tryz.prog 65 [aT t, ci k, tellL] [obj1 acc] (.tup []) [obj1 (z2d t k acc)] := by
 refine Tm.ind fun t ih hs hb k acc h0 h1 => ?_
 have hw := c_within t
 have hk := zi2 t
 have hlen := Tm.szs_length t.l
 obtain ⟨kd, s, n, l⟩ := t
 simp only [Tm.sz, B, Tm.l] at hs hlen
 simp only [Tm.sz] at h1
 have key : ∀ by_ : Int, 0 ≤ by_ → by_ ≤ 1 → Tm.kids (.mk kd s n l) = l → RPt Tryz.prog 65 1 (.tup []) [obj1 (z6b l (k + by_) acc)] 1 ⟨[(1, ci k), (2, tellL), (7, ci by_), (27, .c (.a (.fz (z6l (.mk kd s n l))))), (28, ci l.length), (29, ci 0)], [(0, obj1 acc)], 1⟩ := by
  intro by_ hb0 hb1 hkids
  have := l_each k by_ h0 hb0 hb1 l [] (z6l (.mk kd s n l)) acc (by rw [hk.1, hkids]; rfl) hk.2 (fun u hu acc => ih u hu (by have := Tm.szs_mem hu; simp only [B]; omega) (zaa hb.2 hu) (k + by_) acc (by omega) (by have := Tm.szs_mem hu; omega)) (by simp only [List.nil_append, B]; omega) (by omega)
  simpa using this
 refine AC.vc hP sh lv65 (Nat.le_refl _) (by simp [isLive]) (by simp) (Eq.mpr (v65_F66 kd s n (FTs l) k acc _ _) ?_)
 refine z00 (fun h => z00 (fun h2 => ⟨_, c_loose1 (.mk kd s n l) k acc hb.1 h0 (by omega), .refl _, ?_⟩) (fun h2 => ⟨_, _, hw, hk.2, ?_⟩)) (fun h => ⟨_, _, hw, hk.2, ?_⟩)
 · have e1 : (kd == 5) = false := by simpa using h
   have e2 : (kd == 6) = false := by simpa using h2
   simp only [z2d, Tm.k, Tm.n, e1, e2, Bool.false_eq_true, if_false]
   rfl
 · have e1 : (kd == 5) = false := by simpa using h
   have e2 : (kd == 6) = true := by simpa using h2
   have ek : Tm.kids (.mk kd s n l) = l := by unfold Tm.kids Tm.inner; simp only [Tm.k, e2, Bool.or_true, if_true, Tm.l]
   have := key 0 (by omega) (by omega) ek
   rw [hk.1, ek, lenI, show Tm.by (.mk kd s n l) = 0 by unfold Tm.by; simp only [Tm.k, e1, Bool.false_eq_true, if_false]]
   simp only [z2d, e1, e2, Bool.false_eq_true, if_false, if_true]
   simpa using this
 · have e1 : (kd == 5) = true := by simpa using h
   have ek : Tm.kids (.mk kd s n l) = l := by unfold Tm.kids Tm.inner; simp only [Tm.k, e1, Bool.true_or, if_true, Tm.l]
   have := key 1 (by omega) (by omega) ek
   rw [hk.1, ek, lenI, show Tm.by (.mk kd s n l) = 1 by unfold Tm.by; simp only [Tm.k, e1, if_true]]
   simp only [z2d, e1, if_true]
   exact this
theorem c_loose (t : Tm) (hs : t.sz ≤ B) (hb : bd 2305843009213693952 t) : AC Tryz.prog 40 [aT t] [] (ci (z2d t 0 0)) [] := by
 have h := c_each t hs hb 0 0 (Int.le_refl _) (by simp only [B] at hs; omega)
 refine AC.vc hP sh lv40 (Nat.le_refl _) (by simp) (by simp) (Eq.mpr (v40 ..) ?_)
 exact .inl ⟨_, h, z2f rfl⟩
end Go.AM

set_option maxRecDepth 100000
open Go Go.Proofs
namespace Go.AM
theorem roomI {n : Nat} (h : n ≤ 2199023255552) : z2s n 56 := by unfold z2s; omega
end Go.AM

set_option maxRecDepth 100000
open Go Go.Proofs

set_option maxRecDepth 100000
open Go Go.Proofs
namespace Go.AM
theorem bds_of {M : Int} : ∀ {l : List Tm}, (∀ t ∈ l, bd M t) → bds M l
 | [], _ => trivial
 | t :: _, h => ⟨h t List.mem_cons_self, bds_of fun u hu => h u (List.mem_cons_of_mem _ hu)⟩
abbrev M61 : Int := 2305843009213693952
theorem bd_le {M M' : Int} (h : M ≤ M') : ∀ t : Tm, bd M t → bd M' t := by
 refine Tm.ind fun t ih hb => ?_
 obtain ⟨k, s, n, l⟩ := t
 exact ⟨fun e => by have := hb.1 e; omega, bds_of fun u hu => ih u hu (zaa hb.2 hu)⟩
end Go.AM

set_option maxRecDepth 100000
open Go Go.Proofs
namespace Go.AM
mutual
def z0b : Tm → Bool
 | .mk k s n l =>
  if (k == 0) = true then (z3l s || z6r s) && n == 0 && (((FTs l).length : Nat) : Int) == 0
  else if (k == 1) = true then decide (n ≥ 1) && s == [] && (((FTs l).length : Nat) : Int) == 0 && z2c l
  else if (k == 2) = true then s == [] && (((FTs l).length : Nat) : Int) == 0 && z2c l
  else if (k == 3) = true then decide (n ≥ 0) && decide (n ≤ 4611686018427387904) && s == [] && (((FTs l).length : Nat) : Int) == 0 && z2c l
  else if (k == 4) = true then decide (n ≥ 0) && decide (n ≤ 4611686018427387904) && s == [] && (((FTs l).length : Nat) : Int) == 0 && z2c l
  else if (k == 5) = true then n == 0 && s == [] && (((FTs l).length : Nat) : Int) == 1 && z2c l
  else if (k == 6) = true then n == 0 && decide ((((FTs l).length : Nat) : Int) ≥ 2) && ((l.headD default).k != 6) && s == [] && z2c l
  else false
def z2c : List Tm → Bool
 | [] => true
 | t :: l => z0b t && z2c l
end
def zec : List Tm → Int → Int
 | [], _ => -1
 | t :: l, i => if z0b t = true then zec l (i + 1) else i
theorem zgg : ∀ (l : List Tm) (i : Int), 0 ≤ i → decide (zec l i ≥ 0) = !z2c l
 | [], _, _ => rfl
 | t :: l, i, h => by
  rw [zec, z2c]
  split
  · rename_i e; rw [zgg l (i + 1) (by omega), e, Bool.true_and]
  · rename_i e; rw [show z0b t = false by simpa using e]; simp; omega
theorem zj1 : ∀ (b a : List Tm), (∀ u ∈ b, AC Tryz.prog 64 [aT u] [] (cb (!z0b u)) []) → (a ++ b).length ≤ B →
  RPt Tryz.prog 69 0 (ci (zec b a.length)) [] 1 ⟨[(0, aL (a ++ b)), (1, .c (.fn (.func 64) [] [])), (7, ci (((FTs (a ++ b)).length : Nat) : Int)), (8, ci a.length)], [], 0⟩
 | [], a, _, _ => by
  refine RPt.vc hP sh lv69 (Eq.mpr (z9t ..) ?_)
  exact z00 (fun h => absurd (of_decide_eq_true h) (geI' a)) (fun _ => z2f rfl)
 | t :: b, a, ih, hl => by
  refine RPt.vc hP sh lv69 (Eq.mpr (z9t ..) ?_)
  have hl' := hl
  simp only [List.length_append, List.length_cons, B] at hl'
  have h1 := ih t List.mem_cons_self
  have h2 := zj1 b (a ++ [t]) (fun u hu => ih u (List.mem_cons_of_mem _ hu)) (by rw [ap]; exact hl)
  have h3 := ltI' a t b
  rw [ap, nx] at h2
  rw [midI, w64 (x := (a.length : Int) + 1) (by omega) (by omega)]
  refine z00 (fun _ => ?_) (fun h => absurd h3 (of_decide_eq_false h))
  obtain ⟨k', s', n', l'⟩ := t
  refine ⟨⟨rfl, by omega, h3, rfl⟩, _, h1, z00 (fun h => ?_) (fun h => ?_)⟩
  · rw [zec, if_neg (by simpa using h)]; exact z2f rfl
  · rw [zec, if_pos (by simpa using h)]; exact h2
theorem c_contf (l : List Tm) (hl : l.length ≤ B) (ih : ∀ u ∈ l, AC Tryz.prog 39 [aT u] [] (cb (z0b u)) []) : AC Tryz.prog 43 [aL l, .c (.fn (.func 64) [] [])] [] (cb (!z2c l)) [] := by
 have h1 : ∀ u ∈ l, AC Tryz.prog 64 [aT u] [] (cb (!z0b u)) [] := fun u hu => by
  have h := ih u hu
  obtain ⟨k, s, n, l⟩ := u
  refine AC.vc hP sh lv64 (Nat.le_refl _) (by simp) (by simp) (Eq.mpr (v64 k s n (FTs l) _ _) ?_)
  exact ⟨_, h, z01 rfl⟩
 have h2 : AC Tryz.prog 69 [aL l, .c (.fn (.func 64) [] [])] [] (ci (zec l 0)) [] := by
  refine AC.vc hP sh lv69 (Nat.le_refl _) (by simp) (by simp) (Eq.mpr (v69_F64 ..) ?_)
  exact ⟨rfl, zj1 l [] h1 hl⟩
 refine AC.vc hP sh lv43 (Nat.le_refl _) (by simp) (by simp) (Eq.mpr (v43_F64 ..) ?_)
 exact ⟨_, h2, z01 (zgg l 0 (Int.le_refl _))⟩
theorem head0 : ∀ {l : List Tm}, 2 ≤ (((FTs l).length : Nat) : Int) → List.getD (FTs l) 0 [] = FT (l.headD default)
 | [], h => by simp [FTs] at h
 | t :: l, _ => rfl
theorem zif : ∀ t : Tm, t.sz ≤ B → AC Tryz.prog 39 [aT t] [] (cb (z0b t)) [] := by
 refine Tm.ind fun t ih hs => ?_
 have hlen := Tm.szs_length t.l
 obtain ⟨k, s, n, l⟩ := t
 simp only [Tm.sz, Tm.l] at hs hlen
 have hc := c_contf l (by omega) fun u hu => ih u hu (by have := Tm.szs_mem hu; omega)
 refine AC.vc hP sh lv39 (Nat.le_refl _) (by simp) (by simp) (Eq.mpr (v39 k s n (FTs l) _ _) ?_)
 refine z00 (fun h0 => ⟨_, zf8 s, z00 (fun h1 => z00 (fun h2 => ⟨rfl, z01 ?_⟩) (fun h2 => z01 ?_)) (fun h1 => ⟨_, zjn s, z00 (fun h1' => z00 (fun h2 => ⟨rfl, z01 ?_⟩) (fun h2 => z01 ?_)) (fun h1' => z01 ?_)⟩)⟩)
  (fun h0 => z00 (fun h1 => z00 (fun h2 => z00 (fun h3 => ⟨rfl, z00 (fun h4 => ⟨_, hc, z01 ?_⟩) (fun h4 => z01 ?_)⟩) (fun h3 => z01 ?_)) (fun h2 => z01 ?_))
  (fun h1 => z00 (fun h2 => z00 (fun h3 => ⟨rfl, z00 (fun h4 => ⟨_, hc, z01 ?_⟩) (fun h4 => z01 ?_)⟩) (fun h3 => z01 ?_))
  (fun h2 => z00 (fun h3 => z00 (fun h4 => z00 (fun h5 => z00 (fun h6 => ⟨rfl, z00 (fun h7 => ⟨_, hc, z01 ?_⟩) (fun h7 => z01 ?_)⟩) (fun h6 => z01 ?_)) (fun h5 => z01 ?_)) (fun h4 => z01 ?_))
  (fun h3 => z00 (fun h3' => z00 (fun h4 => z00 (fun h5 => z00 (fun h6 => ⟨rfl, z00 (fun h7 => ⟨_, hc, z01 ?_⟩) (fun h7 => z01 ?_)⟩) (fun h6 => z01 ?_)) (fun h5 => z01 ?_)) (fun h4 => z01 ?_))
  (fun h3' => z00 (fun h5 => z00 (fun h6 => z00 (fun h7 => ⟨rfl, z00 (fun h8 => ⟨_, hc, z01 ?_⟩) (fun h8 => z01 ?_)⟩) (fun h7 => z01 ?_)) (fun h6 => z01 ?_))
  (fun h5 => z00 (fun h6 => z00 (fun h7 => ⟨rfl, z00 (fun h8 => ?app) (fun h8 => ⟨rfl, z01 ?_⟩)⟩) (fun h7 => ⟨rfl, z01 ?_⟩)) (fun h6 => z01 ?_)))))))
 case app =>
  have h8' := of_decide_eq_true h8
  rw [head0 h8', zjf]
  refine ⟨⟨rfl, by omega, by omega, rfl⟩, rfl, z00 (fun h9 => z00 (fun h10 => ⟨rfl, z00 (fun h11 => ⟨_, hc, z01 ?_⟩) (fun h11 => z01 ?_)⟩) (fun h10 => z01 ?_)) (fun h9 => z01 ?_)⟩
  all_goals (have h9' : ((l.headD default).k != 6) = _ := h9; simp_all [z0b])
 all_goals first
  | (simp_all [z0b]; done)
  | (simp_all [z0b]; intros; omega)
end Go.AM

set_option maxRecDepth 100000
open Go Go.Proofs
namespace Go.AM
mutual
theorem zem {M : Int} : ∀ t : Tm, near M t = true → bd M t
 | .mk k s n l, h => by
  simp only [near, Bool.and_eq_true] at h
  refine ⟨fun e => ?_, zg6 l h.2⟩
  have := h.1
  rw [e] at this
  simp at this; omega
theorem zg6 {M : Int} : ∀ l : List Tm, zdr M l = true → bds M l
 | [], _ => trivial
 | t :: l, h => by
  simp only [zdr, Bool.and_eq_true] at h
  exact ⟨zem t h.1, zg6 l h.2⟩
end
end Go.AM

set_option maxRecDepth 100000
open Go Go.Proofs
namespace Go.AM
theorem zez (c : Int) : AC Tryz.prog 75 [c8 c] [] (cb (z4g c)) [] := by
 refine AC.vc hP sh lv75 (Nat.le_refl _) (by simp) (by simp) (Eq.mpr (v75 ..) ?_)
 refine z00 (fun h => z01 ?_) (fun h => z01 ?_) <;> simp_all [z4g] <;> omega
theorem zfo (c : Int) : AC Tryz.prog 89 [c8 c] [] (cb (z8g c)) [] := by
 refine AC.vc hP sh lv89 (Nat.le_refl _) (by simp) (by simp) (Eq.mpr (v89 ..) ?_)
 refine z00 (fun h => z01 ?_) (fun h => z01 ?_) <;> simp_all [z8g] <;> omega
theorem c_rin (c : Int) : AC Tryz.prog 76 [c8 c] [] (cb (z0i c)) [] := by
 refine AC.vc hP sh lv76 (Nat.le_refl _) (by simp) (by simp) (Eq.mpr (v76 ..) ?_)
 have key : (decide (c ≥ 65) && decide (c ≤ 90)) = false → (c == 95) = false → z4g c = false → z8g c = false → (c == 39) = z0i c := fun h1 h2 h3 h4 => by
  have e : z5a c = false := by unfold z5a; rw [h2, show (decide (65 ≤ c) && decide (c ≤ 90)) = false from h1]; rfl
  simp only [z0i, h3, h4, e, Bool.false_or]
 have k1 : z4g c = true → true = z0i c := fun h => by simp only [z0i, h, Bool.true_or]
 have k2 : z5a c = true → true = z0i c := fun h => by simp only [z0i, h, Bool.true_or, Bool.or_true]
 have k3 : z8g c = true → true = z0i c := fun h => by simp only [z0i, h, Bool.true_or, Bool.or_true]
 have k4 : (c == 95) = true → z5a c = true := fun h => by unfold z5a; rw [h]; simp
 refine ⟨_, zez c, z00 (fun h => z01 (k1 h)) (fun h => z00 (fun h1 => z00 (fun h2 => z01 (k2 ?_)) (fun h2 => ⟨_, zfo c, z00 (fun h3 => z01 (k3 h3)) (fun h3 => z00 (fun h4 => z01 (k2 (k4 h4))) (fun h4 => z01 (key ?_ h4 h h3)))⟩)) (fun h1 => ⟨_, zfo c, z00 (fun h3 => z01 (k3 h3)) (fun h3 => z00 (fun h4 => z01 (k2 (k4 h4))) (fun h4 => z01 (key ?_ h4 h h3)))⟩))⟩
 · unfold z5a; rw [show decide (65 ≤ c) = true from h1, h2]; rfl
 · rw [h2]; simp
 · rw [h1]; simp
theorem sign_any (c : UInt8) : z4t (c.toNat : Int) = za4.any fun x => ((x.toNat : Int) == (c.toNat : Int)) := by
 have key : ∀ n : Fin 256, z4t (n.val : Int) = za4.any fun x => ((x.toNat : Int) == (n.val : Int)) := by decide +kernel
 exact key ⟨c.toNat, c.toNat_lt⟩
theorem zim (c : Int) : ∀ (b a : List UInt8), a ++ b = za4 → (a.any fun x => ((x.toNat : Int) == c)) = false →
  RPt Tryz.prog 77 0 (cb (za4.any fun x => ((x.toNat : Int) == c))) [] 1 ⟨[(0, c8 c), (3, ci a.length)], [], 0⟩
 | [], a, hab, ha => by
  rw [List.append_nil] at hab
  subst hab
  refine RPt.vc hP sh lv77 (Eq.mpr (v77_1a ..) ?_)
  exact z00 (fun h => absurd (of_decide_eq_true h) (by decide)) (fun _ => z01 ha.symm)
 | x :: b, a, hab, ha => by
  have hl : a.length < 16 := by
   have : (a ++ x :: b).length = 16 := by rw [hab]; rfl
   simp at this; omega
  have hg : List.getD za4 (Int.toNat (a.length : Int)) 0 = x := by rw [← hab]; exact z7s a x b
  refine RPt.vc hP sh lv77 (Eq.mpr (v77_1a ..) ?_)
  rw [w64 (x := (a.length : Int) + 1) (by omega) (by omega)]
  refine z00 (fun _ => ⟨⟨by omega, by omega⟩, z00 (fun h => z01 ?_) (fun h => ?_)⟩) (fun h => absurd (of_decide_eq_false h) (by omega))
  · have h : (((List.getD za4 (Int.toNat (a.length : Int)) 0).toNat : Int) == c) = true := h
    rw [hg] at h
    rw [← hab]; simp only [List.any_append, List.any_cons, h, Bool.true_or, Bool.or_true]
  · have h : (((List.getD za4 (Int.toNat (a.length : Int)) 0).toNat : Int) == c) = false := h
    rw [hg] at h
    have := zim c b (a ++ [x]) (by rw [ap]; exact hab) (by simp only [List.any_append, List.any_cons, List.any_nil, ha, h, Bool.or_self])
    rw [nx] at this; exact this
theorem c_rsign (c : UInt8) : AC Tryz.prog 77 [c8 (c.toNat : Int)] [] (cb (z4t (c.toNat : Int))) [] := by
 rw [sign_any]
 refine AC.vc hP sh lv77 (Nat.le_refl _) (by simp) (by simp) (Eq.mpr (v77 ..) ?_)
 exact zim _ za4 [] rfl rfl
theorem zda : ∀ (b a : List UInt8), (a ++ b).length ≤ B → RPt Tryz.prog 47 0 (cb (b.all fun c => z0i (c.toNat : Int))) [] 1 ⟨[(0, cs (a ++ b)), (3, ci a.length)], [], 0⟩
 | [], a, _ => by
  refine RPt.vc hP sh lv47 (Eq.mpr (v47_1a ..) ?_)
  exact z00 (fun h => absurd (of_decide_eq_true h) (by simp)) (fun _ => z01 rfl)
 | x :: b, a, hl => by
  have hl' := hl
  simp only [List.length_append, List.length_cons, B] at hl'
  have h2 := zda b (a ++ [x]) (by rw [ap]; exact hl)
  rw [ap, nx] at h2
  refine RPt.vc hP sh lv47 (Eq.mpr (v47_1a ..) ?_)
  rw [z7s, w64 (x := (a.length : Int) + 1) (by omega) (by omega)]
  refine z00 (fun _ => ⟨⟨by omega, ltI a x b⟩, _, c_rin _, z00 (fun h => z01 ?_) (fun h => ?_)⟩) (fun h => absurd (ltI a x b) (of_decide_eq_false h))
  · rw [List.all_cons, show z0i (x.toNat : Int) = false by simpa using h]; rfl
  · rw [List.all_cons, show z0i (x.toNat : Int) = true by simpa using h]; exact h2
theorem zc0 (s : List UInt8) : AC Tryz.prog 47 [cs s] [] (cb (z3l s)) [] := by
 refine AC.vc hP sh lv47 (Nat.le_refl _) (by simp) (by simp) (Eq.mpr (v47 ..) ?_)
 refine z00 (fun h => z01 ?_) (fun h => z00 (fun h1 => z01 ?_) (fun h1 => ?_))
 · have h := of_decide_eq_true h
   cases s with
   | nil => rfl
   | cons c s => simp at h; omega
 · have h1 := of_decide_eq_true h1
   have : z7k s = false := by simp only [z7k]; rw [show decide ((s.length : Int) ≤ 32) = false by simp; omega]; simp
   simp only [z3l, this, Bool.false_and]
 · have h := of_decide_eq_false h
   have h1 := of_decide_eq_false h1
   have hf : z7k s = true := by
    simp only [z7k]
    cases s with
    | nil => simp at h
    | cons c s => simp at h1 ⊢; omega
   refine ⟨⟨by omega, by omega⟩, _, zez _, z00 (fun h2 => z01 ?_) (fun h2 => ?_)⟩
   · simp only [z3l, show z4g ((s.getD 0 0).toNat : Int) = false by simpa using h2, Bool.and_false, Bool.false_and]
   · have := zda s [] (by simp only [List.nil_append, B]; omega)
     rw [show z3l s = s.all fun c => z0i (c.toNat : Int) by simp only [z3l, hf, show z4g ((s.getD 0 0).toNat : Int) = true by simpa using h2, Bool.true_and]]
     exact this
theorem zfj (s : List UInt8) : ∀ (b a : List UInt8), a ++ b = s → (s.length ≤ B) →
  RPt Tryz.prog 48 0 (cb ((b.all fun c => z4t (c.toNat : Int)) && decide ((s.length : Int) ≥ 1) && decide ((s.length : Int) ≤ 32))) [] 1 ⟨[(0, cs s), (3, ci a.length)], [], 0⟩
 | [], a, hab, _ => by
  rw [List.append_nil] at hab
  subst hab
  refine RPt.vc hP sh lv48 (Eq.mpr (v48_1a ..) ?_)
  refine z00 (fun h => absurd (of_decide_eq_true h) (by omega)) (fun _ => z00 (fun h => z01 ?_) (fun h => z01 ?_))
  · rw [h]; simp
  · rw [h]; simp
 | x :: b, a, hab, hl => by
  have h3 := ltI a x b
  have hg := z7s a x b
  rw [hab] at h3 hg
  have h2 := zfj s b (a ++ [x]) (by rw [ap]; exact hab) hl
  rw [nx] at h2
  simp only [B] at hl
  refine RPt.vc hP sh lv48 (Eq.mpr (v48_1a ..) ?_)
  rw [hg, w64 (x := (a.length : Int) + 1) (by omega) (by omega)]
  refine z00 (fun _ => ⟨⟨by omega, h3⟩, _, c_rsign x, z00 (fun h => z01 ?_) (fun h => ?_)⟩) (fun h => absurd h3 (of_decide_eq_false h))
  · rw [List.all_cons, show z4t (x.toNat : Int) = false by simpa using h]; rfl
  · rw [List.all_cons, show z4t (x.toNat : Int) = true by simpa using h]; exact h2
theorem sym_eq (s : List UInt8) : z6r s = (s == [44] || s == [59] || s == [33] || ((s.all fun c => z4t (c.toNat : Int)) && decide ((s.length : Int) ≥ 1) && decide ((s.length : Int) ≤ 32))) := by
 match s with
 | [] => rfl
 | [c] =>
  have key : ∀ n : Fin 256, z6r [n.val.toUInt8] = ([n.val.toUInt8] == [44] || [n.val.toUInt8] == [59] || [n.val.toUInt8] == [33] || (([n.val.toUInt8].all fun c => z4t (c.toNat : Int)) && decide ((([n.val.toUInt8].length : Nat) : Int) ≥ 1) && decide ((([n.val.toUInt8].length : Nat) : Int) ≤ 32))) := by decide +kernel
  have e : c.toNat.toUInt8 = c := by simp
  have := key ⟨c.toNat, c.toNat_lt⟩
  simp only [e] at this
  exact this
 | c :: d :: s =>
  have h2 : ∀ x : UInt8, ((c :: d :: s : List UInt8) == [x]) = false := fun x => by simp
  simp only [z6r, z7k, h2, Bool.false_or]
  rw [show (((c :: d :: s).length : Int) == 1) = false by simp; omega, show decide (((c :: d :: s).length : Int) ≥ 1) = true by simp; omega]
  simp [Bool.and_comm]
theorem zfx (s : List UInt8) (hl : s.length ≤ B) : AC Tryz.prog 48 [cs s] [] (cb (z6r s)) [] := by
 rw [sym_eq]
 refine AC.vc hP sh lv48 (Nat.le_refl _) (by simp) (by simp) (Eq.mpr (v48 ..) ?_)
 refine z00 (fun h => z01 ?_) (fun h => z00 (fun h1 => z01 ?_) (fun h1 => z00 (fun h2 => z01 ?_) (fun h2 => ?_)))
 · rw [h]; rfl
 · rw [h, h1]; rfl
 · rw [h, h1, h2]; rfl
 · rw [h, h1, h2, Bool.false_or, Bool.false_or, Bool.false_or]
   exact zfj s s [] rfl hl
end Go.AM

set_option maxRecDepth 100000
open Go Go.Proofs
namespace Go.AM
theorem c_rinner (t : Tm) : AC Tryz.prog 90 [aT t] [] (cb t.inner) [] := by
 obtain ⟨k, s, n, l⟩ := t
 refine AC.vc hP sh lv90 (Nat.le_refl _) (by simp) (by simp) (Eq.mpr (v90 k s n (FTs l) _ _) ?_)
 refine z00 (fun h => z01 ?_) (fun h => z01 ?_)
 · unfold Tm.inner; simp only [Tm.k, h, Bool.true_or]
 · unfold Tm.inner; simp only [Tm.k, h, Bool.false_or]
theorem c_runder (t : Tm) (k : Int) (h0 : 0 ≤ k) (h1 : k ≤ 4611686018427387904) : AC Tryz.prog 91 [aT t, ci k] [] (ci (k + t.by)) [] := by
 obtain ⟨kd, s, n, l⟩ := t
 refine AC.vc hP sh lv91 (Nat.le_refl _) (by simp) (by simp) (Eq.mpr (v91 kd s n (FTs l) k _ _) ?_)
 rw [w64 (x := k + 1) (by omega) (by omega)]
 refine z00 (fun h => z2f ?_) (fun h => z2f ?_)
 · unfold Tm.by; simp only [Tm.k, h, if_true]
 · unfold Tm.by; simp only [Tm.k, h, Bool.false_eq_true, if_false]; omega
theorem zfk (kd : Int) (s : List UInt8) (n : Int) : ∀ (b a : List Tm) (ok : Bool), (∀ u ∈ b, AC Tryz.prog 51 [aT u] [] (cb (z0b u)) []) → (a ++ b).length ≤ B →
  RPt Tryz.prog 51 0 (cb (ok && z2c b)) [] 3 ⟨[(1, .c (.a (.ep 0 4 0 0))), (3, cb ok), (7, ci a.length)], [(0, .arr 4 [fzs (FT (.mk kd s n (a ++ b)))])], 1⟩
 | [], a, ok, _, _ => by
  refine RPt.vc hP sh lv51 (Eq.mpr (v51_3a ..) ?_)
  exact ⟨rfl, z00 (fun h => absurd (of_decide_eq_true h) (geI' a)) (fun _ => z01 (by simp [z2c]))⟩
 | t :: b, a, ok, ih, hl => by
  refine RPt.vc hP sh lv51 (Eq.mpr (v51_3a ..) ?_)
  have hl' := hl
  simp only [List.length_append, List.length_cons, B] at hl'
  have h1 := ih t List.mem_cons_self
  have h2 := zfk kd s n b (a ++ [t]) (z0b t) (fun u hu => ih u (List.mem_cons_of_mem _ hu)) (by rw [ap]; exact hl)
  have h3 := ltI' a t b
  rw [ap, nx] at h2
  rw [midI, w64 (x := (a.length : Int) + 1) (by omega) (by omega)]
  refine ⟨rfl, z00 (fun _ => z00 (fun hk => ?_) (fun hk => z01 (by rw [hk]; rfl))) (fun h => absurd h3 (of_decide_eq_false h))⟩
  rw [hk, z2c, Bool.true_and]
  obtain ⟨k', s', n', l'⟩ := t
  exact ⟨⟨rfl, by omega, h3, rfl⟩, _, h1, h2⟩
theorem zge : ∀ t : Tm, t.bk ≤ B → AC Tryz.prog 51 [aT t] [] (cb (z0b t)) [] := by
 refine Tm.ind fun t ih hs => ?_
 have hlen := Nat.le_trans (Tm.szs_length t.l) (Tm.szs_bks t.l)
 obtain ⟨k, s, n, l⟩ := t
 simp only [Tm.bk, Tm.l] at hs hlen
 have loop : ∀ ok : Bool, (ok && z2c l) = z0b (.mk k s n l) → RPt Tryz.prog 51 0 (cb (z0b (.mk k s n l))) [] 3 ⟨[(1, .c (.a (.ep 0 4 0 0))), (3, cb ok), (7, ci 0)], [(0, .arr 4 [fzs (FT (.mk k s n l))])], 1⟩ := fun ok h => by
  have := zfk k s n l [] ok (fun u hu => ih u hu (by have := Tm.bks_mem hu; omega)) (by simp only [List.nil_append]; omega)
  rw [h] at this
  exact this
 refine AC.vc hP sh lv51 (Nat.le_refl _) (by simp) (by simp) (Eq.mpr (v51 k s n (FTs l) _ _) ?_)
 refine z00 (fun h0 => ⟨_, zc0 s, _, zfx s (by omega), z00 (fun h1 => z00 (fun h2 => ⟨rfl, z01 ?_⟩) (fun h2 => z01 ?_)) (fun h1 => z00 (fun h1' => z00 (fun h2 => ⟨rfl, z01 ?_⟩) (fun h2 => z01 ?_)) (fun h1' => z01 ?_))⟩)
  (fun h0 => z00 (fun h1 => z00 (fun h2 => z00 (fun h3 => ⟨rfl, loop _ ?_⟩) (fun h3 => loop _ ?_)) (fun h2 => loop _ ?_))
  (fun h1 => z00 (fun h2 => z00 (fun h3 => ⟨rfl, loop _ ?_⟩) (fun h3 => loop _ ?_))
  (fun h2 => z00 (fun h3 => z00 (fun h4 => z00 (fun h5 => z00 (fun h6 => ⟨rfl, loop _ ?_⟩) (fun h6 => loop _ ?_)) (fun h5 => loop _ ?_)) (fun h4 => loop _ ?_))
  (fun h3 => z00 (fun h3' => z00 (fun h4 => z00 (fun h5 => z00 (fun h6 => ⟨rfl, loop _ ?_⟩) (fun h6 => loop _ ?_)) (fun h5 => loop _ ?_)) (fun h4 => loop _ ?_))
  (fun h3' => z00 (fun h5 => z00 (fun h6 => z00 (fun h7 => ⟨rfl, loop _ ?_⟩) (fun h7 => loop _ ?_)) (fun h6 => loop _ ?_))
  (fun h5 => z00 (fun h6 => z00 (fun h7 => ⟨rfl, z00 (fun h8 => ?app) (fun h8 => ⟨rfl, loop _ ?_⟩)⟩) (fun h7 => ⟨rfl, loop _ ?_⟩)) (fun h6 => loop _ ?_)))))))
 case app =>
  have h8' := of_decide_eq_true h8
  rw [head0 h8', zjf]
  refine ⟨⟨rfl, by omega, by omega, rfl⟩, rfl, z00 (fun h9 => z00 (fun h10 => ⟨rfl, loop _ ?_⟩) (fun h10 => loop _ ?_)) (fun h9 => loop _ ?_)⟩
  all_goals (have h9' : ((l.headD default).k != 6) = _ := h9; clear loop ih hs hlen h9; simp_all [z0b])
 all_goals clear loop ih hs hlen
 all_goals first
  | (simp_all [z0b]; done)
  | (simp_all [z0b]; intros; omega)
theorem zf5 : ∀ (b a b' a' : List Tm), (∀ u ∈ b, ∀ v : Tm, AC Tryz.prog 68 [aT u, aT v] [] (cb (zba u v)) []) → (a ++ b).length ≤ B → a.length = a'.length → b.length = b'.length →
  RPt Tryz.prog 86 0 (cb (z8q b b')) [] 1 ⟨[(1, aL (a' ++ b')), (2, .c (.fn (.func 68) [] [])), (15, aL (a ++ b)), (16, ci (((FTs (a ++ b)).length : Nat) : Int)), (17, ci a.length)], [], 0⟩
 | [], a, [], a', _, _, _, _ => by
  refine RPt.vc hP sh lv86 (Eq.mpr (z9i ..) ?_)
  exact z00 (fun h => absurd (of_decide_eq_true h) (geI' a)) (fun _ => z01 rfl)
 | t :: b, a, t' :: b', a', ih, hl, ha, hb => by
  refine RPt.vc hP sh lv86 (Eq.mpr (z9i ..) ?_)
  have hl' := hl
  simp only [List.length_append, List.length_cons, B] at hl'
  simp only [List.length_cons] at hb
  have h1 := ih t List.mem_cons_self t'
  have h2 := zf5 b (a ++ [t]) b' (a' ++ [t']) (fun u hu => ih u (List.mem_cons_of_mem _ hu)) (by rw [ap]; exact hl) (by simp [ha]) (by omega)
  have h3 := ltI' a t b
  have h4 := ltI' a' t' b'
  rw [← ha] at h4
  rw [ap, ap, nx] at h2
  rw [midI, midI' a a' ha, w64 (x := (a.length : Int) + 1) (by omega) (by omega)]
  refine z00 (fun _ => ?_) (fun h => absurd h3 (of_decide_eq_false h))
  obtain ⟨k1, s1, n1, l1⟩ := t
  obtain ⟨k2, s2, n2, l2⟩ := t'
  refine ⟨⟨rfl, by omega, h3, rfl⟩, ⟨rfl, by omega, h4, rfl⟩, _, h1, z00 (fun h => z01 ?_) (fun h => ?_)⟩
  · rw [z8q, show zba (.mk k1 s1 n1 l1) (.mk k2 s2 n2 l2) = false by simpa using h]; rfl
  · rw [z8q, show zba (.mk k1 s1 n1 l1) (.mk k2 s2 n2 l2) = true by simpa using h]; exact h2
theorem c_same : ∀ a : Tm, a.sz ≤ B → ∀ b : Tm, AC Tryz.prog 68 [aT a, aT b] [] (cb (zba a b)) [] := by
 refine Tm.ind fun a ih hs b => ?_
 have hlen := Tm.szs_length a.l
 obtain ⟨k1, s1, n1, l1⟩ := a
 obtain ⟨k2, s2, n2, l2⟩ := b
 simp only [Tm.sz, Tm.l] at hs hlen
 have he : AC Tryz.prog 86 [aL l1, aL l2, .c (.fn (.func 68) [] [])] [] (cb (z8q l1 l2)) [] := by
  refine AC.vc hP sh lv86 (Nat.le_refl _) (by simp) (by simp) (Eq.mpr (v86_F68 ..) ?_)
  refine ⟨rfl, rfl, z00 (fun h => z01 ?_) (fun h => ⟨rfl, ?_⟩)⟩
  · rw [z03, z03] at h
    exact (zdh (fun e => by rw [e] at h; simp at h)).symm
  · rw [z03, z03] at h
    exact zf5 l1 [] l2 [] (fun u hu v => ih u hu (by have := Tm.szs_mem hu; omega) v) (by simp only [List.nil_append]; omega) rfl (by have : (l1.length : Int) = l2.length := by simpa using h
                                                                                                                                      omega)
 refine AC.vc hP sh lv68 (Nat.le_refl _) (by simp) (by simp) (Eq.mpr (v68 k1 s1 n1 (FTs l1) k2 s2 n2 (FTs l2) _ _) ?_)
 refine z00 (fun h => z00 (fun h1 => z00 (fun h2 => ⟨_, he, z01 ?_⟩) (fun h2 => z01 ?_)) (fun h1 => z01 ?_)) (fun h => z01 ?_)
 all_goals simp only [zba]
 all_goals simp_all
end Go.AM

set_option maxRecDepth 100000
open Go Go.Proofs
namespace Go.AM
mutual
def z33 : Tm → Int → Int
 | .mk kd _ n l, k => if (kd == 3) = true then maxI 0 (n - k + 1) else if (kd == 5 || kd == 6) = true then z2o l (k + if (kd == 5) = true then 1 else 0) else 0
def z2o : List Tm → Int → Int
 | [], _ => 0
 | t :: l, k => maxI (z33 t k) (z2o l k)
end
theorem z5o (a b c : Int) : maxI (maxI a b) c = maxI a (maxI b c) := by
 unfold maxI; (repeat' split) <;> omega
theorem zkk {a : Int} (h : 0 ≤ a) : maxI a 0 = a := by unfold maxI; split <;> omega
theorem maxI_ge2 (a b : Int) : b ≤ maxI a b := by unfold maxI; split <;> omega
theorem z63 : ∀ (l : List Tm) (k : Int), 0 ≤ z2o l k
 | [], _ => Int.le_refl _
 | t :: l, k => by rw [z2o]; exact Int.le_trans (z63 l k) (maxI_ge2 _ _)
theorem zeo (a b : Int) : a ≤ maxI a b := by unfold maxI; split <;> omega
mutual
theorem zd7 : ∀ (t : Tm) (k acc : Int), 0 ≤ acc → z2d t k acc = maxI acc (z33 t k)
 | .mk kd _ n l, k, acc, h => by
  simp only [z2d, z33]
  by_cases h5 : (kd == 5) = true
  · have e : kd = 5 := by simpa using h5
    subst e
    simp [z65 l _ acc h]
  · by_cases h6 : (kd == 6) = true
    · have e : kd = 6 := by simpa using h6
      subst e
      simp [z65 l _ acc h]
    · have e5 : (kd == 5) = false := by simpa using h5
      have e6 : (kd == 6) = false := by simpa using h6
      rw [if_neg h5, if_neg h6]
      by_cases h3 : (kd == 3) = true
      · rw [if_pos h3, if_pos h3, ← z5o, zkk h]
      · rw [if_neg h3, if_neg h3, if_neg (by rw [e5, e6]; simp), zkk h]
theorem z65 : ∀ (l : List Tm) (k acc : Int), 0 ≤ acc → z6b l k acc = maxI acc (z2o l k)
 | [], _, acc, h => by rw [z6b, z2o, zkk h]
 | t :: l, k, acc, h => by
  have h1 := zd7 t k acc h
  rw [z6b, z2o, h1, z65 l k _ (Int.le_trans h (zeo _ _)), z5o]
end
theorem zg1 (kd : Int) (s : List UInt8) (n : Int) (is : Bool) (k : Int) (h0 : 0 ≤ k) (hk : k ≤ 2305843009213693952) : ∀ (b a : List Tm) (acc : Int), (∀ u ∈ b, AC Tryz.prog 78 [aT u, ci (k + Tm.by (.mk kd s n []))] [] (ci (z33 u (k + Tm.by (.mk kd s n [])))) []) → (a ++ b).length ≤ B → 0 ≤ acc →
  RPt Tryz.prog 78 0 (ci (maxI acc (if is = true then z2o b (k + Tm.by (.mk kd s n [])) else 0))) [] 1 ⟨[(1, ci k), (2, .c (.a (.ep 0 4 0 0))), (5, ci acc), (6, cb is), (7, ci a.length)], [(0, .arr 4 [fzs (FT (.mk kd s n (a ++ b)))])], 1⟩
 | [], a, acc, _, _, ha => by
  refine RPt.vc hP sh lv78 (Eq.mpr (v78_1a ..) ?_)
  exact ⟨rfl, z00 (fun h => absurd (of_decide_eq_true h) (geI' a)) (fun _ => z2f (by cases is <;> simp [z2o, zkk ha]))⟩
 | t :: b, a, acc, ih, hl, ha => by
  have hl' := hl
  simp only [List.length_append, List.length_cons, B] at hl'
  have h1 := ih t List.mem_cons_self
  have hu := c_runder (.mk kd s n (a ++ t :: b)) k h0 (by omega)
  have h2 := zg1 kd s n is k h0 hk b (a ++ [t]) (maxI acc (z33 t (k + Tm.by (.mk kd s n [])))) (fun u hu => ih u (List.mem_cons_of_mem _ hu)) (by rw [ap]; exact hl) (Int.le_trans ha (zeo _ _))
  have h3 := ltI' a t b
  rw [ap, nx] at h2
  refine RPt.vc hP sh lv78 (Eq.mpr (v78_1a ..) ?_)
  rw [midI, w64 (x := (a.length : Int) + 1) (by omega) (by omega)]
  refine ⟨rfl, z00 (fun _ => z00 (fun hk => ?_) (fun hk => z2f (by rw [hk]; simp [zkk ha]))) (fun h => absurd h3 (of_decide_eq_false h))⟩
  rw [hk] at h2 ⊢
  rw [if_pos rfl] at h2
  rw [if_pos rfl, z2o, ← z5o]
  obtain ⟨k', s', n', l'⟩ := t
  refine ⟨⟨rfl, by omega, h3, rfl⟩, _, hu, _, h1, ?_⟩
  rw [za2]
  exact h2
theorem c_rloose : ∀ t : Tm, t.sz ≤ B → bd 2305843009213693952 t → ∀ k : Int, 0 ≤ k → k + t.sz ≤ 2305843009213693952 → AC Tryz.prog 78 [aT t, ci k] [] (ci (z33 t k)) [] := by
 refine Tm.ind fun t ih hs hb k h0 h1 => ?_
 have hlen := Tm.szs_length t.l
 have hi := c_rinner t
 obtain ⟨kd, s, n, l⟩ := t
 simp only [Tm.sz, Tm.l] at hs hlen h1
 refine AC.vc hP sh lv78 (Nat.le_refl _) (by simp) (by simp) (Eq.mpr (v78 kd s n (FTs l) k _ _) ?_)
 refine z00 (fun h => z2f ?_) (fun h => ⟨_, hi, ?_⟩)
 · have := hb.1 (by simpa using h)
   rw [w64 (x := n - k) (by omega) (by omega), w64 (x := n - k + 1) (by omega) (by omega), za2, z33, if_pos h]
 · have hby : 0 ≤ Tm.by (.mk kd s n []) ∧ Tm.by (.mk kd s n []) ≤ 1 := by unfold Tm.by; split <;> omega
   have := zg1 kd s n (Tm.inner (.mk kd s n l)) k h0 (by omega) l [] 0 (fun u hu => ih u hu (by have := Tm.szs_mem hu; omega) (zaa hb.2 hu) _ (by omega) (by have := Tm.szs_mem hu; omega)) (by simp only [List.nil_append]; omega) (Int.le_refl _)
   rw [show z33 (.mk kd s n l) k = maxI 0 (if Tm.inner (.mk kd s n l) = true then z2o l (k + Tm.by (.mk kd s n [])) else 0) from ?_]
   · exact this
   · rw [z33, if_neg (by rw [h]; simp)]
     have e : Tm.by (.mk kd s n []) = if (kd == 5) = true then 1 else 0 := rfl
     rw [e]
     show (if (kd == 5 || kd == 6) = true then _ else _) = maxI 0 (if (kd == 5 || kd == 6) = true then _ else _)
     split
     · have := z63 l (k + if (kd == 5) = true then 1 else 0)
       unfold maxI; rw [if_pos this]
     · unfold maxI; rfl
end Go.AM

set_option maxRecDepth 100000
open Go Go.Proofs
namespace Go.AM
theorem c_clone : (∀ es : List (List FV), es ≠ [] → es.length ≤ B → AC Tryz.prog 97 [.c (.a (.fz (.sl false 4 es)))] [] (.c (.a (.osl 0 4 0 es.length))) [.arz 4 es]) ∧ AC Tryz.prog 97 [.c (.a (.fz (.sl false 4 [])))] [] (.c (.a (.fz (.sl false 4 [])))) [] := by
 have h0 : AC Tryz.prog 97 [.c (.a (.fz .nils))] [] (.c (.a (.fz .nils))) [] := by
  refine AC.vc hP sh lv97 (Nat.le_refl _) (by simp) (by simp) (Eq.mpr (v97 ..) ?_)
  exact ⟨.refl _, rfl⟩
 have h1 : ∀ es : List (List FV), es.length ≤ B → AC Tryz.prog 97 [.c (.a (.fz (.sl true 4 es)))] [] (.c (.a (.osl 0 4 0 es.length))) [.arz 4 es] := fun es hl => by
  refine AC.vc hP sh lv97 (by simp) (by simp) (by simp [isLive]) (Eq.mpr (v97_i1 ..) ?_)
  refine ⟨rfl, ⟨by omega, by rw [Nat.zero_add]; exact roomI (by simp only [B] at hl; omega)⟩, ?_⟩
  rw [Nat.zero_add]
  exact ⟨.refl _, rfl⟩
 exact AC.clone_le h0 h1
end Go.AM

set_option maxRecDepth 100000
open Go Go.Proofs

set_option maxRecDepth 100000
open Go Go.Proofs
namespace Go.AM
def hd (l : List Tm) : Tm := l.headD default
mutual
def okB : Tm → Bool
 | .mk k s n l => (if (k == 6) = true then decide (2 ≤ l.length) && (hd l).k != 6 && (s == [] && n == 0) else if (k == 5) = true then decide (l.length = 1) && (s == [] && n == 0) else decide (l.length = 0)) && okL l
def okL : List Tm → Bool
 | [] => true
 | t :: l => okB t && okL l
end
theorem okB6 {k n : Int} {s : List UInt8} {l : List Tm} (h : okB (.mk k s n l) = true) (hk : k = 6) : ∃ x y r, l = x :: y :: r ∧ x.k ≠ 6 ∧ okL l = true := by
 subst hk
 simp only [okB, Bool.and_eq_true] at h
 match l, h with
 | [], h => simp at h
 | [x], h => simp at h
 | x :: y :: r, h => exact ⟨x, y, r, rfl, by have := h.1; simp [hd] at this; exact this.1, h.2⟩
mutual
theorem zav : ∀ t : Tm, z0b t = true → okB t = true
 | .mk k s n l, h => by
  rw [okB]
  have hl := zbr l
  rw [z0b] at h
  split at h
  · rename_i e
    have e : k = 0 := by simpa using e
    subst e
    rw [lenI] at h
    have : l = [] := by simp at h; exact h.2
    subst this; rfl
  split at h
  · rename_i e
    have e : k = 1 := by simpa using e
    subst e
    rw [lenI] at h
    have : l = [] := by simp at h; exact h.1.2
    subst this; rfl
  split at h
  · rename_i e
    have e : k = 2 := by simpa using e
    subst e
    rw [lenI] at h
    have : l = [] := by simp at h; exact h.1.2
    subst this; rfl
  split at h
  · rename_i e
    have e : k = 3 := by simpa using e
    subst e
    rw [lenI] at h
    have : l = [] := by simp at h; exact h.1.2
    subst this; rfl
  split at h
  · rename_i e
    have e : k = 4 := by simpa using e
    subst e
    rw [lenI] at h
    have : l = [] := by simp at h; exact h.1.2
    subst this; rfl
  split at h
  · rename_i e
    have e : k = 5 := by simpa using e
    subst e
    rw [lenI] at h
    simp only [Bool.and_eq_true, beq_iff_eq] at h
    have h1 : l.length = 1 := by have := h.1.2; omega
    rw [hl h.2]
    simp [h1, h.1.1.1, h.1.1.2]
  split at h
  · rename_i e
    have e : k = 6 := by simpa using e
    subst e
    rw [lenI] at h
    simp only [Bool.and_eq_true, decide_eq_true_eq, beq_iff_eq] at h
    have h1 : 2 ≤ l.length := by have := h.1.1.1.2; omega
    have h2 : ((hd l).k != 6) = true := h.1.1.2
    rw [hl h.2, h2]
    simp [h1, h.1.1.1.1, h.1.2]
  · cases h
theorem zbr : ∀ l : List Tm, z2c l = true → okL l = true
 | [], _ => rfl
 | t :: l, h => by
  simp only [z2c, Bool.and_eq_true] at h
  simp only [okL, zav t h.1, zbr l h.2, Bool.and_self]
end
end Go.AM

set_option maxRecDepth 100000
open Go Go.Proofs

set_option maxRecDepth 100000
open Go Go.Proofs
namespace Go.AM
theorem el0 (x : Tm) (l : List Tm) : FV.isSl 4 (.sl false 4 (FTs (x :: l))) = true ∧ ((0 : Int) ≤ 0 ∧ ((0 : Int) < (((FTs (x :: l)).length : Nat) : Int) ∧ (rE (List.getD (FTs (x :: l)) 0 []) : List FV) = List.getD (FTs (x :: l)) 0 [])) := ⟨rfl, Int.le_refl _, by rw [lenI]; simp only [List.length_cons]; omega, rE_FT x⟩
end Go.AM

set_option maxRecDepth 100000
open Go Go.Proofs

set_option maxRecDepth 100000
open Go Go.Proofs

set_option maxRecDepth 100000
open Go Go.Proofs

set_option maxRecDepth 100000
open Go Go.Proofs

set_option maxRecDepth 100000
open Go Go.Proofs
namespace Go.AM
def LeW (p q : Bool × List WV) : Prop := p.1 = q.1 ∧ All2 WV.Le p.2 q.2
theorem z38 {α β : Type} {R : α → β → Prop} : ∀ {a : List α} {b : List β}, All2 R a b → a.length = b.length ∧ ∀ (i : Nat) (x : α) (y : β), a[i]? = some x → b[i]? = some y → R x y
 | [], [], _ => ⟨rfl, fun i x y hx _ => by simp at hx⟩
 | x :: a, y :: b, h => by
  have := z38 h.2
  refine ⟨by simp [this.1], fun i u v hu hv => ?_⟩
  match i, hu, hv with
  | 0, hu, hv => simp at hu hv; subst hu; subst hv; exact h.1
  | i + 1, hu, hv => exact this.2 i u v (by simpa using hu) (by simpa using hv)
 | [], _ :: _, h => h.elim
 | _ :: _, [], h => h.elim
theorem le_tup {a b : List (Bool × List WV)} (h : All2 LeW a b) : TV.Le (.tup a) (.tup b) := by
 have := z38 h
 refine .tup _ _ this.1 fun i p q hp hq => ?_
 have h1 := this.2 i p q hp hq
 have h2 := z38 h1.2
 exact ⟨h1.1, h2.1, h2.2⟩
theorem lw1 {x y : WV} {b : Bool} (h : WV.Le x y) : LeW (b, [x]) (b, [y]) := ⟨rfl, h, trivial⟩
theorem lwR (p : Bool × List WV) : LeW p p := by
 obtain ⟨b, l⟩ := p
 refine ⟨rfl, ?_⟩
 show All2 WV.Le l l
 induction l with
 | nil => trivial
 | cons x l ih => exact ⟨.refl _, ih⟩
theorem zf7 (t : List (List FV)) : List.take (Int.toNat ((t.length : Nat) : Int)) t = t := by rw [Int.toNat_natCast, List.take_of_length_le (Nat.le_refl _)]
end Go.AM

set_option maxRecDepth 100000
open Go Go.Proofs
namespace Go.AM
def z1a (t : Tm) : Tm × List Tm := if t.k = 6 ∧ z0b t = true then (hd t.l, t.l.drop 1) else (t, [])
abbrev aSp (z : Tm × List Tm) : TV := .tup [(true, cT z.1), (false, [.a (.fz (.sl false 4 (FTs z.2)))])]
theorem zf0 (t : Tm) (hz : t.sz ≤ B) : AC Tryz.prog 87 [aT t] [] (aSp (z1a t)) [] := by
 have h1 := zif t hz
 have hlen := Tm.szs_length t.l
 have hsz := t.sz_eq
 obtain ⟨k, str, n, l⟩ := t
 have no : ∀ x : FV, FV.Le x (.sl false 4 (FTs [])) → TV.Le (.tup [(true, [.a (.fz (.int .i64 k)), .a (.fz (.str str)), .a (.fz (.int .i64 n)), .a (.fz (.sl false 4 (FTs l)))]), (false, [.a (.fz x)])]) (aSp (.mk k str n l, [])) :=
  fun x hx => le_tup ⟨lwR _, lw1 (.a _ _ (.fz _ _ hx)), trivial⟩
 refine AC.vc hP sh lv87 (Nat.le_refl _) (by simp) (by simp) (Eq.mpr (v87 k str n (FTs l) _ _) ?_)
 refine z00 (fun h => ?_) (fun h => ⟨_, h1, z00 (fun h' => ?_) (fun h' => ?_)⟩)
 · rw [z1a, if_neg (fun e => by have e1 : k = 6 := e.1; subst e1; cases h)]; exact ⟨no _ leNil, rfl⟩
 · rw [z1a, if_neg (fun e => by rw [show z0b (.mk k str n l) = false by simpa using h'] at e; cases e.2)]; exact ⟨no _ leNil, rfl⟩
 · have h6 : k = 6 := by simpa using h
   subst h6
   have hv : z0b (.mk 6 str n l) = true := by simpa using h'
   obtain ⟨x, y, r, rfl, hx6, hl⟩ := okB6 (zav _ hv) rfl
   simp only [Tm.l, List.length_cons, B] at hlen hsz hz
   have hcl := c_clone.1 (FTs (y :: r)) (by simp [FTs]) (by rw [z03]; simp only [List.length_cons, B]; omega)
   have e1 : List.drop 1 (List.take (Int.toNat (((FTs (x :: y :: r)).length : Nat) : Int)) (FTs (x :: y :: r))) = FTs (y :: r) := by rw [zf7]; rfl
   rw [e1, z1a, if_pos ⟨rfl, hv⟩]
   refine ⟨el0 x (y :: r), rfl, ⟨by omega, by rw [z03]; simp only [List.length_cons]; omega, Int.le_refl _⟩, .inr ⟨_, hcl, ⟨rfl, by omega⟩, ?_, rfl⟩⟩
   rw [List.drop_zero, List.take_of_length_le (Nat.le_refl _), show cE (List.getD (FTs (x :: y :: r)) 0 []) = cT x from cE_FT x]
   exact .refl _
end Go.AM

set_option maxRecDepth 100000
open Go Go.Proofs
namespace Go.AM
mutual
def unF (n : Int) : Tm → Bool
 | .mk k _ m l => !(k == 1 || k == 4 && decide (m ≥ n)) && unL n l
def unL (n : Int) : List Tm → Bool
 | [] => true
 | t :: l => unF n t && unL n l
end
theorem zjr (n : Int) : ∀ l : List Tm, unL n l = l.all (unF n)
 | [] => rfl
 | t :: l => by rw [unL, zjr n l]; rfl
theorem unF_eq (n : Int) (t : Tm) : unF n t = (!(t.k == 1 || t.k == 4 && decide (t.n ≥ n)) && t.l.all (unF n)) := by
 obtain ⟨k, s, m, l⟩ := t
 rw [unF, zjr]; rfl
def z31 (t : Tm) : Bool := t.k == 0 && (t.s == [] && (t.n == 0 && t.l.isEmpty))
def plB (n : Int) (t : Tm) : Bool := z0b t && (decide (z2d t 0 0 ≤ 0) && unF n t)
def logs : List (List UInt8) := [[58, 45], [44], [59], [61, 62], [61], [105, 115], [60], [61, 60], [62], [62, 61], [116, 114, 117, 101], [102, 97, 105, 108], [33], [112, 105], [115, 105, 103, 109, 97]]
def nums : List (List UInt8) := [[105, 115], [60], [61, 60], [62], [62, 61]]
def logB (s : List UInt8) : Bool := logs.contains s
def numB (s : List UInt8) : Bool := nums.contains s
def nmB (s : List UInt8) : Bool := (z3l s || z6r s) && !logB s
def cntB (ar fr vs sl : Int) : Bool := decide (0 ≤ ar ∧ ar ≤ 4096 ∧ 0 ≤ fr ∧ fr ≤ 4096 ∧ 0 ≤ vs ∧ vs ≤ 4096 ∧ sl ≤ 4096 ∧ fr + vs ≤ sl)
def zgk (t : Tm) : Bool := (z1a t).1.k == 0 && !logB (z1a t).1.s
def zia (t : Tm) : Bool := (z1a t).1.k == 0 && (numB (z1a t).1.s && (z1a t).2.length == 2)
def useA (k : Int) : Bool := k == 0 || k == 1 || k == 9 || k == 10 || k == 11 || k == 13
def useT (k : Int) : Bool := k == 0 || k == 1 || k == 2 || k == 3 || k == 6
def insB (ar fv sl n at_ : Int) (was : Option (Int × Int)) (k a : Int) (t : Tm) : Bool :=
 if k = 0 ∨ k = 1 then decide (0 ≤ a ∧ a < ar) && ((k == 0 || t.k == 0 || t.k == 2) && match was with | none => true | some w => (w.1 == 0 || w.1 == 1) && decide (w.2 < a))
 else if k = 2 ∨ k = 3 then zgk t
 else if k = 6 then zia t
 else if k = 9 ∨ k = 10 then decide (at_ < a ∧ a < n)
 else if k = 11 ∨ k = 13 then decide (fv ≤ a ∧ a < sl)
 else decide (0 ≤ k ∧ k ≤ 15)
def fldB (ar fv sl n at_ : Int) (was : Option (Int × Int)) (k a : Int) (t : Tm) (l : List Tm) (c : Bool) : Bool :=
 (z31 t || z0b t) && (insB ar fv sl n at_ was k a t && ((useA k || a == 0) && ((k == 14 || c) && ((if k = 5 then l.length == 2 else l.isEmpty) && ((if useT k = true then plB sl t else z31 t) && l.all (plB sl))))))
abbrev Pl := Bool × Int × Int
def z1l (l : List Pl) (at_ : Int) (p : Int × Int) : Option (List Pl) :=
 if at_ < (l.length : Int) then (if (l.getD at_.toNat (false, 0, 0)).1 = false then some (l.set at_.toNat (true, p)) else if l.getD at_.toNat (false, 0, 0) = (true, p) then some l else none) else none
def aftP (k : Int) (p : Int × Int) : Int × Int := if k = 11 then (p.1 + 1, p.2) else if k = 12 then (p.1 - 1, p.2) else if k = 14 then (p.1, p.2 + 1) else if k = 15 then (p.1, p.2 - 1) else p
def z7q (l : List Pl) (i k a : Int) : Option (List Pl) :=
 if (l.getD i.toNat (false, 0, 0)).1 = false then some l
 else if k = 3 ∨ k = 4 then (if (l.getD i.toNat (false, 0, 0)).2 = (0, 0) then some l else none)
 else if k = 8 then some l
 else if (aftP k (l.getD i.toNat (false, 0, 0)).2).1 < 0 ∨ (aftP k (l.getD i.toNat (false, 0, 0)).2).2 < 0 then none
 else if k = 9 ∨ k = 10 then
  match z1l l a (aftP k (l.getD i.toNat (false, 0, 0)).2) with
  | none => none
  | some l' => if k = 10 then some l' else z1l l' (i + 1) (aftP k (l.getD i.toNat (false, 0, 0)).2)
 else z1l l (i + 1) (aftP k (l.getD i.toNat (false, 0, 0)).2)
def z0j : List Pl → Int → List In1 → Bool
 | _, _, [] => true
 | l, i, x :: r => match z7q l i x.k x.a with | none => false | some l' => z0j l' (i + 1) r
def z8j (ins : List In1) : Bool := z0j ((List.replicate ins.length (false, 0, 0)).set 0 (true, 0, 0)) 0 ins
def zcp (ins : List In1) : Bool := match ins.getLast? with | none => false | some x => x.k == 3 || x.k == 4 || x.k == 8
mutual
def vC : Cd → Bool
 | .mk nm ar fr vs sl ins => nmB nm && (cntB ar fr vs sl && (zcp ins && (vIs ar (fr + vs) sl ins.length 0 none ins && z8j ins)))
def vIs (ar fv sl n : Int) : Int → Option (Int × Int) → List In1 → Bool
 | _, _, [] => true
 | at_, was, .mk k a t l c :: r => fldB ar fv sl n at_ was k a t l c.isEmpty && (vCs sl c && vIs ar fv sl n (at_ + 1) (some (k, a)) r)
def vCs (sl : Int) : List Cd → Bool
 | [] => true
 | c :: r => decide (c.fr ≤ sl) && (vC c && vCs sl r)
end
theorem zjg (sl : Int) : ∀ l : List Cd, vCs sl l = l.all fun c => decide (c.fr ≤ sl) && vC c
 | [] => rfl
 | c :: l => by rw [vCs, zjg sl l]; simp [Bool.and_assoc]
end Go.AM

set_option maxRecDepth 100000
open Go Go.Proofs
namespace Go.AM
mutual
def nIns : Cd → Int
 | .mk _ _ _ _ _ ins => (ins.length : Int) + nIs ins
def nIs : List In1 → Int
 | [] => 0
 | .mk _ _ _ _ c :: r => nCs c + nIs r
def nCs : List Cd → Int
 | [] => 0
 | c :: r => nIns c + nCs r
end
mutual
def mSl : Cd → Int → Int
 | .mk _ _ _ _ sl ins, n => mSlI ins (max n sl)
def mSlI : List In1 → Int → Int
 | [], n => n
 | .mk _ _ _ _ c :: r, n => mSlI r (mSlC c n)
def mSlC : List Cd → Int → Int
 | [], n => n
 | c :: r, n => mSlC r (mSl c n)
end
end Go.AM

set_option maxRecDepth 100000
open Go Go.Proofs
namespace Go.AM
def wordL : List (List UInt8) := [[117, 110, 105, 102, 121], [99, 111, 110, 115, 116], [99, 97, 108, 108], [108, 97, 115, 116], [112, 114, 111, 99, 101, 101, 100], [101, 113], [98, 117, 105, 108, 116, 105, 110], [99, 117, 116], [102, 97, 105, 108], [111, 114], [106, 117, 109, 112], [112, 105], [112, 111, 112], [115, 105, 103, 109, 97], [105, 109, 112, 111, 114, 116], [102, 111, 114, 103, 101, 116]]
def z4v (k : Int) : List UInt8 := if 0 ≤ k ∧ k < 16 then wordL.getD k.toNat [] else [63]
def dgF (n : Int) : List UInt8 := Lib.decDigits (max n 0).toNat
mutual
def txF : Cd → List UInt8
 | .mk nm ar fr vs sl ins => (nm ++ [47] ++ dgF ar ++ [32] ++ dgF fr ++ [32] ++ dgF vs ++ [32] ++ dgF sl ++ [10]) ++ txIs 0 ins
def txIs : Int → List In1 → List UInt8
 | _, [] => []
 | i, .mk k a _ _ c :: r => ([32] ++ dgF i ++ [32] ++ z4v k ++ (if useA k = true then [32] ++ dgF a else []) ++ [10]) ++ ((if k = 14 then txCs c else []) ++ txIs (i + 1) r)
def txCs : List Cd → List UInt8
 | [] => []
 | c :: r => txF c ++ txCs r
end
abbrev i64 (x : Int) : Prop := -9223372036854775808 ≤ x ∧ x ≤ 9223372036854775807
theorem dg_len : ∀ (k n : Nat), n < 10 ^ (k + 1) → (Lib.decDigits n).length ≤ k + 1
 | 0, n, h => by rw [Lib.decDigits, dif_pos (by simpa using h)]; simp
 | k + 1, n, h => by
  rw [Lib.decDigits]
  split
  · simp
  · rw [List.length_append]
    have := dg_len k (n / 10) (by rw [Nat.pow_succ] at h; omega)
    simp only [List.length_singleton]; omega
theorem z5z {n : Int} (h : n ≤ 9223372036854775807) : (dgF n).length ≤ 19 := dg_len 18 _ (by
 have : (max n 0).toNat ≤ 9223372036854775807 := by omega
 exact Nat.lt_of_le_of_lt this (by decide))
theorem word_len (k : Int) : (z4v k).length ≤ 8 := by
 unfold z4v
 split
 · rename_i h
   obtain ⟨m, rfl⟩ : ∃ m : Nat, k = m := ⟨k.toNat, by omega⟩
   rw [Int.toNat_natCast]
   have : m < 16 := by omega
   rcases m with _ | _ | _ | _ | _ | _ | _ | _ | _ | _ | _ | _ | _ | _ | _ | _ | m <;> first | decide | omega
 · decide
end Go.AM

set_option maxRecDepth 100000
open Go Go.Proofs
namespace Go.AM
theorem z9s (s : List UInt8) : AC Tryz.prog 14 [cs s] [] (cb (logB s)) [] := by
 refine AC.vc hP sh lv14 (Nat.le_refl _) (by simp) (by simp) (Eq.mpr (v14 ..) ?_)
 repeat' (refine z00 (fun _ => ?_) (fun _ => ?_))
 all_goals exact z01 (by simp_all [logB, logs])
def ixI (p : Int → Bool) : List Int → Nat → Int
 | [], _ => -1
 | t :: l, i => if p t = true then (i : Int) else ixI p l (i + 1)
theorem zii (p : Int → Bool) : ∀ (l : List Int) (i : Nat), decide (ixI p l i ≥ 0) = l.any p
 | [], _ => rfl
 | t :: l, i => by
  rw [ixI, List.any_cons]
  split
  · rename_i h; rw [h]; simp
  · rename_i h; rw [zii p l, show p t = false by simpa using h, Bool.false_or]
def cntN (n : Int) : Bool := decide (n < 0) || decide (n > 4096)
theorem zk7 (n : Int) : AC Tryz.prog 37 [ci n] [] (cb (cntN n)) [] := by
 refine AC.vc hP sh lv37 (Nat.le_refl _) (by simp) (by simp) (Eq.mpr (v37 ..) ?_)
 exact z00 (fun h => z01 (by rw [cntN, h]; rfl)) (fun h => z01 (by rw [cntN, h]; rfl))
theorem zk9 (b : List Int) : ∀ a : List Int, (a ++ b).length ≤ B → RPt Tryz.prog 63 0 (ci (ixI cntN b a.length)) [] 1 ⟨[(0, .c (.a (.fz (.sl false 1 (IR (a ++ b)))))), (1, .c (.fn (.func 37) [] [])), (7, ci (a ++ b).length), (8, ci a.length)], [], 0⟩ := by
 induction b with
 | nil =>
  intro a hs
  refine RPt.vc hP sh lv63 (Eq.mpr (z8w ..) ?_)
  exact z00 (fun h => absurd (of_decide_eq_true h) (by simp)) (fun _ => z2f rfl)
 | cons t b ihb =>
  intro a hs
  have h2 := ihb (a ++ [t]) (by simpa using hs)
  rw [ap, nx, show (a ++ [t]).length = a.length + 1 by simp] at h2
  rw [ixI]
  simp only [List.length_append, List.length_cons, B] at hs
  have h4 : (a.length : Int) < ((a ++ t :: b).length : Int) := by simp only [List.length_append, List.length_cons]; omega
  have em : List.getD (IR (a ++ t :: b)) (Int.toNat (a.length : Int)) [] = [.int .i64 t] := by simp [IR]
  refine RPt.vc hP sh lv63 (Eq.mpr (z8w ..) ?_)
  rw [w64 (by omega) (by omega), em]
  refine z00 (fun _ => ⟨⟨rfl, by omega, by simp only [IR, List.length_map]; exact h4, rfl⟩, _, zk7 t, z00 (fun h => ?_) (fun h => ?_)⟩) (fun h => absurd h4 (of_decide_eq_false h))
  · rw [if_pos h]; exact z2f rfl
  · rw [if_neg (by rw [h]; simp)]; exact h2
theorem c_ccount (l : List Int) (hl : l.length ≤ B) : AC Tryz.prog 15 [.c (.a (.fz (.sl false 1 (IR l))))] [] (cb (!l.any cntN)) [] := by
 have h := zk9 l [] hl
 have h1 : AC Tryz.prog 63 [.c (.a (.fz (.sl false 1 (IR l)))), .c (.fn (.func 37) [] [])] [] (ci (ixI cntN l 0)) [] := by
  refine AC.vc hP sh lv63 (Nat.le_refl _) (by simp) (by simp) (Eq.mpr (v63_F37 ..) ?_)
  rw [show (IR l).length = l.length by simp [IR]]
  exact ⟨rfl, h⟩
 have h2 : AC Tryz.prog 36 [.c (.a (.fz (.sl false 1 (IR l)))), .c (.fn (.func 37) [] [])] [] (cb (l.any cntN)) [] := by
  refine AC.vc hP sh lv36 (Nat.le_refl _) (by simp) (by simp) (Eq.mpr (v36_F37 ..) ?_)
  exact ⟨_, h1, z01 (zii cntN l 0)⟩
 refine AC.vc hP sh lv15 (Nat.le_refl _) (by simp) (by simp) (Eq.mpr (v15 ..) ?_)
 exact ⟨_, h2, z01 rfl⟩
def ixF (p : Tm → Bool) : List Tm → Nat → Int
 | [], _ => -1
 | t :: l, i => if p t = true then (i : Int) else ixF p l (i + 1)
theorem zes (p : Tm → Bool) : ∀ (l : List Tm) (i : Nat), decide (ixF p l i ≥ 0) = l.any p
 | [], _ => rfl
 | t :: l, i => by
  rw [ixF, List.any_cons]
  split
  · rename_i h; rw [h]; simp
  · rename_i h; rw [zes p l, show p t = false by simpa using h, Bool.false_or]
abbrev obN (n : Int) : AObj := .arr 1 [[.a (.fz (.int .i64 n))]]
abbrev obC (c : Cd) : AObj := .arr 6 [cCd c]
theorem zew (p : Tm → Bool) (n : Int) (b : List Tm) : ∀ a : List Tm, (a ++ b).length ≤ B → (∀ u ∈ b, AC Tryz.prog 67 [aT u, .c (.a (.ep 0 1 0 0))] [obN n] (cb (p u)) [obN n]) → RPt Tryz.prog 69 1 (ci (ixF p b a.length)) [obN n] 1 ⟨[(0, aL (a ++ b)), (1, .c (.fn (.func 67) [] [(false, [.ep 0 1 0 0])])), (7, ci (a ++ b).length), (8, ci a.length)], [(0, obN n)], 1⟩ := by
 induction b with
 | nil =>
  intro a hs _
  refine RPt.vc hP sh lv69 (Eq.mpr (z9n ..) ?_)
  exact z00 (fun h => absurd (of_decide_eq_true h) (by simp)) (fun _ => ⟨.refl _, rfl⟩)
 | cons t b ihb =>
  intro a hs ih
  have h3 := ltI' a t b
  have h1 := ih t List.mem_cons_self
  have h2 := ihb (a ++ [t]) (by simpa using hs) (fun u hu => ih u (List.mem_cons_of_mem _ hu))
  rw [ap, nx, show (a ++ [t]).length = a.length + 1 by simp] at h2
  rw [ixF]
  simp only [List.length_append, List.length_cons, B] at hs
  have h4 : (a.length : Int) < ((a ++ t :: b).length : Int) := by simp only [List.length_append, List.length_cons]; omega
  refine RPt.vc hP sh lv69 (Eq.mpr (z9n ..) ?_)
  rw [w64 (by omega) (by omega)]
  refine z00 (fun _ => ⟨⟨rfl, by omega, h3, zbo ..⟩, p t, by rw [zc5]; exact h1, z00 (fun h => ?_) (fun h => ?_)⟩) (fun h => absurd h4 (of_decide_eq_false h))
  · rw [if_pos h]; exact ⟨.refl _, rfl⟩
  · rw [if_neg (by rw [h]; simp)]; exact h2
theorem zcw (p : Tm → Bool) (n : Int) (l : List Tm) (hl : l.length ≤ B) (h : ∀ u ∈ l, AC Tryz.prog 67 [aT u, .c (.a (.ep 0 1 0 0))] [obN n] (cb (p u)) [obN n]) : AC Tryz.prog 43 [aL l, .c (.fn (.func 67) [] [(false, [.ep 0 1 0 0])])] [obN n] (cb (l.any p)) [obN n] := by
 have h0 := zew p n l [] hl h
 have h1 : AC Tryz.prog 69 [aL l, .c (.fn (.func 67) [] [(false, [.ep 0 1 0 0])])] [obN n] (ci (ixF p l 0)) [obN n] := by
  refine AC.vc hP sh lv69 (Nat.le_refl _) (by simp [isLive]) (by simp) (Eq.mpr (v69_F67 ..) ?_)
  rw [z03]
  exact ⟨rfl, h0⟩
 refine AC.vc hP sh lv43 (Nat.le_refl _) (by simp [isLive]) (by simp) (Eq.mpr (v43_F67 ..) ?_)
 exact ⟨_, h1, by rw [zes p l 0]; exact ⟨.refl _, rfl⟩⟩
theorem l_ixcodd (p : Tm → Bool) (c : Cd) (b : List Tm) : ∀ a : List Tm, (a ++ b).length ≤ B → (∀ u ∈ b, AC Tryz.prog 38 [aT u, .c (.a (.ep 0 6 0 0))] [obC c] (cb (p u)) [obC c]) → RPt Tryz.prog 69 1 (ci (ixF p b a.length)) [obC c] 1 ⟨[(0, aL (a ++ b)), (1, .c (.fn (.func 38) [] [(false, [.ep 0 6 0 0])])), (7, ci (a ++ b).length), (8, ci a.length)], [(0, obC c)], 1⟩ := by
 induction b with
 | nil =>
  intro a hs _
  refine RPt.vc hP sh lv69 (Eq.mpr (z9y ..) ?_)
  exact z00 (fun h => absurd (of_decide_eq_true h) (by simp)) (fun _ => ⟨.refl _, rfl⟩)
 | cons t b ihb =>
  intro a hs ih
  have h3 := ltI' a t b
  have h1 := ih t List.mem_cons_self
  have h2 := ihb (a ++ [t]) (by simpa using hs) (fun u hu => ih u (List.mem_cons_of_mem _ hu))
  rw [ap, nx, show (a ++ [t]).length = a.length + 1 by simp] at h2
  rw [ixF]
  simp only [List.length_append, List.length_cons, B] at hs
  have h4 : (a.length : Int) < ((a ++ t :: b).length : Int) := by simp only [List.length_append, List.length_cons]; omega
  refine RPt.vc hP sh lv69 (Eq.mpr (z9y ..) ?_)
  rw [w64 (by omega) (by omega)]
  refine z00 (fun _ => ⟨⟨rfl, by omega, h3, zbo ..⟩, p t, by rw [zc5]; exact h1, z00 (fun h => ?_) (fun h => ?_)⟩) (fun h => absurd h4 (of_decide_eq_false h))
  · rw [if_pos h]; exact ⟨.refl _, rfl⟩
  · rw [if_neg (by rw [h]; simp)]; exact h2
theorem zkh (p : Tm → Bool) (c : Cd) (l : List Tm) (hl : l.length ≤ B) (h : ∀ u ∈ l, AC Tryz.prog 38 [aT u, .c (.a (.ep 0 6 0 0))] [obC c] (cb (p u)) [obC c]) : AC Tryz.prog 43 [aL l, .c (.fn (.func 38) [] [(false, [.ep 0 6 0 0])])] [obC c] (cb (l.any p)) [obC c] := by
 have h0 := l_ixcodd p c l [] hl h
 have h1 : AC Tryz.prog 69 [aL l, .c (.fn (.func 38) [] [(false, [.ep 0 6 0 0])])] [obC c] (ci (ixF p l 0)) [obC c] := by
  refine AC.vc hP sh lv69 (Nat.le_refl _) (by simp [isLive]) (by simp) (Eq.mpr (v69_F38 ..) ?_)
  rw [z03]
  exact ⟨rfl, h0⟩
 refine AC.vc hP sh lv43 (Nat.le_refl _) (by simp [isLive]) (by simp) (Eq.mpr (v43_F38 ..) ?_)
 exact ⟨_, h1, by rw [zes p l 0]; exact ⟨.refl _, rfl⟩⟩
theorem zjd (f : Tm → Bool) (l : List Tm) : (!l.any fun t => !f t) = l.all f := by induction l with | nil => rfl | cons t l ih => rw [List.any_cons, List.all_cons, ← ih]; cases f t <;> simp
theorem c_cunder (n : Int) : ∀ t : Tm, t.sz ≤ B → AC Tryz.prog 41 [aT t, ci n] [] (cb (unF n t)) [] := by
 refine Tm.ind fun t ih hs => ?_
 have hl := Tm.szs_length t.l
 have he := t.sz_eq
 have hk : ∀ u ∈ t.l, AC Tryz.prog 67 [aT u, .c (.a (.ep 0 1 0 0))] [obN n] (cb (!unF n u)) [obN n] := fun u hu => by
  have h1 := ih u hu (by have := Tm.szs_mem hu; omega)
  refine AC.vc hP sh lv67 (Nat.le_refl _) (by simp [isLive]) (by simp) (Eq.mpr (v67 ..) ?_)
  exact ⟨_, h1, .refl _, rfl⟩
 have h2 := zcw (fun u => !unF n u) n t.l (by omega) hk
 refine AC.vc hP sh lv41 (Nat.le_refl _) (by simp) (by simp) (Eq.mpr (v41 ..) ?_)
 have e := zjd (unF n) t.l
 rw [unF_eq, ← e]
 refine z00 (fun h => z01 (by rw [h]; rfl)) (fun h => z00 (fun h' => z00 (fun q => z01 (by rw [h, h', q]; rfl)) (fun q => ⟨_, h2, z01 (by rw [h, h', q]; rfl)⟩)) (fun h' => ⟨_, h2, z01 (by rw [h, h']; rfl)⟩))
theorem zhq (t : Tm) : zba t (.mk 0 [] 0 []) = z31 t := by
 obtain ⟨k, s, n, l⟩ := t
 cases l with
 | nil => simp [zba, z8q, z31, Tm.k, Tm.s, Tm.n, Tm.l]
 | cons x l => simp [zba, z8q, z31, Tm.k, Tm.s, Tm.n, Tm.l]
theorem c_cempty (t : Tm) (hs : t.sz ≤ B) : AC Tryz.prog 42 [aT t] [] (cb (z31 t)) [] := by
 have h := (c_same t hs (.mk 0 [] 0 [])).args (args := [aT t, .agg [.a (.fz (.int .i64 0)), .a (.fz (.str [])), .a (.fz (.int .i64 0)), .a (.fz .nils)]]) ⟨.refl _, .agg _ _ rfl (fun i x y hx hy => by
  match i with
  | 0 => simp at hx hy; subst hx; subst hy; exact .refl _
  | 1 => simp at hx hy; subst hx; subst hy; exact .refl _
  | 2 => simp at hx hy; subst hx; subst hy; exact .refl _
  | 3 => simp at hx hy; subst hx; subst hy; exact .a _ _ (.fz _ _ leNil)
  | i + 4 => simp at hx), trivial⟩
 refine AC.vc hP sh lv42 (Nat.le_refl _) (by simp) (by simp) (Eq.mpr (v42 ..) ?_)
 exact ⟨_, h, z01 (zhq t)⟩
theorem c_codd (c : Cd) (t : Tm) (hs : t.sz ≤ B) (hb : bd 2305843009213693952 t) : AC Tryz.prog 38 [aT t, .c (.a (.ep 0 6 0 0))] [obC c] (cb (!plB c.sl t)) [obC c] := by
 have h1 := zif t hs
 have h2 := c_loose t hs hb
 have h3 := c_cunder c.sl t hs
 refine AC.vc hP sh lv38 (Nat.le_refl _) (by simp [isLive]) (by simp) (Eq.mpr (v38 ..) ?_)
 refine ⟨_, h1, z00 (fun h => ⟨?_, rfl⟩) (fun h => ⟨_, h2, z00 (fun q => ⟨?_, rfl⟩) (fun q => ⟨_, h3, ?_, rfl⟩)⟩)⟩
 · rw [plB, show z0b t = false by simpa using h]; exact .refl _
 · have : decide (z2d t 0 0 ≤ 0) = false := by have := of_decide_eq_true q; exact decide_eq_false (by omega)
   rw [plB, this, Bool.false_and, Bool.and_false]; exact .refl _
 · have : decide (z2d t 0 0 ≤ 0) = true := by have := of_decide_eq_false q; exact decide_eq_true (by omega)
   rw [plB, this, show z0b t = true by simpa using h]; exact .refl _
theorem c_anyOdd (c : Cd) (l : List Tm) (hl : l.length ≤ B) (hs : ∀ t ∈ l, t.sz ≤ B ∧ bd 2305843009213693952 t) : AC Tryz.prog 43 [aL l, .c (.fn (.func 38) [] [(false, [.ep 0 6 0 0])])] [obC c] (cb (!l.all (plB c.sl))) [obC c] := by
 have h := zkh (fun t => !plB c.sl t) c l hl (fun u hu => c_codd c u (hs u hu).1 (hs u hu).2)
 rw [← zjd, Bool.not_not]
 exact h
theorem c_chead (k : Int) : AC Tryz.prog 70 [ci k] [] (cb (k == 0 || k == 1)) [] := by
 refine AC.vc hP sh lv70 (Nat.le_refl _) (by simp) (by simp) (Eq.mpr (v70 ..) ?_)
 exact z00 (fun h => z01 (by rw [h]; rfl)) (fun h => z01 (by rw [h]; rfl))
theorem c_cpred (t : Tm) (hs : t.sz ≤ B) : AC Tryz.prog 71 [aT t] [] (cb (zgk t)) [] := by
 have h1 := zf0 t hs
 have h2 := z9s (z1a t).1.s
 refine AC.vc hP sh lv71 (Nat.le_refl _) (by simp) (by simp) (Eq.mpr (v71 ..) ?_)
 exact ⟨_, h1, z00 (fun h => ⟨_, h2, z01 (by rw [zgk, h]; rfl)⟩) (fun h => z01 (by rw [zgk, h]; rfl))⟩
theorem zjh (t : Tm) (hs : t.sz ≤ B) : AC Tryz.prog 72 [aT t] [] (cb (zia t)) [] := by
 have h1 := zf0 t hs
 refine AC.vc hP sh lv72 (Nat.le_refl _) (by simp) (by simp) (Eq.mpr (v72 ..) ?_)
 refine ⟨_, h1, ?_⟩
 rw [z03]
 have e2 : ((((z1a t).2.length : Nat) : Int) == 2) = ((z1a t).2.length == 2) := by rw [Bool.eq_iff_iff, beq_iff_eq, beq_iff_eq]; omega
 rw [e2]
 unfold zia numB nums
 generalize (z1a t).1.s = s
 generalize (z1a t).1.k = k
 generalize ((z1a t).2.length == 2) = b
 repeat' (first | refine z00 (fun _ => ?_) (fun _ => ?_) | refine And.intro (show FV.isSl 4 _ = true by rfl) ?_)
 all_goals exact z01 (by simp_all)
def aftR (k : Int) (p : Int × Int) : (Int × Int) × Bool × Bool :=
 if k = 3 ∨ k = 4 then (p, false, p.1 == 0 && p.2 == 0) else if k = 8 then (p, false, true) else (aftP k p, true, decide ((aftP k p).1 ≥ 0) && decide ((aftP k p).2 ≥ 0))
theorem z3o {a b : TV} (h : a = b) : TV.Le a b := by rw [h]; exact .refl _
theorem c_cafter (m : Bool) (p : Int × Int) (k : Int) (h1 : 0 - M61 ≤ p.1 ∧ p.1 ≤ M61) (h2 : 0 - M61 ≤ p.2 ∧ p.2 ≤ M61) : AC Tryz.prog 46 [.agg [.a (.fz (.bool m)), .a (.fz (.int .i64 p.1)), .a (.fz (.int .i64 p.2))], ci k] []
  (.tup [(true, [.a (.fz (.bool m)), .a (.fz (.int .i64 (aftR k p).1.1)), .a (.fz (.int .i64 (aftR k p).1.2))]), (false, [.a (.fz (.bool (aftR k p).2.1))]), (false, [.a (.fz (.bool (aftR k p).2.2))])]) [] := by
 obtain ⟨x, y⟩ := p
 simp only [M61] at h1 h2
 refine AC.vc hP sh lv46 (Nat.le_refl _) (by simp) (by simp) (Eq.mpr (v46 ..) ?_)
 rw [w64 (x := x + 1) (by omega) (by omega), w64 (x := x - 1) (by omega) (by omega), w64 (x := y + 1) (by omega) (by omega), w64 (x := y - 1) (by omega) (by omega)]
 unfold aftR aftP
 repeat' (refine z00 (fun _ => ?_) (fun _ => ?_))
 all_goals refine ret_r (z3o ?_)
 all_goals simp_all
 all_goals omega
end Go.AM

set_option maxRecDepth 100000
open Go Go.Proofs
namespace Go.AM
def pR (p : Pl) : List FV := [.bool p.1, .int .i64 p.2.1, .int .i64 p.2.2]
def PR (l : List Pl) : List (List FV) := l.map pR
theorem z1g (l : List Pl) : (PR l).length = l.length := by simp [PR]
theorem zd3 {l : List Pl} {i : Nat} (h : i < l.length) : List.getD (PR l) i [] = pR (l.getD i (false, 0, 0)) := by
 simp [PR, List.getD, List.getElem?_eq_getElem h]
theorem zfl (l : List Pl) (i : Nat) (p : Pl) : List.set (PR l) i (pR p) = PR (l.set i p) := by
 simp [PR, List.map_set]
abbrev obL (n : Nat) : AObj := .arr 1 [[.a (.osl 1 3 0 n)]]
theorem zi5 (l : List Pl) (i : Nat) (p : Int × Int) : AC Tryz.prog 45 [ci i, .agg [.a (.fz (.bool true)), .a (.fz (.int .i64 p.1)), .a (.fz (.int .i64 p.2))], .c (.a (.ep 0 1 0 0))] [obL l.length, .arz 3 (PR l)]
  (cb (z1l l i p).isSome) [obL l.length, .arz 3 (PR ((z1l l i p).getD l))] := by
 refine AC.vc hP sh lv45 (Nat.le_refl _) (by simp [isLive]) (by simp) (Eq.mpr (v45 ..) ?_)
 rw [Int.toNat_natCast, Nat.zero_add]
 refine z00 (fun h => ?_) (fun h => ?_)
 · have h := of_decide_eq_true h
   rw [z1l, if_neg (by omega)]
   exact ⟨.refl _, rfl⟩
 · have h := of_decide_eq_false h
   have hi : i < l.length := by omega
   have hn : (0 : Int) ≤ (i : Int) ∧ (i : Int) < ((l.length : Nat) : Int) := ⟨by omega, by omega⟩
   have e := zd3 hi
   rw [z1l, if_pos (by omega), Int.toNat_natCast]
   have e2 : List.set (PR l) i [.bool true, .int .i64 p.1, .int .i64 p.2] = PR (l.set i (true, p)) := zfl l i (true, p)
   have hi2 : i < (l.set i (true, p)).length := by simpa using hi
   have e3 := zd3 hi2
   rw [e2, e, e3]
   have e4 : (l.set i (true, p)).getD i (false, 0, 0) = (true, p) := by simp [List.getD, hi]
   rw [e4]
   generalize l.getD i (false, 0, 0) = q
   obtain ⟨m, x, y⟩ := q
   refine ⟨hn, ⟨by rw [z1g]; exact hi, rfl, rfl⟩, z00 (fun h1 => ?_) (fun h1 => ?_)⟩
   · have h1 : m = false := by simpa [pR, FV.asB] using h1
     subst h1
     refine ⟨hn, ⟨by rw [z1g]; exact hi, rfl⟩, hn, ⟨by rw [z1g]; exact hi2, rfl, rfl⟩, z3o ?_, rfl⟩
     simp [pR, FV.asB, FV.asI]
   · have h1 : m = true := by simpa [pR, FV.asB] using h1
     subst h1
     refine ⟨hn, ⟨by rw [z1g]; exact hi, rfl, rfl⟩, ?_⟩
     by_cases hq : ((true, x, y) : Pl) = (true, p)
     · rw [if_neg (by simp), if_pos hq]
       obtain ⟨_, rfl⟩ := Prod.mk.inj hq
       exact ⟨z3o (by simp [pR, FV.asB, FV.asI]), rfl⟩
     · rw [if_neg (by simp), if_neg hq]
       refine ⟨z3o ?_, rfl⟩
       obtain ⟨p1, p2⟩ := p
       simp [pR, FV.asB, FV.asI] at hq ⊢
       exact hq
theorem z7g {l l' : List Pl} {i : Int} {p : Int × Int} (h : z1l l i p = some l') : l'.length = l.length ∧ ∀ q ∈ l', q ∈ l ∨ q = (true, p) := by
 unfold z1l at h
 split at h
 · split at h
   · injection h with h
     subst h
     exact ⟨by simp, fun q hq => by rcases List.mem_or_eq_of_mem_set hq with h | h; exact .inl h; exact .inr h⟩
   · split at h
     · injection h with h
       subst h
       exact ⟨rfl, fun q hq => .inl hq⟩
     · cases h
 · cases h
theorem zf1 {l : List Pl} {i k a : Int} (h : (l.getD i.toNat (false, 0, 0)).1 = false) : z7q l i k a = some l := by rw [z7q, if_pos h]
theorem zd {l : List Pl} {i k a : Int} (h : (l.getD i.toNat (false, 0, 0)).1 = true) : z7q l i k a =
  if (aftR k (l.getD i.toNat (false, 0, 0)).2).2.2 = false then none else if (aftR k (l.getD i.toNat (false, 0, 0)).2).2.1 = false then some l
  else if k = 9 ∨ k = 10 then (match z1l l a (aftR k (l.getD i.toNat (false, 0, 0)).2).1 with
   | none => none
   | some l' => if k = 10 then some l' else z1l l' (i + 1) (aftR k (l.getD i.toNat (false, 0, 0)).2).1)
  else z1l l (i + 1) (aftR k (l.getD i.toNat (false, 0, 0)).2).1 := by
 rw [z7q, if_neg (by rw [h]; simp)]
 generalize (l.getD i.toNat (false, 0, 0)).2 = p
 obtain ⟨x, y⟩ := p
 unfold aftR
 by_cases h1 : k = 3 ∨ k = 4
 · rw [if_pos h1, if_pos h1]
   by_cases h2 : ((x, y) : Int × Int) = (0, 0)
   · rw [if_pos h2]; injection h2 with a b; subst a; subst b; rfl
   · rw [if_neg h2]
     have : (x == 0 && y == 0) = false := by
      rw [Bool.and_eq_false_iff]
      by_cases hx : x = 0
      · right; subst hx; simpa using h2
      · left; simpa using hx
     rw [if_pos this]
 rw [if_neg h1, if_neg h1]
 by_cases h2 : k = 8
 · rw [if_pos h2, if_pos h2]; rfl
 rw [if_neg h2, if_neg h2]
 by_cases h3 : (aftP k (x, y)).1 < 0 ∨ (aftP k (x, y)).2 < 0
 · have e : (decide ((aftP k (x, y)).1 ≥ 0) && decide ((aftP k (x, y)).2 ≥ 0)) = false := by
    simp only [Bool.and_eq_false_iff, decide_eq_false_iff_not]; omega
   rw [if_pos h3]
   dsimp only
   rw [e, if_pos rfl]
 · have e : (decide ((aftP k (x, y)).1 ≥ 0) && decide ((aftP k (x, y)).2 ≥ 0)) = true := by
    simp only [Bool.and_eq_true, decide_eq_true_eq]; omega
   rw [if_neg h3]
   dsimp only
   rw [e]
   simp only [Bool.true_eq_false, if_false]
   try rfl
theorem aft_bd {k : Int} {p : Int × Int} {n : Int} (h1 : 0 ≤ p.1 ∧ p.1 ≤ n) (h2 : 0 ≤ p.2 ∧ p.2 ≤ n) (hn : 0 ≤ n) (hk : (aftR k p).2.2 = true) : (0 ≤ (aftR k p).1.1 ∧ (aftR k p).1.1 ≤ n + 1) ∧ 0 ≤ (aftR k p).1.2 ∧ (aftR k p).1.2 ≤ n + 1 := by
 unfold aftR at hk ⊢
 split
 · simp only; omega
 split
 · simp only; omega
 rename_i q1 q2
 rw [if_neg q1, if_neg q2] at hk
 simp only [Bool.and_eq_true, decide_eq_true_eq] at hk ⊢
 unfold aftP at hk ⊢
 split <;> (try split) <;> (try split) <;> (try split) <;> simp_all <;> omega
abbrev fnM : TV := .c (.fn (.func 45) [] [(false, [.ep 0 1 0 0])])
theorem zj4 (ins : List In1) (hB : ins.length ≤ B) : ∀ (b a : List In1) (l : List Pl), ins = a ++ b → l.length = ins.length → (∀ x ∈ b, (x.k = 9 ∨ x.k = 10) → 0 ≤ x.a ∧ x.a ≤ B) →
  (∀ q ∈ l, (0 ≤ q.2.1 ∧ q.2.1 ≤ a.length) ∧ 0 ≤ q.2.2 ∧ q.2.2 ≤ a.length) →
  RPt Tryz.prog 17 0 (cb (z0j l a.length b)) [] 1 ⟨[(3, .c (.a (.ep 0 1 0 0))), (4, fnM), (22, .c (.a (.fz (.sl false 8 (FIs ins))))), (23, ci ins.length), (24, ci a.length)], [(0, obL l.length), (1, .arz 3 (PR l))], 2⟩
 | [], a, l, hx, hl, _, _ => by
  refine RPt.vc hP sh lv17 (Eq.mpr (v17_1a ..) ?_)
  refine z00 (fun h => absurd (of_decide_eq_true h) ?_) (fun _ => z01 rfl)
  rw [hx]; simp
 | x :: b, a, l, hx, hl, ha, hq => by
  have hla : a.length < l.length := by rw [hl, hx]; simp
  have hlt : (a.length : Int) < (ins.length : Int) := by omega
  simp only [B] at hB
  have next : ∀ l' : List Pl, l'.length = l.length → (∀ q ∈ l', (0 ≤ q.2.1 ∧ q.2.1 ≤ (a.length : Int) + 1) ∧ 0 ≤ q.2.2 ∧ q.2.2 ≤ (a.length : Int) + 1) → z7q l a.length x.k x.a = some l' →
    RPt Tryz.prog 17 0 (cb (z0j l a.length (x :: b))) [] 1 ⟨[(3, .c (.a (.ep 0 1 0 0))), (4, fnM), (22, .c (.a (.fz (.sl false 8 (FIs ins))))), (23, ci ins.length), (24, ci ((a.length : Int) + 1))], [(0, obL l.length), (1, .arz 3 (PR l'))], 2⟩ := fun l' h1 h2 h3 => by
   have := zj4 ins (by simp only [B]; omega) b (a ++ [x]) l' (by rw [hx]; simp) (by rw [h1, hl]) (fun y hy => ha y (List.mem_cons_of_mem _ hy)) (fun q hm => by
    have := h2 q hm
    simp only [List.length_append, List.length_singleton]
    omega)
   rw [nx, h1] at this
   rw [z0j, h3]
   exact this
  have em : List.getD (FIs ins) (Int.toNat (a.length : Int)) [] = FI x := by rw [hx]; exact z30 a x b
  have eq0 := zd3 hla
  refine RPt.vc hP sh lv17 (Eq.mpr (v17_1a ..) ?_)
  rw [w64 (x := (a.length : Int) + 1) (by omega) (by omega), em, FI0, FI1, Int.toNat_natCast, Nat.zero_add, eq0]
  have hmem : l.getD a.length (false, 0, 0) ∈ l := by simp [List.getD, List.getElem?_eq_getElem hla]
  have hbd := hq _ hmem
  have sno := zf1 (l := l) (i := (a.length : Int)) (k := x.k) (a := x.a)
  have syes := zd (l := l) (i := (a.length : Int)) (k := x.k) (a := x.a)
  rw [Int.toNat_natCast] at sno syes
  generalize l.getD a.length (false, 0, 0) = q at *
  obtain ⟨m, p⟩ := q
  simp only at hbd sno syes
  have hn : (0 : Int) ≤ (a.length : Int) ∧ (a.length : Int) < ((l.length : Nat) : Int) := ⟨by omega, by omega⟩
  have hgrow : ∀ q ∈ l, (0 ≤ q.2.1 ∧ q.2.1 ≤ (a.length : Int) + 1) ∧ 0 ≤ q.2.2 ∧ q.2.2 ≤ (a.length : Int) + 1 := fun q hm => by have := hq q hm; omega
  refine z00 (fun _ => ⟨⟨rfl, by omega, by rw [z02]; exact hlt, by rw [← FI0 x, ← FI1 x]; exact fIr_FI x⟩, hn, ⟨by rw [z1g]; exact hla, rfl, rfl⟩, z00 (fun h1 => ?_) (fun h1 => ?_)⟩) (fun h => absurd hlt (of_decide_eq_false h))
  · exact next l rfl hgrow (sno (by simpa [pR, FV.asB] using h1))
  have h1 : m = true := by simpa [pR, FV.asB] using h1
  subst h1
  have hs := syes rfl
  have hc := c_cafter true p x.k (by simp only [M61]; omega) (by simp only [M61]; omega)
  refine ⟨hn, ⟨by rw [z1g]; exact hla, rfl, rfl⟩, true, (aftR x.k p).1.1, (aftR x.k p).1.2, (aftR x.k p).2.1, (aftR x.k p).2.2, hc, ?_⟩
  have none_no : z7q l a.length x.k x.a = none → TV.Le (cb false) (cb (z0j l a.length (x :: b))) ∧ ([] : List AObj) = [] := fun h => z01 (by rw [z0j, h])
  refine z00 (fun h2 => ?_) (fun h2 => ?_)
  · exact none_no (by rw [hs, if_pos (by simpa using h2)])
  have h2 : (aftR x.k p).2.2 = true := by simpa using h2
  rw [if_neg (by rw [h2]; simp)] at hs
  have hb2 := aft_bd hbd.1 hbd.2 (by omega) h2
  have hm1 : ∀ (l1 l2 : List Pl) (i : Int), (∀ q ∈ l1, (0 ≤ q.2.1 ∧ q.2.1 ≤ (a.length : Int) + 1) ∧ 0 ≤ q.2.2 ∧ q.2.2 ≤ (a.length : Int) + 1) → z1l l1 i (aftR x.k p).1 = some l2 → l2.length = l1.length ∧ ∀ q ∈ l2, (0 ≤ q.2.1 ∧ q.2.1 ≤ (a.length : Int) + 1) ∧ 0 ≤ q.2.2 ∧ q.2.2 ≤ (a.length : Int) + 1 := fun l1 l2 i h3 h4 => by
   have := z7g h4
   refine ⟨this.1, fun q hm => ?_⟩
   rcases this.2 q hm with h | h
   · exact h3 q h
   · rw [h]; exact hb2
  have hN : ∀ (l1 : List Pl), (((a.length : Nat) : Int) + 1) = ((a.length + 1 : Nat) : Int) := fun _ => by omega
  have go2 : ∀ l1 : List Pl, l1.length = l.length → (∀ q ∈ l1, (0 ≤ q.2.1 ∧ q.2.1 ≤ (a.length : Int) + 1) ∧ 0 ≤ q.2.2 ∧ q.2.2 ≤ (a.length : Int) + 1) → z7q l a.length x.k x.a = z1l l1 ((a.length : Int) + 1) (aftR x.k p).1 →
    ∃ z : Bool × List (List FV), AC Tryz.prog 45 [ci ((a.length : Int) + 1), .agg [.a (.fz (.bool true)), .a (.fz (.int .i64 (aftR x.k p).1.1)), .a (.fz (.int .i64 (aftR x.k p).1.2))], .c (.a (.ep 0 1 0 0))] [obL l.length, .arz 3 (PR l1)] (cb z.1) [obL l.length, .arz 3 z.2] ∧
     br (!z.1) (TV.Le (cb false) (cb (z0j l a.length (x :: b))) ∧ ([] : List AObj) = [])
      (RPt Tryz.prog 17 0 (cb (z0j l a.length (x :: b))) [] 1 ⟨[(3, .c (.a (.ep 0 1 0 0))), (4, fnM), (22, .c (.a (.fz (.sl false 8 (FIs ins))))), (23, ci ins.length), (24, ci ((a.length : Int) + 1))], [(0, obL l.length), (1, .arz 3 z.2)], 2⟩) := fun l1 e1 h3 h4 => by
   have hc2 := zi5 l1 (a.length + 1) (aftR x.k p).1
   rw [e1, ← hN l1] at hc2
   refine ⟨(_, _), hc2, z00 (fun h => none_no ?_) (fun h => ?_)⟩
   · rw [h4]
     cases hm : z1l l1 ((a.length : Int) + 1) (aftR x.k p).1 with
     | none => rfl
     | some l2 => rw [hm] at h; cases h
   · cases hm : z1l l1 ((a.length : Int) + 1) (aftR x.k p).1 with
     | none => rw [hm] at h; cases h
     | some l2 =>
      have h5 := hm1 l1 l2 _ h3 hm
      exact next l2 (by rw [h5.1, e1]) h5.2 (by rw [h4, hm])
  cases ho : (aftR x.k p).2.1 with
  | false =>
   rw [if_pos ho] at hs
   have := next l rfl hgrow hs
   refine z00 (fun _ => ?_) (fun _ => ?_)
   · exact this
   · exact this
  | true =>
   rw [if_neg (by rw [ho]; simp)] at hs
   by_cases hk : x.k = 9 ∨ x.k = 10
   · rw [if_pos hk] at hs
     have hxa := ha x List.mem_cons_self hk
     obtain ⟨j, hj⟩ : ∃ j : Nat, x.a = j := ⟨x.a.toNat, by omega⟩
     have hc2 := zi5 l j (aftR x.k p).1
     rw [← hj] at hc2
     have key : ∃ z : Bool × List (List FV), AC Tryz.prog 45 [ci x.a, .agg [.a (.fz (.bool true)), .a (.fz (.int .i64 (aftR x.k p).1.1)), .a (.fz (.int .i64 (aftR x.k p).1.2))], .c (.a (.ep 0 1 0 0))] [obL l.length, .arz 3 (PR l)] (cb z.1) [obL l.length, .arz 3 z.2] ∧
      br (!z.1) (TV.Le (cb false) (cb (z0j l a.length (x :: b))) ∧ ([] : List AObj) = [])
       (br (x.k != 10) (∃ z7 : Bool × List (List FV), AC Tryz.prog 45 [ci ((a.length : Int) + 1), .agg [.a (.fz (.bool true)), .a (.fz (.int .i64 (aftR x.k p).1.1)), .a (.fz (.int .i64 (aftR x.k p).1.2))], .c (.a (.ep 0 1 0 0))] [obL l.length, .arz 3 z.2] (cb z7.1) [obL l.length, .arz 3 z7.2] ∧
        br (!z7.1) (TV.Le (cb false) (cb (z0j l a.length (x :: b))) ∧ ([] : List AObj) = [])
         (RPt Tryz.prog 17 0 (cb (z0j l a.length (x :: b))) [] 1 ⟨[(3, .c (.a (.ep 0 1 0 0))), (4, fnM), (22, .c (.a (.fz (.sl false 8 (FIs ins))))), (23, ci ins.length), (24, ci ((a.length : Int) + 1))], [(0, obL l.length), (1, .arz 3 z7.2)], 2⟩))
        (RPt Tryz.prog 17 0 (cb (z0j l a.length (x :: b))) [] 1 ⟨[(3, .c (.a (.ep 0 1 0 0))), (4, fnM), (22, .c (.a (.fz (.sl false 8 (FIs ins))))), (23, ci ins.length), (24, ci ((a.length : Int) + 1))], [(0, obL l.length), (1, .arz 3 z.2)], 2⟩)) := by
      refine ⟨(_, _), hc2, z00 (fun h => none_no ?_) (fun h => ?_)⟩
      · cases hm : z1l l x.a (aftR x.k p).1 with
        | none => rw [hm] at hs; exact hs
        | some l2 => rw [hm] at h; cases h
      · cases hm : z1l l x.a (aftR x.k p).1 with
        | none => rw [hm] at h; cases h
        | some l2 =>
         rw [hm] at hs
         simp only at hs
         have h5 := hm1 l l2 _ hgrow hm
         refine z00 (fun h6 => ?_) (fun h6 => ?_)
         · rw [if_neg (by simpa using h6)] at hs
           exact go2 l2 h5.1 h5.2 hs
         · rw [if_pos (by simpa using h6)] at hs
           exact next l2 h5.1 h5.2 hs
     refine z00 (fun h9 => ?_) (fun h9 => ?_)
     · exact key
     · have h10 : (x.k == 10) = true := by
        rcases hk with h | h
        · rw [h] at h9; cases h9
        · rw [h]; rfl
       rw [h10]
       exact key
   · rw [if_neg hk] at hs
     have h9 : (x.k == 9) = false := by simp only [beq_eq_false_iff_ne]; exact fun h => hk (.inl h)
     have h10 : (x.k == 10) = false := by simp only [beq_eq_false_iff_ne]; exact fun h => hk (.inr h)
     have h11 : (x.k != 10) = true := by rw [bne, h10]; rfl
     rw [h9, h10, h11]
     exact go2 l rfl hgrow hs
theorem c_cways (c : Cd) (hB : c.ins.length ≤ B) (h0 : 0 < c.ins.length) (ha : ∀ x ∈ c.ins, (x.k = 9 ∨ x.k = 10) → 0 ≤ x.a ∧ x.a ≤ B) : AC Tryz.prog 17 [aC c] [] (cb (z8j c.ins)) [] := by
 have h := zj4 c.ins hB c.ins [] ((List.replicate c.ins.length (false, 0, 0)).set 0 (true, 0, 0)) rfl (by simp) ha (fun q hq => by
  rcases List.mem_or_eq_of_mem_set hq with h | h
  · rw [(List.mem_replicate.1 h).2]; simp
  · rw [h]; simp)
 have e : PR ((List.replicate c.ins.length (false, 0, 0)).set 0 (true, 0, 0)) = List.set (List.replicate (Int.toNat (((FIs c.ins).length : Nat) : Int)) [.bool false, .int .i64 0, .int .i64 0]) 0 (z2p (List.getD (List.replicate (Int.toNat (((FIs c.ins).length : Nat) : Int)) [.bool false, .int .i64 0, .int .i64 0]) 0 []) 0 [.bool true]) := by
  rw [← zfl, Int.toNat_natCast, z02]
  have : List.getD (List.replicate c.ins.length [FV.bool false, .int .i64 0, .int .i64 0]) 0 [] = [.bool false, .int .i64 0, .int .i64 0] := by simp [List.getD, h0]
  rw [this]
  simp [PR, pR, z2p]
 rw [e] at h
 simp only [B] at hB
 have hl : ((FIs c.ins).length : Int) = (c.ins.length : Int) := by rw [z02]
 refine AC.vc hP sh lv17 (Nat.le_refl _) (by simp) (by simp) (Eq.mpr (v17 ..) ?_)
 refine ⟨rfl, ⟨rfl, by omega, rfl, by omega, by omega, ?_⟩, ⟨by omega, ?_⟩, ⟨?_, ?_⟩, rfl, ?_⟩
 · unfold z2s; rw [Int.toNat_natCast, z02]; omega
 · rw [Int.toNat_natCast, z02]; omega
 · rw [List.length_replicate, Int.toNat_natCast, z02]; exact h0
 · rw [Int.toNat_natCast, z02]; simp [List.getD, h0]
 · have hn : ((List.replicate c.ins.length ((false, 0, 0) : Pl)).set 0 (true, 0, 0)).length = Int.toNat (((FIs c.ins).length : Nat) : Int) := by simp [z02]
   rw [hn, ← hl] at h
   exact h
end Go.AM
