/- A calculus of plain values for the model's code, what the code of each function asks (computed by the kernel), contracts of the functions, and plain laws (part 5). No conditions. -/
import Derived.Test.YtmeolnpbbhinjaaDoorPart4
import Derived.Test.YtmeolnpbbhinjaaDoorShelf
import Derived.Test.YtmeolnpbbhinjaaDoorPart3
import Derived.Test.YtmeolnpbbhinjaaDoorCards
import Derived.Test.YtmeolnpbbhinjaaDoorTie
import Derived.Deep.DeepHandedRow
set_option maxRecDepth 100000
open Go Go.Proofs
namespace Go.AM
def lv31 : List (Nat × List Nat) := []
theorem v31 (k : Int) (r : TV) (Hs' : List AObj) : vcE Tryd.prog sh lv31 31 [(.c (.a (.fz (.int .i64 k))))] [] (fun r0 Hs0 => TV.Le r0 r ∧ Hs0 = Hs') (RPt Tryd.prog 31 0 r Hs') =
  (br (decide ((k : Int) < (0 : Int))) (TV.Le (.c (.a (.fz (.str [63])))) r ∧ [] = Hs') (br (decide ((k : Int) ≥ (16 : Int))) (TV.Le (.c (.a (.fz (.str [63])))) r ∧ [] = Hs') ((0 ≤ k ∧ k < ((16 : Nat) : Int)) ∧ ((((0 + (Int.toNat k)) < 16) ∧ ((([(.str (FV.asS (List.getD (List.getD [[(.str [117, 110, 105, 102, 121])], [(.str [99, 111, 110, 115, 116])], [(.str [99, 97, 108, 108])], [(.str [108, 97, 115, 116])], [(.str [112, 114, 111, 99, 101, 101, 100])], [(.str [101, 113])], [(.str [98, 117, 105, 108, 116, 105, 110])], [(.str [99, 117, 116])], [(.str [102, 97, 105, 108])], [(.str [111, 114])], [(.str [106, 117, 109, 112])], [(.str [112, 105])], [(.str [112, 111, 112])], [(.str [115, 105, 103, 109, 97])], [(.str [105, 109, 112, 111, 114, 116])], [(.str [102, 111, 114, 103, 101, 116])]] (0 + (Int.toNat k)) []) 0 FV.nils)))] : List FV) = (List.take 1 (List.drop 0 (List.getD [[(.str [117, 110, 105, 102, 121])], [(.str [99, 111, 110, 115, 116])], [(.str [99, 97, 108, 108])], [(.str [108, 97, 115, 116])], [(.str [112, 114, 111, 99, 101, 101, 100])], [(.str [101, 113])], [(.str [98, 117, 105, 108, 116, 105, 110])], [(.str [99, 117, 116])], [(.str [102, 97, 105, 108])], [(.str [111, 114])], [(.str [106, 117, 109, 112])], [(.str [112, 105])], [(.str [112, 111, 112])], [(.str [115, 105, 103, 109, 97])], [(.str [105, 109, 112, 111, 114, 116])], [(.str [102, 111, 114, 103, 101, 116])]] (0 + (Int.toNat k)) [])))) ∧ ((1 : Nat) = 1))) ∧ (TV.Le (.c (.a (.fz (.str (FV.asS (List.getD (List.getD [[(.str [117, 110, 105, 102, 121])], [(.str [99, 111, 110, 115, 116])], [(.str [99, 97, 108, 108])], [(.str [108, 97, 115, 116])], [(.str [112, 114, 111, 99, 101, 101, 100])], [(.str [101, 113])], [(.str [98, 117, 105, 108, 116, 105, 110])], [(.str [99, 117, 116])], [(.str [102, 97, 105, 108])], [(.str [111, 114])], [(.str [106, 117, 109, 112])], [(.str [112, 105])], [(.str [112, 111, 112])], [(.str [115, 105, 103, 109, 97])], [(.str [105, 109, 112, 111, 114, 116])], [(.str [102, 111, 114, 103, 101, 116])]] (0 + (Int.toNat k)) []) 0 FV.nils)))))) r ∧ [] = Hs'))))) := by kernel_rfl
def lv32 : List (Nat × List Nat) := [(1, [1, 2, 15, 16, 17])]
theorem v32_F33 (s1 : List (List FV)) (s2 : List (List FV)) (r : TV) (Hs' : List AObj) : vcE Tryd.prog sh lv32 32 [(.c (.a (.fz (.sl false 8 s1)))), (.c (.a (.fz (.sl false 8 s2)))), (.c (.fn (.func 33) [] []))] [] (fun r0 Hs0 => TV.Le r0 r ∧ Hs0 = Hs') (RPt Tryd.prog 32 0 r Hs') =
  ((FV.isSl 8 (.sl false 8 s1) = true) ∧ ((FV.isSl 8 (.sl false 8 s2) = true) ∧ (br (((((List.length s1) : Nat) : Int) : Int) != (((List.length s2) : Nat) : Int)) (TV.Le (.c (.a (.fz (.bool false)))) r ∧ [] = Hs') ((FV.isSl 8 (.sl false 8 s1) = true) ∧ (RPt Tryd.prog 32 0 r Hs' 1 ⟨[(1, (.c (.a (.fz (.sl false 8 s2))))), (2, (.c (.fn (.func 33) [] []))), (15, (.c (.a (.fz (.sl false 8 s1))))), (16, (.c (.a (.fz (.int .i64 (((List.length s1) : Nat) : Int)))))), (17, (.c (.a (.fz (.int .i64 (0 : Int))))))], [], 0⟩))))) := by kernel_rfl
theorem z98 (x1 : List (List FV)) (x15 : List (List FV)) (x16 : Int) (x17 : Int) (r : TV) (Hs' : List AObj) : vcP Tryd.prog sh lv32 32 0 (fun r0 Hs0 => TV.Le r0 r ∧ Hs0 = Hs') (RPt Tryd.prog 32 0 r Hs') 1 ⟨[(1, (.c (.a (.fz (.sl false 8 x1))))), (2, (.c (.fn (.func 33) [] []))), (15, (.c (.a (.fz (.sl false 8 x15))))), (16, (.c (.a (.fz (.int .i64 x16))))), (17, (.c (.a (.fz (.int .i64 x17)))))], [], 0⟩ =
  (br (decide ((x17 : Int) < x16)) (((FV.isSl 8 (.sl false 8 x15) = true) ∧ ((0 ≤ x17) ∧ ((x17 < (((List.length x15) : Nat) : Int)) ∧ (([(.int .i64 (FV.asI (List.getD (List.getD x15 (Int.toNat x17) []) 0 FV.nils))), (.int .i64 (FV.asI (List.getD (List.getD x15 (Int.toNat x17) []) 1 FV.nils))), (.int .i64 (FV.asI (List.getD (List.getD x15 (Int.toNat x17) []) 2 FV.nils))), (.str (FV.asS (List.getD (List.getD x15 (Int.toNat x17) []) 3 FV.nils))), (.int .i64 (FV.asI (List.getD (List.getD x15 (Int.toNat x17) []) 4 FV.nils))), (List.getD (List.getD x15 (Int.toNat x17) []) 5 FV.nils), (List.getD (List.getD x15 (Int.toNat x17) []) 6 FV.nils), (List.getD (List.getD x15 (Int.toNat x17) []) 7 FV.nils)] : List FV) = (List.getD x15 (Int.toNat x17) []))))) ∧ (((FV.isSl 8 (.sl false 8 x1) = true) ∧ ((0 ≤ x17) ∧ ((x17 < (((List.length x1) : Nat) : Int)) ∧ (([(.int .i64 (FV.asI (List.getD (List.getD x1 (Int.toNat x17) []) 0 FV.nils))), (.int .i64 (FV.asI (List.getD (List.getD x1 (Int.toNat x17) []) 1 FV.nils))), (.int .i64 (FV.asI (List.getD (List.getD x1 (Int.toNat x17) []) 2 FV.nils))), (.str (FV.asS (List.getD (List.getD x1 (Int.toNat x17) []) 3 FV.nils))), (.int .i64 (FV.asI (List.getD (List.getD x1 (Int.toNat x17) []) 4 FV.nils))), (List.getD (List.getD x1 (Int.toNat x17) []) 5 FV.nils), (List.getD (List.getD x1 (Int.toNat x17) []) 6 FV.nils), (List.getD (List.getD x1 (Int.toNat x17) []) 7 FV.nils)] : List FV) = (List.getD x1 (Int.toNat x17) []))))) ∧ (∃ b1 : Bool, ((AC Tryd.prog 33 [(.agg [(.a (.fz (.int .i64 (FV.asI (List.getD (List.getD x15 (Int.toNat x17) []) 0 FV.nils))))), (.a (.fz (.int .i64 (FV.asI (List.getD (List.getD x15 (Int.toNat x17) []) 1 FV.nils))))), (.a (.fz (.int .i64 (FV.asI (List.getD (List.getD x15 (Int.toNat x17) []) 2 FV.nils))))), (.a (.fz (.str (FV.asS (List.getD (List.getD x15 (Int.toNat x17) []) 3 FV.nils))))), (.a (.fz (.int .i64 (FV.asI (List.getD (List.getD x15 (Int.toNat x17) []) 4 FV.nils))))), (.a (.fz (List.getD (List.getD x15 (Int.toNat x17) []) 5 FV.nils))), (.a (.fz (List.getD (List.getD x15 (Int.toNat x17) []) 6 FV.nils))), (.a (.fz (List.getD (List.getD x15 (Int.toNat x17) []) 7 FV.nils)))]), (.agg [(.a (.fz (.int .i64 (FV.asI (List.getD (List.getD x1 (Int.toNat x17) []) 0 FV.nils))))), (.a (.fz (.int .i64 (FV.asI (List.getD (List.getD x1 (Int.toNat x17) []) 1 FV.nils))))), (.a (.fz (.int .i64 (FV.asI (List.getD (List.getD x1 (Int.toNat x17) []) 2 FV.nils))))), (.a (.fz (.str (FV.asS (List.getD (List.getD x1 (Int.toNat x17) []) 3 FV.nils))))), (.a (.fz (.int .i64 (FV.asI (List.getD (List.getD x1 (Int.toNat x17) []) 4 FV.nils))))), (.a (.fz (List.getD (List.getD x1 (Int.toNat x17) []) 5 FV.nils))), (.a (.fz (List.getD (List.getD x1 (Int.toNat x17) []) 6 FV.nils))), (.a (.fz (List.getD (List.getD x1 (Int.toNat x17) []) 7 FV.nils)))])] [] (.c (.a (.fz (.bool b1)))) []) ∧ (br (!b1) (TV.Le (.c (.a (.fz (.bool false)))) r ∧ [] = Hs') (RPt Tryd.prog 32 0 r Hs' 1 ⟨[(1, (.c (.a (.fz (.sl false 8 x1))))), (2, (.c (.fn (.func 33) [] []))), (15, (.c (.a (.fz (.sl false 8 x15))))), (16, (.c (.a (.fz (.int .i64 x16))))), (17, (.c (.a (.fz (.int .i64 (IntKind.wrap .i64 (x17 + (1 : Int))))))))], [], 0⟩)))))) (TV.Le (.c (.a (.fz (.bool true)))) r ∧ [] = Hs')) := by kernel_rfl
def lv34 : List (Nat × List Nat) := [(1, [2, 3, 5])]
theorem v34 (a_0 : Int) (a_1 : List UInt8) (a_2 : Int) (a_3 : List (List FV)) (b_0 : Int) (b_1 : List UInt8) (b_2 : Int) (b_3 : List (List FV)) (r : TV) (Hs' : List AObj) : vcE Tryd.prog sh lv34 34 [(.agg [(.a (.fz (.int .i64 a_0))), (.a (.fz (.str a_1))), (.a (.fz (.int .i64 a_2))), (.a (.fz (.sl false 4 a_3)))]), (.agg [(.a (.fz (.int .i64 b_0))), (.a (.fz (.str b_1))), (.a (.fz (.int .i64 b_2))), (.a (.fz (.sl false 4 b_3)))])] [] (fun r0 Hs0 => TV.Le r0 r ∧ Hs0 = Hs') (RPt Tryd.prog 34 0 r Hs') =
  (br ((a_0 : Int) != b_0) (TV.Le (.c (.a (.fz (.bool false)))) r ∧ [] = Hs') (br (!((a_1 : List UInt8) == b_1)) (TV.Le (.c (.a (.fz (.bool false)))) r ∧ [] = Hs') (br ((a_2 : Int) != b_2) (TV.Le (.c (.a (.fz (.bool false)))) r ∧ [] = Hs') ((FV.isSl 4 (.sl false 4 a_3) = true) ∧ ((FV.isSl 4 (.sl false 4 b_3) = true) ∧ (br (((((List.length a_3) : Nat) : Int) : Int) != (((List.length b_3) : Nat) : Int)) (TV.Le (.c (.a (.fz (.bool false)))) r ∧ [] = Hs') (RPt Tryd.prog 34 0 r Hs' 1 ⟨[(2, (.c (.a (.ep 0 4 0 0)))), (3, (.c (.a (.ep 1 4 0 0)))), (5, (.c (.a (.fz (.int .i64 (0 : Int))))))], [(0, (.arr 4 [[(.a (.fz (.int .i64 a_0))), (.a (.fz (.str a_1))), (.a (.fz (.int .i64 a_2))), (.a (.fz (.sl false 4 a_3)))]])), (1, (.arr 4 [[(.a (.fz (.int .i64 b_0))), (.a (.fz (.str b_1))), (.a (.fz (.int .i64 b_2))), (.a (.fz (.sl false 4 b_3)))]]))], 2⟩))))))) := by kernel_rfl
theorem v34_1a (x5 : Int) (h0_0 : Int) (h0_1 : List UInt8) (h0_2 : Int) (h0_3 : List (List FV)) (h1_0 : Int) (h1_1 : List UInt8) (h1_2 : Int) (h1_3 : List (List FV)) (r : TV) (Hs' : List AObj) : vcP Tryd.prog sh lv34 34 0 (fun r0 Hs0 => TV.Le r0 r ∧ Hs0 = Hs') (RPt Tryd.prog 34 0 r Hs') 1 ⟨[(2, (.c (.a (.ep 0 4 0 0)))), (3, (.c (.a (.ep 1 4 0 0)))), (5, (.c (.a (.fz (.int .i64 x5)))))], [(0, (.arr 4 [[(.a (.fz (.int .i64 h0_0))), (.a (.fz (.str h0_1))), (.a (.fz (.int .i64 h0_2))), (.a (.fz (.sl false 4 h0_3)))]])), (1, (.arr 4 [[(.a (.fz (.int .i64 h1_0))), (.a (.fz (.str h1_1))), (.a (.fz (.int .i64 h1_2))), (.a (.fz (.sl false 4 h1_3)))]]))], 2⟩ =
  ((FV.isSl 4 (.sl false 4 h0_3) = true) ∧ (br (decide ((x5 : Int) < (((List.length h0_3) : Nat) : Int))) (((FV.isSl 4 (.sl false 4 h0_3) = true) ∧ ((0 ≤ x5) ∧ ((x5 < (((List.length h0_3) : Nat) : Int)) ∧ (((rE (List.getD h0_3 (Int.toNat x5) [])) : List FV) = (List.getD h0_3 (Int.toNat x5) []))))) ∧ (((FV.isSl 4 (.sl false 4 h1_3) = true) ∧ ((0 ≤ x5) ∧ ((x5 < (((List.length h1_3) : Nat) : Int)) ∧ (((rE (List.getD h1_3 (Int.toNat x5) [])) : List FV) = (List.getD h1_3 (Int.toNat x5) []))))) ∧ (∃ b1 : Bool, ((AC Tryd.prog 34 [(aE (List.getD h0_3 (Int.toNat x5) [])), (aE (List.getD h1_3 (Int.toNat x5) []))] [] (.c (.a (.fz (.bool b1)))) []) ∧ (br (!b1) (TV.Le (.c (.a (.fz (.bool false)))) r ∧ [] = Hs') (RPt Tryd.prog 34 0 r Hs' 1 ⟨[(2, (.c (.a (.ep 0 4 0 0)))), (3, (.c (.a (.ep 1 4 0 0)))), (5, (.c (.a (.fz (.int .i64 (IntKind.wrap .i64 (x5 + (1 : Int))))))))], [(0, (.arr 4 [[(.a (.fz (.int .i64 h0_0))), (.a (.fz (.str h0_1))), (.a (.fz (.int .i64 h0_2))), (.a (.fz (.sl false 4 h0_3)))]])), (1, (.arr 4 [[(.a (.fz (.int .i64 h1_0))), (.a (.fz (.str h1_1))), (.a (.fz (.int .i64 h1_2))), (.a (.fz (.sl false 4 h1_3)))]]))], 2⟩)))))) (TV.Le (.c (.a (.fz (.bool true)))) r ∧ [] = Hs'))) := by kernel_rfl
def lv35 : List (Nat × List Nat) := [(1, [0, 1, 5])]
theorem v35 (a : List (List FV)) (b : List (List FV)) (r : TV) (Hs' : List AObj) : vcE Tryd.prog sh lv35 35 [(.c (.a (.fz (.sl false 4 a)))), (.c (.a (.fz (.sl false 4 b))))] [] (fun r0 Hs0 => TV.Le r0 r ∧ Hs0 = Hs') (RPt Tryd.prog 35 0 r Hs') =
  ((FV.isSl 4 (.sl false 4 a) = true) ∧ ((FV.isSl 4 (.sl false 4 b) = true) ∧ (br (((((List.length a) : Nat) : Int) : Int) != (((List.length b) : Nat) : Int)) (TV.Le (.c (.a (.fz (.bool false)))) r ∧ [] = Hs') (RPt Tryd.prog 35 0 r Hs' 1 ⟨[(0, (.c (.a (.fz (.sl false 4 a))))), (1, (.c (.a (.fz (.sl false 4 b))))), (5, (.c (.a (.fz (.int .i64 (0 : Int))))))], [], 0⟩)))) := by kernel_rfl
theorem v35_1a (x0 : List (List FV)) (x1 : List (List FV)) (x5 : Int) (r : TV) (Hs' : List AObj) : vcP Tryd.prog sh lv35 35 0 (fun r0 Hs0 => TV.Le r0 r ∧ Hs0 = Hs') (RPt Tryd.prog 35 0 r Hs') 1 ⟨[(0, (.c (.a (.fz (.sl false 4 x0))))), (1, (.c (.a (.fz (.sl false 4 x1))))), (5, (.c (.a (.fz (.int .i64 x5)))))], [], 0⟩ =
  ((FV.isSl 4 (.sl false 4 x0) = true) ∧ (br (decide ((x5 : Int) < (((List.length x0) : Nat) : Int))) (((FV.isSl 4 (.sl false 4 x0) = true) ∧ ((0 ≤ x5) ∧ ((x5 < (((List.length x0) : Nat) : Int)) ∧ (((rE (List.getD x0 (Int.toNat x5) [])) : List FV) = (List.getD x0 (Int.toNat x5) []))))) ∧ (((FV.isSl 4 (.sl false 4 x1) = true) ∧ ((0 ≤ x5) ∧ ((x5 < (((List.length x1) : Nat) : Int)) ∧ (((rE (List.getD x1 (Int.toNat x5) [])) : List FV) = (List.getD x1 (Int.toNat x5) []))))) ∧ (∃ b1 : Bool, ((AC Tryd.prog 34 [(aE (List.getD x0 (Int.toNat x5) [])), (aE (List.getD x1 (Int.toNat x5) []))] [] (.c (.a (.fz (.bool b1)))) []) ∧ (br (!b1) (TV.Le (.c (.a (.fz (.bool false)))) r ∧ [] = Hs') (RPt Tryd.prog 35 0 r Hs' 1 ⟨[(0, (.c (.a (.fz (.sl false 4 x0))))), (1, (.c (.a (.fz (.sl false 4 x1))))), (5, (.c (.a (.fz (.int .i64 (IntKind.wrap .i64 (x5 + (1 : Int))))))))], [], 0⟩)))))) (TV.Le (.c (.a (.fz (.bool true)))) r ∧ [] = Hs'))) := by kernel_rfl
def lv56 : List (Nat × List Nat) := [(1, [0, 3])]
theorem v56 (n : Int) (r : TV) (Hs' : List AObj) : vcE Tryd.prog sh lv56 56 [(.c (.a (.fz (.int .i64 n))))] [] (fun r0 Hs0 => TV.Le r0 r ∧ Hs0 = Hs') (RPt Tryd.prog 56 0 r Hs') =
  (RPt Tryd.prog 56 0 r Hs' 1 ⟨[(0, (.c (.a (.fz (.int .i64 n))))), (3, (.c (.a (.fz (.str [])))))], [], 0⟩) := by kernel_rfl
theorem zjl (x0 : Int) (x3 : List UInt8) (r : TV) (Hs' : List AObj) : vcP Tryd.prog sh lv56 56 0 (fun r0 Hs0 => TV.Le r0 r ∧ Hs0 = Hs') (RPt Tryd.prog 56 0 r Hs') 1 ⟨[(0, (.c (.a (.fz (.int .i64 x0))))), (3, (.c (.a (.fz (.str x3)))))], [], 0⟩ =
  (br (decide ((x0 : Int) > (0 : Int))) ((IntKind.i64 = IntKind.i64 ∧ (10 : Int) ≠ 0) ∧ ((((List.length ([(UInt8.ofNat (Int.toNat (IntKind.wrap .u8 (IntKind.wrap .i64 ((48 : Int) + (Int.tmod x0 (10 : Int)))))))] : List UInt8)) + (List.length x3)) ≤ 1000000000000) ∧ ((IntKind.i64 = IntKind.i64 ∧ (10 : Int) ≠ 0) ∧ (RPt Tryd.prog 56 0 r Hs' 1 ⟨[(0, (.c (.a (.fz (.int .i64 (IntKind.wrap .i64 (Int.tdiv x0 (10 : Int)))))))), (3, (.c (.a (.fz (.str (([(UInt8.ofNat (Int.toNat (IntKind.wrap .u8 (IntKind.wrap .i64 ((48 : Int) + (Int.tmod x0 (10 : Int)))))))] : List UInt8) ++ x3))))))], [], 0⟩)))) (br ((x3 : List UInt8) == []) ((IntKind.i64 = IntKind.i64 ∧ (10 : Int) ≠ 0) ∧ ((((List.length ([(UInt8.ofNat (Int.toNat (IntKind.wrap .u8 (IntKind.wrap .i64 ((48 : Int) + (Int.tmod x0 (10 : Int)))))))] : List UInt8)) + (List.length x3)) ≤ 1000000000000) ∧ ((IntKind.i64 = IntKind.i64 ∧ (10 : Int) ≠ 0) ∧ (RPt Tryd.prog 56 0 r Hs' 1 ⟨[(0, (.c (.a (.fz (.int .i64 (IntKind.wrap .i64 (Int.tdiv x0 (10 : Int)))))))), (3, (.c (.a (.fz (.str (([(UInt8.ofNat (Int.toNat (IntKind.wrap .u8 (IntKind.wrap .i64 ((48 : Int) + (Int.tmod x0 (10 : Int)))))))] : List UInt8) ++ x3))))))], [], 0⟩)))) (TV.Le (.c (.a (.fz (.str x3)))) r ∧ [] = Hs'))) := by kernel_rfl
def lv33 : List (Nat × List Nat) := []
theorem v33 (x_0 : Int) (x_1 : Int) (x_2 : Int) (x_3 : List UInt8) (x_4 : Int) (x_5 : List (List FV)) (x_6 : List (List FV)) (x_7 : List (List FV)) (y_0 : Int) (y_1 : Int) (y_2 : Int) (y_3 : List UInt8) (y_4 : Int) (y_5 : List (List FV)) (y_6 : List (List FV)) (y_7 : List (List FV)) (r : TV) (Hs' : List AObj) : vcE Tryd.prog sh lv33 33 [(.agg [(.a (.fz (.int .i64 x_0))), (.a (.fz (.int .i64 x_1))), (.a (.fz (.int .i64 x_2))), (.a (.fz (.str x_3))), (.a (.fz (.int .i64 x_4))), (.a (.fz (.sl false 4 x_5))), (.a (.fz (.sl false 4 x_6))), (.a (.fz (.sl false 6 x_7)))]), (.agg [(.a (.fz (.int .i64 y_0))), (.a (.fz (.int .i64 y_1))), (.a (.fz (.int .i64 y_2))), (.a (.fz (.str y_3))), (.a (.fz (.int .i64 y_4))), (.a (.fz (.sl false 4 y_5))), (.a (.fz (.sl false 4 y_6))), (.a (.fz (.sl false 6 y_7)))])] [] (fun r0 Hs0 => TV.Le r0 r ∧ Hs0 = Hs') (RPt Tryd.prog 33 0 r Hs') =
  (br ((x_0 : Int) == y_0) (br ((x_1 : Int) == y_1) (∃ b1 : Bool, ((AC Tryd.prog 57 [(.agg [(.a (.fz (.int .i64 x_2))), (.a (.fz (.str x_3))), (.a (.fz (.int .i64 x_4))), (.a (.fz (.sl false 4 x_5)))]), (.agg [(.a (.fz (.int .i64 y_2))), (.a (.fz (.str y_3))), (.a (.fz (.int .i64 y_4))), (.a (.fz (.sl false 4 y_5)))])] [] (.c (.a (.fz (.bool b1)))) []) ∧ (br b1 (∃ b2 : Bool, ((AC Tryd.prog 58 [(.c (.a (.fz (.sl false 4 x_6)))), (.c (.a (.fz (.sl false 4 y_6)))), (.c (.fn (.func 57) [] []))] [] (.c (.a (.fz (.bool b2)))) []) ∧ (br b2 (∃ b3 : Bool, ((AC Tryd.prog 59 [(.c (.a (.fz (.sl false 6 x_7)))), (.c (.a (.fz (.sl false 6 y_7)))), (.c (.fn (.func 14) [] []))] [] (.c (.a (.fz (.bool b3)))) []) ∧ (TV.Le (.c (.a (.fz (.bool b3)))) r ∧ [] = Hs'))) (TV.Le (.c (.a (.fz (.bool false)))) r ∧ [] = Hs')))) (TV.Le (.c (.a (.fz (.bool false)))) r ∧ [] = Hs')))) (TV.Le (.c (.a (.fz (.bool false)))) r ∧ [] = Hs')) (TV.Le (.c (.a (.fz (.bool false)))) r ∧ [] = Hs')) := by kernel_rfl
def lv59 : List (Nat × List Nat) := [(1, [1, 2, 15, 16, 17])]
theorem v59_F14 (s1 : List (List FV)) (s2 : List (List FV)) (r : TV) (Hs' : List AObj) : vcE Tryd.prog sh lv59 59 [(.c (.a (.fz (.sl false 6 s1)))), (.c (.a (.fz (.sl false 6 s2)))), (.c (.fn (.func 14) [] []))] [] (fun r0 Hs0 => TV.Le r0 r ∧ Hs0 = Hs') (RPt Tryd.prog 59 0 r Hs') =
  ((FV.isSl 6 (.sl false 6 s1) = true) ∧ ((FV.isSl 6 (.sl false 6 s2) = true) ∧ (br (((((List.length s1) : Nat) : Int) : Int) != (((List.length s2) : Nat) : Int)) (TV.Le (.c (.a (.fz (.bool false)))) r ∧ [] = Hs') ((FV.isSl 6 (.sl false 6 s1) = true) ∧ (RPt Tryd.prog 59 0 r Hs' 1 ⟨[(1, (.c (.a (.fz (.sl false 6 s2))))), (2, (.c (.fn (.func 14) [] []))), (15, (.c (.a (.fz (.sl false 6 s1))))), (16, (.c (.a (.fz (.int .i64 (((List.length s1) : Nat) : Int)))))), (17, (.c (.a (.fz (.int .i64 (0 : Int))))))], [], 0⟩))))) := by kernel_rfl
theorem z8r (x1 : List (List FV)) (x15 : List (List FV)) (x16 : Int) (x17 : Int) (r : TV) (Hs' : List AObj) : vcP Tryd.prog sh lv59 59 0 (fun r0 Hs0 => TV.Le r0 r ∧ Hs0 = Hs') (RPt Tryd.prog 59 0 r Hs') 1 ⟨[(1, (.c (.a (.fz (.sl false 6 x1))))), (2, (.c (.fn (.func 14) [] []))), (15, (.c (.a (.fz (.sl false 6 x15))))), (16, (.c (.a (.fz (.int .i64 x16))))), (17, (.c (.a (.fz (.int .i64 x17)))))], [], 0⟩ =
  (br (decide ((x17 : Int) < x16)) (((FV.isSl 6 (.sl false 6 x15) = true) ∧ ((0 ≤ x17) ∧ ((x17 < (((List.length x15) : Nat) : Int)) ∧ (([(.str (FV.asS (List.getD (List.getD x15 (Int.toNat x17) []) 0 FV.nils))), (.int .i64 (FV.asI (List.getD (List.getD x15 (Int.toNat x17) []) 1 FV.nils))), (.int .i64 (FV.asI (List.getD (List.getD x15 (Int.toNat x17) []) 2 FV.nils))), (.int .i64 (FV.asI (List.getD (List.getD x15 (Int.toNat x17) []) 3 FV.nils))), (.int .i64 (FV.asI (List.getD (List.getD x15 (Int.toNat x17) []) 4 FV.nils))), (List.getD (List.getD x15 (Int.toNat x17) []) 5 FV.nils)] : List FV) = (List.getD x15 (Int.toNat x17) []))))) ∧ (((FV.isSl 6 (.sl false 6 x1) = true) ∧ ((0 ≤ x17) ∧ ((x17 < (((List.length x1) : Nat) : Int)) ∧ (([(.str (FV.asS (List.getD (List.getD x1 (Int.toNat x17) []) 0 FV.nils))), (.int .i64 (FV.asI (List.getD (List.getD x1 (Int.toNat x17) []) 1 FV.nils))), (.int .i64 (FV.asI (List.getD (List.getD x1 (Int.toNat x17) []) 2 FV.nils))), (.int .i64 (FV.asI (List.getD (List.getD x1 (Int.toNat x17) []) 3 FV.nils))), (.int .i64 (FV.asI (List.getD (List.getD x1 (Int.toNat x17) []) 4 FV.nils))), (List.getD (List.getD x1 (Int.toNat x17) []) 5 FV.nils)] : List FV) = (List.getD x1 (Int.toNat x17) []))))) ∧ (∃ b1 : Bool, ((AC Tryd.prog 14 [(.agg [(.a (.fz (.str (FV.asS (List.getD (List.getD x15 (Int.toNat x17) []) 0 FV.nils))))), (.a (.fz (.int .i64 (FV.asI (List.getD (List.getD x15 (Int.toNat x17) []) 1 FV.nils))))), (.a (.fz (.int .i64 (FV.asI (List.getD (List.getD x15 (Int.toNat x17) []) 2 FV.nils))))), (.a (.fz (.int .i64 (FV.asI (List.getD (List.getD x15 (Int.toNat x17) []) 3 FV.nils))))), (.a (.fz (.int .i64 (FV.asI (List.getD (List.getD x15 (Int.toNat x17) []) 4 FV.nils))))), (.a (.fz (List.getD (List.getD x15 (Int.toNat x17) []) 5 FV.nils)))]), (.agg [(.a (.fz (.str (FV.asS (List.getD (List.getD x1 (Int.toNat x17) []) 0 FV.nils))))), (.a (.fz (.int .i64 (FV.asI (List.getD (List.getD x1 (Int.toNat x17) []) 1 FV.nils))))), (.a (.fz (.int .i64 (FV.asI (List.getD (List.getD x1 (Int.toNat x17) []) 2 FV.nils))))), (.a (.fz (.int .i64 (FV.asI (List.getD (List.getD x1 (Int.toNat x17) []) 3 FV.nils))))), (.a (.fz (.int .i64 (FV.asI (List.getD (List.getD x1 (Int.toNat x17) []) 4 FV.nils))))), (.a (.fz (List.getD (List.getD x1 (Int.toNat x17) []) 5 FV.nils)))])] [] (.c (.a (.fz (.bool b1)))) []) ∧ (br (!b1) (TV.Le (.c (.a (.fz (.bool false)))) r ∧ [] = Hs') (RPt Tryd.prog 59 0 r Hs' 1 ⟨[(1, (.c (.a (.fz (.sl false 6 x1))))), (2, (.c (.fn (.func 14) [] []))), (15, (.c (.a (.fz (.sl false 6 x15))))), (16, (.c (.a (.fz (.int .i64 x16))))), (17, (.c (.a (.fz (.int .i64 (IntKind.wrap .i64 (x17 + (1 : Int))))))))], [], 0⟩)))))) (TV.Le (.c (.a (.fz (.bool true)))) r ∧ [] = Hs')) := by kernel_rfl
-- STUCK (26, '(*strings.Builder).WriteString', "int wanted: ('c', ('a', ('fz', ('str', 's'))))", ('(*strings.Builder).WriteString', 6, 'builder.go:114', 'call'))
-- STUCK (26, '(*strings.Builder).WriteString', "int wanted: ('c', ('a', ('fz', ('str', 's'))))", ('(*strings.Builder).WriteString', 6, 'builder.go:114', 'call'))
-- STUCK (85, 'internal/strconv.FormatInt', "slice ('c', ('a', ('ep', 288, 24, 0, 0)))", ('internal/strconv.FormatInt', 2, 'itoa.go:40', 'slice'))
end Go.AM

set_option maxRecDepth 100000
open Go Go.Proofs

set_option maxRecDepth 100000
open Go Go.Proofs
namespace Go.AM
def zeh (c : Int) : Bool := decide (97 ≤ c) && decide (c ≤ 122)
def zj8 (c : Int) : Bool := decide (65 ≤ c) && decide (c ≤ 90) || c == 95
def zis (c : Int) : Bool := decide (48 ≤ c) && decide (c ≤ 57)
def z3h (c : Int) : Bool := zeh c || zj8 c || zis c || c == 39
def signs : List UInt8 := [43, 45, 42, 47, 60, 62, 61, 38, 124, 94, 126, 64, 35, 36, 63, 58]
def ze4 (c : Int) : Bool := decide (Lib.indexByte signs c.toNat.toUInt8 ≥ 0)
theorem zit (c : Int) : AC Tryd.prog 38 [c8 c] [] (cb (zeh c)) [] := by
 refine AC.vc hP sh lv38 (Nat.le_refl _) (by simp) (by simp) (Eq.mpr (v38 ..) ?_)
 refine z00 (fun h => z01 ?_) (fun h => z01 ?_) <;> simp_all [zeh] <;> omega
theorem c_great (c : Int) : AC Tryd.prog 62 [c8 c] [] (cb (zj8 c)) [] := by
 refine AC.vc hP sh lv62 (Nat.le_refl _) (by simp) (by simp) (Eq.mpr (v62 ..) ?_)
 refine z00 (fun h => z00 (fun h => z01 ?_) (fun h => z01 ?_)) (fun h => z01 ?_) <;> simp_all [zj8] <;> omega
theorem c_digit (c : Int) : AC Tryd.prog 63 [c8 c] [] (cb (zis c)) [] := by
 refine AC.vc hP sh lv63 (Nat.le_refl _) (by simp) (by simp) (Eq.mpr (v63 ..) ?_)
 refine z00 (fun h => z01 ?_) (fun h => z01 ?_) <;> simp_all [zis] <;> omega
theorem c_inside (c : Int) : AC Tryd.prog 40 [c8 c] [] (cb (z3h c)) [] := by
 refine AC.vc hP sh lv40 (Nat.le_refl _) (by simp) (by simp) (Eq.mpr (v40 ..) ?_)
 refine ⟨_, zit c, z00 (fun h => z01 ?_) (fun h => ⟨_, c_great c, z00 (fun h => z01 ?_) (fun h => ⟨_, c_digit c, z00 (fun h => z01 ?_) (fun h => z01 ?_)⟩)⟩)⟩ <;> simp_all [z3h]
theorem zcw (s : List UInt8) (c : Int) : AC Tryd.prog 80 [cs s, c8 c] [] (ci (Lib.indexByte s c.toNat.toUInt8)) [] :=
 AC.str_u8 (by kernel_rfl) fun w => Tryd.stringslite_IndexByte ⟨s.toArray⟩ c w
theorem zd6 (s : List UInt8) (c : Int) : AC Tryd.prog 64 [cs s, c8 c] [] (ci (Lib.indexByte s c.toNat.toUInt8)) [] :=
 AC.str_u8 (by kernel_rfl) fun w => Tryd.strings_IndexByte ⟨s.toArray⟩ c w
theorem c_sign (c : Int) : AC Tryd.prog 41 [c8 c] [] (cb (ze4 c)) [] := by
 refine AC.vc hP sh lv41 (Nat.le_refl _) (by simp) (by simp) (Eq.mpr (v41 ..) ?_)
 exact ⟨_, zd6 _ c, z01 rfl⟩
def runN (p : Int → Bool) : List UInt8 → Nat
 | [] => 0
 | c :: s => if p (c.toNat : Int) then runN p s + 1 else 0
theorem zh8 (p : Int → Bool) : ∀ s : List UInt8, runN p s ≤ s.length
 | [] => Nat.le_refl _
 | c :: s => by have := zh8 p s; simp only [runN, List.length_cons]; split <;> omega
theorem zjs (a : List UInt8) (c : UInt8) (b : List UInt8) : List.getD (a ++ c :: b) (Int.toNat (a.length : Int)) 0 = c := by simp [List.getD]
theorem z5x : ∀ (b a : List UInt8), (a ++ b).length ≤ B → RPt Tryd.prog 39 0 (ci ((a.length : Int) + runN z3h b)) [] 1 ⟨[(0, cs (a ++ b)), (1, .c (.fn (.func 40) [] [])), (7, ci (((a ++ b).length : Nat) : Int)), (8, ci a.length)], [], 0⟩
 | [], a, hl => by
  refine RPt.vc hP sh lv39 (Eq.mpr (z91 ..) ?_)
  exact z00 (fun h => absurd h (by simp)) (fun _ => z2g (by simp [runN]))
 | c :: b, a, hl => by
  refine RPt.vc hP sh lv39 (Eq.mpr (z91 ..) ?_)
  have hl' := hl
  simp only [List.length_append, List.length_cons, B] at hl'
  refine z00 (fun _ => ⟨⟨by omega, by simp; omega⟩, z3h (c.toNat : Int), ?_, z00 (fun h => z2g ?_) (fun h => ?_)⟩) (fun h => absurd h (by simp; omega))
  · rw [zjs]; exact c_inside _
  · simp_all [runN]
  · have := z5x b (a ++ [c]) (by simpa using hl)
    rw [w64 (by omega) (by omega)]
    simp only [List.append_assoc, List.cons_append, List.nil_append, List.length_append, List.length_cons, List.length_nil, Int.natCast_add, Int.natCast_one, Int.natCast_zero, Int.zero_add] at this
    simp only [Bool.not_eq_false'] at h
    simp only [runN, h, if_true, List.length_append, List.length_cons, Int.natCast_add, Int.natCast_one]
    rw [show (a.length : Int) + ((runN z3h b : Nat) + 1 : Int) = (a.length : Int) + 1 + (runN z3h b : Nat) by omega]
    exact this
theorem zbx (s : List UInt8) (h : s.length ≤ B) : AC Tryd.prog 39 [cs s, .c (.fn (.func 40) [] [])] [] (ci (runN z3h s)) [] := by
 refine AC.vc hP sh lv39 (Nat.le_refl _) (by simp) (by simp) (Eq.mpr (v39_F40 ..) ?_)
 have := z5x s [] (by simpa using h)
 simpa using this
theorem z9f : ∀ (b a : List UInt8), (a ++ b).length ≤ B → RPt Tryd.prog 39 0 (ci ((a.length : Int) + runN ze4 b)) [] 1 ⟨[(0, cs (a ++ b)), (1, .c (.fn (.func 41) [] [])), (7, ci (((a ++ b).length : Nat) : Int)), (8, ci a.length)], [], 0⟩
 | [], a, hl => by
  refine RPt.vc hP sh lv39 (Eq.mpr (z9g ..) ?_)
  exact z00 (fun h => absurd h (by simp)) (fun _ => z2g (by simp [runN]))
 | c :: b, a, hl => by
  refine RPt.vc hP sh lv39 (Eq.mpr (z9g ..) ?_)
  have hl' := hl
  simp only [List.length_append, List.length_cons, B] at hl'
  refine z00 (fun _ => ⟨⟨by omega, by simp; omega⟩, ze4 (c.toNat : Int), ?_, z00 (fun h => z2g ?_) (fun h => ?_)⟩) (fun h => absurd h (by simp; omega))
  · rw [zjs]; exact c_sign _
  · simp_all [runN]
  · have := z9f b (a ++ [c]) (by simpa using hl)
    rw [w64 (by omega) (by omega)]
    simp only [List.append_assoc, List.cons_append, List.nil_append, List.length_append, List.length_cons, List.length_nil, Int.natCast_add, Int.natCast_one, Int.natCast_zero, Int.zero_add] at this
    simp only [Bool.not_eq_false'] at h
    simp only [runN, h, if_true, List.length_append, List.length_cons, Int.natCast_add, Int.natCast_one]
    rw [show (a.length : Int) + ((runN ze4 b : Nat) + 1 : Int) = (a.length : Int) + 1 + (runN ze4 b : Nat) by omega]
    exact this
theorem zg4 (s : List UInt8) (h : s.length ≤ B) : AC Tryd.prog 39 [cs s, .c (.fn (.func 41) [] [])] [] (ci (runN ze4 s)) [] := by
 refine AC.vc hP sh lv39 (Nat.le_refl _) (by simp) (by simp) (Eq.mpr (v39_F41 ..) ?_)
 have := z9f s [] (by simpa using h)
 simpa using this
theorem z4x (p : Int → Bool) : ∀ s : List UInt8, (((runN p s : Nat) : Int) == ((s.length : Nat) : Int)) = s.all fun c => p (c.toNat : Int)
 | [] => rfl
 | c :: s => by
  have ih := z4x p s
  have := zh8 p s
  simp only [runN, List.all_cons, List.length_cons]
  cases h : p (c.toNat : Int) with
  | true => rw [← ih]; simp only [if_true, Bool.true_and]; rw [Bool.eq_iff_iff]; simp <;> omega
  | false => simp; omega
def zfz (s : List UInt8) : Bool := !(s == []) && decide ((s.length : Int) ≤ 32)
theorem c_fits (s : List UInt8) : AC Tryd.prog 37 [cs s] [] (cb (zfz s)) [] := by
 refine AC.vc hP sh lv37 (Nat.le_refl _) (by simp) (by simp) (Eq.mpr (v37 ..) ?_)
 refine z00 (fun h => z01 ?_) (fun h => z01 ?_) <;> simp_all [zfz]
def z74 (s : List UInt8) : Bool := zfz s && zeh ((s.getD 0 0).toNat : Int) && s.all fun c => z3h (c.toNat : Int)
theorem zds {s : List UInt8} (h : zfz s = true) : 0 < s.length ∧ s.length ≤ 32 := by
 simp only [zfz, Bool.and_eq_true, Bool.not_eq_true', decide_eq_true_eq] at h
 refine ⟨?_, by omega⟩
 cases s with
 | nil => simp at h
 | cons c s => simp
theorem zew (s : List UInt8) : AC Tryd.prog 17 [cs s] [] (cb (z74 s)) [] := by
 refine AC.vc hP sh lv17 (Nat.le_refl _) (by simp) (by simp) (Eq.mpr (v17 ..) ?_)
 refine ⟨_, c_fits s, z00 (fun h => ⟨⟨by omega, by have := zds h; omega⟩, _, zit _, z00 (fun h2 => ⟨_, zbx s (by have := zds h; simp only [B]; omega), z01 ?_⟩) (fun h2 => z01 ?_)⟩) (fun h => z01 ?_)⟩
 · rw [z4x]; simp only [z74, h, h2, Bool.true_and]
 · simp only [z74, h, h2, Bool.and_false, Bool.false_and]
 · simp only [z74, h, Bool.false_and]
def zed : List UInt8 := [44, 59, 33]
theorem ze3 (s : List UInt8) (c : UInt8) (hs : s.length ≤ B) : AC Tryd.prog 42 [cs s, cs [c]] [] (cb (decide (Lib.indexByte s c ≥ 0))) [] := by
 have hb : (c.toNat : Int).toNat.toUInt8 = c := by simp
 have h1 : AC Tryd.prog 81 [cs s, cs [c]] [] (ci (if [c] == s then 0 else Lib.indexByte s c)) [] := by
  refine AC.vc hP sh lv81 (Nat.le_refl _) (by simp) (by simp) (Eq.mpr (v81 ..) ?_)
  refine z00 (fun h => absurd h (by simp)) (fun _ => z00 (fun h => z2g (by simp [h])) (fun h => z00 (fun _ => ⟨⟨by omega, by simp⟩, _, zcw s _, z2g ?_⟩) (fun h2 => absurd h2 (by simp))))
  rw [h]
  simp
 have h2 : AC Tryd.prog 65 [cs s, cs [c]] [] (ci (if [c] == s then 0 else Lib.indexByte s c)) [] := by
  refine AC.vc hP sh lv65 (Nat.le_refl _) (by simp) (by simp) (Eq.mpr (v65 ..) ?_)
  exact ⟨_, h1, z2g rfl⟩
 refine AC.vc hP sh lv42 (Nat.le_refl _) (by simp) (by simp) (Eq.mpr (v42 ..) ?_)
 refine ⟨_, h2, z01 ?_⟩
 by_cases e : [c] = s
 · subst e
   simp [Lib.indexByte]
 · have : ([c] == s) = false := by simpa using e
   rw [this]; simp
def zcl (s : List UInt8) : Bool := zfz s && ((s.all fun c => ze4 (c.toNat : Int)) || ((s.length : Int) == 1 && decide (Lib.indexByte zed (s.getD 0 0) ≥ 0)))
theorem zjh (s : List UInt8) : AC Tryd.prog 18 [cs s] [] (cb (zcl s)) [] := by
 refine AC.vc hP sh lv18 (Nat.le_refl _) (by simp) (by simp) (Eq.mpr (v18 ..) ?_)
 refine ⟨_, c_fits s, z00 (fun h => ⟨_, zg4 s (by have := zds h; simp only [B]; omega), z00 (fun h2 => z01 ?_) (fun h2 => z00 (fun h3 => ?_) (fun h3 => z01 ?_))⟩) (fun h => z01 ?_)⟩
 · rw [z4x] at h2; simp only [zcl, h, h2, Bool.true_and, Bool.true_or]
 · rw [z4x] at h2
   match s, h3 with
   | [c], h3 =>
    refine ⟨_, ze3 zed c (by simp [zed, B]), z01 ?_⟩
    simp only [zcl, h, h2, h3, Bool.true_and, Bool.false_or, List.getD_cons_zero]
   | [], h3 => simp at h3
   | _ :: _ :: _, h3 => simp at h3; omega
 · rw [z4x] at h2; simp only [zcl, h, h2, h3, Bool.false_and, Bool.false_or, Bool.and_false]
 · simp only [zcl, h, Bool.false_and]
end Go.AM

set_option maxRecDepth 100000
open Go Go.Proofs
namespace Go.AM
mutual
def near (most : Int) : Tm → Bool
 | .mk k _ n l => !(k != 2 && (decide (n > most) || decide (n < 0 - most))) && zdz most l
def zdz (most : Int) : List Tm → Bool
 | [] => true
 | t :: l => near most t && zdz most l
end
theorem l_near (most : Int) (k : Int) (s : List UInt8) (n : Int) : ∀ (b a : List Tm), (∀ u ∈ b, AC Tryd.prog 61 [aT u, ci most] [] (cb (near most u)) []) → (a ++ b).length ≤ B →
  RPt Tryd.prog 61 0 (cb (zdz most b)) [] 1 ⟨[(1, ci most), (2, (.c (.a (.ep 0 4 0 0)))), (5, ci a.length)], [(0, (.arr 4 [fzs (FT (.mk k s n (a ++ b)))]))], 1⟩
 | [], a, _, hl => by
  refine RPt.vc hP sh lv61 (Eq.mpr (v61_1a ..) ?_)
  exact ⟨rfl, z00 (fun h => absurd (of_decide_eq_true h) (geI' a)) (fun _ => z01 rfl)⟩
 | t :: b, a, ih, hl => by
  refine RPt.vc hP sh lv61 (Eq.mpr (v61_1a ..) ?_)
  have hl' := hl
  simp only [List.length_append, List.length_cons, B] at hl'
  refine ⟨rfl, z00 (fun _ => ?_) (fun h => absurd (ltI' a t b) (of_decide_eq_false h))⟩
  have h1 := ih t List.mem_cons_self
  have h2 := l_near most k s n b (a ++ [t]) (fun u hu => ih u (List.mem_cons_of_mem _ hu)) (by rw [ap]; exact hl)
  have h3 := ltI' a t b
  rw [ap, nx] at h2
  rw [midI, w64 (by omega) (by omega)]
  obtain ⟨k', s', n', l'⟩ := t
  refine ⟨⟨rfl, by omega, h3, rfl⟩, _, h1, z00 (fun h => z01 ?_) (fun h => ?_)⟩
  · simp_all [zdz]
  · simp only [zdz, show near most (.mk k' s' n' l') = true by simpa using h, Bool.true_and]; exact h2
theorem c_near (most : Int) (h0 : 0 ≤ most) (h1 : most ≤ 4611686018427387904) : ∀ t : Tm, t.sz ≤ B → AC Tryd.prog 61 [aT t, ci most] [] (cb (near most t)) [] := by
 refine Tm.ind fun t ih hs => ?_
 obtain ⟨k, s, n, l⟩ := t
 have hl := Tm.szs_length l
 simp only [Tm.sz, B] at hs
 refine AC.vc hP sh lv61 (Nat.le_refl _) (by simp) (by simp) (Eq.mpr (v61 k s n (FTs l) most _ _) ?_)
 have key := l_near most k s n l [] (fun u hu => ih u hu (by have := Tm.szs_mem hu; simp only [B]; omega)) (by simp only [List.nil_append, B]; omega)
 rw [w64 (by omega) (by omega)]
 rw [near]
 refine z00 (fun h => z00 (fun h2 => z01 ?_) (fun h2 => z00 (fun h3 => z01 ?_) (fun h3 => ?_))) (fun h => ?_)
 · simp only [h, h2, Bool.true_or, Bool.and_true, Bool.not_true, Bool.false_and]
 · simp only [h, h3, Bool.or_true, Bool.and_true, Bool.not_true, Bool.false_and]
 · simp only [h2, h3, Bool.or_false, Bool.and_false, Bool.not_false, Bool.true_and]; exact key
 · simp only [h, Bool.false_and, Bool.not_false, Bool.true_and]; exact key
mutual
def za6 : Tm → Int → Int
 | .mk _ _ _ l, most => z9l l (most - 1)
def z9l : List Tm → Int → Int
 | [], n => n
 | t :: l, n => if n ≥ 0 then z9l l (za6 t n) else n
end
mutual
theorem zf5 : ∀ (t : Tm) (n : Int), za6 t n ≤ n - 1 ∧ (0 ≤ n → -1 ≤ za6 t n)
 | .mk _ _ _ l, n => by
  have h := zfa l (n - 1)
  simp only [za6]
  exact ⟨h.1, fun hn => h.2 (by omega)⟩
theorem zfa : ∀ (l : List Tm) (n : Int), z9l l n ≤ n ∧ (-1 ≤ n → -1 ≤ z9l l n)
 | [], n => by simp [z9l]
 | t :: l, n => by
  have h1 := zf5 t n
  have h2 := zfa l (za6 t n)
  simp only [z9l]
  split
  · rename_i h; exact ⟨by omega, fun _ => h2.2 (h1.2 h)⟩
  · exact ⟨Int.le_refl _, fun h => h⟩
end
theorem l_left (k : Int) (s : List UInt8) (n : Int) : ∀ (b a : List Tm) (m : Int), (∀ u ∈ b, ∀ m : Int, 0 ≤ m → m ≤ 4611686018427387904 → AC Tryd.prog 79 [aT u, ci m] [] (ci (za6 u m)) []) → (a ++ b).length ≤ B → m ≤ 4611686018427387904 →
  RPt Tryd.prog 79 0 (ci (z9l b m)) [] 1 ⟨[(2, (.c (.a (.ep 0 4 0 0)))), (5, ci m), (6, ci a.length)], [(0, (.arr 4 [fzs (FT (.mk k s n (a ++ b)))]))], 1⟩
 | [], a, m, _, hl, hm => by
  refine RPt.vc hP sh lv79 (Eq.mpr (v79_1a ..) ?_)
  exact ⟨rfl, z00 (fun h => absurd (of_decide_eq_true h) (geI' a)) (fun _ => z2g rfl)⟩
 | t :: b, a, m, ih, hl, hm => by
  refine RPt.vc hP sh lv79 (Eq.mpr (v79_1a ..) ?_)
  have hl' := hl
  simp only [List.length_append, List.length_cons, B] at hl'
  refine ⟨rfl, z00 (fun _ => z00 (fun hm0 => ?_) (fun hm0 => z2g ?_)) (fun h => absurd (ltI' a t b) (of_decide_eq_false h))⟩
  · have hm0 := of_decide_eq_true hm0
    have h1 := ih t List.mem_cons_self m hm0 hm
    have hle := zf5 t m
    have h2 := l_left k s n b (a ++ [t]) (za6 t m) (fun u hu => ih u (List.mem_cons_of_mem _ hu)) (by rw [ap]; exact hl) (by omega)
    have h3 := ltI' a t b
    rw [ap, nx] at h2
    rw [midI, w64 (by omega) (by omega)]
    simp only [z9l, hm0, if_true]
    obtain ⟨k', s', n', l'⟩ := t
    exact ⟨⟨rfl, by omega, h3, rfl⟩, _, h1, h2⟩
  · have hm0 := of_decide_eq_false hm0
    simp only [z9l, hm0, if_false]
theorem c_left : ∀ t : Tm, t.sz ≤ B → ∀ m : Int, 0 ≤ m → m ≤ 4611686018427387904 → AC Tryd.prog 79 [aT t, ci m] [] (ci (za6 t m)) [] := by
 refine Tm.ind fun t ih hs m h0 h1 => ?_
 obtain ⟨k, s, n, l⟩ := t
 have hl := Tm.szs_length l
 simp only [Tm.sz, B] at hs
 refine AC.vc hP sh lv79 (Nat.le_refl _) (by simp) (by simp) (Eq.mpr (v79 k s n (FTs l) m _ _) ?_)
 rw [w64 (by omega) (by omega)]
 exact l_left k s n l [] (m - 1) (fun u hu => ih u hu (by have := Tm.szs_mem hu; simp only [B]; omega)) (by simp only [List.nil_append, B]; omega) (by omega)
def z80 (t : Tm) (most : Int) : Bool := decide (za6 t most < 0)
theorem zhg (t : Tm) (hs : t.sz ≤ B) (m : Int) (h0 : 0 ≤ m) (h1 : m ≤ 4611686018427387904) : AC Tryd.prog 60 [aT t, ci m] [] (cb (z80 t m)) [] := by
 have h := c_left t hs m h0 h1
 obtain ⟨k, s, n, l⟩ := t
 refine AC.vc hP sh lv60 (Nat.le_refl _) (by simp) (by simp) (Eq.mpr (v60 k s n (FTs l) m _ _) ?_)
 exact ⟨_, h, z01 rfl⟩
mutual
def z1t : Tm → Tm → Bool
 | .mk k s n l, .mk k' s' n' l' => k == k' && (s == s' && (n == n' && z1j l l'))
def z1j : List Tm → List Tm → Bool
 | [], [] => true
 | t :: l, u :: m => z1t t u && z1j l m
 | _, _ => false
end
mutual
theorem zbf : ∀ a b : Tm, z1t a b = true ↔ a = b
 | .mk k s n l, .mk k' s' n' l' => by simp only [z1t, Bool.and_eq_true, beq_iff_eq, Tm.mk.injEq, z6v l l']
theorem z6v : ∀ a b : List Tm, z1j a b = true ↔ a = b
 | [], [] => by simp [z1j]
 | t :: l, u :: m => by simp only [z1j, Bool.and_eq_true, List.cons.injEq, zbf t u, z6v l m]
 | [], _ :: _ => by simp [z1j]
 | _ :: _, [] => by simp [z1j]
end
theorem z3x : ∀ {a b : List Tm}, a.length ≠ b.length → z1j a b = false
 | [], [], h => absurd rfl h
 | t :: l, u :: m, h => by simp only [z1j, z3x (a := l) (b := m) (fun e => h (by simp [e])), Bool.and_false]
 | [], _ :: _, _ => rfl
 | _ :: _, [], _ => rfl
theorem l_same (k : Int) (s : List UInt8) (n : Int) (k' : Int) (s' : List UInt8) (n' : Int) : ∀ (b a b' a' : List Tm), (∀ u ∈ b, ∀ v ∈ b', AC Tryd.prog 34 [aT u, aT v] [] (cb (z1t u v)) []) → (a ++ b).length ≤ B → a.length = a'.length → b.length = b'.length →
  RPt Tryd.prog 34 0 (cb (z1j b b')) [] 1 ⟨[(2, (.c (.a (.ep 0 4 0 0)))), (3, (.c (.a (.ep 1 4 0 0)))), (5, ci a.length)], [(0, (.arr 4 [fzs (FT (.mk k s n (a ++ b)))])), (1, (.arr 4 [fzs (FT (.mk k' s' n' (a' ++ b')))]))], 2⟩
 | [], a, [], a', _, hl, _, _ => by
  refine RPt.vc hP sh lv34 (Eq.mpr (v34_1a ..) ?_)
  exact ⟨rfl, z00 (fun h => absurd (of_decide_eq_true h) (geI' a)) (fun _ => z01 rfl)⟩
 | t :: b, a, u :: b', a', ih, hl, ha, hb => by
  refine RPt.vc hP sh lv34 (Eq.mpr (v34_1a ..) ?_)
  have hl' := hl
  simp only [List.length_append, List.length_cons, B] at hl'
  refine ⟨rfl, z00 (fun _ => ?_) (fun h => absurd (ltI' a t b) (of_decide_eq_false h))⟩
  have h1 := ih t List.mem_cons_self u List.mem_cons_self
  have h2 := l_same k s n k' s' n' b (a ++ [t]) b' (a' ++ [u]) (fun x hx y hy => ih x (List.mem_cons_of_mem _ hx) y (List.mem_cons_of_mem _ hy)) (by rw [ap]; exact hl) (by simp [ha]) (by simpa using hb)
  have h3 := ltI' a t b
  have h4 := ltI' a' u b'
  rw [← ha] at h4
  rw [ap, ap, nx] at h2
  rw [midI, midI' a a' ha, w64 (by omega) (by omega)]
  obtain ⟨k1, s1, n1, l1⟩ := t
  obtain ⟨k2, s2, n2, l2⟩ := u
  refine ⟨⟨rfl, by omega, h3, rfl⟩, ⟨rfl, by omega, h4, rfl⟩, _, h1, z00 (fun h => z01 ?_) (fun h => ?_)⟩
  · rw [z1j, show z1t (.mk k1 s1 n1 l1) (.mk k2 s2 n2 l2) = false by simpa using h, Bool.false_and]
  · rw [z1j, show z1t (.mk k1 s1 n1 l1) (.mk k2 s2 n2 l2) = true by simpa using h, Bool.true_and]; exact h2
theorem zi5 : ∀ a : Tm, a.sz ≤ B → ∀ b : Tm, AC Tryd.prog 34 [aT a, aT b] [] (cb (z1t a b)) [] := by
 refine Tm.ind fun a ih hs b => ?_
 obtain ⟨k, s, n, l⟩ := a
 obtain ⟨k', s', n', l'⟩ := b
 have hl := Tm.szs_length l
 simp only [Tm.sz, B] at hs
 refine AC.vc hP sh lv34 (Nat.le_refl _) (by simp) (by simp) (Eq.mpr (v34 k s n (FTs l) k' s' n' (FTs l') _ _) ?_)
 have key := fun he => l_same k s n k' s' n' l [] l' [] (fun u hu v _ => ih u hu (by have := Tm.szs_mem hu; simp only [B]; omega) v) (by simp only [List.nil_append, B]; omega) rfl he
 rw [lenI, lenI]
 refine z00 (fun h => z01 ?_) (fun h => z00 (fun h2 => z01 ?_) (fun h2 => z00 (fun h3 => z01 ?_) (fun h3 => ⟨rfl, rfl, z00 (fun h4 => z01 ?_) (fun h4 => ?_)⟩)))
 · simp only [z1t, show (k == k') = false by simpa using h, Bool.false_and]
 · simp only [z1t, show (s == s') = false by simpa using h2, Bool.false_and, Bool.and_false]
 · simp only [z1t, show (n == n') = false by simpa using h3, Bool.false_and, Bool.and_false]
 · rw [z1t, z3x (by intro e; simp [e] at h4)]; simp
 · simp only [z1t, show (k == k') = true by simpa using h, show (s == s') = true by simpa using h2, show (n == n') = true by simpa using h3, Bool.true_and]
   exact key (by have : (l.length : Int) = l'.length := by simpa using h4
                 omega)
def Tm.inner (t : Tm) : Bool := t.k == 5 || t.k == 6
def Tm.kids (t : Tm) : List Tm := if t.inner = true then t.l else []
def Tm.by (t : Tm) : Int := if t.k == 5 then 1 else 0
end Go.AM

namespace Go.AM
open Go.ChangeShapes Go.WideShapes Go.ChangeAt Go.RowKit
section
variable {H : Type} {enc : TypeId × Value → H} {P : Program} {w : World}
theorem z2v {n : Int} (h : (Lit.int .i64 n).wf = true) : -9223372036854775808 ≤ n ∧ n ≤ 9223372036854775807 := by
 simp only [Lit.wf, IntKind.min, IntKind.max, IntKind.signed, IntKind.bits, Bool.and_eq_true, decide_eq_true_eq, if_true] at h; omega
abbrev TmI := { t : Tm // okI t }
theorem z7b : ∀ l : List TmI, Tm.bks (l.map (·.1)) = z2p (fun t : TmI => t.1.bk) l
 | [] => rfl
 | t :: l => by rw [List.map_cons, Tm.bks, z2p, z7b l]
theorem zf1 (l : List TmI) : okIs (l.map (·.1)) := zjk fun t ht => by
 obtain ⟨u, _, rfl⟩ := List.mem_map.1 ht
 exact u.2
theorem zft {b : DataW H → Nat} {bs : List (DataW H) → Nat} (hb : Bulk b bs) {T : TypeId} {f0 f1 f2 f3 : Field} (hT : TmTy P T f0 f1 f2 f3) : ∀ fuel, RdN enc P w b fuel T (fun t : TmI => FT t.1) (fun t => t.1.bk) := by
 intro fuel
 induction fuel using Nat.strongRecOn with
 | _ fuel ih =>
  intro cs x h
  obtain ⟨xs, n, rfl, rfl, hl, hxl, hf⟩ := DataW.trod_struct hT.str h
  rw [hT.cT] at hl
  match cs, hl with
  | [v0, v1, v2, v3], _ =>
  match xs, hxl with
  | [x0, x1, x2, x3], _ =>
  have g0 := hf 0 f0 rfl
  have g1 := hf 1 f1 rfl
  have g2 := hf 2 f2 rfl
  have g3 := hf 3 f3 rfl
  rw [hT.o0, hT.c0] at g0
  rw [hT.o1, hT.c1] at g1
  rw [hT.o2, hT.c2] at g2
  rw [hT.o3, hT.c3] at g3
  obtain ⟨k, r0, _⟩ := rd_int (b := b) hT.u0 hb.one n _ _ g0
  obtain ⟨s, r1, z1⟩ := rd_str (b := b) hT.u1 hb.str n _ _ g1
  have z1 : s.length + 1 ≤ b x1.1 := z1
  obtain ⟨m, r2, _⟩ := z6t (b := b) hT.u2 hb.one n _ _ g2
  obtain ⟨l, r3, z3⟩ := z6e (F := fun t : TmI => FT t.1) (sz := fun t : TmI => t.1.bk) hb.cons hb.one hb.slice hT.u3 hT.cT (by omega) (fun t => zbw t.1) (fun k hk => ih k (by omega)) _ _ g3
  have z3 : z2p (fun t : TmI => t.1.bk) l + 1 ≤ b x3.1 := z3
  refine ⟨⟨.mk k s m.1 (l.map (·.1)), z2v m.2, zf1 l⟩, ?_, ?_⟩
  · have e : FTs (l.map (·.1)) = l.map fun t : TmI => FT t.1 := by rw [z7p, List.map_map]; rfl
    show LRep (FRep w z43) (FT (.mk k s m.1 (l.map (·.1)))) _
    rw [FT, e]
    exact .cons (LRep.one r0) (.cons (LRep.one r1) (.cons (LRep.one r2) (.cons (LRep.one r3) .nil)))
  · have := hb.one x0.1
    show Tm.bk (.mk k s m.1 (l.map (·.1))) ≤ b (.agg [x0.1, x1.1, x2.1, x3.1])
    simp only [Tm.bk, z7b]
    have h9 := hb.agg [x0.1, x1.1, x2.1, x3.1]
    simp only [hb.cons, hb.nil] at h9
    omega
end
end Go.AM

namespace Go.AM
open Go.ChangeShapes Go.WideShapes Go.ChangeAt Go.RowKit
end Go.AM

namespace Go.AM
open Go.ChangeShapes Go.WideShapes Go.ChangeAt Go.RowKit
mutual
inductive Cd where
 | mk (nm : List UInt8) (ar fr vs sl : Int) (ins : List In1)
inductive In1 where
 | mk (k a : Int) (t : Tm) (l : List Tm) (c : List Cd)
end
namespace Cd
def nm : Cd → List UInt8 | .mk x _ _ _ _ _ => x
def ar : Cd → Int | .mk _ x _ _ _ _ => x
def fr : Cd → Int | .mk _ _ x _ _ _ => x
def vs : Cd → Int | .mk _ _ _ x _ _ => x
def sl : Cd → Int | .mk _ _ _ _ x _ => x
def ins : Cd → List In1 | .mk _ _ _ _ _ x => x
end Cd
namespace In1
def k : In1 → Int | .mk x _ _ _ _ => x
def a : In1 → Int | .mk _ x _ _ _ => x
def t : In1 → Tm | .mk _ _ x _ _ => x
def l : In1 → List Tm | .mk _ _ _ x _ => x
def c : In1 → List Cd | .mk _ _ _ _ x => x
end In1
instance : Inhabited Cd := ⟨.mk [] 0 0 0 0 []⟩
instance : Inhabited In1 := ⟨.mk 0 0 default [] []⟩
mutual
def FC : Cd → List FV
 | .mk nm ar fr vs sl ins => [.str nm, .int .i64 ar, .int .i64 fr, .int .i64 vs, .int .i64 sl, .sl false 8 (FIs ins)]
def FI : In1 → List FV
 | .mk k a t l c => [.int .i64 k, .int .i64 a, .int .i64 t.k, .str t.s, .int .i64 t.n, .sl false 4 (FTs t.l), .sl false 4 (FTs l), .sl false 6 (FCs c)]
def FIs : List In1 → List (List FV)
 | [] => []
 | x :: l => FI x :: FIs l
def FCs : List Cd → List (List FV)
 | [] => []
 | x :: l => FC x :: FCs l
end
theorem za5 : ∀ l : List In1, FIs l = l.map FI
 | [] => by rw [FIs]; rfl
 | x :: l => by rw [FIs, za5 l]; rfl
theorem zah : ∀ l : List Cd, FCs l = l.map FC
 | [] => by rw [FCs]; rfl
 | x :: l => by rw [FCs, zah l]; rfl
theorem zk4 (c : Cd) : (FC c).length = 6 := by cases c; simp [FC]
theorem zjd (x : In1) : (FI x).length = 8 := by cases x; simp [FI]
theorem z02 (l : List In1) : (FIs l).length = l.length := by rw [za5, List.length_map]
theorem z03 (l : List Cd) : (FCs l).length = l.length := by rw [zah, List.length_map]
mutual
def Cd.sz : Cd → Nat
 | .mk nm _ _ _ _ ins => 1 + nm.length + In1.szs ins
def In1.sz1 : In1 → Nat
 | .mk _ _ t l c => 1 + t.bk + Tm.bks l + Cd.szs c
def In1.szs : List In1 → Nat
 | [] => 0
 | x :: l => In1.sz1 x + In1.szs l
def Cd.szs : List Cd → Nat
 | [] => 0
 | x :: l => Cd.sz x + Cd.szs l
end
theorem Cd.szs_mem : ∀ {l : List Cd} {c : Cd}, c ∈ l → c.sz ≤ Cd.szs l
 | x :: l, c, h => by
  rcases List.mem_cons.1 h with rfl | h
  · simp only [Cd.szs]; omega
  · have := Cd.szs_mem h; simp only [Cd.szs]; omega
theorem In1.szs_mem : ∀ {l : List In1} {c : In1}, c ∈ l → c.sz1 ≤ In1.szs l
 | x :: l, c, h => by
  rcases List.mem_cons.1 h with rfl | h
  · simp only [In1.szs]; omega
  · have := In1.szs_mem h; simp only [In1.szs]; omega
theorem In1.szs_length : ∀ l : List In1, l.length ≤ In1.szs l
 | [] => Nat.le_refl _
 | x :: l => by have := In1.szs_length l; cases x; simp only [List.length_cons, In1.szs, In1.sz1]; omega
theorem Cd.szs_length : ∀ l : List Cd, l.length ≤ Cd.szs l
 | [] => Nat.le_refl _
 | x :: l => by have := Cd.szs_length l; cases x; simp only [List.length_cons, Cd.szs, Cd.sz]; omega
theorem Cd.ind {P : Cd → Prop} (h : ∀ c, (∀ x ∈ c.ins, ∀ d ∈ x.c, P d) → P c) : ∀ c, P c := by
 have key : ∀ n c, Cd.sz c ≤ n → P c := by
  intro n
  induction n with
  | zero => intro c hc; cases c; simp only [Cd.sz] at hc; omega
  | succ n ih =>
   intro c hc
   refine h c fun x hx d hd => ih d ?_
   have h1 := In1.szs_mem hx
   have h2 := Cd.szs_mem hd
   cases c; cases x
   simp only [Cd.sz, Cd.ins, In1.sz1, In1.c] at *
   omega
 exact fun c => key _ c (Nat.le_refl _)
mutual
def okCd : Cd → Prop
 | .mk _ ar fr vs sl ins => (-9223372036854775808 ≤ ar ∧ ar ≤ 9223372036854775807) ∧ (-9223372036854775808 ≤ fr ∧ fr ≤ 9223372036854775807) ∧ (-9223372036854775808 ≤ vs ∧ vs ≤ 9223372036854775807) ∧ (-9223372036854775808 ≤ sl ∧ sl ≤ 9223372036854775807) ∧ z4q ins
def okIn : In1 → Prop
 | .mk k a t l c => (-9223372036854775808 ≤ k ∧ k ≤ 9223372036854775807) ∧ (-9223372036854775808 ≤ a ∧ a ≤ 9223372036854775807) ∧ okI t ∧ okIs l ∧ z7y c
def z4q : List In1 → Prop
 | [] => True
 | x :: l => okIn x ∧ z4q l
def z7y : List Cd → Prop
 | [] => True
 | x :: l => okCd x ∧ z7y l
end
theorem zfc : ∀ {l : List In1}, (∀ x ∈ l, okIn x) → z4q l
 | [], _ => by rw [z4q]; trivial
 | x :: l, h => by rw [z4q]; exact ⟨h x List.mem_cons_self, zfc fun u hu => h u (List.mem_cons_of_mem _ hu)⟩
theorem zer : ∀ {l : List Cd}, (∀ x ∈ l, okCd x) → z7y l
 | [], _ => by rw [z7y]; trivial
 | x :: l, h => by rw [z7y]; exact ⟨h x List.mem_cons_self, zer fun u hu => h u (List.mem_cons_of_mem _ hu)⟩
theorem z3i : ∀ {l : List In1} {x : In1}, z4q l → x ∈ l → okIn x
 | y :: l, x, h, hm => by
  rw [z4q] at h
  rcases List.mem_cons.1 hm with rfl | hm
  · exact h.1
  · exact z3i h.2 hm
theorem z7k : ∀ {l : List Cd} {x : Cd}, z7y l → x ∈ l → okCd x
 | y :: l, x, h, hm => by
  rw [z7y] at h
  rcases List.mem_cons.1 hm with rfl | hm
  · exact h.1
  · exact z7k h.2 hm
abbrev CdI := { c : Cd // okCd c }
abbrev InI := { x : In1 // okIn x }
abbrev aC (c : Cd) : TV := .agg [.a (.fz (.str c.nm)), .a (.fz (.int .i64 c.ar)), .a (.fz (.int .i64 c.fr)), .a (.fz (.int .i64 c.vs)), .a (.fz (.int .i64 c.sl)), .a (.fz (.sl false 8 (FIs c.ins)))]
abbrev aCs (l : List Cd) : TV := .c (.a (.fz (.sl false 6 (FCs l))))
theorem FC_eta (c : Cd) : FC c = [.str c.nm, .int .i64 c.ar, .int .i64 c.fr, .int .i64 c.vs, .int .i64 c.sl, .sl false 8 (FIs c.ins)] := by cases c; rw [FC]; rfl
theorem FI_eta (x : In1) : FI x = [.int .i64 x.k, .int .i64 x.a, .int .i64 x.t.k, .str x.t.s, .int .i64 x.t.n, .sl false 4 (FTs x.t.l), .sl false 4 (FTs x.l), .sl false 6 (FCs x.c)] := by cases x; rw [FI]; rfl
section
variable {H : Type} {enc : TypeId × Value → H} {P : Program} {w : World}
structure CdTy (P : Program) (TC TI TT : TypeId) (f0 f1 f2 f3 f4 f5 g0 g1 g2 g3 g4 : Field) : Prop where
 str : P.underlying TC = some (.struct #[f0, f1, f2, f3, f4, f5])
 u0 : P.underlying f0.type = some .string
 u1 : P.underlying f1.type = some (.int .i64)
 u2 : P.underlying f2.type = some (.int .i64)
 u3 : P.underlying f3.type = some (.int .i64)
 u4 : P.underlying f4.type = some (.int .i64)
 u5 : P.underlying f5.type = some (.slice TI)
 o : f0.offset = 0 ∧ f1.offset = 1 ∧ f2.offset = 2 ∧ f3.offset = 3 ∧ f4.offset = 4 ∧ f5.offset = 5
 c : P.cellsOf f0.type = 1 ∧ P.cellsOf f1.type = 1 ∧ P.cellsOf f2.type = 1 ∧ P.cellsOf f3.type = 1 ∧ P.cellsOf f4.type = 1 ∧ P.cellsOf f5.type = 1
 cT : P.cellsOf TC = 6
 istr : P.underlying TI = some (.struct #[g0, g1, g2, g3, g4])
 v0 : P.underlying g0.type = some (.int .i64)
 v1 : P.underlying g1.type = some (.int .i64)
 v2 : g2.type = TT
 v3 : P.underlying g3.type = some (.slice TT)
 v4 : P.underlying g4.type = some (.slice TC)
 io : g0.offset = 0 ∧ g1.offset = 1 ∧ g2.offset = 2 ∧ g3.offset = 6 ∧ g4.offset = 7
 ic : P.cellsOf g0.type = 1 ∧ P.cellsOf g1.type = 1 ∧ P.cellsOf g3.type = 1 ∧ P.cellsOf g4.type = 1
 icT : P.cellsOf TI = 8
theorem zcd : ∀ l : List InI, In1.szs (l.map (·.1)) = z2p (fun x : InI => x.1.sz1) l
 | [] => by simp [In1.szs, z2p]
 | t :: l => by rw [List.map_cons, In1.szs, z2p, zcd l]
theorem zbc : ∀ l : List CdI, Cd.szs (l.map (·.1)) = z2p (fun x : CdI => x.1.sz) l
 | [] => by simp [Cd.szs, z2p]
 | t :: l => by rw [List.map_cons, Cd.szs, z2p, zbc l]
theorem rd_cd {b : DataW H → Nat} {bs : List (DataW H) → Nat} (hb : Bulk b bs) {TC TI TT : TypeId} {h0 h1 h2 h3 f0 f1 f2 f3 f4 f5 g0 g1 g2 g3 g4 : Field} (hT : TmTy P TT h0 h1 h2 h3) (hC : CdTy P TC TI TT f0 f1 f2 f3 f4 f5 g0 g1 g2 g3 g4) :
  ∀ fuel, RdN enc P w b fuel TC (fun c : CdI => FC c.1) (fun c => c.1.sz) ∧ RdN enc P w b fuel TI (fun x : InI => FI x.1) (fun x => x.1.sz1) := by
 intro fuel
 induction fuel using Nat.strongRecOn with
 | _ fuel ih =>
  refine ⟨fun cs x h => ?_, fun cs x h => ?_⟩
  · obtain ⟨xs, n, rfl, rfl, hl, hxl, hf⟩ := DataW.trod_struct hC.str h
    rw [hC.cT] at hl
    match cs, hl with
    | [v0, v1, v2, v3, v4, v5], _ =>
    match xs, hxl with
    | [x0, x1, x2, x3, x4, x5], _ =>
    have q0 := hf 0 f0 rfl
    have q1 := hf 1 f1 rfl
    have q2 := hf 2 f2 rfl
    have q3 := hf 3 f3 rfl
    have q4 := hf 4 f4 rfl
    have q5 := hf 5 f5 rfl
    rw [hC.o.1, hC.c.1] at q0
    rw [hC.o.2.1, hC.c.2.1] at q1
    rw [hC.o.2.2.1, hC.c.2.2.1] at q2
    rw [hC.o.2.2.2.1, hC.c.2.2.2.1] at q3
    rw [hC.o.2.2.2.2.1, hC.c.2.2.2.2.1] at q4
    rw [hC.o.2.2.2.2.2, hC.c.2.2.2.2.2] at q5
    obtain ⟨s, r0, z0⟩ := rd_str (b := b) hC.u0 hb.str n _ _ q0
    obtain ⟨i1, r1, z1⟩ := z6t (b := b) hC.u1 hb.one n _ _ q1
    obtain ⟨i2, r2, z2⟩ := z6t (b := b) hC.u2 hb.one n _ _ q2
    obtain ⟨i3, r3, z3⟩ := z6t (b := b) hC.u3 hb.one n _ _ q3
    obtain ⟨i4, r4, z4⟩ := z6t (b := b) hC.u4 hb.one n _ _ q4
    obtain ⟨l, r5, z5⟩ := z6e (F := fun x : InI => FI x.1) (sz := fun x : InI => x.1.sz1) hb.cons hb.one hb.slice hC.u5 hC.icT (by omega) (fun x => zjd x.1) (fun k hk => (ih k (by omega)).2) _ _ q5
    have z0 : s.length + 1 ≤ b x0.1 := z0
    have z5 : z2p (fun x : InI => x.1.sz1) l + 1 ≤ b x5.1 := z5
    refine ⟨⟨.mk s i1.1 i2.1 i3.1 i4.1 (l.map (·.1)), by rw [okCd]; exact ⟨z2v i1.2, z2v i2.2, z2v i3.2, z2v i4.2, zfc fun x hx => by obtain ⟨u, _, rfl⟩ := List.mem_map.1 hx; exact u.2⟩⟩, ?_, ?_⟩
    · have e : FIs (l.map (·.1)) = l.map fun x : InI => FI x.1 := by rw [za5, List.map_map]; rfl
      show LRep (FRep w z43) (FC (.mk s i1.1 i2.1 i3.1 i4.1 (l.map (·.1)))) _
      rw [FC, e]
      exact .cons (LRep.one r0) (.cons (LRep.one r1) (.cons (LRep.one r2) (.cons (LRep.one r3) (.cons (LRep.one r4) (.cons (LRep.one r5) .nil)))))
    · show Cd.sz (.mk s i1.1 i2.1 i3.1 i4.1 (l.map (·.1))) ≤ b (.agg [x0.1, x1.1, x2.1, x3.1, x4.1, x5.1])
      have h9 := hb.agg [x0.1, x1.1, x2.1, x3.1, x4.1, x5.1]
      simp only [hb.cons, hb.nil] at h9
      rw [Cd.sz, zcd]
      omega
  · obtain ⟨xs, n, rfl, rfl, hl, hxl, hf⟩ := DataW.trod_struct hC.istr h
    rw [hC.icT] at hl
    match cs, hl with
    | [v0, v1, v2, v3, v4, v5, v6, v7], _ =>
    match xs, hxl with
    | [x0, x1, x2, x3, x4], _ =>
    have q0 := hf 0 g0 rfl
    have q1 := hf 1 g1 rfl
    have q2 := hf 2 g2 rfl
    have q3 := hf 3 g3 rfl
    have q4 := hf 4 g4 rfl
    rw [hC.io.1, hC.ic.1] at q0
    rw [hC.io.2.1, hC.ic.2.1] at q1
    rw [hC.io.2.2.1, hC.v2, hT.cT] at q2
    rw [hC.io.2.2.2.1, hC.ic.2.2.1] at q3
    rw [hC.io.2.2.2.2, hC.ic.2.2.2] at q4
    obtain ⟨k, r0, z0⟩ := z6t (b := b) hC.v0 hb.one n _ _ q0
    obtain ⟨a, r1, z1⟩ := z6t (b := b) hC.v1 hb.one n _ _ q1
    obtain ⟨t, r2, z2⟩ := zft hb hT n _ _ q2
    obtain ⟨l, r3, z3⟩ := z6e (F := fun x : TmI => FT x.1) (sz := fun x : TmI => x.1.bk) hb.cons hb.one hb.slice hC.v3 hT.cT (by omega) (fun x => zbw x.1) (fun k hk => zft hb hT k) _ _ q3
    obtain ⟨c, r4, z4⟩ := z6e (F := fun x : CdI => FC x.1) (sz := fun x : CdI => x.1.sz) hb.cons hb.one hb.slice hC.v4 hC.cT (by omega) (fun x => zk4 x.1) (fun k hk => (ih k (by omega)).1) _ _ q4
    have z2 : t.1.bk ≤ b x2.1 := z2
    have z3 : z2p (fun x : TmI => x.1.bk) l + 1 ≤ b x3.1 := z3
    have z4 : z2p (fun x : CdI => x.1.sz) c + 1 ≤ b x4.1 := z4
    refine ⟨⟨.mk k.1 a.1 t.1 (l.map (·.1)) (c.map (·.1)), by rw [okIn]; exact ⟨z2v k.2, z2v a.2, t.2, zf1 l, zer fun x hx => by obtain ⟨u, _, rfl⟩ := List.mem_map.1 hx; exact u.2⟩⟩, ?_, ?_⟩
    · have e : FTs (l.map (·.1)) = l.map fun x : TmI => FT x.1 := by rw [z7p, List.map_map]; rfl
      have e2 : FCs (c.map (·.1)) = c.map fun x : CdI => FC x.1 := by rw [zah, List.map_map]; rfl
      have r2 : LRep (FRep w z43) (FT t.1) [v2, v3, v4, v5] := r2
      rw [FT_eta] at r2
      show LRep (FRep w z43) (FI (.mk k.1 a.1 t.1 (l.map (·.1)) (c.map (·.1)))) _
      rw [FI, e, e2]
      obtain ⟨w2, ws2, e3, s2, r2⟩ := r2.cons_inv
      obtain ⟨w3, ws3, e4, s3, r2⟩ := r2.cons_inv
      obtain ⟨w4, ws4, e5, s4, r2⟩ := r2.cons_inv
      obtain ⟨w5, ws5, e6, s5, r2⟩ := r2.cons_inv
      simp only [List.cons.injEq] at e3
      obtain ⟨rfl, rfl⟩ := e3
      simp only [List.cons.injEq] at e4
      obtain ⟨rfl, rfl⟩ := e4
      simp only [List.cons.injEq] at e5
      obtain ⟨rfl, rfl⟩ := e5
      simp only [List.cons.injEq] at e6
      obtain ⟨rfl, _⟩ := e6
      exact .cons (LRep.one r0) (.cons (LRep.one r1) (.cons s2 (.cons s3 (.cons s4 (.cons s5 (.cons (LRep.one r3) (.cons (LRep.one r4) .nil)))))))
    · show In1.sz1 (.mk k.1 a.1 t.1 (l.map (·.1)) (c.map (·.1))) ≤ b (.agg [x0.1, x1.1, x2.1, x3.1, x4.1])
      have h9 := hb.agg [x0.1, x1.1, x2.1, x3.1, x4.1]
      simp only [hb.cons, hb.nil] at h9
      rw [In1.sz1, zbc, z7b]
      have := hb.one x0.1
      omega
theorem zhd {b : DataW H → Nat} {bs : List (DataW H) → Nat} (hb : Bulk b bs) {TC TI TT : TypeId} {h0 h1 h2 h3 f0 f1 f2 f3 f4 f5 g0 g1 g2 g3 g4 : Field} (hT : TmTy P TT h0 h1 h2 h3) (hC : CdTy P TC TI TT f0 f1 f2 f3 f4 f5 g0 g1 g2 g3 g4) {r : Reach} {base : Nat} {v : Value} {d : DataW H} {ps : List MemPlace}
  (hv : Value.okWide P w r base TC v) (hd : DataW.Trod enc P w 0 (fun _ => true) true TC v d ps) : ∃ c : Cd, TRep w z43 β0 (aC c) v ∧ c.sz ≤ b d ∧ okCd c := by
 obtain ⟨cs, rfl, _⟩ := okWide_struct hC.str hv
 obtain ⟨fuel, hf⟩ := hd
 obtain ⟨c, h1, h2⟩ := (rd_cd hb hT hC fuel).1 _ _ hf
 refine ⟨c.1, ⟨cs.toList, by simp, ?_⟩, h2, c.2⟩
 have h1 : LRep (FRep w z43) (FC c.1) cs.toList := h1
 rw [FC_eta] at h1
 exact h1.map (g := fun x => WV.a (.fz x)) fun c u _ h => .a _ _ (.fz _ _ h)
end
end Go.AM

set_option maxRecDepth 100000
open Go Go.Proofs
namespace Go.AM
theorem z35 (a : List Cd) (c : Cd) (b : List Cd) : List.getD (FCs (a ++ c :: b)) (Int.toNat (a.length : Int)) [] = FC c := by
 rw [show Int.toNat (a.length : Int) = a.length by omega, zah]; simp [List.getD]
theorem z1d (a : List In1) (c : In1) (b : List In1) : List.getD (FIs (a ++ c :: b)) (Int.toNat (a.length : Int)) [] = FI c := by
 rw [show Int.toNat (a.length : Int) = a.length by omega, za5]; simp [List.getD]
abbrev aCr (r : List FV) : TV := .agg [.a (.fz (.str (FV.asS (List.getD r 0 FV.nils)))), .a (.fz (.int .i64 (FV.asI (List.getD r 1 FV.nils)))), .a (.fz (.int .i64 (FV.asI (List.getD r 2 FV.nils)))), .a (.fz (.int .i64 (FV.asI (List.getD r 3 FV.nils)))), .a (.fz (.int .i64 (FV.asI (List.getD r 4 FV.nils)))), .a (.fz (List.getD r 5 FV.nils))]
theorem z2j (c : Cd) : aCr (FC c) = aC c := by cases c; rw [FC]; rfl
abbrev fCr (r : List FV) : List FV := [.str (FV.asS (List.getD r 0 FV.nils)), .int .i64 (FV.asI (List.getD r 1 FV.nils)), .int .i64 (FV.asI (List.getD r 2 FV.nils)), .int .i64 (FV.asI (List.getD r 3 FV.nils)), .int .i64 (FV.asI (List.getD r 4 FV.nils)), List.getD r 5 FV.nils]
theorem z95 (c : Cd) : fCr (FC c) = FC c := by cases c; rw [FC]; rfl
abbrev fIr (r : List FV) : List FV := [.int .i64 (FV.asI (List.getD r 0 FV.nils)), .int .i64 (FV.asI (List.getD r 1 FV.nils)), .int .i64 (FV.asI (List.getD r 2 FV.nils)), .str (FV.asS (List.getD r 3 FV.nils)), .int .i64 (FV.asI (List.getD r 4 FV.nils)), List.getD r 5 FV.nils, List.getD r 6 FV.nils, List.getD r 7 FV.nils]
theorem fIr_FI (x : In1) : fIr (FI x) = FI x := by cases x; rw [FI]; rfl
abbrev aIt (r : List FV) : TV := .agg [.a (.fz (.int .i64 (FV.asI (List.getD r 2 FV.nils)))), .a (.fz (.str (FV.asS (List.getD r 3 FV.nils)))), .a (.fz (.int .i64 (FV.asI (List.getD r 4 FV.nils)))), .a (.fz (List.getD r 5 FV.nils))]
theorem aIt_FI (x : In1) : aIt (FI x) = aT x.t := by cases x; rw [FI]; rfl
theorem FI6 (x : In1) : List.getD (FI x) 6 FV.nils = .sl false 4 (FTs x.l) := by cases x; rw [FI]; rfl
theorem FI7 (x : In1) : List.getD (FI x) 7 FV.nils = .sl false 6 (FCs x.c) := by cases x; rw [FI]; rfl
theorem FI3 (x : In1) : FV.asS (List.getD (FI x) 3 FV.nils) = x.t.s := by cases x; rw [FI]; rfl
theorem FI0 (x : In1) : FV.asI (List.getD (FI x) 0 FV.nils) = x.k := by cases x; rw [FI]; rfl
theorem FI1 (x : In1) : FV.asI (List.getD (FI x) 1 FV.nils) = x.a := by cases x; rw [FI]; rfl
abbrev cCd (c : Cd) : List WV := [.a (.fz (.str c.nm)), .a (.fz (.int .i64 c.ar)), .a (.fz (.int .i64 c.fr)), .a (.fz (.int .i64 c.vs)), .a (.fz (.int .i64 c.sl)), .a (.fz (.sl false 8 (FIs c.ins)))]
abbrev cIn (x : In1) : List WV := [.a (.fz (.int .i64 x.k)), .a (.fz (.int .i64 x.a)), .a (.fz (.int .i64 x.t.k)), .a (.fz (.str x.t.s)), .a (.fz (.int .i64 x.t.n)), .a (.fz (.sl false 4 (FTs x.t.l))), .a (.fz (.sl false 4 (FTs x.l))), .a (.fz (.sl false 6 (FCs x.c)))]
abbrev cIr (r : List FV) : List WV := [.a (.fz (.int .i64 (FV.asI (List.getD r 0 FV.nils)))), .a (.fz (.int .i64 (FV.asI (List.getD r 1 FV.nils)))), .a (.fz (.int .i64 (FV.asI (List.getD r 2 FV.nils)))), .a (.fz (.str (FV.asS (List.getD r 3 FV.nils)))), .a (.fz (.int .i64 (FV.asI (List.getD r 4 FV.nils)))), .a (.fz (List.getD r 5 FV.nils)), .a (.fz (List.getD r 6 FV.nils)), .a (.fz (List.getD r 7 FV.nils))]
theorem cIr_FI (x : In1) : cIr (FI x) = cIn x := by cases x; rw [FI]; rfl
def badL (l : List Tm) : Bool := l.any fun t => z80 t 40 || !near 1048576 t
def z7n (t : Tm) (l : List Tm) : Bool := z80 t 40 || (!near 1048576 t || (decide ((l.length : Int) > 4) || (decide ((t.s.length : Int) > 60) || badL l)))
mutual
def z26 : Cd → Int → Int
 | .mk _ _ _ _ _ ins, m => z0s ins (m - 1)
def z0s : List In1 → Int → Int
 | [], n => n
 | .mk _ _ t l c :: is, n => if n < 0 then n else if z7n t l = true then 0 - 1 else z0s is (z0b c (n - 1))
def z0b : List Cd → Int → Int
 | [], n => n
 | c :: cs, n => if n < 0 then n else z0b cs (z26 c n)
end
theorem leftC_eq (c : Cd) (m : Int) : z26 c m = z0s c.ins (m - 1) := by cases c; rw [z26]; rfl
theorem z76 (x : In1) (is : List In1) (n : Int) : z0s (x :: is) n = if n < 0 then n else if z7n x.t x.l = true then 0 - 1 else z0s is (z0b x.c (n - 1)) := by cases x; rw [z0s]; rfl
mutual
theorem za4 : ∀ (c : Cd) (m : Int), 0 ≤ m → 0 - 1 ≤ z26 c m ∧ z26 c m ≤ m
 | .mk _ _ _ _ _ ins, m, h => by
  have := z6g ins (m - 1) (by omega)
  rw [z26]; omega
theorem z6g : ∀ (l : List In1) (n : Int), 0 - 1 ≤ n → 0 - 1 ≤ z0s l n ∧ z0s l n ≤ n
 | [], n, h => by rw [z0s]; omega
 | .mk _ _ t l c :: is, n, h => by
  rw [z0s]
  split
  · omega
  · split
    · omega
    · have h1 := z4l c (n - 1) (by omega)
      have h2 := z6g is (z0b c (n - 1)) h1.1
      omega
theorem z4l : ∀ (l : List Cd) (n : Int), 0 - 1 ≤ n → 0 - 1 ≤ z0b l n ∧ z0b l n ≤ n
 | [], n, h => by rw [z0b]; omega
 | c :: cs, n, h => by
  rw [z0b]
  split
  · omega
  · have h1 := za4 c n (by omega)
    have h2 := z4l cs (z26 c n) h1.1
    omega
end
theorem z8u {n : Int} (h : n < 0) : ∀ l : List In1, z0s l n = n
 | [] => by rw [z0s]
 | x :: l => by rw [z76, if_pos h]
theorem zeo (c : Cd) (x : In1) (i : Int) (r : TV) : ∀ (b a : List Cd) (n : Int), x.c = a ++ b → x.c.length ≤ B → (∀ d ∈ b, ∀ m : Int, 0 ≤ m → m ≤ 4611686018427387904 → AC Tryd.prog 36 [aC d, ci m] [] (ci (z26 d m)) []) → 0 - 1 ≤ n → n ≤ 4611686018427387904 → 0 ≤ i → i ≤ B →
  RPt Tryd.prog 36 0 r [] 1 ⟨[(2, .c (.a (.ep 0 6 0 0))), (5, ci (z0b b n)), (6, ci (i + 1))], [(0, .arr 6 [cCd c])], 1⟩ →
  RPt Tryd.prog 36 0 r [] 9 ⟨[(2, .c (.a (.ep 0 6 0 0))), (5, ci n), (6, ci i), (7, .c (.a (.ep 1 8 0 0))), (11, ci a.length)], [(0, .arr 6 [cCd c]), (1, .arr 8 [cIn x])], 2⟩
 | [], a, n, hx, hB, ih, h0, h1, hi, hi2, hk => by
  refine RPt.vc hP sh lv36 (Eq.mpr (v36_9a n i a.length ..) ?_)
  rw [z0b] at hk
  simp only [B] at hi2
  rw [w64 (x := i + 1) (by omega) (by omega)]
  refine ⟨rfl, z00 (fun h => absurd (of_decide_eq_true h) ?_) (fun _ => ?_)⟩
  · show ¬ (a.length : Int) < (((FCs x.c).length : Nat) : Int)
    rw [hx, z03]; simp
  · exact hk
 | d :: b, a, n, hx, hB, ih, h0, h1, hi, hi2, hk => by
  refine RPt.vc hP sh lv36 (Eq.mpr (v36_9a n i a.length ..) ?_)
  rw [z0b] at hk
  simp only [B] at hi2 hB
  rw [hx, List.length_append, List.length_cons] at hB
  have hlt : (a.length : Int) < (((FV.ses (.sl false 6 (FCs x.c))).length : Nat) : Int) := by show (a.length : Int) < (((FCs x.c).length : Nat) : Int); rw [hx, z03, List.length_append, List.length_cons]; omega
  rw [w64 (x := i + 1) (by omega) (by omega), w64 (x := (a.length : Int) + 1) (by omega) (by omega)]
  refine ⟨rfl, z00 (fun _ => z00 (fun hn => ?_) (fun hn => ?_)) (fun h => absurd hlt (of_decide_eq_false h))⟩
  · have hn := of_decide_eq_true hn
    have e : List.getD (FV.ses (.sl false 6 (FCs x.c))) (Int.toNat (a.length : Int)) [] = FC d := by rw [hx]; exact z35 a d b
    rw [e]
    have hc := ih d List.mem_cons_self n (by omega) h1
    have hb := za4 d n (by omega)
    rw [if_neg (by omega)] at hk
    refine ⟨⟨rfl, by omega, hlt, z95 d⟩, _, by rw [show (TV.agg [.a (.fz (.str (FV.asS (List.getD (FC d) 0 FV.nils)))), .a (.fz (.int .i64 (FV.asI (List.getD (FC d) 1 FV.nils)))), .a (.fz (.int .i64 (FV.asI (List.getD (FC d) 2 FV.nils)))), .a (.fz (.int .i64 (FV.asI (List.getD (FC d) 3 FV.nils)))), .a (.fz (.int .i64 (FV.asI (List.getD (FC d) 4 FV.nils)))), .a (.fz (List.getD (FC d) 5 FV.nils))]) = aC d from z2j d]; exact hc, ?_⟩
    have := zeo c x i r b (a ++ [d]) (z26 d n) (by rw [hx]; simp) (by rw [hx]; simp only [List.length_append, List.length_cons, B]; omega) (fun u hu => ih u (List.mem_cons_of_mem _ hu)) hb.1 (by omega) hi (by simp only [B]; omega) hk
    rw [nx] at this
    exact this
  · have hn := of_decide_eq_false hn
    rw [if_pos (by omega)] at hk
    exact hk
theorem zej (c : Cd) (x : In1) (i n : Int) (r : TV) : ∀ (b a : List Tm), x.l = a ++ b → (∀ t ∈ x.l, t.sz ≤ B) → x.l.length ≤ B →
  (badL b = true → TV.Le (ci (0 - 1)) r) → (badL b = false → RPt Tryd.prog 36 0 r [] 9 ⟨[(2, .c (.a (.ep 0 6 0 0))), (5, ci n), (6, ci i), (7, .c (.a (.ep 1 8 0 0))), (11, ci 0)], [(0, .arr 6 [cCd c]), (1, .arr 8 [cIn x])], 2⟩) →
  RPt Tryd.prog 36 0 r [] 5 ⟨[(2, .c (.a (.ep 0 6 0 0))), (5, ci n), (6, ci i), (7, .c (.a (.ep 1 8 0 0))), (10, ci a.length)], [(0, .arr 6 [cCd c]), (1, .arr 8 [cIn x])], 2⟩
 | [], a, hx, hs, hB, hb, hk => by
  refine RPt.vc hP sh lv36 (Eq.mpr (v36_5a n i a.length ..) ?_)
  refine ⟨rfl, z00 (fun h => absurd (of_decide_eq_true h) ?_) (fun _ => hk rfl)⟩
  show ¬ (a.length : Int) < (((FTs x.l).length : Nat) : Int)
  rw [hx]; exact geI' a
 | t :: b, a, hx, hs, hB, hb, hk => by
  refine RPt.vc hP sh lv36 (Eq.mpr (v36_5a n i a.length ..) ?_)
  have ht : t ∈ x.l := by rw [hx]; simp
  have hz := hs t ht
  have c1 := zhg t hz 40 (by omega) (by omega)
  have c2 := c_near 1048576 (by omega) (by omega) t hz
  have hB' := hB
  rw [hx, List.length_append, List.length_cons] at hB'
  simp only [B] at hB'
  have hlt : (a.length : Int) < (((FV.ses (.sl false 4 (FTs x.l))).length : Nat) : Int) := by show (a.length : Int) < (((FTs x.l).length : Nat) : Int); rw [hx]; exact ltI' a t b
  have next := zej c x i n r b (a ++ [t]) (by rw [hx]; simp) hs hB
  rw [nx] at next
  rw [w64 (x := (a.length : Int) + 1) (by omega) (by omega)]
  have em : rE (List.getD (FV.ses (.sl false 4 (FTs x.l))) (Int.toNat (a.length : Int)) []) = List.getD (FV.ses (.sl false 4 (FTs x.l))) (Int.toNat (a.length : Int)) [] := by rw [hx]; exact zbl a t b
  have ea : aE (List.getD (FV.ses (.sl false 4 (FTs x.l))) (Int.toNat (a.length : Int)) []) = aT t := by rw [hx]; exact zb3 a t b
  rw [ea]
  have eb : badL (t :: b) = ((z80 t 40 || !near 1048576 t) || badL b) := rfl
  refine ⟨rfl, z00 (fun _ => ⟨⟨rfl, by omega, hlt, em⟩, _, c1, ⟨rfl, by omega, hlt, em⟩, _, c2, z00 (fun h => ⟨hb (by rw [eb, h]; rfl), rfl⟩) (fun h => z00 (fun h' => ⟨hb (by rw [eb, h, h']; rfl), rfl⟩) (fun h' => ?_))⟩) (fun h => absurd hlt (of_decide_eq_false h))⟩
  have e2 : badL (t :: b) = badL b := by rw [eb, h, h']; rfl
  exact next (fun q => hb (e2.trans q)) (fun q => hk (e2.trans q))
theorem zey (c : Cd) : ∀ (b a : List In1) (n : Int), c.ins = a ++ b → c.sz ≤ B → (∀ x ∈ b, ∀ d ∈ x.c, ∀ m : Int, 0 ≤ m → m ≤ 4611686018427387904 → AC Tryd.prog 36 [aC d, ci m] [] (ci (z26 d m)) []) → 0 - 1 ≤ n → n ≤ 4611686018427387904 →
  RPt Tryd.prog 36 0 (ci (z0s b n)) [] 1 ⟨[(2, .c (.a (.ep 0 6 0 0))), (5, ci n), (6, ci a.length)], [(0, .arr 6 [cCd c])], 1⟩
 | [], a, n, hx, hz, ih, h0, h1 => by
  refine RPt.vc hP sh lv36 (Eq.mpr (zhr n a.length ..) ?_)
  rw [z0s]
  refine ⟨rfl, z00 (fun h => absurd (of_decide_eq_true h) ?_) (fun _ => z2g rfl)⟩
  rw [hx, z02]; simp
 | x :: b, a, n, hx, hz, ih, h0, h1 => by
  have hxm : x ∈ c.ins := by rw [hx]; simp
  have z1 := In1.szs_mem hxm
  have z2 := In1.szs_length c.ins
  have z3 : In1.szs c.ins ≤ B := by cases c; simp only [Cd.sz, Cd.ins, B] at *; omega
  have z4 : x.t.bk ≤ B ∧ Tm.bks x.l ≤ B ∧ Cd.szs x.c ≤ B := by cases x; simp only [In1.sz1, In1.t, In1.l, In1.c, B] at *; omega
  have z5 := Tm.sz_bk x.t
  have c1 := zhg x.t (by omega) 40 (by omega) (by omega)
  have c2 := c_near 1048576 (by omega) (by omega) x.t (by omega)
  have hl : (c.ins.length : Int) ≤ B := by omega
  rw [hx, List.length_append, List.length_cons] at hl
  simp only [B] at hl
  have hlt : (a.length : Int) < (((FIs c.ins).length : Nat) : Int) := by rw [hx, z02, List.length_append, List.length_cons]; omega
  rw [z76]
  by_cases hn : n < 0
  · rw [if_pos hn]
    refine RPt.vc hP sh lv36 (Eq.mpr (zhr n a.length ..) ?_)
    exact ⟨rfl, z00 (fun _ => z00 (fun h => absurd (of_decide_eq_true h) (by omega)) (fun _ => z2g rfl)) (fun _ => z2g rfl)⟩
  rw [if_neg hn]
  have hcs := z4l x.c (n - 1) (by omega)
  have next : z7n x.t x.l = false → RPt Tryd.prog 36 0 (ci (z0s b (z0b x.c (n - 1)))) [] 1 ⟨[(2, .c (.a (.ep 0 6 0 0))), (5, ci (z0b x.c (n - 1))), (6, ci ((a.length : Int) + 1))], [(0, .arr 6 [cCd c])], 1⟩ := fun _ => by
   have := zey c b (a ++ [x]) (z0b x.c (n - 1)) (by rw [hx]; simp) hz (fun y hy => ih y (List.mem_cons_of_mem _ hy)) hcs.1 (by omega)
   rw [nx] at this
   exact this
  have h5 : ∀ r : TV, (badL x.l = true → TV.Le (ci (0 - 1)) r) → (badL x.l = false → RPt Tryd.prog 36 0 r [] 1 ⟨[(2, .c (.a (.ep 0 6 0 0))), (5, ci (z0b x.c (n - 1))), (6, ci ((a.length : Int) + 1))], [(0, .arr 6 [cCd c])], 1⟩) →
    RPt Tryd.prog 36 0 r [] 5 ⟨[(2, .c (.a (.ep 0 6 0 0))), (5, ci (n - 1)), (6, ci a.length), (7, .c (.a (.ep 1 8 0 0))), (10, ci 0)], [(0, .arr 6 [cCd c]), (1, .arr 8 [cIn x])], 2⟩ := fun r q1 q2 => by
   have z6 := Tm.szs_bks x.l
   have z7 := Tm.szs_length x.l
   have z8 := Cd.szs_length x.c
   refine zej c x a.length (n - 1) r x.l [] (by simp) (fun t ht => by have := Tm.szs_mem ht; omega) (by omega) q1 (fun q => ?_)
   exact zeo c x a.length r x.c [] (n - 1) (by simp) (by omega) (ih x List.mem_cons_self) (by omega) (by omega) (by omega) (by simp only [B]; omega) (q2 q)
  refine RPt.vc hP sh lv36 (Eq.mpr (zhr n a.length ..) ?_)
  rw [w64 (x := n - 1) (by omega) (by omega)]
  have e : List.getD (FIs c.ins) (Int.toNat (a.length : Int)) [] = FI x := by rw [hx]; exact z1d a x b
  rw [e]
  have eb : z7n x.t x.l = (z80 x.t 40 || (!near 1048576 x.t || (decide ((x.l.length : Int) > 4) || (decide ((x.t.s.length : Int) > 60) || badL x.l)))) := rfl
  have bad : z7n x.t x.l = true → TV.Le (ci (0 - 1)) (ci (if z7n x.t x.l = true then 0 - 1 else z0s b (z0b x.c (n - 1)))) := fun q => by rw [if_pos q]; exact .refl _
  have e6 : ((((FV.ses (List.getD (FI x) 6 FV.nils)).length : Nat) : Int)) = (x.l.length : Int) := by rw [FI6]; exact lenI x.l
  have e3 := FI3 x
  refine ⟨rfl, z00 (fun _ => z00 (fun _ => ⟨⟨rfl, by omega, hlt, fIr_FI x⟩, z80 x.t 40, by rw [show (TV.agg [.a (.fz (.int .i64 (FV.asI (List.getD (FI x) 2 FV.nils)))), .a (.fz (.str (FV.asS (List.getD (FI x) 3 FV.nils)))), .a (.fz (.int .i64 (FV.asI (List.getD (FI x) 4 FV.nils)))), .a (.fz (List.getD (FI x) 5 FV.nils))]) = aT x.t from aIt_FI x]; exact c1,
   near 1048576 x.t, by rw [show (TV.agg [.a (.fz (.int .i64 (FV.asI (List.getD (FI x) 2 FV.nils)))), .a (.fz (.str (FV.asS (List.getD (FI x) 3 FV.nils)))), .a (.fz (.int .i64 (FV.asI (List.getD (FI x) 4 FV.nils)))), .a (.fz (List.getD (FI x) 5 FV.nils))]) = aT x.t from aIt_FI x]; exact c2,
   z00 (fun h => ⟨bad (by rw [eb, h]; rfl), rfl⟩) (fun h => z00 (fun h2 => ⟨bad (by rw [eb, h, h2]; rfl), rfl⟩) (fun h2 => ⟨by rw [FI6]; rfl, z00 (fun h3 => ⟨bad ?_, rfl⟩) (fun h3 => z00 (fun h4 => ⟨bad ?_, rfl⟩) (fun h4 => ?_))⟩))⟩)
   (fun h => absurd (of_decide_eq_false h) (by omega))) (fun h => absurd hlt (of_decide_eq_false h))⟩
  · rw [e6] at h3; rw [eb, h, h2, h3]; rfl
  · rw [e6] at h3; rw [e3] at h4; rw [eb, h, h2, h3, h4]; rfl
  · rw [e6] at h3; rw [e3] at h4
    have e7 : z7n x.t x.l = badL x.l := by rw [eb, h, h2, h3, h4]; rfl
    rw [e7]
    have := h5 (ci (if badL x.l = true then 0 - 1 else z0s b (z0b x.c (n - 1)))) (fun q => by rw [if_pos q]; exact .refl _) (fun q => by rw [if_neg (by rw [q]; simp)]; exact next (e7.trans q))
    rw [← cIr_FI x] at this
    exact this
theorem c_cleft : ∀ c : Cd, c.sz ≤ B → ∀ m : Int, 0 ≤ m → m ≤ 4611686018427387904 → AC Tryd.prog 36 [aC c, ci m] [] (ci (z26 c m)) [] := by
 refine Cd.ind fun c ih hz m h0 h1 => ?_
 have h := zey c c.ins [] (m - 1) (by simp) hz (fun x hx d hd m h0 h1 => ih x hx d hd (by
  have a1 := In1.szs_mem hx
  have a2 := Cd.szs_mem hd
  cases c; cases x
  simp only [Cd.sz, Cd.ins, In1.sz1, In1.c] at *
  omega) m h0 h1) (by omega) (by omega)
 rw [← leftC_eq] at h
 refine AC.vc hP sh lv36 (Nat.le_refl _) (by simp) (by simp) (Eq.mpr (v36 ..) ?_)
 rw [w64 (x := m - 1) (by omega) (by omega)]
 exact h
def zk5 (c : Cd) (m : Int) : Bool := decide (z26 c m < 0)
theorem c_clarge (c : Cd) (hz : c.sz ≤ B) (m : Int) (h0 : 0 ≤ m) (h1 : m ≤ 4611686018427387904) : AC Tryd.prog 16 [aC c, ci m] [] (cb (zk5 c m)) [] := by
 have h := c_cleft c hz m h0 h1
 refine AC.vc hP sh lv16 (Nat.le_refl _) (by simp) (by simp) (Eq.mpr (v16 ..) ?_)
 exact ⟨_, h, z01 rfl⟩
end Go.AM

set_option maxRecDepth 100000
open Go Go.Proofs
namespace Go.AM
def z6b (t : Tm) : FV := if t.inner = true then .sl false 4 (FTs t.l) else .nils
theorem zii (t : Tm) : (z6b t).ses = FTs t.kids ∧ (z6b t).isSl 4 = true := by
 unfold z6b Tm.kids
 split <;> exact ⟨rfl, rfl⟩
theorem c_within (t : Tm) : AC Tryd.prog 82 [aT t] [] (.tup [(false, [.a (.fz (z6b t))]), (false, [.a (.fz (.int .i64 t.by))])]) [] := by
 obtain ⟨k, s, n, l⟩ := t
 refine AC.vc hP sh lv82 (Nat.le_refl _) (by simp) (by simp) (Eq.mpr (v82 k s n (FTs l) _ _) ?_)
 refine z00 (fun h => ⟨?_, rfl⟩) (fun h => z00 (fun h2 => ⟨?_, rfl⟩) (fun h2 => ⟨?_, rfl⟩))
 · have e1 : z6b (.mk k s n l) = .sl false 4 (FTs l) := by unfold z6b Tm.inner; simp only [Tm.k, h, Bool.true_or, if_true, Tm.l]
   have e2 : Tm.by (.mk k s n l) = 1 := by unfold Tm.by; simp only [Tm.k, h, if_true]
   rw [e1, e2]; exact .refl _
 · have e1 : z6b (.mk k s n l) = .sl false 4 (FTs l) := by unfold z6b Tm.inner; simp only [Tm.k, h2, Bool.or_true, if_true, Tm.l]
   have e2 : Tm.by (.mk k s n l) = 0 := by unfold Tm.by; simp only [Tm.k, h, Bool.false_eq_true, if_false]
   rw [e1, e2]; exact .refl _
 · have e1 : z6b (.mk k s n l) = .nils := by unfold z6b Tm.inner; simp only [Tm.k, h, h2, Bool.or_self, Bool.false_eq_true, if_false]
   have e2 : Tm.by (.mk k s n l) = 0 := by unfold Tm.by; simp only [Tm.k, h, Bool.false_eq_true, if_false]
   rw [e1, e2]; exact .refl _
mutual
def bd (M : Int) : Tm → Prop
 | .mk k _ n l => (k = 3 → 0 - M ≤ n ∧ n ≤ M) ∧ bds M l
def bds (M : Int) : List Tm → Prop
 | [] => True
 | t :: l => bd M t ∧ bds M l
end
theorem zee {M : Int} : ∀ {l : List Tm} {t : Tm}, bds M l → t ∈ l → bd M t
 | x :: l, t, h, ht => by
  rcases List.mem_cons.1 ht with rfl | ht
  · exact h.1
  · exact zee h.2 ht
def maxI (a b : Int) : Int := if a ≤ b then b else a
theorem foldMax2 (a b : Int) : z0y [a, b] = maxI a b := by
 simp only [z0y, List.foldl, maxI, max, maxOfLe]
mutual
def z3k : Tm → Int → Int → Int
 | .mk kd _ n l, k, acc => if (kd == 5) = true then zct l (k + 1) acc else if (kd == 6) = true then zct l k acc else if (kd == 3) = true then maxI acc (n - k + 1) else acc
def zct : List Tm → Int → Int → Int
 | [], _, acc => acc
 | t :: l, k, acc => zct l k (z3k t k acc)
end
abbrev obj1 (n : Int) : AObj := .arr 1 [[.a (.fz (.int .i64 n))]]
theorem c_loose1 (u : Tm) (k acc : Int) (hb : u.k = 3 → 0 - 2305843009213693952 ≤ u.n ∧ u.n ≤ 2305843009213693952) (h0 : 0 ≤ k) (h1 : k ≤ 2305843009213693952) :
  AC Tryd.prog 69 [aT u, ci k, .c (.a (.ep 0 1 0 0))] [obj1 acc] (.tup []) [obj1 (if (u.k == 3) = true then maxI acc (u.n - k + 1) else acc)] := by
 obtain ⟨kd, s, n, l⟩ := u
 simp only [Tm.k, Tm.n] at hb
 refine AC.vc hP sh lv69 (Nat.le_refl _) (by simp [isLive]) (by simp) (Eq.mpr (v69 kd s n (FTs l) k acc _ _) ?_)
 refine z00 (fun h => ⟨.refl _, ?_⟩) (fun h => ⟨.refl _, ?_⟩)
 · have hk : kd = 3 := by simpa using h
   have := hb hk
   rw [w64 (x := n - k) (by omega) (by omega), w64 (x := n - k + 1) (by omega) (by omega), foldMax2]
   simp only [Tm.k, Tm.n, h, if_true]
 · simp only [Tm.k, h, Bool.false_eq_true, if_false]
abbrev tellL : TV := .c (.fn (.func 69) [] [(false, [.ep 0 1 0 0])])
theorem l_each (k by_ : Int) (h0 : 0 ≤ k) (hby : 0 ≤ by_) (hby1 : by_ ≤ 1) : ∀ (b a : List Tm) (v : FV) (acc : Int), v.ses = FTs (a ++ b) → v.isSl 4 = true →
  (∀ u ∈ b, ∀ acc, AC Tryd.prog 68 [aT u, ci (k + by_), tellL] [obj1 acc] (.tup []) [obj1 (z3k u (k + by_) acc)]) → (a ++ b).length ≤ B → k ≤ 2305843009213693952 →
  RPt Tryd.prog 68 1 (.tup []) [obj1 (zct b (k + by_) acc)] 1 ⟨[(1, ci k), (2, tellL), (7, ci by_), (27, .c (.a (.fz v))), (28, ci (a ++ b).length), (29, ci a.length)], [(0, obj1 acc)], 1⟩
 | [], a, v, acc, hv, hs, _, hl, hk => by
  refine RPt.vc hP sh lv68 (Eq.mpr (z9d ..) ?_)
  exact z00 (fun h => absurd (of_decide_eq_true h) (by simp)) (fun _ => ⟨.refl _, rfl⟩)
 | t :: b, a, v, acc, hv, hs, ih, hl, hk => by
  refine RPt.vc hP sh lv68 (Eq.mpr (z9d ..) ?_)
  have hl' := hl
  simp only [List.length_append, List.length_cons, B] at hl'
  have h1 := ih t List.mem_cons_self acc
  have h2 := l_each k by_ h0 hby hby1 b (a ++ [t]) v (z3k t (k + by_) acc) (by rw [ap]; exact hv) hs (fun u hu => ih u (List.mem_cons_of_mem _ hu)) (by rw [ap]; exact hl) hk
  have h3 := ltI' a t b
  rw [ap, nx] at h2
  rw [hv, midI, w64 (x := (a.length : Int) + 1) (by omega) (by omega), w64 (x := k + by_) (by omega) (by omega)]
  refine z00 (fun _ => ?_) (fun h => absurd (ltI a t b) (of_decide_eq_false h))
  obtain ⟨k', s', n', l'⟩ := t
  exact ⟨⟨hs, by omega, h3, rfl⟩, .inl ⟨_, h1, h2⟩⟩
theorem c_each : ∀ t : Tm, t.sz ≤ B → bd 2305843009213693952 t → ∀ k acc : Int, 0 ≤ k → k + t.sz ≤ 2305843009213693952 → AC Tryd.prog 68 [aT t, ci k, tellL] [obj1 acc] (.tup []) [obj1 (z3k t k acc)] := by
 refine Tm.ind fun t ih hs hb k acc h0 h1 => ?_
 have hw := c_within t
 have hk := zii t
 have hlen := Tm.szs_length t.l
 obtain ⟨kd, s, n, l⟩ := t
 simp only [Tm.sz, B, Tm.l] at hs hlen
 simp only [Tm.sz] at h1
 have key : ∀ by_ : Int, 0 ≤ by_ → by_ ≤ 1 → Tm.kids (.mk kd s n l) = l → RPt Tryd.prog 68 1 (.tup []) [obj1 (zct l (k + by_) acc)] 1 ⟨[(1, ci k), (2, tellL), (7, ci by_), (27, .c (.a (.fz (z6b (.mk kd s n l))))), (28, ci l.length), (29, ci 0)], [(0, obj1 acc)], 1⟩ := by
  intro by_ hb0 hb1 hkids
  have := l_each k by_ h0 hb0 hb1 l [] (z6b (.mk kd s n l)) acc (by rw [hk.1, hkids]; rfl) hk.2 (fun u hu acc => ih u hu (by have := Tm.szs_mem hu; simp only [B]; omega) (zee hb.2 hu) (k + by_) acc (by omega) (by have := Tm.szs_mem hu; omega)) (by simp only [List.nil_append, B]; omega) (by omega)
  simpa using this
 refine AC.vc hP sh lv68 (Nat.le_refl _) (by simp [isLive]) (by simp) (Eq.mpr (v68_F69 kd s n (FTs l) k acc _ _) ?_)
 refine z00 (fun h => z00 (fun h2 => ⟨_, c_loose1 (.mk kd s n l) k acc hb.1 h0 (by omega), .refl _, ?_⟩) (fun h2 => ⟨_, _, hw, hk.2, ?_⟩)) (fun h => ⟨_, _, hw, hk.2, ?_⟩)
 · have e1 : (kd == 5) = false := by simpa using h
   have e2 : (kd == 6) = false := by simpa using h2
   simp only [z3k, Tm.k, Tm.n, e1, e2, Bool.false_eq_true, if_false]
   rfl
 · have e1 : (kd == 5) = false := by simpa using h
   have e2 : (kd == 6) = true := by simpa using h2
   have ek : Tm.kids (.mk kd s n l) = l := by unfold Tm.kids Tm.inner; simp only [Tm.k, e2, Bool.or_true, if_true, Tm.l]
   have := key 0 (by omega) (by omega) ek
   rw [hk.1, ek, lenI, show Tm.by (.mk kd s n l) = 0 by unfold Tm.by; simp only [Tm.k, e1, Bool.false_eq_true, if_false]]
   simp only [z3k, e1, e2, Bool.false_eq_true, if_false, if_true]
   simpa using this
 · have e1 : (kd == 5) = true := by simpa using h
   have ek : Tm.kids (.mk kd s n l) = l := by unfold Tm.kids Tm.inner; simp only [Tm.k, e1, Bool.true_or, if_true, Tm.l]
   have := key 1 (by omega) (by omega) ek
   rw [hk.1, ek, lenI, show Tm.by (.mk kd s n l) = 1 by unfold Tm.by; simp only [Tm.k, e1, if_true]]
   simp only [z3k, e1, if_true]
   exact this
theorem c_loose (t : Tm) (hs : t.sz ≤ B) (hb : bd 2305843009213693952 t) : AC Tryd.prog 47 [aT t] [] (ci (z3k t 0 0)) [] := by
 have h := c_each t hs hb 0 0 (Int.le_refl _) (by simp only [B] at hs; omega)
 refine AC.vc hP sh lv47 (Nat.le_refl _) (by simp) (by simp) (Eq.mpr (v47 ..) ?_)
 exact .inl ⟨_, h, z2g rfl⟩
end Go.AM

set_option maxRecDepth 100000
open Go Go.Proofs
namespace Go.AM
theorem roomI {n : Nat} (h : n ≤ 2199023255552) : z2m n 56 := by unfold z2m; omega
end Go.AM

set_option maxRecDepth 100000
open Go Go.Proofs

set_option maxRecDepth 100000
open Go Go.Proofs
namespace Go.AM
theorem bds_of {M : Int} : ∀ {l : List Tm}, (∀ t ∈ l, bd M t) → bds M l
 | [], _ => trivial
 | t :: _, h => ⟨h t List.mem_cons_self, bds_of fun u hu => h u (List.mem_cons_of_mem _ hu)⟩
abbrev M61 : Int := 2305843009213693952
theorem bd_le {M M' : Int} (h : M ≤ M') : ∀ t : Tm, bd M t → bd M' t := by
 refine Tm.ind fun t ih hb => ?_
 obtain ⟨k, s, n, l⟩ := t
 exact ⟨fun e => by have := hb.1 e; omega, bds_of fun u hu => ih u hu (zee hb.2 hu)⟩
end Go.AM

set_option maxRecDepth 100000
open Go Go.Proofs
namespace Go.AM
mutual
def z13 : Tm → Bool
 | .mk k s n l =>
  if (k == 0) = true then (z74 s || zcl s) && n == 0 && (((FTs l).length : Nat) : Int) == 0
  else if (k == 1) = true then decide (n ≥ 1) && s == [] && (((FTs l).length : Nat) : Int) == 0 && z34 l
  else if (k == 2) = true then s == [] && (((FTs l).length : Nat) : Int) == 0 && z34 l
  else if (k == 3) = true then decide (n ≥ 0) && decide (n ≤ 4611686018427387904) && s == [] && (((FTs l).length : Nat) : Int) == 0 && z34 l
  else if (k == 4) = true then decide (n ≥ 0) && decide (n ≤ 4611686018427387904) && s == [] && (((FTs l).length : Nat) : Int) == 0 && z34 l
  else if (k == 5) = true then n == 0 && s == [] && (((FTs l).length : Nat) : Int) == 1 && z34 l
  else if (k == 6) = true then n == 0 && decide ((((FTs l).length : Nat) : Int) ≥ 2) && ((l.headD default).k != 6) && s == [] && z34 l
  else false
def z34 : List Tm → Bool
 | [] => true
 | t :: l => z13 t && z34 l
end
def ze9 : List Tm → Int → Int
 | [], _ => -1
 | t :: l, i => if z13 t = true then ze9 l (i + 1) else i
theorem zfq : ∀ (l : List Tm) (i : Int), 0 ≤ i → decide (ze9 l i ≥ 0) = !z34 l
 | [], _, _ => rfl
 | t :: l, i, h => by
  rw [ze9, z34]
  split
  · rename_i e; rw [zfq l (i + 1) (by omega), e, Bool.true_and]
  · rename_i e; rw [show z13 t = false by simpa using e]; simp; omega
theorem zki : ∀ (b a : List Tm), (∀ u ∈ b, AC Tryd.prog 67 [aT u] [] (cb (!z13 u)) []) → (a ++ b).length ≤ B →
  RPt Tryd.prog 71 0 (ci (ze9 b a.length)) [] 1 ⟨[(0, aL (a ++ b)), (1, .c (.fn (.func 67) [] [])), (7, ci (((FTs (a ++ b)).length : Nat) : Int)), (8, ci a.length)], [], 0⟩
 | [], a, _, _ => by
  refine RPt.vc hP sh lv71 (Eq.mpr (z8m ..) ?_)
  exact z00 (fun h => absurd (of_decide_eq_true h) (geI' a)) (fun _ => z2g rfl)
 | t :: b, a, ih, hl => by
  refine RPt.vc hP sh lv71 (Eq.mpr (z8m ..) ?_)
  have hl' := hl
  simp only [List.length_append, List.length_cons, B] at hl'
  have h1 := ih t List.mem_cons_self
  have h2 := zki b (a ++ [t]) (fun u hu => ih u (List.mem_cons_of_mem _ hu)) (by rw [ap]; exact hl)
  have h3 := ltI' a t b
  rw [ap, nx] at h2
  rw [midI, w64 (x := (a.length : Int) + 1) (by omega) (by omega)]
  refine z00 (fun _ => ?_) (fun h => absurd h3 (of_decide_eq_false h))
  obtain ⟨k', s', n', l'⟩ := t
  refine ⟨⟨rfl, by omega, h3, rfl⟩, _, h1, z00 (fun h => ?_) (fun h => ?_)⟩
  · rw [ze9, if_neg (by simpa using h)]; exact z2g rfl
  · rw [ze9, if_pos (by simpa using h)]; exact h2
theorem c_contf (l : List Tm) (hl : l.length ≤ B) (ih : ∀ u ∈ l, AC Tryd.prog 46 [aT u] [] (cb (z13 u)) []) : AC Tryd.prog 50 [aL l, .c (.fn (.func 67) [] [])] [] (cb (!z34 l)) [] := by
 have h1 : ∀ u ∈ l, AC Tryd.prog 67 [aT u] [] (cb (!z13 u)) [] := fun u hu => by
  have h := ih u hu
  obtain ⟨k, s, n, l⟩ := u
  refine AC.vc hP sh lv67 (Nat.le_refl _) (by simp) (by simp) (Eq.mpr (v67 k s n (FTs l) _ _) ?_)
  exact ⟨_, h, z01 rfl⟩
 have h2 : AC Tryd.prog 71 [aL l, .c (.fn (.func 67) [] [])] [] (ci (ze9 l 0)) [] := by
  refine AC.vc hP sh lv71 (Nat.le_refl _) (by simp) (by simp) (Eq.mpr (v71_F67 ..) ?_)
  exact ⟨rfl, zki l [] h1 hl⟩
 refine AC.vc hP sh lv50 (Nat.le_refl _) (by simp) (by simp) (Eq.mpr (v50_F67 ..) ?_)
 exact ⟨_, h2, z01 (zfq l 0 (Int.le_refl _))⟩
theorem head0 : ∀ {l : List Tm}, 2 ≤ (((FTs l).length : Nat) : Int) → List.getD (FTs l) 0 [] = FT (l.headD default)
 | [], h => by simp [FTs] at h
 | t :: l, _ => rfl
theorem zhz : ∀ t : Tm, t.sz ≤ B → AC Tryd.prog 46 [aT t] [] (cb (z13 t)) [] := by
 refine Tm.ind fun t ih hs => ?_
 have hlen := Tm.szs_length t.l
 obtain ⟨k, s, n, l⟩ := t
 simp only [Tm.sz, Tm.l] at hs hlen
 have hc := c_contf l (by omega) fun u hu => ih u hu (by have := Tm.szs_mem hu; omega)
 refine AC.vc hP sh lv46 (Nat.le_refl _) (by simp) (by simp) (Eq.mpr (v46 k s n (FTs l) _ _) ?_)
 refine z00 (fun h0 => ⟨_, zew s, z00 (fun h1 => z00 (fun h2 => ⟨rfl, z01 ?_⟩) (fun h2 => z01 ?_)) (fun h1 => ⟨_, zjh s, z00 (fun h1' => z00 (fun h2 => ⟨rfl, z01 ?_⟩) (fun h2 => z01 ?_)) (fun h1' => z01 ?_)⟩)⟩)
  (fun h0 => z00 (fun h1 => z00 (fun h2 => z00 (fun h3 => ⟨rfl, z00 (fun h4 => ⟨_, hc, z01 ?_⟩) (fun h4 => z01 ?_)⟩) (fun h3 => z01 ?_)) (fun h2 => z01 ?_))
  (fun h1 => z00 (fun h2 => z00 (fun h3 => ⟨rfl, z00 (fun h4 => ⟨_, hc, z01 ?_⟩) (fun h4 => z01 ?_)⟩) (fun h3 => z01 ?_))
  (fun h2 => z00 (fun h3 => z00 (fun h4 => z00 (fun h5 => z00 (fun h6 => ⟨rfl, z00 (fun h7 => ⟨_, hc, z01 ?_⟩) (fun h7 => z01 ?_)⟩) (fun h6 => z01 ?_)) (fun h5 => z01 ?_)) (fun h4 => z01 ?_))
  (fun h3 => z00 (fun h3' => z00 (fun h4 => z00 (fun h5 => z00 (fun h6 => ⟨rfl, z00 (fun h7 => ⟨_, hc, z01 ?_⟩) (fun h7 => z01 ?_)⟩) (fun h6 => z01 ?_)) (fun h5 => z01 ?_)) (fun h4 => z01 ?_))
  (fun h3' => z00 (fun h5 => z00 (fun h6 => z00 (fun h7 => ⟨rfl, z00 (fun h8 => ⟨_, hc, z01 ?_⟩) (fun h8 => z01 ?_)⟩) (fun h7 => z01 ?_)) (fun h6 => z01 ?_))
  (fun h5 => z00 (fun h6 => z00 (fun h7 => ⟨rfl, z00 (fun h8 => ?app) (fun h8 => ⟨rfl, z01 ?_⟩)⟩) (fun h7 => ⟨rfl, z01 ?_⟩)) (fun h6 => z01 ?_)))))))
 case app =>
  have h8' := of_decide_eq_true h8
  rw [head0 h8', FT_eta]
  refine ⟨⟨rfl, by omega, by omega, rfl⟩, rfl, z00 (fun h9 => z00 (fun h10 => ⟨rfl, z00 (fun h11 => ⟨_, hc, z01 ?_⟩) (fun h11 => z01 ?_)⟩) (fun h10 => z01 ?_)) (fun h9 => z01 ?_)⟩
  all_goals (have h9' : ((l.headD default).k != 6) = _ := h9; simp_all [z13])
 all_goals first
  | (simp_all [z13]; done)
  | (simp_all [z13]; intros; omega)
end Go.AM

set_option maxRecDepth 100000
open Go Go.Proofs
namespace Go.AM
mutual
theorem zdo {M : Int} : ∀ t : Tm, near M t = true → bd M t
 | .mk k s n l, h => by
  simp only [near, Bool.and_eq_true] at h
  refine ⟨fun e => ?_, zfs l h.2⟩
  have := h.1
  rw [e] at this
  simp at this; omega
theorem zfs {M : Int} : ∀ l : List Tm, zdz M l = true → bds M l
 | [], _ => trivial
 | t :: l, h => by
  simp only [zdz, Bool.and_eq_true] at h
  exact ⟨zdo t h.1, zfs l h.2⟩
end
end Go.AM

set_option maxRecDepth 100000
open Go Go.Proofs
namespace Go.AM
theorem z9o : ∀ (b a b' a' : List Tm), (∀ u ∈ b, ∀ v : Tm, AC Tryd.prog 57 [aT u, aT v] [] (cb (z1t u v)) []) → (a ++ b).length ≤ B → a.length = a'.length → b.length = b'.length →
  RPt Tryd.prog 58 0 (cb (z1j b b')) [] 1 ⟨[(1, aL (a' ++ b')), (2, .c (.fn (.func 57) [] [])), (15, aL (a ++ b)), (16, ci (((FTs (a ++ b)).length : Nat) : Int)), (17, ci a.length)], [], 0⟩
 | [], a, [], a', _, _, _, _ => by
  refine RPt.vc hP sh lv58 (Eq.mpr (z96 ..) ?_)
  exact z00 (fun h => absurd (of_decide_eq_true h) (geI' a)) (fun _ => z01 rfl)
 | t :: b, a, t' :: b', a', ih, hl, ha, hb => by
  refine RPt.vc hP sh lv58 (Eq.mpr (z96 ..) ?_)
  have hl' := hl
  simp only [List.length_append, List.length_cons, B] at hl'
  simp only [List.length_cons] at hb
  have h1 := ih t List.mem_cons_self t'
  have h2 := z9o b (a ++ [t]) b' (a' ++ [t']) (fun u hu => ih u (List.mem_cons_of_mem _ hu)) (by rw [ap]; exact hl) (by simp [ha]) (by omega)
  have h3 := ltI' a t b
  have h4 := ltI' a' t' b'
  rw [← ha] at h4
  rw [ap, ap, nx] at h2
  rw [midI, midI' a a' ha, w64 (x := (a.length : Int) + 1) (by omega) (by omega)]
  refine z00 (fun _ => ?_) (fun h => absurd h3 (of_decide_eq_false h))
  obtain ⟨k1, s1, n1, l1⟩ := t
  obtain ⟨k2, s2, n2, l2⟩ := t'
  refine ⟨⟨rfl, by omega, h3, rfl⟩, ⟨rfl, by omega, h4, rfl⟩, _, h1, z00 (fun h => z01 ?_) (fun h => ?_)⟩
  · rw [z1j, show z1t (.mk k1 s1 n1 l1) (.mk k2 s2 n2 l2) = false by simpa using h]; rfl
  · rw [z1j, show z1t (.mk k1 s1 n1 l1) (.mk k2 s2 n2 l2) = true by simpa using h]; exact h2
theorem zic : ∀ a : Tm, a.sz ≤ B → ∀ b : Tm, AC Tryd.prog 57 [aT a, aT b] [] (cb (z1t a b)) [] := by
 refine Tm.ind fun a ih hs b => ?_
 have hlen := Tm.szs_length a.l
 obtain ⟨k1, s1, n1, l1⟩ := a
 obtain ⟨k2, s2, n2, l2⟩ := b
 simp only [Tm.sz, Tm.l] at hs hlen
 have he : AC Tryd.prog 58 [aL l1, aL l2, .c (.fn (.func 57) [] [])] [] (cb (z1j l1 l2)) [] := by
  refine AC.vc hP sh lv58 (Nat.le_refl _) (by simp) (by simp) (Eq.mpr (zjz ..) ?_)
  refine ⟨rfl, rfl, z00 (fun h => z01 ?_) (fun h => ⟨rfl, ?_⟩)⟩
  · rw [z05, z05] at h
    exact (z3x (fun e => by rw [e] at h; simp at h)).symm
  · rw [z05, z05] at h
    exact z9o l1 [] l2 [] (fun u hu v => ih u hu (by have := Tm.szs_mem hu; omega) v) (by simp only [List.nil_append]; omega) rfl (by have : (l1.length : Int) = l2.length := by simpa using h
                                                                                                                                      omega)
 refine AC.vc hP sh lv57 (Nat.le_refl _) (by simp) (by simp) (Eq.mpr (v57 k1 s1 n1 (FTs l1) k2 s2 n2 (FTs l2) _ _) ?_)
 refine z00 (fun h => z00 (fun h1 => z00 (fun h2 => ⟨_, he, z01 ?_⟩) (fun h2 => z01 ?_)) (fun h1 => z01 ?_)) (fun h => z01 ?_)
 all_goals simp only [z1t]
 all_goals simp_all
end Go.AM

set_option maxRecDepth 100000
open Go Go.Proofs

set_option maxRecDepth 100000
open Go Go.Proofs
namespace Go.AM
theorem c_clone : (∀ es : List (List FV), es ≠ [] → es.length ≤ B → AC Tryd.prog 90 [.c (.a (.fz (.sl false 4 es)))] [] (.c (.a (.osl 0 4 0 es.length))) [.arz 4 es]) ∧ AC Tryd.prog 90 [.c (.a (.fz (.sl false 4 [])))] [] (.c (.a (.fz (.sl false 4 [])))) [] := by
 have h0 : AC Tryd.prog 90 [.c (.a (.fz .nils))] [] (.c (.a (.fz .nils))) [] := by
  refine AC.vc hP sh lv90 (Nat.le_refl _) (by simp) (by simp) (Eq.mpr (v90 ..) ?_)
  exact ⟨.refl _, rfl⟩
 have h1 : ∀ es : List (List FV), es.length ≤ B → AC Tryd.prog 90 [.c (.a (.fz (.sl true 4 es)))] [] (.c (.a (.osl 0 4 0 es.length))) [.arz 4 es] := fun es hl => by
  refine AC.vc hP sh lv90 (by simp) (by simp) (by simp [isLive]) (Eq.mpr (v90_i1 ..) ?_)
  refine ⟨rfl, ⟨by omega, by rw [Nat.zero_add]; exact roomI (by simp only [B] at hl; omega)⟩, ?_⟩
  rw [Nat.zero_add]
  exact ⟨.refl _, rfl⟩
 exact AC.clone_le h0 h1
end Go.AM

set_option maxRecDepth 100000
open Go Go.Proofs

set_option maxRecDepth 100000
open Go Go.Proofs
namespace Go.AM
def hd (l : List Tm) : Tm := l.headD default
mutual
def okB : Tm → Bool
 | .mk k s n l => (if (k == 6) = true then decide (2 ≤ l.length) && (hd l).k != 6 && (s == [] && n == 0) else if (k == 5) = true then decide (l.length = 1) && (s == [] && n == 0) else decide (l.length = 0)) && okL l
def okL : List Tm → Bool
 | [] => true
 | t :: l => okB t && okL l
end
theorem okB6 {k n : Int} {s : List UInt8} {l : List Tm} (h : okB (.mk k s n l) = true) (hk : k = 6) : ∃ x y r, l = x :: y :: r ∧ x.k ≠ 6 ∧ okL l = true := by
 subst hk
 simp only [okB, Bool.and_eq_true] at h
 match l, h with
 | [], h => simp at h
 | [x], h => simp at h
 | x :: y :: r, h => exact ⟨x, y, r, rfl, by have := h.1; simp [hd] at this; exact this.1, h.2⟩
mutual
theorem zfd : ∀ t : Tm, z13 t = true → okB t = true
 | .mk k s n l, h => by
  rw [okB]
  have hl := zbr l
  rw [z13] at h
  split at h
  · rename_i e
    have e : k = 0 := by simpa using e
    subst e
    rw [lenI] at h
    have : l = [] := by simp at h; exact h.2
    subst this; rfl
  split at h
  · rename_i e
    have e : k = 1 := by simpa using e
    subst e
    rw [lenI] at h
    have : l = [] := by simp at h; exact h.1.2
    subst this; rfl
  split at h
  · rename_i e
    have e : k = 2 := by simpa using e
    subst e
    rw [lenI] at h
    have : l = [] := by simp at h; exact h.1.2
    subst this; rfl
  split at h
  · rename_i e
    have e : k = 3 := by simpa using e
    subst e
    rw [lenI] at h
    have : l = [] := by simp at h; exact h.1.2
    subst this; rfl
  split at h
  · rename_i e
    have e : k = 4 := by simpa using e
    subst e
    rw [lenI] at h
    have : l = [] := by simp at h; exact h.1.2
    subst this; rfl
  split at h
  · rename_i e
    have e : k = 5 := by simpa using e
    subst e
    rw [lenI] at h
    simp only [Bool.and_eq_true, beq_iff_eq] at h
    have h1 : l.length = 1 := by have := h.1.2; omega
    rw [hl h.2]
    simp [h1, h.1.1.1, h.1.1.2]
  split at h
  · rename_i e
    have e : k = 6 := by simpa using e
    subst e
    rw [lenI] at h
    simp only [Bool.and_eq_true, decide_eq_true_eq, beq_iff_eq] at h
    have h1 : 2 ≤ l.length := by have := h.1.1.1.2; omega
    have h2 : ((hd l).k != 6) = true := h.1.1.2
    rw [hl h.2, h2]
    simp [h1, h.1.1.1.1, h.1.2]
  · cases h
theorem zbr : ∀ l : List Tm, z34 l = true → okL l = true
 | [], _ => rfl
 | t :: l, h => by
  simp only [z34, Bool.and_eq_true] at h
  simp only [okL, zfd t h.1, zbr l h.2, Bool.and_self]
end
end Go.AM

set_option maxRecDepth 100000
open Go Go.Proofs

set_option maxRecDepth 100000
open Go Go.Proofs
namespace Go.AM
theorem el0 (x : Tm) (l : List Tm) : FV.isSl 4 (.sl false 4 (FTs (x :: l))) = true ∧ ((0 : Int) ≤ 0 ∧ ((0 : Int) < (((FTs (x :: l)).length : Nat) : Int) ∧ (rE (List.getD (FTs (x :: l)) 0 []) : List FV) = List.getD (FTs (x :: l)) 0 [])) := ⟨rfl, Int.le_refl _, by rw [lenI]; simp only [List.length_cons]; omega, rE_FT x⟩
end Go.AM

set_option maxRecDepth 100000
open Go Go.Proofs

set_option maxRecDepth 100000
open Go Go.Proofs

set_option maxRecDepth 100000
open Go Go.Proofs

set_option maxRecDepth 100000
open Go Go.Proofs

set_option maxRecDepth 100000
open Go Go.Proofs
namespace Go.AM
def LeW (p q : Bool × List WV) : Prop := p.1 = q.1 ∧ All2 WV.Le p.2 q.2
theorem z2s {α β : Type} {R : α → β → Prop} : ∀ {a : List α} {b : List β}, All2 R a b → a.length = b.length ∧ ∀ (i : Nat) (x : α) (y : β), a[i]? = some x → b[i]? = some y → R x y
 | [], [], _ => ⟨rfl, fun i x y hx _ => by simp at hx⟩
 | x :: a, y :: b, h => by
  have := z2s h.2
  refine ⟨by simp [this.1], fun i u v hu hv => ?_⟩
  match i, hu, hv with
  | 0, hu, hv => simp at hu hv; subst hu; subst hv; exact h.1
  | i + 1, hu, hv => exact this.2 i u v (by simpa using hu) (by simpa using hv)
 | [], _ :: _, h => h.elim
 | _ :: _, [], h => h.elim
theorem le_tup {a b : List (Bool × List WV)} (h : All2 LeW a b) : TV.Le (.tup a) (.tup b) := by
 have := z2s h
 refine .tup _ _ this.1 fun i p q hp hq => ?_
 have h1 := this.2 i p q hp hq
 have h2 := z2s h1.2
 exact ⟨h1.1, h2.1, h2.2⟩
theorem lw1 {x y : WV} {b : Bool} (h : WV.Le x y) : LeW (b, [x]) (b, [y]) := ⟨rfl, h, trivial⟩
theorem lwR (p : Bool × List WV) : LeW p p := by
 obtain ⟨b, l⟩ := p
 refine ⟨rfl, ?_⟩
 show All2 WV.Le l l
 induction l with
 | nil => trivial
 | cons x l ih => exact ⟨.refl _, ih⟩
theorem take_nat (t : List (List FV)) : List.take (Int.toNat ((t.length : Nat) : Int)) t = t := by rw [Int.toNat_natCast, List.take_of_length_le (Nat.le_refl _)]
end Go.AM

set_option maxRecDepth 100000
open Go Go.Proofs
namespace Go.AM
def z2a (t : Tm) : Tm × List Tm := if t.k = 6 ∧ z13 t = true then (hd t.l, t.l.drop 1) else (t, [])
abbrev aSp (z : Tm × List Tm) : TV := .tup [(true, cT z.1), (false, [.a (.fz (.sl false 4 (FTs z.2)))])]
theorem zfh (t : Tm) (hz : t.sz ≤ B) : AC Tryd.prog 83 [aT t] [] (aSp (z2a t)) [] := by
 have h1 := zhz t hz
 have hlen := Tm.szs_length t.l
 have hsz := t.sz_eq
 obtain ⟨k, str, n, l⟩ := t
 have no : ∀ x : FV, FV.Le x (.sl false 4 (FTs [])) → TV.Le (.tup [(true, [.a (.fz (.int .i64 k)), .a (.fz (.str str)), .a (.fz (.int .i64 n)), .a (.fz (.sl false 4 (FTs l)))]), (false, [.a (.fz x)])]) (aSp (.mk k str n l, [])) :=
  fun x hx => le_tup ⟨lwR _, lw1 (.a _ _ (.fz _ _ hx)), trivial⟩
 refine AC.vc hP sh lv83 (Nat.le_refl _) (by simp) (by simp) (Eq.mpr (v83 k str n (FTs l) _ _) ?_)
 refine z00 (fun h => ?_) (fun h => ⟨_, h1, z00 (fun h' => ?_) (fun h' => ?_)⟩)
 · rw [z2a, if_neg (fun e => by have e1 : k = 6 := e.1; subst e1; cases h)]; exact ⟨no _ leNil, rfl⟩
 · rw [z2a, if_neg (fun e => by rw [show z13 (.mk k str n l) = false by simpa using h'] at e; cases e.2)]; exact ⟨no _ leNil, rfl⟩
 · have h6 : k = 6 := by simpa using h
   subst h6
   have hv : z13 (.mk 6 str n l) = true := by simpa using h'
   obtain ⟨x, y, r, rfl, hx6, hl⟩ := okB6 (zfd _ hv) rfl
   simp only [Tm.l, List.length_cons, B] at hlen hsz hz
   have hcl := c_clone.1 (FTs (y :: r)) (by simp [FTs]) (by rw [z05]; simp only [List.length_cons, B]; omega)
   have e1 : List.drop 1 (List.take (Int.toNat (((FTs (x :: y :: r)).length : Nat) : Int)) (FTs (x :: y :: r))) = FTs (y :: r) := by rw [take_nat]; rfl
   rw [e1, z2a, if_pos ⟨rfl, hv⟩]
   refine ⟨el0 x (y :: r), rfl, ⟨by omega, by rw [z05]; simp only [List.length_cons]; omega, Int.le_refl _⟩, .inr ⟨_, hcl, ⟨rfl, by omega⟩, ?_, rfl⟩⟩
   rw [List.drop_zero, List.take_of_length_le (Nat.le_refl _), show cE (List.getD (FTs (x :: y :: r)) 0 []) = cT x from cE_FT x]
   exact .refl _
end Go.AM

set_option maxRecDepth 100000
open Go Go.Proofs
namespace Go.AM
mutual
def unF (n : Int) : Tm → Bool
 | .mk k _ m l => !(k == 1 || k == 4 && decide (m ≥ n)) && unL n l
def unL (n : Int) : List Tm → Bool
 | [] => true
 | t :: l => unF n t && unL n l
end
theorem zhb (n : Int) : ∀ l : List Tm, unL n l = l.all (unF n)
 | [] => rfl
 | t :: l => by rw [unL, zhb n l]; rfl
theorem unF_eq (n : Int) (t : Tm) : unF n t = (!(t.k == 1 || t.k == 4 && decide (t.n ≥ n)) && t.l.all (unF n)) := by
 obtain ⟨k, s, m, l⟩ := t
 rw [unF, zhb]; rfl
def z87 (t : Tm) : Bool := t.k == 0 && (t.s == [] && (t.n == 0 && t.l.isEmpty))
def plB (n : Int) (t : Tm) : Bool := z13 t && (decide (z3k t 0 0 ≤ 0) && unF n t)
def logs : List (List UInt8) := [[58, 45], [44], [59], [61, 62], [61], [105, 115], [60], [61, 60], [62], [62, 61], [116, 114, 117, 101], [102, 97, 105, 108], [33], [112, 105], [115, 105, 103, 109, 97]]
def nums : List (List UInt8) := [[105, 115], [60], [61, 60], [62], [62, 61]]
def logB (s : List UInt8) : Bool := logs.contains s
def numB (s : List UInt8) : Bool := nums.contains s
def nmB (s : List UInt8) : Bool := (z74 s || zcl s) && !logB s
def cntB (ar fr vs sl : Int) : Bool := decide (0 ≤ ar ∧ ar ≤ 4096 ∧ 0 ≤ fr ∧ fr ≤ 4096 ∧ 0 ≤ vs ∧ vs ≤ 4096 ∧ sl ≤ 4096 ∧ fr + vs ≤ sl)
def atomB (t : Tm) : Bool := (z2a t).1.k == 0 && !logB (z2a t).1.s
def isNum (t : Tm) : Bool := (z2a t).1.k == 0 && (numB (z2a t).1.s && (z2a t).2.length == 2)
def useA (k : Int) : Bool := k == 0 || k == 1 || k == 9 || k == 10 || k == 11 || k == 13
def useT (k : Int) : Bool := k == 0 || k == 1 || k == 2 || k == 3 || k == 6
def insB (ar fv sl n at_ : Int) (was : Option (Int × Int)) (k a : Int) (t : Tm) : Bool :=
 if k = 0 ∨ k = 1 then decide (0 ≤ a ∧ a < ar) && ((k == 0 || t.k == 0 || t.k == 2) && match was with | none => true | some w => (w.1 == 0 || w.1 == 1) && decide (w.2 < a))
 else if k = 2 ∨ k = 3 then atomB t
 else if k = 6 then isNum t
 else if k = 9 ∨ k = 10 then decide (at_ < a ∧ a < n)
 else if k = 11 ∨ k = 13 then decide (fv ≤ a ∧ a < sl)
 else decide (0 ≤ k ∧ k ≤ 15)
def fldB (ar fv sl n at_ : Int) (was : Option (Int × Int)) (k a : Int) (t : Tm) (l : List Tm) (c : Bool) : Bool :=
 (z87 t || z13 t) && (insB ar fv sl n at_ was k a t && ((useA k || a == 0) && ((k == 14 || c) && ((if k = 5 then l.length == 2 else l.isEmpty) && ((if useT k = true then plB sl t else z87 t) && l.all (plB sl))))))
abbrev Pl := Bool × Int × Int
def z38 (l : List Pl) (at_ : Int) (p : Int × Int) : Option (List Pl) :=
 if at_ < (l.length : Int) then (if (l.getD at_.toNat (false, 0, 0)).1 = false then some (l.set at_.toNat (true, p)) else if l.getD at_.toNat (false, 0, 0) = (true, p) then some l else none) else none
def aftP (k : Int) (p : Int × Int) : Int × Int := if k = 11 then (p.1 + 1, p.2) else if k = 12 then (p.1 - 1, p.2) else if k = 14 then (p.1, p.2 + 1) else if k = 15 then (p.1, p.2 - 1) else p
def zck (l : List Pl) (i k a : Int) : Option (List Pl) :=
 if (l.getD i.toNat (false, 0, 0)).1 = false then some l
 else if k = 3 ∨ k = 4 then (if (l.getD i.toNat (false, 0, 0)).2 = (0, 0) then some l else none)
 else if k = 8 then some l
 else if (aftP k (l.getD i.toNat (false, 0, 0)).2).1 < 0 ∨ (aftP k (l.getD i.toNat (false, 0, 0)).2).2 < 0 then none
 else if k = 9 ∨ k = 10 then
  match z38 l a (aftP k (l.getD i.toNat (false, 0, 0)).2) with
  | none => none
  | some l' => if k = 10 then some l' else z38 l' (i + 1) (aftP k (l.getD i.toNat (false, 0, 0)).2)
 else z38 l (i + 1) (aftP k (l.getD i.toNat (false, 0, 0)).2)
def z57 : List Pl → Int → List In1 → Bool
 | _, _, [] => true
 | l, i, x :: r => match zck l i x.k x.a with | none => false | some l' => z57 l' (i + 1) r
def zgu (ins : List In1) : Bool := z57 ((List.replicate ins.length (false, 0, 0)).set 0 (true, 0, 0)) 0 ins
def zkf (ins : List In1) : Bool := match ins.getLast? with | none => false | some x => x.k == 3 || x.k == 4 || x.k == 8
mutual
def vC : Cd → Bool
 | .mk nm ar fr vs sl ins => nmB nm && (cntB ar fr vs sl && (zkf ins && (vIs ar (fr + vs) sl ins.length 0 none ins && zgu ins)))
def vIs (ar fv sl n : Int) : Int → Option (Int × Int) → List In1 → Bool
 | _, _, [] => true
 | at_, was, .mk k a t l c :: r => fldB ar fv sl n at_ was k a t l c.isEmpty && (vCs sl c && vIs ar fv sl n (at_ + 1) (some (k, a)) r)
def vCs (sl : Int) : List Cd → Bool
 | [] => true
 | c :: r => decide (c.fr ≤ sl) && (vC c && vCs sl r)
end
theorem zi1 (sl : Int) : ∀ l : List Cd, vCs sl l = l.all fun c => decide (c.fr ≤ sl) && vC c
 | [] => rfl
 | c :: l => by rw [vCs, zi1 sl l]; simp [Bool.and_assoc]
end Go.AM

set_option maxRecDepth 100000
open Go Go.Proofs
namespace Go.AM
mutual
def nIns : Cd → Int
 | .mk _ _ _ _ _ ins => (ins.length : Int) + nIs ins
def nIs : List In1 → Int
 | [] => 0
 | .mk _ _ _ _ c :: r => nCs c + nIs r
def nCs : List Cd → Int
 | [] => 0
 | c :: r => nIns c + nCs r
end
mutual
def mSl : Cd → Int → Int
 | .mk _ _ _ _ sl ins, n => mSlI ins (max n sl)
def mSlI : List In1 → Int → Int
 | [], n => n
 | .mk _ _ _ _ c :: r, n => mSlI r (mSlC c n)
def mSlC : List Cd → Int → Int
 | [], n => n
 | c :: r, n => mSlC r (mSl c n)
end
mutual
theorem zka : ∀ (c : Cd) (n m : Int), mSl c (max n m) = max n (mSl c m)
 | .mk _ _ _ _ sl ins, n, m => by
  rw [mSl, mSl, show max (max n m) sl = max n (max m sl) by omega, zfj ins]
theorem zfj : ∀ (l : List In1) (n m : Int), mSlI l (max n m) = max n (mSlI l m)
 | [], n, m => by rw [mSlI, mSlI]
 | .mk _ _ _ _ c :: r, n, m => by rw [mSlI, mSlI, zem c, zfj r]
theorem zem : ∀ (l : List Cd) (n m : Int), mSlC l (max n m) = max n (mSlC l m)
 | [], n, m => by rw [mSlC, mSlC]
 | c :: r, n, m => by rw [mSlC, mSlC, zka c, zem r]
end
theorem mSl_doc (c : Cd) (n : Int) : mSl c n = max n (mSl c c.sl) := by
 have h := zka c n c.sl
 obtain ⟨nm, ar, fr, vs, sl, ins⟩ := c
 rw [← h]
 simp only [Cd.sl]
 rw [mSl, mSl, show max (max n sl) sl = max n sl by omega]
mutual
def sCd : Cd → Cd → Bool
 | .mk nm ar fr vs sl ins, .mk nm' ar' fr' vs' sl' ins' => nm == nm' && (ar == ar' && (fr == fr' && (vs == vs' && (sl == sl' && sIns ins ins'))))
def sIns : List In1 → List In1 → Bool
 | [], [] => true
 | .mk k a t l c :: r, .mk k' a' t' l' c' :: r' => k == k' && (a == a' && (z1t t t' && (z1j l l' && (sCds c c' && sIns r r'))))
 | _, _ => false
def sCds : List Cd → List Cd → Bool
 | [], [] => true
 | c :: r, c' :: r' => sCd c c' && sCds r r'
 | _, _ => false
end
mutual
theorem sCd_iff : ∀ a b : Cd, sCd a b = true ↔ a = b
 | .mk nm ar fr vs sl ins, .mk nm' ar' fr' vs' sl' ins' => by
  rw [sCd]
  simp only [Bool.and_eq_true, beq_iff_eq, zap ins, Cd.mk.injEq]
theorem zap : ∀ a b : List In1, sIns a b = true ↔ a = b
 | [], [] => by simp [sIns]
 | .mk k a t l c :: r, .mk k' a' t' l' c' :: r' => by
  rw [sIns]
  simp only [Bool.and_eq_true, beq_iff_eq, zap r, za0 c, zbf, z6v, List.cons.injEq, In1.mk.injEq, and_assoc]
 | [], .mk _ _ _ _ _ :: _ => by simp [sIns]
 | .mk _ _ _ _ _ :: _, [] => by simp [sIns]
theorem za0 : ∀ a b : List Cd, sCds a b = true ↔ a = b
 | [], [] => by simp [sCds]
 | c :: r, c' :: r' => by
  rw [sCds]
  simp only [Bool.and_eq_true, sCd_iff c, za0 r, List.cons.injEq]
 | [], _ :: _ => by simp [sCds]
 | _ :: _, [] => by simp [sCds]
end
end Go.AM

set_option maxRecDepth 100000
open Go Go.Proofs
namespace Go.AM
def wordL : List (List UInt8) := [[117, 110, 105, 102, 121], [99, 111, 110, 115, 116], [99, 97, 108, 108], [108, 97, 115, 116], [112, 114, 111, 99, 101, 101, 100], [101, 113], [98, 117, 105, 108, 116, 105, 110], [99, 117, 116], [102, 97, 105, 108], [111, 114], [106, 117, 109, 112], [112, 105], [112, 111, 112], [115, 105, 103, 109, 97], [105, 109, 112, 111, 114, 116], [102, 111, 114, 103, 101, 116]]
def z19 (k : Int) : List UInt8 := if 0 ≤ k ∧ k < 16 then wordL.getD k.toNat [] else [63]
def dgF (n : Int) : List UInt8 := Lib.decDigits (max n 0).toNat
mutual
def txF : Cd → List UInt8
 | .mk nm ar fr vs sl ins => (nm ++ [47] ++ dgF ar ++ [32] ++ dgF fr ++ [32] ++ dgF vs ++ [32] ++ dgF sl ++ [10]) ++ txIs 0 ins
def txIs : Int → List In1 → List UInt8
 | _, [] => []
 | i, .mk k a _ _ c :: r => ([32] ++ dgF i ++ [32] ++ z19 k ++ (if useA k = true then [32] ++ dgF a else []) ++ [10]) ++ ((if k = 14 then txCs c else []) ++ txIs (i + 1) r)
def txCs : List Cd → List UInt8
 | [] => []
 | c :: r => txF c ++ txCs r
end
abbrev i64 (x : Int) : Prop := -9223372036854775808 ≤ x ∧ x ≤ 9223372036854775807
theorem dg_len : ∀ (k n : Nat), n < 10 ^ (k + 1) → (Lib.decDigits n).length ≤ k + 1
 | 0, n, h => by rw [Lib.decDigits, dif_pos (by simpa using h)]; simp
 | k + 1, n, h => by
  rw [Lib.decDigits]
  split
  · simp
  · rw [List.length_append]
    have := dg_len k (n / 10) (by rw [Nat.pow_succ] at h; omega)
    simp only [List.length_singleton]; omega
theorem z1a {n : Int} (h : n ≤ 9223372036854775807) : (dgF n).length ≤ 19 := dg_len 18 _ (by
 have : (max n 0).toNat ≤ 9223372036854775807 := by omega
 exact Nat.lt_of_le_of_lt this (by decide))
theorem z9r (k : Int) : (z19 k).length ≤ 8 := by
 unfold z19
 split
 · rename_i h
   obtain ⟨m, rfl⟩ : ∃ m : Nat, k = m := ⟨k.toNat, by omega⟩
   rw [Int.toNat_natCast]
   have : m < 16 := by omega
   rcases m with _ | _ | _ | _ | _ | _ | _ | _ | _ | _ | _ | _ | _ | _ | _ | _ | m <;> first | decide | omega
 · decide
mutual
theorem tx_len : ∀ (c : Cd), okCd c → c.sz ≤ 549755813888 → ∀ m : Int, 0 ≤ m → 0 ≤ z26 c m → ((txF c).length : Int) ≤ c.sz + 100 * (m - z26 c m)
 | .mk nm ar fr vs sl ins, hk, hz, m, h0, hl => by
  rw [okCd] at hk
  rw [z26] at hl ⊢
  rw [Cd.sz] at hz
  rw [txF, Cd.sz]
  have hq := In1.szs_length ins
  have h1 := zf8 ins hk.2.2.2.2 (by omega) 0 (by omega) (m - 1) (by omega) hl (by omega)
  have h2 := z1a hk.1.2
  have h3 := z1a hk.2.1.2
  have h4 := z1a hk.2.2.1.2
  have h5 := z1a hk.2.2.2.1.2
  have h6 := z6g ins (m - 1) (by omega)
  simp only [List.length_append, List.length_singleton]
  omega
theorem zf8 : ∀ (l : List In1), z4q l → In1.szs l ≤ 549755813888 → ∀ i : Int, 0 ≤ i → ∀ n : Int, -1 ≤ n → 0 ≤ z0s l n → i + l.length ≤ 4611686018427387904 → ((txIs i l).length : Int) ≤ In1.szs l + 100 * (n - z0s l n)
 | [], _, _, i, _, n, _, hl, _ => by
  rw [z0s] at hl ⊢
  rw [txIs, In1.szs]; simp
 | .mk k a t l c :: r, hk, hz, i, hi, n, hn, hl, hb => by
  rw [z4q, okIn] at hk
  rw [In1.szs, In1.sz1] at hz
  rw [z0s] at hl ⊢
  by_cases h0 : n < 0
  · rw [if_pos h0] at hl; omega
  rw [if_neg h0] at hl ⊢
  by_cases h1 : z7n t l = true
  · rw [if_pos h1] at hl; omega
  rw [if_neg h1] at hl ⊢
  have q1 := z4l c (n - 1) (by omega)
  have hq : 0 ≤ z0b c (n - 1) := by
   by_cases hq : z0b c (n - 1) < 0
   · rw [z8u hq] at hl; omega
   · omega
  have hn1 : 0 ≤ n - 1 := by omega
  rw [List.length_cons] at hb
  have h2 := zfy c hk.1.2.2.2.2 (by omega) (n - 1) hn1 hq
  have h3 := zf8 r hk.2 (by omega) (i + 1) (by omega) (z0b c (n - 1)) (by omega) hl (by omega)
  have h4 := z1a (n := i) (by omega)
  have h5 := z1a hk.1.2.1.2
  have h6 := z9r k
  have h7 := z6g r (z0b c (n - 1)) (by omega)
  rw [txIs, In1.szs, In1.sz1]
  have h8 : (if useA k = true then [32] ++ dgF a else []).length ≤ 20 := by
   split
   · simp only [List.length_append, List.length_singleton]; omega
   · simp
  have h9 : (if k = 14 then txCs c else []).length ≤ (txCs c).length := by split <;> simp
  simp only [List.length_append, List.length_singleton]
  omega
theorem zfy : ∀ (l : List Cd), z7y l → Cd.szs l ≤ 549755813888 → ∀ n : Int, 0 ≤ n → 0 ≤ z0b l n → ((txCs l).length : Int) ≤ Cd.szs l + 100 * (n - z0b l n)
 | [], _, _, n, _, hl => by
  rw [z0b] at hl ⊢
  rw [txCs, Cd.szs]; simp
 | c :: r, hk, hz, n, hn, hl => by
  rw [z7y] at hk
  rw [Cd.szs] at hz
  rw [z0b] at hl ⊢
  rw [if_neg (by omega)] at hl ⊢
  have q1 := za4 c n hn
  have hq : 0 ≤ z26 c n := by
   by_cases hq : z26 c n < 0
   · cases r with
     | nil => rw [z0b] at hl; exact hl
     | cons d r => rw [z0b, if_pos hq] at hl; omega
   · omega
  have h2 := tx_len c hk.1 (by omega) n hn hq
  have h3 := zfy r hk.2 (by omega) (z26 c n) hq hl
  rw [txCs, Cd.szs, List.length_append]
  omega
end
end Go.AM

set_option maxRecDepth 100000
open Go Go.Proofs
namespace Go.AM
theorem z8v (s : List UInt8) : AC Tryd.prog 19 [cs s] [] (cb (logB s)) [] := by
 refine AC.vc hP sh lv19 (Nat.le_refl _) (by simp) (by simp) (Eq.mpr (v19 ..) ?_)
 repeat' (refine z00 (fun _ => ?_) (fun _ => ?_))
 all_goals exact z01 (by simp_all [logB, logs])
def ixI (p : Int → Bool) : List Int → Nat → Int
 | [], _ => -1
 | t :: l, i => if p t = true then (i : Int) else ixI p l (i + 1)
theorem zja (p : Int → Bool) : ∀ (l : List Int) (i : Nat), decide (ixI p l i ≥ 0) = l.any p
 | [], _ => rfl
 | t :: l, i => by
  rw [ixI, List.any_cons]
  split
  · rename_i h; rw [h]; simp
  · rename_i h; rw [zja p l, show p t = false by simpa using h, Bool.false_or]
def cntN (n : Int) : Bool := decide (n < 0) || decide (n > 4096)
theorem zjg (n : Int) : AC Tryd.prog 44 [ci n] [] (cb (cntN n)) [] := by
 refine AC.vc hP sh lv44 (Nat.le_refl _) (by simp) (by simp) (Eq.mpr (v44 ..) ?_)
 exact z00 (fun h => z01 (by rw [cntN, h]; rfl)) (fun h => z01 (by rw [cntN, h]; rfl))
theorem zi4 (b : List Int) : ∀ a : List Int, (a ++ b).length ≤ B → RPt Tryd.prog 66 0 (ci (ixI cntN b a.length)) [] 1 ⟨[(0, .c (.a (.fz (.sl false 1 (IR (a ++ b)))))), (1, .c (.fn (.func 44) [] [])), (7, ci (a ++ b).length), (8, ci a.length)], [], 0⟩ := by
 induction b with
 | nil =>
  intro a hs
  refine RPt.vc hP sh lv66 (Eq.mpr (z8z ..) ?_)
  exact z00 (fun h => absurd (of_decide_eq_true h) (by simp)) (fun _ => z2g rfl)
 | cons t b ihb =>
  intro a hs
  have h2 := ihb (a ++ [t]) (by simpa using hs)
  rw [ap, nx, show (a ++ [t]).length = a.length + 1 by simp] at h2
  rw [ixI]
  simp only [List.length_append, List.length_cons, B] at hs
  have h4 : (a.length : Int) < ((a ++ t :: b).length : Int) := by simp only [List.length_append, List.length_cons]; omega
  have em : List.getD (IR (a ++ t :: b)) (Int.toNat (a.length : Int)) [] = [.int .i64 t] := by simp [IR]
  refine RPt.vc hP sh lv66 (Eq.mpr (z8z ..) ?_)
  rw [w64 (by omega) (by omega), em]
  refine z00 (fun _ => ⟨⟨rfl, by omega, by simp only [IR, List.length_map]; exact h4, rfl⟩, _, zjg t, z00 (fun h => ?_) (fun h => ?_)⟩) (fun h => absurd h4 (of_decide_eq_false h))
  · rw [if_pos h]; exact z2g rfl
  · rw [if_neg (by rw [h]; simp)]; exact h2
theorem c_ccount (l : List Int) (hl : l.length ≤ B) : AC Tryd.prog 20 [.c (.a (.fz (.sl false 1 (IR l))))] [] (cb (!l.any cntN)) [] := by
 have h := zi4 l [] hl
 have h1 : AC Tryd.prog 66 [.c (.a (.fz (.sl false 1 (IR l)))), .c (.fn (.func 44) [] [])] [] (ci (ixI cntN l 0)) [] := by
  refine AC.vc hP sh lv66 (Nat.le_refl _) (by simp) (by simp) (Eq.mpr (v66_F44 ..) ?_)
  rw [show (IR l).length = l.length by simp [IR]]
  exact ⟨rfl, h⟩
 have h2 : AC Tryd.prog 43 [.c (.a (.fz (.sl false 1 (IR l)))), .c (.fn (.func 44) [] [])] [] (cb (l.any cntN)) [] := by
  refine AC.vc hP sh lv43 (Nat.le_refl _) (by simp) (by simp) (Eq.mpr (v43_F44 ..) ?_)
  exact ⟨_, h1, z01 (zja cntN l 0)⟩
 refine AC.vc hP sh lv20 (Nat.le_refl _) (by simp) (by simp) (Eq.mpr (v20 ..) ?_)
 exact ⟨_, h2, z01 rfl⟩
def ixF (p : Tm → Bool) : List Tm → Nat → Int
 | [], _ => -1
 | t :: l, i => if p t = true then (i : Int) else ixF p l (i + 1)
theorem zdv (p : Tm → Bool) : ∀ (l : List Tm) (i : Nat), decide (ixF p l i ≥ 0) = l.any p
 | [], _ => rfl
 | t :: l, i => by
  rw [ixF, List.any_cons]
  split
  · rename_i h; rw [h]; simp
  · rename_i h; rw [zdv p l, show p t = false by simpa using h, Bool.false_or]
abbrev obN (n : Int) : AObj := .arr 1 [[.a (.fz (.int .i64 n))]]
abbrev obC (c : Cd) : AObj := .arr 6 [cCd c]
theorem zdx (p : Tm → Bool) (n : Int) (b : List Tm) : ∀ a : List Tm, (a ++ b).length ≤ B → (∀ u ∈ b, AC Tryd.prog 70 [aT u, .c (.a (.ep 0 1 0 0))] [obN n] (cb (p u)) [obN n]) → RPt Tryd.prog 71 1 (ci (ixF p b a.length)) [obN n] 1 ⟨[(0, aL (a ++ b)), (1, .c (.fn (.func 70) [] [(false, [.ep 0 1 0 0])])), (7, ci (a ++ b).length), (8, ci a.length)], [(0, obN n)], 1⟩ := by
 induction b with
 | nil =>
  intro a hs _
  refine RPt.vc hP sh lv71 (Eq.mpr (z89 ..) ?_)
  exact z00 (fun h => absurd (of_decide_eq_true h) (by simp)) (fun _ => ⟨.refl _, rfl⟩)
 | cons t b ihb =>
  intro a hs ih
  have h3 := ltI' a t b
  have h1 := ih t List.mem_cons_self
  have h2 := ihb (a ++ [t]) (by simpa using hs) (fun u hu => ih u (List.mem_cons_of_mem _ hu))
  rw [ap, nx, show (a ++ [t]).length = a.length + 1 by simp] at h2
  rw [ixF]
  simp only [List.length_append, List.length_cons, B] at hs
  have h4 : (a.length : Int) < ((a ++ t :: b).length : Int) := by simp only [List.length_append, List.length_cons]; omega
  refine RPt.vc hP sh lv71 (Eq.mpr (z89 ..) ?_)
  rw [w64 (by omega) (by omega)]
  refine z00 (fun _ => ⟨⟨rfl, by omega, h3, zbl ..⟩, p t, by rw [zb3]; exact h1, z00 (fun h => ?_) (fun h => ?_)⟩) (fun h => absurd h4 (of_decide_eq_false h))
  · rw [if_pos h]; exact ⟨.refl _, rfl⟩
  · rw [if_neg (by rw [h]; simp)]; exact h2
theorem zch (p : Tm → Bool) (n : Int) (l : List Tm) (hl : l.length ≤ B) (h : ∀ u ∈ l, AC Tryd.prog 70 [aT u, .c (.a (.ep 0 1 0 0))] [obN n] (cb (p u)) [obN n]) : AC Tryd.prog 50 [aL l, .c (.fn (.func 70) [] [(false, [.ep 0 1 0 0])])] [obN n] (cb (l.any p)) [obN n] := by
 have h0 := zdx p n l [] hl h
 have h1 : AC Tryd.prog 71 [aL l, .c (.fn (.func 70) [] [(false, [.ep 0 1 0 0])])] [obN n] (ci (ixF p l 0)) [obN n] := by
  refine AC.vc hP sh lv71 (Nat.le_refl _) (by simp [isLive]) (by simp) (Eq.mpr (v71_F70 ..) ?_)
  rw [z05]
  exact ⟨rfl, h0⟩
 refine AC.vc hP sh lv50 (Nat.le_refl _) (by simp [isLive]) (by simp) (Eq.mpr (v50_F70 ..) ?_)
 exact ⟨_, h1, by rw [zdv p l 0]; exact ⟨.refl _, rfl⟩⟩
theorem l_ixcodd (p : Tm → Bool) (c : Cd) (b : List Tm) : ∀ a : List Tm, (a ++ b).length ≤ B → (∀ u ∈ b, AC Tryd.prog 45 [aT u, .c (.a (.ep 0 6 0 0))] [obC c] (cb (p u)) [obC c]) → RPt Tryd.prog 71 1 (ci (ixF p b a.length)) [obC c] 1 ⟨[(0, aL (a ++ b)), (1, .c (.fn (.func 45) [] [(false, [.ep 0 6 0 0])])), (7, ci (a ++ b).length), (8, ci a.length)], [(0, obC c)], 1⟩ := by
 induction b with
 | nil =>
  intro a hs _
  refine RPt.vc hP sh lv71 (Eq.mpr (z8p ..) ?_)
  exact z00 (fun h => absurd (of_decide_eq_true h) (by simp)) (fun _ => ⟨.refl _, rfl⟩)
 | cons t b ihb =>
  intro a hs ih
  have h3 := ltI' a t b
  have h1 := ih t List.mem_cons_self
  have h2 := ihb (a ++ [t]) (by simpa using hs) (fun u hu => ih u (List.mem_cons_of_mem _ hu))
  rw [ap, nx, show (a ++ [t]).length = a.length + 1 by simp] at h2
  rw [ixF]
  simp only [List.length_append, List.length_cons, B] at hs
  have h4 : (a.length : Int) < ((a ++ t :: b).length : Int) := by simp only [List.length_append, List.length_cons]; omega
  refine RPt.vc hP sh lv71 (Eq.mpr (z8p ..) ?_)
  rw [w64 (by omega) (by omega)]
  refine z00 (fun _ => ⟨⟨rfl, by omega, h3, zbl ..⟩, p t, by rw [zb3]; exact h1, z00 (fun h => ?_) (fun h => ?_)⟩) (fun h => absurd h4 (of_decide_eq_false h))
  · rw [if_pos h]; exact ⟨.refl _, rfl⟩
  · rw [if_neg (by rw [h]; simp)]; exact h2
theorem zhh (p : Tm → Bool) (c : Cd) (l : List Tm) (hl : l.length ≤ B) (h : ∀ u ∈ l, AC Tryd.prog 45 [aT u, .c (.a (.ep 0 6 0 0))] [obC c] (cb (p u)) [obC c]) : AC Tryd.prog 50 [aL l, .c (.fn (.func 45) [] [(false, [.ep 0 6 0 0])])] [obC c] (cb (l.any p)) [obC c] := by
 have h0 := l_ixcodd p c l [] hl h
 have h1 : AC Tryd.prog 71 [aL l, .c (.fn (.func 45) [] [(false, [.ep 0 6 0 0])])] [obC c] (ci (ixF p l 0)) [obC c] := by
  refine AC.vc hP sh lv71 (Nat.le_refl _) (by simp [isLive]) (by simp) (Eq.mpr (v71_F45 ..) ?_)
  rw [z05]
  exact ⟨rfl, h0⟩
 refine AC.vc hP sh lv50 (Nat.le_refl _) (by simp [isLive]) (by simp) (Eq.mpr (v50_F45 ..) ?_)
 exact ⟨_, h1, by rw [zdv p l 0]; exact ⟨.refl _, rfl⟩⟩
theorem zjo (f : Tm → Bool) (l : List Tm) : (!l.any fun t => !f t) = l.all f := by induction l with | nil => rfl | cons t l ih => rw [List.any_cons, List.all_cons, ← ih]; cases f t <;> simp
theorem c_cunder (n : Int) : ∀ t : Tm, t.sz ≤ B → AC Tryd.prog 48 [aT t, ci n] [] (cb (unF n t)) [] := by
 refine Tm.ind fun t ih hs => ?_
 have hl := Tm.szs_length t.l
 have he := t.sz_eq
 have hk : ∀ u ∈ t.l, AC Tryd.prog 70 [aT u, .c (.a (.ep 0 1 0 0))] [obN n] (cb (!unF n u)) [obN n] := fun u hu => by
  have h1 := ih u hu (by have := Tm.szs_mem hu; omega)
  refine AC.vc hP sh lv70 (Nat.le_refl _) (by simp [isLive]) (by simp) (Eq.mpr (v70 ..) ?_)
  exact ⟨_, h1, .refl _, rfl⟩
 have h2 := zch (fun u => !unF n u) n t.l (by omega) hk
 refine AC.vc hP sh lv48 (Nat.le_refl _) (by simp) (by simp) (Eq.mpr (v48 ..) ?_)
 have e := zjo (unF n) t.l
 rw [unF_eq, ← e]
 refine z00 (fun h => z01 (by rw [h]; rfl)) (fun h => z00 (fun h' => z00 (fun q => z01 (by rw [h, h', q]; rfl)) (fun q => ⟨_, h2, z01 (by rw [h, h', q]; rfl)⟩)) (fun h' => ⟨_, h2, z01 (by rw [h, h']; rfl)⟩))
theorem zk9 (t : Tm) : z1t t (.mk 0 [] 0 []) = z87 t := by
 obtain ⟨k, s, n, l⟩ := t
 cases l with
 | nil => simp [z1t, z1j, z87, Tm.k, Tm.s, Tm.n, Tm.l]
 | cons x l => simp [z1t, z1j, z87, Tm.k, Tm.s, Tm.n, Tm.l]
theorem c_cempty (t : Tm) (hs : t.sz ≤ B) : AC Tryd.prog 49 [aT t] [] (cb (z87 t)) [] := by
 have h := (zic t hs (.mk 0 [] 0 [])).args (args := [aT t, .agg [.a (.fz (.int .i64 0)), .a (.fz (.str [])), .a (.fz (.int .i64 0)), .a (.fz .nils)]]) ⟨.refl _, .agg _ _ rfl (fun i x y hx hy => by
  match i with
  | 0 => simp at hx hy; subst hx; subst hy; exact .refl _
  | 1 => simp at hx hy; subst hx; subst hy; exact .refl _
  | 2 => simp at hx hy; subst hx; subst hy; exact .refl _
  | 3 => simp at hx hy; subst hx; subst hy; exact .a _ _ (.fz _ _ leNil)
  | i + 4 => simp at hx), trivial⟩
 refine AC.vc hP sh lv49 (Nat.le_refl _) (by simp) (by simp) (Eq.mpr (v49 ..) ?_)
 exact ⟨_, h, z01 (zk9 t)⟩
theorem c_codd (c : Cd) (t : Tm) (hs : t.sz ≤ B) (hb : bd 2305843009213693952 t) : AC Tryd.prog 45 [aT t, .c (.a (.ep 0 6 0 0))] [obC c] (cb (!plB c.sl t)) [obC c] := by
 have h1 := zhz t hs
 have h2 := c_loose t hs hb
 have h3 := c_cunder c.sl t hs
 refine AC.vc hP sh lv45 (Nat.le_refl _) (by simp [isLive]) (by simp) (Eq.mpr (v45 ..) ?_)
 refine ⟨_, h1, z00 (fun h => ⟨?_, rfl⟩) (fun h => ⟨_, h2, z00 (fun q => ⟨?_, rfl⟩) (fun q => ⟨_, h3, ?_, rfl⟩)⟩)⟩
 · rw [plB, show z13 t = false by simpa using h]; exact .refl _
 · have : decide (z3k t 0 0 ≤ 0) = false := by have := of_decide_eq_true q; exact decide_eq_false (by omega)
   rw [plB, this, Bool.false_and, Bool.and_false]; exact .refl _
 · have : decide (z3k t 0 0 ≤ 0) = true := by have := of_decide_eq_false q; exact decide_eq_true (by omega)
   rw [plB, this, show z13 t = true by simpa using h]; exact .refl _
theorem c_anyOdd (c : Cd) (l : List Tm) (hl : l.length ≤ B) (hs : ∀ t ∈ l, t.sz ≤ B ∧ bd 2305843009213693952 t) : AC Tryd.prog 50 [aL l, .c (.fn (.func 45) [] [(false, [.ep 0 6 0 0])])] [obC c] (cb (!l.all (plB c.sl))) [obC c] := by
 have h := zhh (fun t => !plB c.sl t) c l hl (fun u hu => c_codd c u (hs u hu).1 (hs u hu).2)
 rw [← zjo, Bool.not_not]
 exact h
theorem c_chead (k : Int) : AC Tryd.prog 72 [ci k] [] (cb (k == 0 || k == 1)) [] := by
 refine AC.vc hP sh lv72 (Nat.le_refl _) (by simp) (by simp) (Eq.mpr (v72 ..) ?_)
 exact z00 (fun h => z01 (by rw [h]; rfl)) (fun h => z01 (by rw [h]; rfl))
theorem c_cpred (t : Tm) (hs : t.sz ≤ B) : AC Tryd.prog 73 [aT t] [] (cb (atomB t)) [] := by
 have h1 := zfh t hs
 have h2 := z8v (z2a t).1.s
 refine AC.vc hP sh lv73 (Nat.le_refl _) (by simp) (by simp) (Eq.mpr (v73 ..) ?_)
 exact ⟨_, h1, z00 (fun h => ⟨_, h2, z01 (by rw [atomB, h]; rfl)⟩) (fun h => z01 (by rw [atomB, h]; rfl))⟩
theorem zjj (t : Tm) (hs : t.sz ≤ B) : AC Tryd.prog 74 [aT t] [] (cb (isNum t)) [] := by
 have h1 := zfh t hs
 refine AC.vc hP sh lv74 (Nat.le_refl _) (by simp) (by simp) (Eq.mpr (v74 ..) ?_)
 refine ⟨_, h1, ?_⟩
 rw [z05]
 have e2 : ((((z2a t).2.length : Nat) : Int) == 2) = ((z2a t).2.length == 2) := by rw [Bool.eq_iff_iff, beq_iff_eq, beq_iff_eq]; omega
 rw [e2]
 unfold isNum numB nums
 generalize (z2a t).1.s = s
 generalize (z2a t).1.k = k
 generalize ((z2a t).2.length == 2) = b
 repeat' (first | refine z00 (fun _ => ?_) (fun _ => ?_) | refine And.intro (show FV.isSl 4 _ = true by rfl) ?_)
 all_goals exact z01 (by simp_all)
def aftR (k : Int) (p : Int × Int) : (Int × Int) × Bool × Bool :=
 if k = 3 ∨ k = 4 then (p, false, p.1 == 0 && p.2 == 0) else if k = 8 then (p, false, true) else (aftP k p, true, decide ((aftP k p).1 ≥ 0) && decide ((aftP k p).2 ≥ 0))
theorem z2t {a b : TV} (h : a = b) : TV.Le a b := by rw [h]; exact .refl _
theorem c_cafter (m : Bool) (p : Int × Int) (k : Int) (h1 : 0 - M61 ≤ p.1 ∧ p.1 ≤ M61) (h2 : 0 - M61 ≤ p.2 ∧ p.2 ≤ M61) : AC Tryd.prog 53 [.agg [.a (.fz (.bool m)), .a (.fz (.int .i64 p.1)), .a (.fz (.int .i64 p.2))], ci k] []
  (.tup [(true, [.a (.fz (.bool m)), .a (.fz (.int .i64 (aftR k p).1.1)), .a (.fz (.int .i64 (aftR k p).1.2))]), (false, [.a (.fz (.bool (aftR k p).2.1))]), (false, [.a (.fz (.bool (aftR k p).2.2))])]) [] := by
 obtain ⟨x, y⟩ := p
 simp only [M61] at h1 h2
 refine AC.vc hP sh lv53 (Nat.le_refl _) (by simp) (by simp) (Eq.mpr (v53 ..) ?_)
 rw [w64 (x := x + 1) (by omega) (by omega), w64 (x := x - 1) (by omega) (by omega), w64 (x := y + 1) (by omega) (by omega), w64 (x := y - 1) (by omega) (by omega)]
 unfold aftR aftP
 repeat' (refine z00 (fun _ => ?_) (fun _ => ?_))
 all_goals refine zi (z2t ?_)
 all_goals simp_all
 all_goals omega
end Go.AM

set_option maxRecDepth 100000
open Go Go.Proofs
namespace Go.AM
def pR (p : Pl) : List FV := [.bool p.1, .int .i64 p.2.1, .int .i64 p.2.2]
def PR (l : List Pl) : List (List FV) := l.map pR
theorem z2l (l : List Pl) : (PR l).length = l.length := by simp [PR]
theorem zje {l : List Pl} {i : Nat} (h : i < l.length) : List.getD (PR l) i [] = pR (l.getD i (false, 0, 0)) := by
 simp [PR, List.getD, List.getElem?_eq_getElem h]
theorem pr_set (l : List Pl) (i : Nat) (p : Pl) : List.set (PR l) i (pR p) = PR (l.set i p) := by
 simp [PR, List.map_set]
abbrev obL (n : Nat) : AObj := .arr 1 [[.a (.osl 1 3 0 n)]]
theorem zhf (l : List Pl) (i : Nat) (p : Int × Int) : AC Tryd.prog 52 [ci i, .agg [.a (.fz (.bool true)), .a (.fz (.int .i64 p.1)), .a (.fz (.int .i64 p.2))], .c (.a (.ep 0 1 0 0))] [obL l.length, .arz 3 (PR l)]
  (cb (z38 l i p).isSome) [obL l.length, .arz 3 (PR ((z38 l i p).getD l))] := by
 refine AC.vc hP sh lv52 (Nat.le_refl _) (by simp [isLive]) (by simp) (Eq.mpr (v52 ..) ?_)
 rw [Int.toNat_natCast, Nat.zero_add]
 refine z00 (fun h => ?_) (fun h => ?_)
 · have h := of_decide_eq_true h
   rw [z38, if_neg (by omega)]
   exact ⟨.refl _, rfl⟩
 · have h := of_decide_eq_false h
   have hi : i < l.length := by omega
   have hn : (0 : Int) ≤ (i : Int) ∧ (i : Int) < ((l.length : Nat) : Int) := ⟨by omega, by omega⟩
   have e := zje hi
   rw [z38, if_pos (by omega), Int.toNat_natCast]
   have e2 : List.set (PR l) i [.bool true, .int .i64 p.1, .int .i64 p.2] = PR (l.set i (true, p)) := pr_set l i (true, p)
   have hi2 : i < (l.set i (true, p)).length := by simpa using hi
   have e3 := zje hi2
   rw [e2, e, e3]
   have e4 : (l.set i (true, p)).getD i (false, 0, 0) = (true, p) := by simp [List.getD, hi]
   rw [e4]
   generalize l.getD i (false, 0, 0) = q
   obtain ⟨m, x, y⟩ := q
   refine ⟨hn, ⟨by rw [z2l]; exact hi, rfl, rfl⟩, z00 (fun h1 => ?_) (fun h1 => ?_)⟩
   · have h1 : m = false := by simpa [pR, FV.asB] using h1
     subst h1
     refine ⟨hn, ⟨by rw [z2l]; exact hi, rfl⟩, hn, ⟨by rw [z2l]; exact hi2, rfl, rfl⟩, z2t ?_, rfl⟩
     simp [pR, FV.asB, FV.asI]
   · have h1 : m = true := by simpa [pR, FV.asB] using h1
     subst h1
     refine ⟨hn, ⟨by rw [z2l]; exact hi, rfl, rfl⟩, ?_⟩
     by_cases hq : ((true, x, y) : Pl) = (true, p)
     · rw [if_neg (by simp), if_pos hq]
       obtain ⟨_, rfl⟩ := Prod.mk.inj hq
       exact ⟨z2t (by simp [pR, FV.asB, FV.asI]), rfl⟩
     · rw [if_neg (by simp), if_neg hq]
       refine ⟨z2t ?_, rfl⟩
       obtain ⟨p1, p2⟩ := p
       simp [pR, FV.asB, FV.asI] at hq ⊢
       exact hq
theorem zi2 {l l' : List Pl} {i : Int} {p : Int × Int} (h : z38 l i p = some l') : l'.length = l.length ∧ ∀ q ∈ l', q ∈ l ∨ q = (true, p) := by
 unfold z38 at h
 split at h
 · split at h
   · injection h with h
     subst h
     exact ⟨by simp, fun q hq => by rcases List.mem_or_eq_of_mem_set hq with h | h; exact .inl h; exact .inr h⟩
   · split at h
     · injection h with h
       subst h
       exact ⟨rfl, fun q hq => .inl hq⟩
     · cases h
 · cases h
theorem stepW_no {l : List Pl} {i k a : Int} (h : (l.getD i.toNat (false, 0, 0)).1 = false) : zck l i k a = some l := by rw [zck, if_pos h]
theorem zjb {l : List Pl} {i k a : Int} (h : (l.getD i.toNat (false, 0, 0)).1 = true) : zck l i k a =
  if (aftR k (l.getD i.toNat (false, 0, 0)).2).2.2 = false then none else if (aftR k (l.getD i.toNat (false, 0, 0)).2).2.1 = false then some l
  else if k = 9 ∨ k = 10 then (match z38 l a (aftR k (l.getD i.toNat (false, 0, 0)).2).1 with
   | none => none
   | some l' => if k = 10 then some l' else z38 l' (i + 1) (aftR k (l.getD i.toNat (false, 0, 0)).2).1)
  else z38 l (i + 1) (aftR k (l.getD i.toNat (false, 0, 0)).2).1 := by
 rw [zck, if_neg (by rw [h]; simp)]
 generalize (l.getD i.toNat (false, 0, 0)).2 = p
 obtain ⟨x, y⟩ := p
 unfold aftR
 by_cases h1 : k = 3 ∨ k = 4
 · rw [if_pos h1, if_pos h1]
   by_cases h2 : ((x, y) : Int × Int) = (0, 0)
   · rw [if_pos h2]; injection h2 with a b; subst a; subst b; rfl
   · rw [if_neg h2]
     have : (x == 0 && y == 0) = false := by
      rw [Bool.and_eq_false_iff]
      by_cases hx : x = 0
      · right; subst hx; simpa using h2
      · left; simpa using hx
     rw [if_pos this]
 rw [if_neg h1, if_neg h1]
 by_cases h2 : k = 8
 · rw [if_pos h2, if_pos h2]; rfl
 rw [if_neg h2, if_neg h2]
 by_cases h3 : (aftP k (x, y)).1 < 0 ∨ (aftP k (x, y)).2 < 0
 · have e : (decide ((aftP k (x, y)).1 ≥ 0) && decide ((aftP k (x, y)).2 ≥ 0)) = false := by
    simp only [Bool.and_eq_false_iff, decide_eq_false_iff_not]; omega
   rw [if_pos h3]
   dsimp only
   rw [e, if_pos rfl]
 · have e : (decide ((aftP k (x, y)).1 ≥ 0) && decide ((aftP k (x, y)).2 ≥ 0)) = true := by
    simp only [Bool.and_eq_true, decide_eq_true_eq]; omega
   rw [if_neg h3]
   dsimp only
   rw [e]
   simp only [Bool.true_eq_false, if_false]
   try rfl
theorem aft_bd {k : Int} {p : Int × Int} {n : Int} (h1 : 0 ≤ p.1 ∧ p.1 ≤ n) (h2 : 0 ≤ p.2 ∧ p.2 ≤ n) (hn : 0 ≤ n) (hk : (aftR k p).2.2 = true) : (0 ≤ (aftR k p).1.1 ∧ (aftR k p).1.1 ≤ n + 1) ∧ 0 ≤ (aftR k p).1.2 ∧ (aftR k p).1.2 ≤ n + 1 := by
 unfold aftR at hk ⊢
 split
 · simp only; omega
 split
 · simp only; omega
 rename_i q1 q2
 rw [if_neg q1, if_neg q2] at hk
 simp only [Bool.and_eq_true, decide_eq_true_eq] at hk ⊢
 unfold aftP at hk ⊢
 split <;> (try split) <;> (try split) <;> (try split) <;> simp_all <;> omega
abbrev fnM : TV := .c (.fn (.func 52) [] [(false, [.ep 0 1 0 0])])
theorem zjr (ins : List In1) (hB : ins.length ≤ B) : ∀ (b a : List In1) (l : List Pl), ins = a ++ b → l.length = ins.length → (∀ x ∈ b, (x.k = 9 ∨ x.k = 10) → 0 ≤ x.a ∧ x.a ≤ B) →
  (∀ q ∈ l, (0 ≤ q.2.1 ∧ q.2.1 ≤ a.length) ∧ 0 ≤ q.2.2 ∧ q.2.2 ≤ a.length) →
  RPt Tryd.prog 22 0 (cb (z57 l a.length b)) [] 1 ⟨[(3, .c (.a (.ep 0 1 0 0))), (4, fnM), (22, .c (.a (.fz (.sl false 8 (FIs ins))))), (23, ci ins.length), (24, ci a.length)], [(0, obL l.length), (1, .arz 3 (PR l))], 2⟩
 | [], a, l, hx, hl, _, _ => by
  refine RPt.vc hP sh lv22 (Eq.mpr (v22_1a ..) ?_)
  refine z00 (fun h => absurd (of_decide_eq_true h) ?_) (fun _ => z01 rfl)
  rw [hx]; simp
 | x :: b, a, l, hx, hl, ha, hq => by
  have hla : a.length < l.length := by rw [hl, hx]; simp
  have hlt : (a.length : Int) < (ins.length : Int) := by omega
  simp only [B] at hB
  have next : ∀ l' : List Pl, l'.length = l.length → (∀ q ∈ l', (0 ≤ q.2.1 ∧ q.2.1 ≤ (a.length : Int) + 1) ∧ 0 ≤ q.2.2 ∧ q.2.2 ≤ (a.length : Int) + 1) → zck l a.length x.k x.a = some l' →
    RPt Tryd.prog 22 0 (cb (z57 l a.length (x :: b))) [] 1 ⟨[(3, .c (.a (.ep 0 1 0 0))), (4, fnM), (22, .c (.a (.fz (.sl false 8 (FIs ins))))), (23, ci ins.length), (24, ci ((a.length : Int) + 1))], [(0, obL l.length), (1, .arz 3 (PR l'))], 2⟩ := fun l' h1 h2 h3 => by
   have := zjr ins (by simp only [B]; omega) b (a ++ [x]) l' (by rw [hx]; simp) (by rw [h1, hl]) (fun y hy => ha y (List.mem_cons_of_mem _ hy)) (fun q hm => by
    have := h2 q hm
    simp only [List.length_append, List.length_singleton]
    omega)
   rw [nx, h1] at this
   rw [z57, h3]
   exact this
  have em : List.getD (FIs ins) (Int.toNat (a.length : Int)) [] = FI x := by rw [hx]; exact z1d a x b
  have eq0 := zje hla
  refine RPt.vc hP sh lv22 (Eq.mpr (v22_1a ..) ?_)
  rw [w64 (x := (a.length : Int) + 1) (by omega) (by omega), em, FI0, FI1, Int.toNat_natCast, Nat.zero_add, eq0]
  have hmem : l.getD a.length (false, 0, 0) ∈ l := by simp [List.getD, List.getElem?_eq_getElem hla]
  have hbd := hq _ hmem
  have sno := stepW_no (l := l) (i := (a.length : Int)) (k := x.k) (a := x.a)
  have syes := zjb (l := l) (i := (a.length : Int)) (k := x.k) (a := x.a)
  rw [Int.toNat_natCast] at sno syes
  generalize l.getD a.length (false, 0, 0) = q at *
  obtain ⟨m, p⟩ := q
  simp only at hbd sno syes
  have hn : (0 : Int) ≤ (a.length : Int) ∧ (a.length : Int) < ((l.length : Nat) : Int) := ⟨by omega, by omega⟩
  have hgrow : ∀ q ∈ l, (0 ≤ q.2.1 ∧ q.2.1 ≤ (a.length : Int) + 1) ∧ 0 ≤ q.2.2 ∧ q.2.2 ≤ (a.length : Int) + 1 := fun q hm => by have := hq q hm; omega
  refine z00 (fun _ => ⟨⟨rfl, by omega, by rw [z02]; exact hlt, by rw [← FI0 x, ← FI1 x]; exact fIr_FI x⟩, hn, ⟨by rw [z2l]; exact hla, rfl, rfl⟩, z00 (fun h1 => ?_) (fun h1 => ?_)⟩) (fun h => absurd hlt (of_decide_eq_false h))
  · exact next l rfl hgrow (sno (by simpa [pR, FV.asB] using h1))
  have h1 : m = true := by simpa [pR, FV.asB] using h1
  subst h1
  have hs := syes rfl
  have hc := c_cafter true p x.k (by simp only [M61]; omega) (by simp only [M61]; omega)
  refine ⟨hn, ⟨by rw [z2l]; exact hla, rfl, rfl⟩, true, (aftR x.k p).1.1, (aftR x.k p).1.2, (aftR x.k p).2.1, (aftR x.k p).2.2, hc, ?_⟩
  have none_no : zck l a.length x.k x.a = none → TV.Le (cb false) (cb (z57 l a.length (x :: b))) ∧ ([] : List AObj) = [] := fun h => z01 (by rw [z57, h])
  refine z00 (fun h2 => ?_) (fun h2 => ?_)
  · exact none_no (by rw [hs, if_pos (by simpa using h2)])
  have h2 : (aftR x.k p).2.2 = true := by simpa using h2
  rw [if_neg (by rw [h2]; simp)] at hs
  have hb2 := aft_bd hbd.1 hbd.2 (by omega) h2
  have hm1 : ∀ (l1 l2 : List Pl) (i : Int), (∀ q ∈ l1, (0 ≤ q.2.1 ∧ q.2.1 ≤ (a.length : Int) + 1) ∧ 0 ≤ q.2.2 ∧ q.2.2 ≤ (a.length : Int) + 1) → z38 l1 i (aftR x.k p).1 = some l2 → l2.length = l1.length ∧ ∀ q ∈ l2, (0 ≤ q.2.1 ∧ q.2.1 ≤ (a.length : Int) + 1) ∧ 0 ≤ q.2.2 ∧ q.2.2 ≤ (a.length : Int) + 1 := fun l1 l2 i h3 h4 => by
   have := zi2 h4
   refine ⟨this.1, fun q hm => ?_⟩
   rcases this.2 q hm with h | h
   · exact h3 q h
   · rw [h]; exact hb2
  have hN : ∀ (l1 : List Pl), (((a.length : Nat) : Int) + 1) = ((a.length + 1 : Nat) : Int) := fun _ => by omega
  have go2 : ∀ l1 : List Pl, l1.length = l.length → (∀ q ∈ l1, (0 ≤ q.2.1 ∧ q.2.1 ≤ (a.length : Int) + 1) ∧ 0 ≤ q.2.2 ∧ q.2.2 ≤ (a.length : Int) + 1) → zck l a.length x.k x.a = z38 l1 ((a.length : Int) + 1) (aftR x.k p).1 →
    ∃ z : Bool × List (List FV), AC Tryd.prog 52 [ci ((a.length : Int) + 1), .agg [.a (.fz (.bool true)), .a (.fz (.int .i64 (aftR x.k p).1.1)), .a (.fz (.int .i64 (aftR x.k p).1.2))], .c (.a (.ep 0 1 0 0))] [obL l.length, .arz 3 (PR l1)] (cb z.1) [obL l.length, .arz 3 z.2] ∧
     br (!z.1) (TV.Le (cb false) (cb (z57 l a.length (x :: b))) ∧ ([] : List AObj) = [])
      (RPt Tryd.prog 22 0 (cb (z57 l a.length (x :: b))) [] 1 ⟨[(3, .c (.a (.ep 0 1 0 0))), (4, fnM), (22, .c (.a (.fz (.sl false 8 (FIs ins))))), (23, ci ins.length), (24, ci ((a.length : Int) + 1))], [(0, obL l.length), (1, .arz 3 z.2)], 2⟩) := fun l1 e1 h3 h4 => by
   have hc2 := zhf l1 (a.length + 1) (aftR x.k p).1
   rw [e1, ← hN l1] at hc2
   refine ⟨(_, _), hc2, z00 (fun h => none_no ?_) (fun h => ?_)⟩
   · rw [h4]
     cases hm : z38 l1 ((a.length : Int) + 1) (aftR x.k p).1 with
     | none => rfl
     | some l2 => rw [hm] at h; cases h
   · cases hm : z38 l1 ((a.length : Int) + 1) (aftR x.k p).1 with
     | none => rw [hm] at h; cases h
     | some l2 =>
      have h5 := hm1 l1 l2 _ h3 hm
      exact next l2 (by rw [h5.1, e1]) h5.2 (by rw [h4, hm])
  cases ho : (aftR x.k p).2.1 with
  | false =>
   rw [if_pos ho] at hs
   have := next l rfl hgrow hs
   refine z00 (fun _ => ?_) (fun _ => ?_)
   · exact this
   · exact this
  | true =>
   rw [if_neg (by rw [ho]; simp)] at hs
   by_cases hk : x.k = 9 ∨ x.k = 10
   · rw [if_pos hk] at hs
     have hxa := ha x List.mem_cons_self hk
     obtain ⟨j, hj⟩ : ∃ j : Nat, x.a = j := ⟨x.a.toNat, by omega⟩
     have hc2 := zhf l j (aftR x.k p).1
     rw [← hj] at hc2
     have key : ∃ z : Bool × List (List FV), AC Tryd.prog 52 [ci x.a, .agg [.a (.fz (.bool true)), .a (.fz (.int .i64 (aftR x.k p).1.1)), .a (.fz (.int .i64 (aftR x.k p).1.2))], .c (.a (.ep 0 1 0 0))] [obL l.length, .arz 3 (PR l)] (cb z.1) [obL l.length, .arz 3 z.2] ∧
      br (!z.1) (TV.Le (cb false) (cb (z57 l a.length (x :: b))) ∧ ([] : List AObj) = [])
       (br (x.k != 10) (∃ z7 : Bool × List (List FV), AC Tryd.prog 52 [ci ((a.length : Int) + 1), .agg [.a (.fz (.bool true)), .a (.fz (.int .i64 (aftR x.k p).1.1)), .a (.fz (.int .i64 (aftR x.k p).1.2))], .c (.a (.ep 0 1 0 0))] [obL l.length, .arz 3 z.2] (cb z7.1) [obL l.length, .arz 3 z7.2] ∧
        br (!z7.1) (TV.Le (cb false) (cb (z57 l a.length (x :: b))) ∧ ([] : List AObj) = [])
         (RPt Tryd.prog 22 0 (cb (z57 l a.length (x :: b))) [] 1 ⟨[(3, .c (.a (.ep 0 1 0 0))), (4, fnM), (22, .c (.a (.fz (.sl false 8 (FIs ins))))), (23, ci ins.length), (24, ci ((a.length : Int) + 1))], [(0, obL l.length), (1, .arz 3 z7.2)], 2⟩))
        (RPt Tryd.prog 22 0 (cb (z57 l a.length (x :: b))) [] 1 ⟨[(3, .c (.a (.ep 0 1 0 0))), (4, fnM), (22, .c (.a (.fz (.sl false 8 (FIs ins))))), (23, ci ins.length), (24, ci ((a.length : Int) + 1))], [(0, obL l.length), (1, .arz 3 z.2)], 2⟩)) := by
      refine ⟨(_, _), hc2, z00 (fun h => none_no ?_) (fun h => ?_)⟩
      · cases hm : z38 l x.a (aftR x.k p).1 with
        | none => rw [hm] at hs; exact hs
        | some l2 => rw [hm] at h; cases h
      · cases hm : z38 l x.a (aftR x.k p).1 with
        | none => rw [hm] at h; cases h
        | some l2 =>
         rw [hm] at hs
         simp only at hs
         have h5 := hm1 l l2 _ hgrow hm
         refine z00 (fun h6 => ?_) (fun h6 => ?_)
         · rw [if_neg (by simpa using h6)] at hs
           exact go2 l2 h5.1 h5.2 hs
         · rw [if_pos (by simpa using h6)] at hs
           exact next l2 h5.1 h5.2 hs
     refine z00 (fun h9 => ?_) (fun h9 => ?_)
     · exact key
     · have h10 : (x.k == 10) = true := by
        rcases hk with h | h
        · rw [h] at h9; cases h9
        · rw [h]; rfl
       rw [h10]
       exact key
   · rw [if_neg hk] at hs
     have h9 : (x.k == 9) = false := by simp only [beq_eq_false_iff_ne]; exact fun h => hk (.inl h)
     have h10 : (x.k == 10) = false := by simp only [beq_eq_false_iff_ne]; exact fun h => hk (.inr h)
     have h11 : (x.k != 10) = true := by rw [bne, h10]; rfl
     rw [h9, h10, h11]
     exact go2 l rfl hgrow hs
theorem c_cways (c : Cd) (hB : c.ins.length ≤ B) (h0 : 0 < c.ins.length) (ha : ∀ x ∈ c.ins, (x.k = 9 ∨ x.k = 10) → 0 ≤ x.a ∧ x.a ≤ B) : AC Tryd.prog 22 [aC c] [] (cb (zgu c.ins)) [] := by
 have h := zjr c.ins hB c.ins [] ((List.replicate c.ins.length (false, 0, 0)).set 0 (true, 0, 0)) rfl (by simp) ha (fun q hq => by
  rcases List.mem_or_eq_of_mem_set hq with h | h
  · rw [(List.mem_replicate.1 h).2]; simp
  · rw [h]; simp)
 have e : PR ((List.replicate c.ins.length (false, 0, 0)).set 0 (true, 0, 0)) = List.set (List.replicate (Int.toNat (((FIs c.ins).length : Nat) : Int)) [.bool false, .int .i64 0, .int .i64 0]) 0 (z3j (List.getD (List.replicate (Int.toNat (((FIs c.ins).length : Nat) : Int)) [.bool false, .int .i64 0, .int .i64 0]) 0 []) 0 [.bool true]) := by
  rw [← pr_set, Int.toNat_natCast, z02]
  have : List.getD (List.replicate c.ins.length [FV.bool false, .int .i64 0, .int .i64 0]) 0 [] = [.bool false, .int .i64 0, .int .i64 0] := by simp [List.getD, h0]
  rw [this]
  simp [PR, pR, z3j]
 rw [e] at h
 simp only [B] at hB
 have hl : ((FIs c.ins).length : Int) = (c.ins.length : Int) := by rw [z02]
 refine AC.vc hP sh lv22 (Nat.le_refl _) (by simp) (by simp) (Eq.mpr (v22 ..) ?_)
 refine ⟨rfl, ⟨rfl, by omega, rfl, by omega, by omega, ?_⟩, ⟨by omega, ?_⟩, ⟨?_, ?_⟩, rfl, ?_⟩
 · unfold z2m; rw [Int.toNat_natCast, z02]; omega
 · rw [Int.toNat_natCast, z02]; omega
 · rw [List.length_replicate, Int.toNat_natCast, z02]; exact h0
 · rw [Int.toNat_natCast, z02]; simp [List.getD, h0]
 · have hn : ((List.replicate c.ins.length ((false, 0, 0) : Pl)).set 0 (true, 0, 0)).length = Int.toNat (((FIs c.ins).length : Nat) : Int) := by simp [z02]
   rw [hn, ← hl] at h
   exact h
end Go.AM

set_option maxRecDepth 100000
open Go Go.Proofs
namespace Go.AM
theorem FI2 (x : In1) : FV.asI (List.getD (FI x) 2 FV.nils) = x.t.k := by cases x; rw [FI]; rfl
theorem FI4 (x : In1) : FV.asI (List.getD (FI x) 4 FV.nils) = x.t.n := by cases x; rw [FI]; rfl
theorem FI5 (x : In1) : List.getD (FI x) 5 FV.nils = .sl false 4 (FTs x.t.l) := by cases x; rw [FI]; rfl
theorem el8 (ins : List In1) (i : Int) (h0 : 0 ≤ i) (h1 : i < ins.length) (x : In1) : FV.isSl 8 (.sl false 8 (FIs ins)) = true ∧ 0 ≤ i ∧ i < (((FIs ins).length : Nat) : Int) ∧
  ([.int .i64 x.k, .int .i64 x.a, .int .i64 x.t.k, .str x.t.s, .int .i64 x.t.n, .sl false 4 (FTs x.t.l), .sl false 4 (FTs x.l), .sl false 6 (FCs x.c)] : List FV) = FI x :=
 ⟨rfl, h0, by rw [z02]; exact h1, (FI_eta x).symm⟩
def oddC (sl : Int) (d : Cd) : Bool := decide (d.fr > sl) || !vC d
theorem vCs_any (sl : Int) (l : List Cd) : (!l.any (oddC sl)) = vCs sl l := by
 rw [zi1]
 induction l with
 | nil => rfl
 | cons d l ih =>
  rw [List.any_cons, List.all_cons, ← ih, Bool.not_or]
  congr 1
  unfold oddC
  by_cases h : d.fr ≤ sl
  · rw [decide_eq_false (by omega), decide_eq_true h]; simp
  · rw [decide_eq_true (show d.fr > sl by omega), decide_eq_false h]; rfl
theorem c_cins1 (c d : Cd) (h : AC Tryd.prog 7 [aC d] [] (cb (vC d)) []) : AC Tryd.prog 75 [aC d, .c (.a (.ep 0 6 0 0))] [obC c] (cb (oddC c.sl d)) [obC c] := by
 refine AC.vc hP sh lv75 (Nat.le_refl _) (by simp [isLive]) (by simp) (Eq.mpr (v75 ..) ?_)
 exact z00 (fun q => ⟨z2t (by rw [oddC, q]; rfl), rfl⟩) (fun q => ⟨_, h, z2t (by rw [oddC, q]; rfl), rfl⟩)
def ixC (p : Cd → Bool) : List Cd → Nat → Int
 | [], _ => -1
 | t :: l, i => if p t = true then (i : Int) else ixC p l (i + 1)
theorem zio (p : Cd → Bool) : ∀ (l : List Cd) (i : Nat), decide (ixC p l i ≥ 0) = l.any p
 | [], _ => rfl
 | t :: l, i => by
  rw [ixC, List.any_cons]
  split
  · rename_i h; rw [h]; simp
  · rename_i h; rw [zio p l, show p t = false by simpa using h, Bool.false_or]
theorem zhu (p : Cd → Bool) (c : Cd) (b : List Cd) : ∀ a : List Cd, (a ++ b).length ≤ B → (∀ u ∈ b, AC Tryd.prog 75 [aC u, .c (.a (.ep 0 6 0 0))] [obC c] (cb (p u)) [obC c]) → RPt Tryd.prog 84 1 (ci (ixC p b a.length)) [obC c] 1 ⟨[(0, aCs (a ++ b)), (1, .c (.fn (.func 75) [] [(false, [.ep 0 6 0 0])])), (7, ci (a ++ b).length), (8, ci a.length)], [(0, obC c)], 1⟩ := by
 induction b with
 | nil =>
  intro a hs _
  refine RPt.vc hP sh lv84 (Eq.mpr (z8a ..) ?_)
  exact z00 (fun h => absurd (of_decide_eq_true h) (by simp)) (fun _ => ⟨.refl _, rfl⟩)
 | cons t b ihb =>
  intro a hs ih
  have h1 := ih t List.mem_cons_self
  have h2 := ihb (a ++ [t]) (by simpa using hs) (fun u hu => ih u (List.mem_cons_of_mem _ hu))
  rw [ap, nx, show (a ++ [t]).length = a.length + 1 by simp] at h2
  rw [ixC]
  simp only [List.length_append, List.length_cons, B] at hs
  have h4 : (a.length : Int) < ((a ++ t :: b).length : Int) := by simp only [List.length_append, List.length_cons]; omega
  refine RPt.vc hP sh lv84 (Eq.mpr (z8a ..) ?_)
  rw [w64 (by omega) (by omega), z35]
  have e := z2j t
  refine z00 (fun _ => ⟨⟨rfl, by omega, by rw [z03]; exact h4, z95 t⟩, p t, by rw [show (TV.agg [.a (.fz (.str (FV.asS (List.getD (FC t) 0 FV.nils)))), .a (.fz (.int .i64 (FV.asI (List.getD (FC t) 1 FV.nils)))), .a (.fz (.int .i64 (FV.asI (List.getD (FC t) 2 FV.nils)))), .a (.fz (.int .i64 (FV.asI (List.getD (FC t) 3 FV.nils)))), .a (.fz (.int .i64 (FV.asI (List.getD (FC t) 4 FV.nils)))), .a (.fz (List.getD (FC t) 5 FV.nils))]) = aC t from z2j t]; exact h1, z00 (fun h => ?_) (fun h => ?_)⟩) (fun h => absurd h4 (of_decide_eq_false h))
  · rw [if_pos h]; exact ⟨.refl _, rfl⟩
  · rw [if_neg (by rw [h]; simp)]; exact h2
theorem c_ccontc (c : Cd) (l : List Cd) (hl : l.length ≤ B) (h : ∀ u ∈ l, AC Tryd.prog 7 [aC u] [] (cb (vC u)) []) : AC Tryd.prog 76 [aCs l, .c (.fn (.func 75) [] [(false, [.ep 0 6 0 0])])] [obC c] (cb (!vCs c.sl l)) [obC c] := by
 have h0 := zhu (oddC c.sl) c l [] hl (fun u hu => c_cins1 c u (h u hu))
 have h1 : AC Tryd.prog 84 [aCs l, .c (.fn (.func 75) [] [(false, [.ep 0 6 0 0])])] [obC c] (ci (ixC (oddC c.sl) l 0)) [obC c] := by
  refine AC.vc hP sh lv84 (Nat.le_refl _) (by simp [isLive]) (by simp) (Eq.mpr (v84_F75 ..) ?_)
  rw [z03]
  exact ⟨rfl, h0⟩
 rw [← vCs_any, Bool.not_not]
 refine AC.vc hP sh lv76 (Nat.le_refl _) (by simp [isLive]) (by simp) (Eq.mpr (v76_F75 ..) ?_)
 exact ⟨_, h1, by rw [zio (oddC c.sl) l 0]; exact ⟨.refl _, rfl⟩⟩
def z6p (a : List In1) : Option (Int × Int) := a.getLast?.map fun y => (y.k, y.a)
theorem z8e (a : List In1) (x : In1) : z6p (a ++ [x]) = some (x.k, x.a) := by simp [z6p]
def insR (c : Cd) (a : List In1) (x : In1) : Bool :=
 if x.k = 5 then x.l.length == 2 else if x.k = 14 then vCs c.sl x.c else insB c.ar (c.fr + c.vs) c.sl c.ins.length a.length (z6p a) x.k x.a x.t
abbrev usesT (k : Int) (ok : Bool) : TV := .tup [(true, [.a (.fz (.bool (useT k))), .a (.fz (.bool (k == 5))), .a (.fz (.bool (k == 14))), .a (.fz (.bool (useA k)))]), (false, [.a (.fz (.bool ok))])]
theorem c_cins (c : Cd) (a b : List In1) (x : In1) (hx : c.ins = a ++ x :: b) (hB : c.ins.length ≤ B) (hf : 0 ≤ c.fr + c.vs ∧ c.fr + c.vs ≤ B) (ht : x.t.sz ≤ B) (hc : x.c.length ≤ B) (hd : ∀ d ∈ x.c, AC Tryd.prog 7 [aC d] [] (cb (vC d)) []) :
  AC Tryd.prog 51 [aC c, ci a.length] [] (usesT x.k (insR c a x)) [] := by
 simp only [B] at hB hf
 have hla : a.length < c.ins.length := by rw [hx]; simp
 have e : List.getD (FIs c.ins) (Int.toNat (a.length : Int)) [] = FI x := by rw [hx]; exact z1d a x b
 have c1 := c_cpred x.t ht
 have c2 := zjj x.t ht
 have c3 := c_ccontc c x.c hc hd
 have need := el8 c.ins a.length (by omega) (by omega) x
 have e5 : ((((FTs x.l).length : Nat) : Int) == 2) = (x.l.length == 2) := by rw [z05, Bool.eq_iff_iff, beq_iff_eq, beq_iff_eq]; omega
 have hlen : (((FIs c.ins).length : Nat) : Int) = c.ins.length := by rw [z02]
 refine AC.vc hP sh lv51 (Nat.le_refl _) (by simp) (by simp) (Eq.mpr (v51 ..) ?_)
 rw [e, w64 (x := c.fr + c.vs) (by omega) (by omega)]
 simp only [FI0, FI1, FI2, FI3, FI4, FI5, FI6, FI7]
 refine ⟨need, ?_⟩
 have hkinds : ∀ ok, insR c a x = ok → True := fun _ _ => trivial
 rcases List.eq_nil_or_concat a with ha | ⟨a', y, ha⟩
 · subst ha
   have h0 : (decide ((([] : List In1).length : Int) > 0)) = false := rfl
   rw [h0]
   simp only [insR, insB, z6p, List.getLast?_nil, Option.map_none]
   simp only [FV.ses, e5, hlen]
   generalize x.k = k at *
   repeat' (first | refine z00 (fun _ => ?_) (fun _ => ?_) | refine ⟨_, c1, ?_⟩ | refine ⟨_, c2, ?_⟩ | refine ⟨_, c3, ?_⟩ | refine And.intro (show FV.isSl _ _ = true by rfl) ?_)
   all_goals first
    | contradiction
    | (refine ⟨z2t ?_, by trivial⟩; simp_all [useT, useA] <;> omega)
 · have ha : a = a' ++ [y] := by simpa using ha
   subst ha
   have h1 : (decide (((a' ++ [y]).length : Int) > 0)) = true := by simp
   have e2 : List.getD (FIs c.ins) (Int.toNat (IntKind.wrap .i64 (((a' ++ [y]).length : Int) - 1))) [] = FI y := by
    have q : IntKind.wrap .i64 (((a' ++ [y]).length : Int) - 1) = (a'.length : Int) := by
     simp only [List.length_append, List.length_singleton] at hla ⊢
     rw [w64 (by omega) (by omega)]; omega
    rw [q, hx, List.append_assoc]; exact z1d a' y (x :: b)
   have need2 := el8 c.ins (IntKind.wrap .i64 (((a' ++ [y]).length : Int) - 1)) (by
    simp only [List.length_append, List.length_singleton] at hla ⊢
    rw [w64 (by omega) (by omega)]; omega) (by
    simp only [List.length_append, List.length_singleton] at hla ⊢
    rw [w64 (by omega) (by omega)]; omega) y
   have c4 := c_chead y.k
   rw [h1, e2]
   simp only [FI0, FI1, FI2, FI3, FI4, FI5, FI6, FI7]
   simp only [insR, insB, z8e]
   simp only [FV.ses, e5, hlen]
   rw [hlen] at need2
   generalize x.k = k at *
   repeat' (first | refine z00 (fun _ => ?_) (fun _ => ?_) | refine ⟨_, c1, ?_⟩ | refine ⟨_, c2, ?_⟩ | refine ⟨_, c3, ?_⟩ | refine ⟨_, c4, ?_⟩ | refine And.intro (show FV.isSl 4 _ = true by rfl) ?_ | refine And.intro need2 ?_ | refine And.intro (show FV.isSl 6 _ = true by rfl) ?_ | refine And.intro (show FV.isSl 8 _ = true by rfl) ?_)
   all_goals clear need need2 e e2 ha hx hd c1 c2 c3 c4 hkinds e5 hlen h1 hla
   all_goals first
    | contradiction
    | (refine ⟨z2t ?_, by trivial⟩; simp_all [useT, useA] <;> omega)
end Go.AM

set_option maxRecDepth 100000
open Go Go.Proofs
namespace Go.AM
def z3f (c : Cd) (a : List In1) (x : In1) : Bool := fldB c.ar (c.fr + c.vs) c.sl c.ins.length a.length (z6p a) x.k x.a x.t x.l x.c.isEmpty && vCs c.sl x.c
theorem zjp (c : Cd) (a : List In1) (x : In1) : z3f c a x = ((x.k == 14 || ((plB c.sl x.t || z87 x.t) && x.l.all (plB c.sl))) && (insR c a x && ((useA x.k || x.a == 0) && ((x.k == 14 || x.c.isEmpty) && ((x.k == 5 || x.l.isEmpty) && (if useT x.k = true then plB c.sl x.t else z87 x.t)))))) := by
 have hAV : plB c.sl x.t = true → z13 x.t = true := fun h => by unfold plB at h; simp only [Bool.and_eq_true] at h; exact h.1
 have hCs : x.c.isEmpty = true → vCs c.sl x.c = true := fun h => by rw [List.isEmpty_iff.1 h, vCs]
 have hLs : x.l.isEmpty = true → x.l.all (plB c.sl) = true := fun h => by rw [List.isEmpty_iff.1 h]; rfl
 have h5 : x.k = 5 → insB c.ar (c.fr + c.vs) c.sl c.ins.length a.length (z6p a) x.k x.a x.t = true := fun h => by rw [h]; rfl
 have h14 : x.k = 14 → insB c.ar (c.fr + c.vs) c.sl c.ins.length a.length (z6p a) x.k x.a x.t = true := fun h => by rw [h]; rfl
 unfold z3f fldB insR
 generalize insB c.ar (c.fr + c.vs) c.sl c.ins.length a.length (z6p a) x.k x.a x.t = I at *
 generalize plB c.sl x.t = A at *
 generalize z87 x.t = E at *
 generalize z13 x.t = V at *
 generalize x.l.all (plB c.sl) = Ls at *
 generalize vCs c.sl x.c = W at *
 generalize x.c.isEmpty = ce at *
 generalize x.l.isEmpty = le at *
 generalize (x.l.length == 2) = l2 at *
 generalize (x.a == 0) = a0 at *
 generalize x.k = k at *
 by_cases q : k = 14
 · have := h14 q
   subst q
   cases E <;> cases le <;> cases a0 <;> cases W <;> simp_all [useA, useT]
 by_cases q2 : k = 5
 · have := h5 q2
   subst q2
   cases E <;> cases ce <;> cases l2 <;> cases a0 <;> cases Ls <;> simp_all [useA, useT]
 · have e1 : (k == 14) = false := by simpa using q
   have e2 : (k == 5) = false := by simpa using q2
   rw [e1, e2, if_neg q2, if_neg q2, if_neg q]
   generalize useT k = uT
   generalize useA k = uA
   cases uT <;> cases A <;> cases E <;> cases ce <;> cases Ls <;> simp_all
theorem zkg (c : Cd) (a b : List In1) (x : In1) (hx : c.ins = a ++ x :: b) (hB : c.ins.length ≤ B) (hf : 0 ≤ c.fr + c.vs ∧ c.fr + c.vs ≤ B) (ht : x.t.sz ≤ B) (hbt : bd 2305843009213693952 x.t) (hl : x.l.length ≤ B) (hs : ∀ t ∈ x.l, t.sz ≤ B ∧ bd 2305843009213693952 t)
  (hc : x.c.length ≤ B) (hd : ∀ d ∈ x.c, AC Tryd.prog 7 [aC d] [] (cb (vC d)) []) : AC Tryd.prog 21 [aC c, ci a.length] [] (cb (z3f c a x)) [] := by
 have c0 := c_cins c a b x hx hB hf ht hc hd
 have c1 := c_codd c x.t ht hbt
 have c2 := c_cempty x.t ht
 have c3 := c_anyOdd c x.l hl hs
 have hla : a.length < c.ins.length := by rw [hx]; simp
 have e : List.getD (FIs c.ins) (Int.toNat (a.length : Int)) [] = FI x := by rw [hx]; exact z1d a x b
 have need := el8 c.ins a.length (by omega) (by omega) x
 have hce : decide (((x.c.length : Nat) : Int) > 0) = !x.c.isEmpty := by cases x.c <;> simp
 have hle : decide (((x.l.length : Nat) : Int) > 0) = !x.l.isEmpty := by cases x.l <;> simp
 refine AC.vc hP sh lv21 (Nat.le_refl _) (by simp) (by simp) (Eq.mpr (v21 ..) ?_)
 rw [e]
 simp only [FI0, FI1, FI2, FI3, FI4, FI5, FI6, FI7]
 refine ⟨need, ?_⟩
 rw [zjp]
 simp only [FV.ses, z03, z05]
 rw [hce, hle, show (x.a != 0) = !(x.a == 0) from rfl, show (x.k != 14) = !(x.k == 14) from rfl]
 unfold usesT at c0
 generalize insR c a x = OK at *
 generalize plB c.sl x.t = A at *
 generalize z87 x.t = E at *
 generalize x.l.all (plB c.sl) = Ls at *
 generalize x.c.isEmpty = ce at *
 generalize x.l.isEmpty = le at *
 generalize useA x.k = uA at *
 generalize useT x.k = uT at *
 generalize (x.a == 0) = a0 at *
 generalize (x.k == 14) = k14 at *
 generalize (x.k == 5) = k5 at *
 repeat' (first | refine z00 (fun _ => ?_) (fun _ => ?_) | refine ⟨_, c1, ?_⟩ | refine ⟨_, c2, ?_⟩ | refine ⟨_, c3, ?_⟩ | refine ⟨_, _, _, _, _, c0, ?_⟩ | refine And.intro (show FV.isSl 4 _ = true by rfl) ?_ | refine And.intro (show FV.isSl 6 _ = true by rfl) ?_)
 all_goals clear c0 c1 c2 c3 hx hB hf ht hbt hl hs hc hd hla e need hce hle
 all_goals refine ⟨z2t ?_, by trivial⟩
 all_goals (simp_all; done)
mutual
def nbC : Cd → Prop
 | .mk _ _ _ _ _ ins => nbIs ins
def nbIs : List In1 → Prop
 | [] => True
 | .mk _ _ t l c :: r => (bd 2305843009213693952 t ∧ (∀ u ∈ l, bd 2305843009213693952 u) ∧ nbCs c) ∧ nbIs r
def nbCs : List Cd → Prop
 | [] => True
 | c :: r => nbC c ∧ nbCs r
end
theorem zag : ∀ {l : List In1} {x : In1}, nbIs l → x ∈ l → bd 2305843009213693952 x.t ∧ (∀ u ∈ x.l, bd 2305843009213693952 u) ∧ nbCs x.c
 | .mk k a t q c :: r, x, h, hm => by
  rw [nbIs] at h
  rcases List.mem_cons.1 hm with rfl | hm
  · exact h.1
  · exact zag h.2 hm
theorem zex : ∀ {l : List Cd} {d : Cd}, nbCs l → d ∈ l → nbC d
 | c :: r, d, h, hm => by
  rw [nbCs] at h
  rcases List.mem_cons.1 hm with rfl | hm
  · exact h.1
  · exact zex h.2 hm
theorem zjt {c : Cd} (h : nbC c) : nbIs c.ins := by cases c; rw [nbC] at h; exact h
theorem zfo (c : Cd) (hz : c.sz ≤ B) (hn : nbC c) (hf : 0 ≤ c.fr + c.vs ∧ c.fr + c.vs ≤ B) (ih : ∀ x ∈ c.ins, ∀ d ∈ x.c, AC Tryd.prog 7 [aC d] [] (cb (vC d)) []) (h0 : 0 < c.ins.length) : ∀ (b a : List In1), c.ins = a ++ b →
  (∀ x ∈ a, (x.k = 9 ∨ x.k = 10) → 0 ≤ x.a ∧ x.a ≤ B) →
  RPt Tryd.prog 7 0 (cb (vIs c.ar (c.fr + c.vs) c.sl c.ins.length a.length (z6p a) b && zgu c.ins)) [] 3 ⟨[(5, .c (.a (.ep 0 6 0 0))), (68, ci c.ins.length), (69, ci a.length)], [(0, obC c)], 1⟩
 | [], a, hx, ha => by
  have hl : c.ins.length ≤ B := by
   have := In1.szs_length c.ins
   cases c; simp only [Cd.sz, Cd.ins] at *; omega
  have h1 := c_cways c hl h0 (fun x hm => ha x (by rw [hx] at hm; simpa using hm))
  refine RPt.vc hP sh lv7 (Eq.mpr (v7_3a ..) ?_)
  refine z00 (fun h => absurd (of_decide_eq_true h) ?_) (fun _ => ⟨_, h1, z01 (by rw [vIs]; rfl)⟩)
  rw [hx]; simp
 | x :: b, a, hx, ha => by
  have hxm : x ∈ c.ins := by rw [hx]; simp
  have z1 := In1.szs_mem hxm
  have z2 := In1.szs_length c.ins
  have z3 : In1.szs c.ins ≤ B := by cases c; simp only [Cd.sz, Cd.ins, B] at *; omega
  have z4 : x.t.bk ≤ B ∧ Tm.bks x.l ≤ B ∧ Cd.szs x.c ≤ B := by cases x; simp only [In1.sz1, In1.t, In1.l, In1.c, B] at *; omega
  have z5 := Tm.sz_bk x.t
  have z6 := Tm.szs_bks x.l
  have z7 := Tm.szs_length x.l
  have z8 := Cd.szs_length x.c
  have n1 := zag (zjt hn) hxm
  have hl : c.ins.length ≤ B := by omega
  have hla : a.length < c.ins.length := by rw [hx]; simp
  have h1 := zkg c a b x hx hl hf (by omega) n1.1 (by omega) (fun t ht => ⟨by have := Tm.szs_mem ht; omega, n1.2.1 t ht⟩) (by omega) (ih x hxm)
  have ev : vIs c.ar (c.fr + c.vs) c.sl c.ins.length a.length (z6p a) (x :: b) = (z3f c a x && vIs c.ar (c.fr + c.vs) c.sl c.ins.length ((a.length : Int) + 1) (some (x.k, x.a)) b) := by
   cases x
   rw [vIs, z3f, Bool.and_assoc]; rfl
  rw [ev]
  simp only [B] at hl
  refine RPt.vc hP sh lv7 (Eq.mpr (v7_3a ..) ?_)
  rw [w64 (x := (a.length : Int) + 1) (by omega) (by omega)]
  refine z00 (fun _ => ⟨_, h1, z00 (fun h => z01 ?_) (fun h => ?_)⟩) (fun h => absurd (of_decide_eq_false h) (by omega))
  · rw [show z3f c a x = false by simpa using h]; rfl
  · have hfb : z3f c a x = true := by simpa using h
    have := zfo c hz hn hf ih h0 b (a ++ [x]) (by rw [hx]; simp) (fun y hy hk => by
     rcases List.mem_append.1 hy with hy | hy
     · exact ha y hy hk
     · have hy : y = x := by simpa using hy
       subst hy
       have : insB c.ar (c.fr + c.vs) c.sl c.ins.length a.length (z6p a) y.k y.a y.t = true := by
        unfold z3f fldB at hfb
        simp only [Bool.and_eq_true] at hfb
        exact hfb.1.2.1
       unfold insB at this
       rw [if_neg (by omega), if_neg (by omega), if_neg (by omega), if_pos hk] at this
       have := of_decide_eq_true this
       simp only [B]
       omega)
    rw [nx, z8e] at this
    rw [hfb, Bool.true_and]
    exact this
theorem last_nil {l : List In1} (h : l.length = 0) : zkf l = false := by rw [List.eq_nil_of_length_eq_zero h]; rfl
theorem zen : ∀ c : Cd, c.sz ≤ B → nbC c → AC Tryd.prog 7 [aC c] [] (cb (vC c)) [] := by
 refine Cd.ind fun c ih hz hn => ?_
 have z2 := In1.szs_length c.ins
 have z3 : In1.szs c.ins ≤ B ∧ c.nm.length ≤ B := by cases c; simp only [Cd.sz, Cd.ins, Cd.nm, B] at *; omega
 have hl : c.ins.length ≤ B := by omega
 simp only [B] at hl
 have ih' : ∀ x ∈ c.ins, ∀ d ∈ x.c, AC Tryd.prog 7 [aC d] [] (cb (vC d)) [] := fun x hx d hd => ih x hx d hd (by
  have a1 := In1.szs_mem hx
  have a2 := Cd.szs_mem hd
  cases x
  simp only [In1.sz1, In1.c] at *
  omega) (zex (zag (zjt hn) hx).2.2 hd)
 have c1 := zew c.nm
 have c2 := zjh c.nm
 have c3 := z8v c.nm
 have c4 := c_ccount [c.ar, c.fr, c.vs, c.sl] (by simp [B])
 have eV : vC c = (nmB c.nm && (cntB c.ar c.fr c.vs c.sl && (zkf c.ins && (vIs c.ar (c.fr + c.vs) c.sl c.ins.length 0 none c.ins && zgu c.ins)))) := by cases c; rw [vC]; rfl
 rw [eV]
 have hlen : (((FIs c.ins).length : Nat) : Int) = c.ins.length := by rw [z02]
 have tail : nmB c.nm = true → ∀ R : Prop, (∀ b : Bool, R → False) ∨ True → True := fun _ _ _ => trivial
 have ecnt : (!([c.ar, c.fr, c.vs, c.sl].any cntN)) = true → (0 ≤ c.ar ∧ c.ar ≤ 4096) ∧ (0 ≤ c.fr ∧ c.fr ≤ 4096) ∧ (0 ≤ c.vs ∧ c.vs ≤ 4096) ∧ (0 ≤ c.sl ∧ c.sl ≤ 4096) := fun h => by
  simp only [List.any_cons, List.any_nil, cntN, Bool.not_or, Bool.not_false, Bool.and_true, Bool.and_eq_true, Bool.not_eq_true', decide_eq_false_iff_not] at h
  omega
 have ecnt2 : (!([c.ar, c.fr, c.vs, c.sl].any cntN)) = false → cntB c.ar c.fr c.vs c.sl = false := fun h => by
  unfold cntB
  refine decide_eq_false fun q => ?_
  have : (!([c.ar, c.fr, c.vs, c.sl].any cntN)) = true := by
   simp only [List.any_cons, List.any_nil, cntN, Bool.not_or, Bool.not_false, Bool.and_true, Bool.and_eq_true, Bool.not_eq_true', decide_eq_false_iff_not]
   omega
  rw [this] at h; cases h
 have loop : 0 < c.ins.length → 0 ≤ c.fr + c.vs ∧ c.fr + c.vs ≤ B → RPt Tryd.prog 7 0 (cb (vIs c.ar (c.fr + c.vs) c.sl c.ins.length 0 none c.ins && zgu c.ins)) [] 3 ⟨[(5, .c (.a (.ep 0 6 0 0))), (68, ci c.ins.length), (69, ci 0)], [(0, obC c)], 1⟩ := fun h0 hf => zfo c hz hn hf ih' h0 c.ins [] rfl (fun x hx => by cases hx)
 have rest : nmB c.nm = true → (∃ b3 : Bool, AC Tryd.prog 20 [.c (.a (.fz (.sl false 1 [[.int .i64 c.ar], [.int .i64 c.fr], [.int .i64 c.vs], [.int .i64 c.sl]])))] [] (cb b3) [] ∧ (true = true) ∧ True) := fun _ => ⟨_, c4, rfl, trivial⟩
 have hlast : 0 < c.ins.length → ∃ y a', c.ins = a' ++ [y] ∧ zkf c.ins = (y.k == 3 || y.k == 4 || y.k == 8) ∧ List.getD (FIs c.ins) (Int.toNat (IntKind.wrap .i64 ((c.ins.length : Int) - 1))) [] = FI y ∧ 0 ≤ IntKind.wrap .i64 ((c.ins.length : Int) - 1) ∧ IntKind.wrap .i64 ((c.ins.length : Int) - 1) < c.ins.length := fun h0 => by
  rcases List.eq_nil_or_concat c.ins with h | ⟨a', y, h⟩
  · rw [h] at h0; cases h0
  · have h : c.ins = a' ++ [y] := by simpa using h
    rw [w64 (by omega) (by omega)]
    refine ⟨y, a', h, by rw [h]; simp [zkf], ?_, by omega, by omega⟩
    rw [show (c.ins.length : Int) - 1 = a'.length by rw [h]; simp, h]; exact z1d a' y []
 refine AC.vc hP sh lv7 (Nat.le_refl _) (by simp) (by simp) (Eq.mpr (v7 ..) ?_)
 refine ⟨rfl, _, c1, ?_⟩
 rw [hlen]
 by_cases h0 : 0 < c.ins.length
 · obtain ⟨y, a', hy1, hy2, hy3, hy4, hy5⟩ := hlast h0
   have need := el8 c.ins _ hy4 hy5 y
   have en : ((c.ins.length : Int) == 0) = false := by rw [beq_eq_false_iff_ne]; omega
   rw [hy3, en, hy2]
   simp only [FI0, FI1, FI2, FI3, FI4, FI5, FI6, FI7]
   rw [hlen] at need
   have hgo := loop h0
   clear loop hlast hy1 hy2 hy3 hy4 hy5 tail rest eV ih ih' z2 z3 hl hn hz
   unfold nmB
   cases hcnt : (!([c.ar, c.fr, c.vs, c.sl].any cntN)) with
   | false =>
    have hc0 := ecnt2 hcnt
    rw [hcnt] at c4
    rw [hc0]
    clear ecnt ecnt2
    repeat' (first | refine z00 (fun _ => ?_) (fun _ => ?_) | refine ⟨_, c2, ?_⟩ | refine ⟨_, c3, ?_⟩ | refine ⟨_, c4, ?_⟩ | refine And.intro (And.intro True.intro (Nat.le_refl 4)) ?_ | refine And.intro (And.intro (rfl : (1 : Nat) = 1) (Nat.le_refl 4)) ?_ | refine And.intro True.intro ?_ | refine And.intro (rfl : true = true) ?_ | refine And.intro need ?_ | fail)
    all_goals first
     | contradiction
     | exact ⟨z2t (by rw [Bool.false_and, Bool.and_false]), by trivial⟩
   | true =>
    have hb := ecnt hcnt
    rw [hcnt] at c4
    rw [w64 (x := c.fr + c.vs) (by omega) (by omega)]
    have hgo := hgo (by simp only [B]; omega)
    have hc1 : cntB c.ar c.fr c.vs c.sl = !decide (c.fr + c.vs > c.sl) := by
     unfold cntB
     by_cases q : c.fr + c.vs > c.sl
     · rw [decide_eq_true q, decide_eq_false (by omega)]; rfl
     · rw [decide_eq_false q, decide_eq_true (by omega)]; rfl
    rw [hc1]
    clear hc1 ecnt ecnt2 hcnt hb en h0
    generalize (vIs c.ar (c.fr + c.vs) c.sl c.ins.length 0 none c.ins && zgu c.ins) = V at *
    generalize decide (c.fr + c.vs > c.sl) = d at *
    generalize z74 c.nm = n1 at *
    generalize zcl c.nm = n2 at *
    generalize logB c.nm = lg at *
    generalize (y.k == 3) = k3 at *
    generalize (y.k == 4) = k4 at *
    generalize (y.k == 8) = k8 at *
    repeat' (first | refine z00 (fun _ => ?_) (fun _ => ?_) | refine ⟨_, c2, ?_⟩ | refine ⟨_, c3, ?_⟩ | refine ⟨_, c4, ?_⟩ | refine And.intro (And.intro True.intro (Nat.le_refl 4)) ?_ | refine And.intro (And.intro (rfl : (1 : Nat) = 1) (Nat.le_refl 4)) ?_ | refine And.intro True.intro ?_ | refine And.intro (rfl : true = true) ?_ | refine And.intro need ?_ | fail)
    all_goals first
     | contradiction
     | (refine ⟨z2t ?_, by trivial⟩; clear hgo need c1 c2 c3 c4; simp_all; done)
     | ((have e9 : ((n1 || n2) && !lg && (!d && ((k3 || k4 || k8) && V))) = V := by (clear hgo need c1 c2 c3 c4; simp_all)); rw [e9]; exact hgo)
 · have hl0 : c.ins.length = 0 := by omega
   have en : ((c.ins.length : Int) == 0) = true := by rw [beq_iff_eq]; omega
   have hla := last_nil hl0
   rw [en, hla, Bool.false_and, Bool.and_false, Bool.and_false]
   clear hlast
   repeat' (first | exact z01 rfl | refine z00 (fun _ => ?_) (fun _ => ?_) | refine ⟨_, c2, ?_⟩ | refine ⟨_, c3, ?_⟩ | refine ⟨_, c4, ?_⟩ | refine And.intro (And.intro True.intro (Nat.le_refl 4)) ?_ | refine And.intro (And.intro (rfl : (1 : Nat) = 1) (Nat.le_refl 4)) ?_ | refine And.intro True.intro ?_ | refine And.intro (rfl : true = true) ?_ | fail)
   all_goals contradiction
end Go.AM

set_option maxRecDepth 100000
open Go Go.Proofs
namespace Go.AM
theorem z59 : ∀ c : Cd, 0 ≤ nIns c ∧ nIns c ≤ c.sz := by
 refine Cd.ind fun c ih => ?_
 obtain ⟨nm, ar, fr, vs, sl, ins⟩ := c
 simp only [Cd.ins] at ih
 rw [nIns, Cd.sz]
 have kC : ∀ l : List Cd, (∀ d ∈ l, 0 ≤ nIns d ∧ nIns d ≤ d.sz) → 0 ≤ nCs l ∧ nCs l ≤ Cd.szs l := by
  intro l
  induction l with
  | nil => intro _; simp [nCs, Cd.szs]
  | cons d l ih2 =>
   intro h
   have h1 := h d List.mem_cons_self
   have h2 := ih2 fun u hu => h u (List.mem_cons_of_mem _ hu)
   rw [nCs, Cd.szs]; omega
 have kI : ∀ l : List In1, (∀ x ∈ l, ∀ d ∈ x.c, 0 ≤ nIns d ∧ nIns d ≤ d.sz) → 0 ≤ nIs l ∧ nIs l + l.length ≤ In1.szs l := by
  intro l
  induction l with
  | nil => intro _; simp [nIs, In1.szs]
  | cons x l ih2 =>
   intro h
   have h1 := kC x.c (h x List.mem_cons_self)
   have h2 := ih2 fun u hu => h u (List.mem_cons_of_mem _ hu)
   obtain ⟨k, a, t, q, c⟩ := x
   simp only [In1.c] at h1
   rw [nIs, In1.szs, In1.sz1, List.length_cons]; omega
 have := kI ins ih
 omega
theorem z45 : ∀ l : List Cd, 0 ≤ nCs l ∧ nCs l ≤ Cd.szs l
 | [] => by simp [nCs, Cd.szs]
 | d :: l => by have h1 := z59 d; have h2 := z45 l; rw [nCs, Cd.szs]; omega
theorem z5z : ∀ l : List In1, 0 ≤ nIs l ∧ nIs l + l.length ≤ In1.szs l
 | [] => by simp [nIs, In1.szs]
 | .mk k a t q c :: l => by have h1 := z45 c; have h2 := z5z l; rw [nIs, In1.szs, In1.sz1, List.length_cons]; omega
def szF (c : Cd) (n : Int) : Int := n + nIns c
def szI (l : List In1) (n : Int) : Int := n + nIs l
def szC (l : List Cd) (n : Int) : Int := n + nCs l
theorem szF_eq (c : Cd) (n : Int) : szF c n = szI c.ins (n + c.ins.length) := by cases c; simp only [szF, szI, nIns, Cd.ins]; omega
theorem zek (x : In1) (l : List In1) (n : Int) : szI (x :: l) n = szI l (szC x.c n) := by cases x; simp only [szC, szI, nIs, In1.c]; omega
theorem zj9 (n : Int) : szI [] n = n := by simp only [szI, nIs]; omega
theorem zfx (x : Cd) (l : List Cd) (n : Int) : szC (x :: l) n = szC l (szF x n) := by simp only [szC, szF, nCs]; omega
theorem zib (n : Int) : szC [] n = n := by simp only [szC, nCs]; omega
theorem mSl_eq (c : Cd) (n : Int) : mSl c n = mSlI c.ins (z0y [n, c.sl]) := by cases c; rw [mSl]; rfl
theorem zd (x : In1) (l : List In1) (n : Int) : mSlI (x :: l) n = mSlI l (mSlC x.c n) := by cases x; rw [mSlI]; rfl
theorem zef (n : Int) : mSlI [] n = n := by rw [mSlI]
theorem zke (x : Cd) (l : List Cd) (n : Int) : mSlC (x :: l) n = mSlC l (mSl x n) := by rw [mSlC]
theorem zes (n : Int) : mSlC [] n = n := by rw [mSlC]
abbrev z63 (f : Nat) : TV := .c (.fn (.func f) [] [(false, [.ep 0 1 0 0])])
theorem c_csize1 (c : Cd) (n : Int) (hz : c.sz ≤ B) (h : 0 ≤ n ∧ n ≤ M61) : AC Tryd.prog 24 [aC c, .c (.a (.ep 0 1 0 0))] [obN n] (.tup []) [obN (n + c.ins.length)] := by
 have z2 := In1.szs_length c.ins
 have z3 : In1.szs c.ins ≤ B := by cases c; simp only [Cd.sz, Cd.ins, B] at *; omega
 simp only [B, M61] at *
 refine AC.vc hP sh lv24 (Nat.le_refl _) (by simp [isLive]) (by simp) (Eq.mpr (v24 ..) ?_)
 rw [z02, w64 (by omega) (by omega)]
 exact ⟨rfl, .refl _, rfl⟩
theorem zhl (c : Cd) (n : Int) (hz : c.sz ≤ B) (h : True) : AC Tryd.prog 25 [aC c, .c (.a (.ep 0 1 0 0))] [obN n] (.tup []) [obN (z0y [n, c.sl])] := by
 refine AC.vc hP sh lv25 (Nat.le_refl _) (by simp [isLive]) (by simp) (Eq.mpr (v25 ..) ?_)
 exact ⟨.refl _, rfl⟩
theorem z51 (ins : List In1) (x : In1) (i : Int) (r : Int) (h0 : 0 ≤ i) (h1 : i ≤ B) : ∀ (b a : List Cd) (n : Int), x.c = a ++ b → x.c.length ≤ B → (∀ d ∈ b, ∀ n : Int, (0 ≤ n ∧ n + nIns d ≤ M61) → AC Tryd.prog 23 [aC d, z63 24] [obN n] (.tup []) [obN (szF d n)]) → (0 ≤ n ∧ n + nCs b ≤ M61) →
  RPt Tryd.prog 23 1 (.tup []) [obN r] 1 ⟨[(1, z63 24), (12, .c (.a (.fz (.sl false 8 (FIs ins))))), (13, ci ins.length), (14, ci (i + 1))], [(0, obN (szC b n))], 1⟩ →
  RPt Tryd.prog 23 1 (.tup []) [obN r] 5 ⟨[(1, z63 24), (12, .c (.a (.fz (.sl false 8 (FIs ins))))), (13, ci ins.length), (14, ci i), (19, aCs x.c), (20, ci x.c.length), (21, ci a.length)], [(0, obN n)], 1⟩
 | [], a, n, hx, hB, ih, hL, hk => by
  refine RPt.vc hP sh lv23 (Eq.mpr (z8s ..) ?_)
  simp only [B] at h1
  rw [zib] at hk
  rw [w64 (x := i + 1) (by omega) (by omega)]
  refine z00 (fun h => absurd (of_decide_eq_true h) ?_) (fun _ => hk)
  rw [hx]; simp
 | d :: b, a, n, hx, hB, ih, hL, hk => by
  simp only [B] at hB h1
  have hn := z59 d
  have hm := z45 b
  have hc := ih d List.mem_cons_self n (by first | trivial | (simp only [nCs] at hL; omega))
  rw [zfx] at hk
  have next := z51 ins x i r h0 (by simp only [B]; omega) b (a ++ [d]) (szF d n) (by rw [hx]; simp) (by simp only [B]; omega) (fun u hu => ih u (List.mem_cons_of_mem _ hu)) (by first | trivial | (simp only [nCs, szF] at *; omega)) hk
  rw [nx] at next
  have hla : a.length < x.c.length := by rw [hx]; simp
  refine RPt.vc hP sh lv23 (Eq.mpr (z8s ..) ?_)
  have e : List.getD (FV.ses (.sl false 6 (FCs x.c))) (Int.toNat (a.length : Int)) [] = FC d := by rw [hx]; exact z35 a d b
  rw [e, w64 (x := (a.length : Int) + 1) (by omega) (by omega)]
  refine z00 (fun _ => ⟨⟨rfl, by omega, by show (a.length : Int) < (((FCs x.c).length : Nat) : Int); rw [z03]; omega, z95 d⟩, _, by rw [show (TV.agg [.a (.fz (.str (FV.asS (List.getD (FC d) 0 FV.nils)))), .a (.fz (.int .i64 (FV.asI (List.getD (FC d) 1 FV.nils)))), .a (.fz (.int .i64 (FV.asI (List.getD (FC d) 2 FV.nils)))), .a (.fz (.int .i64 (FV.asI (List.getD (FC d) 3 FV.nils)))), .a (.fz (.int .i64 (FV.asI (List.getD (FC d) 4 FV.nils)))), .a (.fz (List.getD (FC d) 5 FV.nils))]) = aC d from z2j d]; exact hc, next⟩) (fun h => absurd (of_decide_eq_false h) (by omega))
theorem z4i (ins : List In1) (hB : In1.szs ins ≤ B) : ∀ (b a : List In1) (n : Int), ins = a ++ b → (∀ x ∈ b, ∀ d ∈ x.c, ∀ n : Int, (0 ≤ n ∧ n + nIns d ≤ M61) → AC Tryd.prog 23 [aC d, z63 24] [obN n] (.tup []) [obN (szF d n)]) → (0 ≤ n ∧ n + nIs b ≤ M61) →
  RPt Tryd.prog 23 1 (.tup []) [obN (szI b n)] 1 ⟨[(1, z63 24), (12, .c (.a (.fz (.sl false 8 (FIs ins))))), (13, ci ins.length), (14, ci a.length)], [(0, obN n)], 1⟩
 | [], a, n, hx, ih, hI => by
  refine RPt.vc hP sh lv23 (Eq.mpr (z93 ..) ?_)
  rw [zj9]
  refine z00 (fun h => absurd (of_decide_eq_true h) ?_) (fun _ => ⟨.refl _, rfl⟩)
  rw [hx]; simp
 | x :: b, a, n, hx, ih, hI => by
  have z1 : In1.sz1 x ≤ In1.szs ins := In1.szs_mem (by rw [hx]; simp)
  have z2 := In1.szs_length ins
  have z3 := Cd.szs_length x.c
  have z4 : Cd.szs x.c ≤ In1.sz1 x := by cases x; simp only [In1.c, In1.sz1]; omega
  simp only [B] at hB
  have hla : a.length < ins.length := by rw [hx]; simp
  have hn := z45 x.c
  have hm := z5z b
  have e0 : nIs (x :: b) = nCs x.c + nIs b := by cases x; rw [nIs]; rfl
  rw [zek]
  have next := z4i ins (by simp only [B]; omega) b (a ++ [x]) (szC x.c n) (by rw [hx]; simp) (fun y hy => ih y (List.mem_cons_of_mem _ hy)) (by first | trivial | (simp only [szC] at *; omega))
  rw [nx] at next
  have h5 := z51 ins x a.length (szI b (szC x.c n)) (by omega) (by simp only [B]; omega) x.c [] n (by simp) (by simp only [B]; omega) (ih x List.mem_cons_self) (by first | trivial | omega) next
  have e : List.getD (FIs ins) (Int.toNat (a.length : Int)) [] = FI x := by rw [hx]; exact z1d a x b
  refine RPt.vc hP sh lv23 (Eq.mpr (z93 ..) ?_)
  rw [e]
  simp only [FI0, FI1, FI2, FI3, FI4, FI5, FI6, FI7]
  refine z00 (fun _ => ⟨el8 ins a.length (by omega) (by omega) x, rfl, ?_⟩) (fun h => absurd (of_decide_eq_false h) (by omega))
  rw [show (((FV.ses (.sl false 6 (FCs x.c))).length : Nat) : Int) = (x.c.length : Int) by show (((FCs x.c).length : Nat) : Int) = _; rw [z03]]
  exact h5
theorem zav : ∀ c : Cd, c.sz ≤ B → ∀ n : Int, (0 ≤ n ∧ n + nIns c ≤ M61) → AC Tryd.prog 23 [aC c, z63 24] [obN n] (.tup []) [obN (szF c n)] := by
 refine Cd.ind fun c ih hz n hT => ?_
 have z2 := In1.szs_length c.ins
 have z3 : In1.szs c.ins ≤ B := by cases c; simp only [Cd.sz, Cd.ins, B] at *; omega
 have hn := z5z c.ins
 have e0 : nIns c = (c.ins.length : Int) + nIs c.ins := by cases c; rw [nIns]; rfl
 have h1 := c_csize1 c n hz (by first | trivial | omega)
 have h := z4i c.ins z3 c.ins [] (n + c.ins.length) rfl (fun x hx d hd n hn => ih x hx d hd (by
  have a1 := In1.szs_mem hx
  have a2 := Cd.szs_mem hd
  cases x
  simp only [In1.sz1, In1.c] at *
  omega) n hn) (by first | trivial | omega)
 rw [szF_eq]
 refine AC.vc hP sh lv23 (Nat.le_refl _) (by simp [isLive]) (by simp) (Eq.mpr (v23_F24 ..) ?_)
 rw [z02]
 exact ⟨_, h1, rfl, h⟩
theorem z44 (ins : List In1) (x : In1) (i : Int) (r : Int) (h0 : 0 ≤ i) (h1 : i ≤ B) : ∀ (b a : List Cd) (n : Int), x.c = a ++ b → x.c.length ≤ B → (∀ d ∈ b, ∀ n : Int, True → AC Tryd.prog 23 [aC d, z63 25] [obN n] (.tup []) [obN (mSl d n)]) → True →
  RPt Tryd.prog 23 1 (.tup []) [obN r] 1 ⟨[(1, z63 25), (12, .c (.a (.fz (.sl false 8 (FIs ins))))), (13, ci ins.length), (14, ci (i + 1))], [(0, obN (mSlC b n))], 1⟩ →
  RPt Tryd.prog 23 1 (.tup []) [obN r] 5 ⟨[(1, z63 25), (12, .c (.a (.fz (.sl false 8 (FIs ins))))), (13, ci ins.length), (14, ci i), (19, aCs x.c), (20, ci x.c.length), (21, ci a.length)], [(0, obN n)], 1⟩
 | [], a, n, hx, hB, ih, hL, hk => by
  refine RPt.vc hP sh lv23 (Eq.mpr (z94 ..) ?_)
  simp only [B] at h1
  rw [zes] at hk
  rw [w64 (x := i + 1) (by omega) (by omega)]
  refine z00 (fun h => absurd (of_decide_eq_true h) ?_) (fun _ => hk)
  rw [hx]; simp
 | d :: b, a, n, hx, hB, ih, hL, hk => by
  simp only [B] at hB h1
  have hn := z59 d
  have hm := z45 b
  have hc := ih d List.mem_cons_self n (by first | trivial | (simp only [nCs] at hL; omega))
  rw [zke] at hk
  have next := z44 ins x i r h0 (by simp only [B]; omega) b (a ++ [d]) (mSl d n) (by rw [hx]; simp) (by simp only [B]; omega) (fun u hu => ih u (List.mem_cons_of_mem _ hu)) (by first | trivial | (simp only [nCs, szF] at *; omega)) hk
  rw [nx] at next
  have hla : a.length < x.c.length := by rw [hx]; simp
  refine RPt.vc hP sh lv23 (Eq.mpr (z94 ..) ?_)
  have e : List.getD (FV.ses (.sl false 6 (FCs x.c))) (Int.toNat (a.length : Int)) [] = FC d := by rw [hx]; exact z35 a d b
  rw [e, w64 (x := (a.length : Int) + 1) (by omega) (by omega)]
  refine z00 (fun _ => ⟨⟨rfl, by omega, by show (a.length : Int) < (((FCs x.c).length : Nat) : Int); rw [z03]; omega, z95 d⟩, _, by rw [show (TV.agg [.a (.fz (.str (FV.asS (List.getD (FC d) 0 FV.nils)))), .a (.fz (.int .i64 (FV.asI (List.getD (FC d) 1 FV.nils)))), .a (.fz (.int .i64 (FV.asI (List.getD (FC d) 2 FV.nils)))), .a (.fz (.int .i64 (FV.asI (List.getD (FC d) 3 FV.nils)))), .a (.fz (.int .i64 (FV.asI (List.getD (FC d) 4 FV.nils)))), .a (.fz (List.getD (FC d) 5 FV.nils))]) = aC d from z2j d]; exact hc, next⟩) (fun h => absurd (of_decide_eq_false h) (by omega))
theorem z4a (ins : List In1) (hB : In1.szs ins ≤ B) : ∀ (b a : List In1) (n : Int), ins = a ++ b → (∀ x ∈ b, ∀ d ∈ x.c, ∀ n : Int, True → AC Tryd.prog 23 [aC d, z63 25] [obN n] (.tup []) [obN (mSl d n)]) → True →
  RPt Tryd.prog 23 1 (.tup []) [obN (mSlI b n)] 1 ⟨[(1, z63 25), (12, .c (.a (.fz (.sl false 8 (FIs ins))))), (13, ci ins.length), (14, ci a.length)], [(0, obN n)], 1⟩
 | [], a, n, hx, ih, hI => by
  refine RPt.vc hP sh lv23 (Eq.mpr (z9a ..) ?_)
  rw [zef]
  refine z00 (fun h => absurd (of_decide_eq_true h) ?_) (fun _ => ⟨.refl _, rfl⟩)
  rw [hx]; simp
 | x :: b, a, n, hx, ih, hI => by
  have z1 : In1.sz1 x ≤ In1.szs ins := In1.szs_mem (by rw [hx]; simp)
  have z2 := In1.szs_length ins
  have z3 := Cd.szs_length x.c
  have z4 : Cd.szs x.c ≤ In1.sz1 x := by cases x; simp only [In1.c, In1.sz1]; omega
  simp only [B] at hB
  have hla : a.length < ins.length := by rw [hx]; simp
  have hn := z45 x.c
  have hm := z5z b
  have e0 : nIs (x :: b) = nCs x.c + nIs b := by cases x; rw [nIs]; rfl
  rw [zd]
  have next := z4a ins (by simp only [B]; omega) b (a ++ [x]) (mSlC x.c n) (by rw [hx]; simp) (fun y hy => ih y (List.mem_cons_of_mem _ hy)) (by first | trivial | (simp only [szC] at *; omega))
  rw [nx] at next
  have h5 := z44 ins x a.length (mSlI b (mSlC x.c n)) (by omega) (by simp only [B]; omega) x.c [] n (by simp) (by simp only [B]; omega) (ih x List.mem_cons_self) (by first | trivial | omega) next
  have e : List.getD (FIs ins) (Int.toNat (a.length : Int)) [] = FI x := by rw [hx]; exact z1d a x b
  refine RPt.vc hP sh lv23 (Eq.mpr (z9a ..) ?_)
  rw [e]
  simp only [FI0, FI1, FI2, FI3, FI4, FI5, FI6, FI7]
  refine z00 (fun _ => ⟨el8 ins a.length (by omega) (by omega) x, rfl, ?_⟩) (fun h => absurd (of_decide_eq_false h) (by omega))
  rw [show (((FV.ses (.sl false 6 (FCs x.c))).length : Nat) : Int) = (x.c.length : Int) by show (((FCs x.c).length : Nat) : Int) = _; rw [z03]]
  exact h5
theorem z9q : ∀ c : Cd, c.sz ≤ B → ∀ n : Int, True → AC Tryd.prog 23 [aC c, z63 25] [obN n] (.tup []) [obN (mSl c n)] := by
 refine Cd.ind fun c ih hz n hT => ?_
 have z2 := In1.szs_length c.ins
 have z3 : In1.szs c.ins ≤ B := by cases c; simp only [Cd.sz, Cd.ins, B] at *; omega
 have hn := z5z c.ins
 have e0 : nIns c = (c.ins.length : Int) + nIs c.ins := by cases c; rw [nIns]; rfl
 have h1 := zhl c n hz (by first | trivial | omega)
 have h := z4a c.ins z3 c.ins [] (z0y [n, c.sl]) rfl (fun x hx d hd n hn => ih x hx d hd (by
  have a1 := In1.szs_mem hx
  have a2 := Cd.szs_mem hd
  cases x
  simp only [In1.sz1, In1.c] at *
  omega) n hn) (by first | trivial | omega)
 rw [mSl_eq]
 refine AC.vc hP sh lv23 (Nat.le_refl _) (by simp [isLive]) (by simp) (Eq.mpr (v23_F25 ..) ?_)
 rw [z02]
 exact ⟨_, h1, rfl, h⟩
theorem zik (c : Cd) (hz : c.sz ≤ B) : AC Tryd.prog 8 [aC c] [] (ci (nIns c)) [] := by
 have hn := z59 c
 have h := zav c hz 0 (by simp only [B, M61] at *; omega)
 refine AC.vc hP sh lv8 (Nat.le_refl _) (by simp) (by simp) (Eq.mpr (v8 ..) ?_)
 exact ⟨_, h, z2g (by rw [szF]; omega)⟩
theorem zf9 (c : Cd) (hz : c.sz ≤ B) : AC Tryd.prog 10 [aC c] [] (ci (mSl c c.sl)) [] := by
 have h := z9q c hz c.sl trivial
 refine AC.vc hP sh lv10 (Nat.le_refl _) (by simp) (by simp) (Eq.mpr (v10 ..) ?_)
 exact ⟨_, h, z2g rfl⟩
end Go.AM

set_option maxRecDepth 100000
open Go Go.Proofs
namespace Go.AM
open Go.RowKit Go.Lib in
set_option maxHeartbeats 1000000 in
theorem zdc (b : Nat) (w : World) (h0 : w.cell? ⟨b, 0, none⟩ = some (.pointer (some ⟨b, 0, none⟩))) :
  Calls Tryd.prog 54 #[.pointer (some ⟨b, 0, none⟩)] w fun e w' => e = .returned (.tuple #[]) ∧ w' = w := by
 obtain ⟨j, hj, _⟩ := Option.map_eq_some_iff.1 (show (Tryd.prog.info? 49).map (·.size) = some 2 by kernel_rfl)
 go_enter Tryd.func54, Tryd.ntmps54
 go_wp2
 rw [Lib.run_neq_ptr_same w _ (show Tryd.prog.underlying 46 = some (.pointer 49) by kernel_rfl) hj]
 go_wp2
 go_end0
 exact ⟨rfl, rfl⟩
open Go.RowKit Go.Lib in
set_option maxHeartbeats 1000000 in
theorem zbn (b : Nat) (w : World) (h0 : w.cell? ⟨b, 0, none⟩ = some (.pointer none)) (hsh : w.shape? b = some (49, 2)) (hfz : w.frozen? ⟨b, 0, none⟩ = false) :
  Calls Tryd.prog 54 #[.pointer (some ⟨b, 0, none⟩)] w fun e w' => e = .returned (.tuple #[]) ∧ w' = w.setCell ⟨b, 0, none⟩ (.pointer (some ⟨b, 0, none⟩)) := by
 obtain ⟨j, hj, hjs⟩ := Option.map_eq_some_iff.1 (show (Tryd.prog.info? 49).map (·.size) = some 2 by kernel_rfl)
 have tP : Tryd.prog.underlying 46 = some (.pointer 49) := by kernel_rfl
 have tU : Tryd.prog.underlying 95 = some .unsafePointer := by kernel_rfl
 go_enter Tryd.func54, Tryd.ntmps54
 go_wp2
 rw [Lib.run_to_unsafe w ⟨b, 0, none⟩ tP tU hj (by rw [hjs]; decide) hsh (Nat.zero_lt_succ 1)]
 simp only [Result.andThen]
 rw [Oper.upon_value]
 go_wp2
 rw [run_callFunc_extern Tryd.func77 (by kernel_rfl) (by kernel_rfl) (by kernel_rfl) (e := Extern.AbiNoEscape.same) (by kernel_rfl)]
 rw [Lib.run_noEscape]
 simp only [Result.andThen]
 rw [Oper.upon_value]
 go_wp2
 rw [Lib.run_from_unsafe w ⟨b, 0, none⟩ tU tP hj hsh (by kernel_rfl)]
 simp only [Result.andThen]
 rw [Oper.upon_value]
 go_wp2
 go_end0
 exact ⟨rfl, rfl⟩
open Go.RowKit Go.Lib in
set_option maxHeartbeats 1000000 in
theorem zcn : BW Tryd.prog 26 49 5 := by
 intro b p v bs s w hb hp hown hne hlen
 obtain ⟨i0, hi, hz0, hz1, hz2⟩ := info_parts (show (Tryd.prog.info? 5).map (fun i => (i.zero, i.size, i.bytes)) = some (some (.int .u8 0), 1, 1) by kernel_rfl)
 have tS : Tryd.prog.underlying 47 = some (.slice 5) := by kernel_rfl
 have tR : Tryd.prog.underlying 9 = some .string := by kernel_rfl
 have hba : BuilderAt 49 5 0 b p bs w := ⟨Nat.zero_le _, v, hb, hown, hne⟩
 have cC : Calls Tryd.prog 54 #[.pointer (some ⟨b, 0, none⟩)] w fun e w' => e = .returned (.tuple #[]) ∧ w' = w.setCell ⟨b, 0, none⟩ (.pointer (some ⟨b, 0, none⟩)) := by
  rcases hp with rfl | rfl
  · exact zbn b w hba.cell0 hba.shape hba.frozen0
  · refine (zdc b w hba.cell0).mono ?_
    rintro e w' ⟨rfl, hw⟩
    exact ⟨rfl, hw.trans (zcr hb rfl).symm⟩
 have hlt : b < w.heap.size := hba.lt
 have hb1 : (w.setCell ⟨b, 0, none⟩ (.pointer (some ⟨b, 0, none⟩))).heap[b]? = some (.cells #[.pointer (some ⟨b, 0, none⟩), v] 49 (0, 0)) := by
  simp [World.setCell, Array.getElem?_modify, hb]
 have hown1 : (w.setCell ⟨b, 0, none⟩ (.pointer (some ⟨b, 0, none⟩))).ownsRow 0 5 1 v bs.length bs := by
  obtain ⟨_, v1, q1, q2, _⟩ := hba.used (.pointer (some ⟨b, 0, none⟩))
  rw [hb1] at q1
  simp at q1
  rw [q1]; exact q2
 have hsz : (w.setCell ⟨b, 0, none⟩ (.pointer (some ⟨b, 0, none⟩))).heap.size = w.heap.size := by simp [World.setCell]
 have eC : ∀ args w, (callFunc 54 args).run Tryd.prog w = .ok (.enter 54 args) w := enters_of Tryd.func54 (by kernel_rfl) rfl
 go_enter Tryd.func26, Tryd.ntmps26
 go_wp2_with (go_at_fn 54; refine cC.mono ?_)
 rintro e w1 ⟨rfl, rfl⟩
 generalize hw1 : w.setCell ⟨b, 0, none⟩ (.pointer (some ⟨b, 0, none⟩)) = w1 at *
 have c0 : w1.cell? ⟨b, 0, none⟩ = some (.pointer (some ⟨b, 0, none⟩)) := by rw [Lib.cell_of_heap hb1]; rfl
 have c1 : w1.cell? ⟨b, 1, none⟩ = some v := by rw [Lib.cell_of_heap hb1]; rfl
 go_wp2_with (at_builtin; refine zgr rfl _ _ 47 9 rfl 5 i0 tS tR hi hz0 hz1 hz2 v bs.length bs rfl hown1 s rfl hlen ?_)
 intro v' w2 hk
 have hb2 : w2.heap[b]? = some (.cells #[.pointer (some ⟨b, 0, none⟩), v] 49 (0, 0)) := by
  rw [hk.blk b (by rw [hsz]; exact hlt) hne]; exact hb1
 have d0 : w2.cell? ⟨b, 0, none⟩ = some (.pointer (some ⟨b, 0, none⟩)) := by rw [Lib.cell_of_heap hb2]; rfl
 have d1 : w2.cell? ⟨b, 1, none⟩ = some v := by rw [Lib.cell_of_heap hb2]; rfl
 have f1 : w2.frozen? ⟨b, 1, none⟩ = false := Lib.frozen_of_heap hb2 1
 obtain ⟨ao, n', cap, rfl⟩ : ∃ ao n' cap, v' = .slice ao n' cap := by
  rcases hk.own.2 with ⟨hv, _⟩ | ⟨g, cap, cur, hv, _⟩
  · exact ⟨_, _, _, hv⟩
  · exact ⟨_, _, _, hv⟩
 go_wp2
 go_ret2
 exact ⟨rfl, w2, _, by rw [hw1]; exact hk, hb2, rfl⟩
open Go.RowKit Go.Lib in
set_option maxHeartbeats 1000000 in
theorem bstr_ok : BS Tryd.prog 29 49 5 := by
 intro b g cap p cur l w hbk hown hg hnc hcm hcs h0
 have hl0 : l.length ≠ 0 := by simpa using h0
 have c1 : w.drew.cell? ⟨b, 1, none⟩ = some (.slice (some ⟨g, 0, none⟩) l.length cap) := by
  have : w.drew.heap[b]? = some (.cells #[p, .slice (some ⟨g, 0, none⟩) l.length cap] 49 (0, 0)) := hbk
  rw [Lib.cell_of_heap this]; rfl
 have hSD : (Builtin.unsafeSliceData_ #[47] 83 #[.slice (some ⟨g, 0, none⟩) l.length cap]).run Tryd.prog w.drew = .ok (.pointer (some ⟨g, 0, none⟩)) w.drew :=
  Lib.run_unsafeSliceData_row _ _ _ _ _ _ (by omega)
 have hUS : (Builtin.unsafeString_ #[83, 3] 9 #[.pointer (some ⟨g, 0, none⟩), .int .i64 l.length]).run Tryd.prog w.drew = .ok (.string ⟨l.toArray⟩) (w.drew.freeze ⟨g, 0, none⟩ l.length) := by
  refine Lib.run_unsafeString_row w.drew 83 3 9 5 (by kernel_rfl) (by kernel_rfl) g cur.size (by have hg' : w.drew.heap[g]? = some (.cells cur 5 (0, 0)) := hg; simp [World.shape?, hg']) l h0 (by omega) (by unfold maxLen at hcm; omega) ?_
  intro j x hx
  exact hown.cells (g := g) rfl j (.int .u8 x.toNat) (by simp [Lib.byteCells, hx])
 go_enter Tryd.func29, Tryd.ntmps29
 go_wp2
 go_region
 all_goals (go_wp2; go_ret; exact ⟨rfl, rfl⟩)
abbrev bob (l : List UInt8) (n : Nat) : AObj := .arr 2 [[.a (.bld 49 0), .a (.osb n 5 l.length)]]
theorem c_bw0 (s : List UInt8) (hs : s ≠ []) (hlen : s.length ≤ 140737488355328) : AC Tryd.prog 26 [.c (.a (.ep 0 2 0 0)), cs s] [.arr 2 [[.a (.bld 49 0), .a (.fz .nils)]]] (zbi s.length) [bob s 1, .arz 1 (BR s)] := AM.c_bw0_ zcn (by kernel_rfl) s hs hlen
theorem c_bw1 (l s : List UInt8) (hs : s ≠ []) (hlen : l.length + s.length ≤ 140737488355328) : AC Tryd.prog 26 [.c (.a (.ep 0 2 0 0)), cs s] [bob l 1, .arz 1 (BR l)] (zbi s.length) [bob (l ++ s) 2, .gone, .arz 1 (BR (l ++ s))] := AM.c_bw1_ zcn (by kernel_rfl) l s hs hlen
theorem c_bstr (l : List UInt8) (hs : l ≠ []) : AC Tryd.prog 29 [.c (.a (.ep 0 2 0 0))] [bob l 1, .arz 1 (BR l)] (cs l) [.gone, .gone] := AM.c_bstr_ bstr_ok (by kernel_rfl) l hs
end Go.AM

set_option maxRecDepth 100000
open Go Go.Proofs
namespace Go.AM
theorem tab_now {w : World} {X : Nat → Prop} (h : Gl Tryd.prog w X) : Lib.TabIs Tryd.prog w "internal/strconv.uint64pow10" .u64 Lib.pow10Tab := by
 have : (Tryd.prog.globalNamed "internal/strconv.uint64pow10").isSome = true := by kernel_rfl
 obtain ⟨g, hg⟩ := Option.isSome_iff_exists.1 this
 exact (h g hg).1
theorem zi0 (w : World) (foot : Nat → Prop) (k : Nat) (os : Array Obj) : Good w foot (Go.Sort.grow (w.drewN k) os) := by
 have e : ∀ b, b < w.heap.size → (w.heap ++ os)[b]? = w.heap[b]? := fun b hb => by rw [Array.getElem?_append_left hb]
 refine ⟨by simp [Go.Sort.grow, World.drewN], fun b hb _ => e b hb, fun b hb => ?_, rfl, rfl, rfl⟩
 show World.shape? { w with heap := w.heap ++ os, drawn := w.drawn + k } b = _
 simp only [World.shape?, e b hb]
theorem c_itoa (n : Int) (h0 : 0 ≤ n) (h1 : n ≤ 9223372036854775807) : AC Tryd.prog 55 [ci n] [] (cs (Lib.decDigits n.toNat)) [] := by
 refine ⟨by kernel_rfl, Nat.le_refl _, fun w us β Y g1 g2 gl g3 g4 => ?_⟩
 obtain ⟨u, us', rfl, k1, k2⟩ := g4.cons_inv
 rw [TRep.int_inv k1, k2.nil_inv]
 refine (Tryd.strconv_Itoa n (by omega) h1 w (tab_now gl)).mono fun e w' ⟨he, k, os, hw⟩ => ?_
 subst hw
 have hgood := zi0 w (Own (fun o => ([] : List AObj).getD o .gone) β) k os
 refine ⟨_, β, he, hgood, ⟨fun o b h => by simp [isLive] at h, fun o h => by simp [isLive] at h, fun o o' b h => by simp [isLive] at h, fun o b h => absurd (g1 o b h) (Nat.not_lt_zero _)⟩, ?_, g1, fun o ho => absurd ho (Nat.not_lt_zero _), fun o b _ hb => absurd (g1 o b hb) (Nat.not_lt_zero _)⟩
 rw [show Lib.itoa n = Lib.decDigits n.toNat from if_neg (by omega)]
 exact .a _ _ (.fz _ _ (.str _))
def digF (n : Nat) (s : List UInt8) : List UInt8 := if n = 0 then (if s = [] then [48] else s) else Lib.decDigits n ++ s
theorem w8 {x : Int} (h0 : 0 ≤ x) (h1 : x ≤ 255) : IntKind.wrap .u8 x = x := by
 simp only [IntKind.wrap, IntKind.signed, IntKind.bits]
 simp; omega
theorem dig_e (n : Nat) : UInt8.ofNat (Int.toNat (IntKind.wrap .u8 (IntKind.wrap .i64 (48 + Int.tmod (n : Int) 10)))) = UInt8.ofNat (48 + n % 10) := by
 have : Int.tmod (n : Int) 10 = ((n % 10 : Nat) : Int) := by rw [Int.tmod_eq_emod_of_nonneg (by omega)]; omega
 rw [this, w64 (by omega) (by omega), w8 (by omega) (by omega)]
 congr 1
theorem div_e (n : Nat) (h : n ≤ 9223372036854775807) : IntKind.wrap .i64 (Int.tdiv (n : Int) 10) = ((n / 10 : Nat) : Int) := by
 have : Int.tdiv (n : Int) 10 = ((n / 10 : Nat) : Int) := by rw [Int.tdiv_eq_ediv_of_nonneg (by omega)]; omega
 rw [this, w64 (by omega) (by omega)]
theorem zh9 (n : Nat) (h : 0 < n) (s : List UInt8) : digF (n / 10) (UInt8.ofNat (48 + n % 10) :: s) = digF n s := by
 unfold digF
 rw [if_neg (show ¬ n = 0 by omega)]
 by_cases h1 : n < 10
 · rw [if_pos (show n / 10 = 0 by omega), if_neg (by simp), Lib.decDigits, dif_pos h1, show n % 10 = n by omega]; rfl
 · rw [if_neg (show ¬ n / 10 = 0 by omega)]
   conv => rhs; rw [Lib.decDigits, dif_neg h1]
   simp
theorem z9j : ∀ (k n : Nat) (s : List UInt8), n < 10 ^ k → n ≤ 9223372036854775807 → s.length + k ≤ 100 → (n = 0 → s ≠ []) → RPt Tryd.prog 56 0 (cs (digF n s)) [] 1 ⟨[(0, ci n), (3, cs s)], [], 0⟩
 | 0, n, s, h0, _, _, hs => by
  have h0 : n = 0 := by simpa using h0
  subst h0
  refine RPt.vc hP sh lv56 (Eq.mpr (zjl ..) ?_)
  have hs := hs rfl
  exact z00 (fun h => absurd (of_decide_eq_true h) (by omega)) (fun _ => z00 (fun h => absurd (by simpa using h) hs) (fun _ => zgm (by rw [digF, if_pos rfl, if_neg hs])))
 | k + 1, n, s, h0, hb, hl, hs => by
  have h2 := z9j k (n / 10) (UInt8.ofNat (48 + n % 10) :: s) (by rw [Nat.pow_succ] at h0; omega) (by omega) (by simp; omega) (fun _ => by simp)
  refine RPt.vc hP sh lv56 (Eq.mpr (zjl ..) ?_)
  rw [dig_e, div_e n hb]
  refine z00 (fun h => ⟨⟨rfl, by omega⟩, by simp; omega, ⟨rfl, by omega⟩, ?_⟩) (fun h => z00 (fun h1 => ?_) (fun _ => zgm ?_))
  · have h := of_decide_eq_true h
    rw [← zh9 n (by omega)]; exact h2
  · have h := of_decide_eq_false h
    exact absurd (by simpa using h1) (hs (by omega))
  · have h := of_decide_eq_false h
    rw [digF, if_pos (by omega), if_neg (hs (by omega))]
theorem c_digits (n : Int) (h0 : 0 ≤ n) (h1 : n ≤ 9223372036854775807) : AC Tryd.prog 56 [ci n] [] (cs (Lib.decDigits n.toNat)) [] := by
 obtain ⟨m, rfl⟩ : ∃ m : Nat, n = m := ⟨n.toNat, by omega⟩
 refine AC.vc hP sh lv56 (Nat.le_refl _) (by simp) (by simp) (Eq.mpr (v56 ..) ?_)
 rw [Int.toNat_natCast]
 by_cases hm : m = 0
 · subst hm
   refine RPt.vc hP sh lv56 (Eq.mpr (zjl ..) ?_)
   rw [show ((0 : Nat) : Int) = ((0 : Nat) : Int) from rfl, dig_e, div_e 0 (by omega)]
   have h2 := z9j 0 0 [48] (by simp) (by omega) (by simp) (fun _ => by simp)
   rw [digF, if_pos rfl, if_neg (by simp)] at h2
   rw [show Lib.decDigits 0 = [48] by rw [Lib.decDigits, dif_pos (by omega)]; rfl]
   exact z00 (fun h => absurd (of_decide_eq_true h) (by omega)) (fun _ => z00 (fun _ => ⟨⟨rfl, by omega⟩, by simp, ⟨rfl, by omega⟩, h2⟩) (fun h => absurd h (by simp)))
 · have h2 := z9j 20 m [] (by omega) (by omega) (by simp) (fun h => absurd h hm)
   rw [digF, if_neg hm, List.append_nil] at h2
   exact h2
end Go.AM

set_option maxRecDepth 100000
open Go Go.Proofs
namespace Go.AM
theorem z2n (n : Int) (h : n ≤ 9223372036854775807) : AC Tryd.prog 27 [ci n] [] (cs (dgF n)) [] := by
 have h1 := c_itoa (max n 0) (by omega) (by omega)
 refine AC.vc hP sh lv27 (Nat.le_refl _) (by simp) (by simp) (Eq.mpr (v27 ..) ?_)
 exact ⟨_, h1, zi (.refl _)⟩
theorem c_cword (k : Int) : AC Tryd.prog 28 [ci k] [] (.tup [(false, [.a (.fz (.str (z19 k)))]), (false, [.a (.fz (.bool (useA k)))])]) [] := by
 refine AC.vc hP sh lv28 (Nat.le_refl _) (by simp) (by simp) (Eq.mpr (v28 ..) ?_)
 repeat' (refine z00 (fun _ => ?_) (fun _ => ?_))
 all_goals first
  | (refine zi (z2t ?_); simp_all [z19, useA, wordL]; done)
  | (simp only [beq_eq_false_iff_ne] at *; rw [show z19 k = [63] from by (unfold z19; rw [if_neg (by omega)])]; refine ⟨z2t ?_, by trivial⟩; simp_all [useA]; done)
theorem zhm (l s : List UInt8) (hs : s ≠ []) (hlen : l.length + s.length ≤ 1000000000000) : AC Tryd.prog 26 [.c (.a (.ep 0 2 0 0)), cs s] [bob l 1, .arz 1 (BR l)] (.tup [(false, [.a (.fz (.int .i64 (((s.length : Nat) : Int), l ++ s).1))]), (false, [.a (.fz (.cst .nilIface))])])
      [bob (((s.length : Nat) : Int), l ++ s).2 2, .gone, .arz 1 (BR (((s.length : Nat) : Int), l ++ s).2)] := c_bw1 l s hs (by omega)
abbrev txE (ins : List In1) (i : Int) : Env := [(3, .c (.a (.ep 0 2 0 0))), (35, .c (.a (.fz (.sl false 8 (FIs ins))))), (36, ci ins.length), (37, ci i)]
theorem zfe (ins : List In1) (x : In1) (i : Int) (r : List UInt8) (h0 : 0 ≤ i) (h1 : i ≤ B) : ∀ (b a : List Cd) (l : List UInt8), x.c = a ++ b → x.c.length ≤ B → l ≠ [] → (∀ d ∈ b, AC Tryd.prog 12 [aC d] [] (cs (txF d)) []) → (l ++ txCs b).length ≤ 999999999999 →
  RPt Tryd.prog 12 0 (cs r) [] 1 ⟨txE ins (i + 1), [(0, bob (l ++ txCs b) 1), (1, .arz 1 (BR (l ++ txCs b)))], 2⟩ →
  RPt Tryd.prog 12 0 (cs r) [] 5 ⟨[(3, .c (.a (.ep 0 2 0 0))), (35, .c (.a (.fz (.sl false 8 (FIs ins))))), (36, ci ins.length), (37, ci i), (66, aCs x.c), (67, ci x.c.length), (68, ci a.length)], [(0, bob l 1), (1, .arz 1 (BR l))], 2⟩
 | [], a, l, hx, hB, hne, ih, hL, hk => by
  rw [txCs, List.append_nil] at hk
  simp only [B] at h1
  refine RPt.vc hP sh lv12 (Eq.mpr (v12_5a ..) ?_)
  rw [w64 (x := i + 1) (by omega) (by omega)]
  refine z00 (fun h => absurd (of_decide_eq_true h) ?_) (fun _ => hk)
  rw [hx]; simp
 | d :: b, a, l, hx, hB, hne, ih, hL, hk => by
  simp only [B] at hB h1
  have hla : a.length < x.c.length := by rw [hx]; simp
  rw [txCs, ← List.append_assoc] at hk hL
  have hc := ih d List.mem_cons_self
  have hd : txF d ≠ [] := by cases d; rw [txF]; simp
  have hL2 := hL
  simp only [List.length_append] at hL2
  have hw := zhm l (txF d) hd (by omega)
  have next := zfe ins x i r h0 (by simp only [B]; omega) b (a ++ [d]) (l ++ txF d) (by rw [hx]; simp) (by simp only [B]; omega) (by simp [hne]) (fun u hu => ih u (List.mem_cons_of_mem _ hu)) hL hk
  rw [nx] at next
  have e : List.getD (FV.ses (.sl false 6 (FCs x.c))) (Int.toNat (a.length : Int)) [] = FC d := by rw [hx]; exact z35 a d b
  refine RPt.vc hP sh lv12 (Eq.mpr (v12_5a ..) ?_)
  rw [e, w64 (x := (a.length : Int) + 1) (by omega) (by omega)]
  refine z00 (fun _ => ⟨⟨rfl, by omega, by show (a.length : Int) < (((FCs x.c).length : Nat) : Int); rw [z03]; omega, z95 d⟩, _, by rw [show (TV.agg [.a (.fz (.str (FV.asS (List.getD (FC d) 0 FV.nils)))), .a (.fz (.int .i64 (FV.asI (List.getD (FC d) 1 FV.nils)))), .a (.fz (.int .i64 (FV.asI (List.getD (FC d) 2 FV.nils)))), .a (.fz (.int .i64 (FV.asI (List.getD (FC d) 3 FV.nils)))), .a (.fz (.int .i64 (FV.asI (List.getD (FC d) 4 FV.nils)))), .a (.fz (List.getD (FC d) 5 FV.nils))]) = aC d from z2j d]; exact hc, (_, _), hw, next⟩) (fun h => absurd (of_decide_eq_false h) (by omega))
theorem zab (ins : List In1) (hB : In1.szs ins ≤ B) (ho : z4q ins) : ∀ (b a : List In1) (l : List UInt8), ins = a ++ b → l ≠ [] → (∀ x ∈ b, x.k = 14 → ∀ d ∈ x.c, (txF d).length ≤ 999999999999 → AC Tryd.prog 12 [aC d] [] (cs (txF d)) []) → (l ++ txIs a.length b).length ≤ 999999999999 →
  RPt Tryd.prog 12 0 (cs (l ++ txIs a.length b)) [] 1 ⟨txE ins a.length, [(0, bob l 1), (1, .arz 1 (BR l))], 2⟩
 | [], a, l, hx, hne, ih, hL => by
  rw [txIs, List.append_nil]
  have h1 := c_bstr l hne
  refine RPt.vc hP sh lv12 (Eq.mpr (v12_1a ..) ?_)
  refine z00 (fun h => absurd (of_decide_eq_true h) ?_) (fun _ => ⟨_, h1, zi (.refl _)⟩)
  rw [hx]; simp
 | x :: b, a, l, hx, hne, ih, hL => by
  have hxm : x ∈ ins := by rw [hx]; simp
  have z1 := In1.szs_mem hxm
  have z2 := In1.szs_length ins
  have z3 := Cd.szs_length x.c
  have z4 : Cd.szs x.c ≤ In1.sz1 x := by cases x; simp only [In1.c, In1.sz1]; omega
  have ox : (-9223372036854775808 ≤ x.a ∧ x.a ≤ 9223372036854775807) := by have := z3i ho hxm; cases x; rw [okIn] at this; exact this.2.1
  simp only [B] at hB
  have hla : a.length < ins.length := by rw [hx]; simp
  have e : List.getD (FIs ins) (Int.toNat (a.length : Int)) [] = FI x := by rw [hx]; exact z1d a x b
  have eT : txIs a.length (x :: b) = ([32] ++ dgF a.length ++ [32] ++ z19 x.k ++ (if useA x.k = true then [32] ++ dgF x.a else []) ++ [10]) ++ ((if x.k = 14 then txCs x.c else []) ++ txIs ((a.length : Int) + 1) b) := by cases x; rw [txIs]; rfl
  have c1 := c_cword x.k
  have c2 := z2n (a.length : Int) (by omega)
  have c3 := z2n x.a ox.2
  have d1 := z1a (n := (a.length : Int)) (by omega)
  have d2 := z1a ox.2
  have d3 := z9r x.k
  rw [eT] at hL ⊢
  have hL2 := hL
  simp only [List.length_append, List.length_singleton] at hL2
  have w1 := zhm l (([32] ++ dgF a.length) ++ [32] ++ z19 x.k) (by simp) (by simp only [List.length_append, List.length_singleton]; omega)
  have next : ∀ q : List UInt8, q = l ++ ([32] ++ dgF a.length ++ [32] ++ z19 x.k ++ (if useA x.k = true then [32] ++ dgF x.a else []) ++ [10]) →
    br (x.k != 14) (RPt Tryd.prog 12 0 (cs (l ++ (([32] ++ dgF a.length ++ [32] ++ z19 x.k ++ (if useA x.k = true then [32] ++ dgF x.a else []) ++ [10]) ++ ((if x.k = 14 then txCs x.c else []) ++ txIs ((a.length : Int) + 1) b)))) [] 1 ⟨txE ins ((a.length : Int) + 1), [(0, bob q 1), (1, .arz 1 (BR q))], 2⟩)
     (FV.isSl 6 (.sl false 6 (FCs x.c)) = true ∧ RPt Tryd.prog 12 0 (cs (l ++ (([32] ++ dgF a.length ++ [32] ++ z19 x.k ++ (if useA x.k = true then [32] ++ dgF x.a else []) ++ [10]) ++ ((if x.k = 14 then txCs x.c else []) ++ txIs ((a.length : Int) + 1) b)))) [] 5 ⟨[(3, .c (.a (.ep 0 2 0 0))), (35, .c (.a (.fz (.sl false 8 (FIs ins))))), (36, ci ins.length), (37, ci a.length), (66, aCs x.c), (67, ci (((FV.ses (.sl false 6 (FCs x.c))).length : Nat) : Int)), (68, ci 0)], [(0, bob q 1), (1, .arz 1 (BR q))], 2⟩) := fun q hq => by
   rw [← List.append_assoc] at hL ⊢
   rw [← hq] at hL ⊢
   have hqne : q ≠ [] := by rw [hq]; simp
   refine z00 (fun h => ?_) (fun h => ?_)
   · have h : ¬ x.k = 14 := by simpa using h
     rw [if_neg h, List.nil_append] at hL ⊢
     have := zab ins (by simp only [B]; omega) ho b (a ++ [x]) q (by rw [hx]; simp) hqne (fun y hy => ih y (List.mem_cons_of_mem _ hy)) (by rw [nx]; exact hL)
     rw [nx] at this
     exact this
   · have h : x.k = 14 := by simpa using h
     rw [if_pos h] at hL ⊢
     rw [← List.append_assoc] at hL ⊢
     have hL3 := hL
     simp only [List.length_append] at hL3
     refine ⟨rfl, ?_⟩
     have := zfe ins x a.length ((q ++ txCs x.c) ++ txIs ((a.length : Int) + 1) b) (by omega) (by simp only [B]; omega) x.c [] q (by simp) (by simp only [B]; omega) hqne (fun d hd => ih x List.mem_cons_self h d hd (by
      have : ∀ (m : List Cd), d ∈ m → (txF d).length ≤ (txCs m).length := by
       intro m
       induction m with
       | nil => intro h; cases h
       | cons e m ihm =>
        intro h
        rw [txCs, List.length_append]
        rcases List.mem_cons.1 h with rfl | h
        · omega
        · have := ihm h; omega
      have := this x.c hd
      omega)) (by simp only [List.length_append]; omega) (by
      have := zab ins (by simp only [B]; omega) ho b (a ++ [x]) (q ++ txCs x.c) (by rw [hx]; simp) (by simp [hqne]) (fun y hy => ih y (List.mem_cons_of_mem _ hy)) (by rw [nx]; exact hL)
      rw [nx] at this
      exact this)
     rw [show (((FV.ses (.sl false 6 (FCs x.c))).length : Nat) : Int) = (x.c.length : Int) by show (((FCs x.c).length : Nat) : Int) = _; rw [z03]]
     exact this
  refine RPt.vc hP sh lv12 (Eq.mpr (v12_1a ..) ?_)
  rw [e]
  simp only [FI0, FI1, FI2, FI3, FI4, FI5, FI6, FI7]
  rw [w64 (x := (a.length : Int) + 1) (by omega) (by omega)]
  have need := el8 ins a.length (by omega) (by omega) x
  refine z00 (fun _ => ⟨need, _, _, c1, _, c2, by omega, by simp only [List.length_append, List.length_singleton]; omega, by simp only [List.length_append, List.length_singleton]; omega, (_, _), w1, z00 (fun h => ?_) (fun h => ?_)⟩) (fun h => absurd (of_decide_eq_false h) (by omega))
  · have hu : (if useA x.k = true then [32] ++ dgF x.a else []).length = (dgF x.a).length + 1 := by rw [if_pos h]; simp
    have w2 := zhm (l ++ (([32] ++ dgF a.length) ++ [32] ++ z19 x.k)) ([32] ++ dgF x.a) (by simp) (by simp only [List.length_append, List.length_singleton]; omega)
    have w3 := zhm ((l ++ (([32] ++ dgF a.length) ++ [32] ++ z19 x.k)) ++ ([32] ++ dgF x.a)) [10] (by simp) (by simp only [List.length_append, List.length_singleton]; omega)
    refine ⟨_, c3, by omega, (_, _), w2, (_, _), w3, next _ ?_⟩
    rw [if_pos h]; simp
  · have w3 := zhm (l ++ (([32] ++ dgF a.length) ++ [32] ++ z19 x.k)) [10] (by simp) (by simp only [List.length_append, List.length_singleton]; omega)
    refine ⟨(_, _), w3, next _ ?_⟩
    rw [if_neg (by rw [h]; simp)]; simp
theorem zk7 : ∀ c : Cd, c.sz ≤ B → okCd c → (txF c).length ≤ 999999999999 → AC Tryd.prog 12 [aC c] [] (cs (txF c)) [] := by
 refine Cd.ind fun c ih hz ho hL => ?_
 have z3 : In1.szs c.ins ≤ B ∧ c.nm.length ≤ B := by cases c; simp only [Cd.sz, Cd.ins, Cd.nm, B] at *; omega
 have oc : c.ar ≤ 9223372036854775807 ∧ c.fr ≤ 9223372036854775807 ∧ c.vs ≤ 9223372036854775807 ∧ c.sl ≤ 9223372036854775807 ∧ z4q c.ins := by cases c; rw [okCd] at ho; exact ⟨ho.1.2, ho.2.1.2, ho.2.2.1.2, ho.2.2.2.1.2, ho.2.2.2.2⟩
 have eT : txF c = (c.nm ++ [47] ++ dgF c.ar ++ [32] ++ dgF c.fr ++ [32] ++ dgF c.vs ++ [32] ++ dgF c.sl ++ [10]) ++ txIs 0 c.ins := by cases c; rw [txF]; rfl
 rw [eT] at hL ⊢
 have hL2 := hL
 simp only [List.length_append, List.length_singleton] at hL2
 have d1 := z1a oc.1
 have d2 := z1a oc.2.1
 have d3 := z1a oc.2.2.1
 have d4 := z1a oc.2.2.2.1
 have w0 := c_bw0 (c.nm ++ [47] ++ dgF c.ar ++ [32] ++ dgF c.fr ++ [32] ++ dgF c.vs ++ [32] ++ dgF c.sl ++ [10]) (by simp) (by simp only [List.length_append, List.length_singleton]; omega)
 have h := zab c.ins z3.1 oc.2.2.2.2 c.ins [] (c.nm ++ [47] ++ dgF c.ar ++ [32] ++ dgF c.fr ++ [32] ++ dgF c.vs ++ [32] ++ dgF c.sl ++ [10]) rfl (by simp) (fun x hx hk d hd hl => by
  have a1 := In1.szs_mem hx
  have a2 := Cd.szs_mem hd
  have o1 := z3i oc.2.2.2.2 hx
  refine ih x hx d hd ?_ ?_ hl
  · cases x
    simp only [In1.sz1, In1.c] at *
    omega
  · cases x
    rw [okIn] at o1
    exact z7k o1.2.2.2.2 hd) hL
 simp only [B] at z3
 refine AC.vc hP sh lv12 (Nat.le_refl _) (by simp) (by simp) (Eq.mpr (v12 ..) ?_)
 refine ⟨by omega, _, z2n _ oc.1, ?_, ?_, _, z2n _ oc.2.1, ?_, ?_, _, z2n _ oc.2.2.1, ?_, ?_, _, z2n _ oc.2.2.2.1, ?_, ?_, (_, _), w0, rfl, ?_⟩
 all_goals try (simp only [List.length_append, List.length_singleton]; omega)
 rw [z02]
 exact h
end Go.AM

set_option maxRecDepth 100000
open Go Go.Proofs
namespace Go.AM
theorem fle_rows {b : Bool} {n : Nat} {es es' : List (List FV)} (h : All2 (All2 FV.Le) es es') : FV.Le (.sl b n es) (.sl b n es') := by
 have h1 := z2s h
 refine .rows b n es es' h1.1 (fun i e e' he he' => (z2s (h1.2 i e e' he he')).1) fun i j e e' f f' he he' hf hf' => (z2s (h1.2 i e e' he he')).2 j f f' hf hf'
theorem le_ag2 {xs ys : List WV} (h : All2 WV.Le xs ys) : TV.Le (.agg xs) (.agg ys) := by
 have h1 := z2s h
 exact .agg _ _ h1.1 h1.2
theorem w_fz {x y : FV} (h : FV.Le x y) : WV.Le (.a (.fz x)) (.a (.fz y)) := .a _ _ (.fz _ _ h)
abbrev rowI (k : Int) : List FV := [.int .i64 k, .int .i64 0, .int .i64 0, .str [], .int .i64 0, .nils, .nils, .nils]
theorem le_rowI (k : Int) : All2 FV.Le (rowI k) (FI (.mk k 0 (.mk 0 [] 0 []) [] [])) := by
 rw [FI]
 exact ⟨.refl _, .refl _, .refl _, .refl _, .refl _, .nils 4, .nils 4, .nils 6, trivial⟩
abbrev exCd : Cd := .mk [112] 1 0 0 0 [.mk 4 0 (.mk 0 [] 0 []) [] []]
abbrev exCe : Cd := .mk [112] 1 0 0 0 []
abbrev agX (f : FV) : TV := .agg [.a (.fz (.str [112])), .a (.fz (.int .i64 1)), .a (.fz (.int .i64 0)), .a (.fz (.int .i64 0)), .a (.fz (.int .i64 0)), .a (.fz f)]
theorem zao : TV.Le (.agg [.a (.fz (.str [112])), .a (.fz (.int .i64 1)), .a (.fz (.int .i64 0)), .a (.fz (.int .i64 0)), .a (.fz (.int .i64 0)), .a (.fz (.sl false 8 [rowI 4]))]) (aC exCd) :=
 le_ag2 ⟨.refl _, .refl _, .refl _, .refl _, .refl _, w_fz (by show FV.Le _ (.sl false 8 (FIs [_])); rw [FIs, FIs]; exact fle_rows ⟨le_rowI 4, trivial⟩), trivial⟩
theorem le_exCe : TV.Le (.agg [.a (.fz (.str [112])), .a (.fz (.int .i64 1)), .a (.fz (.int .i64 0)), .a (.fz (.int .i64 0)), .a (.fz (.int .i64 0)), .a (.fz .nils)]) (aC exCe) :=
 le_ag2 ⟨.refl _, .refl _, .refl _, .refl _, .refl _, w_fz (by show FV.Le _ (.sl false 8 (FIs [])); rw [FIs]; exact .nils 8), trivial⟩
theorem nb_no (k : Int) (c : List Cd) (h : nbCs c) : bd 2305843009213693952 (.mk 0 [] 0 []) ∧ (∀ u ∈ ([] : List Tm), bd 2305843009213693952 u) ∧ nbCs c := ⟨⟨(fun e => by cases e), trivial⟩, (fun u hu => by cases hu), h⟩
theorem c_cworks : AC Tryd.prog 5 [] [] (cb true) [] := by
 have hC : exCd.sz ≤ B := by simp [exCd, Cd.sz, In1.szs, In1.sz1, Tm.bk, Tm.bks, Cd.szs, B]
 have hD : exCe.sz ≤ B := by simp [exCe, Cd.sz, In1.szs, B]
 have n1 : nbC exCd := ⟨nb_no 4 [] trivial, trivial⟩
 have n2 : nbC exCe := trivial
 have k1 := (zen exCd hC n1).args (args := [agX (.sl false 8 [rowI 4])]) ⟨zao, trivial⟩
 have k2 := (zen exCe hD n2).args (args := [agX .nils]) ⟨le_exCe, trivial⟩
 have k3 := (zik exCd hC).args (args := [agX (.sl false 8 [rowI 4])]) ⟨zao, trivial⟩
 have k4 := (zf9 exCd hC).args (args := [agX (.sl false 8 [rowI 4])]) ⟨zao, trivial⟩
 have e0 : ∀ k : Nat, k < 10 → dgF k = [UInt8.ofNat (48 + k)] := by
  intro k hk
  unfold dgF
  rw [show (max (k : Int) 0).toNat = k by omega, Lib.decDigits, dif_pos hk]
 have d0 : dgF 0 = [48] := e0 0 (by omega)
 have d1 : dgF 1 = [49] := e0 1 (by omega)
 have eT : txF exCd = [112, 47, 49, 32, 48, 32, 48, 32, 48, 10, 32, 48, 32, 112, 114, 111, 99, 101, 101, 100, 10] := by
  rw [txF, txIs, txIs, d0, d1]; rfl
 have o1 : okCd exCd := by simp [okCd, z4q, okIn, okIs, okI, z7y]
 have k5 := (zk7 exCd hC o1 (by rw [eT]; simp)).args (args := [agX (.sl false 8 [rowI 4])]) ⟨zao, trivial⟩
 rw [eT] at k5
 have q1 : vC exCd = true := by decide
 have q2 : vC exCe = false := by decide
 have q3 : nIns exCd = 1 := by decide
 have q4 : mSl exCd exCd.sl = 0 := by decide
 rw [q1] at k1
 rw [q2] at k2
 rw [q3] at k3
 rw [q4] at k4
 refine AC.vc hP sh lv5 (Nat.le_refl _) (by simp) (by simp) (Eq.mpr (v5 ..) ?_)
 refine ⟨⟨rfl, Nat.le_refl _⟩, true, k1, false, k2, z00 (fun _ => z00 (fun _ => ⟨_, k3, z00 (fun _ => ⟨_, k4, z00 (fun _ => ⟨_, k5, z01 rfl⟩) (fun q => by cases q)⟩) (fun q => by cases q)⟩) (fun q => by cases q)) (fun q => by cases q)⟩
def ziw (c : Cd) : Bool := decide (((c.nm.length : Nat) : Int) > 60) || zk5 c 60
theorem zhj (c : Cd) (hz : c.sz ≤ B) : AC Tryd.prog 6 [aC c] [] (cb (ziw c)) [] := by
 have h := c_clarge c hz 60 (by omega) (by omega)
 refine AC.vc hP sh lv6 (Nat.le_refl _) (by simp) (by simp) (Eq.mpr (v6 ..) ?_)
 exact z00 (fun q => z01 (by rw [ziw, q]; rfl)) (fun q => ⟨_, h, z01 (by rw [ziw, q]; rfl)⟩)
theorem bad_near {t : Tm} {l : List Tm} (h : z7n t l = false) : bd 2305843009213693952 t ∧ ∀ u ∈ l, bd 2305843009213693952 u := by
 unfold z7n at h
 simp only [Bool.or_eq_false_iff, Bool.not_eq_false'] at h
 refine ⟨bd_le (by omega) _ (zdo t h.2.1), fun u hu => ?_⟩
 have h2 := h.2.2.2.2
 unfold badL at h2
 rw [List.any_eq_false] at h2
 have := h2 u hu
 simp only [Bool.or_eq_true, Bool.not_eq_true', not_or, Bool.not_eq_false] at this
 exact bd_le (by omega) _ (zdo u this.2)
mutual
theorem zj2 : ∀ (c : Cd) (m : Int), 0 ≤ m → 0 ≤ z26 c m → nbC c
 | .mk nm ar fr vs sl ins, m, h0, h => by
  rw [z26] at h
  rw [nbC]
  exact zff ins (m - 1) (by omega) h
theorem zff : ∀ (l : List In1) (n : Int), 0 - 1 ≤ n → 0 ≤ z0s l n → nbIs l
 | [], _, _, _ => by rw [nbIs]; trivial
 | .mk k a t q c :: r, n, hn, h => by
  rw [z0s] at h
  by_cases h1 : n < 0
  · rw [if_pos h1] at h; omega
  rw [if_neg h1] at h
  by_cases h2 : z7n t q = true
  · rw [if_pos h2] at h; omega
  rw [if_neg h2] at h
  have hb := z4l c (n - 1) (by omega)
  have h3 : 0 ≤ z0b c (n - 1) := by
   by_cases h4 : z0b c (n - 1) < 0
   · rw [z8u h4] at h; omega
   · omega
  have h4 := bad_near (t := t) (l := q) (by simpa using h2)
  rw [nbIs]
  refine ⟨⟨h4.1, h4.2, ?_⟩, zff r _ hb.1 h⟩
  exact zb9 c (n - 1) (by omega) h3
theorem zb9 : ∀ (l : List Cd) (n : Int), 0 - 1 ≤ n → 0 ≤ z0b l n → nbCs l
 | [], _, _, _ => by rw [nbCs]; trivial
 | c :: r, n, hn, h => by
  rw [z0b] at h
  by_cases h1 : n < 0
  · rw [if_pos h1] at h; omega
  rw [if_neg h1] at h
  have hb := za4 c n (by omega)
  have h3 : 0 ≤ z26 c n := by
   by_cases h4 : z26 c n < 0
   · cases r with
     | nil => rw [z0b] at h; exact h
     | cons d r => rw [z0b, if_pos h4] at h; omega
   · omega
  rw [nbCs]
  exact ⟨zj2 c n (by omega) h3, zb9 r _ hb.1 h⟩
end
theorem over_nb {c : Cd} (h : ziw c = false) : nbC c ∧ c.nm.length ≤ 60 ∧ 0 ≤ z26 c 60 := by
 unfold ziw zk5 at h
 simp only [Bool.or_eq_false_iff, decide_eq_false_iff_not] at h
 exact ⟨zj2 c 60 (by omega) (by omega), by omega, by omega⟩
end Go.AM

set_option maxRecDepth 100000
open Go Go.Proofs
namespace Go.AM
theorem el6 (l : List Cd) (i : Int) (h0 : 0 ≤ i) (h1 : i < l.length) (d : Cd) : FV.isSl 6 (.sl false 6 (FCs l)) = true ∧ 0 ≤ i ∧ i < (((FCs l).length : Nat) : Int) ∧ (fCr (FC d) : List FV) = FC d := ⟨rfl, h0, by rw [z03]; exact h1, z95 d⟩
theorem zix (d : Cd) (l : List Cd) (n : Int) : szC (d :: l) n = szC l (n + nIns d) := by rw [zfx]; rfl
theorem zij (d : Cd) (l : List Cd) (n : Int) : mSlC (d :: l) n = mSlC l (z0y [n, mSl d d.sl]) := by rw [mSlC, mSl_doc d n]; rfl
theorem zbd (c : Cd) (hB : In1.szs c.ins ≤ B) (x : In1) (a0 b0 : List In1) (hx0 : c.ins = a0 ++ x :: b0) (r : Int) : ∀ (b a : List Cd) (n : Int), x.c = a ++ b → (∀ d ∈ b, AC Tryd.prog 9 [aC d] [] (ci (nIns d)) []) → (0 ≤ n ∧ n + nCs b ≤ M61) →
  RPt Tryd.prog 9 0 (ci r) [] 1 ⟨[(1, .c (.a (.ep 0 6 0 0))), (3, ci (szC b n)), (4, ci ((a0.length : Int) + 1))], [(0, obC c)], 1⟩ →
  RPt Tryd.prog 9 0 (ci r) [] 5 ⟨[(1, .c (.a (.ep 0 6 0 0))), (3, ci n), (4, ci a0.length), (5, ci a.length)], [(0, obC c)], 1⟩
 | [], a, n, hx, ih, hL, hk => by
  have z1 : In1.sz1 x ≤ In1.szs c.ins := In1.szs_mem (by rw [hx0]; simp)
  have z2 := In1.szs_length c.ins
  simp only [B] at hB
  have hla : a0.length < c.ins.length := by rw [hx0]; simp
  have e0 : List.getD (FIs c.ins) (Int.toNat (a0.length : Int)) [] = FI x := by rw [hx0]; exact z1d a0 x b0
  rw [zib] at hk
  refine RPt.vc hP sh lv9 (Eq.mpr (v9_5a ..) ?_)
  rw [e0]
  simp only [FI0, FI1, FI2, FI3, FI4, FI5, FI6, FI7]
  rw [w64 (x := (a0.length : Int) + 1) (by omega) (by omega)]
  refine ⟨el8 c.ins a0.length (by omega) (by omega) x, rfl, z00 (fun h => absurd (of_decide_eq_true h) ?_) (fun _ => hk)⟩
  show ¬ (a.length : Int) < (((FCs x.c).length : Nat) : Int)
  rw [z03, hx]; simp
 | d :: b, a, n, hx, ih, hL, hk => by
  have z1 : In1.sz1 x ≤ In1.szs c.ins := In1.szs_mem (by rw [hx0]; simp)
  have z2 := In1.szs_length c.ins
  have z3 := Cd.szs_length x.c
  have z4 : Cd.szs x.c ≤ In1.sz1 x := by cases x; simp only [In1.c, In1.sz1]; omega
  simp only [B] at hB
  have hla : a0.length < c.ins.length := by rw [hx0]; simp
  have hlb : a.length < x.c.length := by rw [hx]; simp
  have e0 : List.getD (FIs c.ins) (Int.toNat (a0.length : Int)) [] = FI x := by rw [hx0]; exact z1d a0 x b0
  have e : List.getD (FV.ses (.sl false 6 (FCs x.c))) (Int.toNat (a.length : Int)) [] = FC d := by rw [hx]; exact z35 a d b
  have hn := z59 d
  have hm := z45 b
  have hc := ih d List.mem_cons_self
  rw [zix] at hk
  have next := zbd c (by simp only [B]; omega) x a0 b0 hx0 r b (a ++ [d]) (n + nIns d) (by rw [hx]; simp) (fun u hu => ih u (List.mem_cons_of_mem _ hu)) (by first | trivial | (simp only [nCs] at *; omega)) hk
  rw [nx] at next
  have nd := el8 c.ins a0.length (by omega) (by omega) x
  refine RPt.vc hP sh lv9 (Eq.mpr (v9_5a ..) ?_)
  rw [e0]
  simp only [FI0, FI1, FI2, FI3, FI4, FI5, FI6, FI7]
  rw [e, w64 (x := (a.length : Int) + 1) (by omega) (by omega)]
  refine ⟨nd, rfl, z00 (fun _ => ⟨nd, el6 x.c a.length (by omega) (by omega) d, _, by rw [show (TV.agg [.a (.fz (.str (FV.asS (List.getD (FC d) 0 FV.nils)))), .a (.fz (.int .i64 (FV.asI (List.getD (FC d) 1 FV.nils)))), .a (.fz (.int .i64 (FV.asI (List.getD (FC d) 2 FV.nils)))), .a (.fz (.int .i64 (FV.asI (List.getD (FC d) 3 FV.nils)))), .a (.fz (.int .i64 (FV.asI (List.getD (FC d) 4 FV.nils)))), .a (.fz (List.getD (FC d) 5 FV.nils))]) = aC d from z2j d]; exact hc, ?_⟩) (fun h => absurd (of_decide_eq_false h) ?_)⟩
  · first
     | (rw [w64 (x := n + nIns d) (by simp only [nCs, M61] at hL; omega) (by simp only [nCs, M61] at hL; omega)]; exact next)
     | exact next
  · show ¬ ¬ (a.length : Int) < (((FCs x.c).length : Nat) : Int)
    rw [z03]; omega
theorem zcz (c : Cd) (hB : In1.szs c.ins ≤ B) : ∀ (b a : List In1) (n : Int), c.ins = a ++ b → (∀ x ∈ b, ∀ d ∈ x.c, AC Tryd.prog 9 [aC d] [] (ci (nIns d)) []) → (0 ≤ n ∧ n + nIs b ≤ M61) →
  RPt Tryd.prog 9 0 (ci (szI b n)) [] 1 ⟨[(1, .c (.a (.ep 0 6 0 0))), (3, ci n), (4, ci a.length)], [(0, obC c)], 1⟩
 | [], a, n, hx, ih, hI => by
  rw [zj9]
  refine RPt.vc hP sh lv9 (Eq.mpr (v9_1a ..) ?_)
  refine ⟨rfl, z00 (fun h => absurd (of_decide_eq_true h) ?_) (fun _ => z2g rfl)⟩
  rw [z02, hx]; simp
 | x :: b, a, n, hx, ih, hI => by
  have hla : a.length < c.ins.length := by rw [hx]; simp
  have hn := z45 x.c
  have hm := z5z b
  have e0 : nIs (x :: b) = nCs x.c + nIs b := by cases x; rw [nIs]; rfl
  rw [zek]
  have next := zcz c hB b (a ++ [x]) (szC x.c n) (by rw [hx]; simp) (fun y hy => ih y (List.mem_cons_of_mem _ hy)) (by first | trivial | (simp only [szC] at *; omega))
  rw [nx] at next
  have h5 := zbd c hB x a b hx (szI b (szC x.c n)) x.c [] n (by simp) (ih x List.mem_cons_self) (by first | trivial | omega) next
  refine RPt.vc hP sh lv9 (Eq.mpr (v9_1a ..) ?_)
  refine ⟨rfl, z00 (fun _ => h5) (fun h => absurd (of_decide_eq_false h) ?_)⟩
  rw [z02]; omega
theorem z8x (c : Cd) (hB : In1.szs c.ins ≤ B) (x : In1) (a0 b0 : List In1) (hx0 : c.ins = a0 ++ x :: b0) (r : Int) : ∀ (b a : List Cd) (n : Int), x.c = a ++ b → (∀ d ∈ b, AC Tryd.prog 11 [aC d] [] (ci (mSl d d.sl)) []) → True →
  RPt Tryd.prog 11 0 (ci r) [] 1 ⟨[(1, .c (.a (.ep 0 6 0 0))), (3, ci (mSlC b n)), (4, ci ((a0.length : Int) + 1))], [(0, obC c)], 1⟩ →
  RPt Tryd.prog 11 0 (ci r) [] 5 ⟨[(1, .c (.a (.ep 0 6 0 0))), (3, ci n), (4, ci a0.length), (5, ci a.length)], [(0, obC c)], 1⟩
 | [], a, n, hx, ih, hL, hk => by
  have z1 : In1.sz1 x ≤ In1.szs c.ins := In1.szs_mem (by rw [hx0]; simp)
  have z2 := In1.szs_length c.ins
  simp only [B] at hB
  have hla : a0.length < c.ins.length := by rw [hx0]; simp
  have e0 : List.getD (FIs c.ins) (Int.toNat (a0.length : Int)) [] = FI x := by rw [hx0]; exact z1d a0 x b0
  rw [zes] at hk
  refine RPt.vc hP sh lv11 (Eq.mpr (v11_5a ..) ?_)
  rw [e0]
  simp only [FI0, FI1, FI2, FI3, FI4, FI5, FI6, FI7]
  rw [w64 (x := (a0.length : Int) + 1) (by omega) (by omega)]
  refine ⟨el8 c.ins a0.length (by omega) (by omega) x, rfl, z00 (fun h => absurd (of_decide_eq_true h) ?_) (fun _ => hk)⟩
  show ¬ (a.length : Int) < (((FCs x.c).length : Nat) : Int)
  rw [z03, hx]; simp
 | d :: b, a, n, hx, ih, hL, hk => by
  have z1 : In1.sz1 x ≤ In1.szs c.ins := In1.szs_mem (by rw [hx0]; simp)
  have z2 := In1.szs_length c.ins
  have z3 := Cd.szs_length x.c
  have z4 : Cd.szs x.c ≤ In1.sz1 x := by cases x; simp only [In1.c, In1.sz1]; omega
  simp only [B] at hB
  have hla : a0.length < c.ins.length := by rw [hx0]; simp
  have hlb : a.length < x.c.length := by rw [hx]; simp
  have e0 : List.getD (FIs c.ins) (Int.toNat (a0.length : Int)) [] = FI x := by rw [hx0]; exact z1d a0 x b0
  have e : List.getD (FV.ses (.sl false 6 (FCs x.c))) (Int.toNat (a.length : Int)) [] = FC d := by rw [hx]; exact z35 a d b
  have hn := z59 d
  have hm := z45 b
  have hc := ih d List.mem_cons_self
  rw [zij] at hk
  have next := z8x c (by simp only [B]; omega) x a0 b0 hx0 r b (a ++ [d]) (z0y [n, mSl d d.sl]) (by rw [hx]; simp) (fun u hu => ih u (List.mem_cons_of_mem _ hu)) (by first | trivial | (simp only [nCs] at *; omega)) hk
  rw [nx] at next
  have nd := el8 c.ins a0.length (by omega) (by omega) x
  refine RPt.vc hP sh lv11 (Eq.mpr (v11_5a ..) ?_)
  rw [e0]
  simp only [FI0, FI1, FI2, FI3, FI4, FI5, FI6, FI7]
  rw [e, w64 (x := (a.length : Int) + 1) (by omega) (by omega)]
  refine ⟨nd, rfl, z00 (fun _ => ⟨nd, el6 x.c a.length (by omega) (by omega) d, _, by rw [show (TV.agg [.a (.fz (.str (FV.asS (List.getD (FC d) 0 FV.nils)))), .a (.fz (.int .i64 (FV.asI (List.getD (FC d) 1 FV.nils)))), .a (.fz (.int .i64 (FV.asI (List.getD (FC d) 2 FV.nils)))), .a (.fz (.int .i64 (FV.asI (List.getD (FC d) 3 FV.nils)))), .a (.fz (.int .i64 (FV.asI (List.getD (FC d) 4 FV.nils)))), .a (.fz (List.getD (FC d) 5 FV.nils))]) = aC d from z2j d]; exact hc, ?_⟩) (fun h => absurd (of_decide_eq_false h) ?_)⟩
  · first
     | (rw [w64 (x := n + nIns d) (by simp only [nCs, M61] at hL; omega) (by simp only [nCs, M61] at hL; omega)]; exact next)
     | exact next
  · show ¬ ¬ (a.length : Int) < (((FCs x.c).length : Nat) : Int)
    rw [z03]; omega
theorem z8q (c : Cd) (hB : In1.szs c.ins ≤ B) : ∀ (b a : List In1) (n : Int), c.ins = a ++ b → (∀ x ∈ b, ∀ d ∈ x.c, AC Tryd.prog 11 [aC d] [] (ci (mSl d d.sl)) []) → True →
  RPt Tryd.prog 11 0 (ci (mSlI b n)) [] 1 ⟨[(1, .c (.a (.ep 0 6 0 0))), (3, ci n), (4, ci a.length)], [(0, obC c)], 1⟩
 | [], a, n, hx, ih, hI => by
  rw [zef]
  refine RPt.vc hP sh lv11 (Eq.mpr (v11_1a ..) ?_)
  refine ⟨rfl, z00 (fun h => absurd (of_decide_eq_true h) ?_) (fun _ => z2g rfl)⟩
  rw [z02, hx]; simp
 | x :: b, a, n, hx, ih, hI => by
  have hla : a.length < c.ins.length := by rw [hx]; simp
  have hn := z45 x.c
  have hm := z5z b
  have e0 : nIs (x :: b) = nCs x.c + nIs b := by cases x; rw [nIs]; rfl
  rw [zd]
  have next := z8q c hB b (a ++ [x]) (mSlC x.c n) (by rw [hx]; simp) (fun y hy => ih y (List.mem_cons_of_mem _ hy)) (by first | trivial | (simp only [szC] at *; omega))
  rw [nx] at next
  have h5 := z8x c hB x a b hx (mSlI b (mSlC x.c n)) x.c [] n (by simp) (ih x List.mem_cons_self) (by first | trivial | omega) next
  refine RPt.vc hP sh lv11 (Eq.mpr (v11_1a ..) ?_)
  refine ⟨rfl, z00 (fun _ => h5) (fun h => absurd (of_decide_eq_false h) ?_)⟩
  rw [z02]; omega
theorem c_rcsize : ∀ c : Cd, c.sz ≤ B → AC Tryd.prog 9 [aC c] [] (ci (nIns c)) [] := by
 refine Cd.ind fun c ih hz => ?_
 have z3 : In1.szs c.ins ≤ B := by cases c; simp only [Cd.sz, Cd.ins, B] at *; omega
 have hn := z5z c.ins
 have e0 : nIns c = (c.ins.length : Int) + nIs c.ins := by cases c; rw [nIns]; rfl
 have h := zcz c z3 c.ins [] c.ins.length rfl (fun x hx d hd => ih x hx d hd (by
  have a1 := In1.szs_mem hx
  have a2 := Cd.szs_mem hd
  cases x
  simp only [In1.sz1, In1.c] at *
  omega)) (by simp only [B, M61] at *; omega)
 rw [e0]
 refine AC.vc hP sh lv9 (Nat.le_refl _) (by simp) (by simp) (Eq.mpr (v9 ..) ?_)
 rw [z02]
 exact ⟨rfl, h⟩
theorem zif : ∀ c : Cd, c.sz ≤ B → AC Tryd.prog 11 [aC c] [] (ci (mSl c c.sl)) [] := by
 refine Cd.ind fun c ih hz => ?_
 have z3 : In1.szs c.ins ≤ B := by cases c; simp only [Cd.sz, Cd.ins, B] at *; omega
 have h := z8q c z3 c.ins [] c.sl rfl (fun x hx d hd => ih x hx d hd (by
  have a1 := In1.szs_mem hx
  have a2 := Cd.szs_mem hd
  cases x
  simp only [In1.sz1, In1.c] at *
  omega)) trivial
 have e : mSl c c.sl = mSlI c.ins c.sl := by rw [mSl_eq]; congr 1; simp [z0y]
 rw [e]
 refine AC.vc hP sh lv11 (Nat.le_refl _) (by simp) (by simp) (Eq.mpr (v11 ..) ?_)
 exact h
theorem z20 (n : Int) (h : n ≤ 9223372036854775807) : AC Tryd.prog 30 [ci n] [] (cs (dgF n)) [] := by
 have h1 := c_digits (max n 0) (by omega) (by omega)
 refine AC.vc hP sh lv30 (Nat.le_refl _) (by simp) (by simp) (Eq.mpr (v30 ..) ?_)
 exact ⟨_, h1, zi (.refl _)⟩
theorem c_rcword (k : Int) : AC Tryd.prog 31 [ci k] [] (cs (z19 k)) [] := by
 refine AC.vc hP sh lv31 (Nat.le_refl _) (by simp) (by simp) (Eq.mpr (v31 ..) ?_)
 refine z00 (fun h => zgm ?_) (fun h => z00 (fun h2 => zgm ?_) (fun h2 => ?_))
 · have := of_decide_eq_true h; rw [z19, if_neg (by omega)]
 · have := of_decide_eq_true h2; rw [z19, if_neg (by omega)]
 · have h := of_decide_eq_false h
   have h2 := of_decide_eq_false h2
   obtain ⟨m, rfl⟩ : ∃ m : Nat, k = m := ⟨k.toNat, by omega⟩
   have hm : m < 16 := by omega
   rw [z19, if_pos (by omega), Int.toNat_natCast, Nat.zero_add]
   rcases m with _ | _ | _ | _ | _ | _ | _ | _ | _ | _ | _ | _ | _ | _ | _ | _ | m <;> first | (exact ⟨⟨by omega, by omega⟩, ⟨by omega, rfl, rfl⟩, zgm rfl⟩) | omega
abbrev evT (c : Cd) (s : List UInt8) (i : Int) : Env := [(1, .c (.a (.ep 0 6 0 0))), (3, cs s), (4, ci i)]
theorem zcq (c : Cd) (x : In1) (i : Int) (r : List UInt8) (h0 : 0 ≤ i) (h1 : i ≤ B) : ∀ (b a : List Cd) (l : List UInt8), x.c = a ++ b → x.c.length ≤ B → (x.k = 14 → ∀ d ∈ b, AC Tryd.prog 13 [aC d] [] (cs (txF d)) []) → (l ++ (if x.k = 14 then txCs b else [])).length ≤ 999999999999 →
  RPt Tryd.prog 13 0 (cs r) [] 1 ⟨evT c (l ++ (if x.k = 14 then txCs b else [])) (i + 1), [(0, obC c)], 1⟩ →
  RPt Tryd.prog 13 0 (cs r) [] 5 ⟨[(1, .c (.a (.ep 0 6 0 0))), (3, cs l), (4, ci i), (5, .c (.a (.ep 1 8 0 0))), (6, ci a.length)], [(0, obC c), (1, .arr 8 [cIn x])], 2⟩
 | [], a, l, hx, hB, ih, hL, hk => by
  simp only [B] at h1
  have e : (if x.k = 14 then txCs [] else []) = [] := by split <;> simp [txCs]
  rw [e, List.append_nil] at hk
  refine RPt.vc hP sh lv13 (Eq.mpr (zhs ..) ?_)
  rw [w64 (x := i + 1) (by omega) (by omega)]
  refine ⟨rfl, z00 (fun h => absurd (of_decide_eq_true h) ?_) (fun _ => hk)⟩
  show ¬ (a.length : Int) < (((FCs x.c).length : Nat) : Int)
  rw [z03, hx]; simp
 | d :: b, a, l, hx, hB, ih, hL, hk => by
  simp only [B] at hB h1
  have hlb : a.length < x.c.length := by rw [hx]; simp
  have e : List.getD (FV.ses (.sl false 6 (FCs x.c))) (Int.toNat (a.length : Int)) [] = FC d := by rw [hx]; exact z35 a d b
  by_cases h14 : x.k = 14
  · rw [if_pos h14] at hL hk
    rw [txCs, ← List.append_assoc] at hL hk
    have hL2 := hL
    simp only [List.length_append] at hL2
    have hc := ih h14 d List.mem_cons_self
    have next := zcq c x i r h0 (by simp only [B]; omega) b (a ++ [d]) (l ++ txF d) (by rw [hx]; simp) (by simp only [B]; omega) (fun q u hu => ih q u (List.mem_cons_of_mem _ hu)) (by rw [if_pos h14]; exact hL) (by rw [if_pos h14]; exact hk)
    rw [nx] at next
    refine RPt.vc hP sh lv13 (Eq.mpr (zhs ..) ?_)
    rw [e, w64 (x := (a.length : Int) + 1) (by omega) (by omega)]
    refine ⟨rfl, z00 (fun _ => z00 (fun _ => ⟨el6 x.c a.length (by omega) (by omega) d, _, by rw [show (TV.agg [.a (.fz (.str (FV.asS (List.getD (FC d) 0 FV.nils)))), .a (.fz (.int .i64 (FV.asI (List.getD (FC d) 1 FV.nils)))), .a (.fz (.int .i64 (FV.asI (List.getD (FC d) 2 FV.nils)))), .a (.fz (.int .i64 (FV.asI (List.getD (FC d) 3 FV.nils)))), .a (.fz (.int .i64 (FV.asI (List.getD (FC d) 4 FV.nils)))), .a (.fz (List.getD (FC d) 5 FV.nils))]) = aC d from z2j d]; exact hc, by omega, next⟩) (fun h => absurd h14 (by simpa using h))) (fun h => absurd (of_decide_eq_false h) ?_)⟩
    show ¬ ¬ (a.length : Int) < (((FCs x.c).length : Nat) : Int)
    rw [z03]; omega
  · rw [if_neg h14, List.append_nil] at hk
    refine RPt.vc hP sh lv13 (Eq.mpr (zhs ..) ?_)
    rw [w64 (x := i + 1) (by omega) (by omega)]
    exact ⟨rfl, z00 (fun _ => z00 (fun h => absurd (by simpa using h) h14) (fun _ => hk)) (fun _ => hk)⟩
theorem zbq (c : Cd) (hB : In1.szs c.ins ≤ B) (ho : z4q c.ins) : ∀ (b a : List In1) (l : List UInt8), c.ins = a ++ b → (∀ x ∈ b, x.k = 14 → ∀ d ∈ x.c, (txF d).length ≤ 999999999999 → AC Tryd.prog 13 [aC d] [] (cs (txF d)) []) → (l ++ txIs a.length b).length ≤ 999999999999 →
  RPt Tryd.prog 13 0 (cs (l ++ txIs a.length b)) [] 1 ⟨evT c l a.length, [(0, obC c)], 1⟩
 | [], a, l, hx, ih, hL => by
  rw [txIs, List.append_nil]
  refine RPt.vc hP sh lv13 (Eq.mpr (v13_1a ..) ?_)
  refine ⟨rfl, z00 (fun h => absurd (of_decide_eq_true h) ?_) (fun _ => zgm rfl)⟩
  rw [z02, hx]; simp
 | x :: b, a, l, hx, ih, hL => by
  have hxm : x ∈ c.ins := by rw [hx]; simp
  have z1 := In1.szs_mem hxm
  have z2 := In1.szs_length c.ins
  have z3 := Cd.szs_length x.c
  have z4 : Cd.szs x.c ≤ In1.sz1 x := by cases x; simp only [In1.c, In1.sz1]; omega
  have ox : (-9223372036854775808 ≤ x.a ∧ x.a ≤ 9223372036854775807) := by have := z3i ho hxm; cases x; rw [okIn] at this; exact this.2.1
  simp only [B] at hB
  have hla : a.length < c.ins.length := by rw [hx]; simp
  have e : List.getD (FIs c.ins) (Int.toNat (a.length : Int)) [] = FI x := by rw [hx]; exact z1d a x b
  have eT : txIs a.length (x :: b) = ([32] ++ dgF a.length ++ [32] ++ z19 x.k ++ (if useA x.k = true then [32] ++ dgF x.a else []) ++ [10]) ++ ((if x.k = 14 then txCs x.c else []) ++ txIs ((a.length : Int) + 1) b) := by cases x; rw [txIs]; rfl
  have c1 := c_rcword x.k
  have c2 := z20 (a.length : Int) (by omega)
  have c3 := z20 x.a ox.2
  have d1 := z1a (n := (a.length : Int)) (by omega)
  have d2 := z1a ox.2
  have d3 := z9r x.k
  rw [eT] at hL ⊢
  have hL2 := hL
  simp only [List.length_append, List.length_singleton] at hL2
  have goal5 : ∀ q : List UInt8, q = l ++ ([32] ++ dgF a.length ++ [32] ++ z19 x.k ++ (if useA x.k = true then [32] ++ dgF x.a else []) ++ [10]) →
    RPt Tryd.prog 13 0 (cs (l ++ (([32] ++ dgF a.length ++ [32] ++ z19 x.k ++ (if useA x.k = true then [32] ++ dgF x.a else []) ++ [10]) ++ ((if x.k = 14 then txCs x.c else []) ++ txIs ((a.length : Int) + 1) b)))) [] 5 ⟨[(1, .c (.a (.ep 0 6 0 0))), (3, cs q), (4, ci a.length), (5, .c (.a (.ep 1 8 0 0))), (6, ci 0)], [(0, obC c), (1, .arr 8 [cIn x])], 2⟩ := fun q hq => by
   rw [← List.append_assoc, ← List.append_assoc] at hL ⊢
   rw [← hq] at hL ⊢
   have hL3 := hL
   simp only [List.length_append] at hL3
   refine zcq c x a.length _ (by omega) (by simp only [B]; omega) x.c [] q (by simp) (by simp only [B]; omega) (fun h14 d hd => ih x List.mem_cons_self h14 d hd ?_) (by simp only [List.length_append]; omega) ?_
   · have : ∀ (m : List Cd), d ∈ m → (txF d).length ≤ (txCs m).length := by
      intro m
      induction m with
      | nil => intro h; cases h
      | cons e m ihm =>
       intro h
       rw [txCs, List.length_append]
       rcases List.mem_cons.1 h with rfl | h
       · omega
       · have := ihm h; omega
     have := this x.c hd
     rw [if_pos h14] at hL3
     omega
   · have := zbq c (by simp only [B]; omega) ho b (a ++ [x]) (q ++ (if x.k = 14 then txCs x.c else [])) (by rw [hx]; simp) (fun y hy => ih y (List.mem_cons_of_mem _ hy)) (by rw [nx]; exact hL)
     rw [nx] at this
     exact this
  have nd := el8 c.ins a.length (by omega) (by omega) x
  refine RPt.vc hP sh lv13 (Eq.mpr (v13_1a ..) ?_)
  rw [e]
  simp only [FI0, FI1, FI2, FI3, FI4, FI5, FI6, FI7]
  have len1 : (l ++ [32]).length + (dgF a.length).length ≤ 1000000000000 := by simp only [List.length_append, List.length_singleton]; omega
  have len2 : ((l ++ [32]) ++ dgF a.length).length + 1 ≤ 1000000000000 := by simp only [List.length_append, List.length_singleton]; omega
  have len3 : (((l ++ [32]) ++ dgF a.length) ++ [32]).length + (z19 x.k).length ≤ 1000000000000 := by simp only [List.length_append, List.length_singleton]; omega
  have len4 : ((((l ++ [32]) ++ dgF a.length) ++ [32]) ++ z19 x.k).length + 1 ≤ 1000000000000 := by simp only [List.length_append, List.length_singleton]; omega
  have yes : useA x.k = true → ((((((l ++ [32]) ++ dgF a.length) ++ [32]) ++ z19 x.k).length + 1 ≤ 1000000000000) ∧ ∃ s : List UInt8, AC Tryd.prog 30 [ci x.a] [] (cs s) [] ∧ ((((((l ++ [32]) ++ dgF a.length) ++ [32]) ++ z19 x.k) ++ [32]).length + s.length ≤ 1000000000000) ∧ (((((((l ++ [32]) ++ dgF a.length) ++ [32]) ++ z19 x.k) ++ [32]) ++ s).length + 1 ≤ 1000000000000) ∧
    RPt Tryd.prog 13 0 (cs (l ++ (([32] ++ dgF a.length ++ [32] ++ z19 x.k ++ (if useA x.k = true then [32] ++ dgF x.a else []) ++ [10]) ++ ((if x.k = 14 then txCs x.c else []) ++ txIs ((a.length : Int) + 1) b)))) [] 5 ⟨[(1, .c (.a (.ep 0 6 0 0))), (3, cs (((((((l ++ [32]) ++ dgF a.length) ++ [32]) ++ z19 x.k) ++ [32]) ++ s) ++ [10])), (4, ci a.length), (5, .c (.a (.ep 1 8 0 0))), (6, ci 0)], [(0, obC c), (1, .arr 8 [cIn x])], 2⟩) := fun h => by
   have hu : (if useA x.k = true then [32] ++ dgF x.a else []).length = (dgF x.a).length + 1 := by rw [if_pos h]; simp
   refine ⟨len4, _, c3, by simp only [List.length_append, List.length_singleton]; omega, by simp only [List.length_append, List.length_singleton]; omega, goal5 _ ?_⟩
   rw [if_pos h]; simp
  refine ⟨rfl, z00 (fun _ => ⟨nd, by omega, _, c2, len1, len2, _, c1, len3, ?_⟩) (fun h => absurd (of_decide_eq_false h) (by rw [z02]; omega))⟩
  have ua : ∀ v : Int, (x.k == v) = true → useA v = true → useA x.k = true := fun v h q => by rw [show x.k = v by simpa using h]; exact q
  refine z00 (fun h => yes (ua 0 h rfl)) (fun q0 => z00 (fun h => yes (ua 1 h rfl)) (fun q1 => z00 (fun h => yes (ua 9 h rfl)) (fun q2 => z00 (fun h => yes (ua 10 h rfl)) (fun q3 => z00 (fun h => yes (ua 11 h rfl)) (fun q4 => z00 (fun h => yes (ua 13 h rfl)) (fun q5 => ⟨len4, goal5 _ ?_⟩))))))
  have : useA x.k = false := by unfold useA; rw [q0, q1, q2, q3, q4, q5]; rfl
  rw [if_neg (by rw [this]; simp)]; simp
theorem c_rctext : ∀ c : Cd, c.sz ≤ B → okCd c → (txF c).length ≤ 999999999999 → AC Tryd.prog 13 [aC c] [] (cs (txF c)) [] := by
 refine Cd.ind fun c ih hz ho hL => ?_
 have z3 : In1.szs c.ins ≤ B ∧ c.nm.length ≤ B := by cases c; simp only [Cd.sz, Cd.ins, Cd.nm, B] at *; omega
 have oc : c.ar ≤ 9223372036854775807 ∧ c.fr ≤ 9223372036854775807 ∧ c.vs ≤ 9223372036854775807 ∧ c.sl ≤ 9223372036854775807 ∧ z4q c.ins := by cases c; rw [okCd] at ho; exact ⟨ho.1.2, ho.2.1.2, ho.2.2.1.2, ho.2.2.2.1.2, ho.2.2.2.2⟩
 have eT : txF c = (c.nm ++ [47] ++ dgF c.ar ++ [32] ++ dgF c.fr ++ [32] ++ dgF c.vs ++ [32] ++ dgF c.sl ++ [10]) ++ txIs 0 c.ins := by cases c; rw [txF]; rfl
 rw [eT] at hL ⊢
 have hL2 := hL
 simp only [List.length_append, List.length_singleton] at hL2
 have h := zbq c z3.1 oc.2.2.2.2 c.ins [] (c.nm ++ [47] ++ dgF c.ar ++ [32] ++ dgF c.fr ++ [32] ++ dgF c.vs ++ [32] ++ dgF c.sl ++ [10]) rfl (fun x hx hk d hd hl => by
  have a1 := In1.szs_mem hx
  have a2 := Cd.szs_mem hd
  have o1 := z3i oc.2.2.2.2 hx
  refine ih x hx d hd ?_ ?_ hl
  · cases x
    simp only [In1.sz1, In1.c] at *
    omega
  · cases x
    rw [okIn] at o1
    exact z7k o1.2.2.2.2 hd) hL
 simp only [B] at z3
 refine AC.vc hP sh lv13 (Nat.le_refl _) (by simp) (by simp) (Eq.mpr (v13 ..) ?_)
 refine ⟨by omega, _, z20 _ oc.1, ?_, ?_, _, z20 _ oc.2.1, ?_, ?_, _, z20 _ oc.2.2.1, ?_, ?_, _, z20 _ oc.2.2.2.1, ?_, ?_, ?_⟩
 all_goals try (simp only [List.length_append, List.length_singleton]; omega)
 exact h
end Go.AM

set_option maxRecDepth 100000
open Go Go.Proofs
namespace Go.AM
def sI1 (x y : In1) : Bool := x.k == y.k && (x.a == y.a && (z1t x.t y.t && (z1j x.l y.l && sCds x.c y.c)))
theorem z6o (x y : In1) (r r' : List In1) : sIns (x :: r) (y :: r') = (sI1 x y && sIns r r') := by
 cases x; cases y
 rw [sIns, sI1]
 simp only [In1.k, In1.a, In1.t, In1.l, In1.c, Bool.and_assoc]
theorem zfk {a b : List In1} (h : a.length ≠ b.length) : sIns a b = false := by
 cases q : sIns a b with
 | false => rfl
 | true => exact absurd (congrArg List.length ((zap a b).1 q)) h
theorem zep {a b : List Cd} (h : a.length ≠ b.length) : sCds a b = false := by
 cases q : sCds a b with
 | false => rfl
 | true => exact absurd (congrArg List.length ((za0 a b).1 q)) h
theorem sCd_eq (a b : Cd) : sCd a b = (a.nm == b.nm && (a.ar == b.ar && (a.fr == b.fr && (a.vs == b.vs && (a.sl == b.sl && sIns a.ins b.ins))))) := by cases a; cases b; rw [sCd]; rfl
theorem c_equalt (l m : List Tm) (hl : l.length ≤ B) (hs : ∀ u ∈ l, u.sz ≤ B) : AC Tryd.prog 58 [aL l, aL m, .c (.fn (.func 57) [] [])] [] (cb (z1j l m)) [] := by
 refine AC.vc hP sh lv58 (Nat.le_refl _) (by simp) (by simp) (Eq.mpr (zjz ..) ?_)
 refine ⟨rfl, rfl, z00 (fun h => z01 ?_) (fun h => ⟨rfl, ?_⟩)⟩
 · rw [z05, z05] at h
   exact (z3x (fun e => by rw [e] at h; simp at h)).symm
 · rw [z05, z05] at h
   have h' : (l.length : Int) = m.length := by simpa using h
   exact z9o l [] m [] (fun u hu v => zic u (hs u hu) v) (by simpa using hl) rfl (by omega)
theorem zcy : ∀ (b a b' a' : List Cd), (∀ u ∈ b, ∀ v : Cd, AC Tryd.prog 14 [aC u, aC v] [] (cb (sCd u v)) []) → (a ++ b).length ≤ B → a.length = a'.length → b.length = b'.length →
  RPt Tryd.prog 59 0 (cb (sCds b b')) [] 1 ⟨[(1, aCs (a' ++ b')), (2, .c (.fn (.func 14) [] [])), (15, aCs (a ++ b)), (16, ci (a ++ b).length), (17, ci a.length)], [], 0⟩
 | [], a, [], a', _, _, _, _ => by
  refine RPt.vc hP sh lv59 (Eq.mpr (z8r ..) ?_)
  exact z00 (fun h => absurd (of_decide_eq_true h) (by simp)) (fun _ => z01 (by rw [sCds]))
 | t :: b, a, t' :: b', a', ih, hl, ha, hb => by
  have hl' := hl
  simp only [List.length_append, List.length_cons, B] at hl'
  simp only [List.length_cons] at hb
  have h1 := ih t List.mem_cons_self t'
  have h2 := zcy b (a ++ [t]) b' (a' ++ [t']) (fun u hu => ih u (List.mem_cons_of_mem _ hu)) (by rw [ap]; exact hl) (by simp [ha]) (by omega)
  rw [ap, ap, nx] at h2
  have e1 : List.getD (FCs (a ++ t :: b)) (Int.toNat (a.length : Int)) [] = FC t := z35 a t b
  have e2 : List.getD (FCs (a' ++ t' :: b')) (Int.toNat (a.length : Int)) [] = FC t' := by rw [ha]; exact z35 a' t' b'
  refine RPt.vc hP sh lv59 (Eq.mpr (z8r ..) ?_)
  rw [e1, e2, w64 (x := (a.length : Int) + 1) (by omega) (by omega)]
  refine z00 (fun _ => ⟨el6 (a ++ t :: b) a.length (by omega) (by simp only [List.length_append, List.length_cons]; omega) t, el6 (a' ++ t' :: b') a.length (by omega) (by simp only [List.length_append, List.length_cons]; omega) t', _, by
   rw [show (TV.agg [.a (.fz (.str (FV.asS (List.getD (FC t) 0 FV.nils)))), .a (.fz (.int .i64 (FV.asI (List.getD (FC t) 1 FV.nils)))), .a (.fz (.int .i64 (FV.asI (List.getD (FC t) 2 FV.nils)))), .a (.fz (.int .i64 (FV.asI (List.getD (FC t) 3 FV.nils)))), .a (.fz (.int .i64 (FV.asI (List.getD (FC t) 4 FV.nils)))), .a (.fz (List.getD (FC t) 5 FV.nils))]) = aC t from z2j t, show (TV.agg [.a (.fz (.str (FV.asS (List.getD (FC t') 0 FV.nils)))), .a (.fz (.int .i64 (FV.asI (List.getD (FC t') 1 FV.nils)))), .a (.fz (.int .i64 (FV.asI (List.getD (FC t') 2 FV.nils)))), .a (.fz (.int .i64 (FV.asI (List.getD (FC t') 3 FV.nils)))), .a (.fz (.int .i64 (FV.asI (List.getD (FC t') 4 FV.nils)))), .a (.fz (List.getD (FC t') 5 FV.nils))]) = aC t' from z2j t']
   exact h1, z00 (fun h => z01 ?_) (fun h => ?_)⟩) (fun h => absurd (of_decide_eq_false h) (by simp only [List.length_append, List.length_cons]; omega))
  · rw [sCds, show sCd t t' = false by simpa using h]; rfl
  · rw [sCds, show sCd t t' = true by simpa using h]; exact h2
theorem zju (l m : List Cd) (hl : l.length ≤ B) (ih : ∀ u ∈ l, ∀ v : Cd, AC Tryd.prog 14 [aC u, aC v] [] (cb (sCd u v)) []) : AC Tryd.prog 59 [aCs l, aCs m, .c (.fn (.func 14) [] [])] [] (cb (sCds l m)) [] := by
 refine AC.vc hP sh lv59 (Nat.le_refl _) (by simp) (by simp) (Eq.mpr (v59_F14 ..) ?_)
 rw [z03, z03]
 refine ⟨rfl, rfl, z00 (fun h => z01 (zep (fun e => by rw [e] at h; simp at h)).symm) (fun h => ⟨rfl, ?_⟩)⟩
 have h' : (l.length : Int) = m.length := by simpa using h
 exact zcy l [] m [] ih (by simpa using hl) rfl (by omega)
abbrev aI1 (x : In1) : TV := .agg (cIn x)
theorem zg (x y : In1) (hz : x.sz1 ≤ B) (ih : ∀ u ∈ x.c, ∀ v : Cd, AC Tryd.prog 14 [aC u, aC v] [] (cb (sCd u v)) []) : AC Tryd.prog 33 [aI1 x, aI1 y] [] (cb (sI1 x y)) [] := by
 have z4 : x.t.bk ≤ B ∧ Tm.bks x.l ≤ B ∧ Cd.szs x.c ≤ B := by cases x; simp only [In1.sz1, In1.t, In1.l, In1.c, B] at *; omega
 have z5 := Tm.sz_bk x.t
 have z6 := Tm.szs_bks x.l
 have z7 := Tm.szs_length x.l
 have z8 := Cd.szs_length x.c
 have h1 := zic x.t (by omega) y.t
 have h2 := c_equalt x.l y.l (by omega) (fun u hu => by have := Tm.szs_mem hu; omega)
 have h3 := zju x.c y.c (by omega) ih
 refine AC.vc hP sh lv33 (Nat.le_refl _) (by simp) (by simp) (Eq.mpr (v33 ..) ?_)
 unfold sI1
 refine z00 (fun q1 => z00 (fun q2 => ⟨_, h1, z00 (fun q3 => ⟨_, h2, z00 (fun q4 => ⟨_, h3, z01 (by rw [q1, q2, q3, q4]; rfl)⟩) (fun q4 => z01 (by rw [q1, q2, q3, q4]; rfl))⟩) (fun q3 => z01 (by rw [q1, q2, q3]; rfl))⟩) (fun q2 => z01 (by rw [q1, q2]; rfl))) (fun q1 => z01 (by rw [q1]; rfl))
theorem zbg : ∀ (b a b' a' : List In1), (∀ u ∈ b, ∀ v : In1, AC Tryd.prog 33 [aI1 u, aI1 v] [] (cb (sI1 u v)) []) → (a ++ b).length ≤ B → a.length = a'.length → b.length = b'.length →
  RPt Tryd.prog 32 0 (cb (sIns b b')) [] 1 ⟨[(1, .c (.a (.fz (.sl false 8 (FIs (a' ++ b')))))), (2, .c (.fn (.func 33) [] [])), (15, .c (.a (.fz (.sl false 8 (FIs (a ++ b)))))), (16, ci (a ++ b).length), (17, ci a.length)], [], 0⟩
 | [], a, [], a', _, _, _, _ => by
  refine RPt.vc hP sh lv32 (Eq.mpr (z98 ..) ?_)
  exact z00 (fun h => absurd (of_decide_eq_true h) (by simp)) (fun _ => z01 (by rw [sIns]))
 | t :: b, a, t' :: b', a', ih, hl, ha, hb => by
  have hl' := hl
  simp only [List.length_append, List.length_cons, B] at hl'
  simp only [List.length_cons] at hb
  have h1 := ih t List.mem_cons_self t'
  have h2 := zbg b (a ++ [t]) b' (a' ++ [t']) (fun u hu => ih u (List.mem_cons_of_mem _ hu)) (by rw [ap]; exact hl) (by simp [ha]) (by omega)
  rw [ap, ap, nx] at h2
  have e1 : List.getD (FIs (a ++ t :: b)) (Int.toNat (a.length : Int)) [] = FI t := z1d a t b
  have e2 : List.getD (FIs (a' ++ t' :: b')) (Int.toNat (a.length : Int)) [] = FI t' := by rw [ha]; exact z1d a' t' b'
  refine RPt.vc hP sh lv32 (Eq.mpr (z98 ..) ?_)
  rw [e1, e2, w64 (x := (a.length : Int) + 1) (by omega) (by omega)]
  simp only [FI0, FI1, FI2, FI3, FI4, FI5, FI6, FI7]
  refine z00 (fun _ => ⟨el8 (a ++ t :: b) a.length (by omega) (by simp only [List.length_append, List.length_cons]; omega) t, el8 (a' ++ t' :: b') a.length (by omega) (by simp only [List.length_append, List.length_cons]; omega) t', _, h1, z00 (fun h => ⟨z2t ?_, by trivial⟩) (fun h => ?_)⟩) (fun h => absurd (of_decide_eq_false h) (by simp only [List.length_append, List.length_cons]; omega))
  · rw [z6o, show sI1 t t' = false by simpa using h]; rfl
  · rw [z6o, show sI1 t t' = true by simpa using h]; exact h2
theorem c_csame : ∀ a : Cd, a.sz ≤ B → ∀ b : Cd, AC Tryd.prog 14 [aC a, aC b] [] (cb (sCd a b)) [] := by
 refine Cd.ind fun a ih hz b => ?_
 have z2 := In1.szs_length a.ins
 have z3 : In1.szs a.ins ≤ B := by cases a; simp only [Cd.sz, Cd.ins, B] at *; omega
 have hi : ∀ u ∈ a.ins, ∀ v : In1, AC Tryd.prog 33 [aI1 u, aI1 v] [] (cb (sI1 u v)) [] := fun u hu v => by
  have a1 := In1.szs_mem hu
  refine zg u v (by omega) (fun d hd e => ih u hu d hd ?_ e)
  have a2 := Cd.szs_mem hd
  cases u
  simp only [In1.sz1, In1.c] at *
  omega
 have he : AC Tryd.prog 32 [.c (.a (.fz (.sl false 8 (FIs a.ins)))), .c (.a (.fz (.sl false 8 (FIs b.ins)))), .c (.fn (.func 33) [] [])] [] (cb (sIns a.ins b.ins)) [] := by
  refine AC.vc hP sh lv32 (Nat.le_refl _) (by simp) (by simp) (Eq.mpr (v32_F33 ..) ?_)
  rw [z02, z02]
  refine ⟨rfl, rfl, z00 (fun h => z01 (zfk (fun e => by rw [e] at h; simp at h)).symm) (fun h => ⟨rfl, ?_⟩)⟩
  have h' : (a.ins.length : Int) = b.ins.length := by simpa using h
  exact zbg a.ins [] b.ins [] hi (by simp only [List.nil_append]; omega) rfl (by omega)
 rw [sCd_eq]
 refine AC.vc hP sh lv14 (Nat.le_refl _) (by simp) (by simp) (Eq.mpr (v14 ..) ?_)
 refine z00 (fun q1 => z00 (fun q2 => z00 (fun q3 => z00 (fun q4 => z00 (fun q5 => ⟨_, he, z01 (by rw [q1, q2, q3, q4, q5]; rfl)⟩) (fun q5 => z01 (by rw [q1, q2, q3, q4, q5]; rfl))) (fun q4 => z01 (by rw [q1, q2, q3, q4]; rfl))) (fun q3 => z01 (by rw [q1, q2, q3]; rfl))) (fun q2 => z01 (by rw [q1, q2]; rfl))) (fun q1 => z01 (by rw [q1]; rfl))
theorem z7q (l m : List Tm) (hl0 : l.length ≤ B) : ∀ (b a b' a' : List Tm), l = a ++ b → m = a' ++ b' → a.length = a'.length → b.length = b'.length → (∀ t ∈ b, t.sz ≤ B) → RPt Tryd.prog 35 0 (cb (z1j b b')) [] 1 ⟨[(0, aL l), (1, aL m), (5, ci (a.length : Int))], [], 0⟩
 | [], a, [], a', hl, hm, _, _, _ => by
  rw [List.append_nil] at hl
  subst hl
  refine RPt.vc hP sh lv35 (Eq.mpr (v35_1a ..) ?_)
  exact ⟨rfl, z00 (fun h => absurd (of_decide_eq_true h) (by rw [z05]; omega)) (fun _ => z01 rfl)⟩
 | t :: b, a, t' :: b', a', hl, hm, ha, hlen, hb => by
  simp only [List.length_cons] at hlen
  have next := z7q l m hl0 b (a ++ [t]) b' (a' ++ [t']) (by rw [hl]; simp) (by rw [hm]; simp) (by simp [ha]) (by omega) (fun u hu => hb u (List.mem_cons_of_mem _ hu))
  have h1 := zi5 t (hb t List.mem_cons_self) t'
  have h3 := ltI' a t b
  have h4 := ltI' a' t' b'
  have em := zbl a t b
  have em' := zbl a' t' b'
  have ea := zb3 a t b
  have ea' := zb3 a' t' b'
  rw [← ha] at h4 em' ea'
  subst hl
  subst hm
  simp only [List.length_append, List.length_cons, B] at hl0
  rw [show (((a ++ [t]).length : Nat) : Int) = (a.length : Int) + 1 by simp] at next
  refine RPt.vc hP sh lv35 (Eq.mpr (v35_1a ..) ?_)
  rw [ea, ea', w64 (x := (a.length : Int) + 1) (by omega) (by omega)]
  refine ⟨rfl, z00 (fun _ => ⟨⟨rfl, by omega, h3, em⟩, ⟨rfl, by omega, h4, em'⟩, _, h1, z00 (fun h => z01 ?_) (fun h => ?_)⟩) (fun h => absurd h3 (of_decide_eq_false h))⟩
  · rw [z1j, show z1t t t' = false by simpa using h]; rfl
  · rw [z1j, show z1t t t' = true by simpa using h]; exact next
theorem ze1 (l m : List Tm) (hl0 : l.length ≤ B) (hb : ∀ t ∈ l, t.sz ≤ B) : AC Tryd.prog 35 [aL l, aL m] [] (cb (z1j l m)) [] := by
 refine AC.vc hP sh lv35 (Nat.le_refl _) (by simp) (by simp) (Eq.mpr (v35 ..) ?_)
 rw [z05, z05]
 refine ⟨rfl, rfl, z00 (fun h => z01 (z3x (fun e => by rw [e] at h; simp at h)).symm) (fun h => ?_)⟩
 have h' : (l.length : Int) = m.length := by simpa using h
 exact z7q l m hl0 l [] m [] rfl rfl rfl (by omega) hb
theorem zc8 (a b : Cd) (x y : In1) (i : Int) (r : Bool) (h0 : 0 ≤ i) (h1 : i ≤ B) : ∀ (q p q' p' : List Cd), x.c = p ++ q → y.c = p' ++ q' → p.length = p'.length → q.length = q'.length → x.c.length ≤ B → (∀ u ∈ q, ∀ v : Cd, AC Tryd.prog 15 [aC u, aC v] [] (cb (sCd u v)) []) →
  (sCds q q' = false → r = false) → (sCds q q' = true → RPt Tryd.prog 15 0 (cb r) [] 1 ⟨[(2, .c (.a (.ep 0 6 0 0))), (3, .c (.a (.ep 1 6 0 0))), (5, ci (i + 1))], [(0, obC a), (1, obC b)], 2⟩) →
  RPt Tryd.prog 15 0 (cb r) [] 5 ⟨[(2, .c (.a (.ep 0 6 0 0))), (3, .c (.a (.ep 1 6 0 0))), (5, ci i), (6, .c (.a (.ep 2 8 0 0))), (7, .c (.a (.ep 3 8 0 0))), (10, ci p.length)], [(0, obC a), (1, obC b), (2, .arr 8 [cIn x]), (3, .arr 8 [cIn y])], 4⟩
 | [], p, [], p', hx, hy, hp, hq, hB, ih, hF, hT => by
  have hk := hT (by rw [sCds])
  simp only [B] at h1
  refine RPt.vc hP sh lv15 (Eq.mpr (v15_5a ..) ?_)
  rw [w64 (x := i + 1) (by omega) (by omega)]
  refine ⟨rfl, z00 (fun h => absurd (of_decide_eq_true h) ?_) (fun _ => hk)⟩
  show ¬ (p.length : Int) < (((FCs x.c).length : Nat) : Int)
  rw [z03, hx]; simp
 | u :: q, p, v :: q', p', hx, hy, hp, hq, hB, ih, hF, hT => by
  simp only [List.length_cons] at hq
  simp only [B] at hB
  have hlp : p.length < x.c.length := by rw [hx]; simp
  have hlp' : p.length < y.c.length := by rw [hy, hp]; simp
  have hc := ih u List.mem_cons_self v
  have e1 : List.getD (FV.ses (.sl false 6 (FCs x.c))) (Int.toNat (p.length : Int)) [] = FC u := by rw [hx]; exact z35 p u q
  have e2 : List.getD (FV.ses (.sl false 6 (FCs y.c))) (Int.toNat (p.length : Int)) [] = FC v := by rw [hy, hp]; exact z35 p' v q'
  have es : sCds (u :: q) (v :: q') = (sCd u v && sCds q q') := by rw [sCds]
  rw [es] at hF hT
  refine RPt.vc hP sh lv15 (Eq.mpr (v15_5a ..) ?_)
  rw [e1, e2, w64 (x := (p.length : Int) + 1) (by omega) (by omega)]
  refine ⟨rfl, z00 (fun _ => ⟨el6 x.c p.length (by omega) (by omega) u, el6 y.c p.length (by omega) (by omega) v, _, by
   rw [show (TV.agg [.a (.fz (.str (FV.asS (List.getD (FC u) 0 FV.nils)))), .a (.fz (.int .i64 (FV.asI (List.getD (FC u) 1 FV.nils)))), .a (.fz (.int .i64 (FV.asI (List.getD (FC u) 2 FV.nils)))), .a (.fz (.int .i64 (FV.asI (List.getD (FC u) 3 FV.nils)))), .a (.fz (.int .i64 (FV.asI (List.getD (FC u) 4 FV.nils)))), .a (.fz (List.getD (FC u) 5 FV.nils))]) = aC u from z2j u, show (TV.agg [.a (.fz (.str (FV.asS (List.getD (FC v) 0 FV.nils)))), .a (.fz (.int .i64 (FV.asI (List.getD (FC v) 1 FV.nils)))), .a (.fz (.int .i64 (FV.asI (List.getD (FC v) 2 FV.nils)))), .a (.fz (.int .i64 (FV.asI (List.getD (FC v) 3 FV.nils)))), .a (.fz (.int .i64 (FV.asI (List.getD (FC v) 4 FV.nils)))), .a (.fz (List.getD (FC v) 5 FV.nils))]) = aC v from z2j v]
   exact hc, z00 (fun h => z01 (hF (by rw [show sCd u v = false by simpa using h]; rfl)).symm) (fun h => ?_)⟩) (fun h => absurd (of_decide_eq_false h) ?_)⟩
  · have hs : sCd u v = true := by simpa using h
    rw [hs, Bool.true_and] at hF hT
    have next := zc8 a b x y i r h0 h1 q (p ++ [u]) q' (p' ++ [v]) (by rw [hx]; simp) (by rw [hy]; simp) (by simp [hp]) (by omega) (by simp only [B]; omega) (fun w hw => ih w (List.mem_cons_of_mem _ hw)) hF hT
    rw [nx] at next
    exact next
  · show ¬ ¬ (p.length : Int) < (((FCs x.c).length : Nat) : Int)
    rw [z03]; omega
theorem zcx (a b : Cd) (hB : In1.szs a.ins ≤ B) : ∀ (q p q' p' : List In1), a.ins = p ++ q → b.ins = p' ++ q' → p.length = p'.length → q.length = q'.length → (∀ x ∈ q, ∀ u ∈ x.c, ∀ v : Cd, AC Tryd.prog 15 [aC u, aC v] [] (cb (sCd u v)) []) →
  RPt Tryd.prog 15 0 (cb (sIns q q')) [] 1 ⟨[(2, .c (.a (.ep 0 6 0 0))), (3, .c (.a (.ep 1 6 0 0))), (5, ci p.length)], [(0, obC a), (1, obC b)], 2⟩
 | [], p, [], p', hx, hy, hp, hq, ih => by
  refine RPt.vc hP sh lv15 (Eq.mpr (v15_1a ..) ?_)
  refine ⟨rfl, z00 (fun h => absurd (of_decide_eq_true h) ?_) (fun _ => z01 (by rw [sIns]))⟩
  rw [z02, hx]; simp
 | x :: q, p, y :: q', p', hx, hy, hp, hq, ih => by
  simp only [List.length_cons] at hq
  have hxm : x ∈ a.ins := by rw [hx]; simp
  have z1 := In1.szs_mem hxm
  have z2 := In1.szs_length a.ins
  have z4 : x.t.bk ≤ In1.sz1 x ∧ Tm.bks x.l ≤ In1.sz1 x ∧ Cd.szs x.c ≤ In1.sz1 x := by cases x; simp only [In1.sz1, In1.t, In1.l, In1.c]; omega
  have z5 := Tm.sz_bk x.t
  have z6 := Tm.szs_bks x.l
  have z7 := Tm.szs_length x.l
  have z8 := Cd.szs_length x.c
  have hla : p.length < a.ins.length := by rw [hx]; simp
  have hlb : p.length < b.ins.length := by rw [hy, hp]; simp
  have e1 : List.getD (FIs a.ins) (Int.toNat (p.length : Int)) [] = FI x := by rw [hx]; exact z1d p x q
  have e2 : List.getD (FIs b.ins) (Int.toNat (p.length : Int)) [] = FI y := by rw [hy, hp]; exact z1d p' y q'
  have h1 := zi5 x.t (by omega) y.t
  have h2 := ze1 x.l y.l (by omega) (fun u hu => by have := Tm.szs_mem hu; omega)
  have next := zcx a b hB q (p ++ [x]) q' (p' ++ [y]) (by rw [hx]; simp) (by rw [hy]; simp) (by simp [hp]) (by omega) (fun z hz => ih z (List.mem_cons_of_mem _ hz))
  rw [nx] at next
  refine RPt.vc hP sh lv15 (Eq.mpr (v15_1a ..) ?_)
  rw [e1, e2]
  simp only [FI0, FI1, FI2, FI3, FI4, FI5, FI6, FI7]
  rw [z6o]
  refine ⟨rfl, z00 (fun _ => ⟨el8 a.ins p.length (by omega) (by omega) x, el8 b.ins p.length (by omega) (by omega) y, _, h1, _, h2, z00 (fun q1 => ⟨z2t ?_, by trivial⟩) (fun q1 => z00 (fun q2 => ⟨z2t ?_, by trivial⟩) (fun q2 => z00 (fun q3 => ⟨z2t ?_, by trivial⟩) (fun q3 => z00 (fun q4 => ⟨z2t ?_, by trivial⟩) (fun q4 => ⟨rfl, rfl, z00 (fun q5 => ⟨z2t ?_, by trivial⟩) (fun q5 => ?_)⟩))))⟩) (fun h => absurd (of_decide_eq_false h) (by rw [z02]; omega))⟩
  · have : (x.k == y.k) = false := by simpa using q1
    rw [sI1, this]; rfl
  · have : (x.a == y.a) = false := by simpa using q2
    rw [sI1, this, Bool.false_and, Bool.and_false, Bool.false_and]
  · have : z1t x.t y.t = false := by simpa using q3
    rw [sI1, this, Bool.false_and, Bool.and_false, Bool.and_false, Bool.false_and]
  · have : z1j x.l y.l = false := by simpa using q4
    rw [sI1, this, Bool.false_and, Bool.and_false, Bool.and_false, Bool.and_false, Bool.false_and]
  · have : ¬ x.c.length = y.c.length := fun e => by
     have q5 : ((((FCs x.c).length : Nat) : Int) != (((FCs y.c).length : Nat) : Int)) = true := q5
     rw [z03, z03, e] at q5; simp at q5
    rw [sI1, zep this, Bool.and_false, Bool.and_false, Bool.and_false, Bool.and_false, Bool.false_and]
  · have hlen : x.c.length = y.c.length := by
     have q5 : ((((FCs x.c).length : Nat) : Int) != (((FCs y.c).length : Nat) : Int)) = false := q5
     rw [z03, z03] at q5
     have : (x.c.length : Int) = y.c.length := by simpa using q5
     omega
    have k1 : (x.k == y.k) = true := by simpa using q1
    have k2 : (x.a == y.a) = true := by simpa using q2
    have k3 : z1t x.t y.t = true := by simpa using q3
    have k4 : z1j x.l y.l = true := by simpa using q4
    have e5 : sI1 x y = sCds x.c y.c := by rw [sI1, k1, k2, k3, k4]; rfl
    rw [e5]
    exact zc8 a b x y p.length _ (by omega) (by omega) x.c [] y.c [] (by simp) (by simp) rfl hlen (by omega) (ih x List.mem_cons_self) (fun h => by rw [h]; rfl) (fun h => by rw [h, Bool.true_and]; exact next)
theorem c_rcsame : ∀ a : Cd, a.sz ≤ B → ∀ b : Cd, AC Tryd.prog 15 [aC a, aC b] [] (cb (sCd a b)) [] := by
 refine Cd.ind fun a ih hz b => ?_
 have z3 : In1.szs a.ins ≤ B := by cases a; simp only [Cd.sz, Cd.ins, B] at *; omega
 have h : a.ins.length = b.ins.length → _ := fun hl => zcx a b z3 a.ins [] b.ins [] rfl rfl rfl hl (fun x hx d hd e => ih x hx d hd (by
  have a1 := In1.szs_mem hx
  have a2 := Cd.szs_mem hd
  cases x
  simp only [In1.sz1, In1.c] at *
  omega) e)
 rw [sCd_eq]
 refine AC.vc hP sh lv15 (Nat.le_refl _) (by simp) (by simp) (Eq.mpr (v15 ..) ?_)
 rw [z02, z02]
 have bn : ∀ {x y : Int}, (x != y) = true → (x == y) = false := fun h => by simpa using h
 have by_ : ∀ {x y : Int}, (x != y) = false → (x == y) = true := fun h => by simpa using h
 refine z00 (fun q1 => z01 (by rw [show (a.nm == b.nm) = false by simpa using q1]; rfl)) (fun q1 => ?_)
 rw [show (a.nm == b.nm) = true by simpa using q1, Bool.true_and]
 refine z00 (fun q => z01 (by rw [bn q]; rfl)) (fun q => ?_)
 rw [by_ q, Bool.true_and]
 refine z00 (fun q => z01 (by rw [bn q]; rfl)) (fun q => ?_)
 rw [by_ q, Bool.true_and]
 refine z00 (fun q => z01 (by rw [bn q]; rfl)) (fun q => ?_)
 rw [by_ q, Bool.true_and]
 refine z00 (fun q => z01 (by rw [bn q]; rfl)) (fun q => ?_)
 rw [by_ q, Bool.true_and]
 refine ⟨rfl, rfl, z00 (fun q => z01 ?_) (fun q => ?_)⟩
 · have : ¬ a.ins.length = b.ins.length := fun e => by rw [e] at q; simp at q
   exact (zfk this).symm
 · have : (a.ins.length : Int) = b.ins.length := by simpa using q
   exact h (by omega)
theorem zeb (a b : Cd) (hz : a.sz ≤ 137438953472) (ho : okCd a) (hz2 : b.sz ≤ 137438953472) : AC Tryd.prog 4 [aC a, aC b] [] (cb true) [] := by
 have za : a.sz ≤ B := by simp only [B]; omega
 have h1 := zhj a za
 have h2 := zhj b (by simp only [B]; omega)
 refine AC.vc hP sh lv4 (Nat.le_refl _) (by simp) (by simp) (Eq.mpr (v4 ..) ?_)
 refine ⟨_, c_cworks, z00 (fun h => by cases h) (fun _ => ⟨_, h1, _, h2, z00 (fun _ => z01 rfl) (fun o1 => z00 (fun _ => z01 rfl) (fun _ => z00 (fun _ => ?_) (fun h => by cases h)))⟩)⟩
 have ov := over_nb o1
 have hL := tx_len a ho (by omega) 60 (by omega) ov.2.2
 have hT : (txF a).length ≤ 999999999999 := by omega
 refine ⟨_, zik a za, _, c_rcsize a za, z00 (fun _ => ⟨_, zf9 a za, _, zif a za, z00 (fun _ => ⟨_, zk7 a za ho hT, _, c_rctext a za ho hT, z00 (fun _ => ⟨_, c_csame a za b, _, c_rcsame a za b, z01 (by simp)⟩) (fun h => by simp at h)⟩) (fun h => by simp at h)⟩) (fun h => by simp at h)⟩
end Go.AM

namespace Go.AM
open Go.ChangeShapes Go.WideShapes Go.ChangeAt Go.RowKit
end Go.AM

set_option maxRecDepth 100000
open Go Go.Proofs
namespace Go.Proofs.YtmeolnpbbhinjaaDoor.base
open Go.ChangeShapes Go.WideShapes Go.ChangeAt Go.RowKit Go.AM
theorem one_le {H : Type} (d : DataW H) : 1 ≤ Rows.uptoBulk d := by
 cases d with
 | lit l => cases l <;> simp [Rows.uptoBulk]
 | _ => simp [Rows.uptoBulk]
theorem bulk {H : Type} : Bulk (H := H) Rows.uptoBulk Rows.uptoBulkAll :=
 ⟨rfl, fun _ _ => rfl, one_le, fun es sp => by simp only [Rows.uptoBulk]; omega, fun l => by simp [Rows.uptoBulk], fun l => by simp [Rows.uptoBulk]⟩
theorem own : ownKnob Tryd.prog.godebug = none := by kernel_rfl
theorem laidOut : laidOutB Tryd.prog = true := by kernel_rfl
theorem tmTy : ∃ f0 f1 f2 f3 : Field, TmTy Tryd.prog 31 f0 f1 f2 f3 :=
 ⟨_, _, _, _, Tryd.underlying31, Tryd.underlying28, Tryd.underlying9, Tryd.underlying3, Tryd.underlying29, rfl, rfl, rfl, rfl, by kernel_rfl, by kernel_rfl, by kernel_rfl, by kernel_rfl, by kernel_rfl⟩
theorem rec24 : Tryd.prog.readableRec 24 = true := by kernel_rfl
theorem lt24 : 24 < Tryd.prog.types.size := of_decide_eq_true (by kernel_rfl)
theorem want24 : Tryd.prog.wantsStandIn 24 = false := by kernel_rfl
theorem upto {H : Type} {l : List (DataW H)} (hk : Rows.uptoSmall H l = true) : Rows.uptoBulkAll l ≤ 1048576 := of_decide_eq_true hk
abbrev zj3 : List (String × DataW Unit) := [("math/bits.deBruijn32tab", Rows.laid_math_bits_deBruijn32tab), ("math/bits.deBruijn64tab", Rows.laid_math_bits_deBruijn64tab), ("internal/strconv.uint64pow10", Rows.laid_internal_strconv_uint64pow10)]
theorem gTab : Tryd.prog.globalNamed "internal/strconv.uint64pow10" = some 1 := by kernel_rfl
theorem gTabType : (Tryd.prog.globals[1]?).map (·.type) = some 117 := by kernel_rfl
theorem powTab : (Rows.laid_internal_strconv_uint64pow10 : DataW Unit) = Lib.tabData .u64 Lib.pow10Tab := by kernel_rfl
theorem tabHas {W : World} (h : laidMetH Tryd.prog zj3 W) : Lib.TabIs Tryd.prog W "internal/strconv.uint64pow10" .u64 Lib.pow10Tab := by
 have h : laidMet Tryd.prog zj3 W := h
 obtain ⟨ps, ⟨_, _, _, _, _, q1, _, _, _, _, ⟨_, _, _, _, _, q2, _, _, _, _, ⟨g', t', cs, fuel, p, q, hg', ht', hvar, hd, _, _⟩, _⟩, _⟩, _⟩ := h
 obtain rfl := Option.some.inj (gTab.symm.trans hg')
 obtain rfl := Option.some.inj (gTabType.symm.trans ht')
 unfold Lib.TabIs
 rw [powTab] at hd
 rw [hvar, ← Lib.cells_of_tab Tryd.underlying117 (by first | exact Tryd.underlying108) (by kernel_rfl) (by kernel_rfl) hd]
theorem glHas {W : World} (h : laidMetH Tryd.prog zj3 W) : Gl Tryd.prog W z43 := fun g hg => by
 obtain rfl := Option.some.inj (gTab.symm.trans hg)
 have ht := tabHas h
 refine ⟨ht, fun h => h, ?_⟩
 unfold Lib.TabIs World.var? at ht
 rw [gTab] at ht
 simp only [Option.bind_some] at ht
 split at ht
 · rename_i hh; exact (Array.getElem?_eq_some_iff.1 hh).1
 · cases ht
noncomputable def z75 (os : Os) : World :=
 { World.holding Tryd.prog os ⟨#[], #[], []⟩ with heap := ((((World.holding Tryd.prog os ⟨#[], #[], []⟩).heap.modify 2 fun | .cells _ t frozen => .cells #[.int .u8 0, .int .u8 1, .int .u8 28, .int .u8 2, .int .u8 29, .int .u8 14, .int .u8 24, .int .u8 3, .int .u8 30, .int .u8 22, .int .u8 20, .int .u8 15, .int .u8 25, .int .u8 17, .int .u8 4, .int .u8 8, .int .u8 31, .int .u8 27, .int .u8 13, .int .u8 23, .int .u8 21, .int .u8 19, .int .u8 16, .int .u8 7, .int .u8 26, .int .u8 12, .int .u8 18, .int .u8 6, .int .u8 11, .int .u8 5, .int .u8 10, .int .u8 9] t frozen | o => o).modify 3 fun | .cells _ t frozen => .cells #[.int .u8 0, .int .u8 1, .int .u8 56, .int .u8 2, .int .u8 57, .int .u8 49, .int .u8 28, .int .u8 3, .int .u8 61, .int .u8 58, .int .u8 42, .int .u8 50, .int .u8 38, .int .u8 29, .int .u8 17, .int .u8 4, .int .u8 62, .int .u8 47, .int .u8 59, .int .u8 36, .int .u8 45, .int .u8 43, .int .u8 51, .int .u8 22, .int .u8 53, .int .u8 39, .int .u8 33, .int .u8 30, .int .u8 24, .int .u8 18, .int .u8 12, .int .u8 5, .int .u8 63, .int .u8 55, .int .u8 48, .int .u8 27, .int .u8 60, .int .u8 41, .int .u8 37, .int .u8 16, .int .u8 46, .int .u8 35, .int .u8 44, .int .u8 21, .int .u8 52, .int .u8 32, .int .u8 23, .int .u8 11, .int .u8 54, .int .u8 26, .int .u8 40, .int .u8 15, .int .u8 34, .int .u8 20, .int .u8 31, .int .u8 10, .int .u8 25, .int .u8 14, .int .u8 19, .int .u8 9, .int .u8 13, .int .u8 8, .int .u8 7, .int .u8 6] t frozen | o => o).modify 1 fun | .cells _ t frozen => .cells #[.int .u64 1, .int .u64 10, .int .u64 100, .int .u64 1000, .int .u64 10000, .int .u64 100000, .int .u64 1000000, .int .u64 10000000, .int .u64 100000000, .int .u64 1000000000, .int .u64 10000000000, .int .u64 100000000000, .int .u64 1000000000000, .int .u64 10000000000000, .int .u64 100000000000000, .int .u64 1000000000000000, .int .u64 10000000000000000, .int .u64 100000000000000000, .int .u64 1000000000000000000, .int .u64 10000000000000000000] t frozen | o => o) }
end Go.Proofs.YtmeolnpbbhinjaaDoor.base
