/- A calculus of plain values for the model's code, what the code of each function asks (computed by the kernel), contracts of the functions, and plain laws (part 3). No conditions. -/
import Derived.Test.YtcfabdfgdkfakaaDoorPart2
import Derived.Test.YtcfabdfgdkfakaaDoorProg
import Derived.Test.YtcfabdfgdkfakaaDoorShelf
import Derived.ProofKit
import Derived.OpenShut
import Derived.JoinedCond
import Derived.WalkKit
import Derived.Test.YtcfabdfgdkfakaaDoorCards
import Derived.Test.YtcfabdfgdkfakaaDoorTie
import Derived.Deep.DeepHandedRow
set_option maxRecDepth 100000
open Go Go.Proofs
namespace Go.AM
theorem hP : Tryd.prog.follows .mixedOrders = true := by kernel_rfl
def sh : FuncId → List Sh
  | 17 => [⟨List Opd × Int, fun x => (.tup [(false, [(.a (.fz (.sl false 3 (OR x.1))))]), (false, [(.a (.fz (.int .i64 x.2)))])]), fun _ H => H, true⟩]
  | 19 => [⟨Opd × Bool, fun x => (.tup [(true, [(.a (.fz (.str x.1.nm))), (.a (.fz (.int .i64 x.1.pr))), (.a (.fz (.int .i64 x.1.fx)))]), (false, [(.a (.fz (.bool x.2)))])]), fun _ H => H, true⟩]
  | 20 => [⟨List Opd, fun x => (.c (.a (.fz (.sl false 3 (OR x))))), fun _ H => H, true⟩]
  | 22 => [⟨Opd × Bool, fun x => (.tup [(true, [(.a (.fz (.str x.1.nm))), (.a (.fz (.int .i64 x.1.pr))), (.a (.fz (.int .i64 x.1.fx)))]), (false, [(.a (.fz (.bool x.2)))])]), fun _ H => H, true⟩]
  | 23 => [⟨Opd × Bool, fun x => (.tup [(true, [(.a (.fz (.str x.1.nm))), (.a (.fz (.int .i64 x.1.pr))), (.a (.fz (.int .i64 x.1.fx)))]), (false, [(.a (.fz (.bool x.2)))])]), fun _ H => H, true⟩]
  | 24 => [⟨Opd × Bool, fun x => (.tup [(true, [(.a (.fz (.str x.1.nm))), (.a (.fz (.int .i64 x.1.pr))), (.a (.fz (.int .i64 x.1.fx)))]), (false, [(.a (.fz (.bool x.2)))])]), fun _ H => H, true⟩]
  | 25 => [⟨List Opd, fun x => (.c (.a (.fz (.sl false 3 (OR x))))), fun _ H => H, true⟩]
  | 30 => [⟨Unit, fun _ => (.c (.a (.fz .nils))), fun _ _ => [], false⟩, ⟨List (List FV), fun x => (.c (.a (.osl 0 3 0 (List.length x)))), fun x _ => [(.arz 3 x)], false⟩]
  | 33 => [⟨List Opd, fun x => (.c (.a (.fz (.sl false 3 (OR x))))), fun _ H => H, true⟩]
  | 34 => [⟨List Opd, fun x => (.c (.a (.fz (.sl false 3 (OR x))))), fun _ H => H, true⟩]
  | 37 => [⟨Opd, fun x => (.agg [(.a (.fz (.str x.nm))), (.a (.fz (.int .i64 x.pr))), (.a (.fz (.int .i64 x.fx)))]), fun _ H => H, true⟩]
  | 42 => [⟨Unit, fun _ => (.c (.a (.fz .nils))), fun _ _ => [], false⟩, ⟨Unit, fun _ => (.c (.a (.osl 0 3 0 0))), fun _ _ => [(.arz 3 [])], false⟩]
  | _ => []
/-- lambent/lambentlaw02.OpsBinds -/
def lv3 : List (Nat × List Nat) := []
theorem v3 (a_0 : List UInt8) (a_1 : Int) (a_2 : Int) (b_0 : List UInt8) (b_1 : Int) (b_2 : Int) (r : TV) (Hs' : List AObj) : vcE Tryd.prog sh lv3 3 [(.agg [(.a (.fz (.str a_0))), (.a (.fz (.int .i64 a_1))), (.a (.fz (.int .i64 a_2)))]), (.agg [(.a (.fz (.str b_0))), (.a (.fz (.int .i64 b_1))), (.a (.fz (.int .i64 b_2)))])] [] (fun r0 Hs0 => TV.Le r0 r ∧ Hs0 = Hs') (RPt Tryd.prog 3 0 r Hs') =
    (∃ b1 : Bool, ((AC Tryd.prog 9 [] [] (.c (.a (.fz (.bool b1)))) []) ∧ (br (!b1) (TV.Le (.c (.a (.fz (.bool false)))) r ∧ [] = Hs') (br (decide (((((List.length a_0) : Nat) : Int) : Int) > (100 : Int))) (TV.Le (.c (.a (.fz (.bool b1)))) r ∧ [] = Hs') (br b1 (∃ b2 : Bool, ((AC Tryd.prog 10 [(.agg [(.a (.fz (.str a_0))), (.a (.fz (.int .i64 a_1))), (.a (.fz (.int .i64 a_2)))]), (.agg [(.a (.fz (.str b_0))), (.a (.fz (.int .i64 b_1))), (.a (.fz (.int .i64 b_2)))])] [] (.c (.a (.fz (.bool b2)))) []) ∧ (∃ b3 : Bool, ((AC Tryd.prog 11 [(.agg [(.a (.fz (.str a_0))), (.a (.fz (.int .i64 a_1))), (.a (.fz (.int .i64 a_2)))]), (.agg [(.a (.fz (.str b_0))), (.a (.fz (.int .i64 b_1))), (.a (.fz (.int .i64 b_2)))])] [] (.c (.a (.fz (.bool b3)))) []) ∧ (br ((b2 : Bool) == b3) (∃ b4 : Bool, ((AC Tryd.prog 12 [(.agg [(.a (.fz (.str a_0))), (.a (.fz (.int .i64 a_1))), (.a (.fz (.int .i64 a_2)))]), (.agg [(.a (.fz (.str b_0))), (.a (.fz (.int .i64 b_1))), (.a (.fz (.int .i64 b_2)))])] [] (.c (.a (.fz (.bool b4)))) []) ∧ (∃ b5 : Bool, ((AC Tryd.prog 13 [(.agg [(.a (.fz (.str a_0))), (.a (.fz (.int .i64 a_1))), (.a (.fz (.int .i64 a_2)))]), (.agg [(.a (.fz (.str b_0))), (.a (.fz (.int .i64 b_1))), (.a (.fz (.int .i64 b_2)))])] [] (.c (.a (.fz (.bool b5)))) []) ∧ (br ((b4 : Bool) == b5) (∃ s6 : List UInt8, ((AC Tryd.prog 14 [(.agg [(.a (.fz (.str a_0))), (.a (.fz (.int .i64 a_1))), (.a (.fz (.int .i64 a_2)))])] [] (.c (.a (.fz (.str s6)))) []) ∧ (∃ s7 : List UInt8, ((AC Tryd.prog 15 [(.agg [(.a (.fz (.str a_0))), (.a (.fz (.int .i64 a_1))), (.a (.fz (.int .i64 a_2)))])] [] (.c (.a (.fz (.str s7)))) []) ∧ (TV.Le (.c (.a (.fz (.bool ((s6 : List UInt8) == s7))))) r ∧ [] = Hs'))))) (TV.Le (.c (.a (.fz (.bool false)))) r ∧ [] = Hs')))))) (TV.Le (.c (.a (.fz (.bool false)))) r ∧ [] = Hs')))))) (TV.Le (.c (.a (.fz (.bool false)))) r ∧ [] = Hs')))))) := by kernel_rfl
/-- lambent/lambentlaw02.works -/
def lv9 : List (Nat × List Nat) := []
theorem v9  (r : TV) (Hs' : List AObj) : vcE Tryd.prog sh lv9 9 [] [] (fun r0 Hs0 => TV.Le r0 r ∧ Hs0 = Hs') (RPt Tryd.prog 9 0 r Hs') =
    (∃ z1 : List Opd, ((AC Tryd.prog 20 [] [] (.c (.a (.fz (.sl false 3 (OR z1))))) []) ∧ (∃ z2 : Opd × Bool, ((AC Tryd.prog 19 [(.c (.a (.fz (.sl false 3 (OR z1))))), (.c (.a (.fz (.str [44]))))] [] (.tup [(true, [(.a (.fz (.str z2.1.nm))), (.a (.fz (.int .i64 z2.1.pr))), (.a (.fz (.int .i64 z2.1.fx)))]), (false, [(.a (.fz (.bool z2.2)))])]) []) ∧ (∃ z3 : Opd × Bool, ((AC Tryd.prog 19 [(.c (.a (.fz (.sl false 3 (OR z1))))), (.c (.a (.fz (.str [43]))))] [] (.tup [(true, [(.a (.fz (.str z3.1.nm))), (.a (.fz (.int .i64 z3.1.pr))), (.a (.fz (.int .i64 z3.1.fx)))]), (false, [(.a (.fz (.bool z3.2)))])]) []) ∧ (∃ z4 : Opd × Bool, ((AC Tryd.prog 19 [(.c (.a (.fz (.sl false 3 (OR z1))))), (.c (.a (.fz (.str [42]))))] [] (.tup [(true, [(.a (.fz (.str z4.1.nm))), (.a (.fz (.int .i64 z4.1.pr))), (.a (.fz (.int .i64 z4.1.fx)))]), (false, [(.a (.fz (.bool z4.2)))])]) []) ∧ (∃ z5 : List Opd, ((AC Tryd.prog 25 [] [] (.c (.a (.fz (.sl false 3 (OR z5))))) []) ∧ (∃ b6 : Bool, ((AC Tryd.prog 18 [(.c (.a (.fz (.sl false 3 (OR z1))))), (.c (.a (.fz (.sl false 3 (OR z5)))))] [] (.c (.a (.fz (.bool b6)))) []) ∧ (br b6 (br z2.2 (br (((z2.1.nm : List UInt8) == [44]) && (((z2.1.pr : Int) == (30 : Int)) && (((z2.1.fx : Int) == (2 : Int)) && true))) (∃ b7 : Bool, ((AC Tryd.prog 10 [(.agg [(.a (.fz (.str z3.1.nm))), (.a (.fz (.int .i64 z3.1.pr))), (.a (.fz (.int .i64 z3.1.fx)))]), (.agg [(.a (.fz (.str z4.1.nm))), (.a (.fz (.int .i64 z4.1.pr))), (.a (.fz (.int .i64 z4.1.fx)))])] [] (.c (.a (.fz (.bool b7)))) []) ∧ (br b7 (∃ b8 : Bool, ((AC Tryd.prog 10 [(.agg [(.a (.fz (.str z4.1.nm))), (.a (.fz (.int .i64 z4.1.pr))), (.a (.fz (.int .i64 z4.1.fx)))]), (.agg [(.a (.fz (.str z3.1.nm))), (.a (.fz (.int .i64 z3.1.pr))), (.a (.fz (.int .i64 z3.1.fx)))])] [] (.c (.a (.fz (.bool b8)))) []) ∧ (br (!b8) (∃ s9 : List UInt8, ((AC Tryd.prog 14 [(.agg [(.a (.fz (.str [99, 111, 110, 115]))), (.a (.fz (.int .i64 (120 : Int)))), (.a (.fz (.int .i64 (2 : Int))))])] [] (.c (.a (.fz (.str s9)))) []) ∧ (TV.Le (.c (.a (.fz (.bool ((s9 : List UInt8) == [105, 110, 102, 105, 120, 114, 32, 99, 111, 110, 115, 32, 49, 50, 48, 46]))))) r ∧ [] = Hs'))) (TV.Le (.c (.a (.fz (.bool false)))) r ∧ [] = Hs')))) (TV.Le (.c (.a (.fz (.bool false)))) r ∧ [] = Hs')))) (TV.Le (.c (.a (.fz (.bool false)))) r ∧ [] = Hs')) (TV.Le (.c (.a (.fz (.bool false)))) r ∧ [] = Hs')) (TV.Le (.c (.a (.fz (.bool false)))) r ∧ [] = Hs')))))))))))))) := by kernel_rfl
/-- lambent/ops.Left -/
def lv10 : List (Nat × List Nat) := []
theorem v10 (a_0 : List UInt8) (a_1 : Int) (a_2 : Int) (b_0 : List UInt8) (b_1 : Int) (b_2 : Int) (r : TV) (Hs' : List AObj) : vcE Tryd.prog sh lv10 10 [(.agg [(.a (.fz (.str a_0))), (.a (.fz (.int .i64 a_1))), (.a (.fz (.int .i64 a_2)))]), (.agg [(.a (.fz (.str b_0))), (.a (.fz (.int .i64 b_1))), (.a (.fz (.int .i64 b_2)))])] [] (fun r0 Hs0 => TV.Le r0 r ∧ Hs0 = Hs') (RPt Tryd.prog 10 0 r Hs') =
    (∃ b1 : Bool, ((AC Tryd.prog 26 [(.agg [(.a (.fz (.str a_0))), (.a (.fz (.int .i64 a_1))), (.a (.fz (.int .i64 a_2)))]), (.agg [(.a (.fz (.str b_0))), (.a (.fz (.int .i64 b_1))), (.a (.fz (.int .i64 b_2)))]), (.c (.a (.fz (.int .i64 (1 : Int)))))] [] (.c (.a (.fz (.bool b1)))) []) ∧ (TV.Le (.c (.a (.fz (.bool b1)))) r ∧ [] = Hs'))) := by kernel_rfl
/-- lambent/lambentref02.Left -/
def lv11 : List (Nat × List Nat) := []
theorem v11 (a_0 : List UInt8) (a_1 : Int) (a_2 : Int) (b_0 : List UInt8) (b_1 : Int) (b_2 : Int) (r : TV) (Hs' : List AObj) : vcE Tryd.prog sh lv11 11 [(.agg [(.a (.fz (.str a_0))), (.a (.fz (.int .i64 a_1))), (.a (.fz (.int .i64 a_2)))]), (.agg [(.a (.fz (.str b_0))), (.a (.fz (.int .i64 b_1))), (.a (.fz (.int .i64 b_2)))])] [] (fun r0 Hs0 => TV.Le r0 r ∧ Hs0 = Hs') (RPt Tryd.prog 11 0 r Hs') =
    (br (decide ((b_1 : Int) > a_1)) (TV.Le (.c (.a (.fz (.bool true)))) r ∧ [] = Hs') (br ((b_1 : Int) == a_1) (br ((a_2 : Int) == (1 : Int)) (TV.Le (.c (.a (.fz (.bool ((b_2 : Int) == (1 : Int)))))) r ∧ [] = Hs') (TV.Le (.c (.a (.fz (.bool false)))) r ∧ [] = Hs')) (TV.Le (.c (.a (.fz (.bool false)))) r ∧ [] = Hs'))) := by kernel_rfl
/-- lambent/ops.Right -/
def lv12 : List (Nat × List Nat) := []
theorem v12 (a_0 : List UInt8) (a_1 : Int) (a_2 : Int) (b_0 : List UInt8) (b_1 : Int) (b_2 : Int) (r : TV) (Hs' : List AObj) : vcE Tryd.prog sh lv12 12 [(.agg [(.a (.fz (.str a_0))), (.a (.fz (.int .i64 a_1))), (.a (.fz (.int .i64 a_2)))]), (.agg [(.a (.fz (.str b_0))), (.a (.fz (.int .i64 b_1))), (.a (.fz (.int .i64 b_2)))])] [] (fun r0 Hs0 => TV.Le r0 r ∧ Hs0 = Hs') (RPt Tryd.prog 12 0 r Hs') =
    (∃ b1 : Bool, ((AC Tryd.prog 26 [(.agg [(.a (.fz (.str a_0))), (.a (.fz (.int .i64 a_1))), (.a (.fz (.int .i64 a_2)))]), (.agg [(.a (.fz (.str b_0))), (.a (.fz (.int .i64 b_1))), (.a (.fz (.int .i64 b_2)))]), (.c (.a (.fz (.int .i64 (2 : Int)))))] [] (.c (.a (.fz (.bool b1)))) []) ∧ (TV.Le (.c (.a (.fz (.bool b1)))) r ∧ [] = Hs'))) := by kernel_rfl
/-- lambent/lambentref02.Right -/
def lv13 : List (Nat × List Nat) := []
theorem v13 (a_0 : List UInt8) (a_1 : Int) (a_2 : Int) (b_0 : List UInt8) (b_1 : Int) (b_2 : Int) (r : TV) (Hs' : List AObj) : vcE Tryd.prog sh lv13 13 [(.agg [(.a (.fz (.str a_0))), (.a (.fz (.int .i64 a_1))), (.a (.fz (.int .i64 a_2)))]), (.agg [(.a (.fz (.str b_0))), (.a (.fz (.int .i64 b_1))), (.a (.fz (.int .i64 b_2)))])] [] (fun r0 Hs0 => TV.Le r0 r ∧ Hs0 = Hs') (RPt Tryd.prog 13 0 r Hs') =
    (br (decide ((b_1 : Int) > a_1)) (TV.Le (.c (.a (.fz (.bool true)))) r ∧ [] = Hs') (br ((b_1 : Int) == a_1) (br ((a_2 : Int) == (2 : Int)) (TV.Le (.c (.a (.fz (.bool ((b_2 : Int) == (2 : Int)))))) r ∧ [] = Hs') (TV.Le (.c (.a (.fz (.bool false)))) r ∧ [] = Hs')) (TV.Le (.c (.a (.fz (.bool false)))) r ∧ [] = Hs'))) := by kernel_rfl
/-- lambent/ops.Text -/
def lv14 : List (Nat × List Nat) := []
theorem v14 (o_0 : List UInt8) (o_1 : Int) (o_2 : Int) (r : TV) (Hs' : List AObj) : vcE Tryd.prog sh lv14 14 [(.agg [(.a (.fz (.str o_0))), (.a (.fz (.int .i64 o_1))), (.a (.fz (.int .i64 o_2)))])] [] (fun r0 Hs0 => TV.Le r0 r ∧ Hs0 = Hs') (RPt Tryd.prog 14 0 r Hs') =
    (br ((o_2 : Int) == (1 : Int)) ((7 ≤ 1000000000000) ∧ (((7 + (List.length o_0)) ≤ 1000000000000) ∧ ((((List.length ([105, 110, 102, 105, 120, 108, 32] ++ o_0)) + 1) ≤ 1000000000000) ∧ (∃ s1 : List UInt8, ((AC Tryd.prog 27 [(.c (.a (.fz (.int .i64 (foldMax [o_1, (0 : Int)])))))] [] (.c (.a (.fz (.str s1)))) []) ∧ ((((List.length (([105, 110, 102, 105, 120, 108, 32] ++ o_0) ++ [32])) + (List.length s1)) ≤ 1000000000000) ∧ ((((List.length ((([105, 110, 102, 105, 120, 108, 32] ++ o_0) ++ [32]) ++ s1)) + 1) ≤ 1000000000000) ∧ (TV.Le (.c (.a (.fz (.str (((([105, 110, 102, 105, 120, 108, 32] ++ o_0) ++ [32]) ++ s1) ++ [46]))))) r ∧ [] = Hs')))))))) (br ((o_2 : Int) == (2 : Int)) ((7 ≤ 1000000000000) ∧ (((7 + (List.length o_0)) ≤ 1000000000000) ∧ ((((List.length ([105, 110, 102, 105, 120, 114, 32] ++ o_0)) + 1) ≤ 1000000000000) ∧ (∃ s2 : List UInt8, ((AC Tryd.prog 27 [(.c (.a (.fz (.int .i64 (foldMax [o_1, (0 : Int)])))))] [] (.c (.a (.fz (.str s2)))) []) ∧ ((((List.length (([105, 110, 102, 105, 120, 114, 32] ++ o_0) ++ [32])) + (List.length s2)) ≤ 1000000000000) ∧ ((((List.length ((([105, 110, 102, 105, 120, 114, 32] ++ o_0) ++ [32]) ++ s2)) + 1) ≤ 1000000000000) ∧ (TV.Le (.c (.a (.fz (.str (((([105, 110, 102, 105, 120, 114, 32] ++ o_0) ++ [32]) ++ s2) ++ [46]))))) r ∧ [] = Hs')))))))) ((6 ≤ 1000000000000) ∧ (((6 + (List.length o_0)) ≤ 1000000000000) ∧ ((((List.length ([105, 110, 102, 105, 120, 32] ++ o_0)) + 1) ≤ 1000000000000) ∧ (∃ s3 : List UInt8, ((AC Tryd.prog 27 [(.c (.a (.fz (.int .i64 (foldMax [o_1, (0 : Int)])))))] [] (.c (.a (.fz (.str s3)))) []) ∧ ((((List.length (([105, 110, 102, 105, 120, 32] ++ o_0) ++ [32])) + (List.length s3)) ≤ 1000000000000) ∧ ((((List.length ((([105, 110, 102, 105, 120, 32] ++ o_0) ++ [32]) ++ s3)) + 1) ≤ 1000000000000) ∧ (TV.Le (.c (.a (.fz (.str (((([105, 110, 102, 105, 120, 32] ++ o_0) ++ [32]) ++ s3) ++ [46]))))) r ∧ [] = Hs')))))))))) := by kernel_rfl
/-- lambent/lambentref02.Text -/
def lv15 : List (Nat × List Nat) := []
theorem v15 (o_0 : List UInt8) (o_1 : Int) (o_2 : Int) (r : TV) (Hs' : List AObj) : vcE Tryd.prog sh lv15 15 [(.agg [(.a (.fz (.str o_0))), (.a (.fz (.int .i64 o_1))), (.a (.fz (.int .i64 o_2)))])] [] (fun r0 Hs0 => TV.Le r0 r ∧ Hs0 = Hs') (RPt Tryd.prog 15 0 r Hs') =
    (br ((o_2 : Int) == (1 : Int)) (br ((o_2 : Int) == (2 : Int)) ((7 ≤ 1000000000000) ∧ (((7 + (List.length o_0)) ≤ 1000000000000) ∧ ((((List.length ([105, 110, 102, 105, 120, 114, 32] ++ o_0)) + 1) ≤ 1000000000000) ∧ (∃ s1 : List UInt8, ((AC Tryd.prog 28 [(.c (.a (.fz (.int .i64 (foldMax [o_1, (0 : Int)])))))] [] (.c (.a (.fz (.str s1)))) []) ∧ ((((List.length (([105, 110, 102, 105, 120, 114, 32] ++ o_0) ++ [32])) + (List.length s1)) ≤ 1000000000000) ∧ ((((List.length ((([105, 110, 102, 105, 120, 114, 32] ++ o_0) ++ [32]) ++ s1)) + 1) ≤ 1000000000000) ∧ (TV.Le (.c (.a (.fz (.str (((([105, 110, 102, 105, 120, 114, 32] ++ o_0) ++ [32]) ++ s1) ++ [46]))))) r ∧ [] = Hs')))))))) ((7 ≤ 1000000000000) ∧ (((7 + (List.length o_0)) ≤ 1000000000000) ∧ ((((List.length ([105, 110, 102, 105, 120, 108, 32] ++ o_0)) + 1) ≤ 1000000000000) ∧ (∃ s2 : List UInt8, ((AC Tryd.prog 28 [(.c (.a (.fz (.int .i64 (foldMax [o_1, (0 : Int)])))))] [] (.c (.a (.fz (.str s2)))) []) ∧ ((((List.length (([105, 110, 102, 105, 120, 108, 32] ++ o_0) ++ [32])) + (List.length s2)) ≤ 1000000000000) ∧ ((((List.length ((([105, 110, 102, 105, 120, 108, 32] ++ o_0) ++ [32]) ++ s2)) + 1) ≤ 1000000000000) ∧ (TV.Le (.c (.a (.fz (.str (((([105, 110, 102, 105, 120, 108, 32] ++ o_0) ++ [32]) ++ s2) ++ [46]))))) r ∧ [] = Hs'))))))))) (br ((o_2 : Int) == (2 : Int)) ((7 ≤ 1000000000000) ∧ (((7 + (List.length o_0)) ≤ 1000000000000) ∧ ((((List.length ([105, 110, 102, 105, 120, 114, 32] ++ o_0)) + 1) ≤ 1000000000000) ∧ (∃ s3 : List UInt8, ((AC Tryd.prog 28 [(.c (.a (.fz (.int .i64 (foldMax [o_1, (0 : Int)])))))] [] (.c (.a (.fz (.str s3)))) []) ∧ ((((List.length (([105, 110, 102, 105, 120, 114, 32] ++ o_0) ++ [32])) + (List.length s3)) ≤ 1000000000000) ∧ ((((List.length ((([105, 110, 102, 105, 120, 114, 32] ++ o_0) ++ [32]) ++ s3)) + 1) ≤ 1000000000000) ∧ (TV.Le (.c (.a (.fz (.str (((([105, 110, 102, 105, 120, 114, 32] ++ o_0) ++ [32]) ++ s3) ++ [46]))))) r ∧ [] = Hs')))))))) ((6 ≤ 1000000000000) ∧ (((6 + (List.length o_0)) ≤ 1000000000000) ∧ ((((List.length ([105, 110, 102, 105, 120, 32] ++ o_0)) + 1) ≤ 1000000000000) ∧ (∃ s4 : List UInt8, ((AC Tryd.prog 28 [(.c (.a (.fz (.int .i64 (foldMax [o_1, (0 : Int)])))))] [] (.c (.a (.fz (.str s4)))) []) ∧ ((((List.length (([105, 110, 102, 105, 120, 32] ++ o_0) ++ [32])) + (List.length s4)) ≤ 1000000000000) ∧ ((((List.length ((([105, 110, 102, 105, 120, 32] ++ o_0) ++ [32]) ++ s4)) + 1) ≤ 1000000000000) ∧ (TV.Le (.c (.a (.fz (.str (((([105, 110, 102, 105, 120, 32] ++ o_0) ++ [32]) ++ s4) ++ [46]))))) r ∧ [] = Hs')))))))))) := by kernel_rfl
/-- lambent/ops.Default -/
def lv20 : List (Nat × List Nat) := []
theorem v20  (r : TV) (Hs' : List AObj) : vcE Tryd.prog sh lv20 20 [] [] (fun r0 Hs0 => TV.Le r0 r ∧ Hs0 = Hs') (RPt Tryd.prog 20 0 r Hs') =
    (((1 : Nat) = 1 ∧ 1 ≤ 1) ∧ (∃ z1 : List Opd, ((AC Tryd.prog 34 [(.c (.a (.fz (.int .i64 (10 : Int))))), (.c (.a (.fz (.int .i64 (0 : Int))))), (.c (.a (.fz (.sl true 1 [[(.str [58, 45])]]))))] [] (.c (.a (.fz (.sl false 3 (OR z1))))) []) ∧ (((1 : Nat) = 1 ∧ 1 ≤ 1) ∧ (∃ z2 : List Opd, ((AC Tryd.prog 34 [(.c (.a (.fz (.int .i64 (20 : Int))))), (.c (.a (.fz (.int .i64 (2 : Int))))), (.c (.a (.fz (.sl true 1 [[(.str [59])]]))))] [] (.c (.a (.fz (.sl false 3 (OR z2))))) []) ∧ (((1 : Nat) = 1 ∧ 1 ≤ 1) ∧ (∃ z3 : List Opd, ((AC Tryd.prog 34 [(.c (.a (.fz (.int .i64 (30 : Int))))), (.c (.a (.fz (.int .i64 (2 : Int))))), (.c (.a (.fz (.sl true 1 [[(.str [44])]]))))] [] (.c (.a (.fz (.sl false 3 (OR z3))))) []) ∧ (((1 : Nat) = 1 ∧ 1 ≤ 1) ∧ (∃ z4 : List Opd, ((AC Tryd.prog 34 [(.c (.a (.fz (.int .i64 (40 : Int))))), (.c (.a (.fz (.int .i64 (2 : Int))))), (.c (.a (.fz (.sl true 1 [[(.str [61, 62])]]))))] [] (.c (.a (.fz (.sl false 3 (OR z4))))) []) ∧ (((1 : Nat) = 1 ∧ 6 ≤ 6) ∧ (∃ z5 : List Opd, ((AC Tryd.prog 34 [(.c (.a (.fz (.int .i64 (60 : Int))))), (.c (.a (.fz (.int .i64 (0 : Int))))), (.c (.a (.fz (.sl true 1 [[(.str [61])], [(.str [105, 115])], [(.str [60])], [(.str [61, 60])], [(.str [62])], [(.str [62, 61])]]))))] [] (.c (.a (.fz (.sl false 3 (OR z5))))) []) ∧ (((1 : Nat) = 1 ∧ 2 ≤ 2) ∧ (∃ z6 : List Opd, ((AC Tryd.prog 34 [(.c (.a (.fz (.int .i64 (80 : Int))))), (.c (.a (.fz (.int .i64 (1 : Int))))), (.c (.a (.fz (.sl true 1 [[(.str [43])], [(.str [45])]]))))] [] (.c (.a (.fz (.sl false 3 (OR z6))))) []) ∧ (((1 : Nat) = 1 ∧ 3 ≤ 3) ∧ (∃ z7 : List Opd, ((AC Tryd.prog 34 [(.c (.a (.fz (.int .i64 (90 : Int))))), (.c (.a (.fz (.int .i64 (1 : Int))))), (.c (.a (.fz (.sl true 1 [[(.str [42])], [(.str [100, 105, 118])], [(.str [109, 111, 100])]]))))] [] (.c (.a (.fz (.sl false 3 (OR z7))))) []) ∧ (((1 : Nat) = 1 ∧ 7 ≤ 7) ∧ (∃ z8 : List Opd, ((AC Tryd.prog 33 [(.c (.a (.fz (.sl true 1 [[(.sl false 3 (OR z1))], [(.sl false 3 (OR z2))], [(.sl false 3 (OR z3))], [(.sl false 3 (OR z4))], [(.sl false 3 (OR z5))], [(.sl false 3 (OR z6))], [(.sl false 3 (OR z7))]]))))] [] (.c (.a (.fz (.sl false 3 (OR z8))))) []) ∧ (TV.Le (.c (.a (.fz (.sl false 3 (OR z8))))) r ∧ [] = Hs'))))))))))))))))))))))))) := by kernel_rfl
/-- lambent/ops.Find -/
def lv19 : List (Nat × List Nat) := []
theorem v19 (l : List (List FV)) (name : List UInt8) (r : TV) (Hs' : List AObj) : vcE Tryd.prog sh lv19 19 [(.c (.a (.fz (.sl false 3 l)))), (.c (.a (.fz (.str name))))] [] (fun r0 Hs0 => TV.Le r0 r ∧ Hs0 = Hs') (RPt Tryd.prog 19 0 r Hs') =
    (∃ n1 : Int, ((AC Tryd.prog 31 [(.c (.a (.fz (.sl false 3 l)))), (.c (.fn (.func 32) [] [(false, [(.ep 0 1 0 0)])]))] [(.arr 1 [[(.a (.fz (.str name)))]])] (.c (.a (.fz (.int .i64 n1)))) [(.arr 1 [[(.a (.fz (.str name)))]])]) ∧ (br (decide ((n1 : Int) < (0 : Int))) (TV.Le (.tup [(true, [(.a (.fz (.str []))), (.a (.fz (.int .i64 (0 : Int)))), (.a (.fz (.int .i64 (0 : Int))))]), (false, [(.a (.fz (.bool false)))])]) r ∧ [] = Hs') (((FV.isSl 3 (.sl false 3 l) = true) ∧ ((0 ≤ n1) ∧ ((n1 < (((List.length l) : Nat) : Int)) ∧ (([(.str (FV.asS (List.getD (List.getD l (Int.toNat n1) []) 0 FV.nils))), (.int .i64 (FV.asI (List.getD (List.getD l (Int.toNat n1) []) 1 FV.nils))), (.int .i64 (FV.asI (List.getD (List.getD l (Int.toNat n1) []) 2 FV.nils)))] : List FV) = (List.getD l (Int.toNat n1) []))))) ∧ (TV.Le (.tup [(true, [(.a (.fz (.str (FV.asS (List.getD (List.getD l (Int.toNat n1) []) 0 FV.nils))))), (.a (.fz (.int .i64 (FV.asI (List.getD (List.getD l (Int.toNat n1) []) 1 FV.nils))))), (.a (.fz (.int .i64 (FV.asI (List.getD (List.getD l (Int.toNat n1) []) 2 FV.nils)))))]), (false, [(.a (.fz (.bool true)))])]) r ∧ [] = Hs'))))) := by kernel_rfl
/-- lambent/lambentref02.Default -/
def lv25 : List (Nat × List Nat) := []
theorem v25  (r : TV) (Hs' : List AObj) : vcE Tryd.prog sh lv25 25 [] [] (fun r0 Hs0 => TV.Le r0 r ∧ Hs0 = Hs') (RPt Tryd.prog 25 0 r Hs') =
    (∃ z1 : Opd, ((AC Tryd.prog 37 [(.c (.a (.fz (.str [58, 45])))), (.c (.a (.fz (.int .i64 (10 : Int))))), (.c (.a (.fz (.int .i64 (0 : Int)))))] [] (.agg [(.a (.fz (.str z1.nm))), (.a (.fz (.int .i64 z1.pr))), (.a (.fz (.int .i64 z1.fx)))]) []) ∧ (∃ z2 : Opd, ((AC Tryd.prog 37 [(.c (.a (.fz (.str [59])))), (.c (.a (.fz (.int .i64 (20 : Int))))), (.c (.a (.fz (.int .i64 (2 : Int)))))] [] (.agg [(.a (.fz (.str z2.nm))), (.a (.fz (.int .i64 z2.pr))), (.a (.fz (.int .i64 z2.fx)))]) []) ∧ (∃ z3 : Opd, ((AC Tryd.prog 37 [(.c (.a (.fz (.str [44])))), (.c (.a (.fz (.int .i64 (30 : Int))))), (.c (.a (.fz (.int .i64 (2 : Int)))))] [] (.agg [(.a (.fz (.str z3.nm))), (.a (.fz (.int .i64 z3.pr))), (.a (.fz (.int .i64 z3.fx)))]) []) ∧ (∃ z4 : Opd, ((AC Tryd.prog 37 [(.c (.a (.fz (.str [61, 62])))), (.c (.a (.fz (.int .i64 (40 : Int))))), (.c (.a (.fz (.int .i64 (2 : Int)))))] [] (.agg [(.a (.fz (.str z4.nm))), (.a (.fz (.int .i64 z4.pr))), (.a (.fz (.int .i64 z4.fx)))]) []) ∧ ((4 ≤ 4) ∧ ((roomB 4 32) ∧ (∃ z5 : Opd, ((AC Tryd.prog 37 [(.c (.a (.fz (.str [61])))), (.c (.a (.fz (.int .i64 (60 : Int))))), (.c (.a (.fz (.int .i64 (0 : Int)))))] [] (.agg [(.a (.fz (.str z5.nm))), (.a (.fz (.int .i64 z5.pr))), (.a (.fz (.int .i64 z5.fx)))]) []) ∧ (∃ z6 : Opd, ((AC Tryd.prog 37 [(.c (.a (.fz (.str [105, 115])))), (.c (.a (.fz (.int .i64 (60 : Int))))), (.c (.a (.fz (.int .i64 (0 : Int)))))] [] (.agg [(.a (.fz (.str z6.nm))), (.a (.fz (.int .i64 z6.pr))), (.a (.fz (.int .i64 z6.fx)))]) []) ∧ (∃ z7 : Opd, ((AC Tryd.prog 37 [(.c (.a (.fz (.str [60])))), (.c (.a (.fz (.int .i64 (60 : Int))))), (.c (.a (.fz (.int .i64 (0 : Int)))))] [] (.agg [(.a (.fz (.str z7.nm))), (.a (.fz (.int .i64 z7.pr))), (.a (.fz (.int .i64 z7.fx)))]) []) ∧ (∃ z8 : Opd, ((AC Tryd.prog 37 [(.c (.a (.fz (.str [61, 60])))), (.c (.a (.fz (.int .i64 (60 : Int))))), (.c (.a (.fz (.int .i64 (0 : Int)))))] [] (.agg [(.a (.fz (.str z8.nm))), (.a (.fz (.int .i64 z8.pr))), (.a (.fz (.int .i64 z8.fx)))]) []) ∧ (∃ z9 : Opd, ((AC Tryd.prog 37 [(.c (.a (.fz (.str [62])))), (.c (.a (.fz (.int .i64 (60 : Int))))), (.c (.a (.fz (.int .i64 (0 : Int)))))] [] (.agg [(.a (.fz (.str z9.nm))), (.a (.fz (.int .i64 z9.pr))), (.a (.fz (.int .i64 z9.fx)))]) []) ∧ (∃ z10 : Opd, ((AC Tryd.prog 37 [(.c (.a (.fz (.str [62, 61])))), (.c (.a (.fz (.int .i64 (60 : Int))))), (.c (.a (.fz (.int .i64 (0 : Int)))))] [] (.agg [(.a (.fz (.str z10.nm))), (.a (.fz (.int .i64 z10.pr))), (.a (.fz (.int .i64 z10.fx)))]) []) ∧ ((6 ≤ 6) ∧ ((4 ≤ 4 ∧ roomB 10 32) ∧ (∃ z11 : Opd, ((AC Tryd.prog 37 [(.c (.a (.fz (.str [43])))), (.c (.a (.fz (.int .i64 (80 : Int))))), (.c (.a (.fz (.int .i64 (1 : Int)))))] [] (.agg [(.a (.fz (.str z11.nm))), (.a (.fz (.int .i64 z11.pr))), (.a (.fz (.int .i64 z11.fx)))]) []) ∧ (∃ z12 : Opd, ((AC Tryd.prog 37 [(.c (.a (.fz (.str [45])))), (.c (.a (.fz (.int .i64 (80 : Int))))), (.c (.a (.fz (.int .i64 (1 : Int)))))] [] (.agg [(.a (.fz (.str z12.nm))), (.a (.fz (.int .i64 z12.pr))), (.a (.fz (.int .i64 z12.fx)))]) []) ∧ (∃ z13 : Opd, ((AC Tryd.prog 37 [(.c (.a (.fz (.str [42])))), (.c (.a (.fz (.int .i64 (90 : Int))))), (.c (.a (.fz (.int .i64 (1 : Int)))))] [] (.agg [(.a (.fz (.str z13.nm))), (.a (.fz (.int .i64 z13.pr))), (.a (.fz (.int .i64 z13.fx)))]) []) ∧ (∃ z14 : Opd, ((AC Tryd.prog 37 [(.c (.a (.fz (.str [100, 105, 118])))), (.c (.a (.fz (.int .i64 (90 : Int))))), (.c (.a (.fz (.int .i64 (1 : Int)))))] [] (.agg [(.a (.fz (.str z14.nm))), (.a (.fz (.int .i64 z14.pr))), (.a (.fz (.int .i64 z14.fx)))]) []) ∧ (∃ z15 : Opd, ((AC Tryd.prog 37 [(.c (.a (.fz (.str [109, 111, 100])))), (.c (.a (.fz (.int .i64 (90 : Int))))), (.c (.a (.fz (.int .i64 (1 : Int)))))] [] (.agg [(.a (.fz (.str z15.nm))), (.a (.fz (.int .i64 z15.pr))), (.a (.fz (.int .i64 z15.fx)))]) []) ∧ ((5 ≤ 5) ∧ ((10 ≤ 10 ∧ roomB 15 32) ∧ (((3 : Nat) = 3 ∧ 15 ≤ 15) ∧ (TV.Le (.c (.a (.fz (.sl true 3 [[(.str z1.nm), (.int .i64 z1.pr), (.int .i64 z1.fx)], [(.str z2.nm), (.int .i64 z2.pr), (.int .i64 z2.fx)], [(.str z3.nm), (.int .i64 z3.pr), (.int .i64 z3.fx)], [(.str z4.nm), (.int .i64 z4.pr), (.int .i64 z4.fx)], [(.str z5.nm), (.int .i64 z5.pr), (.int .i64 z5.fx)], [(.str z6.nm), (.int .i64 z6.pr), (.int .i64 z6.fx)], [(.str z7.nm), (.int .i64 z7.pr), (.int .i64 z7.fx)], [(.str z8.nm), (.int .i64 z8.pr), (.int .i64 z8.fx)], [(.str z9.nm), (.int .i64 z9.pr), (.int .i64 z9.fx)], [(.str z10.nm), (.int .i64 z10.pr), (.int .i64 z10.fx)], [(.str z11.nm), (.int .i64 z11.pr), (.int .i64 z11.fx)], [(.str z12.nm), (.int .i64 z12.pr), (.int .i64 z12.fx)], [(.str z13.nm), (.int .i64 z13.pr), (.int .i64 z13.fx)], [(.str z14.nm), (.int .i64 z14.pr), (.int .i64 z14.fx)], [(.str z15.nm), (.int .i64 z15.pr), (.int .i64 z15.fx)]])))) r ∧ [] = Hs')))))))))))))))))))))))))))))))))))))) := by kernel_rfl
/-- lambent/lambentref02.Same -/
def lv18 : List (Nat × List Nat) := [(1, [0, 1, 5])]
theorem v18 (a : List (List FV)) (b : List (List FV)) (r : TV) (Hs' : List AObj) : vcE Tryd.prog sh lv18 18 [(.c (.a (.fz (.sl false 3 a)))), (.c (.a (.fz (.sl false 3 b))))] [] (fun r0 Hs0 => TV.Le r0 r ∧ Hs0 = Hs') (RPt Tryd.prog 18 0 r Hs') =
    ((FV.isSl 3 (.sl false 3 a) = true) ∧ ((FV.isSl 3 (.sl false 3 b) = true) ∧ (br (((((List.length a) : Nat) : Int) : Int) != (((List.length b) : Nat) : Int)) (TV.Le (.c (.a (.fz (.bool false)))) r ∧ [] = Hs') (RPt Tryd.prog 18 0 r Hs' 1 ⟨[(0, (.c (.a (.fz (.sl false 3 a))))), (1, (.c (.a (.fz (.sl false 3 b))))), (5, (.c (.a (.fz (.int .i64 (0 : Int))))))], [], 0⟩)))) := by kernel_rfl
theorem v18_1a (x0 : List (List FV)) (x1 : List (List FV)) (x5 : Int) (r : TV) (Hs' : List AObj) : vcP Tryd.prog sh lv18 18 0 (fun r0 Hs0 => TV.Le r0 r ∧ Hs0 = Hs') (RPt Tryd.prog 18 0 r Hs') 1 ⟨[(0, (.c (.a (.fz (.sl false 3 x0))))), (1, (.c (.a (.fz (.sl false 3 x1))))), (5, (.c (.a (.fz (.int .i64 x5)))))], [], 0⟩ =
    ((FV.isSl 3 (.sl false 3 x0) = true) ∧ (br (decide ((x5 : Int) < (((List.length x0) : Nat) : Int))) (((FV.isSl 3 (.sl false 3 x0) = true) ∧ ((0 ≤ x5) ∧ ((x5 < (((List.length x0) : Nat) : Int)) ∧ (([(.str (FV.asS (List.getD (List.getD x0 (Int.toNat x5) []) 0 FV.nils))), (.int .i64 (FV.asI (List.getD (List.getD x0 (Int.toNat x5) []) 1 FV.nils))), (.int .i64 (FV.asI (List.getD (List.getD x0 (Int.toNat x5) []) 2 FV.nils)))] : List FV) = (List.getD x0 (Int.toNat x5) []))))) ∧ (((FV.isSl 3 (.sl false 3 x1) = true) ∧ ((0 ≤ x5) ∧ ((x5 < (((List.length x1) : Nat) : Int)) ∧ (([(.str (FV.asS (List.getD (List.getD x1 (Int.toNat x5) []) 0 FV.nils))), (.int .i64 (FV.asI (List.getD (List.getD x1 (Int.toNat x5) []) 1 FV.nils))), (.int .i64 (FV.asI (List.getD (List.getD x1 (Int.toNat x5) []) 2 FV.nils)))] : List FV) = (List.getD x1 (Int.toNat x5) []))))) ∧ (br (!((((FV.asS (List.getD (List.getD x0 (Int.toNat x5) []) 0 FV.nils)) : List UInt8) == (FV.asS (List.getD (List.getD x1 (Int.toNat x5) []) 0 FV.nils))) && ((((FV.asI (List.getD (List.getD x0 (Int.toNat x5) []) 1 FV.nils)) : Int) == (FV.asI (List.getD (List.getD x1 (Int.toNat x5) []) 1 FV.nils))) && ((((FV.asI (List.getD (List.getD x0 (Int.toNat x5) []) 2 FV.nils)) : Int) == (FV.asI (List.getD (List.getD x1 (Int.toNat x5) []) 2 FV.nils))) && true)))) (TV.Le (.c (.a (.fz (.bool false)))) r ∧ [] = Hs') (RPt Tryd.prog 18 0 r Hs' 1 ⟨[(0, (.c (.a (.fz (.sl false 3 x0))))), (1, (.c (.a (.fz (.sl false 3 x1))))), (5, (.c (.a (.fz (.int .i64 (IntKind.wrap .i64 (x5 + (1 : Int))))))))], [], 0⟩)))) (TV.Le (.c (.a (.fz (.bool true)))) r ∧ [] = Hs'))) := by kernel_rfl
/-- lambent/ops.beside -/
def lv26 : List (Nat × List Nat) := []
theorem v26 (a_0 : List UInt8) (a_1 : Int) (a_2 : Int) (b_0 : List UInt8) (b_1 : Int) (b_2 : Int) (fix : Int) (r : TV) (Hs' : List AObj) : vcE Tryd.prog sh lv26 26 [(.agg [(.a (.fz (.str a_0))), (.a (.fz (.int .i64 a_1))), (.a (.fz (.int .i64 a_2)))]), (.agg [(.a (.fz (.str b_0))), (.a (.fz (.int .i64 b_1))), (.a (.fz (.int .i64 b_2)))]), (.c (.a (.fz (.int .i64 fix))))] [] (fun r0 Hs0 => TV.Le r0 r ∧ Hs0 = Hs') (RPt Tryd.prog 26 0 r Hs') =
    (br (decide ((b_1 : Int) > a_1)) (TV.Le (.c (.a (.fz (.bool true)))) r ∧ [] = Hs') (br ((b_1 : Int) == a_1) (br ((a_2 : Int) == fix) (TV.Le (.c (.a (.fz (.bool ((b_2 : Int) == fix))))) r ∧ [] = Hs') (TV.Le (.c (.a (.fz (.bool false)))) r ∧ [] = Hs')) (TV.Le (.c (.a (.fz (.bool false)))) r ∧ [] = Hs'))) := by kernel_rfl
/-- strconv.Itoa -/
def lv27 : List (Nat × List Nat) := []
theorem v27 (i : Int) (r : TV) (Hs' : List AObj) : vcE Tryd.prog sh lv27 27 [(.c (.a (.fz (.int .i64 i))))] [] (fun r0 Hs0 => TV.Le r0 r ∧ Hs0 = Hs') (RPt Tryd.prog 27 0 r Hs') =
    (∃ s1 : List UInt8, ((AC Tryd.prog 38 [(.c (.a (.fz (.int .i64 i))))] [] (.c (.a (.fz (.str s1)))) []) ∧ (TV.Le (.c (.a (.fz (.str s1)))) r ∧ [] = Hs'))) := by kernel_rfl
/-- lambent/lambentref01.Digits -/
def lv28 : List (Nat × List Nat) := [(1, [0, 3])]
theorem v28 (n : Int) (r : TV) (Hs' : List AObj) : vcE Tryd.prog sh lv28 28 [(.c (.a (.fz (.int .i64 n))))] [] (fun r0 Hs0 => TV.Le r0 r ∧ Hs0 = Hs') (RPt Tryd.prog 28 0 r Hs') =
    (RPt Tryd.prog 28 0 r Hs' 1 ⟨[(0, (.c (.a (.fz (.int .i64 n))))), (3, (.c (.a (.fz (.str [])))))], [], 0⟩) := by kernel_rfl
theorem v28_1a (x0 : Int) (x3 : List UInt8) (r : TV) (Hs' : List AObj) : vcP Tryd.prog sh lv28 28 0 (fun r0 Hs0 => TV.Le r0 r ∧ Hs0 = Hs') (RPt Tryd.prog 28 0 r Hs') 1 ⟨[(0, (.c (.a (.fz (.int .i64 x0))))), (3, (.c (.a (.fz (.str x3)))))], [], 0⟩ =
    (br (decide ((x0 : Int) > (0 : Int))) ((IntKind.i64 = IntKind.i64 ∧ (10 : Int) ≠ 0) ∧ ((((List.length ([(UInt8.ofNat (Int.toNat (IntKind.wrap .u8 (IntKind.wrap .i64 ((48 : Int) + (Int.tmod x0 (10 : Int)))))))] : List UInt8)) + (List.length x3)) ≤ 1000000000000) ∧ ((IntKind.i64 = IntKind.i64 ∧ (10 : Int) ≠ 0) ∧ (RPt Tryd.prog 28 0 r Hs' 1 ⟨[(0, (.c (.a (.fz (.int .i64 (IntKind.wrap .i64 (Int.tdiv x0 (10 : Int)))))))), (3, (.c (.a (.fz (.str (([(UInt8.ofNat (Int.toNat (IntKind.wrap .u8 (IntKind.wrap .i64 ((48 : Int) + (Int.tmod x0 (10 : Int)))))))] : List UInt8) ++ x3))))))], [], 0⟩)))) (br ((x3 : List UInt8) == []) ((IntKind.i64 = IntKind.i64 ∧ (10 : Int) ≠ 0) ∧ ((((List.length ([(UInt8.ofNat (Int.toNat (IntKind.wrap .u8 (IntKind.wrap .i64 ((48 : Int) + (Int.tmod x0 (10 : Int)))))))] : List UInt8)) + (List.length x3)) ≤ 1000000000000) ∧ ((IntKind.i64 = IntKind.i64 ∧ (10 : Int) ≠ 0) ∧ (RPt Tryd.prog 28 0 r Hs' 1 ⟨[(0, (.c (.a (.fz (.int .i64 (IntKind.wrap .i64 (Int.tdiv x0 (10 : Int)))))))), (3, (.c (.a (.fz (.str (([(UInt8.ofNat (Int.toNat (IntKind.wrap .u8 (IntKind.wrap .i64 ((48 : Int) + (Int.tmod x0 (10 : Int)))))))] : List UInt8) ++ x3))))))], [], 0⟩)))) (TV.Le (.c (.a (.fz (.str x3)))) r ∧ [] = Hs'))) := by kernel_rfl
/-- lambent/ops.row -/
def lv34 : List (Nat × List Nat) := [(1, [0, 1, 7, 10, 11, 12])]
theorem v34 (prec : Int) (fix : Int) (names : List (List FV)) (r : TV) (Hs' : List AObj) : vcE Tryd.prog sh lv34 34 [(.c (.a (.fz (.int .i64 prec)))), (.c (.a (.fz (.int .i64 fix)))), (.c (.a (.fz (.sl false 1 names))))] [] (fun r0 Hs0 => TV.Le r0 r ∧ Hs0 = Hs') (RPt Tryd.prog 34 0 r Hs') =
    ((FV.isSl 1 (.sl false 1 names) = true) ∧ (RPt Tryd.prog 34 0 r Hs' 1 ⟨[(0, (.c (.a (.fz (.int .i64 prec))))), (1, (.c (.a (.fz (.int .i64 fix))))), (7, (.c (.a (.fz .nils)))), (10, (.c (.a (.fz (.sl false 1 names))))), (11, (.c (.a (.fz (.int .i64 (((List.length names) : Nat) : Int)))))), (12, (.c (.a (.fz (.int .i64 (0 : Int))))))], [], 0⟩)) := by kernel_rfl
theorem v34_1a (x0 : Int) (x1 : Int) (x10 : List (List FV)) (x11 : Int) (x12 : Int) (r : TV) (Hs' : List AObj) : vcP Tryd.prog sh lv34 34 0 (fun r0 Hs0 => TV.Le r0 r ∧ Hs0 = Hs') (RPt Tryd.prog 34 0 r Hs') 1 ⟨[(0, (.c (.a (.fz (.int .i64 x0))))), (1, (.c (.a (.fz (.int .i64 x1))))), (7, (.c (.a (.fz .nils)))), (10, (.c (.a (.fz (.sl false 1 x10))))), (11, (.c (.a (.fz (.int .i64 x11))))), (12, (.c (.a (.fz (.int .i64 x12)))))], [], 0⟩ =
    (br (decide ((x12 : Int) < x11)) (((FV.isSl 1 (.sl false 1 x10) = true) ∧ ((0 ≤ x12) ∧ ((x12 < (((List.length x10) : Nat) : Int)) ∧ (([(.str (FV.asS (List.getD (List.getD x10 (Int.toNat x12) []) 0 FV.nils)))] : List FV) = (List.getD x10 (Int.toNat x12) []))))) ∧ ((1 ≤ 1) ∧ ((roomB 1 32) ∧ (RPt Tryd.prog 34 0 r Hs' 1 ⟨[(0, (.c (.a (.fz (.int .i64 x0))))), (1, (.c (.a (.fz (.int .i64 x1))))), (7, (.c (.a (.osl 0 3 0 1)))), (10, (.c (.a (.fz (.sl false 1 x10))))), (11, (.c (.a (.fz (.int .i64 x11))))), (12, (.c (.a (.fz (.int .i64 (IntKind.wrap .i64 (x12 + (1 : Int))))))))], [(0, (.arz 3 [[(.str (FV.asS (List.getD (List.getD x10 (Int.toNat x12) []) 0 FV.nils))), (.int .i64 x0), (.int .i64 x1)]]))], 1⟩)))) (TV.Le (.c (.a (.fz .nils))) r ∧ [] = Hs')) := by kernel_rfl
theorem v34_1b (x0 : Int) (x1 : Int) (x7l : Nat) (x10 : List (List FV)) (x11 : Int) (x12 : Int) (h0 : List (List FV)) (r : TV) (Hs' : List AObj) : vcP Tryd.prog sh lv34 34 0 (fun r0 Hs0 => TV.Le r0 r ∧ Hs0 = Hs') (RPt Tryd.prog 34 0 r Hs') 1 ⟨[(0, (.c (.a (.fz (.int .i64 x0))))), (1, (.c (.a (.fz (.int .i64 x1))))), (7, (.c (.a (.osl 0 3 0 x7l)))), (10, (.c (.a (.fz (.sl false 1 x10))))), (11, (.c (.a (.fz (.int .i64 x11))))), (12, (.c (.a (.fz (.int .i64 x12)))))], [(0, (.arz 3 h0))], 1⟩ =
    (br (decide ((x12 : Int) < x11)) (((FV.isSl 1 (.sl false 1 x10) = true) ∧ ((0 ≤ x12) ∧ ((x12 < (((List.length x10) : Nat) : Int)) ∧ (([(.str (FV.asS (List.getD (List.getD x10 (Int.toNat x12) []) 0 FV.nils)))] : List FV) = (List.getD x10 (Int.toNat x12) []))))) ∧ ((1 ≤ 1) ∧ ((x7l ≤ (List.length h0) ∧ roomB (x7l + 1) 32) ∧ (RPt Tryd.prog 34 0 r Hs' 1 ⟨[(0, (.c (.a (.fz (.int .i64 x0))))), (1, (.c (.a (.fz (.int .i64 x1))))), (7, (.c (.a (.osl 0 3 0 (x7l + 1))))), (10, (.c (.a (.fz (.sl false 1 x10))))), (11, (.c (.a (.fz (.int .i64 x11))))), (12, (.c (.a (.fz (.int .i64 (IntKind.wrap .i64 (x12 + (1 : Int))))))))], [(0, (.arz 3 ((List.take x7l h0) ++ [[(.str (FV.asS (List.getD (List.getD x10 (Int.toNat x12) []) 0 FV.nils))), (.int .i64 x0), (.int .i64 x1)]])))], 1⟩)))) (((3 : Nat) = 3 ∧ (0 + x7l) ≤ (List.length h0)) ∧ (TV.Le (.c (.a (.fz (.sl true 3 (List.take x7l (List.drop 0 h0)))))) r ∧ [] = Hs'))) := by kernel_rfl
/-- slices.Concat[[]lambent/api.Op,lambent/api.Op] -/
def lv33 : List (Nat × List Nat) := [(1, [0, 3, 9, 10, 11]), (5, [6, 25, 26, 27])]
theorem v33 (slices : List (List FV)) (r : TV) (Hs' : List AObj) : vcE Tryd.prog sh lv33 33 [(.c (.a (.fz (.sl false 1 slices))))] [] (fun r0 Hs0 => TV.Le r0 r ∧ Hs0 = Hs') (RPt Tryd.prog 33 0 r Hs') =
    ((FV.isSl 1 (.sl false 1 slices) = true) ∧ (RPt Tryd.prog 33 0 r Hs' 1 ⟨[(0, (.c (.a (.fz (.sl false 1 slices))))), (3, (.c (.a (.fz (.int .i64 (0 : Int)))))), (9, (.c (.a (.fz (.sl false 1 slices))))), (10, (.c (.a (.fz (.int .i64 (((List.length slices) : Nat) : Int)))))), (11, (.c (.a (.fz (.int .i64 (0 : Int))))))], [], 0⟩)) := by kernel_rfl
theorem v33_1a (x0 : List (List FV)) (x3 : Int) (x9 : List (List FV)) (x10 : Int) (x11 : Int) (r : TV) (Hs' : List AObj) : vcP Tryd.prog sh lv33 33 0 (fun r0 Hs0 => TV.Le r0 r ∧ Hs0 = Hs') (RPt Tryd.prog 33 0 r Hs') 1 ⟨[(0, (.c (.a (.fz (.sl false 1 x0))))), (3, (.c (.a (.fz (.int .i64 x3))))), (9, (.c (.a (.fz (.sl false 1 x9))))), (10, (.c (.a (.fz (.int .i64 x10))))), (11, (.c (.a (.fz (.int .i64 x11)))))], [], 0⟩ =
    (br (decide ((x11 : Int) < x10)) (((FV.isSl 1 (.sl false 1 x9) = true) ∧ ((0 ≤ x11) ∧ ((x11 < (((List.length x9) : Nat) : Int)) ∧ (([(List.getD (List.getD x9 (Int.toNat x11) []) 0 FV.nils)] : List FV) = (List.getD x9 (Int.toNat x11) []))))) ∧ ((FV.isSl 3 (List.getD (List.getD x9 (Int.toNat x11) []) 0 FV.nils) = true) ∧ (br (decide (((IntKind.wrap .i64 (x3 + (((List.length (FV.ses (List.getD (List.getD x9 (Int.toNat x11) []) 0 FV.nils))) : Nat) : Int))) : Int) < (0 : Int))) False (RPt Tryd.prog 33 0 r Hs' 1 ⟨[(0, (.c (.a (.fz (.sl false 1 x0))))), (3, (.c (.a (.fz (.int .i64 (IntKind.wrap .i64 (x3 + (((List.length (FV.ses (List.getD (List.getD x9 (Int.toNat x11) []) 0 FV.nils))) : Nat) : Int)))))))), (9, (.c (.a (.fz (.sl false 1 x9))))), (10, (.c (.a (.fz (.int .i64 x10))))), (11, (.c (.a (.fz (.int .i64 (IntKind.wrap .i64 (x11 + (1 : Int))))))))], [], 0⟩)))) ((∃ _ : Unit, ((AC Tryd.prog 42 [(.c (.a (.fz .nils))), (.c (.a (.fz (.int .i64 x3))))] [] (.c (.a (.fz .nils))) []) ∧ ((FV.isSl 1 (.sl false 1 x0) = true) ∧ (RPt Tryd.prog 33 0 r Hs' 5 ⟨[(6, (.c (.a (.fz .nils)))), (25, (.c (.a (.fz (.sl false 1 x0))))), (26, (.c (.a (.fz (.int .i64 (((List.length x0) : Nat) : Int)))))), (27, (.c (.a (.fz (.int .i64 (0 : Int))))))], [], 0⟩)))) ∨ (∃ _ : Unit, ((AC Tryd.prog 42 [(.c (.a (.fz .nils))), (.c (.a (.fz (.int .i64 x3))))] [] (.c (.a (.osl 0 3 0 0))) [(.arz 3 [])]) ∧ ((FV.isSl 1 (.sl false 1 x0) = true) ∧ (RPt Tryd.prog 33 0 r Hs' 5 ⟨[(6, (.c (.a (.osl 0 3 0 0)))), (25, (.c (.a (.fz (.sl false 1 x0))))), (26, (.c (.a (.fz (.int .i64 (((List.length x0) : Nat) : Int)))))), (27, (.c (.a (.fz (.int .i64 (0 : Int))))))], [(0, (.arz 3 []))], 1⟩)))))) := by kernel_rfl
theorem v33_5a (x25 : List (List FV)) (x26 : Int) (x27 : Int) (r : TV) (Hs' : List AObj) : vcP Tryd.prog sh lv33 33 0 (fun r0 Hs0 => TV.Le r0 r ∧ Hs0 = Hs') (RPt Tryd.prog 33 0 r Hs') 5 ⟨[(6, (.c (.a (.fz .nils)))), (25, (.c (.a (.fz (.sl false 1 x25))))), (26, (.c (.a (.fz (.int .i64 x26))))), (27, (.c (.a (.fz (.int .i64 x27)))))], [], 0⟩ =
    (br (decide ((x27 : Int) < x26)) (((FV.isSl 1 (.sl false 1 x25) = true) ∧ ((0 ≤ x27) ∧ ((x27 < (((List.length x25) : Nat) : Int)) ∧ (([(List.getD (List.getD x25 (Int.toNat x27) []) 0 FV.nils)] : List FV) = (List.getD x25 (Int.toNat x27) []))))) ∧ ((FV.isSl 3 (List.getD (List.getD x25 (Int.toNat x27) []) 0 FV.nils) = true) ∧ (br (List.isEmpty (FV.ses (List.getD (List.getD x25 (Int.toNat x27) []) 0 FV.nils))) (RPt Tryd.prog 33 0 r Hs' 5 ⟨[(6, (.c (.a (.fz .nils)))), (25, (.c (.a (.fz (.sl false 1 x25))))), (26, (.c (.a (.fz (.int .i64 x26))))), (27, (.c (.a (.fz (.int .i64 (IntKind.wrap .i64 (x27 + (1 : Int))))))))], [], 0⟩) ((roomB (List.length (FV.ses (List.getD (List.getD x25 (Int.toNat x27) []) 0 FV.nils))) 32) ∧ (RPt Tryd.prog 33 0 r Hs' 5 ⟨[(6, (.c (.a (.osl 0 3 0 (List.length (FV.ses (List.getD (List.getD x25 (Int.toNat x27) []) 0 FV.nils))))))), (25, (.c (.a (.fz (.sl false 1 x25))))), (26, (.c (.a (.fz (.int .i64 x26))))), (27, (.c (.a (.fz (.int .i64 (IntKind.wrap .i64 (x27 + (1 : Int))))))))], [(0, (.arz 3 (FV.ses (List.getD (List.getD x25 (Int.toNat x27) []) 0 FV.nils))))], 1⟩))))) (TV.Le (.c (.a (.fz .nils))) r ∧ [] = Hs')) := by kernel_rfl
theorem v33_5b (x6l : Nat) (x25 : List (List FV)) (x26 : Int) (x27 : Int) (h0 : List (List FV)) (r : TV) (Hs' : List AObj) : vcP Tryd.prog sh lv33 33 0 (fun r0 Hs0 => TV.Le r0 r ∧ Hs0 = Hs') (RPt Tryd.prog 33 0 r Hs') 5 ⟨[(6, (.c (.a (.osl 0 3 0 x6l)))), (25, (.c (.a (.fz (.sl false 1 x25))))), (26, (.c (.a (.fz (.int .i64 x26))))), (27, (.c (.a (.fz (.int .i64 x27)))))], [(0, (.arz 3 h0))], 1⟩ =
    (br (decide ((x27 : Int) < x26)) (((FV.isSl 1 (.sl false 1 x25) = true) ∧ ((0 ≤ x27) ∧ ((x27 < (((List.length x25) : Nat) : Int)) ∧ (([(List.getD (List.getD x25 (Int.toNat x27) []) 0 FV.nils)] : List FV) = (List.getD x25 (Int.toNat x27) []))))) ∧ ((FV.isSl 3 (List.getD (List.getD x25 (Int.toNat x27) []) 0 FV.nils) = true) ∧ ((x6l ≤ (List.length h0) ∧ roomB (x6l + (List.length (FV.ses (List.getD (List.getD x25 (Int.toNat x27) []) 0 FV.nils)))) 32) ∧ (RPt Tryd.prog 33 0 r Hs' 5 ⟨[(6, (.c (.a (.osl 0 3 0 (x6l + (List.length (FV.ses (List.getD (List.getD x25 (Int.toNat x27) []) 0 FV.nils)))))))), (25, (.c (.a (.fz (.sl false 1 x25))))), (26, (.c (.a (.fz (.int .i64 x26))))), (27, (.c (.a (.fz (.int .i64 (IntKind.wrap .i64 (x27 + (1 : Int))))))))], [(0, (.arz 3 ((List.take x6l h0) ++ (FV.ses (List.getD (List.getD x25 (Int.toNat x27) []) 0 FV.nils)))))], 1⟩)))) (((3 : Nat) = 3 ∧ (0 + x6l) ≤ (List.length h0)) ∧ (TV.Le (.c (.a (.fz (.sl true 3 (List.take x6l (List.drop 0 h0)))))) r ∧ [] = Hs'))) := by kernel_rfl
/-- slices.IndexFunc[[]lambent/api.Op,lambent/api.Op] -/
def lv31 : List (Nat × List Nat) := [(1, [0, 1, 7, 8])]
theorem v31 (s : List (List FV)) (o0_0 : List UInt8) (r : TV) (Hs' : List AObj) : vcE Tryd.prog sh lv31 31 [(.c (.a (.fz (.sl false 3 s)))), (.c (.fn (.func 32) [] [(false, [(.ep 0 1 0 0)])]))] [(.arr 1 [[(.a (.fz (.str o0_0)))]])] (fun r0 Hs0 => TV.Le r0 r ∧ Hs0 = Hs') (RPt Tryd.prog 31 1 r Hs') =
    ((FV.isSl 3 (.sl false 3 s) = true) ∧ (RPt Tryd.prog 31 1 r Hs' 1 ⟨[(0, (.c (.a (.fz (.sl false 3 s))))), (1, (.c (.fn (.func 32) [] [(false, [(.ep 0 1 0 0)])]))), (7, (.c (.a (.fz (.int .i64 (((List.length s) : Nat) : Int)))))), (8, (.c (.a (.fz (.int .i64 (0 : Int))))))], [(0, (.arr 1 [[(.a (.fz (.str o0_0)))]]))], 1⟩)) := by kernel_rfl
theorem v31_1a (x0 : List (List FV)) (x7 : Int) (x8 : Int) (h0_0 : List UInt8) (r : TV) (Hs' : List AObj) : vcP Tryd.prog sh lv31 31 1 (fun r0 Hs0 => TV.Le r0 r ∧ Hs0 = Hs') (RPt Tryd.prog 31 1 r Hs') 1 ⟨[(0, (.c (.a (.fz (.sl false 3 x0))))), (1, (.c (.fn (.func 32) [] [(false, [(.ep 0 1 0 0)])]))), (7, (.c (.a (.fz (.int .i64 x7))))), (8, (.c (.a (.fz (.int .i64 x8)))))], [(0, (.arr 1 [[(.a (.fz (.str h0_0)))]]))], 1⟩ =
    (br (decide ((x8 : Int) < x7)) (((FV.isSl 3 (.sl false 3 x0) = true) ∧ ((0 ≤ x8) ∧ ((x8 < (((List.length x0) : Nat) : Int)) ∧ (([(.str (FV.asS (List.getD (List.getD x0 (Int.toNat x8) []) 0 FV.nils))), (.int .i64 (FV.asI (List.getD (List.getD x0 (Int.toNat x8) []) 1 FV.nils))), (.int .i64 (FV.asI (List.getD (List.getD x0 (Int.toNat x8) []) 2 FV.nils)))] : List FV) = (List.getD x0 (Int.toNat x8) []))))) ∧ (∃ b1 : Bool, ((AC Tryd.prog 32 [(.agg [(.a (.fz (.str (FV.asS (List.getD (List.getD x0 (Int.toNat x8) []) 0 FV.nils))))), (.a (.fz (.int .i64 (FV.asI (List.getD (List.getD x0 (Int.toNat x8) []) 1 FV.nils))))), (.a (.fz (.int .i64 (FV.asI (List.getD (List.getD x0 (Int.toNat x8) []) 2 FV.nils)))))]), (.c (.a (.ep 0 1 0 0)))] [(.arr 1 [[(.a (.fz (.str h0_0)))]])] (.c (.a (.fz (.bool b1)))) [(.arr 1 [[(.a (.fz (.str h0_0)))]])]) ∧ (br b1 (TV.Le (.c (.a (.fz (.int .i64 x8)))) r ∧ [(.arr 1 [[(.a (.fz (.str h0_0)))]])] = Hs') (RPt Tryd.prog 31 1 r Hs' 1 ⟨[(0, (.c (.a (.fz (.sl false 3 x0))))), (1, (.c (.fn (.func 32) [] [(false, [(.ep 0 1 0 0)])]))), (7, (.c (.a (.fz (.int .i64 x7))))), (8, (.c (.a (.fz (.int .i64 (IntKind.wrap .i64 (x8 + (1 : Int))))))))], [(0, (.arr 1 [[(.a (.fz (.str h0_0)))]]))], 1⟩))))) (TV.Le (.c (.a (.fz (.int .i64 (-1 : Int))))) r ∧ [(.arr 1 [[(.a (.fz (.str h0_0)))]])] = Hs')) := by kernel_rfl
/-- lambent/lambentref02.one -/
def lv37 : List (Nat × List Nat) := []
theorem v37 (name : List UInt8) (prec : Int) (fix : Int) (r : TV) (Hs' : List AObj) : vcE Tryd.prog sh lv37 37 [(.c (.a (.fz (.str name)))), (.c (.a (.fz (.int .i64 prec)))), (.c (.a (.fz (.int .i64 fix))))] [] (fun r0 Hs0 => TV.Le r0 r ∧ Hs0 = Hs') (RPt Tryd.prog 37 0 r Hs') =
    (TV.Le (.agg [(.a (.fz (.str name))), (.a (.fz (.int .i64 prec))), (.a (.fz (.int .i64 fix)))]) r ∧ [] = Hs') := by kernel_rfl
/-- internal/strconv.Itoa -/
def lv38 : List (Nat × List Nat) := []
theorem v38 (i : Int) (r : TV) (Hs' : List AObj) : vcE Tryd.prog sh lv38 38 [(.c (.a (.fz (.int .i64 i))))] [] (fun r0 Hs0 => TV.Le r0 r ∧ Hs0 = Hs') (RPt Tryd.prog 38 0 r Hs') =
    (∃ s1 : List UInt8, ((AC Tryd.prog 46 [(.c (.a (.fz (.int .i64 i)))), (.c (.a (.fz (.int .i64 (10 : Int)))))] [] (.c (.a (.fz (.str s1)))) []) ∧ (TV.Le (.c (.a (.fz (.str s1)))) r ∧ [] = Hs'))) := by kernel_rfl
/-- slices.Grow[[]lambent/api.Op,lambent/api.Op] -/
def lv42 : List (Nat × List Nat) := []
theorem v42 (n : Int) (r : TV) (Hs' : List AObj) : vcE Tryd.prog sh lv42 42 [(.c (.a (.fz .nils))), (.c (.a (.fz (.int .i64 n))))] [] (fun r0 Hs0 => TV.Le r0 r ∧ Hs0 = Hs') (RPt Tryd.prog 42 0 r Hs') =
    (br (decide ((n : Int) < (0 : Int))) False ((FV.isSl 3 .nils = true) ∧ (br (decide (((IntKind.wrap .i64 (n - (0 : Int))) : Int) > (0 : Int))) ((FV.isSl 3 .nils = true) ∧ (((0 ≤ (0 : Int)) ∧ (((0 : Int) ≤ (0 : Int)) ∧ ((0 : Int) ≤ ((0 : Nat) : Int)))) ∧ ((0 < (IntKind.wrap .i64 (n - (0 : Int))) ∧ roomB (Int.toNat (IntKind.wrap .i64 (n - (0 : Int)))) 32) ∧ ((FV.isSl 3 .nils = true) ∧ (((0 ≤ (0 : Int)) ∧ (((0 : Int) ≤ (0 : Int)) ∧ ((0 : Int) ≤ (((Int.toNat (IntKind.wrap .i64 (n - (0 : Int)))) : Nat) : Int)))) ∧ (TV.Le (.c (.a (.osl 0 3 0 0))) r ∧ [(.arz 3 [])] = Hs')))))) (TV.Le (.c (.a (.fz .nils))) r ∧ [] = Hs')))) := by kernel_rfl
/-- lambent/ops.Find$1 -/
def lv32 : List (Nat × List Nat) := []
theorem v32 (o_0 : List UInt8) (o_1 : Int) (o_2 : Int) (o0_0 : List UInt8) (r : TV) (Hs' : List AObj) : vcE Tryd.prog sh lv32 32 [(.agg [(.a (.fz (.str o_0))), (.a (.fz (.int .i64 o_1))), (.a (.fz (.int .i64 o_2)))]), (.c (.a (.ep 0 1 0 0)))] [(.arr 1 [[(.a (.fz (.str o0_0)))]])] (fun r0 Hs0 => TV.Le r0 r ∧ Hs0 = Hs') (RPt Tryd.prog 32 1 r Hs') =
    (TV.Le (.c (.a (.fz (.bool ((o_0 : List UInt8) == o0_0))))) r ∧ [(.arr 1 [[(.a (.fz (.str o0_0)))]])] = Hs') := by kernel_rfl
/-- lambent/lambentlaw02.OpsSides -/
def lv4 : List (Nat × List Nat) := []
theorem v4 (a_0 : List UInt8) (a_1 : Int) (a_2 : Int) (b_0 : List UInt8) (b_1 : Int) (b_2 : Int) (r : TV) (Hs' : List AObj) : vcE Tryd.prog sh lv4 4 [(.agg [(.a (.fz (.str a_0))), (.a (.fz (.int .i64 a_1))), (.a (.fz (.int .i64 a_2)))]), (.agg [(.a (.fz (.str b_0))), (.a (.fz (.int .i64 b_1))), (.a (.fz (.int .i64 b_2)))])] [] (fun r0 Hs0 => TV.Le r0 r ∧ Hs0 = Hs') (RPt Tryd.prog 4 0 r Hs') =
    (∃ b1 : Bool, ((AC Tryd.prog 9 [] [] (.c (.a (.fz (.bool b1)))) []) ∧ (br (!b1) (TV.Le (.c (.a (.fz (.bool false)))) r ∧ [] = Hs') (∃ b2 : Bool, ((AC Tryd.prog 10 [(.agg [(.a (.fz (.str b_0))), (.a (.fz (.int .i64 b_1))), (.a (.fz (.int .i64 b_2)))]), (.agg [(.a (.fz (.str a_0))), (.a (.fz (.int .i64 a_1))), (.a (.fz (.int .i64 a_2)))])] [] (.c (.a (.fz (.bool b2)))) []) ∧ (br b2 (∃ b3 : Bool, ((AC Tryd.prog 12 [(.agg [(.a (.fz (.str a_0))), (.a (.fz (.int .i64 a_1))), (.a (.fz (.int .i64 a_2)))]), (.agg [(.a (.fz (.str b_0))), (.a (.fz (.int .i64 b_1))), (.a (.fz (.int .i64 b_2)))])] [] (.c (.a (.fz (.bool b3)))) []) ∧ (br (decide ((a_1 : Int) ≤ b_1)) (br ((a_1 : Int) != b_1) (br b1 (br (!b3) (TV.Le (.c (.a (.fz (.bool true)))) r ∧ [] = Hs') (TV.Le (.c (.a (.fz (.bool false)))) r ∧ [] = Hs')) (TV.Le (.c (.a (.fz (.bool false)))) r ∧ [] = Hs')) (br ((a_2 : Int) == b_2) (br b1 (br (!b3) (TV.Le (.c (.a (.fz (.bool true)))) r ∧ [] = Hs') (TV.Le (.c (.a (.fz (.bool false)))) r ∧ [] = Hs')) (TV.Le (.c (.a (.fz (.bool false)))) r ∧ [] = Hs')) (∃ b4 : Bool, ((AC Tryd.prog 10 [(.agg [(.a (.fz (.str a_0))), (.a (.fz (.int .i64 a_1))), (.a (.fz (.int .i64 a_2)))]), (.agg [(.a (.fz (.str b_0))), (.a (.fz (.int .i64 b_1))), (.a (.fz (.int .i64 b_2)))])] [] (.c (.a (.fz (.bool b4)))) []) ∧ (br (!b4) (∃ b5 : Bool, ((AC Tryd.prog 12 [(.agg [(.a (.fz (.str a_0))), (.a (.fz (.int .i64 a_1))), (.a (.fz (.int .i64 a_2)))]), (.agg [(.a (.fz (.str b_0))), (.a (.fz (.int .i64 b_1))), (.a (.fz (.int .i64 b_2)))])] [] (.c (.a (.fz (.bool b5)))) []) ∧ (br b1 (br (!b3) (TV.Le (.c (.a (.fz (.bool (!b5))))) r ∧ [] = Hs') (TV.Le (.c (.a (.fz (.bool false)))) r ∧ [] = Hs')) (TV.Le (.c (.a (.fz (.bool false)))) r ∧ [] = Hs')))) (br b1 (br (!b3) (TV.Le (.c (.a (.fz (.bool false)))) r ∧ [] = Hs') (TV.Le (.c (.a (.fz (.bool false)))) r ∧ [] = Hs')) (TV.Le (.c (.a (.fz (.bool false)))) r ∧ [] = Hs'))))))) (∃ b6 : Bool, ((AC Tryd.prog 10 [(.agg [(.a (.fz (.str b_0))), (.a (.fz (.int .i64 b_1))), (.a (.fz (.int .i64 b_2)))]), (.agg [(.a (.fz (.str a_0))), (.a (.fz (.int .i64 a_1))), (.a (.fz (.int .i64 a_2)))])] [] (.c (.a (.fz (.bool b6)))) []) ∧ (br b6 (∃ b7 : Bool, ((AC Tryd.prog 12 [(.agg [(.a (.fz (.str b_0))), (.a (.fz (.int .i64 b_1))), (.a (.fz (.int .i64 b_2)))]), (.agg [(.a (.fz (.str a_0))), (.a (.fz (.int .i64 a_1))), (.a (.fz (.int .i64 a_2)))])] [] (.c (.a (.fz (.bool b7)))) []) ∧ (br b7 (∃ b8 : Bool, ((AC Tryd.prog 10 [(.agg [(.a (.fz (.str a_0))), (.a (.fz (.int .i64 a_1))), (.a (.fz (.int .i64 a_2)))]), (.agg [(.a (.fz (.str b_0))), (.a (.fz (.int .i64 b_1))), (.a (.fz (.int .i64 b_2)))])] [] (.c (.a (.fz (.bool b8)))) []) ∧ (br (!b8) (∃ b9 : Bool, ((AC Tryd.prog 12 [(.agg [(.a (.fz (.str a_0))), (.a (.fz (.int .i64 a_1))), (.a (.fz (.int .i64 a_2)))]), (.agg [(.a (.fz (.str b_0))), (.a (.fz (.int .i64 b_1))), (.a (.fz (.int .i64 b_2)))])] [] (.c (.a (.fz (.bool b9)))) []) ∧ (br ((a_1 : Int) != b_1) (br b1 (br (!b3) (br (!b9) (TV.Le (.c (.a (.fz (.bool true)))) r ∧ [] = Hs') (TV.Le (.c (.a (.fz (.bool false)))) r ∧ [] = Hs')) (TV.Le (.c (.a (.fz (.bool false)))) r ∧ [] = Hs')) (TV.Le (.c (.a (.fz (.bool false)))) r ∧ [] = Hs')) (br ((a_2 : Int) == b_2) (br b1 (br (!b3) (br (!b9) (TV.Le (.c (.a (.fz (.bool true)))) r ∧ [] = Hs') (TV.Le (.c (.a (.fz (.bool false)))) r ∧ [] = Hs')) (TV.Le (.c (.a (.fz (.bool false)))) r ∧ [] = Hs')) (TV.Le (.c (.a (.fz (.bool false)))) r ∧ [] = Hs')) (∃ b10 : Bool, ((AC Tryd.prog 10 [(.agg [(.a (.fz (.str a_0))), (.a (.fz (.int .i64 a_1))), (.a (.fz (.int .i64 a_2)))]), (.agg [(.a (.fz (.str b_0))), (.a (.fz (.int .i64 b_1))), (.a (.fz (.int .i64 b_2)))])] [] (.c (.a (.fz (.bool b10)))) []) ∧ (br (!b10) (∃ b11 : Bool, ((AC Tryd.prog 12 [(.agg [(.a (.fz (.str a_0))), (.a (.fz (.int .i64 a_1))), (.a (.fz (.int .i64 a_2)))]), (.agg [(.a (.fz (.str b_0))), (.a (.fz (.int .i64 b_1))), (.a (.fz (.int .i64 b_2)))])] [] (.c (.a (.fz (.bool b11)))) []) ∧ (br b1 (br (!b3) (br (!b9) (TV.Le (.c (.a (.fz (.bool (!b11))))) r ∧ [] = Hs') (TV.Le (.c (.a (.fz (.bool false)))) r ∧ [] = Hs')) (TV.Le (.c (.a (.fz (.bool false)))) r ∧ [] = Hs')) (TV.Le (.c (.a (.fz (.bool false)))) r ∧ [] = Hs')))) (br b1 (br (!b3) (br (!b9) (TV.Le (.c (.a (.fz (.bool false)))) r ∧ [] = Hs') (TV.Le (.c (.a (.fz (.bool false)))) r ∧ [] = Hs')) (TV.Le (.c (.a (.fz (.bool false)))) r ∧ [] = Hs')) (TV.Le (.c (.a (.fz (.bool false)))) r ∧ [] = Hs'))))))))) (br ((a_1 : Int) != b_1) (br b1 (br (!b3) (TV.Le (.c (.a (.fz (.bool false)))) r ∧ [] = Hs') (TV.Le (.c (.a (.fz (.bool false)))) r ∧ [] = Hs')) (TV.Le (.c (.a (.fz (.bool false)))) r ∧ [] = Hs')) (br ((a_2 : Int) == b_2) (br b1 (br (!b3) (TV.Le (.c (.a (.fz (.bool false)))) r ∧ [] = Hs') (TV.Le (.c (.a (.fz (.bool false)))) r ∧ [] = Hs')) (TV.Le (.c (.a (.fz (.bool false)))) r ∧ [] = Hs')) (∃ b12 : Bool, ((AC Tryd.prog 10 [(.agg [(.a (.fz (.str a_0))), (.a (.fz (.int .i64 a_1))), (.a (.fz (.int .i64 a_2)))]), (.agg [(.a (.fz (.str b_0))), (.a (.fz (.int .i64 b_1))), (.a (.fz (.int .i64 b_2)))])] [] (.c (.a (.fz (.bool b12)))) []) ∧ (br (!b12) (∃ b13 : Bool, ((AC Tryd.prog 12 [(.agg [(.a (.fz (.str a_0))), (.a (.fz (.int .i64 a_1))), (.a (.fz (.int .i64 a_2)))]), (.agg [(.a (.fz (.str b_0))), (.a (.fz (.int .i64 b_1))), (.a (.fz (.int .i64 b_2)))])] [] (.c (.a (.fz (.bool b13)))) []) ∧ (br b1 (br (!b3) (TV.Le (.c (.a (.fz (.bool false)))) r ∧ [] = Hs') (TV.Le (.c (.a (.fz (.bool false)))) r ∧ [] = Hs')) (TV.Le (.c (.a (.fz (.bool false)))) r ∧ [] = Hs')))) (br b1 (br (!b3) (TV.Le (.c (.a (.fz (.bool false)))) r ∧ [] = Hs') (TV.Le (.c (.a (.fz (.bool false)))) r ∧ [] = Hs')) (TV.Le (.c (.a (.fz (.bool false)))) r ∧ [] = Hs')))))))))) (br ((a_1 : Int) != b_1) (br b1 (br (!b3) (TV.Le (.c (.a (.fz (.bool false)))) r ∧ [] = Hs') (TV.Le (.c (.a (.fz (.bool false)))) r ∧ [] = Hs')) (TV.Le (.c (.a (.fz (.bool false)))) r ∧ [] = Hs')) (br ((a_2 : Int) == b_2) (br b1 (br (!b3) (TV.Le (.c (.a (.fz (.bool false)))) r ∧ [] = Hs') (TV.Le (.c (.a (.fz (.bool false)))) r ∧ [] = Hs')) (TV.Le (.c (.a (.fz (.bool false)))) r ∧ [] = Hs')) (∃ b14 : Bool, ((AC Tryd.prog 10 [(.agg [(.a (.fz (.str a_0))), (.a (.fz (.int .i64 a_1))), (.a (.fz (.int .i64 a_2)))]), (.agg [(.a (.fz (.str b_0))), (.a (.fz (.int .i64 b_1))), (.a (.fz (.int .i64 b_2)))])] [] (.c (.a (.fz (.bool b14)))) []) ∧ (br (!b14) (∃ b15 : Bool, ((AC Tryd.prog 12 [(.agg [(.a (.fz (.str a_0))), (.a (.fz (.int .i64 a_1))), (.a (.fz (.int .i64 a_2)))]), (.agg [(.a (.fz (.str b_0))), (.a (.fz (.int .i64 b_1))), (.a (.fz (.int .i64 b_2)))])] [] (.c (.a (.fz (.bool b15)))) []) ∧ (br b1 (br (!b3) (TV.Le (.c (.a (.fz (.bool false)))) r ∧ [] = Hs') (TV.Le (.c (.a (.fz (.bool false)))) r ∧ [] = Hs')) (TV.Le (.c (.a (.fz (.bool false)))) r ∧ [] = Hs')))) (br b1 (br (!b3) (TV.Le (.c (.a (.fz (.bool false)))) r ∧ [] = Hs') (TV.Le (.c (.a (.fz (.bool false)))) r ∧ [] = Hs')) (TV.Le (.c (.a (.fz (.bool false)))) r ∧ [] = Hs')))))))))) (br ((a_1 : Int) != b_1) (br b1 (br (!b3) (TV.Le (.c (.a (.fz (.bool false)))) r ∧ [] = Hs') (TV.Le (.c (.a (.fz (.bool false)))) r ∧ [] = Hs')) (TV.Le (.c (.a (.fz (.bool false)))) r ∧ [] = Hs')) (br ((a_2 : Int) == b_2) (br b1 (br (!b3) (TV.Le (.c (.a (.fz (.bool false)))) r ∧ [] = Hs') (TV.Le (.c (.a (.fz (.bool false)))) r ∧ [] = Hs')) (TV.Le (.c (.a (.fz (.bool false)))) r ∧ [] = Hs')) (∃ b16 : Bool, ((AC Tryd.prog 10 [(.agg [(.a (.fz (.str a_0))), (.a (.fz (.int .i64 a_1))), (.a (.fz (.int .i64 a_2)))]), (.agg [(.a (.fz (.str b_0))), (.a (.fz (.int .i64 b_1))), (.a (.fz (.int .i64 b_2)))])] [] (.c (.a (.fz (.bool b16)))) []) ∧ (br (!b16) (∃ b17 : Bool, ((AC Tryd.prog 12 [(.agg [(.a (.fz (.str a_0))), (.a (.fz (.int .i64 a_1))), (.a (.fz (.int .i64 a_2)))]), (.agg [(.a (.fz (.str b_0))), (.a (.fz (.int .i64 b_1))), (.a (.fz (.int .i64 b_2)))])] [] (.c (.a (.fz (.bool b17)))) []) ∧ (br b1 (br (!b3) (TV.Le (.c (.a (.fz (.bool false)))) r ∧ [] = Hs') (TV.Le (.c (.a (.fz (.bool false)))) r ∧ [] = Hs')) (TV.Le (.c (.a (.fz (.bool false)))) r ∧ [] = Hs')))) (br b1 (br (!b3) (TV.Le (.c (.a (.fz (.bool false)))) r ∧ [] = Hs') (TV.Le (.c (.a (.fz (.bool false)))) r ∧ [] = Hs')) (TV.Le (.c (.a (.fz (.bool false)))) r ∧ [] = Hs'))))))))))))) (br (decide ((a_1 : Int) ≤ b_1)) (br ((a_1 : Int) != b_1) (br b1 (TV.Le (.c (.a (.fz (.bool true)))) r ∧ [] = Hs') (TV.Le (.c (.a (.fz (.bool false)))) r ∧ [] = Hs')) (br ((a_2 : Int) == b_2) (br b1 (TV.Le (.c (.a (.fz (.bool true)))) r ∧ [] = Hs') (TV.Le (.c (.a (.fz (.bool false)))) r ∧ [] = Hs')) (∃ b18 : Bool, ((AC Tryd.prog 10 [(.agg [(.a (.fz (.str a_0))), (.a (.fz (.int .i64 a_1))), (.a (.fz (.int .i64 a_2)))]), (.agg [(.a (.fz (.str b_0))), (.a (.fz (.int .i64 b_1))), (.a (.fz (.int .i64 b_2)))])] [] (.c (.a (.fz (.bool b18)))) []) ∧ (br (!b18) (∃ b19 : Bool, ((AC Tryd.prog 12 [(.agg [(.a (.fz (.str a_0))), (.a (.fz (.int .i64 a_1))), (.a (.fz (.int .i64 a_2)))]), (.agg [(.a (.fz (.str b_0))), (.a (.fz (.int .i64 b_1))), (.a (.fz (.int .i64 b_2)))])] [] (.c (.a (.fz (.bool b19)))) []) ∧ (br b1 (TV.Le (.c (.a (.fz (.bool (!b19))))) r ∧ [] = Hs') (TV.Le (.c (.a (.fz (.bool false)))) r ∧ [] = Hs')))) (br b1 (TV.Le (.c (.a (.fz (.bool false)))) r ∧ [] = Hs') (TV.Le (.c (.a (.fz (.bool false)))) r ∧ [] = Hs'))))))) (∃ b20 : Bool, ((AC Tryd.prog 10 [(.agg [(.a (.fz (.str b_0))), (.a (.fz (.int .i64 b_1))), (.a (.fz (.int .i64 b_2)))]), (.agg [(.a (.fz (.str a_0))), (.a (.fz (.int .i64 a_1))), (.a (.fz (.int .i64 a_2)))])] [] (.c (.a (.fz (.bool b20)))) []) ∧ (br b20 (∃ b21 : Bool, ((AC Tryd.prog 12 [(.agg [(.a (.fz (.str b_0))), (.a (.fz (.int .i64 b_1))), (.a (.fz (.int .i64 b_2)))]), (.agg [(.a (.fz (.str a_0))), (.a (.fz (.int .i64 a_1))), (.a (.fz (.int .i64 a_2)))])] [] (.c (.a (.fz (.bool b21)))) []) ∧ (br b21 (∃ b22 : Bool, ((AC Tryd.prog 10 [(.agg [(.a (.fz (.str a_0))), (.a (.fz (.int .i64 a_1))), (.a (.fz (.int .i64 a_2)))]), (.agg [(.a (.fz (.str b_0))), (.a (.fz (.int .i64 b_1))), (.a (.fz (.int .i64 b_2)))])] [] (.c (.a (.fz (.bool b22)))) []) ∧ (br (!b22) (∃ b23 : Bool, ((AC Tryd.prog 12 [(.agg [(.a (.fz (.str a_0))), (.a (.fz (.int .i64 a_1))), (.a (.fz (.int .i64 a_2)))]), (.agg [(.a (.fz (.str b_0))), (.a (.fz (.int .i64 b_1))), (.a (.fz (.int .i64 b_2)))])] [] (.c (.a (.fz (.bool b23)))) []) ∧ (br ((a_1 : Int) != b_1) (br b1 (br (!b23) (TV.Le (.c (.a (.fz (.bool true)))) r ∧ [] = Hs') (TV.Le (.c (.a (.fz (.bool false)))) r ∧ [] = Hs')) (TV.Le (.c (.a (.fz (.bool false)))) r ∧ [] = Hs')) (br ((a_2 : Int) == b_2) (br b1 (br (!b23) (TV.Le (.c (.a (.fz (.bool true)))) r ∧ [] = Hs') (TV.Le (.c (.a (.fz (.bool false)))) r ∧ [] = Hs')) (TV.Le (.c (.a (.fz (.bool false)))) r ∧ [] = Hs')) (∃ b24 : Bool, ((AC Tryd.prog 10 [(.agg [(.a (.fz (.str a_0))), (.a (.fz (.int .i64 a_1))), (.a (.fz (.int .i64 a_2)))]), (.agg [(.a (.fz (.str b_0))), (.a (.fz (.int .i64 b_1))), (.a (.fz (.int .i64 b_2)))])] [] (.c (.a (.fz (.bool b24)))) []) ∧ (br (!b24) (∃ b25 : Bool, ((AC Tryd.prog 12 [(.agg [(.a (.fz (.str a_0))), (.a (.fz (.int .i64 a_1))), (.a (.fz (.int .i64 a_2)))]), (.agg [(.a (.fz (.str b_0))), (.a (.fz (.int .i64 b_1))), (.a (.fz (.int .i64 b_2)))])] [] (.c (.a (.fz (.bool b25)))) []) ∧ (br b1 (br (!b23) (TV.Le (.c (.a (.fz (.bool (!b25))))) r ∧ [] = Hs') (TV.Le (.c (.a (.fz (.bool false)))) r ∧ [] = Hs')) (TV.Le (.c (.a (.fz (.bool false)))) r ∧ [] = Hs')))) (br b1 (br (!b23) (TV.Le (.c (.a (.fz (.bool false)))) r ∧ [] = Hs') (TV.Le (.c (.a (.fz (.bool false)))) r ∧ [] = Hs')) (TV.Le (.c (.a (.fz (.bool false)))) r ∧ [] = Hs'))))))))) (br ((a_1 : Int) != b_1) (br b1 (TV.Le (.c (.a (.fz (.bool false)))) r ∧ [] = Hs') (TV.Le (.c (.a (.fz (.bool false)))) r ∧ [] = Hs')) (br ((a_2 : Int) == b_2) (br b1 (TV.Le (.c (.a (.fz (.bool false)))) r ∧ [] = Hs') (TV.Le (.c (.a (.fz (.bool false)))) r ∧ [] = Hs')) (∃ b26 : Bool, ((AC Tryd.prog 10 [(.agg [(.a (.fz (.str a_0))), (.a (.fz (.int .i64 a_1))), (.a (.fz (.int .i64 a_2)))]), (.agg [(.a (.fz (.str b_0))), (.a (.fz (.int .i64 b_1))), (.a (.fz (.int .i64 b_2)))])] [] (.c (.a (.fz (.bool b26)))) []) ∧ (br (!b26) (∃ b27 : Bool, ((AC Tryd.prog 12 [(.agg [(.a (.fz (.str a_0))), (.a (.fz (.int .i64 a_1))), (.a (.fz (.int .i64 a_2)))]), (.agg [(.a (.fz (.str b_0))), (.a (.fz (.int .i64 b_1))), (.a (.fz (.int .i64 b_2)))])] [] (.c (.a (.fz (.bool b27)))) []) ∧ (br b1 (TV.Le (.c (.a (.fz (.bool false)))) r ∧ [] = Hs') (TV.Le (.c (.a (.fz (.bool false)))) r ∧ [] = Hs')))) (br b1 (TV.Le (.c (.a (.fz (.bool false)))) r ∧ [] = Hs') (TV.Le (.c (.a (.fz (.bool false)))) r ∧ [] = Hs')))))))))) (br ((a_1 : Int) != b_1) (br b1 (TV.Le (.c (.a (.fz (.bool false)))) r ∧ [] = Hs') (TV.Le (.c (.a (.fz (.bool false)))) r ∧ [] = Hs')) (br ((a_2 : Int) == b_2) (br b1 (TV.Le (.c (.a (.fz (.bool false)))) r ∧ [] = Hs') (TV.Le (.c (.a (.fz (.bool false)))) r ∧ [] = Hs')) (∃ b28 : Bool, ((AC Tryd.prog 10 [(.agg [(.a (.fz (.str a_0))), (.a (.fz (.int .i64 a_1))), (.a (.fz (.int .i64 a_2)))]), (.agg [(.a (.fz (.str b_0))), (.a (.fz (.int .i64 b_1))), (.a (.fz (.int .i64 b_2)))])] [] (.c (.a (.fz (.bool b28)))) []) ∧ (br (!b28) (∃ b29 : Bool, ((AC Tryd.prog 12 [(.agg [(.a (.fz (.str a_0))), (.a (.fz (.int .i64 a_1))), (.a (.fz (.int .i64 a_2)))]), (.agg [(.a (.fz (.str b_0))), (.a (.fz (.int .i64 b_1))), (.a (.fz (.int .i64 b_2)))])] [] (.c (.a (.fz (.bool b29)))) []) ∧ (br b1 (TV.Le (.c (.a (.fz (.bool false)))) r ∧ [] = Hs') (TV.Le (.c (.a (.fz (.bool false)))) r ∧ [] = Hs')))) (br b1 (TV.Le (.c (.a (.fz (.bool false)))) r ∧ [] = Hs') (TV.Le (.c (.a (.fz (.bool false)))) r ∧ [] = Hs')))))))))) (br ((a_1 : Int) != b_1) (br b1 (TV.Le (.c (.a (.fz (.bool false)))) r ∧ [] = Hs') (TV.Le (.c (.a (.fz (.bool false)))) r ∧ [] = Hs')) (br ((a_2 : Int) == b_2) (br b1 (TV.Le (.c (.a (.fz (.bool false)))) r ∧ [] = Hs') (TV.Le (.c (.a (.fz (.bool false)))) r ∧ [] = Hs')) (∃ b30 : Bool, ((AC Tryd.prog 10 [(.agg [(.a (.fz (.str a_0))), (.a (.fz (.int .i64 a_1))), (.a (.fz (.int .i64 a_2)))]), (.agg [(.a (.fz (.str b_0))), (.a (.fz (.int .i64 b_1))), (.a (.fz (.int .i64 b_2)))])] [] (.c (.a (.fz (.bool b30)))) []) ∧ (br (!b30) (∃ b31 : Bool, ((AC Tryd.prog 12 [(.agg [(.a (.fz (.str a_0))), (.a (.fz (.int .i64 a_1))), (.a (.fz (.int .i64 a_2)))]), (.agg [(.a (.fz (.str b_0))), (.a (.fz (.int .i64 b_1))), (.a (.fz (.int .i64 b_2)))])] [] (.c (.a (.fz (.bool b31)))) []) ∧ (br b1 (TV.Le (.c (.a (.fz (.bool false)))) r ∧ [] = Hs') (TV.Le (.c (.a (.fz (.bool false)))) r ∧ [] = Hs')))) (br b1 (TV.Le (.c (.a (.fz (.bool false)))) r ∧ [] = Hs') (TV.Le (.c (.a (.fz (.bool false)))) r ∧ [] = Hs'))))))))))))))))) := by kernel_rfl
/-- lambent/lambentlaw02.OpsKeeps -/
def lv5 : List (Nat × List Nat) := []
theorem v5 (l : List (List FV)) (o_0 : List UInt8) (o_1 : Int) (o_2 : Int) (name : List UInt8) (r : TV) (Hs' : List AObj) : vcE Tryd.prog sh lv5 5 [(.c (.a (.fz (.sl false 3 l)))), (.agg [(.a (.fz (.str o_0))), (.a (.fz (.int .i64 o_1))), (.a (.fz (.int .i64 o_2)))]), (.c (.a (.fz (.str name))))] [] (fun r0 Hs0 => TV.Le r0 r ∧ Hs0 = Hs') (RPt Tryd.prog 5 0 r Hs') =
    (∃ b1 : Bool, ((AC Tryd.prog 9 [] [] (.c (.a (.fz (.bool b1)))) []) ∧ (br (!b1) (TV.Le (.c (.a (.fz (.bool false)))) r ∧ [] = Hs') (∃ b2 : Bool, ((AC Tryd.prog 16 [(.c (.a (.fz (.sl false 3 l))))] [] (.c (.a (.fz (.bool b2)))) []) ∧ (br b2 (TV.Le (.c (.a (.fz (.bool b1)))) r ∧ [] = Hs') (br (decide (((((List.length o_0) : Nat) : Int) : Int) > (100 : Int))) (TV.Le (.c (.a (.fz (.bool b1)))) r ∧ [] = Hs') (br (decide (((((List.length name) : Nat) : Int) : Int) > (100 : Int))) (TV.Le (.c (.a (.fz (.bool b1)))) r ∧ [] = Hs') ((FV.isSl 3 (.sl false 3 l) = true) ∧ (br (List.isEmpty l) (∃ z3 : List Opd × Int, ((AC Tryd.prog 17 [(.c (.a (.fz (.sl false 3 l)))), (.agg [(.a (.fz (.str o_0))), (.a (.fz (.int .i64 o_1))), (.a (.fz (.int .i64 o_2)))])] [] (.tup [(false, [(.a (.fz (.sl false 3 (OR z3.1))))]), (false, [(.a (.fz (.int .i64 z3.2)))])]) []) ∧ (∃ b4 : Bool, ((AC Tryd.prog 18 [(.c (.a (.fz (.sl false 3 l)))), (.c (.a (.fz .nils)))] [] (.c (.a (.fz (.bool b4)))) []) ∧ (∃ z5 : Opd × Bool, ((AC Tryd.prog 19 [(.c (.a (.fz (.sl false 3 l)))), (.c (.a (.fz (.str name))))] [] (.tup [(true, [(.a (.fz (.str z5.1.nm))), (.a (.fz (.int .i64 z5.1.pr))), (.a (.fz (.int .i64 z5.1.fx)))]), (false, [(.a (.fz (.bool z5.2)))])]) []) ∧ (∃ z6 : Opd × Bool, ((AC Tryd.prog 19 [(.c (.a (.fz (.sl false 3 (OR z3.1))))), (.c (.a (.fz (.str name))))] [] (.tup [(true, [(.a (.fz (.str z6.1.nm))), (.a (.fz (.int .i64 z6.1.pr))), (.a (.fz (.int .i64 z6.1.fx)))]), (false, [(.a (.fz (.bool z6.2)))])]) []) ∧ (br (!b4) (TV.Le (.c (.a (.fz (.bool false)))) r ∧ [] = Hs') (br (!((name : List UInt8) == o_0)) (br (!(((z5.1.nm : List UInt8) == z6.1.nm) && (((z5.1.pr : Int) == z6.1.pr) && (((z5.1.fx : Int) == z6.1.fx) && true)))) (TV.Le (.c (.a (.fz (.bool false)))) r ∧ [] = Hs') (br (!((z5.2 : Bool) == z6.2)) (TV.Le (.c (.a (.fz (.bool false)))) r ∧ [] = Hs') (br ((z3.2 : Int) != (0 : Int)) (br b1 (br (((z5.1.nm : List UInt8) == z6.1.nm) && (((z5.1.pr : Int) == z6.1.pr) && (((z5.1.fx : Int) == z6.1.fx) && true))) (TV.Le (.c (.a (.fz (.bool ((z5.2 : Bool) == z6.2))))) r ∧ [] = Hs') (TV.Le (.c (.a (.fz (.bool false)))) r ∧ [] = Hs')) (TV.Le (.c (.a (.fz (.bool false)))) r ∧ [] = Hs')) (∃ z7 : Opd × Bool, ((AC Tryd.prog 19 [(.c (.a (.fz (.sl false 3 (OR z3.1))))), (.c (.a (.fz (.str o_0))))] [] (.tup [(true, [(.a (.fz (.str z7.1.nm))), (.a (.fz (.int .i64 z7.1.pr))), (.a (.fz (.int .i64 z7.1.fx)))]), (false, [(.a (.fz (.bool z7.2)))])]) []) ∧ (∃ z8 : List Opd × Int, ((AC Tryd.prog 17 [(.c (.a (.fz (.sl false 3 (OR z3.1))))), (.agg [(.a (.fz (.str o_0))), (.a (.fz (.int .i64 o_1))), (.a (.fz (.int .i64 o_2)))])] [] (.tup [(false, [(.a (.fz (.sl false 3 (OR z8.1))))]), (false, [(.a (.fz (.int .i64 z8.2)))])]) []) ∧ (br b1 (br (((z7.1.nm : List UInt8) == o_0) && (((z7.1.pr : Int) == o_1) && (((z7.1.fx : Int) == o_2) && true))) (br z7.2 (br ((z8.2 : Int) == (22 : Int)) ((FV.isSl 3 (.sl false 3 (OR z3.1)) = true) ∧ ((FV.isSl 3 (.sl false 3 l) = true) ∧ (TV.Le (.c (.a (.fz (.bool (((((List.length (OR z3.1)) : Nat) : Int) : Int) == (IntKind.wrap .i64 ((((List.length l) : Nat) : Int) + (1 : Int)))))))) r ∧ [] = Hs'))) (TV.Le (.c (.a (.fz (.bool false)))) r ∧ [] = Hs')) (TV.Le (.c (.a (.fz (.bool false)))) r ∧ [] = Hs')) (TV.Le (.c (.a (.fz (.bool false)))) r ∧ [] = Hs')) (TV.Le (.c (.a (.fz (.bool false)))) r ∧ [] = Hs'))))))))) (br ((z3.2 : Int) != (0 : Int)) (br b1 (br (((z5.1.nm : List UInt8) == z6.1.nm) && (((z5.1.pr : Int) == z6.1.pr) && (((z5.1.fx : Int) == z6.1.fx) && true))) (TV.Le (.c (.a (.fz (.bool ((z5.2 : Bool) == z6.2))))) r ∧ [] = Hs') (TV.Le (.c (.a (.fz (.bool false)))) r ∧ [] = Hs')) (TV.Le (.c (.a (.fz (.bool false)))) r ∧ [] = Hs')) (∃ z9 : Opd × Bool, ((AC Tryd.prog 19 [(.c (.a (.fz (.sl false 3 (OR z3.1))))), (.c (.a (.fz (.str o_0))))] [] (.tup [(true, [(.a (.fz (.str z9.1.nm))), (.a (.fz (.int .i64 z9.1.pr))), (.a (.fz (.int .i64 z9.1.fx)))]), (false, [(.a (.fz (.bool z9.2)))])]) []) ∧ (∃ z10 : List Opd × Int, ((AC Tryd.prog 17 [(.c (.a (.fz (.sl false 3 (OR z3.1))))), (.agg [(.a (.fz (.str o_0))), (.a (.fz (.int .i64 o_1))), (.a (.fz (.int .i64 o_2)))])] [] (.tup [(false, [(.a (.fz (.sl false 3 (OR z10.1))))]), (false, [(.a (.fz (.int .i64 z10.2)))])]) []) ∧ (br b1 (br (((z9.1.nm : List UInt8) == o_0) && (((z9.1.pr : Int) == o_1) && (((z9.1.fx : Int) == o_2) && true))) (br z9.2 (br ((z10.2 : Int) == (22 : Int)) ((FV.isSl 3 (.sl false 3 (OR z3.1)) = true) ∧ ((FV.isSl 3 (.sl false 3 l) = true) ∧ (TV.Le (.c (.a (.fz (.bool (((((List.length (OR z3.1)) : Nat) : Int) : Int) == (IntKind.wrap .i64 ((((List.length l) : Nat) : Int) + (1 : Int)))))))) r ∧ [] = Hs'))) (TV.Le (.c (.a (.fz (.bool false)))) r ∧ [] = Hs')) (TV.Le (.c (.a (.fz (.bool false)))) r ∧ [] = Hs')) (TV.Le (.c (.a (.fz (.bool false)))) r ∧ [] = Hs')) (TV.Le (.c (.a (.fz (.bool false)))) r ∧ [] = Hs'))))))))))))))))) ((roomB (List.length l) 32) ∧ (∃ z11 : List Opd × Int, ((AC Tryd.prog 17 [(.c (.a (.fz (.sl false 3 l)))), (.agg [(.a (.fz (.str o_0))), (.a (.fz (.int .i64 o_1))), (.a (.fz (.int .i64 o_2)))])] [] (.tup [(false, [(.a (.fz (.sl false 3 (OR z11.1))))]), (false, [(.a (.fz (.int .i64 z11.2)))])]) []) ∧ (((3 : Nat) = 3 ∧ (0 + (List.length l)) ≤ (List.length l)) ∧ (∃ b12 : Bool, ((AC Tryd.prog 18 [(.c (.a (.fz (.sl false 3 l)))), (.c (.a (.fz (.sl true 3 (List.take (List.length l) (List.drop 0 l))))))] [] (.c (.a (.fz (.bool b12)))) []) ∧ ((true = true) ∧ (∃ z13 : Opd × Bool, ((AC Tryd.prog 19 [(.c (.a (.fz (.sl false 3 l)))), (.c (.a (.fz (.str name))))] [] (.tup [(true, [(.a (.fz (.str z13.1.nm))), (.a (.fz (.int .i64 z13.1.pr))), (.a (.fz (.int .i64 z13.1.fx)))]), (false, [(.a (.fz (.bool z13.2)))])]) []) ∧ (∃ z14 : Opd × Bool, ((AC Tryd.prog 19 [(.c (.a (.fz (.sl false 3 (OR z11.1))))), (.c (.a (.fz (.str name))))] [] (.tup [(true, [(.a (.fz (.str z14.1.nm))), (.a (.fz (.int .i64 z14.1.pr))), (.a (.fz (.int .i64 z14.1.fx)))]), (false, [(.a (.fz (.bool z14.2)))])]) []) ∧ (br (!b12) (TV.Le (.c (.a (.fz (.bool false)))) r ∧ [] = Hs') (br (!((name : List UInt8) == o_0)) (br (!(((z13.1.nm : List UInt8) == z14.1.nm) && (((z13.1.pr : Int) == z14.1.pr) && (((z13.1.fx : Int) == z14.1.fx) && true)))) (TV.Le (.c (.a (.fz (.bool false)))) r ∧ [] = Hs') (br (!((z13.2 : Bool) == z14.2)) (TV.Le (.c (.a (.fz (.bool false)))) r ∧ [] = Hs') (br ((z11.2 : Int) != (0 : Int)) (br b1 (br (((z13.1.nm : List UInt8) == z14.1.nm) && (((z13.1.pr : Int) == z14.1.pr) && (((z13.1.fx : Int) == z14.1.fx) && true))) (TV.Le (.c (.a (.fz (.bool ((z13.2 : Bool) == z14.2))))) r ∧ [] = Hs') (TV.Le (.c (.a (.fz (.bool false)))) r ∧ [] = Hs')) (TV.Le (.c (.a (.fz (.bool false)))) r ∧ [] = Hs')) (∃ z15 : Opd × Bool, ((AC Tryd.prog 19 [(.c (.a (.fz (.sl false 3 (OR z11.1))))), (.c (.a (.fz (.str o_0))))] [] (.tup [(true, [(.a (.fz (.str z15.1.nm))), (.a (.fz (.int .i64 z15.1.pr))), (.a (.fz (.int .i64 z15.1.fx)))]), (false, [(.a (.fz (.bool z15.2)))])]) []) ∧ (∃ z16 : List Opd × Int, ((AC Tryd.prog 17 [(.c (.a (.fz (.sl false 3 (OR z11.1))))), (.agg [(.a (.fz (.str o_0))), (.a (.fz (.int .i64 o_1))), (.a (.fz (.int .i64 o_2)))])] [] (.tup [(false, [(.a (.fz (.sl false 3 (OR z16.1))))]), (false, [(.a (.fz (.int .i64 z16.2)))])]) []) ∧ (br b1 (br (((z15.1.nm : List UInt8) == o_0) && (((z15.1.pr : Int) == o_1) && (((z15.1.fx : Int) == o_2) && true))) (br z15.2 (br ((z16.2 : Int) == (22 : Int)) ((FV.isSl 3 (.sl false 3 (OR z11.1)) = true) ∧ ((FV.isSl 3 (.sl false 3 l) = true) ∧ (TV.Le (.c (.a (.fz (.bool (((((List.length (OR z11.1)) : Nat) : Int) : Int) == (IntKind.wrap .i64 ((((List.length l) : Nat) : Int) + (1 : Int)))))))) r ∧ [] = Hs'))) (TV.Le (.c (.a (.fz (.bool false)))) r ∧ [] = Hs')) (TV.Le (.c (.a (.fz (.bool false)))) r ∧ [] = Hs')) (TV.Le (.c (.a (.fz (.bool false)))) r ∧ [] = Hs')) (TV.Le (.c (.a (.fz (.bool false)))) r ∧ [] = Hs'))))))))) (br ((z11.2 : Int) != (0 : Int)) (br b1 (br (((z13.1.nm : List UInt8) == z14.1.nm) && (((z13.1.pr : Int) == z14.1.pr) && (((z13.1.fx : Int) == z14.1.fx) && true))) (TV.Le (.c (.a (.fz (.bool ((z13.2 : Bool) == z14.2))))) r ∧ [] = Hs') (TV.Le (.c (.a (.fz (.bool false)))) r ∧ [] = Hs')) (TV.Le (.c (.a (.fz (.bool false)))) r ∧ [] = Hs')) (∃ z17 : Opd × Bool, ((AC Tryd.prog 19 [(.c (.a (.fz (.sl false 3 (OR z11.1))))), (.c (.a (.fz (.str o_0))))] [] (.tup [(true, [(.a (.fz (.str z17.1.nm))), (.a (.fz (.int .i64 z17.1.pr))), (.a (.fz (.int .i64 z17.1.fx)))]), (false, [(.a (.fz (.bool z17.2)))])]) []) ∧ (∃ z18 : List Opd × Int, ((AC Tryd.prog 17 [(.c (.a (.fz (.sl false 3 (OR z11.1))))), (.agg [(.a (.fz (.str o_0))), (.a (.fz (.int .i64 o_1))), (.a (.fz (.int .i64 o_2)))])] [] (.tup [(false, [(.a (.fz (.sl false 3 (OR z18.1))))]), (false, [(.a (.fz (.int .i64 z18.2)))])]) []) ∧ (br b1 (br (((z17.1.nm : List UInt8) == o_0) && (((z17.1.pr : Int) == o_1) && (((z17.1.fx : Int) == o_2) && true))) (br z17.2 (br ((z18.2 : Int) == (22 : Int)) ((FV.isSl 3 (.sl false 3 (OR z11.1)) = true) ∧ ((FV.isSl 3 (.sl false 3 l) = true) ∧ (TV.Le (.c (.a (.fz (.bool (((((List.length (OR z11.1)) : Nat) : Int) : Int) == (IntKind.wrap .i64 ((((List.length l) : Nat) : Int) + (1 : Int)))))))) r ∧ [] = Hs'))) (TV.Le (.c (.a (.fz (.bool false)))) r ∧ [] = Hs')) (TV.Le (.c (.a (.fz (.bool false)))) r ∧ [] = Hs')) (TV.Le (.c (.a (.fz (.bool false)))) r ∧ [] = Hs')) (TV.Le (.c (.a (.fz (.bool false)))) r ∧ [] = Hs')))))))))))))))))))))))))))))) := by kernel_rfl
/-- lambent/lambentlaw02.over -/
def lv16 : List (Nat × List Nat) := [(1, [0, 3])]
theorem v16 (l : List (List FV)) (r : TV) (Hs' : List AObj) : vcE Tryd.prog sh lv16 16 [(.c (.a (.fz (.sl false 3 l))))] [] (fun r0 Hs0 => TV.Le r0 r ∧ Hs0 = Hs') (RPt Tryd.prog 16 0 r Hs') =
    ((FV.isSl 3 (.sl false 3 l) = true) ∧ (br (decide (((((List.length l) : Nat) : Int) : Int) > (100 : Int))) (TV.Le (.c (.a (.fz (.bool true)))) r ∧ [] = Hs') (RPt Tryd.prog 16 0 r Hs' 1 ⟨[(0, (.c (.a (.fz (.sl false 3 l))))), (3, (.c (.a (.fz (.int .i64 (0 : Int))))))], [], 0⟩))) := by kernel_rfl
theorem v16_1a (x0 : List (List FV)) (x3 : Int) (r : TV) (Hs' : List AObj) : vcP Tryd.prog sh lv16 16 0 (fun r0 Hs0 => TV.Le r0 r ∧ Hs0 = Hs') (RPt Tryd.prog 16 0 r Hs') 1 ⟨[(0, (.c (.a (.fz (.sl false 3 x0))))), (3, (.c (.a (.fz (.int .i64 x3)))))], [], 0⟩ =
    ((FV.isSl 3 (.sl false 3 x0) = true) ∧ (br (decide ((x3 : Int) < (((List.length x0) : Nat) : Int))) (((FV.isSl 3 (.sl false 3 x0) = true) ∧ ((0 ≤ x3) ∧ ((x3 < (((List.length x0) : Nat) : Int)) ∧ (([(.str (FV.asS (List.getD (List.getD x0 (Int.toNat x3) []) 0 FV.nils))), (.int .i64 (FV.asI (List.getD (List.getD x0 (Int.toNat x3) []) 1 FV.nils))), (.int .i64 (FV.asI (List.getD (List.getD x0 (Int.toNat x3) []) 2 FV.nils)))] : List FV) = (List.getD x0 (Int.toNat x3) []))))) ∧ (br (decide (((((List.length (FV.asS (List.getD (List.getD x0 (Int.toNat x3) []) 0 FV.nils))) : Nat) : Int) : Int) > (100 : Int))) (TV.Le (.c (.a (.fz (.bool true)))) r ∧ [] = Hs') (RPt Tryd.prog 16 0 r Hs' 1 ⟨[(0, (.c (.a (.fz (.sl false 3 x0))))), (3, (.c (.a (.fz (.int .i64 (IntKind.wrap .i64 (x3 + (1 : Int))))))))], [], 0⟩))) (TV.Le (.c (.a (.fz (.bool false)))) r ∧ [] = Hs'))) := by kernel_rfl
/-- lambent/ops.Declare -/
def lv17 : List (Nat × List Nat) := []
theorem v17 (a1_0 : List UInt8) (a1_1 : Int) (a1_2 : Int) (r : TV) (Hs' : List AObj) : vcE Tryd.prog sh lv17 17 [(.c (.a (.fz .nils))), (.agg [(.a (.fz (.str a1_0))), (.a (.fz (.int .i64 a1_1))), (.a (.fz (.int .i64 a1_2)))])] [] (fun r0 Hs0 => TV.Le r0 r ∧ Hs0 = Hs') (RPt Tryd.prog 17 0 r Hs') =
    (∃ n1 : Int, ((AC Tryd.prog 29 [(.c (.a (.fz .nils))), (.agg [(.a (.fz (.str a1_0))), (.a (.fz (.int .i64 a1_1))), (.a (.fz (.int .i64 a1_2)))])] [] (.c (.a (.fz (.int .i64 n1)))) []) ∧ (br ((n1 : Int) != (0 : Int)) ((∃ _ : Unit, ((AC Tryd.prog 30 [(.c (.a (.fz .nils)))] [] (.c (.a (.fz .nils))) []) ∧ (TV.Le (.tup [(false, [(.a (.fz .nils))]), (false, [(.a (.fz (.int .i64 n1)))])]) r ∧ [] = Hs'))) ∨ (∃ z3 : List (List FV), ((AC Tryd.prog 30 [(.c (.a (.fz .nils)))] [] (.c (.a (.osl 0 3 0 (List.length z3)))) [(.arz 3 z3)]) ∧ (((3 : Nat) = 3 ∧ (0 + (List.length z3)) ≤ (List.length z3)) ∧ (TV.Le (.tup [(false, [(.a (.fz (.sl true 3 (List.take (List.length z3) (List.drop 0 z3)))))]), (false, [(.a (.fz (.int .i64 n1)))])]) r ∧ [] = Hs'))))) ((∃ _ : Unit, ((AC Tryd.prog 30 [(.c (.a (.fz .nils)))] [] (.c (.a (.fz .nils))) []) ∧ ((1 ≤ 1) ∧ ((roomB 1 32) ∧ (((3 : Nat) = 3 ∧ 1 ≤ 1) ∧ (TV.Le (.tup [(false, [(.a (.fz (.sl true 3 [[(.str a1_0), (.int .i64 a1_1), (.int .i64 a1_2)]])))]), (false, [(.a (.fz (.int .i64 (0 : Int))))])]) r ∧ [] = Hs')))))) ∨ (∃ z5 : List (List FV), ((AC Tryd.prog 30 [(.c (.a (.fz .nils)))] [] (.c (.a (.osl 0 3 0 (List.length z5)))) [(.arz 3 z5)]) ∧ ((1 ≤ 1) ∧ (((List.length z5) ≤ (List.length z5) ∧ roomB ((List.length z5) + 1) 32) ∧ (((3 : Nat) = 3 ∧ (0 + ((List.length z5) + 1)) ≤ (List.length ((List.take (List.length z5) z5) ++ [[(.str a1_0), (.int .i64 a1_1), (.int .i64 a1_2)]]))) ∧ (TV.Le (.tup [(false, [(.a (.fz (.sl true 3 (List.take ((List.length z5) + 1) (List.drop 0 ((List.take (List.length z5) z5) ++ [[(.str a1_0), (.int .i64 a1_1), (.int .i64 a1_2)]]))))))]), (false, [(.a (.fz (.int .i64 (0 : Int))))])]) r ∧ [] = Hs')))))))))) := by kernel_rfl
/-- lambent/ops.Declare -/
theorem v17_i1 (s : List (List FV)) (a1_0 : List UInt8) (a1_1 : Int) (a1_2 : Int) (r : TV) (Hs' : List AObj) : vcE Tryd.prog sh lv17 17 [(.c (.a (.fz (.sl true 3 s)))), (.agg [(.a (.fz (.str a1_0))), (.a (.fz (.int .i64 a1_1))), (.a (.fz (.int .i64 a1_2)))])] [] (fun r0 Hs0 => TV.Le r0 r ∧ Hs0 = Hs') (RPt Tryd.prog 17 0 r Hs') =
    (∃ n1 : Int, ((AC Tryd.prog 29 [(.c (.a (.fz (.sl true 3 s)))), (.agg [(.a (.fz (.str a1_0))), (.a (.fz (.int .i64 a1_1))), (.a (.fz (.int .i64 a1_2)))])] [] (.c (.a (.fz (.int .i64 n1)))) []) ∧ (br ((n1 : Int) != (0 : Int)) ((∃ _ : Unit, ((AC Tryd.prog 30 [(.c (.a (.fz (.sl true 3 s))))] [] (.c (.a (.fz .nils))) []) ∧ (TV.Le (.tup [(false, [(.a (.fz .nils))]), (false, [(.a (.fz (.int .i64 n1)))])]) r ∧ [] = Hs'))) ∨ (∃ z3 : List (List FV), ((AC Tryd.prog 30 [(.c (.a (.fz (.sl true 3 s))))] [] (.c (.a (.osl 0 3 0 (List.length z3)))) [(.arz 3 z3)]) ∧ (((3 : Nat) = 3 ∧ (0 + (List.length z3)) ≤ (List.length z3)) ∧ (TV.Le (.tup [(false, [(.a (.fz (.sl true 3 (List.take (List.length z3) (List.drop 0 z3)))))]), (false, [(.a (.fz (.int .i64 n1)))])]) r ∧ [] = Hs'))))) ((∃ _ : Unit, ((AC Tryd.prog 30 [(.c (.a (.fz (.sl true 3 s))))] [] (.c (.a (.fz .nils))) []) ∧ ((1 ≤ 1) ∧ ((roomB 1 32) ∧ (((3 : Nat) = 3 ∧ 1 ≤ 1) ∧ (TV.Le (.tup [(false, [(.a (.fz (.sl true 3 [[(.str a1_0), (.int .i64 a1_1), (.int .i64 a1_2)]])))]), (false, [(.a (.fz (.int .i64 (0 : Int))))])]) r ∧ [] = Hs')))))) ∨ (∃ z5 : List (List FV), ((AC Tryd.prog 30 [(.c (.a (.fz (.sl true 3 s))))] [] (.c (.a (.osl 0 3 0 (List.length z5)))) [(.arz 3 z5)]) ∧ ((1 ≤ 1) ∧ (((List.length z5) ≤ (List.length z5) ∧ roomB ((List.length z5) + 1) 32) ∧ (((3 : Nat) = 3 ∧ (0 + ((List.length z5) + 1)) ≤ (List.length ((List.take (List.length z5) z5) ++ [[(.str a1_0), (.int .i64 a1_1), (.int .i64 a1_2)]]))) ∧ (TV.Le (.tup [(false, [(.a (.fz (.sl true 3 (List.take ((List.length z5) + 1) (List.drop 0 ((List.take (List.length z5) z5) ++ [[(.str a1_0), (.int .i64 a1_1), (.int .i64 a1_2)]]))))))]), (false, [(.a (.fz (.int .i64 (0 : Int))))])]) r ∧ [] = Hs')))))))))) := by kernel_rfl
/-- lambent/ops.wrong -/
def lv29 : List (Nat × List Nat) := []
theorem v29 (l : List (List FV)) (o_0 : List UInt8) (o_1 : Int) (o_2 : Int) (r : TV) (Hs' : List AObj) : vcE Tryd.prog sh lv29 29 [(.c (.a (.fz (.sl false 3 l)))), (.agg [(.a (.fz (.str o_0))), (.a (.fz (.int .i64 o_1))), (.a (.fz (.int .i64 o_2)))])] [] (fun r0 Hs0 => TV.Le r0 r ∧ Hs0 = Hs') (RPt Tryd.prog 29 0 r Hs') =
    (∃ z1 : Opd × Bool, ((AC Tryd.prog 19 [(.c (.a (.fz (.sl false 3 l)))), (.c (.a (.fz (.str o_0))))] [] (.tup [(true, [(.a (.fz (.str z1.1.nm))), (.a (.fz (.int .i64 z1.1.pr))), (.a (.fz (.int .i64 z1.1.fx)))]), (false, [(.a (.fz (.bool z1.2)))])]) []) ∧ (br (decide ((o_2 : Int) < (0 : Int))) (TV.Le (.c (.a (.fz (.int .i64 (1 : Int))))) r ∧ [] = Hs') (br (decide ((o_2 : Int) > (2 : Int))) (TV.Le (.c (.a (.fz (.int .i64 (1 : Int))))) r ∧ [] = Hs') (∃ b2 : Bool, ((AC Tryd.prog 39 [(.c (.a (.fz (.str o_0))))] [] (.c (.a (.fz (.bool b2)))) []) ∧ (br (!b2) (∃ b3 : Bool, ((AC Tryd.prog 40 [(.c (.a (.fz (.str o_0))))] [] (.c (.a (.fz (.bool b3)))) []) ∧ (br (!b3) (TV.Le (.c (.a (.fz (.int .i64 (20 : Int))))) r ∧ [] = Hs') (∃ b4 : Bool, ((AC Tryd.prog 41 [(.c (.a (.fz (.str o_0))))] [] (.c (.a (.fz (.bool b4)))) []) ∧ (br b4 (TV.Le (.c (.a (.fz (.int .i64 (20 : Int))))) r ∧ [] = Hs') (br (decide ((o_1 : Int) < (1 : Int))) (TV.Le (.c (.a (.fz (.int .i64 (21 : Int))))) r ∧ [] = Hs') (br (decide ((o_1 : Int) > (200 : Int))) (TV.Le (.c (.a (.fz (.int .i64 (21 : Int))))) r ∧ [] = Hs') (br z1.2 (TV.Le (.c (.a (.fz (.int .i64 (22 : Int))))) r ∧ [] = Hs') ((FV.isSl 3 (.sl false 3 l) = true) ∧ (br (decide (((((List.length l) : Nat) : Int) : Int) ≥ (64 : Int))) (TV.Le (.c (.a (.fz (.int .i64 (23 : Int))))) r ∧ [] = Hs') (TV.Le (.c (.a (.fz (.int .i64 (0 : Int))))) r ∧ [] = Hs')))))))))))) (∃ b5 : Bool, ((AC Tryd.prog 41 [(.c (.a (.fz (.str o_0))))] [] (.c (.a (.fz (.bool b5)))) []) ∧ (br b5 (TV.Le (.c (.a (.fz (.int .i64 (20 : Int))))) r ∧ [] = Hs') (br (decide ((o_1 : Int) < (1 : Int))) (TV.Le (.c (.a (.fz (.int .i64 (21 : Int))))) r ∧ [] = Hs') (br (decide ((o_1 : Int) > (200 : Int))) (TV.Le (.c (.a (.fz (.int .i64 (21 : Int))))) r ∧ [] = Hs') (br z1.2 (TV.Le (.c (.a (.fz (.int .i64 (22 : Int))))) r ∧ [] = Hs') ((FV.isSl 3 (.sl false 3 l) = true) ∧ (br (decide (((((List.length l) : Nat) : Int) : Int) ≥ (64 : Int))) (TV.Le (.c (.a (.fz (.int .i64 (23 : Int))))) r ∧ [] = Hs') (TV.Le (.c (.a (.fz (.int .i64 (0 : Int))))) r ∧ [] = Hs')))))))))))))))) := by kernel_rfl
/-- slices.Clone[[]lambent/api.Op,lambent/api.Op] -/
def lv30 : List (Nat × List Nat) := []
theorem v30  (r : TV) (Hs' : List AObj) : vcE Tryd.prog sh lv30 30 [(.c (.a (.fz .nils)))] [] (fun r0 Hs0 => TV.Le r0 r ∧ Hs0 = Hs') (RPt Tryd.prog 30 0 r Hs') =
    (TV.Le (.c (.a (.fz .nils))) r ∧ [] = Hs') := by kernel_rfl
/-- slices.Clone[[]lambent/api.Op,lambent/api.Op] -/
theorem v30_i1 (s : List (List FV)) (r : TV) (Hs' : List AObj) : vcE Tryd.prog sh lv30 30 [(.c (.a (.fz (.sl true 3 s))))] [] (fun r0 Hs0 => TV.Le r0 r ∧ Hs0 = Hs') (RPt Tryd.prog 30 0 r Hs') =
    ((FV.isSl 3 (.sl true 3 s) = true) ∧ ((0 ≤ 0 ∧ roomB (0 + (List.length s)) 32) ∧ (TV.Le (.c (.a (.osl 0 3 0 (0 + (List.length s))))) r ∧ [(.arz 3 ([] ++ s))] = Hs'))) := by kernel_rfl
/-- lambent/lex.IsName -/
def lv39 : List (Nat × List Nat) := []
theorem v39 (s : List UInt8) (r : TV) (Hs' : List AObj) : vcE Tryd.prog sh lv39 39 [(.c (.a (.fz (.str s))))] [] (fun r0 Hs0 => TV.Le r0 r ∧ Hs0 = Hs') (RPt Tryd.prog 39 0 r Hs') =
    (∃ b1 : Bool, ((AC Tryd.prog 47 [(.c (.a (.fz (.str s))))] [] (.c (.a (.fz (.bool b1)))) []) ∧ (br b1 ((0 ≤ (0 : Int) ∧ (0 : Int) < (((List.length s) : Nat) : Int)) ∧ (∃ b2 : Bool, ((AC Tryd.prog 48 [(.c (.a (.fz (.int .u8 ((UInt8.toNat (List.getD s 0 0) : Nat) : Int)))))] [] (.c (.a (.fz (.bool b2)))) []) ∧ (br b2 (∃ n3 : Int, ((AC Tryd.prog 49 [(.c (.a (.fz (.str s)))), (.c (.fn (.func 50) [] []))] [] (.c (.a (.fz (.int .i64 n3)))) []) ∧ (TV.Le (.c (.a (.fz (.bool ((n3 : Int) == (((List.length s) : Nat) : Int)))))) r ∧ [] = Hs'))) (TV.Le (.c (.a (.fz (.bool false)))) r ∧ [] = Hs'))))) (TV.Le (.c (.a (.fz (.bool false)))) r ∧ [] = Hs')))) := by kernel_rfl
/-- lambent/lex.IsSym -/
def lv40 : List (Nat × List Nat) := []
theorem v40 (s : List UInt8) (r : TV) (Hs' : List AObj) : vcE Tryd.prog sh lv40 40 [(.c (.a (.fz (.str s))))] [] (fun r0 Hs0 => TV.Le r0 r ∧ Hs0 = Hs') (RPt Tryd.prog 40 0 r Hs') =
    (∃ b1 : Bool, ((AC Tryd.prog 47 [(.c (.a (.fz (.str s))))] [] (.c (.a (.fz (.bool b1)))) []) ∧ (br b1 (∃ n2 : Int, ((AC Tryd.prog 49 [(.c (.a (.fz (.str s)))), (.c (.fn (.func 51) [] []))] [] (.c (.a (.fz (.int .i64 n2)))) []) ∧ (br ((n2 : Int) == (((List.length s) : Nat) : Int)) (TV.Le (.c (.a (.fz (.bool true)))) r ∧ [] = Hs') (br (((((List.length s) : Nat) : Int) : Int) == (1 : Int)) (∃ b3 : Bool, ((AC Tryd.prog 52 [(.c (.a (.fz (.str [44, 59, 33])))), (.c (.a (.fz (.str s))))] [] (.c (.a (.fz (.bool b3)))) []) ∧ (TV.Le (.c (.a (.fz (.bool b3)))) r ∧ [] = Hs'))) (TV.Le (.c (.a (.fz (.bool false)))) r ∧ [] = Hs'))))) (TV.Le (.c (.a (.fz (.bool false)))) r ∧ [] = Hs')))) := by kernel_rfl
/-- lambent/ops.reserved -/
def lv41 : List (Nat × List Nat) := []
theorem v41 (name : List UInt8) (r : TV) (Hs' : List AObj) : vcE Tryd.prog sh lv41 41 [(.c (.a (.fz (.str name))))] [] (fun r0 Hs0 => TV.Le r0 r ∧ Hs0 = Hs') (RPt Tryd.prog 41 0 r Hs') =
    (br ((name : List UInt8) == [33]) (TV.Le (.c (.a (.fz (.bool true)))) r ∧ [] = Hs') (br ((name : List UInt8) == [45, 62]) (TV.Le (.c (.a (.fz (.bool true)))) r ∧ [] = Hs') (br ((name : List UInt8) == [107, 105, 110, 100]) (TV.Le (.c (.a (.fz (.bool true)))) r ∧ [] = Hs') (br ((name : List UInt8) == [116, 121, 112, 101]) (TV.Le (.c (.a (.fz (.bool true)))) r ∧ [] = Hs') (br ((name : List UInt8) == [105, 110, 102, 105, 120]) (TV.Le (.c (.a (.fz (.bool true)))) r ∧ [] = Hs') (br ((name : List UInt8) == [105, 110, 102, 105, 120, 108]) (TV.Le (.c (.a (.fz (.bool true)))) r ∧ [] = Hs') (br ((name : List UInt8) == [105, 110, 102, 105, 120, 114]) (TV.Le (.c (.a (.fz (.bool true)))) r ∧ [] = Hs') (TV.Le (.c (.a (.fz (.bool false)))) r ∧ [] = Hs')))))))) := by kernel_rfl
/-- lambent/lex.fits -/
def lv47 : List (Nat × List Nat) := []
theorem v47 (s : List UInt8) (r : TV) (Hs' : List AObj) : vcE Tryd.prog sh lv47 47 [(.c (.a (.fz (.str s))))] [] (fun r0 Hs0 => TV.Le r0 r ∧ Hs0 = Hs') (RPt Tryd.prog 47 0 r Hs') =
    (br (!((s : List UInt8) == [])) (TV.Le (.c (.a (.fz (.bool (decide (((((List.length s) : Nat) : Int) : Int) ≤ (32 : Int))))))) r ∧ [] = Hs') (TV.Le (.c (.a (.fz (.bool false)))) r ∧ [] = Hs')) := by kernel_rfl
/-- lambent/lex.small -/
def lv48 : List (Nat × List Nat) := []
theorem v48 (c : Int) (r : TV) (Hs' : List AObj) : vcE Tryd.prog sh lv48 48 [(.c (.a (.fz (.int .u8 c))))] [] (fun r0 Hs0 => TV.Le r0 r ∧ Hs0 = Hs') (RPt Tryd.prog 48 0 r Hs') =
    (br (decide (((97 : Int) : Int) ≤ c)) (TV.Le (.c (.a (.fz (.bool (decide ((c : Int) ≤ (122 : Int))))))) r ∧ [] = Hs') (TV.Le (.c (.a (.fz (.bool false)))) r ∧ [] = Hs')) := by kernel_rfl
/-- lambent/lex.run -/
def lv49 : List (Nat × List Nat) := [(1, [0, 1, 7, 8])]
theorem v49 (s : List UInt8) (r : TV) (Hs' : List AObj) : vcE Tryd.prog sh lv49 49 [(.c (.a (.fz (.str s)))), (.c (.fn (.func 50) [] []))] [] (fun r0 Hs0 => TV.Le r0 r ∧ Hs0 = Hs') (RPt Tryd.prog 49 0 r Hs') =
    (RPt Tryd.prog 49 0 r Hs' 1 ⟨[(0, (.c (.a (.fz (.str s))))), (1, (.c (.fn (.func 50) [] []))), (7, (.c (.a (.fz (.int .i64 (((List.length s) : Nat) : Int)))))), (8, (.c (.a (.fz (.int .i64 (0 : Int))))))], [], 0⟩) := by kernel_rfl
theorem v49_1a (x0 : List UInt8) (x7 : Int) (x8 : Int) (r : TV) (Hs' : List AObj) : vcP Tryd.prog sh lv49 49 0 (fun r0 Hs0 => TV.Le r0 r ∧ Hs0 = Hs') (RPt Tryd.prog 49 0 r Hs') 1 ⟨[(0, (.c (.a (.fz (.str x0))))), (1, (.c (.fn (.func 50) [] []))), (7, (.c (.a (.fz (.int .i64 x7))))), (8, (.c (.a (.fz (.int .i64 x8)))))], [], 0⟩ =
    (br (decide ((x8 : Int) < x7)) ((0 ≤ x8 ∧ x8 < (((List.length x0) : Nat) : Int)) ∧ (∃ b1 : Bool, ((AC Tryd.prog 50 [(.c (.a (.fz (.int .u8 ((UInt8.toNat (List.getD x0 (Int.toNat x8) 0) : Nat) : Int)))))] [] (.c (.a (.fz (.bool b1)))) []) ∧ (br (!b1) (TV.Le (.c (.a (.fz (.int .i64 x8)))) r ∧ [] = Hs') (RPt Tryd.prog 49 0 r Hs' 1 ⟨[(0, (.c (.a (.fz (.str x0))))), (1, (.c (.fn (.func 50) [] []))), (7, (.c (.a (.fz (.int .i64 x7))))), (8, (.c (.a (.fz (.int .i64 (IntKind.wrap .i64 (x8 + (1 : Int))))))))], [], 0⟩))))) (TV.Le (.c (.a (.fz (.int .i64 (((List.length x0) : Nat) : Int))))) r ∧ [] = Hs')) := by kernel_rfl
/-- lambent/lex.run -/
theorem v49_i1 (s : List UInt8) (r : TV) (Hs' : List AObj) : vcE Tryd.prog sh lv49 49 [(.c (.a (.fz (.str s)))), (.c (.fn (.func 51) [] []))] [] (fun r0 Hs0 => TV.Le r0 r ∧ Hs0 = Hs') (RPt Tryd.prog 49 0 r Hs') =
    (RPt Tryd.prog 49 0 r Hs' 1 ⟨[(0, (.c (.a (.fz (.str s))))), (1, (.c (.fn (.func 51) [] []))), (7, (.c (.a (.fz (.int .i64 (((List.length s) : Nat) : Int)))))), (8, (.c (.a (.fz (.int .i64 (0 : Int))))))], [], 0⟩) := by kernel_rfl
theorem v49_i1_1a (x0 : List UInt8) (x7 : Int) (x8 : Int) (r : TV) (Hs' : List AObj) : vcP Tryd.prog sh lv49 49 0 (fun r0 Hs0 => TV.Le r0 r ∧ Hs0 = Hs') (RPt Tryd.prog 49 0 r Hs') 1 ⟨[(0, (.c (.a (.fz (.str x0))))), (1, (.c (.fn (.func 51) [] []))), (7, (.c (.a (.fz (.int .i64 x7))))), (8, (.c (.a (.fz (.int .i64 x8)))))], [], 0⟩ =
    (br (decide ((x8 : Int) < x7)) ((0 ≤ x8 ∧ x8 < (((List.length x0) : Nat) : Int)) ∧ (∃ b1 : Bool, ((AC Tryd.prog 51 [(.c (.a (.fz (.int .u8 ((UInt8.toNat (List.getD x0 (Int.toNat x8) 0) : Nat) : Int)))))] [] (.c (.a (.fz (.bool b1)))) []) ∧ (br (!b1) (TV.Le (.c (.a (.fz (.int .i64 x8)))) r ∧ [] = Hs') (RPt Tryd.prog 49 0 r Hs' 1 ⟨[(0, (.c (.a (.fz (.str x0))))), (1, (.c (.fn (.func 51) [] []))), (7, (.c (.a (.fz (.int .i64 x7))))), (8, (.c (.a (.fz (.int .i64 (IntKind.wrap .i64 (x8 + (1 : Int))))))))], [], 0⟩))))) (TV.Le (.c (.a (.fz (.int .i64 (((List.length x0) : Nat) : Int))))) r ∧ [] = Hs')) := by kernel_rfl
/-- strings.Contains -/
def lv52 : List (Nat × List Nat) := []
theorem v52 (s : List UInt8) (substr : List UInt8) (r : TV) (Hs' : List AObj) : vcE Tryd.prog sh lv52 52 [(.c (.a (.fz (.str s)))), (.c (.a (.fz (.str substr))))] [] (fun r0 Hs0 => TV.Le r0 r ∧ Hs0 = Hs') (RPt Tryd.prog 52 0 r Hs') =
    (∃ n1 : Int, ((AC Tryd.prog 61 [(.c (.a (.fz (.str s)))), (.c (.a (.fz (.str substr))))] [] (.c (.a (.fz (.int .i64 n1)))) []) ∧ (TV.Le (.c (.a (.fz (.bool (decide ((n1 : Int) ≥ (0 : Int))))))) r ∧ [] = Hs'))) := by kernel_rfl
/-- lambent/lex.inside -/
def lv50 : List (Nat × List Nat) := []
theorem v50 (c : Int) (r : TV) (Hs' : List AObj) : vcE Tryd.prog sh lv50 50 [(.c (.a (.fz (.int .u8 c))))] [] (fun r0 Hs0 => TV.Le r0 r ∧ Hs0 = Hs') (RPt Tryd.prog 50 0 r Hs') =
    (∃ b1 : Bool, ((AC Tryd.prog 48 [(.c (.a (.fz (.int .u8 c))))] [] (.c (.a (.fz (.bool b1)))) []) ∧ (br b1 (TV.Le (.c (.a (.fz (.bool true)))) r ∧ [] = Hs') (∃ b2 : Bool, ((AC Tryd.prog 58 [(.c (.a (.fz (.int .u8 c))))] [] (.c (.a (.fz (.bool b2)))) []) ∧ (br b2 (TV.Le (.c (.a (.fz (.bool true)))) r ∧ [] = Hs') (∃ b3 : Bool, ((AC Tryd.prog 59 [(.c (.a (.fz (.int .u8 c))))] [] (.c (.a (.fz (.bool b3)))) []) ∧ (br b3 (TV.Le (.c (.a (.fz (.bool true)))) r ∧ [] = Hs') (TV.Le (.c (.a (.fz (.bool ((c : Int) == (39 : Int)))))) r ∧ [] = Hs')))))))))) := by kernel_rfl
/-- lambent/lex.sign -/
def lv51 : List (Nat × List Nat) := []
theorem v51 (c : Int) (r : TV) (Hs' : List AObj) : vcE Tryd.prog sh lv51 51 [(.c (.a (.fz (.int .u8 c))))] [] (fun r0 Hs0 => TV.Le r0 r ∧ Hs0 = Hs') (RPt Tryd.prog 51 0 r Hs') =
    (∃ n1 : Int, ((AC Tryd.prog 60 [(.c (.a (.fz (.str [43, 45, 42, 47, 60, 62, 61, 38, 124, 94, 126, 64, 35, 36, 63, 58])))), (.c (.a (.fz (.int .u8 c))))] [] (.c (.a (.fz (.int .i64 n1)))) []) ∧ (TV.Le (.c (.a (.fz (.bool (decide ((n1 : Int) ≥ (0 : Int))))))) r ∧ [] = Hs'))) := by kernel_rfl
/-- strings.Index -/
def lv61 : List (Nat × List Nat) := []
theorem v61 (s : List UInt8) (substr : List UInt8) (r : TV) (Hs' : List AObj) : vcE Tryd.prog sh lv61 61 [(.c (.a (.fz (.str s)))), (.c (.a (.fz (.str substr))))] [] (fun r0 Hs0 => TV.Le r0 r ∧ Hs0 = Hs') (RPt Tryd.prog 61 0 r Hs') =
    (∃ n1 : Int, ((AC Tryd.prog 68 [(.c (.a (.fz (.str s)))), (.c (.a (.fz (.str substr))))] [] (.c (.a (.fz (.int .i64 n1)))) []) ∧ (TV.Le (.c (.a (.fz (.int .i64 n1)))) r ∧ [] = Hs'))) := by kernel_rfl
/-- lambent/lex.great -/
def lv58 : List (Nat × List Nat) := []
theorem v58 (c : Int) (r : TV) (Hs' : List AObj) : vcE Tryd.prog sh lv58 58 [(.c (.a (.fz (.int .u8 c))))] [] (fun r0 Hs0 => TV.Le r0 r ∧ Hs0 = Hs') (RPt Tryd.prog 58 0 r Hs') =
    (br (decide (((65 : Int) : Int) ≤ c)) (br (decide ((c : Int) ≤ (90 : Int))) (TV.Le (.c (.a (.fz (.bool true)))) r ∧ [] = Hs') (TV.Le (.c (.a (.fz (.bool ((c : Int) == (95 : Int)))))) r ∧ [] = Hs')) (TV.Le (.c (.a (.fz (.bool ((c : Int) == (95 : Int)))))) r ∧ [] = Hs')) := by kernel_rfl
/-- lambent/lex.digit -/
def lv59 : List (Nat × List Nat) := []
theorem v59 (c : Int) (r : TV) (Hs' : List AObj) : vcE Tryd.prog sh lv59 59 [(.c (.a (.fz (.int .u8 c))))] [] (fun r0 Hs0 => TV.Le r0 r ∧ Hs0 = Hs') (RPt Tryd.prog 59 0 r Hs') =
    (br (decide (((48 : Int) : Int) ≤ c)) (TV.Le (.c (.a (.fz (.bool (decide ((c : Int) ≤ (57 : Int))))))) r ∧ [] = Hs') (TV.Le (.c (.a (.fz (.bool false)))) r ∧ [] = Hs')) := by kernel_rfl
/-- strings.IndexByte -/
def lv60 : List (Nat × List Nat) := []
theorem v60 (s : List UInt8) (c : Int) (r : TV) (Hs' : List AObj) : vcE Tryd.prog sh lv60 60 [(.c (.a (.fz (.str s)))), (.c (.a (.fz (.int .u8 c))))] [] (fun r0 Hs0 => TV.Le r0 r ∧ Hs0 = Hs') (RPt Tryd.prog 60 0 r Hs') =
    (∃ n1 : Int, ((AC Tryd.prog 67 [(.c (.a (.fz (.str s)))), (.c (.a (.fz (.int .u8 c))))] [] (.c (.a (.fz (.int .i64 n1)))) []) ∧ (TV.Le (.c (.a (.fz (.int .i64 n1)))) r ∧ [] = Hs'))) := by kernel_rfl
/-- internal/stringslite.Index -/
def lv68 : List (Nat × List Nat) := [(3, [0, 1, 5, 6, 7, 8, 9, 10])]
theorem v68 (s : List UInt8) (substr : List UInt8) (r : TV) (Hs' : List AObj) : vcE Tryd.prog sh lv68 68 [(.c (.a (.fz (.str s)))), (.c (.a (.fz (.str substr))))] [] (fun r0 Hs0 => TV.Le r0 r ∧ Hs0 = Hs') (RPt Tryd.prog 68 0 r Hs') =
    (br (((((List.length substr) : Nat) : Int) : Int) == (0 : Int)) (TV.Le (.c (.a (.fz (.int .i64 (0 : Int))))) r ∧ [] = Hs') (br ((substr : List UInt8) == s) (TV.Le (.c (.a (.fz (.int .i64 (0 : Int))))) r ∧ [] = Hs') (br (((((List.length substr) : Nat) : Int) : Int) == (1 : Int)) ((0 ≤ (0 : Int) ∧ (0 : Int) < (((List.length substr) : Nat) : Int)) ∧ (∃ n1 : Int, ((AC Tryd.prog 67 [(.c (.a (.fz (.str s)))), (.c (.a (.fz (.int .u8 ((UInt8.toNat (List.getD substr 0 0) : Nat) : Int)))))] [] (.c (.a (.fz (.int .i64 n1)))) []) ∧ (TV.Le (.c (.a (.fz (.int .i64 n1)))) r ∧ [] = Hs')))) (br (decide (((((List.length substr) : Nat) : Int) : Int) ≥ (((List.length s) : Nat) : Int))) (TV.Le (.c (.a (.fz (.int .i64 (-1 : Int))))) r ∧ [] = Hs') False)))) := by kernel_rfl
/-- internal/stringslite.IndexByte -/
def lv67 : List (Nat × List Nat) := []
theorem v67 (s : List UInt8) (c : Int) (r : TV) (Hs' : List AObj) : vcE Tryd.prog sh lv67 67 [(.c (.a (.fz (.str s)))), (.c (.a (.fz (.int .u8 c))))] [] (fun r0 Hs0 => TV.Le r0 r ∧ Hs0 = Hs') (RPt Tryd.prog 67 0 r Hs') =
    (∃ n1 : Int, ((AC Tryd.prog 71 [(.c (.a (.fz (.str s)))), (.c (.a (.fz (.int .u8 c))))] [] (.c (.a (.fz (.int .i64 n1)))) []) ∧ (TV.Le (.c (.a (.fz (.int .i64 n1)))) r ∧ [] = Hs'))) := by kernel_rfl
/-- lambent/lambentlaw02.OpsMany -/
def lv6 : List (Nat × List Nat) := [(1, [0, 3, 5, 6, 7, 8])]
theorem v6 (n : Int) (o_0 : List UInt8) (o_1 : Int) (o_2 : Int) (r : TV) (Hs' : List AObj) : vcE Tryd.prog sh lv6 6 [(.c (.a (.fz (.int .i64 n)))), (.agg [(.a (.fz (.str o_0))), (.a (.fz (.int .i64 o_1))), (.a (.fz (.int .i64 o_2)))])] [] (fun r0 Hs0 => TV.Le r0 r ∧ Hs0 = Hs') (RPt Tryd.prog 6 0 r Hs') =
    (∃ b1 : Bool, ((AC Tryd.prog 9 [] [] (.c (.a (.fz (.bool b1)))) []) ∧ (br (!b1) (TV.Le (.c (.a (.fz (.bool false)))) r ∧ [] = Hs') (br (decide ((n : Int) < (0 : Int))) (TV.Le (.c (.a (.fz (.bool b1)))) r ∧ [] = Hs') (br (decide ((n : Int) > (80 : Int))) (TV.Le (.c (.a (.fz (.bool b1)))) r ∧ [] = Hs') (br (decide (((((List.length o_0) : Nat) : Int) : Int) > (100 : Int))) (TV.Le (.c (.a (.fz (.bool b1)))) r ∧ [] = Hs') (∃ z2 : List Opd, ((AC Tryd.prog 20 [] [] (.c (.a (.fz (.sl false 3 (OR z2))))) []) ∧ ((FV.isSl 3 (.sl false 3 (OR z2)) = true) ∧ (RPt Tryd.prog 6 0 r Hs' 1 ⟨[(0, (.c (.a (.fz (.int .i64 n))))), (3, (.c (.a (.ep 0 3 0 0)))), (5, (.c (.a (.fz (.bool b1))))), (6, (.c (.a (.fz (.sl false 3 (OR z2)))))), (7, (.c (.a (.fz (.int .i64 (((List.length (OR z2)) : Nat) : Int)))))), (8, (.c (.a (.fz (.int .i64 (0 : Int))))))], [(0, (.arr 3 [[(.a (.fz (.str o_0))), (.a (.fz (.int .i64 o_1))), (.a (.fz (.int .i64 o_2)))]]))], 1⟩)))))))))) := by kernel_rfl
theorem v6_1a (x0 : Int) (x5 : Bool) (x6 : List (List FV)) (x7 : Int) (x8 : Int) (h0_0 : List UInt8) (h0_1 : Int) (h0_2 : Int) (r : TV) (Hs' : List AObj) : vcP Tryd.prog sh lv6 6 0 (fun r0 Hs0 => TV.Le r0 r ∧ Hs0 = Hs') (RPt Tryd.prog 6 0 r Hs') 1 ⟨[(0, (.c (.a (.fz (.int .i64 x0))))), (3, (.c (.a (.ep 0 3 0 0)))), (5, (.c (.a (.fz (.bool x5))))), (6, (.c (.a (.fz (.sl false 3 x6))))), (7, (.c (.a (.fz (.int .i64 x7))))), (8, (.c (.a (.fz (.int .i64 x8)))))], [(0, (.arr 3 [[(.a (.fz (.str h0_0))), (.a (.fz (.int .i64 h0_1))), (.a (.fz (.int .i64 h0_2)))]]))], 1⟩ =
    (br (decide ((x8 : Int) < x0)) ((IntKind.i64 = IntKind.i64 ∧ (26 : Int) ≠ 0) ∧ ((IntKind.i64 = IntKind.i64 ∧ (26 : Int) ≠ 0) ∧ (((1 + (List.length ([(UInt8.ofNat (Int.toNat (IntKind.wrap .u8 (IntKind.wrap .i64 ((97 : Int) + (IntKind.wrap .i64 (Int.tdiv x8 (26 : Int)))))))), (UInt8.ofNat (Int.toNat (IntKind.wrap .u8 (IntKind.wrap .i64 ((97 : Int) + (Int.tmod x8 (26 : Int)))))))] : List UInt8))) ≤ 1000000000000) ∧ (∃ z1 : List Opd × Int, ((AC Tryd.prog 17 [(.c (.a (.fz (.sl false 3 x6)))), (.agg [(.a (.fz (.str ([120] ++ ([(UInt8.ofNat (Int.toNat (IntKind.wrap .u8 (IntKind.wrap .i64 ((97 : Int) + (IntKind.wrap .i64 (Int.tdiv x8 (26 : Int)))))))), (UInt8.ofNat (Int.toNat (IntKind.wrap .u8 (IntKind.wrap .i64 ((97 : Int) + (Int.tmod x8 (26 : Int)))))))] : List UInt8))))), (.a (.fz (.int .i64 (IntKind.wrap .i64 ((1 : Int) + x8))))), (.a (.fz (.int .i64 (0 : Int))))])] [] (.tup [(false, [(.a (.fz (.sl false 3 (OR z1.1))))]), (false, [(.a (.fz (.int .i64 z1.2)))])]) []) ∧ ((FV.isSl 3 (.sl false 3 x6) = true) ∧ (br (decide (((((List.length x6) : Nat) : Int) : Int) < (64 : Int))) (br ((z1.2 : Int) != (0 : Int)) (TV.Le (.c (.a (.fz (.bool false)))) r ∧ [] = Hs') ((FV.isSl 3 (.sl false 3 (OR z1.1)) = true) ∧ ((FV.isSl 3 (.sl false 3 x6) = true) ∧ (br (((((List.length (OR z1.1)) : Nat) : Int) : Int) != (IntKind.wrap .i64 ((((List.length x6) : Nat) : Int) + (1 : Int)))) (TV.Le (.c (.a (.fz (.bool false)))) r ∧ [] = Hs') ((FV.isSl 3 (.sl false 3 x6) = true) ∧ (br (decide (((((List.length x6) : Nat) : Int) : Int) ≥ (64 : Int))) (br ((z1.2 : Int) != (23 : Int)) (TV.Le (.c (.a (.fz (.bool false)))) r ∧ [] = Hs') ((FV.isSl 3 (.sl false 3 (OR z1.1)) = true) ∧ ((FV.isSl 3 (.sl false 3 x6) = true) ∧ (br (((((List.length (OR z1.1)) : Nat) : Int) : Int) != (((List.length x6) : Nat) : Int)) (TV.Le (.c (.a (.fz (.bool false)))) r ∧ [] = Hs') (RPt Tryd.prog 6 0 r Hs' 1 ⟨[(0, (.c (.a (.fz (.int .i64 x0))))), (3, (.c (.a (.ep 0 3 0 0)))), (5, (.c (.a (.fz (.bool x5))))), (6, (.c (.a (.fz (.sl false 3 (OR z1.1)))))), (7, (.c (.a (.fz (.int .i64 x7))))), (8, (.c (.a (.fz (.int .i64 (IntKind.wrap .i64 (x8 + (1 : Int))))))))], [(0, (.arr 3 [[(.a (.fz (.str h0_0))), (.a (.fz (.int .i64 h0_1))), (.a (.fz (.int .i64 h0_2)))]]))], 1⟩))))) (RPt Tryd.prog 6 0 r Hs' 1 ⟨[(0, (.c (.a (.fz (.int .i64 x0))))), (3, (.c (.a (.ep 0 3 0 0)))), (5, (.c (.a (.fz (.bool x5))))), (6, (.c (.a (.fz (.sl false 3 (OR z1.1)))))), (7, (.c (.a (.fz (.int .i64 x7))))), (8, (.c (.a (.fz (.int .i64 (IntKind.wrap .i64 (x8 + (1 : Int))))))))], [(0, (.arr 3 [[(.a (.fz (.str h0_0))), (.a (.fz (.int .i64 h0_1))), (.a (.fz (.int .i64 h0_2)))]]))], 1⟩))))))) ((FV.isSl 3 (.sl false 3 x6) = true) ∧ (br (decide (((((List.length x6) : Nat) : Int) : Int) ≥ (64 : Int))) (br ((z1.2 : Int) != (23 : Int)) (TV.Le (.c (.a (.fz (.bool false)))) r ∧ [] = Hs') ((FV.isSl 3 (.sl false 3 (OR z1.1)) = true) ∧ ((FV.isSl 3 (.sl false 3 x6) = true) ∧ (br (((((List.length (OR z1.1)) : Nat) : Int) : Int) != (((List.length x6) : Nat) : Int)) (TV.Le (.c (.a (.fz (.bool false)))) r ∧ [] = Hs') (RPt Tryd.prog 6 0 r Hs' 1 ⟨[(0, (.c (.a (.fz (.int .i64 x0))))), (3, (.c (.a (.ep 0 3 0 0)))), (5, (.c (.a (.fz (.bool x5))))), (6, (.c (.a (.fz (.sl false 3 (OR z1.1)))))), (7, (.c (.a (.fz (.int .i64 x7))))), (8, (.c (.a (.fz (.int .i64 (IntKind.wrap .i64 (x8 + (1 : Int))))))))], [(0, (.arr 3 [[(.a (.fz (.str h0_0))), (.a (.fz (.int .i64 h0_1))), (.a (.fz (.int .i64 h0_2)))]]))], 1⟩))))) (RPt Tryd.prog 6 0 r Hs' 1 ⟨[(0, (.c (.a (.fz (.int .i64 x0))))), (3, (.c (.a (.ep 0 3 0 0)))), (5, (.c (.a (.fz (.bool x5))))), (6, (.c (.a (.fz (.sl false 3 (OR z1.1)))))), (7, (.c (.a (.fz (.int .i64 x7))))), (8, (.c (.a (.fz (.int .i64 (IntKind.wrap .i64 (x8 + (1 : Int))))))))], [(0, (.arr 3 [[(.a (.fz (.str h0_0))), (.a (.fz (.int .i64 h0_1))), (.a (.fz (.int .i64 h0_2)))]]))], 1⟩)))))))))) (∃ z2 : List Opd × Int, ((AC Tryd.prog 17 [(.c (.a (.fz (.sl false 3 x6)))), (.agg [(.a (.fz (.str h0_0))), (.a (.fz (.int .i64 h0_1))), (.a (.fz (.int .i64 h0_2)))])] [] (.tup [(false, [(.a (.fz (.sl false 3 (OR z2.1))))]), (false, [(.a (.fz (.int .i64 z2.2)))])]) []) ∧ (br x5 ((FV.isSl 3 (.sl false 3 x6) = true) ∧ (br (((((List.length x6) : Nat) : Int) : Int) == (foldMin [(IntKind.wrap .i64 (x7 + x0)), (64 : Int)])) (br ((z2.2 : Int) != (0 : Int)) (TV.Le (.c (.a (.fz (.bool true)))) r ∧ [] = Hs') ((FV.isSl 3 (.sl false 3 x6) = true) ∧ (TV.Le (.c (.a (.fz (.bool (decide (((((List.length x6) : Nat) : Int) : Int) < (64 : Int))))))) r ∧ [] = Hs'))) (TV.Le (.c (.a (.fz (.bool false)))) r ∧ [] = Hs'))) (TV.Le (.c (.a (.fz (.bool false)))) r ∧ [] = Hs'))))) := by kernel_rfl
/-- lambent/lambentlaw02.OpsOrder -/
def lv7 : List (Nat × List Nat) := []
theorem v7 (l : List (List FV)) (a_0 : List UInt8) (a_1 : Int) (a_2 : Int) (b_0 : List UInt8) (b_1 : Int) (b_2 : Int) (name : List UInt8) (r : TV) (Hs' : List AObj) : vcE Tryd.prog sh lv7 7 [(.c (.a (.fz (.sl false 3 l)))), (.agg [(.a (.fz (.str a_0))), (.a (.fz (.int .i64 a_1))), (.a (.fz (.int .i64 a_2)))]), (.agg [(.a (.fz (.str b_0))), (.a (.fz (.int .i64 b_1))), (.a (.fz (.int .i64 b_2)))]), (.c (.a (.fz (.str name))))] [] (fun r0 Hs0 => TV.Le r0 r ∧ Hs0 = Hs') (RPt Tryd.prog 7 0 r Hs') =
    (∃ b1 : Bool, ((AC Tryd.prog 9 [] [] (.c (.a (.fz (.bool b1)))) []) ∧ (br (!b1) (TV.Le (.c (.a (.fz (.bool false)))) r ∧ [] = Hs') (∃ b2 : Bool, ((AC Tryd.prog 16 [(.c (.a (.fz (.sl false 3 l))))] [] (.c (.a (.fz (.bool b2)))) []) ∧ (br b2 (TV.Le (.c (.a (.fz (.bool b1)))) r ∧ [] = Hs') (br (decide (((((List.length a_0) : Nat) : Int) : Int) > (100 : Int))) (TV.Le (.c (.a (.fz (.bool b1)))) r ∧ [] = Hs') (br (decide (((((List.length b_0) : Nat) : Int) : Int) > (100 : Int))) (TV.Le (.c (.a (.fz (.bool b1)))) r ∧ [] = Hs') (br (decide (((((List.length name) : Nat) : Int) : Int) > (100 : Int))) (TV.Le (.c (.a (.fz (.bool b1)))) r ∧ [] = Hs') (∃ z3 : List Opd × Int, ((AC Tryd.prog 17 [(.c (.a (.fz (.sl false 3 l)))), (.agg [(.a (.fz (.str a_0))), (.a (.fz (.int .i64 a_1))), (.a (.fz (.int .i64 a_2)))])] [] (.tup [(false, [(.a (.fz (.sl false 3 (OR z3.1))))]), (false, [(.a (.fz (.int .i64 z3.2)))])]) []) ∧ (∃ z4 : List Opd × Int, ((AC Tryd.prog 17 [(.c (.a (.fz (.sl false 3 (OR z3.1))))), (.agg [(.a (.fz (.str b_0))), (.a (.fz (.int .i64 b_1))), (.a (.fz (.int .i64 b_2)))])] [] (.tup [(false, [(.a (.fz (.sl false 3 (OR z4.1))))]), (false, [(.a (.fz (.int .i64 z4.2)))])]) []) ∧ (∃ z5 : List Opd × Int, ((AC Tryd.prog 17 [(.c (.a (.fz (.sl false 3 l)))), (.agg [(.a (.fz (.str b_0))), (.a (.fz (.int .i64 b_1))), (.a (.fz (.int .i64 b_2)))])] [] (.tup [(false, [(.a (.fz (.sl false 3 (OR z5.1))))]), (false, [(.a (.fz (.int .i64 z5.2)))])]) []) ∧ (∃ z6 : List Opd × Int, ((AC Tryd.prog 17 [(.c (.a (.fz (.sl false 3 (OR z5.1))))), (.agg [(.a (.fz (.str a_0))), (.a (.fz (.int .i64 a_1))), (.a (.fz (.int .i64 a_2)))])] [] (.tup [(false, [(.a (.fz (.sl false 3 (OR z6.1))))]), (false, [(.a (.fz (.int .i64 z6.2)))])]) []) ∧ (br ((z3.2 : Int) != (0 : Int)) (br b1 (br ((z5.2 : Int) != (0 : Int)) (TV.Le (.c (.a (.fz (.bool true)))) r ∧ [] = Hs') (TV.Le (.c (.a (.fz (.bool ((z6.2 : Int) != (0 : Int)))))) r ∧ [] = Hs')) (TV.Le (.c (.a (.fz (.bool false)))) r ∧ [] = Hs')) (br ((z4.2 : Int) != (0 : Int)) (br b1 (br ((z5.2 : Int) != (0 : Int)) (TV.Le (.c (.a (.fz (.bool true)))) r ∧ [] = Hs') (TV.Le (.c (.a (.fz (.bool ((z6.2 : Int) != (0 : Int)))))) r ∧ [] = Hs')) (TV.Le (.c (.a (.fz (.bool false)))) r ∧ [] = Hs')) (∃ z7 : Opd × Bool, ((AC Tryd.prog 19 [(.c (.a (.fz (.sl false 3 (OR z4.1))))), (.c (.a (.fz (.str name))))] [] (.tup [(true, [(.a (.fz (.str z7.1.nm))), (.a (.fz (.int .i64 z7.1.pr))), (.a (.fz (.int .i64 z7.1.fx)))]), (false, [(.a (.fz (.bool z7.2)))])]) []) ∧ (∃ z8 : Opd × Bool, ((AC Tryd.prog 19 [(.c (.a (.fz (.sl false 3 (OR z6.1))))), (.c (.a (.fz (.str name))))] [] (.tup [(true, [(.a (.fz (.str z8.1.nm))), (.a (.fz (.int .i64 z8.1.pr))), (.a (.fz (.int .i64 z8.1.fx)))]), (false, [(.a (.fz (.bool z8.2)))])]) []) ∧ (br b1 (br ((z5.2 : Int) == (0 : Int)) (br ((z6.2 : Int) == (0 : Int)) (br (((z7.1.nm : List UInt8) == z8.1.nm) && (((z7.1.pr : Int) == z8.1.pr) && (((z7.1.fx : Int) == z8.1.fx) && true))) (br ((z7.2 : Bool) == z8.2) ((FV.isSl 3 (.sl false 3 (OR z4.1)) = true) ∧ ((FV.isSl 3 (.sl false 3 (OR z6.1)) = true) ∧ (TV.Le (.c (.a (.fz (.bool (((((List.length (OR z4.1)) : Nat) : Int) : Int) == (((List.length (OR z6.1)) : Nat) : Int)))))) r ∧ [] = Hs'))) (TV.Le (.c (.a (.fz (.bool false)))) r ∧ [] = Hs')) (TV.Le (.c (.a (.fz (.bool false)))) r ∧ [] = Hs')) (TV.Le (.c (.a (.fz (.bool false)))) r ∧ [] = Hs')) (TV.Le (.c (.a (.fz (.bool false)))) r ∧ [] = Hs')) (TV.Le (.c (.a (.fz (.bool false)))) r ∧ [] = Hs'))))))))))))))))))))))))) := by kernel_rfl
/-- lambent/lambentlaw02.OpsDeclares -/
def lv8 : List (Nat × List Nat) := []
theorem v8 (l : List (List FV)) (o_0 : List UInt8) (o_1 : Int) (o_2 : Int) (t_0 : Int) (t_1 : List UInt8) (t_2 : Int) (t_3 : Int) (r : TV) (Hs' : List AObj) : vcE Tryd.prog sh lv8 8 [(.c (.a (.fz (.sl false 3 l)))), (.agg [(.a (.fz (.str o_0))), (.a (.fz (.int .i64 o_1))), (.a (.fz (.int .i64 o_2)))]), (.agg [(.a (.fz (.int .i64 t_0))), (.a (.fz (.str t_1))), (.a (.fz (.int .i64 t_2))), (.a (.fz (.int .i64 t_3)))])] [] (fun r0 Hs0 => TV.Le r0 r ∧ Hs0 = Hs') (RPt Tryd.prog 8 0 r Hs') =
    (∃ b1 : Bool, ((AC Tryd.prog 9 [] [] (.c (.a (.fz (.bool b1)))) []) ∧ (br (!b1) (TV.Le (.c (.a (.fz (.bool false)))) r ∧ [] = Hs') (∃ b2 : Bool, ((AC Tryd.prog 16 [(.c (.a (.fz (.sl false 3 l))))] [] (.c (.a (.fz (.bool b2)))) []) ∧ (br b2 (TV.Le (.c (.a (.fz (.bool b1)))) r ∧ [] = Hs') (br (decide (((((List.length o_0) : Nat) : Int) : Int) > (100 : Int))) (TV.Le (.c (.a (.fz (.bool b1)))) r ∧ [] = Hs') (br (decide (((((List.length t_1) : Nat) : Int) : Int) > (100 : Int))) (TV.Le (.c (.a (.fz (.bool b1)))) r ∧ [] = Hs') (∃ z3 : List Opd × Int, ((AC Tryd.prog 17 [(.c (.a (.fz (.sl false 3 l)))), (.agg [(.a (.fz (.str o_0))), (.a (.fz (.int .i64 o_1))), (.a (.fz (.int .i64 o_2)))])] [] (.tup [(false, [(.a (.fz (.sl false 3 (OR z3.1))))]), (false, [(.a (.fz (.int .i64 z3.2)))])]) []) ∧ (∃ n4 : Int, ((AC Tryd.prog 21 [(.c (.a (.fz (.sl false 3 l)))), (.agg [(.a (.fz (.str o_0))), (.a (.fz (.int .i64 o_1))), (.a (.fz (.int .i64 o_2)))])] [] (.c (.a (.fz (.int .i64 n4)))) []) ∧ ((FV.isSl 3 (.sl false 3 l) = true) ∧ (br (List.isEmpty l) (br ((n4 : Int) == (0 : Int)) ((1 ≤ 1) ∧ ((roomB 1 32) ∧ (((3 : Nat) = 3 ∧ 1 ≤ 1) ∧ (∃ b5 : Bool, ((AC Tryd.prog 18 [(.c (.a (.fz (.sl false 3 (OR z3.1))))), (.c (.a (.fz (.sl true 3 [[(.str o_0), (.int .i64 o_1), (.int .i64 o_2)]]))))] [] (.c (.a (.fz (.bool b5)))) []) ∧ ((true = true) ∧ (∃ z6 : Opd × Bool, ((AC Tryd.prog 19 [(.c (.a (.fz (.sl false 3 l)))), (.c (.a (.fz (.str o_0))))] [] (.tup [(true, [(.a (.fz (.str z6.1.nm))), (.a (.fz (.int .i64 z6.1.pr))), (.a (.fz (.int .i64 z6.1.fx)))]), (false, [(.a (.fz (.bool z6.2)))])]) []) ∧ (∃ z7 : Opd × Bool, ((AC Tryd.prog 22 [(.c (.a (.fz (.sl false 3 l)))), (.c (.a (.fz (.str o_0))))] [] (.tup [(true, [(.a (.fz (.str z7.1.nm))), (.a (.fz (.int .i64 z7.1.pr))), (.a (.fz (.int .i64 z7.1.fx)))]), (false, [(.a (.fz (.bool z7.2)))])]) []) ∧ (∃ z8 : Opd × Bool, ((AC Tryd.prog 23 [(.c (.a (.fz (.sl false 3 l)))), (.agg [(.a (.fz (.int .i64 t_0))), (.a (.fz (.str t_1))), (.a (.fz (.int .i64 t_2))), (.a (.fz (.int .i64 t_3)))])] [] (.tup [(true, [(.a (.fz (.str z8.1.nm))), (.a (.fz (.int .i64 z8.1.pr))), (.a (.fz (.int .i64 z8.1.fx)))]), (false, [(.a (.fz (.bool z8.2)))])]) []) ∧ (∃ z9 : Opd × Bool, ((AC Tryd.prog 24 [(.c (.a (.fz (.sl false 3 l)))), (.agg [(.a (.fz (.int .i64 t_0))), (.a (.fz (.str t_1))), (.a (.fz (.int .i64 t_2))), (.a (.fz (.int .i64 t_3)))])] [] (.tup [(true, [(.a (.fz (.str z9.1.nm))), (.a (.fz (.int .i64 z9.1.pr))), (.a (.fz (.int .i64 z9.1.fx)))]), (false, [(.a (.fz (.bool z9.2)))])]) []) ∧ (br b1 (br b5 (br ((z3.2 : Int) == n4) (br (((z6.1.nm : List UInt8) == z7.1.nm) && (((z6.1.pr : Int) == z7.1.pr) && (((z6.1.fx : Int) == z7.1.fx) && true))) (br ((z6.2 : Bool) == z7.2) (br (((z8.1.nm : List UInt8) == z9.1.nm) && (((z8.1.pr : Int) == z9.1.pr) && (((z8.1.fx : Int) == z9.1.fx) && true))) (TV.Le (.c (.a (.fz (.bool ((z8.2 : Bool) == z9.2))))) r ∧ [] = Hs') (TV.Le (.c (.a (.fz (.bool false)))) r ∧ [] = Hs')) (TV.Le (.c (.a (.fz (.bool false)))) r ∧ [] = Hs')) (TV.Le (.c (.a (.fz (.bool false)))) r ∧ [] = Hs')) (TV.Le (.c (.a (.fz (.bool false)))) r ∧ [] = Hs')) (TV.Le (.c (.a (.fz (.bool false)))) r ∧ [] = Hs')) (TV.Le (.c (.a (.fz (.bool false)))) r ∧ [] = Hs')))))))))))))))) (∃ b10 : Bool, ((AC Tryd.prog 18 [(.c (.a (.fz (.sl false 3 (OR z3.1))))), (.c (.a (.fz .nils)))] [] (.c (.a (.fz (.bool b10)))) []) ∧ (∃ z11 : Opd × Bool, ((AC Tryd.prog 19 [(.c (.a (.fz (.sl false 3 l)))), (.c (.a (.fz (.str o_0))))] [] (.tup [(true, [(.a (.fz (.str z11.1.nm))), (.a (.fz (.int .i64 z11.1.pr))), (.a (.fz (.int .i64 z11.1.fx)))]), (false, [(.a (.fz (.bool z11.2)))])]) []) ∧ (∃ z12 : Opd × Bool, ((AC Tryd.prog 22 [(.c (.a (.fz (.sl false 3 l)))), (.c (.a (.fz (.str o_0))))] [] (.tup [(true, [(.a (.fz (.str z12.1.nm))), (.a (.fz (.int .i64 z12.1.pr))), (.a (.fz (.int .i64 z12.1.fx)))]), (false, [(.a (.fz (.bool z12.2)))])]) []) ∧ (∃ z13 : Opd × Bool, ((AC Tryd.prog 23 [(.c (.a (.fz (.sl false 3 l)))), (.agg [(.a (.fz (.int .i64 t_0))), (.a (.fz (.str t_1))), (.a (.fz (.int .i64 t_2))), (.a (.fz (.int .i64 t_3)))])] [] (.tup [(true, [(.a (.fz (.str z13.1.nm))), (.a (.fz (.int .i64 z13.1.pr))), (.a (.fz (.int .i64 z13.1.fx)))]), (false, [(.a (.fz (.bool z13.2)))])]) []) ∧ (∃ z14 : Opd × Bool, ((AC Tryd.prog 24 [(.c (.a (.fz (.sl false 3 l)))), (.agg [(.a (.fz (.int .i64 t_0))), (.a (.fz (.str t_1))), (.a (.fz (.int .i64 t_2))), (.a (.fz (.int .i64 t_3)))])] [] (.tup [(true, [(.a (.fz (.str z14.1.nm))), (.a (.fz (.int .i64 z14.1.pr))), (.a (.fz (.int .i64 z14.1.fx)))]), (false, [(.a (.fz (.bool z14.2)))])]) []) ∧ (br b1 (br b10 (br ((z3.2 : Int) == n4) (br (((z11.1.nm : List UInt8) == z12.1.nm) && (((z11.1.pr : Int) == z12.1.pr) && (((z11.1.fx : Int) == z12.1.fx) && true))) (br ((z11.2 : Bool) == z12.2) (br (((z13.1.nm : List UInt8) == z14.1.nm) && (((z13.1.pr : Int) == z14.1.pr) && (((z13.1.fx : Int) == z14.1.fx) && true))) (TV.Le (.c (.a (.fz (.bool ((z13.2 : Bool) == z14.2))))) r ∧ [] = Hs') (TV.Le (.c (.a (.fz (.bool false)))) r ∧ [] = Hs')) (TV.Le (.c (.a (.fz (.bool false)))) r ∧ [] = Hs')) (TV.Le (.c (.a (.fz (.bool false)))) r ∧ [] = Hs')) (TV.Le (.c (.a (.fz (.bool false)))) r ∧ [] = Hs')) (TV.Le (.c (.a (.fz (.bool false)))) r ∧ [] = Hs')) (TV.Le (.c (.a (.fz (.bool false)))) r ∧ [] = Hs'))))))))))))) ((roomB (List.length l) 32) ∧ (br ((n4 : Int) == (0 : Int)) ((1 ≤ 1) ∧ (((List.length l) ≤ (List.length l) ∧ roomB ((List.length l) + 1) 32) ∧ (((3 : Nat) = 3 ∧ (0 + ((List.length l) + 1)) ≤ (List.length ((List.take (List.length l) l) ++ [[(.str o_0), (.int .i64 o_1), (.int .i64 o_2)]]))) ∧ (∃ b15 : Bool, ((AC Tryd.prog 18 [(.c (.a (.fz (.sl false 3 (OR z3.1))))), (.c (.a (.fz (.sl true 3 (List.take ((List.length l) + 1) (List.drop 0 ((List.take (List.length l) l) ++ [[(.str o_0), (.int .i64 o_1), (.int .i64 o_2)]])))))))] [] (.c (.a (.fz (.bool b15)))) []) ∧ ((true = true) ∧ (∃ z16 : Opd × Bool, ((AC Tryd.prog 19 [(.c (.a (.fz (.sl false 3 l)))), (.c (.a (.fz (.str o_0))))] [] (.tup [(true, [(.a (.fz (.str z16.1.nm))), (.a (.fz (.int .i64 z16.1.pr))), (.a (.fz (.int .i64 z16.1.fx)))]), (false, [(.a (.fz (.bool z16.2)))])]) []) ∧ (∃ z17 : Opd × Bool, ((AC Tryd.prog 22 [(.c (.a (.fz (.sl false 3 l)))), (.c (.a (.fz (.str o_0))))] [] (.tup [(true, [(.a (.fz (.str z17.1.nm))), (.a (.fz (.int .i64 z17.1.pr))), (.a (.fz (.int .i64 z17.1.fx)))]), (false, [(.a (.fz (.bool z17.2)))])]) []) ∧ (∃ z18 : Opd × Bool, ((AC Tryd.prog 23 [(.c (.a (.fz (.sl false 3 l)))), (.agg [(.a (.fz (.int .i64 t_0))), (.a (.fz (.str t_1))), (.a (.fz (.int .i64 t_2))), (.a (.fz (.int .i64 t_3)))])] [] (.tup [(true, [(.a (.fz (.str z18.1.nm))), (.a (.fz (.int .i64 z18.1.pr))), (.a (.fz (.int .i64 z18.1.fx)))]), (false, [(.a (.fz (.bool z18.2)))])]) []) ∧ (∃ z19 : Opd × Bool, ((AC Tryd.prog 24 [(.c (.a (.fz (.sl false 3 l)))), (.agg [(.a (.fz (.int .i64 t_0))), (.a (.fz (.str t_1))), (.a (.fz (.int .i64 t_2))), (.a (.fz (.int .i64 t_3)))])] [] (.tup [(true, [(.a (.fz (.str z19.1.nm))), (.a (.fz (.int .i64 z19.1.pr))), (.a (.fz (.int .i64 z19.1.fx)))]), (false, [(.a (.fz (.bool z19.2)))])]) []) ∧ (br b1 (br b15 (br ((z3.2 : Int) == n4) (br (((z16.1.nm : List UInt8) == z17.1.nm) && (((z16.1.pr : Int) == z17.1.pr) && (((z16.1.fx : Int) == z17.1.fx) && true))) (br ((z16.2 : Bool) == z17.2) (br (((z18.1.nm : List UInt8) == z19.1.nm) && (((z18.1.pr : Int) == z19.1.pr) && (((z18.1.fx : Int) == z19.1.fx) && true))) (TV.Le (.c (.a (.fz (.bool ((z18.2 : Bool) == z19.2))))) r ∧ [] = Hs') (TV.Le (.c (.a (.fz (.bool false)))) r ∧ [] = Hs')) (TV.Le (.c (.a (.fz (.bool false)))) r ∧ [] = Hs')) (TV.Le (.c (.a (.fz (.bool false)))) r ∧ [] = Hs')) (TV.Le (.c (.a (.fz (.bool false)))) r ∧ [] = Hs')) (TV.Le (.c (.a (.fz (.bool false)))) r ∧ [] = Hs')) (TV.Le (.c (.a (.fz (.bool false)))) r ∧ [] = Hs')))))))))))))))) (((3 : Nat) = 3 ∧ (0 + (List.length l)) ≤ (List.length l)) ∧ (∃ b20 : Bool, ((AC Tryd.prog 18 [(.c (.a (.fz (.sl false 3 (OR z3.1))))), (.c (.a (.fz (.sl true 3 (List.take (List.length l) (List.drop 0 l))))))] [] (.c (.a (.fz (.bool b20)))) []) ∧ ((true = true) ∧ (∃ z21 : Opd × Bool, ((AC Tryd.prog 19 [(.c (.a (.fz (.sl false 3 l)))), (.c (.a (.fz (.str o_0))))] [] (.tup [(true, [(.a (.fz (.str z21.1.nm))), (.a (.fz (.int .i64 z21.1.pr))), (.a (.fz (.int .i64 z21.1.fx)))]), (false, [(.a (.fz (.bool z21.2)))])]) []) ∧ (∃ z22 : Opd × Bool, ((AC Tryd.prog 22 [(.c (.a (.fz (.sl false 3 l)))), (.c (.a (.fz (.str o_0))))] [] (.tup [(true, [(.a (.fz (.str z22.1.nm))), (.a (.fz (.int .i64 z22.1.pr))), (.a (.fz (.int .i64 z22.1.fx)))]), (false, [(.a (.fz (.bool z22.2)))])]) []) ∧ (∃ z23 : Opd × Bool, ((AC Tryd.prog 23 [(.c (.a (.fz (.sl false 3 l)))), (.agg [(.a (.fz (.int .i64 t_0))), (.a (.fz (.str t_1))), (.a (.fz (.int .i64 t_2))), (.a (.fz (.int .i64 t_3)))])] [] (.tup [(true, [(.a (.fz (.str z23.1.nm))), (.a (.fz (.int .i64 z23.1.pr))), (.a (.fz (.int .i64 z23.1.fx)))]), (false, [(.a (.fz (.bool z23.2)))])]) []) ∧ (∃ z24 : Opd × Bool, ((AC Tryd.prog 24 [(.c (.a (.fz (.sl false 3 l)))), (.agg [(.a (.fz (.int .i64 t_0))), (.a (.fz (.str t_1))), (.a (.fz (.int .i64 t_2))), (.a (.fz (.int .i64 t_3)))])] [] (.tup [(true, [(.a (.fz (.str z24.1.nm))), (.a (.fz (.int .i64 z24.1.pr))), (.a (.fz (.int .i64 z24.1.fx)))]), (false, [(.a (.fz (.bool z24.2)))])]) []) ∧ (br b1 (br b20 (br ((z3.2 : Int) == n4) (br (((z21.1.nm : List UInt8) == z22.1.nm) && (((z21.1.pr : Int) == z22.1.pr) && (((z21.1.fx : Int) == z22.1.fx) && true))) (br ((z21.2 : Bool) == z22.2) (br (((z23.1.nm : List UInt8) == z24.1.nm) && (((z23.1.pr : Int) == z24.1.pr) && (((z23.1.fx : Int) == z24.1.fx) && true))) (TV.Le (.c (.a (.fz (.bool ((z23.2 : Bool) == z24.2))))) r ∧ [] = Hs') (TV.Le (.c (.a (.fz (.bool false)))) r ∧ [] = Hs')) (TV.Le (.c (.a (.fz (.bool false)))) r ∧ [] = Hs')) (TV.Le (.c (.a (.fz (.bool false)))) r ∧ [] = Hs')) (TV.Le (.c (.a (.fz (.bool false)))) r ∧ [] = Hs')) (TV.Le (.c (.a (.fz (.bool false)))) r ∧ [] = Hs')) (TV.Le (.c (.a (.fz (.bool false)))) r ∧ [] = Hs')))))))))))))))))))))))))))))) := by kernel_rfl
/-- lambent/lambentref02.Declare -/
def lv21 : List (Nat × List Nat) := []
theorem v21 (l : List (List FV)) (o_0 : List UInt8) (o_1 : Int) (o_2 : Int) (r : TV) (Hs' : List AObj) : vcE Tryd.prog sh lv21 21 [(.c (.a (.fz (.sl false 3 l)))), (.agg [(.a (.fz (.str o_0))), (.a (.fz (.int .i64 o_1))), (.a (.fz (.int .i64 o_2)))])] [] (fun r0 Hs0 => TV.Le r0 r ∧ Hs0 = Hs') (RPt Tryd.prog 21 0 r Hs') =
    (br ((o_2 : Int) != (0 : Int)) (br ((o_2 : Int) != (1 : Int)) (br ((o_2 : Int) != (2 : Int)) (TV.Le (.c (.a (.fz (.int .i64 (1 : Int))))) r ∧ [] = Hs') (∃ b1 : Bool, ((AC Tryd.prog 35 [(.c (.a (.fz (.str o_0))))] [] (.c (.a (.fz (.bool b1)))) []) ∧ (∃ b2 : Bool, ((AC Tryd.prog 36 [(.c (.a (.fz (.str o_0))))] [] (.c (.a (.fz (.bool b2)))) []) ∧ (br (!b1) (br (!b2) (TV.Le (.c (.a (.fz (.int .i64 (20 : Int))))) r ∧ [] = Hs') (br ((o_0 : List UInt8) == [33]) (TV.Le (.c (.a (.fz (.int .i64 (20 : Int))))) r ∧ [] = Hs') (br ((o_0 : List UInt8) == [45, 62]) (TV.Le (.c (.a (.fz (.int .i64 (20 : Int))))) r ∧ [] = Hs') (br ((o_0 : List UInt8) == [107, 105, 110, 100]) (TV.Le (.c (.a (.fz (.int .i64 (20 : Int))))) r ∧ [] = Hs') (br ((o_0 : List UInt8) == [116, 121, 112, 101]) (TV.Le (.c (.a (.fz (.int .i64 (20 : Int))))) r ∧ [] = Hs') (br ((o_0 : List UInt8) == [105, 110, 102, 105, 120]) (TV.Le (.c (.a (.fz (.int .i64 (20 : Int))))) r ∧ [] = Hs') (br ((o_0 : List UInt8) == [105, 110, 102, 105, 120, 108]) (TV.Le (.c (.a (.fz (.int .i64 (20 : Int))))) r ∧ [] = Hs') (br ((o_0 : List UInt8) == [105, 110, 102, 105, 120, 114]) (TV.Le (.c (.a (.fz (.int .i64 (20 : Int))))) r ∧ [] = Hs') (br (decide ((o_1 : Int) < (1 : Int))) (TV.Le (.c (.a (.fz (.int .i64 (21 : Int))))) r ∧ [] = Hs') (br (decide ((o_1 : Int) > (200 : Int))) (TV.Le (.c (.a (.fz (.int .i64 (21 : Int))))) r ∧ [] = Hs') (∃ z3 : Opd × Bool, ((AC Tryd.prog 22 [(.c (.a (.fz (.sl false 3 l)))), (.c (.a (.fz (.str o_0))))] [] (.tup [(true, [(.a (.fz (.str z3.1.nm))), (.a (.fz (.int .i64 z3.1.pr))), (.a (.fz (.int .i64 z3.1.fx)))]), (false, [(.a (.fz (.bool z3.2)))])]) []) ∧ (br z3.2 (TV.Le (.c (.a (.fz (.int .i64 (22 : Int))))) r ∧ [] = Hs') ((FV.isSl 3 (.sl false 3 l) = true) ∧ (br (decide (((((List.length l) : Nat) : Int) : Int) ≥ (64 : Int))) (TV.Le (.c (.a (.fz (.int .i64 (23 : Int))))) r ∧ [] = Hs') (TV.Le (.c (.a (.fz (.int .i64 (0 : Int))))) r ∧ [] = Hs')))))))))))))))) (br ((o_0 : List UInt8) == [33]) (TV.Le (.c (.a (.fz (.int .i64 (20 : Int))))) r ∧ [] = Hs') (br ((o_0 : List UInt8) == [45, 62]) (TV.Le (.c (.a (.fz (.int .i64 (20 : Int))))) r ∧ [] = Hs') (br ((o_0 : List UInt8) == [107, 105, 110, 100]) (TV.Le (.c (.a (.fz (.int .i64 (20 : Int))))) r ∧ [] = Hs') (br ((o_0 : List UInt8) == [116, 121, 112, 101]) (TV.Le (.c (.a (.fz (.int .i64 (20 : Int))))) r ∧ [] = Hs') (br ((o_0 : List UInt8) == [105, 110, 102, 105, 120]) (TV.Le (.c (.a (.fz (.int .i64 (20 : Int))))) r ∧ [] = Hs') (br ((o_0 : List UInt8) == [105, 110, 102, 105, 120, 108]) (TV.Le (.c (.a (.fz (.int .i64 (20 : Int))))) r ∧ [] = Hs') (br ((o_0 : List UInt8) == [105, 110, 102, 105, 120, 114]) (TV.Le (.c (.a (.fz (.int .i64 (20 : Int))))) r ∧ [] = Hs') (br (decide ((o_1 : Int) < (1 : Int))) (TV.Le (.c (.a (.fz (.int .i64 (21 : Int))))) r ∧ [] = Hs') (br (decide ((o_1 : Int) > (200 : Int))) (TV.Le (.c (.a (.fz (.int .i64 (21 : Int))))) r ∧ [] = Hs') (∃ z4 : Opd × Bool, ((AC Tryd.prog 22 [(.c (.a (.fz (.sl false 3 l)))), (.c (.a (.fz (.str o_0))))] [] (.tup [(true, [(.a (.fz (.str z4.1.nm))), (.a (.fz (.int .i64 z4.1.pr))), (.a (.fz (.int .i64 z4.1.fx)))]), (false, [(.a (.fz (.bool z4.2)))])]) []) ∧ (br z4.2 (TV.Le (.c (.a (.fz (.int .i64 (22 : Int))))) r ∧ [] = Hs') ((FV.isSl 3 (.sl false 3 l) = true) ∧ (br (decide (((((List.length l) : Nat) : Int) : Int) ≥ (64 : Int))) (TV.Le (.c (.a (.fz (.int .i64 (23 : Int))))) r ∧ [] = Hs') (TV.Le (.c (.a (.fz (.int .i64 (0 : Int))))) r ∧ [] = Hs'))))))))))))))))))))) (∃ b5 : Bool, ((AC Tryd.prog 35 [(.c (.a (.fz (.str o_0))))] [] (.c (.a (.fz (.bool b5)))) []) ∧ (∃ b6 : Bool, ((AC Tryd.prog 36 [(.c (.a (.fz (.str o_0))))] [] (.c (.a (.fz (.bool b6)))) []) ∧ (br (!b5) (br (!b6) (TV.Le (.c (.a (.fz (.int .i64 (20 : Int))))) r ∧ [] = Hs') (br ((o_0 : List UInt8) == [33]) (TV.Le (.c (.a (.fz (.int .i64 (20 : Int))))) r ∧ [] = Hs') (br ((o_0 : List UInt8) == [45, 62]) (TV.Le (.c (.a (.fz (.int .i64 (20 : Int))))) r ∧ [] = Hs') (br ((o_0 : List UInt8) == [107, 105, 110, 100]) (TV.Le (.c (.a (.fz (.int .i64 (20 : Int))))) r ∧ [] = Hs') (br ((o_0 : List UInt8) == [116, 121, 112, 101]) (TV.Le (.c (.a (.fz (.int .i64 (20 : Int))))) r ∧ [] = Hs') (br ((o_0 : List UInt8) == [105, 110, 102, 105, 120]) (TV.Le (.c (.a (.fz (.int .i64 (20 : Int))))) r ∧ [] = Hs') (br ((o_0 : List UInt8) == [105, 110, 102, 105, 120, 108]) (TV.Le (.c (.a (.fz (.int .i64 (20 : Int))))) r ∧ [] = Hs') (br ((o_0 : List UInt8) == [105, 110, 102, 105, 120, 114]) (TV.Le (.c (.a (.fz (.int .i64 (20 : Int))))) r ∧ [] = Hs') (br (decide ((o_1 : Int) < (1 : Int))) (TV.Le (.c (.a (.fz (.int .i64 (21 : Int))))) r ∧ [] = Hs') (br (decide ((o_1 : Int) > (200 : Int))) (TV.Le (.c (.a (.fz (.int .i64 (21 : Int))))) r ∧ [] = Hs') (∃ z7 : Opd × Bool, ((AC Tryd.prog 22 [(.c (.a (.fz (.sl false 3 l)))), (.c (.a (.fz (.str o_0))))] [] (.tup [(true, [(.a (.fz (.str z7.1.nm))), (.a (.fz (.int .i64 z7.1.pr))), (.a (.fz (.int .i64 z7.1.fx)))]), (false, [(.a (.fz (.bool z7.2)))])]) []) ∧ (br z7.2 (TV.Le (.c (.a (.fz (.int .i64 (22 : Int))))) r ∧ [] = Hs') ((FV.isSl 3 (.sl false 3 l) = true) ∧ (br (decide (((((List.length l) : Nat) : Int) : Int) ≥ (64 : Int))) (TV.Le (.c (.a (.fz (.int .i64 (23 : Int))))) r ∧ [] = Hs') (TV.Le (.c (.a (.fz (.int .i64 (0 : Int))))) r ∧ [] = Hs')))))))))))))))) (br ((o_0 : List UInt8) == [33]) (TV.Le (.c (.a (.fz (.int .i64 (20 : Int))))) r ∧ [] = Hs') (br ((o_0 : List UInt8) == [45, 62]) (TV.Le (.c (.a (.fz (.int .i64 (20 : Int))))) r ∧ [] = Hs') (br ((o_0 : List UInt8) == [107, 105, 110, 100]) (TV.Le (.c (.a (.fz (.int .i64 (20 : Int))))) r ∧ [] = Hs') (br ((o_0 : List UInt8) == [116, 121, 112, 101]) (TV.Le (.c (.a (.fz (.int .i64 (20 : Int))))) r ∧ [] = Hs') (br ((o_0 : List UInt8) == [105, 110, 102, 105, 120]) (TV.Le (.c (.a (.fz (.int .i64 (20 : Int))))) r ∧ [] = Hs') (br ((o_0 : List UInt8) == [105, 110, 102, 105, 120, 108]) (TV.Le (.c (.a (.fz (.int .i64 (20 : Int))))) r ∧ [] = Hs') (br ((o_0 : List UInt8) == [105, 110, 102, 105, 120, 114]) (TV.Le (.c (.a (.fz (.int .i64 (20 : Int))))) r ∧ [] = Hs') (br (decide ((o_1 : Int) < (1 : Int))) (TV.Le (.c (.a (.fz (.int .i64 (21 : Int))))) r ∧ [] = Hs') (br (decide ((o_1 : Int) > (200 : Int))) (TV.Le (.c (.a (.fz (.int .i64 (21 : Int))))) r ∧ [] = Hs') (∃ z8 : Opd × Bool, ((AC Tryd.prog 22 [(.c (.a (.fz (.sl false 3 l)))), (.c (.a (.fz (.str o_0))))] [] (.tup [(true, [(.a (.fz (.str z8.1.nm))), (.a (.fz (.int .i64 z8.1.pr))), (.a (.fz (.int .i64 z8.1.fx)))]), (false, [(.a (.fz (.bool z8.2)))])]) []) ∧ (br z8.2 (TV.Le (.c (.a (.fz (.int .i64 (22 : Int))))) r ∧ [] = Hs') ((FV.isSl 3 (.sl false 3 l) = true) ∧ (br (decide (((((List.length l) : Nat) : Int) : Int) ≥ (64 : Int))) (TV.Le (.c (.a (.fz (.int .i64 (23 : Int))))) r ∧ [] = Hs') (TV.Le (.c (.a (.fz (.int .i64 (0 : Int))))) r ∧ [] = Hs'))))))))))))))))))))) (∃ b9 : Bool, ((AC Tryd.prog 35 [(.c (.a (.fz (.str o_0))))] [] (.c (.a (.fz (.bool b9)))) []) ∧ (∃ b10 : Bool, ((AC Tryd.prog 36 [(.c (.a (.fz (.str o_0))))] [] (.c (.a (.fz (.bool b10)))) []) ∧ (br (!b9) (br (!b10) (TV.Le (.c (.a (.fz (.int .i64 (20 : Int))))) r ∧ [] = Hs') (br ((o_0 : List UInt8) == [33]) (TV.Le (.c (.a (.fz (.int .i64 (20 : Int))))) r ∧ [] = Hs') (br ((o_0 : List UInt8) == [45, 62]) (TV.Le (.c (.a (.fz (.int .i64 (20 : Int))))) r ∧ [] = Hs') (br ((o_0 : List UInt8) == [107, 105, 110, 100]) (TV.Le (.c (.a (.fz (.int .i64 (20 : Int))))) r ∧ [] = Hs') (br ((o_0 : List UInt8) == [116, 121, 112, 101]) (TV.Le (.c (.a (.fz (.int .i64 (20 : Int))))) r ∧ [] = Hs') (br ((o_0 : List UInt8) == [105, 110, 102, 105, 120]) (TV.Le (.c (.a (.fz (.int .i64 (20 : Int))))) r ∧ [] = Hs') (br ((o_0 : List UInt8) == [105, 110, 102, 105, 120, 108]) (TV.Le (.c (.a (.fz (.int .i64 (20 : Int))))) r ∧ [] = Hs') (br ((o_0 : List UInt8) == [105, 110, 102, 105, 120, 114]) (TV.Le (.c (.a (.fz (.int .i64 (20 : Int))))) r ∧ [] = Hs') (br (decide ((o_1 : Int) < (1 : Int))) (TV.Le (.c (.a (.fz (.int .i64 (21 : Int))))) r ∧ [] = Hs') (br (decide ((o_1 : Int) > (200 : Int))) (TV.Le (.c (.a (.fz (.int .i64 (21 : Int))))) r ∧ [] = Hs') (∃ z11 : Opd × Bool, ((AC Tryd.prog 22 [(.c (.a (.fz (.sl false 3 l)))), (.c (.a (.fz (.str o_0))))] [] (.tup [(true, [(.a (.fz (.str z11.1.nm))), (.a (.fz (.int .i64 z11.1.pr))), (.a (.fz (.int .i64 z11.1.fx)))]), (false, [(.a (.fz (.bool z11.2)))])]) []) ∧ (br z11.2 (TV.Le (.c (.a (.fz (.int .i64 (22 : Int))))) r ∧ [] = Hs') ((FV.isSl 3 (.sl false 3 l) = true) ∧ (br (decide (((((List.length l) : Nat) : Int) : Int) ≥ (64 : Int))) (TV.Le (.c (.a (.fz (.int .i64 (23 : Int))))) r ∧ [] = Hs') (TV.Le (.c (.a (.fz (.int .i64 (0 : Int))))) r ∧ [] = Hs')))))))))))))))) (br ((o_0 : List UInt8) == [33]) (TV.Le (.c (.a (.fz (.int .i64 (20 : Int))))) r ∧ [] = Hs') (br ((o_0 : List UInt8) == [45, 62]) (TV.Le (.c (.a (.fz (.int .i64 (20 : Int))))) r ∧ [] = Hs') (br ((o_0 : List UInt8) == [107, 105, 110, 100]) (TV.Le (.c (.a (.fz (.int .i64 (20 : Int))))) r ∧ [] = Hs') (br ((o_0 : List UInt8) == [116, 121, 112, 101]) (TV.Le (.c (.a (.fz (.int .i64 (20 : Int))))) r ∧ [] = Hs') (br ((o_0 : List UInt8) == [105, 110, 102, 105, 120]) (TV.Le (.c (.a (.fz (.int .i64 (20 : Int))))) r ∧ [] = Hs') (br ((o_0 : List UInt8) == [105, 110, 102, 105, 120, 108]) (TV.Le (.c (.a (.fz (.int .i64 (20 : Int))))) r ∧ [] = Hs') (br ((o_0 : List UInt8) == [105, 110, 102, 105, 120, 114]) (TV.Le (.c (.a (.fz (.int .i64 (20 : Int))))) r ∧ [] = Hs') (br (decide ((o_1 : Int) < (1 : Int))) (TV.Le (.c (.a (.fz (.int .i64 (21 : Int))))) r ∧ [] = Hs') (br (decide ((o_1 : Int) > (200 : Int))) (TV.Le (.c (.a (.fz (.int .i64 (21 : Int))))) r ∧ [] = Hs') (∃ z12 : Opd × Bool, ((AC Tryd.prog 22 [(.c (.a (.fz (.sl false 3 l)))), (.c (.a (.fz (.str o_0))))] [] (.tup [(true, [(.a (.fz (.str z12.1.nm))), (.a (.fz (.int .i64 z12.1.pr))), (.a (.fz (.int .i64 z12.1.fx)))]), (false, [(.a (.fz (.bool z12.2)))])]) []) ∧ (br z12.2 (TV.Le (.c (.a (.fz (.int .i64 (22 : Int))))) r ∧ [] = Hs') ((FV.isSl 3 (.sl false 3 l) = true) ∧ (br (decide (((((List.length l) : Nat) : Int) : Int) ≥ (64 : Int))) (TV.Le (.c (.a (.fz (.int .i64 (23 : Int))))) r ∧ [] = Hs') (TV.Le (.c (.a (.fz (.int .i64 (0 : Int))))) r ∧ [] = Hs'))))))))))))))))))))) := by kernel_rfl
/-- lambent/lambentref02.Find -/
def lv22 : List (Nat × List Nat) := [(1, [0, 1, 4, 6])]
theorem v22 (l : List (List FV)) (name : List UInt8) (r : TV) (Hs' : List AObj) : vcE Tryd.prog sh lv22 22 [(.c (.a (.fz (.sl false 3 l)))), (.c (.a (.fz (.str name))))] [] (fun r0 Hs0 => TV.Le r0 r ∧ Hs0 = Hs') (RPt Tryd.prog 22 0 r Hs') =
    (RPt Tryd.prog 22 0 r Hs' 1 ⟨[(0, (.c (.a (.fz (.sl false 3 l))))), (1, (.c (.a (.fz (.str name))))), (4, (.c (.a (.ep 0 3 0 0)))), (6, (.c (.a (.fz (.int .i64 (0 : Int))))))], [(0, (.arr 3 [[(.a (.fz (.str []))), (.a (.fz (.int .i64 (0 : Int)))), (.a (.fz (.int .i64 (0 : Int))))]]))], 1⟩) := by kernel_rfl
theorem v22_1a (x0 : List (List FV)) (x1 : List UInt8) (x6 : Int) (h0_0 : List UInt8) (h0_1 : Int) (h0_2 : Int) (r : TV) (Hs' : List AObj) : vcP Tryd.prog sh lv22 22 0 (fun r0 Hs0 => TV.Le r0 r ∧ Hs0 = Hs') (RPt Tryd.prog 22 0 r Hs') 1 ⟨[(0, (.c (.a (.fz (.sl false 3 x0))))), (1, (.c (.a (.fz (.str x1))))), (4, (.c (.a (.ep 0 3 0 0)))), (6, (.c (.a (.fz (.int .i64 x6)))))], [(0, (.arr 3 [[(.a (.fz (.str h0_0))), (.a (.fz (.int .i64 h0_1))), (.a (.fz (.int .i64 h0_2)))]]))], 1⟩ =
    ((FV.isSl 3 (.sl false 3 x0) = true) ∧ (br (decide ((x6 : Int) < (((List.length x0) : Nat) : Int))) (((FV.isSl 3 (.sl false 3 x0) = true) ∧ ((0 ≤ x6) ∧ ((x6 < (((List.length x0) : Nat) : Int)) ∧ (([(.str (FV.asS (List.getD (List.getD x0 (Int.toNat x6) []) 0 FV.nils))), (.int .i64 (FV.asI (List.getD (List.getD x0 (Int.toNat x6) []) 1 FV.nils))), (.int .i64 (FV.asI (List.getD (List.getD x0 (Int.toNat x6) []) 2 FV.nils)))] : List FV) = (List.getD x0 (Int.toNat x6) []))))) ∧ (br (((FV.asS (List.getD (List.getD x0 (Int.toNat x6) []) 0 FV.nils)) : List UInt8) == x1) (((FV.isSl 3 (.sl false 3 x0) = true) ∧ ((0 ≤ x6) ∧ ((x6 < (((List.length x0) : Nat) : Int)) ∧ (([(.str (FV.asS (List.getD (List.getD x0 (Int.toNat x6) []) 0 FV.nils))), (.int .i64 (FV.asI (List.getD (List.getD x0 (Int.toNat x6) []) 1 FV.nils))), (.int .i64 (FV.asI (List.getD (List.getD x0 (Int.toNat x6) []) 2 FV.nils)))] : List FV) = (List.getD x0 (Int.toNat x6) []))))) ∧ (TV.Le (.tup [(true, [(.a (.fz (.str (FV.asS (List.getD (List.getD x0 (Int.toNat x6) []) 0 FV.nils))))), (.a (.fz (.int .i64 (FV.asI (List.getD (List.getD x0 (Int.toNat x6) []) 1 FV.nils))))), (.a (.fz (.int .i64 (FV.asI (List.getD (List.getD x0 (Int.toNat x6) []) 2 FV.nils)))))]), (false, [(.a (.fz (.bool true)))])]) r ∧ [] = Hs')) (RPt Tryd.prog 22 0 r Hs' 1 ⟨[(0, (.c (.a (.fz (.sl false 3 x0))))), (1, (.c (.a (.fz (.str x1))))), (4, (.c (.a (.ep 0 3 0 0)))), (6, (.c (.a (.fz (.int .i64 (IntKind.wrap .i64 (x6 + (1 : Int))))))))], [(0, (.arr 3 [[(.a (.fz (.str h0_0))), (.a (.fz (.int .i64 h0_1))), (.a (.fz (.int .i64 h0_2)))]]))], 1⟩))) (TV.Le (.tup [(true, [(.a (.fz (.str []))), (.a (.fz (.int .i64 (0 : Int)))), (.a (.fz (.int .i64 (0 : Int))))]), (false, [(.a (.fz (.bool false)))])]) r ∧ [] = Hs'))) := by kernel_rfl
/-- lambent/ops.Is -/
def lv23 : List (Nat × List Nat) := []
theorem v23 (l : List (List FV)) (t_0 : Int) (t_1 : List UInt8) (t_2 : Int) (t_3 : Int) (r : TV) (Hs' : List AObj) : vcE Tryd.prog sh lv23 23 [(.c (.a (.fz (.sl false 3 l)))), (.agg [(.a (.fz (.int .i64 t_0))), (.a (.fz (.str t_1))), (.a (.fz (.int .i64 t_2))), (.a (.fz (.int .i64 t_3)))])] [] (fun r0 Hs0 => TV.Le r0 r ∧ Hs0 = Hs') (RPt Tryd.prog 23 0 r Hs') =
    (br ((t_0 : Int) == (1 : Int)) (∃ z1 : Opd × Bool, ((AC Tryd.prog 19 [(.c (.a (.fz (.sl false 3 l)))), (.c (.a (.fz (.str t_1))))] [] (.tup [(true, [(.a (.fz (.str z1.1.nm))), (.a (.fz (.int .i64 z1.1.pr))), (.a (.fz (.int .i64 z1.1.fx)))]), (false, [(.a (.fz (.bool z1.2)))])]) []) ∧ (TV.Le (.tup [(true, [(.a (.fz (.str z1.1.nm))), (.a (.fz (.int .i64 z1.1.pr))), (.a (.fz (.int .i64 z1.1.fx)))]), (false, [(.a (.fz (.bool z1.2)))])]) r ∧ [] = Hs'))) (br ((t_0 : Int) == (4 : Int)) (∃ z2 : Opd × Bool, ((AC Tryd.prog 19 [(.c (.a (.fz (.sl false 3 l)))), (.c (.a (.fz (.str t_1))))] [] (.tup [(true, [(.a (.fz (.str z2.1.nm))), (.a (.fz (.int .i64 z2.1.pr))), (.a (.fz (.int .i64 z2.1.fx)))]), (false, [(.a (.fz (.bool z2.2)))])]) []) ∧ (TV.Le (.tup [(true, [(.a (.fz (.str z2.1.nm))), (.a (.fz (.int .i64 z2.1.pr))), (.a (.fz (.int .i64 z2.1.fx)))]), (false, [(.a (.fz (.bool z2.2)))])]) r ∧ [] = Hs'))) (TV.Le (.tup [(true, [(.a (.fz (.str []))), (.a (.fz (.int .i64 (0 : Int)))), (.a (.fz (.int .i64 (0 : Int))))]), (false, [(.a (.fz (.bool false)))])]) r ∧ [] = Hs'))) := by kernel_rfl
/-- lambent/lambentref02.Is -/
def lv24 : List (Nat × List Nat) := []
theorem v24 (l : List (List FV)) (t_0 : Int) (t_1 : List UInt8) (t_2 : Int) (t_3 : Int) (r : TV) (Hs' : List AObj) : vcE Tryd.prog sh lv24 24 [(.c (.a (.fz (.sl false 3 l)))), (.agg [(.a (.fz (.int .i64 t_0))), (.a (.fz (.str t_1))), (.a (.fz (.int .i64 t_2))), (.a (.fz (.int .i64 t_3)))])] [] (fun r0 Hs0 => TV.Le r0 r ∧ Hs0 = Hs') (RPt Tryd.prog 24 0 r Hs') =
    (br ((t_0 : Int) != (1 : Int)) (br ((t_0 : Int) != (4 : Int)) (TV.Le (.tup [(true, [(.a (.fz (.str []))), (.a (.fz (.int .i64 (0 : Int)))), (.a (.fz (.int .i64 (0 : Int))))]), (false, [(.a (.fz (.bool false)))])]) r ∧ [] = Hs') (∃ z1 : Opd × Bool, ((AC Tryd.prog 22 [(.c (.a (.fz (.sl false 3 l)))), (.c (.a (.fz (.str t_1))))] [] (.tup [(true, [(.a (.fz (.str z1.1.nm))), (.a (.fz (.int .i64 z1.1.pr))), (.a (.fz (.int .i64 z1.1.fx)))]), (false, [(.a (.fz (.bool z1.2)))])]) []) ∧ (TV.Le (.tup [(true, [(.a (.fz (.str z1.1.nm))), (.a (.fz (.int .i64 z1.1.pr))), (.a (.fz (.int .i64 z1.1.fx)))]), (false, [(.a (.fz (.bool z1.2)))])]) r ∧ [] = Hs')))) (∃ z2 : Opd × Bool, ((AC Tryd.prog 22 [(.c (.a (.fz (.sl false 3 l)))), (.c (.a (.fz (.str t_1))))] [] (.tup [(true, [(.a (.fz (.str z2.1.nm))), (.a (.fz (.int .i64 z2.1.pr))), (.a (.fz (.int .i64 z2.1.fx)))]), (false, [(.a (.fz (.bool z2.2)))])]) []) ∧ (TV.Le (.tup [(true, [(.a (.fz (.str z2.1.nm))), (.a (.fz (.int .i64 z2.1.pr))), (.a (.fz (.int .i64 z2.1.fx)))]), (false, [(.a (.fz (.bool z2.2)))])]) r ∧ [] = Hs')))) := by kernel_rfl
/-- lambent/lambentref01.IsName -/
def lv35 : List (Nat × List Nat) := [(1, [0, 3])]
theorem v35 (s : List UInt8) (r : TV) (Hs' : List AObj) : vcE Tryd.prog sh lv35 35 [(.c (.a (.fz (.str s))))] [] (fun r0 Hs0 => TV.Le r0 r ∧ Hs0 = Hs') (RPt Tryd.prog 35 0 r Hs') =
    (br (decide (((((List.length s) : Nat) : Int) : Int) < (1 : Int))) (TV.Le (.c (.a (.fz (.bool false)))) r ∧ [] = Hs') (br (decide (((((List.length s) : Nat) : Int) : Int) > (32 : Int))) (TV.Le (.c (.a (.fz (.bool false)))) r ∧ [] = Hs') ((0 ≤ (0 : Int) ∧ (0 : Int) < (((List.length s) : Nat) : Int)) ∧ (∃ b1 : Bool, ((AC Tryd.prog 43 [(.c (.a (.fz (.int .u8 ((UInt8.toNat (List.getD s 0 0) : Nat) : Int)))))] [] (.c (.a (.fz (.bool b1)))) []) ∧ (br (!b1) (TV.Le (.c (.a (.fz (.bool false)))) r ∧ [] = Hs') (RPt Tryd.prog 35 0 r Hs' 1 ⟨[(0, (.c (.a (.fz (.str s))))), (3, (.c (.a (.fz (.int .i64 (0 : Int))))))], [], 0⟩))))))) := by kernel_rfl
theorem v35_1a (x0 : List UInt8) (x3 : Int) (r : TV) (Hs' : List AObj) : vcP Tryd.prog sh lv35 35 0 (fun r0 Hs0 => TV.Le r0 r ∧ Hs0 = Hs') (RPt Tryd.prog 35 0 r Hs') 1 ⟨[(0, (.c (.a (.fz (.str x0))))), (3, (.c (.a (.fz (.int .i64 x3)))))], [], 0⟩ =
    (br (decide ((x3 : Int) < (((List.length x0) : Nat) : Int))) ((0 ≤ x3 ∧ x3 < (((List.length x0) : Nat) : Int)) ∧ (∃ b1 : Bool, ((AC Tryd.prog 44 [(.c (.a (.fz (.int .u8 ((UInt8.toNat (List.getD x0 (Int.toNat x3) 0) : Nat) : Int)))))] [] (.c (.a (.fz (.bool b1)))) []) ∧ (br (!b1) (TV.Le (.c (.a (.fz (.bool false)))) r ∧ [] = Hs') (RPt Tryd.prog 35 0 r Hs' 1 ⟨[(0, (.c (.a (.fz (.str x0))))), (3, (.c (.a (.fz (.int .i64 (IntKind.wrap .i64 (x3 + (1 : Int))))))))], [], 0⟩))))) (TV.Le (.c (.a (.fz (.bool true)))) r ∧ [] = Hs')) := by kernel_rfl
/-- lambent/lambentref01.IsSym -/
def lv36 : List (Nat × List Nat) := [(1, [0, 3])]
theorem v36 (s : List UInt8) (r : TV) (Hs' : List AObj) : vcE Tryd.prog sh lv36 36 [(.c (.a (.fz (.str s))))] [] (fun r0 Hs0 => TV.Le r0 r ∧ Hs0 = Hs') (RPt Tryd.prog 36 0 r Hs') =
    (br ((s : List UInt8) == [44]) (TV.Le (.c (.a (.fz (.bool true)))) r ∧ [] = Hs') (br ((s : List UInt8) == [59]) (TV.Le (.c (.a (.fz (.bool true)))) r ∧ [] = Hs') (br ((s : List UInt8) == [33]) (TV.Le (.c (.a (.fz (.bool true)))) r ∧ [] = Hs') (RPt Tryd.prog 36 0 r Hs' 1 ⟨[(0, (.c (.a (.fz (.str s))))), (3, (.c (.a (.fz (.int .i64 (0 : Int))))))], [], 0⟩)))) := by kernel_rfl
theorem v36_1a (x0 : List UInt8) (x3 : Int) (r : TV) (Hs' : List AObj) : vcP Tryd.prog sh lv36 36 0 (fun r0 Hs0 => TV.Le r0 r ∧ Hs0 = Hs') (RPt Tryd.prog 36 0 r Hs') 1 ⟨[(0, (.c (.a (.fz (.str x0))))), (3, (.c (.a (.fz (.int .i64 x3)))))], [], 0⟩ =
    (br (decide ((x3 : Int) < (((List.length x0) : Nat) : Int))) ((0 ≤ x3 ∧ x3 < (((List.length x0) : Nat) : Int)) ∧ (∃ b1 : Bool, ((AC Tryd.prog 45 [(.c (.a (.fz (.int .u8 ((UInt8.toNat (List.getD x0 (Int.toNat x3) 0) : Nat) : Int)))))] [] (.c (.a (.fz (.bool b1)))) []) ∧ (br (!b1) (TV.Le (.c (.a (.fz (.bool false)))) r ∧ [] = Hs') (RPt Tryd.prog 36 0 r Hs' 1 ⟨[(0, (.c (.a (.fz (.str x0))))), (3, (.c (.a (.fz (.int .i64 (IntKind.wrap .i64 (x3 + (1 : Int))))))))], [], 0⟩))))) (br (decide (((((List.length x0) : Nat) : Int) : Int) ≥ (1 : Int))) (TV.Le (.c (.a (.fz (.bool (decide (((((List.length x0) : Nat) : Int) : Int) ≤ (32 : Int))))))) r ∧ [] = Hs') (TV.Le (.c (.a (.fz (.bool false)))) r ∧ [] = Hs'))) := by kernel_rfl
/-- lambent/lambentref01.small -/
def lv43 : List (Nat × List Nat) := []
theorem v43 (c : Int) (r : TV) (Hs' : List AObj) : vcE Tryd.prog sh lv43 43 [(.c (.a (.fz (.int .u8 c))))] [] (fun r0 Hs0 => TV.Le r0 r ∧ Hs0 = Hs') (RPt Tryd.prog 43 0 r Hs') =
    (br (decide ((c : Int) ≥ (97 : Int))) (TV.Le (.c (.a (.fz (.bool (decide ((c : Int) ≤ (122 : Int))))))) r ∧ [] = Hs') (TV.Le (.c (.a (.fz (.bool false)))) r ∧ [] = Hs')) := by kernel_rfl
/-- lambent/lambentref01.in -/
def lv44 : List (Nat × List Nat) := []
theorem v44 (c : Int) (r : TV) (Hs' : List AObj) : vcE Tryd.prog sh lv44 44 [(.c (.a (.fz (.int .u8 c))))] [] (fun r0 Hs0 => TV.Le r0 r ∧ Hs0 = Hs') (RPt Tryd.prog 44 0 r Hs') =
    (∃ b1 : Bool, ((AC Tryd.prog 43 [(.c (.a (.fz (.int .u8 c))))] [] (.c (.a (.fz (.bool b1)))) []) ∧ (br b1 (TV.Le (.c (.a (.fz (.bool true)))) r ∧ [] = Hs') (br (decide ((c : Int) ≥ (65 : Int))) (br (decide ((c : Int) ≤ (90 : Int))) (TV.Le (.c (.a (.fz (.bool true)))) r ∧ [] = Hs') (∃ b2 : Bool, ((AC Tryd.prog 53 [(.c (.a (.fz (.int .u8 c))))] [] (.c (.a (.fz (.bool b2)))) []) ∧ (br b2 (TV.Le (.c (.a (.fz (.bool true)))) r ∧ [] = Hs') (br ((c : Int) == (95 : Int)) (TV.Le (.c (.a (.fz (.bool true)))) r ∧ [] = Hs') (TV.Le (.c (.a (.fz (.bool ((c : Int) == (39 : Int)))))) r ∧ [] = Hs')))))) (∃ b3 : Bool, ((AC Tryd.prog 53 [(.c (.a (.fz (.int .u8 c))))] [] (.c (.a (.fz (.bool b3)))) []) ∧ (br b3 (TV.Le (.c (.a (.fz (.bool true)))) r ∧ [] = Hs') (br ((c : Int) == (95 : Int)) (TV.Le (.c (.a (.fz (.bool true)))) r ∧ [] = Hs') (TV.Le (.c (.a (.fz (.bool ((c : Int) == (39 : Int)))))) r ∧ [] = Hs'))))))))) := by kernel_rfl
/-- lambent/lambentref01.sign -/
def lv45 : List (Nat × List Nat) := [(1, [0, 3])]
theorem v45 (c : Int) (r : TV) (Hs' : List AObj) : vcE Tryd.prog sh lv45 45 [(.c (.a (.fz (.int .u8 c))))] [] (fun r0 Hs0 => TV.Le r0 r ∧ Hs0 = Hs') (RPt Tryd.prog 45 0 r Hs') =
    (RPt Tryd.prog 45 0 r Hs' 1 ⟨[(0, (.c (.a (.fz (.int .u8 c))))), (3, (.c (.a (.fz (.int .i64 (0 : Int))))))], [], 0⟩) := by kernel_rfl
theorem v45_1a (x0 : Int) (x3 : Int) (r : TV) (Hs' : List AObj) : vcP Tryd.prog sh lv45 45 0 (fun r0 Hs0 => TV.Le r0 r ∧ Hs0 = Hs') (RPt Tryd.prog 45 0 r Hs') 1 ⟨[(0, (.c (.a (.fz (.int .u8 x0))))), (3, (.c (.a (.fz (.int .i64 x3)))))], [], 0⟩ =
    (br (decide ((x3 : Int) < (16 : Int))) ((0 ≤ x3 ∧ x3 < ((16 : Nat) : Int)) ∧ (br ((((UInt8.toNat (List.getD [43, 45, 42, 47, 60, 62, 61, 38, 124, 94, 126, 64, 35, 36, 63, 58] (Int.toNat x3) 0) : Nat) : Int) : Int) == x0) (TV.Le (.c (.a (.fz (.bool true)))) r ∧ [] = Hs') (RPt Tryd.prog 45 0 r Hs' 1 ⟨[(0, (.c (.a (.fz (.int .u8 x0))))), (3, (.c (.a (.fz (.int .i64 (IntKind.wrap .i64 (x3 + (1 : Int))))))))], [], 0⟩))) (TV.Le (.c (.a (.fz (.bool false)))) r ∧ [] = Hs')) := by kernel_rfl
/-- lambent/lambentref01.digit -/
def lv53 : List (Nat × List Nat) := []
theorem v53 (c : Int) (r : TV) (Hs' : List AObj) : vcE Tryd.prog sh lv53 53 [(.c (.a (.fz (.int .u8 c))))] [] (fun r0 Hs0 => TV.Le r0 r ∧ Hs0 = Hs') (RPt Tryd.prog 53 0 r Hs') =
    (br (decide ((c : Int) ≥ (48 : Int))) (TV.Le (.c (.a (.fz (.bool (decide ((c : Int) ≤ (57 : Int))))))) r ∧ [] = Hs') (TV.Le (.c (.a (.fz (.bool false)))) r ∧ [] = Hs')) := by kernel_rfl
-- STUCK (46, 'internal/strconv.FormatInt', "slice ('c', ('a', ('ep', 288, 24, 0, 0)))", ('internal/strconv.FormatInt', 2, 'itoa.go:40', 'slice'))
end Go.AM

set_option maxRecDepth 100000
open Go Go.Proofs
namespace Go.AM
/-! ### Package lex -/
def smallB (c : Int) : Bool := decide (97 ≤ c) && decide (c ≤ 122)
def greatB (c : Int) : Bool := decide (65 ≤ c) && decide (c ≤ 90) || c == 95
def digitB (c : Int) : Bool := decide (48 ≤ c) && decide (c ≤ 57)
def insideB (c : Int) : Bool := smallB c || greatB c || digitB c || c == 39
def signs : List UInt8 := [43, 45, 42, 47, 60, 62, 61, 38, 124, 94, 126, 64, 35, 36, 63, 58]
def signB (c : Int) : Bool := decide (Lib.indexByte signs c.toNat.toUInt8 ≥ 0)

theorem c_small (c : Int) : AC Tryd.prog 48 [c8 c] [] (cb (smallB c)) [] := by
  refine AC.vc hP sh lv48 (Nat.le_refl _) (by simp) (by simp) (Eq.mpr (v48 ..) ?_)
  refine br_of (fun h => ret_b ?_) (fun h => ret_b ?_) <;> simp_all [smallB] <;> omega
theorem c_great (c : Int) : AC Tryd.prog 58 [c8 c] [] (cb (greatB c)) [] := by
  refine AC.vc hP sh lv58 (Nat.le_refl _) (by simp) (by simp) (Eq.mpr (v58 ..) ?_)
  refine br_of (fun h => br_of (fun h => ret_b ?_) (fun h => ret_b ?_)) (fun h => ret_b ?_) <;> simp_all [greatB] <;> omega
theorem c_digit (c : Int) : AC Tryd.prog 59 [c8 c] [] (cb (digitB c)) [] := by
  refine AC.vc hP sh lv59 (Nat.le_refl _) (by simp) (by simp) (Eq.mpr (v59 ..) ?_)
  refine br_of (fun h => ret_b ?_) (fun h => ret_b ?_) <;> simp_all [digitB] <;> omega
theorem c_inside (c : Int) : AC Tryd.prog 50 [c8 c] [] (cb (insideB c)) [] := by
  refine AC.vc hP sh lv50 (Nat.le_refl _) (by simp) (by simp) (Eq.mpr (v50 ..) ?_)
  refine ⟨_, c_small c, br_of (fun h => ret_b ?_) (fun h => ⟨_, c_great c, br_of (fun h => ret_b ?_) (fun h => ⟨_, c_digit c, br_of (fun h => ret_b ?_) (fun h => ret_b ?_)⟩)⟩)⟩ <;> simp_all [insideB]
theorem c_lindexbyte (s : List UInt8) (c : Int) : AC Tryd.prog 67 [cs s, c8 c] [] (ci (Lib.indexByte s c.toNat.toUInt8)) [] :=
  AC.str_u8 (by kernel_rfl) fun w => Tryd.stringslite_IndexByte ⟨s.toArray⟩ c w
theorem c_indexbyte (s : List UInt8) (c : Int) : AC Tryd.prog 60 [cs s, c8 c] [] (ci (Lib.indexByte s c.toNat.toUInt8)) [] :=
  AC.str_u8 (by kernel_rfl) fun w => Tryd.strings_IndexByte ⟨s.toArray⟩ c w
theorem c_sign (c : Int) : AC Tryd.prog 51 [c8 c] [] (cb (signB c)) [] := by
  refine AC.vc hP sh lv51 (Nat.le_refl _) (by simp) (by simp) (Eq.mpr (v51 ..) ?_)
  exact ⟨_, c_indexbyte _ c, ret_b rfl⟩

/-- How many bytes a text begins with that are such. -/
def runN (p : Int → Bool) : List UInt8 → Nat
  | [] => 0
  | c :: s => if p (c.toNat : Int) then runN p s + 1 else 0
theorem runN_le (p : Int → Bool) : ∀ s : List UInt8, runN p s ≤ s.length
  | [] => Nat.le_refl _
  | c :: s => by have := runN_le p s; simp only [runN, List.length_cons]; split <;> omega
theorem gD_mid8 (a : List UInt8) (c : UInt8) (b : List UInt8) : List.getD (a ++ c :: b) (Int.toNat (a.length : Int)) 0 = c := by simp [List.getD]
theorem l_run_inside : ∀ (b a : List UInt8), (a ++ b).length ≤ B → RPt Tryd.prog 49 0 (ci ((a.length : Int) + runN insideB b)) [] 1 ⟨[(0, cs (a ++ b)), (1, .c (.fn (.func 50) [] [])), (7, ci (((a ++ b).length : Nat) : Int)), (8, ci a.length)], [], 0⟩
  | [], a, hl => by
    refine RPt.vc hP sh lv49 (Eq.mpr (v49_1a ..) ?_)
    exact br_of (fun h => absurd h (by simp)) (fun _ => ret_i (by simp [runN]))
  | c :: b, a, hl => by
    refine RPt.vc hP sh lv49 (Eq.mpr (v49_1a ..) ?_)
    have hl' := hl
    simp only [List.length_append, List.length_cons, B] at hl'
    refine br_of (fun _ => ⟨⟨by omega, by simp; omega⟩, insideB (c.toNat : Int), ?_, br_of (fun h => ret_i ?_) (fun h => ?_)⟩) (fun h => absurd h (by simp; omega))
    · rw [gD_mid8]; exact c_inside _
    · simp_all [runN]
    · have := l_run_inside b (a ++ [c]) (by simpa using hl)
      rw [w64 (by omega) (by omega)]
      simp only [List.append_assoc, List.cons_append, List.nil_append, List.length_append, List.length_cons, List.length_nil, Int.natCast_add, Int.natCast_one, Int.natCast_zero, Int.zero_add] at this
      simp only [Bool.not_eq_false'] at h
      simp only [runN, h, if_true, List.length_append, List.length_cons, Int.natCast_add, Int.natCast_one]
      rw [show (a.length : Int) + ((runN insideB b : Nat) + 1 : Int) = (a.length : Int) + 1 + (runN insideB b : Nat) by omega]
      exact this
theorem c_run_inside (s : List UInt8) (h : s.length ≤ B) : AC Tryd.prog 49 [cs s, .c (.fn (.func 50) [] [])] [] (ci (runN insideB s)) [] := by
  refine AC.vc hP sh lv49 (Nat.le_refl _) (by simp) (by simp) (Eq.mpr (v49 ..) ?_)
  have := l_run_inside s [] (by simpa using h)
  simpa using this
theorem l_run_sign : ∀ (b a : List UInt8), (a ++ b).length ≤ B → RPt Tryd.prog 49 0 (ci ((a.length : Int) + runN signB b)) [] 1 ⟨[(0, cs (a ++ b)), (1, .c (.fn (.func 51) [] [])), (7, ci (((a ++ b).length : Nat) : Int)), (8, ci a.length)], [], 0⟩
  | [], a, hl => by
    refine RPt.vc hP sh lv49 (Eq.mpr (v49_i1_1a ..) ?_)
    exact br_of (fun h => absurd h (by simp)) (fun _ => ret_i (by simp [runN]))
  | c :: b, a, hl => by
    refine RPt.vc hP sh lv49 (Eq.mpr (v49_i1_1a ..) ?_)
    have hl' := hl
    simp only [List.length_append, List.length_cons, B] at hl'
    refine br_of (fun _ => ⟨⟨by omega, by simp; omega⟩, signB (c.toNat : Int), ?_, br_of (fun h => ret_i ?_) (fun h => ?_)⟩) (fun h => absurd h (by simp; omega))
    · rw [gD_mid8]; exact c_sign _
    · simp_all [runN]
    · have := l_run_sign b (a ++ [c]) (by simpa using hl)
      rw [w64 (by omega) (by omega)]
      simp only [List.append_assoc, List.cons_append, List.nil_append, List.length_append, List.length_cons, List.length_nil, Int.natCast_add, Int.natCast_one, Int.natCast_zero, Int.zero_add] at this
      simp only [Bool.not_eq_false'] at h
      simp only [runN, h, if_true, List.length_append, List.length_cons, Int.natCast_add, Int.natCast_one]
      rw [show (a.length : Int) + ((runN signB b : Nat) + 1 : Int) = (a.length : Int) + 1 + (runN signB b : Nat) by omega]
      exact this
theorem c_run_sign (s : List UInt8) (h : s.length ≤ B) : AC Tryd.prog 49 [cs s, .c (.fn (.func 51) [] [])] [] (ci (runN signB s)) [] := by
  refine AC.vc hP sh lv49 (Nat.le_refl _) (by simp) (by simp) (Eq.mpr (v49_i1 ..) ?_)
  have := l_run_sign s [] (by simpa using h)
  simpa using this

theorem runN_all (p : Int → Bool) : ∀ s : List UInt8, (((runN p s : Nat) : Int) == ((s.length : Nat) : Int)) = s.all fun c => p (c.toNat : Int)
  | [] => rfl
  | c :: s => by
    have ih := runN_all p s
    have := runN_le p s
    simp only [runN, List.all_cons, List.length_cons]
    cases h : p (c.toNat : Int) with
    | true => rw [← ih]; simp only [if_true, Bool.true_and]; rw [Bool.eq_iff_iff]; simp <;> omega
    | false => simp; omega
def fitsB (s : List UInt8) : Bool := !(s == []) && decide ((s.length : Int) ≤ 32)
theorem c_fits (s : List UInt8) : AC Tryd.prog 47 [cs s] [] (cb (fitsB s)) [] := by
  refine AC.vc hP sh lv47 (Nat.le_refl _) (by simp) (by simp) (Eq.mpr (v47 ..) ?_)
  refine br_of (fun h => ret_b ?_) (fun h => ret_b ?_) <;> simp_all [fitsB]
/-- A name. -/
def isName (s : List UInt8) : Bool := fitsB s && smallB ((s.getD 0 0).toNat : Int) && s.all fun c => insideB (c.toNat : Int)
theorem fits_le {s : List UInt8} (h : fitsB s = true) : 0 < s.length ∧ s.length ≤ 32 := by
  simp only [fitsB, Bool.and_eq_true, Bool.not_eq_true', decide_eq_true_eq] at h
  refine ⟨?_, by omega⟩
  cases s with
  | nil => simp at h
  | cons c s => simp
theorem c_isname (s : List UInt8) : AC Tryd.prog 39 [cs s] [] (cb (isName s)) [] := by
  refine AC.vc hP sh lv39 (Nat.le_refl _) (by simp) (by simp) (Eq.mpr (v39 ..) ?_)
  refine ⟨_, c_fits s, br_of (fun h => ⟨⟨by omega, by have := fits_le h; omega⟩, _, c_small _, br_of (fun h2 => ⟨_, c_run_inside s (by have := fits_le h; simp only [B]; omega), ret_b ?_⟩) (fun h2 => ret_b ?_)⟩) (fun h => ret_b ?_)⟩
  · rw [runN_all]; simp only [isName, h, h2, Bool.true_and]
  · simp only [isName, h, h2, Bool.and_false, Bool.false_and]
  · simp only [isName, h, Bool.false_and]
def singles : List UInt8 := [44, 59, 33]
theorem c_contains1 (s : List UInt8) (c : UInt8) (hs : s.length ≤ B) : AC Tryd.prog 52 [cs s, cs [c]] [] (cb (decide (Lib.indexByte s c ≥ 0))) [] := by
  have hb : (c.toNat : Int).toNat.toUInt8 = c := by simp
  have h1 : AC Tryd.prog 68 [cs s, cs [c]] [] (ci (if [c] == s then 0 else Lib.indexByte s c)) [] := by
    refine AC.vc hP sh lv68 (Nat.le_refl _) (by simp) (by simp) (Eq.mpr (v68 ..) ?_)
    refine br_of (fun h => absurd h (by simp)) (fun _ => br_of (fun h => ret_i (by simp [h])) (fun h => br_of (fun _ => ⟨⟨by omega, by simp⟩, _, c_lindexbyte s _, ret_i ?_⟩) (fun h2 => absurd h2 (by simp))))
    rw [h]
    simp
  have h2 : AC Tryd.prog 61 [cs s, cs [c]] [] (ci (if [c] == s then 0 else Lib.indexByte s c)) [] := by
    refine AC.vc hP sh lv61 (Nat.le_refl _) (by simp) (by simp) (Eq.mpr (v61 ..) ?_)
    exact ⟨_, h1, ret_i rfl⟩
  refine AC.vc hP sh lv52 (Nat.le_refl _) (by simp) (by simp) (Eq.mpr (v52 ..) ?_)
  refine ⟨_, h2, ret_b ?_⟩
  by_cases e : [c] = s
  · subst e
    simp [Lib.indexByte]
  · have : ([c] == s) = false := by simpa using e
    rw [this]; simp
def isSym (s : List UInt8) : Bool := fitsB s && ((s.all fun c => signB (c.toNat : Int)) || ((s.length : Int) == 1 && decide (Lib.indexByte singles (s.getD 0 0) ≥ 0)))
theorem c_issym (s : List UInt8) : AC Tryd.prog 40 [cs s] [] (cb (isSym s)) [] := by
  refine AC.vc hP sh lv40 (Nat.le_refl _) (by simp) (by simp) (Eq.mpr (v40 ..) ?_)
  refine ⟨_, c_fits s, br_of (fun h => ⟨_, c_run_sign s (by have := fits_le h; simp only [B]; omega), br_of (fun h2 => ret_b ?_) (fun h2 => br_of (fun h3 => ?_) (fun h3 => ret_b ?_))⟩) (fun h => ret_b ?_)⟩
  · rw [runN_all] at h2; simp only [isSym, h, h2, Bool.true_and, Bool.true_or]
  · rw [runN_all] at h2
    match s, h3 with
    | [c], h3 =>
      refine ⟨_, c_contains1 singles c (by simp [singles, B]), ret_b ?_⟩
      simp only [isSym, h, h2, h3, Bool.true_and, Bool.false_or, List.getD_cons_zero]
    | [], h3 => simp at h3
    | _ :: _ :: _, h3 => simp at h3; omega
  · rw [runN_all] at h2; simp only [isSym, h, h2, h3, Bool.false_and, Bool.false_or, Bool.and_false]
  · simp only [isSym, h, Bool.false_and]
end Go.AM

set_option maxRecDepth 100000
open Go Go.Proofs
namespace Go.AM
/-! ### The document's answers: letters -/
theorem c_rsmall (c : Int) : AC Tryd.prog 43 [c8 c] [] (cb (smallB c)) [] := by
  refine AC.vc hP sh lv43 (Nat.le_refl _) (by simp) (by simp) (Eq.mpr (v43 ..) ?_)
  refine br_of (fun h => ret_b ?_) (fun h => ret_b ?_) <;> simp_all [smallB] <;> omega
theorem c_rdigit (c : Int) : AC Tryd.prog 53 [c8 c] [] (cb (digitB c)) [] := by
  refine AC.vc hP sh lv53 (Nat.le_refl _) (by simp) (by simp) (Eq.mpr (v53 ..) ?_)
  refine br_of (fun h => ret_b ?_) (fun h => ret_b ?_) <;> simp_all [digitB] <;> omega
theorem c_rin (c : Int) : AC Tryd.prog 44 [c8 c] [] (cb (insideB c)) [] := by
  refine AC.vc hP sh lv44 (Nat.le_refl _) (by simp) (by simp) (Eq.mpr (v44 ..) ?_)
  have key : (decide (c ≥ 65) && decide (c ≤ 90)) = false → (c == 95) = false → smallB c = false → digitB c = false → (c == 39) = insideB c := fun h1 h2 h3 h4 => by
    have e : greatB c = false := by unfold greatB; rw [h2, show (decide (65 ≤ c) && decide (c ≤ 90)) = false from h1]; rfl
    simp only [insideB, h3, h4, e, Bool.false_or]
  have k1 : smallB c = true → true = insideB c := fun h => by simp only [insideB, h, Bool.true_or]
  have k2 : greatB c = true → true = insideB c := fun h => by simp only [insideB, h, Bool.true_or, Bool.or_true]
  have k3 : digitB c = true → true = insideB c := fun h => by simp only [insideB, h, Bool.true_or, Bool.or_true]
  have k4 : (c == 95) = true → greatB c = true := fun h => by unfold greatB; rw [h]; simp
  refine ⟨_, c_rsmall c, br_of (fun h => ret_b (k1 h)) (fun h => br_of (fun h1 => br_of (fun h2 => ret_b (k2 ?_)) (fun h2 => ⟨_, c_rdigit c, br_of (fun h3 => ret_b (k3 h3)) (fun h3 => br_of (fun h4 => ret_b (k2 (k4 h4))) (fun h4 => ret_b (key ?_ h4 h h3)))⟩)) (fun h1 => ⟨_, c_rdigit c, br_of (fun h3 => ret_b (k3 h3)) (fun h3 => br_of (fun h4 => ret_b (k2 (k4 h4))) (fun h4 => ret_b (key ?_ h4 h h3)))⟩))⟩
  · unfold greatB; rw [show decide (65 ≤ c) = true from h1, h2]; rfl
  · rw [h2]; simp
  · rw [h1]; simp
theorem sign_any (c : UInt8) : signB (c.toNat : Int) = signs.any fun x => ((x.toNat : Int) == (c.toNat : Int)) := by
  have key : ∀ n : Fin 256, signB (n.val : Int) = signs.any fun x => ((x.toNat : Int) == (n.val : Int)) := by decide +kernel
  exact key ⟨c.toNat, c.toNat_lt⟩
theorem l_rsign (c : Int) : ∀ (b a : List UInt8), a ++ b = signs → (a.any fun x => ((x.toNat : Int) == c)) = false →
    RPt Tryd.prog 45 0 (cb (signs.any fun x => ((x.toNat : Int) == c))) [] 1 ⟨[(0, c8 c), (3, ci a.length)], [], 0⟩
  | [], a, hab, ha => by
    rw [List.append_nil] at hab
    subst hab
    refine RPt.vc hP sh lv45 (Eq.mpr (v45_1a ..) ?_)
    exact br_of (fun h => absurd (of_decide_eq_true h) (by decide)) (fun _ => ret_b ha.symm)
  | x :: b, a, hab, ha => by
    have hl : a.length < 16 := by
      have : (a ++ x :: b).length = 16 := by rw [hab]; rfl
      simp at this; omega
    have hg : List.getD signs (Int.toNat (a.length : Int)) 0 = x := by rw [← hab]; exact gD_mid8 a x b
    refine RPt.vc hP sh lv45 (Eq.mpr (v45_1a ..) ?_)
    rw [w64 (x := (a.length : Int) + 1) (by omega) (by omega)]
    refine br_of (fun _ => ⟨⟨by omega, by omega⟩, br_of (fun h => ret_b ?_) (fun h => ?_)⟩) (fun h => absurd (of_decide_eq_false h) (by omega))
    · have h : (((List.getD signs (Int.toNat (a.length : Int)) 0).toNat : Int) == c) = true := h
      rw [hg] at h
      rw [← hab]; simp only [List.any_append, List.any_cons, h, Bool.true_or, Bool.or_true]
    · have h : (((List.getD signs (Int.toNat (a.length : Int)) 0).toNat : Int) == c) = false := h
      rw [hg] at h
      have := l_rsign c b (a ++ [x]) (by rw [ap]; exact hab) (by simp only [List.any_append, List.any_cons, List.any_nil, ha, h, Bool.or_self])
      rw [nx] at this; exact this
theorem c_rsign (c : UInt8) : AC Tryd.prog 45 [c8 (c.toNat : Int)] [] (cb (signB (c.toNat : Int))) [] := by
  rw [sign_any]
  refine AC.vc hP sh lv45 (Nat.le_refl _) (by simp) (by simp) (Eq.mpr (v45 ..) ?_)
  exact l_rsign _ signs [] rfl rfl
theorem l_risname : ∀ (b a : List UInt8), (a ++ b).length ≤ B → RPt Tryd.prog 35 0 (cb (b.all fun c => insideB (c.toNat : Int))) [] 1 ⟨[(0, cs (a ++ b)), (3, ci a.length)], [], 0⟩
  | [], a, _ => by
    refine RPt.vc hP sh lv35 (Eq.mpr (v35_1a ..) ?_)
    exact br_of (fun h => absurd (of_decide_eq_true h) (by simp)) (fun _ => ret_b rfl)
  | x :: b, a, hl => by
    have hl' := hl
    simp only [List.length_append, List.length_cons, B] at hl'
    have h2 := l_risname b (a ++ [x]) (by rw [ap]; exact hl)
    rw [ap, nx] at h2
    refine RPt.vc hP sh lv35 (Eq.mpr (v35_1a ..) ?_)
    rw [gD_mid8, w64 (x := (a.length : Int) + 1) (by omega) (by omega)]
    refine br_of (fun _ => ⟨⟨by omega, ltI a x b⟩, _, c_rin _, br_of (fun h => ret_b ?_) (fun h => ?_)⟩) (fun h => absurd (ltI a x b) (of_decide_eq_false h))
    · rw [List.all_cons, show insideB (x.toNat : Int) = false by simpa using h]; rfl
    · rw [List.all_cons, show insideB (x.toNat : Int) = true by simpa using h]; exact h2
theorem c_risname (s : List UInt8) : AC Tryd.prog 35 [cs s] [] (cb (isName s)) [] := by
  refine AC.vc hP sh lv35 (Nat.le_refl _) (by simp) (by simp) (Eq.mpr (v35 ..) ?_)
  refine br_of (fun h => ret_b ?_) (fun h => br_of (fun h1 => ret_b ?_) (fun h1 => ?_))
  · have h := of_decide_eq_true h
    cases s with
    | nil => rfl
    | cons c s => simp at h; omega
  · have h1 := of_decide_eq_true h1
    have : fitsB s = false := by simp only [fitsB]; rw [show decide ((s.length : Int) ≤ 32) = false by simp; omega]; simp
    simp only [isName, this, Bool.false_and]
  · have h := of_decide_eq_false h
    have h1 := of_decide_eq_false h1
    have hf : fitsB s = true := by
      simp only [fitsB]
      cases s with
      | nil => simp at h
      | cons c s => simp at h1 ⊢; omega
    refine ⟨⟨by omega, by omega⟩, _, c_rsmall _, br_of (fun h2 => ret_b ?_) (fun h2 => ?_)⟩
    · simp only [isName, show smallB ((s.getD 0 0).toNat : Int) = false by simpa using h2, Bool.and_false, Bool.false_and]
    · have := l_risname s [] (by simp only [List.nil_append, B]; omega)
      rw [show isName s = s.all fun c => insideB (c.toNat : Int) by simp only [isName, hf, show smallB ((s.getD 0 0).toNat : Int) = true by simpa using h2, Bool.true_and]]
      exact this
theorem l_rissym (s : List UInt8) : ∀ (b a : List UInt8), a ++ b = s → (s.length ≤ B) →
    RPt Tryd.prog 36 0 (cb ((b.all fun c => signB (c.toNat : Int)) && decide ((s.length : Int) ≥ 1) && decide ((s.length : Int) ≤ 32))) [] 1 ⟨[(0, cs s), (3, ci a.length)], [], 0⟩
  | [], a, hab, _ => by
    rw [List.append_nil] at hab
    subst hab
    refine RPt.vc hP sh lv36 (Eq.mpr (v36_1a ..) ?_)
    refine br_of (fun h => absurd (of_decide_eq_true h) (by omega)) (fun _ => br_of (fun h => ret_b ?_) (fun h => ret_b ?_))
    · rw [h]; simp
    · rw [h]; simp
  | x :: b, a, hab, hl => by
    have h3 := ltI a x b
    have hg := gD_mid8 a x b
    rw [hab] at h3 hg
    have h2 := l_rissym s b (a ++ [x]) (by rw [ap]; exact hab) hl
    rw [nx] at h2
    simp only [B] at hl
    refine RPt.vc hP sh lv36 (Eq.mpr (v36_1a ..) ?_)
    rw [hg, w64 (x := (a.length : Int) + 1) (by omega) (by omega)]
    refine br_of (fun _ => ⟨⟨by omega, h3⟩, _, c_rsign x, br_of (fun h => ret_b ?_) (fun h => ?_)⟩) (fun h => absurd h3 (of_decide_eq_false h))
    · rw [List.all_cons, show signB (x.toNat : Int) = false by simpa using h]; rfl
    · rw [List.all_cons, show signB (x.toNat : Int) = true by simpa using h]; exact h2
theorem sym_eq (s : List UInt8) : isSym s = (s == [44] || s == [59] || s == [33] || ((s.all fun c => signB (c.toNat : Int)) && decide ((s.length : Int) ≥ 1) && decide ((s.length : Int) ≤ 32))) := by
  match s with
  | [] => rfl
  | [c] =>
    have key : ∀ n : Fin 256, isSym [n.val.toUInt8] = ([n.val.toUInt8] == [44] || [n.val.toUInt8] == [59] || [n.val.toUInt8] == [33] || (([n.val.toUInt8].all fun c => signB (c.toNat : Int)) && decide ((([n.val.toUInt8].length : Nat) : Int) ≥ 1) && decide ((([n.val.toUInt8].length : Nat) : Int) ≤ 32))) := by decide +kernel
    have e : c.toNat.toUInt8 = c := by simp
    have := key ⟨c.toNat, c.toNat_lt⟩
    simp only [e] at this
    exact this
  | c :: d :: s =>
    have h2 : ∀ x : UInt8, ((c :: d :: s : List UInt8) == [x]) = false := fun x => by simp
    simp only [isSym, fitsB, h2, Bool.false_or]
    rw [show (((c :: d :: s).length : Int) == 1) = false by simp; omega, show decide (((c :: d :: s).length : Int) ≥ 1) = true by simp; omega]
    simp [Bool.and_comm]
theorem c_rissym (s : List UInt8) (hl : s.length ≤ B) : AC Tryd.prog 36 [cs s] [] (cb (isSym s)) [] := by
  rw [sym_eq]
  refine AC.vc hP sh lv36 (Nat.le_refl _) (by simp) (by simp) (Eq.mpr (v36 ..) ?_)
  refine br_of (fun h => ret_b ?_) (fun h => br_of (fun h1 => ret_b ?_) (fun h1 => br_of (fun h2 => ret_b ?_) (fun h2 => ?_)))
  · rw [h]; rfl
  · rw [h, h1]; rfl
  · rw [h, h1, h2]; rfl
  · rw [h, h1, h2, Bool.false_or, Bool.false_or, Bool.false_or]
    exact l_rissym s s [] rfl hl
end Go.AM

set_option maxRecDepth 100000
open Go Go.Proofs
namespace Go.AM
/-! ### Rows of operators -/
theorem OR_length (l : List Opd) : (OR l).length = l.length := by simp [OR]
theorem OR_append (a b : List Opd) : OR (a ++ b) = OR a ++ OR b := by simp [OR]
theorem midO (a : List Opd) (o : Opd) (b : List Opd) : List.getD (OR (a ++ o :: b)) (Int.toNat (a.length : Int)) [] = Opd.c o := by
  rw [show Int.toNat (a.length : Int) = a.length by omega]; simp [List.getD, OR]
theorem ltO (a : List Opd) (o : Opd) (b : List Opd) : (a.length : Int) < (((OR (a ++ o :: b)).length : Nat) : Int) := by rw [OR_length]; exact ltI a o b
theorem geO (a : List Opd) : ¬ (a.length : Int) < (((OR (a ++ [])).length : Nat) : Int) := by rw [OR_length]; simp
abbrev tO (z : Opd × Bool) : TV := .tup [(true, [.a (.fz (.str z.1.nm)), .a (.fz (.int .i64 z.1.pr)), .a (.fz (.int .i64 z.1.fx))]), (false, [.a (.fz (.bool z.2))])]
theorem leI {x y : Int} (h : x = y) : TV.Le (ci x) (ci y) := by rw [h]; exact .refl _
theorem leB {x y : Bool} (h : x = y) : TV.Le (cb x) (cb y) := by rw [h]; exact .refl _
theorem leO {s : List UInt8} {p f : Int} {b : Bool} {z : Opd × Bool} (h : z = (⟨s, p, f⟩, b)) : TV.Le (.tup [(true, [.a (.fz (.str s)), .a (.fz (.int .i64 p)), .a (.fz (.int .i64 f))]), (false, [.a (.fz (.bool b))])]) (tO z) := by rw [h]; exact .refl _

def findF (n : List UInt8) : List Opd → Opd × Bool
  | [] => (⟨[], 0, 0⟩, false)
  | o :: l => if o.nm == n then (o, true) else findF n l
def idxO (n : List UInt8) : List Opd → Int → Int
  | [], _ => -1
  | o :: l, i => if o.nm == n then i else idxO n l (i + 1)
theorem idxO_spec (n : List UInt8) : ∀ (l : List Opd) (i : Int), (idxO n l i = -1 ∧ findF n l = (⟨[], 0, 0⟩, false)) ∨ ∃ a o b, l = a ++ o :: b ∧ idxO n l i = i + (a.length : Int) ∧ findF n l = (o, true)
  | [], _ => .inl ⟨rfl, rfl⟩
  | x :: l, i => by
    by_cases h : (x.nm == n) = true
    · exact .inr ⟨[], x, l, rfl, by simp [idxO, h], by simp [findF, h]⟩
    · rcases idxO_spec n l (i + 1) with ⟨h1, h2⟩ | ⟨a, o, b, h1, h2, h3⟩
      · exact .inl ⟨by rw [idxO, if_neg h, h1], by rw [findF, if_neg h, h2]⟩
      · exact .inr ⟨x :: a, o, b, by rw [h1]; rfl, by rw [idxO, if_neg h, h2]; simp; omega, by rw [findF, if_neg h, h3]⟩

theorem c_ofindc (o : Opd) (n : List UInt8) : AC Tryd.prog 32 [aO o, .c (.a (.ep 0 1 0 0))] [.arr 1 [[.a (.fz (.str n))]]] (cb (o.nm == n)) [.arr 1 [[.a (.fz (.str n))]]] := by
  refine AC.vc hP sh lv32 (Nat.le_refl _) (by simp [isLive]) (by simp) (Eq.mpr (v32 ..) ?_)
  exact ⟨.refl _, rfl⟩
abbrev fnO : TV := .c (.fn (.func 32) [] [(false, [.ep 0 1 0 0])])
theorem l_oindex (n : List UInt8) : ∀ (b a : List Opd), (a ++ b).length ≤ B → RPt Tryd.prog 31 1 (ci (idxO n b a.length)) [.arr 1 [[.a (.fz (.str n))]]] 1 ⟨[(0, aOs (a ++ b)), (1, fnO), (7, ci (((OR (a ++ b)).length : Nat) : Int)), (8, ci a.length)], [(0, .arr 1 [[.a (.fz (.str n))]])], 1⟩
  | [], a, _ => by
    refine RPt.vc hP sh lv31 (Eq.mpr (v31_1a ..) ?_)
    exact br_of (fun h => absurd (of_decide_eq_true h) (geO a)) (fun _ => ⟨leI rfl, rfl⟩)
  | o :: b, a, hl => by
    have h2 := l_oindex n b (a ++ [o]) (by rw [ap]; exact hl)
    rw [ap, nx] at h2
    simp only [List.length_append, List.length_cons, B] at hl
    refine RPt.vc hP sh lv31 (Eq.mpr (v31_1a ..) ?_)
    rw [midO, w64 (x := (a.length : Int) + 1) (by omega) (by omega)]
    refine br_of (fun _ => ⟨⟨rfl, by omega, ltO a o b, rfl⟩, _, c_ofindc o n, br_of (fun h => ⟨leI ?_, rfl⟩) (fun h => ?_)⟩) (fun h => absurd (ltO a o b) (of_decide_eq_false h))
    · rw [idxO, if_pos h]
    · rw [idxO, if_neg (by rw [h]; simp)]; exact h2
theorem c_oindex (l : List Opd) (n : List UInt8) (hl : l.length ≤ B) : AC Tryd.prog 31 [aOs l, fnO] [.arr 1 [[.a (.fz (.str n))]]] (ci (idxO n l 0)) [.arr 1 [[.a (.fz (.str n))]]] := by
  refine AC.vc hP sh lv31 (Nat.le_refl _) (by simp [isLive]) (by simp) (Eq.mpr (v31 ..) ?_)
  exact ⟨rfl, l_oindex n l [] hl⟩
theorem c_ofind (l : List Opd) (n : List UInt8) (hl : l.length ≤ B) : AC Tryd.prog 19 [aOs l, cs n] [] (tO (findF n l)) [] := by
  refine AC.vc hP sh lv19 (Nat.le_refl _) (by simp) (by simp) (Eq.mpr (v19 ..) ?_)
  refine ⟨_, c_oindex l n hl, ?_⟩
  rcases idxO_spec n l 0 with ⟨h1, h2⟩ | ⟨a, o, b, h1, h2, h3⟩
  · rw [h1, h2]
    exact br_of (fun _ => ret_r (leO rfl)) (fun h => absurd h (by simp))
  · subst h1
    rw [h2, h3, Int.zero_add, midO]
    exact br_of (fun h => absurd (of_decide_eq_true h) (by omega)) (fun _ => ⟨⟨rfl, by omega, ltO a o b, rfl⟩, ret_r (leO rfl)⟩)
theorem l_orfind (n : List UInt8) : ∀ (b a : List Opd), (a ++ b).length ≤ B → RPt Tryd.prog 22 0 (tO (findF n b)) [] 1 ⟨[(0, aOs (a ++ b)), (1, cs n), (4, .c (.a (.ep 0 3 0 0))), (6, ci a.length)], [(0, .arr 3 [[.a (.fz (.str [])), .a (.fz (.int .i64 0)), .a (.fz (.int .i64 0))]])], 1⟩
  | [], a, _ => by
    refine RPt.vc hP sh lv22 (Eq.mpr (v22_1a ..) ?_)
    exact ⟨rfl, br_of (fun h => absurd (of_decide_eq_true h) (geO a)) (fun _ => ret_r (leO rfl))⟩
  | o :: b, a, hl => by
    have h2 := l_orfind n b (a ++ [o]) (by rw [ap]; exact hl)
    rw [ap, nx] at h2
    simp only [List.length_append, List.length_cons, B] at hl
    refine RPt.vc hP sh lv22 (Eq.mpr (v22_1a ..) ?_)
    rw [midO, w64 (x := (a.length : Int) + 1) (by omega) (by omega)]
    refine ⟨rfl, br_of (fun _ => ⟨⟨rfl, by omega, ltO a o b, rfl⟩, br_of (fun h => ⟨⟨rfl, by omega, ltO a o b, rfl⟩, ret_r (leO ?_)⟩) (fun h => ?_)⟩) (fun h => absurd (ltO a o b) (of_decide_eq_false h))⟩
    · rw [findF, if_pos (show (o.nm == n) = true from h)]; rfl
    · rw [findF, if_neg (by rw [show (o.nm == n) = false from h]; simp)]; exact h2
theorem c_orfind (l : List Opd) (n : List UInt8) (hl : l.length ≤ B) : AC Tryd.prog 22 [aOs l, cs n] [] (tO (findF n l)) [] := by
  refine AC.vc hP sh lv22 (Nat.le_refl _) (by simp) (by simp) (Eq.mpr (v22 ..) ?_)
  exact l_orfind n l [] hl
theorem c_ois (l : List Opd) (k n a : Int) (s : List UInt8) (hl : l.length ≤ B) : AC Tryd.prog 23 [aOs l, .agg [.a (.fz (.int .i64 k)), .a (.fz (.str s)), .a (.fz (.int .i64 n)), .a (.fz (.int .i64 a))]] [] (tO (if k = 1 ∨ k = 4 then findF s l else (⟨[], 0, 0⟩, false))) [] := by
  refine AC.vc hP sh lv23 (Nat.le_refl _) (by simp) (by simp) (Eq.mpr (v23 ..) ?_)
  have hc := c_ofind l s hl
  refine br_of (fun h => ⟨_, hc, ret_r (leO ?_)⟩) (fun h => br_of (fun h1 => ⟨_, hc, ret_r (leO ?_)⟩) (fun h1 => ret_r (leO ?_)))
  · rw [if_pos (.inl (by simpa using h))]
  · rw [if_pos (.inr (by simpa using h1))]
  · rw [if_neg (by simp at h h1; omega)]
theorem c_oris (l : List Opd) (k n a : Int) (s : List UInt8) (hl : l.length ≤ B) : AC Tryd.prog 24 [aOs l, .agg [.a (.fz (.int .i64 k)), .a (.fz (.str s)), .a (.fz (.int .i64 n)), .a (.fz (.int .i64 a))]] [] (tO (if k = 1 ∨ k = 4 then findF s l else (⟨[], 0, 0⟩, false))) [] := by
  refine AC.vc hP sh lv24 (Nat.le_refl _) (by simp) (by simp) (Eq.mpr (v24 ..) ?_)
  have hc := c_orfind l s hl
  refine br_of (fun h => br_of (fun h1 => ret_r (leO ?_)) (fun h1 => ⟨_, hc, ret_r (leO ?_)⟩)) (fun h => ⟨_, hc, ret_r (leO ?_)⟩)
  · rw [if_neg (by simp at h h1; omega)]
  · rw [if_pos (.inr (by simpa using h1))]
  · rw [if_pos (.inl (by simpa using h))]
def besideB (a b : Opd) (f : Int) : Bool := decide (b.pr > a.pr) || (b.pr == a.pr && a.fx == f && b.fx == f)
theorem c_obeside (a b : Opd) (f : Int) : AC Tryd.prog 26 [aO a, aO b, ci f] [] (cb (besideB a b f)) [] := by
  refine AC.vc hP sh lv26 (Nat.le_refl _) (by simp) (by simp) (Eq.mpr (v26 ..) ?_)
  refine br_of (fun h => ret_b ?_) (fun h => br_of (fun h1 => br_of (fun h2 => ret_b ?_) (fun h2 => ret_b ?_)) (fun h1 => ret_b ?_)) <;> simp only [besideB, h, *, Bool.true_or, Bool.false_or, Bool.true_and, Bool.false_and]
theorem c_oleft (a b : Opd) : AC Tryd.prog 10 [aO a, aO b] [] (cb (besideB a b 1)) [] := by
  refine AC.vc hP sh lv10 (Nat.le_refl _) (by simp) (by simp) (Eq.mpr (v10 ..) ?_)
  exact ⟨_, c_obeside a b 1, ret_b rfl⟩
theorem c_oright (a b : Opd) : AC Tryd.prog 12 [aO a, aO b] [] (cb (besideB a b 2)) [] := by
  refine AC.vc hP sh lv12 (Nat.le_refl _) (by simp) (by simp) (Eq.mpr (v12 ..) ?_)
  exact ⟨_, c_obeside a b 2, ret_b rfl⟩
theorem c_orleft (a b : Opd) : AC Tryd.prog 11 [aO a, aO b] [] (cb (besideB a b 1)) [] := by
  refine AC.vc hP sh lv11 (Nat.le_refl _) (by simp) (by simp) (Eq.mpr (v11 ..) ?_)
  refine br_of (fun h => ret_b ?_) (fun h => br_of (fun h1 => br_of (fun h2 => ret_b ?_) (fun h2 => ret_b ?_)) (fun h1 => ret_b ?_)) <;> simp only [besideB, h, *, Bool.true_or, Bool.false_or, Bool.true_and, Bool.false_and]
theorem c_orright (a b : Opd) : AC Tryd.prog 13 [aO a, aO b] [] (cb (besideB a b 2)) [] := by
  refine AC.vc hP sh lv13 (Nat.le_refl _) (by simp) (by simp) (Eq.mpr (v13 ..) ?_)
  refine br_of (fun h => ret_b ?_) (fun h => br_of (fun h1 => br_of (fun h2 => ret_b ?_) (fun h2 => ret_b ?_)) (fun h1 => ret_b ?_)) <;> simp only [besideB, h, *, Bool.true_or, Bool.false_or, Bool.true_and, Bool.false_and]
theorem leOp {s : List UInt8} {p f : Int} {z : Opd} (h : z = ⟨s, p, f⟩) : TV.Le (.agg [.a (.fz (.str s)), .a (.fz (.int .i64 p)), .a (.fz (.int .i64 f))]) (aO z) := by rw [h]; exact .refl _
theorem c_oone (s : List UInt8) (p f : Int) : AC Tryd.prog 37 [cs s, ci p, ci f] [] (aO ⟨s, p, f⟩) [] := by
  refine AC.vc hP sh lv37 (Nat.le_refl _) (by simp) (by simp) (Eq.mpr (v37 ..) ?_)
  exact ret_r (leOp rfl)
/-! ### The same, and too much -/
theorem op_eq (x y : Opd) : (x.nm == y.nm && (x.pr == y.pr && (x.fx == y.fx && true))) = decide (x = y) := by
  obtain ⟨a, b, c⟩ := x
  obtain ⟨d, e, f⟩ := y
  by_cases h1 : a = d <;> by_cases h2 : b = e <;> by_cases h3 : c = f <;> simp [h1, h2, h3]
theorem l_osame : ∀ (b b' a a' : List Opd), a.length = a'.length → b.length = b'.length → (a ++ b).length ≤ B → RPt Tryd.prog 18 0 (cb (decide (b = b'))) [] 1 ⟨[(0, aOs (a ++ b)), (1, aOs (a' ++ b')), (5, ci a.length)], [], 0⟩
  | [], b', a, a', _, hb, _ => by
    obtain rfl : b' = [] := List.eq_nil_of_length_eq_zero hb.symm
    refine RPt.vc hP sh lv18 (Eq.mpr (v18_1a ..) ?_)
    exact ⟨rfl, br_of (fun h => absurd (of_decide_eq_true h) (geO a)) (fun _ => ret_b (by simp))⟩
  | x :: b, [], a, a', _, hb, _ => by simp at hb
  | x :: b, y :: b', a, a', ha, hb, hl => by
    have h2 := l_osame b b' (a ++ [x]) (a' ++ [y]) (by simp [ha]) (by simpa using hb) (by rw [ap]; exact hl)
    rw [ap, ap, nx] at h2
    simp only [List.length_append, List.length_cons, B] at hl
    refine RPt.vc hP sh lv18 (Eq.mpr (v18_1a ..) ?_)
    have e2 : List.getD (OR (a' ++ y :: b')) (Int.toNat (a.length : Int)) [] = Opd.c y := by rw [ha]; exact midO a' y b'
    rw [midO, e2, w64 (x := (a.length : Int) + 1) (by omega) (by omega)]
    refine ⟨rfl, br_of (fun _ => ⟨⟨rfl, by omega, ltO a x b, rfl⟩, ⟨rfl, by omega, by rw [ha]; exact ltO a' y b', rfl⟩, br_of (fun h => ret_b ?_) (fun h => ?_)⟩) (fun h => absurd (ltO a x b) (of_decide_eq_false h))⟩
    · have h : (!(x.nm == y.nm && (x.pr == y.pr && (x.fx == y.fx && true)))) = true := h
      rw [op_eq] at h
      have h : ¬ x = y := by simpa using h
      simp [h]
    · have h : (!(x.nm == y.nm && (x.pr == y.pr && (x.fx == y.fx && true)))) = false := h
      rw [op_eq] at h
      have h : x = y := by simpa using h
      rw [show decide (x :: b = y :: b') = decide (b = b') by simp [h]]; exact h2
theorem c_osame (a b : List Opd) (hl : a.length ≤ B) : AC Tryd.prog 18 [aOs a, aOs b] [] (cb (decide (a = b))) [] := by
  refine AC.vc hP sh lv18 (Nat.le_refl _) (by simp) (by simp) (Eq.mpr (v18 ..) ?_)
  refine ⟨rfl, rfl, br_of (fun h => ret_b ?_) (fun h => ?_)⟩
  · have : a ≠ b := fun e => by subst e; simp at h
    simp [this]
  · have : a.length = b.length := by rw [OR_length, OR_length] at h; simp at h; omega
    exact l_osame a b [] [] rfl this hl
def overB (l : List Opd) : Bool := decide ((l.length : Int) > 100) || l.any fun o => decide ((o.nm.length : Int) > 100)
theorem l_oover : ∀ (b a : List Opd), (a ++ b).length ≤ B → RPt Tryd.prog 16 0 (cb (b.any fun o => decide ((o.nm.length : Int) > 100))) [] 1 ⟨[(0, aOs (a ++ b)), (3, ci a.length)], [], 0⟩
  | [], a, _ => by
    refine RPt.vc hP sh lv16 (Eq.mpr (v16_1a ..) ?_)
    exact ⟨rfl, br_of (fun h => absurd (of_decide_eq_true h) (geO a)) (fun _ => ret_b rfl)⟩
  | x :: b, a, hl => by
    have h2 := l_oover b (a ++ [x]) (by rw [ap]; exact hl)
    rw [ap, nx] at h2
    simp only [List.length_append, List.length_cons, B] at hl
    refine RPt.vc hP sh lv16 (Eq.mpr (v16_1a ..) ?_)
    rw [midO, w64 (x := (a.length : Int) + 1) (by omega) (by omega)]
    refine ⟨rfl, br_of (fun _ => ⟨⟨rfl, by omega, ltO a x b, rfl⟩, br_of (fun h => ret_b ?_) (fun h => ?_)⟩) (fun h => absurd (ltO a x b) (of_decide_eq_false h))⟩
    · rw [List.any_cons, show decide ((x.nm.length : Int) > 100) = true from h]; rfl
    · rw [List.any_cons, show decide ((x.nm.length : Int) > 100) = false from h]; exact h2
theorem c_oover (l : List Opd) (hl : l.length ≤ B) : AC Tryd.prog 16 [aOs l] [] (cb (overB l)) [] := by
  refine AC.vc hP sh lv16 (Nat.le_refl _) (by simp) (by simp) (Eq.mpr (v16 ..) ?_)
  refine ⟨rfl, br_of (fun h => ret_b ?_) (fun h => ?_)⟩
  · rw [OR_length] at h; rw [overB, h]; rfl
  · rw [OR_length] at h; rw [overB, h, Bool.false_or]; exact l_oover l [] hl
end Go.AM

set_option maxRecDepth 100000
open Go Go.Proofs
namespace Go.AM
/-! ### To declare -/
def resvB (n : List UInt8) : Bool := n == [33] || n == [45, 62] || n == [107, 105, 110, 100] || n == [116, 121, 112, 101] || n == [105, 110, 102, 105, 120] || n == [105, 110, 102, 105, 120, 108] || n == [105, 110, 102, 105, 120, 114]
theorem c_oreserved (n : List UInt8) : AC Tryd.prog 41 [cs n] [] (cb (resvB n)) [] := by
  refine AC.vc hP sh lv41 (Nat.le_refl _) (by simp) (by simp) (Eq.mpr (v41 ..) ?_)
  unfold resvB
  repeat' (first
    | refine br_of (fun h => ?_) (fun h => ?_)
    | refine ret_b ?_)
  all_goals simp only [*, Bool.true_or, Bool.or_true, Bool.false_or, Bool.or_false]
/-- What is wrong with one more. -/
def wrongF (l : List Opd) (o : Opd) : Int :=
  if o.fx < 0 ∨ o.fx > 2 then 1
  else if (isName o.nm || isSym o.nm) = false ∨ resvB o.nm = true then 20
  else if o.pr < 1 ∨ o.pr > 200 then 21
  else if (findF o.nm l).2 = true then 22
  else if (l.length : Int) ≥ 64 then 23
  else 0
theorem c_owrong (l : List Opd) (o : Opd) (hl : l.length ≤ B) : AC Tryd.prog 29 [aOs l, aO o] [] (ci (wrongF l o)) [] := by
  refine AC.vc hP sh lv29 (Nat.le_refl _) (by simp) (by simp) (Eq.mpr (v29 ..) ?_)
  repeat' (first
    | refine br_of (fun h => ?_) (fun h => ?_)
    | refine ret_i ?_
    | refine Exists.intro _ (And.intro (c_ofind l o.nm hl) ?_)
    | refine Exists.intro _ (And.intro (c_isname _) ?_)
    | refine Exists.intro _ (And.intro (c_issym _) ?_)
    | refine Exists.intro _ (And.intro (c_oreserved _) ?_)
    | refine And.intro rfl ?_)
  all_goals (simp_all [wrongF, OR_length]; try omega)
theorem c_ordeclare (l : List Opd) (o : Opd) (hl : l.length ≤ B) (hn : o.nm.length ≤ B) : AC Tryd.prog 21 [aOs l, aO o] [] (ci (wrongF l o)) [] := by
  refine AC.vc hP sh lv21 (Nat.le_refl _) (by simp) (by simp) (Eq.mpr (v21 ..) ?_)
  repeat' (first
    | refine br_of (fun h => ?_) (fun h => ?_)
    | refine ret_i ?_
    | refine Exists.intro _ (And.intro (c_orfind l o.nm hl) ?_)
    | refine Exists.intro _ (And.intro (c_risname _) ?_)
    | refine Exists.intro _ (And.intro (c_rissym _ hn) ?_)
    | refine And.intro rfl ?_)
  all_goals (simp only [wrongF, resvB, OR_length] at *; simp_all; try omega)
abbrev tD (z : List Opd × Int) : TV := .tup [(false, [.a (.fz (.sl false 3 (OR z.1)))]), (false, [.a (.fz (.int .i64 z.2))])]
theorem leD {x : FV} {n : Int} {z : List Opd × Int} (h : FV.Le x (.sl false 3 (OR z.1))) (hn : z.2 = n) : TV.Le (.tup [(false, [.a (.fz x)]), (false, [.a (.fz (.int .i64 n))])]) (tD z) := by
  subst hn
  refine .tup _ _ rfl fun i p q hp hq => ?_
  match i, hp, hq with
  | 0, hp, hq =>
    simp only [List.getElem?_cons_zero, Option.some.injEq] at hp hq
    subst hp; subst hq
    refine ⟨rfl, rfl, fun j a b ha hb => ?_⟩
    match j, ha, hb with
    | 0, ha, hb =>
      simp only [List.getElem?_cons_zero, Option.some.injEq] at ha hb
      subst ha; subst hb
      exact .a _ _ (.fz _ _ h)
    | j + 1, ha, hb => simp at ha
  | 1, hp, hq =>
    simp only [List.getElem?_cons_zero, List.getElem?_cons_succ, Option.some.injEq] at hp hq
    subst hp; subst hq
    refine ⟨rfl, rfl, fun j a b ha hb => ?_⟩
    rw [ha] at hb; injection hb with hb; subst hb; exact .refl _
  | i + 2, hp, hq => simp at hp
def declF (l : List Opd) (o : Opd) : List Opd × Int := if wrongF l o = 0 then (l ++ [o], 0) else (l, wrongF l o)
theorem roomO {n : Nat} (h : n ≤ 549755813889) : roomB n 32 := by unfold roomB; omega
theorem c_oclone0 : AC Tryd.prog 30 [.c (.a (.fz .nils))] [] (.c (.a (.fz .nils))) [] := by
  refine AC.vc hP sh lv30 (Nat.le_refl _) (by simp) (by simp) (Eq.mpr (v30 ..) ?_)
  exact ⟨.refl _, rfl⟩
theorem c_oclone (es : List (List FV)) (hl : es.length ≤ B) : AC Tryd.prog 30 [.c (.a (.fz (.sl true 3 es)))] [] (.c (.a (.osl 0 3 0 es.length))) [.arz 3 es] := by
  refine AC.vc hP sh lv30 (by simp) (by simp) (by simp [isLive]) (Eq.mpr (v30_i1 ..) ?_)
  simp only [B] at hl
  refine ⟨rfl, ⟨Nat.le_refl _, roomO (by omega)⟩, ?_, rfl⟩
  rw [Nat.zero_add]; exact .refl _
theorem c_odeclare (l : List Opd) (o : Opd) (hl : l.length ≤ B) : AC Tryd.prog 17 [aOs l, aO o] [] (tD (declF l o)) [] := by
  have hw := c_owrong l o hl
  have hb := hl
  simp only [B] at hb
  refine AC.nil_or (fun he => ?_) ?_
  · have he : l = [] := by cases l with | nil => rfl | cons x l => simp [OR] at he
    subst he
    refine AC.vc hP sh lv17 (Nat.le_refl _) (by simp) (by simp) (Eq.mpr (v17 ..) ?_)
    refine ⟨_, hw.args ⟨le_c (.nils 3), .refl _, trivial⟩, br_of (fun h => .inl ⟨(), c_oclone0, ret_r (leD ?_ ?_)⟩) (fun h => .inl ⟨(), c_oclone0, Nat.le_refl _, roomO (by omega), ⟨rfl, Nat.le_refl _⟩, ret_r (leD ?_ ?_)⟩)⟩
    · rw [declF, if_neg (by simpa using h)]; exact .nils 3
    · rw [declF, if_neg (by simpa using h)]
    · rw [declF, if_pos (by simpa using h)]; exact .nn _ _ _
    · rw [declF, if_pos (by simpa using h)]
  · refine AC.vc hP sh lv17 (Nat.le_refl _) (by simp) (by simp) (Eq.mpr (v17_i1 ..) ?_)
    have hcl := c_oclone (OR l) (by rw [OR_length]; simp only [B]; omega)
    refine ⟨_, hw.args ⟨le_c (.nn _ _ _), .refl _, trivial⟩, br_of (fun h => .inr ⟨_, hcl, ⟨rfl, by omega⟩, ret_r (leD ?_ ?_)⟩) (fun h => .inr ⟨_, hcl, Nat.le_refl _, ⟨Nat.le_refl _, roomO (by rw [OR_length]; omega)⟩, ⟨rfl, by simp⟩, ret_r (leD ?_ ?_)⟩)⟩
    · rw [declF, if_neg (by simpa using h), take_all]; exact .nn _ _ _
    · rw [declF, if_neg (by simpa using h)]
    · rw [declF, if_pos (by simpa using h), List.drop_zero, List.take_of_length_le (by simp), List.take_length, OR_append]; exact .nn _ _ _
    · rw [declF, if_pos (by simpa using h)]
end Go.AM

set_option maxRecDepth 100000
open Go Go.Proofs
namespace Go.AM
/-! ### The first operators -/
def NR (l : List (List UInt8)) : List (List FV) := l.map fun s => [.str s]
theorem midS (a : List (List UInt8)) (o : List UInt8) (b : List (List UInt8)) : List.getD (NR (a ++ o :: b)) (Int.toNat (a.length : Int)) [] = [.str o] := by
  rw [show Int.toNat (a.length : Int) = a.length by omega]; simp [List.getD, NR]
theorem NR_length (l : List (List UInt8)) : (NR l).length = l.length := by simp [NR]
def ofN (p f : Int) (l : List (List UInt8)) : List Opd := l.map fun s => ⟨s, p, f⟩
theorem leSO {x y : List (List FV)} {n : Nat} (h : x = y) : TV.Le (.c (.a (.fz (.sl true n x)))) (.c (.a (.fz (.sl false n y)))) := by rw [h]; exact le_c (.nn _ _ _)
theorem l_orow (p f : Int) : ∀ (b a : List (List UInt8)), 0 < a.length → (a ++ b).length ≤ 1000 → RPt Tryd.prog 34 0 (aOs (ofN p f (a ++ b))) [] 1 ⟨[(0, ci p), (1, ci f), (7, .c (.a (.osl 0 3 0 a.length))), (10, .c (.a (.fz (.sl false 1 (NR (a ++ b)))))), (11, ci (((NR (a ++ b)).length : Nat) : Int)), (12, ci a.length)], [(0, .arz 3 (OR (ofN p f a)))], 1⟩
  | [], a, ha, hl => by
    have hla : (OR (ofN p f a)).length = a.length := by simp [OR, ofN]
    refine RPt.vc hP sh lv34 (Eq.mpr (v34_1b ..) ?_)
    refine br_of (fun h => absurd (of_decide_eq_true h) (by rw [NR_length]; simp)) (fun _ => ⟨⟨rfl, by omega⟩, ret_r (leSO ?_)⟩)
    rw [List.drop_zero, List.take_of_length_le (by omega), List.append_nil]
  | s :: b, a, ha, hl => by
    have h2 := l_orow p f b (a ++ [s]) (by simp) (by rw [ap]; exact hl)
    rw [ap, nx] at h2
    simp only [List.length_append, List.length_cons, List.length_nil] at hl h2
    have hla : (OR (ofN p f a)).length = a.length := by simp [OR, ofN]
    have e : List.take a.length (OR (ofN p f a)) ++ [[.str s, .int .i64 p, .int .i64 f]] = OR (ofN p f (a ++ [s])) := by rw [List.take_of_length_le (by omega)]; simp [OR, ofN, Opd.c]
    refine RPt.vc hP sh lv34 (Eq.mpr (v34_1b ..) ?_)
    rw [midS, w64 (x := (a.length : Int) + 1) (by omega) (by omega)]
    refine br_of (fun _ => ⟨⟨rfl, by omega, by rw [NR_length]; exact ltI a s b, rfl⟩, Nat.le_refl _, ⟨by omega, roomO (by omega)⟩, ?_⟩) (fun h => absurd (ltI a s b) (by rw [NR_length] at h; exact of_decide_eq_false h))
    have h3 := h2
    rw [← e] at h3
    exact h3
theorem c_orow (p f : Int) (s : List UInt8) (l : List (List UInt8)) (hl : (s :: l).length ≤ 1000) : AC Tryd.prog 34 [ci p, ci f, .c (.a (.fz (.sl true 1 (NR (s :: l)))))] [] (aOs (ofN p f (s :: l))) [] := by
  refine AC.args (args' := [ci p, ci f, .c (.a (.fz (.sl false 1 (NR (s :: l)))))]) ?_ ⟨.refl _, .refl _, le_c (.nn _ _ _), trivial⟩
  refine AC.vc hP sh lv34 (Nat.le_refl _) (by simp) (by simp) (Eq.mpr (v34 ..) ?_)
  refine ⟨rfl, RPt.vc hP sh lv34 (Eq.mpr (v34_1a ..) ?_)⟩
  refine br_of (fun _ => ⟨⟨rfl, by omega, by rw [NR_length]; simp, rfl⟩, Nat.le_refl _, roomO (by omega), ?_⟩) (fun h => absurd (of_decide_eq_false h) (by rw [NR_length]; simp))
  exact l_orow p f l [s] (by simp) hl
def CR (ls : List (List Opd)) : List (List FV) := ls.map fun l => [.sl false 3 (OR l)]
theorem midC (a : List (List Opd)) (o : List Opd) (b : List (List Opd)) : List.getD (CR (a ++ o :: b)) (Int.toNat (a.length : Int)) [] = [.sl false 3 (OR o)] := by
  rw [show Int.toNat (a.length : Int) = a.length by omega]; simp [List.getD, CR]
theorem CR_length (l : List (List Opd)) : (CR l).length = l.length := by simp [CR]
theorem c_ogrow (n : Int) (h0 : 0 < n) (h1 : n ≤ 1000) : AC Tryd.prog 42 [.c (.a (.fz .nils)), ci n] [] (.c (.a (.osl 0 3 0 0))) [.arz 3 []] := by
  refine AC.vc hP sh lv42 (by simp) (by simp) (by simp [isLive]) (Eq.mpr (v42 ..) ?_)
  rw [w64 (x := n - 0) (by omega) (by omega)]
  exact br_of (fun h => absurd (of_decide_eq_true h) (by omega)) (fun _ => ⟨rfl, br_of (fun _ => ⟨rfl, ⟨by omega, by omega, by omega⟩, ⟨by omega, roomO (by omega)⟩, rfl, ⟨by omega, by omega, by omega⟩, .refl _, rfl⟩) (fun h => absurd (of_decide_eq_false h) (by omega))⟩)
theorem flat_snoc (a : List (List Opd)) (l : List Opd) : (a ++ [l]).flatten = a.flatten ++ l := by simp
theorem l_cat5 : ∀ (b a : List (List Opd)), (a ++ b).length ≤ 1000 → (a ++ b).flatten.length ≤ 1000 → RPt Tryd.prog 33 0 (aOs (a ++ b).flatten) [] 5 ⟨[(6, .c (.a (.osl 0 3 0 a.flatten.length))), (25, .c (.a (.fz (.sl false 1 (CR (a ++ b)))))), (26, ci (((CR (a ++ b)).length : Nat) : Int)), (27, ci a.length)], [(0, .arz 3 (OR a.flatten))], 1⟩
  | [], a, _, _ => by
    refine RPt.vc hP sh lv33 (Eq.mpr (v33_5b ..) ?_)
    refine br_of (fun h => absurd (of_decide_eq_true h) (by rw [CR_length]; simp)) (fun _ => ⟨⟨rfl, by rw [OR_length]; omega⟩, ret_r (leSO ?_)⟩)
    rw [List.drop_zero, List.take_of_length_le (by rw [OR_length]; omega), List.append_nil]
  | l :: b, a, hl, ht => by
    have h2 := l_cat5 b (a ++ [l]) (by rw [ap]; exact hl) (by rw [ap]; exact ht)
    rw [ap, nx, flat_snoc, List.length_append] at h2
    have ht' : a.flatten.length + (l.length + b.flatten.length) ≤ 1000 := by simpa using ht
    simp only [List.length_append, List.length_cons] at hl
    have e : List.take a.flatten.length (OR a.flatten) ++ OR l = OR (a.flatten ++ l) := by rw [List.take_of_length_le (by rw [OR_length]; omega), OR_append]
    refine RPt.vc hP sh lv33 (Eq.mpr (v33_5b ..) ?_)
    rw [midC, w64 (x := (a.length : Int) + 1) (by omega) (by omega)]
    refine br_of (fun _ => ⟨⟨rfl, by omega, by rw [CR_length]; exact ltI a l b, rfl⟩, rfl, ⟨by rw [OR_length]; omega, roomO (by show a.flatten.length + (OR l).length ≤ _; rw [OR_length]; omega)⟩, ?_⟩) (fun h => absurd (ltI a l b) (by rw [CR_length] at h; exact of_decide_eq_false h))
    show RPt _ _ _ _ _ _ ⟨[(6, .c (.a (.osl 0 3 0 (a.flatten.length + (OR l).length)))), _, _, _], [(0, .arz 3 (List.take a.flatten.length (OR a.flatten) ++ OR l))], 1⟩
    rw [e, OR_length]
    exact h2
theorem l_cat1 : ∀ (b a : List (List Opd)), (a ++ b).length ≤ 1000 → (a ++ b).flatten.length ≤ 1000 → 0 < (a ++ b).flatten.length →
    RPt Tryd.prog 33 0 (aOs (a ++ b).flatten) [] 1 ⟨[(0, .c (.a (.fz (.sl false 1 (CR (a ++ b)))))), (3, ci a.flatten.length), (9, .c (.a (.fz (.sl false 1 (CR (a ++ b)))))), (10, ci (((CR (a ++ b)).length : Nat) : Int)), (11, ci a.length)], [], 0⟩
  | [], a, hl, ht, h0 => by
    refine RPt.vc hP sh lv33 (Eq.mpr (v33_1a ..) ?_)
    rw [List.append_nil] at hl ht h0 ⊢
    refine br_of (fun h => absurd (of_decide_eq_true h) (by rw [CR_length]; simp)) (fun _ => .inr ⟨(), c_ogrow _ (by omega) (by omega), rfl, ?_⟩)
    exact l_cat5 a [] hl ht
  | l :: b, a, hl, ht, h0 => by
    have h2 := l_cat1 b (a ++ [l]) (by rw [ap]; exact hl) (by rw [ap]; exact ht) (by rw [ap]; exact h0)
    rw [ap, nx, flat_snoc, List.length_append] at h2
    have ht' : a.flatten.length + (l.length + b.flatten.length) ≤ 1000 := by simpa using ht
    simp only [List.length_append, List.length_cons] at hl
    refine RPt.vc hP sh lv33 (Eq.mpr (v33_1a ..) ?_)
    rw [midC, w64 (x := (a.length : Int) + 1) (by omega) (by omega)]
    have e : IntKind.wrap .i64 ((a.flatten.length : Int) + (((OR l).length : Nat) : Int)) = ((a.flatten.length + l.length : Nat) : Int) := by rw [OR_length, w64 (by omega) (by omega)]; omega
    refine br_of (fun _ => ⟨⟨rfl, by omega, by rw [CR_length]; exact ltI a l b, rfl⟩, rfl, br_of (fun h => ?_) (fun _ => ?_)⟩) (fun h => absurd (ltI a l b) (by rw [CR_length] at h; exact of_decide_eq_false h))
    · have h : decide (IntKind.wrap .i64 ((a.flatten.length : Int) + (((OR l).length : Nat) : Int)) < 0) = true := h
      rw [e] at h
      exact absurd (of_decide_eq_true h) (by omega)
    · show RPt _ _ _ _ _ _ ⟨[_, (3, ci (IntKind.wrap .i64 ((a.flatten.length : Int) + (((OR l).length : Nat) : Int)))), _, _, _], [], 0⟩
      rw [e]
      exact h2
theorem c_oconcat (ls : List (List Opd)) (hl : ls.length ≤ 1000) (ht : ls.flatten.length ≤ 1000) (h0 : 0 < ls.flatten.length) : AC Tryd.prog 33 [.c (.a (.fz (.sl true 1 (CR ls))))] [] (aOs ls.flatten) [] := by
  refine AC.args (args' := [.c (.a (.fz (.sl false 1 (CR ls))))]) ?_ ⟨le_c (.nn _ _ _), trivial⟩
  refine AC.vc hP sh lv33 (Nat.le_refl _) (by simp) (by simp) (Eq.mpr (v33 ..) ?_)
  exact ⟨rfl, l_cat1 ls [] hl ht h0⟩
def firstO : List Opd := [⟨[58, 45], 10, 0⟩, ⟨[59], 20, 2⟩, ⟨[44], 30, 2⟩, ⟨[61, 62], 40, 2⟩, ⟨[61], 60, 0⟩, ⟨[105, 115], 60, 0⟩, ⟨[60], 60, 0⟩, ⟨[61, 60], 60, 0⟩, ⟨[62], 60, 0⟩, ⟨[62, 61], 60, 0⟩, ⟨[43], 80, 1⟩, ⟨[45], 80, 1⟩, ⟨[42], 90, 1⟩, ⟨[100, 105, 118], 90, 1⟩, ⟨[109, 111, 100], 90, 1⟩]
theorem c_odefault : AC Tryd.prog 20 [] [] (aOs firstO) [] := by
  refine AC.vc hP sh lv20 (Nat.le_refl _) (by simp) (by simp) (Eq.mpr (v20 ..) ?_)
  refine ⟨⟨rfl, Nat.le_refl _⟩, _, c_orow 10 0 [58, 45] [] (by simp), ⟨rfl, Nat.le_refl _⟩, _, c_orow 20 2 [59] [] (by simp), ⟨rfl, Nat.le_refl _⟩, _, c_orow 30 2 [44] [] (by simp), ⟨rfl, Nat.le_refl _⟩, _, c_orow 40 2 [61, 62] [] (by simp), ⟨rfl, Nat.le_refl _⟩, _, c_orow 60 0 [61] [[105, 115], [60], [61, 60], [62], [62, 61]] (by simp), ⟨rfl, Nat.le_refl _⟩, _, c_orow 80 1 [43] [[45]] (by simp), ⟨rfl, Nat.le_refl _⟩, _, c_orow 90 1 [42] [[100, 105, 118], [109, 111, 100]] (by simp), ⟨rfl, Nat.le_refl _⟩, firstO, ?_, ret_r (.refl _)⟩
  exact c_oconcat [ofN 10 0 [[58, 45]], ofN 20 2 [[59]], ofN 30 2 [[44]], ofN 40 2 [[61, 62]], ofN 60 0 [[61], [105, 115], [60], [61, 60], [62], [62, 61]], ofN 80 1 [[43], [45]], ofN 90 1 [[42], [100, 105, 118], [109, 111, 100]]] (by simp) (by simp [ofN]) (by simp [ofN])
theorem c_ordefault : AC Tryd.prog 25 [] [] (aOs firstO) [] := by
  refine AC.vc hP sh lv25 (Nat.le_refl _) (by simp) (by simp) (Eq.mpr (v25 ..) ?_)
  have room : ∀ n, n ≤ 1000 → roomB n 32 := fun n h => roomO (by omega)
  refine ⟨_, c_oone _ _ _, _, c_oone _ _ _, _, c_oone _ _ _, _, c_oone _ _ _, Nat.le_refl _, room 4 (by omega), _, c_oone _ _ _, _, c_oone _ _ _, _, c_oone _ _ _, _, c_oone _ _ _, _, c_oone _ _ _, _, c_oone _ _ _, Nat.le_refl _, ⟨Nat.le_refl _, room 10 (by omega)⟩, _, c_oone _ _ _, _, c_oone _ _ _, _, c_oone _ _ _, _, c_oone _ _ _, _, c_oone _ _ _, Nat.le_refl _, ⟨Nat.le_refl _, room 15 (by omega)⟩, ⟨rfl, Nat.le_refl _⟩, ret_r (leSO rfl)⟩
/-! ### How one is declared -/
theorem tab_now {w : World} {X : Nat → Prop} (h : Gl Tryd.prog w X) : Lib.TabIs Tryd.prog w "internal/strconv.uint64pow10" .u64 Lib.pow10Tab := by
  have : (Tryd.prog.globalNamed "internal/strconv.uint64pow10").isSome = true := by kernel_rfl
  obtain ⟨g, hg⟩ := Option.isSome_iff_exists.1 this
  exact (h g hg).1
theorem grow_good (w : World) (foot : Nat → Prop) (k : Nat) (os : Array Obj) : Good w foot (Go.Sort.grow (w.drewN k) os) := by
  have e : ∀ b, b < w.heap.size → (w.heap ++ os)[b]? = w.heap[b]? := fun b hb => by rw [Array.getElem?_append_left hb]
  refine ⟨by simp [Go.Sort.grow, World.drewN], fun b hb _ => e b hb, fun b hb => ?_, rfl, rfl, rfl⟩
  show World.shape? { w with heap := w.heap ++ os, drawn := w.drawn + k } b = _
  simp only [World.shape?, e b hb]
theorem c_itoa (n : Int) (h0 : 0 ≤ n) (h1 : n ≤ 9223372036854775807) : AC Tryd.prog 27 [ci n] [] (cs (Lib.decDigits n.toNat)) [] := by
  refine ⟨by kernel_rfl, Nat.le_refl _, fun w us β Y g1 g2 gl g3 g4 => ?_⟩
  obtain ⟨u, us', rfl, k1, k2⟩ := g4.cons_inv
  rw [TRep.int_inv k1, k2.nil_inv]
  refine (Tryd.strconv_Itoa n (by omega) h1 w (tab_now gl)).mono fun e w' ⟨he, k, os, hw⟩ => ?_
  subst hw
  have hgood := grow_good w (Own (fun o => ([] : List AObj).getD o .gone) β) k os
  refine ⟨_, β, he, hgood, ⟨fun o b h => by simp [isLive] at h, fun o h => by simp [isLive] at h, fun o o' b h => by simp [isLive] at h, fun o b h => absurd (g1 o b h) (Nat.not_lt_zero _)⟩, ?_, g1, fun o ho => absurd ho (Nat.not_lt_zero _), fun o b _ hb => absurd (g1 o b hb) (Nat.not_lt_zero _)⟩
  rw [show Lib.itoa n = Lib.decDigits n.toNat from if_neg (by omega)]
  exact .a _ _ (.fz _ _ (.str _))
def digF (n : Nat) (s : List UInt8) : List UInt8 := if n = 0 then (if s = [] then [48] else s) else Lib.decDigits n ++ s
theorem w8 {x : Int} (h0 : 0 ≤ x) (h1 : x ≤ 255) : IntKind.wrap .u8 x = x := by
  simp only [IntKind.wrap, IntKind.signed, IntKind.bits]
  simp; omega
theorem dig_e (n : Nat) : UInt8.ofNat (Int.toNat (IntKind.wrap .u8 (IntKind.wrap .i64 (48 + Int.tmod (n : Int) 10)))) = UInt8.ofNat (48 + n % 10) := by
  have : Int.tmod (n : Int) 10 = ((n % 10 : Nat) : Int) := by rw [Int.tmod_eq_emod_of_nonneg (by omega)]; omega
  rw [this, w64 (by omega) (by omega), w8 (by omega) (by omega)]
  congr 1
theorem div_e (n : Nat) (h : n ≤ 9223372036854775807) : IntKind.wrap .i64 (Int.tdiv (n : Int) 10) = ((n / 10 : Nat) : Int) := by
  have : Int.tdiv (n : Int) 10 = ((n / 10 : Nat) : Int) := by rw [Int.tdiv_eq_ediv_of_nonneg (by omega)]; omega
  rw [this, w64 (by omega) (by omega)]
theorem digF_step (n : Nat) (h : 0 < n) (s : List UInt8) : digF (n / 10) (UInt8.ofNat (48 + n % 10) :: s) = digF n s := by
  unfold digF
  rw [if_neg (show ¬ n = 0 by omega)]
  by_cases h1 : n < 10
  · rw [if_pos (show n / 10 = 0 by omega), if_neg (by simp), Lib.decDigits, dif_pos h1, show n % 10 = n by omega]; rfl
  · rw [if_neg (show ¬ n / 10 = 0 by omega)]
    conv => rhs; rw [Lib.decDigits, dif_neg h1]
    simp
theorem l_digits : ∀ (k n : Nat) (s : List UInt8), n < 10 ^ k → n ≤ 9223372036854775807 → s.length + k ≤ 100 → (n = 0 → s ≠ []) → RPt Tryd.prog 28 0 (cs (digF n s)) [] 1 ⟨[(0, ci n), (3, cs s)], [], 0⟩
  | 0, n, s, h0, _, _, hs => by
    have h0 : n = 0 := by simpa using h0
    subst h0
    refine RPt.vc hP sh lv28 (Eq.mpr (v28_1a ..) ?_)
    have hs := hs rfl
    exact br_of (fun h => absurd (of_decide_eq_true h) (by omega)) (fun _ => br_of (fun h => absurd (by simpa using h) hs) (fun _ => ret_s (by rw [digF, if_pos rfl, if_neg hs])))
  | k + 1, n, s, h0, hb, hl, hs => by
    have h2 := l_digits k (n / 10) (UInt8.ofNat (48 + n % 10) :: s) (by rw [Nat.pow_succ] at h0; omega) (by omega) (by simp; omega) (fun _ => by simp)
    refine RPt.vc hP sh lv28 (Eq.mpr (v28_1a ..) ?_)
    rw [dig_e, div_e n hb]
    refine br_of (fun h => ⟨⟨rfl, by omega⟩, by simp; omega, ⟨rfl, by omega⟩, ?_⟩) (fun h => br_of (fun h1 => ?_) (fun _ => ret_s ?_))
    · have h := of_decide_eq_true h
      rw [← digF_step n (by omega)]; exact h2
    · have h := of_decide_eq_false h
      exact absurd (by simpa using h1) (hs (by omega))
    · have h := of_decide_eq_false h
      rw [digF, if_pos (by omega), if_neg (hs (by omega))]
theorem c_digits (n : Int) (h0 : 0 ≤ n) (h1 : n ≤ 9223372036854775807) : AC Tryd.prog 28 [ci n] [] (cs (Lib.decDigits n.toNat)) [] := by
  obtain ⟨m, rfl⟩ : ∃ m : Nat, n = m := ⟨n.toNat, by omega⟩
  refine AC.vc hP sh lv28 (Nat.le_refl _) (by simp) (by simp) (Eq.mpr (v28 ..) ?_)
  rw [Int.toNat_natCast]
  by_cases hm : m = 0
  · subst hm
    refine RPt.vc hP sh lv28 (Eq.mpr (v28_1a ..) ?_)
    rw [show ((0 : Nat) : Int) = ((0 : Nat) : Int) from rfl, dig_e, div_e 0 (by omega)]
    have h2 := l_digits 0 0 [48] (by simp) (by omega) (by simp) (fun _ => by simp)
    rw [digF, if_pos rfl, if_neg (by simp)] at h2
    rw [show Lib.decDigits 0 = [48] by rw [Lib.decDigits, dif_pos (by omega)]; rfl]
    exact br_of (fun h => absurd (of_decide_eq_true h) (by omega)) (fun _ => br_of (fun _ => ⟨⟨rfl, by omega⟩, by simp, ⟨rfl, by omega⟩, h2⟩) (fun h => absurd h (by simp)))
  · have h2 := l_digits 20 m [] (by omega) (by omega) (by simp) (fun h => absurd h hm)
    rw [digF, if_neg hm, List.append_nil] at h2
    exact h2
/-- How an operator is declared. -/
def textF (o : Opd) : List UInt8 := ((((if o.fx = 1 then [105, 110, 102, 105, 120, 108, 32] else if o.fx = 2 then [105, 110, 102, 105, 120, 114, 32] else [105, 110, 102, 105, 120, 32]) ++ o.nm) ++ [32]) ++ Lib.decDigits (max o.pr 0).toNat) ++ [46]
theorem dec_len : ∀ (k n : Nat), n < 10 ^ (k + 1) → (Lib.decDigits n).length ≤ k + 1
  | 0, n, h => by rw [Lib.decDigits, dif_pos (by simpa using h)]; simp
  | k + 1, n, h => by
    rw [Lib.decDigits]
    by_cases h1 : n < 10
    · rw [dif_pos h1]; simp
    · have := dec_len k (n / 10) (by rw [Nat.pow_succ] at h; omega)
      rw [dif_neg h1]; simp only [List.length_append, List.length_cons, List.length_nil]; omega
theorem c_otext (o : Opd) (hn : o.nm.length ≤ B) (h1 : o.pr ≤ 9223372036854775807) : AC Tryd.prog 14 [aO o] [] (cs (textF o)) [] := by
  refine AC.vc hP sh lv14 (Nat.le_refl _) (by simp) (by simp) (Eq.mpr (v14 ..) ?_)
  have hc := c_itoa (foldMax [o.pr, 0]) (by show 0 ≤ max o.pr 0; omega) (by show max o.pr 0 ≤ _; omega)
  have hd := dec_len 19 (foldMax [o.pr, 0]).toNat (by show (max o.pr 0).toNat < _; omega)
  have e : (max o.pr 0).toNat = (foldMax [o.pr, 0]).toNat := rfl
  simp only [B] at hn
  unfold textF
  rw [e]
  repeat' (first
    | refine br_of (fun h => ?_) (fun h => ?_)
    | refine ret_s ?_
    | refine Exists.intro _ (And.intro hc ?_)
    | refine And.intro ?_ ?_)
  all_goals first
    | omega
    | (simp only [List.length_append, List.length_cons, List.length_nil]; omega)
    | simp_all
theorem c_ortext (o : Opd) (hn : o.nm.length ≤ B) (h1 : o.pr ≤ 9223372036854775807) : AC Tryd.prog 15 [aO o] [] (cs (textF o)) [] := by
  refine AC.vc hP sh lv15 (Nat.le_refl _) (by simp) (by simp) (Eq.mpr (v15 ..) ?_)
  have hc := c_digits (foldMax [o.pr, 0]) (by show 0 ≤ max o.pr 0; omega) (by show max o.pr 0 ≤ _; omega)
  have hd := dec_len 19 (foldMax [o.pr, 0]).toNat (by show (max o.pr 0).toNat < _; omega)
  have e : (max o.pr 0).toNat = (foldMax [o.pr, 0]).toNat := rfl
  simp only [B] at hn
  unfold textF
  rw [e]
  repeat' (first
    | refine br_of (fun h => ?_) (fun h => ?_)
    | refine ret_s ?_
    | refine Exists.intro _ (And.intro hc ?_)
    | refine And.intro ?_ ?_)
  all_goals first
    | omega
    | (simp only [List.length_append, List.length_cons, List.length_nil]; omega)
    | simp_all
theorem d120 : Lib.decDigits 120 = [49, 50, 48] := by
  rw [Lib.decDigits, dif_neg (by omega), Lib.decDigits, dif_neg (by omega), Lib.decDigits, dif_pos (by omega)]; rfl
theorem c_oworks : AC Tryd.prog 9 [] [] (cb true) [] := by
  refine AC.vc hP sh lv9 (Nat.le_refl _) (by simp) (by simp) (Eq.mpr (v9 ..) ?_)
  have f1 := c_ofind firstO [44] (by decide)
  have f2 := c_ofind firstO [43] (by decide)
  have f3 := c_ofind firstO [42] (by decide)
  rw [show findF [44] firstO = (⟨[44], 30, 2⟩, true) by rfl] at f1
  rw [show findF [43] firstO = (⟨[43], 80, 1⟩, true) by rfl] at f2
  rw [show findF [42] firstO = (⟨[42], 90, 1⟩, true) by rfl] at f3
  have h5 := c_osame firstO firstO (by decide)
  rw [decide_eq_true rfl] at h5
  have h6 := c_otext ⟨[99, 111, 110, 115], 120, 2⟩ (by decide) (by decide)
  have e : textF ⟨[99, 111, 110, 115], 120, 2⟩ = [105, 110, 102, 105, 120, 114, 32, 99, 111, 110, 115, 32, 49, 50, 48, 46] := by
    unfold textF
    show ([105, 110, 102, 105, 120, 114, 32] ++ [99, 111, 110, 115] ++ [32] ++ Lib.decDigits 120) ++ [46] = _
    rw [d120]; rfl
  rw [e] at h6
  refine ⟨_, c_odefault, (⟨[44], 30, 2⟩, true), f1, (⟨[43], 80, 1⟩, true), f2, (⟨[42], 90, 1⟩, true), f3, _, c_ordefault, _, h5, ?_⟩
  refine br_of (fun _ => br_of (fun _ => br_of (fun _ => ⟨_, c_oleft ⟨[43], 80, 1⟩ ⟨[42], 90, 1⟩, br_of (fun _ => ⟨_, c_oleft ⟨[42], 90, 1⟩ ⟨[43], 80, 1⟩, br_of (fun _ => ⟨_, h6, ret_b (by decide)⟩) (fun h => absurd h (by decide))⟩) (fun h => absurd h (by decide))⟩) (fun h => absurd h (by decide))) (fun h => by cases h)) (fun h => by cases h)
end Go.AM

set_option maxRecDepth 100000
open Go Go.Proofs
namespace Go.AM
/-! ### Laws -/
theorem c_opsbinds (a b : Opd) (hn : a.nm.length ≤ B) (h1 : a.pr ≤ 9223372036854775807) : AC Tryd.prog 3 [aO a, aO b] [] (cb true) [] := by
  refine AC.vc hP sh lv3 (Nat.le_refl _) (by simp) (by simp) (Eq.mpr (v3 ..) ?_)
  refine ⟨_, c_oworks, br_of (fun h => by cases h) (fun _ => br_of (fun _ => ret_b rfl) (fun _ => br_of (fun _ => ?_) (fun h => by cases h)))⟩
  refine ⟨_, c_oleft a b, _, c_orleft a b, br_of (fun _ => ⟨_, c_oright a b, _, c_orright a b, br_of (fun _ => ⟨_, c_otext a hn h1, _, c_ortext a hn h1, ret_b (by simp)⟩) (fun h => ?_)⟩) (fun h => ?_)⟩
  · simp at h
  · simp at h
theorem c_opssides (a b : Opd) : AC Tryd.prog 4 [aO a, aO b] [] (cb true) [] := by
  refine AC.vc hP sh lv4 (Nat.le_refl _) (by simp) (by simp) (Eq.mpr (v4 ..) ?_)
  refine ⟨_, c_oworks, br_of (fun h => by cases h) (fun _ => ?_)⟩
  have l1 := c_oleft b a
  have l2 := c_oleft a b
  have r1 := c_oright a b
  have r2 := c_oright b a
  have hc : (a.pr < b.pr ∧ besideB b a 1 = false ∧ besideB a b 1 = true ∧ besideB a b 2 = true ∧ besideB b a 2 = false) ∨ (b.pr < a.pr ∧ besideB b a 1 = true ∧ besideB a b 1 = false ∧ besideB a b 2 = false ∧ besideB b a 2 = true) ∨
      (a.pr = b.pr ∧ a.fx = b.fx ∧ ∃ p q : Bool, besideB b a 1 = p ∧ besideB a b 1 = p ∧ besideB a b 2 = q ∧ besideB b a 2 = q ∧ (p && q) = false) ∨ (a.pr = b.pr ∧ a.fx ≠ b.fx ∧ besideB b a 1 = false ∧ besideB a b 1 = false ∧ besideB a b 2 = false ∧ besideB b a 2 = false) := by
    unfold besideB
    rcases Int.lt_trichotomy a.pr b.pr with h | h | h
    · refine .inl ⟨h, ?_, ?_, ?_, ?_⟩ <;> simp <;> omega
    · by_cases hf : a.fx = b.fx
      · refine .inr (.inr (.inl ⟨h, hf, a.fx == 1, a.fx == 2, ?_, ?_, ?_, ?_, ?_⟩))
        · simp [h, hf]
        · simp [h, hf]
        · simp [h, hf]
        · simp [h, hf]
        · simp; omega
      · refine .inr (.inr (.inr ⟨h, hf, ?_, ?_, ?_, ?_⟩)) <;> simp <;> omega
    · refine .inr (.inl ⟨h, ?_, ?_, ?_, ?_⟩) <;> simp <;> omega
  rcases hc with ⟨h0, e1, e2, e3, e4⟩ | ⟨h0, e1, e2, e3, e4⟩ | ⟨h0, hf, p, q, e1, e2, e3, e4, hpq⟩ | ⟨h0, hf, e1, e2, e3, e4⟩
  all_goals try (cases p <;> cases q <;> first | (cases hpq; done) | skip)
  all_goals (rw [e1] at l1; rw [e2] at l2; rw [e3] at r1; rw [e4] at r2; clear e1 e2 e3 e4)
  all_goals repeat' (first
    | refine br_of (fun h => ?_) (fun h => ?_)
    | refine ret_b ?_
    | refine Exists.intro _ (And.intro l1 ?_)
    | refine Exists.intro _ (And.intro l2 ?_)
    | refine Exists.intro _ (And.intro r1 ?_)
    | refine Exists.intro _ (And.intro r2 ?_))
  all_goals clear l1 l2 r1 r2
  all_goals obtain ⟨an, ap, af⟩ := a
  all_goals obtain ⟨bn, bp, bf⟩ := b
  all_goals dsimp only at *
  all_goals first
    | rfl
    | contradiction
    | (exfalso; simp only [bne_iff_ne, beq_iff_eq, decide_eq_true_eq, decide_eq_false_iff_not, Bool.not_eq_true', Bool.not_eq_false', beq_eq_false_iff_ne, bne_eq_false_iff_eq, ne_eq, not_true_eq_false, Bool.true_eq_false, Bool.false_eq_true, Bool.not_true, Bool.not_false, reduceCtorEq] at * <;> omega)
theorem same_of {a b : List Opd} {x : FV} (h : a = b) (hl : a.length ≤ B) (hx : FV.Le x (.sl false 3 (OR b))) : AC Tryd.prog 18 [aOs a, .c (.a (.fz x))] [] (cb true) [] := by
  have := c_osame a b hl
  rw [decide_eq_true h] at this
  exact this.args ⟨.refl _, le_c hx, trivial⟩
theorem decl2 (l : List Opd) (o : Opd) : (declF l o).2 = wrongF l o := by
  unfold declF; split
  · rename_i h; rw [h]
  · rfl
theorem decl_ok {l : List Opd} {o : Opd} (h : wrongF l o = 0) : (declF l o).1 = l ++ [o] := by rw [declF, if_pos h]
theorem decl_no {l : List Opd} {o : Opd} (h : wrongF l o ≠ 0) : (declF l o).1 = l := by rw [declF, if_neg h]
theorem over_no {l : List Opd} (h : overB l = false) : l.length ≤ 100 ∧ ∀ o ∈ l, o.nm.length ≤ 100 := by
  simp only [overB, Bool.or_eq_false_iff, decide_eq_false_iff_not, List.any_eq_false, decide_eq_true_eq] at h
  exact ⟨by omega, fun o ho => by have := h.2 o ho; omega⟩
theorem tk_app (l : List Opd) (o : Opd) : List.take ((OR l).length + 1) (List.drop 0 (List.take (OR l).length (OR l) ++ [[.str o.nm, .int .i64 o.pr, .int .i64 o.fx]])) = OR (l ++ [o]) := by
  rw [List.drop_zero, List.take_length, List.take_of_length_le (by simp), OR_append]; rfl
theorem c_opsdeclares (l : List Opd) (o : Opd) (k n a : Int) (s : List UInt8) (hl' : l.length ≤ 2000000) (hn : o.nm.length ≤ B) :
    AC Tryd.prog 8 [aOs l, aO o, .agg [.a (.fz (.int .i64 k)), .a (.fz (.str s)), .a (.fz (.int .i64 n)), .a (.fz (.int .i64 a))]] [] (cb true) [] := by
  refine AC.vc hP sh lv8 (Nat.le_refl _) (by simp) (by simp) (Eq.mpr (v8 ..) ?_)
  have hl : l.length ≤ B := by simp only [B]; omega
  have e2 := decl2 l o
  have hd := c_odeclare l o hl
  have hr := c_ordeclare l o hl hn
  have f1 := c_ofind l o.nm hl
  have f2 := c_orfind l o.nm hl
  have f3 := c_ois l k n a s hl
  have f4 := c_oris l k n a s hl
  have hb := hl
  simp only [B] at hb
  have hlo := OR_length l
  have hwb : (declF l o).1.length ≤ B := by simp only [declF, B]; split <;> simp <;> omega
  refine ⟨_, c_oworks, br_of (fun h => by cases h) (fun _ => ⟨_, c_oover l hl, br_of (fun _ => ret_b rfl) (fun hov => br_of (fun _ => ret_b rfl) (fun hon => br_of (fun _ => ret_b rfl) (fun htn => ⟨declF l o, hd, _, hr, rfl, br_of (fun he => ?_) (fun he => ?_)⟩)))⟩)⟩
  · have he : l = [] := by cases l with | nil => rfl | cons x l => simp [OR] at he
    refine br_of (fun h0 => ⟨Nat.le_refl _, roomO (by omega), ⟨rfl, Nat.le_refl _⟩, _, same_of (b := [o]) ?_ hwb (.nn _ _ _), rfl, findF o.nm l, f1, findF o.nm l, f2, _, f3, _, f4, ?_⟩) (fun h0 => ⟨_, same_of (b := []) ?_ hwb (.nils 3), findF o.nm l, f1, findF o.nm l, f2, _, f3, _, f4, ?_⟩)
    · rw [decl_ok (by simpa using h0), he]; rfl
    · clear hd hr f1 f2 f3 f4
      repeat' (first | refine br_of (fun h => ?_) (fun h => ?_) | refine ret_b ?_)
      all_goals simp_all
    · rw [decl_no (by simpa using h0), he]
    · clear hd hr f1 f2 f3 f4
      repeat' (first | refine br_of (fun h => ?_) (fun h => ?_) | refine ret_b ?_)
      all_goals simp_all
  · refine ⟨roomO (by omega), br_of (fun h0 => ⟨Nat.le_refl _, ⟨Nat.le_refl _, roomO (by omega)⟩, ⟨rfl, by simp⟩, _, same_of (b := l ++ [o]) ?_ hwb ?_, rfl, findF o.nm l, f1, findF o.nm l, f2, _, f3, _, f4, ?_⟩) (fun h0 => ⟨⟨rfl, by omega⟩, _, same_of (b := l) ?_ hwb ?_, rfl, findF o.nm l, f1, findF o.nm l, f2, _, f3, _, f4, ?_⟩)⟩
    · rw [decl_ok (by simpa using h0)]
    · rw [tk_app]; exact .nn _ _ _
    · clear hd hr f1 f2 f3 f4
      repeat' (first | refine br_of (fun h => ?_) (fun h => ?_) | refine ret_b ?_)
      all_goals simp_all
    · rw [decl_no (by simpa using h0)]
    · rw [take_all]; exact .nn _ _ _
    · clear hd hr f1 f2 f3 f4
      repeat' (first | refine br_of (fun h => ?_) (fun h => ?_) | refine ret_b ?_)
      all_goals simp_all
end Go.AM

set_option maxRecDepth 100000
open Go Go.Proofs
namespace Go.AM
theorem find_no {n : List UInt8} : ∀ {l : List Opd}, (findF n l).2 = false → findF n l = (⟨[], 0, 0⟩, false)
  | [], _ => rfl
  | x :: l, h => by
    unfold findF at h ⊢
    split
    · rename_i hx; rw [if_pos hx] at h; cases h
    · rename_i hx; rw [if_neg hx] at h; exact find_no h
theorem find_app (n : List UInt8) (o : Opd) : ∀ l : List Opd, findF n (l ++ [o]) = if (findF n l).2 = true then findF n l else if (o.nm == n) = true then (o, true) else (⟨[], 0, 0⟩, false)
  | [] => rfl
  | x :: l => by
    have ih := find_app n o l
    by_cases hx : (x.nm == n) = true
    · have e1 : findF n (x :: l) = (x, true) := if_pos hx
      have e2 : findF n ((x :: l) ++ [o]) = (x, true) := if_pos hx
      rw [e1, e2]; rfl
    · have e1 : findF n (x :: l) = findF n l := if_neg hx
      have e2 : findF n ((x :: l) ++ [o]) = findF n (l ++ [o]) := if_neg hx
      rw [e1, e2]; exact ih
def goodO (o : Opd) : Prop := ¬ (o.fx < 0 ∨ o.fx > 2) ∧ ¬ ((isName o.nm || isSym o.nm) = false ∨ resvB o.nm = true) ∧ ¬ (o.pr < 1 ∨ o.pr > 200)
theorem wrong_iff (l : List Opd) (o : Opd) : wrongF l o = 0 ↔ goodO o ∧ (findF o.nm l).2 = false ∧ l.length < 64 := by
  unfold wrongF goodO
  constructor
  · intro h
    split at h
    · cases h
    · split at h
      · cases h
      · split at h
        · cases h
        · split at h
          · cases h
          · split at h
            · cases h
            · rename_i h1 h2 h3 h4 h5
              exact ⟨⟨h1, h2, h3⟩, by simpa using h4, by omega⟩
  · rintro ⟨⟨h1, h2, h3⟩, h4, h5⟩
    rw [if_neg h1, if_neg h2, if_neg h3, if_neg (by rw [h4]; simp), if_neg (by omega)]
theorem keep_find {l : List Opd} {o : Opd} {n : List UInt8} (h : (n == o.nm) = false) : findF n (declF l o).1 = findF n l := by
  unfold declF
  split
  · show findF n (l ++ [o]) = _
    rw [find_app]
    split
    · rfl
    · rename_i h1
      rw [if_neg (by simp at h ⊢; exact fun e => h e.symm)]
      exact (find_no (by simpa using h1)).symm
  · rfl
theorem keep_new {l : List Opd} {o : Opd} (h : wrongF l o = 0) : findF o.nm (l ++ [o]) = (o, true) ∧ wrongF (l ++ [o]) o = 22 := by
  obtain ⟨⟨h1, h2, h3⟩, h4, h5⟩ := (wrong_iff l o).1 h
  have e : findF o.nm (l ++ [o]) = (o, true) := by rw [find_app, if_neg (by rw [h4]; simp), if_pos (by simp)]
  refine ⟨e, ?_⟩
  unfold wrongF
  rw [if_neg h1, if_neg h2, if_neg h3, if_pos (by rw [e])]
theorem c_opskeeps (l : List Opd) (o : Opd) (name : List UInt8) (hl' : l.length ≤ 2000000) : AC Tryd.prog 5 [aOs l, aO o, cs name] [] (cb true) [] := by
  refine AC.vc hP sh lv5 (Nat.le_refl _) (by simp) (by simp) (Eq.mpr (v5 ..) ?_)
  have hl : l.length ≤ B := by simp only [B]; omega
  have hlo := OR_length l
  have hm : (declF l o).1.length ≤ 2000001 := by unfold declF; split <;> simp <;> omega
  have hmb : (declF l o).1.length ≤ B := by simp only [B]; omega
  have hd := c_odeclare l o hl
  have hd2 := c_odeclare (declF l o).1 o hmb
  have f1 := c_ofind l name hl
  have f2 := c_ofind (declF l o).1 name hmb
  have f3 := c_ofind (declF l o).1 o.nm hmb
  have e2 := decl2 l o
  have e3 := decl2 (declF l o).1 o
  have kA : (name == o.nm) = false → findF name (declF l o).1 = findF name l := keep_find
  have kB : wrongF l o ≠ 0 → (declF l o).1 = l := decl_no
  have kC : wrongF l o = 0 → findF o.nm (declF l o).1 = (o, true) ∧ wrongF (declF l o).1 o = 22 ∧ ((OR (declF l o).1).length : Int) = IntKind.wrap .i64 (((OR l).length : Int) + 1) := fun h => by
    rw [decl_ok h]
    refine ⟨(keep_new h).1, (keep_new h).2, ?_⟩
    rw [OR_length, OR_length, w64 (by omega) (by omega), List.length_append]; rfl
  refine ⟨_, c_oworks, br_of (fun h => by cases h) (fun _ => ⟨_, c_oover l hl, br_of (fun _ => ret_b rfl) (fun hov => br_of (fun _ => ret_b rfl) (fun hon => br_of (fun _ => ret_b rfl) (fun htn => ⟨rfl, br_of (fun he => ?_) (fun he => ?_)⟩)))⟩)⟩
  · have he : l = [] := by cases l with | nil => rfl | cons x l => simp [OR] at he
    refine ⟨declF l o, hd, _, same_of (b := []) he hl (.nils 3), findF name l, f1, findF name (declF l o).1, f2, ?_⟩
    clear hd f1 f2
    generalize hz8 : declF (declF l o).1 o = z8 at *
    generalize hz3 : declF l o = z3 at *
    repeat' (first
      | refine br_of (fun h => ?_) (fun h => ?_)
      | refine ret_b ?_
      | refine Exists.intro (findF o.nm z3.1) (And.intro f3 ?_)
      | refine Exists.intro z8 (And.intro hd2 ?_)
      | refine And.intro rfl ?_)
    all_goals clear hd2 f3 hl hlo hm hmb hz8 hz3 hl'
    all_goals by_cases hw : wrongF l o = 0
    all_goals first | (have kC := kC hw; obtain ⟨c1, c2, c3⟩ := kC; clear kB) | (have kB := kB hw; clear kC)
    all_goals simp_all
  · refine ⟨roomO (by omega), declF l o, hd, ⟨rfl, by omega⟩, _, same_of (b := l) rfl hl (by rw [take_all]; exact .nn _ _ _), rfl, findF name l, f1, findF name (declF l o).1, f2, ?_⟩
    clear hd f1 f2
    generalize hz8 : declF (declF l o).1 o = z8 at *
    generalize hz3 : declF l o = z3 at *
    repeat' (first
      | refine br_of (fun h => ?_) (fun h => ?_)
      | refine ret_b ?_
      | refine Exists.intro (findF o.nm z3.1) (And.intro f3 ?_)
      | refine Exists.intro z8 (And.intro hd2 ?_)
      | refine And.intro rfl ?_)
    all_goals clear hd2 f3 hl hlo hm hmb hz8 hz3 hl'
    all_goals by_cases hw : wrongF l o = 0
    all_goals first | (have kC := kC hw; obtain ⟨c1, c2, c3⟩ := kC; clear kB) | (have kB := kB hw; clear kC)
    all_goals simp_all
theorem order_ok {l : List Opd} {a b : Opd} (h1 : wrongF l a = 0) (h2 : wrongF (l ++ [a]) b = 0) : wrongF l b = 0 ∧ wrongF (l ++ [b]) a = 0 ∧ (a.nm == b.nm) = false ∧ (findF a.nm l).2 = false ∧ (findF b.nm l).2 = false := by
  obtain ⟨g1, n1, k1⟩ := (wrong_iff l a).1 h1
  obtain ⟨g2, n2, k2⟩ := (wrong_iff (l ++ [a]) b).1 h2
  rw [find_app] at n2
  have n3 : (findF b.nm l).2 = false := by
    split at n2
    · exact n2
    · rename_i h; simpa using h
  rw [if_neg (by rw [n3]; simp)] at n2
  have hne : (a.nm == b.nm) = false := by
    cases h : a.nm == b.nm with
    | false => rfl
    | true => rw [if_pos h] at n2; cases n2
  rw [List.length_append] at k2
  simp only [List.length_cons, List.length_nil] at k2
  refine ⟨(wrong_iff l b).2 ⟨g2, n3, k1⟩, (wrong_iff (l ++ [b]) a).2 ⟨g1, ?_, by rw [List.length_append]; simp only [List.length_cons, List.length_nil]; omega⟩, hne, n1, n3⟩
  rw [find_app, if_neg (by rw [n1]; simp), if_neg (by simp at hne ⊢; exact fun e => hne e.symm)]
theorem order_find {l : List Opd} {a b : Opd} (hne : (a.nm == b.nm) = false) (n : List UInt8) : findF n ((l ++ [a]) ++ [b]) = findF n ((l ++ [b]) ++ [a]) := by
  rw [find_app, find_app, find_app, find_app]
  by_cases h : (findF n l).2 = true
  · simp only [h, if_true]
  · simp only [h]
    by_cases ha : (a.nm == n) = true
    · by_cases hb : (b.nm == n) = true
      · have ha' := eq_of_beq ha
        have hb' := eq_of_beq hb
        rw [ha', hb'] at hne; simp at hne
      · simp [ha, hb]
    · by_cases hb : (b.nm == n) = true
      · simp [ha, hb]
      · simp [ha, hb]
theorem c_opsorder (l : List Opd) (a b : Opd) (name : List UInt8) (hl' : l.length ≤ 2000000) : AC Tryd.prog 7 [aOs l, aO a, aO b, cs name] [] (cb true) [] := by
  refine AC.vc hP sh lv7 (Nat.le_refl _) (by simp) (by simp) (Eq.mpr (v7 ..) ?_)
  have hl : l.length ≤ B := by simp only [B]; omega
  have len : ∀ (l : List Opd) (o : Opd) (n : Nat), l.length ≤ n → (declF l o).1.length ≤ n + 1 := fun l o n h => by unfold declF; split <;> simp <;> omega
  have l1 := len l a _ hl'
  have l2 := len (declF l a).1 b _ l1
  have l3 := len l b _ hl'
  have l4 := len (declF l b).1 a _ l3
  have toB : ∀ n : Nat, n ≤ 2000002 → n ≤ B := fun n h => by simp only [B]; omega
  have d1 := c_odeclare l a hl
  have d2 := c_odeclare (declF l a).1 b (toB _ (by omega))
  have d3 := c_odeclare l b hl
  have d4 := c_odeclare (declF l b).1 a (toB _ (by omega))
  have f1 := c_ofind (declF (declF l a).1 b).1 name (toB _ (by omega))
  have f2 := c_ofind (declF (declF l b).1 a).1 name (toB _ (by omega))
  refine ⟨_, c_oworks, br_of (fun h => by cases h) (fun _ => ⟨_, c_oover l hl, br_of (fun _ => ret_b rfl) (fun hov => br_of (fun _ => ret_b rfl) (fun hon => br_of (fun _ => ret_b rfl) (fun htn => br_of (fun _ => ret_b rfl) (fun _ => ⟨declF l a, d1, declF (declF l a).1 b, d2, declF l b, d3, declF (declF l b).1 a, d4, ?_⟩))))⟩)⟩
  have no : ∀ {x y : Opd}, wrongF l x = 0 → wrongF (declF l x).1 y = 0 → wrongF l y = 0 ∧ wrongF (declF l y).1 x = 0 := fun {x y} h1 h2 => by
    rw [decl_ok h1] at h2
    obtain ⟨k1, k2, _⟩ := order_ok h1 h2
    exact ⟨k1, by rw [decl_ok k1]; exact k2⟩
  rw [decl2, decl2, decl2, decl2]
  by_cases hg : wrongF l a = 0 ∧ wrongF (declF l a).1 b = 0
  · obtain ⟨g1, g2⟩ := hg
    obtain ⟨k1, k2⟩ := no g1 g2
    have g2' := g2
    rw [decl_ok g1] at g2'
    obtain ⟨_, k2', hne, _, _⟩ := order_ok g1 g2'
    have ee : findF name (declF (declF l a).1 b).1 = findF name (declF (declF l b).1 a).1 := by
      rw [decl_ok g2, decl_ok k2, decl_ok g1, decl_ok k1]; exact order_find hne name
    have el : (OR (declF (declF l a).1 b).1).length = (OR (declF (declF l b).1 a).1).length := by
      rw [OR_length, OR_length, decl_ok g2, decl_ok k2, decl_ok g1, decl_ok k1]; simp
    rw [g1, g2, k1, k2]
    refine br_of (fun h => by cases h) (fun _ => br_of (fun h => by cases h) (fun _ => ⟨findF name (declF (declF l a).1 b).1, f1, findF name (declF (declF l a).1 b).1, by rw [ee]; exact f2, ?_⟩))
    refine br_of (fun _ => br_of (fun _ => br_of (fun _ => br_of (fun _ => br_of (fun _ => ⟨rfl, rfl, ret_b (by rw [el]; simp)⟩) (fun h => ?_)) (fun h => ?_)) (fun h => by cases h)) (fun h => by cases h)) (fun h => by cases h)
    · simp at h
    · simp at h
  · have hr : ¬ (wrongF l b = 0 ∧ wrongF (declF l b).1 a = 0) := fun h => hg (no h.1 h.2)
    clear d1 d2 d3 d4 f1 f2
    generalize wrongF l a = w1 at *
    generalize wrongF (declF l a).1 b = w2 at *
    generalize wrongF l b = w3 at *
    generalize wrongF (declF l b).1 a = w4 at *
    have t3 : ∀ h : (w3 != 0) = false, w3 = 0 := fun h => by simpa using h
    refine br_of (fun _ => br_of (fun _ => br_of (fun _ => ret_b rfl) (fun h => ret_b ?_)) (fun h => by cases h)) (fun h1 => br_of (fun _ => br_of (fun _ => br_of (fun _ => ret_b rfl) (fun h => ret_b ?_)) (fun h => by cases h)) (fun h2 => ?_))
    · simp; exact fun e => hr ⟨t3 h, e⟩
    · simp; exact fun e => hr ⟨t3 h, e⟩
    · exact absurd ⟨by simpa using h1, by simpa using h2⟩ hg
end Go.AM

set_option maxRecDepth 100000
open Go Go.Proofs
namespace Go.AM
/-! ### At most 64 -/
def mkO (i : Nat) : Opd := ⟨[120] ++ [UInt8.ofNat (97 + i / 26), UInt8.ofNat (97 + i % 26)], 1 + (i : Int), 0⟩
def manyL (i : Nat) : List Opd := firstO ++ (List.range (min i 49)).map mkO
theorem manyL_length (i : Nat) : (manyL i).length = min (15 + i) 64 := by
  simp only [manyL, List.length_append, List.length_map, List.length_range]
  show 15 + min i 49 = _
  omega
theorem many_fact (i : Nat) (hi : i < 80) : wrongF (manyL i) (mkO i) = if i < 49 then 0 else 23 := by
  have key : ∀ i : Fin 80, wrongF (manyL i.val) (mkO i.val) = if i.val < 49 then 0 else 23 := by decide +kernel
  exact key ⟨i, hi⟩
theorem many_next (i : Nat) (hi : i < 80) : (declF (manyL i) (mkO i)).1 = manyL (i + 1) := by
  by_cases h : i < 49
  · rw [decl_ok (by rw [many_fact i hi, if_pos h])]
    unfold manyL
    rw [show min i 49 = i by omega, show min (i + 1) 49 = i + 1 by omega, List.range_succ, List.map_append, List.append_assoc]; rfl
  · rw [decl_no (by rw [many_fact i hi, if_neg h]; omega)]
    unfold manyL
    rw [show min i 49 = 49 by omega, show min (i + 1) 49 = 49 by omega]
theorem let1 (i : Nat) (hi : i < 80) : UInt8.ofNat (Int.toNat (IntKind.wrap .u8 (IntKind.wrap .i64 (97 + IntKind.wrap .i64 (Int.tdiv (i : Int) 26))))) = UInt8.ofNat (97 + i / 26) := by
  have : Int.tdiv (i : Int) 26 = ((i / 26 : Nat) : Int) := by rw [Int.tdiv_eq_ediv_of_nonneg (by omega)]; omega
  rw [this, w64 (x := ((i / 26 : Nat) : Int)) (by omega) (by omega), w64 (by omega) (by omega), w8 (by omega) (by omega)]
  congr 1
theorem let2 (i : Nat) (hi : i < 80) : UInt8.ofNat (Int.toNat (IntKind.wrap .u8 (IntKind.wrap .i64 (97 + Int.tmod (i : Int) 26)))) = UInt8.ofNat (97 + i % 26) := by
  have : Int.tmod (i : Int) 26 = ((i % 26 : Nat) : Int) := by rw [Int.tmod_eq_emod_of_nonneg (by omega)]; omega
  rw [this, w64 (by omega) (by omega), w8 (by omega) (by omega)]
  congr 1
theorem l_opsmany (n : Nat) (o : Opd) (hn : n ≤ 80) : ∀ (k i : Nat), i + k = n → RPt Tryd.prog 6 0 (cb true) [] 1 ⟨[(0, ci n), (3, .c (.a (.ep 0 3 0 0))), (5, cb true), (6, aOs (manyL i)), (7, ci (((OR firstO).length : Nat) : Int)), (8, ci i)], [(0, .arr 3 [[.a (.fz (.str o.nm)), .a (.fz (.int .i64 o.pr)), .a (.fz (.int .i64 o.fx))]])], 1⟩
  | 0, i, hk => by
    obtain rfl : i = n := by omega
    have hl := manyL_length i
    have hd := c_odeclare (manyL i) o (by simp only [B]; omega)
    refine RPt.vc hP sh lv6 (Eq.mpr (v6_1a ..) ?_)
    refine br_of (fun h => absurd (of_decide_eq_true h) (by omega)) (fun _ => ⟨declF (manyL i) o, hd, br_of (fun _ => ⟨rfl, br_of (fun _ => br_of (fun _ => ret_b rfl) (fun h => ⟨rfl, ret_b ?_⟩)) (fun h => ?_)⟩) (fun h => by cases h)⟩)
    · rw [decl2] at h
      have h0 : wrongF (manyL i) o = 0 := by simpa using h
      have := ((wrong_iff _ _).1 h0).2.2
      rw [OR_length]; simp; omega
    · rw [OR_length, hl, show (OR firstO).length = 15 from rfl, w64 (by omega) (by omega)] at h
      exact absurd h (by
        rw [show foldMin [((15 : Nat) : Int) + (i : Int), 64] = min (((15 : Nat) : Int) + (i : Int)) 64 from rfl]
        simp; omega)
  | k + 1, i, hk => by
    have hi : i < 80 := by omega
    have hl := manyL_length i
    have hl2 := manyL_length (i + 1)
    have hd := c_odeclare (manyL i) (mkO i) (by simp only [B]; omega)
    have e2 := decl2 (manyL i) (mkO i)
    have hf := many_fact i hi
    have hx := many_next i hi
    have ih := l_opsmany n o hn k (i + 1) (by omega)
    refine RPt.vc hP sh lv6 (Eq.mpr (v6_1a ..) ?_)
    rw [let1 i hi, let2 i hi, w64 (x := 1 + (i : Int)) (by omega) (by omega), w64 (x := (i : Int) + 1) (by omega) (by omega)]
    have ih' : RPt Tryd.prog 6 0 (cb true) [] 1 ⟨[(0, ci n), (3, .c (.a (.ep 0 3 0 0))), (5, cb true), (6, aOs (declF (manyL i) (mkO i)).1), (7, ci (((OR firstO).length : Nat) : Int)), (8, ci ((i : Int) + 1))], [(0, .arr 3 [[.a (.fz (.str o.nm)), .a (.fz (.int .i64 o.pr)), .a (.fz (.int .i64 o.fx))]])], 1⟩ := by
      rw [hx]; exact ih
    have hlx : (OR (declF (manyL i) (mkO i)).1).length = min (15 + (i + 1)) 64 := by rw [OR_length, hx, hl2]
    have hly : (OR (manyL i)).length = min (15 + i) 64 := by rw [OR_length, hl]
    refine br_of (fun _ => ⟨⟨rfl, by omega⟩, ⟨rfl, by omega⟩, by simp, declF (manyL i) (mkO i), hd, rfl, ?_⟩) (fun h => absurd (of_decide_eq_false h) (by omega))
    clear hd ih
    generalize hz : declF (manyL i) (mkO i) = z at *
    by_cases h49 : i < 49
    · rw [if_pos h49] at hf
      refine br_of (fun _ => br_of (fun h => ?_) (fun _ => ⟨rfl, rfl, br_of (fun h => ?_) (fun _ => ⟨rfl, br_of (fun h => ?_) (fun _ => ih')⟩)⟩)) (fun h => ?_)
      · rw [e2, hf] at h; cases h
      · rw [hlx, hly, w64 (by omega) (by omega)] at h
        exact absurd h (by simp; omega)
      · rw [hly] at h; exact absurd (of_decide_eq_true h) (by omega)
      · rw [hly] at h; exact absurd (of_decide_eq_false h) (by omega)
    · rw [if_neg h49] at hf
      refine br_of (fun h => ?_) (fun _ => ⟨rfl, br_of (fun _ => br_of (fun h => ?_) (fun _ => ⟨rfl, rfl, br_of (fun h => ?_) (fun _ => ih')⟩)) (fun h => ?_)⟩)
      · rw [hly] at h; exact absurd (of_decide_eq_true h) (by omega)
      · rw [e2, hf] at h; cases h
      · rw [hlx, hly] at h
        exact absurd h (by simp; omega)
      · rw [hly] at h; exact absurd (of_decide_eq_false h) (by omega)
theorem c_opsmany (n : Int) (o : Opd) : AC Tryd.prog 6 [ci n, aO o] [] (cb true) [] := by
  refine AC.vc hP sh lv6 (Nat.le_refl _) (by simp) (by simp) (Eq.mpr (v6 ..) ?_)
  refine ⟨_, c_oworks, br_of (fun h => by cases h) (fun _ => br_of (fun _ => ret_b rfl) (fun h0 => br_of (fun _ => ret_b rfl) (fun h1 => br_of (fun _ => ret_b rfl) (fun _ => ⟨firstO, c_odefault, rfl, ?_⟩))))⟩
  have h0 := of_decide_eq_false h0
  have h1 := of_decide_eq_false h1
  obtain ⟨m, rfl⟩ : ∃ m : Nat, n = m := ⟨n.toNat, by omega⟩
  have h := l_opsmany m o (by omega) m 0 (by omega)
  rw [show manyL 0 = firstO by simp [manyL]] at h
  exact h
end Go.AM

namespace Go.AM
open Go.ChangeShapes Go.WideShapes Go.ChangeAt Go.RowKit

section
variable {H : Type} {enc : TypeId × Value → H} {P : Program} {w : World}

/-- Nothing is shut out. -/
abbrev none1 : Nat → Prop := fun _ => False
/-- Whatever reads (with so much fuel) at type t is some F a, of size at most that of what was read. -/
def RdN (enc : TypeId × Value → H) (P : Program) (w : World) (b : DataW H → Nat) (fuel : Nat) (t : TypeId) {α : Type} (F : α → List FV) (sz : α → Nat) : Prop :=
  ∀ cs x, DataW.trod enc P w 0 (fun _ => true) true fuel t cs = some x → ∃ a, LRep (FRep w none1) (F a) cs ∧ sz a ≤ b x.1

theorem rd_int {b : DataW H → Nat} {t : TypeId} {k : IntKind} (ht : P.underlying t = some (.int k)) (hb : ∀ d, 1 ≤ b d) (fuel : Nat) : RdN enc P w b fuel t (fun n : Int => [.int k n]) (fun _ => 1) := by
  intro cs x h
  obtain ⟨n, rfl, rfl, _⟩ := DataW.trod_int ht h
  exact ⟨n, .cons (.int k n) .nil, hb _⟩
/-- A number within its kind. -/
def Num (k : IntKind) := { n : Int // (Lit.int k n).wf = true }
theorem rd_num {b : DataW H → Nat} {t : TypeId} {k : IntKind} (ht : P.underlying t = some (.int k)) (hb : ∀ d, 1 ≤ b d) (fuel : Nat) : RdN enc P w b fuel t (fun n : Num k => [.int k n.1]) (fun _ => 1) := by
  intro cs x h
  obtain ⟨n, rfl, rfl, hw⟩ := DataW.trod_int ht h
  exact ⟨⟨n, hw⟩, .cons (.int k n) .nil, hb _⟩
theorem rd_bool {b : DataW H → Nat} {t : TypeId} (ht : P.underlying t = some .bool) (hb : ∀ d, 1 ≤ b d) (fuel : Nat) : RdN enc P w b fuel t (fun n : Bool => [.bool n]) (fun _ => 1) := by
  intro cs x h
  obtain ⟨n, rfl, rfl⟩ := DataW.trod_bool ht h
  exact ⟨n, .cons (.bool n) .nil, hb _⟩
theorem rd_str {b : DataW H → Nat} {t : TypeId} (ht : P.underlying t = some .string) (hb : ∀ l : List UInt8, l.length + 1 ≤ b (.lit (.string l))) (fuel : Nat) : RdN enc P w b fuel t (fun l : List UInt8 => [.str l]) (fun l => l.length + 1) := by
  intro cs x h
  obtain ⟨s, rfl, rfl, _⟩ := DataW.trod_string ht h
  refine ⟨s.data.toList, .cons ?_ .nil, hb _⟩
  have : (⟨s.data.toList.toArray⟩ : ByteArray) = s := by simp
  have h2 := FRep.str (w := w) (X := none1) s.data.toList
  rw [this] at h2
  exact h2

def sumBy {α : Type} (sz : α → Nat) : List α → Nat
  | [] => 0
  | a :: l => sz a + sumBy sz l
theorem sumBy_mem {α : Type} {sz : α → Nat} : ∀ {l : List α} {a : α}, a ∈ l → sz a ≤ sumBy sz l
  | x :: l, a, h => by
    rcases List.mem_cons.1 h with rfl | h
    · simp [sumBy]
    · have := sumBy_mem (sz := sz) h; simp only [sumBy]; omega
theorem sumBy_length {α : Type} {sz : α → Nat} (h : ∀ a, 1 ≤ sz a) : ∀ l : List α, l.length ≤ sumBy sz l
  | [] => Nat.le_refl _
  | a :: l => by have := sumBy_length h l; have := h a; simp only [sumBy, List.length_cons]; omega

theorem choose_list {α β : Type} {R : α → β → Prop} : ∀ {l : List β}, (∀ (i : Nat) (y : β), l[i]? = some y → ∃ x, R x y) → ∃ xs : List α, xs.length = l.length ∧ ∀ (i : Nat) (x : α) (y : β), xs[i]? = some x → l[i]? = some y → R x y
  | [], _ => ⟨[], rfl, fun i x y h => by simp at h⟩
  | y :: l, h => by
    obtain ⟨x, hx⟩ := h 0 y rfl
    obtain ⟨xs, h1, h2⟩ := choose_list (l := l) fun i y' hy => h (i + 1) y' (by simpa using hy)
    refine ⟨x :: xs, by simp [h1], fun i x' y' hx' hy' => ?_⟩
    cases i with
    | zero => simp at hx' hy'; subst hx'; subst hy'; exact hx
    | succ i => exact h2 i x' y' (by simpa using hx') (by simpa using hy')

theorem sum_le {α : Type} {sz : α → Nat} {b : DataW H → Nat} {bs : List (DataW H) → Nat} (hbs : ∀ d l, bs (d :: l) = b d + bs l) : ∀ {xs : List α} {es : List (DataW H × List MemPlace)}, xs.length = es.length → (∀ (i : Nat) (x : α) (y : DataW H × List MemPlace), xs[i]? = some x → es[i]? = some y → sz x ≤ b y.1) → sumBy sz xs ≤ bs (es.map (·.1))
  | [], _, _, _ => by simp [sumBy]
  | x :: xs, [], h, _ => by simp at h
  | x :: xs, e :: es, h, hr => by
    have h1 := hr 0 x e rfl rfl
    have h2 := sum_le (sz := sz) hbs (xs := xs) (es := es) (by simpa using h) fun i x y hx hy => hr (i + 1) x y (by simpa using hx) (by simpa using hy)
    simp only [sumBy, List.map_cons, hbs]
    omega

theorem cells_get {a : Addr} {n : Nat} {cs : List Value} (h : w.cells? 0 a n = some cs) : cs.length = n ∧ ∀ j u, cs[j]? = some u → w.cell? (a.add j) = some u := by
  unfold World.cells? at h
  rw [if_pos (Nat.zero_le _)] at h
  refine ⟨by have := mapM_some_length h; simpa using this, fun j u hu => ?_⟩
  have hj : j < n := by
    have h1 := (List.getElem?_eq_some_iff.1 hu).1
    have := mapM_some_length h; simp at this; omega
  have := mapM_some_get h j j (by simp [hj])
  rw [this, hu]

theorem cell_lt {b off : Nat} {u : Value} (h : w.cell? ⟨b, off, none⟩ = some u) : b < w.heap.size := by
  apply Decidable.byContradiction
  intro hn
  have : w.heap[b]? = none := by simp; omega
  simp [World.cell?, this] at h

theorem cell_spot {a : Addr} {u : Value} (h : w.cell? a = some u) : a.spot = none := by
  unfold World.cell? at h
  split at h
  · split at h
    · cases h
    · rename_i hs; simpa using hs
  · cases h
theorem cell_blk {a : Addr} {u : Value} (h : w.cell? a = some u) : a.block < w.heap.size := by
  apply Decidable.byContradiction
  intro hn
  have : w.heap[a.block]? = none := by simp; omega
  simp [World.cell?, this] at h

theorem add_zero (a : Addr) : a.add 0 = a := rfl
theorem add_none (b o k : Nat) : (Addr.mk b o none).add k = ⟨b, o + k, none⟩ := by
  unfold Addr.add
  split
  · rename_i h; rw [h]; rfl
  · rfl
/-- Slices. -/
theorem rd_slice {b : DataW H → Nat} {bs : List (DataW H) → Nat} (hbs : ∀ d l, bs (d :: l) = b d + bs l) (hb0 : ∀ d, 1 ≤ b d) (hb : ∀ es sp, bs es + 1 ≤ b (.slice es sp)) {t e : TypeId} (ht : P.underlying t = some (.slice e)) {n : Nat} (hn : P.cellsOf e = n) (hn0 : 0 < n)
    {α : Type} {F : α → List FV} {sz : α → Nat} (hF : ∀ a, (F a).length = n) {fuel : Nat} (ih : ∀ k, k < fuel → RdN enc P w b k e F sz) : RdN enc P w b fuel t (fun l : List α => [.sl false n (l.map F)]) (fun l => sumBy sz l + 1) := by
  intro cs x h
  rcases DataW.trod_slice ht h with ⟨rfl, rfl⟩ | ⟨a, len, cap, elems, rest, k, rfl, rfl, rfl, _, hlc, _, hlen, hel, hrest, _⟩
  · exact ⟨[], .cons (.slnil n) .nil, by simpa [sumBy] using hb0 _⟩
  · rw [hn] at hel
    have key : ∀ (i : Nat) (y : DataW H × List MemPlace), elems[i]? = some y → ∃ x : α, (∃ cs, w.cells? 0 (a.add (i * n)) n = some cs ∧ LRep (FRep w none1) (F x) cs) ∧ sz x ≤ b y.1 := by
      intro i y hy
      have hi : i < len := by rw [← hlen]; exact (List.getElem?_eq_some_iff.1 hy).1
      have h1 := hel i hi
      rw [hy] at h1
      obtain ⟨cs, h2, h3⟩ := Option.bind_eq_some_iff.1 h1
      obtain ⟨x, h4, h5⟩ := ih k (Nat.lt_succ_self _) cs y h3
      exact ⟨x, ⟨cs, h2, h4⟩, h5⟩
    -- the element at i, with its place
    have key2 : ∃ xs : List α, xs.length = elems.length ∧ ∀ (i : Nat) (x : α), xs[i]? = some x → (∃ cs, w.cells? 0 (a.add (i * n)) n = some cs ∧ LRep (FRep w none1) (F x) cs) ∧ ∀ y, elems[i]? = some y → sz x ≤ b y.1 := by
      have : ∀ (l : List (DataW H × List MemPlace)) (o : Nat), (∀ i, l[i]? = elems[o + i]?) → ∃ xs : List α, xs.length = l.length ∧ ∀ (i : Nat) (x : α), xs[i]? = some x → (∃ cs, w.cells? 0 (a.add ((o + i) * n)) n = some cs ∧ LRep (FRep w none1) (F x) cs) ∧ ∀ y, l[i]? = some y → sz x ≤ b y.1 := by
        intro l
        induction l with
        | nil => exact fun o _ => ⟨[], rfl, fun i x h => by simp at h⟩
        | cons y l ih =>
          intro o ho
          obtain ⟨x, hx1, hx2⟩ := key o y (by have := ho 0; simpa using this.symm)
          obtain ⟨xs, h1, h2⟩ := ih (o + 1) (fun i => by have := ho (i + 1); rw [show o + 1 + i = o + (i + 1) by omega]; simpa using this)
          refine ⟨x :: xs, by simp [h1], fun i x' hx' => ?_⟩
          cases i with
          | zero => simp at hx'; subst hx'; exact ⟨by simpa using hx1, fun y' hy' => by simp at hy'; subst hy'; exact hx2⟩
          | succ i =>
            have := h2 i x' (by simpa using hx')
            rw [show o + 1 + i = o + (i + 1) by omega] at this
            exact ⟨this.1, fun y' hy' => this.2 y' (by simpa using hy')⟩
      obtain ⟨xs, h1, h2⟩ := this elems 0 (fun i => by simp)
      exact ⟨xs, h1, fun i x hx => by simpa using h2 i x hx⟩
    obtain ⟨xs, hxl, hx⟩ := key2
    have hsum := sum_le (sz := sz) (b := b) hbs hxl (fun i x y h1 h2 => (hx i x h1).2 y h2)
    have hb' := hb (elems.map (·.1)) (rest.map (·.1))
    refine ⟨xs, ?_, show sumBy sz xs + 1 ≤ b (.slice (elems.map (·.1)) (rest.map (·.1))) by omega⟩
    by_cases hc0 : cap = 0
    · have h0 : len = 0 := by omega
      subst hc0; subst h0
      have : xs = [] := List.length_eq_zero_iff.1 (by omega)
      subst this
      exact .cons (.sl0 false n a) .nil
    · have hone : ∃ cs, w.cells? 0 a n = some cs := by
        by_cases h0 : len = 0
        · have hr := (hrest rfl).2 0 (by omega)
          have hr' : rest[0]? ≠ none := by
            rw [List.getElem?_eq_getElem (by rw [(hrest rfl).1]; omega)]; simp
          rw [hn] at hr
          rw [h0, show (0 + 0) * n = 0 by simp, add_zero] at hr
          cases hcl : w.cells? 0 a n with
          | none => rw [hcl] at hr; exact absurd hr.symm hr'
          | some cs => exact ⟨cs, rfl⟩
        · have : 0 < xs.length := by omega
          obtain ⟨⟨cs, h1, _⟩, _⟩ := hx 0 xs[0] (by simp [this])
          rw [show 0 * n = 0 by simp, add_zero] at h1
          exact ⟨cs, h1⟩
      obtain ⟨cs0, hq⟩ := hone
      obtain ⟨hl0, hq'⟩ := cells_get hq
      have hq0 := hq' 0 (cs0[0]'(by omega)) (by simp)
      rw [add_zero] at hq0
      have hsp : a.spot = none := cell_spot hq0
      have hbl : a.block < w.heap.size := cell_blk hq0
      obtain ⟨blk, off, sp⟩ := a
      have hsp : sp = none := hsp
      subst hsp
      refine .cons (.sl false n (xs.map F) blk off cap len (fun i j => (w.cell? ⟨blk, off + i * n + j, none⟩).getD (.bool false)) (by rw [List.length_map]; omega) (by rw [List.length_map]; omega) (fun h => h) hbl (fun i e he => ?_) (fun i j e f he hf => ?_) (fun i j e f he hf => ?_)) .nil
      · rw [List.getElem?_map] at he
        obtain ⟨x, _, rfl⟩ := Option.map_eq_some_iff.1 he
        exact hF x
      all_goals
        rw [List.getElem?_map] at he
        obtain ⟨x, hxi, rfl⟩ := Option.map_eq_some_iff.1 he
        obtain ⟨⟨cs, h1, h2⟩, _⟩ := hx i x hxi
        obtain ⟨h3, h4⟩ := cells_get h1
        have hj : j < cs.length := by rw [← h2.1]; exact (List.getElem?_eq_some_iff.1 hf).1
        have h5 := h4 j cs[j] (by simp)
        rw [add_none, add_none] at h5
      · rw [h5]; rfl
      · rw [h5]
        exact h2.2 j f cs[j] hf (by simp)

/-- Terms. -/
theorem FT_sum : ∀ l : List Tm, Tm.bks l = sumBy Tm.bk l
  | [] => rfl
  | t :: l => by rw [Tm.bks, sumBy, FT_sum l]
/-- How a term lies. -/
structure TmTy (P : Program) (T : TypeId) (f0 f1 f2 f3 : Field) : Prop where
  str : P.underlying T = some (.struct #[f0, f1, f2, f3])
  u0 : P.underlying f0.type = some (.int .i64)
  u1 : P.underlying f1.type = some .string
  u2 : P.underlying f2.type = some (.int .i64)
  u3 : P.underlying f3.type = some (.slice T)
  o0 : f0.offset = 0
  o1 : f1.offset = 1
  o2 : f2.offset = 2
  o3 : f3.offset = 3
  c0 : P.cellsOf f0.type = 1
  c1 : P.cellsOf f1.type = 1
  c2 : P.cellsOf f2.type = 1
  c3 : P.cellsOf f3.type = 1
  cT : P.cellsOf T = 4
/-- How much a reading holds. -/
structure Bulk (b : DataW H → Nat) (bs : List (DataW H) → Nat) : Prop where
  nil : bs [] = 0
  cons : ∀ d l, bs (d :: l) = b d + bs l
  one : ∀ d, 1 ≤ b d
  slice : ∀ es sp, bs es + 1 ≤ b (.slice es sp)
  str : ∀ l : List UInt8, l.length + 1 ≤ b (.lit (.string l))
  agg : ∀ l, bs l + 1 ≤ b (.agg l)
theorem LRep.one {α : Type} {R : α → Value → Prop} {c : α} {u : Value} (h : LRep R [c] [u]) : R c u := h.2 0 c u rfl rfl
theorem rd_term {b : DataW H → Nat} {bs : List (DataW H) → Nat} (hb : Bulk b bs) {T : TypeId} {f0 f1 f2 f3 : Field} (hT : TmTy P T f0 f1 f2 f3) : ∀ fuel, RdN enc P w b fuel T FT Tm.bk := by
  intro fuel
  induction fuel using Nat.strongRecOn with
  | _ fuel ih =>
    intro cs x h
    obtain ⟨xs, n, rfl, rfl, hl, hxl, hf⟩ := DataW.trod_struct hT.str h
    rw [hT.cT] at hl
    match cs, hl with
    | [v0, v1, v2, v3], _ =>
    match xs, hxl with
    | [x0, x1, x2, x3], _ =>
    have g0 := hf 0 f0 rfl
    have g1 := hf 1 f1 rfl
    have g2 := hf 2 f2 rfl
    have g3 := hf 3 f3 rfl
    rw [hT.o0, hT.c0] at g0
    rw [hT.o1, hT.c1] at g1
    rw [hT.o2, hT.c2] at g2
    rw [hT.o3, hT.c3] at g3
    obtain ⟨k, r0, _⟩ := rd_int (b := b) hT.u0 hb.one n _ _ g0
    obtain ⟨s, r1, z1⟩ := rd_str (b := b) hT.u1 hb.str n _ _ g1
    have z1 : s.length + 1 ≤ b x1.1 := z1
    obtain ⟨m, r2, _⟩ := rd_int (b := b) hT.u2 hb.one n _ _ g2
    obtain ⟨l, r3, z3⟩ := rd_slice (F := FT) (sz := Tm.bk) hb.cons hb.one hb.slice hT.u3 hT.cT (by omega) FT_length (fun k hk => ih k (by omega)) _ _ g3
    have z3 : sumBy Tm.bk l + 1 ≤ b x3.1 := z3
    refine ⟨.mk k s m l, ?_, ?_⟩
    · rw [FT, FTs_map]
      exact .cons (LRep.one r0) (.cons (LRep.one r1) (.cons (LRep.one r2) (.cons (LRep.one r3) .nil)))
    · have := hb.one x0.1
      simp only [Tm.bk, FT_sum]
      show _ ≤ b (.agg [x0.1, x1.1, x2.1, x3.1])
      have h9 := hb.agg [x0.1, x1.1, x2.1, x3.1]
      simp only [hb.cons, hb.nil] at h9
      omega

/-! ### Arguments -/
theorem none_own {Y : Nat → Prop} (hY : ∀ b, ¬ Y b) {Hs : List AObj} : (fun b => Y b ∨ Own (fun o => Hs.getD o .gone) (fun _ => none) b) = none1 := by
  funext b
  refine propext ⟨fun h => ?_, fun h => h.elim⟩
  rcases h with h | ⟨o, _, h⟩
  · exact (hY b h).elim
  · cases h
abbrev β0 : Nat → Option Nat := fun _ => none
theorem open_term {b : DataW H → Nat} {bs : List (DataW H) → Nat} (hb : Bulk b bs) {T : TypeId} {f0 f1 f2 f3 : Field} (hT : TmTy P T f0 f1 f2 f3) {r : Reach} {base : Nat} {v : Value} {d : DataW H} {ps : List MemPlace}
    (hv : Value.okWide P w r base T v) (hd : DataW.Trod enc P w 0 (fun _ => true) true T v d ps) : ∃ t : Tm, TRep w none1 β0 (aT t) v ∧ t.bk ≤ b d := by
  obtain ⟨cs, rfl, _⟩ := okWide_struct hT.str hv
  obtain ⟨fuel, hf⟩ := hd
  obtain ⟨t, h1, h2⟩ := rd_term hb hT fuel _ _ hf
  refine ⟨t, ⟨cs.toList, by simp, ?_⟩, h2⟩
  rw [FT_eta] at h1
  have h1 : LRep (FRep w none1) [.int .i64 t.k, .str t.s, .int .i64 t.n, .sl false 4 (FTs t.l)] cs.toList := h1
  exact h1.map (g := fun x => WV.a (.fz x)) fun c u _ h => .a _ _ (.fz _ _ h)
theorem open_terms {b : DataW H → Nat} {bs : List (DataW H) → Nat} (hb : Bulk b bs) {T S : TypeId} {f0 f1 f2 f3 : Field} (hT : TmTy P T f0 f1 f2 f3) (hS : P.underlying S = some (.slice T)) {r : Reach} {base : Nat} {v : Value} {d : DataW H} {ps : List MemPlace}
    (hv : Value.okWide P w r base S v) (hd : DataW.Trod enc P w 0 (fun _ => true) true S v d ps) : ∃ l : List Tm, TRep w none1 β0 (aL l) v ∧ Tm.bks l + 1 ≤ b d := by
  obtain ⟨a, len, cap, rfl⟩ := okWide_slice hS hv
  obtain ⟨fuel, hf⟩ := hd
  obtain ⟨l, h1, h2⟩ := rd_slice (F := FT) (sz := Tm.bk) hb.cons hb.one hb.slice hS hT.cT (by omega) FT_length (fun k _ => rd_term hb hT k) _ _ hf
  have h2 : sumBy Tm.bk l + 1 ≤ b d := h2
  rw [← FT_sum] at h2
  have h1 : LRep (FRep w none1) [.sl false 4 (l.map FT)] [_] := h1
  rw [← FTs_map] at h1
  exact ⟨l, .a _ _ (.fz _ _ h1.one), h2⟩
theorem open_num {t : TypeId} {k : IntKind} (ht : P.underlying t = some (.int k)) {r : Reach} {base : Nat} {v : Value} {d : DataW H} {ps : List MemPlace}
    (hv : Value.okWide P w r base t v) (hd : DataW.Trod enc P w 0 (fun _ => true) true t v d ps) : ∃ n : Int, TRep w none1 β0 (.c (.a (.fz (.int k n)))) v ∧ (Lit.int k n).wf = true := by
  obtain ⟨n, rfl, _, _, hw⟩ := open_int ht hv hd
  exact ⟨n, .a _ _ (.fz _ _ (.int k n)), hw⟩
theorem open_str {t : TypeId} (ht : P.underlying t = some .string) {b : DataW H → Nat} {bs : List (DataW H) → Nat} (hb : Bulk b bs) {r : Reach} {base : Nat} {v : Value} {d : DataW H} {ps : List MemPlace}
    (hv : Value.okWide P w r base t v) (hd : DataW.Trod enc P w 0 (fun _ => true) true t v d ps) : ∃ s : List UInt8, TRep w none1 β0 (cs s) v ∧ s.length + 1 ≤ b d := by
  obtain ⟨s, rfl⟩ := okWide_string ht hv
  obtain ⟨fuel, hf⟩ := hd
  obtain ⟨l, h1, h2⟩ := rd_str (b := b) ht hb.str fuel _ _ hf
  exact ⟨l, .a _ _ (.fz _ _ h1.one), h2⟩

/-! ### The end -/
theorem kept_good {w' : World} {foot : Nat → Prop} (g : Good w foot w') (hf : ∀ b, ¬ foot b) (may : MemPlace → Prop) : w.keptBut w' may := by
  refine ⟨g.os, g.output, fun i hi => ?_⟩
  rw [g.blk i hi (hf i)]
  exact (World.keptBut_refl w may).2.2 i hi
theorem same_good {w' : World} {foot : Nat → Prop} (g : Good w foot w') (hf : ∀ b, ¬ foot b) {p : MemPlace} (hp : p.block < w.heap.size) : w.sameAt w' p := by
  cases p with
  | cell b o => exact World.cell?_of_block (a := ⟨b, o, none⟩) (g.blk b hp (hf b))
  | map b => exact g.blk b hp (hf b)
theorem trodAll_stays (hl : laidOutB P = true) {w' : World} {sp : Nat → Bool} : ∀ {ts : List TypeId} {vs : List Value} {ds : List (DataW H)} {p : List MemPlace}, DataW.TrodAll enc P w 0 (fun _ => true) true ts vs ds p →
    (∀ t ∈ ts, P.readableRec t = true ∧ t < P.types.size) → (∀ x ∈ p, w.sameAt w' x) → (∀ x ∈ p, sp x.block = true) → DataW.TrodAll enc P w' 0 sp true ts vs ds p
  | [], _, _, _, h, _, _, _ => by
    obtain ⟨rfl, rfl, rfl⟩ := trodAll_nil h
    exact trodAll_mk0
  | t :: ts, _, _, _, h, ht, hs, hsp => by
    obtain ⟨v, vs', d, ds', p, q, rfl, rfl, rfl, ⟨n, h1⟩, h2⟩ := trodAll_cons h
    have hr := (ht t List.mem_cons_self).1
    exact ⟨p, q, ⟨n, DataW.trod_stays (kids_book hl hr) (book_sized hr) (fun h => by cases h) ⟨(ht t List.mem_cons_self).2, book_self t⟩ h1 (fun x hx => hs x (List.mem_append_left _ hx)) (fun x hx => hsp x (List.mem_append_left _ hx))⟩,
      trodAll_stays hl h2 (fun u hu => ht u (List.mem_cons_of_mem _ hu)) (fun x hx => hs x (List.mem_append_right _ hx)) (fun x hx => hsp x (List.mem_append_right _ hx)), rfl⟩
/-- A law's end: it returns true, and what was read reads as before. -/
theorem post_good (hl : laidOutB P = true) {f : Func} {s : ChangeSpec} {apart fresh handsOn again : Bool} {w' : World} {args : Array Value} {ds gs : List (DataW H)} {before : List MemPlace} {foot : Nat → Prop} {tb : TypeId}
    (hW : DataW.Whole enc P f.params.toList s.vars apart w args.toList ds gs before) (hv : s.vars = []) (hs : ∀ ds' : List (DataW H), ds'.length = ds.length → s.fn H ds' = { results := [.lit (.bool true)], args := ds' })
    (ht : ∀ t ∈ f.params.toList, P.readableRec t = true ∧ t < P.types.size) (hr : f.resultTypes = #[tb]) (hb : P.underlying tb = some .bool) (g : Good w foot w') (hf : ∀ b, ¬ foot b) :
    s.post enc P f apart fresh handsOn again w args (.bool true) w' := by
  have hlt := hW.lt
  obtain ⟨p, q, h1, h2, he, hz, hn⟩ := hW
  rw [hv] at h2
  obtain ⟨rfl, rfl⟩ := trodVars_none h2
  rw [List.append_nil] at he
  subst he
  have hold : ∀ x ∈ before, (fun b => decide (b < w.heap.size)) x.block = true := fun x hx => by simpa using hlt x hx
  have hfn := hs (ds ++ []) (by simp)
  have hargs : ∀ sp : Nat → Bool, (∀ x ∈ before, sp x.block = true) → DataW.TrodAll enc P w' 0 sp true f.params.toList args.toList (s.fn H (ds ++ [])).args before := fun sp hsp => by
    rw [hfn, List.append_nil]
    exact trodAll_stays hl h1 ht (fun x hx => same_good g hf (hlt x hx)) hsp
  have hres : ∀ (b : Nat) (sp : Nat → Bool) (hd : Bool), DataW.TrodAll enc P w' b sp hd f.resultTypes.toList ((Value.bool true).resultList f.resultTypes.size) (s.fn H (ds ++ [])).results [] := fun b sp hd => by
    rw [hfn, hr]
    exact trodAll_mk1 ⟨1, by simp [DataW.trod, Value.cells, hb]⟩
  have hvars : ∀ sp : Nat → Bool, DataW.TrodVars enc P w' sp s.vars (s.fn H (ds ++ [])).vars [] := fun sp => by
    rw [hfn, hv]
    rfl
  refine ⟨ds, [], before, [], before, [], ⟨before, [], h1, by rw [hv]; rfl, by simp, hz, hn⟩, hres _ _ _, hargs _ hold, hvars _, World.keptBut_mono (fun x hx => ⟨hx, ?_⟩) (kept_good g hf (· ∈ before)), fun _ => ?_⟩
  · simpa using hx
  · refine ⟨ok_one hr rfl (okWide_bool_mk hb _), _, _, ([] ++ before) ++ [], ⟨[] ++ before, [], trodAll_append (hargs _ (fun _ _ => rfl)) (hres _ _ _), hvars _, rfl, ?_, ?_⟩, ?_⟩
    · intro b off hp
      have hp : MemPlace.cell b off ∈ before := by simpa using hp
      have hb := hlt _ hp
      have : w'.frozen? ⟨b, off, none⟩ = w.frozen? ⟨b, off, none⟩ := by
        unfold World.frozen?
        rw [g.blk b hb (hf b)]
      rw [this]
      exact hz b off hp
    · intro ha
      simpa using hn ha
    · intro x hx _
      simpa using hx
/-- A contract that a law's function answers: true. -/
theorem law_true {f : FuncId} {args : List TV} (hgl : Gl P w none1) (h : AC P f args [] (cb true) []) {vals : List Value} (hv : LRep (TRep w none1 β0) args vals) :
    Calls P f vals.toArray w fun e w' => e = .returned (.bool true) ∧ ∃ foot, (∀ b, ¬ foot b) ∧ Good w foot w' := by
  have hX : (fun b => (fun _ : Nat => False) b ∨ Own (fun o => ([] : List AObj).getD o .gone) β0 b) = none1 := none_own (fun _ h => h)
  refine (h.2.2 w vals β0 (fun _ => False) (fun o b h => by cases h) (fun b h => h.elim) (hgl.sub fun b ⟨o, h5, _⟩ => by simp [isLive] at h5) ⟨fun o b h _ => by simp [isLive] at h, fun o h => by simp [isLive] at h, fun o o' b h => by simp [isLive] at h, fun o b h => by cases h⟩ (by rw [hX]; exact hv)).mono fun e w' ⟨v, β', h1, h2, h3, h4, _⟩ => ?_
  subst h1
  cases h4 with
  | a _ _ h4 =>
    cases h4 with
    | fz _ _ h4 =>
      cases h4
      exact ⟨rfl, _, fun b ⟨o, h5, _⟩ => by simp [isLive] at h5, h2⟩
end
end Go.AM

namespace Go.AM
open Go.ChangeShapes Go.WideShapes Go.ChangeAt Go.RowKit

section
variable {H : Type} {enc : TypeId × Value → H} {P : Program} {w : World}
def Opd.bk (o : Opd) : Nat := o.nm.length + 2
/-- How an operator lies. -/
structure OpTy (P : Program) (T : TypeId) (f0 f1 f2 : Field) : Prop where
  str : P.underlying T = some (.struct #[f0, f1, f2])
  u0 : P.underlying f0.type = some .string
  u1 : P.underlying f1.type = some (.int .i64)
  u2 : P.underlying f2.type = some (.int .i64)
  o0 : f0.offset = 0
  o1 : f1.offset = 1
  o2 : f2.offset = 2
  c0 : P.cellsOf f0.type = 1
  c1 : P.cellsOf f1.type = 1
  c2 : P.cellsOf f2.type = 1
  cT : P.cellsOf T = 3
theorem rd_op {b : DataW H → Nat} {bs : List (DataW H) → Nat} (hb : Bulk b bs) {T : TypeId} {f0 f1 f2 : Field} (hT : OpTy P T f0 f1 f2) (fuel : Nat) : RdN enc P w b fuel T (fun o : { o : Opd // (Lit.int .i64 o.pr).wf = true } => Opd.c o.1) (fun o => o.1.bk) := by
  intro cs x h
  obtain ⟨xs, n, rfl, rfl, hl, hxl, hf⟩ := DataW.trod_struct hT.str h
  rw [hT.cT] at hl
  match cs, hl with
  | [v0, v1, v2], _ =>
  match xs, hxl with
  | [x0, x1, x2], _ =>
  have g0 := hf 0 f0 rfl
  have g1 := hf 1 f1 rfl
  have g2 := hf 2 f2 rfl
  rw [hT.o0, hT.c0] at g0
  rw [hT.o1, hT.c1] at g1
  rw [hT.o2, hT.c2] at g2
  obtain ⟨s, r0, z0⟩ := rd_str (b := b) hT.u0 hb.str n _ _ g0
  have z0 : s.length + 1 ≤ b x0.1 := z0
  obtain ⟨p, r1, _⟩ := rd_num (b := b) hT.u1 hb.one n _ _ g1
  obtain ⟨q, r2, _⟩ := rd_num (b := b) hT.u2 hb.one n _ _ g2
  refine ⟨⟨⟨s, p.1, q.1⟩, p.2⟩, .cons (LRep.one r0) (.cons (LRep.one r1) (.cons (LRep.one r2) .nil)), ?_⟩
  show s.length + 2 ≤ b (.agg [x0.1, x1.1, x2.1])
  have h9 := hb.agg [x0.1, x1.1, x2.1]
  simp only [hb.cons, hb.nil] at h9
  omega
theorem open_op {b : DataW H → Nat} {bs : List (DataW H) → Nat} (hb : Bulk b bs) {T : TypeId} {f0 f1 f2 : Field} (hT : OpTy P T f0 f1 f2) {r : Reach} {base : Nat} {v : Value} {d : DataW H} {ps : List MemPlace}
    (hv : Value.okWide P w r base T v) (hd : DataW.Trod enc P w 0 (fun _ => true) true T v d ps) : ∃ o : Opd, TRep w none1 β0 (aO o) v ∧ o.bk ≤ b d ∧ (Lit.int .i64 o.pr).wf = true := by
  obtain ⟨cs, rfl, _⟩ := okWide_struct hT.str hv
  obtain ⟨fuel, hf⟩ := hd
  obtain ⟨⟨o, hw⟩, h1, h2⟩ := rd_op hb hT fuel _ _ hf
  refine ⟨o, ⟨cs.toList, by simp, ?_⟩, h2, hw⟩
  have h1 : LRep (FRep w none1) [.str o.nm, .int .i64 o.pr, .int .i64 o.fx] cs.toList := h1
  exact h1.map (g := fun x => WV.a (.fz x)) fun c u _ h => .a _ _ (.fz _ _ h)
theorem open_ops {b : DataW H → Nat} {bs : List (DataW H) → Nat} (hb : Bulk b bs) {T S : TypeId} {f0 f1 f2 : Field} (hT : OpTy P T f0 f1 f2) (hS : P.underlying S = some (.slice T)) {r : Reach} {base : Nat} {v : Value} {d : DataW H} {ps : List MemPlace}
    (hv : Value.okWide P w r base S v) (hd : DataW.Trod enc P w 0 (fun _ => true) true S v d ps) : ∃ l : List Opd, TRep w none1 β0 (aOs l) v ∧ l.length ≤ b d := by
  obtain ⟨a, len, cap, rfl⟩ := okWide_slice hS hv
  obtain ⟨fuel, hf⟩ := hd
  obtain ⟨l, h1, h2⟩ := rd_slice hb.cons hb.one hb.slice hS hT.cT (by omega) (fun _ => rfl) (fun k _ => rd_op hb hT k) _ _ hf
  have h2 : sumBy (fun o : { o : Opd // (Lit.int .i64 o.pr).wf = true } => o.1.bk) l + 1 ≤ b d := h2
  have h3 := sumBy_length (sz := fun o : { o : Opd // (Lit.int .i64 o.pr).wf = true } => o.1.bk) (fun o => by simp only [Opd.bk]; omega) l
  have h1 : LRep (FRep w none1) [.sl false 3 (l.map fun o => Opd.c o.1)] [_] := h1
  refine ⟨l.map (·.1), ?_, by rw [List.length_map]; omega⟩
  have e : OR (l.map (·.1)) = l.map fun o => Opd.c o.1 := by simp [OR]
  show TRep w none1 β0 (.c (.a (.fz (.sl false 3 (OR (l.map (·.1))))))) _
  rw [e]
  exact .a _ _ (.fz _ _ h1.one)
/-- How a token lies. -/
structure TkTy (P : Program) (T : TypeId) (f0 f1 f2 f3 : Field) : Prop where
  str : P.underlying T = some (.struct #[f0, f1, f2, f3])
  u0 : P.underlying f0.type = some (.int .i64)
  u1 : P.underlying f1.type = some .string
  u2 : P.underlying f2.type = some (.int .i64)
  u3 : P.underlying f3.type = some (.int .i64)
  o0 : f0.offset = 0
  o1 : f1.offset = 1
  o2 : f2.offset = 2
  o3 : f3.offset = 3
  c0 : P.cellsOf f0.type = 1
  c1 : P.cellsOf f1.type = 1
  c2 : P.cellsOf f2.type = 1
  c3 : P.cellsOf f3.type = 1
  cT : P.cellsOf T = 4
theorem open_tok {b : DataW H → Nat} {bs : List (DataW H) → Nat} (hb : Bulk b bs) {T : TypeId} {f0 f1 f2 f3 : Field} (hT : TkTy P T f0 f1 f2 f3) {r : Reach} {base : Nat} {v : Value} {d : DataW H} {ps : List MemPlace}
    (hv : Value.okWide P w r base T v) (hd : DataW.Trod enc P w 0 (fun _ => true) true T v d ps) : ∃ (k n a : Int) (s : List UInt8), TRep w none1 β0 (.agg [.a (.fz (.int .i64 k)), .a (.fz (.str s)), .a (.fz (.int .i64 n)), .a (.fz (.int .i64 a))]) v := by
  obtain ⟨cs, rfl, _⟩ := okWide_struct hT.str hv
  obtain ⟨fuel, hf⟩ := hd
  obtain ⟨xs, n, hcs, _, hl, hxl, hf⟩ := DataW.trod_struct hT.str hf
  rw [hT.cT] at hl
  obtain ⟨cs⟩ := cs
  try dsimp only at *
  match cs, hl with
  | [v0, v1, v2, v3], _ =>
  match xs, hxl with
  | [x0, x1, x2, x3], _ =>
  have g0 := hf 0 f0 rfl
  have g1 := hf 1 f1 rfl
  have g2 := hf 2 f2 rfl
  have g3 := hf 3 f3 rfl
  rw [hT.o0, hT.c0] at g0
  rw [hT.o1, hT.c1] at g1
  rw [hT.o2, hT.c2] at g2
  rw [hT.o3, hT.c3] at g3
  obtain ⟨k, r0, _⟩ := rd_int (b := b) hT.u0 hb.one n _ _ g0
  obtain ⟨s, r1, _⟩ := rd_str (b := b) hT.u1 hb.str n _ _ g1
  obtain ⟨m, r2, _⟩ := rd_int (b := b) hT.u2 hb.one n _ _ g2
  obtain ⟨a, r3, _⟩ := rd_int (b := b) hT.u3 hb.one n _ _ g3
  have h1 : LRep (FRep w none1) [.int .i64 k, .str s, .int .i64 m, .int .i64 a] [v0, v1, v2, v3] := .cons (LRep.one r0) (.cons (LRep.one r1) (.cons (LRep.one r2) (.cons (LRep.one r3) .nil)))
  exact ⟨k, m, a, s, ⟨_, rfl, h1.map (g := fun x => WV.a (.fz x)) fun c u _ h => .a _ _ (.fz _ _ h)⟩⟩
end
end Go.AM

set_option maxRecDepth 100000
open Go Go.Proofs
namespace Go.Proofs.YtcfabdfgdkfakaaDoor.base
open Go.ChangeShapes Go.WideShapes Go.ChangeAt Go.RowKit Go.AM

theorem one_le {H : Type} (d : DataW H) : 1 ≤ Rows.uptoBulk d := by
  cases d with
  | lit l => cases l <;> simp [Rows.uptoBulk]
  | _ => simp [Rows.uptoBulk]
theorem bulk {H : Type} : Bulk (H := H) Rows.uptoBulk Rows.uptoBulkAll :=
  ⟨rfl, fun _ _ => rfl, one_le, fun es sp => by simp only [Rows.uptoBulk]; omega, fun l => by simp [Rows.uptoBulk], fun l => by simp [Rows.uptoBulk]⟩
theorem own : ownKnob Tryd.prog.godebug = none := by kernel_rfl
theorem laidOut : laidOutB Tryd.prog = true := by kernel_rfl
theorem opTy : ∃ f0 f1 f2 : Field, OpTy Tryd.prog 24 f0 f1 f2 :=
  ⟨_, _, _, Tryd.underlying24, Tryd.underlying9, Tryd.underlying3, Tryd.underlying22, rfl, rfl, rfl, by kernel_rfl, by kernel_rfl, by kernel_rfl, by kernel_rfl⟩
theorem tkTy : ∃ f0 f1 f2 f3 : Field, TkTy Tryd.prog 43 f0 f1 f2 f3 :=
  ⟨_, _, _, _, Tryd.underlying43, Tryd.underlying41, Tryd.underlying9, Tryd.underlying3, Tryd.underlying3, rfl, rfl, rfl, rfl, by kernel_rfl, by kernel_rfl, by kernel_rfl, by kernel_rfl, by kernel_rfl⟩
theorem num_range {n : Int} (h : (Lit.int .i64 n).wf = true) : -9223372036854775808 ≤ n ∧ n ≤ 9223372036854775807 := by
  simp only [Lit.wf, IntKind.min, IntKind.max, IntKind.signed, IntKind.bits, Bool.and_eq_true, decide_eq_true_eq, if_true] at h; omega
theorem upto {H : Type} {l : List (DataW H)} (hk : Rows.uptoSmall H l = true) : Rows.uptoBulkAll l ≤ 1048576 := of_decide_eq_true hk
theorem rec24 : Tryd.prog.readableRec 24 = true := by kernel_rfl
theorem lt24 : 24 < Tryd.prog.types.size := of_decide_eq_true (by kernel_rfl)
theorem want24 : Tryd.prog.wantsStandIn 24 = false := by kernel_rfl
theorem rec28 : Tryd.prog.readableRec 28 = true := by kernel_rfl
theorem lt28 : 28 < Tryd.prog.types.size := of_decide_eq_true (by kernel_rfl)
theorem want28 : Tryd.prog.wantsStandIn 28 = false := by kernel_rfl
theorem rec3 : Tryd.prog.readableRec 3 = true := by kernel_rfl
theorem lt3 : 3 < Tryd.prog.types.size := of_decide_eq_true (by kernel_rfl)
theorem want3 : Tryd.prog.wantsStandIn 3 = false := by kernel_rfl
theorem rec9 : Tryd.prog.readableRec 9 = true := by kernel_rfl
theorem lt9 : 9 < Tryd.prog.types.size := of_decide_eq_true (by kernel_rfl)
theorem want9 : Tryd.prog.wantsStandIn 9 = false := by kernel_rfl
theorem rec43 : Tryd.prog.readableRec 43 = true := by kernel_rfl
theorem lt43 : 43 < Tryd.prog.types.size := of_decide_eq_true (by kernel_rfl)
theorem want43 : Tryd.prog.wantsStandIn 43 = false := by kernel_rfl
abbrev laids : List (String × DataW Unit) := [("math/bits.deBruijn32tab", Rows.laid_math_bits_deBruijn32tab), ("math/bits.deBruijn64tab", Rows.laid_math_bits_deBruijn64tab), ("internal/strconv.uint64pow10", Rows.laid_internal_strconv_uint64pow10)]
theorem gTab : Tryd.prog.globalNamed "internal/strconv.uint64pow10" = some 0 := by kernel_rfl
theorem gTabType : (Tryd.prog.globals[0]?).map (·.type) = some 73 := by kernel_rfl
theorem powTab : (Rows.laid_internal_strconv_uint64pow10 : DataW Unit) = Lib.tabData .u64 Lib.pow10Tab := by kernel_rfl
theorem tabHas {W : World} (h : laidMetH Tryd.prog laids W) : Lib.TabIs Tryd.prog W "internal/strconv.uint64pow10" .u64 Lib.pow10Tab := by
  have h : laidMet Tryd.prog laids W := h
  obtain ⟨ps, ⟨_, _, _, _, _, q1, _, _, _, _, ⟨_, _, _, _, _, q2, _, _, _, _, ⟨g', t', cs, fuel, p, q, hg', ht', hvar, hd, _, _⟩, _⟩, _⟩, _⟩ := h
  obtain rfl := Option.some.inj (gTab.symm.trans hg')
  obtain rfl := Option.some.inj (gTabType.symm.trans ht')
  unfold Lib.TabIs
  rw [powTab] at hd
  rw [hvar, ← Lib.cells_of_tab Tryd.underlying73 (by first | exact Tryd.underlying64) (by kernel_rfl) (by kernel_rfl) hd]
theorem glHas {W : World} (h : laidMetH Tryd.prog laids W) : Gl Tryd.prog W none1 := fun g hg => by
  obtain rfl := Option.some.inj (gTab.symm.trans hg)
  have ht := tabHas h
  refine ⟨ht, fun h => h, ?_⟩
  unfold Lib.TabIs World.var? at ht
  rw [gTab] at ht
  simp only [Option.bind_some] at ht
  split at ht
  · rename_i hh; exact (Array.getElem?_eq_some_iff.1 hh).1
  · cases ht
/-- A world for the witness: the tables laid. -/
noncomputable def laidWorld (os : Os) : World :=
  { World.holding Tryd.prog os ⟨#[], #[], []⟩ with heap := ((((World.holding Tryd.prog os ⟨#[], #[], []⟩).heap.modify 2 fun | .cells _ t frozen => .cells #[.int .u8 0, .int .u8 1, .int .u8 28, .int .u8 2, .int .u8 29, .int .u8 14, .int .u8 24, .int .u8 3, .int .u8 30, .int .u8 22, .int .u8 20, .int .u8 15, .int .u8 25, .int .u8 17, .int .u8 4, .int .u8 8, .int .u8 31, .int .u8 27, .int .u8 13, .int .u8 23, .int .u8 21, .int .u8 19, .int .u8 16, .int .u8 7, .int .u8 26, .int .u8 12, .int .u8 18, .int .u8 6, .int .u8 11, .int .u8 5, .int .u8 10, .int .u8 9] t frozen | o => o).modify 3 fun | .cells _ t frozen => .cells #[.int .u8 0, .int .u8 1, .int .u8 56, .int .u8 2, .int .u8 57, .int .u8 49, .int .u8 28, .int .u8 3, .int .u8 61, .int .u8 58, .int .u8 42, .int .u8 50, .int .u8 38, .int .u8 29, .int .u8 17, .int .u8 4, .int .u8 62, .int .u8 47, .int .u8 59, .int .u8 36, .int .u8 45, .int .u8 43, .int .u8 51, .int .u8 22, .int .u8 53, .int .u8 39, .int .u8 33, .int .u8 30, .int .u8 24, .int .u8 18, .int .u8 12, .int .u8 5, .int .u8 63, .int .u8 55, .int .u8 48, .int .u8 27, .int .u8 60, .int .u8 41, .int .u8 37, .int .u8 16, .int .u8 46, .int .u8 35, .int .u8 44, .int .u8 21, .int .u8 52, .int .u8 32, .int .u8 23, .int .u8 11, .int .u8 54, .int .u8 26, .int .u8 40, .int .u8 15, .int .u8 34, .int .u8 20, .int .u8 31, .int .u8 10, .int .u8 25, .int .u8 14, .int .u8 19, .int .u8 9, .int .u8 13, .int .u8 8, .int .u8 7, .int .u8 6] t frozen | o => o).modify 0 fun | .cells _ t frozen => .cells #[.int .u64 1, .int .u64 10, .int .u64 100, .int .u64 1000, .int .u64 10000, .int .u64 100000, .int .u64 1000000, .int .u64 10000000, .int .u64 100000000, .int .u64 1000000000, .int .u64 10000000000, .int .u64 100000000000, .int .u64 1000000000000, .int .u64 10000000000000, .int .u64 100000000000000, .int .u64 1000000000000000, .int .u64 10000000000000000, .int .u64 100000000000000000, .int .u64 1000000000000000000, .int .u64 10000000000000000000] t frozen | o => o) }
end Go.Proofs.YtcfabdfgdkfakaaDoor.base
