/- A calculus of plain values for the model's code, what the code of each function asks (computed by the kernel), contracts of the functions, and plain laws (part 5). No conditions. -/
import Derived.Test.YtdpjhpfjmjhhkaaPart4
import Derived.Test.YtdpjhpfjmjhhkaaShelf
set_option maxRecDepth 100000
open Go Go.Proofs
namespace Go.AM
/-- lambent/term.each -/
theorem v58_F95 (t_0 : Int) (t_1 : List UInt8) (t_2 : Int) (t_3 : List (List FV)) (k : Int) (o0_0 : Int) (r : TV) (Hs' : List AObj) : vcE Try.prog sh lv58 58 [(.agg [(.a (.fz (.int .i64 t_0))), (.a (.fz (.str t_1))), (.a (.fz (.int .i64 t_2))), (.a (.fz (.sl false 4 t_3)))]), (.c (.a (.fz (.int .i64 k)))), (.c (.fn (.func 95) [] [(false, [(.ep 0 1 0 0)])]))] [(.arr 1 [[(.a (.fz (.int .i64 o0_0)))]])] (fun r0 Hs0 => TV.Le r0 r ∧ Hs0 = Hs') (RPt Try.prog 58 1 r Hs') =
    (br ((t_0 : Int) != (5 : Int)) (br ((t_0 : Int) != (6 : Int)) (∃ z1 : Int, ((AC Try.prog 95 [(.agg [(.a (.fz (.int .i64 t_0))), (.a (.fz (.str t_1))), (.a (.fz (.int .i64 t_2))), (.a (.fz (.sl false 4 t_3)))]), (.c (.a (.fz (.int .i64 k)))), (.c (.a (.ep 0 1 0 0)))] [(.arr 1 [[(.a (.fz (.int .i64 o0_0)))]])] (.tup []) [(.arr 1 [[(.a (.fz (.int .i64 z1)))]])]) ∧ (TV.Le (.tup []) r ∧ [(.arr 1 [[(.a (.fz (.int .i64 z1)))]])] = Hs'))) (∃ y2 : FV, (∃ n3 : Int, ((AC Try.prog 84 [(.agg [(.a (.fz (.int .i64 t_0))), (.a (.fz (.str t_1))), (.a (.fz (.int .i64 t_2))), (.a (.fz (.sl false 4 t_3)))])] [] (.tup [(false, [(.a (.fz y2))]), (false, [(.a (.fz (.int .i64 n3)))])]) []) ∧ ((FV.isSl 4 y2 = true) ∧ (RPt Try.prog 58 1 r Hs' 1 ⟨[(1, (.c (.a (.fz (.int .i64 k))))), (2, (.c (.fn (.func 95) [] [(false, [(.ep 0 1 0 0)])]))), (7, (.c (.a (.fz (.int .i64 n3))))), (27, (.c (.a (.fz y2)))), (28, (.c (.a (.fz (.int .i64 (((List.length (FV.ses y2)) : Nat) : Int)))))), (29, (.c (.a (.fz (.int .i64 (0 : Int))))))], [(0, (.arr 1 [[(.a (.fz (.int .i64 o0_0)))]]))], 1⟩)))))) (∃ y4 : FV, (∃ n5 : Int, ((AC Try.prog 84 [(.agg [(.a (.fz (.int .i64 t_0))), (.a (.fz (.str t_1))), (.a (.fz (.int .i64 t_2))), (.a (.fz (.sl false 4 t_3)))])] [] (.tup [(false, [(.a (.fz y4))]), (false, [(.a (.fz (.int .i64 n5)))])]) []) ∧ ((FV.isSl 4 y4 = true) ∧ (RPt Try.prog 58 1 r Hs' 1 ⟨[(1, (.c (.a (.fz (.int .i64 k))))), (2, (.c (.fn (.func 95) [] [(false, [(.ep 0 1 0 0)])]))), (7, (.c (.a (.fz (.int .i64 n5))))), (27, (.c (.a (.fz y4)))), (28, (.c (.a (.fz (.int .i64 (((List.length (FV.ses y4)) : Nat) : Int)))))), (29, (.c (.a (.fz (.int .i64 (0 : Int))))))], [(0, (.arr 1 [[(.a (.fz (.int .i64 o0_0)))]]))], 1⟩)))))) := by kernel_rfl
theorem v58_F95_1a (x1 : Int) (x7 : Int) (x27 : FV) (x28 : Int) (x29 : Int) (h0_0 : Int) (r : TV) (Hs' : List AObj) : vcP Try.prog sh lv58 58 1 (fun r0 Hs0 => TV.Le r0 r ∧ Hs0 = Hs') (RPt Try.prog 58 1 r Hs') 1 ⟨[(1, (.c (.a (.fz (.int .i64 x1))))), (2, (.c (.fn (.func 95) [] [(false, [(.ep 0 1 0 0)])]))), (7, (.c (.a (.fz (.int .i64 x7))))), (27, (.c (.a (.fz x27)))), (28, (.c (.a (.fz (.int .i64 x28))))), (29, (.c (.a (.fz (.int .i64 x29)))))], [(0, (.arr 1 [[(.a (.fz (.int .i64 h0_0)))]]))], 1⟩ =
    (br (decide ((x29 : Int) < x28)) (((FV.isSl 4 x27 = true) ∧ ((0 ≤ x29) ∧ ((x29 < (((List.length (FV.ses x27)) : Nat) : Int)) ∧ (((rE (List.getD (FV.ses x27) (Int.toNat x29) [])) : List FV) = (List.getD (FV.ses x27) (Int.toNat x29) []))))) ∧ ((∃ z1 : Int, ((AC Try.prog 58 [(aE (List.getD (FV.ses x27) (Int.toNat x29) [])), (.c (.a (.fz (.int .i64 (IntKind.wrap .i64 (x1 + x7)))))), (.c (.fn (.func 95) [] [(false, [(.ep 0 1 0 0)])]))] [(.arr 1 [[(.a (.fz (.int .i64 h0_0)))]])] (.tup []) [(.arr 1 [[(.a (.fz (.int .i64 z1)))]])]) ∧ (RPt Try.prog 58 1 r Hs' 1 ⟨[(1, (.c (.a (.fz (.int .i64 x1))))), (2, (.c (.fn (.func 95) [] [(false, [(.ep 0 1 0 0)])]))), (7, (.c (.a (.fz (.int .i64 x7))))), (27, (.c (.a (.fz x27)))), (28, (.c (.a (.fz (.int .i64 x28))))), (29, (.c (.a (.fz (.int .i64 (IntKind.wrap .i64 (x29 + (1 : Int))))))))], [(0, (.arr 1 [[(.a (.fz (.int .i64 z1)))]]))], 1⟩))) ∨ ((∃ _ : Unit, ((AC Try.prog 58 [(aE (List.getD (FV.ses x27) (Int.toNat x29) [])), (.c (.a (.fz (.int .i64 (IntKind.wrap .i64 (x1 + x7)))))), (.c (.fn (.func 95) [] [(false, [(.ep 0 1 0 0)])]))] [(.arr 1 [[(.a (.fz (.int .i64 h0_0)))]])] (.tup []) [(.arr 1 [[(.a (.fz .nils))]])]) ∧ (RPt Try.prog 58 1 r Hs' 1 ⟨[(1, (.c (.a (.fz (.int .i64 x1))))), (2, (.c (.fn (.func 95) [] [(false, [(.ep 0 1 0 0)])]))), (7, (.c (.a (.fz (.int .i64 x7))))), (27, (.c (.a (.fz x27)))), (28, (.c (.a (.fz (.int .i64 x28))))), (29, (.c (.a (.fz (.int .i64 (IntKind.wrap .i64 (x29 + (1 : Int))))))))], [(0, (.arr 1 [[(.a (.fz .nils))]]))], 1⟩))) ∨ ((∃ z3 : Nat × List (List FV), ((AC Try.prog 58 [(aE (List.getD (FV.ses x27) (Int.toNat x29) [])), (.c (.a (.fz (.int .i64 (IntKind.wrap .i64 (x1 + x7)))))), (.c (.fn (.func 95) [] [(false, [(.ep 0 1 0 0)])]))] [(.arr 1 [[(.a (.fz (.int .i64 h0_0)))]])] (.tup []) [(.arr 1 [[(.a (.osl 1 1 0 z3.1))]]), (.arz 1 z3.2)]) ∧ (RPt Try.prog 58 1 r Hs' 1 ⟨[(1, (.c (.a (.fz (.int .i64 x1))))), (2, (.c (.fn (.func 95) [] [(false, [(.ep 0 1 0 0)])]))), (7, (.c (.a (.fz (.int .i64 x7))))), (27, (.c (.a (.fz x27)))), (28, (.c (.a (.fz (.int .i64 x28))))), (29, (.c (.a (.fz (.int .i64 (IntKind.wrap .i64 (x29 + (1 : Int))))))))], [(0, (.arr 1 [[(.a (.osl 1 1 0 z3.1))]])), (1, (.arz 1 z3.2))], 2⟩))) ∨ (∃ z4 : Nat × List (List FV), ((AC Try.prog 58 [(aE (List.getD (FV.ses x27) (Int.toNat x29) [])), (.c (.a (.fz (.int .i64 (IntKind.wrap .i64 (x1 + x7)))))), (.c (.fn (.func 95) [] [(false, [(.ep 0 1 0 0)])]))] [(.arr 1 [[(.a (.fz (.int .i64 h0_0)))]])] (.tup []) [(.arr 1 [[(.a (.osl 2 1 0 z4.1))]]), .gone, (.arz 1 z4.2)]) ∧ (RPt Try.prog 58 1 r Hs' 1 ⟨[(1, (.c (.a (.fz (.int .i64 x1))))), (2, (.c (.fn (.func 95) [] [(false, [(.ep 0 1 0 0)])]))), (7, (.c (.a (.fz (.int .i64 x7))))), (27, (.c (.a (.fz x27)))), (28, (.c (.a (.fz (.int .i64 x28))))), (29, (.c (.a (.fz (.int .i64 (IntKind.wrap .i64 (x29 + (1 : Int))))))))], [(0, (.arr 1 [[(.a (.osl 1 1 0 z4.1))]])), (1, (.arz 1 z4.2))], 2⟩))))))) (TV.Le (.tup []) r ∧ [(.arr 1 [[(.a (.fz (.int .i64 h0_0)))]])] = Hs')) := by kernel_rfl
/-- lambent/beta.contract -/
def lv117 : List (Nat × List Nat) := []
theorem v117 (body_0 : Int) (body_1 : List UInt8) (body_2 : Int) (body_3 : List (List FV)) (arg_0 : Int) (arg_1 : List UInt8) (arg_2 : Int) (arg_3 : List (List FV)) (r : TV) (Hs' : List AObj) : vcE Try.prog sh lv117 117 [(.agg [(.a (.fz (.int .i64 body_0))), (.a (.fz (.str body_1))), (.a (.fz (.int .i64 body_2))), (.a (.fz (.sl false 4 body_3)))]), (.agg [(.a (.fz (.int .i64 arg_0))), (.a (.fz (.str arg_1))), (.a (.fz (.int .i64 arg_2))), (.a (.fz (.sl false 4 arg_3)))])] [] (fun r0 Hs0 => TV.Le r0 r ∧ Hs0 = Hs') (RPt Try.prog 117 0 r Hs') =
    (∃ n1 : Int, ((AC Try.prog 123 [(.agg [(.a (.fz (.int .i64 body_0))), (.a (.fz (.str body_1))), (.a (.fz (.int .i64 body_2))), (.a (.fz (.sl false 4 body_3)))])] [] (.c (.a (.fz (.int .i64 n1)))) []) ∧ (∃ n2 : Int, ((AC Try.prog 124 [(.agg [(.a (.fz (.int .i64 body_0))), (.a (.fz (.str body_1))), (.a (.fz (.int .i64 body_2))), (.a (.fz (.sl false 4 body_3)))]), (.c (.a (.fz (.int .i64 (0 : Int)))))] [] (.c (.a (.fz (.int .i64 n2)))) []) ∧ (∃ n3 : Int, ((AC Try.prog 123 [(.agg [(.a (.fz (.int .i64 arg_0))), (.a (.fz (.str arg_1))), (.a (.fz (.int .i64 arg_2))), (.a (.fz (.sl false 4 arg_3)))])] [] (.c (.a (.fz (.int .i64 n3)))) []) ∧ (br (decide (((IntKind.wrap .i64 (n1 + (IntKind.wrap .i64 (n2 * n3)))) : Int) > (4096 : Int))) (TV.Le (.tup [(true, [(.a (.fz (.int .i64 (0 : Int)))), (.a (.fz (.str []))), (.a (.fz (.int .i64 (0 : Int)))), (.a (.fz .nils))]), (false, [(.a (.fz (.int .i64 (80 : Int))))])]) r ∧ [] = Hs') (∃ z4 : Tm, ((AC Try.prog 125 [(.agg [(.a (.fz (.int .i64 body_0))), (.a (.fz (.str body_1))), (.a (.fz (.int .i64 body_2))), (.a (.fz (.sl false 4 body_3)))]), (.c (.a (.fz (.int .i64 (0 : Int))))), (.agg [(.a (.fz (.int .i64 arg_0))), (.a (.fz (.str arg_1))), (.a (.fz (.int .i64 arg_2))), (.a (.fz (.sl false 4 arg_3)))])] [] (aT z4) []) ∧ (TV.Le (.tup [(true, (cT z4)), (false, [(.a (.fz (.int .i64 (0 : Int))))])]) r ∧ [] = Hs')))))))))) := by kernel_rfl
/-- lambent/eta.Free -/
def lv110 : List (Nat × List Nat) := []
theorem v110 (t_0 : Int) (t_1 : List UInt8) (t_2 : Int) (t_3 : List (List FV)) (i : Int) (r : TV) (Hs' : List AObj) : vcE Try.prog sh lv110 110 [(.agg [(.a (.fz (.int .i64 t_0))), (.a (.fz (.str t_1))), (.a (.fz (.int .i64 t_2))), (.a (.fz (.sl false 4 t_3)))]), (.c (.a (.fz (.int .i64 i))))] [] (fun r0 Hs0 => TV.Le r0 r ∧ Hs0 = Hs') (RPt Try.prog 110 0 r Hs') =
    (∃ n1 : Int, ((AC Try.prog 118 [(.agg [(.a (.fz (.int .i64 t_0))), (.a (.fz (.str t_1))), (.a (.fz (.int .i64 t_2))), (.a (.fz (.sl false 4 t_3)))]), (.c (.a (.fz (.int .i64 i))))] [] (.c (.a (.fz (.int .i64 n1)))) []) ∧ (TV.Le (.c (.a (.fz (.bool (decide ((n1 : Int) > (0 : Int))))))) r ∧ [] = Hs'))) := by kernel_rfl
/-- lambent/term.Shift -/
def lv111 : List (Nat × List Nat) := []
theorem v111 (t_0 : Int) (t_1 : List UInt8) (t_2 : Int) (t_3 : List (List FV)) (a1 : Int) (a2 : Int) (r : TV) (Hs' : List AObj) : vcE Try.prog sh lv111 111 [(.agg [(.a (.fz (.int .i64 t_0))), (.a (.fz (.str t_1))), (.a (.fz (.int .i64 t_2))), (.a (.fz (.sl false 4 t_3)))]), (.c (.a (.fz (.int .i64 a1)))), (.c (.a (.fz (.int .i64 a2))))] [] (fun r0 Hs0 => TV.Le r0 r ∧ Hs0 = Hs') (RPt Try.prog 111 0 r Hs') =
    (∃ z1 : Tm, ((AC Try.prog 121 [(.agg [(.fn (.func 119) [] [(false, [(.ep 0 1 0 0)]), (false, [(.ep 1 1 0 0)])])]), (.agg [(.a (.fz (.int .i64 t_0))), (.a (.fz (.str t_1))), (.a (.fz (.int .i64 t_2))), (.a (.fz (.sl false 4 t_3)))]), (.c (.a (.fz (.int .i64 (0 : Int)))))] [(.arr 1 [[(.a (.fz (.int .i64 a1)))]]), (.arr 1 [[(.a (.fz (.int .i64 a2)))]])] (aT z1) [(.arr 1 [[(.a (.fz (.int .i64 a1)))]]), (.arr 1 [[(.a (.fz (.int .i64 a2)))]])]) ∧ (TV.Le (aT z1) r ∧ [] = Hs'))) := by kernel_rfl
/-- lambent/term.Loose$1 -/
def lv95 : List (Nat × List Nat) := []
theorem v95 (u_0 : Int) (u_1 : List UInt8) (u_2 : Int) (u_3 : List (List FV)) (k : Int) (o0_0 : Int) (r : TV) (Hs' : List AObj) : vcE Try.prog sh lv95 95 [(.agg [(.a (.fz (.int .i64 u_0))), (.a (.fz (.str u_1))), (.a (.fz (.int .i64 u_2))), (.a (.fz (.sl false 4 u_3)))]), (.c (.a (.fz (.int .i64 k)))), (.c (.a (.ep 0 1 0 0)))] [(.arr 1 [[(.a (.fz (.int .i64 o0_0)))]])] (fun r0 Hs0 => TV.Le r0 r ∧ Hs0 = Hs') (RPt Try.prog 95 1 r Hs') =
    (br ((u_0 : Int) == (3 : Int)) (TV.Le (.tup []) r ∧ [(.arr 1 [[(.a (.fz (.int .i64 (foldMax [o0_0, (IntKind.wrap .i64 ((IntKind.wrap .i64 (u_2 - k)) + (1 : Int)))]))))]])] = Hs') (TV.Le (.tup []) r ∧ [(.arr 1 [[(.a (.fz (.int .i64 o0_0)))]])] = Hs')) := by kernel_rfl
/-- lambent/term.Size -/
def lv123 : List (Nat × List Nat) := [(1, [3, 13, 14, 15])]
theorem v123 (t_0 : Int) (t_1 : List UInt8) (t_2 : Int) (t_3 : List (List FV)) (r : TV) (Hs' : List AObj) : vcE Try.prog sh lv123 123 [(.agg [(.a (.fz (.int .i64 t_0))), (.a (.fz (.str t_1))), (.a (.fz (.int .i64 t_2))), (.a (.fz (.sl false 4 t_3)))])] [] (fun r0 Hs0 => TV.Le r0 r ∧ Hs0 = Hs') (RPt Try.prog 123 0 r Hs') =
    (∃ y1 : FV, (∃ n2 : Int, ((AC Try.prog 84 [(.agg [(.a (.fz (.int .i64 t_0))), (.a (.fz (.str t_1))), (.a (.fz (.int .i64 t_2))), (.a (.fz (.sl false 4 t_3)))])] [] (.tup [(false, [(.a (.fz y1))]), (false, [(.a (.fz (.int .i64 n2)))])]) []) ∧ ((FV.isSl 4 y1 = true) ∧ (RPt Try.prog 123 0 r Hs' 1 ⟨[(3, (.c (.a (.fz (.int .i64 (1 : Int)))))), (13, (.c (.a (.fz y1)))), (14, (.c (.a (.fz (.int .i64 (((List.length (FV.ses y1)) : Nat) : Int)))))), (15, (.c (.a (.fz (.int .i64 (0 : Int))))))], [], 0⟩))))) := by kernel_rfl
theorem v123_1a (x3 : Int) (x13 : FV) (x14 : Int) (x15 : Int) (r : TV) (Hs' : List AObj) : vcP Try.prog sh lv123 123 0 (fun r0 Hs0 => TV.Le r0 r ∧ Hs0 = Hs') (RPt Try.prog 123 0 r Hs') 1 ⟨[(3, (.c (.a (.fz (.int .i64 x3))))), (13, (.c (.a (.fz x13)))), (14, (.c (.a (.fz (.int .i64 x14))))), (15, (.c (.a (.fz (.int .i64 x15)))))], [], 0⟩ =
    (br (decide ((x15 : Int) < x14)) (((FV.isSl 4 x13 = true) ∧ ((0 ≤ x15) ∧ ((x15 < (((List.length (FV.ses x13)) : Nat) : Int)) ∧ (((rE (List.getD (FV.ses x13) (Int.toNat x15) [])) : List FV) = (List.getD (FV.ses x13) (Int.toNat x15) []))))) ∧ (∃ n1 : Int, ((AC Try.prog 123 [(aE (List.getD (FV.ses x13) (Int.toNat x15) []))] [] (.c (.a (.fz (.int .i64 n1)))) []) ∧ (RPt Try.prog 123 0 r Hs' 1 ⟨[(3, (.c (.a (.fz (.int .i64 (IntKind.wrap .i64 (x3 + n1))))))), (13, (.c (.a (.fz x13)))), (14, (.c (.a (.fz (.int .i64 x14))))), (15, (.c (.a (.fz (.int .i64 (IntKind.wrap .i64 (x15 + (1 : Int))))))))], [], 0⟩)))) (TV.Le (.c (.a (.fz (.int .i64 x3)))) r ∧ [] = Hs')) := by kernel_rfl
/-- lambent/beta.occurs -/
def lv124 : List (Nat × List Nat) := [(3, [1, 5, 21, 22, 23])]
theorem v124 (t_0 : Int) (t_1 : List UInt8) (t_2 : Int) (t_3 : List (List FV)) (i : Int) (r : TV) (Hs' : List AObj) : vcE Try.prog sh lv124 124 [(.agg [(.a (.fz (.int .i64 t_0))), (.a (.fz (.str t_1))), (.a (.fz (.int .i64 t_2))), (.a (.fz (.sl false 4 t_3)))]), (.c (.a (.fz (.int .i64 i))))] [] (fun r0 Hs0 => TV.Le r0 r ∧ Hs0 = Hs') (RPt Try.prog 124 0 r Hs') =
    (br ((t_0 : Int) == (3 : Int)) (br ((t_2 : Int) == i) (TV.Le (.c (.a (.fz (.int .i64 (1 : Int))))) r ∧ [] = Hs') ((FV.isSl 4 (.sl false 4 t_3) = true) ∧ (RPt Try.prog 124 0 r Hs' 3 ⟨[(1, (.c (.a (.fz (.int .i64 i))))), (5, (.c (.a (.fz (.int .i64 (0 : Int)))))), (21, (.c (.a (.fz (.sl false 4 t_3))))), (22, (.c (.a (.fz (.int .i64 (((List.length t_3) : Nat) : Int)))))), (23, (.c (.a (.fz (.int .i64 (0 : Int))))))], [], 0⟩))) (br ((t_0 : Int) == (5 : Int)) ((FV.isSl 4 (.sl false 4 t_3) = true) ∧ (RPt Try.prog 124 0 r Hs' 3 ⟨[(1, (.c (.a (.fz (.int .i64 (IntKind.wrap .i64 (i + (1 : Int)))))))), (5, (.c (.a (.fz (.int .i64 (0 : Int)))))), (21, (.c (.a (.fz (.sl false 4 t_3))))), (22, (.c (.a (.fz (.int .i64 (((List.length t_3) : Nat) : Int)))))), (23, (.c (.a (.fz (.int .i64 (0 : Int))))))], [], 0⟩)) ((FV.isSl 4 (.sl false 4 t_3) = true) ∧ (RPt Try.prog 124 0 r Hs' 3 ⟨[(1, (.c (.a (.fz (.int .i64 i))))), (5, (.c (.a (.fz (.int .i64 (0 : Int)))))), (21, (.c (.a (.fz (.sl false 4 t_3))))), (22, (.c (.a (.fz (.int .i64 (((List.length t_3) : Nat) : Int)))))), (23, (.c (.a (.fz (.int .i64 (0 : Int))))))], [], 0⟩)))) := by kernel_rfl
theorem v124_3a (x1 : Int) (x5 : Int) (x21 : List (List FV)) (x22 : Int) (x23 : Int) (r : TV) (Hs' : List AObj) : vcP Try.prog sh lv124 124 0 (fun r0 Hs0 => TV.Le r0 r ∧ Hs0 = Hs') (RPt Try.prog 124 0 r Hs') 3 ⟨[(1, (.c (.a (.fz (.int .i64 x1))))), (5, (.c (.a (.fz (.int .i64 x5))))), (21, (.c (.a (.fz (.sl false 4 x21))))), (22, (.c (.a (.fz (.int .i64 x22))))), (23, (.c (.a (.fz (.int .i64 x23)))))], [], 0⟩ =
    (br (decide ((x23 : Int) < x22)) (((FV.isSl 4 (.sl false 4 x21) = true) ∧ ((0 ≤ x23) ∧ ((x23 < (((List.length x21) : Nat) : Int)) ∧ (((rE (List.getD x21 (Int.toNat x23) [])) : List FV) = (List.getD x21 (Int.toNat x23) []))))) ∧ (∃ n1 : Int, ((AC Try.prog 124 [(aE (List.getD x21 (Int.toNat x23) [])), (.c (.a (.fz (.int .i64 x1))))] [] (.c (.a (.fz (.int .i64 n1)))) []) ∧ (RPt Try.prog 124 0 r Hs' 3 ⟨[(1, (.c (.a (.fz (.int .i64 x1))))), (5, (.c (.a (.fz (.int .i64 (IntKind.wrap .i64 (x5 + n1))))))), (21, (.c (.a (.fz (.sl false 4 x21))))), (22, (.c (.a (.fz (.int .i64 x22))))), (23, (.c (.a (.fz (.int .i64 (IntKind.wrap .i64 (x23 + (1 : Int))))))))], [], 0⟩)))) (TV.Le (.c (.a (.fz (.int .i64 x5)))) r ∧ [] = Hs')) := by kernel_rfl
/-- lambent/term.Subst -/
def lv125 : List (Nat × List Nat) := []
theorem v125 (t_0 : Int) (t_1 : List UInt8) (t_2 : Int) (t_3 : List (List FV)) (i : Int) (s_0 : Int) (s_1 : List UInt8) (s_2 : Int) (s_3 : List (List FV)) (r : TV) (Hs' : List AObj) : vcE Try.prog sh lv125 125 [(.agg [(.a (.fz (.int .i64 t_0))), (.a (.fz (.str t_1))), (.a (.fz (.int .i64 t_2))), (.a (.fz (.sl false 4 t_3)))]), (.c (.a (.fz (.int .i64 i)))), (.agg [(.a (.fz (.int .i64 s_0))), (.a (.fz (.str s_1))), (.a (.fz (.int .i64 s_2))), (.a (.fz (.sl false 4 s_3)))])] [] (fun r0 Hs0 => TV.Le r0 r ∧ Hs0 = Hs') (RPt Try.prog 125 0 r Hs') =
    (∃ z1 : Tm, ((AC Try.prog 121 [(.agg [(.fn (.func 126) [] [(false, [(.ep 0 1 0 0)]), (false, [(.ep 1 4 0 0)])])]), (.agg [(.a (.fz (.int .i64 t_0))), (.a (.fz (.str t_1))), (.a (.fz (.int .i64 t_2))), (.a (.fz (.sl false 4 t_3)))]), (.c (.a (.fz (.int .i64 (0 : Int)))))] [(.arr 1 [[(.a (.fz (.int .i64 i)))]]), (.arr 4 [[(.a (.fz (.int .i64 s_0))), (.a (.fz (.str s_1))), (.a (.fz (.int .i64 s_2))), (.a (.fz (.sl false 4 s_3)))]])] (aT z1) [(.arr 1 [[(.a (.fz (.int .i64 i)))]]), (.arr 4 [[(.a (.fz (.int .i64 s_0))), (.a (.fz (.str s_1))), (.a (.fz (.int .i64 s_2))), (.a (.fz (.sl false 4 s_3)))]])]) ∧ (TV.Le (aT z1) r ∧ [] = Hs'))) := by kernel_rfl
/-- lambent/beta.Occurs -/
def lv118 : List (Nat × List Nat) := []
theorem v118 (t_0 : Int) (t_1 : List UInt8) (t_2 : Int) (t_3 : List (List FV)) (i : Int) (r : TV) (Hs' : List AObj) : vcE Try.prog sh lv118 118 [(.agg [(.a (.fz (.int .i64 t_0))), (.a (.fz (.str t_1))), (.a (.fz (.int .i64 t_2))), (.a (.fz (.sl false 4 t_3)))]), (.c (.a (.fz (.int .i64 i))))] [] (fun r0 Hs0 => TV.Le r0 r ∧ Hs0 = Hs') (RPt Try.prog 118 0 r Hs') =
    (∃ b1 : Bool, ((AC Try.prog 26 [(.agg [(.a (.fz (.int .i64 t_0))), (.a (.fz (.str t_1))), (.a (.fz (.int .i64 t_2))), (.a (.fz (.sl false 4 t_3)))])] [] (.c (.a (.fz (.bool b1)))) []) ∧ (br (!b1) (TV.Le (.c (.a (.fz (.int .i64 (0 : Int))))) r ∧ [] = Hs') (∃ n2 : Int, ((AC Try.prog 124 [(.agg [(.a (.fz (.int .i64 t_0))), (.a (.fz (.str t_1))), (.a (.fz (.int .i64 t_2))), (.a (.fz (.sl false 4 t_3)))]), (.c (.a (.fz (.int .i64 i))))] [] (.c (.a (.fz (.int .i64 n2)))) []) ∧ (TV.Le (.c (.a (.fz (.int .i64 n2)))) r ∧ [] = Hs')))))) := by kernel_rfl
/-- (lambent/term.walk).term -/
def lv121 : List (Nat × List Nat) := [(1, [2, 3, 4, 6, 7, 8, 9, 30, 31, 32])]
theorem v121_F119 (t_0 : Int) (t_1 : List UInt8) (t_2 : Int) (t_3 : List (List FV)) (k : Int) (o0_0 : Int) (o1_0 : Int) (r : TV) (Hs' : List AObj) : vcE Try.prog sh lv121 121 [(.agg [(.fn (.func 119) [] [(false, [(.ep 0 1 0 0)]), (false, [(.ep 1 1 0 0)])])]), (.agg [(.a (.fz (.int .i64 t_0))), (.a (.fz (.str t_1))), (.a (.fz (.int .i64 t_2))), (.a (.fz (.sl false 4 t_3)))]), (.c (.a (.fz (.int .i64 k))))] [(.arr 1 [[(.a (.fz (.int .i64 o0_0)))]]), (.arr 1 [[(.a (.fz (.int .i64 o1_0)))]])] (fun r0 Hs0 => TV.Le r0 r ∧ Hs0 = Hs') (RPt Try.prog 121 2 r Hs') =
    (br ((t_0 : Int) != (5 : Int)) (br ((t_0 : Int) != (6 : Int)) (∃ z1 : Tm, ((AC Try.prog 119 [(.agg [(.a (.fz (.int .i64 t_0))), (.a (.fz (.str t_1))), (.a (.fz (.int .i64 t_2))), (.a (.fz (.sl false 4 t_3)))]), (.c (.a (.fz (.int .i64 k)))), (.c (.a (.ep 0 1 0 0))), (.c (.a (.ep 1 1 0 0)))] [(.arr 1 [[(.a (.fz (.int .i64 o0_0)))]]), (.arr 1 [[(.a (.fz (.int .i64 o1_0)))]])] (aT z1) [(.arr 1 [[(.a (.fz (.int .i64 o0_0)))]]), (.arr 1 [[(.a (.fz (.int .i64 o1_0)))]])]) ∧ (TV.Le (aT z1) r ∧ [(.arr 1 [[(.a (.fz (.int .i64 o0_0)))]]), (.arr 1 [[(.a (.fz (.int .i64 o1_0)))]])] = Hs'))) (∃ y2 : FV, (∃ n3 : Int, ((AC Try.prog 84 [(.agg [(.a (.fz (.int .i64 t_0))), (.a (.fz (.str t_1))), (.a (.fz (.int .i64 t_2))), (.a (.fz (.sl false 4 t_3)))])] [] (.tup [(false, [(.a (.fz y2))]), (false, [(.a (.fz (.int .i64 n3)))])]) []) ∧ ((FV.isSl 4 y2 = true) ∧ (RPt Try.prog 121 2 r Hs' 1 ⟨[(2, (.c (.a (.fz (.int .i64 k))))), (3, (.c (.a (.ep 2 1 0 0)))), (4, (.c (.a (.ep 3 4 0 0)))), (6, (.c (.a (.ep 4 4 0 0)))), (7, (.c (.a (.fz y2)))), (8, (.c (.a (.fz (.int .i64 n3))))), (9, (.c (.a (.fz .nils)))), (30, (.c (.a (.fz y2)))), (31, (.c (.a (.fz (.int .i64 (((List.length (FV.ses y2)) : Nat) : Int)))))), (32, (.c (.a (.fz (.int .i64 (0 : Int))))))], [(0, (.arr 1 [[(.a (.fz (.int .i64 o0_0)))]])), (1, (.arr 1 [[(.a (.fz (.int .i64 o1_0)))]])), (2, (.arr 1 [[(.fn (.func 119) [] [(false, [(.ep 0 1 0 0)]), (false, [(.ep 1 1 0 0)])])]])), (3, (.arr 4 [[(.a (.fz (.int .i64 t_0))), (.a (.fz (.str t_1))), (.a (.fz (.int .i64 t_2))), (.a (.fz (.sl false 4 t_3)))]])), (4, (.arr 4 [[(.a (.fz (.int .i64 (0 : Int)))), (.a (.fz (.str []))), (.a (.fz (.int .i64 (0 : Int)))), (.a (.fz .nils))]]))], 5⟩)))))) (∃ y4 : FV, (∃ n5 : Int, ((AC Try.prog 84 [(.agg [(.a (.fz (.int .i64 t_0))), (.a (.fz (.str t_1))), (.a (.fz (.int .i64 t_2))), (.a (.fz (.sl false 4 t_3)))])] [] (.tup [(false, [(.a (.fz y4))]), (false, [(.a (.fz (.int .i64 n5)))])]) []) ∧ ((FV.isSl 4 y4 = true) ∧ (RPt Try.prog 121 2 r Hs' 1 ⟨[(2, (.c (.a (.fz (.int .i64 k))))), (3, (.c (.a (.ep 2 1 0 0)))), (4, (.c (.a (.ep 3 4 0 0)))), (6, (.c (.a (.ep 4 4 0 0)))), (7, (.c (.a (.fz y4)))), (8, (.c (.a (.fz (.int .i64 n5))))), (9, (.c (.a (.fz .nils)))), (30, (.c (.a (.fz y4)))), (31, (.c (.a (.fz (.int .i64 (((List.length (FV.ses y4)) : Nat) : Int)))))), (32, (.c (.a (.fz (.int .i64 (0 : Int))))))], [(0, (.arr 1 [[(.a (.fz (.int .i64 o0_0)))]])), (1, (.arr 1 [[(.a (.fz (.int .i64 o1_0)))]])), (2, (.arr 1 [[(.fn (.func 119) [] [(false, [(.ep 0 1 0 0)]), (false, [(.ep 1 1 0 0)])])]])), (3, (.arr 4 [[(.a (.fz (.int .i64 t_0))), (.a (.fz (.str t_1))), (.a (.fz (.int .i64 t_2))), (.a (.fz (.sl false 4 t_3)))]])), (4, (.arr 4 [[(.a (.fz (.int .i64 (0 : Int)))), (.a (.fz (.str []))), (.a (.fz (.int .i64 (0 : Int)))), (.a (.fz .nils))]]))], 5⟩)))))) := by kernel_rfl
theorem v121_F119_1a (x2 : Int) (x7 : FV) (x8 : Int) (x30 : FV) (x31 : Int) (x32 : Int) (h0_0 : Int) (h1_0 : Int) (h3_0 : Int) (h3_1 : List UInt8) (h3_2 : Int) (h3_3 : List (List FV)) (h4_0 : Int) (h4_1 : List UInt8) (h4_2 : Int) (r : TV) (Hs' : List AObj) : vcP Try.prog sh lv121 121 2 (fun r0 Hs0 => TV.Le r0 r ∧ Hs0 = Hs') (RPt Try.prog 121 2 r Hs') 1 ⟨[(2, (.c (.a (.fz (.int .i64 x2))))), (3, (.c (.a (.ep 2 1 0 0)))), (4, (.c (.a (.ep 3 4 0 0)))), (6, (.c (.a (.ep 4 4 0 0)))), (7, (.c (.a (.fz x7)))), (8, (.c (.a (.fz (.int .i64 x8))))), (9, (.c (.a (.fz .nils)))), (30, (.c (.a (.fz x30)))), (31, (.c (.a (.fz (.int .i64 x31))))), (32, (.c (.a (.fz (.int .i64 x32)))))], [(0, (.arr 1 [[(.a (.fz (.int .i64 h0_0)))]])), (1, (.arr 1 [[(.a (.fz (.int .i64 h1_0)))]])), (2, (.arr 1 [[(.fn (.func 119) [] [(false, [(.ep 0 1 0 0)]), (false, [(.ep 1 1 0 0)])])]])), (3, (.arr 4 [[(.a (.fz (.int .i64 h3_0))), (.a (.fz (.str h3_1))), (.a (.fz (.int .i64 h3_2))), (.a (.fz (.sl false 4 h3_3)))]])), (4, (.arr 4 [[(.a (.fz (.int .i64 h4_0))), (.a (.fz (.str h4_1))), (.a (.fz (.int .i64 h4_2))), (.a (.fz .nils))]]))], 5⟩ =
    (br (decide ((x32 : Int) < x31)) (((FV.isSl 4 x30 = true) ∧ ((0 ≤ x32) ∧ ((x32 < (((List.length (FV.ses x30)) : Nat) : Int)) ∧ (((rE (List.getD (FV.ses x30) (Int.toNat x32) [])) : List FV) = (List.getD (FV.ses x30) (Int.toNat x32) []))))) ∧ (∃ z1 : Tm, ((AC Try.prog 121 [(.agg [(.fn (.func 119) [] [(false, [(.ep 0 1 0 0)]), (false, [(.ep 1 1 0 0)])])]), (aE (List.getD (FV.ses x30) (Int.toNat x32) [])), (.c (.a (.fz (.int .i64 (IntKind.wrap .i64 (x2 + x8))))))] [(.arr 1 [[(.a (.fz (.int .i64 h0_0)))]]), (.arr 1 [[(.a (.fz (.int .i64 h1_0)))]])] (aT z1) [(.arr 1 [[(.a (.fz (.int .i64 h0_0)))]]), (.arr 1 [[(.a (.fz (.int .i64 h1_0)))]])]) ∧ ((1 ≤ 1) ∧ ((roomB 1 56) ∧ (RPt Try.prog 121 2 r Hs' 1 ⟨[(2, (.c (.a (.fz (.int .i64 x2))))), (3, (.c (.a (.ep 2 1 0 0)))), (4, (.c (.a (.ep 3 4 0 0)))), (6, (.c (.a (.ep 4 4 0 0)))), (7, (.c (.a (.fz x7)))), (8, (.c (.a (.fz (.int .i64 x8))))), (9, (.c (.a (.osl 5 4 0 1)))), (30, (.c (.a (.fz x30)))), (31, (.c (.a (.fz (.int .i64 x31))))), (32, (.c (.a (.fz (.int .i64 (IntKind.wrap .i64 (x32 + (1 : Int))))))))], [(0, (.arr 1 [[(.a (.fz (.int .i64 h0_0)))]])), (1, (.arr 1 [[(.a (.fz (.int .i64 h1_0)))]])), (2, (.arr 1 [[(.fn (.func 119) [] [(false, [(.ep 0 1 0 0)]), (false, [(.ep 1 1 0 0)])])]])), (3, (.arr 4 [[(.a (.fz (.int .i64 h3_0))), (.a (.fz (.str h3_1))), (.a (.fz (.int .i64 h3_2))), (.a (.fz (.sl false 4 h3_3)))]])), (4, (.arr 4 [[(.a (.fz (.int .i64 h4_0))), (.a (.fz (.str h4_1))), (.a (.fz (.int .i64 h4_2))), (.a (.fz .nils))]])), (5, (.arz 4 [(FT4 z1)]))], 6⟩)))))) (br ((h3_0 : Int) == (6 : Int)) ((FV.isSl 4 .nils = true) ∧ (TV.Le (.agg [(.a (.fz (.int .i64 h3_0))), (.a (.fz (.str h3_1))), (.a (.fz (.int .i64 h3_2))), (.a (.fz .nils))]) r ∧ [(.arr 1 [[(.a (.fz (.int .i64 h0_0)))]]), (.arr 1 [[(.a (.fz (.int .i64 h1_0)))]])] = Hs')) (TV.Le (.agg [(.a (.fz (.int .i64 h3_0))), (.a (.fz (.str h3_1))), (.a (.fz (.int .i64 h3_2))), (.a (.fz .nils))]) r ∧ [(.arr 1 [[(.a (.fz (.int .i64 h0_0)))]]), (.arr 1 [[(.a (.fz (.int .i64 h1_0)))]])] = Hs'))) := by kernel_rfl
theorem v121_F119_1b (x2 : Int) (x7 : FV) (x8 : Int) (x9l : Nat) (x30 : FV) (x31 : Int) (x32 : Int) (h0_0 : Int) (h1_0 : Int) (h3_0 : Int) (h3_1 : List UInt8) (h3_2 : Int) (h3_3 : List (List FV)) (h4_0 : Int) (h4_1 : List UInt8) (h4_2 : Int) (h5 : List (List FV)) (r : TV) (Hs' : List AObj) : vcP Try.prog sh lv121 121 2 (fun r0 Hs0 => TV.Le r0 r ∧ Hs0 = Hs') (RPt Try.prog 121 2 r Hs') 1 ⟨[(2, (.c (.a (.fz (.int .i64 x2))))), (3, (.c (.a (.ep 2 1 0 0)))), (4, (.c (.a (.ep 3 4 0 0)))), (6, (.c (.a (.ep 4 4 0 0)))), (7, (.c (.a (.fz x7)))), (8, (.c (.a (.fz (.int .i64 x8))))), (9, (.c (.a (.osl 5 4 0 x9l)))), (30, (.c (.a (.fz x30)))), (31, (.c (.a (.fz (.int .i64 x31))))), (32, (.c (.a (.fz (.int .i64 x32)))))], [(0, (.arr 1 [[(.a (.fz (.int .i64 h0_0)))]])), (1, (.arr 1 [[(.a (.fz (.int .i64 h1_0)))]])), (2, (.arr 1 [[(.fn (.func 119) [] [(false, [(.ep 0 1 0 0)]), (false, [(.ep 1 1 0 0)])])]])), (3, (.arr 4 [[(.a (.fz (.int .i64 h3_0))), (.a (.fz (.str h3_1))), (.a (.fz (.int .i64 h3_2))), (.a (.fz (.sl false 4 h3_3)))]])), (4, (.arr 4 [[(.a (.fz (.int .i64 h4_0))), (.a (.fz (.str h4_1))), (.a (.fz (.int .i64 h4_2))), (.a (.fz .nils))]])), (5, (.arz 4 h5))], 6⟩ =
    (br (decide ((x32 : Int) < x31)) (((FV.isSl 4 x30 = true) ∧ ((0 ≤ x32) ∧ ((x32 < (((List.length (FV.ses x30)) : Nat) : Int)) ∧ (((rE (List.getD (FV.ses x30) (Int.toNat x32) [])) : List FV) = (List.getD (FV.ses x30) (Int.toNat x32) []))))) ∧ (∃ z1 : Tm, ((AC Try.prog 121 [(.agg [(.fn (.func 119) [] [(false, [(.ep 0 1 0 0)]), (false, [(.ep 1 1 0 0)])])]), (aE (List.getD (FV.ses x30) (Int.toNat x32) [])), (.c (.a (.fz (.int .i64 (IntKind.wrap .i64 (x2 + x8))))))] [(.arr 1 [[(.a (.fz (.int .i64 h0_0)))]]), (.arr 1 [[(.a (.fz (.int .i64 h1_0)))]])] (aT z1) [(.arr 1 [[(.a (.fz (.int .i64 h0_0)))]]), (.arr 1 [[(.a (.fz (.int .i64 h1_0)))]])]) ∧ ((1 ≤ 1) ∧ ((x9l ≤ (List.length h5) ∧ roomB (x9l + 1) 56) ∧ (RPt Try.prog 121 2 r Hs' 1 ⟨[(2, (.c (.a (.fz (.int .i64 x2))))), (3, (.c (.a (.ep 2 1 0 0)))), (4, (.c (.a (.ep 3 4 0 0)))), (6, (.c (.a (.ep 4 4 0 0)))), (7, (.c (.a (.fz x7)))), (8, (.c (.a (.fz (.int .i64 x8))))), (9, (.c (.a (.osl 5 4 0 (x9l + 1))))), (30, (.c (.a (.fz x30)))), (31, (.c (.a (.fz (.int .i64 x31))))), (32, (.c (.a (.fz (.int .i64 (IntKind.wrap .i64 (x32 + (1 : Int))))))))], [(0, (.arr 1 [[(.a (.fz (.int .i64 h0_0)))]])), (1, (.arr 1 [[(.a (.fz (.int .i64 h1_0)))]])), (2, (.arr 1 [[(.fn (.func 119) [] [(false, [(.ep 0 1 0 0)]), (false, [(.ep 1 1 0 0)])])]])), (3, (.arr 4 [[(.a (.fz (.int .i64 h3_0))), (.a (.fz (.str h3_1))), (.a (.fz (.int .i64 h3_2))), (.a (.fz (.sl false 4 h3_3)))]])), (4, (.arr 4 [[(.a (.fz (.int .i64 h4_0))), (.a (.fz (.str h4_1))), (.a (.fz (.int .i64 h4_2))), (.a (.fz .nils))]])), (5, (.arz 4 ((List.take x9l h5) ++ [(FT4 z1)])))], 6⟩)))))) (br ((h3_0 : Int) == (6 : Int)) (br (decide ((((x9l : Nat) : Int) : Int) > (1 : Int))) ((0 ≤ (0 : Int) ∧ (0 : Int) < ((x9l : Nat) : Int)) ∧ (((0 < (List.length h5)) ∧ ((([(.int .i64 (FV.asI (List.getD (List.getD h5 0 []) 0 FV.nils)))] : List FV) = (List.take 1 (List.drop 0 (List.getD h5 0 [])))) ∧ ((1 : Nat) = 1))) ∧ (br (((FV.asI (List.getD (List.getD h5 0 []) 0 FV.nils)) : Int) == (6 : Int)) (((FV.isSl 4 x7 = true) ∧ ((0 ≤ (0 : Int)) ∧ (((0 : Int) < (((List.length (FV.ses x7)) : Nat) : Int)) ∧ (((rE (List.getD (FV.ses x7) 0 [])) : List FV) = (List.getD (FV.ses x7) 0 []))))) ∧ (br (((FV.asI (List.getD (List.getD (FV.ses x7) 0 []) 0 FV.nils)) : Int) != (6 : Int)) ((0 ≤ (0 : Int) ∧ (0 : Int) < ((x9l : Nat) : Int)) ∧ (((0 < (List.length h5)) ∧ ((((rE (List.getD h5 0 [])) : List FV) = (List.take 4 (List.drop 0 (List.getD h5 0 [])))) ∧ ((4 : Nat) = 4))) ∧ (((0 ≤ (1 : Int)) ∧ (((1 : Int) ≤ ((x9l : Nat) : Int)) ∧ (((x9l : Nat) : Int) ≤ ((x9l : Nat) : Int)))) ∧ (((4 : Nat) = 4 ∧ (1 + ((Int.toNat ((x9l : Nat) : Int)) - 1)) ≤ (List.length h5)) ∧ (∃ z2 : Tm, ((AC Try.prog 32 [(aE (List.getD h5 0 [])), (.c (.a (.fz (.sl false 4 (List.take ((Int.toNat ((x9l : Nat) : Int)) - 1) (List.drop 1 h5))))))] [] (aT z2) []) ∧ (TV.Le (aT z2) r ∧ [(.arr 1 [[(.a (.fz (.int .i64 h0_0)))]]), (.arr 1 [[(.a (.fz (.int .i64 h1_0)))]])] = Hs'))))))) (((4 : Nat) = 4 ∧ (0 + x9l) ≤ (List.length h5)) ∧ (TV.Le (.agg [(.a (.fz (.int .i64 h3_0))), (.a (.fz (.str h3_1))), (.a (.fz (.int .i64 h3_2))), (.a (.fz (.sl false 4 (List.take x9l (List.drop 0 h5)))))]) r ∧ [(.arr 1 [[(.a (.fz (.int .i64 h0_0)))]]), (.arr 1 [[(.a (.fz (.int .i64 h1_0)))]])] = Hs')))) (((4 : Nat) = 4 ∧ (0 + x9l) ≤ (List.length h5)) ∧ (TV.Le (.agg [(.a (.fz (.int .i64 h3_0))), (.a (.fz (.str h3_1))), (.a (.fz (.int .i64 h3_2))), (.a (.fz (.sl false 4 (List.take x9l (List.drop 0 h5)))))]) r ∧ [(.arr 1 [[(.a (.fz (.int .i64 h0_0)))]]), (.arr 1 [[(.a (.fz (.int .i64 h1_0)))]])] = Hs'))))) (((4 : Nat) = 4 ∧ (0 + x9l) ≤ (List.length h5)) ∧ (TV.Le (.agg [(.a (.fz (.int .i64 h3_0))), (.a (.fz (.str h3_1))), (.a (.fz (.int .i64 h3_2))), (.a (.fz (.sl false 4 (List.take x9l (List.drop 0 h5)))))]) r ∧ [(.arr 1 [[(.a (.fz (.int .i64 h0_0)))]]), (.arr 1 [[(.a (.fz (.int .i64 h1_0)))]])] = Hs'))) (((4 : Nat) = 4 ∧ (0 + x9l) ≤ (List.length h5)) ∧ (TV.Le (.agg [(.a (.fz (.int .i64 h3_0))), (.a (.fz (.str h3_1))), (.a (.fz (.int .i64 h3_2))), (.a (.fz (.sl false 4 (List.take x9l (List.drop 0 h5)))))]) r ∧ [(.arr 1 [[(.a (.fz (.int .i64 h0_0)))]]), (.arr 1 [[(.a (.fz (.int .i64 h1_0)))]])] = Hs')))) := by kernel_rfl
/-- (lambent/term.walk).term -/
theorem v121_F126 (t_0 : Int) (t_1 : List UInt8) (t_2 : Int) (t_3 : List (List FV)) (k : Int) (o0_0 : Int) (o1_0 : Int) (o1_1 : List UInt8) (o1_2 : Int) (o1_3 : List (List FV)) (r : TV) (Hs' : List AObj) : vcE Try.prog sh lv121 121 [(.agg [(.fn (.func 126) [] [(false, [(.ep 0 1 0 0)]), (false, [(.ep 1 4 0 0)])])]), (.agg [(.a (.fz (.int .i64 t_0))), (.a (.fz (.str t_1))), (.a (.fz (.int .i64 t_2))), (.a (.fz (.sl false 4 t_3)))]), (.c (.a (.fz (.int .i64 k))))] [(.arr 1 [[(.a (.fz (.int .i64 o0_0)))]]), (.arr 4 [[(.a (.fz (.int .i64 o1_0))), (.a (.fz (.str o1_1))), (.a (.fz (.int .i64 o1_2))), (.a (.fz (.sl false 4 o1_3)))]])] (fun r0 Hs0 => TV.Le r0 r ∧ Hs0 = Hs') (RPt Try.prog 121 2 r Hs') =
    (br ((t_0 : Int) != (5 : Int)) (br ((t_0 : Int) != (6 : Int)) (∃ z1 : Tm, ((AC Try.prog 126 [(.agg [(.a (.fz (.int .i64 t_0))), (.a (.fz (.str t_1))), (.a (.fz (.int .i64 t_2))), (.a (.fz (.sl false 4 t_3)))]), (.c (.a (.fz (.int .i64 k)))), (.c (.a (.ep 0 1 0 0))), (.c (.a (.ep 1 4 0 0)))] [(.arr 1 [[(.a (.fz (.int .i64 o0_0)))]]), (.arr 4 [[(.a (.fz (.int .i64 o1_0))), (.a (.fz (.str o1_1))), (.a (.fz (.int .i64 o1_2))), (.a (.fz (.sl false 4 o1_3)))]])] (aT z1) [(.arr 1 [[(.a (.fz (.int .i64 o0_0)))]]), (.arr 4 [[(.a (.fz (.int .i64 o1_0))), (.a (.fz (.str o1_1))), (.a (.fz (.int .i64 o1_2))), (.a (.fz (.sl false 4 o1_3)))]])]) ∧ (TV.Le (aT z1) r ∧ [(.arr 1 [[(.a (.fz (.int .i64 o0_0)))]]), (.arr 4 [[(.a (.fz (.int .i64 o1_0))), (.a (.fz (.str o1_1))), (.a (.fz (.int .i64 o1_2))), (.a (.fz (.sl false 4 o1_3)))]])] = Hs'))) (∃ y2 : FV, (∃ n3 : Int, ((AC Try.prog 84 [(.agg [(.a (.fz (.int .i64 t_0))), (.a (.fz (.str t_1))), (.a (.fz (.int .i64 t_2))), (.a (.fz (.sl false 4 t_3)))])] [] (.tup [(false, [(.a (.fz y2))]), (false, [(.a (.fz (.int .i64 n3)))])]) []) ∧ ((FV.isSl 4 y2 = true) ∧ (RPt Try.prog 121 2 r Hs' 1 ⟨[(2, (.c (.a (.fz (.int .i64 k))))), (3, (.c (.a (.ep 2 1 0 0)))), (4, (.c (.a (.ep 3 4 0 0)))), (6, (.c (.a (.ep 4 4 0 0)))), (7, (.c (.a (.fz y2)))), (8, (.c (.a (.fz (.int .i64 n3))))), (9, (.c (.a (.fz .nils)))), (30, (.c (.a (.fz y2)))), (31, (.c (.a (.fz (.int .i64 (((List.length (FV.ses y2)) : Nat) : Int)))))), (32, (.c (.a (.fz (.int .i64 (0 : Int))))))], [(0, (.arr 1 [[(.a (.fz (.int .i64 o0_0)))]])), (1, (.arr 4 [[(.a (.fz (.int .i64 o1_0))), (.a (.fz (.str o1_1))), (.a (.fz (.int .i64 o1_2))), (.a (.fz (.sl false 4 o1_3)))]])), (2, (.arr 1 [[(.fn (.func 126) [] [(false, [(.ep 0 1 0 0)]), (false, [(.ep 1 4 0 0)])])]])), (3, (.arr 4 [[(.a (.fz (.int .i64 t_0))), (.a (.fz (.str t_1))), (.a (.fz (.int .i64 t_2))), (.a (.fz (.sl false 4 t_3)))]])), (4, (.arr 4 [[(.a (.fz (.int .i64 (0 : Int)))), (.a (.fz (.str []))), (.a (.fz (.int .i64 (0 : Int)))), (.a (.fz .nils))]]))], 5⟩)))))) (∃ y4 : FV, (∃ n5 : Int, ((AC Try.prog 84 [(.agg [(.a (.fz (.int .i64 t_0))), (.a (.fz (.str t_1))), (.a (.fz (.int .i64 t_2))), (.a (.fz (.sl false 4 t_3)))])] [] (.tup [(false, [(.a (.fz y4))]), (false, [(.a (.fz (.int .i64 n5)))])]) []) ∧ ((FV.isSl 4 y4 = true) ∧ (RPt Try.prog 121 2 r Hs' 1 ⟨[(2, (.c (.a (.fz (.int .i64 k))))), (3, (.c (.a (.ep 2 1 0 0)))), (4, (.c (.a (.ep 3 4 0 0)))), (6, (.c (.a (.ep 4 4 0 0)))), (7, (.c (.a (.fz y4)))), (8, (.c (.a (.fz (.int .i64 n5))))), (9, (.c (.a (.fz .nils)))), (30, (.c (.a (.fz y4)))), (31, (.c (.a (.fz (.int .i64 (((List.length (FV.ses y4)) : Nat) : Int)))))), (32, (.c (.a (.fz (.int .i64 (0 : Int))))))], [(0, (.arr 1 [[(.a (.fz (.int .i64 o0_0)))]])), (1, (.arr 4 [[(.a (.fz (.int .i64 o1_0))), (.a (.fz (.str o1_1))), (.a (.fz (.int .i64 o1_2))), (.a (.fz (.sl false 4 o1_3)))]])), (2, (.arr 1 [[(.fn (.func 126) [] [(false, [(.ep 0 1 0 0)]), (false, [(.ep 1 4 0 0)])])]])), (3, (.arr 4 [[(.a (.fz (.int .i64 t_0))), (.a (.fz (.str t_1))), (.a (.fz (.int .i64 t_2))), (.a (.fz (.sl false 4 t_3)))]])), (4, (.arr 4 [[(.a (.fz (.int .i64 (0 : Int)))), (.a (.fz (.str []))), (.a (.fz (.int .i64 (0 : Int)))), (.a (.fz .nils))]]))], 5⟩)))))) := by kernel_rfl
theorem v121_F126_1a (x2 : Int) (x7 : FV) (x8 : Int) (x30 : FV) (x31 : Int) (x32 : Int) (h0_0 : Int) (h1_0 : Int) (h1_1 : List UInt8) (h1_2 : Int) (h1_3 : List (List FV)) (h3_0 : Int) (h3_1 : List UInt8) (h3_2 : Int) (h3_3 : List (List FV)) (h4_0 : Int) (h4_1 : List UInt8) (h4_2 : Int) (r : TV) (Hs' : List AObj) : vcP Try.prog sh lv121 121 2 (fun r0 Hs0 => TV.Le r0 r ∧ Hs0 = Hs') (RPt Try.prog 121 2 r Hs') 1 ⟨[(2, (.c (.a (.fz (.int .i64 x2))))), (3, (.c (.a (.ep 2 1 0 0)))), (4, (.c (.a (.ep 3 4 0 0)))), (6, (.c (.a (.ep 4 4 0 0)))), (7, (.c (.a (.fz x7)))), (8, (.c (.a (.fz (.int .i64 x8))))), (9, (.c (.a (.fz .nils)))), (30, (.c (.a (.fz x30)))), (31, (.c (.a (.fz (.int .i64 x31))))), (32, (.c (.a (.fz (.int .i64 x32)))))], [(0, (.arr 1 [[(.a (.fz (.int .i64 h0_0)))]])), (1, (.arr 4 [[(.a (.fz (.int .i64 h1_0))), (.a (.fz (.str h1_1))), (.a (.fz (.int .i64 h1_2))), (.a (.fz (.sl false 4 h1_3)))]])), (2, (.arr 1 [[(.fn (.func 126) [] [(false, [(.ep 0 1 0 0)]), (false, [(.ep 1 4 0 0)])])]])), (3, (.arr 4 [[(.a (.fz (.int .i64 h3_0))), (.a (.fz (.str h3_1))), (.a (.fz (.int .i64 h3_2))), (.a (.fz (.sl false 4 h3_3)))]])), (4, (.arr 4 [[(.a (.fz (.int .i64 h4_0))), (.a (.fz (.str h4_1))), (.a (.fz (.int .i64 h4_2))), (.a (.fz .nils))]]))], 5⟩ =
    (br (decide ((x32 : Int) < x31)) (((FV.isSl 4 x30 = true) ∧ ((0 ≤ x32) ∧ ((x32 < (((List.length (FV.ses x30)) : Nat) : Int)) ∧ (((rE (List.getD (FV.ses x30) (Int.toNat x32) [])) : List FV) = (List.getD (FV.ses x30) (Int.toNat x32) []))))) ∧ (∃ z1 : Tm, ((AC Try.prog 121 [(.agg [(.fn (.func 126) [] [(false, [(.ep 0 1 0 0)]), (false, [(.ep 1 4 0 0)])])]), (aE (List.getD (FV.ses x30) (Int.toNat x32) [])), (.c (.a (.fz (.int .i64 (IntKind.wrap .i64 (x2 + x8))))))] [(.arr 1 [[(.a (.fz (.int .i64 h0_0)))]]), (.arr 4 [[(.a (.fz (.int .i64 h1_0))), (.a (.fz (.str h1_1))), (.a (.fz (.int .i64 h1_2))), (.a (.fz (.sl false 4 h1_3)))]])] (aT z1) [(.arr 1 [[(.a (.fz (.int .i64 h0_0)))]]), (.arr 4 [[(.a (.fz (.int .i64 h1_0))), (.a (.fz (.str h1_1))), (.a (.fz (.int .i64 h1_2))), (.a (.fz (.sl false 4 h1_3)))]])]) ∧ ((1 ≤ 1) ∧ ((roomB 1 56) ∧ (RPt Try.prog 121 2 r Hs' 1 ⟨[(2, (.c (.a (.fz (.int .i64 x2))))), (3, (.c (.a (.ep 2 1 0 0)))), (4, (.c (.a (.ep 3 4 0 0)))), (6, (.c (.a (.ep 4 4 0 0)))), (7, (.c (.a (.fz x7)))), (8, (.c (.a (.fz (.int .i64 x8))))), (9, (.c (.a (.osl 5 4 0 1)))), (30, (.c (.a (.fz x30)))), (31, (.c (.a (.fz (.int .i64 x31))))), (32, (.c (.a (.fz (.int .i64 (IntKind.wrap .i64 (x32 + (1 : Int))))))))], [(0, (.arr 1 [[(.a (.fz (.int .i64 h0_0)))]])), (1, (.arr 4 [[(.a (.fz (.int .i64 h1_0))), (.a (.fz (.str h1_1))), (.a (.fz (.int .i64 h1_2))), (.a (.fz (.sl false 4 h1_3)))]])), (2, (.arr 1 [[(.fn (.func 126) [] [(false, [(.ep 0 1 0 0)]), (false, [(.ep 1 4 0 0)])])]])), (3, (.arr 4 [[(.a (.fz (.int .i64 h3_0))), (.a (.fz (.str h3_1))), (.a (.fz (.int .i64 h3_2))), (.a (.fz (.sl false 4 h3_3)))]])), (4, (.arr 4 [[(.a (.fz (.int .i64 h4_0))), (.a (.fz (.str h4_1))), (.a (.fz (.int .i64 h4_2))), (.a (.fz .nils))]])), (5, (.arz 4 [(FT4 z1)]))], 6⟩)))))) (br ((h3_0 : Int) == (6 : Int)) ((FV.isSl 4 .nils = true) ∧ (TV.Le (.agg [(.a (.fz (.int .i64 h3_0))), (.a (.fz (.str h3_1))), (.a (.fz (.int .i64 h3_2))), (.a (.fz .nils))]) r ∧ [(.arr 1 [[(.a (.fz (.int .i64 h0_0)))]]), (.arr 4 [[(.a (.fz (.int .i64 h1_0))), (.a (.fz (.str h1_1))), (.a (.fz (.int .i64 h1_2))), (.a (.fz (.sl false 4 h1_3)))]])] = Hs')) (TV.Le (.agg [(.a (.fz (.int .i64 h3_0))), (.a (.fz (.str h3_1))), (.a (.fz (.int .i64 h3_2))), (.a (.fz .nils))]) r ∧ [(.arr 1 [[(.a (.fz (.int .i64 h0_0)))]]), (.arr 4 [[(.a (.fz (.int .i64 h1_0))), (.a (.fz (.str h1_1))), (.a (.fz (.int .i64 h1_2))), (.a (.fz (.sl false 4 h1_3)))]])] = Hs'))) := by kernel_rfl
theorem v121_F126_1b (x2 : Int) (x7 : FV) (x8 : Int) (x9l : Nat) (x30 : FV) (x31 : Int) (x32 : Int) (h0_0 : Int) (h1_0 : Int) (h1_1 : List UInt8) (h1_2 : Int) (h1_3 : List (List FV)) (h3_0 : Int) (h3_1 : List UInt8) (h3_2 : Int) (h3_3 : List (List FV)) (h4_0 : Int) (h4_1 : List UInt8) (h4_2 : Int) (h5 : List (List FV)) (r : TV) (Hs' : List AObj) : vcP Try.prog sh lv121 121 2 (fun r0 Hs0 => TV.Le r0 r ∧ Hs0 = Hs') (RPt Try.prog 121 2 r Hs') 1 ⟨[(2, (.c (.a (.fz (.int .i64 x2))))), (3, (.c (.a (.ep 2 1 0 0)))), (4, (.c (.a (.ep 3 4 0 0)))), (6, (.c (.a (.ep 4 4 0 0)))), (7, (.c (.a (.fz x7)))), (8, (.c (.a (.fz (.int .i64 x8))))), (9, (.c (.a (.osl 5 4 0 x9l)))), (30, (.c (.a (.fz x30)))), (31, (.c (.a (.fz (.int .i64 x31))))), (32, (.c (.a (.fz (.int .i64 x32)))))], [(0, (.arr 1 [[(.a (.fz (.int .i64 h0_0)))]])), (1, (.arr 4 [[(.a (.fz (.int .i64 h1_0))), (.a (.fz (.str h1_1))), (.a (.fz (.int .i64 h1_2))), (.a (.fz (.sl false 4 h1_3)))]])), (2, (.arr 1 [[(.fn (.func 126) [] [(false, [(.ep 0 1 0 0)]), (false, [(.ep 1 4 0 0)])])]])), (3, (.arr 4 [[(.a (.fz (.int .i64 h3_0))), (.a (.fz (.str h3_1))), (.a (.fz (.int .i64 h3_2))), (.a (.fz (.sl false 4 h3_3)))]])), (4, (.arr 4 [[(.a (.fz (.int .i64 h4_0))), (.a (.fz (.str h4_1))), (.a (.fz (.int .i64 h4_2))), (.a (.fz .nils))]])), (5, (.arz 4 h5))], 6⟩ =
    (br (decide ((x32 : Int) < x31)) (((FV.isSl 4 x30 = true) ∧ ((0 ≤ x32) ∧ ((x32 < (((List.length (FV.ses x30)) : Nat) : Int)) ∧ (((rE (List.getD (FV.ses x30) (Int.toNat x32) [])) : List FV) = (List.getD (FV.ses x30) (Int.toNat x32) []))))) ∧ (∃ z1 : Tm, ((AC Try.prog 121 [(.agg [(.fn (.func 126) [] [(false, [(.ep 0 1 0 0)]), (false, [(.ep 1 4 0 0)])])]), (aE (List.getD (FV.ses x30) (Int.toNat x32) [])), (.c (.a (.fz (.int .i64 (IntKind.wrap .i64 (x2 + x8))))))] [(.arr 1 [[(.a (.fz (.int .i64 h0_0)))]]), (.arr 4 [[(.a (.fz (.int .i64 h1_0))), (.a (.fz (.str h1_1))), (.a (.fz (.int .i64 h1_2))), (.a (.fz (.sl false 4 h1_3)))]])] (aT z1) [(.arr 1 [[(.a (.fz (.int .i64 h0_0)))]]), (.arr 4 [[(.a (.fz (.int .i64 h1_0))), (.a (.fz (.str h1_1))), (.a (.fz (.int .i64 h1_2))), (.a (.fz (.sl false 4 h1_3)))]])]) ∧ ((1 ≤ 1) ∧ ((x9l ≤ (List.length h5) ∧ roomB (x9l + 1) 56) ∧ (RPt Try.prog 121 2 r Hs' 1 ⟨[(2, (.c (.a (.fz (.int .i64 x2))))), (3, (.c (.a (.ep 2 1 0 0)))), (4, (.c (.a (.ep 3 4 0 0)))), (6, (.c (.a (.ep 4 4 0 0)))), (7, (.c (.a (.fz x7)))), (8, (.c (.a (.fz (.int .i64 x8))))), (9, (.c (.a (.osl 5 4 0 (x9l + 1))))), (30, (.c (.a (.fz x30)))), (31, (.c (.a (.fz (.int .i64 x31))))), (32, (.c (.a (.fz (.int .i64 (IntKind.wrap .i64 (x32 + (1 : Int))))))))], [(0, (.arr 1 [[(.a (.fz (.int .i64 h0_0)))]])), (1, (.arr 4 [[(.a (.fz (.int .i64 h1_0))), (.a (.fz (.str h1_1))), (.a (.fz (.int .i64 h1_2))), (.a (.fz (.sl false 4 h1_3)))]])), (2, (.arr 1 [[(.fn (.func 126) [] [(false, [(.ep 0 1 0 0)]), (false, [(.ep 1 4 0 0)])])]])), (3, (.arr 4 [[(.a (.fz (.int .i64 h3_0))), (.a (.fz (.str h3_1))), (.a (.fz (.int .i64 h3_2))), (.a (.fz (.sl false 4 h3_3)))]])), (4, (.arr 4 [[(.a (.fz (.int .i64 h4_0))), (.a (.fz (.str h4_1))), (.a (.fz (.int .i64 h4_2))), (.a (.fz .nils))]])), (5, (.arz 4 ((List.take x9l h5) ++ [(FT4 z1)])))], 6⟩)))))) (br ((h3_0 : Int) == (6 : Int)) (br (decide ((((x9l : Nat) : Int) : Int) > (1 : Int))) ((0 ≤ (0 : Int) ∧ (0 : Int) < ((x9l : Nat) : Int)) ∧ (((0 < (List.length h5)) ∧ ((([(.int .i64 (FV.asI (List.getD (List.getD h5 0 []) 0 FV.nils)))] : List FV) = (List.take 1 (List.drop 0 (List.getD h5 0 [])))) ∧ ((1 : Nat) = 1))) ∧ (br (((FV.asI (List.getD (List.getD h5 0 []) 0 FV.nils)) : Int) == (6 : Int)) (((FV.isSl 4 x7 = true) ∧ ((0 ≤ (0 : Int)) ∧ (((0 : Int) < (((List.length (FV.ses x7)) : Nat) : Int)) ∧ (((rE (List.getD (FV.ses x7) 0 [])) : List FV) = (List.getD (FV.ses x7) 0 []))))) ∧ (br (((FV.asI (List.getD (List.getD (FV.ses x7) 0 []) 0 FV.nils)) : Int) != (6 : Int)) ((0 ≤ (0 : Int) ∧ (0 : Int) < ((x9l : Nat) : Int)) ∧ (((0 < (List.length h5)) ∧ ((((rE (List.getD h5 0 [])) : List FV) = (List.take 4 (List.drop 0 (List.getD h5 0 [])))) ∧ ((4 : Nat) = 4))) ∧ (((0 ≤ (1 : Int)) ∧ (((1 : Int) ≤ ((x9l : Nat) : Int)) ∧ (((x9l : Nat) : Int) ≤ ((x9l : Nat) : Int)))) ∧ (((4 : Nat) = 4 ∧ (1 + ((Int.toNat ((x9l : Nat) : Int)) - 1)) ≤ (List.length h5)) ∧ (∃ z2 : Tm, ((AC Try.prog 32 [(aE (List.getD h5 0 [])), (.c (.a (.fz (.sl false 4 (List.take ((Int.toNat ((x9l : Nat) : Int)) - 1) (List.drop 1 h5))))))] [] (aT z2) []) ∧ (TV.Le (aT z2) r ∧ [(.arr 1 [[(.a (.fz (.int .i64 h0_0)))]]), (.arr 4 [[(.a (.fz (.int .i64 h1_0))), (.a (.fz (.str h1_1))), (.a (.fz (.int .i64 h1_2))), (.a (.fz (.sl false 4 h1_3)))]])] = Hs'))))))) (((4 : Nat) = 4 ∧ (0 + x9l) ≤ (List.length h5)) ∧ (TV.Le (.agg [(.a (.fz (.int .i64 h3_0))), (.a (.fz (.str h3_1))), (.a (.fz (.int .i64 h3_2))), (.a (.fz (.sl false 4 (List.take x9l (List.drop 0 h5)))))]) r ∧ [(.arr 1 [[(.a (.fz (.int .i64 h0_0)))]]), (.arr 4 [[(.a (.fz (.int .i64 h1_0))), (.a (.fz (.str h1_1))), (.a (.fz (.int .i64 h1_2))), (.a (.fz (.sl false 4 h1_3)))]])] = Hs')))) (((4 : Nat) = 4 ∧ (0 + x9l) ≤ (List.length h5)) ∧ (TV.Le (.agg [(.a (.fz (.int .i64 h3_0))), (.a (.fz (.str h3_1))), (.a (.fz (.int .i64 h3_2))), (.a (.fz (.sl false 4 (List.take x9l (List.drop 0 h5)))))]) r ∧ [(.arr 1 [[(.a (.fz (.int .i64 h0_0)))]]), (.arr 4 [[(.a (.fz (.int .i64 h1_0))), (.a (.fz (.str h1_1))), (.a (.fz (.int .i64 h1_2))), (.a (.fz (.sl false 4 h1_3)))]])] = Hs'))))) (((4 : Nat) = 4 ∧ (0 + x9l) ≤ (List.length h5)) ∧ (TV.Le (.agg [(.a (.fz (.int .i64 h3_0))), (.a (.fz (.str h3_1))), (.a (.fz (.int .i64 h3_2))), (.a (.fz (.sl false 4 (List.take x9l (List.drop 0 h5)))))]) r ∧ [(.arr 1 [[(.a (.fz (.int .i64 h0_0)))]]), (.arr 4 [[(.a (.fz (.int .i64 h1_0))), (.a (.fz (.str h1_1))), (.a (.fz (.int .i64 h1_2))), (.a (.fz (.sl false 4 h1_3)))]])] = Hs'))) (((4 : Nat) = 4 ∧ (0 + x9l) ≤ (List.length h5)) ∧ (TV.Le (.agg [(.a (.fz (.int .i64 h3_0))), (.a (.fz (.str h3_1))), (.a (.fz (.int .i64 h3_2))), (.a (.fz (.sl false 4 (List.take x9l (List.drop 0 h5)))))]) r ∧ [(.arr 1 [[(.a (.fz (.int .i64 h0_0)))]]), (.arr 4 [[(.a (.fz (.int .i64 h1_0))), (.a (.fz (.str h1_1))), (.a (.fz (.int .i64 h1_2))), (.a (.fz (.sl false 4 h1_3)))]])] = Hs')))) := by kernel_rfl
/-- lambent/term.Shift$1 -/
def lv119 : List (Nat × List Nat) := []
theorem v119 (u_0 : Int) (u_1 : List UInt8) (u_2 : Int) (u_3 : List (List FV)) (k : Int) (o0_0 : Int) (o1_0 : Int) (r : TV) (Hs' : List AObj) : vcE Try.prog sh lv119 119 [(.agg [(.a (.fz (.int .i64 u_0))), (.a (.fz (.str u_1))), (.a (.fz (.int .i64 u_2))), (.a (.fz (.sl false 4 u_3)))]), (.c (.a (.fz (.int .i64 k)))), (.c (.a (.ep 0 1 0 0))), (.c (.a (.ep 1 1 0 0)))] [(.arr 1 [[(.a (.fz (.int .i64 o0_0)))]]), (.arr 1 [[(.a (.fz (.int .i64 o1_0)))]])] (fun r0 Hs0 => TV.Le r0 r ∧ Hs0 = Hs') (RPt Try.prog 119 2 r Hs') =
    (br ((u_0 : Int) == (3 : Int)) (br (decide ((u_2 : Int) ≥ (IntKind.wrap .i64 (k + o0_0)))) (∃ z1 : Tm, ((AC Try.prog 120 [(.agg [(.a (.fz (.int .i64 u_0))), (.a (.fz (.str u_1))), (.a (.fz (.int .i64 u_2))), (.a (.fz (.sl false 4 u_3)))]), (.c (.a (.fz (.int .i64 o1_0))))] [] (aT z1) []) ∧ (TV.Le (aT z1) r ∧ [(.arr 1 [[(.a (.fz (.int .i64 o0_0)))]]), (.arr 1 [[(.a (.fz (.int .i64 o1_0)))]])] = Hs'))) (TV.Le (.agg [(.a (.fz (.int .i64 u_0))), (.a (.fz (.str u_1))), (.a (.fz (.int .i64 u_2))), (.a (.fz (.sl false 4 u_3)))]) r ∧ [(.arr 1 [[(.a (.fz (.int .i64 o0_0)))]]), (.arr 1 [[(.a (.fz (.int .i64 o1_0)))]])] = Hs')) (TV.Le (.agg [(.a (.fz (.int .i64 u_0))), (.a (.fz (.str u_1))), (.a (.fz (.int .i64 u_2))), (.a (.fz (.sl false 4 u_3)))]) r ∧ [(.arr 1 [[(.a (.fz (.int .i64 o0_0)))]]), (.arr 1 [[(.a (.fz (.int .i64 o1_0)))]])] = Hs')) := by kernel_rfl
/-- lambent/term.Subst$1 -/
def lv126 : List (Nat × List Nat) := []
theorem v126 (u_0 : Int) (u_1 : List UInt8) (u_2 : Int) (u_3 : List (List FV)) (k : Int) (o0_0 : Int) (o1_0 : Int) (o1_1 : List UInt8) (o1_2 : Int) (o1_3 : List (List FV)) (r : TV) (Hs' : List AObj) : vcE Try.prog sh lv126 126 [(.agg [(.a (.fz (.int .i64 u_0))), (.a (.fz (.str u_1))), (.a (.fz (.int .i64 u_2))), (.a (.fz (.sl false 4 u_3)))]), (.c (.a (.fz (.int .i64 k)))), (.c (.a (.ep 0 1 0 0))), (.c (.a (.ep 1 4 0 0)))] [(.arr 1 [[(.a (.fz (.int .i64 o0_0)))]]), (.arr 4 [[(.a (.fz (.int .i64 o1_0))), (.a (.fz (.str o1_1))), (.a (.fz (.int .i64 o1_2))), (.a (.fz (.sl false 4 o1_3)))]])] (fun r0 Hs0 => TV.Le r0 r ∧ Hs0 = Hs') (RPt Try.prog 126 2 r Hs') =
    (br ((u_0 : Int) != (3 : Int)) (TV.Le (.agg [(.a (.fz (.int .i64 u_0))), (.a (.fz (.str u_1))), (.a (.fz (.int .i64 u_2))), (.a (.fz (.sl false 4 u_3)))]) r ∧ [(.arr 1 [[(.a (.fz (.int .i64 o0_0)))]]), (.arr 4 [[(.a (.fz (.int .i64 o1_0))), (.a (.fz (.str o1_1))), (.a (.fz (.int .i64 o1_2))), (.a (.fz (.sl false 4 o1_3)))]])] = Hs') (br (decide ((u_2 : Int) < (IntKind.wrap .i64 (k + o0_0)))) (TV.Le (.agg [(.a (.fz (.int .i64 u_0))), (.a (.fz (.str u_1))), (.a (.fz (.int .i64 u_2))), (.a (.fz (.sl false 4 u_3)))]) r ∧ [(.arr 1 [[(.a (.fz (.int .i64 o0_0)))]]), (.arr 4 [[(.a (.fz (.int .i64 o1_0))), (.a (.fz (.str o1_1))), (.a (.fz (.int .i64 o1_2))), (.a (.fz (.sl false 4 o1_3)))]])] = Hs') (br ((u_2 : Int) == (IntKind.wrap .i64 (k + o0_0))) (∃ z1 : Tm, ((AC Try.prog 111 [(.agg [(.a (.fz (.int .i64 o1_0))), (.a (.fz (.str o1_1))), (.a (.fz (.int .i64 o1_2))), (.a (.fz (.sl false 4 o1_3)))]), (.c (.a (.fz (.int .i64 (0 : Int))))), (.c (.a (.fz (.int .i64 k))))] [] (aT z1) []) ∧ (TV.Le (aT z1) r ∧ [(.arr 1 [[(.a (.fz (.int .i64 o0_0)))]]), (.arr 4 [[(.a (.fz (.int .i64 o1_0))), (.a (.fz (.str o1_1))), (.a (.fz (.int .i64 o1_2))), (.a (.fz (.sl false 4 o1_3)))]])] = Hs'))) (∃ z2 : Tm, ((AC Try.prog 120 [(.agg [(.a (.fz (.int .i64 u_0))), (.a (.fz (.str u_1))), (.a (.fz (.int .i64 u_2))), (.a (.fz (.sl false 4 u_3)))]), (.c (.a (.fz (.int .i64 (-1 : Int)))))] [] (aT z2) []) ∧ (TV.Le (aT z2) r ∧ [(.arr 1 [[(.a (.fz (.int .i64 o0_0)))]]), (.arr 4 [[(.a (.fz (.int .i64 o1_0))), (.a (.fz (.str o1_1))), (.a (.fz (.int .i64 o1_2))), (.a (.fz (.sl false 4 o1_3)))]])] = Hs')))))) := by kernel_rfl
/-- lambent/term.moved -/
def lv120 : List (Nat × List Nat) := []
theorem v120 (t_0 : Int) (t_1 : List UInt8) (t_2 : Int) (t_3 : List (List FV)) (a1 : Int) (r : TV) (Hs' : List AObj) : vcE Try.prog sh lv120 120 [(.agg [(.a (.fz (.int .i64 t_0))), (.a (.fz (.str t_1))), (.a (.fz (.int .i64 t_2))), (.a (.fz (.sl false 4 t_3)))]), (.c (.a (.fz (.int .i64 a1))))] [] (fun r0 Hs0 => TV.Le r0 r ∧ Hs0 = Hs') (RPt Try.prog 120 0 r Hs') =
    (TV.Le (.agg [(.a (.fz (.int .i64 t_0))), (.a (.fz (.str t_1))), (.a (.fz (.int .i64 (IntKind.wrap .i64 (t_2 + a1))))), (.a (.fz (.sl false 4 t_3)))]) r ∧ [] = Hs') := by kernel_rfl
-- COV 7 9 23 25 26 28 31 32 34 35 36 37 38 42 43 44 45 46 47 48 50 52 53 54 55 56 57 58 59 60 61 62 63 64 66 67 68 69 70 71 72 73 74 75 76 79 80 81 82 83 84 85 86 87 88 89 90 91 92 93 94 95 100 101 102 103 104 108 109 110 111 112 117 118 119 120 121 123 124 125 126
end Go.AM

set_option maxRecDepth 100000
open Go Go.Proofs

set_option maxRecDepth 100000
open Go Go.Proofs
namespace Go.AM

/-! ### Package lex -/
def smallB (c : Int) : Bool := decide (97 ≤ c) && decide (c ≤ 122)
def greatB (c : Int) : Bool := decide (65 ≤ c) && decide (c ≤ 90) || c == 95
def digitB (c : Int) : Bool := decide (48 ≤ c) && decide (c ≤ 57)
def insideB (c : Int) : Bool := smallB c || greatB c || digitB c || c == 39
def signs : List UInt8 := [43, 45, 42, 47, 60, 62, 61, 38, 124, 94, 126, 64, 35, 36, 63, 58]
def signB (c : Int) : Bool := decide (Lib.indexByte signs c.toNat.toUInt8 ≥ 0)

theorem c_small (c : Int) : AC Try.prog 70 [c8 c] [] (cb (smallB c)) [] := by
  refine AC.vc hP sh lv70 (Nat.le_refl _) (by simp) (by simp) (Eq.mpr (v70 ..) ?_)
  refine br_of (fun h => ret_b ?_) (fun h => ret_b ?_) <;> simp_all [smallB] <;> omega
theorem c_great (c : Int) : AC Try.prog 91 [c8 c] [] (cb (greatB c)) [] := by
  refine AC.vc hP sh lv91 (Nat.le_refl _) (by simp) (by simp) (Eq.mpr (v91 ..) ?_)
  refine br_of (fun h => br_of (fun h => ret_b ?_) (fun h => ret_b ?_)) (fun h => ret_b ?_) <;> simp_all [greatB] <;> omega
theorem c_digit (c : Int) : AC Try.prog 92 [c8 c] [] (cb (digitB c)) [] := by
  refine AC.vc hP sh lv92 (Nat.le_refl _) (by simp) (by simp) (Eq.mpr (v92 ..) ?_)
  refine br_of (fun h => ret_b ?_) (fun h => ret_b ?_) <;> simp_all [digitB] <;> omega
theorem c_inside (c : Int) : AC Try.prog 72 [c8 c] [] (cb (insideB c)) [] := by
  refine AC.vc hP sh lv72 (Nat.le_refl _) (by simp) (by simp) (Eq.mpr (v72 ..) ?_)
  refine ⟨_, c_small c, br_of (fun h => ret_b ?_) (fun h => ⟨_, c_great c, br_of (fun h => ret_b ?_) (fun h => ⟨_, c_digit c, br_of (fun h => ret_b ?_) (fun h => ret_b ?_)⟩)⟩)⟩ <;> simp_all [insideB]
theorem c_lindexbyte (s : List UInt8) (c : Int) : AC Try.prog 103 [cs s, c8 c] [] (ci (Lib.indexByte s c.toNat.toUInt8)) [] :=
  AC.str_u8 (by kernel_rfl) fun w => Try.stringslite_IndexByte ⟨s.toArray⟩ c w
theorem c_indexbyte (s : List UInt8) (c : Int) : AC Try.prog 93 [cs s, c8 c] [] (ci (Lib.indexByte s c.toNat.toUInt8)) [] :=
  AC.str_u8 (by kernel_rfl) fun w => Try.strings_IndexByte ⟨s.toArray⟩ c w
theorem c_sign (c : Int) : AC Try.prog 73 [c8 c] [] (cb (signB c)) [] := by
  refine AC.vc hP sh lv73 (Nat.le_refl _) (by simp) (by simp) (Eq.mpr (v73 ..) ?_)
  exact ⟨_, c_indexbyte _ c, ret_b rfl⟩

/-- How many bytes a text begins with that are such. -/
def runN (p : Int → Bool) : List UInt8 → Nat
  | [] => 0
  | c :: s => if p (c.toNat : Int) then runN p s + 1 else 0
theorem runN_le (p : Int → Bool) : ∀ s : List UInt8, runN p s ≤ s.length
  | [] => Nat.le_refl _
  | c :: s => by have := runN_le p s; simp only [runN, List.length_cons]; split <;> omega
theorem gD_mid8 (a : List UInt8) (c : UInt8) (b : List UInt8) : List.getD (a ++ c :: b) (Int.toNat (a.length : Int)) 0 = c := by simp [List.getD]
theorem l_run_inside : ∀ (b a : List UInt8), (a ++ b).length ≤ B → RPt Try.prog 71 0 (ci ((a.length : Int) + runN insideB b)) [] 1 ⟨[(0, cs (a ++ b)), (1, .c (.fn (.func 72) [] [])), (7, ci (((a ++ b).length : Nat) : Int)), (8, ci a.length)], [], 0⟩
  | [], a, hl => by
    refine RPt.vc hP sh lv71 (Eq.mpr (v71_F72_1a ..) ?_)
    exact br_of (fun h => absurd h (by simp)) (fun _ => ret_i (by simp [runN]))
  | c :: b, a, hl => by
    refine RPt.vc hP sh lv71 (Eq.mpr (v71_F72_1a ..) ?_)
    have hl' := hl
    simp only [List.length_append, List.length_cons, B] at hl'
    refine br_of (fun _ => ⟨⟨by omega, by simp; omega⟩, insideB (c.toNat : Int), ?_, br_of (fun h => ret_i ?_) (fun h => ?_)⟩) (fun h => absurd h (by simp; omega))
    · rw [gD_mid8]; exact c_inside _
    · simp_all [runN]
    · have := l_run_inside b (a ++ [c]) (by simpa using hl)
      rw [w64 (by omega) (by omega)]
      simp only [List.append_assoc, List.cons_append, List.nil_append, List.length_append, List.length_cons, List.length_nil, Int.natCast_add, Int.natCast_one, Int.natCast_zero, Int.zero_add] at this
      simp only [Bool.not_eq_false'] at h
      simp only [runN, h, if_true, List.length_append, List.length_cons, Int.natCast_add, Int.natCast_one]
      rw [show (a.length : Int) + ((runN insideB b : Nat) + 1 : Int) = (a.length : Int) + 1 + (runN insideB b : Nat) by omega]
      exact this
theorem c_run_inside (s : List UInt8) (h : s.length ≤ B) : AC Try.prog 71 [cs s, .c (.fn (.func 72) [] [])] [] (ci (runN insideB s)) [] := by
  refine AC.vc hP sh lv71 (Nat.le_refl _) (by simp) (by simp) (Eq.mpr (v71_F72 ..) ?_)
  have := l_run_inside s [] (by simpa using h)
  simpa using this
theorem l_run_sign : ∀ (b a : List UInt8), (a ++ b).length ≤ B → RPt Try.prog 71 0 (ci ((a.length : Int) + runN signB b)) [] 1 ⟨[(0, cs (a ++ b)), (1, .c (.fn (.func 73) [] [])), (7, ci (((a ++ b).length : Nat) : Int)), (8, ci a.length)], [], 0⟩
  | [], a, hl => by
    refine RPt.vc hP sh lv71 (Eq.mpr (v71_F73_1a ..) ?_)
    exact br_of (fun h => absurd h (by simp)) (fun _ => ret_i (by simp [runN]))
  | c :: b, a, hl => by
    refine RPt.vc hP sh lv71 (Eq.mpr (v71_F73_1a ..) ?_)
    have hl' := hl
    simp only [List.length_append, List.length_cons, B] at hl'
    refine br_of (fun _ => ⟨⟨by omega, by simp; omega⟩, signB (c.toNat : Int), ?_, br_of (fun h => ret_i ?_) (fun h => ?_)⟩) (fun h => absurd h (by simp; omega))
    · rw [gD_mid8]; exact c_sign _
    · simp_all [runN]
    · have := l_run_sign b (a ++ [c]) (by simpa using hl)
      rw [w64 (by omega) (by omega)]
      simp only [List.append_assoc, List.cons_append, List.nil_append, List.length_append, List.length_cons, List.length_nil, Int.natCast_add, Int.natCast_one, Int.natCast_zero, Int.zero_add] at this
      simp only [Bool.not_eq_false'] at h
      simp only [runN, h, if_true, List.length_append, List.length_cons, Int.natCast_add, Int.natCast_one]
      rw [show (a.length : Int) + ((runN signB b : Nat) + 1 : Int) = (a.length : Int) + 1 + (runN signB b : Nat) by omega]
      exact this
theorem c_run_sign (s : List UInt8) (h : s.length ≤ B) : AC Try.prog 71 [cs s, .c (.fn (.func 73) [] [])] [] (ci (runN signB s)) [] := by
  refine AC.vc hP sh lv71 (Nat.le_refl _) (by simp) (by simp) (Eq.mpr (v71_F73 ..) ?_)
  have := l_run_sign s [] (by simpa using h)
  simpa using this

theorem runN_all (p : Int → Bool) : ∀ s : List UInt8, (((runN p s : Nat) : Int) == ((s.length : Nat) : Int)) = s.all fun c => p (c.toNat : Int)
  | [] => rfl
  | c :: s => by
    have ih := runN_all p s
    have := runN_le p s
    simp only [runN, List.all_cons, List.length_cons]
    cases h : p (c.toNat : Int) with
    | true => rw [← ih]; simp only [if_true, Bool.true_and]; rw [Bool.eq_iff_iff]; simp <;> omega
    | false => simp; omega
def fitsB (s : List UInt8) : Bool := !(s == []) && decide ((s.length : Int) ≤ 32)
theorem c_fits (s : List UInt8) : AC Try.prog 69 [cs s] [] (cb (fitsB s)) [] := by
  refine AC.vc hP sh lv69 (Nat.le_refl _) (by simp) (by simp) (Eq.mpr (v69 ..) ?_)
  refine br_of (fun h => ret_b ?_) (fun h => ret_b ?_) <;> simp_all [fitsB]
/-- A name. -/
def isName (s : List UInt8) : Bool := fitsB s && smallB ((s.getD 0 0).toNat : Int) && s.all fun c => insideB (c.toNat : Int)
theorem fits_le {s : List UInt8} (h : fitsB s = true) : 0 < s.length ∧ s.length ≤ 32 := by
  simp only [fitsB, Bool.and_eq_true, Bool.not_eq_true', decide_eq_true_eq] at h
  refine ⟨?_, by omega⟩
  cases s with
  | nil => simp at h
  | cons c s => simp
theorem c_isname (s : List UInt8) : AC Try.prog 45 [cs s] [] (cb (isName s)) [] := by
  refine AC.vc hP sh lv45 (Nat.le_refl _) (by simp) (by simp) (Eq.mpr (v45 ..) ?_)
  refine ⟨_, c_fits s, br_of (fun h => ⟨⟨by omega, by have := fits_le h; omega⟩, _, c_small _, br_of (fun h2 => ⟨_, c_run_inside s (by have := fits_le h; simp only [B]; omega), ret_b ?_⟩) (fun h2 => ret_b ?_)⟩) (fun h => ret_b ?_)⟩
  · rw [runN_all]; simp only [isName, h, h2, Bool.true_and]
  · simp only [isName, h, h2, Bool.and_false, Bool.false_and]
  · simp only [isName, h, Bool.false_and]
def singles : List UInt8 := [44, 59, 33]
theorem c_contains1 (s : List UInt8) (c : UInt8) (hs : s.length ≤ B) : AC Try.prog 74 [cs s, cs [c]] [] (cb (decide (Lib.indexByte s c ≥ 0))) [] := by
  have hb : (c.toNat : Int).toNat.toUInt8 = c := by simp
  have h1 : AC Try.prog 104 [cs s, cs [c]] [] (ci (if [c] == s then 0 else Lib.indexByte s c)) [] := by
    refine AC.vc hP sh lv104 (Nat.le_refl _) (by simp) (by simp) (Eq.mpr (v104 ..) ?_)
    refine br_of (fun h => absurd h (by simp)) (fun _ => br_of (fun h => ret_i (by simp [h])) (fun h => br_of (fun _ => ⟨⟨by omega, by simp⟩, _, c_lindexbyte s _, ret_i ?_⟩) (fun h2 => absurd h2 (by simp))))
    rw [h]
    simp
  have h2 : AC Try.prog 94 [cs s, cs [c]] [] (ci (if [c] == s then 0 else Lib.indexByte s c)) [] := by
    refine AC.vc hP sh lv94 (Nat.le_refl _) (by simp) (by simp) (Eq.mpr (v94 ..) ?_)
    exact ⟨_, h1, ret_i rfl⟩
  refine AC.vc hP sh lv74 (Nat.le_refl _) (by simp) (by simp) (Eq.mpr (v74 ..) ?_)
  refine ⟨_, h2, ret_b ?_⟩
  by_cases e : [c] = s
  · subst e
    simp [Lib.indexByte]
  · have : ([c] == s) = false := by simpa using e
    rw [this]; simp
def isSym (s : List UInt8) : Bool := fitsB s && ((s.all fun c => signB (c.toNat : Int)) || ((s.length : Int) == 1 && decide (Lib.indexByte singles (s.getD 0 0) ≥ 0)))
theorem c_issym (s : List UInt8) : AC Try.prog 46 [cs s] [] (cb (isSym s)) [] := by
  refine AC.vc hP sh lv46 (Nat.le_refl _) (by simp) (by simp) (Eq.mpr (v46 ..) ?_)
  refine ⟨_, c_fits s, br_of (fun h => ⟨_, c_run_sign s (by have := fits_le h; simp only [B]; omega), br_of (fun h2 => ret_b ?_) (fun h2 => br_of (fun h3 => ?_) (fun h3 => ret_b ?_))⟩) (fun h => ret_b ?_)⟩
  · rw [runN_all] at h2; simp only [isSym, h, h2, Bool.true_and, Bool.true_or]
  · rw [runN_all] at h2
    match s, h3 with
    | [c], h3 =>
      refine ⟨_, c_contains1 singles c (by simp [singles, B]), ret_b ?_⟩
      simp only [isSym, h, h2, h3, Bool.true_and, Bool.false_or, List.getD_cons_zero]
    | [], h3 => simp at h3
    | _ :: _ :: _, h3 => simp at h3; omega
  · rw [runN_all] at h2; simp only [isSym, h, h2, h3, Bool.false_and, Bool.false_or, Bool.and_false]
  · simp only [isSym, h, Bool.false_and]

end Go.AM

set_option maxRecDepth 100000
open Go Go.Proofs
namespace Go.AM

/-! ### What is looked at -/
mutual
def near (most : Int) : Tm → Bool
  | .mk k _ n l => !(k != 2 && (decide (n > most) || decide (n < 0 - most))) && nears most l
def nears (most : Int) : List Tm → Bool
  | [] => true
  | t :: l => near most t && nears most l
end
theorem l_near (most : Int) (k : Int) (s : List UInt8) (n : Int) : ∀ (b a : List Tm), (∀ u ∈ b, AC Try.prog 44 [aT u, ci most] [] (cb (near most u)) []) → (a ++ b).length ≤ B →
    RPt Try.prog 44 0 (cb (nears most b)) [] 1 ⟨[(1, ci most), (2, (.c (.a (.ep 0 4 0 0)))), (5, ci a.length)], [(0, (.arr 4 [fzs (FT (.mk k s n (a ++ b)))]))], 1⟩
  | [], a, _, hl => by
    refine RPt.vc hP sh lv44 (Eq.mpr (v44_1a ..) ?_)
    exact ⟨rfl, br_of (fun h => absurd (of_decide_eq_true h) (geI' a)) (fun _ => ret_b rfl)⟩
  | t :: b, a, ih, hl => by
    refine RPt.vc hP sh lv44 (Eq.mpr (v44_1a ..) ?_)
    have hl' := hl
    simp only [List.length_append, List.length_cons, B] at hl'
    refine ⟨rfl, br_of (fun _ => ?_) (fun h => absurd (ltI' a t b) (of_decide_eq_false h))⟩
    have h1 := ih t List.mem_cons_self
    have h2 := l_near most k s n b (a ++ [t]) (fun u hu => ih u (List.mem_cons_of_mem _ hu)) (by rw [ap]; exact hl)
    have h3 := ltI' a t b
    rw [ap, nx] at h2
    rw [midI, w64 (by omega) (by omega)]
    obtain ⟨k', s', n', l'⟩ := t
    refine ⟨⟨rfl, by omega, h3, rfl⟩, _, h1, br_of (fun h => ret_b ?_) (fun h => ?_)⟩
    · simp_all [nears]
    · simp only [nears, show near most (.mk k' s' n' l') = true by simpa using h, Bool.true_and]; exact h2
theorem c_near (most : Int) (h0 : 0 ≤ most) (h1 : most ≤ 4611686018427387904) : ∀ t : Tm, t.sz ≤ B → AC Try.prog 44 [aT t, ci most] [] (cb (near most t)) [] := by
  refine Tm.ind fun t ih hs => ?_
  obtain ⟨k, s, n, l⟩ := t
  have hl := Tm.szs_length l
  simp only [Tm.sz, B] at hs
  refine AC.vc hP sh lv44 (Nat.le_refl _) (by simp) (by simp) (Eq.mpr (v44 k s n (FTs l) most _ _) ?_)
  have key := l_near most k s n l [] (fun u hu => ih u hu (by have := Tm.szs_mem hu; simp only [B]; omega)) (by simp only [List.nil_append, B]; omega)
  rw [w64 (by omega) (by omega)]
  rw [near]
  refine br_of (fun h => br_of (fun h2 => ret_b ?_) (fun h2 => br_of (fun h3 => ret_b ?_) (fun h3 => ?_))) (fun h => ?_)
  · simp only [h, h2, Bool.true_or, Bool.and_true, Bool.not_true, Bool.false_and]
  · simp only [h, h3, Bool.or_true, Bool.and_true, Bool.not_true, Bool.false_and]
  · simp only [h2, h3, Bool.or_false, Bool.and_false, Bool.not_false, Bool.true_and]; exact key
  · simp only [h, Bool.false_and, Bool.not_false, Bool.true_and]; exact key

mutual
def leftF : Tm → Int → Int
  | .mk _ _ _ l, most => leftL l (most - 1)
def leftL : List Tm → Int → Int
  | [], n => n
  | t :: l, n => if n ≥ 0 then leftL l (leftF t n) else n
end
mutual
theorem leftF_le : ∀ (t : Tm) (n : Int), leftF t n ≤ n - 1 ∧ (0 ≤ n → -1 ≤ leftF t n)
  | .mk _ _ _ l, n => by
    have h := leftL_le l (n - 1)
    simp only [leftF]
    exact ⟨h.1, fun hn => h.2 (by omega)⟩
theorem leftL_le : ∀ (l : List Tm) (n : Int), leftL l n ≤ n ∧ (-1 ≤ n → -1 ≤ leftL l n)
  | [], n => by simp [leftL]
  | t :: l, n => by
    have h1 := leftF_le t n
    have h2 := leftL_le l (leftF t n)
    simp only [leftL]
    split
    · rename_i h; exact ⟨by omega, fun _ => h2.2 (h1.2 h)⟩
    · exact ⟨Int.le_refl _, fun h => h⟩
end
theorem l_left (k : Int) (s : List UInt8) (n : Int) : ∀ (b a : List Tm) (m : Int), (∀ u ∈ b, ∀ m : Int, 0 ≤ m → m ≤ 4611686018427387904 → AC Try.prog 38 [aT u, ci m] [] (ci (leftF u m)) []) → (a ++ b).length ≤ B → m ≤ 4611686018427387904 →
    RPt Try.prog 38 0 (ci (leftL b m)) [] 1 ⟨[(2, (.c (.a (.ep 0 4 0 0)))), (5, ci m), (6, ci a.length)], [(0, (.arr 4 [fzs (FT (.mk k s n (a ++ b)))]))], 1⟩
  | [], a, m, _, hl, hm => by
    refine RPt.vc hP sh lv38 (Eq.mpr (v38_1a ..) ?_)
    exact ⟨rfl, br_of (fun h => absurd (of_decide_eq_true h) (geI' a)) (fun _ => ret_i rfl)⟩
  | t :: b, a, m, ih, hl, hm => by
    refine RPt.vc hP sh lv38 (Eq.mpr (v38_1a ..) ?_)
    have hl' := hl
    simp only [List.length_append, List.length_cons, B] at hl'
    refine ⟨rfl, br_of (fun _ => br_of (fun hm0 => ?_) (fun hm0 => ret_i ?_)) (fun h => absurd (ltI' a t b) (of_decide_eq_false h))⟩
    · have hm0 := of_decide_eq_true hm0
      have h1 := ih t List.mem_cons_self m hm0 hm
      have hle := leftF_le t m
      have h2 := l_left k s n b (a ++ [t]) (leftF t m) (fun u hu => ih u (List.mem_cons_of_mem _ hu)) (by rw [ap]; exact hl) (by omega)
      have h3 := ltI' a t b
      rw [ap, nx] at h2
      rw [midI, w64 (by omega) (by omega)]
      simp only [leftL, hm0, if_true]
      obtain ⟨k', s', n', l'⟩ := t
      exact ⟨⟨rfl, by omega, h3, rfl⟩, _, h1, h2⟩
    · have hm0 := of_decide_eq_false hm0
      simp only [leftL, hm0, if_false]
theorem c_left : ∀ t : Tm, t.sz ≤ B → ∀ m : Int, 0 ≤ m → m ≤ 4611686018427387904 → AC Try.prog 38 [aT t, ci m] [] (ci (leftF t m)) [] := by
  refine Tm.ind fun t ih hs m h0 h1 => ?_
  obtain ⟨k, s, n, l⟩ := t
  have hl := Tm.szs_length l
  simp only [Tm.sz, B] at hs
  refine AC.vc hP sh lv38 (Nat.le_refl _) (by simp) (by simp) (Eq.mpr (v38 k s n (FTs l) m _ _) ?_)
  rw [w64 (by omega) (by omega)]
  exact l_left k s n l [] (m - 1) (fun u hu => ih u hu (by have := Tm.szs_mem hu; simp only [B]; omega)) (by simp only [List.nil_append, B]; omega) (by omega)
def large (t : Tm) (most : Int) : Bool := decide (leftF t most < 0)
theorem c_large (t : Tm) (hs : t.sz ≤ B) (m : Int) (h0 : 0 ≤ m) (h1 : m ≤ 4611686018427387904) : AC Try.prog 9 [aT t, ci m] [] (cb (large t m)) [] := by
  have h := c_left t hs m h0 h1
  obtain ⟨k, s, n, l⟩ := t
  refine AC.vc hP sh lv9 (Nat.le_refl _) (by simp) (by simp) (Eq.mpr (v9 k s n (FTs l) m _ _) ?_)
  exact ⟨_, h, ret_b rfl⟩

mutual
def longB : Tm → Bool
  | .mk _ s _ l => decide (60 < (s.length : Int)) || longL l
def longL : List Tm → Bool
  | [] => false
  | t :: l => longB t || longL l
end
def overB (t : Tm) : Bool := large t 80 || longB t || !near 1099511627776 t
def rowL (l : List Tm) : Bool := decide ((l.length : Int) > 8) || l.any overB
/-! ### The same -/
mutual
def sameB : Tm → Tm → Bool
  | .mk k s n l, .mk k' s' n' l' => k == k' && (s == s' && (n == n' && sameL l l'))
def sameL : List Tm → List Tm → Bool
  | [], [] => true
  | t :: l, u :: m => sameB t u && sameL l m
  | _, _ => false
end
mutual
theorem sameB_iff : ∀ a b : Tm, sameB a b = true ↔ a = b
  | .mk k s n l, .mk k' s' n' l' => by simp only [sameB, Bool.and_eq_true, beq_iff_eq, Tm.mk.injEq, sameL_iff l l']
theorem sameL_iff : ∀ a b : List Tm, sameL a b = true ↔ a = b
  | [], [] => by simp [sameL]
  | t :: l, u :: m => by simp only [sameL, Bool.and_eq_true, List.cons.injEq, sameB_iff t u, sameL_iff l m]
  | [], _ :: _ => by simp [sameL]
  | _ :: _, [] => by simp [sameL]
end
theorem sameL_len : ∀ {a b : List Tm}, a.length ≠ b.length → sameL a b = false
  | [], [], h => absurd rfl h
  | t :: l, u :: m, h => by simp only [sameL, sameL_len (a := l) (b := m) (fun e => h (by simp [e])), Bool.and_false]
  | [], _ :: _, _ => rfl
  | _ :: _, [], _ => rfl
/-! ### What is within; how large -/
def Tm.inner (t : Tm) : Bool := t.k == 5 || t.k == 6
def Tm.kids (t : Tm) : List Tm := if t.inner = true then t.l else []
def Tm.by (t : Tm) : Int := if t.k == 5 then 1 else 0

end Go.AM

set_option maxRecDepth 100000
open Go Go.Proofs
namespace Go.AM

/-! ### What is within -/
def kidsV (t : Tm) : FV := if t.inner = true then .sl false 4 (FTs t.l) else .nils
theorem kidsV_ses (t : Tm) : (kidsV t).ses = FTs t.kids ∧ (kidsV t).isSl 4 = true := by
  unfold kidsV Tm.kids
  split <;> exact ⟨rfl, rfl⟩
theorem c_within (t : Tm) : AC Try.prog 84 [aT t] [] (.tup [(false, [.a (.fz (kidsV t))]), (false, [.a (.fz (.int .i64 t.by))])]) [] := by
  obtain ⟨k, s, n, l⟩ := t
  refine AC.vc hP sh lv84 (Nat.le_refl _) (by simp) (by simp) (Eq.mpr (v84 k s n (FTs l) _ _) ?_)
  refine br_of (fun h => ⟨?_, rfl⟩) (fun h => br_of (fun h2 => ⟨?_, rfl⟩) (fun h2 => ⟨?_, rfl⟩))
  · have e1 : kidsV (.mk k s n l) = .sl false 4 (FTs l) := by unfold kidsV Tm.inner; simp only [Tm.k, h, Bool.true_or, if_true, Tm.l]
    have e2 : Tm.by (.mk k s n l) = 1 := by unfold Tm.by; simp only [Tm.k, h, if_true]
    rw [e1, e2]; exact .refl _
  · have e1 : kidsV (.mk k s n l) = .sl false 4 (FTs l) := by unfold kidsV Tm.inner; simp only [Tm.k, h2, Bool.or_true, if_true, Tm.l]
    have e2 : Tm.by (.mk k s n l) = 0 := by unfold Tm.by; simp only [Tm.k, h, Bool.false_eq_true, if_false]
    rw [e1, e2]; exact .refl _
  · have e1 : kidsV (.mk k s n l) = .nils := by unfold kidsV Tm.inner; simp only [Tm.k, h, h2, Bool.or_self, Bool.false_eq_true, if_false]
    have e2 : Tm.by (.mk k s n l) = 0 := by unfold Tm.by; simp only [Tm.k, h, Bool.false_eq_true, if_false]
    rw [e1, e2]; exact .refl _
mutual
def sizeF : Tm → Nat
  | .mk k _ _ l => 1 + if (k == 5 || k == 6) = true then sizeL l else 0
def sizeL : List Tm → Nat
  | [] => 0
  | t :: l => sizeF t + sizeL l
end
theorem sizeF_eq (t : Tm) : sizeF t = 1 + sizeL t.kids := by
  obtain ⟨k, s, n, l⟩ := t
  by_cases h : (k == 5 || k == 6) = true
  · rw [show Tm.kids (.mk k s n l) = l from if_pos h, sizeF, if_pos h]
  · rw [show Tm.kids (.mk k s n l) = [] from if_neg h, sizeF, if_neg h]; rfl
mutual
theorem sizeF_le : ∀ t : Tm, sizeF t ≤ t.sz
  | .mk k s n l => by have := sizeL_le l; simp only [sizeF, Tm.sz]; split <;> omega
theorem sizeL_le : ∀ l : List Tm, sizeL l ≤ Tm.szs l
  | [] => Nat.le_refl _
  | t :: l => by have := sizeF_le t; have := sizeL_le l; simp only [sizeL, Tm.szs]; omega
end
theorem l_size : ∀ (b a : List Tm) (v : FV) (acc : Nat), v.ses = FTs (a ++ b) → v.isSl 4 = true → (∀ u ∈ b, AC Try.prog 123 [aT u] [] (ci (sizeF u)) []) → (a ++ b).length ≤ B → acc + sizeL b ≤ 2 * B →
    RPt Try.prog 123 0 (ci ((acc + sizeL b : Nat) : Int)) [] 1 ⟨[(3, ci acc), (13, .c (.a (.fz v))), (14, ci (a ++ b).length), (15, ci a.length)], [], 0⟩
  | [], a, v, acc, hv, hs, _, hl, ha => by
    refine RPt.vc hP sh lv123 (Eq.mpr (v123_1a ..) ?_)
    exact br_of (fun h => absurd (of_decide_eq_true h) (by simp)) (fun _ => ret_i (by simp [sizeL]))
  | t :: b, a, v, acc, hv, hs, ih, hl, ha => by
    refine RPt.vc hP sh lv123 (Eq.mpr (v123_1a ..) ?_)
    have hl' := hl
    simp only [List.length_append, List.length_cons, B] at hl'
    simp only [sizeL, B] at ha
    have h1 := ih t List.mem_cons_self
    have h2 := l_size b (a ++ [t]) v (acc + sizeF t) (by rw [ap]; exact hv) hs (fun u hu => ih u (List.mem_cons_of_mem _ hu)) (by rw [ap]; exact hl) (by simp only [B]; omega)
    have h3 := ltI' a t b
    rw [ap, nx] at h2
    rw [hv, midI, w64 (x := (a.length : Int) + 1) (by omega) (by omega)]
    refine br_of (fun _ => ?_) (fun h => absurd (ltI a t b) (of_decide_eq_false h))
    rw [show acc + sizeL (t :: b) = acc + sizeF t + sizeL b by simp only [sizeL]; omega]
    obtain ⟨k', s', n', l'⟩ := t
    refine ⟨⟨hs, by omega, h3, rfl⟩, _, h1, ?_⟩
    rw [w64 (by omega) (by omega), show (acc : Int) + ((sizeF (.mk k' s' n' l') : Nat) : Int) = ((acc + sizeF (.mk k' s' n' l') : Nat) : Int) by omega]
    exact h2
theorem c_size : ∀ t : Tm, t.sz ≤ B → AC Try.prog 123 [aT t] [] (ci (sizeF t)) [] := by
  refine Tm.ind fun t ih hs => ?_
  have hw := c_within t
  have hk := kidsV_ses t
  have hsz := sizeF_eq t
  have hle := sizeF_le t
  have hkl : t.kids.length ≤ B ∧ (∀ u ∈ t.kids, u ∈ t.l) := by
    have := Tm.szs_length t.l
    rw [Tm.sz_eq] at hs
    unfold Tm.kids
    split
    · exact ⟨by simp only [B] at *; omega, fun u hu => hu⟩
    · exact ⟨by simp [B], fun u hu => by simp at hu⟩
  have key := l_size t.kids [] (kidsV t) 1 (by simpa using hk.1) hk.2 (fun u hu => ih u (hkl.2 u hu) (by have := Tm.szs_mem (hkl.2 u hu); rw [Tm.sz_eq] at hs; simp only [B] at *; omega)) (by simpa using hkl.1) (by simp only [B] at *; omega)
  refine AC.vc hP sh lv123 (Nat.le_refl _) (by simp) (by simp) (Eq.mpr (v123 ..) ?_)
  refine ⟨_, _, hw, hk.2, ?_⟩
  rw [hk.1, hsz, lenI]
  simpa using key

/-! ### How loose -/
mutual
/-- Numbers of what is bound, up to M. -/
def bd (M : Int) : Tm → Prop
  | .mk k _ n l => (k = 3 → 0 - M ≤ n ∧ n ≤ M) ∧ bds M l
def bds (M : Int) : List Tm → Prop
  | [] => True
  | t :: l => bd M t ∧ bds M l
end
theorem bds_mem {M : Int} : ∀ {l : List Tm} {t : Tm}, bds M l → t ∈ l → bd M t
  | x :: l, t, h, ht => by
    rcases List.mem_cons.1 ht with rfl | ht
    · exact h.1
    · exact bds_mem h.2 ht
theorem bd_l {M : Int} {t : Tm} (h : bd M t) : bds M t.l := by cases t; exact h.2
def maxI (a b : Int) : Int := if a ≤ b then b else a
theorem foldMax2 (a b : Int) : foldMax [a, b] = maxI a b := by
  simp only [foldMax, List.foldl, maxI, max, maxOfLe]
mutual
def looseF : Tm → Int → Int → Int
  | .mk kd _ n l, k, acc => if (kd == 5) = true then looseL l (k + 1) acc else if (kd == 6) = true then looseL l k acc else if (kd == 3) = true then maxI acc (n - k + 1) else acc
def looseL : List Tm → Int → Int → Int
  | [], _, acc => acc
  | t :: l, k, acc => looseL l k (looseF t k acc)
end
abbrev obj1 (n : Int) : AObj := .arr 1 [[.a (.fz (.int .i64 n))]]
theorem c_loose1 (u : Tm) (k acc : Int) (hb : u.k = 3 → 0 - 2305843009213693952 ≤ u.n ∧ u.n ≤ 2305843009213693952) (h0 : 0 ≤ k) (h1 : k ≤ 2305843009213693952) :
    AC Try.prog 95 [aT u, ci k, .c (.a (.ep 0 1 0 0))] [obj1 acc] (.tup []) [obj1 (if (u.k == 3) = true then maxI acc (u.n - k + 1) else acc)] := by
  obtain ⟨kd, s, n, l⟩ := u
  simp only [Tm.k, Tm.n] at hb
  refine AC.vc hP sh lv95 (Nat.le_refl _) (by simp [isLive]) (by simp) (Eq.mpr (v95 kd s n (FTs l) k acc _ _) ?_)
  refine br_of (fun h => ⟨.refl _, ?_⟩) (fun h => ⟨.refl _, ?_⟩)
  · have hk : kd = 3 := by simpa using h
    have := hb hk
    rw [w64 (x := n - k) (by omega) (by omega), w64 (x := n - k + 1) (by omega) (by omega), foldMax2]
    simp only [Tm.k, Tm.n, h, if_true]
  · simp only [Tm.k, h, Bool.false_eq_true, if_false]
abbrev tellL : TV := .c (.fn (.func 95) [] [(false, [.ep 0 1 0 0])])
theorem l_each (k by_ : Int) (h0 : 0 ≤ k) (hby : 0 ≤ by_) (hby1 : by_ ≤ 1) : ∀ (b a : List Tm) (v : FV) (acc : Int), v.ses = FTs (a ++ b) → v.isSl 4 = true →
    (∀ u ∈ b, ∀ acc, AC Try.prog 58 [aT u, ci (k + by_), tellL] [obj1 acc] (.tup []) [obj1 (looseF u (k + by_) acc)]) → (a ++ b).length ≤ B → k ≤ 2305843009213693952 →
    RPt Try.prog 58 1 (.tup []) [obj1 (looseL b (k + by_) acc)] 1 ⟨[(1, ci k), (2, tellL), (7, ci by_), (27, .c (.a (.fz v))), (28, ci (a ++ b).length), (29, ci a.length)], [(0, obj1 acc)], 1⟩
  | [], a, v, acc, hv, hs, _, hl, hk => by
    refine RPt.vc hP sh lv58 (Eq.mpr (v58_F95_1a ..) ?_)
    exact br_of (fun h => absurd (of_decide_eq_true h) (by simp)) (fun _ => ⟨.refl _, rfl⟩)
  | t :: b, a, v, acc, hv, hs, ih, hl, hk => by
    refine RPt.vc hP sh lv58 (Eq.mpr (v58_F95_1a ..) ?_)
    have hl' := hl
    simp only [List.length_append, List.length_cons, B] at hl'
    have h1 := ih t List.mem_cons_self acc
    have h2 := l_each k by_ h0 hby hby1 b (a ++ [t]) v (looseF t (k + by_) acc) (by rw [ap]; exact hv) hs (fun u hu => ih u (List.mem_cons_of_mem _ hu)) (by rw [ap]; exact hl) hk
    have h3 := ltI' a t b
    rw [ap, nx] at h2
    rw [hv, midI, w64 (x := (a.length : Int) + 1) (by omega) (by omega), w64 (x := k + by_) (by omega) (by omega)]
    refine br_of (fun _ => ?_) (fun h => absurd (ltI a t b) (of_decide_eq_false h))
    obtain ⟨k', s', n', l'⟩ := t
    exact ⟨⟨hs, by omega, h3, rfl⟩, .inl ⟨_, h1, h2⟩⟩
theorem c_each : ∀ t : Tm, t.sz ≤ B → bd 2305843009213693952 t → ∀ k acc : Int, 0 ≤ k → k + t.sz ≤ 2305843009213693952 → AC Try.prog 58 [aT t, ci k, tellL] [obj1 acc] (.tup []) [obj1 (looseF t k acc)] := by
  refine Tm.ind fun t ih hs hb k acc h0 h1 => ?_
  have hw := c_within t
  have hk := kidsV_ses t
  have hlen := Tm.szs_length t.l
  obtain ⟨kd, s, n, l⟩ := t
  simp only [Tm.sz, B, Tm.l] at hs hlen
  simp only [Tm.sz] at h1
  have key : ∀ by_ : Int, 0 ≤ by_ → by_ ≤ 1 → Tm.kids (.mk kd s n l) = l → RPt Try.prog 58 1 (.tup []) [obj1 (looseL l (k + by_) acc)] 1 ⟨[(1, ci k), (2, tellL), (7, ci by_), (27, .c (.a (.fz (kidsV (.mk kd s n l))))), (28, ci l.length), (29, ci 0)], [(0, obj1 acc)], 1⟩ := by
    intro by_ hb0 hb1 hkids
    have := l_each k by_ h0 hb0 hb1 l [] (kidsV (.mk kd s n l)) acc (by rw [hk.1, hkids]; rfl) hk.2 (fun u hu acc => ih u hu (by have := Tm.szs_mem hu; simp only [B]; omega) (bds_mem hb.2 hu) (k + by_) acc (by omega) (by have := Tm.szs_mem hu; omega)) (by simp only [List.nil_append, B]; omega) (by omega)
    simpa using this
  refine AC.vc hP sh lv58 (Nat.le_refl _) (by simp [isLive]) (by simp) (Eq.mpr (v58_F95 kd s n (FTs l) k acc _ _) ?_)
  refine br_of (fun h => br_of (fun h2 => ⟨_, c_loose1 (.mk kd s n l) k acc hb.1 h0 (by omega), .refl _, ?_⟩) (fun h2 => ⟨_, _, hw, hk.2, ?_⟩)) (fun h => ⟨_, _, hw, hk.2, ?_⟩)
  · have e1 : (kd == 5) = false := by simpa using h
    have e2 : (kd == 6) = false := by simpa using h2
    simp only [looseF, Tm.k, Tm.n, e1, e2, Bool.false_eq_true, if_false]
    rfl
  · have e1 : (kd == 5) = false := by simpa using h
    have e2 : (kd == 6) = true := by simpa using h2
    have ek : Tm.kids (.mk kd s n l) = l := by unfold Tm.kids Tm.inner; simp only [Tm.k, e2, Bool.or_true, if_true, Tm.l]
    have := key 0 (by omega) (by omega) ek
    rw [hk.1, ek, lenI, show Tm.by (.mk kd s n l) = 0 by unfold Tm.by; simp only [Tm.k, e1, Bool.false_eq_true, if_false]]
    simp only [looseF, e1, e2, Bool.false_eq_true, if_false, if_true]
    simpa using this
  · have e1 : (kd == 5) = true := by simpa using h
    have ek : Tm.kids (.mk kd s n l) = l := by unfold Tm.kids Tm.inner; simp only [Tm.k, e1, Bool.true_or, if_true, Tm.l]
    have := key 1 (by omega) (by omega) ek
    rw [hk.1, ek, lenI, show Tm.by (.mk kd s n l) = 1 by unfold Tm.by; simp only [Tm.k, e1, if_true]]
    simp only [looseF, e1, if_true]
    exact this
theorem c_loose (t : Tm) (hs : t.sz ≤ B) (hb : bd 2305843009213693952 t) : AC Try.prog 76 [aT t] [] (ci (looseF t 0 0)) [] := by
  have h := c_each t hs hb 0 0 (Int.le_refl _) (by simp only [B] at hs; omega)
  refine AC.vc hP sh lv76 (Nat.le_refl _) (by simp) (by simp) (Eq.mpr (v76 ..) ?_)
  exact .inl ⟨_, h, ret_i rfl⟩

end Go.AM

set_option maxRecDepth 100000
open Go Go.Proofs
namespace Go.AM

/-! ### Rows put together -/
theorem c_grow (n : Int) (h0 : 0 ≤ n) (h1 : n ≤ 2199023255552) : (n = 0 → AC Try.prog 83 [.c (.a (.fz .nils)), ci n] [] (.c (.a (.fz .nils))) []) ∧
    (n ≠ 0 → AC Try.prog 83 [.c (.a (.fz .nils)), ci n] [] (.c (.a (.osl 0 4 0 0))) [.arz 4 []]) := by
  constructor
  · intro hn
    refine AC.vc hP sh lv83 (Nat.le_refl _) (by simp) (by simp) (Eq.mpr (v83 ..) ?_)
    refine br_of (fun h => absurd (of_decide_eq_true h) (by omega)) (fun _ => ⟨rfl, br_of (fun h => ?_) (fun _ => ret_r (.refl _))⟩)
    rw [w64 (by omega) (by omega)] at h
    exact absurd (of_decide_eq_true h) (by omega)
  · intro hn
    refine AC.vc hP sh lv83 (by simp) (by simp) (by simp [isLive]) (Eq.mpr (v83 ..) ?_)
    rw [w64 (by omega) (by omega)]
    refine br_of (fun h => absurd (of_decide_eq_true h) (by omega)) (fun _ => ⟨rfl, br_of (fun h => ⟨rfl, ⟨by omega, by omega, by omega⟩, ⟨by omega, by unfold roomB; omega⟩, rfl, ⟨by omega, by omega, by omega⟩, .refl _, rfl⟩) (fun h => absurd (of_decide_eq_false h) (by omega))⟩)
/-- Rows of rows. -/
def FLs (ls : List (List Tm)) : List (List FV) := ls.map fun l => [.sl false 4 (FTs l)]
def total (ls : List (List Tm)) : Nat := (ls.map List.length).foldr (· + ·) 0
theorem FLs_length (ls : List (List Tm)) : (FLs ls).length = ls.length := by simp [FLs]
theorem midL (a : List (List Tm)) (l : List Tm) (b : List (List Tm)) : List.getD (FLs (a ++ l :: b)) (Int.toNat (a.length : Int)) [] = [.sl false 4 (FTs l)] := by
  rw [show Int.toNat (a.length : Int) = a.length by omega]
  simp [List.getD, FLs]
theorem ltL (a : List (List Tm)) (t : List Tm) (b : List (List Tm)) : (a.length : Int) < (((FLs (a ++ t :: b)).length : Nat) : Int) := by rw [FLs_length]; exact ltI a t b
theorem total_mid (a : List (List Tm)) (l : List Tm) (b : List (List Tm)) : total (a ++ l :: b) = total a + l.length + total b := by
  induction a with
  | nil => simp [total]
  | cons x a ih => simp only [total, List.cons_append, List.map_cons, List.foldr_cons] at ih ⊢; omega
theorem total_snoc (a : List (List Tm)) (l : List Tm) : total (a ++ [l]) = total a + l.length := by rw [total_mid]; simp [total]
abbrev aLs (ls : List (List Tm)) : TV := .c (.a (.fz (.sl false 1 (FLs ls))))
theorem roomI {n : Nat} (h : n ≤ 2199023255552) : roomB n 56 := by unfold roomB; omega
theorem l_cat3 : ∀ (b a : List (List Tm)) (acc : List Tm), acc.length + total b ≤ 2199023255552 → (a ++ b).length ≤ B →
    RPt Try.prog 57 0 (aL (acc ++ b.flatten)) [] 5 ⟨[(6, (.c (.a (.osl 0 4 0 acc.length)))), (25, aLs (a ++ b)), (26, ci (a ++ b).length), (27, ci a.length)], [(0, (.arz 4 (FTs acc)))], 1⟩
  | [], a, acc, ht, hl => by
    refine RPt.vc hP sh lv57 (Eq.mpr (v57_5b ..) ?_)
    refine br_of (fun h => absurd (of_decide_eq_true h) (by simp)) (fun _ => ⟨⟨rfl, by rw [FTs_length]; omega⟩, ret_r ?_⟩)
    rw [List.drop_zero, List.take_of_length_le (by rw [FTs_length]; omega), List.flatten_nil, List.append_nil]
    exact le_c leSl
  | l :: b, a, acc, ht, hl => by
    refine RPt.vc hP sh lv57 (Eq.mpr (v57_5b ..) ?_)
    have hl' := hl
    have h3 := ltL a l b
    simp only [List.length_append, List.length_cons, B] at hl'
    have ht' : acc.length + (l.length + total b) ≤ 2199023255552 := by simpa [total] using ht
    have h2 := l_cat3 b (a ++ [l]) (acc ++ l) (by rw [List.length_append]; omega) (by rw [ap]; exact hl)
    rw [ap, nx] at h2
    rw [midL, w64 (by omega) (by omega)]
    refine br_of (fun _ => ⟨⟨rfl, by omega, h3, rfl⟩, rfl, ⟨by rw [FTs_length]; omega, ?_⟩, ?_⟩) (fun h => absurd (ltI a l b) (of_decide_eq_false h))
    · show roomB (acc.length + (FTs l).length) 56
      rw [FTs_length]; exact roomI (by omega)
    · show RPt _ _ _ _ _ _ ⟨[(6, (.c (.a (.osl 0 4 0 (acc.length + (FTs l).length))))), _, _, _], [(0, .arz 4 (List.take acc.length (FTs acc) ++ FTs l))], 1⟩
      rw [List.take_of_length_le (by rw [FTs_length]; omega), ← FTs_append, FTs_length, ← List.length_append]
      rw [show acc ++ (l :: b).flatten = acc ++ l ++ b.flatten by simp]
      exact h2
theorem l_cat2 : ∀ (b a : List (List Tm)), total b ≤ 2199023255552 → (a ++ b).length ≤ B →
    RPt Try.prog 57 0 (aL b.flatten) [] 5 ⟨[(6, (.c (.a (.fz .nils)))), (25, aLs (a ++ b)), (26, ci (a ++ b).length), (27, ci a.length)], [], 0⟩
  | [], a, ht, hl => by
    refine RPt.vc hP sh lv57 (Eq.mpr (v57_5a ..) ?_)
    refine br_of (fun h => absurd (of_decide_eq_true h) (by simp)) (fun _ => ret_r (le_c leNil))
  | l :: b, a, ht, hl => by
    refine RPt.vc hP sh lv57 (Eq.mpr (v57_5a ..) ?_)
    have hl' := hl
    have h3 := ltL a l b
    simp only [List.length_append, List.length_cons, B] at hl'
    have ht' : l.length + total b ≤ 2199023255552 := by simpa [total] using ht
    rw [midL, w64 (by omega) (by omega)]
    refine br_of (fun _ => ⟨⟨rfl, by omega, h3, rfl⟩, rfl, ?_⟩) (fun h => absurd (ltI a l b) (of_decide_eq_false h))
    show br (List.isEmpty (FTs l)) _ _
    refine br_of (fun he => ?_) (fun he => ⟨?_, ?_⟩)
    · have h2 := l_cat2 b (a ++ [l]) (by omega) (by rw [ap]; exact hl)
      rw [ap, nx] at h2
      have hnil : l = [] := by cases l with
        | nil => rfl
        | cons x l => simp [FTs] at he
      rw [show (l :: b).flatten = b.flatten by rw [hnil]; simp]
      exact h2
    · show roomB (FTs l).length 56
      rw [FTs_length]; exact roomI (by omega)
    · have h2 := l_cat3 b (a ++ [l]) l (by omega) (by rw [ap]; exact hl)
      rw [ap, nx] at h2
      show RPt _ _ _ _ _ _ ⟨[(6, (.c (.a (.osl 0 4 0 (FTs l).length)))), _, _, _], [(0, .arz 4 (FTs l))], 1⟩
      rw [FTs_length, List.flatten_cons]
      exact h2
theorem l_cat1 : ∀ (b a : List (List Tm)), total (a ++ b) ≤ 2199023255552 → (a ++ b).length ≤ B →
    RPt Try.prog 57 0 (aL (a ++ b).flatten) [] 1 ⟨[(0, aLs (a ++ b)), (3, ci (total a)), (9, aLs (a ++ b)), (10, ci (a ++ b).length), (11, ci a.length)], [], 0⟩
  | [], a, ht, hl => by
    refine RPt.vc hP sh lv57 (Eq.mpr (v57_1a ..) ?_)
    have hg := c_grow (total a : Int) (by omega) (by simp only [List.append_nil] at ht; omega)
    refine br_of (fun h => absurd (of_decide_eq_true h) (by simp)) (fun _ => ?_)
    have e : (((FLs (a ++ [])).length : Nat) : Int) = (((a ++ []).length : Nat) : Int) := by rw [FLs_length]
    rw [e]
    by_cases hz : total a = 0
    · have h2 := l_cat2 (a ++ []) [] (by simpa using ht) (by simpa using hl)
      exact .inl ⟨(), hg.1 (by omega), rfl, by simpa using h2⟩
    · have h2 := l_cat3 (a ++ []) [] [] (by simpa using ht) (by simpa using hl)
      exact .inr ⟨(), hg.2 (by omega), rfl, by simpa [FTs] using h2⟩
  | l :: b, a, ht, hl => by
    refine RPt.vc hP sh lv57 (Eq.mpr (v57_1a ..) ?_)
    have hl' := hl
    have ht' := ht
    have h3 := ltL a l b
    rw [total_mid] at ht'
    simp only [List.length_append, List.length_cons, B] at hl'
    have h2 := l_cat1 b (a ++ [l]) (by rw [ap]; exact ht) (by rw [ap]; exact hl)
    rw [ap, nx, total_snoc] at h2
    rw [midL, w64 (x := (a.length : Int) + 1) (by omega) (by omega)]
    refine br_of (fun _ => ⟨⟨rfl, by omega, h3, rfl⟩, rfl, ?_⟩) (fun h => absurd (ltI a l b) (of_decide_eq_false h))
    show br (decide (IntKind.wrap .i64 ((total a : Int) + (((FTs l).length : Nat) : Int)) < 0)) _ (RPt _ _ _ _ _ _ ⟨[_, (3, ci (IntKind.wrap .i64 ((total a : Int) + (((FTs l).length : Nat) : Int)))), _, _, _], _, _⟩)
    rw [FTs_length, w64 (by omega) (by omega)]
    refine br_of (fun h => absurd (of_decide_eq_true h) (by omega)) (fun _ => ?_)
    simpa using h2
theorem c_concat (ls : List (List Tm)) (ht : total ls ≤ 2199023255552) (hl : ls.length ≤ B) : AC Try.prog 57 [aLs ls] [] (aL ls.flatten) [] := by
  refine AC.vc hP sh lv57 (Nat.le_refl _) (by simp) (by simp) (Eq.mpr (v57 ..) ?_)
  have := l_cat1 ls [] (by simpa using ht) (by simpa using hl)
  have e : (((FLs ls).length : Nat) : Int) = ((ls.length : Nat) : Int) := by rw [FLs_length]
  rw [e]
  exact ⟨rfl, by simpa [total] using this⟩
/-- Two rows, each as it may come. -/
theorem c_concat2 {x y : FV} {l m : List Tm} (hx : FV.Le x (.sl false 4 (FTs l))) (hy : FV.Le y (.sl false 4 (FTs m))) (ht : l.length + m.length ≤ 2199023255552) : AC Try.prog 57 [.c (.a (.fz (.sl false 1 [[x], [y]])))] [] (aL (l ++ m)) [] := by
  have h := c_concat [l, m] (by simpa [total] using ht) (by simp [B])
  rw [show [l, m].flatten = l ++ m by simp] at h
  refine h.args ⟨le_c (.trans _ _ _ (.rows false 1 _ (FLs [l, m]) rfl (fun i e e' he he' => ?_) (fun i j e e' f f' he he' hf hf' => ?_)) (.nn _ _ _)), trivial⟩
  · match i, he, he' with
    | 0, he, he' => simp [FLs] at he he'; subst he; subst he'; rfl
    | 1, he, he' => simp [FLs] at he he'; subst he; subst he'; rfl
    | i + 2, he, he' => simp at he
  · match i, he, he' with
    | 0, he, he' =>
      simp [FLs] at he he'; subst he; subst he'
      match j, hf, hf' with
      | 0, hf, hf' => simp at hf hf'; subst hf; subst hf'; exact hx
      | j + 1, hf, hf' => simp at hf
    | 1, he, he' =>
      simp [FLs] at he he'; subst he; subst he'
      match j, hf, hf' with
      | 0, hf, hf' => simp at hf hf'; subst hf; subst hf'; exact hy
      | j + 1, hf, hf' => simp at hf
    | i + 2, he, he' => simp at he
/-- Applied. -/
def applyF (f : Tm) (args : List Tm) : Tm :=
  match args with
  | [] => f
  | _ => if (f.k == 6) = true ∧ f.l ≠ [] then .mk 6 [] 0 (f.l ++ args) else .mk 6 [] 0 (f :: args)
theorem c_apply (f : Tm) (args : List Tm) (h : f.l.length + args.length < 2199023255552) : AC Try.prog 32 [aT f, aL args] [] (aT (applyF f args)) [] := by
  obtain ⟨k, s, n, l⟩ := f
  simp only [Tm.l] at h
  refine AC.vc hP sh lv32 (Nat.le_refl _) (by simp) (by simp) (Eq.mpr (v32 k s n (FTs l) (FTs args) _ _) ?_)
  refine ⟨rfl, br_of (fun h1 => ?_) (fun h1 => ?_)⟩
  · have : args = [] := by cases args with
      | nil => rfl
      | cons x l => simp [FTs] at h1; omega
    subst this
    exact ret_r (.refl _)
  · match args, h1, h with
    | [], h1, _ => simp [FTs] at h1
    | a :: r, h1, h =>
      have one : FV.Le (.sl false 4 [[.int .i64 k, .str s, .int .i64 n, .sl false 4 (FTs l)]]) (.sl false 4 (FTs [.mk k s n l])) := .nn _ _ _
      have same : ∀ l : List Tm, FV.Le (.sl false 4 (FTs l)) (.sl false 4 (FTs l)) := fun _ => .refl _
      refine br_of (fun h2 => ⟨rfl, br_of (fun h3 => ⟨⟨rfl, by omega⟩, _, c_concat2 (same l) (same (a :: r)) (by omega), ret_r ?_⟩) (fun h3 => ⟨⟨rfl, by omega⟩, ⟨rfl, by omega⟩, _, c_concat2 one (same (a :: r)) (by simp only [List.length_cons, List.length_nil] at h ⊢; omega), ret_r ?_⟩)⟩)
        (fun h2 => ⟨⟨rfl, by omega⟩, ⟨rfl, by omega⟩, _, c_concat2 one (same (a :: r)) (by simp only [List.length_cons, List.length_nil] at h ⊢; omega), ret_r ?_⟩)
      · have hl : l ≠ [] := by intro e; subst e; simp [FTs] at h3
        rw [show applyF (.mk k s n l) (a :: r) = .mk 6 [] 0 (l ++ a :: r) from if_pos ⟨h2, hl⟩]
        exact .refl _
      · have hl : l = [] := by cases l with
          | nil => rfl
          | cons x l => simp [FTs] at h3
        rw [show applyF (.mk k s n l) (a :: r) = .mk 6 [] 0 (.mk k s n l :: a :: r) from if_neg (fun e => e.2 hl)]
        exact .refl _
      · rw [show applyF (.mk k s n l) (a :: r) = .mk 6 [] 0 (.mk k s n l :: a :: r) from if_neg (fun e => by have := e.1; simp only [Tm.k, h2] at this; cases this)]
        exact .refl _

end Go.AM

set_option maxRecDepth 100000
open Go Go.Proofs
namespace Go.AM


/-! ### Through a term -/
def withF (t : Tm) (out : List Tm) : Tm :=
  if (t.k == 6) = true ∧ 1 < out.length ∧ ((out.headD default).k == 6) = true ∧ ((t.l.headD default).k != 6) = true then applyF (out.headD default) out.tail else .mk t.k t.s t.n out
mutual
def walkF (lf : Tm → Int → Tm) : Tm → Int → Tm
  | .mk k s n l, d => if (k == 5 || k == 6) = true then withF (.mk k s n l) (walkL lf l (d + if (k == 5) = true then 1 else 0)) else lf (.mk k s n l) d
def walkL (lf : Tm → Int → Tm) : List Tm → Int → List Tm
  | [], _ => []
  | t :: l, d => walkF lf t d :: walkL lf l d
end


/-! walk.term for Sh -/
abbrev cloSh : TV := .agg [.fn (.func 119) [] [(false, [.ep 0 1 0 0]), (false, [.ep 1 1 0 0])]]
abbrev stSh (fr by1 : Int) (k by_ : Int) (kd : Int) (s : List UInt8) (n : Int) (l : List Tm) (w : AV) (i : Nat) (h : AHeap) (nx : Nat) : St :=
  ⟨[(2, ci k), (3, .c (.a (.ep 2 1 0 0))), (4, .c (.a (.ep 3 4 0 0))), (6, .c (.a (.ep 4 4 0 0))), (7, aL l), (8, ci by_), (9, .c (.a w)), (30, aL l), (31, ci l.length), (32, ci i)],
   [(0, (obj1 fr)), (1, (obj1 by1)), (2, .arr 1 [[.fn (.func 119) [] [(false, [.ep 0 1 0 0]), (false, [.ep 1 1 0 0])]]]), (3, .arr 4 [fzs (FT (.mk kd s n l))]), (4, .arr 4 [[.a (.fz (.int .i64 0)), .a (.fz (.str [])), .a (.fz (.int .i64 0)), .a (.fz .nils)]])] ++ h, nx⟩
theorem l_w2Sh (fr by1 : Int) (lf : Tm → Int → Tm) (k by_ : Int) (h0 : 0 ≤ k) (hk : k ≤ 2305843009213693952) (hb0 : 0 ≤ by_) (hb1 : by_ ≤ 1) (kd : Int) (s : List UInt8) (n : Int) (hin : (kd == 5 || kd == 6) = true) :
    ∀ (b a acc : List Tm), acc ≠ [] → acc.length = a.length → (a ++ b).length ≤ B → (∀ u ∈ acc ++ walkL lf b (k + by_), u.l.length ≤ 2 * B) →
    (∀ u ∈ b, AC Try.prog 121 [cloSh, aT u, ci (k + by_)] [(obj1 fr), (obj1 by1)] (aT (walkF lf u (k + by_))) [(obj1 fr), (obj1 by1)]) →
    RPt Try.prog 121 2 (aT (withF (.mk kd s n (a ++ b)) (acc ++ walkL lf b (k + by_)))) [(obj1 fr), (obj1 by1)] 1 (stSh fr by1 k by_ kd s n (a ++ b) (.osl 5 4 0 acc.length) a.length [(5, .arz 4 (FTs acc))] 6)
  | [], a, acc, hne, hlen, hl, hw, _ => by
    refine RPt.vc hP sh lv121 (Eq.mpr (v121_F119_1b ..) ?_)
    match acc, a, hne, hlen with
    | o :: r, u :: a', _, hlen =>
    have e1 : List.take (o :: r).length (List.drop 0 (FTs (o :: r))) = FTs (o :: r) := by rw [List.drop_zero, List.take_of_length_le (by rw [FTs_length]; omega)]
    have e2 : (0 : Nat) + (o :: r).length ≤ (FTs (o :: r)).length := by rw [FTs_length]; omega
    have hrest : ∀ (k' : Int) (s' : List UInt8) (n' : Int), TV.Le (.agg [.a (.fz (.int .i64 k')), .a (.fz (.str s')), .a (.fz (.int .i64 n')), .a (.fz (.sl false 4 (List.take (o :: r).length (List.drop 0 (FTs (o :: r))))))]) (aT (.mk k' s' n' (o :: r))) := fun k' s' n' => by rw [e1]; exact leT leSl
    refine br_of (fun h => absurd (of_decide_eq_true h) (by simp)) (fun _ => br_of (fun h6 => br_of (fun h1 => ⟨⟨by omega, by simp⟩, ⟨by rw [FTs_length]; simp, by cases o; rfl, rfl⟩, br_of (fun ho => ⟨⟨rfl, by omega, by rw [List.append_nil]; show (0 : Int) < (((FTs (u :: a')).length : Nat) : Int); rw [FTs_length]; simp, by cases u; rfl⟩, br_of (fun hu => ?_) (fun hu => ⟨⟨rfl, e2⟩, ?_, rfl⟩)⟩) (fun ho => ⟨⟨rfl, e2⟩, ?_, rfl⟩)⟩) (fun h1 => ⟨⟨rfl, e2⟩, ?_, rfl⟩)) (fun h6 => ⟨⟨rfl, e2⟩, ?_, rfl⟩))
    · -- flat
      have hap := c_apply o r (by
        have := hw o (by simp)
        simp only [List.length_cons, List.length_append, List.length_nil, B] at hl hlen this ⊢; omega)
      have e3 : withF (.mk kd s n (u :: a' ++ [])) (o :: r ++ walkL lf [] (k + by_)) = applyF o r := by
        have c1 : 1 < (o :: r ++ walkL lf [] (k + by_)).length := by have := of_decide_eq_true h1; simp only [walkL, List.append_nil]; omega
        have c2 : (o.k == 6) = true := by cases o; exact ho
        have c3 : (u.k != 6) = true := by cases u; exact hu
        unfold withF
        rw [if_pos ⟨h6, c1, c2, c3⟩]
        simp [walkL]
      have e4 : List.take (Int.toNat ((o :: r).length : Int) - 1) (List.drop 1 (FTs (o :: r))) = FTs r := by
        rw [show Int.toNat ((o :: r).length : Int) - 1 = r.length by simp only [List.length_cons]; omega]
        show List.take r.length (FTs r) = FTs r
        rw [List.take_of_length_le (by rw [FTs_length]; omega)]
      have e5 : (1 : Nat) + (Int.toNat ((o :: r).length : Int) - 1) ≤ (FTs (o :: r)).length := by rw [FTs_length]; simp only [List.length_cons]; omega
      rw [e3]
      refine ⟨⟨by omega, by simp⟩, ⟨by rw [FTs_length]; simp, by cases o; rfl, rfl⟩, ⟨by omega, by simp; omega, by omega⟩, ⟨rfl, e5⟩, ?_⟩
      rw [e4]
      obtain ⟨k1, s1, n1, l1⟩ := o
      exact ⟨_, hap.args ⟨.refl _, le_c leSl, trivial⟩, .refl _, rfl⟩
    · have e3 : withF (.mk kd s n (u :: a' ++ [])) (o :: r ++ walkL lf [] (k + by_)) = .mk kd s n (o :: r) := by
        simp only [walkL, List.append_nil]
        exact if_neg fun e => by
          have hu' : (u.k != 6) = false := by cases u; exact hu
          have : (u.k != 6) = true := e.2.2.2
          rw [hu'] at this; cases this
      rw [e3]; exact hrest _ _ _
    · have e3 : withF (.mk kd s n (u :: a' ++ [])) (o :: r ++ walkL lf [] (k + by_)) = .mk kd s n (o :: r) := by
        simp only [walkL, List.append_nil]
        exact if_neg fun e => by
          have ho' : (o.k == 6) = false := by cases o; exact ho
          have : (o.k == 6) = true := e.2.2.1
          rw [ho'] at this; cases this
      rw [e3]; exact hrest _ _ _
    · have e3 : withF (.mk kd s n (u :: a' ++ [])) (o :: r ++ walkL lf [] (k + by_)) = .mk kd s n (o :: r) := by
        simp only [walkL, List.append_nil]
        exact if_neg fun e => by have := e.2.1; have := of_decide_eq_false h1; omega
      rw [e3]; exact hrest _ _ _
    · have e3 : withF (.mk kd s n (u :: a' ++ [])) (o :: r ++ walkL lf [] (k + by_)) = .mk kd s n (o :: r) := by
        simp only [walkL, List.append_nil]
        exact if_neg fun e => by
          have h6' : (kd == 6) = false := h6
          have : (kd == 6) = true := e.1
          rw [h6'] at this; cases this
      rw [e3]; exact hrest _ _ _
  | t :: b, a, acc, hne, hlen, hl, hw, ih => by
    refine RPt.vc hP sh lv121 (Eq.mpr (v121_F119_1b ..) ?_)
    have hl' := hl
    simp only [List.length_append, List.length_cons, B] at hl'
    have h1 := ih t List.mem_cons_self
    have h2 := l_w2Sh fr by1 lf k by_ h0 hk hb0 hb1 kd s n hin b (a ++ [t]) (acc ++ [walkF lf t (k + by_)]) (by simp) (by simp [hlen]) (by rw [ap]; exact hl)
      (by rw [List.append_assoc]; simpa [walkL] using hw) (fun u hu => ih u (List.mem_cons_of_mem _ hu))
    have h3 := ltI' a t b
    unfold stSh at h2
    rw [ap, show (((a ++ [t]).length : Nat) : Int) = (a.length : Int) + 1 from nx a t] at h2
    show br (decide ((a.length : Int) < (((a ++ t :: b).length : Nat) : Int))) ((FV.isSl 4 (.sl false 4 (FTs (a ++ t :: b))) = true ∧ _ ∧ _ ∧ _) ∧ _) _
    refine br_of (fun _ => ?_) (fun h => absurd (ltI a t b) (of_decide_eq_false h))
    have hm := midI a t b
    rw [show FV.ses (.sl false 4 (FTs (a ++ t :: b))) = FTs (a ++ t :: b) from rfl, hm, w64 (x := (a.length : Int) + 1) (by omega) (by omega), w64 (x := k + by_) (by omega) (by omega)]
    obtain ⟨k', s', n', l'⟩ := t
    refine ⟨⟨rfl, by omega, h3, rfl⟩, _, h1, Nat.le_refl _, ⟨by rw [FTs_length]; omega, roomI (by omega)⟩, ?_⟩
    have e5 : List.take acc.length (FTs acc) ++ FTs [walkF lf (.mk k' s' n' l') (k + by_)] = FTs (acc ++ [walkF lf (.mk k' s' n' l') (k + by_)]) := by rw [List.take_of_length_le (by rw [FTs_length]; omega), ← FTs_append]
    have e6 : FTs [walkF lf (.mk k' s' n' l') (k + by_)] = [[.int .i64 (walkF lf (.mk k' s' n' l') (k + by_)).k, .str (walkF lf (.mk k' s' n' l') (k + by_)).s, .int .i64 (walkF lf (.mk k' s' n' l') (k + by_)).n, .sl false 4 (FTs (walkF lf (.mk k' s' n' l') (k + by_)).l)]] := by
      rw [FTs, FTs, FT_eta]
    rw [e6] at e5
    rw [e5]
    rw [show acc ++ walkL lf (.mk k' s' n' l' :: b) (k + by_) = acc ++ walkF lf (.mk k' s' n' l') (k + by_) :: walkL lf b (k + by_) by simp [walkL]]
    rw [show (acc ++ [walkF lf (.mk k' s' n' l') (k + by_)]).length = acc.length + 1 by simp, List.append_assoc] at h2
    exact h2
theorem l_w1Sh (fr by1 : Int) (lf : Tm → Int → Tm) (k by_ : Int) (h0 : 0 ≤ k) (hk : k ≤ 2305843009213693952) (hb0 : 0 ≤ by_) (hb1 : by_ ≤ 1) (kd : Int) (s : List UInt8) (n : Int) (hin : (kd == 5 || kd == 6) = true) :
    ∀ (b : List Tm), b.length ≤ B → (∀ u ∈ walkL lf b (k + by_), u.l.length ≤ 2 * B) →
    (∀ u ∈ b, AC Try.prog 121 [cloSh, aT u, ci (k + by_)] [(obj1 fr), (obj1 by1)] (aT (walkF lf u (k + by_))) [(obj1 fr), (obj1 by1)]) →
    RPt Try.prog 121 2 (aT (withF (.mk kd s n b) (walkL lf b (k + by_)))) [(obj1 fr), (obj1 by1)] 1 (stSh fr by1 k by_ kd s n b (.fz .nils) 0 [] 5)
  | [], hl, hw, _ => by
    refine RPt.vc hP sh lv121 (Eq.mpr (v121_F119_1a ..) ?_)
    have e : withF (.mk kd s n []) (walkL lf [] (k + by_)) = .mk kd s n [] := if_neg fun e => by have := e.2.1; simp [walkL] at this
    rw [e]
    exact br_of (fun h => absurd (of_decide_eq_true h) (by simp)) (fun _ => br_of (fun _ => ⟨rfl, leT leNil, rfl⟩) (fun _ => ⟨leT leNil, rfl⟩))
  | t :: b, hl, hw, ih => by
    refine RPt.vc hP sh lv121 (Eq.mpr (v121_F119_1a ..) ?_)
    have hl' := hl
    simp only [List.length_cons, B] at hl'
    have h1 := ih t List.mem_cons_self
    have h2 := l_w2Sh fr by1 lf k by_ h0 hk hb0 hb1 kd s n hin b [t] [walkF lf t (k + by_)] (by simp) rfl (by simpa using hl) (by simpa [walkL] using hw) (fun u hu => ih u (List.mem_cons_of_mem _ hu))
    show br (decide ((0 : Int) < (((t :: b).length : Nat) : Int))) ((FV.isSl 4 (.sl false 4 (FTs (t :: b))) = true ∧ _ ∧ _ ∧ _) ∧ _) _
    refine br_of (fun _ => ?_) (fun h => absurd (of_decide_eq_false h) (by simp))
    rw [show FV.ses (.sl false 4 (FTs (t :: b))) = FTs (t :: b) from rfl, show List.getD (FTs (t :: b)) (Int.toNat ((0 : Nat) : Int)) [] = FT t from rfl, w64 (x := k + by_) (by omega) (by omega), w64 (x := ((0 : Nat) : Int) + 1) (by omega) (by omega)]
    obtain ⟨k', s', n', l'⟩ := t
    have h3 : (0 : Int) < (((FTs (.mk k' s' n' l' :: b)).length : Nat) : Int) := by rw [FTs_length]; simp
    refine ⟨⟨rfl, by omega, h3, rfl⟩, _, h1, Nat.le_refl _, roomI (by omega), ?_⟩
    have e6 : FTs [walkF lf (.mk k' s' n' l') (k + by_)] = [[.int .i64 (walkF lf (.mk k' s' n' l') (k + by_)).k, .str (walkF lf (.mk k' s' n' l') (k + by_)).s, .int .i64 (walkF lf (.mk k' s' n' l') (k + by_)).n, .sl false 4 (FTs (walkF lf (.mk k' s' n' l') (k + by_)).l)]] := by
      rw [FTs, FTs, FT_eta]
    unfold stSh at h2
    rw [e6] at h2
    exact h2
/-- THE CONTRACT: from the leaf function's. -/
theorem c_wSh (fr by1 : Int) (lf : Tm → Int → Tm) (Q : Tm → Int → Prop)
    (hq : ∀ (kd : Int) (s : List UInt8) (n : Int) (l : List Tm) (d : Int), Q (.mk kd s n l) d → (kd == 5 || kd == 6) = true → ∀ u ∈ l, Q u (d + if (kd == 5) = true then 1 else 0))
    (hleaf : ∀ (u : Tm) (d : Int), (u.k == 5 || u.k == 6) = false → Q u d → 0 ≤ d → d ≤ 2305843009213693952 → AC Try.prog 119 [aT u, ci d, .c (.a (.ep 0 1 0 0)), .c (.a (.ep 1 1 0 0))] [(obj1 fr), (obj1 by1)] (aT (lf u d)) [(obj1 fr), (obj1 by1)])
    (hwid : ∀ (u : Tm) (d : Int), Q u d → (walkF lf u d).l.length ≤ 2 * B) :
    ∀ t : Tm, t.sz ≤ B → ∀ k : Int, Q t k → 0 ≤ k → k + t.sz ≤ 2305843009213693952 → AC Try.prog 121 [cloSh, aT t, ci k] [(obj1 fr), (obj1 by1)] (aT (walkF lf t k)) [(obj1 fr), (obj1 by1)] := by
  refine Tm.ind fun t ih hs k hQ h0 h1 => ?_
  have hlen := Tm.szs_length t.l
  obtain ⟨kd, s, n, l⟩ := t
  simp only [Tm.sz, B, Tm.l] at hs hlen
  simp only [Tm.sz] at h1
  have key : ∀ by_ : Int, 0 ≤ by_ → by_ ≤ 1 → (by_ = if (kd == 5) = true then 1 else 0) → (hin : (kd == 5 || kd == 6) = true) → RPt Try.prog 121 2 (aT (walkF lf (.mk kd s n l) k)) [(obj1 fr), (obj1 by1)] 1 (stSh fr by1 k by_ kd s n l (.fz .nils) 0 [] 5) := by
    intro by_ hb0 hb1 hby hin
    have hQ' := hq kd s n l k hQ hin
    rw [← hby] at hQ'
    have := l_w1Sh fr by1 lf k by_ h0 (by omega) hb0 hb1 kd s n hin l (by simp only [B]; omega) (fun u hu => by
      have : ∀ {m : List Tm}, (∀ v ∈ m, Q v (k + by_)) → ∀ u ∈ walkL lf m (k + by_), u.l.length ≤ 2 * B := by
        intro m
        induction m with
        | nil => intro _ u hu; simp [walkL] at hu
        | cons v m ihm =>
          intro hm u hu
          simp only [walkL, List.mem_cons] at hu
          rcases hu with rfl | hu
          · exact hwid v _ (hm v List.mem_cons_self)
          · exact ihm (fun x hx => hm x (List.mem_cons_of_mem _ hx)) u hu
      exact this hQ' u hu) (fun u hu => ih u hu (by have := Tm.szs_mem hu; simp only [B]; omega) (k + by_) (hQ' u hu) (by omega) (by have := Tm.szs_mem hu; omega))
    rw [walkF, if_pos hin, ← hby]
    exact this
  refine AC.vc hP sh lv121 (Nat.le_refl _) (by simp [isLive]) (by simp) (Eq.mpr (v121_F119 kd s n (FTs l) k fr by1 _ _) ?_)
  have wi : (kd == 5 || kd == 6) = true → AC Try.prog 84 [aT (.mk kd s n l)] [] (.tup [(false, [.a (.fz (.sl false 4 (FTs l)))]), (false, [.a (.fz (.int .i64 (if (kd == 5) = true then 1 else 0)))])]) [] := fun hin => by
    have hw := c_within (.mk kd s n l)
    rw [show kidsV (.mk kd s n l) = .sl false 4 (FTs l) from if_pos hin] at hw
    exact hw
  refine br_of (fun h => br_of (fun h2 => ?_) (fun h2 => ?_)) (fun h => ?_)
  · have e1 : (kd == 5) = false := by simpa using h
    have e2 : (kd == 6) = false := by simpa using h2
    have e : (kd == 5 || kd == 6) = false := by rw [e1, e2]; rfl
    have hl := hleaf (.mk kd s n l) k e hQ h0 (by omega)
    rw [show walkF lf (.mk kd s n l) k = lf (.mk kd s n l) k by rw [walkF, if_neg (by rw [e]; simp)]]
    exact ⟨_, hl, .refl _, rfl⟩
  · have e1 : (kd == 5) = false := by simpa using h
    have e2 : (kd == 6) = true := by simpa using h2
    have hin : (kd == 5 || kd == 6) = true := by rw [e1, e2]; rfl
    have hk := key 0 (by omega) (by omega) (by rw [e1]; rfl) hin
    have hw := wi hin
    rw [e1] at hw
    refine ⟨_, _, hw, rfl, ?_⟩
    show RPt _ _ _ _ _ _ ⟨[_, _, _, _, _, _, _, _, (31, ci (((FTs l).length : Nat) : Int)), _], _, _⟩
    rw [FTs_length]
    exact hk
  · have e1 : (kd == 5) = true := by simpa using h
    have hin : (kd == 5 || kd == 6) = true := by rw [e1]; rfl
    have hk := key 1 (by omega) (by omega) (by rw [e1]; rfl) hin
    have hw := wi hin
    rw [e1] at hw
    refine ⟨_, _, hw, rfl, ?_⟩
    show RPt _ _ _ _ _ _ ⟨[_, _, _, _, _, _, _, _, (31, ci (((FTs l).length : Nat) : Int)), _], _, _⟩
    rw [FTs_length]
    exact hk


/-! walk.term for Su -/
abbrev cloSu : TV := .agg [.fn (.func 126) [] [(false, [.ep 0 1 0 0]), (false, [.ep 1 4 0 0])]]
abbrev stSu (ix : Int) (sk : Int) (ss : List UInt8) (sn : Int) (sl : List Tm) (k by_ : Int) (kd : Int) (s : List UInt8) (n : Int) (l : List Tm) (w : AV) (i : Nat) (h : AHeap) (nx : Nat) : St :=
  ⟨[(2, ci k), (3, .c (.a (.ep 2 1 0 0))), (4, .c (.a (.ep 3 4 0 0))), (6, .c (.a (.ep 4 4 0 0))), (7, aL l), (8, ci by_), (9, .c (.a w)), (30, aL l), (31, ci l.length), (32, ci i)],
   [(0, (obj1 ix)), (1, (.arr 4 [fzs (FT (.mk sk ss sn sl))])), (2, .arr 1 [[.fn (.func 126) [] [(false, [.ep 0 1 0 0]), (false, [.ep 1 4 0 0])]]]), (3, .arr 4 [fzs (FT (.mk kd s n l))]), (4, .arr 4 [[.a (.fz (.int .i64 0)), .a (.fz (.str [])), .a (.fz (.int .i64 0)), .a (.fz .nils)]])] ++ h, nx⟩
theorem l_w2Su (ix : Int) (sk : Int) (ss : List UInt8) (sn : Int) (sl : List Tm) (lf : Tm → Int → Tm) (k by_ : Int) (h0 : 0 ≤ k) (hk : k ≤ 2305843009213693952) (hb0 : 0 ≤ by_) (hb1 : by_ ≤ 1) (kd : Int) (s : List UInt8) (n : Int) (hin : (kd == 5 || kd == 6) = true) :
    ∀ (b a acc : List Tm), acc ≠ [] → acc.length = a.length → (a ++ b).length ≤ B → (∀ u ∈ acc ++ walkL lf b (k + by_), u.l.length ≤ 2 * B) →
    (∀ u ∈ b, AC Try.prog 121 [cloSu, aT u, ci (k + by_)] [(obj1 ix), (.arr 4 [fzs (FT (.mk sk ss sn sl))])] (aT (walkF lf u (k + by_))) [(obj1 ix), (.arr 4 [fzs (FT (.mk sk ss sn sl))])]) →
    RPt Try.prog 121 2 (aT (withF (.mk kd s n (a ++ b)) (acc ++ walkL lf b (k + by_)))) [(obj1 ix), (.arr 4 [fzs (FT (.mk sk ss sn sl))])] 1 (stSu ix sk ss sn sl k by_ kd s n (a ++ b) (.osl 5 4 0 acc.length) a.length [(5, .arz 4 (FTs acc))] 6)
  | [], a, acc, hne, hlen, hl, hw, _ => by
    refine RPt.vc hP sh lv121 (Eq.mpr (v121_F126_1b ..) ?_)
    match acc, a, hne, hlen with
    | o :: r, u :: a', _, hlen =>
    have e1 : List.take (o :: r).length (List.drop 0 (FTs (o :: r))) = FTs (o :: r) := by rw [List.drop_zero, List.take_of_length_le (by rw [FTs_length]; omega)]
    have e2 : (0 : Nat) + (o :: r).length ≤ (FTs (o :: r)).length := by rw [FTs_length]; omega
    have hrest : ∀ (k' : Int) (s' : List UInt8) (n' : Int), TV.Le (.agg [.a (.fz (.int .i64 k')), .a (.fz (.str s')), .a (.fz (.int .i64 n')), .a (.fz (.sl false 4 (List.take (o :: r).length (List.drop 0 (FTs (o :: r))))))]) (aT (.mk k' s' n' (o :: r))) := fun k' s' n' => by rw [e1]; exact leT leSl
    refine br_of (fun h => absurd (of_decide_eq_true h) (by simp)) (fun _ => br_of (fun h6 => br_of (fun h1 => ⟨⟨by omega, by simp⟩, ⟨by rw [FTs_length]; simp, by cases o; rfl, rfl⟩, br_of (fun ho => ⟨⟨rfl, by omega, by rw [List.append_nil]; show (0 : Int) < (((FTs (u :: a')).length : Nat) : Int); rw [FTs_length]; simp, by cases u; rfl⟩, br_of (fun hu => ?_) (fun hu => ⟨⟨rfl, e2⟩, ?_, rfl⟩)⟩) (fun ho => ⟨⟨rfl, e2⟩, ?_, rfl⟩)⟩) (fun h1 => ⟨⟨rfl, e2⟩, ?_, rfl⟩)) (fun h6 => ⟨⟨rfl, e2⟩, ?_, rfl⟩))
    · -- flat
      have hap := c_apply o r (by
        have := hw o (by simp)
        simp only [List.length_cons, List.length_append, List.length_nil, B] at hl hlen this ⊢; omega)
      have e3 : withF (.mk kd s n (u :: a' ++ [])) (o :: r ++ walkL lf [] (k + by_)) = applyF o r := by
        have c1 : 1 < (o :: r ++ walkL lf [] (k + by_)).length := by have := of_decide_eq_true h1; simp only [walkL, List.append_nil]; omega
        have c2 : (o.k == 6) = true := by cases o; exact ho
        have c3 : (u.k != 6) = true := by cases u; exact hu
        unfold withF
        rw [if_pos ⟨h6, c1, c2, c3⟩]
        simp [walkL]
      have e4 : List.take (Int.toNat ((o :: r).length : Int) - 1) (List.drop 1 (FTs (o :: r))) = FTs r := by
        rw [show Int.toNat ((o :: r).length : Int) - 1 = r.length by simp only [List.length_cons]; omega]
        show List.take r.length (FTs r) = FTs r
        rw [List.take_of_length_le (by rw [FTs_length]; omega)]
      have e5 : (1 : Nat) + (Int.toNat ((o :: r).length : Int) - 1) ≤ (FTs (o :: r)).length := by rw [FTs_length]; simp only [List.length_cons]; omega
      rw [e3]
      refine ⟨⟨by omega, by simp⟩, ⟨by rw [FTs_length]; simp, by cases o; rfl, rfl⟩, ⟨by omega, by simp; omega, by omega⟩, ⟨rfl, e5⟩, ?_⟩
      rw [e4]
      obtain ⟨k1, s1, n1, l1⟩ := o
      exact ⟨_, hap.args ⟨.refl _, le_c leSl, trivial⟩, .refl _, rfl⟩
    · have e3 : withF (.mk kd s n (u :: a' ++ [])) (o :: r ++ walkL lf [] (k + by_)) = .mk kd s n (o :: r) := by
        simp only [walkL, List.append_nil]
        exact if_neg fun e => by
          have hu' : (u.k != 6) = false := by cases u; exact hu
          have : (u.k != 6) = true := e.2.2.2
          rw [hu'] at this; cases this
      rw [e3]; exact hrest _ _ _
    · have e3 : withF (.mk kd s n (u :: a' ++ [])) (o :: r ++ walkL lf [] (k + by_)) = .mk kd s n (o :: r) := by
        simp only [walkL, List.append_nil]
        exact if_neg fun e => by
          have ho' : (o.k == 6) = false := by cases o; exact ho
          have : (o.k == 6) = true := e.2.2.1
          rw [ho'] at this; cases this
      rw [e3]; exact hrest _ _ _
    · have e3 : withF (.mk kd s n (u :: a' ++ [])) (o :: r ++ walkL lf [] (k + by_)) = .mk kd s n (o :: r) := by
        simp only [walkL, List.append_nil]
        exact if_neg fun e => by have := e.2.1; have := of_decide_eq_false h1; omega
      rw [e3]; exact hrest _ _ _
    · have e3 : withF (.mk kd s n (u :: a' ++ [])) (o :: r ++ walkL lf [] (k + by_)) = .mk kd s n (o :: r) := by
        simp only [walkL, List.append_nil]
        exact if_neg fun e => by
          have h6' : (kd == 6) = false := h6
          have : (kd == 6) = true := e.1
          rw [h6'] at this; cases this
      rw [e3]; exact hrest _ _ _
  | t :: b, a, acc, hne, hlen, hl, hw, ih => by
    refine RPt.vc hP sh lv121 (Eq.mpr (v121_F126_1b ..) ?_)
    have hl' := hl
    simp only [List.length_append, List.length_cons, B] at hl'
    have h1 := ih t List.mem_cons_self
    have h2 := l_w2Su ix sk ss sn sl lf k by_ h0 hk hb0 hb1 kd s n hin b (a ++ [t]) (acc ++ [walkF lf t (k + by_)]) (by simp) (by simp [hlen]) (by rw [ap]; exact hl)
      (by rw [List.append_assoc]; simpa [walkL] using hw) (fun u hu => ih u (List.mem_cons_of_mem _ hu))
    have h3 := ltI' a t b
    unfold stSu at h2
    rw [ap, show (((a ++ [t]).length : Nat) : Int) = (a.length : Int) + 1 from nx a t] at h2
    show br (decide ((a.length : Int) < (((a ++ t :: b).length : Nat) : Int))) ((FV.isSl 4 (.sl false 4 (FTs (a ++ t :: b))) = true ∧ _ ∧ _ ∧ _) ∧ _) _
    refine br_of (fun _ => ?_) (fun h => absurd (ltI a t b) (of_decide_eq_false h))
    have hm := midI a t b
    rw [show FV.ses (.sl false 4 (FTs (a ++ t :: b))) = FTs (a ++ t :: b) from rfl, hm, w64 (x := (a.length : Int) + 1) (by omega) (by omega), w64 (x := k + by_) (by omega) (by omega)]
    obtain ⟨k', s', n', l'⟩ := t
    refine ⟨⟨rfl, by omega, h3, rfl⟩, _, h1, Nat.le_refl _, ⟨by rw [FTs_length]; omega, roomI (by omega)⟩, ?_⟩
    have e5 : List.take acc.length (FTs acc) ++ FTs [walkF lf (.mk k' s' n' l') (k + by_)] = FTs (acc ++ [walkF lf (.mk k' s' n' l') (k + by_)]) := by rw [List.take_of_length_le (by rw [FTs_length]; omega), ← FTs_append]
    have e6 : FTs [walkF lf (.mk k' s' n' l') (k + by_)] = [[.int .i64 (walkF lf (.mk k' s' n' l') (k + by_)).k, .str (walkF lf (.mk k' s' n' l') (k + by_)).s, .int .i64 (walkF lf (.mk k' s' n' l') (k + by_)).n, .sl false 4 (FTs (walkF lf (.mk k' s' n' l') (k + by_)).l)]] := by
      rw [FTs, FTs, FT_eta]
    rw [e6] at e5
    rw [e5]
    rw [show acc ++ walkL lf (.mk k' s' n' l' :: b) (k + by_) = acc ++ walkF lf (.mk k' s' n' l') (k + by_) :: walkL lf b (k + by_) by simp [walkL]]
    rw [show (acc ++ [walkF lf (.mk k' s' n' l') (k + by_)]).length = acc.length + 1 by simp, List.append_assoc] at h2
    exact h2
theorem l_w1Su (ix : Int) (sk : Int) (ss : List UInt8) (sn : Int) (sl : List Tm) (lf : Tm → Int → Tm) (k by_ : Int) (h0 : 0 ≤ k) (hk : k ≤ 2305843009213693952) (hb0 : 0 ≤ by_) (hb1 : by_ ≤ 1) (kd : Int) (s : List UInt8) (n : Int) (hin : (kd == 5 || kd == 6) = true) :
    ∀ (b : List Tm), b.length ≤ B → (∀ u ∈ walkL lf b (k + by_), u.l.length ≤ 2 * B) →
    (∀ u ∈ b, AC Try.prog 121 [cloSu, aT u, ci (k + by_)] [(obj1 ix), (.arr 4 [fzs (FT (.mk sk ss sn sl))])] (aT (walkF lf u (k + by_))) [(obj1 ix), (.arr 4 [fzs (FT (.mk sk ss sn sl))])]) →
    RPt Try.prog 121 2 (aT (withF (.mk kd s n b) (walkL lf b (k + by_)))) [(obj1 ix), (.arr 4 [fzs (FT (.mk sk ss sn sl))])] 1 (stSu ix sk ss sn sl k by_ kd s n b (.fz .nils) 0 [] 5)
  | [], hl, hw, _ => by
    refine RPt.vc hP sh lv121 (Eq.mpr (v121_F126_1a ..) ?_)
    have e : withF (.mk kd s n []) (walkL lf [] (k + by_)) = .mk kd s n [] := if_neg fun e => by have := e.2.1; simp [walkL] at this
    rw [e]
    exact br_of (fun h => absurd (of_decide_eq_true h) (by simp)) (fun _ => br_of (fun _ => ⟨rfl, leT leNil, rfl⟩) (fun _ => ⟨leT leNil, rfl⟩))
  | t :: b, hl, hw, ih => by
    refine RPt.vc hP sh lv121 (Eq.mpr (v121_F126_1a ..) ?_)
    have hl' := hl
    simp only [List.length_cons, B] at hl'
    have h1 := ih t List.mem_cons_self
    have h2 := l_w2Su ix sk ss sn sl lf k by_ h0 hk hb0 hb1 kd s n hin b [t] [walkF lf t (k + by_)] (by simp) rfl (by simpa using hl) (by simpa [walkL] using hw) (fun u hu => ih u (List.mem_cons_of_mem _ hu))
    show br (decide ((0 : Int) < (((t :: b).length : Nat) : Int))) ((FV.isSl 4 (.sl false 4 (FTs (t :: b))) = true ∧ _ ∧ _ ∧ _) ∧ _) _
    refine br_of (fun _ => ?_) (fun h => absurd (of_decide_eq_false h) (by simp))
    rw [show FV.ses (.sl false 4 (FTs (t :: b))) = FTs (t :: b) from rfl, show List.getD (FTs (t :: b)) (Int.toNat ((0 : Nat) : Int)) [] = FT t from rfl, w64 (x := k + by_) (by omega) (by omega), w64 (x := ((0 : Nat) : Int) + 1) (by omega) (by omega)]
    obtain ⟨k', s', n', l'⟩ := t
    have h3 : (0 : Int) < (((FTs (.mk k' s' n' l' :: b)).length : Nat) : Int) := by rw [FTs_length]; simp
    refine ⟨⟨rfl, by omega, h3, rfl⟩, _, h1, Nat.le_refl _, roomI (by omega), ?_⟩
    have e6 : FTs [walkF lf (.mk k' s' n' l') (k + by_)] = [[.int .i64 (walkF lf (.mk k' s' n' l') (k + by_)).k, .str (walkF lf (.mk k' s' n' l') (k + by_)).s, .int .i64 (walkF lf (.mk k' s' n' l') (k + by_)).n, .sl false 4 (FTs (walkF lf (.mk k' s' n' l') (k + by_)).l)]] := by
      rw [FTs, FTs, FT_eta]
    unfold stSu at h2
    rw [e6] at h2
    exact h2
/-- THE CONTRACT: from the leaf function's. -/
theorem c_wSu (ix : Int) (sk : Int) (ss : List UInt8) (sn : Int) (sl : List Tm) (lf : Tm → Int → Tm) (Q : Tm → Int → Prop)
    (hq : ∀ (kd : Int) (s : List UInt8) (n : Int) (l : List Tm) (d : Int), Q (.mk kd s n l) d → (kd == 5 || kd == 6) = true → ∀ u ∈ l, Q u (d + if (kd == 5) = true then 1 else 0))
    (hleaf : ∀ (u : Tm) (d : Int), (u.k == 5 || u.k == 6) = false → Q u d → 0 ≤ d → d ≤ 2305843009213693952 → AC Try.prog 126 [aT u, ci d, .c (.a (.ep 0 1 0 0)), .c (.a (.ep 1 4 0 0))] [(obj1 ix), (.arr 4 [fzs (FT (.mk sk ss sn sl))])] (aT (lf u d)) [(obj1 ix), (.arr 4 [fzs (FT (.mk sk ss sn sl))])])
    (hwid : ∀ (u : Tm) (d : Int), Q u d → (walkF lf u d).l.length ≤ 2 * B) :
    ∀ t : Tm, t.sz ≤ B → ∀ k : Int, Q t k → 0 ≤ k → k + t.sz ≤ 2305843009213693952 → AC Try.prog 121 [cloSu, aT t, ci k] [(obj1 ix), (.arr 4 [fzs (FT (.mk sk ss sn sl))])] (aT (walkF lf t k)) [(obj1 ix), (.arr 4 [fzs (FT (.mk sk ss sn sl))])] := by
  refine Tm.ind fun t ih hs k hQ h0 h1 => ?_
  have hlen := Tm.szs_length t.l
  obtain ⟨kd, s, n, l⟩ := t
  simp only [Tm.sz, B, Tm.l] at hs hlen
  simp only [Tm.sz] at h1
  have key : ∀ by_ : Int, 0 ≤ by_ → by_ ≤ 1 → (by_ = if (kd == 5) = true then 1 else 0) → (hin : (kd == 5 || kd == 6) = true) → RPt Try.prog 121 2 (aT (walkF lf (.mk kd s n l) k)) [(obj1 ix), (.arr 4 [fzs (FT (.mk sk ss sn sl))])] 1 (stSu ix sk ss sn sl k by_ kd s n l (.fz .nils) 0 [] 5) := by
    intro by_ hb0 hb1 hby hin
    have hQ' := hq kd s n l k hQ hin
    rw [← hby] at hQ'
    have := l_w1Su ix sk ss sn sl lf k by_ h0 (by omega) hb0 hb1 kd s n hin l (by simp only [B]; omega) (fun u hu => by
      have : ∀ {m : List Tm}, (∀ v ∈ m, Q v (k + by_)) → ∀ u ∈ walkL lf m (k + by_), u.l.length ≤ 2 * B := by
        intro m
        induction m with
        | nil => intro _ u hu; simp [walkL] at hu
        | cons v m ihm =>
          intro hm u hu
          simp only [walkL, List.mem_cons] at hu
          rcases hu with rfl | hu
          · exact hwid v _ (hm v List.mem_cons_self)
          · exact ihm (fun x hx => hm x (List.mem_cons_of_mem _ hx)) u hu
      exact this hQ' u hu) (fun u hu => ih u hu (by have := Tm.szs_mem hu; simp only [B]; omega) (k + by_) (hQ' u hu) (by omega) (by have := Tm.szs_mem hu; omega))
    rw [walkF, if_pos hin, ← hby]
    exact this
  refine AC.vc hP sh lv121 (Nat.le_refl _) (by simp [isLive]) (by simp) (Eq.mpr (v121_F126 kd s n (FTs l) k ix sk ss sn (FTs sl) _ _) ?_)
  have wi : (kd == 5 || kd == 6) = true → AC Try.prog 84 [aT (.mk kd s n l)] [] (.tup [(false, [.a (.fz (.sl false 4 (FTs l)))]), (false, [.a (.fz (.int .i64 (if (kd == 5) = true then 1 else 0)))])]) [] := fun hin => by
    have hw := c_within (.mk kd s n l)
    rw [show kidsV (.mk kd s n l) = .sl false 4 (FTs l) from if_pos hin] at hw
    exact hw
  refine br_of (fun h => br_of (fun h2 => ?_) (fun h2 => ?_)) (fun h => ?_)
  · have e1 : (kd == 5) = false := by simpa using h
    have e2 : (kd == 6) = false := by simpa using h2
    have e : (kd == 5 || kd == 6) = false := by rw [e1, e2]; rfl
    have hl := hleaf (.mk kd s n l) k e hQ h0 (by omega)
    rw [show walkF lf (.mk kd s n l) k = lf (.mk kd s n l) k by rw [walkF, if_neg (by rw [e]; simp)]]
    exact ⟨_, hl, .refl _, rfl⟩
  · have e1 : (kd == 5) = false := by simpa using h
    have e2 : (kd == 6) = true := by simpa using h2
    have hin : (kd == 5 || kd == 6) = true := by rw [e1, e2]; rfl
    have hk := key 0 (by omega) (by omega) (by rw [e1]; rfl) hin
    have hw := wi hin
    rw [e1] at hw
    refine ⟨_, _, hw, rfl, ?_⟩
    show RPt _ _ _ _ _ _ ⟨[_, _, _, _, _, _, _, _, (31, ci (((FTs l).length : Nat) : Int)), _], _, _⟩
    rw [FTs_length]
    exact hk
  · have e1 : (kd == 5) = true := by simpa using h
    have hin : (kd == 5 || kd == 6) = true := by rw [e1]; rfl
    have hk := key 1 (by omega) (by omega) (by rw [e1]; rfl) hin
    have hw := wi hin
    rw [e1] at hw
    refine ⟨_, _, hw, rfl, ?_⟩
    show RPt _ _ _ _ _ _ ⟨[_, _, _, _, _, _, _, _, (31, ci (((FTs l).length : Nat) : Int)), _], _, _⟩
    rw [FTs_length]
    exact hk


end Go.AM

set_option maxRecDepth 100000
open Go Go.Proofs
namespace Go.AM

/-! ### What walk makes: size, numbers, kinds -/
theorem applyF_sz (f : Tm) (l : List Tm) : (applyF f l).sz ≤ 1 + f.sz + Tm.szs l := by
  unfold applyF
  split
  · simp only [Tm.szs]; omega
  · split
    · have := f.sz_eq; simp only [Tm.sz, Tm.szs_append, List.length_nil]; omega
    · simp only [Tm.sz, Tm.szs, List.length_nil]; omega
theorem withF_sz (t : Tm) (o : List Tm) : (withF t o).sz ≤ 1 + Tm.szs o := by
  unfold withF
  split
  · rename_i h
    match o, h with
    | [], h => simp at h
    | x :: r, h =>
      simp only [List.headD_cons, List.tail_cons, Tm.szs] at h ⊢
      have hx : (x.k == 6) = true := h.2.2.1
      have hr : r ≠ [] := by intro e; rw [e] at h; simp at h
      unfold applyF
      split
      · exact absurd rfl hr
      · have := x.sz_eq
        by_cases hl : x.l = []
        · rw [if_neg (fun e => e.2 hl)]
          simp only [Tm.sz, Tm.szs, List.length_nil]; omega
        · rw [if_pos ⟨hx, hl⟩]
          simp only [Tm.sz, Tm.szs_append, List.length_nil]; omega
  · simp only [Tm.sz]; omega
mutual
/-- How many. -/
def nd : Tm → Nat
  | .mk _ _ _ l => 1 + nds l
def nds : List Tm → Nat
  | [] => 0
  | t :: l => nd t + nds l
end
theorem nd_eq (t : Tm) : nd t = 1 + nds t.l := by cases t; rfl
theorem nd_pos (t : Tm) : 1 ≤ nd t := by rw [nd_eq]; omega
theorem nds_append : ∀ (a b : List Tm), nds (a ++ b) = nds a + nds b
  | [], b => by simp [nds]
  | t :: a, b => by simp only [List.cons_append, nds, nds_append a b]; omega
theorem nds_mem : ∀ {l : List Tm} {t : Tm}, t ∈ l → nd t ≤ nds l
  | x :: l, t, h => by
    rcases List.mem_cons.1 h with rfl | h
    · simp only [nds]; omega
    · have := nds_mem h; simp only [nds]; omega
theorem withF_nd (t : Tm) (o : List Tm) : nd (withF t o) ≤ 1 + nds o := by
  unfold withF
  split
  · rename_i h
    match o, h with
    | [], h => simp at h
    | x :: r, h =>
      simp only [List.headD_cons, List.tail_cons, nds] at h ⊢
      have hx : (x.k == 6) = true := h.2.2.1
      have hr : r ≠ [] := by intro e; rw [e] at h; simp at h
      unfold applyF
      split
      · exact absurd rfl hr
      · have := nd_eq x
        by_cases hl : x.l = []
        · rw [if_neg (fun e => e.2 hl)]
          simp only [nd, nds]; omega
        · rw [if_pos ⟨hx, hl⟩]
          simp only [nd, nds_append]; omega
  · simp only [nd]; omega
mutual
theorem walkF_sz (lf : Tm → Int → Tm) (S : Nat) (h : ∀ u d, (lf u d).sz ≤ u.sz + S) : ∀ (t : Tm) (d : Int), (walkF lf t d).sz ≤ t.sz + nd t * S
  | .mk k s n l, d => by
    rw [walkF]
    split
    · refine Nat.le_trans (withF_sz ..) ?_
      have := walkL_sz lf S h l (d + if (k == 5) = true then 1 else 0)
      simp only [Tm.sz, Tm.s, nd, Nat.add_mul, Nat.one_mul]
      omega
    · refine Nat.le_trans (h _ _) ?_
      simp only [nd, Nat.add_mul, Nat.one_mul]; omega
theorem walkL_sz (lf : Tm → Int → Tm) (S : Nat) (h : ∀ u d, (lf u d).sz ≤ u.sz + S) : ∀ (l : List Tm) (d : Int), Tm.szs (walkL lf l d) ≤ Tm.szs l + nds l * S
  | [], _ => by simp [walkL, Tm.szs]
  | t :: l, d => by
    have := walkF_sz lf S h t d
    have := walkL_sz lf S h l d
    simp only [walkL, Tm.szs, nds, Nat.add_mul]; omega
end
mutual
theorem walkF_nd (lf : Tm → Int → Tm) (N : Nat) (hN : 1 ≤ N) (h : ∀ u d, nd (lf u d) ≤ nd u * N) : ∀ (t : Tm) (d : Int), nd (walkF lf t d) ≤ nd t * N
  | .mk k s n l, d => by
    rw [walkF]
    split
    · refine Nat.le_trans (withF_nd ..) ?_
      have := walkL_nd lf N hN h l (d + if (k == 5) = true then 1 else 0)
      simp only [nd, Nat.add_mul, Nat.one_mul]
      omega
    · exact h _ _
theorem walkL_nd (lf : Tm → Int → Tm) (N : Nat) (hN : 1 ≤ N) (h : ∀ u d, nd (lf u d) ≤ nd u * N) : ∀ (l : List Tm) (d : Int), nds (walkL lf l d) ≤ nds l * N
  | [], _ => by simp [walkL, nds]
  | t :: l, d => by
    have := walkF_nd lf N hN h t d
    have := walkL_nd lf N hN h l d
    simp only [walkL, nds, Nat.add_mul]; omega
end
theorem bds_append {M : Int} : ∀ {a b : List Tm}, bds M a → bds M b → bds M (a ++ b)
  | [], _, _, h => h
  | _ :: _, _, h, h' => ⟨h.1, bds_append h.2 h'⟩
theorem bds_of {M : Int} : ∀ {l : List Tm}, (∀ t ∈ l, bd M t) → bds M l
  | [], _ => trivial
  | t :: _, h => ⟨h t List.mem_cons_self, bds_of fun u hu => h u (List.mem_cons_of_mem _ hu)⟩
theorem bd6 {M : Int} {s : List UInt8} {n : Int} {l : List Tm} (h : bds M l) : bd M (.mk 6 s n l) := ⟨fun e => absurd e (by omega), h⟩
theorem applyF_bd {M : Int} {f : Tm} {l : List Tm} (hf : bd M f) (hl : bds M l) : bd M (applyF f l) := by
  unfold applyF
  split
  · exact hf
  · split
    · exact bd6 (bds_append (bd_l hf) hl)
    · exact bd6 ⟨hf, hl⟩
theorem withF_bd {M : Int} {t : Tm} {o : List Tm} (hk : t.k ≠ 3) (ho : bds M o) : bd M (withF t o) := by
  unfold withF
  split
  · rename_i h
    match o, h, ho with
    | [], h, _ => simp at h
    | x :: r, h, ho => exact applyF_bd ho.1 ho.2
  · exact ⟨fun e => absurd e hk, ho⟩
mutual
theorem walkF_bd (lf : Tm → Int → Tm) (M M' D : Int) (h : ∀ u d, bd M u → 0 ≤ d → d ≤ D → bd M' (lf u d)) : ∀ (t : Tm) (d : Int), bd M t → 0 ≤ d → d + t.sz ≤ D → bd M' (walkF lf t d)
  | .mk k s n l, d, hb, h0, h1 => by
    rw [walkF]
    simp only [Tm.sz] at h1
    split
    · rename_i hk
      refine withF_bd (fun e => ?_) (walkL_bd lf M M' D h l _ hb.2 (by split <;> omega) (by split <;> omega))
      have e : k = 3 := e
      rw [e] at hk; exact absurd hk (by decide)
    · exact h _ _ hb h0 (by omega)
theorem walkL_bd (lf : Tm → Int → Tm) (M M' D : Int) (h : ∀ u d, bd M u → 0 ≤ d → d ≤ D → bd M' (lf u d)) : ∀ (l : List Tm) (d : Int), bds M l → 0 ≤ d → d + Tm.szs l ≤ D → bds M' (walkL lf l d)
  | [], _, _, _, _ => trivial
  | t :: l, d, hb, h0, h1 => by
    simp only [Tm.szs] at h1
    exact ⟨walkF_bd lf M M' D h t d hb.1 h0 (by omega), walkL_bd lf M M' D h l d hb.2 h0 (by omega)⟩
end
theorem applyF_k {f : Tm} (l : List Tm) (h : (f.k == 6) = true) : (applyF f l).k = 6 := by
  unfold applyF
  split
  · simpa using h
  · split <;> rfl
theorem withF_k (t : Tm) (o : List Tm) : (withF t o).k = t.k := by
  unfold withF
  split
  · rename_i h6
    have e : t.k = 6 := by simpa using h6.1
    rw [applyF_k _ h6.2.2.1]; exact e.symm
  · rfl
theorem walkF_k (lf : Tm → Int → Tm) (h : ∀ u d, (lf u d).k = u.k) (t : Tm) (d : Int) : (walkF lf t d).k = t.k := by
  obtain ⟨k, s, n, l⟩ := t
  rw [walkF]
  split
  · exact withF_k _ _
  · exact h _ _
/-- Where leaves keep their kinds, nothing is made flat. -/
theorem walkF_keep (lf : Tm → Int → Tm) (h : ∀ u d, (lf u d).k = u.k) (k : Int) (s : List UInt8) (n : Int) (l : List Tm) (d : Int) (hk : (k == 5 || k == 6) = true) :
    walkF lf (.mk k s n l) d = .mk k s n (walkL lf l (d + if (k == 5) = true then 1 else 0)) := by
  rw [walkF, if_pos hk, withF, if_neg fun e => ?_]; rfl
  match l, e with
  | [], e => have := e.2.1; simp [walkL] at this
  | t :: l, e =>
    have e1 := e.2.2.1
    have e2 := e.2.2.2
    rw [walkL, List.headD_cons, walkF_k lf h] at e1
    have e2 : (t.k != 6) = true := e2
    rw [bne, e1] at e2; cases e2
theorem walkF_leaf (lf : Tm → Int → Tm) (k : Int) (s : List UInt8) (n : Int) (l : List Tm) (d : Int) (hk : (k == 5 || k == 6) = false) :
    walkF lf (.mk k s n l) d = lf (.mk k s n l) d := by rw [walkF, if_neg (by rw [hk]; simp)]
theorem walkL_length (lf : Tm → Int → Tm) : ∀ (l : List Tm) (d : Int), (walkL lf l d).length = l.length
  | [], _ => rfl
  | _ :: l, d => by simp only [walkL, List.length_cons, walkL_length lf l d]

/-! ### Shift -/
abbrev M61 : Int := 2305843009213693952
def shLeaf (fr by_ : Int) (u : Tm) (d : Int) : Tm := if (u.k == 3) = true ∧ d + fr ≤ u.n then .mk u.k u.s (u.n + by_) u.l else u
def shT (fr by_ : Int) (t : Tm) (d : Int) : Tm := walkF (shLeaf fr by_) t d
theorem shLeaf_k (fr by_ : Int) (u : Tm) (d : Int) : (shLeaf fr by_ u d).k = u.k := by unfold shLeaf; split <;> rfl
theorem shLeaf_sz (fr by_ : Int) (u : Tm) (d : Int) : (shLeaf fr by_ u d).sz = u.sz := by
  unfold shLeaf; split
  · cases u; rfl
  · rfl
theorem shT_sz (fr by_ : Int) (t : Tm) (d : Int) : (shT fr by_ t d).sz ≤ t.sz := by
  have := walkF_sz (shLeaf fr by_) 0 (fun u d => by rw [shLeaf_sz]; omega) t d
  rw [Nat.mul_zero] at this; exact this
theorem shLeaf_nd (fr by_ : Int) (u : Tm) (d : Int) : nd (shLeaf fr by_ u d) = nd u := by
  unfold shLeaf; split
  · cases u; rfl
  · rfl
theorem shT_nd (fr by_ : Int) (t : Tm) (d : Int) : nd (shT fr by_ t d) ≤ nd t := by
  have := walkF_nd (shLeaf fr by_) 1 (Nat.le_refl _) (fun u d => by rw [shLeaf_nd]; omega) t d
  rw [Nat.mul_one] at this; exact this
theorem bd_le {M M' : Int} (h : M ≤ M') : ∀ t : Tm, bd M t → bd M' t := by
  refine Tm.ind fun t ih hb => ?_
  obtain ⟨k, s, n, l⟩ := t
  exact ⟨fun e => by have := hb.1 e; omega, bds_of fun u hu => ih u hu (bds_mem hb.2 hu)⟩
theorem shLeaf_bd {fr by_ M : Int} (h0 : 0 ≤ by_) (u : Tm) (d : Int) (hb : bd M u) : bd (M + by_) (shLeaf fr by_ u d) := by
  unfold shLeaf
  split
  · obtain ⟨k, s, n, l⟩ := u
    exact ⟨fun e => by have := hb.1 e; simp only [Tm.n]; omega, bds_of fun u hu => bd_le (by omega) u (bds_mem hb.2 hu)⟩
  · exact bd_le (by omega) u hb
theorem shT_bd {fr by_ M : Int} (h0 : 0 ≤ by_) (t : Tm) (d : Int) (hb : bd M t) (hd : 0 ≤ d) : bd (M + by_) (shT fr by_ t d) :=
  walkF_bd (shLeaf fr by_) M (M + by_) (d + t.sz) (fun u d' hu _ _ => shLeaf_bd h0 u d' hu) t d hb hd (Int.le_refl _)
theorem c_moved (t : Tm) (by_ : Int) (h1 : -9223372036854775808 ≤ t.n + by_) (h2 : t.n + by_ ≤ 9223372036854775807) : AC Try.prog 120 [aT t, ci by_] [] (aT (.mk t.k t.s (t.n + by_) t.l)) [] := by
  obtain ⟨k, s, n, l⟩ := t
  refine AC.vc hP sh lv120 (Nat.le_refl _) (by simp) (by simp) (Eq.mpr (v120 k s n (FTs l) by_ _ _) ?_)
  rw [w64 (x := n + by_) h1 h2]
  exact ⟨.refl _, rfl⟩
theorem c_shift1 (fr by_ d : Int) (u : Tm) (hb : u.k = 3 → 0 - M61 ≤ u.n ∧ u.n ≤ M61) (hd0 : 0 ≤ d) (hd1 : d ≤ M61) (hf0 : 0 ≤ fr) (hf1 : fr ≤ M61) (hb0 : 0 - 1 ≤ by_) (hb1 : by_ ≤ M61) :
    AC Try.prog 119 [aT u, ci d, .c (.a (.ep 0 1 0 0)), .c (.a (.ep 1 1 0 0))] [obj1 fr, obj1 by_] (aT (shLeaf fr by_ u d)) [obj1 fr, obj1 by_] := by
  obtain ⟨k, s, n, l⟩ := u
  simp only [M61, Tm.k, Tm.n] at *
  refine AC.vc hP sh lv119 (Nat.le_refl _) (by simp [isLive]) (by simp) (Eq.mpr (v119 k s n (FTs l) d fr by_ _ _) ?_)
  rw [w64 (by omega) (by omega)]
  refine br_of (fun h => br_of (fun h2 => ?_) (fun h2 => ?_)) (fun h => ?_)
  · have hk : k = 3 := by simpa using h
    have h3 : d + fr ≤ n := of_decide_eq_true h2
    have := hb hk
    have e : shLeaf fr by_ (.mk k s n l) d = .mk k s (n + by_) l := if_pos ⟨h, h3⟩
    rw [e]
    exact ⟨_, c_moved (.mk k s n l) by_ (by simp only [Tm.n]; omega) (by simp only [Tm.n]; omega), .refl _, rfl⟩
  · have h3 : ¬ d + fr ≤ n := of_decide_eq_false h2
    have e : shLeaf fr by_ (.mk k s n l) d = .mk k s n l := if_neg fun e => h3 e.2
    rw [e]; exact ⟨.refl _, rfl⟩
  · have e : shLeaf fr by_ (.mk k s n l) d = .mk k s n l := if_neg fun e => by have := e.1; rw [show Tm.k (.mk k s n l) = k from rfl, h] at this; cases this
    rw [e]; exact ⟨.refl _, rfl⟩
theorem c_shift (t : Tm) (fr by_ : Int) (hs : t.sz ≤ B) (hb : bd M61 t) (hf0 : 0 ≤ fr) (hf1 : fr ≤ M61) (hb0 : 0 - 1 ≤ by_) (hb1 : by_ ≤ M61) :
    AC Try.prog 111 [aT t, ci fr, ci by_] [] (aT (shT fr by_ t 0)) [] := by
  have h := c_wSh fr by_ (shLeaf fr by_) (fun u _ => bd M61 u ∧ u.sz ≤ B) (fun kd s n l d hq hk u hu => ⟨bds_mem hq.1.2 hu, by have := Tm.szs_mem hu; have := hq.2; simp only [Tm.sz] at this; omega⟩)
    (fun u d hk hq h0 h1 => c_shift1 fr by_ d u (by obtain ⟨k, s, n, l⟩ := u; exact hq.1.1) h0 h1 hf0 hf1 hb0 hb1)
    (fun u d hq => by have := shT_sz fr by_ u d; have h1 := (shT fr by_ u d).sz_eq; have := Tm.szs_length (shT fr by_ u d).l; have := hq.2; show (shT fr by_ u d).l.length ≤ _; omega)
    t hs 0 ⟨hb, hs⟩ (Int.le_refl _) (by simp only [B] at hs; omega)
  obtain ⟨k, s, n, l⟩ := t
  refine AC.vc hP sh lv111 (Nat.le_refl _) (by simp) (by simp) (Eq.mpr (v111 k s n (FTs l) fr by_ _ _) ?_)
  exact ⟨_, h, .refl _, rfl⟩

/-! ### Subst -/
def suLeaf (i : Int) (s : Tm) (u : Tm) (d : Int) : Tm :=
  if (u.k == 3) = true then (if u.n < d + i then u else if (u.n == d + i) = true then shT 0 d s 0 else .mk u.k u.s (u.n - 1) u.l) else u
def suT (i : Int) (s t : Tm) (d : Int) : Tm := walkF (suLeaf i s) t d
theorem suLeaf_sz (i : Int) (s u : Tm) (d : Int) : (suLeaf i s u d).sz ≤ u.sz + s.sz := by
  have h3 := shT_sz 0 d s 0
  unfold suLeaf
  split
  · split
    · omega
    · split
      · omega
      · cases u; simp only [Tm.sz, Tm.s, Tm.l]; omega
  · omega
theorem suT_sz (i : Int) (s t : Tm) (d : Int) : (suT i s t d).sz ≤ t.sz + nd t * s.sz := walkF_sz _ _ (suLeaf_sz i s) t d
theorem suLeaf_nd (i : Int) (s u : Tm) (d : Int) : nd (suLeaf i s u d) ≤ nd u * nd s := by
  have h1 : nd u ≤ nd u * nd s := Nat.le_mul_of_pos_right _ (nd_pos s)
  have h2 : nd s ≤ nd u * nd s := Nat.le_mul_of_pos_left _ (nd_pos u)
  have h3 := shT_nd 0 d s 0
  unfold suLeaf
  split
  · split
    · exact h1
    · split
      · omega
      · cases u; exact h1
  · exact h1
theorem suT_nd (i : Int) (s t : Tm) (d : Int) : nd (suT i s t d) ≤ nd t * nd s := walkF_nd _ _ (nd_pos s) (suLeaf_nd i s) t d
theorem suT_bd {i M M' D : Int} (s t : Tm) (d : Int) (hb : bd M t) (hs : bd M' s) (hM : M' + D ≤ M) (hd : 0 ≤ d) (hD : d + t.sz ≤ D) (hi : 0 ≤ i) (hM' : 0 ≤ M): bd M (suT i s t d) := by
  refine walkF_bd (suLeaf i s) M M D (fun u d' hu h0 h1 => ?_) t d hb hd hD
  unfold suLeaf
  split
  · split
    · exact hu
    · split
      · exact bd_le (by omega) _ (shT_bd h0 s 0 hs (Int.le_refl _))
      · rename_i h2 h3
        obtain ⟨k, s', n, l⟩ := u
        have h3' : n ≠ d' + i := fun e => h3 (by rw [show Tm.n (.mk k s' n l) = n from rfl, e]; simp)
        have h2' : ¬ n < d' + i := h2
        exact ⟨fun e => by have := hu.1 e; simp only [Tm.n]; omega, hu.2⟩
  · exact hu
theorem c_subst1 (i d : Int) (s u : Tm) (hs : s.sz ≤ B) (hbs : bd M61 s) (hb : u.k = 3 → 0 - M61 ≤ u.n ∧ u.n ≤ M61) (hd0 : 0 ≤ d) (hd1 : d ≤ M61) (hi0 : 0 ≤ i) (hi1 : i ≤ M61) :
    AC Try.prog 126 [aT u, ci d, .c (.a (.ep 0 1 0 0)), .c (.a (.ep 1 4 0 0))] [obj1 i, .arr 4 [fzs (FT s)]] (aT (suLeaf i s u d)) [obj1 i, .arr 4 [fzs (FT s)]] := by
  obtain ⟨k, t, n, l⟩ := u
  have hsh := c_shift s 0 d hs hbs (Int.le_refl _) (by simp only [M61]; omega) (by omega) hd1
  rw [FT_eta]
  simp only [M61, Tm.k, Tm.n] at *
  refine AC.vc hP sh lv126 (Nat.le_refl _) (by simp [isLive]) (by simp) (Eq.mpr (v126 k t n (FTs l) d i s.k s.s s.n (FTs s.l) _ _) ?_)
  rw [w64 (by omega) (by omega)]
  refine br_of (fun h => ?_) (fun h => br_of (fun h2 => ?_) (fun h2 => br_of (fun h3 => ?_) (fun h3 => ?_)))
  · have e : suLeaf i s (.mk k t n l) d = .mk k t n l := if_neg fun e => by rw [show Tm.k (.mk k t n l) = k from rfl] at e; rw [bne, e] at h; cases h
    rw [e]; exact ⟨.refl _, rfl⟩
  · have hk : (k == 3) = true := by simpa [bne] using h
    have e : suLeaf i s (.mk k t n l) d = .mk k t n l := by rw [suLeaf, if_pos (show (Tm.k (.mk k t n l) == 3) = true from hk), if_pos (show Tm.n (.mk k t n l) < d + i from of_decide_eq_true h2)]
    rw [e]; exact ⟨.refl _, rfl⟩
  · have hk : (k == 3) = true := by simpa [bne] using h
    have e : suLeaf i s (.mk k t n l) d = shT 0 d s 0 := by rw [suLeaf, if_pos (show (Tm.k (.mk k t n l) == 3) = true from hk), if_neg (show ¬ Tm.n (.mk k t n l) < d + i from of_decide_eq_false h2), if_pos (show (Tm.n (.mk k t n l) == d + i) = true from h3)]
    rw [e]; exact ⟨_, hsh, .refl _, rfl⟩
  · have hk : (k == 3) = true := by simpa [bne] using h
    have e : suLeaf i s (.mk k t n l) d = .mk k t (n - 1) l := by rw [suLeaf, if_pos (show (Tm.k (.mk k t n l) == 3) = true from hk), if_neg (show ¬ Tm.n (.mk k t n l) < d + i from of_decide_eq_false h2), if_neg (by rw [show Tm.n (.mk k t n l) = n from rfl, h3]; simp)]; rfl
    have := hb (by simpa using hk)
    rw [e]; exact ⟨_, c_moved (.mk k t n l) (-1) (by simp only [Tm.n]; omega) (by simp only [Tm.n]; omega), .refl _, rfl⟩
theorem c_subst (t s : Tm) (i : Int) (hs : s.sz ≤ B) (ht : t.sz + nd t * s.sz ≤ B) (hb : bd M61 t) (hbs : bd M61 s) (hi0 : 0 ≤ i) (hi1 : i ≤ M61) :
    AC Try.prog 125 [aT t, ci i, aT s] [] (aT (suT i s t 0)) [] := by
  have ht' : t.sz ≤ B := by omega
  have hFT := FT_eta s
  obtain ⟨sk, ss, sn, sl⟩ := s
  have h := c_wSu i sk ss sn sl (suLeaf i (.mk sk ss sn sl)) (fun u _ => bd M61 u ∧ u.sz + nd u * (Tm.mk sk ss sn sl).sz ≤ B) (fun kd s n l d hq hk u hu => ⟨bds_mem hq.1.2 hu, by have h2 := hq.2; have := Nat.mul_le_mul_right (Tm.mk sk ss sn sl).sz (nds_mem hu); have := Tm.szs_mem hu; rw [Tm.sz_eq (.mk kd s n l), nd_eq (.mk kd s n l), Nat.add_mul] at h2; simp only [Tm.l, Tm.s] at h2; omega⟩)
    (fun u d hk hq h0 h1 => c_subst1 i d (.mk sk ss sn sl) u hs hbs (by obtain ⟨k, s, n, l⟩ := u; exact hq.1.1) h0 h1 hi0 hi1)
    (fun u d hq => by have := suT_sz i (.mk sk ss sn sl) u d; have h1 := (suT i (.mk sk ss sn sl) u d).sz_eq; have := Tm.szs_length (suT i (.mk sk ss sn sl) u d).l; have := hq.2; show (suT i (.mk sk ss sn sl) u d).l.length ≤ _; omega)
    t ht' 0 ⟨hb, ht⟩ (Int.le_refl _) (by simp only [B] at ht'; omega)
  obtain ⟨k, s, n, l⟩ := t
  refine AC.vc hP sh lv125 (Nat.le_refl _) (by simp) (by simp) (Eq.mpr (v125 k s n (FTs l) i sk ss sn (FTs sl) _ _) ?_)
  exact ⟨_, h, .refl _, rfl⟩

end Go.AM

set_option maxRecDepth 100000
open Go Go.Proofs
namespace Go.AM

/-! ### Below abstractions -/
def lamsF : Nat → Tm → Tm
  | 0, t => t
  | n + 1, t => lamsF n (.mk 5 [] 0 [t])
theorem l_lamsb (N : Int) (hN : N ≤ 4294967296) : ∀ (m : Nat) (i k : Int) (s : List UInt8) (n : Int) (rows : List (List FV)) (l : List Tm), 0 ≤ i → i + m = N → FV.Le (.sl false 4 rows) (.sl false 4 (FTs l)) →
    RPt Try.prog 43 0 (aT (lamsF m (.mk k s n l))) [] 1 ⟨[(3, .c (.a (.ep 0 4 0 0))), (4, .c (.a (.ep 1 4 0 0))), (6, ci N), (7, ci i)], [(0, .arr 4 [[.a (.fz (.int .i64 k)), .a (.fz (.str s)), .a (.fz (.int .i64 n)), .a (.fz (.sl false 4 rows))]]), (1, .arr 4 [[.a (.fz (.int .i64 0)), .a (.fz (.str [])), .a (.fz (.int .i64 0)), .a (.fz .nils)]])], 2⟩
  | 0, i, k, s, n, rows, l, h0, hi, hle => by
    refine RPt.vc hP sh lv43 (Eq.mpr (v43_1a ..) ?_)
    refine br_of (fun h => absurd (of_decide_eq_true h) (by omega)) (fun _ => ⟨leT hle, rfl⟩)
  | m + 1, i, k, s, n, rows, l, h0, hi, hle => by
    refine RPt.vc hP sh lv43 (Eq.mpr (v43_1a ..) ?_)
    have h2 := l_lamsb N hN m (i + 1) 5 [] 0 [[.int .i64 k, .str s, .int .i64 n, .sl false 4 rows]] [.mk k s n l] (by omega) (by omega) (leRows rfl fun j r t hr ht => by
      match j, hr, ht with
      | 0, hr, ht =>
        simp only [List.getElem?_cons_zero, Option.some.injEq] at hr ht
        subst hr; subst ht
        exact leFT hle
      | j + 1, hr, _ => simp at hr)
    rw [w64 (x := i + 1) (by omega) (by omega)]
    refine br_of (fun _ => ⟨⟨rfl, by omega⟩, ?_⟩) (fun h => absurd (of_decide_eq_false h) (by omega))
    exact h2
theorem foldMax0 {n : Int} (h : 0 ≤ n) : foldMax [n, 0] = n := by
  rw [foldMax2]; unfold maxI; split <;> omega
theorem c_lams (m : Nat) (t : Tm) (hm : m ≤ 4294967296) : AC Try.prog 43 [ci m, aT t] [] (aT (lamsF m t)) [] := by
  obtain ⟨k, s, n, l⟩ := t
  refine AC.vc hP sh lv43 (Nat.le_refl _) (by simp) (by simp) (Eq.mpr (v43 m k s n (FTs l) _ _) ?_)
  rw [foldMax0 (by omega)]
  refine RPt.vc hP sh lv43 (Eq.mpr (v43_1a ..) ?_)
  match m, hm with
  | 0, _ => exact br_of (fun h => absurd (of_decide_eq_true h) (by omega)) (fun _ => ⟨.refl _, rfl⟩)
  | m + 1, hm =>
    refine br_of (fun _ => ⟨⟨rfl, by omega⟩, ?_⟩) (fun h => absurd (of_decide_eq_false h) (by omega))
    exact l_lamsb ((m + 1 : Nat) : Int) (by omega) m 1 5 [] 0 [[.int .i64 k, .str s, .int .i64 n, .sl false 4 (FTs l)]] [.mk k s n l] (by omega) (by omega) (leRows rfl fun j r t hr ht => by
      match j, hr, ht with
      | 0, hr, ht =>
        simp only [List.getElem?_cons_zero, Option.some.injEq] at hr ht
        subst hr; subst ht
        exact leFT (.refl _)
      | j + 1, hr, _ => simp at hr)

/-! ### What may be -/
mutual
def validB : Tm → Bool
  | .mk k s n l =>
    if (k == 0) = true then (isName s || isSym s) && n == 0 && (((FTs l).length : Nat) : Int) == 0
    else if (k == 1) = true then decide (n ≥ 1) && s == [] && (((FTs l).length : Nat) : Int) == 0 && validL l
    else if (k == 2) = true then s == [] && (((FTs l).length : Nat) : Int) == 0 && validL l
    else if (k == 3) = true then decide (n ≥ 0) && decide (n ≤ 4611686018427387904) && s == [] && (((FTs l).length : Nat) : Int) == 0 && validL l
    else if (k == 4) = true then decide (n ≥ 0) && decide (n ≤ 4611686018427387904) && s == [] && (((FTs l).length : Nat) : Int) == 0 && validL l
    else if (k == 5) = true then n == 0 && s == [] && (((FTs l).length : Nat) : Int) == 1 && validL l
    else if (k == 6) = true then n == 0 && decide ((((FTs l).length : Nat) : Int) ≥ 2) && ((l.headD default).k != 6) && s == [] && validL l
    else false
def validL : List Tm → Bool
  | [] => true
  | t :: l => validB t && validL l
end
def badAt : List Tm → Int → Int
  | [], _ => -1
  | t :: l, i => if validB t = true then badAt l (i + 1) else i
theorem badAt_ge : ∀ (l : List Tm) (i : Int), 0 ≤ i → decide (badAt l i ≥ 0) = !validL l
  | [], _, _ => rfl
  | t :: l, i, h => by
    rw [badAt, validL]
    split
    · rename_i e; rw [badAt_ge l (i + 1) (by omega), e, Bool.true_and]
    · rename_i e; rw [show validB t = false by simpa using e]; simp; omega
theorem l_index : ∀ (b a : List Tm), (∀ u ∈ b, AC Try.prog 48 [aT u] [] (cb (!validB u)) []) → (a ++ b).length ≤ B →
    RPt Try.prog 75 0 (ci (badAt b a.length)) [] 1 ⟨[(0, aL (a ++ b)), (1, .c (.fn (.func 48) [] [])), (7, ci (((FTs (a ++ b)).length : Nat) : Int)), (8, ci a.length)], [], 0⟩
  | [], a, _, _ => by
    refine RPt.vc hP sh lv75 (Eq.mpr (v75_F48_1a ..) ?_)
    exact br_of (fun h => absurd (of_decide_eq_true h) (geI' a)) (fun _ => ret_i rfl)
  | t :: b, a, ih, hl => by
    refine RPt.vc hP sh lv75 (Eq.mpr (v75_F48_1a ..) ?_)
    have hl' := hl
    simp only [List.length_append, List.length_cons, B] at hl'
    have h1 := ih t List.mem_cons_self
    have h2 := l_index b (a ++ [t]) (fun u hu => ih u (List.mem_cons_of_mem _ hu)) (by rw [ap]; exact hl)
    have h3 := ltI' a t b
    rw [ap, nx] at h2
    rw [midI, w64 (x := (a.length : Int) + 1) (by omega) (by omega)]
    refine br_of (fun _ => ?_) (fun h => absurd h3 (of_decide_eq_false h))
    obtain ⟨k', s', n', l'⟩ := t
    refine ⟨⟨rfl, by omega, h3, rfl⟩, _, h1, br_of (fun h => ?_) (fun h => ?_)⟩
    · rw [badAt, if_neg (by simpa using h)]; exact ret_i rfl
    · rw [badAt, if_pos (by simpa using h)]; exact h2
theorem c_contf (l : List Tm) (hl : l.length ≤ B) (ih : ∀ u ∈ l, AC Try.prog 26 [aT u] [] (cb (validB u)) []) : AC Try.prog 47 [aL l, .c (.fn (.func 48) [] [])] [] (cb (!validL l)) [] := by
  have h1 : ∀ u ∈ l, AC Try.prog 48 [aT u] [] (cb (!validB u)) [] := fun u hu => by
    have h := ih u hu
    obtain ⟨k, s, n, l⟩ := u
    refine AC.vc hP sh lv48 (Nat.le_refl _) (by simp) (by simp) (Eq.mpr (v48 k s n (FTs l) _ _) ?_)
    exact ⟨_, h, ret_b rfl⟩
  have h2 : AC Try.prog 75 [aL l, .c (.fn (.func 48) [] [])] [] (ci (badAt l 0)) [] := by
    refine AC.vc hP sh lv75 (Nat.le_refl _) (by simp) (by simp) (Eq.mpr (v75_F48 ..) ?_)
    exact ⟨rfl, l_index l [] h1 hl⟩
  refine AC.vc hP sh lv47 (Nat.le_refl _) (by simp) (by simp) (Eq.mpr (v47_F48 ..) ?_)
  exact ⟨_, h2, ret_b (badAt_ge l 0 (Int.le_refl _))⟩
theorem head0 : ∀ {l : List Tm}, 2 ≤ (((FTs l).length : Nat) : Int) → List.getD (FTs l) 0 [] = FT (l.headD default)
  | [], h => by simp [FTs] at h
  | t :: l, _ => rfl
theorem c_valid : ∀ t : Tm, t.sz ≤ B → AC Try.prog 26 [aT t] [] (cb (validB t)) [] := by
  refine Tm.ind fun t ih hs => ?_
  have hlen := Tm.szs_length t.l
  obtain ⟨k, s, n, l⟩ := t
  simp only [Tm.sz, Tm.l] at hs hlen
  have hc := c_contf l (by omega) fun u hu => ih u hu (by have := Tm.szs_mem hu; omega)
  refine AC.vc hP sh lv26 (Nat.le_refl _) (by simp) (by simp) (Eq.mpr (v26 k s n (FTs l) _ _) ?_)
  refine br_of (fun h0 => ⟨_, c_isname s, br_of (fun h1 => br_of (fun h2 => ⟨rfl, ret_b ?_⟩) (fun h2 => ret_b ?_)) (fun h1 => ⟨_, c_issym s, br_of (fun h1' => br_of (fun h2 => ⟨rfl, ret_b ?_⟩) (fun h2 => ret_b ?_)) (fun h1' => ret_b ?_)⟩)⟩)
    (fun h0 => br_of (fun h1 => br_of (fun h2 => br_of (fun h3 => ⟨rfl, br_of (fun h4 => ⟨_, hc, ret_b ?_⟩) (fun h4 => ret_b ?_)⟩) (fun h3 => ret_b ?_)) (fun h2 => ret_b ?_))
    (fun h1 => br_of (fun h2 => br_of (fun h3 => ⟨rfl, br_of (fun h4 => ⟨_, hc, ret_b ?_⟩) (fun h4 => ret_b ?_)⟩) (fun h3 => ret_b ?_))
    (fun h2 => br_of (fun h3 => br_of (fun h4 => br_of (fun h5 => br_of (fun h6 => ⟨rfl, br_of (fun h7 => ⟨_, hc, ret_b ?_⟩) (fun h7 => ret_b ?_)⟩) (fun h6 => ret_b ?_)) (fun h5 => ret_b ?_)) (fun h4 => ret_b ?_))
    (fun h3 => br_of (fun h3' => br_of (fun h4 => br_of (fun h5 => br_of (fun h6 => ⟨rfl, br_of (fun h7 => ⟨_, hc, ret_b ?_⟩) (fun h7 => ret_b ?_)⟩) (fun h6 => ret_b ?_)) (fun h5 => ret_b ?_)) (fun h4 => ret_b ?_))
    (fun h3' => br_of (fun h5 => br_of (fun h6 => br_of (fun h7 => ⟨rfl, br_of (fun h8 => ⟨_, hc, ret_b ?_⟩) (fun h8 => ret_b ?_)⟩) (fun h7 => ret_b ?_)) (fun h6 => ret_b ?_))
    (fun h5 => br_of (fun h6 => br_of (fun h7 => ⟨rfl, br_of (fun h8 => ?app) (fun h8 => ⟨rfl, ret_b ?_⟩)⟩) (fun h7 => ⟨rfl, ret_b ?_⟩)) (fun h6 => ret_b ?_)))))))
  case app =>
    have h8' := of_decide_eq_true h8
    rw [head0 h8', FT_eta]
    refine ⟨⟨rfl, by omega, by omega, rfl⟩, rfl, br_of (fun h9 => br_of (fun h10 => ⟨rfl, br_of (fun h11 => ⟨_, hc, ret_b ?_⟩) (fun h11 => ret_b ?_)⟩) (fun h10 => ret_b ?_)) (fun h9 => ret_b ?_)⟩
    all_goals (have h9' : ((l.headD default).k != 6) = _ := h9; simp_all [validB])
  all_goals first
    | (simp_all [validB]; done)
    | (simp_all [validB]; intros; omega)

end Go.AM

set_option maxRecDepth 100000
open Go Go.Proofs
namespace Go.AM

/-! ### What is not more than is looked at -/
mutual
theorem left_sz : ∀ (t : Tm) (m : Int), 0 ≤ leftF t m → longB t = false → (nd t : Int) ≤ m - leftF t m ∧ t.sz ≤ 61 * nd t
  | .mk _ s _ l, m, h, hl => by
    simp only [longB, Bool.or_eq_false_iff] at hl
    simp only [leftF] at h ⊢
    have := left_szs l (m - 1) h hl.2
    have := of_decide_eq_false hl.1
    simp only [nd, Tm.sz]; omega
theorem left_szs : ∀ (l : List Tm) (m : Int), 0 ≤ leftL l m → longL l = false → (nds l : Int) ≤ m - leftL l m ∧ Tm.szs l ≤ 61 * nds l
  | [], m, h, _ => by simp [nds, leftL, Tm.szs]
  | t :: l, m, h, hl => by
    simp only [longL, Bool.or_eq_false_iff] at hl
    simp only [leftL] at h ⊢
    split at h
    · rename_i h0
      rw [if_pos h0]
      have h1 := left_szs l _ h hl.2
      have h3 := (leftL_le l (leftF t m)).1
      have h2 := left_sz t m (by omega) hl.1
      simp only [nds, Tm.szs]; omega
    · rename_i h0; exact absurd h h0
end
mutual
theorem near_bd {M : Int} : ∀ t : Tm, near M t = true → bd M t
  | .mk k s n l, h => by
    simp only [near, Bool.and_eq_true] at h
    refine ⟨fun e => ?_, nears_bd l h.2⟩
    have := h.1
    rw [e] at this
    simp at this; omega
theorem nears_bd {M : Int} : ∀ l : List Tm, nears M l = true → bds M l
  | [], _ => trivial
  | t :: l, h => by
    simp only [nears, Bool.and_eq_true] at h
    exact ⟨near_bd t h.1, nears_bd l h.2⟩
end
/-- What is looked at. -/
structure Okay (t : Tm) : Prop where
  nodes : nd t ≤ 80
  size : t.sz ≤ 4880
  nums : bd 1099511627776 t
theorem okay {t : Tm} (h : overB t = false) : Okay t := by
  simp only [overB, Bool.or_eq_false_iff, large] at h
  have h1 := of_decide_eq_false h.1.1
  have h2 := left_sz t 80 (by omega) h.1.2
  exact ⟨by omega, by omega, near_bd t (by simpa using h.2)⟩

/-! ### The document's example -/
abbrev exF : Tm := .mk 0 [102] 0 []
abbrev exA : Tm := .mk 0 [97] 0 []
abbrev exB : Tm := applyF exF [.mk 3 [] 0 [], lamsF 1 (.mk 3 [] 1 [])]
end Go.AM

set_option maxRecDepth 100000
open Go Go.Proofs
namespace Go.AM

/-! ### Rows of numbers -/
abbrev aI (l : List Int) : TV := .c (.a (.fz (.sl false 1 (IR l))))
theorem IR_length (l : List Int) : (IR l).length = l.length := by simp [IR]
theorem IR_append (a b : List Int) : IR (a ++ b) = IR a ++ IR b := by simp [IR]
theorem midN (a : List Int) (x : Int) (b : List Int) : List.getD (IR (a ++ x :: b)) (Int.toNat (a.length : Int)) [] = [.int .i64 x] := by
  rw [show Int.toNat (a.length : Int) = a.length by omega]
  simp [List.getD, IR]
theorem ltN (a : List Int) (t : Int) (b : List Int) : (a.length : Int) < (((IR (a ++ t :: b)).length : Nat) : Int) := by rw [IR_length]; exact ltI a t b
def hasI (v : Int) (l : List Int) : Bool := l.any fun x => v == x
def idxI (v : Int) : List Int → Int → Int
  | [], _ => -1
  | x :: l, i => if (v == x) = true then i else idxI v l (i + 1)
theorem idxI_ge (v : Int) : ∀ (l : List Int) (i : Int), 0 ≤ i → decide (idxI v l i ≥ 0) = hasI v l
  | [], _, _ => rfl
  | x :: l, i, h => by
    rw [idxI]
    split
    · rename_i e; simp [hasI, e, h]
    · rename_i e; rw [idxI_ge v l (i + 1) (by omega)]; simp [hasI, show (v == x) = false by simpa using e]
theorem l_iindex (v : Int) : ∀ (b a : List Int), (a ++ b).length ≤ B → RPt Try.prog 85 0 (ci (idxI v b a.length)) [] 1 ⟨[(0, aI (a ++ b)), (1, ci v), (7, ci (((IR (a ++ b)).length : Nat) : Int)), (8, ci a.length)], [], 0⟩
  | [], a, hl => by
    refine RPt.vc hP sh lv85 (Eq.mpr (v85_1a ..) ?_)
    exact br_of (fun h => absurd (of_decide_eq_true h) (by rw [IR_length]; simp)) (fun _ => ret_i rfl)
  | x :: b, a, hl => by
    refine RPt.vc hP sh lv85 (Eq.mpr (v85_1a ..) ?_)
    have hl' := hl
    simp only [List.length_append, List.length_cons, B] at hl'
    have h2 := l_iindex v b (a ++ [x]) (by rw [ap]; exact hl)
    rw [ap, nx] at h2
    rw [midN, w64 (x := (a.length : Int) + 1) (by omega) (by omega)]
    refine br_of (fun _ => ⟨⟨rfl, by omega, ltN a x b, rfl⟩, br_of (fun h => ?_) (fun h => ?_)⟩) (fun h => absurd (ltN a x b) (of_decide_eq_false h))
    · rw [idxI, if_pos (show (v == x) = true from h)]; exact ret_i rfl
    · rw [idxI, if_neg (by rw [show (v == x) = false from h]; simp)]; exact h2
theorem c_icontains (l : List Int) (v : Int) (hl : l.length ≤ B) : AC Try.prog 60 [aI l, ci v] [] (cb (hasI v l)) [] := by
  have h1 : AC Try.prog 85 [aI l, ci v] [] (ci (idxI v l 0)) [] := by
    refine AC.vc hP sh lv85 (Nat.le_refl _) (by simp) (by simp) (Eq.mpr (v85 ..) ?_)
    exact ⟨rfl, l_iindex v l [] hl⟩
  refine AC.vc hP sh lv60 (Nat.le_refl _) (by simp) (by simp) (Eq.mpr (v60 ..) ?_)
  exact ⟨_, h1, ret_b (idxI_ge v l 0 (Int.le_refl _))⟩
/-! ### Variables -/
def varsLeaf (u : Tm) (l : List Int) : List Int := if (u.k == 4 && !hasI u.n l) = true then l ++ [u.n] else l
mutual
def varsF : Tm → List Int → List Int
  | .mk k s n l, acc => if (k == 5 || k == 6) = true then varsL l acc else varsLeaf (.mk k s n l) acc
def varsL : List Tm → List Int → List Int
  | [], acc => acc
  | t :: l, acc => varsL l (varsF t acc)
end
mutual
theorem varsF_ext : ∀ (t : Tm) (acc : List Int), ∃ e, varsF t acc = acc ++ e
  | .mk k s n l, acc => by
    rw [varsF]
    split
    · exact varsL_ext l acc
    · unfold varsLeaf
      split
      · exact ⟨_, rfl⟩
      · exact ⟨[], by simp⟩
theorem varsL_ext : ∀ (l : List Tm) (acc : List Int), ∃ e, varsL l acc = acc ++ e
  | [], acc => ⟨[], by simp [varsL]⟩
  | t :: l, acc => by
    obtain ⟨e, h⟩ := varsF_ext t acc
    obtain ⟨e', h'⟩ := varsL_ext l (varsF t acc)
    exact ⟨e ++ e', by rw [varsL, h', h, List.append_assoc]⟩
end
mutual
theorem varsF_len : ∀ (t : Tm) (acc : List Int), (varsF t acc).length ≤ acc.length + t.sz
  | .mk k s n l, acc => by
    rw [varsF]
    split
    · have := varsL_len l acc; simp only [Tm.sz]; omega
    · unfold varsLeaf
      split
      · simp only [List.length_append, List.length_cons, List.length_nil, Tm.sz]; omega
      · omega
theorem varsL_len : ∀ (l : List Tm) (acc : List Int), (varsL l acc).length ≤ acc.length + Tm.szs l
  | [], acc => by simp [varsL]
  | t :: l, acc => by
    have h1 := varsF_len t acc
    have h2 := varsL_len l (varsF t acc)
    simp only [varsL, Tm.szs]; omega
end
/-- The variable that holds the row: nil, or what it points to. -/
def HsV : List Int → List AObj
  | [] => [.arr 1 [[.a (.fz .nils)]]]
  | x :: l => [.arr 1 [[.a (.osl 1 1 0 (x :: l).length)]], .arz 1 (IR (x :: l))]
/-- ... behind a call that came with l and leaves l'. -/
def HsW (l l' : List Int) : List AObj := if l' = l then HsV l else if l = [] then HsV l' else [.arr 1 [[.a (.osl 2 1 0 l'.length)]], .gone, .arz 1 (IR l')]
theorem HsV_ne {l : List Int} (h : l ≠ []) : HsV l = [.arr 1 [[.a (.osl 1 1 0 l.length)]], .arz 1 (IR l)] := by
  match l, h with
  | x :: l, _ => rfl
theorem HsV_len (l : List Int) : 1 ≤ (HsV l).length := by cases l <;> simp [HsV]
theorem HsV_live : ∀ (l : List Int) (x : AObj), x ∈ HsV l → isLive x
  | [], x, h => by simp [HsV] at h; subst h; trivial
  | y :: l, x, h => by
    simp only [HsV, List.mem_cons, List.not_mem_nil, or_false] at h
    rcases h with rfl | rfl <;> trivial
theorem HsW_nil (l' : List Int) : HsW [] l' = HsV l' := by unfold HsW; split <;> simp_all
theorem HsW_same (l : List Int) : HsW l l = HsV l := if_pos rfl
theorem HsW_more {l l' : List Int} (h : l ≠ []) (h' : l' ≠ l) : HsW l l' = [.arr 1 [[.a (.osl 2 1 0 l'.length)]], .gone, .arz 1 (IR l')] := by rw [HsW, if_neg h', if_neg h]
theorem takeIR (l : List Int) : List.take l.length (List.drop 0 (IR l)) = IR l := by rw [List.drop_zero, List.take_of_length_le (by rw [IR_length]; exact Nat.le_refl _)]
theorem roomN {n : Nat} (h : n ≤ 2199023255552) : roomB n 8 := by unfold roomB; omega
theorem c_vars1 (u : Tm) (k : Int) (l : List Int) (hl : l.length ≤ 2 * B) (hl' : l.length ≤ B) : AC Try.prog 59 [aT u, ci k, .c (.a (.ep 0 1 0 0))] (HsV l) (.tup []) (HsW l (varsLeaf u l)) := by
  have hc := c_icontains l u.n hl'
  obtain ⟨kd, s, n, kl⟩ := u
  simp only [B] at hl hl'
  by_cases hne : l = []
  · subst hne
    rw [HsW_nil]
    refine AC.vc hP sh lv59 (HsV_len _) (HsV_live []) (fun x hx => HsV_live _ x (List.mem_of_mem_drop hx)) (Eq.mpr (v59 kd s n (FTs kl) k _ _) ?_)
    refine br_of (fun h => ⟨_, hc.args ⟨le_c (.nils 1), .refl _, trivial⟩, br_of (fun h1 => ⟨by omega, roomN (by omega), ?_⟩) (fun h1 => ?_)⟩) (fun h => ?_)
    · rw [show varsLeaf (.mk kd s n kl) [] = [n] from if_pos (by simp [Tm.k, Tm.n, hasI] at h ⊢; exact h)]
      exact ⟨.refl _, rfl⟩
    · exact absurd h1 (by simp [hasI])
    · rw [show varsLeaf (.mk kd s n kl) [] = [] from if_neg (by intro e; rw [Bool.and_eq_true] at e; rw [show (Tm.k (.mk kd s n kl) == 4) = false from h] at e; cases e.1)]
      exact ⟨.refl _, rfl⟩
  · have hv := HsV_ne hne
    rw [hv]
    have hw : ∀ l', varsLeaf (.mk kd s n kl) l = l' → l' ≠ l → HsW l (varsLeaf (.mk kd s n kl) l) = [.arr 1 [[.a (.osl 2 1 0 l'.length)]], .gone, .arz 1 (IR l')] := fun l' h h' => by rw [h, HsW_more hne h']
    have hsame : varsLeaf (.mk kd s n kl) l = l → HsW l (varsLeaf (.mk kd s n kl) l) = [.arr 1 [[.a (.osl 1 1 0 l.length)]], .arz 1 (IR l)] := fun h => by rw [h, HsW_same, hv]
    have hdic : varsLeaf (.mk kd s n kl) l = l ∨ varsLeaf (.mk kd s n kl) l = l ++ [n] := by unfold varsLeaf; split <;> simp [Tm.n]
    have hlen : 2 ≤ (HsW l (varsLeaf (.mk kd s n kl) l)).length ∧ (1 : Nat) = 1 := by
      rcases hdic with h | h
      · rw [hsame h]; simp
      · rw [hw _ h (by simp)]; simp
    refine AC.vc hP sh lv59 hlen.1 (by simp [isLive]) (by
      rcases hdic with h | h
      · rw [hsame h]; simp
      · rw [hw _ h (by simp)]; simp [isLive]) (Eq.mpr (v59_i1 kd s n (FTs kl) k l.length (IR l) _ _) ?_)
    rw [takeIR]
    refine br_of (fun h => ⟨⟨rfl, by rw [IR_length]; omega⟩, _, hc.args ⟨le_c (.nn _ _ _), .refl _, trivial⟩, rfl, br_of (fun h1 => ⟨by omega, ⟨by rw [IR_length]; omega, roomN (by omega)⟩, ?_⟩) (fun h1 => ?_)⟩) (fun h => ?_)
    · have e : varsLeaf (.mk kd s n kl) l = l ++ [n] := if_pos (by rw [show (Tm.k (.mk kd s n kl) == 4) = true from h]; simpa [Tm.n] using h1)
      rw [hw _ e (by simp), IR_append, List.take_of_length_le (by rw [IR_length]; omega), List.length_append]
      exact ⟨.refl _, rfl⟩
    · rw [hsame (if_neg (by intro e; rw [Bool.and_eq_true] at e; rw [show (!hasI (Tm.n (.mk kd s n kl)) l) = false from h1] at e; cases e.2))]
      exact ⟨.refl _, rfl⟩
    · rw [hsame (if_neg (by intro e; rw [Bool.and_eq_true] at e; rw [show (Tm.k (.mk kd s n kl) == 4) = false from h] at e; cases e.1))]
      exact ⟨.refl _, rfl⟩

end Go.AM

set_option maxRecDepth 100000
open Go Go.Proofs
namespace Go.AM

abbrev tellV : TV := .c (.fn (.func 59) [] [(false, [.ep 0 1 0 0])])
abbrev eV (k by_ : Int) (v : FV) (n i : Int) : Env := [(1, ci k), (2, tellV), (7, ci by_), (27, .c (.a (.fz v))), (28, ci n), (29, ci i)]
/-- The state of the loop where the row was nil before the call. -/
def sV1 (k by_ : Int) (v : FV) (n i : Int) : List Int → St
  | [] => ⟨eV k by_ v n i, [(0, .arr 1 [[.a (.fz .nils)]])], 1⟩
  | x :: l => ⟨eV k by_ v n i, [(0, .arr 1 [[.a (.osl 1 1 0 (x :: l).length)]]), (1, .arz 1 (IR (x :: l)))], 2⟩
theorem l_eachV1 (k by_ : Int) (h0 : 0 ≤ k) (hby : 0 ≤ by_) (hby1 : by_ ≤ 1) (hk : k ≤ 2305843009213693952) : ∀ (b a : List Tm) (v : FV) (acc : List Int), v.ses = FTs (a ++ b) → v.isSl 4 = true →
    (∀ u ∈ b, ∀ acc : List Int, acc.length + u.sz ≤ B → AC Try.prog 58 [aT u, ci (k + by_), tellV] (HsV acc) (.tup []) (HsW acc (varsF u acc))) → (a ++ b).length ≤ B → acc.length + Tm.szs b ≤ B →
    RPt Try.prog 58 1 (.tup []) (HsV (varsL b acc)) 1 (sV1 k by_ v (a ++ b).length a.length acc)
  | [], a, v, acc, hv, hs, _, hl, ha => by
    match acc with
    | [] =>
      refine RPt.vc hP sh lv58 (Eq.mpr (v58_F59_1a ..) ?_)
      exact br_of (fun h => absurd (of_decide_eq_true h) (by simp)) (fun _ => ⟨.refl _, rfl⟩)
    | x :: l =>
      refine RPt.vc hP sh lv58 (Eq.mpr (v58_F59_1c ..) ?_)
      exact br_of (fun h => absurd (of_decide_eq_true h) (by simp)) (fun _ => ⟨.refl _, rfl⟩)
  | t :: b, a, v, acc, hv, hs, ih, hl, ha => by
    have hl' := hl
    simp only [List.length_append, List.length_cons, B] at hl'
    simp only [Tm.szs] at ha
    have h1 := ih t List.mem_cons_self acc (by omega)
    have hlen := varsF_len t acc
    have h2 := l_eachV1 k by_ h0 hby hby1 hk b (a ++ [t]) v (varsF t acc) (by rw [ap]; exact hv) hs (fun u hu => ih u (List.mem_cons_of_mem _ hu)) (by rw [ap]; exact hl) (by omega)
    have h3 := ltI' a t b
    rw [ap, nx] at h2
    rw [varsL]
    obtain ⟨k', s', n', l'⟩ := t
    match acc, h1, h2, hlen with
    | [], h1, h2, _ =>
      refine RPt.vc hP sh lv58 (Eq.mpr (v58_F59_1a ..) ?_)
      rw [hv, midI, w64 (x := (a.length : Int) + 1) (by omega) (by omega), w64 (x := k + by_) (by omega) (by omega)]
      refine br_of (fun _ => ⟨⟨hs, by omega, h3, rfl⟩, ?_⟩) (fun h => absurd (ltI a (Tm.mk k' s' n' l') b) (of_decide_eq_false h))
      rw [HsW_nil] at h1
      generalize varsF (.mk k' s' n' l') [] = acc' at h1 h2 ⊢
      match acc', h1, h2 with
      | [], h1, h2 => exact .inr (.inl ⟨(), h1, h2⟩)
      | y :: m, h1, h2 => exact .inr (.inr (.inl ⟨((y :: m).length, IR (y :: m)), h1, h2⟩))
    | x :: l, h1, h2, _ =>
      refine RPt.vc hP sh lv58 (Eq.mpr (v58_F59_1c ..) ?_)
      rw [hv, midI, w64 (x := (a.length : Int) + 1) (by omega) (by omega), w64 (x := k + by_) (by omega) (by omega)]
      refine br_of (fun _ => ⟨⟨hs, by omega, h3, rfl⟩, ?_⟩) (fun h => absurd (ltI a (Tm.mk k' s' n' l') b) (of_decide_eq_false h))
      obtain ⟨e, he⟩ := varsF_ext (.mk k' s' n' l') (x :: l)
      by_cases hsame : varsF (.mk k' s' n' l') (x :: l) = x :: l
      · rw [hsame, HsW_same] at h1
        rw [hsame] at h2 ⊢
        exact .inr (.inr (.inl ⟨((x :: l).length, IR (x :: l)), h1, h2⟩))
      · rw [HsW_more (by simp) hsame] at h1
        generalize varsF (.mk k' s' n' l') (x :: l) = acc' at h1 h2 he ⊢
        subst he
        exact .inr (.inr (.inr ⟨(((x :: l) ++ e).length, IR ((x :: l) ++ e)), h1, h2⟩))
/-- ... where there was one: it is still there, or another one took its place. -/
theorem l_eachV2b (k by_ : Int) (h0 : 0 ≤ k) (hby : 0 ≤ by_) (hby1 : by_ ≤ 1) (hk : k ≤ 2305843009213693952) (l0 : List Int) (hne : l0 ≠ []) : ∀ (b a : List Tm) (v : FV) (acc : List Int), v.ses = FTs (a ++ b) → v.isSl 4 = true →
    (∀ u ∈ b, ∀ acc : List Int, acc.length + u.sz ≤ B → AC Try.prog 58 [aT u, ci (k + by_), tellV] (HsV acc) (.tup []) (HsW acc (varsF u acc))) → (a ++ b).length ≤ B → acc.length + Tm.szs b ≤ B → l0.length < acc.length →
    RPt Try.prog 58 2 (.tup []) (HsW l0 (varsL b acc)) 1 ⟨eV k by_ v (a ++ b).length a.length, [(0, .arr 1 [[.a (.osl 2 1 0 acc.length)]]), (1, .gone), (2, .arz 1 (IR acc))], 3⟩
  | [], a, v, acc, hv, hs, _, hl, ha, hlt => by
    refine RPt.vc hP sh lv58 (Eq.mpr (v58_F59_i1_1d ..) ?_)
    rw [varsL, HsW_more hne (fun e => by rw [e] at hlt; omega)]
    exact br_of (fun h => absurd (of_decide_eq_true h) (by simp)) (fun _ => ⟨.refl _, rfl⟩)
  | t :: b, a, v, acc, hv, hs, ih, hl, ha, hlt => by
    have hl' := hl
    simp only [List.length_append, List.length_cons, B] at hl'
    simp only [Tm.szs] at ha
    have h1 := ih t List.mem_cons_self acc (by omega)
    have hlen := varsF_len t acc
    obtain ⟨e, he⟩ := varsF_ext t acc
    have h2 := l_eachV2b k by_ h0 hby hby1 hk l0 hne b (a ++ [t]) v (varsF t acc) (by rw [ap]; exact hv) hs (fun u hu => ih u (List.mem_cons_of_mem _ hu)) (by rw [ap]; exact hl) (by omega) (by rw [he, List.length_append]; omega)
    have h3 := ltI' a t b
    have hacc : acc ≠ [] := by intro e; rw [e] at hlt; simp at hlt
    rw [ap, nx] at h2
    rw [varsL]
    obtain ⟨k', s', n', l'⟩ := t
    refine RPt.vc hP sh lv58 (Eq.mpr (v58_F59_i1_1d ..) ?_)
    rw [hv, midI, w64 (x := (a.length : Int) + 1) (by omega) (by omega), w64 (x := k + by_) (by omega) (by omega)]
    refine br_of (fun _ => ⟨⟨hs, by omega, h3, rfl⟩, ?_⟩) (fun h => absurd (ltI a (Tm.mk k' s' n' l') b) (of_decide_eq_false h))
    rw [HsV_ne hacc] at h1
    by_cases hsame : varsF (.mk k' s' n' l') acc = acc
    · rw [hsame, HsW_same, HsV_ne hacc] at h1
      rw [hsame] at h2 ⊢
      exact .inr (.inr (.inl ⟨(acc.length, IR acc), h1, h2⟩))
    · rw [HsW_more hacc hsame] at h1
      exact .inr (.inr (.inr ⟨((varsF (.mk k' s' n' l') acc).length, IR (varsF (.mk k' s' n' l') acc)), h1, h2⟩))
theorem l_eachV2a (k by_ : Int) (h0 : 0 ≤ k) (hby : 0 ≤ by_) (hby1 : by_ ≤ 1) (hk : k ≤ 2305843009213693952) (l0 : List Int) (hne : l0 ≠ []) : ∀ (b a : List Tm) (v : FV), v.ses = FTs (a ++ b) → v.isSl 4 = true →
    (∀ u ∈ b, ∀ acc : List Int, acc.length + u.sz ≤ B → AC Try.prog 58 [aT u, ci (k + by_), tellV] (HsV acc) (.tup []) (HsW acc (varsF u acc))) → (a ++ b).length ≤ B → l0.length + Tm.szs b ≤ B →
    RPt Try.prog 58 2 (.tup []) (HsW l0 (varsL b l0)) 1 ⟨eV k by_ v (a ++ b).length a.length, [(0, .arr 1 [[.a (.osl 1 1 0 l0.length)]]), (1, .arz 1 (IR l0))], 2⟩
  | [], a, v, hv, hs, _, hl, ha => by
    refine RPt.vc hP sh lv58 (Eq.mpr (v58_F59_i1_1a ..) ?_)
    rw [varsL, HsW_same, HsV_ne hne]
    exact br_of (fun h => absurd (of_decide_eq_true h) (by simp)) (fun _ => ⟨.refl _, rfl⟩)
  | t :: b, a, v, hv, hs, ih, hl, ha => by
    have hl' := hl
    simp only [List.length_append, List.length_cons, B] at hl'
    simp only [Tm.szs] at ha
    have h1 := ih t List.mem_cons_self l0 (by omega)
    have hlen := varsF_len t l0
    obtain ⟨e, he⟩ := varsF_ext t l0
    have h3 := ltI' a t b
    have ihb := fun u hu => ih u (List.mem_cons_of_mem t hu)
    have h2 := l_eachV2a k by_ h0 hby hby1 hk l0 hne b (a ++ [t]) v (by rw [ap]; exact hv) hs ihb (by rw [ap]; exact hl) (by omega)
    have h4 := l_eachV2b k by_ h0 hby hby1 hk l0 hne b (a ++ [t]) v (varsF t l0) (by rw [ap]; exact hv) hs ihb (by rw [ap]; exact hl) (by omega)
    rw [ap, nx] at h2 h4
    rw [varsL]
    obtain ⟨k', s', n', l'⟩ := t
    refine RPt.vc hP sh lv58 (Eq.mpr (v58_F59_i1_1a ..) ?_)
    rw [hv, midI, w64 (x := (a.length : Int) + 1) (by omega) (by omega), w64 (x := k + by_) (by omega) (by omega)]
    refine br_of (fun _ => ⟨⟨hs, by omega, h3, rfl⟩, ?_⟩) (fun h => absurd (ltI a (Tm.mk k' s' n' l') b) (of_decide_eq_false h))
    rw [HsV_ne hne] at h1
    by_cases hsame : varsF (.mk k' s' n' l') l0 = l0
    · rw [hsame, HsW_same, HsV_ne hne] at h1
      rw [hsame]
      exact .inr (.inr (.inl ⟨(l0.length, IR l0), h1, h2⟩))
    · have h4 := h4 (by
        rw [he, List.length_append]
        cases e with
        | nil => exact absurd (by simpa using he) hsame
        | cons y e => simp)
      rw [HsW_more hne hsame] at h1
      exact .inr (.inr (.inr ⟨((varsF (.mk k' s' n' l') l0).length, IR (varsF (.mk k' s' n' l') l0)), h1, h4⟩))
theorem HsW_len (l l' : List Int) : (HsV l).length ≤ (HsW l l').length := by
  by_cases h : l = []
  · subst h; rw [HsW_nil]; exact HsV_len l'
  · by_cases h' : l' = l
    · rw [h', HsW_same]; exact Nat.le_refl _
    · rw [HsW_more h h', HsV_ne h]; simp
theorem HsW_live (l l' : List Int) : ∀ x ∈ (HsW l l').drop (HsV l).length, isLive x := by
  by_cases h : l = []
  · subst h; rw [HsW_nil]; exact fun x hx => HsV_live _ x (List.mem_of_mem_drop hx)
  · by_cases h' : l' = l
    · rw [h', HsW_same]; simp
    · rw [HsW_more h h', HsV_ne h]; simp [isLive]
theorem c_eachV : ∀ t : Tm, t.sz ≤ B → ∀ (k : Int) (acc : List Int), 0 ≤ k → k + t.sz ≤ 2305843009213693952 → acc.length + t.sz ≤ B → AC Try.prog 58 [aT t, ci k, tellV] (HsV acc) (.tup []) (HsW acc (varsF t acc)) := by
  refine Tm.ind fun t ih hs k acc h0 h1 ha => ?_
  have hw := c_within t
  have hk := kidsV_ses t
  have hlen := Tm.szs_length t.l
  have hv1 := c_vars1 t k acc (by omega) (by omega)
  obtain ⟨kd, s, n, l⟩ := t
  simp only [Tm.sz, B, Tm.l] at hs hlen ha
  simp only [Tm.sz] at h1
  have ihl : ∀ by_ : Int, 0 ≤ by_ → by_ ≤ 1 → ∀ u ∈ l, ∀ acc : List Int, acc.length + u.sz ≤ B → AC Try.prog 58 [aT u, ci (k + by_), tellV] (HsV acc) (.tup []) (HsW acc (varsF u acc)) := fun by_ hb0 hb1 u hu acc ha => ih u hu (by have := Tm.szs_mem hu; simp only [B]; omega) (k + by_) acc (by omega) (by have := Tm.szs_mem hu; omega) ha
  have leaf : (kd == 5) = false → (kd == 6) = false → varsF (.mk kd s n l) acc = varsLeaf (.mk kd s n l) acc := fun e1 e2 => by rw [varsF, if_neg (by rw [e1, e2]; simp)]
  have inn : (kd == 5 || kd == 6) = true → varsF (.mk kd s n l) acc = varsL l acc := fun e => by rw [varsF, if_pos e]
  have kids : (kd == 5 || kd == 6) = true → Tm.kids (.mk kd s n l) = l := fun e => if_pos e
  by_cases hne : acc = []
  · subst hne
    refine AC.vc hP sh lv58 (HsW_len _ _) (HsV_live _) (HsW_live _ _) (Eq.mpr (v58_F59 kd s n (FTs l) k _ _) ?_)
    have key : ∀ by_ : Int, 0 ≤ by_ → by_ ≤ 1 → Tm.kids (.mk kd s n l) = l → RPt Try.prog 58 1 (.tup []) (HsV (varsL l [])) 1 ⟨eV k by_ (kidsV (.mk kd s n l)) l.length 0, [(0, .arr 1 [[.a (.fz .nils)]])], 1⟩ := by
      intro by_ hb0 hb1 hkids
      exact l_eachV1 k by_ h0 hb0 hb1 (by omega) l [] (kidsV (.mk kd s n l)) [] (by rw [hk.1, hkids]; rfl) hk.2 (ihl by_ hb0 hb1) (by simp only [List.nil_append, B]; omega) (by simp only [B, List.length_nil]; omega)
    rw [HsW_nil]
    refine br_of (fun h => br_of (fun h2 => ?_) (fun h2 => ⟨_, _, hw, hk.2, ?_⟩)) (fun h => ⟨_, _, hw, hk.2, ?_⟩)
    · have e1 : (kd == 5) = false := by simpa using h
      have e2 : (kd == 6) = false := by simpa using h2
      rw [leaf e1 e2]
      rw [HsW_nil] at hv1
      generalize varsLeaf (.mk kd s n l) [] = acc' at hv1 ⊢
      match acc', hv1 with
      | [], hv1 => exact .inl ⟨(), hv1, .refl _, rfl⟩
      | y :: m, hv1 => exact .inr (.inl ⟨((y :: m).length, IR (y :: m)), hv1, .refl _, rfl⟩)
    · have e1 : (kd == 5) = false := by simpa using h
      have e2 : (kd == 6) = true := by simpa using h2
      have hin : (kd == 5 || kd == 6) = true := by rw [e2]; simp
      rw [inn hin, hk.1, kids hin, lenI, show Tm.by (.mk kd s n l) = 0 by unfold Tm.by; simp only [Tm.k, e1, Bool.false_eq_true, if_false]]
      exact key 0 (by omega) (by omega) (kids hin)
    · have e1 : (kd == 5) = true := by simpa using h
      have hin : (kd == 5 || kd == 6) = true := by rw [e1]; simp
      rw [inn hin, hk.1, kids hin, lenI, show Tm.by (.mk kd s n l) = 1 by unfold Tm.by; simp only [Tm.k, e1, if_true]]
      exact key 1 (by omega) (by omega) (kids hin)
  · have hvv := HsV_ne hne
    refine AC.vc hP sh lv58 (HsW_len _ _) (HsV_live _) (HsW_live _ _) ?_
    rw [hvv] at hv1 ⊢
    refine Eq.mpr (v58_F59_i1 kd s n (FTs l) k acc.length (IR acc) _ _) ?_
    have key : ∀ by_ : Int, 0 ≤ by_ → by_ ≤ 1 → Tm.kids (.mk kd s n l) = l → RPt Try.prog 58 2 (.tup []) (HsW acc (varsL l acc)) 1 ⟨eV k by_ (kidsV (.mk kd s n l)) l.length 0, [(0, .arr 1 [[.a (.osl 1 1 0 acc.length)]]), (1, .arz 1 (IR acc))], 2⟩ := by
      intro by_ hb0 hb1 hkids
      exact l_eachV2a k by_ h0 hb0 hb1 (by omega) acc hne l [] (kidsV (.mk kd s n l)) (by rw [hk.1, hkids]; rfl) hk.2 (ihl by_ hb0 hb1) (by simp only [List.nil_append, B]; omega) (by simp only [B]; omega)
    refine br_of (fun h => br_of (fun h2 => ?_) (fun h2 => ⟨_, _, hw, hk.2, ?_⟩)) (fun h => ⟨_, _, hw, hk.2, ?_⟩)
    · have e1 : (kd == 5) = false := by simpa using h
      have e2 : (kd == 6) = false := by simpa using h2
      rw [leaf e1 e2]
      by_cases hsame : varsLeaf (.mk kd s n l) acc = acc
      · rw [hsame, HsW_same, hvv] at hv1 ⊢
        exact .inr (.inl ⟨(acc.length, IR acc), hv1, .refl _, rfl⟩)
      · rw [HsW_more hne hsame] at hv1 ⊢
        exact .inr (.inr ⟨((varsLeaf (.mk kd s n l) acc).length, IR (varsLeaf (.mk kd s n l) acc)), hv1, .refl _, rfl⟩)
    · have e1 : (kd == 5) = false := by simpa using h
      have e2 : (kd == 6) = true := by simpa using h2
      have hin : (kd == 5 || kd == 6) = true := by rw [e2]; simp
      rw [inn hin, hk.1, kids hin, lenI, show Tm.by (.mk kd s n l) = 0 by unfold Tm.by; simp only [Tm.k, e1, Bool.false_eq_true, if_false]]
      exact key 0 (by omega) (by omega) (kids hin)
    · have e1 : (kd == 5) = true := by simpa using h
      have hin : (kd == 5 || kd == 6) = true := by rw [e1]; simp
      rw [inn hin, hk.1, kids hin, lenI, show Tm.by (.mk kd s n l) = 1 by unfold Tm.by; simp only [Tm.k, e1, if_true]]
      exact key 1 (by omega) (by omega) (kids hin)
theorem c_vars (t : Tm) (hs : t.sz ≤ B) : AC Try.prog 36 [aT t] [] (aI (varsF t [])) [] := by
  have h := c_eachV t hs 0 [] (Int.le_refl _) (by simp only [B] at hs; omega) (by simpa using hs)
  rw [HsW_nil] at h
  obtain ⟨k, s, n, l⟩ := t
  refine AC.vc hP sh lv36 (Nat.le_refl _) (by simp) (by simp) (Eq.mpr (v36 k s n (FTs l) _ _) ?_)
  generalize varsF (.mk k s n l) [] = acc at h ⊢
  match acc, h with
  | [], h => exact .inr (.inl ⟨(), h, le_c (.nils 1), rfl⟩)
  | x :: m, h =>
    refine .inr (.inr (.inl ⟨((x :: m).length, IR (x :: m)), h, ⟨rfl, by rw [IR_length]; omega⟩, ?_, rfl⟩))
    rw [takeIR]
    exact le_c (.nn _ _ _)

end Go.AM

set_option maxRecDepth 100000
open Go Go.Proofs
namespace Go.AM

/-! ### The document's answers: letters -/
theorem sign_any (c : UInt8) : signB (c.toNat : Int) = signs.any fun x => ((x.toNat : Int) == (c.toNat : Int)) := by
  have key : ∀ n : Fin 256, signB (n.val : Int) = signs.any fun x => ((x.toNat : Int) == (n.val : Int)) := by decide +kernel
  exact key ⟨c.toNat, c.toNat_lt⟩
theorem sym_eq (s : List UInt8) : isSym s = (s == [44] || s == [59] || s == [33] || ((s.all fun c => signB (c.toNat : Int)) && decide ((s.length : Int) ≥ 1) && decide ((s.length : Int) ≤ 32))) := by
  match s with
  | [] => rfl
  | [c] =>
    have key : ∀ n : Fin 256, isSym [n.val.toUInt8] = ([n.val.toUInt8] == [44] || [n.val.toUInt8] == [59] || [n.val.toUInt8] == [33] || (([n.val.toUInt8].all fun c => signB (c.toNat : Int)) && decide ((([n.val.toUInt8].length : Nat) : Int) ≥ 1) && decide ((([n.val.toUInt8].length : Nat) : Int) ≤ 32))) := by decide +kernel
    have e : c.toNat.toUInt8 = c := by simp
    have := key ⟨c.toNat, c.toNat_lt⟩
    simp only [e] at this
    exact this
  | c :: d :: s =>
    have h2 : ∀ x : UInt8, ((c :: d :: s : List UInt8) == [x]) = false := fun x => by simp
    simp only [isSym, fitsB, h2, Bool.false_or]
    rw [show (((c :: d :: s).length : Int) == 1) = false by simp; omega, show decide (((c :: d :: s).length : Int) ≥ 1) = true by simp; omega]
    simp [Bool.and_comm]
end Go.AM

set_option maxRecDepth 100000
open Go Go.Proofs
namespace Go.AM

/-! ### The document's answers: terms -/
/-! Valid. -/
/-! Same. -/
end Go.AM

set_option maxRecDepth 100000
open Go Go.Proofs
namespace Go.AM

/-! Size, looseness, variables. -/
mutual
def looseR : Tm → Int → Int
  | .mk kd _ n l, k => if (kd == 3) = true then maxI 0 (n - k + 1) else if (kd == 5 || kd == 6) = true then looseRL l (k + if (kd == 5) = true then 1 else 0) else 0
def looseRL : List Tm → Int → Int
  | [], _ => 0
  | t :: l, k => maxI (looseR t k) (looseRL l k)
end
theorem maxI_assoc (a b c : Int) : maxI (maxI a b) c = maxI a (maxI b c) := by
  unfold maxI; (repeat' split) <;> omega
theorem maxI0 {a : Int} (h : 0 ≤ a) : maxI a 0 = a := by unfold maxI; split <;> omega
theorem maxI_ge2 (a b : Int) : b ≤ maxI a b := by unfold maxI; split <;> omega
theorem looseRL_ge : ∀ (l : List Tm) (k : Int), 0 ≤ looseRL l k
  | [], _ => Int.le_refl _
  | t :: l, k => by rw [looseRL]; exact Int.le_trans (looseRL_ge l k) (maxI_ge2 _ _)
theorem maxI_ge (a b : Int) : a ≤ maxI a b := by unfold maxI; split <;> omega
mutual
theorem loose_acc : ∀ (t : Tm) (k acc : Int), 0 ≤ acc → looseF t k acc = maxI acc (looseR t k)
  | .mk kd _ n l, k, acc, h => by
    simp only [looseF, looseR]
    by_cases h5 : (kd == 5) = true
    · have e : kd = 5 := by simpa using h5
      subst e
      simp [loose_accs l _ acc h]
    · by_cases h6 : (kd == 6) = true
      · have e : kd = 6 := by simpa using h6
        subst e
        simp [loose_accs l _ acc h]
      · have e5 : (kd == 5) = false := by simpa using h5
        have e6 : (kd == 6) = false := by simpa using h6
        rw [if_neg h5, if_neg h6]
        by_cases h3 : (kd == 3) = true
        · rw [if_pos h3, if_pos h3, ← maxI_assoc, maxI0 h]
        · rw [if_neg h3, if_neg h3, if_neg (by rw [e5, e6]; simp), maxI0 h]
theorem loose_accs : ∀ (l : List Tm) (k acc : Int), 0 ≤ acc → looseL l k acc = maxI acc (looseRL l k)
  | [], _, acc, h => by rw [looseL, looseRL, maxI0 h]
  | t :: l, k, acc, h => by
    have h1 := loose_acc t k acc h
    rw [looseL, looseRL, h1, loose_accs l k _ (Int.le_trans h (maxI_ge _ _)), maxI_assoc]
end
end Go.AM

set_option maxRecDepth 100000
open Go Go.Proofs
namespace Go.AM

/-! ### How often something is bound -/
mutual
def occF : Tm → Int → Nat
  | .mk k _ n l, i => if (k == 3) = true ∧ (n == i) = true then 1 else occL l (i + if (k == 5) = true then 1 else 0)
def occL : List Tm → Int → Nat
  | [], _ => 0
  | t :: l, i => occF t i + occL l i
end
mutual
theorem occF_le : ∀ (t : Tm) (i : Int), occF t i ≤ t.sz
  | .mk k s n l, i => by
    rw [occF]
    have := occL_le l (i + if (k == 5) = true then 1 else 0)
    split <;> simp only [Tm.sz] <;> omega
theorem occL_le : ∀ (l : List Tm) (i : Int), occL l i ≤ Tm.szs l
  | [], _ => Nat.le_refl _
  | t :: l, i => by have := occF_le t i; have := occL_le l i; simp only [occL, Tm.szs]; omega
end
theorem l_occurs (i : Int) : ∀ (b a : List Tm) (acc : Nat), (∀ u ∈ b, AC Try.prog 124 [aT u, ci i] [] (ci (occF u i)) []) → (a ++ b).length ≤ B → acc + occL b i ≤ 2 * B →
    RPt Try.prog 124 0 (ci ((acc + occL b i : Nat) : Int)) [] 3 ⟨[(1, ci i), (5, ci acc), (21, aL (a ++ b)), (22, ci (((FTs (a ++ b)).length : Nat) : Int)), (23, ci a.length)], [], 0⟩
  | [], a, acc, _, _, _ => by
    refine RPt.vc hP sh lv124 (Eq.mpr (v124_3a ..) ?_)
    exact br_of (fun h => absurd (of_decide_eq_true h) (geI' a)) (fun _ => ret_i (by simp [occL]))
  | t :: b, a, acc, ih, hl, ha => by
    have hl' := hl
    simp only [List.length_append, List.length_cons, B] at hl'
    simp only [occL, B] at ha
    have h1 := ih t List.mem_cons_self
    have h2 := l_occurs i b (a ++ [t]) (acc + occF t i) (fun u hu => ih u (List.mem_cons_of_mem _ hu)) (by rw [ap]; exact hl) (by simp only [B]; omega)
    have h3 := ltI' a t b
    rw [ap, nx] at h2
    refine RPt.vc hP sh lv124 (Eq.mpr (v124_3a ..) ?_)
    rw [midI, w64 (x := (a.length : Int) + 1) (by omega) (by omega)]
    refine br_of (fun _ => ?_) (fun h => absurd h3 (of_decide_eq_false h))
    rw [occL, ← Nat.add_assoc]
    obtain ⟨k', s', n', l'⟩ := t
    refine ⟨⟨rfl, by omega, h3, rfl⟩, _, h1, ?_⟩
    rw [w64 (by omega) (by omega), show (acc : Int) + ((occF (.mk k' s' n' l') i : Nat) : Int) = ((acc + occF (.mk k' s' n' l') i : Nat) : Int) by omega]
    exact h2
theorem c_occurs : ∀ t : Tm, t.sz ≤ B → ∀ i : Int, 0 - 2305843009213693952 ≤ i → i + t.sz ≤ 2305843009213693952 → AC Try.prog 124 [aT t, ci i] [] (ci (occF t i)) [] := by
  refine Tm.ind fun t ih hs i h0 h1 => ?_
  have hlen := Tm.szs_length t.l
  obtain ⟨k, s, n, l⟩ := t
  simp only [Tm.sz, Tm.l, B] at hs hlen h1
  have loop : ∀ j : Int, 0 - 2305843009213693952 ≤ j → j + Tm.szs l ≤ 2305843009213693952 → RPt Try.prog 124 0 (ci (occL l j)) [] 3 ⟨[(1, ci j), (5, ci 0), (21, aL l), (22, ci (((FTs l).length : Nat) : Int)), (23, ci 0)], [], 0⟩ := fun j hj0 hj1 => by
    have hle := occL_le l j
    have := l_occurs j l [] 0 (fun u hu => ih u hu (by have := Tm.szs_mem hu; simp only [B]; omega) j hj0 (by have := Tm.szs_mem hu; omega)) (by simp only [List.nil_append, B]; omega) (by simp only [B]; omega)
    rw [Nat.zero_add] at this
    exact this
  refine AC.vc hP sh lv124 (Nat.le_refl _) (by simp) (by simp) (Eq.mpr (v124 k s n (FTs l) i _ _) ?_)
  have no : ∀ (c : ¬ ((k == 3) = true ∧ (n == i) = true)), occF (.mk k s n l) i = occL l (i + if (k == 5) = true then 1 else 0) := fun c => by rw [occF, if_neg c]
  refine br_of (fun h => br_of (fun h2 => ret_i ?_) (fun h2 => ⟨rfl, ?_⟩)) (fun h => br_of (fun h2 => ⟨rfl, ?_⟩) (fun h2 => ⟨rfl, ?_⟩))
  · rw [occF, if_pos ⟨h, h2⟩]; rfl
  · have e : k = 3 := by simpa using h
    rw [no (fun c => by rw [c.2] at h2; cases h2)]
    subst e
    rw [show (i + if ((3 : Int) == 5) = true then 1 else 0) = i by simp]
    exact loop i (by omega) (by omega)
  · rw [no (fun c => by rw [c.1] at h; cases h), if_pos h2, w64 (by omega) (by omega)]
    exact loop (i + 1) (by omega) (by omega)
  · rw [no (fun c => by rw [c.1] at h; cases h), if_neg (by rw [h2]; simp), Int.add_zero]
    exact loop i (by omega) (by omega)
/-! Copies. -/
theorem c_clone : (∀ es : List (List FV), es ≠ [] → es.length ≤ B → AC Try.prog 81 [.c (.a (.fz (.sl false 4 es)))] [] (.c (.a (.osl 0 4 0 es.length))) [.arz 4 es]) ∧ AC Try.prog 81 [.c (.a (.fz (.sl false 4 [])))] [] (.c (.a (.fz (.sl false 4 [])))) [] := by
  have h0 : AC Try.prog 81 [.c (.a (.fz .nils))] [] (.c (.a (.fz .nils))) [] := by
    refine AC.vc hP sh lv81 (Nat.le_refl _) (by simp) (by simp) (Eq.mpr (v81 ..) ?_)
    exact ⟨.refl _, rfl⟩
  have h1 : ∀ es : List (List FV), es.length ≤ B → AC Try.prog 81 [.c (.a (.fz (.sl true 4 es)))] [] (.c (.a (.osl 0 4 0 es.length))) [.arz 4 es] := fun es hl => by
    refine AC.vc hP sh lv81 (by simp) (by simp) (by simp [isLive]) (Eq.mpr (v81_i1 ..) ?_)
    refine ⟨rfl, ⟨by omega, by rw [Nat.zero_add]; exact roomI (by simp only [B] at hl; omega)⟩, ?_⟩
    rw [Nat.zero_add]
    exact ⟨.refl _, rfl⟩
  exact AC.clone_le h0 h1
/-! The document's. -/
theorem c_boccurs (t : Tm) (hs : t.sz ≤ B) (i : Int) (h0 : 0 - 2305843009213693952 ≤ i) (h1 : i + t.sz ≤ 2305843009213693952) : AC Try.prog 118 [aT t, ci i] [] (ci (if validB t = true then (occF t i : Int) else 0)) [] := by
  have hv := c_valid t hs
  have ho := c_occurs t hs i h0 h1
  obtain ⟨k, s, n, l⟩ := t
  refine AC.vc hP sh lv118 (Nat.le_refl _) (by simp) (by simp) (Eq.mpr (v118 k s n (FTs l) i _ _) ?_)
  refine ⟨_, hv, br_of (fun h => ret_i ?_) (fun h => ⟨_, ho, ret_i ?_⟩)⟩
  · rw [if_neg (by simpa using h)]
  · rw [if_pos (by simpa using h)]

end Go.AM

set_option maxRecDepth 100000
open Go Go.Proofs
namespace Go.AM

/-! ### A body with an argument -/
/-- A term and an error's number. -/
abbrev aTE (t : Tm) (e : Int) : TV := .tup [(true, [.a (.fz (.int .i64 t.k)), .a (.fz (.str t.s)), .a (.fz (.int .i64 t.n)), .a (.fz (.sl false 4 (FTs t.l)))]), (false, [.a (.fz (.int .i64 e))])]
abbrev noT : Tm := .mk 0 [] 0 []
theorem leTE {k n e : Int} {s : List UInt8} {x : FV} {l : List Tm} (h : FV.Le x (.sl false 4 (FTs l))) : TV.Le (.tup [(true, [.a (.fz (.int .i64 k)), .a (.fz (.str s)), .a (.fz (.int .i64 n)), .a (.fz x)]), (false, [.a (.fz (.int .i64 e))])]) (aTE (.mk k s n l) e) := by
  refine .tup _ _ rfl fun i p q hp hq => ?_
  match i, hp, hq with
  | 0, hp, hq =>
    simp only [List.getElem?_cons_zero, Option.some.injEq] at hp hq
    subst hp; subst hq
    refine ⟨rfl, rfl, fun j x y hx hy => ?_⟩
    match j, hx, hy with
    | 0, hx, hy => simp at hx hy; subst hx; subst hy; exact .refl _
    | 1, hx, hy => simp at hx hy; subst hx; subst hy; exact .refl _
    | 2, hx, hy => simp at hx hy; subst hx; subst hy; exact .refl _
    | 3, hx, hy => simp at hx hy; subst hx; subst hy; exact .a _ _ (.fz _ _ h)
    | j + 4, hx, _ => simp at hx
  | 1, hp, hq =>
    simp only [List.getElem?_cons_zero, List.getElem?_cons_succ, Option.some.injEq] at hp hq
    subst hp; subst hq
    refine ⟨rfl, rfl, fun j x y hx hy => ?_⟩
    match j, hx, hy with
    | 0, hx, hy => simp at hx hy; subst hx; subst hy; exact .refl _
    | j + 1, hx, _ => simp at hx
  | i + 2, hp, _ => simp at hp
/-- Is there room? -/
def roomT (body arg : Tm) : Bool := !decide ((sizeF body : Int) + (occF body 0 : Int) * (sizeF arg : Int) > 4096)
def conF (body arg : Tm) : Tm := if roomT body arg = true then suT 0 arg body 0 else noT
def conE (body arg : Tm) : Int := if roomT body arg = true then 0 else 80

end Go.AM

set_option maxRecDepth 100000
open Go Go.Proofs
namespace Go.AM

/-! ### Redexes -/
def hd (l : List Tm) : Tm := l.headD default
def redexB (t : Tm) : Bool := t.k == 6 && (hd t.l).k == 5
mutual
/-- Its kinds have as many within as they must. -/
def okB : Tm → Bool
  | .mk k s n l => (if (k == 6) = true then decide (2 ≤ l.length) && (hd l).k != 6 && (s == [] && n == 0) else if (k == 5) = true then decide (l.length = 1) && (s == [] && n == 0) else decide (l.length = 0)) && okL l
def okL : List Tm → Bool
  | [] => true
  | t :: l => okB t && okL l
end
theorem okL_mem : ∀ {l : List Tm} {t : Tm}, okL l = true → t ∈ l → okB t = true
  | x :: l, t, h, hm => by
    simp only [okL, Bool.and_eq_true] at h
    rcases List.mem_cons.1 hm with rfl | hm
    · exact h.1
    · exact okL_mem h.2 hm
theorem okL_of : ∀ {l : List Tm}, (∀ t ∈ l, okB t = true) → okL l = true
  | [], _ => rfl
  | t :: l, h => by simp only [okL, h t List.mem_cons_self, okL_of (l := l) fun u hu => h u (List.mem_cons_of_mem _ hu), Bool.and_self]
theorem okB6 {k n : Int} {s : List UInt8} {l : List Tm} (h : okB (.mk k s n l) = true) (hk : k = 6) : ∃ x y r, l = x :: y :: r ∧ x.k ≠ 6 ∧ okL l = true := by
  subst hk
  simp only [okB, Bool.and_eq_true] at h
  match l, h with
  | [], h => simp at h
  | [x], h => simp at h
  | x :: y :: r, h => exact ⟨x, y, r, rfl, by have := h.1; simp [hd] at this; exact this.1, h.2⟩
theorem okB5 {k n : Int} {s : List UInt8} {l : List Tm} (h : okB (.mk k s n l) = true) (hk : k = 5) : ∃ x, l = [x] ∧ okB x = true := by
  subst hk
  simp only [okB, Bool.and_eq_true] at h
  match l, h with
  | [], h => simp at h
  | [x], h => exact ⟨x, rfl, by have := h.2; simpa [okL] using this⟩
  | x :: y :: r, h => simp at h
theorem okB0 {k n : Int} {s : List UInt8} {l : List Tm} (h : okB (.mk k s n l) = true) (h5 : k ≠ 5) (h6 : k ≠ 6) : l = [] := by
  simp only [okB, Bool.and_eq_true] at h
  have := h.1
  rw [if_neg (by simpa using h6), if_neg (by simpa using h5)] at this
  exact List.eq_nil_of_length_eq_zero (by simpa using this)
theorem okB_sn {k n : Int} {s : List UInt8} {l : List Tm} (h : okB (.mk k s n l) = true) (hk : k = 5 ∨ k = 6) : s = [] ∧ n = 0 := by
  simp only [okB, Bool.and_eq_true] at h
  have h := h.1
  rcases hk with rfl | rfl
  · simp at h; exact h.2
  · simp at h; exact h.2
theorem okB_l {t : Tm} (h : okB t = true) : okL t.l = true := by
  obtain ⟨k, s, n, l⟩ := t
  simp only [okB, Bool.and_eq_true] at h; exact h.2
mutual
theorem valid_ok : ∀ t : Tm, validB t = true → okB t = true
  | .mk k s n l, h => by
    rw [okB]
    have hl := valid_okL l
    rw [validB] at h
    split at h
    · rename_i e
      have e : k = 0 := by simpa using e
      subst e
      rw [lenI] at h
      have : l = [] := by simp at h; exact h.2
      subst this; rfl
    split at h
    · rename_i e
      have e : k = 1 := by simpa using e
      subst e
      rw [lenI] at h
      have : l = [] := by simp at h; exact h.1.2
      subst this; rfl
    split at h
    · rename_i e
      have e : k = 2 := by simpa using e
      subst e
      rw [lenI] at h
      have : l = [] := by simp at h; exact h.1.2
      subst this; rfl
    split at h
    · rename_i e
      have e : k = 3 := by simpa using e
      subst e
      rw [lenI] at h
      have : l = [] := by simp at h; exact h.1.2
      subst this; rfl
    split at h
    · rename_i e
      have e : k = 4 := by simpa using e
      subst e
      rw [lenI] at h
      have : l = [] := by simp at h; exact h.1.2
      subst this; rfl
    split at h
    · rename_i e
      have e : k = 5 := by simpa using e
      subst e
      rw [lenI] at h
      simp only [Bool.and_eq_true, beq_iff_eq] at h
      have h1 : l.length = 1 := by have := h.1.2; omega
      rw [hl h.2]
      simp [h1, h.1.1.1, h.1.1.2]
    split at h
    · rename_i e
      have e : k = 6 := by simpa using e
      subst e
      rw [lenI] at h
      simp only [Bool.and_eq_true, decide_eq_true_eq, beq_iff_eq] at h
      have h1 : 2 ≤ l.length := by have := h.1.1.1.2; omega
      have h2 : ((hd l).k != 6) = true := h.1.1.2
      rw [hl h.2, h2]
      simp [h1, h.1.1.1.1, h.1.2]
    · cases h
theorem valid_okL : ∀ l : List Tm, validL l = true → okL l = true
  | [], _ => rfl
  | t :: l, h => by
    simp only [validL, Bool.and_eq_true] at h
    simp only [okL, valid_ok t h.1, valid_okL l h.2, Bool.and_self]
end
theorem ok_ne {t : Tm} (h : okB t = true) : t.k = 6 → t.l ≠ [] := by
  obtain ⟨k, s, n, l⟩ := t
  intro hk
  obtain ⟨x, y, r, e, _⟩ := okB6 h hk
  show l ≠ []
  rw [e]; simp
/-! ### Normal -/
mutual
def normB : Tm → Bool
  | .mk k s n l => !redexB (.mk k s n l) && normL l
def normL : List Tm → Bool
  | [] => true
  | t :: l => normB t && normL l
end
def rednAt : List Tm → Int → Int
  | [], _ => -1
  | t :: l, i => if normB t = true then rednAt l (i + 1) else i
theorem rednAt_ge : ∀ (l : List Tm) (i : Int), 0 ≤ i → decide (rednAt l i ≥ 0) = !normL l
  | [], _, _ => rfl
  | t :: l, i, h => by
    rw [rednAt, normL]
    split
    · rename_i e; rw [rednAt_ge l (i + 1) (by omega), e, Bool.true_and]
    · rename_i e; rw [show normB t = false by simpa using e]; simp; omega
end Go.AM

set_option maxRecDepth 100000
open Go Go.Proofs
namespace Go.AM

/-! ### The document's: applied, with others within, shifted, put in -/
/-- No term's cells. -/
abbrev zT : List WV := [.a (.fz (.int .i64 0)), .a (.fz (.str [])), .a (.fz (.int .i64 0)), .a (.fz .nils)]
theorem apply_some (k : Int) (s : List UInt8) (n : Int) (l : List Tm) (a : Tm) (r : List Tm) : applyF (.mk k s n l) (a :: r) = if (k == 6) = true ∧ l ≠ [] then .mk 6 [] 0 (l ++ a :: r) else .mk 6 [] 0 (.mk k s n l :: a :: r) := rfl
end Go.AM

set_option maxRecDepth 100000
open Go Go.Proofs
namespace Go.AM

mutual
theorem nd_sz : ∀ t : Tm, nd t = t.sz
  | .mk _ _ _ l => by simp only [nd, Tm.sz, nds_szs l]
theorem nds_szs : ∀ l : List Tm, nds l = Tm.szs l
  | [] => rfl
  | t :: l => by simp only [nds, Tm.szs, nd_sz t, nds_szs l]
end
mutual
theorem ok_size : ∀ t : Tm, okB t = true → sizeF t = t.sz
  | .mk k s n l, h => by
    have hl := ok_sizes l (okB_l h)
    by_cases h6 : k = 6
    · subst h6; simp [sizeF, Tm.sz, hl]
    · by_cases h5 : k = 5
      · subst h5; simp [sizeF, Tm.sz, hl]
      · have : l = [] := okB0 h h5 h6
        subst this
        simp [sizeF, Tm.sz, sizeL, Tm.szs]
theorem ok_sizes : ∀ l : List Tm, okL l = true → sizeL l = Tm.szs l
  | [], _ => rfl
  | t :: l, h => by
    simp only [okL, Bool.and_eq_true] at h
    simp only [sizeL, Tm.szs, ok_size t h.1, ok_sizes l h.2]
end
/-- How large a term may be in what follows. -/
def SZ : Nat := 67108864
theorem room_sz {body arg : Tm} (ob : okB body = true) (oa : okB arg = true) (hr : roomT body arg = true) (ha : arg.sz ≤ SZ) : body.sz + nd body * arg.sz ≤ B ∧ body.sz + occF body 0 * arg.sz ≤ 4096 := by
  have h1 : ((sizeF body : Int) + (occF body 0 : Int) * (sizeF arg : Int) ≤ 4096) := by
    have : (!decide ((sizeF body : Int) + (occF body 0 : Int) * (sizeF arg : Int) > 4096)) = true := hr
    simp only [Bool.not_eq_true', decide_eq_false_iff_not] at this
    omega
  rw [ok_size body ob, ok_size arg oa, nd_sz] at *
  have h0 : body.sz + occF body 0 * arg.sz ≤ 4096 := by
    have : ((body.sz + occF body 0 * arg.sz : Nat) : Int) ≤ 4096 := by rw [Int.natCast_add, Int.natCast_mul]; exact h1
    omega
  have h2 : body.sz ≤ 4096 := by omega
  have h3 := Nat.mul_le_mul h2 ha
  simp only [SZ] at h3
  exact ⟨by simp only [B]; omega, h0⟩
theorem zm_le {body arg : Tm} (hb : body.sz ≤ 1073741824) (ha : arg.sz ≤ 1073741824) : 0 ≤ (occF body 0 : Int) * (sizeF arg : Int) ∧ (occF body 0 : Int) * (sizeF arg : Int) ≤ 1152921504606846976 := by
  have := Nat.mul_le_mul (Nat.le_trans (occF_le body 0) hb) (Nat.le_trans (sizeF_le arg) ha)
  exact ⟨Int.mul_nonneg (by omega) (by omega), by omega⟩
theorem c_bcontr (body arg : Tm) (ob : okB body = true) (oa : okB arg = true) (hb : body.sz ≤ SZ) (ha : arg.sz ≤ SZ) (db : bd M61 body) (da : bd M61 arg) : AC Try.prog 117 [aT body, aT arg] [] (aTE (conF body arg) (conE body arg)) [] := by
  simp only [SZ] at hb ha
  have h1 := c_size body (by simp only [B]; omega)
  have h2 := c_occurs body (by simp only [B]; omega) 0 (by omega) (by omega)
  have h3 := c_size arg (by simp only [B]; omega)
  have h4 := fun hr => c_subst body arg 0 (by simp only [B]; omega) (room_sz ob oa hr (by simp only [SZ]; omega)).1 db da (by omega) (by simp only [M61]; omega)
  have z1 := sizeF_le body
  have z2 := zm_le (body := body) (arg := arg) (by omega) (by omega)
  have cF : ∀ b, roomT body arg = b → conF body arg = (if b = true then suT 0 arg body 0 else noT) ∧ conE body arg = (if b = true then 0 else 80) := fun b h => by unfold conF conE; rw [h]; exact ⟨rfl, rfl⟩
  have hf : roomT body arg = !decide ((sizeF body : Int) + (occF body 0 : Int) * (sizeF arg : Int) > 4096) := rfl
  obtain ⟨k, s, n, l⟩ := body
  obtain ⟨k', s', n', l'⟩ := arg
  refine AC.vc hP sh lv117 (Nat.le_refl _) (by simp) (by simp) (Eq.mpr (v117 k s n (FTs l) k' s' n' (FTs l') _ _) ?_)
  refine ⟨_, h1, _, h2, _, h3, ?_⟩
  rw [w64 (x := (occF (.mk k s n l) 0 : Int) * (sizeF (.mk k' s' n' l') : Int)) (by omega) (by omega), w64 (by omega) (by omega)]
  refine br_of (fun h => ?_) (fun h => ?_)
  · obtain ⟨e1, e2⟩ := cF false (by rw [hf, h]; rfl)
    rw [e1, e2]
    exact ⟨leTE leNil, rfl⟩
  · obtain ⟨e1, e2⟩ := cF true (by rw [hf, h]; rfl)
    rw [e1, e2]
    exact ⟨_, h4 (by rw [hf, h]; rfl), .refl _, rfl⟩
theorem c_bcontract (body arg : Tm) (hb : body.sz ≤ SZ) (ha : arg.sz ≤ SZ) (db : bd M61 body) (da : bd M61 arg) : AC Try.prog 109 [aT body, aT arg] [] (if (validB body && validB arg) = true then aTE (conF body arg) (conE body arg) else aTE noT 1) [] := by
  have h1 := c_valid body (by simp only [SZ, B] at *; omega)
  have h2 := c_valid arg (by simp only [SZ, B] at *; omega)
  have h3 := fun ob oa => c_bcontr body arg (valid_ok body ob) (valid_ok arg oa) hb ha db da
  obtain ⟨k, s, n, l⟩ := body
  obtain ⟨k', s', n', l'⟩ := arg
  refine AC.vc hP sh lv109 (Nat.le_refl _) (by simp) (by simp) (Eq.mpr (v109 k s n (FTs l) k' s' n' (FTs l') _ _) ?_)
  refine ⟨_, h1, br_of (fun h => ?_) (fun h => ⟨_, h2, br_of (fun h' => ?_) (fun h' => ?_)⟩)⟩
  · rw [if_neg (by rw [show validB (.mk k s n l) = false by simpa using h]; simp)]
    exact ⟨leTE leNil, rfl⟩
  · rw [if_neg (by rw [show validB (.mk k' s' n' l') = false by simpa using h']; simp)]
    exact ⟨leTE leNil, rfl⟩
  · have e1 : validB (.mk k s n l) = true := by simpa using h
    have e2 : validB (.mk k' s' n' l') = true := by simpa using h'
    rw [if_pos (by rw [e1, e2]; rfl)]
    exact ⟨(_, _), h3 e1 e2, .refl _, rfl⟩
/-! ### One step -/
theorem redex_shape {t : Tm} (ho : okB t = true) (hr : redexB t = true) : ∃ s n s1 n1 body arg rest, t = .mk 6 s n (.mk 5 s1 n1 [body] :: arg :: rest) ∧ okB body = true ∧ okB arg = true ∧ okL rest = true := by
  obtain ⟨k, s, n, l⟩ := t
  simp only [redexB, Tm.k, Tm.l, Bool.and_eq_true, beq_iff_eq] at hr
  obtain ⟨rfl, h5⟩ := hr
  obtain ⟨x, y, r, rfl, _, hl⟩ := okB6 ho rfl
  simp only [okL, Bool.and_eq_true] at hl
  obtain ⟨k', s', n', l'⟩ := x
  have h5 : k' = 5 := h5
  subst h5
  obtain ⟨b, rfl, hb⟩ := okB5 hl.1 rfl
  exact ⟨s, n, s', n', b, y, r, rfl, hb, hl.2.1, hl.2.2⟩
mutual
def stepF : Tm → Tm × Int
  | .mk k s n l => if redexB (.mk k s n l) = true then (if roomT (hd (hd l).l) (hd l.tail) = true then (applyF (suT 0 (hd l.tail) (hd (hd l).l) 0) (l.drop 2), 1) else (noT, 2))
    else if (stepL l).2 = 0 then (.mk k s n l, 0) else if (stepL l).2 = 1 then (.mk k [] 0 (stepL l).1, 1) else (noT, 2)
def stepL : List Tm → List Tm × Int
  | [] => ([], 0)
  | t :: l => if (stepF t).2 = 0 then (t :: (stepL l).1, (stepL l).2) else ((stepF t).1 :: l, (stepF t).2)
end
mutual
theorem stepF_n : ∀ t : Tm, (stepF t).2 = 0 ∨ (stepF t).2 = 1 ∨ (stepF t).2 = 2
  | .mk k s n l => by
    rw [stepF]
    split
    · split
      · exact .inr (.inl rfl)
      · exact .inr (.inr rfl)
    · split
      · exact .inl rfl
      · split
        · exact .inr (.inl rfl)
        · exact .inr (.inr rfl)
theorem stepL_n : ∀ l : List Tm, (stepL l).2 = 0 ∨ (stepL l).2 = 1 ∨ (stepL l).2 = 2
  | [] => .inl rfl
  | t :: l => by
    rw [stepL]
    split
    · exact stepL_n l
    · exact stepF_n t
end
theorem stepF_leaf {t : Tm} (ho : okB t = true) (h5 : t.k ≠ 5) (h6 : t.k ≠ 6) : stepF t = (t, 0) := by
  obtain ⟨k, s, n, l⟩ := t
  have : l = [] := okB0 ho h5 h6
  subst this
  rw [stepF, if_neg (by simp only [redexB, Tm.k, Bool.and_eq_true, beq_iff_eq]; exact fun e => h6 e.1)]
  rfl
/-- The head of what is no redex has no step. -/
theorem stepF_hd {k n : Int} {s : List UInt8} {x : Tm} {l : List Tm} (ho : okB (.mk k s n (x :: l)) = true) (hr : redexB (.mk k s n (x :: l)) = false) (hk : k = 6) : stepF x = (x, 0) := by
  obtain ⟨y, z, r, e, h6, hl⟩ := okB6 ho hk
  injection e with e1 e2
  subst e1
  subst hk
  simp only [okL, Bool.and_eq_true] at hl
  refine stepF_leaf hl.1 (fun e => ?_) h6
  have : redexB (.mk 6 s n (x :: l)) = true := by simp only [redexB, Tm.k, Tm.l, hd, List.headD_cons, Bool.and_eq_true, beq_iff_eq]; exact ⟨trivial, e⟩
  rw [hr] at this; cases this
abbrev aSt (u : Tm) (n : Int) : TV := .tup [(true, cT u), (false, [.a (.fz (.bool (n != 0)))]), (false, [.a (.fz (.int .i64 (if n = 2 then 80 else 0)))])]
theorem leSt {k n e : Int} {b : Bool} {s : List UInt8} {x : FV} {l : List Tm} (h : FV.Le x (.sl false 4 (FTs l))) : TV.Le (.tup [(true, [.a (.fz (.int .i64 k)), .a (.fz (.str s)), .a (.fz (.int .i64 n)), .a (.fz x)]), (false, [.a (.fz (.bool b))]), (false, [.a (.fz (.int .i64 e))])]) (.tup [(true, cT (.mk k s n l)), (false, [.a (.fz (.bool b))]), (false, [.a (.fz (.int .i64 e))])]) := by
  refine .tup _ _ rfl fun i p q hp hq => ?_
  match i, hp, hq with
  | 0, hp, hq =>
    simp only [List.getElem?_cons_zero, Option.some.injEq] at hp hq
    subst hp; subst hq
    refine ⟨rfl, rfl, fun j x y hx hy => ?_⟩
    match j, hx, hy with
    | 0, hx, hy => simp at hx hy; subst hx; subst hy; exact .refl _
    | 1, hx, hy => simp at hx hy; subst hx; subst hy; exact .refl _
    | 2, hx, hy => simp at hx hy; subst hx; subst hy; exact .refl _
    | 3, hx, hy => simp at hx hy; subst hx; subst hy; exact .a _ _ (.fz _ _ h)
    | j + 4, hx, _ => simp at hx
  | 1, hp, hq =>
    simp only [List.getElem?_cons_zero, List.getElem?_cons_succ, Option.some.injEq] at hp hq
    subst hp; subst hq
    exact ⟨rfl, rfl, fun j x y hx hy => by rw [hx] at hy; injection hy with hy; subst hy; exact .refl _⟩
  | 2, hp, hq =>
    simp only [List.getElem?_cons_zero, List.getElem?_cons_succ, Option.some.injEq] at hp hq
    subst hp; subst hq
    exact ⟨rfl, rfl, fun j x y hx hy => by rw [hx] at hy; injection hy with hy; subst hy; exact .refl _⟩
  | i + 3, hp, _ => simp at hp
theorem el0 (x : Tm) (l : List Tm) : FV.isSl 4 (.sl false 4 (FTs (x :: l))) = true ∧ ((0 : Int) ≤ 0 ∧ ((0 : Int) < (((FTs (x :: l)).length : Nat) : Int) ∧ (rE (List.getD (FTs (x :: l)) 0 []) : List FV) = List.getD (FTs (x :: l)) 0 [])) := ⟨rfl, Int.le_refl _, by rw [lenI]; simp only [List.length_cons]; omega, rE_FT x⟩
theorem el1 (x y : Tm) (l : List Tm) : FV.isSl 4 (.sl false 4 (FTs (x :: y :: l))) = true ∧ ((0 : Int) ≤ 1 ∧ ((1 : Int) < (((FTs (x :: y :: l)).length : Nat) : Int) ∧ (rE (List.getD (FTs (x :: y :: l)) 1 []) : List FV) = List.getD (FTs (x :: y :: l)) 1 [])) := ⟨rfl, by omega, by rw [lenI]; simp only [List.length_cons]; omega, rE_FT y⟩
theorem set_mid (a : List Tm) (t : Tm) (b : List Tm) (u : Tm) : List.set (FTs (a ++ t :: b)) (0 + Int.toNat (a.length : Int)) (FT4 u) = FTs (a ++ u :: b) := by
  rw [Nat.zero_add, toNat_len, FT4_eq, FTs_set]
  congr 1
  simp
theorem leTB {k n : Int} {b : Bool} {s : List UInt8} {x : FV} {l : List Tm} (h : FV.Le x (.sl false 4 (FTs l))) : TV.Le (.tup [(true, [.a (.fz (.int .i64 k)), .a (.fz (.str s)), .a (.fz (.int .i64 n)), .a (.fz x)]), (false, [.a (.fz (.bool b))])]) (.tup [(true, cT (.mk k s n l)), (false, [.a (.fz (.bool b))])]) := by
  refine .tup _ _ rfl fun i p q hp hq => ?_
  match i, hp, hq with
  | 0, hp, hq =>
    simp only [List.getElem?_cons_zero, Option.some.injEq] at hp hq
    subst hp; subst hq
    refine ⟨rfl, rfl, fun j x y hx hy => ?_⟩
    match j, hx, hy with
    | 0, hx, hy => simp at hx hy; subst hx; subst hy; exact .refl _
    | 1, hx, hy => simp at hx hy; subst hx; subst hy; exact .refl _
    | 2, hx, hy => simp at hx hy; subst hx; subst hy; exact .refl _
    | 3, hx, hy => simp at hx hy; subst hx; subst hy; exact .a _ _ (.fz _ _ h)
    | j + 4, hx, _ => simp at hx
  | 1, hp, hq =>
    simp only [List.getElem?_cons_zero, List.getElem?_cons_succ, Option.some.injEq] at hp hq
    subst hp; subst hq
    exact ⟨rfl, rfl, fun j x y hx hy => by rw [hx] at hy; injection hy with hy; subst hy; exact .refl _⟩
  | i + 2, hp, _ => simp at hp
/-! The document's. -/
theorem not_t {b : Bool} (h : (!b) = true) : b = false := by cases b <;> simp_all
theorem not_f {b : Bool} (h : (!b) = false) : b = true := by cases b <;> simp_all
abbrev aRs (u : Tm) (n : Int) : TV := .tup [(true, cT u), (false, [.a (.fz (.int .i64 n))])]
end Go.AM

set_option maxRecDepth 100000
open Go Go.Proofs
namespace Go.AM

/-! ### What steps make: kinds, sizes, numbers -/
theorem applyF_ok {f : Tm} {args : List Tm} (hf : okB f = true) (ha : okL args = true) : okB (applyF f args) = true := by
  match args, ha with
  | [], _ => exact hf
  | a :: r, ha =>
    obtain ⟨k, s, n, l⟩ := f
    rw [apply_some]
    split
    · rename_i h
      have hk : k = 6 := by simpa using h.1
      obtain ⟨x, y, r', rfl, h6, hl⟩ := okB6 hf hk
      have hall : okL ((x :: y :: r') ++ a :: r) = true := okL_of fun t ht => by
        rcases List.mem_append.1 ht with ht | ht
        · exact okL_mem hl ht
        · exact okL_mem ha ht
      have h6' : (x.k != 6) = true := by simpa using h6
      rw [okB, hall]
      simp [hd, h6]
    · rename_i h
      have h6 : k ≠ 6 := fun e => h ⟨by simpa using e, ok_ne hf e⟩
      have hall : okL (.mk k s n l :: a :: r) = true := by simp only [okL, Bool.and_eq_true] at ha ⊢; exact ⟨hf, ha⟩
      rw [okB, hall]
      simp [hd, Tm.k, h6]
theorem withF_ok {k n : Int} {s : List UInt8} {l o : List Tm} (h : okB (.mk k s n l) = true) (hk : k = 5 ∨ k = 6) (ho : okL o = true) (hlen : o.length = l.length) : okB (withF (.mk k s n l) o) = true := by
  obtain ⟨rfl, rfl⟩ := okB_sn h hk
  unfold withF
  split
  · rename_i hc
    match o, ho, hc with
    | [], _, hc => simp at hc
    | x :: r, ho, hc =>
      simp only [okL, Bool.and_eq_true] at ho
      exact applyF_ok ho.1 ho.2
  · rename_i hc
    show okB (.mk k [] 0 o) = true
    rcases hk with rfl | rfl
    · obtain ⟨x, rfl, _⟩ := okB5 h rfl
      rw [okB, ho]; simp only [List.length_cons, List.length_nil] at hlen; simp [hlen]
    · obtain ⟨x, y, r, rfl, h6, _⟩ := okB6 h rfl
      have h1 : ¬ (hd o).k = 6 := fun e => hc ⟨rfl, by rw [hlen]; simp, by simpa [hd] using e, show (x.k != 6) = true by simpa using h6⟩
      rw [okB, ho]; simp only [List.length_cons] at hlen; simp [hlen, h1]
mutual
theorem walkF_ok (lf : Tm → Int → Tm) (h : ∀ u d, okB u = true → u.k ≠ 5 → u.k ≠ 6 → okB (lf u d) = true) : ∀ (t : Tm) (d : Int), okB t = true → okB (walkF lf t d) = true
  | .mk k s n l, d, ho => by
    rw [walkF]
    split
    · rename_i hk
      exact withF_ok ho (by simpa using hk) (walkL_ok lf h l _ (okB_l ho)) (walkL_length ..)
    · rename_i hk
      exact h _ _ ho (fun e => hk (by simp [show k = 5 from e])) (fun e => hk (by simp [show k = 6 from e]))
theorem walkL_ok (lf : Tm → Int → Tm) (h : ∀ u d, okB u = true → u.k ≠ 5 → u.k ≠ 6 → okB (lf u d) = true) : ∀ (l : List Tm) (d : Int), okL l = true → okL (walkL lf l d) = true
  | [], _, _ => rfl
  | t :: l, d, ho => by
    simp only [okL, Bool.and_eq_true] at ho
    simp only [walkL, okL, walkF_ok lf h t d ho.1, walkL_ok lf h l d ho.2, Bool.and_self]
end
theorem okB_leaf {k n m : Int} {s : List UInt8} {l : List Tm} (h : okB (.mk k s n l) = true) (h5 : k ≠ 5) (h6 : k ≠ 6) : okB (.mk k s m l) = true := by
  have : l = [] := okB0 h h5 h6
  subst this
  simp [okB, h5, h6, okL]
theorem shT_ok {fr by_ : Int} {t : Tm} (d : Int) (h : okB t = true) : okB (shT fr by_ t d) = true := by
  refine walkF_ok _ (fun u d hu h5 h6 => ?_) t d h
  unfold shLeaf
  split
  · obtain ⟨k, s, n, l⟩ := u; exact okB_leaf hu h5 h6
  · exact hu
theorem suT_ok {i : Int} {s t : Tm} (d : Int) (hs : okB s = true) (h : okB t = true) : okB (suT i s t d) = true := by
  refine walkF_ok _ (fun u d hu h5 h6 => ?_) t d h
  unfold suLeaf
  split
  · split
    · exact hu
    · split
      · exact shT_ok _ hs
      · obtain ⟨k, s, n, l⟩ := u; exact okB_leaf hu h5 h6
  · exact hu
mutual
theorem suT_occ (i : Int) (s : Tm) : ∀ (t : Tm) (d : Int), (suT i s t d).sz ≤ t.sz + occF t (d + i) * s.sz
  | .mk k s' n l, d => by
    rw [suT, walkF]
    split
    · rename_i hk
      have h1 := suT_occs i s l (d + if (k == 5) = true then 1 else 0)
      have h2 := withF_sz (.mk k s' n l) (walkL (suLeaf i s) l (d + if (k == 5) = true then 1 else 0))
      have h3 : occF (.mk k s' n l) (d + i) = occL l (d + (if (k == 5) = true then 1 else 0) + i) := by
        rw [occF, if_neg (by rintro ⟨e, _⟩; have : k = 3 := by simpa using e
                             subst this; simp at hk)]
        congr 1; omega
      rw [h3]
      simp only [Tm.sz]; omega
    · unfold suLeaf
      rw [occF]
      split
      · rename_i h3
        split
        · omega
        · split
          · rename_i h4
            have h5 := shT_sz 0 d s 0
            rw [if_pos ⟨h3, h4⟩]; omega
          · simp only [Tm.sz, Tm.l]; omega
      · omega
theorem suT_occs (i : Int) (s : Tm) : ∀ (l : List Tm) (d : Int), Tm.szs (walkL (suLeaf i s) l d) ≤ Tm.szs l + occL l (d + i) * s.sz
  | [], _ => by simp [walkL, Tm.szs]
  | t :: l, d => by
    have h1 := suT_occ i s t d
    have h2 := suT_occs i s l d
    have h1 : (walkF (suLeaf i s) t d).sz ≤ t.sz + occF t (d + i) * s.sz := h1
    simp only [walkL, Tm.szs, occL, Nat.add_mul]; omega
end
theorem stepL_app : ∀ (a b : List Tm), (∀ u ∈ a, (stepF u).2 = 0) → stepL (a ++ b) = (a ++ (stepL b).1, (stepL b).2)
  | [], b, _ => rfl
  | x :: a, b, h => by
    have := stepL_app a b fun u hu => h u (List.mem_cons_of_mem _ hu)
    rw [List.cons_append, stepL, if_pos (h x List.mem_cons_self), this]; rfl
theorem stepL_hit {t : Tm} (b : List Tm) (h : (stepF t).2 ≠ 0) : stepL (t :: b) = ((stepF t).1 :: b, (stepF t).2) := by rw [stepL, if_neg h]
theorem stepF_non {k n : Int} {s : List UInt8} {l : List Tm} (h : redexB (.mk k s n l) = false) : stepF (.mk k s n l) = (if (stepL l).2 = 0 then (.mk k s n l, 0) else if (stepL l).2 = 1 then (.mk k [] 0 (stepL l).1, 1) else (noT, 2)) := by rw [stepF, if_neg (by rw [h]; simp)]
mutual
theorem stepF_fit (M : Int) (hM : 0 ≤ M) : ∀ t : Tm, okB t = true → t.sz ≤ SZ → bd M t → (stepF t).2 = 1 → okB (stepF t).1 = true ∧ (stepF t).1.sz ≤ t.sz + 4200 ∧ bd (M + SZ) (stepF t).1
  | .mk k s n l, ho, hs, hb, h1 => by
    by_cases q : redexB (.mk k s n l) = true
    · obtain ⟨s', n', s1, n1, body, arg, rest, e, ob, oa, orr⟩ := redex_shape ho q
      injection e with e1 e2 e3 e4
      subst e1; subst e2; subst e3; subst e4
      have hF : stepF (.mk 6 s n (.mk 5 s1 n1 [body] :: arg :: rest)) = if roomT body arg = true then (applyF (suT 0 arg body 0) rest, 1) else (noT, 2) := by rw [stepF, if_pos q]; rfl
      rw [hF] at h1 ⊢
      by_cases hr : roomT body arg = true
      · simp only [Tm.sz, Tm.szs] at hs
        have h2 := (room_sz ob oa hr (by omega)).2
        have h3 := suT_occ 0 arg body 0
        have h4 := applyF_sz (suT 0 arg body 0) rest
        rw [Int.zero_add] at h3
        rw [if_pos hr]
        refine ⟨applyF_ok (suT_ok 0 oa ob) orr, by simp only [Tm.sz, Tm.szs]; omega, applyF_bd ?_ ?_⟩
        · exact suT_bd (M := M + SZ) (M' := M) (D := SZ) arg body 0 (bd_le (by omega) _ hb.2.1.2.1) hb.2.2.1 (Int.le_refl _) (Int.le_refl _) (by omega) (Int.le_refl _) (by omega)
        · exact bds_of fun u hu => bd_le (by omega) _ (bds_mem hb.2.2.2 hu)
      · rw [if_neg hr] at h1; cases h1
    · have q : redexB (.mk k s n l) = false := by simpa using q
      have hl := okB_l ho
      rw [stepF_non q] at h1 ⊢
      split at h1
      · cases h1
      split at h1
      · rename_i h0 h2
        rw [if_neg h0, if_pos h2]
        simp only [Tm.sz] at hs
        obtain ⟨g1, g2, g3, g4, g5⟩ := stepL_fit M hM l hl (by omega) hb.2 h2
        have hk : k = 5 ∨ k = 6 := by
          by_cases k5 : k = 5
          · exact .inl k5
          · by_cases k6 : k = 6
            · exact .inr k6
            · have : l = [] := okB0 ho k5 k6
              subst this
              exact absurd rfl h0
        refine ⟨?_, by simp only [Tm.sz]; omega, ⟨fun e => by omega, g4⟩⟩
        rcases hk with rfl | rfl
        · obtain ⟨x, rfl, _⟩ := okB5 ho rfl
          rw [okB, g1]; simp only [List.length_cons, List.length_nil] at g2; simp [g2]
        · obtain ⟨x, y, r, rfl, h6, _⟩ := okB6 ho rfl
          have hx := stepF_hd ho q rfl
          rw [okB, g1]; simp only [List.length_cons] at g2
          have : (hd (stepL (x :: y :: r)).1).k ≠ 6 := by rw [stepL, if_pos (by rw [hx])]; exact h6
          simp [g2, this]
      · cases h1
theorem stepL_fit (M : Int) (hM : 0 ≤ M) : ∀ l : List Tm, okL l = true → Tm.szs l ≤ SZ → bds M l → (stepL l).2 = 1 → okL (stepL l).1 = true ∧ (stepL l).1.length = l.length ∧ Tm.szs (stepL l).1 ≤ Tm.szs l + 4200 ∧ bds (M + SZ) (stepL l).1 ∧ True
  | [], _, _, _, h => by cases h
  | t :: l, ho, hs, hb, h => by
    simp only [okL, Bool.and_eq_true] at ho
    simp only [Tm.szs] at hs
    rw [stepL] at h ⊢
    split at h
    · rename_i h0
      rw [if_pos h0]
      obtain ⟨g1, g2, g3, g4, _⟩ := stepL_fit M hM l ho.2 (by omega) hb.2 h
      exact ⟨by simp only [okL, ho.1, g1, Bool.and_self], by simp [g2], by simp only [Tm.szs]; omega, ⟨bd_le (by omega) _ hb.1, g4⟩, trivial⟩
    · rename_i h0
      rw [if_neg h0]
      obtain ⟨g1, g2, g3⟩ := stepF_fit M hM t ho.1 (by omega) hb.1 h
      exact ⟨by simp only [okL, ho.2, g1, Bool.and_self], rfl, by simp only [Tm.szs]; omega, ⟨g3, bds_of fun u hu => bd_le (by omega) _ (bds_mem hb.2 hu)⟩, trivial⟩
end
/-! ### Step by step -/
def runS : Nat → Tm → Option (Tm × Nat)
  | 0, t => if (stepF t).2 = 0 then some (t, 0) else none
  | F + 1, t => if (stepF t).2 = 0 then some (t, F + 1) else if (stepF t).2 = 1 then runS F (stepF t).1 else none
def runL : Nat → List Tm → Option (List Tm × Nat)
  | F, [] => some ([], F)
  | F, t :: l => (runS F t).bind fun p => (runL p.2 l).map fun q => (p.1 :: q.1, q.2)
theorem runS_zero {F : Nat} {t : Tm} (h : (stepF t).2 = 0) : runS F t = some (t, F) := by
  cases F with
  | zero => rw [runS, if_pos h]
  | succ F => rw [runS, if_pos h]
theorem runS_end : ∀ {F : Nat} {t u : Tm} {G : Nat}, runS F t = some (u, G) → (stepF u).2 = 0 ∧ G ≤ F
  | 0, t, u, G, h => by
    rw [runS] at h
    split at h
    · rename_i h0; injection h with h; injection h with h1 h2; subst h1; subst h2; exact ⟨h0, Nat.le_refl _⟩
    · cases h
  | F + 1, t, u, G, h => by
    rw [runS] at h
    split at h
    · rename_i h0; injection h with h; injection h with h1 h2; subst h1; subst h2; exact ⟨h0, Nat.le_refl _⟩
    · split at h
      · have := runS_end h; exact ⟨this.1, by omega⟩
      · cases h
/-- How large what is run may become. -/
def Fit (F : Nat) (t : Tm) : Prop := okB t = true ∧ t.sz + 4200 * F ≤ SZ ∧ bd (M61 - SZ - SZ * F) t ∧ F ≤ 5000
theorem Fit.next {F : Nat} {t : Tm} (h : Fit (F + 1) t) (h1 : (stepF t).2 = 1) : Fit F (stepF t).1 := by
  obtain ⟨g1, g2, g3, g4⟩ := h
  have := stepF_fit (M61 - SZ - SZ * ((F + 1 : Nat) : Int)) (by simp only [M61, SZ]; omega) t g1 (by omega) g3 h1
  refine ⟨this.1, by have := this.2.1; omega, bd_le ?_ _ this.2.2, by omega⟩
  simp only [SZ]; omega
theorem Fit.mono {F G : Nat} {t : Tm} (h : Fit F t) (hg : G ≤ F) : Fit G t := ⟨h.1, by have := h.2.1; have := Nat.mul_le_mul_left 4200 hg; omega, bd_le (by simp only [SZ]; omega) _ h.2.2.1, by have := h.2.2.2; omega⟩
theorem Fit.kid {F : Nat} {t u : Tm} (h : Fit F t) (hu : u ∈ t.l) : Fit F u := by
  have h1 := Tm.szs_mem hu
  have h2 := t.sz_eq
  refine ⟨okL_mem (okB_l h.1) hu, by have := h.2.1; omega, ?_, h.2.2.2⟩
  obtain ⟨k, s, n, l⟩ := t
  exact bds_mem h.2.2.1.2 hu
theorem Fit.sz {F : Nat} {t : Tm} (h : Fit F t) : t.sz ≤ SZ := by have := h.2.1; omega
theorem Fit.bd {F : Nat} {t : Tm} (h : Fit F t) : bd M61 t := bd_le (by simp only [SZ]; omega) _ h.2.2.1
theorem Fit.ok {F : Nat} {t : Tm} (h : Fit F t) : okB t = true := h.1
theorem runS_fit : ∀ {F : Nat} {t u : Tm} {G : Nat}, Fit F t → runS F t = some (u, G) → Fit G u
  | 0, t, u, G, hf, h => by
    rw [runS] at h
    split at h
    · injection h with h; injection h with h1 h2; subst h1; subst h2; exact hf
    · cases h
  | F + 1, t, u, G, hf, h => by
    rw [runS] at h
    split at h
    · injection h with h; injection h with h1 h2; subst h1; subst h2; exact hf
    · split at h
      · rename_i h1; exact runS_fit (hf.next h1) h
      · cases h
/-- One of many goes on. -/
theorem run_mid (k : Int) (a b : List Tm) (hk : k ≠ 6 ∨ ∃ x a', a = x :: a' ∧ x.k ≠ 5) (ha : ∀ u ∈ a, (stepF u).2 = 0) : ∀ (F : Nat) (t : Tm), runS F (.mk k [] 0 (a ++ t :: b)) = (runS F t).bind fun p => runS p.2 (.mk k [] 0 (a ++ p.1 :: b)) := by
  have nr : ∀ t, redexB (.mk k [] 0 (a ++ t :: b)) = false := fun t => by
    rcases hk with hk | ⟨x, a', rfl, hx⟩
    · simp [redexB, Tm.k, hk]
    · simp [redexB, Tm.l, hd, hx]
  have st : ∀ t, (stepF t).2 = 1 → stepF (.mk k [] 0 (a ++ t :: b)) = (.mk k [] 0 (a ++ (stepF t).1 :: b), 1) := fun t h => by
    rw [stepF_non (nr t), stepL_app a _ ha, stepL_hit b (by omega), h]; simp
  have st2 : ∀ t, (stepF t).2 = 2 → (stepF (.mk k [] 0 (a ++ t :: b))).2 = 2 := fun t h => by
    rw [stepF_non (nr t), stepL_app a _ ha, stepL_hit b (by omega), h]; simp
  intro F
  induction F with
  | zero =>
    intro t
    rcases stepF_n t with h | h | h
    · rw [runS_zero h]; rfl
    · simp [runS, st t h, h]
    · simp [runS, st2 t h, h]
  | succ F ih =>
    intro t
    rcases stepF_n t with h | h | h
    · rw [runS_zero h]; rfl
    · rw [runS, st t h, if_neg (by simp), if_pos rfl, ih]
      conv => rhs; rw [runS, if_neg (by rw [h]; omega), if_pos h]
    · rw [runS, st2 t h, if_neg (by omega), if_neg (by omega)]
      conv => rhs; rw [runS, if_neg (by rw [h]; omega), if_neg (by rw [h]; omega)]
      rfl
theorem run_list (k : Int) : ∀ (b a : List Tm) (F : Nat), (k ≠ 6 ∨ ∃ x a', a = x :: a' ∧ x.k ≠ 5) → (∀ u ∈ a, (stepF u).2 = 0) → runS F (.mk k [] 0 (a ++ b)) = (runL F b).map fun q => (.mk k [] 0 (a ++ q.1), q.2)
  | [], a, F, hk, ha => by
    have nr : redexB (.mk k [] 0 a) = false := by
      rcases hk with hk | ⟨x, a', rfl, hx⟩
      · simp [redexB, Tm.k, hk]
      · simp [redexB, Tm.l, hd, hx]
    have h2 := stepL_app a [] ha
    rw [List.append_nil] at h2 ⊢
    have h0 : (stepF (.mk k [] 0 a)).2 = 0 := by rw [stepF_non nr, h2]; simp [stepL]
    rw [runS_zero h0, runL]; simp
  | t :: b, a, F, hk, ha => by
    rw [run_mid k a b hk ha F t, runL]
    cases h : runS F t with
    | none => rfl
    | some p =>
      have h0 := (runS_end h).1
      have := run_list k b (a ++ [p.1]) p.2 (hk.imp id fun ⟨x, a', e, hx⟩ => ⟨x, a' ++ [p.1], by rw [e]; rfl, hx⟩) (fun u hu => by
        rcases List.mem_append.1 hu with hu | hu
        · exact ha u hu
        · rw [List.mem_singleton.1 hu]; exact h0)
      rw [ap] at this
      simp only [Option.bind_some, this]
      cases runL p.2 b with
      | none => rfl
      | some q => simp
/-- What is no redex runs within. -/
theorem run_kids {k n : Int} {s : List UInt8} {l : List Tm} (ho : okB (.mk k s n l) = true) (hr : redexB (.mk k s n l) = false) (F : Nat) : runS F (.mk k s n l) = (runL F l).map fun q => (.mk k s n q.1, q.2) := by
  by_cases h5 : k = 5
  · obtain ⟨rfl, rfl⟩ := okB_sn ho (.inl h5)
    exact run_list k l [] F (.inl (by omega)) (fun u hu => by cases hu)
  · by_cases h6 : k = 6
    · obtain ⟨rfl, rfl⟩ := okB_sn ho (.inr h6)
      obtain ⟨x, y, r, rfl, hx6, _⟩ := okB6 ho h6
      have hx := stepF_hd ho hr h6
      have hx5 : x.k ≠ 5 := fun e => by
        have : redexB (.mk k [] 0 (x :: y :: r)) = true := by show (k == 6 && x.k == 5) = true; rw [h6, e]; rfl
        rw [hr] at this; cases this
      have := run_list k (y :: r) [x] F (.inr ⟨x, [], rfl, hx5⟩) (fun u hu => by rw [List.mem_singleton.1 hu, hx])
      rw [show x :: y :: r = [x] ++ y :: r from rfl, this, show [x] ++ y :: r = x :: y :: r from rfl]
      conv => rhs; rw [runL, runS_zero (by rw [hx])]
      simp only [Option.bind_some]
      cases runL F (y :: r) with
      | none => rfl
      | some q => rfl
    · have : l = [] := okB0 ho h5 h6
      subst this
      rw [runS_zero (by rw [stepF_non hr]; rfl)]; rfl
/-- A step at the root. -/
theorem redex_mk (s s1 : List UInt8) (n n1 : Int) (body arg : Tm) (rest : List Tm) : redexB (.mk 6 s n (.mk 5 s1 n1 [body] :: arg :: rest)) = true := rfl
theorem run_redex0 {s s1 : List UInt8} {n n1 : Int} {body arg : Tm} {rest : List Tm} : runS 0 (.mk 6 s n (.mk 5 s1 n1 [body] :: arg :: rest)) = none := by
  have hF : stepF (.mk 6 s n (.mk 5 s1 n1 [body] :: arg :: rest)) = if roomT body arg = true then (applyF (suT 0 arg body 0) rest, 1) else (noT, 2) := by rw [stepF, if_pos (redex_mk ..)]; rfl
  rw [runS, hF]; split <;> simp
theorem run_redex {s s1 : List UInt8} {n n1 : Int} {body arg : Tm} {rest : List Tm} (F : Nat) : runS (F + 1) (.mk 6 s n (.mk 5 s1 n1 [body] :: arg :: rest)) = if roomT body arg = true then runS F (applyF (suT 0 arg body 0) rest) else none := by
  have hF : stepF (.mk 6 s n (.mk 5 s1 n1 [body] :: arg :: rest)) = if roomT body arg = true then (applyF (suT 0 arg body 0) rest, 1) else (noT, 2) := by rw [stepF, if_pos (redex_mk ..)]; rfl
  rw [runS, hF]
  by_cases h : roomT body arg = true
  · rw [if_pos h, if_neg (by simp), if_pos rfl, if_pos h]
  · rw [if_neg h, if_neg (by simp), if_neg (by simp), if_neg h]
theorem run_noroom {s s1 : List UInt8} {n n1 : Int} {body arg : Tm} {rest : List Tm} (F : Nat) (h : ¬ roomT body arg = true) : runS F (.mk 6 s n (.mk 5 s1 n1 [body] :: arg :: rest)) = none := by
  cases F with
  | zero => exact run_redex0
  | succ F => rw [run_redex, if_neg h]
/-! Normal: there is no step. -/
mutual
theorem norm_step : ∀ t : Tm, normB t = true ↔ (stepF t).2 = 0
  | .mk k s n l => by
    by_cases q : redexB (.mk k s n l) = true
    · rw [normB, q, stepF, if_pos q]
      constructor
      · intro h; cases h
      · intro h; split at h <;> cases h
    · have q : redexB (.mk k s n l) = false := by simpa using q
      rw [normB, q, stepF_non q, Bool.not_false, Bool.true_and, norm_steps l]
      constructor
      · intro h; rw [if_pos h]
      · intro h
        split at h
        · assumption
        · split at h <;> cases h
theorem norm_steps : ∀ l : List Tm, normL l = true ↔ (stepL l).2 = 0
  | [] => by simp [normL, stepL]
  | t :: l => by
    rw [normL, Bool.and_eq_true, norm_step t, norm_steps l, stepL]
    constructor
    · rintro ⟨h1, h2⟩; rw [if_pos h1]; exact h2
    · intro h
      split at h
      · rename_i h0; exact ⟨h0, h⟩
      · rename_i h0; exact absurd h h0
end

end Go.AM

set_option maxRecDepth 100000
open Go Go.Proofs
namespace Go.AM

/-! ### At the head -/
mutual
def hnB : Tm → Bool
  | .mk k s n l => !redexB (.mk k s n l) && (if (k == 5) = true then hnL l else true)
def hnL : List Tm → Bool
  | [] => true
  | t :: l => hnB t && hnL l
end
theorem hn_redex {t : Tm} (h : hnB t = true) : redexB t = false := by
  obtain ⟨k, s, n, l⟩ := t
  rw [hnB, Bool.and_eq_true] at h
  simpa using h.1
/-- What a run of head comes to. -/
def HeadR (F : Nat) (f : Int) (t : Tm) (A : Tm → Int → Int → Prop) : Prop :=
  (∃ h G, hnB h = true ∧ runS F t = runS G h ∧ G ≤ F ∧ (G = F → h = t) ∧ (hnB t = true → h = t ∧ G = F) ∧ Fit G h ∧ h.sz + 4200 * G ≤ t.sz + 4200 * F ∧ A h 0 (f - (F - G : Nat))) ∨ (runS F t = none ∧ hnB t = false ∧ ∃ f', A noT 80 f')
/-! ### All steps -/
def NormR (F : Nat) (f : Int) (t : Tm) (A : Tm → Int → Int → Prop) : Prop :=
  (∃ u G, runS F t = some (u, G) ∧ G ≤ F ∧ A u 0 (f - (F - G : Nat))) ∨ (runS F t = none ∧ ∃ f', A noT 80 f')
def NormL (F : Nat) (f : Int) (l : List Tm) (A : List Tm → Int → Prop) (N : Prop) : Prop :=
  (∃ u G, runL F l = some (u, G) ∧ G ≤ F ∧ A u (f - (F - G : Nat))) ∨ (runL F l = none ∧ N)
end Go.AM

set_option maxRecDepth 100000
open Go Go.Proofs
namespace Go.AM

abbrev aTNE (t : Tm) (n e : Int) : TV := .tup [(true, cT t), (false, [.a (.fz (.int .i64 n))]), (false, [.a (.fz (.int .i64 e))])]
theorem leTNE {k n e m : Int} {s : List UInt8} {x : FV} {l : List Tm} (h : FV.Le x (.sl false 4 (FTs l))) : TV.Le (.tup [(true, [.a (.fz (.int .i64 k)), .a (.fz (.str s)), .a (.fz (.int .i64 n)), .a (.fz x)]), (false, [.a (.fz (.int .i64 m))]), (false, [.a (.fz (.int .i64 e))])]) (aTNE (.mk k s n l) m e) := by
  refine .tup _ _ rfl fun i p q hp hq => ?_
  match i, hp, hq with
  | 0, hp, hq =>
    simp only [List.getElem?_cons_zero, Option.some.injEq] at hp hq
    subst hp; subst hq
    refine ⟨rfl, rfl, fun j x y hx hy => ?_⟩
    match j, hx, hy with
    | 0, hx, hy => simp at hx hy; subst hx; subst hy; exact .refl _
    | 1, hx, hy => simp at hx hy; subst hx; subst hy; exact .refl _
    | 2, hx, hy => simp at hx hy; subst hx; subst hy; exact .refl _
    | 3, hx, hy => simp at hx hy; subst hx; subst hy; exact .a _ _ (.fz _ _ h)
    | j + 4, hx, _ => simp at hx
  | 1, hp, hq =>
    simp only [List.getElem?_cons_zero, List.getElem?_cons_succ, Option.some.injEq] at hp hq
    subst hp; subst hq
    exact ⟨rfl, rfl, fun j x y hx hy => by rw [hx] at hy; injection hy with hy; subst hy; exact .refl _⟩
  | 2, hp, hq =>
    simp only [List.getElem?_cons_zero, List.getElem?_cons_succ, Option.some.injEq] at hp hq
    subst hp; subst hq
    exact ⟨rfl, rfl, fun j x y hx hy => by rw [hx] at hy; injection hy with hy; subst hy; exact .refl _⟩
  | i + 3, hp, _ => simp at hp
/-- What Norm comes to. -/
def normV (F : Nat) (f : Int) (t : Tm) : Tm × Int × Int :=
  if validB t = true then (match runS F t with | some (u, G) => (u, f - ((F - G : Nat) : Int), 0) | none => (noT, 0, 80)) else (noT, 0, 1)
/-! ### What is looked at -/
mutual
theorem left_nd : ∀ (t : Tm) (m : Int), 0 ≤ leftF t m → (t.sz : Int) ≤ m - leftF t m
  | .mk _ s _ l, m, h => by
    simp only [leftF] at h ⊢
    have := left_nds l (m - 1) h
    simp only [Tm.sz]; omega
theorem left_nds : ∀ (l : List Tm) (m : Int), 0 ≤ leftL l m → (Tm.szs l : Int) ≤ m - leftL l m
  | [], m, h => by simp [leftL, Tm.szs]
  | t :: l, m, h => by
    simp only [leftL] at h ⊢
    split at h
    · rename_i h0
      rw [if_pos h0]
      have h1 := left_nds l _ h
      have h3 := (leftL_le l (leftF t m)).1
      have h2 := left_nd t m (by omega)
      simp only [Tm.szs]; omega
    · rename_i h0; exact absurd h h0
end
theorem large_sz {t : Tm} {m : Int} (h : large t m = false) : (t.sz : Int) ≤ m := by
  have h := of_decide_eq_false h
  have := left_nd t m (by omega)
  omega
def over60 (t : Tm) : Bool := large t 60 || !near 1099511627776 t
theorem okay60 {t : Tm} (h : over60 t = false) : t.sz ≤ 60 ∧ bd 1099511627776 t := by
  simp only [over60, Bool.or_eq_false_iff] at h
  have := large_sz h.1
  exact ⟨by omega, near_bd t (by simpa using h.2)⟩
theorem fit60 {t : Tm} (h : over60 t = false) (hv : validB t = true) {F : Nat} (hF : F ≤ 5000) : Fit F t := by
  obtain ⟨h1, h2⟩ := okay60 h
  exact ⟨valid_ok t hv, by simp only [SZ]; omega, bd_le (by simp only [M61, SZ]; omega) _ h2, hF⟩
/-! ### The document's examples -/
theorem args1 {a : List FV} {x : Tm} (ha : LeR a (FT x)) : TV.Le (.c (.a (.fz (.sl false 4 [a])))) (aL [x]) := le_c (leRows rfl fun i r t hr ht => by
  match i, hr, ht with
  | 0, hr, ht => simp only [List.getElem?_cons_zero, Option.some.injEq] at hr ht; subst hr; subst ht; exact ha
  | i + 1, hr, _ => simp at hr)
theorem args2 {a b : List FV} {x y : Tm} (ha : LeR a (FT x)) (hb : LeR b (FT y)) : TV.Le (.c (.a (.fz (.sl false 4 [a, b])))) (aL [x, y]) := le_c (leRows rfl fun i r t hr ht => by
  match i, hr, ht with
  | 0, hr, ht => simp only [List.getElem?_cons_zero, Option.some.injEq] at hr ht; subst hr; subst ht; exact ha
  | 1, hr, ht => simp only [List.getElem?_cons_zero, List.getElem?_cons_succ, Option.some.injEq] at hr ht; subst hr; subst ht; exact hb
  | i + 2, hr, _ => simp at hr)
theorem e0 {k n : Int} {s : List UInt8} : TV.Le (.agg [.a (.fz (.int .i64 k)), .a (.fz (.str s)), .a (.fz (.int .i64 n)), .a (.fz .nils)]) (aT (.mk k s n [])) := leT leNil
abbrev exZ : Tm := .mk 3 [] 0 []
/-- Of terms that are written out. -/
def fitD (F : Nat) (t : Tm) : Bool := okB t && decide (t.sz ≤ 60) && near 1099511627776 t && decide (F ≤ 5000)
theorem fit_of {F : Nat} {t : Tm} (h : fitD F t = true) : Fit F t := by
  simp only [fitD, Bool.and_eq_true, decide_eq_true_eq] at h
  exact ⟨h.1.1.1, by simp only [SZ]; omega, bd_le (by simp only [M61, SZ]; omega) _ (near_bd t h.1.2), h.2⟩
end Go.AM

set_option maxRecDepth 100000
open Go Go.Proofs
namespace Go.AM

/-! ### Leaves that may be -/
mutual
def lvB : Tm → Bool
  | .mk k s n l => if (k == 5 || k == 6) = true then lvL l else validB (.mk k s n l)
def lvL : List Tm → Bool
  | [] => true
  | t :: l => lvB t && lvL l
end
theorem lvL_mem : ∀ {l : List Tm} {t : Tm}, lvL l = true → t ∈ l → lvB t = true
  | x :: l, t, h, hm => by
    simp only [lvL, Bool.and_eq_true] at h
    rcases List.mem_cons.1 hm with rfl | hm
    · exact h.1
    · exact lvL_mem h.2 hm
theorem lvL_of : ∀ {l : List Tm}, (∀ t ∈ l, lvB t = true) → lvL l = true
  | [], _ => rfl
  | t :: l, h => by simp only [lvL, h t List.mem_cons_self, lvL_of (l := l) fun u hu => h u (List.mem_cons_of_mem _ hu), Bool.and_self]
theorem lvB_in {k n : Int} {s : List UInt8} {l : List Tm} (hk : k = 5 ∨ k = 6) : lvB (.mk k s n l) = lvL l := by
  rw [lvB, if_pos (by rcases hk with rfl | rfl <;> rfl)]
theorem lvB_out {k n : Int} {s : List UInt8} {l : List Tm} (h5 : k ≠ 5) (h6 : k ≠ 6) : lvB (.mk k s n l) = validB (.mk k s n l) := by
  rw [lvB, if_neg (by simp [h5, h6])]
theorem valid5 {s : List UInt8} {n : Int} {l : List Tm} : validB (.mk 5 s n l) = (n == 0 && s == [] && decide (l.length = 1) && validL l) := by
  rw [validB, lenI]
  simp only [show ((5 : Int) == 0) = false from rfl, show ((5 : Int) == 1) = false from rfl, show ((5 : Int) == 2) = false from rfl, show ((5 : Int) == 3) = false from rfl, show ((5 : Int) == 4) = false from rfl, Bool.false_eq_true, if_false, show ((5 : Int) == 5) = true from rfl, if_true]
  congr 2
  by_cases h : l.length = 1
  · rw [h]; rfl
  · rw [decide_eq_false h]; simp; omega
theorem valid6 {s : List UInt8} {n : Int} {l : List Tm} : validB (.mk 6 s n l) = (n == 0 && decide (2 ≤ l.length) && ((hd l).k != 6) && s == [] && validL l) := by
  rw [validB, lenI]
  simp only [show ((6 : Int) == 0) = false from rfl, show ((6 : Int) == 1) = false from rfl, show ((6 : Int) == 2) = false from rfl, show ((6 : Int) == 3) = false from rfl, show ((6 : Int) == 4) = false from rfl, show ((6 : Int) == 5) = false from rfl, Bool.false_eq_true, if_false, show ((6 : Int) == 6) = true from rfl, if_true]
  congr 4
  by_cases h : 2 ≤ l.length
  · rw [decide_eq_true h, decide_eq_true (by omega)]
  · rw [decide_eq_false h, decide_eq_false (by omega)]
mutual
theorem valid_iff : ∀ t : Tm, validB t = (okB t && lvB t)
  | .mk k s n l => by
    by_cases h5 : k = 5
    · subst h5
      rw [valid5, lvB_in (.inl rfl), valid_iffL l, okB]
      cases okL l <;> cases lvL l <;> simp [Bool.and_comm, Bool.and_assoc, Bool.and_left_comm]
    · by_cases h6 : k = 6
      · subst h6
        rw [valid6, lvB_in (.inr rfl), valid_iffL l, okB]
        cases okL l <;> cases lvL l <;> simp [Bool.and_comm, Bool.and_assoc, Bool.and_left_comm]
      · rw [lvB_out h5 h6]
        cases hv : validB (.mk k s n l) with
        | false => simp
        | true => rw [valid_ok _ hv]; rfl
theorem valid_iffL : ∀ l : List Tm, validL l = (okL l && lvL l)
  | [] => rfl
  | t :: l => by
    rw [validL, okL, lvL, valid_iff t, valid_iffL l]
    cases okB t <;> cases lvB t <;> simp
end
theorem valid_lv {t : Tm} (h : validB t = true) : lvB t = true := by rw [valid_iff] at h; simp at h; exact h.2
theorem applyF_lv {f : Tm} {args : List Tm} (hf : lvB f = true) (ha : lvL args = true) : lvB (applyF f args) = true := by
  match args, ha with
  | [], _ => exact hf
  | a :: r, ha =>
    obtain ⟨k, s, n, l⟩ := f
    rw [apply_some]
    split
    · rename_i h
      have hk : k = 6 := by simpa using h.1
      rw [lvB_in (.inr hk)] at hf
      rw [lvB_in (.inr rfl)]
      exact lvL_of fun t ht => by
        rcases List.mem_append.1 ht with ht | ht
        · exact lvL_mem hf ht
        · exact lvL_mem ha ht
    · rw [lvB_in (.inr rfl)]
      simp only [lvL, Bool.and_eq_true] at ha ⊢
      exact ⟨hf, ha⟩
theorem withF_lv {t : Tm} {o : List Tm} (hk : t.k = 5 ∨ t.k = 6) (ho : lvL o = true) : lvB (withF t o) = true := by
  obtain ⟨k, s, n, l⟩ := t
  unfold withF
  split
  · rename_i hc
    match o, ho, hc with
    | [], _, hc => exact absurd hc.2.1 (by simp)
    | x :: r, ho, hc =>
      simp only [lvL, Bool.and_eq_true] at ho
      exact applyF_lv ho.1 ho.2
  · exact (lvB_in hk).trans ho
mutual
theorem walkF_lv (lf : Tm → Int → Tm) (Q : Tm → Int → Prop) (hq : ∀ k s n l d, Q (.mk k s n l) d → ∀ u ∈ l, Q u (d + if (k == 5) = true then 1 else 0)) (h : ∀ u d, lvB u = true → Q u d → u.k ≠ 5 → u.k ≠ 6 → lvB (lf u d) = true) : ∀ (t : Tm) (d : Int), lvB t = true → Q t d → lvB (walkF lf t d) = true
  | .mk k s n l, d, ho, hQ => by
    rw [walkF]
    split
    · rename_i hk
      have hk : k = 5 ∨ k = 6 := by simpa using hk
      rw [lvB_in hk] at ho
      exact withF_lv hk (walkL_lv lf Q hq h l _ ho (hq k s n l d hQ))
    · rename_i hk
      exact h _ _ ho hQ (fun e => hk (by simp [show k = 5 from e])) (fun e => hk (by simp [show k = 6 from e]))
theorem walkL_lv (lf : Tm → Int → Tm) (Q : Tm → Int → Prop) (hq : ∀ k s n l d, Q (.mk k s n l) d → ∀ u ∈ l, Q u (d + if (k == 5) = true then 1 else 0)) (h : ∀ u d, lvB u = true → Q u d → u.k ≠ 5 → u.k ≠ 6 → lvB (lf u d) = true) : ∀ (l : List Tm) (d : Int), lvL l = true → (∀ u ∈ l, Q u d) → lvL (walkL lf l d) = true
  | [], _, _, _ => rfl
  | t :: l, d, ho, hQ => by
    simp only [lvL, Bool.and_eq_true] at ho
    simp only [walkL, lvL, walkF_lv lf Q hq h t d ho.1 (hQ t List.mem_cons_self), walkL_lv lf Q hq h l d ho.2 (fun u hu => hQ u (List.mem_cons_of_mem _ hu)), Bool.and_self]
end
theorem valid3 {s : List UInt8} {n : Int} {l : List Tm} : validB (.mk 3 s n l) = true ↔ 0 ≤ n ∧ n ≤ 4611686018427387904 ∧ s = [] ∧ l = [] := by
  rw [validB, lenI]
  simp only [show ((3 : Int) == 0) = false from rfl, show ((3 : Int) == 1) = false from rfl, show ((3 : Int) == 2) = false from rfl, Bool.false_eq_true, if_false, show ((3 : Int) == 3) = true from rfl, if_true]
  simp only [Bool.and_eq_true, decide_eq_true_eq, beq_iff_eq]
  constructor
  · rintro ⟨⟨⟨⟨h1, h2⟩, h3⟩, h4⟩, _⟩
    exact ⟨h1, h2, h3, List.eq_nil_of_length_eq_zero (by omega)⟩
  · rintro ⟨h1, h2, rfl, rfl⟩
    exact ⟨⟨⟨⟨h1, h2⟩, rfl⟩, rfl⟩, rfl⟩
/-- Shifted upwards. -/
theorem shT_lv {by_ M D : Int} (h0 : 0 ≤ by_) (hM : M + by_ ≤ 4611686018427387904) (t : Tm) (d : Int) (fr : Int) (hb : bd M t) (h : lvB t = true) (_ : d ≤ D) : lvB (shT fr by_ t d) = true := by
  refine walkF_lv _ (fun u _ => bd M u) (fun k s n l d hQ u hu => bds_mem hQ.2 hu) (fun u d hu hQ h5 h6 => ?_) t d h hb
  unfold shLeaf
  split
  · rename_i hc
    obtain ⟨k, s, n, l⟩ := u
    have hk : k = 3 := by have hc := hc.1; have hc : (k == 3) = true := hc; simpa using hc
    subst hk
    rw [lvB_out (by decide) (by decide), valid3] at hu
    have hb := hQ.1 rfl
    show lvB (.mk 3 s (n + by_) l) = true
    rw [lvB_out (by decide) (by decide), valid3]
    exact ⟨by omega, by omega, hu.2.2.1, hu.2.2.2⟩
  · exact hu
theorem suT_lv {i M : Int} {s t : Tm} {D : Int} (hi : 0 ≤ i) (hM : M + D ≤ 4611686018427387904) (hbs : bd M s) (hs : lvB s = true) (hl : lvB t = true) (d : Int) (h0 : 0 ≤ d) (hD : d + t.sz ≤ D) : lvB (suT i s t d) = true := by
  refine walkF_lv _ (fun u d => 0 ≤ d ∧ d + u.sz ≤ D) (fun k s n l d hQ u hu => ?_) (fun u d hu hQ h5 h6 => ?_) t d hl ⟨h0, hD⟩
  · have := Tm.szs_mem hu
    simp only [Tm.sz] at hQ
    constructor
    · have := hQ.1; split <;> omega
    · have := hQ.2; split <;> omega
  · unfold suLeaf
    split
    · rename_i hc
      split
      · exact hu
      · rename_i hlt
        split
        · have := hQ.2
          exact shT_lv hQ.1 (D := 0) (by omega) s 0 0 hbs hs (Int.le_refl _)
        · rename_i hne
          obtain ⟨k, s', n, l⟩ := u
          have hk : k = 3 := by have hc : (k == 3) = true := hc; simpa using hc
          subst hk
          rw [lvB_out (by decide) (by decide), valid3] at hu
          have h1 : ¬ n < d + i := hlt
          have h2 : n ≠ d + i := fun e => hne (by rw [show Tm.n (.mk 3 s' n l) = n from rfl, e]; simp)
          show lvB (.mk 3 s' (n - 1) l) = true
          rw [lvB_out (by decide) (by decide), valid3]
          have := hQ.1
          exact ⟨by omega, by omega, hu.2.2.1, hu.2.2.2⟩
    · exact hu
mutual
theorem stepF_lv (M : Int) (hM : M + SZ ≤ 4611686018427387904) : ∀ t : Tm, okB t = true → t.sz ≤ SZ → bd M t → lvB t = true → (stepF t).2 = 1 → lvB (stepF t).1 = true
  | .mk k s n l, ho, hs, hb, hl, h1 => by
    by_cases q : redexB (.mk k s n l) = true
    · obtain ⟨s', n', s1, n1, body, arg, rest, e, ob, oa, orr⟩ := redex_shape ho q
      injection e with e1 e2 e3 e4
      subst e1; subst e2; subst e3; subst e4
      have hF : stepF (.mk 6 s n (.mk 5 s1 n1 [body] :: arg :: rest)) = if roomT body arg = true then (applyF (suT 0 arg body 0) rest, 1) else (noT, 2) := by rw [stepF, if_pos q]; rfl
      rw [hF] at h1 ⊢
      by_cases hr : roomT body arg = true
      · rw [if_pos hr]
        rw [lvB_in (.inr rfl)] at hl
        simp only [lvL, Bool.and_eq_true] at hl
        have hb0 : lvB body = true := by have := hl.1; rw [lvB_in (.inl rfl)] at this; simpa [lvL] using this
        simp only [Tm.sz, Tm.szs] at hs
        exact applyF_lv (suT_lv (M := M) (D := SZ) (Int.le_refl _) hM hb.2.2.1 hl.2.1 hb0 0 (Int.le_refl _) (by omega)) hl.2.2
      · rw [if_neg hr] at h1; cases h1
    · have q : redexB (.mk k s n l) = false := by simpa using q
      rw [stepF_non q] at h1 ⊢
      split at h1
      · cases h1
      split at h1
      · rename_i h0 h2
        rw [if_neg h0, if_pos h2]
        simp only [Tm.sz] at hs
        have hk : k = 5 ∨ k = 6 := by
          by_cases k5 : k = 5
          · exact .inl k5
          · by_cases k6 : k = 6
            · exact .inr k6
            · have : l = [] := okB0 ho k5 k6
              subst this
              exact absurd rfl h0
        rw [lvB_in hk] at hl
        show lvB (.mk k [] 0 (stepL l).1) = true
        rw [lvB_in hk]
        exact stepL_lv M hM l (okB_l ho) (by omega) hb.2 hl h2
      · cases h1
theorem stepL_lv (M : Int) (hM : M + SZ ≤ 4611686018427387904) : ∀ l : List Tm, okL l = true → Tm.szs l ≤ SZ → bds M l → lvL l = true → (stepL l).2 = 1 → lvL (stepL l).1 = true
  | [], _, _, _, _, h => by cases h
  | t :: l, ho, hs, hb, hl, h => by
    simp only [okL, Bool.and_eq_true] at ho
    simp only [Tm.szs] at hs
    simp only [lvL, Bool.and_eq_true] at hl
    rw [stepL] at h ⊢
    split at h
    · rename_i h0
      rw [if_pos h0]
      simp only [lvL, hl.1, stepL_lv M hM l ho.2 (by omega) hb.2 hl.2 h, Bool.and_self]
    · rename_i h0
      rw [if_neg h0]
      simp only [lvL, hl.2, stepF_lv M hM t ho.1 (by omega) hb.1 hl.1 h, Bool.and_self]
end
theorem runS_lv : ∀ {F : Nat} {t u : Tm} {G : Nat}, Fit F t → lvB t = true → runS F t = some (u, G) → lvB u = true
  | 0, t, u, G, hf, hl, h => by
    rw [runS] at h
    split at h
    · injection h with h; injection h with h1 h2; subst h1; exact hl
    · cases h
  | F + 1, t, u, G, hf, hl, h => by
    rw [runS] at h
    split at h
    · injection h with h; injection h with h1 h2; subst h1; exact hl
    · split at h
      · rename_i h1
        exact runS_lv (hf.next h1) (stepF_lv M61 (by simp only [M61, SZ]; omega) t hf.ok hf.sz hf.bd hl h1) h
      · cases h

end Go.AM

set_option maxRecDepth 100000
open Go Go.Proofs
namespace Go.AM

/-! ### Stores -/
theorem kid_valid {k n : Int} {s : List UInt8} {l : List Tm} (h : validB (.mk k s n l) = true) (hk : k = 5 ∨ k = 6) : ∀ u ∈ l, validB u = true := fun u hu => by
  rw [valid_iff, Bool.and_eq_true] at h ⊢
  have h1 := okB_l h.1
  have h2 := h.2
  rw [lvB_in hk] at h2
  exact ⟨okL_mem h1 hu, lvL_mem h2 hu⟩
/-- Results, cell by cell. -/
def LeW (p q : Bool × List WV) : Prop := p.1 = q.1 ∧ All2 WV.Le p.2 q.2
theorem all2_get {α β : Type} {R : α → β → Prop} : ∀ {a : List α} {b : List β}, All2 R a b → a.length = b.length ∧ ∀ (i : Nat) (x : α) (y : β), a[i]? = some x → b[i]? = some y → R x y
  | [], [], _ => ⟨rfl, fun i x y hx _ => by simp at hx⟩
  | x :: a, y :: b, h => by
    have := all2_get h.2
    refine ⟨by simp [this.1], fun i u v hu hv => ?_⟩
    match i, hu, hv with
    | 0, hu, hv => simp at hu hv; subst hu; subst hv; exact h.1
    | i + 1, hu, hv => exact this.2 i u v (by simpa using hu) (by simpa using hv)
  | [], _ :: _, h => h.elim
  | _ :: _, [], h => h.elim
theorem le_tup {a b : List (Bool × List WV)} (h : All2 LeW a b) : TV.Le (.tup a) (.tup b) := by
  have := all2_get h
  refine .tup _ _ this.1 fun i p q hp hq => ?_
  have h1 := this.2 i p q hp hq
  have h2 := all2_get h1.2
  exact ⟨h1.1, h2.1, h2.2⟩
theorem leWn : WV.Le (.a (.fz .nils)) (.a (.fz (.sl false 4 (FTs [])))) := .a _ _ (.fz _ _ leNil)
theorem lw1 {x y : WV} {b : Bool} (h : WV.Le x y) : LeW (b, [x]) (b, [y]) := ⟨rfl, h, trivial⟩
theorem lwT {k n : Int} {s : List UInt8} {x : FV} {l : List Tm} {b : Bool} (h : FV.Le x (.sl false 4 (FTs l))) : LeW (b, [.a (.fz (.int .i64 k)), .a (.fz (.str s)), .a (.fz (.int .i64 n)), .a (.fz x)]) (b, cT (.mk k s n l)) := ⟨rfl, .refl _, .refl _, .refl _, .a _ _ (.fz _ _ h), trivial⟩
theorem lwR (p : Bool × List WV) : LeW p p := by
  obtain ⟨b, l⟩ := p
  refine ⟨rfl, ?_⟩
  show All2 WV.Le l l
  induction l with
  | nil => trivial
  | cons x l ih => exact ⟨.refl _, ih⟩
theorem SR_length (l : List Inf) : (SR l).length = l.length := by simp [SR]
theorem SR_get {l : List Inf} {i : Nat} (h : i < l.length) : List.getD (SR l) i [] = Inf.c l[i] := by simp [SR, List.getD, h]
theorem SR_append (a b : List Inf) : SR (a ++ b) = SR a ++ SR b := by simp [SR]
abbrev noI : Inf := ⟨0, false, noT⟩
/-- A store's pointer; the objects. -/
abbrev aS (o : Nat) : TV := .c (.a (.ep o 2 0 0))
abbrev sto2 (a b : Nat) (s : Sto) : AObj := .arr 2 [[.a (.osl a 6 0 s.V.length), .a (.osl b 1 0 s.T.length)]]
abbrev oS (s : Sto) : List AObj := [sto2 1 2 s, .arz 6 (SR s.V), .arz 1 (IR s.T)]
abbrev oSf (s : Sto) (f : Int) : List AObj := [sto2 1 2 s, .arz 6 (SR s.V), .arz 1 (IR s.T), obj1 f]
/-- What is known. -/
def infOf (V : List Inf) (x : Int) : Inf := if 0 ≤ x ∧ x < (V.length : Int) then (V[x.toNat]?).getD noI else noI
def inB (V : List Inf) (x : Int) : Bool := decide (0 ≤ x) && decide (x < (V.length : Int))
theorem infOf_in {V : List Inf} {x : Int} (h0 : 0 ≤ x) (h1 : x < (V.length : Int)) : ∃ h : x.toNat < V.length, infOf V x = V[x.toNat] := by
  have h : x.toNat < V.length := by omega
  exact ⟨h, by rw [infOf, if_pos ⟨h0, h1⟩, List.getElem?_eq_getElem h]; rfl⟩
theorem infOf_out {V : List Inf} {x : Int} (h : ¬ (0 ≤ x ∧ x < (V.length : Int))) : infOf V x = noI := if_neg h
abbrev tI (i : Inf) (b : Bool) : TV := .tup [(true, [.a (.fz (.int .i64 i.lv)), .a (.fz (.bool i.bd)), .a (.fz (.int .i64 i.v.k)), .a (.fz (.str i.v.s)), .a (.fz (.int .i64 i.v.n)), .a (.fz (.sl false 4 (FTs i.v.l)))]), (false, [.a (.fz (.bool b))])]
theorem inf_no {c d : Bool} (h : c = d) {n : Nat} : TV.Le (.tup [(true, [.a (.fz (.int .i64 0)), .a (.fz (.bool false)), .a (.fz (.int .i64 0)), .a (.fz (.str [])), .a (.fz (.int .i64 0)), .a (.fz .nils)]), (false, [.a (.fz (.bool c))])]) (tI noI d) ∧ n = n := by
  subst h
  exact ⟨le_tup ⟨⟨rfl, .refl _, .refl _, .refl _, .refl _, .refl _, leWn, trivial⟩, lwR _, trivial⟩, rfl⟩
theorem c_snew : AC Try.prog 34 [] [] (aS 0) (oS ⟨[], []⟩) := by
  refine AC.vc hP sh lv34 (by simp) (by simp) (by simp [isLive]) (Eq.mpr (v34 ..) ?_)
  exact ⟨.refl _, rfl⟩
theorem c_sinfo (s : Sto) (x : Int) : AC Try.prog 28 [aS 0, ci x] (oS s) (tI (infOf s.V x) (inB s.V x)) (oS s) := by
  refine AC.vc hP sh lv28 (Nat.le_refl _) (by simp [isLive]) (by simp) (Eq.mpr (v28 ..) ?_)
  refine br_of (fun h => ?_) (fun h => br_of (fun h' => ?_) (fun h' => ?_))
  · have h := of_decide_eq_true h
    rw [infOf_out (by omega)]
    exact ⟨(inf_no (by simp [inB]; omega) (n := 0)).1, rfl⟩
  · have h' := of_decide_eq_true h'
    rw [infOf_out (by omega)]
    exact ⟨(inf_no (by simp [inB]; omega) (n := 0)).1, rfl⟩
  · have h := of_decide_eq_false h
    have h' := of_decide_eq_false h'
    obtain ⟨hl, e⟩ := infOf_in (V := s.V) (x := x) (by omega) (by omega)
    rw [e, show List.getD (SR s.V) (0 + Int.toNat x) [] = Inf.c s.V[x.toNat] by rw [Nat.zero_add, SR_get hl], show inB s.V x = true by simp [inB]; omega]
    refine ⟨⟨by omega, by omega⟩, ⟨by rw [SR_length]; omega, rfl, rfl⟩, .refl _, rfl⟩
/-- What a term's variable stands for; does it? -/
def valS (s : Sto) (t : Tm) : Tm := (infOf s.V t.n).v
def valB (s : Sto) (t : Tm) : Bool := t.k == 4 && (infOf s.V t.n).bd
theorem c_svalue (s : Sto) (t : Tm) : AC Try.prog 108 [aS 0, aT t] (oS s) (.tup [(true, cT (valS s t)), (false, [.a (.fz (.bool (valB s t)))])]) (oS s) := by
  have hi := c_sinfo s t.n
  obtain ⟨k, str, n, l⟩ := t
  refine AC.vc hP sh lv108 (Nat.le_refl _) (by simp [isLive]) (by simp) (Eq.mpr (v108 k str n (FTs l) ..) ?_)
  have out : inB s.V n = false → (infOf s.V n).bd = false := fun h => by
    rw [infOf_out (by simp [inB] at h; omega)]
  refine ⟨(_, _, _, _), hi, br_of (fun h => br_of (fun h' => ?_) (fun h' => ?_)) (fun h => ?_)⟩
  · refine ⟨?_, rfl⟩
    show TV.Le _ (.tup [(true, cT (infOf s.V n).v), (false, [.a (.fz (.bool (k == 4 && (infOf s.V n).bd)))])])
    rw [show (k == 4) = true from h]; exact .refl _
  · refine ⟨?_, rfl⟩
    show TV.Le _ (.tup [(true, cT (infOf s.V n).v), (false, [.a (.fz (.bool (k == 4 && (infOf s.V n).bd)))])])
    rw [out h', Bool.and_false]; exact .refl _
  · refine ⟨?_, rfl⟩
    show TV.Le _ (.tup [(true, cT (infOf s.V n).v), (false, [.a (.fz (.bool (k == 4 && (infOf s.V n).bd)))])])
    rw [show (k == 4) = false from h]; exact .refl _
/-- What variables may stand for. -/
def OKV (v : Tm) : Prop := validB v = true ∧ v.sz ≤ 4000 ∧ bd 2199023255552 v
def OKS (s : Sto) : Prop := ∀ i ∈ s.V, i.bd = true → OKV i.v
theorem OKS.val {s : Sto} (h : OKS s) {t : Tm} (hb : valB s t = true) : OKV (valS s t) := by
  simp only [valB, Bool.and_eq_true] at hb
  by_cases q : 0 ≤ t.n ∧ t.n < (s.V.length : Int)
  · obtain ⟨hl, e⟩ := infOf_in q.1 q.2
    rw [valS, e]
    rw [e] at hb
    exact h _ (List.getElem_mem hl) hb.2
  · rw [infOf_out q] at hb; simp [noI] at hb
/-- One step at the head: 0: there is none, 2: too large. -/
def stepS (s : Sto) (t : Tm) : Tm × Int :=
  if valB s t = true then (valS s t, 1) else if t.k ≠ 6 then (t, 0)
  else if valB s (hd t.l) = true then (applyF (valS s (hd t.l)) (t.l.drop 1), 1) else if (hd t.l).k ≠ 5 then (t, 0)
  else (applyF (conF (hd (hd t.l).l) (hd (t.l.drop 1))) (t.l.drop 2), if roomT (hd (hd t.l).l) (hd (t.l.drop 1)) = true then 1 else 2)
theorem stepS_n (s : Sto) (t : Tm) : (stepS s t).2 = 0 ∨ (stepS s t).2 = 1 ∨ (stepS s t).2 = 2 := by
  unfold stepS
  split
  · exact .inr (.inl rfl)
  · split
    · exact .inl rfl
    · split
      · exact .inr (.inl rfl)
      · split
        · exact .inl rfl
        · simp only; split
          · exact .inr (.inl rfl)
          · exact .inr (.inr rfl)
theorem take_nat (t : List (List FV)) : List.take (Int.toNat ((t.length : Nat) : Int)) t = t := by rw [Int.toNat_natCast, List.take_of_length_le (Nat.le_refl _)]
theorem aE0 (x : Tm) (l : List Tm) : aE (List.getD (FTs (x :: l)) 0 []) = aT x := aE_FT x
theorem aE1 (x y : Tm) (l : List Tm) : aE (List.getD (FTs (x :: y :: l)) 1 []) = aT y := aE_FT y
theorem asI0 (x : Tm) (l : List Tm) : FV.asI (List.getD (List.getD (FTs (x :: l)) 0 []) 0 FV.nils) = x.k := by cases x; rfl
theorem c_sstep (s : Sto) (hs : OKS s) (t : Tm) (hv : validB t = true) (hz : t.sz ≤ SZ) (hb : bd M61 t) : AC Try.prog 100 [aS 0, aT t] (oS s) (aSt (stepS s t).1 (stepS s t).2) (oS s) := by
  have h1 := c_svalue s t
  have ok := valid_ok t hv
  obtain ⟨k, str, n, l⟩ := t
  refine AC.vc hP sh lv100 (Nat.le_refl _) (by simp [isLive]) (by simp) (Eq.mpr (v100 k str n (FTs l) ..) ?_)
  refine ⟨(_, _), h1, br_of (fun h => ?_) (fun h => br_of (fun h6 => ?_) (fun h6 => ?_))⟩
  · have h : valB s (.mk k str n l) = true := h
    rw [stepS, if_pos h]; exact ⟨.refl _, rfl⟩
  · have h : valB s (.mk k str n l) = false := h
    have h6 : k ≠ 6 := by simpa using h6
    rw [stepS, if_neg (by rw [h]; simp), if_pos (show Tm.k (.mk k str n l) ≠ 6 from h6)]; exact ⟨.refl _, rfl⟩
  have h : valB s (.mk k str n l) = false := h
  have h6 : k = 6 := by simpa using h6
  obtain ⟨x, y, r, rfl, hx6, hl⟩ := okB6 ok h6
  simp only [okL, Bool.and_eq_true] at hl
  subst h6
  simp only [Tm.sz, Tm.szs, SZ] at hz
  have szr := Tm.szs_length r
  have bx := hb.2.1
  have by_ := hb.2.2.1
  have h2 := c_svalue s x
  have e1 : List.drop 1 (List.take (Int.toNat (((FTs (x :: y :: r)).length : Nat) : Int)) (FTs (x :: y :: r))) = FTs (y :: r) := by rw [take_nat]; rfl
  have e2 : List.drop 2 (List.take (Int.toNat (((FTs (x :: y :: r)).length : Nat) : Int)) (FTs (x :: y :: r))) = FTs r := by rw [take_nat]; rfl
  rw [e1, e2, aE0, aE1, asI0]
  have len : ∀ n : Nat, n ≤ 2 → ((n : Nat) : Int) ≤ (((FTs (x :: y :: r)).length : Nat) : Int) := fun n hn => by rw [FTs_length]; simp only [List.length_cons]; omega
  have hS : stepS s (.mk 6 str n (x :: y :: r)) = if valB s x = true then (applyF (valS s x) (y :: r), 1) else if x.k ≠ 5 then (.mk 6 str n (x :: y :: r), 0) else (applyF (conF (hd x.l) y) r, if roomT (hd x.l) y = true then 1 else 2) := by
    rw [stepS, if_neg (by rw [h]; simp), if_neg (show ¬ Tm.k (.mk 6 str n (x :: y :: r)) ≠ 6 from fun e => e rfl)]; rfl
  refine ⟨el0 x (y :: r), (_, _), h2, br_of (fun h3 => ⟨rfl, ⟨by omega, len 1 (by omega), Int.le_refl _⟩, _, c_apply (valS s x) (y :: r) ?_, ?_⟩) (fun h3 => ⟨el0 x (y :: r), br_of (fun h5 => ?_) (fun h5 => ?_)⟩)⟩
  · have h3 : valB s x = true := h3
    have hv := (hs.val h3).2.1
    have := Tm.szs_length (valS s x).l
    have := (valS s x).sz_eq
    simp only [List.length_cons]; omega
  · have h3 : valB s x = true := h3
    rw [hS, if_pos h3]; exact ⟨.refl _, rfl⟩
  · have h3 : valB s x = false := h3
    have h5 : x.k ≠ 5 := by simpa using h5
    rw [hS, if_neg (by rw [h3]; simp), if_pos h5]; exact ⟨.refl _, rfl⟩
  · have h3 : valB s x = false := h3
    have h5 : x.k = 5 := by simpa using h5
    rw [hS, if_neg (by rw [h3]; simp), if_neg (by rw [h5]; simp)]
    have hvl := kid_valid hv (.inr rfl)
    have vx := hvl x List.mem_cons_self
    have vy := hvl y (List.mem_cons_of_mem _ List.mem_cons_self)
    obtain ⟨xk, xs, xn, xl⟩ := x
    have h5 : xk = 5 := h5
    subst h5
    obtain ⟨b, rfl, ob⟩ := okB5 hl.1 rfl
    have vb := kid_valid vx (.inl rfl) b List.mem_cons_self
    simp only [Tm.sz, Tm.szs] at hz
    have hc := c_bcontract b y (by simp only [SZ]; omega) (by simp only [SZ]; omega) bx.2.1 by_
    rw [if_pos (by rw [vb, vy]; rfl)] at hc
    rw [show aE (List.getD (FV.ses (List.getD (List.getD (FTs (.mk 5 xs xn [b] :: y :: r)) 0 []) 3 FV.nils)) 0 []) = aT b from aE_FT b]
    refine ⟨el0 _ _, el0 b [], el1 _ _ _, (_, _), hc, rfl, ⟨by omega, len 2 (by omega), Int.le_refl _⟩, _, c_apply (conF b y) r ?_, ?_⟩
    · unfold conF
      split
      · rename_i hr
        have h5 := (room_sz ob hl.2.1 hr (by simp only [SZ]; omega)).1
        have hz := suT_sz 0 y b 0
        have h6 := Tm.szs_length (suT 0 y b 0).l
        have h7 := (suT 0 y b 0).sz_eq
        simp only [B] at h5
        omega
      · simp only [Tm.l, List.length_nil]; omega
    · refine ⟨?_, rfl⟩
      show TV.Le (.tup [(true, cT (applyF (conF b y) r)), (false, [.a (.fz (.bool true))]), (false, [.a (.fz (.int .i64 (conE b y)))])]) (aSt (applyF (conF b y) r) (if roomT b y = true then 1 else 2))
      unfold conE
      by_cases q : roomT b y = true
      · rw [if_pos q, if_pos q]; exact .refl _
      · rw [if_neg q, if_neg q]; exact .refl _

end Go.AM

set_option maxRecDepth 100000
open Go Go.Proofs
namespace Go.AM

theorem stepS_fit {F : Nat} {s : Sto} {t : Tm} (hs : OKS s) (hv : validB t = true) (hf : Fit (F + 1) t) (h : (stepS s t).2 = 1) : validB (stepS s t).1 = true ∧ Fit F (stepS s t).1 := by
  have hM : (2199023255552 : Int) ≤ M61 - SZ - SZ * F := by have := hf.2.2.2; simp only [M61, SZ]; omega
  have hval : ∀ u, valB s u = true → validB (valS s u) = true ∧ okB (valS s u) = true ∧ lvB (valS s u) = true ∧ (valS s u).sz ≤ 4000 ∧ bd (M61 - SZ - SZ * F) (valS s u) := fun u hu => by
    have := hs.val hu
    exact ⟨this.1, valid_ok _ this.1, valid_lv this.1, this.2.1, bd_le hM _ this.2.2⟩
  have hF := hf.2.1
  have hF4 := hf.2.2.2
  unfold stepS at h ⊢
  split
  · rename_i q
    obtain ⟨v1, v2, v3, v4, v5⟩ := hval _ q
    exact ⟨v1, v2, by simp only; omega, v5, by omega⟩
  rename_i q
  rw [if_neg q] at h
  split
  · rename_i q2; rw [if_pos q2] at h; simp at h
  rename_i q2
  rw [if_neg q2] at h
  have ok := valid_ok t hv
  obtain ⟨k, str, n, l⟩ := t
  have h6 : k = 6 := by
    by_cases e : k = 6
    · exact e
    · exact absurd e q2
  obtain ⟨x, y, r, rfl, hx6, hl⟩ := okB6 ok h6
  subst h6
  simp only [okL, Bool.and_eq_true] at hl
  have kv := kid_valid hv (.inr rfl)
  have hb := bd_le (M' := M61 - SZ - SZ * F) (by simp only [SZ]; omega) _ hf.2.2.1
  simp only [Tm.sz, Tm.szs] at hF
  have lvr : lvL r = true := lvL_of fun u hu => valid_lv (kv u (List.mem_cons_of_mem _ (List.mem_cons_of_mem _ hu)))
  have ey : Tm.l (.mk 6 str n (x :: y :: r)) = x :: y :: r := rfl
  have eh : hd (x :: y :: r) = x := rfl
  have e1 : List.drop 1 (x :: y :: r) = y :: r := rfl
  have e2 : List.drop 2 (x :: y :: r) = r := rfl
  have ehy : hd (y :: r) = y := rfl
  simp only [ey, eh, e1, e2, ehy] at h ⊢
  split
  · rename_i q3
    obtain ⟨v1, v2, v3, v4, v5⟩ := hval _ q3
    have ok2 : okB (applyF (valS s x) (y :: r)) = true := applyF_ok v2 (by simp only [okL, hl.2.1, hl.2.2, Bool.and_self])
    have lv2 : lvB (applyF (valS s x) (y :: r)) = true := applyF_lv v3 (by simp only [lvL, lvr, valid_lv (kv y (List.mem_cons_of_mem _ List.mem_cons_self)), Bool.and_self])
    have z := applyF_sz (valS s x) (y :: r)
    simp only [Tm.szs] at z
    refine ⟨by rw [valid_iff, ok2, lv2]; rfl, ok2, by simp only; omega, applyF_bd v5 (show bds _ (y :: r) from ⟨hb.2.2.1, hb.2.2.2⟩), by omega⟩
  rename_i q3
  rw [if_neg q3] at h
  split
  · rename_i q4; rw [if_pos q4] at h; simp at h
  rename_i q4
  rw [if_neg q4] at h
  obtain ⟨xk, xs, xn, xl⟩ := x
  have h5 : xk = 5 := by
    by_cases e : xk = 5
    · exact e
    · exact absurd e q4
  subst h5
  obtain ⟨b, rfl, ob⟩ := okB5 hl.1 rfl
  have room : roomT b y = true := by
    by_cases e : roomT b y = true
    · exact e
    · exfalso
      have h : (if roomT b y = true then (1 : Int) else 2) = 1 := h
      rw [if_neg e] at h; cases h
  have hst : stepF (.mk 6 str n (.mk 5 xs xn [b] :: y :: r)) = (applyF (suT 0 y b 0) r, 1) := by
    rw [stepF, if_pos (redex_mk str xs n xn b y r)]; exact if_pos room
  have e3 : conF (hd (Tm.l (.mk 5 xs xn [b]))) y = suT 0 y b 0 := by show conF b y = _; rw [conF, if_pos room]
  rw [e3]
  have hn := hf.next (by rw [hst])
  have hlv := stepF_lv (M61 - SZ - SZ * ((F + 1 : Nat) : Int)) (by simp only [M61, SZ]; omega) _ ok hf.sz hf.2.2.1 (valid_lv hv) (by rw [hst])
  rw [hst] at hn hlv
  exact ⟨by rw [valid_iff, hn.1, hlv]; rfl, hn⟩
/-- All steps at the head: the term, what is wrong, how many. -/
def runH (s : Sto) : Nat → Tm → Tm × Int × Nat
  | 0, t => if (stepS s t).2 = 0 then (t, 0, 0) else (noT, 80, 0)
  | F + 1, t => if (stepS s t).2 = 0 then (t, 0, 0) else if (stepS s t).2 = 2 then (noT, 80, 0) else ((runH s F (stepS s t).1).1, (runH s F (stepS s t).1).2.1, (runH s F (stepS s t).1).2.2 + 1)
theorem runH_fit {s : Sto} (hs : OKS s) : ∀ {F : Nat} {t : Tm}, validB t = true → Fit F t → (runH s F t).2.2 ≤ F ∧ ((runH s F t).2.1 = 0 ∧ validB (runH s F t).1 = true ∧ Fit (F - (runH s F t).2.2) (runH s F t).1 ∧ (stepS s (runH s F t).1).2 = 0 ∨ (runH s F t).2.1 = 80 ∧ (runH s F t).1 = noT)
  | 0, t, hv, hf => by
    rw [runH]
    split
    · rename_i h; exact ⟨Nat.le_refl _, .inl ⟨rfl, hv, hf, h⟩⟩
    · exact ⟨Nat.le_refl _, .inr ⟨rfl, rfl⟩⟩
  | F + 1, t, hv, hf => by
    rw [runH]
    split
    · rename_i h; exact ⟨Nat.zero_le _, .inl ⟨rfl, hv, hf, h⟩⟩
    · rename_i h0
      split
      · exact ⟨Nat.zero_le _, .inr ⟨rfl, rfl⟩⟩
      · rename_i h2
        have h1 : (stepS s t).2 = 1 := by rcases stepS_n s t with q | q | q; · exact absurd q h0
                                          · exact q
                                          · exact absurd q h2
        obtain ⟨v, f⟩ := stepS_fit hs hv hf h1
        have := runH_fit hs v f
        refine ⟨by simp only; omega, ?_⟩
        rcases this.2 with ⟨a, b, c, d⟩ | ⟨a, b⟩
        · exact .inl ⟨a, b, by simp only; rw [show F + 1 - ((runH s F (stepS s t).1).2.2 + 1) = F - (runH s F (stepS s t).1).2.2 by omega]; exact c, d⟩
        · exact .inr ⟨a, b⟩
theorem l_shead (s : Sto) (hs : OKS s) : ∀ (F : Nat) (f : Int) (t : Tm), f.toNat = F → 0 - 9223372036854775808 ≤ f → validB t = true → Fit F t →
    RPt Try.prog 80 4 (aTE (runH s F t).1 (runH s F t).2.1) (oSf s (f - ((runH s F t).2.2 : Int))) 1
      ⟨[(0, aS 0), (2, .c (.a (.ep 3 1 0 0))), (4, .c (.a (.ep 4 4 0 0))), (6, .c (.a (.ep 5 4 0 0)))], [(0, sto2 1 2 s), (1, .arz 6 (SR s.V)), (2, .arz 1 (IR s.T)), (3, obj1 f), (4, .arr 4 [cT t]), (5, .arr 4 [zT])], 6⟩ := by
  intro F
  induction F with
  | zero =>
    intro f t hf hf0 hv hfit
    have hc := c_sstep s hs t hv hfit.sz hfit.bd
    have hr : runH s 0 t = if (stepS s t).2 = 0 then (t, 0, 0) else (noT, 80, 0) := rfl
    rw [hr]
    obtain ⟨k, str, n, l⟩ := t
    refine RPt.vc hP sh lv80 (Eq.mpr (v80_1a s.V.length s.T.length (SR s.V) (IR s.T) f k str n (FTs l) 0 [] 0 _ _) ?_)
    refine ⟨(_, _, _), hc, br_of (fun h => ?_) (fun h => br_of (fun h2 => ?_) (fun h2 => br_of (fun h3 => ?_) (fun h3 => absurd (of_decide_eq_false h3) (by omega))))⟩
    · have h : (stepS s (.mk k str n l)).2 = 0 := by have h : (!((stepS s (.mk k str n l)).2 != 0)) = true := h; simpa using h
      rw [if_pos h]
      exact ⟨.refl _, by simp⟩
    · have h : ¬ (stepS s (.mk k str n l)).2 = 0 := by have h : (!((stepS s (.mk k str n l)).2 != 0)) = false := h; simpa using h
      rw [if_neg h]
      exact ⟨leTE (l := []) leNil, by simp⟩
    · have h : ¬ (stepS s (.mk k str n l)).2 = 0 := by have h : (!((stepS s (.mk k str n l)).2 != 0)) = false := h; simpa using h
      rw [if_neg h]
      exact ⟨leTE (l := []) leNil, by simp⟩
  | succ F ih =>
    intro f t hf hf0 hv hfit
    have hc := c_sstep s hs t hv hfit.sz hfit.bd
    have hr : runH s (F + 1) t = if (stepS s t).2 = 0 then (t, 0, 0) else if (stepS s t).2 = 2 then (noT, 80, 0) else ((runH s F (stepS s t).1).1, (runH s F (stepS s t).1).2.1, (runH s F (stepS s t).1).2.2 + 1) := rfl
    rw [hr]
    have hF4 := hfit.2.2.2
    have next : ¬ (stepS s t).2 = 0 → ¬ (stepS s t).2 = 2 → _ := fun h0 h2 => by
      have h1 : (stepS s t).2 = 1 := by rcases stepS_n s t with q | q | q; · exact absurd q h0
                                        · exact q
                                        · exact absurd q h2
      obtain ⟨v, ff⟩ := stepS_fit hs hv hfit h1
      exact ih (f - 1) (stepS s t).1 (by omega) (by omega) v ff
    obtain ⟨k, str, n, l⟩ := t
    refine RPt.vc hP sh lv80 (Eq.mpr (v80_1a s.V.length s.T.length (SR s.V) (IR s.T) f k str n (FTs l) 0 [] 0 _ _) ?_)
    rw [w64 (x := f - 1) (by omega) (by omega)]
    refine ⟨(_, _, _), hc, br_of (fun h => ?_) (fun h => br_of (fun h2 => ?_) (fun h2 => br_of (fun h3 => absurd (of_decide_eq_true h3) (by omega)) (fun h3 => ?_)))⟩
    · have h : (stepS s (.mk k str n l)).2 = 0 := by have h : (!((stepS s (.mk k str n l)).2 != 0)) = true := h; simpa using h
      rw [if_pos h]
      exact ⟨.refl _, by simp⟩
    · have h : ¬ (stepS s (.mk k str n l)).2 = 0 := by have h : (!((stepS s (.mk k str n l)).2 != 0)) = false := h; simpa using h
      have h2 : (stepS s (.mk k str n l)).2 = 2 := by
        by_cases q : (stepS s (.mk k str n l)).2 = 2
        · exact q
        · have h2 : ((if (stepS s (.mk k str n l)).2 = 2 then (80 : Int) else 0) != 0) = true := h2
          rw [if_neg q] at h2; cases h2
      rw [if_neg h, if_pos h2]
      exact ⟨leTE (l := []) leNil, by simp⟩
    · have h : ¬ (stepS s (.mk k str n l)).2 = 0 := by have h : (!((stepS s (.mk k str n l)).2 != 0)) = false := h; simpa using h
      have h2 : ¬ (stepS s (.mk k str n l)).2 = 2 := fun q => by
        have h2 : ((if (stepS s (.mk k str n l)).2 = 2 then (80 : Int) else 0) != 0) = false := h2
        rw [if_pos q] at h2; cases h2
      rw [if_neg h, if_neg h2]
      have := next h h2
      rw [show f - 1 - (((runH s F (stepS s (.mk k str n l)).1).2.2 : Nat) : Int) = f - (((runH s F (stepS s (.mk k str n l)).1).2.2 + 1 : Nat) : Int) by omega] at this
      exact this
theorem c_shead (s : Sto) (hs : OKS s) (F : Nat) (f : Int) (t : Tm) (hF : f.toNat = F) (h0 : 0 - 9223372036854775808 ≤ f) (hv : validB t = true) (hf : Fit F t) :
    AC Try.prog 80 [aS 0, aT t, .c (.a (.ep 3 1 0 0))] (oSf s f) (aTE (runH s F t).1 (runH s F t).2.1) (oSf s (f - ((runH s F t).2.2 : Int))) := by
  have h := l_shead s hs F f t hF h0 hv hf
  obtain ⟨k, str, n, l⟩ := t
  exact AC.vc hP sh lv80 (Nat.le_refl _) (by simp [isLive]) (by simp) (Eq.mpr (v80 k str n (FTs l) ..) h)
/-- Head: the term, what is left, what is wrong. -/
def headV (s : Sto) (f : Int) (t : Tm) : Tm × Int × Int :=
  if validB t = true then (if (runH s f.toNat t).2.1 = 0 then ((runH s f.toNat t).1, f - ((runH s f.toNat t).2.2 : Int), 0) else (noT, 0, (runH s f.toNat t).2.1)) else (noT, 0, 1)
abbrev aHd (z : Tm × Int × Int) : TV := .tup [(true, cT z.1), (false, [.a (.fz (.int .i64 z.2.1))]), (false, [.a (.fz (.int .i64 z.2.2))])]
theorem leHd {k n a e : Int} {s : List UInt8} {x : FV} {l : List Tm} (h : FV.Le x (.sl false 4 (FTs l))) : TV.Le (.tup [(true, [.a (.fz (.int .i64 k)), .a (.fz (.str s)), .a (.fz (.int .i64 n)), .a (.fz x)]), (false, [.a (.fz (.int .i64 a))]), (false, [.a (.fz (.int .i64 e))])]) (aHd (.mk k s n l, a, e)) :=
  le_tup ⟨lwT h, lwR _, lwR _, trivial⟩
theorem c_srun_head (s : Sto) (hs : OKS s) (f : Int) (t : Tm) (h0 : 0 - 9223372036854775808 ≤ f) (hz : t.sz ≤ B) (hf : validB t = true → Fit f.toNat t) :
    AC Try.prog 54 [aT t, ci f, .c (.fn (.func 80) [(false, [.ep 0 2 0 0])] [])] (oS s) (aHd (headV s f t)) (oS s) := by
  -- for 87
  have h1 := c_valid t hz
  have h2 := fun hv => c_shead s hs f.toNat f t rfl h0 hv (hf hv)
  have h3 := fun hv => runH_fit hs hv (hf hv)
  have hV : headV s f t = if validB t = true then (if (runH s f.toNat t).2.1 = 0 then ((runH s f.toNat t).1, f - ((runH s f.toNat t).2.2 : Int), 0) else (noT, 0, (runH s f.toNat t).2.1)) else (noT, 0, 1) := rfl
  rw [hV]
  obtain ⟨k, str, n, l⟩ := t
  refine AC.vc hP sh lv54 (Nat.le_refl _) (by simp [isLive]) (by simp) (Eq.mpr (v54_F80 k str n (FTs l) ..) ?_)
  refine ⟨_, h1, br_of (fun h => ?_) (fun h => ⟨(_, _, _), h2 (by simpa using h), br_of (fun h' => ?_) (fun h' => ?_)⟩)⟩
  · rw [if_neg (by simpa using h)]; exact ⟨leHd (l := []) leNil, rfl⟩
  · have h : validB (.mk k str n l) = true := by simpa using h
    have h' : ((runH s f.toNat (.mk k str n l)).2.1 != 0) = true := h'
    rw [if_pos h, if_neg (by simpa using h')]; exact ⟨leHd (l := []) leNil, rfl⟩
  · have h : validB (.mk k str n l) = true := by simpa using h
    have h' : ((runH s f.toNat (.mk k str n l)).2.1 != 0) = false := h'
    rw [if_pos h, if_pos (by simpa using h')]; exact ⟨.refl _, rfl⟩
theorem c_sHead (s : Sto) (hs : OKS s) (f : Int) (t : Tm) (h0 : 0 - 9223372036854775808 ≤ f) (hz : t.sz ≤ B) (hf : validB t = true → Fit f.toNat t) : AC Try.prog 87 [aS 0, aT t, ci f] (oS s) (aHd (headV s f t)) (oS s) := by
  have h := c_srun_head s hs f t h0 hz hf
  obtain ⟨k, str, n, l⟩ := t
  refine AC.vc hP sh lv87 (Nat.le_refl _) (by simp [isLive]) (by simp) (Eq.mpr (v87 k str n (FTs l) ..) ?_)
  exact ⟨(_, _, _), h, .refl _, rfl⟩
theorem stepS_sz {F : Nat} {s : Sto} {t : Tm} (hs : OKS s) (hv : validB t = true) (hf : Fit (F + 1) t) (h : (stepS s t).2 = 1) : (stepS s t).1.sz ≤ t.sz + 4200 := by
  unfold stepS at h ⊢
  split
  · rename_i q
    have := (hs.val q).2.1
    simp only; omega
  rename_i q
  rw [if_neg q] at h
  split
  · rename_i q2; rw [if_pos q2] at h; simp at h
  rename_i q2
  rw [if_neg q2] at h
  have ok := valid_ok t hv
  obtain ⟨k, str, n, l⟩ := t
  have h6 : k = 6 := by
    by_cases e : k = 6
    · exact e
    · exact absurd e q2
  obtain ⟨x, y, r, rfl, hx6, hl⟩ := okB6 ok h6
  subst h6
  simp only [okL, Bool.and_eq_true] at hl
  have ey : Tm.l (.mk 6 str n (x :: y :: r)) = x :: y :: r := rfl
  have eh : hd (x :: y :: r) = x := rfl
  have e1 : List.drop 1 (x :: y :: r) = y :: r := rfl
  have e2 : List.drop 2 (x :: y :: r) = r := rfl
  have ehy : hd (y :: r) = y := rfl
  simp only [ey, eh, e1, e2, ehy] at h ⊢
  split
  · rename_i q3
    have v4 := (hs.val q3).2.1
    have z := applyF_sz (valS s x) (y :: r)
    have zx := x.sz_pos
    simp only [Tm.szs, Tm.sz] at z ⊢
    omega
  rename_i q3
  rw [if_neg q3] at h
  split
  · rename_i q4; rw [if_pos q4] at h; simp at h
  rename_i q4
  rw [if_neg q4] at h
  obtain ⟨xk, xs, xn, xl⟩ := x
  have h5 : xk = 5 := by
    by_cases e : xk = 5
    · exact e
    · exact absurd e q4
  subst h5
  obtain ⟨b, rfl, ob⟩ := okB5 hl.1 rfl
  have room : roomT b y = true := by
    by_cases e : roomT b y = true
    · exact e
    · exfalso
      have h : (if roomT b y = true then (1 : Int) else 2) = 1 := h
      rw [if_neg e] at h; cases h
  have hst : stepF (.mk 6 str n (.mk 5 xs xn [b] :: y :: r)) = (applyF (suT 0 y b 0) r, 1) := by
    rw [stepF, if_pos (redex_mk str xs n xn b y r)]; exact if_pos room
  have e3 : conF (hd (Tm.l (.mk 5 xs xn [b]))) y = suT 0 y b 0 := by show conF b y = _; rw [conF, if_pos room]
  rw [e3]
  have := (stepF_fit M61 (by simp only [M61]; omega) _ hf.ok hf.sz hf.bd (by rw [hst])).2.1
  rw [hst] at this
  exact this

/-! ### Head and arguments, a slice of one's own -/
def splitF (t : Tm) : Tm × List Tm := if t.k = 6 ∧ validB t = true then (hd t.l, t.l.drop 1) else (t, [])
theorem c_csplitN (t : Tm) (hz : t.sz ≤ B) (h : ¬ (t.k = 6 ∧ validB t = true)) : AC Try.prog 88 [aT t] [] (.tup [(true, cT t), (false, [.a (.fz .nils)])]) [] := by
  have h1 := c_valid t hz
  obtain ⟨k, str, n, l⟩ := t
  refine AC.vc hP sh lv88 (Nat.le_refl _) (by simp) (by simp) (Eq.mpr (v88 k str n (FTs l) _ _) ?_)
  refine br_of (fun _ => ⟨.refl _, rfl⟩) (fun h6 => ⟨_, h1, br_of (fun _ => ⟨.refl _, rfl⟩) (fun h' => absurd ⟨?_, ?_⟩ h)⟩)
  · have h6 : (k != 6) = false := h6
    show k = 6
    simpa using h6
  · simpa using h'
theorem c_csplitO (t : Tm) (hz : t.sz ≤ B) (h6 : t.k = 6) (hv : validB t = true) : AC Try.prog 88 [aT t] [] (.tup [(true, cT (hd t.l)), (false, [.a (.osl 0 4 0 (t.l.drop 1).length)])]) [.arz 4 (FTs (t.l.drop 1))] := by
  have h1 := c_valid t hz
  have hlen := Tm.szs_length t.l
  have hsz := t.sz_eq
  obtain ⟨k, str, n, l⟩ := t
  have h6 : k = 6 := h6
  subst h6
  obtain ⟨x, y, r, rfl, hx6, hl⟩ := okB6 (valid_ok _ hv) rfl
  simp only [Tm.l, List.length_cons, B] at hlen hsz hz
  have hcl := c_clone.1 (FTs (y :: r)) (by simp [FTs]) (by rw [FTs_length]; simp only [List.length_cons, B]; omega)
  have e1 : List.drop 1 (List.take (Int.toNat (((FTs (x :: y :: r)).length : Nat) : Int)) (FTs (x :: y :: r))) = FTs (y :: r) := by rw [take_nat]; rfl
  refine AC.vc hP sh lv88 (by simp) (by simp) (by simp [isLive]) (Eq.mpr (v88 6 str n (FTs (x :: y :: r)) _ _) ?_)
  rw [e1]
  refine br_of (fun h => by cases h) (fun _ => ⟨_, h1, br_of (fun h' => absurd hv (by simpa using h')) (fun _ => ?_)⟩)
  refine ⟨el0 x (y :: r), rfl, ⟨by omega, by rw [FTs_length]; simp only [List.length_cons]; omega, Int.le_refl _⟩, .inr ⟨_, hcl, ?_, rfl⟩⟩
  rw [show cE (List.getD (FTs (x :: y :: r)) 0 []) = cT x from cE_FT x, FTs_length]
  exact .refl _

end Go.AM
